/- No condition but those of each theorem. -/
import Derived.Test.YtadnagdgimicdaaGreatDoorProg
import Derived.WalkKit
import Derived.Deep.LoopGhost
import Derived.KernelRfl
import Derived.OrdersHeld
import Derived.OrdersIn
import Derived.LoopNIn
import Derived.Sort.LoopGhostIn
import Derived.Laws.AppendOwn
import Derived.RangeFuncLeaves
import Derived.RangeFuncRecord
import Derived.MapKept
import Derived.Maps.RangeRun
import Derived.ChangeKeysEq
import Derived.HandedShaped
import Derived.ChangeStays
import Derived.ChangeSame
import Derived.OpenShut
import Derived.WideShapes
import Derived.JoinedOf
import Derived.ReadAgain
import Derived.ChangeAt
import Derived.RowKit
import Derived.Lib.Overlaps
import Derived.Shelf.SlSortCmp.NoneTotal
import Derived.WalkSmall
import Derived.Recover
import Derived.Test.YtadnagdgimicdaaGreatDoorK3b1
namespace Go.Proofs.YtadnagdgimicdaaGreatDoor
section
open Go Go.Dc
set_option maxHeartbeats 4000000
set_option maxRecDepth 100000
variable {N bp0 c1 c2 c3 c4:Nat} {m:Mem} {O:List Piece} {w:World} {a1 a2 a3 a4:Option Addr}
def qDa(N:Nat)(p0:T1o)(p1:T1i)(p2:Tg):Option (T1q×Int×Tb):=
 (qCm N (p0.1,p0.2.1,p0.2.2.1,p0.2.2.2.1,p0.2.2.2.2.1,p0.2.2.2.2.2.1,p0.2.2.2.2.2.2.1,p0.2.2.2.2.2.2.2) p1 p2).bind fun y1=>(match y1 with| .inl z1=>some (z1.2,(3,0,z1.1))| .inr y2=>if(y2.2==0)=true then(some (y2.1,(2,0,0))) else(some (y2.1,(1,y2.2,0))))
theorem qJd{p0:T1o}{p1:T1i}{p2:Tg}{bw1:Nat}{q1:Tf}{es1:Array MapEntry}{ck1:Nat}{q2:Tf}{es2:Array MapEntry}{ck2:Nat}{q3:Tf}{es3:Array MapEntry}{ck3:Nat}{q4:Tf}{es4:Array MapEntry}{ck4:Nat}{r:T1q×Int×Tb}(g:St m (qAb q1 es1 ck1::qAb q2 es2 ck2::kB bw1 #[vS a1 p0.1.1 c1,vB p0.1.2.1,.map q1,vS a2 p0.1.2.2.2.1 c2,.map q2] 55::qAb q3 es3 ck3::qAb q4 es4 ck4::kB bp0 #[vP bw1 0,vS a3 p0.2.1 c3,.int .u64 p0.2.2.1,.map q3,vI p0.2.2.2.2.1,vI p0.2.2.2.2.2.1,vB p0.2.2.2.2.2.2.1,.map q4] 91::O) w)(r1:RepS C1 m a1 c1 p0.1.1)(r2:MapQ (fun s:ByteArray=>Value.string s) C6 true m q1 es1 ck1 p0.1.2.2.1)(r3:RepS cStr m a2 c2 p0.1.2.2.2.1)(r4:MapQ qAz C7 true m q2 es2 ck2 p0.1.2.2.2.2)(r5:RepS C8 m a3 c3 p0.2.1)(r6:MapQ qAz qBv false m q3 es3 ck3 p0.2.2.2.1)(r7:MapQ (fun n:Int=>Value.int .i64 n) cFn false m q4 es4 ck4 p0.2.2.2.2.2.2.2)(r8:RepS (cInt .i64) m a4 c4 p2)(hr:qDa N p0 p1 p2=some r):Calls Tryz.prog 35 #[vP bp0 0,.agg (Vd p1),vS a4 p2 c4] w fun e w'=>∃re1 rk1 m',e= .returned (.agg (Vf r.2))/\m.le m'/\St m' (qAb q1 es1 ck1::qAb q2 es2 ck2::kB bw1 #[vS a1 p0.1.1 c1,vB p0.1.2.1,.map q1,vS a2 p0.1.2.2.2.1 c2,.map q2] 55::qAb q3 re1 rk1::qAb q4 es4 ck4::kB bp0 #[vP bw1 0,vS a3 p0.2.1 c3,.int .u64 p0.2.2.1,.map q3,vI r.1.2.1,vI r.1.2.2.1,vB r.1.2.2.2,.map q4] 91::O) w'/\MapQ qAz qBv false m' q3 re1 rk1 r.1.1:=by
 unfold qDa at hr;have q:=m.le_refl;refine qSm Tryz.func35 rfl Tryz.ntmps35 [(0,vP bp0 0),(1,.agg (Vd p1)),(2,vS a4 p2 c4)] kr rfl ?_;refine qPi ?_;refine qAs (qAa rfl (qDd 4 60 1 (.agg (Vd p1)) g fun b1 m1 w1 e1 g hb1=> ?_));have q:=q.t e1;refine qAa rfl (qBn 6 29 (.agg (Vg 0 0 0)) g fun b2 w2 g=>(qBa rfl (qNg (qPi (qAs (qAd 1 [(8,.func (.func 53) #[] #[vP b2 0])] (qSr ({target:= .fn (.func 53) #[vP b2 0],args:= #[]}) kr kr (qBa rfl (qNg (W_sr (qAd 1 [(9,vP bp0 0)] (qEo 10 60 4 0 (.agg (Vd p1)) g hb1 (qAd 1 [(11,vS a4 p2 c4)] (qBb 12 hr (fun _ h=>qJz (p0:=(p0.1,p0.2.1,p0.2.2.1,p0.2.2.2.1,p0.2.2.2.2.1,p0.2.2.2.2.2.1,p0.2.2.2.2.2.2.1,p0.2.2.2.2.2.2.2)) (p1:=p1) g.f6.f6.f6.f6.f6.f6 (r1.mono e1) (r2.mono e1) (r3.mono e1) (r4.mono e1) (r5.mono e1) (r6.mono e1) (r7.mono e1) (r8.mono e1) h) ?_))))))))))))));rintro y1 hr _ w3 (⟨z1,es6,ck6,m3,rfl,rfl,e3,g,r10⟩|⟨y2,rfl,es5,ck5,m2,rfl,e2,g,r9⟩)
 .refine qAc ?_;refine qWp [.cell 6 29] rfl (qKl Tryz.func53 kr) ?_;refine qKn (.panicking [{v:= .iface 125 (.agg #[vI z1.1]),recovered:=false}]) Tryz.func53 rfl Tryz.ntmps53 [(0,vP b2 0)] kr rfl (d:=4) kr kr [(1,.iface 125 (.agg #[vI z1.1])),(4,.iface 125 (.agg #[vI z1.1])),(0,vP b2 0)] (.iface 125 (.agg #[vI z1.1])) (.panicking [{v:= .iface 125 (.agg #[vI z1.1]),recovered:=true}]) rfl kr ?_;refine W_sr (qAh 2 [(6,vB true)] (qHs true kr ?_ (fun h=>Bool.noConfusion h)));intro _;refine W_sr (qAd 5 [(10,.agg #[vI z1.1]),(11,vB true)] (qAa rfl (qBn 2 125 (.agg #[vI 0]) g fun b3 w5 g=>(qAa rfl (qAw 125 2 10 (.agg #[vI z1.1]) g fun w6 g=>(qAh 1 [(3,vB true)] (qAt (W_sr (qAh 2 [(13,vB false)] (qHs false kr (fun h=>Bool.noConfusion h) ?_))))))))));intro _;refine qAq (qAj (qAs (qCc 1 16 27 15 0 (vI z1.1) g.h (qAd 1 [(17,.agg (Vg 3 0 z1.1))] (qAa rfl (qAw 29 0 17 (.agg (Vg 3 0 z1.1)) g.f7 fun w7 g=>(qBa rfl ?_)))))));cases hr;refine qKh [] [] rfl ResAll.nil (⟨_,rfl,?_⟩);refine⟨[.agg (Vg 3 0 z1.1)],(ResAll.cons (ResAt.blk (v:= .agg (Vg 3 0 z1.1)) (o:=0) kr g.h kr) ResAll.nil),?_⟩;exact⟨es6,ck6,m3,rfl,q.t e3,g.t.t.f5.f5.f5.f5.f5.f5,r10⟩
 refine qAh 1 [(7,vI y2.2)] (qAt (W_sr (qAh 2 [(14,vB (y2.2==0))] (W_if hr ?_ ?_))))
 .intro A hr;refine W_sr (qAd 1 [(15,.agg (Vg 2 0 0))] (qAa rfl (qAw 29 6 15 (.agg (Vg 2 0 0)) g.f6 fun w8 g=>(WO_e (qBc (qAi (qVe [.cell 6 29] rfl (qKl Tryz.func53 kr) (qKn .returning Tryz.func53 rfl Tryz.ntmps53 [(0,vP b2 0)] kr rfl (d:=4) kr kr [(1,.nilIface),(4,.nilIface),(0,vP b2 0)] (.nilIface) .returning rfl kr (W_sr (qAh 2 [(6,vB false)] (qHs false kr (fun h=>Bool.noConfusion h) ?_)))))))))));intro _;refine qAq ?_;cases hr;refine qKh [] [] rfl ResAll.nil (⟨_,rfl,?_⟩);refine⟨[.agg (Vg 2 0 0)],(ResAll.cons (ResAt.blk (v:= .agg (Vg 2 0 0)) (o:=0) kr g.h kr) ResAll.nil),?_⟩;exact⟨es5,ck5,m2,rfl,q.t e2,g.t.f5.f5.f5.f5.f5.f5,r9⟩
 intro A hr;refine qAq (qAj (W_sr (qAd 2 [(17,.agg (Vg 1 y2.2 0))] (qAa rfl (qAw 29 6 17 (.agg (Vg 1 y2.2 0)) g.f6 fun w9 g=>(WO_e (qBc (qVe [.cell 6 29] rfl (qKl Tryz.func53 kr) (qKn .returning Tryz.func53 rfl Tryz.ntmps53 [(0,vP b2 0)] kr rfl (d:=4) kr kr [(1,.nilIface),(4,.nilIface),(0,vP b2 0)] (.nilIface) .returning rfl kr (W_sr (qAh 2 [(6,vB false)] (qHs false kr (fun h=>Bool.noConfusion h) ?_))))))))))));intro _;refine qAq ?_;cases hr;refine qKh [] [] rfl ResAll.nil (⟨_,rfl,?_⟩);refine⟨[.agg (Vg 1 y2.2 0)],(ResAll.cons (ResAt.blk (v:= .agg (Vg 1 y2.2 0)) (o:=0) kr g.h kr) ResAll.nil),?_⟩;exact⟨es5,ck5,m2,rfl,q.t e2,g.t.f5.f5.f5.f5.f5.f5,r9⟩
def qGr(N:Nat)(p0:Int):T5:=
 some (p0 !=p0)
theorem qLd{p0:Int}{r:Bool}(g:St m (O) w)(hr:qGr N p0=some r):Calls Tryz.prog 84 #[vI p0] w fun e w'=>∃m',e= .returned (vB r)/\m.le m'/\St m' (O) w':=by
 unfold qGr at hr;have q:=m.le_refl;refine W_cA Tryz.func84 rfl Tryz.ntmps84 ?_;refine W_sr (qAh 1 [] (W_sr (qAh 4 [(2,vB (p0 !=p0))] (qBc ?_))));cases hr;exact X_rt [2] [vB (p0 !=p0)] ⟨m,rfl,q,g⟩
def qGn(N:Nat)(p0:Int)(p1:Int):T4:=
 (qGr N p0).bind fun y1=>(qGr N p1).bind fun y2=>if y1=true then(if y2=true then(some 0) else(some (-1))) else(if y2=true then(some 1) else(if(decide (p0<p1))=true then(some (-1)) else(if(decide (p0>p1))=true then(some 1) else(some 0))))
theorem qMu{p0:Int}{p1:Int}{r:Int}(g:St m (O) w)(hr:qGn N p0 p1=some r):Calls Tryz.prog 57 #[vI p0,vI p1] w fun e w'=>∃m',e= .returned (vI r)/\m.le m'/\St m' (O) w':=by
 unfold qGn at hr;have q:=m.le_refl;refine W_cA Tryz.func57 rfl Tryz.ntmps57 ?_;refine W_sr (qAh 1 [] (W_sr (qAd 1 [(7,vI p0)] (qBe 8 hr (fun _ h=>qLd g h) ?_))));rintro y1 hr _ w1 ⟨m1,rfl,e1,g⟩;refine qAh 1 [(5,vB y1)] (W_sr (qAd 1 [(9,vI p1)] (qBe 10 hr (fun _ h=>qLd g h) ?_)));rintro y2 hr _ w2 ⟨m2,rfl,e2,g⟩;have q:=(q.t e1).t e2;refine qAh 1 [(6,vB y2)] (qAt (W_sr (qAh 1 [(11,vB y1)] (W_if hr ?_ ?_))))
 .intro A hr;refine qAt (W_sr (qAh 1 [(12,vB y2)] (W_if hr ?_ ?_)))
  .intro A hr;refine W_sr (qAh 1 [(4,vI 0)] (qBc (qAi (qAi ?_))));cases hr;exact X_rt [4] [vI 0] ⟨m2,rfl,q,g⟩
  intro A hr;refine qAq (qAj (W_sr (qAh 1 [(4,vI (-1))] (qBc (qAi ?_)))));cases hr;exact X_rt [4] [vI (-1)] ⟨m2,rfl,q,g⟩
 intro A hr;refine qAq (qAj (qAt (W_sr (qAh 1 [(13,vB y2)] (W_if hr ?_ ?_)))))
 .intro A hr;refine W_sr (qAh 1 [(4,vI 1)] (qBc (qAi ?_)));cases hr;exact X_rt [4] [vI 1] ⟨m2,rfl,q,g⟩
 intro A hr;refine qAq (qAj (qAt (W_sr (qAh 3 [(16,vB (decide (p0<p1)))] (W_if hr ?_ ?_)))))
 .intro A hr;refine W_sr (qAh 1 [(4,vI (-1))] (qBc (qAi ?_)));cases hr;exact X_rt [4] [vI (-1)] ⟨m2,rfl,q,g⟩
 intro A hr;refine qAq (qAj (qAt (W_sr (qAh 3 [(19,vB (decide (p0>p1)))] (W_if hr ?_ ?_)))))
 .intro A hr;refine W_sr (qAh 1 [(4,vI 1)] (qBc (qAi ?_)));cases hr;exact X_rt [4] [vI 1] ⟨m2,rfl,q,g⟩
 intro A hr;refine qAq (qAj (W_sr (qAh 1 [(4,vI 0)] (qBc ?_))));cases hr;exact X_rt [4] [vI 0] ⟨m2,rfl,q,g⟩
def qDg(N:Nat)(p0:ByteArray)(p1:ByteArray):T4:=
 some (cmpS p0 p1)
theorem qHq{p0:ByteArray}{p1:ByteArray}{r:Int}(g:St m (O) w)(hr:qDg N p0 p1=some r):Calls Tryz.prog 85 #[vT p0,vT p1] w fun e w'=>∃m',e= .returned (vI r)/\m.le m'/\St m' (O) w':=by
 unfold qDg at hr;have q:=m.le_refl;refine W_cA Tryz.func85 rfl Tryz.ntmps85 ?_;refine W_sr (qAh 1 [] (W_sr (qAd 2 [(5,vT p0),(6,vT p1)] (qAa rfl (qTm (d:=7) (f:=103) (x:=(.tmp 5)) (y:=(.tmp 6)) (ts:= #[9,9]) kr rfl (ev (vT p0)) (ev (vT p1)) Tryz.func103 kr kr (qAh 1 [(4,vI (cmpS p0 p1))] (qBc ?_)))))));cases hr;exact X_rt [4] [vI (cmpS p0 p1)] ⟨m,rfl,q,g⟩
def qFq(N:Nat)(p0:ByteArray)(p1:ByteArray):T4:=
 (qDg N p0 p1).bind fun y1=>some y1
theorem qJk{p0:ByteArray}{p1:ByteArray}{r:Int}(g:St m (O) w)(hr:qFq N p0 p1=some r):Calls Tryz.prog 58 #[vT p0,vT p1] w fun e w'=>∃m',e= .returned (vI r)/\m.le m'/\St m' (O) w':=by
 unfold qFq at hr;have q:=m.le_refl;refine W_cA Tryz.func58 rfl Tryz.ntmps58 ?_;refine W_sr (qAh 1 [] (W_sr (qAd 2 [(5,vT p0),(6,vT p1)] (qBe 7 hr (fun _ h=>qHq g h) ?_))));rintro y1 hr _ w1 ⟨m1,rfl,e1,g⟩;refine qAh 1 [(4,vI y1)] (qBc ?_);obtain rfl:=sI hr;exact X_rt [4] [vI y1] ⟨m1,rfl,q.t e1,g⟩
def qIn(N:Nat)(p0:Tg)(s1:Int):Option (Int⊕Unit⊕Int):=
 if(decide (s1<(List.length p0:Int)))=true then((idx p0 s1).bind fun x1=>if(x1 !=0)=true then(some (.inr (.inr (x1)))) else(some (.inl (IntKind.wrap .i64 (s1+1))))) else(some (.inr (.inl ())))
def qKe(N:Nat)(p0:Tg):T4:=
 (qCr (qIn N p0) N 0).bind fun out1=>(match out1 with| .inl o1=>some 0| .inr (z)=>some z)
theorem qQh{p0:Tg}{r:Int}(g:St m (O) w)(r1:RepS (cInt .i64) m a1 c1 p0)(hr:qKe N p0=some r):Calls Tryz.prog 56 #[vS a1 p0 c1] w fun e w'=>∃m',e= .returned (vI r)/\m.le m'/\St m' (O) w':=by
 unfold qKe at hr;have q:=m.le_refl;refine W_cA Tryz.func56 rfl Tryz.ntmps56 ?_;refine W_sr (qAh 1 [] (W_sr (qAh 1 [(3,vI 0)] (qAt (W_sr (qAh 3 [(6,vS a1 p0 c1),(7,vI (p0.length:Int)),(8,vI 0)] (qBd ?_)))))));have⟨out1,hr,j1⟩:=qAu hr;refine qCz (.exit 0) (fun L' w'=>∃(o1:Unit),∃m1,(.inl o1)=out1/\L'=[(3,vI 0)]/\m.le m1/\St m1 (O) w') ?_ ?_
 .rintro _ w1 ⟨o1,m1,rfl,rfl,q,g⟩;have hr:=j1;refine qBo (qAj (W_sr (qAh 2 [(2,vI 0)] (qBc ?_))));cases hr;exact X_rt [2] [vI 0] ⟨m1,rfl,q,g⟩
 intro K0_u1;refine qHe _ kr (qEz (fun k1 L' w'=>∃(s1:Int),∃m2,qCr (qIn N p0) k1 s1=some out1/\L'=[(3,vI 0),(6,vS a1 p0 c1),(7,vI (p0.length:Int)),(8,vI s1)]/\m.le m2/\St m2 (O) w'/\RepS (cInt .i64) m2 a1 c1 p0) N ⟨0,m,hr,rfl,q,g,r1⟩ ?_);rintro k1 _ w2 ⟨s1,m2,hL,rfl,q,g,r1⟩;rcases k1 with _|k1
 .exact qBz hL
 obtain⟨qu1,hr,hSu1,hBu1⟩:=qBy hL;clear hL;unfold qIn at hr;refine W_sr (qAh 1 [(9,vB (decide (s1<(p0.length:Int))))] (qAt (W_if hr ?_ ?_)))
 .intro A hr;refine qAq (qAj (qAt (qBd (W_sr (qAa rfl (qFe 10 39 3 6 8 r1 hr ?_))))));rintro x1 hr b1 f1 cs1 rfl hq1;refine qEo 11 3 10 f1 (vI x1) g hq1 (qAh 1 [(5,vI x1)] (W_sr (qAh 3 [(14,vB (x1 !=0))] (W_if hr ?_ ?_))))
  .intro A hr;refine W_sr (qAh 2 [(2,vI x1)] (qBc (qAo (qAi ?_))));obtain rfl:=sI hr;have ho:=hBu1 _ rfl;subst ho;have hr:=j1;refine qAi (qAo (qAi ?_));obtain rfl:=sI hr;exact X_rt [2] [vI x1] ⟨m2,rfl,q,g⟩
  intro A hr;refine qAq (qBm (qAj (qAs (qAd 2 [(8,vI (wr (s1+1)))] (qBa rfl ?_)))));obtain rfl:=sI hr;have hL:=hSu1 _ rfl;exact xE (qDj k1 (jA _) ⟨wr (s1+1),m2,hL,rfl,q,g,r1⟩)
 intro A hr;refine qEd (qAp ?_);cases hr;have ho:=hBu1 _ rfl;refine qAp ?_;exact xE (K0_u1 _ _ ⟨(),m2,ho,rfl,q,g⟩)
def qGz(N:Nat)(p0:T1h)(p1:T1h):T4:=
 (qGn N p0.1 p1.1).bind fun y1=>(qFq N p0.2.1 p1.2.1).bind fun y2=>(qFq N p0.2.2 p1.2.2).bind fun y3=>(qKe N ([y1,y2,y3])).bind fun y4=>some y4
theorem qMm{p0:T1h}{p1:T1h}{r:Int}(g:St m (O) w)(hr:qGz N p0 p1=some r):Calls Tryz.prog 37 #[.agg (Vb p0),.agg (Vb p1)] w fun e w'=>∃m',e= .returned (vI r)/\m.le m'/\St m' (O) w':=by
 unfold qGz at hr;have q:=m.le_refl;refine W_cA Tryz.func37 rfl Tryz.ntmps37 ?_;refine W_sr (qAa rfl (qDd 2 72 0 (.agg (Vb p0)) g fun b1 m1 w1 e1 g hb1=>(qAa rfl (qDd 3 72 1 (.agg (Vb p1)) g fun b2 m2 w2 e2 g hb2=> ?_))));have hb1:=hb1.mono e2;refine qAh 1 [] (qAt (qDi [(18,fun w'=>Inv m2 w'/\True)] kr g fun w3 _ g=> ?_));have hmS1:=m2.le_refl;refine tA g hmS1 ?_;refine qAn 0 5 (vP b1 0) (.head _) (qFn 3 5 1 6 0 (vI p0.1) (.head _) (fun _ h=>h.1) hb1 (qAn 2 7 (vP b2 0) (.head _) (qFn 3 7 3 8 0 (vI p1.1) (.head _) (fun _ h=>h.1) hb2 (qAn 5 10 (vP b1 1) (.head _) (qFn 9 10 6 11 1 (vT p0.2.1) (.head _) (fun _ h=>h.1) (hb1.drop 1) (qAn 7 12 (vP b2 1) (.head _) (qFn 9 12 8 13 1 (vT p1.2.1) (.head _) (fun _ h=>h.1) (hb2.drop 1) (qAn 10 15 (vP b1 2) (.head _) (qFn 9 15 11 16 2 (vT p0.2.2) (.head _) (fun _ h=>h.1) (hb1.drop 2) (qAn 12 17 (vP b2 2) (.head _) (qFn 9 17 13 18 2 (vT p1.2.2) (.head _) (fun _ h=>h.1) (hb2.drop 2) (qBh 4 kr (qHf 9 hr (fun _ h=>qMu g h) ?_)))))))))))));rintro y1 hr _ w4 ⟨m3,rfl,e3,g⟩;refine⟨_,rfl,?_⟩;have hmS1:=Mem.le_trans hmS1 e3;refine tA g hmS1 ?_;refine qBh 9 kr (qHf 14 hr (fun _ h=>qJk g h) ?_);rintro y2 hr _ w5 ⟨m4,rfl,e4,g⟩;refine⟨_,rfl,?_⟩;have hmS1:=Mem.le_trans hmS1 e4;refine tA g hmS1 ?_;refine qBh 14 kr (qHf 19 hr (fun _ h=>qJk g h) ?_);rintro y3 hr _ w6 ⟨m5,rfl,e5,g⟩
 refine⟨_,rfl,?_⟩;have hmS1:=Mem.le_trans hmS1 e5;refine tA g hmS1 ?_;refine qBh 15 kr (qAx (d:=20) (t:=39) (e:=3) (len:=3) (parts:= #[(0,(.tmp 9)),(1,(.tmp 14)),(2,(.tmp 19))]) (cInt .i64) (xs:=[y1,y2,y3]) [vI y1,vI y2,vI y3] kr rfl (fun _=>qAy kr _) rfl rfl g ⟨[vI y1],_,rfl,rfl,⟨[vI y2],_,rfl,rfl,⟨[vI y3],_,rfl,rfl,rfl⟩⟩⟩ fun b3 m6 w7 e6 g r1=> ?_);have hmS1:=Mem.le_trans hmS1 e6;refine tA g hmS1 ?_;refine qBh 16 kr (qHf 21 hr (fun _ h=>qQh g r1 h) ?_);rintro y4 hr _ w8 ⟨m7,rfl,e7,g⟩;refine⟨_,rfl,?_⟩;have hmS1:=Mem.le_trans hmS1 e7;refine tA g hmS1 ?_;refine qAn 17 4 (vI y4) (.head _) (qBk kr ?_);have g:=g.t;refine qAj (qBc ?_);obtain rfl:=sI hr;exact X_rt [4] [vI y4] ⟨m7,rfl,((((((q.t e1).t e2).t e3).t e4).t e5).t e6).t e7,g⟩
def qPx:Go.Shelf.Ren:=⟨fun|6=>36|15=>55|14=>54|28=>82|29=>83|20=>74|21=>75|22=>76|23=>77|24=>78|25=>79|26=>80|27=>81|46=>98|47=>99|48=>100|49=>101|50=>102|57=>113|n=>n,fun|22=>30|24=>72|25=>94|3=>3|39=>129|0=>0|53=>161|55=>38|4=>4|46=>155|45=>154|50=>122|5=>5|9=>9|66=>171|70=>175|76=>180|77=>181|n=>n,fun|n=>n⟩
theorem qUf:Go.Proofs.SlLaysF0.n6 Tryz.prog qPx where
 mixed:=kr
 f6:=⟨Tryz.f36.name,kr,Tryz.func36.trans (congrArg some kr)⟩
 f14:=⟨Tryz.f54.name,kr,Tryz.func54.trans (congrArg some kr)⟩
 f15:=Tryz.func55.trans (congrArg some kr)
 f20:=⟨Tryz.f74.name,kr,Tryz.func74.trans (congrArg some kr)⟩
 f21:=⟨Tryz.f75.name,kr,Tryz.func75.trans (congrArg some kr)⟩
 f22:=⟨Tryz.f76.name,kr,Tryz.func76.trans (congrArg some kr)⟩
 f23:=⟨Tryz.f77.name,kr,Tryz.func77.trans (congrArg some kr)⟩
 f24:=⟨Tryz.f78.name,kr,Tryz.func78.trans (congrArg some kr)⟩
 f25:=⟨Tryz.f79.name,kr,Tryz.func79.trans (congrArg some kr)⟩
 f26:=⟨Tryz.f80.name,kr,Tryz.func80.trans (congrArg some kr)⟩
 f27:=⟨Tryz.f81.name,kr,Tryz.func81.trans (congrArg some kr)⟩
 f28:=Tryz.func82.trans (congrArg some kr)
 f29:=Tryz.func83.trans (congrArg some kr)
 f46:=⟨Tryz.f98.name,kr,Tryz.func98.trans (congrArg some kr)⟩
 f47:=Tryz.func99.trans (congrArg some kr)
 f48:=Tryz.func100.trans (congrArg some kr)
 f49:=⟨Tryz.f101.name,kr,Tryz.func101.trans (congrArg some kr)⟩
 f50:=⟨Tryz.f102.name,kr,Tryz.func102.trans (congrArg some kr)⟩
 f57:=⟨Tryz.f113.name,kr,Tryz.func113.trans (congrArg some kr)⟩
 t0:=Tryz.underlying0
 a0:=Tryz.isAgg0
 z0:=Tryz.sizeOf0
 v0:=Tryz.zeroValue0
 t3:=Tryz.underlying3
 a3:=Tryz.isAgg3
 z3:=Tryz.sizeOf3
 v3:=Tryz.zeroValue3
 t4:=Tryz.underlying4
 a4:=Tryz.isAgg4
 z4:=Tryz.sizeOf4
 v4:=Tryz.zeroValue4
 t5:=Tryz.underlying5
 a5:=Tryz.isAgg5
 z5:=Tryz.sizeOf5
 v5:=Tryz.zeroValue5
 t9:=Tryz.underlying9
 a9:=Tryz.isAgg9
 z9:=Tryz.sizeOf9
 v9:=Tryz.zeroValue9
 t22:=Tryz.underlying30
 a22:=Tryz.isAgg30
 z22:=Tryz.sizeOf30
 v22:=Tryz.zeroValue30
 t25:=Tryz.underlying94
 a25:=Tryz.isAgg94
 z25:=Tryz.sizeOf94
 v25:=Tryz.zeroValue94
 t39:=Tryz.underlying129
 a39:=Tryz.isAgg129
 z39:=Tryz.sizeOf129
 v39:=Tryz.zeroValue129
 t45:=Tryz.underlying154
 a45:=Tryz.isAgg154
 z45:=Tryz.sizeOf154
 v45:=Tryz.zeroValue154
 t46:=Tryz.underlying155
 a46:=Tryz.isAgg155
 z46:=Tryz.sizeOf155
 v46:=Tryz.zeroValue155
 t50:=Tryz.underlying122
 a50:=Tryz.isAgg122
 z50:=Tryz.sizeOf122
 v50:=Tryz.zeroValue122
 t53:=Tryz.underlying161
 a53:=Tryz.isAgg161
 z53:=Tryz.sizeOf161
 v53:=Tryz.zeroValue161
 t55:=Tryz.underlying38
 a55:=Tryz.isAgg38
 z55:=Tryz.sizeOf38
 v55:=Tryz.zeroValue38
 t66:=Tryz.underlying171
 a66:=Tryz.isAgg171
 z66:=Tryz.sizeOf171
 v66:=Tryz.zeroValue171
 t70:=Tryz.underlying175
 a70:=Tryz.isAgg175
 z70:=Tryz.sizeOf175
 v70:=Tryz.zeroValue175
 t76:=Tryz.underlying180
 a76:=Tryz.isAgg180
 z76:=Tryz.sizeOf180
 v76:=Tryz.zeroValue180
 t77:=Tryz.underlying181
 a77:=Tryz.isAgg181
 z77:=Tryz.sizeOf181
 v77:=Tryz.zeroValue181
theorem qPt(x y:Int):qGn N x y=some (cmpI x y):=by
 have h:∀z:Int,qGr N z=some false:=fun z=>by simp[qGr]
 simp only[qGn,h,j0,cmpI]
 by_cases h1:x<y
 .simp[h1]
 by_cases h2:x>y
 .simp[h1,h2]
 simp[h1,h2]
theorem qNh(x y:ByteArray):qFq N x y=some (cmpS x y):=by simp[qFq,qDg]
theorem qVs(hN:10<=N)(a b c:Int):qKe N [a,b,c]=some (if a≠0 then a else if b≠0 then b else c):=by
 obtain⟨k,rfl⟩:∃k,N=k+4:=⟨N-4,by omega⟩;have w1:wr 1=1:=by decide
 have w2:wr 2=2:=by decide
 have w3:wr 3=3:=by decide
 have i0:idx [a,b,c] 0=some a:=rfl;have i1:idx [a,b,c] 1=some b:=rfl;have i2:idx [a,b,c] 2=some c:=rfl;simp only[qKe,qCr,qIn,kY,List.length_nil,i0,j0]
 by_cases ha:a=0
 .subst ha
  by_cases hb:b=0
  .subst hb
   by_cases A:c=0
   .subst A;simp[w1,w2,w3,i1,i2]
   simp[w1,w2,i1,i2,A]
  simp[w1,i1,hb]
 simp[ha]
theorem qMs(hN:10<=N)(x y:T1h):qGz N x y=some (lexC cmpI (lexC cmpS cmpS) x y):=by
 simp only[qGz,qPt,qNh,qVs hN,j0]
 rfl
def qAv(N:Nat)(l:T1v):Option T1v:=if 10<=N/\l.length<4611686018427387904 then some (qRn (Go.Proofs.ltOf (lexC cmpI (lexC cmpS cmpS))) l) else none
theorem qEx{l r:T1v}(h:qAv N l=some r):r.length=l.length:=by
 unfold qAv at h
 split at h
 .simp only[j9] at h;subst h;exact(qMn l).length_eq
 cases h
theorem qEw{a:Option Addr}{nn cc:Nat}{T:List Value}{l r:T1v}{e:TypeId}(g:St m (opc a (qBx (fun x:T1h=>((Vh x):List Value)) l T) e::O) w)(hs:OAS a nn cc 3 T)(hn:List.length l=nn)(h:qAv N l=some r):
  Calls Tryz.prog 36 #[.slice a nn cc,.func (.func 37) #[] #[]] w fun e' w'=>e'= .returned (.tuple #[])/\St m (opc a (qBx (fun x:T1h=>((Vh x):List Value)) r T) e::O) w':=by
 unfold qAv at h
 split at h
 .rename_i hb
  obtain⟨hN,hlen⟩:=hb;simp only[j9] at h;subst h;subst hn;have hl:Lin (lexC cmpI (lexC cmpS cmpS)):=qTe qVw (qTe qSl qSl);rw[<-qTw hl];have:=qSg (f:=(fun x:T1h=>((Vh x):List Value))) (k:=3) qUf Tryz.isAgg72 Tryz.sizeOf72 (fun _=>rfl) (fun _ _ hv=>by simp only[jD,kM,or_false] at hv;rcases hv with rfl|rfl|rfl<;>rfl) (lexC cmpI (lexC cmpS cmpS)) hl.swo hl.total 37 (enters_of Tryz.func37 kr rfl) (fun x y W=>by
   refine(qMm (qTv W) (qMs hN x y)).mono fun e' w' h=> ?_;obtain⟨m',h1,h2,h3⟩:=h;exact⟨m',h1,h2,h3⟩) g hs hlen
  exact this
 cases h
def qDc(N:Nat)(z1:Option (T1h×Bool))(s1:T1v):Option (T1v⊕T1v):=
 (match z1 with|none=>some (.inr s1)|some kv1=>(qFb 40 s1 ([kv1.1])).bind fun l1=>some (.inl l1))
instance dec_evaluate_machine_run_L1:DecidableEq T21:=(@instDecidableEqProd _ _ (@instDecidableEqProd _ _ (@Option.instDecidableEq _ (@instDecidableEqList _ (@instDecidableEqProd _ _ (@instDecidableEqProd _ _ inferInstance (@instDecidableEqProd _ _ inferInstance inferInstance)) inferInstance))) (@instDecidableEqProd _ _ inferInstance (@instDecidableEqProd _ _ inferInstance inferInstance))) (@instDecidableEqProd _ _ (@instDecidableEqProd _ _ inferInstance (@instDecidableEqProd _ _ inferInstance inferInstance)) (@instDecidableEqProd _ _ inferInstance (@instDecidableEqProd _ _ (@instDecidableEqList _ (@instDecidableEqProd _ _ inferInstance (@instDecidableEqProd _ _ inferInstance inferInstance))) inferInstance))))
def qDf(N:Nat)(p0:T1o)(p1:T1i)(p2:Tg):Option T21:=
 (qDa N (p0.1,p0.2.1,p0.2.2.1,p0.2.2.2.1,p0.2.2.2.2.1,p0.2.2.2.2.2.1,p0.2.2.2.2.2.2.1,p0.2.2.2.2.2.2.2) p1 p2).bind fun y1=>(isQ y1.1.1).bind fun u1=>qNq (qDc N) (Option.getD y1.1.1 []) ([]:T1v) (fun o1=>(qAv N o1).bind fun y2=>some (y1.1,(y1.2,y1.1.2.2.2,y2,y1.1.2.1)))
theorem qHo{p0:T1o}{p1:T1i}{p2:Tg}{bw1:Nat}{q1:Tf}{es1:Array MapEntry}{ck1:Nat}{q2:Tf}{es2:Array MapEntry}{ck2:Nat}{q3:Tf}{es3:Array MapEntry}{ck3:Nat}{q4:Tf}{es4:Array MapEntry}{ck4:Nat}{r:T21}(g:St m (qAb q1 es1 ck1::qAb q2 es2 ck2::kB bw1 #[vS a1 p0.1.1 c1,vB p0.1.2.1,.map q1,vS a2 p0.1.2.2.2.1 c2,.map q2] 55::qAb q3 es3 ck3::qAb q4 es4 ck4::kB bp0 #[vP bw1 0,vS a3 p0.2.1 c3,.int .u64 p0.2.2.1,.map q3,vI p0.2.2.2.2.1,vI p0.2.2.2.2.2.1,vB p0.2.2.2.2.2.2.1,.map q4] 91::O) w)(r1:RepS C1 m a1 c1 p0.1.1)(r2:MapQ (fun s:ByteArray=>Value.string s) C6 true m q1 es1 ck1 p0.1.2.2.1)(r3:RepS cStr m a2 c2 p0.1.2.2.2.1)(r4:MapQ qAz C7 true m q2 es2 ck2 p0.1.2.2.2.2)(r5:RepS C8 m a3 c3 p0.2.1)(r6:MapQ qAz qBv false m q3 es3 ck3 p0.2.2.2.1)(r7:MapQ (fun n:Int=>Value.int .i64 n) cFn false m q4 es4 ck4 p0.2.2.2.2.2.2.2)(r8:RepS (cInt .i64) m a4 c4 p2)(hr:qDf N p0 p1 p2=some r):Calls Tryz.prog 17 #[vP bp0 0,.agg (Vd p1),vS a4 p2 c4] w fun e w'=>∃re1 rk1 ra2 rc2 m',e= .returned (.agg (Vi r.2.1.1 r.2.1.2.1 r.2.1.2.2 r.2.2.1 ra2 r.2.2.2.1 rc2 r.2.2.2.2))/\m.le m'/\St m' (kR ra2 r.2.2.2.1 rc2 72 3::qAb q1 es1 ck1::qAb q2 es2 ck2::kB bw1 #[vS a1 p0.1.1 c1,vB p0.1.2.1,.map q1,vS a2 p0.1.2.2.2.1 c2,.map q2] 55::qAb q3 re1 rk1::qAb q4 es4 ck4::kB bp0 #[vP bw1 0,vS a3 p0.2.1 c3,.int .u64 p0.2.2.1,.map q3,vI r.1.2.1,vI r.1.2.2.1,vB r.1.2.2.2,.map q4] 91::O) w'/\MapQ qAz qBv false m' q3 re1 rk1 r.1.1/\RepS C9 m' ra2 rc2 r.2.2.2.1:=by
 unfold qDf at hr;have q:=m.le_refl;refine W_cA Tryz.func17 rfl Tryz.ntmps17 ?_;refine W_sr (qAa rfl (qDd 4 60 1 (.agg (Vd p1)) g fun b1 m1 w1 e1 g hb1=>(qAa rfl (qBn 6 32 (.agg #[vI 0,vI 0,vI 0,vB false,v6,vI 0]) g fun b2 w2 g=>(WO_e (W_sr (qAd 1 [(10,vP bp0 0)] (qEo 11 60 4 0 (.agg (Vd p1)) g hb1 (qAd 1 [(12,vS a4 p2 c4)] (qBe 13 hr (fun _ h=>qJd (p0:=(p0.1,p0.2.1,p0.2.2.1,p0.2.2.2.1,p0.2.2.2.2.1,p0.2.2.2.2.2.1,p0.2.2.2.2.2.2.1,p0.2.2.2.2.2.2.2)) (p1:=p1) g.f6.f6.f6.f6.f6.f6 (r1.mono e1) (r2.mono e1) (r3.mono e1) (r4.mono e1) (r5.mono e1) (r6.mono e1) (r7.mono e1) (r8.mono e1) h) ?_))))))))));rintro y1 hr _ w3 ⟨es5,ck5,m2,rfl,e2,g,r9⟩;refine qAa rfl (qBn 7 29 (.agg (Vg 0 0 0)) g fun b3 w4 g=>(qAa rfl (qAw 29 7 13 (.agg (Vf y1.2)) g fun w5 g=>(WO_e (W_sr (qAh 1 [(8,vb)] (qAt (W_sr (qCc 3 17 86 16 3 (.map q3) g.t.t.t.t.t.t.h ?_)))))))));have⟨u1,d2,hr⟩:=qAu hr;obtain⟨b4,rfl⟩:=MapQ.at r9 d2;refine qAa rfl (qOk (ek:=qAz) (c:=qBv) (agg:=false) (d:=18) (t:=86) (kt:=72) (et:=4) (x:=(.tmp 17)) kr rfl (ev (.map (some b4))) kr g.f4 r9 fun b5 w6 g hi1=>(WO_e (qBd ?_)));have g:=qWl (f:=(fun x:T1h=>((Vh x):List Value))) (g.nilroom 72 3);obtain⟨PKu2,hPKu2,hr⟩:=LoopP.start hr
 refine qCz (.exit 0) (fun L' w'=>∃(o1:T1v),∃a5 c5 T1,∃(sn1:Array Nat) (rem1:List (T1h×Bool)),∃m3,PKu2 o1/\L'=[(0,vP bp0 0),(6,vP b2 0),(7,vP b3 0),(8,vS a5 o1 c5)]/\m.le m3/\St m3 (kB b3 (Vf y1.2) 29::kB bw1 #[vS a1 p0.1.1 c1,vB p0.1.2.1,.map q1,vS a2 p0.1.2.2.2.1 c2,.map q2] 55::kB bp0 #[vP bw1 0,vS a3 p0.2.1 c3,.int .u64 p0.2.2.1,.map (some b4),vI y1.1.2.1,vI y1.1.2.2.1,vB y1.1.2.2.2,.map q4] 91::kB b2 #[vI 0,vI 0,vI 0,vB false,vb,vI 0] 32::qAb (some b4) es5 ck5::qAb q1 es1 ck1::qAb q2 es2 ck2::qAb q4 es4 ck4::opc a5 (qBx (fun x:T1h=>((Vh x):List Value)) o1 T1) 72::qGs b5 (some b4) ck5 sn1::O) w'/\RepS C1 m3 a1 c1 p0.1.1/\RepS cStr m3 a2 c2 p0.1.2.2.2.1/\RepS C8 m3 a3 c3 p0.2.1/\MapQ qAz qBv false m3 (some b4) es5 ck5 y1.1.1/\MapQ (fun s:ByteArray=>Value.string s) C6 true m3 q1 es1 ck1 p0.1.2.2.1/\MapQ qAz C7 true m3 q2 es2 ck2 p0.1.2.2.2.2/\MapQ (fun n:Int=>Value.int .i64 n) cFn false m3 q4 es4 ck4 p0.2.2.2.2.2.2.2/\OAS a5 o1.length c5 3 T1/\ItR qAz qBv false m3 es5 sn1 rem1) ?_ ?_
 .rintro _ w7 ⟨o1,a5,c5,T1,sn1,rem1,m3,hPou2,rfl,q,g,r1,r3,r5,r9,r2,r4,r7,hs1,hi2⟩;have hr:=hPKu2 _ hPou2;clear hPou2 hPKu2;refine qBo (qAj (W_sr (qAd 1 [(27,vS a5 o1 c5)] ?_)));have⟨y2,d6,hr⟩:=qAu hr;have g:=g.f8;refine qAa rfl (qLb 28 36 #[vS a5 o1 c5,.func (.func 37) #[] #[]] kr rfl ((qEw g hs1 rfl d6).mono ?_));rintro _ w15 ⟨rfl,g⟩;refine⟨_,rfl,?_⟩;have hn1:=((qEx d6).trans rfl);refine qBa rfl ?_;have g:=g.f9.t;refine qAj (qAt (qDi [(12,fun w'=>Inv m3 w'/\Piece.holds m3 w' (kB b3 (Vf y1.2) 29)/\Piece.holds m3 w' (kB bp0 #[vP bw1 0,vS a3 p0.2.1 c3,.int .u64 p0.2.2.1,.map (some b4),vI y1.1.2.1,vI y1.1.2.2.1,vB y1.1.2.2.2,.map q4] 91)/\True)] kr g fun w16 _ g=> ?_));have hmS1:=m3.le_refl;refine⟨⟨.inr ⟨Inv.anti g.inv hmS1,Piece.holds_anti g.t.h hmS1,Piece.holds_anti g.t.t.t.h hmS1,trivial⟩,trivial⟩,?_⟩
  refine qDb 29 7 0 29 0 (.agg (Vf y1.2)) (.head _) (fun _ h=>h.2.1) (qAn 1 30 (vP bp0 0) (.head _) (qAn 2 31 (vP bp0 0) (.head _) (qAn 3 32 (vP bp0 6) (.head _) (qDb 4 32 4 33 6 (vB y1.1.2.2.2) (.head _) (fun _ h=>h.2.2.1) (qAn 5 34 (vS a5 o1 c5) (.head _) (qAn 6 35 (vP bp0 0) (.head _) (qAn 7 36 (vP bp0 0) (.head _) (qAn 8 37 (vP bp0 4) (.head _) (qDb 3 37 9 38 4 (vI y1.1.2.1) (.head _) (fun _ h=>h.2.2.1) (qAn 10 39 (.agg (Vi y1.2.1 y1.2.2.1 y1.2.2.2 y1.1.2.2.2 a5 o1 c5 y1.1.2.1)) (.head _) (qBh 11 kr (qAw 32 6 39 (.agg (Vi y1.2.1 y1.2.2.1 y1.2.2.2 y1.1.2.2.2 a5 o1 c5 y1.1.2.1)) g.f4 fun w17 g=>(⟨⟨.inr ⟨Inv.anti g.inv hmS1,Piece.holds_anti g.t.t.h hmS1,Piece.holds_anti g.t.t.t.t.h hmS1,trivial⟩,trivial⟩,?_⟩)))))))))))));refine qBk kr ?_;refine qAj (qBc ?_);obtain rfl:=sI hr;have g:=g.f1;obtain⟨m7,e5,g,r12⟩:=St.freezeM (c:=C9) (f:=(fun x:T1h=>((Vh x):List Value))) g hs1 hn1 (fun _=>rfl) (fun _ x=>⟨_,_,rfl,rfl,⟨_,_,rfl,rfl,rfl⟩⟩)
  have g:=(congrArg (fun nn_:Nat=>St m7 (kR a5 y2 c5 72 3::kB b2 #[vI y1.2.1,vI y1.2.2.1,vI y1.2.2.2,vB y1.1.2.2.2,.slice a5 nn_ c5,vI y1.1.2.1] 32::kB b3 (Vf y1.2) 29::kB bw1 #[vS a1 p0.1.1 c1,vB p0.1.2.1,.map q1,vS a2 p0.1.2.2.2.1 c2,.map q2] 55::kB bp0 #[vP bw1 0,vS a3 p0.2.1 c3,.int .u64 p0.2.2.1,.map (some b4),vI y1.1.2.1,vI y1.1.2.2.1,vB y1.1.2.2.2,.map q4] 91::qAb (some b4) es5 ck5::qAb q1 es1 ck1::qAb q2 es2 ck2::qAb q4 es4 ck4::O) w17) hn1.symm).mp g;refine qMc [(6,vP b2 0)] (by(try simp only[vS,hn1]);kernel_rfl) ?_;exact qFu [.cell 6 32] [.agg (Vi y1.2.1 y1.2.2.1 y1.2.2.2 y1.1.2.2.2 a5 y2 c5 y1.1.2.1)] rfl (ResAll.cons (ResAt.blk (v:= .agg (Vi y1.2.1 y1.2.2.1 y1.2.2.2 y1.1.2.2.2 a5 y2 c5 y1.1.2.1)) (o:=0) kr g.t.h kr) ResAll.nil) ⟨es5,ck5,a5,c5,m7,rfl,q.t e5,g.f1.t.f1.t.f2.f6.f4.f4.f6.f6.f6,r9.mono e5,r12⟩
 intro K0_u2
 refine qHe _ kr (qEz (fun k1 L' w'=>∃(s1:T1v),∃a6 c6 T2,∃(sn2:Array Nat) (rem2:List (T1h×Bool)),∃m4,LoopP (qDc N) rem2 s1 PKu2 k1/\L'=[(0,vP bp0 0),(6,vP b2 0),(7,vP b3 0),(8,vS a6 s1 c6),(18,vP b5 0)]/\m.le m4/\St m4 (kB b3 (Vf y1.2) 29::kB bw1 #[vS a1 p0.1.1 c1,vB p0.1.2.1,.map q1,vS a2 p0.1.2.2.2.1 c2,.map q2] 55::kB bp0 #[vP bw1 0,vS a3 p0.2.1 c3,.int .u64 p0.2.2.1,.map (some b4),vI y1.1.2.1,vI y1.1.2.2.1,vB y1.1.2.2.2,.map q4] 91::kB b2 #[vI 0,vI 0,vI 0,vB false,vb,vI 0] 32::qAb (some b4) es5 ck5::qAb q1 es1 ck1::qAb q2 es2 ck2::qAb q4 es4 ck4::opc a6 (qBx (fun x:T1h=>((Vh x):List Value)) s1 T2) 72::qGs b5 (some b4) ck5 sn2::O) w'/\RepS C1 m4 a1 c1 p0.1.1/\RepS cStr m4 a2 c2 p0.1.2.2.2.1/\RepS C8 m4 a3 c3 p0.2.1/\MapQ qAz qBv false m4 (some b4) es5 ck5 y1.1.1/\MapQ (fun s:ByteArray=>Value.string s) C6 true m4 q1 es1 ck1 p0.1.2.2.1/\MapQ qAz C7 true m4 q2 es2 ck2 p0.1.2.2.2.2/\MapQ (fun n:Int=>Value.int .i64 n) cFn false m4 q4 es4 ck4 p0.2.2.2.2.2.2.2/\OAS a6 s1.length c6 3 T2/\ItR qAz qBv false m4 es5 sn2 rem2) (List.length (Option.getD y1.1.1 [])+1) ⟨([]:T1v),none,0,[],#[],(Option.getD y1.1.1 []),m2,hr,rfl,(q.t e1).t e2,g.f1.f1.f7.f6.f6.f5.f9.f9.f9.f9,(r1.mono e1).mono e2,(r3.mono e1).mono e2,(r5.mono e1).mono e2,r9,(r2.mono e1).mono e2,(r4.mono e1).mono e2,(r7.mono e1).mono e2,(OAS.nil 3),hi1⟩ ?_)
 rintro k1 _ w8 ⟨s1,a6,c6,T2,sn2,rem2,m4,hL,rfl,q,g,r1,r3,r5,r9,r2,r4,r7,hs2,hi3⟩;rcases k1 with _|k1
 .exact LoopP.zero hL
 refine W_sr ?_;have g:=g.f4.f9;refine qAa rfl (qQk (ek:=qAz) (c:=qBv) (agg:=false) (d:=19) (x:=(.tmp 18)) kr rfl (ev (vP b5 0)) g r9 hi3 ?_ ?_)
 .intro d3 w9 g;obtain⟨qu2,hr,hSu2,hBu2⟩:=hL.nil d3;clear hL;unfold qDc at hr;refine qAh 1 [(20,vB false)] (qAt (qHs false kr (fun h=>Bool.noConfusion h) ?_));intro _;refine qEd (qAp ?_);obtain rfl:=sI hr;have ho:=hBu2 _ rfl;have g:=g.f9.f9.f9.f9.f5.f9.f9.f9.f9;refine qAp ?_;exact xE (K0_u2 _ _ ⟨s1,a6,c6,T2,sn2,rem2,m4,ho,rfl,q,g,r1,r3,r5,r9,r2,r4,r7,hs2,hi3⟩)
 rintro kv1 rem3 sn3 cs1 w10 d4 rfl g hi4 he1;obtain⟨qu2,hr,hSu2,hBu2⟩:=hL.cons d4;clear hL;unfold qDc at hr;refine qAh 1 [(20,vB true)] (qAt (qHs true kr ?_ (fun h=>Bool.noConfusion h)));intro _;refine qAq (qAj (qBd (W_sr ?_)));have g:=g.f1.f1;refine qAa rfl (qOi (ek:=qAz) (c:=qBv) (agg:=false) (d:=21) (x:=(.tmp 18)) (K:= .agg (Vb kv1.1)) (V:=vB kv1.2) kr rfl (ev (vP b5 0)) g r9 he1 (qAd 1 [(22,.agg (Vb kv1.1))] (qAa rfl (qBn 9 72 (.agg (Va 0 eB eB)) g fun b6 w11 g=>(qAa rfl (qAw 72 9 22 (.agg (Vb kv1.1)) g fun w12 g=>(WO_e (qAs (qAd 1 [(23,vS a6 s1 c6)] (qAa rfl (qBj 24 72 9 0 (.agg (Vb kv1.1)) g.h (qAa rfl (qAx (d:=25) (t:=30) (e:=72) (len:=1) (parts:= #[(0,(.tmp 24))]) C9 (xs:=[kv1.1]) (Vh kv1.1) kr rfl (fun _=>qAy kr _) rfl rfl g ⟨(Vh kv1.1),_,rfl,⟨_,_,rfl,rfl,⟨_,_,rfl,rfl,rfl⟩⟩,rfl⟩ fun b7 m5 w13 e3 g r10=> ?_)))))))))))));have g:=g.f11;have⟨l1,d5,hr⟩:=qAu hr;refine qAa rfl (qSa (d:=26) (t:=30) (u:=30) (e:=72) (by_:=40) (x:=(.tmp 23)) (y:=(.tmp 25)) (c:=C9) (f:=(fun x:T1h=>((Vh x):List Value))) (l:=s1) (fun _ _ _ h=>by obtain⟨_,_,rfl,rfl,⟨_,_,rfl,rfl,rfl⟩⟩:=h;rfl) (fun _=>rfl) kr rfl (ev (vS a6 s1 c6)) (ev (vS (aP b7) ([kv1.1]) 1)) g hs2 rfl kr (.inl kr) r10.src d5 fun a7 c7 T3 w14 hs3 g=>(qAd 1 [(8,vS a7 l1 c7)] (qBa rfl ?_)))
 have g:=g.f1.t;refine qBm ?_;obtain rfl:=sI hr;have hL:=hSu2 _ rfl;exact xE (qDj k1 (jA _) ⟨l1,a7,c7,T3,sn3,rem3,m5,hL,rfl,q.t e3,g.f1.t.f1.f1.f9.f9.f9.f5.f9.f9.f9.f9,r1.mono e3,r3.mono e3,r5.mono e3,r9.mono e3,r2.mono e3,r4.mono e3,r7.mono e3,hs3,hi4.mono e3⟩)
def qFh(N:Nat)(p5:Tg)(s1:Int):Option (Int⊕Unit⊕Int):=
 if(decide (s1<(List.length p5:Int)))=true then((idx p5 s1).bind fun x1=>(qGm N x1).bind fun y3=>if y3=true then(some (.inr (.inr (s1)))) else(some (.inl (IntKind.wrap .i64 (s1+1))))) else(some (.inr (.inl ())))
def qCa(N:Nat)(p0:Ti)(p1:T18)(p2:Int)(p3:ByteArray)(p4:ByteArray)(p5:Tg):Option (Int×T20×Int):=
 (qJb N p0).bind fun y1=>(if(!y1.2.1)=true then(some true) else((qDk N p1).bind fun y2=>if(!y2)=true then(some true) else(((qCr (qFh N p5) N 0).bind fun out1=>(match out1 with| .inl o3=>some (-1)| .inr (z)=>some z):T4).bind fun o2=>some (decide (o2>=0)))):T5).bind fun o1=>if o1=true then(some (0,((0,0,0),false,([]:T1v),0),1)) else((qCx N y1 1 p3 p4).bind fun y4=>if(y4.2.2.2.2.2 !=1)=true then(some (0,((0,0,0),false,([]:T1v),0),18)) else((idx (((qAm y1.2.2.1 y4.2.2.2.1).getD ((⟨#[]⟩:ByteArray),([]:T8),([]:T17))).2.2) y4.2.2.2.2.1).bind fun x2=>if((List.length p5:Int) !=(List.length x2.2.2.1:Int))=true then(some (0,((0,0,0),false,([]:T1v),0),13)) else((qDy (some []:Option (List (Int×Tf))) 1 (some 25:Tf)).bind fun mp1=>(qDy mp1 2 (some 26:Tf)).bind fun mp2=>(qDy mp2 3 (some 27:Tf)).bind fun mp3=>(qDy mp3 4 (some 28:Tf)).bind fun mp4=>(qDy mp4 5 (some 29:Tf)).bind fun mp5=>(qDy mp5 6 (some 30:Tf)).bind fun mp6=>(qDy mp6 7 (some 31:Tf)).bind fun mp7=>(qDy mp7 8 (some 32:Tf)).bind fun mp8=>(qDy mp8 9 (some 33:Tf)).bind fun mp9=>(qDy mp9 10 (some 34:Tf)).bind fun mp10=>(qBg N (y1,p1,p2,(some []:T1n),0,0,false,mp10) ([(1,p3,p4)])).bind fun y5=>(qDf N (y1,p1,p2,y5.1,y5.2.1,y5.2.2.1,y5.2.2.2,mp10) y4 p5).bind fun y6=>some (y6.2.1.2.1,(y6.2.1,y6.2.2.1,y6.2.2.2.1,y6.2.2.2.2),0))))
theorem qGy{p0:Ti}{p1:T18}{p2:Int}{p3:ByteArray}{p4:ByteArray}{p5:Tg}{r:Int×T20×Int}(g:St m (O) w)(r1:RepS C1 m a1 c1 p0)(r2:RepS C8 m a2 c2 p1)(r3:RepS (cInt .i64) m a3 c3 p5)(hr:qCa N p0 p1 p2 p3 p4 p5=some r):Calls Tryz.prog 6 #[.agg #[vS a1 p0 c1],.agg #[vS a2 p1 c2],.int .u64 p2,vT p3,vT p4,vS a3 p5 c3] w fun e w'=>∃ra1 rc1 m',e= .returned (.tuple #[vI r.1,.agg (Vi r.2.1.1.1 r.2.1.1.2.1 r.2.1.1.2.2 r.2.1.2.1 ra1 r.2.1.2.2.1 rc1 r.2.1.2.2.2),vI r.2.2])/\m.le m'/\St m' (kR ra1 r.2.1.2.2.1 rc1 72 3::O) w'/\RepS C9 m' ra1 rc1 r.2.1.2.2.1:=by
 unfold qCa at hr;have q:=m.le_refl;refine W_cA Tryz.func6 rfl Tryz.ntmps6 ?_;refine W_sr (qAa rfl (qDd 6 26 0 (.agg #[vS a1 p0 c1]) g fun b1 m1 w1 e1 g hb1=>(qAa rfl (qDd 7 37 1 (.agg #[vS a2 p1 c2]) g fun b2 m2 w2 e2 g hb2=>(qAd 1 [] (qAa rfl (qBn 13 32 (.agg #[vI 0,vI 0,vI 0,vB false,v6,vI 0]) g fun b3 w3 g=>(qAh 1 [] (W_sr (qEo 18 26 6 0 (.agg #[vS a1 p0 c1]) g (hb1.mono e2) (qBe 19 hr (fun _ h=>qOb g ((r1.mono e1).mono e2) h) ?_)))))))))));rintro y1 hr _ w4 ⟨b4,a4,c4,q1,es1,ck1,a5,c5,q2,es2,ck2,m3,rfl,e3,g,r4,r5,r6,r7⟩;have q:=((q.t e1).t e2).t e3;have r3:=((r3.mono e1).mono e2).mono e3;have hb2:=hb2.mono e3;have r2:=((r2.mono e1).mono e2).mono e3;refine qAh 1 [(15,vP b4 0)] (qAt (W_sr ?_));have⟨o1,hr,J⟩:=qAu hr;refine qGj (j:=14) (fun L' w'=>∃m4,L'=[(2,.int .u64 p2),(3,vT p3),(4,vT p4),(5,vS a3 p5 c3),(7,vP b2 0),(13,vP b3 0),(15,vP b4 0),(33,vB o1)]/\m.le m4/\St m4 (kB b4 #[vS a4 y1.1 c4,vB y1.2.1,.map q1,vS a5 y1.2.2.2.1 c5,.map q2] 55::kB b3 #[vI 0,vI 0,vI 0,vB false,vb,vI 0] 32::qAb q1 es1 ck1::qAb q2 es2 ck2::O) w'/\RepS (cInt .i64) m4 a3 c3 p5/\MRow m4 b2 0 [vS a2 p1 c2]/\RepS C8 m4 a2 c2 p1/\RepS C1 m4 a4 c4 y1.1/\RepS cStr m4 a5 c5 y1.2.2.2.1/\MapQ (fun s:ByteArray=>Value.string s) C6 true m4 q1 es1 ck1 y1.2.2.1/\MapQ qAz C7 true m4 q2 es2 ck2 y1.2.2.2.2) ?_ ?_
 .have hr:=J;rintro _ w5 ⟨m4,rfl,q,g,r3,hb2,r2,r4,r6,r5,r7⟩;refine WO_e (W_if hr ?_ ?_)
  .intro A hr;refine W_sr (qAd 2 [(34,.agg #[vI 0,vI 0,vI 0,vB false,vb,vI 0]),(12,vI 0)] (qAa rfl (qAw 32 13 34 (.agg #[vI 0,vI 0,vI 0,vB false,vb,vI 0]) g.f1 fun w11 g=>(qAh 1 [(14,vI 1)] (qBc (qAi ?_))))));cases hr;refine qFu [.tmp 12,.cell 13 32,.tmp 14] [vI 0,.agg #[vI 0,vI 0,vI 0,vB false,vb,vI 0],vI 1] rfl (ResAll.cons (ResAt.tmp kr) (ResAll.cons (ResAt.blk (v:= .agg #[vI 0,vI 0,vI 0,vB false,vb,vI 0]) (o:=0) kr g.h kr) (ResAll.cons (ResAt.tmp kr) ResAll.nil))) ?_;have g:=(g.nilroom 72 3).front1;exact⟨none,0,m4,rfl,q,g.t.f1.t.f1.t.f1.t,(RepS.nil _ _)⟩
  intro A hr;refine qAq (qAj (W_sr (qAd 3 [(35,vP b4 0),(36,vT p3),(37,vT p4)] (qBe 38 hr (fun _ h=>qFa g.f3.f3 r4 r5 r6 r7 h) ?_))));rintro y4 hr _ w12 ⟨m10,rfl,e6,g⟩;have q:=q.t e6;have r5:=r5.mono e6;refine qAa rfl (qBn 16 60 (.agg (Vc eB eB 0 eB 0 0)) g fun b6 w13 g=>(qAa rfl (qAw 60 16 38 (.agg (Vd y4)) g fun w14 g=>(WO_e (qAt (W_sr (qCc 1 40 3 39 5 (vI y4.2.2.2.2.2) g.h (qAh 1 [(41,vB (y4.2.2.2.2.2 !=1))] (W_if hr ?_ ?_)))))))))
  .intro A hr;refine W_sr (qAd 2 [(42,.agg #[vI 0,vI 0,vI 0,vB false,vb,vI 0]),(12,vI 0)] (qAa rfl (qAw 32 13 42 (.agg #[vI 0,vI 0,vI 0,vB false,vb,vI 0]) g.f4 fun w15 g=>(qAh 1 [(14,vI 18)] (qBc (qAi ?_))))));cases hr;refine qFu [.tmp 12,.cell 13 32,.tmp 14] [vI 0,.agg #[vI 0,vI 0,vI 0,vB false,vb,vI 0],vI 18] rfl (ResAll.cons (ResAt.tmp kr) (ResAll.cons (ResAt.blk (v:= .agg #[vI 0,vI 0,vI 0,vB false,vb,vI 0]) (o:=0) kr g.h kr) (ResAll.cons (ResAt.tmp kr) ResAll.nil))) ?_;have g:=(g.nilroom 72 3).front1;exact⟨none,0,m10,rfl,q,g.t.f1.t.f1.t.f1.t.f1.t,(RepS.nil _ _)⟩
  intro A hr;refine qAq (qAj (qAt (qAt (qDi [(17,fun w'=>Inv m10 w'/\Piece.holds m10 w' (kB b6 (Vd y4) 60)/\Piece.holds m10 w' (kB b4 #[vS a4 y1.1 c4,vB y1.2.1,.map q1,vS a5 y1.2.2.2.1 c5,.map q2] 55)/\True)] kr g fun w16 _ g=> ?_))));have hmS1:=m10.le_refl;refine⟨⟨.inr ⟨Inv.anti g.inv hmS1,Piece.holds_anti g.h hmS1,Piece.holds_anti g.t.t.t.h hmS1,trivial⟩,trivial⟩,?_⟩;refine qAn 0 43 (vS a3 p5 c3) (.head _) (qAn 1 44 (vI (p5.length:Int)) (.head _) (qAn 2 45 (vP b4 0) (.head _) (qAn 3 46 (vP b4 0) (.head _) (qAn 4 47 (vP b4 2) (.head _) (qDb 51 47 5 48 2 (.map q1) (.head _) (fun _ h=>h.2.2.1) (qAn 6 49 (vP b6 3) (.head _) (qDb 9 49 7 50 3 (vT y4.2.2.2.1) (.head _) (fun _ h=>h.2.1) (qAn 10 53 (vP b6 4) (.head _) (qDb 3 53 11 54 4 (vI y4.2.2.2.2.1) (.head _) (fun _ h=>h.2.1) (qBh 8 kr (qEc (ek:=(fun s:ByteArray=>Value.string s)) (c:=C6) (agg:=true) (k:=y4.2.2.2.1) (zx:=(eB,([]:T8),([]:T17))) (zcs:=[vT eB,v1,va]) (z:=(.agg #[vT eB,v1,va])) (kt:=9) (et:=67) (d:=51) (t:=51) (x:=(.tmp 48)) (y:=(.tmp 50)) (ok:=false) kr rfl (ev (.map q1)) (ev (vT y4.2.2.2.1)) kr (qMi kr) g.t.h r5 ⟨_,_,rfl,rfl,⟨_,_,rfl,(qJa (RepS.nil _ _)),(qJa (RepS.nil _ _))⟩⟩ rfl ?_)))))))))));rintro cs2 ⟨_,_,rfl,rfl,⟨_,_,rfl,⟨a6,c6,rfl,r8⟩,⟨a7,c7,rfl,r9⟩⟩⟩
  refine⟨⟨.inr ⟨Inv.anti g.inv hmS1,Piece.holds_anti g.h hmS1,Piece.holds_anti g.t.t.t.h hmS1,trivial⟩,trivial⟩,?_⟩;refine qAn 9 52 (.slice a7 (List.length (((qAm y1.2.2.1 y4.2.2.2.1).getD (eB,([]:T8),([]:T17))).2.2)) c7) (.head _) ?_;have⟨x2,d6,hr⟩:=qAu hr;refine qGq (t:=65) (e:=64) (x:=(.tmp 52)) (y:=(.tmp 54)) 12 55 C5 kr rfl kr (.head _) (qEn (qEn qHh)) (ev (.slice a7 (List.length (((qAm y1.2.2.1 y4.2.2.2.1).getD (eB,([]:T8),([]:T17))).2.2)) c7)) (ev (vI y4.2.2.2.2.1)) kr r9 d6 ?_;rintro b7 f2 cs3 ⟨_,_,rfl,rfl,⟨_,_,rfl,rfl,⟨_,_,rfl,⟨a8,c8,rfl,r10⟩,⟨a9,c9,rfl,r11⟩⟩⟩⟩ hq2;refine qAn 13 56 (.pointer (some ⟨b7,f2+2,none⟩)) (.head _) (qFn 52 56 14 57 (f2+2) (vS a8 x2.2.2.1 c8) (.head _) (fun _ h=>h.1) (hq2.drop 2) (qAn 15 58 (vI (x2.2.2.1.length:Int)) (.head _) (qAn 16 59 (vB ((p5.length:Int) !=(x2.2.2.1.length:Int))) (.head _) (qBk kr (qAj (W_if hr ?_ ?_))))))
  .intro A hr;refine W_sr (qAd 2 [(60,.agg #[vI 0,vI 0,vI 0,vB false,vb,vI 0]),(12,vI 0)] (qAa rfl (qAw 32 13 60 (.agg #[vI 0,vI 0,vI 0,vB false,vb,vI 0]) g.f4 fun w17 g=>(qAh 1 [(14,vI 13)] (qBc (qAi ?_))))));cases hr;refine qFu [.tmp 12,.cell 13 32,.tmp 14] [vI 0,.agg #[vI 0,vI 0,vI 0,vB false,vb,vI 0],vI 13] rfl (ResAll.cons (ResAt.tmp kr) (ResAll.cons (ResAt.blk (v:= .agg #[vI 0,vI 0,vI 0,vB false,vb,vI 0]) (o:=0) kr g.h kr) (ResAll.cons (ResAt.tmp kr) ResAll.nil))) ?_;have g:=(g.nilroom 72 3).front1;exact⟨none,0,m10,rfl,q,g.t.f1.t.f1.t.f1.t.f1.t,(RepS.nil _ _)⟩
  intro A hr;refine qAq (qAj (W_sr (qAd 1 [(61,vP b4 0)] (qEo 62 37 7 0 (.agg #[vS a2 p1 c2]) g (hb2.mono e6) (qAd 1 [(63,.int .u64 p2)] (qAa rfl (qLb 64 15 #[vP b4 0,.agg #[vS a2 p1 c2],.int .u64 p2] kr rfl (W_cA Tryz.func15 rfl Tryz.ntmps15 (W_sr (qAa rfl (qDd 4 37 1 (.agg #[vS a2 p1 c2]) g fun b8 m11 w18 e7 g hb3=>(qAh 1 [] (W_sr (qAd 1 [(7,vP b4 0)] (qEo 8 37 4 0 (.agg #[vS a2 p1 c2]) g hb3 (qAd 1 [(9,.int .u64 p2)] (qAa rfl (qCn (d:=10) (t:=86) kr rfl g fun b9 w19 g=>(qAa rfl (qCn (d:=11) (t:=89) kr rfl g fun b10 w20 g=> ?_))))))))))))))))))));have⟨mp1,d7,hr⟩:=qAu hr;refine qAa rfl (qBf (ek:=(fun n:Int=>Value.int .i64 n)) (c:=cFn) (agg:=false) (k:=1) (yv:=(some 25:Tf)) (cs:=[.func (.func 25) #[] #[]]) (z:= .nilFunc) (v:=(.func (.func 25) #[] #[])) (kt:=3) (et:=87) (t:=89) (x:=(.tmp 11)) (y:=(.const (vI 1))) (u:=(.func 25)) kr (ev (.map (some b10))) (ev (vI 1)) (ev (.func (.func 25) #[] #[])) kr (qDp kr) g (MapQ.new (fun n:Int=>Value.int .i64 n) cFn false _ _) rfl rfl d7 fun es3 ck3 w21 g r12=> ?_);have⟨mp2,d8,hr⟩:=qAu hr
  refine qAa rfl (qBf (ek:=(fun n:Int=>Value.int .i64 n)) (c:=cFn) (agg:=false) (k:=2) (yv:=(some 26:Tf)) (cs:=[.func (.func 26) #[] #[]]) (z:= .nilFunc) (v:=(.func (.func 26) #[] #[])) (kt:=3) (et:=87) (t:=89) (x:=(.tmp 11)) (y:=(.const (vI 2))) (u:=(.func 26)) kr (ev (.map (some b10))) (ev (vI 2)) (ev (.func (.func 26) #[] #[])) kr (qDp kr) g r12 rfl rfl d8 fun es4 ck4 w22 g r13=> ?_);have⟨mp3,d9,hr⟩:=qAu hr;refine qAa rfl (qBf (ek:=(fun n:Int=>Value.int .i64 n)) (c:=cFn) (agg:=false) (k:=3) (yv:=(some 27:Tf)) (cs:=[.func (.func 27) #[] #[]]) (z:= .nilFunc) (v:=(.func (.func 27) #[] #[])) (kt:=3) (et:=87) (t:=89) (x:=(.tmp 11)) (y:=(.const (vI 3))) (u:=(.func 27)) kr (ev (.map (some b10))) (ev (vI 3)) (ev (.func (.func 27) #[] #[])) kr (qDp kr) g r13 rfl rfl d9 fun es5 ck5 w23 g r14=> ?_);have⟨mp4,d10,hr⟩:=qAu hr;refine qAa rfl (qBf (ek:=(fun n:Int=>Value.int .i64 n)) (c:=cFn) (agg:=false) (k:=4) (yv:=(some 28:Tf)) (cs:=[.func (.func 28) #[] #[]]) (z:= .nilFunc) (v:=(.func (.func 28) #[] #[])) (kt:=3) (et:=87) (t:=89) (x:=(.tmp 11)) (y:=(.const (vI 4))) (u:=(.func 28)) kr (ev (.map (some b10))) (ev (vI 4)) (ev (.func (.func 28) #[] #[])) kr (qDp kr) g r14 rfl rfl d10 fun es6 ck6 w24 g r15=> ?_);have⟨mp5,d11,hr⟩:=qAu hr
  refine qAa rfl (qBf (ek:=(fun n:Int=>Value.int .i64 n)) (c:=cFn) (agg:=false) (k:=5) (yv:=(some 29:Tf)) (cs:=[.func (.func 29) #[] #[]]) (z:= .nilFunc) (v:=(.func (.func 29) #[] #[])) (kt:=3) (et:=87) (t:=89) (x:=(.tmp 11)) (y:=(.const (vI 5))) (u:=(.func 29)) kr (ev (.map (some b10))) (ev (vI 5)) (ev (.func (.func 29) #[] #[])) kr (qDp kr) g r15 rfl rfl d11 fun es7 ck7 w25 g r16=> ?_);have⟨mp6,d12,hr⟩:=qAu hr;refine qAa rfl (qBf (ek:=(fun n:Int=>Value.int .i64 n)) (c:=cFn) (agg:=false) (k:=6) (yv:=(some 30:Tf)) (cs:=[.func (.func 30) #[] #[]]) (z:= .nilFunc) (v:=(.func (.func 30) #[] #[])) (kt:=3) (et:=87) (t:=89) (x:=(.tmp 11)) (y:=(.const (vI 6))) (u:=(.func 30)) kr (ev (.map (some b10))) (ev (vI 6)) (ev (.func (.func 30) #[] #[])) kr (qDp kr) g r16 rfl rfl d12 fun es8 ck8 w26 g r17=> ?_);have⟨mp7,d13,hr⟩:=qAu hr;refine qAa rfl (qBf (ek:=(fun n:Int=>Value.int .i64 n)) (c:=cFn) (agg:=false) (k:=7) (yv:=(some 31:Tf)) (cs:=[.func (.func 31) #[] #[]]) (z:= .nilFunc) (v:=(.func (.func 31) #[] #[])) (kt:=3) (et:=87) (t:=89) (x:=(.tmp 11)) (y:=(.const (vI 7))) (u:=(.func 31)) kr (ev (.map (some b10))) (ev (vI 7)) (ev (.func (.func 31) #[] #[])) kr (qDp kr) g r17 rfl rfl d13 fun es9 ck9 w27 g r18=> ?_);have⟨mp8,d14,hr⟩:=qAu hr
  refine qAa rfl (qBf (ek:=(fun n:Int=>Value.int .i64 n)) (c:=cFn) (agg:=false) (k:=8) (yv:=(some 32:Tf)) (cs:=[.func (.func 32) #[] #[]]) (z:= .nilFunc) (v:=(.func (.func 32) #[] #[])) (kt:=3) (et:=87) (t:=89) (x:=(.tmp 11)) (y:=(.const (vI 8))) (u:=(.func 32)) kr (ev (.map (some b10))) (ev (vI 8)) (ev (.func (.func 32) #[] #[])) kr (qDp kr) g r18 rfl rfl d14 fun es10 ck10 w28 g r19=> ?_);have⟨mp9,d15,hr⟩:=qAu hr;refine qAa rfl (qBf (ek:=(fun n:Int=>Value.int .i64 n)) (c:=cFn) (agg:=false) (k:=9) (yv:=(some 33:Tf)) (cs:=[.func (.func 33) #[] #[]]) (z:= .nilFunc) (v:=(.func (.func 33) #[] #[])) (kt:=3) (et:=87) (t:=89) (x:=(.tmp 11)) (y:=(.const (vI 9))) (u:=(.func 33)) kr (ev (.map (some b10))) (ev (vI 9)) (ev (.func (.func 33) #[] #[])) kr (qDp kr) g r19 rfl rfl d15 fun es11 ck11 w29 g r20=> ?_);have⟨mp10,d16,hr⟩:=qAu hr
  refine qAa rfl (qBf (ek:=(fun n:Int=>Value.int .i64 n)) (c:=cFn) (agg:=false) (k:=10) (yv:=(some 34:Tf)) (cs:=[.func (.func 34) #[] #[]]) (z:= .nilFunc) (v:=(.func (.func 34) #[] #[])) (kt:=3) (et:=87) (t:=89) (x:=(.tmp 11)) (y:=(.const (vI 10))) (u:=(.func 34)) kr (ev (.map (some b10))) (ev (vI 10)) (ev (.func (.func 34) #[] #[])) kr (qDp kr) g r20 rfl rfl d16 fun es12 ck12 w30 g r21=>(qAd 2 [(13,.agg #[vP b4 0,vS a2 p1 c2,.int .u64 p2,.map (some b9),vI 0,vI 0,vB false,.map (some b10)])] (qAa rfl (qLr 14 91 13 (.agg #[vP b4 0,vS a2 p1 c2,.int .u64 p2,.map (some b9),vI 0,vI 0,vB false,.map (some b10)]) g fun b11 w31 g=>(qAh 1 [(6,vP b11 0)] (qBc (X_rt [6] [vP b11 0] (⟨_,rfl,?_⟩))))))))
  refine qAh 1 [(17,vP b11 0)] (W_sr (qAd 4 [(65,vP b11 0),(68,.agg (Va 1 p3 p4))] (qAa rfl (qAx (d:=69) (t:=30) (e:=72) (len:=1) (parts:= #[(0,(.tmp 68))]) C9 (xs:=[(1,p3,p4)]) [vI 1,vT p3,vT p4] kr rfl (fun _=>qAy kr _) rfl rfl g ⟨[vI 1,vT p3,vT p4],_,rfl,⟨_,_,rfl,rfl,⟨_,_,rfl,rfl,rfl⟩⟩,rfl⟩ fun b12 m13 w32 e9 g r22=>(qBe 70 hr (fun _ h=>qCs (p0:=(y1,p1,p2,(some []:T1n),0,0,false,mp10)) g.f1.f2.f3.f7.f7.f7 (((r4.mono e6).mono e7).mono e9) ((r5.mono e7).mono e9) (((r6.mono e6).mono e7).mono e9) (((r7.mono e6).mono e7).mono e9) (((r2.mono e6).mono e7).mono e9) (MapQ.new qAz qBv false _ _) (r21.mono e9) r22 h) ?_)))));rintro y5 hr _ w33 ⟨es13,ck13,m14,rfl,e10,g,r23⟩;refine qBa rfl ?_;have g:=g.f6.t;refine qAj (W_sr (qAd 1 [(71,vP b11 0)] (qAa rfl (qBj 72 60 16 0 (.agg (Vd y4)) g.t.t.t.t.t.t.h (qAd 1 [(73,vS a3 p5 c3)] (qBe 74 hr (fun _ h=>qHo (p0:=(y1,p1,p2,y5.1,y5.2.1,y5.2.2.1,y5.2.2.2,mp10)) (p1:=y4) g.f5.f5.f5.f5.f5.f5 ((((r4.mono e6).mono e7).mono e9).mono e10) (((r5.mono e7).mono e9).mono e10) ((((r6.mono e6).mono e7).mono e9).mono e10) ((((r7.mono e6).mono e7).mono e9).mono e10) ((((r2.mono e6).mono e7).mono e9).mono e10) r23 ((r21.mono e9).mono e10) ((((r3.mono e6).mono e7).mono e9).mono e10) h) ?_))))));rintro y6 hr _ w34 ⟨es14,ck14,a10,c10,m15,rfl,e11,g,r24,r25⟩
  refine qAa rfl (qAw 32 13 74 (.agg (Vi y6.2.1.1 y6.2.1.2.1 y6.2.1.2.2 y6.2.2.1 a10 y6.2.2.2.1 c10 y6.2.2.2.2)) g.f8 fun w35 g=>(WO_e (qAt (qDi [(7,fun w'=>Inv m15 w'/\True),(5,fun w'=>Inv m15 w'/\Piece.holds m15 w' (kB b3 (Vi y6.2.1.1 y6.2.1.2.1 y6.2.1.2.2 y6.2.2.1 a10 y6.2.2.2.1 c10 y6.2.2.2.2) 32)/\True)] kr g fun w36 _ g=> ?_))));have hmS2:=m15.le_refl;refine⟨⟨iA g hmS2,⟨.inr ⟨Inv.anti g.inv hmS2,Piece.holds_anti g.h hmS2,trivial⟩,trivial⟩⟩,?_⟩;refine qAn 0 75 (vP b3 0) (.head _) (qAn 1 76 (vP b3 1) (.head _) (qDb 3 76 2 77 1 (vI y6.2.1.2.1) (.tail _ (.head _)) (fun _ h=>h.2.1) (qDb 32 13 3 78 0 (.agg (Vi y6.2.1.1 y6.2.1.2.1 y6.2.1.2.2 y6.2.2.1 a10 y6.2.2.2.1 c10 y6.2.2.2.2)) (.tail _ (.head _)) (fun _ h=>h.2.1) (qAn 4 12 (vI y6.2.1.2.1) (.head _) (qBh 5 kr (qAw 32 13 78 (.agg (Vi y6.2.1.1 y6.2.1.2.1 y6.2.1.2.2 y6.2.2.1 a10 y6.2.2.2.1 c10 y6.2.2.2.2)) g fun w37 g=>(⟨⟨iA g hmS2,⟨.inl rfl,trivial⟩⟩,?_⟩)))))));refine qAn 6 14 (vI 0) (.head _) (qBk kr (qAj (qBc ?_)));cases hr
  exact qFu [.tmp 12,.cell 13 32,.tmp 14] [vI y6.2.1.2.1,.agg (Vi y6.2.1.1 y6.2.1.2.1 y6.2.1.2.2 y6.2.2.1 a10 y6.2.2.2.1 c10 y6.2.2.2.2),vI 0] rfl (ResAll.cons (ResAt.tmp kr) (ResAll.cons (ResAt.blk (v:= .agg (Vi y6.2.1.1 y6.2.1.2.1 y6.2.1.2.2 y6.2.2.1 a10 y6.2.2.2.1 c10 y6.2.2.2.2)) (o:=0) kr g.h kr) (ResAll.cons (ResAt.tmp kr) ResAll.nil))) ⟨a10,c10,m15,rfl,(((q.t e7).t e9).t e10).t e11,g.t.f1.t.f1.t.f1.t.f1.t.f1.t.f1.t.f1.t,r25⟩
 intro K;refine qCc 3 23 4 22 1 (vB y1.2.1) g.t.t.h (qAd 2 [(25,vB (!y1.2.1))] (qEt 25 hr ?_ ?_))
 .intro A hr;refine qAd 8 [(33,vB true)] ?_;cases hr;exact qBq _ kr (K _ _ ⟨m3,rfl,q,g.f1.f1.f3.f3,r3,hb2,r2,r4,r6,r5,r7⟩)
 intro A hr;refine qEo 26 37 7 0 (.agg #[vS a2 p1 c2]) g hb2 (qBe 27 hr (fun _ h=>qGi g r2 h) ?_);rintro y2 hr _ w6 ⟨m5,rfl,e4,g⟩;refine qAd 3 [(30,vB (!y2))] (qEt 30 hr ?_ ?_)
 .intro A hr;refine qAd 3 [(33,vB true)] ?_;cases hr;exact qBq _ kr (K _ _ ⟨m5,rfl,q.t e4,g.f1.f1.f3.f3,r3.mono e4,hb2.mono e4,r2.mono e4,r4.mono e4,r6.mono e4,r5.mono e4,r7.mono e4⟩)
 intro A hr;refine qAd 1 [(31,vS a3 p5 c3)] (qAa rfl (qLb 32 11 #[vS a3 p5 c3,.func (.func 12) #[] #[]] kr rfl (W_cA Tryz.func11 rfl Tryz.ntmps11 (W_sr (qAh 1 [] (W_sr (qAd 2 [(5,vS a3 p5 c3),(6,.func (.func 12) #[] #[])] ?_)))))));have⟨o2,hr,j1⟩:=qAu hr;refine qAa rfl (qLb 7 23 #[vS a3 p5 c3,.func (.func 12) #[] #[]] kr rfl (qMx (fun v' w'=>∃m6,v'=(vI o2)/\m.le m6/\St m6 (kB b4 #[vS a4 y1.1 c4,vB y1.2.1,.map q1,vS a5 y1.2.2.2.1 c5,.map q2] 55::kB b3 #[vI 0,vI 0,vI 0,vB false,vb,vI 0] 32::qAb q1 es1 ck1::qAb q2 es2 ck2::O) w'/\RepS (cInt .i64) m6 a3 c3 p5/\MRow m6 b2 0 [vS a2 p1 c2]/\RepS C8 m6 a2 c2 p1/\RepS C1 m6 a4 c4 y1.1/\RepS cStr m6 a5 c5 y1.2.2.2.1/\MapQ (fun s:ByteArray=>Value.string s) C6 true m6 q1 es1 ck1 y1.2.2.1/\MapQ qAz C7 true m6 q2 es2 ck2 y1.2.2.2.2) ?_ ?_))
 .have hr:=j1;rintro _ w7 ⟨m6,rfl,q,g,r3,hb2,r2,r4,r6,r5,r7⟩;refine⟨_,rfl,?_⟩;refine qAh 2 [(4,vB (decide (o2>=0)))] (qBc (X_rt [4] [vB (decide (o2>=0))] (⟨_,rfl,?_⟩)));refine qAd 1 [(33,vB (decide (o2>=0)))] ?_;cases hr;exact qBq _ kr (K _ _ ⟨m6,rfl,q,g.f3.f3.f3.f3,r3,hb2,r2,r4,r6,r5,r7⟩)
 refine W_cA Tryz.func23 rfl Tryz.ntmps23 ?_;refine W_sr (qAh 1 [] (qAt (W_sr (qAh 3 [(7,vI (p5.length:Int)),(8,vI 0)] (qBd ?_)))));have⟨out1,hr,j2⟩:=qAu hr;refine qCz (.exit 0) (fun L' w'=>∃(o3:Unit),∃m7,(.inl o3)=out1/\L'=[]/\m.le m7/\St m7 (kB b4 #[vS a4 y1.1 c4,vB y1.2.1,.map q1,vS a5 y1.2.2.2.1 c5,.map q2] 55::kB b3 #[vI 0,vI 0,vI 0,vB false,vb,vI 0] 32::qAb q1 es1 ck1::qAb q2 es2 ck2::O) w'/\RepS (cInt .i64) m7 a3 c3 p5/\MRow m7 b2 0 [vS a2 p1 c2]/\RepS C8 m7 a2 c2 p1/\RepS C1 m7 a4 c4 y1.1/\RepS cStr m7 a5 c5 y1.2.2.2.1/\MapQ (fun s:ByteArray=>Value.string s) C6 true m7 q1 es1 ck1 y1.2.2.1/\MapQ qAz C7 true m7 q2 es2 ck2 y1.2.2.2.2) ?_ ?_
 .rintro _ w8 ⟨o3,m7,rfl,rfl,q,g,r3,hb2,r2,r4,r6,r5,r7⟩;have hr:=j2;refine qBo (qAj (W_sr (qAh 1 [(4,vI (-1))] (qBc ?_))));cases hr;exact X_rt [4] [vI (-1)] ⟨_,rfl,⟨m7,rfl,q,g.f3.f3.f3.f3,r3,hb2,r2,r4,r6,r5,r7⟩⟩
 intro K0_u2;refine qHe _ kr (qEz (fun k1 L' w'=>∃(s1:Int),∃m8,qCr (qFh N p5) k1 s1=some out1/\L'=[(0,vS a3 p5 c3),(1,.func (.func 12) #[] #[]),(7,vI (p5.length:Int)),(8,vI s1)]/\m.le m8/\St m8 (kB b4 #[vS a4 y1.1 c4,vB y1.2.1,.map q1,vS a5 y1.2.2.2.1 c5,.map q2] 55::kB b3 #[vI 0,vI 0,vI 0,vB false,vb,vI 0] 32::qAb q1 es1 ck1::qAb q2 es2 ck2::O) w'/\RepS (cInt .i64) m8 a3 c3 p5/\MRow m8 b2 0 [vS a2 p1 c2]/\RepS C8 m8 a2 c2 p1/\RepS C1 m8 a4 c4 y1.1/\RepS cStr m8 a5 c5 y1.2.2.2.1/\MapQ (fun s:ByteArray=>Value.string s) C6 true m8 q1 es1 ck1 y1.2.2.1/\MapQ qAz C7 true m8 q2 es2 ck2 y1.2.2.2.2) N ⟨0,m5,hr,rfl,q.t e4,g.f1.f1.f3.f3,r3.mono e4,hb2.mono e4,r2.mono e4,r4.mono e4,r6.mono e4,r5.mono e4,r7.mono e4⟩ ?_);rintro k1 _ w9 ⟨s1,m8,hL,rfl,q,g,r3,hb2,r2,r4,r6,r5,r7⟩;rcases k1 with _|k1
 .exact qBz hL
 obtain⟨qu2,hr,hSu2,hBu2⟩:=qBy hL;clear hL;unfold qFh at hr;refine W_sr (qAh 1 [(9,vB (decide (s1<(p5.length:Int))))] (qAt (W_if hr ?_ ?_)))
 .intro A hr;refine qAq (qAj (qAt (qBd (W_sr (qAh 2 [(5,vI s1)] (W_sr (qAd 3 [(11,.func (.func 12) #[] #[]),(12,vS a3 p5 c3),(13,vI s1)] (qAa rfl (qFe 14 39 3 12 13 r3 hr ?_)))))))));rintro x1 hr b5 f1 cs1 rfl hq1;refine qEo 15 3 14 f1 (vI x1) g hq1 (qBe 16 hr (fun _ h=>qNd g h) ?_);rintro y3 hr _ w10 ⟨m9,rfl,e5,g⟩;refine WO_e (W_if hr ?_ ?_)
  .intro A hr;refine W_sr (qAh 2 [(4,vI s1)] (qBc (qAo (qAi ?_))));obtain rfl:=sI hr;have ho:=hBu2 _ rfl;subst ho;have hr:=j2;refine qAi (qAo (qAi ?_));obtain rfl:=sI hr;exact X_rt [4] [vI s1] ⟨_,rfl,⟨m9,rfl,q.t e5,g.f3.f3.f3.f3,r3.mono e5,hb2.mono e5,r2.mono e5,r4.mono e5,r6.mono e5,r5.mono e5,r7.mono e5⟩⟩
  intro A hr;refine qAq (qBm (qAj (qAs (qAd 2 [(8,vI (wr (s1+1)))] (qBa rfl ?_)))));obtain rfl:=sI hr;have hL:=hSu2 _ rfl;exact xE (qDj k1 (jA _) ⟨wr (s1+1),m9,hL,rfl,q.t e5,g.f3.f3.f3.f3,r3.mono e5,hb2.mono e5,r2.mono e5,r4.mono e5,r6.mono e5,r5.mono e5,r7.mono e5⟩)
 intro A hr;refine qEd (qAp ?_);cases hr;have ho:=hBu2 _ rfl;have g:=g.f3.f3.f3.f3;refine qAp ?_;exact xE (K0_u2 _ _ ⟨(),m8,ho,rfl,q,g,r3,hb2,r2,r4,r6,r5,r7⟩)
def qIh(N:Nat)(p0:Ti)(p1:T18)(p2:Int)(p3:Th):Option (T20×Int):=
 (qJb N p0).bind fun y1=>(if(!y1.2.1)=true then(some true) else((qDk N p1).bind fun y2=>some (!y2)):T5).bind fun o1=>if o1=true then(some (((0,0,0),false,([]:T1v),0),1)) else((qCx N y1 2 p3.1 p3.2).bind fun y3=>if(y3.2.2.2.2.2 !=1)=true then(some (((0,0,0),false,([]:T1v),0),18)) else((qDy (some []:Option (List (Int×Tf))) 1 (some 25:Tf)).bind fun mp1=>(qDy mp1 2 (some 26:Tf)).bind fun mp2=>(qDy mp2 3 (some 27:Tf)).bind fun mp3=>(qDy mp3 4 (some 28:Tf)).bind fun mp4=>(qDy mp4 5 (some 29:Tf)).bind fun mp5=>(qDy mp5 6 (some 30:Tf)).bind fun mp6=>(qDy mp6 7 (some 31:Tf)).bind fun mp7=>(qDy mp7 8 (some 32:Tf)).bind fun mp8=>(qDy mp8 9 (some 33:Tf)).bind fun mp9=>(qDy mp9 10 (some 34:Tf)).bind fun mp10=>(qBg N (y1,p1,p2,(some []:T1n),0,0,false,mp10) ([(2,p3.1,p3.2)])).bind fun y4=>(qDf N (y1,p1,p2,y4.1,y4.2.1,y4.2.2.1,y4.2.2.2,mp10) y3 ([]:Tg)).bind fun y5=>some ((y5.2.1,y5.2.2.1,y5.2.2.2.1,y5.2.2.2.2),0)))
theorem qLx{p0:Ti}{p1:T18}{p2:Int}{p3:Th}{r:T20×Int}(g:St m (O) w)(r1:RepS C1 m a1 c1 p0)(r2:RepS C8 m a2 c2 p1)(hr:qIh N p0 p1 p2 p3=some r):Calls Tryz.prog 8 #[.agg #[vS a1 p0 c1],.agg #[vS a2 p1 c2],.int .u64 p2,.agg (V1 p3)] w fun e w'=>∃ra1 rc1 m',e= .returned (.tuple #[.agg (Vi r.1.1.1 r.1.1.2.1 r.1.1.2.2 r.1.2.1 ra1 r.1.2.2.1 rc1 r.1.2.2.2),vI r.2])/\m.le m'/\St m' (kR ra1 r.1.2.2.1 rc1 72 3::O) w'/\RepS C9 m' ra1 rc1 r.1.2.2.1:=by
 unfold qIh at hr;have q:=m.le_refl;refine W_cA Tryz.func8 rfl Tryz.ntmps8 ?_;refine W_sr (qAa rfl (qDd 4 26 0 (.agg #[vS a1 p0 c1]) g fun b1 m1 w1 e1 g hb1=>(qAa rfl (qDd 5 37 1 (.agg #[vS a2 p1 c2]) g fun b2 m2 w2 e2 g hb2=>(qAa rfl (qDd 7 47 3 (.agg (V1 p3)) g fun b3 m3 w3 e3 g hb3=>(qAa rfl (qBn 8 32 (.agg #[vI 0,vI 0,vI 0,vB false,v6,vI 0]) g fun b4 w4 g=>(qAh 1 [] (W_sr (qEo 13 26 4 0 (.agg #[vS a1 p0 c1]) g ((hb1.mono e2).mono e3) (qBe 14 hr (fun _ h=>qOb g (((r1.mono e1).mono e2).mono e3) h) ?_))))))))))));rintro y1 hr _ w5 ⟨b5,a3,c3,q1,es1,ck1,a4,c4,q2,es2,ck2,m4,rfl,e4,g,r3,r4,r5,r6⟩;have hb2:=(hb2.mono e3).mono e4;have r2:=(((r2.mono e1).mono e2).mono e3).mono e4;refine qAh 1 [(10,vP b5 0)] (qAt (W_sr ?_));have⟨o1,hr,J⟩:=qAu hr;refine qGj (j:=10) (fun L' w'=>∃m5,L'=[(2,.int .u64 p2),(5,vP b2 0),(7,vP b3 0),(8,vP b4 0),(10,vP b5 0),(24,vB o1)]/\m.le m5/\St m5 (kB b5 #[vS a3 y1.1 c3,vB y1.2.1,.map q1,vS a4 y1.2.2.2.1 c4,.map q2] 55::kB b4 #[vI 0,vI 0,vI 0,vB false,vb,vI 0] 32::qAb q1 es1 ck1::qAb q2 es2 ck2::O) w'/\MRow m5 b2 0 [vS a2 p1 c2]/\RepS C8 m5 a2 c2 p1/\MRow m5 b3 0 [vT p3.1,vT p3.2]/\RepS C1 m5 a3 c3 y1.1/\RepS cStr m5 a4 c4 y1.2.2.2.1/\MapQ (fun s:ByteArray=>Value.string s) C6 true m5 q1 es1 ck1 y1.2.2.1/\MapQ qAz C7 true m5 q2 es2 ck2 y1.2.2.2.2) ?_ ?_
 .have hr:=J;rintro _ w6 ⟨m5,rfl,q,g,hb2,r2,hb3,r3,r5,r4,r6⟩;refine WO_e (W_if hr ?_ ?_)
  .intro A hr;refine W_sr (qAd 1 [(25,.agg #[vI 0,vI 0,vI 0,vB false,vb,vI 0])] (qAa rfl (qAw 32 8 25 (.agg #[vI 0,vI 0,vI 0,vB false,vb,vI 0]) g.f1 fun w8 g=>(qAh 1 [(9,vI 1)] (qBc (qAi ?_))))));cases hr;refine qFu [.cell 8 32,.tmp 9] [.agg #[vI 0,vI 0,vI 0,vB false,vb,vI 0],vI 1] rfl (ResAll.cons (ResAt.blk (v:= .agg #[vI 0,vI 0,vI 0,vB false,vb,vI 0]) (o:=0) kr g.h kr) (ResAll.cons (ResAt.tmp kr) ResAll.nil)) ?_;have g:=(g.nilroom 72 3).front1;exact⟨none,0,m5,rfl,q,g.t.f1.t.f1.t.f1.t,(RepS.nil _ _)⟩
  intro A hr;refine qAq (qAj (W_sr (qAd 2 [(26,vP b5 0),(27,vP b3 0)] (qEo 28 9 27 0 (vT p3.1) g hb3 (qAd 1 [(29,vP b3 1)] (qAa rfl (qCb (d:=30) (t:=9) (x:=(.tmp 29)) (vT p3.2) kr rfl (ev (vP b3 1)) g (hb3.drop 1) kr (qBe 31 hr (fun _ h=>qFa g.f3.f3 r3 r4 r5 r6 h) ?_))))))));rintro y3 hr _ w9 ⟨m7,rfl,e6,g⟩;refine qAa rfl (qBn 11 60 (.agg (Vc eB eB 0 eB 0 0)) g fun b6 w10 g=>(qAa rfl (qAw 60 11 31 (.agg (Vd y3)) g fun w11 g=>(WO_e (qAt (W_sr (qCc 1 33 3 32 5 (vI y3.2.2.2.2.2) g.h (qAh 1 [(34,vB (y3.2.2.2.2.2 !=1))] (W_if hr ?_ ?_)))))))))
  .intro A hr;refine W_sr (qAd 1 [(35,.agg #[vI 0,vI 0,vI 0,vB false,vb,vI 0])] (qAa rfl (qAw 32 8 35 (.agg #[vI 0,vI 0,vI 0,vB false,vb,vI 0]) g.f4 fun w12 g=>(qAh 1 [(9,vI 18)] (qBc (qAi ?_))))));cases hr;refine qFu [.cell 8 32,.tmp 9] [.agg #[vI 0,vI 0,vI 0,vB false,vb,vI 0],vI 18] rfl (ResAll.cons (ResAt.blk (v:= .agg #[vI 0,vI 0,vI 0,vB false,vb,vI 0]) (o:=0) kr g.h kr) (ResAll.cons (ResAt.tmp kr) ResAll.nil)) ?_;have g:=(g.nilroom 72 3).front1;exact⟨none,0,m7,rfl,q.t e6,g.t.f1.t.f1.t.f1.t.f1.t,(RepS.nil _ _)⟩
  intro A hr;refine qAq (qAj (W_sr (qAd 1 [(36,vP b5 0)] (qEo 37 37 5 0 (.agg #[vS a2 p1 c2]) g (hb2.mono e6) (qAd 1 [(38,.int .u64 p2)] (qAa rfl (qLb 39 15 #[vP b5 0,.agg #[vS a2 p1 c2],.int .u64 p2] kr rfl (W_cA Tryz.func15 rfl Tryz.ntmps15 (W_sr (qAa rfl (qDd 4 37 1 (.agg #[vS a2 p1 c2]) g fun b7 m8 w13 e7 g hb4=>(qAh 1 [] (W_sr (qAd 1 [(7,vP b5 0)] (qEo 8 37 4 0 (.agg #[vS a2 p1 c2]) g hb4 (qAd 1 [(9,.int .u64 p2)] (qAa rfl (qCn (d:=10) (t:=86) kr rfl g fun b8 w14 g=>(qAa rfl (qCn (d:=11) (t:=89) kr rfl g fun b9 w15 g=> ?_))))))))))))))))))));have⟨mp1,d4,hr⟩:=qAu hr;refine qAa rfl (qBf (ek:=(fun n:Int=>Value.int .i64 n)) (c:=cFn) (agg:=false) (k:=1) (yv:=(some 25:Tf)) (cs:=[.func (.func 25) #[] #[]]) (z:= .nilFunc) (v:=(.func (.func 25) #[] #[])) (kt:=3) (et:=87) (t:=89) (x:=(.tmp 11)) (y:=(.const (vI 1))) (u:=(.func 25)) kr (ev (.map (some b9))) (ev (vI 1)) (ev (.func (.func 25) #[] #[])) kr (qDp kr) g (MapQ.new (fun n:Int=>Value.int .i64 n) cFn false _ _) rfl rfl d4 fun es3 ck3 w16 g r7=> ?_);have⟨mp2,d5,hr⟩:=qAu hr
  refine qAa rfl (qBf (ek:=(fun n:Int=>Value.int .i64 n)) (c:=cFn) (agg:=false) (k:=2) (yv:=(some 26:Tf)) (cs:=[.func (.func 26) #[] #[]]) (z:= .nilFunc) (v:=(.func (.func 26) #[] #[])) (kt:=3) (et:=87) (t:=89) (x:=(.tmp 11)) (y:=(.const (vI 2))) (u:=(.func 26)) kr (ev (.map (some b9))) (ev (vI 2)) (ev (.func (.func 26) #[] #[])) kr (qDp kr) g r7 rfl rfl d5 fun es4 ck4 w17 g r8=> ?_);have⟨mp3,d6,hr⟩:=qAu hr;refine qAa rfl (qBf (ek:=(fun n:Int=>Value.int .i64 n)) (c:=cFn) (agg:=false) (k:=3) (yv:=(some 27:Tf)) (cs:=[.func (.func 27) #[] #[]]) (z:= .nilFunc) (v:=(.func (.func 27) #[] #[])) (kt:=3) (et:=87) (t:=89) (x:=(.tmp 11)) (y:=(.const (vI 3))) (u:=(.func 27)) kr (ev (.map (some b9))) (ev (vI 3)) (ev (.func (.func 27) #[] #[])) kr (qDp kr) g r8 rfl rfl d6 fun es5 ck5 w18 g r9=> ?_);have⟨mp4,d7,hr⟩:=qAu hr;refine qAa rfl (qBf (ek:=(fun n:Int=>Value.int .i64 n)) (c:=cFn) (agg:=false) (k:=4) (yv:=(some 28:Tf)) (cs:=[.func (.func 28) #[] #[]]) (z:= .nilFunc) (v:=(.func (.func 28) #[] #[])) (kt:=3) (et:=87) (t:=89) (x:=(.tmp 11)) (y:=(.const (vI 4))) (u:=(.func 28)) kr (ev (.map (some b9))) (ev (vI 4)) (ev (.func (.func 28) #[] #[])) kr (qDp kr) g r9 rfl rfl d7 fun es6 ck6 w19 g r10=> ?_);have⟨mp5,d8,hr⟩:=qAu hr
  refine qAa rfl (qBf (ek:=(fun n:Int=>Value.int .i64 n)) (c:=cFn) (agg:=false) (k:=5) (yv:=(some 29:Tf)) (cs:=[.func (.func 29) #[] #[]]) (z:= .nilFunc) (v:=(.func (.func 29) #[] #[])) (kt:=3) (et:=87) (t:=89) (x:=(.tmp 11)) (y:=(.const (vI 5))) (u:=(.func 29)) kr (ev (.map (some b9))) (ev (vI 5)) (ev (.func (.func 29) #[] #[])) kr (qDp kr) g r10 rfl rfl d8 fun es7 ck7 w20 g r11=> ?_);have⟨mp6,d9,hr⟩:=qAu hr;refine qAa rfl (qBf (ek:=(fun n:Int=>Value.int .i64 n)) (c:=cFn) (agg:=false) (k:=6) (yv:=(some 30:Tf)) (cs:=[.func (.func 30) #[] #[]]) (z:= .nilFunc) (v:=(.func (.func 30) #[] #[])) (kt:=3) (et:=87) (t:=89) (x:=(.tmp 11)) (y:=(.const (vI 6))) (u:=(.func 30)) kr (ev (.map (some b9))) (ev (vI 6)) (ev (.func (.func 30) #[] #[])) kr (qDp kr) g r11 rfl rfl d9 fun es8 ck8 w21 g r12=> ?_);have⟨mp7,d10,hr⟩:=qAu hr;refine qAa rfl (qBf (ek:=(fun n:Int=>Value.int .i64 n)) (c:=cFn) (agg:=false) (k:=7) (yv:=(some 31:Tf)) (cs:=[.func (.func 31) #[] #[]]) (z:= .nilFunc) (v:=(.func (.func 31) #[] #[])) (kt:=3) (et:=87) (t:=89) (x:=(.tmp 11)) (y:=(.const (vI 7))) (u:=(.func 31)) kr (ev (.map (some b9))) (ev (vI 7)) (ev (.func (.func 31) #[] #[])) kr (qDp kr) g r12 rfl rfl d10 fun es9 ck9 w22 g r13=> ?_);have⟨mp8,d11,hr⟩:=qAu hr
  refine qAa rfl (qBf (ek:=(fun n:Int=>Value.int .i64 n)) (c:=cFn) (agg:=false) (k:=8) (yv:=(some 32:Tf)) (cs:=[.func (.func 32) #[] #[]]) (z:= .nilFunc) (v:=(.func (.func 32) #[] #[])) (kt:=3) (et:=87) (t:=89) (x:=(.tmp 11)) (y:=(.const (vI 8))) (u:=(.func 32)) kr (ev (.map (some b9))) (ev (vI 8)) (ev (.func (.func 32) #[] #[])) kr (qDp kr) g r13 rfl rfl d11 fun es10 ck10 w23 g r14=> ?_);have⟨mp9,d12,hr⟩:=qAu hr;refine qAa rfl (qBf (ek:=(fun n:Int=>Value.int .i64 n)) (c:=cFn) (agg:=false) (k:=9) (yv:=(some 33:Tf)) (cs:=[.func (.func 33) #[] #[]]) (z:= .nilFunc) (v:=(.func (.func 33) #[] #[])) (kt:=3) (et:=87) (t:=89) (x:=(.tmp 11)) (y:=(.const (vI 9))) (u:=(.func 33)) kr (ev (.map (some b9))) (ev (vI 9)) (ev (.func (.func 33) #[] #[])) kr (qDp kr) g r14 rfl rfl d12 fun es11 ck11 w24 g r15=> ?_);have⟨mp10,d13,hr⟩:=qAu hr
  refine qAa rfl (qBf (ek:=(fun n:Int=>Value.int .i64 n)) (c:=cFn) (agg:=false) (k:=10) (yv:=(some 34:Tf)) (cs:=[.func (.func 34) #[] #[]]) (z:= .nilFunc) (v:=(.func (.func 34) #[] #[])) (kt:=3) (et:=87) (t:=89) (x:=(.tmp 11)) (y:=(.const (vI 10))) (u:=(.func 34)) kr (ev (.map (some b9))) (ev (vI 10)) (ev (.func (.func 34) #[] #[])) kr (qDp kr) g r15 rfl rfl d13 fun es12 ck12 w25 g r16=>(qAd 2 [(13,.agg #[vP b5 0,vS a2 p1 c2,.int .u64 p2,.map (some b8),vI 0,vI 0,vB false,.map (some b9)])] (qAa rfl (qLr 14 91 13 (.agg #[vP b5 0,vS a2 p1 c2,.int .u64 p2,.map (some b8),vI 0,vI 0,vB false,.map (some b9)]) g fun b10 w26 g=>(qAh 1 [(6,vP b10 0)] (qBc (X_rt [6] [vP b10 0] (⟨_,rfl,?_⟩))))))))
  refine qAh 1 [(12,vP b10 0)] (W_sr (qAd 2 [(40,vP b10 0),(41,vP b3 0)] (qEo 42 9 41 0 (vT p3.1) g ((hb3.mono e6).mono e7) (qAd 1 [(43,vP b3 1)] (qAa rfl (qCb (d:=44) (t:=9) (x:=(.tmp 43)) (vT p3.2) kr rfl (ev (vP b3 1)) g (((hb3.mono e6).mono e7).drop 1) kr (qAd 1 [(45,.agg (Va 2 p3.1 p3.2))] (qAa rfl (qAx (d:=46) (t:=30) (e:=72) (len:=1) (parts:= #[(0,(.tmp 45))]) C9 (xs:=[(2,p3.1,p3.2)]) [vI 2,vT p3.1,vT p3.2] kr rfl (fun _=>qAy kr _) rfl rfl g ⟨[vI 2,vT p3.1,vT p3.2],_,rfl,⟨_,_,rfl,rfl,⟨_,_,rfl,rfl,rfl⟩⟩,rfl⟩ fun b11 m10 w27 e9 g r17=>(qBe 47 hr (fun _ h=>qCs (p0:=(y1,p1,p2,(some []:T1n),0,0,false,mp10)) g.f1.f2.f3.f7.f7.f7 (((r3.mono e6).mono e7).mono e9) (((r4.mono e6).mono e7).mono e9) (((r5.mono e6).mono e7).mono e9) (((r6.mono e6).mono e7).mono e9) (((r2.mono e6).mono e7).mono e9) (MapQ.new qAz qBv false _ _) (r16.mono e9) r17 h) ?_))))))))));rintro y4 hr _ w28 ⟨es13,ck13,m11,rfl,e10,g,r18⟩;refine qBa rfl ?_;have g:=g.f6.t
  refine qAj (W_sr (qAd 1 [(48,vP b10 0)] (qAa rfl (qBj 49 60 11 0 (.agg (Vd y3)) g.t.t.t.t.t.t.h (qBe 50 hr (fun _ h=>qHo (p0:=(y1,p1,p2,y4.1,y4.2.1,y4.2.2.1,y4.2.2.2,mp10)) (p1:=y3) g.f5.f5.f5.f5.f5.f5 ((((r3.mono e6).mono e7).mono e9).mono e10) ((((r4.mono e6).mono e7).mono e9).mono e10) ((((r5.mono e6).mono e7).mono e9).mono e10) ((((r6.mono e6).mono e7).mono e9).mono e10) ((((r2.mono e6).mono e7).mono e9).mono e10) r18 ((r16.mono e9).mono e10) (RepS.nil _ _) h) ?_)))));rintro y5 hr _ w29 ⟨es14,ck14,a5,c5,m12,rfl,e11,g,r19,r20⟩;refine qAa rfl (qAw 32 8 50 (.agg (Vi y5.2.1.1 y5.2.1.2.1 y5.2.1.2.2 y5.2.2.1 a5 y5.2.2.2.1 c5 y5.2.2.2.2)) g.f8 fun w30 g=>(qAh 1 [(9,vI 0)] (qBc ?_)));cases hr;exact qFu [.cell 8 32,.tmp 9] [.agg (Vi y5.2.1.1 y5.2.1.2.1 y5.2.1.2.2 y5.2.2.1 a5 y5.2.2.2.1 c5 y5.2.2.2.2),vI 0] rfl (ResAll.cons (ResAt.blk (v:= .agg (Vi y5.2.1.1 y5.2.1.2.1 y5.2.1.2.2 y5.2.2.1 a5 y5.2.2.2.1 c5 y5.2.2.2.2)) (o:=0) kr g.h kr) (ResAll.cons (ResAt.tmp kr) ResAll.nil)) ⟨a5,c5,m12,rfl,((((q.t e6).t e7).t e9).t e10).t e11,g.t.f1.t.f1.t.f1.t.f1.t.f1.t.f1.t.f1.t,r20⟩
 intro K;refine qCc 3 18 4 17 1 (vB y1.2.1) g.t.t.h (qAd 2 [(20,vB (!y1.2.1))] (qEt 20 hr ?_ ?_))
 .intro A hr;refine qAd 4 [(24,vB true)] ?_;cases hr;exact qBq _ kr (K _ _ ⟨m4,rfl,(((q.t e1).t e2).t e3).t e4,g.f1.f1.f3.f3,hb2,r2,hb3.mono e4,r3,r5,r4,r6⟩)
 intro A hr;refine qEo 21 37 5 0 (.agg #[vS a2 p1 c2]) g hb2 (qBe 22 hr (fun _ h=>qGi g r2 h) ?_);rintro y2 hr _ w7 ⟨m6,rfl,e5,g⟩;refine qAd 2 [(24,vB (!y2))] ?_;cases hr;exact qBq _ kr (K _ _ ⟨m6,rfl,((((q.t e1).t e2).t e3).t e4).t e5,g.f1.f1.f3.f3,hb2.mono e5,r2.mono e5,(hb3.mono e4).mono e5,r3.mono e5,r5.mono e5,r4.mono e5,r6.mono e5⟩)
def qGb(N:Nat):T5:=
 (qIh N ([((⟨#[97,46,115,114,99]⟩:ByteArray),(⟨#[112,97,99,107,97,103,101,32,112,59,32,102,117,110,99,32,102,40,120,41,32,61,32,120,32,42,32,120,59,32,116,101,115,116,32,116,32,61,32,102,40,50,41,32,61,61,32,52,59]⟩:ByteArray))]) ([]:T18) 0 ((⟨#[112]⟩:ByteArray),(⟨#[116]⟩:ByteArray))).bind fun y1=>(qCa N ([((⟨#[97,46,115,114,99]⟩:ByteArray),(⟨#[112,97,99,107,97,103,101,32,112,59,32,102,117,110,99,32,102,40,120,41,32,61,32,120,32,42,32,120,59,32,116,101,115,116,32,116,32,61,32,102,40,50,41,32,61,61,32,52,59]⟩:ByteArray))]) ([]:T18) 0 (⟨#[112]⟩:ByteArray) (⟨#[102]⟩:ByteArray) ([(3:Int)])).bind fun y2=>(if(y1.2==0)=true then(if(y2.2.2==0)=true then(if((y1.1.1.1==1)&&((y1.1.1.2.1==1)&&((y1.1.1.2.2==0)&&true)))=true then(if(y1.1.2.2.2==7)=true then(if((List.length y1.1.2.2.1:Int)==2)=true then(some (y2.1==9)) else(some false)) else(some false)) else(some false)) else(some false)) else(some false):T5).bind fun o1=>some o1
theorem qLe{r:Bool}(g:St m (O) w)(hr:qGb N=some r):Calls Tryz.prog 7 #[] w fun e w'=>∃m',e= .returned (vB r)/\m.le m'/\St m' (O) w':=by
 unfold qGb at hr;have q:=m.le_refl;refine W_cA Tryz.func7 rfl Tryz.ntmps7 ?_;refine W_sr (qAh 1 [] (W_sr (qAd 1 [(7,.agg #[vT bw,vT bx])] (qAa rfl (qAx (d:=8) (t:=24) (e:=23) (len:=1) (parts:= #[(0,(.tmp 7))]) C1 (xs:=[(bw,bx)]) [vT bw,vT bx] kr rfl (fun _=>qAy kr _) rfl rfl g ⟨[vT bw,vT bx],_,rfl,⟨_,_,rfl,rfl,rfl⟩,rfl⟩ fun b1 m1 w1 e1 g r1=>(qAd 1 [(9,.agg #[.slice (aP b1) (List.length ([(bw,bx)])) 1])] (qAa rfl (qBn 1 26 (.agg #[v6]) g fun b2 w2 g=>(qAa rfl (qAw 26 1 9 (.agg #[.slice (aP b1) (List.length ([(bw,bx)])) 1]) g fun w3 g=>(WO_e (W_sr (qAa rfl (qBj 11 26 1 0 (.agg #[.slice (aP b1) (List.length ([(bw,bx)])) 1]) g.h (qAd 2 [(12,.agg #[vc]),(13,.agg #[vT bz,vT b17])] (qBe 14 hr (fun _ h=>qLx (p3:=(bz,b17)) g r1 (RepS.nil _ _) h) ?_))))))))))))))));rintro y1 hr _ w4 ⟨a1,c1,m2,rfl,e2,g,r2⟩
 refine qAd 3 [(15,.agg (Vi y1.1.1.1 y1.1.1.2.1 y1.1.1.2.2 y1.1.2.1 a1 y1.1.2.2.1 c1 y1.1.2.2.2)),(16,vI y1.2)] (qAa rfl (qBn 2 32 (.agg #[vI 0,vI 0,vI 0,vB false,v6,vI 0]) g fun b3 w5 g=>(qAa rfl (qAw 32 2 15 (.agg (Vi y1.1.1.1 y1.1.1.2.1 y1.1.1.2.2 y1.1.2.1 a1 y1.1.2.2.1 c1 y1.1.2.2.2)) g fun w6 g=>(qAh 1 [(3,vI y1.2)] (W_sr (qAa rfl (qBj 18 26 1 0 (.agg #[.slice (aP b1) (List.length ([(bw,bx)])) 1]) g.t.t.h (qAd 1 [(19,.agg #[vc])] (qAa rfl (qAx (d:=20) (t:=39) (e:=3) (len:=1) (parts:= #[(0,(.const (vI 3)))]) (cInt .i64) (xs:=[(3:Int)]) [vI 3] kr rfl (fun _=>qAy kr _) rfl rfl g ⟨[vI 3],_,rfl,rfl,rfl⟩ fun b4 m3 w7 e3 g r3=>(qBe 21 hr (fun _ h=>qGy g ((r1.mono e2).mono e3) (RepS.nil _ _) r3 h) ?_))))))))))));rintro y2 hr _ w8 ⟨a2,c2,m4,rfl,e4,g,r4⟩;have q:=(((q.t e1).t e2).t e3).t e4;have r1:=((r1.mono e2).mono e3).mono e4;have r2:=(r2.mono e3).mono e4;refine qAd 4 [(22,vI y2.1),(23,.agg (Vi y2.2.1.1.1 y2.2.1.1.2.1 y2.2.1.1.2.2 y2.2.1.2.1 a2 y2.2.1.2.2.1 c2 y2.2.1.2.2.2)),(24,vI y2.2.2)] (qAa rfl (qBn 5 32 (.agg #[vI 0,vI 0,vI 0,vB false,v6,vI 0]) g fun b5 w9 g=>(qAd 1 [(4,vI y2.1)] (qAa rfl (qAw 32 5 23 (.agg (Vi y2.2.1.1.1 y2.2.1.1.2.1 y2.2.1.1.2.2 y2.2.1.2.1 a2 y2.2.1.2.2.1 c2 y2.2.1.2.2.2)) g fun w10 g=>(qAd 1 [(6,vI y2.2.2)] (qBa rfl ?_)))))));have g:=g.f2.t;refine qAj (W_sr ?_);have⟨o1,hr,J⟩:=qAu hr
 refine qGj (j:=28) (fun L' w'=>∃m5,L'=[(0,vB o1)]/\m.le m5/\St m5 (kB b5 (Vi y2.2.1.1.1 y2.2.1.1.2.1 y2.2.1.1.2.2 y2.2.1.2.1 a2 y2.2.1.2.2.1 c2 y2.2.1.2.2.2) 32::kB b3 (Vi y1.1.1.1 y1.1.1.2.1 y1.1.1.2.2 y1.1.2.1 a1 y1.1.2.2.1 c1 y1.1.2.2.2) 32::kB b2 #[.slice (aP b1) (List.length ([(bw,bx)])) 1] 26::kR a2 y2.2.1.2.2.1 c2 72 3::kR a1 y1.1.2.2.1 c1 72 3:: .room (aP b1) (List.length ([(bw,bx)])) 1 23 2::O) w'/\RepS C9 m5 a2 c2 y2.2.1.2.2.1/\RepS C9 m5 a1 c1 y1.1.2.2.1/\RepS C1 m5 (aP b1) 1 ([(bw,bx)])) ?_ ?_
 .have hr:=J;rintro _ w11 ⟨m5,rfl,q,g,r4,r2,r1⟩;refine WO_e (qBc ?_);obtain rfl:=sI hr;exact X_rt [0] [vB o1] ⟨m5,rfl,q,g.t.t.t.t.t.t⟩
 intro K;refine qAd 3 [(27,vB (y1.2==0))] (qEt 27 hr ?_ ?_)
 .intro A hr;refine qAd 4 [(31,vB (y2.2.2==0))] (qEt 31 hr ?_ ?_)
  .intro A hr;refine qCc 1 33 29 32 0 (.agg (Vf y1.1.1)) g.t.t.h (qAd 1 [(34,.agg (Vg 1 1 0))] (qAa rfl (qQy (d:=35) (t:=29) (t2:=29) (x:=(.tmp 33)) (y:=(.tmp 34)) (xs:=(Vf y1.1.1)) (ys:=(Vg 1 1 0)) ((y1.1.1.1==1)&&((y1.1.1.2.1==1)&&((y1.1.1.2.2==0)&&true))) kr rfl (ev (.agg (Vf y1.1.1))) (ev (.agg (Vg 1 1 0))) kr kr kr (qAd 2 [(37,vB ((y1.1.1.1==1)&&((y1.1.1.2.1==1)&&((y1.1.1.2.2==0)&&true))))] (qEt 37 hr ?_ ?_)))))
   .intro A hr;refine qCc 1 39 3 38 5 (vI y1.1.2.2.2) g.t.t.h (qAd 3 [(42,vB (y1.1.2.2.2==7))] (qEt 42 hr ?_ ?_))
    .intro A hr;refine qCc 1 44 30 43 4 (vS a1 y1.1.2.2.1 c1) g.t.t.h (qAd 4 [(48,vB ((y1.1.2.2.1.length:Int)==2))] (qEt 48 hr ?_ ?_))
     .intro A hr;refine qAd 4 [(0,vB (y2.1==9))] ?_;cases hr;exact qBq _ kr (K _ _ ⟨m4,rfl,q,g.f5.f4.f3.f5.f5.f5,r4,r2,r1⟩)
     intro A hr;refine qAd 4 [(0,vB false)] ?_;cases hr;exact qBq _ kr (K _ _ ⟨m4,rfl,q,g.f5.f4.f3.f5.f5.f5,r4,r2,r1⟩)
    intro A hr;refine qAd 10 [(0,vB false)] ?_;cases hr;exact qBq _ kr (K _ _ ⟨m4,rfl,q,g.f5.f4.f3.f5.f5.f5,r4,r2,r1⟩)
   intro A hr;refine qAd 15 [(0,vB false)] ?_;cases hr;exact qBq _ kr (K _ _ ⟨m4,rfl,q,g.f5.f4.f3.f5.f5.f5,r4,r2,r1⟩)
  intro A hr;refine qAd 21 [(0,vB false)] ?_;cases hr;exact qBq _ kr (K _ _ ⟨m4,rfl,q,g.f5.f4.f3.f5.f5.f5,r4,r2,r1⟩)
 intro A hr;refine qAd 25 [(0,vB false)] ?_;cases hr;exact qBq _ kr (K _ _ ⟨m4,rfl,q,g.f5.f4.f3.f5.f5.f5,r4,r2,r1⟩)
end
section
open Go Go.Dc
variable {N:Nat} {m:Mem} {O:List Piece} {w:World}
def qCp(N:Nat)(p0:Int):T5:=
 (qCa N ([((⟨#[97,46,115,114,99]⟩:ByteArray),(⟨#[112,97,99,107,97,103,101,32,112,59,32,102,117,110,99,32,102,40,110,41,32,61,32,105,102,32,110,32,60,32,49,32,116,104,101,110,32,55,32,101,108,115,101,32,102,40,110,32,45,32,49,41,59,32,102,117,110,99,32,103,40,110,41,32,61,32,105,102,32,110,32,60,32,49,32,116,104,101,110,32,49,32,101,108,115,101,32,103,40,110,32,45,32,49,41,32,43,32,103,40,110,32,45,32,49,41,59,32,103,101,110,32,34,99,34,32,61,32,51,48,48,59,32,102,117,110,99,32,104,40,110,41,32,61,32,114,101,97,100,40,34,99,34,44,32,110,41,32,43,32,114,101,97,100,40,34,99,34,44,32,48,41,59,32,103,101,110,32,34,100,34,32,61,32,114,101,97,100,40,34,100,34,44,32,48,41,59,32,116,101,115,116,32,116,32,61,32,114,101,97,100,40,34,100,34,44,32,48,41,59]⟩:ByteArray))]) ([]:T18) 0 (⟨#[112]⟩:ByteArray) (⟨#[102]⟩:ByteArray) ([IntKind.wrap .i64 (60+(IntKind.wrap .i64 (Int.tmod p0 8)))])).bind fun y1=>(if(y1.2.2 !=0)=true then(some true) else(if(!((y1.2.1.1.2.2==0)==(decide ((IntKind.wrap .i64 (60+(IntKind.wrap .i64 (Int.tmod p0 8))))<64))))=true then(some true) else(if(y1.2.1.1.2.2==0)=true then(if(y1.1 !=7)=true then(some true) else(if(y1.2.1.1.2.2 !=0)=true then(some (y1.2.1.1.2.2 !=17)) else(some false))) else(if(y1.2.1.1.2.2 !=0)=true then(some (y1.2.1.1.2.2 !=17)) else(some false)))):T5).bind fun o1=>if o1=true then(some false) else((qCa N ([((⟨#[97,46,115,114,99]⟩:ByteArray),(⟨#[112,97,99,107,97,103,101,32,112,59,32,102,117,110,99,32,102,40,110,41,32,61,32,105,102,32,110,32,60,32,49,32,116,104,101,110,32,55,32,101,108,115,101,32,102,40,110,32,45,32,49,41,59,32,102,117,110,99,32,103,40,110,41,32,61,32,105,102,32,110,32,60,32,49,32,116,104,101,110,32,49,32,101,108,115,101,32,103,40,110,32,45,32,49,41,32,43,32,103,40,110,32,45,32,49,41,59,32,103,101,110,32,34,99,34,32,61,32,51,48,48,59,32,102,117,110,99,32,104,40,110,41,32,61,32,114,101,97,100,40,34,99,34,44,32,110,41,32,43,32,114,101,97,100,40,34,99,34,44,32,48,41,59,32,103,101,110,32,34,100,34,32,61,32,114,101,97,100,40,34,100,34,44,32,48,41,59,32,116,101,115,116,32,116,32,61,32,114,101,97,100,40,34,100,34,44,32,48,41,59]⟩:ByteArray))]) ([]:T18) 0 (⟨#[112]⟩:ByteArray) (⟨#[104]⟩:ByteArray) ([IntKind.wrap .i64 (Int.tmod p0 3)])).bind fun y2=>(if(y2.2.2 !=0)=true then(some true) else(if(!((y2.2.1.1.2.2==0)==((Int.tmod p0 3)==0)))=true then(some true) else(if((Int.tmod p0 3)==0)=true then(if(y2.1 !=88)=true then(some true) else(some (y2.2.1.2.2.2 !=7))) else(some false))):T5).bind fun o2=>if o2=true then(some false) else((qCa N ([((⟨#[97,46,115,114,99]⟩:ByteArray),(⟨#[112,97,99,107,97,103,101,32,112,59,32,102,117,110,99,32,102,40,110,41,32,61,32,105,102,32,110,32,60,32,49,32,116,104,101,110,32,55,32,101,108,115,101,32,102,40,110,32,45,32,49,41,59,32,102,117,110,99,32,103,40,110,41,32,61,32,105,102,32,110,32,60,32,49,32,116,104,101,110,32,49,32,101,108,115,101,32,103,40,110,32,45,32,49,41,32,43,32,103,40,110,32,45,32,49,41,59,32,103,101,110,32,34,99,34,32,61,32,51,48,48,59,32,102,117,110,99,32,104,40,110,41,32,61,32,114,101,97,100,40,34,99,34,44,32,110,41,32,43,32,114,101,97,100,40,34,99,34,44,32,48,41,59,32,103,101,110,32,34,100,34,32,61,32,114,101,97,100,40,34,100,34,44,32,48,41,59,32,116,101,115,116,32,116,32,61,32,114,101,97,100,40,34,100,34,44,32,48,41,59]⟩:ByteArray))]) ([]:T18) 0 (⟨#[112]⟩:ByteArray) (⟨#[103]⟩:ByteArray) ([IntKind.wrap .i64 (Int.tmod p0 14)])).bind fun y3=>(if(y3.2.2 !=0)=true then(some true) else(if(decide (y3.2.1.2.2.2>20000))=true then(some true) else(if(y3.2.1.1.2.2 !=0)=true then(if(y3.2.1.1.2.2 !=16)=true then(some true) else(if(y3.2.1.2.2.2 !=20000)=true then(some true) else(if(y3.2.1.1.2.2==0)=true then((shlS .i64 1 (Int.tmod p0 14)).bind fun i1=>some (y3.1 !=i1)) else(some false)))) else(if(y3.2.1.1.2.2==0)=true then((shlS .i64 1 (Int.tmod p0 14)).bind fun i2=>some (y3.1 !=i2)) else(some false)))):T5).bind fun o3=>if o3=true then(some false) else((qIh N ([((⟨#[97,46,115,114,99]⟩:ByteArray),(⟨#[112,97,99,107,97,103,101,32,112,59,32,102,117,110,99,32,102,40,110,41,32,61,32,105,102,32,110,32,60,32,49,32,116,104,101,110,32,55,32,101,108,115,101,32,102,40,110,32,45,32,49,41,59,32,102,117,110,99,32,103,40,110,41,32,61,32,105,102,32,110,32,60,32,49,32,116,104,101,110,32,49,32,101,108,115,101,32,103,40,110,32,45,32,49,41,32,43,32,103,40,110,32,45,32,49,41,59,32,103,101,110,32,34,99,34,32,61,32,51,48,48,59,32,102,117,110,99,32,104,40,110,41,32,61,32,114,101,97,100,40,34,99,34,44,32,110,41,32,43,32,114,101,97,100,40,34,99,34,44,32,48,41,59,32,103,101,110,32,34,100,34,32,61,32,114,101,97,100,40,34,100,34,44,32,48,41,59,32,116,101,115,116,32,116,32,61,32,114,101,97,100,40,34,100,34,44,32,48,41,59]⟩:ByteArray))]) ([]:T18) 0 ((⟨#[112]⟩:ByteArray),(⟨#[116]⟩:ByteArray))).bind fun y4=>(if(y4.2==0)=true then(if((y4.1.1.1==3)&&((y4.1.1.2.1==0)&&((y4.1.1.2.2==17)&&true)))=true then((qGb N).bind fun y5=>some y5) else(some false)) else(some false):T5).bind fun o4=>some o4)))
set_option maxHeartbeats 4000000 in
set_option maxRecDepth 100000 in
theorem qHu{p0:Int}{r:Bool}(g:St m (O) w)(hr:qCp N p0=some r):Calls Tryz.prog 4 #[.int .u8 p0] w fun e w'=>∃m',e= .returned (vB r)/\m.le m'/\St m' (O) w':=by
 unfold qCp at hr;have q:=m.le_refl;refine W_cA Tryz.func4 rfl Tryz.ntmps4 ?_;refine W_sr (qAh 1 [] (W_sr (qAh 5 [(3,vI (wr (60+(wr (Int.tmod p0 8)))))] (W_sr (qAd 1 [(13,.agg #[vT bw,vT b18])] (qAa rfl (qAx (d:=14) (t:=24) (e:=23) (len:=1) (parts:= #[(0,(.tmp 13))]) C1 (xs:=[(bw,b18)]) [vT bw,vT b18] kr rfl (fun _=>qAy kr _) rfl rfl g ⟨[vT bw,vT b18],_,rfl,⟨_,_,rfl,rfl,rfl⟩,rfl⟩ fun b1 m1 w1 e1 g r1=>(qAd 1 [(15,.agg #[.slice (aP b1) (List.length ([(bw,b18)])) 1])] (qAa rfl (qBn 4 26 (.agg #[v6]) g fun b2 w2 g=>(qAa rfl (qAw 26 4 15 (.agg #[.slice (aP b1) (List.length ([(bw,b18)])) 1]) g fun w3 g=>(WO_e (W_sr (qAa rfl (qBj 17 26 4 0 (.agg #[.slice (aP b1) (List.length ([(bw,b18)])) 1]) g.h (qAd 2 [(18,.agg #[vc]),(19,vI (wr (60+(wr (Int.tmod p0 8)))))] (qAa rfl (qAx (d:=20) (t:=39) (e:=3) (len:=1) (parts:= #[(0,(.tmp 19))]) (cInt .i64) (xs:=[wr (60+(wr (Int.tmod p0 8)))]) [vI (wr (60+(wr (Int.tmod p0 8))))] kr rfl (fun _=>qAy kr _) rfl rfl g ⟨[vI (wr (60+(wr (Int.tmod p0 8))))],_,rfl,rfl,rfl⟩ fun b3 m2 w4 e2 g r2=>(qBe 21 hr (fun _ h=>qGy g (r1.mono e2) (RepS.nil _ _) r2 h) ?_))))))))))))))))))));rintro y1 hr _ w5 ⟨a1,c1,m3,rfl,e3,g,r3⟩;have q:=((q.t e1).t e2).t e3;have r1:=(r1.mono e2).mono e3
 refine qAd 4 [(22,vI y1.1),(23,.agg (Vi y1.2.1.1.1 y1.2.1.1.2.1 y1.2.1.1.2.2 y1.2.1.2.1 a1 y1.2.1.2.2.1 c1 y1.2.1.2.2.2)),(24,vI y1.2.2)] (qAa rfl (qBn 6 32 (.agg #[vI 0,vI 0,vI 0,vB false,v6,vI 0]) g fun b4 w6 g=>(qAd 1 [(5,vI y1.1)] (qAa rfl (qAw 32 6 23 (.agg (Vi y1.2.1.1.1 y1.2.1.1.2.1 y1.2.1.1.2.2 y1.2.1.2.1 a1 y1.2.1.2.2.1 c1 y1.2.1.2.2.2)) g fun w7 g=>(qAd 1 [(7,vI y1.2.2)] (qBa rfl ?_)))))));have g:=g.f2.t;refine qAj (qAt (W_sr ?_));have⟨o1,hr,J⟩:=qAu hr;refine qGj (j:=33) (fun L' w'=>∃m4,L'=[(0,.int .u8 p0),(4,vP b2 0),(6,vP b4 0),(57,vB o1)]/\m.le m4/\St m4 (kB b4 (Vi y1.2.1.1.1 y1.2.1.1.2.1 y1.2.1.1.2.2 y1.2.1.2.1 a1 y1.2.1.2.2.1 c1 y1.2.1.2.2.2) 32::kB b2 #[.slice (aP b1) (List.length ([(bw,b18)])) 1] 26::kR a1 y1.2.1.2.2.1 c1 72 3:: .room (aP b1) (List.length ([(bw,b18)])) 1 23 2::O) w'/\RepS C9 m4 a1 c1 y1.2.1.2.2.1/\RepS C1 m4 (aP b1) 1 ([(bw,b18)])) ?_ ?_
 .have hr:=J;rintro _ w8 ⟨m4,rfl,q,g,r3,r1⟩;refine WO_e (W_if hr ?_ ?_)
  .intro A hr;refine W_sr (qAh 1 [(2,vB false)] (qBc (qAi ?_)));cases hr;exact X_rt [2] [vB false] ⟨m4,rfl,q,g.t.t.t.t⟩
  intro A hr;refine qAq (qAj (W_sr (qAa rfl (qBj 59 26 4 0 (.agg #[.slice (aP b1) (List.length ([(bw,b18)])) 1]) g.t.h (qAd 4 [(60,.agg #[vc]),(63,vI (wr (Int.tmod p0 3)))] (qAa rfl (qAx (d:=64) (t:=39) (e:=3) (len:=1) (parts:= #[(0,(.tmp 63))]) (cInt .i64) (xs:=[wr (Int.tmod p0 3)]) [vI (wr (Int.tmod p0 3))] kr rfl (fun _=>qAy kr _) rfl rfl g ⟨[vI (wr (Int.tmod p0 3))],_,rfl,rfl,rfl⟩ fun b5 m5 w9 e4 g r4=>(qBe 65 hr (fun _ h=>qGy g (r1.mono e4) (RepS.nil _ _) r4 h) ?_))))))));rintro y2 hr _ w10 ⟨a2,c2,m6,rfl,e5,g,r5⟩;have q:=(q.t e4).t e5;have r1:=(r1.mono e4).mono e5;refine qAd 5 [(67,.agg (Vi y2.2.1.1.1 y2.2.1.1.2.1 y2.2.1.1.2.2 y2.2.1.2.1 a2 y2.2.1.2.2.1 c2 y2.2.1.2.2.2)),(68,vI y2.2.2),(5,vI y2.1)] (qAa rfl (qAw 32 6 67 (.agg (Vi y2.2.1.1.1 y2.2.1.1.2.1 y2.2.1.1.2.2 y2.2.1.2.1 a2 y2.2.1.2.2.1 c2 y2.2.1.2.2.2)) g.f2 fun w11 g=>(qAd 1 [(7,vI y2.2.2)] (qBa rfl ?_))));have g:=g.f2.t.f3.t;refine qAj (qAt (W_sr ?_));have⟨o2,hr,J⟩:=qAu hr
  refine qGj (j:=26) (fun L' w'=>∃m7,L'=[(0,.int .u8 p0),(4,vP b2 0),(6,vP b4 0),(94,vB o2)]/\m.le m7/\St m7 (kB b4 (Vi y2.2.1.1.1 y2.2.1.1.2.1 y2.2.1.1.2.2 y2.2.1.2.1 a2 y2.2.1.2.2.1 c2 y2.2.1.2.2.2) 32::kB b2 #[.slice (aP b1) (List.length ([(bw,b18)])) 1] 26::kR a2 y2.2.1.2.2.1 c2 72 3:: .room (aP b1) (List.length ([(bw,b18)])) 1 23 2::O) w'/\RepS C9 m7 a2 c2 y2.2.1.2.2.1/\RepS C1 m7 (aP b1) 1 ([(bw,b18)])) ?_ ?_
  .have hr:=J;rintro _ w12 ⟨m7,rfl,q,g,r5,r1⟩;refine WO_e (W_if hr ?_ ?_)
   .intro A hr;refine W_sr (qAh 1 [(2,vB false)] (qBc (qAi ?_)));cases hr;exact X_rt [2] [vB false] ⟨m7,rfl,q,g.t.t.t.t⟩
   intro A hr;refine qAq (qAj (W_sr (qAa rfl (qBj 96 26 4 0 (.agg #[.slice (aP b1) (List.length ([(bw,b18)])) 1]) g.t.h (qAd 4 [(97,.agg #[vc]),(100,vI (wr (Int.tmod p0 14)))] (qAa rfl (qAx (d:=101) (t:=39) (e:=3) (len:=1) (parts:= #[(0,(.tmp 100))]) (cInt .i64) (xs:=[wr (Int.tmod p0 14)]) [vI (wr (Int.tmod p0 14))] kr rfl (fun _=>qAy kr _) rfl rfl g ⟨[vI (wr (Int.tmod p0 14))],_,rfl,rfl,rfl⟩ fun b6 m8 w13 e6 g r6=>(qBe 102 hr (fun _ h=>qGy g (r1.mono e6) (RepS.nil _ _) r6 h) ?_))))))));rintro y3 hr _ w14 ⟨a3,c3,m9,rfl,e7,g,r7⟩;have q:=(q.t e6).t e7;have r1:=(r1.mono e6).mono e7;refine qAd 5 [(104,.agg (Vi y3.2.1.1.1 y3.2.1.1.2.1 y3.2.1.1.2.2 y3.2.1.2.1 a3 y3.2.1.2.2.1 c3 y3.2.1.2.2.2)),(105,vI y3.2.2),(5,vI y3.1)] (qAa rfl (qAw 32 6 104 (.agg (Vi y3.2.1.1.1 y3.2.1.1.2.1 y3.2.1.1.2.2 y3.2.1.2.1 a3 y3.2.1.2.2.1 c3 y3.2.1.2.2.2)) g.f2 fun w15 g=>(qAd 1 [(7,vI y3.2.2)] (qBa rfl ?_))));have g:=g.f2.t.f3.t;refine qAj (qAt (W_sr ?_));have⟨o3,hr,J⟩:=qAu hr
   refine qGj (j:=37) (fun L' w'=>∃m10,L'=[(4,vP b2 0),(142,vB o3)]/\m.le m10/\St m10 (kB b4 (Vi y3.2.1.1.1 y3.2.1.1.2.1 y3.2.1.1.2.2 y3.2.1.2.1 a3 y3.2.1.2.2.1 c3 y3.2.1.2.2.2) 32::kB b2 #[.slice (aP b1) (List.length ([(bw,b18)])) 1] 26::kR a3 y3.2.1.2.2.1 c3 72 3:: .room (aP b1) (List.length ([(bw,b18)])) 1 23 2::O) w'/\RepS C9 m10 a3 c3 y3.2.1.2.2.1/\RepS C1 m10 (aP b1) 1 ([(bw,b18)])) ?_ ?_
   .have hr:=J;rintro _ w16 ⟨m10,rfl,q,g,r7,r1⟩;refine WO_e (W_if hr ?_ ?_)
    .intro A hr;refine W_sr (qAh 1 [(2,vB false)] (qBc (qAi ?_)));cases hr;exact X_rt [2] [vB false] ⟨m10,rfl,q,g.t.t.t.t⟩
    intro A hr;refine qAq (qAj (W_sr (qAa rfl (qBj 144 26 4 0 (.agg #[.slice (aP b1) (List.length ([(bw,b18)])) 1]) g.t.h (qAd 2 [(145,.agg #[vc]),(146,.agg #[vT bz,vT b17])] (qBe 147 hr (fun _ h=>qLx (p3:=(bz,b17)) g r1 (RepS.nil _ _) h) ?_))))));rintro y4 hr _ w17 ⟨a4,c4,m11,rfl,e8,g,r8⟩;have q:=q.t e8;have r1:=r1.mono e8;have r7:=r7.mono e8;refine qAd 3 [(148,.agg (Vi y4.1.1.1 y4.1.1.2.1 y4.1.1.2.2 y4.1.2.1 a4 y4.1.2.2.1 c4 y4.1.2.2.2)),(149,vI y4.2)] (qAa rfl (qBn 8 32 (.agg #[vI 0,vI 0,vI 0,vB false,v6,vI 0]) g fun b7 w18 g=>(qAa rfl (qAw 32 8 148 (.agg (Vi y4.1.1.1 y4.1.1.2.1 y4.1.1.2.2 y4.1.2.1 a4 y4.1.2.2.1 c4 y4.1.2.2.2)) g fun w19 g=>(qAh 1 [(7,vI y4.2)] (W_sr ?_))))));have⟨o4,hr,J⟩:=qAu hr;refine qGj (j:=12) (fun L' w'=>∃m12,L'=[(2,vB o4)]/\m.le m12/\St m12 (kB b7 (Vi y4.1.1.1 y4.1.1.2.1 y4.1.1.2.2 y4.1.2.1 a4 y4.1.2.2.1 c4 y4.1.2.2.2) 32::kB b4 (Vi y3.2.1.1.1 y3.2.1.1.2.1 y3.2.1.1.2.2 y3.2.1.2.1 a3 y3.2.1.2.2.1 c3 y3.2.1.2.2.2) 32::kB b2 #[.slice (aP b1) (List.length ([(bw,b18)])) 1] 26::kR a4 y4.1.2.2.1 c4 72 3::kR a3 y3.2.1.2.2.1 c3 72 3:: .room (aP b1) (List.length ([(bw,b18)])) 1 23 2::O) w'/\RepS C9 m12 a4 c4 y4.1.2.2.1/\RepS C9 m12 a3 c3 y3.2.1.2.2.1/\RepS C1 m12 (aP b1) 1 ([(bw,b18)])) ?_ ?_
    .have hr:=J;rintro _ w20 ⟨m12,rfl,q,g,r8,r7,r1⟩;refine WO_e (qBc ?_);obtain rfl:=sI hr;exact X_rt [2] [vB o4] ⟨m12,rfl,q,g.t.t.t.t.t.t⟩
    intro K;refine qAd 3 [(152,vB (y4.2==0))] (qEt 152 hr ?_ ?_)
    .intro A hr;refine qCc 1 154 29 153 0 (.agg (Vf y4.1.1)) g.h (qAd 1 [(155,.agg (Vg 3 0 17))] (qAa rfl (qQy (d:=156) (t:=29) (t2:=29) (x:=(.tmp 154)) (y:=(.tmp 155)) (xs:=(Vf y4.1.1)) (ys:=(Vg 3 0 17)) ((y4.1.1.1==3)&&((y4.1.1.2.1==0)&&((y4.1.1.2.2==17)&&true))) kr rfl (ev (.agg (Vf y4.1.1))) (ev (.agg (Vg 3 0 17))) kr kr kr (qAd 2 [(158,vB ((y4.1.1.1==3)&&((y4.1.1.2.1==0)&&((y4.1.1.2.2==17)&&true))))] (qEt 158 hr ?_ ?_)))))
     .intro A hr;refine qBe 159 hr (fun _ h=>qLe g h) ?_;rintro y5 hr _ w21 ⟨m13,rfl,e9,g⟩;refine qAd 2 [(2,vB y5)] ?_;cases hr;exact qBq _ kr (K _ _ ⟨m13,rfl,q.t e9,g.f5.f5.f3.f5.f5.f5,r8.mono e9,r7.mono e9,r1.mono e9⟩)
     intro A hr;refine qAd 3 [(2,vB false)] ?_;cases hr;exact qBq _ kr (K _ _ ⟨m11,rfl,q,g.f5.f5.f3.f5.f5.f5,r8,r7,r1⟩)
    intro A hr;refine qAd 9 [(2,vB false)] ?_;cases hr;exact qBq _ kr (K _ _ ⟨m11,rfl,q,g.f5.f5.f3.f5.f5.f5,r8,r7,r1⟩)
   intro K;refine qAd 3 [(108,vB (y3.2.2 !=0))] (qEt 108 hr ?_ ?_)
   .intro A hr;refine qAd 34 [(142,vB true)] ?_;cases hr;exact qBq _ kr (K _ _ ⟨m9,rfl,q,g.f3.f2.f3.f3,r7,r1⟩)
   intro A hr;refine qCc 1 110 3 109 5 (vI y3.2.1.2.2.2) g.h (qAd 3 [(113,vB (decide (y3.2.1.2.2.2>20000)))] (qEt 113 hr ?_ ?_))
   .intro A hr;refine qAd 29 [(142,vB true)] ?_;cases hr;exact qBq _ kr (K _ _ ⟨m9,rfl,q,g.f3.f2.f3.f3,r7,r1⟩)
   intro A hr;refine qCc 2 116 27 115 2 (vI y3.2.1.1.2.2) g.h (qAd 2 [(118,vB (y3.2.1.1.2.2 !=0))] (qEt 118 hr ?_ ?_))
   .intro A hr;refine qCc 2 121 27 120 2 (vI y3.2.1.1.2.2) g.h (qAd 2 [(123,vB (y3.2.1.1.2.2 !=16))] (qEt 123 hr ?_ ?_))
    .intro A hr;refine qAd 19 [(142,vB true)] ?_;cases hr;exact qBq _ kr (K _ _ ⟨m9,rfl,q,g.f3.f2.f3.f3,r7,r1⟩)
    intro A hr;refine qCc 1 125 3 124 5 (vI y3.2.1.2.2.2) g.h (qAd 5 [(130,vB (y3.2.1.2.2.2 !=20000))] (qEt 130 hr ?_ ?_))
    .intro A hr;refine qAd 12 [(142,vB true)] ?_;cases hr;exact qBq _ kr (K _ _ ⟨m9,rfl,q,g.f3.f2.f3.f3,r7,r1⟩)
    intro A hr;refine qCc 2 133 27 132 2 (vI y3.2.1.1.2.2) g.h (qAd 2 [(135,vB (y3.2.1.1.2.2==0))] (qEt 135 hr ?_ ?_))
    .intro A hr;refine qAd 3 [(136,vI y3.1),(138,.int .u8 (Int.tmod p0 14))] ?_;have⟨i1,d4,hr⟩:=qAu hr;refine qAa rfl (qVk (d:=139) (t:=3) (t2:=5) (x:=(.const (vI 1))) (y:=(.tmp 138)) kr rfl (ev (vI 1)) (ev (.int .u8 (Int.tmod p0 14))) d4 (qAd 3 [(142,vB (y3.1 !=i1))] ?_));cases hr;exact qBq _ kr (K _ _ ⟨m9,rfl,q,g.f3.f2.f3.f3,r7,r1⟩)
    intro A hr;refine qAd 7 [(142,vB false)] ?_;cases hr;exact qBq _ kr (K _ _ ⟨m9,rfl,q,g.f3.f2.f3.f3,r7,r1⟩)
   intro A hr;refine qAd 14 [(130,vB false),(132,vP b4 2)] (qAa rfl (qBj 133 27 132 2 (vI y3.2.1.1.2.2) g.h (qAd 2 [(135,vB (y3.2.1.1.2.2==0))] (qEt 135 hr ?_ ?_))))
   .intro A hr;refine qAd 3 [(136,vI y3.1),(138,.int .u8 (Int.tmod p0 14))] ?_;have⟨i2,d5,hr⟩:=qAu hr;refine qAa rfl (qVk (d:=139) (t:=3) (t2:=5) (x:=(.const (vI 1))) (y:=(.tmp 138)) kr rfl (ev (vI 1)) (ev (.int .u8 (Int.tmod p0 14))) d5 (qAd 3 [(142,vB (y3.1 !=i2))] ?_));cases hr;exact qBq _ kr (K _ _ ⟨m9,rfl,q,g.f3.f2.f3.f3,r7,r1⟩)
   intro A hr;refine qAd 7 [(142,vB false)] ?_;cases hr;exact qBq _ kr (K _ _ ⟨m9,rfl,q,g.f3.f2.f3.f3,r7,r1⟩)
  intro K;refine qAd 3 [(71,vB (y2.2.2 !=0))] (qEt 71 hr ?_ ?_)
  .intro A hr;refine qAd 23 [(94,vB true)] ?_;cases hr;exact qBq _ kr (K _ _ ⟨m6,rfl,q,g.f3.f2.f3.f3,r5,r1⟩)
  intro A hr;refine qCc 2 74 27 73 2 (vI y2.2.1.1.2.2) g.h (qAd 7 [(81,vB (!((y2.2.1.1.2.2==0)==((Int.tmod p0 3)==0))))] (qEt 81 hr ?_ ?_))
  .intro A hr;refine qAd 13 [(94,vB true)] ?_;cases hr;exact qBq _ kr (K _ _ ⟨m6,rfl,q,g.f3.f2.f3.f3,r5,r1⟩)
  intro A hr;refine qAd 4 [(85,vB ((Int.tmod p0 3)==0))] (qEt 85 hr ?_ ?_)
  .intro A hr;refine qAd 3 [(88,vB (y2.1 !=88))] (qEt 88 hr ?_ ?_)
   .intro A hr;refine qAd 6 [(94,vB true)] ?_;cases hr;exact qBq _ kr (K _ _ ⟨m6,rfl,q,g.f3.f2.f3.f3,r5,r1⟩)
   intro A hr;refine qCc 1 90 3 89 5 (vI y2.2.1.2.2.2) g.h (qAd 4 [(94,vB (y2.2.1.2.2.2 !=7))] ?_);cases hr;exact qBq _ kr (K _ _ ⟨m6,rfl,q,g.f3.f2.f3.f3,r5,r1⟩)
  intro A hr;refine qAd 9 [(94,vB false)] ?_;cases hr;exact qBq _ kr (K _ _ ⟨m6,rfl,q,g.f3.f2.f3.f3,r5,r1⟩)
 intro K;refine qAd 3 [(27,vB (y1.2.2 !=0))] (qEt 27 hr ?_ ?_)
 .intro A hr;refine qAd 30 [(57,vB true)] ?_;cases hr;exact qBq _ kr (K _ _ ⟨m3,rfl,q,g.f3.f2.f3.f3,r3,r1⟩)
 intro A hr;refine qCc 2 30 27 29 2 (vI y1.2.1.1.2.2) g.h (qAd 6 [(36,vB (!((y1.2.1.1.2.2==0)==(decide ((wr (60+(wr (Int.tmod p0 8))))<64)))))] (qEt 36 hr ?_ ?_))
 .intro A hr;refine qAd 21 [(57,vB true)] ?_;cases hr;exact qBq _ kr (K _ _ ⟨m3,rfl,q,g.f3.f2.f3.f3,r3,r1⟩)
 intro A hr;refine qCc 2 39 27 38 2 (vI y1.2.1.1.2.2) g.h (qAd 2 [(41,vB (y1.2.1.1.2.2==0))] (qEt 41 hr ?_ ?_))
 .intro A hr;refine qAd 5 [(46,vB (y1.1 !=7))] (qEt 46 hr ?_ ?_)
  .intro A hr;refine qAd 11 [(57,vB true)] ?_;cases hr;exact qBq _ kr (K _ _ ⟨m3,rfl,q,g.f3.f2.f3.f3,r3,r1⟩)
  intro A hr;refine qCc 2 49 27 48 2 (vI y1.2.1.1.2.2) g.h (qAd 2 [(51,vB (y1.2.1.1.2.2 !=0))] (qEt 51 hr ?_ ?_))
  .intro A hr;refine qCc 2 54 27 53 2 (vI y1.2.1.1.2.2) g.h (qAd 3 [(57,vB (y1.2.1.1.2.2 !=17))] ?_);cases hr;exact qBq _ kr (K _ _ ⟨m3,rfl,q,g.f3.f2.f3.f3,r3,r1⟩)
  intro A hr;refine qAd 6 [(57,vB false)] ?_;cases hr;exact qBq _ kr (K _ _ ⟨m3,rfl,q,g.f3.f2.f3.f3,r3,r1⟩)
 intro A hr;refine qAd 7 [(46,vB false),(48,vP b4 2)] (qAa rfl (qBj 49 27 48 2 (vI y1.2.1.1.2.2) g.h (qAd 2 [(51,vB (y1.2.1.1.2.2 !=0))] (qEt 51 hr ?_ ?_))))
 .intro A hr;refine qCc 2 54 27 53 2 (vI y1.2.1.1.2.2) g.h (qAd 3 [(57,vB (y1.2.1.1.2.2 !=17))] ?_);cases hr;exact qBq _ kr (K _ _ ⟨m3,rfl,q,g.f3.f2.f3.f3,r3,r1⟩)
 intro A hr;refine qAd 6 [(57,vB false)] ?_;cases hr;exact qBq _ kr (K _ _ ⟨m3,rfl,q,g.f3.f2.f3.f3,r3,r1⟩)
end
section
open Go Go.Dc Go.Proofs
abbrev EKy:=Int×ByteArray×ByteArray
abbrev EEnt:=ByteArray×ByteArray×Int×ByteArray×Int×Int
abbrev EEx:=Int×Int×Int×ByteArray×List Int
abbrev EDcl:=Int×ByteArray×List ByteArray×List EEx
abbrev ESrc:=ByteArray×List ByteArray×List EDcl
abbrev EWld:=List (ByteArray×ByteArray)×Bool×Option (List (ByteArray×ESrc))×List ByteArray×Option (List (EKy×EEnt))
abbrev ETrc:=Option (List (EKy×Bool))
abbrev ESta:=ETrc×Int×Int×Bool
abbrev EOut:=(Int×ESta)⊕(ESta×Int)
abbrev EFr:=ESrc×EDcl×List Int
abbrev EMch:=EWld×List (ByteArray×Int)×Int×ETrc×Int×Int×Bool×Option (List (Int×Option Nat))
def ndC:Option (List (Int×Option Nat)):=some [(1,some 25),(2,some 26),(3,some 27),(4,some 28),(5,some 29),(6,some 30),(7,some 31),(8,some 32),(9,some 33),(10,some 34)]
abbrev mch(W:EWld)(env:List (ByteArray×Int))(w:Int)(t:ESta):EMch:=(W,env,w,t.1,t.2.1,t.2.2.1,t.2.2.2,ndC)
abbrev GN(N D:Nat):=(qAe N D).1
abbrev GE(N D:Nat):=(qAe N D).2.1
abbrev GC(N D:Nat):=(qAe N D).2.2.1
abbrev GB(N D:Nat):=(qAe N D).2.2.2.1
abbrev GI(N D:Nat):=(qAe N D).2.2.2.2.1
abbrev GR(N D:Nat):=(qAe N D).2.2.2.2.2
theorem qLg(N:Nat)(b:Bool)(e:Int):qCf N b e=some (bif b then .inl e else .inr ()):=by cases b<;>rfl
theorem qWf(N:Nat)(b:Bool):qGe N b=some (bif b then 1 else 0):=by cases b<;>rfl
def inV(v:Int):Bool:=decide (-9007199254740992<=v)&&decide (v<=9007199254740992)
theorem qOq(N:Nat)(v:Int):qDs N v=some (inV v):=by
 unfold qDs inV
 by_cases h:(-9007199254740992)<=v
 .rw[if_pos (by simpa using h)];simp[h]
 rw[if_neg (by simpa using h)];simp[h]
section
variable {N D:Nat} {W:EWld} {env:List (ByteArray×Int)} {w:Int} {t:ESta} {c:EFr} {i:Int} {x:EEx}
abbrev up(t:ESta):ESta:=(t.1,IntKind.wrap .i64 (t.2.1+1),t.2.2.1,t.2.2.2)
theorem qVp(hs:t.2.1=20000):GN N (D+1) (mch W env w t) c i=some (.inl (16,t)):=by
 obtain⟨a,s,b,r⟩:=t
 simp only at hs
 subst hs
 rfl
theorem qMv(hs:t.2.1≠20000)(hx:idx c.2.1.2.2.2 i=some x){f:Nat}(hf:qAm ndC x.1=some (some f)){o:Option EOut}
  (ho:(if f=25 then qDt N (mch W env w (up t)) c x else if f=26 then qCl N (mch W env w (up t)) c x else if f=27 then GC N D (mch W env w (up t)) c x else
   if f=28 then GB N D (mch W env w (up t)) c x else if f=29 then GI N D (mch W env w (up t)) c x else if f=30 then GR N D (mch W env w (up t)) c x else
   if f=31 then qEm N (mch W env w (up t)) c x else if f=32 then qEs N (mch W env w (up t)) c x else if f=33 then qDl N (mch W env w (up t)) c x else if f=34 then qEl N (mch W env w (up t)) c x else none)=o):
  GN N (D+1) (mch W env w t) c i=o:=by
 have h1:(t.2.1==20000)=false:=by simpa using hs
 show qDu N (GN N D) (GE N D) (GC N D) (GB N D) (GI N D) (GR N D) (mch W env w t) c i=o
 unfold qDu
 simp only[qLg,h1,cond_false,j0,hx,hf,Option.getD_some]
 rw[<-ho]
 cases hz:(if f=25 then qDt N (mch W env w (up t)) c x else if f=26 then qCl N (mch W env w (up t)) c x else if f=27 then GC N D (mch W env w (up t)) c x else
   if f=28 then GB N D (mch W env w (up t)) c x else if f=29 then GI N D (mch W env w (up t)) c x else if f=30 then GR N D (mch W env w (up t)) c x else
   if f=31 then qEm N (mch W env w (up t)) c x else if f=32 then qEs N (mch W env w (up t)) c x else if f=33 then qDl N (mch W env w (up t)) c x else if f=34 then qEl N (mch W env w (up t)) c x else none:Option EOut) with
 |none=>rfl
 |some o=>cases o<;>rfl
theorem qWe(hs:t.2.1≠20000)(hx:idx c.2.1.2.2.2 i=some x)(hk:x.1=1):GN N (D+1) (mch W env w t) c i=some (.inr (up t,x.2.1)):=
 qMv hs hx (f:=25) (by rw[hk];rfl) rfl
theorem qVq(hs:t.2.1≠20000)(hx:idx c.2.1.2.2.2 i=some x)(hk:x.1=2){v:Int}(hv:idx c.2.2 x.2.1=some v):GN N (D+1) (mch W env w t) c i=some (.inr (up t,v)):=
 qMv hs hx (f:=26) (by rw[hk];rfl) (by show qCl N (mch W env w (up t)) c x=_;unfold qCl;rw[hv];rfl)
theorem qUj(hs:t.2.1≠20000)(hx:idx c.2.1.2.2.2 i=some x)(hk:x.1=3):GN N (D+1) (mch W env w t) c i=GC N D (mch W env w (up t)) c x:=
 qMv hs hx (f:=27) (by rw[hk];rfl) rfl
theorem qVx(hs:t.2.1≠20000)(hx:idx c.2.1.2.2.2 i=some x)(hk:x.1=4):GN N (D+1) (mch W env w t) c i=GB N D (mch W env w (up t)) c x:=
 qMv hs hx (f:=28) (by rw[hk];rfl) rfl
theorem qWw(hs:t.2.1≠20000)(hx:idx c.2.1.2.2.2 i=some x)(hk:x.1=5):GN N (D+1) (mch W env w t) c i=GI N D (mch W env w (up t)) c x:=
 qMv hs hx (f:=29) (by rw[hk];rfl) rfl
def chkV(v:Int)(t:ESta):EOut:=bif inV v then .inr (t,v) else .inl (3,t)
def arV(op a b:Int)(t:ESta):Option EOut:=
 if op=1 then some (chkV (IntKind.wrap .i64 (a+b)) t) else if op=2 then some (chkV (IntKind.wrap .i64 (a-b)) t) else
 if op=3 then((if b≠0 then(quoS .i64 9007199254740992 (if IntKind.wrap .i64 (0-b)>b then IntKind.wrap .i64 (0-b) else b)).bind fun q=>some (decide ((if IntKind.wrap .i64 (0-a)>a then IntKind.wrap .i64 (0-a) else a)>q)) else some false).bind fun o=>
  some (bif o then .inl (3,t) else chkV (IntKind.wrap .i64 (a*b)) t)) else
 if op=4\/op=5 then(if b=0 then some (.inl (4,t)) else(quoS .i64 a b).bind fun q=>if op=5 then(remS a b).bind fun r=>some (chkV r t) else some (chkV q t)) else
 if op=6 then some (chkV (bif decide (a<b) then 1 else 0) t) else some (chkV (bif a==b then 1 else 0) t)
theorem qXm{i0 i1 a b:Int}{t1 t2:ESta}(h0:idx x.2.2.2.2 0=some i0)(h1:idx x.2.2.2.2 1=some i1)(e0:GN N D (mch W env w t) c i0=some (.inr (t1,a)))(e1:GN N D (mch W env w t1) c i1=some (.inr (t2,b))):
  GB N (D+1) (mch W env w t) c x=arV x.2.2.1 a b t2:=by
 show qBu N (GN N D) (GE N D) (GC N D) (GB N D) (GI N D) (GR N D) (mch W env w t) c x=_
 unfold qBu
 obtain⟨a1,s1,b1,r1⟩:=t1
 rw[h0,j0,show GN N D _ _ i0=some (.inr ((a1,s1,b1,r1),a)) from e0,j0]
 dsimp only
 rw[h1,j0,show GN N D _ _ i1=some (.inr (t2,b)) from e1,j0]
 dsimp only
 generalize x.2.2.1=op
 have fin:∀v:Int,((qDs N v).bind fun y11=>(qCf N (!y11) 3).bind fun y12=>(match y12 with| .inl z5=>(some (.inl (z5,t2)):Option EOut)| .inr _=>some (.inr (t2,v))))=some (chkV v t2):=fun v=>by
  simp only[qOq,qLg,j0,chkV]
  cases inV v<;>rfl
 have fin2:∀v:Int,((qDs N v).bind fun y11=>(match(bif !y11 then .inl 3 else .inr ():Int⊕Unit) with| .inl z5=>(some (.inl (z5,t2)):Option EOut)| .inr _=>some (.inr (t2,v))))=some (chkV v t2):=fun v=>by
  simp only[qOq,j0,chkV]
  cases inV v<;>rfl
 unfold arV
 by_cases p1:op=1
 .rw[if_pos (by simpa using p1),if_pos p1];exact fin _
 rw[if_neg (by simpa using p1),if_neg p1]
 by_cases p2:op=2
 .rw[if_pos (by simpa using p2),if_pos p2];exact fin _
 rw[if_neg (by simpa using p2),if_neg p2]
 by_cases p3:op=3
 .rw[if_pos (by simpa using p3),if_pos p3]
  by_cases hb:b=0
  .rw[if_neg (by simpa using hb),if_neg (by simpa using hb)];exact fin _
  rw[if_pos (by simpa using hb),if_pos hb]
  cases hq:quoS .i64 9007199254740992 (if IntKind.wrap .i64 (0-b)>b then IntKind.wrap .i64 (0-b) else b) with
  |none=>rfl
  |some q=>
   simp only[j0,qLg]
   cases decide ((if IntKind.wrap .i64 (0-a)>a then IntKind.wrap .i64 (0-a) else a)>q) with
   |true=>rfl
   |false=>exact fin2 _
 rw[if_neg (by simpa using p3),if_neg p3]
 by_cases p4:op=4\/op=5
 .rw[if_pos p4]
  have h45:(if(op==4)=true then some (op==4) else some (op==5):Option Bool)=some true:=by
   rcases p4 with rfl|rfl<;>rfl
  rw[h45]
  simp only[j0,jP,qLg]
  by_cases hb:b=0
  .subst hb;rfl
  rw[show(b==0)=false by simpa using hb,if_neg hb]
  dsimp only[cond_false]
  cases hq:quoS .i64 a b with
  |none=>rfl
  |some q=>
   simp only[j0]
   by_cases p5:op=5
   .rw[if_pos (by simpa using p5),if_pos p5]
    cases hr:remS a b with
    |none=>rfl
    |some r=>exact fin2 _
   rw[if_neg (by simpa using p5),if_neg p5];exact fin2 _
 rw[if_neg p4]
 have n4:op≠4:=fun h=>p4 (.inl h)
 have n5:op≠5:=fun h=>p4 (.inr h)
 have h45:(if(op==4)=true then some (op==4) else some (op==5):Option Bool)=some false:=by
  rw[if_neg (by simpa using n4)];simpa using n5
 rw[h45]
 simp only[j0,jG,jY,qWf]
 by_cases p6:op=6
 .rw[if_pos (by simpa using p6),if_pos p6];exact fin _
 rw[if_neg (by simpa using p6),if_neg p6];exact fin _
theorem qVo{i0:Int}{z:Int×ESta}(h0:idx x.2.2.2.2 0=some i0)(e0:GN N D (mch W env w t) c i0=some (.inl z)):GB N (D+1) (mch W env w t) c x=some (.inl z):=by
 show qBu N (GN N D) (GE N D) (GC N D) (GB N D) (GI N D) (GR N D) (mch W env w t) c x=_
 unfold qBu
 rw[h0,j0,show GN N D _ _ i0=some (.inl z) from e0];rfl
theorem qWj{i0 i1 a:Int}{t1:ESta}{z:Int×ESta}(h0:idx x.2.2.2.2 0=some i0)(h1:idx x.2.2.2.2 1=some i1)(e0:GN N D (mch W env w t) c i0=some (.inr (t1,a)))(e1:GN N D (mch W env w t1) c i1=some (.inl z)):
  GB N (D+1) (mch W env w t) c x=some (.inl z):=by
 show qBu N (GN N D) (GE N D) (GC N D) (GB N D) (GI N D) (GR N D) (mch W env w t) c x=_
 unfold qBu
 obtain⟨a1,s1,b1,r1⟩:=t1
 rw[h0,j0,show GN N D _ _ i0=some (.inr ((a1,s1,b1,r1),a)) from e0,j0]
 dsimp only
 rw[h1,j0,show GN N D _ _ i1=some (.inl z) from e1];rfl
abbrev srcE(W:EWld)(E:EEnt):ESrc:=(qAm W.2.2.1 E.2.2.2.1).getD ((⟨#[]⟩:ByteArray),[],[])
def qXt:EOut->EOut
 | .inl z=> .inl z
 | .inr y=> .inr ((y.1.1,y.1.2.1,IntKind.wrap .i64 (y.1.2.2.1-1),y.1.2.2.2),y.2)
theorem qSn{E:EEnt}{d:EDcl}{args:List Int}{o:EOut}(ha:t.2.2.1≠64)(hd:idx (srcE W E).2.2 E.2.2.2.2.1=some d)
  (ho:GN N D (mch W env w (t.1,t.2.1,IntKind.wrap .i64 (t.2.2.1+1),t.2.2.2)) (srcE W E,d,args) (IntKind.wrap .i64 ((d.2.2.2.length:Int)-1))=some o):
  GE N (D+1) (mch W env w t) E args=some (qXt o):=by
 have h1:(t.2.2.1==64)=false:=by simpa using ha
 show qDn N (GN N D) (GE N D) (GC N D) (GB N D) (GI N D) (GR N D) (mch W env w t) E args=_
 unfold qDn
 simp only[qLg,h1,cond_false,j0,hd]
 rw[show GN N D _ _ _=some o from ho]
 cases o<;>rfl
end
def outV:EOut->Int
 | .inl _=>0
 | .inr y=>y.2
def outE:EOut->Int
 | .inl z=>z.1
 | .inr _=>0
def outK:EOut->Int
 | .inl _=>3
 | .inr y=>if y.2=0 then 2 else 1
def outS:EOut->ESta
 | .inl z=>z.2
 | .inr y=>y.1
theorem qVi{N:Nat}{m:EMch}{E:EEnt}{args:List Int}{o:EOut}(h:qCm N m E args=some o):qDa N m E args=some (outS o,(outK o,outV o,outE o)):=by
 unfold qDa
 rw[show qCm N _ _ _=some o from h,j0]
 cases o with
 |inl z=>rfl
 |inr y=>
  dsimp only
  by_cases h0:y.2=0
  .rw[if_pos (by simpa using h0)];simp only[outK,outV,outE,outS,h0,if_pos]
  rw[if_neg (by simpa using h0)];simp only[outK,outV,outE,outS,h0,if_neg,jY]
theorem qXh{N:Nat}(hN:40<N){m:EMch}{E:EEnt}{args:List Int}{o:EOut}{k:EKy}(h:qCm N m E args=some o)(ht:(outS o).1=some [(k,true)]):
  qDf N m E args=some (outS o,((outK o,outV o,outE o),(outS o).2.2.2,[k],(outS o).2.1)):=by
 unfold qDf
 rw[show qDa N _ _ _=_ from qVi h,j0]
 dsimp only
 rw[ht]
 simp only[isQ,jQ,j0,Option.getD_some]
 refine qTi fun l hl=> ?_
 rw[List.perm_singleton.1 hl]
 have hs:qAv N [k]=some [k]:=by
  unfold qAv
  rw[if_pos ⟨by omega,by show 1<4611686018427387904;decide⟩];rfl
 have happ:qFb 40 ([]:List EKy) [k]=some [k]:=by rfl
 have hl1:qGt (qDc N) [(k,true)] ([]:List EKy)=some [k]:=by
  simp only[qGt,qDc]
  rw[show qFb 40 ([]:List EKy) [(k.1,k.2.1,k.2.2)]=some [k] from happ]
  rfl
 rw[hl1,j0,hs,j0]
theorem qSk{N:Nat}:∀{l:List Int},(∀v∈l,inV v=true)->∀M (i:Nat),l.length<i+M->i<=l.length->l.length<1000000->qCr (qFh N l) M (i:Int)=some (.inl ()):=by
 intro l h M
 induction M with
 |zero=>intro i h1 h2;omega
 |succ M ih=>
  intro i h1 h2 h3
  simp only[qCr,qFh]
  by_cases hi:i<l.length
  .rw[if_pos (by simpa using hi),qUm hi]
   have hw:qGm N l[i]=some false:=by
    unfold qGm
    rw[qOq,h _ (List.getElem_mem hi)];rfl
   simp only[j0,hw,jG,jY]
   rw[wi64 (by omega) (by omega)]
   exact ih (i+1) (by omega) (by omega) h3
  rw[if_neg (by simpa using hi)];rfl
theorem qVy{N:Nat}(hN:40<N){R:List (ByteArray×ByteArray)}{W:EWld}{P nm:ByteArray}{args:List Int}{E:EEnt}{d:EDcl}{o:EOut}(hw:qJb N R=some W)(hv:W.2.1=true)(ha:∀v∈args,inV v=true)(hl:args.length<30)
  (hf:qCx N W 1 P nm=some E) (hc:E.2.2.2.2.2=1) (hd:idx (srcE W E).2.2 E.2.2.2.2.1=some d) (hp:args.length=d.2.2.1.length)
  (ho:qCm N (mch W [] 0 (some [((1,P,nm),true)],0,0,false)) E args=some o) (ht:(outS o).1=some [((1,P,nm),true)]):
  qCa N R [] 0 P nm args=some (outV o,((outK o,outV o,outE o),(outS o).2.2.2,[(1,P,nm)],(outS o).2.1),0):=by
 obtain⟨M,rfl⟩:∃M,N=M+40:=⟨N-40,by omega⟩
 unfold qCa
 rw[hw,j0,if_neg (by rw[hv];decide)]
 rw[show qDk (M+40) []=some true from by kernel_rfl]
 simp only[j0]
 rw[if_neg (by decide)]
 rw[show qCr (qFh (M+40) args) (M+40) 0=some (.inl ()) from qSk ha _ 0 (by omega) (Nat.zero_le _) (by omega)]
 simp only[j0]
 rw[if_neg (by decide)]
 rw[show qCx (M+40) _ 1 P nm=some E from hf,j0,if_neg (by rw[hc];decide),hd,j0,if_neg (by rw[hp];simp)]
 have hlook:qBg (M+40) (mch W [] 0 (some [],0,0,false)) [(1,P,nm)]=some (some [((1,P,nm),true)],0,0,false):=by kernel_rfl
 have hr:=qXh hN ho ht
 have hn:∀{α:Type} (K:Option (List (Int×Option Nat))->Option α),((qDy (some []:Option (List (Int×Option Nat))) 1 (some 25:Option Nat)).bind fun mp1=>(qDy mp1 2 (some 26:Option Nat)).bind fun mp2=>(qDy mp2 3 (some 27:Option Nat)).bind fun mp3=>(qDy mp3 4 (some 28:Option Nat)).bind fun mp4=>(qDy mp4 5 (some 29:Option Nat)).bind fun mp5=>(qDy mp5 6 (some 30:Option Nat)).bind fun mp6=>(qDy mp6 7 (some 31:Option Nat)).bind fun mp7=>(qDy mp7 8 (some 32:Option Nat)).bind fun mp8=>(qDy mp8 9 (some 33:Option Nat)).bind fun mp9=>(qDy mp9 10 (some 34:Option Nat)).bind K)=K ndC:=fun K=>by rfl
 rw[hn]
 rw[show qBg (M+40) _ [(1,P,nm)]=_ from hlook,j0]
 rw[show qDf (M+40) _ _ args=_ from hr]
 rfl
def Ev(k0:ETrc)(F:ESta->Option EOut)(a k v:Int):Prop:=∀s:Int,0<=s->s<=20000->
 (s+k<=20000->F (k0,s,a,false)=some (.inr ((k0,s+k,a,false),v)))/\(20000<s+k->∃a',F (k0,s,a,false)=some (.inl (16,(k0,20000,a',false))))
section
variable {N D:Nat} {W:EWld} {c:EFr} {i:Int} {x:EEx} {k0:ETrc} {a:Int}
theorem up_eq{s:Int}(h0:0<=s)(h:s<20000):up (k0,s,a,false)=(k0,s+1,a,false):=by
 show(k0,IntKind.wrap .i64 (s+1),a,false)=_
 rw[wi64 (by omega) (by omega)]
theorem qPy{F:ESta->Option EOut}{k v:Int}(hk:0<=k)(h1:∀t:ESta,t.2.1≠20000->GN N (D+1) (mch W [] 0 t) c i=F (up t))(hF:Ev k0 F a k v):Ev k0 (fun t=>GN N (D+1) (mch W [] 0 t) c i) a (1+k) v:=by
 intro s h0 h2
 by_cases hs:s=20000
 .subst hs
  exact⟨fun h=>by omega,fun _=>⟨a,qVp rfl⟩⟩
 obtain⟨f1,f2⟩:=hF (s+1) (by omega) (by omega)
 have e:GN N (D+1) (mch W [] 0 (k0,s,a,false)) c i=F (k0,s+1,a,false):=by rw[h1 _ hs,up_eq h0 (by omega)]
 refine⟨fun h=> ?_,fun h=> ?_⟩
 .refine(e.trans (f1 (by omega))).trans ?_;exact congrArg (fun z=>some (Sum.inr ((k0,z,a,false),v))) (by omega)
 obtain⟨a',f⟩:=f2 (by omega)
 exact⟨a',e.trans f⟩
theorem qUi{v:Int}(h1:∀t:ESta,t.2.1≠20000->GN N (D+1) (mch W [] 0 t) c i=some (.inr (up t,v))):Ev k0 (fun t=>GN N (D+1) (mch W [] 0 t) c i) a 1 v:=by
 have:=qPy (k0:=k0) (a:=a) (F:=fun t=>some (.inr (t,v))) (k:=0) (v:=v) (Int.le_refl _) h1 (fun s h0 h2=>⟨fun _=>by rw[Int.add_zero],fun h=>by omega⟩)
 exact this
theorem qSq(hx:idx c.2.1.2.2.2 i=some x)(hk:x.1=1):Ev k0 (fun t=>GN N (D+1) (mch W [] 0 t) c i) a 1 x.2.1:=qUi fun _ hs=>qWe hs hx hk
theorem qTr(hx:idx c.2.1.2.2.2 i=some x)(hk:x.1=2){v:Int}(hv:idx c.2.2 x.2.1=some v):Ev k0 (fun t=>GN N (D+1) (mch W [] 0 t) c i) a 1 v:=qUi fun _ hs=>qVq hs hx hk hv
theorem qSv{i0 i1 p q k1 k2 v:Int}(hx:idx c.2.1.2.2.2 i=some x)(hk:x.1=4)(h0:idx x.2.2.2.2 0=some i0)(h1:idx x.2.2.2.2 1=some i1)(g1:0<=k1)(g2:0<=k2)
  (e0:Ev k0 (fun t=>GN N D (mch W [] 0 t) c i0) a k1 p) (e1:Ev k0 (fun t=>GN N D (mch W [] 0 t) c i1) a k2 q) (hv:∀t,arV x.2.2.1 p q t=some (.inr (t,v))):Ev k0 (fun t=>GN N (D+2) (mch W [] 0 t) c i) a (1+(k1+k2)) v:=by
 refine qPy (D:=D+1) (F:=fun t=>GB N (D+1) (mch W [] 0 t) c x) (by omega) (fun t hs=>qVx hs hx hk) ?_
 intro s hs0 hs1
 obtain⟨f1,f2⟩:=e0 s hs0 hs1
 by_cases c1:s+k1<=20000
 .obtain⟨f3,f4⟩:=e1 (s+k1) (by omega) c1
  refine⟨fun h=> ?_,fun h=> ?_⟩
  .exact(qXm h0 h1 (f1 c1) (f3 (by omega))).trans ((hv _).trans (congrArg (fun z=>some (Sum.inr ((k0,z,a,false),v))) (by omega)))
  obtain⟨a',f⟩:=f4 (by omega)
  exact⟨a',qWj h0 h1 (f1 c1) f⟩
 refine⟨fun h=>by omega,fun _=> ?_⟩
 obtain⟨a',f⟩:=f2 (by omega)
 exact⟨a',qVo h0 f⟩
theorem qYb{t:ESta}{i0:Int}{z:Int×ESta}(h0:idx x.2.2.2.2 0=some i0)(e0:GN N D (mch W [] 0 t) c i0=some (.inl z)):GI N (D+1) (mch W [] 0 t) c x=some (.inl z):=by
 show qCd N (GN N D) (GE N D) (GC N D) (GB N D) (GI N D) (GR N D) (mch W [] 0 t) c x=_
 unfold qCd
 rw[h0,j0,show GN N D _ _ i0=some (.inl z) from e0];rfl
theorem qXs{t t1:ESta}{i0 j p:Int}{o:EOut}(h0:idx x.2.2.2.2 0=some i0)(h1:idx x.2.2.2.2 (if p=0 then 2 else 1)=some j)(e0:GN N D (mch W [] 0 t) c i0=some (.inr (t1,p)))(e1:GN N D (mch W [] 0 t1) c j=some o):
  GI N (D+1) (mch W [] 0 t) c x=some o:=by
 show qCd N (GN N D) (GE N D) (GC N D) (GB N D) (GI N D) (GR N D) (mch W [] 0 t) c x=_
 unfold qCd
 obtain⟨a1,s1,b1,r1⟩:=t1
 rw[h0,j0,show GN N D _ _ i0=some (.inr ((a1,s1,b1,r1),p)) from e0,j0]
 dsimp only
 by_cases hp:p=0
 .rw[if_pos hp] at h1
  rw[if_neg (by simpa using hp),h1,j0,show GN N D _ _ j=some o from e1]
  cases o<;>rfl
 rw[if_neg hp] at h1
 rw[if_pos (by simpa using hp),h1,j0,show GN N D _ _ j=some o from e1]
 cases o<;>rfl
theorem qXw{i0 j p k1 k2 v:Int}(hx:idx c.2.1.2.2.2 i=some x)(hk:x.1=5)(h0:idx x.2.2.2.2 0=some i0)(h1:idx x.2.2.2.2 (if p=0 then 2 else 1)=some j)(g1:0<=k1)(g2:0<=k2)
  (e0:Ev k0 (fun t=>GN N D (mch W [] 0 t) c i0) a k1 p) (e1:Ev k0 (fun t=>GN N D (mch W [] 0 t) c j) a k2 v):Ev k0 (fun t=>GN N (D+2) (mch W [] 0 t) c i) a (1+(k1+k2)) v:=by
 refine qPy (D:=D+1) (F:=fun t=>GI N (D+1) (mch W [] 0 t) c x) (by omega) (fun t hs=>qWw hs hx hk) ?_
 intro s hs0 hs1
 obtain⟨f1,f2⟩:=e0 s hs0 hs1
 by_cases c1:s+k1<=20000
 .obtain⟨f3,f4⟩:=e1 (s+k1) (by omega) c1
  refine⟨fun h=> ?_,fun h=> ?_⟩
  .exact(qXs h0 h1 (f1 c1) (f3 (by omega))).trans (congrArg (fun z=>some (Sum.inr ((k0,z,a,false),v))) (by omega))
  obtain⟨a',f⟩:=f4 (by omega)
  exact⟨a',qXs h0 h1 (f1 c1) f⟩
 refine⟨fun h=>by omega,fun _=> ?_⟩
 obtain⟨a',f⟩:=f2 (by omega)
 exact⟨a',qYb h0 f⟩
theorem qQc{t:ESta}{i0:Int}{E:EEnt}{ks:List EKy}{d:EDcl}{o:EOut}(hN:10<N)(h0:x.2.2.2.2=[i0])(hr:qEv N W c.1 x.2.2.2.1=some (E,ks,0))(hl:qBg N (mch W [] 0 t) ks=some t)
  (hd:idx (srcE W E).2.2 E.2.2.2.2.1=some d) (hp:d.2.2.1.length=1):
  (∀z,GN N D (mch W [] 0 t) c i0=some (.inl z)->GC N (D+1) (mch W [] 0 t) c x=some (.inl z))/\
  (∀t1 p,GN N D (mch W [] 0 t) c i0=some (.inr (t1,p))->GE N D (mch W [] 0 t1) E [p]=some o->GC N (D+1) (mch W [] 0 t) c x=some o):=by
 obtain⟨M,rfl⟩:∃M,N=M+2:=⟨N-2,by omega⟩
 have hi:idx x.2.2.2.2 0=some i0:=by rw[h0];rfl
 have hlen:((x.2.2.2.2).length:Int)=1:=by rw[h0];rfl
 have w1:IntKind.wrap .i64 (0+1)=1:=by decide
 refine⟨fun z hz=> ?_,fun t1 p hz he=> ?_⟩
 .show qCi (M+2) (GN (M+2) D) (GE (M+2) D) (GC (M+2) D) (GB (M+2) D) (GI (M+2) D) (GR (M+2) D) (mch W [] 0 t) c x=_
  unfold qCi
  rw[show qEv (M+2) _ c.1 x.2.2.2.1=_ from hr,j0,show qBg (M+2) _ ks=_ from hl,j0,show qGa (M+2) 0=some (.inr ()) from rfl,j0]
  dsimp only
  have hloop:qCr (qBw (M+2) (GN (M+2) D) (mch W [] 0 t) c x) (M+2) (([]:List Int),0,t.2.1,t.2.2.1,t.2.2.2,t.1)=some (.inr (.inl z)):=by
   simp only[qCr,qBw]
   rw[hlen,if_pos (by simp),hi,j0,show GN (M+2) D _ _ i0=_ from hz];rfl
  rw[hloop];rfl
 show qCi (M+2) (GN (M+2) D) (GE (M+2) D) (GC (M+2) D) (GB (M+2) D) (GI (M+2) D) (GR (M+2) D) (mch W [] 0 t) c x=_
 unfold qCi
 rw[show qEv (M+2) _ c.1 x.2.2.2.1=_ from hr,j0,show qBg (M+2) _ ks=_ from hl,j0,show qGa (M+2) 0=some (.inr ()) from rfl,j0]
 dsimp only
 have happ:qFb 8 ([]:List Int) [p]=some [p]:=rfl
 have hloop:qCr (qBw (M+2) (GN (M+2) D) (mch W [] 0 t) c x) (M+2) (([]:List Int),0,t.2.1,t.2.2.1,t.2.2.2,t.1)=some (.inl ([p],t1.2.1,t1.2.2.1,t1.2.2.2,t1.1)):=by
  simp only[qCr,qBw]
  rw[hlen,if_pos (by simp),hi,j0,show GN (M+2) D _ _ i0=_ from hz]
  simp only[j0,happ,w1]
  rw[if_neg (by simp)];rfl
 rw[hloop,j0]
 dsimp only
 rw[hd,j0,hp,show qCf (M+2) ((([p].length:Nat):Int) !=((1:Nat):Int)) 13=some (.inr ()) from rfl,j0]
 dsimp only
 rw[show GE (M+2) D _ E [p]=some o from he]
 cases o<;>rfl
theorem qXd{i0 p k1 k2 v:Int}{E:EEnt}{ks:List EKy}{d:EDcl}(hN:10<N)(hx:idx c.2.1.2.2.2 i=some x)(hk:x.1=3)(h0:x.2.2.2.2=[i0])(hr:qEv N W c.1 x.2.2.2.1=some (E,ks,0))
  (hl:∀s,qBg N (mch W [] 0 (k0,s,a,false)) ks=some (k0,s,a,false)) (hd:idx (srcE W E).2.2 E.2.2.2.2.1=some d) (hp:d.2.2.1.length=1) (g1:0<=k1) (g2:0<=k2)
  (e0:Ev k0 (fun t=>GN N D (mch W [] 0 t) c i0) a k1 p) (e1:Ev k0 (fun t=>GE N D (mch W [] 0 t) E [p]) a k2 v):Ev k0 (fun t=>GN N (D+2) (mch W [] 0 t) c i) a (1+(k1+k2)) v:=by
 refine qPy (D:=D+1) (F:=fun t=>GC N (D+1) (mch W [] 0 t) c x) (by omega) (fun t hs=>qUj hs hx hk) ?_
 intro s hs0 hs1
 obtain⟨f1,f2⟩:=e0 s hs0 hs1
 by_cases c1:s+k1<=20000
 .obtain⟨f3,f4⟩:=e1 (s+k1) (by omega) c1
  refine⟨fun h=> ?_,fun h=> ?_⟩
  .exact((qQc (D:=D) hN h0 hr (hl s) hd hp).2 _ _ (f1 c1) (f3 (by omega))).trans (congrArg (fun z=>some (Sum.inr ((k0,z,a,false),v))) (by omega))
  obtain⟨a',f⟩:=f4 (by omega)
  exact⟨a',(qQc (D:=D) hN h0 hr (hl s) hd hp).2 _ _ (f1 c1) f⟩
 refine⟨fun h=>by omega,fun _=> ?_⟩
 obtain⟨a',f⟩:=f2 (by omega)
 exact⟨a',(qQc (D:=D) (o:= .inl (16,(k0,20000,a',false))) hN h0 hr (hl s) hd hp).1 _ f⟩
theorem qSw{E:EEnt}{d:EDcl}{args:List Int}{k v:Int}(ha0:0<=a)(ha:a<64)(hd:idx (srcE W E).2.2 E.2.2.2.2.1=some d){r:Int}(hroot:IntKind.wrap .i64 ((d.2.2.2.length:Int)-1)=r)
  (e:Ev k0 (fun t=>GN N D (mch W [] 0 t) (srcE W E,d,args) r) (a+1) k v):Ev k0 (fun t=>GE N (D+1) (mch W [] 0 t) E args) a k v:=by
 intro s hs0 hs1
 obtain⟨f1,f2⟩:=e s hs0 hs1
 have w1:IntKind.wrap .i64 (a+1)=a+1:=wi64 (by omega) (by omega)
 have w2:IntKind.wrap .i64 (a+1-1)=a:=by rw[wi64 (by omega) (by omega)];omega
 refine⟨fun h=> ?_,fun h=> ?_⟩
 .refine(qSn (t:=(k0,s,a,false)) (show a≠64 by omega) hd (o:= .inr ((k0,s+k,a+1,false),v)) ?_).trans ?_
  .rw[hroot];show GN N D (mch W [] 0 (k0,s,IntKind.wrap .i64 (a+1),false)) _ r=_;rw[w1];exact f1 h
  show some (Sum.inr ((k0,s+k,IntKind.wrap .i64 (a+1-1),false),v))=_;rw[w2]
 obtain⟨a',f⟩:=f2 h
 refine⟨a',qSn (t:=(k0,s,a,false)) (show a≠64 by omega) hd (o:= .inl (16,(k0,20000,a',false))) ?_⟩
 rw[hroot];show GN N D (mch W [] 0 (k0,s,IntKind.wrap .i64 (a+1),false)) _ r=_;rw[w1];exact f
end
abbrev liT:ByteArray:=⟨#[112,97,99,107,97,103,101,32,112,59,32,102,117,110,99,32,102,40,110,41,32,61,32,105,102,32,110,32,60,32,49,32,116,104,101,110,32,55,32,101,108,115,101,32,102,40,110,32,45,32,49,41,59,32,102,117,110,99,32,103,40,110,41,32,61,32,105,102,32,110,32,60,32,49,32,116,104,101,110,32,49,32,101,108,115,101,32,103,40,110,32,45,32,49,41,32,43,32,103,40,110,32,45,32,49,41,59,32,103,101,110,32,34,99,34,32,61,32,51,48,48,59,32,102,117,110,99,32,104,40,110,41,32,61,32,114,101,97,100,40,34,99,34,44,32,110,41,32,43,32,114,101,97,100,40,34,99,34,44,32,48,41,59,32,103,101,110,32,34,100,34,32,61,32,114,101,97,100,40,34,100,34,44,32,48,41,59,32,116,101,115,116,32,116,32,61,32,114,101,97,100,40,34,100,34,44,32,48,41,59]⟩
abbrev liR:List (ByteArray×ByteArray):=[(⟨#[97,46,115,114,99]⟩,liT)]
abbrev liP:ByteArray:=⟨#[112]⟩
abbrev liG:ByteArray:=⟨#[103]⟩
def liW:EWld:=(qJb 800 liR).getD ([],false,none,[],none)
theorem qYf(M:Nat):qJb (M+800) liR=some liW:=by kernel_rfl
theorem qXu:liW.2.1=true:=by kernel_rfl
abbrev gE:EEnt:=(liP,liG,1,⟨#[97,46,115,114,99]⟩,1,1)
def gX:List EEx:=[(2,0,0,⟨#[]⟩,[]),(1,1,0,⟨#[]⟩,[]),(4,0,6,⟨#[]⟩,[0,1]),(1,1,0,⟨#[]⟩,[]),(2,0,0,⟨#[]⟩,[]),(1,1,0,⟨#[]⟩,[]),(4,0,2,⟨#[]⟩,[4,5]),(3,0,0,liG,[6]),(2,0,0,⟨#[]⟩,[]),(1,1,0,⟨#[]⟩,[]),(4,0,2,⟨#[]⟩,[8,9]),(3,0,0,liG,[10]),(4,0,1,⟨#[]⟩,[7,11]),(5,0,0,⟨#[]⟩,[2,3,12])]
abbrev gD:EDcl:=(1,liG,[⟨#[110]⟩],gX)
theorem qVz:idx (srcE liW gE).2.2 gE.2.2.2.2.1=some gD:=by kernel_rfl
theorem gF_eq(M:Nat):qCx (M+800) liW 1 liP liG=some gE:=by kernel_rfl
theorem gC_eq(M:Nat):qEv (M+800) liW (srcE liW gE) liG=some (gE,[(1,liP,liG)],0):=by kernel_rfl
def kG:ETrc:=some [((1,liP,liG),true)]
theorem gL_eq(M:Nat)(s a:Int):qBg (M+800) (mch liW [] 0 (kG,s,a,false)) [(1,liP,liG)]=some (kG,s,a,false):=by kernel_rfl
def gT:Nat->Int
 |0=>5
 |n+1=>13+2*gT n
theorem qYa:∀n,0<=gT n
 |0=>by decide
 |n+1=>by have:=qYa n;unfold gT;omega
theorem qWm{v:Int}(h: -9007199254740992<=v/\v<=9007199254740992)(t:ESta):chkV v t= .inr (t,v):=by
 unfold chkV inV;rw[decide_eq_true h.1,decide_eq_true h.2];rfl
theorem qYe{n:Nat}(h:n<=40):(2:Int)^n<=1099511627776/\0<(2:Int)^n:=by
 have h1:(2:Nat)^n<=2^40:=Nat.pow_le_pow_right (by decide) h
 have h2:0<(2:Nat)^n:=Nat.pow_pos (by decide)
 have e:(2:Int)^n=((2^n:Nat):Int):=by simp
 rw[e]
 omega
theorem gEv(M:Nat):∀(n D:Nat) (a:Int),0<=a->a+n<64->n<=40->Ev kG (fun t=>GE (M+800) (D+6+7*n) (mch liW [] 0 t) gE [(n:Int)]) a (gT n) (2^n)
 |0,D,a,h0,h1,_=>by
  refine qSw (D:=D+5) h0 (by omega) qVz (r:=13) rfl ?_
  refine qXw (D:=D+3) (x:=(5,0,0,⟨#[]⟩,[2,3,12])) (i0:=2) (p:=1) (j:=3) (k1:=3) (k2:=1) rfl rfl rfl rfl (by decide) (by decide) ?_ ?_
  .exact qSv (D:=D+1) (x:=(4,0,6,⟨#[]⟩,[0,1])) (i0:=0) (i1:=1) (p:=0) (q:=1) rfl rfl rfl rfl (by decide) (by decide) (qTr (D:=D) (x:=(2,0,0,⟨#[]⟩,[])) rfl rfl rfl) (qSq (D:=D) (x:=(1,1,0,⟨#[]⟩,[])) rfl rfl) (fun _=>rfl)
  exact qSq (D:=D+2) (x:=(1,1,0,⟨#[]⟩,[])) rfl rfl
 |n+1,D,a,h0,h1,hn=>by
  have ih:=gEv M n D (a+1) (by omega) (by omega) (by omega)
  have hT:=qYa n
  have hp:=qYe (n:=n) (by omega)
  have hc:(((n+1:Nat):Int))=(n:Int)+1:=by omega
  rw[show D+6+7*(n+1)=(D+6+7*n)+7 by omega,hc]
  have hlt:∀t:ESta,arV 6 ((n:Int)+1) 1 t=some (.inr (t,0)):=fun t=>by
   show some (chkV (bif decide ((n:Int)+1<1) then 1 else 0) t)=_
   rw[show decide ((n:Int)+1<1)=false by simp only[decide_eq_false_iff_not];omega];rfl
  have hsub:∀t:ESta,arV 2 ((n:Int)+1) 1 t=some (.inr (t,(n:Int))):=fun t=>by
   show some (chkV (IntKind.wrap .i64 ((n:Int)+1-1)) t)=_
   rw[show(n:Int)+1-1=n by omega,wi64 (by omega) (by omega),qWm (by omega)]
  have hadd:∀t:ESta,arV 1 (2^n) (2^n) t=some (.inr (t,2^(n+1))):=fun t=>by
   show some (chkV (IntKind.wrap .i64 (2^n+2^n)) t)=_
   rw[show(2:Int)^(n+1)=2^n+2^n by rw[Int.pow_succ];omega]
   generalize (2:Int)^n=z at hp ⊢
   rw[wi64 (by omega) (by omega),qWm (by omega)]
  have harg:∀i0 i1 i:Int,idx gX i0=some (2,0,0,⟨#[]⟩,[])->idx gX i1=some (1,1,0,⟨#[]⟩,[])->idx gX i=some (4,0,2,⟨#[]⟩,[i0,i1])->
    Ev kG (fun t=>GN (M+800) (D+6+7*n) (mch liW [] 0 t) (srcE liW gE,gD,[(n:Int)+1]) i) (a+1) 3 (n:Int):=fun i0 i1 i e0 e1 e2=>by
   have:D+6+7*n=(D+3+7*n)+3:=by omega
   rw[this]
   exact qSv (D:=D+3+7*n+1) (c:=(srcE liW gE,gD,[(n:Int)+1])) (x:=(4,0,2,⟨#[]⟩,[i0,i1])) (p:=(n:Int)+1) (q:=1) (k1:=1) (k2:=1) e2 rfl rfl rfl (by decide) (by decide) (qTr (D:=D+3+7*n) (x:=(2,0,0,⟨#[]⟩,[])) e0 rfl rfl) (qSq (D:=D+3+7*n) (x:=(1,1,0,⟨#[]⟩,[])) e1 rfl) hsub
  have hcall:∀i i0:Int,idx gX i=some (3,0,0,liG,[i0])->Ev kG (fun t=>GN (M+800) (D+6+7*n) (mch liW [] 0 t) (srcE liW gE,gD,[(n:Int)+1]) i0) (a+1) 3 (n:Int)->
    Ev kG (fun t=>GN (M+800) (D+6+7*n+2) (mch liW [] 0 t) (srcE liW gE,gD,[(n:Int)+1]) i) (a+1) (4+gT n) (2^n):=fun i i0 e ea=>by
   have:=qXd (D:=D+6+7*n) (c:=(srcE liW gE,gD,[(n:Int)+1])) (x:=(3,0,0,liG,[i0])) (by omega) e rfl rfl (gC_eq M) (fun s=>gL_eq M s (a+1)) qVz rfl (by decide) hT ea ih
   rwa[show 1+(3+gT n)=4+gT n by omega] at this
  have hg:gT (n+1)=1+(3+(1+((4+gT n)+(4+gT n)))):=by show 13+2*gT n=_;omega
  rw[hg]
  refine qSw (D:=D+6+7*n+6) h0 (by omega) qVz (r:=13) rfl ?_
  refine qXw (D:=D+6+7*n+4) (x:=(5,0,0,⟨#[]⟩,[2,3,12])) (i0:=2) (p:=0) (j:=12) (k1:=3) rfl rfl rfl rfl (by decide) (by omega) ?_ ?_
  .exact qSv (D:=D+6+7*n+2) (x:=(4,0,6,⟨#[]⟩,[0,1])) (i0:=0) (i1:=1) (p:=(n:Int)+1) (q:=1) rfl rfl rfl rfl (by decide) (by decide) (qTr (D:=D+6+7*n+1) (x:=(2,0,0,⟨#[]⟩,[])) rfl rfl rfl) (qSq (D:=D+6+7*n+1) (x:=(1,1,0,⟨#[]⟩,[])) rfl rfl) hlt
  exact qSv (D:=D+6+7*n+2) (x:=(4,0,1,⟨#[]⟩,[7,11])) (i0:=7) (i1:=11) (p:=2^n) (q:=2^n) rfl rfl rfl rfl (by omega) (by omega) (hcall 7 6 rfl (harg 4 5 6 rfl rfl rfl)) (hcall 11 10 rfl (harg 8 9 10 rfl rfl rfl)) hadd
theorem qYh(M n:Nat)(hn:n<=13):∃z k,qCa (M+800) liR [] 0 liP liG [(n:Int)]=some ((if gT n<=20000 then 2^n else 0),((k,(if gT n<=20000 then 2^n else 0),(if gT n<=20000 then 0 else 16)),false,z,(if gT n<=20000 then gT n else 20000)),0):=by
 have h:=gEv M n (M+794-7*n) 0 (Int.le_refl _) (by omega) (by omega) 0 (Int.le_refl _) (by decide)
 have hN:M+794-7*n+6+7*n=M+800:=by omega
 rw[hN] at h
 have ha:∀v∈[(n:Int)],inV v=true:=fun v hv=>by
  rw[List.mem_singleton.1 hv];unfold inV;simp only[jI,decide_eq_true_eq];omega
 have key:∀o:EOut,qCm (M+800) (mch liW [] 0 (kG,0,0,false)) gE [(n:Int)]=some o->(outS o).1=kG->_:=fun o ho ht=>qVy (N:=M+800) (by omega) (qYf M) qXu ha (by show 1<30;decide) (gF_eq M) rfl qVz rfl ho ht
 by_cases hc:gT n<=20000
 .rw[if_pos hc,if_pos hc,if_pos hc]
  exact⟨_,_,(key _ (h.1 (by omega)) rfl).trans (by rw[Int.zero_add];rfl)⟩
 rw[if_neg hc,if_neg hc,if_neg hc]
 obtain⟨a',e⟩:=h.2 (by omega)
 exact⟨_,_,key _ e rfl⟩
theorem qXp(M:Nat):([60,61,62,63,64,65,66,67]:List Int).map (fun k=>(qCa (M+800) liR [] 0 liP ⟨#[102]⟩ [k]).map fun y=>(y.1,y.2.1.1.2.2,y.2.2))=[some (7,0,0),some (7,0,0),some (7,0,0),some (7,0,0),some (0,17,0),some (0,17,0),some (0,17,0),some (0,17,0)]:=by kernel_rfl
theorem qXv(M:Nat):([0,1,2]:List Int).map (fun k=>(qCa (M+800) liR [] 0 liP ⟨#[104]⟩ [k]).map fun y=>(y.1,decide (y.2.1.1.2.2=0),y.2.1.2.2.2,y.2.2))=[some (88,true,7,0),some (0,false,3,0),some (0,false,3,0)]:=by kernel_rfl
theorem t_run(M:Nat):(qIh (M+800) liR [] 0 (liP,⟨#[116]⟩)).map (fun y=>(y.1.1,y.2))=some ((3,0,17),0):=by kernel_rfl
theorem qVu(M:Nat):qGb (M+800)=some true:=by kernel_rfl
theorem qQr{α β:Type}{x:Option α}{v:α}{f:α->Option β}{r:Option β}(h:x=some v)(h2:f v=r):Option.bind x f=r:=by
 subst h;exact h2
theorem qXa{α:Type}{x y:Option α}{r:Option α}(h:y=r):(if false=true then x else y)=r:=h
section
variable {M:Nat}
theorem qYi{a:Int}(h0:0<=a)(h1:a<8):∃y,qCa (M+800) liR [] 0 liP ⟨#[102]⟩ [IntKind.wrap .i64 (60+IntKind.wrap .i64 a)]=some y/\
  ((if(y.2.2 !=0)=true then(some true) else(if(!((y.2.1.1.2.2==0)==(decide ((IntKind.wrap .i64 (60+(IntKind.wrap .i64 a)))<64))))=true then(some true) else(if(y.2.1.1.2.2==0)=true then(if(y.1 !=7)=true then(some true) else(if(y.2.1.1.2.2 !=0)=true then(some (y.2.1.1.2.2 !=17)) else(some false))) else(if(y.2.1.1.2.2 !=0)=true then(some (y.2.1.1.2.2 !=17)) else(some false)))):Option Bool)=some false):=by
 have hf:=qXp M
 simp only[jF,List.map_nil,jW,and_true] at hf
 obtain⟨f0,f1,f2,f3,f4,f5,f6,f7⟩:=hf
 have fin:∀(k v e:Int),(qCa (M+800) liR [] 0 liP ⟨#[102]⟩ [k]).map (fun y=>(y.1,y.2.1.1.2.2,y.2.2))=some (v,e,0)->(if((0:Int) !=0)=true then(some true) else(if(!((e==0)==(decide (k<64))))=true then(some true) else(if(e==0)=true then(if(v !=7)=true then(some true) else(if(e !=0)=true then(some (e !=17)) else(some false))) else(if(e !=0)=true then(some (e !=17)) else(some false)))):Option Bool)=some false->
   ∃y,qCa (M+800) liR [] 0 liP ⟨#[102]⟩ [k]=some y/\((if(y.2.2 !=0)=true then(some true) else(if(!((y.2.1.1.2.2==0)==(decide (k<64))))=true then(some true) else(if(y.2.1.1.2.2==0)=true then(if(y.1 !=7)=true then(some true) else(if(y.2.1.1.2.2 !=0)=true then(some (y.2.1.1.2.2 !=17)) else(some false))) else(if(y.2.1.1.2.2 !=0)=true then(some (y.2.1.1.2.2 !=17)) else(some false)))):Option Bool)=some false):=fun k v e h hp=>by
  obtain⟨y,hy,he⟩:=jL.1 h
  simp only[Prod.mk.injEq] at he
  obtain⟨e1,e2,e3⟩:=he
  exact⟨y,hy,by rw[e1,e2,e3];exact hp⟩
 have hk:IntKind.wrap .i64 (60+IntKind.wrap .i64 a)=60+a:=by rw[wi64 (x:=a) (by omega) (by omega),wi64 (by omega) (by omega)]
 rw[hk]
 rcases(by omega:a=0\/a=1\/a=2\/a=3\/a=4\/a=5\/a=6\/a=7) with rfl|rfl|rfl|rfl|rfl|rfl|rfl|rfl
 .exact fin 60 _ _ f0 rfl
 .exact fin 61 _ _ f1 rfl
 .exact fin 62 _ _ f2 rfl
 .exact fin 63 _ _ f3 rfl
 .exact fin 64 _ _ f4 rfl
 .exact fin 65 _ _ f5 rfl
 .exact fin 66 _ _ f6 rfl
 exact fin 67 _ _ f7 rfl
theorem qXx{a:Int}(h0:0<=a)(h1:a<3):∃y,qCa (M+800) liR [] 0 liP ⟨#[104]⟩ [IntKind.wrap .i64 a]=some y/\
  ((if(y.2.2 !=0)=true then(some true) else(if(!((y.2.1.1.2.2==0)==(a==0)))=true then(some true) else(if(a==0)=true then(if(y.1 !=88)=true then(some true) else(some (y.2.1.2.2.2 !=7))) else(some false))):Option Bool)=some false):=by
 have hf:=qXv M
 simp only[jF,List.map_nil,jW,and_true] at hf
 obtain⟨f0,f1,f2⟩:=hf
 have fin:∀(k v s:Int) (b:Bool),(qCa (M+800) liR [] 0 liP ⟨#[104]⟩ [k]).map (fun y=>(y.1,decide (y.2.1.1.2.2=0),y.2.1.2.2.2,y.2.2))=some (v,b,s,0)->(if((0:Int) !=0)=true then(some true) else(if(!(b==(k==0)))=true then(some true) else(if(k==0)=true then(if(v !=88)=true then(some true) else(some (s !=7))) else(some false))):Option Bool)=some false->
   ∃y,qCa (M+800) liR [] 0 liP ⟨#[104]⟩ [k]=some y/\((if(y.2.2 !=0)=true then(some true) else(if(!((y.2.1.1.2.2==0)==(k==0)))=true then(some true) else(if(k==0)=true then(if(y.1 !=88)=true then(some true) else(some (y.2.1.2.2.2 !=7))) else(some false))):Option Bool)=some false):=fun k v s b h hp=>by
  obtain⟨y,hy,he⟩:=jL.1 h
  simp only[Prod.mk.injEq] at he
  obtain⟨e1,e2,e3,e4⟩:=he
  have e5:(y.2.1.1.2.2==0)=b:=e2
  exact⟨y,hy,by rw[e1,e3,e4,e5];exact hp⟩
 rw[wi64 (by omega) (by omega)]
 rcases(by omega:a=0\/a=1\/a=2) with rfl|rfl|rfl
 .exact fin 0 _ _ _ f0 rfl
 .exact fin 1 _ _ _ f1 rfl
 exact fin 2 _ _ _ f2 rfl
theorem qYc{a:Int}(h0:0<=a)(h1:a<14):∃y,qCa (M+800) liR [] 0 liP liG [IntKind.wrap .i64 a]=some y/\
  ((if(y.2.2 !=0)=true then(some true) else(if(decide (y.2.1.2.2.2>20000))=true then(some true) else(if(y.2.1.1.2.2 !=0)=true then(if(y.2.1.1.2.2 !=16)=true then(some true) else(if(y.2.1.2.2.2 !=20000)=true then(some true) else(if(y.2.1.1.2.2==0)=true then((shlS .i64 1 a).bind fun i1=>some (y.1 !=i1)) else(some false)))) else(if(y.2.1.1.2.2==0)=true then((shlS .i64 1 a).bind fun i2=>some (y.1 !=i2)) else(some false)))):Option Bool)=some false):=by
 obtain⟨n,rfl⟩:∃n:Nat,a=n:=⟨a.toNat,by omega⟩
 obtain⟨z,k,hc⟩:=qYh M n (by omega)
 rw[wi64 (by omega) (by omega)]
 refine⟨_,hc,?_⟩
 have hn:n<14:=by omega
 clear hc h0 h1
 rcases(by omega:n=0\/n=1\/n=2\/n=3\/n=4\/n=5\/n=6\/n=7\/n=8\/n=9\/n=10\/n=11\/n=12\/n=13) with rfl|rfl|rfl|rfl|rfl|rfl|rfl|rfl|rfl|rfl|rfl|rfl|rfl|rfl<;>rfl
end
theorem qUl(M:Nat)(x:Int)(h0:0<=x):qCp (M+800) x=some true:=by
 have t:∀k:Int,0<k->0<=Int.tmod x k/\Int.tmod x k<k:=fun k hk=>⟨Int.tmod_nonneg k h0,Int.tmod_lt_of_pos x hk⟩
 have t8:=t 8 (by decide)
 have t3:=t 3 (by decide)
 have t14:=t 14 (by decide)
 unfold qCp
 generalize Int.tmod x 8=a at t8 ⊢
 generalize Int.tmod x 3=b at t3 ⊢
 generalize Int.tmod x 14=c at t14 ⊢
 obtain⟨y1,c1,p1⟩:=qYi (M:=M) t8.1 t8.2
 obtain⟨y2,c2,p2⟩:=qXx (M:=M) t3.1 t3.2
 obtain⟨y3,c3,p3⟩:=qYc (M:=M) t14.1 t14.2
 obtain⟨y4,c4,p4⟩:=jL.1 (t_run M)
 refine qQr c1 ?_
 refine qQr p1 ?_
 refine qXa ?_
 refine qQr c2 ?_
 refine qQr p2 ?_
 refine qXa ?_
 refine qQr c3 ?_
 refine qQr p3 ?_
 refine qXa ?_
 refine qQr c4 ?_
 refine qQr (v:=true) ?_ rfl
 simp only[Prod.mk.injEq] at p4
 rw[p4.1,p4.2]
 refine Eq.trans (if_pos rfl) (Eq.trans (if_pos rfl) ?_)
 rw[qVu];rfl
theorem testgatelaw10_EvaluateLimits_true(n:Int)(gn:(Lit.int .u8 n).wf=true):∃N,qCp N n=some true:=
 ⟨0+800,qUl 0 n (by simp[Lit.wf,IntKind.min,IntKind.max,IntKind.signed,IntKind.bits] at gn;omega)⟩
end
end Go.Proofs.YtadnagdgimicdaaGreatDoor
