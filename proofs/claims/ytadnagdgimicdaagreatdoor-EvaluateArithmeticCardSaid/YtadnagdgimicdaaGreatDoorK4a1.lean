/- No condition but those of each theorem. -/
import Derived.Test.YtadnagdgimicdaaGreatDoorProg
import Derived.WalkKit
import Derived.Deep.LoopGhost
import Derived.KernelRfl
import Derived.OrdersHeld
import Derived.OrdersIn
import Derived.LoopNIn
import Derived.Sort.LoopGhostIn
import Derived.Laws.AppendOwn
import Derived.RangeFuncLeaves
import Derived.RangeFuncRecord
import Derived.MapKept
import Derived.Maps.RangeRun
import Derived.ChangeKeysEq
import Derived.HandedShaped
import Derived.ChangeStays
import Derived.ChangeSame
import Derived.OpenShut
import Derived.WideShapes
import Derived.JoinedOf
import Derived.ReadAgain
import Derived.ChangeAt
import Derived.RowKit
import Derived.Lib.Overlaps
import Derived.Shelf.SlSortCmp.NoneTotal
import Derived.WalkSmall
import Derived.Recover
import Derived.Test.YtadnagdgimicdaaGreatDoorK3a1
namespace Go.Proofs.YtadnagdgimicdaaGreatDoor
section
open Go Go.Dc
set_option maxHeartbeats 4000000
set_option maxRecDepth 100000
variable {N bp0 c1 c2 c3 c4:Nat} {m:Mem} {O:List Piece} {w:World} {a1 a2 a3 a4:Option Addr}
def qDa(N:Nat)(p0:T1o)(p1:T1i)(p2:Tg):Option (T1q×Int×Tb):=
 (qCo N (p0.1,p0.2.1,p0.2.2.1,p0.2.2.2.1,p0.2.2.2.2.1,p0.2.2.2.2.2.1,p0.2.2.2.2.2.2.1,p0.2.2.2.2.2.2.2) p1 p2).bind fun y1=>(match y1 with| .inl z1=>some (z1.2,(3,0,z1.1))| .inr y2=>if(y2.2==0)=true then(some (y2.1,(2,0,0))) else(some (y2.1,(1,y2.2,0))))
theorem qJi{p0:T1o}{p1:T1i}{p2:Tg}{bw1:Nat}{q1:Tf}{es1:Array MapEntry}{ck1:Nat}{q2:Tf}{es2:Array MapEntry}{ck2:Nat}{q3:Tf}{es3:Array MapEntry}{ck3:Nat}{q4:Tf}{es4:Array MapEntry}{ck4:Nat}{r:T1q×Int×Tb}(g:St m (qAb q1 es1 ck1::qAb q2 es2 ck2::kB bw1 #[vS a1 p0.1.1 c1,vB p0.1.2.1,.map q1,vS a2 p0.1.2.2.2.1 c2,.map q2] 55::qAb q3 es3 ck3::qAb q4 es4 ck4::kB bp0 #[vP bw1 0,vS a3 p0.2.1 c3,.int .u64 p0.2.2.1,.map q3,vI p0.2.2.2.2.1,vI p0.2.2.2.2.2.1,vB p0.2.2.2.2.2.2.1,.map q4] 91::O) w)(r1:RepS C1 m a1 c1 p0.1.1)(r2:MapQ (fun s:ByteArray=>Value.string s) C6 true m q1 es1 ck1 p0.1.2.2.1)(r3:RepS cStr m a2 c2 p0.1.2.2.2.1)(r4:MapQ qBb C7 true m q2 es2 ck2 p0.1.2.2.2.2)(r5:RepS C8 m a3 c3 p0.2.1)(r6:MapQ qBb qBv false m q3 es3 ck3 p0.2.2.2.1)(r7:MapQ (fun n:Int=>Value.int .i64 n) cFn false m q4 es4 ck4 p0.2.2.2.2.2.2.2)(r8:RepS (cInt .i64) m a4 c4 p2)(hr:qDa N p0 p1 p2=some r):Calls Tryz.prog 35 #[vP bp0 0,.agg (Vd p1),vS a4 p2 c4] w fun e w'=>∃re1 rk1 m',e= .returned (.agg (Vf r.2))/\m.le m'/\St m' (qAb q1 es1 ck1::qAb q2 es2 ck2::kB bw1 #[vS a1 p0.1.1 c1,vB p0.1.2.1,.map q1,vS a2 p0.1.2.2.2.1 c2,.map q2] 55::qAb q3 re1 rk1::qAb q4 es4 ck4::kB bp0 #[vP bw1 0,vS a3 p0.2.1 c3,.int .u64 p0.2.2.1,.map q3,vI r.1.2.1,vI r.1.2.2.1,vB r.1.2.2.2,.map q4] 91::O) w'/\MapQ qBb qBv false m' q3 re1 rk1 r.1.1:=by
 unfold qDa at hr;have q:=m.le_refl;refine qTg Tryz.func35 rfl Tryz.ntmps35 [(0,vP bp0 0),(1,.agg (Vd p1)),(2,vS a4 p2 c4)] kr rfl ?_;refine qPk ?_;refine qAv (qAa rfl (qDd 4 60 1 (.agg (Vd p1)) g fun b1 m1 w1 e1 g hb1=> ?_));have q:=q.t e1;refine qAa rfl (qBk 6 29 (.agg (Vg 0 0 0)) g fun b2 w2 g=>(qAz rfl (qNh (qPk (qAv (qAc 1 [(8,.func (.func 53) #[] #[vP b2 0])] (qTd ({target:= .fn (.func 53) #[vP b2 0],args:= #[]}) kr kr (qAz rfl (qNh (W_sr (qAc 1 [(9,vP bp0 0)] (qEq 10 60 4 0 (.agg (Vd p1)) g hb1 (qAc 1 [(11,vS a4 p2 c4)] (qBd 12 hr (fun _ h=>qKh (p0:=(p0.1,p0.2.1,p0.2.2.1,p0.2.2.2.1,p0.2.2.2.2.1,p0.2.2.2.2.2.1,p0.2.2.2.2.2.2.1,p0.2.2.2.2.2.2.2)) (p1:=p1) g.f6.f6.f6.f6.f6.f6 (r1.mono e1) (r2.mono e1) (r3.mono e1) (r4.mono e1) (r5.mono e1) (r6.mono e1) (r7.mono e1) (r8.mono e1) h) ?_))))))))))))));rintro y1 hr _ w3 (⟨z1,es6,ck6,m3,rfl,rfl,e3,g,r10⟩|⟨y2,rfl,es5,ck5,m2,rfl,e2,g,r9⟩)
 .refine qAd ?_;refine qWr [.cell 6 29] rfl (qKn Tryz.func53 kr) ?_;refine qKm (.panicking [{v:= .iface 125 (.agg #[vI z1.1]),recovered:=false}]) Tryz.func53 rfl Tryz.ntmps53 [(0,vP b2 0)] kr rfl (d:=4) kr kr [(1,.iface 125 (.agg #[vI z1.1])),(4,.iface 125 (.agg #[vI z1.1])),(0,vP b2 0)] (.iface 125 (.agg #[vI z1.1])) (.panicking [{v:= .iface 125 (.agg #[vI z1.1]),recovered:=true}]) rfl kr ?_;refine W_sr (qAg 2 [(6,vB true)] (qHw true kr ?_ (fun h=>Bool.noConfusion h)));intro _;refine W_sr (qAc 5 [(10,.agg #[vI z1.1]),(11,vB true)] (qAa rfl (qBk 2 125 (.agg #[vI 0]) g fun b3 w5 g=>(qAa rfl (qAt 125 2 10 (.agg #[vI z1.1]) g fun w6 g=>(qAg 1 [(3,vB true)] (qAs (W_sr (qAg 2 [(13,vB false)] (qHw false kr (fun h=>Bool.noConfusion h) ?_))))))))));intro _;refine qAq (qAj (qAv (qBz 1 16 27 15 0 (vI z1.1) g.h (qAc 1 [(17,.agg (Vg 3 0 z1.1))] (qAa rfl (qAt 29 0 17 (.agg (Vg 3 0 z1.1)) g.f7 fun w7 g=>(qAz rfl ?_)))))));cases hr;refine qKo [] [] rfl ResAll.nil (⟨_,rfl,?_⟩);refine⟨[.agg (Vg 3 0 z1.1)],(ResAll.cons (ResAt.blk (v:= .agg (Vg 3 0 z1.1)) (o:=0) kr g.h kr) ResAll.nil),?_⟩;exact⟨es6,ck6,m3,rfl,q.t e3,g.t.t.f5.f5.f5.f5.f5.f5,r10⟩
 refine qAg 1 [(7,vI y2.2)] (qAs (W_sr (qAg 2 [(14,vB (y2.2==0))] (W_if hr ?_ ?_))))
 .intro A hr;refine W_sr (qAc 1 [(15,.agg (Vg 2 0 0))] (qAa rfl (qAt 29 6 15 (.agg (Vg 2 0 0)) g.f6 fun w8 g=>(WO_e (qBc (qAh (qVo [.cell 6 29] rfl (qKn Tryz.func53 kr) (qKm .returning Tryz.func53 rfl Tryz.ntmps53 [(0,vP b2 0)] kr rfl (d:=4) kr kr [(1,.nilIface),(4,.nilIface),(0,vP b2 0)] (.nilIface) .returning rfl kr (W_sr (qAg 2 [(6,vB false)] (qHw false kr (fun h=>Bool.noConfusion h) ?_)))))))))));intro _;refine qAq ?_;cases hr;refine qKo [] [] rfl ResAll.nil (⟨_,rfl,?_⟩);refine⟨[.agg (Vg 2 0 0)],(ResAll.cons (ResAt.blk (v:= .agg (Vg 2 0 0)) (o:=0) kr g.h kr) ResAll.nil),?_⟩;exact⟨es5,ck5,m2,rfl,q.t e2,g.t.f5.f5.f5.f5.f5.f5,r9⟩
 intro A hr;refine qAq (qAj (W_sr (qAc 2 [(17,.agg (Vg 1 y2.2 0))] (qAa rfl (qAt 29 6 17 (.agg (Vg 1 y2.2 0)) g.f6 fun w9 g=>(WO_e (qBc (qVo [.cell 6 29] rfl (qKn Tryz.func53 kr) (qKm .returning Tryz.func53 rfl Tryz.ntmps53 [(0,vP b2 0)] kr rfl (d:=4) kr kr [(1,.nilIface),(4,.nilIface),(0,vP b2 0)] (.nilIface) .returning rfl kr (W_sr (qAg 2 [(6,vB false)] (qHw false kr (fun h=>Bool.noConfusion h) ?_))))))))))));intro _;refine qAq ?_;cases hr;refine qKo [] [] rfl ResAll.nil (⟨_,rfl,?_⟩);refine⟨[.agg (Vg 1 y2.2 0)],(ResAll.cons (ResAt.blk (v:= .agg (Vg 1 y2.2 0)) (o:=0) kr g.h kr) ResAll.nil),?_⟩;exact⟨es5,ck5,m2,rfl,q.t e2,g.t.f5.f5.f5.f5.f5.f5,r9⟩
def qGs(N:Nat)(p0:Int):T5:=
 some (p0 !=p0)
theorem qLg{p0:Int}{r:Bool}(g:St m (O) w)(hr:qGs N p0=some r):Calls Tryz.prog 84 #[vI p0] w fun e w'=>∃m',e= .returned (vB r)/\m.le m'/\St m' (O) w':=by
 unfold qGs at hr;have q:=m.le_refl;refine W_cA Tryz.func84 rfl Tryz.ntmps84 ?_;refine W_sr (qAg 1 [] (W_sr (qAg 4 [(2,vB (p0 !=p0))] (qBc ?_))));cases hr;exact X_rt [2] [vB (p0 !=p0)] ⟨m,rfl,q,g⟩
def qGm(N:Nat)(p0:Int)(p1:Int):T4:=
 (qGs N p0).bind fun y1=>(qGs N p1).bind fun y2=>if y1=true then(if y2=true then(some 0) else(some (-1))) else(if y2=true then(some 1) else(if(decide (p0<p1))=true then(some (-1)) else(if(decide (p0>p1))=true then(some 1) else(some 0))))
theorem qMz{p0:Int}{p1:Int}{r:Int}(g:St m (O) w)(hr:qGm N p0 p1=some r):Calls Tryz.prog 57 #[vI p0,vI p1] w fun e w'=>∃m',e= .returned (vI r)/\m.le m'/\St m' (O) w':=by
 unfold qGm at hr;have q:=m.le_refl;refine W_cA Tryz.func57 rfl Tryz.ntmps57 ?_;refine W_sr (qAg 1 [] (W_sr (qAc 1 [(7,vI p0)] (qBe 8 hr (fun _ h=>qLg g h) ?_))));rintro y1 hr _ w1 ⟨m1,rfl,e1,g⟩;refine qAg 1 [(5,vB y1)] (W_sr (qAc 1 [(9,vI p1)] (qBe 10 hr (fun _ h=>qLg g h) ?_)));rintro y2 hr _ w2 ⟨m2,rfl,e2,g⟩;have q:=(q.t e1).t e2;refine qAg 1 [(6,vB y2)] (qAs (W_sr (qAg 1 [(11,vB y1)] (W_if hr ?_ ?_))))
 .intro A hr;refine qAs (W_sr (qAg 1 [(12,vB y2)] (W_if hr ?_ ?_)))
  .intro A hr;refine W_sr (qAg 1 [(4,vI 0)] (qBc (qAh (qAh ?_))));cases hr;exact X_rt [4] [vI 0] ⟨m2,rfl,q,g⟩
  intro A hr;refine qAq (qAj (W_sr (qAg 1 [(4,vI (-1))] (qBc (qAh ?_)))));cases hr;exact X_rt [4] [vI (-1)] ⟨m2,rfl,q,g⟩
 intro A hr;refine qAq (qAj (qAs (W_sr (qAg 1 [(13,vB y2)] (W_if hr ?_ ?_)))))
 .intro A hr;refine W_sr (qAg 1 [(4,vI 1)] (qBc (qAh ?_)));cases hr;exact X_rt [4] [vI 1] ⟨m2,rfl,q,g⟩
 intro A hr;refine qAq (qAj (qAs (W_sr (qAg 3 [(16,vB (decide (p0<p1)))] (W_if hr ?_ ?_)))))
 .intro A hr;refine W_sr (qAg 1 [(4,vI (-1))] (qBc (qAh ?_)));cases hr;exact X_rt [4] [vI (-1)] ⟨m2,rfl,q,g⟩
 intro A hr;refine qAq (qAj (qAs (W_sr (qAg 3 [(19,vB (decide (p0>p1)))] (W_if hr ?_ ?_)))))
 .intro A hr;refine W_sr (qAg 1 [(4,vI 1)] (qBc (qAh ?_)));cases hr;exact X_rt [4] [vI 1] ⟨m2,rfl,q,g⟩
 intro A hr;refine qAq (qAj (W_sr (qAg 1 [(4,vI 0)] (qBc ?_))));cases hr;exact X_rt [4] [vI 0] ⟨m2,rfl,q,g⟩
def qDg(N:Nat)(p0:ByteArray)(p1:ByteArray):T4:=
 some (cmpS p0 p1)
theorem qHp{p0:ByteArray}{p1:ByteArray}{r:Int}(g:St m (O) w)(hr:qDg N p0 p1=some r):Calls Tryz.prog 85 #[vT p0,vT p1] w fun e w'=>∃m',e= .returned (vI r)/\m.le m'/\St m' (O) w':=by
 unfold qDg at hr;have q:=m.le_refl;refine W_cA Tryz.func85 rfl Tryz.ntmps85 ?_;refine W_sr (qAg 1 [] (W_sr (qAc 2 [(5,vT p0),(6,vT p1)] (qAa rfl (qTs (d:=7) (f:=103) (x:=(.tmp 5)) (y:=(.tmp 6)) (ts:= #[9,9]) kr rfl (ev (vT p0)) (ev (vT p1)) Tryz.func103 kr kr (qAg 1 [(4,vI (cmpS p0 p1))] (qBc ?_)))))));cases hr;exact X_rt [4] [vI (cmpS p0 p1)] ⟨m,rfl,q,g⟩
def qFt(N:Nat)(p0:ByteArray)(p1:ByteArray):T4:=
 (qDg N p0 p1).bind fun y1=>some y1
theorem qJq{p0:ByteArray}{p1:ByteArray}{r:Int}(g:St m (O) w)(hr:qFt N p0 p1=some r):Calls Tryz.prog 58 #[vT p0,vT p1] w fun e w'=>∃m',e= .returned (vI r)/\m.le m'/\St m' (O) w':=by
 unfold qFt at hr;have q:=m.le_refl;refine W_cA Tryz.func58 rfl Tryz.ntmps58 ?_;refine W_sr (qAg 1 [] (W_sr (qAc 2 [(5,vT p0),(6,vT p1)] (qBe 7 hr (fun _ h=>qHp g h) ?_))));rintro y1 hr _ w1 ⟨m1,rfl,e1,g⟩;refine qAg 1 [(4,vI y1)] (qBc ?_);obtain rfl:=sI hr;exact X_rt [4] [vI y1] ⟨m1,rfl,q.t e1,g⟩
def qIp(N:Nat)(p0:Tg)(s1:Int):Option (Int⊕Unit⊕Int):=
 if(decide (s1<(List.length p0:Int)))=true then((idx p0 s1).bind fun x1=>if(x1 !=0)=true then(some (.inr (.inr (x1)))) else(some (.inl (IntKind.wrap .i64 (s1+1))))) else(some (.inr (.inl ())))
def qKl(N:Nat)(p0:Tg):T4:=
 (qCz (qIp N p0) N 0).bind fun out1=>(match out1 with| .inl o1=>some 0| .inr (z)=>some z)
theorem qQl{p0:Tg}{r:Int}(g:St m (O) w)(r1:RepS (cInt .i64) m a1 c1 p0)(hr:qKl N p0=some r):Calls Tryz.prog 56 #[vS a1 p0 c1] w fun e w'=>∃m',e= .returned (vI r)/\m.le m'/\St m' (O) w':=by
 unfold qKl at hr;have q:=m.le_refl;refine W_cA Tryz.func56 rfl Tryz.ntmps56 ?_;refine W_sr (qAg 1 [] (W_sr (qAg 1 [(3,vI 0)] (qAs (W_sr (qAg 3 [(6,vS a1 p0 c1),(7,vI (p0.length:Int)),(8,vI 0)] (qBf ?_)))))));have⟨out1,hr,j1⟩:=qAw hr;refine qCv (.exit 0) (fun L' w'=>∃(o1:Unit),∃m1,(.inl o1)=out1/\L'=[(3,vI 0)]/\m.le m1/\St m1 (O) w') ?_ ?_
 .rintro _ w1 ⟨o1,m1,rfl,rfl,q,g⟩;have hr:=j1;refine qBp (qAj (W_sr (qAg 2 [(2,vI 0)] (qBc ?_))));cases hr;exact X_rt [2] [vI 0] ⟨m1,rfl,q,g⟩
 intro K0_u1;refine qHd _ kr (qEz (fun k1 L' w'=>∃(s1:Int),∃m2,qCz (qIp N p0) k1 s1=some out1/\L'=[(3,vI 0),(6,vS a1 p0 c1),(7,vI (p0.length:Int)),(8,vI s1)]/\m.le m2/\St m2 (O) w'/\RepS (cInt .i64) m2 a1 c1 p0) N ⟨0,m,hr,rfl,q,g,r1⟩ ?_);rintro k1 _ w2 ⟨s1,m2,hL,rfl,q,g,r1⟩;rcases k1 with _|k1
 .exact qBy hL
 obtain⟨qu1,hr,hSu1,hBu1⟩:=qBx hL;clear hL;unfold qIp at hr;refine W_sr (qAg 1 [(9,vB (decide (s1<(p0.length:Int))))] (qAs (W_if hr ?_ ?_)))
 .intro A hr;refine qAq (qAj (qAs (qBf (W_sr (qAa rfl (qFe 10 39 3 6 8 r1 hr ?_))))));rintro x1 hr b1 f1 cs1 rfl hq1;refine qEq 11 3 10 f1 (vI x1) g hq1 (qAg 1 [(5,vI x1)] (W_sr (qAg 3 [(14,vB (x1 !=0))] (W_if hr ?_ ?_))))
  .intro A hr;refine W_sr (qAg 2 [(2,vI x1)] (qBc (qAo (qAh ?_))));obtain rfl:=sI hr;have ho:=hBu1 _ rfl;subst ho;have hr:=j1;refine qAh (qAo (qAh ?_));obtain rfl:=sI hr;exact X_rt [2] [vI x1] ⟨m2,rfl,q,g⟩
  intro A hr;refine qAq (qBo (qAj (qAv (qAc 2 [(8,vI (wr (s1+1)))] (qAz rfl ?_)))));obtain rfl:=sI hr;have hL:=hSu1 _ rfl;exact xE (qDh k1 (jC _) ⟨wr (s1+1),m2,hL,rfl,q,g,r1⟩)
 intro A hr;refine qEf (qAp ?_);cases hr;have ho:=hBu1 _ rfl;refine qAp ?_;exact xE (K0_u1 _ _ ⟨(),m2,ho,rfl,q,g⟩)
def qGy(N:Nat)(p0:T1h)(p1:T1h):T4:=
 (qGm N p0.1 p1.1).bind fun y1=>(qFt N p0.2.1 p1.2.1).bind fun y2=>(qFt N p0.2.2 p1.2.2).bind fun y3=>(qKl N ([y1,y2,y3])).bind fun y4=>some y4
theorem qMo{p0:T1h}{p1:T1h}{r:Int}(g:St m (O) w)(hr:qGy N p0 p1=some r):Calls Tryz.prog 37 #[.agg (Vb p0),.agg (Vb p1)] w fun e w'=>∃m',e= .returned (vI r)/\m.le m'/\St m' (O) w':=by
 unfold qGy at hr;have q:=m.le_refl;refine W_cA Tryz.func37 rfl Tryz.ntmps37 ?_;refine W_sr (qAa rfl (qDd 2 72 0 (.agg (Vb p0)) g fun b1 m1 w1 e1 g hb1=>(qAa rfl (qDd 3 72 1 (.agg (Vb p1)) g fun b2 m2 w2 e2 g hb2=> ?_))));have hb1:=hb1.mono e2;refine qAg 1 [] (qAs (qCf [(18,fun w'=>Inv m2 w'/\True)] kr g fun w3 _ g=> ?_));have hmS1:=m2.le_refl;refine tA g hmS1 ?_;refine qAk 0 5 (vP b1 0) (.head _) (qFn 3 5 1 6 0 (vI p0.1) (.head _) (fun _ h=>h.1) hb1 (qAk 2 7 (vP b2 0) (.head _) (qFn 3 7 3 8 0 (vI p1.1) (.head _) (fun _ h=>h.1) hb2 (qAk 5 10 (vP b1 1) (.head _) (qFn 9 10 6 11 1 (vT p0.2.1) (.head _) (fun _ h=>h.1) (hb1.drop 1) (qAk 7 12 (vP b2 1) (.head _) (qFn 9 12 8 13 1 (vT p1.2.1) (.head _) (fun _ h=>h.1) (hb2.drop 1) (qAk 10 15 (vP b1 2) (.head _) (qFn 9 15 11 16 2 (vT p0.2.2) (.head _) (fun _ h=>h.1) (hb1.drop 2) (qAk 12 17 (vP b2 2) (.head _) (qFn 9 17 13 18 2 (vT p1.2.2) (.head _) (fun _ h=>h.1) (hb2.drop 2) (qBj 4 kr (qHe 9 hr (fun _ h=>qMz g h) ?_)))))))))))));rintro y1 hr _ w4 ⟨m3,rfl,e3,g⟩;refine⟨_,rfl,?_⟩;have hmS1:=Mem.le_trans hmS1 e3;refine tA g hmS1 ?_;refine qBj 9 kr (qHe 14 hr (fun _ h=>qJq g h) ?_);rintro y2 hr _ w5 ⟨m4,rfl,e4,g⟩;refine⟨_,rfl,?_⟩;have hmS1:=Mem.le_trans hmS1 e4;refine tA g hmS1 ?_;refine qBj 14 kr (qHe 19 hr (fun _ h=>qJq g h) ?_);rintro y3 hr _ w6 ⟨m5,rfl,e5,g⟩
 refine⟨_,rfl,?_⟩;have hmS1:=Mem.le_trans hmS1 e5;refine tA g hmS1 ?_;refine qBj 15 kr (qAy (d:=20) (t:=39) (e:=3) (len:=3) (parts:= #[(0,(.tmp 9)),(1,(.tmp 14)),(2,(.tmp 19))]) (cInt .i64) (xs:=[y1,y2,y3]) [vI y1,vI y2,vI y3] kr rfl (fun _=>qAx kr _) rfl rfl g ⟨[vI y1],_,rfl,rfl,⟨[vI y2],_,rfl,rfl,⟨[vI y3],_,rfl,rfl,rfl⟩⟩⟩ fun b3 m6 w7 e6 g r1=> ?_);have hmS1:=Mem.le_trans hmS1 e6;refine tA g hmS1 ?_;refine qBj 16 kr (qHe 21 hr (fun _ h=>qQl g r1 h) ?_);rintro y4 hr _ w8 ⟨m7,rfl,e7,g⟩;refine⟨_,rfl,?_⟩;have hmS1:=Mem.le_trans hmS1 e7;refine tA g hmS1 ?_;refine qAk 17 4 (vI y4) (.head _) (qBi kr ?_);have g:=g.t;refine qAj (qBc ?_);obtain rfl:=sI hr;exact X_rt [4] [vI y4] ⟨m7,rfl,((((((q.t e1).t e2).t e3).t e4).t e5).t e6).t e7,g⟩
def qQf:Go.Shelf.Ren:=⟨fun|6=>36|15=>55|14=>54|28=>82|29=>83|20=>74|21=>75|22=>76|23=>77|24=>78|25=>79|26=>80|27=>81|46=>98|47=>99|48=>100|49=>101|50=>102|57=>113|n=>n,fun|22=>30|24=>72|25=>94|3=>3|39=>129|0=>0|53=>161|55=>38|4=>4|46=>155|45=>154|50=>122|5=>5|9=>9|66=>171|70=>175|76=>180|77=>181|n=>n,fun|n=>n⟩
theorem qUh:Go.Proofs.SlLaysF0.n6 Tryz.prog qQf where
 mixed:=kr
 f6:=⟨Tryz.f36.name,kr,Tryz.func36.trans (congrArg some kr)⟩
 f14:=⟨Tryz.f54.name,kr,Tryz.func54.trans (congrArg some kr)⟩
 f15:=Tryz.func55.trans (congrArg some kr)
 f20:=⟨Tryz.f74.name,kr,Tryz.func74.trans (congrArg some kr)⟩
 f21:=⟨Tryz.f75.name,kr,Tryz.func75.trans (congrArg some kr)⟩
 f22:=⟨Tryz.f76.name,kr,Tryz.func76.trans (congrArg some kr)⟩
 f23:=⟨Tryz.f77.name,kr,Tryz.func77.trans (congrArg some kr)⟩
 f24:=⟨Tryz.f78.name,kr,Tryz.func78.trans (congrArg some kr)⟩
 f25:=⟨Tryz.f79.name,kr,Tryz.func79.trans (congrArg some kr)⟩
 f26:=⟨Tryz.f80.name,kr,Tryz.func80.trans (congrArg some kr)⟩
 f27:=⟨Tryz.f81.name,kr,Tryz.func81.trans (congrArg some kr)⟩
 f28:=Tryz.func82.trans (congrArg some kr)
 f29:=Tryz.func83.trans (congrArg some kr)
 f46:=⟨Tryz.f98.name,kr,Tryz.func98.trans (congrArg some kr)⟩
 f47:=Tryz.func99.trans (congrArg some kr)
 f48:=Tryz.func100.trans (congrArg some kr)
 f49:=⟨Tryz.f101.name,kr,Tryz.func101.trans (congrArg some kr)⟩
 f50:=⟨Tryz.f102.name,kr,Tryz.func102.trans (congrArg some kr)⟩
 f57:=⟨Tryz.f113.name,kr,Tryz.func113.trans (congrArg some kr)⟩
 t0:=Tryz.underlying0
 a0:=Tryz.isAgg0
 z0:=Tryz.sizeOf0
 v0:=Tryz.zeroValue0
 t3:=Tryz.underlying3
 a3:=Tryz.isAgg3
 z3:=Tryz.sizeOf3
 v3:=Tryz.zeroValue3
 t4:=Tryz.underlying4
 a4:=Tryz.isAgg4
 z4:=Tryz.sizeOf4
 v4:=Tryz.zeroValue4
 t5:=Tryz.underlying5
 a5:=Tryz.isAgg5
 z5:=Tryz.sizeOf5
 v5:=Tryz.zeroValue5
 t9:=Tryz.underlying9
 a9:=Tryz.isAgg9
 z9:=Tryz.sizeOf9
 v9:=Tryz.zeroValue9
 t22:=Tryz.underlying30
 a22:=Tryz.isAgg30
 z22:=Tryz.sizeOf30
 v22:=Tryz.zeroValue30
 t25:=Tryz.underlying94
 a25:=Tryz.isAgg94
 z25:=Tryz.sizeOf94
 v25:=Tryz.zeroValue94
 t39:=Tryz.underlying129
 a39:=Tryz.isAgg129
 z39:=Tryz.sizeOf129
 v39:=Tryz.zeroValue129
 t45:=Tryz.underlying154
 a45:=Tryz.isAgg154
 z45:=Tryz.sizeOf154
 v45:=Tryz.zeroValue154
 t46:=Tryz.underlying155
 a46:=Tryz.isAgg155
 z46:=Tryz.sizeOf155
 v46:=Tryz.zeroValue155
 t50:=Tryz.underlying122
 a50:=Tryz.isAgg122
 z50:=Tryz.sizeOf122
 v50:=Tryz.zeroValue122
 t53:=Tryz.underlying161
 a53:=Tryz.isAgg161
 z53:=Tryz.sizeOf161
 v53:=Tryz.zeroValue161
 t55:=Tryz.underlying38
 a55:=Tryz.isAgg38
 z55:=Tryz.sizeOf38
 v55:=Tryz.zeroValue38
 t66:=Tryz.underlying171
 a66:=Tryz.isAgg171
 z66:=Tryz.sizeOf171
 v66:=Tryz.zeroValue171
 t70:=Tryz.underlying175
 a70:=Tryz.isAgg175
 z70:=Tryz.sizeOf175
 v70:=Tryz.zeroValue175
 t76:=Tryz.underlying180
 a76:=Tryz.isAgg180
 z76:=Tryz.sizeOf180
 v76:=Tryz.zeroValue180
 t77:=Tryz.underlying181
 a77:=Tryz.isAgg181
 z77:=Tryz.sizeOf181
 v77:=Tryz.zeroValue181
theorem qQg(x y:Int):qGm N x y=some (cmpI x y):=by
 have h:∀z:Int,qGs N z=some false:=fun z=>by simp[qGs]
 simp only[qGm,h,j9,cmpI]
 by_cases h1:x<y
 .simp[h1]
 by_cases h2:x>y
 .simp[h1,h2]
 simp[h1,h2]
theorem qNj(x y:ByteArray):qFt N x y=some (cmpS x y):=by simp[qFt,qDg]
theorem qVr(hN:10<=N)(a b c:Int):qKl N [a,b,c]=some (if a≠0 then a else if b≠0 then b else c):=by
 obtain⟨k,rfl⟩:∃k,N=k+4:=⟨N-4,by omega⟩;have w1:wr 1=1:=by decide
 have w2:wr 2=2:=by decide
 have w3:wr 3=3:=by decide
 have i0:idx [a,b,c] 0=some a:=rfl;have i1:idx [a,b,c] 1=some b:=rfl;have i2:idx [a,b,c] 2=some c:=rfl;simp only[qKl,qCz,qIp,kY,List.length_nil,i0,j9]
 by_cases ha:a=0
 .subst ha
  by_cases hb:b=0
  .subst hb
   by_cases A:c=0
   .subst A;simp[w1,w2,w3,i1,i2]
   simp[w1,w2,i1,i2,A]
  simp[w1,i1,hb]
 simp[ha]
theorem qNe(hN:10<=N)(x y:T1h):qGy N x y=some (lexC cmpI (lexC cmpS cmpS) x y):=by
 simp only[qGy,qQg,qNj,qVr hN,j9]
 rfl
def qBa(N:Nat)(l:T1v):Option T1v:=if 10<=N/\l.length<4611686018427387904 then some (qRi (Go.Proofs.ltOf (lexC cmpI (lexC cmpS cmpS))) l) else none
theorem qEx{l r:T1v}(h:qBa N l=some r):r.length=l.length:=by
 unfold qBa at h
 split at h
 .simp only[jB] at h;subst h;exact(qMr l).length_eq
 cases h
theorem qEw{a:Option Addr}{nn cc:Nat}{T:List Value}{l r:T1v}{e:TypeId}(g:St m (opc a (qBw (fun x:T1h=>((Vh x):List Value)) l T) e::O) w)(hs:OAS a nn cc 3 T)(hn:List.length l=nn)(h:qBa N l=some r):
  Calls Tryz.prog 36 #[.slice a nn cc,.func (.func 37) #[] #[]] w fun e' w'=>e'= .returned (.tuple #[])/\St m (opc a (qBw (fun x:T1h=>((Vh x):List Value)) r T) e::O) w':=by
 unfold qBa at h
 split at h
 .rename_i hb
  obtain⟨hN,hlen⟩:=hb;simp only[jB] at h;subst h;subst hn;have hl:Lin (lexC cmpI (lexC cmpS cmpS)):=qTe qVz (qTe qTi qTi);rw[<-qVb hl];have:=qSr (f:=(fun x:T1h=>((Vh x):List Value))) (k:=3) qUh Tryz.isAgg72 Tryz.sizeOf72 (fun _=>rfl) (fun _ _ hv=>by simp only[jE,kM,or_false] at hv;rcases hv with rfl|rfl|rfl<;>rfl) (lexC cmpI (lexC cmpS cmpS)) hl.swo hl.total 37 (enters_of Tryz.func37 kr rfl) (fun x y W=>by
   refine(qMo (qVe W) (qNe hN x y)).mono fun e' w' h=> ?_;obtain⟨m',h1,h2,h3⟩:=h;exact⟨m',h1,h2,h3⟩) g hs hlen
  exact this
 cases h
def qDb(N:Nat)(z1:Option (T1h×Bool))(s1:T1v):Option (T1v⊕T1v):=
 (match z1 with|none=>some (.inr s1)|some kv1=>(qFg 40 s1 ([kv1.1])).bind fun l1=>some (.inl l1))
instance dec_evaluate_machine_run_L1:DecidableEq T21:=(@instDecidableEqProd _ _ (@instDecidableEqProd _ _ (@Option.instDecidableEq _ (@instDecidableEqList _ (@instDecidableEqProd _ _ (@instDecidableEqProd _ _ inferInstance (@instDecidableEqProd _ _ inferInstance inferInstance)) inferInstance))) (@instDecidableEqProd _ _ inferInstance (@instDecidableEqProd _ _ inferInstance inferInstance))) (@instDecidableEqProd _ _ (@instDecidableEqProd _ _ inferInstance (@instDecidableEqProd _ _ inferInstance inferInstance)) (@instDecidableEqProd _ _ inferInstance (@instDecidableEqProd _ _ (@instDecidableEqList _ (@instDecidableEqProd _ _ inferInstance (@instDecidableEqProd _ _ inferInstance inferInstance))) inferInstance))))
def qDe(N:Nat)(p0:T1o)(p1:T1i)(p2:Tg):Option T21:=
 (qDa N (p0.1,p0.2.1,p0.2.2.1,p0.2.2.2.1,p0.2.2.2.2.1,p0.2.2.2.2.2.1,p0.2.2.2.2.2.2.1,p0.2.2.2.2.2.2.2) p1 p2).bind fun y1=>(isQ y1.1.1).bind fun u1=>qNm (qDb N) (Option.getD y1.1.1 []) ([]:T1v) (fun o1=>(qBa N o1).bind fun y2=>some (y1.1,(y1.2,y1.1.2.2.2,y2,y1.1.2.1)))
theorem qHt{p0:T1o}{p1:T1i}{p2:Tg}{bw1:Nat}{q1:Tf}{es1:Array MapEntry}{ck1:Nat}{q2:Tf}{es2:Array MapEntry}{ck2:Nat}{q3:Tf}{es3:Array MapEntry}{ck3:Nat}{q4:Tf}{es4:Array MapEntry}{ck4:Nat}{r:T21}(g:St m (qAb q1 es1 ck1::qAb q2 es2 ck2::kB bw1 #[vS a1 p0.1.1 c1,vB p0.1.2.1,.map q1,vS a2 p0.1.2.2.2.1 c2,.map q2] 55::qAb q3 es3 ck3::qAb q4 es4 ck4::kB bp0 #[vP bw1 0,vS a3 p0.2.1 c3,.int .u64 p0.2.2.1,.map q3,vI p0.2.2.2.2.1,vI p0.2.2.2.2.2.1,vB p0.2.2.2.2.2.2.1,.map q4] 91::O) w)(r1:RepS C1 m a1 c1 p0.1.1)(r2:MapQ (fun s:ByteArray=>Value.string s) C6 true m q1 es1 ck1 p0.1.2.2.1)(r3:RepS cStr m a2 c2 p0.1.2.2.2.1)(r4:MapQ qBb C7 true m q2 es2 ck2 p0.1.2.2.2.2)(r5:RepS C8 m a3 c3 p0.2.1)(r6:MapQ qBb qBv false m q3 es3 ck3 p0.2.2.2.1)(r7:MapQ (fun n:Int=>Value.int .i64 n) cFn false m q4 es4 ck4 p0.2.2.2.2.2.2.2)(r8:RepS (cInt .i64) m a4 c4 p2)(hr:qDe N p0 p1 p2=some r):Calls Tryz.prog 17 #[vP bp0 0,.agg (Vd p1),vS a4 p2 c4] w fun e w'=>∃re1 rk1 ra2 rc2 m',e= .returned (.agg (Vi r.2.1.1 r.2.1.2.1 r.2.1.2.2 r.2.2.1 ra2 r.2.2.2.1 rc2 r.2.2.2.2))/\m.le m'/\St m' (kR ra2 r.2.2.2.1 rc2 72 3::qAb q1 es1 ck1::qAb q2 es2 ck2::kB bw1 #[vS a1 p0.1.1 c1,vB p0.1.2.1,.map q1,vS a2 p0.1.2.2.2.1 c2,.map q2] 55::qAb q3 re1 rk1::qAb q4 es4 ck4::kB bp0 #[vP bw1 0,vS a3 p0.2.1 c3,.int .u64 p0.2.2.1,.map q3,vI r.1.2.1,vI r.1.2.2.1,vB r.1.2.2.2,.map q4] 91::O) w'/\MapQ qBb qBv false m' q3 re1 rk1 r.1.1/\RepS C9 m' ra2 rc2 r.2.2.2.1:=by
 unfold qDe at hr;have q:=m.le_refl;refine W_cA Tryz.func17 rfl Tryz.ntmps17 ?_;refine W_sr (qAa rfl (qDd 4 60 1 (.agg (Vd p1)) g fun b1 m1 w1 e1 g hb1=>(qAa rfl (qBk 6 32 (.agg #[vI 0,vI 0,vI 0,vB false,v6,vI 0]) g fun b2 w2 g=>(WO_e (W_sr (qAc 1 [(10,vP bp0 0)] (qEq 11 60 4 0 (.agg (Vd p1)) g hb1 (qAc 1 [(12,vS a4 p2 c4)] (qBe 13 hr (fun _ h=>qJi (p0:=(p0.1,p0.2.1,p0.2.2.1,p0.2.2.2.1,p0.2.2.2.2.1,p0.2.2.2.2.2.1,p0.2.2.2.2.2.2.1,p0.2.2.2.2.2.2.2)) (p1:=p1) g.f6.f6.f6.f6.f6.f6 (r1.mono e1) (r2.mono e1) (r3.mono e1) (r4.mono e1) (r5.mono e1) (r6.mono e1) (r7.mono e1) (r8.mono e1) h) ?_))))))))));rintro y1 hr _ w3 ⟨es5,ck5,m2,rfl,e2,g,r9⟩;refine qAa rfl (qBk 7 29 (.agg (Vg 0 0 0)) g fun b3 w4 g=>(qAa rfl (qAt 29 7 13 (.agg (Vf y1.2)) g fun w5 g=>(WO_e (W_sr (qAg 1 [(8,vb)] (qAs (W_sr (qBz 3 17 86 16 3 (.map q3) g.t.t.t.t.t.t.h ?_)))))))));have⟨u1,d2,hr⟩:=qAw hr;obtain⟨b4,rfl⟩:=MapQ.at r9 d2;refine qAa rfl (qOq (ek:=qBb) (c:=qBv) (agg:=false) (d:=18) (t:=86) (kt:=72) (et:=4) (x:=(.tmp 17)) kr rfl (ev (.map (some b4))) kr g.f4 r9 fun b5 w6 g hi1=>(WO_e (qBf ?_)));have g:=qWk (f:=(fun x:T1h=>((Vh x):List Value))) (g.nilroom 72 3);obtain⟨PKu2,hPKu2,hr⟩:=LoopP.start hr
 refine qCv (.exit 0) (fun L' w'=>∃(o1:T1v),∃a5 c5 T1,∃(sn1:Array Nat) (rem1:List (T1h×Bool)),∃m3,PKu2 o1/\L'=[(0,vP bp0 0),(6,vP b2 0),(7,vP b3 0),(8,vS a5 o1 c5)]/\m.le m3/\St m3 (kB b3 (Vf y1.2) 29::kB bw1 #[vS a1 p0.1.1 c1,vB p0.1.2.1,.map q1,vS a2 p0.1.2.2.2.1 c2,.map q2] 55::kB bp0 #[vP bw1 0,vS a3 p0.2.1 c3,.int .u64 p0.2.2.1,.map (some b4),vI y1.1.2.1,vI y1.1.2.2.1,vB y1.1.2.2.2,.map q4] 91::kB b2 #[vI 0,vI 0,vI 0,vB false,vb,vI 0] 32::qAb (some b4) es5 ck5::qAb q1 es1 ck1::qAb q2 es2 ck2::qAb q4 es4 ck4::opc a5 (qBw (fun x:T1h=>((Vh x):List Value)) o1 T1) 72::qGt b5 (some b4) ck5 sn1::O) w'/\RepS C1 m3 a1 c1 p0.1.1/\RepS cStr m3 a2 c2 p0.1.2.2.2.1/\RepS C8 m3 a3 c3 p0.2.1/\MapQ qBb qBv false m3 (some b4) es5 ck5 y1.1.1/\MapQ (fun s:ByteArray=>Value.string s) C6 true m3 q1 es1 ck1 p0.1.2.2.1/\MapQ qBb C7 true m3 q2 es2 ck2 p0.1.2.2.2.2/\MapQ (fun n:Int=>Value.int .i64 n) cFn false m3 q4 es4 ck4 p0.2.2.2.2.2.2.2/\OAS a5 o1.length c5 3 T1/\ItR qBb qBv false m3 es5 sn1 rem1) ?_ ?_
 .rintro _ w7 ⟨o1,a5,c5,T1,sn1,rem1,m3,hPou2,rfl,q,g,r1,r3,r5,r9,r2,r4,r7,hs1,hi2⟩;have hr:=hPKu2 _ hPou2;clear hPou2 hPKu2;refine qBp (qAj (W_sr (qAc 1 [(27,vS a5 o1 c5)] ?_)));have⟨y2,d6,hr⟩:=qAw hr;have g:=g.f8;refine qAa rfl (qHm 28 36 #[vS a5 o1 c5,.func (.func 37) #[] #[]] kr rfl ((qEw g hs1 rfl d6).mono ?_));rintro _ w15 ⟨rfl,g⟩;refine⟨_,rfl,?_⟩;have hn1:=((qEx d6).trans rfl);refine qAz rfl ?_;have g:=g.f9.t;refine qAj (qAs (qCf [(12,fun w'=>Inv m3 w'/\Piece.holds m3 w' (kB b3 (Vf y1.2) 29)/\Piece.holds m3 w' (kB bp0 #[vP bw1 0,vS a3 p0.2.1 c3,.int .u64 p0.2.2.1,.map (some b4),vI y1.1.2.1,vI y1.1.2.2.1,vB y1.1.2.2.2,.map q4] 91)/\True)] kr g fun w16 _ g=> ?_));have hmS1:=m3.le_refl;refine⟨⟨.inr ⟨Inv.anti g.inv hmS1,Piece.holds_anti g.t.h hmS1,Piece.holds_anti g.t.t.t.h hmS1,trivial⟩,trivial⟩,?_⟩
  refine qCa 29 7 0 29 0 (.agg (Vf y1.2)) (.head _) (fun _ h=>h.2.1) (qAk 1 30 (vP bp0 0) (.head _) (qAk 2 31 (vP bp0 0) (.head _) (qAk 3 32 (vP bp0 6) (.head _) (qCa 4 32 4 33 6 (vB y1.1.2.2.2) (.head _) (fun _ h=>h.2.2.1) (qAk 5 34 (vS a5 o1 c5) (.head _) (qAk 6 35 (vP bp0 0) (.head _) (qAk 7 36 (vP bp0 0) (.head _) (qAk 8 37 (vP bp0 4) (.head _) (qCa 3 37 9 38 4 (vI y1.1.2.1) (.head _) (fun _ h=>h.2.2.1) (qAk 10 39 (.agg (Vi y1.2.1 y1.2.2.1 y1.2.2.2 y1.1.2.2.2 a5 o1 c5 y1.1.2.1)) (.head _) (qBj 11 kr (qAt 32 6 39 (.agg (Vi y1.2.1 y1.2.2.1 y1.2.2.2 y1.1.2.2.2 a5 o1 c5 y1.1.2.1)) g.f4 fun w17 g=>(⟨⟨.inr ⟨Inv.anti g.inv hmS1,Piece.holds_anti g.t.t.h hmS1,Piece.holds_anti g.t.t.t.t.h hmS1,trivial⟩,trivial⟩,?_⟩)))))))))))));refine qBi kr ?_;refine qAj (qBc ?_);obtain rfl:=sI hr;have g:=g.f1;obtain⟨m7,e5,g,r12⟩:=St.freezeM (c:=C9) (f:=(fun x:T1h=>((Vh x):List Value))) g hs1 hn1 (fun _=>rfl) (fun _ x=>⟨_,_,rfl,rfl,⟨_,_,rfl,rfl,rfl⟩⟩)
  have g:=(congrArg (fun nn_:Nat=>St m7 (kR a5 y2 c5 72 3::kB b2 #[vI y1.2.1,vI y1.2.2.1,vI y1.2.2.2,vB y1.1.2.2.2,.slice a5 nn_ c5,vI y1.1.2.1] 32::kB b3 (Vf y1.2) 29::kB bw1 #[vS a1 p0.1.1 c1,vB p0.1.2.1,.map q1,vS a2 p0.1.2.2.2.1 c2,.map q2] 55::kB bp0 #[vP bw1 0,vS a3 p0.2.1 c3,.int .u64 p0.2.2.1,.map (some b4),vI y1.1.2.1,vI y1.1.2.2.1,vB y1.1.2.2.2,.map q4] 91::qAb (some b4) es5 ck5::qAb q1 es1 ck1::qAb q2 es2 ck2::qAb q4 es4 ck4::O) w17) hn1.symm).mp g;refine qIa [(6,vP b2 0)] (by(try simp only[vS,hn1]);kernel_rfl) ?_;exact qEe [.cell 6 32] [.agg (Vi y1.2.1 y1.2.2.1 y1.2.2.2 y1.1.2.2.2 a5 y2 c5 y1.1.2.1)] rfl (ResAll.cons (ResAt.blk (v:= .agg (Vi y1.2.1 y1.2.2.1 y1.2.2.2 y1.1.2.2.2 a5 y2 c5 y1.1.2.1)) (o:=0) kr g.t.h kr) ResAll.nil) ⟨es5,ck5,a5,c5,m7,rfl,q.t e5,g.f1.t.f1.t.f2.f6.f4.f4.f6.f6.f6,r9.mono e5,r12⟩
 intro K0_u2
 refine qHd _ kr (qEz (fun k1 L' w'=>∃(s1:T1v),∃a6 c6 T2,∃(sn2:Array Nat) (rem2:List (T1h×Bool)),∃m4,LoopP (qDb N) rem2 s1 PKu2 k1/\L'=[(0,vP bp0 0),(6,vP b2 0),(7,vP b3 0),(8,vS a6 s1 c6),(18,vP b5 0)]/\m.le m4/\St m4 (kB b3 (Vf y1.2) 29::kB bw1 #[vS a1 p0.1.1 c1,vB p0.1.2.1,.map q1,vS a2 p0.1.2.2.2.1 c2,.map q2] 55::kB bp0 #[vP bw1 0,vS a3 p0.2.1 c3,.int .u64 p0.2.2.1,.map (some b4),vI y1.1.2.1,vI y1.1.2.2.1,vB y1.1.2.2.2,.map q4] 91::kB b2 #[vI 0,vI 0,vI 0,vB false,vb,vI 0] 32::qAb (some b4) es5 ck5::qAb q1 es1 ck1::qAb q2 es2 ck2::qAb q4 es4 ck4::opc a6 (qBw (fun x:T1h=>((Vh x):List Value)) s1 T2) 72::qGt b5 (some b4) ck5 sn2::O) w'/\RepS C1 m4 a1 c1 p0.1.1/\RepS cStr m4 a2 c2 p0.1.2.2.2.1/\RepS C8 m4 a3 c3 p0.2.1/\MapQ qBb qBv false m4 (some b4) es5 ck5 y1.1.1/\MapQ (fun s:ByteArray=>Value.string s) C6 true m4 q1 es1 ck1 p0.1.2.2.1/\MapQ qBb C7 true m4 q2 es2 ck2 p0.1.2.2.2.2/\MapQ (fun n:Int=>Value.int .i64 n) cFn false m4 q4 es4 ck4 p0.2.2.2.2.2.2.2/\OAS a6 s1.length c6 3 T2/\ItR qBb qBv false m4 es5 sn2 rem2) (List.length (Option.getD y1.1.1 [])+1) ⟨([]:T1v),none,0,[],#[],(Option.getD y1.1.1 []),m2,hr,rfl,(q.t e1).t e2,g.f1.f1.f7.f6.f6.f5.f9.f9.f9.f9,(r1.mono e1).mono e2,(r3.mono e1).mono e2,(r5.mono e1).mono e2,r9,(r2.mono e1).mono e2,(r4.mono e1).mono e2,(r7.mono e1).mono e2,(OAS.nil 3),hi1⟩ ?_)
 rintro k1 _ w8 ⟨s1,a6,c6,T2,sn2,rem2,m4,hL,rfl,q,g,r1,r3,r5,r9,r2,r4,r7,hs2,hi3⟩;rcases k1 with _|k1
 .exact LoopP.zero hL
 refine W_sr ?_;have g:=g.f4.f9;refine qAa rfl (qQe (ek:=qBb) (c:=qBv) (agg:=false) (d:=19) (x:=(.tmp 18)) kr rfl (ev (vP b5 0)) g r9 hi3 ?_ ?_)
 .intro d3 w9 g;obtain⟨qu2,hr,hSu2,hBu2⟩:=hL.nil d3;clear hL;unfold qDb at hr;refine qAg 1 [(20,vB false)] (qAs (qHw false kr (fun h=>Bool.noConfusion h) ?_));intro _;refine qEf (qAp ?_);obtain rfl:=sI hr;have ho:=hBu2 _ rfl;have g:=g.f9.f9.f9.f9.f5.f9.f9.f9.f9;refine qAp ?_;exact xE (K0_u2 _ _ ⟨s1,a6,c6,T2,sn2,rem2,m4,ho,rfl,q,g,r1,r3,r5,r9,r2,r4,r7,hs2,hi3⟩)
 rintro kv1 rem3 sn3 cs1 w10 d4 rfl g hi4 he1;obtain⟨qu2,hr,hSu2,hBu2⟩:=hL.cons d4;clear hL;unfold qDb at hr;refine qAg 1 [(20,vB true)] (qAs (qHw true kr ?_ (fun h=>Bool.noConfusion h)));intro _;refine qAq (qAj (qBf (W_sr ?_)));have g:=g.f1.f1;refine qAa rfl (qOm (ek:=qBb) (c:=qBv) (agg:=false) (d:=21) (x:=(.tmp 18)) (K:= .agg (Vb kv1.1)) (V:=vB kv1.2) kr rfl (ev (vP b5 0)) g r9 he1 (qAc 1 [(22,.agg (Vb kv1.1))] (qAa rfl (qBk 9 72 (.agg (Va 0 eB eB)) g fun b6 w11 g=>(qAa rfl (qAt 72 9 22 (.agg (Vb kv1.1)) g fun w12 g=>(WO_e (qAv (qAc 1 [(23,vS a6 s1 c6)] (qAa rfl (qAr 24 72 9 0 (.agg (Vb kv1.1)) g.h (qAa rfl (qAy (d:=25) (t:=30) (e:=72) (len:=1) (parts:= #[(0,(.tmp 24))]) C9 (xs:=[kv1.1]) (Vh kv1.1) kr rfl (fun _=>qAx kr _) rfl rfl g ⟨(Vh kv1.1),_,rfl,⟨_,_,rfl,rfl,⟨_,_,rfl,rfl,rfl⟩⟩,rfl⟩ fun b7 m5 w13 e3 g r10=> ?_)))))))))))));have g:=g.f11;have⟨l1,d5,hr⟩:=qAw hr;refine qAa rfl (qSn (d:=26) (t:=30) (u:=30) (e:=72) (by_:=40) (x:=(.tmp 23)) (y:=(.tmp 25)) (c:=C9) (f:=(fun x:T1h=>((Vh x):List Value))) (l:=s1) (fun _ _ _ h=>by obtain⟨_,_,rfl,rfl,⟨_,_,rfl,rfl,rfl⟩⟩:=h;rfl) (fun _=>rfl) kr rfl (ev (vS a6 s1 c6)) (ev (vS (aP b7) ([kv1.1]) 1)) g hs2 rfl kr (.inl kr) r10.src d5 fun a7 c7 T3 w14 hs3 g=>(qAc 1 [(8,vS a7 l1 c7)] (qAz rfl ?_)))
 have g:=g.f1.t;refine qBo ?_;obtain rfl:=sI hr;have hL:=hSu2 _ rfl;exact xE (qDh k1 (jC _) ⟨l1,a7,c7,T3,sn3,rem3,m5,hL,rfl,q.t e3,g.f1.t.f1.f1.f9.f9.f9.f5.f9.f9.f9.f9,r1.mono e3,r3.mono e3,r5.mono e3,r9.mono e3,r2.mono e3,r4.mono e3,r7.mono e3,hs3,hi4.mono e3⟩)
def qFh(N:Nat)(p5:Tg)(s1:Int):Option (Int⊕Unit⊕Int):=
 if(decide (s1<(List.length p5:Int)))=true then((idx p5 s1).bind fun x1=>(qGl N x1).bind fun y3=>if y3=true then(some (.inr (.inr (s1)))) else(some (.inl (IntKind.wrap .i64 (s1+1))))) else(some (.inr (.inl ())))
def qBq(N:Nat)(p0:Ti)(p1:T18)(p2:Int)(p3:ByteArray)(p4:ByteArray)(p5:Tg):Option (Int×T20×Int):=
 (qIz N p0).bind fun y1=>(if(!y1.2.1)=true then(some true) else((qDi N p1).bind fun y2=>if(!y2)=true then(some true) else(((qCz (qFh N p5) N 0).bind fun out1=>(match out1 with| .inl o3=>some (-1)| .inr (z)=>some z):T4).bind fun o2=>some (decide (o2>=0)))):T5).bind fun o1=>if o1=true then(some (0,((0,0,0),false,([]:T1v),0),1)) else((qCx N y1 1 p3 p4).bind fun y4=>if(y4.2.2.2.2.2 !=1)=true then(some (0,((0,0,0),false,([]:T1v),0),18)) else((idx (((qAn y1.2.2.1 y4.2.2.2.1).getD ((⟨#[]⟩:ByteArray),([]:T8),([]:T17))).2.2) y4.2.2.2.2.1).bind fun x2=>if((List.length p5:Int) !=(List.length x2.2.2.1:Int))=true then(some (0,((0,0,0),false,([]:T1v),0),13)) else((qDs (some []:Option (List (Int×Tf))) 1 (some 25:Tf)).bind fun mp1=>(qDs mp1 2 (some 26:Tf)).bind fun mp2=>(qDs mp2 3 (some 27:Tf)).bind fun mp3=>(qDs mp3 4 (some 28:Tf)).bind fun mp4=>(qDs mp4 5 (some 29:Tf)).bind fun mp5=>(qDs mp5 6 (some 30:Tf)).bind fun mp6=>(qDs mp6 7 (some 31:Tf)).bind fun mp7=>(qDs mp7 8 (some 32:Tf)).bind fun mp8=>(qDs mp8 9 (some 33:Tf)).bind fun mp9=>(qDs mp9 10 (some 34:Tf)).bind fun mp10=>(qCc N (y1,p1,p2,(some []:T1n),0,0,false,mp10) ([(1,p3,p4)])).bind fun y5=>(qDe N (y1,p1,p2,y5.1,y5.2.1,y5.2.2.1,y5.2.2.2,mp10) y4 p5).bind fun y6=>some (y6.2.1.2.1,(y6.2.1,y6.2.2.1,y6.2.2.2.1,y6.2.2.2.2),0))))
theorem qDy{p0:Ti}{p1:T18}{p2:Int}{p3:ByteArray}{p4:ByteArray}{p5:Tg}{r:Int×T20×Int}(g:St m (O) w)(r1:RepS C1 m a1 c1 p0)(r2:RepS C8 m a2 c2 p1)(r3:RepS (cInt .i64) m a3 c3 p5)(hr:qBq N p0 p1 p2 p3 p4 p5=some r):Calls Tryz.prog 6 #[.agg #[vS a1 p0 c1],.agg #[vS a2 p1 c2],.int .u64 p2,vT p3,vT p4,vS a3 p5 c3] w fun e w'=>∃ra1 rc1 m',e= .returned (.tuple #[vI r.1,.agg (Vi r.2.1.1.1 r.2.1.1.2.1 r.2.1.1.2.2 r.2.1.2.1 ra1 r.2.1.2.2.1 rc1 r.2.1.2.2.2),vI r.2.2])/\m.le m'/\St m' (kR ra1 r.2.1.2.2.1 rc1 72 3::O) w'/\RepS C9 m' ra1 rc1 r.2.1.2.2.1:=by
 unfold qBq at hr;have q:=m.le_refl;refine W_cA Tryz.func6 rfl Tryz.ntmps6 ?_;refine W_sr (qAa rfl (qDd 6 26 0 (.agg #[vS a1 p0 c1]) g fun b1 m1 w1 e1 g hb1=>(qAa rfl (qDd 7 37 1 (.agg #[vS a2 p1 c2]) g fun b2 m2 w2 e2 g hb2=>(qAc 1 [] (qAa rfl (qBk 13 32 (.agg #[vI 0,vI 0,vI 0,vB false,v6,vI 0]) g fun b3 w3 g=>(qAg 1 [] (W_sr (qEq 18 26 6 0 (.agg #[vS a1 p0 c1]) g (hb1.mono e2) (qBe 19 hr (fun _ h=>qNt g ((r1.mono e1).mono e2) h) ?_)))))))))));rintro y1 hr _ w4 ⟨b4,a4,c4,q1,es1,ck1,a5,c5,q2,es2,ck2,m3,rfl,e3,g,r4,r5,r6,r7⟩;have q:=((q.t e1).t e2).t e3;have r3:=((r3.mono e1).mono e2).mono e3;have hb2:=hb2.mono e3;have r2:=((r2.mono e1).mono e2).mono e3;refine qAg 1 [(15,vP b4 0)] (qAs (W_sr ?_));have⟨o1,hr,J⟩:=qAw hr;refine qGj (j:=14) (fun L' w'=>∃m4,L'=[(2,.int .u64 p2),(3,vT p3),(4,vT p4),(5,vS a3 p5 c3),(7,vP b2 0),(13,vP b3 0),(15,vP b4 0),(33,vB o1)]/\m.le m4/\St m4 (kB b4 #[vS a4 y1.1 c4,vB y1.2.1,.map q1,vS a5 y1.2.2.2.1 c5,.map q2] 55::kB b3 #[vI 0,vI 0,vI 0,vB false,vb,vI 0] 32::qAb q1 es1 ck1::qAb q2 es2 ck2::O) w'/\RepS (cInt .i64) m4 a3 c3 p5/\MRow m4 b2 0 [vS a2 p1 c2]/\RepS C8 m4 a2 c2 p1/\RepS C1 m4 a4 c4 y1.1/\RepS cStr m4 a5 c5 y1.2.2.2.1/\MapQ (fun s:ByteArray=>Value.string s) C6 true m4 q1 es1 ck1 y1.2.2.1/\MapQ qBb C7 true m4 q2 es2 ck2 y1.2.2.2.2) ?_ ?_
 .have hr:=J;rintro _ w5 ⟨m4,rfl,q,g,r3,hb2,r2,r4,r6,r5,r7⟩;refine WO_e (W_if hr ?_ ?_)
  .intro A hr;refine W_sr (qAc 2 [(34,.agg #[vI 0,vI 0,vI 0,vB false,vb,vI 0]),(12,vI 0)] (qAa rfl (qAt 32 13 34 (.agg #[vI 0,vI 0,vI 0,vB false,vb,vI 0]) g.f1 fun w11 g=>(qAg 1 [(14,vI 1)] (qBc (qAh ?_))))));cases hr;refine qEe [.tmp 12,.cell 13 32,.tmp 14] [vI 0,.agg #[vI 0,vI 0,vI 0,vB false,vb,vI 0],vI 1] rfl (ResAll.cons (ResAt.tmp kr) (ResAll.cons (ResAt.blk (v:= .agg #[vI 0,vI 0,vI 0,vB false,vb,vI 0]) (o:=0) kr g.h kr) (ResAll.cons (ResAt.tmp kr) ResAll.nil))) ?_;have g:=(g.nilroom 72 3).front1;exact⟨none,0,m4,rfl,q,g.t.f1.t.f1.t.f1.t,(RepS.nil _ _)⟩
  intro A hr;refine qAq (qAj (W_sr (qAc 3 [(35,vP b4 0),(36,vT p3),(37,vT p4)] (qBe 38 hr (fun _ h=>qFb g.f3.f3 r4 r5 r6 r7 h) ?_))));rintro y4 hr _ w12 ⟨m10,rfl,e6,g⟩;have q:=q.t e6;have r5:=r5.mono e6;refine qAa rfl (qBk 16 60 (.agg (Vc eB eB 0 eB 0 0)) g fun b6 w13 g=>(qAa rfl (qAt 60 16 38 (.agg (Vd y4)) g fun w14 g=>(WO_e (qAs (W_sr (qBz 1 40 3 39 5 (vI y4.2.2.2.2.2) g.h (qAg 1 [(41,vB (y4.2.2.2.2.2 !=1))] (W_if hr ?_ ?_)))))))))
  .intro A hr;refine W_sr (qAc 2 [(42,.agg #[vI 0,vI 0,vI 0,vB false,vb,vI 0]),(12,vI 0)] (qAa rfl (qAt 32 13 42 (.agg #[vI 0,vI 0,vI 0,vB false,vb,vI 0]) g.f4 fun w15 g=>(qAg 1 [(14,vI 18)] (qBc (qAh ?_))))));cases hr;refine qEe [.tmp 12,.cell 13 32,.tmp 14] [vI 0,.agg #[vI 0,vI 0,vI 0,vB false,vb,vI 0],vI 18] rfl (ResAll.cons (ResAt.tmp kr) (ResAll.cons (ResAt.blk (v:= .agg #[vI 0,vI 0,vI 0,vB false,vb,vI 0]) (o:=0) kr g.h kr) (ResAll.cons (ResAt.tmp kr) ResAll.nil))) ?_;have g:=(g.nilroom 72 3).front1;exact⟨none,0,m10,rfl,q,g.t.f1.t.f1.t.f1.t.f1.t,(RepS.nil _ _)⟩
  intro A hr;refine qAq (qAj (qAs (qAs (qCf [(17,fun w'=>Inv m10 w'/\Piece.holds m10 w' (kB b6 (Vd y4) 60)/\Piece.holds m10 w' (kB b4 #[vS a4 y1.1 c4,vB y1.2.1,.map q1,vS a5 y1.2.2.2.1 c5,.map q2] 55)/\True)] kr g fun w16 _ g=> ?_))));have hmS1:=m10.le_refl;refine⟨⟨.inr ⟨Inv.anti g.inv hmS1,Piece.holds_anti g.h hmS1,Piece.holds_anti g.t.t.t.h hmS1,trivial⟩,trivial⟩,?_⟩;refine qAk 0 43 (vS a3 p5 c3) (.head _) (qAk 1 44 (vI (p5.length:Int)) (.head _) (qAk 2 45 (vP b4 0) (.head _) (qAk 3 46 (vP b4 0) (.head _) (qAk 4 47 (vP b4 2) (.head _) (qCa 51 47 5 48 2 (.map q1) (.head _) (fun _ h=>h.2.2.1) (qAk 6 49 (vP b6 3) (.head _) (qCa 9 49 7 50 3 (vT y4.2.2.2.1) (.head _) (fun _ h=>h.2.1) (qAk 10 53 (vP b6 4) (.head _) (qCa 3 53 11 54 4 (vI y4.2.2.2.2.1) (.head _) (fun _ h=>h.2.1) (qBj 8 kr (qEd (ek:=(fun s:ByteArray=>Value.string s)) (c:=C6) (agg:=true) (k:=y4.2.2.2.1) (zx:=(eB,([]:T8),([]:T17))) (zcs:=[vT eB,v1,va]) (z:=(.agg #[vT eB,v1,va])) (kt:=9) (et:=67) (d:=51) (t:=51) (x:=(.tmp 48)) (y:=(.tmp 50)) (ok:=false) kr rfl (ev (.map q1)) (ev (vT y4.2.2.2.1)) kr (qMl kr) g.t.h r5 ⟨_,_,rfl,rfl,⟨_,_,rfl,(qJf (RepS.nil _ _)),(qJf (RepS.nil _ _))⟩⟩ rfl ?_)))))))))));rintro cs2 ⟨_,_,rfl,rfl,⟨_,_,rfl,⟨a6,c6,rfl,r8⟩,⟨a7,c7,rfl,r9⟩⟩⟩
  refine⟨⟨.inr ⟨Inv.anti g.inv hmS1,Piece.holds_anti g.h hmS1,Piece.holds_anti g.t.t.t.h hmS1,trivial⟩,trivial⟩,?_⟩;refine qAk 9 52 (.slice a7 (List.length (((qAn y1.2.2.1 y4.2.2.2.1).getD (eB,([]:T8),([]:T17))).2.2)) c7) (.head _) ?_;have⟨x2,d6,hr⟩:=qAw hr;refine qGr (t:=65) (e:=64) (x:=(.tmp 52)) (y:=(.tmp 54)) 12 55 C5 kr rfl kr (.head _) (qEj (qEj qHl)) (ev (.slice a7 (List.length (((qAn y1.2.2.1 y4.2.2.2.1).getD (eB,([]:T8),([]:T17))).2.2)) c7)) (ev (vI y4.2.2.2.2.1)) kr r9 d6 ?_;rintro b7 f2 cs3 ⟨_,_,rfl,rfl,⟨_,_,rfl,rfl,⟨_,_,rfl,⟨a8,c8,rfl,r10⟩,⟨a9,c9,rfl,r11⟩⟩⟩⟩ hq2;refine qAk 13 56 (.pointer (some ⟨b7,f2+2,none⟩)) (.head _) (qFn 52 56 14 57 (f2+2) (vS a8 x2.2.2.1 c8) (.head _) (fun _ h=>h.1) (hq2.drop 2) (qAk 15 58 (vI (x2.2.2.1.length:Int)) (.head _) (qAk 16 59 (vB ((p5.length:Int) !=(x2.2.2.1.length:Int))) (.head _) (qBi kr (qAj (W_if hr ?_ ?_))))))
  .intro A hr;refine W_sr (qAc 2 [(60,.agg #[vI 0,vI 0,vI 0,vB false,vb,vI 0]),(12,vI 0)] (qAa rfl (qAt 32 13 60 (.agg #[vI 0,vI 0,vI 0,vB false,vb,vI 0]) g.f4 fun w17 g=>(qAg 1 [(14,vI 13)] (qBc (qAh ?_))))));cases hr;refine qEe [.tmp 12,.cell 13 32,.tmp 14] [vI 0,.agg #[vI 0,vI 0,vI 0,vB false,vb,vI 0],vI 13] rfl (ResAll.cons (ResAt.tmp kr) (ResAll.cons (ResAt.blk (v:= .agg #[vI 0,vI 0,vI 0,vB false,vb,vI 0]) (o:=0) kr g.h kr) (ResAll.cons (ResAt.tmp kr) ResAll.nil))) ?_;have g:=(g.nilroom 72 3).front1;exact⟨none,0,m10,rfl,q,g.t.f1.t.f1.t.f1.t.f1.t,(RepS.nil _ _)⟩
  intro A hr;refine qAq (qAj (W_sr (qAc 1 [(61,vP b4 0)] (qEq 62 37 7 0 (.agg #[vS a2 p1 c2]) g (hb2.mono e6) (qAc 1 [(63,.int .u64 p2)] (qAa rfl (qHm 64 15 #[vP b4 0,.agg #[vS a2 p1 c2],.int .u64 p2] kr rfl (W_cA Tryz.func15 rfl Tryz.ntmps15 (W_sr (qAa rfl (qDd 4 37 1 (.agg #[vS a2 p1 c2]) g fun b8 m11 w18 e7 g hb3=>(qAg 1 [] (W_sr (qAc 1 [(7,vP b4 0)] (qEq 8 37 4 0 (.agg #[vS a2 p1 c2]) g hb3 (qAc 1 [(9,.int .u64 p2)] (qAa rfl (qCn (d:=10) (t:=86) kr rfl g fun b9 w19 g=>(qAa rfl (qCn (d:=11) (t:=89) kr rfl g fun b10 w20 g=> ?_))))))))))))))))))));have⟨mp1,d7,hr⟩:=qAw hr;refine qAa rfl (qBl (ek:=(fun n:Int=>Value.int .i64 n)) (c:=cFn) (agg:=false) (k:=1) (yv:=(some 25:Tf)) (cs:=[.func (.func 25) #[] #[]]) (z:= .nilFunc) (v:=(.func (.func 25) #[] #[])) (kt:=3) (et:=87) (t:=89) (x:=(.tmp 11)) (y:=(.const (vI 1))) (u:=(.func 25)) kr (ev (.map (some b10))) (ev (vI 1)) (ev (.func (.func 25) #[] #[])) kr (qDp kr) g (MapQ.new (fun n:Int=>Value.int .i64 n) cFn false _ _) rfl rfl d7 fun es3 ck3 w21 g r12=> ?_);have⟨mp2,d8,hr⟩:=qAw hr
  refine qAa rfl (qBl (ek:=(fun n:Int=>Value.int .i64 n)) (c:=cFn) (agg:=false) (k:=2) (yv:=(some 26:Tf)) (cs:=[.func (.func 26) #[] #[]]) (z:= .nilFunc) (v:=(.func (.func 26) #[] #[])) (kt:=3) (et:=87) (t:=89) (x:=(.tmp 11)) (y:=(.const (vI 2))) (u:=(.func 26)) kr (ev (.map (some b10))) (ev (vI 2)) (ev (.func (.func 26) #[] #[])) kr (qDp kr) g r12 rfl rfl d8 fun es4 ck4 w22 g r13=> ?_);have⟨mp3,d9,hr⟩:=qAw hr;refine qAa rfl (qBl (ek:=(fun n:Int=>Value.int .i64 n)) (c:=cFn) (agg:=false) (k:=3) (yv:=(some 27:Tf)) (cs:=[.func (.func 27) #[] #[]]) (z:= .nilFunc) (v:=(.func (.func 27) #[] #[])) (kt:=3) (et:=87) (t:=89) (x:=(.tmp 11)) (y:=(.const (vI 3))) (u:=(.func 27)) kr (ev (.map (some b10))) (ev (vI 3)) (ev (.func (.func 27) #[] #[])) kr (qDp kr) g r13 rfl rfl d9 fun es5 ck5 w23 g r14=> ?_);have⟨mp4,d10,hr⟩:=qAw hr;refine qAa rfl (qBl (ek:=(fun n:Int=>Value.int .i64 n)) (c:=cFn) (agg:=false) (k:=4) (yv:=(some 28:Tf)) (cs:=[.func (.func 28) #[] #[]]) (z:= .nilFunc) (v:=(.func (.func 28) #[] #[])) (kt:=3) (et:=87) (t:=89) (x:=(.tmp 11)) (y:=(.const (vI 4))) (u:=(.func 28)) kr (ev (.map (some b10))) (ev (vI 4)) (ev (.func (.func 28) #[] #[])) kr (qDp kr) g r14 rfl rfl d10 fun es6 ck6 w24 g r15=> ?_);have⟨mp5,d11,hr⟩:=qAw hr
  refine qAa rfl (qBl (ek:=(fun n:Int=>Value.int .i64 n)) (c:=cFn) (agg:=false) (k:=5) (yv:=(some 29:Tf)) (cs:=[.func (.func 29) #[] #[]]) (z:= .nilFunc) (v:=(.func (.func 29) #[] #[])) (kt:=3) (et:=87) (t:=89) (x:=(.tmp 11)) (y:=(.const (vI 5))) (u:=(.func 29)) kr (ev (.map (some b10))) (ev (vI 5)) (ev (.func (.func 29) #[] #[])) kr (qDp kr) g r15 rfl rfl d11 fun es7 ck7 w25 g r16=> ?_);have⟨mp6,d12,hr⟩:=qAw hr;refine qAa rfl (qBl (ek:=(fun n:Int=>Value.int .i64 n)) (c:=cFn) (agg:=false) (k:=6) (yv:=(some 30:Tf)) (cs:=[.func (.func 30) #[] #[]]) (z:= .nilFunc) (v:=(.func (.func 30) #[] #[])) (kt:=3) (et:=87) (t:=89) (x:=(.tmp 11)) (y:=(.const (vI 6))) (u:=(.func 30)) kr (ev (.map (some b10))) (ev (vI 6)) (ev (.func (.func 30) #[] #[])) kr (qDp kr) g r16 rfl rfl d12 fun es8 ck8 w26 g r17=> ?_);have⟨mp7,d13,hr⟩:=qAw hr;refine qAa rfl (qBl (ek:=(fun n:Int=>Value.int .i64 n)) (c:=cFn) (agg:=false) (k:=7) (yv:=(some 31:Tf)) (cs:=[.func (.func 31) #[] #[]]) (z:= .nilFunc) (v:=(.func (.func 31) #[] #[])) (kt:=3) (et:=87) (t:=89) (x:=(.tmp 11)) (y:=(.const (vI 7))) (u:=(.func 31)) kr (ev (.map (some b10))) (ev (vI 7)) (ev (.func (.func 31) #[] #[])) kr (qDp kr) g r17 rfl rfl d13 fun es9 ck9 w27 g r18=> ?_);have⟨mp8,d14,hr⟩:=qAw hr
  refine qAa rfl (qBl (ek:=(fun n:Int=>Value.int .i64 n)) (c:=cFn) (agg:=false) (k:=8) (yv:=(some 32:Tf)) (cs:=[.func (.func 32) #[] #[]]) (z:= .nilFunc) (v:=(.func (.func 32) #[] #[])) (kt:=3) (et:=87) (t:=89) (x:=(.tmp 11)) (y:=(.const (vI 8))) (u:=(.func 32)) kr (ev (.map (some b10))) (ev (vI 8)) (ev (.func (.func 32) #[] #[])) kr (qDp kr) g r18 rfl rfl d14 fun es10 ck10 w28 g r19=> ?_);have⟨mp9,d15,hr⟩:=qAw hr;refine qAa rfl (qBl (ek:=(fun n:Int=>Value.int .i64 n)) (c:=cFn) (agg:=false) (k:=9) (yv:=(some 33:Tf)) (cs:=[.func (.func 33) #[] #[]]) (z:= .nilFunc) (v:=(.func (.func 33) #[] #[])) (kt:=3) (et:=87) (t:=89) (x:=(.tmp 11)) (y:=(.const (vI 9))) (u:=(.func 33)) kr (ev (.map (some b10))) (ev (vI 9)) (ev (.func (.func 33) #[] #[])) kr (qDp kr) g r19 rfl rfl d15 fun es11 ck11 w29 g r20=> ?_);have⟨mp10,d16,hr⟩:=qAw hr
  refine qAa rfl (qBl (ek:=(fun n:Int=>Value.int .i64 n)) (c:=cFn) (agg:=false) (k:=10) (yv:=(some 34:Tf)) (cs:=[.func (.func 34) #[] #[]]) (z:= .nilFunc) (v:=(.func (.func 34) #[] #[])) (kt:=3) (et:=87) (t:=89) (x:=(.tmp 11)) (y:=(.const (vI 10))) (u:=(.func 34)) kr (ev (.map (some b10))) (ev (vI 10)) (ev (.func (.func 34) #[] #[])) kr (qDp kr) g r20 rfl rfl d16 fun es12 ck12 w30 g r21=>(qAc 2 [(13,.agg #[vP b4 0,vS a2 p1 c2,.int .u64 p2,.map (some b9),vI 0,vI 0,vB false,.map (some b10)])] (qAa rfl (qLu 14 91 13 (.agg #[vP b4 0,vS a2 p1 c2,.int .u64 p2,.map (some b9),vI 0,vI 0,vB false,.map (some b10)]) g fun b11 w31 g=>(qAg 1 [(6,vP b11 0)] (qBc (X_rt [6] [vP b11 0] (⟨_,rfl,?_⟩))))))))
  refine qAg 1 [(17,vP b11 0)] (W_sr (qAc 4 [(65,vP b11 0),(68,.agg (Va 1 p3 p4))] (qAa rfl (qAy (d:=69) (t:=30) (e:=72) (len:=1) (parts:= #[(0,(.tmp 68))]) C9 (xs:=[(1,p3,p4)]) [vI 1,vT p3,vT p4] kr rfl (fun _=>qAx kr _) rfl rfl g ⟨[vI 1,vT p3,vT p4],_,rfl,⟨_,_,rfl,rfl,⟨_,_,rfl,rfl,rfl⟩⟩,rfl⟩ fun b12 m13 w32 e9 g r22=>(qBe 70 hr (fun _ h=>qCs (p0:=(y1,p1,p2,(some []:T1n),0,0,false,mp10)) g.f1.f2.f3.f7.f7.f7 (((r4.mono e6).mono e7).mono e9) ((r5.mono e7).mono e9) (((r6.mono e6).mono e7).mono e9) (((r7.mono e6).mono e7).mono e9) (((r2.mono e6).mono e7).mono e9) (MapQ.new qBb qBv false _ _) (r21.mono e9) r22 h) ?_)))));rintro y5 hr _ w33 ⟨es13,ck13,m14,rfl,e10,g,r23⟩;refine qAz rfl ?_;have g:=g.f6.t;refine qAj (W_sr (qAc 1 [(71,vP b11 0)] (qAa rfl (qAr 72 60 16 0 (.agg (Vd y4)) g.t.t.t.t.t.t.h (qAc 1 [(73,vS a3 p5 c3)] (qBe 74 hr (fun _ h=>qHt (p0:=(y1,p1,p2,y5.1,y5.2.1,y5.2.2.1,y5.2.2.2,mp10)) (p1:=y4) g.f5.f5.f5.f5.f5.f5 ((((r4.mono e6).mono e7).mono e9).mono e10) (((r5.mono e7).mono e9).mono e10) ((((r6.mono e6).mono e7).mono e9).mono e10) ((((r7.mono e6).mono e7).mono e9).mono e10) ((((r2.mono e6).mono e7).mono e9).mono e10) r23 ((r21.mono e9).mono e10) ((((r3.mono e6).mono e7).mono e9).mono e10) h) ?_))))));rintro y6 hr _ w34 ⟨es14,ck14,a10,c10,m15,rfl,e11,g,r24,r25⟩
  refine qAa rfl (qAt 32 13 74 (.agg (Vi y6.2.1.1 y6.2.1.2.1 y6.2.1.2.2 y6.2.2.1 a10 y6.2.2.2.1 c10 y6.2.2.2.2)) g.f8 fun w35 g=>(WO_e (qAs (qCf [(7,fun w'=>Inv m15 w'/\True),(5,fun w'=>Inv m15 w'/\Piece.holds m15 w' (kB b3 (Vi y6.2.1.1 y6.2.1.2.1 y6.2.1.2.2 y6.2.2.1 a10 y6.2.2.2.1 c10 y6.2.2.2.2) 32)/\True)] kr g fun w36 _ g=> ?_))));have hmS2:=m15.le_refl;refine⟨⟨iA g hmS2,⟨.inr ⟨Inv.anti g.inv hmS2,Piece.holds_anti g.h hmS2,trivial⟩,trivial⟩⟩,?_⟩;refine qAk 0 75 (vP b3 0) (.head _) (qAk 1 76 (vP b3 1) (.head _) (qCa 3 76 2 77 1 (vI y6.2.1.2.1) (.tail _ (.head _)) (fun _ h=>h.2.1) (qCa 32 13 3 78 0 (.agg (Vi y6.2.1.1 y6.2.1.2.1 y6.2.1.2.2 y6.2.2.1 a10 y6.2.2.2.1 c10 y6.2.2.2.2)) (.tail _ (.head _)) (fun _ h=>h.2.1) (qAk 4 12 (vI y6.2.1.2.1) (.head _) (qBj 5 kr (qAt 32 13 78 (.agg (Vi y6.2.1.1 y6.2.1.2.1 y6.2.1.2.2 y6.2.2.1 a10 y6.2.2.2.1 c10 y6.2.2.2.2)) g fun w37 g=>(⟨⟨iA g hmS2,⟨.inl rfl,trivial⟩⟩,?_⟩)))))));refine qAk 6 14 (vI 0) (.head _) (qBi kr (qAj (qBc ?_)));cases hr
  exact qEe [.tmp 12,.cell 13 32,.tmp 14] [vI y6.2.1.2.1,.agg (Vi y6.2.1.1 y6.2.1.2.1 y6.2.1.2.2 y6.2.2.1 a10 y6.2.2.2.1 c10 y6.2.2.2.2),vI 0] rfl (ResAll.cons (ResAt.tmp kr) (ResAll.cons (ResAt.blk (v:= .agg (Vi y6.2.1.1 y6.2.1.2.1 y6.2.1.2.2 y6.2.2.1 a10 y6.2.2.2.1 c10 y6.2.2.2.2)) (o:=0) kr g.h kr) (ResAll.cons (ResAt.tmp kr) ResAll.nil))) ⟨a10,c10,m15,rfl,(((q.t e7).t e9).t e10).t e11,g.t.f1.t.f1.t.f1.t.f1.t.f1.t.f1.t.f1.t,r25⟩
 intro K;refine qBz 3 23 4 22 1 (vB y1.2.1) g.t.t.h (qAc 2 [(25,vB (!y1.2.1))] (qCj 25 hr ?_ ?_))
 .intro A hr;refine qAc 8 [(33,vB true)] ?_;cases hr;exact qBh _ kr (K _ _ ⟨m3,rfl,q,g.f1.f1.f3.f3,r3,hb2,r2,r4,r6,r5,r7⟩)
 intro A hr;refine qEq 26 37 7 0 (.agg #[vS a2 p1 c2]) g hb2 (qBe 27 hr (fun _ h=>qGi g r2 h) ?_);rintro y2 hr _ w6 ⟨m5,rfl,e4,g⟩;refine qAc 3 [(30,vB (!y2))] (qCj 30 hr ?_ ?_)
 .intro A hr;refine qAc 3 [(33,vB true)] ?_;cases hr;exact qBh _ kr (K _ _ ⟨m5,rfl,q.t e4,g.f1.f1.f3.f3,r3.mono e4,hb2.mono e4,r2.mono e4,r4.mono e4,r6.mono e4,r5.mono e4,r7.mono e4⟩)
 intro A hr;refine qAc 1 [(31,vS a3 p5 c3)] (qAa rfl (qHm 32 11 #[vS a3 p5 c3,.func (.func 12) #[] #[]] kr rfl (W_cA Tryz.func11 rfl Tryz.ntmps11 (W_sr (qAg 1 [] (W_sr (qAc 2 [(5,vS a3 p5 c3),(6,.func (.func 12) #[] #[])] ?_)))))));have⟨o2,hr,j1⟩:=qAw hr;refine qAa rfl (qHm 7 23 #[vS a3 p5 c3,.func (.func 12) #[] #[]] kr rfl (qGp (fun v' w'=>∃m6,v'=(vI o2)/\m.le m6/\St m6 (kB b4 #[vS a4 y1.1 c4,vB y1.2.1,.map q1,vS a5 y1.2.2.2.1 c5,.map q2] 55::kB b3 #[vI 0,vI 0,vI 0,vB false,vb,vI 0] 32::qAb q1 es1 ck1::qAb q2 es2 ck2::O) w'/\RepS (cInt .i64) m6 a3 c3 p5/\MRow m6 b2 0 [vS a2 p1 c2]/\RepS C8 m6 a2 c2 p1/\RepS C1 m6 a4 c4 y1.1/\RepS cStr m6 a5 c5 y1.2.2.2.1/\MapQ (fun s:ByteArray=>Value.string s) C6 true m6 q1 es1 ck1 y1.2.2.1/\MapQ qBb C7 true m6 q2 es2 ck2 y1.2.2.2.2) ?_ ?_))
 .have hr:=j1;rintro _ w7 ⟨m6,rfl,q,g,r3,hb2,r2,r4,r6,r5,r7⟩;refine⟨_,rfl,?_⟩;refine qAg 2 [(4,vB (decide (o2>=0)))] (qBc (X_rt [4] [vB (decide (o2>=0))] (⟨_,rfl,?_⟩)));refine qAc 1 [(33,vB (decide (o2>=0)))] ?_;cases hr;exact qBh _ kr (K _ _ ⟨m6,rfl,q,g.f3.f3.f3.f3,r3,hb2,r2,r4,r6,r5,r7⟩)
 refine W_cA Tryz.func23 rfl Tryz.ntmps23 ?_;refine W_sr (qAg 1 [] (qAs (W_sr (qAg 3 [(7,vI (p5.length:Int)),(8,vI 0)] (qBf ?_)))));have⟨out1,hr,j2⟩:=qAw hr;refine qCv (.exit 0) (fun L' w'=>∃(o3:Unit),∃m7,(.inl o3)=out1/\L'=[]/\m.le m7/\St m7 (kB b4 #[vS a4 y1.1 c4,vB y1.2.1,.map q1,vS a5 y1.2.2.2.1 c5,.map q2] 55::kB b3 #[vI 0,vI 0,vI 0,vB false,vb,vI 0] 32::qAb q1 es1 ck1::qAb q2 es2 ck2::O) w'/\RepS (cInt .i64) m7 a3 c3 p5/\MRow m7 b2 0 [vS a2 p1 c2]/\RepS C8 m7 a2 c2 p1/\RepS C1 m7 a4 c4 y1.1/\RepS cStr m7 a5 c5 y1.2.2.2.1/\MapQ (fun s:ByteArray=>Value.string s) C6 true m7 q1 es1 ck1 y1.2.2.1/\MapQ qBb C7 true m7 q2 es2 ck2 y1.2.2.2.2) ?_ ?_
 .rintro _ w8 ⟨o3,m7,rfl,rfl,q,g,r3,hb2,r2,r4,r6,r5,r7⟩;have hr:=j2;refine qBp (qAj (W_sr (qAg 1 [(4,vI (-1))] (qBc ?_))));cases hr;exact X_rt [4] [vI (-1)] ⟨_,rfl,⟨m7,rfl,q,g.f3.f3.f3.f3,r3,hb2,r2,r4,r6,r5,r7⟩⟩
 intro K0_u2;refine qHd _ kr (qEz (fun k1 L' w'=>∃(s1:Int),∃m8,qCz (qFh N p5) k1 s1=some out1/\L'=[(0,vS a3 p5 c3),(1,.func (.func 12) #[] #[]),(7,vI (p5.length:Int)),(8,vI s1)]/\m.le m8/\St m8 (kB b4 #[vS a4 y1.1 c4,vB y1.2.1,.map q1,vS a5 y1.2.2.2.1 c5,.map q2] 55::kB b3 #[vI 0,vI 0,vI 0,vB false,vb,vI 0] 32::qAb q1 es1 ck1::qAb q2 es2 ck2::O) w'/\RepS (cInt .i64) m8 a3 c3 p5/\MRow m8 b2 0 [vS a2 p1 c2]/\RepS C8 m8 a2 c2 p1/\RepS C1 m8 a4 c4 y1.1/\RepS cStr m8 a5 c5 y1.2.2.2.1/\MapQ (fun s:ByteArray=>Value.string s) C6 true m8 q1 es1 ck1 y1.2.2.1/\MapQ qBb C7 true m8 q2 es2 ck2 y1.2.2.2.2) N ⟨0,m5,hr,rfl,q.t e4,g.f1.f1.f3.f3,r3.mono e4,hb2.mono e4,r2.mono e4,r4.mono e4,r6.mono e4,r5.mono e4,r7.mono e4⟩ ?_);rintro k1 _ w9 ⟨s1,m8,hL,rfl,q,g,r3,hb2,r2,r4,r6,r5,r7⟩;rcases k1 with _|k1
 .exact qBy hL
 obtain⟨qu2,hr,hSu2,hBu2⟩:=qBx hL;clear hL;unfold qFh at hr;refine W_sr (qAg 1 [(9,vB (decide (s1<(p5.length:Int))))] (qAs (W_if hr ?_ ?_)))
 .intro A hr;refine qAq (qAj (qAs (qBf (W_sr (qAg 2 [(5,vI s1)] (W_sr (qAc 3 [(11,.func (.func 12) #[] #[]),(12,vS a3 p5 c3),(13,vI s1)] (qAa rfl (qFe 14 39 3 12 13 r3 hr ?_)))))))));rintro x1 hr b5 f1 cs1 rfl hq1;refine qEq 15 3 14 f1 (vI x1) g hq1 (qBe 16 hr (fun _ h=>qMx g h) ?_);rintro y3 hr _ w10 ⟨m9,rfl,e5,g⟩;refine WO_e (W_if hr ?_ ?_)
  .intro A hr;refine W_sr (qAg 2 [(4,vI s1)] (qBc (qAo (qAh ?_))));obtain rfl:=sI hr;have ho:=hBu2 _ rfl;subst ho;have hr:=j2;refine qAh (qAo (qAh ?_));obtain rfl:=sI hr;exact X_rt [4] [vI s1] ⟨_,rfl,⟨m9,rfl,q.t e5,g.f3.f3.f3.f3,r3.mono e5,hb2.mono e5,r2.mono e5,r4.mono e5,r6.mono e5,r5.mono e5,r7.mono e5⟩⟩
  intro A hr;refine qAq (qBo (qAj (qAv (qAc 2 [(8,vI (wr (s1+1)))] (qAz rfl ?_)))));obtain rfl:=sI hr;have hL:=hSu2 _ rfl;exact xE (qDh k1 (jC _) ⟨wr (s1+1),m9,hL,rfl,q.t e5,g.f3.f3.f3.f3,r3.mono e5,hb2.mono e5,r2.mono e5,r4.mono e5,r6.mono e5,r5.mono e5,r7.mono e5⟩)
 intro A hr;refine qEf (qAp ?_);cases hr;have ho:=hBu2 _ rfl;have g:=g.f3.f3.f3.f3;refine qAp ?_;exact xE (K0_u2 _ _ ⟨(),m8,ho,rfl,q,g,r3,hb2,r2,r4,r6,r5,r7⟩)
def qLr(N:Nat)(p0:Ti)(p1:T18)(p2:Int)(p3:Th):Option (T20×Int):=
 (qIz N p0).bind fun y1=>(if(!y1.2.1)=true then(some true) else((qDi N p1).bind fun y2=>some (!y2)):T5).bind fun o1=>if o1=true then(some (((0,0,0),false,([]:T1v),0),1)) else((qCx N y1 2 p3.1 p3.2).bind fun y3=>if(y3.2.2.2.2.2 !=1)=true then(some (((0,0,0),false,([]:T1v),0),18)) else((qDs (some []:Option (List (Int×Tf))) 1 (some 25:Tf)).bind fun mp1=>(qDs mp1 2 (some 26:Tf)).bind fun mp2=>(qDs mp2 3 (some 27:Tf)).bind fun mp3=>(qDs mp3 4 (some 28:Tf)).bind fun mp4=>(qDs mp4 5 (some 29:Tf)).bind fun mp5=>(qDs mp5 6 (some 30:Tf)).bind fun mp6=>(qDs mp6 7 (some 31:Tf)).bind fun mp7=>(qDs mp7 8 (some 32:Tf)).bind fun mp8=>(qDs mp8 9 (some 33:Tf)).bind fun mp9=>(qDs mp9 10 (some 34:Tf)).bind fun mp10=>(qCc N (y1,p1,p2,(some []:T1n),0,0,false,mp10) ([(2,p3.1,p3.2)])).bind fun y4=>(qDe N (y1,p1,p2,y4.1,y4.2.1,y4.2.2.1,y4.2.2.2,mp10) y3 ([]:Tg)).bind fun y5=>some ((y5.2.1,y5.2.2.1,y5.2.2.2.1,y5.2.2.2.2),0)))
theorem qOy{p0:Ti}{p1:T18}{p2:Int}{p3:Th}{r:T20×Int}(g:St m (O) w)(r1:RepS C1 m a1 c1 p0)(r2:RepS C8 m a2 c2 p1)(hr:qLr N p0 p1 p2 p3=some r):Calls Tryz.prog 8 #[.agg #[vS a1 p0 c1],.agg #[vS a2 p1 c2],.int .u64 p2,.agg (V1 p3)] w fun e w'=>∃ra1 rc1 m',e= .returned (.tuple #[.agg (Vi r.1.1.1 r.1.1.2.1 r.1.1.2.2 r.1.2.1 ra1 r.1.2.2.1 rc1 r.1.2.2.2),vI r.2])/\m.le m'/\St m' (kR ra1 r.1.2.2.1 rc1 72 3::O) w'/\RepS C9 m' ra1 rc1 r.1.2.2.1:=by
 unfold qLr at hr;have q:=m.le_refl;refine W_cA Tryz.func8 rfl Tryz.ntmps8 ?_;refine W_sr (qAa rfl (qDd 4 26 0 (.agg #[vS a1 p0 c1]) g fun b1 m1 w1 e1 g hb1=>(qAa rfl (qDd 5 37 1 (.agg #[vS a2 p1 c2]) g fun b2 m2 w2 e2 g hb2=>(qAa rfl (qDd 7 47 3 (.agg (V1 p3)) g fun b3 m3 w3 e3 g hb3=>(qAa rfl (qBk 8 32 (.agg #[vI 0,vI 0,vI 0,vB false,v6,vI 0]) g fun b4 w4 g=>(qAg 1 [] (W_sr (qEq 13 26 4 0 (.agg #[vS a1 p0 c1]) g ((hb1.mono e2).mono e3) (qBe 14 hr (fun _ h=>qNt g (((r1.mono e1).mono e2).mono e3) h) ?_))))))))))));rintro y1 hr _ w5 ⟨b5,a3,c3,q1,es1,ck1,a4,c4,q2,es2,ck2,m4,rfl,e4,g,r3,r4,r5,r6⟩;have hb2:=(hb2.mono e3).mono e4;have r2:=(((r2.mono e1).mono e2).mono e3).mono e4;refine qAg 1 [(10,vP b5 0)] (qAs (W_sr ?_));have⟨o1,hr,J⟩:=qAw hr;refine qGj (j:=10) (fun L' w'=>∃m5,L'=[(2,.int .u64 p2),(5,vP b2 0),(7,vP b3 0),(8,vP b4 0),(10,vP b5 0),(24,vB o1)]/\m.le m5/\St m5 (kB b5 #[vS a3 y1.1 c3,vB y1.2.1,.map q1,vS a4 y1.2.2.2.1 c4,.map q2] 55::kB b4 #[vI 0,vI 0,vI 0,vB false,vb,vI 0] 32::qAb q1 es1 ck1::qAb q2 es2 ck2::O) w'/\MRow m5 b2 0 [vS a2 p1 c2]/\RepS C8 m5 a2 c2 p1/\MRow m5 b3 0 [vT p3.1,vT p3.2]/\RepS C1 m5 a3 c3 y1.1/\RepS cStr m5 a4 c4 y1.2.2.2.1/\MapQ (fun s:ByteArray=>Value.string s) C6 true m5 q1 es1 ck1 y1.2.2.1/\MapQ qBb C7 true m5 q2 es2 ck2 y1.2.2.2.2) ?_ ?_
 .have hr:=J;rintro _ w6 ⟨m5,rfl,q,g,hb2,r2,hb3,r3,r5,r4,r6⟩;refine WO_e (W_if hr ?_ ?_)
  .intro A hr;refine W_sr (qAc 1 [(25,.agg #[vI 0,vI 0,vI 0,vB false,vb,vI 0])] (qAa rfl (qAt 32 8 25 (.agg #[vI 0,vI 0,vI 0,vB false,vb,vI 0]) g.f1 fun w8 g=>(qAg 1 [(9,vI 1)] (qBc (qAh ?_))))));cases hr;refine qEe [.cell 8 32,.tmp 9] [.agg #[vI 0,vI 0,vI 0,vB false,vb,vI 0],vI 1] rfl (ResAll.cons (ResAt.blk (v:= .agg #[vI 0,vI 0,vI 0,vB false,vb,vI 0]) (o:=0) kr g.h kr) (ResAll.cons (ResAt.tmp kr) ResAll.nil)) ?_;have g:=(g.nilroom 72 3).front1;exact⟨none,0,m5,rfl,q,g.t.f1.t.f1.t.f1.t,(RepS.nil _ _)⟩
  intro A hr;refine qAq (qAj (W_sr (qAc 2 [(26,vP b5 0),(27,vP b3 0)] (qEq 28 9 27 0 (vT p3.1) g hb3 (qAc 1 [(29,vP b3 1)] (qAa rfl (qCb (d:=30) (t:=9) (x:=(.tmp 29)) (vT p3.2) kr rfl (ev (vP b3 1)) g (hb3.drop 1) kr (qBe 31 hr (fun _ h=>qFb g.f3.f3 r3 r4 r5 r6 h) ?_))))))));rintro y3 hr _ w9 ⟨m7,rfl,e6,g⟩;refine qAa rfl (qBk 11 60 (.agg (Vc eB eB 0 eB 0 0)) g fun b6 w10 g=>(qAa rfl (qAt 60 11 31 (.agg (Vd y3)) g fun w11 g=>(WO_e (qAs (W_sr (qBz 1 33 3 32 5 (vI y3.2.2.2.2.2) g.h (qAg 1 [(34,vB (y3.2.2.2.2.2 !=1))] (W_if hr ?_ ?_)))))))))
  .intro A hr;refine W_sr (qAc 1 [(35,.agg #[vI 0,vI 0,vI 0,vB false,vb,vI 0])] (qAa rfl (qAt 32 8 35 (.agg #[vI 0,vI 0,vI 0,vB false,vb,vI 0]) g.f4 fun w12 g=>(qAg 1 [(9,vI 18)] (qBc (qAh ?_))))));cases hr;refine qEe [.cell 8 32,.tmp 9] [.agg #[vI 0,vI 0,vI 0,vB false,vb,vI 0],vI 18] rfl (ResAll.cons (ResAt.blk (v:= .agg #[vI 0,vI 0,vI 0,vB false,vb,vI 0]) (o:=0) kr g.h kr) (ResAll.cons (ResAt.tmp kr) ResAll.nil)) ?_;have g:=(g.nilroom 72 3).front1;exact⟨none,0,m7,rfl,q.t e6,g.t.f1.t.f1.t.f1.t.f1.t,(RepS.nil _ _)⟩
  intro A hr;refine qAq (qAj (W_sr (qAc 1 [(36,vP b5 0)] (qEq 37 37 5 0 (.agg #[vS a2 p1 c2]) g (hb2.mono e6) (qAc 1 [(38,.int .u64 p2)] (qAa rfl (qHm 39 15 #[vP b5 0,.agg #[vS a2 p1 c2],.int .u64 p2] kr rfl (W_cA Tryz.func15 rfl Tryz.ntmps15 (W_sr (qAa rfl (qDd 4 37 1 (.agg #[vS a2 p1 c2]) g fun b7 m8 w13 e7 g hb4=>(qAg 1 [] (W_sr (qAc 1 [(7,vP b5 0)] (qEq 8 37 4 0 (.agg #[vS a2 p1 c2]) g hb4 (qAc 1 [(9,.int .u64 p2)] (qAa rfl (qCn (d:=10) (t:=86) kr rfl g fun b8 w14 g=>(qAa rfl (qCn (d:=11) (t:=89) kr rfl g fun b9 w15 g=> ?_))))))))))))))))))));have⟨mp1,d4,hr⟩:=qAw hr;refine qAa rfl (qBl (ek:=(fun n:Int=>Value.int .i64 n)) (c:=cFn) (agg:=false) (k:=1) (yv:=(some 25:Tf)) (cs:=[.func (.func 25) #[] #[]]) (z:= .nilFunc) (v:=(.func (.func 25) #[] #[])) (kt:=3) (et:=87) (t:=89) (x:=(.tmp 11)) (y:=(.const (vI 1))) (u:=(.func 25)) kr (ev (.map (some b9))) (ev (vI 1)) (ev (.func (.func 25) #[] #[])) kr (qDp kr) g (MapQ.new (fun n:Int=>Value.int .i64 n) cFn false _ _) rfl rfl d4 fun es3 ck3 w16 g r7=> ?_);have⟨mp2,d5,hr⟩:=qAw hr
  refine qAa rfl (qBl (ek:=(fun n:Int=>Value.int .i64 n)) (c:=cFn) (agg:=false) (k:=2) (yv:=(some 26:Tf)) (cs:=[.func (.func 26) #[] #[]]) (z:= .nilFunc) (v:=(.func (.func 26) #[] #[])) (kt:=3) (et:=87) (t:=89) (x:=(.tmp 11)) (y:=(.const (vI 2))) (u:=(.func 26)) kr (ev (.map (some b9))) (ev (vI 2)) (ev (.func (.func 26) #[] #[])) kr (qDp kr) g r7 rfl rfl d5 fun es4 ck4 w17 g r8=> ?_);have⟨mp3,d6,hr⟩:=qAw hr;refine qAa rfl (qBl (ek:=(fun n:Int=>Value.int .i64 n)) (c:=cFn) (agg:=false) (k:=3) (yv:=(some 27:Tf)) (cs:=[.func (.func 27) #[] #[]]) (z:= .nilFunc) (v:=(.func (.func 27) #[] #[])) (kt:=3) (et:=87) (t:=89) (x:=(.tmp 11)) (y:=(.const (vI 3))) (u:=(.func 27)) kr (ev (.map (some b9))) (ev (vI 3)) (ev (.func (.func 27) #[] #[])) kr (qDp kr) g r8 rfl rfl d6 fun es5 ck5 w18 g r9=> ?_);have⟨mp4,d7,hr⟩:=qAw hr;refine qAa rfl (qBl (ek:=(fun n:Int=>Value.int .i64 n)) (c:=cFn) (agg:=false) (k:=4) (yv:=(some 28:Tf)) (cs:=[.func (.func 28) #[] #[]]) (z:= .nilFunc) (v:=(.func (.func 28) #[] #[])) (kt:=3) (et:=87) (t:=89) (x:=(.tmp 11)) (y:=(.const (vI 4))) (u:=(.func 28)) kr (ev (.map (some b9))) (ev (vI 4)) (ev (.func (.func 28) #[] #[])) kr (qDp kr) g r9 rfl rfl d7 fun es6 ck6 w19 g r10=> ?_);have⟨mp5,d8,hr⟩:=qAw hr
  refine qAa rfl (qBl (ek:=(fun n:Int=>Value.int .i64 n)) (c:=cFn) (agg:=false) (k:=5) (yv:=(some 29:Tf)) (cs:=[.func (.func 29) #[] #[]]) (z:= .nilFunc) (v:=(.func (.func 29) #[] #[])) (kt:=3) (et:=87) (t:=89) (x:=(.tmp 11)) (y:=(.const (vI 5))) (u:=(.func 29)) kr (ev (.map (some b9))) (ev (vI 5)) (ev (.func (.func 29) #[] #[])) kr (qDp kr) g r10 rfl rfl d8 fun es7 ck7 w20 g r11=> ?_);have⟨mp6,d9,hr⟩:=qAw hr;refine qAa rfl (qBl (ek:=(fun n:Int=>Value.int .i64 n)) (c:=cFn) (agg:=false) (k:=6) (yv:=(some 30:Tf)) (cs:=[.func (.func 30) #[] #[]]) (z:= .nilFunc) (v:=(.func (.func 30) #[] #[])) (kt:=3) (et:=87) (t:=89) (x:=(.tmp 11)) (y:=(.const (vI 6))) (u:=(.func 30)) kr (ev (.map (some b9))) (ev (vI 6)) (ev (.func (.func 30) #[] #[])) kr (qDp kr) g r11 rfl rfl d9 fun es8 ck8 w21 g r12=> ?_);have⟨mp7,d10,hr⟩:=qAw hr;refine qAa rfl (qBl (ek:=(fun n:Int=>Value.int .i64 n)) (c:=cFn) (agg:=false) (k:=7) (yv:=(some 31:Tf)) (cs:=[.func (.func 31) #[] #[]]) (z:= .nilFunc) (v:=(.func (.func 31) #[] #[])) (kt:=3) (et:=87) (t:=89) (x:=(.tmp 11)) (y:=(.const (vI 7))) (u:=(.func 31)) kr (ev (.map (some b9))) (ev (vI 7)) (ev (.func (.func 31) #[] #[])) kr (qDp kr) g r12 rfl rfl d10 fun es9 ck9 w22 g r13=> ?_);have⟨mp8,d11,hr⟩:=qAw hr
  refine qAa rfl (qBl (ek:=(fun n:Int=>Value.int .i64 n)) (c:=cFn) (agg:=false) (k:=8) (yv:=(some 32:Tf)) (cs:=[.func (.func 32) #[] #[]]) (z:= .nilFunc) (v:=(.func (.func 32) #[] #[])) (kt:=3) (et:=87) (t:=89) (x:=(.tmp 11)) (y:=(.const (vI 8))) (u:=(.func 32)) kr (ev (.map (some b9))) (ev (vI 8)) (ev (.func (.func 32) #[] #[])) kr (qDp kr) g r13 rfl rfl d11 fun es10 ck10 w23 g r14=> ?_);have⟨mp9,d12,hr⟩:=qAw hr;refine qAa rfl (qBl (ek:=(fun n:Int=>Value.int .i64 n)) (c:=cFn) (agg:=false) (k:=9) (yv:=(some 33:Tf)) (cs:=[.func (.func 33) #[] #[]]) (z:= .nilFunc) (v:=(.func (.func 33) #[] #[])) (kt:=3) (et:=87) (t:=89) (x:=(.tmp 11)) (y:=(.const (vI 9))) (u:=(.func 33)) kr (ev (.map (some b9))) (ev (vI 9)) (ev (.func (.func 33) #[] #[])) kr (qDp kr) g r14 rfl rfl d12 fun es11 ck11 w24 g r15=> ?_);have⟨mp10,d13,hr⟩:=qAw hr
  refine qAa rfl (qBl (ek:=(fun n:Int=>Value.int .i64 n)) (c:=cFn) (agg:=false) (k:=10) (yv:=(some 34:Tf)) (cs:=[.func (.func 34) #[] #[]]) (z:= .nilFunc) (v:=(.func (.func 34) #[] #[])) (kt:=3) (et:=87) (t:=89) (x:=(.tmp 11)) (y:=(.const (vI 10))) (u:=(.func 34)) kr (ev (.map (some b9))) (ev (vI 10)) (ev (.func (.func 34) #[] #[])) kr (qDp kr) g r15 rfl rfl d13 fun es12 ck12 w25 g r16=>(qAc 2 [(13,.agg #[vP b5 0,vS a2 p1 c2,.int .u64 p2,.map (some b8),vI 0,vI 0,vB false,.map (some b9)])] (qAa rfl (qLu 14 91 13 (.agg #[vP b5 0,vS a2 p1 c2,.int .u64 p2,.map (some b8),vI 0,vI 0,vB false,.map (some b9)]) g fun b10 w26 g=>(qAg 1 [(6,vP b10 0)] (qBc (X_rt [6] [vP b10 0] (⟨_,rfl,?_⟩))))))))
  refine qAg 1 [(12,vP b10 0)] (W_sr (qAc 2 [(40,vP b10 0),(41,vP b3 0)] (qEq 42 9 41 0 (vT p3.1) g ((hb3.mono e6).mono e7) (qAc 1 [(43,vP b3 1)] (qAa rfl (qCb (d:=44) (t:=9) (x:=(.tmp 43)) (vT p3.2) kr rfl (ev (vP b3 1)) g (((hb3.mono e6).mono e7).drop 1) kr (qAc 1 [(45,.agg (Va 2 p3.1 p3.2))] (qAa rfl (qAy (d:=46) (t:=30) (e:=72) (len:=1) (parts:= #[(0,(.tmp 45))]) C9 (xs:=[(2,p3.1,p3.2)]) [vI 2,vT p3.1,vT p3.2] kr rfl (fun _=>qAx kr _) rfl rfl g ⟨[vI 2,vT p3.1,vT p3.2],_,rfl,⟨_,_,rfl,rfl,⟨_,_,rfl,rfl,rfl⟩⟩,rfl⟩ fun b11 m10 w27 e9 g r17=>(qBe 47 hr (fun _ h=>qCs (p0:=(y1,p1,p2,(some []:T1n),0,0,false,mp10)) g.f1.f2.f3.f7.f7.f7 (((r3.mono e6).mono e7).mono e9) (((r4.mono e6).mono e7).mono e9) (((r5.mono e6).mono e7).mono e9) (((r6.mono e6).mono e7).mono e9) (((r2.mono e6).mono e7).mono e9) (MapQ.new qBb qBv false _ _) (r16.mono e9) r17 h) ?_))))))))));rintro y4 hr _ w28 ⟨es13,ck13,m11,rfl,e10,g,r18⟩;refine qAz rfl ?_;have g:=g.f6.t
  refine qAj (W_sr (qAc 1 [(48,vP b10 0)] (qAa rfl (qAr 49 60 11 0 (.agg (Vd y3)) g.t.t.t.t.t.t.h (qBe 50 hr (fun _ h=>qHt (p0:=(y1,p1,p2,y4.1,y4.2.1,y4.2.2.1,y4.2.2.2,mp10)) (p1:=y3) g.f5.f5.f5.f5.f5.f5 ((((r3.mono e6).mono e7).mono e9).mono e10) ((((r4.mono e6).mono e7).mono e9).mono e10) ((((r5.mono e6).mono e7).mono e9).mono e10) ((((r6.mono e6).mono e7).mono e9).mono e10) ((((r2.mono e6).mono e7).mono e9).mono e10) r18 ((r16.mono e9).mono e10) (RepS.nil _ _) h) ?_)))));rintro y5 hr _ w29 ⟨es14,ck14,a5,c5,m12,rfl,e11,g,r19,r20⟩;refine qAa rfl (qAt 32 8 50 (.agg (Vi y5.2.1.1 y5.2.1.2.1 y5.2.1.2.2 y5.2.2.1 a5 y5.2.2.2.1 c5 y5.2.2.2.2)) g.f8 fun w30 g=>(qAg 1 [(9,vI 0)] (qBc ?_)));cases hr;exact qEe [.cell 8 32,.tmp 9] [.agg (Vi y5.2.1.1 y5.2.1.2.1 y5.2.1.2.2 y5.2.2.1 a5 y5.2.2.2.1 c5 y5.2.2.2.2),vI 0] rfl (ResAll.cons (ResAt.blk (v:= .agg (Vi y5.2.1.1 y5.2.1.2.1 y5.2.1.2.2 y5.2.2.1 a5 y5.2.2.2.1 c5 y5.2.2.2.2)) (o:=0) kr g.h kr) (ResAll.cons (ResAt.tmp kr) ResAll.nil)) ⟨a5,c5,m12,rfl,((((q.t e6).t e7).t e9).t e10).t e11,g.t.f1.t.f1.t.f1.t.f1.t.f1.t.f1.t.f1.t,r20⟩
 intro K;refine qBz 3 18 4 17 1 (vB y1.2.1) g.t.t.h (qAc 2 [(20,vB (!y1.2.1))] (qCj 20 hr ?_ ?_))
 .intro A hr;refine qAc 4 [(24,vB true)] ?_;cases hr;exact qBh _ kr (K _ _ ⟨m4,rfl,(((q.t e1).t e2).t e3).t e4,g.f1.f1.f3.f3,hb2,r2,hb3.mono e4,r3,r5,r4,r6⟩)
 intro A hr;refine qEq 21 37 5 0 (.agg #[vS a2 p1 c2]) g hb2 (qBe 22 hr (fun _ h=>qGi g r2 h) ?_);rintro y2 hr _ w7 ⟨m6,rfl,e5,g⟩;refine qAc 2 [(24,vB (!y2))] ?_;cases hr;exact qBh _ kr (K _ _ ⟨m6,rfl,((((q.t e1).t e2).t e3).t e4).t e5,g.f1.f1.f3.f3,hb2.mono e5,r2.mono e5,(hb3.mono e4).mono e5,r3.mono e5,r5.mono e5,r4.mono e5,r6.mono e5⟩)
def qEy(N:Nat):T5:=
 (qLr N ([((⟨#[97,46,115,114,99]⟩:ByteArray),(⟨#[112,97,99,107,97,103,101,32,112,59,32,102,117,110,99,32,102,40,120,41,32,61,32,120,32,42,32,120,59,32,116,101,115,116,32,116,32,61,32,102,40,50,41,32,61,61,32,52,59]⟩:ByteArray))]) ([]:T18) 0 ((⟨#[112]⟩:ByteArray),(⟨#[116]⟩:ByteArray))).bind fun y1=>(qBq N ([((⟨#[97,46,115,114,99]⟩:ByteArray),(⟨#[112,97,99,107,97,103,101,32,112,59,32,102,117,110,99,32,102,40,120,41,32,61,32,120,32,42,32,120,59,32,116,101,115,116,32,116,32,61,32,102,40,50,41,32,61,61,32,52,59]⟩:ByteArray))]) ([]:T18) 0 (⟨#[112]⟩:ByteArray) (⟨#[102]⟩:ByteArray) ([(3:Int)])).bind fun y2=>(if(y1.2==0)=true then(if(y2.2.2==0)=true then(if((y1.1.1.1==1)&&((y1.1.1.2.1==1)&&((y1.1.1.2.2==0)&&true)))=true then(if(y1.1.2.2.2==7)=true then(if((List.length y1.1.2.2.1:Int)==2)=true then(some (y2.1==9)) else(some false)) else(some false)) else(some false)) else(some false)) else(some false):T5).bind fun o1=>some o1
theorem qHv{r:Bool}(g:St m (O) w)(hr:qEy N=some r):Calls Tryz.prog 7 #[] w fun e w'=>∃m',e= .returned (vB r)/\m.le m'/\St m' (O) w':=by
 unfold qEy at hr;have q:=m.le_refl;refine W_cA Tryz.func7 rfl Tryz.ntmps7 ?_;refine W_sr (qAg 1 [] (W_sr (qAc 1 [(7,.agg #[vT bw,vT bx])] (qAa rfl (qAy (d:=8) (t:=24) (e:=23) (len:=1) (parts:= #[(0,(.tmp 7))]) C1 (xs:=[(bw,bx)]) [vT bw,vT bx] kr rfl (fun _=>qAx kr _) rfl rfl g ⟨[vT bw,vT bx],_,rfl,⟨_,_,rfl,rfl,rfl⟩,rfl⟩ fun b1 m1 w1 e1 g r1=>(qAc 1 [(9,.agg #[.slice (aP b1) (List.length ([(bw,bx)])) 1])] (qAa rfl (qBk 1 26 (.agg #[v6]) g fun b2 w2 g=>(qAa rfl (qAt 26 1 9 (.agg #[.slice (aP b1) (List.length ([(bw,bx)])) 1]) g fun w3 g=>(WO_e (W_sr (qAa rfl (qAr 11 26 1 0 (.agg #[.slice (aP b1) (List.length ([(bw,bx)])) 1]) g.h (qAc 2 [(12,.agg #[vc]),(13,.agg #[vT (⟨#[112]⟩:ByteArray),vT (⟨#[116]⟩:ByteArray)])] (qBe 14 hr (fun _ h=>qOy (p3:=((⟨#[112]⟩:ByteArray),(⟨#[116]⟩:ByteArray))) g r1 (RepS.nil _ _) h) ?_))))))))))))))));rintro y1 hr _ w4 ⟨a1,c1,m2,rfl,e2,g,r2⟩
 refine qAc 3 [(15,.agg (Vi y1.1.1.1 y1.1.1.2.1 y1.1.1.2.2 y1.1.2.1 a1 y1.1.2.2.1 c1 y1.1.2.2.2)),(16,vI y1.2)] (qAa rfl (qBk 2 32 (.agg #[vI 0,vI 0,vI 0,vB false,v6,vI 0]) g fun b3 w5 g=>(qAa rfl (qAt 32 2 15 (.agg (Vi y1.1.1.1 y1.1.1.2.1 y1.1.1.2.2 y1.1.2.1 a1 y1.1.2.2.1 c1 y1.1.2.2.2)) g fun w6 g=>(qAg 1 [(3,vI y1.2)] (W_sr (qAa rfl (qAr 18 26 1 0 (.agg #[.slice (aP b1) (List.length ([(bw,bx)])) 1]) g.t.t.h (qAc 1 [(19,.agg #[vc])] (qAa rfl (qAy (d:=20) (t:=39) (e:=3) (len:=1) (parts:= #[(0,(.const (vI 3)))]) (cInt .i64) (xs:=[(3:Int)]) [vI 3] kr rfl (fun _=>qAx kr _) rfl rfl g ⟨[vI 3],_,rfl,rfl,rfl⟩ fun b4 m3 w7 e3 g r3=>(qBe 21 hr (fun _ h=>qDy g ((r1.mono e2).mono e3) (RepS.nil _ _) r3 h) ?_))))))))))));rintro y2 hr _ w8 ⟨a2,c2,m4,rfl,e4,g,r4⟩;have q:=(((q.t e1).t e2).t e3).t e4;have r1:=((r1.mono e2).mono e3).mono e4;have r2:=(r2.mono e3).mono e4;refine qAc 4 [(22,vI y2.1),(23,.agg (Vi y2.2.1.1.1 y2.2.1.1.2.1 y2.2.1.1.2.2 y2.2.1.2.1 a2 y2.2.1.2.2.1 c2 y2.2.1.2.2.2)),(24,vI y2.2.2)] (qAa rfl (qBk 5 32 (.agg #[vI 0,vI 0,vI 0,vB false,v6,vI 0]) g fun b5 w9 g=>(qAc 1 [(4,vI y2.1)] (qAa rfl (qAt 32 5 23 (.agg (Vi y2.2.1.1.1 y2.2.1.1.2.1 y2.2.1.1.2.2 y2.2.1.2.1 a2 y2.2.1.2.2.1 c2 y2.2.1.2.2.2)) g fun w10 g=>(qAc 1 [(6,vI y2.2.2)] (qAz rfl ?_)))))));have g:=g.f2.t;refine qAj (W_sr ?_);have⟨o1,hr,J⟩:=qAw hr
 refine qGj (j:=28) (fun L' w'=>∃m5,L'=[(0,vB o1)]/\m.le m5/\St m5 (kB b5 (Vi y2.2.1.1.1 y2.2.1.1.2.1 y2.2.1.1.2.2 y2.2.1.2.1 a2 y2.2.1.2.2.1 c2 y2.2.1.2.2.2) 32::kB b3 (Vi y1.1.1.1 y1.1.1.2.1 y1.1.1.2.2 y1.1.2.1 a1 y1.1.2.2.1 c1 y1.1.2.2.2) 32::kB b2 #[.slice (aP b1) (List.length ([(bw,bx)])) 1] 26::kR a2 y2.2.1.2.2.1 c2 72 3::kR a1 y1.1.2.2.1 c1 72 3:: .room (aP b1) (List.length ([(bw,bx)])) 1 23 2::O) w'/\RepS C9 m5 a2 c2 y2.2.1.2.2.1/\RepS C9 m5 a1 c1 y1.1.2.2.1/\RepS C1 m5 (aP b1) 1 ([(bw,bx)])) ?_ ?_
 .have hr:=J;rintro _ w11 ⟨m5,rfl,q,g,r4,r2,r1⟩;refine WO_e (qBc ?_);obtain rfl:=sI hr;exact X_rt [0] [vB o1] ⟨m5,rfl,q,g.t.t.t.t.t.t⟩
 intro K;refine qAc 3 [(27,vB (y1.2==0))] (qCj 27 hr ?_ ?_)
 .intro A hr;refine qAc 4 [(31,vB (y2.2.2==0))] (qCj 31 hr ?_ ?_)
  .intro A hr;refine qBz 1 33 29 32 0 (.agg (Vf y1.1.1)) g.t.t.h (qAc 1 [(34,.agg (Vg 1 1 0))] (qAa rfl (qUg (d:=35) (t:=29) (t2:=29) (x:=(.tmp 33)) (y:=(.tmp 34)) (xs:=(Vf y1.1.1)) (ys:=(Vg 1 1 0)) ((y1.1.1.1==1)&&((y1.1.1.2.1==1)&&((y1.1.1.2.2==0)&&true))) kr rfl (ev (.agg (Vf y1.1.1))) (ev (.agg (Vg 1 1 0))) kr kr kr (qAc 2 [(37,vB ((y1.1.1.1==1)&&((y1.1.1.2.1==1)&&((y1.1.1.2.2==0)&&true))))] (qCj 37 hr ?_ ?_)))))
   .intro A hr;refine qBz 1 39 3 38 5 (vI y1.1.2.2.2) g.t.t.h (qAc 3 [(42,vB (y1.1.2.2.2==7))] (qCj 42 hr ?_ ?_))
    .intro A hr;refine qBz 1 44 30 43 4 (vS a1 y1.1.2.2.1 c1) g.t.t.h (qAc 4 [(48,vB ((y1.1.2.2.1.length:Int)==2))] (qCj 48 hr ?_ ?_))
     .intro A hr;refine qAc 4 [(0,vB (y2.1==9))] ?_;cases hr;exact qBh _ kr (K _ _ ⟨m4,rfl,q,g.f5.f4.f3.f5.f5.f5,r4,r2,r1⟩)
     intro A hr;refine qAc 4 [(0,vB false)] ?_;cases hr;exact qBh _ kr (K _ _ ⟨m4,rfl,q,g.f5.f4.f3.f5.f5.f5,r4,r2,r1⟩)
    intro A hr;refine qAc 10 [(0,vB false)] ?_;cases hr;exact qBh _ kr (K _ _ ⟨m4,rfl,q,g.f5.f4.f3.f5.f5.f5,r4,r2,r1⟩)
   intro A hr;refine qAc 15 [(0,vB false)] ?_;cases hr;exact qBh _ kr (K _ _ ⟨m4,rfl,q,g.f5.f4.f3.f5.f5.f5,r4,r2,r1⟩)
  intro A hr;refine qAc 21 [(0,vB false)] ?_;cases hr;exact qBh _ kr (K _ _ ⟨m4,rfl,q,g.f5.f4.f3.f5.f5.f5,r4,r2,r1⟩)
 intro A hr;refine qAc 25 [(0,vB false)] ?_;cases hr;exact qBh _ kr (K _ _ ⟨m4,rfl,q,g.f5.f4.f3.f5.f5.f5,r4,r2,r1⟩)
end
section
open Go Go.Dc
variable {N:Nat} {m:Mem} {O:List Piece} {w:World}
def qCe(N:Nat)(p0:Int)(p1:Int):T5:=
 ((qBq N ([((⟨#[97,46,115,114,99]⟩:ByteArray),(⟨#[112,97,99,107,97,103,101,32,112,59,32,102,117,110,99,32,97,100,100,40,97,44,32,98,41,32,61,32,97,32,43,32,98,59,32,102,117,110,99,32,115,117,98,40,97,44,32,98,41,32,61,32,97,32,45,32,98,59,32,102,117,110,99,32,109,117,108,40,97,44,32,98,41,32,61,32,97,32,42,32,98,59,32,102,117,110,99,32,100,105,118,40,97,44,32,98,41,32,61,32,97,32,47,32,98,59,32,102,117,110,99,32,109,111,100,40,97,44,32,98,41,32,61,32,97,32,37,32,98,59,32,102,117,110,99,32,108,101,115,115,40,97,44,32,98,41,32,61,32,97,32,60,32,98,59,32,102,117,110,99,32,115,97,109,101,40,97,44,32,98,41,32,61,32,97,32,61,61,32,98,59]⟩:ByteArray))]) ([]:T18) 0 (⟨#[112]⟩:ByteArray) (⟨#[97,100,100]⟩:ByteArray) ([Int.tmod p0 9007199254740993,Int.tmod p1 9007199254740993])).bind fun y1=>if(y1.2.2 !=0)=true then(some ((-1),0,0,0)) else(some (y1.1,y1.2.1.1.1,y1.2.1.1.2.1,y1.2.1.1.2.2)):T22).bind fun o1=>((qBq N ([((⟨#[97,46,115,114,99]⟩:ByteArray),(⟨#[112,97,99,107,97,103,101,32,112,59,32,102,117,110,99,32,97,100,100,40,97,44,32,98,41,32,61,32,97,32,43,32,98,59,32,102,117,110,99,32,115,117,98,40,97,44,32,98,41,32,61,32,97,32,45,32,98,59,32,102,117,110,99,32,109,117,108,40,97,44,32,98,41,32,61,32,97,32,42,32,98,59,32,102,117,110,99,32,100,105,118,40,97,44,32,98,41,32,61,32,97,32,47,32,98,59,32,102,117,110,99,32,109,111,100,40,97,44,32,98,41,32,61,32,97,32,37,32,98,59,32,102,117,110,99,32,108,101,115,115,40,97,44,32,98,41,32,61,32,97,32,60,32,98,59,32,102,117,110,99,32,115,97,109,101,40,97,44,32,98,41,32,61,32,97,32,61,61,32,98,59]⟩:ByteArray))]) ([]:T18) 0 (⟨#[112]⟩:ByteArray) (⟨#[115,117,98]⟩:ByteArray) ([Int.tmod p0 9007199254740993,Int.tmod p1 9007199254740993])).bind fun y2=>if(y2.2.2 !=0)=true then(some ((-1),0,0,0)) else(some (y2.1,y2.2.1.1.1,y2.2.1.1.2.1,y2.2.1.1.2.2)):T22).bind fun o2=>(if(decide ((IntKind.wrap .i64 ((Int.tmod p0 9007199254740993)+(Int.tmod p1 9007199254740993)))>9007199254740992))=true then(if(!((o1.2.2.2==3)==true))=true then(some true) else(if(o1.2.2.2==0)=true then(if(o1.1 !=(IntKind.wrap .i64 ((Int.tmod p0 9007199254740993)+(Int.tmod p1 9007199254740993))))=true then(some true) else(if(decide ((IntKind.wrap .i64 ((Int.tmod p0 9007199254740993)-(Int.tmod p1 9007199254740993)))>9007199254740992))=true then(if(!((o2.2.2.2==3)==true))=true then(some true) else(if(o2.2.2.2==0)=true then(some (o2.1 !=(IntKind.wrap .i64 ((Int.tmod p0 9007199254740993)-(Int.tmod p1 9007199254740993))))) else(some false))) else(if(!((o2.2.2.2==3)==(decide ((IntKind.wrap .i64 ((Int.tmod p0 9007199254740993)-(Int.tmod p1 9007199254740993)))<(IntKind.wrap .i64 (0-9007199254740992))))))=true then(some true) else(if(o2.2.2.2==0)=true then(some (o2.1 !=(IntKind.wrap .i64 ((Int.tmod p0 9007199254740993)-(Int.tmod p1 9007199254740993))))) else(some false))))) else(if(decide ((IntKind.wrap .i64 ((Int.tmod p0 9007199254740993)-(Int.tmod p1 9007199254740993)))>9007199254740992))=true then(if(!((o2.2.2.2==3)==true))=true then(some true) else(if(o2.2.2.2==0)=true then(some (o2.1 !=(IntKind.wrap .i64 ((Int.tmod p0 9007199254740993)-(Int.tmod p1 9007199254740993))))) else(some false))) else(if(!((o2.2.2.2==3)==(decide ((IntKind.wrap .i64 ((Int.tmod p0 9007199254740993)-(Int.tmod p1 9007199254740993)))<(IntKind.wrap .i64 (0-9007199254740992))))))=true then(some true) else(if(o2.2.2.2==0)=true then(some (o2.1 !=(IntKind.wrap .i64 ((Int.tmod p0 9007199254740993)-(Int.tmod p1 9007199254740993))))) else(some false)))))) else(if(!((o1.2.2.2==3)==(decide ((IntKind.wrap .i64 ((Int.tmod p0 9007199254740993)+(Int.tmod p1 9007199254740993)))<(IntKind.wrap .i64 (0-9007199254740992))))))=true then(some true) else(if(o1.2.2.2==0)=true then(if(o1.1 !=(IntKind.wrap .i64 ((Int.tmod p0 9007199254740993)+(Int.tmod p1 9007199254740993))))=true then(some true) else(if(decide ((IntKind.wrap .i64 ((Int.tmod p0 9007199254740993)-(Int.tmod p1 9007199254740993)))>9007199254740992))=true then(if(!((o2.2.2.2==3)==true))=true then(some true) else(if(o2.2.2.2==0)=true then(some (o2.1 !=(IntKind.wrap .i64 ((Int.tmod p0 9007199254740993)-(Int.tmod p1 9007199254740993))))) else(some false))) else(if(!((o2.2.2.2==3)==(decide ((IntKind.wrap .i64 ((Int.tmod p0 9007199254740993)-(Int.tmod p1 9007199254740993)))<(IntKind.wrap .i64 (0-9007199254740992))))))=true then(some true) else(if(o2.2.2.2==0)=true then(some (o2.1 !=(IntKind.wrap .i64 ((Int.tmod p0 9007199254740993)-(Int.tmod p1 9007199254740993))))) else(some false))))) else(if(decide ((IntKind.wrap .i64 ((Int.tmod p0 9007199254740993)-(Int.tmod p1 9007199254740993)))>9007199254740992))=true then(if(!((o2.2.2.2==3)==true))=true then(some true) else(if(o2.2.2.2==0)=true then(some (o2.1 !=(IntKind.wrap .i64 ((Int.tmod p0 9007199254740993)-(Int.tmod p1 9007199254740993))))) else(some false))) else(if(!((o2.2.2.2==3)==(decide ((IntKind.wrap .i64 ((Int.tmod p0 9007199254740993)-(Int.tmod p1 9007199254740993)))<(IntKind.wrap .i64 (0-9007199254740992))))))=true then(some true) else(if(o2.2.2.2==0)=true then(some (o2.1 !=(IntKind.wrap .i64 ((Int.tmod p0 9007199254740993)-(Int.tmod p1 9007199254740993))))) else(some false)))))):T5).bind fun o3=>if o3=true then(some false) else(((qBq N ([((⟨#[97,46,115,114,99]⟩:ByteArray),(⟨#[112,97,99,107,97,103,101,32,112,59,32,102,117,110,99,32,97,100,100,40,97,44,32,98,41,32,61,32,97,32,43,32,98,59,32,102,117,110,99,32,115,117,98,40,97,44,32,98,41,32,61,32,97,32,45,32,98,59,32,102,117,110,99,32,109,117,108,40,97,44,32,98,41,32,61,32,97,32,42,32,98,59,32,102,117,110,99,32,100,105,118,40,97,44,32,98,41,32,61,32,97,32,47,32,98,59,32,102,117,110,99,32,109,111,100,40,97,44,32,98,41,32,61,32,97,32,37,32,98,59,32,102,117,110,99,32,108,101,115,115,40,97,44,32,98,41,32,61,32,97,32,60,32,98,59,32,102,117,110,99,32,115,97,109,101,40,97,44,32,98,41,32,61,32,97,32,61,61,32,98,59]⟩:ByteArray))]) ([]:T18) 0 (⟨#[112]⟩:ByteArray) (⟨#[100,105,118]⟩:ByteArray) ([Int.tmod p0 9007199254740993,Int.tmod p1 9007199254740993])).bind fun y3=>if(y3.2.2 !=0)=true then(some ((-1),0,0,0)) else(some (y3.1,y3.2.1.1.1,y3.2.1.1.2.1,y3.2.1.1.2.2)):T22).bind fun o4=>((qBq N ([((⟨#[97,46,115,114,99]⟩:ByteArray),(⟨#[112,97,99,107,97,103,101,32,112,59,32,102,117,110,99,32,97,100,100,40,97,44,32,98,41,32,61,32,97,32,43,32,98,59,32,102,117,110,99,32,115,117,98,40,97,44,32,98,41,32,61,32,97,32,45,32,98,59,32,102,117,110,99,32,109,117,108,40,97,44,32,98,41,32,61,32,97,32,42,32,98,59,32,102,117,110,99,32,100,105,118,40,97,44,32,98,41,32,61,32,97,32,47,32,98,59,32,102,117,110,99,32,109,111,100,40,97,44,32,98,41,32,61,32,97,32,37,32,98,59,32,102,117,110,99,32,108,101,115,115,40,97,44,32,98,41,32,61,32,97,32,60,32,98,59,32,102,117,110,99,32,115,97,109,101,40,97,44,32,98,41,32,61,32,97,32,61,61,32,98,59]⟩:ByteArray))]) ([]:T18) 0 (⟨#[112]⟩:ByteArray) (⟨#[109,111,100]⟩:ByteArray) ([Int.tmod p0 9007199254740993,Int.tmod p1 9007199254740993])).bind fun y4=>if(y4.2.2 !=0)=true then(some ((-1),0,0,0)) else(some (y4.1,y4.2.1.1.1,y4.2.1.1.2.1,y4.2.1.1.2.2)):T22).bind fun o5=>if((Int.tmod p1 9007199254740993)==0)=true then((if(o4.2.2.2==4)=true then(if(o5.2.2.2==4)=true then((qEy N).bind fun y5=>some y5) else(some false)) else(some false):T5).bind fun o6=>some o6) else((if(o4.2.2.2 !=0)=true then(some true) else(if(o5.2.2.2 !=0)=true then(some true) else(if((IntKind.wrap .i64 ((IntKind.wrap .i64 (o4.1*(Int.tmod p1 9007199254740993)))+o5.1)) !=(Int.tmod p0 9007199254740993))=true then(some true) else(if(o5.1 !=0)=true then(if(!((decide (o5.1<0))==(decide ((Int.tmod p0 9007199254740993)<0))))=true then(some true) else(if(decide (o5.1>=0))=true then(if(decide (o5.1>=(if(IntKind.wrap .i64 (0-(Int.tmod p1 9007199254740993)))>(Int.tmod p1 9007199254740993) then(IntKind.wrap .i64 (0-(Int.tmod p1 9007199254740993))) else(Int.tmod p1 9007199254740993))))=true then(some true) else(if(decide (o5.1<0))=true then(some (decide ((IntKind.wrap .i64 (0-o5.1))>=(if(IntKind.wrap .i64 (0-(Int.tmod p1 9007199254740993)))>(Int.tmod p1 9007199254740993) then(IntKind.wrap .i64 (0-(Int.tmod p1 9007199254740993))) else(Int.tmod p1 9007199254740993))))) else(some false))) else(if(decide (o5.1<0))=true then(some (decide ((IntKind.wrap .i64 (0-o5.1))>=(if(IntKind.wrap .i64 (0-(Int.tmod p1 9007199254740993)))>(Int.tmod p1 9007199254740993) then(IntKind.wrap .i64 (0-(Int.tmod p1 9007199254740993))) else(Int.tmod p1 9007199254740993))))) else(some false)))) else(if(decide (o5.1>=0))=true then(if(decide (o5.1>=(if(IntKind.wrap .i64 (0-(Int.tmod p1 9007199254740993)))>(Int.tmod p1 9007199254740993) then(IntKind.wrap .i64 (0-(Int.tmod p1 9007199254740993))) else(Int.tmod p1 9007199254740993))))=true then(some true) else(if(decide (o5.1<0))=true then(some (decide ((IntKind.wrap .i64 (0-o5.1))>=(if(IntKind.wrap .i64 (0-(Int.tmod p1 9007199254740993)))>(Int.tmod p1 9007199254740993) then(IntKind.wrap .i64 (0-(Int.tmod p1 9007199254740993))) else(Int.tmod p1 9007199254740993))))) else(some false))) else(if(decide (o5.1<0))=true then(some (decide ((IntKind.wrap .i64 (0-o5.1))>=(if(IntKind.wrap .i64 (0-(Int.tmod p1 9007199254740993)))>(Int.tmod p1 9007199254740993) then(IntKind.wrap .i64 (0-(Int.tmod p1 9007199254740993))) else(Int.tmod p1 9007199254740993))))) else(some false)))))):T5).bind fun o7=>if o7=true then(some false) else(((qBq N ([((⟨#[97,46,115,114,99]⟩:ByteArray),(⟨#[112,97,99,107,97,103,101,32,112,59,32,102,117,110,99,32,97,100,100,40,97,44,32,98,41,32,61,32,97,32,43,32,98,59,32,102,117,110,99,32,115,117,98,40,97,44,32,98,41,32,61,32,97,32,45,32,98,59,32,102,117,110,99,32,109,117,108,40,97,44,32,98,41,32,61,32,97,32,42,32,98,59,32,102,117,110,99,32,100,105,118,40,97,44,32,98,41,32,61,32,97,32,47,32,98,59,32,102,117,110,99,32,109,111,100,40,97,44,32,98,41,32,61,32,97,32,37,32,98,59,32,102,117,110,99,32,108,101,115,115,40,97,44,32,98,41,32,61,32,97,32,60,32,98,59,32,102,117,110,99,32,115,97,109,101,40,97,44,32,98,41,32,61,32,97,32,61,61,32,98,59]⟩:ByteArray))]) ([]:T18) 0 (⟨#[112]⟩:ByteArray) (⟨#[109,117,108]⟩:ByteArray) ([Int.tmod p0 9007199254740993,Int.tmod p1 9007199254740993])).bind fun y6=>if(y6.2.2 !=0)=true then(some ((-1),0,0,0)) else(some (y6.1,y6.2.1.1.1,y6.2.1.1.2.1,y6.2.1.1.2.2)):T22).bind fun o8=>(if(o8.2.2.2==0)=true then(if(!(((Int.tmod p0 9007199254740993)==0)==(o8.1==0)))=true then(some true) else(if(o8.2.2.2==0)=true then(if((Int.tmod p0 9007199254740993) !=0)=true then((quoS .i64 o8.1 (Int.tmod p0 9007199254740993)).bind fun i1=>if(i1 !=(Int.tmod p1 9007199254740993))=true then(some true) else((remS o8.1 (Int.tmod p0 9007199254740993)).bind fun i2=>some (i2 !=0))) else(some false)) else(some false))) else(if(o8.2.2.2==0)=true then(if((Int.tmod p0 9007199254740993) !=0)=true then((quoS .i64 o8.1 (Int.tmod p0 9007199254740993)).bind fun i3=>if(i3 !=(Int.tmod p1 9007199254740993))=true then(some true) else((remS o8.1 (Int.tmod p0 9007199254740993)).bind fun i4=>some (i4 !=0))) else(some false)) else(some false)):T5).bind fun o9=>if o9=true then(some false) else((if((Int.tmod p0 9007199254740993) !=0)=true then((quoS .i64 9007199254740992 (if(IntKind.wrap .i64 (0-(Int.tmod p0 9007199254740993)))>(Int.tmod p0 9007199254740993) then(IntKind.wrap .i64 (0-(Int.tmod p0 9007199254740993))) else(Int.tmod p0 9007199254740993))).bind fun i5=>some (!((o8.2.2.2==3)==(decide ((if(IntKind.wrap .i64 (0-(Int.tmod p1 9007199254740993)))>(Int.tmod p1 9007199254740993) then(IntKind.wrap .i64 (0-(Int.tmod p1 9007199254740993))) else(Int.tmod p1 9007199254740993))>i5))))) else(some (!((o8.2.2.2==3)==false))):T5).bind fun o10=>if o10=true then(some false) else(((qBq N ([((⟨#[97,46,115,114,99]⟩:ByteArray),(⟨#[112,97,99,107,97,103,101,32,112,59,32,102,117,110,99,32,97,100,100,40,97,44,32,98,41,32,61,32,97,32,43,32,98,59,32,102,117,110,99,32,115,117,98,40,97,44,32,98,41,32,61,32,97,32,45,32,98,59,32,102,117,110,99,32,109,117,108,40,97,44,32,98,41,32,61,32,97,32,42,32,98,59,32,102,117,110,99,32,100,105,118,40,97,44,32,98,41,32,61,32,97,32,47,32,98,59,32,102,117,110,99,32,109,111,100,40,97,44,32,98,41,32,61,32,97,32,37,32,98,59,32,102,117,110,99,32,108,101,115,115,40,97,44,32,98,41,32,61,32,97,32,60,32,98,59,32,102,117,110,99,32,115,97,109,101,40,97,44,32,98,41,32,61,32,97,32,61,61,32,98,59]⟩:ByteArray))]) ([]:T18) 0 (⟨#[112]⟩:ByteArray) (⟨#[108,101,115,115]⟩:ByteArray) ([Int.tmod p0 9007199254740993,Int.tmod p1 9007199254740993])).bind fun y7=>if(y7.2.2 !=0)=true then(some ((-1),0,0,0)) else(some (y7.1,y7.2.1.1.1,y7.2.1.1.2.1,y7.2.1.1.2.2)):T22).bind fun o11=>((qBq N ([((⟨#[97,46,115,114,99]⟩:ByteArray),(⟨#[112,97,99,107,97,103,101,32,112,59,32,102,117,110,99,32,97,100,100,40,97,44,32,98,41,32,61,32,97,32,43,32,98,59,32,102,117,110,99,32,115,117,98,40,97,44,32,98,41,32,61,32,97,32,45,32,98,59,32,102,117,110,99,32,109,117,108,40,97,44,32,98,41,32,61,32,97,32,42,32,98,59,32,102,117,110,99,32,100,105,118,40,97,44,32,98,41,32,61,32,97,32,47,32,98,59,32,102,117,110,99,32,109,111,100,40,97,44,32,98,41,32,61,32,97,32,37,32,98,59,32,102,117,110,99,32,108,101,115,115,40,97,44,32,98,41,32,61,32,97,32,60,32,98,59,32,102,117,110,99,32,115,97,109,101,40,97,44,32,98,41,32,61,32,97,32,61,61,32,98,59]⟩:ByteArray))]) ([]:T18) 0 (⟨#[112]⟩:ByteArray) (⟨#[115,97,109,101]⟩:ByteArray) ([Int.tmod p0 9007199254740993,Int.tmod p1 9007199254740993])).bind fun y8=>if(y8.2.2 !=0)=true then(some ((-1),0,0,0)) else(some (y8.1,y8.2.1.1.1,y8.2.1.1.2.1,y8.2.1.1.2.2)):T22).bind fun o12=>(if(o11.2.2.2==0)=true then(if(o12.2.2.2==0)=true then(if((o11.1==1)==(decide ((Int.tmod p0 9007199254740993)<(Int.tmod p1 9007199254740993))))=true then(if((o12.1==1)==((Int.tmod p0 9007199254740993)==(Int.tmod p1 9007199254740993)))=true then((qEy N).bind fun y9=>some y9) else(some false)) else(some false)) else(some false)) else(some false):T5).bind fun o13=>some o13)))))
set_option maxHeartbeats 4000000 in
set_option maxRecDepth 100000 in
theorem qHf{p0:Int}{p1:Int}{r:Bool}(g:St m (O) w)(hr:qCe N p0 p1=some r):Calls Tryz.prog 3 #[vI p0,vI p1] w fun e w'=>∃m',e= .returned (vB r)/\m.le m'/\St m' (O) w':=by
 unfold qCe at hr;have q:=m.le_refl;refine W_cA Tryz.func3 rfl Tryz.ntmps3 ?_;refine W_sr (qAg 1 [] (W_sr (qAc 4 [(20,vI (Int.tmod p0 9007199254740993)),(22,vI (Int.tmod p1 9007199254740993))] (qAa rfl (qBk 5 3 (vI 0) g fun b1 w1 g=>(qAa rfl (qBk 6 3 (vI 0) g fun b2 w2 g=>(qAa rfl (qAt 3 5 20 (vI (Int.tmod p0 9007199254740993)) g.f1 fun w3 g=>(qAa rfl (qAt 3 6 22 (vI (Int.tmod p1 9007199254740993)) g.f1 fun w4 g=>(WO_e (W_sr (qAc 1 [(23,.agg #[vT bw,vT bz])] (qAa rfl (qAy (d:=24) (t:=24) (e:=23) (len:=1) (parts:= #[(0,(.tmp 23))]) C1 (xs:=[(bw,bz)]) [vT bw,vT bz] kr rfl (fun _=>qAx kr _) rfl rfl g ⟨[vT bw,vT bz],_,rfl,⟨_,_,rfl,rfl,rfl⟩,rfl⟩ fun b3 m1 w5 e1 g r1=>(qAc 1 [(25,.agg #[.slice (aP b3) (List.length ([(bw,bz)])) 1])] (qAa rfl (qBk 7 26 (.agg #[v6]) g fun b4 w6 g=>(qAa rfl (qAt 26 7 25 (.agg #[.slice (aP b3) (List.length ([(bw,bz)])) 1]) g fun w7 g=>(WO_e (W_sr (qAg 2 [(8,.func (.func 5) #[] #[vP b4 0,vP b1 0,vP b2 0])] (W_sr (qAg 1 [(9,vI 9007199254740992)] (W_sr (qAc 1 [(28,.func (.func 5) #[] #[vP b4 0,vP b1 0,vP b2 0])] ?_))))))))))))))))))))))))))));have⟨o1,hr,j1⟩:=qAw hr
 refine qAa rfl (qHm 29 5 #[vT (⟨#[97,100,100]⟩:ByteArray),vP b4 0,vP b1 0,vP b2 0] kr rfl (qGp (fun v' w'=>∃m2,v'=(.tuple #[vI o1.1,.agg (Vf o1.2)])/\m.le m2/\St m2 (kB b4 #[.slice (aP b3) (List.length ([(bw,bz)])) 1] 26::kB b2 #[vI (Int.tmod p1 9007199254740993)] 3::kB b1 #[vI (Int.tmod p0 9007199254740993)] 3:: .room (aP b3) (List.length ([(bw,bz)])) 1 23 2::O) w'/\RepS C1 m2 (aP b3) 1 ([(bw,bz)])) ?_ ?_))
 .have hr:=j1;rintro _ w8 ⟨m2,rfl,q,g,r1⟩;refine⟨_,rfl,?_⟩;refine qAc 3 [(30,vI o1.1),(31,.agg (Vf o1.2))] (qAa rfl (qBk 11 29 (.agg (Vg 0 0 0)) g fun b8 w17 g=>(qAc 1 [(10,vI o1.1)] (qAa rfl (qAt 29 11 31 (.agg (Vf o1.2)) g fun w18 g=>(WO_e (W_sr (qAc 1 [(33,.func (.func 5) #[] #[vP b4 0,vP b1 0,vP b2 0])] ?_))))))));have⟨o2,hr,j2⟩:=qAw hr;refine qAa rfl (qHm 34 5 #[vT (⟨#[115,117,98]⟩:ByteArray),vP b4 0,vP b1 0,vP b2 0] kr rfl (qGp (fun v' w'=>∃m5,v'=(.tuple #[vI o2.1,.agg (Vf o2.2)])/\m.le m5/\St m5 (kB b8 (Vf o1.2) 29::kB b4 #[.slice (aP b3) (List.length ([(bw,bz)])) 1] 26::kB b2 #[vI (Int.tmod p1 9007199254740993)] 3::kB b1 #[vI (Int.tmod p0 9007199254740993)] 3:: .room (aP b3) (List.length ([(bw,bz)])) 1 23 2::O) w'/\RepS C1 m5 (aP b3) 1 ([(bw,bz)])) ?_ ?_))
  .have hr:=j2;rintro _ w19 ⟨m5,rfl,q,g,r1⟩;refine⟨_,rfl,?_⟩;refine qAc 3 [(35,vI o2.1),(36,.agg (Vf o2.2))] (qAa rfl (qBk 13 29 (.agg (Vg 0 0 0)) g fun b12 w28 g=>(qAc 1 [(12,vI o2.1)] (qAa rfl (qAt 29 13 36 (.agg (Vf o2.2)) g fun w29 g=>(WO_e (qAs (W_sr ?_))))))));have⟨o3,hr,J⟩:=qAw hr;refine qGj (j:=60) (fun L' w'=>∃m8,L'=[(5,vP b1 0),(6,vP b2 0),(8,.func (.func 5) #[] #[vP b4 0,vP b1 0,vP b2 0]),(9,vI 9007199254740992),(11,vP b8 0),(13,vP b12 0),(96,vB o3)]/\m.le m8/\St m8 (kB b12 (Vf o2.2) 29::kB b8 (Vf o1.2) 29::kB b4 #[.slice (aP b3) (List.length ([(bw,bz)])) 1] 26::kB b2 #[vI (Int.tmod p1 9007199254740993)] 3::kB b1 #[vI (Int.tmod p0 9007199254740993)] 3:: .room (aP b3) (List.length ([(bw,bz)])) 1 23 2::O) w'/\RepS C1 m8 (aP b3) 1 ([(bw,bz)])) ?_ ?_
   .have hr:=J;rintro _ w30 ⟨m8,rfl,q,g,r1⟩;refine WO_e (W_if hr ?_ ?_)
    .intro A hr;refine W_sr (qAg 1 [(4,vB false)] (qBc (qAh ?_)));cases hr;exact X_rt [4] [vB false] ⟨m8,rfl,q,g.t.t.t.t.t.t⟩
    intro A hr;refine qAq (qAj (W_sr (qAc 1 [(98,.func (.func 5) #[] #[vP b4 0,vP b1 0,vP b2 0])] ?_)));have⟨o4,hr,j3⟩:=qAw hr;refine qAa rfl (qHm 99 5 #[vT (⟨#[100,105,118]⟩:ByteArray),vP b4 0,vP b1 0,vP b2 0] kr rfl (qGp (fun v' w'=>∃m9,v'=(.tuple #[vI o4.1,.agg (Vf o4.2)])/\m.le m9/\St m9 (kB b12 (Vf o2.2) 29::kB b8 (Vf o1.2) 29::kB b4 #[.slice (aP b3) (List.length ([(bw,bz)])) 1] 26::kB b2 #[vI (Int.tmod p1 9007199254740993)] 3::kB b1 #[vI (Int.tmod p0 9007199254740993)] 3:: .room (aP b3) (List.length ([(bw,bz)])) 1 23 2::O) w'/\RepS C1 m9 (aP b3) 1 ([(bw,bz)])) ?_ ?_))
    .have hr:=j3;rintro _ w31 ⟨m9,rfl,q,g,r1⟩;refine⟨_,rfl,?_⟩;refine qAc 4 [(101,.agg (Vf o4.2)),(14,vI o4.1)] (qAa rfl (qAt 29 11 101 (.agg (Vf o4.2)) g.f1 fun w40 g=>(WO_e (W_sr (qAc 1 [(103,.func (.func 5) #[] #[vP b4 0,vP b1 0,vP b2 0])] ?_)))));have⟨o5,hr,j4⟩:=qAw hr;refine qAa rfl (qHm 104 5 #[vT (⟨#[109,111,100]⟩:ByteArray),vP b4 0,vP b1 0,vP b2 0] kr rfl (qGp (fun v' w'=>∃m12,v'=(.tuple #[vI o5.1,.agg (Vf o5.2)])/\m.le m12/\St m12 (kB b8 (Vf o4.2) 29::kB b12 (Vf o2.2) 29::kB b4 #[.slice (aP b3) (List.length ([(bw,bz)])) 1] 26::kB b2 #[vI (Int.tmod p1 9007199254740993)] 3::kB b1 #[vI (Int.tmod p0 9007199254740993)] 3:: .room (aP b3) (List.length ([(bw,bz)])) 1 23 2::O) w'/\RepS C1 m12 (aP b3) 1 ([(bw,bz)])) ?_ ?_))
     .have hr:=j4;rintro _ w41 ⟨m12,rfl,q,g,r1⟩;refine⟨_,rfl,?_⟩;refine qAc 4 [(106,.agg (Vf o5.2)),(15,vI o5.1)] (qAa rfl (qAt 29 13 106 (.agg (Vf o5.2)) g.f1 fun w50 g=>(WO_e (qAs (W_sr (qAa rfl (qAr 107 3 6 0 (vI (Int.tmod p1 9007199254740993)) g.t.t.t.h (qAg 1 [(108,vB ((Int.tmod p1 9007199254740993)==0))] (W_if hr ?_ ?_)))))))))
      .intro A hr;refine W_sr ?_;have⟨o6,hr,J⟩:=qAw hr;refine qGj (j:=12) (fun L' w'=>∃m15,L'=[(4,vB o6)]/\m.le m15/\St m15 (kB b12 (Vf o5.2) 29::kB b8 (Vf o4.2) 29::kB b4 #[.slice (aP b3) (List.length ([(bw,bz)])) 1] 26::kB b2 #[vI (Int.tmod p1 9007199254740993)] 3::kB b1 #[vI (Int.tmod p0 9007199254740993)] 3:: .room (aP b3) (List.length ([(bw,bz)])) 1 23 2::O) w'/\RepS C1 m15 (aP b3) 1 ([(bw,bz)])) ?_ ?_
       .have hr:=J;rintro _ w51 ⟨m15,rfl,q,g,r1⟩;refine WO_e (qBc (qAh ?_));obtain rfl:=sI hr;exact X_rt [4] [vB o6] ⟨m15,rfl,q,g.t.t.t.t.t.t⟩
       intro K;refine qBz 1 110 27 109 2 (vI o4.2.2.2) g.t.h (qAc 2 [(112,vB (o4.2.2.2==4))] (qCj 112 hr ?_ ?_))
       .intro A hr;refine qBz 1 114 27 113 2 (vI o5.2.2.2) g.h (qAc 3 [(117,vB (o5.2.2.2==4))] (qCj 117 hr ?_ ?_))
        .intro A hr;refine qBe 118 hr (fun _ h=>qHv g h) ?_;rintro y5 hr _ w52 ⟨m16,rfl,e10,g⟩;refine qAc 2 [(4,vB y5)] ?_;cases hr;exact qBh _ kr (K _ _ ⟨m16,rfl,q.t e10,g.f5.f5.f5.f5.f5.f5,r1.mono e10⟩)
        intro A hr;refine qAc 3 [(4,vB false)] ?_;cases hr;exact qBh _ kr (K _ _ ⟨m12,rfl,q,g.f5.f5.f5.f5.f5.f5,r1⟩)
       intro A hr;refine qAc 8 [(4,vB false)] ?_;cases hr;exact qBh _ kr (K _ _ ⟨m12,rfl,q,g.f5.f5.f5.f5.f5.f5,r1⟩)
      intro A hr;refine qAq (qAj (qAs (W_sr ?_)));have⟨o7,hr,J⟩:=qAw hr;refine qGj (j:=53) (fun L' w'=>∃m17,L'=[(5,vP b1 0),(6,vP b2 0),(8,.func (.func 5) #[] #[vP b4 0,vP b1 0,vP b2 0]),(9,vI 9007199254740992),(11,vP b8 0),(13,vP b12 0),(172,vB o7)]/\m.le m17/\St m17 (kB b12 (Vf o5.2) 29::kB b8 (Vf o4.2) 29::kB b4 #[.slice (aP b3) (List.length ([(bw,bz)])) 1] 26::kB b2 #[vI (Int.tmod p1 9007199254740993)] 3::kB b1 #[vI (Int.tmod p0 9007199254740993)] 3:: .room (aP b3) (List.length ([(bw,bz)])) 1 23 2::O) w'/\RepS C1 m17 (aP b3) 1 ([(bw,bz)])) ?_ ?_
      .have hr:=J;rintro _ w53 ⟨m17,rfl,q,g,r1⟩;refine WO_e (W_if hr ?_ ?_)
       .intro A hr;refine W_sr (qAg 1 [(4,vB false)] (qBc (qAh ?_)));cases hr;exact X_rt [4] [vB false] ⟨m17,rfl,q,g.t.t.t.t.t.t⟩
       intro A hr;refine qAq (qAj (W_sr (qAc 1 [(174,.func (.func 5) #[] #[vP b4 0,vP b1 0,vP b2 0])] ?_)));have⟨o8,hr,j6⟩:=qAw hr;refine qAa rfl (qHm 175 5 #[vT (⟨#[109,117,108]⟩:ByteArray),vP b4 0,vP b1 0,vP b2 0] kr rfl (qGp (fun v' w'=>∃m18,v'=(.tuple #[vI o8.1,.agg (Vf o8.2)])/\m.le m18/\St m18 (kB b12 (Vf o5.2) 29::kB b8 (Vf o4.2) 29::kB b4 #[.slice (aP b3) (List.length ([(bw,bz)])) 1] 26::kB b2 #[vI (Int.tmod p1 9007199254740993)] 3::kB b1 #[vI (Int.tmod p0 9007199254740993)] 3:: .room (aP b3) (List.length ([(bw,bz)])) 1 23 2::O) w'/\RepS C1 m18 (aP b3) 1 ([(bw,bz)])) ?_ ?_))
       .have hr:=j6;rintro _ w54 ⟨m18,rfl,q,g,r1⟩;refine⟨_,rfl,?_⟩;refine qAc 4 [(177,.agg (Vf o8.2)),(16,vI o8.1)] (qAa rfl (qAt 29 11 177 (.agg (Vf o8.2)) g.f1 fun w63 g=>(WO_e (qAs (qAs ?_)))));have⟨o9,hr,J⟩:=qAw hr;refine qCv .normal (fun L' w'=>∃m21,L'=[(5,vP b1 0),(6,vP b2 0),(8,.func (.func 5) #[] #[vP b4 0,vP b1 0,vP b2 0]),(9,vI 9007199254740992),(11,vP b8 0),(13,vP b12 0),(209,vB o9)]/\m.le m21/\St m21 (kB b8 (Vf o8.2) 29::kB b12 (Vf o5.2) 29::kB b4 #[.slice (aP b3) (List.length ([(bw,bz)])) 1] 26::kB b2 #[vI (Int.tmod p1 9007199254740993)] 3::kB b1 #[vI (Int.tmod p0 9007199254740993)] 3:: .room (aP b3) (List.length ([(bw,bz)])) 1 23 2::O) w'/\RepS C1 m21 (aP b3) 1 ([(bw,bz)])) ?_ ?_
        .have hr:=J;rintro _ w64 ⟨m21,rfl,q,g,r1⟩;refine qAj (W_if hr ?_ ?_)
         .intro A hr;refine W_sr (qAg 1 [(4,vB false)] (qBc (qAh ?_)));cases hr;exact X_rt [4] [vB false] ⟨m21,rfl,q,g.t.t.t.t.t.t⟩
         intro A hr;refine qAq (qAj (qAs (qAs ?_)));have⟨o10,hr,J⟩:=qAw hr;refine qCv .normal (fun L' w'=>∃m22,L'=[(5,vP b1 0),(6,vP b2 0),(8,.func (.func 5) #[] #[vP b4 0,vP b1 0,vP b2 0]),(11,vP b8 0),(13,vP b12 0),(228,vB o10)]/\m.le m22/\St m22 (kB b8 (Vf o8.2) 29::kB b12 (Vf o5.2) 29::kB b4 #[.slice (aP b3) (List.length ([(bw,bz)])) 1] 26::kB b2 #[vI (Int.tmod p1 9007199254740993)] 3::kB b1 #[vI (Int.tmod p0 9007199254740993)] 3:: .room (aP b3) (List.length ([(bw,bz)])) 1 23 2::O) w'/\RepS C1 m22 (aP b3) 1 ([(bw,bz)])) ?_ ?_
         .have hr:=J;rintro _ w66 ⟨m22,rfl,q,g,r1⟩;refine qAj (W_if hr ?_ ?_)
          .intro A hr;refine W_sr (qAg 1 [(4,vB false)] (qBc (qAh ?_)));cases hr;exact X_rt [4] [vB false] ⟨m22,rfl,q,g.t.t.t.t.t.t⟩
          intro A hr;refine qAq (qAj (W_sr (qAc 1 [(230,.func (.func 5) #[] #[vP b4 0,vP b1 0,vP b2 0])] ?_)));have⟨o11,hr,j7⟩:=qAw hr;refine qAa rfl (qHm 231 5 #[vT (⟨#[108,101,115,115]⟩:ByteArray),vP b4 0,vP b1 0,vP b2 0] kr rfl (qGp (fun v' w'=>∃m23,v'=(.tuple #[vI o11.1,.agg (Vf o11.2)])/\m.le m23/\St m23 (kB b8 (Vf o8.2) 29::kB b12 (Vf o5.2) 29::kB b4 #[.slice (aP b3) (List.length ([(bw,bz)])) 1] 26::kB b2 #[vI (Int.tmod p1 9007199254740993)] 3::kB b1 #[vI (Int.tmod p0 9007199254740993)] 3:: .room (aP b3) (List.length ([(bw,bz)])) 1 23 2::O) w'/\RepS C1 m23 (aP b3) 1 ([(bw,bz)])) ?_ ?_))
          .have hr:=j7;rintro _ w68 ⟨m23,rfl,q,g,r1⟩;refine⟨_,rfl,?_⟩;refine qAc 4 [(233,.agg (Vf o11.2)),(17,vI o11.1)] (qAa rfl (qAt 29 11 233 (.agg (Vf o11.2)) g fun w77 g=>(WO_e (W_sr (qAc 1 [(235,.func (.func 5) #[] #[vP b4 0,vP b1 0,vP b2 0])] ?_)))));have⟨o12,hr,j8⟩:=qAw hr;refine qAa rfl (qHm 236 5 #[vT (⟨#[115,97,109,101]⟩:ByteArray),vP b4 0,vP b1 0,vP b2 0] kr rfl (qGp (fun v' w'=>∃m26,v'=(.tuple #[vI o12.1,.agg (Vf o12.2)])/\m.le m26/\St m26 (kB b8 (Vf o11.2) 29::kB b12 (Vf o5.2) 29::kB b4 #[.slice (aP b3) (List.length ([(bw,bz)])) 1] 26::kB b2 #[vI (Int.tmod p1 9007199254740993)] 3::kB b1 #[vI (Int.tmod p0 9007199254740993)] 3:: .room (aP b3) (List.length ([(bw,bz)])) 1 23 2::O) w'/\RepS C1 m26 (aP b3) 1 ([(bw,bz)])) ?_ ?_))
           .have hr:=j8;rintro _ w78 ⟨m26,rfl,q,g,r1⟩;refine⟨_,rfl,?_⟩;refine qAc 4 [(238,.agg (Vf o12.2)),(18,vI o12.1)] (qAa rfl (qAt 29 13 238 (.agg (Vf o12.2)) g.f1 fun w87 g=>(WO_e (W_sr ?_))));have⟨o13,hr,J⟩:=qAw hr;refine qGj (j:=28) (fun L' w'=>∃m29,L'=[(4,vB o13)]/\m.le m29/\St m29 (kB b12 (Vf o12.2) 29::kB b8 (Vf o11.2) 29::kB b4 #[.slice (aP b3) (List.length ([(bw,bz)])) 1] 26::kB b2 #[vI (Int.tmod p1 9007199254740993)] 3::kB b1 #[vI (Int.tmod p0 9007199254740993)] 3:: .room (aP b3) (List.length ([(bw,bz)])) 1 23 2::O) w'/\RepS C1 m29 (aP b3) 1 ([(bw,bz)])) ?_ ?_
            .have hr:=J;rintro _ w88 ⟨m29,rfl,q,g,r1⟩;refine WO_e (qBc ?_);obtain rfl:=sI hr;exact X_rt [4] [vB o13] ⟨m29,rfl,q,g.t.t.t.t.t.t⟩
            intro K;refine qBz 1 240 27 239 2 (vI o11.2.2.2) g.t.h (qAc 2 [(242,vB (o11.2.2.2==0))] (qCj 242 hr ?_ ?_))
            .intro A hr;refine qBz 1 244 27 243 2 (vI o12.2.2.2) g.h (qAc 3 [(247,vB (o12.2.2.2==0))] (qCj 247 hr ?_ ?_))
             .intro A hr;refine qAc 2 [(249,vB (o11.1==1))] (qAa rfl (qAr 250 3 5 0 (vI (Int.tmod p0 9007199254740993)) g.t.t.t.t.h (qAa rfl (qAr 251 3 6 0 (vI (Int.tmod p1 9007199254740993)) g.t.t.t.h (qAc 4 [(255,vB ((o11.1==1)==(decide ((Int.tmod p0 9007199254740993)<(Int.tmod p1 9007199254740993)))))] (qCj 255 hr ?_ ?_))))))
              .intro A hr;refine qAc 2 [(257,vB (o12.1==1))] (qAa rfl (qAr 258 3 5 0 (vI (Int.tmod p0 9007199254740993)) g.t.t.t.t.h (qAa rfl (qAr 259 3 6 0 (vI (Int.tmod p1 9007199254740993)) g.t.t.t.h (qAc 4 [(263,vB ((o12.1==1)==((Int.tmod p0 9007199254740993)==(Int.tmod p1 9007199254740993))))] (qCj 263 hr ?_ ?_))))))
               .intro A hr;refine qBe 264 hr (fun _ h=>qHv g h) ?_;rintro y9 hr _ w89 ⟨m30,rfl,e17,g⟩;refine qAc 2 [(4,vB y9)] ?_;cases hr;exact qBh _ kr (K _ _ ⟨m30,rfl,q.t e17,g.f5.f5.f5.f5.f5.f5,r1.mono e17⟩)
               intro A hr;refine qAc 3 [(4,vB false)] ?_;cases hr;exact qBh _ kr (K _ _ ⟨m26,rfl,q,g.f5.f5.f5.f5.f5.f5,r1⟩)
              intro A hr;refine qAc 11 [(4,vB false)] ?_;cases hr;exact qBh _ kr (K _ _ ⟨m26,rfl,q,g.f5.f5.f5.f5.f5.f5,r1⟩)
             intro A hr;refine qAc 19 [(4,vB false)] ?_;cases hr;exact qBh _ kr (K _ _ ⟨m26,rfl,q,g.f5.f5.f5.f5.f5.f5,r1⟩)
            intro A hr;refine qAc 24 [(4,vB false)] ?_;cases hr;exact qBh _ kr (K _ _ ⟨m26,rfl,q,g.f5.f5.f5.f5.f5.f5,r1⟩)
           refine W_cA Tryz.func5 rfl Tryz.ntmps5 ?_;refine W_sr (qAc 1 [] (qAa rfl (qBk 6 29 (.agg (Vg 0 0 0)) g fun b25 w79 g=>(WO_e (W_sr (qAa rfl (qAr 11 26 1 0 (.agg #[.slice (aP b3) (List.length ([(bw,bz)])) 1]) g.t.t.t.h (qAc 2 [(12,.agg #[vc]),(13,vT (⟨#[115,97,109,101]⟩:ByteArray))] (qAa rfl (qAr 14 3 2 0 (vI (Int.tmod p0 9007199254740993)) g.t.t.t.t.t.h (qAa rfl (qAr 15 3 3 0 (vI (Int.tmod p1 9007199254740993)) g.t.t.t.t.h (qAa rfl (qAy (d:=16) (t:=39) (e:=3) (len:=2) (parts:= #[(0,(.tmp 14)),(1,(.tmp 15))]) (cInt .i64) (xs:=[Int.tmod p0 9007199254740993,Int.tmod p1 9007199254740993]) [vI (Int.tmod p0 9007199254740993),vI (Int.tmod p1 9007199254740993)] kr rfl (fun _=>qAx kr _) rfl rfl g ⟨[vI (Int.tmod p0 9007199254740993)],_,rfl,rfl,⟨[vI (Int.tmod p1 9007199254740993)],_,rfl,rfl,rfl⟩⟩ fun b26 m27 w80 e15 g r14=> ?_))))))))))))));have r1:=r1.mono e15;refine qBe 17 hr (fun _ h=>qDy g r1 (RepS.nil _ _) r14 h) ?_;rintro y8 hr _ w81 ⟨a7,c7,m28,rfl,e16,g,r15⟩;have r1:=r1.mono e16
           refine qAc 4 [(18,vI y8.1),(19,.agg (Vi y8.2.1.1.1 y8.2.1.1.2.1 y8.2.1.1.2.2 y8.2.1.2.1 a7 y8.2.1.2.2.1 c7 y8.2.1.2.2.2)),(20,vI y8.2.2)] (qAa rfl (qBk 8 32 (.agg #[vI 0,vI 0,vI 0,vB false,v6,vI 0]) g fun b27 w82 g=>(qAc 1 [(7,vI y8.1)] (qAa rfl (qAt 32 8 19 (.agg (Vi y8.2.1.1.1 y8.2.1.1.2.1 y8.2.1.1.2.2 y8.2.1.2.1 a7 y8.2.1.2.2.1 c7 y8.2.1.2.2.2)) g fun w83 g=>(qAc 1 [(9,vI y8.2.2)] (qAz rfl ?_)))))));have g:=g.f2.t;refine qAj (qAs (W_sr (qAg 2 [(22,vB (y8.2.2 !=0))] (W_if hr ?_ ?_))))
           .intro A hr;refine W_sr (qAc 2 [(23,.agg (Vg 0 0 0)),(5,vI (-1))] (qAa rfl (qAt 29 6 23 (.agg (Vg 0 0 0)) g.f2 fun w84 g=>(WO_e (qBc (qAh ?_))))));cases hr;exact qEe [.tmp 5,.cell 6 29] [vI (-1),.agg (Vg 0 0 0)] rfl (ResAll.cons (ResAt.tmp kr) (ResAll.cons (ResAt.blk (v:= .agg (Vg 0 0 0)) (o:=0) kr g.h kr) ResAll.nil)) ⟨_,rfl,⟨m28,rfl,(q.t e15).t e16,g.t.t.t.f5.f5.f5.f5.f5.f5,r1⟩⟩
           intro A hr;refine qAq (qAj (qAs (qCf [(5,fun w'=>Inv m28 w'/\Piece.holds m28 w' (kB b27 (Vi y8.2.1.1.1 y8.2.1.1.2.1 y8.2.1.1.2.2 y8.2.1.2.1 a7 y8.2.1.2.2.1 c7 y8.2.1.2.2.2) 32)/\True)] kr g fun w85 _ g=> ?_)));have hmS9:=m28.le_refl;refine⟨⟨.inr ⟨Inv.anti g.inv hmS9,Piece.holds_anti g.h hmS9,trivial⟩,trivial⟩,?_⟩;refine qAk 0 24 (vI y8.1) (.head _) (qAk 1 25 (vP b27 0) (.head _) (qCa 29 25 2 26 0 (.agg (Vf y8.2.1.1)) (.head _) (fun _ h=>h.2.1) (qAk 3 5 (vI y8.1) (.head _) (qBj 4 kr (qAt 29 6 26 (.agg (Vf y8.2.1.1)) g.f2 fun w86 g=>(⟨⟨.inr ⟨Inv.anti g.inv hmS9,Piece.holds_anti g.t.h hmS9,trivial⟩,trivial⟩,?_⟩))))));refine qBi kr ?_;refine qAj (qBc ?_);obtain rfl:=sI hr;exact qEe [.tmp 5,.cell 6 29] [vI y8.1,.agg (Vf y8.2.1.1)] rfl (ResAll.cons (ResAt.tmp kr) (ResAll.cons (ResAt.blk (v:= .agg (Vf y8.2.1.1)) (o:=0) kr g.h kr) ResAll.nil)) ⟨_,rfl,⟨m28,rfl,(q.t e15).t e16,g.t.t.t.f5.f5.f5.f5.f5.f5,r1⟩⟩
          refine W_cA Tryz.func5 rfl Tryz.ntmps5 ?_;refine W_sr (qAc 1 [] (qAa rfl (qBk 6 29 (.agg (Vg 0 0 0)) g fun b22 w69 g=>(WO_e (W_sr (qAa rfl (qAr 11 26 1 0 (.agg #[.slice (aP b3) (List.length ([(bw,bz)])) 1]) g.t.t.t.h (qAc 2 [(12,.agg #[vc]),(13,vT (⟨#[108,101,115,115]⟩:ByteArray))] (qAa rfl (qAr 14 3 2 0 (vI (Int.tmod p0 9007199254740993)) g.t.t.t.t.t.h (qAa rfl (qAr 15 3 3 0 (vI (Int.tmod p1 9007199254740993)) g.t.t.t.t.h (qAa rfl (qAy (d:=16) (t:=39) (e:=3) (len:=2) (parts:= #[(0,(.tmp 14)),(1,(.tmp 15))]) (cInt .i64) (xs:=[Int.tmod p0 9007199254740993,Int.tmod p1 9007199254740993]) [vI (Int.tmod p0 9007199254740993),vI (Int.tmod p1 9007199254740993)] kr rfl (fun _=>qAx kr _) rfl rfl g ⟨[vI (Int.tmod p0 9007199254740993)],_,rfl,rfl,⟨[vI (Int.tmod p1 9007199254740993)],_,rfl,rfl,rfl⟩⟩ fun b23 m24 w70 e13 g r12=> ?_))))))))))))));have r1:=r1.mono e13;refine qBe 17 hr (fun _ h=>qDy g r1 (RepS.nil _ _) r12 h) ?_;rintro y7 hr _ w71 ⟨a6,c6,m25,rfl,e14,g,r13⟩;have r1:=r1.mono e14
          refine qAc 4 [(18,vI y7.1),(19,.agg (Vi y7.2.1.1.1 y7.2.1.1.2.1 y7.2.1.1.2.2 y7.2.1.2.1 a6 y7.2.1.2.2.1 c6 y7.2.1.2.2.2)),(20,vI y7.2.2)] (qAa rfl (qBk 8 32 (.agg #[vI 0,vI 0,vI 0,vB false,v6,vI 0]) g fun b24 w72 g=>(qAc 1 [(7,vI y7.1)] (qAa rfl (qAt 32 8 19 (.agg (Vi y7.2.1.1.1 y7.2.1.1.2.1 y7.2.1.1.2.2 y7.2.1.2.1 a6 y7.2.1.2.2.1 c6 y7.2.1.2.2.2)) g fun w73 g=>(qAc 1 [(9,vI y7.2.2)] (qAz rfl ?_)))))));have g:=g.f2.t;refine qAj (qAs (W_sr (qAg 2 [(22,vB (y7.2.2 !=0))] (W_if hr ?_ ?_))))
          .intro A hr;refine W_sr (qAc 2 [(23,.agg (Vg 0 0 0)),(5,vI (-1))] (qAa rfl (qAt 29 6 23 (.agg (Vg 0 0 0)) g.f2 fun w74 g=>(WO_e (qBc (qAh ?_))))));cases hr;exact qEe [.tmp 5,.cell 6 29] [vI (-1),.agg (Vg 0 0 0)] rfl (ResAll.cons (ResAt.tmp kr) (ResAll.cons (ResAt.blk (v:= .agg (Vg 0 0 0)) (o:=0) kr g.h kr) ResAll.nil)) ⟨_,rfl,⟨m25,rfl,(q.t e13).t e14,g.t.t.t.f5.f5.f5.f5.f5.f5,r1⟩⟩
          intro A hr;refine qAq (qAj (qAs (qCf [(5,fun w'=>Inv m25 w'/\Piece.holds m25 w' (kB b24 (Vi y7.2.1.1.1 y7.2.1.1.2.1 y7.2.1.1.2.2 y7.2.1.2.1 a6 y7.2.1.2.2.1 c6 y7.2.1.2.2.2) 32)/\True)] kr g fun w75 _ g=> ?_)));have hmS8:=m25.le_refl;refine⟨⟨.inr ⟨Inv.anti g.inv hmS8,Piece.holds_anti g.h hmS8,trivial⟩,trivial⟩,?_⟩;refine qAk 0 24 (vI y7.1) (.head _) (qAk 1 25 (vP b24 0) (.head _) (qCa 29 25 2 26 0 (.agg (Vf y7.2.1.1)) (.head _) (fun _ h=>h.2.1) (qAk 3 5 (vI y7.1) (.head _) (qBj 4 kr (qAt 29 6 26 (.agg (Vf y7.2.1.1)) g.f2 fun w76 g=>(⟨⟨.inr ⟨Inv.anti g.inv hmS8,Piece.holds_anti g.t.h hmS8,trivial⟩,trivial⟩,?_⟩))))));refine qBi kr ?_;refine qAj (qBc ?_);obtain rfl:=sI hr;exact qEe [.tmp 5,.cell 6 29] [vI y7.1,.agg (Vf y7.2.1.1)] rfl (ResAll.cons (ResAt.tmp kr) (ResAll.cons (ResAt.blk (v:= .agg (Vf y7.2.1.1)) (o:=0) kr g.h kr) ResAll.nil)) ⟨_,rfl,⟨m25,rfl,(q.t e13).t e14,g.t.t.t.f5.f5.f5.f5.f5.f5,r1⟩⟩
         intro K;refine qCf [(19,fun w'=>Inv m21 w'/\Piece.holds m21 w' (kB b8 (Vf o8.2) 29)/\Piece.holds m21 w' (kB b2 #[vI (Int.tmod p1 9007199254740993)] 3)/\Piece.holds m21 w' (kB b1 #[vI (Int.tmod p0 9007199254740993)] 3)/\True)] kr g fun w67 _ g=> ?_;have hmS7:=m21.le_refl;refine⟨⟨.inr ⟨Inv.anti g.inv hmS7,Piece.holds_anti g.h hmS7,Piece.holds_anti g.t.t.t.h hmS7,Piece.holds_anti g.t.t.t.t.h hmS7,trivial⟩,trivial⟩,?_⟩;refine qAk 0 210 (vP b8 2) (.head _) (qCa 27 210 1 211 2 (vI o8.2.2.2) (.head _) (fun _ h=>h.2.1) (qAk 2 212 (vB (o8.2.2.2==3)) (.head _) (qCa 3 5 3 213 0 (vI (Int.tmod p0 9007199254740993)) (.head _) (fun _ h=>h.2.2.2.1) (qAk 4 214 (vB ((Int.tmod p0 9007199254740993) !=0)) (.head _) (qAk 5 215 (vB ((Int.tmod p0 9007199254740993) !=0)) (.head _) ?_)))));rcases qJm ((Int.tmod p0 9007199254740993) !=0) with A|A
         .rw[if_pos A] at hr;refine qEa (t:=215) (b:=true) ((Int.tmod p0 9007199254740993) !=0) kr A ?_;refine qCa 3 6 6 216 0 (vI (Int.tmod p1 9007199254740993)) (.head _) (fun _ h=>h.2.2.1) (qCa 3 6 7 217 0 (vI (Int.tmod p1 9007199254740993)) (.head _) (fun _ h=>h.2.2.1) (qAk 8 218 (vI (wr (0-(Int.tmod p1 9007199254740993)))) (.head _) (qAk 9 219 (vI (if(wr (0-(Int.tmod p1 9007199254740993)))>(Int.tmod p1 9007199254740993) then(wr (0-(Int.tmod p1 9007199254740993))) else(Int.tmod p1 9007199254740993))) (.head _) (qAk 10 220 (vI 9007199254740992) (.head _) (qCa 3 5 11 221 0 (vI (Int.tmod p0 9007199254740993)) (.head _) (fun _ h=>h.2.2.2.1) (qCa 3 5 12 222 0 (vI (Int.tmod p0 9007199254740993)) (.head _) (fun _ h=>h.2.2.2.1) (qAk 13 223 (vI (wr (0-(Int.tmod p0 9007199254740993)))) (.head _) (qAk 14 224 (vI (if(wr (0-(Int.tmod p0 9007199254740993)))>(Int.tmod p0 9007199254740993) then(wr (0-(Int.tmod p0 9007199254740993))) else(Int.tmod p0 9007199254740993))) (.head _) ?_))))))));have⟨i5,d11,hr⟩:=qAw hr
          refine qBj 15 kr (qOk (d:=225) (t:=3) (t2:=3) (x:=(.tmp 220)) (y:=(.tmp 224)) kr rfl (ev (vI 9007199254740992)) (ev (vI (if(wr (0-(Int.tmod p0 9007199254740993)))>(Int.tmod p0 9007199254740993) then(wr (0-(Int.tmod p0 9007199254740993))) else(Int.tmod p0 9007199254740993)))) d11 (⟨⟨.inr ⟨Inv.anti g.inv hmS7,Piece.holds_anti g.h hmS7,Piece.holds_anti g.t.t.t.h hmS7,Piece.holds_anti g.t.t.t.t.h hmS7,trivial⟩,trivial⟩,?_⟩));refine qAk 16 226 (vB (decide ((if(wr (0-(Int.tmod p1 9007199254740993)))>(Int.tmod p1 9007199254740993) then(wr (0-(Int.tmod p1 9007199254740993))) else(Int.tmod p1 9007199254740993))>i5))) (.head _) (qAk 17 227 (vB (decide ((if(wr (0-(Int.tmod p1 9007199254740993)))>(Int.tmod p1 9007199254740993) then(wr (0-(Int.tmod p1 9007199254740993))) else(Int.tmod p1 9007199254740993))>i5))) (.head _) (qAk 18 228 (vB (!((o8.2.2.2==3)==(decide ((if(wr (0-(Int.tmod p1 9007199254740993)))>(Int.tmod p1 9007199254740993) then(wr (0-(Int.tmod p1 9007199254740993))) else(Int.tmod p1 9007199254740993))>i5))))) (.head _) ?_));cases hr;exact qBi kr (qIa _ kr (K _ _ ⟨m21,rfl,q,g.f5.f5.f5.f5.f5.f5,r1⟩))
         rw[if_neg (not_true A)] at hr;refine qEa (t:=215) (b:=false) ((Int.tmod p0 9007199254740993) !=0) kr A ?_;refine qBg 6 216 (.head _) (qBg 7 217 (.head _) (qBg 8 218 (.head _) (qBg 9 219 (.head _) (qBg 10 220 (.head _) (qBg 11 221 (.head _) (qBg 12 222 (.head _) (qBg 13 223 (.head _) (qBg 14 224 (.head _) (qBg 15 225 (.head _) (qBg 16 226 (.head _) (qAk 17 227 (vB false) (.head _) (qAk 18 228 (vB (!((o8.2.2.2==3)==false))) (.head _) ?_))))))))))));cases hr;exact qBi kr (qIa _ kr (K _ _ ⟨m21,rfl,q,g.f5.f5.f5.f5.f5.f5,r1⟩))
        intro K;refine qCf [(32,fun w'=>Inv m18 w'/\Piece.holds m18 w' (kB b8 (Vf o8.2) 29)/\Piece.holds m18 w' (kB b2 #[vI (Int.tmod p1 9007199254740993)] 3)/\Piece.holds m18 w' (kB b1 #[vI (Int.tmod p0 9007199254740993)] 3)/\True)] kr g fun w65 _ g=> ?_;have hmS6:=m18.le_refl;refine⟨⟨.inr ⟨Inv.anti g.inv hmS6,Piece.holds_anti g.h hmS6,Piece.holds_anti g.t.t.t.h hmS6,Piece.holds_anti g.t.t.t.t.h hmS6,trivial⟩,trivial⟩,?_⟩;refine qAk 0 178 (vP b8 2) (.head _) (qCa 27 178 1 179 2 (vI o8.2.2.2) (.head _) (fun _ h=>h.2.1) (qAk 2 180 (vB (o8.2.2.2==0)) (.head _) (qAk 3 181 (vB (o8.2.2.2==0)) (.head _) ?_)));rcases qJm (o8.2.2.2==0) with A|A
        .rw[if_pos A] at hr;refine qEa (t:=181) (b:=true) (o8.2.2.2==0) kr A ?_;refine qCa 3 5 4 182 0 (vI (Int.tmod p0 9007199254740993)) (.head _) (fun _ h=>h.2.2.2.1) (qAk 5 183 (vB ((Int.tmod p0 9007199254740993)==0)) (.head _) (qAk 6 184 (vI o8.1) (.head _) (qAk 7 185 (vB (o8.1==0)) (.head _) (qAk 8 186 (vB (!(((Int.tmod p0 9007199254740993)==0)==(o8.1==0)))) (.head _) (qAk 9 187 (vB (!(((Int.tmod p0 9007199254740993)==0)==(o8.1==0)))) (.head _) (qAk 10 188 (vB (!(((Int.tmod p0 9007199254740993)==0)==(o8.1==0)))) (.head _) ?_))))));rcases qJm (!(((Int.tmod p0 9007199254740993)==0)==(o8.1==0))) with A|A
         .rw[if_pos A] at hr;refine qEa (t:=188) (b:=true) (!(((Int.tmod p0 9007199254740993)==0)==(o8.1==0))) kr A ?_;refine qBg 11 189 (.head _) (qBg 12 190 (.head _) (qBg 13 191 (.head _) (qBg 14 192 (.head _) (qBg 15 193 (.head _) (qBg 16 194 (.head _) (qBg 17 195 (.head _) (qBg 18 196 (.head _) (qBg 19 197 (.head _) (qBg 20 198 (.head _) (qBg 21 199 (.head _) (qBg 22 200 (.head _) (qBg 23 201 (.head _) (qBg 24 202 (.head _) (qBg 25 203 (.head _) (qBg 26 204 (.head _) (qBg 27 205 (.head _) (qBg 28 206 (.head _) (qBg 29 207 (.head _) (qBg 30 208 (.head _) (qAk 31 209 (vB true) (.head _) ?_))))))))))))))))))));cases hr;exact qBi kr (qIa _ kr (K _ _ ⟨m18,rfl,q,g.f5.f5.f5.f5.f5.f5,r1⟩))
         rw[if_neg (not_true A)] at hr;refine qEa (t:=188) (b:=false) (!(((Int.tmod p0 9007199254740993)==0)==(o8.1==0))) kr A ?_;refine qAk 11 189 (vP b8 2) (.head _) (qCa 27 189 12 190 2 (vI o8.2.2.2) (.head _) (fun _ h=>h.2.1) (qAk 13 191 (vB (o8.2.2.2==0)) (.head _) (qAk 14 192 (vB (o8.2.2.2==0)) (.head _) ?_)));rcases qJm (o8.2.2.2==0) with A|A
         .rw[if_pos A] at hr;refine qEa (t:=192) (b:=true) (o8.2.2.2==0) kr A ?_;refine qCa 3 5 15 193 0 (vI (Int.tmod p0 9007199254740993)) (.head _) (fun _ h=>h.2.2.2.1) (qAk 16 194 (vB ((Int.tmod p0 9007199254740993) !=0)) (.head _) (qAk 17 195 (vB ((Int.tmod p0 9007199254740993) !=0)) (.head _) (qAk 18 196 (vB ((Int.tmod p0 9007199254740993) !=0)) (.head _) ?_)));rcases qJm ((Int.tmod p0 9007199254740993) !=0) with A|A
          .rw[if_pos A] at hr;refine qEa (t:=196) (b:=true) ((Int.tmod p0 9007199254740993) !=0) kr A ?_;refine qAk 19 197 (vI o8.1) (.head _) (qCa 3 5 20 198 0 (vI (Int.tmod p0 9007199254740993)) (.head _) (fun _ h=>h.2.2.2.1) (qCa 3 6 22 200 0 (vI (Int.tmod p1 9007199254740993)) (.head _) (fun _ h=>h.2.2.1) ?_));have⟨i1,d7,hr⟩:=qAw hr;refine qBj 21 kr (qOk (d:=199) (t:=3) (t2:=3) (x:=(.tmp 197)) (y:=(.tmp 198)) kr rfl (ev (vI o8.1)) (ev (vI (Int.tmod p0 9007199254740993))) d7 (⟨⟨.inr ⟨Inv.anti g.inv hmS6,Piece.holds_anti g.h hmS6,Piece.holds_anti g.t.t.t.h hmS6,Piece.holds_anti g.t.t.t.t.h hmS6,trivial⟩,trivial⟩,?_⟩));refine qAk 23 201 (vB (i1 !=(Int.tmod p1 9007199254740993))) (.head _) (qAk 24 202 (vB (i1 !=(Int.tmod p1 9007199254740993))) (.head _) ?_);rcases qJm (i1 !=(Int.tmod p1 9007199254740993)) with A|A
           .rw[if_pos A] at hr;refine qEa (t:=202) (b:=true) (i1 !=(Int.tmod p1 9007199254740993)) kr A ?_;refine qBg 25 203 (.head _) (qBg 26 204 (.head _) (qBg 27 205 (.head _) (qBg 28 206 (.head _) (qAk 29 207 (vB true) (.head _) (qAk 30 208 (vB true) (.head _) (qAk 31 209 (vB true) (.head _) ?_))))));cases hr;exact qBi kr (qIa _ kr (K _ _ ⟨m18,rfl,q,g.f5.f5.f5.f5.f5.f5,r1⟩))
           rw[if_neg (not_true A)] at hr;refine qEa (t:=202) (b:=false) (i1 !=(Int.tmod p1 9007199254740993)) kr A ?_;refine qAk 25 203 (vI o8.1) (.head _) (qCa 3 5 26 204 0 (vI (Int.tmod p0 9007199254740993)) (.head _) (fun _ h=>h.2.2.2.1) ?_);have⟨i2,d8,hr⟩:=qAw hr;refine qBj 27 kr (qSg (d:=205) (t:=3) (t2:=3) (x:=(.tmp 203)) (y:=(.tmp 204)) kr rfl (ev (vI o8.1)) (ev (vI (Int.tmod p0 9007199254740993))) d8 (⟨⟨.inr ⟨Inv.anti g.inv hmS6,Piece.holds_anti g.h hmS6,Piece.holds_anti g.t.t.t.h hmS6,Piece.holds_anti g.t.t.t.t.h hmS6,trivial⟩,trivial⟩,?_⟩));refine qAk 28 206 (vB (i2 !=0)) (.head _) (qAk 29 207 (vB (i2 !=0)) (.head _) (qAk 30 208 (vB (i2 !=0)) (.head _) (qAk 31 209 (vB (i2 !=0)) (.head _) ?_)));cases hr;exact qBi kr (qIa _ kr (K _ _ ⟨m18,rfl,q,g.f5.f5.f5.f5.f5.f5,r1⟩))
          rw[if_neg (not_true A)] at hr;refine qEa (t:=196) (b:=false) ((Int.tmod p0 9007199254740993) !=0) kr A ?_;refine qBg 19 197 (.head _) (qBg 20 198 (.head _) (qBg 21 199 (.head _) (qBg 22 200 (.head _) (qBg 23 201 (.head _) (qBg 24 202 (.head _) (qBg 25 203 (.head _) (qBg 26 204 (.head _) (qBg 27 205 (.head _) (qBg 28 206 (.head _) (qBg 29 207 (.head _) (qAk 30 208 (vB false) (.head _) (qAk 31 209 (vB false) (.head _) ?_))))))))))));cases hr;exact qBi kr (qIa _ kr (K _ _ ⟨m18,rfl,q,g.f5.f5.f5.f5.f5.f5,r1⟩))
         rw[if_neg (not_true A)] at hr;refine qEa (t:=192) (b:=false) (o8.2.2.2==0) kr A ?_;refine qBg 15 193 (.head _) (qBg 16 194 (.head _) (qAk 17 195 (vB false) (.head _) (qAk 18 196 (vB false) (.head _) (qBg 19 197 (.head _) (qBg 20 198 (.head _) (qBg 21 199 (.head _) (qBg 22 200 (.head _) (qBg 23 201 (.head _) (qBg 24 202 (.head _) (qBg 25 203 (.head _) (qBg 26 204 (.head _) (qBg 27 205 (.head _) (qBg 28 206 (.head _) (qBg 29 207 (.head _) (qAk 30 208 (vB false) (.head _) (qAk 31 209 (vB false) (.head _) ?_))))))))))))))));cases hr;exact qBi kr (qIa _ kr (K _ _ ⟨m18,rfl,q,g.f5.f5.f5.f5.f5.f5,r1⟩))
        rw[if_neg (not_true A)] at hr;refine qEa (t:=181) (b:=false) (o8.2.2.2==0) kr A ?_;refine qBg 4 182 (.head _) (qBg 5 183 (.head _) (qBg 6 184 (.head _) (qBg 7 185 (.head _) (qBg 8 186 (.head _) (qAk 9 187 (vB false) (.head _) (qAk 10 188 (vB false) (.head _) (qAk 11 189 (vP b8 2) (.head _) (qCa 27 189 12 190 2 (vI o8.2.2.2) (.head _) (fun _ h=>h.2.1) (qAk 13 191 (vB (o8.2.2.2==0)) (.head _) (qAk 14 192 (vB (o8.2.2.2==0)) (.head _) ?_))))))))));rcases qJm (o8.2.2.2==0) with A|A
        .rw[if_pos A] at hr;refine qEa (t:=192) (b:=true) (o8.2.2.2==0) kr A ?_;refine qCa 3 5 15 193 0 (vI (Int.tmod p0 9007199254740993)) (.head _) (fun _ h=>h.2.2.2.1) (qAk 16 194 (vB ((Int.tmod p0 9007199254740993) !=0)) (.head _) (qAk 17 195 (vB ((Int.tmod p0 9007199254740993) !=0)) (.head _) (qAk 18 196 (vB ((Int.tmod p0 9007199254740993) !=0)) (.head _) ?_)));rcases qJm ((Int.tmod p0 9007199254740993) !=0) with A|A
         .rw[if_pos A] at hr;refine qEa (t:=196) (b:=true) ((Int.tmod p0 9007199254740993) !=0) kr A ?_;refine qAk 19 197 (vI o8.1) (.head _) (qCa 3 5 20 198 0 (vI (Int.tmod p0 9007199254740993)) (.head _) (fun _ h=>h.2.2.2.1) (qCa 3 6 22 200 0 (vI (Int.tmod p1 9007199254740993)) (.head _) (fun _ h=>h.2.2.1) ?_));have⟨i3,d9,hr⟩:=qAw hr;refine qBj 21 kr (qOk (d:=199) (t:=3) (t2:=3) (x:=(.tmp 197)) (y:=(.tmp 198)) kr rfl (ev (vI o8.1)) (ev (vI (Int.tmod p0 9007199254740993))) d9 (⟨⟨.inr ⟨Inv.anti g.inv hmS6,Piece.holds_anti g.h hmS6,Piece.holds_anti g.t.t.t.h hmS6,Piece.holds_anti g.t.t.t.t.h hmS6,trivial⟩,trivial⟩,?_⟩));refine qAk 23 201 (vB (i3 !=(Int.tmod p1 9007199254740993))) (.head _) (qAk 24 202 (vB (i3 !=(Int.tmod p1 9007199254740993))) (.head _) ?_);rcases qJm (i3 !=(Int.tmod p1 9007199254740993)) with A|A
          .rw[if_pos A] at hr;refine qEa (t:=202) (b:=true) (i3 !=(Int.tmod p1 9007199254740993)) kr A ?_;refine qBg 25 203 (.head _) (qBg 26 204 (.head _) (qBg 27 205 (.head _) (qBg 28 206 (.head _) (qAk 29 207 (vB true) (.head _) (qAk 30 208 (vB true) (.head _) (qAk 31 209 (vB true) (.head _) ?_))))));cases hr;exact qBi kr (qIa _ kr (K _ _ ⟨m18,rfl,q,g.f5.f5.f5.f5.f5.f5,r1⟩))
          rw[if_neg (not_true A)] at hr;refine qEa (t:=202) (b:=false) (i3 !=(Int.tmod p1 9007199254740993)) kr A ?_;refine qAk 25 203 (vI o8.1) (.head _) (qCa 3 5 26 204 0 (vI (Int.tmod p0 9007199254740993)) (.head _) (fun _ h=>h.2.2.2.1) ?_);have⟨i4,d10,hr⟩:=qAw hr;refine qBj 27 kr (qSg (d:=205) (t:=3) (t2:=3) (x:=(.tmp 203)) (y:=(.tmp 204)) kr rfl (ev (vI o8.1)) (ev (vI (Int.tmod p0 9007199254740993))) d10 (⟨⟨.inr ⟨Inv.anti g.inv hmS6,Piece.holds_anti g.h hmS6,Piece.holds_anti g.t.t.t.h hmS6,Piece.holds_anti g.t.t.t.t.h hmS6,trivial⟩,trivial⟩,?_⟩));refine qAk 28 206 (vB (i4 !=0)) (.head _) (qAk 29 207 (vB (i4 !=0)) (.head _) (qAk 30 208 (vB (i4 !=0)) (.head _) (qAk 31 209 (vB (i4 !=0)) (.head _) ?_)));cases hr;exact qBi kr (qIa _ kr (K _ _ ⟨m18,rfl,q,g.f5.f5.f5.f5.f5.f5,r1⟩))
         rw[if_neg (not_true A)] at hr;refine qEa (t:=196) (b:=false) ((Int.tmod p0 9007199254740993) !=0) kr A ?_;refine qBg 19 197 (.head _) (qBg 20 198 (.head _) (qBg 21 199 (.head _) (qBg 22 200 (.head _) (qBg 23 201 (.head _) (qBg 24 202 (.head _) (qBg 25 203 (.head _) (qBg 26 204 (.head _) (qBg 27 205 (.head _) (qBg 28 206 (.head _) (qBg 29 207 (.head _) (qAk 30 208 (vB false) (.head _) (qAk 31 209 (vB false) (.head _) ?_))))))))))));cases hr;exact qBi kr (qIa _ kr (K _ _ ⟨m18,rfl,q,g.f5.f5.f5.f5.f5.f5,r1⟩))
        rw[if_neg (not_true A)] at hr;refine qEa (t:=192) (b:=false) (o8.2.2.2==0) kr A ?_;refine qBg 15 193 (.head _) (qBg 16 194 (.head _) (qAk 17 195 (vB false) (.head _) (qAk 18 196 (vB false) (.head _) (qBg 19 197 (.head _) (qBg 20 198 (.head _) (qBg 21 199 (.head _) (qBg 22 200 (.head _) (qBg 23 201 (.head _) (qBg 24 202 (.head _) (qBg 25 203 (.head _) (qBg 26 204 (.head _) (qBg 27 205 (.head _) (qBg 28 206 (.head _) (qBg 29 207 (.head _) (qAk 30 208 (vB false) (.head _) (qAk 31 209 (vB false) (.head _) ?_))))))))))))))));cases hr;exact qBi kr (qIa _ kr (K _ _ ⟨m18,rfl,q,g.f5.f5.f5.f5.f5.f5,r1⟩))
       refine W_cA Tryz.func5 rfl Tryz.ntmps5 ?_;refine W_sr (qAc 1 [] (qAa rfl (qBk 6 29 (.agg (Vg 0 0 0)) g fun b19 w55 g=>(WO_e (W_sr (qAa rfl (qAr 11 26 1 0 (.agg #[.slice (aP b3) (List.length ([(bw,bz)])) 1]) g.t.t.t.h (qAc 2 [(12,.agg #[vc]),(13,vT (⟨#[109,117,108]⟩:ByteArray))] (qAa rfl (qAr 14 3 2 0 (vI (Int.tmod p0 9007199254740993)) g.t.t.t.t.t.h (qAa rfl (qAr 15 3 3 0 (vI (Int.tmod p1 9007199254740993)) g.t.t.t.t.h (qAa rfl (qAy (d:=16) (t:=39) (e:=3) (len:=2) (parts:= #[(0,(.tmp 14)),(1,(.tmp 15))]) (cInt .i64) (xs:=[Int.tmod p0 9007199254740993,Int.tmod p1 9007199254740993]) [vI (Int.tmod p0 9007199254740993),vI (Int.tmod p1 9007199254740993)] kr rfl (fun _=>qAx kr _) rfl rfl g ⟨[vI (Int.tmod p0 9007199254740993)],_,rfl,rfl,⟨[vI (Int.tmod p1 9007199254740993)],_,rfl,rfl,rfl⟩⟩ fun b20 m19 w56 e11 g r10=> ?_))))))))))))));have r1:=r1.mono e11;refine qBe 17 hr (fun _ h=>qDy g r1 (RepS.nil _ _) r10 h) ?_;rintro y6 hr _ w57 ⟨a5,c5,m20,rfl,e12,g,r11⟩;have r1:=r1.mono e12
       refine qAc 4 [(18,vI y6.1),(19,.agg (Vi y6.2.1.1.1 y6.2.1.1.2.1 y6.2.1.1.2.2 y6.2.1.2.1 a5 y6.2.1.2.2.1 c5 y6.2.1.2.2.2)),(20,vI y6.2.2)] (qAa rfl (qBk 8 32 (.agg #[vI 0,vI 0,vI 0,vB false,v6,vI 0]) g fun b21 w58 g=>(qAc 1 [(7,vI y6.1)] (qAa rfl (qAt 32 8 19 (.agg (Vi y6.2.1.1.1 y6.2.1.1.2.1 y6.2.1.1.2.2 y6.2.1.2.1 a5 y6.2.1.2.2.1 c5 y6.2.1.2.2.2)) g fun w59 g=>(qAc 1 [(9,vI y6.2.2)] (qAz rfl ?_)))))));have g:=g.f2.t;refine qAj (qAs (W_sr (qAg 2 [(22,vB (y6.2.2 !=0))] (W_if hr ?_ ?_))))
       .intro A hr;refine W_sr (qAc 2 [(23,.agg (Vg 0 0 0)),(5,vI (-1))] (qAa rfl (qAt 29 6 23 (.agg (Vg 0 0 0)) g.f2 fun w60 g=>(WO_e (qBc (qAh ?_))))));cases hr;exact qEe [.tmp 5,.cell 6 29] [vI (-1),.agg (Vg 0 0 0)] rfl (ResAll.cons (ResAt.tmp kr) (ResAll.cons (ResAt.blk (v:= .agg (Vg 0 0 0)) (o:=0) kr g.h kr) ResAll.nil)) ⟨_,rfl,⟨m20,rfl,(q.t e11).t e12,g.t.t.t.f5.f5.f5.f5.f5.f5,r1⟩⟩
       intro A hr;refine qAq (qAj (qAs (qCf [(5,fun w'=>Inv m20 w'/\Piece.holds m20 w' (kB b21 (Vi y6.2.1.1.1 y6.2.1.1.2.1 y6.2.1.1.2.2 y6.2.1.2.1 a5 y6.2.1.2.2.1 c5 y6.2.1.2.2.2) 32)/\True)] kr g fun w61 _ g=> ?_)));have hmS5:=m20.le_refl;refine⟨⟨.inr ⟨Inv.anti g.inv hmS5,Piece.holds_anti g.h hmS5,trivial⟩,trivial⟩,?_⟩;refine qAk 0 24 (vI y6.1) (.head _) (qAk 1 25 (vP b21 0) (.head _) (qCa 29 25 2 26 0 (.agg (Vf y6.2.1.1)) (.head _) (fun _ h=>h.2.1) (qAk 3 5 (vI y6.1) (.head _) (qBj 4 kr (qAt 29 6 26 (.agg (Vf y6.2.1.1)) g.f2 fun w62 g=>(⟨⟨.inr ⟨Inv.anti g.inv hmS5,Piece.holds_anti g.t.h hmS5,trivial⟩,trivial⟩,?_⟩))))));refine qBi kr ?_;refine qAj (qBc ?_);obtain rfl:=sI hr;exact qEe [.tmp 5,.cell 6 29] [vI y6.1,.agg (Vf y6.2.1.1)] rfl (ResAll.cons (ResAt.tmp kr) (ResAll.cons (ResAt.blk (v:= .agg (Vf y6.2.1.1)) (o:=0) kr g.h kr) ResAll.nil)) ⟨_,rfl,⟨m20,rfl,(q.t e11).t e12,g.t.t.t.f5.f5.f5.f5.f5.f5,r1⟩⟩
      intro K;refine qBz 1 121 27 120 2 (vI o4.2.2.2) g.t.h (qAc 2 [(123,vB (o4.2.2.2 !=0))] (qCj 123 hr ?_ ?_))
      .intro A hr;refine qAc 49 [(172,vB true)] ?_;cases hr;exact qBh _ kr (K _ _ ⟨m12,rfl,q,g.f5.f5.f5.f5.f5.f5,r1⟩)
      intro A hr;refine qBz 1 125 27 124 2 (vI o5.2.2.2) g.h (qAc 3 [(128,vB (o5.2.2.2 !=0))] (qCj 128 hr ?_ ?_))
      .intro A hr;refine qAc 44 [(172,vB true)] ?_;cases hr;exact qBh _ kr (K _ _ ⟨m12,rfl,q,g.f5.f5.f5.f5.f5.f5,r1⟩)
      intro A hr;refine qAc 1 [(129,vI o4.1)] (qAa rfl (qAr 130 3 6 0 (vI (Int.tmod p1 9007199254740993)) g.t.t.t.h (qAc 3 [(133,vI (wr ((wr (o4.1*(Int.tmod p1 9007199254740993)))+o5.1)))] (qAa rfl (qAr 134 3 5 0 (vI (Int.tmod p0 9007199254740993)) g.t.t.t.t.h (qAc 3 [(137,vB ((wr ((wr (o4.1*(Int.tmod p1 9007199254740993)))+o5.1)) !=(Int.tmod p0 9007199254740993)))] (qCj 137 hr ?_ ?_)))))))
      .intro A hr;refine qAc 35 [(172,vB true)] ?_;cases hr;exact qBh _ kr (K _ _ ⟨m12,rfl,q,g.f5.f5.f5.f5.f5.f5,r1⟩)
      intro A hr;refine qAc 3 [(140,vB (o5.1 !=0))] (qCj 140 hr ?_ ?_)
      .intro A hr;refine qAc 2 [(142,vB (decide (o5.1<0)))] (qAa rfl (qAr 143 3 5 0 (vI (Int.tmod p0 9007199254740993)) g.t.t.t.t.h (qAc 5 [(148,vB (!((decide (o5.1<0))==(decide ((Int.tmod p0 9007199254740993)<0)))))] (qCj 148 hr ?_ ?_))))
       .intro A hr;refine qAc 24 [(172,vB true)] ?_;cases hr;exact qBh _ kr (K _ _ ⟨m12,rfl,q,g.f5.f5.f5.f5.f5.f5,r1⟩)
       intro A hr;refine qAc 3 [(151,vB (decide (o5.1>=0)))] (qCj 151 hr ?_ ?_)
       .intro A hr;refine qAc 1 [(152,vI o5.1)] (qAa rfl (qAr 153 3 6 0 (vI (Int.tmod p1 9007199254740993)) g.t.t.t.h (qAa rfl (qAr 154 3 6 0 (vI (Int.tmod p1 9007199254740993)) g.t.t.t.h (qAc 6 [(160,vB (decide (o5.1>=(if(wr (0-(Int.tmod p1 9007199254740993)))>(Int.tmod p1 9007199254740993) then(wr (0-(Int.tmod p1 9007199254740993))) else(Int.tmod p1 9007199254740993)))))] (qCj 160 hr ?_ ?_))))))
        .intro A hr;refine qAc 12 [(172,vB true)] ?_;cases hr;exact qBh _ kr (K _ _ ⟨m12,rfl,q,g.f5.f5.f5.f5.f5.f5,r1⟩)
        intro A hr;refine qAc 3 [(163,vB (decide (o5.1<0)))] (qCj 163 hr ?_ ?_)
        .intro A hr;refine qAc 2 [(165,vI (wr (0-o5.1)))] (qAa rfl (qAr 166 3 6 0 (vI (Int.tmod p1 9007199254740993)) g.t.t.t.h (qAa rfl (qAr 167 3 6 0 (vI (Int.tmod p1 9007199254740993)) g.t.t.t.h (qAc 5 [(172,vB (decide ((wr (0-o5.1))>=(if(wr (0-(Int.tmod p1 9007199254740993)))>(Int.tmod p1 9007199254740993) then(wr (0-(Int.tmod p1 9007199254740993))) else(Int.tmod p1 9007199254740993)))))] ?_)))));cases hr;exact qBh _ kr (K _ _ ⟨m12,rfl,q,g.f5.f5.f5.f5.f5.f5,r1⟩)
        intro A hr;refine qAc 9 [(172,vB false)] ?_;cases hr;exact qBh _ kr (K _ _ ⟨m12,rfl,q,g.f5.f5.f5.f5.f5.f5,r1⟩)
       intro A hr;refine qAc 12 [(160,vB false),(163,vB (decide (o5.1<0)))] (qCj 163 hr ?_ ?_)
       .intro A hr;refine qAc 2 [(165,vI (wr (0-o5.1)))] (qAa rfl (qAr 166 3 6 0 (vI (Int.tmod p1 9007199254740993)) g.t.t.t.h (qAa rfl (qAr 167 3 6 0 (vI (Int.tmod p1 9007199254740993)) g.t.t.t.h (qAc 5 [(172,vB (decide ((wr (0-o5.1))>=(if(wr (0-(Int.tmod p1 9007199254740993)))>(Int.tmod p1 9007199254740993) then(wr (0-(Int.tmod p1 9007199254740993))) else(Int.tmod p1 9007199254740993)))))] ?_)))));cases hr;exact qBh _ kr (K _ _ ⟨m12,rfl,q,g.f5.f5.f5.f5.f5.f5,r1⟩)
       intro A hr;refine qAc 9 [(172,vB false)] ?_;cases hr;exact qBh _ kr (K _ _ ⟨m12,rfl,q,g.f5.f5.f5.f5.f5.f5,r1⟩)
      intro A hr;refine qAc 11 [(148,vB false),(151,vB (decide (o5.1>=0)))] (qCj 151 hr ?_ ?_)
      .intro A hr;refine qAc 1 [(152,vI o5.1)] (qAa rfl (qAr 153 3 6 0 (vI (Int.tmod p1 9007199254740993)) g.t.t.t.h (qAa rfl (qAr 154 3 6 0 (vI (Int.tmod p1 9007199254740993)) g.t.t.t.h (qAc 6 [(160,vB (decide (o5.1>=(if(wr (0-(Int.tmod p1 9007199254740993)))>(Int.tmod p1 9007199254740993) then(wr (0-(Int.tmod p1 9007199254740993))) else(Int.tmod p1 9007199254740993)))))] (qCj 160 hr ?_ ?_))))))
       .intro A hr;refine qAc 12 [(172,vB true)] ?_;cases hr;exact qBh _ kr (K _ _ ⟨m12,rfl,q,g.f5.f5.f5.f5.f5.f5,r1⟩)
       intro A hr;refine qAc 3 [(163,vB (decide (o5.1<0)))] (qCj 163 hr ?_ ?_)
       .intro A hr;refine qAc 2 [(165,vI (wr (0-o5.1)))] (qAa rfl (qAr 166 3 6 0 (vI (Int.tmod p1 9007199254740993)) g.t.t.t.h (qAa rfl (qAr 167 3 6 0 (vI (Int.tmod p1 9007199254740993)) g.t.t.t.h (qAc 5 [(172,vB (decide ((wr (0-o5.1))>=(if(wr (0-(Int.tmod p1 9007199254740993)))>(Int.tmod p1 9007199254740993) then(wr (0-(Int.tmod p1 9007199254740993))) else(Int.tmod p1 9007199254740993)))))] ?_)))));cases hr;exact qBh _ kr (K _ _ ⟨m12,rfl,q,g.f5.f5.f5.f5.f5.f5,r1⟩)
       intro A hr;refine qAc 9 [(172,vB false)] ?_;cases hr;exact qBh _ kr (K _ _ ⟨m12,rfl,q,g.f5.f5.f5.f5.f5.f5,r1⟩)
      intro A hr;refine qAc 12 [(160,vB false),(163,vB (decide (o5.1<0)))] (qCj 163 hr ?_ ?_)
      .intro A hr;refine qAc 2 [(165,vI (wr (0-o5.1)))] (qAa rfl (qAr 166 3 6 0 (vI (Int.tmod p1 9007199254740993)) g.t.t.t.h (qAa rfl (qAr 167 3 6 0 (vI (Int.tmod p1 9007199254740993)) g.t.t.t.h (qAc 5 [(172,vB (decide ((wr (0-o5.1))>=(if(wr (0-(Int.tmod p1 9007199254740993)))>(Int.tmod p1 9007199254740993) then(wr (0-(Int.tmod p1 9007199254740993))) else(Int.tmod p1 9007199254740993)))))] ?_)))));cases hr;exact qBh _ kr (K _ _ ⟨m12,rfl,q,g.f5.f5.f5.f5.f5.f5,r1⟩)
      intro A hr;refine qAc 9 [(172,vB false)] ?_;cases hr;exact qBh _ kr (K _ _ ⟨m12,rfl,q,g.f5.f5.f5.f5.f5.f5,r1⟩)
     refine W_cA Tryz.func5 rfl Tryz.ntmps5 ?_;refine W_sr (qAc 1 [] (qAa rfl (qBk 6 29 (.agg (Vg 0 0 0)) g fun b16 w42 g=>(WO_e (W_sr (qAa rfl (qAr 11 26 1 0 (.agg #[.slice (aP b3) (List.length ([(bw,bz)])) 1]) g.t.t.t.h (qAc 2 [(12,.agg #[vc]),(13,vT (⟨#[109,111,100]⟩:ByteArray))] (qAa rfl (qAr 14 3 2 0 (vI (Int.tmod p0 9007199254740993)) g.t.t.t.t.t.h (qAa rfl (qAr 15 3 3 0 (vI (Int.tmod p1 9007199254740993)) g.t.t.t.t.h (qAa rfl (qAy (d:=16) (t:=39) (e:=3) (len:=2) (parts:= #[(0,(.tmp 14)),(1,(.tmp 15))]) (cInt .i64) (xs:=[Int.tmod p0 9007199254740993,Int.tmod p1 9007199254740993]) [vI (Int.tmod p0 9007199254740993),vI (Int.tmod p1 9007199254740993)] kr rfl (fun _=>qAx kr _) rfl rfl g ⟨[vI (Int.tmod p0 9007199254740993)],_,rfl,rfl,⟨[vI (Int.tmod p1 9007199254740993)],_,rfl,rfl,rfl⟩⟩ fun b17 m13 w43 e8 g r8=> ?_))))))))))))));have r1:=r1.mono e8;refine qBe 17 hr (fun _ h=>qDy g r1 (RepS.nil _ _) r8 h) ?_;rintro y4 hr _ w44 ⟨a4,c4,m14,rfl,e9,g,r9⟩
     refine qAc 4 [(18,vI y4.1),(19,.agg (Vi y4.2.1.1.1 y4.2.1.1.2.1 y4.2.1.1.2.2 y4.2.1.2.1 a4 y4.2.1.2.2.1 c4 y4.2.1.2.2.2)),(20,vI y4.2.2)] (qAa rfl (qBk 8 32 (.agg #[vI 0,vI 0,vI 0,vB false,v6,vI 0]) g fun b18 w45 g=>(qAc 1 [(7,vI y4.1)] (qAa rfl (qAt 32 8 19 (.agg (Vi y4.2.1.1.1 y4.2.1.1.2.1 y4.2.1.1.2.2 y4.2.1.2.1 a4 y4.2.1.2.2.1 c4 y4.2.1.2.2.2)) g fun w46 g=>(qAc 1 [(9,vI y4.2.2)] (qAz rfl ?_)))))));have g:=g.f2.t;refine qAj (qAs (W_sr (qAg 2 [(22,vB (y4.2.2 !=0))] (W_if hr ?_ ?_))))
     .intro A hr;refine W_sr (qAc 2 [(23,.agg (Vg 0 0 0)),(5,vI (-1))] (qAa rfl (qAt 29 6 23 (.agg (Vg 0 0 0)) g.f2 fun w47 g=>(WO_e (qBc (qAh ?_))))));cases hr;exact qEe [.tmp 5,.cell 6 29] [vI (-1),.agg (Vg 0 0 0)] rfl (ResAll.cons (ResAt.tmp kr) (ResAll.cons (ResAt.blk (v:= .agg (Vg 0 0 0)) (o:=0) kr g.h kr) ResAll.nil)) ⟨_,rfl,⟨m14,rfl,(q.t e8).t e9,g.t.t.t.f5.f5.f5.f5.f5.f5,r1.mono e9⟩⟩
     intro A hr;refine qAq (qAj (qAs (qCf [(5,fun w'=>Inv m14 w'/\Piece.holds m14 w' (kB b18 (Vi y4.2.1.1.1 y4.2.1.1.2.1 y4.2.1.1.2.2 y4.2.1.2.1 a4 y4.2.1.2.2.1 c4 y4.2.1.2.2.2) 32)/\True)] kr g fun w48 _ g=> ?_)));have hmS4:=m14.le_refl;refine⟨⟨.inr ⟨Inv.anti g.inv hmS4,Piece.holds_anti g.h hmS4,trivial⟩,trivial⟩,?_⟩;refine qAk 0 24 (vI y4.1) (.head _) (qAk 1 25 (vP b18 0) (.head _) (qCa 29 25 2 26 0 (.agg (Vf y4.2.1.1)) (.head _) (fun _ h=>h.2.1) (qAk 3 5 (vI y4.1) (.head _) (qBj 4 kr (qAt 29 6 26 (.agg (Vf y4.2.1.1)) g.f2 fun w49 g=>(⟨⟨.inr ⟨Inv.anti g.inv hmS4,Piece.holds_anti g.t.h hmS4,trivial⟩,trivial⟩,?_⟩))))));refine qBi kr ?_;refine qAj (qBc ?_);obtain rfl:=sI hr;exact qEe [.tmp 5,.cell 6 29] [vI y4.1,.agg (Vf y4.2.1.1)] rfl (ResAll.cons (ResAt.tmp kr) (ResAll.cons (ResAt.blk (v:= .agg (Vf y4.2.1.1)) (o:=0) kr g.h kr) ResAll.nil)) ⟨_,rfl,⟨m14,rfl,(q.t e8).t e9,g.t.t.t.f5.f5.f5.f5.f5.f5,r1.mono e9⟩⟩
    refine W_cA Tryz.func5 rfl Tryz.ntmps5 ?_;refine W_sr (qAc 1 [] (qAa rfl (qBk 6 29 (.agg (Vg 0 0 0)) g fun b13 w32 g=>(WO_e (W_sr (qAa rfl (qAr 11 26 1 0 (.agg #[.slice (aP b3) (List.length ([(bw,bz)])) 1]) g.t.t.t.h (qAc 2 [(12,.agg #[vc]),(13,vT (⟨#[100,105,118]⟩:ByteArray))] (qAa rfl (qAr 14 3 2 0 (vI (Int.tmod p0 9007199254740993)) g.t.t.t.t.t.h (qAa rfl (qAr 15 3 3 0 (vI (Int.tmod p1 9007199254740993)) g.t.t.t.t.h (qAa rfl (qAy (d:=16) (t:=39) (e:=3) (len:=2) (parts:= #[(0,(.tmp 14)),(1,(.tmp 15))]) (cInt .i64) (xs:=[Int.tmod p0 9007199254740993,Int.tmod p1 9007199254740993]) [vI (Int.tmod p0 9007199254740993),vI (Int.tmod p1 9007199254740993)] kr rfl (fun _=>qAx kr _) rfl rfl g ⟨[vI (Int.tmod p0 9007199254740993)],_,rfl,rfl,⟨[vI (Int.tmod p1 9007199254740993)],_,rfl,rfl,rfl⟩⟩ fun b14 m10 w33 e6 g r6=> ?_))))))))))))));have r1:=r1.mono e6;refine qBe 17 hr (fun _ h=>qDy g r1 (RepS.nil _ _) r6 h) ?_;rintro y3 hr _ w34 ⟨a3,c3,m11,rfl,e7,g,r7⟩
    refine qAc 4 [(18,vI y3.1),(19,.agg (Vi y3.2.1.1.1 y3.2.1.1.2.1 y3.2.1.1.2.2 y3.2.1.2.1 a3 y3.2.1.2.2.1 c3 y3.2.1.2.2.2)),(20,vI y3.2.2)] (qAa rfl (qBk 8 32 (.agg #[vI 0,vI 0,vI 0,vB false,v6,vI 0]) g fun b15 w35 g=>(qAc 1 [(7,vI y3.1)] (qAa rfl (qAt 32 8 19 (.agg (Vi y3.2.1.1.1 y3.2.1.1.2.1 y3.2.1.1.2.2 y3.2.1.2.1 a3 y3.2.1.2.2.1 c3 y3.2.1.2.2.2)) g fun w36 g=>(qAc 1 [(9,vI y3.2.2)] (qAz rfl ?_)))))));have g:=g.f2.t;refine qAj (qAs (W_sr (qAg 2 [(22,vB (y3.2.2 !=0))] (W_if hr ?_ ?_))))
    .intro A hr;refine W_sr (qAc 2 [(23,.agg (Vg 0 0 0)),(5,vI (-1))] (qAa rfl (qAt 29 6 23 (.agg (Vg 0 0 0)) g.f2 fun w37 g=>(WO_e (qBc (qAh ?_))))));cases hr;exact qEe [.tmp 5,.cell 6 29] [vI (-1),.agg (Vg 0 0 0)] rfl (ResAll.cons (ResAt.tmp kr) (ResAll.cons (ResAt.blk (v:= .agg (Vg 0 0 0)) (o:=0) kr g.h kr) ResAll.nil)) ⟨_,rfl,⟨m11,rfl,(q.t e6).t e7,g.t.t.t.f5.f5.f5.f5.f5.f5,r1.mono e7⟩⟩
    intro A hr;refine qAq (qAj (qAs (qCf [(5,fun w'=>Inv m11 w'/\Piece.holds m11 w' (kB b15 (Vi y3.2.1.1.1 y3.2.1.1.2.1 y3.2.1.1.2.2 y3.2.1.2.1 a3 y3.2.1.2.2.1 c3 y3.2.1.2.2.2) 32)/\True)] kr g fun w38 _ g=> ?_)));have hmS3:=m11.le_refl;refine⟨⟨.inr ⟨Inv.anti g.inv hmS3,Piece.holds_anti g.h hmS3,trivial⟩,trivial⟩,?_⟩;refine qAk 0 24 (vI y3.1) (.head _) (qAk 1 25 (vP b15 0) (.head _) (qCa 29 25 2 26 0 (.agg (Vf y3.2.1.1)) (.head _) (fun _ h=>h.2.1) (qAk 3 5 (vI y3.1) (.head _) (qBj 4 kr (qAt 29 6 26 (.agg (Vf y3.2.1.1)) g.f2 fun w39 g=>(⟨⟨.inr ⟨Inv.anti g.inv hmS3,Piece.holds_anti g.t.h hmS3,trivial⟩,trivial⟩,?_⟩))))));refine qBi kr ?_;refine qAj (qBc ?_);obtain rfl:=sI hr;exact qEe [.tmp 5,.cell 6 29] [vI y3.1,.agg (Vf y3.2.1.1)] rfl (ResAll.cons (ResAt.tmp kr) (ResAll.cons (ResAt.blk (v:= .agg (Vf y3.2.1.1)) (o:=0) kr g.h kr) ResAll.nil)) ⟨_,rfl,⟨m11,rfl,(q.t e6).t e7,g.t.t.t.f5.f5.f5.f5.f5.f5,r1.mono e7⟩⟩
   intro K;refine qBz 1 38 27 37 2 (vI o1.2.2.2) g.t.h (qAc 1 [(39,vB (o1.2.2.2==3))] (qAa rfl (qAr 40 3 5 0 (vI (Int.tmod p0 9007199254740993)) g.t.t.t.t.h (qAa rfl (qAr 41 3 6 0 (vI (Int.tmod p1 9007199254740993)) g.t.t.t.h (qAc 4 [(45,vB (decide ((wr ((Int.tmod p0 9007199254740993)+(Int.tmod p1 9007199254740993)))>9007199254740992)))] (qCj 45 hr ?_ ?_)))))))
   .intro A hr;refine qAc 9 [(54,vB (!((o1.2.2.2==3)==true)))] (qCj 54 hr ?_ ?_)
    .intro A hr;refine qAc 42 [(96,vB true)] ?_;cases hr;exact qBh _ kr (K _ _ ⟨m5,rfl,q,g.f5.f5.f5.f5.f5.f5,r1⟩)
    intro A hr;refine qBz 1 56 27 55 2 (vI o1.2.2.2) g.t.h (qAc 2 [(58,vB (o1.2.2.2==0))] (qCj 58 hr ?_ ?_))
    .intro A hr;refine qAc 1 [(59,vI o1.1)] (qAa rfl (qAr 60 3 5 0 (vI (Int.tmod p0 9007199254740993)) g.t.t.t.t.h (qAa rfl (qAr 61 3 6 0 (vI (Int.tmod p1 9007199254740993)) g.t.t.t.h (qAc 5 [(66,vB (o1.1 !=(wr ((Int.tmod p0 9007199254740993)+(Int.tmod p1 9007199254740993)))))] (qCj 66 hr ?_ ?_))))))
     .intro A hr;refine qAc 30 [(96,vB true)] ?_;cases hr;exact qBh _ kr (K _ _ ⟨m5,rfl,q,g.f5.f5.f5.f5.f5.f5,r1⟩)
     intro A hr;refine qBz 1 68 27 67 2 (vI o2.2.2.2) g.h (qAc 1 [(69,vB (o2.2.2.2==3))] (qAa rfl (qAr 70 3 5 0 (vI (Int.tmod p0 9007199254740993)) g.t.t.t.t.h (qAa rfl (qAr 71 3 6 0 (vI (Int.tmod p1 9007199254740993)) g.t.t.t.h (qAc 4 [(75,vB (decide ((wr ((Int.tmod p0 9007199254740993)-(Int.tmod p1 9007199254740993)))>9007199254740992)))] (qCj 75 hr ?_ ?_)))))))
     .intro A hr;refine qAc 10 [(85,vB (!((o2.2.2.2==3)==true)))] (qCj 85 hr ?_ ?_)
      .intro A hr;refine qAc 11 [(96,vB true)] ?_;cases hr;exact qBh _ kr (K _ _ ⟨m5,rfl,q,g.f5.f5.f5.f5.f5.f5,r1⟩)
      intro A hr;refine qBz 1 87 27 86 2 (vI o2.2.2.2) g.h (qAc 2 [(89,vB (o2.2.2.2==0))] (qCj 89 hr ?_ ?_))
      .intro A hr;refine qAc 1 [(90,vI o2.1)] (qAa rfl (qAr 91 3 5 0 (vI (Int.tmod p0 9007199254740993)) g.t.t.t.t.h (qAa rfl (qAr 92 3 6 0 (vI (Int.tmod p1 9007199254740993)) g.t.t.t.h (qAc 4 [(96,vB (o2.1 !=(wr ((Int.tmod p0 9007199254740993)-(Int.tmod p1 9007199254740993)))))] ?_)))));cases hr;exact qBh _ kr (K _ _ ⟨m5,rfl,q,g.f5.f5.f5.f5.f5.f5,r1⟩)
      intro A hr;refine qAc 7 [(96,vB false)] ?_;cases hr;exact qBh _ kr (K _ _ ⟨m5,rfl,q,g.f5.f5.f5.f5.f5.f5,r1⟩)
     intro A hr;refine qAa rfl (qAr 76 3 5 0 (vI (Int.tmod p0 9007199254740993)) g.t.t.t.t.h (qAa rfl (qAr 77 3 6 0 (vI (Int.tmod p1 9007199254740993)) g.t.t.t.h (qAc 8 [(85,vB (!((o2.2.2.2==3)==(decide ((wr ((Int.tmod p0 9007199254740993)-(Int.tmod p1 9007199254740993)))<(wr (0-9007199254740992)))))))] (qCj 85 hr ?_ ?_)))))
     .intro A hr;refine qAc 11 [(96,vB true)] ?_;cases hr;exact qBh _ kr (K _ _ ⟨m5,rfl,q,g.f5.f5.f5.f5.f5.f5,r1⟩)
     intro A hr;refine qBz 1 87 27 86 2 (vI o2.2.2.2) g.h (qAc 2 [(89,vB (o2.2.2.2==0))] (qCj 89 hr ?_ ?_))
     .intro A hr;refine qAc 1 [(90,vI o2.1)] (qAa rfl (qAr 91 3 5 0 (vI (Int.tmod p0 9007199254740993)) g.t.t.t.t.h (qAa rfl (qAr 92 3 6 0 (vI (Int.tmod p1 9007199254740993)) g.t.t.t.h (qAc 4 [(96,vB (o2.1 !=(wr ((Int.tmod p0 9007199254740993)-(Int.tmod p1 9007199254740993)))))] ?_)))));cases hr;exact qBh _ kr (K _ _ ⟨m5,rfl,q,g.f5.f5.f5.f5.f5.f5,r1⟩)
     intro A hr;refine qAc 7 [(96,vB false)] ?_;cases hr;exact qBh _ kr (K _ _ ⟨m5,rfl,q,g.f5.f5.f5.f5.f5.f5,r1⟩)
    intro A hr;refine qAc 9 [(66,vB false),(67,vP b12 2)] (qAa rfl (qAr 68 27 67 2 (vI o2.2.2.2) g.h (qAc 1 [(69,vB (o2.2.2.2==3))] (qAa rfl (qAr 70 3 5 0 (vI (Int.tmod p0 9007199254740993)) g.t.t.t.t.h (qAa rfl (qAr 71 3 6 0 (vI (Int.tmod p1 9007199254740993)) g.t.t.t.h (qAc 4 [(75,vB (decide ((wr ((Int.tmod p0 9007199254740993)-(Int.tmod p1 9007199254740993)))>9007199254740992)))] (qCj 75 hr ?_ ?_)))))))))
    .intro A hr;refine qAc 10 [(85,vB (!((o2.2.2.2==3)==true)))] (qCj 85 hr ?_ ?_)
     .intro A hr;refine qAc 11 [(96,vB true)] ?_;cases hr;exact qBh _ kr (K _ _ ⟨m5,rfl,q,g.f5.f5.f5.f5.f5.f5,r1⟩)
     intro A hr;refine qBz 1 87 27 86 2 (vI o2.2.2.2) g.h (qAc 2 [(89,vB (o2.2.2.2==0))] (qCj 89 hr ?_ ?_))
     .intro A hr;refine qAc 1 [(90,vI o2.1)] (qAa rfl (qAr 91 3 5 0 (vI (Int.tmod p0 9007199254740993)) g.t.t.t.t.h (qAa rfl (qAr 92 3 6 0 (vI (Int.tmod p1 9007199254740993)) g.t.t.t.h (qAc 4 [(96,vB (o2.1 !=(wr ((Int.tmod p0 9007199254740993)-(Int.tmod p1 9007199254740993)))))] ?_)))));cases hr;exact qBh _ kr (K _ _ ⟨m5,rfl,q,g.f5.f5.f5.f5.f5.f5,r1⟩)
     intro A hr;refine qAc 7 [(96,vB false)] ?_;cases hr;exact qBh _ kr (K _ _ ⟨m5,rfl,q,g.f5.f5.f5.f5.f5.f5,r1⟩)
    intro A hr;refine qAa rfl (qAr 76 3 5 0 (vI (Int.tmod p0 9007199254740993)) g.t.t.t.t.h (qAa rfl (qAr 77 3 6 0 (vI (Int.tmod p1 9007199254740993)) g.t.t.t.h (qAc 8 [(85,vB (!((o2.2.2.2==3)==(decide ((wr ((Int.tmod p0 9007199254740993)-(Int.tmod p1 9007199254740993)))<(wr (0-9007199254740992)))))))] (qCj 85 hr ?_ ?_)))))
    .intro A hr;refine qAc 11 [(96,vB true)] ?_;cases hr;exact qBh _ kr (K _ _ ⟨m5,rfl,q,g.f5.f5.f5.f5.f5.f5,r1⟩)
    intro A hr;refine qBz 1 87 27 86 2 (vI o2.2.2.2) g.h (qAc 2 [(89,vB (o2.2.2.2==0))] (qCj 89 hr ?_ ?_))
    .intro A hr;refine qAc 1 [(90,vI o2.1)] (qAa rfl (qAr 91 3 5 0 (vI (Int.tmod p0 9007199254740993)) g.t.t.t.t.h (qAa rfl (qAr 92 3 6 0 (vI (Int.tmod p1 9007199254740993)) g.t.t.t.h (qAc 4 [(96,vB (o2.1 !=(wr ((Int.tmod p0 9007199254740993)-(Int.tmod p1 9007199254740993)))))] ?_)))));cases hr;exact qBh _ kr (K _ _ ⟨m5,rfl,q,g.f5.f5.f5.f5.f5.f5,r1⟩)
    intro A hr;refine qAc 7 [(96,vB false)] ?_;cases hr;exact qBh _ kr (K _ _ ⟨m5,rfl,q,g.f5.f5.f5.f5.f5.f5,r1⟩)
   intro A hr;refine qAa rfl (qAr 46 3 5 0 (vI (Int.tmod p0 9007199254740993)) g.t.t.t.t.h (qAa rfl (qAr 47 3 6 0 (vI (Int.tmod p1 9007199254740993)) g.t.t.t.h (qAc 7 [(54,vB (!((o1.2.2.2==3)==(decide ((wr ((Int.tmod p0 9007199254740993)+(Int.tmod p1 9007199254740993)))<(wr (0-9007199254740992)))))))] (qCj 54 hr ?_ ?_)))))
   .intro A hr;refine qAc 42 [(96,vB true)] ?_;cases hr;exact qBh _ kr (K _ _ ⟨m5,rfl,q,g.f5.f5.f5.f5.f5.f5,r1⟩)
   intro A hr;refine qBz 1 56 27 55 2 (vI o1.2.2.2) g.t.h (qAc 2 [(58,vB (o1.2.2.2==0))] (qCj 58 hr ?_ ?_))
   .intro A hr;refine qAc 1 [(59,vI o1.1)] (qAa rfl (qAr 60 3 5 0 (vI (Int.tmod p0 9007199254740993)) g.t.t.t.t.h (qAa rfl (qAr 61 3 6 0 (vI (Int.tmod p1 9007199254740993)) g.t.t.t.h (qAc 5 [(66,vB (o1.1 !=(wr ((Int.tmod p0 9007199254740993)+(Int.tmod p1 9007199254740993)))))] (qCj 66 hr ?_ ?_))))))
    .intro A hr;refine qAc 30 [(96,vB true)] ?_;cases hr;exact qBh _ kr (K _ _ ⟨m5,rfl,q,g.f5.f5.f5.f5.f5.f5,r1⟩)
    intro A hr;refine qBz 1 68 27 67 2 (vI o2.2.2.2) g.h (qAc 1 [(69,vB (o2.2.2.2==3))] (qAa rfl (qAr 70 3 5 0 (vI (Int.tmod p0 9007199254740993)) g.t.t.t.t.h (qAa rfl (qAr 71 3 6 0 (vI (Int.tmod p1 9007199254740993)) g.t.t.t.h (qAc 4 [(75,vB (decide ((wr ((Int.tmod p0 9007199254740993)-(Int.tmod p1 9007199254740993)))>9007199254740992)))] (qCj 75 hr ?_ ?_)))))))
    .intro A hr;refine qAc 10 [(85,vB (!((o2.2.2.2==3)==true)))] (qCj 85 hr ?_ ?_)
     .intro A hr;refine qAc 11 [(96,vB true)] ?_;cases hr;exact qBh _ kr (K _ _ ⟨m5,rfl,q,g.f5.f5.f5.f5.f5.f5,r1⟩)
     intro A hr;refine qBz 1 87 27 86 2 (vI o2.2.2.2) g.h (qAc 2 [(89,vB (o2.2.2.2==0))] (qCj 89 hr ?_ ?_))
     .intro A hr;refine qAc 1 [(90,vI o2.1)] (qAa rfl (qAr 91 3 5 0 (vI (Int.tmod p0 9007199254740993)) g.t.t.t.t.h (qAa rfl (qAr 92 3 6 0 (vI (Int.tmod p1 9007199254740993)) g.t.t.t.h (qAc 4 [(96,vB (o2.1 !=(wr ((Int.tmod p0 9007199254740993)-(Int.tmod p1 9007199254740993)))))] ?_)))));cases hr;exact qBh _ kr (K _ _ ⟨m5,rfl,q,g.f5.f5.f5.f5.f5.f5,r1⟩)
     intro A hr;refine qAc 7 [(96,vB false)] ?_;cases hr;exact qBh _ kr (K _ _ ⟨m5,rfl,q,g.f5.f5.f5.f5.f5.f5,r1⟩)
    intro A hr;refine qAa rfl (qAr 76 3 5 0 (vI (Int.tmod p0 9007199254740993)) g.t.t.t.t.h (qAa rfl (qAr 77 3 6 0 (vI (Int.tmod p1 9007199254740993)) g.t.t.t.h (qAc 8 [(85,vB (!((o2.2.2.2==3)==(decide ((wr ((Int.tmod p0 9007199254740993)-(Int.tmod p1 9007199254740993)))<(wr (0-9007199254740992)))))))] (qCj 85 hr ?_ ?_)))))
    .intro A hr;refine qAc 11 [(96,vB true)] ?_;cases hr;exact qBh _ kr (K _ _ ⟨m5,rfl,q,g.f5.f5.f5.f5.f5.f5,r1⟩)
    intro A hr;refine qBz 1 87 27 86 2 (vI o2.2.2.2) g.h (qAc 2 [(89,vB (o2.2.2.2==0))] (qCj 89 hr ?_ ?_))
    .intro A hr;refine qAc 1 [(90,vI o2.1)] (qAa rfl (qAr 91 3 5 0 (vI (Int.tmod p0 9007199254740993)) g.t.t.t.t.h (qAa rfl (qAr 92 3 6 0 (vI (Int.tmod p1 9007199254740993)) g.t.t.t.h (qAc 4 [(96,vB (o2.1 !=(wr ((Int.tmod p0 9007199254740993)-(Int.tmod p1 9007199254740993)))))] ?_)))));cases hr;exact qBh _ kr (K _ _ ⟨m5,rfl,q,g.f5.f5.f5.f5.f5.f5,r1⟩)
    intro A hr;refine qAc 7 [(96,vB false)] ?_;cases hr;exact qBh _ kr (K _ _ ⟨m5,rfl,q,g.f5.f5.f5.f5.f5.f5,r1⟩)
   intro A hr;refine qAc 9 [(66,vB false),(67,vP b12 2)] (qAa rfl (qAr 68 27 67 2 (vI o2.2.2.2) g.h (qAc 1 [(69,vB (o2.2.2.2==3))] (qAa rfl (qAr 70 3 5 0 (vI (Int.tmod p0 9007199254740993)) g.t.t.t.t.h (qAa rfl (qAr 71 3 6 0 (vI (Int.tmod p1 9007199254740993)) g.t.t.t.h (qAc 4 [(75,vB (decide ((wr ((Int.tmod p0 9007199254740993)-(Int.tmod p1 9007199254740993)))>9007199254740992)))] (qCj 75 hr ?_ ?_)))))))))
   .intro A hr;refine qAc 10 [(85,vB (!((o2.2.2.2==3)==true)))] (qCj 85 hr ?_ ?_)
    .intro A hr;refine qAc 11 [(96,vB true)] ?_;cases hr;exact qBh _ kr (K _ _ ⟨m5,rfl,q,g.f5.f5.f5.f5.f5.f5,r1⟩)
    intro A hr;refine qBz 1 87 27 86 2 (vI o2.2.2.2) g.h (qAc 2 [(89,vB (o2.2.2.2==0))] (qCj 89 hr ?_ ?_))
    .intro A hr;refine qAc 1 [(90,vI o2.1)] (qAa rfl (qAr 91 3 5 0 (vI (Int.tmod p0 9007199254740993)) g.t.t.t.t.h (qAa rfl (qAr 92 3 6 0 (vI (Int.tmod p1 9007199254740993)) g.t.t.t.h (qAc 4 [(96,vB (o2.1 !=(wr ((Int.tmod p0 9007199254740993)-(Int.tmod p1 9007199254740993)))))] ?_)))));cases hr;exact qBh _ kr (K _ _ ⟨m5,rfl,q,g.f5.f5.f5.f5.f5.f5,r1⟩)
    intro A hr;refine qAc 7 [(96,vB false)] ?_;cases hr;exact qBh _ kr (K _ _ ⟨m5,rfl,q,g.f5.f5.f5.f5.f5.f5,r1⟩)
   intro A hr;refine qAa rfl (qAr 76 3 5 0 (vI (Int.tmod p0 9007199254740993)) g.t.t.t.t.h (qAa rfl (qAr 77 3 6 0 (vI (Int.tmod p1 9007199254740993)) g.t.t.t.h (qAc 8 [(85,vB (!((o2.2.2.2==3)==(decide ((wr ((Int.tmod p0 9007199254740993)-(Int.tmod p1 9007199254740993)))<(wr (0-9007199254740992)))))))] (qCj 85 hr ?_ ?_)))))
   .intro A hr;refine qAc 11 [(96,vB true)] ?_;cases hr;exact qBh _ kr (K _ _ ⟨m5,rfl,q,g.f5.f5.f5.f5.f5.f5,r1⟩)
   intro A hr;refine qBz 1 87 27 86 2 (vI o2.2.2.2) g.h (qAc 2 [(89,vB (o2.2.2.2==0))] (qCj 89 hr ?_ ?_))
   .intro A hr;refine qAc 1 [(90,vI o2.1)] (qAa rfl (qAr 91 3 5 0 (vI (Int.tmod p0 9007199254740993)) g.t.t.t.t.h (qAa rfl (qAr 92 3 6 0 (vI (Int.tmod p1 9007199254740993)) g.t.t.t.h (qAc 4 [(96,vB (o2.1 !=(wr ((Int.tmod p0 9007199254740993)-(Int.tmod p1 9007199254740993)))))] ?_)))));cases hr;exact qBh _ kr (K _ _ ⟨m5,rfl,q,g.f5.f5.f5.f5.f5.f5,r1⟩)
   intro A hr;refine qAc 7 [(96,vB false)] ?_;cases hr;exact qBh _ kr (K _ _ ⟨m5,rfl,q,g.f5.f5.f5.f5.f5.f5,r1⟩)
  refine W_cA Tryz.func5 rfl Tryz.ntmps5 ?_;refine W_sr (qAc 1 [] (qAa rfl (qBk 6 29 (.agg (Vg 0 0 0)) g fun b9 w20 g=>(WO_e (W_sr (qAa rfl (qAr 11 26 1 0 (.agg #[.slice (aP b3) (List.length ([(bw,bz)])) 1]) g.t.t.h (qAc 2 [(12,.agg #[vc]),(13,vT (⟨#[115,117,98]⟩:ByteArray))] (qAa rfl (qAr 14 3 2 0 (vI (Int.tmod p0 9007199254740993)) g.t.t.t.t.h (qAa rfl (qAr 15 3 3 0 (vI (Int.tmod p1 9007199254740993)) g.t.t.t.h (qAa rfl (qAy (d:=16) (t:=39) (e:=3) (len:=2) (parts:= #[(0,(.tmp 14)),(1,(.tmp 15))]) (cInt .i64) (xs:=[Int.tmod p0 9007199254740993,Int.tmod p1 9007199254740993]) [vI (Int.tmod p0 9007199254740993),vI (Int.tmod p1 9007199254740993)] kr rfl (fun _=>qAx kr _) rfl rfl g ⟨[vI (Int.tmod p0 9007199254740993)],_,rfl,rfl,⟨[vI (Int.tmod p1 9007199254740993)],_,rfl,rfl,rfl⟩⟩ fun b10 m6 w21 e4 g r4=> ?_))))))))))))));have r1:=r1.mono e4;refine qBe 17 hr (fun _ h=>qDy g r1 (RepS.nil _ _) r4 h) ?_;rintro y2 hr _ w22 ⟨a2,c2,m7,rfl,e5,g,r5⟩
  refine qAc 4 [(18,vI y2.1),(19,.agg (Vi y2.2.1.1.1 y2.2.1.1.2.1 y2.2.1.1.2.2 y2.2.1.2.1 a2 y2.2.1.2.2.1 c2 y2.2.1.2.2.2)),(20,vI y2.2.2)] (qAa rfl (qBk 8 32 (.agg #[vI 0,vI 0,vI 0,vB false,v6,vI 0]) g fun b11 w23 g=>(qAc 1 [(7,vI y2.1)] (qAa rfl (qAt 32 8 19 (.agg (Vi y2.2.1.1.1 y2.2.1.1.2.1 y2.2.1.1.2.2 y2.2.1.2.1 a2 y2.2.1.2.2.1 c2 y2.2.1.2.2.2)) g fun w24 g=>(qAc 1 [(9,vI y2.2.2)] (qAz rfl ?_)))))));have g:=g.f2.t;refine qAj (qAs (W_sr (qAg 2 [(22,vB (y2.2.2 !=0))] (W_if hr ?_ ?_))))
  .intro A hr;refine W_sr (qAc 2 [(23,.agg (Vg 0 0 0)),(5,vI (-1))] (qAa rfl (qAt 29 6 23 (.agg (Vg 0 0 0)) g.f2 fun w25 g=>(WO_e (qBc (qAh ?_))))));cases hr;exact qEe [.tmp 5,.cell 6 29] [vI (-1),.agg (Vg 0 0 0)] rfl (ResAll.cons (ResAt.tmp kr) (ResAll.cons (ResAt.blk (v:= .agg (Vg 0 0 0)) (o:=0) kr g.h kr) ResAll.nil)) ⟨_,rfl,⟨m7,rfl,(q.t e4).t e5,g.t.t.t.f4.f4.f4.f4.f4,r1.mono e5⟩⟩
  intro A hr;refine qAq (qAj (qAs (qCf [(5,fun w'=>Inv m7 w'/\Piece.holds m7 w' (kB b11 (Vi y2.2.1.1.1 y2.2.1.1.2.1 y2.2.1.1.2.2 y2.2.1.2.1 a2 y2.2.1.2.2.1 c2 y2.2.1.2.2.2) 32)/\True)] kr g fun w26 _ g=> ?_)));have hmS2:=m7.le_refl;refine⟨⟨.inr ⟨Inv.anti g.inv hmS2,Piece.holds_anti g.h hmS2,trivial⟩,trivial⟩,?_⟩;refine qAk 0 24 (vI y2.1) (.head _) (qAk 1 25 (vP b11 0) (.head _) (qCa 29 25 2 26 0 (.agg (Vf y2.2.1.1)) (.head _) (fun _ h=>h.2.1) (qAk 3 5 (vI y2.1) (.head _) (qBj 4 kr (qAt 29 6 26 (.agg (Vf y2.2.1.1)) g.f2 fun w27 g=>(⟨⟨.inr ⟨Inv.anti g.inv hmS2,Piece.holds_anti g.t.h hmS2,trivial⟩,trivial⟩,?_⟩))))));refine qBi kr ?_;refine qAj (qBc ?_);obtain rfl:=sI hr;exact qEe [.tmp 5,.cell 6 29] [vI y2.1,.agg (Vf y2.2.1.1)] rfl (ResAll.cons (ResAt.tmp kr) (ResAll.cons (ResAt.blk (v:= .agg (Vf y2.2.1.1)) (o:=0) kr g.h kr) ResAll.nil)) ⟨_,rfl,⟨m7,rfl,(q.t e4).t e5,g.t.t.t.f4.f4.f4.f4.f4,r1.mono e5⟩⟩
 refine W_cA Tryz.func5 rfl Tryz.ntmps5 ?_;refine W_sr (qAc 1 [] (qAa rfl (qBk 6 29 (.agg (Vg 0 0 0)) g fun b5 w9 g=>(WO_e (W_sr (qAa rfl (qAr 11 26 1 0 (.agg #[.slice (aP b3) (List.length ([(bw,bz)])) 1]) g.t.h (qAc 2 [(12,.agg #[vc]),(13,vT (⟨#[97,100,100]⟩:ByteArray))] (qAa rfl (qAr 14 3 2 0 (vI (Int.tmod p0 9007199254740993)) g.t.t.t.t.h (qAa rfl (qAr 15 3 3 0 (vI (Int.tmod p1 9007199254740993)) g.t.t.t.h (qAa rfl (qAy (d:=16) (t:=39) (e:=3) (len:=2) (parts:= #[(0,(.tmp 14)),(1,(.tmp 15))]) (cInt .i64) (xs:=[Int.tmod p0 9007199254740993,Int.tmod p1 9007199254740993]) [vI (Int.tmod p0 9007199254740993),vI (Int.tmod p1 9007199254740993)] kr rfl (fun _=>qAx kr _) rfl rfl g ⟨[vI (Int.tmod p0 9007199254740993)],_,rfl,rfl,⟨[vI (Int.tmod p1 9007199254740993)],_,rfl,rfl,rfl⟩⟩ fun b6 m3 w10 e2 g r2=> ?_))))))))))))));have r1:=r1.mono e2;refine qBe 17 hr (fun _ h=>qDy g r1 (RepS.nil _ _) r2 h) ?_;rintro y1 hr _ w11 ⟨a1,c1,m4,rfl,e3,g,r3⟩
 refine qAc 4 [(18,vI y1.1),(19,.agg (Vi y1.2.1.1.1 y1.2.1.1.2.1 y1.2.1.1.2.2 y1.2.1.2.1 a1 y1.2.1.2.2.1 c1 y1.2.1.2.2.2)),(20,vI y1.2.2)] (qAa rfl (qBk 8 32 (.agg #[vI 0,vI 0,vI 0,vB false,v6,vI 0]) g fun b7 w12 g=>(qAc 1 [(7,vI y1.1)] (qAa rfl (qAt 32 8 19 (.agg (Vi y1.2.1.1.1 y1.2.1.1.2.1 y1.2.1.1.2.2 y1.2.1.2.1 a1 y1.2.1.2.2.1 c1 y1.2.1.2.2.2)) g fun w13 g=>(qAc 1 [(9,vI y1.2.2)] (qAz rfl ?_)))))));have g:=g.f2.t;refine qAj (qAs (W_sr (qAg 2 [(22,vB (y1.2.2 !=0))] (W_if hr ?_ ?_))))
 .intro A hr;refine W_sr (qAc 2 [(23,.agg (Vg 0 0 0)),(5,vI (-1))] (qAa rfl (qAt 29 6 23 (.agg (Vg 0 0 0)) g.f2 fun w14 g=>(WO_e (qBc (qAh ?_))))));cases hr;exact qEe [.tmp 5,.cell 6 29] [vI (-1),.agg (Vg 0 0 0)] rfl (ResAll.cons (ResAt.tmp kr) (ResAll.cons (ResAt.blk (v:= .agg (Vg 0 0 0)) (o:=0) kr g.h kr) ResAll.nil)) ⟨_,rfl,⟨m4,rfl,((q.t e1).t e2).t e3,g.t.t.t.f1.f3.f3.f3,r1.mono e3⟩⟩
 intro A hr;refine qAq (qAj (qAs (qCf [(5,fun w'=>Inv m4 w'/\Piece.holds m4 w' (kB b7 (Vi y1.2.1.1.1 y1.2.1.1.2.1 y1.2.1.1.2.2 y1.2.1.2.1 a1 y1.2.1.2.2.1 c1 y1.2.1.2.2.2) 32)/\True)] kr g fun w15 _ g=> ?_)));have hmS1:=m4.le_refl;refine⟨⟨.inr ⟨Inv.anti g.inv hmS1,Piece.holds_anti g.h hmS1,trivial⟩,trivial⟩,?_⟩;refine qAk 0 24 (vI y1.1) (.head _) (qAk 1 25 (vP b7 0) (.head _) (qCa 29 25 2 26 0 (.agg (Vf y1.2.1.1)) (.head _) (fun _ h=>h.2.1) (qAk 3 5 (vI y1.1) (.head _) (qBj 4 kr (qAt 29 6 26 (.agg (Vf y1.2.1.1)) g.f2 fun w16 g=>(⟨⟨.inr ⟨Inv.anti g.inv hmS1,Piece.holds_anti g.t.h hmS1,trivial⟩,trivial⟩,?_⟩))))));refine qBi kr ?_;refine qAj (qBc ?_);obtain rfl:=sI hr;exact qEe [.tmp 5,.cell 6 29] [vI y1.1,.agg (Vf y1.2.1.1)] rfl (ResAll.cons (ResAt.tmp kr) (ResAll.cons (ResAt.blk (v:= .agg (Vf y1.2.1.1)) (o:=0) kr g.h kr) ResAll.nil)) ⟨_,rfl,⟨m4,rfl,((q.t e1).t e2).t e3,g.t.t.t.f1.f3.f3.f3,r1.mono e3⟩⟩
end
section
open Go Go.Dc Go.Proofs
abbrev EKy:=Int×ByteArray×ByteArray
abbrev EEnt:=ByteArray×ByteArray×Int×ByteArray×Int×Int
abbrev EEx:=Int×Int×Int×ByteArray×List Int
abbrev EDcl:=Int×ByteArray×List ByteArray×List EEx
abbrev ESrc:=ByteArray×List ByteArray×List EDcl
abbrev EWld:=List (ByteArray×ByteArray)×Bool×Option (List (ByteArray×ESrc))×List ByteArray×Option (List (EKy×EEnt))
abbrev ETrc:=Option (List (EKy×Bool))
abbrev ESta:=ETrc×Int×Int×Bool
abbrev EOut:=(Int×ESta)⊕(ESta×Int)
abbrev EFr:=ESrc×EDcl×List Int
abbrev EMch:=EWld×List (ByteArray×Int)×Int×ETrc×Int×Int×Bool×Option (List (Int×Option Nat))
def ndC:Option (List (Int×Option Nat)):=some [(1,some 25),(2,some 26),(3,some 27),(4,some 28),(5,some 29),(6,some 30),(7,some 31),(8,some 32),(9,some 33),(10,some 34)]
abbrev mch(W:EWld)(env:List (ByteArray×Int))(w:Int)(t:ESta):EMch:=(W,env,w,t.1,t.2.1,t.2.2.1,t.2.2.2,ndC)
abbrev GN(N D:Nat):=(qAe N D).1
abbrev GE(N D:Nat):=(qAe N D).2.1
abbrev GC(N D:Nat):=(qAe N D).2.2.1
abbrev GB(N D:Nat):=(qAe N D).2.2.2.1
abbrev GI(N D:Nat):=(qAe N D).2.2.2.2.1
abbrev GR(N D:Nat):=(qAe N D).2.2.2.2.2
theorem qLw(N:Nat)(b:Bool)(e:Int):qCi N b e=some (bif b then .inl e else .inr ()):=by cases b<;>rfl
theorem qWo(N:Nat)(b:Bool):qGd N b=some (bif b then 1 else 0):=by cases b<;>rfl
def inV(v:Int):Bool:=decide (-9007199254740992<=v)&&decide (v<=9007199254740992)
theorem qPg(N:Nat)(v:Int):qDt N v=some (inV v):=by
 unfold qDt inV
 by_cases h:(-9007199254740992)<=v
 .rw[if_pos (by simpa using h)];simp[h]
 rw[if_neg (by simpa using h)];simp[h]
section
variable {N D:Nat} {W:EWld} {env:List (ByteArray×Int)} {w:Int} {t:ESta} {c:EFr} {i:Int} {x:EEx}
abbrev up(t:ESta):ESta:=(t.1,IntKind.wrap .i64 (t.2.1+1),t.2.2.1,t.2.2.2)
theorem qSt(hs:t.2.1≠20000)(hx:idx c.2.1.2.2.2 i=some x){f:Nat}(hf:qAn ndC x.1=some (some f)){o:Option EOut}
  (ho:(if f=25 then qDv N (mch W env w (up t)) c x else if f=26 then qCm N (mch W env w (up t)) c x else if f=27 then GC N D (mch W env w (up t)) c x else
   if f=28 then GB N D (mch W env w (up t)) c x else if f=29 then GI N D (mch W env w (up t)) c x else if f=30 then GR N D (mch W env w (up t)) c x else
   if f=31 then qEo N (mch W env w (up t)) c x else if f=32 then qEu N (mch W env w (up t)) c x else if f=33 then qDj N (mch W env w (up t)) c x else if f=34 then qEi N (mch W env w (up t)) c x else none)=o):
  GN N (D+1) (mch W env w t) c i=o:=by
 have h1:(t.2.1==20000)=false:=by simpa using hs
 show qDx N (GN N D) (GE N D) (GC N D) (GB N D) (GI N D) (GR N D) (mch W env w t) c i=o
 unfold qDx
 simp only[qLw,h1,cond_false,j9,hx,hf,Option.getD_some]
 rw[<-ho]
 cases hz:(if f=25 then qDv N (mch W env w (up t)) c x else if f=26 then qCm N (mch W env w (up t)) c x else if f=27 then GC N D (mch W env w (up t)) c x else
   if f=28 then GB N D (mch W env w (up t)) c x else if f=29 then GI N D (mch W env w (up t)) c x else if f=30 then GR N D (mch W env w (up t)) c x else
   if f=31 then qEo N (mch W env w (up t)) c x else if f=32 then qEu N (mch W env w (up t)) c x else if f=33 then qDj N (mch W env w (up t)) c x else if f=34 then qEi N (mch W env w (up t)) c x else none:Option EOut) with
 |none=>rfl
 |some o=>cases o<;>rfl
theorem qTj(hs:t.2.1≠20000)(hx:idx c.2.1.2.2.2 i=some x)(hk:x.1=2){v:Int}(hv:idx c.2.2 x.2.1=some v):GN N (D+1) (mch W env w t) c i=some (.inr (up t,v)):=
 qSt hs hx (f:=26) (by rw[hk];rfl) (by show qCm N (mch W env w (up t)) c x=_;unfold qCm;rw[hv];rfl)
theorem qVv(hs:t.2.1≠20000)(hx:idx c.2.1.2.2.2 i=some x)(hk:x.1=4):GN N (D+1) (mch W env w t) c i=GB N D (mch W env w (up t)) c x:=
 qSt hs hx (f:=28) (by rw[hk];rfl) rfl
def chkV(v:Int)(t:ESta):EOut:=bif inV v then .inr (t,v) else .inl (3,t)
def arV(op a b:Int)(t:ESta):Option EOut:=
 if op=1 then some (chkV (IntKind.wrap .i64 (a+b)) t) else if op=2 then some (chkV (IntKind.wrap .i64 (a-b)) t) else
 if op=3 then((if b≠0 then(quoS .i64 9007199254740992 (if IntKind.wrap .i64 (0-b)>b then IntKind.wrap .i64 (0-b) else b)).bind fun q=>some (decide ((if IntKind.wrap .i64 (0-a)>a then IntKind.wrap .i64 (0-a) else a)>q)) else some false).bind fun o=>
  some (bif o then .inl (3,t) else chkV (IntKind.wrap .i64 (a*b)) t)) else
 if op=4\/op=5 then(if b=0 then some (.inl (4,t)) else(quoS .i64 a b).bind fun q=>if op=5 then(remS a b).bind fun r=>some (chkV r t) else some (chkV q t)) else
 if op=6 then some (chkV (bif decide (a<b) then 1 else 0) t) else some (chkV (bif a==b then 1 else 0) t)
theorem qYa{i0 i1 a b:Int}{t1 t2:ESta}(h0:idx x.2.2.2.2 0=some i0)(h1:idx x.2.2.2.2 1=some i1)(e0:GN N D (mch W env w t) c i0=some (.inr (t1,a)))(e1:GN N D (mch W env w t1) c i1=some (.inr (t2,b))):
  GB N (D+1) (mch W env w t) c x=arV x.2.2.1 a b t2:=by
 show qDk N (GN N D) (GE N D) (GC N D) (GB N D) (GI N D) (GR N D) (mch W env w t) c x=_
 unfold qDk
 obtain⟨a1,s1,b1,r1⟩:=t1
 rw[h0,j9,show GN N D _ _ i0=some (.inr ((a1,s1,b1,r1),a)) from e0,j9]
 dsimp only
 rw[h1,j9,show GN N D _ _ i1=some (.inr (t2,b)) from e1,j9]
 dsimp only
 generalize x.2.2.1=op
 have fin:∀v:Int,((qDt N v).bind fun y11=>(qCi N (!y11) 3).bind fun y12=>(match y12 with| .inl z5=>(some (.inl (z5,t2)):Option EOut)| .inr _=>some (.inr (t2,v))))=some (chkV v t2):=fun v=>by
  simp only[qPg,qLw,j9,chkV]
  cases inV v<;>rfl
 have fin2:∀v:Int,((qDt N v).bind fun y11=>(match(bif !y11 then .inl 3 else .inr ():Int⊕Unit) with| .inl z5=>(some (.inl (z5,t2)):Option EOut)| .inr _=>some (.inr (t2,v))))=some (chkV v t2):=fun v=>by
  simp only[qPg,j9,chkV]
  cases inV v<;>rfl
 unfold arV
 by_cases p1:op=1
 .rw[if_pos (by simpa using p1),if_pos p1];exact fin _
 rw[if_neg (by simpa using p1),if_neg p1]
 by_cases p2:op=2
 .rw[if_pos (by simpa using p2),if_pos p2];exact fin _
 rw[if_neg (by simpa using p2),if_neg p2]
 by_cases p3:op=3
 .rw[if_pos (by simpa using p3),if_pos p3]
  by_cases hb:b=0
  .rw[if_neg (by simpa using hb),if_neg (by simpa using hb)];exact fin _
  rw[if_pos (by simpa using hb),if_pos hb]
  cases hq:quoS .i64 9007199254740992 (if IntKind.wrap .i64 (0-b)>b then IntKind.wrap .i64 (0-b) else b) with
  |none=>rfl
  |some q=>
   simp only[j9,qLw]
   cases decide ((if IntKind.wrap .i64 (0-a)>a then IntKind.wrap .i64 (0-a) else a)>q) with
   |true=>rfl
   |false=>exact fin2 _
 rw[if_neg (by simpa using p3),if_neg p3]
 by_cases p4:op=4\/op=5
 .rw[if_pos p4]
  have h45:(if(op==4)=true then some (op==4) else some (op==5):Option Bool)=some true:=by
   rcases p4 with rfl|rfl<;>rfl
  rw[h45]
  simp only[j9,jQ,qLw]
  by_cases hb:b=0
  .subst hb;rfl
  rw[show(b==0)=false by simpa using hb,if_neg hb]
  dsimp only[cond_false]
  cases hq:quoS .i64 a b with
  |none=>rfl
  |some q=>
   simp only[j9]
   by_cases p5:op=5
   .rw[if_pos (by simpa using p5),if_pos p5]
    cases hr:remS a b with
    |none=>rfl
    |some r=>exact fin2 _
   rw[if_neg (by simpa using p5),if_neg p5];exact fin2 _
 rw[if_neg p4]
 have n4:op≠4:=fun h=>p4 (.inl h)
 have n5:op≠5:=fun h=>p4 (.inr h)
 have h45:(if(op==4)=true then some (op==4) else some (op==5):Option Bool)=some false:=by
  rw[if_neg (by simpa using n4)];simpa using n5
 rw[h45]
 simp only[j9,jH,jZ,qWo]
 by_cases p6:op=6
 .rw[if_pos (by simpa using p6),if_pos p6];exact fin _
 rw[if_neg (by simpa using p6),if_neg p6];exact fin _
abbrev srcE(W:EWld)(E:EEnt):ESrc:=(qAn W.2.2.1 E.2.2.2.1).getD ((⟨#[]⟩:ByteArray),[],[])
def qQz:EOut->EOut
 | .inl z=> .inl z
 | .inr y=> .inr ((y.1.1,y.1.2.1,IntKind.wrap .i64 (y.1.2.2.1-1),y.1.2.2.2),y.2)
theorem qWg{E:EEnt}{d:EDcl}{args:List Int}{o:EOut}(ha:t.2.2.1≠64)(hd:idx (srcE W E).2.2 E.2.2.2.2.1=some d)
  (ho:GN N D (mch W env w (t.1,t.2.1,IntKind.wrap .i64 (t.2.2.1+1),t.2.2.2)) (srcE W E,d,args) (IntKind.wrap .i64 ((d.2.2.2.length:Int)-1))=some o):
  GE N (D+1) (mch W env w t) E args=some (qQz o):=by
 have h1:(t.2.2.1==64)=false:=by simpa using ha
 show qDo N (GN N D) (GE N D) (GC N D) (GB N D) (GI N D) (GR N D) (mch W env w t) E args=_
 unfold qDo
 simp only[qLw,h1,cond_false,j9,hd]
 rw[show GN N D _ _ _=some o from ho]
 cases o<;>rfl
end
def outV:EOut->Int
 | .inl _=>0
 | .inr y=>y.2
def outE:EOut->Int
 | .inl z=>z.1
 | .inr _=>0
def outK:EOut->Int
 | .inl _=>3
 | .inr y=>if y.2=0 then 2 else 1
def outS:EOut->ESta
 | .inl z=>z.2
 | .inr y=>y.1
theorem qUc{N:Nat}{m:EMch}{E:EEnt}{args:List Int}{o:EOut}(h:qCo N m E args=some o):qDa N m E args=some (outS o,(outK o,outV o,outE o)):=by
 unfold qDa
 rw[show qCo N _ _ _=some o from h,j9]
 cases o with
 |inl z=>rfl
 |inr y=>
  dsimp only
  by_cases h0:y.2=0
  .rw[if_pos (by simpa using h0)];simp only[outK,outV,outE,outS,h0,if_pos]
  rw[if_neg (by simpa using h0)];simp only[outK,outV,outE,outS,h0,if_neg,jZ]
theorem qXq{N:Nat}(hN:40<N){m:EMch}{E:EEnt}{args:List Int}{o:EOut}{k:EKy}(h:qCo N m E args=some o)(ht:(outS o).1=some [(k,true)]):
  qDe N m E args=some (outS o,((outK o,outV o,outE o),(outS o).2.2.2,[k],(outS o).2.1)):=by
 unfold qDe
 rw[show qDa N _ _ _=_ from qUc h,j9]
 dsimp only
 rw[ht]
 simp only[isQ,jR,j9,Option.getD_some]
 refine qTu fun l hl=> ?_
 rw[List.perm_singleton.1 hl]
 have hs:qBa N [k]=some [k]:=by
  unfold qBa
  rw[if_pos ⟨by omega,by show 1<4611686018427387904;decide⟩];rfl
 have happ:qFg 40 ([]:List EKy) [k]=some [k]:=by rfl
 have hl1:qGv (qDb N) [(k,true)] ([]:List EKy)=some [k]:=by
  simp only[qGv,qDb]
  rw[show qFg 40 ([]:List EKy) [(k.1,k.2.1,k.2.2)]=some [k] from happ]
  rfl
 rw[hl1,j9,hs,j9]
theorem qRv{N:Nat}:∀{l:List Int},(∀v∈l,inV v=true)->∀M (i:Nat),l.length<i+M->i<=l.length->l.length<1000000->qCz (qFh N l) M (i:Int)=some (.inl ()):=by
 intro l h M
 induction M with
 |zero=>intro i h1 h2;omega
 |succ M ih=>
  intro i h1 h2 h3
  simp only[qCz,qFh]
  by_cases hi:i<l.length
  .rw[if_pos (by simpa using hi),qUr hi]
   have hw:qGl N l[i]=some false:=by
    unfold qGl
    rw[qPg,h _ (List.getElem_mem hi)];rfl
   simp only[j9,hw,jH,jZ]
   rw[wi64 (by omega) (by omega)]
   exact ih (i+1) (by omega) (by omega) h3
  rw[if_neg (by simpa using hi)];rfl
theorem qWc{N:Nat}(hN:40<N){R:List (ByteArray×ByteArray)}{W:EWld}{P nm:ByteArray}{args:List Int}{E:EEnt}{d:EDcl}{o:EOut}(hw:qIz N R=some W)(hv:W.2.1=true)(ha:∀v∈args,inV v=true)(hl:args.length<30)
  (hf:qCx N W 1 P nm=some E) (hc:E.2.2.2.2.2=1) (hd:idx (srcE W E).2.2 E.2.2.2.2.1=some d) (hp:args.length=d.2.2.1.length)
  (ho:qCo N (mch W [] 0 (some [((1,P,nm),true)],0,0,false)) E args=some o) (ht:(outS o).1=some [((1,P,nm),true)]):
  qBq N R [] 0 P nm args=some (outV o,((outK o,outV o,outE o),(outS o).2.2.2,[(1,P,nm)],(outS o).2.1),0):=by
 obtain⟨M,rfl⟩:∃M,N=M+40:=⟨N-40,by omega⟩
 unfold qBq
 rw[hw,j9,if_neg (by rw[hv];decide)]
 rw[show qDi (M+40) []=some true from by kernel_rfl]
 simp only[j9]
 rw[if_neg (by decide)]
 rw[show qCz (qFh (M+40) args) (M+40) 0=some (.inl ()) from qRv ha _ 0 (by omega) (Nat.zero_le _) (by omega)]
 simp only[j9]
 rw[if_neg (by decide)]
 rw[show qCx (M+40) _ 1 P nm=some E from hf,j9,if_neg (by rw[hc];decide),hd,j9,if_neg (by rw[hp];simp)]
 have hlook:qCc (M+40) (mch W [] 0 (some [],0,0,false)) [(1,P,nm)]=some (some [((1,P,nm),true)],0,0,false):=by kernel_rfl
 have hr:=qXq hN ho ht
 have hn:∀{α:Type} (K:Option (List (Int×Option Nat))->Option α),((qDs (some []:Option (List (Int×Option Nat))) 1 (some 25:Option Nat)).bind fun mp1=>(qDs mp1 2 (some 26:Option Nat)).bind fun mp2=>(qDs mp2 3 (some 27:Option Nat)).bind fun mp3=>(qDs mp3 4 (some 28:Option Nat)).bind fun mp4=>(qDs mp4 5 (some 29:Option Nat)).bind fun mp5=>(qDs mp5 6 (some 30:Option Nat)).bind fun mp6=>(qDs mp6 7 (some 31:Option Nat)).bind fun mp7=>(qDs mp7 8 (some 32:Option Nat)).bind fun mp8=>(qDs mp8 9 (some 33:Option Nat)).bind fun mp9=>(qDs mp9 10 (some 34:Option Nat)).bind K)=K ndC:=fun K=>by rfl
 rw[hn]
 rw[show qCc (M+40) _ [(1,P,nm)]=_ from hlook,j9]
 rw[show qDe (M+40) _ _ args=_ from hr]
 rfl
theorem qKx{α β:Type}{x:Option α}{v:α}{f:α->Option β}{r:Option β}(h:x=some v)(h2:f v=r):Option.bind x f=r:=by
 subst h;exact h2
abbrev arT:ByteArray:=⟨#[112,97,99,107,97,103,101,32,112,59,32,102,117,110,99,32,97,100,100,40,97,44,32,98,41,32,61,32,97,32,43,32,98,59,32,102,117,110,99,32,115,117,98,40,97,44,32,98,41,32,61,32,97,32,45,32,98,59,32,102,117,110,99,32,109,117,108,40,97,44,32,98,41,32,61,32,97,32,42,32,98,59,32,102,117,110,99,32,100,105,118,40,97,44,32,98,41,32,61,32,97,32,47,32,98,59,32,102,117,110,99,32,109,111,100,40,97,44,32,98,41,32,61,32,97,32,37,32,98,59,32,102,117,110,99,32,108,101,115,115,40,97,44,32,98,41,32,61,32,97,32,60,32,98,59,32,102,117,110,99,32,115,97,109,101,40,97,44,32,98,41,32,61,32,97,32,61,61,32,98,59]⟩
abbrev arR:List (ByteArray×ByteArray):=[(⟨#[97,46,115,114,99]⟩,arT)]
abbrev arP:ByteArray:=⟨#[112]⟩
def arX(op:Int):List EEx:=[(2,0,0,⟨#[]⟩,[]),(2,1,0,⟨#[]⟩,[]),(4,0,op,⟨#[]⟩,[0,1])]
def arD(nm:ByteArray)(op:Int):EDcl:=(1,nm,[⟨#[97]⟩,⟨#[98]⟩],arX op)
def arS:ESrc:=(arP,[],[arD ⟨#[97,100,100]⟩ 1,arD ⟨#[115,117,98]⟩ 2,arD ⟨#[109,117,108]⟩ 3,arD ⟨#[100,105,118]⟩ 4,arD ⟨#[109,111,100]⟩ 5,arD ⟨#[108,101,115,115]⟩ 6,arD ⟨#[115,97,109,101]⟩ 7])
def arW:EWld:=(qIz 300 arR).getD ([],false,none,[],none)
theorem qYf(M:Nat):qIz (M+300) arR=some arW:=by kernel_rfl
theorem qYe:arW.2.1=true:=by kernel_rfl
abbrev arE(nm:ByteArray)(k:Int):EEnt:=(arP,nm,1,⟨#[97,46,115,114,99]⟩,k,1)
theorem qXg:(qAn arW.2.2.1 (⟨#[97,46,115,114,99]⟩:ByteArray)).getD ((⟨#[]⟩:ByteArray),[],[])=arS:=by kernel_rfl
theorem qXj{op a b:Int}{t:ESta}{o:EOut}(h:arV op a b t=some o):outS o=t:=by
 have hc:∀v,outS (chkV v t)=t:=fun v=>by unfold chkV;cases inV v<;>rfl
 unfold arV at h
 split at h
 .cases h;exact hc _
 split at h
 .cases h;exact hc _
 split at h
 .obtain⟨q,_,h⟩:=jA.1 h
  cases q with
  |true=>cases h;rfl
  |false=>cases h;exact hc _
 split at h
 .split at h
  .cases h;rfl
  obtain⟨q,_,h⟩:=jA.1 h
  split at h
  .obtain⟨r,_,h⟩:=jA.1 h
   cases h;exact hc _
  cases h;exact hc _
 split at h<;>(cases h;exact hc _)
theorem qSo{o:EOut}:outV (qQz o)=outV o/\outK (qQz o)=outK o/\outE (qQz o)=outE o:=by cases o<;>exact⟨rfl,rfl,rfl⟩
section
variable {M:Nat} {a b:Int}
def arSt(k:ETrc):ESta:=(k,3,1,false)
theorem qOx{nm:ByteArray}{op k:Int}{o:EOut}(hf:qCx (M+300) arW 1 arP nm=some (arE nm k))(hd:idx arS.2.2 k=some (arD nm op))
  (ha:inV a=true) (hb:inV b=true) (ho:arV op a b (arSt (some [((1,arP,nm),true)]))=some o):
  ∃z,qBq (M+300) arR [] 0 arP nm [a,b]=some (outV o,((outK o,outV o,outE o),z),0):=by
 have hst:=qXj ho
 have hd:idx (srcE arW (arE nm k)).2.2 (arE nm k).2.2.2.2.1=some (arD nm op):=by rw[show srcE arW (arE nm k)=arS from qXg];exact hd
 have key:qCo (M+300) (mch arW [] 0 (some [((1,arP,nm),true)],0,0,false)) (arE nm k) [a,b]=some (qQz o):=by
  refine qWg (N:=M+300) (D:=M+299) (t:=(some [((1,arP,nm),true)],0,0,false)) (show(0:Int)≠64 by decide) hd ?_
  refine(qVv (D:=M+298) (t:=(some [((1,arP,nm),true)],0,IntKind.wrap .i64 (0+1),false)) (x:=(4,0,op,⟨#[]⟩,[0,1])) (show(0:Int)≠20000 by decide) rfl rfl).trans ?_
  refine(qYa (D:=M+297) (t:=(some [((1,arP,nm),true)],IntKind.wrap .i64 (0+1),IntKind.wrap .i64 (0+1),false)) (x:=(4,0,op,⟨#[]⟩,[0,1])) (i0:=0) (i1:=1) (a:=a) (b:=b) rfl rfl
   (qTj (D:=M+296) (x:=(2,0,0,⟨#[]⟩,[])) (show IntKind.wrap .i64 (0+1)≠20000 by decide) rfl rfl (v:=a) rfl) (qTj (D:=M+296) (x:=(2,1,0,⟨#[]⟩,[])) (show IntKind.wrap .i64 (IntKind.wrap .i64 (0+1)+1)≠20000 by decide) rfl rfl (v:=b) rfl)).trans ?_
  exact ho
 have hargs:∀v∈[a,b],inV v=true:=fun v hv=>by
  rcases jE.1 hv with rfl|hv
  .exact ha
  rw[List.mem_singleton.1 hv];exact hb
 have:=qWc (N:=M+300) (by omega) (qYf M) qYe hargs (by show 2<30;decide) hf rfl hd rfl key (by
  cases o with
  |inl z=>show z.2.1=_;rw[show z.2=_ from hst];rfl
  |inr y=>show y.1.1=_;rw[show y.1=_ from hst];rfl)
 rw[this,qSo.1,qSo.2.1,qSo.2.2]
 exact⟨_,rfl⟩
end
theorem qQn{v:Int}:inV v=true↔-9007199254740992<=v/\v<=9007199254740992:=by unfold inV;simp
theorem qPs{v:Int}(h: -9007199254740992<=v/\v<=9007199254740992)(t:ESta):chkV v t= .inr (t,v):=by unfold chkV;rw[qQn.2 h];rfl
theorem qXc{v:Int}(h:v< -9007199254740992\/9007199254740992<v)(t:ESta):chkV v t= .inl (3,t):=by
 have:inV v=false:=by cases e:inV v with|false=>rfl|true=>have:=qQn.1 e;omega
 unfold chkV;rw[this];rfl
def absI(x:Int):Int:=if IntKind.wrap .i64 (0-x)>x then IntKind.wrap .i64 (0-x) else x
theorem qPd{x:Int}(h: -9007199254740992<=x/\x<=9007199254740992):absI x=(x.natAbs:Int):=by
 unfold absI;rw[wi64 (by omega) (by omega)];split<;>omega
theorem qXi{s e v:Int}(h:(e=0/\v=s/\-9007199254740992<=s/\s<=9007199254740992)\/(e=3/\(s< -9007199254740992\/9007199254740992<s))):
  (if(decide (s>9007199254740992))=true then(if(!((e==3)==true))=true then(some true) else(if(e==0)=true then(some (v !=s)) else(some false))) else(if(!((e==3)==(decide (s<(IntKind.wrap .i64 (0-9007199254740992))))))=true then(some true) else(if(e==0)=true then(some (v !=s)) else(some false))):Option Bool)=some false:=by
 have hw:IntKind.wrap .i64 (0-9007199254740992)= -9007199254740992:=by decide
 rw[hw]
 rcases h with ⟨rfl,rfl,h1,h2⟩|⟨rfl,h⟩
 .rw[if_neg (by simp only[jO];omega),show decide (v< -9007199254740992)=false by simp only[decide_eq_false_iff_not];omega]
  simp
 by_cases h1:s>9007199254740992
 .rw[if_pos (by simpa using h1)];simp
 rw[if_neg (by simpa using h1),show decide (s< -9007199254740992)=true by simp only[jO];omega];simp
theorem qWn{s e v:Int}{X:Option Bool}(h:(e=0/\v=s/\-9007199254740992<=s/\s<=9007199254740992)\/(e=3/\(s< -9007199254740992\/9007199254740992<s))):
  (if(decide (s>9007199254740992))=true then(if(!((e==3)==true))=true then(some true) else(if(e==0)=true then(if(v !=s)=true then some true else X) else X)) else(if(!((e==3)==(decide (s<(IntKind.wrap .i64 (0-9007199254740992))))))=true then(some true) else(if(e==0)=true then(if(v !=s)=true then some true else X) else X)):Option Bool)=X:=by
 have hw:IntKind.wrap .i64 (0-9007199254740992)= -9007199254740992:=by decide
 rw[hw]
 rcases h with ⟨rfl,rfl,h1,h2⟩|⟨rfl,h⟩
 .rw[if_neg (by simp only[jO];omega),show decide (v< -9007199254740992)=false by simp only[decide_eq_false_iff_not];omega]
  simp
 by_cases h1:s>9007199254740992
 .rw[if_pos (by simpa using h1)];simp
 rw[if_neg (by simpa using h1),show decide (s< -9007199254740992)=true by simp only[jO];omega];simp
theorem qUl(s:Int)(t:ESta):(outE (chkV s t)=0/\outV (chkV s t)=s/\-9007199254740992<=s/\s<=9007199254740992)\/(outE (chkV s t)=3/\(s< -9007199254740992\/9007199254740992<s)):=by
 by_cases h: -9007199254740992<=s/\s<=9007199254740992
 .rw[qPs h];exact .inl ⟨rfl,rfl,h⟩
 rw[qXc (by omega)];exact .inr ⟨rfl,by omega⟩
section
variable {M:Nat} {a b:Int}
theorem qXz{o:EOut}(ha:inV a=true)(hb:inV b=true)(ho:arV 1 a b (arSt (some [((1,arP,⟨#[97,100,100]⟩),true)]))=some o):∃z,qBq (M+300) arR [] 0 arP ⟨#[97,100,100]⟩ [a,b]=some (outV o,((outK o,outV o,outE o),z),0):=
 qOx (k:=0) (by kernel_rfl) rfl ha hb ho
theorem qXt{o:EOut}(ha:inV a=true)(hb:inV b=true)(ho:arV 2 a b (arSt (some [((1,arP,⟨#[115,117,98]⟩),true)]))=some o):∃z,qBq (M+300) arR [] 0 arP ⟨#[115,117,98]⟩ [a,b]=some (outV o,((outK o,outV o,outE o),z),0):=
 qOx (k:=1) (by kernel_rfl) rfl ha hb ho
theorem qWs{o:EOut}(ha:inV a=true)(hb:inV b=true)(ho:arV 3 a b (arSt (some [((1,arP,⟨#[109,117,108]⟩),true)]))=some o):∃z,qBq (M+300) arR [] 0 arP ⟨#[109,117,108]⟩ [a,b]=some (outV o,((outK o,outV o,outE o),z),0):=
 qOx (k:=2) (by kernel_rfl) rfl ha hb ho
theorem qWt{o:EOut}(ha:inV a=true)(hb:inV b=true)(ho:arV 4 a b (arSt (some [((1,arP,⟨#[100,105,118]⟩),true)]))=some o):∃z,qBq (M+300) arR [] 0 arP ⟨#[100,105,118]⟩ [a,b]=some (outV o,((outK o,outV o,outE o),z),0):=
 qOx (k:=3) (by kernel_rfl) rfl ha hb ho
theorem qWv{o:EOut}(ha:inV a=true)(hb:inV b=true)(ho:arV 5 a b (arSt (some [((1,arP,⟨#[109,111,100]⟩),true)]))=some o):∃z,qBq (M+300) arR [] 0 arP ⟨#[109,111,100]⟩ [a,b]=some (outV o,((outK o,outV o,outE o),z),0):=
 qOx (k:=4) (by kernel_rfl) rfl ha hb ho
theorem qXm{o:EOut}(ha:inV a=true)(hb:inV b=true)(ho:arV 6 a b (arSt (some [((1,arP,⟨#[108,101,115,115]⟩),true)]))=some o):∃z,qBq (M+300) arR [] 0 arP ⟨#[108,101,115,115]⟩ [a,b]=some (outV o,((outK o,outV o,outE o),z),0):=
 qOx (k:=5) (by kernel_rfl) rfl ha hb ho
theorem qXd{o:EOut}(ha:inV a=true)(hb:inV b=true)(ho:arV 7 a b (arSt (some [((1,arP,⟨#[115,97,109,101]⟩),true)]))=some o):∃z,qBq (M+300) arR [] 0 arP ⟨#[115,97,109,101]⟩ [a,b]=some (outV o,((outK o,outV o,outE o),z),0):=
 qOx (k:=6) (by kernel_rfl) rfl ha hb ho
end
theorem qMk{c:Option (Int×((Int×Int×Int)×Bool×List EKy×Int)×Int)}{o:EOut}(h:∃z,c=some (outV o,((outK o,outV o,outE o),z),0)):
  (c.bind fun y1=>if(y1.2.2 !=0)=true then(some ((-1),0,0,0)) else(some (y1.1,y1.2.1.1.1,y1.2.1.1.2.1,y1.2.1.1.2.2)):Option (Int×Int×Int×Int))=some (outV o,outK o,outV o,outE o):=by
 obtain⟨z,rfl⟩:=h;rfl
theorem qVf(x:Int): -9007199254740992<=Int.tmod x 9007199254740993/\Int.tmod x 9007199254740993<=9007199254740992:=by
 have h:=Int.natAbs_tmod x 9007199254740993
 have h2:x.natAbs%(9007199254740993:Int).natAbs<9007199254740993:=Nat.mod_lt _ (by decide)
 omega
section
variable {A B:Int} {t:ESta}
theorem ar4(hA: -9007199254740992<=A/\A<=9007199254740992)(hB:B≠0):arV 4 A B t=some (.inr (t,A.tdiv B))/\(A.tdiv B).natAbs=A.natAbs/B.natAbs:=by
 have hn:(A.tdiv B).natAbs=A.natAbs/B.natAbs:=Int.natAbs_tdiv A B
 have hle:A.natAbs/B.natAbs<=A.natAbs:=Nat.div_le_self _ _
 refine⟨?_,hn⟩
 rw[<-hn] at hle
 unfold arV
 rw[if_neg (by decide),if_neg (by decide),if_neg (by decide),if_pos (.inl rfl),if_neg hB]
 unfold quoS
 clear hn
 generalize A.tdiv B=q at hle ⊢
 rw[if_neg hB,wi64 (by omega) (by omega),j9,if_neg (by decide),qPs (by omega)]
theorem ar5(hA: -9007199254740992<=A/\A<=9007199254740992)(hB:B≠0):arV 5 A B t=some (.inr (t,A.tmod B))/\(A.tmod B).natAbs=A.natAbs%B.natAbs:=by
 have hn:(A.tmod B).natAbs=A.natAbs%B.natAbs:=Int.natAbs_tmod A B
 have hle:A.natAbs%B.natAbs<=A.natAbs:=Nat.mod_le _ _
 refine⟨?_,hn⟩
 rw[<-hn] at hle
 unfold arV
 rw[if_neg (by decide),if_neg (by decide),if_neg (by decide),if_pos (.inr rfl),if_neg hB]
 unfold quoS remS
 clear hn
 generalize A.tmod B=q at hle ⊢
 rw[if_neg hB,j9,if_pos rfl,if_neg hB,j9,qPs (by omega)]
theorem ar3(hA: -9007199254740992<=A/\A<=9007199254740992)(hB: -9007199254740992<=B/\B<=9007199254740992)(hB0:B≠0):
  (A.natAbs*B.natAbs<=9007199254740992/\arV 3 A B t=some (.inr (t,A*B)))\/(9007199254740992<A.natAbs*B.natAbs/\arV 3 A B t=some (.inl (3,t))):=by
 have hb:0<B.natAbs:=by omega
 have e:arV 3 A B t=some (bif decide (A.natAbs>9007199254740992/B.natAbs) then .inl (3,t) else chkV (IntKind.wrap .i64 (A*B)) t):=by
  unfold arV
  rw[if_neg (by decide),if_neg (by decide),if_pos rfl,if_pos hB0]
  show((quoS .i64 9007199254740992 (absI B)).bind _:Option Bool).bind _=_
  rw[qPd hB]
  unfold quoS
  have hq:Int.tdiv 9007199254740992 (B.natAbs:Int)=((9007199254740992/B.natAbs:Nat):Int):=rfl
  have hle:9007199254740992/B.natAbs<=9007199254740992:=Nat.div_le_self _ _
  rw[if_neg (by omega),hq]
  generalize 9007199254740992/B.natAbs=k at hle ⊢
  rw[wi64 (by omega) (by omega)]
  simp only[j9]
  rw[show(if IntKind.wrap .i64 (0-A)>A then IntKind.wrap .i64 (0-A) else A)=(A.natAbs:Int) from qPd hA]
  congr 2
  exact decide_eq_decide.2 (by omega)
 rw[e]
 have hm:(A*B).natAbs=A.natAbs*B.natAbs:=Int.natAbs_mul A B
 by_cases h:A.natAbs*B.natAbs<=9007199254740992
 .refine .inl ⟨h,?_⟩
  have h1:¬A.natAbs>9007199254740992/B.natAbs:=by have:=(Nat.le_div_iff_mul_le hb).2 h;omega
  rw[show decide (A.natAbs>9007199254740992/B.natAbs)=false by simpa using h1]
  rw[wi64 (by omega) (by omega),qPs (by omega)];rfl
 refine .inr ⟨by omega,?_⟩
 have h1:A.natAbs>9007199254740992/B.natAbs:=by
  rcases Nat.lt_or_ge (9007199254740992/B.natAbs) A.natAbs with h2|h2
  .exact h2
  exact absurd ((Nat.le_div_iff_mul_le hb).1 h2) h
 rw[show decide (A.natAbs>9007199254740992/B.natAbs)=true by simpa using h1];rfl
end
theorem qPx(M:Nat):qEy (M+300)=some true:=by kernel_rfl
theorem not_false{α:Type}{x y:Option α}{r:Option α}(h:y=r):(if false=true then x else y)=r:=h
theorem qWa{A B:Int}(hA:A≠0):(A*B).tdiv A=B/\(A*B).tmod A=0:=⟨Int.mul_tdiv_cancel_left B hA,Int.mul_tmod_right A B⟩
theorem qXk{A B q r:Int}(hA: -9007199254740992<=A/\A<=9007199254740992)(hB: -9007199254740992<=B/\B<=9007199254740992)(hp:q*B=A-r)(hs1:0<=A->0<=r)(hs2:A<=0->r<=0)(hlt:r.natAbs<B.natAbs):
  (if((0:Int) !=0)=true then(some true) else(if((0:Int) !=0)=true then(some true) else(if((IntKind.wrap .i64 ((IntKind.wrap .i64 (q*(B)))+r)) !=(A))=true then(some true) else(if(r !=0)=true then(if(!((decide (r<0))==(decide ((A)<0))))=true then(some true) else(if(decide (r>=0))=true then(if(decide (r>=(if(IntKind.wrap .i64 (0-(B)))>(B) then(IntKind.wrap .i64 (0-(B))) else(B))))=true then(some true) else(if(decide (r<0))=true then(some (decide ((IntKind.wrap .i64 (0-r))>=(if(IntKind.wrap .i64 (0-(B)))>(B) then(IntKind.wrap .i64 (0-(B))) else(B))))) else(some false))) else(if(decide (r<0))=true then(some (decide ((IntKind.wrap .i64 (0-r))>=(if(IntKind.wrap .i64 (0-(B)))>(B) then(IntKind.wrap .i64 (0-(B))) else(B))))) else(some false)))) else(if(decide (r>=0))=true then(if(decide (r>=(if(IntKind.wrap .i64 (0-(B)))>(B) then(IntKind.wrap .i64 (0-(B))) else(B))))=true then(some true) else(if(decide (r<0))=true then(some (decide ((IntKind.wrap .i64 (0-r))>=(if(IntKind.wrap .i64 (0-(B)))>(B) then(IntKind.wrap .i64 (0-(B))) else(B))))) else(some false))) else(if(decide (r<0))=true then(some (decide ((IntKind.wrap .i64 (0-r))>=(if(IntKind.wrap .i64 (0-(B)))>(B) then(IntKind.wrap .i64 (0-(B))) else(B))))) else(some false)))))):Option Bool)=some false:=by
 have hbB:(if IntKind.wrap .i64 (0-B)>B then IntKind.wrap .i64 (0-B) else B)=(B.natAbs:Int):=qPd hB
 have e1:(if(decide (r>=0))=true then(if(decide (r>=(if(IntKind.wrap .i64 (0-(B)))>(B) then(IntKind.wrap .i64 (0-(B))) else(B))))=true then(some true) else(if(decide (r<0))=true then(some (decide ((IntKind.wrap .i64 (0-r))>=(if(IntKind.wrap .i64 (0-(B)))>(B) then(IntKind.wrap .i64 (0-(B))) else(B))))) else(some false))) else(if(decide (r<0))=true then(some (decide ((IntKind.wrap .i64 (0-r))>=(if(IntKind.wrap .i64 (0-(B)))>(B) then(IntKind.wrap .i64 (0-(B))) else(B))))) else(some false)))=some false:=by
  rw[hbB]
  by_cases h0:0<=r
  .rw[if_pos (by simpa using h0),if_neg (by simp only[jO];omega),if_neg (by simp only[jO];omega)]
  rw[if_neg (by simpa using h0),if_pos (by simp only[jO];omega),wi64 (x:=0-r) (by omega) (by omega)]
  rw[show decide (0-r>=(B.natAbs:Int))=false by simp only[decide_eq_false_iff_not];omega]
 rw[e1,hp,wi64 (x:=A-r) (by omega) (by omega),wi64 (x:=A-r+r) (by omega) (by omega)]
 rw[if_neg (by decide),if_neg (by decide),if_neg (by simp only[bne_iff_ne,ne_eq];omega)]
 by_cases h0:r=0
 .rw[if_neg (by simpa using h0)]
 rw[if_pos (by simpa using h0),if_neg]
 have:decide (r<0)=decide (A<0):=decide_eq_decide.2 (by omega)
 rw[this];simp
theorem qVy{A B v:Int}(hv:v=A*B)(hB: -9007199254740992<=B/\B<=9007199254740992)(hB0:B≠0):
  (if((0:Int)==0)=true then(if(!((A==0)==(v==0)))=true then(some true) else(if((0:Int)==0)=true then(if(A !=0)=true then((quoS .i64 v A).bind fun i1=>if(i1 !=B)=true then(some true) else((remS v A).bind fun i2=>some (i2 !=0))) else(some false)) else(some false))) else(if((0:Int)==0)=true then(if(A !=0)=true then((quoS .i64 v A).bind fun i3=>if(i3 !=B)=true then(some true) else((remS v A).bind fun i4=>some (i4 !=0))) else(some false)) else(some false)):Option Bool)=some false:=by
 subst hv
 rw[if_pos (by decide)]
 by_cases hA0:A=0
 .subst hA0
  rw[if_neg (by simp),if_pos (by decide),if_neg (by simp)]
 have hmb:=qWa (B:=B) hA0
 have hz:(A==0)=(A*B==0):=by rw[show(A==0)=false by simpa using hA0,show(A*B==0)=false by simp[hA0,hB0]]
 rw[if_neg (by rw[hz];simp),if_pos (by decide),if_pos (by simpa using hA0)]
 unfold quoS remS
 rw[if_neg hA0,hmb.1,wi64 (by omega) (by omega),j9,if_neg (by simp),if_neg hA0,hmb.2];rfl
theorem qWl{A B v:Int}:(if((3:Int)==0)=true then(if(!((A==0)==(v==0)))=true then(some true) else(if((3:Int)==0)=true then(if(A !=0)=true then((quoS .i64 v A).bind fun i1=>if(i1 !=B)=true then(some true) else((remS v A).bind fun i2=>some (i2 !=0))) else(some false)) else(some false))) else(if((3:Int)==0)=true then(if(A !=0)=true then((quoS .i64 v A).bind fun i3=>if(i3 !=B)=true then(some true) else((remS v A).bind fun i4=>some (i4 !=0))) else(some false)) else(some false)):Option Bool)=some false:=by
 rw[if_neg (by decide),if_neg (by decide)]
theorem qUz{A B e:Int}(hA: -9007199254740992<=A/\A<=9007199254740992)(hB: -9007199254740992<=B/\B<=9007199254740992)(h:(e=0/\A.natAbs*B.natAbs<=9007199254740992)\/(e=3/\9007199254740992<A.natAbs*B.natAbs)):
  (if(A !=0)=true then((quoS .i64 9007199254740992 (if(IntKind.wrap .i64 (0-A))>A then(IntKind.wrap .i64 (0-A)) else A)).bind fun i5=>some (!((e==3)==(decide ((if(IntKind.wrap .i64 (0-B))>B then(IntKind.wrap .i64 (0-B)) else B)>i5))))) else(some (!((e==3)==false))):Option Bool)=some false:=by
 by_cases hA0:A=0
 .rw[if_neg (by simpa using hA0)]
  rcases h with ⟨rfl,_⟩|⟨_,h⟩
  .rfl
  subst hA0;simp at h
 rw[if_pos (by simpa using hA0),show(if IntKind.wrap .i64 (0-A)>A then IntKind.wrap .i64 (0-A) else A)=(A.natAbs:Int) from qPd hA,show(if IntKind.wrap .i64 (0-B)>B then IntKind.wrap .i64 (0-B) else B)=(B.natAbs:Int) from qPd hB]
 have hq:Int.tdiv 9007199254740992 (A.natAbs:Int)=((9007199254740992/A.natAbs:Nat):Int):=rfl
 have hle3:9007199254740992/A.natAbs<=9007199254740992:=Nat.div_le_self _ _
 have h1:=Nat.le_div_iff_mul_le (x:=B.natAbs) (y:=9007199254740992) (show 0<A.natAbs by omega)
 rw[Nat.mul_comm] at h1
 unfold quoS
 rw[if_neg (by omega),hq]
 generalize 9007199254740992/A.natAbs=k at hle3 h1 ⊢
 generalize A.natAbs*B.natAbs=ab at h h1
 rw[wi64 (by omega) (by omega),j9]
 rcases h with ⟨rfl,h⟩|⟨rfl,h⟩
 .rw[show decide ((B.natAbs:Int)>(k:Int))=false by simp only[decide_eq_false_iff_not];have:=h1.2 h;omega];rfl
 rw[show decide ((B.natAbs:Int)>(k:Int))=true by simp only[jO];have h2:¬B.natAbs<=k:=fun h2=>by {have:=h1.1 h2;omega};omega];rfl
theorem qVc{M:Nat}{A B:Int}(ha:inV A=true)(hb:inV B=true){K:Int×Int×Int×Int->Int×Int×Int×Int->Option Bool}(hK:K (bif decide (A<B) then 1 else 0,if(bif decide (A<B) then(1:Int) else 0)=0 then 2 else 1,bif decide (A<B) then 1 else 0,0) (bif A==B then 1 else 0,if(bif A==B then(1:Int) else 0)=0 then 2 else 1,bif A==B then 1 else 0,0)=some true):
  ((((qBq (M+300) arR [] 0 arP ⟨#[108,101,115,115]⟩ [A,B]).bind fun y1=>if(y1.2.2 !=0)=true then(some ((-1),0,0,0)) else(some (y1.1,y1.2.1.1.1,y1.2.1.1.2.1,y1.2.1.1.2.2)):Option (Int×Int×Int×Int)).bind fun o11=>((qBq (M+300) arR [] 0 arP ⟨#[115,97,109,101]⟩ [A,B]).bind fun y1=>if(y1.2.2 !=0)=true then(some ((-1),0,0,0)) else(some (y1.1,y1.2.1.1.1,y1.2.1.1.2.1,y1.2.1.1.2.2)):Option (Int×Int×Int×Int)).bind fun o12=>K o11 o12))=some true:=by
 refine qKx (qMk (qXm ha hb (o:=chkV (bif decide (A<B) then 1 else 0) _) rfl)) ?_
 refine qKx (qMk (qXd ha hb (o:=chkV (bif A==B then 1 else 0) _) rfl)) ?_
 rw[qPs (by cases decide (A<B)<;>decide),qPs (by cases(A==B)<;>decide)]
 exact hK
theorem qQi(M:Nat)(x y:Int):qCe (M+300) x y=some true:=by
 have hA:=qVf x
 have hB:=qVf y
 unfold qCe
 generalize Int.tmod x 9007199254740993=A at hA ⊢
 generalize Int.tmod y 9007199254740993=B at hB ⊢
 have ha:=qQn.2 hA
 have hb:=qQn.2 hB
 refine qKx (qMk (qXz ha hb (o:=chkV (IntKind.wrap .i64 (A+B)) _) rfl)) ?_
 refine qKx (qMk (qXt ha hb (o:=chkV (IntKind.wrap .i64 (A-B)) _) rfl)) ?_
 refine qKx (v:=false) ((qWn (qUl _ _)).trans (qXi (qUl _ _))) ?_
 refine not_false ?_
 by_cases hB0:B=0
 .refine qKx (qMk (qWt ha hb (o:= .inl (4,_)) (by subst hB0;rfl))) ?_
  refine qKx (qMk (qWv ha hb (o:= .inl (4,_)) (by subst hB0;rfl))) ?_
  refine Eq.trans (if_pos (by simpa using hB0)) ?_
  refine qKx (v:=true) ?_ rfl
  refine Eq.trans (if_pos rfl) (Eq.trans (if_pos rfl) ?_)
  rw[qPx];rfl
 refine qKx (qMk (qWt ha hb (ar4 hA hB0).1)) ?_
 refine qKx (qMk (qWv ha hb (ar5 hA hB0).1)) ?_
 refine Eq.trans (if_neg (by simpa using hB0)) ?_
 have hm:=(ar5 (t:=(none,0,0,false)) hA hB0).2
 have hsum:A.tdiv B*B=A-A.tmod B:=by have:=Int.mul_tdiv_add_tmod A B;rw[Int.mul_comm] at this;omega
 have hlt:A.natAbs%B.natAbs<B.natAbs:=Nat.mod_lt _ (by omega)
 rw[<-hm] at hlt
 have hs2:A<=0->A.tmod B<=0:=fun h=>by have:=Int.tmod_nonneg B (a:= -A) (by omega);rw[Int.neg_tmod] at this;omega
 refine qKx (v:=false) (qXk hA hB hsum (fun h=>Int.tmod_nonneg B h) hs2 hlt) ?_
 refine not_false ?_
 rcases ar3 (t:=arSt (some [((1,arP,⟨#[109,117,108]⟩),true)])) hA hB hB0 with ⟨hle2,e3⟩|⟨hgt,e3⟩
 .refine qKx (qMk (qWs ha hb e3)) ?_
  refine qKx (v:=false) (qVy rfl hB hB0) ?_
  refine not_false ?_
  refine qKx (v:=false) (qUz hA hB (.inl ⟨rfl,hle2⟩)) ?_
  refine not_false ?_
  refine qVc ha hb ?_
  refine qKx (v:=true) ?_ rfl
  refine Eq.trans (if_pos rfl) (Eq.trans (if_pos rfl) (Eq.trans (if_pos (by cases decide (A<B)<;>rfl)) (Eq.trans (if_pos (by cases(A==B)<;>rfl)) ?_)))
  rw[qPx];rfl
 refine qKx (qMk (qWs ha hb e3)) ?_
 refine qKx (v:=false) qWl ?_
 refine not_false ?_
 refine qKx (v:=false) (qUz hA hB (.inr ⟨rfl,hgt⟩)) ?_
 refine not_false ?_
 refine qVc ha hb ?_
 refine qKx (v:=true) ?_ rfl
 refine Eq.trans (if_pos rfl) (Eq.trans (if_pos rfl) (Eq.trans (if_pos (by cases decide (A<B)<;>rfl)) (Eq.trans (if_pos (by cases(A==B)<;>rfl)) ?_)))
 rw[qPx];rfl
theorem testgatelaw10_EvaluateArithmetic_true(x:Int)(_gx:(Lit.int .i64 x).wf=true)(y:Int)(_gy:(Lit.int .i64 y).wf=true):∃N,qCe N x y=some true:=⟨0+300,qQi 0 x y⟩
end
end Go.Proofs.YtadnagdgimicdaaGreatDoor
