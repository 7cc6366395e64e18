/- No condition but those of each theorem. -/
import Derived.Test.YtfbdkahdgbimeaaGreatDoorProg
import Derived.WalkKit
import Derived.Deep.LoopGhost
import Derived.KernelRfl
import Derived.OrdersHeld
import Derived.OrdersIn
import Derived.LoopNIn
import Derived.Sort.LoopGhostIn
import Derived.Laws.AppendOwn
import Derived.RangeFuncLeaves
import Derived.RangeFuncRecord
import Derived.MapKept
import Derived.Maps.RangeRun
import Derived.ChangeKeysEq
import Derived.HandedShaped
import Derived.ChangeStays
import Derived.ChangeSame
import Derived.OpenShut
import Derived.WideShapes
import Derived.JoinedOf
import Derived.ReadAgain
import Derived.ChangeAt
import Derived.RowKit
import Derived.Lib.Overlaps
import Derived.Shelf.SlSortCmp.NoneTotal
import Derived.WalkSmall
import Derived.Recover
import Derived.Lib.Bytealg
import Derived.Test.YtfbdkahdgbimeaaGreatDoorK3v1
namespace Go.Proofs.YtfbdkahdgbimeaaGreatDoor
section
open Go Go.Dc
set_option maxHeartbeats 4000000
set_option maxRecDepth 100000
variable {N c1 c2 c3 c4:Nat} {m:Mem} {O:List Piece} {w:World} {a1 a2 a3 a4:Option Addr}
def qEp(N:Nat)(p0:T1f):Td:=
 if(p0.1==5)=true then(some 0) else(if(p0.1 !=4)=true then(some 4) else((if(p0.2.2.1==1)=true then(some (p0.2.2.1==1)) else(some (p0.2.2.1==2)):Tk).bind fun a=>if a=true then(some 2) else((if(p0.2.2.1==6)=true then(some (p0.2.2.1==6)) else(some (p0.2.2.1==7)):Tk).bind fun a=>if a=true then(some 1) else(some 3))))
theorem qNo{p0:T1f}{r:Int}(st:St m (O) w)(s:RepS (cInt .i64) m a1 c1 p0.2.2.2.2)(i:qEp N p0=some r):Calls Tryz.prog 127 #[.agg (Vd p0 a1 c1)] w fun e w'=>∃m',e= .returned (vI r)∧m.le m'∧St m' (O) w':=by
 unfold qEp at i;have q:=m.le_refl;refine W_cA Tryz.func127 rfl Tryz.ntmps127 ?_;refine W_sr (qAb rfl (qHw 1 164 0 (.agg (Vd p0 a1 c1)) st fun f g u k st b=> ?_));have q:=q.t k;refine qAd 1 [] (qAq (W_sr (qAa 1 [(3,vP f 0)] (qCy 4 3 3 0 (vI p0.1) st b (qAd 1 [(5,vB (p0.1==5))] (W_if i ?_ ?_))))))
 ·intro A i;refine W_sr (qAd 1 [(2,vI 0)] (qBj (qAc ?_)));cases i;exact X_rt [2] [vI 0] ⟨g,rfl,q,st⟩
 ·intro A i;refine qAn (qAg (qAq (W_sr (qAa 1 [(6,vP f 0)] (qCy 7 3 6 0 (vI p0.1) st b (qAd 1 [(8,vB (p0.1 !=4))] (W_if i ?_ ?_)))))))
  ·intro A i;refine W_sr (qAd 1 [(2,vI 4)] (qBj (qAc ?_)));cases i;exact X_rt [2] [vI 4] ⟨g,rfl,q,st⟩
  ·intro A i;refine qAn (qAg (qAq (W_sr (qAa 1 [(9,vP f 2)] (qAb rfl (qAw (d:=10) (t:=3) (x:=(.tmp 9)) (vI p0.2.2.1) kr rfl (ev (vP f 2)) st (b.drop 2) kr (WO_e (qAr (qAq (W_sr (qAd 2 [(11,vB (p0.2.2.1==1))] ?_)))))))))));have⟨o,i,l⟩:=qAz i;refine qCf .normal (fun L' w'=>∃a,L'=[(10,vI p0.2.2.1),(11,vB o)]∧m.le a∧St a (O) w') ?_ ?_
   ·have i:=l;rintro _ v ⟨a,rfl,q,st⟩;refine qAg (W_if i ?_ ?_)
    ·intro A i;refine W_sr (qAd 1 [(2,vI 2)] (qBj (qAf (qAc ?_))));cases i;exact X_rt [2] [vI 2] ⟨a,rfl,q,st⟩
    ·intro A i;refine qAq (W_sr (qAd 2 [(14,vB (p0.2.2.1==6))] ?_));have⟨p,i,n⟩:=qAz i;refine qCf .normal (fun L' w'=>∃c,L'=[(14,vB p)]∧m.le c∧St c (O) w') ?_ ?_
     ·have i:=n;rintro _ h ⟨c,rfl,q,st⟩;refine qAg (W_if i ?_ ?_)
      ·intro A i;refine W_sr (qAd 1 [(2,vI 1)] (qBj (qAf (qAc ?_))));cases i;exact X_rt [2] [vI 1] ⟨c,rfl,q,st⟩
      ·intro A i;refine qAn (qBc (qAg (W_sr (qAd 1 [(2,vI 3)] (qBj ?_)))));cases i;exact X_rt [2] [vI 3] ⟨c,rfl,q,st⟩
     ·intro h;refine W_if i ?_ ?_
      ·intro A i;refine qAn ?_;cases i;exact xE (h _ _ ⟨a,rfl,q,st⟩)
      ·intro A i;refine qAm (qAa 2 [(14,vB (p0.2.2.1==7))] (qAx rfl ?_));cases i;exact xE (h _ _ ⟨a,rfl,q,st⟩)
   ·intro c;refine W_if i ?_ ?_
    ·intro A i;refine qAn ?_;cases i;exact xE (c _ _ ⟨g,rfl,q,st⟩)
    ·intro A i;refine qAm (qAa 2 [(11,vB (p0.2.2.1==2))] (qAx rfl ?_));cases i;exact xE (c _ _ ⟨g,rfl,q,st⟩)
def qGk(N:Nat)(R9:T1g→(Int)→Tb→(Int)→Tl)(p0:T1g)(p2:Tb)(b:T1f)(a:Tp):Option Tq:=
 if(decide (a.2<(List.length b.2.2.2.2:Int)))=true then((idx b.2.2.2.2 a.2).bind fun c=>(if(decide (a.2>0))=true then((catB a.1 (⟨#[44,32]⟩:ByteArray)).bind fun b=>some b) else(some a.1):Tl).bind fun b=>(R9 p0 c p2 0).bind fun c=>(catB b c).bind fun b=>some (.inl (b,IntKind.wrap .i64 (a.2+1)))) else(some (.inr a.1))
def qCx(N:Nat)(R9:T1g→(Int)→Tb→(Int)→Tl)(p0:T1g)(p1:Int)(p2:Tb)(p3:Int):Tl:=
 (idx p0 p1).bind fun a=>(if(a.1==1)=true then((qEw N a.2.1).bind fun b=>some b) else(if(a.1==2)=true then((idx p2 a.2.1).bind fun b=>some b) else(if(a.1==3)=true then((catB a.2.2.2.1 (⟨#[40]⟩:ByteArray)).bind fun b=>(qAs (qGk N R9 p0 p2 a) N (b,0)).bind fun b=>(catB b (⟨#[41]⟩:ByteArray)).bind fun b=>some b) else(if(a.1==4)=true then((qEp N a).bind fun b=>(if(b==1)=true then(some 2) else(some b):Td).bind fun c=>(idx a.2.2.2.2 0).bind fun d=>(idx a.2.2.2.2 1).bind fun e=>(R9 p0 d p2 c).bind fun c=>(catB c (⟨#[32]⟩:ByteArray)).bind fun c=>(idx ([(⟨#[]⟩:ByteArray),(⟨#[43]⟩:ByteArray),(⟨#[45]⟩:ByteArray),(⟨#[42]⟩:ByteArray),(⟨#[47]⟩:ByteArray),(⟨#[37]⟩:ByteArray),(⟨#[60]⟩:ByteArray),(⟨#[61,61]⟩:ByteArray)]) a.2.2.1).bind fun d=>(catB c d).bind fun c=>(catB c (⟨#[32]⟩:ByteArray)).bind fun c=>(R9 p0 e p2 (IntKind.wrap .i64 (b+1))).bind fun b=>(catB c b).bind fun b=>some b) else(if(a.1==5)=true then((idx a.2.2.2.2 0).bind fun b=>(idx a.2.2.2.2 1).bind fun c=>(idx a.2.2.2.2 2).bind fun d=>(R9 p0 b p2 0).bind fun b=>(catB (⟨#[105,102,32]⟩:ByteArray) b).bind fun b=>(catB b (⟨#[32,116,104,101,110,32]⟩:ByteArray)).bind fun b=>(R9 p0 c p2 0).bind fun c=>(catB b c).bind fun b=>(catB b (⟨#[32,101,108,115,101,32]⟩:ByteArray)).bind fun b=>(R9 p0 d p2 0).bind fun c=>(catB b c).bind fun b=>some b) else(if(a.1==6)=true then((catB (⟨#[114,101,97,100,40,34]⟩:ByteArray) a.2.2.2.1).bind fun b=>(catB b (⟨#[34,44,32]⟩:ByteArray)).bind fun b=>(idx a.2.2.2.2 0).bind fun c=>(R9 p0 c p2 0).bind fun c=>(catB b c).bind fun b=>(catB b (⟨#[41]⟩:ByteArray)).bind fun b=>some b) else(if(a.1==7)=true then((catB (⟨#[115,105,122,101,40,34]⟩:ByteArray) a.2.2.2.1).bind fun b=>(catB b (⟨#[34,41]⟩:ByteArray)).bind fun b=>some b) else(if(a.1==8)=true then((catB (⟨#[104,97,115,40,34]⟩:ByteArray) a.2.2.2.1).bind fun b=>(catB b (⟨#[34,41]⟩:ByteArray)).bind fun b=>some b) else(if(a.1==9)=true then((catB (⟨#[101,110,118,40,34]⟩:ByteArray) a.2.2.2.1).bind fun b=>(catB b (⟨#[34,41]⟩:ByteArray)).bind fun b=>some b) else(if(a.1==10)=true then((qEw N a.2.1).bind fun b=>(catB (⟨#[102,108,105,112,40]⟩:ByteArray) b).bind fun b=>(catB b (⟨#[41]⟩:ByteArray)).bind fun b=>some b) else(some (⟨#[]⟩:ByteArray))))))))))):Tl).bind fun b=>(qEp N a).bind fun a=>if(decide (a<p3))=true then((catB (⟨#[40]⟩:ByteArray) b).bind fun a=>(catB a (⟨#[41]⟩:ByteArray)).bind fun a=>some a) else(some b)
def qFu(N:Nat):Nat→(T1g→(Int)→Tb→(Int)→Tl)
 |0=>(fun _ _ _ _=>none)
 |D+1=>qCx N (qFu N D)
def qLg(N:Nat)(p0:T1g)(p1:Int)(p2:Tb)(p3:Int):Tl:=(qFu N N) p0 p1 p2 p3
abbrev qTb(F:T1g→(Int)→Tb→(Int)→Tl):Prop:=∀{m:Mem} {O:List Piece} {w:World} {p0:T1g} {p1:Int} {p2:Tb} {p3:Int} {a:Option Addr} {c:Nat} {b:Option Addr} {d:Nat} {r:ByteArray} (st:St m (O) w) (f:RepS C6 m a c p0) (f:RepS cStr m b d p2) (i:F p0 p1 p2 p3=some r),Calls Tryz.prog 119 #[vS a p0 c,vI p1,vS b p2 d,vI p3] w fun e w'=>∃m',e= .returned (vT r)∧m.le m'∧St m' (O) w'
theorem qQz{R9:T1g→(Int)→Tb→(Int)→Tl}(a:qTb R9){p0:T1g}{p1:Int}{p2:Tb}{p3:Int}{r:ByteArray}(st:St m (O) w)(n:RepS C6 m a1 c1 p0)(o:RepS cStr m a2 c2 p2)(i:qCx N R9 p0 p1 p2 p3=some r):Calls Tryz.prog 119 #[vS a1 p0 c1,vI p1,vS a2 p2 c2,vI p3] w fun e w'=>∃m',e= .returned (vT r)∧m.le m'∧St m' (O) w':=by
 unfold qCx at i;have q:=m.le_refl;refine W_cA Tryz.func119 rfl Tryz.ntmps119 ?_;refine W_sr (qAd 1 [] (W_sr (qAa 2 [(16,vS a1 p0 c1),(17,vI p1)] (qAb rfl (qDi 18 136 164 16 17 n i ?_)))));rintro c i b1 f1 c6 ⟨_,_,rfl,rfl,⟨_,_,rfl,rfl,⟨_,_,rfl,rfl,⟨_,_,rfl,rfl,⟨g,k,rfl,f⟩⟩⟩⟩⟩ a9;refine qCy 19 164 18 f1 (.agg (Vd c g k)) st a9 (qAb rfl (qDn 9 164 (.agg #[vI 0,vI 0,vI 0,vT eB,v2]) st fun u w1 st=>(qAb rfl (qCn 164 9 19 (.agg (Vd c g k)) st fun w2 st=>(WO_e (W_sr (qAd 1 [(10,vT eB)] (qAq (W_sr (qDe 1 21 3 20 0 (vI c.1) st.h (WO_e ?_)))))))))));have⟨o1,i,j1⟩:=qAz i;refine qCf .normal (fun L' w'=>∃m1,L'=[(3,vI p3),(9,vP u 0),(10,vT o1)]∧m.le m1∧St m1 (kB u (Vd c g k) 164::O) w'∧RepS (cInt .i64) m1 g k c.2.2.2.2) ?_ ?_
 ·have i:=j1;rintro _ B ⟨m1,rfl,q,st,f⟩;refine qAg (qAq (W_sr (qAb rfl (qCk 162 164 9 0 (.agg (Vd c g k)) st.h (qAj 163 i (fun _ h=>qNo (p0:=c) st f h) ?_)))));rintro s i _ z ⟨l,rfl,b,st⟩;refine qAd 2 [(165,vB (decide (s<p3)))] (W_if i ?_ ?_)
  ·intro A i;refine W_sr (qAa 1 [(166,vT o1)] (qAb rfl (qCh 167 9 9 ((.const (vT bx))) 166 i fun v i=>(qAb rfl (qCh 168 9 9 167 ((.const (vT bw))) i fun p i=>(qAd 1 [(8,vT p)] (qBj (qAc ?_))))))));obtain rfl:=sI i;exact X_rt [8] [vT p] ⟨l,rfl,q.t b,st.t⟩
  ·intro A i;refine qAn (qAg (W_sr (qAd 2 [(8,vT o1)] (qBj ?_))));obtain rfl:=sI i;exact X_rt [8] [vT o1] ⟨l,rfl,q.t b,st.t⟩
 ·intro s;refine qAr (W_sr (qAd 2 [(22,vB (c.1==1))] (W_if i ?_ ?_)))
  ·intro A i;refine qAm (qDe 1 25 3 24 1 (vI c.2.1) st.h (qAj 26 i (fun _ h=>qLl st h) ?_));rintro p i _ v ⟨l,rfl,b,st⟩;refine qAa 1 [(10,vT p)] (qAx rfl (qBc ?_));cases i;exact xE (s _ _ ⟨l,rfl,q.t b,st,f.mono b⟩)
  ·intro A i;refine W_sr (qAd 2 [(27,vB (c.1==2))] (W_if i ?_ ?_))
   ·intro A i;refine qAm (qAa 2 [(29,vS a2 p2 c2),(30,vP u 1)] (qAb rfl (qCk 31 3 30 1 (vI c.2.1) st.h (qAb rfl (qDi 32 43 9 29 31 o i ?_)))));rintro l i z p v rfl b;refine qCy 33 9 32 p (vT l) st b (qAa 1 [(10,vT l)] (qAx rfl (qBc ?_)));cases i;exact xE (s _ _ ⟨m,rfl,q,st,f⟩)
   ·intro A i;refine W_sr (qAd 2 [(34,vB (c.1==3))] (W_if i ?_ ?_))
    ·intro A i;refine W_sr (qDe 1 37 9 36 3 (vT c.2.2.2.1) st.h (qAb rfl (qCh 38 9 9 37 ((.const (vT bx))) i fun S i=>(qAd 1 [(10,vT S)] (qAq (W_sr (qDe 1 40 22 39 4 (vS g c.2.2.2.2 k) st.h (qAd 2 [(41,vI (c.2.2.2.2.length:Int)),(42,vI 0)] (qAr ?_)))))))));have⟨B,i,Y⟩:=qAz i;refine qCf (.exit 1) (fun L' w'=>∃(F:ByteArray),∃z,F=B∧L'=[(3,vI p3),(9,vP u 0),(10,vT F)]∧m.le z∧St z (kB u (Vd c g k) 164::O) w'∧RepS (cInt .i64) z g k c.2.2.2.2) ?_ ?_
     ·rintro _ l ⟨F,z,rfl,rfl,q,st,f⟩;have i:=Y;refine qBd (qAg (qAm (qAa 1 [(58,vT F)] (qAb rfl (qCh 59 9 9 58 ((.const (vT bw))) i fun b i=>(qAa 1 [(10,vT b)] (qAx rfl (qBc ?_))))))));cases i;exact xE (s _ _ ⟨z,rfl,q,st,f⟩)
     intro D;refine qEk _ kr (qDa (fun v L' w'=>∃(b:Tp),∃l,qAs (qGk N R9 p0 p2 c) v b=some B∧L'=[(0,vS a1 p0 c1),(2,vS a2 p2 c2),(3,vI p3),(9,vP u 0),(10,vT b.1),(40,vS g c.2.2.2.2 k),(41,vI (c.2.2.2.2.length:Int)),(42,vI b.2)]∧m.le l∧St l (kB u (Vd c g k) 164::O) w'∧RepS C6 l a1 c1 p0∧RepS cStr l a2 c2 p2∧RepS (cInt .i64) l g k c.2.2.2.2) N ⟨(S,0),m,i,rfl,q,st,n,o,f⟩ ?_);rintro v _ w6 ⟨b,l,hL,rfl,q,st,n,o,f⟩;rcases v with _|v
     ·exact qBg hL
     ·obtain⟨a5,i,K,H⟩:=qBf hL;clear hL;unfold qGk at i;refine W_sr (qAd 1 [(43,vB (decide (b.2<(c.2.2.2.2.length:Int))))] (qAq (W_if i ?_ ?_)))
      ·intro A i;refine qAn (qAg (qAq (qAr (W_sr (qAa 1 [(44,vI b.2)] (qAb rfl (qDi 45 22 3 40 42 f i ?_)))))));rintro G i b4 V a0 rfl M;refine qCy 46 3 45 V (vI G) st M (qAd 2 [(11,vI b.2),(12,vI G)] (qAq (W_sr (qAd 2 [(48,vB (decide (b.2>0)))] ?_))));have⟨R,i,Z⟩:=qAz i;refine qCf .normal (fun L' w'=>∃p,L'=[(0,vS a1 p0 c1),(2,vS a2 p2 c2),(3,vI p3),(9,vP u 0),(10,vT R),(12,vI G),(40,vS g c.2.2.2.2 k),(41,vI (c.2.2.2.2.length:Int)),(42,vI b.2)]∧m.le p∧St p (kB u (Vd c g k) 164::O) w'∧RepS C6 p a1 c1 p0∧RepS cStr p a2 c2 p2∧RepS (cInt .i64) p g k c.2.2.2.2) ?_ ?_
       ·have i:=Z;rintro _ w7 ⟨p,rfl,q,st,n,o,f⟩;refine qAg (qAm (qAa 4 [(51,vT R),(52,vS a1 p0 c1),(53,vI G),(54,vS a2 p2 c2)] (qAj 55 i (fun _ h=>a st n o h) ?_)));rintro y2 i _ w8 ⟨m6,rfl,E,st⟩;refine qAb rfl (qCh 56 9 9 51 55 i fun U i=>(qAa 1 [(10,vT U)] (qAx rfl (qBc (qAg (qAm (qAa 2 [(42,vI (wr (b.2+1)))] (qAx rfl ?_))))))));obtain rfl:=sI i;have hL:=K _ rfl;exact xE (qCd v (jG _) ⟨(U,wr (b.2+1)),m6,hL,rfl,q.t E,st,n.mono E,o.mono E,f.mono E⟩)
       ·intro E;refine W_if i ?_ ?_
        ·intro A i;refine qAm (qAa 1 [(49,vT b.1)] (qAb rfl (qCh 50 9 9 49 ((.const (vT bz))) i fun U i=>(qAa 1 [(10,vT U)] (qAx rfl ?_)))));cases i;exact xE (E _ _ ⟨l,rfl,q,st,n,o,f⟩)
        ·intro A i;refine qAn ?_;cases i;exact xE (E _ _ ⟨l,rfl,q,st,n,o,f⟩)
      ·intro A i;refine qCv (qAe ?_);cases i;have ho:=H _ rfl;refine qAe ?_;exact xE (D _ _ ⟨b.1,l,ho,rfl,q,st,f⟩)
    ·intro A i;refine W_sr (qAd 2 [(60,vB (c.1==4))] (W_if i ?_ ?_))
     ·intro A i;refine W_sr (qAb rfl (qCk 62 164 9 0 (.agg (Vd c g k)) st.h (qAj 63 i (fun _ h=>qNo (p0:=c) st f h) ?_)));rintro R i _ w9 ⟨m7,rfl,G,st⟩;refine qAd 1 [(13,vI R)] (W_sr (qAd 5 [(14,vI R),(15,vI (wr (R+1)))] (qAq (W_sr (qAd 2 [(68,vB (R==1))] ?_)))));have⟨o4,i,j4⟩:=qAz i;refine qCf .normal (fun L' w'=>∃E,L'=[(0,vS a1 p0 c1),(2,vS a2 p2 c2),(3,vI p3),(9,vP u 0),(14,vI o4),(15,vI (wr (R+1)))]∧m.le E∧St E (kB u (Vd c g k) 164::O) w'∧RepS C6 E a1 c1 p0∧RepS cStr E a2 c2 p2∧RepS (cInt .i64) E g k c.2.2.2.2) ?_ ?_
      ·have i:=j4;rintro _ c9 ⟨E,rfl,q,st,n,o,f⟩;refine qAg (qFr [(26,fun w'=>Inv E w'∧Piece.holds E w' (kB u (Vd c g k) 164)∧True)] kr st fun d0 _ st=> ?_);have b:=E.le_refl;refine⟨⟨.inr ⟨Inv.anti st.inv b,Piece.holds_anti st.h b,trivial⟩,trivial⟩,?_⟩;refine qBa 0 69 (vS a1 p0 c1) (.head _) (qBa 1 70 (vP u 4) (.head _) (qKa 22 70 2 71 4 (vS g c.2.2.2.2 k) (.head _) (fun _ h=>h.2.1) ?_));have⟨x4,a6,i⟩:=qAz i;refine qHu (t:=22) (e:=3) (x:=(.tmp 71)) (y:=(.const (vI 0))) 3 72 (cInt .i64) kr rfl kr (.head _) (qBb (qAo qDj)) (ev (vS g c.2.2.2.2 k)) (ev (vI 0)) kr f a6 ?_;rintro b5 f4 c7 rfl b0;refine qJb 3 72 4 73 f4 (vI x4) (.head _) (fun _ h=>h.1) b0 (qBa 5 74 (vS a2 p2 c2) (.head _) (qBa 6 75 (vI o4) (.head _) (qBa 10 79 (vP u 2) (.head _) (qKa 3 79 11 80 2 (vI c.2.2.1) (.head _) (fun _ h=>h.2.1) (qBa 16 85 (vS a1 p0 c1) (.head _) (qBa 17 86 (vP u 4) (.head _) (qKa 22 86 18 87 4 (vS g c.2.2.2.2 k) (.head _) (fun _ h=>h.2.1) ?_)))))));have⟨x5,a7,i⟩:=qAz i;refine qHu (t:=22) (e:=3) (x:=(.tmp 87)) (y:=(.const (vI 1))) 19 88 (cInt .i64) kr rfl kr (.head _) (qBb (qAo qDj)) (ev (vS g c.2.2.2.2 k)) (ev (vI 1)) kr f a7 ?_;rintro b6 f5 c8 rfl c0
       refine qJb 3 88 20 89 f5 (vI x5) (.head _) (fun _ h=>h.1) c0 (qBa 21 90 (vS a2 p2 c2) (.head _) (qBa 22 91 (vI (wr (R+1))) (.head _) (qUd [7,9] kr (by simp) (qUg ?_ ?_))))
       ·refine qCm 76 i (fun _ h=>a st n o h) ?_;rintro y4 i _ c5 ⟨m9,rfl,B,st⟩;refine⟨_,rfl,?_⟩;have q:=q.t B;have n:=n.mono B;have o:=o.mono B;have f:=f.mono B;have b:=Mem.le_trans b B;refine⟨⟨.inr ⟨Inv.anti st.inv b,Piece.holds_anti st.h b,trivial⟩,trivial⟩,?_⟩;refine qDx 9 9 76 ((.const (vT b23))) 8 77 (.head _) i fun s6 i=> ?_;refine qUd [9,23] kr (by simp) (qUg ?_ ?_)
        ·refine qAu (d:=78) (t:=43) (e:=9) (len:=8) (parts:= #[(0,(.const (vT eB))),(1,(.const (vT b14))),(2,(.const (vT b15))),(3,(.const (vT b16))),(4,(.const (vT b17))),(5,(.const (vT b18))),(6,(.const (vT b19))),(7,(.const (vT b1a)))]) cStr (xs:=[eB,b14,b15,b16,b17,b18,b19,b1a]) [vT eB,vT b14,vT b15,vT b16,vT b17,vT b18,vT b19,vT b1a] kr rfl (fun _=>qAv kr _) rfl rfl st ⟨[vT eB],_,rfl,rfl,⟨[vT b14],_,rfl,rfl,⟨[vT b15],_,rfl,rfl,⟨[vT b16],_,rfl,rfl,⟨[vT b17],_,rfl,rfl,⟨[vT b18],_,rfl,rfl,⟨[vT b19],_,rfl,rfl,⟨[vT b1a],_,rfl,rfl,rfl⟩⟩⟩⟩⟩⟩⟩⟩ fun S U a0 l st V=> ?_;have b:=Mem.le_trans b l;refine⟨⟨.inr ⟨Inv.anti st.inv b,Piece.holds_anti st.t.h b,trivial⟩,trivial⟩,?_⟩;have⟨M,a8,i⟩:=qAz i;refine qHu (t:=43) (e:=9) (x:=(.tmp 78)) (y:=(.tmp 80)) 12 81 cStr kr rfl kr (.head _) (qBb (qAo qDj)) (ev (.slice (aP S) (List.length ([eB,b14,b15,b16,b17,b18,b19,b1a])) 8)) (ev (vI c.2.2.1)) kr V a8 ?_;rintro F H a5 rfl z;refine qUd [13,23] kr (by simp) (qUg ?_ ?_)
         ·refine qAw (d:=82) (t:=9) (x:=(.tmp 81)) (vT M) kr rfl (ev (vP F H)) st z kr ?_;refine⟨⟨.inr ⟨Inv.anti st.inv b,Piece.holds_anti st.t.h b,trivial⟩,trivial⟩,?_⟩;refine qDx 9 9 77 82 14 83 (.head _) i fun Y i=> ?_;refine qDx 9 9 83 ((.const (vT b23))) 15 84 (.head _) i fun Z i=> ?_;refine qBv 23 kr (qCm 92 i (fun _ h=>a st (n.mono l) (o.mono l) h) ?_);rintro y5 i _ K ⟨v,rfl,p,st⟩;refine⟨_,rfl,?_⟩;have b:=Mem.le_trans b p;refine⟨⟨.inr ⟨Inv.anti st.inv b,Piece.holds_anti st.t.h b,trivial⟩,trivial⟩,?_⟩;refine qDx 9 9 84 92 24 93 (.head _) i fun D i=> ?_;refine qBa 25 10 (vT D) (.head _) (qCu kr ?_);have st:=st.t;refine qBc ?_;cases i;exact xE (s _ _ ⟨v,rfl,(q.t l).t p,st,(f.mono l).mono p⟩)
         ·replace i:=zOu i;refine qCm 92 i (fun _ h=>a st (n.mono l) (o.mono l) h) ?_;rintro y5 i _ K ⟨v,rfl,p,st⟩;refine⟨_,rfl,?_⟩;have b:=Mem.le_trans b p;refine⟨⟨.inr ⟨Inv.anti st.inv b,Piece.holds_anti st.t.h b,trivial⟩,trivial⟩,?_⟩;refine qBv 13 kr (qAw (d:=82) (t:=9) (x:=(.tmp 81)) (vT M) kr rfl (ev (vP F H)) st (z.mono p) kr (⟨⟨.inr ⟨Inv.anti st.inv b,Piece.holds_anti st.t.h b,trivial⟩,trivial⟩,?_⟩));refine qDx 9 9 77 82 14 83 (.head _) i fun Y i=> ?_;refine qDx 9 9 83 ((.const (vT b23))) 15 84 (.head _) i fun Z i=> ?_;refine qDx 9 9 84 92 24 93 (.head _) i fun D i=> ?_;refine qBa 25 10 (vT D) (.head _) (qCu kr ?_);have st:=st.t;refine qBc ?_;cases i;exact xE (s _ _ ⟨v,rfl,(q.t l).t p,st,(f.mono l).mono p⟩)
        ·replace i:=swapB3 i;refine qCm 92 i (fun _ h=>a st n o h) ?_;rintro y5 i _ a0 ⟨U,rfl,l,st⟩;refine⟨_,rfl,?_⟩;have b:=Mem.le_trans b l;refine⟨⟨.inr ⟨Inv.anti st.inv b,Piece.holds_anti st.h b,trivial⟩,trivial⟩,?_⟩;refine qBv 9 kr (qAu (d:=78) (t:=43) (e:=9) (len:=8) (parts:= #[(0,(.const (vT eB))),(1,(.const (vT b14))),(2,(.const (vT b15))),(3,(.const (vT b16))),(4,(.const (vT b17))),(5,(.const (vT b18))),(6,(.const (vT b19))),(7,(.const (vT b1a)))]) cStr (xs:=[eB,b14,b15,b16,b17,b18,b19,b1a]) [vT eB,vT b14,vT b15,vT b16,vT b17,vT b18,vT b19,vT b1a] kr rfl (fun _=>qAv kr _) rfl rfl st ⟨[vT eB],_,rfl,rfl,⟨[vT b14],_,rfl,rfl,⟨[vT b15],_,rfl,rfl,⟨[vT b16],_,rfl,rfl,⟨[vT b17],_,rfl,rfl,⟨[vT b18],_,rfl,rfl,⟨[vT b19],_,rfl,rfl,⟨[vT b1a],_,rfl,rfl,rfl⟩⟩⟩⟩⟩⟩⟩⟩ fun S v K p st V=> ?_);have b:=Mem.le_trans b p;refine⟨⟨.inr ⟨Inv.anti st.inv b,Piece.holds_anti st.t.h b,trivial⟩,trivial⟩,?_⟩;have⟨M,a8,i⟩:=qAz i;refine qHu (t:=43) (e:=9) (x:=(.tmp 78)) (y:=(.tmp 80)) 12 81 cStr kr rfl kr (.head _) (qBb (qAo qDj)) (ev (.slice (aP S) (List.length ([eB,b14,b15,b16,b17,b18,b19,b1a])) 8)) (ev (vI c.2.2.1)) kr V a8 ?_;rintro F H a5 rfl z
         refine qBv 13 kr (qAw (d:=82) (t:=9) (x:=(.tmp 81)) (vT M) kr rfl (ev (vP F H)) st z kr (⟨⟨.inr ⟨Inv.anti st.inv b,Piece.holds_anti st.t.h b,trivial⟩,trivial⟩,?_⟩));refine qDx 9 9 77 82 14 83 (.head _) i fun Y i=> ?_;refine qDx 9 9 83 ((.const (vT b23))) 15 84 (.head _) i fun Z i=> ?_;refine qDx 9 9 84 92 24 93 (.head _) i fun D i=> ?_;refine qBa 25 10 (vT D) (.head _) (qCu kr ?_);have st:=st.t;refine qBc ?_;cases i;exact xE (s _ _ ⟨v,rfl,(q.t l).t p,st,(f.mono l).mono p⟩)
       ·replace i:=zOu i;refine qAu (d:=78) (t:=43) (e:=9) (len:=8) (parts:= #[(0,(.const (vT eB))),(1,(.const (vT b14))),(2,(.const (vT b15))),(3,(.const (vT b16))),(4,(.const (vT b17))),(5,(.const (vT b18))),(6,(.const (vT b19))),(7,(.const (vT b1a)))]) cStr (xs:=[eB,b14,b15,b16,b17,b18,b19,b1a]) [vT eB,vT b14,vT b15,vT b16,vT b17,vT b18,vT b19,vT b1a] kr rfl (fun _=>qAv kr _) rfl rfl st ⟨[vT eB],_,rfl,rfl,⟨[vT b14],_,rfl,rfl,⟨[vT b15],_,rfl,rfl,⟨[vT b16],_,rfl,rfl,⟨[vT b17],_,rfl,rfl,⟨[vT b18],_,rfl,rfl,⟨[vT b19],_,rfl,rfl,⟨[vT b1a],_,rfl,rfl,rfl⟩⟩⟩⟩⟩⟩⟩⟩ fun S m9 c5 B st V=> ?_;have q:=q.t B;have n:=n.mono B;have o:=o.mono B;have f:=f.mono B;have b:=Mem.le_trans b B;refine⟨⟨.inr ⟨Inv.anti st.inv b,Piece.holds_anti st.t.h b,trivial⟩,trivial⟩,?_⟩;have⟨M,a8,i⟩:=qAz i;refine qHu (t:=43) (e:=9) (x:=(.tmp 78)) (y:=(.tmp 80)) 12 81 cStr kr rfl kr (.head _) (qBb (qAo qDj)) (ev (.slice (aP S) (List.length ([eB,b14,b15,b16,b17,b18,b19,b1a])) 8)) (ev (vI c.2.2.1)) kr V a8 ?_;rintro F H a5 rfl z;refine qUd [7,13] kr (by simp) (qUg ?_ ?_)
        ·refine qCm 76 i (fun _ h=>a st n o h) ?_;rintro y4 i _ a0 ⟨U,rfl,l,st⟩;refine⟨_,rfl,?_⟩;have b:=Mem.le_trans b l;refine⟨⟨.inr ⟨Inv.anti st.inv b,Piece.holds_anti st.t.h b,trivial⟩,trivial⟩,?_⟩;refine qDx 9 9 76 ((.const (vT b23))) 8 77 (.head _) i fun s6 i=> ?_;refine qUd [13,23] kr (by simp) (qUg ?_ ?_)
         ·refine qAw (d:=82) (t:=9) (x:=(.tmp 81)) (vT M) kr rfl (ev (vP F H)) st (z.mono l) kr ?_;refine⟨⟨.inr ⟨Inv.anti st.inv b,Piece.holds_anti st.t.h b,trivial⟩,trivial⟩,?_⟩;refine qDx 9 9 77 82 14 83 (.head _) i fun Y i=> ?_;refine qDx 9 9 83 ((.const (vT b23))) 15 84 (.head _) i fun Z i=> ?_;refine qBv 23 kr (qCm 92 i (fun _ h=>a st (n.mono l) (o.mono l) h) ?_);rintro y5 i _ K ⟨v,rfl,p,st⟩;refine⟨_,rfl,?_⟩;have b:=Mem.le_trans b p;refine⟨⟨.inr ⟨Inv.anti st.inv b,Piece.holds_anti st.t.h b,trivial⟩,trivial⟩,?_⟩;refine qDx 9 9 84 92 24 93 (.head _) i fun D i=> ?_;refine qBa 25 10 (vT D) (.head _) (qCu kr ?_);have st:=st.t;refine qBc ?_;cases i;exact xE (s _ _ ⟨v,rfl,(q.t l).t p,st,(f.mono l).mono p⟩)
         ·replace i:=zOu i;refine qCm 92 i (fun _ h=>a st (n.mono l) (o.mono l) h) ?_;rintro y5 i _ K ⟨v,rfl,p,st⟩;refine⟨_,rfl,?_⟩;have b:=Mem.le_trans b p;refine⟨⟨.inr ⟨Inv.anti st.inv b,Piece.holds_anti st.t.h b,trivial⟩,trivial⟩,?_⟩;refine qBv 13 kr (qAw (d:=82) (t:=9) (x:=(.tmp 81)) (vT M) kr rfl (ev (vP F H)) st ((z.mono l).mono p) kr (⟨⟨.inr ⟨Inv.anti st.inv b,Piece.holds_anti st.t.h b,trivial⟩,trivial⟩,?_⟩));refine qDx 9 9 77 82 14 83 (.head _) i fun Y i=> ?_;refine qDx 9 9 83 ((.const (vT b23))) 15 84 (.head _) i fun Z i=> ?_;refine qDx 9 9 84 92 24 93 (.head _) i fun D i=> ?_;refine qBa 25 10 (vT D) (.head _) (qCu kr ?_);have st:=st.t;refine qBc ?_;cases i;exact xE (s _ _ ⟨v,rfl,(q.t l).t p,st,(f.mono l).mono p⟩)
        ·refine qAw (d:=82) (t:=9) (x:=(.tmp 81)) (vT M) kr rfl (ev (vP F H)) st z kr ?_;refine⟨⟨.inr ⟨Inv.anti st.inv b,Piece.holds_anti st.t.h b,trivial⟩,trivial⟩,?_⟩;refine qBv 7 kr (qCm 76 i (fun _ h=>a st n o h) ?_);rintro y4 i _ a0 ⟨U,rfl,l,st⟩;refine⟨_,rfl,?_⟩;have b:=Mem.le_trans b l;refine⟨⟨.inr ⟨Inv.anti st.inv b,Piece.holds_anti st.t.h b,trivial⟩,trivial⟩,?_⟩;refine qDx 9 9 76 ((.const (vT b23))) 8 77 (.head _) i fun s6 i=> ?_;refine qDx 9 9 77 82 14 83 (.head _) i fun Y i=> ?_;refine qDx 9 9 83 ((.const (vT b23))) 15 84 (.head _) i fun Z i=> ?_;refine qBv 23 kr (qCm 92 i (fun _ h=>a st (n.mono l) (o.mono l) h) ?_);rintro y5 i _ K ⟨v,rfl,p,st⟩;refine⟨_,rfl,?_⟩;have b:=Mem.le_trans b p;refine⟨⟨.inr ⟨Inv.anti st.inv b,Piece.holds_anti st.t.h b,trivial⟩,trivial⟩,?_⟩;refine qDx 9 9 84 92 24 93 (.head _) i fun D i=> ?_;refine qBa 25 10 (vT D) (.head _) (qCu kr ?_);have st:=st.t;refine qBc ?_;cases i;exact xE (s _ _ ⟨v,rfl,(q.t l).t p,st,(f.mono l).mono p⟩)
      ·intro b;refine W_if i ?_ ?_
       ·intro A i;refine qAm (qAa 1 [(14,vI 2)] (qAx rfl ?_));cases i;exact xE (b _ _ ⟨m7,rfl,q.t G,st,n.mono G,o.mono G,f.mono G⟩)
       ·intro A i;refine qAn ?_;cases i;exact xE (b _ _ ⟨m7,rfl,q.t G,st,n.mono G,o.mono G,f.mono G⟩)
     ·intro A i;refine W_sr (qAd 2 [(94,vB (c.1==5))] (W_if i ?_ ?_))
      ·intro A i;refine qFr [(27,fun w'=>Inv m w'∧Piece.holds m w' (kB u (Vd c g k) 164)∧True)] kr st fun c9 _ st=> ?_;have b:=m.le_refl;refine⟨⟨.inr ⟨Inv.anti st.inv b,Piece.holds_anti st.h b,trivial⟩,trivial⟩,?_⟩;refine qBa 0 96 (vS a1 p0 c1) (.head _) (qBa 1 97 (vP u 4) (.head _) (qKa 22 97 2 98 4 (vS g c.2.2.2.2 k) (.head _) (fun _ h=>h.2.1) ?_));have⟨U,z,i⟩:=qAz i;refine qHu (t:=22) (e:=3) (x:=(.tmp 98)) (y:=(.const (vI 0))) 3 99 (cInt .i64) kr rfl kr (.head _) (qBb (qAo qDj)) (ev (vS g c.2.2.2.2 k)) (ev (vI 0)) kr f z ?_;rintro b9 M a5 rfl E;refine qJb 3 99 4 100 M (vI U) (.head _) (fun _ h=>h.1) E (qBa 5 101 (vS a2 p2 c2) (.head _) (qBa 9 105 (vS a1 p0 c1) (.head _) (qBa 10 106 (vP u 4) (.head _) (qKa 22 106 11 107 4 (vS g c.2.2.2.2 k) (.head _) (fun _ h=>h.2.1) ?_))));have⟨V,B,i⟩:=qAz i;refine qHu (t:=22) (e:=3) (x:=(.tmp 107)) (y:=(.const (vI 1))) 12 108 (cInt .i64) kr rfl kr (.head _) (qBb (qAo qDj)) (ev (vS g c.2.2.2.2 k)) (ev (vI 1)) kr f B ?_;rintro Z R a6 rfl F;refine qJb 3 108 13 109 R (vI V) (.head _) (fun _ h=>h.1) F (qBa 14 110 (vS a2 p2 c2) (.head _) (qBa 18 114 (vS a1 p0 c1) (.head _) (qBa 19 115 (vP u 4) (.head _) (qKa 22 115 20 116 4 (vS g c.2.2.2.2 k) (.head _) (fun _ h=>h.2.1) ?_))));have⟨Y,D,i⟩:=qAz i
       refine qHu (t:=22) (e:=3) (x:=(.tmp 116)) (y:=(.const (vI 2))) 21 117 (cInt .i64) kr rfl kr (.head _) (qBb (qAo qDj)) (ev (vS g c.2.2.2.2 k)) (ev (vI 2)) kr f D ?_;rintro a0 S a7 rfl G;refine qJb 3 117 22 118 S (vI Y) (.head _) (fun _ h=>h.1) G (qBa 23 119 (vS a2 p2 c2) (.head _) (qBv 6 kr (qCm 102 i (fun _ h=>a st n o h) ?_)));rintro y6 i _ d0 ⟨a8,rfl,l,st⟩;refine⟨_,rfl,?_⟩;have b:=Mem.le_trans b l;refine⟨⟨.inr ⟨Inv.anti st.inv b,Piece.holds_anti st.h b,trivial⟩,trivial⟩,?_⟩;refine qDx 9 9 ((.const (vT (⟨#[105,102,32]⟩:ByteArray)))) 102 7 103 (.head _) i fun c0 i=> ?_;refine qDx 9 9 103 ((.const (vT (⟨#[32,116,104,101,110,32]⟩:ByteArray)))) 8 104 (.head _) i fun c5 i=> ?_;refine qBv 15 kr (qCm 111 i (fun _ h=>a st (n.mono l) (o.mono l) h) ?_);rintro y7 i _ d1 ⟨b0,rfl,p,st⟩;refine⟨_,rfl,?_⟩;have b:=Mem.le_trans b p;refine⟨⟨.inr ⟨Inv.anti st.inv b,Piece.holds_anti st.h b,trivial⟩,trivial⟩,?_⟩;refine qDx 9 9 104 111 16 112 (.head _) i fun c7 i=> ?_;refine qDx 9 9 112 ((.const (vT (⟨#[32,101,108,115,101,32]⟩:ByteArray)))) 17 113 (.head _) i fun c8 i=> ?_;refine qBv 24 kr (qCm 120 i (fun _ h=>a st ((n.mono l).mono p) ((o.mono l).mono p) h) ?_);rintro y8 i _ d2 ⟨H,rfl,v,st⟩;refine⟨_,rfl,?_⟩;have b:=Mem.le_trans b v
       refine⟨⟨.inr ⟨Inv.anti st.inv b,Piece.holds_anti st.h b,trivial⟩,trivial⟩,?_⟩;refine qDx 9 9 113 120 25 121 (.head _) i fun K i=> ?_;refine qBa 26 10 (vT K) (.head _) (qCu kr (qBc ?_));cases i;exact xE (s _ _ ⟨H,rfl,((q.t l).t p).t v,st,((f.mono l).mono p).mono v⟩)
      ·intro A i;refine W_sr (qAd 2 [(122,vB (c.1==6))] (W_if i ?_ ?_))
       ·intro A i;refine qFr [(14,fun w'=>Inv m w'∧Piece.holds m w' (kB u (Vd c g k) 164)∧True)] kr st fun R _ st=> ?_;have b:=m.le_refl;refine⟨⟨.inr ⟨Inv.anti st.inv b,Piece.holds_anti st.h b,trivial⟩,trivial⟩,?_⟩;refine qBa 0 124 (vP u 3) (.head _) (qKa 9 124 1 125 3 (vT c.2.2.2.1) (.head _) (fun _ h=>h.2.1) (qDx 9 9 ((.const (vT (⟨#[114,101,97,100,40,34]⟩:ByteArray)))) 125 2 126 (.head _) i fun H i=>(qDx 9 9 126 ((.const (vT (⟨#[34,44,32]⟩:ByteArray)))) 3 127 (.head _) i fun K i=>(qBa 4 128 (vS a1 p0 c1) (.head _) (qBa 5 129 (vP u 4) (.head _) (qKa 22 129 6 130 4 (vS g c.2.2.2.2 k) (.head _) (fun _ h=>h.2.1) ?_))))));have⟨E,v,i⟩:=qAz i;refine qHu (t:=22) (e:=3) (x:=(.tmp 130)) (y:=(.const (vI 0))) 7 131 (cInt .i64) kr rfl kr (.head _) (qBb (qAo qDj)) (ev (vS g c.2.2.2.2 k)) (ev (vI 0)) kr f v ?_;rintro G z F rfl p;refine qJb 3 131 8 132 z (vI E) (.head _) (fun _ h=>h.1) p (qBa 9 133 (vS a2 p2 c2) (.head _) (qBv 10 kr (qCm 134 i (fun _ h=>a st n o h) ?_)));rintro U i _ S ⟨B,rfl,l,st⟩;refine⟨_,rfl,?_⟩;have b:=Mem.le_trans b l;refine⟨⟨.inr ⟨Inv.anti st.inv b,Piece.holds_anti st.h b,trivial⟩,trivial⟩,?_⟩;refine qDx 9 9 127 134 11 135 (.head _) i fun M i=> ?_;refine qDx 9 9 135 ((.const (vT bw))) 12 136 (.head _) i fun D i=> ?_
        refine qBa 13 10 (vT D) (.head _) (qCu kr (qBc ?_));cases i;exact xE (s _ _ ⟨B,rfl,q.t l,st,f.mono l⟩)
       ·intro A i;refine W_sr (qAd 2 [(137,vB (c.1==7))] (W_if i ?_ ?_))
        ·intro A i;refine qAm (qDe 1 140 9 139 3 (vT c.2.2.2.1) st.h (qAb rfl (qCh 141 9 9 ((.const (vT (⟨#[115,105,122,101,40,34]⟩:ByteArray)))) 140 i fun l i=>(qAb rfl (qCh 142 9 9 141 ((.const (vT bv))) i fun b i=>(qAa 1 [(10,vT b)] (qAx rfl (qBc ?_))))))));cases i;exact xE (s _ _ ⟨m,rfl,q,st,f⟩)
        ·intro A i;refine W_sr (qAd 2 [(143,vB (c.1==8))] (W_if i ?_ ?_))
         ·intro A i;refine qAm (qDe 1 146 9 145 3 (vT c.2.2.2.1) st.h (qAb rfl (qCh 147 9 9 ((.const (vT (⟨#[104,97,115,40,34]⟩:ByteArray)))) 146 i fun l i=>(qAb rfl (qCh 148 9 9 147 ((.const (vT bv))) i fun b i=>(qAa 1 [(10,vT b)] (qAx rfl (qBc ?_))))))));cases i;exact xE (s _ _ ⟨m,rfl,q,st,f⟩)
         ·intro A i;refine W_sr (qAd 2 [(149,vB (c.1==9))] (W_if i ?_ ?_))
          ·intro A i;refine qAm (qDe 1 152 9 151 3 (vT c.2.2.2.1) st.h (qAb rfl (qCh 153 9 9 ((.const (vT (⟨#[101,110,118,40,34]⟩:ByteArray)))) 152 i fun l i=>(qAb rfl (qCh 154 9 9 153 ((.const (vT bv))) i fun b i=>(qAa 1 [(10,vT b)] (qAx rfl (qBc ?_))))))));cases i;exact xE (s _ _ ⟨m,rfl,q,st,f⟩)
          ·intro A i;refine W_sr (qAd 2 [(155,vB (c.1==10))] (W_if i ?_ ?_))
           ·intro A i;refine qAm (qDe 1 158 3 157 1 (vI c.2.1) st.h (qAj 159 i (fun _ h=>qLl st h) ?_));rintro B i _ z ⟨l,rfl,b,st⟩;refine qAb rfl (qCh 160 9 9 ((.const (vT (⟨#[102,108,105,112,40]⟩:ByteArray)))) 159 i fun v i=>(qAb rfl (qCh 161 9 9 160 ((.const (vT bw))) i fun p i=>(qAa 1 [(10,vT p)] (qAx rfl (qBc ?_))))));cases i;exact xE (s _ _ ⟨l,rfl,q.t b,st,f.mono b⟩)
           ·intro A i;refine qAn (qBc ?_);cases i;exact xE (s _ _ ⟨m,rfl,q,st,f⟩)
theorem qMx(N:Nat):∀D:Nat,(∀{m:Mem} {O:List Piece} {w:World} {p0:T1g} {p1:Int} {p2:Tb} {p3:Int} {a:Option Addr} {c:Nat} {b:Option Addr} {d:Nat} {r:ByteArray} (st:St m (O) w) (f:RepS C6 m a c p0) (g:RepS cStr m b d p2) (i:(qFu N D) p0 p1 p2 p3=some r),Calls Tryz.prog 119 #[vS a p0 c,vI p1,vS b p2 d,vI p3] w fun e w'=>∃m',e= .returned (vT r)∧m.le m'∧St m' (O) w')
 |0=>fun _ _ _ i=>(by cases i)
 |D+1=>fun st f g i=>qQz (qMx N D) st f g i
theorem qSv{p0:T1g}{p1:Int}{p2:Tb}{p3:Int}{r:ByteArray}(st:St m (O) w)(a:RepS C6 m a1 c1 p0)(b:RepS cStr m a2 c2 p2)(i:qLg N p0 p1 p2 p3=some r):Calls Tryz.prog 119 #[vS a1 p0 c1,vI p1,vS a2 p2 c2,vI p3] w fun e w'=>∃m',e= .returned (vT r)∧m.le m'∧St m' (O) w':=
 (qMx N N) st a b i
def qEm(N:Nat)(p0:T1n)(a:Tp):Option Tq:=
 if(decide (a.2<(List.length p0.2.2.1:Int)))=true then((idx p0.2.2.1 a.2).bind fun c=>(if(decide (a.2>0))=true then((catB a.1 (⟨#[44,32]⟩:ByteArray)).bind fun b=>some b) else(some a.1):Tl).bind fun b=>(catB b c).bind fun b=>some (.inl (b,IntKind.wrap .i64 (a.2+1)))) else(some (.inr a.1))
def qKp(N:Nat)(p0:T1n):Tl:=
 (if(p0.1==1)=true then((catB (⟨#[102,117,110,99,32]⟩:ByteArray) p0.2.1).bind fun a=>(catB a (⟨#[40]⟩:ByteArray)).bind fun a=>(qAs (qEm N p0) N (a,0)).bind fun a=>(catB a (⟨#[41]⟩:ByteArray)).bind fun a=>some a) else(if(p0.1==2)=true then((catB (⟨#[116,101,115,116,32]⟩:ByteArray) p0.2.1).bind fun a=>some a) else(if(p0.1==3)=true then((catB (⟨#[103,101,110,32,34]⟩:ByteArray) p0.2.1).bind fun a=>(catB a (⟨#[34]⟩:ByteArray)).bind fun a=>some a) else(some (⟨#[]⟩:ByteArray)))):Tl).bind fun a=>(catB a (⟨#[32,61,32]⟩:ByteArray)).bind fun a=>(qLg N p0.2.2.2 (IntKind.wrap .i64 ((List.length p0.2.2.2:Int)-1)) p0.2.2.1 0).bind fun b=>(catB a b).bind fun a=>(catB a (⟨#[59,10]⟩:ByteArray)).bind fun a=>some a
theorem qUa{p0:T1n}{r:ByteArray}(st:St m (O) w)(c:RepS cStr m a1 c1 p0.2.2.1)(f:RepS C6 m a2 c2 p0.2.2.2)(i:qKp N p0=some r):Calls Tryz.prog 100 #[.agg (Vc p0 a1 c1 a2 c2)] w fun e w'=>∃m',e= .returned (vT r)∧m.le m'∧St m' (O) w':=by
 unfold qKp at i;have q:=m.le_refl;refine W_cA Tryz.func100 rfl Tryz.ntmps100 ?_;refine W_sr (qAb rfl (qHw 1 145 0 (.agg (Vc p0 a1 c1 a2 c2)) st fun b y w1 E st a=> ?_));have q:=q.t E;have c:=c.mono E;have f:=f.mono E;refine qAd 1 [] (W_sr (qAd 1 [(3,vT eB)] (qAq (W_sr (qAa 1 [(6,vP b 0)] (qCy 7 3 6 0 (vI p0.1) st a (WO_e ?_)))))));have⟨K,i,U⟩:=qAz i;refine qCf .normal (fun L' w'=>∃s,L'=[(1,vP b 0),(3,vT K)]∧m.le s∧St s (O) w'∧MRow s b 0 (Vg p0 a1 c1 a2 c2)∧P2 s a1 c1 a2 c2 p0.2.2) ?_ ?_
 ·have i:=U;rintro _ p ⟨s,rfl,q,st,a,c,f⟩;refine qAg (W_sr (qAa 1 [(43,vT K)] (qAb rfl (qCh 44 9 9 43 ((.const (vT (⟨#[32,61,32]⟩:ByteArray)))) i fun n i=>(qAa 1 [(45,vP b 3)] (qAb rfl (qAw (d:=46) (t:=136) (x:=(.tmp 45)) (vS a2 p0.2.2.2 c2) kr rfl (ev (vP b 3)) st (a.drop 3) kr (qAa 1 [(47,vP b 3)] (qAb rfl (qAw (d:=48) (t:=136) (x:=(.tmp 47)) (vS a2 p0.2.2.2 c2) kr rfl (ev (vP b 3)) st (a.drop 3) kr (qAa 3 [(50,vI (wr ((p0.2.2.2.length:Int)-1))),(51,vP b 2)] (qAb rfl (qAw (d:=52) (t:=43) (x:=(.tmp 51)) (vS a1 p0.2.2.1 c1) kr rfl (ev (vP b 2)) st (a.drop 2) kr (qAj 53 i (fun _ h=>qSv st f c h) ?_))))))))))))));rintro v i _ u ⟨l,rfl,k,st⟩;refine qAb rfl (qCh 54 9 9 44 53 i fun o i=>(qAb rfl (qCh 55 9 9 54 ((.const (vT b1b))) i fun g i=>(qAd 1 [(2,vT g)] (qBj ?_)))));obtain rfl:=sI i;exact X_rt [2] [vT g] ⟨l,rfl,q.t k,st⟩
 ·intro l;refine qAr (W_sr (qAd 2 [(8,vB (p0.1==1))] (W_if i ?_ ?_)))
  ·intro A i;refine W_sr (qAa 1 [(10,vP b 1)] (qAb rfl (qAw (d:=11) (t:=9) (x:=(.tmp 10)) (vT p0.2.1) kr rfl (ev (vP b 1)) st (a.drop 1) kr (qAb rfl (qCh 12 9 9 ((.const (vT (⟨#[102,117,110,99,32]⟩:ByteArray)))) 11 i fun s1 i=>(qAb rfl (qCh 13 9 9 12 ((.const (vT bx))) i fun R i=>(qAd 1 [(3,vT R)] (qAq (W_sr (qAa 1 [(14,vP b 2)] (qAb rfl (qAw (d:=15) (t:=43) (x:=(.tmp 14)) (vS a1 p0.2.2.1 c1) kr rfl (ev (vP b 2)) st (a.drop 2) kr (qAd 2 [(16,vI (p0.2.2.1.length:Int)),(17,vI 0)] (qAr ?_)))))))))))))));have⟨u,i,V⟩:=qAz i;refine qCf (.exit 1) (fun L' w'=>∃(z:ByteArray),∃n,z=u∧L'=[(1,vP b 0),(3,vT z)]∧m.le n∧St n (O) w'∧MRow n b 0 (Vg p0 a1 c1 a2 c2)∧P2 n a1 c1 a2 c2 p0.2.2) ?_ ?_
   ·rintro _ k ⟨z,n,rfl,rfl,q,st,a,c,f⟩;have i:=V;refine qBd (qAg (qAm (qAa 1 [(30,vT z)] (qAb rfl (qCh 31 9 9 30 ((.const (vT bw))) i fun g i=>(qAa 1 [(3,vT g)] (qAx rfl (qBc ?_))))))));cases i;exact xE (l _ _ ⟨n,rfl,q,st,a,c,f⟩)
   intro v;refine qEk _ kr (qDa (fun p L' w'=>∃(g:Tp),∃k,qAs (qEm N p0) p g=some u∧L'=[(1,vP b 0),(3,vT g.1),(15,vS a1 p0.2.2.1 c1),(16,vI (p0.2.2.1.length:Int)),(17,vI g.2)]∧m.le k∧St k (O) w'∧MRow k b 0 (Vg p0 a1 c1 a2 c2)∧P2 k a1 c1 a2 c2 p0.2.2) N ⟨(R,0),y,i,rfl,q,st,a,c,f⟩ ?_);rintro p _ w4 ⟨g,k,hL,rfl,q,st,a,c,f⟩;rcases p with _|p
   ·exact qBg hL
   ·obtain⟨a5,i,G,F⟩:=qBf hL;clear hL;unfold qEm at i;refine W_sr (qAd 1 [(18,vB (decide (g.2<(p0.2.2.1.length:Int))))] (qAq (W_if i ?_ ?_)))
    ·intro A i;refine qAn (qAg (qAq (qAr (W_sr (qAa 1 [(19,vI g.2)] (qAb rfl (qDi 20 43 9 15 17 c i ?_)))))));rintro B i b2 S a0 rfl H;refine qCy 21 9 20 S (vT B) st H (qAd 2 [(4,vI g.2),(5,vT B)] (qAq (W_sr (qAd 2 [(23,vB (decide (g.2>0)))] ?_))));have⟨M,i,Y⟩:=qAz i;refine qCf .normal (fun L' w'=>∃o,L'=[(1,vP b 0),(3,vT M),(5,vT B),(15,vS a1 p0.2.2.1 c1),(16,vI (p0.2.2.1.length:Int)),(17,vI g.2)]∧m.le o∧St o (O) w'∧MRow o b 0 (Vg p0 a1 c1 a2 c2)∧P2 o a1 c1 a2 c2 p0.2.2) ?_ ?_
     ·have i:=Y;rintro _ Z ⟨o,rfl,q,st,a,c,f⟩;refine qAg (qAm (qAa 2 [(26,vT M),(27,vT B)] (qAb rfl (qCh 28 9 9 26 27 i fun D i=>(qAa 1 [(3,vT D)] (qAx rfl (qBc (qAg (qAm (qAa 2 [(17,vI (wr (g.2+1)))] (qAx rfl ?_)))))))))));obtain rfl:=sI i;have hL:=G _ rfl;exact xE (qCd p (jG _) ⟨(D,wr (g.2+1)),o,hL,rfl,q,st,a,c,f⟩)
     ·intro D;refine W_if i ?_ ?_
      ·intro A i;refine qAm (qAa 1 [(24,vT g.1)] (qAb rfl (qCh 25 9 9 24 ((.const (vT bz))) i fun Z i=>(qAa 1 [(3,vT Z)] (qAx rfl ?_)))));cases i;exact xE (D _ _ ⟨k,rfl,q,st,a,c,f⟩)
      ·intro A i;refine qAn ?_;cases i;exact xE (D _ _ ⟨k,rfl,q,st,a,c,f⟩)
    ·intro A i;refine qCv (qAe ?_);cases i;have ho:=F _ rfl;refine qAe ?_;exact xE (v _ _ ⟨g.1,k,ho,rfl,q,st,a,c,f⟩)
  ·intro A i;refine W_sr (qAd 2 [(32,vB (p0.1==2))] (W_if i ?_ ?_))
   ·intro A i;refine qAm (qAa 1 [(34,vP b 1)] (qAb rfl (qAw (d:=35) (t:=9) (x:=(.tmp 34)) (vT p0.2.1) kr rfl (ev (vP b 1)) st (a.drop 1) kr (qAb rfl (qCh 36 9 9 ((.const (vT (⟨#[116,101,115,116,32]⟩:ByteArray)))) 35 i fun g i=>(qAa 1 [(3,vT g)] (qAx rfl (qBc ?_))))))));cases i;exact xE (l _ _ ⟨y,rfl,q,st,a,c,f⟩)
   ·intro A i;refine W_sr (qAd 2 [(37,vB (p0.1==3))] (W_if i ?_ ?_))
    ·intro A i;refine qAm (qAa 1 [(39,vP b 1)] (qAb rfl (qAw (d:=40) (t:=9) (x:=(.tmp 39)) (vT p0.2.1) kr rfl (ev (vP b 1)) st (a.drop 1) kr (qAb rfl (qCh 41 9 9 ((.const (vT (⟨#[103,101,110,32,34]⟩:ByteArray)))) 40 i fun k i=>(qAb rfl (qCh 42 9 9 41 ((.const (vT b1h))) i fun g i=>(qAa 1 [(3,vT g)] (qAx rfl (qBc ?_))))))))));cases i;exact xE (l _ _ ⟨y,rfl,q,st,a,c,f⟩)
    ·intro A i;refine qAn (qBc ?_);cases i;exact xE (l _ _ ⟨y,rfl,q,st,a,c,f⟩)
def qKn(N:Nat)(p0:T1p)(p1:Int):Option Tp:=
 (qJv N p0).bind fun a=>if(a !=0)=true then(some ((⟨#[]⟩:ByteArray),a)) else((if(decide (p1<0))=true then(some true) else(some (decide (p1≥(List.length p0.2.2:Int)))):Tk).bind fun a=>if a=true then(some ((⟨#[]⟩:ByteArray),3)) else((idx p0.2.2 p1).bind fun a=>(qKq N p0).bind fun b=>(qKp N a).bind fun a=>(catB b a).bind fun a=>some (a,0)))
theorem qTe{p0:T1p}{p1:Int}{r:Tp}(st:St m (O) w)(g:RepS cStr m a1 c1 p0.2.1)(f:RepS C7 m a2 c2 p0.2.2)(i:qKn N p0 p1=some r):Calls Tryz.prog 71 #[.agg (Vb p0 a1 c1 a2 c2),vI p1] w fun e w'=>∃m',e= .returned (.tuple #[vT r.1,vI r.2])∧m.le m'∧St m' (O) w':=by
 unfold qKn at i;have q:=m.le_refl;refine W_cA Tryz.func71 rfl Tryz.ntmps71 ?_;refine W_sr (qAb rfl (qHw 2 85 0 (.agg (Vb p0 a1 c1 a2 c2)) st fun l m1 w1 p st b=> ?_));have g:=g.mono p;have f:=f.mono p;refine qAd 2 [] (qAq (W_sr (qCy 7 85 2 0 (.agg (Vb p0 a1 c1 a2 c2)) st b (qAj 8 i (fun _ h=>qSs (p0:=p0) st g f h) ?_))));rintro o i _ w2 ⟨s,rfl,k,st⟩;have q:=(q.t p).t k;have b:=b.mono k;refine qAd 1 [(6,vI o)] (W_sr (qAd 2 [(10,vB (o !=0))] (W_if i ?_ ?_)))
 ·intro A i;refine W_sr (qAd 3 [(4,vT eB),(5,vI o)] (qBj (qAc ?_)));obtain rfl:=sI i;exact X_rt [4,5] [vT eB,vI o] ⟨s,rfl,q,st⟩
 ·intro A i;refine qAn (qAg (qAq (W_sr ?_)));have⟨S,i,J⟩:=qAz i;refine qDo (j:=9) (fun L' w'=>∃c,L'=[(1,vI p1),(2,vP l 0),(20,vB S)]∧m.le c∧St c (O) w'∧MRow c l 0 (Vf p0 a1 c1 a2 c2)∧P5 c a1 c1 a2 c2 p0.2) ?_ ?_
  ·have i:=J;rintro _ w3 ⟨c,rfl,q,st,b,g,f⟩;refine WO_e (W_if i ?_ ?_)
   ·intro A i;refine W_sr (qAd 2 [(4,vT eB),(5,vI 3)] (qBj (qAc ?_)));cases i;exact X_rt [4,5] [vT eB,vI 3] ⟨c,rfl,q,st⟩
   ·intro A i;refine qAn (qAg (qAq (qFr [(11,fun w'=>Inv c w'∧True)] kr st fun w4 _ st=> ?_)));have a:=c.le_refl;refine tA st a ?_;refine qJb 85 2 0 21 0 (.agg (Vb p0 a1 c1 a2 c2)) (.head _) (fun _ h=>h.1) b (qBa 2 23 (vP l 2) (.head _) (qJb 83 23 3 24 2 (vS a2 p0.2.2 c2) (.head _) (fun _ h=>h.1) (b.drop 2) (qBa 4 25 (vI p1) (.head _) ?_)));have⟨B,H,i⟩:=qAz i;refine qHu (t:=83) (e:=145) (x:=(.tmp 24)) (y:=(.tmp 25)) 5 26 C7 kr rfl kr (.head _) (qAo qDj) (ev (vS a2 p0.2.2 c2)) (ev (vI p1)) kr f H ?_;rintro Z M Y ⟨_,_,rfl,rfl,⟨_,_,rfl,rfl,⟨_,_,rfl,⟨D,F,rfl,U⟩,⟨E,G,rfl,V⟩⟩⟩⟩ v;refine qJb 145 26 6 27 M (.agg (Vc B D F E G)) (.head _) (fun _ h=>h.1) v (qBv 1 kr (qCm 22 i (fun _ h=>qTo (p0:=p0) st g f h) ?_));rintro y2 i _ w5 ⟨m4,rfl,n,st⟩;refine⟨_,rfl,?_⟩;have a:=Mem.le_trans a n;refine tA st a ?_;refine qBv 7 kr (qCm 28 i (fun _ h=>qUa (p0:=B) st (U.mono n) (V.mono n) h) ?_);rintro y3 i _ w6 ⟨R,rfl,u,st⟩;refine⟨_,rfl,?_⟩;have a:=Mem.le_trans a u;refine tA st a ?_;refine qDx 9 9 22 28 8 29 (.head _) i fun z i=> ?_;refine qBa 9 4 (vT z) (.head _) (qBa 10 5 (vI 0) (.head _) (qCu kr (qAg (qBj ?_))));obtain rfl:=sI i;exact X_rt [4,5] [vT z,vI 0] ⟨R,rfl,(q.t n).t u,st⟩
  ·intro K;refine qAa 3 [(14,vB (decide (p1<0)))] (qCz 14 i ?_ ?_)
   ·intro A i;refine qAa 6 [(20,vB true)] ?_;cases i;exact qBe _ kr (K _ _ ⟨s,rfl,q,st,b,g.mono k,f.mono k⟩)
   ·intro A i;refine qAa 2 [(15,vI p1),(16,vP l 2)] (qAb rfl (qAw (d:=17) (t:=83) (x:=(.tmp 16)) (vS a2 p0.2.2 c2) kr rfl (ev (vP l 2)) st (b.drop 2) kr (qAa 3 [(20,vB (decide (p1≥(p0.2.2.length:Int))))] ?_)));cases i;exact qBe _ kr (K _ _ ⟨s,rfl,q,st,b,g.mono k,f.mono k⟩)
def qDd(N:Nat)(p0:T21)(p1:Int)(p2:ByteArray)(p3:ByteArray):Tl:=
 (qEv N p0 p1 p2 p3).bind fun a=>if(a.2.2.2.2.2==0)=true then(some (⟨#[45]⟩:ByteArray)) else(if(decide (a.2.2.2.2.2>1))=true then(some (⟨#[63]⟩:ByteArray)) else((qJj N p0 a).bind fun a=>(qKn N a.1 a.2).bind fun a=>(catB (⟨#[61]⟩:ByteArray) a.1).bind fun a=>some a))
theorem qLj{p0:T21}{p1:Int}{p2:ByteArray}{p3:ByteArray}{r:ByteArray}(st:St m (O) w)(p:RepS cStr m a1 c1 p0.1)(s:RepS C8 m a2 c2 p0.2)(i:qDd N p0 p1 p2 p3=some r):Calls Tryz.prog 50 #[.agg (Vh p0 a1 c1 a2 c2),vI p1,vT p2,vT p3] w fun e w'=>∃m',e= .returned (vT r)∧m.le m'∧St m' (O) w':=by
 unfold qDd at i;have q:=m.le_refl;refine W_cA Tryz.func50 rfl Tryz.ntmps50 ?_;refine W_sr (qAb rfl (qHw 4 71 0 (.agg (Vh p0 a1 c1 a2 c2)) st fun E H M c st f=>(qAd 1 [] (W_sr (qCy 14 71 4 0 (.agg (Vh p0 a1 c1 a2 c2)) st f (qAa 3 [(15,vI p1),(16,vT p2),(17,vT p3)] (qAj 18 i (fun _ h=>qSl (p0:=p0) st (p.mono c) (s.mono c) h) ?_)))))));rintro a i _ R ⟨o,rfl,d,st⟩;have q:=(q.t c).t d;refine qAb rfl (qDn 9 109 (.agg (Vj eB eB 0 eB 0 0)) st fun F S st=>(qAb rfl (qCn 109 9 18 (.agg (Vi a)) st fun U st=>(WO_e (qAq (qAr (W_sr (qDe 1 21 3 20 5 (vI a.2.2.2.2.2) st.h (qAd 2 [(19,vB (a.2.2.2.2.2==0))] (W_if i ?_ ?_))))))))))
 ·intro A i;refine W_sr (qAd 1 [(8,vT b15)] (qBj (qAf (qAc ?_))));cases i;exact X_rt [8] [vT b15] ⟨o,rfl,q,st.t⟩
 ·intro A i;refine W_sr (qDe 1 25 3 24 5 (vI a.2.2.2.2.2) st.h (qAd 2 [(23,vB (decide (a.2.2.2.2.2>1)))] (W_if i ?_ ?_)))
  ·intro A i;refine W_sr (qAd 1 [(8,vT (⟨#[63]⟩:ByteArray))] (qBj (qAf (qAc ?_))));cases i;exact X_rt [8] [vT (⟨#[63]⟩:ByteArray)] ⟨o,rfl,q,st.t⟩
  ·intro A i;refine qAn (qBc (qAg (W_sr (qCy 28 71 4 0 (.agg (Vh p0 a1 c1 a2 c2)) st (f.mono d) (qAb rfl (qCk 29 109 9 0 (.agg (Vi a)) st.h (qAj 30 i (fun _ h=>qSc (p0:=p0) (p1:=a) st ((p.mono c).mono d) ((s.mono c).mono d) h) ?_)))))));rintro b i _ V ⟨g,l,k,n,K,rfl,x,st,B,D⟩;refine qAa 3 [(31,.agg (Vb b.1 g l k n)),(32,vI b.2)] (qAb rfl (qDn 10 85 (.agg #[vT eB,v2,v2]) st fun G Y st=>(qAb rfl (qCn 85 10 31 (.agg (Vb b.1 g l k n)) st fun Z st=>(qAd 1 [(11,vI b.2)] (W_sr (qAb rfl (qCk 34 85 10 0 (.agg (Vb b.1 g l k n)) st.h (qAa 1 [(35,vI b.2)] (qAj 36 i (fun _ h=>qTe (p0:=b.1) st B D h) ?_))))))))));rintro v i _ w8 ⟨z,rfl,y,st⟩;refine qAd 5 [(12,vT v.1)] (W_sr (qAa 1 [(39,vT v.1)] (qAb rfl (qCh 40 9 9 ((.const (vT b24))) 39 i fun u i=>(qAd 1 [(8,vT u)] (qBj ?_))))));obtain rfl:=sI i;exact X_rt [8] [vT u] ⟨z,rfl,(q.t x).t y,st.t.t⟩
def qIn(N:Nat)(p0:T11)(p1:ByteArray)(a:Int):Option (Int⊕Unit⊕Int×Bool):=
 if(decide (a<(List.length p0:Int)))=true then((idx p0 a).bind fun b=>if(b.1.toList==p1.toList)=true then(some (.inr (.inr ((b.2,true))))) else(some (.inl (IntKind.wrap .i64 (a+1))))) else(some (.inr (.inl ())))
def qIa(N:Nat)(p0:T11)(p1:ByteArray):Option (Int×Bool):=
 (qAs (qIn N p0 p1) N 0).bind fun a=>(match a with| .inl a=>some (0,false)| .inr (z)=>some z)
theorem qQk{p0:T11}{p1:ByteArray}{r:Int×Bool}(st:St m (O) w)(n:RepS C3 m a1 c1 p0)(i:qIa N p0 p1=some r):Calls Tryz.prog 52 #[.agg #[vS a1 p0 c1],vT p1] w fun e w'=>∃m',e= .returned (.tuple #[vI r.1,vB r.2])∧m.le m'∧St m' (O) w':=by
 unfold qIa at i;have q:=m.le_refl;refine W_cA Tryz.func52 rfl Tryz.ntmps52 ?_;refine W_sr (qAb rfl (qHw 2 33 0 (.agg #[vS a1 p0 c1]) st fun y B H p st s=>(qAd 2 [] (qAq (W_sr (qAa 1 [(8,vP y 0)] (qCy 9 31 8 0 (vS a1 p0 c1) st s (qAd 2 [(10,vI (p0.length:Int)),(11,vI 0)] (qAr ?_)))))))));have⟨g,i,v⟩:=qAz i;refine qCf (.exit 0) (fun L' w'=>∃(x:Unit),∃l,(.inl x)=g∧L'=[]∧m.le l∧St l (O) w') ?_ ?_
 ·rintro _ a ⟨x,l,rfl,rfl,q,st⟩;have i:=v;refine qBd (qAg (W_sr (qAd 2 [(4,vI 0),(5,vB false)] (qBj ?_))));cases i;exact X_rt [4,5] [vI 0,vB false] ⟨l,rfl,q,st⟩
 intro k;refine qEk _ kr (qDa (fun f L' w'=>∃(c:Int),∃b,qAs (qIn N p0 p1) f c=some g∧L'=[(1,vT p1),(9,vS a1 p0 c1),(10,vI (p0.length:Int)),(11,vI c)]∧m.le b∧St b (O) w'∧RepS C3 b a1 c1 p0) N ⟨0,B,i,rfl,q.t p,st,n.mono p⟩ ?_);rintro f _ K ⟨c,b,hL,rfl,q,st,n⟩;rcases f with _|f
 ·exact qBg hL
 ·obtain⟨E,i,o,d⟩:=qBf hL;clear hL;unfold qIn at i;refine W_sr (qAd 1 [(12,vB (decide (c<(p0.length:Int))))] (qAq (W_if i ?_ ?_)))
  ·intro A i;refine qAn (qAg (qAq (qAr (W_sr (qAb rfl (qDi 13 31 61 9 11 n i ?_))))));rintro a i F z D ⟨_,_,rfl,rfl,rfl⟩ u;refine qCy 14 61 13 z (.agg #[vT a.1,vI a.2]) st u (qAb rfl (qDn 7 61 (.agg #[vT eB,vI 0]) st fun G M st=>(qAb rfl (qCn 61 7 14 (.agg #[vT a.1,vI a.2]) st fun R st=>(WO_e (W_sr (qDe 1 16 9 15 0 (vT a.1) st.h (qAd 2 [(18,vB (a.1.toList==p1.toList))] (W_if i ?_ ?_)))))))))
   ·intro A i;refine W_sr (qDe 1 20 3 19 1 (vI a.2) st.h (qAd 2 [(4,vI a.2),(5,vB true)] (qBj (qAf (qAc ?_)))));cases i;have ho:=d _ rfl;subst ho;have i:=v;refine qAc (qAf (qAc ?_));cases i;exact X_rt [4,5] [vI a.2,vB true] ⟨b,rfl,q,st.t⟩
   ·intro A i;refine qAn (qBc (qAg (qAm (qAa 2 [(11,vI (wr (c+1)))] (qAx rfl ?_)))));obtain rfl:=sI i;have hL:=o _ rfl;exact xE (qCd f (jG _) ⟨wr (c+1),b,hL,rfl,q,st.t,n⟩)
  ·intro A i;refine qCv (qAe ?_);cases i;have ho:=d _ rfl;refine qAe ?_;exact xE (k _ _ ⟨(),b,ho,rfl,q,st⟩)
def qFn(N:Nat)(a:Int×Tv):Option (Int×Tv⊕Int×Tv):=
 if(decide (a.1≥128))=true then((qEb 1 a.2 ([toU8 (IntKind.wrap .u8 ((IntKind.wrap .u8 (Int.tmod a.1 128))+128))])).bind fun b=>some (.inl (IntKind.wrap .u64 (Int.tdiv a.1 128),b))) else(some (.inr a))
def qIv(N:Nat)(p0:Tv)(p1:Int):Option Tv:=
 (qEb 1 ([]:Tv) p0).bind fun a=>(qAs (qFn N) N (p1,a)).bind fun a=>(qEb 1 a.2 ([toU8 (IntKind.wrap .u8 a.1)])).bind fun a=>some a
theorem qRg{p0:Tv}{p1:Int}{r:Tv}(st:St m (O) w)(V:RepS cU8 m a1 c1 p0)(i:qIv N p0 p1=some r):Calls Tryz.prog 74 #[vS a1 p0 c1,.int .u64 p1] w fun e w'=>∃o p m',e= .returned (vS o r p)∧m.le m'∧St m' (kR o r p 5 1::O) w'∧RepS cU8 m' o p r:=by
 unfold qIv at i;have q:=m.le_refl;refine W_cA Tryz.func74 rfl Tryz.ntmps74 ?_;refine W_sr (qAd 1 [] (W_sr (qAa 1 [(6,vS a1 p0 c1)] (qAb rfl (qHi 7 94 94 5 1 ((.const (v2))) 6 (st.nilroom 5 1) (.inl kr) (RepS.nil _ _) V.src i fun F i y B S w1 K st Y=>(qAd 1 [(5,vS y F B)] (qAq (qAr ?_))))))));have⟨n,i,R⟩:=qAz i;refine qCf (.exit 0) (fun L' w'=>∃(b:Int×Tv),∃g h u,b=n∧L'=[(1,.int .u64 b.1),(5,vS g b.2 h)]∧m.le u∧St u (kR g b.2 h 5 1::O) w'∧RepS cU8 u g h b.2) ?_ ?_
 ·rintro _ G ⟨b,g,h,u,rfl,rfl,q,st,v⟩;have i:=R;refine qBd (qAg (W_sr (qAa 3 [(19,vS g b.2 h),(21,.int .u8 (IntKind.wrap .u8 b.1))] (qAb rfl (qAu (d:=22) (t:=94) (e:=5) (len:=1) (parts:= #[(0,(.tmp 21))]) cU8 (xs:=[toU8 (IntKind.wrap .u8 b.1)]) [.int .u8 (IntKind.wrap .u8 b.1)] kr rfl (fun _=>qAv kr _) rfl rfl st ⟨[.int .u8 (IntKind.wrap .u8 b.1)],_,rfl,(qYq _),rfl⟩ fun D E H f st x=>(qAb rfl (qHi 23 94 94 5 1 19 22 st.f1 (.inl kr) (v.mono f) x.src i fun k i a c s M l st z=>(qAa 1 [(4,vS a k c)] (qAx rfl ?_)))))))));have st:=st.f1.t;refine qAg (qBj ?_);obtain rfl:=sI i;exact X_rt [4] [vS a k c] ⟨a,c,s,rfl,(q.t f).t l,st,z⟩
 intro s;refine qEk _ kr (qDa (fun k L' w'=>∃(a:Int×Tv),∃c f l,qAs (qFn N) k a=some n∧L'=[(1,.int .u64 a.1),(5,vS c a.2 f)]∧m.le l∧St l (kR c a.2 f 5 1::O) w'∧RepS cU8 l c f a.2) N ⟨(p1,F),y,B,S,i,rfl,q.t K,st,Y⟩ ?_);rintro k _ w3 ⟨a,c,f,l,hL,rfl,q,st,H⟩;rcases k with _|k
 ·exact qBg hL
 ·obtain⟨a0,i,x,v⟩:=qBf hL;clear hL;unfold qFn at i;refine qAq (W_sr (qAd 2 [(9,vB (decide (a.1≥128)))] (W_if i ?_ ?_)))
  ·intro A i;refine qAn (qAg (qAr (W_sr (qAa 5 [(10,vS c a.2 f),(14,.int .u8 (IntKind.wrap .u8 ((IntKind.wrap .u8 (Int.tmod a.1 128))+128)))] (qAb rfl (qAu (d:=15) (t:=94) (e:=5) (len:=1) (parts:= #[(0,(.tmp 14))]) cU8 (xs:=[toU8 (IntKind.wrap .u8 ((IntKind.wrap .u8 (Int.tmod a.1 128))+128))]) [.int .u8 (IntKind.wrap .u8 ((IntKind.wrap .u8 (Int.tmod a.1 128))+128))] kr rfl (fun _=>qAv kr _) rfl rfl st ⟨[.int .u8 (IntKind.wrap .u8 ((IntKind.wrap .u8 (Int.tmod a.1 128))+128))],_,rfl,(qYq _),rfl⟩ fun b1 m4 w4 E st Z=>(qAb rfl (qHi 16 94 94 5 1 10 15 st.f1 (.inl kr) (H.mono E) Z.src i fun G i z D U w5 M st r6=>(qAa 1 [(5,vS z G D)] (qAx rfl ?_))))))))));have st:=st.f1.t;refine qAg (qAm (qAa 3 [(1,.int .u64 (IntKind.wrap .u64 (Int.tdiv a.1 128)))] (qAx rfl (qBc ?_))));obtain rfl:=sI i;have hL:=x _ rfl;exact xE (qCd k (jG _) ⟨(IntKind.wrap .u64 (Int.tdiv a.1 128),G),z,D,U,hL,rfl,(q.t E).t M,st,r6⟩)
  ·intro A i;refine qCv (qAe ?_);obtain rfl:=sI i;have ho:=v _ rfl;refine qAe ?_;exact xE (s _ _ ⟨a,c,f,l,ho,rfl,q,st,H⟩)
def qEi(N:Nat)(p0:Tv)(p1:ByteArray):Option Tv:=
 (qIv N p0 (IntKind.wrap .u64 (ByteArray.size p1:Int))).bind fun a=>(qEb 1 a p1.data.toList).bind fun a=>some a
theorem qJc{p0:Tv}{p1:ByteArray}{r:Tv}(st:St m (O) w)(n:RepS cU8 m a1 c1 p0)(i:qEi N p0 p1=some r):Calls Tryz.prog 56 #[vS a1 p0 c1,vT p1] w fun e w'=>∃a b m',e= .returned (vS a r b)∧m.le m'∧St m' (kR a r b 5 1::O) w'∧RepS cU8 m' a b r:=by
 unfold qEi at i;have q:=m.le_refl;refine W_cA Tryz.func56 rfl Tryz.ntmps56 ?_;refine W_sr (qAd 1 [] (W_sr (qAa 4 [(5,vS a1 p0 c1),(8,.int .u64 (IntKind.wrap .u64 (p1.size:Int)))] (qAj 9 i (fun _ h=>qRg st n h) ?_))));rintro z i _ x ⟨s,u,v,rfl,g,st,o⟩;refine qAa 1 [(10,vT p1)] (qAb rfl (qHi 11 94 9 5 1 9 10 st (.inr kr) o (Gives.str _) i fun f i c d l y k st p=>(qAd 1 [(4,vS c f d)] (qBj ?_))));obtain rfl:=sI i;exact X_rt [4] [vS c f d] ⟨c,d,l,rfl,(q.t g).t k,st,p⟩
def qGe(N:Nat)(p0:Ts)(p1:T21)(p2:ByteArray)(a:T25):Option (T25⊕Tv):=
 if(decide (a.2<(List.length p1.2:Int)))=true then(((idx p1.2 a.2).bind fun b=>if(b.1.toList==p2.toList)=true then((idx p1.1 a.2).bind fun b=>(qHg N p0 b).bind fun c=>(idx p1.1 a.2).bind fun b=>(qEi N a.1 b).bind fun b=>(qEi N b c.1).bind fun b=>some b) else(some a.1):Option Tv).bind fun b=>some (.inl (b,IntKind.wrap .i64 (a.2+1)))) else(some (.inr a.1))
def qGm(N:Nat)(p0:Ts)(p1:T21)(p2:ByteArray):Tl:=
 (qAs (qGe N p0 p1 p2) N (([]:Tv),0)).bind fun a=>(catB (⟨#[61]⟩:ByteArray) (qFv a)).bind fun a=>some a
theorem qNp{p0:Ts}{p1:T21}{p2:ByteArray}{r:ByteArray}(st:St m (O) w)(v:RepS C1 m a1 c1 p0)(o:RepS cStr m a2 c2 p1.1)(z:RepS C8 m a3 c3 p1.2)(i:qGm N p0 p1 p2=some r):Calls Tryz.prog 54 #[.agg #[vS a1 p0 c1],.agg (Vh p1 a2 c2 a3 c3),vT p2] w fun e w'=>∃m',e= .returned (vT r)∧m.le m'∧St m' (O) w':=by
 unfold qGm at i;have q:=m.le_refl;refine W_cA Tryz.func54 rfl Tryz.ntmps54 ?_;refine W_sr (qAb rfl (qHw 3 28 0 (.agg #[vS a1 p0 c1]) st fun Y m1 w1 Z st f=>(qAb rfl (qHw 4 71 1 (.agg (Vh p1 a2 c2 a3 c3)) st fun n m2 w2 M st b=>(qAd 1 [] (W_sr (qAd 1 [(7,vS none ([]:Tv) 0)] (qAq (W_sr (qAa 1 [(12,vP n 1)] (qAb rfl (qAw (d:=13) (t:=69) (x:=(.tmp 12)) (vS a3 p1.2 c3) kr rfl (ev (vP n 1)) st (b.drop 1) kr (qAd 2 [(14,vI (p1.2.length:Int)),(15,vI 0)] (qAr ?_))))))))))))));have⟨U,i,j1⟩:=qAz i;refine qCf (.exit 0) (fun L' w'=>∃(u:Tv),∃D E S,u=U∧L'=[(7,vS D u E)]∧m.le S∧St S (kR D u E 5 1::O) w'∧RepS cU8 S D E u) ?_ ?_
 ·rintro _ g ⟨u,D,E,S,rfl,rfl,q,st,c⟩;have i:=j1;refine qBd (qAg (W_sr (qAa 1 [(44,vS D u E)] (qAb rfl (qTi (d:=45) (t1:=94) (t2:=9) (e:=5) (x:=(.tmp 44)) kr rfl (ev (vS D u E)) kr kr st c (qAb rfl (qCh 46 9 9 ((.const (vT b24))) 45 i fun a i=>(qAa 1 [(6,vT a)] (qAx rfl ?_)))))))));have st:=st.t;refine qAg (qBj ?_);obtain rfl:=sI i;exact X_rt [6] [vT a] ⟨S,rfl,q,st⟩
 intro V;refine qEk _ kr (qDa (fun R L' w'=>∃(a:T25),∃p s c,qAs (qGe N p0 p1 p2) R a=some U∧L'=[(2,vT p2),(3,vP Y 0),(4,vP n 0),(7,vS p a.1 s),(13,vS a3 p1.2 c3),(14,vI (p1.2.length:Int)),(15,vI a.2)]∧m.le c∧St c (kR p a.1 s 5 1::O) w'∧MRow c Y 0 [vS a1 p0 c1]∧RepS C1 c a1 c1 p0∧MRow c n 0 (Vk p1 a2 c2 a3 c3)∧RepS cStr c a2 c2 p1.1∧RepS C8 c a3 c3 p1.2∧RepS cU8 c p s a.1) N ⟨(([]:Tv),0),none,0,m2,i,rfl,(q.t Z).t M,(st.nilroom 5 1),f.mono M,(v.mono Z).mono M,b,(o.mono Z).mono M,(z.mono Z).mono M,(RepS.nil _ _)⟩ ?_);rintro R _ w4 ⟨a,p,s,c,hL,rfl,q,st,f,v,b,o,z,r5⟩;rcases R with _|R
 ·exact qBg hL
 ·obtain⟨d7,i,b9,b8⟩:=qBf hL;clear hL;unfold qGe at i;refine W_sr (qAd 1 [(16,vB (decide (a.2<(p1.2.length:Int))))] (qAq (W_if i ?_ ?_)))
  ·intro A i;refine qAn (qAg (qAq ?_));have⟨o2,i,j2⟩:=qAz i;refine qCf .normal (fun L' w'=>∃H K k,L'=[(2,vT p2),(3,vP Y 0),(4,vP n 0),(7,vS H o2 K),(13,vS a3 p1.2 c3),(14,vI (p1.2.length:Int)),(15,vI a.2)]∧m.le k∧St k (kR H o2 K 5 1::O) w'∧MRow k Y 0 [vS a1 p0 c1]∧RepS C1 k a1 c1 p0∧MRow k n 0 (Vk p1 a2 c2 a3 c3)∧RepS cStr k a2 c2 p1.1∧RepS C8 k a3 c3 p1.2∧RepS cU8 k H K o2) ?_ ?_
   ·have i:=j2;rintro _ l ⟨H,K,k,rfl,q,st,f,v,b,o,z,g⟩;refine qAg (qAm (qAa 2 [(15,vI (wr (a.2+1)))] (qAx rfl ?_)));obtain rfl:=sI i;have hL:=b9 _ rfl;exact xE (qCd R (jG _) ⟨(o2,wr (a.2+1)),H,K,k,hL,rfl,q,st,f,v,b,o,z,g⟩)
   ·intro a0;refine qAr (W_sr (qAa 1 [(17,vI a.2)] (qAb rfl (qDi 18 69 85 13 15 z i ?_))));rintro x1 i b3 f1 d4 ⟨_,_,rfl,rfl,⟨_,_,rfl,⟨a7,c7,rfl,r7⟩,⟨a8,c8,rfl,r8⟩⟩⟩ c0;refine qCy 19 85 18 f1 (.agg (Vb x1 a7 c7 a8 c8)) st c0 (qAb rfl (qDn 9 85 (.agg #[vT eB,v2,v2]) st fun b4 w6 st=>(qAa 1 [(8,vI a.2)] (qAb rfl (qCn 85 9 19 (.agg (Vb x1 a7 c7 a8 c8)) st fun w7 st=>(WO_e (W_sr (qDe 1 21 9 20 0 (vT x1.1) st.h (qAd 2 [(23,vB (x1.1.toList==p2.toList))] (W_if i ?_ ?_))))))))))
    ·intro A i;refine qAq (qFr [(12,fun w'=>Inv c w'∧True)] kr st fun w8 _ st=> ?_);have l:=c.le_refl;refine tA st l ?_;refine qJb 28 3 0 25 0 (.agg #[vS a1 p0 c1]) (.head _) (fun _ h=>h.1) f (qBa 1 26 (vP n 0) (.head _) (qJb 43 26 2 27 0 (vS a2 p1.1 c2) (.head _) (fun _ h=>h.1) b (qBa 3 28 (vI a.2) (.head _) ?_)));have⟨x2,d2,i⟩:=qAz i;refine qHu (t:=43) (e:=9) (x:=(.tmp 27)) (y:=(.tmp 28)) 4 29 cStr kr rfl kr (.head _) (qAo (qBb (qAo (qAo (qBb (qAo qDj)))))) (ev (vS a2 p1.1 c2)) (ev (vI a.2)) kr o d2 ?_;rintro b5 f2 d5 rfl d0;refine qJb 9 29 5 30 f2 (vT x2) (.head _) (fun _ h=>h.1) d0 (qBv 6 kr (qCm 31 i (fun _ h=>qLv st v h) ?_));rintro B i _ w9 ⟨m6,rfl,g,st⟩;refine⟨_,rfl,?_⟩;have l:=Mem.le_trans l g;refine tA st l ?_;refine qBa 7 24 (.tuple #[vT B.1,vB B.2]) (.head _) (qBa 8 32 (vT B.1) (.head _) (qBa 9 33 (vB B.2) (.head _) (qBa 10 10 (vT B.1) (.head _) (qBa 11 11 (vB B.2) (.head _) (qCu kr (qAg (qAm (qAa 2 [(34,vS p a.1 s),(35,vP n 0)] (qCy 36 43 35 0 (vS a2 p1.1 c2) st (b.mono g) (qAa 1 [(37,vI a.2)] (qAb rfl (qDi 38 43 9 36 37 (o.mono g) i ?_))))))))))));rintro x3 i b6 f3 d6 rfl d1;refine qCy 39 9 38 f3 (vT x3) st d1 (qAj 40 i (fun _ h=>qJc st (r5.mono g) h) ?_);rintro y2 i _ d8 ⟨a9,c9,m7,rfl,F,st,r9⟩
     refine qAa 1 [(41,vT B.1)] (qAj 42 i (fun _ h=>qJc st r9 h) ?_);rintro y3 i _ d9 ⟨b0,b7,m8,rfl,G,st,d3⟩;refine qAa 1 [(7,vS b0 y3 b7)] (qAx rfl ?_);have st:=st.f1.t.f2.t;refine qBc ?_;cases i;exact xE (a0 _ _ ⟨b0,b7,m8,rfl,((q.t g).t F).t G,st.f1.t,((f.mono g).mono F).mono G,((v.mono g).mono F).mono G,((b.mono g).mono F).mono G,((o.mono g).mono F).mono G,((z.mono g).mono F).mono G,d3⟩)
    ·intro A i;refine qAn (qBc ?_);cases i;exact xE (a0 _ _ ⟨p,s,c,rfl,q,st.t,f,v,b,o,z,r5⟩)
  ·intro A i;refine qCv (qAe ?_);cases i;have ho:=b8 _ rfl;refine qAe ?_;exact xE (V _ _ ⟨a.1,p,s,c,ho,rfl,q,st,r5⟩)
def qGw(N:Nat)(b:T26)(c:ByteArray)(a:Int):Tj:=
 if(decide (a<((List.length b.1):Int)))=true then((idx b.1 a).bind fun b=>if(b.toList==c.toList)=true then(some (.inr (.inr (true)))) else(some (.inl (IntKind.wrap .i64 (a+1))))) else(some (.inr (.inl ())))
def qIz(N:Nat)(d:T26)(b:T1p)(a:T26):Option (T26⊕Tb):=
 if(decide (a.2<(List.length b.2.1:Int)))=true then(((idx b.2.1 a.2).bind fun c=>((idx a.1 d.2).bind fun d=>if(b.1.toList==d.toList)=true then(((qAs (qGw N a c) N 0).bind fun b=>(match b with| .inl b=>some false| .inr (z)=>some z):Tk).bind fun b=>some (!b)) else(some false):Tk).bind fun b=>if b=true then((qEb 16 a.1 ([c])).bind fun b=>some b) else(some a.1):Tc).bind fun b=>some (.inl (b,IntKind.wrap .i64 (a.2+1)))) else(some (.inr a.1))
def qJa(N:Nat)(p0:T21)(b:T26)(a:T26):Option (T26⊕Tb):=
 if(decide (a.2<(List.length p0.2:Int)))=true then((idx p0.2 a.2).bind fun c=>(qAs (qIz N b c) N (a.1,0)).bind fun b=>some (.inl (b,IntKind.wrap .i64 (a.2+1)))) else(some (.inr a.1))
def qKo(N:Nat)(p0:T21)(a:T26):Option (T26⊕Tb):=
 if(decide (a.2<((List.length a.1):Int)))=true then((qAs (qJa N p0 a) N (a.1,0)).bind fun b=>some (.inl (b,IntKind.wrap .i64 (a.2+1)))) else(some (.inr a.1))
def qIr(N:Nat)(a:T17):Option (T17⊕Tb):=
 (if(decide (a.1>0))=true then((idx a.2 a.1).bind fun b=>(idx a.2 (IntKind.wrap .i64 (a.1-1))).bind fun c=>some (Op.bytesLess b.toList c.toList)) else(some false):Tk).bind fun b=>if b=true then((idx a.2 (IntKind.wrap .i64 (a.1-1))).bind fun b=>(idx a.2 a.1).bind fun c=>(idx a.2 a.1).bind fun d=>(idx (List.set a.2 (Int.toNat a.1) b) (IntKind.wrap .i64 (a.1-1))).bind fun d=>some (.inl (IntKind.wrap .i64 (a.1-1),List.set (List.set a.2 (Int.toNat a.1) b) (Int.toNat (IntKind.wrap .i64 (a.1-1))) c))) else(some (.inr a.2))
def qKs(N:Nat)(b:Tb)(a:T17):Option (T17⊕Tb):=
 if(decide (a.1<((List.length b):Int)))=true then((qAs (qIr N) N a).bind fun b=>some (.inl (IntKind.wrap .i64 (a.1+1),b))) else(some (.inr a.2))
def qKm(N:Nat)(p0:T21)(p1:ByteArray):Tc:=
 (qAs (qKo N p0) N (([p1]:Tb),0)).bind fun a=>(qAs (qKs N a) N (0,a)).bind fun a=>some a
theorem qTw{p0:T21}{p1:ByteArray}{r:Tb}(st:St m (O) w)(F:RepS cStr m a1 c1 p0.1)(E:RepS C8 m a2 c2 p0.2)(i:qKm N p0 p1=some r):Calls Tryz.prog 55 #[.agg (Vh p0 a1 c1 a2 c2),vT p1] w fun e w'=>∃e8 e9 m',e= .returned (vS e8 r e9)∧m.le m'∧St m' (kR e8 r e9 9 1::O) w'∧RepS cStr m' e8 e9 r:=by
 unfold qKm at i;have q:=m.le_refl;refine W_cA Tryz.func55 rfl Tryz.ntmps55 ?_;refine W_sr (qAb rfl (qHw 2 71 0 (.agg (Vh p0 a1 c1 a2 c2)) st fun V m1 w1 e1 st g=>(qAd 1 [] (W_sr (qAa 1 [(13,vT p1)] (qAb rfl (zKv (d:=14) (t:=43) (e:=9) (len:=1) (parts:= #[(0,(.tmp 13))]) (f:=(fun x:ByteArray=>([vT x]:List Value))) (xs:=([p1]:Tb)) (cs:=[vT p1]) (fun _=>rfl) kr rfl (fun _=>qAv kr _) rfl rfl rfl st fun a3 c3 T1 w3 h0 st=>(qAd 1 [(5,vS a3 ([p1]:Tb) c3)] (qAq (W_sr (qAd 1 [(6,vI 0)] (qAr ?_))))))))))));have⟨e2,i,j1⟩:=qAz i;refine qCf (.exit 0) (fun L' w'=>∃(p:Tb),∃n G T2 m3,p=e2∧L'=[(5,vS n p G)]∧m.le m3∧St m3 (opc n (qBn (fun x:ByteArray=>([vT x]:List Value)) p T2) 9::O) w'∧OAS n p.length G 1 T2) ?_ ?_
 ·rintro _ w4 ⟨p,n,G,T2,m3,rfl,rfl,q,st,B⟩;have i:=j1;refine qBd (qAg (qAq (W_sr (qAd 3 [(55,vI (p.length:Int)),(56,vI 0)] (qAr ?_)))));have⟨b2,i,j7⟩:=qAz i;refine qCf (.exit 6) (fun L' w'=>∃(o8:Tb),∃b0,o8=b2∧L'=[(5,vS n p G)]∧m.le b0∧St b0 (opc n (qBn (fun x:ByteArray=>([vT x]:List Value)) o8 T2) 9::O) w'∧List.length o8=p.length) ?_ ?_
  ·rintro _ M ⟨o8,b0,rfl,rfl,q,st,a⟩;have i:=j7;refine qBd (qAg (W_sr (qAd 2 [(4,vS n p G)] (qBj ?_))));obtain rfl:=sI i;obtain⟨s,D,st,H⟩:=St.freezeM (c:=cStr) (f:=(fun x:ByteArray=>([vT x]:List Value))) st B a (fun _=>rfl) (fun _ x=>rfl);refine qQo [(4,vS n o8 G)] (by(try simp only[vS,a]);kernel_rfl) ?_;exact X_rt [4] [vS n o8 G] ⟨n,G,s,rfl,q.t D,st,H⟩
  intro b8;refine qEk _ kr (qDa (fun k5 L' w'=>∃(D:T17),∃S,qAs (qKs N p) k5 D=some b2∧L'=[(5,vS n p G),(55,vI (p.length:Int)),(56,vI D.1)]∧m.le S∧St S (opc n (qBn (fun x:ByteArray=>([vT x]:List Value)) D.2 T2) 9::O) w'∧List.length D.2=p.length) N ⟨(0,p),m3,i,rfl,q,st,rfl⟩ ?_);rintro k5 _ f8 ⟨D,S,hL,rfl,q,st,d1⟩;rcases k5 with _|k5
  ·exact qBg hL
  ·obtain⟨f6,i,e6,d2⟩:=qBf hL;clear hL;unfold qKs at i;refine W_sr (qAd 1 [(57,vB (decide (D.1<(p.length:Int))))] (qAq (W_if i ?_ ?_)))
   ·intro A i;refine qAn (qAg (qAq (qAr (W_sr (qAd 2 [(11,vI D.1)] (W_sr (qAd 2 [(12,vI D.1)] (qAr ?_))))))));have⟨b7,i,j8⟩:=qAz i;refine qCf (.exit 8) (fun L' w'=>∃(o9:Tb),∃Z,o9=b7∧L'=[(5,vS n p G),(55,vI (p.length:Int)),(56,vI D.1)]∧m.le Z∧St Z (opc n (qBn (fun x:ByteArray=>([vT x]:List Value)) o9 T2) 9::O) w'∧List.length o9=p.length) ?_ ?_
    ·rintro _ s ⟨o9,Z,rfl,rfl,q,st,a⟩;have i:=j8;refine qBd (qBc (qAg (qAm (qAa 2 [(56,vI (wr (D.1+1)))] (qAx rfl ?_)))));obtain rfl:=sI i;have hL:=e6 _ rfl;exact xE (qCd k5 (jG _) ⟨(wr (D.1+1),o9),Z,hL,rfl,q,st,a⟩)
    intro b9;refine qEk _ kr (qDa (fun k6 L' w'=>∃(a:T17),∃M,qAs (qIr N) k6 a=some b7∧L'=[(5,vS n p G),(12,vI a.1),(55,vI (p.length:Int)),(56,vI D.1)]∧m.le M∧St M (opc n (qBn (fun x:ByteArray=>([vT x]:List Value)) a.2 T2) 9::O) w'∧List.length a.2=p.length) N ⟨D,S,i,rfl,q,st,d1⟩ ?_);rintro k6 _ f9 ⟨a,M,hL,rfl,q,st,s⟩;rcases k6 with _|k6
    ·exact qBg hL
    ·obtain⟨f7,i,e7,e5⟩:=qBf hL;clear hL;unfold qIr at i;refine qAq (qAq ?_);have⟨f4,i,J⟩:=qAz i;refine qCf .normal (fun L' w'=>∃H,L'=[(5,vS n p G),(12,vI a.1),(55,vI (p.length:Int)),(56,vI D.1),(73,vB f4)]∧m.le H∧St H (opc n (qBn (fun x:ByteArray=>([vT x]:List Value)) a.2 T2) 9::O) w'∧List.length a.2=p.length) ?_ ?_
     ·have i:=J;rintro _ g0 ⟨H,rfl,q,st,s⟩;refine qAg (W_if i ?_ ?_)
      ·intro A i;refine qAn (qAg (qAq (qAr (qFr [(18,fun w'=>Inv H w'∧True),(15,fun w'=>Inv H w'∧Piece.holds H w' (opc n (qBn (fun x:ByteArray=>([vT x]:List Value)) a.2 T2) 9)∧True)] kr st fun g1 _ st=> ?_))));have R:=H.le_refl;refine⟨⟨iA st R,⟨.inr ⟨Inv.anti st.inv R,qPh st.h R,trivial⟩,trivial⟩⟩,?_⟩;refine qBa 0 76 (vS n p G) (.head _) (qBa 1 77 (vI a.1) (.head _) (qBa 2 78 (vS n p G) (.head _) (qBa 3 79 (vI a.1) (.head _) (qBa 4 80 (vI (wr (a.1-1))) (.head _) (qBa 5 81 (vS n p G) (.head _) (qBa 6 82 (vI a.1) (.head _) (qBa 7 83 (vI (wr (a.1-1))) (.head _) ?_)))))));have⟨U,d8,i⟩:=qAz i;refine qJt (t:=43) (e:=9) (x:=(.tmp 81)) (y:=(.tmp 83)) (k:=1) 8 84 kr rfl kr (.head _) (qBb (qAo (qAo (qBb (qBb (qAo (qAo (qBb (qAo qDj))))))))) (ev (vS n p G)) (ev (vI (wr (a.1-1)))) kr B s d8 ?_;refine qKt (t:=9) (x:=(.tmp 84)) (o:=0) (f:=(fun x:ByteArray=>([vT x]:List Value))) (z:=U) (v:=vT U) 9 85 (fun _=>rfl) (Int.toNat (wr (a.1-1))*1) rfl kr rfl kr (.tail _ (.head _)) (qBb (qAo (qAo (qBb (qBb (qAo (qAo (qBb (qAo qDj))))))))) (fun _ h=>h.2.1) (ev (.pointer (some ⟨ab n,Int.toNat (wr (a.1-1))*1,none⟩))) B s d8 kr ?_;refine qBa 10 86 (vS n p G) (.head _) (qBa 11 87 (vI a.1) (.head _) ?_)
       have⟨Y,d9,i⟩:=qAz i;refine qJt (t:=43) (e:=9) (x:=(.tmp 86)) (y:=(.tmp 87)) (k:=1) 12 88 kr rfl kr (.head _) (qBb (qAo (qAo (qBb (qBb (qAo (qAo (qBb (qAo qDj))))))))) (ev (vS n p G)) (ev (vI a.1)) kr B s d9 ?_;refine qKt (t:=9) (x:=(.tmp 88)) (o:=0) (f:=(fun x:ByteArray=>([vT x]:List Value))) (z:=Y) (v:=vT Y) 13 89 (fun _=>rfl) (Int.toNat a.1*1) rfl kr rfl kr (.tail _ (.head _)) (qBb (qAo (qAo (qBb (qBb (qAo (qAo (qBb (qAo qDj))))))))) (fun _ h=>h.2.1) (ev (.pointer (some ⟨ab n,Int.toNat a.1*1,none⟩))) B s d9 kr ?_;have⟨x9,c0,i⟩:=qAz i;refine qJt (t:=43) (e:=9) (x:=(.tmp 76)) (y:=(.tmp 77)) (k:=1) 14 90 kr rfl kr (.head _) (qBb (qAo (qAo (qBb (qBb (qAo (qAo (qBb (qAo qDj))))))))) (ev (vS n p G)) (ev (vI a.1)) kr B s c0 ?_;refine qBv 15 kr (qRr (t:=9) (x:=(.tmp 90)) (y:=(.tmp 85)) (o:=0) (f:=(fun x:ByteArray=>([vT x]:List Value))) (z:=x9) (u:=U) (v:=vT U) (fun _=>rfl) (Int.toNat a.1*1) rfl kr (ev (.pointer (some ⟨ab n,Int.toNat a.1*1,none⟩))) (ev (vT U)) st B s c0 kr rfl fun g2 st=> ?_);have a0:List.length (List.set a.2 (Int.toNat a.1) U)=p.length:=qYu s _ _;refine⟨⟨iA st R,⟨.inl rfl,trivial⟩⟩,?_⟩;have⟨f5,d0,i⟩:=qAz i
       refine qJt (t:=43) (e:=9) (x:=(.tmp 78)) (y:=(.tmp 80)) (k:=1) 16 91 kr rfl kr (.head _) (qBb (qAo (qAo (qBb (qBb (qAo (qAo (qBb (qAo qDj))))))))) (ev (vS n p G)) (ev (vI (wr (a.1-1)))) kr B a0 d0 ?_;refine qBv 17 kr (qRr (t:=9) (x:=(.tmp 91)) (y:=(.tmp 89)) (o:=0) (f:=(fun x:ByteArray=>([vT x]:List Value))) (z:=f5) (u:=Y) (v:=vT Y) (fun _=>rfl) (Int.toNat (wr (a.1-1))*1) rfl kr (ev (.pointer (some ⟨ab n,Int.toNat (wr (a.1-1))*1,none⟩))) (ev (vT Y)) st B a0 d0 kr rfl fun g3 st=> ?_);have f3:List.length (List.set (List.set a.2 (Int.toNat a.1) U) (Int.toNat (wr (a.1-1))) Y)=p.length:=qYu a0 _ _;refine⟨⟨iA st R,⟨.inl rfl,trivial⟩⟩,?_⟩;refine qCu kr ?_;refine qBc (qAg (qAm (qAa 3 [(12,vI (wr (a.1-1)))] (qAx rfl ?_))));obtain rfl:=sI i;have hL:=e7 _ rfl;exact xE (qCd k6 (jG _) ⟨(wr (a.1-1),List.set (List.set a.2 (Int.toNat a.1) U) (Int.toNat (wr (a.1-1))) Y),H,hL,rfl,q,st,f3⟩)
      ·intro A i;refine qCv (qAe ?_);cases i;have ho:=e5 _ rfl;refine qAe ?_;exact xE (b9 _ _ ⟨a.2,H,ho,rfl,q,st,s⟩)
     ·intro K;refine qFr [(14,fun w'=>Inv M w'∧Piece.holds M w' (opc n (qBn (fun x:ByteArray=>([vT x]:List Value)) a.2 T2) 9)∧True)] kr st fun a0 _ st=> ?_;have R:=M.le_refl;refine⟨⟨.inr ⟨Inv.anti st.inv R,qPh st.h R,trivial⟩,trivial⟩,?_⟩;refine qBa 0 60 (vI a.1) (.head _) (qBa 1 61 (vB (decide (a.1>0))) (.head _) (qBa 2 62 (vB (decide (a.1>0))) (.head _) ?_));rcases qEr (decide (a.1>0)) with A|A
      ·rw[if_pos A] at i;refine qLd (t:=62) (b:=true) (decide (a.1>0)) kr A ?_;refine qBa 3 63 (vS n p G) (.head _) (qBa 4 64 (vI a.1) (.head _) ?_);have⟨U,d6,i⟩:=qAz i;refine qJt (t:=43) (e:=9) (x:=(.tmp 63)) (y:=(.tmp 64)) (k:=1) 5 65 kr rfl kr (.head _) (qAo (qAo (qAo (qBb (qBb (qAo (qAo (qBb (qAo qDj))))))))) (ev (vS n p G)) (ev (vI a.1)) kr B s d6 ?_;refine qKt (t:=9) (x:=(.tmp 65)) (o:=0) (f:=(fun x:ByteArray=>([vT x]:List Value))) (z:=U) (v:=vT U) 6 66 (fun _=>rfl) (Int.toNat a.1*1) rfl kr rfl kr (.head _) (qAo (qAo (qAo (qBb (qBb (qAo (qAo (qBb (qAo qDj))))))))) (fun _ h=>h.2.1) (ev (.pointer (some ⟨ab n,Int.toNat a.1*1,none⟩))) B s d6 kr ?_;refine qBa 7 67 (vS n p G) (.head _) (qBa 8 68 (vI a.1) (.head _) (qBa 9 69 (vI (wr (a.1-1))) (.head _) ?_));have⟨Y,d7,i⟩:=qAz i;refine qJt (t:=43) (e:=9) (x:=(.tmp 67)) (y:=(.tmp 69)) (k:=1) 10 70 kr rfl kr (.head _) (qAo (qAo (qAo (qBb (qBb (qAo (qAo (qBb (qAo qDj))))))))) (ev (vS n p G)) (ev (vI (wr (a.1-1)))) kr B s d7 ?_
       refine qKt (t:=9) (x:=(.tmp 70)) (o:=0) (f:=(fun x:ByteArray=>([vT x]:List Value))) (z:=Y) (v:=vT Y) 11 71 (fun _=>rfl) (Int.toNat (wr (a.1-1))*1) rfl kr rfl kr (.head _) (qAo (qAo (qAo (qBb (qBb (qAo (qAo (qBb (qAo qDj))))))))) (fun _ h=>h.2.1) (ev (.pointer (some ⟨ab n,Int.toNat (wr (a.1-1))*1,none⟩))) B s d7 kr ?_;refine qBa 12 72 (vB (Op.bytesLess U.toList Y.toList)) (.head _) (qBa 13 73 (vB (Op.bytesLess U.toList Y.toList)) (.head _) ?_);cases i;exact qCu kr (qQo _ kr (K _ _ ⟨M,rfl,q,st,s⟩))
      ·rw[if_neg (not_true A)] at i;refine qLd (t:=62) (b:=false) (decide (a.1>0)) kr A ?_;refine qDg 3 63 (.head _) (qDg 4 64 (.head _) (qDg 5 65 (.head _) (qDg 6 66 (.head _) (qDg 7 67 (.head _) (qDg 8 68 (.head _) (qDg 9 69 (.head _) (qDg 10 70 (.head _) (qDg 11 71 (.head _) (qDg 12 72 (.head _) (qBa 13 73 (vB false) (.head _) ?_))))))))));cases i;exact qCu kr (qQo _ kr (K _ _ ⟨M,rfl,q,st,s⟩))
   ·intro A i;refine qCv (qAe ?_);cases i;have ho:=d2 _ rfl;refine qAe ?_;exact xE (b8 _ _ ⟨D.2,S,ho,rfl,q,st,d1⟩)
 intro f3;refine qEk _ kr (qDa (fun k1 L' w'=>∃(H:T26),∃a5 c5 T3 m4,qAs (qKo N p0) k1 H=some e2∧L'=[(2,vP V 0),(5,vS a5 H.1 c5),(6,vI H.2)]∧m.le m4∧St m4 (opc a5 (qBn (fun x:ByteArray=>([vT x]:List Value)) H.1 T3) 9::O) w'∧MRow m4 V 0 (Vk p0 a1 c1 a2 c2)∧RepS cStr m4 a1 c1 p0.1∧RepS C8 m4 a2 c2 p0.2∧OAS a5 H.1.length c5 1 T3) N ⟨(([p1]:Tb),0),a3,c3,T1,m1,i,rfl,q.t e1,st,g,F.mono e1,E.mono e1,h0⟩ ?_);rintro k1 _ w5 ⟨H,a5,c5,T3,m4,hL,rfl,q,st,g,F,E,f8⟩;rcases k1 with _|k1
 ·exact qBg hL
 ·obtain⟨h3,i,g3,g0⟩:=qBf hL;clear hL;unfold qKo at i;refine qAq (W_sr (qAd 4 [(18,vB (decide (H.2<(H.1.length:Int))))] (W_if i ?_ ?_)))
  ·intro A i;refine qAn (qAg (qAq (qAr (W_sr (qAa 1 [(21,vP V 1)] (qAb rfl (qAw (d:=22) (t:=69) (x:=(.tmp 21)) (vS a2 p0.2 c2) kr rfl (ev (vP V 1)) st (g.drop 1) kr (qAd 2 [(23,vI (p0.2.length:Int)),(24,vI 0)] (qAr ?_)))))))));have⟨e5,i,j2⟩:=qAz i;refine qCf (.exit 2) (fun L' w'=>∃(o2:Tb),∃a6 c6 T4 m5,o2=e5∧L'=[(2,vP V 0),(5,vS a6 o2 c6),(6,vI H.2)]∧m.le m5∧St m5 (opc a6 (qBn (fun x:ByteArray=>([vT x]:List Value)) o2 T4) 9::O) w'∧MRow m5 V 0 (Vk p0 a1 c1 a2 c2)∧RepS cStr m5 a1 c1 p0.1∧RepS C8 m5 a2 c2 p0.2∧OAS a6 o2.length c6 1 T4) ?_ ?_
   ·rintro _ s ⟨o2,a6,c6,T4,m5,rfl,rfl,q,st,g,F,E,a⟩;have i:=j2;refine qBd (qBc (qAg (qAm (qAa 3 [(6,vI (wr (H.2+1)))] (qAx rfl ?_)))));obtain rfl:=sI i;have hL:=g3 _ rfl;exact xE (qCd k1 (jG _) ⟨(o2,wr (H.2+1)),a6,c6,T4,m5,hL,rfl,q,st,g,F,E,a⟩)
   intro f5;refine qEk _ kr (qDa (fun k2 L' w'=>∃(s2:T26),∃a7 c7 T5 m6,qAs (qJa N p0 H) k2 s2=some e5∧L'=[(2,vP V 0),(5,vS a7 s2.1 c7),(6,vI H.2),(22,vS a2 p0.2 c2),(23,vI (p0.2.length:Int)),(24,vI s2.2)]∧m.le m6∧St m6 (opc a7 (qBn (fun x:ByteArray=>([vT x]:List Value)) s2.1 T5) 9::O) w'∧MRow m6 V 0 (Vk p0 a1 c1 a2 c2)∧RepS cStr m6 a1 c1 p0.1∧RepS C8 m6 a2 c2 p0.2∧OAS a7 s2.1.length c7 1 T5) N ⟨(H.1,0),a5,c5,T3,m4,i,rfl,q,st,g,F,E,f8⟩ ?_);rintro k2 _ w7 ⟨s2,a7,c7,T5,m6,hL,rfl,q,st,g,F,E,f9⟩;rcases k2 with _|k2
   ·exact qBg hL
   ·obtain⟨h4,i,g4,g1⟩:=qBf hL;clear hL;unfold qJa at i;refine W_sr (qAd 1 [(25,vB (decide (s2.2<(p0.2.length:Int))))] (qAq (W_if i ?_ ?_)))
    ·intro A i;refine qAn (qAg (qAq (qAr (W_sr (qAb rfl (qDi 26 69 85 22 24 E i ?_))))));rintro a i b3 f1 h1 ⟨_,_,rfl,rfl,⟨_,_,rfl,⟨R,S,rfl,U⟩,⟨a9,c9,rfl,Y⟩⟩⟩ g7;refine qCy 27 85 26 f1 (.agg (Vb a R S a9 c9)) st g7 (qAb rfl (qDn 8 85 (.agg #[vT eB,v2,v2]) st fun b4 w8 st=>(qAb rfl (qCn 85 8 27 (.agg (Vb a R S a9 c9)) st fun w9 st=>(WO_e (W_sr (qDe 1 29 43 28 1 (vS R a.2.1 S) st.h (qAd 2 [(30,vI (a.2.1.length:Int)),(31,vI 0)] (qAr ?_)))))))));have⟨e6,i,j3⟩:=qAz i;refine qCf (.exit 4) (fun L' w'=>∃(o3:Tb),∃b9 d0 T6 m7,o3=e6∧L'=[(2,vP V 0),(5,vS b9 o3 d0),(6,vI H.2),(22,vS a2 p0.2 c2),(23,vI (p0.2.length:Int)),(24,vI s2.2)]∧m.le m7∧St m7 (kB b4 (Vb a R S a9 c9) 85::opc b9 (qBn (fun x:ByteArray=>([vT x]:List Value)) o3 T6) 9::O) w'∧MRow m7 V 0 (Vk p0 a1 c1 a2 c2)∧RepS cStr m7 a1 c1 p0.1∧RepS C8 m7 a2 c2 p0.2∧RepS cStr m7 R S a.2.1∧RepS C7 m7 a9 c9 a.2.2∧OAS b9 o3.length d0 1 T6) ?_ ?_
     ·rintro _ B ⟨o3,b9,d0,T6,m7,rfl,rfl,q,st,g,F,E,U,Y,s⟩;have i:=j3;refine qBd (qBc (qAg (qAm (qAa 2 [(24,vI (wr (s2.2+1)))] (qAx rfl ?_)))));obtain rfl:=sI i;have hL:=g4 _ rfl;exact xE (qCd k2 (jG _) ⟨(o3,wr (s2.2+1)),b9,d0,T6,m7,hL,rfl,q,st.t,g,F,E,s⟩)
     intro f6;refine qEk _ kr (qDa (fun k3 L' w'=>∃(B:T26),∃s M T7 Z,qAs (qIz N H a) k3 B=some e6∧L'=[(2,vP V 0),(5,vS s B.1 M),(6,vI H.2),(8,vP b4 0),(22,vS a2 p0.2 c2),(23,vI (p0.2.length:Int)),(24,vI s2.2),(29,vS R a.2.1 S),(30,vI (a.2.1.length:Int)),(31,vI B.2)]∧m.le Z∧St Z (kB b4 (Vb a R S a9 c9) 85::opc s (qBn (fun x:ByteArray=>([vT x]:List Value)) B.1 T7) 9::O) w'∧MRow Z V 0 (Vk p0 a1 c1 a2 c2)∧RepS cStr Z a1 c1 p0.1∧RepS C8 Z a2 c2 p0.2∧RepS cStr Z R S a.2.1∧RepS C7 Z a9 c9 a.2.2∧OAS s B.1.length M 1 T7) N ⟨(s2.1,0),a7,c7,T5,m6,i,rfl,q,st.f1.f1,g,F,E,U,Y,f9⟩ ?_);rintro k3 _ h7 ⟨B,s,M,T7,Z,hL,rfl,q,st,g,F,E,U,Y,b8⟩;rcases k3 with _|k3
     ·exact qBg hL
     ·obtain⟨h5,i,g5,g2⟩:=qBf hL;clear hL;unfold qIz at i;refine W_sr (qAd 1 [(32,vB (decide (B.2<(a.2.1.length:Int))))] (qAq (W_if i ?_ ?_)))
      ·intro A i;refine qAn (qAg (qAq ?_));have⟨o4,i,j4⟩:=qAz i;refine qCf .normal (fun L' w'=>∃c0 d1 T8 m9,L'=[(2,vP V 0),(5,vS c0 o4 d1),(6,vI H.2),(8,vP b4 0),(22,vS a2 p0.2 c2),(23,vI (p0.2.length:Int)),(24,vI s2.2),(29,vS R a.2.1 S),(30,vI (a.2.1.length:Int)),(31,vI B.2)]∧m.le m9∧St m9 (kB b4 (Vb a R S a9 c9) 85::opc c0 (qBn (fun x:ByteArray=>([vT x]:List Value)) o4 T8) 9::O) w'∧MRow m9 V 0 (Vk p0 a1 c1 a2 c2)∧RepS cStr m9 a1 c1 p0.1∧RepS C8 m9 a2 c2 p0.2∧RepS cStr m9 R S a.2.1∧RepS C7 m9 a9 c9 a.2.2∧OAS c0 o4.length d1 1 T8) ?_ ?_
       ·have i:=j4;rintro _ a0 ⟨c0,d1,T8,m9,rfl,q,st,g,F,E,U,Y,D⟩;refine qAg (qAm (qAa 2 [(31,vI (wr (B.2+1)))] (qAx rfl ?_)));obtain rfl:=sI i;have hL:=g5 _ rfl;exact xE (qCd k3 (jG _) ⟨(o4,wr (B.2+1)),c0,d1,T8,m9,hL,rfl,q,st.f1.f1,g,F,E,U,Y,D⟩)
       ·intro f7;refine qAr (W_sr (qAb rfl (qDi 33 43 9 29 31 U i ?_)));rintro x2 i b5 f2 h2 rfl g8;refine qCy 34 9 33 f2 (vT x2) st g8 (qAd 1 [(10,vT x2)] (qAq ?_));have⟨o5,i,J⟩:=qAz i;refine qCf .normal (fun L' w'=>∃b7,L'=[(2,vP V 0),(5,vS s B.1 M),(6,vI H.2),(8,vP b4 0),(10,vT x2),(22,vS a2 p0.2 c2),(23,vI (p0.2.length:Int)),(24,vI s2.2),(29,vS R a.2.1 S),(30,vI (a.2.1.length:Int)),(31,vI B.2),(47,vB o5)]∧m.le b7∧St b7 (kB b4 (Vb a R S a9 c9) 85::opc s (qBn (fun x:ByteArray=>([vT x]:List Value)) B.1 T7) 9::O) w'∧MRow b7 V 0 (Vk p0 a1 c1 a2 c2)∧RepS cStr b7 a1 c1 p0.1∧RepS C8 b7 a2 c2 p0.2∧P5 b7 R S a9 c9 a.2) ?_ ?_
        ·have i:=J;rintro _ e7 ⟨b7,rfl,q,st,g,F,E,U,Y⟩;refine qAg (W_if i ?_ ?_)
         ·intro A i;refine qAm (qAa 2 [(48,vS s B.1 M),(49,vT x2)] (qAb rfl (qAu (d:=50) (t:=43) (e:=9) (len:=1) (parts:= #[(0,(.tmp 49))]) cStr (xs:=[x2]) [vT x2] kr rfl (fun _=>qAv kr _) rfl rfl st ⟨[vT x2],_,rfl,rfl,rfl⟩ fun b6 d2 f4 D st r6=> ?_)));have st:=st.f2;have⟨l1,d5,i⟩:=qAz i;refine qAb rfl (qZi (d:=51) (t:=43) (u:=43) (e:=9) (by_:=16) (x:=(.tmp 48)) (y:=(.tmp 50)) (c:=cStr) (f:=(fun x:ByteArray=>([vT x]:List Value))) (l:=B.1) (fun _ _ _ h=>by obtain rfl:=h;rfl) (fun _=>rfl) kr rfl (ev (vS s B.1 M)) (ev (vS (aP b6) ([x2]) 1)) st b8 rfl kr (.inl kr) r6.src d5 fun a0 b0 T9 g6 b2 st=>(qAa 1 [(5,vS a0 l1 b0)] (qAx rfl ?_)));have st:=st.f1.t;refine qBc ?_;cases i;exact xE (f7 _ _ ⟨a0,b0,T9,d2,rfl,q.t D,st.f1,g.mono D,F.mono D,E.mono D,U.mono D,Y.mono D,b2⟩)
         ·intro A i;refine qAn (qBc ?_);cases i;exact xE (f7 _ _ ⟨s,M,T7,b7,rfl,q,st.f1.f1,g,F,E,U,Y,b8⟩)
        ·intro K;refine qFr [(13,fun w'=>Inv Z w'∧Piece.holds Z w' (kB b4 (Vb a R S a9 c9) 85)∧Piece.holds Z w' (opc s (qBn (fun x:ByteArray=>([vT x]:List Value)) B.1 T7) 9)∧True)] kr st fun h8 _ st=> ?_;have D:=Z.le_refl;refine⟨⟨.inr ⟨Inv.anti st.inv D,Piece.holds_anti st.h D,qPh st.t.h D,trivial⟩,trivial⟩,?_⟩;refine qBa 0 35 (vP b4 0) (.head _) (qKa 9 35 1 36 0 (vT a.1) (.head _) (fun _ h=>h.2.1) (qBa 2 37 (vS s B.1 M) (.head _) (qBa 3 38 (vI H.2) (.head _) ?_)));have⟨x3,d3,i⟩:=qAz i;refine qJt (t:=43) (e:=9) (x:=(.tmp 37)) (y:=(.tmp 38)) (k:=1) 4 39 kr rfl kr (.head _) (qAo (qBb (qAo (qAo (qBb (qBb (qAo (qAo (qBb (qBb (qAo (qAo (qBb (qAo qDj)))))))))))))) (ev (vS s B.1 M)) (ev (vI H.2)) kr b8 rfl d3 ?_;refine qKt (t:=9) (x:=(.tmp 39)) (o:=0) (f:=(fun x:ByteArray=>([vT x]:List Value))) (z:=x3) (v:=vT x3) 5 40 (fun _=>rfl) (Int.toNat H.2*1) rfl kr rfl kr (.head _) (qAo (qBb (qAo (qAo (qBb (qBb (qAo (qAo (qBb (qBb (qAo (qAo (qBb (qAo qDj)))))))))))))) (fun _ h=>h.2.2.1) (ev (.pointer (some ⟨ab s,Int.toNat H.2*1,none⟩))) b8 rfl d3 kr ?_;refine qBa 6 41 (vB (a.1.toList==x3.toList)) (.head _) (qBa 7 42 (vB (a.1.toList==x3.toList)) (.head _) ?_)
         rcases qEr (a.1.toList==x3.toList) with A|A
         ·rw[if_pos A] at i;refine qLd (t:=42) (b:=true) (a.1.toList==x3.toList) kr A ?_;refine qBa 8 43 (vS s B.1 M) (.head _) (qBa 9 44 (vT x2) (.head _) ?_);have⟨o6,i,j5⟩:=qAz i;refine qBv 10 kr (qPa 45 73 #[vS s B.1 M,vT x2] kr rfl (zGz (fun v' w'=>∃b0,v'=(vB o6)∧m.le b0∧Z.le b0∧St b0 (kB b4 (Vb a R S a9 c9) 85::opc s (qBn (fun x:ByteArray=>([vT x]:List Value)) B.1 T7) 9::O) w'∧MRow b0 V 0 (Vk p0 a1 c1 a2 c2)∧RepS cStr b0 a1 c1 p0.1∧RepS C8 b0 a2 c2 p0.2∧P5 b0 R S a9 c9 a.2) ?_ ?_))
          ·have i:=j5;rintro _ a0 ⟨b0,rfl,q,D,st,g,F,E,U,Y⟩;refine⟨_,rfl,?_⟩;refine⟨⟨.inr ⟨Inv.anti st.inv D,Piece.holds_anti st.h D,qPh st.t.h D,trivial⟩,trivial⟩,?_⟩;refine qBa 11 46 (vB (!o6)) (.head _) (qBa 12 47 (vB (!o6)) (.head _) ?_);cases i;exact qCu kr (qQo _ kr (K _ _ ⟨b0,rfl,q,st.f1.f1,g,F,E,U,Y⟩))
          ·refine W_cA Tryz.func73 rfl Tryz.ntmps73 ?_;refine W_sr (qAd 1 [] (qAq (W_sr (qAd 3 [(7,vS s B.1 M),(8,vI (B.1.length:Int)),(9,vI 0)] (qAr ?_)))));have⟨e7,i,j6⟩:=qAz i;refine qCf (.exit 0) (fun L' w'=>∃(o7:Unit),∃b2,(.inl o7)=e7∧L'=[]∧m.le b2∧Z.le b2∧St b2 (kB b4 (Vb a R S a9 c9) 85::opc s (qBn (fun x:ByteArray=>([vT x]:List Value)) B.1 T7) 9::O) w'∧MRow b2 V 0 (Vk p0 a1 c1 a2 c2)∧RepS cStr b2 a1 c1 p0.1∧RepS C8 b2 a2 c2 p0.2∧P5 b2 R S a9 c9 a.2) ?_ ?_
           ·rintro _ a0 ⟨o7,b2,rfl,rfl,q,D,st,g,F,E,U,Y⟩;have i:=j6;refine qBd (qAg (W_sr (qAd 1 [(4,vB false)] (qBj ?_))));cases i;exact X_rt [4] [vB false] ⟨_,rfl,⟨b2,rfl,q,D,st.f1.f1,g,F,E,U,Y⟩⟩
           intro f4;refine qEk _ kr (qDa (fun k4 L' w'=>∃(s4:Int),∃a0,qAs (qGw N B x2) k4 s4=some e7∧L'=[(1,vT x2),(7,vS s B.1 M),(8,vI (B.1.length:Int)),(9,vI s4)]∧m.le a0∧Z.le a0∧St a0 (kB b4 (Vb a R S a9 c9) 85::opc s (qBn (fun x:ByteArray=>([vT x]:List Value)) B.1 T7) 9::O) w'∧MRow a0 V 0 (Vk p0 a1 c1 a2 c2)∧RepS cStr a0 a1 c1 p0.1∧RepS C8 a0 a2 c2 p0.2∧P5 a0 R S a9 c9 a.2) N ⟨0,Z,i,rfl,q,D,st.f1.f1,g,F,E,U,Y⟩ ?_);rintro k4 _ h9 ⟨s4,a0,hL,rfl,q,D,st,g,F,E,U,Y⟩;rcases k4 with _|k4
           ·exact qBg hL
           ·obtain⟨h6,i,g6,d2⟩:=qBf hL;clear hL;unfold qGw at i;refine W_sr (qAd 1 [(10,vB (decide (s4<(B.1.length:Int))))] (qAq (W_if i ?_ ?_)))
            ·intro A i;refine qAn (qAg (qAq (qAr (W_sr ?_))));have⟨x4,d4,i⟩:=qAz i;refine qAb rfl (qVp (d:=11) (t:=43) (e:=9) (x:=(.tmp 7)) (y:=(.tmp 9)) (k:=1) kr rfl (ev (vS s B.1 M)) (ev (vI s4)) kr b8 rfl d4 (qAb rfl (qXl (d:=12) (t:=9) (x:=(.tmp 11)) (o:=0) (f:=(fun x:ByteArray=>([vT x]:List Value))) (z:=x4) (v:=vT x4) (fun _=>rfl) (Int.toNat s4*1) rfl kr rfl (ev (.pointer (some ⟨ab s,Int.toNat s4*1,none⟩))) st.t.h b8 rfl d4 kr (qAd 1 [(6,vT x4)] (W_sr (qAd 3 [(15,vB (x4.toList==x2.toList))] (W_if i ?_ ?_)))))))
             ·intro A i;refine W_sr (qAd 1 [(4,vB true)] (qBj (qAf (qAc ?_))));cases i;have ho:=d2 _ rfl;subst ho;have i:=j6;refine qAc (qAf (qAc ?_));cases i;exact X_rt [4] [vB true] ⟨_,rfl,⟨a0,rfl,q,D,st.f1.f1,g,F,E,U,Y⟩⟩
             ·intro A i;refine qAn (qBc (qAg (qAm (qAa 2 [(9,vI (wr (s4+1)))] (qAx rfl ?_)))));obtain rfl:=sI i;have hL:=g6 _ rfl;exact xE (qCd k4 (jG _) ⟨wr (s4+1),a0,hL,rfl,q,D,st.f1.f1,g,F,E,U,Y⟩)
            ·intro A i;refine qCv (qAe ?_);cases i;have ho:=d2 _ rfl;have st:=st.f1.f1;refine qAe ?_;exact xE (f4 _ _ ⟨(),a0,ho,rfl,q,D,st,g,F,E,U,Y⟩)
         ·rw[if_neg (not_true A)] at i;refine qLd (t:=42) (b:=false) (a.1.toList==x3.toList) kr A ?_;refine qDg 8 43 (.head _) (qDg 9 44 (.head _) (qDg 10 45 (.head _) (qDg 11 46 (.head _) (qBa 12 47 (vB false) (.head _) ?_))));cases i;exact qCu kr (qQo _ kr (K _ _ ⟨Z,rfl,q,st.f1.f1,g,F,E,U,Y⟩))
      ·intro A i;refine qCv (qAe ?_);cases i;have ho:=g2 _ rfl;have st:=st.f1.f1;refine qAe ?_;exact xE (f6 _ _ ⟨B.1,s,M,T7,Z,ho,rfl,q,st,g,F,E,U,Y,b8⟩)
    ·intro A i;refine qCv (qAe ?_);cases i;have ho:=g1 _ rfl;refine qAe ?_;exact xE (f5 _ _ ⟨s2.1,a7,c7,T5,m6,ho,rfl,q,st,g,F,E,f9⟩)
  ·intro A i;refine qCv (qAe ?_);cases i;have ho:=g0 _ rfl;refine qAe ?_;exact xE (f3 _ _ ⟨H.1,a5,c5,T3,m4,ho,rfl,q,st,f8⟩)
def qIm(N:Nat)(p0:Ts)(p1:T21)(b:Tb)(a:T25):Option (T25⊕Tv):=
 if(decide (a.2<(List.length b:Int)))=true then((idx b a.2).bind fun b=>(qEi N a.1 b).bind fun c=>(qGm N p0 p1 b).bind fun b=>(qEi N c b).bind fun b=>some (.inl (b,IntKind.wrap .i64 (a.2+1)))) else(some (.inr a.1))
def qBs(N:Nat)(p0:Ts)(p1:T21)(p2:T11)(p3:T14):Tl:=
 if(p3.1==1)=true then((qDd N p1 1 p3.2.1 p3.2.2).bind fun a=>some a) else(if(p3.1==2)=true then((qDd N p1 2 p3.2.1 p3.2.2).bind fun a=>some a) else(if(p3.1==3)=true then((qDd N p1 3 (⟨#[]⟩:ByteArray) p3.2.1).bind fun a=>some a) else(if(p3.1==4)=true then((qHg N p0 p3.2.1).bind fun a=>if a.2=true then((catB (⟨#[61]⟩:ByteArray) a.1).bind fun a=>some a) else(some (⟨#[45]⟩:ByteArray))) else(if(p3.1==5)=true then((qIa N p2 p3.2.1).bind fun a=>if a.2=true then((qEw N a.1).bind fun a=>(catB (⟨#[61]⟩:ByteArray) a).bind fun a=>some a) else(some (⟨#[45]⟩:ByteArray))) else(if(p3.1==6)=true then((qGm N p0 p1 p3.2.1).bind fun a=>some a) else((qKm N p1 p3.2.1).bind fun a=>(qAs (qIm N p0 p1 a) N (([]:Tv),0)).bind fun a=>(catB (⟨#[61]⟩:ByteArray) (qFv a)).bind fun a=>some a))))))
theorem qVj{p0:Ts}{p1:T21}{p2:T11}{p3:T14}{r:ByteArray}(st:St m (O) w)(v:RepS C1 m a1 c1 p0)(l:RepS cStr m a2 c2 p1.1)(n:RepS C8 m a3 c3 p1.2)(r4:RepS C3 m a4 c4 p2)(i:qBs N p0 p1 p2 p3=some r):Calls Tryz.prog 36 #[.agg #[vS a1 p0 c1],.agg (Vh p1 a2 c2 a3 c3),.agg #[vS a4 p2 c4],.agg (V4 p3)] w fun e w'=>∃m',e= .returned (vT r)∧m.le m'∧St m' (O) w':=by
 unfold qBs at i;have q:=m.le_refl;refine W_cA Tryz.func36 rfl Tryz.ntmps36 ?_;refine W_sr (qAb rfl (qHw 4 28 0 (.agg #[vS a1 p0 c1]) st fun b1 m1 w1 S st s=>(qAb rfl (qHw 5 71 1 (.agg (Vh p1 a2 c2 a3 c3)) st fun b2 m2 w2 R st f=>(qAb rfl (qHw 6 33 2 (.agg #[vS a4 p2 c4]) st fun b3 m3 w3 E st b7=>(qAb rfl (qHw 7 38 3 (.agg (V4 p3)) st fun c m4 w4 z st g=> ?_))))))));have q:=(((q.t S).t R).t E).t z;have v:=(((v.mono S).mono R).mono E).mono z;have l:=(((l.mono S).mono R).mono E).mono z;have n:=(((n.mono S).mono R).mono E).mono z;have s:=((s.mono R).mono E).mono z;have f:=(f.mono E).mono z;refine qAd 1 [] (qAq (W_sr (qAa 1 [(16,vP c 0)] (qCy 17 3 16 0 (vI p3.1) st g (WO_e (qAr (W_sr (qAd 2 [(18,vB (p3.1==1))] (W_if i ?_ ?_)))))))))
 ·intro A i;refine W_sr (qCy 20 71 5 0 (.agg (Vh p1 a2 c2 a3 c3)) st f (qAa 1 [(21,vP c 1)] (qAb rfl (qAw (d:=22) (t:=9) (x:=(.tmp 21)) (vT p3.2.1) kr rfl (ev (vP c 1)) st (g.drop 1) kr (qAa 1 [(23,vP c 2)] (qAb rfl (qAw (d:=24) (t:=9) (x:=(.tmp 23)) (vT p3.2.2) kr rfl (ev (vP c 2)) st (g.drop 2) kr (qAj 25 i (fun _ h=>qLj (p0:=p1) st l n h) ?_))))))));rintro a i _ o ⟨k,rfl,b,st⟩;refine qAd 1 [(8,vT a)] (qBj (qAf (qAc ?_)));obtain rfl:=sI i;exact X_rt [8] [vT a] ⟨k,rfl,q.t b,st⟩
 ·intro A i;refine W_sr (qAd 2 [(26,vB (p3.1==2))] (W_if i ?_ ?_))
  ·intro A i;refine W_sr (qCy 28 71 5 0 (.agg (Vh p1 a2 c2 a3 c3)) st f (qAa 1 [(29,vP c 1)] (qAb rfl (qAw (d:=30) (t:=9) (x:=(.tmp 29)) (vT p3.2.1) kr rfl (ev (vP c 1)) st (g.drop 1) kr (qAa 1 [(31,vP c 2)] (qAb rfl (qAw (d:=32) (t:=9) (x:=(.tmp 31)) (vT p3.2.2) kr rfl (ev (vP c 2)) st (g.drop 2) kr (qAj 33 i (fun _ h=>qLj (p0:=p1) st l n h) ?_))))))));rintro a i _ o ⟨k,rfl,b,st⟩;refine qAd 1 [(8,vT a)] (qBj (qAf (qAc ?_)));obtain rfl:=sI i;exact X_rt [8] [vT a] ⟨k,rfl,q.t b,st⟩
  ·intro A i;refine W_sr (qAd 2 [(34,vB (p3.1==3))] (W_if i ?_ ?_))
   ·intro A i;refine W_sr (qCy 36 71 5 0 (.agg (Vh p1 a2 c2 a3 c3)) st f (qAa 1 [(37,vP c 1)] (qAb rfl (qAw (d:=38) (t:=9) (x:=(.tmp 37)) (vT p3.2.1) kr rfl (ev (vP c 1)) st (g.drop 1) kr (qAj 39 i (fun _ h=>qLj (p0:=p1) st l n h) ?_)))));rintro a i _ o ⟨k,rfl,b,st⟩;refine qAd 1 [(8,vT a)] (qBj (qAf (qAc ?_)));obtain rfl:=sI i;exact X_rt [8] [vT a] ⟨k,rfl,q.t b,st⟩
   ·intro A i;refine W_sr (qAd 2 [(40,vB (p3.1==4))] (W_if i ?_ ?_))
    ·intro A i;refine qAq (W_sr (qCy 43 28 4 0 (.agg #[vS a1 p0 c1]) st s (qAa 1 [(44,vP c 1)] (qAb rfl (qAw (d:=45) (t:=9) (x:=(.tmp 44)) (vT p3.2.1) kr rfl (ev (vP c 1)) st (g.drop 1) kr (qAj 46 i (fun _ h=>qLv st v h) ?_))))));rintro a i _ p ⟨k,rfl,b,st⟩;refine qAd 5 [(9,vT a.1),(10,vB a.2)] (W_sr (qAd 1 [(49,vB a.2)] (W_if i ?_ ?_)))
     ·intro A i;refine W_sr (qAa 1 [(50,vT a.1)] (qAb rfl (qCh 51 9 9 ((.const (vT b24))) 50 i fun o i=>(qAd 1 [(8,vT o)] (qBj (qAc (qAf (qAc ?_))))))));obtain rfl:=sI i;exact X_rt [8] [vT o] ⟨k,rfl,q.t b,st⟩
     ·intro A i;refine qAn (qAg (W_sr (qAd 1 [(8,vT b15)] (qBj (qAf (qAc ?_))))));cases i;exact X_rt [8] [vT b15] ⟨k,rfl,q.t b,st⟩
    ·intro A i;refine W_sr (qAd 2 [(52,vB (p3.1==5))] (W_if i ?_ ?_))
     ·intro A i;refine qAq (W_sr (qCy 55 33 6 0 (.agg #[vS a4 p2 c4]) st (b7.mono z) (qAa 1 [(56,vP c 1)] (qAb rfl (qAw (d:=57) (t:=9) (x:=(.tmp 56)) (vT p3.2.1) kr rfl (ev (vP c 1)) st (g.drop 1) kr (qAj 58 i (fun _ h=>qQk st ((((r4.mono S).mono R).mono E).mono z) h) ?_))))));rintro a i _ B ⟨u,rfl,k,st⟩;refine qAd 5 [(11,vI a.1),(12,vB a.2)] (W_sr (qAd 1 [(61,vB a.2)] (W_if i ?_ ?_)))
      ·intro A i;refine W_sr (qAa 1 [(62,vI a.1)] (qAj 63 i (fun _ h=>qLl st h) ?_));rintro D i _ y ⟨o,rfl,b,st⟩;refine qAb rfl (qCh 64 9 9 ((.const (vT b24))) 63 i fun p i=>(qAd 1 [(8,vT p)] (qBj (qAc (qAf (qAc ?_))))));obtain rfl:=sI i;exact X_rt [8] [vT p] ⟨o,rfl,(q.t k).t b,st⟩
      ·intro A i;refine qAn (qAg (W_sr (qAd 1 [(8,vT b15)] (qBj (qAf (qAc ?_))))));cases i;exact X_rt [8] [vT b15] ⟨u,rfl,q.t k,st⟩
     ·intro A i;refine W_sr (qAd 2 [(65,vB (p3.1==6))] (W_if i ?_ ?_))
      ·intro A i;refine W_sr (qCy 67 28 4 0 (.agg #[vS a1 p0 c1]) st s (qCy 68 71 5 0 (.agg (Vh p1 a2 c2 a3 c3)) st f (qAa 1 [(69,vP c 1)] (qAb rfl (qAw (d:=70) (t:=9) (x:=(.tmp 69)) (vT p3.2.1) kr rfl (ev (vP c 1)) st (g.drop 1) kr (qAj 71 i (fun _ h=>qNp (p1:=p1) st v l n h) ?_))))));rintro k i _ o ⟨b,rfl,a,st⟩;refine qAd 1 [(8,vT k)] (qBj (qAf (qAc ?_)));obtain rfl:=sI i;exact X_rt [8] [vT k] ⟨b,rfl,q.t a,st⟩
      ·intro A i;refine qAn (qBc (qAg (W_sr (qAd 1 [(13,vS none ([]:Tv) 0)] (qAq (W_sr (qCy 72 71 5 0 (.agg (Vh p1 a2 c2 a3 c3)) st f (qAa 1 [(73,vP c 1)] (qAb rfl (qAw (d:=74) (t:=9) (x:=(.tmp 73)) (vT p3.2.1) kr rfl (ev (vP c 1)) st (g.drop 1) kr (qAj 75 i (fun _ h=>qTw (p0:=p1) st l n h) ?_)))))))))));rintro D i _ d4 ⟨Z,c5,b9,rfl,y,st,r5⟩;refine qAd 2 [(76,vI (D.length:Int)),(77,vI 0)] (qAr ?_);have⟨V,i,j1⟩:=qAz i;refine qCf (.exit 1) (fun L' w'=>∃(F:Tv),∃G K B,F=V∧L'=[(13,vS G F K)]∧m.le B∧St B (kR Z D c5 9 1::kR G F K 5 1::O) w'∧RepS cU8 B G K F) ?_ ?_
       ·rintro _ k ⟨F,G,K,B,rfl,rfl,q,st,b⟩;have i:=j1;refine qBd (qAg (W_sr (qAa 1 [(90,vS G F K)] (qAb rfl (qTi (d:=91) (t1:=94) (t2:=9) (e:=5) (x:=(.tmp 90)) kr rfl (ev (vS G F K)) kr kr st b (qAb rfl (qCh 92 9 9 ((.const (vT b24))) 91 i fun a i=>(qAa 1 [(8,vT a)] (qAx rfl ?_)))))))));have st:=st.t.t;refine qAg (qBj ?_);obtain rfl:=sI i;exact X_rt [8] [vT a] ⟨B,rfl,q,st⟩
       intro Y;have st:=(st.nilroom 5 1).front1;refine qEk _ kr (qDa (fun U L' w'=>∃(u:T25),∃H M b,qAs (qIm N p0 p1 D) U u=some V∧L'=[(4,vP b1 0),(5,vP b2 0),(13,vS H u.1 M),(75,vS Z D c5),(76,vI (D.length:Int)),(77,vI u.2)]∧m.le b∧St b (kR Z D c5 9 1::kR H u.1 M 5 1::O) w'∧MRow b b1 0 [vS a1 p0 c1]∧RepS C1 b a1 c1 p0∧MRow b b2 0 (Vk p1 a2 c2 a3 c3)∧RepS cStr b a2 c2 p1.1∧RepS C8 b a3 c3 p1.2∧RepS cU8 b H M u.1∧RepS cStr b Z c5 D) N ⟨(([]:Tv),0),none,0,b9,i,rfl,q.t y,st,s.mono y,v.mono y,f.mono y,l.mono y,n.mono y,(RepS.nil _ _),r5⟩ ?_);rintro U _ d5 ⟨u,H,M,b,hL,rfl,q,st,s,v,f,l,n,r7,r5⟩;rcases U with _|U
       ·exact qBg hL
       ·obtain⟨d3,i,b6,b0⟩:=qBf hL;clear hL;unfold qIm at i;refine W_sr (qAd 1 [(78,vB (decide (u.2<(D.length:Int))))] (qAq (W_if i ?_ ?_)))
        ·intro A i;refine qAn (qAg (qAq (qAr (W_sr (qAb rfl (qDi 79 43 9 75 77 r5 i ?_))))));rintro x1 i b5 f1 d0 rfl b8;refine qCy 80 9 79 f1 (vT x1) st b8 (qAd 1 [(15,vT x1)] (qFr [(9,fun w'=>Inv b w'∧True)] kr st fun d6 _ st=> ?_));have a:=b.le_refl;refine tA st a ?_;refine qBa 0 81 (vS H u.1 M) (.head _) (qBa 1 82 (vT x1) (.head _) (qJb 28 4 3 84 0 (.agg #[vS a1 p0 c1]) (.head _) (fun _ h=>h.1) s (qJb 71 5 4 85 0 (.agg (Vh p1 a2 c2 a3 c3)) (.head _) (fun _ h=>h.1) f (qBa 5 86 (vT x1) (.head _) (qBv 2 kr (qCm 83 i (fun _ h=>qJc st r7 h) ?_))))));rintro y9 i _ d7 ⟨a8,c8,d1,rfl,o,st,r8⟩;refine⟨_,rfl,?_⟩;have v:=v.mono o;have l:=l.mono o;have n:=n.mono o;have a:=Mem.le_trans a o;refine tA st a ?_;refine qBv 6 kr (qCm 87 i (fun _ h=>qNp (p1:=p1) st v l n h) ?_);rintro f3 i _ d8 ⟨d2,rfl,k,st⟩;refine⟨_,rfl,?_⟩;have a:=Mem.le_trans a k;refine tA st a ?_;refine qBv 7 kr (qCm 88 i (fun _ h=>qJc st (r8.mono k) h) ?_);rintro a0 i _ d9 ⟨a9,c9,c0,rfl,p,st,r9⟩;refine⟨_,rfl,?_⟩;have a:=Mem.le_trans a p;refine tA st a ?_;refine qBa 8 13 (vS a9 a0 c9) (.head _) (qCu kr ?_);have st:=st.f1.t.f2.t;refine qBc (qAg (qAm (qAa 2 [(77,vI (wr (u.2+1)))] (qAx rfl ?_))));obtain rfl:=sI i;have hL:=b6 _ rfl
         exact xE (qCd U (jG _) ⟨(a0,wr (u.2+1)),a9,c9,c0,hL,rfl,((q.t o).t k).t p,st.f1,((s.mono o).mono k).mono p,(v.mono k).mono p,((f.mono o).mono k).mono p,(l.mono k).mono p,(n.mono k).mono p,r9,((r5.mono o).mono k).mono p⟩)
        ·intro A i;refine qCv (qAe ?_);cases i;have ho:=b0 _ rfl;have st:=st.f1.f1;refine qAe ?_;exact xE (Y _ _ ⟨u.1,H,M,b,ho,rfl,q,st,r7⟩)
end
section
open Go Go.Dc
set_option maxHeartbeats 4000000
set_option maxRecDepth 100000
variable {N c1 c2 c3:Nat} {m:Mem} {O:List Piece} {w:World} {a1 a2 a3:Option Addr}
def qEu(N:Nat)(p0:Ts)(p1:T11)(p2:T19)(c:T21)(a:T26):Option (T26⊕Tb⊕T26):=
 if(decide (a.2<(List.length p2:Int)))=true then((idx p2 a.2).bind fun b=>(qKb N b).bind fun d=>if(!d)=true then(some (.inr (.inr ((([]:Tb),1))))) else((qBs N p0 c p1 b).bind fun b=>(qEb 16 a.1 ([b])).bind fun b=>some (.inl (b,IntKind.wrap .i64 (a.2+1))))) else(some (.inr (.inl a.1)))
def qGg(N:Nat)(p0:Ts)(p1:T11)(p2:T19):Option T26:=
 ((qIk N p0).bind fun a=>if(a !=0)=true then(some true) else((qEf N p1).bind fun a=>some (!a)):Tk).bind fun a=>if a=true then(some (([]:Tb),1)) else((qKr N p0).bind fun a=>(qAs (qEu N p0 p1 p2 a) N (([]:Tb),0)).bind fun a=>(match a with| .inl a=>some (a,0)| .inr (z)=>some z))
theorem qMj{p0:Ts}{p1:T11}{p2:T19}{r:T26}(st:St m (O) w)(k:RepS C1 m a1 c1 p0)(n:RepS C3 m a2 c2 p1)(G:RepS C4 m a3 c3 p2)(i:qGg N p0 p1 p2=some r):Calls Tryz.prog 10 #[.agg #[vS a1 p0 c1],.agg #[vS a2 p1 c2],vS a3 p2 c3] w fun e w'=>∃b0 b7 m',e= .returned (.tuple (V1 r b0 b7))∧m.le m'∧St m' (kR b0 r.1 b7 9 1::O) w'∧RepS cStr m' b0 b7 r.1:=by
 unfold qGg at i;have q:=m.le_refl;refine W_cA Tryz.func10 rfl Tryz.ntmps10 ?_;refine W_sr (qAb rfl (qHw 3 28 0 (.agg #[vS a1 p0 c1]) st fun b1 m1 w1 R st a=>(qAb rfl (qHw 4 33 1 (.agg #[vS a2 p1 c2]) st fun b2 m2 w2 E st c=> ?_))));have k:=(k.mono R).mono E;have a:=a.mono E;refine qAd 2 [] (qAq (W_sr ?_));have⟨o1,i,J⟩:=qAz i;refine qDo (j:=8) (fun L' w'=>∃s,L'=[(2,vS a3 p2 c3),(3,vP b1 0),(4,vP b2 0),(19,vB o1)]∧m.le s∧St s (O) w'∧RepS C4 s a3 c3 p2∧MRow s b1 0 [vS a1 p0 c1]∧RepS C1 s a1 c1 p0∧MRow s b2 0 [vS a2 p1 c2]∧RepS C3 s a2 c2 p1) ?_ ?_
 ·have i:=J;rintro _ w3 ⟨s,rfl,q,st,G,a,k,c,n⟩;refine WO_e (W_if i ?_ ?_)
  ·intro A i;refine W_sr (qAd 2 [(6,v1),(7,vI 1)] (qBj (qAc ?_)));cases i;exact X_rt [6,7] [v1,vI 1] ⟨none,0,s,rfl,q,(st.nilroom 9 1),(RepS.nil _ _)⟩
  ·intro A i;refine qAn (qAg (W_sr (qCy 20 28 3 0 (.agg #[vS a1 p0 c1]) st a (qAj 21 i (fun _ h=>qTu st k h) ?_))));rintro f i _ w6 ⟨u,x,v,y,m6,rfl,S,st,V,Y⟩;refine qAb rfl (qDn 8 71 (.agg #[v2,v2]) st fun b3 w7 st=>(qAb rfl (qCn 71 8 21 (.agg (Vh f u x v y)) st fun w8 st=>(WO_e (W_sr (qAd 1 [(9,v1)] (qAq (W_sr (qAd 3 [(22,vS a3 p2 c3),(23,vI (p2.length:Int)),(24,vI 0)] (qAr ?_))))))))));have⟨a9,i,j1⟩:=qAz i;refine qCf (.exit 0) (fun L' w'=>∃(F:Tb),∃B D U,(.inl F)=a9∧L'=[(9,vS B F D)]∧m.le U∧St U (kB b3 (Vh f u x v y) 71::kR u f.1 x 9 1::kR v f.2 y 85 3::kR B F D 9 1::O) w'∧RepS cStr U B D F∧P6 U u x v y f) ?_ ?_
   ·rintro _ g ⟨F,B,D,U,rfl,rfl,q,st,b,V,Y⟩;have i:=j1;refine qBd (qAg (W_sr (qAd 3 [(6,vS B F D),(7,vI 0)] (qBj ?_))));obtain rfl:=sI i;exact X_rt [6,7] [vS B F D,vI 0] ⟨B,D,U,rfl,q,st.t.t.t,b⟩
   intro b8;have st:=(st.nilroom 9 1).front3.front3.front3;refine qEk _ kr (qDa (fun k1 L' w'=>∃(l:T26),∃H M g,qAs (qEu N p0 p1 p2 f) k1 l=some a9∧L'=[(3,vP b1 0),(4,vP b2 0),(8,vP b3 0),(9,vS H l.1 M),(22,vS a3 p2 c3),(23,vI (p2.length:Int)),(24,vI l.2)]∧m.le g∧St g (kB b3 (Vh f u x v y) 71::kR u f.1 x 9 1::kR v f.2 y 85 3::kR H l.1 M 9 1::O) w'∧MRow g b1 0 [vS a1 p0 c1]∧RepS C1 g a1 c1 p0∧MRow g b2 0 [vS a2 p1 c2]∧RepS C3 g a2 c2 p1∧RepS cStr g H M l.1∧RepS C4 g a3 c3 p2∧P6 g u x v y f) N ⟨(([]:Tb),0),none,0,m6,i,rfl,q.t S,st,a.mono S,k.mono S,c.mono S,n.mono S,(RepS.nil _ _),G.mono S,V,Y⟩ ?_);rintro k1 _ d4 ⟨l,H,M,g,hL,rfl,q,st,a,k,c,n,r7,G,V,Y⟩;rcases k1 with _|k1
   ·exact qBg hL
   ·obtain⟨d3,i,b9,a0⟩:=qBf hL;clear hL;unfold qEu at i;refine W_sr (qAd 1 [(25,vB (decide (l.2<(p2.length:Int))))] (qAq (W_if i ?_ ?_)))
    ·intro A i;refine qAn (qAg (qAq (qAr (W_sr (qAb rfl (qDi 26 35 38 22 24 G i ?_))))));rintro Z i b4 f1 d0 ⟨_,_,rfl,rfl,⟨_,_,rfl,rfl,rfl⟩⟩ c0;refine qCy 27 38 26 f1 (.agg (V4 Z)) st c0 (qAb rfl (qDn 11 38 (.agg (V5 0 eB eB)) st fun b5 d5 st=>(qAb rfl (qCn 38 11 27 (.agg (V4 Z)) st fun d6 st=>(WO_e (qAq (W_sr (qAb rfl (qCk 28 38 11 0 (.agg (V4 Z)) st.h (qAj 29 i (fun _ h=>qSu (p0:=Z) st h) ?_))))))))));rintro y4 i _ d7 ⟨m9,rfl,b,st⟩;refine qAd 1 [(30,vB (!y4))] (W_if i ?_ ?_)
     ·intro A i;refine W_sr (qAa 2 [(6,v1),(7,vI 1)] (qAx rfl ?_));have st:=st.f4.t;refine qAg (qBj (qAc (qAf (qAc ?_))));cases i;have ho:=a0 _ rfl;subst ho;have i:=j1;refine qAc (qAf (qAc ?_));cases i;refine X_rt [6,7] [v1,vI 1] ?_;have st:=(st.nilroom 9 1).front1;exact⟨none,0,m9,rfl,q.t b,st.t.f1.t.f1.t.f1.t,(RepS.nil _ _)⟩
     ·intro A i;refine qAn (qAg (qAm (qAa 1 [(31,vS H l.1 M)] (qCy 32 28 3 0 (.agg #[vS a1 p0 c1]) st (a.mono b) (qAb rfl (qCk 33 71 8 0 (.agg (Vh f u x v y)) st.t.h (qCy 34 33 4 0 (.agg #[vS a2 p1 c2]) st (c.mono b) (qAb rfl (qCk 35 38 11 0 (.agg (V4 Z)) st.h (qAj 36 i (fun _ h=>qVj (p1:=f) (p3:=Z) st (k.mono b) (V.mono b) (Y.mono b) (n.mono b) h) ?_))))))))));rintro y5 i _ d8 ⟨d1,rfl,o,st⟩;refine qAb rfl (qAu (d:=37) (t:=43) (e:=9) (len:=1) (parts:= #[(0,(.tmp 36))]) cStr (xs:=[y5]) [vT y5] kr rfl (fun _=>qAv kr _) rfl rfl st ⟨[vT y5],_,rfl,rfl,rfl⟩ fun b6 d2 d9 p st r8=>(qAb rfl (qHi 38 43 43 9 16 31 37 st.f5 (.inl kr) (((r7.mono b).mono o).mono p) r8.src i fun l1 i a8 c8 c9 f2 z st r9=>(qAa 1 [(9,vS a8 l1 c8)] (qAx rfl ?_)))));have st:=st.f1.t;refine qBc (qAg (qAm (qAa 2 [(24,vI (wr (l.2+1)))] (qAx rfl ?_))));obtain rfl:=sI i;have hL:=b9 _ rfl;exact xE (qCd k1 (jG _) ⟨(l1,wr (l.2+1)),a8,c8,c9,hL,rfl,(((q.t b).t o).t p).t z,st.f1.t.f3.f3.f3,(((a.mono b).mono o).mono p).mono z,(((k.mono b).mono o).mono p).mono z,(((c.mono b).mono o).mono p).mono z,(((n.mono b).mono o).mono p).mono z,r9,(((G.mono b).mono o).mono p).mono z,(((V.mono b).mono o).mono p).mono z,(((Y.mono b).mono o).mono p).mono z⟩)
    ·intro A i;refine qCv (qAe ?_);cases i;have ho:=a0 _ rfl;have st:=st.f3.f3.f3.f3;refine qAe ?_;exact xE (b8 _ _ ⟨l.1,H,M,g,ho,rfl,q,st,r7,V,Y⟩)
 ·intro K;refine qCy 12 28 3 0 (.agg #[vS a1 p0 c1]) st a (qAj 13 i (fun _ h=>qLq st k h) ?_);rintro o i _ u ⟨g,rfl,b,st⟩;have c:=c.mono b;have n:=((n.mono R).mono E).mono b;refine qAa 2 [(15,vB (o !=0))] (qCz 15 i ?_ ?_)
  ·intro A i;refine qAa 4 [(19,vB true)] ?_;cases i;exact qBe _ kr (K _ _ ⟨g,rfl,((q.t R).t E).t b,st,((G.mono R).mono E).mono b,a.mono b,k.mono b,c,n⟩)
  ·intro A i;refine qCy 16 33 4 0 (.agg #[vS a2 p1 c2]) st c (qAj 17 i (fun _ h=>qMz st n h) ?_);rintro p i _ v ⟨l,rfl,f,st⟩;refine qAa 2 [(19,vB (!p))] ?_;cases i;exact qBe _ kr (K _ _ ⟨l,rfl,(((q.t R).t E).t b).t f,st,(((G.mono R).mono E).mono b).mono f,(a.mono b).mono f,(k.mono b).mono f,c.mono f,n.mono f⟩)
def qEt(N:Nat)(p0:Tb)(p1:Tb)(a:Int):Tj:=
 if(decide (a<(List.length p0:Int)))=true then((idx p0 a).bind fun b=>(idx p1 a).bind fun c=>if(!(b.toList==c.toList))=true then(some (.inr (.inr (false)))) else(some (.inl (IntKind.wrap .i64 (a+1))))) else(some (.inr (.inl ())))
def qIb(N:Nat)(p0:Tb)(p1:Tb):Tk:=
 if((List.length p0:Int) !=(List.length p1:Int))=true then(some false) else((qAs (qEt N p0 p1) N 0).bind fun a=>(match a with| .inl a=>some true| .inr (z)=>some z))
theorem qQt{p0:Tb}{p1:Tb}{r:Bool}(st:St m (O) w)(l:RepS cStr m a1 c1 p0)(n:RepS cStr m a2 c2 p1)(i:qIb N p0 p1=some r):Calls Tryz.prog 11 #[vS a1 p0 c1,vS a2 p1 c2] w fun e w'=>∃m',e= .returned (vB r)∧m.le m'∧St m' (O) w':=by
 unfold qIb at i;have q:=m.le_refl;refine W_cA Tryz.func11 rfl Tryz.ntmps11 ?_;refine W_sr (qAd 1 [] (qAq (W_sr (qAd 5 [(10,vB ((p0.length:Int) !=(p1.length:Int)))] (W_if i ?_ ?_)))))
 ·intro A i;refine W_sr (qAd 1 [(4,vB false)] (qBj (qAc ?_)));cases i;exact X_rt [4] [vB false] ⟨m,rfl,q,st⟩
 ·intro A i;refine qAn (qAg (qAq (W_sr (qAd 1 [(5,vI 0)] (qAr ?_)))));have⟨f,i,v⟩:=qAz i;refine qCf (.exit 0) (fun L' w'=>∃(z:Unit),∃k,(.inl z)=f∧L'=[]∧m.le k∧St k (O) w') ?_ ?_
  ·rintro _ a ⟨z,k,rfl,rfl,q,st⟩;have i:=v;refine qBd (qAg (W_sr (qAd 1 [(4,vB true)] (qBj ?_))));cases i;exact X_rt [4] [vB true] ⟨k,rfl,q,st⟩
  intro g;refine qEk _ kr (qDa (fun d L' w'=>∃(b:Int),∃a,qAs (qEt N p0 p1) d b=some f∧L'=[(0,vS a1 p0 c1),(1,vS a2 p1 c2),(5,vI b)]∧m.le a∧St a (O) w'∧RepS cStr a a1 c1 p0∧RepS cStr a a2 c2 p1) N ⟨0,m,i,rfl,q,st,l,n⟩ ?_);rintro d _ V ⟨b,a,hL,rfl,q,st,l,n⟩;rcases d with _|d
  ·exact qBg hL
  ·obtain⟨R,i,o,c⟩:=qBf hL;clear hL;unfold qEt at i;refine qAq (W_sr (qAd 4 [(14,vB (decide (b<(p0.length:Int))))] (W_if i ?_ ?_)))
   ·intro A i;refine qAn (qAg (qAq (qAr (qAq (qFr [(9,fun w'=>Inv a w'∧True)] kr st fun Y _ st=> ?_)))));have p:=a.le_refl;refine tA st p ?_;refine qBa 0 17 (vS a1 p0 c1) (.head _) (qBa 1 18 (vI b) (.head _) ?_);have⟨B,E,i⟩:=qAz i;refine qHu (t:=43) (e:=9) (x:=(.tmp 17)) (y:=(.tmp 18)) 2 19 cStr kr rfl kr (.head _) (qAo (qBb (qAo (qAo (qBb (qAo qDj)))))) (ev (vS a1 p0 c1)) (ev (vI b)) kr l E ?_;rintro S G K rfl s;refine qJb 9 19 3 20 G (vT B) (.head _) (fun _ h=>h.1) s (qBa 4 21 (vS a2 p1 c2) (.head _) (qBa 5 22 (vI b) (.head _) ?_));have⟨D,F,i⟩:=qAz i;refine qHu (t:=43) (e:=9) (x:=(.tmp 21)) (y:=(.tmp 22)) 6 23 cStr kr rfl kr (.head _) (qAo (qBb (qAo (qAo (qBb (qAo qDj)))))) (ev (vS a2 p1 c2)) (ev (vI b)) kr n F ?_;rintro U H M rfl u;refine qJb 9 23 7 24 H (vT D) (.head _) (fun _ h=>h.1) u (qBa 8 25 (vB (!(B.toList==D.toList))) (.head _) (qCu kr (qAg (W_if i ?_ ?_))))
    ·intro A i;refine W_sr (qAd 1 [(4,vB false)] (qBj (qAf (qAc ?_))));cases i;have ho:=c _ rfl;subst ho;have i:=v;refine qAc (qAf (qAc ?_));cases i;exact X_rt [4] [vB false] ⟨a,rfl,q,st⟩
    ·intro A i;refine qAn (qBc (qAg (qAm (qAa 3 [(5,vI (wr (b+1)))] (qAx rfl ?_)))));obtain rfl:=sI i;have hL:=o _ rfl;exact xE (qCd d (jG _) ⟨wr (b+1),a,hL,rfl,q,st,l,n⟩)
   ·intro A i;refine qCv (qAe ?_);cases i;have ho:=c _ rfl;refine qAe ?_;exact xE (g _ _ ⟨(),a,ho,rfl,q,st⟩)
def qSi(N:Nat)(p0:Int)(p1:Int):Tk:=
 ((qLz N p0).bind fun a=>if a=true then((qLz N p1).bind fun a=>if a=true then((idx ([0,1,2,3]:Te) p0).bind fun a=>(idx ([0,1,2,3]:Te) p1).bind fun b=>some (decide (a<b))) else(some false)) else(some false):Tk).bind fun a=>some a
theorem zBd{p0:Int}{p1:Int}{r:Bool}(st:St m (O) w)(i:qSi N p0 p1=some r):Calls Tryz.prog 37 #[vI p0,vI p1] w fun e w'=>∃m',e= .returned (vB r)∧m.le m'∧St m' (O) w':=by
 unfold qSi at i;have q:=m.le_refl;refine W_cA Tryz.func37 rfl Tryz.ntmps37 ?_;refine W_sr (qAd 1 [] (W_sr (qAa 1 [(6,.agg #[vI 0,vI 1,vI 2,vI 3])] (qAb rfl (qDn 5 97 (.agg #[vI 0,vI 0,vI 0,vI 0]) st fun u R st=>(qAb rfl (qCn 97 5 6 (.agg #[vI 0,vI 1,vI 2,vI 3]) st fun S st=> ?_)))))));obtain⟨E,H,st,z⟩:=St.settle st;refine WO_e (qAq ?_);have⟨G,i,J⟩:=qAz i;refine qCf .normal (fun L' w'=>∃d,L'=[(4,vB G)]∧m.le d∧St d (O) w') ?_ ?_
 ·have i:=J;rintro _ a ⟨d,rfl,q,st⟩;refine qAg (qBj ?_);obtain rfl:=sI i;exact X_rt [4] [vB G] ⟨d,rfl,q,st⟩
 ·intro K;refine qFr [(16,fun w'=>Inv E w'∧True)] kr st fun U _ st=> ?_;have a:=E.le_refl;refine tA st a ?_;have hb1S:=z;refine qBa 0 7 (vI p0) (.head _) (qBv 1 kr (qCm 8 i (fun _ h=>qOl st h) ?_));rintro n i _ V ⟨M,rfl,v,st⟩;refine⟨_,rfl,?_⟩;have q:=(q.t H).t v;have a:=Mem.le_trans a v;refine tA st a ?_;refine qBa 2 9 (vB n) (.head _) ?_;rcases qEr n with A|A
  ·rw[if_pos A] at i;refine qLd (t:=9) (b:=true) n kr A ?_;refine qBa 3 10 (vI p1) (.head _) (qBv 4 kr (qCm 11 i (fun _ h=>qOl st h) ?_));rintro c i _ Y ⟨F,rfl,s,st⟩;refine⟨_,rfl,?_⟩;have a:=Mem.le_trans a s;refine tA st a ?_;refine qBa 5 12 (vB c) (.head _) (qBa 6 13 (vB c) (.head _) ?_);rcases qEr c with A|A
   ·rw[if_pos A] at i;refine qLd (t:=13) (b:=true) c kr A ?_;refine qBa 7 14 (vI p0) (.head _) ?_;have⟨g,o,i⟩:=qAz i;have B:=qVz (f:=(fun x:Int=>([vI x]:List Value))) (k:=1) hb1S (fun _=>rfl) o;refine qNx (t:=97) (e:=3) (x:=(.tmp 5)) (y:=(.tmp 14)) (nn:=4) (k:=1) 8 15 (Int.toNat p0*1) (kK _).symm kr rfl kr (.head _) (qAo qDj) (ev (vP u 0)) (ev (vI p0)) kr (qXo o).1 (qXo o).2 ?_;have hq1S:=B;refine qJb 3 15 9 16 (Int.toNat p0*1) (vI g) (.head _) (fun _ h=>h.1) hq1S (qBa 10 17 (vI p1) (.head _) ?_);have⟨l,p,i⟩:=qAz i;have D:=qVz (f:=(fun x:Int=>([vI x]:List Value))) (k:=1) hb1S (fun _=>rfl) p;refine qNx (t:=97) (e:=3) (x:=(.tmp 5)) (y:=(.tmp 17)) (nn:=4) (k:=1) 11 18 (Int.toNat p1*1) (kK _).symm kr rfl kr (.head _) (qAo qDj) (ev (vP u 0)) (ev (vI p1)) kr (qXo p).1 (qXo p).2 ?_;have hq2S:=D;refine qJb 3 18 12 19 (Int.toNat p1*1) (vI l) (.head _) (fun _ h=>h.1) hq2S (qBa 13 20 (vB (decide (g<l))) (.head _) (qBa 14 21 (vB (decide (g<l))) (.head _) (qBa 15 4 (vB (decide (g<l))) (.head _) ?_)));cases i;exact qCu kr (qQo _ kr (K _ _ ⟨F,rfl,q.t s,st⟩))
   ·rw[if_neg (not_true A)] at i;refine qLd (t:=13) (b:=false) c kr A ?_;refine qDg 7 14 (.head _) (qDg 8 15 (.head _) (qDg 9 16 (.head _) (qDg 10 17 (.head _) (qDg 11 18 (.head _) (qDg 12 19 (.head _) (qDg 13 20 (.head _) (qBa 14 21 (vB false) (.head _) (qBa 15 4 (vB false) (.head _) ?_))))))));cases i;exact qCu kr (qQo _ kr (K _ _ ⟨F,rfl,q.t s,st⟩))
  ·rw[if_neg (not_true A)] at i;refine qLd (t:=9) (b:=false) n kr A ?_;refine qDg 3 10 (.head _) (qDg 4 11 (.head _) (qBa 5 12 (vB false) (.head _) (qBa 6 13 (vB false) (.head _) (qDg 7 14 (.head _) (qDg 8 15 (.head _) (qDg 9 16 (.head _) (qDg 10 17 (.head _) (qDg 11 18 (.head _) (qDg 12 19 (.head _) (qDg 13 20 (.head _) (qBa 14 21 (vB false) (.head _) (qBa 15 4 (vB false) (.head _) ?_))))))))))));cases i;exact qCu kr (qQo _ kr (K _ _ ⟨M,rfl,q,st⟩))
def qJu(N:Nat):Tk:=
 (qRa N (1,(⟨#[112]⟩:ByteArray),(⟨#[102]⟩:ByteArray)) 2).bind fun a=>(qPj N ([(1,(⟨#[112]⟩:ByteArray),(⟨#[102]⟩:ByteArray)),(2,(⟨#[112]⟩:ByteArray),(⟨#[116]⟩:ByteArray))]) 3).bind fun b=>(if(a.2==0)=true then(if(b.2==0)=true then(if((a.1.1==6)&&((a.1.2.1.toList==(⟨#[112]⟩:ByteArray).toList)&&((a.1.2.2.toList==(⟨#[]⟩:ByteArray).toList)&&true)))=true then(if((List.length b.1:Int)==1)=true then((idx b.1 0).bind fun a=>if(a.1==7)=true then((qSi N 1 2).bind fun a=>some a) else(some false)) else(some false)) else(some false)) else(some false)) else(some false):Tk).bind fun a=>some a
theorem qTa{r:Bool}(st:St m (O) w)(i:qJu N=some r):Calls Tryz.prog 12 #[] w fun e w'=>∃m',e= .returned (vB r)∧m.le m'∧St m' (O) w':=by
 unfold qJu at i;have q:=m.le_refl;refine W_cA Tryz.func12 rfl Tryz.ntmps12 ?_;refine W_sr (qAd 1 [] (W_sr (qAa 1 [(6,.agg (V5 1 be bq))] (qAj 7 i (fun _ h=>qXp (p0:=(1,be,bq)) st h) ?_))));rintro a i _ V ⟨S,rfl,v,st⟩;refine qAa 3 [(8,.agg (V4 a.1)),(9,vI a.2)] (qAb rfl (qDn 1 38 (.agg (V5 0 eB eB)) st fun s Y st=>(qAb rfl (qCn 38 1 8 (.agg (V4 a.1)) st fun Z st=>(qAd 1 [(2,vI a.2)] (W_sr (qAa 2 [(11,.agg (V5 1 be bq)),(12,.agg (V5 2 be bh))] (qAb rfl (qAu (d:=13) (t:=35) (e:=38) (len:=2) (parts:= #[(0,(.tmp 11)),(1,(.tmp 12))]) C4 (xs:=[(1,be,bq),(2,be,bh)]) [vI 1,vT be,vT bq,vI 2,vT be,vT bh] kr rfl (fun _=>qAv kr _) rfl rfl st ⟨[vI 1,vT be,vT bq],_,rfl,⟨_,_,rfl,rfl,⟨_,_,rfl,rfl,rfl⟩⟩,⟨[vI 2,vT be,vT bh],_,rfl,⟨_,_,rfl,rfl,⟨_,_,rfl,rfl,rfl⟩⟩,rfl⟩⟩ fun R U w4 z st F=>(qAj 14 i (fun _ h=>qWf st F h) ?_))))))))));rintro b i _ w5 ⟨g,k,c,rfl,B,st,G⟩;have q:=((q.t v).t z).t B;refine qAa 5 [(3,vS g b.1 k),(4,vI b.2)] (qAx rfl ?_);have st:=st.f1.t;refine qAg (W_sr ?_);have⟨o,i,J⟩:=qAz i;refine qDo (j:=27) (fun L' w'=>∃f,L'=[(0,vB o)]∧m.le f∧St f (kB s (V4 a.1) 38::kR g b.1 k 38 3::O) w') ?_ ?_
 ·have i:=J;rintro _ l ⟨f,rfl,q,st⟩;refine WO_e (qBj ?_);obtain rfl:=sI i;exact X_rt [0] [vB o] ⟨f,rfl,q,st.t.t⟩
 ·intro K;refine qAa 3 [(19,vB (a.2==0))] (qCz 19 i ?_ ?_)
  ·intro A i;refine qAa 4 [(23,vB (b.2==0))] (qCz 23 i ?_ ?_)
   ·intro A i;refine qAb rfl (qCk 24 38 1 0 (.agg (V4 a.1)) st.t.h (qAa 1 [(25,.agg (V5 6 be eB))] (qAb rfl (qZp (d:=26) (t:=38) (t2:=38) (x:=(.tmp 24)) (y:=(.tmp 25)) (xs:=(V4 a.1)) (ys:=(V5 6 be eB)) ((a.1.1==6)&&((a.1.2.1.toList==be.toList)&&((a.1.2.2.toList==eB.toList)&&true))) kr rfl (ev (.agg (V4 a.1))) (ev (.agg (V5 6 be eB))) kr kr kr (qAa 2 [(28,vB ((a.1.1==6)&&((a.1.2.1.toList==be.toList)&&((a.1.2.2.toList==eB.toList)&&true))))] (qCz 28 i ?_ ?_))))))
    ·intro A i;refine qAa 5 [(33,vB ((b.1.length:Int)==1))] (qCz 33 i ?_ ?_)
     ·intro A i;refine qAa 1 [(34,vS g b.1 k)] (qAb rfl (qDi 35 35 38 34 ((.const (vI 0))) G i ?_));rintro p i u l M ⟨_,_,rfl,rfl,⟨_,_,rfl,rfl,rfl⟩⟩ n;refine qAa 1 [(36,vP u l)] (qCy 37 3 36 l (vI p.1) st n (qAa 3 [(40,vB (p.1==7))] (qCz 40 i ?_ ?_)))
      ·intro A i;refine qAj 41 i (fun _ h=>zBd st h) ?_;rintro H i _ w7 ⟨E,rfl,D,st⟩;refine qAa 2 [(0,vB H)] ?_;cases i;exact qBe _ kr (K _ _ ⟨E,rfl,q.t D,st.f1⟩)
      ·intro A i;refine qAa 3 [(0,vB false)] ?_;cases i;exact qBe _ kr (K _ _ ⟨c,rfl,q,st.f1⟩)
     ·intro A i;refine qAa 10 [(0,vB false)] ?_;cases i;exact qBe _ kr (K _ _ ⟨c,rfl,q,st.f1⟩)
    ·intro A i;refine qAa 15 [(0,vB false)] ?_;cases i;exact qBe _ kr (K _ _ ⟨c,rfl,q,st.f1⟩)
   ·intro A i;refine qAa 20 [(0,vB false)] ?_;cases i;exact qBe _ kr (K _ _ ⟨c,rfl,q,st.f1⟩)
  ·intro A i;refine qAa 24 [(0,vB false)] ?_;cases i;exact qBe _ kr (K _ _ ⟨c,rfl,q,st.f1⟩)
def qFx(N:Nat)(a:T27):Option (T27⊕T28):=
 if(decide (a.2.1≥0))=true then(((qLo N a.2.2).bind fun b=>(if(b.2.1 !=7)=true then(some (b.2.1 !=6)) else(some false):Tk).bind fun c=>if c=true then((qEb 40 a.1 ([b.2])).bind fun c=>some (c,b.1.1,b.1.2)) else(some (a.1,b.1.1,b.1.2)):Option T28).bind fun b=>some (.inl (b.1,IntKind.wrap .i64 (a.2.1-1),b.2.1,b.2.2))) else(some (.inr (a.1,a.2.2.1,a.2.2.2)))
def qDy(N:Nat)(c:Tz)(d:Tz)(e:T13)(f:T13)(b:T28)(a:Bool×Int):Option (Bool×Int⊕Unit⊕Bool):=
 if(decide (a.2≥1))=true then((qPj N b.1 a.2).bind fun b=>if(b.2 !=0)=true then(some (.inr (.inr (false)))) else((qGg N c.2 e.2 b.1).bind fun c=>(qGg N d.2 f.2 b.1).bind fun b=>(qIb N c.1 b.1).bind fun b=>(if(decide (a.2<3))=true then(if a.1=true then(some (!b)) else(some false)) else(some false):Tk).bind fun c=>if c=true then(some (.inr (.inr (false)))) else(some (.inl (b,IntKind.wrap .i64 (a.2-1)))))) else(some (.inr (.inl ())))
def qHj(N:Nat)(p0:Te):Tk:=
 (qIu N (p0,0)).bind fun a=>(qLa N a.1 a.2).bind fun c=>(qFm N c.1).bind fun d=>(qFm N d.1).bind fun e=>(qBu N e.1 6).bind fun b=>(qAs (qFx N) N (([]:T19),b.2,b.1.1,b.1.2)).bind fun b=>(qAs (qDy N a c d e b) N (true,3)).bind fun a=>(match a with| .inl a=>(qJu N).bind fun a=>some a| .inr (z)=>some z)
theorem qPy{p0:Te}{r:Bool}(st:St m (O) w)(r1:RepS (cInt .i64) m a1 c1 p0)(i:qHj N p0=some r):Calls Tryz.prog 3 #[vS a1 p0 c1] w fun e w'=>∃m',e= .returned (vB r)∧m.le m'∧St m' (O) w':=by
 unfold qHj at i;have q:=m.le_refl;refine W_cA Tryz.func3 rfl Tryz.ntmps3 ?_;refine W_sr (qAd 1 [] (W_sr (qAa 2 [(21,.agg #[vS a1 p0 c1,vI 0])] (qAb rfl (zGv 22 25 21 (.agg #[vS a1 p0 c1,vI 0]) st fun G w1 st=>(qAd 1 [(3,vP G 0)] (W_sr (qAa 1 [(23,vP G 0)] (qAj 24 i (fun _ h=>qRf (p0:=(p0,0)) st r1 h) ?_)))))))));rintro b i _ w2 ⟨a2,c2,o,p,m2,rfl,e2,st,r2,a⟩;refine qAb rfl (qDn 4 28 (.agg #[v2]) st fun V w3 st=>(qAb rfl (qCn 28 4 24 (.agg #[vS o b.2 p]) st fun w4 st=>(WO_e (W_sr (qAa 1 [(25,vP G 0)] (qAb rfl (qCk 26 28 4 0 (.agg #[vS o b.2 p]) st.h (qAj 27 i (fun _ h=>qUu (p0:=b.1) st.f2 r2 a h) ?_)))))))));rintro k i _ w5 ⟨a4,c4,s,x,m3,rfl,e3,st,r4,c⟩;refine qAb rfl (qDn 5 28 (.agg #[v2]) st fun Y w6 st=>(qAb rfl (qCn 28 5 27 (.agg #[vS s k.2 x]) st fun w7 st=>(WO_e (W_sr (qAa 1 [(28,vP G 0)] (qAj 29 i (fun _ h=>qLx (p0:=k.1) st.f2 r4 h) ?_)))))));rintro l i _ w8 ⟨a6,c6,u,y,m4,rfl,e4,st,r6,f⟩;refine qAa 1 [(30,vP G 0)] (qAj 31 i (fun _ h=>qLx (p0:=l.1) st.f1 r6 h) ?_);rintro n i _ w9 ⟨a8,c8,v,z,m5,rfl,e5,st,r8,g⟩
 refine qAb rfl (qDn 6 33 (.agg #[v2]) st fun Z g7 st=>(qAb rfl (qDn 7 33 (.agg #[v2]) st fun b5 g8 st=>(qAb rfl (qCn 33 6 29 (.agg #[vS u l.2 y]) st.f1 fun h0 st=>(qAb rfl (qCn 33 7 31 (.agg #[vS v n.2 z]) st.f1 fun h1 st=>(WO_e (W_sr (qAd 1 [(8,v7)] (qAq (W_sr (qAa 1 [(32,vP G 0)] (qAj 33 i (fun _ h=>qBx (p0:=n.1) st.f3 r8 h) ?_))))))))))))));rintro y5 i _ h2 ⟨f7,f8,m6,rfl,e6,st,g1⟩;refine qAd 1 [(9,vI y5.2)] (qAr ?_);have⟨d5,i,j1⟩:=qAz i;refine qCf (.exit 0) (fun L' w'=>∃(B:T28),∃E F S U m7,B=d5∧L'=[(4,vP V 0),(5,vP Y 0),(6,vP Z 0),(7,vP b5 0),(8,vS E B.1 F)]∧m.le m7∧St m7 (kB G (V1 B.2 S U) 25::kB b5 #[vS v n.2 z] 33::kB Z #[vS u l.2 y] 33::kB Y #[vS s k.2 x] 28::kB V #[vS o b.2 p] 28::kR v n.2 z 61 2::kR u l.2 y 61 2::kR s k.2 x 55 2::kR o b.2 p 55 2::kR E B.1 F 38 3::O) w'∧RepS C4 m7 E F B.1∧RepS (cInt .i64) m7 S U B.2.1∧RepS C3 m7 v z n.2∧RepS C3 m7 u y l.2∧RepS C1 m7 s x k.2∧RepS C1 m7 o p b.2) ?_ ?_
 ·rintro _ h3 ⟨B,E,F,S,U,m7,rfl,rfl,q,st,R,H,g,f,c,a⟩;have i:=j1;refine qBd (qAg (W_sr (qAd 1 [(11,vB true)] (qAq (W_sr (qAd 1 [(12,vI 3)] (qAr ?_)))))));have⟨d6,i,j4⟩:=qAz i;refine qCf (.exit 2) (fun L' w'=>∃(o4:Unit),∃b9,(.inl o4)=d6∧L'=[]∧m.le b9∧St b9 (kB G (V1 B.2 S U) 25::kB b5 #[vS v n.2 z] 33::kB Z #[vS u l.2 y] 33::kB Y #[vS s k.2 x] 28::kB V #[vS o b.2 p] 28::kR v n.2 z 61 2::kR u l.2 y 61 2::kR s k.2 x 55 2::kR o b.2 p 55 2::kR E B.1 F 38 3::O) w'∧RepS (cInt .i64) b9 S U B.2.1∧RepS C3 b9 v z n.2∧RepS C3 b9 u y l.2∧RepS C1 b9 s x k.2∧RepS C1 b9 o p b.2) ?_ ?_
  ·rintro _ b0 ⟨o4,b9,rfl,rfl,q,st,H,g,f,c,a⟩;have i:=j4;refine qBd (qAg (W_sr (qAj 91 i (fun _ h=>qTa st h) ?_)));rintro D i _ b8 ⟨a0,rfl,M,st⟩;refine qAa 1 [(2,vB D)] (qAx rfl ?_);have st:=st.f9.t;refine qAg (qBj ?_);obtain rfl:=sI i;exact X_rt [2] [vB D] ⟨a0,rfl,q.t M,st.t.t.t.t.t.t.t.t.t⟩
  intro d7;refine qEk _ kr (qDa (fun k2 L' w'=>∃(s2:Bool×Int),∃M,qAs (qDy N b k l n B) k2 s2=some d6∧L'=[(4,vP V 0),(5,vP Y 0),(6,vP Z 0),(7,vP b5 0),(8,vS E B.1 F),(11,vB s2.1),(12,vI s2.2)]∧m.le M∧St M (kB G (V1 B.2 S U) 25::kB b5 #[vS v n.2 z] 33::kB Z #[vS u l.2 y] 33::kB Y #[vS s k.2 x] 28::kB V #[vS o b.2 p] 28::kR v n.2 z 61 2::kR u l.2 y 61 2::kR s k.2 x 55 2::kR o b.2 p 55 2::kR E B.1 F 38 3::O) w'∧RepS C4 M E F B.1∧RepS (cInt .i64) M S U B.2.1∧RepS C3 M v z n.2∧RepS C3 M u y l.2∧RepS C1 M s x k.2∧RepS C1 M o p b.2) N ⟨(true,3),m7,i,rfl,q,st.f9.f9.f9.f9.f9.f9.f9.f9.f9.f9,R,H,g,f,c,a⟩ ?_);rintro k2 _ h4 ⟨s2,M,hL,rfl,q,st,R,H,g,f,c,a⟩;rcases k2 with _|k2
  ·exact qBg hL
  ·obtain⟨g6,i,f6,d1⟩:=qBf hL;clear hL;unfold qDy at i;refine qAq (W_sr (qAd 2 [(53,vB (decide (s2.2≥1)))] (W_if i ?_ ?_)))
   ·intro A i;refine qAn (qAg (qAq (qAr (W_sr (qAa 2 [(57,vS E B.1 F),(58,vI s2.2)] (qAj 59 i (fun _ h=>qWf st R h) ?_))))));rintro y7 i _ h5 ⟨d2,d3,g0,rfl,a0,st,f5⟩;have f:=f.mono a0;have a:=a.mono a0;refine qAd 5 [(13,vS d2 y7.1 d3),(14,vI y7.2)] (qAq (W_sr (qAd 2 [(63,vB (y7.2 !=0))] (W_if i ?_ ?_))))
    ·intro A i;refine W_sr (qAa 1 [(2,vB false)] (qAx rfl ?_));have st:=st.t.f9.t;refine qAg (qBj (qAc (qAf (qAc ?_))));cases i;have ho:=d1 _ rfl;subst ho;have i:=j4;refine qAc (qAf (qAc ?_));cases i;exact X_rt [2] [vB false] ⟨g0,rfl,q.t a0,st.t.t.t.t.t.t.t.t.t⟩
    ·intro A i;refine qAn (qAg (W_sr (qAb rfl (qCk 65 28 4 0 (.agg #[vS o b.2 p]) st.t.t.t.t.t.h (qAb rfl (qCk 66 33 6 0 (.agg #[vS u l.2 y]) st.t.t.t.h (qAa 1 [(67,vS d2 y7.1 d3)] (qAj 68 i (fun _ h=>qMj st a f f5 h) ?_))))))));rintro y8 i _ h6 ⟨d8,e1,g4,rfl,b0,st,g2⟩;have g:=(g.mono a0).mono b0;have c:=(c.mono a0).mono b0;refine qAd 5 [(15,vS d8 y8.1 e1)] (W_sr (qAb rfl (qCk 72 28 5 0 (.agg #[vS s k.2 x]) st.t.t.t.t.t.h (qAb rfl (qCk 73 33 7 0 (.agg #[vS v n.2 z]) st.t.t.t.h (qAa 1 [(74,vS d2 y7.1 d3)] (qAj 75 i (fun _ h=>qMj st c g (f5.mono b0) h) ?_)))))));rintro y9 i _ h7 ⟨d9,f4,g5,rfl,b8,st,g3⟩;refine qAa 5 [(17,vS d9 y9.1 f4)] (qAx rfl ?_);have st:=st.f2.t;refine qAg (W_sr (qAa 2 [(78,vS d8 y8.1 e1),(79,vS d9 y9.1 f4)] (qAj 80 i (fun _ h=>qQt st (g2.mono b8) g3 h) ?_)));rintro d0 i _ h8 ⟨d4,rfl,c0,st⟩;have q:=(((q.t a0).t b0).t b8).t c0;have R:=(((R.mono a0).mono b0).mono b8).mono c0;have H:=(((H.mono a0).mono b0).mono b8).mono c0;have g:=(g.mono b8).mono c0;have f:=((f.mono b0).mono b8).mono c0;have c:=(c.mono b8).mono c0;have a:=((a.mono b0).mono b8).mono c0;refine qAa 1 [(19,vB d0)] (qAx rfl ?_);have st:=st.t.t;refine qAg (qAq (W_sr ?_));have⟨o5,i,J⟩:=qAz i
     refine qDo (j:=9) (fun L' w'=>∃D,L'=[(4,vP V 0),(5,vP Y 0),(6,vP Z 0),(7,vP b5 0),(8,vS E B.1 F),(12,vI s2.2),(19,vB d0),(89,vB o5)]∧m.le D∧St D (kB G (V1 B.2 S U) 25::kB b5 #[vS v n.2 z] 33::kB Z #[vS u l.2 y] 33::kB Y #[vS s k.2 x] 28::kB V #[vS o b.2 p] 28::kR v n.2 z 61 2::kR u l.2 y 61 2::kR s k.2 x 55 2::kR o b.2 p 55 2::kR E B.1 F 38 3::O) w'∧RepS C4 D E F B.1∧RepS (cInt .i64) D S U B.2.1∧RepS C3 D v z n.2∧RepS C3 D u y l.2∧RepS C1 D s x k.2∧RepS C1 D o p b.2) ?_ ?_
     ·have i:=J;rintro _ h9 ⟨D,rfl,q,st,R,H,g,f,c,a⟩;refine WO_e (W_if i ?_ ?_)
      ·intro A i;refine W_sr (qAa 1 [(2,vB false)] (qAx rfl ?_));have st:=st.f9.t;refine qAg (qBj (qAc (qAf (qAc ?_))));cases i;have ho:=d1 _ rfl;subst ho;have i:=j4;refine qAc (qAf (qAc ?_));cases i;exact X_rt [2] [vB false] ⟨D,rfl,q,st.t.t.t.t.t.t.t.t.t⟩
      ·intro A i;refine qAn (qAg (qAm (qAa 2 [(11,vB d0)] (qAx rfl (qBc (qAg (qAm (qAa 3 [(12,vI (wr (s2.2-1)))] (qAx rfl ?_)))))))));obtain rfl:=sI i;have hL:=f6 _ rfl;exact xE (qCd k2 (jG _) ⟨(d0,wr (s2.2-1)),D,hL,rfl,q,st.f9.f9.f9.f9.f9.f9.f9.f9.f9.f9,R,H,g,f,c,a⟩)
     ·intro K;refine qAa 3 [(83,vB (decide (s2.2<3)))] (qCz 83 i ?_ ?_)
      ·intro A i;refine qAa 3 [(86,vB s2.1)] (qCz 86 i ?_ ?_)
       ·intro A i;refine qAa 3 [(89,vB (!d0))] ?_;cases i;exact qBe _ kr (K _ _ ⟨d4,rfl,q,st.f9.f9.f9.f9.f9.f9.f9.f9.f9.f9,R,H,g,f,c,a⟩)
       ·intro A i;refine qAa 3 [(89,vB false)] ?_;cases i;exact qBe _ kr (K _ _ ⟨d4,rfl,q,st.f9.f9.f9.f9.f9.f9.f9.f9.f9.f9,R,H,g,f,c,a⟩)
      ·intro A i;refine qAa 6 [(89,vB false)] ?_;cases i;exact qBe _ kr (K _ _ ⟨d4,rfl,q,st.f9.f9.f9.f9.f9.f9.f9.f9.f9.f9,R,H,g,f,c,a⟩)
   ·intro A i;refine qCv (qAe ?_);cases i;have ho:=d1 _ rfl;have st:=st.f9.f9.f9.f9.f9.f9.f9.f9.f9.f9;refine qAe ?_;exact xE (d7 _ _ ⟨(),M,ho,rfl,q,st,H,g,f,c,a⟩)
 intro d6;have st:=(st.nilroom 38 3).front9.front8.front7.front7.front9.front9.front9.front9.front9;refine qEk _ kr (qDa (fun k1 L' w'=>∃(D:T27),∃H M c0 d2 m8,qAs (qFx N) k1 D=some d5∧L'=[(3,vP G 0),(4,vP V 0),(5,vP Y 0),(6,vP Z 0),(7,vP b5 0),(8,vS H D.1 M),(9,vI D.2.1)]∧m.le m8∧St m8 (kB G (V1 D.2.2 c0 d2) 25::kB b5 #[vS v n.2 z] 33::kB Z #[vS u l.2 y] 33::kB Y #[vS s k.2 x] 28::kB V #[vS o b.2 p] 28::kR v n.2 z 61 2::kR u l.2 y 61 2::kR s k.2 x 55 2::kR o b.2 p 55 2::kR H D.1 M 38 3::O) w'∧RepS C4 m8 H M D.1∧RepS (cInt .i64) m8 c0 d2 D.2.2.1∧RepS C3 m8 v z n.2∧RepS C3 m8 u y l.2∧RepS C1 m8 s x k.2∧RepS C1 m8 o p b.2) N ⟨(([]:T19),y5.2,y5.1.1,y5.1.2),none,0,f7,f8,m6,i,rfl,((((q.t e2).t e3).t e4).t e5).t e6,st,(RepS.nil _ _),g1,g.mono e6,(f.mono e5).mono e6,((c.mono e4).mono e5).mono e6,(((a.mono e3).mono e4).mono e5).mono e6⟩ ?_);rintro k1 _ g6 ⟨D,H,M,c0,d2,m8,hL,rfl,q,st,a0,f4,g,f,c,a⟩;rcases k1 with _|k1
 ·exact qBg hL
 ·obtain⟨g5,i,f6,f5⟩:=qBf hL;clear hL;unfold qFx at i;refine qAq (W_sr (qAd 2 [(35,vB (decide (D.2.1≥0)))] (W_if i ?_ ?_)))
  ·intro A i;refine qAn (qAg (qAq ?_));have⟨o2,i,j2⟩:=qAz i;refine qCf .normal (fun L' w'=>∃b0 b8 d0 d3 m9,L'=[(3,vP G 0),(4,vP V 0),(5,vP Y 0),(6,vP Z 0),(7,vP b5 0),(8,vS b0 o2.1 b8),(9,vI D.2.1)]∧m.le m9∧St m9 (kB G (V1 o2.2 d0 d3) 25::kB b5 #[vS v n.2 z] 33::kB Z #[vS u l.2 y] 33::kB Y #[vS s k.2 x] 28::kB V #[vS o b.2 p] 28::kR v n.2 z 61 2::kR u l.2 y 61 2::kR s k.2 x 55 2::kR o b.2 p 55 2::kR b0 o2.1 b8 38 3::O) w'∧RepS C4 m9 b0 b8 o2.1∧RepS (cInt .i64) m9 d0 d3 o2.2.1∧RepS C3 m9 v z n.2∧RepS C3 m9 u y l.2∧RepS C1 m9 s x k.2∧RepS C1 m9 o p b.2) ?_ ?_
   ·have i:=j2;rintro _ d1 ⟨b0,b8,d0,d3,m9,rfl,q,st,R,b9,g,f,c,a⟩;refine qAg (qAm (qAa 3 [(9,vI (wr (D.2.1-1)))] (qAx rfl ?_)));obtain rfl:=sI i;have hL:=f6 _ rfl;exact xE (qCd k1 (jG _) ⟨(o2.1,wr (D.2.1-1),o2.2.1,o2.2.2),b0,b8,d0,d3,m9,hL,rfl,q,st.f9.f9.f9.f9.f9.f9.f9.f9.f9.f9,R,b9,g,f,c,a⟩)
   ·intro d7;refine qAr (W_sr (qAa 1 [(38,vP G 0)] (qAj 39 i (fun _ h=>qVl (p0:=D.2.2) st f4 h) ?_)));rintro y6 i _ h3 ⟨d1,d4,e1,rfl,e7,st,b9⟩;refine qAb rfl (qDn 10 38 (.agg (V5 0 eB eB)) st fun b6 h4 st=>(qAb rfl (qCn 38 10 39 (.agg (V4 y6.2)) st fun h5 st=>(WO_e (W_sr ?_)))));have⟨o3,i,J⟩:=qAz i;refine qDo (j:=8) (fun L' w'=>∃R,L'=[(3,vP G 0),(4,vP V 0),(5,vP Y 0),(6,vP Z 0),(7,vP b5 0),(8,vS H D.1 M),(9,vI D.2.1),(10,vP b6 0),(47,vB o3)]∧m.le R∧St R (kB b6 (V4 y6.2) 38::kB G (V1 y6.1 d1 d4) 25::kB b5 #[vS v n.2 z] 33::kB Z #[vS u l.2 y] 33::kB Y #[vS s k.2 x] 28::kB V #[vS o b.2 p] 28::kR v n.2 z 61 2::kR u l.2 y 61 2::kR s k.2 x 55 2::kR o b.2 p 55 2::kR H D.1 M 38 3::O) w'∧RepS C4 R H M D.1∧RepS (cInt .i64) R d1 d4 y6.1.1∧RepS C3 R v z n.2∧RepS C3 R u y l.2∧RepS C1 R s x k.2∧RepS C1 R o p b.2) ?_ ?_
    ·have i:=J;rintro _ h6 ⟨R,rfl,q,st,a0,b9,g,f,c,a⟩;refine WO_e (W_if i ?_ ?_)
     ·intro A i;refine qAm (qAa 1 [(48,vS H D.1 M)] (qAb rfl (qCk 49 38 10 0 (.agg (V4 y6.2)) st.h (qAb rfl (qAu (d:=50) (t:=35) (e:=38) (len:=1) (parts:= #[(0,(.tmp 49))]) C4 (xs:=[y6.2]) (V6 y6.2) kr rfl (fun _=>qAv kr _) rfl rfl st ⟨(V6 y6.2),_,rfl,⟨_,_,rfl,rfl,⟨_,_,rfl,rfl,rfl⟩⟩,rfl⟩ fun b7 g4 h7 e8 st g2=>(qAb rfl (qHi 51 35 35 38 40 48 50 st.f11 (.inl kr) (a0.mono e8) g2.src i fun l1 i d8 d9 g0 h8 e9 st g3=>(qAa 1 [(8,vS d8 l1 d9)] (qAx rfl ?_)))))))));have st:=st.f1.t;refine qBc ?_;cases i;exact xE (d7 _ _ ⟨d8,d9,d1,d4,g0,rfl,(q.t e8).t e9,st.f1.t.f9.f9.f9.f9.f9.f9.f9.f9.f9,g3,(b9.mono e8).mono e9,(g.mono e8).mono e9,(f.mono e8).mono e9,(c.mono e8).mono e9,(a.mono e8).mono e9⟩)
     ·intro A i;refine qAn (qBc ?_);cases i;exact xE (d7 _ _ ⟨H,M,d1,d4,R,rfl,q,st.t.f9.f9.f9.f9.f9.f9.f9.f9.f9.f9,a0,b9,g,f,c,a⟩)
    ·intro K;refine qDe 1 41 3 40 0 (vI y6.2.1) st.h (qAa 2 [(43,vB (y6.2.1 !=7))] (qCz 43 i ?_ ?_))
     ·intro A i;refine qDe 1 45 3 44 0 (vI y6.2.1) st.h (qAa 2 [(47,vB (y6.2.1 !=6))] ?_);cases i;exact qBe _ kr (K _ _ ⟨e1,rfl,q.t e7,st.f10.f10.f10.f10.f10.f10.f10.f10.f10.f10.f10,a0.mono e7,b9,g.mono e7,f.mono e7,c.mono e7,a.mono e7⟩)
     ·intro A i;refine qAa 4 [(47,vB false)] ?_;cases i;exact qBe _ kr (K _ _ ⟨e1,rfl,q.t e7,st.f10.f10.f10.f10.f10.f10.f10.f10.f10.f10.f10,a0.mono e7,b9,g.mono e7,f.mono e7,c.mono e7,a.mono e7⟩)
  ·intro A i;refine qCv (qAe ?_);obtain rfl:=sI i;have ho:=f5 _ rfl;have st:=st.f9.f9.f9.f9.f9.f9.f9.f9.f9.f9;refine qAe ?_;exact xE (d6 _ _ ⟨(D.1,D.2.2.1,D.2.2.2),H,M,c0,d2,m8,ho,rfl,q,st,a0,f4,g,f,c,a⟩)
end
end Go.Proofs.YtfbdkahdgbimeaaGreatDoor
section
namespace Go.Dc
theorem zJp{σ β:Type}{f:σ→Option (σ⊕β)}(st:Nat→σ)(k:Nat)(res:β)(step:∀i,i<k→f (st i)=some (.inl (st (i+1))))(stop:f (st k)=some (.inr res)){N:Nat}(hN:k<N):qAs f N (st 0)=some res:=by
 have key:∀d i M,i+d=k→d<M→qAs f M (st i)=some res:=by
  intro d
  induction d with
  |zero=>intro i M h hM;obtain⟨M',rfl⟩:∃M',M=M'+1:=⟨M-1,by omega⟩;simp only[gX] at h;subst h;simp[qAs,stop]
  |succ d ih=>
   intro i M h hM
   obtain⟨M',rfl⟩:∃M',M=M'+1:=⟨M-1,by omega⟩
   have:=ih (i+1) M' (by omega) (by omega)
   simp[qAs,step i (by omega),this]
 exact key k 0 N (by omega) hN
section
variable {ν:Type}
theorem zIc{l:List (Int×ν)}{k c:Int}{v:ν}(h:c≠k):mget (l.map fun p=>if k=p.1 then(k,v) else p) c=mget l c:=by
 induction l with
 |nil=>rfl
 |cons p l ih=>
  simp only[k9,mget]
  by_cases hk:k=p.1
  ·subst hk;rw[if_pos rfl,if_neg h,if_neg h,ih]
  ·rw[if_neg hk,ih]
theorem zHe{l:List (Int×ν)}{k:Int}{v:ν}(h:(mget l k).isSome=true):mget (l.map fun p=>if k=p.1 then(k,v) else p) k=some v:=by
 induction l with
 |nil=>cases h
 |cons p l ih=>
  simp only[k9,mget] at h ⊢
  by_cases hk:k=p.1
  ·subst hk;simp
  ·rw[if_neg hk] at h ⊢
   rw[if_neg hk]
   exact ih h
theorem zPz{l:List (Int×ν)}{k:Int}{v:ν}(h:mget l k=none)(c:Int):mget (mins l k v) c=if c=k then some v else mget l c:=by
 induction l with
 |nil=>rfl
 |cons p l ih=>
  simp only[mget] at h
  split at h
  ·cases h
  ·rename_i hk
   simp only[mins]
   split
   ·simp only[mget]
   ·simp only[mget,ih h]
    by_cases hc:c=k
    ·subst hc;simp[hk]
    ·simp[hc]
theorem zMs(l:List (Int×ν))(k:Int)(v:ν)(c:Int):mget (mset l k v) c=if c=k then some v else mget l c:=by
 unfold mset
 split
 ·rename_i h
  split
  ·rename_i hc;subst hc;exact zHe h
  ·rename_i hc;exact zIc hc
 ·rename_i h
  exact zPz (by simpa using h) c
def Srt(l:List (Int×ν)):Prop:=(l.map (·.1)).Pairwise (· < ·)
theorem Srt.nil:Srt ([]:List (Int×ν)):=List.Pairwise.nil
theorem Srt.mins{l:List (Int×ν)}{k:Int}{v:ν}(hs:Srt l)(h:mget l k=none):Srt (mins l k v):=by
 induction l with
 |nil=>simp[Srt,Go.Dc.mins]
 |cons p l ih=>
  have hs':=hs
  simp only[Srt,k9,kD] at hs
  simp only[mget] at h
  split at h
  ·cases h
  ·rename_i hk
   simp only[Go.Dc.mins]
   split
   ·rename_i hlt
    have hlt:k<p.1:=by simpa[KOrd.lt] using hlt
    refine kD.2 ⟨fun a ha=> ?_,hs'⟩
    simp only[k9,jM] at ha
    rcases ha with rfl|ha
    ·exact hlt
    ·exact Int.lt_trans hlt (hs.1 a ha)
   ·rename_i hlt
    have hlt:¬k<p.1:=by simpa[KOrd.lt] using hlt
    refine kD.2 ⟨fun a ha=> ?_,ih hs.2 h⟩
    obtain⟨q,hq,rfl⟩:=kU.1 ha
    rcases jM.1 ((zGe l k v).mem_iff.1 hq) with rfl|hq
    ·show p.1<k;omega
    ·exact hs.1 _ (gJ hq)
theorem Srt.mset{l:List (Int×ν)}(hs:Srt l)(k:Int)(v:ν):Srt (mset l k v):=by
 unfold Go.Dc.mset
 split
 ·unfold Srt
  have:(l.map fun p=>if k=p.1 then(k,v) else p).map (·.1)=l.map (·.1):=by
   rw[List.map_map]
   refine hZ fun p _=> ?_
   simp only[Function.comp_apply]
   split
   ·rename_i h;exact h
   ·rfl
  rw[this];exact hs
 ·rename_i h
  exact hs.mins (by simpa using h)
theorem Srt.out{l:List (Int×ν)}{c:Int}(h:∀a∈l.map (·.1),c<a):mget l c=none:=by
 rw[qZl];intro hm;exact Int.lt_irrefl _ (h c hm)
theorem Srt.ext:∀{l k:List (Int×ν)},Srt l→Srt k→(∀c,mget l c=mget k c)→l=k
 |[],[],_,_,_=>rfl
 |[],q::k,_,_,h=>by have:=h q.1;simp[mget] at this
 |p::l,[],_,_,h=>by have:=h p.1;simp[mget] at this
 |p::l,q::k,hl,hk,h=>by
  have hl':(∀a∈l.map (·.1),p.1<a)∧Srt l:=kD.1 hl
  have hk':(∀a∈k.map (·.1),q.1<a)∧Srt k:=kD.1 hk
  have h1:p.1=q.1:=by
   rcases Int.lt_trichotomy p.1 q.1 with hlt|he|hlt
   ·have:=h p.1
    rw[Srt.out (l:=q::k) (c:=p.1)] at this
    ·simp[mget] at this
    ·intro a ha
     rcases jM.1 ha with rfl|ha
     ·exact hlt
     ·exact Int.lt_trans hlt (hk'.1 a ha)
   ·exact he
   ·have:=h q.1
    rw[Srt.out (l:=p::l) (c:=q.1)] at this
    ·simp[mget] at this
    ·intro a ha
     rcases jM.1 ha with rfl|ha
     ·exact hlt
     ·exact Int.lt_trans hlt (hl'.1 a ha)
  have h2:p.2=q.2:=by have:=h p.1;simpa[mget,h1] using this
  have h3:l=k:=by
   refine Srt.ext hl'.2 hk'.2 fun c=> ?_
   by_cases hc:c=p.1
   ·rw[Srt.out (l:=l) (fun a ha=>hc▸hl'.1 a ha),Srt.out (l:=k) (fun a ha=>by rw[hc,h1];exact hk'.1 a ha)]
   ·have:=h c
    simpa[mget,hc,h1▸hc] using this
  rw[h3,Prod.ext h1 h2]
def qQg(v:ν)(m:List (Int×ν))(xs:List UInt8):List (Int×ν):=xs.foldl (fun m x=>mset m (x.toNat:Int) v) m
theorem zCf{v:ν}:∀{xs:List UInt8} {m:List (Int×ν)},Srt m→Srt (qQg v m xs)
 |[],_,h=>h
 |_::xs,_,h=>zCf (xs:=xs) (h.mset _ _)
theorem zBn{v:ν}(c:Int):∀(xs:List UInt8) (m:List (Int×ν)),mget (qQg v m xs) c=if xs.any (fun x=>decide ((x.toNat:Int)=c))=true then some v else mget m c
 |[],m=>by simp[qQg]
 |x::xs,m=>by
  have:=zBn (v:=v) c xs (mset m (x.toNat:Int) v)
  rw[show qQg v m (x::xs)=qQg v (mset m (x.toNat:Int) v) xs from rfl,this,zMs]
  by_cases h1:xs.any (fun x=>decide ((x.toNat:Int)=c))=true
  ·simp[h1]
  ·by_cases h2:(x.toNat:Int)=c
   ·subst h2;simp[h1]
   ·have h3:¬c=(x.toNat:Int):=fun e=>h2 e.symm
    simp[h1,h2,h3]
end
end Go.Dc
namespace Go.Proofs.YtfbdkahdgbimeaaGreatDoor
open Go Go.Dc
def allK:List (Int×ByteArray):=[(1,⟨#[97,98,99,100,101,102,103,104,105,106,107,108,109,110,111,112,113,114,115,116,117,118,119,120,121,122]⟩),(2,⟨#[48,49,50,51,52,53,54,55,56,57]⟩),(3,⟨#[95]⟩),(4,⟨#[46]⟩),(5,⟨#[9,10,13,32]⟩),(6,⟨#[35]⟩),(7,⟨#[34]⟩),(8,⟨#[59,44,40,41,43,45,42,47,37,60,61]⟩)]
def kdL:List (Int×Int):=[(9,5),(10,5),(13,5),(32,5),(34,7),(35,6),(37,8),(40,8),(41,8),(42,8),(43,8),(44,8),(45,8),(46,4),(47,8),(48,2),(49,2),(50,2),(51,2),(52,2),(53,2),(54,2),(55,2),(56,2),(57,2),(59,8),(60,8),(61,8),(95,3),(97,1),(98,1),(99,1),(100,1),(101,1),(102,1),(103,1),(104,1),(105,1),(106,1),(107,1),(108,1),(109,1),(110,1),(111,1),(112,1),(113,1),(114,1),(115,1),(116,1),(117,1),(118,1),(119,1),(120,1),(121,1),(122,1)]
def kdI(c:Int):Int:=(mget kdL c).getD 0
def inE(e:Int×ByteArray)(c:Int):Bool:=e.2.data.toList.any fun x=>decide ((x.toNat:Int)=c)
def layK(m:List (Int×Int))(k:List (Int×ByteArray)):List (Int×Int):=k.foldl (fun m e=>qQg e.1 m e.2.data.toList) m
theorem zJh:∀{k:List (Int×ByteArray)} {m:List (Int×Int)},Srt m→Srt (layK m k)
 |[],_,h=>h
 |_::k,_,h=>zJh (k:=k) (zCf h)
theorem zJg(c:Int):∀(k:List (Int×ByteArray)) (m:List (Int×Int)),(∀e∈k,inE e c=true→e.1=kdI c)→(∀v,mget m c=some v→v=kdI c)→
  mget (layK m k) c=if(k.any fun e=>inE e c)=true then some (kdI c) else mget m c
 |[],m,_,_=>by simp[layK]
 |e::k,m,h,hm=>by
  have hg:=zBn (v:=e.1) c e.2.data.toList m
  have:=zJg c k (qQg e.1 m e.2.data.toList) (fun e' he=>h e' (jL _ he)) (fun v hv=>by
   rw[hg] at hv
   split at hv
   ·rename_i hi
    rw[←jZ hv]
    exact h e (jJ ..) hi
   ·exact hm v hv)
  rw[show layK m (e::k)=layK (qQg e.1 m e.2.data.toList) k from rfl,this,hg]
  by_cases h1:(k.any fun e=>inE e c)=true
  ·simp[h1]
  ·by_cases h2:inE e c=true
   ·have:=h e (jJ ..) h2
    have h2':(e.2.data.toList.any fun x=>decide ((x.toNat:Int)=c))=true:=h2
    simp only[dN,h2,Bool.true_or,jI,h1,h2',this]
    simp
   ·have h2':(e.2.data.toList.any fun x=>decide ((x.toNat:Int)=c))=false:=by simpa[inE] using h2
    simp only[dN,h1,h2',Bool.or_false,jC,jH]
    simp[h2]
theorem zKm:(allK.all fun e=>e.2.data.toList.all fun x=>decide (e.1=kdI (x.toNat:Int)))=true∧(kdL.all fun p=>allK.any fun e=>inE e p.1)=true:=⟨by kernel_rfl,by kernel_rfl⟩
theorem kd_in{e:Int×ByteArray}{c:Int}(he:e∈allK)(h:inE e c=true):e.1=kdI c:=by
 have:=jT.1 zKm.1 e he
 obtain⟨x,hx,hc⟩:=gV.1 h
 have h2:=jT.1 this x hx
 have hc:(x.toNat:Int)=c:=by simpa using hc
 subst hc
 simpa using h2
theorem zUl(c:Int):mget kdL c=if(allK.any fun e=>inE e c)=true then some (kdI c) else none:=by
 cases h:mget kdL c with
 |none=>
  rw[if_neg]
  intro ha
  obtain⟨e,he,hi⟩:=gV.1 ha
  have h1:=kd_in he hi
  have h0:kdI c=0:=by simp[kdI,h]
  have:(allK.all fun e=>decide (e.1≠0))=true:=by kernel_rfl
  have:=jT.1 this e he
  simp[h1,h0] at this
 |some v=>
  have hm:(c,v)∈kdL:=(zDp (l:=kdL) (by
   have:decide ((kdL.map (·.1)).Nodup)=true:=by kernel_rfl
   simpa using this)).1 h
  have:=jT.1 zKm.2 _ hm
  rw[if_pos this]
  simp[kdI,h]
theorem zTf:Srt kdL:=by
 have:decide ((kdL.map (·.1)).Pairwise (· < ·))=true:=by kernel_rfl
 simpa[Srt] using this
theorem zNt{k:List (Int×ByteArray)}(h:k.Perm allK):layK [] k=kdL:=by
 refine Srt.ext (zJh Srt.nil) zTf fun c=> ?_
 rw[zJg c k [] (fun e he hi=>kd_in (h.mem_iff.1 he) hi) (fun v hv=>by cases hv),zUl]
 have:(k.any fun e=>inE e c)=(allK.any fun e=>inE e c):=by
  rw[kE,gV,gV]
  exact⟨fun⟨e,he,hi⟩=>⟨e,h.mem_iff.1 he,hi⟩,fun⟨e,he,hi⟩=>⟨e,h.mem_iff.2 he,hi⟩⟩
 rw[this]
 rfl
theorem zQf{N:Nat}{e:Int×ByteArray}(m:List (Int×Int))(he:e.2.size≤26)(hN:30<N):qHa N (some e) (some m)=some (.inl (some (qQg e.1 m e.2.data.toList))):=by
 have hsz:e.2.data.toList.length=e.2.size:=by simp
 have hb:bytesOf e.2=some e.2.data.toList:=by unfold bytesOf;rw[if_pos (by simp only[maxLen];omega)]
 simp only[qHa,hb,jA]
 have key:=zJp (f:=qLp N e e.2.data.toList) (fun i=>((i:Int),some (qQg e.1 m (e.2.data.toList.take i)))) e.2.data.toList.length (some (qQg e.1 m e.2.data.toList)) (fun i hi=> ?_) ?_ (N:=N) (by omega)
 ·simp only[Int.natCast_zero,List.take_zero] at key
  rw[show qQg e.1 m []=m from rfl] at key
  rw[key];rfl
 ·simp only[qLp]
  rw[if_pos (by simpa using hi),qCg hi]
  simp only[jA,qUs,gL]
  rw[wi64 (by omega) (by omega),kO hi]
  simp[qQg]
 ·simp only[qLp]
  rw[if_neg (by simp),dM]
theorem zCn{N:Nat}(hN:30<N):∀(k:List (Int×ByteArray)) (m:List (Int×Int)),(∀e∈k,e.2.size≤26)→qQr (qHa N) k (some m)=some (some (layK m k))
 |[],m,_=>by simp[qQr,qHa,layK]
 |e::k,m,h=>by
  have:=zCn hN k (qQg e.1 m e.2.data.toList) (fun e' he=>h e' (jL _ he))
  simp only[qQr,zQf m (h e (jJ ..)) hN,jA,this]
  rfl
theorem zKl{N:Nat}(hN:30<N):qNw N=some (some kdL):=by
 have h8:∀e∈allK,e.2.size≤26:=by
  have:(allK.all fun e=>decide (e.2.size≤26))=true:=by kernel_rfl
  intro e he
  simpa using jT.1 this e he
 have key:qXu (qHa N) allK (some [])=some (some kdL):=zNd fun k hk=>by
  rw[zCn hN k [] (fun e he=>h8 e (hk.mem_iff.1 he)),zNt hk]
 have h1:qNw N=(qXu (qHa N) allK (some [])).bind fun o1=>some o1:=by kernel_rfl
 rw[h1,key];rfl
end Go.Proofs.YtfbdkahdgbimeaaGreatDoor
end
namespace Go.Proofs.YtfbdkahdgbimeaaGreatDoor
section
open Go Go.Dc
theorem qDk(s:ByteArray):s.data.toList.length=s.size:=by simp
theorem qHh{s:ByteArray}{i:Nat}(h:i<s.data.toList.length):idxB s (i:Int)=some (s.data.toList[i]):=by
 have h':i<s.size:=by simpa using h
 rw[zDs h']
 simp[ByteArray.getElem_eq_getElem_data]
def tw(p:UInt8→Bool)(l:List UInt8)(a:Nat):Nat:=a+((l.drop a).takeWhile p).length
section
variable {p:UInt8→Bool} {l:List UInt8} {a:Nat}
theorem qWv(h:a≤l.length):a≤tw p l a∧tw p l a≤l.length:=by
 have:=(List.takeWhile_sublist p (l:=l.drop a)).length_le
 simp only[gG] at this
 unfold tw;omega
theorem zAr(h:a<l.length)(hb:p l[a]=true):tw p l (a+1)=tw p l a:=by
 unfold tw
 rw[jR h,gO hb]
 simp only[jD];omega
theorem qYw(h:a<l.length)(hb:p l[a]=false):tw p l a=a:=by
 unfold tw
 rw[jR h,fC (by simp[hb])]
 simp
theorem zOc(h:l.length≤a):tw p l a=a:=by
 unfold tw
 rw[jQ h];rfl
theorem qXe{β:Type}{f:Int→Option (Int⊕β)}(out:Nat→β)(go:∀i:Nat,∀h:i<l.length,p l[i]=true→f (i:Int)=some (.inl ((i:Int)+1)))
  (no:∀i:Nat,∀h:i<l.length,p l[i]=false→f (i:Int)=some (.inr (out i))) (en:f (l.length:Int)=some (.inr (out l.length))):
  ∀(d a N:Nat),a+d=l.length→d<N→qAs f N (a:Int)=some (out (tw p l a))
 |d,a,0,_,h=>by omega
 |0,a,N+1,hd,h=>by
  have:a=l.length:=by omega
  subst this
  rw[zOc (jU _)];simp[qAs,en]
 |d+1,a,N+1,hd,h=>by
  have ha:a<l.length:=by omega
  cases hb:p l[a] with
  |true=>
   have:=qXe out go no en d (a+1) N (by omega) (by omega)
   rw[zAr ha hb] at this
   simpa[qAs,go a ha hb] using this
  |false=>
   rw[qYw ha hb];simp[qAs,no a ha hb]
end
def kd(c:UInt8):Int:=kdI (c.toNat:Int)
def inK(ks:List Int)(c:UInt8):Bool:=ks.any fun k=>kd c==k
theorem zBz{N:Nat}{s:ByteArray}{ks:List Int}{i:Nat}(h:i<s.data.toList.length)(hk:ks.length≤10)(hN:10<N):qAs (qLf N s (some kdL) ks (i:Int)) N (false,0)=some (inK ks (s.data.toList[i])):=by
 have key:=zJp (f:=qLf N s (some kdL) ks (i:Int)) (fun j=>((ks.take j).any (fun k=>kd (s.data.toList[i])==k),(j:Int))) ks.length (inK ks (s.data.toList[i])) (fun j hj=> ?_) ?_ (N:=N) (by omega)
 ·simpa using key
 ·simp only[qLf]
  rw[if_pos (by simpa using hj),qCg hj,qHh h]
  simp only[jA]
  rw[wi64 (by omega) (by omega),kO hj,List.any_append]
  cases(ks.take j).any (fun k=>kd (s.data.toList[i])==k)
  ·simp[kd,kdI,qTq]
  ·simp
 ·simp only[qLf]
  rw[if_neg (by simp),dM]
  rfl
theorem zOf{N:Nat}{s:ByteArray}{ks:List Int}{i:Nat}(hi:i≤s.data.toList.length)(hl:s.data.toList.length<1000000)(hk:ks.length≤10)(hN:s.data.toList.length+10<N):
  qOb N s (i:Int) (some kdL) ks=some ((tw (inK ks) s.data.toList i:Nat):Int):=by
 have hs:=qDk s
 have key:=qXe (f:=qLh N s (some kdL) ks) (l:=s.data.toList) (p:=inK ks) (fun n=>(n:Int)) (fun j hj hb=>by
   simp only[qLh]
   rw[if_pos (by simp only[jB];omega),zBz hj hk (by omega),hb]
   simp only[jA]
   rw[wi64 (by omega) (by omega)]
   rfl) (fun j hj hb=>by
   simp only[qLh]
   rw[if_pos (by simp only[jB];omega),zBz hj hk (by omega),hb]
   rfl) (by
   simp only[qLh]
   rw[if_neg (by simp only[jB];omega)]) (s.data.toList.length-i) i N (by omega) (by omega)
 unfold qOb
 rw[key]
 rfl
end
section
open Go Go.Dc
theorem kd_def(c:UInt8):(qTq (some kdL) (c.toNat:Int)).getD 0=kd c:=rfl
theorem qLw{l:List UInt8}{i:Nat}(h:i<l.length):l.getD i 0=l[i]:=by simp[kX,h]
def numS(n:Int)(c:UInt8):Int:=if 9007199254740993<10*n+((c.toNat:Int)-48) then 9007199254740993 else 10*n+((c.toNat:Int)-48)
def numL(ds:List UInt8):Int:=ds.foldl numS 0
def qZm(c:UInt8):Bool:=decide (32≤c.toNat)&&decide (c.toNat≤126)&&c !=34
def zHh:Int×ByteArray×Int×Int:=(0,⟨#[]⟩,0,0)
def zFj(l:List UInt8)(i:Nat):Nat:=if l.getD i 0=61∧l.getD (i+1) 0=61 then i+2 else i+1
def tokP(s:ByteArray)(i:Nat):(Int×ByteArray×Int×Int)×Int×Int:=
 if kd (s.data.toList.getD i 0)=1 then
  if tw (inK [1,2,3]) s.data.toList i-i>24 then(zHh,0,2) else((1,s.extract i (tw (inK [1,2,3]) s.data.toList i),0,0),((tw (inK [1,2,3]) s.data.toList i:Nat):Int),0)
 else if kd (s.data.toList.getD i 0)=2 then
  if numL ((s.data.toList.drop i).takeWhile (inK [2]))>9007199254740992 then(zHh,0,3) else((2,⟨#[]⟩,numL ((s.data.toList.drop i).takeWhile (inK [2])),0),((tw (inK [2]) s.data.toList i:Nat):Int),0)
 else if kd (s.data.toList.getD i 0)=7 then
  if s.data.toList.getD (tw qZm s.data.toList (i+1)) 0=34 then((3,s.extract (i+1) (tw qZm s.data.toList (i+1)),0,0),((tw qZm s.data.toList (i+1)+1:Nat):Int),0) else(zHh,0,9)
 else if kd (s.data.toList.getD i 0)=8 then
  ((4,s.extract i (zFj s.data.toList i),0,0),((zFj s.data.toList i:Nat):Int),0)
 else(zHh,0,9)
theorem zQd:∀c:UInt8,kd c=2→48≤c.toNat∧c.toNat≤57:=by
 have h:((List.range 256).all fun n=> !(decide (kd (UInt8.ofNat n)=2))||(decide (48≤n)&&decide (n≤57)))=true:=by kernel_rfl
 intro c hc
 have:=jT.1 h c.toNat (fX.2 c.toNat_lt)
 simpa[hc] using this
theorem zOe(l:List UInt8)(c:UInt8):numL (l++[c])=numS (numL l) c:=by simp[numL]
theorem zMh{p:UInt8→Bool}:∀{l:List UInt8} {c:UInt8},c∈l.takeWhile p→p c=true
 |[],_,h=>by simp at h
 |x::l,c,h=>by
  cases hx:p x with
  |true=>
   rw[gO hx] at h
   rcases jM.1 h with rfl|h
   ·exact hx
   ·exact zMh h
  |false=>rw[fC (by simp[hx])] at h;cases h
theorem qVw{s:ByteArray}{i e:Nat}(h1:i≤e)(h2:e≤s.data.toList.length):subB s (i:Int) (e:Int)=some (s.extract i e):=by
 have:=qDk s
 rw[qTn (by omega) (by omega) (by omega)]
 simp
theorem zNl{s:ByteArray}{i:Nat}(h1:i≤s.data.toList.length):subB s (i:Int) (s.size:Int)=some (s.extract i s.data.toList.length):=by
 have hs:=qDk s
 rw[←qVw h1 (jU _),hs]
theorem qFj(x y:ByteArray):(x.toList==y.toList)=decide (x=y):=by
 rw[kE]
 simp only[kC,jB]
 constructor
 ·intro h
  rw[ByteArray.toList_eq,ByteArray.toList_eq] at h
  exact Go.WideShapes.bytes_inj h
 ·rintro rfl;rfl
end
section
open Go Go.Dc
theorem zSi{p:UInt8→Bool}{l:List UInt8}(h:∀c∈l,p c=true):tw p l 0=l.length:=by
 unfold tw
 have:l.takeWhile p=l:=by
  induction l with
  |nil=>rfl
  |cons c l ih=>rw[gO (h c (jJ ..)),ih fun d hd=>h d (jL _ hd)]
 simp[this]
end
section
open Go Go.Dc
abbrev Tok:=Int×ByteArray×Int×Int
theorem zKn{ks:List Int}{k:Int}{c:UInt8}(hk:k∈ks)(h:kd c=k):inK ks c=true:=by
 unfold inK;exact gV.2 ⟨k,hk,by simp[h]⟩
theorem zBs{p:UInt8→Bool}{l:List UInt8}{a:Nat}(h:a<l.length)(hp:p l[a]=true):a<tw p l a:=by
 rw[←zAr h hp];have:=(qWv (p:=p) (l:=l) (a:=a+1) (by omega)).1;omega
theorem qWc{l:List UInt8}{i:Nat}(h:l.getD i 0≠0):i<l.length:=by
 rcases dK i l.length with h'|h'
 ·exact h'
 ·exfalso;apply h;rw[kX,List.getElem?_eq_none h'];rfl
theorem zIm{s:ByteArray}{i:Nat}(hi:i<s.data.toList.length)(h:(tokP s i).2.2=0):∃e:Nat,(tokP s i).2.1=(e:Int)∧i<e∧e≤s.data.toList.length∧
  (((tokP s i).1.1=1∨(tokP s i).1.1=4)∧(tokP s i).1.2.1=s.extract i e∨(tokP s i).1.1=2∧(tokP s i).1.2.1=⟨#[]⟩∨(tokP s i).1.1=3∧(tokP s i).1.2.1.size+i<e):=by
 have hs:=qDk s
 unfold tokP at h ⊢
 rw[qLw hi] at h ⊢
 by_cases h1:kd (s.data.toList[i])=1
 ·rw[if_pos h1] at h ⊢
  split at h
  ·cases h
  ·rename_i h24
   rw[if_neg h24]
   have hb:=qWv (p:=inK [1,2,3]) (l:=s.data.toList) (a:=i) (by omega)
   exact⟨_,rfl,zBs hi (zKn (by simp) h1),hb.2,.inl ⟨.inl rfl,rfl⟩⟩
 rw[if_neg h1] at h ⊢
 by_cases h2:kd (s.data.toList[i])=2
 ·rw[if_pos h2] at h ⊢
  split at h
  ·cases h
  ·rename_i h24
   rw[if_neg h24]
   have hb:=qWv (p:=inK [2]) (l:=s.data.toList) (a:=i) (by omega)
   exact⟨_,rfl,zBs hi (zKn (by simp) h2),hb.2,.inr (.inl ⟨rfl,rfl⟩)⟩
 rw[if_neg h2] at h ⊢
 by_cases h7:kd (s.data.toList[i])=7
 ·rw[if_pos h7] at h ⊢
  split at h
  ·rename_i h24
   rw[if_pos h24]
   have hb:=qWv (p:=qZm) (l:=s.data.toList) (a:=i+1) (by omega)
   have hlt:tw qZm s.data.toList (i+1)<s.data.toList.length:=qWc (by rw[h24];decide)
   refine⟨_,rfl,by omega,by omega,.inr (.inr ⟨rfl,?_⟩)⟩
   simp only[ByteArray.size_extract]
   omega
  ·cases h
 rw[if_neg h7] at h ⊢
 by_cases h8:kd (s.data.toList[i])=8
 ·rw[if_pos h8] at h ⊢
  refine⟨_,rfl,?_,?_,.inl ⟨.inr rfl,rfl⟩⟩
  ·unfold zFj;split<;>omega
  ·unfold zFj
   split
   ·rename_i hh
    have:i+1<s.data.toList.length:=qWc (by rw[hh.2];decide)
    omega
   ·omega
 rw[if_neg h8] at h
 cases h
def qPz(c:UInt8):Bool:=c !=10
def tokG:Nat→ByteArray→Nat→(Int×Int)⊕List Tok
 |0,_,_=> .inr []
 |k+1,s,i=>
  if tw (inK [5]) s.data.toList i=s.data.toList.length then .inr [(5,⟨#[]⟩,0,(s.data.toList.length:Int))]
  else if kd (s.data.toList.getD (tw (inK [5]) s.data.toList i) 0)=6 then tokG k s (tw qPz s.data.toList (tw (inK [5]) s.data.toList i))
  else if(tokP s (tw (inK [5]) s.data.toList i)).2.2≠0 then .inl ((tw (inK [5]) s.data.toList i:Nat),(tokP s (tw (inK [5]) s.data.toList i)).2.2)
  else match tokG k s (tokP s (tw (inK [5]) s.data.toList i)).2.1.toNat with
   | .inl x=> .inl x
   | .inr r=> .inr (((tokP s (tw (inK [5]) s.data.toList i)).1.1,(tokP s (tw (inK [5]) s.data.toList i)).1.2.1,(tokP s (tw (inK [5]) s.data.toList i)).1.2.2.1,((tw (inK [5]) s.data.toList i:Nat):Int))::r)
def zHw(acc:List Tok):(Int×Int)⊕List Tok→List Tok×Int×Int
 | .inl x=>([],x.1,x.2)
 | .inr r=>(acc++r,0,0)
def qKv(s:ByteArray):List Tok×Int×Int:=if s.data.toList.length>16384 then([],0,2) else zHw [] (tokG (s.data.toList.length+1) s 0)
end
section
open Go Go.Dc
def endT(t:Tok):Int:=t.2.2.2+(t.2.1.size:Int)+(if t.1=2 then 1 else 0)
def zUf(s:ByteArray):Int→List Tok→Prop
 |_,[]=>True
 |e,t::r=>e≤t.2.2.2∧t.2.2.2+(t.2.1.size:Int)≤s.size∧(t.1=5↔r=[])∧(t.1=1∨t.1=4→s.extract t.2.2.2.toNat (t.2.2.2+(t.2.1.size:Int)).toNat=t.2.1∧0<t.2.1.size)∧zUf s (endT t) r
theorem qWp{s:ByteArray}:∀(k i:Nat) (e:Int) (r:List Tok),i≤s.data.toList.length→s.data.toList.length<i+k→e≤i→tokG k s i= .inr r→zUf s e r∧r≠[]∧r.length≤s.data.toList.length+1-i
 |0,i,e,r,h1,h2,h3,h4=>by omega
 |k+1,i,e,r,h1,h2,h3,h4=>by
  have hs:=qDk s
  have hb:=qWv (p:=inK [5]) (l:=s.data.toList) (a:=i) h1
  simp only[tokG] at h4
  generalize hE:tw (inK [5]) s.data.toList i=a at hb h4
  split at h4
  ·obtain rfl:=(Sum.inr.inj h4).symm
   refine⟨⟨by show e≤(s.data.toList.length:Int);omega,by show(s.data.toList.length:Int)+((0:Nat):Int)≤_;omega,by simp,fun h=>by simp at h,trivial⟩,by simp,by simp;omega⟩
  ·rename_i he
   have hlt:a<s.data.toList.length:=by omega
   split at h4
   ·rename_i h6
    have hb2:=qWv (p:=qPz) (l:=s.data.toList) (a:=a) (by omega)
    have hpos:=zBs (p:=qPz) hlt (by
     rw[qLw hlt] at h6
     simp only[qPz,fR,ne_eq]
     intro e;rw[e] at h6;exact absurd h6 (by decide))
    obtain⟨g1,g2,g3⟩:=qWp k _ e r hb2.2 (by omega) (by omega) h4
    exact⟨g1,g2,by omega⟩
   ·split at h4
    ·cases h4
    ·rename_i h0
     obtain⟨b,hb1,hb2,hb3,hk⟩:=zIm hlt (by simpa using h0)
     rw[hb1,jS] at h4
     generalize (tokP s a).1=t at h4 hk
     cases hG:tokG k s b with
     |inl x=>rw[hG] at h4;cases h4
     |inr q=>
      rw[hG] at h4
      obtain rfl:=(Sum.inr.inj h4).symm
      have hext:(s.extract a b).size=b-a:=by rw[ByteArray.size_extract];omega
      have hend:endT (t.1,t.2.1,t.2.2.1,(a:Int))≤b∧(a:Int)+(t.2.1.size:Int)≤b∧t.1≠5∧(t.1=1∨t.1=4→t.2.1=s.extract a b):=by
       rcases hk with ⟨hk1,hk2⟩|⟨hk1,hk2⟩|⟨hk1,hk2⟩
       ·refine⟨?_,?_,by omega,fun _=>hk2⟩
        ·simp only[endT,hk2,hext];rw[if_neg (by omega)];omega
        ·rw[hk2,hext];omega
       ·have:(⟨#[]⟩:ByteArray).size=0:=rfl
        refine⟨?_,?_,by omega,fun h=>by omega⟩
        ·simp only[endT,hk2,this];rw[if_pos hk1];omega
        ·rw[hk2,this];omega
       ·refine⟨?_,by omega,by omega,fun h=>by omega⟩
        simp only[endT];rw[if_neg (by omega)];omega
      obtain⟨g1,g2,g3⟩:=qWp k b (endT (t.1,t.2.1,t.2.2.1,(a:Int))) q hb3 (by omega) hend.1 hG
      refine⟨⟨by show e≤(a:Int);omega,?_,?_,?_,g1⟩,by simp,by simp only[jD];omega⟩
      ·show(a:Int)+(t.2.1.size:Int)≤_;omega
      ·exact⟨fun h=>absurd h hend.2.2.1,fun h=>absurd h g2⟩
      ·intro h
       have:=hend.2.2.2 h
       show s.extract (Int.toNat (a:Int)) ((a:Int)+(t.2.1.size:Int)).toNat=t.2.1∧0<t.2.1.size
       rw[this,hext,jS,show((a:Int)+((b-a:Nat):Int)).toNat=b by omega]
       exact⟨rfl,by omega⟩
theorem zDl{s:ByteArray}:∀(k i:Nat) (x:Int×Int),i≤s.data.toList.length→s.data.toList.length<i+k→tokG k s i= .inl x→0≤x.1∧x.1≤s.size∧x.2≠0
 |0,i,x,h1,h2,h4=>by omega
 |k+1,i,x,h1,h2,h4=>by
  have hs:=qDk s
  have hb:=qWv (p:=inK [5]) (l:=s.data.toList) (a:=i) h1
  simp only[tokG] at h4
  generalize hE:tw (inK [5]) s.data.toList i=a at hb h4
  split at h4
  ·cases h4
  ·rename_i he
   have hlt:a<s.data.toList.length:=by omega
   split at h4
   ·rename_i h6
    have hb2:=qWv (p:=qPz) (l:=s.data.toList) (a:=a) (by omega)
    have hpos:=zBs (p:=qPz) hlt (by
     rw[qLw hlt] at h6
     simp only[qPz,fR,ne_eq]
     intro e;rw[e] at h6;exact absurd h6 (by decide))
    exact zDl k _ x hb2.2 (by omega) h4
   ·split at h4
    ·rename_i h0
     obtain rfl:=Sum.inl.inj h4
     exact⟨by simp only;omega,by simp only;omega,h0⟩
    ·rename_i h0
     obtain⟨b,hb1,hb2,hb3,hk⟩:=zIm hlt (by simpa using h0)
     rw[hb1,jS] at h4
     cases hG:tokG k s b with
     |inl y=>rw[hG] at h4;obtain rfl:=Sum.inl.inj h4;exact zDl k b y hb3 (by omega) hG
     |inr q=>rw[hG] at h4;cases h4
end
section
open Go Go.Dc
theorem qXv{p:UInt8→Bool}(h:((List.range 256).all fun n=>p (UInt8.ofNat n))=true)(c:UInt8):p c=true:=by
 have:=jT.1 h c.toNat (fX.2 c.toNat_lt)
 simpa using this
theorem qZa{N:Nat}(c:UInt8):qFz N (c.toNat:Int)=some (kd c==1):=by
 have h:=qXv (p:=fun c=>(decide (97≤c.toNat)&&decide (c.toNat≤122))==(kd c==1)) (by kernel_rfl) c
 rw[kC] at h
 rw[←h]
 unfold qFz
 by_cases h1:97≤c.toNat
 ·rw[if_pos (by simp only[jB];omega)]
  simp only[h1,decide_true,gW,jA]
  congr 1
  exact decide_eq_decide.2 (by omega)
 ·rw[if_neg (by simp only[jB];omega)]
  simp[h1]
theorem qVt{N:Nat}(c:UInt8):qFs N (c.toNat:Int)=some (inK [1,2,3] c):=by
 have h:=qXv (p:=fun c=>(kd c==1||(decide (48≤c.toNat)&&decide (c.toNat≤57)||decide (c.toNat=95)))==inK [1,2,3] c) (by kernel_rfl) c
 rw[kC] at h
 rw[←h]
 unfold qFs
 rw[qZa]
 simp only[jA]
 cases kd c==1
 ·have e95:((c.toNat:Int)==95)=decide (c.toNat=95):=by rw[kE,kC,jB];omega
  simp only[jC,jH,gS,e95]
  by_cases h1:48≤c.toNat
  ·by_cases h2:c.toNat≤57
   ·rw[if_pos (by simp only[jB];omega),if_pos (by simp only[jB];omega)];simp[h1,h2]
   ·rw[if_pos (by simp only[jB];omega),if_neg (by simp only[jB];omega)];simp[h2]
  ·rw[if_neg (by simp only[jB];omega)];simp[h1]
 ·rfl
theorem qZs(c:UInt8):kd c=2↔48≤c.toNat∧c.toNat≤57:=by
 have h:=qXv (p:=fun c=>(kd c==2)==(decide (48≤c.toNat)&&decide (c.toNat≤57))) (by kernel_rfl) c
 rw[kC,kE] at h
 simpa using h
theorem zFx(c:UInt8):kd c=7↔c=34:=by
 have h:=qXv (p:=fun c=>(kd c==7)==(c==34)) (by kernel_rfl) c
 rw[kC,kE] at h
 simpa using h
def signs:List UInt8:=[59,44,40,41,43,45,42,47,37,60,61]
theorem zKb(c:UInt8):kd c=8↔signs.contains c=true:=by
 have h:=qXv (p:=fun c=>(kd c==8)==signs.contains c) (by kernel_rfl) c
 rw[kC,kE] at h
 simpa using h
theorem zPt(c:UInt8):inK [5] c=true↔c.toNat=32∨c.toNat=9∨c.toNat=10∨c.toNat=13:=by
 have h:=qXv (p:=fun c=>inK [5] c==(decide (c.toNat=32)||(decide (c.toNat=9)||(decide (c.toNat=10)||decide (c.toNat=13))))) (by kernel_rfl) c
 rw[kC,kE] at h
 simpa using h
theorem zIw(c:UInt8):kd c=6↔c.toNat=35:=by
 have h:=qXv (p:=fun c=>(kd c==6)==decide (c.toNat=35)) (by kernel_rfl) c
 rw[kC,kE] at h
 simpa using h
def numR(n:Int)(c:UInt8):Int:=if n≤9007199254740992 then n*10+((c.toNat:Int)-48) else n
theorem zMv(l:List UInt8)(c:UInt8):(l++[c]).foldl numR 0=numR (l.foldl numR 0) c:=by simp
theorem zOz:∀(n:Nat) (ds:List UInt8),ds.length=n→(∀c∈ds,kd c=2)→0≤ds.foldl numR 0∧ds.foldl numR 0≤90071992547409930∧numL ds=if ds.foldl numR 0>9007199254740992 then 9007199254740993 else ds.foldl numR 0
 |0,ds,h,_=>by obtain rfl:=kT.1 h;simp[numL]
 |n+1,ds,h,hd=>by
  obtain⟨l,c,rfl⟩:∃l c,ds=l++[c]:=by
   rcases List.eq_nil_or_concat ds with e|⟨l,c,e⟩
   ·rw[e] at h;cases h
   ·exact⟨l,c,by simpa using e⟩
  obtain⟨h1,h2,h3⟩:=zOz n l (by simpa using h) (fun c hc=>hd c (kS _ hc))
  have hc:=zQd c (hd c (by simp))
  rw[zMv,zOe]
  by_cases hu:l.foldl numR 0≤9007199254740992
  ·rw[if_neg (by omega)] at h3
   rw[h3]
   generalize l.foldl numR 0=u at h1 h2 hu
   have e1:numR u c=u*10+((c.toNat:Int)-48):=if_pos hu
   rw[e1]
   unfold numS
   refine⟨by omega,by omega,?_⟩
   by_cases h4:9007199254740993<10*u+((c.toNat:Int)-48)
   ·rw[if_pos h4,if_pos (by omega)]
   ·rw[if_neg h4]
    by_cases h5:u*10+((c.toNat:Int)-48)>9007199254740992
    ·rw[if_pos h5];omega
    ·rw[if_neg h5];omega
  ·rw[if_pos (by omega)] at h3
   rw[h3]
   generalize l.foldl numR 0=u at h1 h2 hu
   have e1:numR u c=u:=if_neg hu
   have e2:numS 9007199254740993 c=9007199254740993:=if_pos (by omega)
   rw[e1,e2,if_pos (by omega)]
   exact⟨h1,h2,rfl⟩
theorem inK2(c:UInt8):inK [2] c=decide (48≤c.toNat∧c.toNat≤57):=by
 rw[kE,jB,←qZs];simp[inK]
theorem qYy{N:Nat}{s:ByteArray}:∀(d i M:Nat) (n:Int),i+d=s.data.toList.length→s.data.toList.length<1000000→d<M→0≤n→n≤90071992547409930→
  qAs (qGj N s) M ((i:Int),n)=some (((tw (inK [2]) s.data.toList i:Nat):Int),((s.data.toList.drop i).takeWhile (inK [2])).foldl numR n)
 |d,i,0,n,_,_,h,_,_=>by omega
 |0,i,M+1,n,h1,hl,h2,h3,h4=>by
  have hs:=qDk s
  rw[zOc (by omega),jQ (by omega)]
  simp only[qAs,qGj]
  rw[if_neg (by simp only[jB];omega)]
  rfl
 |d+1,i,M+1,n,h1,hl,h2,h3,h4=>by
  have hs:=qDk s
  have hi:i<s.data.toList.length:=by omega
  simp only[qAs,qGj]
  rw[if_pos (by simp only[jB];omega),qHh hi]
  simp only[jA]
  have hc:(if decide (((s.data.toList[i]).toNat:Int)≥48)=true then some (decide (((s.data.toList[i]).toNat:Int)≤57)) else some false)=some (inK [2] (s.data.toList[i])):=by
   rw[inK2]
   by_cases h48:48≤(s.data.toList[i]).toNat
   ·rw[if_pos (by simp only[jB];omega)];congr 1;exact decide_eq_decide.2 (by omega)
   ·rw[if_neg (by simp only[jB];omega)];congr 1;exact(jY (by omega)).symm
  rw[hc]
  simp only[jA]
  rw[jR hi]
  cases hb:inK [2] (s.data.toList[i]) with
  |false=>
   rw[qYw hi hb,fC (by rw[hb];exact gN)]
   rfl
  |true=>
   have hd:48≤(s.data.toList[i]).toNat∧(s.data.toList[i]).toNat≤57:=by rw[inK2] at hb;simpa using hb
   rw[←zAr hi hb,gO hb,kZ,if_pos rfl]
   have hn:(if decide (n≤9007199254740992)=true then some (IntKind.wrap .i64 (IntKind.wrap .i64 (n*10)+IntKind.wrap .i64 (IntKind.wrap .u8 (((s.data.toList[i]).toNat:Int)-48)))) else some n)=some (numR n (s.data.toList[i])):=by
    unfold numR
    by_cases hn:n≤9007199254740992
    ·rw[if_pos (by simpa using hn),if_pos hn,wu8 (by omega) (by omega),wi64 (x:=n*10) (by omega) (by omega),wi64 (x:=((s.data.toList[i]).toNat:Int)-48) (by omega) (by omega),wi64 (by omega) (by omega)]
    ·rw[if_neg (by simpa using hn),if_neg hn]
   rw[hn]
   simp only[jA]
   rw[wi64 (by omega) (by omega),←fF]
   exact qYy d (i+1) M _ (by omega) hl (by omega) (by unfold numR;split<;>omega) (by unfold numR;split<;>omega)
theorem zKr(c:UInt8):(if decide ((c.toNat:Int)≥32)=true then(if decide ((c.toNat:Int)≤126)=true then some ((c.toNat:Int) !=34) else some false) else some false)=some (qZm c):=by
 unfold qZm
 by_cases h1:32≤c.toNat
 ·rw[if_pos (by simp only[jB];omega)]
  by_cases h2:c.toNat≤126
  ·rw[if_pos (by simp only[jB];omega)]
   simp only[h1,h2,decide_true,gW]
   congr 1
   rw[kE,fR,fR]
   exact⟨fun h e=>h (by rw[e];rfl),fun h e=>h (UInt8.toNat_inj.1 (by show _=34;omega))⟩
  ·rw[if_neg (by simp only[jB];omega)];simp[h2]
 ·rw[if_neg (by simp only[jB];omega)];simp[h1]
theorem zFo{N:Nat}{s:ByteArray}(d i M:Nat)(h1:i+d=s.data.toList.length)(hl:s.data.toList.length<1000000)(h2:d<M):qAs (qEd N s) M (i:Int)=some ((tw qZm s.data.toList i:Nat):Int):=by
 have hs:=qDk s
 refine qXe (f:=qEd N s) (l:=s.data.toList) (p:=qZm) (fun e=>(e:Int)) (fun j hj hb=> ?_) (fun j hj hb=> ?_) ?_ d i M h1 h2
 ·simp only[qEd]
  rw[if_pos (by simp only[jB];omega),qHh hj]
  simp only[jA,zKr,hb]
  rw[if_pos trivial,wi64 (by omega) (by omega)]
 ·simp only[qEd]
  rw[if_pos (by simp only[jB];omega),qHh hj]
  simp only[jA,zKr,hb]
  rfl
 ·simp only[qEd]
  rw[if_neg (by simp only[jB];omega)]
  rfl
theorem zSm{N:Nat}{s:ByteArray}{p1 s6:Int}:qIe N s p1 s6=if(decide (s6<(signs.length:Int)))=true then((idx signs s6).bind fun x12=>(idxB s p1).bind fun x13=>if((x13.toNat:Int)==(x12.toNat:Int))=true then((subB s p1 (IntKind.wrap .i64 (p1+1))).bind fun s7=>some (.inr (.inr (((4,s7,0,p1),IntKind.wrap .i64 (p1+1),0))))) else(some (.inl (IntKind.wrap .i64 (s6+1))))) else(some (.inr (.inl ()))):=rfl
theorem qXz{N:Nat}{s:ByteArray}{i:Nat}(hi:i<s.data.toList.length)(hl:s.data.toList.length<1000000):∀(d j M:Nat),j+d=signs.length→d<M→
  qAs (qIe N s (i:Int)) M (j:Int)=some (if(signs.drop j).contains (s.data.toList[i])=true then .inr ((4,s.extract i (i+1),0,(i:Int)),((i+1:Nat):Int),0) else .inl ())
 |d,j,0,_,h=>by omega
 |0,j,M+1,h1,h2=>by
  simp only[qAs,zSm]
  rw[if_neg (by simp only[jB];omega),jQ (by omega)]
  rfl
 |d+1,j,M+1,h1,h2=>by
  have hj:j<signs.length:=by omega
  have hls:signs.length=11:=rfl
  simp only[qAs,zSm]
  rw[if_pos (by simp only[jB];omega),qCg hj,qHh hi,jR hj]
  simp only[jA,List.contains_cons]
  by_cases he:s.data.toList[i]=signs[j]
  ·rw[if_pos (by rw[he];exact gU _),wi64 (x:=(i:Int)+1) (by omega) (by omega),←fF,qVw (by omega) (by omega)]
   simp only[jA]
   rw[if_pos (by rw[he];simp)]
  ·have hne:¬((s.data.toList[i]).toNat:Int)=((signs[j]).toNat:Int):=fun h=>he (UInt8.toNat_inj.1 (by omega))
   have hne2:(s.data.toList[i]==signs[j])=false:=beq_eq_false_iff_ne.2 he
   rw[if_neg (by simpa using hne),wi64 (by omega) (by omega),←fF]
   simp only[jA,hne2,gS]
   exact qXz hi hl d (j+1) M (by omega) (by omega)
def refP(s:ByteArray)(i:Nat):(Int×ByteArray×Int×Int)×Int×Int:=
 if(tokP s i).2.2=0 then(((tokP s i).1.1,(tokP s i).1.2.1,(tokP s i).1.2.2.1,(i:Int)),(tokP s i).2.1,0) else tokP s i
theorem zHg{N:Nat}{s:ByteArray}{i:Nat}(hi:i<s.data.toList.length)(hl:s.data.toList.length<1000000)(hN:s.data.toList.length+20<N):qJw N s (i:Int)=some (refP s i):=by
 have hs:=qDk s
 simp only[qJw,qHh hi,jA,qZa,refP,tokP,qLw hi,kC]
 by_cases h1:kd (s.data.toList[i])=1
 ·simp only[h1,jI]
  have hb:=qWv (p:=inK [1,2,3]) (l:=s.data.toList) (a:=i) (by omega)
  have key:=qXe (f:=qFd N s) (l:=s.data.toList) (p:=inK [1,2,3]) (fun e=>(e:Int)) (fun j hj hb=>by
   simp only[qFd]
   rw[if_pos (by simp only[jB];omega),qHh hj]
   simp only[jA,qVt,hb]
   rw[if_pos trivial,wi64 (by omega) (by omega)]) (fun j hj hb=>by
   simp only[qFd]
   rw[if_pos (by simp only[jB];omega),qHh hj]
   simp only[jA,qVt,hb]
   rfl) (by
   simp only[qFd]
   rw[if_neg (by simp only[jB];omega)]
   rfl) (s.data.toList.length-i) i N (by omega) (by omega)
  rw[key]
  simp only[jA]
  rw[wi64 (by omega) (by omega),qVw hb.1 hb.2]
  by_cases h:tw (inK [1,2,3]) s.data.toList i-i>24
  ·rw[if_pos (by simp only[jB];omega),if_pos h];rfl
  ·rw[if_neg (by simp only[jB];omega),if_neg h];rfl
 simp only[h1,jH]
 by_cases h2:kd (s.data.toList[i])=2
 ·simp only[h2,jI]
  have hd:=(qZs _).1 h2
  rw[if_pos (by simp only[jB];omega)]
  simp only[jA]
  obtain⟨n1,n2,n3⟩:=zOz _ _ rfl (fun c (hc:c∈(s.data.toList.drop i).takeWhile (inK [2]))=>by simpa[inK] using zMh hc)
  rw[if_pos (by simp only[jB];omega),qYy (s.data.toList.length-i) i N 0 (by omega) hl (by omega) (by omega) (by omega),n3]
  simp only[jA,jB]
  generalize ((s.data.toList.drop i).takeWhile (inK [2])).foldl numR 0=u at n1 n2
  by_cases h4:u>9007199254740992
  ·simp[h4,zHh]
  ·simp[h4]
 simp only[h2,jH]
 have hnd:¬(48≤(s.data.toList[i]).toNat∧(s.data.toList[i]).toNat≤57):=fun h=>h2 ((qZs _).2 h)
 have hdig:(if decide (((s.data.toList[i]).toNat:Int)≥48)=true then some (decide (((s.data.toList[i]).toNat:Int)≤57)) else some false)=some false:=by
  by_cases h48:48≤(s.data.toList[i]).toNat
  ·rw[if_pos (by simp only[jB];omega)];congr 1;rw[decide_eq_false_iff_not];omega
  ·rw[if_neg (by simp only[jB];omega)]
 rw[hdig]
 simp only[jA,jC,jH]
 by_cases h7:kd (s.data.toList[i])=7
 ·have hc:s.data.toList[i]=34:=(zFx _).1 h7
  simp only[h7,jI]
  rw[if_pos (by rw[hc];rfl),wi64 (x:=(i:Int)+1) (by omega) (by omega),←fF]
  have hb:=qWv (p:=qZm) (l:=s.data.toList) (a:=i+1) (by omega)
  rw[zFo (s.data.toList.length-(i+1)) (i+1) N (by omega) hl (by omega)]
  simp only[jA]
  generalize tw qZm s.data.toList (i+1)=e at hb
  by_cases he:e=s.data.toList.length
  ·rw[if_pos (by omega)]
   have:¬s.data.toList.getD e 0=34:=fun h=>by have:=qWc (l:=s.data.toList) (i:=e) (by rw[h];decide);omega
   rw[if_neg this]
   rfl
  ·have hlt:e<s.data.toList.length:=by omega
   rw[if_neg (by omega),qHh hlt,qLw hlt]
   simp only[jA]
   by_cases h34:s.data.toList[e]=34
   ·rw[if_pos h34,if_neg (by rw[h34];decide),qVw hb.1 hb.2]
    simp only[jA,jI]
    rw[wi64 (by omega) (by omega),←fF]
   ·have h34':¬((s.data.toList[e]).toNat:Int)=34:=fun h=>h34 (UInt8.toNat_inj.1 (by show _=34;omega))
    rw[if_neg h34,if_pos (by simpa using h34')]
    simp[zHh]
 have h34':¬((s.data.toList[i]).toNat:Int)=34:=fun h=>h7 ((zFx _).2 (UInt8.toNat_inj.1 (by show _=34;omega)))
 simp only[h7,jH,h34']
 have ho:(if((s.data.toList[i]).toNat:Int)=61 then(if decide (IntKind.wrap .i64 ((i:Int)+1)<(s.size:Int))=true then((idxB s (IntKind.wrap .i64 ((i:Int)+1))).bind fun x11=>some ((x11.toNat:Int)==61)) else some false) else some false)=some (decide (s.data.toList.getD i 0=61∧s.data.toList.getD (i+1) 0=61)):=by
  rw[qLw hi]
  by_cases h61:s.data.toList[i]=61
  ·rw[if_pos (by rw[h61];rfl),wi64 (by omega) (by omega),←fF]
   by_cases hlt:i+1<s.data.toList.length
   ·rw[if_pos (by simp only[jB];omega),qHh hlt,qLw hlt]
    simp only[jA]
    congr 1
    rw[kE,kC,jB]
    exact⟨fun h=>⟨h61,UInt8.toNat_inj.1 (by show _=61;omega)⟩,fun h=>by rw[h.2];rfl⟩
   ·rw[if_neg (by simp only[jB];omega)]
    congr 1
    refine(jY fun h=> ?_).symm
    have:=qWc (l:=s.data.toList) (i:=i+1) (by rw[h.2];decide)
    omega
  ·rw[if_neg (fun h=>h61 (UInt8.toNat_inj.1 (by show _=61;omega)))]
   congr 1
   exact(jY fun h=>h61 h.1).symm
 rw[ho]
 simp only[jA,jB]
 by_cases h61:s.data.toList.getD i 0=61∧s.data.toList.getD (i+1) 0=61
 ·have hlt:i+1<s.data.toList.length:=qWc (by rw[h61.2];decide)
  have h8:kd (s.data.toList[i])=8:=by rw[←qLw hi,h61.1];kernel_rfl
  have hE:zFj s.data.toList i=i+2:=by rw[zFj,if_pos h61]
  have hx:s.extract i (i+2)=(⟨#[61,61]⟩:ByteArray):=by
   apply Go.WideShapes.bytes_inj
   simp only[ByteArray.data_extract,Array.toList_extract,fY]
   rw[jR hi,jR hlt,←qLw hi,←qLw hlt,h61.1,h61.2,show i+2-i=2 by omega]
   rfl
  simp only[h61,and_self,jI,h8,hE,hx]
  rw[wi64 (by omega) (by omega)]
  simp
 ·have hE:zFj s.data.toList i=i+1:=by rw[zFj,if_neg h61]
  have key:=qXz (N:=N) hi hl 11 0 N rfl (by omega)
  rw[show((0:Nat):Int)=0 from rfl] at key
  rw[if_neg h61,key]
  by_cases h8:kd (s.data.toList[i])=8
  ·have:=(zKb _).1 h8
   simp only[h8,jI,kA,this,jA,hE]
  ·have:¬signs.contains (s.data.toList[i])=true:=fun h=>h8 ((zKb _).2 h)
   simp only[h8,jH,kA,this,jA]
   simp[zHh]
end
section
open Go Go.Dc
def qOf:Nat→List UInt8→Nat→Nat
 |0,_,i=>i
 |k+1,l,i=>
  if tw (inK [5]) l i=l.length then l.length
  else if kd (l.getD (tw (inK [5]) l i) 0)=6 then qOf k l (tw qPz l (tw (inK [5]) l i))
  else tw (inK [5]) l i
theorem zMc{N:Nat}{s:ByteArray}{i:Nat}(hi:i≤s.data.toList.length)(hl:s.data.toList.length<1000000)(hN:s.data.toList.length+10<N):qAs (qEg N s) N (i:Int)=some ((tw qPz s.data.toList i:Nat):Int):=by
 have hs:=qDk s
 have hn:∀c:UInt8,((c.toNat:Int) !=10)=qPz c:=fun c=>by
  rw[kE,fR,qPz,fR]
  exact⟨fun h e=>h (by rw[e];rfl),fun h e=>h (UInt8.toNat_inj.1 (by show _=10;omega))⟩
 refine qXe (f:=qEg N s) (l:=s.data.toList) (p:=qPz) (fun e=>(e:Int)) (fun j hj hb=> ?_) (fun j hj hb=> ?_) ?_ (s.data.toList.length-i) i N (by omega) (by omega)
 ·simp only[qEg]
  rw[if_pos (by simp only[jB];omega),qHh hj]
  simp only[jA,hn,hb]
  rw[if_pos trivial,wi64 (by omega) (by omega)]
 ·simp only[qEg]
  rw[if_pos (by simp only[jB];omega),qHh hj]
  simp only[jA,hn,hb]
  rfl
 ·simp only[qEg]
  rw[if_neg (by simp only[jB];omega)]
  rfl
theorem zLe{s:ByteArray}{i:Nat}(hi:i<s.data.toList.length):((idxB s (i:Int)).bind fun x1=>if((x1.toNat:Int)==32)=true then(some true) else((idxB s (i:Int)).bind fun x2=>if((x2.toNat:Int)==9)=true then(some true) else((idxB s (i:Int)).bind fun x3=>if((x3.toNat:Int)==10)=true then(some true) else((idxB s (i:Int)).bind fun x4=>some ((x4.toNat:Int)==13)))))=some (inK [5] (s.data.toList[i])):=by
 simp only[qHh hi,jA,kC]
 generalize s.data.toList[i]=c
 have hb:=zPt c
 by_cases h1:(c.toNat:Int)=32
 ·rw[if_pos h1,hb.2 (by omega)]
 rw[if_neg h1]
 by_cases h2:(c.toNat:Int)=9
 ·rw[if_pos h2,hb.2 (by omega)]
 rw[if_neg h2]
 by_cases h3:(c.toNat:Int)=10
 ·rw[if_pos h3,hb.2 (by omega)]
 rw[if_neg h3]
 congr 1
 rw[kE,kC,hb]
 omega
theorem zLv{N:Nat}{s:ByteArray}{i:Nat}(hi:i<s.data.toList.length)(hl:s.data.toList.length<1000000)(hN:s.data.toList.length+10<N):
  qFq N s (i:Int)=some (if inK [5] (s.data.toList[i])=true then .inl (((i+1:Nat)):Int) else if kd (s.data.toList[i])=6 then .inl ((tw qPz s.data.toList i:Nat):Int) else .inr (.inr (i:Int))):=by
 have hs:=qDk s
 simp only[qFq]
 rw[if_pos (by simp only[jB];omega),zLe hi]
 simp only[jA]
 by_cases h5:inK [5] (s.data.toList[i])=true
 ·rw[if_pos h5,if_pos h5,wi64 (by omega) (by omega),←fF]
 ·rw[if_neg h5,if_neg h5,qHh hi]
  simp only[jA,kC]
  have hc:=zIw (s.data.toList[i])
  by_cases h6:kd (s.data.toList[i])=6
  ·rw[if_pos (by have:=hc.1 h6;omega),if_pos h6,zMc (by omega) hl hN]
   rfl
  ·rw[if_neg (fun h=>h6 (hc.2 (by omega))),if_neg h6]
theorem qZg{N:Nat}{s:ByteArray}(hl:s.data.toList.length<1000000)(hN:s.data.toList.length+10<N):∀(d i k M:Nat),i+d=s.data.toList.length→d<k→d<M→∃z,qAs (qFq N s) M (i:Int)=some z∧(z= .inl ((qOf k s.data.toList i:Nat):Int)∨z= .inr ((qOf k s.data.toList i:Nat):Int))
 |d,i,k,0,_,_,h=>by omega
 |d,i,0,M,_,h,_=>by omega
 |0,i,k+1,M+1,h1,h2,h3=>by
  have hs:=qDk s
  refine⟨.inl ((s.data.toList.length:Nat):Int),?_,.inl ?_⟩
  ·simp only[qAs,qFq]
   rw[if_neg (by simp only[jB];omega)]
   simp only[jA]
   congr 2;omega
  ·simp only[qOf]
   rw[zOc (by omega),if_pos (by omega)]
 |d+1,i,k+1,M+1,h1,h2,h3=>by
  have hs:=qDk s
  have hi:i<s.data.toList.length:=by omega
  simp only[qAs]
  rw[zLv hi hl hN]
  simp only[jA]
  cases h5:inK [5] (s.data.toList[i]) with
  |true=>
   rw[if_pos rfl]
   have:=qZg hl hN d (i+1) (k+1) M (by omega) (by omega) (by omega)
   simp only[qOf,zAr hi h5] at this ⊢
   exact this
  |false=>
   rw[if_neg gN]
   by_cases h6:kd (s.data.toList[i])=6
   ·have hsk:qOf (k+1) s.data.toList i=qOf k s.data.toList (tw qPz s.data.toList i):=by
     simp only[qOf,qYw hi h5,qLw hi,h6,jI]
     rw[if_neg (by omega)]
    rw[hsk,if_pos h6]
    have hb2:=qWv (p:=qPz) (l:=s.data.toList) (a:=i) (by omega)
    have hpos:=zBs (p:=qPz) hi (by
     simp only[qPz,fR,ne_eq]
     intro e;rw[e] at h6;exact absurd h6 (by decide))
    exact qZg hl hN (s.data.toList.length-tw qPz s.data.toList i) _ k M (by omega) (by omega) (by omega)
   ·have hsk:qOf (k+1) s.data.toList i=i:=by
     simp only[qOf,qYw hi h5,qLw hi,h6,jH]
     rw[if_neg (by omega)]
    rw[hsk,if_neg h6]
    exact⟨_,rfl,.inr rfl⟩
theorem zNb{N:Nat}{s:ByteArray}{i k:Nat}(hi:i≤s.data.toList.length)(hl:s.data.toList.length<1000000)(hN:s.data.toList.length+10<N)(hk:s.data.toList.length<i+k):qJe N s (i:Int)=some ((qOf k s.data.toList i:Nat):Int):=by
 obtain⟨z,h1,h2⟩:=qZg hl hN (s.data.toList.length-i) i k N (by omega) (by omega) (by omega)
 unfold qJe
 rw[h1]
 rcases h2 with rfl|rfl<;>rfl
theorem zFl{s:ByteArray}:∀(k i:Nat),i≤s.data.toList.length→s.data.toList.length<i+k→i≤qOf k s.data.toList i∧qOf k s.data.toList i≤s.data.toList.length∧
  (qOf k s.data.toList i=s.data.toList.length→tokG k s i= .inr [(5,⟨#[]⟩,0,(s.data.toList.length:Int))])∧
  (qOf k s.data.toList i<s.data.toList.length→∃k',(∀b,qOf k s.data.toList i<b→s.data.toList.length<b+k')∧tokG k s i=
   if(tokP s (qOf k s.data.toList i)).2.2≠0 then .inl ((qOf k s.data.toList i:Nat),(tokP s (qOf k s.data.toList i)).2.2)
   else match tokG k' s (tokP s (qOf k s.data.toList i)).2.1.toNat with
    | .inl x=> .inl x
    | .inr r=> .inr (((tokP s (qOf k s.data.toList i)).1.1,(tokP s (qOf k s.data.toList i)).1.2.1,(tokP s (qOf k s.data.toList i)).1.2.2.1,((qOf k s.data.toList i:Nat):Int))::r))
 |0,i,h1,h2=>by omega
 |k+1,i,h1,h2=>by
  have hb:=qWv (p:=inK [5]) (l:=s.data.toList) (a:=i) h1
  simp only[qOf,tokG]
  by_cases he:tw (inK [5]) s.data.toList i=s.data.toList.length
  ·simp only[he,jI]
   exact⟨h1,jU _,fun _=>trivial,fun h=>absurd h (Nat.lt_irrefl _)⟩
  simp only[he,jH]
  have hlt:tw (inK [5]) s.data.toList i<s.data.toList.length:=by omega
  by_cases h6:kd (s.data.toList.getD (tw (inK [5]) s.data.toList i) 0)=6
  ·simp only[h6,jI]
   have hb2:=qWv (p:=qPz) (l:=s.data.toList) (a:=tw (inK [5]) s.data.toList i) (by omega)
   have hpos:=zBs (p:=qPz) hlt (by
    rw[qLw hlt] at h6
    simp only[qPz,fR,ne_eq]
    intro e;rw[e] at h6;exact absurd h6 (by decide))
   obtain⟨g1,g2,g3,g4⟩:=zFl k (tw qPz s.data.toList (tw (inK [5]) s.data.toList i)) hb2.2 (by omega)
   exact⟨by omega,g2,g3,g4⟩
  ·simp only[h6,jH]
   exact⟨hb.1,hb.2,fun h=>absurd h he,fun _=>⟨k,fun b hb'=>by omega,rfl⟩⟩
theorem qUx{N:Nat}{s:ByteArray}(hl:s.data.toList.length≤16384)(hN:s.data.toList.length+40<N):∀(d i k M:Nat) (acc:List Tok),i+d=s.data.toList.length→d<M→s.data.toList.length<i+k→acc.length≤i→
  ∃z,qAs (qHe N s) M (acc,((qOf k s.data.toList i:Nat):Int))=some z∧((∃o,z= .inl o∧o.length≤s.data.toList.length∧zHw acc (tokG k s i)=(o++[(5,⟨#[]⟩,0,(s.size:Int))],0,0))∨z= .inr (zHw acc (tokG k s i)))
 |d,i,k,0,acc,_,h,_,_=>by omega
 |d,i,k,M+1,acc,h1,h2,h3,h4=>by
  have hs:=qDk s
  obtain⟨g1,g2,g3,g4⟩:=zFl (s:=s) k i (by omega) h3
  generalize hA:qOf k s.data.toList i=a at g1 g2 g3 g4
  simp only[qAs,qHe]
  by_cases he:a=s.data.toList.length
  ·refine⟨.inl acc,?_,.inl ⟨acc,rfl,by omega,?_⟩⟩
   ·rw[if_neg (by simp only[jB];omega)]
    rfl
   ·rw[g3 he,←hs];rfl
  ·have hlt:a<s.data.toList.length:=by omega
   obtain⟨k',g5,g6⟩:=g4 hlt
   rw[if_pos (by simp only[jB];omega),zHg hlt (by omega) (by omega)]
   simp only[jA,refP]
   by_cases h0:(tokP s a).2.2=0
   ·obtain⟨e,he1,he2,he3,_⟩:=zIm hlt h0
    rw[if_pos h0]
    simp only[gK,jC,jH]
    rw[qCr (by simp only[jD,jE];omega) (by omega),he1]
    simp only[jA]
    rw[zNb (k:=k') he3 (by omega) (by omega) (g5 e he2)]
    simp only[jA]
    obtain⟨z,hz1,hz2⟩:=qUx hl hN (s.data.toList.length-e) e k' M (acc++[((tokP s a).1.1,(tokP s a).1.2.1,(tokP s a).1.2.2.1,(a:Int))]) (by omega) (by omega) (g5 e he2) (by simp;omega)
    have hj:zHw acc (tokG k s i)=zHw (acc++[((tokP s a).1.1,(tokP s a).1.2.1,(tokP s a).1.2.2.1,(a:Int))]) (tokG k' s e):=by
     rw[g6,if_neg (by simp[h0]),he1,jS]
     cases tokG k' s e with
     |inl x=>rfl
     |inr r=>simp[zHw]
    rw[hj]
    exact⟨z,hz1,hz2⟩
   ·rw[if_neg h0]
    have hb:((tokP s a).2.2 !=0)=true:=by simpa using h0
    simp only[hb,jI,jA]
    refine⟨_,rfl,.inr ?_⟩
    rw[g6,if_pos h0]
    rfl
theorem zEs{N:Nat}{s:ByteArray}(hN:20000<N):qJk N s=some (qKv s):=by
 have hs:=qDk s
 unfold qJk qKv
 by_cases h:s.data.toList.length>16384
 ·rw[if_pos (by simp only[jB];omega),if_pos h]
 ·rw[if_neg (by simp only[jB];omega),if_neg h]
  have h1:=zNb (N:=N) (s:=s) (i:=0) (k:=s.data.toList.length+1) (by omega) (by omega) (by omega) (by omega)
  rw[show((0:Nat):Int)=0 from rfl] at h1
  rw[h1]
  simp only[jA]
  obtain⟨z,hz1,hz2⟩:=qUx (N:=N) (s:=s) (by omega) (by omega) s.data.toList.length 0 (s.data.toList.length+1) N [] (by omega) (by omega) (by omega) (by simp)
  rw[hz1]
  rcases hz2 with ⟨o,rfl,ho,hj⟩|rfl
  ·simp only[jA]
   rw[qCr (by simp only[jD,jE];omega) (by omega),hj]
   rfl
  ·rfl
end
section
open Go Go.Dc
def qNl(s:ByteArray):Bool:=decide (1≤s.data.toList.length∧s.data.toList.length≤24∧kd (s.data.toList.getD 0 0)=1∧tw (inK [1,2,3]) s.data.toList 0=s.data.toList.length)
theorem qSn{s:ByteArray}(h:¬(1≤s.data.toList.length∧s.data.toList.length≤24∧kd (s.data.toList.getD 0 0)=1∧tw (inK [1,2,3]) s.data.toList 0=s.data.toList.length)):false=qNl s:=(jY h).symm
theorem zMz{s:ByteArray}(h:1≤s.data.toList.length∧s.data.toList.length≤24∧kd (s.data.toList.getD 0 0)=1∧tw (inK [1,2,3]) s.data.toList 0=s.data.toList.length):true=qNl s:=(kG h).symm
theorem zNk{N:Nat}{s:ByteArray}(hN:100<N):qNt N s=some (qNl s):=by
 have hs:=qDk s
 simp only[qNt,zKl (show 30<N by omega),jA]
 by_cases h1:1≤s.data.toList.length
 ·by_cases h2:s.data.toList.length≤24
  ·rw[if_pos (by simp only[jB];omega),if_pos (by simp only[jB];omega)]
   have hi:=qHh (s:=s) (i:=0) (by omega)
   rw[show((0:Nat):Int)=0 from rfl] at hi
   rw[hi]
   simp only[jA,kd_def,kC]
   have hsp:=zOf (N:=N) (s:=s) (ks:=[1,2,3]) (i:=0) (by omega) (by omega) (by simp) (by omega)
   rw[show((0:Nat):Int)=0 from rfl] at hsp
   by_cases h3:kd (s.data.toList[0])=1
   ·rw[if_pos h3,hsp]
    simp only[jA]
    congr 1
    rw[kE,kC,qNl,jB,qLw (by omega)]
    exact⟨fun h=>⟨h1,h2,h3,by omega⟩,fun h=>by have:=h.2.2.2;omega⟩
   ·rw[if_neg h3]
    refine congrArg some (qSn fun h=> ?_)
    rw[qLw (by omega)] at h
    exact h3 h.2.2.1
  ·rw[if_pos (by simp only[jB];omega),if_neg (by simp only[jB];omega)]
   exact congrArg some (qSn fun h=>h2 h.2.1)
 ·rw[if_neg (by simp only[jB];omega)]
  exact congrArg some (qSn fun h=>h1 h.1)
theorem qPk{N:Nat}{s:ByteArray}(hN:100<N):qDt N s=some (qNl s):=by
 have hs:=qDk s
 simp only[qDt]
 by_cases h1:1≤s.data.toList.length
 ·by_cases h2:s.data.toList.length≤24
  ·rw[if_neg (by simp only[jB];omega),if_neg (by simp only[jB];omega)]
   have hi:=qHh (s:=s) (i:=0) (by omega)
   rw[show((0:Nat):Int)=0 from rfl] at hi
   rw[hi]
   simp only[jA,qZa]
   by_cases h3:kd (s.data.toList[0])=1
   ·rw[h3,if_neg (by simp)]
    have key:=qXe (f:=qFo N s) (l:=s.data.toList) (p:=inK [1,2,3]) (fun e=>if e=s.data.toList.length then .inl () else .inr false) (fun j hj hb=>by
     simp only[qFo]
     rw[if_pos (by simp only[jB];omega),qHh hj]
     simp only[jA,qVt,hb]
     rw[wi64 (by omega) (by omega)]
     rfl) (fun j hj hb=>by
     simp only[qFo]
     rw[if_pos (by simp only[jB];omega),qHh hj]
     simp only[jA,qVt,hb]
     rw[if_neg (show ¬j=s.data.toList.length by omega)]
     rfl) (by
     simp only[qFo]
     rw[if_neg (by simp only[jB];omega)]
     simp) s.data.toList.length 0 N (by omega) (by omega)
    rw[show((0:Nat):Int)=0 from rfl] at key
    rw[key]
    simp only[jA]
    by_cases h4:tw (inK [1,2,3]) s.data.toList 0=s.data.toList.length
    ·rw[if_pos h4]
     exact congrArg some (zMz ⟨h1,h2,by rw[qLw (by omega)];exact h3,h4⟩)
    ·rw[if_neg h4]
     exact congrArg some (qSn fun h=>h4 h.2.2.2)
   ·rw[if_pos (by rw[fV,beq_eq_false_iff_ne];exact h3)]
    refine congrArg some (qSn fun h=> ?_)
    rw[qLw (by omega)] at h
    exact h3 h.2.2.1
  ·rw[if_neg (by simp only[jB];omega),if_pos (by simp only[jB];omega)]
   simp only[jA,jI]
   exact congrArg some (qSn fun h=>h2 h.2.1)
 ·rw[if_pos (by simp only[jB];omega)]
  simp only[jA,jI]
  exact congrArg some (qSn fun h=>h1 h.1)
end
section
open Go Go.Dc
def sp:List UInt8→List (List UInt8)
 |[]=>[[]]
 |c::l=>if c=47 then[]::sp l else match sp l with
  |[]=>[[c]]
  |p::q=>(c::p)::q
theorem zKx:∀l:List UInt8,sp l≠[]
 |[]=>by simp[sp]
 |c::l=>by
  simp only[sp]
  split
  ·simp
  ·split<;>simp
theorem zMe:∀l:List UInt8,(sp l).length=l.count 47+1
 |[]=>rfl
 |c::l=>by
  simp only[sp]
  split
  ·rename_i h;subst h;simp[zMe l]
  ·rename_i h
   have:=zMe l
   split
   ·rename_i e;exact absurd e (zKx l)
   ·rename_i e
    rw[e] at this
    simp only[jD] at this ⊢
    rw[List.count_cons_of_ne h,←this]
def qOy(c:UInt8):Bool:=c !=47
theorem zPp:∀l:List UInt8,sp l=if(l.takeWhile qOy).length=l.length then[l] else l.takeWhile qOy::sp (l.drop ((l.takeWhile qOy).length+1))
 |[]=>rfl
 |c::l=>by
  have ih:=zPp l
  by_cases h:c=47
  ·subst h
   rw[fC (by decide)]
   simp[sp]
  ·have hc:qOy c=true:=by simpa[qOy] using h
   rw[gO hc]
   simp only[sp,h,jH,ih,jD,Nat.add_right_cancel_iff,List.drop_succ_cons]
   by_cases he:(l.takeWhile qOy).length=l.length
   ·simp[he]
   ·simp[he]
def zAz:Nat→Nat→List UInt8→Option (Nat×Nat)
 |a,b,[]=>some (a,b)
 |a,b,c::l=>if c=47 then(if b=0 then none else zAz (a+1) 0 l) else if inK [1,2,3,4] c=true then(if b+1>24 then none else zAz a (b+1) l) else none
def partOk(p:List UInt8):Prop:=1≤p.length∧p.length≤24∧∀c∈p,inK [1,2,3,4] c=true
theorem zAm:∀(l:List UInt8) (a b:Nat),b≤24→((∃x y,zAz a b l=some (x,y)∧0<y∧x≤8)↔
  ∃p q,sp l=p::q∧1≤b+p.length∧b+p.length≤24∧(∀c∈p,inK [1,2,3,4] c=true)∧(∀r∈q,partOk r)∧a+q.length≤8)
 |[],a,b,hb=>by
  constructor
  ·rintro⟨x,y,h,h1,h2⟩
   simp only[zAz,jK,Prod.mk.injEq] at h
   exact⟨[],[],rfl,by simp;omega,by simpa using hb,by simp,by simp,by simp;omega⟩
  ·rintro⟨p,q,h,h1,h2,_,_,h3⟩
   simp only[sp,g9] at h
   obtain⟨rfl,rfl⟩:=h
   simp only[jE] at h1 h3
   exact⟨a,b,rfl,by omega,by omega⟩
 |c::l,a,b,hb=>by
  by_cases hc:c=47
  ·have hsp:sp (c::l)=[]::sp l:=by simp[sp,hc]
   rw[hsp]
   simp only[zAz,hc,jI]
   by_cases h0:b=0
   ·subst h0
    simp only[jI]
    constructor
    ·rintro⟨x,y,h,_⟩;cases h
    ·rintro⟨p,q,h,h1,_⟩
     simp only[g9] at h
     rw[←h.1] at h1;simp at h1
   ·rw[if_neg h0]
    rw[zAm l (a+1) 0 (by omega)]
    constructor
    ·rintro⟨p,q,h,h1,h2,h3,h4,h5⟩
     refine⟨[],sp l,rfl,by simp;omega,by simpa using hb,by simp,?_,by rw[h];simp only[jD];omega⟩
     intro r hr
     rw[h] at hr
     rcases jM.1 hr with rfl|hr
     ·exact⟨by omega,by omega,h3⟩
     ·exact h4 r hr
    ·rintro⟨p,q,h,h1,h2,h3,h4,h5⟩
     simp only[g9] at h
     obtain⟨rfl,rfl⟩:=h
     obtain⟨p,q,hpq⟩:∃p q,sp l=p::q:=by
      cases he:sp l with
      |nil=>exact absurd he (zKx l)
      |cons p q=>exact⟨p,q,rfl⟩
     rw[hpq] at h4 h5
     obtain⟨g1,g2,g3⟩:=h4 p (jJ ..)
     exact⟨p,q,hpq,by omega,by omega,g3,fun r hr=>h4 r (jL _ hr),by simp only[jD] at h5;omega⟩
  ·obtain⟨p0,q0,hpq⟩:∃p q,sp l=p::q:=by
    cases he:sp l with
    |nil=>exact absurd he (zKx l)
    |cons p q=>exact⟨p,q,rfl⟩
   have hsp:sp (c::l)=(c::p0)::q0:=by simp only[sp,hc,jH,hpq]
   rw[hsp]
   simp only[zAz,hc,jH]
   by_cases hk:inK [1,2,3,4] c=true
   ·rw[if_pos hk]
    by_cases h24:b+1>24
    ·rw[if_pos h24]
     constructor
     ·rintro⟨x,y,h,_⟩;cases h
     ·rintro⟨p,q,h,h1,h2,_⟩
      simp only[g9] at h
      rw[←h.1] at h2
      simp only[jD] at h2
      omega
    ·rw[if_neg h24,zAm l a (b+1) (by omega)]
     constructor
     ·rintro⟨p,q,h,h1,h2,h3,h4,h5⟩
      rw[hpq] at h
      simp only[g9] at h
      obtain⟨rfl,rfl⟩:=h
      refine⟨_,_,rfl,by simp only[jD];omega,by simp only[jD];omega,?_,h4,h5⟩
      intro d hd
      rcases jM.1 hd with rfl|hd
      ·exact hk
      ·exact h3 d hd
     ·rintro⟨p,q,h,h1,h2,h3,h4,h5⟩
      simp only[g9] at h
      obtain⟨rfl,rfl⟩:=h
      simp only[jD] at h1 h2
      exact⟨p0,q0,hpq,by omega,by omega,fun d hd=>h3 d (jL _ hd),h4,h5⟩
   ·rw[if_neg hk]
    constructor
    ·rintro⟨x,y,h,_⟩;cases h
    ·rintro⟨p,q,h,h1,h2,h3,_⟩
     simp only[g9] at h
     rw[←h.1] at h3
     exact absurd (h3 c (jJ ..)) hk
theorem inK4{N:Nat}(c:UInt8):((qFs N (c.toNat:Int)).bind fun y1=>if y1=true then(some true) else(some ((c.toNat:Int)==46)))=some (inK [1,2,3,4] c):=by
 have h:=qXv (p:=fun c=>(inK [1,2,3] c||decide (c.toNat=46))==inK [1,2,3,4] c) (by kernel_rfl) c
 rw[kC] at h
 rw[←h,qVt]
 simp only[jA]
 have e:((c.toNat:Int)==46)=decide (c.toNat=46):=by rw[kE,kC,jB];omega
 rw[e]
 cases inK [1,2,3] c<;>simp
theorem qTs{N:Nat}{s:ByteArray}(hl:s.data.toList.length<1000000):∀(d i M a b:Nat),i+d=s.data.toList.length→d<M→a≤i+1→b≤24→
  qAs (qGt N s) M ((a:Int),(b:Int),(i:Int))=some (match zAz a b (s.data.toList.drop i) with|some z=> .inl ((z.1:Int),(z.2:Int))|none=> .inr false)
 |d,i,0,_,_,_,h,_,_=>by omega
 |0,i,M+1,a,b,h1,h2,h3,h4=>by
  have hs:=qDk s
  simp only[qAs,qGt]
  rw[if_neg (by simp only[jB];omega),jQ (by omega)]
  rfl
 |d+1,i,M+1,a,b,h1,h2,h3,h4=>by
  have hs:=qDk s
  have hi:i<s.data.toList.length:=by omega
  simp only[qAs,qGt]
  rw[if_pos (by simp only[jB];omega),jR hi,qHh hi]
  simp only[jA,inK4,kC,zAz]
  by_cases hc:s.data.toList[i]=47
  ·rw[if_pos (show((s.data.toList[i]).toNat:Int)=47 by rw[hc];rfl),if_pos hc]
   by_cases hb:b=0
   ·rw[if_pos (show(b:Int)=0 by omega),if_pos hb]
    rfl
   ·rw[if_neg (show ¬(b:Int)=0 by omega),if_neg hb,wi64 (x:=(a:Int)+1) (by omega) (by omega)]
    simp only[jA]
    rw[if_neg (by simp),wi64 (by omega) (by omega)]
    have:=qTs (N:=N) hl d (i+1) M (a+1) 0 (by omega) (by omega) (by omega) (by omega)
    exact this
  ·have hc':¬((s.data.toList[i]).toNat:Int)=47:=fun h=>hc (UInt8.toNat_inj.1 (by show _=47;omega))
   rw[if_neg hc',if_neg hc]
   by_cases hk:inK [1,2,3,4] (s.data.toList[i])=true
   ·rw[if_pos hk,if_pos hk,wi64 (x:=(b:Int)+1) (by omega) (by omega)]
    simp only[jA]
    by_cases h24:b+1>24
    ·rw[if_pos (by simp only[jB];omega),if_pos h24]
     rfl
    ·rw[if_neg (by simp only[jB];omega),if_neg h24,wi64 (by omega) (by omega)]
     have:=qTs (N:=N) hl d (i+1) M a (b+1) (by omega) (by omega) (by omega) (by omega)
     exact this
   ·rw[if_neg hk,if_neg hk]
    rfl
def qJi(l:List UInt8):Bool:=decide (l.length≤80∧(sp l).length≤8∧∀p∈sp l,1≤p.length∧p.length≤24∧∀c∈p,inK [1,2,3,4] c=true)
theorem zGj(l:List UInt8):qJi l=true↔l.length≤80∧∃x y,zAz 1 0 l=some (x,y)∧0<y∧x≤8:=by
 rw[zAm l 1 0 (by omega)]
 simp only[qJi,jB]
 obtain⟨p,q,hpq⟩:∃p q,sp l=p::q:=by
  cases he:sp l with
  |nil=>exact absurd he (zKx l)
  |cons p q=>exact⟨p,q,rfl⟩
 constructor
 ·rintro⟨h1,h2,h3⟩
  rw[hpq] at h2 h3
  obtain⟨g1,g2,g3⟩:=h3 p (jJ ..)
  exact⟨h1,p,q,hpq,by omega,by omega,g3,fun r hr=>h3 r (jL _ hr),by simp only[jD] at h2;omega⟩
 ·rintro⟨h1,p',q',h,h2,h3,h4,h5,h6⟩
  refine⟨h1,by rw[h];simp only[jD];omega,?_⟩
  intro r hr
  rw[h] at hr
  rcases jM.1 hr with rfl|hr
  ·exact⟨by omega,by omega,h4⟩
  ·exact h5 r hr
theorem qPl{N:Nat}{s:ByteArray}(hN:100<N):qDr N s=some (qJi s.data.toList):=by
 have hs:=qDk s
 simp only[qDr]
 by_cases h80:s.data.toList.length≤80
 ·rw[if_neg (by simp only[jB];omega)]
  have key:=qTs (N:=N) (s:=s) (by omega) s.data.toList.length 0 N 1 0 (by omega) (by omega) (by omega) (by omega)
  rw[show((0:Nat):Int)=0 from rfl,show((1:Nat):Int)=1 from rfl,kA] at key
  rw[key]
  have hp:=zGj s.data.toList
  cases hR:zAz 1 0 s.data.toList with
  |none=>
   simp only[jA]
   refine congrArg some ?_
   rw[kE,hp]
   constructor
   ·intro h;cases h
   ·rintro⟨_,x,y,h,_⟩;rw[hR] at h;cases h
  |some z=>
   obtain⟨x,y⟩:=z
   simp only[jA]
   by_cases hy:0<y
   ·rw[if_pos (by simp only[jB];omega)]
    simp only[jA]
    refine congrArg some ?_
    rw[kE,hp,jB]
    constructor
    ·intro h;exact⟨h80,x,y,hR,hy,by omega⟩
    ·rintro⟨_,x',y',h,_,h2⟩;rw[hR] at h;simp only[jK,Prod.mk.injEq] at h;omega
   ·rw[if_neg (by simp only[jB];omega)]
    simp only[jA]
    refine congrArg some ?_
    rw[kE,hp]
    constructor
    ·intro h;cases h
    ·rintro⟨_,x',y',h,h1,_⟩;rw[hR] at h;simp only[jK,Prod.mk.injEq] at h;omega
 ·rw[if_pos (by simp only[jB];omega)]
  refine congrArg some ?_
  rw[kE,zGj]
  exact⟨fun h=>(by cases h),fun h=>absurd h.1 h80⟩
end
section
open Go Go.Dc
theorem tw_is{p:UInt8→Bool}{l:List UInt8}{k:Nat}(hk:k<l.length)(h1:∀j,∀h:j<l.length,j<k→p l[j]=true)(h2:p l[k]=false):tw p l 0=k:=by
 have key:∀d j,j+d=k→tw p l j=k:=by
  intro d
  induction d with
  |zero=>
   intro j h
   have:j=k:=by omega
   subst this
   exact qYw hk h2
  |succ d ih=>intro j h;rw[←zAr (by omega) (h1 j (by omega) (by omega))];exact ih (j+1) (by omega)
 exact key k 0 (by omega)
theorem ix_eq(x:ByteArray):ixB x 47=if(x.data.toList.takeWhile qOy).length=x.data.toList.length then-1 else((x.data.toList.takeWhile qOy).length:Int):=by
 have hs:=qDk x
 have htw:tw qOy x.data.toList 0=(x.data.toList.takeWhile qOy).length:=by simp[tw]
 have hget:∀j,∀h:j<x.data.toList.length,x[j]! =x.data.toList[j]:=by
  intro j hj
  rw[getElem!_pos x j (by omega)]
  simp[ByteArray.getElem_eq_getElem_data]
 have h47:(47:Int).toNat.toUInt8=47:=rfl
 rw[←htw]
 unfold ixB
 rw[h47,←hs]
 cases hf:(List.range x.data.toList.length).find? (fun j=>x[j]! ==47) with
 |none=>
  rw[List.find?_eq_none] at hf
  simp only
  rw[if_pos]
  refine zSi fun c hc=> ?_
  obtain⟨j,hj,rfl⟩:=List.getElem_of_mem hc
  have:=hf j (fX.2 hj)
  rw[hget j hj] at this
  simpa[qOy] using this
 |some k=>
  have h1:=List.find?_some hf
  have hk:k<x.data.toList.length:=fX.1 (List.mem_of_find?_eq_some hf)
  rw[hget k hk] at h1
  have e:tw qOy x.data.toList 0=k:=by
   refine tw_is hk (fun j h hj=> ?_) (by simpa[qOy] using h1)
   have:=(List.find?_range_eq_some.1 hf).2.2 j hj
   rw[hget j h] at this
   simpa[qOy] using this
  simp only
  rw[e,if_neg (by omega)]
theorem zSf{N:Nat}(x:ByteArray):qMf N x (⟨#[47]⟩:ByteArray)=some (ixB x 47):=by
 have h1:idxB (⟨#[47]⟩:ByteArray) 0=some 47:=by kernel_rfl
 simp only[qMf,qHv,qGa,show(⟨#[47]⟩:ByteArray).size=1 from rfl,qFj]
 rw[if_neg (by decide)]
 simp only[jA,jB]
 by_cases h:(⟨#[47]⟩:ByteArray)=x
 ·have h0:ixB (⟨#[47]⟩:ByteArray) 47=0:=by kernel_rfl
  rw[if_pos h,←h,h0]
  rfl
 ·rw[if_neg h,if_pos (by decide),h1]
  rfl
theorem cnt_eq(x:ByteArray):cntB x 47=((x.data.toList.count 47:Nat):Int):=by
 unfold cntB
 rw[Go.Lib.foldl_data]
 have key:∀(l:List UInt8) (n:Int),l.foldl (fun n x=>if x==(47:Int).toNat.toUInt8 then n+1 else n) n=n+((l.count 47:Nat):Int):=by
  intro l
  induction l with
  |nil=>intro n;simp
  |cons c l ih=>
   intro n
   rw[kZ,ih,List.count_cons]
   have h47:(47:Int).toNat.toUInt8=47:=rfl
   rw[h47]
   by_cases h:(c==47)=true
   ·simp only[h,jI];omega
   ·simp only[h,jC,jH];omega
 rw[key]
 omega
theorem zTa{α:Type}(l:List α)(k:Nat)(a b:α):(l++List.replicate (k+1) a).set l.length b=(l++[b])++List.replicate k a:=by
 rw[List.set_append_right _ _ (jU _)]
 simp[List.replicate_succ]
theorem zBi{N n:Nat}{s:ByteArray}(hn:n<1000000000)(hns:n≤s.size+1)(hs:s.size<1000000000):∀(r M:Nat) (x:ByteArray) (done:List ByteArray),(sp x.data.toList).length=r→done.length+r=n→r<M→x.size<1000000000→
  ∃y D,qAs (qKd N s (⟨#[47]⟩:ByteArray) 0 (n:Int)) M (x,(done.length:Int),done++List.replicate r (⟨#[]⟩:ByteArray))=some (y,((n-1:Nat):Int),D++[(⟨#[]⟩:ByteArray)])∧D.length=n-1∧D++[y]=done++(sp x.data.toList).map qFv
 |_,0,_,_,_,_,h,_=>by omega
 |0,_,x,_,h,_,_,_=>by exact absurd (kT.1 h) (zKx _)
 |r+1,M+1,x,done,h1,h2,h3,h4=>by
  have hxs:=qDk x
  have hmin:(if IntKind.wrap .i64 ((s.size:Int)+1)<(n:Int) then IntKind.wrap .i64 ((s.size:Int)+1) else(n:Int))=(n:Int):=by
   rw[wi64 (by omega) (by omega)];split<;>omega
  have hstep:=zPp x.data.toList
  simp only[qAs,qKd]
  rw[hmin,wi64 (x:=(n:Int)-1) (by omega) (by omega)]
  by_cases hlast:(x.data.toList.takeWhile qOy).length=x.data.toList.length
  ·rw[if_pos hlast] at hstep
   rw[hstep] at h1
   simp only[jD,jE] at h1
   have hr:r=0:=by omega
   subst hr
   rw[if_neg (by simp only[jB];omega)]
   refine⟨x,done,?_,by omega,?_⟩
   ·simp only[jA]
    rw[show(n-1:Nat)=done.length by omega]
    rfl
   ·rw[hstep];simp[qFv]
  ·rw[if_neg hlast] at hstep
   rw[hstep] at h1
   simp only[jD] at h1
   have hpos:0<(sp (x.data.toList.drop ((x.data.toList.takeWhile qOy).length+1))).length:=gZ.2 (zKx _)
   have hle:(x.data.toList.takeWhile qOy).length≤x.data.toList.length:=(List.takeWhile_sublist _).length_le
   have hix:=ix_eq x
   rw[if_neg hlast] at hix
   rw[if_pos (by simp only[jB];omega),zSf,hix]
   simp only[jA,show(⟨#[47]⟩:ByteArray).size=1 from rfl]
   have he:(x.data.toList.takeWhile qOy)=x.data.toList.take (x.data.toList.takeWhile qOy).length:=List.prefix_iff_eq_take.1 (List.takeWhile_prefix _)
   have hx1:x.extract 0 (x.data.toList.takeWhile qOy).length=qFv (x.data.toList.takeWhile qOy):=by
    apply Go.WideShapes.bytes_inj
    simp only[ByteArray.data_extract,Array.toList_extract,fY,qFv,kA,Nat.sub_zero]
    exact he.symm
   have hx2:(x.extract ((x.data.toList.takeWhile qOy).length+1) x.data.toList.length).data.toList=x.data.toList.drop ((x.data.toList.takeWhile qOy).length+1):=by
    simp only[ByteArray.data_extract,Array.toList_extract,fY]
    exact kW (by simp only[gG];omega)
   generalize hk:(x.data.toList.takeWhile qOy).length=k at*
   rw[if_neg (by simp only[jB];omega),wi64 (x:=(k:Int)+0) (by omega) (by omega),Int.add_zero]
   have hsub0:subB x 0 (k:Int)=some (x.extract 0 k):=by
    have:=qVw (s:=x) (i:=0) (e:=k) (by omega) (by omega)
    simpa only[Int.natCast_zero] using this
   rw[hsub0]
   simp only[jA]
   rw[qCg (by simp),wi64 (x:=(k:Int)+((1:Nat):Int)) (by omega) (by omega),show((k:Int)+((1:Nat):Int))=((k+1:Nat):Int) by omega,zNl (by omega)]
   simp only[jA,jS]
   rw[zTa,hx1,wi64 (by omega) (by omega)]
   have hxs2:=qDk (x.extract (k+1) x.data.toList.length)
   rw[hx2,gG] at hxs2
   obtain⟨y,D,g1,g2,g3⟩:=zBi (N:=N) hn hns hs r M (x.extract (k+1) x.data.toList.length) (done++[qFv (x.data.toList.takeWhile qOy)]) (by rw[hx2];omega) (by simp;omega) (by omega) (by omega)
   refine⟨y,D,?_,g2,?_⟩
   ·rw[←g1];simp
   ·rw[g3,hx2,hstep];simp
termination_by r=>r
theorem zRz{N:Nat}{s:ByteArray}(hl:s.size<100000000)(hN:2*s.size+1000<N):qNe N s (⟨#[47]⟩:ByteArray)=some ((sp s.data.toList).map qFv):=by
 have hs:=qDk s
 have hlen:=zMe s.data.toList
 have hc:s.data.toList.count 47≤s.data.toList.length:=List.count_le_length
 have h1:idxB (⟨#[47]⟩:ByteArray) 0=some 47:=by kernel_rfl
 have hcount:qNa N s (⟨#[47]⟩:ByteArray)=some ((s.data.toList.count 47:Nat):Int):=by
  simp only[qNa,show(⟨#[47]⟩:ByteArray).size=1 from rfl]
  rw[if_neg (by decide),if_pos (by decide),h1]
  simp only[jA]
  rw[←cnt_eq];rfl
 simp only[qNe,qMo,qFj,hcount,jA]
 rw[if_neg (by decide),if_neg (by decide),if_pos (by decide)]
 simp only[jA]
 rw[wi64 (x:=((s.data.toList.count 47:Nat):Int)+1) (by omega) (by omega),show((s.data.toList.count 47:Nat):Int)+1=(((sp s.data.toList).length:Nat):Int) by omega]
 generalize hn:(sp s.data.toList).length=n at*
 have hmin:(if IntKind.wrap .i64 ((s.size:Int)+1)<(n:Int) then IntKind.wrap .i64 ((s.size:Int)+1) else(n:Int))=(n:Int):=by
  rw[wi64 (by omega) (by omega)];split<;>omega
 rw[hmin]
 have hm:zIh 16 (⟨#[]⟩:ByteArray) (n:Int)=some (List.replicate n (⟨#[]⟩:ByteArray)):=by
  unfold zIh
  rw[if_pos (by simp only[maxLen];omega),jS]
 rw[hm]
 simp only[jA]
 obtain⟨y,D,g1,g2,g3⟩:=zBi (N:=N) (n:=n) (s:=s) (by omega) (by omega) (by omega) n N s [] hn (by simp) (by omega) (by omega)
 simp only[jE,kF] at g1 g3
 rw[show((0:Nat):Int)=0 from rfl] at g1
 rw[g1]
 simp only[jA]
 rw[qCg (by simp;omega)]
 simp only[jA,jS]
 have hset:(D++[(⟨#[]⟩:ByteArray)]).set (n-1) y=D++[y]:=by
  rw[←g2,List.set_append_right _ _ (jU _)];simp
 rw[hset,g3,wi64 (by omega) (by omega),show((n-1:Nat):Int)+1=(n:Int) by omega,qTl (by omega) (by omega) (by rw[gF,hn];omega)]
 simp only[jA,jS,fI,kA]
 rw[kW (by rw[gF,hn];exact jU _)]
theorem zSn{p:UInt8→Bool}{l:List UInt8}:tw p l 0=l.length↔∀c∈l,p c=true:=by
 constructor
 ·intro h c hc
  have h1:(l.takeWhile p).length=l.length:=by simpa[tw] using h
  have h2:=(List.takeWhile_prefix p (l:=l)).eq_of_length h1
  rw[←h2] at hc
  exact zMh hc
 ·exact zSi
def zHr(x:ByteArray):Bool:=decide (1≤x.data.toList.length∧x.data.toList.length≤24∧∀c∈x.data.toList,inK [1,2,3,4] c=true)
theorem zGk(x:ByteArray):zHr x=true↔1≤x.data.toList.length∧x.data.toList.length≤24∧∀c∈x.data.toList,inK [1,2,3,4] c=true:=decide_eq_true_iff
theorem zTg{N:Nat}{x:ByteArray}(hN:100<N):(if(decide ((x.size:Int)<1))=true then(some true) else(if(decide ((x.size:Int)>24))=true then(some true) else((qOb N x 0 (some kdL) ([1,2,3,4])).bind fun y3=>some (y3 !=(x.size:Int)))))=some (!zHr x):=by
 have hs:=qDk x
 have hno:∀h:¬(1≤x.data.toList.length∧x.data.toList.length≤24∧∀c∈x.data.toList,inK [1,2,3,4] c=true),zHr x=false:=fun h=>jY h
 by_cases h1:1≤x.data.toList.length
 ·rw[if_neg (by simp only[jB];omega)]
  by_cases h2:x.data.toList.length≤24
  ·rw[if_neg (by simp only[jB];omega)]
   have hsp:=zOf (N:=N) (s:=x) (ks:=[1,2,3,4]) (i:=0) (by omega) (by omega) (by simp) (by omega)
   rw[show((0:Nat):Int)=0 from rfl] at hsp
   rw[hsp]
   simp only[jA]
   refine congrArg some ?_
   by_cases h3:tw (inK [1,2,3,4]) x.data.toList 0=x.data.toList.length
   ·have:zHr x=true:=kG ⟨h1,h2,zSn.1 h3⟩
    rw[this,h3,hs]
    simp
   ·rw[hno fun h=>h3 (zSn.2 h.2.2)]
    simp only[kJ,fR,ne_eq]
    omega
  ·rw[if_pos (by simp only[jB];omega),hno fun h=>h2 h.2.1]
   rfl
 ·rw[if_pos (by simp only[jB];omega),hno fun h=>h1 h.1]
  rfl
theorem zFp{N:Nat}{L:List ByteArray}(hL:L.length<1000)(hN:100<N):∀(d j M:Nat),j+d=L.length→d<M→qAs (qMc N L (some kdL)) M (j:Int)=some (if(L.drop j).all zHr=true then .inl () else .inr false)
 |d,j,0,_,h=>by omega
 |0,j,M+1,h1,h2=>by
  simp only[qAs,qMc]
  rw[if_neg (by simp only[jB];omega),jQ (by omega)]
  rfl
 |d+1,j,M+1,h1,h2=>by
  have hj:j<L.length:=by omega
  simp only[qAs,qMc]
  rw[if_pos (by simp only[jB];omega),qCg hj]
  simp only[jA,zTg hN]
  rw[jR hj,List.all_cons]
  cases hp:zHr L[j] with
  |true=>
   rw[if_neg (by simp),wi64 (by omega) (by omega)]
   simp only[jA,gW]
   exact zFp hL hN d (j+1) M (by omega) (by omega)
  |false=>simp
theorem zUe{N:Nat}{s:ByteArray}(hl:s.size<100000000)(hN:2*s.size+1000<N):qRb N s=some (qJi s.data.toList):=by
 have hs:=qDk s
 have hno:∀h:¬(s.data.toList.length≤80∧(sp s.data.toList).length≤8∧∀p∈sp s.data.toList,1≤p.length∧p.length≤24∧∀c∈p,inK [1,2,3,4] c=true),qJi s.data.toList=false:=fun h=>jY h
 simp only[qRb,zRz hl hN,jA,gF]
 by_cases h80:s.data.toList.length≤80
 ·rw[if_neg (by simp only[jB];omega)]
  by_cases h8:(sp s.data.toList).length≤8
  ·have e8:decide (((sp s.data.toList).length:Int)>8)=false:=jY (by omega)
   simp only[jA,e8,jC,jH,zKl (show 30<N by omega)]
   have key:=zFp (N:=N) (L:=(sp s.data.toList).map qFv) (by rw[gF];omega) (by omega) _ 0 N (kK _) (by rw[gF];omega)
   rw[show((0:Nat):Int)=0 from rfl,kA] at key
   rw[key]
   simp only[jA]
   by_cases hp:((sp s.data.toList).map qFv).all zHr=true
   ·have:qJi s.data.toList=true:=kG ⟨h80,h8,fun p hp'=>by
     have:=(zGk _).1 (jT.1 hp (qFv p) (gJ hp'))
     simpa[qFv] using this⟩
    rw[if_pos hp,this]
   ·rw[if_neg hp,hno fun h=>hp (jT.2 fun x hx=>by
     obtain⟨p,hp',rfl⟩:=kU.1 hx
     exact(zGk _).2 (by simpa[qFv] using h.2.2 p hp'))]
  ·have e8:decide (((sp s.data.toList).length:Int)>8)=true:=kG (by omega)
   simp only[jA,e8,jI]
   rw[hno fun h=>h8 h.2.1]
 ·rw[if_pos (by simp only[jB];omega)]
  simp only[jA,jI]
  rw[hno fun h=>h80 h.1]
end
section
open Go Go.Dc
def run{α τ β:Type}(step:τ→α→τ⊕β)(fin:τ→β):List α→τ→β
 |[],t=>fin t
 |x::l,t=>match step t x with
  | .inl t'=>run step fin l t'
  | .inr b=>b
theorem zFv{α τ σ β:Type}{L:List α}(enc:τ→Nat→σ){f:σ→Option (σ⊕β)}(step:τ→α→τ⊕β)(fin:τ→β)(I:Nat→τ→Prop)
  (hstep:∀t i,∀hi:i<L.length,I i t→f (enc t i)=some (match step t L[i] with| .inl t'=> .inl (enc t' (i+1))| .inr b=> .inr b))
  (hinv:∀t i,∀hi:i<L.length,∀t',I i t→step t L[i]= .inl t'→I (i+1) t')
  (hfin:∀t,I L.length t→f (enc t L.length)=some (.inr (fin t))):∀(d i M:Nat) (t:τ),i+d=L.length→d<M→I i t→qAs f M (enc t i)=some (run step fin (L.drop i) t)
 |_,_,0,_,_,h,_=>absurd h (kV _)
 |d,i,M+1,t,h1,h2,h3=>by
  cases d with
  |zero=>
   have hi:i=L.length:=by omega
   subst hi
   simp only[qAs,hfin t h3,jA,List.drop_length,run]
  |succ d=>
   have hi:i<L.length:=by omega
   have hd:L.drop i=L[i]::L.drop (i+1):=(dH hi).symm
   simp only[qAs,hstep t i hi h3,jA]
   rw[hd]
   simp only[run]
   cases hs:step t L[i] with
   |inl t'=>
    simp only
    exact zFv enc step fin I hstep hinv hfin d (i+1) M t' (by omega) (by omega) (hinv t i hi t' h3 hs)
   |inr b=>rfl
theorem qGo{α τ σ β:Type}{L:List α}(enc:τ→Nat→σ){f:σ→Option (σ⊕β)}(step:τ→α→τ⊕β)(fin:τ→β)(I:Nat→τ→Prop)
  (hstep:∀t i,∀hi:i<L.length,I i t→f (enc t i)=some (match step t L[i] with| .inl t'=> .inl (enc t' (i+1))| .inr b=> .inr b))
  (hinv:∀t i,∀hi:i<L.length,∀t',I i t→step t L[i]= .inl t'→I (i+1) t')
  (hfin:∀t,I L.length t→f (enc t L.length)=some (.inr (fin t))) {M:Nat} {t:τ} (hM:L.length<M) (h0:I 0 t):qAs f M (enc t 0)=some (run step fin L t):=by
 have:=zFv enc step fin I hstep hinv hfin L.length 0 M t (by omega) hM h0
 rw[kA] at this;exact this
theorem qSj{α τ β:Type}{step:τ→α→τ⊕β}{fin:τ→β}(g:τ→α→τ)(h:∀t x,step t x= .inl (g t x)):∀(l:List α) (t:τ),run step fin l t=fin (l.foldl g t)
 |[],_=>rfl
 |x::l,t=>by simp only[run,h,kZ];exact qSj g h l _
theorem qWz{α β:Type}{step:Unit→α→Unit⊕β}{fin:Unit→β}{b:β}(p:α→Bool)(h:∀x,step () x=if p x=true then .inr b else .inl ()):∀l:List α,run step fin l ()=if l.any p=true then b else fin ()
 |[]=>rfl
 |x::l=>by
  have ih:=qWz (fin:=fin) p h l
  rw[dN]
  by_cases hp:p x=true
  ·have e:step () x= .inr b:=by rw[h,if_pos hp]
   simp only[run,e]
   rw[hp,Bool.true_or,if_pos rfl]
  ·have e:step () x= .inl ():=by rw[h,if_neg hp]
   simp only[run,e]
   rw[ih,show p x=false by simpa using hp,gS]
theorem qOg{α:Type}{l:List α}{i:Nat}(h:i<l.length):l.drop i=l[i]::l.drop (i+1):=(dH h).symm
theorem zAg{α:Type}{l:List α}{i:Nat}(h:i<l.length):l.take (i+1)=l.take i++[l[i]]:=kO h
end
section
open Go Go.Dc
abbrev File:=ByteArray×ByteArray
def blt(a b:ByteArray):Bool:=Op.bytesLess a.toList b.toList
theorem zLr{a b:ByteArray}(h:a.toList=b.toList):a=b:=by
 have h1:(a.toList==b.toList)=true:=by rw[h];exact gU _
 rw[qFj] at h1
 exact gC h1
theorem qYj:∀a:List UInt8,Op.bytesLess a a=false
 |[]=>rfl
 |x::a=>by simp[Op.bytesLess,qYj a]
theorem zCe:∀a b c:List UInt8,Op.bytesLess a b=true→Op.bytesLess b c=true→Op.bytesLess a c=true
 |_,_,[],_,h=>by simp[Op.bytesLess] at h
 |_,[],_::_,h,_=>by simp[Op.bytesLess] at h
 |[],_::_,_::_,_,_=>rfl
 |x::a,y::b,z::c,h1,h2=>by
  simp only[Op.bytesLess,fQ,jB,jN,kC] at h1 h2 ⊢
  rcases h1 with h1|⟨rfl,h1⟩<;>rcases h2 with h2|⟨rfl,h2⟩
  ·exact .inl (UInt8.lt_trans h1 h2)
  ·exact .inl h1
  ·exact .inl h2
  ·exact .inr ⟨rfl,zCe a b c h1 h2⟩
theorem zCc:∀a b:List UInt8,Op.bytesLess a b=true∨a=b∨Op.bytesLess b a=true
 |[],[]=> .inr (.inl rfl)
 |[],_::_=> .inl rfl
 |_::_,[]=> .inr (.inr rfl)
 |x::a,y::b=>by
  simp only[Op.bytesLess,fQ,jB,jN,kC,g9]
  rcases zCc a b with h|h|h
  ·rcases Nat.lt_trichotomy x.toNat y.toNat with g|g|g
   ·exact .inl (.inl (UInt8.lt_iff_toNat_lt.2 g))
   ·have g:=UInt8.toNat_inj.1 g;exact .inl (.inr ⟨g,h⟩)
   ·exact .inr (.inr (.inl (UInt8.lt_iff_toNat_lt.2 g)))
  ·rcases Nat.lt_trichotomy x.toNat y.toNat with g|g|g
   ·exact .inl (.inl (UInt8.lt_iff_toNat_lt.2 g))
   ·have g:=UInt8.toNat_inj.1 g;exact .inr (.inl ⟨g,h⟩)
   ·exact .inr (.inr (.inl (UInt8.lt_iff_toNat_lt.2 g)))
  ·rcases Nat.lt_trichotomy x.toNat y.toNat with g|g|g
   ·exact .inl (.inl (UInt8.lt_iff_toNat_lt.2 g))
   ·have g:=UInt8.toNat_inj.1 g;exact .inr (.inr (.inr ⟨g.symm,h⟩))
   ·exact .inr (.inr (.inl (UInt8.lt_iff_toNat_lt.2 g)))
theorem qMu(a:ByteArray):blt a a=false:=qYj _
theorem qRm{a b c:ByteArray}(h1:blt a b=true)(h2:blt b c=true):blt a c=true:=zCe _ _ _ h1 h2
theorem qVx(a b:ByteArray):blt a b=true∨a=b∨blt b a=true:=by
 rcases zCc a.toList b.toList with h|h|h
 ·exact .inl h
 ·exact .inr (.inl (zLr h))
 ·exact .inr (.inr h)
theorem zGg{a b:ByteArray}(h:blt a b=true):blt b a=false:=by
 cases h2:blt b a with
 |false=>rfl
 |true=>have:=qRm h h2;rw[qMu] at this;cases this
theorem zMf{a b:ByteArray}(h:blt a b=true):a≠b:=by rintro rfl;rw[qMu] at h;cases h
def Asc(L:List File):Prop:=L.Pairwise fun f g=>blt f.1 g.1=true
def fget:List File→ByteArray→Option ByteArray
 |[],_=>none
 |f::L,p=>if f.1=p then some f.2 else fget L p
def fput:List File→ByteArray→ByteArray→List File
 |[],p,b=>[(p,b)]
 |f::L,p,b=>if blt p f.1=true then(p,b)::f::L else if f.1=p then(p,b)::L else f::fput L p b
def fdel(L:List File)(p:ByteArray):List File:=L.filter fun f=>decide (f.1≠p)
theorem qQe{L:List File}{p:ByteArray}(h:∀f∈L,blt p f.1=true):fget L p=none:=by
 induction L with
 |nil=>rfl
 |cons f L ih=>
  have h1:=h f (jJ ..)
  simp only[fget]
  rw[if_neg (fun e=>by rw[e,qMu] at h1;cases h1)]
  exact ih fun g hg=>h g (jL _ hg)
theorem zQn{L:List File}{p b:ByteArray}(h:fget L p=some b):(p,b)∈L:=by
 induction L with
 |nil=>simp[fget] at h
 |cons f L ih=>
  simp only[fget] at h
  split at h
  ·rename_i e;simp only[jK] at h;subst h;subst e;exact jJ ..
  ·exact jL _ (ih h)
theorem zAh{L:List File}(ha:Asc L){f:File}(h:f∈L):fget L f.1=some f.2:=by
 induction L with
 |nil=>cases h
 |cons g L ih=>
  have h2:=kD.1 ha
  rcases jM.1 h with rfl|h
  ·simp[fget]
  ·simp only[fget]
   rw[if_neg (zMf (h2.1 f h)),ih h2.2 h]
theorem Asc.ext:∀{L K:List File},Asc L→Asc K→(∀p,fget L p=fget K p)→L=K
 |[],[],_,_,_=>rfl
 |[],f::K,_,_,h=>by have:=h f.1;simp[fget] at this
 |f::L,[],_,_,h=>by have:=h f.1;simp[fget] at this
 |f::L,g::K,hL,hK,h=>by
  have hL':=kD.1 hL
  have hK':=kD.1 hK
  have e:f.1=g.1:=by
   rcases qVx f.1 g.1 with hl|hl|hl
   ·have h1:=h f.1
    rw[qQe (L:=g::K) (fun x hx=>by
     rcases jM.1 hx with rfl|hx
     ·exact hl
     ·exact qRm hl (hK'.1 x hx))] at h1
    simp[fget] at h1
   ·exact hl
   ·have h1:=h g.1
    rw[qQe (L:=f::L) (fun x hx=>by
     rcases jM.1 hx with rfl|hx
     ·exact hl
     ·exact qRm hl (hL'.1 x hx))] at h1
    simp[fget] at h1
  have e2:f.2=g.2:=by have:=h f.1;rw[e] at this;simpa[fget,e] using this
  have e3:f=g:=Prod.ext e e2
  subst e3
  congr 1
  refine Asc.ext hL'.2 hK'.2 fun p=> ?_
  by_cases hp:f.1=p
  ·subst hp
   rw[qQe hL'.1,qQe hK'.1]
  ·have:=h p
   simpa[fget,hp] using this
theorem qYi{L:List File}{p b:ByteArray}{f:File}(h:f∈fput L p b):f=(p,b)∨f∈L:=by
 induction L with
 |nil=>simp[fput] at h;exact .inl h
 |cons g L ih=>
  simp only[fput] at h
  split at h
  ·rcases jM.1 h with h|h
   ·exact .inl h
   ·exact .inr h
  ·split at h
   ·rcases jM.1 h with h|h
    ·exact .inl h
    ·exact .inr (jL _ h)
   ·rcases jM.1 h with h|h
    ·exact .inr (h▸jJ ..)
    ·rcases ih h with h|h
     ·exact .inl h
     ·exact .inr (jL _ h)
theorem Asc.put{L:List File}(h:Asc L)(p b:ByteArray):Asc (fput L p b):=by
 induction L with
 |nil=>exact List.pairwise_singleton _ _
 |cons g L ih=>
  have h':=kD.1 h
  simp only[fput]
  split
  ·rename_i h1
   refine kD.2 ⟨fun x hx=> ?_,h⟩
   rcases jM.1 hx with rfl|hx
   ·exact h1
   ·exact qRm h1 (h'.1 x hx)
  ·rename_i h1
   split
   ·rename_i h2
    exact kD.2 ⟨fun x hx=>by have:=h'.1 x hx;rw[h2] at this;exact this,h'.2⟩
   ·rename_i h2
    refine kD.2 ⟨fun x hx=> ?_,ih h'.2⟩
    rcases qYi hx with rfl|hx
    ·rcases qVx g.1 p with h3|h3|h3
     ·exact h3
     ·exact absurd h3 h2
     ·exact absurd h3 h1
    ·exact h'.1 x hx
theorem Asc.del{L:List File}(h:Asc L)(p:ByteArray):Asc (fdel L p):=List.Pairwise.filter _ h
theorem qRs(L:List File)(p b:ByteArray):(fput L p b).length≤L.length+1:=by
 induction L with
 |nil=>simp[fput]
 |cons g L ih=>
  simp only[fput]
  split
  ·simp
  ·split
   ·simp
   ·simp only[jD];omega
def zSh(f:File):Prop:=qJi f.1.data.toList=true∧f.2.size≤16384
def WF(L:List File):Prop:=L.length≤64∧Asc L∧∀f∈L,zSh f
theorem WF.put{L:List File}(h:WF L){p b:ByteArray}(hp:qJi p.data.toList=true)(hb:b.size≤16384)(hl:(fput L p b).length≤64):WF (fput L p b):=
 ⟨hl,h.2.1.put p b,fun f hf=>by
  rcases qYi hf with rfl|hf
  ·exact⟨hp,hb⟩
  ·exact h.2.2 f hf⟩
theorem WF.del{L:List File}(h:WF L)(p:ByteArray):WF (fdel L p):=
 ⟨fL (List.length_filter_le _ _) h.1,h.2.1.del p,fun f hf=>h.2.2 f ((gM.1 hf).1)⟩
def zIg(q:Option ByteArray)(p:ByteArray):Bool:=match q with
 |some x=>blt p x
 |none=>false
def qVn:Option ByteArray→List File→Int
 |_,[]=>0
 |q,f::L=>
  if qJi f.1.data.toList=false then 6
  else if q=some f.1 then 10
  else if zIg q f.1=true then 6
  else if 16384<f.2.size then 2
  else qVn (some f.1) L
def qPt(L:List File):Int:=if 64<L.length then 2 else qVn none L
theorem zGn:∀{L:List File} {q:Option ByteArray},qVn q L=0↔Asc L∧(∀f∈L,zSh f)∧∀x,q=some x→∀f∈L,blt x f.1=true
 |[],q=>by simp[qVn,Asc]
 |f::L,q=>by
  have ih:=zGn (L:=L) (q:=some f.1)
  simp only[qVn]
  by_cases h1:qJi f.1.data.toList=false
  ·rw[if_pos h1]
   refine⟨fun h=>by omega,fun h=> ?_⟩
   have:=(h.2.1 f (jJ ..)).1;rw[h1] at this;cases this
  rw[if_neg h1]
  have h1:qJi f.1.data.toList=true:=by simpa using h1
  by_cases h2:q=some f.1
  ·rw[if_pos h2]
   refine⟨fun h=>by omega,fun h=> ?_⟩
   have:=h.2.2 _ h2 f (jJ ..);rw[qMu] at this;cases this
  rw[if_neg h2]
  by_cases h3:zIg q f.1=true
  ·rw[if_pos h3]
   refine⟨fun h=>by omega,fun h=> ?_⟩
   cases q with
   |none=>cases h3
   |some x=>have:=h.2.2 x rfl f (jJ ..);rw[show zIg (some x) f.1=blt f.1 x from rfl,zGg this] at h3;cases h3
  rw[if_neg h3]
  by_cases h4:16384<f.2.size
  ·rw[if_pos h4]
   refine⟨fun h=>by omega,fun h=> ?_⟩
   have:=(h.2.1 f (jJ ..)).2;omega
  rw[if_neg h4,ih]
  have hq:∀x,q=some x→blt x f.1=true:=fun x hx=>by
   subst hx
   rcases qVx x f.1 with g|g|g
   ·exact g
   ·exact absurd (by rw[g]) h2
   ·exact absurd g h3
  constructor
  ·rintro⟨a1,a2,a3⟩
   refine⟨kD.2 ⟨a3 f.1 rfl,a1⟩,fun g hg=> ?_,fun x hx g hg=> ?_⟩
   ·rcases jM.1 hg with rfl|hg
    ·exact⟨h1,by omega⟩
    ·exact a2 g hg
   ·rcases jM.1 hg with rfl|hg
    ·exact hq x hx
    ·exact qRm (hq x hx) (a3 f.1 rfl g hg)
  ·rintro⟨a1,a2,a3⟩
   have a1:=kD.1 a1
   exact⟨a1.2,fun g hg=>a2 g (jL _ hg),fun x hx=>by cases hx;exact a1.1⟩
theorem qWh{L:List File}:qPt L=0↔WF L:=by
 unfold qPt WF
 by_cases h:64<L.length
 ·rw[if_pos h];exact⟨fun h=>by omega,fun g=>by omega⟩
 ·rw[if_neg h,zGn]
  exact⟨fun g=>⟨by omega,g.1,g.2.1⟩,fun g=>⟨g.2.1,g.2.2,fun x hx=>by cases hx⟩⟩
def resK(c:Int):Unit⊕Int:=if c=0 then .inl () else .inr c
def qAt(L:List File)(i:Nat):Option ByteArray:=if i=0 then none else(L[i-1]?).map (·.1)
theorem zCq{L:List File}{f:Int→Option (Int⊕(Unit⊕Int))}
  (step:∀i:Nat,∀h:i<L.length,f (i:Int)=if qJi L[i].1.data.toList=false then some (.inr (.inr 6)) else if qAt L i=some L[i].1 then some (.inr (.inr 10)) else if zIg (qAt L i) L[i].1=true then some (.inr (.inr 6)) else if 16384<L[i].2.size then some (.inr (.inr 2)) else some (.inl ((i:Int)+1)))
  (stop:f (L.length:Int)=some (.inr (.inl ()))):∀(d i M:Nat),i+d=L.length→d<M→qAs f M (i:Int)=some (resK (qVn (qAt L i) (L.drop i)))
 |_,_,0,_,h=>by omega
 |0,i,M+1,hd,_=>by
  have:i=L.length:=by omega
  subst this
  simp[qAs,stop,qVn,resK]
 |d+1,i,M+1,hd,hM=>by
  have hi:i<L.length:=by omega
  have ih:=zCq step stop d (i+1) M (by omega) (by omega)
  have e1:(i:Int)+1=((i+1:Nat):Int):=by omega
  have e2:qAt L (i+1)=some L[i].1:=by simp[qAt,hi]
  simp only[qAs,step i hi]
  rw[jR hi]
  simp only[qVn]
  by_cases h1:qJi L[i].1.data.toList=false
  ·rw[if_pos h1,if_pos h1];rfl
  rw[if_neg h1,if_neg h1]
  by_cases h2:qAt L i=some L[i].1
  ·rw[if_pos h2,if_pos h2];rfl
  rw[if_neg h2,if_neg h2]
  by_cases h3:zIg (qAt L i) L[i].1=true
  ·rw[if_pos h3,if_pos h3];rfl
  rw[if_neg h3,if_neg h3]
  by_cases h4:16384<L[i].2.size
  ·rw[if_pos h4,if_pos h4];rfl
  rw[if_neg h4,if_neg h4,e1]
  simp only[jA]
  rw[ih,e2]
theorem eqB(x y:ByteArray):(x.toList==y.toList)=decide (x=y):=qFj x y
theorem zQj{N:Nat}{L:List File}{P:ByteArray→Option Bool}{f:Int→Option (Int⊕(Unit⊕Int))}(hP:∀g∈L,P g.1=some (qJi g.1.data.toList))
  (hf:∀s1,f s1=if(decide (s1<(List.length L:Int)))=true then((idx L s1).bind fun x1=>(P x1.1).bind fun y1=>if(!y1)=true then(some (.inr (.inr (6)))) else((if(decide (s1>0))=true then((idx L (IntKind.wrap .i64 (s1-1))).bind fun x2=>some (x1.1.toList==x2.1.toList)) else(some false):Option (Bool)).bind fun o2=>if o2=true then(some (.inr (.inr (10)))) else((if(decide (s1>0))=true then((idx L (IntKind.wrap .i64 (s1-1))).bind fun x3=>some (Op.bytesLess x1.1.toList x3.1.toList)) else(some false):Option (Bool)).bind fun o3=>if o3=true then(some (.inr (.inr (6)))) else(if(decide ((ByteArray.size x1.2:Int)>16384))=true then(some (.inr (.inr (2)))) else(some (.inl (IntKind.wrap .i64 (s1+1)))))))) else(some (.inr (.inl ()))))
  (hN:100<N):(if(decide ((List.length L:Int)>64))=true then(some 2) else((qAs f N 0).bind fun out1=>(match out1 with| .inl _=>some 0| .inr z=>some z)):Option Int)=some (qPt L):=by
 unfold qPt
 by_cases h:64<L.length
 ·rw[if_pos h,if_pos (by simp only[jB];omega)]
 ·rw[if_neg h,if_neg (by simp only[jB];omega)]
  have key:=zCq (L:=L) (f:=f) (fun i hi=>by
   rw[hf,if_pos (by simp only[jB];omega),qCg hi]
   simp only[jA,hP _ (jP hi)]
   by_cases h1:qJi L[i].1.data.toList=false
   ·rw[if_pos (by rw[h1];rfl),if_pos h1]
   have h1':qJi L[i].1.data.toList=true:=by simpa using h1
   rw[if_neg (by rw[h1'];simp),if_neg h1]
   by_cases h0:0<i
   ·have hi1:i-1<L.length:=by omega
    have ew:IntKind.wrap .i64 ((i:Int)-1)=((i-1:Nat):Int):=by rw[wi64 (by omega) (by omega)];omega
    have eq:qAt L i=some (L[i-1]).1:=by simp[qAt,hi1];omega
    rw[ew,qCg hi1,eq]
    have ed:decide ((i:Int)>0)=true:=by simp only[jB];omega
    simp only[jA,eqB,ed,jI,jB,jK]
    by_cases h2:L[i].1=(L[i-1]).1
    ·rw[if_pos h2,if_pos h2.symm]
    rw[if_neg h2,if_neg (show ¬(L[i-1]).1=L[i].1 from fun e=>h2 e.symm)]
    have el:zIg (some (L[i-1]).1) L[i].1=Op.bytesLess L[i].1.toList (L[i-1]).1.toList:=rfl
    rw[el]
    by_cases h3:Op.bytesLess L[i].1.toList (L[i-1]).1.toList=true
    ·rw[if_pos h3,if_pos h3]
    rw[if_neg h3,if_neg h3]
    by_cases h4:16384<L[i].2.size
    ·rw[if_pos (by omega),if_pos h4]
    ·rw[if_neg (by omega),if_neg h4,wi64 (by omega) (by omega)]
   ·have h0:i=0:=by omega
    subst h0
    have ed:decide (((0:Nat):Int)>0)=false:=by decide
    have eq:qAt L 0=none:=rfl
    have el:zIg none (L[0]).1=false:=rfl
    simp only[ed,jC,jH,jA,eq,jB,reduceCtorEq,el]
    by_cases h4:16384<L[0].2.size
    ·rw[if_pos (by omega),if_pos h4]
    ·rw[if_neg (by omega),if_neg h4,wi64 (by omega) (by omega)]) (by rw[hf,if_neg (by simp)]) L.length 0 N (by omega) (by omega)
  rw[show((0:Nat):Int)=0 from rfl] at key
  rw[key,kA]
  have eq:qAt L 0=none:=rfl
  rw[eq]
  simp only[jA,resK]
  by_cases hc:qVn none L=0
  ·rw[if_pos hc,hc]
  ·rw[if_neg hc]
theorem qVd{N:Nat}{L:List File}(hN:100<N):qIk N L=some (qPt L):=
 zQj (f:=qKf N L) (P:=qDr N) (fun _ _=>qPl hN) (fun _=>rfl) hN
end
section
open Go Go.Dc Go.Proofs
def zGx:ByteArray:=⟨#[]⟩
def findR(o:Option ByteArray):ByteArray×Bool:=match o with
 |some b=>(b,true)
 |none=>(zGx,false)
def qRj(L:List File)(p:ByteArray):ByteArray×Bool:=if qPt L=0 then findR (fget L p) else(zGx,false)
theorem qXk{N:Nat}{L:List File}{p:ByteArray}(hl:L.length<1000000):∀(d i M:Nat),i+d=L.length→d<M→qAs (qGv N L p) M (i:Int)=some (match fget (L.drop i) p with|some b=> .inr (b,true)|none=> .inl ())
 |_,_,0,_,h=>by omega
 |0,i,M+1,hd,_=>by
  simp only[qAs,qGv]
  rw[if_neg (by simp only[jB];omega),jQ (by omega)]
  rfl
 |d+1,i,M+1,hd,hM=>by
  have hi:i<L.length:=by omega
  simp only[qAs,qGv]
  rw[if_pos (by simp only[jB];omega),qCg hi,jR hi]
  simp only[jA,eqB,jB,fget]
  by_cases he:(L[i]).1=p
  ·rw[if_pos he,if_pos he];rfl
  ·rw[if_neg he,if_neg he,wi64 (by omega) (by omega)]
   have e1:(i:Int)+1=((i+1:Nat):Int):=by omega
   simp only[jA]
   rw[e1,qXk hl d (i+1) M (by omega) (by omega)]
theorem qWt{N:Nat}{L:List File}(p:ByteArray)(hN:100<N):qHg N L p=some (qRj L p):=by
 simp only[qHg,qVd hN,jA]
 unfold qRj
 by_cases hc:qPt L=0
 ·rw[if_neg (by simp[hc]),if_pos hc]
  have hw:=(qWh.1 hc).1
  have:=qXk (N:=N) (L:=L) (p:=p) (by omega) L.length 0 N (by omega) (by omega)
  rw[show((0:Nat):Int)=0 from rfl,kA] at this
  rw[this]
  cases fget L p<;>rfl
 ·rw[if_pos (by simpa using hc),if_neg hc];rfl
def qOs(s:ByteArray):Bool:=qJi s.data.toList&&decide (4<s.size)&&decide (s.extract (s.size-4) s.size=(⟨#[46,115,114,99]⟩:ByteArray))
theorem zBf{N:Nat}{s:ByteArray}(hN:100<N):qHz N s=some (qOs s):=by
 simp only[qHz,qPl hN,jA]
 unfold qOs
 cases hb:qJi s.data.toList with
 |false=>simp
 |true=>
  have h80:s.size≤80:=by
   have:s.data.toList.length≤80:=(gC hb).1
   have e:=qDk s
   omega
  rw[if_pos rfl]
  by_cases h4:4<s.size
  ·rw[if_pos (by simp only[jB];omega),show IntKind.wrap .i64 ((s.size:Int)-4)=((s.size-4:Nat):Int) by rw[wi64 (by omega) (by omega)];omega,qTn (by omega) (by omega) (by omega)]
   simp only[jA,jS,eqB,kG h4,gW]
  ·rw[if_neg (by simp only[jB];omega),jY h4];rfl
section
variable {κ ν:Type} [DecidableEq κ]
theorem zBj:∀(l:List (κ×ν)) (k:κ) (v:ν) (c:κ),mget (qRz l k v) c=if c=k then some v else mget l c
 |[],k,v,c=>by simp[qRz,mget]
 |p::l,k,v,c=>by
  simp only[qRz]
  by_cases h:k=p.1
  ·rw[if_pos h]
   simp only[mget]
   by_cases h2:c=k
   ·rw[if_pos h2,if_pos h2]
   ·rw[if_neg h2,if_neg h2,if_neg (by rw[←h];exact h2)]
  ·rw[if_neg h]
   simp only[mget]
   rw[zBj l k v c]
   by_cases h2:c=p.1
   ·rw[if_pos h2,if_neg (fun e=>h (by rw[←e,h2])),if_pos h2]
   ·rw[if_neg h2,if_neg h2]
theorem zLn[KOrd κ]{l:List (κ×ν)}(hn:(l.map (·.1)).Nodup)(k:κ)(v:ν)(c:κ):mget (mset l k v) c=if c=k then some v else mget l c:=by
 rw[←zAi (qRh (.refl l) hn k v) (qNy hn k v) c,zBj]
theorem zHy[KOrd κ]{l:List (κ×ν)}(hn:(l.map (·.1)).Nodup)(k:κ)(v:ν):((mset l k v).map (·.1)).Nodup:=
 ((qRh (.refl l) hn k v).map _).nodup_iff.1 (qNy hn k v)
end
end
section
open Go Go.Dc
instance decMemB(s:ByteArray)(l:List ByteArray):Decidable (s∈l):=@List.instDecidableMemOfLawfulBEq ByteArray instBEqOfDecidableEq inferInstance s l
abbrev Ex:=Int×Int×Int×ByteArray×List Int
abbrev Dl:=Int×ByteArray×List ByteArray×List Ex
abbrev Sr:=ByteArray×List ByteArray×List Dl
abbrev Flt:=Int×Int
abbrev Ps:=Nat×List Ex
abbrev PM(α:Type):=Flt⊕(Ps×α)
def tkAt(ts:List Tok)(i:Nat):Tok:=ts.getD i (5,⟨#[]⟩,0,0)
def qIf{α:Type}(t:Tok)(e:Int):Flt⊕α:= .inl (t.2.2.2,e)
def qCo{α β:Type}(x:Flt⊕α)(f:α→Flt⊕β):Flt⊕β:=
 match x with
 | .inl z=> .inl z
 | .inr a=>f a
def isC(ts:List Tok)(k:Int)(s:ByteArray)(i:Nat):Bool:=(tkAt ts i).1==k&&decide ((tkAt ts i).2.1=s)
def qHr(ts:List Tok)(s:ByteArray)(i:Nat):Flt⊕Nat:=if isC ts 4 s i then .inr (i+1) else qIf (tkAt ts i) 9
def zFd(ts:List Tok)(s:ByteArray)(i:Nat):Flt⊕Nat:=if isC ts 1 s i then .inr (i+1) else qIf (tkAt ts i) 9
def qRn(ts:List Tok)(k:Int)(i:Nat):Flt⊕(Nat×Tok):=if(tkAt ts i).1=k then .inr (i+1,tkAt ts i) else qIf (tkAt ts i) 9
def zCr:ByteArray:=⟨#[112,97,99,107,97,103,101]⟩
def qYv:ByteArray:=⟨#[105,109,112,111,114,116]⟩
def zUh:ByteArray:=⟨#[102,117,110,99]⟩
def zTl:ByteArray:=⟨#[116,101,115,116]⟩
def sGen:ByteArray:=⟨#[103,101,110]⟩
def sIf:ByteArray:=⟨#[105,102]⟩
def zUj:ByteArray:=⟨#[116,104,101,110]⟩
def zUk:ByteArray:=⟨#[101,108,115,101]⟩
def zBc:ByteArray:=⟨#[114,101,97,100]⟩
def zAx:ByteArray:=⟨#[115,105,122,101]⟩
def sHas:ByteArray:=⟨#[104,97,115]⟩
def sEnv:ByteArray:=⟨#[101,110,118]⟩
def zDk:ByteArray:=⟨#[102,108,105,112]⟩
def qUw:ByteArray:=⟨#[40]⟩
def qLe:ByteArray:=⟨#[41]⟩
def qQx:ByteArray:=⟨#[44]⟩
def zAa:ByteArray:=⟨#[59]⟩
def sEq:ByteArray:=⟨#[61]⟩
def zSp:ByteArray:=⟨#[45]⟩
def wordsR:List ByteArray:=[zCr,qYv,zUh,zTl,sGen,sIf,zUj,zUk,zBc,zAx,sHas,sEnv,zDk]
def resC(s:ByteArray):Bool:=decide (s∈wordsR)
def qRo(ts:List Tok)(i:Nat):Flt⊕(Nat×Tok):=qCo (qRn ts 1 i) fun p=>if resC p.2.2.1 then qIf p.2 9 else .inr p
def qVc(ts:List Tok)(i:Nat):Flt⊕(Nat×Tok):=qCo (qRn ts 3 i) fun p=>if qJi p.2.2.1.data.toList then .inr p else qIf p.2 9
def qZd(ts:List Tok)(i:Nat):Flt⊕(Nat×Tok):=qCo (qRn ts 3 i) fun p=>if qNl p.2.2.1 then .inr p else qIf p.2 9
def qPe(t:Tok)(x:Ex)(p:Ps):PM Nat:=if p.2.length=256 then qIf t 2 else .inr ((p.1,p.2++[x]),p.2.length)
def opsC:List (Int×ByteArray):=[(1,⟨#[43]⟩),(2,⟨#[45]⟩),(3,⟨#[42]⟩),(4,⟨#[47]⟩),(5,⟨#[37]⟩),(6,⟨#[60]⟩),(7,⟨#[61,61]⟩)]
def levP(op:Int):Nat:=if op=6∨op=7 then 1 else if op=1∨op=2 then 2 else 3
def isOp(ts:List Tok)(level:Nat)(i:Nat)(o:Int×ByteArray):Bool:=isC ts 4 o.2 i&&decide (levP o.1=level)
def opC(ts:List Tok)(level:Nat)(i:Nat):Int:=
 match opsC.find? (isOp ts level i) with
 |some o=>o.1
 |none=>0
section
variable (ts:List Tok) (params:List ByteArray) (E:Ps→PM Nat)
def zEv:Nat→List Int→Ps→PM (List Int)
 |0,_,p=>qIf (tkAt ts p.1) 9
 |n+1,l,p=>qCo (E p) fun q=>
  if isC ts 4 qQx q.1.1 then zEv n (l++[(q.2:Int)]) (q.1.1+1,q.1.2)
  else qCo (qHr ts qLe q.1.1) fun i=> .inr ((i,q.1.2),l++[(q.2:Int)])
def qUn(p:Ps):PM (List Int):=
 qCo (qHr ts qUw p.1) fun i=>if isC ts 4 qLe i then .inr ((i+1,p.2),[]) else zEv ts E (ts.length+1) [] (i,p.2)
def qQh(t:Tok)(p:Ps):PM Nat:=
 qCo (qHr ts qUw p.1) fun i=>
 qCo (if t.2.1=zBc then
   qCo (qVc ts i) fun a=>qCo (qHr ts qQx a.1) fun i=>qCo (E (i,p.2)) fun q=> .inr (q.1,((6,0,0,a.2.2.1,[(q.2:Int)]):Ex))
  else if t.2.1=zAx then qCo (qVc ts i) fun a=> .inr ((a.1,p.2),((7,0,0,a.2.2.1,[]):Ex))
  else if t.2.1=sHas then qCo (qVc ts i) fun a=> .inr ((a.1,p.2),((8,0,0,a.2.2.1,[]):Ex))
  else if t.2.1=sEnv then qCo (qZd ts i) fun a=> .inr ((a.1,p.2),((9,0,0,a.2.2.1,[]):Ex))
  else qCo (qRn ts 2 i) fun a=>if a.2.2.2.1≥64 then qIf a.2 9 else .inr ((a.1,p.2),((10,a.2.2.2.1,0,⟨#[]⟩,[]):Ex))) fun q=>
 qCo (qHr ts qLe q.1.1) fun i=>qPe t q.2 (i,q.1.2)
def qSb(p:Ps):PM Nat:=
 let t:=tkAt ts p.1
 if t.1=2 then qPe t (1,t.2.2.1,0,⟨#[]⟩,[]) (p.1+1,p.2)
 else if isC ts 4 zSp p.1 then qCo (qRn ts 2 (p.1+1)) fun a=>qPe t (1,IntKind.wrap .i64 (0-a.2.2.2.1),0,⟨#[]⟩,[]) (a.1,p.2)
 else if isC ts 4 qUw p.1 then qCo (E (p.1+1,p.2)) fun q=>qCo (qHr ts qLe q.1.1) fun i=> .inr ((i,q.1.2),q.2)
 else if t.1≠1 then qIf t 9
 else if t.2.1∈[zBc,zAx,sHas,sEnv,zDk] then qQh ts E t (p.1+1,p.2)
 else if resC t.2.1 then qIf t 9
 else if isC ts 4 qUw (p.1+1) then qCo (qUn ts E (p.1+1,p.2)) fun q=>qPe t (3,0,0,t.2.1,q.2) q.1
 else match params.findIdx? (fun x=>decide (x=t.2.1)) with
  |some i=>qPe t (2,(i:Int),0,⟨#[]⟩,[]) (p.1+1,p.2)
  |none=>qIf t 9
def qUc(level:Nat)(S:Ps→PM Nat):Nat→Nat→Ps→PM Nat
 |0,_,p=>qIf (tkAt ts p.1) 9
 |n+1,x,p=>
  if opC ts level p.1=0 then .inr (p,x)
  else qCo (S (p.1+1,p.2)) fun q=>qCo (qPe (tkAt ts p.1) (4,0,opC ts level p.1,⟨#[]⟩,[(x:Int),(q.2:Int)]) q.1) fun r=>
   if level=1 then .inr r else qUc level S n r.2 r.1
def qSp(level:Nat)(S:Ps→PM Nat)(p:Ps):PM Nat:=qCo (S p) fun q=>qUc ts level S (ts.length+1) q.2 q.1
def zSa:Ps→PM Nat:=qSp ts 3 (qSb ts params E)
def sumC:Ps→PM Nat:=qSp ts 2 (zSa ts params E)
def zDv:Ps→PM Nat:=qSp ts 1 (sumC ts params E)
end
def qLm(ts:List Tok)(params:List ByteArray):Nat→Ps→PM Nat
 |0,p=>qIf (tkAt ts p.1) 2
 |k+1,p=>
  if isC ts 1 sIf p.1 then
   qCo (qLm ts params k (p.1+1,p.2)) fun a=>qCo (zFd ts zUj a.1.1) fun i=>
   qCo (qLm ts params k (i,a.1.2)) fun b=>qCo (zFd ts zUk b.1.1) fun j=>
   qCo (qLm ts params k (j,b.1.2)) fun c=>qPe (tkAt ts p.1) (5,0,0,⟨#[]⟩,[(a.2:Int),(b.2:Int),(c.2:Int)]) c.1
  else zDv ts params (qLm ts params k) p
def qUe(ts:List Tok):Nat→List ByteArray→Nat→Flt⊕(Nat×List ByteArray)
 |0,_,i=>qIf (tkAt ts i) 9
 |n+1,l,i=>qCo (qRo ts i) fun a=>
  if l.length=8 then qIf a.2 2
  else if a.2.2.1∈l then qIf a.2 10
  else if isC ts 4 qQx a.1 then qUe ts n (l++[a.2.2.1]) (a.1+1)
  else qCo (qHr ts qLe a.1) fun j=> .inr (j,l++[a.2.2.1])
def qMp(ts:List Tok)(i:Nat):Flt⊕(Nat×List ByteArray):=
 qCo (qHr ts qUw i) fun j=>if isC ts 4 qLe j then .inr (j+1,[]) else qUe ts (ts.length+1) [] j
def zRx(s:ByteArray):Int:=if s=zUh then 1 else if s=zTl then 2 else if s=sGen then 3 else 0
def qVm(ts:List Tok)(before:List Dl)(i:Nat):Flt⊕(Nat×Dl):=
 let t:=tkAt ts i
 let k:=zRx t.2.1
 if t.1≠1∨k=0 then qIf t 9
 else if before.length=64 then qIf t 2
 else qCo (if k=3 then qVc ts (i+1) else qRo ts (i+1)) fun a=>
  if before.any (fun d=>d.1==k&&decide (d.2.1=a.2.2.1)) then qIf a.2 10
  else qCo (if k=1 then qMp ts a.1 else .inr (a.1,[])) fun b=>
   qCo (qHr ts sEq b.1) fun j=>qCo (qLm ts b.2 32 (j,[])) fun c=>
   qCo (qHr ts zAa c.1.1) fun m=> .inr (m,(k,a.2.2.1,b.2,c.1.2))
def qMb(ts:List Tok)(pkg:ByteArray):Nat→List ByteArray→Nat→Flt⊕(Nat×List ByteArray)
 |0,_,i=>qIf (tkAt ts i) 9
 |n+1,l,i=>
  if isC ts 1 qYv i then
   if l.length=8 then qIf (tkAt ts i) 2
   else qCo (qRo ts (i+1)) fun a=>
    if a.2.2.1=pkg∨a.2.2.1∈l then qIf a.2 10
    else qCo (qHr ts zAa a.1) fun j=>qMb ts pkg n (l++[a.2.2.1]) j
  else .inr (i,l)
def qWk(ts:List Tok):Nat→List Dl→Nat→Flt⊕List Dl
 |0,_,i=>qIf (tkAt ts i) 9
 |n+1,l,i=>if(tkAt ts i).1=5 then .inr l else qCo (qVm ts l i) fun a=>qWk ts n (l++[a.2]) a.1
def zIk(ts:List Tok):Flt⊕Sr:=
 qCo (zFd ts zCr 0) fun i=>qCo (qRo ts i) fun a=>qCo (qHr ts zAa a.1) fun j=>
 qCo (qMb ts a.2.2.1 (ts.length+1) [] j) fun b=>qCo (qWk ts (ts.length+1) [] b.1) fun l=> .inr (a.2.2.1,b.2,l)
def qVg:Sr:=(⟨#[]⟩,[],[])
def qMv(s:ByteArray):Sr×Int×Int:=
 if(qKv s).2.2≠0 then(qVg,(qKv s).2.1,(qKv s).2.2)
 else match zIk (qKv s).1 with
  | .inl z=>(qVg,z.1,z.2)
  | .inr f=>(f,0,0)
end
section
open Go Go.Dc
def OkT(ts:List Tok):Prop:=ts≠[]∧∀i,i<ts.length→((tkAt ts i).1=5↔i+1=ts.length)
theorem qBr{α β:Type}{x:Flt⊕α}{f:α→Flt⊕β}{b:β}(h:qCo x f= .inr b):∃a,x= .inr a∧f a= .inr b:=by
 cases x with
 |inl z=>cases h
 |inr a=>exact⟨a,rfl,h⟩
section
variable {ts:List Tok} {params:List ByteArray} {E S:Ps→PM Nat}
theorem OkT.next(h:OkT ts){i:Nat}(hi:i<ts.length)(hk:(tkAt ts i).1≠5):i+1<ts.length:=by
 have h3:¬i+1=ts.length:=fun e=>hk ((h.2 i hi).2 e)
 omega
theorem zCx{k:Int}{s:ByteArray}{i:Nat}(h:isC ts k s i=true):(tkAt ts i).1=k:=by
 simp only[isC,jN,kC] at h;exact h.1
theorem qHs(h:OkT ts){k:Int}{s:ByteArray}{i:Nat}(hi:i<ts.length)(hk:k≠5)(h1:isC ts k s i=true):i+1<ts.length:=h.next hi (by rw[zCx h1];exact hk)
theorem qHt(h:OkT ts){s:ByteArray}{i j:Nat}(hi:i<ts.length)(h1:qHr ts s i= .inr j):j=i+1∧j<ts.length∧isC ts 4 s i=true:=by
 unfold qHr at h1
 split at h1
 ·rename_i h2
  obtain rfl:=Sum.inr.inj h1
  exact⟨rfl,qHs h hi (by decide) h2,h2⟩
 ·cases h1
theorem zDm(h:OkT ts){s:ByteArray}{i j:Nat}(hi:i<ts.length)(h1:zFd ts s i= .inr j):j=i+1∧j<ts.length∧isC ts 1 s i=true:=by
 unfold zFd at h1
 split at h1
 ·rename_i h2
  obtain rfl:=Sum.inr.inj h1
  exact⟨rfl,qHs h hi (by decide) h2,h2⟩
 ·cases h1
theorem qSk(h:OkT ts){k:Int}(hk:k≠5){i:Nat}{a:Nat×Tok}(hi:i<ts.length)(h1:qRn ts k i= .inr a):a=(i+1,tkAt ts i)∧i+1<ts.length∧(tkAt ts i).1=k:=by
 unfold qRn at h1
 split at h1
 ·rename_i h2
  obtain rfl:=Sum.inr.inj h1
  exact⟨rfl,h.next hi (by rw[h2];exact hk),h2⟩
 ·cases h1
theorem qPf(h:OkT ts){i:Nat}{a:Nat×Tok}(hi:i<ts.length)(h1:qRo ts i= .inr a):a=(i+1,tkAt ts i)∧i+1<ts.length∧(tkAt ts i).1=1∧resC (tkAt ts i).2.1=false:=by
 obtain⟨b,hb,h2⟩:=qBr h1
 obtain⟨rfl,g1,g2⟩:=qSk h (by decide) hi hb
 split at h2
 ·cases h2
 ·rename_i g3
  obtain rfl:=Sum.inr.inj h2
  exact⟨rfl,g1,g2,by simpa using g3⟩
theorem qQa(h:OkT ts){i:Nat}{a:Nat×Tok}(hi:i<ts.length)(h1:qVc ts i= .inr a):a=(i+1,tkAt ts i)∧i+1<ts.length∧(tkAt ts i).1=3∧qJi (tkAt ts i).2.1.data.toList=true:=by
 obtain⟨b,hb,h2⟩:=qBr h1
 obtain⟨rfl,g1,g2⟩:=qSk h (by decide) hi hb
 split at h2
 ·rename_i g3
  obtain rfl:=Sum.inr.inj h2
  exact⟨rfl,g1,g2,g3⟩
 ·cases h2
theorem zGs(h:OkT ts){i:Nat}{a:Nat×Tok}(hi:i<ts.length)(h1:qZd ts i= .inr a):a=(i+1,tkAt ts i)∧i+1<ts.length∧(tkAt ts i).1=3∧qNl (tkAt ts i).2.1=true:=by
 obtain⟨b,hb,h2⟩:=qBr h1
 obtain⟨rfl,g1,g2⟩:=qSk h (by decide) hi hb
 split at h2
 ·rename_i g3
  obtain rfl:=Sum.inr.inj h2
  exact⟨rfl,g1,g2,g3⟩
 ·cases h2
theorem zJk{t:Tok}{x:Ex}{p q:Ps}{i:Nat}(h:qPe t x p= .inr (q,i)):q=(p.1,p.2++[x])∧i=p.2.length∧p.2.length≠256:=by
 unfold qPe at h
 split at h
 ·cases h
 ·rename_i h1
  obtain⟨rfl,rfl⟩:=Prod.mk.inj (Sum.inr.inj h)
  exact⟨rfl,rfl,h1⟩
def Fwd(ts:List Tok)(p q:Ps):Prop:=p.1<q.1∧q.1<ts.length∧p.2.length≤q.2.length∧q.2.length≤256
def Adv(ts:List Tok)(S:Ps→PM Nat):Prop:=∀(p q:Ps) (x:Nat),p.1<ts.length→p.2.length≤256→S p= .inr (q,x)→Fwd ts p q∧x<q.2.length
theorem qQd{t:Tok}{x:Ex}{p r q:Ps}{i:Nat}(hp:p.1<r.1)(hr:r.1<ts.length)(hl:p.2.length≤r.2.length)(h256:r.2.length≤256)(h:qPe t x r= .inr (q,i)):Fwd ts p q∧i<q.2.length:=by
 obtain⟨rfl,rfl,g⟩:=zJk h
 refine⟨⟨hp,hr,?_,?_⟩,?_⟩<;>simp only[jF,jD,jE]<;>omega
theorem qYp(h:OkT ts)(hE:Adv ts E):∀(n:Nat) (l:List Int) (p q:Ps) (x:List Int),p.1<ts.length→p.2.length≤256→zEv ts E n l p= .inr (q,x)→Fwd ts p q
 |0,_,_,_,_,_,_,h1=>by cases h1
 |n+1,l,p,q,x,hp,hb,h1=>by
  obtain⟨a,ha,h2⟩:=qBr (show qCo (E p) _=_ from h1)
  obtain⟨⟨f1,f2,f3,f4⟩,f5⟩:=hE p a.1 a.2 hp hb ha
  split at h2
  ·rename_i hc
   have g:=qHs h f2 (by decide) hc
   obtain⟨k1,k2,k3,k4⟩:=qYp h hE n _ (a.1.1+1,a.1.2) q x g f4 h2
   exact⟨by simp only at k1;omega,k2,by simp only at k3;omega,k4⟩
  ·obtain⟨j,hj,h3⟩:=qBr h2
   obtain⟨rfl,g1,-⟩:=qHt h f2 hj
   obtain⟨rfl,-⟩:=Prod.mk.inj (Sum.inr.inj h3)
   exact⟨by simp only;omega,g1,f3,f4⟩
theorem zAy(h:OkT ts)(hE:Adv ts E){p q:Ps}{x:List Int}(hp:p.1<ts.length)(hb:p.2.length≤256)(h1:qUn ts E p= .inr (q,x)):Fwd ts p q:=by
 obtain⟨i,hi,h2⟩:=qBr h1
 obtain⟨rfl,g1,-⟩:=qHt h hp hi
 split at h2
 ·rename_i hc
  obtain⟨rfl,-⟩:=Prod.mk.inj (Sum.inr.inj h2)
  exact⟨by simp only;omega,qHs h g1 (by decide) hc,jU _,hb⟩
 ·obtain⟨k1,k2,k3,k4⟩:=qYp h hE _ _ (p.1+1,p.2) q x g1 hb h2
  exact⟨by simp only at k1;omega,k2,k3,k4⟩
theorem zFk(h:OkT ts)(hE:Adv ts E){t:Tok}{p q:Ps}{x:Nat}(hp:p.1<ts.length)(hb:p.2.length≤256)(h1:qQh ts E t p= .inr (q,x)):Fwd ts p q∧x<q.2.length:=by
 obtain⟨i,hi,h2⟩:=qBr h1
 obtain⟨rfl,g1,-⟩:=qHt h hp hi
 obtain⟨a,ha,h3⟩:=qBr h2
 obtain⟨j,hj,h4⟩:=qBr h3
 have key:Fwd ts (p.1+1,p.2) a.1:=by
  split at ha
  ·obtain⟨b,hb1,hb2⟩:=qBr ha
   obtain⟨rfl,k1,-⟩:=qQa h g1 hb1
   obtain⟨c,hc1,hc2⟩:=qBr hb2
   obtain⟨rfl,k2,-⟩:=qHt h k1 hc1
   obtain⟨d,hd1,hd2⟩:=qBr hc2
   obtain⟨⟨f1,f2,f3,f4⟩,-⟩:=hE (p.1+1+1+1,p.2) d.1 d.2 k2 hb hd1
   obtain rfl:=Sum.inr.inj hd2
   exact⟨by simp only at f1 ⊢;omega,f2,f3,f4⟩
  ·split at ha
   ·obtain⟨b,hb1,hb2⟩:=qBr ha
    obtain⟨rfl,k1,-⟩:=qQa h g1 hb1
    obtain rfl:=Sum.inr.inj hb2
    exact⟨by simp only;omega,k1,jU _,hb⟩
   ·split at ha
    ·obtain⟨b,hb1,hb2⟩:=qBr ha
     obtain⟨rfl,k1,-⟩:=qQa h g1 hb1
     obtain rfl:=Sum.inr.inj hb2
     exact⟨by simp only;omega,k1,jU _,hb⟩
    ·split at ha
     ·obtain⟨b,hb1,hb2⟩:=qBr ha
      obtain⟨rfl,k1,-⟩:=zGs h g1 hb1
      obtain rfl:=Sum.inr.inj hb2
      exact⟨by simp only;omega,k1,jU _,hb⟩
     ·obtain⟨b,hb1,hb2⟩:=qBr ha
      obtain⟨rfl,k1,-⟩:=qSk h (by decide) g1 hb1
      split at hb2
      ·cases hb2
      ·obtain rfl:=Sum.inr.inj hb2
       exact⟨by simp only;omega,k1,jU _,hb⟩
 obtain⟨f1,f2,f3,f4⟩:=key
 obtain⟨rfl,g2,-⟩:=qHt h f2 hj
 exact qQd (r:=(a.1.1+1,a.1.2)) (by simp only at f1 ⊢;omega) g2 f3 f4 h4
theorem zAv(h:OkT ts)(hE:Adv ts E):Adv ts (qSb ts params E):=by
 intro p q x hp hb h1
 unfold qSb at h1
 dsimp only at h1
 split at h1
 ·rename_i hk
  exact qQd (r:=(p.1+1,p.2)) (by simp only;omega) (h.next hp (by rw[hk];decide)) (jU _) hb h1
 split at h1
 ·rename_i hc
  have g:=qHs h hp (by decide) hc
  obtain⟨a,ha,h2⟩:=qBr h1
  obtain⟨rfl,g1,-⟩:=qSk h (by decide) g ha
  exact qQd (r:=(p.1+1+1,p.2)) (by simp only;omega) g1 (jU _) hb h2
 split at h1
 ·rename_i hc
  have g:=qHs h hp (by decide) hc
  obtain⟨a,ha,h2⟩:=qBr h1
  obtain⟨⟨f1,f2,f3,f4⟩,f5⟩:=hE (p.1+1,p.2) a.1 a.2 g hb ha
  obtain⟨j,hj,h3⟩:=qBr h2
  obtain⟨rfl,g1,-⟩:=qHt h f2 hj
  obtain⟨rfl,rfl⟩:=Prod.mk.inj (Sum.inr.inj h3)
  exact⟨⟨by simp only at f1 ⊢;omega,g1,f3,f4⟩,f5⟩
 split at h1
 ·cases h1
 rename_i hk
 have g:=h.next hp (show(tkAt ts p.1).1≠5 by simp only[ne_eq,Decidable.not_not] at hk;rw[hk];decide)
 split at h1
 ·obtain⟨⟨f1,f2,f3,f4⟩,f5⟩:=zFk h hE (p:=(p.1+1,p.2)) g hb h1
  exact⟨⟨by simp only at f1;omega,f2,f3,f4⟩,f5⟩
 split at h1
 ·cases h1
 split at h1
 ·obtain⟨a,ha,h2⟩:=qBr h1
  obtain⟨f1,f2,f3,f4⟩:=zAy h hE (p:=(p.1+1,p.2)) g hb ha
  exact qQd (by simp only at f1;omega) f2 f3 f4 h2
 split at h1
 ·exact qQd (r:=(p.1+1,p.2)) (by simp only;omega) g (jU _) hb h1
 ·cases h1
theorem zFb(h:OkT ts){level:Nat}(hS:Adv ts S):∀(n x:Nat) (p q:Ps) (y:Nat),p.1<ts.length→p.2.length≤256→x<p.2.length→qUc ts level S n x p= .inr (q,y)→p.1≤q.1∧q.1<ts.length∧p.2.length≤q.2.length∧q.2.length≤256∧y<q.2.length
 |0,_,_,_,_,_,_,_,h1=>by cases h1
 |n+1,x,p,q,y,hp,hb,hx,h1=>by
  unfold qUc at h1
  split at h1
  ·obtain⟨rfl,rfl⟩:=Prod.mk.inj (Sum.inr.inj h1)
   exact⟨jU _,hp,jU _,hb,hx⟩
  ·rename_i hop
   have hk:(tkAt ts p.1).1≠5:=by
    intro hk
    apply hop
    unfold opC
    have:opsC.find? (isOp ts level p.1)=none:=by
     rw[List.find?_eq_none]
     intro o _ ho
     simp only[isOp,jN] at ho
     have:=zCx ho.1
     omega
    rw[this]
   have g:=h.next hp hk
   obtain⟨a,ha,h2⟩:=qBr h1
   obtain⟨⟨f1,f2,f3,f4⟩,f5⟩:=hS (p.1+1,p.2) a.1 a.2 g hb ha
   obtain⟨r,hr,h3⟩:=qBr h2
   obtain⟨⟨k1,k2,k3,k4⟩,k5⟩:=qQd (ts:=ts) (p:=p) (by simp only at f1;omega) f2 f3 f4 hr
   split at h3
   ·obtain⟨rfl,rfl⟩:=Prod.mk.inj (Sum.inr.inj h3)
    exact⟨by omega,k2,k3,k4,k5⟩
   ·obtain⟨j1,j2,j3,j4,j5⟩:=zFb h hS n _ _ q y k2 k4 k5 h3
    exact⟨by omega,j2,by omega,j4,j5⟩
theorem qQw(h:OkT ts){level:Nat}(hS:Adv ts S):Adv ts (qSp ts level S):=by
 intro p q x hp hb h1
 obtain⟨a,ha,h2⟩:=qBr h1
 obtain⟨⟨f1,f2,f3,f4⟩,f5⟩:=hS p a.1 a.2 hp hb ha
 obtain⟨j1,j2,j3,j4,j5⟩:=zFb h hS _ _ _ q x f2 f4 f5 h2
 exact⟨⟨by omega,j2,by omega,j4⟩,j5⟩
theorem qOn(h:OkT ts):∀k,Adv ts (qLm ts params k)
 |0=>fun _ _ _ _ _ h1=>by cases h1
 |k+1=>by
  intro p q x hp hb h1
  unfold qLm at h1
  split at h1
  ·rename_i hc
   have g:=qHs h hp (by decide) hc
   obtain⟨a,ha,h2⟩:=qBr h1
   obtain⟨⟨a1,a2,a3,a4⟩,-⟩:=qOn h k (p.1+1,p.2) a.1 a.2 g hb ha
   obtain⟨i,hi,h3⟩:=qBr h2
   obtain⟨rfl,g1,-⟩:=zDm h a2 hi
   obtain⟨b,hb1,h4⟩:=qBr h3
   obtain⟨⟨b1,b2,b3,b4⟩,-⟩:=qOn h k (a.1.1+1,a.1.2) b.1 b.2 g1 a4 hb1
   obtain⟨j,hj,h5⟩:=qBr h4
   obtain⟨rfl,g2,-⟩:=zDm h b2 hj
   obtain⟨c,hc1,h6⟩:=qBr h5
   obtain⟨⟨c1,c2,c3,c4⟩,-⟩:=qOn h k (b.1.1+1,b.1.2) c.1 c.2 g2 b4 hc1
   simp only at a1 a3 b1 b3 c1 c3
   exact qQd (by omega) c2 (by omega) c4 h6
  ·exact qQw h (qQw h (qQw h (zAv h (qOn h k)))) p q x hp hb h1
end
end
section
open Go Go.Dc
theorem idx_tk{ts:List Tok}{i:Nat}(hi:i<ts.length):idx ts (i:Int)=some (tkAt ts i):=by
 rw[qCg hi]
 simp[tkAt,kX,hi]
theorem qVb{i:Nat}(h:i<1000000):IntKind.wrap .i64 ((i:Int)+1)=((i+1:Nat):Int):=by rw[wi64 (by omega) (by omega)];omega
end
section
open Go Go.Dc
end
section
open Go Go.Dc
end
section
open Go Go.Dc
end
section
open Go Go.Dc
section
variable {N:Nat} {ts:List Tok} {pr:List ByteArray} {b:List Ex}
theorem qVf(h:OkT ts):∀(n:Nat) (l:List ByteArray) (i:Nat) (a:Nat×List ByteArray),i<ts.length→l.length≤8→qUe ts n l i= .inr a→i<a.1∧a.1<ts.length∧a.2.length≤8
 |0,_,_,_,_,_,h1=>by cases h1
 |n+1,l,i,a,hi,hl,h1=>by
  obtain⟨x,hx,h2⟩:=qBr (show qCo (qRo ts i) _=_ from h1)
  obtain⟨rfl,g1,-⟩:=qPf h hi hx
  split at h2
  ·cases h2
  rename_i k1
  split at h2
  ·cases h2
  split at h2
  ·rename_i k3
   have g2:=qHs h g1 (by decide) k3
   obtain⟨j1,j2,j3⟩:=qVf h n _ _ a g2 (by simp only[jF,jD,jE];omega) h2
   exact⟨by omega,j2,j3⟩
  ·obtain⟨j,hj,h3⟩:=qBr h2
   obtain⟨rfl,g2,-⟩:=qHt h g1 hj
   obtain rfl:=Sum.inr.inj h3
   exact⟨by simp only;omega,g2,by simp only[jF,jD,jE];omega⟩
theorem qTz(h:OkT ts){i:Nat}{a:Nat×List ByteArray}(hi:i<ts.length)(h1:qMp ts i= .inr a):i<a.1∧a.1<ts.length∧a.2.length≤8:=by
 obtain⟨j,hj,h2⟩:=qBr h1
 obtain⟨rfl,g,-⟩:=qHt h hi hj
 split at h2
 ·rename_i k
  obtain rfl:=Sum.inr.inj h2
  exact⟨by simp only;omega,qHs h g (by decide) k,by simp⟩
 ·obtain⟨j1,j2,j3⟩:=qVf h _ _ _ a g (by simp) h2
  exact⟨by omega,j2,j3⟩
theorem qYr(h:OkT ts){before:List Dl}{i:Nat}{a:Nat×Dl}(hi:i<ts.length)(h1:qVm ts before i= .inr a):i<a.1∧a.1<ts.length∧before.length≠64:=by
 unfold qVm at h1
 dsimp only at h1
 split at h1
 ·cases h1
 rename_i k1
 split at h1
 ·cases h1
 rename_i k2
 have g:=h.next hi (show(tkAt ts i).1≠5 by intro e;apply k1;left;rw[e];decide)
 obtain⟨x,hx,h2⟩:=qBr h1
 have gx:x.1=i+1+1∧x.1<ts.length:=by
  split at hx
  ·obtain⟨rfl,g1,-⟩:=qQa h g hx;exact⟨rfl,g1⟩
  ·obtain⟨rfl,g1,-⟩:=qPf h g hx;exact⟨rfl,g1⟩
 split at h2
 ·cases h2
 obtain⟨y,hy,h3⟩:=qBr h2
 have gy:x.1≤y.1∧y.1<ts.length:=by
  split at hy
  ·obtain⟨g1,g2,-⟩:=qTz h gx.2 hy;exact⟨by omega,g2⟩
  ·obtain rfl:=Sum.inr.inj hy;exact⟨jU _,gx.2⟩
 obtain⟨j,hj,h4⟩:=qBr h3
 obtain⟨rfl,g3,-⟩:=qHt h gy.2 hj
 obtain⟨c,hc,h5⟩:=qBr h4
 obtain⟨⟨f1,f2,f3,f4⟩,-⟩:=qOn h 32 (y.1+1,[]) c.1 c.2 g3 (by simp) hc
 obtain⟨m,hm,h6⟩:=qBr h5
 obtain⟨rfl,g4,-⟩:=qHt h f2 hm
 obtain rfl:=Sum.inr.inj h6
 exact⟨by simp only at f1 ⊢;omega,g4,k2⟩
end
end
section
open Go Go.Dc
section
variable {N:Nat} {ts:List Tok} {pr:List ByteArray} {b:List Ex}
theorem qUi(h:OkT ts){pkg:ByteArray}:∀(n:Nat) (l:List ByteArray) (i:Nat) (a:Nat×List ByteArray),i<ts.length→l.length≤8→qMb ts pkg n l i= .inr a→i≤a.1∧a.1<ts.length∧a.2.length≤8
 |0,_,_,_,_,_,h1=>by cases h1
 |n+1,l,i,a,hi,hl,h1=>by
  unfold qMb at h1
  split at h1
  ·rename_i k
   have g:=qHs h hi (by decide) k
   split at h1
   ·cases h1
   rename_i k2
   obtain⟨x,hx,h2⟩:=qBr h1
   obtain⟨rfl,g1,-⟩:=qPf h g hx
   split at h2
   ·cases h2
   obtain⟨j,hj,h3⟩:=qBr h2
   obtain⟨rfl,g2,-⟩:=qHt h g1 hj
   obtain⟨j1,j2,j3⟩:=qUi h n _ _ a g2 (by simp only[jF,jD,jE];omega) h3
   exact⟨by omega,j2,j3⟩
  ·obtain rfl:=Sum.inr.inj h1
   exact⟨jU _,hi,hl⟩
end
theorem zJz{s:ByteArray}:∀(l:List Tok) (e:Int),0≤e→zUf s e l→∀i,i<l.length→((tkAt l i).1=5↔i+1=l.length)∧((tkAt l i).2.1.size:Int)≤s.size∧0≤(tkAt l i).2.2.2
 |[],_,_,_,i,hi=>by simp at hi
 |t::r,e,he,h,i,hi=>by
  obtain⟨h1,h2,h3,h4,h5⟩:=h
  have hend:0≤endT t:=by unfold endT;split<;>omega
  cases i with
  |zero=>
   refine⟨?_,?_,?_⟩
   ·show t.1=5↔0+1=r.length+1
    rw[h3,←kT];omega
   ·show((t.2.1.size:Nat):Int)≤s.size
    omega
   ·show 0≤t.2.2.2
    omega
  |succ i=>
   have:=zJz r _ hend h5 i (by simpa using hi)
   have e:tkAt (t::r) (i+1)=tkAt r i:=by simp[tkAt]
   rw[e,jD]
   exact⟨⟨fun h=>by have:=this.1.1 h;omega,fun h=>this.1.2 (by omega)⟩,this.2⟩
theorem qWq{s:ByteArray}(h:(qKv s).2.2=0):OkT (qKv s).1∧(qKv s).1.length≤16385∧∀j,(tkAt (qKv s).1 j).2.1.size<100000:=by
 unfold qKv at h ⊢
 split at h
 ·simp at h
 rename_i hs
 rw[if_neg hs]
 cases hG:tokG (s.data.toList.length+1) s 0 with
 |inl x=>
  obtain⟨_,_,h3⟩:=zDl _ 0 x (by omega) (by omega) hG
  rw[hG] at h
  exact absurd h h3
 |inr r=>
  obtain⟨g1,g2,g3⟩:=qWp _ 0 0 r (by omega) (by omega) (by omega) hG
  simp only[zHw,kF]
  have hc:=zJz r 0 (by omega) g1
  refine⟨⟨g2,fun i hi=>(hc i hi).1⟩,by omega,fun j=> ?_⟩
  rcases dK j r.length with hj|hj
  ·have:=(hc j hj).2.1
   have hs2:=qDk s
   omega
  ·have e:tkAt r j=(5,⟨#[]⟩,0,0):=by simp[tkAt,kX,List.getElem?_eq_none hj]
   rw[e];decide
end
section
open Go Go.Dc
abbrev RT:=List Tok×Int×Int×Int×List ByteArray×List Ex×List Int
def gR(ts:List Tok)(pr:List ByteArray)(p:Ps):RT:=(ts,(p.1:Int),0,0,pr,p.2,[])
def bR(ts:List Tok)(z:Flt)(i:Nat)(pr:List ByteArray)(b:List Ex):RT:=(ts,(i:Int),z.1,z.2,pr,b,[])
section
variable {N:Nat} {ts:List Tok} {pr:List ByteArray} {b:List Ex} {i:Nat} {z:Flt}
theorem rnow{st:Int×Int×List ByteArray×List Ex×List Int}(hi:i<ts.length):qAk N (ts,(i:Int),st.1,st.2.1,st.2.2.1,st.2.2.2.1,st.2.2.2.2)=some ((ts,(i:Int),st.1,st.2.1,st.2.2.1,st.2.2.2.1,st.2.2.2.2),tkAt ts i):=by
 simp only[qAk,idx_tk hi,jA]
theorem qKw(p:Ps)(hi:p.1<ts.length):qAk N (gR ts pr p)=some (gR ts pr p,tkAt ts p.1):=rnow (st:=(0,0,pr,p.2,[])) hi
theorem qQi(hi:i<ts.length):qAk N (bR ts z i pr b)=some (bR ts z i pr b,tkAt ts i):=rnow (st:=(z.1,z.2,pr,b,[])) hi
theorem qMs(p:Ps)(hi:p.1<ts.length)(hl:ts.length<1000000)(s:ByteArray):qBq N (gR ts pr p) s=some (if isC ts 1 s p.1 then(gR ts pr (p.1+1,p.2),true) else(gR ts pr p,false)):=by
 have h0:qAk N (ts,(p.1:Int),0,0,pr,p.2,[])=some ((ts,(p.1:Int),0,0,pr,p.2,[]),tkAt ts p.1):=qKw p hi
 simp only[qBq,gR,h0,jA,qFj,isC,gU,jI]
 by_cases h1:(tkAt ts p.1).1=1<;>by_cases h2:(tkAt ts p.1).2.1=s<;>simp[h1,h2,qVb (show p.1<1000000 by omega)]
theorem zHq(hz:z.2≠0)(s:ByteArray):qBq N (bR ts z i pr b) s=some (bR ts z i pr b,false):=by
 simp[qBq,bR,hz]
theorem qLt(p:Ps)(hi:p.1<ts.length)(hl:ts.length<1000000)(s:ByteArray):qBp N (gR ts pr p) s=some (if isC ts 4 s p.1 then(gR ts pr (p.1+1,p.2),true) else(gR ts pr p,false)):=by
 have h0:qAk N (ts,(p.1:Int),0,0,pr,p.2,[])=some ((ts,(p.1:Int),0,0,pr,p.2,[]),tkAt ts p.1):=qKw p hi
 simp only[qBp,gR,h0,jA,qFj,isC,gU,jI]
 by_cases h1:(tkAt ts p.1).1=4<;>by_cases h2:(tkAt ts p.1).2.1=s<;>simp[h1,h2,qVb (show p.1<1000000 by omega)]
theorem zDr(hz:z.2≠0)(s:ByteArray):qBp N (bR ts z i pr b) s=some (bR ts z i pr b,false):=by
 simp[qBp,bR,hz]
theorem qLi(p:Ps)(a e:Int):qAl N (gR ts pr p) a e=some (bR ts (a,e) p.1 pr p.2):=by
 simp[qAl,gR,bR]
theorem qOa(hz:z.2≠0)(a e:Int):qAl N (bR ts z i pr b) a e=some (bR ts z i pr b):=by
 simp[qAl,bR,hz]
theorem qNv(p:Ps)(hi:p.1<ts.length)(hl:ts.length<1000000)(s:ByteArray):qAi N (gR ts pr p) s=some (match qHr ts s p.1 with| .inl z=>bR ts z p.1 pr p.2| .inr j=>gR ts pr (j,p.2)):=by
 have h1:=qLt (N:=N) (pr:=pr) p hi hl s
 have h2:=qKw (N:=N) (pr:=pr) p hi
 have h3:=qLi (N:=N) (ts:=ts) (pr:=pr) p (tkAt ts p.1).2.2.2 9
 simp only[gR] at h1 h2 h3
 simp only[qAi,gR,h1,jA,qHr]
 rcases qEr (isC ts 4 s p.1) with h|h
 ·simp only[h,jI,kM,jC,jH]
 ·simp only[h,jI,kJ,jC,jH,h2,jA,h3,qIf]
theorem qNj(hz:z.2≠0)(hi:i<ts.length)(s:ByteArray):qAi N (bR ts z i pr b) s=some (bR ts z i pr b):=by
 have h1:=zDr (N:=N) (ts:=ts) (i:=i) (pr:=pr) (b:=b) hz s
 have h2:=qQi (N:=N) (ts:=ts) (i:=i) (pr:=pr) (b:=b) (z:=z) hi
 have h3:=qOa (N:=N) (ts:=ts) (i:=i) (pr:=pr) (b:=b) hz (tkAt ts i).2.2.2 9
 simp only[bR] at h1 h2 h3
 simp only[qAi,bR,h1,jA,kJ,jI,h2,h3]
theorem zGu{s:ByteArray}:∀(d k M:Nat),k+d=wordsR.length→d<M→qAs (qEc N s) M (k:Int)=some (if s∈wordsR.drop k then .inr true else .inl ())
 |d,k,0,_,h=>by omega
 |0,k,M+1,h,_=>by
  have:wordsR.drop k=[]:=jQ (by omega)
  simp only[qAs,qEc,this]
  rw[if_neg (by simp only[jB];have:wordsR.length=13:=rfl;simp only[jD,jE];omega)]
  rfl
 |d+1,k,M+1,h,hM=>by
  have hk:k<wordsR.length:=by omega
  have ih:=zGu (s:=s) d (k+1) M (by omega) (by omega)
  simp only[qAs]
  have e:qEc N s (k:Int)=some (if s=wordsR[k] then .inr (.inr true) else .inl (((k+1:Nat):Int))):=by
   have h13:wordsR.length=13:=rfl
   have hx:idx ([(⟨#[112,97,99,107,97,103,101]⟩:ByteArray),(⟨#[105,109,112,111,114,116]⟩:ByteArray),(⟨#[102,117,110,99]⟩:ByteArray),(⟨#[116,101,115,116]⟩:ByteArray),(⟨#[103,101,110]⟩:ByteArray),(⟨#[105,102]⟩:ByteArray),(⟨#[116,104,101,110]⟩:ByteArray),(⟨#[101,108,115,101]⟩:ByteArray),(⟨#[114,101,97,100]⟩:ByteArray),(⟨#[115,105,122,101]⟩:ByteArray),(⟨#[104,97,115]⟩:ByteArray),(⟨#[101,110,118]⟩:ByteArray),(⟨#[102,108,105,112]⟩:ByteArray)]) (k:Int)=some wordsR[k]:=qCg (l:=wordsR) hk
   simp only[qEc]
   rw[if_pos (by simp only[jB,jD,jE];omega),hx]
   simp only[jA,qFj,jB,qVb (show k<1000000 by omega)]
   split<;>rfl
  rw[e,jR hk]
  simp only[jA,jM]
  by_cases hs:s=wordsR[k]
  ·rw[if_pos hs,if_pos (.inl hs)]
  ·rw[if_neg hs]
   simp only[ih]
   by_cases h2:s∈wordsR.drop (k+1)
   ·rw[if_pos h2,if_pos (.inr h2)]
   ·rw[if_neg h2,if_neg (fun h=>h.elim hs h2)]
theorem rres(hN:100<N)(s:ByteArray):qGf N s=some (resC s):=by
 have h:=zGu (N:=N) (s:=s) 13 0 N rfl (by omega)
 simp only[kA] at h
 simp only[qGf]
 rw[show(0:Int)=((0:Nat):Int) from rfl,h]
 simp only[resC,jA]
 by_cases h2:s∈wordsR
 ·rw[if_pos h2,kG h2]
 ·rw[if_neg h2,jY h2]
theorem qXc(p:Ps)(hi:p.1<ts.length)(hl:ts.length<1000000)(hN:100<N):qBm N (gR ts pr p)=some (match qRo ts p.1 with| .inl z=>(bR ts z p.1 pr p.2,⟨#[]⟩)| .inr a=>(gR ts pr (a.1,p.2),a.2.2.1)):=by
 have h2:=qKw (N:=N) (pr:=pr) p hi
 have h3:=qLi (N:=N) (ts:=ts) (pr:=pr) p (tkAt ts p.1).2.2.2 9
 simp only[gR] at h2 h3
 simp only[qBm,gR,h2,jA,rres hN,qRo,qRn,gK,jC,jH]
 by_cases k1:(tkAt ts p.1).1=1
 ·have k1':((tkAt ts p.1).1 !=1)=false:=by simp[k1]
  simp only[k1',jC,jH,jA,if_pos k1,qCo]
  rcases qEr (resC (tkAt ts p.1).2.1) with k2|k2
  ·simp only[k2,jI,h3,jA,qIf]
  ·simp only[k2,jC,jH,qVb (show p.1<1000000 by omega)]
 ·have k1':((tkAt ts p.1).1 !=1)=true:=by simp[k1]
  simp only[k1',jI,jA,if_neg k1,qCo,h3,qIf]
theorem zDa(hz:z.2≠0)(hi:i<ts.length):qBm N (bR ts z i pr b)=some (bR ts z i pr b,⟨#[]⟩):=by
 have h2:=qQi (N:=N) (ts:=ts) (i:=i) (pr:=pr) (b:=b) (z:=z) hi
 have h3:=qOa (N:=N) (ts:=ts) (i:=i) (pr:=pr) (b:=b) hz (tkAt ts i).2.2.2 9
 have hz':(z.2 !=0)=true:=by simpa using hz
 simp only[bR] at h2 h3
 simp only[qBm,bR,h2,jA,hz',jI,h3]
theorem qZn(p:Ps)(hi:p.1<ts.length)(hl:ts.length<1000000):qCt N (gR ts pr p)=some (match qRn ts 2 p.1 with| .inl z=>(bR ts z p.1 pr p.2,0)| .inr a=>(gR ts pr (a.1,p.2),a.2.2.2.1)):=by
 have h2:=qKw (N:=N) (pr:=pr) p hi
 have h3:=qLi (N:=N) (ts:=ts) (pr:=pr) p (tkAt ts p.1).2.2.2 9
 simp only[gR] at h2 h3
 simp only[qCt,gR,h2,jA,qRn,gK,jC,jH]
 by_cases k1:(tkAt ts p.1).1=2
 ·have k1':((tkAt ts p.1).1 !=2)=false:=by simp[k1]
  simp only[k1',jC,jH,if_pos k1,qVb (show p.1<1000000 by omega)]
 ·have k1':((tkAt ts p.1).1 !=2)=true:=by simp[k1]
  simp only[k1',jI,if_neg k1,h3,jA,qIf]
theorem zOb(hz:z.2≠0)(hi:i<ts.length):qCt N (bR ts z i pr b)=some (bR ts z i pr b,0):=by
 have h2:=qQi (N:=N) (ts:=ts) (i:=i) (pr:=pr) (b:=b) (z:=z) hi
 have h3:=qOa (N:=N) (ts:=ts) (i:=i) (pr:=pr) (b:=b) hz (tkAt ts i).2.2.2 9
 have hz':(z.2 !=0)=true:=by simpa using hz
 simp only[bR] at h2 h3
 simp only[qCt,bR,h2,jA,hz',jI,h3]
theorem zPf(t:Tok)(x:Ex)(p:Ps)(hb:p.2.length≤256):∃v,qAp N (gR ts pr p) x t.2.2.2=some (match qPe t x p with| .inl z=>(bR ts z p.1 pr p.2,v)| .inr q=>(gR ts pr q.1,(q.2:Int))):=by
 refine⟨IntKind.wrap .i64 ((p.2.length:Int)-1),?_⟩
 have h3:=qLi (N:=N) (ts:=ts) (pr:=pr) p t.2.2.2 2
 simp only[gR] at h3
 simp only[qAp,gR,gU,jI,jA,qPe]
 by_cases k1:p.2.length=256
 ·have k1':((p.2.length:Int)==256)=true:=by simp;omega
  simp only[k1',jI,h3,jA,bR]
  simp[k1,qIf]
 ·have k1':((p.2.length:Int)==256)=false:=by simp;omega
  have hw:IntKind.wrap .i64 (((p.2.length+1:Nat):Int)-1)=(p.2.length:Int):=by rw[wi64 (by omega) (by omega)];omega
  simp only[k1',jC,jH,jA,if_neg k1,gU,jI]
  rw[qCr (by simp only[jD,jE];omega) (by omega)]
  simp only[jA,jF,jD,jE,kK,hw]
theorem zPa(hz:z.2≠0)(x:Ex)(a:Int):∃v,qAp N (bR ts z i pr b) x a=some (bR ts z i pr b,v):=by
 refine⟨IntKind.wrap .i64 ((b.length:Int)-1),?_⟩
 have hz':(z.2==0)=false:=by simpa using hz
 simp only[qAp,bR,hz',jC,jH,jA]
end
end
section
open Go Go.Dc
section
variable {N:Nat} {ts:List Tok} {pr:List ByteArray} {b:List Ex} {i:Nat} {z:Flt}
theorem zJd(p:Ps)(hi:p.1<ts.length)(hl:ts.length<1000000)(hN:100<N)(pth:Bool):qBw N (gR ts pr p) pth=some (match(if pth=true then qVc ts p.1 else qZd ts p.1) with| .inl z=>(bR ts z p.1 pr p.2,⟨#[]⟩)| .inr a=>(gR ts pr (a.1,p.2),a.2.2.1)):=by
 have h2:=qKw (N:=N) (pr:=pr) p hi
 have h3:=qLi (N:=N) (ts:=ts) (pr:=pr) p (tkAt ts p.1).2.2.2 9
 simp only[gR] at h2 h3
 simp only[qBw,gR,h2,jA,qPl hN,qPk hN,qVc,qZd,qRn,gK,jC,jH]
 by_cases k1:(tkAt ts p.1).1=3
 ·have k1':((tkAt ts p.1).1 !=3)=false:=by simp[k1]
  simp only[k1',jC,jH,jA,if_pos k1,qCo]
  cases pth with
  |true=>
   simp only[jI,kM,jC,jH]
   rcases qEr (qJi (tkAt ts p.1).2.1.data.toList) with k2|k2
   ·simp only[k2,kM,jC,jH,jA,jI,qVb (show p.1<1000000 by omega)]
   ·simp only[k2,kJ,jC,jH,jA,jI,h3,qIf]
  |false=>
   simp only[jI,kJ,jC,jH]
   rcases qEr (qNl (tkAt ts p.1).2.1) with k2|k2
   ·simp only[k2,kM,jC,jH,jA,jI,qVb (show p.1<1000000 by omega)]
   ·simp only[k2,kJ,jC,jH,jA,jI,h3,qIf]
 ·have k1':((tkAt ts p.1).1 !=3)=true:=by simp[k1]
  simp only[k1',jI,jA,if_neg k1,qCo,h3,qIf]
  cases pth<;>rfl
theorem zIz(hz:z.2≠0)(hi:i<ts.length)(pth:Bool):qBw N (bR ts z i pr b) pth=some (bR ts z i pr b,⟨#[]⟩):=by
 have h2:=qQi (N:=N) (ts:=ts) (i:=i) (pr:=pr) (b:=b) (z:=z) hi
 have h3:=qOa (N:=N) (ts:=ts) (i:=i) (pr:=pr) (b:=b) hz (tkAt ts i).2.2.2 9
 have hz':(z.2 !=0)=true:=by simpa using hz
 simp only[bR] at h2 h3
 simp only[qBw,bR,h2,jA,hz',jI,h3]
theorem zPg{i:Nat}(h:i<2000000):IntKind.wrap .i64 ((i:Int)+1)=((i+1:Nat):Int):=by rw[wi64 (by omega) (by omega)];omega
theorem zGy{s:ByteArray}{l:List ByteArray}(hl:l.length<2000000):∀(d i M:Nat),i+d=l.length→d<M→
  qAs (qHq N l s) M (i:Int)=some (if s∈l.drop i then .inr true else .inl ())
 |d,i,0,_,h=>by omega
 |0,i,M+1,h,_=>by
  have:l.drop i=[]:=jQ (by omega)
  simp only[qAs,qHq,this]
  rw[if_neg (by simp only[jB];omega)]
  rfl
 |d+1,i,M+1,h,hM=>by
  have hi:i<l.length:=by omega
  have ih:=zGy (s:=s) hl d (i+1) M (by omega) (by omega)
  simp only[qAs,qHq]
  rw[if_pos (by simp only[jB];omega),qCg hi,jR hi]
  simp only[jA,qFj,jB,jM]
  by_cases hs:l[i]=s
  ·rw[if_pos hs,if_pos (.inl hs.symm)];rfl
  ·rw[if_neg hs]
   simp only[jA,zPg (show i<2000000 by omega),ih]
   by_cases h2:s∈l.drop (i+1)
   ·rw[if_pos h2,if_pos (.inr h2)]
   ·rw[if_neg h2,if_neg (fun h=>h.elim (fun e=>hs e.symm) h2)]
theorem rhas{s:ByteArray}{l:List ByteArray}(hl:l.length<2000000)(hN:l.length<N):qDf N l s=some (decide (s∈l)):=by
 have h:=zGy (N:=N) (s:=s) hl l.length 0 N (by omega) hN
 simp only[kA] at h
 simp only[qDf]
 rw[show(0:Int)=((0:Nat):Int) from rfl,h]
 simp only[jA]
 by_cases h2:s∈l
 ·rw[if_pos h2,kG h2]
 ·rw[if_neg h2,jY h2]
theorem andS(a b:Bool):(if a=true then some b else some false)=some (a&&b):=by cases a<;>rfl
theorem zAl{s:ByteArray}{k:Int}{f:Sr}(hl:f.2.2.length<2000000):∀(d i M:Nat),i+d=f.2.2.length→d<M→
  qAs (qGd N f k s) M (i:Int)=some (if(f.2.2.drop i).any (fun d=>d.1==k&&decide (d.2.1=s))=true then .inr true else .inl ())
 |d,i,0,_,h=>by omega
 |0,i,M+1,h,_=>by
  have:f.2.2.drop i=[]:=jQ (by omega)
  simp only[qAs,qGd,this]
  rw[if_neg (by simp only[jB];omega)]
  rfl
 |d+1,i,M+1,h,hM=>by
  have hi:i<f.2.2.length:=by omega
  have ih:=zAl (s:=s) (k:=k) hl d (i+1) M (by omega) (by omega)
  simp only[qAs,qGd]
  rw[if_pos (by simp only[jB];omega),qCg hi,jR hi,dN]
  simp only[jA,qFj,zPg (show i<2000000 by omega),andS]
  rcases qEr (f.2.2[i].1==k&&decide (f.2.2[i].2.1=s)) with h1|h1
  ·simp only[h1,jI,jA,Bool.true_or]
  ·simp only[h1,jC,jH,jA,ih,gS]
theorem zSl{s:ByteArray}{k:Int}{f:Sr}(hl:f.2.2.length<2000000)(hN:f.2.2.length<N):qEn N f k s=some (f.2.2.any fun d=>d.1==k&&decide (d.2.1=s)):=by
 have h:=zAl (N:=N) (s:=s) (k:=k) hl f.2.2.length 0 N (by omega) hN
 simp only[kA] at h
 simp only[qEn]
 rw[show(0:Int)=((0:Nat):Int) from rfl,h]
 simp only[jA]
 rcases qEr (f.2.2.any fun d=>d.1==k&&decide (d.2.1=s)) with h2|h2
 ·rw[if_pos h2,h2]
 ·rw[if_neg (by rw[h2];decide),h2]
theorem op_3:opC ts 3 i=if isC ts 4 ⟨#[42]⟩ i=true then 3 else if isC ts 4 ⟨#[47]⟩ i=true then 4 else if isC ts 4 ⟨#[37]⟩ i=true then 5 else 0:=by
 unfold opC opsC
 simp only[List.find?,isOp,levP]
 rcases qEr (isC ts 4 ⟨#[42]⟩ i) with h1|h1<;>rcases qEr (isC ts 4 ⟨#[47]⟩ i) with h2|h2<;>rcases qEr (isC ts 4 ⟨#[37]⟩ i) with h3|h3<;>simp[h1,h2,h3]
theorem op_2:opC ts 2 i=if isC ts 4 ⟨#[43]⟩ i=true then 1 else if isC ts 4 ⟨#[45]⟩ i=true then 2 else 0:=by
 unfold opC opsC
 simp only[List.find?,isOp,levP]
 rcases qEr (isC ts 4 ⟨#[43]⟩ i) with h1|h1<;>rcases qEr (isC ts 4 ⟨#[45]⟩ i) with h2|h2<;>simp[h1,h2]
theorem op_1:opC ts 1 i=if isC ts 4 ⟨#[60]⟩ i=true then 6 else if isC ts 4 ⟨#[61,61]⟩ i=true then 7 else 0:=by
 unfold opC opsC
 simp only[List.find?,isOp,levP]
 rcases qEr (isC ts 4 ⟨#[60]⟩ i) with h1|h1<;>rcases qEr (isC ts 4 ⟨#[61,61]⟩ i) with h2|h2<;>simp[h1,h2]
theorem qWu{α:Type}{t:Tok}{e:Int}(he:e≠0)(h:(qIf t e:Flt⊕α)= .inl z):z.2≠0:=by
 obtain rfl:=Sum.inl.inj h;exact he
theorem qMr{s:ByteArray}(h:qHr ts s i= .inl z):z.2≠0:=by
 unfold qHr at h;split at h
 ·cases h
 ·exact qWu (by decide) h
theorem zAn{k:Int}(h:qRn ts k i= .inl z):z.2≠0:=by
 unfold qRn at h;split at h
 ·cases h
 ·exact qWu (by decide) h
theorem zHt{α β:Type}{x:Flt⊕α}{f:α→Flt⊕β}(h:qCo x f= .inl z):x= .inl z∨∃a,x= .inr a∧f a= .inl z:=by
 cases x with
 |inl y=>obtain rfl:=Sum.inl.inj h;exact .inl rfl
 |inr a=>exact .inr ⟨a,rfl,h⟩
theorem zCy(h:qRo ts i= .inl z):z.2≠0:=by
 rcases zHt h with h|⟨a,_,h⟩
 ·exact zAn h
 ·split at h
  ·exact qWu (by decide) h
  ·cases h
theorem zEg(h:qVc ts i= .inl z):z.2≠0:=by
 rcases zHt h with h|⟨a,_,h⟩
 ·exact zAn h
 ·split at h
  ·cases h
  ·exact qWu (by decide) h
theorem zRe(h:qZd ts i= .inl z):z.2≠0:=by
 rcases zHt h with h|⟨a,_,h⟩
 ·exact zAn h
 ·split at h
  ·cases h
  ·exact qWu (by decide) h
theorem zIs{t:Tok}{x:Ex}{p:Ps}(h:qPe t x p= .inl z):z.2≠0:=by
 unfold qPe at h;split at h
 ·exact qWu (by decide) h
 ·cases h
end
end
section
open Go Go.Dc
def Bad(ts:List Tok)(z:Flt)(st:RT):Prop:=z.2≠0∧∃(i:Nat) (pr:List ByteArray) (b:List Ex),i<ts.length∧st=bR ts z i pr b
def relR(ts:List Tok)(pr:List ByteArray)(r:PM Nat)(o:RT×Int):Prop:=
 match r with
 | .inl z=>Bad ts z o.1
 | .inr q=>o=(gR ts pr q.1,(q.2:Int))
section
variable {N:Nat} {ts:List Tok} {pr:List ByteArray} {E S:Ps→PM Nat} {d:Int}
variable {r1 r2 r3 r4:RT→Int→Option (RT×Int)}
theorem qOc{z:Flt}{i:Nat}{pr':List ByteArray}{b:List Ex}{v:Int}(hz:z.2≠0)(hi:i<ts.length):relR ts pr (.inl z) (bR ts z i pr' b,v):=⟨hz,i,pr',b,hi,rfl⟩
theorem qSd(t:Tok)(x:Ex)(p:Ps)(hp:p.1<ts.length)(hb:p.2.length≤256):∃o,qAp N (gR ts pr p) x t.2.2.2=some o∧relR ts pr (qPe t x p) o:=by
 obtain⟨v,h⟩:=zPf (N:=N) (ts:=ts) (pr:=pr) t x p hb
 cases hn:qPe t x p with
 |inl z=>rw[hn] at h;exact⟨_,h,qOc (zIs hn) hp⟩
 |inr q=>rw[hn] at h;exact⟨_,h,rfl⟩
theorem qUm{z:Flt}{i:Nat}{pr':List ByteArray}{b:List Ex}(hz:z.2≠0)(hi:i<ts.length)(x:Ex)(a:Int):∃o,qAp N (bR ts z i pr' b) x a=some o∧relR ts pr (.inl z) o:=by
 obtain⟨v,h⟩:=zPa (N:=N) (ts:=ts) (pr:=pr') (b:=b) (i:=i) hz x a
 exact⟨_,h,qOc hz hi⟩
theorem qYt(t:Tok)(x:Ex)(p:Ps)(hok:OkT ts)(hl:ts.length<1000000)(hp:p.1<ts.length)(hb:p.2.length≤256):∃o,
  ((qAi N (gR ts pr p) (⟨#[41]⟩:ByteArray)).bind fun y=>qAp N y x t.2.2.2)=some o∧relR ts pr (qCo (qHr ts qLe p.1) fun i=>qPe t x (i,p.2)) o:=by
 have e:=qNv (N:=N) (pr:=pr) p hp hl ⟨#[41]⟩
 simp only[e,jA,qLe]
 cases h:qHr ts ⟨#[41]⟩ p.1 with
 |inl z=>exact qUm (qMr h) hp x _
 |inr j=>
  obtain⟨rfl,g,-⟩:=qHt hok hp h
  exact qSd t x (p.1+1,p.2) g hb
theorem qPu{z:Flt}{i:Nat}{pr':List ByteArray}{b:List Ex}(hz:z.2≠0)(hi:i<ts.length)(x:Ex)(a:Int):∃o,
  ((qAi N (bR ts z i pr' b) (⟨#[41]⟩:ByteArray)).bind fun y=>qAp N y x a)=some o∧relR ts pr (.inl z) o:=by
 simp only[qNj hz hi,jA]
 exact qUm hz hi x a
variable (hEg:∀p:Ps,p.1<ts.length→p.2.length≤256→∃o,r4 (gR ts pr p) (IntKind.wrap .i64 (d+1))=some o∧relR ts pr (E p) o)
variable (hEb:∀(z:Flt) (i:Nat) (pr':List ByteArray) (b:List Ex),z.2≠0→i<ts.length→∃v,r4 (bR ts z i pr' b) (IntKind.wrap .i64 (d+1))=some (bR ts z i pr' b,v))
def zJn(ts:List Tok)(E:Ps→PM Nat)(n:Nat)(l:List Int)(p:Ps):PM (List Int):=
 if isC ts 4 qQx p.1 then zEv ts E n l (p.1+1,p.2) else qCo (qHr ts qLe p.1) fun i=> .inr ((i,p.2),l)
theorem qYg(n:Nat)(l:List Int)(p:Ps):zEv ts E (n+1) l p=qCo (E p) fun q=>zJn ts E n (l++[(q.2:Int)]) q.1:=rfl
def relL(ts:List Tok)(pr:List ByteArray)(r:PM (List Int))(o:List Int×RT):Prop:=
 match r with
 | .inl z=>Bad ts z o.2
 | .inr q=>o=(q.2,gR ts pr q.1)
theorem qZx{z:Flt}{i:Nat}{pr':List ByteArray}{b:List Ex}(hz:z.2≠0)(M:Nat)(l:List Int):qAs (qCp N r4 d) (M+1) (l,bR ts z i pr' b)=some (l,bR ts z i pr' b):=by
 have hz':(z.2==0)=false:=by simpa using hz
 simp only[qAs,qCp,bR,hz',jC,jH,jA]
include hEg hEb in
theorem zCl(hok:OkT ts)(hl:ts.length<1000000)(hA:Adv ts E):∀(n M:Nat) (l:List Int) (p:Ps),l≠[]→p.1<ts.length→p.2.length≤256→l.length≤p.1→ts.length<p.1+n→ts.length+2<p.1+M→
  ∃o,qAs (qCp N r4 d) M (l,gR ts pr p)=some o∧relL ts pr (zJn ts E n l p) o
 |0,M,l,p,_,hp,_,_,h,_=>by omega
 |n+1,0,l,p,_,hp,_,_,_,h=>by omega
 |n+1,M+1,l,p,hne,hp,hb,hll,hn,hM=>by
  have hs:=qLt (N:=N) (pr:=pr) p hp hl ⟨#[41]⟩
  have hpos:decide ((l.length:Int)>0)=true:=by
   have:=gZ.2 hne
   exact kG (by omega)
  have g0:((gR ts pr p).2.2.2.1==0)=true:=rfl
  simp only[qAs,qCp,Prod.eta,g0,jI,hs,jA]
  rcases qEr (isC ts 4 ⟨#[41]⟩ p.1) with c1|c1
  ·simp only[c1,jI,kM,jC,jH]
   refine⟨_,rfl,?_⟩
   have c2:isC ts 4 qQx p.1=false:=by
    simp only[isC,jN,jB] at c1
    simp[isC,c1.2,qQx]
   have c3:qHr ts qLe p.1= .inr (p.1+1):=by simp[qHr,qLe,c1]
   simp only[zJn,c2,jC,jH,c3,qCo]
   rfl
  ·simp only[c1,jC,jH,kJ,jI,hpos,Prod.eta,qNv p hp hl,jA]
   have hcc:isC ts 4 qQx p.1=isC ts 4 ⟨#[44]⟩ p.1:=rfl
   simp only[zJn,hcc,qHr]
   rcases qEr (isC ts 4 ⟨#[44]⟩ p.1) with c2|c2
   ·have g:=qHs hok hp (by decide) c2
    simp only[c2,jI]
    obtain⟨o,ho,hr⟩:=hEg (p.1+1,p.2) g hb
    simp only[ho,jA]
    cases hE:E (p.1+1,p.2) with
    |inl z=>
     rw[hE] at hr
     obtain⟨hz,i,pr',b,hi,ho1⟩:=hr
     rw[qCr (by simp only[jD,jE];omega) (by omega)]
     simp only[jA,ho1]
     cases M with
     |zero=>omega
     |succ M=>
      refine⟨_,qZx hz M _,?_⟩
      rw[qYg,hE]
      exact⟨hz,i,pr',b,hi,rfl⟩
    |inr q=>
     rw[hE] at hr
     obtain⟨⟨f1,f2,f3,f4⟩,f5⟩:=hA (p.1+1,p.2) q.1 q.2 g hb hE
     simp only at f1
     rw[qCr (by simp only[jD,jE];omega) (by omega)]
     have hr':o=(gR ts pr q.1,(q.2:Int)):=hr
     simp only[jA,hr']
     rw[qYg,hE]
     exact zCl hok hl hA n M (l++[(q.2:Int)]) q.1 (by simp) f2 f4 (by simp only[jF,jD,jE];omega) (by omega) (by omega)
   ·simp only[c2,jC,jH]
    have c3:isC ts 4 qLe p.1=false:=c1
    simp only[c3,jC,jH,qIf,qCo]
    obtain⟨v,hv⟩:=hEb ((tkAt ts p.1).2.2.2,9) p.1 pr p.2 (show(9:Int)≠0 by decide) hp
    simp only[hv,jA]
    rw[qCr (by simp only[jD,jE];omega) (by omega)]
    simp only[jA]
    cases M with
    |zero=>omega
    |succ M=>exact⟨_,qZx (z:=((tkAt ts p.1).2.2.2,9)) (show(9:Int)≠0 by decide) M _,show(9:Int)≠0 by decide,p.1,pr,p.2,hp,rfl⟩
include hEg hEb in
theorem rargs(hok:OkT ts)(hl:ts.length<1000000)(hN:1000002<N)(hA:Adv ts E)(p:Ps)(hp:p.1<ts.length)(hb:p.2.length≤256):
  ∃o,qAs (qCp N r4 d) N ([],gR ts pr p)=some o∧relL ts pr (if isC ts 4 qLe p.1 then .inr ((p.1+1,p.2),[]) else zEv ts E (ts.length+1) [] p) o:=by
 obtain⟨M,rfl⟩:∃M,N=M+1:=⟨N-1,by omega⟩
 have hs:=qLt (N:=M+1) (pr:=pr) p hp hl ⟨#[41]⟩
 have g0:((gR ts pr p).2.2.2.1==0)=true:=rfl
 have hnil:decide ((([]:List Int).length:Int)>0)=false:=rfl
 simp only[qAs,qCp,Prod.eta,g0,jI,hs,jA,qLe]
 rcases qEr (isC ts 4 ⟨#[41]⟩ p.1) with c1|c1
 ·simp only[c1,jI,kM,jC,jH]
  exact⟨_,rfl,rfl⟩
 ·simp only[c1,jC,jH,kJ,jI,hnil,Prod.eta,jA]
  obtain⟨o,ho,hr⟩:=hEg p hp hb
  simp only[ho,jA]
  cases hE:E p with
  |inl z=>
   rw[hE] at hr
   obtain⟨hz,i,pr',b,hi,ho1⟩:=hr
   rw[qCr (by simp) (by omega)]
   simp only[jA,ho1]
   cases M with
   |zero=>omega
   |succ M=>
    refine⟨_,qZx hz M _,?_⟩
    rw[qYg,hE]
    exact⟨hz,i,pr',b,hi,rfl⟩
  |inr q=>
   rw[hE] at hr
   obtain⟨⟨f1,f2,f3,f4⟩,f5⟩:=hA p q.1 q.2 hp hb hE
   rw[qCr (by simp) (by omega)]
   have hr':o=(gR ts pr q.1,(q.2:Int)):=hr
   simp only[jA,hr']
   rw[qYg,hE]
   exact zCl hEg hEb hok hl hA ts.length M ([]++[(q.2:Int)]) q.1 (by simp) f2 f4 (by simp only[jF,jD,jE];omega) (by omega) (by omega)
end
end
section
open Go Go.Dc
section
variable {N:Nat} {ts:List Tok} {pr:List ByteArray} {E S:Ps→PM Nat} {d:Int}
variable {r1 r2 r3 r4:RT→Int→Option (RT×Int)}
theorem zKt{y1:RT×Tok}{y31:RT×ByteArray}{p:Ps}(hpr:pr.length<1000):∀(k i M:Nat),i+k=pr.length→k<M→
  qAs (qCq N y1 y31 (gR ts pr p,false)) M (i:Int)=(match(pr.drop i).findIdx? (fun x=>decide (x=y31.2)) with
   |some j=>(qAp N (gR ts pr p) (2,((i+j:Nat):Int),0,⟨#[]⟩,[]) y1.2.2.2.2).bind fun y=>some (.inr y)
   |none=>some (.inl ()))
 |k,i,0,_,h=>by omega
 |0,i,M+1,h,_=>by
  have:pr.drop i=[]:=jQ (by omega)
  have c:decide ((i:Int)<((gR ts pr p).2.2.2.2.1.length:Int))=false:=jY (by simp only[gR];omega)
  simp only[qAs,qCq,this,List.findIdx?_nil,c,jC,jH,jA]
 |k+1,i,M+1,h,hM=>by
  have hi:i<pr.length:=by omega
  have ih:=zKt (y1:=y1) (y31:=y31) (p:=p) hpr k (i+1) M (by omega) (by omega)
  have c:decide ((i:Int)<((gR ts pr p).2.2.2.2.1.length:Int))=true:=kG (by simp only[gR];omega)
  have x:idx (gR ts pr p).2.2.2.2.1 (i:Int)=some pr[i]:=qCg hi
  have g0:((gR ts pr p).2.2.2.1==0)=true:=rfl
  rw[jR hi,List.findIdx?_cons]
  simp only[qAs,qCq,g0,Prod.eta,c,x,jI,jA,qFj,jB]
  by_cases hs:pr[i]=y31.2
  ·simp only[if_pos hs,jI,jA,gX]
   cases qAp N (gR ts pr p) (2,(i:Int),0,⟨#[]⟩,[]) y1.2.2.2.2<;>rfl
  ·simp only[if_neg hs,jA,jC,jH,qVb (show i<1000000 by omega),ih]
   cases(pr.drop (i+1)).findIdx? (fun x=>decide (x=y31.2)) with
   |none=>rfl
   |some j=>simp only[gL];rw[show i+1+j=i+(j+1) by omega]
theorem zEk{y1:RT×Tok}{y31:RT×ByteArray}{z:Flt}{j:Nat}{pr':List ByteArray}{b:List Ex}(hz:z.2≠0)(hpr:pr'.length<1000):∀(k i M:Nat),i+k=pr'.length→k<M→
  qAs (qCq N y1 y31 (bR ts z j pr' b,false)) M (i:Int)=some (.inl ())
 |k,i,0,_,h=>by omega
 |0,i,M+1,h,_=>by
  have c:decide ((i:Int)<((bR ts z j pr' b).2.2.2.2.1.length:Int))=false:=jY (by simp only[bR];omega)
  simp only[qAs,qCq,c,jC,jH,jA]
 |k+1,i,M+1,h,hM=>by
  have hi:i<pr'.length:=by omega
  have ih:=zEk (y1:=y1) (y31:=y31) (j:=j) (b:=b) hz hpr k (i+1) M (by omega) (by omega)
  have c:decide ((i:Int)<((bR ts z j pr' b).2.2.2.2.1.length:Int))=true:=kG (by simp only[bR];omega)
  have x:idx (bR ts z j pr' b).2.2.2.2.1 (i:Int)=some pr'[i]:=qCg hi
  have g0:((bR ts z j pr' b).2.2.2.1==0)=false:=by simpa[bR] using hz
  simp only[qAs,qCq,g0,Prod.eta,c,x,jI,jA,qFj,jB]
  have:((if pr'[i]=y31.2 then some false else some false):Option Bool)=some false:=by split<;>rfl
  simp only[this,jA,jC,jH,qVb (show i<1000000 by omega),ih]
variable (hEg:∀p:Ps,p.1<ts.length→p.2.length≤256→∃o,r4 (gR ts pr p) (IntKind.wrap .i64 (d+1))=some o∧relR ts pr (E p) o)
variable (hEb:∀(z:Flt) (i:Nat) (pr':List ByteArray) (b:List Ex),z.2≠0→i<ts.length→∃v,r4 (bR ts z i pr' b) (IntKind.wrap .i64 (d+1))=some (bR ts z i pr' b,v))
include hEg hEb in
theorem zTz(hok:OkT ts)(hl:ts.length<1000000)(hN:100<N)(hA:Adv ts E)(t:Tok)(p:Ps)(hp:p.1<ts.length)(hb:p.2.length≤256):∃o,
  ((qAi N (gR ts pr p) (⟨#[40]⟩:ByteArray)).bind fun y11=>(qBw N y11 true).bind fun y12=>(qAi N y12.1 (⟨#[44]⟩:ByteArray)).bind fun y13=>(r4 y13 (IntKind.wrap .i64 (d+1))).bind fun y14=>(qAi N y14.1 (⟨#[41]⟩:ByteArray)).bind fun y15=>qAp N y15 (6,0,0,y12.2,[y14.2]) t.2.2.2)=some o∧
  relR ts pr (qCo (qHr ts qUw p.1) fun i=>qCo (qCo (qVc ts i) fun a=>qCo (qHr ts qQx a.1) fun i=>qCo (E (i,p.2)) fun q=>(.inr (q.1,((6,0,0,a.2.2.1,[(q.2:Int)]):Ex)):Flt⊕(Ps×Ex))) fun q=>qCo (qHr ts qLe q.1.1) fun i=>qPe t q.2 (i,q.1.2)) o:=by
 have bad:∀{z:Flt} {i:Nat} {pr':List ByteArray} {b:List Ex} (x:ByteArray),z.2≠0→i<ts.length→∃o,((r4 (bR ts z i pr' b) (IntKind.wrap .i64 (d+1))).bind fun y14=>(qAi N y14.1 (⟨#[41]⟩:ByteArray)).bind fun y15=>qAp N y15 (6,0,0,x,[y14.2]) t.2.2.2)=some o∧relR ts pr (.inl z) o:=by
  intro z i pr' b x hz hi
  obtain⟨v,hv⟩:=hEb z i pr' b hz hi
  simp only[hv,jA]
  exact qPu hz hi _ _
 simp only[qNv p hp hl,jA,qUw]
 cases h1:qHr ts ⟨#[40]⟩ p.1 with
 |inl z=>
  simp only[zIz (qMr h1) hp,qNj (qMr h1) hp,jA]
  exact bad _ (qMr h1) hp
 |inr i=>
  obtain⟨rfl,g1,-⟩:=qHt hok hp h1
  simp only[zJd (p.1+1,p.2) g1 hl hN,jA,jI,qCo]
  cases h2:qVc ts (p.1+1) with
  |inl z=>
   simp only[qNj (zEg h2) g1,jA]
   exact bad _ (zEg h2) g1
  |inr a=>
   obtain⟨rfl,g2,-⟩:=qQa hok g1 h2
   simp only[qNv (p.1+1+1,p.2) g2 hl,jA,qQx]
   cases h3:qHr ts ⟨#[44]⟩ (p.1+1+1) with
   |inl z=>exact bad _ (qMr h3) g2
   |inr j=>
    obtain⟨rfl,g3,-⟩:=qHt hok g2 h3
    obtain⟨o,ho,hr⟩:=hEg (p.1+1+1+1,p.2) g3 hb
    simp only[ho,jA]
    cases h4:E (p.1+1+1+1,p.2) with
    |inl z=>
     rw[h4] at hr
     obtain⟨hz,i,pr',b,hi,ho1⟩:=hr
     simp only[ho1]
     exact qPu hz hi _ _
    |inr q=>
     rw[h4] at hr
     obtain⟨⟨f1,f2,f3,f4⟩,f5⟩:=hA (p.1+1+1+1,p.2) q.1 q.2 g3 hb h4
     have hr':o=(gR ts pr q.1,(q.2:Int)):=hr
     simp only[hr']
     exact qYt t _ q.1 hok hl f2 f4
theorem zPl(hok:OkT ts)(hl:ts.length<1000000)(hN:100<N)(k:Int)(pth:Bool)(t:Tok)(p:Ps)(hp:p.1<ts.length)(hb:p.2.length≤256):∃o,
  ((qAi N (gR ts pr p) (⟨#[40]⟩:ByteArray)).bind fun y20=>(qBw N y20 pth).bind fun y21=>(qAi N y21.1 (⟨#[41]⟩:ByteArray)).bind fun y22=>qAp N y22 (k,0,0,y21.2,[]) t.2.2.2)=some o∧
  relR ts pr (qCo (qHr ts qUw p.1) fun i=>qCo (qCo (if pth=true then qVc ts i else qZd ts i) fun a=>(.inr ((a.1,p.2),((k,0,0,a.2.2.1,[]):Ex)):Flt⊕(Ps×Ex))) fun q=>qCo (qHr ts qLe q.1.1) fun i=>qPe t q.2 (i,q.1.2)) o:=by
 simp only[qNv p hp hl,jA,qUw]
 cases h1:qHr ts ⟨#[40]⟩ p.1 with
 |inl z=>
  simp only[zIz (qMr h1) hp,jA]
  exact qPu (qMr h1) hp _ _
 |inr i=>
  obtain⟨rfl,g1,-⟩:=qHt hok hp h1
  simp only[zJd (p.1+1,p.2) g1 hl hN,jA,qCo]
  cases h2:(if pth=true then qVc ts (p.1+1) else qZd ts (p.1+1)) with
  |inl z=>
   have hz:z.2≠0:=by
    split at h2
    ·exact zEg h2
    ·exact zRe h2
   exact qPu hz g1 _ _
  |inr a=>
   have g2:a=(p.1+1+1,tkAt ts (p.1+1))∧p.1+1+1<ts.length:=by
    split at h2
    ·obtain⟨e,g2,-⟩:=qQa hok g1 h2;exact⟨e,g2⟩
    ·obtain⟨e,g2,-⟩:=zGs hok g1 h2;exact⟨e,g2⟩
   obtain⟨rfl,g2⟩:=g2
   exact qYt t _ (p.1+1+1,p.2) hok hl g2 hb
theorem zUi(hok:OkT ts)(hl:ts.length<1000000)(t:Tok)(p:Ps)(hp:p.1<ts.length)(hb:p.2.length≤256):∃o,
  ((qAi N (gR ts pr p) (⟨#[40]⟩:ByteArray)).bind fun y25=>(qAk N y25).bind fun y26=>(qCt N y26.1).bind fun y27=>(if(decide (y27.2≥64))=true then((qAl N y27.1 y26.2.2.2.2 9).bind fun y28=>some y28) else(some y27.1):Option RT).bind fun o3=>(qAi N o3 (⟨#[41]⟩:ByteArray)).bind fun y29=>qAp N y29 (10,y27.2,0,⟨#[]⟩,[]) t.2.2.2)=some o∧
  relR ts pr (qCo (qHr ts qUw p.1) fun i=>qCo (qCo (qRn ts 2 i) fun a=>if a.2.2.2.1≥64 then qIf a.2 9 else(.inr ((a.1,p.2),((10,a.2.2.2.1,0,⟨#[]⟩,[]):Ex)):Flt⊕(Ps×Ex))) fun q=>qCo (qHr ts qLe q.1.1) fun i=>qPe t q.2 (i,q.1.2)) o:=by
 have h64:¬decide ((0:Int)≥64)=true:=by decide
 simp only[qNv p hp hl,jA,qUw]
 cases h1:qHr ts ⟨#[40]⟩ p.1 with
 |inl z=>
  simp only[qQi hp,zOb (qMr h1) hp,jA,if_neg h64]
  exact qPu (qMr h1) hp _ _
 |inr i=>
  obtain⟨rfl,g1,-⟩:=qHt hok hp h1
  simp only[qKw (p.1+1,p.2) g1,qZn (p.1+1,p.2) g1 hl,jA,qCo]
  cases h2:qRn ts 2 (p.1+1) with
  |inl z=>
   simp only[if_neg h64,jA]
   exact qPu (zAn h2) g1 _ _
  |inr a=>
   obtain⟨rfl,g2,-⟩:=qSk hok (by decide) g1 h2
   by_cases k:(tkAt ts (p.1+1)).2.2.1≥64
   ·simp only[if_pos k,jB,jI,qLi,jA]
    exact qPu (show(9:Int)≠0 by decide) g2 _ _
   ·simp only[if_neg k,jB,jA]
    exact qYt t _ (p.1+1+1,p.2) hok hl g2 hb
end
end
section
open Go Go.Dc
section
variable {N:Nat} {ts:List Tok} {pr:List ByteArray} {E S:Ps→PM Nat} {d:Int}
variable {r1 r2 r3 r4:RT→Int→Option (RT×Int)}
theorem zKe{s:ByteArray}{i:Nat}(h:(tkAt ts i).1=1):isC ts 1 s i=decide ((tkAt ts i).2.1=s):=by simp[isC,h]
theorem zSq{k:Int}{s:ByteArray}{i:Nat}(h:(tkAt ts i).1≠k):isC ts k s i=false:=by simp[isC,h]
theorem obs{α:Type}(x:Option α):(x.bind fun y=>some y)=x:=by cases x<;>rfl
theorem zMp{z:Flt}{i:Nat}{pr':List ByteArray}{b:List Ex}(hz:z.2≠0)(hi:i<ts.length):qDm N r1 r2 r3 r4 (bR ts z i pr' b) d=some (bR ts z i pr' b,0):=by
 have g0:((bR ts z i pr' b).2.2.2.1 !=0)=true:=by simpa[bR] using hz
 simp only[qDm,Prod.eta,qQi hi,jA,g0,jI]
variable (hEg:∀p:Ps,p.1<ts.length→p.2.length≤256→∃o,r4 (gR ts pr p) (IntKind.wrap .i64 (d+1))=some o∧relR ts pr (E p) o)
variable (hEb:∀(z:Flt) (i:Nat) (pr':List ByteArray) (b:List Ex),z.2≠0→i<ts.length→∃v,r4 (bR ts z i pr' b) (IntKind.wrap .i64 (d+1))=some (bR ts z i pr' b,v))
include hEg hEb in
theorem zUo(hok:OkT ts)(hl:ts.length<1000000)(hpr:pr.length<1000)(hN:1000002<N)(hA:Adv ts E)(p:Ps)(hp:p.1<ts.length)(hb:p.2.length≤256):
  ∃o,qDm N r1 r2 r3 r4 (gR ts pr p) d=some o∧relR ts pr (qSb ts pr E p) o:=by
 have g0:((gR ts pr p).2.2.2.1 !=0)=false:=rfl
 simp only[qDm,Prod.eta,qKw p hp,jA,g0,jC,jH]
 unfold qSb
 dsimp only
 by_cases k1:(tkAt ts p.1).1=2
 ·have k1':((tkAt ts p.1).1==2)=true:=by simpa using k1
  have g:=hok.next hp (show(tkAt ts p.1).1≠5 by rw[k1];decide)
  rw[if_pos k1]
  simp only[k1',jI,qZn p hp hl,qRn,if_pos k1,jA]
  obtain⟨o,ho,hr⟩:=qSd (N:=N) (pr:=pr) (tkAt ts p.1) (1,(tkAt ts p.1).2.2.1,0,⟨#[]⟩,[]) (p.1+1,p.2) g hb
  simp only[ho,jA]
  exact⟨_,rfl,hr⟩
 have k1':((tkAt ts p.1).1==2)=false:=by simpa using k1
 rw[if_neg k1]
 simp only[k1',jC,jH,qLt p hp hl,jA]
 rcases qEr (isC ts 4 zSp p.1) with c1|c1
 ·have c1':isC ts 4 ⟨#[45]⟩ p.1=true:=c1
  have g:=qHs hok hp (by decide) c1
  simp only[c1,c1',jI,qZn (p.1+1,p.2) g hl,jA]
  cases h:qRn ts 2 (p.1+1) with
  |inl z=>
   obtain⟨o,ho,hr⟩:=qUm (N:=N) (pr:=pr) (pr':=pr) (b:=p.2) (zAn h) g (1,IntKind.wrap .i64 (0-0),0,⟨#[]⟩,[]) (tkAt ts p.1).2.2.2
   simp only[ho,jA]
   exact⟨_,rfl,hr⟩
  |inr a=>
   obtain⟨rfl,g2,-⟩:=qSk hok (by decide) g h
   obtain⟨o,ho,hr⟩:=qSd (N:=N) (pr:=pr) (tkAt ts p.1) (1,IntKind.wrap .i64 (0-(tkAt ts (p.1+1)).2.2.1),0,⟨#[]⟩,[]) (p.1+1+1,p.2) g2 hb
   simp only[ho,jA,qCo]
   exact⟨_,rfl,hr⟩
 have c1':isC ts 4 ⟨#[45]⟩ p.1=false:=c1
 simp only[c1,c1',jC,jH,qLt p hp hl,jA]
 rcases qEr (isC ts 4 qUw p.1) with c2|c2
 ·have c2':isC ts 4 ⟨#[40]⟩ p.1=true:=c2
  have g:=qHs hok hp (by decide) c2
  obtain⟨o,ho,hr⟩:=hEg (p.1+1,p.2) g hb
  simp only[c2,c2',jI,ho,jA]
  cases h:E (p.1+1,p.2) with
  |inl z=>
   rw[h] at hr
   obtain⟨hz,i,pr',b,hi,ho1⟩:=hr
   simp only[ho1,qNj hz hi,jA,qCo]
   exact⟨_,rfl,qOc hz hi⟩
  |inr q=>
   rw[h] at hr
   obtain⟨⟨f1,f2,f3,f4⟩,f5⟩:=hA (p.1+1,p.2) q.1 q.2 g hb h
   have hr':o=(gR ts pr q.1,(q.2:Int)):=hr
   simp only[hr',qNv q.1 f2 hl,jA,qCo,qLe]
   cases hj:qHr ts ⟨#[41]⟩ q.1.1 with
   |inl z=>exact⟨_,rfl,qOc (qMr hj) f2⟩
   |inr j=>exact⟨_,rfl,rfl⟩
 have c2':isC ts 4 ⟨#[40]⟩ p.1=false:=c2
 simp only[c2,c2',jC,jH,qMs p hp hl,jA]
 by_cases k2:(tkAt ts p.1).1=1
 rotate_left
 ·-- no name
  rw[if_pos k2]
  have n:∀s,isC ts 1 s p.1=false:=fun s=>zSq k2
  have hname:qRo ts p.1= .inl ((tkAt ts p.1).2.2.2,9):=by simp[qRo,qRn,k2,qCo,qIf]
  simp only[n,jC,jH,qMs p hp hl,jA,qXc p hp hl (by omega:100<N),hname]
  have hz:(((tkAt ts p.1).2.2.2,(9:Int)):Flt).2≠0:=show(9:Int)≠0 by decide
  have hp0:=zEk (N:=N) (ts:=ts) (y1:=(gR ts pr p,tkAt ts p.1)) (y31:=(bR ts ((tkAt ts p.1).2.2.2,9) p.1 pr p.2,(⟨#[]⟩:ByteArray))) (j:=p.1) (pr':=pr) (b:=p.2) hz hpr pr.length 0 N (by omega) (by omega)
  rw[show((0:Nat):Int)=0 from rfl] at hp0
  simp only[zDr hz,jA,kJ,jI,hp0,qOa hz]
  exact⟨_,rfl,qOc hz hp⟩
 rw[if_neg (show ¬(tkAt ts p.1).1≠1 by simpa using k2)]
 have g:=hok.next hp (show(tkAt ts p.1).1≠5 by rw[k2];decide)
 have n:∀s,isC ts 1 s p.1=decide ((tkAt ts p.1).2.1=s):=fun s=>zKe k2
 simp only[n,qMs p hp hl,jA]
 by_cases w1:(tkAt ts p.1).2.1=zBc
 ·rw[if_pos (show(tkAt ts p.1).2.1∈[zBc,zAx,sHas,sEnv,zDk] by rw[w1];simp)]
  have w1':decide ((tkAt ts p.1).2.1=(⟨#[114,101,97,100]⟩:ByteArray))=true:=kG w1
  simp only[w1',jI]
  obtain⟨o,ho,hr⟩:=zTz (N:=N) hEg hEb hok hl (by omega) hA (tkAt ts p.1) (p.1+1,p.2) g hb
  refine⟨o,Eq.trans ?_ ho,?_⟩
  ·simp only[obs]
  ·simp only[qQh,if_pos w1]
   exact hr
 have w1':decide ((tkAt ts p.1).2.1=(⟨#[114,101,97,100]⟩:ByteArray))=false:=jY w1
 simp only[w1',jC,jH,qMs p hp hl,jA,n]
 by_cases w2:(tkAt ts p.1).2.1=zAx
 ·rw[if_pos (show(tkAt ts p.1).2.1∈[zBc,zAx,sHas,sEnv,zDk] by rw[w2];simp)]
  have w2':decide ((tkAt ts p.1).2.1=(⟨#[115,105,122,101]⟩:ByteArray))=true:=kG w2
  have wx:((tkAt ts p.1).2.1.toList==(⟨#[104,97,115]⟩:ByteArray).toList)=false:=by rw[qFj,w2];decide
  have wy:((tkAt ts p.1).2.1.toList==(⟨#[101,110,118]⟩:ByteArray).toList)=false:=by rw[qFj,w2];decide
  simp only[w2',jI,jA,wx,wy,jC,jH]
  obtain⟨o,ho,hr⟩:=zPl (N:=N) (pr:=pr) hok hl (by omega) 7 true (tkAt ts p.1) (p.1+1,p.2) g hb
  refine⟨o,Eq.trans ?_ ho,?_⟩
  ·simp only[obs];rfl
  ·simp only[qQh,if_neg w1,if_pos w2]
   exact hr
 have w2':decide ((tkAt ts p.1).2.1=(⟨#[115,105,122,101]⟩:ByteArray))=false:=jY w2
 simp only[w2',jC,jH,qMs p hp hl,jA,n]
 by_cases w3:(tkAt ts p.1).2.1=sHas
 ·rw[if_pos (show(tkAt ts p.1).2.1∈[zBc,zAx,sHas,sEnv,zDk] by rw[w3];simp)]
  have w3':decide ((tkAt ts p.1).2.1=(⟨#[104,97,115]⟩:ByteArray))=true:=kG w3
  have wx:((tkAt ts p.1).2.1.toList==(⟨#[104,97,115]⟩:ByteArray).toList)=true:=by rw[qFj,w3']
  simp only[w3',jI,jA,wx]
  obtain⟨o,ho,hr⟩:=zPl (N:=N) (pr:=pr) hok hl (by omega) 8 true (tkAt ts p.1) (p.1+1,p.2) g hb
  refine⟨o,Eq.trans ?_ ho,?_⟩
  ·simp only[obs];rfl
  ·simp only[qQh,if_neg w1,if_neg w2,if_pos w3]
   exact hr
 have w3':decide ((tkAt ts p.1).2.1=(⟨#[104,97,115]⟩:ByteArray))=false:=jY w3
 simp only[w3',jC,jH,qMs p hp hl,jA,n]
 by_cases w4:(tkAt ts p.1).2.1=sEnv
 ·rw[if_pos (show(tkAt ts p.1).2.1∈[zBc,zAx,sHas,sEnv,zDk] by rw[w4];simp)]
  have w4':decide ((tkAt ts p.1).2.1=(⟨#[101,110,118]⟩:ByteArray))=true:=kG w4
  have wx:((tkAt ts p.1).2.1.toList==(⟨#[104,97,115]⟩:ByteArray).toList)=false:=by rw[qFj,w4];decide
  have wy:((tkAt ts p.1).2.1.toList==(⟨#[101,110,118]⟩:ByteArray).toList)=true:=by rw[qFj,w4']
  simp only[w4',jI,jA,wx,wy,jC,jH]
  obtain⟨o,ho,hr⟩:=zPl (N:=N) (pr:=pr) hok hl (by omega) 9 false (tkAt ts p.1) (p.1+1,p.2) g hb
  refine⟨o,Eq.trans ?_ ho,?_⟩
  ·simp only[obs];rfl
  ·simp only[qQh,if_neg w1,if_neg w2,if_neg w3,if_pos w4]
   exact hr
 have w4':decide ((tkAt ts p.1).2.1=(⟨#[101,110,118]⟩:ByteArray))=false:=jY w4
 simp only[w4',jC,jH,qMs p hp hl,jA,n]
 by_cases w5:(tkAt ts p.1).2.1=zDk
 ·rw[if_pos (show(tkAt ts p.1).2.1∈[zBc,zAx,sHas,sEnv,zDk] by rw[w5];simp)]
  have w5':decide ((tkAt ts p.1).2.1=(⟨#[102,108,105,112]⟩:ByteArray))=true:=kG w5
  simp only[w5',jI]
  obtain⟨o,ho,hr⟩:=zUi (N:=N) (pr:=pr) hok hl (tkAt ts p.1) (p.1+1,p.2) g hb
  refine⟨o,Eq.trans ?_ ho,?_⟩
  ·simp only[obs]
  ·simp only[qQh,if_neg w1,if_neg w2,if_neg w3,if_neg w4]
   exact hr
 have w5':decide ((tkAt ts p.1).2.1=(⟨#[102,108,105,112]⟩:ByteArray))=false:=jY w5
 rw[if_neg (show ¬(tkAt ts p.1).2.1∈[zBc,zAx,sHas,sEnv,zDk] by simp[w1,w2,w3,w4,w5])]
 simp only[w5',jC,jH,qXc p hp hl (by omega:100<N),jA,qRo,qRn,if_pos k2,qCo]
 rcases qEr (resC (tkAt ts p.1).2.1) with c3|c3
 ·simp only[c3,jI,qIf]
  have hz:(((tkAt ts p.1).2.2.2,(9:Int)):Flt).2≠0:=show(9:Int)≠0 by decide
  have hp0:=zEk (N:=N) (ts:=ts) (y1:=(gR ts pr p,tkAt ts p.1)) (y31:=(bR ts ((tkAt ts p.1).2.2.2,9) p.1 pr p.2,(⟨#[]⟩:ByteArray))) (j:=p.1) (pr':=pr) (b:=p.2) hz hpr pr.length 0 N (by omega) (by omega)
  rw[show((0:Nat):Int)=0 from rfl] at hp0
  simp only[zDr hz,jA,kJ,jI,hp0,qOa hz]
  exact⟨_,rfl,qOc hz hp⟩
 simp only[c3,jC,jH,qLt (p.1+1,p.2) g hl,jA]
 rcases qEr (isC ts 4 qUw (p.1+1)) with c4|c4
 ·have c4':isC ts 4 ⟨#[40]⟩ (p.1+1)=true:=c4
  have g2:=qHs hok g (by decide) c4
  simp only[c4,c4',jI,kM,jC,jH]
  have hs:qHr ts qUw (p.1+1)= .inr (p.1+1+1):=by simp[qHr,c4]
  simp only[qUn,hs,qCo]
  obtain⟨o,ho,hr⟩:=rargs (N:=N) hEg hEb hok hl (by omega) hA (p.1+1+1,p.2) g2 hb
  simp only[ho,jA]
  cases ha:(if isC ts 4 qLe (p.1+1+1)=true then .inr ((p.1+1+1+1,p.2),[]) else zEv ts E (ts.length+1) [] (p.1+1+1,p.2):PM (List Int)) with
  |inl z=>
   rw[ha] at hr
   obtain⟨hz,i,pr',b,hi,ho1⟩:=hr
   simp only[ho1]
   obtain⟨o2,ho2,hr2⟩:=qUm (N:=N) (pr:=pr) (pr':=pr') (b:=b) hz hi (3,0,0,(tkAt ts p.1).2.1,o.1) (tkAt ts p.1).2.2.2
   simp only[ho2,jA]
   exact⟨_,rfl,hr2⟩
  |inr q=>
   rw[ha] at hr
   have hr':o=(q.2,gR ts pr q.1):=hr
   have hq:q.1.1<ts.length∧q.1.2.length≤256:=by
    split at ha
    ·rename_i hc
     obtain rfl:=Sum.inr.inj ha
     exact⟨qHs hok g2 (by decide) hc,hb⟩
    ·obtain⟨f1,f2,f3,f4⟩:=qYp hok hA _ _ (p.1+1+1,p.2) q.1 q.2 g2 hb ha
     exact⟨f2,f4⟩
   simp only[hr']
   obtain⟨o2,ho2,hr2⟩:=qSd (N:=N) (pr:=pr) (tkAt ts p.1) (3,0,0,(tkAt ts p.1).2.1,q.2) q.1 hq.1 hq.2
   simp only[ho2,jA]
   exact⟨_,rfl,hr2⟩
 have c4':isC ts 4 ⟨#[40]⟩ (p.1+1)=false:=c4
 simp only[c4,c4',jC,jH,kJ,jI]
 have hp0:=zKt (N:=N) (ts:=ts) (pr:=pr) (y1:=(gR ts pr p,tkAt ts p.1)) (y31:=(gR ts pr (p.1+1,p.2),(tkAt ts p.1).2.1)) (p:=(p.1+1,p.2)) hpr pr.length 0 N (by omega) (by omega)
 rw[show((0:Nat):Int)=0 from rfl] at hp0
 simp only[hp0,kA,kK]
 cases hi:pr.findIdx? (fun x=>decide (x=(tkAt ts p.1).2.1)) with
 |none=>
  simp only[jA,qLi]
  exact⟨_,rfl,qOc (show(9:Int)≠0 by decide) g⟩
 |some j=>
  obtain⟨o2,ho2,hr2⟩:=qSd (N:=N) (pr:=pr) (tkAt ts p.1) (2,(j:Int),0,⟨#[]⟩,[]) (p.1+1,p.2) g hb
  simp only[ho2,jA]
  exact⟨_,rfl,hr2⟩
end
end
end Go.Proofs.YtfbdkahdgbimeaaGreatDoor
