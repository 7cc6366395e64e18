/- No condition but those of each theorem. -/
import Derived.Test.YtcdpbapbpcpflaaGreatDoorProg
import Derived.WalkKit
import Derived.Deep.LoopGhost
import Derived.KernelRfl
import Derived.OrdersHeld
import Derived.OrdersIn
import Derived.LoopNIn
import Derived.Sort.LoopGhostIn
import Derived.Laws.AppendOwn
import Derived.RangeFuncLeaves
import Derived.RangeFuncRecord
import Derived.MapKept
import Derived.Maps.RangeRun
import Derived.ChangeKeysEq
import Derived.HandedShaped
import Derived.ChangeStays
import Derived.ChangeSame
import Derived.OpenShut
import Derived.WideShapes
import Derived.JoinedOf
import Derived.ReadAgain
import Derived.ChangeAt
import Derived.RowKit
import Derived.Lib.Overlaps
import Derived.Shelf.SlSortCmp.NoneTotal
import Derived.Shelf.Sort.Plain
import Derived.Shelf.Slices.In.SortNone
import Derived.WalkSmall
import Derived.Recover
import Derived.Lib.Bytealg
import Derived.Test.YtcdpbapbpcpflaaGreatDoorK3p3
namespace Go.Proofs.YtcdpbapbpcpflaaGreatDoor
section
open Go Go.Dc
variable {N c1:Nat} {m:Mem} {O:List Piece} {w:World} {a1:Option Addr}
def qCe(N:Nat)(y2:Tr)(y3:T21)(s1:Tv):Option (Tv⊕Int⊕Bool):=
 if(decide (s1.2<(List.length y3:Int)))=true then((idx y3 s1.2).bind fun x1=>(qJl N y2.2 x1).bind fun y4=>(if(!y4.2.2)=true then(some true) else(if(decide (x1.2.2.2.2.2<1))=true then(some true) else(if(!(y4.1.1.toList==x1.1.toList))=true then(some true) else((idx y4.1.2.2 y4.2.1).bind fun x2=>if(!(x2.2.1.toList==x1.2.1.toList))=true then(some true) else((idx y4.1.2.2 y4.2.1).bind fun x3=>if(x3.1 !=x1.2.2.1)=true then(some true) else((qIi N y2.2 x1.2.2.1 x1.1 x1.2.1).bind fun y5=>some (!((y5.1.toList==x1.1.toList)&&((y5.2.1.toList==x1.2.1.toList)&&((y5.2.2.1==x1.2.2.1)&&((y5.2.2.2.1.toList==x1.2.2.2.1.toList)&&((y5.2.2.2.2.1==x1.2.2.2.2.1)&&((y5.2.2.2.2.2==x1.2.2.2.2.2)&&true)))))))))))):Td).bind fun o2=>if o2=true then(some (.inr (.inr (false)))) else(some (.inl (IntKind.wrap .i64 (s1.1+x1.2.2.2.2.2),IntKind.wrap .i64 (s1.2+1))))) else(some (.inr (.inl s1.1)))
def qCd(N:Nat)(y2:Tr)(y7:T5)(s2:Tv):Option (Tv⊕Int):=
 if(decide (s2.2<(List.length y7:Int)))=true then((idx y7 s2.2).bind fun x4=>(qJw N y2.2 x4).bind fun y8=>some (.inl (IntKind.wrap .i64 (s2.1+(List.length y8:Int)),IntKind.wrap .i64 (s2.2+1)))) else(some (.inr s2.1))
def qBw(N:Nat)(y2:Tr)(s3:T25):Option (T25⊕Tv):=
 if(decide (s3.2.2<(List.length y2.2:Int)))=true then(((idx y2.2 s3.2.2).bind fun x5=>(qIe N y2.2 x5.1).bind fun y9=>(qFm N x5.1).bind fun y10=>if y10=true then(some (IntKind.wrap .i64 (s3.1-(List.length y9.1.2.2:Int)),IntKind.wrap .i64 (s3.2.1-1))) else(some (IntKind.wrap .i64 (s3.1-(List.length y9.1.2.2:Int)),s3.2.1)):Option Tv).bind fun o5=>some (.inl (o5.1,o5.2,IntKind.wrap .i64 (s3.2.2+1)))) else(some (.inr (s3.1,s3.2.1)))
def qDf(N:Nat)(p0:T8):Td:=
 (qGb N (p0,0)).bind fun y1=>(qHt N y1.1 y1.2).bind fun y2=>(qGr N y2.2).bind fun y3=>(qBj (qCe N y2 y3) N (0,0)).bind fun out1=>(match out1 with| .inl o1=>(qGt N y2.2).bind fun y6=>(qJr N y2.2).bind fun y7=>(qBj (qCd N y2 y7) N ((List.length y6:Int),0)).bind fun o3=>(qBj (qBw N y2) N (o1,o3,0)).bind fun o4=>(if(o4.1==0)=true then(if(o4.2==0)=true then((qFs N).bind fun y11=>some y11) else(some false)) else(some false):Td).bind fun o6=>some o6| .inr (z)=>some z)
set_option maxHeartbeats 4000000 in
set_option maxRecDepth 100000 in
theorem qLl{p0:T8}{r:Bool}(st:St m (O) w)(r1:RepS (cInt .i64) m a1 c1 p0)(i:qDf N p0=some r):Calls Tryz.prog 9 #[vS a1 p0 c1] w fun e w'=>∃m',e= .returned (vB r)∧m.le m'∧St m' (O) w':=by
 unfold qDf at i;have q:=m.le_refl;refine W_cA Tryz.func9 rfl Tryz.ntmps9 ?_;refine W_sr (qAc 1 [] (W_sr (qAb 2 [(19,.agg #[vS a1 p0 c1,vI 0])] (qAa rfl (qNb 20 25 19 (.agg #[vS a1 p0 c1,vI 0]) st fun b1 w1 st=>(qAc 1 [(3,vP b1 0)] (W_sr (qAb 2 [(21,vP b1 0),(22,vP b1 0)] (qAx 23 i (fun _ h=>qOh (p0:=(p0,0)) st r1 h) ?_)))))))));rintro y1 i _ w2 ⟨a2,c2,a3,c3,m2,rfl,e2,st,r2,r3⟩;refine qAx 24 i (fun _ h=>qQt (p0:=y1.1) st.f1 r2 r3 h) ?_;rintro y2 i _ w3 ⟨a4,c4,a5,c5,m3,rfl,e3,st,r4,r5⟩;refine qAa rfl (qCf 4 28 (.agg #[v2]) st fun b2 w4 st=>(qAa rfl (qBg 28 4 24 (.agg #[vS a5 y2.2 c5]) st fun w5 st=>(qAw rfl ?_))));have st:=st.f3.t;refine qAg (W_sr (qAc 1 [(5,vI 0)] (qAr (W_sr (qAa rfl (qBd 25 28 4 0 (.agg #[vS a5 y2.2 c5]) st.h (qAx 26 i (fun _ h=>qLx st r5 h) ?_)))))));rintro y3 i _ w6 ⟨a6,c6,m4,rfl,e4,st,r6⟩;refine qAc 2 [(27,vI (y3.length:Int)),(28,vI 0)] (qAy ?_);have⟨out1,i,j1⟩:=qAz i;refine qCi (.exit 0) (fun L' w'=>∃(o1:Int),∃m5,(.inl o1)=out1∧L'=[(4,vP b2 0),(5,vI o1)]∧m.le m5∧St m5 (kB b2 #[vS a5 y2.2 c5] 28::kB b1 (V1 y2.1 a4 c4) 25::kR a6 y3 c6 73 6::kR a5 y2.2 c5 68 2::O) w'∧P4 m5 a5 c5 a4 c4 y2) ?_ ?_
 ·rintro _ w7 ⟨o1,m5,rfl,rfl,q,st,r5,r4⟩;have i:=j1;refine qBk (qAg (W_sr (qAa rfl (qBd 92 28 4 0 (.agg #[vS a5 y2.2 c5]) st.h (qAx 93 i (fun _ h=>qNd st r5 h) ?_)))));rintro y6 i _ w17 ⟨a13,c13,m10,rfl,e7,st,r13⟩;refine qAb 2 [(11,vI (y6.length:Int))] (qAw rfl ?_);have st:=st.f2.t;refine qAg (qAr (W_sr (qAa rfl (qBd 95 28 4 0 (.agg #[vS a5 y2.2 c5]) st.h (qAx 96 i (fun _ h=>qSk st (r5.mono e7) h) ?_)))));rintro y7 i _ w18 ⟨a14,c14,m11,rfl,e8,st,r14⟩;refine qAc 2 [(97,vI (y7.length:Int)),(98,vI 0)] (qAy ?_);have⟨out2,i,j2⟩:=qAz i;refine qCi (.exit 2) (fun L' w'=>∃(o3:Int),∃m12,o3=out2∧L'=[(4,vP b2 0),(5,vI o1),(11,vI o3)]∧m.le m12∧St m12 (kB b2 #[vS a5 y2.2 c5] 28::kB b1 (V1 y2.1 a4 c4) 25::kR a14 y7 c14 9 1::kR a5 y2.2 c5 68 2::O) w'∧P4 m12 a5 c5 a4 c4 y2) ?_ ?_
  ·rintro _ w19 ⟨o3,m12,rfl,rfl,q,st,r5,r4⟩;have i:=j2;refine qBk (qAg (qAr (W_sr (qDi 1 110 26 109 0 (vS a5 y2.2 c5) st.h (qAb 2 [(111,vI (y2.2.length:Int)),(112,vI 0)] (qAw rfl ?_))))));have st:=st.f2.t;refine qAg (qAy ?_);have⟨out3,i,j3⟩:=qAz i;refine qCi (.exit 4) (fun L' w'=>∃(o4:Tv),∃m15,o4=out3∧L'=[(5,vI o4.1),(11,vI o4.2)]∧m.le m15∧St m15 (kB b2 #[vS a5 y2.2 c5] 28::kB b1 (V1 y2.1 a4 c4) 25::kR a5 y2.2 c5 68 2::O) w'∧P4 m15 a5 c5 a4 c4 y2) ?_ ?_
   ·rintro _ w22 ⟨o4,m15,rfl,rfl,q,st,r5,r4⟩;have i:=j3;refine qBk (qAg (W_sr ?_));have⟨o6,i,J⟩:=qAz i;refine qHa (j:=10) (fun L' w'=>∃m20,L'=[(2,vB o6)]∧m.le m20∧St m20 (kB b2 #[vS a5 y2.2 c5] 28::kB b1 (V1 y2.1 a4 c4) 25::kR a5 y2.2 c5 68 2::O) w'∧P4 m20 a5 c5 a4 c4 y2) ?_ ?_
    ·have i:=J;rintro _ w31 ⟨m20,rfl,q,st,r5,r4⟩;refine WO_e (qBb ?_);obtain rfl:=sI i;exact X_rt [2] [vB o6] ⟨m20,rfl,q,st.t.t.t⟩
    ·intro K;refine qAb 3 [(136,vB (o4.1==0))] (qHm 136 i ?_ ?_)
     ·intro A i;refine qAb 4 [(140,vB (o4.2==0))] (qHm 140 i ?_ ?_)
      ·intro A i;refine qAx 141 i (fun _ h=>qPg st h) ?_;rintro y11 i _ w32 ⟨m21,rfl,e12,st⟩;refine qAb 2 [(2,vB y11)] ?_;cases i;exact qCc _ kr (K _ _ ⟨m21,rfl,q.t e12,st.f2.f2.f2,r5.mono e12,r4.mono e12⟩)
      ·intro A i;refine qAb 3 [(2,vB false)] ?_;cases i;exact qCc _ kr (K _ _ ⟨m15,rfl,q,st.f2.f2.f2,r5,r4⟩)
     ·intro A i;refine qAb 7 [(2,vB false)] ?_;cases i;exact qCc _ kr (K _ _ ⟨m15,rfl,q,st.f2.f2.f2,r5,r4⟩)
   intro K4_u3;refine qGz _ kr (qDq (fun k3 L' w'=>∃(s3:T25),∃m16,qBj (qBw N y2) k3 s3=some out3∧L'=[(4,vP b2 0),(5,vI s3.1),(11,vI s3.2.1),(110,vS a5 y2.2 c5),(111,vI (y2.2.length:Int)),(112,vI s3.2.2)]∧m.le m16∧St m16 (kB b2 #[vS a5 y2.2 c5] 28::kB b1 (V1 y2.1 a4 c4) 25::kR a5 y2.2 c5 68 2::O) w'∧P4 m16 a5 c5 a4 c4 y2) N ⟨(o1,o3,0),m12,i,rfl,q,st.f2.f2.f2,r5,r4⟩ ?_);rintro k3 _ w23 ⟨s3,m16,hL,rfl,q,st,r5,r4⟩;rcases k3 with _|k3
   ·exact qBp hL
   ·obtain⟨qu3,i,hSu3,hBu3⟩:=qBo hL;clear hL;unfold qBw at i;refine W_sr (qAc 1 [(113,vB (decide (s3.2.2<(y2.2.length:Int))))] (qAr (W_if i ?_ ?_)))
    ·intro A i;refine qAo (qAg (qAr ?_));have⟨o5,i,j4⟩:=qAz i;refine qCi .normal (fun L' w'=>∃m17,L'=[(4,vP b2 0),(5,vI o5.1),(11,vI o5.2),(110,vS a5 y2.2 c5),(111,vI (y2.2.length:Int)),(112,vI s3.2.2)]∧m.le m17∧St m17 (kB b2 #[vS a5 y2.2 c5] 28::kB b1 (V1 y2.1 a4 c4) 25::kR a5 y2.2 c5 68 2::O) w'∧P4 m17 a5 c5 a4 c4 y2) ?_ ?_
     ·have i:=j4;rintro _ w24 ⟨m17,rfl,q,st,r5,r4⟩;refine qAg (qAn (qAb 2 [(112,vI (wr (s3.2.2+1)))] (qAw rfl ?_)));obtain rfl:=sI i;have hL:=hSu3 _ rfl;exact xE (qCm k3 (jE _) ⟨(o5.1,o5.2,wr (s3.2.2+1)),m17,hL,rfl,q,st.f2.f2.f2,r5,r4⟩)
     ·intro Ku4;refine qAy (W_sr (qAa rfl (qEw 114 26 68 110 112 r5 i ?_)));rintro x5 i b9 f5 cs5 ⟨_,_,rfl,rfl,rfl⟩ hq5;refine qEp 115 68 114 f5 (.agg (V2 x5)) st hq5 (qAa rfl (qCf 15 68 (.agg #[vT eB,vT eB]) st fun b10 w25 st=>(qAa rfl (qBg 68 15 115 (.agg (V2 x5)) st fun w26 st=>(WO_e (W_sr (qAa rfl (qBd 117 28 4 0 (.agg #[vS a5 y2.2 c5]) st.t.h (qDi 1 119 9 118 0 (vT x5.1) st.h (qAx 120 i (fun _ h=>qNm st r5 h) ?_))))))))));rintro y9 i _ w27 ⟨a16,c16,a17,c17,m18,rfl,e10,st,r16,r17⟩;refine qAb 3 [(121,.agg (V9 y9.1 a16 c16 a17 c17)),(122,vB y9.2)] (qAa rfl (qCf 16 52 (.agg #[vT eB,v2,v2]) st fun b11 w28 st=>(qAa rfl (qBg 52 16 121 (.agg (V9 y9.1 a16 c16 a17 c17)) st fun w29 st=>(qAc 1 [] (W_sr (qAb 2 [(123,vI s3.1),(124,vP b11 2)] (qAa rfl (qBd 125 50 124 2 (vS a17 y9.1.2.2 c17) st.h (qAc 3 [(5,vI (wr (s3.1-(y9.1.2.2.length:Int))))] (W_sr (qDi 1 129 9 128 0 (vT x5.1) st.t.t.t.h (qAx 130 i (fun _ h=>qNp st h) ?_)))))))))))));rintro y10 i _ w30 ⟨m19,rfl,e11,st⟩;have r5:=(r5.mono e10).mono e11;have r4:=(r4.mono e10).mono e11;refine WO_e (W_if i ?_ ?_)
      ·intro A i;refine qAn (qAb 3 [(11,vI (wr (s3.2.1-1)))] (qAw rfl (qBh ?_)));cases i;exact xE (Ku4 _ _ ⟨m19,rfl,(q.t e10).t e11,st.t.t.t.t.f2.f2.f2,r5,r4⟩)
      ·intro A i;refine qAo (qBh ?_);cases i;exact xE (Ku4 _ _ ⟨m19,rfl,(q.t e10).t e11,st.t.t.t.t.f2.f2.f2,r5,r4⟩)
    ·intro A i;refine qDh (qAh ?_);obtain rfl:=sI i;have ho:=hBu3 _ rfl;have st:=st.f2.f2.f2;refine qAh ?_;exact xE (K4_u3 _ _ ⟨(s3.1,s3.2.1),m16,ho,rfl,q,st,r5,r4⟩)
  intro K2_u2;refine qGz _ kr (qDq (fun k2 L' w'=>∃(s2:Tv),∃m13,qBj (qCd N y2 y7) k2 s2=some out2∧L'=[(4,vP b2 0),(5,vI o1),(11,vI s2.1),(96,vS a14 y7 c14),(97,vI (y7.length:Int)),(98,vI s2.2)]∧m.le m13∧St m13 (kB b2 #[vS a5 y2.2 c5] 28::kB b1 (V1 y2.1 a4 c4) 25::kR a14 y7 c14 9 1::kR a5 y2.2 c5 68 2::O) w'∧RepS cStr m13 a14 c14 y7∧P4 m13 a5 c5 a4 c4 y2) N ⟨((y6.length:Int),0),m11,i,rfl,(q.t e7).t e8,st.f3.f1.f3.f3,r14,(r5.mono e7).mono e8,(r4.mono e7).mono e8⟩ ?_);rintro k2 _ w20 ⟨s2,m13,hL,rfl,q,st,r14,r5,r4⟩;rcases k2 with _|k2
  ·exact qBp hL
  ·obtain⟨qu2,i,hSu2,hBu2⟩:=qBo hL;clear hL;unfold qCd at i;refine W_sr (qAc 1 [(99,vB (decide (s2.2<(y7.length:Int))))] (qAr (W_if i ?_ ?_)))
   ·intro A i;refine qAo (qAg (qAr (qAy (W_sr (qAa rfl (qEw 100 43 9 96 98 r14 i ?_))))));rintro x4 i b8 f4 cs4 rfl hq4;refine qEp 101 9 100 f4 (vT x4) st hq4 (qAc 1 [(13,vT x4)] (qAn (qAb 1 [(102,vI s2.1)] (qAa rfl (qBd 103 28 4 0 (.agg #[vS a5 y2.2 c5]) st.h (qAb 1 [(104,vT x4)] (qAx 105 i (fun _ h=>qSu st r5 h) ?_)))))));rintro y8 i _ w21 ⟨a15,c15,m14,rfl,e9,st,r15⟩;refine qAb 3 [(11,vI (wr (s2.1+(y8.length:Int))))] (qAw rfl ?_);have st:=st.t;refine qBh (qAg (qAn (qAb 2 [(98,vI (wr (s2.2+1)))] (qAw rfl ?_))));obtain rfl:=sI i;have hL:=hSu2 _ rfl;exact xE (qCm k2 (jE _) ⟨(wr (s2.1+(y8.length:Int)),wr (s2.2+1)),m14,hL,rfl,q.t e9,st.f3.f3.f3.f3,r14.mono e9,r5.mono e9,r4.mono e9⟩)
   ·intro A i;refine qDh (qAh ?_);cases i;have ho:=hBu2 _ rfl;have st:=st.f3.f3.f3.f3;refine qAh ?_;exact xE (K2_u2 _ _ ⟨s2.1,m13,ho,rfl,q,st,r5,r4⟩)
 intro K0_u1;refine qGz _ kr (qDq (fun k1 L' w'=>∃(s1:Tv),∃m6,qBj (qCe N y2 y3) k1 s1=some out1∧L'=[(4,vP b2 0),(5,vI s1.1),(26,vS a6 y3 c6),(27,vI (y3.length:Int)),(28,vI s1.2)]∧m.le m6∧St m6 (kB b2 #[vS a5 y2.2 c5] 28::kB b1 (V1 y2.1 a4 c4) 25::kR a6 y3 c6 73 6::kR a5 y2.2 c5 68 2::O) w'∧RepS C7 m6 a6 c6 y3∧P4 m6 a5 c5 a4 c4 y2) N ⟨(0,0),m4,i,rfl,((q.t e2).t e3).t e4,st.f2.f1.f3.f3,r6,r5.mono e4,r4.mono e4⟩ ?_);rintro k1 _ w8 ⟨s1,m6,hL,rfl,q,st,r6,r5,r4⟩;rcases k1 with _|k1
 ·exact qBp hL
 ·obtain⟨qu1,i,hSu1,hBu1⟩:=qBo hL;clear hL;unfold qCe at i;refine W_sr (qAc 1 [(29,vB (decide (s1.2<(y3.length:Int))))] (qAr (W_if i ?_ ?_)))
  ·intro A i;refine qAo (qAg (qAr (qAy (W_sr (qAa rfl (qEw 30 70 73 26 28 r6 i ?_))))));rintro x1 i b3 f1 cs1 ⟨_,_,rfl,rfl,⟨_,_,rfl,rfl,⟨_,_,rfl,rfl,⟨_,_,rfl,rfl,⟨_,_,rfl,rfl,rfl⟩⟩⟩⟩⟩ hq1;refine qEp 31 73 30 f1 (.agg (Vc x1)) st hq1 (qAa rfl (qCf 7 73 (.agg (Vb eB eB 0 eB 0 0)) st fun b4 w9 st=>(qAa rfl (qBg 73 7 31 (.agg (Vc x1)) st fun w10 st=>(WO_e (W_sr (qAb 2 [(32,vI s1.1),(33,vP b4 5)] (qAa rfl (qBd 34 3 33 5 (vI x1.2.2.2.2.2) st.h (qAc 2 [(5,vI (wr (s1.1+x1.2.2.2.2.2)))] (W_sr (qAa rfl (qBd 37 28 4 0 (.agg #[vS a5 y2.2 c5]) st.t.h (qAa rfl (qBd 38 73 7 0 (.agg (Vc x1)) st.h (qAx 39 i (fun _ h=>qTp st r5 h) ?_))))))))))))))));rintro y4 i _ w11 ⟨a7,c7,a8,c8,m7,rfl,e5,st,r7,r8⟩;have q:=q.t e5;have r6:=r6.mono e5;have r5:=r5.mono e5;have r4:=r4.mono e5;refine qAb 4 [(40,.agg (V9 y4.1 a7 c7 a8 c8)),(41,vI y4.2.1),(42,vB y4.2.2)] (qAa rfl (qCf 8 52 (.agg #[vT eB,v2,v2]) st fun b5 w12 st=>(qAa rfl (qBg 52 8 40 (.agg (V9 y4.1 a7 c7 a8 c8)) st fun w13 st=>(qAc 2 [(9,vI y4.2.1),(10,vB y4.2.2)] (qAr ?_))))));have⟨o2,i,J⟩:=qAz i
   refine qCi .normal (fun L' w'=>∃m8,L'=[(4,vP b2 0),(5,vI (wr (s1.1+x1.2.2.2.2.2))),(26,vS a6 y3 c6),(27,vI (y3.length:Int)),(28,vI s1.2),(90,vB o2)]∧m.le m8∧St m8 (kB b5 (V9 y4.1 a7 c7 a8 c8) 52::kB b4 (Vc x1) 73::kB b2 #[vS a5 y2.2 c5] 28::kB b1 (V1 y2.1 a4 c4) 25::kR a7 y4.1.2.1 c7 9 1::kR a8 y4.1.2.2 c8 62 4::kR a6 y3 c6 73 6::kR a5 y2.2 c5 68 2::O) w'∧RepS C7 m8 a6 c6 y3∧RepS cStr m8 a7 c7 y4.1.2.1∧RepS C5 m8 a8 c8 y4.1.2.2∧P4 m8 a5 c5 a4 c4 y2) ?_ ?_
   ·have i:=J;rintro _ w14 ⟨m8,rfl,q,st,r6,r7,r8,r5,r4⟩;refine qAg (W_if i ?_ ?_)
    ·intro A i;refine W_sr (qAb 1 [(2,vB false)] (qAw rfl ?_));have st:=st.f6.t;refine qAg (qBb (qAi (qAd ?_)));cases i;have ho:=hBu1 _ rfl;subst ho;have i:=j1;refine qAd (qAi (qAd ?_));cases i;exact X_rt [2] [vB false] ⟨m8,rfl,q,st.t.t.t.t.t.t.t⟩
    ·intro A i;refine qAo (qBh (qAg (qAn (qAb 2 [(28,vI (wr (s1.2+1)))] (qAw rfl ?_)))));obtain rfl:=sI i;have hL:=hSu1 _ rfl;exact xE (qCm k1 (jE _) ⟨(wr (s1.1+x1.2.2.2.2.2),wr (s1.2+1)),m8,hL,rfl,q,st.t.t.f2.t.f2.t.f3.f3.f3.f3,r6,r5,r4⟩)
   ·intro K;refine qEh [(48,fun w'=>Inv m7 w'∧Piece.holds m7 w' (kB b5 (V9 y4.1 a7 c7 a8 c8) 52)∧Piece.holds m7 w' (kB b4 (Vc x1) 73)∧Piece.holds m7 w' (kB b2 #[vS a5 y2.2 c5] 28)∧True)] kr st fun w15 _ st=> ?_;have hmS1:=m7.le_refl;refine⟨⟨.inr ⟨Inv.anti st.inv hmS1,Piece.holds_anti st.h hmS1,Piece.holds_anti st.t.t.t.h hmS1,Piece.holds_anti st.t.t.t.t.h hmS1,trivial⟩,trivial⟩,?_⟩;refine qAk 0 43 (vB y4.2.2) (.head _) (qAk 1 44 (vB (!y4.2.2)) (.head _) (qAk 2 45 (vB (!y4.2.2)) (.head _) ?_));rcases qIy (!y4.2.2) with A|A
    ·rw[if_pos A] at i;refine qGm (t:=45) (b:=true) (!y4.2.2) kr A ?_;refine qAu 3 46 (.head _) (qAu 4 47 (.head _) (qAu 5 48 (.head _) (qAk 6 49 (vB true) (.head _) (qAk 7 50 (vB true) (.head _) (qAu 8 51 (.head _) (qAu 9 52 (.head _) (qAu 10 53 (.head _) (qAu 11 54 (.head _) (qAu 12 55 (.head _) (qAk 13 56 (vB true) (.head _) (qAk 14 57 (vB true) (.head _) (qAu 15 58 (.head _) (qAu 16 59 (.head _) (qAu 17 60 (.head _) (qAu 18 61 (.head _) (qAu 19 62 (.head _) (qAu 20 63 (.head _) (qAu 21 64 (.head _) (qAu 22 65 (.head _) (qAu 23 66 (.head _) (qAk 24 67 (vB true) (.head _) (qAk 25 68 (vB true) (.head _) (qAu 26 69 (.head _) (qAu 27 70 (.head _) (qAu 28 71 (.head _) (qAu 29 72 (.head _) (qAu 30 73 (.head _) (qAu 31 74 (.head _) (qAu 32 75 (.head _) (qAu 33 76 (.head _) (qAu 34 77 (.head _) (qAk 35 78 (vB true) (.head _) (qAk 36 79 (vB true) (.head _) (qAu 37 80 (.head _) (qAu 38 81 (.head _) (qAu 39 82 (.head _) (qAu 40 83 (.head _) (qAu 41 84 (.head _) (qAu 42 85 (.head _) (qAu 43 86 (.head _) (qAu 44 87 (.head _) (qAu 45 88 (.head _) (qAu 46 89 (.head _) (qAk 47 90 (vB true) (.head _) ?_))))))))))))))))))))))))))))))))))))))))))));cases i;exact qBt kr (qLp _ kr (K _ _ ⟨m7,rfl,q,st.f7.f7.f4.f4.f7.f7.f7.f7,r6,r7,r8,r5,r4⟩))
    ·rw[if_neg (not_true A)] at i;refine qGm (t:=45) (b:=false) (!y4.2.2) kr A ?_;refine qAk 3 46 (vP b4 5) (.head _) (qDt 3 46 4 47 5 (vI x1.2.2.2.2.2) (.head _) (fun _ h=>h.2.2.1) (qAk 5 48 (vB (decide (x1.2.2.2.2.2<1))) (.head _) (qAk 6 49 (vB (decide (x1.2.2.2.2.2<1))) (.head _) (qAk 7 50 (vB (decide (x1.2.2.2.2.2<1))) (.head _) ?_))));rcases qIy (decide (x1.2.2.2.2.2<1)) with A|A
     ·rw[if_pos A] at i;refine qGm (t:=50) (b:=true) (decide (x1.2.2.2.2.2<1)) kr A ?_;refine qAu 8 51 (.head _) (qAu 9 52 (.head _) (qAu 10 53 (.head _) (qAu 11 54 (.head _) (qAu 12 55 (.head _) (qAk 13 56 (vB true) (.head _) (qAk 14 57 (vB true) (.head _) (qAu 15 58 (.head _) (qAu 16 59 (.head _) (qAu 17 60 (.head _) (qAu 18 61 (.head _) (qAu 19 62 (.head _) (qAu 20 63 (.head _) (qAu 21 64 (.head _) (qAu 22 65 (.head _) (qAu 23 66 (.head _) (qAk 24 67 (vB true) (.head _) (qAk 25 68 (vB true) (.head _) (qAu 26 69 (.head _) (qAu 27 70 (.head _) (qAu 28 71 (.head _) (qAu 29 72 (.head _) (qAu 30 73 (.head _) (qAu 31 74 (.head _) (qAu 32 75 (.head _) (qAu 33 76 (.head _) (qAu 34 77 (.head _) (qAk 35 78 (vB true) (.head _) (qAk 36 79 (vB true) (.head _) (qAu 37 80 (.head _) (qAu 38 81 (.head _) (qAu 39 82 (.head _) (qAu 40 83 (.head _) (qAu 41 84 (.head _) (qAu 42 85 (.head _) (qAu 43 86 (.head _) (qAu 44 87 (.head _) (qAu 45 88 (.head _) (qAu 46 89 (.head _) (qAk 47 90 (vB true) (.head _) ?_)))))))))))))))))))))))))))))))))))))));cases i;exact qBt kr (qLp _ kr (K _ _ ⟨m7,rfl,q,st.f7.f7.f4.f4.f7.f7.f7.f7,r6,r7,r8,r5,r4⟩))
     ·rw[if_neg (not_true A)] at i;refine qGm (t:=50) (b:=false) (decide (x1.2.2.2.2.2<1)) kr A ?_;refine qAk 8 51 (vP b5 0) (.head _) (qDt 9 51 9 52 0 (vT y4.1.1) (.head _) (fun _ h=>h.2.1) (qAk 10 53 (vP b4 0) (.head _) (qDt 9 53 11 54 0 (vT x1.1) (.head _) (fun _ h=>h.2.2.1) (qAk 12 55 (vB (!(y4.1.1.toList==x1.1.toList))) (.head _) (qAk 13 56 (vB (!(y4.1.1.toList==x1.1.toList))) (.head _) (qAk 14 57 (vB (!(y4.1.1.toList==x1.1.toList))) (.head _) ?_))))));rcases qIy (!(y4.1.1.toList==x1.1.toList)) with A|A
      ·rw[if_pos A] at i;refine qGm (t:=57) (b:=true) (!(y4.1.1.toList==x1.1.toList)) kr A ?_;refine qAu 15 58 (.head _) (qAu 16 59 (.head _) (qAu 17 60 (.head _) (qAu 18 61 (.head _) (qAu 19 62 (.head _) (qAu 20 63 (.head _) (qAu 21 64 (.head _) (qAu 22 65 (.head _) (qAu 23 66 (.head _) (qAk 24 67 (vB true) (.head _) (qAk 25 68 (vB true) (.head _) (qAu 26 69 (.head _) (qAu 27 70 (.head _) (qAu 28 71 (.head _) (qAu 29 72 (.head _) (qAu 30 73 (.head _) (qAu 31 74 (.head _) (qAu 32 75 (.head _) (qAu 33 76 (.head _) (qAu 34 77 (.head _) (qAk 35 78 (vB true) (.head _) (qAk 36 79 (vB true) (.head _) (qAu 37 80 (.head _) (qAu 38 81 (.head _) (qAu 39 82 (.head _) (qAu 40 83 (.head _) (qAu 41 84 (.head _) (qAu 42 85 (.head _) (qAu 43 86 (.head _) (qAu 44 87 (.head _) (qAu 45 88 (.head _) (qAu 46 89 (.head _) (qAk 47 90 (vB true) (.head _) ?_))))))))))))))))))))))))))))))));cases i;exact qBt kr (qLp _ kr (K _ _ ⟨m7,rfl,q,st.f7.f7.f4.f4.f7.f7.f7.f7,r6,r7,r8,r5,r4⟩))
      ·rw[if_neg (not_true A)] at i;refine qGm (t:=57) (b:=false) (!(y4.1.1.toList==x1.1.toList)) kr A ?_;refine qAk 15 58 (vP b5 2) (.head _) (qDt 50 58 16 59 2 (vS a8 y4.1.2.2 c8) (.head _) (fun _ h=>h.2.1) (qAk 17 60 (vI y4.2.1) (.head _) ?_));have⟨x2,d6,i⟩:=qAz i;refine qLn (t:=50) (e:=62) (x:=(.tmp 59)) (y:=(.tmp 60)) 18 61 C5 kr rfl kr (.head _) (qGi (qLc (qGi (qGi (qLc (qGi qMr)))))) (ev (vS a8 y4.1.2.2 c8)) (ev (vI y4.2.1)) kr r8 d6 ?_;rintro b6 f2 cs2 ⟨_,_,rfl,rfl,⟨_,_,rfl,rfl,⟨_,_,rfl,⟨a9,c9,rfl,r9⟩,⟨a10,c10,rfl,r10⟩⟩⟩⟩ hq2;refine qAk 19 62 (.pointer (some ⟨b6,f2+1,none⟩)) (.head _) (qIt 9 62 20 63 (f2+1) (vT x2.2.1) (.head _) (fun _ h=>h.1) (hq2.drop 1) (qAk 21 64 (vP b4 1) (.head _) (qDt 9 64 22 65 1 (vT x1.2.1) (.head _) (fun _ h=>h.2.2.1) (qAk 23 66 (vB (!(x2.2.1.toList==x1.2.1.toList))) (.head _) (qAk 24 67 (vB (!(x2.2.1.toList==x1.2.1.toList))) (.head _) (qAk 25 68 (vB (!(x2.2.1.toList==x1.2.1.toList))) (.head _) ?_))))));rcases qIy (!(x2.2.1.toList==x1.2.1.toList)) with A|A
       ·rw[if_pos A] at i;refine qGm (t:=68) (b:=true) (!(x2.2.1.toList==x1.2.1.toList)) kr A ?_;refine qAu 26 69 (.head _) (qAu 27 70 (.head _) (qAu 28 71 (.head _) (qAu 29 72 (.head _) (qAu 30 73 (.head _) (qAu 31 74 (.head _) (qAu 32 75 (.head _) (qAu 33 76 (.head _) (qAu 34 77 (.head _) (qAk 35 78 (vB true) (.head _) (qAk 36 79 (vB true) (.head _) (qAu 37 80 (.head _) (qAu 38 81 (.head _) (qAu 39 82 (.head _) (qAu 40 83 (.head _) (qAu 41 84 (.head _) (qAu 42 85 (.head _) (qAu 43 86 (.head _) (qAu 44 87 (.head _) (qAu 45 88 (.head _) (qAu 46 89 (.head _) (qAk 47 90 (vB true) (.head _) ?_)))))))))))))))))))));cases i;exact qBt kr (qLp _ kr (K _ _ ⟨m7,rfl,q,st.f7.f7.f4.f4.f7.f7.f7.f7,r6,r7,r8,r5,r4⟩))
       ·rw[if_neg (not_true A)] at i;refine qGm (t:=68) (b:=false) (!(x2.2.1.toList==x1.2.1.toList)) kr A ?_;refine qAk 26 69 (vP b5 2) (.head _) (qDt 50 69 27 70 2 (vS a8 y4.1.2.2 c8) (.head _) (fun _ h=>h.2.1) (qAk 28 71 (vI y4.2.1) (.head _) ?_));have⟨x3,d7,i⟩:=qAz i;refine qLn (t:=50) (e:=62) (x:=(.tmp 70)) (y:=(.tmp 71)) 29 72 C5 kr rfl kr (.head _) (qGi (qLc (qGi (qGi (qLc (qGi qMr)))))) (ev (vS a8 y4.1.2.2 c8)) (ev (vI y4.2.1)) kr r8 d7 ?_;rintro b7 f3 cs3 ⟨_,_,rfl,rfl,⟨_,_,rfl,rfl,⟨_,_,rfl,⟨a11,c11,rfl,r11⟩,⟨a12,c12,rfl,r12⟩⟩⟩⟩ hq3;refine qAk 30 73 (vP b7 f3) (.head _) (qIt 3 73 31 74 f3 (vI x3.1) (.head _) (fun _ h=>h.1) hq3 (qAk 32 75 (vP b4 2) (.head _) (qDt 3 75 33 76 2 (vI x1.2.2.1) (.head _) (fun _ h=>h.2.2.1) (qAk 34 77 (vB (x3.1 !=x1.2.2.1)) (.head _) (qAk 35 78 (vB (x3.1 !=x1.2.2.1)) (.head _) (qAk 36 79 (vB (x3.1 !=x1.2.2.1)) (.head _) ?_))))));rcases qIy (x3.1 !=x1.2.2.1) with A|A
        ·rw[if_pos A] at i;refine qGm (t:=79) (b:=true) (x3.1 !=x1.2.2.1) kr A ?_;refine qAu 37 80 (.head _) (qAu 38 81 (.head _) (qAu 39 82 (.head _) (qAu 40 83 (.head _) (qAu 41 84 (.head _) (qAu 42 85 (.head _) (qAu 43 86 (.head _) (qAu 44 87 (.head _) (qAu 45 88 (.head _) (qAu 46 89 (.head _) (qAk 47 90 (vB true) (.head _) ?_))))))))));cases i;exact qBt kr (qLp _ kr (K _ _ ⟨m7,rfl,q,st.f7.f7.f4.f4.f7.f7.f7.f7,r6,r7,r8,r5,r4⟩))
        ·rw[if_neg (not_true A)] at i;refine qGm (t:=79) (b:=false) (x3.1 !=x1.2.2.1) kr A ?_;refine qDt 28 4 37 80 0 (.agg #[vS a5 y2.2 c5]) (.head _) (fun _ h=>h.2.2.2.1) (qAk 38 81 (vP b4 2) (.head _) (qDt 3 81 39 82 2 (vI x1.2.2.1) (.head _) (fun _ h=>h.2.2.1) (qAk 40 83 (vP b4 0) (.head _) (qDt 9 83 41 84 0 (vT x1.1) (.head _) (fun _ h=>h.2.2.1) (qAk 42 85 (vP b4 1) (.head _) (qDt 9 85 43 86 1 (vT x1.2.1) (.head _) (fun _ h=>h.2.2.1) (qDt 73 7 45 88 0 (.agg (Vc x1)) (.head _) (fun _ h=>h.2.2.1) (qBf 44 kr (qCg 87 i (fun _ h=>qPc st r5 h) ?_)))))))));rintro y5 i _ w16 ⟨m9,rfl,e6,st⟩;refine⟨_,rfl,?_⟩;have hmS1:=Mem.le_trans hmS1 e6;refine⟨⟨.inr ⟨Inv.anti st.inv hmS1,Piece.holds_anti st.h hmS1,Piece.holds_anti st.t.t.t.h hmS1,Piece.holds_anti st.t.t.t.t.h hmS1,trivial⟩,trivial⟩,?_⟩;refine qBf 46 kr (zGb (d:=89) (t:=73) (t2:=73) (x:=(.tmp 87)) (y:=(.tmp 88)) (xs:=(Vc y5)) (ys:=(Vc x1)) ((y5.1.toList==x1.1.toList)&&((y5.2.1.toList==x1.2.1.toList)&&((y5.2.2.1==x1.2.2.1)&&((y5.2.2.2.1.toList==x1.2.2.2.1.toList)&&((y5.2.2.2.2.1==x1.2.2.2.2.1)&&((y5.2.2.2.2.2==x1.2.2.2.2.2)&&true)))))) kr rfl (ev (.agg (Vc y5))) (ev (.agg (Vc x1))) kr kr kr (⟨⟨.inr ⟨Inv.anti st.inv hmS1,Piece.holds_anti st.h hmS1,Piece.holds_anti st.t.t.t.h hmS1,Piece.holds_anti st.t.t.t.t.h hmS1,trivial⟩,trivial⟩,?_⟩))
         refine qAk 47 90 (vB (!((y5.1.toList==x1.1.toList)&&((y5.2.1.toList==x1.2.1.toList)&&((y5.2.2.1==x1.2.2.1)&&((y5.2.2.2.1.toList==x1.2.2.2.1.toList)&&((y5.2.2.2.2.1==x1.2.2.2.2.1)&&((y5.2.2.2.2.2==x1.2.2.2.2.2)&&true)))))))) (.head _) ?_;cases i;exact qBt kr (qLp _ kr (K _ _ ⟨m9,rfl,q.t e6,st.f7.f7.f4.f4.f7.f7.f7.f7,r6.mono e6,r7.mono e6,r8.mono e6,r5.mono e6,r4.mono e6⟩))
  ·intro A i;refine qDh (qAh ?_);cases i;have ho:=hBu1 _ rfl;have st:=st.f3.f3.f3.f3;refine qAh ?_;exact xE (K0_u1 _ _ ⟨s1.1,m6,ho,rfl,q,st,r5,r4⟩)
end
end Go.Proofs.YtcdpbapbpcpflaaGreatDoor
section
namespace Go.Dc
theorem qYb{σ β:Type}{f:σ→Option (σ⊕β)}(st:Nat→σ)(k:Nat)(res:β)(step:∀i,i<k→f (st i)=some (.inl (st (i+1))))(stop:f (st k)=some (.inr res)){N:Nat}(hN:k<N):qBj f N (st 0)=some res:=by
 have key:∀d i M,i+d=k→d<M→qBj f M (st i)=some res:=by
  intro d
  induction d with
  |zero=>intro i M h hM;obtain⟨M',rfl⟩:∃M',M=M'+1:=⟨M-1,by omega⟩;simp only[fJ] at h;subst h;simp[qBj,stop]
  |succ d ih=>
   intro i M h hM
   obtain⟨M',rfl⟩:∃M',M=M'+1:=⟨M-1,by omega⟩
   have:=ih (i+1) M' (by omega) (by omega)
   simp[qBj,step i (by omega),this]
 exact key k 0 N (by omega) hN
section
variable {ν:Type}
theorem zBi{l:List (Int×ν)}{k c:Int}{v:ν}(h:c≠k):mget (l.map fun p=>if k=p.1 then(k,v) else p) c=mget l c:=by
 induction l with
 |nil=>rfl
 |cons p l ih=>
  simp only[jT,mget]
  by_cases hk:k=p.1
  ·subst hk;rw[if_pos rfl,if_neg h,if_neg h,ih]
  ·rw[if_neg hk,ih]
theorem zCm{l:List (Int×ν)}{k:Int}{v:ν}(h:(mget l k).isSome=true):mget (l.map fun p=>if k=p.1 then(k,v) else p) k=some v:=by
 induction l with
 |nil=>cases h
 |cons p l ih=>
  simp only[jT,mget] at h ⊢
  by_cases hk:k=p.1
  ·subst hk;simp
  ·rw[if_neg hk] at h ⊢
   rw[if_neg hk]
   exact ih h
theorem zGy{l:List (Int×ν)}{k:Int}{v:ν}(h:mget l k=none)(c:Int):mget (mins l k v) c=if c=k then some v else mget l c:=by
 induction l with
 |nil=>rfl
 |cons p l ih=>
  simp only[mget] at h
  split at h
  ·cases h
  ·rename_i hk
   simp only[mins]
   split
   ·simp only[mget]
   ·simp only[mget,ih h]
    by_cases hc:c=k
    ·subst hc;simp[hk]
    ·simp[hc]
theorem zIk(l:List (Int×ν))(k:Int)(v:ν)(c:Int):mget (mset l k v) c=if c=k then some v else mget l c:=by
 unfold mset
 split
 ·rename_i h
  split
  ·rename_i hc;subst hc;exact zCm h
  ·rename_i hc;exact zBi hc
 ·rename_i h
  exact zGy (by simpa using h) c
def Srt(l:List (Int×ν)):Prop:=(l.map (·.1)).Pairwise (· < ·)
theorem Srt.nil:Srt ([]:List (Int×ν)):=List.Pairwise.nil
theorem Srt.mins{l:List (Int×ν)}{k:Int}{v:ν}(hs:Srt l)(h:mget l k=none):Srt (mins l k v):=by
 induction l with
 |nil=>simp[Srt,Go.Dc.mins]
 |cons p l ih=>
  have hs':=hs
  simp only[Srt,jT,jQ] at hs
  simp only[mget] at h
  split at h
  ·cases h
  ·rename_i hk
   simp only[Go.Dc.mins]
   split
   ·rename_i hlt
    have hlt:k<p.1:=by simpa[KOrd.lt] using hlt
    refine jQ.2 ⟨fun a ha=> ?_,hs'⟩
    simp only[jT,jH] at ha
    rcases ha with rfl|ha
    ·exact hlt
    ·exact Int.lt_trans hlt (hs.1 a ha)
   ·rename_i hlt
    have hlt:¬k<p.1:=by simpa[KOrd.lt] using hlt
    refine jQ.2 ⟨fun a ha=> ?_,ih hs.2 h⟩
    obtain⟨q,hq,rfl⟩:=kZ.1 ha
    rcases jH.1 ((zAn l k v).mem_iff.1 hq) with rfl|hq
    ·show p.1<k;omega
    ·exact hs.1 _ (kW hq)
theorem Srt.mset{l:List (Int×ν)}(hs:Srt l)(k:Int)(v:ν):Srt (mset l k v):=by
 unfold Go.Dc.mset
 split
 ·unfold Srt
  have:(l.map fun p=>if k=p.1 then(k,v) else p).map (·.1)=l.map (·.1):=by
   rw[fR]
   refine kP fun p _=> ?_
   simp only[Function.comp_apply]
   split
   ·rename_i h;exact h
   ·rfl
  rw[this];exact hs
 ·rename_i h
  exact hs.mins (by simpa using h)
theorem Srt.out{l:List (Int×ν)}{c:Int}(h:∀a∈l.map (·.1),c<a):mget l c=none:=by
 rw[qPy];intro hm;exact Int.lt_irrefl _ (h c hm)
theorem Srt.ext:∀{l k:List (Int×ν)},Srt l→Srt k→(∀c,mget l c=mget k c)→l=k
 |[],[],_,_,_=>rfl
 |[],q::k,_,_,h=>by have:=h q.1;simp[mget] at this
 |p::l,[],_,_,h=>by have:=h p.1;simp[mget] at this
 |p::l,q::k,hl,hk,h=>by
  have hl':(∀a∈l.map (·.1),p.1<a)∧Srt l:=jQ.1 hl
  have hk':(∀a∈k.map (·.1),q.1<a)∧Srt k:=jQ.1 hk
  have h1:p.1=q.1:=by
   rcases Int.lt_trichotomy p.1 q.1 with hlt|he|hlt
   ·have:=h p.1
    rw[Srt.out (l:=q::k) (c:=p.1)] at this
    ·simp[mget] at this
    ·intro a ha
     rcases jH.1 ha with rfl|ha
     ·exact hlt
     ·exact Int.lt_trans hlt (hk'.1 a ha)
   ·exact he
   ·have:=h q.1
    rw[Srt.out (l:=p::l) (c:=q.1)] at this
    ·simp[mget] at this
    ·intro a ha
     rcases jH.1 ha with rfl|ha
     ·exact hlt
     ·exact Int.lt_trans hlt (hl'.1 a ha)
  have h2:p.2=q.2:=by have:=h p.1;simpa[mget,h1] using this
  have h3:l=k:=by
   refine Srt.ext hl'.2 hk'.2 fun c=> ?_
   by_cases hc:c=p.1
   ·rw[Srt.out (l:=l) (fun a ha=>hc▸hl'.1 a ha),Srt.out (l:=k) (fun a ha=>by rw[hc,h1];exact hk'.1 a ha)]
   ·have:=h c
    simpa[mget,hc,h1▸hc] using this
  rw[h3,Prod.ext h1 h2]
def qNl(v:ν)(m:List (Int×ν))(xs:List UInt8):List (Int×ν):=xs.foldl (fun m x=>mset m (x.toNat:Int) v) m
theorem qXh{v:ν}:∀{xs:List UInt8} {m:List (Int×ν)},Srt m→Srt (qNl v m xs)
 |[],_,h=>h
 |_::xs,_,h=>qXh (xs:=xs) (h.mset _ _)
theorem qXm{v:ν}(c:Int):∀(xs:List UInt8) (m:List (Int×ν)),mget (qNl v m xs) c=if xs.any (fun x=>decide ((x.toNat:Int)=c))=true then some v else mget m c
 |[],m=>by simp[qNl]
 |x::xs,m=>by
  have:=qXm (v:=v) c xs (mset m (x.toNat:Int) v)
  rw[show qNl v m (x::xs)=qNl v (mset m (x.toNat:Int) v) xs from rfl,this,zIk]
  by_cases h1:xs.any (fun x=>decide ((x.toNat:Int)=c))=true
  ·simp[h1]
  ·by_cases h2:(x.toNat:Int)=c
   ·subst h2;simp[h1]
   ·have h3:¬c=(x.toNat:Int):=fun e=>h2 e.symm
    simp[h1,h2,h3]
end
end Go.Dc
namespace Go.Proofs.YtcdpbapbpcpflaaGreatDoor
open Go Go.Dc
def allK:List (Int×ByteArray):=[(1,⟨#[97,98,99,100,101,102,103,104,105,106,107,108,109,110,111,112,113,114,115,116,117,118,119,120,121,122]⟩),(2,⟨#[48,49,50,51,52,53,54,55,56,57]⟩),(3,⟨#[95]⟩),(4,⟨#[46]⟩),(5,⟨#[9,10,13,32]⟩),(6,⟨#[35]⟩),(7,⟨#[34]⟩),(8,⟨#[59,44,40,41,43,45,42,47,37,60,61]⟩)]
def kdL:List (Int×Int):=[(9,5),(10,5),(13,5),(32,5),(34,7),(35,6),(37,8),(40,8),(41,8),(42,8),(43,8),(44,8),(45,8),(46,4),(47,8),(48,2),(49,2),(50,2),(51,2),(52,2),(53,2),(54,2),(55,2),(56,2),(57,2),(59,8),(60,8),(61,8),(95,3),(97,1),(98,1),(99,1),(100,1),(101,1),(102,1),(103,1),(104,1),(105,1),(106,1),(107,1),(108,1),(109,1),(110,1),(111,1),(112,1),(113,1),(114,1),(115,1),(116,1),(117,1),(118,1),(119,1),(120,1),(121,1),(122,1)]
def kdI(c:Int):Int:=(mget kdL c).getD 0
def inE(e:Int×ByteArray)(c:Int):Bool:=e.2.data.toList.any fun x=>decide ((x.toNat:Int)=c)
def layK(m:List (Int×Int))(k:List (Int×ByteArray)):List (Int×Int):=k.foldl (fun m e=>qNl e.1 m e.2.data.toList) m
theorem zDm:∀{k:List (Int×ByteArray)} {m:List (Int×Int)},Srt m→Srt (layK m k)
 |[],_,h=>h
 |_::k,_,h=>zDm (k:=k) (qXh h)
theorem zDf(c:Int):∀(k:List (Int×ByteArray)) (m:List (Int×Int)),(∀e∈k,inE e c=true→e.1=kdI c)→(∀v,mget m c=some v→v=kdI c)→
  mget (layK m k) c=if(k.any fun e=>inE e c)=true then some (kdI c) else mget m c
 |[],m,_,_=>by simp[layK]
 |e::k,m,h,hm=>by
  have hg:=qXm (v:=e.1) c e.2.data.toList m
  have:=zDf c k (qNl e.1 m e.2.data.toList) (fun e' he=>h e' (jK _ he)) (fun v hv=>by
   rw[hg] at hv
   split at hv
   ·rename_i hi
    rw[←jD hv]
    exact h e (jI ..) hi
   ·exact hm v hv)
  rw[show layK m (e::k)=layK (qNl e.1 m e.2.data.toList) k from rfl,this,hg]
  by_cases h1:(k.any fun e=>inE e c)=true
  ·simp[h1]
  ·by_cases h2:inE e c=true
   ·have:=h e (jI ..) h2
    have h2':(e.2.data.toList.any fun x=>decide ((x.toNat:Int)=c))=true:=h2
    simp only[List.any_cons,h2,Bool.true_or,jR,h1,h2',this]
    simp
   ·have h2':(e.2.data.toList.any fun x=>decide ((x.toNat:Int)=c))=false:=by simpa[inE] using h2
    simp only[List.any_cons,h1,h2',Bool.or_false,jC,jP]
    simp[h2]
theorem zDw:(allK.all fun e=>e.2.data.toList.all fun x=>decide (e.1=kdI (x.toNat:Int)))=true∧(kdL.all fun p=>allK.any fun e=>inE e p.1)=true:=⟨by kernel_rfl,by kernel_rfl⟩
theorem kd_in{e:Int×ByteArray}{c:Int}(he:e∈allK)(h:inE e c=true):e.1=kdI c:=by
 have:=jS.1 zDw.1 e he
 obtain⟨x,hx,hc⟩:=gX.1 h
 have h2:=jS.1 this x hx
 have hc:(x.toNat:Int)=c:=by simpa using hc
 subst hc
 simpa using h2
theorem zMf(c:Int):mget kdL c=if(allK.any fun e=>inE e c)=true then some (kdI c) else none:=by
 cases h:mget kdL c with
 |none=>
  rw[if_neg]
  intro ha
  obtain⟨e,he,hi⟩:=gX.1 ha
  have h1:=kd_in he hi
  have h0:kdI c=0:=by simp[kdI,h]
  have:(allK.all fun e=>decide (e.1≠0))=true:=by kernel_rfl
  have:=jS.1 this e he
  simp[h1,h0] at this
 |some v=>
  have hm:(c,v)∈kdL:=(qSf (l:=kdL) (by
   have:decide ((kdL.map (·.1)).Nodup)=true:=by kernel_rfl
   simpa using this)).1 h
  have:=jS.1 zDw.2 _ hm
  rw[if_pos this]
  simp[kdI,h]
theorem zLp:Srt kdL:=by
 have:decide ((kdL.map (·.1)).Pairwise (· < ·))=true:=by kernel_rfl
 simpa[Srt] using this
theorem zGz{k:List (Int×ByteArray)}(h:k.Perm allK):layK [] k=kdL:=by
 refine Srt.ext (zDm Srt.nil) zLp fun c=> ?_
 rw[zDf c k [] (fun e he hi=>kd_in (h.mem_iff.1 he) hi) (fun v hv=>by cases hv),zMf]
 have:(k.any fun e=>inE e c)=(allK.any fun e=>inE e c):=by
  rw[kF,gX,gX]
  exact⟨fun⟨e,he,hi⟩=>⟨e,h.mem_iff.1 he,hi⟩,fun⟨e,he,hi⟩=>⟨e,h.mem_iff.2 he,hi⟩⟩
 rw[this]
 rfl
theorem zIo{N:Nat}{e:Int×ByteArray}(m:List (Int×Int))(he:e.2.size≤26)(hN:30<N):qEr N (some e) (some m)=some (.inl (some (qNl e.1 m e.2.data.toList))):=by
 have hsz:e.2.data.toList.length=e.2.size:=by simp
 have hb:bytesOf e.2=some e.2.data.toList:=by unfold bytesOf;rw[if_pos (by simp only[maxLen];omega)]
 simp only[qEr,hb,j0]
 have key:=qYb (f:=qIr N e e.2.data.toList) (fun i=>((i:Int),some (qNl e.1 m (e.2.data.toList.take i)))) e.2.data.toList.length (some (qNl e.1 m e.2.data.toList)) (fun i hi=> ?_) ?_ (N:=N) (by omega)
 ·simp only[Int.natCast_zero,List.take_zero] at key
  rw[show qNl e.1 m []=m from rfl] at key
  rw[key];rfl
 ·simp only[qIr]
  rw[if_pos (by simpa using hi),qDs hi]
  simp only[j0,qJe,jY]
  rw[wi64 (by omega) (by omega),kU hi]
  simp[qNl]
 ·simp only[qIr]
  rw[if_neg (by simp),fG]
theorem qWq{N:Nat}(hN:30<N):∀(k:List (Int×ByteArray)) (m:List (Int×Int)),(∀e∈k,e.2.size≤26)→qKn (qEr N) k (some m)=some (some (layK m k))
 |[],m,_=>by simp[qKn,qEr,layK]
 |e::k,m,h=>by
  have:=qWq hN k (qNl e.1 m e.2.data.toList) (fun e' he=>h e' (jK _ he))
  simp only[qKn,zIo m (h e (jI ..)) hN,j0,this]
  rfl
theorem qYl{N:Nat}(hN:30<N):qKc N=some (some kdL):=by
 have h8:∀e∈allK,e.2.size≤26:=by
  have:(allK.all fun e=>decide (e.2.size≤26))=true:=by kernel_rfl
  intro e he
  simpa using jS.1 this e he
 have key:qRw (qEr N) allK (some [])=some (some kdL):=zAu fun k hk=>by
  rw[qWq hN k [] (fun e he=>h8 e (hk.mem_iff.1 he)),zGz hk]
 have h1:qKc N=(qRw (qEr N) allK (some [])).bind fun o1=>some o1:=by kernel_rfl
 rw[h1,key];rfl
end Go.Proofs.YtcdpbapbpcpflaaGreatDoor
end
namespace Go.Proofs.YtcdpbapbpcpflaaGreatDoor
section
open Go Go.Dc
theorem qCk(s:ByteArray):s.data.toList.length=s.size:=by simp
theorem qMq{s:ByteArray}{i:Nat}(h:i<s.data.toList.length):idxB s (i:Int)=some (s.data.toList[i]):=by
 have h':i<s.size:=by simpa using h
 rw[qXs h']
 simp[ByteArray.getElem_eq_getElem_data]
def tw(p:UInt8→Bool)(l:List UInt8)(a:Nat):Nat:=a+((l.drop a).takeWhile p).length
section
variable {p:UInt8→Bool} {l:List UInt8} {a:Nat}
theorem qRu(h:a≤l.length):a≤tw p l a∧tw p l a≤l.length:=by
 have:=(fM p (l:=l.drop a)).length_le
 simp only[gH] at this
 unfold tw;omega
theorem qSo(h:a<l.length)(hb:p l[a]=true):tw p l (a+1)=tw p l a:=by
 unfold tw
 rw[jV h,gF hb]
 simp only[jA];omega
theorem qUr(h:a<l.length)(hb:p l[a]=false):tw p l a=a:=by
 unfold tw
 rw[jV h,fE (by simp[hb])]
 simp
theorem zDn(h:l.length≤a):tw p l a=a:=by
 unfold tw
 rw[k8 h];rfl
theorem zGt:∀(d a:Nat),a+d=l.length→∀h:tw p l a<l.length,p (l[tw p l a]'h)=false
 |0,a,hd,h=>by rw[zDn (by omega)] at h;omega
 |d+1,a,hd,h=>by
  have ha:a<l.length:=by omega
  cases hb:p l[a] with
  |true=>
   have e:=qSo ha hb
   have:=zGt d (a+1) (by omega) (by rw[e];exact h)
   simpa only[e] using this
  |false=>
   have e:=qUr ha hb
   simpa only[e] using hb
theorem zFs{β:Type}{f:Int→Option (Int⊕β)}(out:Nat→β)(go:∀i:Nat,∀h:i<l.length,p l[i]=true→f (i:Int)=some (.inl ((i:Int)+1)))
  (no:∀i:Nat,∀h:i<l.length,p l[i]=false→f (i:Int)=some (.inr (out i))) (en:f (l.length:Int)=some (.inr (out l.length))):
  ∀(d a N:Nat),a+d=l.length→d<N→qBj f N (a:Int)=some (out (tw p l a))
 |d,a,0,_,h=>by omega
 |0,a,N+1,hd,h=>by
  have:a=l.length:=by omega
  subst this
  rw[zDn (jN _)];simp[qBj,en]
 |d+1,a,N+1,hd,h=>by
  have ha:a<l.length:=by omega
  cases hb:p l[a] with
  |true=>
   have:=zFs out go no en d (a+1) N (by omega) (by omega)
   rw[qSo ha hb] at this
   simpa[qBj,go a ha hb] using this
  |false=>
   rw[qUr ha hb];simp[qBj,no a ha hb]
end
def kd(c:UInt8):Int:=kdI (c.toNat:Int)
def inK(ks:List Int)(c:UInt8):Bool:=ks.any fun k=>kd c==k
theorem qWk{N:Nat}{s:ByteArray}{ks:List Int}{i:Nat}(h:i<s.data.toList.length)(hk:ks.length≤10)(hN:10<N):qBj (qIm N s (some kdL) ks (i:Int)) N (false,0)=some (inK ks (s.data.toList[i])):=by
 have key:=qYb (f:=qIm N s (some kdL) ks (i:Int)) (fun j=>((ks.take j).any (fun k=>kd (s.data.toList[i])==k),(j:Int))) ks.length (inK ks (s.data.toList[i])) (fun j hj=> ?_) ?_ (N:=N) (by omega)
 ·simpa using key
 ·simp only[qIm]
  rw[if_pos (by simpa using hj),qDs hj,qMq h]
  simp only[j0]
  rw[wi64 (by omega) (by omega),kU hj,List.any_append]
  cases(ks.take j).any (fun k=>kd (s.data.toList[i])==k)
  ·simp[kd,kdI,qAl]
  ·simp
 ·simp only[qIm]
  rw[if_neg (by simp),fG]
  rfl
theorem qUe{N:Nat}{s:ByteArray}{ks:List Int}{i:Nat}(hi:i≤s.data.toList.length)(hl:s.data.toList.length<1000000)(hk:ks.length≤10)(hN:s.data.toList.length+10<N):
  qIq N s (i:Int) (some kdL) ks=some ((tw (inK ks) s.data.toList i:Nat):Int):=by
 have hs:=qCk s
 have key:=zFs (f:=qIj N s (some kdL) ks) (l:=s.data.toList) (p:=inK ks) (fun n=>(n:Int)) (fun j hj hb=>by
   simp only[qIj]
   rw[if_pos (by simp only[j9];omega),qWk hj hk (by omega),hb]
   simp only[j0]
   rw[wi64 (by omega) (by omega)]
   rfl) (fun j hj hb=>by
   simp only[qIj]
   rw[if_pos (by simp only[j9];omega),qWk hj hk (by omega),hb]
   rfl) (by
   simp only[qIj]
   rw[if_neg (by simp only[j9];omega)]) (s.data.toList.length-i) i N (by omega) (by omega)
 unfold qIq
 rw[key]
 rfl
end
section
open Go Go.Dc
theorem zGv(c:UInt8):(qAl (some kdL) (c.toNat:Int)).getD 0=kd c:=rfl
theorem qKe{l:List UInt8}{i:Nat}(h:i<l.length):l.getD i 0=l[i]:=by simp[kA,h]
theorem zCp{β:Type}{p:UInt8→Bool}{l:List UInt8}{a0:Nat}{f:Int→Option (Int⊕β)}(out:Nat→β)(go:∀i:Nat,∀h:i<l.length,p l[i]=true→f (i:Int)=some (.inl ((i:Int)+1)))
  (no:∀i:Nat,∀h:i<l.length,a0≤i→p l[i]=false→f (i:Int)=some (.inr (out i))) (en:f (l.length:Int)=some (.inr (out l.length))):
  ∀(d a N:Nat),a0≤a→a+d=l.length→d<N→qBj f N (a:Int)=some (out (tw p l a))
 |d,a,0,_,_,h=>by omega
 |0,a,N+1,_,hd,h=>by
  have:a=l.length:=by omega
  subst this
  rw[zDn (jN _)];simp[qBj,en]
 |d+1,a,N+1,h0,hd,h=>by
  have ha:a<l.length:=by omega
  cases hb:p l[a] with
  |true=>
   have:=zCp out go no en d (a+1) N (by omega) (by omega) (by omega)
   rw[qSo ha hb] at this
   simpa[qBj,go a ha hb] using this
  |false=>
   rw[qUr ha hb];simp[qBj,no a ha h0 hb]
def numS(n:Int)(c:UInt8):Int:=if 9007199254740993<10*n+((c.toNat:Int)-48) then 9007199254740993 else 10*n+((c.toNat:Int)-48)
def numL(ds:List UInt8):Int:=ds.foldl numS 0
def qVz(c:UInt8):Bool:=decide (32≤c.toNat)&&decide (c.toNat≤126)&&c !=34
def zGj:Int×ByteArray×Int×Int:=(0,⟨#[]⟩,0,0)
def zAs(l:List UInt8)(i:Nat):Nat:=if l.getD i 0=61∧l.getD (i+1) 0=61 then i+2 else i+1
def tokP(s:ByteArray)(i:Nat):(Int×ByteArray×Int×Int)×Int×Int:=
 if kd (s.data.toList.getD i 0)=1 then
  if tw (inK [1,2,3]) s.data.toList i-i>24 then(zGj,0,2) else((1,s.extract i (tw (inK [1,2,3]) s.data.toList i),0,0),((tw (inK [1,2,3]) s.data.toList i:Nat):Int),0)
 else if kd (s.data.toList.getD i 0)=2 then
  if numL ((s.data.toList.drop i).takeWhile (inK [2]))>9007199254740992 then(zGj,0,3) else((2,⟨#[]⟩,numL ((s.data.toList.drop i).takeWhile (inK [2])),0),((tw (inK [2]) s.data.toList i:Nat):Int),0)
 else if kd (s.data.toList.getD i 0)=7 then
  if s.data.toList.getD (tw qVz s.data.toList (i+1)) 0=34 then((3,s.extract (i+1) (tw qVz s.data.toList (i+1)),0,0),((tw qVz s.data.toList (i+1)+1:Nat):Int),0) else(zGj,0,9)
 else if kd (s.data.toList.getD i 0)=8 then
  ((4,s.extract i (zAs s.data.toList i),0,0),((zAs s.data.toList i:Nat):Int),0)
 else(zGj,0,9)
theorem zDu:∀c:UInt8,kd c=2→48≤c.toNat∧c.toNat≤57:=by
 have h:((List.range 256).all fun n=> !(decide (kd (UInt8.ofNat n)=2))||(decide (48≤n)&&decide (n≤57)))=true:=by kernel_rfl
 intro c hc
 have:=jS.1 h c.toNat (gY.2 c.toNat_lt)
 simpa[hc] using this
theorem qXt{s:ByteArray}{p:UInt8→Bool}{i:Nat}:(s.extract i (tw p s.data.toList i)).data.toList=(s.data.toList.drop i).takeWhile p:=by
 simp only[ByteArray.data_extract,fF]
 have h:=List.prefix_iff_eq_take.1 (List.takeWhile_prefix p (l:=s.data.toList.drop i))
 rw[gL,show tw p s.data.toList i-i=((s.data.toList.drop i).takeWhile p).length by unfold tw;omega]
 exact h.symm
theorem qZt(l:List UInt8)(c:UInt8):numL (l++[c])=numS (numL l) c:=by simp[numL]
theorem zIe{p:UInt8→Bool}:∀{l:List UInt8} {c:UInt8},c∈l.takeWhile p→p c=true
 |[],_,h=>by simp at h
 |x::l,c,h=>by
  cases hx:p x with
  |true=>
   rw[gF hx] at h
   rcases jH.1 h with rfl|h
   ·exact hx
   ·exact zIe h
  |false=>rw[fE (by simp[hx])] at h;cases h
theorem zKc{N:Nat}{ds:List UInt8}(hd:∀c∈ds,kd c=2)(hl:ds.length<1000000)(hN:ds.length<N):qBj (qHl N ds) N (0,0)=some (numL ds):=by
 have hb:∀j,j≤ds.length→0≤numL (ds.take j)∧numL (ds.take j)≤9007199254740993:=by
  intro j
  induction j with
  |zero=>intro _;simp[numL]
  |succ j ih=>
   intro hj
   have:=ih (by omega)
   rw[kU (by omega)]
   have hc:=zDu _ (hd _ (jX (show j<ds.length by omega)))
   rw[qZt]
   unfold numS
   split<;>omega
 have key:=qYb (f:=qHl N ds) (fun j=>(numL (ds.take j),(j:Int))) ds.length (numL ds) (fun j hj=> ?_) ?_ (N:=N) (by omega)
 ·exact key
 ·have hc:=zDu _ (hd _ (jX hj))
  have h0:=hb j (by omega)
  simp only[qHl]
  rw[if_pos (by simpa using hj),qDs hj]
  simp only[j0]
  rw[wu8 (by omega) (by omega),wi64 (x:=10*numL (ds.take j)) (by omega) (by omega),wi64 (x:=((ds[j]).toNat:Int)-48) (by omega) (by omega),wi64 (x:=(j:Int)+1) (by omega) (by omega),wi64 (by omega) (by omega),kU hj,qZt]
  rfl
 ·simp only[qHl]
  rw[if_neg (by simp),fG]
theorem qNj{s:ByteArray}{i e:Nat}(h1:i≤e)(h2:e≤s.data.toList.length):subB s (i:Int) (e:Int)=some (s.extract i e):=by
 have:=qCk s
 rw[qQa (by omega) (by omega) (by omega)]
 simp
theorem zLv{N:Nat}{s:ByteArray}{i j:Nat}(hj:j<s.data.toList.length)(hl:s.data.toList.length<1000000)(hb:qVz (s.data.toList[j])=true):qFx N s (i:Int) (j:Int)=some (.inl ((j:Int)+1)):=by
 have hs:=qCk s
 simp only[qVz,jU,j9,bne_iff_ne,ne_eq] at hb
 obtain⟨⟨h1,h2⟩,h3⟩:=hb
 have h3':¬((s.data.toList[j]).toNat:Int)=34:=fun e=>h3 (UInt8.toNat_inj.1 (by show _=34;omega))
 simp only[qFx,qMq hj,j0]
 rw[if_pos (by simp only[j9];omega),if_pos (by simp only[j9];omega)]
 simp only[j0]
 rw[if_pos (by simp only[j9];omega),if_neg (by simpa using h3'),wi64 (by omega) (by omega)]
theorem zLy{N:Nat}{s:ByteArray}{i j:Nat}(hi:i<s.data.toList.length)(hj:j<s.data.toList.length)(hl:s.data.toList.length<1000000)(hij:i+1≤j)(hb:qVz (s.data.toList[j])=false):
  qFx N s (i:Int) (j:Int)=some (.inr (if s.data.toList.getD j 0=34 then(.inr ((3,s.extract (i+1) j,0,0),((j+1:Nat):Int),0)) else(.inl ()))):=by
 have hs:=qCk s
 simp only[qFx,qMq hj,j0,qKe hj]
 rw[if_pos (by simp only[j9];omega)]
 by_cases h34:s.data.toList[j]=34
 ·rw[h34]
  simp only[show((34:UInt8).toNat:Int)=34 from rfl]
  rw[wi64 (x:=(i:Int)+1) (by omega) (by omega),wi64 (by omega) (by omega),←Int.natCast_succ,qNj hij (by omega)]
  rfl
 ·have h3':¬((s.data.toList[j]).toNat:Int)=34:=fun e=>h34 (UInt8.toNat_inj.1 (by show _=34;omega))
  rw[if_neg h34]
  simp only[qVz,Bool.and_eq_false_iff,decide_eq_false_iff_not,bne_eq_false_iff_eq,h34,or_false] at hb
  by_cases h1:32≤(s.data.toList[j]).toNat
  ·rw[if_pos (by simp only[j9];omega)]
   simp only[j0]
   rw[if_neg (by simp only[j9];omega)]
  ·rw[if_neg (by simp only[j9];omega)]
   simp
theorem qUi{s:ByteArray}{i:Nat}(h1:i≤s.data.toList.length):subB s (i:Int) (s.size:Int)=some (s.extract i s.data.toList.length):=by
 have hs:=qCk s
 rw[←qNj h1 (jN _),hs]
theorem qIa(x y:ByteArray):(x.toList==y.toList)=decide (x=y):=by
 rw[kF]
 simp only[kD,j9]
 constructor
 ·intro h
  rw[ByteArray.toList_eq,ByteArray.toList_eq] at h
  exact Go.WideShapes.bytes_inj h
 ·rintro rfl;rfl
theorem zFh{N:Nat}{s:ByteArray}{i:Nat}(hi:i<s.data.toList.length):qIb N (s.extract i s.data.toList.length) (⟨#[61,61]⟩:ByteArray)=some (decide (s.data.toList.getD i 0=61∧s.data.toList.getD (i+1) 0=61)):=by
 have hs:=qCk s
 have hsz:(s.extract i s.data.toList.length).size=s.data.toList.length-i:=by rw[ByteArray.size_extract];omega
 simp only[qIb,qDz,hsz,show(⟨#[61,61]⟩:ByteArray).size=2 from rfl]
 by_cases h:i+1<s.data.toList.length
 ·have hd:((s.extract i s.data.toList.length).extract 0 2).data.toList=[s.data.toList[i],s.data.toList[i+1]]:=by
   simp only[ByteArray.data_extract,fF,gL,kI]
   rw[List.take_take,jV hi,jV h]
   have:min (2-0) (s.data.toList.length-i)=2:=by omega
   rw[this];rfl
  have hsub:subB (s.extract i s.data.toList.length) 0 ((2:Nat):Int)=some ((s.extract i s.data.toList.length).extract 0 2):=by
   have:=qNj (s:=s.extract i s.data.toList.length) (i:=0) (e:=2) (by omega) (by rw[qCk,hsz];omega)
   simpa only[Int.natCast_zero] using this
  rw[if_pos (by simp only[j9];omega),hsub]
  simp only[j0,qIa]
  rw[qKe hi,qKe h]
  generalize (s.extract i s.data.toList.length).extract 0 2=X at hd
  refine congrArg some (decide_eq_decide.2 ?_)
  constructor
  ·intro e
   rw[e] at hd
   have hd':[(61:UInt8),61]=[s.data.toList[i],s.data.toList[i+1]]:=hd
   simp only[k7,and_true] at hd'
   exact⟨hd'.1.symm,hd'.2.symm⟩
  ·rintro⟨e1,e2⟩
   apply Go.WideShapes.bytes_inj
   rw[hd,e1,e2]
 ·rw[if_neg (by simp only[j9];omega)]
  have h0:s.data.toList.getD (i+1) 0=0:=by rw[kA,List.getElem?_eq_none (by omega)];rfl
  rw[h0]
  simp
theorem zJv{N:Nat}{s:ByteArray}{i:Nat}(hi:i<s.data.toList.length)(hl:s.data.toList.length<1000000)(hN:s.data.toList.length+20<N):qMp N s (i:Int) (some kdL)=some (tokP s i):=by
 have hs:=qCk s
 simp only[qMp,qMq hi,j0,zGv,tokP,qKe hi,kD]
 by_cases h1:kd (s.data.toList[i])=1
 ·simp only[h1,jR]
  have hb:=qRu (p:=inK [1,2,3]) (l:=s.data.toList) (a:=i) (by omega)
  rw[qUe (by omega) hl (by simp) (by omega)]
  simp only[j0]
  rw[wi64 (by omega) (by omega),qNj hb.1 hb.2]
  by_cases h:tw (inK [1,2,3]) s.data.toList i-i>24
  ·rw[if_pos (by simp only[j9];omega),if_pos h];rfl
  ·rw[if_neg (by simp only[j9];omega),if_neg h];rfl
 simp only[h1,jP]
 by_cases h2:kd (s.data.toList[i])=2
 ·simp only[h2,jR]
  have hb:=qRu (p:=inK [2]) (l:=s.data.toList) (a:=i) (by omega)
  have hx:=qCk (s.extract i (tw (inK [2]) s.data.toList i))
  have he:=qXt (s:=s) (p:=inK [2]) (i:=i)
  have hlen:((s.data.toList.drop i).takeWhile (inK [2])).length≤s.data.toList.length:=by
   have:=(fM (inK [2]) (l:=s.data.toList.drop i)).length_le
   simp only[gH] at this;omega
  rw[qUe (by omega) hl (by simp) (by omega)]
  simp only[j0]
  rw[qNj hb.1 hb.2]
  simp only[j0]
  have hbo:bytesOf (s.extract i (tw (inK [2]) s.data.toList i))=some ((s.data.toList.drop i).takeWhile (inK [2])):=by
   unfold bytesOf;rw[←he,if_pos];rw[←hx,he];simp only[maxLen];omega
  rw[hbo]
  simp only[j0]
  rw[zKc (fun c hc=> ?_) (by omega) (by omega)]
  ·simp only[j0,j9]
   split<;>rfl
  ·have:=zIe hc
   simpa[inK] using this
 simp only[h2,jP]
 by_cases h7:kd (s.data.toList[i])=7
 ·simp only[h7,jR]
  have key:=zCp (a0:=i+1) (f:=qFx N s (i:Int)) (l:=s.data.toList) (p:=qVz) (fun e=>if s.data.toList.getD e 0=34 then(.inr ((3,s.extract (i+1) e,0,0),((e+1:Nat):Int),0)) else(.inl ()))
   (fun j hj hb=>zLv hj hl hb) (fun j hj h0 hb=>zLy hi hj hl h0 hb) (by
    simp only[qFx]
    rw[if_neg (by simp only[j9];omega),if_neg (by simp)]
    rfl) (s.data.toList.length-(i+1)) (i+1) N (jN _) (by omega) (by omega)
  rw[wi64 (x:=(i:Int)+1) (by omega) (by omega),←Int.natCast_succ,key]
  simp only[j0]
  split
  ·rename_i h;split at h<;>simp_all [zGj]
  ·rename_i h;split at h<;>simp_all
 simp only[h7,jP]
 by_cases h8:kd (s.data.toList[i])=8
 ·simp only[h8,jR]
  rw[qUi (by omega),wi64 (x:=(i:Int)+1) (by omega) (by omega)]
  simp only[j0]
  rw[zFh hi]
  simp only[j0,j9]
  by_cases h:s.data.toList.getD i 0=61∧s.data.toList.getD (i+1) 0=61
  ·have hlt:i+1<s.data.toList.length:=by
    rcases gR (i+1) s.data.toList.length with h'|h'
    ·exact h'
    ·have h0:s.data.toList.getD (i+1) 0=0:=by rw[kA,List.getElem?_eq_none h'];rfl
     rw[h0] at h;exact absurd h.2 (by decide)
   have hE:zAs s.data.toList i=i+2:=by rw[zAs,if_pos h]
   rw[if_pos h,wi64 (by omega) (by omega),hE]
   simp only[j0]
   rw[show((i:Int)+1+1)=((i+2:Nat):Int) by omega,qNj (by omega) (by omega)]
   rfl
  ·have hE:zAs s.data.toList i=i+1:=by rw[zAs,if_neg h]
   rw[if_neg h,hE]
   simp only[j0]
   rw[←Int.natCast_succ,qNj (by omega) (by omega)]
   rfl
 simp only[h8,jP]
 rfl
end
section
open Go Go.Dc
theorem zKn{p:UInt8→Bool}{l:List UInt8}(h:∀c∈l,p c=true):tw p l 0=l.length:=by
 unfold tw
 have:l.takeWhile p=l:=by
  induction l with
  |nil=>rfl
  |cons c l ih=>rw[gF (h c (jI ..)),ih fun d hd=>h d (jK _ hd)]
 simp[this]
end
section
open Go Go.Dc
abbrev Tok:=Int×ByteArray×Int×Int
theorem zDd{ks:List Int}{k:Int}{c:UInt8}(hk:k∈ks)(h:kd c=k):inK ks c=true:=by
 unfold inK;exact gX.2 ⟨k,hk,by simp[h]⟩
theorem zAr{p:UInt8→Bool}{l:List UInt8}{a:Nat}(h:a<l.length)(hp:p l[a]=true):a<tw p l a:=by
 rw[←qSo h hp];have:=(qRu (p:=p) (l:=l) (a:=a+1) (by omega)).1;omega
theorem zDz{l:List UInt8}{i:Nat}(h:l.getD i 0≠0):i<l.length:=by
 rcases gR i l.length with h'|h'
 ·exact h'
 ·exfalso;apply h;rw[kA,List.getElem?_eq_none h'];rfl
theorem zCn{s:ByteArray}{i:Nat}(hi:i<s.data.toList.length)(h:(tokP s i).2.2=0):∃e:Nat,(tokP s i).2.1=(e:Int)∧i<e∧e≤s.data.toList.length∧
  (((tokP s i).1.1=1∨(tokP s i).1.1=4)∧(tokP s i).1.2.1=s.extract i e∨(tokP s i).1.1=2∧(tokP s i).1.2.1=⟨#[]⟩∨(tokP s i).1.1=3∧(tokP s i).1.2.1.size+i<e):=by
 have hs:=qCk s
 unfold tokP at h ⊢
 rw[qKe hi] at h ⊢
 by_cases h1:kd (s.data.toList[i])=1
 ·rw[if_pos h1] at h ⊢
  split at h
  ·cases h
  ·rename_i h24
   rw[if_neg h24]
   have hb:=qRu (p:=inK [1,2,3]) (l:=s.data.toList) (a:=i) (by omega)
   exact⟨_,rfl,zAr hi (zDd (by simp) h1),hb.2,.inl ⟨.inl rfl,rfl⟩⟩
 rw[if_neg h1] at h ⊢
 by_cases h2:kd (s.data.toList[i])=2
 ·rw[if_pos h2] at h ⊢
  split at h
  ·cases h
  ·rename_i h24
   rw[if_neg h24]
   have hb:=qRu (p:=inK [2]) (l:=s.data.toList) (a:=i) (by omega)
   exact⟨_,rfl,zAr hi (zDd (by simp) h2),hb.2,.inr (.inl ⟨rfl,rfl⟩)⟩
 rw[if_neg h2] at h ⊢
 by_cases h7:kd (s.data.toList[i])=7
 ·rw[if_pos h7] at h ⊢
  split at h
  ·rename_i h24
   rw[if_pos h24]
   have hb:=qRu (p:=qVz) (l:=s.data.toList) (a:=i+1) (by omega)
   have hlt:tw qVz s.data.toList (i+1)<s.data.toList.length:=zDz (by rw[h24];decide)
   refine⟨_,rfl,by omega,by omega,.inr (.inr ⟨rfl,?_⟩)⟩
   simp only[ByteArray.size_extract]
   omega
  ·cases h
 rw[if_neg h7] at h ⊢
 by_cases h8:kd (s.data.toList[i])=8
 ·rw[if_pos h8] at h ⊢
  refine⟨_,rfl,?_,?_,.inl ⟨.inr rfl,rfl⟩⟩
  ·unfold zAs;split<;>omega
  ·unfold zAs
   split
   ·rename_i hh
    have:i+1<s.data.toList.length:=zDz (by rw[hh.2];decide)
    omega
   ·omega
 rw[if_neg h8] at h
 cases h
def qJp(c:UInt8):Bool:=c !=10
def tokG:Nat→ByteArray→Nat→(Int×Int)⊕List Tok
 |0,_,_=> .inr []
 |k+1,s,i=>
  if tw (inK [5]) s.data.toList i=s.data.toList.length then .inr [(5,⟨#[]⟩,0,(s.data.toList.length:Int))]
  else if kd (s.data.toList.getD (tw (inK [5]) s.data.toList i) 0)=6 then tokG k s (tw qJp s.data.toList (tw (inK [5]) s.data.toList i))
  else if(tokP s (tw (inK [5]) s.data.toList i)).2.2≠0 then .inl ((tw (inK [5]) s.data.toList i:Nat),(tokP s (tw (inK [5]) s.data.toList i)).2.2)
  else match tokG k s (tokP s (tw (inK [5]) s.data.toList i)).2.1.toNat with
   | .inl x=> .inl x
   | .inr r=> .inr (((tokP s (tw (inK [5]) s.data.toList i)).1.1,(tokP s (tw (inK [5]) s.data.toList i)).1.2.1,(tokP s (tw (inK [5]) s.data.toList i)).1.2.2.1,((tw (inK [5]) s.data.toList i:Nat):Int))::r)
def zIy(acc:List Tok):(Int×Int)⊕List Tok→List Tok×Int×Int
 | .inl x=>([],x.1,x.2)
 | .inr r=>(acc++r,0,0)
def qHn(s:ByteArray):List Tok×Int×Int:=if s.data.toList.length>16384 then([],0,2) else zIy [] (tokG (s.data.toList.length+1) s 0)
theorem zLd{s:ByteArray}{i:Nat}(hi:i≤s.data.toList.length):
  (if ixB (s.extract i s.data.toList.length) 10<0 then((s.data.toList.length-i:Nat):Int) else ixB (s.extract i s.data.toList.length) 10)=((tw qJp s.data.toList i-i:Nat):Int):=by
 have hs:=qCk s
 have hsz:(s.extract i s.data.toList.length).size=s.data.toList.length-i:=by rw[ByteArray.size_extract];omega
 have hb:=qRu (p:=qJp) (l:=s.data.toList) (a:=i) hi
 have hget:∀j,j<s.data.toList.length-i→(s.extract i s.data.toList.length)[j]! =s.data.toList.getD (i+j) 0:=by
  intro j hj
  have hj':i+j<s.data.toList.length:=by omega
  rw[qKe hj',getElem!_pos _ _ (by rw[hsz];exact hj),ByteArray.getElem_extract]
  simp[ByteArray.getElem_eq_getElem_data]
 have hin:∀d a,a+d=s.data.toList.length→∀j,a≤j→j<tw qJp s.data.toList a→s.data.toList.getD j 0≠10:=by
  intro d
  induction d with
  |zero=>intro a ha j h1 h2;rw[zDn (by omega)] at h2;omega
  |succ d ih=>
   intro a ha j h1 h2
   have hlt:a<s.data.toList.length:=by omega
   cases hc:qJp (s.data.toList[a]) with
   |true=>
    rw[←qSo hlt hc] at h2
    rcases Nat.eq_or_lt_of_le h1 with rfl|h1
    ·rw[qKe hlt];simpa[qJp] using hc
    ·exact ih (a+1) (by omega) j h1 h2
   |false=>rw[qUr hlt hc] at h2;omega
 have hin:=hin (s.data.toList.length-i) i (by omega)
 unfold ixB
 rw[hsz]
 cases hf:(List.range (s.data.toList.length-i)).find? (fun j=>(s.extract i s.data.toList.length)[j]! ==(10:Int).toNat.toUInt8) with
 |none=>
  rw[List.find?_eq_none] at hf
  simp only
  rw[if_pos (by omega)]
  have:¬tw qJp s.data.toList i<s.data.toList.length:=by
   intro hlt
   have h1:=zGt (p:=qJp) (l:=s.data.toList) (s.data.toList.length-i) i (by omega) hlt
   have h2:=hf (tw qJp s.data.toList i-i) (gY.2 (by omega))
   rw[hget _ (by omega),show i+(tw qJp s.data.toList i-i)=tw qJp s.data.toList i by omega,qKe hlt] at h2
   simp only[qJp,bne_eq_false_iff_eq] at h1
   rw[h1] at h2
   exact h2 (by decide)
  omega
 |some k=>
  have h1:=List.find?_some hf
  have hk:k<s.data.toList.length-i:=gY.1 (gK hf)
  simp only
  rw[if_neg (by omega)]
  rw[hget k hk] at h1
  have h1:s.data.toList.getD (i+k) 0=10:=by simpa using h1
  have h2:¬i+k<tw qJp s.data.toList i:=fun h=>hin (i+k) (by omega) h h1
  have h3:¬tw qJp s.data.toList i<i+k:=by
   intro hlt
   have hlt':tw qJp s.data.toList i<s.data.toList.length:=by omega
   have h4:=zGt (p:=qJp) (l:=s.data.toList) (s.data.toList.length-i) i (by omega) hlt'
   have h5:=List.not_of_lt_findIdx (xs:=List.range (s.data.toList.length-i)) (p:=fun j=>(s.extract i s.data.toList.length)[j]! ==(10:Int).toNat.toUInt8) (i:=tw qJp s.data.toList i-i)
   have h6:=(List.find?_range_eq_some.1 hf).2.2 (tw qJp s.data.toList i-i) (by omega)
   rw[hget _ (by omega),show i+(tw qJp s.data.toList i-i)=tw qJp s.data.toList i by omega,qKe hlt'] at h6
   simp only[qJp,bne_eq_false_iff_eq] at h4
   rw[h4] at h6
   simp at h6
  omega
end
section
open Go Go.Dc
theorem qRc{N:Nat}{s:ByteArray}(hl:s.data.toList.length≤16384)(hN:s.data.toList.length+40<N):∀(k M i:Nat) (acc:List Tok),i≤s.data.toList.length→s.data.toList.length<i+k→k≤M→acc.length≤i→
  qBj (qHu N s (some kdL)) M (acc,(i:Int))=some (zIy acc (tokG k s i))
 |0,_,i,_,h1,h2,_,_=>by omega
 |k+1,0,_,_,_,_,h3,_=>by omega
 |k+1,M+1,i,acc,h1,h2,h3,h4=>by
  have hs:=qCk s
  have hb:=qRu (p:=inK [5]) (l:=s.data.toList) (a:=i) h1
  simp only[qBj,tokG]
  have hstep:qHu N s (some kdL) (acc,(i:Int))=if tw (inK [5]) s.data.toList i=s.data.toList.length then some (.inr (acc++[(5,⟨#[]⟩,0,(s.data.toList.length:Int))],0,0))
    else if kd (s.data.toList.getD (tw (inK [5]) s.data.toList i) 0)=6 then some (.inl (acc,((tw qJp s.data.toList (tw (inK [5]) s.data.toList i):Nat):Int)))
    else if(tokP s (tw (inK [5]) s.data.toList i)).2.2≠0 then some (.inr ([],(tw (inK [5]) s.data.toList i:Nat),(tokP s (tw (inK [5]) s.data.toList i)).2.2))
    else some (.inl (acc++[((tokP s (tw (inK [5]) s.data.toList i)).1.1,(tokP s (tw (inK [5]) s.data.toList i)).1.2.1,(tokP s (tw (inK [5]) s.data.toList i)).1.2.2.1,((tw (inK [5]) s.data.toList i:Nat):Int))],(tokP s (tw (inK [5]) s.data.toList i)).2.1)):=by
   simp only[qHu]
   rw[qUe h1 (by omega) (by simp) (by omega)]
   simp only[j0]
   generalize hE:tw (inK [5]) s.data.toList i=e at hb ⊢
   by_cases he:e=s.data.toList.length
   ·rw[if_pos he,if_pos (by rw[kD];omega),qCr (by simp only[jA,jB];omega) (by omega),he]
    rfl
   ·have hlt:e<s.data.toList.length:=by omega
    rw[if_neg he,if_neg (by rw[kD];omega),qMq hlt]
    simp only[j0,zGv,kD,qKe hlt]
    by_cases h6:kd (s.data.toList[e])=6
    ·rw[if_pos h6,if_pos h6,qUi (by omega)]
     have hle:=zLd (s:=s) (i:=e) (by omega)
     have hb2:=qRu (p:=qJp) (l:=s.data.toList) (a:=e) (by omega)
     have hx:(if(decide (ixB (s.extract e s.data.toList.length) 10<0))=true then(some (IntKind.wrap .i64 ((ByteArray.size s:Int)-(e:Int)))) else(some (ixB (s.extract e s.data.toList.length) 10)):Option Int)=some ((tw qJp s.data.toList e-e:Nat):Int):=by
      rw[←hle,wi64 (by omega) (by omega)]
      by_cases hi:ixB (s.extract e s.data.toList.length) 10<0
      ·rw[if_pos (by simpa using hi),if_pos hi];congr 1;omega
      ·rw[if_neg (by simpa using hi),if_neg hi]
     simp only[j0,qJm,qCs]
     rw[hx]
     simp only[j0]
     rw[wi64 (by omega) (by omega)]
     congr 3;omega
    ·rw[if_neg h6,if_neg h6,zJv hlt (by omega) (by omega)]
     simp only[j0,bne_iff_ne]
     by_cases h0:(tokP s e).2.2≠0
     ·rw[if_pos h0,if_pos h0]
     ·rw[if_neg h0,if_neg h0,qCr (by simp only[jA,jB];omega) (by omega)]
      rfl
  rw[hstep]
  by_cases he:tw (inK [5]) s.data.toList i=s.data.toList.length
  ·rw[if_pos he,if_pos he];rfl
  rw[if_neg he,if_neg he]
  have hlt:tw (inK [5]) s.data.toList i<s.data.toList.length:=by omega
  by_cases h6:kd (s.data.toList.getD (tw (inK [5]) s.data.toList i) 0)=6
  ·rw[if_pos h6,if_pos h6]
   have hb2:=qRu (p:=qJp) (l:=s.data.toList) (a:=tw (inK [5]) s.data.toList i) (by omega)
   have hpos:=zAr (p:=qJp) hlt (by
    rw[qKe hlt] at h6
    simp only[qJp,bne_iff_ne,ne_eq]
    intro e;rw[e] at h6;exact absurd h6 (by decide))
   exact qRc hl hN k M _ acc hb2.2 (by omega) (by omega) (by omega)
  rw[if_neg h6,if_neg h6]
  by_cases h0:(tokP s (tw (inK [5]) s.data.toList i)).2.2≠0
  ·rw[if_pos h0,if_pos h0];rfl
  rw[if_neg h0,if_neg h0]
  obtain⟨e,he1,he2,he3,_⟩:=zCn hlt (by simpa using h0)
  rw[he1]
  simp only[j0,kC]
  rw[qRc hl hN k M e _ he3 (by omega) (by omega) (by simp;omega)]
  cases tokG k s e with
  |inl x=>rfl
  |inr r=>simp[zIy]
theorem zHb{N:Nat}{s:ByteArray}(hN:20000<N):qLo N s=some (qHn s):=by
 have hs:=qCk s
 unfold qLo qHn
 by_cases h:s.data.toList.length>16384
 ·rw[if_pos (by simp only[j9];omega),if_pos h]
 ·rw[if_neg (by simp only[j9];omega),if_neg h,qYl (by omega)]
  have:=qRc (N:=N) (s:=s) (by omega) (by omega) (s.data.toList.length+1) N 0 [] (by omega) (by omega) (by omega) (by simp)
  simp only[j0]
  rw[show((0:Nat):Int)=0 from rfl] at this
  rw[this]
  rfl
def endT(t:Tok):Int:=t.2.2.2+(t.2.1.size:Int)+(if t.1=2 then 1 else 0)
def zKy(s:ByteArray):Int→List Tok→Prop
 |_,[]=>True
 |e,t::r=>e≤t.2.2.2∧t.2.2.2+(t.2.1.size:Int)≤s.size∧(t.1=5↔r=[])∧(t.1=1∨t.1=4→s.extract t.2.2.2.toNat (t.2.2.2+(t.2.1.size:Int)).toNat=t.2.1∧0<t.2.1.size)∧zKy s (endT t) r
theorem qSs{s:ByteArray}:∀(k i:Nat) (e:Int) (r:List Tok),i≤s.data.toList.length→s.data.toList.length<i+k→e≤i→tokG k s i= .inr r→zKy s e r∧r≠[]∧r.length≤s.data.toList.length+1-i
 |0,i,e,r,h1,h2,h3,h4=>by omega
 |k+1,i,e,r,h1,h2,h3,h4=>by
  have hs:=qCk s
  have hb:=qRu (p:=inK [5]) (l:=s.data.toList) (a:=i) h1
  simp only[tokG] at h4
  generalize hE:tw (inK [5]) s.data.toList i=a at hb h4
  split at h4
  ·obtain rfl:=(Sum.inr.inj h4).symm
   refine⟨⟨by show e≤(s.data.toList.length:Int);omega,by show(s.data.toList.length:Int)+((0:Nat):Int)≤_;omega,by simp,fun h=>by simp at h,trivial⟩,by simp,by simp;omega⟩
  ·rename_i he
   have hlt:a<s.data.toList.length:=by omega
   split at h4
   ·rename_i h6
    have hb2:=qRu (p:=qJp) (l:=s.data.toList) (a:=a) (by omega)
    have hpos:=zAr (p:=qJp) hlt (by
     rw[qKe hlt] at h6
     simp only[qJp,bne_iff_ne,ne_eq]
     intro e;rw[e] at h6;exact absurd h6 (by decide))
    obtain⟨g1,g2,g3⟩:=qSs k _ e r hb2.2 (by omega) (by omega) h4
    exact⟨g1,g2,by omega⟩
   ·split at h4
    ·cases h4
    ·rename_i h0
     obtain⟨b,hb1,hb2,hb3,hk⟩:=zCn hlt (by simpa using h0)
     rw[hb1,kC] at h4
     generalize (tokP s a).1=t at h4 hk
     cases hG:tokG k s b with
     |inl x=>rw[hG] at h4;cases h4
     |inr q=>
      rw[hG] at h4
      obtain rfl:=(Sum.inr.inj h4).symm
      have hext:(s.extract a b).size=b-a:=by rw[ByteArray.size_extract];omega
      have hend:endT (t.1,t.2.1,t.2.2.1,(a:Int))≤b∧(a:Int)+(t.2.1.size:Int)≤b∧t.1≠5∧(t.1=1∨t.1=4→t.2.1=s.extract a b):=by
       rcases hk with ⟨hk1,hk2⟩|⟨hk1,hk2⟩|⟨hk1,hk2⟩
       ·refine⟨?_,?_,by omega,fun _=>hk2⟩
        ·simp only[endT,hk2,hext];rw[if_neg (by omega)];omega
        ·rw[hk2,hext];omega
       ·have:(⟨#[]⟩:ByteArray).size=0:=rfl
        refine⟨?_,?_,by omega,fun h=>by omega⟩
        ·simp only[endT,hk2,this];rw[if_pos hk1];omega
        ·rw[hk2,this];omega
       ·refine⟨?_,by omega,by omega,fun h=>by omega⟩
        simp only[endT];rw[if_neg (by omega)];omega
      obtain⟨g1,g2,g3⟩:=qSs k b (endT (t.1,t.2.1,t.2.2.1,(a:Int))) q hb3 (by omega) hend.1 hG
      refine⟨⟨by show e≤(a:Int);omega,?_,?_,?_,g1⟩,by simp,by simp only[jA];omega⟩
      ·show(a:Int)+(t.2.1.size:Int)≤_;omega
      ·exact⟨fun h=>absurd h hend.2.2.1,fun h=>absurd h g2⟩
      ·intro h
       have:=hend.2.2.2 h
       show s.extract (Int.toNat (a:Int)) ((a:Int)+(t.2.1.size:Int)).toNat=t.2.1∧0<t.2.1.size
       rw[this,hext,kC,show((a:Int)+((b-a:Nat):Int)).toNat=b by omega]
       exact⟨rfl,by omega⟩
theorem qYf{s:ByteArray}:∀(k i:Nat) (x:Int×Int),i≤s.data.toList.length→s.data.toList.length<i+k→tokG k s i= .inl x→0≤x.1∧x.1≤s.size∧x.2≠0
 |0,i,x,h1,h2,h4=>by omega
 |k+1,i,x,h1,h2,h4=>by
  have hs:=qCk s
  have hb:=qRu (p:=inK [5]) (l:=s.data.toList) (a:=i) h1
  simp only[tokG] at h4
  generalize hE:tw (inK [5]) s.data.toList i=a at hb h4
  split at h4
  ·cases h4
  ·rename_i he
   have hlt:a<s.data.toList.length:=by omega
   split at h4
   ·rename_i h6
    have hb2:=qRu (p:=qJp) (l:=s.data.toList) (a:=a) (by omega)
    have hpos:=zAr (p:=qJp) hlt (by
     rw[qKe hlt] at h6
     simp only[qJp,bne_iff_ne,ne_eq]
     intro e;rw[e] at h6;exact absurd h6 (by decide))
    exact qYf k _ x hb2.2 (by omega) h4
   ·split at h4
    ·rename_i h0
     obtain rfl:=Sum.inl.inj h4
     exact⟨by simp only;omega,by simp only;omega,h0⟩
    ·rename_i h0
     obtain⟨b,hb1,hb2,hb3,hk⟩:=zCn hlt (by simpa using h0)
     rw[hb1,kC] at h4
     cases hG:tokG k s b with
     |inl y=>rw[hG] at h4;obtain rfl:=Sum.inl.inj h4;exact qYf k b y hb3 (by omega) hG
     |inr q=>rw[hG] at h4;cases h4
end
section
open Go Go.Dc
theorem zIb{p:UInt8→Bool}(h:((List.range 256).all fun n=>p (UInt8.ofNat n))=true)(c:UInt8):p c=true:=by
 have:=jS.1 h c.toNat (gY.2 c.toNat_lt)
 simpa using this
theorem zFx{N:Nat}(c:UInt8):qGk N (c.toNat:Int)=some (kd c==1):=by
 have h:=zIb (p:=fun c=>(decide (97≤c.toNat)&&decide (c.toNat≤122))==(kd c==1)) (by kernel_rfl) c
 rw[kD] at h
 rw[←h]
 unfold qGk
 by_cases h1:97≤c.toNat
 ·rw[if_pos (by simp only[j9];omega)]
  simp only[h1,decide_true,gC,j0]
  congr 1
  exact decide_eq_decide.2 (by omega)
 ·rw[if_neg (by simp only[j9];omega)]
  simp[h1]
theorem zKe{N:Nat}(c:UInt8):qFt N (c.toNat:Int)=some (inK [1,2,3] c):=by
 have h:=zIb (p:=fun c=>(kd c==1||(decide (48≤c.toNat)&&decide (c.toNat≤57)||decide (c.toNat=95)))==inK [1,2,3] c) (by kernel_rfl) c
 rw[kD] at h
 rw[←h]
 unfold qFt
 rw[zFx]
 simp only[j0]
 cases kd c==1
 ·have e95:((c.toNat:Int)==95)=decide (c.toNat=95):=by rw[kF,kD,j9];omega
  simp only[jC,jP,Bool.false_or,e95]
  by_cases h1:48≤c.toNat
  ·by_cases h2:c.toNat≤57
   ·rw[if_pos (by simp only[j9];omega),if_pos (by simp only[j9];omega)];simp[h1,h2]
   ·rw[if_pos (by simp only[j9];omega),if_neg (by simp only[j9];omega)];simp[h2]
  ·rw[if_neg (by simp only[j9];omega)];simp[h1]
 ·rfl
end
section
open Go Go.Dc
end
section
open Go Go.Dc
def zEi(s:ByteArray):Bool:=decide (1≤s.data.toList.length∧s.data.toList.length≤24∧kd (s.data.toList.getD 0 0)=1∧tw (inK [1,2,3]) s.data.toList 0=s.data.toList.length)
theorem qXx{s:ByteArray}(h:¬(1≤s.data.toList.length∧s.data.toList.length≤24∧kd (s.data.toList.getD 0 0)=1∧tw (inK [1,2,3]) s.data.toList 0=s.data.toList.length)):false=zEi s:=(kJ h).symm
theorem zKx{N:Nat}{s:ByteArray}(hN:100<N):qOj N s=some (zEi s):=by
 have hs:=qCk s
 simp only[qOj,qYl (show 30<N by omega),j0]
 by_cases h1:1≤s.data.toList.length
 ·by_cases h2:s.data.toList.length≤24
  ·rw[if_pos (by simp only[j9];omega),if_pos (by simp only[j9];omega)]
   have hi:=qMq (s:=s) (i:=0) (by omega)
   rw[show((0:Nat):Int)=0 from rfl] at hi
   rw[hi]
   simp only[j0,zGv,kD]
   have hsp:=qUe (N:=N) (s:=s) (ks:=[1,2,3]) (i:=0) (by omega) (by omega) (by simp) (by omega)
   rw[show((0:Nat):Int)=0 from rfl] at hsp
   by_cases h3:kd (s.data.toList[0])=1
   ·rw[if_pos h3,hsp]
    simp only[j0]
    congr 1
    rw[kF,kD,zEi,j9,qKe (by omega)]
    exact⟨fun h=>⟨h1,h2,h3,by omega⟩,fun h=>by have:=h.2.2.2;omega⟩
   ·rw[if_neg h3]
    refine congrArg some (qXx fun h=> ?_)
    rw[qKe (by omega)] at h
    exact h3 h.2.2.1
  ·rw[if_pos (by simp only[j9];omega),if_neg (by simp only[j9];omega)]
   exact congrArg some (qXx fun h=>h2 h.2.1)
 ·rw[if_neg (by simp only[j9];omega)]
  exact congrArg some (qXx fun h=>h1 h.1)
end
section
open Go Go.Dc
def sp:List UInt8→List (List UInt8)
 |[]=>[[]]
 |c::l=>if c=47 then[]::sp l else match sp l with
  |[]=>[[c]]
  |p::q=>(c::p)::q
theorem zEo:∀l:List UInt8,sp l≠[]
 |[]=>by simp[sp]
 |c::l=>by
  simp only[sp]
  split
  ·simp
  ·split<;>simp
theorem zFn:∀l:List UInt8,(sp l).length=l.count 47+1
 |[]=>rfl
 |c::l=>by
  simp only[sp]
  split
  ·rename_i h;subst h;simp[zFn l]
  ·rename_i h
   have:=zFn l
   split
   ·rename_i e;exact absurd e (zEo l)
   ·rename_i e
    rw[e] at this
    simp only[jA] at this ⊢
    rw[List.count_cons_of_ne h,←this]
def qLs(c:UInt8):Bool:=c !=47
theorem zHe:∀l:List UInt8,sp l=if(l.takeWhile qLs).length=l.length then[l] else l.takeWhile qLs::sp (l.drop ((l.takeWhile qLs).length+1))
 |[]=>rfl
 |c::l=>by
  have ih:=zHe l
  by_cases h:c=47
  ·subst h
   rw[fE (by decide)]
   simp[sp]
  ·have hc:qLs c=true:=by simpa[qLs] using h
   rw[gF hc]
   simp only[sp,h,jP,ih,jA,Nat.add_right_cancel_iff,List.drop_succ_cons]
   by_cases he:(l.takeWhile qLs).length=l.length
   ·simp[he]
   ·simp[he]
def qVu:Nat→Nat→List UInt8→Option (Nat×Nat)
 |a,b,[]=>some (a,b)
 |a,b,c::l=>if c=47 then(if b=0 then none else qVu (a+1) 0 l) else if inK [1,2,3,4] c=true then(if b+1>24 then none else qVu a (b+1) l) else none
def partOk(p:List UInt8):Prop:=1≤p.length∧p.length≤24∧∀c∈p,inK [1,2,3,4] c=true
theorem qUm:∀(l:List UInt8) (a b:Nat),b≤24→((∃x y,qVu a b l=some (x,y)∧0<y∧x≤8)↔
  ∃p q,sp l=p::q∧1≤b+p.length∧b+p.length≤24∧(∀c∈p,inK [1,2,3,4] c=true)∧(∀r∈q,partOk r)∧a+q.length≤8)
 |[],a,b,hb=>by
  constructor
  ·rintro⟨x,y,h,h1,h2⟩
   simp only[qVu,jF,Prod.mk.injEq] at h
   exact⟨[],[],rfl,by simp;omega,by simpa using hb,by simp,by simp,by simp;omega⟩
  ·rintro⟨p,q,h,h1,h2,_,_,h3⟩
   simp only[sp,k7] at h
   obtain⟨rfl,rfl⟩:=h
   simp only[jB] at h1 h3
   exact⟨a,b,rfl,by omega,by omega⟩
 |c::l,a,b,hb=>by
  by_cases hc:c=47
  ·have hsp:sp (c::l)=[]::sp l:=by simp[sp,hc]
   rw[hsp]
   simp only[qVu,hc,jR]
   by_cases h0:b=0
   ·subst h0
    simp only[jR]
    constructor
    ·rintro⟨x,y,h,_⟩;cases h
    ·rintro⟨p,q,h,h1,_⟩
     simp only[k7] at h
     rw[←h.1] at h1;simp at h1
   ·rw[if_neg h0]
    rw[qUm l (a+1) 0 (by omega)]
    constructor
    ·rintro⟨p,q,h,h1,h2,h3,h4,h5⟩
     refine⟨[],sp l,rfl,by simp;omega,by simpa using hb,by simp,?_,by rw[h];simp only[jA];omega⟩
     intro r hr
     rw[h] at hr
     rcases jH.1 hr with rfl|hr
     ·exact⟨by omega,by omega,h3⟩
     ·exact h4 r hr
    ·rintro⟨p,q,h,h1,h2,h3,h4,h5⟩
     simp only[k7] at h
     obtain⟨rfl,rfl⟩:=h
     obtain⟨p,q,hpq⟩:∃p q,sp l=p::q:=by
      cases he:sp l with
      |nil=>exact absurd he (zEo l)
      |cons p q=>exact⟨p,q,rfl⟩
     rw[hpq] at h4 h5
     obtain⟨g1,g2,g3⟩:=h4 p (jI ..)
     exact⟨p,q,hpq,by omega,by omega,g3,fun r hr=>h4 r (jK _ hr),by simp only[jA] at h5;omega⟩
  ·obtain⟨p0,q0,hpq⟩:∃p q,sp l=p::q:=by
    cases he:sp l with
    |nil=>exact absurd he (zEo l)
    |cons p q=>exact⟨p,q,rfl⟩
   have hsp:sp (c::l)=(c::p0)::q0:=by simp only[sp,hc,jP,hpq]
   rw[hsp]
   simp only[qVu,hc,jP]
   by_cases hk:inK [1,2,3,4] c=true
   ·rw[if_pos hk]
    by_cases h24:b+1>24
    ·rw[if_pos h24]
     constructor
     ·rintro⟨x,y,h,_⟩;cases h
     ·rintro⟨p,q,h,h1,h2,_⟩
      simp only[k7] at h
      rw[←h.1] at h2
      simp only[jA] at h2
      omega
    ·rw[if_neg h24,qUm l a (b+1) (by omega)]
     constructor
     ·rintro⟨p,q,h,h1,h2,h3,h4,h5⟩
      rw[hpq] at h
      simp only[k7] at h
      obtain⟨rfl,rfl⟩:=h
      refine⟨_,_,rfl,by simp only[jA];omega,by simp only[jA];omega,?_,h4,h5⟩
      intro d hd
      rcases jH.1 hd with rfl|hd
      ·exact hk
      ·exact h3 d hd
     ·rintro⟨p,q,h,h1,h2,h3,h4,h5⟩
      simp only[k7] at h
      obtain⟨rfl,rfl⟩:=h
      simp only[jA] at h1 h2
      exact⟨p0,q0,hpq,by omega,by omega,fun d hd=>h3 d (jK _ hd),h4,h5⟩
   ·rw[if_neg hk]
    constructor
    ·rintro⟨x,y,h,_⟩;cases h
    ·rintro⟨p,q,h,h1,h2,h3,_⟩
     simp only[k7] at h
     rw[←h.1] at h3
     exact absurd (h3 c (jI ..)) hk
theorem inK4{N:Nat}(c:UInt8):((qFt N (c.toNat:Int)).bind fun y1=>if y1=true then(some true) else(some ((c.toNat:Int)==46)))=some (inK [1,2,3,4] c):=by
 have h:=zIb (p:=fun c=>(inK [1,2,3] c||decide (c.toNat=46))==inK [1,2,3,4] c) (by kernel_rfl) c
 rw[kD] at h
 rw[←h,zKe]
 simp only[j0]
 have e:((c.toNat:Int)==46)=decide (c.toNat=46):=by rw[kF,kD,j9];omega
 rw[e]
 cases inK [1,2,3] c<;>simp
theorem qQe{N:Nat}{s:ByteArray}(hl:s.data.toList.length<1000000):∀(d i M a b:Nat),i+d=s.data.toList.length→d<M→a≤i+1→b≤24→
  qBj (qEn N s) M ((a:Int),(b:Int),(i:Int))=some (match qVu a b (s.data.toList.drop i) with|some z=> .inl ((z.1:Int),(z.2:Int))|none=> .inr false)
 |d,i,0,_,_,_,h,_,_=>by omega
 |0,i,M+1,a,b,h1,h2,h3,h4=>by
  have hs:=qCk s
  simp only[qBj,qEn]
  rw[if_neg (by simp only[j9];omega),k8 (by omega)]
  rfl
 |d+1,i,M+1,a,b,h1,h2,h3,h4=>by
  have hs:=qCk s
  have hi:i<s.data.toList.length:=by omega
  simp only[qBj,qEn]
  rw[if_pos (by simp only[j9];omega),jV hi,qMq hi]
  simp only[j0,inK4,kD,qVu]
  by_cases hc:s.data.toList[i]=47
  ·rw[if_pos (show((s.data.toList[i]).toNat:Int)=47 by rw[hc];rfl),if_pos hc]
   by_cases hb:b=0
   ·rw[if_pos (show(b:Int)=0 by omega),if_pos hb]
    rfl
   ·rw[if_neg (show ¬(b:Int)=0 by omega),if_neg hb,wi64 (x:=(a:Int)+1) (by omega) (by omega)]
    simp only[j0]
    rw[if_neg (by simp),wi64 (by omega) (by omega)]
    have:=qQe (N:=N) hl d (i+1) M (a+1) 0 (by omega) (by omega) (by omega) (by omega)
    exact this
  ·have hc':¬((s.data.toList[i]).toNat:Int)=47:=fun h=>hc (UInt8.toNat_inj.1 (by show _=47;omega))
   rw[if_neg hc',if_neg hc]
   by_cases hk:inK [1,2,3,4] (s.data.toList[i])=true
   ·rw[if_pos hk,if_pos hk,wi64 (x:=(b:Int)+1) (by omega) (by omega)]
    simp only[j0]
    by_cases h24:b+1>24
    ·rw[if_pos (by simp only[j9];omega),if_pos h24]
     rfl
    ·rw[if_neg (by simp only[j9];omega),if_neg h24,wi64 (by omega) (by omega)]
     have:=qQe (N:=N) hl d (i+1) M a (b+1) (by omega) (by omega) (by omega) (by omega)
     exact this
   ·rw[if_neg hk,if_neg hk]
    rfl
def qJb(l:List UInt8):Bool:=decide (l.length≤80∧(sp l).length≤8∧∀p∈sp l,1≤p.length∧p.length≤24∧∀c∈p,inK [1,2,3,4] c=true)
theorem qZz(l:List UInt8):qJb l=true↔l.length≤80∧∃x y,qVu 1 0 l=some (x,y)∧0<y∧x≤8:=by
 rw[qUm l 1 0 (by omega)]
 simp only[qJb,j9]
 obtain⟨p,q,hpq⟩:∃p q,sp l=p::q:=by
  cases he:sp l with
  |nil=>exact absurd he (zEo l)
  |cons p q=>exact⟨p,q,rfl⟩
 constructor
 ·rintro⟨h1,h2,h3⟩
  rw[hpq] at h2 h3
  obtain⟨g1,g2,g3⟩:=h3 p (jI ..)
  exact⟨h1,p,q,hpq,by omega,by omega,g3,fun r hr=>h3 r (jK _ hr),by simp only[jA] at h2;omega⟩
 ·rintro⟨h1,p',q',h,h2,h3,h4,h5,h6⟩
  refine⟨h1,by rw[h];simp only[jA];omega,?_⟩
  intro r hr
  rw[h] at hr
  rcases jH.1 hr with rfl|hr
  ·exact⟨by omega,by omega,h4⟩
  ·exact h5 r hr
theorem zEv{N:Nat}{s:ByteArray}(hN:100<N):qHi N s=some (qJb s.data.toList):=by
 have hs:=qCk s
 simp only[qHi]
 by_cases h80:s.data.toList.length≤80
 ·rw[if_neg (by simp only[j9];omega)]
  have key:=qQe (N:=N) (s:=s) (by omega) s.data.toList.length 0 N 1 0 (by omega) (by omega) (by omega) (by omega)
  rw[show((0:Nat):Int)=0 from rfl,show((1:Nat):Int)=1 from rfl,kI] at key
  rw[key]
  have hp:=qZz s.data.toList
  cases hR:qVu 1 0 s.data.toList with
  |none=>
   simp only[j0]
   refine congrArg some ?_
   rw[kF,hp]
   constructor
   ·intro h;cases h
   ·rintro⟨_,x,y,h,_⟩;rw[hR] at h;cases h
  |some z=>
   obtain⟨x,y⟩:=z
   simp only[j0]
   by_cases hy:0<y
   ·rw[if_pos (by simp only[j9];omega)]
    simp only[j0]
    refine congrArg some ?_
    rw[kF,hp,j9]
    constructor
    ·intro h;exact⟨h80,x,y,hR,hy,by omega⟩
    ·rintro⟨_,x',y',h,_,h2⟩;rw[hR] at h;simp only[jF,Prod.mk.injEq] at h;omega
   ·rw[if_neg (by simp only[j9];omega)]
    simp only[j0]
    refine congrArg some ?_
    rw[kF,hp]
    constructor
    ·intro h;cases h
    ·rintro⟨_,x',y',h,h1,_⟩;rw[hR] at h;simp only[jF,Prod.mk.injEq] at h;omega
 ·rw[if_pos (by simp only[j9];omega)]
  refine congrArg some ?_
  rw[kF,qZz]
  exact⟨fun h=>(by cases h),fun h=>absurd h.1 h80⟩
end
section
open Go Go.Dc
theorem tw_is{p:UInt8→Bool}{l:List UInt8}{k:Nat}(hk:k<l.length)(h1:∀j,∀h:j<l.length,j<k→p l[j]=true)(h2:p l[k]=false):tw p l 0=k:=by
 have key:∀d j,j+d=k→tw p l j=k:=by
  intro d
  induction d with
  |zero=>
   intro j h
   have:j=k:=by omega
   subst this
   exact qUr hk h2
  |succ d ih=>intro j h;rw[←qSo (by omega) (h1 j (by omega) (by omega))];exact ih (j+1) (by omega)
 exact key k 0 (by omega)
theorem ix_eq(x:ByteArray):ixB x 47=if(x.data.toList.takeWhile qLs).length=x.data.toList.length then-1 else((x.data.toList.takeWhile qLs).length:Int):=by
 have hs:=qCk x
 have htw:tw qLs x.data.toList 0=(x.data.toList.takeWhile qLs).length:=by simp[tw]
 have hget:∀j,∀h:j<x.data.toList.length,x[j]! =x.data.toList[j]:=by
  intro j hj
  rw[getElem!_pos x j (by omega)]
  simp[ByteArray.getElem_eq_getElem_data]
 have h47:(47:Int).toNat.toUInt8=47:=rfl
 rw[←htw]
 unfold ixB
 rw[h47,←hs]
 cases hf:(List.range x.data.toList.length).find? (fun j=>x[j]! ==47) with
 |none=>
  rw[List.find?_eq_none] at hf
  simp only
  rw[if_pos]
  refine zKn fun c hc=> ?_
  obtain⟨j,hj,rfl⟩:=List.getElem_of_mem hc
  have:=hf j (gY.2 hj)
  rw[hget j hj] at this
  simpa[qLs] using this
 |some k=>
  have h1:=List.find?_some hf
  have hk:k<x.data.toList.length:=gY.1 (gK hf)
  rw[hget k hk] at h1
  have e:tw qLs x.data.toList 0=k:=by
   refine tw_is hk (fun j h hj=> ?_) (by simpa[qLs] using h1)
   have:=(List.find?_range_eq_some.1 hf).2.2 j hj
   rw[hget j h] at this
   simpa[qLs] using this
  simp only
  rw[e,if_neg (by omega)]
theorem zJn{N:Nat}(x:ByteArray):qJh N x (⟨#[47]⟩:ByteArray)=some (ixB x 47):=by
 have h1:idxB (⟨#[47]⟩:ByteArray) 0=some 47:=by kernel_rfl
 simp only[qJh,qFg,qCs,show(⟨#[47]⟩:ByteArray).size=1 from rfl,qIa]
 rw[if_neg (by decide)]
 simp only[j0,j9]
 by_cases h:(⟨#[47]⟩:ByteArray)=x
 ·have h0:ixB (⟨#[47]⟩:ByteArray) 47=0:=by kernel_rfl
  rw[if_pos h,←h,h0]
  rfl
 ·rw[if_neg h,if_pos (by decide),h1]
  rfl
theorem cnt_eq(x:ByteArray):cntB x 47=((x.data.toList.count 47:Nat):Int):=by
 unfold cntB
 rw[Go.Lib.foldl_data]
 have key:∀(l:List UInt8) (n:Int),l.foldl (fun n x=>if x==(47:Int).toNat.toUInt8 then n+1 else n) n=n+((l.count 47:Nat):Int):=by
  intro l
  induction l with
  |nil=>intro n;simp
  |cons c l ih=>
   intro n
   rw[jM,ih,List.count_cons]
   have h47:(47:Int).toNat.toUInt8=47:=rfl
   rw[h47]
   by_cases h:(c==47)=true
   ·simp only[h,jR];omega
   ·simp only[h,jC,jP];omega
 rw[key]
 omega
theorem zLk{α:Type}(l:List α)(k:Nat)(a b:α):(l++List.replicate (k+1) a).set l.length b=(l++[b])++List.replicate k a:=by
 rw[List.set_append_right _ _ (jN _)]
 simp[List.replicate_succ]
theorem qXl{N n:Nat}{s:ByteArray}(hn:n<1000000000)(hns:n≤s.size+1)(hs:s.size<1000000000):∀(r M:Nat) (x:ByteArray) (done:List ByteArray),(sp x.data.toList).length=r→done.length+r=n→r<M→x.size<1000000000→
  ∃y D,qBj (qGu N s (⟨#[47]⟩:ByteArray) 0 (n:Int)) M (x,(done.length:Int),done++List.replicate r (⟨#[]⟩:ByteArray))=some (y,((n-1:Nat):Int),D++[(⟨#[]⟩:ByteArray)])∧D.length=n-1∧D++[y]=done++(sp x.data.toList).map qOs
 |_,0,_,_,_,_,h,_=>by omega
 |0,_,x,_,h,_,_,_=>by exact absurd (List.length_eq_zero_iff.1 h) (zEo _)
 |r+1,M+1,x,done,h1,h2,h3,h4=>by
  have hxs:=qCk x
  have hmin:(if IntKind.wrap .i64 ((s.size:Int)+1)<(n:Int) then IntKind.wrap .i64 ((s.size:Int)+1) else(n:Int))=(n:Int):=by
   rw[wi64 (by omega) (by omega)];split<;>omega
  have hstep:=zHe x.data.toList
  simp only[qBj,qGu]
  rw[hmin,wi64 (x:=(n:Int)-1) (by omega) (by omega)]
  by_cases hlast:(x.data.toList.takeWhile qLs).length=x.data.toList.length
  ·rw[if_pos hlast] at hstep
   rw[hstep] at h1
   simp only[jA,jB] at h1
   have hr:r=0:=by omega
   subst hr
   rw[if_neg (by simp only[j9];omega)]
   refine⟨x,done,?_,by omega,?_⟩
   ·simp only[j0]
    rw[show(n-1:Nat)=done.length by omega]
    rfl
   ·rw[hstep];simp[qOs]
  ·rw[if_neg hlast] at hstep
   rw[hstep] at h1
   simp only[jA] at h1
   have hpos:0<(sp (x.data.toList.drop ((x.data.toList.takeWhile qLs).length+1))).length:=List.length_pos_iff.2 (zEo _)
   have hle:(x.data.toList.takeWhile qLs).length≤x.data.toList.length:=(fM _).length_le
   have hix:=ix_eq x
   rw[if_neg hlast] at hix
   rw[if_pos (by simp only[j9];omega),zJn,hix]
   simp only[j0,show(⟨#[47]⟩:ByteArray).size=1 from rfl]
   have he:(x.data.toList.takeWhile qLs)=x.data.toList.take (x.data.toList.takeWhile qLs).length:=List.prefix_iff_eq_take.1 (List.takeWhile_prefix _)
   have hx1:x.extract 0 (x.data.toList.takeWhile qLs).length=qOs (x.data.toList.takeWhile qLs):=by
    apply Go.WideShapes.bytes_inj
    simp only[ByteArray.data_extract,fF,gL,qOs,kI,Nat.sub_zero]
    exact he.symm
   have hx2:(x.extract ((x.data.toList.takeWhile qLs).length+1) x.data.toList.length).data.toList=x.data.toList.drop ((x.data.toList.takeWhile qLs).length+1):=by
    simp only[ByteArray.data_extract,fF,gL]
    exact gZ (by simp only[gH];omega)
   generalize hk:(x.data.toList.takeWhile qLs).length=k at*
   rw[if_neg (by simp only[j9];omega),wi64 (x:=(k:Int)+0) (by omega) (by omega),Int.add_zero]
   have hsub0:subB x 0 (k:Int)=some (x.extract 0 k):=by
    have:=qNj (s:=x) (i:=0) (e:=k) (by omega) (by omega)
    simpa only[Int.natCast_zero] using this
   rw[hsub0]
   simp only[j0]
   rw[qDs (by simp),wi64 (x:=(k:Int)+((1:Nat):Int)) (by omega) (by omega),show((k:Int)+((1:Nat):Int))=((k+1:Nat):Int) by omega,qUi (by omega)]
   simp only[j0,kC]
   rw[zLk,hx1,wi64 (by omega) (by omega)]
   have hxs2:=qCk (x.extract (k+1) x.data.toList.length)
   rw[hx2,gH] at hxs2
   obtain⟨y,D,g1,g2,g3⟩:=qXl (N:=N) hn hns hs r M (x.extract (k+1) x.data.toList.length) (done++[qOs (x.data.toList.takeWhile qLs)]) (by rw[hx2];omega) (by simp;omega) (by omega) (by omega)
   refine⟨y,D,?_,g2,?_⟩
   ·rw[←g1];simp
   ·rw[g3,hx2,hstep];simp
termination_by r=>r
theorem zJf{N:Nat}{s:ByteArray}(hl:s.size<100000000)(hN:2*s.size+1000<N):qKt N s (⟨#[47]⟩:ByteArray)=some ((sp s.data.toList).map qOs):=by
 have hs:=qCk s
 have hlen:=zFn s.data.toList
 have hc:s.data.toList.count 47≤s.data.toList.length:=List.count_le_length
 have h1:idxB (⟨#[47]⟩:ByteArray) 0=some 47:=by kernel_rfl
 have hcount:qKu N s (⟨#[47]⟩:ByteArray)=some ((s.data.toList.count 47:Nat):Int):=by
  simp only[qKu,show(⟨#[47]⟩:ByteArray).size=1 from rfl]
  rw[if_neg (by decide),if_pos (by decide),h1]
  simp only[j0]
  rw[←cnt_eq];rfl
 simp only[qKt,qJz,qIa,hcount,j0]
 rw[if_neg (by decide),if_neg (by decide),if_pos (by decide)]
 simp only[j0]
 rw[wi64 (x:=((s.data.toList.count 47:Nat):Int)+1) (by omega) (by omega),show((s.data.toList.count 47:Nat):Int)+1=(((sp s.data.toList).length:Nat):Int) by omega]
 generalize hn:(sp s.data.toList).length=n at*
 have hmin:(if IntKind.wrap .i64 ((s.size:Int)+1)<(n:Int) then IntKind.wrap .i64 ((s.size:Int)+1) else(n:Int))=(n:Int):=by
  rw[wi64 (by omega) (by omega)];split<;>omega
 rw[hmin]
 have hm:zBk 16 (⟨#[]⟩:ByteArray) (n:Int)=some (List.replicate n (⟨#[]⟩:ByteArray)):=by
  unfold zBk
  rw[if_pos (by simp only[maxLen];omega),kC]
 rw[hm]
 simp only[j0]
 obtain⟨y,D,g1,g2,g3⟩:=qXl (N:=N) (n:=n) (s:=s) (by omega) (by omega) (by omega) n N s [] hn (by simp) (by omega) (by omega)
 simp only[jB,k0] at g1 g3
 rw[show((0:Nat):Int)=0 from rfl] at g1
 rw[g1]
 simp only[j0]
 rw[qDs (by simp;omega)]
 simp only[j0,kC]
 have hset:(D++[(⟨#[]⟩:ByteArray)]).set (n-1) y=D++[y]:=by
  rw[←g2,List.set_append_right _ _ (jN _)];simp
 rw[hset,g3,wi64 (by omega) (by omega),show((n-1:Nat):Int)+1=(n:Int) by omega,zId (by omega) (by omega) (by rw[kE,hn];omega)]
 simp only[j0,kC,Int.toNat_zero,kI]
 rw[gZ (by rw[kE,hn];exact jN _)]
theorem zKo{p:UInt8→Bool}{l:List UInt8}:tw p l 0=l.length↔∀c∈l,p c=true:=by
 constructor
 ·intro h c hc
  have h1:(l.takeWhile p).length=l.length:=by simpa[tw] using h
  have h2:=(List.takeWhile_prefix p (l:=l)).eq_of_length h1
  rw[←h2] at hc
  exact zIe hc
 ·exact zKn
def zCf(x:ByteArray):Bool:=decide (1≤x.data.toList.length∧x.data.toList.length≤24∧∀c∈x.data.toList,inK [1,2,3,4] c=true)
theorem zAl(x:ByteArray):zCf x=true↔1≤x.data.toList.length∧x.data.toList.length≤24∧∀c∈x.data.toList,inK [1,2,3,4] c=true:=decide_eq_true_iff
theorem zKw{N:Nat}{x:ByteArray}(hN:100<N):(if(decide ((x.size:Int)<1))=true then(some true) else(if(decide ((x.size:Int)>24))=true then(some true) else((qIq N x 0 (some kdL) ([1,2,3,4])).bind fun y3=>some (y3 !=(x.size:Int)))))=some (!zCf x):=by
 have hs:=qCk x
 have hno:∀h:¬(1≤x.data.toList.length∧x.data.toList.length≤24∧∀c∈x.data.toList,inK [1,2,3,4] c=true),zCf x=false:=fun h=>kJ h
 by_cases h1:1≤x.data.toList.length
 ·rw[if_neg (by simp only[j9];omega)]
  by_cases h2:x.data.toList.length≤24
  ·rw[if_neg (by simp only[j9];omega)]
   have hsp:=qUe (N:=N) (s:=x) (ks:=[1,2,3,4]) (i:=0) (by omega) (by omega) (by simp) (by omega)
   rw[show((0:Nat):Int)=0 from rfl] at hsp
   rw[hsp]
   simp only[j0]
   refine congrArg some ?_
   by_cases h3:tw (inK [1,2,3,4]) x.data.toList 0=x.data.toList.length
   ·have:zCf x=true:=k9 ⟨h1,h2,zKo.1 h3⟩
    rw[this,h3,hs]
    simp
   ·rw[hno fun h=>h3 (zKo.2 h.2.2)]
    simp only[gM,bne_iff_ne,ne_eq]
    omega
  ·rw[if_pos (by simp only[j9];omega),hno fun h=>h2 h.2.1]
   rfl
 ·rw[if_pos (by simp only[j9];omega),hno fun h=>h1 h.1]
  rfl
theorem zBa{N:Nat}{L:List ByteArray}(hL:L.length<1000)(hN:100<N):∀(d j M:Nat),j+d=L.length→d<M→qBj (qJg N L (some kdL)) M (j:Int)=some (if(L.drop j).all zCf=true then .inl () else .inr false)
 |d,j,0,_,h=>by omega
 |0,j,M+1,h1,h2=>by
  simp only[qBj,qJg]
  rw[if_neg (by simp only[j9];omega),k8 (by omega)]
  rfl
 |d+1,j,M+1,h1,h2=>by
  have hj:j<L.length:=by omega
  simp only[qBj,qJg]
  rw[if_pos (by simp only[j9];omega),qDs hj]
  simp only[j0,zKw hN]
  rw[jV hj,List.all_cons]
  cases hp:zCf L[j] with
  |true=>
   rw[if_neg (by simp),wi64 (by omega) (by omega)]
   simp only[j0,gC]
   exact zBa hL hN d (j+1) M (by omega) (by omega)
  |false=>simp
theorem zBv{N:Nat}{s:ByteArray}(hl:s.size<100000000)(hN:2*s.size+1000<N):qHx N s=some (qJb s.data.toList):=by
 have hs:=qCk s
 have hno:∀h:¬(s.data.toList.length≤80∧(sp s.data.toList).length≤8∧∀p∈sp s.data.toList,1≤p.length∧p.length≤24∧∀c∈p,inK [1,2,3,4] c=true),qJb s.data.toList=false:=fun h=>kJ h
 simp only[qHx,zJf hl hN,j0,kE]
 by_cases h80:s.data.toList.length≤80
 ·rw[if_neg (by simp only[j9];omega)]
  by_cases h8:(sp s.data.toList).length≤8
  ·have e8:decide (((sp s.data.toList).length:Int)>8)=false:=kJ (by omega)
   simp only[j0,e8,jC,jP,qYl (show 30<N by omega)]
   have key:=zBa (N:=N) (L:=(sp s.data.toList).map qOs) (by rw[kE];omega) (by omega) _ 0 N (kO _) (by rw[kE];omega)
   rw[show((0:Nat):Int)=0 from rfl,kI] at key
   rw[key]
   simp only[j0]
   by_cases hp:((sp s.data.toList).map qOs).all zCf=true
   ·have:qJb s.data.toList=true:=k9 ⟨h80,h8,fun p hp'=>by
     have:=(zAl _).1 (jS.1 hp (qOs p) (kW hp'))
     simpa[qOs] using this⟩
    rw[if_pos hp,this]
   ·rw[if_neg hp,hno fun h=>hp (jS.2 fun x hx=>by
     obtain⟨p,hp',rfl⟩:=kZ.1 hx
     exact(zAl _).2 (by simpa[qOs] using h.2.2 p hp'))]
  ·have e8:decide (((sp s.data.toList).length:Int)>8)=true:=k9 (by omega)
   simp only[j0,e8,jR]
   rw[hno fun h=>h8 h.2.1]
 ·rw[if_pos (by simp only[j9];omega)]
  simp only[j0,jR]
  rw[hno fun h=>h80 h.1]
end
section
open Go Go.Dc
def run{α τ β:Type}(step:τ→α→τ⊕β)(fin:τ→β):List α→τ→β
 |[],t=>fin t
 |x::l,t=>match step t x with
  | .inl t'=>run step fin l t'
  | .inr b=>b
theorem qUf{α τ σ β:Type}{L:List α}(enc:τ→Nat→σ){f:σ→Option (σ⊕β)}(step:τ→α→τ⊕β)(fin:τ→β)(I:Nat→τ→Prop)
  (hstep:∀t i,∀hi:i<L.length,I i t→f (enc t i)=some (match step t L[i] with| .inl t'=> .inl (enc t' (i+1))| .inr b=> .inr b))
  (hinv:∀t i,∀hi:i<L.length,∀t',I i t→step t L[i]= .inl t'→I (i+1) t')
  (hfin:∀t,I L.length t→f (enc t L.length)=some (.inr (fin t))):∀(d i M:Nat) (t:τ),i+d=L.length→d<M→I i t→qBj f M (enc t i)=some (run step fin (L.drop i) t)
 |_,_,0,_,_,h,_=>absurd h (kX _)
 |d,i,M+1,t,h1,h2,h3=>by
  cases d with
  |zero=>
   have hi:i=L.length:=by omega
   subst hi
   simp only[qBj,hfin t h3,j0,List.drop_length,run]
  |succ d=>
   have hi:i<L.length:=by omega
   have hd:L.drop i=L[i]::L.drop (i+1):=(fN hi).symm
   simp only[qBj,hstep t i hi h3,j0]
   rw[hd]
   simp only[run]
   cases hs:step t L[i] with
   |inl t'=>
    simp only
    exact qUf enc step fin I hstep hinv hfin d (i+1) M t' (by omega) (by omega) (hinv t i hi t' h3 hs)
   |inr b=>rfl
theorem qOf{α τ σ β:Type}{L:List α}(enc:τ→Nat→σ){f:σ→Option (σ⊕β)}(step:τ→α→τ⊕β)(fin:τ→β)(I:Nat→τ→Prop)
  (hstep:∀t i,∀hi:i<L.length,I i t→f (enc t i)=some (match step t L[i] with| .inl t'=> .inl (enc t' (i+1))| .inr b=> .inr b))
  (hinv:∀t i,∀hi:i<L.length,∀t',I i t→step t L[i]= .inl t'→I (i+1) t')
  (hfin:∀t,I L.length t→f (enc t L.length)=some (.inr (fin t))) {M:Nat} {t:τ} (hM:L.length<M) (h0:I 0 t):qBj f M (enc t 0)=some (run step fin L t):=by
 have:=qUf enc step fin I hstep hinv hfin L.length 0 M t (by omega) hM h0
 rw[kI] at this;exact this
theorem qOk{α τ β:Type}{step:τ→α→τ⊕β}{fin:τ→β}(g:τ→α→τ)(h:∀t x,step t x= .inl (g t x)):∀(l:List α) (t:τ),run step fin l t=fin (l.foldl g t)
 |[],_=>rfl
 |x::l,t=>by simp only[run,h,jM];exact qOk g h l _
theorem zEp{α:Type}{l:List α}{i:Nat}(h:i<l.length):l.drop i=l[i]::l.drop (i+1):=(fN h).symm
end
section
open Go Go.Dc
abbrev File:=ByteArray×ByteArray
def blt(a b:ByteArray):Bool:=Op.bytesLess a.toList b.toList
theorem zEu{a b:ByteArray}(h:a.toList=b.toList):a=b:=by
 have h1:(a.toList==b.toList)=true:=by rw[h];exact fT _
 rw[qIa] at h1
 exact kL h1
theorem qUw:∀a:List UInt8,Op.bytesLess a a=false
 |[]=>rfl
 |x::a=>by simp[Op.bytesLess,qUw a]
theorem qWt:∀a b c:List UInt8,Op.bytesLess a b=true→Op.bytesLess b c=true→Op.bytesLess a c=true
 |_,_,[],_,h=>by simp[Op.bytesLess] at h
 |_,[],_::_,h,_=>by simp[Op.bytesLess] at h
 |[],_::_,_::_,_,_=>rfl
 |x::a,y::b,z::c,h1,h2=>by
  simp only[Op.bytesLess,gP,j9,jU,kD] at h1 h2 ⊢
  rcases h1 with h1|⟨rfl,h1⟩<;>rcases h2 with h2|⟨rfl,h2⟩
  ·exact .inl (UInt8.lt_trans h1 h2)
  ·exact .inl h1
  ·exact .inl h2
  ·exact .inr ⟨rfl,qWt a b c h1 h2⟩
theorem qXi:∀a b:List UInt8,Op.bytesLess a b=true∨a=b∨Op.bytesLess b a=true
 |[],[]=> .inr (.inl rfl)
 |[],_::_=> .inl rfl
 |_::_,[]=> .inr (.inr rfl)
 |x::a,y::b=>by
  simp only[Op.bytesLess,gP,j9,jU,kD,k7]
  rcases qXi a b with h|h|h
  ·rcases Nat.lt_trichotomy x.toNat y.toNat with g|g|g
   ·exact .inl (.inl (UInt8.lt_iff_toNat_lt.2 g))
   ·have g:=UInt8.toNat_inj.1 g;exact .inl (.inr ⟨g,h⟩)
   ·exact .inr (.inr (.inl (UInt8.lt_iff_toNat_lt.2 g)))
  ·rcases Nat.lt_trichotomy x.toNat y.toNat with g|g|g
   ·exact .inl (.inl (UInt8.lt_iff_toNat_lt.2 g))
   ·have g:=UInt8.toNat_inj.1 g;exact .inr (.inl ⟨g,h⟩)
   ·exact .inr (.inr (.inl (UInt8.lt_iff_toNat_lt.2 g)))
  ·rcases Nat.lt_trichotomy x.toNat y.toNat with g|g|g
   ·exact .inl (.inl (UInt8.lt_iff_toNat_lt.2 g))
   ·have g:=UInt8.toNat_inj.1 g;exact .inr (.inr (.inr ⟨g.symm,h⟩))
   ·exact .inr (.inr (.inl (UInt8.lt_iff_toNat_lt.2 g)))
theorem qKi(a:ByteArray):blt a a=false:=qUw _
theorem qJy{a b c:ByteArray}(h1:blt a b=true)(h2:blt b c=true):blt a c=true:=qWt _ _ _ h1 h2
theorem qMj(a b:ByteArray):blt a b=true∨a=b∨blt b a=true:=by
 rcases qXi a.toList b.toList with h|h|h
 ·exact .inl h
 ·exact .inr (.inl (zEu h))
 ·exact .inr (.inr h)
theorem qZk{a b:ByteArray}(h:blt a b=true):blt b a=false:=by
 cases h2:blt b a with
 |false=>rfl
 |true=>have:=qJy h h2;rw[qKi] at this;cases this
theorem qWl{a b:ByteArray}(h:blt a b=true):a≠b:=by rintro rfl;rw[qKi] at h;cases h
def Asc(L:List File):Prop:=L.Pairwise fun f g=>blt f.1 g.1=true
def fget:List File→ByteArray→Option ByteArray
 |[],_=>none
 |f::L,p=>if f.1=p then some f.2 else fget L p
def fput:List File→ByteArray→ByteArray→List File
 |[],p,b=>[(p,b)]
 |f::L,p,b=>if blt p f.1=true then(p,b)::f::L else if f.1=p then(p,b)::L else f::fput L p b
def fdel(L:List File)(p:ByteArray):List File:=L.filter fun f=>decide (f.1≠p)
theorem qLr{L:List File}{p:ByteArray}(h:∀f∈L,blt p f.1=true):fget L p=none:=by
 induction L with
 |nil=>rfl
 |cons f L ih=>
  have h1:=h f (jI ..)
  simp only[fget]
  rw[if_neg (fun e=>by rw[e,qKi] at h1;cases h1)]
  exact ih fun g hg=>h g (jK _ hg)
theorem zJl{L:List File}{p b:ByteArray}(h:fget L p=some b):(p,b)∈L:=by
 induction L with
 |nil=>simp[fget] at h
 |cons f L ih=>
  simp only[fget] at h
  split at h
  ·rename_i e;simp only[jF] at h;subst h;subst e;exact jI ..
  ·exact jK _ (ih h)
theorem qOu{L:List File}(ha:Asc L){f:File}(h:f∈L):fget L f.1=some f.2:=by
 induction L with
 |nil=>cases h
 |cons g L ih=>
  have h2:=jQ.1 ha
  rcases jH.1 h with rfl|h
  ·simp[fget]
  ·simp only[fget]
   rw[if_neg (qWl (h2.1 f h)),ih h2.2 h]
theorem Asc.ext:∀{L K:List File},Asc L→Asc K→(∀p,fget L p=fget K p)→L=K
 |[],[],_,_,_=>rfl
 |[],f::K,_,_,h=>by have:=h f.1;simp[fget] at this
 |f::L,[],_,_,h=>by have:=h f.1;simp[fget] at this
 |f::L,g::K,hL,hK,h=>by
  have hL':=jQ.1 hL
  have hK':=jQ.1 hK
  have e:f.1=g.1:=by
   rcases qMj f.1 g.1 with hl|hl|hl
   ·have h1:=h f.1
    rw[qLr (L:=g::K) (fun x hx=>by
     rcases jH.1 hx with rfl|hx
     ·exact hl
     ·exact qJy hl (hK'.1 x hx))] at h1
    simp[fget] at h1
   ·exact hl
   ·have h1:=h g.1
    rw[qLr (L:=f::L) (fun x hx=>by
     rcases jH.1 hx with rfl|hx
     ·exact hl
     ·exact qJy hl (hL'.1 x hx))] at h1
    simp[fget] at h1
  have e2:f.2=g.2:=by have:=h f.1;rw[e] at this;simpa[fget,e] using this
  have e3:f=g:=Prod.ext e e2
  subst e3
  congr 1
  refine Asc.ext hL'.2 hK'.2 fun p=> ?_
  by_cases hp:f.1=p
  ·subst hp
   rw[qLr hL'.1,qLr hK'.1]
  ·have:=h p
   simpa[fget,hp] using this
theorem qTu{L:List File}{p b:ByteArray}{f:File}(h:f∈fput L p b):f=(p,b)∨f∈L:=by
 induction L with
 |nil=>simp[fput] at h;exact .inl h
 |cons g L ih=>
  simp only[fput] at h
  split at h
  ·rcases jH.1 h with h|h
   ·exact .inl h
   ·exact .inr h
  ·split at h
   ·rcases jH.1 h with h|h
    ·exact .inl h
    ·exact .inr (jK _ h)
   ·rcases jH.1 h with h|h
    ·exact .inr (h▸jI ..)
    ·rcases ih h with h|h
     ·exact .inl h
     ·exact .inr (jK _ h)
theorem Asc.put{L:List File}(h:Asc L)(p b:ByteArray):Asc (fput L p b):=by
 induction L with
 |nil=>exact List.pairwise_singleton _ _
 |cons g L ih=>
  have h':=jQ.1 h
  simp only[fput]
  split
  ·rename_i h1
   refine jQ.2 ⟨fun x hx=> ?_,h⟩
   rcases jH.1 hx with rfl|hx
   ·exact h1
   ·exact qJy h1 (h'.1 x hx)
  ·rename_i h1
   split
   ·rename_i h2
    exact jQ.2 ⟨fun x hx=>by have:=h'.1 x hx;rw[h2] at this;exact this,h'.2⟩
   ·rename_i h2
    refine jQ.2 ⟨fun x hx=> ?_,ih h'.2⟩
    rcases qTu hx with rfl|hx
    ·rcases qMj g.1 p with h3|h3|h3
     ·exact h3
     ·exact absurd h3 h2
     ·exact absurd h3 h1
    ·exact h'.1 x hx
theorem Asc.del{L:List File}(h:Asc L)(p:ByteArray):Asc (fdel L p):=List.Pairwise.filter _ h
theorem qOt(L:List File)(p b:ByteArray):(fput L p b).length≤L.length+1:=by
 induction L with
 |nil=>simp[fput]
 |cons g L ih=>
  simp only[fput]
  split
  ·simp
  ·split
   ·simp
   ·simp only[jA];omega
def zKk(f:File):Prop:=qJb f.1.data.toList=true∧f.2.size≤16384
def WF(L:List File):Prop:=L.length≤64∧Asc L∧∀f∈L,zKk f
theorem WF.put{L:List File}(h:WF L){p b:ByteArray}(hp:qJb p.data.toList=true)(hb:b.size≤16384)(hl:(fput L p b).length≤64):WF (fput L p b):=
 ⟨hl,h.2.1.put p b,fun f hf=>by
  rcases qTu hf with rfl|hf
  ·exact⟨hp,hb⟩
  ·exact h.2.2 f hf⟩
theorem WF.del{L:List File}(h:WF L)(p:ByteArray):WF (fdel L p):=
 ⟨f0 (gA _ _) h.1,h.2.1.del p,fun f hf=>h.2.2 f ((gN.1 hf).1)⟩
def zBn(q:Option ByteArray)(p:ByteArray):Bool:=match q with
 |some x=>blt p x
 |none=>false
def qSb:Option ByteArray→List File→Int
 |_,[]=>0
 |q,f::L=>
  if qJb f.1.data.toList=false then 6
  else if q=some f.1 then 10
  else if zBn q f.1=true then 6
  else if 16384<f.2.size then 2
  else qSb (some f.1) L
def qFv(L:List File):Int:=if 64<L.length then 2 else qSb none L
theorem zAg:∀{L:List File} {q:Option ByteArray},qSb q L=0↔Asc L∧(∀f∈L,zKk f)∧∀x,q=some x→∀f∈L,blt x f.1=true
 |[],q=>by simp[qSb,Asc]
 |f::L,q=>by
  have ih:=zAg (L:=L) (q:=some f.1)
  simp only[qSb]
  by_cases h1:qJb f.1.data.toList=false
  ·rw[if_pos h1]
   refine⟨fun h=>by omega,fun h=> ?_⟩
   have:=(h.2.1 f (jI ..)).1;rw[h1] at this;cases this
  rw[if_neg h1]
  have h1:qJb f.1.data.toList=true:=by simpa using h1
  by_cases h2:q=some f.1
  ·rw[if_pos h2]
   refine⟨fun h=>by omega,fun h=> ?_⟩
   have:=h.2.2 _ h2 f (jI ..);rw[qKi] at this;cases this
  rw[if_neg h2]
  by_cases h3:zBn q f.1=true
  ·rw[if_pos h3]
   refine⟨fun h=>by omega,fun h=> ?_⟩
   cases q with
   |none=>cases h3
   |some x=>have:=h.2.2 x rfl f (jI ..);rw[show zBn (some x) f.1=blt f.1 x from rfl,qZk this] at h3;cases h3
  rw[if_neg h3]
  by_cases h4:16384<f.2.size
  ·rw[if_pos h4]
   refine⟨fun h=>by omega,fun h=> ?_⟩
   have:=(h.2.1 f (jI ..)).2;omega
  rw[if_neg h4,ih]
  have hq:∀x,q=some x→blt x f.1=true:=fun x hx=>by
   subst hx
   rcases qMj x f.1 with g|g|g
   ·exact g
   ·exact absurd (by rw[g]) h2
   ·exact absurd g h3
  constructor
  ·rintro⟨a1,a2,a3⟩
   refine⟨jQ.2 ⟨a3 f.1 rfl,a1⟩,fun g hg=> ?_,fun x hx g hg=> ?_⟩
   ·rcases jH.1 hg with rfl|hg
    ·exact⟨h1,by omega⟩
    ·exact a2 g hg
   ·rcases jH.1 hg with rfl|hg
    ·exact hq x hx
    ·exact qJy (hq x hx) (a3 f.1 rfl g hg)
  ·rintro⟨a1,a2,a3⟩
   have a1:=jQ.1 a1
   exact⟨a1.2,fun g hg=>a2 g (jK _ hg),fun x hx=>by cases hx;exact a1.1⟩
theorem qFk{L:List File}:qFv L=0↔WF L:=by
 unfold qFv WF
 by_cases h:64<L.length
 ·rw[if_pos h];exact⟨fun h=>by omega,fun g=>by omega⟩
 ·rw[if_neg h,zAg]
  exact⟨fun g=>⟨by omega,g.1,g.2.1⟩,fun g=>⟨g.2.1,g.2.2,fun x hx=>by cases hx⟩⟩
def resK(c:Int):Unit⊕Int:=if c=0 then .inl () else .inr c
def qAt(L:List File)(i:Nat):Option ByteArray:=if i=0 then none else(L[i-1]?).map (·.1)
theorem qXp{L:List File}{f:Int→Option (Int⊕(Unit⊕Int))}
  (step:∀i:Nat,∀h:i<L.length,f (i:Int)=if qJb L[i].1.data.toList=false then some (.inr (.inr 6)) else if qAt L i=some L[i].1 then some (.inr (.inr 10)) else if zBn (qAt L i) L[i].1=true then some (.inr (.inr 6)) else if 16384<L[i].2.size then some (.inr (.inr 2)) else some (.inl ((i:Int)+1)))
  (stop:f (L.length:Int)=some (.inr (.inl ()))):∀(d i M:Nat),i+d=L.length→d<M→qBj f M (i:Int)=some (resK (qSb (qAt L i) (L.drop i)))
 |_,_,0,_,h=>by omega
 |0,i,M+1,hd,_=>by
  have:i=L.length:=by omega
  subst this
  simp[qBj,stop,qSb,resK]
 |d+1,i,M+1,hd,hM=>by
  have hi:i<L.length:=by omega
  have ih:=qXp step stop d (i+1) M (by omega) (by omega)
  have e1:(i:Int)+1=((i+1:Nat):Int):=by omega
  have e2:qAt L (i+1)=some L[i].1:=by simp[qAt,hi]
  simp only[qBj,step i hi]
  rw[jV hi]
  simp only[qSb]
  by_cases h1:qJb L[i].1.data.toList=false
  ·rw[if_pos h1,if_pos h1];rfl
  rw[if_neg h1,if_neg h1]
  by_cases h2:qAt L i=some L[i].1
  ·rw[if_pos h2,if_pos h2];rfl
  rw[if_neg h2,if_neg h2]
  by_cases h3:zBn (qAt L i) L[i].1=true
  ·rw[if_pos h3,if_pos h3];rfl
  rw[if_neg h3,if_neg h3]
  by_cases h4:16384<L[i].2.size
  ·rw[if_pos h4,if_pos h4];rfl
  rw[if_neg h4,if_neg h4,e1]
  simp only[j0]
  rw[ih,e2]
theorem eqB(x y:ByteArray):(x.toList==y.toList)=decide (x=y):=qIa x y
theorem zJq{N:Nat}{L:List File}{P:ByteArray→Option Bool}{f:Int→Option (Int⊕(Unit⊕Int))}(hP:∀g∈L,P g.1=some (qJb g.1.data.toList))
  (hf:∀s1,f s1=if(decide (s1<(List.length L:Int)))=true then((idx L s1).bind fun x1=>(P x1.1).bind fun y1=>if(!y1)=true then(some (.inr (.inr (6)))) else((if(decide (s1>0))=true then((idx L (IntKind.wrap .i64 (s1-1))).bind fun x2=>some (x1.1.toList==x2.1.toList)) else(some false):Option (Bool)).bind fun o2=>if o2=true then(some (.inr (.inr (10)))) else((if(decide (s1>0))=true then((idx L (IntKind.wrap .i64 (s1-1))).bind fun x3=>some (Op.bytesLess x1.1.toList x3.1.toList)) else(some false):Option (Bool)).bind fun o3=>if o3=true then(some (.inr (.inr (6)))) else(if(decide ((ByteArray.size x1.2:Int)>16384))=true then(some (.inr (.inr (2)))) else(some (.inl (IntKind.wrap .i64 (s1+1)))))))) else(some (.inr (.inl ()))))
  (hN:100<N):(if(decide ((List.length L:Int)>64))=true then(some 2) else((qBj f N 0).bind fun out1=>(match out1 with| .inl _=>some 0| .inr z=>some z)):Option Int)=some (qFv L):=by
 unfold qFv
 by_cases h:64<L.length
 ·rw[if_pos h,if_pos (by simp only[j9];omega)]
 ·rw[if_neg h,if_neg (by simp only[j9];omega)]
  have key:=qXp (L:=L) (f:=f) (fun i hi=>by
   rw[hf,if_pos (by simp only[j9];omega),qDs hi]
   simp only[j0,hP _ (jX hi)]
   by_cases h1:qJb L[i].1.data.toList=false
   ·rw[if_pos (by rw[h1];rfl),if_pos h1]
   have h1':qJb L[i].1.data.toList=true:=by simpa using h1
   rw[if_neg (by rw[h1'];simp),if_neg h1]
   by_cases h0:0<i
   ·have hi1:i-1<L.length:=by omega
    have ew:IntKind.wrap .i64 ((i:Int)-1)=((i-1:Nat):Int):=by rw[wi64 (by omega) (by omega)];omega
    have eq:qAt L i=some (L[i-1]).1:=by simp[qAt,hi1];omega
    rw[ew,qDs hi1,eq]
    have ed:decide ((i:Int)>0)=true:=by simp only[j9];omega
    simp only[j0,eqB,ed,jR,j9,jF]
    by_cases h2:L[i].1=(L[i-1]).1
    ·rw[if_pos h2,if_pos h2.symm]
    rw[if_neg h2,if_neg (show ¬(L[i-1]).1=L[i].1 from fun e=>h2 e.symm)]
    have el:zBn (some (L[i-1]).1) L[i].1=Op.bytesLess L[i].1.toList (L[i-1]).1.toList:=rfl
    rw[el]
    by_cases h3:Op.bytesLess L[i].1.toList (L[i-1]).1.toList=true
    ·rw[if_pos h3,if_pos h3]
    rw[if_neg h3,if_neg h3]
    by_cases h4:16384<L[i].2.size
    ·rw[if_pos (by omega),if_pos h4]
    ·rw[if_neg (by omega),if_neg h4,wi64 (by omega) (by omega)]
   ·have h0:i=0:=by omega
    subst h0
    have ed:decide (((0:Nat):Int)>0)=false:=by decide
    have eq:qAt L 0=none:=rfl
    have el:zBn none (L[0]).1=false:=rfl
    simp only[ed,jC,jP,j0,eq,j9,reduceCtorEq,el]
    by_cases h4:16384<L[0].2.size
    ·rw[if_pos (by omega),if_pos h4]
    ·rw[if_neg (by omega),if_neg h4,wi64 (by omega) (by omega)]) (by rw[hf,if_neg (by simp)]) L.length 0 N (by omega) (by omega)
  rw[show((0:Nat):Int)=0 from rfl] at key
  rw[key,kI]
  have eq:qAt L 0=none:=rfl
  rw[eq]
  simp only[j0,resK]
  by_cases hc:qSb none L=0
  ·rw[if_pos hc,hc]
  ·rw[if_neg hc]
theorem zCs{N:Nat}{L:List File}(hP:∀g∈L,qHx N g.1=some (qJb g.1.data.toList))(hN:100<N):qJs N L=some (qFv L):=
 zJq (f:=qJn N L) (P:=qHx N) hP (fun _=>rfl) hN
end
section
open Go Go.Dc Go.Proofs
def qRv:ByteArray:=⟨#[]⟩
def findR(o:Option ByteArray):ByteArray×Bool:=match o with
 |some b=>(b,true)
 |none=>(qRv,false)
def zLt(L:List File)(p:ByteArray):ByteArray×Bool:=if qFv L=0 then findR (fget L p) else(qRv,false)
abbrev qIu(N:Nat)(L:List File):Prop:=∀g∈L,qHx N g.1=some (qJb g.1.data.toList)
def qDm(s:ByteArray):Bool:=qJb s.data.toList&&decide (4<s.size)&&decide (s.extract (s.size-4) s.size=(⟨#[46,115,114,99]⟩:ByteArray))
theorem qUp{N:Nat}{s:ByteArray}(hp:qHx N s=some (qJb s.data.toList)):qGp N s=some (qDm s):=by
 simp only[qGp,hp,j0]
 unfold qDm
 cases hb:qJb s.data.toList with
 |false=>simp
 |true=>
  have h80:s.size≤80:=by
   have:s.data.toList.length≤80:=(kL hb).1
   have e:=qCk s
   omega
  rw[if_pos rfl]
  by_cases h4:4<s.size
  ·rw[if_pos (by simp only[j9];omega)]
   have e4:ByteArray.size (⟨#[46,115,114,99]⟩:ByteArray)=4:=rfl
   simp only[qJi,qDy,e4]
   rw[if_pos (by simp only[j9];omega),show IntKind.wrap .i64 ((s.size:Int)-((4:Nat):Int))=((s.size-4:Nat):Int) by rw[wi64 (by omega) (by omega)];omega,qQa (by omega) (by omega) (by omega)]
   simp only[j0,kC,eqB,k9 h4,gC]
  ·rw[if_neg (by simp only[j9];omega),kJ h4];rfl
theorem qVq{N:Nat}{s:ByteArray}(hN:100<N):qFm N s=some (qDm s):=by
 simp only[qFm,zEv hN,j0]
 unfold qDm
 cases hb:qJb s.data.toList with
 |false=>simp
 |true=>
  have h80:s.size≤80:=by
   have:s.data.toList.length≤80:=(kL hb).1
   have e:=qCk s
   omega
  rw[if_pos rfl]
  by_cases h4:4<s.size
  ·rw[if_pos (by simp only[j9];omega),show IntKind.wrap .i64 ((s.size:Int)-4)=((s.size-4:Nat):Int) by rw[wi64 (by omega) (by omega)];omega,qQa (by omega) (by omega) (by omega)]
   simp only[j0,kC,eqB,k9 h4,gC]
  ·rw[if_neg (by simp only[j9];omega),kJ h4];rfl
section
variable {κ ν:Type} [DecidableEq κ]
theorem qXe:∀(l:List (κ×ν)) (k:κ) (v:ν) (c:κ),mget (qMy l k v) c=if c=k then some v else mget l c
 |[],k,v,c=>by simp[qMy,mget]
 |p::l,k,v,c=>by
  simp only[qMy]
  by_cases h:k=p.1
  ·rw[if_pos h]
   simp only[mget]
   by_cases h2:c=k
   ·rw[if_pos h2,if_pos h2]
   ·rw[if_neg h2,if_neg h2,if_neg (by rw[←h];exact h2)]
  ·rw[if_neg h]
   simp only[mget]
   rw[qXe l k v c]
   by_cases h2:c=p.1
   ·rw[if_pos h2,if_neg (fun e=>h (by rw[←e,h2])),if_pos h2]
   ·rw[if_neg h2,if_neg h2]
theorem qOi[KOrd κ]{l:List (κ×ν)}(hn:(l.map (·.1)).Nodup)(k:κ)(v:ν)(c:κ):mget (mset l k v) c=if c=k then some v else mget l c:=by
 rw[←qVo (qMs (.refl l) hn k v) (qLi hn k v) c,qXe]
theorem qLk[KOrd κ]{l:List (κ×ν)}(hn:(l.map (·.1)).Nodup)(k:κ)(v:ν):((mset l k v).map (·.1)).Nodup:=
 ((qMs (.refl l) hn k v).map _).nodup_iff.1 (qLi hn k v)
end
end
section
open Go Go.Dc
instance decMemB(s:ByteArray)(l:List ByteArray):Decidable (s∈l):=@List.instDecidableMemOfLawfulBEq ByteArray instBEqOfDecidableEq inferInstance s l
abbrev Ex:=Int×Int×Int×ByteArray×List Int
abbrev Dl:=Int×ByteArray×List ByteArray×List Ex
abbrev Sr:=ByteArray×List ByteArray×List Dl
abbrev Flt:=Int×Int
abbrev Ps:=Nat×List Ex
abbrev PM(α:Type):=Flt⊕(Ps×α)
def tkAt(ts:List Tok)(i:Nat):Tok:=ts.getD i (5,⟨#[]⟩,0,0)
def qKm{α:Type}(t:Tok)(e:Int):Flt⊕α:= .inl (t.2.2.2,e)
def qDn{α β:Type}(x:Flt⊕α)(f:α→Flt⊕β):Flt⊕β:=
 match x with
 | .inl z=> .inl z
 | .inr a=>f a
def isC(ts:List Tok)(k:Int)(s:ByteArray)(i:Nat):Bool:=(tkAt ts i).1==k&&decide ((tkAt ts i).2.1=s)
def qKr(ts:List Tok)(s:ByteArray)(i:Nat):Flt⊕Nat:=if isC ts 4 s i then .inr (i+1) else qKm (tkAt ts i) 9
def qVs(ts:List Tok)(s:ByteArray)(i:Nat):Flt⊕Nat:=if isC ts 1 s i then .inr (i+1) else qKm (tkAt ts i) 9
def qRb(ts:List Tok)(k:Int)(i:Nat):Flt⊕(Nat×Tok):=if(tkAt ts i).1=k then .inr (i+1,tkAt ts i) else qKm (tkAt ts i) 9
def qTv:ByteArray:=⟨#[112,97,99,107,97,103,101]⟩
def qXz:ByteArray:=⟨#[105,109,112,111,114,116]⟩
def zIp:ByteArray:=⟨#[102,117,110,99]⟩
def zIv:ByteArray:=⟨#[116,101,115,116]⟩
def sGen:ByteArray:=⟨#[103,101,110]⟩
def sIf:ByteArray:=⟨#[105,102]⟩
def zJh:ByteArray:=⟨#[116,104,101,110]⟩
def zKb:ByteArray:=⟨#[101,108,115,101]⟩
def qVv:ByteArray:=⟨#[114,101,97,100]⟩
def qVx:ByteArray:=⟨#[115,105,122,101]⟩
def sHas:ByteArray:=⟨#[104,97,115]⟩
def sEnv:ByteArray:=⟨#[101,110,118]⟩
def zAf:ByteArray:=⟨#[102,108,105,112]⟩
def qVw:ByteArray:=⟨#[40]⟩
def qOg:ByteArray:=⟨#[41]⟩
def qWs:ByteArray:=⟨#[44]⟩
def zEx:ByteArray:=⟨#[59]⟩
def sEq:ByteArray:=⟨#[61]⟩
def zKr:ByteArray:=⟨#[45]⟩
def zKm:List ByteArray:=[qTv,qXz,zIp,zIv,sGen,sIf,zJh,zKb,qVv,qVx,sHas,sEnv,zAf]
def resC(s:ByteArray):Bool:=decide (s∈zKm)
def qRo(ts:List Tok)(i:Nat):Flt⊕(Nat×Tok):=qDn (qRb ts 1 i) fun p=>if resC p.2.2.1 then qKm p.2 9 else .inr p
def qSt(ts:List Tok)(i:Nat):Flt⊕(Nat×Tok):=qDn (qRb ts 3 i) fun p=>if qJb p.2.2.1.data.toList then .inr p else qKm p.2 9
def zHs(ts:List Tok)(i:Nat):Flt⊕(Nat×Tok):=qDn (qRb ts 3 i) fun p=>if zEi p.2.2.1 then .inr p else qKm p.2 9
def qOc(t:Tok)(x:Ex)(p:Ps):PM Nat:=if p.2.length=256 then qKm t 2 else .inr ((p.1,p.2++[x]),p.2.length)
def opsC:List (Int×ByteArray):=[(1,⟨#[43]⟩),(2,⟨#[45]⟩),(3,⟨#[42]⟩),(4,⟨#[47]⟩),(5,⟨#[37]⟩),(6,⟨#[60]⟩),(7,⟨#[61,61]⟩)]
def levP(op:Int):Nat:=if op=6∨op=7 then 1 else if op=1∨op=2 then 2 else 3
def isOp(ts:List Tok)(level:Nat)(i:Nat)(o:Int×ByteArray):Bool:=isC ts 4 o.2 i&&decide (levP o.1=level)
def opC(ts:List Tok)(level:Nat)(i:Nat):Int:=
 match opsC.find? (isOp ts level i) with
 |some o=>o.1
 |none=>0
section
variable (ts:List Tok) (params:List ByteArray) (E:Ps→PM Nat)
def zFv:Nat→List Int→Ps→PM (List Int)
 |0,_,p=>qKm (tkAt ts p.1) 9
 |n+1,l,p=>qDn (E p) fun q=>
  if isC ts 4 qWs q.1.1 then zFv n (l++[(q.2:Int)]) (q.1.1+1,q.1.2)
  else qDn (qKr ts qOg q.1.1) fun i=> .inr ((i,q.1.2),l++[(q.2:Int)])
def qLm(p:Ps):PM (List Int):=
 qDn (qKr ts qVw p.1) fun i=>if isC ts 4 qOg i then .inr ((i+1,p.2),[]) else zFv ts E (ts.length+1) [] (i,p.2)
def qOr(t:Tok)(p:Ps):PM Nat:=
 qDn (qKr ts qVw p.1) fun i=>
 qDn (if t.2.1=qVv then
   qDn (qSt ts i) fun a=>qDn (qKr ts qWs a.1) fun i=>qDn (E (i,p.2)) fun q=> .inr (q.1,((6,0,0,a.2.2.1,[(q.2:Int)]):Ex))
  else if t.2.1=qVx then qDn (qSt ts i) fun a=> .inr ((a.1,p.2),((7,0,0,a.2.2.1,[]):Ex))
  else if t.2.1=sHas then qDn (qSt ts i) fun a=> .inr ((a.1,p.2),((8,0,0,a.2.2.1,[]):Ex))
  else if t.2.1=sEnv then qDn (zHs ts i) fun a=> .inr ((a.1,p.2),((9,0,0,a.2.2.1,[]):Ex))
  else qDn (qRb ts 2 i) fun a=>if a.2.2.2.1≥64 then qKm a.2 9 else .inr ((a.1,p.2),((10,a.2.2.2.1,0,⟨#[]⟩,[]):Ex))) fun q=>
 qDn (qKr ts qOg q.1.1) fun i=>qOc t q.2 (i,q.1.2)
def qRm(p:Ps):PM Nat:=
 let t:=tkAt ts p.1
 if t.1=2 then qOc t (1,t.2.2.1,0,⟨#[]⟩,[]) (p.1+1,p.2)
 else if isC ts 4 zKr p.1 then qDn (qRb ts 2 (p.1+1)) fun a=>qOc t (1,IntKind.wrap .i64 (0-a.2.2.2.1),0,⟨#[]⟩,[]) (a.1,p.2)
 else if isC ts 4 qVw p.1 then qDn (E (p.1+1,p.2)) fun q=>qDn (qKr ts qOg q.1.1) fun i=> .inr ((i,q.1.2),q.2)
 else if t.1≠1 then qKm t 9
 else if t.2.1∈[qVv,qVx,sHas,sEnv,zAf] then qOr ts E t (p.1+1,p.2)
 else if resC t.2.1 then qKm t 9
 else if isC ts 4 qVw (p.1+1) then qDn (qLm ts E (p.1+1,p.2)) fun q=>qOc t (3,0,0,t.2.1,q.2) q.1
 else match params.findIdx? (fun x=>decide (x=t.2.1)) with
  |some i=>qOc t (2,(i:Int),0,⟨#[]⟩,[]) (p.1+1,p.2)
  |none=>qKm t 9
def zFa(level:Nat)(S:Ps→PM Nat):Nat→Nat→Ps→PM Nat
 |0,_,p=>qKm (tkAt ts p.1) 9
 |n+1,x,p=>
  if opC ts level p.1=0 then .inr (p,x)
  else qDn (S (p.1+1,p.2)) fun q=>qDn (qOc (tkAt ts p.1) (4,0,opC ts level p.1,⟨#[]⟩,[(x:Int),(q.2:Int)]) q.1) fun r=>
   if level=1 then .inr r else zFa level S n r.2 r.1
def qXk(level:Nat)(S:Ps→PM Nat)(p:Ps):PM Nat:=qDn (S p) fun q=>zFa ts level S (ts.length+1) q.2 q.1
def zLs:Ps→PM Nat:=qXk ts 3 (qRm ts params E)
def sumC:Ps→PM Nat:=qXk ts 2 (zLs ts params E)
def qTw:Ps→PM Nat:=qXk ts 1 (sumC ts params E)
end
def qKf(ts:List Tok)(params:List ByteArray):Nat→Ps→PM Nat
 |0,p=>qKm (tkAt ts p.1) 2
 |k+1,p=>
  if isC ts 1 sIf p.1 then
   qDn (qKf ts params k (p.1+1,p.2)) fun a=>qDn (qVs ts zJh a.1.1) fun i=>
   qDn (qKf ts params k (i,a.1.2)) fun b=>qDn (qVs ts zKb b.1.1) fun j=>
   qDn (qKf ts params k (j,b.1.2)) fun c=>qOc (tkAt ts p.1) (5,0,0,⟨#[]⟩,[(a.2:Int),(b.2:Int),(c.2:Int)]) c.1
  else qTw ts params (qKf ts params k) p
def qUj(ts:List Tok):Nat→List ByteArray→Nat→Flt⊕(Nat×List ByteArray)
 |0,_,i=>qKm (tkAt ts i) 9
 |n+1,l,i=>qDn (qRo ts i) fun a=>
  if l.length=8 then qKm a.2 2
  else if a.2.2.1∈l then qKm a.2 10
  else if isC ts 4 qWs a.1 then qUj ts n (l++[a.2.2.1]) (a.1+1)
  else qDn (qKr ts qOg a.1) fun j=> .inr (j,l++[a.2.2.1])
def qKd(ts:List Tok)(i:Nat):Flt⊕(Nat×List ByteArray):=
 qDn (qKr ts qVw i) fun j=>if isC ts 4 qOg j then .inr (j+1,[]) else qUj ts (ts.length+1) [] j
def qMb(s:ByteArray):Int:=if s=zIp then 1 else if s=zIv then 2 else if s=sGen then 3 else 0
def zBb(ts:List Tok)(before:List Dl)(i:Nat):Flt⊕(Nat×Dl):=
 let t:=tkAt ts i
 let k:=qMb t.2.1
 if t.1≠1∨k=0 then qKm t 9
 else if before.length=64 then qKm t 2
 else qDn (if k=3 then qSt ts (i+1) else qRo ts (i+1)) fun a=>
  if before.any (fun d=>d.1==k&&decide (d.2.1=a.2.2.1)) then qKm a.2 10
  else qDn (if k=1 then qKd ts a.1 else .inr (a.1,[])) fun b=>
   qDn (qKr ts sEq b.1) fun j=>qDn (qKf ts b.2 32 (j,[])) fun c=>
   qDn (qKr ts zEx c.1.1) fun m=> .inr (m,(k,a.2.2.1,b.2,c.1.2))
def qOx(ts:List Tok)(pkg:ByteArray):Nat→List ByteArray→Nat→Flt⊕(Nat×List ByteArray)
 |0,_,i=>qKm (tkAt ts i) 9
 |n+1,l,i=>
  if isC ts 1 qXz i then
   if l.length=8 then qKm (tkAt ts i) 2
   else qDn (qRo ts (i+1)) fun a=>
    if a.2.2.1=pkg∨a.2.2.1∈l then qKm a.2 10
    else qDn (qKr ts zEx a.1) fun j=>qOx ts pkg n (l++[a.2.2.1]) j
  else .inr (i,l)
def qVc(ts:List Tok):Nat→List Dl→Nat→Flt⊕List Dl
 |0,_,i=>qKm (tkAt ts i) 9
 |n+1,l,i=>if(tkAt ts i).1=5 then .inr l else qDn (zBb ts l i) fun a=>qVc ts n (l++[a.2]) a.1
def zBs(ts:List Tok):Flt⊕Sr:=
 qDn (qVs ts qTv 0) fun i=>qDn (qRo ts i) fun a=>qDn (qKr ts zEx a.1) fun j=>
 qDn (qOx ts a.2.2.1 (ts.length+1) [] j) fun b=>qDn (qVc ts (ts.length+1) [] b.1) fun l=> .inr (a.2.2.1,b.2,l)
def zGr:Sr:=(⟨#[]⟩,[],[])
def qGf(s:ByteArray):Sr×Int×Int:=
 if(qHn s).2.2≠0 then(zGr,(qHn s).2.1,(qHn s).2.2)
 else match zBs (qHn s).1 with
  | .inl z=>(zGr,z.1,z.2)
  | .inr f=>(f,0,0)
end
section
open Go Go.Dc
def OkT(ts:List Tok):Prop:=ts≠[]∧∀i,i<ts.length→((tkAt ts i).1=5↔i+1=ts.length)
theorem qCb{α β:Type}{x:Flt⊕α}{f:α→Flt⊕β}{b:β}(h:qDn x f= .inr b):∃a,x= .inr a∧f a= .inr b:=by
 cases x with
 |inl z=>cases h
 |inr a=>exact⟨a,rfl,h⟩
section
variable {ts:List Tok} {params:List ByteArray} {E S:Ps→PM Nat}
theorem OkT.next(h:OkT ts){i:Nat}(hi:i<ts.length)(hk:(tkAt ts i).1≠5):i+1<ts.length:=by
 have h3:¬i+1=ts.length:=fun e=>hk ((h.2 i hi).2 e)
 omega
theorem qYd{k:Int}{s:ByteArray}{i:Nat}(h:isC ts k s i=true):(tkAt ts i).1=k:=by
 simp only[isC,jU,kD] at h;exact h.1
theorem qHs(h:OkT ts){k:Int}{s:ByteArray}{i:Nat}(hi:i<ts.length)(hk:k≠5)(h1:isC ts k s i=true):i+1<ts.length:=h.next hi (by rw[qYd h1];exact hk)
theorem qGn(h:OkT ts){s:ByteArray}{i j:Nat}(hi:i<ts.length)(h1:qKr ts s i= .inr j):j=i+1∧j<ts.length∧isC ts 4 s i=true:=by
 unfold qKr at h1
 split at h1
 ·rename_i h2
  obtain rfl:=Sum.inr.inj h1
  exact⟨rfl,qHs h hi (by decide) h2,h2⟩
 ·cases h1
theorem qQm(h:OkT ts){s:ByteArray}{i j:Nat}(hi:i<ts.length)(h1:qVs ts s i= .inr j):j=i+1∧j<ts.length∧isC ts 1 s i=true:=by
 unfold qVs at h1
 split at h1
 ·rename_i h2
  obtain rfl:=Sum.inr.inj h1
  exact⟨rfl,qHs h hi (by decide) h2,h2⟩
 ·cases h1
theorem qOn(h:OkT ts){k:Int}(hk:k≠5){i:Nat}{a:Nat×Tok}(hi:i<ts.length)(h1:qRb ts k i= .inr a):a=(i+1,tkAt ts i)∧i+1<ts.length∧(tkAt ts i).1=k:=by
 unfold qRb at h1
 split at h1
 ·rename_i h2
  obtain rfl:=Sum.inr.inj h1
  exact⟨rfl,h.next hi (by rw[h2];exact hk),h2⟩
 ·cases h1
theorem qNn(h:OkT ts){i:Nat}{a:Nat×Tok}(hi:i<ts.length)(h1:qRo ts i= .inr a):a=(i+1,tkAt ts i)∧i+1<ts.length∧(tkAt ts i).1=1∧resC (tkAt ts i).2.1=false:=by
 obtain⟨b,hb,h2⟩:=qCb h1
 obtain⟨rfl,g1,g2⟩:=qOn h (by decide) hi hb
 split at h2
 ·cases h2
 ·rename_i g3
  obtain rfl:=Sum.inr.inj h2
  exact⟨rfl,g1,g2,by simpa using g3⟩
theorem qNk(h:OkT ts){i:Nat}{a:Nat×Tok}(hi:i<ts.length)(h1:qSt ts i= .inr a):a=(i+1,tkAt ts i)∧i+1<ts.length∧(tkAt ts i).1=3∧qJb (tkAt ts i).2.1.data.toList=true:=by
 obtain⟨b,hb,h2⟩:=qCb h1
 obtain⟨rfl,g1,g2⟩:=qOn h (by decide) hi hb
 split at h2
 ·rename_i g3
  obtain rfl:=Sum.inr.inj h2
  exact⟨rfl,g1,g2,g3⟩
 ·cases h2
theorem zHx(h:OkT ts){i:Nat}{a:Nat×Tok}(hi:i<ts.length)(h1:zHs ts i= .inr a):a=(i+1,tkAt ts i)∧i+1<ts.length∧(tkAt ts i).1=3∧zEi (tkAt ts i).2.1=true:=by
 obtain⟨b,hb,h2⟩:=qCb h1
 obtain⟨rfl,g1,g2⟩:=qOn h (by decide) hi hb
 split at h2
 ·rename_i g3
  obtain rfl:=Sum.inr.inj h2
  exact⟨rfl,g1,g2,g3⟩
 ·cases h2
theorem zJt{t:Tok}{x:Ex}{p q:Ps}{i:Nat}(h:qOc t x p= .inr (q,i)):q=(p.1,p.2++[x])∧i=p.2.length∧p.2.length≠256:=by
 unfold qOc at h
 split at h
 ·cases h
 ·rename_i h1
  obtain⟨rfl,rfl⟩:=Prod.mk.inj (Sum.inr.inj h)
  exact⟨rfl,rfl,h1⟩
def Fwd(ts:List Tok)(p q:Ps):Prop:=p.1<q.1∧q.1<ts.length∧p.2.length≤q.2.length∧q.2.length≤256
def Adv(ts:List Tok)(S:Ps→PM Nat):Prop:=∀(p q:Ps) (x:Nat),p.1<ts.length→p.2.length≤256→S p= .inr (q,x)→Fwd ts p q∧x<q.2.length
theorem qNo{t:Tok}{x:Ex}{p r q:Ps}{i:Nat}(hp:p.1<r.1)(hr:r.1<ts.length)(hl:p.2.length≤r.2.length)(h256:r.2.length≤256)(h:qOc t x r= .inr (q,i)):Fwd ts p q∧i<q.2.length:=by
 obtain⟨rfl,rfl,g⟩:=zJt h
 refine⟨⟨hp,hr,?_,?_⟩,?_⟩<;>simp only[jJ,jA,jB]<;>omega
theorem zAm(h:OkT ts)(hE:Adv ts E):∀(n:Nat) (l:List Int) (p q:Ps) (x:List Int),p.1<ts.length→p.2.length≤256→zFv ts E n l p= .inr (q,x)→Fwd ts p q
 |0,_,_,_,_,_,_,h1=>by cases h1
 |n+1,l,p,q,x,hp,hb,h1=>by
  obtain⟨a,ha,h2⟩:=qCb (show qDn (E p) _=_ from h1)
  obtain⟨⟨f1,f2,f3,f4⟩,f5⟩:=hE p a.1 a.2 hp hb ha
  split at h2
  ·rename_i hc
   have g:=qHs h f2 (by decide) hc
   obtain⟨k1,k2,k3,k4⟩:=zAm h hE n _ (a.1.1+1,a.1.2) q x g f4 h2
   exact⟨by simp only at k1;omega,k2,by simp only at k3;omega,k4⟩
  ·obtain⟨j,hj,h3⟩:=qCb h2
   obtain⟨rfl,g1,-⟩:=qGn h f2 hj
   obtain⟨rfl,-⟩:=Prod.mk.inj (Sum.inr.inj h3)
   exact⟨by simp only;omega,g1,f3,f4⟩
theorem qQy(h:OkT ts)(hE:Adv ts E){p q:Ps}{x:List Int}(hp:p.1<ts.length)(hb:p.2.length≤256)(h1:qLm ts E p= .inr (q,x)):Fwd ts p q:=by
 obtain⟨i,hi,h2⟩:=qCb h1
 obtain⟨rfl,g1,-⟩:=qGn h hp hi
 split at h2
 ·rename_i hc
  obtain⟨rfl,-⟩:=Prod.mk.inj (Sum.inr.inj h2)
  exact⟨by simp only;omega,qHs h g1 (by decide) hc,jN _,hb⟩
 ·obtain⟨k1,k2,k3,k4⟩:=zAm h hE _ _ (p.1+1,p.2) q x g1 hb h2
  exact⟨by simp only at k1;omega,k2,k3,k4⟩
theorem qZd(h:OkT ts)(hE:Adv ts E){t:Tok}{p q:Ps}{x:Nat}(hp:p.1<ts.length)(hb:p.2.length≤256)(h1:qOr ts E t p= .inr (q,x)):Fwd ts p q∧x<q.2.length:=by
 obtain⟨i,hi,h2⟩:=qCb h1
 obtain⟨rfl,g1,-⟩:=qGn h hp hi
 obtain⟨a,ha,h3⟩:=qCb h2
 obtain⟨j,hj,h4⟩:=qCb h3
 have key:Fwd ts (p.1+1,p.2) a.1:=by
  split at ha
  ·obtain⟨b,hb1,hb2⟩:=qCb ha
   obtain⟨rfl,k1,-⟩:=qNk h g1 hb1
   obtain⟨c,hc1,hc2⟩:=qCb hb2
   obtain⟨rfl,k2,-⟩:=qGn h k1 hc1
   obtain⟨d,hd1,hd2⟩:=qCb hc2
   obtain⟨⟨f1,f2,f3,f4⟩,-⟩:=hE (p.1+1+1+1,p.2) d.1 d.2 k2 hb hd1
   obtain rfl:=Sum.inr.inj hd2
   exact⟨by simp only at f1 ⊢;omega,f2,f3,f4⟩
  ·split at ha
   ·obtain⟨b,hb1,hb2⟩:=qCb ha
    obtain⟨rfl,k1,-⟩:=qNk h g1 hb1
    obtain rfl:=Sum.inr.inj hb2
    exact⟨by simp only;omega,k1,jN _,hb⟩
   ·split at ha
    ·obtain⟨b,hb1,hb2⟩:=qCb ha
     obtain⟨rfl,k1,-⟩:=qNk h g1 hb1
     obtain rfl:=Sum.inr.inj hb2
     exact⟨by simp only;omega,k1,jN _,hb⟩
    ·split at ha
     ·obtain⟨b,hb1,hb2⟩:=qCb ha
      obtain⟨rfl,k1,-⟩:=zHx h g1 hb1
      obtain rfl:=Sum.inr.inj hb2
      exact⟨by simp only;omega,k1,jN _,hb⟩
     ·obtain⟨b,hb1,hb2⟩:=qCb ha
      obtain⟨rfl,k1,-⟩:=qOn h (by decide) g1 hb1
      split at hb2
      ·cases hb2
      ·obtain rfl:=Sum.inr.inj hb2
       exact⟨by simp only;omega,k1,jN _,hb⟩
 obtain⟨f1,f2,f3,f4⟩:=key
 obtain⟨rfl,g2,-⟩:=qGn h f2 hj
 exact qNo (r:=(a.1.1+1,a.1.2)) (by simp only at f1 ⊢;omega) g2 f3 f4 h4
theorem qUg(h:OkT ts)(hE:Adv ts E):Adv ts (qRm ts params E):=by
 intro p q x hp hb h1
 unfold qRm at h1
 dsimp only at h1
 split at h1
 ·rename_i hk
  exact qNo (r:=(p.1+1,p.2)) (by simp only;omega) (h.next hp (by rw[hk];decide)) (jN _) hb h1
 split at h1
 ·rename_i hc
  have g:=qHs h hp (by decide) hc
  obtain⟨a,ha,h2⟩:=qCb h1
  obtain⟨rfl,g1,-⟩:=qOn h (by decide) g ha
  exact qNo (r:=(p.1+1+1,p.2)) (by simp only;omega) g1 (jN _) hb h2
 split at h1
 ·rename_i hc
  have g:=qHs h hp (by decide) hc
  obtain⟨a,ha,h2⟩:=qCb h1
  obtain⟨⟨f1,f2,f3,f4⟩,f5⟩:=hE (p.1+1,p.2) a.1 a.2 g hb ha
  obtain⟨j,hj,h3⟩:=qCb h2
  obtain⟨rfl,g1,-⟩:=qGn h f2 hj
  obtain⟨rfl,rfl⟩:=Prod.mk.inj (Sum.inr.inj h3)
  exact⟨⟨by simp only at f1 ⊢;omega,g1,f3,f4⟩,f5⟩
 split at h1
 ·cases h1
 rename_i hk
 have g:=h.next hp (show(tkAt ts p.1).1≠5 by simp only[ne_eq,Decidable.not_not] at hk;rw[hk];decide)
 split at h1
 ·obtain⟨⟨f1,f2,f3,f4⟩,f5⟩:=qZd h hE (p:=(p.1+1,p.2)) g hb h1
  exact⟨⟨by simp only at f1;omega,f2,f3,f4⟩,f5⟩
 split at h1
 ·cases h1
 split at h1
 ·obtain⟨a,ha,h2⟩:=qCb h1
  obtain⟨f1,f2,f3,f4⟩:=qQy h hE (p:=(p.1+1,p.2)) g hb ha
  exact qNo (by simp only at f1;omega) f2 f3 f4 h2
 split at h1
 ·exact qNo (r:=(p.1+1,p.2)) (by simp only;omega) g (jN _) hb h1
 ·cases h1
theorem zAe(h:OkT ts){level:Nat}(hS:Adv ts S):∀(n x:Nat) (p q:Ps) (y:Nat),p.1<ts.length→p.2.length≤256→x<p.2.length→zFa ts level S n x p= .inr (q,y)→p.1≤q.1∧q.1<ts.length∧p.2.length≤q.2.length∧q.2.length≤256∧y<q.2.length
 |0,_,_,_,_,_,_,_,h1=>by cases h1
 |n+1,x,p,q,y,hp,hb,hx,h1=>by
  unfold zFa at h1
  split at h1
  ·obtain⟨rfl,rfl⟩:=Prod.mk.inj (Sum.inr.inj h1)
   exact⟨jN _,hp,jN _,hb,hx⟩
  ·rename_i hop
   have hk:(tkAt ts p.1).1≠5:=by
    intro hk
    apply hop
    unfold opC
    have:opsC.find? (isOp ts level p.1)=none:=by
     rw[List.find?_eq_none]
     intro o _ ho
     simp only[isOp,jU] at ho
     have:=qYd ho.1
     omega
    rw[this]
   have g:=h.next hp hk
   obtain⟨a,ha,h2⟩:=qCb h1
   obtain⟨⟨f1,f2,f3,f4⟩,f5⟩:=hS (p.1+1,p.2) a.1 a.2 g hb ha
   obtain⟨r,hr,h3⟩:=qCb h2
   obtain⟨⟨k1,k2,k3,k4⟩,k5⟩:=qNo (ts:=ts) (p:=p) (by simp only at f1;omega) f2 f3 f4 hr
   split at h3
   ·obtain⟨rfl,rfl⟩:=Prod.mk.inj (Sum.inr.inj h3)
    exact⟨by omega,k2,k3,k4,k5⟩
   ·obtain⟨j1,j2,j3,j4,j5⟩:=zAe h hS n _ _ q y k2 k4 k5 h3
    exact⟨by omega,j2,by omega,j4,j5⟩
theorem qOd(h:OkT ts){level:Nat}(hS:Adv ts S):Adv ts (qXk ts level S):=by
 intro p q x hp hb h1
 obtain⟨a,ha,h2⟩:=qCb h1
 obtain⟨⟨f1,f2,f3,f4⟩,f5⟩:=hS p a.1 a.2 hp hb ha
 obtain⟨j1,j2,j3,j4,j5⟩:=zAe h hS _ _ _ q x f2 f4 f5 h2
 exact⟨⟨by omega,j2,by omega,j4⟩,j5⟩
theorem qMi(h:OkT ts):∀k,Adv ts (qKf ts params k)
 |0=>fun _ _ _ _ _ h1=>by cases h1
 |k+1=>by
  intro p q x hp hb h1
  unfold qKf at h1
  split at h1
  ·rename_i hc
   have g:=qHs h hp (by decide) hc
   obtain⟨a,ha,h2⟩:=qCb h1
   obtain⟨⟨a1,a2,a3,a4⟩,-⟩:=qMi h k (p.1+1,p.2) a.1 a.2 g hb ha
   obtain⟨i,hi,h3⟩:=qCb h2
   obtain⟨rfl,g1,-⟩:=qQm h a2 hi
   obtain⟨b,hb1,h4⟩:=qCb h3
   obtain⟨⟨b1,b2,b3,b4⟩,-⟩:=qMi h k (a.1.1+1,a.1.2) b.1 b.2 g1 a4 hb1
   obtain⟨j,hj,h5⟩:=qCb h4
   obtain⟨rfl,g2,-⟩:=qQm h b2 hj
   obtain⟨c,hc1,h6⟩:=qCb h5
   obtain⟨⟨c1,c2,c3,c4⟩,-⟩:=qMi h k (b.1.1+1,b.1.2) c.1 c.2 g2 b4 hc1
   simp only at a1 a3 b1 b3 c1 c3
   exact qNo (by omega) c2 (by omega) c4 h6
  ·exact qOd h (qOd h (qOd h (qUg h (qMi h k)))) p q x hp hb h1
end
end
section
open Go Go.Dc
theorem idx_tk{ts:List Tok}{i:Nat}(hi:i<ts.length):idx ts (i:Int)=some (tkAt ts i):=by
 rw[qDs hi]
 simp[tkAt,kA,hi]
theorem qPb{i:Nat}(h:i<1000000):IntKind.wrap .i64 ((i:Int)+1)=((i+1:Nat):Int):=by rw[wi64 (by omega) (by omega)];omega
section
variable {N:Nat} {ts:List Tok} {pr:List ByteArray} {b:List Ex} {i:Nat}
theorem qKb(hi:i<ts.length):qBu N (ts,(i:Int),pr,b)=some ((ts,(i:Int),pr,b),tkAt ts i):=by
 simp only[qBu,idx_tk hi,j0]
theorem zFf(hi:i<ts.length)(k:Int)(s:ByteArray):qDp N (ts,(i:Int),pr,b) k s=some ((ts,(i:Int),pr,b),isC ts k s i):=by
 simp only[qDp,qKb hi,j0,qIa,isC]
 cases h:(tkAt ts i).1==k<;>simp[h]
theorem zBq(hi:i<ts.length)(hl:ts.length<1000000)(s:ByteArray):qEt N (ts,(i:Int),pr,b) s=some (Sum.map id (fun j:Nat=>(ts,(j:Int),pr,b)) (qVs ts s i)):=by
 simp only[qEt,zFf hi,qKb hi,j0,qBr,qVs]
 cases h:isC ts 1 s i
 ·simp[qKm]
 ·simp[qPb (show i<1000000 by omega)]
theorem qLv(hi:i<ts.length)(hl:ts.length<1000000)(s:ByteArray):qBn N (ts,(i:Int),pr,b) s=some (Sum.map id (fun j:Nat=>(ts,(j:Int),pr,b)) (qKr ts s i)):=by
 simp only[qBn,zFf hi,qKb hi,j0,qBr,qKr]
 cases h:isC ts 4 s i
 ·simp[qKm]
 ·simp[qPb (show i<1000000 by omega)]
theorem qNy(hi:i<ts.length)(hl:ts.length<1000000)(s:ByteArray):qCt N (ts,(i:Int),pr,b) s=some (if isC ts 4 s i then((ts,((i+1:Nat):Int),pr,b),true) else((ts,(i:Int),pr,b),false)):=by
 simp only[qCt,zFf hi,j0]
 cases h:isC ts 4 s i
 ·simp
 ·simp[qPb (show i<1000000 by omega)]
theorem qVi(hi:i<ts.length)(hl:ts.length<1000000){k:Int}(hk:k≠5):qDc N (ts,(i:Int),pr,b) k=some (Sum.map id (fun a:Nat×Tok=>((ts,(a.1:Int),pr,b),a.2)) (qRb ts k i)):=by
 simp only[qDc,qKb hi,j0,qBr,qRb]
 have h5:(k !=5)=true:=by simpa using hk
 by_cases h:(tkAt ts i).1=k
 ·have h1:((tkAt ts i).1 !=k)=false:=by simp[h]
  simp only[h1,h5,jC,jP,jR,j0,if_pos h,qPb (show i<1000000 by omega),jW]
 ·have h1:((tkAt ts i).1 !=k)=true:=by simp[h]
  simp only[h1,jR,j0,if_neg h,qKm,Sum.map_inl,id]
theorem orS(a b:Bool):(if a=true then some a else some b)=some (a||b):=by
 cases a<;>simp
theorem someB(b:Bool):(if b=true then some true else some false)=some b:=by cases b<;>simp
theorem qVh(s:ByteArray):qHv N s=some (resC s):=by
 simp only[qHv,qIa,resC,zKm,qTv,qXz,zIp,zIv,sGen,sIf,zJh,zKb,qVv,qVx,sHas,sEnv,zAf,jH,gB,or_false]
 simp only[orS,j0,someB,jF]
 simp only[Bool.decide_or]
theorem qYw(hi:i<ts.length)(hl:ts.length<1000000):qDg N (ts,(i:Int),pr,b)=some (Sum.map id (fun a:Nat×Tok=>((ts,(a.1:Int),pr,b),a.2)) (qRo ts i)):=by
 simp only[qDg,qVi hi hl (show(1:Int)≠5 by decide),j0,qBr,qRo]
 cases h:qRb ts 1 i with
 |inl z=>simp[qDn]
 |inr a=>
  simp only[jW,qVh,j0,qDn]
  cases h2:resC a.2.2.1<;>simp[qKm]
theorem qYr(hi:i<ts.length)(hl:ts.length<1000000)(hN:300000<N)(ht:∀j,(tkAt ts j).2.1.size<100000):qDe N (ts,(i:Int),pr,b)=some (Sum.map id (fun a:Nat×Tok=>((ts,(a.1:Int),pr,b),a.2)) (qSt ts i)):=by
 simp only[qDe,qVi hi hl (show(3:Int)≠5 by decide),j0,qBr,qSt]
 cases h:qRb ts 3 i with
 |inl z=>simp[qDn]
 |inr a=>
  have h3:a.2=tkAt ts i:=by
   unfold qRb at h
   split at h
   ·rw[←Sum.inr.inj h]
   ·cases h
  have hs:=ht i
  rw[←h3] at hs
  simp only[jW,zBv (N:=N) (s:=a.2.2.1) (by omega) (by omega),j0,qDn]
  cases h2:qJb a.2.2.1.data.toList<;>simp[qKm]
theorem qRg(t:Tok)(x:Ex)(hb:b.length≤256)(n:Nat):qCn N (ts,(n:Int),pr,b) t x=some (Sum.map id (fun q:Ps×Nat=>((ts,(q.1.1:Int),pr,q.1.2),(q.2:Int))) (qOc t x (n,b))):=by
 simp only[qCn,qBr,j0,qOc]
 by_cases h:b.length=256
 ·simp[h,qKm]
 ·have h1:((b.length:Int)==256)=false:=by simp;omega
  have hw:IntKind.wrap .i64 (((b.length+1:Nat):Int)-1)=(b.length:Int):=by rw[wi64 (by omega) (by omega)];omega
  simp only[h1,jC,jP,j0,if_neg h,jW]
  rw[qCr (by simp only[jA,jB];omega) (by omega)]
  simp only[j0,jJ,jA,jB,kO,hw]
end
end
section
open Go Go.Dc
theorem qWj{N:Nat}{s:ByteArray}{l:List ByteArray}(hl:l.length<1000000):∀(d i M:Nat),i+d=l.length→d<M→
  qBj (qCv N l s) M (i:Int)=some (match(l.drop i).findIdx? (fun x=>decide (x=s)) with|some j=> .inr (((i+j:Nat):Int))|none=> .inl ())
 |d,i,0,_,h=>by omega
 |0,i,M+1,h,_=>by
  have:l.drop i=[]:=k8 (by omega)
  simp only[qBj,qCv,this,List.findIdx?_nil]
  rw[if_neg (by simp only[j9];omega)]
  rfl
 |d+1,i,M+1,h,hM=>by
  have hi:i<l.length:=by omega
  have ih:=qWj (N:=N) (s:=s) hl d (i+1) M (by omega) (by omega)
  simp only[qBj,qCv]
  rw[if_pos (by simp only[j9];omega),qDs hi,jV hi,List.findIdx?_cons]
  simp only[j0,qIa,j9]
  by_cases hs:l[i]=s
  ·rw[if_pos hs.symm,if_pos hs];simp
  ·rw[if_neg (fun e=>hs e.symm),if_neg hs]
   simp only[j0,qPb (show i<1000000 by omega),ih]
   cases(l.drop (i+1)).findIdx? (fun x=>decide (x=s)) with
   |none=>rfl
   |some j=>simp only[jY];congr 2;omega
theorem zCy{N:Nat}{s:ByteArray}{l:List ByteArray}(hl:l.length<1000000)(hN:l.length<N):
  qCy N l s=some (match l.findIdx? (fun x=>decide (x=s)) with|some j=>(j:Int)|none=> -1):=by
 have h:=qWj (N:=N) (s:=s) hl l.length 0 N (by omega) hN
 simp only[kI,kO] at h
 simp only[qCy]
 rw[show(0:Int)=((0:Nat):Int) from rfl,h]
 simp only[j0]
 cases l.findIdx? (fun x=>decide (x=s))<;>rfl
theorem zCa{s:ByteArray}{l:List ByteArray}:(l.findIdx? (fun x=>decide (x=s))).isSome=decide (s∈l):=by
 rw[List.findIdx?_isSome]
 rw[kF]
 simp only[gX,j9]
 exact⟨fun⟨x,h1,h2⟩=>h2▸h1,fun h=>⟨s,h,rfl⟩⟩
theorem qVj{N:Nat}{s:ByteArray}{l:List ByteArray}(hl:l.length<1000000)(hN:l.length<N):
  qCu N l s=some (decide (s∈l)):=by
 simp only[qCu,zCy hl hN,j0,←zCa]
 cases l.findIdx? (fun x=>decide (x=s)) with
 |none=>rfl
 |some j=>simp only[fK];rw[k9 (show(j:Int)≥0 by omega)]
theorem zGl{α:Type}{g:α→Bool}{l k:List α}(hu:∀a∈l,∀b∈l,g a=true→g b=true→a=b)(hp:k.Perm l):k.find? g=l.find? g:=by
 cases h:l.find? g with
 |none=>
  rw[List.find?_eq_none] at h ⊢
  exact fun x hx=>h x (hp.mem_iff.1 hx)
 |some a=>
  have ha:=gK h
  have hg:=List.find?_some h
  cases h2:k.find? g with
  |none=>exact absurd hg (by simpa using List.find?_eq_none.1 h2 a (hp.mem_iff.2 ha))
  |some b=>rw[hu b (hp.mem_iff.1 (gK h2)) a ha (List.find?_some h2) hg]
theorem zIq:∀a∈opsC,∀b∈opsC,a.2=b.2→a=b:=by
 have h:(opsC.all fun a=>opsC.all fun b=> !(decide (a.2=b.2))||decide (a=b))=true:=by kernel_rfl
 intro a ha b hb e
 have:=jS.1 (jS.1 h a ha) b hb
 simpa[e] using this
section
variable {N:Nat} {ts:List Tok} {pr:List ByteArray} {b:List Ex} {i:Nat}
theorem zKf(op:Int):qJt N op=some ((levP op:Nat):Int):=by
 by_cases h1:op=6
 ·subst h1;rfl
 by_cases h2:op=7
 ·subst h2;rfl
 by_cases h3:op=1
 ·subst h3;rfl
 by_cases h4:op=2
 ·subst h4;rfl
 simp[qJt,levP,h1,h2,h3,h4]
theorem zHo(level:Nat){t:Tok}(ht:t=tkAt ts i):∀k:List (Int×ByteArray),qKn (qCl N (level:Int) ((ts,(i:Int),pr,b),t)) k ()=
  some (match k.find? (isOp ts level i) with|some o=> .inr ((ts,(i:Int),pr,b),o.1)|none=> .inl ())
 |[]=>rfl
 |o::k=>by
  have key:qCl N (level:Int) ((ts,(i:Int),pr,b),t) (some o) ()=some (if isOp ts level i o then .inr (.inr ((ts,(i:Int),pr,b),o.1)) else .inl ()):=by
   subst ht
   simp only[qCl,zKf,j0,qIa,isOp,isC]
   have hc:(((levP o.1:Nat):Int)==(level:Int))=decide (levP o.1=level):=by
    rw[kF];simp only[kD,j9];omega
   rw[hc]
   by_cases h1:(tkAt ts i).1=4<;>by_cases h2:(tkAt ts i).2.1=o.2<;>by_cases h3:levP o.1=level<;>simp[h1,h2,h3]
  simp only[qKn,key,j0,List.find?_cons]
  cases h:isOp ts level i o with
  |true=>rfl
  |false=>exact zHo level ht k
theorem zJs:qNe N=some (some opsC):=by kernel_rfl
theorem zBl(hi:i<ts.length)(level:Nat):qFh N (ts,(i:Int),pr,b) (level:Int)=some ((ts,(i:Int),pr,b),opC ts level i):=by
 simp only[qFh,qKb hi,zJs,j0,isQ,jY,gG]
 have hu:∀a∈opsC,∀b∈opsC,isOp ts level i a=true→isOp ts level i b=true→a=b:=by
  intro a ha b hb h1 h2
  simp only[isOp,isC,jU,j9] at h1 h2
  exact zIq a ha b hb (h1.1.2.symm.trans h2.1.2)
 have key:=zAu (f:=qCl N (level:Int) ((ts,(i:Int),pr,b),tkAt ts i)) (l:=opsC) (s:=()) fun k hk=>by
  rw[zHo level rfl k,zGl hu hk]
 rw[key]
 unfold opC
 cases opsC.find? (isOp ts level i)<;>rfl
end
end
section
open Go Go.Dc
abbrev StT:=List Tok×Int×List ByteArray×List Ex
def stP(ts:List Tok)(pr:List ByteArray)(p:Ps):StT:=(ts,(p.1:Int),pr,p.2)
def outP(ts:List Tok)(pr:List ByteArray):PM Nat→Flt⊕(StT×Int):=Sum.map id fun q=>(stP ts pr q.1,(q.2:Int))
def outL(ts:List Tok)(pr:List ByteArray):PM (List Int)→Flt⊕(StT×List Int):=Sum.map id fun q=>(stP ts pr q.1,q.2)
section
variable {N:Nat} {ts:List Tok} {pr:List ByteArray} {E S:Ps→PM Nat} {d:Int}
variable {r1:StT→Tok→Int→Option (Flt⊕(StT×Int))} {r2:StT→Int→Option (Flt⊕(StT×List Int))} {r3:StT→Int→Option (Flt⊕(StT×Int))} {r4:StT→Int→Int→Option (Flt⊕(StT×Int))} {r5:StT→Int→Option (Flt⊕(StT×Int))}
theorem qZe(hok:OkT ts)(hl:ts.length<1000000)(hA:Adv ts E)(hE:∀p:Ps,p.1<ts.length→p.2.length≤256→r5 (stP ts pr p) (IntKind.wrap .i64 (d+1))=some (outP ts pr (E p))):
  ∀(n M:Nat) (l:List Int) (p:Ps),p.1<ts.length→p.2.length≤256→l.length≤p.1→ts.length<p.1+n→ts.length<p.1+M→
  ((qBj (qDu N r5 d) M (l,ts,(p.1:Int),pr,p.2)).bind fun out1=>(match out1 with| .inl o1=>(qBn N (o1.2.1,o1.2.2.1,o1.2.2.2.1,o1.2.2.2.2) (⟨#[41]⟩:ByteArray)).bind fun y7=>(match y7 with| .inl z3=>some (.inl z3)| .inr y8=>some (.inr ((y8.1,y8.2.1,y8.2.2.1,y8.2.2.2),o1.1)))| .inr (z)=>some z))=some (outL ts pr (zFv ts E n l p))
 |0,M,l,p,hp,_,_,h,_=>by omega
 |n+1,0,l,p,hp,_,_,_,h=>by omega
 |n+1,M+1,l,p,hp,hb,hll,hn,hM=>by
  have hEp:=hE p hp hb
  simp only[stP] at hEp
  simp only[qBj,qDu,zFv,hEp,j0]
  cases hq:E p with
  |inl z=>simp only[outP,Sum.map_inl,id,qDn,outL,j0]
  |inr q=>
   obtain⟨⟨f1,f2,f3,f4⟩,f5⟩:=hA p q.1 q.2 hp hb hq
   simp only[outP,jW,qDn,stP]
   rw[qCr (by simp only[jA,jB];omega) (by omega)]
   simp only[j0,qNy f2 hl,qWs]
   rcases qIy (isC ts 4 ⟨#[44]⟩ q.1.1) with hc|hc
   ·have g:=qHs hok f2 (by decide) hc
    have ih:=qZe hok hl hA hE n M (l++[(q.2:Int)]) (q.1.1+1,q.1.2) g f4 (by simp only[jJ,jA,jB];omega) (by simp only;omega) (by simp only;omega)
    simp only[hc,jR,gD,jC,jP,j0]
    exact ih
   ·simp only[hc,jC,jP,gM,jR,j0,qLv f2 hl,qOg]
    cases qKr ts ⟨#[41]⟩ q.1.1 with
    |inl z=>rfl
    |inr j=>rfl
theorem zBf(hok:OkT ts)(hl:ts.length<1000000)(hN:ts.length<N)(hA:Adv ts E)(hE:∀p:Ps,p.1<ts.length→p.2.length≤256→r5 (stP ts pr p) (IntKind.wrap .i64 (d+1))=some (outP ts pr (E p)))
  (p:Ps) (hp:p.1<ts.length) (hb:p.2.length≤256):qEg N r1 r2 r3 r4 r5 (stP ts pr p) d=some (outL ts pr (qLm ts E p)):=by
 simp only[qEg,stP,qLv hp hl,j0,qLm,qVw]
 cases h:qKr ts ⟨#[40]⟩ p.1 with
 |inl z=>rfl
 |inr i=>
  obtain⟨rfl,g,-⟩:=qGn hok hp h
  simp only[jW,qDn,qNy g hl,j0,qOg]
  rcases qIy (isC ts 4 ⟨#[41]⟩ (p.1+1)) with hc|hc
  ·simp only[hc,jR];rfl
  ·simp only[hc,jC,jP]
   exact qZe hok hl hA hE (ts.length+1) N [] (p.1+1,p.2) g hb (by simp) (by simp only;omega) (by simp only;omega)
theorem zHg(hok:OkT ts)(hl:ts.length<1000000)(hN:300000<N)(ht:∀j,(tkAt ts j).2.1.size<100000)(hA:Adv ts E)(hE:∀p:Ps,p.1<ts.length→p.2.length≤256→r5 (stP ts pr p) (IntKind.wrap .i64 (d+1))=some (outP ts pr (E p)))
  (t:Tok) (p:Ps) (hp:p.1<ts.length) (hb:p.2.length≤256):qEs N r1 r2 r3 r4 r5 (stP ts pr p) t d=some (outP ts pr (qOr ts E t p)):=by
 have fin:∀(o1:Int×Int×ByteArray×List Int×StT) (q:Ps) (x:Ex),o1.2.2.2.2=stP ts pr q→x=(o1.1,o1.2.1,0,o1.2.2.1,o1.2.2.2.1)→q.1<ts.length→q.2.length≤256→
   ((qBn N (o1.2.2.2.2.1,o1.2.2.2.2.2.1,o1.2.2.2.2.2.2.1,o1.2.2.2.2.2.2.2) (⟨#[41]⟩:ByteArray)).bind fun y22=>(match y22 with| .inl z11=>some (.inl z11)| .inr y23=>(qCn N (y23.1,y23.2.1,y23.2.2.1,y23.2.2.2) (t.1,t.2.1,t.2.2.1,t.2.2.2) (o1.1,o1.2.1,0,o1.2.2.1,o1.2.2.2.1)).bind fun y24=>(match y24 with| .inl z12=>some (.inl z12)| .inr y25=>some (.inr ((y25.1.1,y25.1.2.1,y25.1.2.2.1,y25.1.2.2.2),y25.2)))))=
   some (outP ts pr (qDn (qKr ts qOg q.1) fun i=>qOc t x (i,q.2))):=by
  intro o1 q x ho hx hq hqb
  subst hx
  rw[ho]
  simp only[stP,qLv hq hl,j0,qOg]
  cases hj:qKr ts ⟨#[41]⟩ q.1 with
  |inl z=>rfl
  |inr j=>
   simp only[jW,qDn,qRg _ _ hqb,j0]
   cases qOc t (o1.1,o1.2.1,0,o1.2.2.1,o1.2.2.2.1) (j,q.2)<;>rfl
 simp only[qEs,stP,qLv hp hl,j0,qOr,qVw]
 cases h:qKr ts ⟨#[40]⟩ p.1 with
 |inl z=>rfl
 |inr i=>
  obtain⟨rfl,g,-⟩:=qGn hok hp h
  simp only[jW,qDn,qIa,j9]
  by_cases k1:t.2.1=qVv
  ·rw[if_pos (show t.2.1=(⟨#[114,101,97,100]⟩:ByteArray) from k1),if_pos k1]
   simp only[qYr g hl hN ht,j0]
   cases h1:qSt ts (p.1+1) with
   |inl z=>rfl
   |inr a=>
    obtain⟨rfl,g1,-⟩:=qNk hok g h1
    simp only[jW,qLv g1 hl,j0,qWs]
    cases h2:qKr ts ⟨#[44]⟩ (p.1+1+1) with
    |inl z=>rfl
    |inr j=>
     obtain⟨rfl,g2,-⟩:=qGn hok g1 h2
     have hEp:=hE (p.1+1+1+1,p.2) g2 hb
     simp only[stP] at hEp
     simp only[jW,hEp,j0]
     cases h3:E (p.1+1+1+1,p.2) with
     |inl z=>rfl
     |inr q=>
      obtain⟨⟨f1,f2,f3,f4⟩,f5⟩:=hA (p.1+1+1+1,p.2) q.1 q.2 g2 hb h3
      exact fin (6,0,(tkAt ts (p.1+1)).2.1,[(q.2:Int)],ts,(q.1.1:Int),pr,q.1.2) q.1 _ rfl rfl f2 f4
  rw[if_neg (show ¬t.2.1=(⟨#[114,101,97,100]⟩:ByteArray) from k1),if_neg k1]
  by_cases k2:t.2.1=qVx
  ·rw[if_pos (show t.2.1=(⟨#[115,105,122,101]⟩:ByteArray) from k2),if_pos k2]
   simp only[qYr g hl hN ht,j0]
   cases h1:qSt ts (p.1+1) with
   |inl z=>rfl
   |inr a=>
    obtain⟨rfl,g1,-⟩:=qNk hok g h1
    exact fin (7,0,(tkAt ts (p.1+1)).2.1,[],ts,((p.1+1+1:Nat):Int),pr,p.2) (p.1+1+1,p.2) _ rfl rfl g1 hb
  rw[if_neg (show ¬t.2.1=(⟨#[115,105,122,101]⟩:ByteArray) from k2),if_neg k2]
  by_cases k3:t.2.1=sHas
  ·rw[if_pos (show t.2.1=(⟨#[104,97,115]⟩:ByteArray) from k3),if_pos k3]
   simp only[qYr g hl hN ht,j0]
   cases h1:qSt ts (p.1+1) with
   |inl z=>rfl
   |inr a=>
    obtain⟨rfl,g1,-⟩:=qNk hok g h1
    exact fin (8,0,(tkAt ts (p.1+1)).2.1,[],ts,((p.1+1+1:Nat):Int),pr,p.2) (p.1+1+1,p.2) _ rfl rfl g1 hb
  rw[if_neg (show ¬t.2.1=(⟨#[104,97,115]⟩:ByteArray) from k3),if_neg k3]
  by_cases k4:t.2.1=sEnv
  ·rw[if_pos (show t.2.1=(⟨#[101,110,118]⟩:ByteArray) from k4),if_pos k4]
   simp only[qVi g hl (show(3:Int)≠5 by decide),j0,zHs]
   cases h1:qRb ts 3 (p.1+1) with
   |inl z=>rfl
   |inr a=>
    obtain⟨rfl,g1,-⟩:=qOn hok (by decide) g h1
    simp only[jW,zKx (N:=N) (by omega),j0,qDn,qBr]
    cases h2:zEi (tkAt ts (p.1+1)).2.1 with
    |false=>rfl
    |true=>exact fin (9,0,(tkAt ts (p.1+1)).2.1,[],ts,((p.1+1+1:Nat):Int),pr,p.2) (p.1+1+1,p.2) _ rfl rfl g1 hb
  ·rw[if_neg (show ¬t.2.1=(⟨#[101,110,118]⟩:ByteArray) from k4),if_neg k4]
   simp only[qVi g hl (show(2:Int)≠5 by decide),j0]
   cases h1:qRb ts 2 (p.1+1) with
   |inl z=>rfl
   |inr a=>
    obtain⟨rfl,g1,-⟩:=qOn hok (by decide) g h1
    simp only[jW,qBr,j0]
    by_cases h2:(tkAt ts (p.1+1)).2.2.1≥64
    ·simp only[if_pos h2,j0];rfl
    ·simp only[if_neg h2,j0]
     exact fin (10,(tkAt ts (p.1+1)).2.2.1,⟨#[]⟩,[],ts,((p.1+1+1:Nat):Int),pr,p.2) (p.1+1+1,p.2) _ rfl rfl g1 hb
end
end
section
open Go Go.Dc
section
variable {N:Nat} {ts:List Tok} {pr:List ByteArray} {E S:Ps→PM Nat} {d:Int}
variable {r1:StT→Tok→Int→Option (Flt⊕(StT×Int))} {r2:StT→Int→Option (Flt⊕(StT×List Int))} {r3:StT→Int→Option (Flt⊕(StT×Int))} {r4:StT→Int→Int→Option (Flt⊕(StT×Int))} {r5:StT→Int→Option (Flt⊕(StT×Int))}
theorem kw_mem(x:ByteArray):(decide (x=(⟨#[114,101,97,100]⟩:ByteArray))||(decide (x=(⟨#[115,105,122,101]⟩:ByteArray))||(decide (x=(⟨#[104,97,115]⟩:ByteArray))||(decide (x=(⟨#[101,110,118]⟩:ByteArray))||decide (x=(⟨#[102,108,105,112]⟩:ByteArray))))))=decide (x∈[qVv,qVx,sHas,sEnv,zAf]):=by
 simp only[qVv,qVx,sHas,sEnv,zAf,jH,gB,or_false,Bool.decide_or]
theorem zJe(hok:OkT ts)(hl:ts.length<1000000)(hpr:pr.length<1000)(hN:300000<N)(hA:Adv ts E)(hE:∀p:Ps,p.1<ts.length→p.2.length≤256→r5 (stP ts pr p) (IntKind.wrap .i64 (d+1))=some (outP ts pr (E p)))
  (h1:∀(t:Tok) (p:Ps),p.1<ts.length→p.2.length≤256→r1 (stP ts pr p) t d=some (outP ts pr (qOr ts E t p)))
  (h2:∀p:Ps,p.1<ts.length→p.2.length≤256→r2 (stP ts pr p) d=some (outL ts pr (qLm ts E p)))
  (p:Ps) (hp:p.1<ts.length) (hb:p.2.length≤256):qFi N r1 r2 r3 r4 r5 (stP ts pr p) d=some (outP ts pr (qRm ts pr E p)):=by
 have hw:=qPb (show p.1<1000000 by omega)
 simp only[qFi,stP,qKb hp,j0,qRm]
 by_cases k1:(tkAt ts p.1).1=2
 ·rw[if_pos (show((tkAt ts p.1).1==2)=true by simpa using k1),if_pos k1,hw]
  simp only[qRg _ _ hb,j0]
  cases qOc (tkAt ts p.1) (1,(tkAt ts p.1).2.2.1,0,⟨#[]⟩,[]) (p.1+1,p.2)<;>rfl
 rw[if_neg (show ¬((tkAt ts p.1).1==2)=true by simpa using k1),if_neg k1]
 simp only[qNy hp hl,j0]
 rcases qIy (isC ts 4 zKr p.1) with c1|c1
 ·have c1':isC ts 4 ⟨#[45]⟩ p.1=true:=c1
  have g:=qHs hok hp (by decide) c1
  simp only[c1,c1',jR,qVi g hl (show(2:Int)≠5 by decide),j0]
  cases h:qRb ts 2 (p.1+1) with
  |inl z=>rfl
  |inr a=>
   simp only[jW,qDn,qRg _ _ hb,j0]
   cases qOc (tkAt ts p.1) (1,IntKind.wrap .i64 (0-a.2.2.2.1),0,⟨#[]⟩,[]) (a.1,p.2)<;>rfl
 have c1':isC ts 4 ⟨#[45]⟩ p.1=false:=c1
 simp only[c1,c1',jC,jP,qNy hp hl,j0]
 rcases qIy (isC ts 4 qVw p.1) with c2|c2
 ·have c2':isC ts 4 ⟨#[40]⟩ p.1=true:=c2
  have g:=qHs hok hp (by decide) c2
  have hEp:=hE (p.1+1,p.2) g hb
  simp only[stP] at hEp
  simp only[c2,c2',jR,hEp,j0]
  cases h:E (p.1+1,p.2) with
  |inl z=>rfl
  |inr q=>
   obtain⟨⟨f1,f2,f3,f4⟩,f5⟩:=hA (p.1+1,p.2) q.1 q.2 g hb h
   simp only[outP,jW,qDn,stP,qLv f2 hl,j0,qOg]
   cases qKr ts ⟨#[41]⟩ q.1.1<;>rfl
 have c2':isC ts 4 ⟨#[40]⟩ p.1=false:=c2
 simp only[c2,c2',jC,jP,qBr,j0]
 by_cases k2:(tkAt ts p.1).1=1
 rotate_left
 ·rw[if_pos (show((tkAt ts p.1).1 !=1)=true by simpa using k2),if_pos k2];rfl
 rw[if_neg (show ¬((tkAt ts p.1).1 !=1)=true by simpa using k2),if_neg (show ¬(tkAt ts p.1).1≠1 by simpa using k2)]
 have g:=hok.next hp (show(tkAt ts p.1).1≠5 by rw[k2];decide)
 simp only[j0,qIa,orS,kw_mem,hw]
 by_cases k3:(tkAt ts p.1).2.1∈[qVv,qVx,sHas,sEnv,zAf]
 ·rw[if_pos (show decide ((tkAt ts p.1).2.1∈[qVv,qVx,sHas,sEnv,zAf])=true from k9 k3),if_pos k3]
  have h1p:=h1 (tkAt ts p.1) (p.1+1,p.2) g hb
  simp only[stP] at h1p
  simp only[h1p,j0]
  cases qOr ts E (tkAt ts p.1) (p.1+1,p.2)<;>rfl
 rw[if_neg (show ¬decide ((tkAt ts p.1).2.1∈[qVv,qVx,sHas,sEnv,zAf])=true by simpa using k3),if_neg k3]
 simp only[qVh,j0]
 rcases qIy (resC (tkAt ts p.1).2.1) with c3|c3
 ·simp only[c3,jR,j0];rfl
 simp only[c3,jC,jP,j0,zFf g]
 rcases qIy (isC ts 4 qVw (p.1+1)) with c4|c4
 ·have c4':isC ts 4 ⟨#[40]⟩ (p.1+1)=true:=c4
  have h2p:=h2 (p.1+1,p.2) g hb
  simp only[stP] at h2p
  simp only[c4,c4',jR,h2p,j0]
  cases h:qLm ts E (p.1+1,p.2) with
  |inl z=>rfl
  |inr q=>
   obtain⟨f1,f2,f3,f4⟩:=qQy hok hA (p:=(p.1+1,p.2)) g hb h
   simp only[outL,jW,qDn,stP,qRg _ _ f4,j0]
   cases qOc (tkAt ts p.1) (3,0,0,(tkAt ts p.1).2.1,q.2) (q.1.1,q.1.2)<;>rfl
 have c4':isC ts 4 ⟨#[40]⟩ (p.1+1)=false:=c4
 simp only[c4,c4',jC,jP,zCy (N:=N) (l:=pr) (s:=(tkAt ts p.1).2.1) (by omega) (by omega),j0]
 cases pr.findIdx? (fun x=>decide (x=(tkAt ts p.1).2.1)) with
 |none=>rfl
 |some j=>
  simp only[j9]
  rw[if_neg (by omega)]
  simp only[j0,qRg _ _ hb]
  cases qOc (tkAt ts p.1) (2,(j:Int),0,⟨#[]⟩,[]) (p.1+1,p.2)<;>rfl
theorem zJr(h3:∀p:Ps,p.1<ts.length→p.2.length≤256→r3 (stP ts pr p) d=some (outP ts pr (S p)))(p:Ps)(hp:p.1<ts.length)(hb:p.2.length≤256):
  qDa N r1 r2 r3 r4 r5 (stP ts pr p) 4 d=some (outP ts pr (S p)):=by
 have h3p:=h3 p hp hb
 simp only[stP] at h3p
 simp only[qDa,stP,h3p,j0]
 cases S p<;>rfl
theorem qZg(hok:OkT ts)(hl:ts.length<1000000)(hS:Adv ts S){L:Nat}(hL:L<4)(h4:∀p:Ps,p.1<ts.length→p.2.length≤256→r4 (stP ts pr p) ((L:Int)+1) d=some (outP ts pr (S p))):
  ∀(n M x:Nat) (p:Ps),p.1<ts.length→p.2.length≤256→x<p.2.length→ts.length<p.1+n→ts.length<p.1+M→
  qBj (qEu N r4 (L:Int) d) M ((x:Int),ts,(p.1:Int),pr,p.2)=some (outP ts pr (zFa ts L S n x p))
 |0,M,x,p,hp,_,_,h,_=>by omega
 |n+1,0,x,p,hp,_,_,_,h=>by omega
 |n+1,M+1,x,p,hp,hb,hx,hn,hM=>by
  have hw:=qPb (show p.1<1000000 by omega)
  have hwL:IntKind.wrap .i64 ((L:Int)+1)=(L:Int)+1:=wi64 (by omega) (by omega)
  simp only[qBj,qEu,zFa,zBl hp,j0]
  by_cases k1:opC ts L p.1=0
  ·rw[if_pos (show(opC ts L p.1==0)=true by simpa using k1),if_pos k1];rfl
  rw[if_neg (show ¬(opC ts L p.1==0)=true by simpa using k1),if_neg k1]
  have hk:(tkAt ts p.1).1≠5:=by
   intro hk
   apply k1
   unfold opC
   have:opsC.find? (isOp ts L p.1)=none:=by
    rw[List.find?_eq_none]
    intro o _ ho
    simp only[isOp,jU] at ho
    have:=qYd ho.1
    omega
   rw[this]
  have g:=hok.next hp hk
  have h4p:=h4 (p.1+1,p.2) g hb
  simp only[stP] at h4p
  simp only[qKb hp,j0,hw,hwL,h4p]
  cases h:S (p.1+1,p.2) with
  |inl z=>rfl
  |inr q=>
   obtain⟨⟨f1,f2,f3,f4⟩,f5⟩:=hS (p.1+1,p.2) q.1 q.2 g hb h
   simp only[outP,jW,qDn,stP,qRg _ _ f4,j0]
   cases hn2:qOc (tkAt ts p.1) (4,0,opC ts L p.1,⟨#[]⟩,[(x:Int),(q.2:Int)]) (q.1.1,q.1.2) with
   |inl z=>rfl
   |inr r=>
    obtain⟨⟨k1,k2,k3,k4⟩,k5⟩:=qNo (ts:=ts) (p:=p) (r:=(q.1.1,q.1.2)) (by simp only at f1 ⊢;omega) f2 f3 f4 hn2
    simp only[jW]
    by_cases k6:L=1
    ·subst k6
     rfl
    ·rw[if_neg (show ¬((L:Int)==1)=true by simp;omega),if_neg k6]
     simp only[j0]
     exact qZg hok hl hS hL h4 n M r.2 r.1 k2 k4 k5 (by omega) (by omega)
theorem qYs(hok:OkT ts)(hl:ts.length<1000000)(hN:1000001<N)(hS:Adv ts S){L:Nat}(hL:L<4)(h4:∀p:Ps,p.1<ts.length→p.2.length≤256→r4 (stP ts pr p) ((L:Int)+1) d=some (outP ts pr (S p)))
  (p:Ps) (hp:p.1<ts.length) (hb:p.2.length≤256):qDa N r1 r2 r3 r4 r5 (stP ts pr p) (L:Int) d=some (outP ts pr (qXk ts L S p)):=by
 have hwL:IntKind.wrap .i64 ((L:Int)+1)=(L:Int)+1:=wi64 (by omega) (by omega)
 have h4p:=h4 p hp hb
 simp only[stP] at h4p
 simp only[qDa,stP,qXk,hwL,h4p,j0]
 rw[if_neg (show ¬((L:Int)==4)=true by simp;omega)]
 cases h:S p with
 |inl z=>rfl
 |inr q=>
  obtain⟨⟨f1,f2,f3,f4⟩,f5⟩:=hS p q.1 q.2 hp hb h
  simp only[outP,jW,qDn,stP]
  rw[qZg hok hl hS hL h4 (ts.length+1) N q.2 q.1 f2 f4 f5 (by omega) (by omega)]
  rfl
theorem expr_B{k:Nat}(hok:OkT ts)(hl:ts.length<1000000)(hd:d+k=32)(hk:k<33)(hA:Adv ts (qKf ts pr k))(hE:∀p:Ps,p.1<ts.length→p.2.length≤256→r5 (stP ts pr p) (IntKind.wrap .i64 (d+1))=some (outP ts pr (qKf ts pr k p)))
  (h4:∀p:Ps,p.1<ts.length→p.2.length≤256→r4 (stP ts pr p) 1 d=some (outP ts pr (qTw ts pr (qKf ts pr k) p)))
  (p:Ps) (hp:p.1<ts.length) (hb:p.2.length≤256):qDw N r1 r2 r3 r4 r5 (stP ts pr p) d=some (outP ts pr (qKf ts pr (k+1) p)):=by
 have hw:=qPb (show p.1<1000000 by omega)
 simp only[qDw,stP,qKb hp,j0,qKf]
 rw[if_neg (show ¬decide (d>32)=true by simp only[j9];omega)]
 simp only[j0,zFf hp]
 rcases qIy (isC ts 1 sIf p.1) with c1|c1
 rotate_left
 ·have c1':isC ts 1 ⟨#[105,102]⟩ p.1=false:=c1
  have h4p:=h4 p hp hb
  simp only[stP] at h4p
  simp only[c1,c1',gM,jR,jC,jP,h4p,j0]
  cases qTw ts pr (qKf ts pr k) p<;>rfl
 have c1':isC ts 1 ⟨#[105,102]⟩ p.1=true:=c1
 have g:=qHs hok hp (by decide) c1
 have hEa:=hE (p.1+1,p.2) g hb
 simp only[stP] at hEa
 simp only[c1,c1',gD,jR,jC,jP,hw,hEa,j0]
 cases ha:qKf ts pr k (p.1+1,p.2) with
 |inl z=>rfl
 |inr a=>
  obtain⟨⟨a1,a2,a3,a4⟩,a5⟩:=hA (p.1+1,p.2) a.1 a.2 g hb ha
  simp only[outP,jW,qDn,stP,zBq a2 hl,j0,zJh]
  cases hi:qVs ts ⟨#[116,104,101,110]⟩ a.1.1 with
  |inl z=>rfl
  |inr i=>
   obtain⟨rfl,g1,-⟩:=qQm hok a2 hi
   have hEb:=hE (a.1.1+1,a.1.2) g1 a4
   simp only[stP] at hEb
   simp only[jW,hEb,j0]
   cases hb1:qKf ts pr k (a.1.1+1,a.1.2) with
   |inl z=>rfl
   |inr b=>
    obtain⟨⟨b1,b2,b3,b4⟩,b5⟩:=hA (a.1.1+1,a.1.2) b.1 b.2 g1 a4 hb1
    simp only[outP,jW,qDn,stP,zBq b2 hl,j0,zKb]
    cases hj:qVs ts ⟨#[101,108,115,101]⟩ b.1.1 with
    |inl z=>rfl
    |inr j=>
     obtain⟨rfl,g2,-⟩:=qQm hok b2 hj
     have hEc:=hE (b.1.1+1,b.1.2) g2 b4
     simp only[stP] at hEc
     simp only[jW,hEc,j0]
     cases hc1:qKf ts pr k (b.1.1+1,b.1.2) with
     |inl z=>rfl
     |inr c=>
      obtain⟨⟨c1,c2,c3,c4⟩,c5⟩:=hA (b.1.1+1,b.1.2) c.1 c.2 g2 b4 hc1
      simp only[outP,jW,qDn,stP,qRg _ _ c4,j0]
      cases qOc (tkAt ts p.1) (5,0,0,⟨#[]⟩,[(a.2:Int),(b.2:Int),(c.2:Int)]) (c.1.1,c.1.2)<;>rfl
theorem zLq(hd:d>32)(p:Ps)(hp:p.1<ts.length):qDw N r1 r2 r3 r4 r5 (stP ts pr p) d=some (outP ts pr (qKf ts pr 0 p)):=by
 simp only[qDw,stP,qKb hp,j0,qKf]
 rw[if_pos (show decide (d>32)=true by simpa using hd)]
 rfl
theorem zHl(hok:OkT ts)(hl:ts.length<1000000)(hpr:pr.length<1000)(hN:1000001<N)(ht:∀j,(tkAt ts j).2.1.size<100000):∀(k D:Nat),k≤32→7*k+1≤D→∀p:Ps,p.1<ts.length→p.2.length≤256→
  (qAe N D).2.2.2.2 (stP ts pr p) (33-(k:Int))=some (outP ts pr (qKf ts pr k p))
 |0,0,_,h,_,_,_=>by omega
 |0,D+1,_,_,p,hp,_=>by simp only[qAe];exact zLq (by omega) p hp
 |k+1,D,hk,hD,p,hp,hb=>by
  have hA:=qMi (ts:=ts) (params:=pr) hok k
  have hF:=qUg (params:=pr) hok hA
  have hT:Adv ts (zLs ts pr (qKf ts pr k)):=qOd hok hF
  have hS:Adv ts (sumC ts pr (qKf ts pr k)):=qOd hok hT
  have hE:∀D,7*k+1≤D→∀p:Ps,p.1<ts.length→p.2.length≤256→(qAe N D).2.2.2.2 (stP ts pr p) (IntKind.wrap .i64 (32-(k:Int)+1))=some (outP ts pr (qKf ts pr k p)):=by
   intro D hD p hp hb
   rw[wi64 (by omega) (by omega),show 32-(k:Int)+1=33-(k:Int) by omega]
   exact zHl hok hl hpr hN ht k D (by omega) hD p hp hb
  have h1:∀D,7*k+2≤D→∀(t:Tok) (p:Ps),p.1<ts.length→p.2.length≤256→(qAe N D).1 (stP ts pr p) t (32-(k:Int))=some (outP ts pr (qOr ts (qKf ts pr k) t p)):=by
   intro D hD t p hp hb
   obtain⟨D',rfl⟩:∃D',D=D'+1:=⟨D-1,by omega⟩
   simp only[qAe]
   exact zHg hok hl (by omega) ht hA (hE D' (by omega)) t p hp hb
  have h2:∀D,7*k+2≤D→∀p:Ps,p.1<ts.length→p.2.length≤256→(qAe N D).2.1 (stP ts pr p) (32-(k:Int))=some (outL ts pr (qLm ts (qKf ts pr k) p)):=by
   intro D hD p hp hb
   obtain⟨D',rfl⟩:∃D',D=D'+1:=⟨D-1,by omega⟩
   simp only[qAe]
   exact zBf hok hl (by omega) hA (hE D' (by omega)) p hp hb
  have h3:∀D,7*k+3≤D→∀p:Ps,p.1<ts.length→p.2.length≤256→(qAe N D).2.2.1 (stP ts pr p) (32-(k:Int))=some (outP ts pr (qRm ts pr (qKf ts pr k) p)):=by
   intro D hD p hp hb
   obtain⟨D',rfl⟩:∃D',D=D'+1:=⟨D-1,by omega⟩
   simp only[qAe]
   exact zJe hok hl hpr (by omega) hA (hE D' (by omega)) (h1 D' (by omega)) (h2 D' (by omega)) p hp hb
  have b4:∀D,7*k+4≤D→∀p:Ps,p.1<ts.length→p.2.length≤256→(qAe N D).2.2.2.1 (stP ts pr p) 4 (32-(k:Int))=some (outP ts pr (qRm ts pr (qKf ts pr k) p)):=by
   intro D hD p hp hb
   obtain⟨D',rfl⟩:∃D',D=D'+1:=⟨D-1,by omega⟩
   simp only[qAe]
   exact zJr (h3 D' (by omega)) p hp hb
  have b3:∀D,7*k+5≤D→∀p:Ps,p.1<ts.length→p.2.length≤256→(qAe N D).2.2.2.1 (stP ts pr p) 3 (32-(k:Int))=some (outP ts pr (zLs ts pr (qKf ts pr k) p)):=by
   intro D hD p hp hb
   obtain⟨D',rfl⟩:∃D',D=D'+1:=⟨D-1,by omega⟩
   simp only[qAe]
   exact qYs hok hl hN hF (L:=3) (by omega) (b4 D' (by omega)) p hp hb
  have b2:∀D,7*k+6≤D→∀p:Ps,p.1<ts.length→p.2.length≤256→(qAe N D).2.2.2.1 (stP ts pr p) 2 (32-(k:Int))=some (outP ts pr (sumC ts pr (qKf ts pr k) p)):=by
   intro D hD p hp hb
   obtain⟨D',rfl⟩:∃D',D=D'+1:=⟨D-1,by omega⟩
   simp only[qAe]
   exact qYs hok hl hN hT (L:=2) (by omega) (b3 D' (by omega)) p hp hb
  have b1:∀D,7*k+7≤D→∀p:Ps,p.1<ts.length→p.2.length≤256→(qAe N D).2.2.2.1 (stP ts pr p) 1 (32-(k:Int))=some (outP ts pr (qTw ts pr (qKf ts pr k) p)):=by
   intro D hD p hp hb
   obtain⟨D',rfl⟩:∃D',D=D'+1:=⟨D-1,by omega⟩
   simp only[qAe]
   exact qYs hok hl hN hS (L:=1) (by omega) (b2 D' (by omega)) p hp hb
  obtain⟨D',rfl⟩:∃D',D=D'+1:=⟨D-1,by omega⟩
  rw[show(33:Int)-((k+1:Nat):Int)=32-(k:Int) by omega]
  simp only[qAe]
  exact expr_B hok hl (by omega) (by omega) hA (hE D' (by omega)) (b1 D' (by omega)) p hp hb
theorem zLa(hok:OkT ts)(hl:ts.length<1000000)(hpr:pr.length<1000)(hN:1000001<N)(ht:∀j,(tkAt ts j).2.1.size<100000)(p:Ps)(hp:p.1<ts.length)(hb:p.2.length≤256):
  qLd N (ts,(p.1:Int),pr,p.2) 1=some (outP ts pr (qKf ts pr 32 p)):=by
 have:=zHl hok hl hpr hN ht 32 N (by omega) (by omega) p hp hb
 exact this
end
end
section
open Go Go.Dc
section
variable {N:Nat} {ts:List Tok} {pr:List ByteArray} {b:List Ex}
theorem qUq(h:OkT ts):∀(n:Nat) (l:List ByteArray) (i:Nat) (a:Nat×List ByteArray),i<ts.length→l.length≤8→qUj ts n l i= .inr a→i<a.1∧a.1<ts.length∧a.2.length≤8
 |0,_,_,_,_,_,h1=>by cases h1
 |n+1,l,i,a,hi,hl,h1=>by
  obtain⟨x,hx,h2⟩:=qCb (show qDn (qRo ts i) _=_ from h1)
  obtain⟨rfl,g1,-⟩:=qNn h hi hx
  split at h2
  ·cases h2
  rename_i k1
  split at h2
  ·cases h2
  split at h2
  ·rename_i k3
   have g2:=qHs h g1 (by decide) k3
   obtain⟨j1,j2,j3⟩:=qUq h n _ _ a g2 (by simp only[jJ,jA,jB];omega) h2
   exact⟨by omega,j2,j3⟩
  ·obtain⟨j,hj,h3⟩:=qCb h2
   obtain⟨rfl,g2,-⟩:=qGn h g1 hj
   obtain rfl:=Sum.inr.inj h3
   exact⟨by simp only;omega,g2,by simp only[jJ,jA,jB];omega⟩
theorem qQc(h:OkT ts){i:Nat}{a:Nat×List ByteArray}(hi:i<ts.length)(h1:qKd ts i= .inr a):i<a.1∧a.1<ts.length∧a.2.length≤8:=by
 obtain⟨j,hj,h2⟩:=qCb h1
 obtain⟨rfl,g,-⟩:=qGn h hi hj
 split at h2
 ·rename_i k
  obtain rfl:=Sum.inr.inj h2
  exact⟨by simp only;omega,qHs h g (by decide) k,by simp⟩
 ·obtain⟨j1,j2,j3⟩:=qUq h _ _ _ a g (by simp) h2
  exact⟨by omega,j2,j3⟩
theorem qVp(hok:OkT ts)(hl:ts.length<1000000)(hN:1000000<N):∀(n M:Nat) (l:List ByteArray) (i:Nat),i<ts.length→l.length≤8→ts.length<i+n→ts.length<i+M→
  ((qBj (qDl N) M (l,ts,(i:Int),pr,b)).bind fun out1=>(match out1 with| .inl o1=>(qBn N (o1.2.1,o1.2.2.1,o1.2.2.2.1,o1.2.2.2.2) (⟨#[41]⟩:ByteArray)).bind fun y12=>(match y12 with| .inl z5=>some (.inl z5)| .inr y13=>some (.inr ((y13.1,y13.2.1,y13.2.2.1,y13.2.2.2),o1.1)))| .inr (z)=>some z))=some (Sum.map id (fun a:Nat×List ByteArray=>((ts,(a.1:Int),pr,b),a.2)) (qUj ts n l i))
 |0,M,l,i,hi,_,h,_=>by omega
 |n+1,0,l,i,hi,_,_,h=>by omega
 |n+1,M+1,l,i,hi,hll,hn,hM=>by
  simp only[qBj,qDl,qUj,qYw hi hl,j0]
  cases hx:qRo ts i with
  |inl z=>rfl
  |inr x=>
   obtain⟨rfl,g1,-⟩:=qNn hok hi hx
   simp only[jW,qDn,qBr,j0]
   by_cases k1:l.length=8
   ·rw[if_pos (show((l.length:Int)==8)=true by simp;omega),if_pos k1];rfl
   rw[if_neg (show ¬((l.length:Int)==8)=true by simp;omega),if_neg k1]
   simp only[j0,qVj (N:=N) (l:=l) (s:=(tkAt ts i).2.1) (by omega) (by omega)]
   by_cases k2:(tkAt ts i).2.1∈l
   ·rw[if_pos (k9 k2),if_pos k2];rfl
   rw[if_neg (show ¬decide ((tkAt ts i).2.1∈l)=true by simpa using k2),if_neg k2]
   simp only[j0]
   rw[qCr (by simp only[jA,jB];omega) (by omega)]
   simp only[j0,qNy g1 hl,qWs]
   rcases qIy (isC ts 4 ⟨#[44]⟩ (i+1)) with hc|hc
   ·have g:=qHs hok g1 (by decide) hc
    simp only[hc,jR,gD,jC,jP,j0]
    exact qVp hok hl hN n M _ (i+1+1) g (by simp only[jJ,jA,jB];omega) (by omega) (by omega)
   ·simp only[hc,jC,jP,gM,jR,j0,qLv g1 hl,qOg]
    cases qKr ts ⟨#[41]⟩ (i+1)<;>rfl
theorem qYt(hok:OkT ts)(hl:ts.length<1000000)(hN:1000000<N){i:Nat}(hi:i<ts.length):
  qDj N (ts,(i:Int),pr,b)=some (Sum.map id (fun a:Nat×List ByteArray=>((ts,(a.1:Int),pr,b),a.2)) (qKd ts i)):=by
 simp only[qDj,qLv hi hl,j0,qKd,qVw]
 cases h:qKr ts ⟨#[40]⟩ i with
 |inl z=>rfl
 |inr j=>
  obtain⟨rfl,g,-⟩:=qGn hok hi h
  simp only[jW,qDn,qNy g hl,j0,qOg]
  rcases qIy (isC ts 4 ⟨#[41]⟩ (i+1)) with hc|hc
  ·simp only[hc,jR];rfl
  ·simp only[hc,jC,jP]
   exact qVp hok hl hN (ts.length+1) N [] (i+1) g (by simp) (by omega) (by omega)
def zDc:List (ByteArray×Int):=[(⟨#[102,117,110,99]⟩,1),(⟨#[103,101,110]⟩,3),(⟨#[116,101,115,116]⟩,2)]
theorem zJd:((qJe (some []:Option (List (ByteArray×Int))) (⟨#[102,117,110,99]⟩:ByteArray) 1).bind fun mp1=>(qJe mp1 (⟨#[116,101,115,116]⟩:ByteArray) 2).bind fun mp2=>qJe mp2 (⟨#[103,101,110]⟩:ByteArray) 3)=some (some zDc):=by kernel_rfl
theorem zCw(s:ByteArray):((qAl (some zDc) s).getD 0)=qMb s:=by
 simp only[qAl,zDc,j0,mget,qMb,zIp,zIv,sGen]
 by_cases h1:s=⟨#[102,117,110,99]⟩
 ·simp[h1]
 by_cases h2:s=⟨#[116,101,115,116]⟩
 ·subst h2;rfl
 by_cases h3:s=⟨#[103,101,110]⟩
 ·subst h3;rfl
 simp[h1,h2,h3]
theorem qXo{before:List Dl}{y1:StT×Tok}{o4:List Tok×Int×List ByteArray×List Ex×Int×ByteArray×Int×Int}(hl:before.length≤64):∀(d i M:Nat),i+d=before.length→d<M→
  ((qBj (qEk N before (some zDc) y1 o4) M (i:Int)).bind fun out1=>(match out1 with| .inl o6=>some (-1)| .inr (z)=>some z):Option Int)=some (match(before.drop i).findIdx? (fun d=>d.1==qMb y1.2.2.1&&decide (d.2.1=o4.2.2.2.2.2.1)) with|some j=>((i+j:Nat):Int)|none=> -1)
 |d,i,0,_,h=>by omega
 |0,i,M+1,h,_=>by
  have:before.drop i=[]:=k8 (by omega)
  simp only[qBj,qEk,this,List.findIdx?_nil]
  rw[if_neg (by simp only[j9];omega)]
  rfl
 |d+1,i,M+1,h,hM=>by
  have hi:i<before.length:=by omega
  have ih:=qXo (y1:=y1) (o4:=o4) hl d (i+1) M (by omega) (by omega)
  simp only[qBj,qEk]
  rw[if_pos (by simp only[j9];omega),qDs hi,jV hi,List.findIdx?_cons]
  simp only[j0,qIa,zCw]
  by_cases k1:(before[i].1==qMb y1.2.2.1)=true
  ·by_cases k2:before[i].2.1=o4.2.2.2.2.2.1
   ·simp[k1,k2]
   ·simp only[k1,k2,jR,decide_false,j0,jC,jP,qPb (show i<1000000 by omega),Bool.and_false]
    rw[ih]
    cases(before.drop (i+1)).findIdx? (fun d=>d.1==qMb y1.2.2.1&&decide (d.2.1=o4.2.2.2.2.2.1)) with
    |none=>rfl
    |some j=>simp only[jY];rw[show i+1+j=i+(j+1) by omega]
  ·simp only[k1,jC,jP,j0,qPb (show i<1000000 by omega),Bool.false_and]
   rw[ih]
   cases(before.drop (i+1)).findIdx? (fun d=>d.1==qMb y1.2.2.1&&decide (d.2.1=o4.2.2.2.2.2.1)) with
   |none=>rfl
   |some j=>simp only[jY];rw[show i+1+j=i+(j+1) by omega]
theorem qUx(h:OkT ts){before:List Dl}{i:Nat}{a:Nat×Dl}(hi:i<ts.length)(h1:zBb ts before i= .inr a):i<a.1∧a.1<ts.length∧before.length≠64:=by
 unfold zBb at h1
 dsimp only at h1
 split at h1
 ·cases h1
 rename_i k1
 split at h1
 ·cases h1
 rename_i k2
 have g:=h.next hi (show(tkAt ts i).1≠5 by intro e;apply k1;left;rw[e];decide)
 obtain⟨x,hx,h2⟩:=qCb h1
 have gx:x.1=i+1+1∧x.1<ts.length:=by
  split at hx
  ·obtain⟨rfl,g1,-⟩:=qNk h g hx;exact⟨rfl,g1⟩
  ·obtain⟨rfl,g1,-⟩:=qNn h g hx;exact⟨rfl,g1⟩
 split at h2
 ·cases h2
 obtain⟨y,hy,h3⟩:=qCb h2
 have gy:x.1≤y.1∧y.1<ts.length:=by
  split at hy
  ·obtain⟨g1,g2,-⟩:=qQc h gx.2 hy;exact⟨by omega,g2⟩
  ·obtain rfl:=Sum.inr.inj hy;exact⟨jN _,gx.2⟩
 obtain⟨j,hj,h4⟩:=qCb h3
 obtain⟨rfl,g3,-⟩:=qGn h gy.2 hj
 obtain⟨c,hc,h5⟩:=qCb h4
 obtain⟨⟨f1,f2,f3,f4⟩,-⟩:=qMi h 32 (y.1+1,[]) c.1 c.2 g3 (by simp) hc
 obtain⟨m,hm,h6⟩:=qCb h5
 obtain⟨rfl,g4,-⟩:=qGn h f2 hm
 obtain rfl:=Sum.inr.inj h6
 exact⟨by simp only at f1 ⊢;omega,g4,k2⟩
theorem zKv{before:List Dl}{f:Dl→Bool}:(decide ((match before.findIdx? f with|some j=>((0+j:Nat):Int)|none=> -1)≥0))=before.any f:=by
 have:=List.findIdx?_isSome (xs:=before) (p:=f)
 rw[←this]
 cases before.findIdx? f with
 |none=>rfl
 |some j=>simp only[fK];exact k9 (by omega)
end
end
section
open Go Go.Dc
section
variable {N:Nat} {ts:List Tok} {pr:List ByteArray} {b:List Ex}
theorem zLl(hok:OkT ts)(hl:ts.length<1000000)(hN:1000001<N)(ht:∀j,(tkAt ts j).2.1.size<100000){before:List Dl}(hb:before.length≤64){i:Nat}(hi:i<ts.length):
  qHf N (ts,(i:Int),pr,b) before=some (Sum.map id (fun a:Nat×Dl=>((ts,(a.1:Int),a.2.2.2.1,a.2.2.2.2),a.2)) (zBb ts before i)):=by
 have hw:=qPb (show i<1000000 by omega)
 unfold qHf
 obtain⟨mp1,hm1,hm⟩:=jG.1 zJd
 obtain⟨mp2,hm2,hm3⟩:=jG.1 hm
 rw[hm1];simp only[j0]
 rw[hm2];simp only[j0]
 rw[hm3];simp only[j0,qKb hi,zCw,qBr,zBb]
 by_cases k1:(tkAt ts i).1≠1∨qMb (tkAt ts i).2.1=0
 ·rw[if_pos k1]
  have:((if((tkAt ts i).1 !=1)=true then some true else some (qMb (tkAt ts i).2.1==0)):Option Bool)=some true:=by
   rcases k1 with h|h
   ·simp[h]
   ·simp[h]
  rw[this];rfl
 rw[if_neg k1]
 have k1a:(tkAt ts i).1=1:=by
  apply Decidable.byContradiction
  intro h;exact k1 (.inl h)
 have k1b:¬qMb (tkAt ts i).2.1=0:=fun h=>k1 (.inr h)
 have:((if((tkAt ts i).1 !=1)=true then some true else some (qMb (tkAt ts i).2.1==0)):Option Bool)=some false:=by simp[k1a,k1b]
 rw[this]
 simp only[j0,jC,jP]
 by_cases k2:before.length=64
 ·rw[if_pos (show((before.length:Int)==64)=true by simp;omega),if_pos k2];rfl
 rw[if_neg (show ¬((before.length:Int)==64)=true by simp;omega),if_neg k2]
 have g:=hok.next hi (show(tkAt ts i).1≠5 by rw[k1a];decide)
 simp only[j0,hw]
 have hx:(if(qMb (tkAt ts i).2.1==3)=true then((qDe N (ts,((i+1:Nat):Int),pr,b)).bind fun y6=>(match y6 with| .inl z3=>some (.inr (.inl z3))| .inr y7=>some (.inl (y7.1.1,y7.1.2.1,y7.1.2.2.1,y7.1.2.2.2,y7.2.1,y7.2.2.1,y7.2.2.2.1,y7.2.2.2.2)))) else((qDg N (ts,((i+1:Nat):Int),pr,b)).bind fun y8=>(match y8 with| .inl z4=>some (.inr (.inl z4))| .inr y9=>some (.inl (y9.1.1,y9.1.2.1,y9.1.2.2.1,y9.1.2.2.2,y9.2.1,y9.2.2.1,y9.2.2.2.1,y9.2.2.2.2)))):Option ((List Tok×Int×List ByteArray×List Ex×Int×ByteArray×Int×Int)⊕(Flt⊕(StT×Dl))))=
   some (match(if qMb (tkAt ts i).2.1=3 then qSt ts (i+1) else qRo ts (i+1)) with| .inl z=> .inr (.inl z)| .inr a=> .inl (ts,(a.1:Int),pr,b,a.2.1,a.2.2.1,a.2.2.2.1,a.2.2.2.2)):=by
  by_cases k3:qMb (tkAt ts i).2.1=3
  ·rw[if_pos (show(qMb (tkAt ts i).2.1==3)=true by simpa using k3),if_pos k3,qYr g hl (by omega) ht]
   cases qSt ts (i+1)<;>rfl
  ·rw[if_neg (show ¬(qMb (tkAt ts i).2.1==3)=true by simpa using k3),if_neg k3,qYw g hl]
   cases qRo ts (i+1)<;>rfl
 refine Eq.trans (congrArg (fun z=>Option.bind z _) hx) ?_
 simp only[j0]
 cases hX:(if qMb (tkAt ts i).2.1=3 then qSt ts (i+1) else qRo ts (i+1)) with
 |inl z=>rfl
 |inr x=>
  have gx:x.1=i+1+1∧x.1<ts.length:=by
   split at hX
   ·obtain⟨rfl,g1,-⟩:=qNk hok g hX;exact⟨rfl,g1⟩
   ·obtain⟨rfl,g1,-⟩:=qNn hok g hX;exact⟨rfl,g1⟩
  simp only[qDn]
  have hT:=qXo (N:=N) (before:=before) (y1:=((ts,(i:Int),pr,b),tkAt ts i)) (o4:=(ts,(x.1:Int),pr,b,x.2.1,x.2.2.1,x.2.2.2.1,x.2.2.2.2)) hb before.length 0 N (by omega) (by omega)
  simp only[kI] at hT
  refine Eq.trans (congrArg (fun z=>Option.bind z _) hT) ?_
  simp only[j0,zKv]
  rcases qIy (before.any fun d=>d.1==qMb (tkAt ts i).2.1&&decide (d.2.1=x.2.2.1)) with k4|k4
  ·simp only[k4,jR];rfl
  simp only[k4,jC,jP,j0]
  have hp:(if(qMb (tkAt ts i).2.1==1)=true then((qDj N (ts,(x.1:Int),pr,b)).bind fun y12=>(match y12 with| .inl z6=>some (.inr (.inl z6))| .inr y13=>some (.inl (y13.2,y13.1.1,y13.1.2.1,y13.1.2.2.1,y13.1.2.2.2)))) else(some (.inl (([]:List (ByteArray)),ts,(x.1:Int),pr,b))):Option ((List ByteArray×StT)⊕(Flt⊕(StT×Dl))))=
    some (match(if qMb (tkAt ts i).2.1=1 then qKd ts x.1 else .inr (x.1,[])) with| .inl z=> .inr (.inl z)| .inr a=> .inl (a.2,ts,(a.1:Int),pr,b)):=by
   by_cases k5:qMb (tkAt ts i).2.1=1
   ·rw[if_pos (show(qMb (tkAt ts i).2.1==1)=true by simpa using k5),if_pos k5,qYt hok hl (by omega) gx.2]
    cases qKd ts x.1<;>rfl
   ·rw[if_neg (show ¬(qMb (tkAt ts i).2.1==1)=true by simpa using k5),if_neg k5]
  refine Eq.trans (congrArg (fun z=>Option.bind z _) hp) ?_
  simp only[j0]
  cases hY:(if qMb (tkAt ts i).2.1=1 then qKd ts x.1 else .inr (x.1,[]):Flt⊕(Nat×List ByteArray)) with
  |inl z=>rfl
  |inr y=>
   have gy:x.1≤y.1∧y.1<ts.length∧y.2.length≤8:=by
    split at hY
    ·obtain⟨g1,g2,g3⟩:=qQc hok gx.2 hY;exact⟨by omega,g2,g3⟩
    ·obtain rfl:=Sum.inr.inj hY;exact⟨jN _,gx.2,by simp⟩
   simp only[qLv gy.2.1 hl,j0,sEq]
   cases hj:qKr ts ⟨#[61]⟩ y.1 with
   |inl z=>rfl
   |inr j=>
    obtain⟨rfl,g3,-⟩:=qGn hok gy.2.1 hj
    have he:=zLa (N:=N) (pr:=y.2) hok hl (by omega) hN ht (y.1+1,[]) g3 (by simp)
    simp only at he
    simp only[jW,he,j0]
    cases hc:qKf ts y.2 32 (y.1+1,[]) with
    |inl z=>rfl
    |inr c=>
     obtain⟨⟨f1,f2,f3,f4⟩,-⟩:=qMi hok 32 (y.1+1,[]) c.1 c.2 g3 (by simp) hc
     simp only[outP,jW,stP,qLv f2 hl,j0,zEx]
     cases qKr ts ⟨#[59]⟩ c.1.1<;>rfl
theorem qTk(hok:OkT ts)(hl:ts.length<1000000)(hN:1000000<N){y4:StT×Tok}:∀(n M:Nat) (l:List ByteArray) (i:Nat),i<ts.length→l.length≤8→ts.length<i+n→ts.length<i+M→
  qBj (qGc N y4) M (ts,(i:Int),pr,b,l)=some (match qOx ts y4.2.2.1 n l i with| .inl z=> .inr (.inl z)| .inr a=> .inl (ts,(a.1:Int),pr,b,a.2))
 |0,M,l,i,hi,_,h,_=>by omega
 |n+1,0,l,i,hi,_,_,h=>by omega
 |n+1,M+1,l,i,hi,hll,hn,hM=>by
  have hw:=qPb (show i<1000000 by omega)
  simp only[qBj,qGc,qOx,zFf hi,j0,qXz]
  rcases qIy (isC ts 1 ⟨#[105,109,112,111,114,116]⟩ i) with k1|k1
  rotate_left
  ·simp only[k1,jC,jP,j0]
  have g:=qHs hok hi (by decide) k1
  simp only[k1,jR]
  by_cases k2:l.length=8
  ·rw[if_pos (show((l.length:Int)==8)=true by simp;omega),if_pos k2]
   simp only[qKb hi,j0,qBr];rfl
  rw[if_neg (show ¬((l.length:Int)==8)=true by simp;omega),if_neg k2]
  simp only[j0,hw,qYw g hl]
  cases hx:qRo ts (i+1) with
  |inl z=>rfl
  |inr x=>
   obtain⟨rfl,g1,-⟩:=qNn hok g hx
   simp only[jW,qDn,qBr,j0,qIa,qVj (N:=N) (l:=l) (s:=(tkAt ts (i+1)).2.1) (by omega) (by omega)]
   by_cases k3:(tkAt ts (i+1)).2.1=y4.2.2.1∨(tkAt ts (i+1)).2.1∈l
   ·rw[if_pos k3]
    have:((if decide ((tkAt ts (i+1)).2.1=y4.2.2.1)=true then some true else some (decide ((tkAt ts (i+1)).2.1∈l))):Option Bool)=some true:=by
     rcases k3 with h|h
     ·rw[if_pos (k9 h)]
     ·rw[k9 h];split<;>rfl
    rw[this];rfl
   rw[if_neg k3]
   have:((if decide ((tkAt ts (i+1)).2.1=y4.2.2.1)=true then some true else some (decide ((tkAt ts (i+1)).2.1∈l))):Option Bool)=some false:=by
    rw[if_neg (by simp only[j9];exact fun h=>k3 (.inl h)),kJ (fun h=>k3 (.inr h))]
   rw[this]
   simp only[j0,jC,jP]
   rw[qCr (by simp only[jA,jB];omega) (by omega)]
   simp only[j0,qLv g1 hl,zEx]
   cases hj:qKr ts ⟨#[59]⟩ (i+1+1) with
   |inl z=>rfl
   |inr j=>
    obtain⟨rfl,g2,-⟩:=qGn hok g1 hj
    exact qTk hok hl hN n M _ (i+1+1+1) g2 (by simp only[jJ,jA,jB];omega) (by omega) (by omega)
theorem qQi(h:OkT ts){pkg:ByteArray}:∀(n:Nat) (l:List ByteArray) (i:Nat) (a:Nat×List ByteArray),i<ts.length→l.length≤8→qOx ts pkg n l i= .inr a→i≤a.1∧a.1<ts.length∧a.2.length≤8
 |0,_,_,_,_,_,h1=>by cases h1
 |n+1,l,i,a,hi,hl,h1=>by
  unfold qOx at h1
  split at h1
  ·rename_i k
   have g:=qHs h hi (by decide) k
   split at h1
   ·cases h1
   rename_i k2
   obtain⟨x,hx,h2⟩:=qCb h1
   obtain⟨rfl,g1,-⟩:=qNn h g hx
   split at h2
   ·cases h2
   obtain⟨j,hj,h3⟩:=qCb h2
   obtain⟨rfl,g2,-⟩:=qGn h g1 hj
   obtain⟨j1,j2,j3⟩:=qQi h n _ _ a g2 (by simp only[jJ,jA,jB];omega) h3
   exact⟨by omega,j2,j3⟩
  ·obtain rfl:=Sum.inr.inj h1
   exact⟨jN _,hi,hl⟩
theorem qWr(hok:OkT ts)(hl:ts.length<1000000)(hN:1000001<N)(ht:∀j,(tkAt ts j).2.1.size<100000):∀(n M:Nat) (l:List Dl) (i:Nat) (pr:List ByteArray) (b:List Ex),i<ts.length→l.length≤64→ts.length<i+n→ts.length<i+M→
  match qVc ts n l i with
  | .inl z=>qBj (qCx N) M (ts,(i:Int),pr,b,l)=some (.inr (.inl z))
  | .inr a=>∃i' pr' b',qBj (qCx N) M (ts,(i:Int),pr,b,l)=some (.inl (ts,i',pr',b',a))
 |0,M,l,i,_,_,hi,_,h,_=>by omega
 |n+1,0,l,i,_,_,hi,_,_,h=>by omega
 |n+1,M+1,l,i,pr,b,hi,hll,hn,hM=>by
  have e1:qBj (qCx N) (M+1) (ts,(i:Int),pr,b,l)=(if(tkAt ts i).1=5 then some (.inl (ts,(i:Int),pr,b,l)) else
    match zBb ts l i with
    | .inl z=>some (.inr (.inl z))
    | .inr a=>qBj (qCx N) M (ts,(a.1:Int),a.2.2.2.1,a.2.2.2.2,l++[a.2])):=by
   simp only[qBj,qCx,qKb hi,j0,zLl hok hl hN ht hll hi]
   by_cases k1:(tkAt ts i).1=5
   ·rw[if_neg (show ¬((tkAt ts i).1 !=5)=true by simpa using k1),if_pos k1];rfl
   ·rw[if_pos (show((tkAt ts i).1 !=5)=true by simpa using k1),if_neg k1]
    cases hd:zBb ts l i with
    |inl z=>rfl
    |inr a=>
     obtain⟨g1,g2,g3⟩:=qUx hok hi hd
     simp only[jW]
     rw[qCr (by simp only[jA,jB];omega) (by omega)]
     rfl
  rw[e1]
  simp only[qVc]
  by_cases k1:(tkAt ts i).1=5
  ·simp only[if_pos k1];exact⟨_,_,_,rfl⟩
  ·simp only[if_neg k1]
   cases hd:zBb ts l i with
   |inl z=>rfl
   |inr a=>
    obtain⟨g1,g2,g3⟩:=qUx hok hi hd
    exact qWr hok hl hN ht n M (l++[a.2]) a.1 _ _ g2 (by simp only[jJ,jA,jB];omega) (by omega) (by omega)
theorem zLi(hok:OkT ts)(hl:ts.length<1000000)(hN:1000001<N)(ht:∀j,(tkAt ts j).2.1.size<100000):
  match zBs ts with
  | .inl z=>qGe N (ts,0,pr,b)=some (.inl z)
  | .inr f=>∃i' pr' b',qGe N (ts,0,pr,b)=some (.inr ((ts,i',pr',b'),f)):=by
 have h0:0<ts.length:=List.length_pos_iff.2 hok.1
 simp only[qGe,zBs]
 rw[show(0:Int)=((0:Nat):Int) from rfl]
 simp only[zBq h0 hl,j0,qTv]
 cases h1:qVs ts ⟨#[112,97,99,107,97,103,101]⟩ 0 with
 |inl z=>rfl
 |inr i=>
  obtain⟨rfl,g1,-⟩:=qQm hok h0 h1
  simp only[jW,qDn,qYw g1 hl,j0]
  cases h2:qRo ts (0+1) with
  |inl z=>rfl
  |inr x=>
   obtain⟨rfl,g2,-⟩:=qNn hok g1 h2
   simp only[jW,qLv g2 hl,j0,zEx]
   cases h3:qKr ts ⟨#[59]⟩ (0+1+1) with
   |inl z=>rfl
   |inr j=>
    obtain⟨rfl,g3,-⟩:=qGn hok g2 h3
    simp only[jW,qTk hok hl (by omega:1000000<N) (ts.length+1) N [] (0+1+1+1) g3 (by simp) (by omega) (by omega),j0]
    cases h4:qOx ts (tkAt ts (0+1)).2.1 (ts.length+1) [] (0+1+1+1) with
    |inl z=>rfl
    |inr y=>
     obtain⟨k1,k2,k3⟩:=qQi hok _ _ _ y g3 (by simp) h4
     have hd:=qWr (N:=N) hok hl hN ht (ts.length+1) N [] y.1 pr b k2 (by simp) (by omega) (by omega)
     simp only[]
     cases h5:qVc ts (ts.length+1) [] y.1 with
     |inl z=>
      rw[h5] at hd
      simp only[hd,j0]
     |inr l=>
      rw[h5] at hd
      obtain⟨i',pr',b',hd⟩:=hd
      refine⟨i',pr',b',?_⟩
      simp only[hd,j0]
end
theorem zDe{s:ByteArray}:∀(l:List Tok) (e:Int),0≤e→zKy s e l→∀i,i<l.length→((tkAt l i).1=5↔i+1=l.length)∧((tkAt l i).2.1.size:Int)≤s.size∧0≤(tkAt l i).2.2.2
 |[],_,_,_,i,hi=>by simp at hi
 |t::r,e,he,h,i,hi=>by
  obtain⟨h1,h2,h3,h4,h5⟩:=h
  have hend:0≤endT t:=by unfold endT;split<;>omega
  cases i with
  |zero=>
   refine⟨?_,?_,?_⟩
   ·show t.1=5↔0+1=r.length+1
    rw[h3,←List.length_eq_zero_iff];omega
   ·show((t.2.1.size:Nat):Int)≤s.size
    omega
   ·show 0≤t.2.2.2
    omega
  |succ i=>
   have:=zDe r _ hend h5 i (by simpa using hi)
   have e:tkAt (t::r) (i+1)=tkAt r i:=by simp[tkAt]
   rw[e,jA]
   exact⟨⟨fun h=>by have:=this.1.1 h;omega,fun h=>this.1.2 (by omega)⟩,this.2⟩
theorem qWm{s:ByteArray}(h:(qHn s).2.2=0):OkT (qHn s).1∧(qHn s).1.length≤16385∧∀j,(tkAt (qHn s).1 j).2.1.size<100000:=by
 unfold qHn at h ⊢
 split at h
 ·simp at h
 rename_i hs
 rw[if_neg hs]
 cases hG:tokG (s.data.toList.length+1) s 0 with
 |inl x=>
  obtain⟨_,_,h3⟩:=qYf _ 0 x (by omega) (by omega) hG
  rw[hG] at h
  exact absurd h h3
 |inr r=>
  obtain⟨g1,g2,g3⟩:=qSs _ 0 0 r (by omega) (by omega) (by omega) hG
  simp only[zIy,k0]
  have hc:=zDe r 0 (by omega) g1
  refine⟨⟨g2,fun i hi=>(hc i hi).1⟩,by omega,fun j=> ?_⟩
  rcases gR j r.length with hj|hj
  ·have:=(hc j hj).2.1
   have hs2:=qCk s
   omega
  ·have e:tkAt r j=(5,⟨#[]⟩,0,0):=by simp[tkAt,kA,List.getElem?_eq_none hj]
   rw[e];decide
theorem zCo{N:Nat}(s:ByteArray)(hN:1000001<N):qKl N s=some (qGf s):=by
 simp only[qKl,zHb (N:=N) (by omega),j0,qGf]
 by_cases h:(qHn s).2.2=0
 ·rw[if_neg (show ¬((qHn s).2.2 !=0)=true by simpa using h),if_neg (show ¬(qHn s).2.2≠0 by simpa using h)]
  obtain⟨h1,h2,h3⟩:=qWm h
  have hf:=zLi (N:=N) (pr:=[]) (b:=[]) h1 (by omega) hN h3
  cases hF:zBs (qHn s).1 with
  |inl z=>
   rw[hF] at hf
   simp only[hf,j0];rfl
  |inr f=>
   rw[hF] at hf
   obtain⟨i',pr',b',hf⟩:=hf
   simp only[hf,j0]
 ·rw[if_pos (show((qHn s).2.2 !=0)=true by simpa using h),if_pos h];rfl
end
section
open Go Go.Dc Go.Proofs
def zGq{α τ:Type}(g:Nat→τ→α→τ):Nat→τ→List α→τ
 |_,t,[]=>t
 |i,t,x::l=>zGq g (i+1) (g i t x) l
theorem qWv{α τ σ β:Type}{L:List α}(enc:τ→Nat→σ){f:σ→Option (σ⊕β)}(g:Nat→τ→α→τ)(fin:τ→β)
  (hstep:∀t i,∀hi:i<L.length,f (enc t i)=some (.inl (enc (g i t L[i]) (i+1))))
  (hfin:∀t,f (enc t L.length)=some (.inr (fin t))):∀(d i M:Nat) (t:τ),i+d=L.length→d<M→qBj f M (enc t i)=some (fin (zGq g i t (L.drop i)))
 |_,_,0,_,_,h=>absurd h (kX _)
 |0,i,M+1,t,h1,h2=>by
  have hi:i=L.length:=by omega
  subst hi
  simp only[qBj,hfin t,j0,List.drop_length,zGq]
 |d+1,i,M+1,t,h1,h2=>by
  have hi:i<L.length:=by omega
  simp only[qBj,hstep t i hi,j0]
  rw[zEp hi]
  exact qWv enc g fin hstep hfin d (i+1) M _ (by omega) (by omega)
abbrev Ent:=ByteArray×ByteArray×Int×ByteArray×Int×Int
abbrev K3:=Int×ByteArray×ByteArray
abbrev Occ:=ByteArray×ByteArray×Int×ByteArray×Int
def keyC(kind:Int)(pkg name:ByteArray):K3:=(kind,if kind=3 then qRv else pkg,name)
def okey(o:Occ):K3:=keyC o.2.2.1 o.1 o.2.1
def qIn(M:List (K3×Ent))(o:Occ):List (K3×Ent):=
 mset M (okey o) (match mget M (okey o) with
  |some x=>(x.1,x.2.1,x.2.2.1,x.2.2.2.1,x.2.2.2.2.1,IntKind.wrap .i64 (x.2.2.2.2.2+1))
  |none=>(o.1,o.2.1,o.2.2.1,o.2.2.2.1,o.2.2.2.2,1))
def qWa(path pkg:ByteArray):Nat→List Dl→List Occ
 |_,[]=>[]
 |i,d::l=>(pkg,d.2.1,d.1,path,(i:Int))::qWa path pkg (i+1) l
def qLf(f:File):Bool:=qDm f.1&&decide ((qGf f.2).2.2=0)
def qEb(L:List File):List (ByteArray×Sr):=(L.filter qLf).map fun f=>(f.1,(qGf f.2).1)
def qIh(L:List File):List ByteArray:=(L.filter fun f=>qDm f.1&& !decide ((qGf f.2).2.2=0)).map (·.1)
def qIc(l:List (ByteArray×Sr)):List Occ:=l.flatMap fun x=>qWa x.1 x.2.1 0 x.2.2.2
abbrev Wld:=List File×Bool×Option (List (ByteArray×Sr))×List ByteArray×Option (List (K3×Ent))
def qSz(L:List File):Wld:=
 if qFv L=0 then(L,true,some ((qEb L).foldl (fun S x=>mset S x.1 x.2) []),qIh L,some ((qIc (qEb L)).foldl qIn [])) else(L,false,some [],[],some [])
theorem qWx(path pkg:ByteArray):∀(l:List Dl) (i:Nat) (M:List (K3×Ent)),
  zGq (fun i M (d:Dl)=>qIn M (pkg,d.2.1,d.1,path,(i:Int))) i M l=(qWa path pkg i l).foldl qIn M
 |[],_,_=>rfl
 |d::l,i,M=>by simp only[zGq,qWa,jM];exact qWx path pkg l (i+1) _
theorem qTf{N:Nat}(a:Int)(b c:ByteArray):qOe N a b c=some (keyC a b c):=by
 unfold qOe keyC
 by_cases h:a=3
 ·rw[if_pos (by simp[h]),if_pos h];rfl
 ·rw[if_neg (by simp[h]),if_neg h];rfl
theorem zEn{N:Nat}{x:File}{y:Sr×Int×Int}(hl:y.1.2.2.length<1000)(hN:1000<N)(M:List (K3×Ent)):
  qBj (qIz N x y) N (0,some M)=some (some ((qWa x.1 y.1.1 0 y.1.2.2).foldl qIn M)):=by
 have:=qWv (L:=y.1.2.2) (fun(M:List (K3×Ent)) i=>((i:Int),some M)) (f:=qIz N x y)
  (fun i M (d:Dl)=>qIn M (y.1.1,d.2.1,d.1,x.1,(i:Int))) (fun M=>some M) (by
   intro M i hi
   simp only[qIz]
   rw[if_pos (by simp only[j9];omega),qDs hi]
   simp only[j0,qTf]
   have ew:IntKind.wrap .i64 ((i:Int)+1)=((i+1:Nat):Int):=by rw[wi64 (by omega) (by omega)];omega
   simp only[ew]
   by_cases h:(qAl (some M) (keyC (y.1.2.2[i]).1 y.1.1 (y.1.2.2[i]).2.1)).isSome=true
   ·rw[if_pos h]
    unfold qIn okey
    simp only[qAl,qJe,j0,jY] at h ⊢
    obtain⟨v,hv⟩:=fI.1 h
    rw[hv];rfl
   ·rw[if_neg h]
    unfold qIn okey
    simp only[qAl,qJe,j0,jY] at h ⊢
    rw[show mget M (keyC (y.1.2.2[i]).1 y.1.1 (y.1.2.2[i]).2.1)=none by simpa using h]) (by
   intro M
   simp only[qIz]
   rw[if_neg (by simp)]) y.1.2.2.length 0 N M (by omega) (by omega)
 rw[kI,qWx] at this
 exact this
theorem qWh{ts:List Tok}(h:OkT ts):∀(n:Nat) (l:List Dl) (i:Nat) {r:List Dl},l.length≤64→i<ts.length→qVc ts n l i= .inr r→r.length≤64
 |0,_,_,_,_,_,h1=>by cases h1
 |n+1,l,i,r,hl,hi,h1=>by
  unfold qVc at h1
  split at h1
  ·cases h1;exact hl
  obtain⟨x,hx,h2⟩:=qCb h1
  obtain⟨-,g2,g3⟩:=qUx h hi hx
  exact qWh h n _ _ (by simp;omega) g2 h2
theorem qSn{s:ByteArray}:(qGf s).1.2.2.length≤64:=by
 unfold qGf
 by_cases h0:(qHn s).2.2=0
 ·rw[if_neg (not_not_intro h0)]
  obtain⟨hok,hlen,hsz⟩:=qWm h0
  have hpos:0<(qHn s).1.length:=by
   cases h:(qHn s).1 with
   |nil=>exact absurd h hok.1
   |cons a l=>exact Nat.succ_pos _
  cases hf:zBs (qHn s).1 with
  |inl z=>exact kG _
  |inr f=>
   simp only
   unfold zBs at hf
   obtain⟨i,h1,hf⟩:=qCb hf
   obtain⟨rfl,g1,-⟩:=qQm hok hpos h1
   obtain⟨a,h2,hf⟩:=qCb hf
   obtain⟨rfl,g2,-⟩:=qNn hok g1 h2
   obtain⟨j,h3,hf⟩:=qCb hf
   obtain⟨rfl,g3,-⟩:=qGn hok g2 h3
   obtain⟨b,h4,hf⟩:=qCb hf
   obtain⟨-,k2,-⟩:=qQi hok _ _ _ b g3 (by simp) h4
   obtain⟨l,h5,hf⟩:=qCb hf
   have:=qWh hok _ _ _ (by simp) k2 h5
   cases hf
   exact this
 ·rw[if_pos h0];exact kG _
def newF(t:List ByteArray×List (ByteArray×Sr)×List (K3×Ent))(f:File):List ByteArray×List (ByteArray×Sr)×List (K3×Ent):=
 if qDm f.1=false then t
 else if(qGf f.2).2.2=0 then(t.1,mset t.2.1 f.1 (qGf f.2).1,(qWa f.1 (qGf f.2).1.1 0 (qGf f.2).1.2.2).foldl qIn t.2.2)
 else(t.1++[f.1],t.2)
theorem qRy:∀(L:List File) (B:List ByteArray) (S:List (ByteArray×Sr)) (M:List (K3×Ent)),
  L.foldl newF (B,S,M)=(B++qIh L,(qEb L).foldl (fun S x=>mset S x.1 x.2) S,(qIc (qEb L)).foldl qIn M)
 |[],B,S,M=>by simp[qIh,qEb,qIc]
 |f::L,B,S,M=>by
  rw[jM]
  by_cases h1:qDm f.1=true
  ·by_cases h2:(qGf f.2).2.2=0
   ·have e:newF (B,S,M) f=(B,mset S f.1 (qGf f.2).1,(qWa f.1 (qGf f.2).1.1 0 (qGf f.2).1.2.2).foldl qIn M):=by
     unfold newF;rw[if_neg (by simp[h1]),if_pos h2]
    have el:qEb (f::L)=(f.1,(qGf f.2).1)::qEb L:=by
     unfold qEb;rw[kH,if_pos (show qLf f=true by simp[qLf,h1,h2])];rfl
    have eb:qIh (f::L)=qIh L:=by
     unfold qIh;rw[kH,if_neg (by simp[h2])]
    rw[e,qRy L,el,eb]
    simp only[jM,qIc,kM,List.foldl_append]
   ·have e:newF (B,S,M) f=(B++[f.1],S,M):=by
     unfold newF;rw[if_neg (by simp[h1]),if_neg h2]
    have el:qEb (f::L)=qEb L:=by
     unfold qEb;rw[kH,if_neg (by simp[qLf,h2])]
    have eb:qIh (f::L)=f.1::qIh L:=by
     unfold qIh;rw[kH,if_pos (by simp[h1,h2])];rfl
    rw[e,qRy L,el,eb]
    simp
  ·have h1:qDm f.1=false:=by simpa using h1
   have e:newF (B,S,M) f=(B,S,M):=by unfold newF;rw[if_pos h1]
   have el:qEb (f::L)=qEb L:=by
    unfold qEb;rw[kH,if_neg (by simp[qLf,h1])]
   have eb:qIh (f::L)=qIh L:=by
    unfold qIh;rw[kH,if_neg (by simp[h1])]
   rw[e,qRy L,el,eb]
theorem zEr{N:Nat}{L:List File}(hP:qIu N L)(hl:L.length≤64)(hN:1000001<N):
  qBj (qJa N L) N (0,[],some [],some [])=some (qIh L,some ((qEb L).foldl (fun S x=>mset S x.1 x.2) []),some ((qIc (qEb L)).foldl qIn [])):=by
 have h:=qOf (L:=L) (fun(t:List ByteArray×List (ByteArray×Sr)×List (K3×Ent)) (i:Nat)=>((i:Int),t.1,some t.2.1,some t.2.2)) (f:=qJa N L)
  (fun t f=> .inl (newF t f)) (fun t=>(t.1,some t.2.1,some t.2.2)) (fun i t=>t.1.length≤i) (by
   intro t i hi hI
   simp only[qJa]
   rw[if_pos (by simp only[j9];omega),qDs hi]
   have ew:IntKind.wrap .i64 ((i:Int)+1)=((i+1:Nat):Int):=by rw[wi64 (by omega) (by omega)];omega
   have hs:=qUp (N:=N) (hP _ (jX hi))
   simp only[j0,hs,zCo _ hN,ew]
   unfold newF
   by_cases h1:qDm (L[i]).1=true
   ·by_cases h2:(qGf (L[i]).2).2.2=0
    ·rw[if_neg (by simp[h1]),if_neg (by simp[h2]),if_neg (by simp[h1]),if_pos h2,zEn (by have:=qSn (s:=(L[i]).2);omega) (by omega)]
     simp only[qJe,jY,j0]
    ·rw[if_neg (by simp[h1]),if_pos (by simpa using h2),if_neg (by simp[h1]),if_neg h2,qCr (by simp only[jA,jB];omega) (by omega)]
     simp only[j0]
   ·have h1:qDm (L[i]).1=false:=by simpa using h1
    rw[if_pos (by simp[h1]),if_pos h1]
    simp only[j0]) (by
   intro t i hi t' hI h
   cases h
   unfold newF
   split
   ·omega
   ·split
    ·exact Nat.le_succ_of_le hI
    ·simp only[jJ,jA,jB];omega) (by
   intro t hI
   simp only[qJa]
   rw[if_neg (by simp)]) (M:=N) (t:=([],[],[])) (by omega) (kG _)
 rw[show((0:Nat):Int)=0 from rfl] at h
 rw[h,qOk newF (fun _ _=>rfl),qRy]
 simp only[k0]
theorem qZq{N:Nat}{L:List File}(hP:qIu N L)(hN:1000001<N):qKw N L=some (qSz L):=by
 simp only[qKw,zCs hP (show 100<N by omega),j0]
 unfold qSz
 by_cases hc:qFv L=0
 ·rw[if_neg (by simp[hc]),if_pos hc,zEr hP (qFk.1 hc).1 hN]
  simp only[j0,hc];rfl
 ·rw[if_pos (by simpa using hc),if_neg hc]
  simp only[show(qFv L==0)=false by simpa using hc]
def seeE(kind:Int)(pkg name:ByteArray)(e:Ent)(o:Occ):Ent:=
 if okey o=keyC kind pkg name then(if e.2.2.2.2.2=0 then(o.1,name,kind,o.2.2.2.1,o.2.2.2.2,1) else(e.1,e.2.1,e.2.2.1,e.2.2.2.1,e.2.2.2.2.1,e.2.2.2.2.2+1)) else e
def noE(kind:Int)(pkg name:ByteArray):Ent:=(if kind=3 then qRv else pkg,name,kind,qRv,0,0)
def entE(O:List Occ)(kind:Int)(pkg name:ByteArray):Ent:=O.foldl (seeE kind pkg name) (noE kind pkg name)
theorem qRr{k k':Int}{p p' n n':ByteArray}(h:keyC k p n=keyC k' p' n'):k=k'∧n=n'∧(k=3∨p=p'):=by
 simp only[keyC,Prod.mk.injEq] at h
 obtain⟨rfl,h2,h3⟩:=h
 refine⟨rfl,h3,?_⟩
 by_cases h:k=3
 ·exact .inl h
 ·rw[if_neg h,if_neg h] at h2;exact .inr h2
def MapE(M:List (K3×Ent))(O:List Occ):Prop:=
 (M.map (·.1)).Nodup∧∀kind pkg name,mget M (keyC kind pkg name)=if(entE O kind pkg name).2.2.2.2.2=0 then none else some (entE O kind pkg name)
theorem qWg(kind:Int)(pkg name:ByteArray):∀(O:List Occ),0≤(entE O kind pkg name).2.2.2.2.2∧(entE O kind pkg name).2.2.2.2.2≤O.length∧((entE O kind pkg name).2.2.2.2.2=0→entE O kind pkg name=noE kind pkg name):=by
 suffices h:∀(O:List Occ) (e:Ent) (b:Nat),0≤e.2.2.2.2.2∧e.2.2.2.2.2≤b∧(e.2.2.2.2.2=0→e=noE kind pkg name)→
   0≤(O.foldl (seeE kind pkg name) e).2.2.2.2.2∧(O.foldl (seeE kind pkg name) e).2.2.2.2.2≤(b+O.length:Nat)∧((O.foldl (seeE kind pkg name) e).2.2.2.2.2=0→O.foldl (seeE kind pkg name) e=noE kind pkg name) by
  intro O
  have:=h O (noE kind pkg name) 0 ⟨Int.le_refl _,Int.le_refl _,fun _=>rfl⟩
  rw[kO] at this
  exact this
 intro O
 induction O with
 |nil=>intro e b h;exact h
 |cons o O ih=>
  intro e b h
  rw[jM]
  have:=ih (seeE kind pkg name e o) (b+1) (by
   unfold seeE
   split
   ·split
    ·exact⟨(by show(0:Int)≤1;decide),by show(1:Int)≤_;omega,fun h=>by simp at h⟩
    ·rename_i hc
     refine⟨by show(0:Int)≤e.2.2.2.2.2+1;omega,by show e.2.2.2.2.2+1≤_;omega,fun h1=> ?_⟩
     have h1:e.2.2.2.2.2+1=0:=h1
     omega
   ·exact⟨h.1,by omega,h.2.2⟩)
  rw[jA,show b+(O.length+1)=b+1+O.length by omega]
  exact this
theorem MapE.step{M:List (K3×Ent)}{O:List Occ}(h:MapE M O)(hO:O.length<1000000)(o:Occ):MapE (qIn M o) (O++[o]):=by
 refine⟨qLk h.1 _ _,fun kind pkg name=> ?_⟩
 have hb:=qWg kind pkg name O
 have hE:entE (O++[o]) kind pkg name=seeE kind pkg name (entE O kind pkg name) o:=by
  unfold entE;rw[List.foldl_append];rfl
 unfold qIn
 rw[qOi h.1,hE]
 by_cases hk:keyC kind pkg name=okey o
 ·rw[if_pos hk,←hk,h.2 kind pkg name]
  unfold seeE
  rw[if_pos hk.symm]
  obtain⟨e1,e2,e3⟩:=qRr hk
  by_cases hc:(entE O kind pkg name).2.2.2.2.2=0
  ·rw[if_pos hc,if_pos hc,if_neg (show ¬(1:Int)=0 by decide),←e1,←e2]
  ·rw[if_neg hc,if_neg hc,if_neg (show ¬(entE O kind pkg name).2.2.2.2.2+1=0 by omega)]
   simp only[wi64 (show-9223372036854775808≤(entE O kind pkg name).2.2.2.2.2+1 by omega) (by omega)]
 ·have hs:seeE kind pkg name (entE O kind pkg name) o=entE O kind pkg name:=by unfold seeE;rw[if_neg (fun e=>hk e.symm)]
  rw[if_neg hk,h.2 kind pkg name,hs]
theorem MapE.fold{O:List Occ}(hO:O.length<1000000):MapE (O.foldl qIn []) O:=by
 suffices h:∀(K:List Occ) (M:List (K3×Ent)) (J:List Occ),J.length+K.length<1000000→MapE M J→MapE (K.foldl qIn M) (J++K) by
  have:=h O [] [] (by simpa using hO) ⟨kQ,fun kind pkg name=>by rw[show(entE [] kind pkg name).2.2.2.2.2=0 from rfl,if_pos rfl];rfl⟩
  exact this
 intro K
 induction K with
 |nil=>intro M J _ h;rw[List.append_nil];exact h
 |cons o K ih=>
  intro M J hl h
  rw[jM,show J++o::K=(J++[o])++K by simp]
  simp only[jA] at hl
  exact ih _ _ (by simp;omega) (h.step (by omega) o)
theorem qUu(path pkg:ByteArray):∀(l:List Dl) (i:Nat),(qWa path pkg i l).length=l.length
 |[],_=>rfl
 |_::l,i=>by simp only[qWa,jA,qUu path pkg l]
theorem qVl{L:List File}{x:ByteArray×Sr}(h:x∈qEb L):∃f∈L,qLf f=true∧x=(f.1,(qGf f.2).1):=by
 unfold qEb at h
 obtain⟨f,hf,rfl⟩:=kZ.1 h
 exact⟨f,(gN.1 hf).1,(gN.1 hf).2,rfl⟩
theorem qVb(L:List File):(qEb L).length≤L.length:=by
 unfold qEb;rw[kE];exact gA _ _
theorem qZi:∀(l:List (ByteArray×Sr)),(∀x∈l,x.2.2.2.length≤64)→(qIc l).length≤64*l.length
 |[],_=>jN _
 |x::l,h=>by
  have:=qZi l fun y hy=>h y (jK _ hy)
  have:=h x (jI ..)
  unfold qIc at*
  rw[kM,jJ,qUu,jA]
  omega
theorem qQd{L:List File}(hl:L.length≤64):(qIc (qEb L)).length<1000000:=by
 have:=qZi (qEb L) fun x hx=>by
  obtain⟨f,_,_,rfl⟩:=qVl hx
  exact qSn
 have:=qVb L
 omega
def zeroE:Ent:=(qRv,qRv,0,qRv,0,0)
def zEq(L:List File)(kind:Int)(pkg name:ByteArray):Ent:=if qFv L=0 then entE (qIc (qEb L)) kind pkg name else zeroE
theorem zJi{N:Nat}{L:List File}(kind:Int)(pkg name:ByteArray):qIp N (qSz L) kind pkg name=some (zEq L kind pkg name):=by
 unfold qIp qSz zEq
 by_cases hc:qFv L=0
 ·simp only[if_pos hc]
  rw[if_neg (by simp)]
  simp only[qTf,j0]
  have hM:=(MapE.fold (qQd (qFk.1 hc).1)).2 kind pkg name
  have hb:=qWg kind pkg name (qIc (qEb L))
  generalize hq:qAl (some ((qIc (qEb L)).foldl qIn [])) (keyC kind pkg name)=q
  have hq:q=if(entE (qIc (qEb L)) kind pkg name).2.2.2.2.2=0 then none else some (entE (qIc (qEb L)) kind pkg name):=hq.symm.trans hM
  by_cases h0:(entE (qIc (qEb L)) kind pkg name).2.2.2.2.2=0
  ·rw[if_pos h0] at hq
   subst hq
   rw[if_neg (by simp),hb.2.2 h0];rfl
  ·rw[if_neg h0] at hq
   subst hq
   rw[if_pos (show(some (entE (qIc (qEb L)) kind pkg name)).isSome=true from rfl)];rfl
 ·simp only[if_neg hc]
  rw[if_pos (show(!false)=true from rfl)];rfl
end
section
open Go Go.Dc Go.Proofs
def srcP(L:List File)(p:ByteArray):Sr×Bool:=match(if qFv L=0 then fget L p else none) with
 |some b=>if qDm p=true then((qGf b).1,decide ((qGf b).2.2=0)) else(zGr,false)
 |none=>(zGr,false)
theorem zDs{L:List File}(hc:qFv L=0){f:File}(hf:f∈L):(srcP L f.1).2=qLf f∧(qLf f=true→(srcP L f.1).1=(qGf f.2).1):=by
 unfold srcP
 rw[if_pos hc,qOu (qFk.1 hc).2.1 hf]
 simp only[qLf]
 by_cases hs:qDm f.1=true
 ·rw[if_pos hs,hs];exact⟨by simp,fun _=>rfl⟩
 ·rw[if_neg hs]
  have hs':qDm f.1=false:=by simpa using hs
  rw[hs'];exact⟨rfl,fun h=>by simp at h⟩
end
section
open Go Go.Dc
def Ok{α:Type}(x:Option α)(Q:α→Prop):Prop:=∃a,x=some a∧Q a
section
variable {α β γ:Type} {Q:β→Prop}
theorem Ok.mk{a:β}(h:Q a):Ok (some a) Q:=⟨a,rfl,h⟩
theorem Ok.bind{x:Option α}{P:α→Prop}{f:α→Option β}(h:Ok x P)(k:∀a,P a→Ok (f a) Q):Ok (x.bind f) Q:=by
 obtain⟨a,rfl,ha⟩:=h
 exact k a ha
theorem Ok.mono{x:Option β}{P:β→Prop}(h:Ok x P)(k:∀a,P a→Q a):Ok x Q:=by
 obtain⟨a,e,ha⟩:=h
 exact⟨a,e,k a ha⟩
theorem Ok.assoc{x:Option α}{g:α→Option γ}{f:γ→Option β}(h:Ok (x.bind fun a=>(g a).bind f) Q):Ok ((x.bind g).bind f) Q:=by
 rw[Option.bind_assoc];exact h
theorem Ok.ite{c:Prop}[Decidable c]{x y:Option β}(h1:c→Ok x Q)(h2:¬c→Ok y Q):Ok (if c then x else y) Q:=by
 by_cases h:c
 ·rw[if_pos h];exact h1 h
 ·rw[if_neg h];exact h2 h
theorem Ok.iteb{c:Prop}[Decidable c]{x y:Option α}{f:α→Option β}(h1:c→Ok (x.bind f) Q)(h2:¬c→Ok (y.bind f) Q):Ok ((if c then x else y).bind f) Q:=by
 by_cases h:c
 ·rw[if_pos h];exact h1 h
 ·rw[if_neg h];exact h2 h
theorem Ok.tt[Decidable (true=true)]{x y:Option β}(h:Ok x Q):Ok (if true=true then x else y) Q:=by rw[if_pos rfl];exact h
theorem Ok.ff[Decidable (false=true)]{x y:Option β}(h:Ok y Q):Ok (if false=true then x else y) Q:=by rw[if_neg gJ];exact h
theorem Ok.ttb[Decidable (true=true)]{x y:Option α}{f:α→Option β}(h:Ok (x.bind f) Q):Ok ((if true=true then x else y).bind f) Q:=by rw[if_pos rfl];exact h
theorem Ok.ffb[Decidable (false=true)]{x y:Option α}{f:α→Option β}(h:Ok (y.bind f) Q):Ok ((if false=true then x else y).bind f) Q:=by rw[if_neg gJ];exact h
theorem Ok.someb{a:α}{f:α→Option β}(h:Ok (f a) Q):Ok ((some a).bind f) Q:=h
theorem Ok.mapb{a:α}{g:α→γ}{f:γ→Option β}(h:Ok (f (g a)) Q):Ok (((some a).map g).bind f) Q:=h
theorem Ok.cat{x y:ByteArray}{f:ByteArray→Option β}(hs:x.size+y.size≤1000000000)(h:∀s:ByteArray,s.size=x.size+y.size→Ok (f s) Q):Ok ((catB x y).bind f) Q:=by
 unfold catB
 rw[if_pos (by simp only[maxLen];omega)]
 exact h _ (by simp)
theorem Ok.app{b:Nat}{l k:List α}{f:List α→Option β}(hs:(l.length+k.length)*b≤140737488355328)(hb:0<b)(h:Ok (f (l++k)) Q):Ok ((qEq b l k).bind f) Q:=by
 rw[qCr hs hb];exact h
theorem Ok.loop{σ:Type}{f:σ→Option (σ⊕α)}{g:α→Option β}{s:σ}{N:Nat}(I:σ→Prop)(μ:σ→Nat)(R:α→Prop)
  (h:∀s,I s→Ok (f s) fun r=>match r with| .inl s'=>I s'∧μ s'<μ s| .inr b=>R b) (hs:I s) (hN:μ s<N) (k:∀b,R b→Ok (g b) Q):Ok ((qBj f N s).bind g) Q:=by
 obtain⟨b,h1,h2⟩:=qYm I μ R (fun s hs=>by
  obtain⟨r,h1,h2⟩:=h s hs
  cases r with
  |inl s'=>exact .inr ⟨s',h1,h2.1,h2.2⟩
  |inr b=>exact .inl ⟨b,h1,h2⟩) N s hs hN
 rw[h1];exact k b h2
end
theorem qNu(a:Array UInt8):(⟨a⟩:ByteArray).size=a.size:=rfl
theorem zJp{N:Nat}{v n:Int}(hn:n≤9223372036854775807):∃r,qId N v n=some r∧0≤r∧(1≤n→r<n):=by
 simp only[qId]
 by_cases h:n≤1
 ·exact⟨0,by simp[h],by omega,by omega⟩
 ·have hne:n≠0:=by omega
  have h1:=Int.tmod_lt_of_pos v (show 0<n by omega)
  have h2:=Int.lt_tmod_of_pos v (show 0<n by omega)
  simp only[h,decide_false,jC,jP,remS,hne,j0]
  by_cases h3:Int.tmod v n<0
  ·refine⟨Int.tmod v n+n,?_,by omega,by omega⟩
   simp only[h3,decide_true,jR,j0]
   rw[wi64 (by omega) (by omega)]
  ·exact⟨Int.tmod v n,by simp only[h3,decide_false,jC,jP,j0],by omega,by omega⟩
theorem qTx{N:Nat}{l:List Int}{a n:Int}(h0:0≤a)(h1:a<4611686018427387904)(hn:n≤9223372036854775807):∃r,qBe N (l,a) n=some ((l,a+1),r)∧0≤r∧(1≤n→r<n):=by
 simp only[qBe]
 have hv:∃v,(if(decide (a<(List.length l:Int)))=true then((idx l a).bind fun x1=>some x1) else(some (Int.tmod (IntKind.wrap .i64 (a*7)) 11)):Option Int)=some v:=by
  by_cases h:a<(l.length:Int)
  ·exact⟨_,by simp only[h,decide_true,jR];rw[qRs h0 (by omega)];rfl⟩
  ·exact⟨_,by simp only[h,decide_false,jC,jP];rfl⟩
 obtain⟨v,hv⟩:=hv
 obtain⟨r,hr,h2,h3⟩:=zJp (N:=N) (v:=v) hn
 exact⟨r,by simp only[hv,j0,hr];rw[wi64 (by omega) (by omega)],h2,h3⟩
section
variable {β:Type} {Q:β→Prop} {N:Nat} {l:List Int} {a:Int}
theorem Ok.next{n:Int}{f:(List Int×Int)×Int→Option β}(h0:0≤a)(h1:a<4611686018427387904)(hn:1≤n)(hn2:n≤1000000)(h:∀r,0≤r→r<n→Ok (f ((l,a+1),r)) Q):Ok ((qBe N (l,a) n).bind f) Q:=by
 obtain⟨r,hr,g1,g2⟩:=qTx (N:=N) (l:=l) h0 h1 (show n≤9223372036854775807 by omega)
 rw[hr];exact h r g1 (g2 hn)
theorem Ok.chance{n m:Int}{f:(List Int×Int)×Bool→Option β}(h0:0≤a)(h1:a<4611686018427387904)(hn:1≤m)(hn2:m≤1000000)(h:∀r,Ok (f ((l,a+1),r)) Q):Ok ((qBl N (l,a) n m).bind f) Q:=by
 obtain⟨r,hr,g1,g2⟩:=qTx (N:=N) (l:=l) h0 h1 (show m≤9223372036854775807 by omega)
 simp only[qBl,hr,j0]
 exact h _
theorem Ok.one{L:List ByteArray}{f:(List Int×Int)×ByteArray→Option β}(h0:0≤a)(h1:a<4611686018427387904)(hL:0<L.length)(hL2:L.length<1000)(h:∀x∈L,Ok (f ((l,a+1),x)) Q):Ok ((qAv N (l,a) L).bind f) Q:=by
 obtain⟨r,hr,g1,g2⟩:=qTx (N:=N) (l:=l) h0 h1 (show(L.length:Int)≤9223372036854775807 by omega)
 have g2:=g2 (by omega)
 have hlt:r.toNat<L.length:=by omega
 simp only[qAv]
 rw[if_neg (by rw[kD];omega),hr]
 simp only[j0]
 rw[qRs g1 hlt]
 exact h _ (jX hlt)
theorem Ok.oneP{L:List ByteArray}{f:(List Int×Int)×ByteArray→Option β}(h0:0≤a)(h1:a<4611686018427387904)(hc:decide ((List.length L:Int)>0)=true)(hL2:L.length<1000)(hL3:∀x∈L,x.size≤12)(h:∀x:ByteArray,x.size≤12→Ok (f ((l,a+1),x)) Q):Ok ((qAv N (l,a) L).bind f) Q:=
 Ok.one h0 h1 (by have:=kL hc;omega) hL2 fun x hx=>h x (hL3 x hx)
theorem Ok.oneS{L:List ByteArray}{f:(List Int×Int)×ByteArray→Option β}(h0:0≤a)(h1:a<4611686018427387904)(hL:(decide (0<L.length)&&decide (L.length<1000)&&L.all fun x=>decide (x.size≤12))=true)(h:∀x:ByteArray,x.size≤12→Ok (f ((l,a+1),x)) Q):Ok ((qAv N (l,a) L).bind f) Q:=by
 simp only[jU,j9] at hL
 exact Ok.one h0 h1 hL.1.1 hL.1.2 fun x hx=>h x (by simpa using jS.1 hL.2 x hx)
theorem Ok.pick{L:List Int}{f:(List Int×Int)×Int→Option β}(h0:0≤a)(h1:a<4611686018427387904)(hL:0<L.length)(hL2:L.length<1000)(h:∀x∈L,Ok (f ((l,a+1),x)) Q):Ok ((qCq N (l,a) L).bind f) Q:=by
 obtain⟨r,hr,g1,g2⟩:=qTx (N:=N) (l:=l) h0 h1 (show(L.length:Int)≤9223372036854775807 by omega)
 have g2:=g2 (by omega)
 have hlt:r.toNat<L.length:=by omega
 simp only[qCq]
 rw[if_neg (by rw[kD];omega),hr]
 simp only[j0]
 rw[qRs g1 hlt]
 exact h _ (jX hlt)
theorem Ok.pickS{L:List Int}{f:(List Int×Int)×Int→Option β}(h0:0≤a)(h1:a<4611686018427387904)(hL:(decide (0<L.length)&&decide (L.length<1000)&&L.all fun x=>decide (0≤x∧x≤9007199254740992))=true)(h:∀x:Int,0≤x→x≤9007199254740992→Ok (f ((l,a+1),x)) Q):Ok ((qCq N (l,a) L).bind f) Q:=by
 simp only[jU,j9] at hL
 exact Ok.pick h0 h1 hL.1.1 hL.1.2 fun x hx=>by
  have:=jS.1 hL.2 x hx
  simp only[j9] at this
  exact h x this.1 this.2
theorem qYe:∀(k D:Nat) (x:Int),k<D→k≤100→0≤x→x<10^(k+1)→x≤9223372036854775806→Ok (qFz N D x) fun s=>s.size≤k+1
 |_,0,_,h,_,_,_,_=>absurd h (kX _)
 |k,D+1,x,hk,hk9,h0,h1,h2=>by
  show Ok (qFy N (qFz N D) x) _
  unfold qFy
  have hsz:ByteArray.size (⟨#[48,49,50,51,52,53,54,55,56,57]⟩:ByteArray)=10:=rfl
  by_cases hx:x<10
  ·rw[if_pos (by simpa using hx),wi64 (by omega) (by omega),qQa h0 (by omega) (by omega)]
   refine Ok.mk ?_
   simp only[ByteArray.size_extract,hsz];omega
  ·rw[if_neg (by simpa using hx)]
   obtain⟨k,rfl⟩:∃k',k=k'+1:=by
    cases k with
    |zero=>simp at h1;omega
    |succ k=>exact⟨k,rfl⟩
   obtain⟨D,rfl⟩:∃D',D=D'+1:=⟨D-1,by omega⟩
   have e1:Int.tdiv x 10=x/10:=Int.tdiv_eq_ediv_of_nonneg h0
   have e2:Int.tmod x 10=x%10:=Int.tmod_eq_emod_of_nonneg h0
   have hp:(10:Int)^(k+1+1)=10*10^(k+1):=by rw[Int.pow_succ];omega
   rw[e1,e2,wi64 (by omega) (by omega)]
   refine Ok.bind (qYe k (D+1) (x/10) (by omega) (by omega) (by omega) (by omega) (by omega)) fun s hs=> ?_
   refine Ok.bind (qYe 0 (D+1) (x%10) (by omega) (by omega) (by omega) (by simp;omega) (by omega)) fun t ht=> ?_
   exact Ok.cat (by omega) fun u hu=>Ok.mk (by omega)
theorem zIa{x:Int}(h0:0≤x)(h1:x≤9007199254740992)(hN:100<N):Ok (qCo N x) fun s=>s.size≤16:=
 qYe 15 N x (by omega) (by omega) h0 (by rw[show(10:Int)^(15+1)=10000000000000000 from by kernel_rfl];omega) (by omega)
theorem Ok.digits{x:Int}{f:ByteArray→Option β}(h0:0≤x)(h1:x≤9007199254740992)(hN:100<N)(h:∀s:ByteArray,s.size≤16→Ok (f s) Q):Ok ((qCo N x).bind f) Q:=Ok.bind (zIa h0 h1 hN) h
end
def qOw:Nat→Nat
 |0=>8
 |d+1=>3*qOw d+8
def qSa:Nat→Nat
 |0=>22
 |d+1=>3*qSa d+20
theorem zDl:∀d,22≤qSa d
 |0=>jN _
 |d+1=>by have:=zDl d;simp only[qSa];omega
section
variable {N:Nat} {l:List Int}
def qUs(N:Nat)(l:List Int)(E:(List Int×Int)→Int→List ByteArray→Option ((List Int×Int)×ByteArray))(d:Nat)(ps:List ByteArray):Prop:=
 ∀a:Int,0≤a→a+qOw d<2000000000000000000→Ok (E (l,a) (d:Int) ps) fun y=>∃a' s,y=((l,a'),s)∧a≤a'∧a'≤a+qOw d∧s.size≤qSa d
theorem Ok.expr{β:Type}{Q:β→Prop}{E:(List Int×Int)→Int→List ByteArray→Option ((List Int×Int)×ByteArray)}{d:Nat}{ps:List ByteArray}(hE:qUs N l E d ps){a:Int}{f:(List Int×Int)×ByteArray→Option β}(h0:0≤a)(h1:a+qOw d<2000000000000000000)
  (h:∀(a':Int) (s:ByteArray),a≤a'→a'≤a+qOw d→s.size≤qSa d→Ok (f ((l,a'),s)) Q):Ok ((E (l,a) (d:Int) ps).bind f) Q:=
 Ok.bind (hE a h0 h1) fun y hy=>by
  obtain⟨a',s,rfl,g1,g2,g3⟩:=hy
  exact h a' s g1 g2 g3
theorem qXq(d:Nat)(hd:d≤5):qOw d≤10000∧qSa d≤20000:=by
 match d,hd with
 |0,_=>decide
 |1,_=>decide
 |2,_=>decide
 |3,_=>decide
 |4,_=>decide
 |5,_=>decide
set_option maxHeartbeats 4000000 in
theorem zHd{E:(List Int×Int)→Int→List ByteArray→Option ((List Int×Int)×ByteArray)}{d:Nat}{ps:List ByteArray}(hd:d=0)(hps:ps.length<1000)(hps2:∀x∈ps,x.size≤12)(hN:100<N):qUs N l (qEj N E) d ps:=by
 subst hd
 intro a h0 h1
 have hc:qOw 0=8:=rfl
 have hz:qSa 0=22:=rfl
 simp only[qEj,hc,hz,qDd,qFl]
 rw[if_pos (show decide (((0:Nat):Int)≤0)=true by decide)]
 repeat' first
  |with_reducible apply Ok.tt
  |with_reducible apply Ok.ff
  |with_reducible apply Ok.ttb
  |with_reducible apply Ok.ffb
  |with_reducible apply Ok.assoc
  |((with_reducible apply Ok.iteb)<;>intro _)
  |((with_reducible apply Ok.ite)<;>intro _)
  |with_reducible apply Ok.someb
  |with_reducible apply Ok.mapb
  |((with_reducible refine Ok.mk ⟨_,_,rfl,?_,?_,?_⟩)<;>omega)
  |((with_reducible refine Ok.next ?_ ?_ ?_ ?_ (fun _ _ _=> ?_))<;>try omega)
  |((with_reducible refine Ok.chance ?_ ?_ ?_ ?_ (fun _=> ?_))<;>try omega)
  |((with_reducible refine Ok.pickS ?_ ?_ (by decide) (fun _ _ _=> ?_))<;>try omega)
  |((with_reducible refine Ok.oneP ?_ ?_ (by assumption) hps hps2 (fun _ _=> ?_))<;>try omega)
  |((with_reducible refine Ok.oneS ?_ ?_ (by decide) (fun _ _=> ?_))<;>try omega)
  |((with_reducible refine Ok.digits ?_ ?_ hN (fun _ _=> ?_))<;>try omega)
  |((with_reducible refine Ok.cat ?_ (fun _ h=> ?_))<;>simp only[qNu,jL,jA,jB,Nat.reduceAdd] at* <;>try omega)
  |((with_reducible refine Ok.cat ?_ (fun _ _=> ?_))<;>try omega)
  |(apply Ok.iteb<;>intro _)
  |dsimp only
 all_goals omega
theorem Ok.pick01{β:Type}{Q:β→Prop}{a:Int}{f:(List Int×Int)×Int→Option β}(h0:0≤a)(h1:a<4611686018427387904)(h:∀x:Int,x=0∨x=1→Ok (f ((l,a+1),x)) Q):Ok ((qCq N (l,a) [0,0,0,1]).bind f) Q:=
 Ok.pick h0 h1 (by decide) (by decide) fun x hx=>h x (by simp at hx;omega)
theorem Ok.exprloop{β:Type}{Q:β→Prop}{E:(List Int×Int)→Int→List ByteArray→Option ((List Int×Int)×ByteArray)}{d:Nat}{ps:List ByteArray}(hE:qUs N l E d ps)(hd:d≤5){p1:Int}(hp:IntKind.wrap .i64 (p1-1)=(d:Int)){s:ByteArray}{n a:Int}{f:ByteArray×List Int×Int→Option β}
  (hn:n=0∨n=1) (h0:0≤a) (h1:a+qOw d<2000000000000000000) (hs:s.size≤100000000) (hN:100<N) (h:∀(s':ByteArray) (a':Int),a≤a'→a'≤a+qOw d→s'.size≤s.size+qSa d+2→Ok (f (s',l,a')) Q):Ok ((qBj (qGl N E p1 ps) N (s,n,l,a)).bind f) Q:=by
 have hsm:=qXq d hd
 refine Ok.loop (fun st=>∃s' n' a',st=(s',n',l,a')∧((n'=n∧a'=a∧s'=s)∨(n'=0∧a≤a'∧a'≤a+qOw d∧s'.size≤s.size+qSa d+2))) (fun st=>st.2.1.toNat) (fun b=>∃s' a',b=(s',l,a')∧a≤a'∧a'≤a+qOw d∧s'.size≤s.size+qSa d+2) ?_ ⟨s,n,a,rfl,.inl ⟨rfl,rfl,rfl⟩⟩ (by simp only;omega) ?_
 ·rintro _ ⟨s',n',a',rfl,hc⟩
  simp only[qGl]
  by_cases hn0:n'>0
  ·rw[if_pos (by simpa using hn0),hp]
   have hc:n'=n∧a'=a∧s'=s:=hc.resolve_right fun h=>by omega
   obtain⟨rfl,rfl,rfl⟩:=hc
   refine Ok.expr hE h0 h1 fun a2 t g1 g2 g3=> ?_
   refine Ok.cat (by simp only[qNu,jL,jA,jB,Nat.reduceAdd];omega) fun u hu=> ?_
   simp only[qNu,jL,jA,jB,Nat.reduceAdd] at hu
   refine Ok.cat (by omega) fun v hv=> ?_
   refine Ok.mk ⟨⟨v,_,a2,rfl,.inr ⟨by rw[wi64 (by omega) (by omega)];omega,g1,g2,by omega⟩⟩,?_⟩
   simp only
   rw[wi64 (by omega) (by omega)]
   omega
  ·rw[if_neg (by simpa using hn0)]
   refine Ok.mk ⟨s',a',rfl,?_⟩
   rcases hc with ⟨_,rfl,rfl⟩|⟨_,g1,g2,g3⟩
   ·omega
   ·exact⟨g1,g2,g3⟩
 ·rintro _ ⟨s',a',rfl,g1,g2,g3⟩
  exact h s' a' g1 g2 g3
set_option maxHeartbeats 8000000 in
theorem zFt{E:(List Int×Int)→Int→List ByteArray→Option ((List Int×Int)×ByteArray)}{d:Nat}{ps:List ByteArray}(hE:qUs N l E d ps)(hd:d≤4)(hps:ps.length<1000)(hps2:∀x∈ps,x.size≤12)(hN:100<N):qUs N l (qEj N E) (d+1) ps:=by
 intro a h0 h1
 have hc:qOw (d+1)=3*qOw d+8:=rfl
 have hz:qSa (d+1)=3*qSa d+20:=rfl
 have hge:=zDl d
 have hsm:=qXq d (by omega)
 have hw:IntKind.wrap .i64 (((d+1:Nat):Int)-1)=(d:Int):=by rw[wi64 (by omega) (by omega)];omega
 simp only[qEj,hc,hz,qDd,qFl,qEc,hw]
 repeat' first
  |with_reducible apply Ok.tt
  |with_reducible apply Ok.ff
  |with_reducible apply Ok.ttb
  |with_reducible apply Ok.ffb
  |with_reducible apply Ok.assoc
  |((with_reducible apply Ok.iteb)<;>intro _)
  |((with_reducible apply Ok.ite)<;>intro _)
  |with_reducible apply Ok.someb
  |with_reducible apply Ok.mapb
  |((with_reducible refine Ok.mk ⟨_,_,rfl,?_,?_,?_⟩)<;>omega)
  |((with_reducible refine Ok.next ?_ ?_ ?_ ?_ (fun _ _ _=> ?_))<;>try omega)
  |((with_reducible refine Ok.chance ?_ ?_ ?_ ?_ (fun _=> ?_))<;>try omega)
  |((with_reducible refine Ok.pick01 ?_ ?_ (fun _ _=> ?_))<;>try omega)
  |((with_reducible refine Ok.exprloop hE (by omega) hw (by assumption) ?_ ?_ ?_ hN (fun _ _ _ _ _=> ?_))<;>try omega)
  |((with_reducible refine Ok.expr hE ?_ ?_ (fun _ _ _ _ _=> ?_))<;>try omega)
  |((with_reducible refine Ok.pickS ?_ ?_ (by decide) (fun _ _ _=> ?_))<;>try omega)
  |((with_reducible refine Ok.oneP ?_ ?_ (by assumption) hps hps2 (fun _ _=> ?_))<;>try omega)
  |((with_reducible refine Ok.oneS ?_ ?_ (by decide) (fun _ _=> ?_))<;>try omega)
  |((with_reducible refine Ok.digits ?_ ?_ hN (fun _ _=> ?_))<;>try omega)
  |((with_reducible refine Ok.cat ?_ (fun _ h=> ?_))<;>simp only[qNu,jL,jA,jB,Nat.reduceAdd] at* <;>try omega)
  |((with_reducible refine Ok.cat ?_ (fun _ _=> ?_))<;>try omega)
  |(apply Ok.iteb<;>intro _)
  |dsimp only
 all_goals omega
theorem zKl:∀(d D:Nat) (ps:List ByteArray),d<D→d≤5→ps.length<1000→(∀x∈ps,x.size≤12)→100<N→qUs N l (qGs N D) d ps
 |_,0,_,h,_,_,_,_=>absurd h (kX _)
 |0,D+1,ps,_,_,h1,h2,hN=>zHd (E:=qGs N D) rfl h1 h2 hN
 |d+1,D+1,ps,h,hd,h1,h2,hN=>zFt (zKl d D ps (by omega) (by omega) h1 h2 hN) (by omega) h1 h2 hN
theorem zGw{d:Nat}{ps:List ByteArray}(hd:d≤5)(h1:ps.length<1000)(h2:∀x∈ps,x.size≤12)(hN:100<N):qUs N l (qFo N) d ps:=zKl d N ps (by omega) hd h1 h2 hN
theorem Ok.expr3{β:Type}{Q:β→Prop}{ps:List ByteArray}{a:Int}{f:(List Int×Int)×ByteArray→Option β}(hN:100<N)(h0:0≤a)(h1:a+10000<2000000000000000000)(hps:ps.length≤2∧∀x∈ps,x.size≤12)
  (h:∀(a':Int) (s:ByteArray),a≤a'→a'≤a+10000→s.size≤854→Ok (f ((l,a'),s)) Q):Ok ((qFo N (l,a) 3 ps).bind f) Q:=
 Ok.expr (d:=3) (zGw (by omega) (by omega) hps.2 hN) h0 (by have:qOw 3=320:=rfl;have:qOw 2=104:=rfl;omega) fun a' s g1 g2 g3=>h a' s g1 (by have:qOw 3=320:=rfl;omega) (by have:qSa 3=854:=rfl;omega)
theorem Ok.expr2{β:Type}{Q:β→Prop}{ps:List ByteArray}{a:Int}{f:(List Int×Int)×ByteArray→Option β}(hN:100<N)(h0:0≤a)(h1:a+10000<2000000000000000000)(hps:ps.length≤2∧∀x∈ps,x.size≤12)
  (h:∀(a':Int) (s:ByteArray),a≤a'→a'≤a+10000→s.size≤854→Ok (f ((l,a'),s)) Q):Ok ((qFo N (l,a) 2 ps).bind f) Q:=
 Ok.expr (d:=2) (zGw (by omega) (by omega) hps.2 hN) h0 (by have:qOw 3=320:=rfl;have:qOw 2=104:=rfl;omega) fun a' s g1 g2 g3=>h a' s g1 (by have:qOw 2=104:=rfl;omega) (by have:qSa 2=278:=rfl;omega)
set_option maxHeartbeats 8000000 in
theorem zLr{a:Int}(hN:100<N)(h0:0≤a)(h1:a<1000000000000000000):Ok (qFq N (l,a)) fun y=>∃a' s,y=((l,a'),s)∧a≤a'∧a'≤a+10010∧s.size≤890:=by
 simp only[qFq,qIx,qDd,qEc]
 repeat' first
  |with_reducible apply Ok.tt
  |with_reducible apply Ok.ff
  |with_reducible apply Ok.ttb
  |with_reducible apply Ok.ffb
  |with_reducible apply Ok.assoc
  |((with_reducible apply Ok.iteb)<;>intro _)
  |((with_reducible apply Ok.ite)<;>intro _)
  |with_reducible apply Ok.someb
  |with_reducible apply Ok.mapb
  |((with_reducible refine Ok.mk ⟨_,_,rfl,?_,?_,?_⟩)<;>omega)
  |((with_reducible refine Ok.next ?_ ?_ ?_ ?_ (fun _ _ _=> ?_))<;>try omega)
  |((with_reducible refine Ok.chance ?_ ?_ ?_ ?_ (fun _=> ?_))<;>try omega)
  |((with_reducible refine Ok.expr3 hN ?_ ?_ ?_ (fun _ _ _ _ _=> ?_))<;>first|omega|exact⟨by decide,by decide⟩|skip)
  |((with_reducible refine Ok.expr2 hN ?_ ?_ ?_ (fun _ _ _ _ _=> ?_))<;>first|omega|exact⟨by decide,by decide⟩|skip)
  |(with_reducible refine Ok.app (by simp) (by decide) ?_)
  |((with_reducible refine Ok.pickS ?_ ?_ (by decide) (fun _ _ _=> ?_))<;>try omega)
  |((with_reducible refine Ok.oneS ?_ ?_ (by decide) (fun _ _=> ?_))<;>try omega)
  |((with_reducible refine Ok.digits ?_ ?_ hN (fun _ _=> ?_))<;>try omega)
  |((with_reducible refine Ok.cat ?_ (fun _ h=> ?_))<;>simp only[qNu,jL,jA,jB,Nat.reduceAdd] at* <;>try omega)
  |((with_reducible refine Ok.cat ?_ (fun _ _=> ?_))<;>try omega)
  |(apply Ok.iteb<;>intro _)
  |dsimp only
 all_goals omega
theorem Has_ok{L:List ByteArray}{x:ByteArray}(hL:L.length<1000000)(hN:L.length<N):Ok (qGj N L x) fun _=>True:=by
 unfold qGj
 refine Ok.loop (fun st=>∃j:Nat,st=(j:Int)∧j≤L.length) (fun st=>L.length-st.toNat) (fun _=>True) ?_ ⟨0,rfl,kG _⟩ (by show L.length-(0:Int).toNat<N;omega) ?_
 ·rintro _ ⟨j,rfl,hj⟩
  simp only[qIl]
  by_cases h:j<L.length
  ·rw[if_pos (by simpa using h),qDs h]
   simp only[j0]
   refine Ok.ite (fun _=>Ok.mk trivial) fun _=>Ok.mk ⟨⟨j+1,by rw[wi64 (by omega) (by omega)];omega,by omega⟩,?_⟩
   rw[wi64 (by omega) (by omega)];omega
  ·rw[if_neg (by simpa using h)];exact Ok.mk trivial
 ·intro b _
  cases b<;>exact Ok.mk trivial
theorem Ok.has{β:Type}{Q:β→Prop}{L:List ByteArray}{x:ByteArray}{f:Bool→Option β}(hL:L.length<1000000)(hN:L.length<N)(h:∀b,Ok (f b) Q):Ok ((qGj N L x).bind f) Q:=Ok.bind (Has_ok hL hN) fun b _=>h b
theorem Ok.decl{β:Type}{Q:β→Prop}{a:Int}{f:(List Int×Int)×ByteArray→Option β}(hN:100<N)(h0:0≤a)(h1:a<1000000000000000000)
  (h:∀(a':Int) (s:ByteArray),a≤a'→a'≤a+10010→s.size≤890→Ok (f ((l,a'),s)) Q):Ok ((qFq N (l,a)).bind f) Q:=
 Ok.bind (zLr hN h0 h1) fun y hy=>by
  obtain⟨a',s,rfl,g1,g2,g3⟩:=hy
  exact h a' s g1 g2 g3
theorem zLh{β:Type}{Q:β→Prop}{y:(List Int×Int)×ByteArray}{f:ByteArray→Option β}(hs:y.2.size≤890)(hN:3000<N)(h:∀s:ByteArray,Ok (f s) Q):Ok ((qBj (qFj N y) N (y.2,0)).bind f) Q:=by
 refine Ok.loop (fun st=>∃j:Nat,st.2=(j:Int)∧j≤y.2.size) (fun st=>y.2.size-st.2.toNat) (fun _=>True) ?_ ⟨0,rfl,kG _⟩ (by simp only;omega) (fun b _=>h b)
 rintro⟨s,_⟩ ⟨j,rfl,hj⟩
 simp only[qFj]
 by_cases hlt:j<y.2.size
 ·rw[if_pos (by simpa using hlt),qXs hlt]
  simp only[j0]
  refine Ok.bind (P:=fun _=>True) (Ok.ite (fun _=>Ok.mk trivial) fun _=>Ok.mk trivial) fun b _=> ?_
  refine Ok.ite (fun _=> ?_) fun _=> ?_
  ·rw[qQa (by omega) (by omega) (by omega)];exact Ok.mk trivial
  ·refine Ok.mk ⟨⟨j+1,by simp only;rw[wi64 (by omega) (by omega)];omega,by omega⟩,?_⟩
   simp only;rw[wi64 (by omega) (by omega)];omega
 ·rw[if_neg (by simpa using hlt)];exact Ok.mk trivial
theorem qUz{a:Int}{pk:ByteArray}(hN:3000<N)(h0:0≤a)(h1:a<100000000000000000)(hp:pk.size≤12):Ok (qDk N (l,a) pk) fun y=>∃a' s,y=((l,a'),s)∧a≤a'∧a'≤a+100000∧s.size≤4700:=by
 simp only[qDk]
 refine Ok.cat (by simp only[qNu,jL,jA,jB,Nat.reduceAdd];omega) fun s1 e1=> ?_
 simp only[qNu,jL,jA,jB,Nat.reduceAdd] at e1
 refine Ok.cat (by simp only[qNu,jL,jA,jB,Nat.reduceAdd];omega) fun s2 e2=> ?_
 simp only[qNu,jL,jA,jB,Nat.reduceAdd] at e2
 refine Ok.chance h0 (by omega) (by omega) (by omega) fun c=> ?_
 refine Ok.bind (P:=fun s:ByteArray=>s.size≤60) (Ok.ite (fun _=>Ok.cat (by simp only[qNu,jL,jA,jB,Nat.reduceAdd];omega) fun s3 e3=>Ok.mk (by simp only[qNu,jL,jA,jB,Nat.reduceAdd] at e3;omega)) fun _=>Ok.mk (by omega)) fun o1 e3=> ?_
 dsimp only
 refine Ok.next (by omega) (by omega) (by omega) (by omega) fun r g1 g2=> ?_
 dsimp only
 -- imports
 refine Ok.loop (fun st=>∃s L n a',st=(s,L,n,l,a')∧0≤n∧n≤2∧(L.length:Int)+n≤2∧(s.size:Int)≤60+30*(2-n)∧a≤a'∧a'≤a+10+(2-n)) (fun st=>st.2.2.1.toNat) (fun b=>∃s a',b=(s,l,a')∧s.size≤120∧a≤a'∧a'≤a+20) ?_ ⟨o1,[],r,a+1+1,rfl,g1,by omega,by simp only[jB];omega,by omega,by omega,by omega⟩ (by simp only;omega) ?_
 ·rintro _ ⟨s,L,n,a',rfl,k1,k2,k3,k4,k5,k6⟩
  simp only[qGv,qCw]
  by_cases hn:n>0
  ·rw[if_pos (by simpa using hn)]
   refine Ok.assoc (Ok.someb ?_)
   refine Ok.assoc (Ok.oneS (by omega) (by omega) (by decide) fun x hx=> ?_)
   dsimp only
   refine Ok.assoc (Ok.bind (P:=fun _=>True) (Ok.ite (fun _=>Ok.has (by omega) (by omega) fun b=>Ok.mk trivial) fun _=>Ok.mk trivial) fun o4 _=> ?_)
   refine Ok.iteb (fun _=> ?_) fun _=> ?_
   ·refine Ok.assoc (Ok.app (by simp only[jA,jB];omega) (by decide) ?_)
    refine Ok.assoc (Ok.cat (by simp only[qNu,jL,jA,jB,Nat.reduceAdd];omega) fun t1 f1=> ?_)
    simp only[qNu,jL,jA,jB,Nat.reduceAdd] at f1
    refine Ok.assoc (Ok.cat (by simp only[qNu,jL,jA,jB,Nat.reduceAdd];omega) fun t2 f2=> ?_)
    simp only[qNu,jL,jA,jB,Nat.reduceAdd] at f2
    refine Ok.assoc (Ok.cat (by omega) fun t3 f3=>Ok.someb (Ok.mk ?_))
    dsimp only
    rw[wi64 (by omega) (by omega)]
    exact⟨⟨t3,_,_,_,rfl,by omega,by omega,by simp only[jJ,jA,jB];omega,by omega,by omega,by omega⟩,by omega⟩
   ·refine Ok.someb (Ok.mk ?_)
    dsimp only
    rw[wi64 (by omega) (by omega)]
    exact⟨⟨s,_,_,_,rfl,by omega,by omega,by omega,by omega,by omega,by omega⟩,by omega⟩
  ·rw[if_neg (by simpa using hn)]
   exact Ok.mk ⟨s,a',rfl,by omega,k5,by omega⟩
 rintro _ ⟨s,b1,rfl,q1,q2,q3⟩
 dsimp only
 refine Ok.next (by omega) (by omega) (by omega) (by omega) fun r2 g3 g4=> ?_
 dsimp only
 -- declarations
 refine Ok.loop (fun st=>∃s L n a',st=(s,L,n,l,a')∧0≤n∧n≤5∧(L.length:Int)+n≤5∧(s.size:Int)≤120+890*(5-n)∧a≤a'∧a'≤a+100+10020*(5-n)) (fun st=>st.2.2.1.toNat) (fun b=>∃s a',b=(s,l,a')∧s.size≤4580∧a≤a'∧a'≤a+60000) ?_ ⟨s,[],_,b1+1,rfl,by rw[wi64 (by omega) (by omega)];omega,by rw[wi64 (by omega) (by omega)];omega,by rw[wi64 (by omega) (by omega)];simp only[jB];omega,by rw[wi64 (by omega) (by omega)];omega,by omega,by rw[wi64 (by omega) (by omega)];omega⟩ (by simp only;rw[wi64 (by omega) (by omega)];omega) ?_
 ·rintro _ ⟨s,L,n,a',rfl,k1,k2,k3,k4,k5,k6⟩
  simp only[qGx]
  by_cases hn:n>0
  ·rw[if_pos (by simpa using hn)]
   refine Ok.assoc (Ok.decl (by omega) (by omega) (by omega) fun a2 d v1 v2 v3=> ?_)
   refine Ok.assoc (zLh (y:=((l,a2),d)) v3 hN fun hd=> ?_)
   dsimp only
   refine Ok.assoc (Ok.bind (P:=fun o:Bool×List Int×Int=>o.2.1=l∧a2≤o.2.2∧o.2.2≤a2+1) (Ok.has (by omega) (by omega) fun b=>Ok.ite (fun _=>Ok.mk ⟨rfl,by simp only;omega,by simp only;omega⟩) fun _=>Ok.chance (by omega) (by omega) (by omega) (by omega) fun c=>Ok.mk ⟨rfl,by simp only;omega,by simp only;omega⟩) fun o9 h9=> ?_)
   obtain⟨b9,l9,a9⟩:=o9
   obtain⟨rfl,w1,w2⟩:=h9
   dsimp only at w1 w2 ⊢
   refine Ok.iteb (fun _=> ?_) fun _=> ?_
   ·refine Ok.assoc (Ok.app (by simp only[jA,jB];omega) (by decide) ?_)
    refine Ok.assoc (Ok.cat (by omega) fun t3 f3=>Ok.someb (Ok.mk ?_))
    dsimp only
    rw[wi64 (by omega) (by omega)]
    exact⟨⟨t3,_,_,_,rfl,by omega,by omega,by simp only[jJ,jA,jB];omega,by omega,by omega,by omega⟩,by omega⟩
   ·refine Ok.someb (Ok.mk ?_)
    dsimp only
    rw[wi64 (by omega) (by omega)]
    exact⟨⟨s,_,_,_,rfl,by omega,by omega,by omega,by omega,by omega,by omega⟩,by omega⟩
  ·rw[if_neg (by simpa using hn)]
   exact Ok.mk ⟨s,a',rfl,by omega,k5,by omega⟩
 rintro _ ⟨s,b2,rfl,u1,u2,u3⟩
 dsimp only
 refine Ok.chance (by omega) (by omega) (by omega) (by omega) fun c=> ?_
 dsimp only
 refine Ok.iteb (fun _=> ?_) fun _=> ?_
 ·refine Ok.assoc (Ok.oneS (by omega) (by omega) (by decide) fun x hx=> ?_)
  dsimp only
  refine Ok.assoc (Ok.cat (by omega) fun t f1=>Ok.someb (Ok.mk ?_))
  dsimp only
  refine⟨_,_,rfl,?_,?_,?_⟩<;>omega
 ·refine Ok.someb (Ok.mk ?_)
  dsimp only
  refine⟨_,_,rfl,?_,?_,?_⟩<;>omega
end
end
section
open Go Go.Dc
theorem qMu{N:Nat}{L:List File}{p b:ByteArray}(hl:L.length<1000000)(ha:Asc L):∀(d i M:Nat) (done:Bool) (acc:List File),i+d=L.length→d<M→acc.length≤i+done.toNat→(done=true→∀f∈L.drop i,f.1≠p)→
  Ok (qBj (qEe N L (p,b)) M (done,(i:Int),acc)) fun o=>o.2.length≤L.length+1∧(if o.1=true then o.2 else o.2++[(p,b)])=acc++(if done=true then L.drop i else fput (L.drop i) p b)
 |_,_,0,_,_,_,h,_,_=>by omega
 |0,i,M+1,done,acc,hd,_,hacc,_=>by
  refine⟨(done,acc),?_,by simp only;cases done<;>simp only[Bool.toNat_true,Bool.toNat_false] at hacc<;>omega,?_⟩
  ·simp only[qBj,qEe]
   rw[if_neg (by simp only[j9];omega)]
   rfl
  ·rw[k8 (by omega)]
   cases done<;>simp[fput]
 |d+1,i,M+1,done,acc,hd,hM,hacc,hno=>by
  have hi:i<L.length:=by omega
  have e1:(i:Int)+1=((i+1:Nat):Int):=by omega
  have hgt:∀f∈L.drop (i+1),blt (L[i]).1 f.1=true:=by
   have:=(jQ.1 (by rw[←jV hi];exact List.Pairwise.sublist (List.drop_sublist _ _) ha:Asc (L[i]::L.drop (i+1)))).1
   exact this
  simp only[qBj,qEe]
  rw[if_pos (by simp only[j9];omega),qDs hi,wi64 (by omega) (by omega),e1]
  rw[jV hi] at hno ⊢
  simp only[j0,eqB]
  cases done with
  |true=>
   simp only[Bool.toNat_true] at hacc
   have hne:=hno rfl _ (jI ..)
   have ih:=qMu (N:=N) (p:=p) (b:=b) hl ha d (i+1) M true (acc++[((L[i]).1,(L[i]).2)]) (by omega) (by omega) (by simp;omega) (fun h f hf=>hno rfl f (jK _ hf))
   simp only[gD,jC,jP,j0]
   rw[if_pos (by simp[hne]),qCr (by simp only[jA,jB];omega) (by omega)]
   simp only[j0]
   refine ih.mono fun o ho=>⟨ho.1,?_⟩
   rw[ho.2];simp only[jR,fD,gW,k0]
  |false=>
   simp only[Bool.toNat_false] at hacc
   simp only[gM,jR,j0]
   rcases qMj p (L[i]).1 with h|h|h
   ·have h':Op.bytesLess p.toList (L[i]).1.toList=true:=h
    have hne:(L[i]).1≠p:=fun e=>qWl h e.symm
    have ih:=qMu (N:=N) (p:=p) (b:=b) hl ha d (i+1) M true ((acc++[(p,b)])++[((L[i]).1,(L[i]).2)]) (by omega) (by omega) (by simp;omega) (fun _ f hf e=>by
     have:=qJy h (hgt f hf);rw[e,qKi] at this;cases this)
    rw[h',Bool.true_or,if_pos rfl,qCr (by simp only[jA,jB];omega) (by omega)]
    simp only[j0]
    rw[if_pos (by simp[hne]),qCr (by simp only[jJ,jA,jB];omega) (by omega)]
    simp only[j0]
    refine ih.mono fun o ho=>⟨ho.1,?_⟩
    have g3:fput (L[i]::L.drop (i+1)) p b=(p,b)::L[i]::L.drop (i+1):=by rw[fput,if_pos h]
    rw[ho.2,g3];simp only[jR,fD,gW,k0,jC,jP]
   ·have ih:=qMu (N:=N) (p:=p) (b:=b) hl ha d (i+1) M true (acc++[(p,b)]) (by omega) (by omega) (by simp;omega) (fun _ f hf e=>by
     have:=hgt f hf;rw[←h,e,qKi] at this;cases this)
    rw[k9 h,Bool.or_true,if_pos rfl,qCr (by simp only[jA,jB];omega) (by omega)]
    simp only[j0]
    rw[if_neg (by simp[h])]
    simp only[j0]
    refine ih.mono fun o ho=>⟨ho.1,?_⟩
    have g3:fput (L[i]::L.drop (i+1)) p b=(p,b)::L.drop (i+1):=by rw[fput,if_neg (by rw[h,qKi];simp),if_pos h.symm]
    rw[ho.2,g3];simp only[jR,fD,gW,k0,jC,jP]
   ·have hne:(L[i]).1≠p:=qWl h
    have h':Op.bytesLess p.toList (L[i]).1.toList=false:=qZk h
    have ih:=qMu (N:=N) (p:=p) (b:=b) hl ha d (i+1) M false (acc++[((L[i]).1,(L[i]).2)]) (by omega) (by omega) (by simp;omega) (fun h=>by cases h)
    rw[h',kJ (fun e=>hne e.symm),Bool.or_false,if_neg (by simp)]
    simp only[j0]
    rw[if_pos (by simp[hne]),qCr (by simp only[jA,jB];omega) (by omega)]
    simp only[j0]
    refine ih.mono fun o ho=>⟨ho.1,?_⟩
    have g3:fput (L[i]::L.drop (i+1)) p b=L[i]::fput (L.drop (i+1)) p b:=by rw[fput,if_neg (by rw[show blt p (L[i]).1=false from h'];simp),if_neg hne]
    rw[ho.2,g3];simp only[fD,gW,k0,jC,jP]
theorem qKp{N:Nat}{L:List File}(p b:ByteArray)(hl:L.length<1000000)(ha:Asc L)(hN:L.length<N):qBv N L (p,b)=some (fput L p b):=by
 obtain⟨o,h1,h2,h3⟩:=qMu (N:=N) (p:=p) (b:=b) hl ha L.length 0 N false [] (by omega) hN (by simp) (fun h=>by cases h)
 simp only[qBv]
 rw[show((0:Nat):Int)=0 from rfl] at h1
 rw[h1]
 simp only[kI,k0,jC,jP] at h3
 simp only[j0]
 cases ho:o.1 with
 |true=>rw[ho] at h3;simp only[jR] at h3;simp[h3]
 |false=>
  rw[ho] at h3
  simp only[jC,jP] at h3
  simp only[gM,jR]
  rw[qCr (by simp only[jA,jB];omega) (by omega),h3]
  rfl
def srcL:List ByteArray:=[(⟨#[97,46,115,114,99]⟩:ByteArray),(⟨#[98,46,115,114,99]⟩:ByteArray),(⟨#[100,47,99,46,115,114,99]⟩:ByteArray),(⟨#[120,46,115,114,99]⟩:ByteArray)]
def datL:List ByteArray:=[(⟨#[97,46,100,97,116]⟩:ByteArray),(⟨#[100,47,98,46,100,97,116]⟩:ByteArray),(⟨#[99]⟩:ByteArray)]
theorem zHw:(srcL.all fun p=>qJb p.data.toList)=true:=by kernel_rfl
theorem zHp:(datL.all fun p=>qJb p.data.toList)=true:=by kernel_rfl
def Made(L:List File):Prop:=Asc L∧∀f∈L,f.1∈srcL++datL∧f.2.size≤4700
theorem Made.put{L:List File}(h:Made L){p b:ByteArray}(hp:p∈srcL++datL)(hb:b.size≤4700):Made (fput L p b):=
 ⟨h.1.put p b,fun f hf=>by
  rcases qTu hf with rfl|hf
  ·exact⟨hp,hb⟩
  ·exact h.2 f hf⟩
theorem Made.path{L:List File}(h:Made L){f:File}(hf:f∈L):qJb f.1.data.toList=true:=by
 rcases fC.1 (h.2 f hf).1 with h|h
 ·exact jS.1 zHw _ h
 ·exact jS.1 zHp _ h
theorem zIw{N:Nat}{y1:List ByteArray}{s1:Int×(List (ByteArray×ByteArray))×List (Int)×Int}:qEo N y1 s1=
 if(decide (s1.1<(List.length y1:Int)))=true then(((idx y1 s1.1).bind fun x1=>(qBl N (s1.2.2.1,s1.2.2.2) 3 4).bind fun y2=>if y2.2=true then((qCw N).bind fun y3=>(qAv N (y2.1.1,y2.1.2) y3).bind fun y4=>(qDk N (y4.1.1,y4.1.2) y4.2).bind fun y5=>(qBv N s1.2.1 (x1,y5.2)).bind fun y6=>some (y6,y5.1.1,y5.1.2)) else(some (s1.2.1,y2.1.1,y2.1.2)):Option ((List (ByteArray×ByteArray))×List (Int)×Int)).bind fun o2=>some (.inl (IntKind.wrap .i64 (s1.1+1),o2.1,o2.2.1,o2.2.2))) else(some (.inr (s1.2.1,s1.2.2.1,s1.2.2.2))):=rfl
theorem zJx{N:Nat}{s2:Int×(List (ByteArray×ByteArray))×List (Int)×Int}:qGg N s2=
 if(decide (s2.1<(List.length datL:Int)))=true then(((idx datL s2.1).bind fun x2=>(qBl N (s2.2.2.1,s2.2.2.2) 1 3).bind fun y7=>if y7.2=true then((qFr N (y7.1.1,y7.1.2)).bind fun y8=>(qBv N s2.2.1 (x2,y8.2)).bind fun y9=>some (y9,y8.1.1,y8.1.2)) else(some (s2.2.1,y7.1.1,y7.1.2)):Option ((List (ByteArray×ByteArray))×List (Int)×Int)).bind fun o4=>some (.inl (IntKind.wrap .i64 (s2.1+1),o4.1,o4.2.1,o4.2.2))) else(some (.inr (s2.2.1,s2.2.2.1,s2.2.2.2))):=rfl
theorem zEf(l:List UInt8):(qOs l).size=l.length:=by simp[qOs,ByteArray.size]
theorem zHi{N:Nat}{l:List Int}{a:Int}(hN:100<N)(h0:0≤a)(h1:a<1000000000000000000):Ok (qFr N (l,a)) fun y=>∃a' s,y=((l,a'),s)∧a≤a'∧a'≤a+10∧s.size≤10:=by
 simp only[qFr]
 refine Ok.next (by omega) (by omega) (by omega) (by omega) fun r g1 g2=> ?_
 dsimp only
 simp only[qGy]
 refine Ok.assoc ?_
 refine Ok.loop (fun st=>∃L n a',st=(L,n,l,a')∧0≤n∧n≤r∧(L.length:Int)=n∧a≤a'∧a'≤a+1+n) (fun st=>(r-st.2.1).toNat) (fun b=>∃L a',b=(L,l,a')∧L.length≤4∧a≤a'∧a'≤a+5) ?_ ⟨[],0,a+1,rfl,by omega,by omega,rfl,by omega,by omega⟩ (by dsimp only;omega) ?_
 ·rintro _ ⟨L,n,a',rfl,k1,k2,k3,k4,k5⟩
  have h5:ByteArray.size (⟨#[97,98,0,255,48]⟩:ByteArray)=5:=rfl
  simp only[qFw,h5]
  by_cases hn:n<r
  ·rw[if_pos (by simpa using hn)]
   refine Ok.next (by omega) (by omega) (by omega) (by omega) fun q v1 v2=> ?_
   dsimp only
   have hq:q.toNat<ByteArray.size (⟨#[97,98,0,255,48]⟩:ByteArray):=by rw[h5];omega
   have hx:idxB (⟨#[97,98,0,255,48]⟩:ByteArray) q=some ((⟨#[97,98,0,255,48]⟩:ByteArray)[q.toNat]):=by
    have:=qXs hq
    rw[Int.toNat_of_nonneg v1] at this
    exact this
   rw[hx]
   refine Ok.someb (Ok.app (by simp only[jA,jB];omega) (by decide) (Ok.mk ?_))
   dsimp only
   rw[wi64 (by omega) (by omega)]
   exact⟨⟨_,_,_,rfl,by omega,by omega,by simp only[jJ,jA,jB];omega,by omega,by omega⟩,by omega⟩
  ·rw[if_neg (by simpa using hn)]
   exact Ok.mk ⟨L,a',rfl,by omega,by omega,by omega⟩
 ·rintro _ ⟨L,a',rfl,v1,v2,v3⟩
  refine Ok.someb (Ok.mk ?_)
  dsimp only
  refine⟨_,_,rfl,?_,?_,?_⟩
  ·omega
  ·omega
  ·rw[zEf];omega
theorem zBz{N:Nat}{l:List Int}{a:Int}(hN:3000<N)(h0:0≤a)(h1:a<10000000000000000):Ok (qGb N (l,a)) fun y=>∃a' L,y=((l,a'),L)∧a≤a'∧a'≤a+1000000∧Made L∧L.length≤7:=by
 simp only[qGb,qFb]
 refine Ok.someb ?_
 show Ok ((qBj (qEo N srcL) N (0,[],l,a)).bind _) _
 refine Ok.loop (fun st=>∃(n:Nat) (L:List File) (a':Int),st=((n:Int),L,l,a')∧n≤4∧L.length≤n∧Made L∧a≤a'∧a'≤a+100010*n) (fun st=>4-st.1.toNat) (fun b=>∃L a',b=(L,l,a')∧L.length≤4∧Made L∧a≤a'∧a'≤a+500000) ?_ ⟨0,[],a,rfl,by omega,by simp,⟨List.Pairwise.nil,by simp⟩,by omega,by omega⟩ (by dsimp only;omega) ?_
 ·rintro _ ⟨n,L,a',rfl,k1,k2,k3,k4,k5⟩
  rw[zIw]
  have hlen:srcL.length=4:=rfl
  dsimp only
  by_cases hn:n<4
  ·rw[if_pos (by simp only[j9,hlen];omega),qDs (l:=srcL) (by omega)]
   refine Ok.assoc (Ok.someb ?_)
   refine Ok.assoc (Ok.chance (by omega) (by omega) (by omega) (by omega) fun c=> ?_)
   dsimp only
   refine Ok.iteb (fun _=> ?_) fun _=> ?_
   ·refine Ok.assoc (Ok.someb ?_)
    refine Ok.assoc (Ok.oneS (by omega) (by omega) (by decide) fun x hx=> ?_)
    dsimp only
    refine Ok.assoc (Ok.bind (qUz hN (by omega) (by omega) hx) ?_)
    rintro _ ⟨a2,s,rfl,v1,v2,v3⟩
    dsimp only
    rw[qKp _ _ (by omega) k3.1 (by omega)]
    refine Ok.assoc (Ok.someb (Ok.someb (Ok.mk ?_)))
    dsimp only
    have hf:=qOt L (srcL[n]) s
    refine⟨⟨n+1,_,_,by rw[wi64 (by omega) (by omega)];rfl,by omega,by omega,k3.put (kS _ (jX _)) v3,by omega,by omega⟩,?_⟩
    rw[wi64 (by omega) (by omega)];omega
   ·refine Ok.someb (Ok.mk ?_)
    dsimp only
    refine⟨⟨n+1,_,_,by rw[wi64 (by omega) (by omega)];rfl,by omega,by omega,k3,by omega,by omega⟩,?_⟩
    rw[wi64 (by omega) (by omega)];omega
  ·rw[if_neg (by simp only[j9,hlen];omega)]
   exact Ok.mk ⟨L,a',rfl,by omega,k3,by omega,by omega⟩
 rintro _ ⟨L1,a1,rfl,u1,u2,u3,u4⟩
 dsimp only
 refine Ok.loop (fun st=>∃(n:Nat) (L:List File) (a':Int),st=((n:Int),L,l,a')∧n≤3∧L.length≤4+n∧Made L∧a≤a'∧a'≤a+500000+20*n) (fun st=>3-st.1.toNat) (fun b=>∃L a',b=(L,l,a')∧L.length≤7∧Made L∧a≤a'∧a'≤a+600000) ?_ ⟨0,L1,a1,rfl,by omega,by omega,u2,by omega,by omega⟩ (by dsimp only;omega) ?_
 ·rintro _ ⟨n,L,a',rfl,k1,k2,k3,k4,k5⟩
  rw[zJx]
  have hlen:datL.length=3:=rfl
  dsimp only
  by_cases hn:n<3
  ·rw[if_pos (by simp only[j9,hlen];omega),qDs (l:=datL) (by omega)]
   refine Ok.assoc (Ok.someb ?_)
   refine Ok.assoc (Ok.chance (by omega) (by omega) (by omega) (by omega) fun c=> ?_)
   dsimp only
   refine Ok.iteb (fun _=> ?_) fun _=> ?_
   ·refine Ok.assoc (Ok.bind (zHi (by omega) (by omega) (by omega)) ?_)
    rintro _ ⟨a2,s,rfl,v1,v2,v3⟩
    dsimp only
    rw[qKp _ _ (by omega) k3.1 (by omega)]
    refine Ok.assoc (Ok.someb (Ok.someb (Ok.mk ?_)))
    dsimp only
    have hf:=qOt L (datL[n]) s
    refine⟨⟨n+1,_,_,by rw[wi64 (by omega) (by omega)];rfl,by omega,by omega,k3.put (List.mem_append_right _ (jX _)) (by omega),by omega,by omega⟩,?_⟩
    rw[wi64 (by omega) (by omega)];omega
   ·refine Ok.someb (Ok.mk ?_)
    dsimp only
    refine⟨⟨n+1,_,_,by rw[wi64 (by omega) (by omega)];rfl,by omega,by omega,k3,by omega,by omega⟩,?_⟩
    rw[wi64 (by omega) (by omega)];omega
  ·rw[if_neg (by simp only[j9,hlen];omega)]
   exact Ok.mk ⟨L,a',rfl,by omega,k3,by omega,by omega⟩
 rintro _ ⟨L2,a2,rfl,w1,w2,w3,w4⟩
 refine Ok.mk ?_
 exact⟨a2,L2,rfl,by omega,by omega,w2,w1⟩
theorem Made.wf{L:List File}(h:Made L)(hl:L.length≤64):WF L:=⟨hl,h.1,fun f hf=>⟨h.path hf,f0 (h.2 f hf).2 (by decide)⟩⟩
end
section
open Go Go.Dc
def MadeE(K:Nat)(L:List File):Prop:=Asc L∧∀f∈L,qJb f.1.data.toList=true∧f.2.size≤K
theorem Made.e{L:List File}(h:Made L):MadeE 4700 L:=⟨h.1,fun f hf=>⟨h.path hf,(h.2 f hf).2⟩⟩
theorem MadeE.put{K:Nat}{L:List File}(h:MadeE K L){p b:ByteArray}(hp:qJb p.data.toList=true)(hb:b.size≤K):MadeE K (fput L p b):=
 ⟨h.1.put p b,fun f hf=>by
  rcases qTu hf with rfl|hf
  ·exact⟨hp,hb⟩
  ·exact h.2 f hf⟩
theorem MadeE.del{K:Nat}{L:List File}(h:MadeE K L)(p:ByteArray):MadeE K (fdel L p):=⟨h.1.del p,fun f hf=>h.2 f (gN.1 hf).1⟩
theorem MadeE.more{K K':Nat}{L:List File}(h:MadeE K L)(hk:K≤K'):MadeE K' L:=⟨h.1,fun f hf=>⟨(h.2 f hf).1,f0 (h.2 f hf).2 hk⟩⟩
theorem MadeE.wf{K:Nat}{L:List File}(h:MadeE K L)(hk:K≤16384)(hl:L.length≤64):WF L:=⟨hl,h.1,fun f hf=>⟨(h.2 f hf).1,f0 (h.2 f hf).2 hk⟩⟩
theorem zBc{N:Nat}{L:List File}{p:ByteArray}(hl:L.length<1000000)(hN:L.length<N):qFp N L p=some (fdel L p):=by
 have h:=qOf (L:=L) (fun(t:List File) i=>((i:Int),t)) (f:=qEd N L p) (fun t f=>(.inl (if decide (f.1≠p)=true then t++[f] else t):List File⊕List File)) (fun t=>t) (fun i t=>t.length≤i) (fun t i hi ht=>by
   have hc:((i:Int)<(L.length:Int)):=by omega
   have w:IntKind.wrap .i64 ((i:Int)+1)=((i+1:Nat):Int):=by rw[wi64 (by omega) (by omega)];omega
   simp only[qEd,hc,decide_true,jR,qDs hi,j0,w,eqB]
   by_cases hp:L[i].1=p
   ·simp[hp]
   ·simp only[hp,decide_false,gM,jR,ne_eq,not_false_eq_true,decide_true]
    rw[qCr (by simp only[jA,jB];omega) (by decide)]
    rfl) (fun t i hi t' ht hs=>by
   simp only[Sum.inl.injEq] at hs
   subst hs
   split
   ·simp only[jJ,jA,jB];omega
   ·omega) (fun t _=>by
   have hc:¬((L.length:Int)<(L.length:Int)):=by omega
   simp only[qEd,hc,decide_false,jC,jP]) (t:=[]) hN (kG _)
 rw[show((0:Nat):Int)=0 from rfl] at h
 have hr:=qOk (step:=fun(t:List File) (f:File)=>(.inl (if decide (f.1≠p)=true then t++[f] else t):List File⊕List File)) (fin:=fun t=>t) (fun(t:List File) (f:File)=>if decide (f.1≠p)=true then t++[f] else t) (fun _ _=>rfl) L []
 unfold qFp
 rw[h,hr]
 simp only[j0]
 congr 1
 have:∀(a t:List File),a.foldl (fun t f=>if decide (f.1≠p)=true then t++[f] else t) t=t++fdel a p:=by
  intro a
  induction a with
  |nil=>intro t;simp[fdel]
  |cons x a ih=>
   intro t
   rw[jM,ih]
   unfold fdel
   rw[kH]
   split<;>simp
 rw[this];rfl
theorem zFw(L:List File)(p:ByteArray):(fdel L p).length≤L.length:=gA _ _
def Good(l:List Int)(a:Int)(K:Nat)(L:List File)(z:(List Int×Int)×List File):Prop:=∃a' L',z=((l,a'),L')∧a≤a'∧a'≤a+200000∧MadeE (K+900) L'∧L'.length≤L.length+1
section
variable {N:Nat} {l:List Int} {a:Int} {K:Nat} {L:List File}
theorem qSc{f:Int→Option (Int⊕(Unit⊕((List Int×Int)×List File)))}{Q:(List Int×Int)×List File→Prop}{p:ByteArray}(hl:L.length≤100)(hN:200<N)
  (hf:∀j,∀hj:j<L.length,L[j].1=p→Ok (f (j:Int)) fun r=>∃z,r= .inr (.inr z)∧Q z) (hn:∀j,∀hj:j<L.length,¬L[j].1=p→f (j:Int)=some (.inl ((j+1:Nat):Int))) (he:f (L.length:Int)=some (.inr (.inl ()))):
  Ok (qBj f N 0) fun o=>o= .inl ()∨∃z,o= .inr z∧Q z:=by
 obtain⟨b,h1,h2⟩:=qYm (f:=f) (fun s=>∃j:Nat,s=(j:Int)∧j≤L.length) (fun s=>L.length-s.toNat) (fun o=>o= .inl ()∨∃z,o= .inr z∧Q z) (fun s hs=>by
  obtain⟨j,rfl,hj⟩:=hs
  by_cases hlt:j<L.length
  ·by_cases hp:L[j].1=p
   ·obtain⟨r,h1,z,rfl,h2⟩:=hf j hlt hp
    exact .inl ⟨_,h1,.inr ⟨z,rfl,h2⟩⟩
   ·exact .inr ⟨_,hn j hlt hp,⟨j+1,rfl,hlt⟩,by simp only[kC];omega⟩
  ·have:j=L.length:=by omega
   subst this
   exact .inl ⟨_,he,.inl rfl⟩) N 0 ⟨0,rfl,kG _⟩ (by simp only[Int.toNat_zero];omega)
 exact⟨b,h1,h2⟩
theorem digit3(M:Nat):qCo (M+1) 0=some (⟨#[48]⟩:ByteArray)∧qCo (M+1) 1=some (⟨#[49]⟩:ByteArray)∧qCo (M+1) 2=some (⟨#[50]⟩:ByteArray):=⟨by kernel_rfl,by kernel_rfl,by kernel_rfl⟩
theorem qQn{x y z:ByteArray}(h:x++y=z)(hs:x.size+y.size≤1000):catB x y=some z:=by
 unfold catB
 rw[if_pos (by simp only[maxLen];omega),h]
theorem zpath{x:Int}(h0:0≤x)(h1:x<3){M:Nat}:∃s t p:ByteArray,qCo (M+1) x=some s∧catB (⟨#[122]⟩:ByteArray) s=some t∧catB t (⟨#[46,115,114,99]⟩:ByteArray)=some p∧qJb p.data.toList=true:=by
 obtain⟨d0,d1,d2⟩:=digit3 M
 have hx:x=0∨x=1∨x=2:=by omega
 rcases hx with rfl|rfl|rfl
 ·exact⟨_,⟨#[122,48]⟩,⟨#[122,48,46,115,114,99]⟩,d0,qQn (by decide+kernel) (by decide),qQn (by decide+kernel) (by decide),by kernel_rfl⟩
 ·exact⟨_,⟨#[122,49]⟩,⟨#[122,49,46,115,114,99]⟩,d1,qQn (by decide+kernel) (by decide),qQn (by decide+kernel) (by decide),by kernel_rfl⟩
 ·exact⟨_,⟨#[122,50]⟩,⟨#[122,50,46,115,114,99]⟩,d2,qQn (by decide+kernel) (by decide),qQn (by decide+kernel) (by decide),by kernel_rfl⟩
theorem zIx{p:ByteArray}(h:p∈srcL):qJb p.data.toList=true:=jS.1 zHw p h
theorem zJu{p:ByteArray}(h:p∈datL):qJb p.data.toList=true:=jS.1 zHp p h
theorem zMb(hN:3000<N)(h0:0≤a)(h1:a<10000000000000000)(hL:MadeE K L)(hK:4700≤K)(hK2:K≤100000)(hlen:L.length≤100):Ok (qHt N (l,a) L) (Good l a K L):=by
 obtain⟨M,rfl⟩:∃M,N=M+1:=⟨N-1,by omega⟩
 have hL9:MadeE (K+900) L:=hL.more (by omega)
 have hput:∀(a':Int) {p b:ByteArray},a≤a'→a'≤a+200000→qJb p.data.toList=true→b.size≤K+900→Good l a K L ((l,a'),fput L p b):=fun a' {p b} g1 g2 hp hb=>
  ⟨a',_,rfl,g1,g2,hL9.put hp hb,qOt L p b⟩
 unfold qHt qFb
 refine Ok.someb (Ok.one h0 (by omega) (by decide) (by decide) fun p hp=> ?_)
 have hpp:=zIx hp
 refine Ok.next (by first|omega|(dsimp only;omega)) (by first|omega|(dsimp only;omega)) (by decide) (by decide) fun r r0 r1=> ?_
 dsimp only
 refine Ok.bind (P:=fun q=>q= .inl ()∨∃z,q= .inr z∧Good l a K L z) ?_ ?_
 ·refine Ok.ite (fun _=> ?_) fun _=>Ok.ite (fun _=> ?_) fun _=>Ok.ite (fun _=> ?_) fun _=>Ok.ite (fun _=> ?_) fun _=>Ok.ite (fun _=> ?_) fun _=>Ok.ite (fun _=> ?_) fun _=>Ok.mk (.inl rfl)
  ·refine Ok.one (by omega) (by omega) (by decide) (by decide) fun q hq=> ?_
   have hq:q∈datL:=hq
   dsimp only
   refine Ok.bind (zHi (by omega) (by omega) (by omega)) ?_
   rintro _ ⟨a2,s,rfl,v1,v2,v3⟩
   dsimp only
   rw[qKp _ _ (by omega) hL.1 (by omega)]
   exact Ok.mk (.inr ⟨_,rfl,hput a2 (by omega) (by omega) (zJu hq) (by omega)⟩)
  ·refine Ok.one (by omega) (by omega) (by decide) (by decide) fun q hq=> ?_
   dsimp only
   rw[zBc (by omega) (by omega)]
   exact Ok.mk (.inr ⟨_,rfl,_,_,rfl,by omega,by omega,hL9.del q,by have:=zFw L q;omega⟩)
  ·refine Ok.someb (Ok.oneS (by omega) (by omega) (by decide) fun q hq=> ?_)
   refine Ok.bind (qUz (by omega) (by first|omega|(dsimp only;omega)) (by first|omega|(dsimp only;omega)) hq) ?_
   rintro _ ⟨a2,s,rfl,v1,v2,v3⟩
   dsimp only at v1 v2 ⊢
   rw[qKp _ _ (by omega) hL.1 (by omega)]
   exact Ok.mk (.inr ⟨_,rfl,hput a2 (by omega) (by omega) hpp (by omega)⟩)
  ·refine Ok.bind (qSc (L:=L) (p:=p) (Q:=Good l a K L) hlen (by omega) (fun j hj hjp=> ?_) (fun j hj hjp=> ?_) ?_) ?_
   ·have hc:((j:Int)<(L.length:Int)):=by omega
    simp only[qFd,hc,decide_true,jR,qDs hj,j0,eqB,hjp]
    rw[zBc (by omega) (by omega)]
    refine Ok.someb (Ok.next (by omega) (by omega) (by decide) (by decide) fun x x0 x1=> ?_)
    obtain⟨s,t,q,e1,e2,e3,e4⟩:=zpath x0 x1 (M:=M)
    simp only[e1,e2,e3,j0]
    have hd:=zFw L p
    rw[qKp _ _ (by omega) (hL.1.del p) (by omega)]
    refine Ok.mk ⟨_,rfl,_,_,rfl,by omega,by omega,(hL9.del p).put e4 (by have:=(hL.2 L[j] (jX hj)).2;omega),?_⟩
    have:=qOt (fdel L p) q L[j].2
    omega
   ·have hc:((j:Int)<(L.length:Int)):=by omega
    have w:IntKind.wrap .i64 ((j:Int)+1)=((j+1:Nat):Int):=by rw[wi64 (by omega) (by omega)];omega
    simp only[qFd,hc,decide_true,jR,qDs hj,j0,eqB,hjp,decide_false,jC,jP,w]
   ·have hc:¬((L.length:Int)<(L.length:Int)):=by omega
    simp only[qFd,hc,decide_false,jC,jP]
   ·rintro o (rfl|⟨z,rfl,hz⟩)
    ·exact Ok.mk (.inl rfl)
    ·exact Ok.mk (.inr ⟨z,rfl,hz⟩)
  ·refine Ok.bind (qSc (L:=L) (p:=p) (Q:=Good l a K L) hlen (by omega) (fun j hj hjp=> ?_) (fun j hj hjp=> ?_) ?_) ?_
   ·have hc:((j:Int)<(L.length:Int)):=by omega
    have hsz:=(hL.2 L[j] (jX hj)).2
    simp only[qFc,hc,decide_true,jR,qDs hj,j0,eqB,hjp]
    refine Ok.next (by omega) (by omega) (by decide) (by decide) fun x x0 x1=> ?_
    refine Ok.digits (by omega) (by omega) (by omega) fun s hs=> ?_
    refine Ok.cat (by simp only[qNu,jL,jA,jB];omega) fun s5 h5=> ?_
    simp only[qNu,jL,jA,jB] at h5
    refine Ok.cat (by simp only[qNu,jL,jA,jB];omega) fun s6 h6=> ?_
    simp only[qNu,jL,jA,jB] at h6
    refine Ok.cat (by omega) fun s7 h7=> ?_
    rw[qKp _ _ (by omega) hL.1 (by omega)]
    exact Ok.mk ⟨_,rfl,hput _ (by first|omega|(dsimp only;omega)) (by first|omega|(dsimp only;omega)) hpp (by omega)⟩
   ·have hc:((j:Int)<(L.length:Int)):=by omega
    have w:IntKind.wrap .i64 ((j:Int)+1)=((j+1:Nat):Int):=by rw[wi64 (by omega) (by omega)];omega
    simp only[qFc,hc,decide_true,jR,qDs hj,j0,eqB,hjp,decide_false,jC,jP,w]
   ·have hc:¬((L.length:Int)<(L.length:Int)):=by omega
    simp only[qFc,hc,decide_false,jC,jP]
   ·rintro o (rfl|⟨z,rfl,hz⟩)
    ·exact Ok.mk (.inl rfl)
    ·exact Ok.mk (.inr ⟨z,rfl,hz⟩)
  ·refine Ok.bind (qSc (L:=L) (p:=p) (Q:=Good l a K L) hlen (by omega) (fun j hj hjp=> ?_) (fun j hj hjp=> ?_) ?_) ?_
   ·have hc:((j:Int)<(L.length:Int)):=by omega
    have hsz:=(hL.2 L[j] (jX hj)).2
    simp only[qFa,hc,decide_true,jR,qDs hj,j0,eqB,hjp]
    refine Ok.cat (by simp only[qNu,jL,jA,jB];omega) fun s5 h5=> ?_
    simp only[qNu,jL,jA,jB] at h5
    rw[qKp _ _ (by omega) hL.1 (by omega)]
    exact Ok.mk ⟨_,rfl,hput _ (by first|omega|(dsimp only;omega)) (by first|omega|(dsimp only;omega)) hpp (by omega)⟩
   ·have hc:((j:Int)<(L.length:Int)):=by omega
    have w:IntKind.wrap .i64 ((j:Int)+1)=((j+1:Nat):Int):=by rw[wi64 (by omega) (by omega)];omega
    simp only[qFa,hc,decide_true,jR,qDs hj,j0,eqB,hjp,decide_false,jC,jP,w]
   ·have hc:¬((L.length:Int)<(L.length:Int)):=by omega
    simp only[qFa,hc,decide_false,jC,jP]
   ·rintro o (rfl|⟨z,rfl,hz⟩)
    ·exact Ok.mk (.inl rfl)
    ·exact Ok.mk (.inr ⟨z,rfl,hz⟩)
 ·rintro q (rfl|⟨z,rfl,hz⟩)
  ·dsimp only
   refine Ok.bind (qSc (L:=L) (p:=p) (Q:=Good l a K L) hlen (by omega) (fun j hj hjp=> ?_) (fun j hj hjp=> ?_) ?_) ?_
   ·have hc:((j:Int)<(L.length:Int)):=by omega
    have hsz:=(hL.2 L[j] (jX hj)).2
    simp only[qEy,hc,decide_true,jR,qDs hj,j0,eqB,hjp]
    refine Ok.decl (by omega) (by omega) (by omega) fun a2 s g1 g2 g3=> ?_
    dsimp only
    refine Ok.cat (by omega) fun s5 h5=> ?_
    rw[qKp _ _ (by omega) hL.1 (by omega)]
    exact Ok.mk ⟨_,rfl,hput a2 (by omega) (by omega) hpp (by omega)⟩
   ·have hc:((j:Int)<(L.length:Int)):=by omega
    have w:IntKind.wrap .i64 ((j:Int)+1)=((j+1:Nat):Int):=by rw[wi64 (by omega) (by omega)];omega
    simp only[qEy,hc,decide_true,jR,qDs hj,j0,eqB,hjp,decide_false,jC,jP,w]
   ·have hc:¬((L.length:Int)<(L.length:Int)):=by omega
    simp only[qEy,hc,decide_false,jC,jP]
   ·rintro o (rfl|⟨z,rfl,hz⟩)
    ·dsimp only
     refine Ok.someb (Ok.oneS (by omega) (by omega) (by decide) fun q hq=> ?_)
     refine Ok.bind (qUz (by omega) (by first|omega|(dsimp only;omega)) (by first|omega|(dsimp only;omega)) hq) ?_
     rintro _ ⟨a2,s,rfl,v1,v2,v3⟩
     dsimp only at v1 v2 ⊢
     rw[qKp _ _ (by omega) hL.1 (by omega)]
     exact Ok.mk (hput a2 (by omega) (by omega) hpp (by omega))
    ·exact Ok.mk hz
  ·exact Ok.mk hz
end
end
section
open Go Go.Dc Go.Proofs
def lowK:List File→ByteArray→Nat
 |[],_=>0
 |f::L,p=>if blt f.1 p=true then lowK L p+1 else 0
theorem zLc(L:List File)(p:ByteArray):lowK L p≤L.length:=by
 induction L with
 |nil=>exact jN _
 |cons f L ih=>simp only[lowK];split<;>simp only[jA]<;>omega
theorem zHt{L:List File}(ha:Asc L)(p:ByteArray):∀h,∀hh:h<L.length,(blt (L[h]).1 p=true↔h<lowK L p):=by
 induction L with
 |nil=>intro h hh;cases hh
 |cons f L ih=>
  have ha':=jQ.1 ha
  intro h hh
  simp only[lowK]
  by_cases hf:blt f.1 p=true
  ·rw[if_pos hf]
   cases h with
   |zero=>simp[hf]
   |succ h=>simpa using ih ha'.2 h (by simpa using hh)
  ·rw[if_neg hf]
   cases h with
   |zero=>simpa using hf
   |succ h=>
    simp only[List.getElem_cons_succ,kX,iff_false]
    intro h2
    exact hf (qJy (ha'.1 _ (jX (by simpa using hh))) h2)
def zKa(p:ByteArray)(f:File):Option ByteArray:=if f.1=p then some f.2 else none
theorem zDk{L:List File}(ha:Asc L)(p:ByteArray):fget L p=(L[lowK L p]?).bind (zKa p):=by
 induction L with
 |nil=>rfl
 |cons f L ih=>
  have ha':=jQ.1 ha
  simp only[lowK,fget]
  by_cases hf:blt f.1 p=true
  ·rw[if_pos hf,if_neg (qWl hf),List.getElem?_cons_succ,ih ha'.2]
  ·rw[if_neg hf,List.getElem?_cons_zero]
   simp only[j0,zKa]
   by_cases he:f.1=p
   ·rw[if_pos he,if_pos he]
   ·rw[if_neg he,if_neg he]
    have hp:blt p f.1=true:=by
     rcases qMj f.1 p with h|h|h
     ·exact absurd h hf
     ·exact absurd h he
     ·exact h
    exact qLr fun g hg=>qJy hp (ha'.1 g hg)
theorem at_eq{N:Nat}{L:List File}(ha:Asc L)(p:ByteArray)(hl:L.length<1000000)(hN:L.length<N):qMk N L p=some ((lowK L p:Int),(fget L p).isSome):=by
 have hk:=zLc L p
 have hloop:=zDb (f:=qJx N L p) (fun s=>∃i j:Nat,s=((i:Int),(j:Int))∧i≤lowK L p∧lowK L p≤j∧j≤L.length) (fun s=>s.2.toNat-s.1.toNat) (fun _=>(lowK L p:Int)) (by
  rintro _ ⟨i,j,rfl,h1,h2,h3⟩
  simp only[qJx]
  by_cases hij:i<j
  ·right
   rw[if_pos (by simpa using hij)]
   have eh:IntKind.wrap .i64 (Int.fdiv (IntKind.wrap .u64 (IntKind.wrap .i64 ((i:Int)+(j:Int)))) (2^1))=(((i+j)/2:Nat):Int):=by
    rw[wi64 (x:=(i:Int)+(j:Int)) (by omega) (by omega),wu64 (by omega) (by omega),Int.fdiv_eq_ediv_of_nonneg _ (by decide),wi64 (by omega) (by omega)]
    omega
   have hh:(i+j)/2<L.length:=by omega
   have hsp:=zHt ha p _ hh
   rw[eh,qDs hh]
   simp only[j0]
   by_cases hb:blt (L[(i+j)/2]).1 p=true
   ·have hlt:=hsp.1 hb
    have hb':Op.bytesLess (L[(i+j)/2]).1.toList p.toList=true:=hb
    rw[hb',if_pos (by rfl),wi64 (by omega) (by omega)]
    exact⟨_,rfl,⟨(i+j)/2+1,j,by simp,by omega,h2,h3⟩,by simp only;omega,trivial⟩
   ·have hge:¬(i+j)/2<lowK L p:=fun h=>hb (hsp.2 h)
    have hb':Op.bytesLess (L[(i+j)/2]).1.toList p.toList=false:=by
     cases hq:Op.bytesLess (L[(i+j)/2]).1.toList p.toList with
     |false=>rfl
     |true=>exact absurd hq hb
    rw[hb',if_neg (by simp)]
    exact⟨_,rfl,⟨i,(i+j)/2,rfl,h1,by omega,by omega⟩,by simp only;omega,trivial⟩
  ·left
   have e1:i=lowK L p:=by omega
   rw[if_neg (by simpa using hij)]
   simp only[e1]) N (0,(L.length:Int)) ⟨0,L.length,rfl,kG _,hk,jN _⟩ (by simp only;omega)
 simp only[qMk]
 rw[hloop]
 simp only[j0]
 rw[zDk ha]
 rcases gR (lowK L p) L.length with hlt|hge
 ·rw[if_pos (by simp only[j9];omega),qDs hlt,List.getElem?_eq_getElem hlt]
  simp only[j0,eqB,zKa]
  by_cases he:(L[lowK L p]).1=p
  ·rw[if_pos he,k9 he];rfl
  ·rw[if_neg he,kJ he];rfl
 ·rw[if_neg (by simp only[j9];omega),List.getElem?_eq_none hge]
  rfl
theorem zMa{N:Nat}{L:List File}(p:ByteArray)(hP:qIu N L)(hN:100<N):qLb N L p=some (zLt L p):=by
 simp only[qLb,zCs hP hN,j0]
 unfold zLt
 by_cases hc:qFv L=0
 ·rw[if_neg (by simp[hc]),if_pos hc]
  have hw:=qFk.1 hc
  rw[at_eq hw.2.1 p (by have:=hw.1;omega) (by have:=hw.1;omega)]
  simp only[j0]
  have hfl:=zDk hw.2.1 p
  rcases gR (lowK L p) L.length with hlt|hge
  ·rw[List.getElem?_eq_getElem hlt] at hfl
   rw[qDs hlt]
   simp only[j0,zKa] at hfl
   by_cases he:(L[lowK L p]).1=p
   ·rw[if_pos he] at hfl;rw[hfl];rfl
   ·rw[if_neg he] at hfl;rw[hfl];rfl
  ·rw[List.getElem?_eq_none hge] at hfl;rw[hfl];rfl
 ·rw[if_pos (by simpa using hc),if_neg hc];rfl
end
section
open Go Go.Dc Go.Proofs
theorem qYj{α:Type}{lt:α→α→Prop}(irr:∀x,¬lt x x)(tr:∀x y z,lt x y→lt y z→lt x z):∀{l k:List α},l.Pairwise lt→k.Pairwise lt→(∀z,z∈l↔z∈k)→l=k
 |[],[],_,_,_=>rfl
 |[],y::k,_,_,h=>by have:=(h y).2 (jI ..);cases this
 |x::l,[],_,_,h=>by have:=(h x).1 (jI ..);cases this
 |x::l,y::k,h1,h2,h=>by
  obtain⟨a1,a2⟩:=jQ.1 h1
  obtain⟨b1,b2⟩:=jQ.1 h2
  have hxy:x=y:=by
   rcases jH.1 ((h x).1 (jI ..)) with e|e
   ·exact e
   ·rcases jH.1 ((h y).2 (jI ..)) with g|g
    ·exact g.symm
    ·exact absurd (tr _ _ _ (b1 x e) (a1 y g)) (irr y)
  subst hxy
  have:l=k:=qYj irr tr a2 b2 fun z=>by
   constructor
   ·intro hz
    rcases jH.1 ((h z).1 (jK _ hz)) with e|e
    ·rw[e] at hz;exact absurd (a1 x hz) (irr x)
    ·exact e
   ·intro hz
    rcases jH.1 ((h z).2 (jK _ hz)) with e|e
    ·rw[e] at hz;exact absurd (b1 x hz) (irr x)
    ·exact e
  rw[this]
def insU{α:Type}[DecidableEq α](b:α→α→Bool)(e:α):List α→List α
 |[]=>[e]
 |x::l=>if b x e=true then x::insU b e l else if x=e then x::l else e::x::l
theorem qTt{α:Type}[DecidableEq α]{b:α→α→Bool}{e z:α}:∀{l:List α},z∈insU b e l↔z=e∨z∈l
 |[]=>by simp[insU]
 |x::l=>by
  have ih:=qTt (b:=b) (e:=e) (z:=z) (l:=l)
  simp only[insU]
  split
  ·rw[jH,ih,jH]
   constructor
   ·rintro(h|h|h)
    ·exact .inr (.inl h)
    ·exact .inl h
    ·exact .inr (.inr h)
   ·rintro(h|h|h)
    ·exact .inr (.inl h)
    ·exact .inl h
    ·exact .inr (.inr h)
  ·split
   ·rename_i h
    constructor
    ·exact .inr
    ·rintro(g|g)
     ·rw[g,←h];exact jI ..
     ·exact g
   ·exact jH
theorem qYh{α:Type}[DecidableEq α]{b:α→α→Bool}{e:α}:∀{l:List α},(insU b e l).length≤l.length+1
 |[]=>jN _
 |x::l=>by
  have ih:=qYh (b:=b) (e:=e) (l:=l)
  simp only[insU]
  split
  ·simp only[jA];omega
  ·split
   ·simp only[jA];omega
   ·simp only[jA];omega
theorem qUh{α:Type}[DecidableEq α]{b:α→α→Bool}(tr:∀x y z,b x y=true→b y z=true→b x z=true){e:α}:∀{l:List α},(∀x∈l,b x e=false→x≠e→b e x=true)→l.Pairwise (fun x y=>b x y=true)→(insU b e l).Pairwise fun x y=>b x y=true
 |[],_,_=>List.pairwise_singleton ..
 |x::l,ht,hp=>by
  obtain⟨h1,h2⟩:=jQ.1 hp
  simp only[insU]
  split
  ·rename_i h
   refine jQ.2 ⟨fun y hy=> ?_,qUh tr (fun y hy=>ht y (jK _ hy)) h2⟩
   rcases qTt.1 hy with rfl|hy
   ·exact h
   ·exact h1 y hy
  ·rename_i h
   split
   ·exact hp
   ·rename_i hne
    have hx:=ht x (jI ..) (by simpa using h) hne
    refine jQ.2 ⟨fun y hy=> ?_,hp⟩
    rcases jH.1 hy with rfl|hy
    ·exact hx
    ·exact tr _ _ _ hx (h1 y hy)
theorem bl_lt:∀a b:List UInt8,Op.bytesLess a b=true↔a<b
 |_,[]=>by simp[Op.bytesLess]
 |[],_::_=>by simp[Op.bytesLess]
 |x::a,y::b=>by
  have ih:=bl_lt a b
  simp only[Op.bytesLess,gP,j9,jU,kD,List.cons_lt_cons_iff,ih]
theorem zLg{a b:ByteArray}:blt a b=true↔a.data.toList<b.data.toList:=by
 unfold blt
 rw[bl_lt,ByteArray.toList_eq,ByteArray.toList_eq]
theorem zMe{a b:ByteArray}:a.data.toList≤b.data.toList↔blt b a=false:=by
 rw[←List.not_lt,←zLg];simp
theorem zEs{l:List ByteArray}(hn:l.Nodup):(qPe l).Pairwise fun x y=>blt x y=true:=by
 have h1:(qPe l).Pairwise fun x y=>decide (x.data.toList≤y.data.toList)=true:=by
  unfold qPe
  refine List.pairwise_mergeSort (fun x y z h1 h2=> ?_) (fun x y=> ?_) l
  ·simp only[j9] at*;exact List.le_trans h1 h2
  ·simp only[gP,j9];exact List.le_total _ _
 have h2:(qPe l).Pairwise fun x y=>x≠y:=by
  have:(qPe l).Nodup:=by unfold qPe;exact((List.mergeSort_perm l _).nodup_iff).2 hn
  exact this
 refine(h1.and h2).imp fun {x y} h=> ?_
 have h3:=zMe.1 (kL h.1)
 rcases qMj x y with g|g|g
 ·exact g
 ·exact absurd g h.2
 ·rw[g] at h3;cases h3
theorem zFl{l:List ByteArray}{z:ByteArray}:z∈qPe l↔z∈l:=by unfold qPe;exact List.mem_mergeSort
def addB(l:List ByteArray)(s:ByteArray):List ByteArray:=insU blt s l
theorem qUc:∀(K l:List ByteArray),l.Pairwise (fun x y=>blt x y=true)→(K.foldl addB l).Pairwise (fun x y=>blt x y=true)∧∀z,z∈K.foldl addB l↔z∈l∨z∈K
 |[],l,h=>⟨h,fun z=>by simp⟩
 |s::K,l,h=>by
  have h1:(addB l s).Pairwise fun x y=>blt x y=true:=qUh (b:=blt) (e:=s) (l:=l) (fun _ _ _ h1 h2=>qJy h1 h2) (fun x _ h2 h3=>by
   rcases qMj x s with g|g|g
   ·rw[g] at h2;cases h2
   ·exact absurd g h3
   ·exact g) h
  obtain⟨h2,h3⟩:=qUc K (addB l s) h1
  refine⟨h2,fun z=> ?_⟩
  rw[jM,h3 z]
  unfold addB
  rw[qTt,jH]
  constructor
  ·rintro((h|h)|h)
   ·exact .inr (.inl h)
   ·exact .inl h
   ·exact .inr (.inr h)
  ·rintro(h|h|h)
   ·exact .inl (.inr h)
   ·exact .inl (.inl h)
   ·exact .inr h
theorem zHa{l K:List ByteArray}(hn:l.Nodup)(hm:∀z,z∈l↔z∈K):qPe l=K.foldl addB []:=by
 obtain⟨h1,h2⟩:=qUc K [] List.Pairwise.nil
 refine qYj (lt:=fun x y=>blt x y=true) (fun x h=>by rw[qKi] at h;cases h) (fun _ _ _ h1 h2=>qJy h1 h2) (zEs hn) h1 fun z=> ?_
 rw[zFl,h2 z,hm z];simp
theorem qWf{O:List Occ}{k k':Int}{p p' n n':ByteArray}(h:keyC k p n=keyC k' p' n'):entE O k p n=entE O k' p' n':=by
 have e:noE k p n=noE k' p' n':=by
  obtain⟨rfl,rfl,h3⟩:=qRr h
  unfold noE
  rcases h3 with rfl|rfl
  ·simp
  ·rfl
 have e2:seeE k p n=seeE k' p' n':=by
  obtain⟨rfl,rfl,-⟩:=qRr h
  funext x o
  unfold seeE
  rw[h]
 unfold entE
 rw[e,e2]
def seeI(k:Int)(p n:ByteArray)(e:Ent):Prop:=e.2.1=n∧e.2.2.1=k∧(k=3∨e.1=p)
theorem zCd(O:List Occ)(k:Int)(p n:ByteArray):seeI k p n (entE O k p n):=by
 suffices h:∀(O:List Occ) (e:Ent),seeI k p n e→seeI k p n (O.foldl (seeE k p n) e) from h O _ ⟨rfl,rfl,by
  unfold noE
  by_cases h:k=3
  ·exact .inl h
  ·exact .inr (if_neg h)⟩
 intro O
 induction O with
 |nil=>intro e h;exact h
 |cons o O ih=>
  intro e h
  rw[jM]
  refine ih _ ?_
  unfold seeE
  split
  ·rename_i hk
   obtain⟨e1,e2,e3⟩:=qRr (show keyC o.2.2.1 o.1 o.2.1=keyC k p n from hk)
   split
   ·exact⟨rfl,rfl,by rw[←e1];rcases e3 with e3|e3;exact .inl e3;exact .inr e3⟩
   ·exact h
  ·exact h
theorem zKi(O:List Occ)(k:Int)(p n:ByteArray):keyC (entE O k p n).2.2.1 (entE O k p n).1 (entE O k p n).2.1=keyC k p n:=by
 obtain⟨h1,h2,h3⟩:=zCd O k p n
 rw[h1,h2]
 unfold keyC
 rcases h3 with h3|h3
 ·simp[h3]
 ·rw[h3]
theorem qXa(O:List Occ)(k:Int)(p n:ByteArray):(entE O k p n).2.2.2.2.2=(O.countP fun o=>decide (okey o=keyC k p n):Nat):=by
 suffices h:∀(O:List Occ) (e:Ent),(O.foldl (seeE k p n) e).2.2.2.2.2=e.2.2.2.2.2+(O.countP fun o=>decide (okey o=keyC k p n):Nat) by
  have:=h O (noE k p n)
  unfold entE
  rw[this]
  show(0:Int)+_=_
  omega
 intro O
 induction O with
 |nil=>intro e;simp
 |cons o O ih=>
  intro e
  rw[jM,ih,fV]
  unfold seeE
  by_cases hk:okey o=keyC k p n
  ·simp only[if_pos hk,hk,decide_true,jR]
   split
   ·rename_i h0
    simp only[h0];omega
   ·simp only[];omega
  ·simp only[if_neg hk,hk,decide_false]
   simp
theorem zCz{O:List Occ}{k:Int}{p n:ByteArray}:(entE O k p n).2.2.2.2.2≠0↔∃o∈O,okey o=keyC k p n:=by
 rw[qXa]
 constructor
 ·intro h
  have:0<O.countP fun o=>decide (okey o=keyC k p n):=by omega
  obtain⟨o,h1,h2⟩:=List.countP_pos_iff.1 this
  exact⟨o,h1,kL h2⟩
 ·rintro⟨o,h1,h2⟩
  have:0<O.countP fun o=>decide (okey o=keyC k p n):=List.countP_pos_iff.2 ⟨o,h1,k9 h2⟩
  omega
def entO(O:List Occ)(o:Occ):Ent:=entE O o.2.2.1 o.1 o.2.1
def keyV(v:Ent):K3:=keyC v.2.2.1 v.1 v.2.1
theorem qPr(O:List Occ)(o:Occ):keyV (entO O o)=okey o:=zKi ..
theorem zBg{O:List Occ}{o o':Occ}(h:okey o=okey o'):entO O o=entO O o':=qWf h
theorem zDq{O:List Occ}{o o':Occ}(h:keyV (entO O o)=keyV (entO O o')):entO O o=entO O o':=zBg (by rw[←qPr O o,←qPr O o',h])
def mapO(O:List Occ):List (K3×Ent):=O.foldl qIn []
theorem qZn:∀(O:List Occ) (M:List (K3×Ent)) (J:List Occ),(M.map (·.1)).Nodup→(∀c v,mget M c=some v→∃o∈J,c=okey o)→((O.foldl qIn M).map (·.1)).Nodup∧∀c v,mget (O.foldl qIn M) c=some v→∃o∈J++O,c=okey o
 |[],M,J,hn,h=>⟨hn,by rw[List.append_nil];exact h⟩
 |o::O,M,J,hn,h=>by
  rw[jM,show J++o::O=(J++[o])++O by simp]
  refine qZn O _ _ (qLk hn _ _) fun c v hc=> ?_
  unfold qIn at hc
  rw[qOi hn] at hc
  by_cases e:c=okey o
  ·exact⟨o,by simp,e⟩
  ·rw[if_neg e] at hc
   obtain⟨o',h1,h2⟩:=h c v hc
   exact⟨o',by simp[h1],h2⟩
theorem zEb{O:List Occ}(hO:O.length<1000000){c:K3}{v:Ent}:(c,v)∈mapO O↔∃o∈O,c=okey o∧v=entO O o:=by
 have hM:=MapE.fold hO
 obtain⟨hn,hk⟩:=qZn O [] [] kQ (fun c v h=>by simp[mget] at h)
 unfold mapO
 rw[←qSf hM.1]
 constructor
 ·intro h
  obtain⟨o,h1,h2⟩:=hk c v h
  rw[k0] at h1
  refine⟨o,h1,h2,?_⟩
  rw[h2,show okey o=keyC o.2.2.1 o.1 o.2.1 from rfl,hM.2] at h
  split at h
  ·cases h
  ·exact(jD h).symm
 ·rintro⟨o,h1,rfl,rfl⟩
  rw[show okey o=keyC o.2.2.1 o.1 o.2.1 from rfl,hM.2,if_neg]
  ·rfl
  ·exact zCz.2 ⟨o,h1,rfl⟩
theorem zEl{O:List Occ}(hO:O.length<1000000):((mapO O).map (·.1)).Nodup:=(MapE.fold hO).1
end
section
open Go Go.Dc Go.Proofs
theorem qRi{α β:Type}(p:α→Bool)(g:α→β):∀(L:List α) (acc:List β),L.foldl (fun t x=>if p x=true then t++[g x] else t) acc=acc++(L.filter p).map g
 |[],acc=>by simp
 |x::L,acc=>by
  rw[jM,qRi p g L,kH]
  by_cases h:p x=true
  ·rw[if_pos h,if_pos h];simp
  ·rw[if_neg h,if_neg h]
theorem qQl{α σ β:Type}{f:Option α→σ→Option (σ⊕β)}(g:σ→α→σ)(fin:σ→β)(I:Nat→σ→Prop)(h1:∀n x s,I (n+1) s→f (some x) s=some (.inl (g s x))∧I n (g s x))(h2:∀s,f none s=some (.inr (fin s))):∀(k:List α) (s:σ),I k.length s→qKn f k s=some (fin (k.foldl g s))
 |[],s,_=>by simp only[qKn,h2,j0,List.foldl_nil]
 |x::k,s,hI=>by
  obtain⟨e1,e2⟩:=h1 k.length x s (by simpa using hI)
  simp only[qKn,e1,j0,jM]
  exact qQl g fin I h1 h2 k _ e2
theorem qWz{N:Nat}{L:List File}{p:ByteArray}(hP:qIu N L)(hN:1000001<N):qIe N L p=some (srcP L p):=by
 simp only[qIe,zMa p hP (show 100<N by omega),j0,zCo _ hN]
 unfold srcP zLt
 by_cases hc:qFv L=0
 ·rw[if_pos hc,if_pos hc]
  cases hg:fget L p with
  |none=>rfl
  |some b=>
   have hp:=hP _ (zJl hg)
   simp only[findR,qUp hp]
   by_cases hs:qDm p=true
   ·rw[if_pos hs,hs]
    simp only[gD,jC,jP,j0]
    congr 2
   ·have hs':qDm p=false:=by simpa using hs
    rw[if_neg hs,hs']
    rfl
 ·rw[if_neg hc,if_neg hc];rfl
def qPx(L:List File):List ByteArray:=if qFv L=0 then qIh L else[]
theorem qXd{N:Nat}{L:List File}(hP:qIu N L)(hN:1000001<N):qGt N L=some (qPx L):=by
 simp only[qGt,qZq hP hN,j0]
 unfold qSz qPx
 by_cases hc:qFv L=0
 ·rw[if_pos hc,if_pos hc]
 ·rw[if_neg hc,if_neg hc]
def zFc(pkg:ByteArray)(f:File):Bool:=qLf f&&decide ((qGf f.2).1.1=pkg)
def qRa(L:List File)(pkg:ByteArray):List File:=if qFv L=0 then L.filter (zFc pkg) else[]
theorem qTs:∀(l:List (ByteArray×Sr)) (S:List (ByteArray×Sr)) (c:ByteArray),(S.map (·.1)).Nodup→(l.map (·.1)).Nodup→
  ((l.foldl (fun S x=>mset S x.1 x.2) S).map (·.1)).Nodup∧(∀v,(c,v)∈l→mget (l.foldl (fun S x=>mset S x.1 x.2) S) c=some v)∧((∀v,(c,v)∉l)→mget (l.foldl (fun S x=>mset S x.1 x.2) S) c=mget S c)
 |[],S,c,h1,_=>⟨h1,(fun v h=>by cases h),fun _=>rfl⟩
 |x::l,S,c,h1,h2=>by
  rw[jT,kY] at h2
  obtain⟨g1,g2,g3⟩:=qTs l (mset S x.1 x.2) c (qLk h1 _ _) h2.2
  rw[jM]
  refine⟨g1,fun v hv=> ?_,fun hv=> ?_⟩
  ·rcases jH.1 hv with e|hv
   ·subst e
    rw[g3 fun v' h'=>h2.1 (kZ.2 ⟨_,h',rfl⟩),qOi h1,if_pos rfl]
   ·exact g2 v hv
  ·rw[g3 fun v h=>hv v (jK _ h),qOi h1,if_neg]
   rintro rfl
   exact hv x.2 (jI ..)
theorem qRh{L:List File}(ha:Asc L):((qEb L).map (·.1)).Nodup:=by
 unfold qEb
 rw[fR]
 exact List.pairwise_map.2 ((List.Pairwise.filter _ ha).imp fun h=>qWl h)
def qYz(L:List File):List (ByteArray×Sr):=(qEb L).foldl (fun S x=>mset S x.1 x.2) []
theorem zCj{L:List File}(ha:Asc L):((qYz L).map (·.1)).Nodup:=(qTs (qEb L) [] qRv kQ (qRh ha)).1
theorem zEh{L:List File}(ha:Asc L){f:File}(hf:f∈L):mget (qYz L) f.1=if qLf f=true then some (qGf f.2).1 else none:=by
 have h:=qTs (qEb L) [] f.1 kQ (qRh ha)
 unfold qYz
 by_cases hg:qLf f=true
 ·rw[if_pos hg]
  exact h.2.1 _ (kZ.2 ⟨f,gN.2 ⟨hf,hg⟩,rfl⟩)
 ·rw[if_neg hg,h.2.2 (fun v hv=> ?_)]
  ·rfl
  ·obtain⟨f',h1,h2,h3⟩:=qVl hv
   have e:f'.1=f.1:=(congrArg Prod.fst h3).symm
   have e2:f'=f:=by
    have a1:=qOu ha h1
    have a2:=qOu ha hf
    rw[e,a2] at a1
    exact Prod.ext e (jD a1).symm
   rw[e2] at h2;exact hg h2
theorem qWw{L:List File}(ha:Asc L){x:ByteArray×Sr}:x∈qYz L↔x∈qEb L:=by
 have h:=fun c=>qTs (qEb L) [] c kQ (qRh ha)
 obtain⟨c,v⟩:=x
 rw[←qSf (zCj ha)]
 by_cases hx:∃v',(c,v')∈qEb L
 ·obtain⟨v',hv'⟩:=hx
  have e:mget (qYz L) c=some v':=(h c).2.1 v' hv'
  rw[e]
  constructor
  ·intro g;rw[←jD g];exact hv'
  ·intro g
   have:=(h c).2.1 v g
   exact e.symm.trans this
 ·have e:mget (qYz L) c=none:=(h c).2.2 fun v' hv'=>hx ⟨v',hv'⟩
  rw[e]
  exact⟨(fun g=>by cases g),fun g=>absurd ⟨v,g⟩ hx⟩
theorem zGh{N:Nat}{L:List File}{pkg:ByteArray}(hP:qIu N L)(hN:1000001<N):qJw N L pkg=some (qRa L pkg):=by
 simp only[qJw,qZq hP hN,j0]
 unfold qSz qRa
 by_cases hc:qFv L=0
 ·have ha:=(qFk.1 hc).2.1
  have hl:=(qFk.1 hc).1
  simp only[if_pos hc]
  rw[if_neg (by simp)]
  unfold qJf
  have h:=qOf (L:=L) (fun(t:List File) (i:Nat)=>(t,(i:Int))) (f:=qEz N (L,true,some (qYz L),qIh L,some ((qIc (qEb L)).foldl qIn [])) pkg)
   (fun t f=> .inl (if zFc pkg f=true then t++[f] else t)) (fun t=>t) (fun i t=>t.length≤i) (by
    intro t i hi hI
    simp only[qEz]
    rw[if_pos (by simp only[j9];omega),qDs hi]
    have ew:IntKind.wrap .i64 ((i:Int)+1)=((i+1:Nat):Int):=by rw[wi64 (by omega) (by omega)];omega
    simp only[j0,ew,qAl,zEh ha (jX hi),eqB]
    unfold zFc
    by_cases hg:qLf L[i]=true
    ·simp only[if_pos hg,hg,fK,jR,j0,gG,gC,j9]
     by_cases h1:(qGf (L[i]).2).1.1=pkg
     ·rw[if_pos h1,if_pos h1,qCr (by simp only[jA,jB];omega) (by omega)]
      simp only[j0]
     ·rw[if_neg h1,if_neg h1];rfl
    ·have hg':qLf L[i]=false:=by simpa using hg
     simp only[hg',jC,jP,Option.isSome_none,j0,Bool.false_and]) (by
    intro t i hi t' hI h
    cases h
    split
    ·simp only[jJ,jA,jB];omega
    ·omega) (by
    intro t hI
    simp only[qEz]
    rw[if_neg (by simp)]) (M:=N) (t:=[]) (by omega) (kG _)
  rw[show((0:Nat):Int)=0 from rfl] at h
  refine Eq.trans (congrArg (fun z=>Option.bind (Option.bind z _) _) h) ?_
  rw[qOk (fun t f=>if zFc pkg f=true then t++[f] else t) (fun _ _=>rfl),qRi (zFc pkg) (fun f=>f)]
  simp[hc]
 ·simp only[if_neg hc]
  rw[if_pos (by rfl)]
end
section
open Go Go.Dc Go.Proofs
section
variable {κ ν:Type} [DecidableEq κ]
theorem qZf:∀(l:List (κ×ν)) (k:κ) (v:ν),(qMy l k v).length≤l.length+1
 |[],k,v=>by simp[qMy]
 |p::l,k,v=>by
  have:=qZf l k v
  simp only[qMy]
  split
  ·simp
  ·simp only[jA];omega
theorem qYp[KOrd κ]{l:List (κ×ν)}(hn:(l.map (·.1)).Nodup)(k:κ)(v:ν):(mset l k v).length≤l.length+1:=by
 have h1:=(qMs (.refl l) hn k v).length_eq
 have h2:=qZf l k v
 omega
theorem zGd[KOrd κ]{l:List (κ×ν)}(hn:(l.map (·.1)).Nodup)(k:κ)(v:ν)(c:κ):c∈(mset l k v).map (·.1)↔c=k∨c∈l.map (·.1):=by
 have h:=qOi hn k v c
 have a1:mget (mset l k v) c=none↔c∉(mset l k v).map (·.1):=qPy
 have a2:mget l c=none↔c∉l.map (·.1):=qPy
 by_cases e:c=k
 ·rw[if_pos e] at h
  refine⟨fun _=> .inl e,fun _=> ?_⟩
  by_cases g:c∈(mset l k v).map (·.1)
  ·exact g
  ·rw[a1.2 g] at h;cases h
 ·rw[if_neg e] at h
  rw[h,a2] at a1
  constructor
  ·intro g;exact .inr (Decidable.byContradiction fun q=>a1.1 q g)
  ·rintro(g|g)
   ·exact absurd g e
   ·exact Decidable.byContradiction fun q=>a1.2 q g
end
def zAc(L:List File):List ByteArray:=(qEb L).map fun x=>x.2.1
def qLw(L:List File):List ByteArray:=if qFv L=0 then(zAc L).foldl addB [] else[]
abbrev HasM:=List (ByteArray×Bool)
def hasF(M:HasM)(x:ByteArray×Sr):HasM:=mset M x.2.1 true
theorem zAi:∀(k:List (ByteArray×Sr)) (M:HasM),(M.map (·.1)).Nodup→((k.foldl hasF M).map (·.1)).Nodup∧(k.foldl hasF M).length≤M.length+k.length∧∀c,c∈(k.foldl hasF M).map (·.1)↔c∈M.map (·.1)∨c∈k.map fun x=>x.2.1
 |[],M,h=>⟨h,jN _,fun c=>by simp⟩
 |x::k,M,h=>by
  obtain⟨h1,h2,h3⟩:=zAi k (hasF M x) (qLk h _ _)
  have h4:(hasF M x).length≤M.length+1:=qYp h _ _
  refine⟨h1,by simp only[jM,jA];omega,fun c=> ?_⟩
  rw[jM,h3 c,show c∈(hasF M x).map (·.1)↔c=x.2.1∨c∈M.map (·.1) from zGd h _ _ c,jT,jH]
  constructor
  ·rintro((g|g)|g)
   ·exact .inr (.inl g)
   ·exact .inl g
   ·exact .inr (.inr g)
  ·rintro(g|g|g)
   ·exact .inl (.inr g)
   ·exact .inl (.inl g)
   ·exact .inr g
theorem zIs{N:Nat}(k:List (ByteArray×Sr)):qKn (qFn N) k (some [])=some (some (k.foldl hasF [])):=by
 have h:=qQl (f:=qFn N) (fun s x=>some (hasF (s.getD []) x)) (fun s=>s) (fun _ s=>s.isSome=true) (fun n x s hs=>by
  obtain⟨M,rfl⟩:=fI.1 hs
  exact⟨rfl,rfl⟩) (fun s=>rfl) k (some []) rfl
 rw[h]
 congr 1
 suffices g:∀(k:List (ByteArray×Sr)) (M:HasM),k.foldl (fun s x=>some (hasF (s.getD []) x)) (some M)=some (k.foldl hasF M) from g k []
 intro k
 induction k with
 |nil=>intro M;rfl
 |cons x k ih=>intro M;rw[jM,jM];exact ih _
theorem zIt{N:Nat}(k:HasM)(hk:k.length<1000000):qKn (qEm N) k []=some (k.map (·.1)):=by
 have h:=qQl (f:=qEm N) (fun s x=>s++[x.1]) (fun s=>s) (fun n s=>s.length+n<1000000) (fun n x s hs=>by
  refine⟨?_,by simp only[jJ,jA,jB];omega⟩
  simp only[qEm]
  rw[qCr (by simp only[jA,jB];omega) (by omega)]
  rfl) (fun s=>rfl) k [] (by simpa using hk)
 rw[h]
 congr 1
 suffices g:∀(k:HasM) (s:List ByteArray),k.foldl (fun s x=>s++[x.1]) s=s++k.map (·.1) from g k []
 intro k
 induction k with
 |nil=>intro s;simp
 |cons x k ih=>intro s;rw[jM,ih];simp
theorem zJa{N:Nat}{l:List ByteArray}(hl:l.length<1000000):qBx N l=some (qPe l):=by
 unfold qBx
 rw[if_pos (by omega)]
theorem zIj{N:Nat}{L:List File}(hP:qIu N L)(hN:1000001<N):qJr N L=some (qLw L):=by
 simp only[qJr,qZq hP hN,j0]
 have key:∀(S:List (ByteArray×Sr)) (K:List ByteArray),S.length<100000→(∀z,z∈S.map (fun x=>x.2.1)↔z∈K)→
   qMn (qFn N) S (some []:Option HasM) (fun o1=>qMn (qEm N) (Option.getD o1 []) ([]:List ByteArray) (fun o2=>(qBx N o2).bind fun y2=>some y2))=some (K.foldl addB []):=by
  intro S K hS hK
  refine qSq fun k hk=> ?_
  rw[zIs]
  simp only[j0,gG]
  obtain⟨h1,h2,h3⟩:=zAi k [] kQ
  have hkl:=hk.length_eq
  refine qSq fun k2 hk2=> ?_
  have hkl2:=hk2.length_eq
  simp only[jB] at h2
  rw[zIt k2 (by omega)]
  simp only[j0]
  rw[zJa (by rw[kE];omega)]
  simp only[j0]
  congr 1
  refine zHa ((hk2.map _).nodup_iff.2 h1) fun z=> ?_
  rw[(hk2.map _).mem_iff,h3 z,←hK z,(hk.map _).mem_iff]
  simp
 unfold qSz qLw
 by_cases hc:qFv L=0
 ·have ha:=(qFk.1 hc).2.1
  have hl:=(qFk.1 hc).1
  simp only[if_pos hc]
  refine Eq.trans (congrArg (fun z=>Option.bind z _) (show isQ (some ((qEb L).foldl (fun S x=>mset S x.1 x.2) []))=some () from rfl)) ?_
  simp only[j0,gG]
  refine key (qYz L) (zAc L) ?_ fun z=> ?_
  ·have g:∀(l:List (ByteArray×Sr)) (S:List (ByteArray×Sr)),(S.map (·.1)).Nodup→(l.foldl (fun S x=>mset S x.1 x.2) S).length≤S.length+l.length:=by
    intro l
    induction l with
    |nil=>intro S _;exact jN _
    |cons x l ih=>
     intro S hS
     have:=ih (mset S x.1 x.2) (qLk hS _ _)
     have:=qYp hS x.1 x.2
     simp only[jM,jA];omega
   have:=g (qEb L) [] kQ
   have:=qVb L
   unfold qYz
   simp only[jB] at*
   omega
  ·unfold zAc
   simp only[kZ]
   constructor
   ·rintro⟨x,h1,h2⟩;exact⟨x,(qWw ha).1 h1,h2⟩
   ·rintro⟨x,h1,h2⟩;exact⟨x,(qWw ha).2 h1,h2⟩
 ·simp only[if_neg hc]
  refine Eq.trans (congrArg (fun z=>Option.bind z _) (show isQ (some ([]:List (ByteArray×Sr)))=some () from rfl)) ?_
  simp only[j0,gG]
  exact key [] [] (by decide) fun z=>by simp
end
section
open Go Go.Dc Go.Proofs
def bE(x y:Ent):Bool:=decide (qKk x y<0)
theorem qQo{x y:Ent}:qKk x y=0↔keyV x=keyV y:=by
 unfold qKk
 rw[cmpPl_lin.zero]
 unfold keyV keyC qMo
 simp only[Prod.mk.injEq]
 constructor
 ·rintro⟨_,h2,h3,h4⟩;exact⟨h3,h2,h4⟩
 ·rintro⟨h3,h2,h4⟩;exact⟨by rw[h3],h2,h3,h4⟩
theorem qZh{x y z:Ent}:qKk x y<0→qKk y z<0→qKk x z<0:=cmpPl_lin.trans _ _ _
theorem bE_irr(x:Ent):¬bE x x=true:=by
 unfold bE
 have:qKk x x=0:=qQo.2 rfl
 simp[this]
theorem zDo(x y z:Ent)(h1:bE x y=true)(h2:bE y z=true):bE x z=true:=by
 unfold bE at*
 simp only[j9] at*
 exact qZh h1 h2
theorem zDj{x y:Ent}(h1:bE x y=false)(h2:keyV x≠keyV y):bE y x=true:=by
 unfold bE at*
 simp only[j9,decide_eq_false_iff_not] at*
 have h3:qKk x y≠0:=fun e=>h2 (qQo.1 e)
 exact(qOq y x).2 (by omega)
def OfO(O:List Occ)(l:List Ent):Prop:=∀x∈l,∃o∈O,x=entO O o
def insE(O:List Occ)(out:List Ent)(o:Occ):List Ent:=insU bE (entO O o) out
def qZa(O:List Occ):List Ent:=O.foldl (insE O) []
theorem zAa{O:List Occ}:∀(J:List Occ) (l:List Ent),(∀o∈J,o∈O)→OfO O l→l.Pairwise (fun x y=>bE x y=true)→OfO O (J.foldl (insE O) l)∧(J.foldl (insE O) l).Pairwise (fun x y=>bE x y=true)∧(∀z,z∈J.foldl (insE O) l↔z∈l∨∃o∈J,z=entO O o)∧(J.foldl (insE O) l).length≤l.length+J.length
 |[],l,_,h1,h2=>⟨h1,h2,(fun z=>by simp),jN _⟩
 |o::J,l,hJ,h1,h2=>by
  have hm:∀z,z∈insE O l o↔z=entO O o∨z∈l:=fun z=>qTt
  have a1:OfO O (insE O l o):=fun x hx=>by
   rcases(hm x).1 hx with rfl|hx
   ·exact⟨o,hJ o (jI ..),rfl⟩
   ·exact h1 x hx
  have a2:(insE O l o).Pairwise fun x y=>bE x y=true:=qUh zDo (fun x hx h3 h4=>by
   refine zDj h3 fun e=>h4 ?_
   obtain⟨o',_,rfl⟩:=h1 x hx
   exact zDq e) h2
  have a3:(insE O l o).length≤l.length+1:=qYh
  obtain⟨g1,g2,g3,g4⟩:=zAa J (insE O l o) (fun o' ho'=>hJ o' (jK _ ho')) a1 a2
  rw[jM]
  refine⟨g1,g2,fun z=> ?_,by simp only[jA];omega⟩
  rw[g3 z,hm z]
  constructor
  ·rintro((h|h)|⟨o',h,h'⟩)
   ·exact .inr ⟨o,jI ..,h⟩
   ·exact .inl h
   ·exact .inr ⟨o',jK _ h,h'⟩
  ·rintro(h|⟨o',h,h'⟩)
   ·exact .inl (.inr h)
   ·rcases jH.1 h with rfl|h
    ·exact .inl (.inl h')
    ·exact .inr ⟨o',h,h'⟩
theorem qQp(O:List Occ):OfO O (qZa O)∧(qZa O).Pairwise (fun x y=>bE x y=true)∧(∀z,z∈qZa O↔∃o∈O,z=entO O o)∧(qZa O).length≤O.length:=by
 obtain⟨h1,h2,h3,h4⟩:=zAa (O:=O) O [] (fun _ h=>h) (fun x hx=>by cases hx) List.Pairwise.nil
 exact⟨h1,h2,(fun z=>by rw[show qZa O=O.foldl (insE O) [] from rfl,h3 z];simp),by rw[jB,kO] at h4;exact h4⟩
theorem zFz{O:List Occ}{l:List Ent}(hn:(l.map keyV).Nodup)(hm:∀z,z∈l↔∃o∈O,z=entO O o):(l.mergeSort fun x y=> !(Go.Proofs.ltOf qKk y x))=qZa O:=by
 have h1:=List.pairwise_mergeSort (le:=fun x y=> !(Go.Proofs.ltOf qKk) y x) (fun x y z h1 h2=>by
  simp only[fP,ltOf,decide_eq_false_iff_not] at*
  intro h3
  have s:=cmpEnt_swo.ntrans z y x (by simpa[ltOf] using h2) (by simpa[ltOf] using h1)
  simp[ltOf] at s;omega) (fun x y=>by
  simp only[gP,fP,ltOf,decide_eq_false_iff_not]
  have:=qOq x y;omega) l
 have hp:=List.mergeSort_perm l (fun x y=> !(Go.Proofs.ltOf qKk y x))
 have h2:(l.mergeSort fun x y=> !(Go.Proofs.ltOf qKk y x)).Pairwise fun x y=>keyV x≠keyV y:=List.pairwise_map.1 ((hp.map keyV).nodup_iff.2 hn)
 obtain⟨-,g2,g3,-⟩:=qQp O
 refine qYj (lt:=fun x y=>bE x y=true) bE_irr zDo ((h1.and h2).imp fun {x y} h=> ?_) g2 fun z=> ?_
 ·have h3:bE y x=false:=by
   have:=h.1
   simp only[fP,ltOf] at this
   exact this
  exact zDj h3 (Ne.symm h.2)
 ·rw[List.mem_mergeSort,hm z,g3 z]
theorem zJg{N:Nat}{O:List Occ}{l:List Ent}(hn:(l.map keyV).Nodup)(hm:∀z,z∈l↔∃o∈O,z=entO O o)(hl:l.length<1000000)(hN:10≤N):qAs N l=some (qZa O):=by
 unfold qAs
 rw[if_pos ⟨hN,by omega,fun x hx y hy h=>by
  obtain⟨o,_,rfl⟩:=(hm x).1 hx
  obtain⟨o',_,rfl⟩:=(hm y).1 hy
  exact zDq (qQo.1 h)⟩,zFz hn hm]
def qMd(L:List File):List Ent:=if qFv L=0 then qZa (qIc (qEb L)) else[]
theorem zCv:∀(O:List Occ) (M:List (K3×Ent)),(M.map (·.1)).Nodup→(O.foldl qIn M).length≤M.length+O.length
 |[],M,_=>jN _
 |o::O,M,h=>by
  have h1:=zCv O (qIn M o) (qLk h _ _)
  have h2:(qIn M o).length≤M.length+1:=qYp h _ _
  simp only[jM,jA];omega
theorem zMd{N:Nat}(k:List (K3×Ent))(hk:k.length<1000000):qKn (qCz N) k []=some (k.map (·.2)):=by
 have h:=qQl (f:=qCz N) (fun s x=>s++[x.2]) (fun s=>s) (fun n s=>s.length+n<1000000) (fun n x s hs=>by
  refine⟨?_,by simp only[jJ,jA,jB];omega⟩
  simp only[qCz]
  rw[qCr (by simp only[jA,jB];omega) (by omega)]
  rfl) (fun s=>rfl) k [] (by simpa using hk)
 rw[h]
 congr 1
 suffices g:∀(k:List (K3×Ent)) (s:List Ent),k.foldl (fun s x=>s++[x.2]) s=s++k.map (·.2) from g k []
 intro k
 induction k with
 |nil=>intro s;simp
 |cons x k ih=>intro s;rw[jM,ih];simp
theorem qTi{N:Nat}{L:List File}(hP:qIu N L)(hN:1000001<N):qGr N L=some (qMd L):=by
 simp only[qGr,qZq hP hN,j0]
 have key:∀(M:List (K3×Ent)) (O:List Occ),M.length<1000000→(M.map (·.1)).Nodup→(∀c v,(c,v)∈M↔∃o∈O,c=okey o∧v=entO O o)→
   qMn (qCz N) M ([]:List Ent) (fun o1=>(qAs N o1).bind fun y2=>some y2)=some (qZa O):=by
  intro M O hM hn hO
  refine qSq fun k hk=> ?_
  have hkl:=hk.length_eq
  rw[zMd k (by omega)]
  simp only[j0]
  have e:(k.map (·.2)).map keyV=k.map (·.1):=by
   rw[fR]
   refine kP fun x hx=> ?_
   obtain⟨o,_,h1,h2⟩:=(hO x.1 x.2).1 (hk.mem_iff.1 hx)
   simp only[Function.comp]
   rw[h2,qPr,h1]
  rw[zJg (O:=O) (by rw[e];exact(hk.map _).nodup_iff.2 hn) (fun z=>by
   simp only[kZ]
   constructor
   ·rintro⟨x,hx,rfl⟩
    obtain⟨o,h1,_,h2⟩:=(hO x.1 x.2).1 (hk.mem_iff.1 hx)
    exact⟨o,h1,h2⟩
   ·rintro⟨o,h1,rfl⟩
    exact⟨(okey o,entO O o),hk.mem_iff.2 ((hO _ _).2 ⟨o,h1,rfl,rfl⟩),rfl⟩) (by rw[kE];omega) (by omega)]
  rfl
 unfold qSz qMd
 by_cases hc:qFv L=0
 ·have hl:=(qFk.1 hc).1
  have hO:=qQd hl
  simp only[if_pos hc]
  refine Eq.trans (congrArg (fun z=>Option.bind z _) (show isQ (some ((qIc (qEb L)).foldl qIn []))=some () from rfl)) ?_
  simp only[j0,gG]
  refine key (mapO (qIc (qEb L))) _ ?_ (zEl hO) fun c v=>zEb hO
  have:=zCv (qIc (qEb L)) [] kQ
  unfold mapO
  simp only[jB] at this
  omega
 ·simp only[if_neg hc]
  refine Eq.trans (congrArg (fun z=>Option.bind z _) (show isQ (some ([]:List (K3×Ent)))=some () from rfl)) ?_
  simp only[j0,gG]
  exact key [] [] (by decide) kQ fun c v=>by simp
end
section
open Go Go.Dc Go.Proofs
section
variable {ts:List Tok} {params:List ByteArray} {E S:Ps→PM Nat} {B:Nat}
end
end
section
open Go Go.Dc Go.Proofs
theorem zBr(L:List File):(qPx L).length≤64:=by
 unfold qPx
 by_cases hc:qFv L=0
 ·rw[if_pos hc]
  unfold qIh
  rw[kE]
  exact f0 (gA _ _) (qFk.1 hc).1
 ·rw[if_neg hc];exact kG _
theorem qWo(L:List File)(pkg:ByteArray):(qRa L pkg).length≤64:=by
 unfold qRa
 by_cases hc:qFv L=0
 ·rw[if_pos hc]
  exact f0 (gA _ _) (qFk.1 hc).1
 ·rw[if_neg hc];exact kG _
theorem zDg:∀(K l:List ByteArray),(K.foldl addB l).length≤l.length+K.length
 |[],l=>jN _
 |x::K,l=>by
  have h1:=zDg K (addB l x)
  have h2:(addB l x).length≤l.length+1:=qYh
  simp only[jM,jA];omega
theorem zEm(L:List File):(qLw L).length≤64:=by
 unfold qLw
 by_cases hc:qFv L=0
 ·rw[if_pos hc]
  have h1:=zDg (zAc L) []
  have h2:=qVb L
  have h3:=(qFk.1 hc).1
  unfold zAc at*
  rw[kE,jB] at h1
  omega
 ·rw[if_neg hc];exact kG _
theorem zBe(L:List File):(qMd L).length<1000000:=by
 unfold qMd
 by_cases hc:qFv L=0
 ·rw[if_pos hc]
  have h1:=(qQp (qIc (qEb L))).2.2.2
  have h2:=qQd (qFk.1 hc).1
  omega
 ·rw[if_neg hc];exact(by decide)
def qXg(x:Ent):Bool:=x.2.2.1==2&&x.2.2.2.2.2==1
abbrev Nm:=ByteArray×ByteArray
def zKs(L:List File):List Nm:=((qMd L).filter qXg).map fun x=>(x.1,x.2.1)
theorem zEk{N:Nat}{E:List Ent}{f:List Nm×Int→Option ((List Nm×Int)⊕List Nm)}(hE:E.length<1000000)(hN:1000000<N)
  (hf:∀s1:List Nm×Int,f s1=if(decide (s1.2<(List.length E:Int)))=true then(((idx E s1.2).bind fun x1=>(if(x1.2.2.1==2)=true then(some (x1.2.2.2.2.2==1)) else(some false):Option (Bool)).bind fun o3=>if o3=true then((qEq 32 s1.1 ([(x1.1,x1.2.1)])).bind fun l1=>some l1) else(some s1.1):Option ((List (ByteArray×ByteArray)))).bind fun o2=>some (.inl (o2,IntKind.wrap .i64 (s1.2+1)))) else(some (.inr s1.1))):
  qBj f N ([],0)=some ((E.filter qXg).map fun x=>(x.1,x.2.1)):=by
 have h:=qOf (L:=E) (fun(t:List Nm) (i:Nat)=>(t,(i:Int))) (f:=f)
  (fun t x=> .inl (if qXg x=true then t++[(x.1,x.2.1)] else t)) (fun t=>t) (fun i t=>t.length≤i) (by
   intro t i hi hI
   rw[hf]
   simp only
   rw[if_pos (by simp only[j9];omega),qDs hi]
   have ew:IntKind.wrap .i64 ((i:Int)+1)=((i+1:Nat):Int):=by rw[wi64 (by omega) (by omega)];omega
   simp only[j0,ew]
   unfold qXg
   by_cases h1:((E[i]).2.2.1==2)=true
   ·rw[if_pos h1,h1]
    simp only[j0,gC]
    by_cases h2:((E[i]).2.2.2.2.2==1)=true
    ·rw[if_pos h2,if_pos h2,qCr (by simp only[jA,jB];omega) (by omega)]
     rfl
    ·rw[if_neg h2,if_neg h2];rfl
   ·have h1':((E[i]).2.2.1==2)=false:=by simpa using h1
    rw[if_neg h1,h1']
    simp only[j0,Bool.false_and,jC,jP]) (by
   intro t i hi t' hI h
   cases h
   split
   ·simp only[jJ,jA,jB];omega
   ·omega) (by
   intro t hI
   rw[hf]
   simp only
   rw[if_neg (by simp)]) (M:=N) (t:=[]) (by omega) (kG _)
 rw[show((0:Nat):Int)=0 from rfl] at h
 rw[h,qOk (fun t (x:Ent)=>if qXg x=true then t++[(x.1,x.2.1)] else t) (fun _ _=>rfl),qRi qXg (fun x=>(x.1,x.2.1))]
 simp
theorem zGc{N:Nat}{L:List File}(hP:qIu N L)(hN:1000001<N):qIs N L=some (zKs L):=by
 unfold qIs
 rw[qTi hP hN]
 simp only[j0]
 rw[zEk (f:=qJj N (qMd L)) (zBe L) (by omega) (fun _=>rfl)]
 rfl
def qZl(y:Sr×Bool)(e:Ent):Bool:=y.2&&(decide (0≤e.2.2.2.2.1)&&(match y.1.2.2[e.2.2.2.2.1.toNat]? with|some d=>decide (d.1=e.2.2.1)&&decide (d.2.1=e.2.1)|none=>false))
def zKg(L:List File)(e:Ent):Sr×Int×Bool:=if qZl (srcP L e.2.2.2.1) e=true then((srcP L e.2.2.2.1).1,e.2.2.2.2.1,true) else(zGr,0,false)
theorem zJw(y1:Sr×Bool)(p1:Ent):(if(!y1.2)=true then(some true) else(if(decide (p1.2.2.2.2.1<0))=true then(some true) else(if(decide (p1.2.2.2.2.1≥(List.length y1.1.2.2:Int)))=true then(some true) else((idx y1.1.2.2 p1.2.2.2.2.1).bind fun x1=>if(x1.1 !=p1.2.2.1)=true then(some true) else((idx y1.1.2.2 p1.2.2.2.2.1).bind fun x2=>some (!(x2.2.1.toList==p1.2.1.toList)))))):Option (Bool))=some (!qZl y1 p1):=by
 unfold qZl
 cases hy:y1.2 with
 |false=>rfl
 |true=>
  rw[if_neg (by simp)]
  by_cases h0:p1.2.2.2.2.1<0
  ·rw[if_pos (by simpa using h0),kJ (by omega)];rfl
  ·rw[if_neg (by simpa using h0),k9 (show 0≤p1.2.2.2.2.1 by omega)]
   by_cases h1:p1.2.2.2.2.1≥(List.length y1.1.2.2:Int)
   ·rw[if_pos (by simpa using h1),List.getElem?_eq_none (by omega)];rfl
   ·have hlt:p1.2.2.2.2.1.toNat<y1.1.2.2.length:=by omega
    rw[if_neg (by simpa using h1),qRs (by omega) hlt,List.getElem?_eq_getElem hlt]
    simp only[j0,gC,eqB]
    by_cases h2:(y1.1.2.2[p1.2.2.2.2.1.toNat]).1=p1.2.2.1
    ·rw[if_neg (by simpa using h2),k9 h2,gC]
    ·rw[if_pos (by simpa using h2),kJ h2];rfl
theorem zIl{N:Nat}{L:List File}{e:Ent}(hP:qIu N L)(hN:1000001<N):qJl N L e=some (zKg L e):=by
 unfold qJl
 rw[qWz hP hN]
 simp only[j0]
 refine Eq.trans (congrArg (fun z=>Option.bind z _) (zJw (srcP L e.2.2.2.1) e)) ?_
 simp only[j0]
 unfold zKg
 cases qZl (srcP L e.2.2.2.1) e<;>rfl
theorem zDy{N:Nat}{L:List File}(kind:Int)(pkg name:ByteArray)(hP:qIu N L)(hN:1000001<N):qIi N L kind pkg name=some (zEq L kind pkg name):=by
 unfold qIi
 rw[qZq hP hN]
 simp only[j0]
 rw[zJi]
 rfl
theorem qZu{N:Nat}{L:List File}(h:∀f∈L,f.1.size≤1048576)(hN:3000000<N):qIu N L:=fun g hg=>zBv (by have:=h g hg;omega) (by have:=h g hg;omega)
theorem zEe{p:ByteArray}(h:qJb p.data.toList=true):p.size≤80:=by
 have:p.data.toList.length≤80:=(kL h).1
 have e:=qCk p
 omega
theorem zBt{N K:Nat}{L:List File}(h:MadeE K L)(hN:10000<N):qIu N L:=fun g hg=>by
 have:=zEe (h.2 g hg).1
 exact zBv (by omega) (by omega)
def wA:List File:=[((⟨#[97,46,115,114,99]⟩:ByteArray),(⟨#[112,97,99,107,97,103,101,32,112,59,32,102,117,110,99,32,102,40,41,32,61,32,49,59,32,116,101,115,116,32,116,32,61,32,102,40,41,59]⟩:ByteArray)),((⟨#[98,46,115,114,99]⟩:ByteArray),(⟨#[112,97,99,107,97,103,101,32,112,59,32,102,117,110,99,32,102,40,41,32,61,32,50,59]⟩:ByteArray)),((⟨#[99,46,115,114,99]⟩:ByteArray),(⟨#[102,117,110,99]⟩:ByteArray))]
theorem zKz:zEq wA 1 (⟨#[112]⟩:ByteArray) (⟨#[102]⟩:ByteArray)=((⟨#[112]⟩:ByteArray),(⟨#[102]⟩:ByteArray),1,(⟨#[97,46,115,114,99]⟩:ByteArray),0,2):=by kernel_rfl
theorem zIz:zKs wA=[((⟨#[112]⟩:ByteArray),(⟨#[116]⟩:ByteArray))]:=by kernel_rfl
theorem zHn:qPx wA=[(⟨#[99,46,115,114,99]⟩:ByteArray)]:=by kernel_rfl
theorem zLo{N:Nat}(h1:qIi N wA 1 (⟨#[112]⟩:ByteArray) (⟨#[102]⟩:ByteArray)=some ((⟨#[112]⟩:ByteArray),(⟨#[102]⟩:ByteArray),1,(⟨#[97,46,115,114,99]⟩:ByteArray),0,2))(h2:qIs N wA=some [((⟨#[112]⟩:ByteArray),(⟨#[116]⟩:ByteArray))])(h3:qGt N wA=some [(⟨#[99,46,115,114,99]⟩:ByteArray)]):qFs N=some true:=by
 unfold qFs
 refine Eq.trans (congrArg (fun z=>Option.bind z _) h1) ?_
 simp only[j0]
 refine Eq.trans (congrArg (fun z=>Option.bind z _) h2) ?_
 simp only[j0]
 refine Eq.trans (congrArg (fun z=>Option.bind z _) h3) ?_
 simp only[j0]
 refine Eq.trans (b:=some true) ?_ rfl
 kernel_rfl
theorem zJj{N:Nat}(hN:3000000<N):qFs N=some true:=by
 have hP:qIu N wA:=qZu (fun f hf=>by
  simp only[wA,jH,gB,or_false] at hf
  rcases hf with rfl|rfl|rfl<;>decide) hN
 exact zLo (by rw[zDy _ _ _ hP (by omega),zKz]) (by rw[zGc hP (by omega),zIz]) (by rw[qXd hP (by omega),zHn])
end
section
open Go Go.Dc Go.Proofs
theorem zDp{κ:Type}(g h:κ→Nat):∀K:List κ,(K.map fun c=>g c+h c).sum=(K.map g).sum+(K.map h).sum
 |[]=>rfl
 |c::K=>by
  have ih:=zDp g h K
  simp only[jT,gI,ih];omega
theorem qZv{κ:Type}[DecidableEq κ]{a:κ}:∀{K:List κ},a∉K→(K.map fun c=>if a=c then 1 else 0).sum=0
 |[],_=>rfl
 |c::K,h=>by
  have h1:a≠c:=fun e=>h (by rw[e];exact jI ..)
  have ih:=qZv (a:=a) (K:=K) fun g=>h (jK _ g)
  simp only[jT,gI,if_neg h1,ih]
theorem zDi{κ:Type}[DecidableEq κ]{a:κ}:∀{K:List κ},K.Nodup→a∈K→(K.map fun c=>if a=c then 1 else 0).sum=1
 |[],_,h=>by cases h
 |c::K,hn,h=>by
  obtain⟨h1,h2⟩:=kY.1 hn
  by_cases e:a=c
  ·rw[←e] at h1
   simp only[jT,gI,if_pos e,qZv h1]
  ·have h3:a∈K:=(jH.1 h).resolve_left e
   simp only[jT,gI,if_neg e,zDi h2 h3]
theorem qVm{α κ:Type}[DecidableEq κ](f:α→κ){K:List κ}(hK:K.Nodup):∀(O:List α),(∀o∈O,f o∈K)→(K.map fun c=>O.countP fun o=>decide (f o=c)).sum=O.length
 |[],_=>by
  have:∀K:List κ,(K.map fun _=>0).sum=0:=fun K=>by
   induction K with
   |nil=>rfl
   |cons c K ih=>simp only[jT,gI,ih]
  simp only[List.countP_nil,jB,this]
 |o::O,h=>by
  have ih:=qVm f hK O fun x hx=>h x (jK _ hx)
  have e:(fun c=>(o::O).countP fun o=>decide (f o=c))=fun c=>(O.countP fun o=>decide (f o=c))+(if f o=c then 1 else 0):=by
   funext c
   rw[fV]
   by_cases h:f o=c
   ·simp[h]
   ·simp[h]
  rw[e,zDp,ih,zDi hK (h o (jI ..)),jA]
def occE(e:Ent):Occ:=(e.1,e.2.1,e.2.2.1,e.2.2.2.1,e.2.2.2.2.1)
theorem zLj{O:List Occ}{k:Int}{p n:ByteArray}(h:(entE O k p n).2.2.2.2.2≠0):∃o∈O,okey o=keyC k p n∧occE (entE O k p n)=o:=by
 suffices g:∀(O J:List Occ) (e:Ent),(0≤e.2.2.2.2.2)→(e.2.2.2.2.2≠0→∃o∈J,okey o=keyC k p n∧occE e=o)→(O.foldl (seeE k p n) e).2.2.2.2.2≠0→∃o∈J++O,okey o=keyC k p n∧occE (O.foldl (seeE k p n) e)=o by
  have:=g O [] (noE k p n) (Int.le_refl 0) (fun h=>absurd rfl h) h
  rwa[k0] at this
 intro O
 induction O with
 |nil=>intro J e _ h0 h1;rw[List.append_nil];exact h0 h1
 |cons o O ih=>
  intro J e hp h0 h1
  rw[show J++o::O=(J++[o])++O by simp,jM]
  rw[jM] at h1
  refine ih (J++[o]) (seeE k p n e o) ?_ ?_ h1
  ·unfold seeE
   split
   ·split
    ·exact(show(0:Int)≤1 by decide)
    ·simp only[];omega
   ·exact hp
  ·unfold seeE
   by_cases hk:okey o=keyC k p n
   ·rw[if_pos hk]
    by_cases hz:e.2.2.2.2.2=0
    ·rw[if_pos hz]
     intro _
     obtain⟨e1,e2,-⟩:=qRr (show keyC o.2.2.1 o.1 o.2.1=keyC k p n from hk)
     refine⟨o,by simp,hk,?_⟩
     unfold occE
     simp only
     rw[←e1,←e2]
    ·rw[if_neg hz]
     intro _
     obtain⟨o',m1,m2,m3⟩:=h0 hz
     exact⟨o',kS _ m1,m2,m3⟩
   ·rw[if_neg hk]
    intro hz
    obtain⟨o',m1,m2,m3⟩:=h0 hz
    exact⟨o',kS _ m1,m2,m3⟩
theorem zAd{path pkg:ByteArray}{o:Occ}:∀{l:List Dl} {i:Nat},o∈qWa path pkg i l→∃j d,l[j]? =some d∧o=(pkg,d.2.1,d.1,path,((i+j:Nat):Int))
 |[],_,h=>by cases h
 |d::l,i,h=>by
  rcases jH.1 h with rfl|h
  ·exact⟨0,d,rfl,rfl⟩
  ·obtain⟨j,d',h1,h2⟩:=zAd h
   exact⟨j+1,d',by simpa using h1,by rw[h2,show i+1+j=i+(j+1) by omega]⟩
theorem zIi{L:List File}{o:Occ}(h:o∈qIc (qEb L)):∃f∈L,qLf f=true∧∃(j:Nat) (d:Dl),(qGf f.2).1.2.2[j]? =some d∧o=((qGf f.2).1.1,d.2.1,d.1,f.1,(j:Int)):=by
 unfold qIc at h
 obtain⟨x,hx,h⟩:=List.mem_flatMap.1 h
 obtain⟨f,hf,hg,rfl⟩:=qVl hx
 obtain⟨j,d,h1,h2⟩:=zAd h
 exact⟨f,hf,hg,j,d,h1,by rw[h2,kO]⟩
theorem qZc{L:List File}(hc:qFv L=0){e:Ent}:e∈qMd L↔∃o∈qIc (qEb L),e=entO (qIc (qEb L)) o:=by
 unfold qMd
 rw[if_pos hc]
 exact(qQp _).2.2.1 e
theorem zEy{L:List File}:((qMd L).map keyV).Nodup:=by
 unfold qMd
 split
 ·refine List.pairwise_map.2 ((qQp _).2.1.imp fun {x y} h e=> ?_)
  have:=qQo.2 e
  unfold bE at h
  have:=kL h
  omega
 ·exact kQ
theorem qTz{L:List File}(hc:qFv L=0){e:Ent}(he:e∈qMd L):
  1≤e.2.2.2.2.2∧e.2.2.2.2.2=((qIc (qEb L)).countP fun o=>decide (okey o=keyV e):Nat)∧zEq L e.2.2.1 e.1 e.2.1=e∧zKg L e=((srcP L e.2.2.2.1).1,e.2.2.2.2.1,true)∧
  (srcP L e.2.2.2.1).1.1=e.1∧0≤e.2.2.2.2.1∧∃d,(srcP L e.2.2.2.1).1.2.2[e.2.2.2.2.1.toNat]? =some d∧d.1=e.2.2.1∧d.2.1=e.2.1:=by
 obtain⟨o,ho,rfl⟩:=(qZc hc).1 he
 have hk:keyV (entO (qIc (qEb L)) o)=okey o:=qPr ..
 have hp:(entO (qIc (qEb L)) o).2.2.2.2.2≠0:=zCz.2 ⟨o,ho,rfl⟩
 obtain⟨o',m1,m2,m3⟩:=zLj hp
 have hcnt:(entO (qIc (qEb L)) o).2.2.2.2.2=((qIc (qEb L)).countP fun o'=>decide (okey o'=okey o):Nat):=qXa ..
 obtain⟨f,hf,hg,j,d,g1,g2⟩:=zIi m1
 have hs:=zDs hc hf
 refine⟨by omega,by rw[hcnt,hk],?_,?_⟩
 ·unfold zEq
  rw[if_pos hc]
  exact qWf hk
 ·rw[g2] at m3
  have m3:occE (entO (qIc (qEb L)) o)=_:=m3
  generalize entO (qIc (qEb L)) o=e at*
  obtain⟨e1,e2,e3,e4,e5,e6⟩:=e
  simp only[occE,Prod.mk.injEq] at m3
  obtain⟨rfl,rfl,rfl,rfl,rfl⟩:=m3
  have g1':(srcP L f.1).1.2.2[j]? =some d:=by rw[hs.2 hg];exact g1
  refine⟨?_,?_,Int.natCast_nonneg j,d,?_,rfl,rfl⟩
  ·unfold zKg
   rw[if_pos]
   unfold qZl
   simp only[kC,g1',decide_true,Bool.and_true,hs.1,hg,gC]
   exact k9 (Int.natCast_nonneg j)
  ·rw[hs.2 hg]
  ·rw[kC];exact g1'
theorem zEw{L:List File}(hc:qFv L=0):((qMd L).map fun e=>e.2.2.2.2.2.toNat).sum=(qIc (qEb L)).length:=by
 have h1:(qMd L).map (fun e=>e.2.2.2.2.2.toNat)=((qMd L).map keyV).map fun c=>(qIc (qEb L)).countP fun o=>decide (okey o=c):=by
  rw[fR]
  refine kP fun e he=> ?_
  have:=(qTz hc he).2.1
  simp only[Function.comp]
  omega
 rw[h1]
 refine qVm okey zEy _ fun o ho=> ?_
 refine kZ.2 ⟨entO (qIc (qEb L)) o,(qZc hc).2 ⟨o,ho,rfl⟩,qPr ..⟩
theorem qWu:∀(L:List File),(qIc (qEb L)).length=(L.map fun f=>if qLf f=true then(qGf f.2).1.2.2.length else 0).sum
 |[]=>rfl
 |f::L=>by
  have ih:=qWu L
  unfold qEb qIc at*
  rw[kH,jT,gI]
  by_cases h:qLf f=true
  ·rw[if_pos h,if_pos h,jT,kM,jJ,qUu,ih]
  ·rw[if_neg h,if_neg h,ih,kO]
theorem zMi{L:List File}(hc:qFv L=0){f:File}(hf:f∈L):(srcP L f.1).1.2.2.length=if qLf f=true then(qGf f.2).1.2.2.length else 0:=by
 have hs:=zDs hc hf
 by_cases h:qLf f=true
 ·rw[if_pos h,hs.2 h]
 ·rw[if_neg h]
  unfold srcP
  rw[if_pos hc,qOu (qFk.1 hc).2.1 hf]
  simp only
  by_cases h2:qDm f.1=true
  ·rw[if_pos h2]
   unfold qLf at h
   rw[h2,gC] at h
   have h3:(qGf f.2).2.2≠0:=fun e=>h (by rw[e];rfl)
   unfold qGf at h3 ⊢
   split
   ·rfl
   ·rename_i h4
    rw[if_neg h4] at h3
    revert h3
    cases zBs (qHn f.2).1 with
    |inl z=>intro _;rfl
    |inr g=>intro h3;exact absurd rfl h3
  ·rw[if_neg h2];rfl
theorem zHc{L:List File}(hc:qFv L=0):(qLw L).Nodup∧∀p,p∈qLw L↔p∈zAc L:=by
 unfold qLw
 rw[if_pos hc]
 obtain⟨h1,h2⟩:=qUc (zAc L) [] List.Pairwise.nil
 exact⟨h1.imp fun h=>qWl h,fun p=>by rw[h2 p];simp⟩
theorem zBh{L:List File}(hc:qFv L=0):((qLw L).map fun p=>(qRa L p).length).sum=(L.filter qLf).length:=by
 obtain⟨h1,h2⟩:=zHc hc
 have e:(qLw L).map (fun p=>(qRa L p).length)=(qLw L).map fun p=>(L.filter qLf).countP fun f=>decide ((qGf f.2).1.1=p):=by
  refine kP fun p _=> ?_
  unfold qRa
  rw[if_pos hc,List.countP_eq_length_filter,List.filter_filter]
  congr 2
  funext f
  unfold zFc
  rw[Bool.and_comm]
 rw[e]
 refine qVm (fun f:File=>(qGf f.2).1.1) h1 _ fun f hf=>(h2 _).2 ?_
 unfold zAc qEb
 rw[fR]
 exact kZ.2 ⟨f,hf,rfl⟩
theorem qUn:∀(L:List File),(qIh L).length+(L.filter qLf).length=L.countP fun f=>qDm f.1
 |[]=>rfl
 |f::L=>by
  have ih:=qUn L
  unfold qIh at*
  rw[kH,kH,fV]
  unfold qLf at*
  rw[kE] at*
  cases qDm f.1<;>cases decide ((qGf f.2).2.2=0)<;>simp<;>omega
end
end Go.Proofs.YtcdpbapbpcpflaaGreatDoor
