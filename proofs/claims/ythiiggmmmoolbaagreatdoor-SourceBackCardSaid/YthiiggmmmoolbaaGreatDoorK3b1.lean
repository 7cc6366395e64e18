/- No condition but those of each theorem. -/
import Derived.Test.YthiiggmmmoolbaaGreatDoorProg
import Derived.WalkKit
import Derived.Deep.LoopGhost
import Derived.KernelRfl
import Derived.OrdersHeld
import Derived.OrdersIn
import Derived.LoopNIn
import Derived.Sort.LoopGhostIn
import Derived.Laws.AppendOwn
import Derived.RangeFuncLeaves
import Derived.RangeFuncRecord
import Derived.MapKept
import Derived.Maps.RangeRun
import Derived.ChangeKeysEq
import Derived.HandedShaped
import Derived.ChangeStays
import Derived.ChangeSame
import Derived.OpenShut
import Derived.WideShapes
import Derived.JoinedOf
import Derived.ReadAgain
import Derived.ChangeAt
import Derived.RowKit
import Derived.Lib.Overlaps
import Derived.Shelf.Sort.Plain
import Derived.Shelf.Slices.In.SortNone
import Derived.WalkSmall
import Derived.Recover
import Derived.Lib.Builder
import Derived.Lib.UnsafeStr
import Derived.Shelf.Strconv.Itoa3
import Derived.Room.Shelf.Join48
import Derived.Test.YthiiggmmmoolbaaGreatDoorK2b1
namespace Go.Proofs.YthiiggmmmoolbaaGreatDoor
section
open Go Go.Dc Go.Proofs.Tryz
set_option maxHeartbeats 4000000
set_option maxRecDepth 100000
variable {N c1 c2 bp0 c3 c4:Nat} {m:Mem} {O:List Piece} {w:World} {a1 a2 a3 a4:Option Addr}
def vK(N:Nat)(p0:Ts)(a:AI):Option (AI⊕Tt):=
 if(decide (a.1<(List.length p0.2.1:Int)))=true then((idx p0.2.1 a.1).bind fun x1=>(bR (⟨#[105,109,112,111,114,116,32]⟩:BA) x1).bind fun b=>(bR b (⟨#[59,10]⟩:BA)).bind fun b=>(cF 1 a.2 b.data.toList).bind fun b=>some (.inl (IntKind.wrap .i64 (a.1+1),b))) else(some (.inr a.2))
def vL(N:Nat)(p0:Ts)(b:AI):Option (AI⊕Tt⊕Tx):=
 if(decide (b.1<(List.length p0.2.2:Int)))=true then((idx p0.2.2 b.1).bind fun a=>(CL N a.2.2.2 a.2.2.1).bind fun d=>if(decide (d.2>32))=true then(some (.inr (.inr (((⟨#[]⟩:BA),2))))) else((if(a.1==1)=true then((bR (⟨#[102,117,110,99,32]⟩:BA) a.2.1).bind fun c=>(bR c (⟨#[40]⟩:BA)).bind fun c=>(rX N a.2.2.1 (⟨#[44,32]⟩:BA)).bind fun e=>(bR c e).bind fun c=>(bR c (⟨#[41]⟩:BA)).bind fun c=>(cF 1 b.2 c.data.toList).bind fun c=>some c) else(if(a.1==2)=true then((bR (⟨#[116,101,115,116,32]⟩:BA) a.2.1).bind fun c=>(cF 1 b.2 c.data.toList).bind fun c=>some c) else((bR (⟨#[103,101,110,32,34]⟩:BA) a.2.1).bind fun a=>(bR a (⟨#[34]⟩:BA)).bind fun a=>(cF 1 b.2 a.data.toList).bind fun a=>some a)):Option Tt).bind fun c=>(bR (⟨#[32,61,32]⟩:BA) d.1).bind fun a=>(bR a (⟨#[59,10]⟩:BA)).bind fun a=>(cF 1 c a.data.toList).bind fun a=>some (.inl (IntKind.wrap .i64 (b.1+1),a)))) else(some (.inr (.inl b.2)))
def qD(N:Nat)(p0:Ts):Option Tx:=
 (sW N p0).bind fun y1=>if(y1 !=0)=true then(some ((⟨#[]⟩:BA),y1)) else((bR (⟨#[112,97,99,107,97,103,101,32]⟩:BA) p0.1).bind fun a=>(bR a (⟨#[59,10]⟩:BA)).bind fun a=>(cF 1 ([]:Tt) a.data.toList).bind fun a=>(aS (vK N p0) N (0,a)).bind fun a=>(aS (vL N p0) N (0,a)).bind fun a=>(match a with| .inl a=>if(decide ((List.length a:Int)>16384))=true then(some ((⟨#[]⟩:BA),2)) else((EG a).bind fun b=>some (eW a,0))| .inr (z)=>some z))
theorem FI{p0:Ts}{r:Tx}(g:St m (O) w)(r1:RepS aF m a1 c1 p0.2.1)(p:RepS C3 m a2 c2 p0.2.2)(i:qD N p0=some r):Calls prog 8 #[.agg (V2 p0 a1 c1 a2 c2)] w fun e w'=>∃m',e= .returned (.tuple #[vT r.1,vI r.2])/\m.le m'/\St m' (O) w':=by
 unfold qD at i;have q:=m.le_refl;refine bK func8 rfl ntmps8 ?_;refine aD (mB 1 29 (.agg (V2 p0 a1 c1 a2 c2)) g fun b1 m1 w1 z g o=>(aI 2 [] (aG (aD (bX 12 (.agg (V2 p0 a1 c1 a2 c2)) g o (aR 13 i (MS (p0:=p0) g (r1.mono z) (p.mono z)) ?_))))));rintro y1 i _ w2 ⟨m2,rfl,K,g⟩;have o:=o.mono K;refine aI 1 [(4,vI y1)] (aD (aI 2 [(15,vB (y1 !=0))] (aH i ?_ ?_)))
 .intro A i;refine aB 3 [(2,vT eB),(3,vI y1)] (aK ?_);refine aV ?_;obtain rfl:=sI i;exact aN [2,3] [vT eB,vI y1] ⟨m2,rfl,(q.t z).t K,g⟩
 intro A i;refine aM (aE (aD (dS 5 66 (.agg #[.pointer none,v8]) g fun a w3 g=>(aO (aD (aA 1 [(17,vP b1 0)] (bX 18 (vT p0.1) g o (dX 19 i fun s1 i=>(dX 20 i fun s2 i=>(aQ rfl (cS 21 33 #[vP a 0,vT s2] kr rfl (bK func33 rfl ntmps33 (aB 2 [] (aD (aA 1 [(6,vP a 0)] (aQ rfl (cS 7 76 #[vP a 0] kr rfl ((mV (c0:=(bV false a)) (R:=[vc]) (mZ false a kr) g).mono ?_))))))))))))))))));rintro _ w4 ⟨m3,rfl,M,g⟩;refine⟨_,rfl,?_⟩;have g:St m3 (kB a #[.pointer (bV true a),vc] 66::O) w4:=g;refine aO (aD (aA 4 [(8,vP a 0),(11,vP a 1)] (bA 12 (vc) g.h (aA 1 [(13,vT s2)] (iG 14 64 9 5 1 12 13 (g.nilroom 5 1) (.inr kr) (RepS.nil _ _) (Gives.str _) i fun l1 i a3 c3 m4 w5 S g r3=>(aA 2 [(16,vP a 1)] (cX #[.pointer (bV true a),vS a3 l1 c3] g.f1 fun w6 g=>(aO (aD (aI 4 [(4,vI (s2.size:Int)),(5,.nilIface)] (aK (aN [4,5] [vI (s2.size:Int),.nilIface] (⟨_,rfl,?_⟩)))))))))))))
 refine aO (aG (aX 1 [(22,vP b1 1)] (bX 23 (vS a1 p0.2.1 c1) g (((o.mono M).mono S).drop 1) (aI 2 [(24,vI (p0.2.1.length:Int)),(25,vI 0)] (bJ (cY (.exit 0) i (fun b6 L' w'=>∃(o1:Tt),∃a4 c4 m5,o1=b6/\L'=[(1,vP b1 0),(5,vP a 0)]/\m.le m5/\St m5 (kB a #[.pointer (bV true a),vS a4 o1 c4] 66::kR a4 o1 c4 5 1::O) w'/\MRow m5 b1 0 (V8 p0 a1 c1 a2 c2)/\RepS aF m5 a1 c1 p0.2.1/\RepS C3 m5 a2 c2 p0.2.2/\RepS iL m5 a4 c4 o1) ?_ ?_))))))
 .rintro b6 i _ w7 ⟨o1,a4,c4,m5,rfl,rfl,q,g,o,r1,p,r4⟩;refine dT (aE (aG (aX 1 [(34,vP b1 2)] (bX 35 (vS a2 p0.2.2 c2) g (o.drop 2) (aI 2 [(36,vI (p0.2.2.length:Int)),(37,vI 0)] (bJ ?_))))));have⟨d1,i,j2⟩:=aW i;refine cZ (.exit 2) (fun L' w'=>∃(f:Tt),∃Z c7 m9,(.inl f)=d1/\L'=[(5,vP a 0)]/\m.le m9/\St m9 (kB a #[.pointer (bV true a),vS Z f c7] 66::kR Z f c7 5 1::O) w'/\RepS iL m9 Z c7 f) ?_ ?_
  .rintro _ n ⟨f,Z,c7,m9,rfl,rfl,q,g,l⟩;have i:=j2;refine dT (aE (aG (aD (aQ rfl (cS 81 36 #[vP a 0] kr rfl (bK func36 rfl ntmps36 (aB 1 [] (aD (cU 3 6 64 5 1 (vS Z f c7) g.h (aI 2 [(2,vI (f.length:Int))] (aK (aN [2] [vI (f.length:Int)] (⟨_,rfl,?_⟩)))))))))))));refine aI 1 [(82,vB (decide ((f.length:Int)>16384)))] (aH i ?_ ?_)
   .intro A i;refine aB 2 [(2,vT eB),(3,vI 2)] (aK ?_);refine aV ?_;cases i;exact aN [2,3] [vT eB,vI 2] ⟨m9,rfl,q,g.t.t⟩
   intro A i;refine aM (aE (aD (aQ rfl (cS 83 37 #[vP a 0] kr rfl (bK func37 rfl ntmps37 (aB 1 [] (aG (eA [(12,fun w'=>Inv m9 w'/\Piece.holds m9 w' (kB a #[.pointer (bV true a),vS Z f c7] 66)/\True)] kr g fun s _ g=> ?_))))))));have b:=m9.le_refl;refine⟨⟨.inr ⟨Inv.anti g.inv b,Piece.holds_anti g.h b,trivial⟩,trivial⟩,?_⟩;refine aJ 0 3 (vP a 0) (.head _) (aJ 1 4 (vP a 0) (.head _) (aJ 2 5 (vP a 1) (.head _) (dY 64 5 3 6 1 (vS Z f c7) (.head _) (fun _ h=>h.2.1) (aJ 5 8 (vP a 0) (.head _) (aJ 6 9 (vP a 0) (.head _) (aJ 7 10 (vP a 1) (.head _) (dY 64 10 8 11 1 (vS Z f c7) (.head _) (fun _ h=>h.2.1) (aJ 9 12 (vI (f.length:Int)) (.head _) ?_))))))));have⟨v,k,i⟩:=aW i;have c:=SM k;refine bU 4 kr (NA (d:=7) (t:=64) (x:=(.tmp 6)) kr rfl (ev (vS Z f c7)) l c (⟨⟨.inr ⟨Inv.anti g.inv b,Piece.holds_anti g.h b,trivial⟩,trivial⟩,?_⟩));refine bU 10 kr (MP (d:=13) (pt:=118) (it:=3) (e:=5) (x:=(.tmp 7)) (y:=(.tmp 12)) kr rfl (ev (.pointer Z)) (ev (vI (f.length:Int))) g.f1 l c kr kr fun u g=>(⟨⟨.inr ⟨Inv.anti g.inv b,Piece.holds_anti g.h b,trivial⟩,trivial⟩,?_⟩));refine aJ 11 2 (vT (eW f)) (.head _) (dW kr (aE (aK (aN [2] [vT (eW f)] (⟨_,rfl,?_⟩)))));refine aI 2 [(2,vT (eW f)),(3,vI 0)] (aK ?_);obtain rfl:=sI i;exact aN [2,3] [vT (eW f),vI 0] ⟨m9,rfl,q,g.t⟩
  intro d2;refine dQ _ kr (dP (fun k2 L' w'=>∃(c:AI),∃l n b0,aS (vL N p0) k2 c=some d1/\L'=[(5,vP a 0),(35,vS a2 p0.2.2 c2),(36,vI (p0.2.2.length:Int)),(37,vI c.1)]/\m.le b0/\St b0 (kB a #[.pointer (bV true a),vS l c.2 n] 66::kR l c.2 n 5 1::O) w'/\RepS C3 b0 a2 c2 p0.2.2/\RepS iL b0 l n c.2) N ⟨(0,o1),a4,c4,m5,i,rfl,q,g.f1.f1,p,r4⟩ ?_);rintro k2 _ e5 ⟨c,l,n,b0,hL,rfl,q,g,p,r8⟩;rcases k2 with _|k2
  .exact dU hL
  obtain⟨e4,i,d5,d0⟩:=dV hL;clear hL;unfold vL at i;refine aB 1 [(38,vB (decide (c.1<(p0.2.2.length:Int))))] (aG ?_);refine aH i ?_ ?_
  .intro A i;refine aM (aE (aG (bJ (aD (eU 39 p i ?_)))));rintro k i b4 f2 e1 ⟨_,_,rfl,rfl,⟨_,_,rfl,rfl,⟨_,_,rfl,⟨G,H,rfl,r9⟩,⟨s,u,rfl,Y⟩⟩⟩⟩ d6;refine iD 40 43 39 f2 (.agg (V6 k G H s u)) g d6 (dS 9 43 (.agg #[vI 0,vT eB,v8,v8]) g fun b5 e6 g=>(cM (.agg (V6 k G H s u)) g fun e7 g=>(aO (aD (cU 1 43 41 42 3 (vS s k.2.2.2 u) g.h (cU 1 45 26 44 2 (vS G k.2.2.1 H) g.h (aR 46 i (XD g Y r9) ?_)))))));rintro y2 i _ e8 ⟨b7,rfl,U,g⟩;have q:=q.t U;have p:=p.mono U;have Y:=Y.mono U;have r9:=r9.mono U;have r8:=r8.mono U;refine aI 5 [(10,vT y2.1),(11,vI y2.2)] (aG (aB 2 [(50,vB (decide (y2.2>32)))] (aH i ?_ ?_)))
   .intro A i;refine aB 2 [(2,vT eB),(3,vI 2)] (aK ?_);refine aV (bM (aV ?_));have ho:=d0 _ (sI i);subst ho;have i:=j2;refine aV (bM (aV ?_));cases i;exact aN [2,3] [vT eB,vI 2] ⟨b7,rfl,q,g.t.t.t⟩
   intro A i;refine aM (aE (aG (aD (cU 1 52 3 51 0 (vI k.1) g.h (aO (cY .normal i (fun o3 L' w'=>∃E F V,L'=[(5,vP a 0),(10,vT y2.1),(35,vS a2 p0.2.2 c2),(36,vI (p0.2.2.length:Int)),(37,vI c.1)]/\m.le V/\St V (kB b5 (V6 k G H s u) 43::kB a #[.pointer (bV true a),vS E o3 F] 66::kR E o3 F 5 1::O) w'/\RepS C3 V a2 c2 p0.2.2/\RepS aF V G H k.2.2.1/\RepS C2 V s u k.2.2.2/\RepS iL V E F o3) ?_ ?_))))))
   .rintro o3 i _ e0 ⟨E,F,V,rfl,q,g,p,r9,Y,d4⟩;refine aE (aZ (aA 1 [(76,vT y2.1)] (dX 77 i fun d9 i=>(dX 78 i fun B i=>(aQ rfl (cS 79 33 #[vP a 0,vT B] kr rfl (bK func33 rfl ntmps33 (aB 2 [] (aD (aA 1 [(6,vP a 0)] ?_))))))))));have g:=g.f1;refine aQ rfl (cS 7 76 #[vP a 0] kr rfl ((mV (c0:=(bV true a)) (R:=[vS E o3 F]) (mZ true a kr) g).mono ?_));rintro _ d8 ⟨b9,rfl,b,g⟩;refine⟨_,rfl,?_⟩;have g:St b9 (kB a #[.pointer (bV true a),vS E o3 F] 66::kB b5 (V6 k G H s u) 43::kR E o3 F 5 1::O) d8:=g;refine aO (aD (aA 4 [(8,vP a 0),(11,vP a 1)] (bA 12 (vS E o3 F) g.h (aA 1 [(13,vT B)] (iG 14 64 9 5 1 12 13 g.f2 (.inr kr) (d4.mono b) (Gives.str _) i fun l6 i D b8 d3 e2 v g d7=>(aA 2 [(16,vP a 1)] (cX #[.pointer (bV true a),vS D l6 b8] g.f1 fun e9 g=>(aO (aD (aI 4 [(4,vI (B.size:Int)),(5,.nilIface)] (aK (aN [4,5] [vI (B.size:Int),.nilIface] (⟨_,rfl,?_⟩)))))))))))));refine aU rfl (bO (aE (aZ (aA 2 [(37,vI (wr (c.1+1)))] (aU rfl ?_)))));have hL:=d5 _ (sI i);exact xE (dN ⟨(wr (c.1+1),l6),D,b8,d3,hL,rfl,(q.t b).t v,g.f2.t.f1.f1,(p.mono b).mono v,d7⟩)
   intro o3 i b9;refine bJ (aB 2 [(58,vB (k.1==1))] (aH i ?_ ?_))
   .intro A i;refine eA [(10,fun w'=>Inv b7 w'/\Piece.holds b7 w' (kB b5 (V6 k G H s u) 43)/\True)] kr g fun e9 _ g=> ?_;have b:=b7.le_refl;refine⟨⟨.inr ⟨Inv.anti g.inv b,Piece.holds_anti g.h b,trivial⟩,trivial⟩,?_⟩;refine aJ 0 60 (vP b5 1) (.head _) (dY 9 60 1 61 1 (vT k.2.1) (.head _) (fun _ h=>h.2.1) (eJ 9 9 ((.const (vT (⟨#[102,117,110,99,32]⟩:BA)))) 61 2 62 (.head _) i fun s7 i=>(eJ 9 9 62 ((.const (vT EO))) 3 63 (.head _) i fun s8 i=>(aJ 4 64 (vP b5 2) (.head _) (dY 26 64 5 65 2 (vS G k.2.2.1 H) (.head _) (fun _ h=>h.2.1) (bU 6 kr (iO 66 i (fun _ h=>XE g r9 h) ?_)))))));rintro y3 i _ f0 ⟨e2,rfl,B,g⟩;refine⟨_,rfl,?_⟩;have b:=Mem.le_trans b B;refine⟨⟨.inr ⟨Inv.anti g.inv b,Piece.holds_anti g.h b,trivial⟩,trivial⟩,?_⟩;refine eJ 9 9 63 66 7 67 (.head _) i fun s9 i=> ?_;refine eJ 9 9 67 ((.const (vT EQ))) 8 68 (.head _) i fun b8 i=> ?_;refine bU 9 kr (cS 69 33 #[vP a 0,vT b8] kr rfl (bK func33 rfl ntmps33 (aB 2 [] (aD (aA 1 [(6,vP a 0)] ?_)))));have g:=g.f1;refine aQ rfl (cS 7 76 #[vP a 0] kr rfl ((mV (c0:=(bV true a)) (R:=[vS l c.2 n]) (mZ true a kr) g).mono ?_));rintro _ e0 ⟨d7,rfl,D,g⟩;refine⟨_,rfl,?_⟩;have b:=Mem.le_trans b D;have g:St d7 (kB a #[.pointer (bV true a),vS l c.2 n] 66::kB b5 (V6 k G H s u) 43::kR l c.2 n 5 1::O) e0:=g
    refine aO (aD (aA 4 [(8,vP a 0),(11,vP a 1)] (bA 12 (vS l c.2 n) g.h (aA 1 [(13,vT b8)] (iG 14 64 9 5 1 12 13 g.f2 (.inr kr) ((r8.mono B).mono D) (Gives.str _) i fun l3 i d3 d4 d8 f3 v g d9=> ?_)))));have b:=Mem.le_trans b v;refine aA 2 [(16,vP a 1)] (cX #[.pointer (bV true a),vS d3 l3 d4] g.f1 fun f4 g=>(aO (aD (aI 4 [(4,vI (b8.size:Int)),(5,.nilIface)] (aK (aN [4,5] [vI (b8.size:Int),.nilIface] (⟨_,rfl,?_⟩)))))));refine⟨⟨.inr ⟨Inv.anti g.inv b,Piece.holds_anti g.t.t.h b,trivial⟩,trivial⟩,?_⟩;refine dW kr ?_;refine bO ?_;cases i;exact xE (b9 _ _ ⟨d3,d4,d8,rfl,((q.t B).t D).t v,g.f1.f1.f2,((p.mono B).mono D).mono v,((r9.mono B).mono D).mono v,((Y.mono B).mono D).mono v,d9⟩)
   intro A i;refine aB 2 [(70,vB (k.1==2))] (aH i ?_ ?_)
   .intro A i;refine aZ (cU 1 73 9 72 1 (vT k.2.1) g.h (dX 74 i fun B i=>(aQ rfl (cS 75 33 #[vP a 0,vT B] kr rfl (bK func33 rfl ntmps33 (aB 2 [] (aD (aA 1 [(6,vP a 0)] ?_))))))));have g:=g.f1;refine aQ rfl (cS 7 76 #[vP a 0] kr rfl ((mV (c0:=(bV true a)) (R:=[vS l c.2 n]) (mZ true a kr) g).mono ?_));rintro _ d8 ⟨d3,rfl,b,g⟩;refine⟨_,rfl,?_⟩;have g:St d3 (kB a #[.pointer (bV true a),vS l c.2 n] 66::kB b5 (V6 k G H s u) 43::kR l c.2 n 5 1::O) d8:=g;refine aO (aD (aA 4 [(8,vP a 0),(11,vP a 1)] (bA 12 (vS l c.2 n) g.h (aA 1 [(13,vT B)] (iG 14 64 9 5 1 12 13 g.f2 (.inr kr) (r8.mono b) (Gives.str _) i fun l4 i D b8 d4 d9 v g d7=>(aA 2 [(16,vP a 1)] (cX #[.pointer (bV true a),vS D l4 b8] g.f1 fun e0 g=>(aO (aD (aI 4 [(4,vI (B.size:Int)),(5,.nilIface)] (aK (aN [4,5] [vI (B.size:Int),.nilIface] (⟨_,rfl,?_⟩)))))))))))));refine aU rfl (bO ?_);cases i;exact xE (b9 _ _ ⟨D,b8,d4,rfl,(q.t b).t v,g.f1.f1.f2,(p.mono b).mono v,(r9.mono b).mono v,(Y.mono b).mono v,d7⟩)
   intro A i;refine aZ (cU 1 54 9 53 1 (vT k.2.1) g.h (dX 55 i fun d9 i=>(dX 56 i fun B i=>(aQ rfl (cS 57 33 #[vP a 0,vT B] kr rfl (bK func33 rfl ntmps33 (aB 2 [] (aD (aA 1 [(6,vP a 0)] ?_)))))))));have g:=g.f1;refine aQ rfl (cS 7 76 #[vP a 0] kr rfl ((mV (c0:=(bV true a)) (R:=[vS l c.2 n]) (mZ true a kr) g).mono ?_));rintro _ d8 ⟨d3,rfl,b,g⟩;refine⟨_,rfl,?_⟩;have g:St d3 (kB a #[.pointer (bV true a),vS l c.2 n] 66::kB b5 (V6 k G H s u) 43::kR l c.2 n 5 1::O) d8:=g;refine aO (aD (aA 4 [(8,vP a 0),(11,vP a 1)] (bA 12 (vS l c.2 n) g.h (aA 1 [(13,vT B)] (iG 14 64 9 5 1 12 13 g.f2 (.inr kr) (r8.mono b) (Gives.str _) i fun l5 i D b8 d4 e0 v g d7=>(aA 2 [(16,vP a 1)] (cX #[.pointer (bV true a),vS D l5 b8] g.f1 fun e2 g=>(aO (aD (aI 4 [(4,vI (B.size:Int)),(5,.nilIface)] (aK (aN [4,5] [vI (B.size:Int),.nilIface] (⟨_,rfl,?_⟩)))))))))))));refine aU rfl (bO ?_);cases i;exact xE (b9 _ _ ⟨D,b8,d4,rfl,(q.t b).t v,g.f1.f1.f2,(p.mono b).mono v,(r9.mono b).mono v,(Y.mono b).mono v,d7⟩)
  intro A i;refine dO (bS ?_);have ho:=d0 _ (sI i);have g:=g.f1.f1;refine bS ?_;exact xE (d2 _ _ ⟨c.2,l,n,b0,ho,rfl,q,g,r8⟩)
 intro b6 i s;refine dQ _ kr (dP (fun u L' w'=>∃(b:AI),∃f k n,aS (vK N p0) u b=some b6/\L'=[(1,vP b1 0),(5,vP a 0),(23,vS a1 p0.2.1 c1),(24,vI (p0.2.1.length:Int)),(25,vI b.1)]/\m.le n/\St n (kB a #[.pointer (bV true a),vS f b.2 k] 66::kR f b.2 k 5 1::O) w'/\MRow n b1 0 (V8 p0 a1 c1 a2 c2)/\RepS aF n a1 c1 p0.2.1/\RepS C3 n a2 c2 p0.2.2/\RepS iL n f k b.2) N ⟨(0,l1),a3,c3,m4,i,rfl,(((q.t z).t K).t M).t S,g.f1.f1,(o.mono M).mono S,(((r1.mono z).mono K).mono M).mono S,(((p.mono z).mono K).mono M).mono S,r3⟩ ?_);rintro u _ w8 ⟨b,f,k,n,hL,rfl,q,g,o,r1,p,U⟩;rcases u with _|u
 .exact dU hL
 obtain⟨b7,i,D,B⟩:=dV hL;clear hL;unfold vK at i;refine aB 1 [(26,vB (decide (b.1<(p0.2.1.length:Int))))] (aG ?_);refine aH i ?_ ?_
 .intro A i;refine aM (aE (aG (bJ (aD (eU 27 r1 i ?_)))));rintro x1 i b3 V b0 rfl G;refine iD 28 9 27 V (vT x1) g G (aI 1 [(7,vT x1)] (aZ (aA 1 [(29,vT x1)] (dX 30 i fun s4 i=>(dX 31 i fun v i=>(aQ rfl (cS 32 33 #[vP a 0,vT v] kr rfl (bK func33 rfl ntmps33 (aB 2 [] (aD (aA 1 [(6,vP a 0)] (aQ rfl (cS 7 76 #[vP a 0] kr rfl ((mV (c0:=(bV true a)) (R:=[vS f b.2 k]) (mZ true a kr) g).mono ?_))))))))))))));rintro _ w9 ⟨Y,rfl,c,g⟩;refine⟨_,rfl,?_⟩;have g:St Y (kB a #[.pointer (bV true a),vS f b.2 k] 66::kR f b.2 k 5 1::O) w9:=g;refine aO (aD (aA 4 [(8,vP a 0),(11,vP a 1)] (bA 12 (vS f b.2 k) g.h (aA 1 [(13,vT v)] (iG 14 64 9 5 1 12 13 g.f1 (.inr kr) (U.mono c) (Gives.str _) i fun H i E F Z b8 l g r6=>(aA 2 [(16,vP a 1)] (cX #[.pointer (bV true a),vS E H F] g.f1 fun b9 g=>(aO (aD (aI 4 [(4,vI (v.size:Int)),(5,.nilIface)] (aK (aN [4,5] [vI (v.size:Int),.nilIface] (⟨_,rfl,?_⟩)))))))))))));refine aU rfl (bO (aE (aZ (aA 2 [(25,vI (wr (b.1+1)))] (aU rfl ?_)))));have hL:=D _ (sI i);exact xE (dN ⟨(wr (b.1+1),H),E,F,Z,hL,rfl,(q.t c).t l,g.f1.f1,(o.mono c).mono l,(r1.mono c).mono l,(p.mono c).mono l,r6⟩)
 intro A i;refine dO (bS ?_);have ho:=B _ (sI i);have g:=g.f1.f1;refine bS ?_;exact xE (s _ _ ⟨b.2,f,k,n,ho,rfl,q,g,o,r1,p,U⟩)
def FH(N:Nat)(p0:BA)(p1:Int):Ta:=
 (xP N p0 p1).bind fun y1=>some y1
theorem WP{p0:BA}{p1:Int}{r:Int}(g:St m (O) w)(i:FH N p0 p1=some r):Calls prog 81 #[vT p0,.int .u8 p1] w fun e w'=>∃m',e= .returned (vI r)/\m.le m'/\St m' (O) w':=by
 unfold FH at i;have q:=m.le_refl;refine bK func81 rfl ntmps81 ?_;refine aB 1 [] (aD ?_);refine aA 2 [(5,vT p0),(6,.int .u8 p1)] (aR 7 i (MC g) ?_);rintro y1 i _ c ⟨b,rfl,a,g⟩;refine aI 1 [(4,vI y1)] (aK ?_);obtain rfl:=sI i;exact aN [4] [vI y1] ⟨b,rfl,q.t a,g⟩
def EW(N:Nat)(p0:BA)(p1:BA):Tl:=
 (if(decide ((ByteArray.size p0:Int)>=(ByteArray.size p1:Int)))=true then((mO p0 0 (ByteArray.size p1:Int)).bind fun a=>some (a.toList==p1.toList)) else(some false):Tl).bind fun a=>some a
theorem VL{p0:BA}{p1:BA}{r:Bool}(g:St m (O) w)(i:EW N p0 p1=some r):Calls prog 148 #[vT p0,vT p1] w fun e w'=>∃m',e= .returned (vB r)/\m.le m'/\St m' (O) w':=by
 unfold EW at i;have q:=m.le_refl;refine bK func148 rfl ntmps148 ?_;refine aB 1 [] (aD ?_);refine eP 14 i (fun b L' w'=>∃a,L'=[(4,vB b)]/\m.le a/\St a (O) w') ?_ ?_
 .rintro b i _ c ⟨a,rfl,q,g⟩;refine aO (aK ?_);obtain rfl:=sI i;exact aN [4] [vB b] ⟨a,rfl,q,g⟩
 intro b i K;refine aA 6 [(10,vB (decide ((p0.size:Int)>=(p1.size:Int))))] (bW 10 i ?_ ?_)
 .intro A i;refine aA 3 [(11,vT p0),(13,vI (p1.size:Int))] ?_;have⟨f,c,i⟩:=aW i;refine aQ rfl (qE (d:=14) (t:=9) (x:=(.tmp 11)) (lo:=none) (hi:=(some (.tmp 13))) kr rfl (ev (vT p0)) kr (.inl ⟨rfl,rfl⟩) (.inr ⟨_,_,rfl,(ev (vI (p1.size:Int)))⟩) c (aA 4 [(4,vB (f.toList==p1.toList))] ?_));cases i;exact bE _ kr (K _ _ ⟨m,rfl,q,g⟩)
 intro A i;refine aA 8 [(4,vB false)] ?_;cases i;exact bE _ kr (K _ _ ⟨m,rfl,q,g⟩)
def CD(N:Nat)(p0:BA)(p1:BA):Tl:=
 (EW N p0 p1).bind fun y1=>some y1
theorem WQ{p0:BA}{p1:BA}{r:Bool}(g:St m (O) w)(i:CD N p0 p1=some r):Calls prog 120 #[vT p0,vT p1] w fun e w'=>∃m',e= .returned (vB r)/\m.le m'/\St m' (O) w':=by
 unfold CD at i;have q:=m.le_refl;refine bK func120 rfl ntmps120 ?_;refine aB 1 [] (aD ?_);refine aA 2 [(5,vT p0),(6,vT p1)] (aR 7 i (VL g) ?_);rintro y1 i _ c ⟨b,rfl,a,g⟩;refine aI 1 [(4,vB y1)] (aK ?_);obtain rfl:=sI i;exact aN [4] [vB y1] ⟨b,rfl,q.t a,g⟩
def vO(N:Nat)(b:Tt)(a:Tu):Option (Tu⊕Int):=
 if(decide (a.2<(List.length b:Int)))=true then((idx b a.2).bind fun b=>some (.inl (if 9007199254740993<(IntKind.wrap .i64 ((IntKind.wrap .i64 (10*a.1))+(IntKind.wrap .i64 (IntKind.wrap .u8 ((b.toNat:Int)-48))))) then 9007199254740993 else(IntKind.wrap .i64 ((IntKind.wrap .i64 (10*a.1))+(IntKind.wrap .i64 (IntKind.wrap .u8 ((b.toNat:Int)-48))))),IntKind.wrap .i64 (a.2+1)))) else(some (.inr a.1))
def sV(N:Nat)(p0:BA)(p1:Int)(a:Int):Option (Int⊕Unit⊕iY×Tu):=
 (if(decide (a<(ByteArray.size p0:Int)))=true then((nF p0 a).bind fun b=>if(decide ((b.toNat:Int)>=32))=true then((nF p0 a).bind fun b=>some (decide ((b.toNat:Int)<=126))) else(some false)) else(some false):Tl).bind fun b=>if b=true then((nF p0 a).bind fun x5=>if((x5.toNat:Int)==34)=true then((mO p0 (IntKind.wrap .i64 (p1+1)) a).bind fun b=>some (.inr (.inr (((3,b,0,0),IntKind.wrap .i64 (a+1),0))))) else(some (.inl (IntKind.wrap .i64 (a+1))))) else(some (.inr (.inl ())))
def CM(N:Nat)(p0:BA)(p1:Int)(p2:Tv):Option (iY×Tu):=
 (nF p0 p1).bind fun x1=>if(((cH p2 (x1.toNat:Int)).getD 0)==1)=true then((rZ N p0 p1 p2 ([(1:Int),2,3])).bind fun y1=>if(decide ((IntKind.wrap .i64 (y1-p1))>24))=true then(some ((0,(⟨#[]⟩:BA),0,0),0,2)) else((mO p0 p1 y1).bind fun a=>some ((1,a,0,0),y1,0))) else(if(((cH p2 (x1.toNat:Int)).getD 0)==2)=true then((rZ N p0 p1 p2 ([(2:Int)])).bind fun b=>(mO p0 p1 b).bind fun a=>(bytesOf a).bind fun a=>(aS (vO N a) N (0,0)).bind fun a=>if(decide (a>9007199254740992))=true then(some ((0,(⟨#[]⟩:BA),0,0),0,3)) else(some ((2,(⟨#[]⟩:BA),a,0),b,0))) else(if(((cH p2 (x1.toNat:Int)).getD 0)==7)=true then((aS (sV N p0 p1) N (IntKind.wrap .i64 (p1+1))).bind fun a=>(match a with| .inl a=>some ((0,(⟨#[]⟩:BA),0,0),0,9)| .inr (z)=>some z)) else(if(((cH p2 (x1.toNat:Int)).getD 0)==8)=true then((mO p0 p1 (ByteArray.size p0:Int)).bind fun a=>(CD N a (⟨#[61,61]⟩:BA)).bind fun a=>(if a=true then(some (IntKind.wrap .i64 ((IntKind.wrap .i64 (p1+1))+1))) else(some (IntKind.wrap .i64 (p1+1))):Ta).bind fun o4=>(mO p0 p1 o4).bind fun a=>some ((4,a,0,0),o4,0)) else(some ((0,(⟨#[]⟩:BA),0,0),0,9)))))
theorem XF{p0:BA}{p1:Int}{p2:Tv}{f:Option Nat}{b:Array MapEntry}{a:Nat}{r:iY×Tu}(g:St m (cQ f b a::O) w)(l:MapQ (fun n:Int=>Value.int .u8 n) (aT .i64) false m f b a p2)(i:CM N p0 p1 p2=some r):Calls prog 82 #[vT p0,vI p1,.map f] w fun e w'=>∃m',e= .returned (.tuple #[.agg (Va r.1),vI r.2.1,vI r.2.2])/\m.le m'/\St m' (cQ f b a::O) w':=by
 unfold CM at i;have q:=m.le_refl;refine bK func82 rfl ntmps82 ?_;refine aD (dS 6 109 (.agg (Vb 0 eB 0 0)) g fun p w1 g=>(aI 2 [] (aG (aX 3 [(16,.map f),(17,vT p0),(18,vI p1)] (rD 19 i fun x1 i=>(aQ rfl (wB (ek:=(fun n:Int=>Value.int .u8 n)) (c:=(aT .i64)) (agg:=false) (k:=(x1.toNat:Int)) (zx:=0) (zcs:=[vI 0]) (z:=(vI 0)) (kt:=5) (et:=3) (d:=20) (t:=119) (x:=(.tmp 16)) (y:=(.tmp 19)) (ok:=false) kr rfl (ev (.map f)) (ev (.int .u8 (x1.toNat:Int))) kr (lD kr) g.t.h l rfl rfl ?_)))))));rintro a6 rfl;refine aO (bJ (aB 2 [(21,vB (((cH p2 (x1.toNat:Int)).getD 0)==1))] (aH i ?_ ?_)))
 .intro A i;refine aX 3 [(23,vT p0),(24,vI p1),(25,.map f)] ?_;refine eD 26 3 3 (aT .i64) [(1:Int),2,3] g fun E F G o g D=> ?_;refine aR 27 i (CI g.f2 (l.mono o) D) ?_;rintro y1 i _ H ⟨u,rfl,s,g⟩;refine aA 1 [(9,vI y1)] (aU rfl ?_);have g:=g.f1.t;refine aE (aG (aB 4 [(31,vB (decide ((wr (y1-p1))>24)))] (aH i ?_ ?_)))
  .intro A i;refine aX 1 [(32,.agg (Vb 0 eB 0 0))] ?_;refine cM (.agg (Vb 0 eB 0 0)) g.f1 fun v g=> ?_;refine aI 2 [(7,vI 0),(8,vI 2)] (aK (aV (bM (aV ?_))));cases i;refine oP 6 109 [7,8] [vI 0,vI 2] g.h ?_;exact⟨u,rfl,(q.t o).t s,g.t⟩
  intro A i;refine aM (aE (aX 3 [(33,vT p0),(34,vI p1),(35,vI y1)] ?_));have⟨v,B,i⟩:=aW i;refine aQ rfl (qE (d:=36) (t:=9) (x:=(.tmp 33)) (lo:=(some (.tmp 34))) (hi:=(some (.tmp 35))) kr rfl (ev (vT p0)) kr (.inr ⟨_,_,rfl,(ev (vI p1))⟩) (.inr ⟨_,_,rfl,(ev (vI y1))⟩) B (aA 2 [(37,.agg (Vb 1 v 0 0)),(38,vI y1)] (cM (.agg (Vb 1 v 0 0)) g.f1 fun M g=>(aI 2 [(7,vI y1),(8,vI 0)] (aK (bM (aV ?_)))))));obtain rfl:=sI i;refine oP 6 109 [7,8] [vI y1,vI 0] g.h ?_;exact⟨u,rfl,(q.t o).t s,g.t⟩
 intro A i;refine aB 2 [(39,vB (((cH p2 (x1.toNat:Int)).getD 0)==2))] (aH i ?_ ?_)
 .intro A i;refine aX 3 [(41,vT p0),(42,vI p1),(43,.map f)] ?_;refine eD 44 3 1 (aT .i64) [(2:Int)] g fun b3 m3 w6 v g r3=> ?_;refine aR 45 i (CI g.f2 (l.mono v) r3) ?_;rintro u i _ w7 ⟨m4,rfl,H,g⟩;refine aA 1 [(10,vI u)] (aU rfl ?_);have g:=g.f1.t;refine aE (aB 1 [(11,vI 0)] (aG (aX 3 [(46,vT p0),(47,vI p1),(48,vI u)] ?_)));have⟨s2,d5,i⟩:=aW i;refine aQ rfl (qE (d:=49) (t:=9) (x:=(.tmp 46)) (lo:=(some (.tmp 47))) (hi:=(some (.tmp 48))) kr rfl (ev (vT p0)) kr (.inr ⟨_,_,rfl,(ev (vI p1))⟩) (.inr ⟨_,_,rfl,(ev (vI u))⟩) d5 ?_);have⟨D,d6,i⟩:=aW i;refine aQ rfl (ND (d:=50) (t1:=9) (t2:=64) (e:=5) (x:=(.tmp 49)) kr rfl (ev (vT s2)) kr kr g d6 fun Z c1 m5 w8 M g U=>(aI 2 [(51,vI (D.length:Int)),(52,vI 0)] (bJ (cY (.exit 1) i (fun s L' w'=>∃(F:Int),∃E,F=s/\L'=[(6,vP p 0),(10,vI u),(11,vI F)]/\m.le E/\St E (kB p (Vb 0 eB 0 0) 109::cQ f b a::O) w'/\MapQ (fun n:Int=>Value.int .u8 n) (aT .i64) false E f b a p2) ?_ ?_))))
  .rintro s i _ B ⟨F,E,rfl,rfl,q,g,l⟩;refine dT (aE (aG (aB 2 [(65,vB (decide (F>9007199254740992)))] (aH i ?_ ?_))))
   .intro A i;refine aX 1 [(66,.agg (Vb 0 eB 0 0))] ?_;refine cM (.agg (Vb 0 eB 0 0)) g fun o g=> ?_;refine aI 2 [(7,vI 0),(8,vI 3)] (aK (aV (bM (aV ?_))));cases i;refine oP 6 109 [7,8] [vI 0,vI 3] g.h ?_;exact⟨E,rfl,q,g.t⟩
   intro A i;refine aM (aE (aX 3 [(68,.agg (Vb 2 eB F 0)),(69,vI u)] (cM (.agg (Vb 2 eB F 0)) g fun o g=>(aI 2 [(7,vI u),(8,vI 0)] (aK (bM (aV ?_)))))));obtain rfl:=sI i;refine oP 6 109 [7,8] [vI u,vI 0] g.h ?_;exact⟨E,rfl,q,g.t⟩
  intro s i R;refine dQ _ kr (dP (fun S L' w'=>∃(o:Tu),∃B,aS (vO N D) S o=some s/\L'=[(6,vP p 0),(10,vI u),(11,vI o.1),(50,vS (aP Z) D c1),(51,vI (D.length:Int)),(52,vI o.2)]/\m.le B/\St B (kB p (Vb 0 eB 0 0) 109::cQ f b a::O) w'/\RepS iL B (aP Z) c1 D/\MapQ (fun n:Int=>Value.int .u8 n) (aT .i64) false B f b a p2) N ⟨(0,0),m5,i,rfl,((q.t v).t H).t M,g.f1,U,((l.mono v).mono H).mono M⟩ ?_);rintro S _ a9 ⟨o,B,hL,rfl,q,g,U,l⟩;rcases S with _|S
  .exact dU hL
  obtain⟨a8,i,Y,V⟩:=dV hL;clear hL;unfold vO at i;refine aB 1 [(53,vB (decide (o.2<(D.length:Int))))] (aG ?_);refine aH i ?_ ?_
  .intro A i;refine aM (aE (aG (bJ (aD (eU 54 U i ?_)))));rintro G i b5 f1 a7 rfl a5;refine iD 55 5 54 f1 (.int .u8 (G.toNat:Int)) g a5 (aI 1 [(13,.int .u8 (G.toNat:Int))] (aZ (aA 8 [(11,vI (if 9007199254740993<(wr ((wr (10*o.1))+(wr (IntKind.wrap .u8 ((G.toNat:Int)-48))))) then 9007199254740993 else(wr ((wr (10*o.1))+(wr (IntKind.wrap .u8 ((G.toNat:Int)-48)))))))] (aU rfl (bO (aE (aZ (aA 2 [(52,vI (wr (o.2+1)))] (aU rfl ?_)))))))));have hL:=Y _ (sI i);exact xE (dN ⟨(if 9007199254740993<(wr ((wr (10*o.1))+(wr (IntKind.wrap .u8 ((G.toNat:Int)-48))))) then 9007199254740993 else(wr ((wr (10*o.1))+(wr (IntKind.wrap .u8 ((G.toNat:Int)-48))))),wr (o.2+1)),B,hL,rfl,q,g.f1.f1,U,l⟩)
  intro A i;refine dO (bS ?_);have ho:=V _ (sI i);have g:=g.f1.f1;refine bS ?_;exact xE (R _ _ ⟨o.1,B,ho,rfl,q,g,l⟩)
 intro A i;refine aB 2 [(70,vB (((cH p2 (x1.toNat:Int)).getD 0)==7))] (aH i ?_ ?_)
 .intro A i;refine aG (aB 3 [(14,vI (wr (p1+1)))] (bJ ?_));have⟨D,i,R⟩:=aW i;refine cZ (.exit 3) (fun L' w'=>∃(S:Unit),∃B,(.inl S)=D/\L'=[(6,vP p 0)]/\m.le B/\St B (kB p (Vb 0 eB 0 0) 109::cQ f b a::O) w'/\MapQ (fun n:Int=>Value.int .u8 n) (aT .i64) false B f b a p2) ?_ ?_
  .rintro _ o ⟨S,B,rfl,rfl,q,g,l⟩;have i:=R;refine dT (aE (aX 1 [(104,.agg (Vb 0 eB 0 0))] (cM (.agg (Vb 0 eB 0 0)) g fun s g=>(aI 2 [(7,vI 0),(8,vI 9)] (aK (bM (aV ?_)))))));cases i;refine oP 6 109 [7,8] [vI 0,vI 9] g.h ?_;exact⟨B,rfl,q,g.t⟩
  intro E;refine dQ _ kr (dP (fun F L' w'=>∃(o:Int),∃u,aS (sV N p0 p1) F o=some D/\L'=[(0,vT p0),(1,vI p1),(6,vP p 0),(14,vI o)]/\m.le u/\St u (kB p (Vb 0 eB 0 0) 109::cQ f b a::O) w'/\MapQ (fun n:Int=>Value.int .u8 n) (aT .i64) false u f b a p2) N ⟨wr (p1+1),m,i,rfl,q,g.f1.f1,l⟩ ?_);rintro F _ Y ⟨o,u,hL,rfl,q,g,l⟩;rcases F with _|F
  .exact dU hL
  obtain⟨V,i,G,v⟩:=dV hL;clear hL;unfold sV at i;refine aG (aD (eP 16 i (fun H L' w'=>∃s,L'=[(0,vT p0),(1,vI p1),(6,vP p 0),(14,vI o),(89,vB H)]/\m.le s/\St s (kB p (Vb 0 eB 0 0) 109::cQ f b a::O) w'/\MapQ (fun n:Int=>Value.int .u8 n) (aT .i64) false s f b a p2) ?_ ?_))
  .rintro H i _ Z ⟨s,rfl,q,g,l⟩;refine aO (aH i ?_ ?_)
   .intro A i;refine aM (aE (aG (bJ (aX 2 [(92,vT p0),(93,vI o)] (rD 94 i fun x5 i=>(aI 1 [(95,vB ((x5.toNat:Int)==34))] (aH i ?_ ?_)))))))
    .intro A i;refine aX 4 [(96,vT p0),(98,vI (wr (p1+1))),(99,vI o)] ?_;have⟨U,M,i⟩:=aW i;refine aQ rfl (qE (d:=100) (t:=9) (x:=(.tmp 96)) (lo:=(some (.tmp 98))) (hi:=(some (.tmp 99))) kr rfl (ev (vT p0)) kr (.inr ⟨_,_,rfl,(ev (vI (wr (p1+1))))⟩) (.inr ⟨_,_,rfl,(ev (vI o))⟩) M (aA 3 [(101,.agg (Vb 3 U 0 0)),(103,vI (wr (o+1)))] (cM (.agg (Vb 3 U 0 0)) g fun a5 g=>(aI 2 [(7,vI (wr (o+1))),(8,vI 0)] (aK (bM (aV ?_)))))));have ho:=v _ (sI i);subst ho;have i:=R;refine aV (bM (aV (bM (aV ?_))));obtain rfl:=sI i;refine oP 6 109 [7,8] [vI (wr (o+1)),vI 0] g.h ?_;exact⟨s,rfl,q,g.t⟩
    intro A i;refine aM (bO (aE (aZ (aA 3 [(14,vI (wr (o+1)))] (aU rfl ?_)))));have hL:=G _ (sI i);exact xE (dN ⟨wr (o+1),s,hL,rfl,q,g.f1.f1,l⟩)
   intro A i;refine dO (bS ?_);have ho:=v _ (sI i);have g:=g.f1.f1;refine bS ?_;exact xE (E _ _ ⟨(),s,ho,rfl,q,g,l⟩)
  intro H i K;refine aA 5 [(78,vB (decide (o<(p0.size:Int))))] (bW 78 i ?_ ?_)
  .intro A i;refine aA 2 [(79,vT p0),(80,vI o)] (rD 81 i fun M i=>(aA 3 [(84,vB (decide ((M.toNat:Int)>=32)))] (bW 84 i ?_ ?_)))
   .intro A i;refine aA 2 [(85,vT p0),(86,vI o)] (rD 87 i fun U i=>(aA 2 [(89,vB (decide ((U.toNat:Int)<=126)))] ?_));cases i;exact bE _ kr (K _ _ ⟨u,rfl,q,g.f1.f1,l⟩)
   intro A i;refine aA 5 [(89,vB false)] ?_;cases i;exact bE _ kr (K _ _ ⟨u,rfl,q,g.f1.f1,l⟩)
  intro A i;refine aA 11 [(89,vB false)] ?_;cases i;exact bE _ kr (K _ _ ⟨u,rfl,q,g.f1.f1,l⟩)
 intro A i;refine aB 2 [(105,vB (((cH p2 (x1.toNat:Int)).getD 0)==8))] (aH i ?_ ?_)
 .intro A i;refine aB 3 [(15,vI (wr (p1+1)))] (aG ?_);refine aX 2 [(109,vT p0),(110,vI p1)] ?_;have⟨H,B,i⟩:=aW i;refine aQ rfl (qE (d:=111) (t:=9) (x:=(.tmp 109)) (lo:=(some (.tmp 110))) (hi:=none) kr rfl (ev (vT p0)) kr (.inr ⟨_,_,rfl,(ev (vI p1))⟩) (.inl ⟨rfl,rfl⟩) B (aR 112 i (WQ g) ?_));rintro M i _ E ⟨v,rfl,o,g⟩;refine aO (cY .normal i (fun o4 L' w'=>∃s,L'=[(0,vT p0),(1,vI p1),(6,vP p 0),(15,vI o4)]/\m.le s/\St s (kB p (Vb 0 eB 0 0) 109::cQ f b a::O) w'/\MapQ (fun n:Int=>Value.int .u8 n) (aT .i64) false s f b a p2) ?_ ?_)
  .rintro o4 i _ F ⟨s,rfl,q,g,l⟩;refine aE (aX 3 [(115,vT p0),(116,vI p1),(117,vI o4)] ?_);have⟨D,u,i⟩:=aW i;refine aQ rfl (qE (d:=118) (t:=9) (x:=(.tmp 115)) (lo:=(some (.tmp 116))) (hi:=(some (.tmp 117))) kr rfl (ev (vT p0)) kr (.inr ⟨_,_,rfl,(ev (vI p1))⟩) (.inr ⟨_,_,rfl,(ev (vI o4))⟩) u (aA 2 [(119,.agg (Vb 4 D 0 0)),(120,vI o4)] (cM (.agg (Vb 4 D 0 0)) g fun G g=>(aI 2 [(7,vI o4),(8,vI 0)] (aK (bM (aV ?_)))))));obtain rfl:=sI i;refine oP 6 109 [7,8] [vI o4,vI 0] g.h ?_;exact⟨s,rfl,q,g.t⟩
  intro o4 i u;refine aH i ?_ ?_
  .intro A i;refine aZ (aA 3 [(15,vI (wr ((wr (p1+1))+1)))] (aU rfl ?_));cases i;exact xE (u _ _ ⟨v,rfl,q.t o,g.f1.f1,l.mono o⟩)
  intro A i;refine aM ?_;cases i;exact xE (u _ _ ⟨v,rfl,q.t o,g.f1.f1,l.mono o⟩)
 intro A i;refine aM (bO (aE (aX 1 [(121,.agg (Vb 0 eB 0 0))] (cM (.agg (Vb 0 eB 0 0)) g fun o g=>(aI 2 [(7,vI 0),(8,vI 9)] (aK ?_))))));cases i;refine oP 6 109 [7,8] [vI 0,vI 9] g.h ?_;exact⟨m,rfl,q,g.t⟩
def yH(N:Nat)(p0:BA)(y1:Tv)(c:oU×Int):Option (oU×Int⊕oU×Tu):=
 (rZ N p0 c.2 y1 ([(5:Int)])).bind fun a=>if(a==(ByteArray.size p0:Int))=true then((cF 40 c.1 ([(5,(⟨#[]⟩:BA),0,a)])).bind fun b=>some (.inr (b,0,0))) else((nF p0 a).bind fun x1=>if(((cH y1 (x1.toNat:Int)).getD 0)==6)=true then((mO p0 a (ByteArray.size p0:Int)).bind fun b=>(FH N b 10).bind fun b=>(if(decide (b<0))=true then(some (IntKind.wrap .i64 ((ByteArray.size p0:Int)-a))) else(some b):Ta).bind fun b=>some (.inl (c.1,IntKind.wrap .i64 (a+b)))) else((CM N p0 a y1).bind fun b=>if(b.2.2 !=0)=true then(some (.inr (([]:oU),a,b.2.2))) else((cF 40 c.1 ([(b.1.1,b.1.2.1,b.1.2.2.1,a)])).bind fun a=>some (.inl (a,b.2.1)))))
def CK(N:Nat)(p0:BA):Option (oU×Tu):=
 if(decide ((ByteArray.size p0:Int)>16384))=true then(some (([]:oU),0,2)) else((vY N).bind fun y1=>(aS (yH N p0 y1) N (([]:oU),0)).bind fun z=>some z)
theorem XC{p0:BA}{r:oU×Tu}(g:St m (O) w)(i:CK N p0=some r):Calls prog 38 #[vT p0] w fun e w'=>∃S U m',e= .returned (.tuple #[vS S r.1 U,vI r.2.1,vI r.2.2])/\m.le m'/\St m' (kR S r.1 U 109 4::O) w'/\RepS C5 m' S U r.1:=by
 unfold CK at i;have q:=m.le_refl;refine bK func38 rfl ntmps38 ?_;refine aB 3 [(2,vd)] (qFn ?_);refine aG (aB 3 [(13,vB (decide ((p0.size:Int)>16384)))] (aH i ?_ ?_))
 .intro A i;refine aB 3 [(2,vd),(3,vI 0),(4,vI 2)] (aK ?_);refine aV (IR ?_);cases i;exact aN [2,3,4] [vd,vI 0,vI 2] ⟨none,0,m,rfl,q,(g.nilroom 109 4),(RepS.nil _ _)⟩
 intro A i;refine aM (aE (aD (aR 14 i (ID g) ?_)));rintro y1 i _ w1 ⟨o,G,F,m1,rfl,Y,g,l⟩;refine aI 1 [(5,.map o)] (aD (aI 1 [(6,vI 0)] (aG (qGa (aE (bJ ?_))))));have⟨Z,i,j1⟩:=aW i;have g:=(g.nilroom 109 4).front1;refine dQ _ kr (dP (fun V L' w'=>∃(f:oU×Int),∃p s R,aS (yH N p0 y1) V f=some Z/\L'=[(0,vT p0),(2,vS p f.1 s),(5,.map o),(6,vI f.2)]/\m.le R/\St R (cQ o G F::kR p f.1 s 109 4::O) w'/\RepS C5 R p s f.1/\MapQ (fun n:Int=>Value.int .u8 n) (aT .i64) false R o G F y1) N ⟨(([]:oU),0),none,0,m1,i,rfl,q.t Y,g,(RepS.nil _ _),l⟩ ?_);rintro V _ w2 ⟨f,p,s,R,hL,rfl,q,g,B,l⟩;rcases V with _|V
 .exact dU hL
 obtain⟨a8,i,K,H⟩:=dV hL;clear hL;unfold yH at i;refine bJ (aX 3 [(15,vT p0),(16,vI f.2),(17,.map o)] (eD 18 3 1 (aT .i64) [(5:Int)] g fun b1 m3 w3 u g r3=>(aR 19 i (CI g.f1 (l.mono u) r3) ?_)));rintro b i _ w4 ⟨m4,rfl,D,g⟩;have q:=(q.t u).t D;have B:=(B.mono u).mono D;have l:=(l.mono u).mono D;refine aA 1 [(6,vI b)] (aU rfl ?_);have g:=g.f1.t;refine aE (aG (bJ (aB 5 [(20,vB (b==(p0.size:Int)))] (aH i ?_ ?_))))
 .intro A i;refine aX 3 [(25,vS p f.1 s),(27,.agg (Vb 5 eB 0 b))] ?_;refine eD 28 109 1 C5 [(5,eB,0,b)] g fun b2 m5 w5 a g r4=> ?_;refine iG 29 76 76 109 40 25 28 g.f2 (.inl kr) (B.mono a) r4.src i fun l1 i v E m6 w6 M g r5=> ?_;refine aA 3 [(2,vS v l1 E),(3,vI 0),(4,vI 0)] (aU rfl ?_);have g:=g.f1.t;refine aE (aK (bM (aV (bM ?_))));have ho:=H _ (sI i);subst ho;have i:=j1;refine aV (bM (IR ?_));obtain rfl:=sI i;exact aN [2,3,4] [vS v l1 E,vI 0,vI 0] ⟨v,E,m6,rfl,(q.t a).t M,g.f1.t,r5⟩
 intro A i;refine aX 3 [(31,.map o),(32,vT p0),(33,vI b)] ?_;refine rD 34 i fun x1 i=> ?_;refine aQ rfl (wB (ek:=(fun n:Int=>Value.int .u8 n)) (c:=(aT .i64)) (agg:=false) (k:=(x1.toNat:Int)) (zx:=0) (zcs:=[vI 0]) (z:=(vI 0)) (kt:=5) (et:=3) (d:=35) (t:=119) (x:=(.tmp 31)) (y:=(.tmp 34)) (ok:=false) kr rfl (ev (.map o)) (ev (.int .u8 (x1.toNat:Int))) kr (lD kr) g.h l rfl rfl ?_);rintro a6 rfl;refine aI 2 [(30,vB (((cH y1 (x1.toNat:Int)).getD 0)==6))] (aH i ?_ ?_)
 .intro A i;refine aX 2 [(37,vT p0),(38,vI b)] ?_;have⟨s2,d5,i⟩:=aW i;refine aQ rfl (qE (d:=39) (t:=9) (x:=(.tmp 37)) (lo:=(some (.tmp 38))) (hi:=none) kr rfl (ev (vT p0)) kr (.inr ⟨_,_,rfl,(ev (vI b))⟩) (.inl ⟨rfl,rfl⟩) d5 (aR 40 i (WP g) ?_));rintro y3 i _ w7 ⟨m7,rfl,a,g⟩;refine aI 1 [(7,vI y3)] (aG (aB 2 [(42,vB (decide (y3<0)))] (cY .normal i (fun E L' w'=>∃v,L'=[(0,vT p0),(2,vS p f.1 s),(5,.map o),(6,vI b),(7,vI E)]/\m.le v/\St v (cQ o G F::kR p f.1 s 109 4::O) w'/\RepS C5 v p s f.1/\MapQ (fun n:Int=>Value.int .u8 n) (aT .i64) false v o G F y1) ?_ ?_)))
  .rintro E i _ M ⟨v,rfl,q,g,B,l⟩;refine aE (aB 4 [(6,vI (wr (b+E)))] (dO (yW rfl (bS (dT ?_)))));have hL:=K _ (sI i);exact xE (dN ⟨(f.1,wr (b+E)),p,s,v,hL,rfl,q,g.f1.f1,B,l⟩)
  intro E i M;refine aH i ?_ ?_
  .intro A i;refine aZ (aA 5 [(7,vI (wr ((p0.size:Int)-b)))] (aU rfl ?_));cases i;exact xE (M _ _ ⟨m7,rfl,q.t a,g.f1.f1,B.mono a,l.mono a⟩)
  intro A i;refine aM ?_;cases i;exact xE (M _ _ ⟨m7,rfl,q.t a,g.f1.f1,B.mono a,l.mono a⟩)
 intro A i;refine aM (bO (aE (aX 3 [(51,vT p0),(52,vI b),(53,.map o)] (aR 54 i (XF g l) ?_))));rintro a i _ w9 ⟨m9,rfl,v,g⟩;refine aA 4 [(55,.agg (Va a.1)),(56,vI a.2.1),(57,vI a.2.2)] (dS 8 109 (.agg (Vb 0 eB 0 0)) g fun b3 a9 g=>(cM (.agg (Va a.1)) g fun b0 g=>(aI 2 [(9,vI a.2.1),(10,vI a.2.2)] (aG (aB 2 [(59,vB (a.2.2 !=0))] (aH i ?_ ?_))))))
 .intro A i;refine aX 5 [(2,vd),(3,vI b),(4,vI a.2.2)] ?_;refine aU rfl ?_;have g:=g.f2.t;refine aE (aK (aV (bM ?_)));have ho:=H _ (sI i);subst ho;have i:=j1;refine aV (bM (IR ?_));obtain rfl:=sI i;refine aN [2,3,4] [vd,vI b,vI a.2.2] ?_;have g:=(g.nilroom 109 4).front1;exact⟨none,0,m9,rfl,q.t v,g.t.f1.t,(RepS.nil _ _)⟩
 intro A i;refine aM (aE (aX 2 [(62,vI b),(63,vP b3 3)] (cX (Vb a.1.1 a.1.2.1 a.1.2.2.1 b) g fun b5 g=>(aO (aZ (aA 1 [(64,vS p f.1 s)] (bA 65 (.agg (Vb a.1.1 a.1.2.1 a.1.2.2.1 b)) g.h (eD 66 109 1 C5 [(a.1.1,a.1.2.1,a.1.2.2.1,b)] g fun b4 a7 b6 E g r6=>(iG 67 76 76 109 40 64 66 g.f3 (.inl kr) ((B.mono v).mono E) r6.src i fun l2 i a3 c3 a5 b7 M g r7=>(aA 3 [(2,vS a3 l2 c3),(6,vI a.2.1)] (aU rfl ?_)))))))))));have g:=g.f1.t;refine bO ?_;have hL:=K _ (sI i);exact xE (dN ⟨(l2,a.2.1),a3,c3,a5,hL,rfl,((q.t v).t E).t M,g.f1.t.f1,r7,((l.mono v).mono E).mono M⟩)
def oH(N:Nat)(p0:bB):Option tV:=
 (idx p0.1 p0.2.1).bind fun x1=>some (p0,x1)
theorem qY{p0:bB}{r:tV}(g:St m (kB bp0 (Vc p0 a1 c1 a2 c2 a3 c3) 84::kR a3 p0.2.2.2 c3 61 5::O) w)(o:RepS C5 m a1 c1 p0.1)(u:RepS aF m a2 c2 p0.2.2.1)(v:RepS C2 m a3 c3 p0.2.2.2)(i:oH N p0=some r):Calls prog 88 #[vP bp0 0] w fun e w'=>∃d k f l b c m',e= .returned (.agg (Va r.2))/\m.le m'/\St m' (kB bp0 (Vc r.1 d k f l b c) 84::kR b r.1.2.2.2 c 61 5::O) w'/\P4 m' d k f l b c r.1:=by
 unfold oH at i;have q:=m.le_refl;refine bK func88 rfl ntmps88 ?_;refine aD (dS 2 109 (.agg (Vb 0 eB 0 0)) g fun A D g=>(aO (aG (eA [(11,fun w'=>Inv m w'/\Piece.holds m w' (kB bp0 (Vc p0 a1 c1 a2 c2 a3 c3) 84)/\True)] kr g fun E _ g=> ?_))));have a:=m.le_refl;refine⟨⟨.inr ⟨Inv.anti g.inv a,Piece.holds_anti g.t.h a,trivial⟩,trivial⟩,?_⟩;refine aJ 0 3 (vP bp0 0) (.head _) (aJ 1 4 (vP bp0 0) (.head _) (aJ 2 5 (vP bp0 0) (.head _) (dY 76 5 3 6 0 (vS a1 p0.1 c1) (.head _) (fun _ h=>h.2.1) (aJ 4 7 (vP bp0 0) (.head _) (aJ 5 8 (vP bp0 0) (.head _) (aJ 6 9 (vP bp0 1) (.head _) (dY 3 9 7 10 1 (vI p0.2.1) (.head _) (fun _ h=>h.2.1) ?_)))))));have⟨x1,p,i⟩:=aW i;refine pA (t:=76) (e:=109) (x:=(.tmp 6)) (y:=(.tmp 10)) 8 11 C5 kr rfl kr (.head _) (bZ lC) (ev (vS a1 p0.1 c1)) (ev (vI p0.2.1)) kr o p ?_;rintro B s z ⟨_,_,rfl,rfl,⟨_,_,rfl,rfl,⟨_,_,rfl,rfl,rfl⟩⟩⟩ n;refine iW 109 11 9 12 s (.agg (Va x1)) (.head _) (fun _ h=>h.1) n (bU 10 kr (wY 109 2 12 (.agg (Va x1)) g fun F g=>(⟨⟨.inr ⟨Inv.anti g.inv a,Piece.holds_anti g.t.h a,trivial⟩,trivial⟩,?_⟩)));refine dW kr ?_;refine aE (aK ?_);obtain rfl:=sI i;refine oP 2 109 [] [] g.h ?_;exact⟨a1,c1,a2,c2,a3,c3,m,rfl,q,g.t.f1.f1,o,u,v⟩
def rS(N:Nat)(p0:bB)(p1:Int)(p2:BA):Option (bB×Bool):=
 (oH N p0).bind fun y1=>(if(y1.2.1==p1)=true then(some (y1.2.2.1.toList==p2.toList)) else(some false):Tl).bind fun a=>some (y1.1,a)
theorem yB{p0:bB}{p1:Int}{p2:BA}{r:bB×Bool}(g:St m (kB bp0 (Vc p0 a1 c1 a2 c2 a3 c3) 84::kR a3 p0.2.2.2 c3 61 5::O) w)(G:RepS C5 m a1 c1 p0.1)(H:RepS aF m a2 c2 p0.2.2.1)(M:RepS C2 m a3 c3 p0.2.2.2)(i:rS N p0 p1 p2=some r):Calls prog 86 #[vP bp0 0,vI p1,vT p2] w fun e w'=>∃s v u x c d m',e= .returned (vB r.2)/\m.le m'/\St m' (kB bp0 (Vc r.1 s v u x c d) 84::kR c r.1.2.2.2 d 61 5::O) w'/\P4 m' s v u x c d r.1:=by
 unfold rS at i;have q:=m.le_refl;refine bK func86 rfl ntmps86 ?_;refine aB 1 [] (aD ?_);refine aA 1 [(8,vP bp0 0)] (aR 9 i (qY (p0:=p0) g.f1.f1 G H M) ?_);rintro y1 i _ R ⟨y,B,z,D,f,k,E,rfl,a,g,n,o,p⟩;refine dS 7 109 (.agg (Vb 0 eB 0 0)) g fun F S g=> ?_;refine cM (.agg (Va y1.2)) g fun U g=> ?_;refine aO (aD (eP 11 i (fun l L' w'=>∃b,L'=[(6,vB l)]/\m.le b/\St b (kB F (Va y1.2) 109::kB bp0 (Vc y1.1 y B z D f k) 84::kR f y1.1.2.2.2 k 61 5::O) w'/\P4 b y B z D f k y1.1) ?_ ?_))
 .rintro l i _ V ⟨b,rfl,q,g,n,o,p⟩;refine aO (aK ?_);obtain rfl:=sI i;exact aN [6] [vB l] ⟨y,B,z,D,f,k,b,rfl,q,g.t.f1.f1,n,o,p⟩
 intro l i K;refine cU 1 11 3 10 0 (vI y1.2.1) g.h (aA 3 [(14,vB (y1.2.1==p1))] (bW 14 i ?_ ?_))
 .intro A i;refine cU 1 16 9 15 1 (vT y1.2.2.1) g.h (aA 4 [(6,vB (y1.2.2.1.toList==p2.toList))] ?_);cases i;exact bE _ kr (K _ _ ⟨E,rfl,q.t a,g.f2.f2.f2,n,o,p⟩)
 intro A i;refine aA 6 [(6,vB false)] ?_;cases i;exact bE _ kr (K _ _ ⟨E,rfl,q.t a,g.f2.f2.f2,n,o,p⟩)
def eT(N:Nat)(p0:iY)(p1:Int):Option (Tu⊕Unit):=
 some (.inl (p0.2.2.2,p1))
theorem mX{p0:iY}{p1:Int}{r:Tu⊕Unit}(g:St m (O) w)(i:eT N p0 p1=some r):Calls prog 87 #[.agg (Va p0),vI p1] w fun e w'=>(∃(c:Tu),∃m',r= .inl c/\e= .panicked [{v:= .iface 80 (.agg (Vd c)),recovered:=false}]/\m.le m'/\St m' (O) w')\/(∃(h:Unit),r= .inr h/\∃m',e= .returned (.tuple #[])/\m.le m'/\St m' (O) w'):=by
 unfold eT at i;have q:=m.le_refl;refine bK func87 rfl ntmps87 ?_;refine aD (mB 2 109 (.agg (Va p0)) g fun d f k a g b=>(aO (aZ (aA 1 [(4,vP d 3)] (bX 5 (vI p0.2.2.2) g (b.drop 3) (aA 3 [(8,.iface 80 (.agg #[vI p0.2.2.2,vI p1]))] (aQ rfl (qAz (x:=(.tmp 8)) kr (ev (.iface 80 (.agg #[vI p0.2.2.2,vI p1]))) ?_))))))));cases i;exact cE (.inl ⟨(p0.2.2.2,p1),f,rfl,rfl,q.t a,g⟩)
def vF(N:Nat)(p0:bB)(p1:BA):Option EM:=
 (rS N p0 1 p1).bind fun y1=>(if(!y1.2)=true then((oH N y1.1).bind fun a=>(eT N a.2 9).bind fun b=>(match b with| .inl b=>some (.inr (.inl b))| .inr b=>some (.inl a.1))) else(some (.inl y1.1)):Option T1i).bind fun a=>(match a with| .inl a=>some (.inr (a.1,IntKind.wrap .i64 (a.2.1+1),a.2.2.1,a.2.2.2))| .inr z=>some z)
theorem HU{p0:bB}{p1:BA}{r:EM}(g:St m (kB bp0 (Vc p0 a1 c1 a2 c2 a3 c3) 84::kR a3 p0.2.2.2 c3 61 5::O) w)(r1:RepS C5 m a1 c1 p0.1)(r2:RepS aF m a2 c2 p0.2.2.1)(r3:RepS C2 m a3 c3 p0.2.2.2)(i:vF N p0 p1=some r):Calls prog 83 #[vP bp0 0,vT p1] w fun e w'=>(∃(z0:Tu),∃m',r= .inl z0/\e= .panicked [{v:= .iface 80 (.agg (Vd z0)),recovered:=false}]/\m.le m'/\St m' (O) w')\/(∃(x:bB),r= .inr x/\∃z D B E s u m',e= .returned (.tuple #[])/\m.le m'/\St m' (kB bp0 (Vc x z D B E s u) 84::kR s x.2.2.2 u 61 5::O) w'/\P4 m' z D B E s u x):=by
 unfold vF at i;have q:=m.le_refl;refine bK func83 rfl ntmps83 ?_;refine aG (aX 2 [(4,vP bp0 0),(5,vT p1)] (aR 6 i (yB (p0:=p0) g.f1.f1 r1 r2 r3) ?_));rintro y1 i _ w1 ⟨a4,c4,a5,c5,a6,c6,m1,rfl,F,g,r4,r5,r6⟩;have q:=q.t F;refine aI 1 [(7,vB (!y1.2))] ?_;have⟨Z,i,Y⟩:=aW i;refine cZ .normal (fun L' w'=>∃(a:bB),∃f l k n c d p,(.inl a:T1i)=Z/\L'=[(0,vP bp0 0)]/\m.le p/\St p (kB bp0 (Vc a f l k n c d) 84::kR c a.2.2.2 d 61 5::O) w'/\P4 p f l k n c d a) ?_ ?_
 .rintro _ G ⟨a,f,l,k,n,c,d,p,rfl,rfl,q,g,b,o,y⟩;have i:=Y;refine aE (aZ (aA 3 [(11,vP bp0 0),(13,vP bp0 1)] (bA 14 (vI a.2.1) g.h (aA 3 [(15,vI (wr (a.2.1+1))),(17,vP bp0 1)] (cX #[vS f a.1 l,vI (wr (a.2.1+1)),vS k a.2.2.1 n,vS c a.2.2.2 d] g fun H g=>(aU rfl ?_))))));cases i;exact pE [] [] rfl ResAll.nil (.inr ⟨_,rfl,f,l,k,n,c,d,p,rfl,q,g.f1.f1,b,o,y⟩)
 intro y;refine aH i ?_ ?_
 .intro A i;refine aZ (aA 1 [(8,vP bp0 0)] (aR 9 i (qY (p0:=y1.1) g.f1.f1 r4 r5 r6) ?_));rintro y2 i _ w3 ⟨K,S,M,U,R,V,m3,rfl,o,g,b0,b1,b2⟩;refine cI 10 i (mX (p0:=y2.2) g) ?_;rintro y3 i _ w4 (⟨z1,m5,rfl,rfl,G,g⟩|⟨y4,rfl,m4,rfl,b,g⟩)
  .obtain rfl:=sI i;have i:=Y;refine bN ?_;obtain rfl:=sI i;have g:=g.t.t;exact cE (.inl ⟨z1,m5,rfl,rfl,(q.t o).t G,g⟩)
  refine aU rfl ?_;have H:=jF i;exact xE (y _ _ ⟨y2.1,K,S,M,U,R,V,m4,H,rfl,(q.t o).t b,g.f1.f1,b0.mono b,b1.mono b,b2.mono b⟩)
 intro A i;refine aM ?_;have H:=jF i;exact xE (y _ _ ⟨y1.1,a4,c4,a5,c5,a6,c6,m1,H,rfl,q,g.f1.f1,r4,r5,r6⟩)
def sT(N:Nat)(p0:bB)(p1:Int):Option xK:=
 (oH N p0).bind fun y1=>(if(y1.2.1 !=p1)=true then((eT N y1.2 9).bind fun a=>(match a with| .inl a=>some (.inr (.inl a))| .inr a=>some (.inl ()))) else(some (.inl ())):Option AG).bind fun a=>(match a with| .inl a=>(if(p1 !=5)=true then(some (IntKind.wrap .i64 (y1.1.2.1+1))) else(some y1.1.2.1):Ta).bind fun a=>some (.inr ((y1.1.1,a,y1.1.2.2.1,y1.1.2.2.2),y1.2))| .inr z=>some z)
theorem BP{p0:bB}{p1:Int}{r:xK}(g:St m (kB bp0 (Vc p0 a1 c1 a2 c2 a3 c3) 84::kR a3 p0.2.2.2 c3 61 5::O) w)(r1:RepS C5 m a1 c1 p0.1)(r2:RepS aF m a2 c2 p0.2.2.1)(r3:RepS C2 m a3 c3 p0.2.2.2)(i:sT N p0 p1=some r):Calls prog 121 #[vP bp0 0,vI p1] w fun e w'=>(∃(Y:Tu),∃m',r= .inl Y/\e= .panicked [{v:= .iface 80 (.agg (Vd Y)),recovered:=false}]/\m.le m'/\St m' (O) w')\/(∃(y:tV),r= .inr y/\∃E G F H u x m',e= .returned (.agg (Va y.2))/\m.le m'/\St m' (kB bp0 (Vc y.1 E G F H u x) 84::kR u y.1.2.2.2 x 61 5::O) w'/\P4 m' E G F H u x y.1):=by
 unfold sT at i;have q:=m.le_refl;refine bK func121 rfl ntmps121 ?_;refine aD (dS 4 109 (.agg (Vb 0 eB 0 0)) g fun z w1 g=>(aO (aD (aA 1 [(6,vP bp0 0)] (aR 7 i (qY (p0:=p0) g.f2.f2 r1 r2 r3) ?_)))));rintro y1 i _ w2 ⟨l,o,n,p,b,c,Z,rfl,K,g,d,f,k⟩;have q:=q.t K;refine dS 5 109 (.agg (Vb 0 eB 0 0)) g fun B w3 g=> ?_;refine cM (.agg (Va y1.2)) g fun w4 g=> ?_;refine aO (aG (aD (cU 1 9 3 8 0 (vI y1.2.1) g.h (aI 2 [(11,vB (y1.2.1 !=p1))] ?_))));have⟨V,i,S⟩:=aW i;refine cZ .normal (fun L' w'=>∃(U:Unit),∃s,(.inl U:AG)=V/\L'=[(0,vP bp0 0),(1,vI p1),(4,vP z 0),(5,vP B 0)]/\m.le s/\St s (kB B (Va y1.2) 109::kB bp0 (Vc y1.1 l o n p b c) 84::kB z (Vb 0 eB 0 0) 109::kR b y1.1.2.2.2 c 61 5::O) w'/\P4 s l o n p b c y1.1) ?_ ?_
 .rintro _ R ⟨U,s,rfl,rfl,q,g,d,f,k⟩;have i:=S;refine aE (aG (aB 2 [(15,vB (p1 !=5))] (cY .normal i (fun M L' w'=>∃a,L'=[(4,vP z 0),(5,vP B 0)]/\m.le a/\St a (kB B (Va y1.2) 109::kB bp0 #[vS l y1.1.1 o,vI M,vS n y1.1.2.2.1 p,vS b y1.1.2.2.2 c] 84::kB z (Vb 0 eB 0 0) 109::kR b y1.1.2.2.2 c 61 5::O) w'/\P4 a l o n p b c y1.1) ?_ ?_)))
  .rintro M i _ w8 ⟨a,rfl,q,g,d,f,k⟩;refine aE (aD (bA 23 (.agg (Va y1.2)) g.h (cM (.agg (Va y1.2)) g.f2 fun D g=>(aO (aK ?_)))));cases i;refine oP 4 109 [] [] g.h ?_;exact .inr ⟨_,rfl,l,o,n,p,b,c,a,rfl,q,g.t.t.f1.f1,d,f,k⟩
  intro M i D;refine aH i ?_ ?_
  .intro A i;refine aZ (aA 3 [(16,vP bp0 0),(18,vP bp0 1)] (bA 19 (vI y1.1.2.1) g.t.h (aA 3 [(20,vI (wr (y1.1.2.1+1))),(22,vP bp0 1)] (cX #[vS l y1.1.1 o,vI (wr (y1.1.2.1+1)),vS n y1.1.2.2.1 p,vS b y1.1.2.2.2 c] g.f1 fun w9 g=>(aU rfl ?_)))));cases i;exact xE (D _ _ ⟨s,rfl,q,g.f3.f3.f2.f3,d,f,k⟩)
  intro A i;refine aM ?_;cases i;exact xE (D _ _ ⟨s,rfl,q,g.f3.f3.f3.f3,d,f,k⟩)
 intro D;refine aH i ?_ ?_
 .intro A i;refine aZ (bA 12 (.agg (Va y1.2)) g.h (cI 13 i (mX (p0:=y1.2) g) ?_));rintro y2 i _ w6 (⟨z1,m4,rfl,rfl,M,g⟩|⟨y3,rfl,m3,rfl,a,g⟩)
  .obtain rfl:=sI i;have i:=S;refine bN ?_;obtain rfl:=sI i;have g:=g.t.t.t.t;exact cE (.inl ⟨z1,m4,rfl,rfl,q.t M,g⟩)
  refine aU rfl ?_;have R:=jF i;exact xE (D _ _ ⟨(),m3,R,rfl,q.t a,g.f2.f3.f3.f3,d.mono a,f.mono a,k.mono a⟩)
 intro A i;refine aM ?_;have R:=jF i;exact xE (D _ _ ⟨(),Z,R,rfl,q,g.f2.f3.f3.f3,d,f,k⟩)
def sU(N:Nat)(p0:bB):Option xK:=
 (sT N p0 1).bind fun y1=>(match y1 with| .inl a=>some (.inl a)| .inr a=>(vN N a.2.2.1).bind fun b=>(if b=true then((eT N a.2 9).bind fun b=>(match b with| .inl b=>some (.inr (.inl b))| .inr b=>some (.inl ()))) else(some (.inl ())):Option AG).bind fun b=>(match b with| .inl b=>some (.inr (a.1,a.2))| .inr z=>some z))
theorem FD{p0:bB}{r:xK}(g:St m (kB bp0 (Vc p0 a1 c1 a2 c2 a3 c3) 84::kR a3 p0.2.2.2 c3 61 5::O) w)(r1:RepS C5 m a1 c1 p0.1)(r2:RepS aF m a2 c2 p0.2.2.1)(r3:RepS C2 m a3 c3 p0.2.2.2)(i:sU N p0=some r):Calls prog 84 #[vP bp0 0] w fun e w'=>(∃(z0:Tu),∃m',r= .inl z0/\e= .panicked [{v:= .iface 80 (.agg (Vd z0)),recovered:=false}]/\m.le m'/\St m' (O) w')\/(∃(l:tV),r= .inr l/\∃y B z D f k m',e= .returned (.agg (Va l.2))/\m.le m'/\St m' (kB bp0 (Vc l.1 y B z D f k) 84::kR f l.1.2.2.2 k 61 5::O) w'/\P4 m' y B z D f k l.1):=by
 unfold sU at i;have q:=m.le_refl;refine bK func84 rfl ntmps84 ?_;refine aD (dS 2 109 (.agg (Vb 0 eB 0 0)) g fun U w1 g=>(aO (aD (aA 1 [(4,vP bp0 0)] (cI 5 i (BP (p0:=p0) g.f2.f2 r1 r2 r3) ?_)))));rintro y1 i _ w2 (⟨z1,m2,rfl,rfl,M,g⟩|⟨b,rfl,E,G,F,H,n,o,m1,rfl,K,g,p,s,u⟩)
 .refine bN ?_;obtain rfl:=sI i;have g:=g.t;exact cE (.inl ⟨z1,m2,rfl,rfl,q.t M,g⟩)
 refine dS 3 109 (.agg (Vb 0 eB 0 0)) g fun V w4 g=> ?_;refine cM (.agg (Va b.2)) g fun w5 g=> ?_;refine aO (aG (aD (cU 1 7 9 6 1 (vT b.2.2.1) g.h (aR 8 i (HY g) ?_))));rintro y3 i _ w6 ⟨m3,rfl,a,g⟩;have q:=(q.t K).t a;refine aO ?_;have⟨a7,i,Y⟩:=aW i;refine cZ .normal (fun L' w'=>∃(Z:Unit),∃d,(.inl Z:AG)=a7/\L'=[(2,vP U 0),(3,vP V 0)]/\m.le d/\St d (kB V (Va b.2) 109::kB bp0 (Vc b.1 E G F H n o) 84::kB U (Vb 0 eB 0 0) 109::kR n b.1.2.2.2 o 61 5::O) w'/\P4 d E G F H n o b.1) ?_ ?_
 .rintro _ x ⟨Z,d,rfl,rfl,q,g,p,s,u⟩;have i:=Y;refine aE (aD (bA 11 (.agg (Va b.2)) g.h (cM (.agg (Va b.2)) g.f2 fun c g=>(aO (aK ?_)))));cases i;refine oP 2 109 [] [] g.h ?_;exact .inr ⟨_,rfl,E,G,F,H,n,o,d,rfl,q,g.t.t.f1.f1,p,s,u⟩
 intro x;refine aH i ?_ ?_
 .intro A i;refine aZ (bA 9 (.agg (Va b.2)) g.h (cI 10 i (mX (p0:=b.2) g) ?_));rintro y4 i _ w8 (⟨z2,m6,rfl,rfl,R,g⟩|⟨y5,rfl,m5,rfl,c,g⟩)
  .obtain rfl:=sI i;have i:=Y;refine bN ?_;obtain rfl:=sI i;have g:=g.t.t.t.t;exact cE (.inl ⟨z2,m6,rfl,rfl,q.t R,g⟩)
  refine aU rfl ?_;have S:=jF i;exact xE (x _ _ ⟨(),m5,S,rfl,q.t c,g.f2.f3.f3.f3,(p.mono a).mono c,(s.mono a).mono c,(u.mono a).mono c⟩)
 intro A i;refine aM ?_;have S:=jF i;exact xE (x _ _ ⟨(),m3,S,rfl,q,g.f2.f3.f3.f3,p.mono a,s.mono a,u.mono a⟩)
def mW(N:Nat)(p0:bB)(p1:BA):Option EM:=
 (rS N p0 4 p1).bind fun y1=>(if(!y1.2)=true then((oH N y1.1).bind fun a=>(eT N a.2 9).bind fun b=>(match b with| .inl b=>some (.inr (.inl b))| .inr b=>some (.inl a.1))) else(some (.inl y1.1)):Option T1i).bind fun a=>(match a with| .inl a=>some (.inr (a.1,IntKind.wrap .i64 (a.2.1+1),a.2.2.1,a.2.2.2))| .inr z=>some z)
theorem qB{p0:bB}{p1:BA}{r:EM}(g:St m (kB bp0 (Vc p0 a1 c1 a2 c2 a3 c3) 84::kR a3 p0.2.2.2 c3 61 5::O) w)(r1:RepS C5 m a1 c1 p0.1)(r2:RepS aF m a2 c2 p0.2.2.1)(r3:RepS C2 m a3 c3 p0.2.2.2)(i:mW N p0 p1=some r):Calls prog 85 #[vP bp0 0,vT p1] w fun e w'=>(∃(z0:Tu),∃m',r= .inl z0/\e= .panicked [{v:= .iface 80 (.agg (Vd z0)),recovered:=false}]/\m.le m'/\St m' (O) w')\/(∃(x:bB),r= .inr x/\∃z D B E s u m',e= .returned (.tuple #[])/\m.le m'/\St m' (kB bp0 (Vc x z D B E s u) 84::kR s x.2.2.2 u 61 5::O) w'/\P4 m' z D B E s u x):=by
 unfold mW at i;have q:=m.le_refl;refine bK func85 rfl ntmps85 ?_;refine aG (aX 2 [(4,vP bp0 0),(5,vT p1)] (aR 6 i (yB (p0:=p0) g.f1.f1 r1 r2 r3) ?_));rintro y1 i _ w1 ⟨a4,c4,a5,c5,a6,c6,m1,rfl,F,g,r4,r5,r6⟩;have q:=q.t F;refine aI 1 [(7,vB (!y1.2))] ?_;have⟨Z,i,Y⟩:=aW i;refine cZ .normal (fun L' w'=>∃(a:bB),∃f l k n c d p,(.inl a:T1i)=Z/\L'=[(0,vP bp0 0)]/\m.le p/\St p (kB bp0 (Vc a f l k n c d) 84::kR c a.2.2.2 d 61 5::O) w'/\P4 p f l k n c d a) ?_ ?_
 .rintro _ G ⟨a,f,l,k,n,c,d,p,rfl,rfl,q,g,b,o,y⟩;have i:=Y;refine aE (aZ (aA 3 [(11,vP bp0 0),(13,vP bp0 1)] (bA 14 (vI a.2.1) g.h (aA 3 [(15,vI (wr (a.2.1+1))),(17,vP bp0 1)] (cX #[vS f a.1 l,vI (wr (a.2.1+1)),vS k a.2.2.1 n,vS c a.2.2.2 d] g fun H g=>(aU rfl ?_))))));cases i;exact pE [] [] rfl ResAll.nil (.inr ⟨_,rfl,f,l,k,n,c,d,p,rfl,q,g.f1.f1,b,o,y⟩)
 intro y;refine aH i ?_ ?_
 .intro A i;refine aZ (aA 1 [(8,vP bp0 0)] (aR 9 i (qY (p0:=y1.1) g.f1.f1 r4 r5 r6) ?_));rintro y2 i _ w3 ⟨K,S,M,U,R,V,m3,rfl,o,g,b0,b1,b2⟩;refine cI 10 i (mX (p0:=y2.2) g) ?_;rintro y3 i _ w4 (⟨z1,m5,rfl,rfl,G,g⟩|⟨y4,rfl,m4,rfl,b,g⟩)
  .obtain rfl:=sI i;have i:=Y;refine bN ?_;obtain rfl:=sI i;have g:=g.t.t;exact cE (.inl ⟨z1,m5,rfl,rfl,(q.t o).t G,g⟩)
  refine aU rfl ?_;have H:=jF i;exact xE (y _ _ ⟨y2.1,K,S,M,U,R,V,m4,H,rfl,(q.t o).t b,g.f1.f1,b0.mono b,b1.mono b,b2.mono b⟩)
 intro A i;refine aM ?_;have H:=jF i;exact xE (y _ _ ⟨y1.1,a4,c4,a5,c5,a6,c6,m1,H,rfl,q,g.f1.f1,r4,r5,r6⟩)
def sS(N:Nat)(p0:bB):Option xK:=
 (sT N p0 3).bind fun y1=>(match y1 with| .inl a=>some (.inl a)| .inr a=>(sY N a.2.2.1).bind fun b=>(if(!b)=true then((eT N a.2 9).bind fun b=>(match b with| .inl b=>some (.inr (.inl b))| .inr b=>some (.inl ()))) else(some (.inl ())):Option AG).bind fun b=>(match b with| .inl b=>some (.inr (a.1,a.2))| .inr z=>some z))
theorem FA{p0:bB}{r:xK}(g:St m (kB bp0 (Vc p0 a1 c1 a2 c2 a3 c3) 84::kR a3 p0.2.2.2 c3 61 5::O) w)(r1:RepS C5 m a1 c1 p0.1)(r2:RepS aF m a2 c2 p0.2.2.1)(r3:RepS C2 m a3 c3 p0.2.2.2)(i:sS N p0=some r):Calls prog 124 #[vP bp0 0] w fun e w'=>(∃(z0:Tu),∃m',r= .inl z0/\e= .panicked [{v:= .iface 80 (.agg (Vd z0)),recovered:=false}]/\m.le m'/\St m' (O) w')\/(∃(l:tV),r= .inr l/\∃y B z D f k m',e= .returned (.agg (Va l.2))/\m.le m'/\St m' (kB bp0 (Vc l.1 y B z D f k) 84::kR f l.1.2.2.2 k 61 5::O) w'/\P4 m' y B z D f k l.1):=by
 unfold sS at i;have q:=m.le_refl;refine bK func124 rfl ntmps124 ?_;refine aD (dS 2 109 (.agg (Vb 0 eB 0 0)) g fun U w1 g=>(aO (aD (aA 1 [(4,vP bp0 0)] (cI 5 i (BP (p0:=p0) g.f2.f2 r1 r2 r3) ?_)))));rintro y1 i _ w2 (⟨z1,m2,rfl,rfl,M,g⟩|⟨b,rfl,E,G,F,H,n,o,m1,rfl,K,g,p,s,u⟩)
 .refine bN ?_;obtain rfl:=sI i;have g:=g.t;exact cE (.inl ⟨z1,m2,rfl,rfl,q.t M,g⟩)
 refine dS 3 109 (.agg (Vb 0 eB 0 0)) g fun V w4 g=> ?_;refine cM (.agg (Va b.2)) g fun w5 g=> ?_;refine aO (aG (aD (cU 1 7 9 6 1 (vT b.2.2.1) g.h (aR 8 i (FN g) ?_))));rintro y3 i _ w6 ⟨m3,rfl,a,g⟩;have q:=(q.t K).t a;refine aI 1 [(9,vB (!y3))] ?_;have⟨a7,i,Y⟩:=aW i;refine cZ .normal (fun L' w'=>∃(Z:Unit),∃d,(.inl Z:AG)=a7/\L'=[(2,vP U 0),(3,vP V 0)]/\m.le d/\St d (kB V (Va b.2) 109::kB bp0 (Vc b.1 E G F H n o) 84::kB U (Vb 0 eB 0 0) 109::kR n b.1.2.2.2 o 61 5::O) w'/\P4 d E G F H n o b.1) ?_ ?_
 .rintro _ x ⟨Z,d,rfl,rfl,q,g,p,s,u⟩;have i:=Y;refine aE (aD (bA 12 (.agg (Va b.2)) g.h (cM (.agg (Va b.2)) g.f2 fun c g=>(aO (aK ?_)))));cases i;refine oP 2 109 [] [] g.h ?_;exact .inr ⟨_,rfl,E,G,F,H,n,o,d,rfl,q,g.t.t.f1.f1,p,s,u⟩
 intro x;refine aH i ?_ ?_
 .intro A i;refine aZ (bA 10 (.agg (Va b.2)) g.h (cI 11 i (mX (p0:=b.2) g) ?_));rintro y4 i _ w8 (⟨z2,m6,rfl,rfl,R,g⟩|⟨y5,rfl,m5,rfl,c,g⟩)
  .obtain rfl:=sI i;have i:=Y;refine bN ?_;obtain rfl:=sI i;have g:=g.t.t.t.t;exact cE (.inl ⟨z2,m6,rfl,rfl,q.t R,g⟩)
  refine aU rfl ?_;have S:=jF i;exact xE (x _ _ ⟨(),m5,S,rfl,q.t c,g.f2.f3.f3.f3,(p.mono a).mono c,(s.mono a).mono c,(u.mono a).mono c⟩)
 intro A i;refine aM ?_;have S:=jF i;exact xE (x _ _ ⟨(),m3,S,rfl,q,g.f2.f3.f3.f3,p.mono a,s.mono a,u.mono a⟩)
def rR(N:Nat)(p0:bB)(p1:BA):Option (bB×Bool):=
 (rS N p0 4 p1).bind fun y1=>if(!y1.2)=true then(some (y1.1,false)) else(some ((y1.1.1,IntKind.wrap .i64 (y1.1.2.1+1),y1.1.2.2.1,y1.1.2.2.2),true))
theorem xT{p0:bB}{p1:BA}{r:bB×Bool}(g:St m (kB bp0 (Vc p0 a1 c1 a2 c2 a3 c3) 84::kR a3 p0.2.2.2 c3 61 5::O) w)(D:RepS C5 m a1 c1 p0.1)(E:RepS aF m a2 c2 p0.2.2.1)(F:RepS C2 m a3 c3 p0.2.2.2)(i:rR N p0 p1=some r):Calls prog 150 #[vP bp0 0,vT p1] w fun e w'=>∃d k f l b c m',e= .returned (vB r.2)/\m.le m'/\St m' (kB bp0 (Vc r.1 d k f l b c) 84::kR b r.1.2.2.2 c 61 5::O) w'/\P4 m' d k f l b c r.1:=by
 unfold rR at i;have q:=m.le_refl;refine bK func150 rfl ntmps150 ?_;refine aB 1 [] (aG ?_);refine aX 2 [(5,vP bp0 0),(6,vT p1)] ?_;refine aR 7 i (yB (p0:=p0) g.f1.f1 D E F) ?_;rintro y1 i _ G ⟨n,s,o,u,p,v,x,rfl,a,g,y,z,B⟩;refine aI 1 [(8,vB (!y1.2))] (aH i ?_ ?_)
 .intro A i;refine aB 1 [(4,vB false)] (aK ?_);refine aV ?_;cases i;exact aN [4] [vB false] ⟨n,s,o,u,p,v,x,rfl,q.t a,g.f1.f1,y,z,B⟩
 intro A i;refine aM (aE (aX 3 [(9,vP bp0 0),(11,vP bp0 1)] (bA 12 (vI y1.1.2.1) g.h (aA 3 [(13,vI (wr (y1.1.2.1+1))),(15,vP bp0 1)] (cX #[vS n y1.1.1 s,vI (wr (y1.1.2.1+1)),vS o y1.1.2.2.1 u,vS p y1.1.2.2.2 v] g fun H g=>(aO (aD (aI 1 [(4,vB true)] (aK ?_)))))))));cases i;exact aN [4] [vB true] ⟨n,s,o,u,p,v,x,rfl,q.t a,g.f1.f1,y,z,B⟩
def AP(N:Nat)(b:sN):Option (sN⊕sN⊕T1m):=
 (sU N b.2).bind fun a=>(match a with| .inl a=>some (.inr (.inr (.inl a)))| .inr a=>(if((List.length b.1:Int)==8)=true then((eT N a.2 2).bind fun c=>(match c with| .inl c=>some (.inr (.inr (.inr (.inl c))))| .inr c=>some (.inl ()))) else(some (.inl ())):Option T1n).bind fun c=>(match c with| .inl c=>(rQ N b.1 a.2.2.1).bind fun c=>(if c=true then((eT N a.2 10).bind fun c=>(match c with| .inl c=>some (.inr (.inr (.inr (.inl c))))| .inr c=>some (.inl ()))) else(some (.inl ())):Option T1n).bind fun c=>(match c with| .inl c=>(cF 16 b.1 ([a.2.2.1])).bind fun b=>(rR N a.1 (⟨#[44]⟩:BA)).bind fun a=>if(!a.2)=true then(some (.inr (.inl (b,a.1.1,a.1.2.1,a.1.2.2.1,a.1.2.2.2)))) else(some (.inl (b,a.1.1,a.1.2.1,a.1.2.2.1,a.1.2.2.2)))| .inr z=>some z)| .inr z=>some z))
def xR(N:Nat)(p0:bB):Option T1m:=
 (mW N p0 (⟨#[40]⟩:BA)).bind fun y1=>(match y1 with| .inl a=>some (.inl a)| .inr a=>(rR N a (⟨#[41]⟩:BA)).bind fun a=>if a.2=true then(some (.inr (a.1,([]:Te)))) else((aS (AP N) N (([]:Te),a.1.1,a.1.2.1,a.1.2.2.1,a.1.2.2.2)).bind fun a=>(match a with| .inl a=>(mW N a.2 (⟨#[41]⟩:BA)).bind fun b=>(match b with| .inl b=>some (.inl b)| .inr b=>some (.inr (b,a.1)))| .inr (z)=>some z)))
theorem VO{p0:bB}{r:T1m}(g:St m (kB bp0 (Vc p0 a1 c1 a2 c2 a3 c3) 84::kR a3 p0.2.2.2 c3 61 5::O) w)(r1:RepS C5 m a1 c1 p0.1)(r2:RepS aF m a2 c2 p0.2.2.1)(r3:RepS C2 m a3 c3 p0.2.2.2)(i:xR N p0=some r):Calls prog 127 #[vP bp0 0] w fun e w'=>(∃(z0:Tu),∃m',r= .inl z0/\e= .panicked [{v:= .iface 80 (.agg (Vd z0)),recovered:=false}]/\m.le m'/\St m' (O) w')\/(∃(G:bB×Te),r= .inr G/\∃f9 g1 g0 g2 d8 e0 d9 e1 m',e= .returned (vS d9 G.2 e1)/\m.le m'/\St m' (kR d9 G.2 e1 9 1::kB bp0 (Vc G.1 f9 g1 g0 g2 d8 e0) 84::kR d8 G.1.2.2.2 e0 61 5::O) w'/\RepS C5 m' f9 g1 G.1.1/\RepS aF m' g0 g2 G.1.2.2.1/\RepS C2 m' d8 e0 G.1.2.2.2/\RepS aF m' d9 e1 G.2):=by
 unfold xR at i;have q:=m.le_refl;refine bK func127 rfl ntmps127 ?_;refine aB 1 [] (aD ?_);refine aI 1 [(3,va)] (aD (aA 1 [(5,vP bp0 0)] (cI 6 i (qB (p0:=p0) g.f1.f1 r1 r2 r3) ?_)));rintro y1 i _ w1 (⟨z1,m2,rfl,rfl,g4,g⟩|⟨y2,rfl,a4,c4,a5,c5,a6,c6,m1,rfl,d5,g,r4,r5,r6⟩)
 .refine bN ?_;obtain rfl:=sI i;exact cE (.inl ⟨z1,m2,rfl,rfl,q.t g4,g⟩)
 refine aO (aG (aX 1 [(7,vP bp0 0)] (aR 8 i (xT (p0:=y2) g.f1.f1 r4 r5 r6) ?_)));rintro y3 i _ w3 ⟨a7,c7,a8,c8,a9,c9,m3,rfl,d6,g,r7,r8,r9⟩;refine aO (aH i ?_ ?_)
 .intro A i;refine aB 1 [(2,va)] (aK ?_);refine aV ?_;cases i;refine aN [2] [va] ?_;have g:=(g.nilroom 9 1).front2.front2.front2;exact .inr ⟨_,rfl,a7,c7,a8,c8,a9,c9,none,0,m3,rfl,(q.t d5).t d6,g,r7,r8,r9,(RepS.nil _ _)⟩
 intro A i;refine aM (aE (aG (bJ ?_)));have⟨d7,i,j1⟩:=aW i;refine cZ (.exit 0) (fun L' w'=>∃(o:sN),∃u x b5 d0 b6 d1 S Z M,(.inl o)=d7/\L'=[(0,vP bp0 0),(3,vS u o.1 x)]/\m.le M/\St M (kB bp0 (Vc o.2 b5 d0 b6 d1 S Z) 84::kR u o.1 x 9 1::kR S o.2.2.2.2 Z 61 5::O) w'/\RepS aF M u x o.1/\RepS C5 M b5 d0 o.2.1/\RepS aF M b6 d1 o.2.2.2.1/\RepS C2 M S Z o.2.2.2.2) ?_ ?_
 .rintro _ Y ⟨o,u,x,b5,d0,b6,d1,S,Z,M,rfl,rfl,q,g,y,z,B,D⟩;have i:=j1;refine dT (aE (aX 1 [(30,vP bp0 0)] (cI 31 i (qB (p0:=o.2) g.f2.f1 z B D) ?_)));rintro U i _ R (⟨K,s,rfl,rfl,b,g⟩|⟨V,rfl,c,k,d,l,f,n,p,rfl,a,g,E,F,H⟩)
  .refine bN ?_;obtain rfl:=sI i;have g:=g.t;exact cE (.inl ⟨K,s,rfl,rfl,q.t b,g⟩)
  refine aO (aD (aI 2 [(2,vS u o.1 x)] (aK ?_)));cases i;exact aN [2] [vS u o.1 x] (.inr ⟨_,rfl,c,k,d,l,f,n,u,x,p,rfl,q.t a,g.f1.f1.f2,E,F,H,y.mono a⟩)
 intro e2;have g:=(g.nilroom 9 1).front2.front1.front2;refine dQ _ kr (dP (fun k1 L' w'=>∃(a:sN),∃c d b7 d2 b8 d3 U b0 R,aS (AP N) k1 a=some d7/\L'=[(0,vP bp0 0),(3,vS c a.1 d)]/\m.le R/\St R (kB bp0 (Vc a.2 b7 d2 b8 d3 U b0) 84::kR c a.1 d 9 1::kR U a.2.2.2.2 b0 61 5::O) w'/\RepS aF R c d a.1/\RepS C5 R b7 d2 a.2.1/\RepS aF R b8 d3 a.2.2.2.1/\RepS C2 R U b0 a.2.2.2.2) N ⟨(([]:Te),y3.1.1,y3.1.2.1,y3.1.2.2.1,y3.1.2.2.2),none,0,a7,c7,a8,c8,a9,c9,m3,i,rfl,(q.t d5).t d6,g,(RepS.nil _ _),r7,r8,r9⟩ ?_);rintro k1 _ w5 ⟨a,c,d,b7,d2,b8,d3,U,b0,R,hL,rfl,q,g,p,g9,h0,h1⟩;rcases k1 with _|k1
 .exact dU hL
 obtain⟨h5,i,g3,F⟩:=dV hL;clear hL;unfold AP at i;refine bJ (aX 1 [(9,vP bp0 0)] (cI 10 i (FD (p0:=a.2) g.f2.f1 g9 h0 h1) ?_));rintro y4 i _ w6 (⟨z2,m7,rfl,rfl,g5,g⟩|⟨f,rfl,V,b3,Y,b4,D,E,m6,rfl,K,g,y,z,B⟩)
 .refine bN ?_;refine eI ?_;have ho:=F _ (sI i);subst ho;have i:=j1;refine bN ?_;refine eI ?_;refine bN ?_;obtain rfl:=sI i;have g:=g.t;exact cE (.inl ⟨z2,m7,rfl,rfl,q.t g5,g⟩)
 have q:=q.t K;refine dS 4 109 (.agg (Vb 0 eB 0 0)) g fun b1 w8 g=> ?_;refine cM (.agg (Va f.2)) g fun w9 g=> ?_;refine aO (aG (aB 3 [(13,vB ((a.1.length:Int)==8))] ?_));have⟨g7,i,j2⟩:=aW i;refine cZ .normal (fun L' w'=>∃(o2:Unit),∃m8,(.inl o2:T1n)=g7/\L'=[(0,vP bp0 0),(3,vS c a.1 d),(4,vP b1 0)]/\m.le m8/\St m8 (kB b1 (Va f.2) 109::kB bp0 (Vc f.1 V b3 Y b4 D E) 84::kR D f.1.2.2.2 E 61 5::kR c a.1 d 9 1::O) w'/\RepS aF m8 c d a.1/\P4 m8 V b3 Y b4 D E f.1) ?_ ?_
 .rintro _ h6 ⟨o2,m8,rfl,rfl,q,g,p,y,z,B⟩;have i:=j2;refine aE (aG (aX 2 [(16,vS c a.1 d),(17,vP b1 1)] (bA 18 (vT f.2.2.1) g.h (aR 19 i (EV g p) ?_))));rintro y8 i _ h7 ⟨g6,rfl,b,g⟩;have q:=q.t b;refine aO ?_;have⟨g8,i,j3⟩:=aW i;refine cZ .normal (fun L' w'=>∃(o3:Unit),∃H,(.inl o3:T1n)=g8/\L'=[(0,vP bp0 0),(3,vS c a.1 d),(4,vP b1 0)]/\m.le H/\St H (kB b1 (Va f.2) 109::kB bp0 (Vc f.1 V b3 Y b4 D E) 84::kR D f.1.2.2.2 E 61 5::kR c a.1 d 9 1::O) w'/\RepS aF H c d a.1/\P4 H V b3 Y b4 D E f.1) ?_ ?_
  .rintro _ h8 ⟨o3,H,rfl,rfl,q,g,p,y,z,B⟩;have i:=j3;refine aE (aX 2 [(22,vS c a.1 d),(23,vP b1 1)] (bA 24 (vT f.2.2.1) g.h (eD 25 9 1 aF [f.2.2.1] g fun b2 h3 h9 k g h2=>(iG 26 26 26 9 16 22 25 g.f4 (.inl kr) (p.mono k) h2.src i fun l1 i b9 d4 h4 k0 l g f5=>(aA 1 [(3,vS b9 l1 d4)] (aU rfl ?_))))));have g:=g.f1.t;refine aE (aX 1 [(27,vP bp0 0)] (aR 28 i (xT (p0:=f.1) g.f3.f3 ((y.mono k).mono l) ((z.mono k).mono l) ((B.mono k).mono l)) ?_));rintro n i _ k2 ⟨e4,e7,e5,e8,e6,e9,f0,rfl,s,g,f6,f7,f8⟩;refine aI 1 [(29,vB (!n.2))] (aH i ?_ ?_)
   .intro A i;refine dO (yW rfl ?_);have ho:=F _ (sI i);have g:=g.f3.t.f1.f2.f2;refine bS ?_;exact xE (e2 _ _ ⟨(l1,n.1.1,n.1.2.1,n.1.2.2.1,n.1.2.2.2),b9,d4,e4,e7,e5,e8,e6,e9,f0,ho,rfl,((q.t k).t l).t s,g,f5.mono s,f6,f7,f8⟩)
   intro A i;refine aM (bO ?_);have hL:=g3 _ (sI i);exact xE (dN ⟨(l1,n.1.1,n.1.2.1,n.1.2.2.1,n.1.2.2.2),b9,d4,e4,e7,e5,e8,e6,e9,f0,hL,rfl,((q.t k).t l).t s,g.f3.t.f1.f2.f2,f5.mono s,f6,f7,f8⟩)
  intro n;refine aH i ?_ ?_
  .intro A i;refine aZ (bA 20 (.agg (Va f.2)) g.h (cI 21 i (mX (p0:=f.2) g) ?_));rintro y9 i _ e4 (⟨z4,d4,rfl,rfl,l,g⟩|⟨e5,rfl,b9,rfl,k,g⟩)
   .obtain rfl:=sI i;have i:=j3;refine bN ?_;refine eI ?_;have ho:=F _ (sI i);subst ho;have i:=j1;refine bN ?_;refine eI ?_;refine bN ?_;obtain rfl:=sI i;have g:=g.t.t.t.t;exact cE (.inl ⟨z4,d4,rfl,rfl,q.t l,g⟩)
   refine aU rfl ?_;have s:=jF i;exact xE (n _ _ ⟨(),b9,s,rfl,q.t k,g.f3.f3.f3.f3,(p.mono b).mono k,(y.mono b).mono k,(z.mono b).mono k,(B.mono b).mono k⟩)
  intro A i;refine aM ?_;have s:=jF i;exact xE (n _ _ ⟨(),g6,s,rfl,q,g.f3.f3.f3.f3,p.mono b,y.mono b,z.mono b,B.mono b⟩)
 intro k;refine aH i ?_ ?_
 .intro A i;refine aZ (bA 14 (.agg (Va f.2)) g.h (cI 15 i (mX (p0:=f.2) g) ?_));rintro y6 i _ b9 (⟨z3,s,rfl,rfl,l,g⟩|⟨y7,rfl,H,rfl,b,g⟩)
  .obtain rfl:=sI i;have i:=j2;refine bN ?_;refine eI ?_;have ho:=F _ (sI i);subst ho;have i:=j1;refine bN ?_;refine eI ?_;refine bN ?_;obtain rfl:=sI i;have g:=g.t.t.t.t;exact cE (.inl ⟨z3,s,rfl,rfl,q.t l,g⟩)
  refine aU rfl ?_;have n:=jF i;exact xE (k _ _ ⟨(),H,n,rfl,q.t b,g.f3.f3.f3.f3,(p.mono K).mono b,y.mono b,z.mono b,B.mono b⟩)
 intro A i;refine aM ?_;have n:=jF i;exact xE (k _ _ ⟨(),m6,n,rfl,q,g.f3.f3.f3.f3,p.mono K,y,z,B⟩)
def qC(N:Nat)(p0:bB)(p1:iY)(p2:Th):cT:=
 (if((List.length p0.2.2.2:Int)==256)=true then((eT N p1 2).bind fun y1=>(match y1 with| .inl a=>some (.inr (.inl a))| .inr a=>some (.inl ()))) else(some (.inl ())):Option uV).bind fun a=>(match a with| .inl a=>(cF 64 p0.2.2.2 ([p2])).bind fun a=>some (.inr ((p0.1,p0.2.1,p0.2.2.1,a),IntKind.wrap .i64 ((List.length a:Int)-1)))| .inr z=>some z)
theorem uZ{p0:bB}{p1:iY}{p2:Th}{r:mT}(g:St m (kB bp0 (Vc p0 a1 c1 a2 c2 a3 c3) 84::kR a3 p0.2.2.2 c3 61 5::O) w)(z:RepS C5 m a1 c1 p0.1)(B:RepS aF m a2 c2 p0.2.2.1)(D:RepS C2 m a3 c3 p0.2.2.2)(E:RepS (aT .i64) m a4 c4 p2.2.2.2.2)(i:qC N p0 p1 p2=some r):Calls prog 152 #[vP bp0 0,.agg (Va p1),.agg (V3 p2 a4 c4)] w fun e w'=>(∃(Y:Tu),∃m',r= .inl Y/\e= .panicked [{v:= .iface 80 (.agg (Vd Y)),recovered:=false}]/\m.le m'/\St m' (O) w')\/(∃(u:nG),r= .inr u/\∃F H G K p s m',e= .returned (vI u.2)/\m.le m'/\St m' (kB bp0 (Vc u.1 F H G K p s) 84::kR p u.1.2.2.2 s 61 5::O) w'/\P4 m' F H G K p s u.1):=by
 unfold qC at i;have q:=m.le_refl;refine bK func152 rfl ntmps152 ?_;refine aD (mB 4 109 (.agg (Va p1)) g fun b1 m1 w1 c g R=>(mB 5 61 (.agg (V3 p2 a4 c4)) g fun M Z w2 b g n=> ?_));have q:=(q.t c).t b;refine aI 1 [] (aG (aD (cU 3 10 41 9 3 (vS a3 p0.2.2.2 c3) g.h (aI 2 [(12,vB ((p0.2.2.2.length:Int)==256))] ?_))));have⟨V,i,S⟩:=aW i;refine cZ .normal (fun L' w'=>∃(U:Unit),∃k,(.inl U:uV)=V/\L'=[(0,vP bp0 0),(5,vP M 0)]/\m.le k/\St k (kB bp0 (Vc p0 a1 c1 a2 c2 a3 c3) 84::kR a3 p0.2.2.2 c3 61 5::O) w'/\MRow k M 0 (V4 p2 a4 c4)/\RepS (aT .i64) k a4 c4 p2.2.2.2.2/\P4 k a1 c1 a2 c2 a3 c3 p0) ?_ ?_
 .rintro _ w3 ⟨U,k,rfl,rfl,q,g,n,E,z,B,D⟩;have i:=S;refine aE (aG (eA [(11,fun w'=>Inv k w'/\True),(10,fun w'=>Inv k w'/\Piece.holds k w' (kB bp0 (Vc p0 a1 c1 a2 c2 a3 c3) 84)/\True)] kr g fun w6 _ g=> ?_));have a:=k.le_refl;refine⟨⟨iA g a,⟨.inr ⟨Inv.anti g.inv a,Piece.holds_anti g.h a,trivial⟩,trivial⟩⟩,?_⟩;refine aJ 0 15 (vP bp0 0) (.head _) (aJ 1 16 (vP bp0 0) (.head _) (aJ 2 17 (vP bp0 0) (.head _) (aJ 3 18 (vP bp0 3) (.head _) (dY 41 18 4 19 3 (vS a3 p0.2.2.2 c3) (.tail _ (.head _)) (fun _ h=>h.2.1) (iW 61 5 5 20 0 (.agg (V3 p2 a4 c4)) (.head _) (fun _ h=>h.1) n (bU 6 kr (mG (d:=21) (t:=41) (e:=61) (len:=1) (parts:= #[(0,(.tmp 20))]) C2 (xs:=[p2]) (V4 p2 a4 c4) kr rfl (fun _=>lZ kr _) rfl rfl g ⟨(V4 p2 a4 c4),_,rfl,⟨_,_,rfl,rfl,⟨_,_,rfl,rfl,⟨_,_,rfl,rfl,⟨_,_,rfl,rfl,(lE E)⟩⟩⟩⟩,rfl⟩ fun b3 m6 w7 f g r5=> ?_)))))));have a:=Mem.le_trans a f;refine⟨⟨iA g a,⟨.inr ⟨Inv.anti g.inv a,Piece.holds_anti g.t.h a,trivial⟩,trivial⟩⟩,?_⟩;refine bU 7 kr (zK 22 41 41 61 64 19 21 g.f2 (.inl kr) (D.mono f) r5.src i fun o i x y m7 w8 l g r6=> ?_);have a:=Mem.le_trans a l;refine⟨⟨iA g a,⟨.inr ⟨Inv.anti g.inv a,Piece.holds_anti g.t.t.h a,trivial⟩,trivial⟩⟩,?_⟩
  refine aJ 8 23 (vP bp0 0) (.head _) (aJ 9 24 (vP bp0 3) (.head _) (bU 10 kr (HE 41 24 22 3 (vS x o y) #[vS a1 p0.1 c1,vI p0.2.1,vS a2 p0.2.2.1 c2,vS x o y] g.f2 fun w9 g=>(⟨⟨iA g a,⟨.inl rfl,trivial⟩⟩,?_⟩))));refine dW kr ?_;have g:=g.f2.t;refine aE (aD (cU 3 28 41 27 3 (vS x o y) g.h (aI 3 [(6,vI (wr ((o.length:Int)-1)))] (aK ?_))));obtain rfl:=sI i;exact aN [6] [vI (wr ((o.length:Int)-1))] (.inr ⟨_,rfl,a1,c1,a2,c2,x,y,m7,rfl,(q.t f).t l,g.f1.f1,(z.mono f).mono l,(B.mono f).mono l,r6⟩)
 intro f;refine aH i ?_ ?_
 .intro A i;refine aZ (bX 13 (.agg (Va p1)) g (R.mono b) (cI 14 i (mX (p0:=p1) g) ?_));rintro y1 i _ w4 (⟨z1,y,rfl,rfl,l,g⟩|⟨y2,rfl,x,rfl,a,g⟩)
  .obtain rfl:=sI i;have i:=S;refine bN ?_;obtain rfl:=sI i;have g:=g.t.t;exact cE (.inl ⟨z1,y,rfl,rfl,q.t l,g⟩)
  refine aU rfl ?_;have o:=jF i;exact xE (f _ _ ⟨(),x,o,rfl,q.t a,g.f1.f1,n.mono a,((E.mono c).mono b).mono a,((z.mono c).mono b).mono a,((B.mono c).mono b).mono a,((D.mono c).mono b).mono a⟩)
 intro A i;refine aM ?_;have o:=jF i;exact xE (f _ _ ⟨(),Z,o,rfl,q,g.f1.f1,n,(E.mono c).mono b,(z.mono c).mono b,(B.mono c).mono b,(D.mono c).mono b⟩)
def tY(N:Nat)(p1:Int)(y1:tV)(a:Option Tn)(b:Unit):Option (Unit⊕Unit⊕nG):=
 (match a with|none=>some (.inr (.inl ()))|some a=>(if(y1.2.1==4)=true then(if(y1.2.2.1.toList==a.2.toList)=true then((vQ N a.1).bind fun b=>some (b==p1)) else(some false)) else(some false):Tl).bind fun b=>if b=true then(some (.inr (.inr ((y1.1,a.1))))) else(some (.inl ())))
instance dec_source_parser_operator_L1:DecidableEq (Unit⊕nG):=(@instDecidableEqSum _ _ inferInstance (@instDecidableEqProd _ _ (@instDecidableEqProd _ _ (@instDecidableEqList _ (@instDecidableEqProd _ _ inferInstance (@instDecidableEqProd _ _ inferInstance (@instDecidableEqProd _ _ inferInstance inferInstance)))) (@instDecidableEqProd _ _ inferInstance (@instDecidableEqProd _ _ (@instDecidableEqList _ inferInstance) (@instDecidableEqList _ (@instDecidableEqProd _ _ inferInstance (@instDecidableEqProd _ _ inferInstance (@instDecidableEqProd _ _ inferInstance (@instDecidableEqProd _ _ inferInstance (@instDecidableEqList _ inferInstance))))))))) inferInstance))
def BJ(N:Nat)(p0:bB)(p1:Int):Option nG:=
 (oH N p0).bind fun y1=>(yR N).bind fun a=>(isQ a).bind fun b=>(tJ (tY N p1 y1) (Option.getD a []) ()).bind fun a=>(match a with| .inl a=>some (y1.1,0)| .inr (z)=>some z)
theorem VT{p0:bB}{p1:Int}{r:nG}(g:St m (kB bp0 (Vc p0 a1 c1 a2 c2 a3 c3) 84::kR a3 p0.2.2.2 c3 61 5::O) w)(r1:RepS C5 m a1 c1 p0.1)(r2:RepS aF m a2 c2 p0.2.2.1)(r3:RepS C2 m a3 c3 p0.2.2.2)(i:BJ N p0 p1=some r):Calls prog 161 #[vP bp0 0,vI p1] w fun e w'=>∃c7 c9 c8 d0 a9 b0 m',e= .returned (vI r.2)/\m.le m'/\St m' (kB bp0 (Vc r.1 c7 c9 c8 d0 a9 b0) 84::kR a9 r.1.2.2.2 b0 61 5::O) w'/\P4 m' c7 c9 c8 d0 a9 b0 r.1:=by
 unfold BJ at i;have q:=m.le_refl;refine bK func161 rfl ntmps161 ?_;refine aB 1 [] (aD ?_);refine aA 1 [(8,vP bp0 0)] (aR 9 i (qY (p0:=p0) g.f1.f1 r1 r2 r3) ?_);rintro y1 i _ w1 ⟨G,M,H,R,o,p,m1,rfl,d1,g,u,v,y⟩;refine dS 5 109 (.agg (Vb 0 eB 0 0)) g fun b1 w2 g=> ?_;refine cM (.agg (Va y1.2)) g fun w3 g=> ?_;refine aO (aG (aD (aR 10 i (MR g) ?_)));rintro y2 i _ w4 ⟨q1,b,a,m2,rfl,D,g,l⟩;have⟨u1,d3,i⟩:=aW i;obtain⟨z,rfl⟩:=MapQ.at l d3;refine aQ rfl (PN (ek:=(fun n:Int=>Value.int .i64 n)) (c:=aF) (agg:=false) (d:=11) (t:=146) (kt:=3) (et:=9) (x:=(.tmp 10)) kr rfl (ev (.map (some z))) kr g l fun U w5 g d6=>(aO (bJ ?_)));have⟨a8,i,j2⟩:=aW i;refine cZ (.exit 0) (fun L' w'=>∃(o1:Unit) (b6:Array Nat) (b4:Tw),∃E,(.inl o1)=a8/\L'=[]/\m.le E/\St E (kB b1 (Va y1.2) 109::kB bp0 (Vc y1.1 G M H R o p) 84::cQ (some z) b a::pC U (some z) a b6::kR o y1.1.2.2.2 p 61 5::O) w'/\RepS C5 E G M y1.1.1/\RepS aF E H R y1.1.2.2.1/\RepS C2 E o p y1.1.2.2.2/\MapQ (fun n:Int=>Value.int .i64 n) aF false E (some z) b a y2/\ItR (fun n:Int=>Value.int .i64 n) aF false E b b6 b4) ?_ ?_
 .rintro _ k ⟨o1,b6,b4,E,rfl,rfl,q,g,u,v,y,l,f⟩;have i:=j2;refine dT (aE (aX 1 [(4,vI 0)] (aU rfl ?_)));have g:=g.f3.t;refine aE (aK ?_);cases i;exact aN [4] [vI 0] ⟨G,M,H,R,o,p,E,rfl,q,g.t.f1.t.f1.f1,u,v,y⟩
 intro b8;refine dQ _ kr (dP (fun k1 L' w'=>∃(s1:Unit) (Z:Array Nat) (F:Tw),∃s,LoopE (tY N p1 y1) F s1 a8 k1/\L'=[(1,vI p1),(5,vP b1 0),(11,vP U 0)]/\m.le s/\St s (kB b1 (Va y1.2) 109::kB bp0 (Vc y1.1 G M H R o p) 84::cQ (some z) b a::pC U (some z) a Z::kR o y1.1.2.2.2 p 61 5::O) w'/\RepS C5 s G M y1.1.1/\RepS aF s H R y1.1.2.2.1/\RepS C2 s o p y1.1.2.2.2/\MapQ (fun n:Int=>Value.int .i64 n) aF false s (some z) b a y2/\ItR (fun n:Int=>Value.int .i64 n) aF false s b Z F) (List.length (Option.getD y2 [])+1) ⟨(),#[],(Option.getD y2 []),m2,LoopE.start i,rfl,(q.t d1).t D,g.f4.f1.f2.f4.f4,u.mono D,v.mono D,y.mono D,l,d6⟩ ?_);rintro k1 _ w7 ⟨s1,Z,F,s,hL,rfl,q,g,u,v,y,l,b9⟩;rcases k1 with _|k1
 .exact LoopE.zero hL
 refine aD ?_;have g:=g.f2.f3;refine aQ rfl (QY (ek:=(fun n:Int=>Value.int .i64 n)) (c:=aF) (agg:=false) (d:=12) (x:=(.tmp 11)) kr rfl (ev (vP U 0)) g l b9 ?_ ?_)
 .intro f k g;obtain⟨d7,i,a7,Y⟩:=hL.nil f;clear hL;unfold tY at i;refine aI 1 [(13,vB false)] (aG (qZ false kr (fun h=>Bool.noConfusion h) ?_));intro _;refine dO (bS ?_);cases i;have ho:=Y _ rfl;have g:=g.f4.f1.f2.f4.f4;refine bS ?_;exact xE (b8 _ _ ⟨(),Z,F,s,ho,rfl,q,g,u,v,y,l,b9⟩)
 rintro f b5 b7 d8 w9 d5 rfl g S d2;obtain⟨d7,i,a7,Y⟩:=hL.cons d5;clear hL;unfold tY at i;refine aI 1 [(13,vB true)] (aG (qZ true kr ?_ (fun h=>Bool.noConfusion h)));intro _;refine aM (aE (bJ (aD ?_)));have g:=g.f1.f1;refine aQ rfl (PJ (ek:=(fun n:Int=>Value.int .i64 n)) (c:=aF) (agg:=false) (d:=14) (x:=(.tmp 11)) (K:=vI f.1) (V:=vT f.2) kr rfl (ev (vP U 0)) g l d2 (aI 4 [(6,vI f.1),(7,vT f.2)] (aD (eP 15 i (fun o2 L' w'=>∃B,L'=[(1,vI p1),(5,vP b1 0),(6,vI f.1),(11,vP U 0),(31,vB o2)]/\m.le B/\St B (kB b1 (Va y1.2) 109::kB bp0 (Vc y1.1 G M H R o p) 84::cQ (some z) b a::pC U (some z) a b7::kR o y1.1.2.2.2 p 61 5::O) w'/\RepS C5 B G M y1.1.1/\RepS aF B H R y1.1.2.2.1/\RepS C2 B o p y1.1.2.2.2/\MapQ (fun n:Int=>Value.int .i64 n) aF false B (some z) b a y2/\ItR (fun n:Int=>Value.int .i64 n) aF false B b b7 b5) ?_ ?_))))
 .rintro o2 i _ k ⟨B,rfl,q,g,u,v,y,l,S⟩;refine aO (aH i ?_ ?_)
  .intro A i;refine aX 2 [(4,vI f.1)] ?_;refine aU rfl ?_;have g:=g.f3.t;refine aE (aK (bM ?_));cases i;have ho:=Y _ rfl;subst ho;have i:=j2;refine aV (bM (aV ?_));cases i;exact aN [4] [vI f.1] ⟨G,M,H,R,o,p,B,rfl,q,g.t.f1.t.f1.f1,u,v,y⟩
  intro A i;refine aM (bO ?_);obtain rfl:=sI i;have hL:=a7 _ rfl;exact xE (dN ⟨(),b7,b5,B,hL,rfl,q,g.f4.f4.f4.f4.f4,u,v,y,l,S⟩)
 intro o2 i K;refine cU 1 18 3 17 0 (vI y1.2.1) g.t.t.h (aA 2 [(20,vB (y1.2.1==4))] (bW 20 i ?_ ?_))
 .intro A i;refine cU 1 22 9 21 1 (vT y1.2.2.1) g.t.t.h (aA 4 [(26,vB (y1.2.2.1.toList==f.2.toList))] (bW 26 i ?_ ?_))
  .intro A i;refine aA 1 [(27,vI f.1)] (aR 28 i (MO g) ?_);rintro y3 i _ d9 ⟨m6,rfl,k,g⟩;refine aA 3 [(31,vB (y3==p1))] ?_;cases i;exact bE _ kr (K _ _ ⟨m6,rfl,q.t k,g.f4.f1.f2.f4.f4,u.mono k,v.mono k,y.mono k,l.mono k,S.mono k⟩)
  intro A i;refine aA 5 [(31,vB false)] ?_;cases i;exact bE _ kr (K _ _ ⟨s,rfl,q,g.f4.f1.f2.f4.f4,u,v,y,l,S⟩)
 intro A i;refine aA 11 [(31,vB false)] ?_;cases i;exact bE _ kr (K _ _ ⟨s,rfl,q,g.f4.f1.f2.f4.f4,u,v,y,l,S⟩)
end
section
open Go Go.Dc Go.Proofs.Tryz
set_option maxHeartbeats 4000000
set_option maxRecDepth 100000
variable {N bp0 c1 c2 c3:Nat} {m:Mem} {O:List Piece} {w:World} {a1 a2 a3:Option Addr}
def BD(N:Nat)(R2:bB->iY->(Int)->cT)(R3:bB->(Int)->pV)(R4:bB->(Int)->cT)(R5:bB->(Int)->(Int)->cT)(R6:bB->(Int)->cT)(p0:bB)(p1:iY)(p2:Int):cT:=
 (mW N p0 (⟨#[40]⟩:BA)).bind fun y1=>(match y1 with| .inl a=>some (.inl a)| .inr b=>(if(p1.2.1.toList==(⟨#[114,101,97,100]⟩:BA).toList)=true then((sS N b).bind fun a=>(match a with| .inl a=>some (.inr (.inl a))| .inr c=>(mW N c.1 (⟨#[44]⟩:BA)).bind fun a=>(match a with| .inl a=>some (.inr (.inl a))| .inr a=>(R6 a (IntKind.wrap .i64 (p2+1))).bind fun a=>(match a with| .inl a=>some (.inr (.inl a))| .inr a=>some (.inl (6,0,c.2.2.1,[a.2],a.1.1,a.1.2.1,a.1.2.2.1,a.1.2.2.2)))))) else(if(p1.2.1.toList==(⟨#[115,105,122,101]⟩:BA).toList)=true then((sS N b).bind fun a=>(match a with| .inl a=>some (.inr (.inl a))| .inr a=>some (.inl (7,0,a.2.2.1,([]:Tb),a.1.1,a.1.2.1,a.1.2.2.1,a.1.2.2.2)))) else(if(p1.2.1.toList==(⟨#[104,97,115]⟩:BA).toList)=true then((sS N b).bind fun a=>(match a with| .inl a=>some (.inr (.inl a))| .inr a=>some (.inl (8,0,a.2.2.1,([]:Tb),a.1.1,a.1.2.1,a.1.2.2.1,a.1.2.2.2)))) else(if(p1.2.1.toList==(⟨#[101,110,118]⟩:BA).toList)=true then((sT N b 3).bind fun a=>(match a with| .inl a=>some (.inr (.inl a))| .inr a=>(wC N a.2.2.1).bind fun c=>(if(!c)=true then((eT N a.2 9).bind fun c=>(match c with| .inl c=>some (.inr (.inr (.inl c)))| .inr c=>some (.inl ()))) else(some (.inl ())):Option T1x).bind fun c=>(match c with| .inl c=>some (.inl (9,0,a.2.2.1,([]:Tb),a.1.1,a.1.2.1,a.1.2.2.1,a.1.2.2.2))| .inr z=>some z))) else((sT N b 2).bind fun a=>(match a with| .inl a=>some (.inr (.inl a))| .inr a=>(if(decide (a.2.2.2.1>=64))=true then((eT N a.2 9).bind fun b=>(match b with| .inl b=>some (.inr (.inr (.inl b)))| .inr b=>some (.inl ()))) else(some (.inl ())):Option T1x).bind fun b=>(match b with| .inl b=>some (.inl (10,a.2.2.2.1,(⟨#[]⟩:BA),([]:Tb),a.1.1,a.1.2.1,a.1.2.2.1,a.1.2.2.2))| .inr z=>some z)))))):Option T1w).bind fun a=>(match a with| .inl a=>(mW N a.2.2.2.2 (⟨#[41]⟩:BA)).bind fun b=>(match b with| .inl b=>some (.inl b)| .inr b=>(qC N b p1 (a.1,a.2.1,0,a.2.2.1,a.2.2.2.1)).bind fun a=>(match a with| .inl a=>some (.inl a)| .inr a=>some (.inr (a.1,a.2))))| .inr z=>some z))
def AR(N:Nat)(R6:bB->(Int)->cT)(p1:Int)(a:xN):Option (xN⊕xN⊕ER):=
 (R6 a.2 (IntKind.wrap .i64 (p1+1))).bind fun b=>(match b with| .inl b=>some (.inr (.inr (.inl b)))| .inr c=>(cF 8 a.1 ([c.2])).bind fun b=>(rR N c.1 (⟨#[44]⟩:BA)).bind fun a=>if(!a.2)=true then(some (.inr (.inl (b,a.1.1,a.1.2.1,a.1.2.2.1,a.1.2.2.2)))) else(some (.inl (b,a.1.1,a.1.2.1,a.1.2.2.1,a.1.2.2.2))))
def AV(N:Nat)(R2:bB->iY->(Int)->cT)(R3:bB->(Int)->pV)(R4:bB->(Int)->cT)(R5:bB->(Int)->(Int)->cT)(R6:bB->(Int)->cT)(p0:bB)(p1:Int):pV:=
 (mW N p0 (⟨#[40]⟩:BA)).bind fun y1=>(match y1 with| .inl a=>some (.inl a)| .inr a=>(rR N a (⟨#[41]⟩:BA)).bind fun a=>if a.2=true then(some (.inr (a.1,([]:Tb)))) else((aS (AR N R6 p1) N (([]:Tb),a.1.1,a.1.2.1,a.1.2.2.1,a.1.2.2.2)).bind fun a=>(match a with| .inl a=>(mW N a.2 (⟨#[41]⟩:BA)).bind fun b=>(match b with| .inl b=>some (.inl b)| .inr b=>some (.inr (b,a.1)))| .inr (z)=>some z)))
def BH(N:Nat)(R2:bB->iY->(Int)->cT)(R3:bB->(Int)->pV)(R4:bB->(Int)->cT)(R5:bB->(Int)->(Int)->cT)(R6:bB->(Int)->cT)(p0:bB)(p1:Int):cT:=
 (oH N p0).bind fun y1=>(if(y1.2.1==2)=true then((qC N (y1.1.1,IntKind.wrap .i64 (y1.1.2.1+1),y1.1.2.2.1,y1.1.2.2.2) y1.2 (1,y1.2.2.2.1,0,(⟨#[]⟩:BA),([]:Tb))).bind fun a=>(match a with| .inl a=>some (.inr (.inl a))| .inr a=>some (.inr (.inr (a.1,a.2))))) else((rR N y1.1 (⟨#[45]⟩:BA)).bind fun a=>if a.2=true then((sT N a.1 2).bind fun b=>(match b with| .inl b=>some (.inr (.inl b))| .inr b=>(qC N b.1 y1.2 (1,IntKind.wrap .i64 (0-b.2.2.2.1),0,(⟨#[]⟩:BA),([]:Tb))).bind fun b=>(match b with| .inl b=>some (.inr (.inl b))| .inr b=>some (.inr (.inr (b.1,b.2)))))) else((rR N a.1 (⟨#[40]⟩:BA)).bind fun a=>if a.2=true then((R6 a.1 (IntKind.wrap .i64 (p1+1))).bind fun b=>(match b with| .inl b=>some (.inr (.inl b))| .inr b=>(mW N b.1 (⟨#[41]⟩:BA)).bind fun c=>(match c with| .inl c=>some (.inr (.inl c))| .inr c=>some (.inr (.inr (c,b.2)))))) else(if(y1.2.1 !=1)=true then((eT N y1.2 9).bind fun b=>(match b with| .inl b=>some (.inr (.inl b))| .inr b=>some (.inl a.1))) else(some (.inl a.1))))):Option (bB⊕mT)).bind fun a=>(match a with| .inl a=>(if(y1.2.2.1.toList==(⟨#[114,101,97,100]⟩:BA).toList)=true then(some (y1.2.2.1.toList==(⟨#[114,101,97,100]⟩:BA).toList)) else(if(y1.2.2.1.toList==(⟨#[115,105,122,101]⟩:BA).toList)=true then(some (y1.2.2.1.toList==(⟨#[115,105,122,101]⟩:BA).toList)) else(if(y1.2.2.1.toList==(⟨#[104,97,115]⟩:BA).toList)=true then(some (y1.2.2.1.toList==(⟨#[104,97,115]⟩:BA).toList)) else(if(y1.2.2.1.toList==(⟨#[101,110,118]⟩:BA).toList)=true then(some (y1.2.2.1.toList==(⟨#[101,110,118]⟩:BA).toList)) else(some (y1.2.2.1.toList==(⟨#[102,108,105,112]⟩:BA).toList))))):Tl).bind fun b=>if b=true then((R2 (a.1,IntKind.wrap .i64 (a.2.1+1),a.2.2.1,a.2.2.2) y1.2 p1).bind fun b=>(match b with| .inl b=>some (.inl b)| .inr b=>some (.inr (b.1,b.2)))) else((vN N y1.2.2.1).bind fun b=>(if b=true then((eT N y1.2 9).bind fun b=>(match b with| .inl b=>some (.inr (.inl b))| .inr b=>some (.inl ()))) else(some (.inl ())):Option uV).bind fun b=>(match b with| .inl b=>(rS N (a.1,IntKind.wrap .i64 (a.2.1+1),a.2.2.1,a.2.2.2) 4 (⟨#[40]⟩:BA)).bind fun a=>if a.2=true then((R3 a.1 p1).bind fun b=>(match b with| .inl b=>some (.inl b)| .inr b=>(qC N b.1 y1.2 (3,0,0,y1.2.2.1,b.2)).bind fun b=>(match b with| .inl b=>some (.inl b)| .inr b=>some (.inr (b.1,b.2))))) else((uX N a.1.2.2.1 y1.2.2.1).bind fun b=>(if(decide (b<0))=true then((eT N y1.2 9).bind fun c=>(match c with| .inl c=>some (.inr (.inl c))| .inr c=>some (.inl ()))) else(some (.inl ())):Option uV).bind fun c=>(match c with| .inl o4=>(qC N a.1 y1.2 (2,b,0,(⟨#[]⟩:BA),([]:Tb))).bind fun a=>(match a with| .inl a=>some (.inl a)| .inr a=>some (.inr (a.1,a.2)))| .inr z=>some z))| .inr z=>some z))| .inr z=>some z)
def BF(N:Nat)(R5:bB->(Int)->(Int)->cT)(p1:Int)(p2:Int)(c:Int×bB):Option (Int×bB⊕mT):=
 (BJ N c.2 p1).bind fun b=>if(b.2==0)=true then(some (.inr (.inr (b.1,c.1)))) else((oH N b.1).bind fun a=>(R5 (a.1.1,IntKind.wrap .i64 (a.1.2.1+1),a.1.2.2.1,a.1.2.2.2) (IntKind.wrap .i64 (p1+1)) p2).bind fun d=>(match d with| .inl d=>some (.inr (.inl d))| .inr d=>(qC N d.1 a.2 (4,0,b.2,(⟨#[]⟩:BA),[c.1,d.2])).bind fun a=>(match a with| .inl a=>some (.inr (.inl a))| .inr a=>if(p1==1)=true then(some (.inr (.inr (a.1,a.2)))) else(some (.inl (a.2,a.1.1,a.1.2.1,a.1.2.2.1,a.1.2.2.2))))))
def uY(N:Nat)(R2:bB->iY->(Int)->cT)(R3:bB->(Int)->pV)(R4:bB->(Int)->cT)(R5:bB->(Int)->(Int)->cT)(R6:bB->(Int)->cT)(p0:bB)(p1:Int)(p2:Int):cT:=
 if(p1==4)=true then((R4 p0 p2).bind fun y1=>(match y1 with| .inl a=>some (.inl a)| .inr a=>some (.inr (a.1,a.2)))) else((R5 p0 (IntKind.wrap .i64 (p1+1)) p2).bind fun a=>(match a with| .inl a=>some (.inl a)| .inr a=>(aS (BF N R5 p1 p2) N (a.2,a.1.1,a.1.2.1,a.1.2.2.1,a.1.2.2.2)).bind fun z=>some z))
def vC(N:Nat)(R2:bB->iY->(Int)->cT)(R3:bB->(Int)->pV)(R4:bB->(Int)->cT)(R5:bB->(Int)->(Int)->cT)(R6:bB->(Int)->cT)(p0:bB)(p1:Int):cT:=
 (oH N p0).bind fun y1=>(if(decide (p1>32))=true then((eT N y1.2 2).bind fun a=>(match a with| .inl a=>some (.inr (.inl a))| .inr a=>some (.inl ()))) else(some (.inl ())):Option uV).bind fun a=>(match a with| .inl a=>(rS N y1.1 1 (⟨#[105,102]⟩:BA)).bind fun a=>if(!a.2)=true then((R5 a.1 1 p1).bind fun b=>(match b with| .inl b=>some (.inl b)| .inr b=>some (.inr (b.1,b.2)))) else((R6 (a.1.1,IntKind.wrap .i64 (a.1.2.1+1),a.1.2.2.1,a.1.2.2.2) (IntKind.wrap .i64 (p1+1))).bind fun a=>(match a with| .inl a=>some (.inl a)| .inr c=>(vF N c.1 (⟨#[116,104,101,110]⟩:BA)).bind fun a=>(match a with| .inl a=>some (.inl a)| .inr a=>(R6 a (IntKind.wrap .i64 (p1+1))).bind fun a=>(match a with| .inl a=>some (.inl a)| .inr a=>(vF N a.1 (⟨#[101,108,115,101]⟩:BA)).bind fun b=>(match b with| .inl b=>some (.inl b)| .inr b=>(R6 b (IntKind.wrap .i64 (p1+1))).bind fun b=>(match b with| .inl b=>some (.inl b)| .inr b=>(qC N b.1 y1.2 (5,0,0,(⟨#[]⟩:BA),[c.2,a.2,b.2])).bind fun a=>(match a with| .inl a=>some (.inl a)| .inr a=>some (.inr (a.1,a.2)))))))))| .inr z=>some z)
def dM(N:Nat):Nat->(bB->iY->(Int)->cT)×(((List (Int×BA×Int×Int))×Int×List BA×(List (Int×Int×Int×BA×List Int)))->(Int)->pV)×(((List (Int×BA×Int×Int))×Int×List BA×(List (Int×Int×Int×BA×List Int)))->(Int)->cT)×(((List (Int×BA×Int×Int))×Int×List BA×(List (Int×Int×Int×BA×List Int)))->(Int)->(Int)->cT)×(((List (Int×BA×Int×Int))×Int×List BA×(List (Int×Int×Int×BA×List Int)))->(Int)->cT)
 |0=>((fun _ _ _=>none),(fun _ _=>none),(fun _ _=>none),(fun _ _ _=>none),(fun _ _=>none))
 |D+1=>(BD N (dM N D).1 (dM N D).2.1 (dM N D).2.2.1 (dM N D).2.2.2.1 (dM N D).2.2.2.2,AV N (dM N D).1 (dM N D).2.1 (dM N D).2.2.1 (dM N D).2.2.2.1 (dM N D).2.2.2.2,BH N (dM N D).1 (dM N D).2.1 (dM N D).2.2.1 (dM N D).2.2.2.1 (dM N D).2.2.2.2,uY N (dM N D).1 (dM N D).2.1 (dM N D).2.2.1 (dM N D).2.2.2.1 (dM N D).2.2.2.2,vC N (dM N D).1 (dM N D).2.1 (dM N D).2.2.1 (dM N D).2.2.2.1 (dM N D).2.2.2.2)
def HW(N:Nat)(p0:bB)(p1:Int):cT:=(dM N N).2.2.2.2 p0 p1
abbrev AX(F:bB->iY->(Int)->cT):Prop:=∀{m:Mem} {O:List Piece} {w:World} {p0:bB} {p1:iY} {p2:Int} {a:Nat} {d:Option Addr} {h:Nat} {f:Option Addr} {k:Nat} {b:Option Addr} {c:Nat} {r:mT} (g:St m (kB a (Vc p0 d h f k b c) 84::kR b p0.2.2.2 c 61 5::O) w) (l:RepS C5 m d h p0.1) (d:RepS aF m f k p0.2.2.1) (d:RepS C2 m b c p0.2.2.2) (i:F p0 p1 p2=some r),Calls prog 170 #[vP a 0,.agg (Va p1),vI p2] w fun e w'=>(∃(b:Tu),∃m',r= .inl b/\e= .panicked [{v:= .iface 80 (.agg (Vd b)),recovered:=false}]/\m.le m'/\St m' (O) w')\/(∃(d:nG),r= .inr d/\∃f k h l b c m',e= .returned (vI d.2)/\m.le m'/\St m' (kB a (Vc d.1 f k h l b c) 84::kR b d.1.2.2.2 c 61 5::O) w'/\P4 m' f k h l b c d.1)
abbrev AS(F:bB->(Int)->pV):Prop:=∀{m:Mem} {O:List Piece} {w:World} {p0:bB} {p1:Int} {b:Nat} {d:Option Addr} {h:Nat} {f:Option Addr} {k:Nat} {a:Option Addr} {c:Nat} {r:ER} (g:St m (kB b (Vc p0 d h f k a c) 84::kR a p0.2.2.2 c 61 5::O) w) (l:RepS C5 m d h p0.1) (d:RepS aF m f k p0.2.2.1) (d:RepS C2 m a c p0.2.2.2) (i:F p0 p1=some r),Calls prog 171 #[vP b 0,vI p1] w fun e w'=>(∃(a:Tu),∃m',r= .inl a/\e= .panicked [{v:= .iface 80 (.agg (Vd a)),recovered:=false}]/\m.le m'/\St m' (O) w')\/(∃(a:T1s),r= .inr a/\∃k n l o c f d h m',e= .returned (vS d a.2 h)/\m.le m'/\St m' (kR d a.2 h 3 1::kB b (Vc a.1 k n l o c f) 84::kR c a.1.2.2.2 f 61 5::O) w'/\P5 m' k n l o c f d h a)
abbrev BC(F:bB->(Int)->cT):Prop:=∀{m:Mem} {O:List Piece} {w:World} {p0:bB} {p1:Int} {a:Nat} {d:Option Addr} {h:Nat} {f:Option Addr} {k:Nat} {b:Option Addr} {c:Nat} {r:mT} (g:St m (kB a (Vc p0 d h f k b c) 84::kR b p0.2.2.2 c 61 5::O) w) (l:RepS C5 m d h p0.1) (d:RepS aF m f k p0.2.2.1) (d:RepS C2 m b c p0.2.2.2) (i:F p0 p1=some r),Calls prog 160 #[vP a 0,vI p1] w fun e w'=>(∃(b:Tu),∃m',r= .inl b/\e= .panicked [{v:= .iface 80 (.agg (Vd b)),recovered:=false}]/\m.le m'/\St m' (O) w')\/(∃(d:nG),r= .inr d/\∃f k h l b c m',e= .returned (vI d.2)/\m.le m'/\St m' (kB a (Vc d.1 f k h l b c) 84::kR b d.1.2.2.2 c 61 5::O) w'/\P4 m' f k h l b c d.1)
abbrev AZ(F:bB->(Int)->(Int)->cT):Prop:=∀{m:Mem} {O:List Piece} {w:World} {p0:bB} {p1:Int} {p2:Int} {a:Nat} {d:Option Addr} {h:Nat} {f:Option Addr} {k:Nat} {b:Option Addr} {c:Nat} {r:mT} (g:St m (kB a (Vc p0 d h f k b c) 84::kR b p0.2.2.2 c 61 5::O) w) (l:RepS C5 m d h p0.1) (d:RepS aF m f k p0.2.2.1) (d:RepS C2 m b c p0.2.2.2) (i:F p0 p1 p2=some r),Calls prog 151 #[vP a 0,vI p1,vI p2] w fun e w'=>(∃(b:Tu),∃m',r= .inl b/\e= .panicked [{v:= .iface 80 (.agg (Vd b)),recovered:=false}]/\m.le m'/\St m' (O) w')\/(∃(d:nG),r= .inr d/\∃f k h l b c m',e= .returned (vI d.2)/\m.le m'/\St m' (kB a (Vc d.1 f k h l b c) 84::kR b d.1.2.2.2 c 61 5::O) w'/\P4 m' f k h l b c d.1)
abbrev BM(F:bB->(Int)->cT):Prop:=∀{m:Mem} {O:List Piece} {w:World} {p0:bB} {p1:Int} {a:Nat} {d:Option Addr} {h:Nat} {f:Option Addr} {k:Nat} {b:Option Addr} {c:Nat} {r:mT} (g:St m (kB a (Vc p0 d h f k b c) 84::kR b p0.2.2.2 c 61 5::O) w) (l:RepS C5 m d h p0.1) (d:RepS aF m f k p0.2.2.1) (d:RepS C2 m b c p0.2.2.2) (i:F p0 p1=some r),Calls prog 128 #[vP a 0,vI p1] w fun e w'=>(∃(b:Tu),∃m',r= .inl b/\e= .panicked [{v:= .iface 80 (.agg (Vd b)),recovered:=false}]/\m.le m'/\St m' (O) w')\/(∃(d:nG),r= .inr d/\∃f k h l b c m',e= .returned (vI d.2)/\m.le m'/\St m' (kB a (Vc d.1 f k h l b c) 84::kR b d.1.2.2.2 c 61 5::O) w'/\P4 m' f k h l b c d.1)
theorem VR{R2:bB->iY->(Int)->cT}{R3:bB->(Int)->pV}{R4:bB->(Int)->cT}{R5:bB->(Int)->(Int)->cT}{R6:bB->(Int)->cT}(o:AX R2)(l:AS R3)(s:BC R4)(p:AZ R5)(d:BM R6){p0:bB}{p1:iY}{p2:Int}{r:mT}(g:St m (kB bp0 (Vc p0 a1 c1 a2 c2 a3 c3) 84::kR a3 p0.2.2.2 c3 61 5::O) w)(r1:RepS C5 m a1 c1 p0.1)(r2:RepS aF m a2 c2 p0.2.2.1)(r3:RepS C2 m a3 c3 p0.2.2.2)(i:BD N R2 R3 R4 R5 R6 p0 p1 p2=some r):Calls prog 170 #[vP bp0 0,.agg (Va p1),vI p2] w fun e w'=>(∃(z0:Tu),∃m',r= .inl z0/\e= .panicked [{v:= .iface 80 (.agg (Vd z0)),recovered:=false}]/\m.le m'/\St m' (O) w')\/(∃(y0:nG),r= .inr y0/\∃d2 d4 d3 d5 b7 b8 m',e= .returned (vI y0.2)/\m.le m'/\St m' (kB bp0 (Vc y0.1 d2 d4 d3 d5 b7 b8) 84::kR b7 y0.1.2.2.2 b8 61 5::O) w'/\P4 m' d2 d4 d3 d5 b7 b8 y0.1):=by
 unfold BD at i;have q:=m.le_refl;refine bK func170 rfl ntmps170 ?_;refine aD (mB 4 109 (.agg (Va p1)) g fun D m1 w1 n g b=>(aI 1 [] (aD (aA 1 [(10,vP bp0 0)] (cI 11 i (qB (p0:=p0) g.f1.f1 (r1.mono n) (r2.mono n) (r3.mono n)) ?_)))));rintro y1 i _ w2 (⟨z1,m3,rfl,rfl,d6,g⟩|⟨y2,rfl,a4,c4,a5,c5,a6,c6,m2,rfl,b6,g,r4,r5,r6⟩)
 .refine bN ?_;obtain rfl:=sI i;exact cE (.inl ⟨z1,m3,rfl,rfl,(q.t n).t d6,g⟩)
 have q:=(q.t n).t b6;have b:=b.mono b6;refine aO (aD (dS 7 61 (.agg #[vI 0,vI 0,vI 0,vT eB,v8]) g fun E w4 g=>(aO (aG (aX 1 [(12,vP D 1)] (bX 13 (vT p1.2.1) g (b.drop 1) (aO ?_)))))));have⟨e1,i,u⟩:=aW i;refine cZ .normal (fun L' w'=>∃(f:Int×Int×Td×xN),∃Y c7 a8 c8 a9 c9 F H m4,(.inl f:T1w)=e1/\L'=[(0,vP bp0 0),(4,vP D 0),(7,vP E 0)]/\m.le m4/\St m4 (kB E #[vI f.1,vI f.2.1,vI 0,vT f.2.2.1,vS Y f.2.2.2.1 c7] 61::kB bp0 (Vc f.2.2.2.2 a8 c8 a9 c9 F H) 84::kR Y f.2.2.2.1 c7 3 1::kR F f.2.2.2.2.2.2.2 H 61 5::O) w'/\MRow m4 D 0 [vI p1.1,vT p1.2.1,vI p1.2.2.1,vI p1.2.2.2]/\P6 m4 Y c7 a8 c8 a9 c9 F H f.2.2.2) ?_ ?_
 .rintro _ w5 ⟨f,Y,c7,a8,c8,a9,c9,F,H,m4,rfl,rfl,q,g,b,r7,r8,r9,Z⟩;have i:=u;refine aE (aX 1 [(63,vP bp0 0)] (cI 64 i (qB (p0:=f.2.2.2.2) g.f3.f2 r8 r9 Z) ?_));rintro f6 i _ f4 (⟨e0,S,rfl,rfl,c,g⟩|⟨d9,rfl,e4,e7,e5,e8,e6,e9,f0,rfl,a,g,b0,b9,d0⟩)
  .refine bN ?_;obtain rfl:=sI i;have g:=g.t.t;exact cE (.inl ⟨e0,S,rfl,rfl,q.t c,g⟩)
  refine aO (aD (aA 1 [(65,vP bp0 0)] (bX 66 (.agg (Va p1)) g (b.mono a) (bA 67 (.agg #[vI f.1,vI f.2.1,vI 0,vT f.2.2.1,vS Y f.2.2.2.1 c7]) g.t.t.h (cI 68 i (uZ (p0:=d9) (p1:=p1) (p2:=(f.1,f.2.1,0,f.2.2.1,f.2.2.2.1)) g.f1.f1 b0 b9 d0 (r7.mono a)) ?_)))));rintro f7 i _ f5 (⟨e2,V,rfl,rfl,x,g⟩|⟨y,rfl,z,K,B,M,G,R,U,rfl,k,g,d1,d7,d8⟩)
  .refine bN ?_;obtain rfl:=sI i;have g:=g.t.t;exact cE (.inl ⟨e2,V,rfl,rfl,(q.t a).t x,g⟩)
  refine aI 1 [(6,vI y.2)] (aK ?_);cases i;exact aN [6] [vI y.2] (.inr ⟨_,rfl,z,K,B,M,G,R,U,rfl,(q.t a).t k,g.f2.t.f2.t.f1.f1,d1,d7,d8⟩)
 intro B;refine bJ (aB 2 [(24,vB (p1.2.1.toList==b18.toList))] (aH i ?_ ?_))
 .intro A i;refine aX 1 [(26,vP bp0 0)] ?_;refine cI 27 i (FA (p0:=y2) g.f2.f2 r4 r5 r6) ?_;rintro y3 i _ w6 (⟨z2,m6,rfl,rfl,K,g⟩|⟨G,rfl,f0,f9,f4,g0,f5,g1,m5,rfl,x,g,d8,d9,e0⟩)
  .refine bN ?_;refine eI ?_;obtain rfl:=sI i;have i:=u;refine bN ?_;obtain rfl:=sI i;have g:=g.t;exact cE (.inl ⟨z2,m6,rfl,rfl,q.t K,g⟩)
  have q:=q.t x;refine aA 2 [(29,.agg #[vI 6,vI 0,vI 0,vT G.2.2.1,v7])] (cM (.agg #[vI 6,vI 0,vI 0,vT G.2.2.1,v7]) g.f2 fun w8 g=>(aO (aD (aA 1 [(30,vP bp0 0)] (cI 31 i (qB (p0:=G.1) g.f2.f2 d8 d9 e0) ?_)))));rintro y5 i _ w9 (⟨z3,m8,rfl,rfl,M,g⟩|⟨y6,rfl,f6,g2,f7,g3,f8,g4,m7,rfl,c,g,e2,e4,e5⟩)
  .refine bN ?_;refine eI ?_;obtain rfl:=sI i;have i:=u;refine bN ?_;obtain rfl:=sI i;have g:=g.t;exact cE (.inl ⟨z3,m8,rfl,rfl,q.t M,g⟩)
  refine aO (aZ (aA 3 [(32,vP bp0 0),(34,vI (wr (p2+1)))] (cI 35 i (d (p0:=y6) g.f1.f1 e2 e4 e5) ?_)));rintro y7 i _ g5 (⟨z4,d1,rfl,rfl,R,g⟩|⟨k,rfl,S,b0,U,b9,V,d0,m9,rfl,y,g,e6,e7,e8⟩)
  .refine eI ?_;obtain rfl:=sI i;have i:=u;refine bN ?_;obtain rfl:=sI i;have g:=g.t;exact cE (.inl ⟨z4,d1,rfl,rfl,(q.t c).t R,g⟩)
  refine eD 36 3 1 (aT .i64) [k.2] g fun Z d7 g6 a g e9=> ?_;refine aA 1 [(37,vP E 4)] (cX #[vI 6,vI 0,vI 0,vT G.2.2.1,vS (aP Z) ([k.2]) 1] g.f3 fun g7 g=>(aU rfl (bO ?_)));have z:=jF i;exact xE (B _ _ ⟨(6,0,G.2.2.1,[k.2],k.1.1,k.1.2.1,k.1.2.2.1,k.1.2.2.2),(aP Z),1,S,b0,U,b9,V,d0,d7,z,rfl,((q.t c).t y).t a,g.f3.f2.f3.f3,(((b.mono x).mono c).mono y).mono a,e9,e6.mono a,e7.mono a,e8.mono a⟩)
 intro A i;refine aB 2 [(38,vB (p1.2.1.toList==b19.toList))] (aH i ?_ ?_)
 .intro A i;refine aZ (aA 1 [(40,vP bp0 0)] (cI 41 i (FA (p0:=y2) g.f2.f2 r4 r5 r6) ?_));rintro y9 i _ b9 (⟨z5,U,rfl,rfl,k,g⟩|⟨a,rfl,x,K,y,M,G,R,S,rfl,c,g,V,Z,b0⟩)
  .refine eI ?_;obtain rfl:=sI i;have i:=u;refine bN ?_;obtain rfl:=sI i;have g:=g.t;exact cE (.inl ⟨z5,U,rfl,rfl,q.t k,g⟩)
  refine aA 2 [(43,.agg #[vI 7,vI 0,vI 0,vT a.2.2.1,v7])] (cM (.agg #[vI 7,vI 0,vI 0,vT a.2.2.1,v7]) g.f2 fun d0 g=>(aU rfl (bO ?_)));have z:=jF i;have g:=(g.nilroom 3 1).front3.front1.front3.front3;exact xE (B _ _ ⟨(7,0,a.2.2.1,([]:Tb),a.1.1,a.1.2.1,a.1.2.2.1,a.1.2.2.2),none,0,x,K,y,M,G,R,S,z,rfl,q.t c,g,b.mono c,(RepS.nil _ _),V,Z,b0⟩)
 intro A i;refine aB 2 [(44,vB (p1.2.1.toList==b1a.toList))] (aH i ?_ ?_)
 .intro A i;refine aZ (aA 1 [(46,vP bp0 0)] (cI 47 i (FA (p0:=y2) g.f2.f2 r4 r5 r6) ?_));rintro d1 i _ b9 (⟨z6,U,rfl,rfl,k,g⟩|⟨a,rfl,x,K,y,M,G,R,S,rfl,c,g,V,Z,b0⟩)
  .refine eI ?_;obtain rfl:=sI i;have i:=u;refine bN ?_;obtain rfl:=sI i;have g:=g.t;exact cE (.inl ⟨z6,U,rfl,rfl,q.t k,g⟩)
  refine aA 2 [(49,.agg #[vI 8,vI 0,vI 0,vT a.2.2.1,v7])] (cM (.agg #[vI 8,vI 0,vI 0,vT a.2.2.1,v7]) g.f2 fun d0 g=>(aU rfl (bO ?_)));have z:=jF i;have g:=(g.nilroom 3 1).front3.front1.front3.front3;exact xE (B _ _ ⟨(8,0,a.2.2.1,([]:Tb),a.1.1,a.1.2.1,a.1.2.2.1,a.1.2.2.2),none,0,x,K,y,M,G,R,S,z,rfl,q.t c,g,b.mono c,(RepS.nil _ _),V,Z,b0⟩)
 intro A i;refine aB 2 [(50,vB (p1.2.1.toList==b1b.toList))] (aH i ?_ ?_)
 .intro A i;refine aX 1 [(52,vP bp0 0)] ?_;refine cI 53 i (BP (p0:=y2) g.f2.f2 r4 r5 r6) ?_;rintro f4 i _ e6 (⟨z7,d7,rfl,rfl,b9,g⟩|⟨a,rfl,U,Z,V,b0,G,K,e5,rfl,y,g,M,R,S⟩)
  .refine bN ?_;refine eI ?_;obtain rfl:=sI i;have i:=u;refine bN ?_;obtain rfl:=sI i;have g:=g.t;exact cE (.inl ⟨z7,d7,rfl,rfl,q.t b9,g⟩)
  refine dS 8 109 (.agg (Vb 0 eB 0 0)) g fun b4 e7 g=> ?_;refine cM (.agg (Va a.2)) g fun e8 g=> ?_;refine aO (aG (aD (cU 1 55 9 54 1 (vT a.2.2.1) g.h (aR 56 i (IF g) ?_))));rintro e4 i _ e9 ⟨d8,rfl,c,g⟩;have q:=(q.t y).t c;refine aI 1 [(57,vB (!e4))] ?_;have⟨e2,i,j2⟩:=aW i;refine cZ .normal (fun L' w'=>∃(o2:Unit),∃x,(.inl o2:T1x)=e2/\L'=[(0,vP bp0 0),(4,vP D 0),(7,vP E 0),(8,vP b4 0)]/\m.le x/\St x (kB b4 (Va a.2) 109::kB bp0 (Vc a.1 U Z V b0 G K) 84::kB E #[vI 0,vI 0,vI 0,vT eB,v7] 61::kR G a.1.2.2.2 K 61 5::O) w'/\MRow x D 0 [vI p1.1,vT p1.2.1,vI p1.2.2.1,vI p1.2.2.2]/\P4 x U Z V b0 G K a.1) ?_ ?_
  .rintro _ k ⟨o2,x,rfl,rfl,q,g,b,M,R,S⟩;have i:=j2;refine aE (aZ (cU 1 61 9 60 1 (vT a.2.2.1) g.h (aA 1 [(62,.agg #[vI 9,vI 0,vI 0,vT a.2.2.1,v7])] (cM (.agg #[vI 9,vI 0,vI 0,vT a.2.2.1,v7]) g.f2 fun d0 g=>(aU rfl (bO ?_))))));have z:=jF i;have g:=(g.nilroom 3 1).front2;exact xE (B _ _ ⟨(9,0,a.2.2.1,([]:Tb),a.1.1,a.1.2.1,a.1.2.2.1,a.1.2.2.2),none,0,U,Z,V,b0,G,K,x,z,rfl,q,g.t.f3.f1.f3.f3,b,(RepS.nil _ _),M,R,S⟩)
  intro d1;refine aH i ?_ ?_
  .intro A i;refine aZ (bA 58 (.agg (Va a.2)) g.h (cI 59 i (mX (p0:=a.2) g) ?_));rintro f5 i _ f0 (⟨z8,e0,rfl,rfl,d0,g⟩|⟨f6,rfl,d9,rfl,k,g⟩)
   .obtain rfl:=sI i;have i:=j2;refine bN ?_;refine eI ?_;obtain rfl:=sI i;have i:=u;refine bN ?_;obtain rfl:=sI i;have g:=g.t.t.t.t;exact cE (.inl ⟨z8,e0,rfl,rfl,q.t d0,g⟩)
   refine aU rfl ?_;have n2:=jF i;exact xE (d1 _ _ ⟨(),d9,n2,rfl,q.t k,g.f2.f3.f3.f3,((b.mono y).mono c).mono k,(M.mono c).mono k,(R.mono c).mono k,(S.mono c).mono k⟩)
  intro A i;refine aM ?_;have n2:=jF i;exact xE (d1 _ _ ⟨(),d8,n2,rfl,q,g.f2.f3.f3.f3,(b.mono y).mono c,M.mono c,R.mono c,S.mono c⟩)
 intro A i;refine aX 1 [(14,vP bp0 0)] ?_;refine cI 15 i (BP (p0:=y2) g.f2.f2 r4 r5 r6) ?_;rintro e7 i _ e2 (⟨z9,d1,rfl,rfl,b0,g⟩|⟨a,rfl,S,V,U,Z,y,G,d0,rfl,x,g,K,M,R⟩)
 .refine bN ?_;refine eI ?_;obtain rfl:=sI i;have i:=u;refine bN ?_;obtain rfl:=sI i;have g:=g.t;exact cE (.inl ⟨z9,d1,rfl,rfl,q.t b0,g⟩)
 have q:=q.t x;refine dS 9 109 (.agg (Vb 0 eB 0 0)) g fun b5 e4 g=> ?_;refine cM (.agg (Va a.2)) g fun e5 g=> ?_;refine aO (aG (aD (cU 1 17 3 16 2 (vI a.2.2.2.1) g.h (aI 1 [(18,vB (decide (a.2.2.2.1>=64)))] ?_))));have⟨d9,i,j3⟩:=aW i;refine cZ .normal (fun L' w'=>∃(o3:Unit),∃k,(.inl o3:T1x)=d9/\L'=[(0,vP bp0 0),(4,vP D 0),(7,vP E 0),(9,vP b5 0)]/\m.le k/\St k (kB b5 (Va a.2) 109::kB bp0 (Vc a.1 S V U Z y G) 84::kB E #[vI 0,vI 0,vI 0,vT eB,v7] 61::kR y a.1.2.2.2 G 61 5::O) w'/\MRow k D 0 [vI p1.1,vT p1.2.1,vI p1.2.2.1,vI p1.2.2.2]/\P4 k S V U Z y G a.1) ?_ ?_
 .rintro _ c ⟨o3,k,rfl,rfl,q,g,b,K,M,R⟩;have i:=j3;refine aE (aZ (cU 1 22 3 21 2 (vI a.2.2.2.1) g.h (aA 1 [(23,.agg #[vI 10,vI a.2.2.2.1,vI 0,vT eB,v7])] (cM (.agg #[vI 10,vI a.2.2.2.1,vI 0,vT eB,v7]) g.f2 fun b9 g=>(aU rfl (bO ?_))))));have z:=jF i;have g:=(g.nilroom 3 1).front2;exact xE (B _ _ ⟨(10,a.2.2.2.1,eB,([]:Tb),a.1.1,a.1.2.1,a.1.2.2.1,a.1.2.2.2),none,0,S,V,U,Z,y,G,k,z,rfl,q,g.t.f3.f1.f3.f3,b,(RepS.nil _ _),K,M,R⟩)
 intro b9;refine aH i ?_ ?_
 .intro A i;refine aZ (bA 19 (.agg (Va a.2)) g.h (cI 20 i (mX (p0:=a.2) g) ?_));rintro e8 i _ e6 (⟨e0,d8,rfl,rfl,z,g⟩|⟨e9,rfl,d7,rfl,c,g⟩)
  .obtain rfl:=sI i;have i:=j3;refine bN ?_;refine eI ?_;obtain rfl:=sI i;have i:=u;refine bN ?_;obtain rfl:=sI i;have g:=g.t.t.t.t;exact cE (.inl ⟨e0,d8,rfl,rfl,q.t z,g⟩)
  refine aU rfl ?_;have n3:=jF i;exact xE (b9 _ _ ⟨(),d7,n3,rfl,q.t c,g.f2.f3.f3.f3,(b.mono x).mono c,K.mono c,M.mono c,R.mono c⟩)
 intro A i;refine aM ?_;have n3:=jF i;exact xE (b9 _ _ ⟨(),d0,n3,rfl,q,g.f2.f3.f3.f3,b.mono x,K,M,R⟩)
theorem VN{R2:bB->iY->(Int)->cT}{R3:bB->(Int)->pV}{R4:bB->(Int)->cT}{R5:bB->(Int)->(Int)->cT}{R6:bB->(Int)->cT}(k:AX R2)(c:AS R3)(n:BC R4)(l:AZ R5)(a:BM R6){p0:bB}{p1:Int}{r:ER}(g:St m (kB bp0 (Vc p0 a1 c1 a2 c2 a3 c3) 84::kR a3 p0.2.2.2 c3 61 5::O) w)(r1:RepS C5 m a1 c1 p0.1)(r2:RepS aF m a2 c2 p0.2.2.1)(r3:RepS C2 m a3 c3 p0.2.2.2)(i:AV N R2 R3 R4 R5 R6 p0 p1=some r):Calls prog 171 #[vP bp0 0,vI p1] w fun e w'=>(∃(z0:Tu),∃m',r= .inl z0/\e= .panicked [{v:= .iface 80 (.agg (Vd z0)),recovered:=false}]/\m.le m'/\St m' (O) w')\/(∃(G:T1s),r= .inr G/\∃e2 e5 e4 e6 b6 b8 b7 b9 m',e= .returned (vS b7 G.2 b9)/\m.le m'/\St m' (kR b7 G.2 b9 3 1::kB bp0 (Vc G.1 e2 e5 e4 e6 b6 b8) 84::kR b6 G.1.2.2.2 b8 61 5::O) w'/\P5 m' e2 e5 e4 e6 b6 b8 b7 b9 G):=by
 unfold AV at i;have q:=m.le_refl;refine bK func171 rfl ntmps171 ?_;refine aB 1 [] (aD ?_);refine aI 1 [(5,v7)] (aD (aA 1 [(6,vP bp0 0)] (cI 7 i (qB (p0:=p0) g.f1.f1 r1 r2 r3) ?_)));rintro y1 i _ w1 (⟨z1,m2,rfl,rfl,e8,g⟩|⟨y2,rfl,a4,c4,a5,c5,a6,c6,m1,rfl,b3,g,r4,r5,r6⟩)
 .refine bN ?_;obtain rfl:=sI i;exact cE (.inl ⟨z1,m2,rfl,rfl,q.t e8,g⟩)
 refine aO (aG (aX 1 [(8,vP bp0 0)] (aR 9 i (xT (p0:=y2) g.f1.f1 r4 r5 r6) ?_)));rintro y3 i _ w3 ⟨a7,c7,a8,c8,a9,c9,m3,rfl,b4,g,r7,r8,r9⟩;refine aO (aH i ?_ ?_)
 .intro A i;refine aB 1 [(4,v7)] (aK ?_);refine aV ?_;cases i;refine aN [4] [v7] ?_;have g:=(g.nilroom 3 1).front2.front2.front2;exact .inr ⟨_,rfl,a7,c7,a8,c8,a9,c9,none,0,m3,rfl,(q.t b3).t b4,g,r7,r8,r9,(RepS.nil _ _)⟩
 intro A i;refine aM (aE (aG (bJ ?_)));have⟨b5,i,j1⟩:=aW i;refine cZ (.exit 0) (fun L' w'=>∃(o:xN),∃d f H U K V B E m4,(.inl o)=b5/\L'=[(0,vP bp0 0),(5,vS d o.1 f)]/\m.le m4/\St m4 (kB bp0 (Vc o.2 H U K V B E) 84::kR d o.1 f 3 1::kR B o.2.2.2.2 E 61 5::O) w'/\P6 m4 d f H U K V B E o) ?_ ?_
 .rintro _ w4 ⟨o,d,f,H,U,K,V,B,E,m4,rfl,rfl,q,g,M,R,S,Y⟩;have i:=j1;refine dT (aE (aX 1 [(20,vP bp0 0)] (cI 21 i (qB (p0:=o.2) g.f2.f1 R S Y) ?_)));rintro y7 i _ d0 (⟨z3,F,rfl,rfl,h,g⟩|⟨y8,rfl,p,x,s,y,u,z,D,rfl,b,g,Z,b0,b2⟩)
  .refine bN ?_;obtain rfl:=sI i;have g:=g.t;exact cE (.inl ⟨z3,F,rfl,rfl,q.t h,g⟩)
  refine aO (aD (aI 2 [(4,vS d o.1 f)] (aK ?_)));cases i;exact aN [4] [vS d o.1 f] (.inr ⟨_,rfl,p,x,s,y,u,z,d,f,D,rfl,q.t b,g.f1.f1.f2,Z,b0,b2,M.mono b⟩)
 intro d0;have g:=(g.nilroom 3 1).front2.front1.front2;refine dQ _ kr (dP (fun k1 L' w'=>∃(s:xN),∃x y M Y R Z D F m5,aS (AR N R6 p1) k1 s=some b5/\L'=[(0,vP bp0 0),(1,vI p1),(5,vS x s.1 y)]/\m.le m5/\St m5 (kB bp0 (Vc s.2 M Y R Z D F) 84::kR x s.1 y 3 1::kR D s.2.2.2.2 F 61 5::O) w'/\P6 m5 x y M Y R Z D F s) N ⟨(([]:Tb),y3.1.1,y3.1.2.1,y3.1.2.2.1,y3.1.2.2.2),none,0,a7,c7,a8,c8,a9,c9,m3,i,rfl,(q.t b3).t b4,g,(RepS.nil _ _),r7,r8,r9⟩ ?_);rintro k1 _ w5 ⟨s,x,y,M,Y,R,Z,D,F,m5,hL,rfl,q,g,f0,f4,f5,f6⟩;rcases k1 with _|k1
 .exact dU hL
 obtain⟨g7,i,e7,b2⟩:=dV hL;clear hL;unfold AR at i;refine bJ (aX 4 [(10,vS x s.1 y),(11,vP bp0 0),(13,vI (wr (p1+1)))] (cI 14 i (a (p0:=s.2) g.f2.f1 f4 f5 f6) ?_));rintro y4 i _ w6 (⟨z2,m7,rfl,rfl,e9,g⟩|⟨y5,rfl,g1,g4,g2,g5,g3,g6,m6,rfl,z,g,f7,f8,f9⟩)
 .refine bN ?_;refine eI ?_;have ho:=b2 _ (sI i);subst ho;have i:=j1;refine bN ?_;refine eI ?_;refine bN ?_;obtain rfl:=sI i;have g:=g.t;exact cE (.inl ⟨z2,m7,rfl,rfl,q.t e9,g⟩)
 refine eD 15 3 1 (aT .i64) [y5.2] g fun b1 m8 w8 b g g0=> ?_;refine iG 16 22 22 3 8 10 15 g.f3 (.inl kr) ((f0.mono z).mono b) g0.src i fun l1 i S b0 m9 w9 h g d8=> ?_;refine aA 1 [(5,vS S l1 b0)] (aU rfl ?_);have g:=g.f1.t;refine aE (aX 1 [(17,vP bp0 0)] (aR 18 i (xT (p0:=y5.1) g.f2.f2 ((f7.mono b).mono h) ((f8.mono b).mono h) ((f9.mono b).mono h)) ?_));rintro u i _ g8 ⟨d1,d4,d2,d5,d3,d6,d7,rfl,p,g,d9,e0,e1⟩;refine aI 1 [(19,vB (!u.2))] (aH i ?_ ?_)
 .intro A i;refine dO (yW rfl ?_);have ho:=b2 _ (sI i);have g:=g.f1.f2.f2;refine bS ?_;exact xE (d0 _ _ ⟨(l1,u.1.1,u.1.2.1,u.1.2.2.1,u.1.2.2.2),S,b0,d1,d4,d2,d5,d3,d6,d7,ho,rfl,(((q.t z).t b).t h).t p,g,d8.mono p,d9,e0,e1⟩)
 intro A i;refine aM (bO ?_);have hL:=e7 _ (sI i);exact xE (dN ⟨(l1,u.1.1,u.1.2.1,u.1.2.2.1,u.1.2.2.2),S,b0,d1,d4,d2,d5,d3,d6,d7,hL,rfl,(((q.t z).t b).t h).t p,g.f1.f2.f2,d8.mono p,d9,e0,e1⟩)
theorem VS{R2:bB->iY->(Int)->cT}{R3:bB->(Int)->pV}{R4:bB->(Int)->cT}{R5:bB->(Int)->(Int)->cT}{R6:bB->(Int)->cT}(d:AX R2)(c:AS R3)(E:BC R4)(D:AZ R5)(f:BM R6){p0:bB}{p1:Int}{r:mT}(g:St m (kB bp0 (Vc p0 a1 c1 a2 c2 a3 c3) 84::kR a3 p0.2.2.2 c3 61 5::O) w)(r1:RepS C5 m a1 c1 p0.1)(r2:RepS aF m a2 c2 p0.2.2.1)(r3:RepS C2 m a3 c3 p0.2.2.2)(i:BH N R2 R3 R4 R5 R6 p0 p1=some r):Calls prog 160 #[vP bp0 0,vI p1] w fun e w'=>(∃(z0:Tu),∃m',r= .inl z0/\e= .panicked [{v:= .iface 80 (.agg (Vd z0)),recovered:=false}]/\m.le m'/\St m' (O) w')\/(∃(y0:nG),r= .inr y0/\∃d7 d9 d8 e0 d0 d1 m',e= .returned (vI y0.2)/\m.le m'/\St m' (kB bp0 (Vc y0.1 d7 d9 d8 e0 d0 d1) 84::kR d0 y0.1.2.2.2 d1 61 5::O) w'/\P4 m' d7 d9 d8 e0 d0 d1 y0.1):=by
 unfold BH at i;have q:=m.le_refl;refine bK func160 rfl ntmps160 ?_;refine aB 1 [] (aD ?_);refine aA 1 [(8,vP bp0 0)] (aR 9 i (qY (p0:=p0) g.f1.f1 r1 r2 r3) ?_);rintro y1 i _ w1 ⟨a4,c4,a5,c5,a6,c6,m1,rfl,e2,g,r4,r5,r6⟩;have q:=q.t e2;refine dS 5 109 (.agg (Vb 0 eB 0 0)) g fun l w2 g=> ?_;refine cM (.agg (Va y1.2)) g fun w3 g=> ?_;refine aO (aG ?_);have⟨f8,i,F⟩:=aW i;refine cZ .normal (fun L' w'=>∃(a:bB),∃K R M S x y H,(.inl a:bB⊕mT)=f8/\L'=[(0,vP bp0 0),(1,vI p1),(5,vP l 0)]/\m.le H/\St H (kB l (Va y1.2) 109::kB bp0 (Vc a K R M S x y) 84::kR x a.2.2.2 y 61 5::O) w'/\P4 H K R M S x y a) ?_ ?_
 .rintro _ w4 ⟨a,K,R,M,S,x,y,H,rfl,rfl,q,g,n,o,p⟩;have i:=F;refine aE (aX 3 [(54,vP bp0 0),(56,vP bp0 1)] (bA 57 (vI a.2.1) g.t.h (aA 3 [(58,vI (wr (a.2.1+1))),(60,vP bp0 1)] (cX #[vS K a.1 R,vI (wr (a.2.1+1)),vS M a.2.2.1 S,vS x a.2.2.2 y] g.f1 fun h5 g=>(aO (aG (aD (cU 1 62 9 61 1 (vT y1.2.2.1) g.t.h (aO (bJ (aG (aB 2 [(63,vB (y1.2.2.1.toList==b18.toList))] (cY .normal i (fun o2 L' w'=>∃b5,L'=[(0,vP bp0 0),(1,vI p1),(5,vP l 0),(63,vB o2)]/\m.le b5/\St b5 (kB bp0 #[vS K a.1 R,vI (wr (a.2.1+1)),vS M a.2.2.1 S,vS x a.2.2.2 y] 84::kB l (Va y1.2) 109::kR x a.2.2.2 y 61 5::O) w'/\P4 b5 K R M S x y a) ?_ ?_)))))))))))))
  .rintro o2 i _ h6 ⟨b5,rfl,q,g,n,o,p⟩;refine aE (aH i ?_ ?_)
   .intro A i;refine aX 1 [(69,vP bp0 0)] ?_;refine bA 70 (.agg (Va y1.2)) g.t.h ?_;refine aA 1 [(71,vI p1)] (cI 72 i (d (p0:=(a.1,wr (a.2.1+1),a.2.2.1,a.2.2.2)) (p1:=y1.2) g.f2.f1 n o p) ?_);rintro b6 i _ b4 (⟨z7,Z,rfl,rfl,k,g⟩|⟨s,rfl,u,G,z,U,B,V,Y,rfl,b,g,b0,b2,b3⟩)
    .refine bN ?_;refine eI ?_;refine bN ?_;obtain rfl:=sI i;have g:=g.t;exact cE (.inl ⟨z7,Z,rfl,rfl,q.t k,g⟩)
    refine aI 1 [(4,vI s.2)] (aK (bM (aV ?_)));cases i;exact aN [4] [vI s.2] (.inr ⟨_,rfl,u,G,z,U,B,V,Y,rfl,q.t b,g.f2.t.f1.f1,b0,b2,b3⟩)
   intro A i;refine aM (bO (aE (aG (aD (cU 1 74 9 73 1 (vT y1.2.2.1) g.t.h (aR 75 i (HY g) ?_))))));rintro k4 i _ h7 ⟨f4,rfl,s,g⟩;have q:=q.t s;have n:=n.mono s;have o:=o.mono s;have p:=p.mono s;refine aO ?_;have⟨f9,i,j3⟩:=aW i;refine cZ .normal (fun L' w'=>∃(o3:Unit),∃b6,(.inl o3:uV)=f9/\L'=[(0,vP bp0 0),(1,vI p1),(5,vP l 0)]/\m.le b6/\St b6 (kB bp0 #[vS K a.1 R,vI (wr (a.2.1+1)),vS M a.2.2.1 S,vS x a.2.2.2 y] 84::kB l (Va y1.2) 109::kR x a.2.2.2 y 61 5::O) w'/\P4 b6 K R M S x y a) ?_ ?_
   .rintro _ h8 ⟨o3,b6,rfl,rfl,q,g,n,o,p⟩;have i:=j3;refine aE (aG (aX 1 [(78,vP bp0 0)] (aR 79 i (yB (p0:=(a.1,wr (a.2.1+1),a.2.2.1,a.2.2.2)) g.f2.f1 n o p) ?_)));rintro B i _ h9 ⟨b8,b9,Z,b2,b0,b3,z,rfl,d2,g,U,G,V⟩;have q:=q.t d2;refine aO (aH i ?_ ?_)
    .intro A i;refine aG (eA [(10,fun w'=>Inv z w'/\Piece.holds z w' (kB l (Va y1.2) 109)/\True)] kr g fun k0 _ g=> ?_);have b:=z.le_refl;refine⟨⟨.inr ⟨Inv.anti g.inv b,Piece.holds_anti g.t.t.h b,trivial⟩,trivial⟩,?_⟩;refine aJ 0 80 (vP bp0 0) (.head _) (dY 109 5 1 81 0 (.agg (Va y1.2)) (.head _) (fun _ h=>h.2.1) (aJ 2 82 (vP l 1) (.head _) (dY 9 82 3 83 1 (vT y1.2.2.1) (.head _) (fun _ h=>h.2.1) (aJ 4 84 (vP bp0 0) (.head _) (aJ 5 85 (vI p1) (.head _) ?_)))));have g:=g.f1.f1;have⟨k5,f0,i⟩:=aW i;refine bU 6 kr (zJ 86 171 #[vP bp0 0,vI p1] kr rfl ((c (p0:=B.1) g U G V f0).mono ?_));rintro _ k1 (⟨z9,f5,rfl,rfl,u,g⟩|⟨b7,rfl,g8,h1,g9,h2,h0,h3,d3,d6,h4,rfl,k,g,g0,g1,g2,g3⟩)
     .refine .inr ⟨_,rfl,?_⟩;have b:=Mem.le_trans b u;refine bN ?_;refine bN ?_;obtain rfl:=sI i;have g:=g.t;exact cE (.inl ⟨z9,f5,rfl,rfl,q.t u,g⟩)
     refine .inl ⟨_,rfl,?_⟩;have b:=Mem.le_trans b k;refine⟨⟨.inr ⟨Inv.anti g.inv b,Piece.holds_anti g.t.t.t.h b,trivial⟩,trivial⟩,?_⟩;refine aJ 7 87 (.agg #[vI 3,vI 0,vI 0,vT y1.2.2.1,vS d3 b7.2 d6]) (.head _) ?_;have g:=g.f2.f2;have⟨k6,f3,i⟩:=aW i;refine bU 8 kr (zJ 88 152 #[vP bp0 0,.agg (Va y1.2),.agg #[vI 3,vI 0,vI 0,vT y1.2.2.1,vS d3 b7.2 d6]] kr rfl ((uZ (p0:=b7.1) (p1:=y1.2) (p2:=(3,0,0,y1.2.2.1,b7.2)) g g0 g1 g2 g3 f3).mono ?_));rintro _ k2 (⟨g7,f7,rfl,rfl,b4,g⟩|⟨e1,rfl,e4,e7,e5,e8,e6,e9,f6,rfl,Y,g,g4,g5,g6⟩)
     .refine .inr ⟨_,rfl,?_⟩;have b:=Mem.le_trans b b4;refine bN ?_;refine bN ?_;obtain rfl:=sI i;have g:=g.t.t;exact cE (.inl ⟨g7,f7,rfl,rfl,(q.t k).t b4,g⟩)
     refine .inl ⟨_,rfl,?_⟩;have b:=Mem.le_trans b Y;refine⟨⟨.inr ⟨Inv.anti g.inv b,Piece.holds_anti g.t.t.t.h b,trivial⟩,trivial⟩,?_⟩;refine aJ 9 4 (vI e1.2) (.head _) (dW kr ?_);have g:=g.f2.t;refine aE (aK (aV ?_));cases i;exact aN [4] [vI e1.2] (.inr ⟨_,rfl,e4,e7,e5,e8,e6,e9,f6,rfl,(q.t k).t Y,g.f2.t.f1.f1,g4,g5,g6⟩)
    intro A i;refine aM (aE (aG (eA [(8,fun w'=>Inv z w'/\Piece.holds z w' (kB bp0 (Vc B.1 b8 b9 Z b2 b0 b3) 84)/\Piece.holds z w' (kB l (Va y1.2) 109)/\True)] kr g fun g1 _ g=> ?_)));have k:=z.le_refl;refine⟨⟨.inr ⟨Inv.anti g.inv k,Piece.holds_anti g.h k,Piece.holds_anti g.t.t.h k,trivial⟩,trivial⟩,?_⟩;refine aJ 0 89 (vP bp0 0) (.head _) (aJ 1 90 (vP bp0 0) (.head _) (aJ 2 91 (vP bp0 2) (.head _) (dY 26 91 3 92 2 (vS Z B.1.2.2.1 b2) (.head _) (fun _ h=>h.2.1) (aJ 4 93 (vP l 1) (.head _) (dY 9 93 5 94 1 (vT y1.2.2.1) (.head _) (fun _ h=>h.2.2.1) (bU 6 kr (iO 95 i (fun _ h=>MD g G h) ?_)))))));rintro Y i _ g2 ⟨e8,rfl,b,g⟩;refine⟨_,rfl,?_⟩;have q:=q.t b;have k:=Mem.le_trans k b;refine⟨⟨.inr ⟨Inv.anti g.inv k,Piece.holds_anti g.h k,Piece.holds_anti g.t.t.h k,trivial⟩,trivial⟩,?_⟩;refine aJ 7 7 (vI Y) (.head _) (dW kr (aE (aG (aB 2 [(97,vB (decide (Y<0)))] ?_))));have⟨f3,i,j4⟩:=aW i;refine cZ .normal (fun L' w'=>∃(o4:Unit),∃b4,(.inl o4:uV)=f3/\L'=[(0,vP bp0 0),(5,vP l 0),(7,vI Y)]/\m.le b4/\St b4 (kB bp0 (Vc B.1 b8 b9 Z b2 b0 b3) 84::kB l (Va y1.2) 109::kR b0 B.1.2.2.2 b3 61 5::O) w'/\P4 b4 b8 b9 Z b2 b0 b3 B.1) ?_ ?_
    .rintro _ g3 ⟨o4,b4,rfl,rfl,q,g,U,G,V⟩;have i:=j4;refine aE (aX 1 [(100,vP bp0 0)] (bA 101 (.agg (Va y1.2)) g.t.h (aA 2 [(103,.agg #[vI 2,vI Y,vI 0,vT eB,v7])] (cI 104 i (uZ (p0:=B.1) (p1:=y1.2) (p2:=(2,Y,0,eB,([]:Tb))) g.f2.f1 U G V (RepS.nil _ _)) ?_))));rintro g5 i _ g4 (⟨g0,f0,rfl,rfl,b7,g⟩|⟨d3,rfl,d6,e5,e1,e6,e4,e7,e9,rfl,u,g,f5,f6,f7⟩)
     .refine bN ?_;obtain rfl:=sI i;have g:=g.t;exact cE (.inl ⟨g0,f0,rfl,rfl,q.t b7,g⟩)
     refine aI 1 [(4,vI d3.2)] (aK ?_);cases i;exact aN [4] [vI d3.2] (.inr ⟨_,rfl,d6,e5,e1,e6,e4,e7,e9,rfl,q.t u,g.f2.t.f1.f1,f5,f6,f7⟩)
    intro d3;refine aH i ?_ ?_
    .intro A i;refine aZ (bA 98 (.agg (Va y1.2)) g.t.t.h (cI 99 i (mX (p0:=y1.2) g) ?_));rintro e6 i _ e5 (⟨e4,e1,rfl,rfl,b7,g⟩|⟨e7,rfl,d6,rfl,u,g⟩)
     .obtain rfl:=sI i;have i:=j4;refine bN ?_;obtain rfl:=sI i;have g:=g.t.t.t;exact cE (.inl ⟨e4,e1,rfl,rfl,q.t b7,g⟩)
     refine aU rfl ?_;have n4:=jF i;exact xE (d3 _ _ ⟨(),d6,n4,rfl,q.t u,g.f1.f2.f2,(U.mono b).mono u,(G.mono b).mono u,(V.mono b).mono u⟩)
    intro A i;refine aM ?_;have n4:=jF i;exact xE (d3 _ _ ⟨(),e8,n4,rfl,q,g.f1.f2.f2,U.mono b,G.mono b,V.mono b⟩)
   intro u;refine aH i ?_ ?_
   .intro A i;refine aZ (bA 76 (.agg (Va y1.2)) g.t.h (cI 77 i (mX (p0:=y1.2) g) ?_));rintro Y i _ V (⟨U,G,rfl,rfl,k,g⟩|⟨Z,rfl,B,rfl,b,g⟩)
    .obtain rfl:=sI i;have i:=j3;refine bN ?_;obtain rfl:=sI i;have g:=g.t.t.t;exact cE (.inl ⟨U,G,rfl,rfl,q.t k,g⟩)
    refine aU rfl ?_;have z:=jF i;exact xE (u _ _ ⟨(),B,z,rfl,q.t b,g.f2.f2.f2,n.mono b,o.mono b,p.mono b⟩)
   intro A i;refine aM ?_;have z:=jF i;exact xE (u _ _ ⟨(),f4,z,rfl,q,g.f2.f2.f2,n,o,p⟩)
  intro o2 i b;refine aH i ?_ ?_
  .intro A i;refine aM ?_;cases i;exact xE (b _ _ ⟨H,rfl,q,g.f2.f2.f2,n,o,p⟩)
  intro A i;refine aB 2 [(63,vB (y1.2.2.1.toList==b19.toList))] (aH i ?_ ?_)
  .intro A i;refine aM ?_;cases i;exact xE (b _ _ ⟨H,rfl,q,g.f2.f2.f2,n,o,p⟩)
  intro A i;refine aB 2 [(63,vB (y1.2.2.1.toList==b1a.toList))] (aH i ?_ ?_)
  .intro A i;refine aM ?_;cases i;exact xE (b _ _ ⟨H,rfl,q,g.f2.f2.f2,n,o,p⟩)
  intro A i;refine aB 2 [(63,vB (y1.2.2.1.toList==b1b.toList))] (aH i ?_ ?_)
  .intro A i;refine aM ?_;cases i;exact xE (b _ _ ⟨H,rfl,q,g.f2.f2.f2,n,o,p⟩)
  intro A i;refine aZ (aA 2 [(63,vB (y1.2.2.1.toList==(⟨#[102,108,105,112]⟩:BA).toList))] (aU rfl ?_));cases i;exact xE (b _ _ ⟨H,rfl,q,g.f2.f2.f2,n,o,p⟩)
 intro G;refine bJ (aD (cU 1 12 3 11 0 (vI y1.2.1) g.h (aI 2 [(10,vB (y1.2.1==2))] (aH i ?_ ?_))))
 .intro A i;refine aX 3 [(14,vP bp0 0),(16,vP bp0 1)] ?_;refine bA 17 (vI y1.1.2.1) g.t.h ?_;refine aA 3 [(18,vI (wr (y1.1.2.1+1))),(20,vP bp0 1)] (cX #[vS a4 y1.1.1 c4,vI (wr (y1.1.2.1+1)),vS a5 y1.1.2.2.1 c5,vS a6 y1.1.2.2.2 c6] g.f1 fun w5 g=>(aO (aD (aA 1 [(21,vP bp0 0)] (bA 22 (.agg (Va y1.2)) g.t.h (cU 1 24 3 23 2 (vI y1.2.2.2.1) g.t.h (aA 1 [(25,.agg #[vI 1,vI y1.2.2.2.1,vI 0,vT eB,v7])] (cI 26 i (uZ (p0:=(y1.1.1,wr (y1.1.2.1+1),y1.1.2.2.1,y1.1.2.2.2)) (p1:=y1.2) (p2:=(1,y1.2.2.2.1,0,eB,([]:Tb))) g.f2.f1 r4 r5 r6 (RepS.nil _ _)) ?_))))))));rintro y2 i _ w6 (⟨z1,m4,rfl,rfl,k,g⟩|⟨Y,rfl,n,s,o,u,p,z,Z,rfl,b,g,B,U,V⟩)
  .refine bN ?_;refine eI ?_;obtain rfl:=sI i;have i:=F;refine bN ?_;obtain rfl:=sI i;have g:=g.t;exact cE (.inl ⟨z1,m4,rfl,rfl,q.t k,g⟩)
  refine aI 1 [(4,vI Y.2)] (aK (bM ?_));cases i;have i:=F;refine aV ?_;cases i;exact aN [4] [vI Y.2] (.inr ⟨_,rfl,n,s,o,u,p,z,Z,rfl,q.t b,g.f2.t.f1.f1,B,U,V⟩)
 intro A i;refine aX 1 [(28,vP bp0 0)] ?_;refine aR 29 i (xT (p0:=y1.1) g.f2.f2 r4 r5 r6) ?_;rintro y4 i _ w8 ⟨f6,g3,f7,g4,f9,g5,m5,rfl,b6,g,b3,b4,b5⟩;have q:=q.t b6;refine aI 1 [(27,vB y4.2)] (aH i ?_ ?_)
 .intro A i;refine aG (eA [(9,fun w'=>Inv m5 w'/\Piece.holds m5 w' (kB l (Va y1.2) 109)/\True)] kr g fun w9 _ g=> ?_);have b:=m5.le_refl;refine⟨⟨.inr ⟨Inv.anti g.inv b,Piece.holds_anti g.t.t.h b,trivial⟩,trivial⟩,?_⟩;refine aJ 0 30 (vP bp0 0) (.head _) (dY 109 5 1 31 0 (.agg (Va y1.2)) (.head _) (fun _ h=>h.2.1) (aJ 2 32 (vP bp0 0) (.head _) ?_));have g:=g.f1.f1;have⟨y5,d4,i⟩:=aW i;refine bU 3 kr (zJ 33 121 #[vP bp0 0,vI 2] kr rfl ((BP (p0:=y4.1) g b3 b4 b5 d4).mono ?_));rintro _ e6 (⟨z2,m7,rfl,rfl,o,g⟩|⟨n,rfl,d2,e1,d3,e4,d6,e5,m6,rfl,k,g,Z,b0,b2⟩)
  .refine .inr ⟨_,rfl,?_⟩;have b:=Mem.le_trans b o;refine bN ?_;refine eI ?_;obtain rfl:=sI i;have i:=F;refine bN ?_;obtain rfl:=sI i;have g:=g.t;exact cE (.inl ⟨z2,m7,rfl,rfl,q.t o,g⟩)
  refine .inl ⟨_,rfl,?_⟩;have b:=Mem.le_trans b k;refine⟨⟨.inr ⟨Inv.anti g.inv b,Piece.holds_anti g.t.t.h b,trivial⟩,trivial⟩,?_⟩;refine aJ 4 34 (vI n.2.2.2.1) (.head _) (aJ 5 35 (vI (wr (0-n.2.2.2.1))) (.head _) (aJ 6 36 (.agg #[vI 1,vI (wr (0-n.2.2.2.1)),vI 0,vT eB,v7]) (.head _) ?_));have g:=g.f1.f1;have⟨y7,d5,i⟩:=aW i;refine bU 7 kr (zJ 37 152 #[vP bp0 0,.agg (Va y1.2),.agg #[vI 1,vI (wr (0-n.2.2.2.1)),vI 0,vT eB,v7]] kr rfl ((uZ (p0:=n.1) (p1:=y1.2) (p2:=(1,wr (0-n.2.2.2.1),0,eB,([]:Tb))) g Z b0 b2 (RepS.nil _ _) d5).mono ?_));rintro _ e7 (⟨z3,m9,rfl,rfl,s,g⟩|⟨y8,rfl,u,U,z,V,B,Y,m8,rfl,p,g,b7,b8,b9⟩)
  .refine .inr ⟨_,rfl,?_⟩;have b:=Mem.le_trans b s;refine bN ?_;refine eI ?_;obtain rfl:=sI i;have i:=F;refine bN ?_;obtain rfl:=sI i;have g:=g.t;exact cE (.inl ⟨z3,m9,rfl,rfl,(q.t k).t s,g⟩)
  refine .inl ⟨_,rfl,?_⟩;have b:=Mem.le_trans b p;refine⟨⟨.inr ⟨Inv.anti g.inv b,Piece.holds_anti g.t.t.h b,trivial⟩,trivial⟩,?_⟩;refine aJ 8 4 (vI y8.2) (.head _) (dW kr (aE (aK (bM ?_))));cases i;have i:=F;refine aV ?_;cases i;exact aN [4] [vI y8.2] (.inr ⟨_,rfl,u,U,z,V,B,Y,m8,rfl,(q.t k).t p,g.f2.t.f1.f1,b7,b8,b9⟩)
 intro A i;refine aX 1 [(39,vP bp0 0)] ?_;refine aR 40 i (xT (p0:=y4.1) g.f1.f1 b3 b4 b5) ?_;rintro B i _ h0 ⟨U,Z,V,b0,Y,b2,e4,rfl,b7,g,n,o,p⟩;have q:=q.t b7;refine aI 1 [(38,vB B.2)] (aH i ?_ ?_)
 .intro A i;refine aX 3 [(41,vP bp0 0),(43,vI (wr (p1+1)))] ?_;refine cI 44 i (f (p0:=B.1) g.f1.f1 n o p) ?_;rintro h3 i _ h1 (⟨z4,e5,rfl,rfl,s,g⟩|⟨k,rfl,g0,g6,g1,g7,g2,g8,g9,rfl,b,g,e8,e9,f0⟩)
  .refine bN ?_;refine eI ?_;obtain rfl:=sI i;have i:=F;refine bN ?_;obtain rfl:=sI i;have g:=g.t;exact cE (.inl ⟨z4,e5,rfl,rfl,q.t s,g⟩)
  refine aI 1 [(6,vI k.2)] (aD (aA 1 [(45,vP bp0 0)] (cI 46 i (qB (p0:=k.1) g.f1.f1 e8 e9 f0) ?_)));rintro h4 i _ h2 (⟨z5,e7,rfl,rfl,z,g⟩|⟨h5,rfl,b8,d3,b9,d6,d2,e1,e6,rfl,u,g,f3,f4,f5⟩)
  .refine bN ?_;refine eI ?_;obtain rfl:=sI i;have i:=F;refine bN ?_;obtain rfl:=sI i;have g:=g.t;exact cE (.inl ⟨z5,e7,rfl,rfl,(q.t b).t z,g⟩)
  refine aO (aD (aI 2 [(4,vI k.2)] (aK (bM ?_))));cases i;have i:=F;refine aV ?_;cases i;exact aN [4] [vI k.2] (.inr ⟨_,rfl,b8,d3,b9,d6,d2,e1,e6,rfl,(q.t b).t u,g.f2.t.f1.f1,f3,f4,f5⟩)
 intro A i;refine aD (cU 1 50 3 49 0 (vI y1.2.1) g.t.t.h (aI 2 [(48,vB (y1.2.1 !=1))] (aH i ?_ ?_)))
 .intro A i;refine aZ (bA 52 (.agg (Va y1.2)) g.t.t.h (cI 53 i (mX (p0:=y1.2) g) ?_));rintro b9 i _ b8 (⟨z6,z,rfl,rfl,k,g⟩|⟨d2,rfl,u,rfl,b,g⟩)
  .refine eI ?_;obtain rfl:=sI i;have i:=F;refine bN ?_;obtain rfl:=sI i;have g:=g.t.t.t;exact cE (.inl ⟨z6,z,rfl,rfl,q.t k,g⟩)
  refine aU rfl (bO ?_);have s:=jF i;exact xE (G _ _ ⟨B.1,U,Z,V,b0,Y,b2,u,s,rfl,q.t b,g.f1.f1.f2,n.mono b,o.mono b,p.mono b⟩)
 intro A i;refine aM (bO ?_);have s:=jF i;exact xE (G _ _ ⟨B.1,U,Z,V,b0,Y,b2,e4,s,rfl,q,g.f1.f1.f2,n,o,p⟩)
theorem VV{R2:bB->iY->(Int)->cT}{R3:bB->(Int)->pV}{R4:bB->(Int)->cT}{R5:bB->(Int)->(Int)->cT}{R6:bB->(Int)->cT}(l:AX R2)(k:AS R3)(b:BC R4)(a:AZ R5)(n:BM R6){p0:bB}{p1:Int}{p2:Int}{r:mT}(g:St m (kB bp0 (Vc p0 a1 c1 a2 c2 a3 c3) 84::kR a3 p0.2.2.2 c3 61 5::O) w)(r1:RepS C5 m a1 c1 p0.1)(r2:RepS aF m a2 c2 p0.2.2.1)(r3:RepS C2 m a3 c3 p0.2.2.2)(i:uY N R2 R3 R4 R5 R6 p0 p1 p2=some r):Calls prog 151 #[vP bp0 0,vI p1,vI p2] w fun e w'=>(∃(z0:Tu),∃m',r= .inl z0/\e= .panicked [{v:= .iface 80 (.agg (Vd z0)),recovered:=false}]/\m.le m'/\St m' (O) w')\/(∃(R:nG),r= .inr R/\∃d4 d6 d5 d7 K M m',e= .returned (vI R.2)/\m.le m'/\St m' (kB bp0 (Vc R.1 d4 d6 d5 d7 K M) 84::kR K R.1.2.2.2 M 61 5::O) w'/\P4 m' d4 d6 d5 d7 K M R.1):=by
 unfold uY at i;have q:=m.le_refl;refine bK func151 rfl ntmps151 ?_;refine aB 1 [] (aG ?_);refine aB 2 [(12,vB (p1==4))] (aH i ?_ ?_)
 .intro A i;refine aX 2 [(13,vP bp0 0),(14,vI p2)] ?_;refine cI 15 i (b (p0:=p0) g.f1.f1 r1 r2 r3) ?_;rintro y1 i _ H (⟨G,B,rfl,rfl,d,g⟩|⟨f,rfl,o,u,p,x,s,y,z,rfl,c,g,D,E,F⟩)
  .refine bN ?_;refine bN ?_;obtain rfl:=sI i;exact cE (.inl ⟨G,B,rfl,rfl,q.t d,g⟩)
  refine aI 1 [(6,vI f.2)] (aK (aV ?_));cases i;exact aN [6] [vI f.2] (.inr ⟨_,rfl,o,u,p,x,s,y,z,rfl,q.t c,g.f1.f1,D,E,F⟩)
 intro A i;refine aM (aE (aX 4 [(16,vP bp0 0),(18,vI (wr (p1+1))),(19,vI p2)] (cI 20 i (a (p0:=p0) g.f1.f1 r1 r2 r3) ?_)));rintro y3 i _ w3 (⟨z2,m4,rfl,rfl,e0,g⟩|⟨y,rfl,a7,c7,a8,c8,a9,c9,m3,rfl,d9,g,r7,r8,r9⟩)
 .refine bN ?_;obtain rfl:=sI i;exact cE (.inl ⟨z2,m4,rfl,rfl,q.t e0,g⟩)
 refine aI 1 [(7,vI y.2)] (bJ ?_);have⟨e5,i,U⟩:=aW i;refine dQ _ kr (dP (fun V L' w'=>∃(c:Int×bB),∃D F E G s u Y,aS (BF N R5 p1 p2) V c=some e5/\L'=[(0,vP bp0 0),(1,vI p1),(2,vI p2),(7,vI c.1)]/\m.le Y/\St Y (kB bp0 (Vc c.2 D F E G s u) 84::kR s c.2.2.2.2 u 61 5::O) w'/\P4 Y D F E G s u c.2) N ⟨(y.2,y.1.1,y.1.2.1,y.1.2.2.1,y.1.2.2.2),a7,c7,a8,c8,a9,c9,m3,i,rfl,q.t d9,g.f1.f1,r7,r8,r9⟩ ?_);rintro V _ w5 ⟨c,D,F,E,G,s,u,Y,hL,rfl,q,g,g1,g2,g3⟩;rcases V with _|V
 .exact dU hL
 obtain⟨h8,i,d8,o⟩:=dV hL;clear hL;unfold BF at i;refine bJ (aX 2 [(21,vP bp0 0),(22,vI p1)] (aR 23 i (VT (p0:=c.2) g.f1.f1 g1 g2 g3) ?_));rintro z i _ w6 ⟨e6,f4,e7,f5,e8,f6,m6,rfl,e1,g,b8,b9,d0⟩;have q:=q.t e1;refine aI 1 [(8,vI z.2)] (aG (aB 2 [(25,vB (z.2==0))] (aH i ?_ ?_)))
 .intro A i;refine aB 2 [(6,vI c.1)] (aK ?_);refine aV (bM ?_);have ho:=o _ (sI i);subst ho;have i:=U;refine aV (bM ?_);cases i;exact aN [6] [vI c.1] (.inr ⟨_,rfl,e6,f4,e7,f5,e8,f6,m6,rfl,q,g.f1.f1,b8,b9,d0⟩)
 intro A i;refine aM (aE (aX 1 [(27,vP bp0 0)] (aR 28 i (qY (p0:=z.1) g.f1.f1 b8 b9 d0) ?_)));rintro d i _ w7 ⟨e9,f7,f0,f8,f3,f9,m7,rfl,H,g,g4,g5,g6⟩;refine dS 9 109 (.agg (Vb 0 eB 0 0)) g fun b1 w8 g=> ?_;refine cM (.agg (Va d.2)) g fun w9 g=> ?_;refine aO (aD (aA 3 [(29,vP bp0 0),(31,vP bp0 1)] (bA 32 (vI d.1.2.1) g.t.h (aA 3 [(33,vI (wr (d.1.2.1+1))),(35,vP bp0 1)] (cX #[vS e9 d.1.1 f7,vI (wr (d.1.2.1+1)),vS f0 d.1.2.2.1 f8,vS f3 d.1.2.2.2 f9] g.f1 fun h9 g=>(aO (aD (aA 4 [(36,vP bp0 0),(38,vI (wr (p1+1))),(39,vI p2)] (cI 40 i (a (p0:=(d.1.1,wr (d.1.2.1+1),d.1.2.2.1,d.1.2.2.2)) g.f2.f1 g4 g5 g6) ?_)))))))));rintro y7 i _ k0 (⟨z3,m9,rfl,rfl,e4,g⟩|⟨B,rfl,h1,h4,h2,h5,h3,h6,m8,rfl,e2,g,g7,g8,g9⟩)
 .refine bN ?_;refine eI ?_;have ho:=o _ (sI i);subst ho;have i:=U;refine bN ?_;refine eI ?_;obtain rfl:=sI i;have g:=g.t;exact cE (.inl ⟨z3,m9,rfl,rfl,(q.t H).t e4,g⟩)
 refine aI 1 [(10,vI B.2)] (aD (aA 1 [(41,vP bp0 0)] (bA 42 (.agg (Va d.2)) g.t.t.h (aA 3 [(43,vI z.2),(44,vI c.1),(45,vI B.2)] (eD 46 3 2 (aT .i64) [c.1,B.2] g fun b2 h7 k2 p g h0=> ?_)))));have q:=((q.t H).t e2).t p;refine aA 1 [(47,.agg #[vI 4,vI 0,vI z.2,vT eB,vS (aP b2) ([c.1,B.2]) 2])] (cI 48 i (uZ (p0:=B.1) (p1:=d.2) (p2:=(4,0,z.2,eB,[c.1,B.2])) g.f2.f2 (g7.mono p) (g8.mono p) (g9.mono p) h0) ?_);rintro y9 i _ k4 (⟨z4,g0,rfl,rfl,S,g⟩|⟨f,rfl,Z,b4,b0,b5,b3,b6,b7,rfl,x,g,d1,d2,d3⟩)
 .refine bN ?_;refine eI ?_;have ho:=o _ (sI i);subst ho;have i:=U;refine bN ?_;refine eI ?_;obtain rfl:=sI i;have g:=g.t.t;exact cE (.inl ⟨z4,g0,rfl,rfl,q.t S,g⟩)
 refine aA 1 [(7,vI f.2)] (aU rfl ?_);have g:=g.f2.t;refine aE (aB 2 [(50,vB (p1==1))] (aH i ?_ ?_))
 .intro A i;refine aB 2 [(6,vI f.2)] (aK ?_);refine bM ?_;have ho:=o _ (sI i);subst ho;have i:=U;refine aV (bM ?_);cases i;exact aN [6] [vI f.2] (.inr ⟨_,rfl,Z,b4,b0,b5,b3,b6,b7,rfl,q.t x,g.f2.t.f1.f1,d1,d2,d3⟩)
 intro A i;refine aM (bO ?_);have hL:=d8 _ (sI i);exact xE (dN ⟨(f.2,f.1.1,f.1.2.1,f.1.2.2.1,f.1.2.2.2),Z,b4,b0,b5,b3,b6,b7,hL,rfl,q.t x,g.f2.t.f1.f1,d1,d2,d3⟩)
theorem WC{R2:bB->iY->(Int)->cT}{R3:bB->(Int)->pV}{R4:bB->(Int)->cT}{R5:bB->(Int)->(Int)->cT}{R6:bB->(Int)->cT}(k:AX R2)(d:AS R3)(l:BC R4)(b:AZ R5)(a:BM R6){p0:bB}{p1:Int}{r:mT}(g:St m (kB bp0 (Vc p0 a1 c1 a2 c2 a3 c3) 84::kR a3 p0.2.2.2 c3 61 5::O) w)(r1:RepS C5 m a1 c1 p0.1)(r2:RepS aF m a2 c2 p0.2.2.1)(r3:RepS C2 m a3 c3 p0.2.2.2)(i:vC N R2 R3 R4 R5 R6 p0 p1=some r):Calls prog 128 #[vP bp0 0,vI p1] w fun e w'=>(∃(z0:Tu),∃m',r= .inl z0/\e= .panicked [{v:= .iface 80 (.agg (Vd z0)),recovered:=false}]/\m.le m'/\St m' (O) w')\/(∃(B:nG),r= .inr B/\∃Y b0 Z b3 y z m',e= .returned (vI B.2)/\m.le m'/\St m' (kB bp0 (Vc B.1 Y b0 Z b3 y z) 84::kR y B.1.2.2.2 z 61 5::O) w'/\P4 m' Y b0 Z b3 y z B.1):=by
 unfold vC at i;have q:=m.le_refl;refine bK func128 rfl ntmps128 ?_;refine aB 1 [] (aD ?_);refine aA 1 [(9,vP bp0 0)] (aR 10 i (qY (p0:=p0) g.f1.f1 r1 r2 r3) ?_);rintro y1 i _ w1 ⟨a4,c4,a5,c5,a6,c6,m1,rfl,b5,g,S,U,V⟩;have q:=q.t b5;refine dS 5 109 (.agg (Vb 0 eB 0 0)) g fun b1 w2 g=> ?_;refine cM (.agg (Va y1.2)) g fun w3 g=> ?_;refine aO (aG (aB 2 [(12,vB (decide (p1>32)))] ?_));have⟨e1,i,j1⟩:=aW i;refine cZ .normal (fun L' w'=>∃(o1:Unit),∃R,(.inl o1:uV)=e1/\L'=[(0,vP bp0 0),(1,vI p1),(5,vP b1 0)]/\m.le R/\St R (kB b1 (Va y1.2) 109::kB bp0 (Vc y1.1 a4 c4 a5 c5 a6 c6) 84::kR a6 y1.1.2.2.2 c6 61 5::O) w'/\P4 R a4 c4 a5 c5 a6 c6 y1.1) ?_ ?_
 .rintro _ w4 ⟨o1,R,rfl,rfl,q,g,S,U,V⟩;have i:=j1;refine aE (aG (aX 1 [(15,vP bp0 0)] (aR 16 i (yB (p0:=y1.1) g.f2.f2 S U V) ?_)));rintro f i _ w7 ⟨a7,c7,a8,c8,a9,c9,m5,rfl,b6,g,r7,r8,r9⟩;have q:=q.t b6;refine aI 1 [(17,vB (!f.2))] (aH i ?_ ?_)
  .intro A i;refine aX 2 [(18,vP bp0 0),(19,vI p1)] ?_;refine cI 20 i (b (p0:=f.1) g.f1.f1 r7 r8 r9) ?_;rintro y5 i _ w8 (⟨z2,M,rfl,rfl,n,g⟩|⟨H,rfl,o,u,p,x,s,D,K,rfl,c,g,E,F,G⟩)
   .refine bN ?_;refine bN ?_;obtain rfl:=sI i;have g:=g.t;exact cE (.inl ⟨z2,M,rfl,rfl,q.t n,g⟩)
   refine aI 1 [(4,vI H.2)] (aK (aV ?_));cases i;exact aN [4] [vI H.2] (.inr ⟨_,rfl,o,u,p,x,s,D,K,rfl,q.t c,g.f2.t.f1.f1,E,F,G⟩)
  intro A i;refine aM (aE (aX 3 [(21,vP bp0 0),(23,vP bp0 1)] (bA 24 (vI f.1.2.1) g.h (aA 3 [(25,vI (wr (f.1.2.1+1))),(27,vP bp0 1)] (cX #[vS a7 f.1.1 c7,vI (wr (f.1.2.1+1)),vS a8 f.1.2.2.1 c8,vS a9 f.1.2.2.2 c9] g fun n3 g=>(aO (aD (aA 3 [(28,vP bp0 0),(30,vI (wr (p1+1)))] (cI 31 i (a (p0:=(f.1.1,wr (f.1.2.1+1),f.1.2.2.1,f.1.2.2.2)) g.f1.f1 r7 r8 r9) ?_)))))))));rintro y7 i _ n4 (⟨z3,m9,rfl,rfl,b7,g⟩|⟨u,rfl,g6,k1,g7,k2,g8,k4,m8,rfl,x,g,e2,e4,e5⟩)
  .refine bN ?_;obtain rfl:=sI i;have g:=g.t;exact cE (.inl ⟨z3,m9,rfl,rfl,q.t b7,g⟩)
  refine aI 1 [(6,vI u.2)] (aD (aA 1 [(32,vP bp0 0)] (cI 33 i (HU (p0:=u.1) g.f1.f1 e2 e4 e5) ?_)));rintro y9 i _ n5 (⟨z4,d5,rfl,rfl,D,g⟩|⟨g4,rfl,g9,k5,h0,k6,h1,k7,l7,rfl,b8,g,e6,e7,e8⟩)
  .refine bN ?_;obtain rfl:=sI i;have g:=g.t;exact cE (.inl ⟨z4,d5,rfl,rfl,(q.t x).t D,g⟩)
  have q:=(q.t x).t b8;refine aO (aD (aA 3 [(34,vP bp0 0),(36,vI (wr (p1+1)))] (cI 37 i (a (p0:=g4) g.f1.f1 e6 e7 e8) ?_)));rintro o2 i _ n6 (⟨z5,d6,rfl,rfl,E,g⟩|⟨n,rfl,h2,k8,h3,k9,h4,l0,l8,rfl,p,g,e9,f0,f3⟩)
  .refine bN ?_;obtain rfl:=sI i;have g:=g.t;exact cE (.inl ⟨z5,d6,rfl,rfl,q.t E,g⟩)
  refine aI 1 [(7,vI n.2)] (aD (aA 1 [(38,vP bp0 0)] (cI 39 i (HU (p0:=n.1) g.f1.f1 e9 f0 f3) ?_)));rintro o3 i _ n7 (⟨z6,d7,rfl,rfl,G,g⟩|⟨g5,rfl,h5,l1,h6,l2,h7,l3,l9,rfl,F,g,f4,f5,f6⟩)
  .refine bN ?_;obtain rfl:=sI i;have g:=g.t;exact cE (.inl ⟨z6,d7,rfl,rfl,(q.t p).t G,g⟩)
  have q:=(q.t p).t F;refine aO (aD (aA 3 [(40,vP bp0 0),(42,vI (wr (p1+1)))] (cI 43 i (a (p0:=g5) g.f1.f1 f4 f5 f6) ?_)));rintro o5 i _ n8 (⟨z7,d8,rfl,rfl,H,g⟩|⟨o,rfl,h8,l4,h9,l5,k0,l6,n0,rfl,s,g,f7,f8,f9⟩)
  .refine bN ?_;obtain rfl:=sI i;have g:=g.t;exact cE (.inl ⟨z7,d8,rfl,rfl,q.t H,g⟩)
  refine aI 1 [(8,vI o.2)] (aD (aA 1 [(44,vP bp0 0)] (bA 45 (.agg (Va y1.2)) g.t.t.h (aA 3 [(46,vI u.2),(47,vI n.2),(48,vI o.2)] (eD 49 3 3 (aT .i64) [u.2,n.2,o.2] g fun b2 n2 n9 c g g0=>(aA 1 [(50,.agg #[vI 5,vI 0,vI 0,vT eB,vS (aP b2) ([u.2,n.2,o.2]) 3])] (cI 51 i (uZ (p0:=o.1) (p1:=y1.2) (p2:=(5,0,0,eB,[u.2,n.2,o.2])) g.f2.f2 (f7.mono c) (f8.mono c) (f9.mono c) g0) ?_)))))));rintro o6 i _ o0 (⟨z8,e0,rfl,rfl,M,g⟩|⟨b4,rfl,b9,d2,d0,d3,d1,d4,d9,rfl,K,g,g1,g2,g3⟩)
  .refine bN ?_;obtain rfl:=sI i;have g:=g.t.t;exact cE (.inl ⟨z8,e0,rfl,rfl,((q.t s).t c).t M,g⟩)
  refine aA 1 [(4,vI b4.2)] (aU rfl ?_);have g:=g.f2.t;refine aE (aK ?_);cases i;exact aN [4] [vI b4.2] (.inr ⟨_,rfl,b9,d2,d0,d3,d1,d4,d9,rfl,((q.t s).t c).t K,g.f2.t.f1.f1,g1,g2,g3⟩)
 intro f;refine aH i ?_ ?_
 .intro A i;refine aZ (bA 13 (.agg (Va y1.2)) g.h (cI 14 i (mX (p0:=y1.2) g) ?_));rintro D i _ x (⟨u,s,rfl,rfl,n,g⟩|⟨E,rfl,p,rfl,c,g⟩)
  .obtain rfl:=sI i;have i:=j1;refine bN ?_;obtain rfl:=sI i;have g:=g.t.t.t;exact cE (.inl ⟨u,s,rfl,rfl,q.t n,g⟩)
  refine aU rfl ?_;have o:=jF i;exact xE (f _ _ ⟨(),p,o,rfl,q.t c,g.f2.f2.f2,S.mono c,U.mono c,V.mono c⟩)
 intro A i;refine aM ?_;have o:=jF i;exact xE (f _ _ ⟨(),m1,o,rfl,q,g.f2.f2.f2,S,U,V⟩)
theorem iU(N:Nat):∀D:Nat,(∀{m:Mem} {O:List Piece} {w:World} {p0:bB} {p1:iY} {p2:Int} {b:Nat} {p:Option Addr} {s:Nat} {q:Option Addr} {t:Nat} {n:Option Addr} {o:Nat} {r:mT} (g:St m (kB b (Vc p0 p s q t n o) 84::kR n p0.2.2.2 o 61 5::O) w) (u:RepS C5 m p s p0.1) (x:RepS aF m q t p0.2.2.1) (y:RepS C2 m n o p0.2.2.2) (i:(dM N D).1 p0 p1 p2=some r),Calls prog 170 #[vP b 0,.agg (Va p1),vI p2] w fun e w'=>(∃(z:Tu),∃m',r= .inl z/\e= .panicked [{v:= .iface 80 (.agg (Vd z)),recovered:=false}]/\m.le m'/\St m' (O) w')\/(∃(a:nG),r= .inr a/\∃f k h l c d m',e= .returned (vI a.2)/\m.le m'/\St m' (kB b (Vc a.1 f k h l c d) 84::kR c a.1.2.2.2 d 61 5::O) w'/\P4 m' f k h l c d a.1))/\(∀{m:Mem} {O:List Piece} {w:World} {p0:bB} {p1:Int} {b:Nat} {p:Option Addr} {s:Nat} {q:Option Addr} {t:Nat} {n:Option Addr} {o:Nat} {r:ER} (g:St m (kB b (Vc p0 p s q t n o) 84::kR n p0.2.2.2 o 61 5::O) w) (u:RepS C5 m p s p0.1) (x:RepS aF m q t p0.2.2.1) (y:RepS C2 m n o p0.2.2.2) (i:(dM N D).2.1 p0 p1=some r),Calls prog 171 #[vP b 0,vI p1] w fun e w'=>(∃(z:Tu),∃m',r= .inl z/\e= .panicked [{v:= .iface 80 (.agg (Vd z)),recovered:=false}]/\m.le m'/\St m' (O) w')\/(∃(a:T1s),r= .inr a/\∃f k h l c d A B m',e= .returned (vS A a.2 B)/\m.le m'/\St m' (kR A a.2 B 3 1::kB b (Vc a.1 f k h l c d) 84::kR c a.1.2.2.2 d 61 5::O) w'/\P5 m' f k h l c d A B a))/\(∀{m:Mem} {O:List Piece} {w:World} {p0:bB} {p1:Int} {b:Nat} {p:Option Addr} {s:Nat} {q:Option Addr} {t:Nat} {n:Option Addr} {o:Nat} {r:mT} (g:St m (kB b (Vc p0 p s q t n o) 84::kR n p0.2.2.2 o 61 5::O) w) (u:RepS C5 m p s p0.1) (x:RepS aF m q t p0.2.2.1) (y:RepS C2 m n o p0.2.2.2) (i:(dM N D).2.2.1 p0 p1=some r),Calls prog 160 #[vP b 0,vI p1] w fun e w'=>(∃(z:Tu),∃m',r= .inl z/\e= .panicked [{v:= .iface 80 (.agg (Vd z)),recovered:=false}]/\m.le m'/\St m' (O) w')\/(∃(a:nG),r= .inr a/\∃f k h l c d m',e= .returned (vI a.2)/\m.le m'/\St m' (kB b (Vc a.1 f k h l c d) 84::kR c a.1.2.2.2 d 61 5::O) w'/\P4 m' f k h l c d a.1))/\(∀{m:Mem} {O:List Piece} {w:World} {p0:bB} {p1:Int} {p2:Int} {b:Nat} {p:Option Addr} {s:Nat} {q:Option Addr} {t:Nat} {n:Option Addr} {o:Nat} {r:mT} (g:St m (kB b (Vc p0 p s q t n o) 84::kR n p0.2.2.2 o 61 5::O) w) (u:RepS C5 m p s p0.1) (x:RepS aF m q t p0.2.2.1) (y:RepS C2 m n o p0.2.2.2) (i:(dM N D).2.2.2.1 p0 p1 p2=some r),Calls prog 151 #[vP b 0,vI p1,vI p2] w fun e w'=>(∃(z:Tu),∃m',r= .inl z/\e= .panicked [{v:= .iface 80 (.agg (Vd z)),recovered:=false}]/\m.le m'/\St m' (O) w')\/(∃(a:nG),r= .inr a/\∃f k h l c d m',e= .returned (vI a.2)/\m.le m'/\St m' (kB b (Vc a.1 f k h l c d) 84::kR c a.1.2.2.2 d 61 5::O) w'/\P4 m' f k h l c d a.1))/\(∀{m:Mem} {O:List Piece} {w:World} {p0:bB} {p1:Int} {b:Nat} {p:Option Addr} {s:Nat} {q:Option Addr} {t:Nat} {n:Option Addr} {o:Nat} {r:mT} (g:St m (kB b (Vc p0 p s q t n o) 84::kR n p0.2.2.2 o 61 5::O) w) (u:RepS C5 m p s p0.1) (x:RepS aF m q t p0.2.2.1) (y:RepS C2 m n o p0.2.2.2) (i:(dM N D).2.2.2.2 p0 p1=some r),Calls prog 128 #[vP b 0,vI p1] w fun e w'=>(∃(z:Tu),∃m',r= .inl z/\e= .panicked [{v:= .iface 80 (.agg (Vd z)),recovered:=false}]/\m.le m'/\St m' (O) w')\/(∃(a:nG),r= .inr a/\∃f k h l c d m',e= .returned (vI a.2)/\m.le m'/\St m' (kB b (Vc a.1 f k h l c d) 84::kR c a.1.2.2.2 d 61 5::O) w'/\P4 m' f k h l c d a.1))
 |0=>⟨fun _ _ _ _ i=>(by cases i),fun _ _ _ _ i=>(by cases i),fun _ _ _ _ i=>(by cases i),fun _ _ _ _ i=>(by cases i),fun _ _ _ _ i=>(by cases i)⟩
 |D+1=>⟨fun g u x y i=>VR (iU N D).1 (iU N D).2.1 (iU N D).2.2.1 (iU N D).2.2.2.1 (iU N D).2.2.2.2 g u x y i,fun g u x y i=>VN (iU N D).1 (iU N D).2.1 (iU N D).2.2.1 (iU N D).2.2.2.1 (iU N D).2.2.2.2 g u x y i,fun g u x y i=>VS (iU N D).1 (iU N D).2.1 (iU N D).2.2.1 (iU N D).2.2.2.1 (iU N D).2.2.2.2 g u x y i,fun g u x y i=>VV (iU N D).1 (iU N D).2.1 (iU N D).2.2.1 (iU N D).2.2.2.1 (iU N D).2.2.2.2 g u x y i,fun g u x y i=>WC (iU N D).1 (iU N D).2.1 (iU N D).2.2.1 (iU N D).2.2.2.1 (iU N D).2.2.2.2 g u x y i⟩
theorem WK{p0:bB}{p1:Int}{r:mT}(g:St m (kB bp0 (Vc p0 a1 c1 a2 c2 a3 c3) 84::kR a3 p0.2.2.2 c3 61 5::O) w)(n:RepS C5 m a1 c1 p0.1)(o:RepS aF m a2 c2 p0.2.2.1)(p:RepS C2 m a3 c3 p0.2.2.2)(i:HW N p0 p1=some r):Calls prog 128 #[vP bp0 0,vI p1] w fun e w'=>(∃(l:Tu),∃m',r= .inl l/\e= .panicked [{v:= .iface 80 (.agg (Vd l)),recovered:=false}]/\m.le m'/\St m' (O) w')\/(∃(c:nG),r= .inr c/\∃d h f k a b m',e= .returned (vI c.2)/\m.le m'/\St m' (kB bp0 (Vc c.1 d h f k a b) 84::kR a c.1.2.2.2 b 61 5::O) w'/\P4 m' d h f k a b c.1):=
 (iU N N).2.2.2.2 g n o p i
end
section
open Go Go.Dc Go.Proofs.Tryz
set_option maxHeartbeats 4000000
set_option maxRecDepth 100000
variable {N bp0 c1 c2 c3 c4:Nat} {m:Mem} {O:List Piece} {w:World} {a1 a2 a3 a4:Option Addr}
def xY(N:Nat)(p1:Tq)(b:Option (List Tx))(y1:tV)(o4:T1y)(a:Int):Option (Int⊕Unit⊕Int):=
 if(decide (a<(List.length p1:Int)))=true then((idx p1 a).bind fun x1=>(if(x1.1==((cH b y1.2.2.1).getD 0))=true then(some (x1.2.1.toList==o4.2.2.2.2.2.1.toList)) else(some false):Tl).bind fun b=>if b=true then(some (.inr (.inr (a)))) else(some (.inl (IntKind.wrap .i64 (a+1))))) else(some (.inr (.inl ())))
def CA(N:Nat)(p0:bB)(p1:Tq):Option xL:=
 (eQ (some []:Option (List Tx)) (⟨#[102,117,110,99]⟩:BA) 1).bind fun a=>(eQ a (⟨#[116,101,115,116]⟩:BA) 2).bind fun a=>(eQ a (⟨#[103,101,110]⟩:BA) 3).bind fun a=>(oH N p0).bind fun y1=>(if(y1.2.1 !=1)=true then(some true) else(some (((cH a y1.2.2.1).getD 0)==0)):Tl).bind fun b=>(if b=true then((eT N y1.2 9).bind fun b=>(match b with| .inl b=>some (.inr (.inl b))| .inr b=>some (.inl ()))) else(some (.inl ())):Option AJ).bind fun b=>(match b with| .inl b=>(if((List.length p1:Int)==64)=true then((eT N y1.2 2).bind fun b=>(match b with| .inl b=>some (.inr (.inl b))| .inr b=>some (.inl ()))) else(some (.inl ())):Option AJ).bind fun b=>(match b with| .inl b=>(if(((cH a y1.2.2.1).getD 0)==3)=true then((sS N (y1.1.1,IntKind.wrap .i64 (y1.1.2.1+1),y1.1.2.2.1,y1.1.2.2.2)).bind fun b=>(match b with| .inl b=>some (.inr (.inl b))| .inr b=>some (.inl (b.1.1,b.1.2.1,b.1.2.2.1,b.1.2.2.2,b.2.1,b.2.2.1,b.2.2.2.1,b.2.2.2.2)))) else((sU N (y1.1.1,IntKind.wrap .i64 (y1.1.2.1+1),y1.1.2.2.1,y1.1.2.2.2)).bind fun b=>(match b with| .inl b=>some (.inr (.inl b))| .inr b=>some (.inl (b.1.1,b.1.2.1,b.1.2.2.1,b.1.2.2.2,b.2.1,b.2.2.1,b.2.2.2.1,b.2.2.2.2)))):Option (T1y⊕xL)).bind fun b=>(match b with| .inl o4=>((aS (xY N p1 a y1 o4) N 0).bind fun b=>(match b with| .inl b=>some (-1)| .inr (z)=>some z):Ta).bind fun b=>(if(decide (b>=0))=true then((eT N o4.2.2.2.2 10).bind fun b=>(match b with| .inl b=>some (.inr (.inl b))| .inr b=>some (.inl ()))) else(some (.inl ())):Option AJ).bind fun b=>(match b with| .inl b=>(if(((cH a y1.2.2.1).getD 0)==1)=true then((xR N (o4.1,o4.2.1,o4.2.2.1,o4.2.2.2.1)).bind fun b=>(match b with| .inl b=>some (.inr (.inl b))| .inr b=>some (.inl (b.2,b.1.1,b.1.2.1,b.1.2.2.1,b.1.2.2.2)))) else(some (.inl (([]:Te),o4.1,o4.2.1,o4.2.2.1,o4.2.2.2.1))):Option (sN⊕xL)).bind fun b=>(match b with| .inl c=>(mW N c.2 (⟨#[61]⟩:BA)).bind fun b=>(match b with| .inl b=>some (.inl b)| .inr b=>(HW N (b.1,b.2.1,c.1,([]:Ti)) 1).bind fun b=>(match b with| .inl b=>some (.inl b)| .inr b=>(mW N b.1 (⟨#[59]⟩:BA)).bind fun d=>(match d with| .inl d=>some (.inl d)| .inr d=>some (.inr (d,(((cH a y1.2.2.1).getD 0),o4.2.2.2.2.2.1,c.1,b.1.2.2.2))))))| .inr z=>some z)| .inr z=>some z)| .inr z=>some z)| .inr z=>some z)| .inr z=>some z)
theorem WH{p0:bB}{p1:Tq}{r:xL}(g:St m (kB bp0 (Vc p0 a1 c1 a2 c2 a3 c3) 84::kR a3 p0.2.2.2 c3 61 5::O) w)(r1:RepS C5 m a1 c1 p0.1)(r2:RepS aF m a2 c2 p0.2.2.1)(r3:RepS C2 m a3 c3 p0.2.2.2)(D:RepS C3 m a4 c4 p1)(i:CA N p0 p1=some r):Calls prog 90 #[vP bp0 0,vS a4 p1 c4] w fun e w'=>(∃(z0:Tu),∃m',r= .inl z0/\e= .panicked [{v:= .iface 80 (.agg (Vd z0)),recovered:=false}]/\m.le m'/\St m' (O) w')\/(∃(y0:bB×Tp),r= .inr y0/\∃g6 g9 g7 h0 e8 f0 e9 f8 g8 h1 m',e= .returned (.agg (V6 y0.2 e9 f8 g8 h1))/\m.le m'/\St m' (kR e9 y0.2.2.2.1 f8 9 1::kB bp0 (Vc y0.1 g6 g9 g7 h0 e8 f0) 84::kR e8 y0.1.2.2.2 f0 61 5::O) w'/\RepS C5 m' g6 g9 y0.1.1/\RepS aF m' g7 h0 y0.1.2.2.1/\RepS C2 m' e8 f0 y0.1.2.2.2/\RepS aF m' e9 f8 y0.2.2.2.1/\RepS C2 m' g8 h1 y0.2.2.2.2):=by
 unfold CA at i;have q:=m.le_refl;refine bK func90 rfl ntmps90 ?_;refine aD (dS 4 43 (.agg #[vI 0,vT eB,v8,v8]) g fun V w1 g=>(aO (aD (aQ rfl (CN (d:=9) (t:=151) kr rfl g fun B w2 g=> ?_)))));have⟨q7,d1,i⟩:=aW i;refine aQ rfl (mA (ek:=(fun s:BA=>Value.string s)) (c:=(aT .i64)) (agg:=false) (k:=bx) (yv:=1) (cs:=[vI 1]) (z:=(vI 0)) (v:=(vI 1)) (kt:=9) (et:=3) (t:=151) (x:=(.tmp 9)) (y:=(.const (vT bx))) (u:=(.const (vI 1))) kr (ev (.map (some B))) (ev (vT bx)) (ev (vI 1)) kr (HA kr) g (MapQ.new (fun s:BA=>Value.string s) (aT .i64) false _ _) rfl rfl d1 fun q3 q0 w3 g r5=> ?_);have⟨q8,d2,i⟩:=aW i;refine aQ rfl (mA (ek:=(fun s:BA=>Value.string s)) (c:=(aT .i64)) (agg:=false) (k:=bz) (yv:=2) (cs:=[vI 2]) (z:=(vI 0)) (v:=(vI 2)) (kt:=9) (et:=3) (t:=151) (x:=(.tmp 9)) (y:=(.const (vT bz))) (u:=(.const (vI 2))) kr (ev (.map (some B))) (ev (vT bz)) (ev (vI 2)) kr (HA kr) g r5 rfl rfl d2 fun q4 q1 w4 g r6=> ?_);have⟨a,d3,i⟩:=aW i
 refine aQ rfl (mA (ek:=(fun s:BA=>Value.string s)) (c:=(aT .i64)) (agg:=false) (k:=b17) (yv:=3) (cs:=[vI 3]) (z:=(vI 0)) (v:=(vI 3)) (kt:=9) (et:=3) (t:=151) (x:=(.tmp 9)) (y:=(.const (vT b17))) (u:=(.const (vI 3))) kr (ev (.map (some B))) (ev (vT b17)) (ev (vI 3)) kr (HA kr) g r6 rfl rfl d3 fun p o w5 g f=>(aI 2 [(5,.map (some B))] (aD (aA 1 [(11,vP bp0 0)] (aR 12 i (qY (p0:=p0) g.f3.f3 r1 r2 r3) ?_)))));rintro y1 i _ w6 ⟨a5,c5,a6,c6,a7,c7,m1,rfl,d0,g,r8,r9,U⟩;have f:=f.mono d0;refine dS 6 109 (.agg (Vb 0 eB 0 0)) g fun H w7 g=> ?_;refine cM (.agg (Va y1.2)) g fun w8 g=> ?_;refine aO (aD (aA 2 [(13,.map (some B)),(14,vP H 1)] (bA 15 (vT y1.2.2.1) g.h (aQ rfl (wB (ek:=(fun s:BA=>Value.string s)) (c:=(aT .i64)) (agg:=false) (k:=y1.2.2.1) (zx:=0) (zcs:=[vI 0]) (z:=(vI 0)) (kt:=9) (et:=3) (d:=16) (t:=151) (x:=(.tmp 13)) (y:=(.tmp 15)) (ok:=false) kr rfl (ev (.map (some B))) (ev (vT y1.2.2.1)) kr (HA kr) g.t.t.t.h f rfl rfl ?_)))));rintro q2 rfl;refine dS 7 3 (vI 0) g fun M w9 g=> ?_;refine cM (vI ((cH a y1.2.2.1).getD 0)) g fun s0 g=> ?_;refine aO (aG (aD ?_));have⟨o1,i,J⟩:=aW i
 refine LJ (j:=7) (fun L' w'=>∃m2,L'=[(0,vP bp0 0),(1,vS a4 p1 c4),(4,vP V 0),(6,vP H 0),(7,vP M 0),(23,vB o1)]/\m.le m2/\St m2 (kB M #[vI ((cH a y1.2.2.1).getD 0)] 3::kB H (Va y1.2) 109::kB bp0 (Vc y1.1 a5 c5 a6 c6 a7 c7) 84::kB V #[vI 0,vT eB,va,v6] 43::cQ (some B) p o::kR a7 y1.1.2.2.2 c7 61 5::O) w'/\RepS C3 m2 a4 c4 p1/\RepS C5 m2 a5 c5 y1.1.1/\RepS aF m2 a6 c6 y1.1.2.2.1/\RepS C2 m2 a7 c7 y1.1.2.2.2/\MapQ (fun s:BA=>Value.string s) (aT .i64) false m2 (some B) p o a) ?_ ?_
 .have i:=J;rintro _ s2 ⟨m2,rfl,q,g,D,r8,r9,U,f⟩;refine aO ?_;have⟨k6,i,j1⟩:=aW i;refine cZ .normal (fun L' w'=>∃(o2:Unit),∃m3,(.inl o2:AJ)=k6/\L'=[(0,vP bp0 0),(1,vS a4 p1 c4),(4,vP V 0),(6,vP H 0),(7,vP M 0)]/\m.le m3/\St m3 (kB M #[vI ((cH a y1.2.2.1).getD 0)] 3::kB H (Va y1.2) 109::kB bp0 (Vc y1.1 a5 c5 a6 c6 a7 c7) 84::kB V #[vI 0,vT eB,va,v6] 43::cQ (some B) p o::kR a7 y1.1.2.2.2 c7 61 5::O) w'/\RepS C3 m3 a4 c4 p1/\RepS C5 m3 a5 c5 y1.1.1/\RepS aF m3 a6 c6 y1.1.2.2.1/\RepS C2 m3 a7 c7 y1.1.2.2.2/\MapQ (fun s:BA=>Value.string s) (aT .i64) false m3 (some B) p o a) ?_ ?_
  .rintro _ s3 ⟨o2,m3,rfl,rfl,q,g,D,r8,r9,U,f⟩;have i:=j1;refine aE (aG (aB 3 [(28,vB ((p1.length:Int)==64))] ?_));have⟨k7,i,j2⟩:=aW i;refine cZ .normal (fun L' w'=>∃(o3:Unit),∃m6,(.inl o3:AJ)=k7/\L'=[(0,vP bp0 0),(1,vS a4 p1 c4),(4,vP V 0),(6,vP H 0),(7,vP M 0)]/\m.le m6/\St m6 (kB M #[vI ((cH a y1.2.2.1).getD 0)] 3::kB H (Va y1.2) 109::kB bp0 (Vc y1.1 a5 c5 a6 c6 a7 c7) 84::kB V #[vI 0,vT eB,va,v6] 43::cQ (some B) p o::kR a7 y1.1.2.2.2 c7 61 5::O) w'/\RepS C3 m6 a4 c4 p1/\RepS C5 m6 a5 c5 y1.1.1/\RepS aF m6 a6 c6 y1.1.2.2.1/\RepS C2 m6 a7 c7 y1.1.2.2.2/\MapQ (fun s:BA=>Value.string s) (aT .i64) false m6 (some B) p o a) ?_ ?_
   .rintro _ s4 ⟨o3,m6,rfl,rfl,q,g,D,r8,r9,U,f⟩;have i:=j2;refine aE (aX 3 [(31,vP bp0 0),(33,vP bp0 1)] (bA 34 (vI y1.1.2.1) g.t.t.h (aA 3 [(35,vI (wr (y1.1.2.1+1))),(37,vP bp0 1)] (cX #[vS a5 y1.1.1 c5,vI (wr (y1.1.2.1+1)),vS a6 y1.1.2.2.1 c6,vS a7 y1.1.2.2.2 c7] g.f2 fun s5 g=>(aO (aG (aD (bA 38 (vI ((cH a y1.2.2.1).getD 0)) g.t.h (aI 1 [(39,vB (((cH a y1.2.2.1).getD 0)==3))] ?_)))))))));have⟨k8,i,j3⟩:=aW i;refine cZ .normal (fun L' w'=>∃(o4:T1y),∃Y c8 Z c9 l n m9,(.inl o4:T1y⊕xL)=k8/\L'=[(0,vP bp0 0),(1,vS a4 p1 c4),(4,vP V 0),(6,vP H 0),(7,vP M 0)]/\m.le m9/\St m9 (kB bp0 #[vS Y o4.1 c8,vI o4.2.1,vS Z o4.2.2.1 c9,vS l o4.2.2.2.1 n] 84::kB M #[vI ((cH a y1.2.2.1).getD 0)] 3::kB H (Va o4.2.2.2.2) 109::kB V #[vI 0,vT eB,va,v6] 43::cQ (some B) p o::kR l o4.2.2.2.1 n 61 5::O) w'/\RepS C3 m9 a4 c4 p1/\RepS C5 m9 Y c8 o4.1/\RepS aF m9 Z c9 o4.2.2.1/\RepS C2 m9 l n o4.2.2.2.1/\MapQ (fun s:BA=>Value.string s) (aT .i64) false m9 (some B) p o a) ?_ ?_
    .rintro _ s6 ⟨o4,Y,c8,Z,c9,l,n,m9,rfl,rfl,q,g,D,E,F,G,f⟩;have i:=j3;refine aE (aG (aX 2 [(44,vS a4 p1 c4),(45,.func (.func 126) #[] #[vP M 0,vP H 0])] (aQ rfl (cS 46 125 #[vS a4 p1 c4,.func (.func 126) #[] #[vP M 0,vP H 0]] kr rfl (bK func125 rfl ntmps125 (aB 1 [] (aD (aA 2 [(5,vS a4 p1 c4),(6,.func (.func 126) #[] #[vP M 0,vP H 0])] ?_))))))));have⟨o5,i,j4⟩:=aW i;refine aQ rfl (cS 7 149 #[vS a4 p1 c4,.func (.func 126) #[] #[vP M 0,vP H 0]] kr rfl (qBe (fun v' w'=>∃b0,v'=(vI o5)/\m.le b0/\St b0 (kB bp0 #[vS Y o4.1 c8,vI o4.2.1,vS Z o4.2.2.1 c9,vS l o4.2.2.2.1 n] 84::kB M #[vI ((cH a y1.2.2.1).getD 0)] 3::kB H (Va o4.2.2.2.2) 109::kB V #[vI 0,vT eB,va,v6] 43::cQ (some B) p o::kR l o4.2.2.2.1 n 61 5::O) w'/\RepS C3 b0 a4 c4 p1/\RepS C5 b0 Y c8 o4.1/\RepS aF b0 Z c9 o4.2.2.1/\RepS C2 b0 l n o4.2.2.2.1/\MapQ (fun s:BA=>Value.string s) (aT .i64) false b0 (some B) p o a) ?_ ?_))
     .have i:=j4;rintro _ s7 ⟨b0,rfl,q,g,D,E,F,G,f⟩;refine⟨_,rfl,?_⟩;refine aI 2 [(4,vB (decide (o5>=0)))] (aK (aN [4] [vB (decide (o5>=0))] (⟨_,rfl,?_⟩)));refine aO ?_;have⟨k9,i,j7⟩:=aW i;refine cZ .normal (fun L' w'=>∃(o8:Unit),∃b8,(.inl o8:AJ)=k9/\L'=[(0,vP bp0 0),(4,vP V 0),(6,vP H 0),(7,vP M 0)]/\m.le b8/\St b8 (kB bp0 #[vS Y o4.1 c8,vI o4.2.1,vS Z o4.2.2.1 c9,vS l o4.2.2.2.1 n] 84::kB M #[vI ((cH a y1.2.2.1).getD 0)] 3::kB H (Va o4.2.2.2.2) 109::kB V #[vI 0,vT eB,va,v6] 43::cQ (some B) p o::kR l o4.2.2.2.1 n 61 5::O) w'/\RepS C5 b8 Y c8 o4.1/\RepS aF b8 Z c9 o4.2.2.1/\RepS C2 b8 l n o4.2.2.2.1/\MapQ (fun s:BA=>Value.string s) (aT .i64) false b8 (some B) p o a) ?_ ?_
      .rintro _ s8 ⟨o8,b8,rfl,rfl,q,g,E,F,G,f⟩;have i:=j7;refine aE (aD (bA 49 (vI ((cH a y1.2.2.1).getD 0)) g.t.h (cU 1 51 9 50 1 (vT o4.2.2.2.2.2.1) g.t.t.h (aA 1 [(52,.agg #[vI ((cH a y1.2.2.1).getD 0),vT o4.2.2.2.2.2.1,va,v6])] (dS 8 43 (.agg #[vI 0,vT eB,v8,v8]) g fun b7 s9 g=>(cM (.agg #[vI ((cH a y1.2.2.1).getD 0),vT o4.2.2.2.2.2.1,va,v6]) g fun t0 g=>(aO (aG (aD (bA 53 (vI ((cH a y1.2.2.1).getD 0)) g.t.t.h (aI 1 [(54,vB (((cH a y1.2.2.1).getD 0)==1))] ?_)))))))))));have⟨l0,i,j8⟩:=aW i;refine cZ .normal (fun L' w'=>∃(b:sN),∃R S e4 e6 e5 e7 e1 e2 b9,(.inl b:sN⊕xL)=l0/\L'=[(0,vP bp0 0),(4,vP V 0),(8,vP b7 0)]/\m.le b9/\St b9 (kB b7 #[vI ((cH a y1.2.2.1).getD 0),vT o4.2.2.2.2.2.1,vS R b.1 S,v6] 43::kB bp0 (Vc b.2 e4 e6 e5 e7 e1 e2) 84::kB M #[vI ((cH a y1.2.2.1).getD 0)] 3::kB H (Va o4.2.2.2.2) 109::kB V #[vI 0,vT eB,va,v6] 43::cQ (some B) p o::kR R b.1 S 9 1::kR e1 b.2.2.2.2 e2 61 5::O) w'/\RepS aF b9 R S b.1/\RepS C5 b9 e4 e6 b.2.1/\RepS aF b9 e5 e7 b.2.2.2.1/\RepS C2 b9 e1 e2 b.2.2.2.2/\MapQ (fun s:BA=>Value.string s) (aT .i64) false b9 (some B) p o a) ?_ ?_
       .rintro _ t3 ⟨b,R,S,e4,e6,e5,e7,e1,e2,b9,rfl,rfl,q,g,g4,l1,l2,l3,f⟩;have i:=j8;refine aE (aX 1 [(58,vP bp0 0)] (cI 59 i (qB (p0:=b.2) g.f7.f2 l1 l2 l3) ?_));rintro u1 i _ t4 (⟨z7,k0,rfl,rfl,f9,g⟩|⟨d4,rfl,g2,g3,n0,n6,h2,h6,q5,rfl,d5,g,l4,q9,r0⟩)
        .refine bN ?_;obtain rfl:=sI i;have g:=g.t.t.t.t.t.t;exact cE (.inl ⟨z7,k0,rfl,rfl,q.t f9,g⟩)
        have q:=q.t d5;refine aO (aD (aA 3 [(60,vP bp0 0),(61,vP bp0 0),(62,vP b7 2)] (bA 63 (vS R b.1 S) g.t.t.h (aA 2 [(65,vP bp0 2)] (cX #[vS g2 d4.1 g3,vI d4.2.1,vS R b.1 S,vS h2 d4.2.2.2 h6] g fun t5 g=>(aA 2 [(67,vP bp0 3)] (cX #[vS g2 d4.1 g3,vI d4.2.1,vS R b.1 S,v6] g fun t6 g=>(aU rfl ?_))))))));have g:=g.f1.t;refine aE (aX 1 [(68,vP bp0 0)] ?_);have g:=(g.nilroom 61 5).front1;refine cI 69 i (WK (p0:=(d4.1,d4.2.1,b.1,([]:Ti))) g l4 (g4.mono d5) (RepS.nil _ _)) ?_;rintro u2 i _ t7 (⟨z8,k2,rfl,rfl,g0,g⟩|⟨e0,rfl,n4,n9,n5,o0,d8,d9,q6,rfl,d6,g,l5,l6,g5⟩)
        .refine bN ?_;obtain rfl:=sI i;have g:=g.t.t.t.t.t.t;exact cE (.inl ⟨z8,k2,rfl,rfl,q.t g0,g⟩)
        refine aO (aD (cU 3 73 41 72 3 (vS d8 e0.1.2.2.2 d9) g.h (aA 1 [(74,vP b7 3)] (cX #[vI ((cH a y1.2.2.1).getD 0),vT o4.2.2.2.2.2.1,vS R b.1 S,vS d8 e0.1.2.2.2 d9] g.f2 fun t8 g=>(aO (aD (aA 1 [(75,vP bp0 0)] (cI 76 i (qB (p0:=e0.1) g.f2.f2 l5 l6 g5) ?_))))))));rintro u3 i _ t9 (⟨z9,k5,rfl,rfl,g1,g⟩|⟨u4,rfl,h3,h7,h4,h8,h5,h9,k4,rfl,d7,g,l7,l8,l9⟩)
        .refine bN ?_;obtain rfl:=sI i;have g:=g.t.t.t.t.t.t;exact cE (.inl ⟨z9,k5,rfl,rfl,(q.t d6).t g1,g⟩)
        refine aO (aD (bA 77 (.agg #[vI ((cH a y1.2.2.1).getD 0),vT o4.2.2.2.2.2.1,vS R b.1 S,vS d8 e0.1.2.2.2 d9]) g.t.t.h (cM (.agg #[vI ((cH a y1.2.2.1).getD 0),vT o4.2.2.2.2.2.1,vS R b.1 S,vS d8 e0.1.2.2.2 d9]) g.f5 fun u0 g=>(aO (aK ?_)))));obtain rfl:=sI i;refine oP 4 43 [] [] g.h ?_;exact .inr ⟨_,rfl,h3,h7,h4,h8,h5,h9,R,S,d8,d9,k4,rfl,(q.t d6).t d7,g.t.f2.t.f2.t.f2.t.f2.t.f1.f1.f2,l7,l8,l9,((g4.mono d5).mono d6).mono d7,g5.mono d7⟩
       intro d7;refine aH i ?_ ?_
       .intro A i;refine aZ (aA 1 [(55,vP bp0 0)] (cI 56 i (VO (p0:=(o4.1,o4.2.1,o4.2.2.1,o4.2.2.2.1)) g.f6.f2 E F G) ?_));rintro h8 i _ h6 (⟨z6,g5,rfl,rfl,d6,g⟩|⟨d4,rfl,e0,g1,f9,g2,g0,g3,d8,d9,g4,rfl,d5,g,h2,h3,h4,h5⟩)
        .obtain rfl:=sI i;have i:=j8;refine bN ?_;obtain rfl:=sI i;have g:=g.t.t.t.t.t;exact cE (.inl ⟨z6,g5,rfl,rfl,q.t d6,g⟩)
        refine aA 1 [(57,vP b7 2)] (cX #[vI ((cH a y1.2.2.1).getD 0),vT o4.2.2.2.2.2.1,vS d8 d4.2 d9,v6] g.f3 fun h7 g=>(aU rfl ?_));have n8:=jF i;exact xE (d7 _ _ ⟨(d4.2,d4.1.1,d4.1.2.1,d4.1.2.2.1,d4.1.2.2.2),d8,d9,e0,g1,f9,g2,g0,g3,g4,n8,rfl,q.t d5,g.f3.f2.f7.f7.f7.f7.f7.f7,h5,h2,h3,h4,f.mono d5⟩)
       intro A i;refine aM ?_;have n8:=jF i;have g:=(g.nilroom 9 1).front7.front1.front7.front7.front7.front7.front7.front7;exact xE (d7 _ _ ⟨(([]:Te),o4.1,o4.2.1,o4.2.2.1,o4.2.2.2.1),none,0,Y,c8,Z,c9,l,n,b8,n8,rfl,q,g,(RepS.nil _ _),E,F,G,f⟩)
      intro S;refine aH i ?_ ?_
      .intro A i;refine aZ (bA 47 (.agg (Va o4.2.2.2.2)) g.t.t.h (cI 48 i (mX (p0:=o4.2.2.2.2) g) ?_));rintro d6 i _ d5 (⟨z5,d4,rfl,rfl,R,g⟩|⟨d7,rfl,b9,rfl,b,g⟩)
       .obtain rfl:=sI i;have i:=j7;refine bN ?_;obtain rfl:=sI i;have g:=g.t.t.t.t.t.t;exact cE (.inl ⟨z5,d4,rfl,rfl,q.t R,g⟩)
       refine aU rfl ?_;have n7:=jF i;exact xE (S _ _ ⟨(),b9,n7,rfl,q.t b,g.f5.f5.f5.f5.f5.f5,E.mono b,F.mono b,G.mono b,f.mono b⟩)
      intro A i;refine aM ?_;have n7:=jF i;exact xE (S _ _ ⟨(),b0,n7,rfl,q,g.f5.f5.f5.f5.f5.f5,E,F,G,f⟩)
     refine bK func149 rfl ntmps149 ?_;refine aB 1 [] (aG ?_);refine aB 3 [(7,vI (p1.length:Int)),(8,vI 0)] (bJ ?_);have⟨d9,i,j5⟩:=aW i;refine cZ (.exit 0) (fun L' w'=>∃(o6:Unit),∃S,(.inl o6)=d9/\L'=[]/\m.le S/\St S (kB bp0 #[vS Y o4.1 c8,vI o4.2.1,vS Z o4.2.2.1 c9,vS l o4.2.2.2.1 n] 84::kB M #[vI ((cH a y1.2.2.1).getD 0)] 3::kB H (Va o4.2.2.2.2) 109::kB V #[vI 0,vT eB,va,v6] 43::cQ (some B) p o::kR l o4.2.2.2.1 n 61 5::O) w'/\RepS C3 S a4 c4 p1/\RepS C5 S Y c8 o4.1/\RepS aF S Z c9 o4.2.2.1/\RepS C2 S l n o4.2.2.2.1/\MapQ (fun s:BA=>Value.string s) (aT .i64) false S (some B) p o a) ?_ ?_
     .rintro _ b ⟨o6,S,rfl,rfl,q,g,D,E,F,G,f⟩;have i:=j5;refine dT (aE (aB 1 [(4,vI (-1))] (aK ?_)));cases i;exact aN [4] [vI (-1)] ⟨_,rfl,⟨S,rfl,q,g.f5.f5.f5.f5.f5.f5,D,E,F,G,f⟩⟩
     intro e2;refine dQ _ kr (dP (fun k1 L' w'=>∃(s1:Int),∃b8,aS (xY N p1 a y1 o4) k1 s1=some d9/\L'=[(0,vS a4 p1 c4),(1,.func (.func 126) #[] #[vP M 0,vP H 0]),(7,vI (p1.length:Int)),(8,vI s1)]/\m.le b8/\St b8 (kB bp0 #[vS Y o4.1 c8,vI o4.2.1,vS Z o4.2.2.1 c9,vS l o4.2.2.2.1 n] 84::kB M #[vI ((cH a y1.2.2.1).getD 0)] 3::kB H (Va o4.2.2.2.2) 109::kB V #[vI 0,vT eB,va,v6] 43::cQ (some B) p o::kR l o4.2.2.2.1 n 61 5::O) w'/\RepS C3 b8 a4 c4 p1/\RepS C5 b8 Y c8 o4.1/\RepS aF b8 Z c9 o4.2.2.1/\RepS C2 b8 l n o4.2.2.2.1/\MapQ (fun s:BA=>Value.string s) (aT .i64) false b8 (some B) p o a) N ⟨0,m9,i,rfl,q,g.f5.f5.f5.f5.f5.f5,D,E,F,G,f⟩ ?_);rintro k1 _ g0 ⟨s1,b8,hL,rfl,q,g,D,E,F,G,f⟩;rcases k1 with _|k1
     .exact dU hL
     obtain⟨f9,i,e6,d8⟩:=dV hL;clear hL;unfold xY at i;refine aB 1 [(9,vB (decide (s1<(p1.length:Int))))] (aG ?_);refine aH i ?_ ?_
     .intro A i;refine aM (aE (aG (bJ (aB 2 [(5,vI s1)] (aD (aA 3 [(11,.func (.func 126) #[] #[vP M 0,vP H 0]),(12,vS a4 p1 c4),(13,vI s1)] (eU 14 D i ?_)))))));rintro x1 i b5 f1 e7 ⟨_,_,rfl,rfl,⟨_,_,rfl,rfl,⟨_,_,rfl,⟨b9,d5,rfl,e0⟩,⟨d4,d6,rfl,e1⟩⟩⟩⟩ d7;refine iD 15 43 14 f1 (.agg (V6 x1 b9 d5 d4 d6)) g d7 (aQ rfl (cS 16 126 #[.agg (V6 x1 b9 d5 d4 d6),vP M 0,vP H 0] kr rfl (bK func126 rfl ntmps126 (aD (mB 3 43 (.agg (V6 x1 b9 d5 d4 d6)) g fun b6 e5 g1 b g e4=> ?_)))));have D:=D.mono b;have f:=f.mono b;refine aI 1 [] (aD (eP 12 i (fun o7 L' w'=>∃R,L'=[(4,vB o7)]/\m.le R/\St R (kB bp0 #[vS Y o4.1 c8,vI o4.2.1,vS Z o4.2.2.1 c9,vS l o4.2.2.2.1 n] 84::kB M #[vI ((cH a y1.2.2.1).getD 0)] 3::kB H (Va o4.2.2.2.2) 109::kB V #[vI 0,vT eB,va,v6] 43::cQ (some B) p o::kR l o4.2.2.2.1 n 61 5::O) w'/\RepS C3 R a4 c4 p1/\MRow R b5 f1 (V7 x1 b9 d5 d4 d6)/\RepS aF R b9 d5 x1.2.2.1/\RepS C2 R d4 d6 x1.2.2.2/\RepS C5 R Y c8 o4.1/\RepS aF R Z c9 o4.2.2.1/\RepS C2 R l n o4.2.2.2.1/\MapQ (fun s:BA=>Value.string s) (aT .i64) false R (some B) p o a) ?_ ?_))
      .rintro o7 i _ g2 ⟨R,rfl,q,g,D,d7,e0,e1,E,F,G,f⟩;refine aO (aK (aN [4] [vB o7] (⟨_,rfl,?_⟩)));refine aO (aH i ?_ ?_)
       .intro A i;refine aB 2 [(4,vI s1)] (aK ?_);refine bM (aV ?_);have ho:=d8 _ (sI i);subst ho;have i:=j5;refine aV (bM (aV ?_));obtain rfl:=sI i;exact aN [4] [vI s1] ⟨_,rfl,⟨R,rfl,q,g.f5.f5.f5.f5.f5.f5,D,E,F,G,f⟩⟩
       intro A i;refine aM (bO (aE (aZ (aA 2 [(8,vI (wr (s1+1)))] (aU rfl ?_)))));have hL:=e6 _ (sI i);exact xE (dN ⟨wr (s1+1),R,hL,rfl,q,g.f5.f5.f5.f5.f5.f5,D,E,F,G,f⟩)
      intro o7 i K;refine aA 1 [(5,vP b6 0)] (bX 6 (vI x1.1) g e4 (bA 7 (vI ((cH a y1.2.2.1).getD 0)) g.t.h (aA 2 [(9,vB (x1.1==((cH a y1.2.2.1).getD 0)))] (bW 9 i ?_ ?_))))
      .intro A i;refine aA 1 [(10,vP b6 1)] (bX 11 (vT x1.2.1) g (e4.drop 1) (cU 1 13 9 12 1 (vT o4.2.2.2.2.2.1) g.t.t.h (aA 3 [(4,vB (x1.2.1.toList==o4.2.2.2.2.2.1.toList))] ?_)));cases i;exact bE _ kr (K _ _ ⟨e5,rfl,q.t b,g.f5.f5.f5.f5.f5.f5,D,d7.mono b,e0.mono b,e1.mono b,E.mono b,F.mono b,G.mono b,f⟩)
      intro A i;refine aA 7 [(4,vB false)] ?_;cases i;exact bE _ kr (K _ _ ⟨e5,rfl,q.t b,g.f5.f5.f5.f5.f5.f5,D,d7.mono b,e0.mono b,e1.mono b,E.mono b,F.mono b,G.mono b,f⟩)
     intro A i;refine dO (bS ?_);have ho:=d8 _ (sI i);have g:=g.f5.f5.f5.f5.f5.f5;refine bS ?_;exact xE (e2 _ _ ⟨(),b8,ho,rfl,q,g,D,E,F,G,f⟩)
    intro F;refine aH i ?_ ?_
    .intro A i;refine aZ (aA 1 [(40,vP bp0 0)] (cI 41 i (FA (p0:=(y1.1.1,wr (y1.1.2.1+1),y1.1.2.2.1,y1.1.2.2.2)) g.f5.f1 r8 r9 U) ?_));rintro y6 i _ e1 (⟨z3,d7,rfl,rfl,G,g⟩|⟨b,rfl,S,b9,b0,d4,b8,d5,d6,rfl,E,g,d8,d9,e0⟩)
     .obtain rfl:=sI i;have i:=j3;refine bN ?_;obtain rfl:=sI i;have g:=g.t.t.t.t;exact cE (.inl ⟨z3,d7,rfl,rfl,q.t G,g⟩)
     refine cM (.agg (Va b.2)) g.f3 fun e2 g=> ?_;refine aU rfl ?_;have R:=jF i;exact xE (F _ _ ⟨(b.1.1,b.1.2.1,b.1.2.2.1,b.1.2.2.2,b.2.1,b.2.2.1,b.2.2.2.1,b.2.2.2.2),S,b9,b0,d4,b8,d5,d6,R,rfl,q.t E,g.f2.f5.f5.f3.f5.f5,D.mono E,d8,d9,e0,f.mono E⟩)
    intro A i;refine aZ (aA 1 [(42,vP bp0 0)] (cI 43 i (FD (p0:=(y1.1.1,wr (y1.1.2.1+1),y1.1.2.2.1,y1.1.2.2.2)) g.f5.f1 r8 r9 U) ?_));rintro y8 i _ e1 (⟨z4,d7,rfl,rfl,G,g⟩|⟨b,rfl,S,b9,b0,d4,b8,d5,d6,rfl,E,g,d8,d9,e0⟩)
    .obtain rfl:=sI i;have i:=j3;refine bN ?_;obtain rfl:=sI i;have g:=g.t.t.t.t;exact cE (.inl ⟨z4,d7,rfl,rfl,q.t G,g⟩)
    refine cM (.agg (Va b.2)) g.f3 fun e2 g=> ?_;refine aU rfl ?_;have R:=jF i;exact xE (F _ _ ⟨(b.1.1,b.1.2.1,b.1.2.2.1,b.1.2.2.2,b.2.1,b.2.2.1,b.2.2.2.1,b.2.2.2.2),S,b9,b0,d4,b8,d5,d6,R,rfl,q.t E,g.f2.f5.f5.f3.f5.f5,D.mono E,d8,d9,e0,f.mono E⟩)
   intro l;refine aH i ?_ ?_
   .intro A i;refine aZ (bA 29 (.agg (Va y1.2)) g.t.h (cI 30 i (mX (p0:=y1.2) g) ?_));rintro Y i _ S (⟨R,G,rfl,rfl,n,g⟩|⟨Z,rfl,F,rfl,b,g⟩)
    .obtain rfl:=sI i;have i:=j2;refine bN ?_;obtain rfl:=sI i;have g:=g.t.t.t.t.t.t;exact cE (.inl ⟨R,G,rfl,rfl,q.t n,g⟩)
    refine aU rfl ?_;have E:=jF i;exact xE (l _ _ ⟨(),F,E,rfl,q.t b,g.f5.f5.f5.f5.f5.f5,D.mono b,r8.mono b,r9.mono b,U.mono b,f.mono b⟩)
   intro A i;refine aM ?_;have E:=jF i;exact xE (l _ _ ⟨(),m3,E,rfl,q,g.f5.f5.f5.f5.f5.f5,D,r8,r9,U,f⟩)
  intro l;refine aH i ?_ ?_
  .intro A i;refine aZ (bA 24 (.agg (Va y1.2)) g.t.h (cI 25 i (mX (p0:=y1.2) g) ?_));rintro Y i _ S (⟨R,G,rfl,rfl,n,g⟩|⟨Z,rfl,F,rfl,b,g⟩)
   .obtain rfl:=sI i;have i:=j1;refine bN ?_;obtain rfl:=sI i;have g:=g.t.t.t.t.t.t;exact cE (.inl ⟨R,G,rfl,rfl,q.t n,g⟩)
   refine aU rfl ?_;have E:=jF i;exact xE (l _ _ ⟨(),F,E,rfl,q.t b,g.f5.f5.f5.f5.f5.f5,D.mono b,r8.mono b,r9.mono b,U.mono b,f.mono b⟩)
  intro A i;refine aM ?_;have E:=jF i;exact xE (l _ _ ⟨(),m2,E,rfl,q,g.f5.f5.f5.f5.f5.f5,D,r8,r9,U,f⟩)
 intro K;refine cU 1 18 3 17 0 (vI y1.2.1) g.t.h (aA 2 [(20,vB (y1.2.1 !=1))] (bW 20 i ?_ ?_))
 .intro A i;refine aA 3 [(23,vB true)] ?_;cases i;exact bE _ kr (K _ _ ⟨m1,rfl,q.t d0,g.f3.f4.f5.f5.f5.f5,D.mono d0,r8,r9,U,f⟩)
 intro A i;refine bA 21 (vI ((cH a y1.2.2.1).getD 0)) g.h ?_;refine aA 2 [(23,vB (((cH a y1.2.2.1).getD 0)==0))] ?_;cases i;exact bE _ kr (K _ _ ⟨m1,rfl,q.t d0,g.f3.f4.f5.f5.f5.f5,D.mono d0,r8,r9,U,f⟩)
def BN(N:Nat)(d:tV)(a:ET):Option ES:=
 (rS N (a.1,a.2.1,a.2.2.1,a.2.2.2.1) 1 (⟨#[105,109,112,111,114,116]⟩:BA)).bind fun c=>if c.2=true then((if((List.length a.2.2.2.2:Int)==8)=true then((oH N c.1).bind fun b=>(eT N b.2 2).bind fun e=>(match e with| .inl e=>some (.inr (.inr (.inr (.inl e))))| .inr e=>some (.inl b.1))) else(some (.inl c.1)):Option (bB⊕ES)).bind fun b=>(match b with| .inl b=>(sU N (b.1,IntKind.wrap .i64 (b.2.1+1),b.2.2.1,b.2.2.2)).bind fun b=>(match b with| .inl b=>some (.inr (.inr (.inl b)))| .inr b=>(if(b.2.2.1.toList==d.2.2.1.toList)=true then(some true) else((rQ N a.2.2.2.2 b.2.2.1).bind fun d=>some d):Tl).bind fun d=>(if d=true then((eT N b.2 10).bind fun d=>(match d with| .inl d=>some (.inr (.inr (.inr (.inl d))))| .inr d=>some (.inl ()))) else(some (.inl ())):Option (Unit⊕ES)).bind fun d=>(match d with| .inl o4=>(cF 16 a.2.2.2.2 ([b.2.2.1])).bind fun d=>(mW N b.1 (⟨#[59]⟩:BA)).bind fun b=>(match b with| .inl b=>some (.inr (.inr (.inl b)))| .inr b=>some (.inl (b.1,b.2.1,b.2.2.1,b.2.2.2,d)))| .inr z=>some z))| .inr z=>some z)) else(some (.inr (.inl (c.1.1,c.1.2.1,c.1.2.2.1,c.1.2.2.2,a.2.2.2.2))))
def tZ(N:Nat)(c:EP):Option (EP⊕EP⊕T22):=
 (oH N (c.1,c.2.1,c.2.2.1,c.2.2.2.1)).bind fun a=>if(a.2.1 !=5)=true then((CA N a.1 c.2.2.2.2).bind fun b=>(match b with| .inl b=>some (.inr (.inr (.inl b)))| .inr b=>(cF 72 c.2.2.2.2 ([b.2])).bind fun d=>some (.inl (b.1.1,b.1.2.1,b.1.2.2.1,b.1.2.2.2,d)))) else(some (.inr (.inl (a.1.1,a.1.2.1,a.1.2.2.1,a.1.2.2.2,c.2.2.2.2))))
def yD(N:Nat)(p0:bB):Option T22:=
 (vF N p0 (⟨#[112,97,99,107,97,103,101]⟩:BA)).bind fun y1=>(match y1 with| .inl a=>some (.inl a)| .inr a=>(sU N a).bind fun a=>(match a with| .inl a=>some (.inl a)| .inr c=>(mW N c.1 (⟨#[59]⟩:BA)).bind fun a=>(match a with| .inl a=>some (.inl a)| .inr a=>(aS (BN N c) N (a.1,a.2.1,a.2.2.1,a.2.2.2,([]:Te))).bind fun a=>(match a with| .inl a=>(aS (tZ N) N (a.1,a.2.1,a.2.2.1,a.2.2.2.1,([]:Tq))).bind fun b=>(match b with| .inl b=>some (.inr ((b.1,b.2.1,b.2.2.1,b.2.2.2.1),(c.2.2.1,a.2.2.2.2,b.2.2.2.2)))| .inr (z)=>some z)| .inr (z)=>some z))))
theorem WJ{p0:bB}{r:T22}(g:St m (kB bp0 (Vc p0 a1 c1 a2 c2 a3 c3) 84::kR a3 p0.2.2.2 c3 61 5::O) w)(r1:RepS C5 m a1 c1 p0.1)(r2:RepS aF m a2 c2 p0.2.2.1)(r3:RepS C2 m a3 c3 p0.2.2.2)(i:yD N p0=some r):Calls prog 40 #[vP bp0 0] w fun e w'=>(∃(z0:Tu),∃m',r= .inl z0/\e= .panicked [{v:= .iface 80 (.agg (Vd z0)),recovered:=false}]/\m.le m'/\St m' (O) w')\/(∃(R:bB×Ts),r= .inr R/\∃h8 k0 h9 k4 g1 g4 g2 g5 g3 g6 m',e= .returned (.agg (V2 R.2 g2 g5 g3 g6))/\m.le m'/\St m' (kR g2 R.2.2.1 g5 9 1::kR g3 R.2.2.2 g6 43 4::kB bp0 (Vc R.1 h8 k0 h9 k4 g1 g4) 84::kR g1 R.1.2.2.2 g4 61 5::O) w'/\RepS C5 m' h8 k0 R.1.1/\RepS aF m' h9 k4 R.1.2.2.1/\RepS C2 m' g1 g4 R.1.2.2.2/\RepS aF m' g2 g5 R.2.2.1/\RepS C3 m' g3 g6 R.2.2.2):=by
 unfold yD at i;have q:=m.le_refl;refine bK func40 rfl ntmps40 ?_;refine aD (dS 2 29 (.agg #[vT eB,v8,v8]) g fun y w1 g=>(aO (aD (aA 1 [(5,vP bp0 0)] (cI 6 i (HU (p0:=p0) g.f2.f2 r1 r2 r3) ?_)))));rintro y1 i _ w2 (⟨z1,m2,rfl,rfl,k7,g⟩|⟨y2,rfl,a4,c4,a5,c5,a6,c6,m1,rfl,k6,g,r4,r5,r6⟩)
 .refine bN ?_;obtain rfl:=sI i;have g:=g.t;exact cE (.inl ⟨z1,m2,rfl,rfl,q.t k7,g⟩)
 have q:=q.t k6;refine aO (aD (aA 1 [(7,vP bp0 0)] (cI 8 i (FD (p0:=y2) g.f1.f1 r4 r5 r6) ?_)));rintro y3 i _ w4 (⟨z2,m4,rfl,rfl,k8,g⟩|⟨s,rfl,a7,c7,a8,c8,a9,c9,m3,rfl,e8,g,r7,r8,r9⟩)
 .refine bN ?_;obtain rfl:=sI i;have g:=g.t;exact cE (.inl ⟨z2,m4,rfl,rfl,q.t k8,g⟩)
 refine aA 2 [(10,.agg #[vT s.2.2.1,va,vb])] (dS 3 29 (.agg #[vT eB,v8,v8]) g fun p w6 g=>(cM (.agg #[vT s.2.2.1,va,vb]) g fun w7 g=>(aO (aD (aA 1 [(11,vP bp0 0)] (cI 12 i (qB (p0:=s.1) g.f2.f2 r7 r8 r9) ?_))))));rintro y5 i _ w8 (⟨z3,m6,rfl,rfl,l0,g⟩|⟨y6,rfl,l3,l9,l4,n0,l5,n1,m5,rfl,k9,g,o8,o9,q0⟩)
 .refine bN ?_;obtain rfl:=sI i;have g:=g.t.t;exact cE (.inl ⟨z3,m6,rfl,rfl,(q.t e8).t l0,g⟩)
 refine aO (aG (bJ ?_));have⟨f0,i,j1⟩:=aW i;refine cZ (.exit 0) (fun L' w'=>∃(c:ET),∃b7 d4 b8 d5 Y b0 n o m7,(.inl c)=f0/\L'=[(0,vP bp0 0),(2,vP y 0),(3,vP p 0)]/\m.le m7/\St m7 (kB bp0 #[vS b7 c.1 d4,vI c.2.1,vS b8 c.2.2.1 d5,vS Y c.2.2.2.1 b0] 84::kB p #[vT s.2.2.1,vS n c.2.2.2.2 o,vb] 29::kB y #[vT eB,va,vb] 29::kR Y c.2.2.2.1 b0 61 5::kR n c.2.2.2.2 o 9 1::O) w'/\RepS C5 m7 b7 d4 c.1/\RepS aF m7 b8 d5 c.2.2.1/\RepS C2 m7 Y b0 c.2.2.2.1/\RepS aF m7 n o c.2.2.2.2) ?_ ?_
 .rintro _ s3 ⟨c,b7,d4,b8,d5,Y,b0,n,o,m7,rfl,rfl,q,g,n8,n9,o0,M⟩;have i:=j1;refine dT (aE (aG (bJ ?_)));have⟨e6,i,j5⟩:=aW i;refine cZ (.exit 2) (fun L' w'=>∃(l:EP),∃b9 d2 d0 d3 U V F G z,(.inl l)=e6/\L'=[(2,vP y 0),(3,vP p 0)]/\m.le z/\St z (kB bp0 #[vS b9 l.1 d2,vI l.2.1,vS d0 l.2.2.1 d3,vS U l.2.2.2.1 V] 84::kB p #[vT s.2.2.1,vS n c.2.2.2.2 o,vS F l.2.2.2.2 G] 29::kB y #[vT eB,va,vb] 29::kR n c.2.2.2.2 o 9 1::kR U l.2.2.2.1 V 61 5::kR F l.2.2.2.2 G 43 4::O) w'/\RepS C5 z b9 d2 l.1/\RepS aF z d0 d3 l.2.2.1/\RepS C2 z U V l.2.2.2.1/\RepS aF z n o c.2.2.2.2/\RepS C3 z F G l.2.2.2.2) ?_ ?_
  .rintro _ u ⟨l,b9,d2,d0,d3,U,V,F,G,z,rfl,rfl,q,g,a,b,f,M,k⟩;have i:=j5;refine dT (aE (aD (bA 67 (.agg #[vT s.2.2.1,vS n c.2.2.2.2 o,vS F l.2.2.2.2 G]) g.t.h (cM (.agg #[vT s.2.2.1,vS n c.2.2.2.2 o,vS F l.2.2.2.2 G]) g.f2 fun x g=>(aO (aK ?_))))));cases i;refine oP 2 29 [] [] g.h ?_;exact .inr ⟨_,rfl,b9,d2,d0,d3,U,V,n,o,F,G,z,rfl,q,g.t.f1.t.f2.f1.f3.f3,a,b,f,M,k⟩
  intro e7;have g:=(g.nilroom 43 4).front4.front5.front5.front5.front5;refine dQ _ kr (dP (fun k2 L' w'=>∃(b:EP),∃d8 e1 d9 e2 d1 d6 u x B,aS (tZ N) k2 b=some e6/\L'=[(0,vP bp0 0),(2,vP y 0),(3,vP p 0)]/\m.le B/\St B (kB bp0 #[vS d8 b.1 e1,vI b.2.1,vS d9 b.2.2.1 e2,vS d1 b.2.2.2.1 d6] 84::kB p #[vT s.2.2.1,vS n c.2.2.2.2 o,vS u b.2.2.2.2 x] 29::kB y #[vT eB,va,vb] 29::kR n c.2.2.2.2 o 9 1::kR d1 b.2.2.2.1 d6 61 5::kR u b.2.2.2.2 x 43 4::O) w'/\RepS C5 B d8 e1 b.1/\RepS aF B d9 e2 b.2.2.1/\RepS C2 B d1 d6 b.2.2.2.1/\RepS aF B n o c.2.2.2.2/\RepS C3 B u x b.2.2.2.2) N ⟨(c.1,c.2.1,c.2.2.1,c.2.2.2.1,([]:Tq)),b7,d4,b8,d5,Y,b0,none,0,m7,i,rfl,q,g,n8,n9,o0,M,(RepS.nil _ _)⟩ ?_);rintro k2 _ s4 ⟨b,d8,e1,d9,e2,d1,d6,u,x,B,hL,rfl,q,g,o6,o7,q1,M,b6⟩;rcases k2 with _|k2
  .exact dU hL
  obtain⟨s0,i,h0,e5⟩:=dV hL;clear hL;unfold tZ at i;refine aG (aX 1 [(54,vP bp0 0)] (aR 55 i (qY (p0:=(b.1,b.2.1,b.2.2.1,b.2.2.2.1)) g.f4.f1 o6 o7 q1) ?_));rintro S i _ s5 ⟨h1,h7,h2,k5,h3,l6,Z,rfl,D,g,g7,g8,g9⟩;have q:=q.t D;have b6:=b6.mono D;refine aI 2 [(57,vB (S.2.1 !=5))] (aH i ?_ ?_)
  .intro A i;refine aM (aE (bJ (eA [(10,fun w'=>Inv Z w'/\True),(9,fun w'=>Inv Z w'/\Piece.holds Z w' (kB p #[vT s.2.2.1,vS n c.2.2.2.2 o,vS u b.2.2.2.2 x] 29)/\True)] kr g fun s6 _ g=> ?_)));have a:=Z.le_refl;refine⟨⟨iA g a,⟨.inr ⟨Inv.anti g.inv a,Piece.holds_anti g.t.t.h a,trivial⟩,trivial⟩⟩,?_⟩;refine aJ 0 58 (vP p 2) (.head _) (dY 27 58 1 59 2 (vS u b.2.2.2.2 x) (.tail _ (.head _)) (fun _ h=>h.2.1) (aJ 2 60 (vP bp0 0) (.head _) (aJ 3 61 (vP p 2) (.head _) (dY 27 61 4 62 2 (vS u b.2.2.2.2 x) (.tail _ (.head _)) (fun _ h=>h.2.1) ?_))));have g:=g.f1.f1;have⟨t3,n5,i⟩:=aW i;refine bU 5 kr (zJ 63 90 #[vP bp0 0,vS u b.2.2.2.2 x] kr rfl ((WH (p0:=S.1) g g7 g8 g9 b6 n5).mono ?_));rintro _ s7 (⟨z8,n6,rfl,rfl,d7,g⟩|⟨H,rfl,h4,l7,h5,l8,h6,n4,e9,f9,f8,g0,q9,rfl,E,g,q2,q3,q4,q5,q6⟩)
   .refine .inr ⟨_,rfl,?_⟩;have a:=Mem.le_trans a d7;refine eI ?_;have ho:=e5 _ (sI i);subst ho;have i:=j5;refine bN ?_;refine eI ?_;refine bN ?_;obtain rfl:=sI i;have g:=g.t.t.t.t;exact cE (.inl ⟨z8,n6,rfl,rfl,q.t d7,g⟩)
   refine .inl ⟨_,rfl,?_⟩;have a:=Mem.le_trans a E;refine⟨⟨iA g a,⟨.inr ⟨Inv.anti g.inv a,Piece.holds_anti g.t.t.t.h a,trivial⟩,trivial⟩⟩,?_⟩;refine bU 6 kr (mG (d:=64) (t:=27) (e:=43) (len:=1) (parts:= #[(0,(.tmp 63))]) C3 (xs:=[H.2]) (V7 H.2 e9 f9 f8 g0) kr rfl (fun _=>lZ kr _) rfl rfl g ⟨(V7 H.2 e9 f9 f8 g0),_,rfl,⟨_,_,rfl,rfl,⟨_,_,rfl,rfl,⟨_,_,rfl,(lE q5),(lE q6)⟩⟩⟩,rfl⟩ fun b5 r0 s8 f g q7=> ?_);have a:=Mem.le_trans a f;refine⟨⟨iA g a,⟨.inr ⟨Inv.anti g.inv a,Piece.holds_anti g.t.t.t.t.h a,trivial⟩,trivial⟩⟩,?_⟩;refine bU 7 kr (zK 65 27 27 43 72 59 64 g.f7 (.inl kr) ((b6.mono E).mono f) q7.src i fun l2 i e0 e4 n7 s9 k g q8=> ?_);have a:=Mem.le_trans a k;refine⟨⟨iA g a,⟨.inr ⟨Inv.anti g.inv a,Piece.holds_anti g.t.t.t.t.t.h a,trivial⟩,trivial⟩⟩,?_⟩;refine aJ 8 66 (vP p 2) (.head _) (bU 9 kr (HE 27 66 65 2 (vS e0 l2 e4) #[vT s.2.2.1,vS n c.2.2.2.2 o,vS e0 l2 e4] g.f5 fun t0 g=>(⟨⟨iA g a,⟨.inl rfl,trivial⟩⟩,?_⟩)));refine dW kr ?_;have g:=g.f2.t.f2.t;refine bO ?_;have hL:=h0 _ (sI i);exact xE (dN ⟨(H.1.1,H.1.2.1,H.1.2.2.1,H.1.2.2.2,l2),h4,l7,h5,l8,h6,n4,e0,e4,n7,hL,rfl,((q.t E).t f).t k,g.f1.f3.f5.f5.f4.f5,(q2.mono f).mono k,(q3.mono f).mono k,(q4.mono f).mono k,(((M.mono D).mono E).mono f).mono k,q8⟩)
  intro A i;refine dO (bS ?_);have ho:=e5 _ (sI i);have g:=g.f5.f2.f5.f5.f5.f5;refine bS ?_;exact xE (e7 _ _ ⟨(S.1.1,S.1.2.1,S.1.2.2.1,S.1.2.2.2,b.2.2.2.2),h1,h7,h2,k5,h3,l6,u,x,Z,ho,rfl,q,g,g7,g8,g9,M.mono D,b6⟩)
 intro g7;have g:=(g.nilroom 9 1).front2.front4.front4.front4;refine dQ _ kr (dP (fun k1 L' w'=>∃(b:ET),∃e4 e6 e5 e7 b9 d6 f k m8,aS (BN N s) k1 b=some f0/\L'=[(0,vP bp0 0),(2,vP y 0),(3,vP p 0)]/\m.le m8/\St m8 (kB bp0 #[vS e4 b.1 e6,vI b.2.1,vS e5 b.2.2.1 e7,vS b9 b.2.2.2.1 d6] 84::kB p #[vT s.2.2.1,vS f b.2.2.2.2 k,vb] 29::kB y #[vT eB,va,vb] 29::kR b9 b.2.2.2.1 d6 61 5::kR f b.2.2.2.2 k 9 1::O) w'/\RepS C5 m8 e4 e6 b.1/\RepS aF m8 e5 e7 b.2.2.1/\RepS C2 m8 b9 d6 b.2.2.2.1/\RepS aF m8 f k b.2.2.2.2) N ⟨(y6.1,y6.2.1,y6.2.2.1,y6.2.2.2,([]:Te)),l3,l9,l4,n0,l5,n1,none,0,m5,i,rfl,(q.t e8).t k9,g,o8,o9,q0,(RepS.nil _ _)⟩ ?_);rintro k1 _ s6 ⟨b,e4,e6,e5,e7,b9,d6,f,k,m8,hL,rfl,q,g,q1,q2,q3,l⟩;rcases k1 with _|k1
 .exact dU hL
 obtain⟨s5,i,k5,D⟩:=dV hL;clear hL;unfold BN at i;refine aG (aX 1 [(13,vP bp0 0)] (aR 14 i (yB (p0:=(b.1,b.2.1,b.2.2.1,b.2.2.2.1)) g.f3.f1 q1 q2 q3) ?_));rintro y7 i _ s7 ⟨h0,h4,h1,h5,h2,h6,m9,rfl,e9,g,f8,f9,g0⟩;have q:=q.t e9;have l:=l.mono e9;refine aO (aH i ?_ ?_)
 .intro A i;refine aM (aE (bJ (aG (aD (cU 1 16 26 15 1 (vS f b.2.2.2.2 k) g.t.t.h (aI 2 [(18,vB ((b.2.2.2.2.length:Int)==8))] ?_))))));have⟨o6,i,j2⟩:=aW i;refine cZ .normal (fun L' w'=>∃(u:bB),∃d0 d7 d1 d8 Z b6 E,(.inl u:bB⊕ES)=o6/\L'=[(0,vP bp0 0),(2,vP y 0),(3,vP p 0)]/\m.le E/\St E (kB bp0 (Vc u d0 d7 d1 d8 Z b6) 84::kB p #[vT s.2.2.1,vS f b.2.2.2.2 k,vb] 29::kB y #[vT eB,va,vb] 29::kR f b.2.2.2.2 k 9 1::kR Z u.2.2.2 b6 61 5::O) w'/\RepS C5 E d0 d7 u.1/\RepS aF E d1 d8 u.2.2.1/\RepS C2 E Z b6 u.2.2.2/\RepS aF E f k b.2.2.2.2) ?_ ?_
  .rintro _ s8 ⟨u,d0,d7,d1,d8,Z,b6,E,rfl,rfl,q,g,q4,q5,q6,l⟩;have i:=j2;refine aE (aX 3 [(22,vP bp0 0),(24,vP bp0 1)] (bA 25 (vI u.2.1) g.h (aA 3 [(26,vI (wr (u.2.1+1))),(28,vP bp0 1)] (cX #[vS d0 u.1 d7,vI (wr (u.2.1+1)),vS d1 u.2.2.1 d8,vS Z u.2.2.2 b6] g fun s9 g=>(aO (aD (aA 1 [(29,vP bp0 0)] (cI 30 i (FD (p0:=(u.1,wr (u.2.1+1),u.2.2.1,u.2.2.2)) g.f4.f1 q4 q5 q6) ?_))))))));rintro u1 i _ t0 (⟨z5,n8,rfl,rfl,g8,g⟩|⟨a,rfl,d2,d9,d3,e0,S,U,n7,rfl,V,g,G,H,M⟩)
   .refine bN ?_;refine eI ?_;have ho:=D _ (sI i);subst ho;have i:=j1;refine bN ?_;refine eI ?_;refine bN ?_;obtain rfl:=sI i;have g:=g.t.t.t;exact cE (.inl ⟨z5,n8,rfl,rfl,q.t g8,g⟩)
   have l:=l.mono V;refine dS 4 109 (.agg (Vb 0 eB 0 0)) g fun b3 t3 g=> ?_;refine cM (.agg (Va a.2)) g fun t4 g=> ?_;refine aO (aG (aD (eP 12 i (fun o3 L' w'=>∃B,L'=[(0,vP bp0 0),(2,vP y 0),(3,vP p 0),(4,vP b3 0),(42,vB o3)]/\m.le B/\St B (kB b3 (Va a.2) 109::kB bp0 (Vc a.1 d2 d9 d3 e0 S U) 84::kB p #[vT s.2.2.1,vS f b.2.2.2.2 k,vb] 29::kB y #[vT eB,va,vb] 29::kR S a.1.2.2.2 U 61 5::kR f b.2.2.2.2 k 9 1::O) w'/\RepS C5 B d2 d9 a.1.1/\RepS aF B d3 e0 a.1.2.2.1/\RepS C2 B S U a.1.2.2.2/\RepS aF B f k b.2.2.2.2) ?_ ?_)))
   .rintro o3 i _ t5 ⟨B,rfl,q,g,G,H,M,l⟩;refine aO ?_;have⟨o7,i,j3⟩:=aW i;refine cZ .normal (fun L' w'=>∃(o4:Unit),∃F,(.inl o4:Unit⊕ES)=o7/\L'=[(0,vP bp0 0),(2,vP y 0),(3,vP p 0),(4,vP b3 0)]/\m.le F/\St F (kB b3 (Va a.2) 109::kB bp0 (Vc a.1 d2 d9 d3 e0 S U) 84::kB p #[vT s.2.2.1,vS f b.2.2.2.2 k,vb] 29::kB y #[vT eB,va,vb] 29::kR S a.1.2.2.2 U 61 5::kR f b.2.2.2.2 k 9 1::O) w'/\RepS C5 F d2 d9 a.1.1/\RepS aF F d3 e0 a.1.2.2.1/\RepS C2 F S U a.1.2.2.2/\RepS aF F f k b.2.2.2.2) ?_ ?_
    .rintro _ t6 ⟨o4,F,rfl,rfl,q,g,G,H,M,l⟩;have i:=j3;refine aE (aD (cU 1 46 26 45 1 (vS f b.2.2.2.2 k) g.t.t.h (cU 1 48 9 47 1 (vT a.2.2.1) g.h (eD 49 9 1 aF [a.2.2.1] g fun b4 s3 t7 x g q7=>(iG 50 26 26 9 16 46 49 g.f6 (.inl kr) (l.mono x) q7.src i fun l1 i h3 h7 s4 t8 z g q8=>(aA 1 [(51,vP p 1)] (cX #[vT s.2.2.1,vS h3 l1 h7,vb] g.f4 fun t9 g=>(aU rfl ?_))))))));have g:=g.f2.t;refine aE (aZ (aA 1 [(52,vP bp0 0)] (cI 53 i (qB (p0:=a.1) g.f5.f4 ((G.mono x).mono z) ((H.mono x).mono z) ((M.mono x).mono z)) ?_)));rintro u2 i _ u0 (⟨z7,o0,rfl,rfl,g9,g⟩|⟨e2,rfl,l6,n4,l7,n5,l8,n6,n9,rfl,e1,g,q9,r0,s0⟩)
     .refine eI ?_;have ho:=D _ (sI i);subst ho;have i:=j1;refine bN ?_;refine eI ?_;refine bN ?_;obtain rfl:=sI i;have g:=g.t.t.t.t;exact cE (.inl ⟨z7,o0,rfl,rfl,((q.t x).t z).t g9,g⟩)
     refine aU rfl (bO ?_);have hL:=k5 _ (sI i);exact xE (dN ⟨(e2.1,e2.2.1,e2.2.2.1,e2.2.2.2,l1),l6,n4,l7,n5,l8,n6,h3,h7,n9,hL,rfl,((q.t x).t z).t e1,g.f4.t.f3.f2.f4.f4.f4,q9,r0,s0,q8.mono e1⟩)
    intro e1;refine aH i ?_ ?_
    .intro A i;refine aZ (bA 43 (.agg (Va a.2)) g.h (cI 44 i (mX (p0:=a.2) g) ?_));rintro h7 i _ h3 (⟨z6,g9,rfl,rfl,z,g⟩|⟨l6,rfl,e2,rfl,x,g⟩)
     .obtain rfl:=sI i;have i:=j3;refine bN ?_;refine eI ?_;have ho:=D _ (sI i);subst ho;have i:=j1;refine bN ?_;refine eI ?_;refine bN ?_;obtain rfl:=sI i;have g:=g.t.t.t.t.t.t;exact cE (.inl ⟨z6,g9,rfl,rfl,q.t z,g⟩)
     refine aU rfl ?_;have n3:=jF i;exact xE (e1 _ _ ⟨(),e2,n3,rfl,q.t x,g.f5.f5.f5.f5.f5.f5,G.mono x,H.mono x,M.mono x,l.mono x⟩)
    intro A i;refine aM ?_;have n3:=jF i;exact xE (e1 _ _ ⟨(),B,n3,rfl,q,g.f5.f5.f5.f5.f5.f5,G,H,M,l⟩)
   intro o3 i K;refine cU 1 32 9 31 1 (vT a.2.2.1) g.h (cU 1 34 9 33 0 (vT s.2.2.1) g.t.t.t.h (aA 2 [(36,vB (a.2.2.1.toList==s.2.2.1.toList))] (bW 36 i ?_ ?_)))
   .intro A i;refine aA 6 [(42,vB true)] ?_;cases i;exact bE _ kr (K _ _ ⟨n7,rfl,q.t V,g.f5.f3.f5.f5.f5.f5,G,H,M,l⟩)
   intro A i;refine cU 1 38 26 37 1 (vS f b.2.2.2.2 k) g.t.t.t.h (cU 1 40 9 39 1 (vT a.2.2.1) g.h (aR 41 i (EV g l) ?_));rintro F i _ e1 ⟨z,rfl,x,g⟩;refine aA 1 [(42,vB F)] ?_;cases i;exact bE _ kr (K _ _ ⟨z,rfl,(q.t V).t x,g.f5.f3.f5.f5.f5.f5,G.mono x,H.mono x,M.mono x,l.mono x⟩)
  intro B;refine aH i ?_ ?_
  .intro A i;refine aZ (aA 1 [(19,vP bp0 0)] (aR 20 i (qY (p0:=y7.1) g.f1.f1 f8 f9 g0) ?_));rintro y8 i _ g8 ⟨G,S,H,U,M,V,e2,rfl,x,g,d9,e0,e1⟩;refine cI 21 i (mX (p0:=y8.2) g) ?_;rintro y9 i _ g9 (⟨z4,d3,rfl,rfl,z,g⟩|⟨h3,rfl,d2,rfl,a,g⟩)
   .obtain rfl:=sI i;have i:=j2;refine bN ?_;refine eI ?_;have ho:=D _ (sI i);subst ho;have i:=j1;refine bN ?_;refine eI ?_;refine bN ?_;obtain rfl:=sI i;have g:=g.t.t.t.t.t;exact cE (.inl ⟨z4,d3,rfl,rfl,(q.t x).t z,g⟩)
   refine aU rfl ?_;have F:=jF i;exact xE (B _ _ ⟨y8.1,G,S,H,U,M,V,d2,F,rfl,(q.t x).t a,g.f1.f4.f4.f4.f4,d9.mono a,e0.mono a,e1.mono a,(l.mono x).mono a⟩)
  intro A i;refine aM ?_;have F:=jF i;exact xE (B _ _ ⟨y7.1,h0,h4,h1,h5,h2,h6,m9,F,rfl,q,g.f1.f4.f4.f4.f4,f8,f9,g0,l⟩)
 intro A i;refine dO (bS ?_);have ho:=D _ (sI i);have g:=g.f4.f2.f4.f4.f4;refine bS ?_;exact xE (g7 _ _ ⟨(y7.1.1,y7.1.2.1,y7.1.2.2.1,y7.1.2.2.2,b.2.2.2.2),h0,h4,h1,h5,h2,h6,f,k,m9,ho,rfl,q,g,f8,f9,g0,l⟩)
def rV(N:Nat)(p0:BA):Option (Ts×Tu):=
 (CK N p0).bind fun y1=>if(y1.2.2 !=0)=true then(some (((⟨#[]⟩:BA),([]:Te),([]:Tq)),y1.2.1,y1.2.2)) else((yD N (y1.1,0,([]:Te),([]:Ti))).bind fun a=>(match a with| .inl a=>some (((⟨#[]⟩:BA),([]:Te),([]:Tq)),a.1,a.2)| .inr a=>some (a.2,0,0)))
theorem FK{p0:BA}{r:Ts×Tu}(g:St m (O) w)(i:rV N p0=some r):Calls prog 9 #[vT p0] w fun e w'=>∃n s p u m',e= .returned (.tuple #[.agg (V2 r.1 n s p u),vI r.2.1,vI r.2.2])/\m.le m'/\St m' (kR n r.1.2.1 s 9 1::kR p r.1.2.2 u 43 4::O) w'/\P2 m' n s p u r.1.2:=by
 unfold rV at i;have q:=m.le_refl;refine qCx func9 rfl ntmps9 [(0,vT p0)] kr rfl ?_;refine HF ?_;refine aZ (dS 2 29 (.agg #[vT eB,v8,v8]) g fun l w1 g=>(dS 3 3 (vI 0) g fun c w2 g=>(dS 4 31 (vI 0) g fun f w3 g=>(aU rfl (GN (HF (aZ (aA 1 [(8,vT p0)] (aR 9 i (XC g) ?_)))))))));rintro y1 i _ w4 ⟨E,G,k,rfl,H,g,V⟩;have q:=q.t H;refine aA 5 [(11,vI y1.2.1),(12,vI y1.2.2),(5,vS E y1.1 G)] (cM (vI y1.2.1) g.f2 fun w5 g=>(cM (vI y1.2.2) g.f2 fun w6 g=>(aU rfl (GN (HF (aD (bA 13 (vI y1.2.2) g.h (aI 1 [(14,vB (y1.2.2 !=0))] (aH i ?_ ?_)))))))))
 .intro A i;refine aG (eA [(6,fun w'=>Inv k w'/\True),(5,fun w'=>Inv k w'/\Piece.holds k w' (kB f #[vI y1.2.2] 31)/\True),(4,fun w'=>Inv k w'/\Piece.holds k w' (kB c #[vI y1.2.1] 3)/\True)] kr g fun x _ g=> ?_);have a:=k.le_refl;refine⟨⟨iA g a,⟨.inr ⟨Inv.anti g.inv a,Piece.holds_anti g.h a,trivial⟩,⟨.inr ⟨Inv.anti g.inv a,Piece.holds_anti g.t.h a,trivial⟩,trivial⟩⟩⟩,?_⟩;refine aJ 0 15 (.agg #[vT eB,va,vb]) (.head _) (dY 3 3 1 16 0 (vI y1.2.1) (.tail _ (.tail _ (.head _))) (fun _ h=>h.2.1) (dY 31 4 2 17 0 (vI y1.2.2) (.tail _ (.head _)) (fun _ h=>h.2.1) (bU 3 kr (wY 29 2 15 (.agg #[vT eB,va,vb]) g.f3 fun y g=>(⟨⟨iA g a,⟨.inr ⟨Inv.anti g.inv a,Piece.holds_anti g.t.h a,trivial⟩,⟨.inr ⟨Inv.anti g.inv a,Piece.holds_anti g.t.t.h a,trivial⟩,trivial⟩⟩⟩,?_⟩)))));refine bU 4 kr (wY 3 3 16 (vI y1.2.1) g.f2 fun z g=>(⟨⟨iA g a,⟨.inr ⟨Inv.anti g.inv a,Piece.holds_anti g.t.t.h a,trivial⟩,⟨.inl rfl,trivial⟩⟩⟩,?_⟩));refine bU 5 kr (wY 31 4 17 (vI y1.2.2) g.f2 fun b g=>(⟨⟨iA g a,⟨.inl rfl,⟨.inl rfl,trivial⟩⟩⟩,?_⟩));refine dW kr ?_;have g:=g.f3.t;refine aE (aK (aV (qBf ?_)));cases i
  refine qId [.cell 2 29,.cell 3 3,.cell 4 31] [.agg #[vT eB,va,vb],vI y1.2.1,vI y1.2.2] rfl (ResAll.cons (ResAt.blk (v:= .agg #[vT eB,va,vb]) (o:=0) kr g.t.t.h kr) (ResAll.cons (ResAt.blk (v:=vI y1.2.1) (o:=0) kr g.t.h kr) (ResAll.cons (ResAt.blk (v:=vI y1.2.2) (o:=0) kr g.h kr) ResAll.nil))) ?_;have g:=(g.nilroom 9 1).nilroom 43 4;exact⟨none,0,none,0,k,rfl,q,g.f2.t.f2.t.f2.t.f1,(RepS.nil _ _),(RepS.nil _ _)⟩
 intro A i;refine aM (GN (HF (aZ (aA 1 [(18,.func (.func 39) #[] #[vP l 0,vP c 0,vP f 0])] (qDf ({target:= .fn (.func 39) #[vP l 0,vP c 0,vP f 0],args:= #[]}) kr kr (aU rfl (GN (aX 2 [(20,.agg #[vS E y1.1 G,vI 0,va,v6])] (aQ rfl (zM 21 84 20 (.agg #[vS E y1.1 G,vI 0,va,v6]) g fun S a7 g=>(aI 1 [(6,vP S 0)] (aD (aA 1 [(22,vP S 0)] ?_)))))))))))));have g:=(g.nilroom 61 5).front1;refine cI 23 i (WJ (p0:=(y1.1,0,([]:Te),([]:Ti))) g V (RepS.nil _ _) (RepS.nil _ _)) ?_;rintro y2 i _ a8 (⟨b,D,rfl,rfl,M,g⟩|⟨R,rfl,a2,c2,a3,c3,a4,c4,x,z,y,B,U,rfl,K,g,r2,r3,r4,Y,Z⟩)
 .refine bN ?_;refine qHq [.cell 2 29,.cell 3 3,.cell 4 31] rfl (QE func39 kr) ?_;refine OK (.panicking [{v:= .iface 80 (.agg (Vd b)),recovered:=false}]) func39 rfl ntmps39 [(0,vP l 0),(1,vP c 0),(2,vP f 0)] kr rfl (d:=6) kr kr [(3,.iface 80 (.agg (Vd b))),(6,.iface 80 (.agg (Vd b))),(0,vP l 0),(1,vP c 0),(2,vP f 0)] (.iface 80 (.agg (Vd b))) (.panicking [{v:= .iface 80 (.agg (Vd b)),recovered:=true}]) rfl kr ?_;refine aX 2 [(8,vB true)] ?_;refine aU rfl ?_;have g:=g.f2.t;refine aE (qZ true kr ?_ (fun h=>Bool.noConfusion h));intro _;refine aX 5 [(12,.agg (Vd b)),(13,vB true)] ?_;refine dS 4 80 (.agg #[vI 0,vI 0]) g fun F a9 g=> ?_;refine cM (.agg (Vd b)) g fun b0 g=> ?_;refine aI 1 [(5,vB true)] (aG (aB 2 [(15,vB false)] (qZ false kr (fun h=>Bool.noConfusion h) ?_)));intro _;refine aM (aE (eA [(8,fun w'=>Inv D w'/\Piece.holds D w' (kB F (Vd b) 80)/\True)] kr g fun b6 _ g=> ?_));have a:=D.le_refl;refine⟨⟨.inr ⟨Inv.anti g.inv a,Piece.holds_anti g.h a,trivial⟩,trivial⟩,?_⟩
  refine aJ 0 17 (.agg #[vT eB,va,vb]) (.head _) (aJ 1 18 (vP F 0) (.head _) (dY 3 18 2 19 0 (vI b.1) (.head _) (fun _ h=>h.2.1) (aJ 3 20 (vP F 1) (.head _) (dY 31 20 4 21 1 (vI b.2) (.head _) (fun _ h=>h.2.1) (bU 5 kr (wY 29 0 17 (.agg #[vT eB,va,vb]) g.f3 fun b7 g=>(⟨⟨.inr ⟨Inv.anti g.inv a,Piece.holds_anti g.t.h a,trivial⟩,trivial⟩,?_⟩)))))));refine bU 6 kr (wY 3 1 19 (vI b.1) g.f3 fun b8 g=>(⟨⟨.inr ⟨Inv.anti g.inv a,Piece.holds_anti g.t.t.h a,trivial⟩,trivial⟩,?_⟩));refine bU 7 kr (wY 31 2 21 (vI b.2) g.f3 fun b9 g=>(⟨⟨.inr ⟨Inv.anti g.inv a,Piece.holds_anti g.t.t.t.h a,trivial⟩,trivial⟩,?_⟩));refine dW kr ?_;obtain rfl:=sI i;refine pE [] [] rfl ResAll.nil (⟨_,rfl,?_⟩);refine⟨[.agg #[vT eB,va,vb],vI b.1,vI b.2],(ResAll.cons (ResAt.blk (v:= .agg #[vT eB,va,vb]) (o:=0) kr g.t.t.h kr) (ResAll.cons (ResAt.blk (v:=vI b.1) (o:=0) kr g.t.h kr) (ResAll.cons (ResAt.blk (v:=vI b.2) (o:=0) kr g.h kr) ResAll.nil))),?_⟩;have g:=(g.nilroom 9 1).nilroom 43 4;exact⟨none,0,none,0,D,rfl,q.t M,g.f2.t.f2.t.f2.t.f2.t.f1,(RepS.nil _ _),(RepS.nil _ _)⟩
 refine cM (.agg (V2 R.2 x z y B)) g.f7 fun a g=> ?_;refine cM (vI 0) g.f6 fun F g=> ?_;refine cM (vI 0) g.f6 fun a9 g=> ?_;refine aU rfl ?_;have g:=g.f7.t;refine aE (aK (qIa [.cell 2 29,.cell 3 3,.cell 4 31] rfl (QE func39 kr) (OK .returning func39 rfl ntmps39 [(0,vP l 0),(1,vP c 0),(2,vP f 0)] kr rfl (d:=6) kr kr [(3,.nilIface),(6,.nilIface),(0,vP l 0),(1,vP c 0),(2,vP f 0)] (.nilIface) .returning rfl kr (aB 2 [(8,vB false)] (qZ false kr (fun h=>Bool.noConfusion h) ?_)))));intro _;refine aM ?_;cases i;refine pE [] [] rfl ResAll.nil (⟨_,rfl,?_⟩);refine⟨[.agg (V2 R.2 x z y B),vI 0,vI 0],(ResAll.cons (ResAt.blk (v:= .agg (V2 R.2 x z y B)) (o:=0) kr g.t.t.h kr) (ResAll.cons (ResAt.blk (v:=vI 0) (o:=0) kr g.t.h kr) (ResAll.cons (ResAt.blk (v:=vI 0) (o:=0) kr g.h kr) ResAll.nil))),?_⟩;exact⟨x,z,y,B,U,rfl,q.t K,g.t.t.t.f2.t.f2.t.f1.f1,Y,Z⟩
def AQ(N:Nat)(p0:Te)(p1:Te)(a:Int):qU:=
 if(decide (a<(List.length p0:Int)))=true then((idx p0 a).bind fun x1=>(idx p1 a).bind fun b=>if(!(x1.toList==b.toList))=true then(some (.inr (.inr (false)))) else(some (.inl (IntKind.wrap .i64 (a+1))))) else(some (.inr (.inl ())))
def xS(N:Nat)(p0:Te)(p1:Te):Tl:=
 if((List.length p0:Int) !=(List.length p1:Int))=true then(some false) else((aS (AQ N p0 p1) N 0).bind fun a=>(match a with| .inl a=>some true| .inr (z)=>some z))
theorem ME{p0:Te}{p1:Te}{r:Bool}(g:St m (O) w)(n:RepS aF m a1 c1 p0)(o:RepS aF m a2 c2 p1)(i:xS N p0 p1=some r):Calls prog 41 #[vS a1 p0 c1,vS a2 p1 c2] w fun e w'=>∃m',e= .returned (vB r)/\m.le m'/\St m' (O) w':=by
 unfold xS at i;have q:=m.le_refl;refine bK func41 rfl ntmps41 ?_;refine aB 1 [] (aG ?_);refine aB 5 [(10,vB ((p0.length:Int) !=(p1.length:Int)))] (aH i ?_ ?_)
 .intro A i;refine aB 1 [(4,vB false)] (aK ?_);refine aV ?_;cases i;exact aN [4] [vB false] ⟨m,rfl,q,g⟩
 intro A i;refine aM (aE (aG (aB 3 [(12,vI (p0.length:Int)),(13,vI 0)] (bJ ?_))));have⟨d,i,z⟩:=aW i;refine cZ (.exit 0) (fun L' w'=>∃(B:Unit),∃l,(.inl B)=d/\L'=[]/\m.le l/\St l (O) w') ?_ ?_
 .rintro _ a ⟨B,l,rfl,rfl,q,g⟩;have i:=z;refine dT (aE (aB 1 [(4,vB true)] (aK ?_)));cases i;exact aN [4] [vB true] ⟨l,rfl,q,g⟩
 intro f;refine dQ _ kr (dP (fun k L' w'=>∃(a:Int),∃b,aS (AQ N p0 p1) k a=some d/\L'=[(0,vS a1 p0 c1),(1,vS a2 p1 c2),(12,vI (p0.length:Int)),(13,vI a)]/\m.le b/\St b (O) w'/\RepS aF b a1 c1 p0/\RepS aF b a2 c2 p1) N ⟨0,m,i,rfl,q,g,n,o⟩ ?_);rintro k _ V ⟨a,b,hL,rfl,q,g,n,o⟩;rcases k with _|k
 .exact dU hL
 obtain⟨R,i,p,c⟩:=dV hL;clear hL;unfold AQ at i;refine aB 1 [(14,vB (decide (a<(p0.length:Int))))] (aG ?_);refine aH i ?_ ?_
 .intro A i;refine aM (aE (aG (bJ (aB 2 [(5,vI a)] (aG (eA [(9,fun w'=>Inv b w'/\True)] kr g fun Y _ g=> ?_))))));have s:=b.le_refl;refine tA g s ?_;refine aJ 0 16 (vS a1 p0 c1) (.head _) (aJ 1 17 (vI a) (.head _) ?_);have⟨x1,E,i⟩:=aW i;refine pA (t:=26) (e:=9) (x:=(.tmp 16)) (y:=(.tmp 17)) 2 18 aF kr rfl kr (.head _) (bZ (eG (bZ (bZ (eG (bZ lC)))))) (ev (vS a1 p0 c1)) (ev (vI a)) kr n E ?_;rintro S G K rfl u;refine iW 9 18 3 19 G (vT x1) (.head _) (fun _ h=>h.1) u (aJ 4 20 (vS a2 p1 c2) (.head _) (aJ 5 21 (vI a) (.head _) ?_));have⟨D,F,i⟩:=aW i;refine pA (t:=26) (e:=9) (x:=(.tmp 20)) (y:=(.tmp 21)) 6 22 aF kr rfl kr (.head _) (bZ (eG (bZ (bZ (eG (bZ lC)))))) (ev (vS a2 p1 c2)) (ev (vI a)) kr o F ?_;rintro U H M rfl v;refine iW 9 22 7 23 H (vT D) (.head _) (fun _ h=>h.1) v (aJ 8 24 (vB (!(x1.toList==D.toList))) (.head _) (dW kr (aE (aH i ?_ ?_))))
  .intro A i;refine aB 1 [(4,vB false)] (aK ?_);refine bM (aV ?_);have ho:=c _ (sI i);subst ho;have i:=z;refine aV (bM (aV ?_));cases i;exact aN [4] [vB false] ⟨b,rfl,q,g⟩
  intro A i;refine aM (bO (aE (aZ (aA 2 [(13,vI (wr (a+1)))] (aU rfl ?_)))));have hL:=p _ (sI i);exact xE (dN ⟨wr (a+1),b,hL,rfl,q,g,n,o⟩)
 intro A i;refine dO (bS ?_);have ho:=c _ (sI i);refine bS ?_;exact xE (f _ _ ⟨(),b,ho,rfl,q,g⟩)
def AU(N:Nat)(p0:Th)(p1:Th)(a:Int):qU:=
 if(decide (a<(List.length p0.2.2.2.2:Int)))=true then((idx p0.2.2.2.2 a).bind fun x1=>(idx p1.2.2.2.2 a).bind fun b=>if(x1 !=b)=true then(some (.inr (.inr (false)))) else(some (.inl (IntKind.wrap .i64 (a+1))))) else(some (.inr (.inl ())))
def xU(N:Nat)(p0:Th)(p1:Th):Tl:=
 (if(p0.1 !=p1.1)=true then(some true) else(if(p0.2.1 !=p1.2.1)=true then(some true) else(if(p0.2.2.1 !=p1.2.2.1)=true then(some true) else(if(!(p0.2.2.2.1.toList==p1.2.2.2.1.toList))=true then(some true) else(some ((List.length p0.2.2.2.2:Int) !=(List.length p1.2.2.2.2:Int)))))):Tl).bind fun a=>if a=true then(some false) else((aS (AU N p0 p1) N 0).bind fun a=>(match a with| .inl a=>some true| .inr (z)=>some z))
theorem VW{p0:Th}{p1:Th}{r:Bool}(g:St m (O) w)(d:RepS (aT .i64) m a1 c1 p0.2.2.2.2)(f:RepS (aT .i64) m a2 c2 p1.2.2.2.2)(i:xU N p0 p1=some r):Calls prog 75 #[.agg (V3 p0 a1 c1),.agg (V3 p1 a2 c2)] w fun e w'=>∃m',e= .returned (vB r)/\m.le m'/\St m' (O) w':=by
 unfold xU at i;have q:=m.le_refl;refine bK func75 rfl ntmps75 ?_;refine aD (mB 2 61 (.agg (V3 p0 a1 c1)) g fun k m1 w1 s g a=>(mB 3 61 (.agg (V3 p1 a2 c2)) g fun n v w2 o g b=> ?_));have q:=(q.t s).t o;have d:=(d.mono s).mono o;have f:=(f.mono s).mono o;have a:=a.mono o;refine aI 1 [] (aG (aD (eP 35 i (fun H L' w'=>∃p,L'=[(2,vP k 0),(3,vP n 0),(40,vB H)]/\m.le p/\St p (O) w'/\MRow p k 0 (V4 p0 a1 c1)/\RepS (aT .i64) p a1 c1 p0.2.2.2.2/\MRow p n 0 (V4 p1 a2 c2)/\RepS (aT .i64) p a2 c2 p1.2.2.2.2) ?_ ?_)))
 .rintro H i _ w3 ⟨p,rfl,q,g,a,d,b,f⟩;refine aO (aH i ?_ ?_)
  .intro A i;refine aB 1 [(4,vB false)] (aK ?_);refine aV ?_;cases i;exact aN [4] [vB false] ⟨p,rfl,q,g⟩
  intro A i;refine aM (aE (aG (aX 1 [(41,vP k 4)] (bX 42 (vS a1 p0.2.2.2.2 c1) g (a.drop 4) (aI 2 [(43,vI (p0.2.2.2.2.length:Int)),(44,vI 0)] (bJ ?_))))));have⟨z,i,S⟩:=aW i;refine cZ (.exit 0) (fun L' w'=>∃(U:Unit),∃E,(.inl U)=z/\L'=[]/\m.le E/\St E (O) w') ?_ ?_
  .rintro _ c ⟨U,E,rfl,rfl,q,g⟩;have i:=S;refine dT (aE (aB 1 [(4,vB true)] (aK ?_)));cases i;exact aN [4] [vB true] ⟨E,rfl,q,g⟩
  intro B;refine dQ _ kr (dP (fun D L' w'=>∃(l:Int),∃c,aS (AU N p0 p1) D l=some z/\L'=[(2,vP k 0),(3,vP n 0),(43,vI (p0.2.2.2.2.length:Int)),(44,vI l)]/\m.le c/\St c (O) w'/\MRow c k 0 (V4 p0 a1 c1)/\RepS (aT .i64) c a1 c1 p0.2.2.2.2/\MRow c n 0 (V4 p1 a2 c2)/\RepS (aT .i64) c a2 c2 p1.2.2.2.2) N ⟨0,p,i,rfl,q,g,a,d,b,f⟩ ?_);rintro D _ w5 ⟨l,c,hL,rfl,q,g,a,d,b,f⟩;rcases D with _|D
  .exact dU hL
  obtain⟨a7,i,F,u⟩:=dV hL;clear hL;unfold AU at i;refine aB 1 [(45,vB (decide (l<(p0.2.2.2.2.length:Int))))] (aG ?_);refine aH i ?_ ?_
  .intro A i;refine aM (aE (aG (bJ (aB 2 [(5,vI l)] (aG (eA [(11,fun w'=>Inv c w'/\True)] kr g fun w6 _ g=> ?_))))));have G:=c.le_refl;refine tA g G ?_;refine aJ 0 47 (vP k 4) (.head _) (iW 22 47 1 48 4 (vS a1 p0.2.2.2.2 c1) (.head _) (fun _ h=>h.1) (a.drop 4) (aJ 2 49 (vI l) (.head _) ?_));have⟨x1,Y,i⟩:=aW i;refine pA (t:=22) (e:=3) (x:=(.tmp 48)) (y:=(.tmp 49)) 3 50 (aT .i64) kr rfl kr (.head _) (bZ (eG (bZ (bZ (eG (bZ lC)))))) (ev (vS a1 p0.2.2.2.2 c1)) (ev (vI l)) kr d Y ?_;rintro b3 f1 a5 rfl M;refine iW 3 50 4 51 f1 (vI x1) (.head _) (fun _ h=>h.1) M (aJ 5 52 (vP n 4) (.head _) (iW 22 52 6 53 4 (vS a2 p1.2.2.2.2 c2) (.head _) (fun _ h=>h.1) (b.drop 4) (aJ 7 54 (vI l) (.head _) ?_)));have⟨V,Z,i⟩:=aW i;refine pA (t:=22) (e:=3) (x:=(.tmp 53)) (y:=(.tmp 54)) 8 55 (aT .i64) kr rfl kr (.head _) (bZ (eG (bZ (bZ (eG (bZ lC)))))) (ev (vS a2 p1.2.2.2.2 c2)) (ev (vI l)) kr f Z ?_;rintro b4 f2 a6 rfl R;refine iW 3 55 9 56 f2 (vI V) (.head _) (fun _ h=>h.1) R (aJ 10 57 (vB (x1 !=V)) (.head _) (dW kr (aE (aH i ?_ ?_))))
   .intro A i;refine aB 1 [(4,vB false)] (aK ?_);refine bM (aV ?_);have ho:=u _ (sI i);subst ho;have i:=S;refine aV (bM (aV ?_));cases i;exact aN [4] [vB false] ⟨c,rfl,q,g⟩
   intro A i;refine aM (bO (aE (aZ (aA 2 [(44,vI (wr (l+1)))] (aU rfl ?_)))));have hL:=F _ (sI i);exact xE (dN ⟨wr (l+1),c,hL,rfl,q,g,a,d,b,f⟩)
  intro A i;refine dO (bS ?_);have ho:=u _ (sI i);refine bS ?_;exact xE (B _ _ ⟨(),c,ho,rfl,q,g⟩)
 intro H i K;refine aA 1 [(6,vP k 0)] (bX 7 (vI p0.1) g a (aA 1 [(8,vP n 0)] (bX 9 (vI p1.1) g b (aA 2 [(11,vB (p0.1 !=p1.1))] (bW 11 i ?_ ?_)))))
 .intro A i;refine aA 29 [(40,vB true)] ?_;cases i;exact bE _ kr (K _ _ ⟨v,rfl,q,g,a,d,b,f⟩)
 intro A i;refine aA 1 [(12,vP k 1)] (bX 13 (vI p0.2.1) g (a.drop 1) (aA 1 [(14,vP n 1)] (bX 15 (vI p1.2.1) g (b.drop 1) (aA 3 [(18,vB (p0.2.1 !=p1.2.1))] (bW 18 i ?_ ?_)))))
 .intro A i;refine aA 22 [(40,vB true)] ?_;cases i;exact bE _ kr (K _ _ ⟨v,rfl,q,g,a,d,b,f⟩)
 intro A i;refine aA 1 [(19,vP k 2)] (bX 20 (vI p0.2.2.1) g (a.drop 2) (aA 1 [(21,vP n 2)] (bX 22 (vI p1.2.2.1) g (b.drop 2) (aA 3 [(25,vB (p0.2.2.1 !=p1.2.2.1))] (bW 25 i ?_ ?_)))))
 .intro A i;refine aA 15 [(40,vB true)] ?_;cases i;exact bE _ kr (K _ _ ⟨v,rfl,q,g,a,d,b,f⟩)
 intro A i;refine aA 1 [(26,vP k 3)] (bX 27 (vT p0.2.2.2.1) g (a.drop 3) (aA 1 [(28,vP n 3)] (bX 29 (vT p1.2.2.2.1) g (b.drop 3) (aA 3 [(32,vB (!(p0.2.2.2.1.toList==p1.2.2.2.1.toList)))] (bW 32 i ?_ ?_)))))
 .intro A i;refine aA 8 [(40,vB true)] ?_;cases i;exact bE _ kr (K _ _ ⟨v,rfl,q,g,a,d,b,f⟩)
 intro A i;refine aA 1 [(33,vP k 4)] (bX 34 (vS a1 p0.2.2.2.2 c1) g (a.drop 4) (aA 2 [(35,vI (p0.2.2.2.2.length:Int)),(36,vP n 4)] (bX 37 (vS a2 p1.2.2.2.2 c2) g (b.drop 4) (aA 3 [(40,vB ((p0.2.2.2.2.length:Int) !=(p1.2.2.2.2.length:Int)))] ?_))));cases i;exact bE _ kr (K _ _ ⟨v,rfl,q,g,a,d,b,f⟩)
def AT(N:Nat)(p0:Tp)(p1:Tp)(a:Int):qU:=
 if(decide (a<(List.length p0.2.2.2:Int)))=true then((idx p0.2.2.2 a).bind fun x1=>(idx p1.2.2.2 a).bind fun b=>(xU N x1 b).bind fun b=>if(!b)=true then(some (.inr (.inr (false)))) else(some (.inl (IntKind.wrap .i64 (a+1))))) else(some (.inr (.inl ())))
def xW(N:Nat)(p0:Tp)(p1:Tp):Tl:=
 (if(p0.1 !=p1.1)=true then(some true) else(if(!(p0.2.1.toList==p1.2.1.toList))=true then(some true) else((xS N p0.2.2.1 p1.2.2.1).bind fun y1=>if(!y1)=true then(some true) else(some ((List.length p0.2.2.2:Int) !=(List.length p1.2.2.2:Int))))):Tl).bind fun a=>if a=true then(some false) else((aS (AT N p0 p1) N 0).bind fun a=>(match a with| .inl a=>some true| .inr (z)=>some z))
theorem VX{p0:Tp}{p1:Tp}{r:Bool}(g:St m (O) w)(l:RepS aF m a1 c1 p0.2.2.1)(n:RepS C2 m a2 c2 p0.2.2.2)(o:RepS aF m a3 c3 p1.2.2.1)(p:RepS C2 m a4 c4 p1.2.2.2)(i:xW N p0 p1=some r):Calls prog 27 #[.agg (V6 p0 a1 c1 a2 c2),.agg (V6 p1 a3 c3 a4 c4)] w fun e w'=>∃m',e= .returned (vB r)/\m.le m'/\St m' (O) w':=by
 unfold xW at i;have q:=m.le_refl;refine bK func27 rfl ntmps27 ?_;refine aD (mB 2 43 (.agg (V6 p0 a1 c1 a2 c2)) g fun u m1 w1 f g a=>(mB 3 43 (.agg (V6 p1 a3 c3 a4 c4)) g fun z Y w2 d g c=> ?_));have q:=(q.t f).t d;have l:=(l.mono f).mono d;have n:=(n.mono f).mono d;have o:=(o.mono f).mono d;have p:=(p.mono f).mono d;have a:=a.mono d;refine aI 1 [] (aG (aD (eP 29 i (fun R L' w'=>∃v,L'=[(2,vP u 0),(3,vP z 0),(34,vB R)]/\m.le v/\St v (O) w'/\MRow v u 0 (V7 p0 a1 c1 a2 c2)/\RepS aF v a1 c1 p0.2.2.1/\RepS C2 v a2 c2 p0.2.2.2/\MRow v z 0 (V7 p1 a3 c3 a4 c4)/\P1 v a3 c3 a4 c4 p1.2.2) ?_ ?_)))
 .rintro R i _ w3 ⟨v,rfl,q,g,a,l,n,c,o,p⟩;refine aO (aH i ?_ ?_)
  .intro A i;refine aB 1 [(4,vB false)] (aK ?_);refine aV ?_;cases i;exact aN [4] [vB false] ⟨v,rfl,q,g⟩
  intro A i;refine aM (aE (aG (aX 1 [(35,vP u 3)] (bX 36 (vS a2 p0.2.2.2 c2) g (a.drop 3) (aI 2 [(37,vI (p0.2.2.2.length:Int)),(38,vI 0)] (bJ ?_))))));have⟨E,i,V⟩:=aW i;refine cZ (.exit 0) (fun L' w'=>∃(o2:Unit),∃H,(.inl o2)=E/\L'=[]/\m.le H/\St H (O) w') ?_ ?_
  .rintro _ b ⟨o2,H,rfl,rfl,q,g⟩;have i:=V;refine dT (aE (aB 1 [(4,vB true)] (aK ?_)));cases i;exact aN [4] [vB true] ⟨H,rfl,q,g⟩
  intro F;refine dQ _ kr (dP (fun G L' w'=>∃(s:Int),∃k,aS (AT N p0 p1) G s=some E/\L'=[(2,vP u 0),(3,vP z 0),(37,vI (p0.2.2.2.length:Int)),(38,vI s)]/\m.le k/\St k (O) w'/\MRow k u 0 (V7 p0 a1 c1 a2 c2)/\RepS aF k a1 c1 p0.2.2.1/\RepS C2 k a2 c2 p0.2.2.2/\MRow k z 0 (V7 p1 a3 c3 a4 c4)/\P1 k a3 c3 a4 c4 p1.2.2) N ⟨0,v,i,rfl,q,g,a,l,n,c,o,p⟩ ?_);rintro G _ w6 ⟨s,k,hL,rfl,q,g,a,l,n,c,o,p⟩;rcases G with _|G
  .exact dU hL
  obtain⟨a9,i,M,D⟩:=dV hL;clear hL;unfold AT at i;refine aB 1 [(39,vB (decide (s<(p0.2.2.2.length:Int))))] (aG ?_);refine aH i ?_ ?_
  .intro A i;refine aM (aE (aG (bJ (aB 2 [(5,vI s)] (aG (eA [(12,fun w'=>Inv k w'/\True)] kr g fun w7 _ g=> ?_))))));have B:=k.le_refl;refine tA g B ?_;refine aJ 0 41 (vP u 3) (.head _) (iW 41 41 1 42 3 (vS a2 p0.2.2.2 c2) (.head _) (fun _ h=>h.1) (a.drop 3) (aJ 2 43 (vI s) (.head _) ?_));have⟨x1,d2,i⟩:=aW i;refine pA (t:=41) (e:=61) (x:=(.tmp 42)) (y:=(.tmp 43)) 3 44 C2 kr rfl kr (.head _) (bZ (eG (bZ (bZ (eG (bZ lC)))))) (ev (vS a2 p0.2.2.2 c2)) (ev (vI s)) kr n d2 ?_;rintro b3 f1 a7 ⟨_,_,rfl,rfl,⟨_,_,rfl,rfl,⟨_,_,rfl,rfl,⟨_,_,rfl,rfl,⟨a5,c5,rfl,r5⟩⟩⟩⟩⟩ S;refine iW 61 44 4 45 f1 (.agg (V3 x1 a5 c5)) (.head _) (fun _ h=>h.1) S (aJ 5 46 (vP z 3) (.head _) (iW 41 46 6 47 3 (vS a4 p1.2.2.2 c4) (.head _) (fun _ h=>h.1) (c.drop 3) (aJ 7 48 (vI s) (.head _) ?_)));have⟨x2,d3,i⟩:=aW i;refine pA (t:=41) (e:=61) (x:=(.tmp 47)) (y:=(.tmp 48)) 8 49 C2 kr rfl kr (.head _) (bZ (eG (bZ (bZ (eG (bZ lC)))))) (ev (vS a4 p1.2.2.2 c4)) (ev (vI s)) kr p d3 ?_;rintro b4 f2 a8 ⟨_,_,rfl,rfl,⟨_,_,rfl,rfl,⟨_,_,rfl,rfl,⟨_,_,rfl,rfl,⟨a6,c6,rfl,r6⟩⟩⟩⟩⟩ U;refine iW 61 49 9 50 f2 (.agg (V3 x2 a6 c6)) (.head _) (fun _ h=>h.1) U (bU 10 kr (iO 51 i (fun _ h=>VW (p0:=x1) (p1:=x2) g r5 r6 h) ?_));rintro y2 i _ w8 ⟨Z,rfl,b,g⟩;refine⟨_,rfl,?_⟩
   have B:=Mem.le_trans B b;refine tA g B ?_;refine aJ 11 52 (vB (!y2)) (.head _) (dW kr (aE (aH i ?_ ?_)))
   .intro A i;refine aB 1 [(4,vB false)] (aK ?_);refine bM (aV ?_);have ho:=D _ (sI i);subst ho;have i:=V;refine aV (bM (aV ?_));cases i;exact aN [4] [vB false] ⟨Z,rfl,q.t b,g⟩
   intro A i;refine aM (bO (aE (aZ (aA 2 [(38,vI (wr (s+1)))] (aU rfl ?_)))));have hL:=M _ (sI i);exact xE (dN ⟨wr (s+1),Z,hL,rfl,q.t b,g,a.mono b,l.mono b,n.mono b,c.mono b,o.mono b,p.mono b⟩)
  intro A i;refine dO (bS ?_);have ho:=D _ (sI i);refine bS ?_;exact xE (F _ _ ⟨(),k,ho,rfl,q,g⟩)
 intro R i K;refine aA 1 [(6,vP u 0)] (bX 7 (vI p0.1) g a (aA 1 [(8,vP z 0)] (bX 9 (vI p1.1) g c (aA 2 [(11,vB (p0.1 !=p1.1))] (bW 11 i ?_ ?_)))))
 .intro A i;refine aA 23 [(34,vB true)] ?_;cases i;exact bE _ kr (K _ _ ⟨Y,rfl,q,g,a,l,n,c,o,p⟩)
 intro A i;refine aA 1 [(12,vP u 1)] (bX 13 (vT p0.2.1) g (a.drop 1) (aA 1 [(14,vP z 1)] (bX 15 (vT p1.2.1) g (c.drop 1) (aA 3 [(18,vB (!(p0.2.1.toList==p1.2.1.toList)))] (bW 18 i ?_ ?_)))))
 .intro A i;refine aA 16 [(34,vB true)] ?_;cases i;exact bE _ kr (K _ _ ⟨Y,rfl,q,g,a,l,n,c,o,p⟩)
 intro A i;refine aA 1 [(19,vP u 2)] (bX 20 (vS a1 p0.2.2.1 c1) g (a.drop 2) (aA 1 [(21,vP z 2)] (bX 22 (vS a3 p1.2.2.1 c3) g (c.drop 2) (aR 23 i (ME g l o) ?_))));rintro y1 i _ s ⟨k,rfl,b,g⟩;have a:=a.mono b;have c:=c.mono b;refine aA 3 [(26,vB (!y1))] (bW 26 i ?_ ?_)
 .intro A i;refine aA 8 [(34,vB true)] ?_;cases i;exact bE _ kr (K _ _ ⟨k,rfl,q.t b,g,a,l.mono b,n.mono b,c,o.mono b,p.mono b⟩)
 intro A i;refine aA 1 [(27,vP u 3)] (bX 28 (vS a2 p0.2.2.2 c2) g (a.drop 3) (aA 2 [(29,vI (p0.2.2.2.length:Int)),(30,vP z 3)] (bX 31 (vS a4 p1.2.2.2 c4) g (c.drop 3) (aA 3 [(34,vB ((p0.2.2.2.length:Int) !=(p1.2.2.2.length:Int)))] ?_))));cases i;exact bE _ kr (K _ _ ⟨k,rfl,q.t b,g,a,l.mono b,n.mono b,c,o.mono b,p.mono b⟩)
def BO(N:Nat)(p0:Ts)(p1:Ts)(a:Int):qU:=
 if(decide (a<(List.length p0.2.2:Int)))=true then((idx p0.2.2 a).bind fun x1=>(idx p1.2.2 a).bind fun b=>(xW N x1 b).bind fun b=>if(!b)=true then(some (.inr (.inr (false)))) else(some (.inl (IntKind.wrap .i64 (a+1))))) else(some (.inr (.inl ())))
def uB(N:Nat)(p0:Ts)(p1:Ts):Tl:=
 (if(!(p0.1.toList==p1.1.toList))=true then(some true) else((xS N p0.2.1 p1.2.1).bind fun y1=>if(!y1)=true then(some true) else(some ((List.length p0.2.2:Int) !=(List.length p1.2.2:Int)))):Tl).bind fun a=>if a=true then(some false) else((aS (BO N p0 p1) N 0).bind fun a=>(match a with| .inl a=>some true| .inr (z)=>some z))
theorem MM{p0:Ts}{p1:Ts}{r:Bool}(g:St m (O) w)(o:RepS aF m a1 c1 p0.2.1)(p:RepS C3 m a2 c2 p0.2.2)(s:RepS aF m a3 c3 p1.2.1)(u:RepS C3 m a4 c4 p1.2.2)(i:uB N p0 p1=some r):Calls prog 10 #[.agg (V2 p0 a1 c1 a2 c2),.agg (V2 p1 a3 c3 a4 c4)] w fun e w'=>∃m',e= .returned (vB r)/\m.le m'/\St m' (O) w':=by
 unfold uB at i;have q:=m.le_refl;refine bK func10 rfl ntmps10 ?_;refine aD (mB 2 29 (.agg (V2 p0 a1 c1 a2 c2)) g fun v m1 w1 f g b=>(mB 3 29 (.agg (V2 p1 a3 c3 a4 c4)) g fun B m2 w2 d g c=> ?_));have q:=(q.t f).t d;have o:=(o.mono f).mono d;have p:=(p.mono f).mono d;have s:=(s.mono f).mono d;have u:=(u.mono f).mono d;have b:=b.mono d;refine aI 1 [] (aG (aD (eP 22 i (fun R L' w'=>∃n,L'=[(2,vP v 0),(3,vP B 0),(27,vB R)]/\m.le n/\St n (O) w'/\MRow n v 0 (V8 p0 a1 c1 a2 c2)/\RepS aF n a1 c1 p0.2.1/\RepS C3 n a2 c2 p0.2.2/\MRow n B 0 (V8 p1 a3 c3 a4 c4)/\P2 n a3 c3 a4 c4 p1.2) ?_ ?_)))
 .rintro R i _ w3 ⟨n,rfl,q,g,b,o,p,c,s,u⟩;refine aO (aH i ?_ ?_)
  .intro A i;refine aB 1 [(4,vB false)] (aK ?_);refine aV ?_;cases i;exact aN [4] [vB false] ⟨n,rfl,q,g⟩
  intro A i;refine aM (aE (aG (aX 1 [(28,vP v 2)] (bX 29 (vS a2 p0.2.2 c2) g (b.drop 2) (aI 2 [(30,vI (p0.2.2.length:Int)),(31,vI 0)] (bJ ?_))))));have⟨E,i,V⟩:=aW i;refine cZ (.exit 0) (fun L' w'=>∃(Z:Unit),∃H,(.inl Z)=E/\L'=[]/\m.le H/\St H (O) w') ?_ ?_
  .rintro _ a ⟨Z,H,rfl,rfl,q,g⟩;have i:=V;refine dT (aE (aB 1 [(4,vB true)] (aK ?_)));cases i;exact aN [4] [vB true] ⟨H,rfl,q,g⟩
  intro F;refine dQ _ kr (dP (fun G L' w'=>∃(l:Int),∃k,aS (BO N p0 p1) G l=some E/\L'=[(2,vP v 0),(3,vP B 0),(30,vI (p0.2.2.length:Int)),(31,vI l)]/\m.le k/\St k (O) w'/\MRow k v 0 (V8 p0 a1 c1 a2 c2)/\RepS aF k a1 c1 p0.2.1/\RepS C3 k a2 c2 p0.2.2/\MRow k B 0 (V8 p1 a3 c3 a4 c4)/\P2 k a3 c3 a4 c4 p1.2) N ⟨0,n,i,rfl,q,g,b,o,p,c,s,u⟩ ?_);rintro G _ w6 ⟨l,k,hL,rfl,q,g,b,o,p,c,s,u⟩;rcases G with _|G
  .exact dU hL
  obtain⟨b5,i,M,D⟩:=dV hL;clear hL;unfold BO at i;refine aB 1 [(32,vB (decide (l<(p0.2.2.length:Int))))] (aG ?_);refine aH i ?_ ?_
  .intro A i;refine aM (aE (aG (bJ (aB 2 [(5,vI l)] (aG (eA [(12,fun w'=>Inv k w'/\True)] kr g fun w7 _ g=> ?_))))));have z:=k.le_refl;refine tA g z ?_;refine aJ 0 34 (vP v 2) (.head _) (iW 27 34 1 35 2 (vS a2 p0.2.2 c2) (.head _) (fun _ h=>h.1) (b.drop 2) (aJ 2 36 (vI l) (.head _) ?_));have⟨x1,d2,i⟩:=aW i;refine pA (t:=27) (e:=43) (x:=(.tmp 35)) (y:=(.tmp 36)) 3 37 C3 kr rfl kr (.head _) (bZ (eG (bZ (bZ (eG (bZ lC)))))) (ev (vS a2 p0.2.2 c2)) (ev (vI l)) kr p d2 ?_;rintro b3 f1 a9 ⟨_,_,rfl,rfl,⟨_,_,rfl,rfl,⟨_,_,rfl,⟨a5,c5,rfl,r5⟩,⟨a6,c6,rfl,r6⟩⟩⟩⟩ S;refine iW 43 37 4 38 f1 (.agg (V6 x1 a5 c5 a6 c6)) (.head _) (fun _ h=>h.1) S (aJ 5 39 (vP B 2) (.head _) (iW 27 39 6 40 2 (vS a4 p1.2.2 c4) (.head _) (fun _ h=>h.1) (c.drop 2) (aJ 7 41 (vI l) (.head _) ?_)));have⟨x2,d3,i⟩:=aW i;refine pA (t:=27) (e:=43) (x:=(.tmp 40)) (y:=(.tmp 41)) 8 42 C3 kr rfl kr (.head _) (bZ (eG (bZ (bZ (eG (bZ lC)))))) (ev (vS a4 p1.2.2 c4)) (ev (vI l)) kr u d3 ?_;rintro b4 f2 b0 ⟨_,_,rfl,rfl,⟨_,_,rfl,rfl,⟨_,_,rfl,⟨a7,c7,rfl,r7⟩,⟨a8,c8,rfl,r8⟩⟩⟩⟩ U;refine iW 43 42 9 43 f2 (.agg (V6 x2 a7 c7 a8 c8)) (.head _) (fun _ h=>h.1) U (bU 10 kr (iO 44 i (fun _ h=>VX (p0:=x1) (p1:=x2) g r5 r6 r7 r8 h) ?_));rintro y2 i _ w8 ⟨Y,rfl,a,g⟩;refine⟨_,rfl,?_⟩
   have z:=Mem.le_trans z a;refine tA g z ?_;refine aJ 11 45 (vB (!y2)) (.head _) (dW kr (aE (aH i ?_ ?_)))
   .intro A i;refine aB 1 [(4,vB false)] (aK ?_);refine bM (aV ?_);have ho:=D _ (sI i);subst ho;have i:=V;refine aV (bM (aV ?_));cases i;exact aN [4] [vB false] ⟨Y,rfl,q.t a,g⟩
   intro A i;refine aM (bO (aE (aZ (aA 2 [(31,vI (wr (l+1)))] (aU rfl ?_)))));have hL:=M _ (sI i);exact xE (dN ⟨wr (l+1),Y,hL,rfl,q.t a,g,b.mono a,o.mono a,p.mono a,c.mono a,s.mono a,u.mono a⟩)
  intro A i;refine dO (bS ?_);have ho:=D _ (sI i);refine bS ?_;exact xE (F _ _ ⟨(),k,ho,rfl,q,g⟩)
 intro R i K;refine aA 1 [(6,vP v 0)] (bX 7 (vT p0.1) g b (aA 1 [(8,vP B 0)] (bX 9 (vT p1.1) g c (aA 2 [(11,vB (!(p0.1.toList==p1.1.toList)))] (bW 11 i ?_ ?_)))))
 .intro A i;refine aA 16 [(27,vB true)] ?_;cases i;exact bE _ kr (K _ _ ⟨m2,rfl,q,g,b,o,p,c,s,u⟩)
 intro A i;refine aA 1 [(12,vP v 1)] (bX 13 (vS a1 p0.2.1 c1) g (b.drop 1) (aA 1 [(14,vP B 1)] (bX 15 (vS a3 p1.2.1 c3) g (c.drop 1) (aR 16 i (ME g o s) ?_))));rintro y1 i _ l ⟨k,rfl,a,g⟩;have b:=b.mono a;have c:=c.mono a;refine aA 3 [(19,vB (!y1))] (bW 19 i ?_ ?_)
 .intro A i;refine aA 8 [(27,vB true)] ?_;cases i;exact bE _ kr (K _ _ ⟨k,rfl,q.t a,g,b,o.mono a,p.mono a,c,s.mono a,u.mono a⟩)
 intro A i;refine aA 1 [(20,vP v 2)] (bX 21 (vS a2 p0.2.2 c2) g (b.drop 2) (aA 2 [(22,vI (p0.2.2.length:Int)),(23,vP B 2)] (bX 24 (vS a4 p1.2.2 c4) g (c.drop 2) (aA 3 [(27,vB ((p0.2.2.length:Int) !=(p1.2.2.length:Int)))] ?_))));cases i;exact bE _ kr (K _ _ ⟨k,rfl,q.t a,g,b,o.mono a,p.mono a,c,s.mono a,u.mono a⟩)
def FC(N:Nat):Tz:=
 some ([(⟨#[112]⟩:BA),(⟨#[113]⟩:BA),(⟨#[115]⟩:BA)])
theorem VY{r:Te}(g:St m (O) w)(i:FC N=some r):Calls prog 42 #[] w fun e w'=>∃a b m',e= .returned (vS a r b)/\m.le m'/\St m' (kR a r b 9 1::O) w'/\RepS aF m' a b r:=by
 unfold FC at i;have q:=m.le_refl;refine bK func42 rfl ntmps42 ?_;refine aB 1 [] (aD ?_);refine eD 1 9 3 aF [bf,bg,bo] g fun c f k d g h=> ?_;refine aI 1 [(0,.slice (aP c) (List.length ([bf,bg,bo])) 3)] (aK ?_);obtain rfl:=sI i;exact aN [0] [.slice (aP c) (List.length ([bf,bg,bo])) 3] ⟨(aP c),3,f,rfl,q.t d,g,h⟩
def FF(N:Nat)(p0:Te)(p1:BA)(a:Int):qU:=
 if(decide (a<(List.length p0:Int)))=true then((idx p0 a).bind fun x1=>if(x1.toList==p1.toList)=true then(some (.inr (.inr (true)))) else(some (.inl (IntKind.wrap .i64 (a+1))))) else(some (.inr (.inl ())))
def vJ(N:Nat)(p0:Te)(p1:BA):Tl:=
 (aS (FF N p0 p1) N 0).bind fun a=>(match a with| .inl a=>some false| .inr (z)=>some z)
theorem MN{p0:Te}{p1:BA}{r:Bool}(g:St m (O) w)(l:RepS aF m a1 c1 p0)(i:vJ N p0 p1=some r):Calls prog 43 #[vS a1 p0 c1,vT p1] w fun e w'=>∃m',e= .returned (vB r)/\m.le m'/\St m' (O) w':=by
 unfold vJ at i;have q:=m.le_refl;refine bK func43 rfl ntmps43 ?_;refine aB 1 [] (aG ?_);refine aB 1 [(5,vI 0)] (bJ ?_);have⟨d,i,p⟩:=aW i;refine cZ (.exit 0) (fun L' w'=>∃(s:Unit),∃k,(.inl s)=d/\L'=[]/\m.le k/\St k (O) w') ?_ ?_
 .rintro _ a ⟨s,k,rfl,rfl,q,g⟩;have i:=p;refine dT (aE (aB 1 [(4,vB false)] (aK ?_)));cases i;exact aN [4] [vB false] ⟨k,rfl,q,g⟩
 intro f;refine dQ _ kr (dP (fun h L' w'=>∃(b:Int),∃a,aS (FF N p0 p1) h b=some d/\L'=[(0,vS a1 p0 c1),(1,vT p1),(5,vI b)]/\m.le a/\St a (O) w'/\RepS aF a a1 c1 p0) N ⟨0,m,i,rfl,q,g,l⟩ ?_);rintro h _ y ⟨b,a,hL,rfl,q,g,l⟩;rcases h with _|h
 .exact dU hL
 obtain⟨v,i,n,c⟩:=dV hL;clear hL;unfold FF at i;refine aG (aB 4 [(9,vB (decide (b<(p0.length:Int))))] (aH i ?_ ?_))
 .intro A i;refine aM (aE (aG (bJ (aX 2 [(12,vS a1 p0 c1),(13,vI b)] (eU 14 l i ?_)))));rintro x1 i x t u rfl o;refine iD 15 9 14 t (vT x1) g o (aI 2 [(17,vB (x1.toList==p1.toList))] (aH i ?_ ?_))
  .intro A i;refine aB 1 [(4,vB true)] (aK ?_);refine bM (aV ?_);have ho:=c _ (sI i);subst ho;have i:=p;refine aV (bM (aV ?_));cases i;exact aN [4] [vB true] ⟨a,rfl,q,g⟩
  intro A i;refine aM (bO (aE (aZ (aA 3 [(5,vI (wr (b+1)))] (aU rfl ?_)))));have hL:=n _ (sI i);exact xE (dN ⟨wr (b+1),a,hL,rfl,q,g,l⟩)
 intro A i;refine dO (bS ?_);have ho:=c _ (sI i);refine bS ?_;exact xE (f _ _ ⟨(),a,ho,rfl,q,g⟩)
def FG(N:Nat):Tz:=
 some ([(⟨#[116]⟩:BA),(⟨#[117]⟩:BA),(⟨#[118]⟩:BA)])
theorem WL{r:Te}(g:St m (O) w)(i:FG N=some r):Calls prog 91 #[] w fun e w'=>∃a b m',e= .returned (vS a r b)/\m.le m'/\St m' (kR a r b 9 1::O) w'/\RepS aF m' a b r:=by
 unfold FG at i;have q:=m.le_refl;refine bK func91 rfl ntmps91 ?_;refine aB 1 [] (aD ?_);refine eD 1 9 3 aF [(⟨#[116]⟩:BA),(⟨#[117]⟩:BA),bn] g fun c f k d g h=> ?_;refine aI 1 [(0,.slice (aP c) (List.length ([(⟨#[116]⟩:BA),(⟨#[117]⟩:BA),bn])) 3)] (aK ?_);obtain rfl:=sI i;exact aN [0] [.slice (aP c) (List.length ([(⟨#[116]⟩:BA),(⟨#[117]⟩:BA),bn])) 3] ⟨(aP c),3,f,rfl,q.t d,g,h⟩
def sR(N:Nat):Tz:=
 some ([(⟨#[97,46,100,97,116]⟩:BA),(⟨#[100,47,98,46,100,97,116]⟩:BA),(⟨#[99]⟩:BA),(⟨#[97,46,115,114,99]⟩:BA),(⟨#[120,46,115,114,99]⟩:BA)])
theorem FB{r:Te}(g:St m (O) w)(i:sR N=some r):Calls prog 93 #[] w fun e w'=>∃a b m',e= .returned (vS a r b)/\m.le m'/\St m' (kR a r b 9 1::O) w'/\RepS aF m' a b r:=by
 unfold sR at i;have q:=m.le_refl;refine bK func93 rfl ntmps93 ?_;refine aB 1 [] (aD ?_);refine eD 1 9 5 aF [bc,b1q,bd,b1r,b1s] g fun c f k d g h=> ?_;refine aI 1 [(0,.slice (aP c) (List.length ([bc,b1q,bd,b1r,b1s])) 5)] (aK ?_);obtain rfl:=sI i;exact aN [0] [.slice (aP c) (List.length ([bc,b1q,bd,b1r,b1s])) 5] ⟨(aP c),5,f,rfl,q.t d,g,h⟩
def BI(N:Nat):Tz:=
 some ([(⟨#[110]⟩:BA),(⟨#[109]⟩:BA)])
theorem VU{r:Te}(g:St m (O) w)(i:BI N=some r):Calls prog 129 #[] w fun e w'=>∃a b m',e= .returned (vS a r b)/\m.le m'/\St m' (kR a r b 9 1::O) w'/\RepS aF m' a b r:=by
 unfold BI at i;have q:=m.le_refl;refine bK func129 rfl ntmps129 ?_;refine aB 1 [] (aD ?_);refine eD 1 9 2 aF [be,(⟨#[109]⟩:BA)] g fun c f k d g h=> ?_;refine aI 1 [(0,.slice (aP c) (List.length ([be,(⟨#[109]⟩:BA)])) 2)] (aK ?_);obtain rfl:=sI i;exact aN [0] [.slice (aP c) (List.length ([be,(⟨#[109]⟩:BA)])) 2] ⟨(aP c),2,f,rfl,q.t d,g,h⟩
def BK(N:Nat)(R7:(Int)->rM)(p0:Int):rM:=
 if(decide (p0<10))=true then((mO (⟨#[48,49,50,51,52,53,54,55,56,57]⟩:BA) p0 (IntKind.wrap .i64 (p0+1))).bind fun a=>some a) else((R7 (IntKind.wrap .i64 (Int.tdiv p0 10))).bind fun y1=>(R7 (Int.tmod p0 10)).bind fun a=>(bR y1 a).bind fun a=>some a)
def BT(N:Nat):Nat->((Int)->rM)
 |0=>(fun _=>none)
 |D+1=>BK N (BT N D)
def BW(N:Nat)(p0:Int):rM:=(BT N N) p0
abbrev WF(F:(Int)->rM):Prop:=∀{m:Mem} {O:List Piece} {w:World} {p0:Int} {r:BA} (g:St m (O) w) (i:F p0=some r),Calls prog 130 #[vI p0] w fun e w'=>∃m',e= .returned (vT r)/\m.le m'/\St m' (O) w'
theorem VZ{R7:(Int)->rM}(a:WF R7){p0:Int}{r:BA}(g:St m (O) w)(i:BK N R7 p0=some r):Calls prog 130 #[vI p0] w fun e w'=>∃m',e= .returned (vT r)/\m.le m'/\St m' (O) w':=by
 unfold BK at i;have q:=m.le_refl;refine bK func130 rfl ntmps130 ?_;refine aB 1 [] (aG ?_);refine aB 2 [(4,vB (decide (p0<10)))] (aH i ?_ ?_)
 .intro A i;refine aX 3 [(5,vI p0),(7,vI (wr (p0+1)))] ?_;have⟨b,c,i⟩:=aW i;refine aQ rfl (qE (d:=8) (t:=9) (x:=(.const (vT bq))) (lo:=(some (.tmp 5))) (hi:=(some (.tmp 7))) kr rfl (ev (vT bq)) kr (.inr ⟨_,_,rfl,(ev (vI p0))⟩) (.inr ⟨_,_,rfl,(ev (vI (wr (p0+1))))⟩) c (aI 1 [(2,vT b)] (aK (aV ?_))));obtain rfl:=sI i;exact aN [2] [vT b] ⟨m,rfl,q,g⟩
 intro A i;refine aM (aE (aX 2 [(10,vI (wr (Int.tdiv p0 10)))] (aR 11 i (a g) ?_)));rintro y1 i _ l ⟨k,rfl,b,g⟩;refine aA 2 [(13,vI (Int.tmod p0 10))] (aR 14 i (a g) ?_);rintro o i _ n ⟨h,rfl,c,g⟩;refine dX 15 i fun f i=> ?_;refine aI 1 [(2,vT f)] (aK ?_);obtain rfl:=sI i;exact aN [2] [vT f] ⟨h,rfl,(q.t b).t c,g⟩
theorem MG(N:Nat):∀D:Nat,(∀{m:Mem} {O:List Piece} {w:World} {p0:Int} {r:BA} (g:St m (O) w) (i:(BT N D) p0=some r),Calls prog 130 #[vI p0] w fun e w'=>∃m',e= .returned (vT r)/\m.le m'/\St m' (O) w')
 |0=>fun _ i=>(by cases i)
 |D+1=>fun g i=>VZ (MG N D) g i
theorem MJ{p0:Int}{r:BA}(g:St m (O) w)(i:BW N p0=some r):Calls prog 130 #[vI p0] w fun e w'=>∃m',e= .returned (vT r)/\m.le m'/\St m' (O) w':=
 (MG N N) g i
def xX(N:Nat):Tz:=
 some ([(⟨#[102]⟩:BA),(⟨#[103]⟩:BA),(⟨#[104]⟩:BA),(⟨#[107]⟩:BA)])
theorem MF{r:Te}(g:St m (O) w)(i:xX N=some r):Calls prog 94 #[] w fun e w'=>∃a b m',e= .returned (vS a r b)/\m.le m'/\St m' (kR a r b 9 1::O) w'/\RepS aF m' a b r:=by
 unfold xX at i;have q:=m.le_refl;refine bK func94 rfl ntmps94 ?_;refine aB 1 [] (aD ?_);refine eD 1 9 4 aF [ba,bb,(⟨#[104]⟩:BA),(⟨#[107]⟩:BA)] g fun c f k d g h=> ?_;refine aI 1 [(0,.slice (aP c) (List.length ([ba,bb,(⟨#[104]⟩:BA),(⟨#[107]⟩:BA)])) 4)] (aK ?_);obtain rfl:=sI i;exact aN [0] [.slice (aP c) (List.length ([ba,bb,(⟨#[104]⟩:BA),(⟨#[107]⟩:BA)])) 4] ⟨(aP c),4,f,rfl,q.t d,g,h⟩
end
section
open Go Go.Dc Go.Proofs.Tryz
set_option maxHeartbeats 4000000
set_option maxRecDepth 100000
variable {N bp0 c1 c2:Nat} {m:Mem} {O:List Piece} {w:World} {a1 a2:Option Addr}
def BU(N:Nat)(R8:Tc->(Int)->Te->Tg)(p1:Int)(p2:Te)(a:T25):Option (T25⊕Tm):=
 if(decide (a.2.1>0))=true then((R8 a.2.2 (IntKind.wrap .i64 (p1-1)) p2).bind fun b=>(bR (⟨#[44,32]⟩:BA) b.2).bind fun c=>(bR a.1 c).bind fun c=>some (.inl (c,IntKind.wrap .i64 (a.2.1-1),b.1.1,b.1.2))) else(some (.inr (a.1,a.2.2.1,a.2.2.2)))
def vE(N:Nat)(R8:Tc->(Int)->Te->Tg)(p0:Tc)(p1:Int)(p2:Te):Tg:=
 (if(decide (p1<=0))=true then(some (true,p0.1,p0.2)) else((qA N p0 1 4).bind fun y1=>some (y1.2,y1.1.1,y1.1.2)):Option (Bool×Tc)).bind fun d=>if d.1=true then((iM N d.2 9).bind fun a=>((if(a.2==0)=true then(some (a.2==0)) else(some (a.2==1)):Tl).bind fun b=>if b=true then(if(decide ((List.length p2:Int)>0))=true then((lA N a.1 p2).bind fun b=>some (.inr (b.1,b.2))) else(some (.inl a.1))) else(if(a.2==2)=true then((sR N).bind fun b=>(lA N a.1 b).bind fun b=>(bR (⟨#[115,105,122,101,40,34]⟩:BA) b.2).bind fun c=>(bR c (⟨#[34,41]⟩:BA)).bind fun c=>some (.inr (b.1,c))) else(if(a.2==3)=true then((sR N).bind fun b=>(lA N a.1 b).bind fun b=>(bR (⟨#[104,97,115,40,34]⟩:BA) b.2).bind fun c=>(bR c (⟨#[34,41]⟩:BA)).bind fun c=>some (.inr (b.1,c))) else(if(a.2==4)=true then((BI N).bind fun b=>(lA N a.1 b).bind fun b=>(bR (⟨#[101,110,118,40,34]⟩:BA) b.2).bind fun c=>(bR c (⟨#[34,41]⟩:BA)).bind fun c=>some (.inr (b.1,c))) else(if(a.2==5)=true then((qA N a.1 1 5).bind fun b=>if b.2=true then((oV N b.1 ([(0:Int),1,63])).bind fun c=>(BW N c.2).bind fun e=>(bR (⟨#[102,108,105,112,40]⟩:BA) e).bind fun e=>(bR e (⟨#[41]⟩:BA)).bind fun e=>some (.inr (c.1,e))) else(some (.inl b.1))) else(some (.inl a.1)))))):Option (Tc⊕Tf)).bind fun a=>(match a with| .inl a=>(oV N a ([(0:Int),1,2,3,10,255,9007199254740992,1073741824])).bind fun a=>(BW N a.2).bind fun b=>some (a.1,b)| .inr z=>some z)) else((iM N d.2 10).bind fun a=>(if(a.2==0)=true then(some (a.2==0)) else(if(a.2==1)=true then(some (a.2==1)) else(some (a.2==2))):Tl).bind fun o4=>if o4=true then((xX N).bind fun b=>(lA N a.1 b).bind fun b=>(bR b.2 (⟨#[40]⟩:BA)).bind fun c=>(R8 b.1 (IntKind.wrap .i64 (p1-1)) p2).bind fun b=>(bR c b.2).bind fun c=>(oV N b.1 ([(0:Int),0,0,1])).bind fun b=>(aS (BU N R8 p1 p2) N (c,b.2,b.1.1,b.1.2)).bind fun b=>(bR b.1 (⟨#[41]⟩:BA)).bind fun c=>some (b.2,c)) else(if(a.2==3)=true then((R8 a.1 (IntKind.wrap .i64 (p1-1)) p2).bind fun b=>(bR (⟨#[105,102,32]⟩:BA) b.2).bind fun c=>(bR c (⟨#[32,116,104,101,110,32]⟩:BA)).bind fun c=>(R8 b.1 (IntKind.wrap .i64 (p1-1)) p2).bind fun b=>(bR c b.2).bind fun c=>(bR c (⟨#[32,101,108,115,101,32,40]⟩:BA)).bind fun c=>(R8 b.1 (IntKind.wrap .i64 (p1-1)) p2).bind fun b=>(bR c b.2).bind fun c=>(bR c (⟨#[41]⟩:BA)).bind fun c=>some (b.1,c)) else(if(a.2==4)=true then((sR N).bind fun b=>(lA N a.1 b).bind fun b=>(bR (⟨#[114,101,97,100,40,34]⟩:BA) b.2).bind fun c=>(bR c (⟨#[34,44,32]⟩:BA)).bind fun c=>(R8 b.1 (IntKind.wrap .i64 (p1-1)) p2).bind fun b=>(bR c b.2).bind fun c=>(bR c (⟨#[41]⟩:BA)).bind fun c=>some (b.1,c)) else(if(a.2==5)=true then((R8 a.1 (IntKind.wrap .i64 (p1-1)) p2).bind fun b=>(bR (⟨#[40]⟩:BA) b.2).bind fun c=>(bR c (⟨#[41]⟩:BA)).bind fun c=>some (b.1,c)) else((R8 a.1 (IntKind.wrap .i64 (p1-1)) p2).bind fun a=>(bR (⟨#[40]⟩:BA) a.2).bind fun b=>(bR b (⟨#[41,32]⟩:BA)).bind fun b=>(lA N a.1 ([(⟨#[43]⟩:BA),(⟨#[45]⟩:BA),(⟨#[42]⟩:BA),(⟨#[47]⟩:BA),(⟨#[37]⟩:BA),(⟨#[60]⟩:BA),(⟨#[61,61]⟩:BA)])).bind fun a=>(bR b a.2).bind fun b=>(bR b (⟨#[32,40]⟩:BA)).bind fun b=>(R8 a.1 (IntKind.wrap .i64 (p1-1)) p2).bind fun a=>(bR b a.2).bind fun b=>(bR b (⟨#[41]⟩:BA)).bind fun b=>some (a.1,b))))))
def BV(N:Nat):Nat->(Tc->(Int)->Te->Tg)
 |0=>(fun _ _ _=>none)
 |D+1=>vE N (BV N D)
def vH(N:Nat)(p0:Tc)(p1:Int)(p2:Te):Tg:=(BV N N) p0 p1 p2
abbrev WR(F:Tc->(Int)->Te->Tg):Prop:=∀{m:Mem} {O:List Piece} {w:World} {p0:Tc} {p1:Int} {p2:Te} {a:Nat} {b:Option Addr} {d:Nat} {c:Option Addr} {f:Nat} {r:Tf} (g:St m (kB a (V1 p0 b d) 25::O) w) (h:RepS (aT .i64) m b d p0.1) (b:RepS aF m c f p2) (i:F p0 p1 p2=some r),Calls prog 92 #[vP a 0,vI p1,vS c p2 f] w fun e w'=>∃b c m',e= .returned (vT r.2)/\m.le m'/\St m' (kB a (V1 r.1 b c) 25::O) w'/\RepS (aT .i64) m' b c r.1.1
theorem WD{R8:Tc->(Int)->Te->Tg}(a:WR R8){p0:Tc}{p1:Int}{p2:Te}{r:Tf}(g:St m (kB bp0 (V1 p0 a1 c1) 25::O) w)(r1:RepS (aT .i64) m a1 c1 p0.1)(f:RepS aF m a2 c2 p2)(i:vE N R8 p0 p1 p2=some r):Calls prog 92 #[vP bp0 0,vI p1,vS a2 p2 c2] w fun e w'=>∃d3 d4 m',e= .returned (vT r.2)/\m.le m'/\St m' (kB bp0 (V1 r.1 d3 d4) 25::O) w'/\RepS (aT .i64) m' d3 d4 r.1.1:=by
 unfold vE at i;have q:=m.le_refl;refine bK func92 rfl ntmps92 ?_;refine aD (aQ rfl (zM 3 23 0 (vP bp0 0) g fun c w1 g=>(aQ rfl (zM 4 3 1 (vI p1) g fun l w2 g=>(aQ rfl (zM 5 26 2 (vS a2 p2 c2) g fun k w3 g=>(aI 1 [] (aG (aD (eP 6 i (fun E L' w'=>∃a3 c3 m4,L'=[(3,vP c 0),(4,vP l 0),(5,vP k 0),(15,vB E.1)]/\m.le m4/\St m4 (kB k #[vS a2 p2 c2] 26::kB l #[vI p1] 3::kB c #[vP bp0 0] 23::kB bp0 (V1 E.2 a3 c3) 25::O) w'/\RepS aF m4 a2 c2 p2/\RepS (aT .i64) m4 a3 c3 E.2.1) ?_ ?_))))))))))
 .rintro E i _ w4 ⟨a3,c3,m4,rfl,q,g,f,r3⟩;refine aO (aH i ?_ ?_)
  .intro A i;refine aG (aD (bA 16 (vP bp0 0) g.t.t.h (aR 17 i (lO (p0:=E.2) g.f3 r3) ?_)));rintro o i _ w6 ⟨F,G,m6,rfl,u,g,p⟩;refine aO ?_;have⟨d1,i,x⟩:=aW i;refine cZ .normal (fun L' w'=>∃(D:Tc),∃S U z,(.inl D:Tc⊕Tf)=d1/\L'=[(3,vP c 0)]/\m.le z/\St z (kB bp0 (V1 D S U) 25::kB k #[vS a2 p2 c2] 26::kB l #[vI p1] 3::kB c #[vP bp0 0] 23::O) w'/\RepS (aT .i64) z S U D.1/\RepS aF z a2 c2 p2) ?_ ?_
   .rintro _ w7 ⟨D,S,U,z,rfl,rfl,q,g,V,f⟩;have i:=x;refine aE (aD (bA 58 (vP bp0 0) g.t.t.t.h (eD 59 3 8 (aT .i64) [(0:Int),1,2,3,10,255,9007199254740992,1073741824] g fun b5 Y b0 b g M=>(aR 60 i (tX (p0:=D) g.f1 (V.mono b) M) ?_))));rintro d0 i _ b8 ⟨y,B,Z,rfl,s,g,R⟩;refine aR 61 i (MJ g) ?_;rintro v i _ b9 ⟨H,rfl,n,g⟩;refine aA 1 [(6,vT v)] (aU rfl ?_);have g:=g.f1.t;refine aE (aK (aV ?_));obtain rfl:=sI i;exact aN [6] [vT v] ⟨y,B,H,rfl,((q.t b).t s).t n,g.f1.t.f1.t.f1.t,R.mono n⟩
   intro y;refine bJ (aG (aB 2 [(18,vB (o.2==0))] (cY .normal i (fun V L' w'=>∃n,L'=[(3,vP c 0),(5,vP k 0),(17,vI o.2),(18,vB V)]/\m.le n/\St n (kB bp0 (V1 o.1 F G) 25::kB k #[vS a2 p2 c2] 26::kB l #[vI p1] 3::kB c #[vP bp0 0] 23::O) w'/\RepS (aT .i64) n F G o.1.1/\RepS aF n a2 c2 p2) ?_ ?_)))
   .rintro V i _ w8 ⟨n,rfl,q,g,p,f⟩;refine aE (aH i ?_ ?_)
    .intro A i;refine aD (bA 21 (vS a2 p2 c2) g.t.h (aI 2 [(23,vB (decide ((p2.length:Int)>0)))] (aH i ?_ ?_)))
     .intro A i;refine aD (bA 24 (vP bp0 0) g.t.t.t.h (bA 25 (vS a2 p2 c2) g.t.h (aR 26 i (mF (p0:=o.1) g p f) ?_)));rintro s i _ R ⟨v,B,H,rfl,b,g,M⟩;refine aI 1 [(6,vT s.2)] (aK (bM ?_));cases i;have i:=x;refine aV (aV ?_);cases i;exact aN [6] [vT s.2] ⟨v,B,H,rfl,q.t b,g.f1.t.f1.t.f1.t,M⟩
     intro A i;refine aM (bO ?_);have B:=jF i;exact xE (y _ _ ⟨o.1,F,G,n,B,rfl,q,g.f3.f3.f3.f3,p,f⟩)
    intro A i;refine aB 2 [(27,vB (o.2==2))] (aH i ?_ ?_)
    .intro A i;refine aG (eA [(6,fun w'=>Inv n w'/\Piece.holds n w' (kB c #[vP bp0 0] 23)/\True)] kr g fun b8 _ g=> ?_);have b:=n.le_refl;refine⟨⟨.inr ⟨Inv.anti g.inv b,Piece.holds_anti g.t.t.t.h b,trivial⟩,trivial⟩,?_⟩;refine dY 23 3 0 29 0 (vP bp0 0) (.head _) (fun _ h=>h.2.1) (bU 1 kr (iO 30 i (fun _ h=>FB g h) ?_));rintro y4 i _ b9 ⟨a8,c8,b0,rfl,s,g,Z⟩;refine⟨_,rfl,?_⟩;have b:=Mem.le_trans b s;refine⟨⟨.inr ⟨Inv.anti g.inv b,Piece.holds_anti g.t.t.t.t.h b,trivial⟩,trivial⟩,?_⟩;refine bU 2 kr (iO 31 i (fun _ h=>mF (p0:=o.1) g.f1 (p.mono s) Z h) ?_);rintro y5 i _ d0 ⟨R,Y,H,rfl,v,g,r9⟩;refine⟨_,rfl,?_⟩;have b:=Mem.le_trans b v;refine⟨⟨.inr ⟨Inv.anti g.inv b,Piece.holds_anti g.t.t.t.t.h b,trivial⟩,trivial⟩,?_⟩;refine eJ 9 9 ((.const (vT (⟨#[115,105,122,101,40,34]⟩:BA)))) 31 3 32 (.head _) i fun s1 i=> ?_;refine eJ 9 9 32 ((.const (vT b1p))) 4 33 (.head _) i fun M i=> ?_;refine aJ 5 6 (vT M) (.head _) (dW kr ?_);have g:=g.f1.t;refine aE (aK (bM ?_));obtain rfl:=sI i;have i:=x;refine aV (aV ?_);obtain rfl:=sI i;exact aN [6] [vT M] ⟨R,Y,H,rfl,(q.t s).t v,g.f1.t.f1.t.f1.t,r9⟩
    intro A i;refine aB 2 [(34,vB (o.2==3))] (aH i ?_ ?_)
    .intro A i;refine aG (eA [(6,fun w'=>Inv n w'/\Piece.holds n w' (kB c #[vP bp0 0] 23)/\True)] kr g fun d0 _ g=> ?_);have b:=n.le_refl;refine⟨⟨.inr ⟨Inv.anti g.inv b,Piece.holds_anti g.t.t.t.h b,trivial⟩,trivial⟩,?_⟩;refine dY 23 3 0 36 0 (vP bp0 0) (.head _) (fun _ h=>h.2.1) (bU 1 kr (iO 37 i (fun _ h=>FB g h) ?_));rintro y6 i _ d2 ⟨b0,b8,b9,rfl,s,g,Y⟩;refine⟨_,rfl,?_⟩;have b:=Mem.le_trans b s;refine⟨⟨.inr ⟨Inv.anti g.inv b,Piece.holds_anti g.t.t.t.t.h b,trivial⟩,trivial⟩,?_⟩;refine bU 2 kr (iO 38 i (fun _ h=>mF (p0:=o.1) g.f1 (p.mono s) Y h) ?_);rintro y7 i _ d5 ⟨H,M,R,rfl,v,g,Z⟩;refine⟨_,rfl,?_⟩;have b:=Mem.le_trans b v;refine⟨⟨.inr ⟨Inv.anti g.inv b,Piece.holds_anti g.t.t.t.t.h b,trivial⟩,trivial⟩,?_⟩;refine eJ 9 9 ((.const (vT (⟨#[104,97,115,40,34]⟩:BA)))) 38 3 39 (.head _) i fun s3 i=> ?_;refine eJ 9 9 39 ((.const (vT b1p))) 4 40 (.head _) i fun s4 i=> ?_;refine aJ 5 6 (vT s4) (.head _) (dW kr ?_);have g:=g.f1.t;refine aE (aK (bM ?_));obtain rfl:=sI i;have i:=x;refine aV (aV ?_);obtain rfl:=sI i;exact aN [6] [vT s4] ⟨H,M,R,rfl,(q.t s).t v,g.f1.t.f1.t.f1.t,Z⟩
    intro A i;refine aB 2 [(41,vB (o.2==4))] (aH i ?_ ?_)
    .intro A i;refine aG (eA [(6,fun w'=>Inv n w'/\Piece.holds n w' (kB c #[vP bp0 0] 23)/\True)] kr g fun d0 _ g=> ?_);have b:=n.le_refl;refine⟨⟨.inr ⟨Inv.anti g.inv b,Piece.holds_anti g.t.t.t.h b,trivial⟩,trivial⟩,?_⟩;refine dY 23 3 0 43 0 (vP bp0 0) (.head _) (fun _ h=>h.2.1) (bU 1 kr (iO 44 i (fun _ h=>VU g h) ?_));rintro y8 i _ d2 ⟨b0,b8,b9,rfl,s,g,Y⟩;refine⟨_,rfl,?_⟩;have b:=Mem.le_trans b s;refine⟨⟨.inr ⟨Inv.anti g.inv b,Piece.holds_anti g.t.t.t.t.h b,trivial⟩,trivial⟩,?_⟩;refine bU 2 kr (iO 45 i (fun _ h=>mF (p0:=o.1) g.f1 (p.mono s) Y h) ?_);rintro y9 i _ d5 ⟨H,M,R,rfl,v,g,Z⟩;refine⟨_,rfl,?_⟩;have b:=Mem.le_trans b v;refine⟨⟨.inr ⟨Inv.anti g.inv b,Piece.holds_anti g.t.t.t.t.h b,trivial⟩,trivial⟩,?_⟩;refine eJ 9 9 ((.const (vT (⟨#[101,110,118,40,34]⟩:BA)))) 45 3 46 (.head _) i fun s5 i=> ?_;refine eJ 9 9 46 ((.const (vT b1p))) 4 47 (.head _) i fun s6 i=> ?_;refine aJ 5 6 (vT s6) (.head _) (dW kr ?_);have g:=g.f1.t;refine aE (aK (bM ?_));obtain rfl:=sI i;have i:=x;refine aV (aV ?_);obtain rfl:=sI i;exact aN [6] [vT s6] ⟨H,M,R,rfl,(q.t s).t v,g.f1.t.f1.t.f1.t,Z⟩
    intro A i;refine aB 2 [(48,vB (o.2==5))] (aH i ?_ ?_)
    .intro A i;refine aD (bA 50 (vP bp0 0) g.t.t.t.h (aR 51 i (tW (p0:=o.1) g p) ?_));rintro R i _ d8 ⟨Y,b0,b9,rfl,b,g,M⟩;refine aO (aH i ?_ ?_)
     .intro A i;refine aD (bA 52 (vP bp0 0) g.t.t.t.h (eD 53 3 3 (aT .i64) [(0:Int),1,63] g fun b4 d6 d9 s g d2=>(aR 54 i (tX (p0:=R.1) g.f1 (M.mono s) d2) ?_)));rintro e2 i _ e0 ⟨Z,b8,d7,rfl,H,g,d5⟩;refine aR 55 i (MJ g) ?_;rintro e4 i _ e1 ⟨d0,rfl,v,g⟩;refine dX 56 i fun s7 i=> ?_;refine dX 57 i fun s8 i=> ?_;refine aA 1 [(6,vT s8)] (aU rfl ?_);have g:=g.f1.t;refine aE (aK (bM ?_));obtain rfl:=sI i;have i:=x;refine aV (aV ?_);obtain rfl:=sI i;exact aN [6] [vT s8] ⟨Z,b8,d0,rfl,(((q.t b).t s).t H).t v,g.f1.t.f1.t.f1.t,d5.mono v⟩
     intro A i;refine aM (bO ?_);have B:=jF i;exact xE (y _ _ ⟨R.1,Y,b0,b9,B,rfl,q.t b,g.f3.f3.f3.f3,M,f.mono b⟩)
    intro A i;refine aM (bO ?_);have B:=jF i;exact xE (y _ _ ⟨o.1,F,G,n,B,rfl,q,g.f3.f3.f3.f3,p,f⟩)
   intro V i b;refine aH i ?_ ?_
   .intro A i;refine aM ?_;cases i;exact xE (b _ _ ⟨m6,rfl,q.t u,g.f3.f3.f3.f3,p,f.mono u⟩)
   intro A i;refine aZ (aA 2 [(18,vB (o.2==1))] (aU rfl ?_));cases i;exact xE (b _ _ ⟨m6,rfl,q.t u,g.f3.f3.f3.f3,p,f.mono u⟩)
  intro A i;refine aM (aE (aB 2 [(7,.func (.func 131) #[] #[vP c 0,vP l 0,vP k 0])] (aG (aD (bA 63 (vP bp0 0) g.t.t.h (aR 64 i (lO (p0:=E.2) g.f3 r3) ?_))))));rintro o i _ g7 ⟨d0,d1,b0,rfl,R,g,v⟩;have q:=q.t R;have f:=f.mono R;refine aO (bJ (aG (aB 2 [(65,vB (o.2==0))] (cY .normal i (fun o4 L' w'=>∃s,L'=[(3,vP c 0),(7,.func (.func 131) #[] #[vP c 0,vP l 0,vP k 0]),(64,vI o.2),(65,vB o4)]/\m.le s/\St s (kB bp0 (V1 o.1 d0 d1) 25::kB k #[vS a2 p2 c2] 26::kB l #[vI p1] 3::kB c #[vP bp0 0] 23::O) w'/\RepS (aT .i64) s d0 d1 o.1.1/\RepS aF s a2 c2 p2) ?_ ?_))))
  .rintro o4 i _ g8 ⟨s,rfl,q,g,v,f⟩;refine aE (aH i ?_ ?_)
   .intro A i;refine aG (eA [(8,fun w'=>Inv s w'/\Piece.holds s w' (kB c #[vP bp0 0] 23)/\True)] kr g fun g9 _ g=> ?_);have b:=s.le_refl;refine⟨⟨.inr ⟨Inv.anti g.inv b,Piece.holds_anti g.t.t.t.h b,trivial⟩,trivial⟩,?_⟩;refine dY 23 3 0 69 0 (vP bp0 0) (.head _) (fun _ h=>h.2.1) (aJ 4 73 (.func (.func 131) #[] #[vP c 0,vP l 0,vP k 0]) (.head _) (bU 1 kr (iO 70 i (fun _ h=>MF g h) ?_)));rintro h7 i _ h0 ⟨f5,f8,g1,rfl,p,g,e6⟩;refine⟨_,rfl,?_⟩;have b:=Mem.le_trans b p;refine⟨⟨.inr ⟨Inv.anti g.inv b,Piece.holds_anti g.t.t.t.t.h b,trivial⟩,trivial⟩,?_⟩;refine bU 2 kr (iO 71 i (fun _ h=>mF (p0:=o.1) g.f1 (v.mono p) e6 h) ?_);rintro f4 i _ h1 ⟨f6,f9,g2,rfl,y,g,e7⟩;refine⟨_,rfl,?_⟩;have f:=(f.mono p).mono y;have b:=Mem.le_trans b y;refine⟨⟨.inr ⟨Inv.anti g.inv b,Piece.holds_anti g.t.t.t.t.h b,trivial⟩,trivial⟩,?_⟩;refine eJ 9 9 71 ((.const (vT EO))) 3 72 (.head _) i fun s9 i=> ?_;refine bU 5 kr (cS 74 131 #[vP c 0,vP l 0,vP k 0] kr rfl (bK func131 rfl ntmps131 (aB 1 [] (aD (bA 4 (vP bp0 0) g.t.t.t.t.h (bA 5 (vI p1) g.t.t.t.h (aA 1 [(6,vI (wr (p1-1)))] (bA 7 (vS a2 p2 c2) g.t.t.h (aR 8 i (a (p0:=f4.1) g e7 f) ?_)))))))));rintro b8 i _ h2 ⟨f7,g0,g3,rfl,z,g,e8⟩;have b:=Mem.le_trans b z;refine aI 1 [(3,vT b8.2)] (aK (aN [3] [vT b8.2] (⟨_,rfl,?_⟩)))
    refine⟨⟨.inr ⟨Inv.anti g.inv b,Piece.holds_anti g.t.t.t.t.h b,trivial⟩,trivial⟩,?_⟩;refine eJ 9 9 72 74 6 75 (.head _) i fun d5 i=> ?_;refine aJ 7 8 (vT d5) (.head _) (dW kr ?_);have g:=g.f1.t;refine aE (aG (aD (bA 76 (vP bp0 0) g.t.t.t.h (eD 77 3 4 (aT .i64) [(0:Int),0,0,1] g fun b6 g4 h3 B g e9=>(aR 78 i (tX (p0:=b8.1) g.f1 (e8.mono B) e9) ?_)))));rintro V i _ h4 ⟨d9,e1,e4,rfl,S,g,f0⟩;refine aA 1 [(9,vI V.2)] (aU rfl ?_);have g:=g.f1.t;refine aE (bJ (cY (.exit 2) i (fun D L' w'=>∃(Z:Tm),∃F H u,Z=D/\L'=[(8,vT Z.1)]/\m.le u/\St u (kB bp0 (V1 Z.2 F H) 25::kB k #[vS a2 p2 c2] 26::kB l #[vI p1] 3::kB c #[vP bp0 0] 23::O) w'/\RepS (aT .i64) u F H Z.2.1/\RepS aF u a2 c2 p2) ?_ ?_))
    .rintro D i _ G ⟨Z,F,H,u,rfl,rfl,q,g,x,f⟩;refine dT (aE (aX 1 [(88,vT Z.1)] (dX 89 i fun n i=>(aI 1 [(6,vT n)] (aK (bM (aV ?_)))))));obtain rfl:=sI i;exact aN [6] [vT n] ⟨F,H,u,rfl,q,g.f1.t.f1.t.f1.t,x⟩
    intro D i b9;refine dQ _ kr (dP (fun k1 L' w'=>∃(n:T25),∃G M x,aS (BU N R8 p1 p2) k1 n=some D/\L'=[(7,.func (.func 131) #[] #[vP c 0,vP l 0,vP k 0]),(8,vT n.1),(9,vI n.2.1)]/\m.le x/\St x (kB bp0 (V1 n.2.2 G M) 25::kB k #[vS a2 p2 c2] 26::kB l #[vI p1] 3::kB c #[vP bp0 0] 23::O) w'/\RepS (aT .i64) x G M n.2.2.1/\RepS aF x a2 c2 p2) N ⟨(d5,V.2,V.1.1,V.1.2),d9,e1,e4,i,rfl,((((q.t p).t y).t z).t B).t S,g.f3.f3.f3.f3,f0,((f.mono z).mono B).mono S⟩ ?_);rintro k1 _ h5 ⟨n,G,M,x,hL,rfl,q,g,d2,f⟩;rcases k1 with _|k1
    .exact dU hL
    obtain⟨g5,i,d8,d7⟩:=dV hL;clear hL;unfold BU at i;refine aG (aB 2 [(80,vB (decide (n.2.1>0)))] (aH i ?_ ?_))
    .intro A i;refine aM (aE (aG (bJ (aZ (aA 2 [(83,vT n.1),(84,.func (.func 131) #[] #[vP c 0,vP l 0,vP k 0])] (aQ rfl (cS 85 131 #[vP c 0,vP l 0,vP k 0] kr rfl (bK func131 rfl ntmps131 (aB 1 [] (aD (bA 4 (vP bp0 0) g.t.t.t.h (bA 5 (vI p1) g.t.t.h (aA 1 [(6,vI (wr (p1-1)))] (bA 7 (vS a2 p2 c2) g.t.h (aR 8 i (a (p0:=n.2.2) g d2 f) ?_)))))))))))))));rintro Y i _ h6 ⟨e0,e2,e5,rfl,U,g,f2⟩;refine aI 1 [(3,vT Y.2)] (aK (aN [3] [vT Y.2] (⟨_,rfl,?_⟩)));refine dX 86 i fun g6 i=> ?_;refine dX 87 i fun d6 i=> ?_;refine aA 1 [(8,vT d6)] (aU rfl (bO (aE (aZ (aA 3 [(9,vI (wr (n.2.1-1)))] (aU rfl ?_))))));have hL:=d8 _ (sI i);exact xE (dN ⟨(d6,wr (n.2.1-1),Y.1.1,Y.1.2),e0,e2,e5,hL,rfl,q.t U,g.f3.f3.f3.f3,f2,f.mono U⟩)
    intro A i;refine dO (bS ?_);have ho:=d7 _ (sI i);have g:=g.f3.f3.f3.f3;refine bS ?_;exact xE (b9 _ _ ⟨(n.1,n.2.2.1,n.2.2.2),G,M,x,ho,rfl,q,g,d2,f⟩)
   intro A i;refine aB 2 [(90,vB (o.2==3))] (aH i ?_ ?_)
   .intro A i;refine aX 1 [(92,.func (.func 131) #[] #[vP c 0,vP l 0,vP k 0])] ?_;refine aQ rfl (cS 93 131 #[vP c 0,vP l 0,vP k 0] kr rfl (bK func131 rfl ntmps131 (aB 1 [] (aD (bA 4 (vP bp0 0) g.t.t.t.h (bA 5 (vI p1) g.t.t.h (aA 1 [(6,vI (wr (p1-1)))] (bA 7 (vS a2 p2 c2) g.t.h (aR 8 i (a (p0:=o.1) g v f) ?_)))))))));rintro p i _ d8 ⟨S,V,Z,rfl,b,g,G⟩;have f:=f.mono b;refine aI 1 [(3,vT p.2)] (aK (aN [3] [vT p.2] (⟨_,rfl,?_⟩)));refine dX 94 i fun b9 i=> ?_;refine dX 95 i fun d2 i=> ?_;refine aA 1 [(96,.func (.func 131) #[] #[vP c 0,vP l 0,vP k 0])] (aQ rfl (cS 97 131 #[vP c 0,vP l 0,vP k 0] kr rfl (bK func131 rfl ntmps131 (aB 1 [] (aD (bA 4 (vP bp0 0) g.t.t.t.h (bA 5 (vI p1) g.t.t.h (aA 1 [(6,vI (wr (p1-1)))] (bA 7 (vS a2 p2 c2) g.t.h (aR 8 i (a (p0:=p.1) g G f) ?_))))))))));rintro u i _ d9 ⟨U,Y,b8,rfl,n,g,H⟩;refine aI 1 [(3,vT u.2)] (aK (aN [3] [vT u.2] (⟨_,rfl,?_⟩)));refine dX 98 i fun d5 i=> ?_;refine dX 99 i fun d6 i=> ?_;refine aA 1 [(100,.func (.func 131) #[] #[vP c 0,vP l 0,vP k 0])] (aQ rfl (cS 101 131 #[vP c 0,vP l 0,vP k 0] kr rfl (bK func131 rfl ntmps131 (aB 1 [] (aD (bA 4 (vP bp0 0) g.t.t.t.h (bA 5 (vI p1) g.t.t.h (aA 1 [(6,vI (wr (p1-1)))] (bA 7 (vS a2 p2 c2) g.t.h (aR 8 i (a (p0:=u.1) g H (f.mono n)) ?_))))))))));rintro z i _ e0 ⟨B,D,F,rfl,x,g,M⟩
    refine aI 1 [(3,vT z.2)] (aK (aN [3] [vT z.2] (⟨_,rfl,?_⟩)));refine dX 102 i fun d7 i=> ?_;refine dX 103 i fun y i=> ?_;refine aI 1 [(6,vT y)] (aK (bM (aV ?_)));obtain rfl:=sI i;exact aN [6] [vT y] ⟨B,D,F,rfl,((q.t b).t n).t x,g.f1.t.f1.t.f1.t,M⟩
   intro A i;refine aB 2 [(104,vB (o.2==4))] (aH i ?_ ?_)
   .intro A i;refine aG (eA [(10,fun w'=>Inv s w'/\Piece.holds s w' (kB c #[vP bp0 0] 23)/\True)] kr g fun d6 _ g=> ?_);have b:=s.le_refl;refine⟨⟨.inr ⟨Inv.anti g.inv b,Piece.holds_anti g.t.t.t.h b,trivial⟩,trivial⟩,?_⟩;refine dY 23 3 0 106 0 (vP bp0 0) (.head _) (fun _ h=>h.2.1) (aJ 5 111 (.func (.func 131) #[] #[vP c 0,vP l 0,vP k 0]) (.head _) (bU 1 kr (iO 107 i (fun _ h=>FB g h) ?_)));rintro e0 i _ d7 ⟨S,V,Z,rfl,n,g,F⟩;refine⟨_,rfl,?_⟩;have b:=Mem.le_trans b n;refine⟨⟨.inr ⟨Inv.anti g.inv b,Piece.holds_anti g.t.t.t.t.h b,trivial⟩,trivial⟩,?_⟩;refine bU 2 kr (iO 108 i (fun _ h=>mF (p0:=o.1) g.f1 (v.mono n) F h) ?_);rintro M i _ d8 ⟨U,Y,b8,rfl,p,g,G⟩;refine⟨_,rfl,?_⟩;have b:=Mem.le_trans b p;refine⟨⟨.inr ⟨Inv.anti g.inv b,Piece.holds_anti g.t.t.t.t.h b,trivial⟩,trivial⟩,?_⟩;refine eJ 9 9 ((.const (vT (⟨#[114,101,97,100,40,34]⟩:BA)))) 108 3 109 (.head _) i fun b9 i=> ?_;refine eJ 9 9 109 ((.const (vT (⟨#[34,44,32]⟩:BA)))) 4 110 (.head _) i fun d2 i=> ?_;refine bU 6 kr (cS 112 131 #[vP c 0,vP l 0,vP k 0] kr rfl (bK func131 rfl ntmps131 (aB 1 [] (aD (bA 4 (vP bp0 0) g.t.t.t.t.h (bA 5 (vI p1) g.t.t.t.h (aA 1 [(6,vI (wr (p1-1)))] (bA 7 (vS a2 p2 c2) g.t.t.h (aR 8 i (a (p0:=M.1) g G ((f.mono n).mono p)) ?_)))))))));rintro y i _ d9 ⟨z,B,D,rfl,u,g,H⟩
    have b:=Mem.le_trans b u;refine aI 1 [(3,vT y.2)] (aK (aN [3] [vT y.2] (⟨_,rfl,?_⟩)));refine⟨⟨.inr ⟨Inv.anti g.inv b,Piece.holds_anti g.t.t.t.t.h b,trivial⟩,trivial⟩,?_⟩;refine eJ 9 9 110 112 7 113 (.head _) i fun d5 i=> ?_;refine eJ 9 9 113 ((.const (vT EQ))) 8 114 (.head _) i fun x i=> ?_;refine aJ 9 6 (vT x) (.head _) (dW kr ?_);have g:=g.f1.t;refine aE (aK (bM (aV ?_)));obtain rfl:=sI i;exact aN [6] [vT x] ⟨z,B,D,rfl,((q.t n).t p).t u,g.f1.t.f1.t.f1.t,H⟩
   intro A i;refine aB 2 [(115,vB (o.2==5))] (aH i ?_ ?_)
   .intro A i;refine aX 1 [(117,.func (.func 131) #[] #[vP c 0,vP l 0,vP k 0])] ?_;refine aQ rfl (cS 118 131 #[vP c 0,vP l 0,vP k 0] kr rfl (bK func131 rfl ntmps131 (aB 1 [] (aD (bA 4 (vP bp0 0) g.t.t.t.h (bA 5 (vI p1) g.t.t.h (aA 1 [(6,vI (wr (p1-1)))] (bA 7 (vS a2 p2 c2) g.t.h (aR 8 i (a (p0:=o.1) g v f) ?_)))))))));rintro p i _ D ⟨u,x,y,rfl,b,g,z⟩;refine aI 1 [(3,vT p.2)] (aK (aN [3] [vT p.2] (⟨_,rfl,?_⟩)));refine dX 119 i fun B i=> ?_;refine dX 120 i fun n i=> ?_;refine aI 1 [(6,vT n)] (aK (bM (aV ?_)));obtain rfl:=sI i;exact aN [6] [vT n] ⟨u,x,y,rfl,q.t b,g.f1.t.f1.t.f1.t,z⟩
   intro A i;refine aM (bO (aE (aG (eA [(14,fun w'=>Inv s w'/\Piece.holds s w' (kB c #[vP bp0 0] 23)/\True)] kr g fun e7 _ g=> ?_))));have b:=s.le_refl;refine⟨⟨.inr ⟨Inv.anti g.inv b,Piece.holds_anti g.t.t.t.h b,trivial⟩,trivial⟩,?_⟩;refine aJ 0 121 (.func (.func 131) #[] #[vP c 0,vP l 0,vP k 0]) (.head _) (dY 23 3 4 125 0 (vP bp0 0) (.head _) (fun _ h=>h.2.1) (aJ 9 130 (.func (.func 131) #[] #[vP c 0,vP l 0,vP k 0]) (.head _) (TF [1,5] kr (by simp) (SR ?_ ?_))))
   .refine cS 122 131 #[vP c 0,vP l 0,vP k 0] kr rfl ?_;refine bK func131 rfl ntmps131 ?_;refine aB 1 [] (aD ?_);refine bA 4 (vP bp0 0) g.t.t.t.h ?_;refine bA 5 (vI p1) g.t.t.h ?_;refine aA 1 [(6,vI (wr (p1-1)))] (bA 7 (vS a2 p2 c2) g.t.h (aR 8 i (a (p0:=o.1) g v f) ?_));rintro y i _ e2 ⟨Y,b8,d2,rfl,p,g,H⟩;have b:=Mem.le_trans b p;refine aI 1 [(3,vT y.2)] (aK (aN [3] [vT y.2] (⟨_,rfl,?_⟩)));refine⟨⟨.inr ⟨Inv.anti g.inv b,Piece.holds_anti g.t.t.t.h b,trivial⟩,trivial⟩,?_⟩;refine eJ 9 9 ((.const (vT EO))) 122 2 123 (.head _) i fun d7 i=> ?_;refine eJ 9 9 123 ((.const (vT (⟨#[41,32]⟩:BA)))) 3 124 (.head _) i fun d8 i=> ?_;refine bU 5 kr (mG (d:=126) (t:=26) (e:=9) (len:=7) (parts:= #[(0,(.const (vT pZ))),(1,(.const (vT pY))),(2,(.const (vT pR))),(3,(.const (vT pW))),(4,(.const (vT pX))),(5,(.const (vT pT))),(6,(.const (vT pU)))]) aF (xs:=[pZ,pY,pR,pW,pX,pT,pU]) [vT pZ,vT pY,vT pR,vT pW,vT pX,vT pT,vT pU] kr rfl (fun _=>lZ kr _) rfl rfl g ⟨[vT pZ],_,rfl,rfl,⟨[vT pY],_,rfl,rfl,⟨[vT pR],_,rfl,rfl,⟨[vT pW],_,rfl,rfl,⟨[vT pX],_,rfl,rfl,⟨[vT pT],_,rfl,rfl,⟨[vT pU],_,rfl,rfl,rfl⟩⟩⟩⟩⟩⟩⟩ fun b7 d5 e4 n g M=> ?_);have b:=Mem.le_trans b n;refine⟨⟨.inr ⟨Inv.anti g.inv b,Piece.holds_anti g.t.t.t.t.h b,trivial⟩,trivial⟩,?_⟩
    refine bU 6 kr (iO 127 i (fun _ h=>mF (p0:=y.1) g.f1 (H.mono n) M h) ?_);rintro V i _ e5 ⟨Z,b9,d6,rfl,u,g,S⟩;refine⟨_,rfl,?_⟩;have b:=Mem.le_trans b u;refine⟨⟨.inr ⟨Inv.anti g.inv b,Piece.holds_anti g.t.t.t.t.h b,trivial⟩,trivial⟩,?_⟩;refine eJ 9 9 124 127 7 128 (.head _) i fun d9 i=> ?_;refine eJ 9 9 128 ((.const (vT (⟨#[32,40]⟩:BA)))) 8 129 (.head _) i fun e0 i=> ?_;refine bU 10 kr (cS 131 131 #[vP c 0,vP l 0,vP k 0] kr rfl (bK func131 rfl ntmps131 (aB 1 [] (aD (bA 4 (vP bp0 0) g.t.t.t.t.h (bA 5 (vI p1) g.t.t.t.h (aA 1 [(6,vI (wr (p1-1)))] (bA 7 (vS a2 p2 c2) g.t.t.h (aR 8 i (a (p0:=V.1) g S (((f.mono p).mono n).mono u)) ?_)))))))));rintro B i _ e6 ⟨D,F,G,rfl,x,g,U⟩;have b:=Mem.le_trans b x;refine aI 1 [(3,vT B.2)] (aK (aN [3] [vT B.2] (⟨_,rfl,?_⟩)));refine⟨⟨.inr ⟨Inv.anti g.inv b,Piece.holds_anti g.t.t.t.t.h b,trivial⟩,trivial⟩,?_⟩;refine eJ 9 9 129 131 11 132 (.head _) i fun e1 i=> ?_;refine eJ 9 9 132 ((.const (vT EQ))) 12 133 (.head _) i fun z i=> ?_;refine aJ 13 6 (vT z) (.head _) (dW kr ?_);have g:=g.f1.t;refine aE (aK ?_);obtain rfl:=sI i;exact aN [6] [vT z] ⟨D,F,G,rfl,(((q.t p).t n).t u).t x,g.f1.t.f1.t.f1.t,U⟩
   refine mG (d:=126) (t:=26) (e:=9) (len:=7) (parts:= #[(0,(.const (vT pZ))),(1,(.const (vT pY))),(2,(.const (vT pR))),(3,(.const (vT pW))),(4,(.const (vT pX))),(5,(.const (vT pT))),(6,(.const (vT pU)))]) aF (xs:=[pZ,pY,pR,pW,pX,pT,pU]) [vT pZ,vT pY,vT pR,vT pW,vT pX,vT pT,vT pU] kr rfl (fun _=>lZ kr _) rfl rfl g ⟨[vT pZ],_,rfl,rfl,⟨[vT pY],_,rfl,rfl,⟨[vT pR],_,rfl,rfl,⟨[vT pW],_,rfl,rfl,⟨[vT pX],_,rfl,rfl,⟨[vT pT],_,rfl,rfl,⟨[vT pU],_,rfl,rfl,rfl⟩⟩⟩⟩⟩⟩⟩ fun b7 d2 e2 p g H=> ?_;have f:=f.mono p;have b:=Mem.le_trans b p;refine⟨⟨.inr ⟨Inv.anti g.inv b,Piece.holds_anti g.t.t.t.t.h b,trivial⟩,trivial⟩,?_⟩;refine bU 1 kr (cS 122 131 #[vP c 0,vP l 0,vP k 0] kr rfl (bK func131 rfl ntmps131 (aB 1 [] (aD (bA 4 (vP bp0 0) g.t.t.t.t.h (bA 5 (vI p1) g.t.t.t.h (aA 1 [(6,vI (wr (p1-1)))] (bA 7 (vS a2 p2 c2) g.t.t.h (aR 8 i (a (p0:=o.1) g.f1 (v.mono p) f) ?_)))))))));rintro y i _ e4 ⟨Y,b8,d5,rfl,n,g,M⟩;have b:=Mem.le_trans b n;refine aI 1 [(3,vT y.2)] (aK (aN [3] [vT y.2] (⟨_,rfl,?_⟩)));refine⟨⟨.inr ⟨Inv.anti g.inv b,Piece.holds_anti g.t.t.t.t.h b,trivial⟩,trivial⟩,?_⟩;refine eJ 9 9 ((.const (vT EO))) 122 2 123 (.head _) i fun d7 i=> ?_;refine eJ 9 9 123 ((.const (vT (⟨#[41,32]⟩:BA)))) 3 124 (.head _) i fun d8 i=> ?_
   refine bU 6 kr (iO 127 i (fun _ h=>mF (p0:=y.1) g M (H.mono n) h) ?_);rintro V i _ e5 ⟨Z,b9,d6,rfl,u,g,S⟩;refine⟨_,rfl,?_⟩;have b:=Mem.le_trans b u;refine⟨⟨.inr ⟨Inv.anti g.inv b,Piece.holds_anti g.t.t.t.t.h b,trivial⟩,trivial⟩,?_⟩;refine eJ 9 9 124 127 7 128 (.head _) i fun d9 i=> ?_;refine eJ 9 9 128 ((.const (vT (⟨#[32,40]⟩:BA)))) 8 129 (.head _) i fun e0 i=> ?_;refine bU 10 kr (cS 131 131 #[vP c 0,vP l 0,vP k 0] kr rfl (bK func131 rfl ntmps131 (aB 1 [] (aD (bA 4 (vP bp0 0) g.t.t.t.t.h (bA 5 (vI p1) g.t.t.t.h (aA 1 [(6,vI (wr (p1-1)))] (bA 7 (vS a2 p2 c2) g.t.t.h (aR 8 i (a (p0:=V.1) g S ((f.mono n).mono u)) ?_)))))))));rintro B i _ e6 ⟨D,F,G,rfl,x,g,U⟩;have b:=Mem.le_trans b x;refine aI 1 [(3,vT B.2)] (aK (aN [3] [vT B.2] (⟨_,rfl,?_⟩)));refine⟨⟨.inr ⟨Inv.anti g.inv b,Piece.holds_anti g.t.t.t.t.h b,trivial⟩,trivial⟩,?_⟩;refine eJ 9 9 129 131 11 132 (.head _) i fun e1 i=> ?_;refine eJ 9 9 132 ((.const (vT EQ))) 12 133 (.head _) i fun z i=> ?_;refine aJ 13 6 (vT z) (.head _) (dW kr ?_);have g:=g.f1.t;refine aE (aK ?_);obtain rfl:=sI i;exact aN [6] [vT z] ⟨D,F,G,rfl,(((q.t p).t n).t u).t x,g.f1.t.f1.t.f1.t,U⟩
  intro o4 i b;refine aH i ?_ ?_
  .intro A i;refine aM ?_;cases i;exact xE (b _ _ ⟨b0,rfl,q,g.f3.f3.f3.f3,v,f⟩)
  intro A i;refine aB 2 [(65,vB (o.2==1))] (aH i ?_ ?_)
  .intro A i;refine aM ?_;cases i;exact xE (b _ _ ⟨b0,rfl,q,g.f3.f3.f3.f3,v,f⟩)
  intro A i;refine aZ (aA 2 [(65,vB (o.2==2))] (aU rfl ?_));cases i;exact xE (b _ _ ⟨b0,rfl,q,g.f3.f3.f3.f3,v,f⟩)
 intro E i K;refine bA 10 (vI p1) g.t.h ?_;refine aA 2 [(12,vB (decide (p1<=0)))] (bW 12 i ?_ ?_)
 .intro A i;refine aA 3 [(15,vB true)] ?_;cases i;exact bE _ kr (K _ _ ⟨a1,c1,m,rfl,q,g.f3.f3.f3.f3,f,r1⟩)
 intro A i;refine bA 13 (vP bp0 0) g.t.t.h ?_;refine aR 14 i (tW (p0:=p0) g.f3 r1) ?_;rintro y1 i _ u ⟨n,o,p,rfl,b,g,s⟩;refine aA 1 [(15,vB y1.2)] ?_;cases i;exact bE _ kr (K _ _ ⟨n,o,p,rfl,q.t b,g.f3.f3.f3,f.mono b,s⟩)
theorem MK(N:Nat):∀D:Nat,(∀{m:Mem} {O:List Piece} {w:World} {p0:Tc} {p1:Int} {p2:Te} {a:Nat} {d:Option Addr} {h:Nat} {f:Option Addr} {k:Nat} {r:Tf} (g:St m (kB a (V1 p0 d h) 25::O) w) (l:RepS (aT .i64) m d h p0.1) (n:RepS aF m f k p2) (i:(BV N D) p0 p1 p2=some r),Calls prog 92 #[vP a 0,vI p1,vS f p2 k] w fun e w'=>∃b c m',e= .returned (vT r.2)/\m.le m'/\St m' (kB a (V1 r.1 b c) 25::O) w'/\RepS (aT .i64) m' b c r.1.1)
 |0=>fun _ _ _ i=>(by cases i)
 |D+1=>fun g l n i=>WD (MK N D) g l n i
theorem HV{p0:Tc}{p1:Int}{p2:Te}{r:Tf}(g:St m (kB bp0 (V1 p0 a1 c1) 25::O) w)(c:RepS (aT .i64) m a1 c1 p0.1)(d:RepS aF m a2 c2 p2)(i:vH N p0 p1 p2=some r):Calls prog 92 #[vP bp0 0,vI p1,vS a2 p2 c2] w fun e w'=>∃a b m',e= .returned (vT r.2)/\m.le m'/\St m' (kB bp0 (V1 r.1 a b) 25::O) w'/\RepS (aT .i64) m' a b r.1.1:=
 (MK N N) g c d i
def yE(N:Nat)(p0:Tc):Tg:=
 (iM N p0 8).bind fun y1=>(if(y1.2==0)=true then(some (y1.2==0)) else(if(y1.2==1)=true then(some (y1.2==1)) else(some (y1.2==2))):Tl).bind fun a=>if a=true then((FG N).bind fun a=>(lA N y1.1 a).bind fun a=>(bR (⟨#[116,101,115,116,32]⟩:BA) a.2).bind fun b=>(bR b (⟨#[32,61,32]⟩:BA)).bind fun b=>(vH N a.1 3 ([]:Te)).bind fun a=>(bR b a.2).bind fun b=>(bR b (⟨#[59,10]⟩:BA)).bind fun b=>some (a.1,b)) else(if(y1.2==3)=true then((sR N).bind fun a=>(lA N y1.1 a).bind fun a=>(bR (⟨#[103,101,110,32,34]⟩:BA) a.2).bind fun b=>(bR b (⟨#[34,32,61,32]⟩:BA)).bind fun b=>(vH N a.1 2 ([]:Te)).bind fun a=>(bR b a.2).bind fun b=>(bR b (⟨#[59,10]⟩:BA)).bind fun b=>some (a.1,b)) else((qA N y1.1 1 5).bind fun a=>(if a.2=true then((cF 16 ([(⟨#[97]⟩:BA)]) ([(⟨#[98]⟩:BA)])).bind fun b=>some b) else(some ([(⟨#[97]⟩:BA)])):Tz).bind fun c=>(xX N).bind fun b=>(lA N a.1 b).bind fun b=>(bR (⟨#[102,117,110,99,32]⟩:BA) b.2).bind fun a=>(bR a (⟨#[40,97]⟩:BA)).bind fun a=>(if((List.length c:Int)==2)=true then((bR a (⟨#[44,32,98]⟩:BA)).bind fun d=>some d) else(some a):rM).bind fun a=>(bR a (⟨#[41,32,61,32]⟩:BA)).bind fun d=>(vH N b.1 3 c).bind fun a=>(bR d a.2).bind fun b=>(bR b (⟨#[59,10]⟩:BA)).bind fun b=>some (a.1,b)))
theorem WT{p0:Tc}{r:Tf}(g:St m (kB bp0 (V1 p0 a1 c1) 25::O) w)(r1:RepS (aT .i64) m a1 c1 p0.1)(i:yE N p0=some r):Calls prog 44 #[vP bp0 0] w fun e w'=>∃F G m',e= .returned (vT r.2)/\m.le m'/\St m' (kB bp0 (V1 r.1 F G) 25::O) w'/\RepS (aT .i64) m' F G r.1.1:=by
 unfold yE at i;have q:=m.le_refl;refine bK func44 rfl ntmps44 ?_;refine aB 1 [] (aG ?_);refine aX 1 [(5,vP bp0 0)] ?_;refine aR 6 i (lO (p0:=p0) g r1) ?_;rintro y1 i _ w1 ⟨Z,c2,S,rfl,R,g,o⟩;have q:=q.t R;refine aO (bJ (aG (aB 2 [(7,vB (y1.2==0))] (cY .normal i (fun U L' w'=>∃y,L'=[(0,vP bp0 0),(6,vI y1.2),(7,vB U)]/\m.le y/\St y (kB bp0 (V1 y1.1 Z c2) 25::O) w'/\RepS (aT .i64) y Z c2 y1.1.1) ?_ ?_))))
 .rintro U i _ w2 ⟨y,rfl,q,g,o⟩;refine aE (aH i ?_ ?_)
  .intro A i;refine aX 1 [(11,vP bp0 0)] ?_;refine aR 12 i (WL g) ?_;rintro y2 i _ M ⟨u,x,B,rfl,a,g,l⟩;refine aR 13 i (mF (p0:=y1.1) g.f1 (o.mono a) l) ?_;rintro s i _ V ⟨v,z,D,rfl,b,g,n⟩;refine dX 14 i fun E i=> ?_;refine dX 15 i fun H i=> ?_;refine aA 1 [(16,vP bp0 0)] (aR 17 i (HV (p0:=s.1) g n (RepS.nil _ _)) ?_);rintro y4 i _ Y ⟨f,h,k,rfl,c,g,p⟩;refine dX 18 i fun K i=> ?_;refine dX 19 i fun d i=> ?_;refine aA 1 [(2,vT d)] (aU rfl ?_);have g:=g.f1.t;refine aE (aK (bM (aV ?_)));obtain rfl:=sI i;exact aN [2] [vT d] ⟨f,h,k,rfl,((q.t a).t b).t c,g,p⟩
  intro A i;refine aB 2 [(20,vB (y1.2==3))] (aH i ?_ ?_)
  .intro A i;refine aX 1 [(22,vP bp0 0)] ?_;refine aR 23 i (FB g) ?_;rintro y5 i _ M ⟨u,x,B,rfl,a,g,l⟩;refine aR 24 i (mF (p0:=y1.1) g.f1 (o.mono a) l) ?_;rintro s i _ V ⟨v,z,D,rfl,b,g,n⟩;refine dX 25 i fun E i=> ?_;refine dX 26 i fun H i=> ?_;refine aA 1 [(27,vP bp0 0)] (aR 28 i (HV (p0:=s.1) g n (RepS.nil _ _)) ?_);rintro y7 i _ Y ⟨f,h,k,rfl,c,g,p⟩;refine dX 29 i fun K i=> ?_;refine dX 30 i fun d i=> ?_;refine aA 1 [(2,vT d)] (aU rfl ?_);have g:=g.f1.t;refine aE (aK (bM (aV ?_)));obtain rfl:=sI i;exact aN [2] [vT d] ⟨f,h,k,rfl,((q.t a).t b).t c,g,p⟩
  intro A i;refine aM (bO (aE (aD (eD 31 9 1 aF [bj] g fun M m9 w9 n g r9=>(aI 1 [(3,.slice (aP M) (List.length ([bj])) 1)] (aG (aX 1 [(32,vP bp0 0)] (aR 33 i (tW (p0:=y1.1) g.f1 (o.mono n)) ?_))))))));rintro V i _ d2 ⟨a9,c9,b3,rfl,h,g,p⟩;refine aO (cY .normal i (fun f L' w'=>∃b c k,L'=[(0,vP bp0 0),(3,vS b f c)]/\m.le k/\St k (kB bp0 (V1 V.1 a9 c9) 25::kR b f c 9 1::O) w'/\RepS aF k b c f/\RepS (aT .i64) k a9 c9 V.1.1) ?_ ?_)
  .rintro f i _ d3 ⟨b,c,k,rfl,q,g,s,p⟩;refine aE (aX 1 [(37,vP bp0 0)] (aR 38 i (MF g) ?_));rintro y9 i _ d4 ⟨b7,b8,b9,rfl,a,g,b5⟩;refine aR 39 i (mF (p0:=V.1) g.f1 (p.mono a) b5) ?_;rintro v i _ d5 ⟨B,D,E,rfl,d,g,u⟩;refine dX 40 i fun s9 i=> ?_;refine dX 41 i fun H i=> ?_;refine aA 1 [(4,vT H)] (aU rfl ?_);have g:=g.f1.t;refine aE (aG (aB 3 [(44,vB ((f.length:Int)==2))] (cY .normal i (fun z L' w'=>∃l,L'=[(0,vP bp0 0),(3,vS b f c),(4,vT z)]/\m.le l/\St l (kB bp0 (V1 v.1 B D) 25::kR b f c 9 1::O) w'/\RepS aF l b c f/\RepS (aT .i64) l B D v.1.1) ?_ ?_)))
   .rintro z i _ d6 ⟨l,rfl,q,g,s,u⟩;refine aE (aX 1 [(47,vT z)] (dX 48 i fun d0 i=>(aA 2 [(49,vP bp0 0),(50,vS b f c)] (aR 51 i (HV (p0:=v.1) g u s) ?_))));rintro d8 i _ d7 ⟨Y,b0,b4,rfl,x,g,b6⟩;refine dX 52 i fun d1 i=> ?_;refine dX 53 i fun K i=> ?_;refine aA 1 [(2,vT K)] (aU rfl ?_);have g:=g.f1.t;refine aE (aK ?_);obtain rfl:=sI i;exact aN [2] [vT K] ⟨Y,b0,b4,rfl,q.t x,g,b6⟩
   intro z i x;refine aH i ?_ ?_
   .intro A i;refine aZ (aA 1 [(45,vT H)] (dX 46 i fun K i=>(aA 1 [(4,vT K)] (aU rfl ?_))));cases i;exact xE (x _ _ ⟨E,rfl,(q.t a).t d,g.f1.f1,(s.mono a).mono d,u⟩)
   intro A i;refine aM ?_;cases i;exact xE (x _ _ ⟨E,rfl,(q.t a).t d,g.f1.f1,(s.mono a).mono d,u⟩)
  intro f i l;refine aH i ?_ ?_
  .intro A i;refine aZ (aA 1 [(34,.slice (aP M) (List.length ([bj])) 1)] (eD 35 9 1 aF [(⟨#[98]⟩:BA)] g fun K D E a g x=>(iG 36 26 26 9 16 34 35 g.f2 (.inl kr) ((r9.mono h).mono a) x.src i fun B i s u v H d g z=>(aA 1 [(3,vS s B u)] (aU rfl ?_)))));have g:=g.f1.t;cases i;exact xE (l _ _ ⟨s,u,v,rfl,(((q.t n).t h).t a).t d,g.f1,z,(p.mono a).mono d⟩)
  intro A i;refine aM ?_;obtain rfl:=sI i;exact xE (l _ _ ⟨(aP M),1,b3,rfl,(q.t n).t h,g.f1.f1,r9.mono h,p⟩)
 intro U i a;refine aH i ?_ ?_
 .intro A i;refine aM ?_;cases i;exact xE (a _ _ ⟨S,rfl,q,g,o⟩)
 intro A i;refine aB 2 [(7,vB (y1.2==1))] (aH i ?_ ?_)
 .intro A i;refine aM ?_;cases i;exact xE (a _ _ ⟨S,rfl,q,g,o⟩)
 intro A i;refine aZ (aA 2 [(7,vB (y1.2==2))] (aU rfl ?_));cases i;exact xE (a _ _ ⟨S,rfl,q,g,o⟩)
def EZ(N:Nat)(p1:BA)(a:AL):Option (AL⊕Tm):=
 if(decide (a.2.2.1>0))=true then(((FC N).bind fun b=>(lA N a.2.2.2 b).bind fun b=>(if(!(b.2.toList==p1.toList))=true then((vJ N a.2.1 b.2).bind fun c=>some (!c)) else(some false):Tl).bind fun o4=>if o4=true then((cF 16 a.2.1 ([b.2])).bind fun c=>(bR (⟨#[105,109,112,111,114,116,32]⟩:BA) b.2).bind fun d=>(bR d (⟨#[59,10]⟩:BA)).bind fun d=>(bR a.1 d).bind fun d=>some (d,c,b.1.1,b.1.2)) else(some (a.1,a.2.1,b.1.1,b.1.2)):Option (Td×Te×Tc)).bind fun b=>some (.inl (b.1,b.2.1,IntKind.wrap .i64 (a.2.2.1-1),b.2.2.1,b.2.2.2))) else(some (.inr (a.1,a.2.2.2.1,a.2.2.2.2)))
def BG(N:Nat)(b:Tf)(a:Tx):Option (Tx⊕Td):=
 if(decide (a.2<(ByteArray.size b.2:Int)))=true then(((nF b.2 a.2).bind fun x1=>if((x1.toNat:Int)==40)=true then(some true) else((nF b.2 a.2).bind fun c=>some ((c.toNat:Int)==61)):Tl).bind fun c=>if c=true then((mO b.2 0 a.2).bind fun b=>some (.inr b)) else(some (.inl (a.1,IntKind.wrap .i64 (a.2+1))))) else(some (.inr a.1))
def EY(N:Nat)(a:AL):Option (AL⊕Tm):=
 if(decide (a.2.2.1>0))=true then(((yE N a.2.2.2).bind fun b=>(aS (BG N b) N (b.2,0)).bind fun d=>((vJ N a.2.1 d).bind fun c=>if(!c)=true then(some (true,b.1.1,b.1.2)) else((qA N b.1 1 40).bind fun c=>some (c.2,c.1.1,c.1.2)):Option (Bool×Tc)).bind fun c=>if c.1=true then((cF 16 a.2.1 ([d])).bind fun d=>(bR a.1 b.2).bind fun b=>some (b,d,c.2.1,c.2.2)) else(some (a.1,a.2.1,c.2.1,c.2.2)):Option (Td×Te×Tc)).bind fun b=>some (.inl (b.1,b.2.1,IntKind.wrap .i64 (a.2.2.1-1),b.2.2.1,b.2.2.2))) else(some (.inr (a.1,a.2.2.2.1,a.2.2.2.2)))
def BZ(N:Nat)(p0:Tc)(p1:BA):Tg:=
 (bR (⟨#[112,97,99,107,97,103,101,32]⟩:BA) p1).bind fun a=>(bR a (⟨#[59,10]⟩:BA)).bind fun a=>(qA N p0 1 8).bind fun y1=>(if y1.2=true then((bR (⟨#[35,32,97,32,99,111,109,109,101,110,116,10]⟩:BA) a).bind fun b=>some b) else(some a):rM).bind fun b=>(iM N y1.1 3).bind fun a=>(aS (EZ N p1) N (b,([]:Te),a.2,a.1.1,a.1.2)).bind fun b=>(iM N b.2 5).bind fun a=>(aS (EY N) N (b.1,([]:Te),IntKind.wrap .i64 (1+a.2),a.1.1,a.1.2)).bind fun c=>(qA N c.2 1 30).bind fun a=>(if a.2=true then((lA N a.1 ([(⟨#[102,117,110,99]⟩:BA),(⟨#[125]⟩:BA),(⟨#[34]⟩:BA),(⟨#[116,101,115,116,32,116,32,61,32,49,59]⟩:BA),(⟨#[120]⟩:BA)])).bind fun b=>(bR c.1 b.2).bind fun d=>some (d,b.1.1,b.1.2)) else(some (c.1,a.1.1,a.1.2)):Option Tm).bind fun a=>some (a.2,a.1)
theorem WE{p0:Tc}{p1:BA}{r:Tf}(g:St m (kB bp0 (V1 p0 a1 c1) 25::O) w)(r1:RepS (aT .i64) m a1 c1 p0.1)(i:BZ N p0 p1=some r):Calls prog 11 #[vP bp0 0,vT p1] w fun e w'=>∃d5 d6 m',e= .returned (vT r.2)/\m.le m'/\St m' (kB bp0 (V1 r.1 d5 d6) 25::O) w'/\RepS (aT .i64) m' d5 d6 r.1.1:=by
 unfold BZ at i;have q:=m.le_refl;refine bK func11 rfl ntmps11 ?_;refine aB 1 [] (aD ?_);refine aA 1 [(14,vT p1)] (dX 15 i fun s1 i=>(dX 16 i fun s2 i=>(aI 1 [(5,vT s2)] (aG (aX 1 [(17,vP bp0 0)] (aR 18 i (tW (p0:=p0) g r1) ?_))))));rintro y1 i _ w1 ⟨a2,c2,m1,rfl,b7,g,r2⟩;refine aO (cY .normal i (fun o1 L' w'=>∃m2,L'=[(0,vP bp0 0),(1,vT p1),(5,vT o1)]/\m.le m2/\St m2 (kB bp0 (V1 y1.1 a2 c2) 25::O) w'/\RepS (aT .i64) m2 a2 c2 y1.1.1) ?_ ?_)
 .rintro o1 i _ w2 ⟨m2,rfl,q,g,r2⟩;refine aE (aB 1 [(6,va)] (aG (aX 1 [(21,vP bp0 0)] (aR 22 i (lO (p0:=y1.1) g r2) ?_))));rintro y2 i _ w3 ⟨a3,c3,m3,rfl,d9,g,r3⟩;refine aI 1 [(7,vI y2.2)] (bJ (cY (.exit 0) i (fun z L' w'=>∃(M:Tm),∃a4 c4 m4,M=z/\L'=[(0,vP bp0 0),(5,vT M.1)]/\m.le m4/\St m4 (kB bp0 (V1 M.2 a4 c4) 25::O) w'/\RepS (aT .i64) m4 a4 c4 M.2.1) ?_ ?_))
  .rintro z i _ w4 ⟨M,a4,c4,m4,rfl,rfl,q,g,r4⟩;refine dT (aE (aB 1 [(9,va)] (aG (aX 1 [(48,vP bp0 0)] (aR 49 i (lO (p0:=M.2) g r4) ?_)))));rintro y6 i _ f5 ⟨e1,e2,e4,rfl,e0,g,e7⟩;refine aI 2 [(10,vI (wr (1+y6.2)))] (bJ (cY (.exit 2) i (fun B L' w'=>∃(R:Tm),∃b5 b6 b4,R=B/\L'=[(0,vP bp0 0),(5,vT R.1)]/\m.le b4/\St b4 (kB bp0 (V1 R.2 b5 b6) 25::O) w'/\RepS (aT .i64) b4 b5 b6 R.2.1) ?_ ?_))
   .rintro B i _ V ⟨R,b5,b6,b4,rfl,rfl,q,g,E⟩;refine dT (aE (aG (aX 1 [(92,vP bp0 0)] (aR 93 i (tW (p0:=R.2) g E) ?_))));rintro S i _ Y ⟨p,u,y,rfl,h,g,o⟩;refine aO (cY .normal i (fun a L' w'=>∃c f b,L'=[(5,vT a.1)]/\m.le b/\St b (kB bp0 (V1 a.2 c f) 25::O) w'/\RepS (aT .i64) b c f a.2.1) ?_ ?_)
    .rintro a i _ l ⟨c,f,b,rfl,q,g,k⟩;refine aE (aB 2 [(4,vT a.1)] (aK ?_));cases i;exact aN [4] [vT a.1] ⟨c,f,b,rfl,q,g,k⟩
    intro a i l;refine aH i ?_ ?_
    .intro A i;refine aZ (aA 2 [(94,vT R.1),(95,vP bp0 0)] (eD 96 9 5 aF [bx,(⟨#[125]⟩:BA),bv,(⟨#[116,101,115,116,32,116,32,61,32,49,59]⟩:BA),bi] g fun b3 U Z k g F=>(aR 97 i (mF (p0:=S.1) g.f1 (o.mono k) F) ?_)));rintro b8 i _ b0 ⟨s,v,D,rfl,n,g,G⟩;refine dX 98 i fun H i=> ?_;refine aA 1 [(5,vT H)] (aU rfl ?_);have g:=g.f1.t;cases i;exact xE (l _ _ ⟨s,v,D,rfl,((q.t h).t k).t n,g,G⟩)
    intro A i;refine aM ?_;cases i;exact xE (l _ _ ⟨p,u,y,rfl,q.t h,g,o⟩)
   intro B i b9;have g:=(g.nilroom 9 1).front1;refine dQ _ kr (dP (fun k2 L' w'=>∃(a:AL),∃b c U Y v,aS (EY N) k2 a=some B/\L'=[(0,vP bp0 0),(5,vT a.1),(9,vS b a.2.1 c),(10,vI a.2.2.1)]/\m.le v/\St v (kB bp0 (V1 a.2.2.2 U Y) 25::kR b a.2.1 c 9 1::O) w'/\RepS aF v b c a.2.1/\RepS (aT .i64) v U Y a.2.2.2.1) N ⟨(M.1,([]:Te),wr (1+y6.2),y6.1.1,y6.1.2),none,0,e1,e2,e4,i,rfl,q.t e0,g,(RepS.nil _ _),e7⟩ ?_);rintro k2 _ f6 ⟨a,b,c,U,Y,v,hL,rfl,q,g,f,d3⟩;rcases k2 with _|k2
   .exact dU hL
   obtain⟨f4,i,d8,d7⟩:=dV hL;clear hL;unfold EY at i;refine aG (aB 2 [(52,vB (decide (a.2.2.1>0)))] (aH i ?_ ?_))
   .intro A i;refine aM (aE (aG (cY .normal i (fun o L' w'=>∃E F V Z y,L'=[(0,vP bp0 0),(5,vT o.1),(9,vS E o.2.1 F),(10,vI a.2.2.1)]/\m.le y/\St y (kB bp0 (V1 o.2.2 V Z) 25::kR E o.2.1 F 9 1::O) w'/\RepS aF y E F o.2.1/\RepS (aT .i64) y V Z o.2.2.1) ?_ ?_)))
    .rintro o i _ l ⟨E,F,V,Z,y,rfl,q,g,h,k⟩;refine aE (aZ (aA 3 [(10,vI (wr (a.2.2.1-1)))] (aU rfl ?_)));have hL:=d8 _ (sI i);exact xE (dN ⟨(o.1,o.2.1,wr (a.2.2.1-1),o.2.2.1,o.2.2.2),E,F,V,Z,y,hL,rfl,q,g.f1.f1,h,k⟩)
    intro o i d0;refine bJ (aX 1 [(55,vP bp0 0)] (aR 56 i (WT (p0:=a.2.2.2) g d3) ?_));rintro h i _ f7 ⟨p,s,e5,rfl,b8,g,k⟩;refine aI 1 [(11,vT h.2)] (aD (aI 2 [(12,vT h.2)] (aG (aB 1 [(13,vI 0)] (bJ (cY (.exit 4) i (fun D L' w'=>∃(S:BA),∃H,S=D/\L'=[(0,vP bp0 0),(5,vT a.1),(9,vS b a.2.1 c),(10,vI a.2.2.1),(11,vT h.2),(12,vT S)]/\m.le H/\St H (kB bp0 (V1 h.1 p s) 25::kR b a.2.1 c 9 1::O) w'/\RepS aF H b c a.2.1/\RepS (aT .i64) H p s h.1.1) ?_ ?_))))))
    .rintro D i _ f8 ⟨S,H,rfl,rfl,q,g,f,k⟩;refine dT (aE (aD (eP 8 i (fun o9 L' w'=>∃u G n,L'=[(0,vP bp0 0),(5,vT a.1),(9,vS b a.2.1 c),(10,vI a.2.2.1),(11,vT h.2),(12,vT S),(84,vB o9.1)]/\m.le n/\St n (kB bp0 (V1 o9.2 u G) 25::kR b a.2.1 c 9 1::O) w'/\RepS aF n b c a.2.1/\RepS (aT .i64) n u G o9.2.1) ?_ ?_)))
     .rintro o9 i _ f9 ⟨u,G,n,rfl,q,g,f,d4⟩;refine aO (aH i ?_ ?_)
      .intro A i;refine aX 2 [(85,vS b a.2.1 c),(86,vT S)] ?_;refine eD 87 9 1 aF [S] g fun b2 f3 g0 l g e8=> ?_;refine iG 88 26 26 9 16 85 87 g.f2 (.inl kr) (f.mono l) e8.src i fun l2 i d1 d2 e6 g1 b0 g e9=> ?_;refine aA 1 [(9,vS d1 l2 d2)] (aU rfl ?_);have g:=g.f1.t;refine aE (aZ (aA 2 [(89,vT a.1),(90,vT h.2)] (dX 91 i fun f0 i=>(aA 1 [(5,vT f0)] (aU rfl (bO ?_))))));cases i;exact xE (d0 _ _ ⟨d1,d2,u,G,e6,rfl,(q.t l).t b0,g.f1,e9,(d4.mono l).mono b0⟩)
      intro A i;refine aM (bO ?_);cases i;exact xE (d0 _ _ ⟨b,c,u,G,n,rfl,q,g.f1.f1,f,d4⟩)
     intro o9 i K;refine aA 2 [(77,vS b a.2.1 c),(78,vT S)] (aR 79 i (MN g f) ?_);rintro y8 i _ e9 ⟨d4,rfl,l,g⟩;refine aA 2 [(81,vB (!y8))] (bW 81 i ?_ ?_)
     .intro A i;refine aA 3 [(84,vB true)] ?_;cases i;exact bE _ kr (K _ _ ⟨p,s,d4,rfl,q.t l,g.f1.f1,f.mono l,k.mono l⟩)
     intro A i;refine aA 1 [(82,vP bp0 0)] (aR 83 i (tW (p0:=h.1) g (k.mono l)) ?_);rintro y9 i _ f0 ⟨d1,d2,e6,rfl,b0,g,e8⟩;refine aA 1 [(84,vB y9.2)] ?_;cases i;exact bE _ kr (K _ _ ⟨d1,d2,e6,rfl,(q.t l).t b0,g.f1.f1,(f.mono l).mono b0,e8⟩)
    intro D i G;refine dQ _ kr (dP (fun k3 L' w'=>∃(l:Tx),∃n,aS (BG N h) k3 l=some D/\L'=[(0,vP bp0 0),(5,vT a.1),(9,vS b a.2.1 c),(10,vI a.2.2.1),(11,vT h.2),(12,vT l.1),(13,vI l.2)]/\m.le n/\St n (kB bp0 (V1 h.1 p s) 25::kR b a.2.1 c 9 1::O) w'/\RepS aF n b c a.2.1/\RepS (aT .i64) n p s h.1.1) N ⟨(h.2,0),e5,i,rfl,q.t b8,g.f1.f1,f.mono b8,k⟩ ?_);rintro k3 _ e8 ⟨l,n,hL,rfl,q,g,f,k⟩;rcases k3 with _|k3
    .exact dU hL
    obtain⟨e6,i,d2,b0⟩:=dV hL;clear hL;unfold BG at i;refine aG (aB 4 [(61,vB (decide (l.2<(h.2.size:Int))))] (aH i ?_ ?_))
    .intro A i;refine aM (aE (aG (bJ (aD (eP 10 i (fun o8 L' w'=>∃u,L'=[(0,vP bp0 0),(5,vT a.1),(9,vS b a.2.1 c),(10,vI a.2.2.1),(11,vT h.2),(12,vT l.1),(13,vI l.2),(73,vB o8)]/\m.le u/\St u (kB bp0 (V1 h.1 p s) 25::kR b a.2.1 c 9 1::O) w'/\RepS aF u b c a.2.1/\RepS (aT .i64) u p s h.1.1) ?_ ?_)))))
     .rintro o8 i _ e9 ⟨u,rfl,q,g,f,k⟩;refine aO (aH i ?_ ?_)
      .intro A i;refine aX 2 [(74,vT h.2),(75,vI l.2)] ?_;have⟨d1,d4,i⟩:=aW i;refine aQ rfl (qE (d:=76) (t:=9) (x:=(.tmp 74)) (lo:=none) (hi:=(some (.tmp 75))) kr rfl (ev (vT h.2)) kr (.inl ⟨rfl,rfl⟩) (.inr ⟨_,_,rfl,(ev (vI l.2))⟩) d4 (aI 1 [(12,vT d1)] (dO (yW rfl (bS ?_)))));have ho:=b0 _ (sI i);have g:=g.f1.f1;refine bS ?_;exact xE (G _ _ ⟨d1,u,ho,rfl,q,g,f,k⟩)
      intro A i;refine aM (bO (aE (aZ (aA 3 [(13,vI (wr (l.2+1)))] (aU rfl ?_)))));have hL:=d2 _ (sI i);exact xE (dN ⟨(l.1,wr (l.2+1)),u,hL,rfl,q,g.f1.f1,f,k⟩)
     intro o8 i K;refine aA 2 [(64,vT h.2),(65,vI l.2)] (rD 66 i fun x1 i=>(aA 2 [(68,vB ((x1.toNat:Int)==40))] (bW 68 i ?_ ?_)))
     .intro A i;refine aA 5 [(73,vB true)] ?_;cases i;exact bE _ kr (K _ _ ⟨n,rfl,q,g.f1.f1,f,k⟩)
     intro A i;refine aA 2 [(69,vT h.2),(70,vI l.2)] (rD 71 i fun x2 i=>(aA 2 [(73,vB ((x2.toNat:Int)==61))] ?_));cases i;exact bE _ kr (K _ _ ⟨n,rfl,q,g.f1.f1,f,k⟩)
    intro A i;refine dO (bS ?_);have ho:=b0 _ (sI i);have g:=g.f1.f1;refine bS ?_;exact xE (G _ _ ⟨l.1,n,ho,rfl,q,g,f,k⟩)
   intro A i;refine dO (bS ?_);have ho:=d7 _ (sI i);have g:=g.f1.t;refine bS ?_;exact xE (b9 _ _ ⟨(a.1,a.2.2.2.1,a.2.2.2.2),U,Y,v,ho,rfl,q,g,d3⟩)
  intro z i G;have g:=(g.nilroom 9 1).front1;refine dQ _ kr (dP (fun V L' w'=>∃(a:AL),∃c f H S v,aS (EZ N p1) V a=some z/\L'=[(0,vP bp0 0),(1,vT p1),(5,vT a.1),(6,vS c a.2.1 f),(7,vI a.2.2.1)]/\m.le v/\St v (kB bp0 (V1 a.2.2.2 H S) 25::kR c a.2.1 f 9 1::O) w'/\RepS aF v c f a.2.1/\RepS (aT .i64) v H S a.2.2.2.1) N ⟨(o1,([]:Te),y2.2,y2.1.1,y2.1.2),none,0,a3,c3,m3,i,rfl,q.t d9,g,(RepS.nil _ _),r3⟩ ?_);rintro V _ w5 ⟨a,c,f,H,S,v,hL,rfl,q,g,n,r6⟩;rcases V with _|V
  .exact dU hL
  obtain⟨d1,i,b5,b4⟩:=dV hL;clear hL;unfold EZ at i;refine aG (aB 2 [(24,vB (decide (a.2.2.1>0)))] (aH i ?_ ?_))
  .intro A i;refine aM (aE (aG (cY .normal i (fun b L' w'=>∃D E R U y,L'=[(0,vP bp0 0),(1,vT p1),(5,vT b.1),(6,vS D b.2.1 E),(7,vI a.2.2.1)]/\m.le y/\St y (kB bp0 (V1 b.2.2 R U) 25::kR D b.2.1 E 9 1::O) w'/\RepS aF y D E b.2.1/\RepS (aT .i64) y R U b.2.2.1) ?_ ?_)))
   .rintro b i _ l ⟨D,E,R,U,y,rfl,q,g,h,k⟩;refine aE (aZ (aA 3 [(7,vI (wr (a.2.2.1-1)))] (aU rfl ?_)));have hL:=b5 _ (sI i);exact xE (dN ⟨(b.1,b.2.1,wr (a.2.2.1-1),b.2.2.1,b.2.2.2),D,E,R,U,y,hL,rfl,q,g.f1.f1,h,k⟩)
   intro b i Y;refine bJ (aX 1 [(27,vP bp0 0)] (aR 28 i (VY g) ?_));rintro y3 i _ w7 ⟨a9,c9,m7,rfl,h,g,r9⟩;refine aR 29 i (mF (p0:=a.2.2.2) g.f1 (r6.mono h) r9) ?_;rintro k i _ w8 ⟨s,u,m8,rfl,o,g,l⟩;have n:=(n.mono h).mono o;refine aA 1 [(8,vT k.2)] (aU rfl ?_);have g:=g.f1.t;refine aE (aD (eP 9 i (fun o4 L' w'=>∃B,L'=[(0,vP bp0 0),(1,vT p1),(5,vT a.1),(6,vS c a.2.1 f),(7,vI a.2.2.1),(8,vT k.2),(38,vB o4)]/\m.le B/\St B (kB bp0 (V1 k.1 s u) 25::kR c a.2.1 f 9 1::O) w'/\RepS aF B c f a.2.1/\RepS (aT .i64) B s u k.1.1) ?_ ?_))
   .rintro o4 i _ w9 ⟨B,rfl,q,g,n,l⟩;refine aO (aH i ?_ ?_)
    .intro A i;refine aX 2 [(39,vS c a.2.1 f),(40,vT k.2)] ?_;refine eD 41 9 1 aF [k.2] g fun b1 d0 d2 p g b8=> ?_;refine iG 42 26 26 9 16 39 41 g.f2 (.inl kr) (n.mono p) b8.src i fun l1 i Z b0 b6 d3 F g b9=> ?_;refine aA 1 [(6,vS Z l1 b0)] (aU rfl ?_);have g:=g.f1.t;refine aE (aZ (aA 2 [(43,vT a.1),(44,vT k.2)] (dX 45 i fun s5 i=>(dX 46 i fun s6 i=>(dX 47 i fun s7 i=>(aA 1 [(5,vT s7)] (aU rfl (bO ?_))))))));cases i;exact xE (Y _ _ ⟨Z,b0,s,u,b6,rfl,(q.t p).t F,g.f1,b9,(l.mono p).mono F⟩)
    intro A i;refine aM (bO ?_);cases i;exact xE (Y _ _ ⟨c,f,s,u,B,rfl,q,g.f1.f1,n,l⟩)
   intro o4 i K;refine aA 4 [(33,vB (!(k.2.toList==p1.toList)))] (bW 33 i ?_ ?_)
   .intro A i;refine aA 2 [(34,vS c a.2.1 f),(35,vT k.2)] (aR 36 i (MN g n) ?_);rintro Z i _ b0 ⟨F,rfl,p,g⟩;refine aA 2 [(38,vB (!Z))] ?_;cases i;exact bE _ kr (K _ _ ⟨F,rfl,((q.t h).t o).t p,g.f1.f1,n.mono p,l.mono p⟩)
   intro A i;refine aA 5 [(38,vB false)] ?_;cases i;exact bE _ kr (K _ _ ⟨m8,rfl,(q.t h).t o,g.f1.f1,n,l⟩)
  intro A i;refine dO (bS ?_);have ho:=b4 _ (sI i);have g:=g.f1.t;refine bS ?_;exact xE (G _ _ ⟨(a.1,a.2.2.2.1,a.2.2.2.2),H,S,v,ho,rfl,q,g,r6⟩)
 intro o1 i a;refine aH i ?_ ?_
 .intro A i;refine aZ (aA 1 [(19,vT s2)] (dX 20 i fun b i=>(aA 1 [(5,vT b)] (aU rfl ?_))));cases i;exact xE (a _ _ ⟨m1,rfl,q.t b7,g,r2⟩)
 intro A i;refine aM ?_;cases i;exact xE (a _ _ ⟨m1,rfl,q.t b7,g,r2⟩)
def vD(N:Nat):Tl:=
 (rV N (⟨#[112,97,99,107,97,103,101,32,112,59,32,102,117,110,99,32,102,40,120,41,32,61,32,120,32,43,32,50,32,42,32,51,59]⟩:BA)).bind fun y1=>(qD N y1.1).bind fun a=>(if(y1.2.2==0)=true then(if(a.2==0)=true then(if(y1.2.1==0)=true then(if((List.length y1.1.2.2:Int)==1)=true then((idx y1.1.2.2 0).bind fun x1=>if((List.length x1.2.2.2:Int)==5)=true then((idx y1.1.2.2 0).bind fun b=>(idx b.2.2.2 4).bind fun b=>if(b.2.2.1==1)=true then(if(a.1.toList==(⟨#[112,97,99,107,97,103,101,32,112,59,10,102,117,110,99,32,102,40,120,41,32,61,32,120,32,43,32,50,32,42,32,51,59,10]⟩:BA).toList)=true then((sW N y1.1).bind fun a=>some (a==0)) else(some false)) else(some false)) else(some false)) else(some false)) else(some false)) else(some false)) else(some false):Tl).bind fun a=>some a
theorem MI{r:Bool}(g:St m (O) w)(i:vD N=some r):Calls prog 12 #[] w fun e w'=>∃m',e= .returned (vB r)/\m.le m'/\St m' (O) w':=by
 unfold vD at i;have q:=m.le_refl;refine bK func12 rfl ntmps12 ?_;refine aB 1 [] (aD ?_);refine aR 7 i (FK g) ?_;rintro y1 i _ w1 ⟨f,k,c,d,m1,rfl,v,g,b,a⟩;refine aA 4 [(8,.agg (V2 y1.1 f k c d)),(9,vI y1.2.1),(10,vI y1.2.2)] (dS 1 29 (.agg #[vT eB,v8,v8]) g fun F w2 g=>(cM (.agg (V2 y1.1 f k c d)) g fun w3 g=>(aI 2 [(2,vI y1.2.1),(3,vI y1.2.2)] (aD (bA 12 (.agg (V2 y1.1 f k c d)) g.h (aR 13 i (FI (p0:=y1.1) g b a) ?_))))));rintro u i _ w4 ⟨o,rfl,l,g⟩;have q:=(q.t v).t l;have b:=b.mono l;have a:=a.mono l;refine aI 5 [(4,vT u.1),(5,vI u.2)] (aD (eP 46 i (fun s L' w'=>∃p,L'=[(0,vB s)]/\m.le p/\St p (kB F (V2 y1.1 f k c d) 29::kR f y1.1.2.1 k 9 1::kR c y1.1.2.2 d 43 4::O) w'/\P2 p f k c d y1.1.2) ?_ ?_))
 .rintro s i _ n ⟨p,rfl,q,g,b,a⟩;refine aO (aK ?_);obtain rfl:=sI i;exact aN [0] [vB s] ⟨p,rfl,q,g.t.t.t⟩
 intro s i K;refine aA 3 [(18,vB (y1.2.2==0))] (bW 18 i ?_ ?_)
 .intro A i;refine aA 4 [(22,vB (u.2==0))] (bW 22 i ?_ ?_)
  .intro A i;refine aA 4 [(26,vB (y1.2.1==0))] (bW 26 i ?_ ?_)
   .intro A i;refine cU 1 28 27 27 2 (vS c y1.1.2.2 d) g.h (aA 4 [(32,vB ((y1.1.2.2.length:Int)==1))] (bW 32 i ?_ ?_))
    .intro A i;refine cU 1 34 27 33 2 (vS c y1.1.2.2 d) g.h (eU 35 a i ?_);rintro x1 i G U a8 ⟨_,_,rfl,rfl,⟨_,_,rfl,rfl,⟨_,_,rfl,⟨a3,c3,rfl,r3⟩,⟨D,R,rfl,r4⟩⟩⟩⟩ x;refine aA 1 [(36,.pointer (some ⟨G,U+3,none⟩))] (bX 37 (vS D x1.2.2.2 R) g (x.drop 3) (aA 4 [(41,vB ((x1.2.2.2.length:Int)==5))] (bW 41 i ?_ ?_)))
     .intro A i;refine cU 1 43 27 42 2 (vS c y1.1.2.2 d) g.h (eU 44 a i ?_);rintro x2 i H V a9 ⟨_,_,rfl,rfl,⟨_,_,rfl,rfl,⟨_,_,rfl,⟨a5,c5,rfl,r5⟩,⟨E,S,rfl,r6⟩⟩⟩⟩ y;refine aA 1 [(45,.pointer (some ⟨H,V+3,none⟩))] (bX 46 (vS E x2.2.2.2 S) g (y.drop 3) (eU 47 r6 i ?_));rintro B i M Y b0 ⟨_,_,rfl,rfl,⟨_,_,rfl,rfl,⟨_,_,rfl,rfl,⟨_,_,rfl,rfl,⟨a7,c7,rfl,r7⟩⟩⟩⟩⟩ z;refine aA 1 [(48,.pointer (some ⟨M,Y+2,none⟩))] (bX 49 (vI B.2.2.1) g (z.drop 2) (aA 3 [(52,vB (B.2.2.1==1))] (bW 52 i ?_ ?_)))
      .intro A i;refine aA 4 [(56,vB (u.1.toList==(⟨#[112,97,99,107,97,103,101,32,112,59,10,102,117,110,99,32,102,40,120,41,32,61,32,120,32,43,32,50,32,42,32,51,59,10]⟩:BA).toList))] (bW 56 i ?_ ?_)
       .intro A i;refine bA 57 (.agg (V2 y1.1 f k c d)) g.h ?_;refine aR 58 i (MS (p0:=y1.1) g b a) ?_;rintro y3 i _ w6 ⟨Z,rfl,n,g⟩;refine aA 3 [(0,vB (y3==0))] ?_;cases i;exact bE _ kr (K _ _ ⟨Z,rfl,q.t n,g.f2.f2.f2,b.mono n,a.mono n⟩)
       intro A i;refine aA 5 [(0,vB false)] ?_;cases i;exact bE _ kr (K _ _ ⟨o,rfl,q,g.f2.f2.f2,b,a⟩)
      intro A i;refine aA 9 [(0,vB false)] ?_;cases i;exact bE _ kr (K _ _ ⟨o,rfl,q,g.f2.f2.f2,b,a⟩)
     intro A i;refine aA 20 [(0,vB false)] ?_;cases i;exact bE _ kr (K _ _ ⟨o,rfl,q,g.f2.f2.f2,b,a⟩)
    intro A i;refine aA 29 [(0,vB false)] ?_;cases i;exact bE _ kr (K _ _ ⟨o,rfl,q,g.f2.f2.f2,b,a⟩)
   intro A i;refine aA 35 [(0,vB false)] ?_;cases i;exact bE _ kr (K _ _ ⟨o,rfl,q,g.f2.f2.f2,b,a⟩)
  intro A i;refine aA 39 [(0,vB false)] ?_;cases i;exact bE _ kr (K _ _ ⟨o,rfl,q,g.f2.f2.f2,b,a⟩)
 intro A i;refine aA 43 [(0,vB false)] ?_;cases i;exact bE _ kr (K _ _ ⟨o,rfl,q,g.f2.f2.f2,b,a⟩)
def AY(N:Nat)(p0:Tb):Tl:=
 (CC N (p0,0)).bind fun y1=>(qD N y1.2).bind fun a=>(if(a.2==0)=true then((rV N a.1).bind fun a=>(if(a.2.2 !=0)=true then(some true) else(if(a.2.1 !=0)=true then(some true) else((uB N y1.2 a.1).bind fun a=>some (!a))):Tl).bind fun a=>if a=true then(some (.inr false)) else(some (.inl ()))) else(some (.inl ())):Option (Unit⊕Bool)).bind fun a=>(match a with| .inl a=>(BZ N y1.1 (⟨#[112]⟩:BA)).bind fun a=>(rV N a.2).bind fun b=>if(b.2.2 !=0)=true then((vD N).bind fun a=>some a) else((qD N b.1).bind fun c=>(rV N c.1).bind fun d=>(qD N d.1).bind fun a=>(if(c.2==0)=true then(if(d.2.2==0)=true then(if(a.2==0)=true then(if(c.1.toList==a.1.toList)=true then((uB N d.1 b.1).bind fun a=>if a=true then((vD N).bind fun a=>some a) else(some false)) else(some false)) else(some false)) else(some false)) else(some false):Tl).bind fun a=>some a)| .inr z=>some z)
theorem VQ{p0:Tb}{r:Bool}(g:St m (O) w)(r1:RepS (aT .i64) m a1 c1 p0)(i:AY N p0=some r):Calls prog 3 #[vS a1 p0 c1] w fun e w'=>∃m',e= .returned (vB r)/\m.le m'/\St m' (O) w':=by
 unfold AY at i;have q:=m.le_refl;refine bK func3 rfl ntmps3 ?_;refine aB 1 [] (aD ?_);refine aA 2 [(21,.agg #[vS a1 p0 c1,vI 0])] (aQ rfl (zM 22 25 21 (.agg #[vS a1 p0 c1,vI 0]) g fun Y w1 g=>(aI 1 [(3,vP Y 0)] (aD (aA 1 [(23,vP Y 0)] (aR 24 i (WI (p0:=(p0,0)) g r1) ?_))))));rintro y1 i _ w2 ⟨a2,c2,z,D,B,E,m2,rfl,b7,g,U,b,c⟩;refine dS 4 29 (.agg #[vT eB,v8,v8]) g fun b2 w3 g=> ?_;refine cM (.agg (V2 y1.2 z D B E)) g fun w4 g=> ?_;refine aO (aG (aD (bA 26 (.agg (V2 y1.2 z D B E)) g.h (aR 27 i (FI (p0:=y1.2) g b c) ?_))));rintro y2 i _ w5 ⟨m3,rfl,k,g⟩;refine aI 5 [(5,vT y2.1),(6,vI y2.2)] (aD (aI 2 [(31,vB (y2.2==0))] ?_));have⟨d0,i,j1⟩:=aW i;refine cZ .normal (fun L' w'=>∃(o1:Unit),∃m4,(.inl o1:Unit⊕Bool)=d0/\L'=[(3,vP Y 0)]/\m.le m4/\St m4 (kB b2 (V2 y1.2 z D B E) 29::kB Y (V1 y1.1 a2 c2) 25::kR z y1.2.2.1 D 9 1::kR B y1.2.2.2 E 43 4::O) w'/\RepS aF m4 z D y1.2.2.1/\RepS C3 m4 B E y1.2.2.2/\RepS (aT .i64) m4 a2 c2 y1.1.1) ?_ ?_
 .rintro _ w6 ⟨o1,m4,rfl,rfl,q,g,b,c,U⟩;have i:=j1;refine aE (aX 1 [(51,vP Y 0)] (aR 52 i (WE (p0:=y1.1) g.f1 U) ?_));rintro y5 i _ d5 ⟨a7,c7,m8,rfl,V,g,S⟩;refine aR 53 i (FK g) ?_;rintro s i _ d6 ⟨Z,c8,a9,c9,m9,rfl,R,g,x,y⟩;refine aA 4 [(54,.agg (V2 s.1 Z c8 a9 c9)),(55,vI s.2.1),(56,vI s.2.2)] (dS 10 29 (.agg #[vT eB,v8,v8]) g fun b4 d7 g=>(cM (.agg (V2 s.1 Z c8 a9 c9)) g fun d8 g=>(aI 2 [(12,vI s.2.2)] (aG (aB 2 [(58,vB (s.2.2 !=0))] (aH i ?_ ?_))))))
  .intro A i;refine aD (aR 59 i (MI g) ?_);rintro f i _ l ⟨d,rfl,a,g⟩;refine aI 1 [(2,vB f)] (aK (aV ?_));obtain rfl:=sI i;exact aN [2] [vB f] ⟨d,rfl,((q.t V).t R).t a,g.t.t.t.t.t.t.t⟩
  intro A i;refine aM (aE (aD (bA 61 (.agg (V2 s.1 Z c8 a9 c9)) g.h (aR 62 i (FI (p0:=s.1) g x y) ?_))));rintro y8 i _ d9 ⟨d3,rfl,v,g⟩;refine aI 5 [(13,vT y8.1),(14,vI y8.2)] (aD (aA 1 [(66,vT y8.1)] (aR 67 i (FK g) ?_)));rintro u i _ e0 ⟨F,H,G,M,d4,rfl,o,g,l,n⟩;refine aA 4 [(68,.agg (V2 u.1 F H G M)),(69,vI u.2.1),(70,vI u.2.2)] (dS 15 29 (.agg #[vT eB,v8,v8]) g fun b5 e1 g=>(cM (.agg (V2 u.1 F H G M)) g fun e2 g=>(aI 2 [(17,vI u.2.2)] (aD (bA 72 (.agg (V2 u.1 F H G M)) g.h (aR 73 i (FI (p0:=u.1) g l n) ?_))))));rintro b6 i _ e4 ⟨b0,rfl,d,g⟩;have q:=((((q.t V).t R).t v).t o).t d;have l:=l.mono d;have n:=n.mono d;have x:=((x.mono v).mono o).mono d;have y:=((y.mono v).mono o).mono d;have S:=(((S.mono R).mono v).mono o).mono d;have b:=((((b.mono V).mono R).mono v).mono o).mono d;have c:=((((c.mono V).mono R).mono v).mono o).mono d
  refine aI 5 [(18,vT b6.1),(19,vI b6.2)] (aD (eP 24 i (fun o3 L' w'=>∃p,L'=[(2,vB o3)]/\m.le p/\St p (kB b5 (V2 u.1 F H G M) 29::kB b4 (V2 s.1 Z c8 a9 c9) 29::kB Y (V1 y5.1 a7 c7) 25::kB b2 (V2 y1.2 z D B E) 29::kR F u.1.2.1 H 9 1::kR G u.1.2.2 M 43 4::kR Z s.1.2.1 c8 9 1::kR a9 s.1.2.2 c9 43 4::kR z y1.2.2.1 D 9 1::kR B y1.2.2.2 E 43 4::O) w'/\RepS aF p F H u.1.2.1/\RepS C3 p G M u.1.2.2/\RepS aF p Z c8 s.1.2.1/\RepS C3 p a9 c9 s.1.2.2/\RepS (aT .i64) p a7 c7 y5.1.1/\P2 p z D B E y1.2.2) ?_ ?_))
  .rintro o3 i _ a ⟨p,rfl,q,g,l,n,x,y,S,b,c⟩;refine aO (aK ?_);obtain rfl:=sI i;exact aN [2] [vB o3] ⟨p,rfl,q,g.t.t.t.t.t.t.t.t.t.t⟩
  intro o3 i K;refine aA 3 [(78,vB (y8.2==0))] (bW 78 i ?_ ?_)
  .intro A i;refine aA 4 [(82,vB (u.2.2==0))] (bW 82 i ?_ ?_)
   .intro A i;refine aA 4 [(86,vB (b6.2==0))] (bW 86 i ?_ ?_)
    .intro A i;refine aA 5 [(91,vB (y8.1.toList==b6.1.toList))] (bW 91 i ?_ ?_)
     .intro A i;refine bA 92 (.agg (V2 u.1 F H G M)) g.h ?_;refine bA 93 (.agg (V2 s.1 Z c8 a9 c9)) g.t.t.t.h ?_;refine aR 94 i (MM (p0:=u.1) (p1:=s.1) g l n x y) ?_;rintro d1 i _ e5 ⟨b8,rfl,a,g⟩;have x:=x.mono a;have y:=y.mono a;have S:=S.mono a;have b:=b.mono a;have c:=c.mono a;refine aA 2 [(96,vB d1)] (bW 96 i ?_ ?_)
      .intro A i;refine aR 97 i (MI g) ?_;rintro d2 i _ e6 ⟨b9,rfl,f,g⟩;refine aA 2 [(2,vB d2)] ?_;cases i;exact bE _ kr (K _ _ ⟨b9,rfl,(q.t a).t f,g.f9.f9.f7.f7.f6.f6.f9.f9.f9.f9,(l.mono a).mono f,(n.mono a).mono f,x.mono f,y.mono f,S.mono f,b.mono f,c.mono f⟩)
      intro A i;refine aA 3 [(2,vB false)] ?_;cases i;exact bE _ kr (K _ _ ⟨b8,rfl,q.t a,g.f9.f9.f7.f7.f6.f6.f9.f9.f9.f9,l.mono a,n.mono a,x,y,S,b,c⟩)
     intro A i;refine aA 8 [(2,vB false)] ?_;cases i;exact bE _ kr (K _ _ ⟨b0,rfl,q,g.f9.f9.f7.f7.f6.f6.f9.f9.f9.f9,l,n,x,y,S,b,c⟩)
    intro A i;refine aA 13 [(2,vB false)] ?_;cases i;exact bE _ kr (K _ _ ⟨b0,rfl,q,g.f9.f9.f7.f7.f6.f6.f9.f9.f9.f9,l,n,x,y,S,b,c⟩)
   intro A i;refine aA 17 [(2,vB false)] ?_;cases i;exact bE _ kr (K _ _ ⟨b0,rfl,q,g.f9.f9.f7.f7.f6.f6.f9.f9.f9.f9,l,n,x,y,S,b,c⟩)
  intro A i;refine aA 21 [(2,vB false)] ?_;cases i;exact bE _ kr (K _ _ ⟨b0,rfl,q,g.f9.f9.f7.f7.f6.f6.f9.f9.f9.f9,l,n,x,y,S,b,c⟩)
 intro x;refine aH i ?_ ?_
 .intro A i;refine aX 1 [(33,vT y2.1)] ?_;refine aR 34 i (FK g) ?_;rintro a i _ V ⟨n,p,o,s,G,rfl,l,g,u,v⟩;have q:=((q.t b7).t k).t l;have b:=(b.mono k).mono l;have c:=(c.mono k).mono l;have U:=(U.mono k).mono l;refine aA 4 [(35,.agg (V2 a.1 n p o s)),(36,vI a.2.1),(37,vI a.2.2)] (dS 7 29 (.agg #[vT eB,v8,v8]) g fun H Z g=>(cM (.agg (V2 a.1 n p o s)) g fun w9 g=>(aI 2 [(8,vI a.2.1),(9,vI a.2.2)] (aD (eP 12 i (fun F L' w'=>∃f,L'=[(3,vP Y 0),(49,vB F)]/\m.le f/\St f (kB H (V2 a.1 n p o s) 29::kB b2 (V2 y1.2 z D B E) 29::kB Y (V1 y1.1 a2 c2) 25::kR n a.1.2.1 p 9 1::kR o a.1.2.2 s 43 4::kR z y1.2.2.1 D 9 1::kR B y1.2.2.2 E 43 4::O) w'/\RepS aF f n p a.1.2.1/\RepS C3 f o s a.1.2.2/\RepS aF f z D y1.2.2.1/\RepS C3 f B E y1.2.2.2/\RepS (aT .i64) f a2 c2 y1.1.1) ?_ ?_)))))
  .rintro F i _ d ⟨f,rfl,q,g,u,v,b,c,U⟩;refine aO (aH i ?_ ?_)
   .intro A i;refine aB 1 [(2,vB false)] (aK ?_);cases i;have i:=j1;refine aV ?_;cases i;exact aN [2] [vB false] ⟨f,rfl,q,g.t.t.t.t.t.t.t⟩
   intro A i;refine aM ?_;have y:=jF i;exact xE (x _ _ ⟨(),f,y,rfl,q,g.t.f2.t.f2.t.f3.f3.f3.f3,b,c,U⟩)
  intro F i K;refine aA 3 [(40,vB (a.2.2 !=0))] (bW 40 i ?_ ?_)
  .intro A i;refine aA 9 [(49,vB true)] ?_;cases i;exact bE _ kr (K _ _ ⟨G,rfl,q,g.f5.f5.f4.f4.f6.f6.f6,u,v,b,c,U⟩)
  intro A i;refine aA 4 [(44,vB (a.2.1 !=0))] (bW 44 i ?_ ?_)
  .intro A i;refine aA 5 [(49,vB true)] ?_;cases i;exact bE _ kr (K _ _ ⟨G,rfl,q,g.f5.f5.f4.f4.f6.f6.f6,u,v,b,c,U⟩)
  intro A i;refine bA 45 (.agg (V2 y1.2 z D B E)) g.t.t.t.h ?_;refine bA 46 (.agg (V2 a.1 n p o s)) g.h ?_;refine aR 47 i (MM (p0:=y1.2) (p1:=a.1) g b c u v) ?_;rintro R i _ S ⟨M,rfl,d,g⟩;refine aA 2 [(49,vB (!R))] ?_;cases i;exact bE _ kr (K _ _ ⟨M,rfl,q.t d,g.f5.f5.f4.f4.f6.f6.f6,u.mono d,v.mono d,b.mono d,c.mono d,U.mono d⟩)
 intro A i;refine aM ?_;have y:=jF i;exact xE (x _ _ ⟨(),m3,y,rfl,(q.t b7).t k,g.f2.f2.f3.f3,b.mono k,c.mono k,U.mono k⟩)
end
end Go.Proofs.YthiiggmmmoolbaaGreatDoor
section
namespace Go.Dc
theorem JS{σ β:Type}{f:σ->Option (σ⊕β)}(st:Nat->σ)(k:Nat)(res:β)(step:∀i,i<k->f (st i)=some (.inl (st (i+1))))(stop:f (st k)=some (.inr res)){N:Nat}(b:k<N):aS f N (st 0)=some res:=by
 have key:∀d i M,i+d=k->d<M->aS f M (st i)=some res:=by
  intro d
  induction d with
  |zero=>intro i M h a;obtain⟨M',rfl⟩:∃M',M=M'+1:=⟨M-1,by omega⟩;simp only[gX] at h;subst h;simp[aS,stop]
  |succ d c=>
   intro i M h a
   obtain⟨M',rfl⟩:∃M',M=M'+1:=⟨M-1,by omega⟩
   have:=c (i+1) M' (by omega) (by omega)
   simp[aS,step i (by omega),this]
 exact key k 0 N (by omega) b
section
variable {ν:Type}
theorem YW{l:List (Int×ν)}{k c:Int}{v:ν}(h:c≠k):cL (l.map fun p=>if k=p.1 then(k,v) else p) c=cL l c:=by
 induction l with
 |nil=>rfl
 |cons p l a=>
  simp only[jZ,cL]
  by_cases hk:k=p.1
  .subst hk;rw[if_pos rfl,if_neg h,if_neg h,a]
  rw[if_neg hk,a]
theorem YN{l:List (Int×ν)}{k:Int}{v:ν}(h:(cL l k).isSome=true):cL (l.map fun p=>if k=p.1 then(k,v) else p) k=some v:=by
 induction l with
 |nil=>cases h
 |cons p l a=>
  simp only[jZ,cL] at h ⊢
  by_cases hk:k=p.1
  .subst hk;simp
  rw[if_neg hk] at h ⊢
  rw[if_neg hk]
  exact a h
theorem qAn{l:List (Int×ν)}{k:Int}{v:ν}(h:cL l k=none)(c:Int):cL (mins l k v) c=if c=k then some v else cL l c:=by
 induction l with
 |nil=>rfl
 |cons p l a=>
  simp only[cL] at h
  split at h
  .cases h
  rename_i hk
  simp only[mins]
  split
  .simp only[cL]
  simp only[cL,a h]
  by_cases hc:c=k
  .subst hc;simp[hk]
  simp[hc]
theorem qBq(l:List (Int×ν))(k:Int)(v:ν)(c:Int):cL (mset l k v) c=if c=k then some v else cL l c:=by
 unfold mset
 split
 .rename_i h
  split
  .rename_i hc;subst hc;exact YN h
  rename_i hc;exact YW hc
 rename_i h
 exact qAn (by simpa using h) c
def Srt(l:List (Int×ν)):Prop:=(l.map (·.1)).Pairwise (· < ·)
theorem Srt.nil:Srt ([]:List (Int×ν)):=List.Pairwise.nil
theorem Srt.mins{l:List (Int×ν)}{k:Int}{v:ν}(d:Srt l)(h:cL l k=none):Srt (mins l k v):=by
 induction l with
 |nil=>simp[Srt,Go.Dc.mins]
 |cons p l f=>
  have hs':=d
  simp only[Srt,jZ,fT] at d
  simp only[cL] at h
  split at h
  .cases h
  rename_i hk
  simp only[Go.Dc.mins]
  split
  .rename_i b
   have b:k<p.1:=by simpa[KOrd.lt] using b
   refine fT.2 ⟨fun a c=> ?_,hs'⟩
   simp only[jZ,jT] at c
   rcases c with rfl|c
   .exact b
   exact Int.lt_trans b (d.1 a c)
  rename_i b
  have b:¬k<p.1:=by simpa[KOrd.lt] using b
  refine fT.2 ⟨fun a c=> ?_,f d.2 h⟩
  obtain⟨q,e,rfl⟩:=fJ.1 c
  rcases jT.1 ((QO l k v).mem_iff.1 e) with rfl|e
  .show p.1<k;omega
  exact d.1 _ (gT e)
theorem Srt.mset{l:List (Int×ν)}(a:Srt l)(k:Int)(v:ν):Srt (mset l k v):=by
 unfold Go.Dc.mset
 split
 .unfold Srt
  have:(l.map fun p=>if k=p.1 then(k,v) else p).map (·.1)=l.map (·.1):=by
   rw[List.map_map]
   refine List.map_congr_left fun p _=> ?_
   simp only[Function.comp_apply]
   split
   .rename_i h;exact h
   rfl
  rw[this];exact a
 rename_i h
 exact a.mins (by simpa using h)
theorem Srt.out{l:List (Int×ν)}{c:Int}(h:∀a∈l.map (·.1),c<a):cL l c=none:=by
 rw[JC];intro b;exact Int.lt_irrefl _ (h c b)
theorem Srt.ext:∀{l k:List (Int×ν)},Srt l->Srt k->(∀c,cL l c=cL k c)->l=k
 |[],[],_,_,_=>rfl
 |[],q::k,_,_,h=>by have:=h q.1;simp[cL] at this
 |p::l,[],_,_,h=>by have:=h p.1;simp[cL] at this
 |p::l,q::k,n,g,h=>by
  have hl':(∀a∈l.map (·.1),p.1<a)/\Srt l:=fT.1 n
  have hk':(∀a∈k.map (·.1),q.1<a)/\Srt k:=fT.1 g
  have e:p.1=q.1:=by
   rcases Int.lt_trichotomy p.1 q.1 with d|f|d
   .have:=h p.1
    rw[Srt.out (l:=q::k) (c:=p.1)] at this
    .simp[cL] at this
    intro a b
    rcases jT.1 b with rfl|b
    .exact d
    exact Int.lt_trans d (hk'.1 a b)
   .exact f
   have:=h q.1
   rw[Srt.out (l:=p::l) (c:=q.1)] at this
   .simp[cL] at this
   intro a b
   rcases jT.1 b with rfl|b
   .exact d
   exact Int.lt_trans d (hl'.1 a b)
  have d:p.2=q.2:=by have:=h p.1;simpa[cL,e] using this
  have f:l=k:=by
   refine Srt.ext hl'.2 hk'.2 fun c=> ?_
   by_cases hc:c=p.1
   .rw[Srt.out (l:=l) (fun a b=>hc▸hl'.1 a b),Srt.out (l:=k) (fun a b=>by rw[hc,e];exact hk'.1 a b)]
   have:=h c
   simpa[cL,hc,e▸hc] using this
  rw[f,Prod.ext e d]
def pD(v:ν)(m:List (Int×ν))(xs:List UInt8):List (Int×ν):=xs.foldl (fun m x=>mset m (x.toNat:Int) v) m
theorem ON{v:ν}:∀{xs:List UInt8} {m:List (Int×ν)},Srt m->Srt (pD v m xs)
 |[],_,h=>h
 |_::xs,_,h=>ON (xs:=xs) (h.mset _ _)
theorem OR{v:ν}(c:Int):∀(xs:List UInt8) (m:List (Int×ν)),cL (pD v m xs) c=if xs.any (fun x=>decide ((x.toNat:Int)=c))=true then some v else cL m c
 |[],m=>by simp[pD]
 |x::xs,m=>by
  have:=OR (v:=v) c xs (mset m (x.toNat:Int) v)
  rw[show pD v m (x::xs)=pD v (mset m (x.toNat:Int) v) xs from rfl,this,qBq]
  by_cases h1:xs.any (fun x=>decide ((x.toNat:Int)=c))=true
  .simp[h1]
  by_cases h2:(x.toNat:Int)=c
  .subst h2;simp[h1]
  have a:¬c=(x.toNat:Int):=fun e=>h2 e.symm
  simp[h1,h2,a]
end
end Go.Dc
namespace Go.Proofs.YthiiggmmmoolbaaGreatDoor
open Go Go.Dc
def allK:List (Int×BA):=[(1,⟨#[97,98,99,100,101,102,103,104,105,106,107,108,109,110,111,112,113,114,115,116,117,118,119,120,121,122]⟩),(2,⟨#[48,49,50,51,52,53,54,55,56,57]⟩),(3,⟨#[95]⟩),(4,⟨#[46]⟩),(5,⟨#[9,10,13,32]⟩),(6,⟨#[35]⟩),(7,⟨#[34]⟩),(8,⟨#[59,44,40,41,43,45,42,47,37,60,61]⟩)]
def kdL:List (Int×Int):=[(9,5),(10,5),(13,5),(32,5),(34,7),(35,6),(37,8),(40,8),(41,8),(42,8),(43,8),(44,8),(45,8),(46,4),(47,8),(48,2),(49,2),(50,2),(51,2),(52,2),(53,2),(54,2),(55,2),(56,2),(57,2),(59,8),(60,8),(61,8),(95,3),(97,1),(98,1),(99,1),(100,1),(101,1),(102,1),(103,1),(104,1),(105,1),(106,1),(107,1),(108,1),(109,1),(110,1),(111,1),(112,1),(113,1),(114,1),(115,1),(116,1),(117,1),(118,1),(119,1),(120,1),(121,1),(122,1)]
def rN(c:Int):Int:=(cL kdL c).getD 0
def sP(e:Int×BA)(c:Int):Bool:=e.2.data.toList.any fun x=>decide ((x.toNat:Int)=c)
def uS(m:List (Int×Int))(k:List (Int×BA)):List (Int×Int):=k.foldl (fun m e=>pD e.1 m e.2.data.toList) m
theorem RO:∀{k:List (Int×BA)} {m:List (Int×Int)},Srt m->Srt (uS m k)
 |[],_,h=>h
 |_::k,_,h=>RO (k:=k) (ON h)
theorem SF(c:Int):∀(k:List (Int×BA)) (m:List (Int×Int)),(∀e∈k,sP e c=true->e.1=rN c)->(∀v,cL m c=some v->v=rN c)->
  cL (uS m k) c=if(k.any fun e=>sP e c)=true then some (rN c) else cL m c
 |[],m,_,_=>by simp[uS]
 |e::k,m,h,f=>by
  have b:=OR (v:=e.1) c e.2.data.toList m
  have:=SF c k (pD e.1 m e.2.data.toList) (fun e' d=>h e' (jK _ d)) (fun v a=>by
   rw[b] at a
   split at a
   .rename_i hi
    rw[<-jF a]
    exact h e (jG ..) hi
   exact f v a)
  rw[show uS m (e::k)=uS (pD e.1 m e.2.data.toList) k from rfl,this,b]
  by_cases h1:(k.any fun e=>sP e c)=true
  .simp[h1]
  by_cases h2:sP e c=true
  .have:=h e (jG ..) h2
   have h2':(e.2.data.toList.any fun x=>decide ((x.toNat:Int)=c))=true:=h2
   simp only[hB,h2,Bool.true_or,kI,h1,h2',this]
   simp
  have h2':(e.2.data.toList.any fun x=>decide ((x.toNat:Int)=c))=false:=by simpa[sP] using h2
  simp only[hB,h1,h2',Bool.or_false,jE,kA]
  simp[h2]
theorem RS:(allK.all fun e=>e.2.data.toList.all fun x=>decide (e.1=rN (x.toNat:Int)))=true/\(kdL.all fun p=>allK.any fun e=>sP e p.1)=true:=⟨by kernel_rfl,by kernel_rfl⟩
theorem UQ{e:Int×BA}{c:Int}(d:e∈allK)(h:sP e c=true):e.1=rN c:=by
 have:=jV.1 RS.1 e d
 obtain⟨x,f,a⟩:=gR.1 h
 have b:=jV.1 this x f
 have a:(x.toNat:Int)=c:=by simpa using a
 subst a
 simpa using b
theorem qGo(c:Int):cL kdL c=if(allK.any fun e=>sP e c)=true then some (rN c) else none:=by
 cases h:cL kdL c with
 |none=>
  rw[if_neg]
  intro f
  obtain⟨e,a,hi⟩:=gR.1 f
  have d:=UQ a hi
  have b:rN c=0:=by simp[rN,h]
  have:(allK.all fun e=>decide (e.1≠0))=true:=by kernel_rfl
  have:=jV.1 this e a
  simp[d,b] at this
 |some v=>
  have a:(c,v)∈kdL:=(KA (l:=kdL) (by
   have:decide ((kdL.map (·.1)).Nodup)=true:=by kernel_rfl
   simpa using this)).1 h
  have:=jV.1 RS.2 _ a
  rw[if_pos this]
  simp[rN,h]
theorem qFv:Srt kdL:=by
 have:decide ((kdL.map (·.1)).Pairwise (· < ·))=true:=by kernel_rfl
 simpa[Srt] using this
theorem qAp{k:List (Int×BA)}(h:k.Perm allK):uS [] k=kdL:=by
 refine Srt.ext (RO Srt.nil) qFv fun c=> ?_
 rw[SF c k [] (fun e a hi=>UQ (h.mem_iff.1 a) hi) (fun v b=>by cases b),qGo]
 have:(k.any fun e=>sP e c)=(allK.any fun e=>sP e c):=by
  rw[fA,gR,gR]
  exact⟨fun⟨e,a,hi⟩=>⟨e,h.mem_iff.1 a,hi⟩,fun⟨e,a,hi⟩=>⟨e,h.mem_iff.2 a,hi⟩⟩
 rw[this]
 rfl
theorem qCj{N:Nat}{e:Int×BA}(m:List (Int×Int))(d:e.2.size<=26)(c:30<N):rT N (some e) (some m)=some (.inl (some (pD e.1 m e.2.data.toList))):=by
 have b:e.2.data.toList.length=e.2.size:=by simp
 have a:bytesOf e.2=some e.2.data.toList:=by unfold bytesOf;rw[if_pos (by simp only[maxLen];omega)]
 simp only[rT,a,j0]
 have key:=JS (f:=yL N e e.2.data.toList) (fun i=>((i:Int),some (pD e.1 m (e.2.data.toList.take i)))) e.2.data.toList.length (some (pD e.1 m e.2.data.toList)) (fun i hi=> ?_) ?_ (N:=N) (by omega)
 .simp only[Int.natCast_zero,List.take_zero] at key
  rw[show pD e.1 m []=m from rfl] at key
  rw[key];rfl
 .simp only[yL]
  rw[if_pos (by simpa using hi),eZ hi]
  simp only[j0,eQ,kP]
  rw[bT (by omega) (by omega),gH hi]
  simp[pD]
 simp only[yL]
 rw[if_neg (by simp),gK]
theorem PB{N:Nat}(a:30<N):∀(k:List (Int×BA)) (m:List (Int×Int)),(∀e∈k,e.2.size<=26)->lR (rT N) k (some m)=some (some (uS m k))
 |[],m,_=>by simp[lR,rT,uS]
 |e::k,m,h=>by
  have:=PB a k (pD e.1 m e.2.data.toList) (fun e' b=>h e' (jK _ b))
  simp only[lR,qCj m (h e (jG ..)) a,j0,this]
  rfl
theorem KC{N:Nat}(d:30<N):vY N=some (some kdL):=by
 have c:∀e∈allK,e.2.size<=26:=by
  have:(allK.all fun e=>decide (e.2.size<=26))=true:=by kernel_rfl
  intro e a
  simpa using jV.1 this e a
 have key:tJ (rT N) allK (some [])=some (some kdL):=QB fun k b=>by
  rw[PB d k [] (fun e a=>c e (b.mem_iff.1 a)),qAp b]
 have a:vY N=(tJ (rT N) allK (some [])).bind fun f=>some f:=by kernel_rfl
 rw[a,key];rfl
end Go.Proofs.YthiiggmmmoolbaaGreatDoor
end
namespace Go.Proofs.YthiiggmmmoolbaaGreatDoor
section
open Go Go.Dc
theorem lB(s:BA):s.data.toList.length=s.size:=by simp
theorem zC{s:BA}{i:Nat}(h:i<s.data.toList.length):nF s (i:Int)=some (s.data.toList[i]):=by
 have h':i<s.size:=by simpa using h
 rw[RF h']
 simp[ByteArray.getElem_eq_getElem_data]
def tw(p:UInt8->Bool)(l:List UInt8)(a:Nat):Nat:=a+((l.drop a).takeWhile p).length
section
variable {p:UInt8->Bool} {l:List UInt8} {a:Nat}
theorem nJ(h:a<=l.length):a<=tw p l a/\tw p l a<=l.length:=by
 have:=(hS p (l:=l.drop a)).length_le
 simp only[kZ] at this
 unfold tw;omega
theorem zL(h:a<l.length)(b:p l[a]=true):tw p l (a+1)=tw p l a:=by
 unfold tw
 rw[kO h,gL b]
 simp only[jB];omega
theorem DK(h:a<l.length)(b:p l[a]=false):tw p l a=a:=by
 unfold tw
 rw[kO h,fC (by simp[b])]
 simp
theorem GX(h:l.length<=a):tw p l a=a:=by
 unfold tw
 rw[kN h];rfl
theorem LB:∀(d a:Nat),a+d=l.length->∀h:tw p l a<l.length,p (l[tw p l a]'h)=false
 |0,a,c,h=>by rw[GX (by omega)] at h;omega
 |d+1,a,c,h=>by
  have b:a<l.length:=by omega
  cases hb:p l[a] with
  |true=>
   have e:=zL b hb
   have:=LB d (a+1) (by omega) (by rw[e];exact h)
   simpa only[e] using this
  |false=>
   have e:=DK b hb
   simpa only[e] using hb
theorem SL{β:Type}{f:Int->Option (Int⊕β)}(out:Nat->β)(go:∀i:Nat,∀h:i<l.length,p l[i]=true->f (i:Int)=some (.inl ((i:Int)+1)))
  (no:∀i:Nat,∀h:i<l.length,p l[i]=false->f (i:Int)=some (.inr (out i))) (en:f (l.length:Int)=some (.inr (out l.length))):
  ∀(d a N:Nat),a+d=l.length->d<N->aS f N (a:Int)=some (out (tw p l a))
 |d,a,0,_,h=>by omega
 |0,a,N+1,c,h=>by
  have:a=l.length:=by omega
  subst this
  rw[GX (jJ _)];simp[aS,en]
 |d+1,a,N+1,c,h=>by
  have b:a<l.length:=by omega
  cases hb:p l[a] with
  |true=>
   have:=SL out go no en d (a+1) N (by omega) (by omega)
   rw[zL b hb] at this
   simpa[aS,go a b hb] using this
  |false=>
   rw[DK b hb];simp[aS,no a b hb]
end
def kd(c:UInt8):Int:=rN (c.toNat:Int)
def bI(ks:List Int)(c:UInt8):Bool:=ks.any fun k=>kd c==k
theorem OF{N:Nat}{s:BA}{ks:List Int}{i:Nat}(h:i<s.data.toList.length)(c:ks.length<=10)(b:10<N):aS (vU N s (some kdL) ks (i:Int)) N (false,0)=some (bI ks (s.data.toList[i])):=by
 have key:=JS (f:=vU N s (some kdL) ks (i:Int)) (fun j=>((ks.take j).any (fun k=>kd (s.data.toList[i])==k),(j:Int))) ks.length (bI ks (s.data.toList[i])) (fun j a=> ?_) ?_ (N:=N) (by omega)
 .simpa using key
 .simp only[vU]
  rw[if_pos (by simpa using a),eZ a,zC h]
  simp only[j0]
  rw[bT (by omega) (by omega),gH a,List.any_append]
  cases(ks.take j).any (fun k=>kd (s.data.toList[i])==k)
  .simp[kd,rN,cH]
  simp
 simp only[vU]
 rw[if_neg (by simp),gK]
 rfl
theorem DH{N:Nat}{s:BA}{ks:List Int}{i:Nat}(hi:i<=s.data.toList.length)(e:s.data.toList.length<1000000)(c:ks.length<=10)(d:s.data.toList.length+10<N):
  rZ N s (i:Int) (some kdL) ks=some ((tw (bI ks) s.data.toList i:Nat):Int):=by
 have g:=lB s
 have key:=SL (f:=vW N s (some kdL) ks) (l:=s.data.toList) (p:=bI ks) (fun n=>(n:Int)) (fun j b a=>by
   simp only[vW]
   rw[if_pos (by simp only[jA];omega),OF b c (by omega),a]
   simp only[j0]
   rw[bT (by omega) (by omega)]
   rfl) (fun j b a=>by
   simp only[vW]
   rw[if_pos (by simp only[jA];omega),OF b c (by omega),a]
   rfl) (by
   simp only[vW]
   rw[if_neg (by simp only[jA];omega)]) (s.data.toList.length-i) i N (by omega) (by omega)
 unfold rZ
 rw[key]
 rfl
theorem LC(c:UInt8):(cH (some kdL) (c.toNat:Int)).getD 0=kd c:=rfl
theorem nQ{l:List UInt8}{i:Nat}(h:i<l.length):l.getD i 0=l[i]:=by simp[jP,h]
theorem RY{β:Type}{p:UInt8->Bool}{l:List UInt8}{a0:Nat}{f:Int->Option (Int⊕β)}(out:Nat->β)(go:∀i:Nat,∀h:i<l.length,p l[i]=true->f (i:Int)=some (.inl ((i:Int)+1)))
  (no:∀i:Nat,∀h:i<l.length,a0<=i->p l[i]=false->f (i:Int)=some (.inr (out i))) (en:f (l.length:Int)=some (.inr (out l.length))):
  ∀(d a N:Nat),a0<=a->a+d=l.length->d<N->aS f N (a:Int)=some (out (tw p l a))
 |d,a,0,_,_,h=>by omega
 |0,a,N+1,_,e,h=>by
  have:a=l.length:=by omega
  subst this
  rw[GX (jJ _)];simp[aS,en]
 |d+1,a,N+1,c,e,h=>by
  have b:a<l.length:=by omega
  cases hb:p l[a] with
  |true=>
   have:=RY out go no en d (a+1) N (by omega) (by omega) (by omega)
   rw[zL b hb] at this
   simpa[aS,go a b hb] using this
  |false=>
   rw[DK b hb];simp[aS,no a b c hb]
def xH(n:Int)(c:UInt8):Int:=if 9007199254740993<10*n+((c.toNat:Int)-48) then 9007199254740993 else 10*n+((c.toNat:Int)-48)
def lU(ds:List UInt8):Int:=ds.foldl xH 0
def lK(c:UInt8):Bool:=decide (32<=c.toNat)&&decide (c.toNat<=126)&&c !=34
def DX:Int×BA×Int×Int:=(0,⟨#[]⟩,0,0)
def oM(l:List UInt8)(i:Nat):Nat:=if l.getD i 0=61/\l.getD (i+1) 0=61 then i+2 else i+1
def dZ(s:BA)(i:Nat):(Int×BA×Int×Int)×Int×Int:=
 if kd (s.data.toList.getD i 0)=1 then
  if tw (bI [1,2,3]) s.data.toList i-i>24 then(DX,0,2) else((1,s.extract i (tw (bI [1,2,3]) s.data.toList i),0,0),((tw (bI [1,2,3]) s.data.toList i:Nat):Int),0)
 else if kd (s.data.toList.getD i 0)=2 then
  if lU ((s.data.toList.drop i).takeWhile (bI [2]))>9007199254740992 then(DX,0,3) else((2,⟨#[]⟩,lU ((s.data.toList.drop i).takeWhile (bI [2])),0),((tw (bI [2]) s.data.toList i:Nat):Int),0)
 else if kd (s.data.toList.getD i 0)=7 then
  if s.data.toList.getD (tw lK s.data.toList (i+1)) 0=34 then((3,s.extract (i+1) (tw lK s.data.toList (i+1)),0,0),((tw lK s.data.toList (i+1)+1:Nat):Int),0) else(DX,0,9)
 else if kd (s.data.toList.getD i 0)=8 then
  ((4,s.extract i (oM s.data.toList i),0,0),((oM s.data.toList i:Nat):Int),0)
 else(DX,0,9)
theorem JL:∀c:UInt8,kd c=2->48<=c.toNat/\c.toNat<=57:=by
 have h:((List.range 256).all fun n=> !(decide (kd (UInt8.ofNat n)=2))||(decide (48<=n)&&decide (n<=57)))=true:=by kernel_rfl
 intro c a
 have:=jV.1 h c.toNat (fQ.2 c.toNat_lt)
 simpa[a] using this
theorem MY{s:BA}{p:UInt8->Bool}{i:Nat}:(s.extract i (tw p s.data.toList i)).data.toList=(s.data.toList.drop i).takeWhile p:=by
 simp only[ByteArray.data_extract,fE]
 have h:=List.prefix_iff_eq_take.1 (fV p (l:=s.data.toList.drop i))
 rw[gV,show tw p s.data.toList i-i=((s.data.toList.drop i).takeWhile p).length by unfold tw;omega]
 exact h.symm
theorem FW(l:List UInt8)(c:UInt8):lU (l++[c])=xH (lU l) c:=by simp[lU]
theorem LE{p:UInt8->Bool}:∀{l:List UInt8} {c:UInt8},c∈l.takeWhile p->p c=true
 |[],_,h=>by simp at h
 |x::l,c,h=>by
  cases hx:p x with
  |true=>
   rw[gL hx] at h
   rcases jT.1 h with rfl|h
   .exact hx
   exact LE h
  |false=>rw[fC (by simp[hx])] at h;cases h
theorem qDj{N:Nat}{ds:List UInt8}(b:∀c∈ds,kd c=2)(k:ds.length<1000000)(h:ds.length<N):aS (vO N ds) N (0,0)=some (lU ds):=by
 have d:∀j,j<=ds.length->0<=lU (ds.take j)/\lU (ds.take j)<=9007199254740993:=by
  intro j
  induction j with
  |zero=>intro _;simp[lU]
  |succ j g=>
   intro a
   have:=g (by omega)
   rw[gH (by omega)]
   have e:=JL _ (b _ (jX (show j<ds.length by omega)))
   rw[FW]
   unfold xH
   split<;>omega
 have key:=JS (f:=vO N ds) (fun j=>(lU (ds.take j),(j:Int))) ds.length (lU ds) (fun j a=> ?_) ?_ (N:=N) (by omega)
 .exact key
 .have e:=JL _ (b _ (jX a))
  have g:=d j (by omega)
  simp only[vO]
  rw[if_pos (by simpa using a),eZ a]
  simp only[j0]
  rw[wu8 (by omega) (by omega),bT (x:=10*lU (ds.take j)) (by omega) (by omega),bT (x:=((ds[j]).toNat:Int)-48) (by omega) (by omega),bT (x:=(j:Int)+1) (by omega) (by omega),bT (by omega) (by omega),gH a,FW]
  rfl
 simp only[vO]
 rw[if_neg (by simp),gK]
theorem uG{s:BA}{i e:Nat}(a:i<=e)(b:e<=s.data.toList.length):mO s (i:Int) (e:Int)=some (s.extract i e):=by
 have:=lB s
 rw[JH (by omega) (by omega) (by omega)]
 simp
theorem qFl{N:Nat}{s:BA}{i j:Nat}(c:j<s.data.toList.length)(g:s.data.toList.length<1000000)(a:lK (s.data.toList[j])=true):sV N s (i:Int) (j:Int)=some (.inl ((j:Int)+1)):=by
 have h:=lB s
 simp only[lK,jI,jA,dF,ne_eq] at a
 obtain⟨⟨d,f⟩,b⟩:=a
 have h3':¬((s.data.toList[j]).toNat:Int)=34:=fun e=>b (UInt8.toNat_inj.1 (by show _=34;omega))
 simp only[sV,zC c,j0]
 rw[if_pos (by simp only[jA];omega),if_pos (by simp only[jA];omega)]
 simp only[j0]
 rw[if_pos (by simp only[jA];omega),if_neg (by simpa using h3'),bT (by omega) (by omega)]
theorem qFk{N:Nat}{s:BA}{i j:Nat}(hi:i<s.data.toList.length)(b:j<s.data.toList.length)(d:s.data.toList.length<1000000)(a:i+1<=j)(c:lK (s.data.toList[j])=false):
  sV N s (i:Int) (j:Int)=some (.inr (if s.data.toList.getD j 0=34 then(.inr ((3,s.extract (i+1) j,0,0),((j+1:Nat):Int),0)) else(.inl ()))):=by
 have f:=lB s
 simp only[sV,zC b,j0,nQ b]
 rw[if_pos (by simp only[jA];omega)]
 by_cases h34:s.data.toList[j]=34
 .rw[h34]
  simp only[show((34:UInt8).toNat:Int)=34 from rfl]
  rw[bT (x:=(i:Int)+1) (by omega) (by omega),bT (by omega) (by omega),<-Int.natCast_succ,uG a (by omega)]
  rfl
 have h3':¬((s.data.toList[j]).toNat:Int)=34:=fun e=>h34 (UInt8.toNat_inj.1 (by show _=34;omega))
 rw[if_neg h34]
 simp only[lK,Bool.and_eq_false_iff,decide_eq_false_iff_not,bne_eq_false_iff_eq,h34,hH] at c
 by_cases h1:32<=(s.data.toList[j]).toNat
 .rw[if_pos (by simp only[jA];omega)]
  simp only[j0]
  rw[if_neg (by simp only[jA];omega)]
 rw[if_neg (by simp only[jA];omega)]
 simp
theorem JG{s:BA}{i:Nat}(a:i<=s.data.toList.length):mO s (i:Int) (s.size:Int)=some (s.extract i s.data.toList.length):=by
 have b:=lB s
 rw[<-uG a (jJ _),b]
theorem oZ(x y:BA):(x.toList==y.toList)=decide (x=y):=by
 rw[fA]
 simp only[kY,jA]
 constructor
 .intro h
  rw[ByteArray.toList_eq,ByteArray.toList_eq] at h
  exact Go.WideShapes.bytes_inj h
 rintro rfl;rfl
theorem qBp{N:Nat}{s:BA}{i:Nat}(hi:i<s.data.toList.length):CD N (s.extract i s.data.toList.length) (⟨#[61,61]⟩:BA)=some (decide (s.data.toList.getD i 0=61/\s.data.toList.getD (i+1) 0=61)):=by
 have g:=lB s
 have b:(s.extract i s.data.toList.length).size=s.data.toList.length-i:=by rw[ByteArray.size_extract];omega
 simp only[CD,EW,b,show(⟨#[61,61]⟩:BA).size=2 from rfl]
 by_cases h:i+1<s.data.toList.length
 .have a:((s.extract i s.data.toList.length).extract 0 2).data.toList=[s.data.toList[i],s.data.toList[i+1]]:=by
   simp only[ByteArray.data_extract,fE,gV,kJ]
   rw[List.take_take,kO hi,kO h]
   have:min (2-0) (s.data.toList.length-i)=2:=by omega
   rw[this];rfl
  have c:mO (s.extract i s.data.toList.length) 0 ((2:Nat):Int)=some ((s.extract i s.data.toList.length).extract 0 2):=by
   have:=uG (s:=s.extract i s.data.toList.length) (i:=0) (e:=2) (by omega) (by rw[lB,b];omega)
   simpa only[Int.natCast_zero] using this
  rw[if_pos (by simp only[jA];omega),c]
  simp only[j0,oZ]
  rw[nQ hi,nQ h]
  generalize (s.extract i s.data.toList.length).extract 0 2=X at a
  refine congrArg some (decide_eq_decide.2 ?_)
  constructor
  .intro e
   rw[e] at a
   have hd':[(61:UInt8),61]=[s.data.toList[i],s.data.toList[i+1]]:=a
   simp only[gO,dH] at hd'
   exact⟨hd'.1.symm,hd'.2.symm⟩
  rintro⟨d,f⟩
  apply Go.WideShapes.bytes_inj
  rw[a,d,f]
 rw[if_neg (by simp only[jA];omega)]
 have a:s.data.toList.getD (i+1) 0=0:=by rw[jP,List.getElem?_eq_none (by omega)];rfl
 rw[a]
 simp
theorem qCc{N:Nat}{s:BA}{i:Nat}(hi:i<s.data.toList.length)(d:s.data.toList.length<1000000)(r:s.data.toList.length+20<N):CM N s (i:Int) (some kdL)=some (dZ s i):=by
 have t:=lB s
 simp only[CM,zC hi,j0,LC,dZ,nQ hi,kY]
 by_cases h1:kd (s.data.toList[i])=1
 .simp only[h1,kI]
  have b:=nJ (p:=bI [1,2,3]) (l:=s.data.toList) (a:=i) (by omega)
  rw[DH (by omega) d (by simp) (by omega)]
  simp only[j0]
  rw[bT (by omega) (by omega),uG b.1 b.2]
  by_cases h:tw (bI [1,2,3]) s.data.toList i-i>24
  .rw[if_pos (by simp only[jA];omega),if_pos h];rfl
  rw[if_neg (by simp only[jA];omega),if_neg h];rfl
 simp only[h1,kA]
 by_cases h2:kd (s.data.toList[i])=2
 .simp only[h2,kI]
  have b:=nJ (p:=bI [2]) (l:=s.data.toList) (a:=i) (by omega)
  have q:=lB (s.extract i (tw (bI [2]) s.data.toList i))
  have k:=MY (s:=s) (p:=bI [2]) (i:=i)
  have o:((s.data.toList.drop i).takeWhile (bI [2])).length<=s.data.toList.length:=by
   have:=(hS (bI [2]) (l:=s.data.toList.drop i)).length_le
   simp only[kZ] at this;omega
  rw[DH (by omega) d (by simp) (by omega)]
  simp only[j0]
  rw[uG b.1 b.2]
  simp only[j0]
  have g:bytesOf (s.extract i (tw (bI [2]) s.data.toList i))=some ((s.data.toList.drop i).takeWhile (bI [2])):=by
   unfold bytesOf;rw[<-k,if_pos];rw[<-q,k];simp only[maxLen];omega
  rw[g]
  simp only[j0]
  rw[qDj (fun c n=> ?_) (by omega) (by omega)]
  .simp only[j0,jA]
   split<;>rfl
  have:=LE n
  simpa[bI] using this
 simp only[h2,kA]
 by_cases h7:kd (s.data.toList[i])=7
 .simp only[h7,kI]
  have key:=RY (a0:=i+1) (f:=sV N s (i:Int)) (l:=s.data.toList) (p:=lK) (fun e=>if s.data.toList.getD e 0=34 then(.inr ((3,s.extract (i+1) e,0,0),((e+1:Nat):Int),0)) else(.inl ()))
   (fun j k b=>qFl k d b) (fun j k g b=>qFk hi k d g b) (by
    simp only[sV]
    rw[if_neg (by simp only[jA];omega),if_neg (by simp)]
    rfl) (s.data.toList.length-(i+1)) (i+1) N (jJ _) (by omega) (by omega)
  rw[bT (x:=(i:Int)+1) (by omega) (by omega),<-Int.natCast_succ,key]
  simp only[j0]
  split
  .rename_i h;split at h<;>simp_all [DX]
  rename_i h;split at h<;>simp_all
 simp only[h7,kA]
 by_cases h8:kd (s.data.toList[i])=8
 .simp only[h8,kI]
  rw[JG (by omega),bT (x:=(i:Int)+1) (by omega) (by omega)]
  simp only[j0]
  rw[qBp hi]
  simp only[j0,jA]
  by_cases h:s.data.toList.getD i 0=61/\s.data.toList.getD (i+1) 0=61
  .have k:i+1<s.data.toList.length:=by
    rcases gW (i+1) s.data.toList.length with h'|h'
    .exact h'
    have g:s.data.toList.getD (i+1) 0=0:=by rw[jP,List.getElem?_eq_none h'];rfl
    rw[g] at h;exact absurd h.2 (by decide)
   have b:oM s.data.toList i=i+2:=by rw[oM,if_pos h]
   rw[if_pos h,bT (by omega) (by omega),b]
   simp only[j0]
   rw[show((i:Int)+1+1)=((i+2:Nat):Int) by omega,uG (by omega) (by omega)]
   rfl
  have b:oM s.data.toList i=i+1:=by rw[oM,if_neg h]
  rw[if_neg h,b]
  simp only[j0]
  rw[<-Int.natCast_succ,uG (by omega) (by omega)]
  rfl
 simp only[h8,kA]
 rfl
theorem UH{p:UInt8->Bool}{l:List UInt8}(h:∀c∈l,p c=true):tw p l 0=l.length:=by
 unfold tw
 have:l.takeWhile p=l:=by
  induction l with
  |nil=>rfl
  |cons c l b=>rw[gL (h c (jG ..)),b fun d a=>h d (jK _ a)]
 simp[this]
abbrev bH:=Int×BA×Int×Int
theorem DD{ks:List Int}{k:Int}{c:UInt8}(a:k∈ks)(h:kd c=k):bI ks c=true:=by
 unfold bI;exact gR.2 ⟨k,a,by simp[h]⟩
theorem uN{p:UInt8->Bool}{l:List UInt8}{a:Nat}(h:a<l.length)(b:p l[a]=true):a<tw p l a:=by
 rw[<-zL h b];have:=(nJ (p:=p) (l:=l) (a:=a+1) (by omega)).1;omega
theorem JX{l:List UInt8}{i:Nat}(h:l.getD i 0≠0):i<l.length:=by
 rcases gW i l.length with h'|h'
 .exact h'
 exfalso;apply h;rw[jP,List.getElem?_eq_none h'];rfl
theorem GO{s:BA}{i:Nat}(hi:i<s.data.toList.length)(h:(dZ s i).2.2=0):∃e:Nat,(dZ s i).2.1=(e:Int)/\i<e/\e<=s.data.toList.length/\
  (((dZ s i).1.1=1\/(dZ s i).1.1=4)/\(dZ s i).1.2.1=s.extract i e\/(dZ s i).1.1=2/\(dZ s i).1.2.1=⟨#[]⟩\/(dZ s i).1.1=3/\(dZ s i).1.2.1.size+i<e):=by
 have d:=lB s
 unfold dZ at h ⊢
 rw[nQ hi] at h ⊢
 by_cases h1:kd (s.data.toList[i])=1
 .rw[if_pos h1] at h ⊢
  split at h
  .cases h
  rename_i h24
  rw[if_neg h24]
  have b:=nJ (p:=bI [1,2,3]) (l:=s.data.toList) (a:=i) (by omega)
  exact⟨_,rfl,uN hi (DD (by simp) h1),b.2,.inl ⟨.inl rfl,rfl⟩⟩
 rw[if_neg h1] at h ⊢
 by_cases h2:kd (s.data.toList[i])=2
 .rw[if_pos h2] at h ⊢
  split at h
  .cases h
  rename_i h24
  rw[if_neg h24]
  have b:=nJ (p:=bI [2]) (l:=s.data.toList) (a:=i) (by omega)
  exact⟨_,rfl,uN hi (DD (by simp) h2),b.2,.inr (.inl ⟨rfl,rfl⟩)⟩
 rw[if_neg h2] at h ⊢
 by_cases h7:kd (s.data.toList[i])=7
 .rw[if_pos h7] at h ⊢
  split at h
  .rename_i h24
   rw[if_pos h24]
   have b:=nJ (p:=lK) (l:=s.data.toList) (a:=i+1) (by omega)
   have c:tw lK s.data.toList (i+1)<s.data.toList.length:=JX (by rw[h24];decide)
   refine⟨_,rfl,by omega,by omega,.inr (.inr ⟨rfl,?_⟩)⟩
   simp only[ByteArray.size_extract]
   omega
  cases h
 rw[if_neg h7] at h ⊢
 by_cases h8:kd (s.data.toList[i])=8
 .rw[if_pos h8] at h ⊢
  refine⟨_,rfl,?_,?_,.inl ⟨.inr rfl,rfl⟩⟩
  .unfold oM;split<;>omega
  unfold oM
  split
  .rename_i hh
   have:i+1<s.data.toList.length:=JX (by rw[hh.2];decide)
   omega
  omega
 rw[if_neg h8] at h
 cases h
def eM(c:UInt8):Bool:=c !=10
def lW:Nat->BA->Nat->(Int×Int)⊕List bH
 |0,_,_=> .inr []
 |k+1,s,i=>
  if tw (bI [5]) s.data.toList i=s.data.toList.length then .inr [(5,⟨#[]⟩,0,(s.data.toList.length:Int))]
  else if kd (s.data.toList.getD (tw (bI [5]) s.data.toList i) 0)=6 then lW k s (tw eM s.data.toList (tw (bI [5]) s.data.toList i))
  else if(dZ s (tw (bI [5]) s.data.toList i)).2.2≠0 then .inl ((tw (bI [5]) s.data.toList i:Nat),(dZ s (tw (bI [5]) s.data.toList i)).2.2)
  else match lW k s (dZ s (tw (bI [5]) s.data.toList i)).2.1.toNat with
   | .inl x=> .inl x
   | .inr r=> .inr (((dZ s (tw (bI [5]) s.data.toList i)).1.1,(dZ s (tw (bI [5]) s.data.toList i)).1.2.1,(dZ s (tw (bI [5]) s.data.toList i)).1.2.2.1,((tw (bI [5]) s.data.toList i:Nat):Int))::r)
def EB(acc:List bH):(Int×Int)⊕List bH->List bH×Int×Int
 | .inl x=>([],x.1,x.2)
 | .inr r=>(acc++r,0,0)
def iQ(s:BA):List bH×Int×Int:=if s.data.toList.length>16384 then([],0,2) else EB [] (lW (s.data.toList.length+1) s 0)
theorem qEz{s:BA}{i:Nat}(hi:i<=s.data.toList.length):
  (if oR (s.extract i s.data.toList.length) 10<0 then((s.data.toList.length-i:Nat):Int) else oR (s.extract i s.data.toList.length) 10)=((tw eM s.data.toList i-i:Nat):Int):=by
 have x:=lB s
 have n:(s.extract i s.data.toList.length).size=s.data.toList.length-i:=by rw[ByteArray.size_extract];omega
 have v:=nJ (p:=eM) (l:=s.data.toList) (a:=i) hi
 have f:∀j,j<s.data.toList.length-i->(s.extract i s.data.toList.length)[j]! =s.data.toList.getD (i+j) 0:=by
  intro j b
  have hj':i+j<s.data.toList.length:=by omega
  rw[nQ hj',getElem!_pos _ _ (by rw[n];exact b),ByteArray.getElem_extract]
  simp[ByteArray.getElem_eq_getElem_data]
 have g:∀d a,a+d=s.data.toList.length->∀j,a<=j->j<tw eM s.data.toList a->s.data.toList.getD j 0≠10:=by
  intro d
  induction d with
  |zero=>intro a o j b e;rw[GX (by omega)] at e;omega
  |succ d q=>
   intro a o j b e
   have c:a<s.data.toList.length:=by omega
   cases hc:eM (s.data.toList[a]) with
   |true=>
    rw[<-zL c hc] at e
    rcases Nat.eq_or_lt_of_le b with rfl|b
    .rw[nQ c];simpa[eM] using hc
    exact q (a+1) (by omega) j b e
   |false=>rw[DK c hc] at e;omega
 have g:=g (s.data.toList.length-i) i (by omega)
 unfold oR
 rw[n]
 cases hf:(List.range (s.data.toList.length-i)).find? (fun j=>(s.extract i s.data.toList.length)[j]! ==(10:Int).toNat.toUInt8) with
 |none=>
  rw[List.find?_eq_none] at hf
  simp only
  rw[if_pos (by omega)]
  have:¬tw eM s.data.toList i<s.data.toList.length:=by
   intro c
   have b:=LB (p:=eM) (l:=s.data.toList) (s.data.toList.length-i) i (by omega) c
   have e:=hf (tw eM s.data.toList i-i) (fQ.2 (by omega))
   rw[f _ (by omega),show i+(tw eM s.data.toList i-i)=tw eM s.data.toList i by omega,nQ c] at e
   simp only[eM,bne_eq_false_iff_eq] at b
   rw[b] at e
   exact e (by decide)
  omega
 |some k=>
  have b:=List.find?_some hf
  have r:k<s.data.toList.length-i:=fQ.1 (gU hf)
  simp only
  rw[if_neg (by omega)]
  rw[f k r] at b
  have b:s.data.toList.getD (i+k) 0=10:=by simpa using b
  have e:¬i+k<tw eM s.data.toList i:=fun h=>g (i+k) (by omega) h b
  have t:¬tw eM s.data.toList i<i+k:=by
   intro c
   have hlt':tw eM s.data.toList i<s.data.toList.length:=by omega
   have q:=LB (p:=eM) (l:=s.data.toList) (s.data.toList.length-i) i (by omega) hlt'
   have u:=List.not_of_lt_findIdx (xs:=List.range (s.data.toList.length-i)) (p:=fun j=>(s.extract i s.data.toList.length)[j]! ==(10:Int).toNat.toUInt8) (i:=tw eM s.data.toList i-i)
   have o:=(List.find?_range_eq_some.1 hf).2.2 (tw eM s.data.toList i-i) (by omega)
   rw[f _ (by omega),show i+(tw eM s.data.toList i-i)=tw eM s.data.toList i by omega,nQ hlt'] at o
   simp only[eM,bne_eq_false_iff_eq] at q
   rw[q] at o
   simp at o
  omega
theorem IM{N:Nat}{s:BA}(n:s.data.toList.length<=16384)(g:s.data.toList.length+40<N):∀(k M i:Nat) (acc:List bH),i<=s.data.toList.length->s.data.toList.length<i+k->k<=M->acc.length<=i->
  aS (yH N s (some kdL)) M (acc,(i:Int))=some (EB acc (lW k s i))
 |0,_,i,_,f,o,_,_=>by omega
 |k+1,0,_,_,_,_,q,_=>by omega
 |k+1,M+1,i,acc,f,o,q,v=>by
  have y:=lB s
  have t:=nJ (p:=bI [5]) (l:=s.data.toList) (a:=i) f
  simp only[aS,lW]
  have c:yH N s (some kdL) (acc,(i:Int))=if tw (bI [5]) s.data.toList i=s.data.toList.length then some (.inr (acc++[(5,⟨#[]⟩,0,(s.data.toList.length:Int))],0,0))
    else if kd (s.data.toList.getD (tw (bI [5]) s.data.toList i) 0)=6 then some (.inl (acc,((tw eM s.data.toList (tw (bI [5]) s.data.toList i):Nat):Int)))
    else if(dZ s (tw (bI [5]) s.data.toList i)).2.2≠0 then some (.inr ([],(tw (bI [5]) s.data.toList i:Nat),(dZ s (tw (bI [5]) s.data.toList i)).2.2))
    else some (.inl (acc++[((dZ s (tw (bI [5]) s.data.toList i)).1.1,(dZ s (tw (bI [5]) s.data.toList i)).1.2.1,(dZ s (tw (bI [5]) s.data.toList i)).1.2.2.1,((tw (bI [5]) s.data.toList i:Nat):Int))],(dZ s (tw (bI [5]) s.data.toList i)).2.1)):=by
   simp only[yH]
   rw[DH f (by omega) (by simp) (by omega)]
   simp only[j0]
   generalize hE:tw (bI [5]) s.data.toList i=e at t ⊢
   by_cases he:e=s.data.toList.length
   .rw[if_pos he,if_pos (by rw[kY];omega),rU (by simp only[jB,jD];omega) (by omega),he]
    rfl
   have b:e<s.data.toList.length:=by omega
   rw[if_neg he,if_neg (by rw[kY];omega),zC b]
   simp only[j0,LC,kY,nQ b]
   by_cases h6:kd (s.data.toList[e])=6
   .rw[if_pos h6,if_pos h6,JG (by omega)]
    have h:=qEz (s:=s) (i:=e) (by omega)
    have d:=nJ (p:=eM) (l:=s.data.toList) (a:=e) (by omega)
    have u:(if(decide (oR (s.extract e s.data.toList.length) 10<0))=true then(some (IntKind.wrap .i64 ((ByteArray.size s:Int)-(e:Int)))) else(some (oR (s.extract e s.data.toList.length) 10)):Option Int)=some ((tw eM s.data.toList e-e:Nat):Int):=by
     rw[<-h,bT (by omega) (by omega)]
     by_cases hi:oR (s.extract e s.data.toList.length) 10<0
     .rw[if_pos (by simpa using hi),if_pos hi];congr 1;omega
     rw[if_neg (by simpa using hi),if_neg hi]
    simp only[j0,FH,xP]
    rw[u]
    simp only[j0]
    rw[bT (by omega) (by omega)]
    congr 3;omega
   rw[if_neg h6,if_neg h6,qCc b (by omega) (by omega)]
   simp only[j0,dF]
   by_cases h0:(dZ s e).2.2≠0
   .rw[if_pos h0,if_pos h0]
   rw[if_neg h0,if_neg h0,rU (by simp only[jB,jD];omega) (by omega)]
   rfl
  rw[c]
  by_cases he:tw (bI [5]) s.data.toList i=s.data.toList.length
  .rw[if_pos he,if_pos he];rfl
  rw[if_neg he,if_neg he]
  have b:tw (bI [5]) s.data.toList i<s.data.toList.length:=by omega
  by_cases h6:kd (s.data.toList.getD (tw (bI [5]) s.data.toList i) 0)=6
  .rw[if_pos h6,if_pos h6]
   have d:=nJ (p:=eM) (l:=s.data.toList) (a:=tw (bI [5]) s.data.toList i) (by omega)
   have h:=uN (p:=eM) b (by
    rw[nQ b] at h6
    simp only[eM,dF,ne_eq]
    intro e;rw[e] at h6;exact absurd h6 (by decide))
   exact IM n g k M _ acc d.2 (by omega) (by omega) (by omega)
  rw[if_neg h6,if_neg h6]
  by_cases h0:(dZ s (tw (bI [5]) s.data.toList i)).2.2≠0
  .rw[if_pos h0,if_pos h0];rfl
  rw[if_neg h0,if_neg h0]
  obtain⟨e,d,u,h,_⟩:=GO b (by simpa using h0)
  rw[d]
  simp only[j0,jU]
  rw[IM n g k M e _ h (by omega) (by omega) (by simp;omega)]
  cases lW k s e with
  |inl x=>rfl
  |inr r=>simp[EB]
theorem qBv{N:Nat}{s:BA}(a:20000<N):CK N s=some (iQ s):=by
 have b:=lB s
 unfold CK iQ
 by_cases h:s.data.toList.length>16384
 .rw[if_pos (by simp only[jA];omega),if_pos h]
 rw[if_neg (by simp only[jA];omega),if_neg h,KC (by omega)]
 have:=IM (N:=N) (s:=s) (by omega) (by omega) (s.data.toList.length+1) N 0 [] (by omega) (by omega) (by omega) (by simp)
 simp only[j0]
 rw[show((0:Nat):Int)=0 from rfl] at this
 rw[this]
 rfl
def uT(t:bH):Int:=t.2.2.2+(t.2.1.size:Int)+(if t.1=2 then 1 else 0)
def LS(s:BA):Int->List bH->Prop
 |_,[]=>True
 |e,t::r=>e<=t.2.2.2/\t.2.2.2+(t.2.1.size:Int)<=s.size/\(t.1=5↔r=[])/\(t.1=1\/t.1=4->s.extract t.2.2.2.toNat (t.2.2.2+(t.2.1.size:Int)).toNat=t.2.1/\0<t.2.1.size)/\LS s (uT t) r
theorem IS{s:BA}:∀(k i:Nat) (e:Int) (r:List bH),i<=s.data.toList.length->s.data.toList.length<i+k->e<=i->lW k s i= .inr r->LS s e r/\r≠[]/\r.length<=s.data.toList.length+1-i
 |0,i,e,r,A,G,H,c=>by omega
 |k+1,i,e,r,A,G,H,c=>by
  have M:=lB s
  have K:=nJ (p:=bI [5]) (l:=s.data.toList) (a:=i) A
  simp only[lW] at c
  generalize hE:tw (bI [5]) s.data.toList i=a at K c
  split at c
  .obtain rfl:=(Sum.inr.inj c).symm
   refine⟨⟨by show e<=(s.data.toList.length:Int);omega,by show(s.data.toList.length:Int)+((0:Nat):Int)<=_;omega,by simp,fun h=>by simp at h,trivial⟩,by simp,by simp;omega⟩
  rename_i he
  have o:a<s.data.toList.length:=by omega
  split at c
  .rename_i h6
   have u:=nJ (p:=eM) (l:=s.data.toList) (a:=a) (by omega)
   have d:=uN (p:=eM) o (by
    rw[nQ o] at h6
    simp only[eM,dF,ne_eq]
    intro e;rw[e] at h6;exact absurd h6 (by decide))
   obtain⟨v,y,F⟩:=IS k _ e r u.2 (by omega) (by omega) c
   exact⟨v,y,by omega⟩
  split at c
  .cases c
  rename_i h0
  obtain⟨b,B,u,D,E⟩:=GO o (by simpa using h0)
  rw[B,jU] at c
  generalize (dZ s a).1=t at c E
  cases z:lW k s b with
  |inl x=>rw[z] at c;cases c
  |inr q=>
   rw[z] at c
   obtain rfl:=(Sum.inr.inj c).symm
   have g:(s.extract a b).size=b-a:=by rw[ByteArray.size_extract];omega
   have f:uT (t.1,t.2.1,t.2.2.1,(a:Int))<=b/\(a:Int)+(t.2.1.size:Int)<=b/\t.1≠5/\(t.1=1\/t.1=4->t.2.1=s.extract a b):=by
    rcases E with ⟨n,d⟩|⟨n,d⟩|⟨n,d⟩
    .refine⟨?_,?_,by omega,fun _=>d⟩
     .simp only[uT,d,g];rw[if_neg (by omega)];omega
     rw[d,g];omega
    .have:(⟨#[]⟩:BA).size=0:=rfl
     refine⟨?_,?_,by omega,fun h=>by omega⟩
     .simp only[uT,d,this];rw[if_pos n];omega
     rw[d,this];omega
    refine⟨?_,by omega,by omega,fun h=>by omega⟩
    simp only[uT];rw[if_neg (by omega)];omega
   obtain⟨v,y,F⟩:=IS k b (uT (t.1,t.2.1,t.2.2.1,(a:Int))) q D (by omega) f.1 z
   refine⟨⟨by show e<=(a:Int);omega,?_,?_,?_,v⟩,by simp,by simp only[jB];omega⟩
   .show(a:Int)+(t.2.1.size:Int)<=_;omega
   .exact⟨fun h=>absurd h f.2.2.1,fun h=>absurd h y⟩
   intro h
   have:=f.2.2.2 h
   show s.extract (Int.toNat (a:Int)) ((a:Int)+(t.2.1.size:Int)).toNat=t.2.1/\0<t.2.1.size
   rw[this,g,jU,show((a:Int)+((b-a:Nat):Int)).toNat=b by omega]
   exact⟨rfl,by omega⟩
theorem GH{s:BA}:∀(k i:Nat) (x:Int×Int),i<=s.data.toList.length->s.data.toList.length<i+k->lW k s i= .inl x->0<=x.1/\x.1<=s.size/\x.2≠0
 |0,i,x,h,r,c=>by omega
 |k+1,i,x,h,r,c=>by
  have v:=lB s
  have t:=nJ (p:=bI [5]) (l:=s.data.toList) (a:=i) h
  simp only[lW] at c
  generalize hE:tw (bI [5]) s.data.toList i=a at t c
  split at c
  .cases c
  rename_i he
  have d:a<s.data.toList.length:=by omega
  split at c
  .rename_i h6
   have f:=nJ (p:=eM) (l:=s.data.toList) (a:=a) (by omega)
   have g:=uN (p:=eM) d (by
    rw[nQ d] at h6
    simp only[eM,dF,ne_eq]
    intro e;rw[e] at h6;exact absurd h6 (by decide))
   exact GH k _ x f.2 (by omega) c
  split at c
  .rename_i h0
   obtain rfl:=Sum.inl.inj c
   exact⟨by simp only;omega,by simp only;omega,h0⟩
  rename_i h0
  obtain⟨b,n,f,o,u⟩:=GO d (by simpa using h0)
  rw[n,jU] at c
  cases g:lW k s b with
  |inl y=>rw[g] at c;obtain rfl:=Sum.inl.inj c;exact GH k b y o (by omega) g
  |inr q=>rw[g] at c;cases c
end
section
open Go Go.Dc
end
section
open Go Go.Dc
end
section
open Go Go.Dc
def iT(s:BA):Bool:=decide (1<=s.data.toList.length/\s.data.toList.length<=24/\kd (s.data.toList.getD 0 0)=1/\tw (bI [1,2,3]) s.data.toList 0=s.data.toList.length)
theorem JY{s:BA}(h:¬(1<=s.data.toList.length/\s.data.toList.length<=24/\kd (s.data.toList.getD 0 0)=1/\tw (bI [1,2,3]) s.data.toList 0=s.data.toList.length)):false=iT s:=(gD h).symm
theorem KZ{N:Nat}{s:BA}(b:100<N):wC N s=some (iT s):=by
 have c:=lB s
 simp only[wC,KC (show 30<N by omega),j0]
 by_cases h1:1<=s.data.toList.length
 .by_cases h2:s.data.toList.length<=24
  .rw[if_pos (by simp only[jA];omega),if_pos (by simp only[jA];omega)]
   have hi:=zC (s:=s) (i:=0) (by omega)
   rw[show((0:Nat):Int)=0 from rfl] at hi
   rw[hi]
   simp only[j0,LC,kY]
   have a:=DH (N:=N) (s:=s) (ks:=[1,2,3]) (i:=0) (by omega) (by omega) (by simp) (by omega)
   rw[show((0:Nat):Int)=0 from rfl] at a
   by_cases h3:kd (s.data.toList[0])=1
   .rw[if_pos h3,a]
    simp only[j0]
    congr 1
    rw[fA,kY,iT,jA,nQ (by omega)]
    exact⟨fun h=>⟨h1,h2,h3,by omega⟩,fun h=>by have:=h.2.2.2;omega⟩
   rw[if_neg h3]
   refine congrArg some (JY fun h=> ?_)
   rw[nQ (by omega)] at h
   exact h3 h.2.2.1
  rw[if_pos (by simp only[jA];omega),if_neg (by simp only[jA];omega)]
  exact congrArg some (JY fun h=>h2 h.2.1)
 rw[if_neg (by simp only[jA];omega)]
 exact congrArg some (JY fun h=>h1 h.1)
end
end Go.Proofs.YthiiggmmmoolbaaGreatDoor
