/- No condition but those of each theorem. -/
import Derived.Test.YtbclhfjdmfbegaaGreatDoorProg
import Derived.WalkKit
import Derived.Deep.LoopGhost
import Derived.KernelRfl
import Derived.OrdersHeld
import Derived.OrdersIn
import Derived.LoopNIn
import Derived.Sort.LoopGhostIn
import Derived.Laws.AppendOwn
import Derived.RangeFuncLeaves
import Derived.RangeFuncRecord
import Derived.MapKept
import Derived.Maps.RangeRun
import Derived.ChangeKeysEq
import Derived.HandedShaped
import Derived.ChangeStays
import Derived.ChangeSame
import Derived.OpenShut
import Derived.WideShapes
import Derived.JoinedOf
import Derived.ReadAgain
import Derived.ChangeAt
import Derived.RowKit
import Derived.Lib.Overlaps
import Derived.Shelf.SlSortCmp.NoneTotal
import Derived.Shelf.Sort.Plain
import Derived.Shelf.Slices.In.SortNone
import Derived.WalkSmall
import Derived.Recover
import Derived.Test.YtbclhfjdmfbegaaGreatDoorK3p7
namespace Go.Proofs.YtbclhfjdmfbegaaGreatDoor
section
open Go Go.Dc Tryz
set_option maxHeartbeats 4000000
set_option maxRecDepth 100000
variable {N c1 c2:Nat} {m:Mem} {O:List Piece} {w:World} {a1 a2:Option Addr}
def xB(N:Nat)(p0:T8)(p1:BA)(s1:Int):Option (Int⊕Int):=
 (if(decide (s1<((List.length p0):Int)))=true then((bV p0 s1).bind fun a=>some (Op.bytesLess a.toList p1.toList)) else(some false):Ti).bind fun o2=>if o2=true then(some (.inl (IntKind.wrap .i64 (s1+1)))) else(some (.inr s1))
def FS(N:Nat)(p0:T8)(p1:BA):T9:=
 (aK (xB N p0 p1) N 0).bind fun a=>(if(decide (a<((List.length p0):Int)))=true then((bV p0 a).bind fun b=>some (b.toList==p1.toList)) else(some false):Ti).bind fun b=>if b=true then(some p0) else((dY 16 p0 ([(⟨#[]⟩:BA)])).bind fun b=>(oX b (IntKind.wrap .i64 (a+1)) (List.length b:Int)).bind fun c=>(oX b a (List.length b:Int)).bind fun c=>(sY b (IntKind.wrap .i64 (a+1)) a).bind fun b=>(bV b a).bind fun c=>some (List.set b (Int.toNat a) p1))
theorem qDe{p0:T8}{p1:BA}{T1:List Value}{r:T8}(st:St m (eJ a1 (bY (fun x:BA=>([vT x]:List Value)) p0 T1) 9::O) w)(p:OAS a1 p0.length c1 1 T1)(i:FS N p0 p1=some r):Calls prog 51 #[vS a1 p0 c1,vT p1] w fun e w'=>∃G Z Y m',e= .returned (vS G r Z)/\m.le m'/\St m' (eJ G (bY (fun x:BA=>([vT x]:List Value)) r Y) 9::O) w'/\OAS G r.length Z 1 Y:=by
 unfold FS at i;have q:=m.le_refl;refine bH func51 rfl ntmps51 ?_;refine aG 1 [] (aC ?_);refine aH 1 [(5,vI 0)] (aF (bB (cA (.exit 0) i (fun B L' w'=>∃(a:Int),∃F,a=B/\L'=[(0,vS a1 p0 c1),(1,vT p1),(5,vI a)]/\m.le F/\St F (eJ a1 (bY (fun x:BA=>([vT x]:List Value)) p0 T1) 9::O) w') ?_ ?_)))
 .rintro B i _ w1 ⟨a,F,rfl,rfl,q,st⟩;refine cO (aB (aF (aC (dT 12 i (fun o3 L' w'=>∃H,L'=[(0,vS a1 p0 c1),(1,vT p1),(5,vI a),(31,vB o3)]/\m.le H/\St H (eJ a1 (bY (fun x:BA=>([vT x]:List Value)) p0 T1) 9::O) w') ?_ ?_))))
  .rintro o3 i _ w4 ⟨H,rfl,q,st⟩;refine aS (aI i ?_ ?_)
   .intro A i;refine aG 2 [(4,vS a1 p0 c1)] (aO ?_);refine aR ?_;cases i;exact aT [4] [vS a1 p0 c1] ⟨a1,c1,T1,H,rfl,q,st,p⟩
   intro A i;refine aL (aB (aV 1 [(33,vS a1 p0 c1)] (dV 34 9 1 aJ [eB] st fun b1 m5 w5 e1 st r1=> ?_)));have st:=st.f1;have⟨b,a3,i⟩:=aZ i;refine bQ rfl (KO (d:=35) (t:=35) (u:=35) (e:=9) (by_:=16) (x:=(.tmp 33)) (y:=(.tmp 34)) (c:=aJ) (f:=(fun x:BA=>([vT x]:List Value))) (l:=p0) (fun _ _ _ h=>by obtain rfl:=h;rfl) (fun _=>rfl) kr rfl (ev (vS a1 p0 c1)) (ev (vS (aP b1) ([eB]) 1)) st p rfl kr (.inl kr) r1.src a3 fun n g T2 w6 s st=>(aA 1 [(0,vS n b g)] (aU rfl ?_)));have st:=st.f1.t;refine aB (aF (dK [(8,fun w'=>Inv m5 w'/\True)] kr st fun w7 _ st=> ?_));have D:=m5.le_refl;refine tA st D ?_;refine aD 0 36 (vS n b g) (.head _) (aD 1 37 (vI a) (.head _) (aD 2 38 (vI (wr (a+1))) (.head _) ?_));have⟨u3,R,i⟩:=aZ i;refine LK (t:=35) (e:=9) (k:=1) (x:=(.tmp 36)) (lo:=(some (.tmp 38))) (hi:=none) (li:=wr (a+1)) (hix:=(b.length:Int)) 3 39 kr rfl kr (.head _) (bJ eV) (ev (vS n b g)) kr (.inr ⟨_,_,rfl,(ev (vI (wr (a+1))))⟩) (.inl ⟨rfl,congrArg Nat.cast rfl⟩) s rfl R ?_;have a4:=MG R rfl;refine aD 4 40 (vS n b g) (.head _) (aD 5 41 (vI a) (.head _) ?_);have⟨u4,S,i⟩:=aZ i
   refine LK (t:=35) (e:=9) (k:=1) (x:=(.tmp 40)) (lo:=(some (.tmp 41))) (hi:=none) (li:=a) (hix:=(b.length:Int)) 6 42 kr rfl kr (.head _) (bJ eV) (ev (vS n b g)) kr (.inr ⟨_,_,rfl,(ev (vI a))⟩) (.inl ⟨rfl,congrArg Nat.cast rfl⟩) s rfl S ?_;have a5:=MG S rfl;have⟨l2,U,i⟩:=aZ i;refine aY 7 kr (WG (d:=43) (t:=35) (u:=35) (e:=9) (k:=1) (x:=(.tmp 39)) (y:=(.tmp 42)) (f:=(fun x:BA=>([vT x]:List Value))) (l:=b) (d0:=wr (a+1)) (s0:=a) (fun _=>rfl) (fun _ _ hv=>by simp only[jI,kZ,dD] at hv;rcases hv with rfl<;>rfl) (by decide) kr rfl (ev (.slice (oO n g (Int.toNat (wr (a+1))) 1) (Int.toNat (b.length:Int)-Int.toNat (wr (a+1))) (g-Int.toNat (wr (a+1))))) (ev (.slice (oO n g (Int.toNat a) 1) (Int.toNat (b.length:Int)-Int.toNat a) (g-Int.toNat a))) rfl rfl kr st s rfl U fun v1 w8 st=> ?_);have E:=((VS U).trans rfl);refine tA st D ?_;refine cC kr ?_;refine aB (aV 3 [(44,vS n b g),(45,vI a),(46,vT p1)] ?_);have⟨x3,V,i⟩:=aZ i
   refine bQ rfl (KK (d:=47) (t:=35) (e:=9) (x:=(.tmp 44)) (y:=(.tmp 45)) (k:=1) kr rfl (ev (vS n b g)) (ev (vI a)) kr s E V (bQ rfl (SU (t:=9) (x:=(.tmp 47)) (y:=(.tmp 46)) (o:=0) (f:=(fun x:BA=>([vT x]:List Value))) (z:=x3) (u:=p1) (v:=vT p1) (fun _=>rfl) (Int.toNat a*1) rfl kr (ev (.pointer (some ⟨ab n,Int.toNat a*1,none⟩))) (ev (vT p1)) st s E V kr rfl fun w9 st=> ?_)));have M:List.length (List.set l2 (Int.toNat a) p1)=b.length:=LW E _ _;refine aS (aC (aH 2 [(4,vS n b g)] (aO ?_)));obtain rfl:=sI i;refine aT [4] [vS n b g] ?_;exact⟨n,g,T2,m5,(by(try unfold vS);rw[M]<;>rfl),q.t e1,st,(OAS.cast s M)⟩
  intro o3 i K;refine aA 5 [(24,vB (decide (a<(p0.length:Int))))] (cH 24 i ?_ ?_)
  .intro A i;refine aA 2 [(25,vS a1 p0 c1),(26,vI a)] ?_;have⟨g,b,i⟩:=aZ i;refine bQ rfl (KK (d:=27) (t:=35) (e:=9) (x:=(.tmp 25)) (y:=(.tmp 26)) (k:=1) kr rfl (ev (vS a1 p0 c1)) (ev (vI a)) kr p rfl b (bQ rfl (TK (d:=28) (t:=9) (x:=(.tmp 27)) (o:=0) (f:=(fun x:BA=>([vT x]:List Value))) (z:=g) (v:=vT g) (fun _=>rfl) (Int.toNat a*1) rfl kr rfl (ev (.pointer (some ⟨ab a1,Int.toNat a*1,none⟩))) st.h p rfl b kr (aA 3 [(31,vB (g.toList==p1.toList))] ?_))));cases i;exact bD _ kr (K _ _ ⟨F,rfl,q,st⟩)
  intro A i;refine aA 7 [(31,vB false)] ?_;cases i;exact bD _ kr (K _ _ ⟨F,rfl,q,st⟩)
 intro B i n;refine cR _ kr (cQ (fun s L' w'=>∃(s1:Int),∃b,aK (xB N p0 p1) s s1=some B/\L'=[(0,vS a1 p0 c1),(1,vT p1),(5,vI s1)]/\m.le b/\St b (eJ a1 (bY (fun x:BA=>([vT x]:List Value)) p0 T1) 9::O) w') N ⟨0,m,i,rfl,q,st⟩ ?_);rintro s _ S ⟨s1,b,hL,rfl,q,st⟩;rcases s with _|s
 .exact cU hL
 obtain⟨R,i,H,E⟩:=cV hL;clear hL;unfold xB at i;refine aF (aC (dT 12 i (fun o2 L' w'=>∃g,L'=[(0,vS a1 p0 c1),(1,vT p1),(5,vI s1),(17,vB o2)]/\m.le g/\St g (eJ a1 (bY (fun x:BA=>([vT x]:List Value)) p0 T1) 9::O) w') ?_ ?_))
 .rintro o2 i _ D ⟨g,rfl,q,st⟩;refine aS (aI i ?_ ?_)
  .intro A i;refine aL (aB (bB (bA (aA 3 [(5,vI (wr (s1+1)))] (aU rfl (bN ?_))))));have hL:=H _ (sI i);exact xE (cN ⟨wr (s1+1),g,hL,rfl,q,st⟩)
  intro A i;refine cJ (bC ?_);have ho:=E _ (sI i);refine bC ?_;exact xE (n _ _ ⟨s1,g,ho,rfl,q,st⟩)
 intro o2 i K;refine aA 5 [(10,vB (decide (s1<(p0.length:Int))))] (cH 10 i ?_ ?_)
 .intro A i;refine aA 2 [(11,vS a1 p0 c1),(12,vI s1)] ?_;have⟨M,D,i⟩:=aZ i;refine bQ rfl (KK (d:=13) (t:=35) (e:=9) (x:=(.tmp 11)) (y:=(.tmp 12)) (k:=1) kr rfl (ev (vS a1 p0 c1)) (ev (vI s1)) kr p rfl D (bQ rfl (TK (d:=14) (t:=9) (x:=(.tmp 13)) (o:=0) (f:=(fun x:BA=>([vT x]:List Value))) (z:=M) (v:=vT M) (fun _=>rfl) (Int.toNat s1*1) rfl kr rfl (ev (.pointer (some ⟨ab a1,Int.toNat s1*1,none⟩))) st.h p rfl D kr (aA 3 [(17,vB (Op.bytesLess M.toList p1.toList))] ?_))));cases i;exact bD _ kr (K _ _ ⟨b,rfl,q,st⟩)
 intro A i;refine aA 7 [(17,vB false)] ?_;cases i;exact bD _ kr (K _ _ ⟨b,rfl,q,st⟩)
def zX(N:Nat)(p0:Tq)(s1:DN):Option (DN⊕T8):=
 if(decide (s1.2<(List.length p0:Int)))=true then(((bV p0 s1.2).bind fun a=>(sH N p0 a.1).bind fun a=>if a.2=true then((FS N s1.1 a.1.1).bind fun a=>some a) else(some s1.1):T9).bind fun o2=>some (.inl (o2,IntKind.wrap .i64 (s1.2+1)))) else(some (.inr s1.1))
def FF(N:Nat)(p0:Tq):T9:=
 (sK N p0).bind fun y1=>if(y1 !=0)=true then(some ([]:T8)) else((aK (zX N p0) N (([]:T8),0)).bind fun a=>some a)
theorem qCj{p0:Tq}{r:T8}(st:St m (O) w)(d:RepS C1 m a1 c1 p0)(i:FF N p0=some r):Calls prog 24 #[.agg #[vS a1 p0 c1]] w fun e w'=>∃E F m',e= .returned (vS E r F)/\m.le m'/\St m' (kR E r F 9 1::O) w'/\RepS aJ m' E F r:=by
 unfold FF at i;have q:=m.le_refl;refine bH func24 rfl ntmps24 ?_;refine aC (eA 1 28 (.agg #[vS a1 p0 c1]) st fun z m1 w1 K st a=>(aH 1 [] (aC (aH 1 [(3,v2)] (aF (aC (bW 8 (.agg #[vS a1 p0 c1]) st a (aM 9 i (wV st (d.mono K)) ?_))))))));rintro y1 i _ w2 ⟨m2,rfl,B,st⟩;refine aH 1 [(10,vB (y1 !=0))] (aI i ?_ ?_)
 .intro A i;refine aG 1 [(2,v2)] (aO ?_);refine aR ?_;cases i;exact aT [2] [v2] ⟨none,0,m2,rfl,(q.t K).t B,(st.nilroom 9 1),(RepS.nil _ _)⟩
 intro A i;refine aL (aB (aF (aV 1 [(11,vP z 0)] (bW 12 (vS a1 p0 c1) st (a.mono B) (aH 2 [(13,vI (p0.length:Int)),(14,vI 0)] (bB ?_))))));have st:=LA (f:=(fun x:BA=>([vT x]:List Value))) (st.nilroom 9 1);refine cA (.exit 0) i (fun b L' w'=>∃(l:T8),∃g n T1 Y,l=b/\L'=[(3,vS g l n)]/\m.le Y/\St Y (eJ g (bY (fun x:BA=>([vT x]:List Value)) l T1) 9::O) w'/\OAS g l.length n 1 T1) ?_ ?_
 .rintro b i _ u ⟨l,g,n,T1,Y,rfl,rfl,q,st,k⟩;refine cO (aB (aG 2 [(2,vS g l n)] (aO ?_)));obtain rfl:=sI i;obtain⟨p,o,st,s⟩:=St.freezeM (c:=aJ) (f:=(fun x:BA=>([vT x]:List Value))) st k rfl (fun _=>rfl) (fun _ x=>rfl);exact aT [2] [vS g l n] ⟨g,n,p,rfl,q.t o,st,s⟩
 intro b i G;refine cR _ kr (cQ (fun M L' w'=>∃(s1:DN),∃k o T2 s,aK (zX N p0) M s1=some b/\L'=[(1,vP z 0),(3,vS k s1.1 o),(12,vS a1 p0 c1),(13,vI (p0.length:Int)),(14,vI s1.2)]/\m.le s/\St s (eJ k (bY (fun x:BA=>([vT x]:List Value)) s1.1 T2) 9::O) w'/\MRow s z 0 [vS a1 p0 c1]/\RepS C1 s a1 c1 p0/\OAS k s1.1.length o 1 T2) N ⟨(([]:T8),0),none,0,[],m2,i,rfl,(q.t K).t B,st,a.mono B,(d.mono K).mono B,(OAS.nil 1)⟩ ?_);rintro M _ w4 ⟨s1,k,o,T2,s,hL,rfl,q,st,a,d,D⟩;rcases M with _|M
 .exact cU hL
 obtain⟨b5,i,V,U⟩:=cV hL;clear hL;unfold zX at i;refine aG 1 [(15,vB (decide (s1.2<(p0.length:Int))))] (aF ?_);refine aI i ?_ ?_
 .intro A i;refine aL (aB (aF (cA .normal i (fun o2 L' w'=>∃y H T3 u,L'=[(1,vP z 0),(3,vS y o2 H),(12,vS a1 p0 c1),(13,vI (p0.length:Int)),(14,vI s1.2)]/\m.le u/\St u (eJ y (bY (fun x:BA=>([vT x]:List Value)) o2 T3) 9::O) w'/\MRow u z 0 [vS a1 p0 c1]/\RepS C1 u a1 c1 p0/\OAS y o2.length H 1 T3) ?_ ?_)))
  .rintro o2 i _ v ⟨y,H,T3,u,rfl,q,st,a,d,p⟩;refine aB (bA (aA 2 [(14,vI (wr (s1.2+1)))] (aU rfl ?_)));have hL:=V _ (sI i);exact xE (cN ⟨(o2,wr (s1.2+1)),y,H,T3,u,hL,rfl,q,st,a,d,p⟩)
  intro o2 i R;refine bB (aC (eP 16 d i ?_));rintro Z i b2 f1 b0 ⟨_,_,rfl,rfl,rfl⟩ a8;refine eS 17 42 16 f1 (.agg (V2 Z)) st a8 (cG 5 42 (.agg (V3 eB eB)) st fun b3 w6 st=>(bM (.agg (V2 Z)) st fun w7 st=>(aS (aC (bW 19 (.agg #[vS a1 p0 c1]) st a (bK 1 21 9 20 0 (vT Z.1) st.h (aM 22 i (zS st d) ?_)))))));rintro v i _ w8 ⟨a5,c5,a6,c6,m6,rfl,p,st,r2,r3⟩;refine aA 3 [(23,.agg (Vc v.1 a5 c5 a6 c6)),(24,vB v.2)] (cG 6 58 (.agg #[vT eB,v6,v6]) st fun b4 w9 st=>(bM (.agg (Vc v.1 a5 c5 a6 c6)) st fun b6 st=>(aH 1 [(7,vB v.2)] (aC (aH 1 [(25,vB v.2)] (aI i ?_ ?_))))))
  .intro A i;refine bA (aA 2 [(26,vS k s1.1 o),(27,vP b4 0)] (bG 28 (vT v.1.1) st.h (aM 29 i (qDe st.f4 D) ?_)));rintro y3 i _ b7 ⟨a7,c7,T4,m7,rfl,S,st,a9⟩;refine aA 1 [(3,vS a7 y3 c7)] (aU rfl (bN ?_));cases i;exact xE (R _ _ ⟨a7,c7,T4,m7,rfl,(q.t p).t S,st.f1.t.f1.t.f1.t.f1.t,(a.mono p).mono S,(d.mono p).mono S,a9⟩)
  intro A i;refine aL (bN ?_);cases i;exact xE (R _ _ ⟨k,o,T2,m6,rfl,q.t p,st.t.t.t.t,a.mono p,d.mono p,D⟩)
 intro A i;refine cJ (bC ?_);have ho:=U _ (sI i);refine bC ?_;exact xE (G _ _ ⟨s1.1,k,o,T2,s,ho,rfl,q,st,D⟩)
def BH(N:Nat)(p0:dU):Option DP:=
 (if(p0.2.2.1==3)=true then(some (⟨#[]⟩:BA)) else(some p0.1):Tj).bind fun a=>some (p0.2.2.1==3,a,p0.2.1,p0.2.2.1)
theorem SB{p0:dU}{r:DP}(st:St m (O) w)(i:BH N p0=some r):Calls prog 56 #[.agg (Vg p0)] w fun e w'=>∃m',e= .returned (.agg (Vk r))/\m.le m'/\St m' (O) w':=by
 unfold BH at i;have q:=m.le_refl;refine bH func56 rfl ntmps56 ?_;refine aC (eA 1 66 (.agg (Vg p0)) st fun c n o l st a=>(cG 2 89 (.agg #[vB false,vT eB,vT eB,vI 0]) st fun k p st=>(aS (aC (aA 1 [(4,vP c 2)] (bW 5 (vI p0.2.2.1) st (a.drop 2) (aA 2 [(6,vB (p0.2.2.1==3)),(7,vP c 0)] (bW 8 (vT p0.1) st a (aA 1 [(9,vP c 1)] (bW 10 (vT p0.2.1) st (a.drop 1) (aA 1 [(11,vP c 2)] (bW 12 (vI p0.2.2.1) st (a.drop 2) (aA 1 [(13,.agg #[vB (p0.2.2.1==3),vT p0.1,vT p0.2.1,vI p0.2.2.1])] (cG 3 89 (.agg #[vB false,vT eB,vT eB,vI 0]) st fun g s st=>(bM (.agg #[vB (p0.2.2.1==3),vT p0.1,vT p0.2.1,vI p0.2.2.1]) st fun u st=>(aS (aF (aC (bK 1 15 4 14 0 (vB (p0.2.2.1==3)) st.h (aS (cA .normal i (fun b L' w'=>∃d,L'=[(2,vP k 0),(3,vP g 0)]/\m.le d/\St d (kB g #[vB (p0.2.2.1==3),vT b,vT p0.2.1,vI p0.2.2.1] 89::kB k #[vB false,vT eB,vT eB,vI 0] 89::O) w') ?_ ?_)))))))))))))))))))))
 .rintro b i _ f ⟨d,rfl,q,st⟩;refine aB (aC (bG 17 (.agg #[vB (p0.2.2.1==3),vT b,vT p0.2.1,vI p0.2.2.1]) st.h (bM (.agg #[vB (p0.2.2.1==3),vT b,vT p0.2.1,vI p0.2.2.1]) st.f1 fun v st=>(aS (aO ?_)))));obtain rfl:=sI i;refine dO 2 89 [] [] st.h ?_;exact⟨d,rfl,q,st.t.t⟩
 intro b i f;refine aI i ?_ ?_
 .intro A i;refine bA (aA 1 [(16,vP g 1)] (eM #[vB (p0.2.2.1==3),vT eB,vT p0.2.1,vI p0.2.2.1] st fun v st=>(aU rfl ?_)));cases i;exact xE (f _ _ ⟨n,rfl,q.t l,st.f1.f1⟩)
 intro A i;refine aL ?_;cases i;exact xE (f _ _ ⟨n,rfl,q.t l,st.f1.f1⟩)
def JE(N:Nat)(p0:BA)(p1:BA):Ta:=
 some (pM p0 p1)
theorem qBd{p0:BA}{p1:BA}{r:Int}(st:St m (O) w)(i:JE N p0 p1=some r):Calls prog 117 (V3 p0 p1) w fun e w'=>∃m',e= .returned (vI r)/\m.le m'/\St m' (O) w':=by
 unfold JE at i;have q:=m.le_refl;refine bH func117 rfl ntmps117 ?_;refine aG 1 [] (aC ?_);refine aA 2 [(5,vT p0),(6,vT p1)] (bQ rfl (qGp (d:=7) (f:=152) (x:=(.tmp 5)) (y:=(.tmp 6)) (ts:= #[9,9]) kr rfl (ev (vT p0)) (ev (vT p1)) func152 kr kr (aH 1 [(4,vI (pM p0 p1))] (aO ?_))));cases i;exact aT [4] [vI (pM p0 p1)] ⟨m,rfl,q,st⟩
def BK(N:Nat)(p0:BA)(p1:BA):Ta:=
 (JE N p0 p1).bind fun y1=>some y1
theorem SE{p0:BA}{p1:BA}{r:Int}(st:St m (O) w)(i:BK N p0 p1=some r):Calls prog 79 (V3 p0 p1) w fun e w'=>∃m',e= .returned (vI r)/\m.le m'/\St m' (O) w':=by
 unfold BK at i;have q:=m.le_refl;refine bH func79 rfl ntmps79 ?_;refine aG 1 [] (aC ?_);refine aA 2 [(5,vT p0),(6,vT p1)] (aM 7 i (qBd st) ?_);rintro y1 i _ c ⟨b,rfl,a,st⟩;refine aH 1 [(4,vI y1)] (aO ?_);obtain rfl:=sI i;exact aT [4] [vI y1] ⟨b,rfl,q.t a,st⟩
def BQ(N:Nat)(p0:Int):Ti:=
 some (p0 !=p0)
theorem SJ{p0:Int}{r:Bool}(st:St m (O) w)(i:BQ N p0=some r):Calls prog 118 #[vI p0] w fun e w'=>∃m',e= .returned (vB r)/\m.le m'/\St m' (O) w':=by
 unfold BQ at i;have q:=m.le_refl;refine bH func118 rfl ntmps118 ?_;refine aG 1 [] (aC ?_);refine aH 4 [(2,vB (p0 !=p0))] (aO ?_);cases i;exact aT [2] [vB (p0 !=p0)] ⟨m,rfl,q,st⟩
def FU(N:Nat)(p0:Int)(p1:Int):Ta:=
 (BQ N p0).bind fun y1=>(BQ N p1).bind fun a=>if y1=true then(if a=true then(some 0) else(some (-1))) else(if a=true then(some 1) else(if(decide (p0<p1))=true then(some (-1)) else(if(decide (p0>p1))=true then(some 1) else(some 0))))
theorem qDn{p0:Int}{p1:Int}{r:Int}(st:St m (O) w)(i:FU N p0 p1=some r):Calls prog 80 #[vI p0,vI p1] w fun e w'=>∃m',e= .returned (vI r)/\m.le m'/\St m' (O) w':=by
 unfold FU at i;have q:=m.le_refl;refine bH func80 rfl ntmps80 ?_;refine aG 1 [] (aC ?_);refine aA 1 [(7,vI p0)] (aM 8 i (SJ st) ?_);rintro y1 i _ g ⟨f,rfl,c,st⟩;refine aH 1 [(5,vB y1)] (aC (aA 1 [(9,vI p1)] (aM 10 i (SJ st) ?_)));rintro b i _ h ⟨a,rfl,d,st⟩;have q:=(q.t c).t d;refine aH 1 [(6,vB b)] (aF (aG 1 [(11,vB y1)] (aI i ?_ ?_)))
 .intro A i;refine aF (aG 1 [(12,vB b)] (aI i ?_ ?_))
  .intro A i;refine aG 1 [(4,vI 0)] (aO ?_);refine aR (aR ?_);cases i;exact aT [4] [vI 0] ⟨a,rfl,q,st⟩
  intro A i;refine aL (aB (aG 1 [(4,vI (-1))] (aO (aR ?_))));cases i;exact aT [4] [vI (-1)] ⟨a,rfl,q,st⟩
 intro A i;refine aL (aB (aF (aG 1 [(13,vB b)] (aI i ?_ ?_))))
 .intro A i;refine aG 1 [(4,vI 1)] (aO ?_);refine aR ?_;cases i;exact aT [4] [vI 1] ⟨a,rfl,q,st⟩
 intro A i;refine aL (aB (aF (aG 3 [(16,vB (decide (p0<p1)))] (aI i ?_ ?_))))
 .intro A i;refine aG 1 [(4,vI (-1))] (aO ?_);refine aR ?_;cases i;exact aT [4] [vI (-1)] ⟨a,rfl,q,st⟩
 intro A i;refine aL (aB (aF (aG 3 [(19,vB (decide (p0>p1)))] (aI i ?_ ?_))))
 .intro A i;refine aG 1 [(4,vI 1)] (aO ?_);refine aR ?_;cases i;exact aT [4] [vI 1] ⟨a,rfl,q,st⟩
 intro A i;refine aL (aB (aG 1 [(4,vI 0)] (aO ?_)));cases i;exact aT [4] [vI 0] ⟨a,rfl,q,st⟩
def KJ(N:Nat)(p0:Tb)(s1:Int):Option (Int⊕Unit⊕Int):=
 if(decide (s1<(List.length p0:Int)))=true then((bV p0 s1).bind fun a=>if(a !=0)=true then(some (.inr (.inr (a)))) else(some (.inl (IntKind.wrap .i64 (s1+1))))) else(some (.inr (.inl ())))
def GP(N:Nat)(p0:Tb):Ta:=
 (aK (KJ N p0) N 0).bind fun a=>(match a with| .inl a=>some 0| .inr (z)=>some z)
theorem qEe{p0:Tb}{r:Int}(st:St m (O) w)(k:RepS (aX .i64) m a1 c1 p0)(i:GP N p0=some r):Calls prog 78 #[vS a1 p0 c1] w fun e w'=>∃m',e= .returned (vI r)/\m.le m'/\St m' (O) w':=by
 unfold GP at i;have q:=m.le_refl;refine bH func78 rfl ntmps78 ?_;refine aG 1 [] (aC ?_);refine aH 1 [(3,vI 0)] (aF (aG 3 [(6,vS a1 p0 c1),(7,vI (p0.length:Int)),(8,vI 0)] (bB ?_)));have⟨c,i,o⟩:=aZ i;refine dH (.exit 0) (fun L' w'=>∃(p:Unit),∃h,(.inl p)=c/\L'=[(3,vI 0)]/\m.le h/\St h (O) w') ?_ ?_
 .rintro _ a ⟨p,h,rfl,rfl,q,st⟩;have i:=o;refine cO (aB (aG 2 [(2,vI 0)] (aO ?_)));cases i;exact aT [2] [vI 0] ⟨h,rfl,q,st⟩
 intro f;refine cR _ kr (cQ (fun g L' w'=>∃(s1:Int),∃a,aK (KJ N p0) g s1=some c/\L'=[(3,vI 0),(6,vS a1 p0 c1),(7,vI (p0.length:Int)),(8,vI s1)]/\m.le a/\St a (O) w'/\RepS (aX .i64) a a1 c1 p0) N ⟨0,m,i,rfl,q,st,k⟩ ?_);rintro g _ x ⟨s1,a,hL,rfl,q,st,k⟩;rcases g with _|g
 .exact cU hL
 obtain⟨u,i,l,b⟩:=cV hL;clear hL;unfold KJ at i;refine aG 1 [(9,vB (decide (s1<(p0.length:Int))))] (aF ?_);refine aI i ?_ ?_
 .intro A i;refine aL (aB (aF (bB (aC (eP 10 k i ?_)))));rintro d i v s t rfl n;refine eS 11 3 10 s (vI d) st n (aH 1 [(5,vI d)] (aC (aH 3 [(14,vB (d !=0))] (aI i ?_ ?_))))
  .intro A i;refine aG 2 [(2,vI d)] (aO ?_);refine bI (aR ?_);have ho:=b _ (sI i);subst ho;have i:=o;refine aR (bI (aR ?_));obtain rfl:=sI i;exact aT [2] [vI d] ⟨a,rfl,q,st⟩
  intro A i;refine aL (bN (aB (bA (aA 2 [(8,vI (wr (s1+1)))] (aU rfl ?_)))));have hL:=l _ (sI i);exact xE (cN ⟨wr (s1+1),a,hL,rfl,q,st,k⟩)
 intro A i;refine cJ (bC ?_);have ho:=b _ (sI i);refine bC ?_;exact xE (f _ _ ⟨(),a,ho,rfl,q,st⟩)
def KH(N:Nat)(p0:DP)(p1:DP):Ta:=
 if((p0.1==p1.1)&&((p0.2.1.toList==p1.2.1.toList)&&((p0.2.2.1.toList==p1.2.2.1.toList)&&((p0.2.2.2==p1.2.2.2)&&true))))=true then(some 0) else(if(!(p0.1==p1.1))=true then(if p1.1=true then(some (-1)) else(some 1)) else((BK N p0.2.1 p1.2.1).bind fun y1=>(FU N p0.2.2.2 p1.2.2.2).bind fun a=>(BK N p0.2.2.1 p1.2.2.1).bind fun b=>(GP N ([y1,a,b])).bind fun a=>some a))
theorem qDk{p0:DP}{p1:DP}{r:Int}(st:St m (O) w)(i:KH N p0 p1=some r):Calls prog 55 #[.agg (Vk p0),.agg (Vk p1)] w fun e w'=>∃m',e= .returned (vI r)/\m.le m'/\St m' (O) w':=by
 unfold KH at i;have q:=m.le_refl;refine bH func55 rfl ntmps55 ?_;refine aC (eA 2 89 (.agg (Vk p0)) st fun k H U D st b=>(eA 3 89 (.agg (Vk p1)) st fun f g V o st c=> ?_));have q:=(q.t D).t o;have b:=b.mono o;refine aH 1 [] (aF (bB (aC (bW 6 (.agg (Vk p0)) st b (bW 7 (.agg (Vk p1)) st c (bQ rfl (OB (d:=8) (t:=89) (t2:=89) (x:=(.tmp 6)) (y:=(.tmp 7)) (xs:=(Vk p0)) (ys:=(Vk p1)) ((p0.1==p1.1)&&((p0.2.1.toList==p1.2.1.toList)&&((p0.2.2.1.toList==p1.2.2.1.toList)&&((p0.2.2.2==p1.2.2.2)&&true)))) kr rfl (ev (.agg (Vk p0))) (ev (.agg (Vk p1))) kr kr kr (aH 1 [(5,vB ((p0.1==p1.1)&&((p0.2.1.toList==p1.2.1.toList)&&((p0.2.2.1.toList==p1.2.2.1.toList)&&((p0.2.2.2==p1.2.2.2)&&true)))))] (aI i ?_ ?_)))))))))
 .intro A i;refine aG 1 [(4,vI 0)] (aO ?_);refine bI (aR ?_);cases i;exact aT [4] [vI 0] ⟨g,rfl,q,st⟩
 intro A i;refine aV 1 [(10,vP k 0)] ?_;refine bW 11 (vB p0.1) st b ?_;refine aA 1 [(12,vP f 0)] (bW 13 (vB p1.1) st c (aH 2 [(9,vB (!(p0.1==p1.1)))] (aI i ?_ ?_)))
 .intro A i;refine aF (aV 1 [(15,vP f 0)] (bW 16 (vB p1.1) st c (aS (aI i ?_ ?_))))
  .intro A i;refine aG 1 [(4,vI (-1))] (aO ?_);refine aR (bI (aR ?_));cases i;exact aT [4] [vI (-1)] ⟨g,rfl,q,st⟩
  intro A i;refine aL (aB (aG 1 [(4,vI 1)] (aO (bI (aR ?_)))));cases i;exact aT [4] [vI 1] ⟨g,rfl,q,st⟩
 intro A i;refine aL (bN (aB (aF (dK [(18,fun w'=>Inv g w'/\True)] kr st fun Y _ st=> ?_))));have a:=g.le_refl;refine tA st a ?_;refine aD 0 17 (vP k 1) (.head _) (cM 9 17 1 18 1 (vT p0.2.1) (.head _) (fun _ h=>h.1) (b.drop 1) (aD 2 19 (vP f 1) (.head _) (cM 9 19 3 20 1 (vT p1.2.1) (.head _) (fun _ h=>h.1) (c.drop 1) (aD 5 22 (vP k 3) (.head _) (cM 3 22 6 23 3 (vI p0.2.2.2) (.head _) (fun _ h=>h.1) (b.drop 3) (aD 7 24 (vP f 3) (.head _) (cM 3 24 8 25 3 (vI p1.2.2.2) (.head _) (fun _ h=>h.1) (c.drop 3) (aD 10 27 (vP k 2) (.head _) (cM 9 27 11 28 2 (vT p0.2.2.1) (.head _) (fun _ h=>h.1) (b.drop 2) (aD 12 29 (vP f 2) (.head _) (cM 9 29 13 30 2 (vT p1.2.2.1) (.head _) (fun _ h=>h.1) (c.drop 2) (aY 4 kr (cL 21 i (fun _ h=>SE st h) ?_)))))))))))));rintro y1 i _ Z ⟨K,rfl,p,st⟩;refine⟨_,rfl,?_⟩;have a:=Mem.le_trans a p;refine tA st a ?_;refine aY 9 kr (cL 26 i (fun _ h=>qDn st h) ?_);rintro l i _ w5 ⟨M,rfl,s,st⟩;refine⟨_,rfl,?_⟩;have a:=Mem.le_trans a s;refine tA st a ?_;refine aY 14 kr (cL 31 i (fun _ h=>SE st h) ?_);rintro n i _ w6 ⟨R,rfl,u,st⟩;refine⟨_,rfl,?_⟩;have a:=Mem.le_trans a u;refine tA st a ?_
 refine aY 15 kr (nF (d:=32) (t:=22) (e:=3) (len:=3) (parts:= #[(0,(.tmp 21)),(1,(.tmp 26)),(2,(.tmp 31))]) (aX .i64) (xs:=[y1,l,n]) [vI y1,vI l,vI n] kr rfl (fun _=>nH kr _) rfl rfl st ⟨[vI y1],_,rfl,rfl,⟨[vI l],_,rfl,rfl,⟨[vI n],_,rfl,rfl,rfl⟩⟩⟩ fun G S w7 v st F=> ?_);have a:=Mem.le_trans a v;refine tA st a ?_;refine aY 16 kr (cL 33 i (fun _ h=>qEe st F h) ?_);rintro B i _ w8 ⟨E,rfl,z,st⟩;refine⟨_,rfl,?_⟩;have a:=Mem.le_trans a z;refine tA st a ?_;refine aD 17 4 (vI B) (.head _) (cC kr ?_);have st:=st.t;refine aB (aO ?_);obtain rfl:=sI i;exact aT [4] [vI B] ⟨E,rfl,((((q.t p).t s).t u).t v).t z,st⟩
def JY(N:Nat)(p0:dU)(p1:dU):Ta:=
 (BH N p0).bind fun y1=>(BH N p1).bind fun a=>(KH N y1 a).bind fun a=>some a
theorem qCk{p0:dU}{p1:dU}{r:Int}(st:St m (O) w)(i:JY N p0 p1=some r):Calls prog 54 #[.agg (Vg p0),.agg (Vg p1)] w fun e w'=>∃m',e= .returned (vI r)/\m.le m'/\St m' (O) w':=by
 unfold JY at i;have q:=m.le_refl;refine bH func54 rfl ntmps54 ?_;refine aC (eA 2 66 (.agg (Vg p0)) st fun u x A o st g=>(eA 3 66 (.agg (Vg p1)) st fun v l B b st k=>(aH 1 [] (aF (dK [(6,fun w'=>Inv l w'/\True)] kr st fun D _ st=> ?_)))));have a:=l.le_refl;refine tA st a ?_;refine cM 66 2 0 5 0 (.agg (Vg p0)) (.head _) (fun _ h=>h.1) (g.mono b) (cM 66 3 2 7 0 (.agg (Vg p1)) (.head _) (fun _ h=>h.1) k (aY 1 kr (cL 6 i (fun _ h=>SB (p0:=p0) st h) ?_)));rintro y1 i _ E ⟨y,rfl,c,st⟩;refine⟨_,rfl,?_⟩;have a:=Mem.le_trans a c;refine tA st a ?_;refine aY 3 kr (cL 8 i (fun _ h=>SB (p0:=p1) st h) ?_);rintro s i _ F ⟨z,rfl,d,st⟩;refine⟨_,rfl,?_⟩;have a:=Mem.le_trans a d;refine tA st a ?_;refine aY 4 kr (cL 9 i (fun _ h=>qDk (p0:=y1) (p1:=s) st h) ?_);rintro n i _ G ⟨p,rfl,f,st⟩;refine⟨_,rfl,?_⟩;have a:=Mem.le_trans a f;refine tA st a ?_;refine aD 5 4 (vI n) (.head _) (cC kr (aB (aO ?_)));obtain rfl:=sI i;exact aT [4] [vI n] ⟨p,rfl,((((q.t o).t b).t c).t d).t f,st⟩
def qEd:Go.Shelf.Ren:=⟨fun|6=>53|15=>76|14=>77|28=>107|29=>108|20=>109|21=>110|22=>111|23=>112|24=>113|25=>114|26=>115|27=>116|46=>149|47=>144|48=>145|49=>150|50=>151|57=>168|n=>n,fun|22=>50|24=>66|25=>91|3=>3|39=>114|0=>0|53=>155|55=>157|4=>4|46=>149|45=>148|50=>119|5=>5|9=>9|66=>179|70=>183|76=>195|77=>196|n=>n,fun|n=>n⟩
theorem qIo:Go.Proofs.SlLaysF0.n6 prog qEd where
 mixed:=kr
 f6:=⟨Tryz.f53.name,kr,func53.trans (congrArg some kr)⟩
 f14:=⟨Tryz.f77.name,kr,func77.trans (congrArg some kr)⟩
 f15:=func76.trans (congrArg some kr)
 f20:=⟨Tryz.f109.name,kr,func109.trans (congrArg some kr)⟩
 f21:=⟨Tryz.f110.name,kr,func110.trans (congrArg some kr)⟩
 f22:=⟨Tryz.f111.name,kr,func111.trans (congrArg some kr)⟩
 f23:=⟨Tryz.f112.name,kr,func112.trans (congrArg some kr)⟩
 f24:=⟨Tryz.f113.name,kr,func113.trans (congrArg some kr)⟩
 f25:=⟨Tryz.f114.name,kr,func114.trans (congrArg some kr)⟩
 f26:=⟨Tryz.f115.name,kr,func115.trans (congrArg some kr)⟩
 f27:=⟨Tryz.f116.name,kr,func116.trans (congrArg some kr)⟩
 f28:=func107.trans (congrArg some kr)
 f29:=func108.trans (congrArg some kr)
 f46:=⟨Tryz.f149.name,kr,func149.trans (congrArg some kr)⟩
 f47:=func144.trans (congrArg some kr)
 f48:=func145.trans (congrArg some kr)
 f49:=⟨Tryz.f150.name,kr,func150.trans (congrArg some kr)⟩
 f50:=⟨Tryz.f151.name,kr,func151.trans (congrArg some kr)⟩
 f57:=⟨Tryz.f168.name,kr,func168.trans (congrArg some kr)⟩
 t0:=Tryz.underlying0
 a0:=Tryz.isAgg0
 z0:=Tryz.sizeOf0
 v0:=Tryz.zeroValue0
 t3:=Tryz.underlying3
 a3:=Tryz.isAgg3
 z3:=Tryz.sizeOf3
 v3:=Tryz.zeroValue3
 t4:=Tryz.underlying4
 a4:=Tryz.isAgg4
 z4:=Tryz.sizeOf4
 v4:=Tryz.zeroValue4
 t5:=Tryz.underlying5
 a5:=Tryz.isAgg5
 z5:=Tryz.sizeOf5
 v5:=Tryz.zeroValue5
 t9:=Tryz.underlying9
 a9:=Tryz.isAgg9
 z9:=Tryz.sizeOf9
 v9:=Tryz.zeroValue9
 t22:=Tryz.underlying50
 a22:=Tryz.isAgg50
 z22:=Tryz.sizeOf50
 v22:=Tryz.zeroValue50
 t25:=Tryz.underlying91
 a25:=Tryz.isAgg91
 z25:=Tryz.sizeOf91
 v25:=Tryz.zeroValue91
 t39:=Tryz.underlying114
 a39:=Tryz.isAgg114
 z39:=Tryz.sizeOf114
 v39:=Tryz.zeroValue114
 t45:=Tryz.underlying148
 a45:=Tryz.isAgg148
 z45:=Tryz.sizeOf148
 v45:=Tryz.zeroValue148
 t46:=Tryz.underlying149
 a46:=Tryz.isAgg149
 z46:=Tryz.sizeOf149
 v46:=Tryz.zeroValue149
 t50:=Tryz.underlying119
 a50:=Tryz.isAgg119
 z50:=Tryz.sizeOf119
 v50:=Tryz.zeroValue119
 t53:=Tryz.underlying155
 a53:=Tryz.isAgg155
 z53:=Tryz.sizeOf155
 v53:=Tryz.zeroValue155
 t55:=Tryz.underlying157
 a55:=Tryz.isAgg157
 z55:=Tryz.sizeOf157
 v55:=Tryz.zeroValue157
 t66:=Tryz.underlying179
 a66:=Tryz.isAgg179
 z66:=Tryz.sizeOf179
 v66:=Tryz.zeroValue179
 t70:=Tryz.underlying183
 a70:=Tryz.isAgg183
 z70:=Tryz.sizeOf183
 v70:=Tryz.zeroValue183
 t76:=Tryz.underlying195
 a76:=Tryz.isAgg195
 z76:=Tryz.sizeOf195
 v76:=Tryz.zeroValue195
 t77:=Tryz.underlying196
 a77:=Tryz.isAgg196
 z77:=Tryz.sizeOf196
 v77:=Tryz.zeroValue196
theorem qEa(x y:Int):FU N x y=some (nO x y):=by
 have h:∀z:Int,BQ N z=some false:=fun z=>by simp[BQ]
 simp only[FU,h,j0,nO]
 by_cases h1:x<y
 .simp[h1]
 by_cases h2:x>y
 .simp[h1,h2]
 simp[h1,h2]
theorem qDo(x y:BA):BK N x y=some (pM x y):=by simp[BK,JE]
theorem qHy(hN:10<=N)(a b c:Int):GP N [a,b,c]=some (if a≠0 then a else if b≠0 then b else c):=by
 obtain⟨k,rfl⟩:∃k,N=k+4:=⟨N-4,by omega⟩;have e:wr 1=1:=by decide
 have g:wr 2=2:=by decide
 have l:wr 3=3:=by decide
 have h:bV [a,b,c] 0=some a:=rfl;have d:bV [a,b,c] 1=some b:=rfl;have f:bV [a,b,c] 2=some c:=rfl;simp only[GP,aK,KJ,jA,jB,h,j0]
 by_cases ha:a=0
 .subst ha
  by_cases hb:b=0
  .subst hb
   by_cases A:c=0
   .subst A;simp[e,g,l,d,f]
   simp[e,g,d,f,A]
  simp[e,d,hb]
 simp[ha]
def oU(x:dU):Int×T7×zI:=(if x.2.2.1=3 then 1 else 0,if x.2.2.1=3 then(⟨#[]⟩:BA) else x.1,x.2.2.1,x.2.1)
def yQ:Int×T7×zI->Int×T7×zI->Int:=pP nO (pP pM (pP nO pM))
theorem cmpPl_lin:Lin yQ:=PB cmpI_lin (PB cmpS_lin (PB cmpI_lin cmpS_lin))
def mR(x y:dU):Int:=yQ (oU x) (oU y)
theorem cmpEnt_swo:Go.Sort.SWO (Go.Proofs.ltOf mR):=qKg cmpPl_lin.swo oU
theorem KN(x y:dU):mR x y<0↔0<mR y x:=cmpPl_lin.anti _ _
theorem SH(x:dU):BH N x=some (x.2.2.1==3,if x.2.2.1=3 then eB else x.1,x.2.1,x.2.2.1):=by
 unfold BH
 by_cases h:x.2.2.1=3
 .simp[h]
 simp[h]
theorem qCx(hN:10<=N)(x y:dU):JY N x y=some (mR x y):=by
 have bt:∀{a b:BA},a.toList=b.toList->a=b:=fun {a b} e=>by
  rw[ByteArray.toList_eq,ByteArray.toList_eq] at e;exact Go.WideShapes.bytes_inj e
 have px:=SH (N:=N) x;have py:=SH (N:=N) y;unfold JY;rw[px,py];simp only[j0,KH,qDo,qEa,qHy hN];have hz:=cmpPl_lin.zero (oU x) (oU y);unfold mR;have A:(((x.2.2.1==3)==(y.2.2.1==3))&&(((if x.2.2.1=3 then eB else x.1).toList==(if y.2.2.1=3 then eB else y.1).toList)&&((x.2.1.toList==y.2.1.toList)&&((x.2.2.1==y.2.2.1)&&true))))=true↔oU x=oU y:=by
  simp only[oU,Prod.mk.injEq,jR,kE,and_true]
  constructor
  .rintro⟨k,f,c,d⟩;exact⟨by rw[d],bt f,d,bt c⟩
  rintro⟨k,f,c,d⟩;exact⟨by rw[c],by rw[f],by rw[d],c⟩
 by_cases h:oU x=oU y
 .rw[hz.2 h];rw[if_pos (A.2 h)];rfl
 rw[if_neg fun g=>h (A.1 g)]
 by_cases hx:x.2.2.1=3
 .have hx':(x.2.2.1==3)=true:=by simpa using hx
  by_cases hy:y.2.2.1=3
  .have hy':(y.2.2.1==3)=true:=by simpa using hy
   simp[yQ,pP,oU,nO,hx,hy,hx',hy']
  have hy':(y.2.2.1==3)=false:=by simpa using hy
  simp[yQ,pP,oU,nO,hx,hy,hx',hy']
 have hx':(x.2.2.1==3)=false:=by simpa using hx
 by_cases hy:y.2.2.1=3
 .have hy':(y.2.2.1==3)=true:=by simpa using hy
  simp[yQ,pP,oU,nO,hx,hy,hx',hy']
 have hy':(y.2.2.1==3)=false:=by simpa using hy
 simp[yQ,pP,oU,nO,hx,hy,hx',hy']
def uQ(N:Nat)(l:iO):Option iO:=if 10<=N/\l.length<4611686018427387904/\(∀x∈l,∀y∈l,mR x y=0->x=y) then some (l.mergeSort fun x y=> !(Go.Proofs.ltOf mR y x)) else none
theorem qBa{l r:iO}(h:uQ N l=some r):r.length=l.length:=by
 unfold uQ at h
 split at h
 .simp only[jG] at h;subst h;simp
 cases h
theorem qBb{a:Option Addr}{nn cc:Nat}{T:List Value}{l r:iO}{e:TypeId}(st:St m (eJ a (bY (fun x:dU=>((Vh x):List Value)) l T) e::O) w)(hs:OAS a nn cc 6 T)(hn:List.length l=nn)(h:uQ N l=some r):
  Calls prog 53 #[.slice a nn cc,.func (.func 54) #[] #[]] w fun e' w'=>e'= .returned (.tuple #[])/\St m (eJ a (bY (fun x:dU=>((Vh x):List Value)) r T) e::O) w':=by
 unfold uQ at h
 split at h
 .rename_i hb
  obtain⟨hN,hlen,hties⟩:=hb;simp only[jG] at h;subst h;subst hn;exact qEs (f:=(fun x:dU=>((Vh x):List Value))) (k:=6) qIo Tryz.isAgg66 Tryz.sizeOf66 (fun _=>rfl) (fun _ _ hv=>by simp only[jI,kZ,dD] at hv;rcases hv with rfl|rfl|rfl|rfl|rfl|rfl<;>rfl) mR cmpEnt_swo 54 (enters_of func54 kr rfl) (fun x y W=>by
   refine(qCk (ZI W) (qCx hN x y)).mono fun e' w' h=> ?_;obtain⟨m',b,c,d⟩:=h;exact⟨m',b,c,d⟩) (fun x hx y hy b c=>hties x hx y hy (by
    have g:=KN y x;simp only[Go.Proofs.ltOf,decide_eq_false_iff_not] at b c;have n:=KN x y
    omega)) st hs hlen
 cases h
def vA(N:Nat)(a:Option T26)(s1:iO):Option (iO⊕iO):=
 (match a with|none=>some (.inr s1)|some a=>(dY 72 s1 ([a.2])).bind fun a=>some (.inl a))
instance dec_packages_Entities_L1:DecidableEq iO:=(@instDecidableEqList _ (@instDecidableEqProd _ _ inferInstance (@instDecidableEqProd _ _ inferInstance (@instDecidableEqProd _ _ inferInstance (@instDecidableEqProd _ _ inferInstance (@instDecidableEqProd _ _ inferInstance inferInstance))))))
def BF(N:Nat)(p0:Tq):Option iO:=
 (tV N p0).bind fun y1=>(uO y1.2.2.2.2).bind fun a=>rV (vA N) (Option.getD y1.2.2.2.2 []) ([]:iO) (fun a=>(uQ N a).bind fun a=>some a)
theorem RX{p0:Tq}{r:iO}(st:St m (O) w)(Y:RepS C1 m a1 c1 p0)(i:BF N p0=some r):Calls prog 26 #[.agg #[vS a1 p0 c1]] w fun e w'=>∃a9 b0 m',e= .returned (vS a9 r b0)/\m.le m'/\St m' (kR a9 r b0 66 6::O) w'/\RepS C7 m' a9 b0 r:=by
 unfold BF at i;have q:=m.le_refl;refine bH func26 rfl ntmps26 ?_;refine aC (eA 1 28 (.agg #[vS a1 p0 c1]) st fun b1 m1 w1 e1 st z=>(aH 1 [] (aC (bW 4 (.agg #[vS a1 p0 c1]) st z (aM 5 i (GH st (Y.mono e1)) ?_)))));rintro y1 i _ w2 ⟨b2,a2,c2,U,H,G,a3,c3,q2,v,p,m2,rfl,e2,st,r2,r3,r4,B⟩;refine bQ rfl (mH 6 52 #[vP b2 0] kr rfl (bH func52 rfl ntmps52 (aG 1 [] (aC (aH 1 [(3,vd)] (aF (aC (bK 3 9 74 8 4 (.map q2) st.t.t.h ?_))))))));have⟨u1,d4,i⟩:=aZ i;obtain⟨A,rfl⟩:=MapQ.at B d4;refine bQ rfl (GW (ek:=eQ) (c:=C7) (agg:=true) (d:=10) (t:=74) (kt:=116) (et:=66) (x:=(.tmp 9)) kr rfl (ev (.map (some A))) kr st.f1 B fun Z w3 st d1=>(aS (bB ?_)));have st:=LA (f:=(fun x:dU=>((Vh x):List Value))) (st.nilroom 66 6);obtain⟨PKu2,M,i⟩:=LoopP.start i
 refine dH (.exit 0) (fun L' w'=>∃(n:iO),∃a b T1,∃(b8:Array Nat) (b7:List T26),∃o,PKu2 n/\L'=[(3,vS a n b)]/\m.le o/\St o (kB b2 #[vS a2 y1.1 c2,vB y1.2.1,.map U,vS a3 y1.2.2.2.1 c3,.map (some A)] 76::cB (some A) v p::cB U H G::eJ a (bY (fun x:dU=>((Vh x):List Value)) n T1) 66::mW Z (some A) p b8::O) w'/\MRow o b1 0 [vS a1 p0 c1]/\RepS C1 o a1 c1 p0/\RepS C1 o a2 c2 y1.1/\RepS aJ o a3 c3 y1.2.2.2.1/\MapQ eQ C7 true o (some A) v p y1.2.2.2.2/\MapQ (fun s:BA=>Value.string s) C6 true o U H G y1.2.2.1/\OAS a n.length b 6 T1/\ItR eQ C7 true o v b8 b7) ?_ ?_
 .rintro _ w4 ⟨n,a,b,T1,b8,b7,o,g,rfl,q,st,z,Y,r2,r4,B,r3,D,a7⟩;have i:=M _ g;clear g M;refine cO (aB (aV 2 [(2,vS a n b)] (aU rfl ?_)));have st:=st.f4.t;refine aB (aO (aT [2] [vS a n b] (⟨_,rfl,?_⟩)));refine aH 1 [(3,vS a n b)] (aC (aA 1 [(7,vS a n b)] ?_));have⟨F,E,i⟩:=aZ i;have st:=st.f3;refine bQ rfl (mH 8 53 #[vS a n b,.func (.func 54) #[] #[]] kr rfl ((qBb st D rfl E).mono ?_));rintro _ a8 ⟨rfl,st⟩;refine⟨_,rfl,?_⟩;have k:=((qBa E).trans rfl);refine aS (aC (aH 2 [(2,vS a n b)] (aO ?_)));obtain rfl:=sI i;obtain⟨S,R,st,r8⟩:=St.freezeM (c:=C7) (f:=(fun x:dU=>((Vh x):List Value))) st D k (fun _=>rfl) (fun _ x=>⟨_,_,rfl,rfl,⟨_,_,rfl,rfl,⟨_,_,rfl,rfl,⟨_,_,rfl,rfl,⟨_,_,rfl,rfl,rfl⟩⟩⟩⟩⟩);refine eG [(2,vS a F b)] (by(try simp only[vS,k]);kernel_rfl) ?_;exact aT [2] [vS a F b] ⟨a,b,S,rfl,q.t R,st.f1.t.f1.t.f1.t,r8⟩
 intro b9;refine cR _ kr (cQ (fun k1 L' w'=>∃(s1:iO),∃F S T2,∃(R:Array Nat) (D:List T26),∃k,LoopP (vA N) D s1 PKu2 k1/\L'=[(3,vS F s1 S),(10,vP Z 0)]/\m.le k/\St k (kB b2 #[vS a2 y1.1 c2,vB y1.2.1,.map U,vS a3 y1.2.2.2.1 c3,.map (some A)] 76::cB (some A) v p::cB U H G::eJ F (bY (fun x:dU=>((Vh x):List Value)) s1 T2) 66::mW Z (some A) p R::O) w'/\MRow k b1 0 [vS a1 p0 c1]/\RepS C1 k a1 c1 p0/\RepS C1 k a2 c2 y1.1/\RepS aJ k a3 c3 y1.2.2.2.1/\MapQ eQ C7 true k (some A) v p y1.2.2.2.2/\MapQ (fun s:BA=>Value.string s) C6 true k U H G y1.2.2.1/\OAS F s1.length S 6 T2/\ItR eQ C7 true k v R D) (List.length (Option.getD y1.2.2.2.2 [])+1) ⟨([]:iO),none,0,[],#[],(Option.getD y1.2.2.2.2 []),m2,i,rfl,(q.t e1).t e2,st.f1.f1.f3.f3.f4,z.mono e2,(Y.mono e1).mono e2,r2,r4,B,r3,(OAS.nil 6),d1⟩ ?_);rintro k1 _ w5 ⟨s1,F,S,T2,R,D,k,hL,rfl,q,st,z,Y,r2,r4,B,r3,c7,c0⟩;rcases k1 with _|k1
 .exact LoopP.zero hL
 refine aC ?_;have st:=st.f1.f4;refine bQ rfl (HC (ek:=eQ) (c:=C7) (agg:=true) (d:=11) (x:=(.tmp 10)) kr rfl (ev (vP Z 0)) st B c0 ?_ ?_)
 .intro g E st;obtain⟨d7,i,a8,a7⟩:=hL.nil g;clear hL;unfold vA at i;refine aH 1 [(12,vB false)] (aF (qB false kr (fun h=>Bool.noConfusion h) ?_));intro _;refine cJ (bC ?_);obtain rfl:=sI i;have ho:=a7 _ rfl;have st:=st.f4.f4.f3.f4;refine bC ?_;exact xE (b9 _ _ ⟨s1,F,S,T2,R,D,k,ho,rfl,q,st,z,Y,r2,r4,B,r3,c7,c0⟩)
 rintro g c8 d8 d9 w7 d5 ⟨_,_,rfl,rfl,⟨_,_,rfl,rfl,⟨_,_,rfl,rfl,⟨_,_,rfl,rfl,⟨_,_,rfl,rfl,rfl⟩⟩⟩⟩⟩ st d2 c9;obtain⟨d7,i,a8,a7⟩:=hL.cons d5;clear hL;unfold vA at i;refine aH 1 [(12,vB true)] (aF (qB true kr ?_ (fun h=>Bool.noConfusion h)));intro _;refine aL (aB (bB (aC ?_)));have st:=st.f1.f1;refine bQ rfl (GY (ek:=eQ) (c:=C7) (agg:=true) (d:=13) (x:=(.tmp 10)) (K:= .agg (Vd g.1)) (V:= .agg (Vg g.2)) kr rfl (ev (vP Z 0)) st B c9 (aA 1 [(14,.agg (Vg g.2))] (cG 5 66 (.agg (Vf eB eB 0 eB 0 0)) st fun b5 w8 st=>(bM (.agg (Vg g.2)) st fun w9 st=>(aS (bA (aA 1 [(15,vS F s1 S)] (bG 16 (.agg (Vg g.2)) st.h (dV 17 66 1 C7 [g.2] st fun b6 m5 e0 E st r6=> ?_)))))))));have st:=st.f6;have⟨l1,d6,i⟩:=aZ i;refine bQ rfl (KO (d:=18) (t:=50) (u:=50) (e:=66) (by_:=72) (x:=(.tmp 15)) (y:=(.tmp 17)) (c:=C7) (f:=(fun x:dU=>((Vh x):List Value))) (l:=s1) (fun _ _ _ h=>by obtain⟨_,_,rfl,rfl,⟨_,_,rfl,rfl,⟨_,_,rfl,rfl,⟨_,_,rfl,rfl,⟨_,_,rfl,rfl,rfl⟩⟩⟩⟩⟩:=h;rfl) (fun _=>rfl) kr rfl (ev (vS F s1 S)) (ev (vS (aP b6) ([g.2]) 1)) st c7 rfl kr (.inl kr) r6.src d6 fun a6 c6 T3 e4 d3 st=>(aA 1 [(3,vS a6 l1 c6)] (aU rfl ?_)));have st:=st.f1.t;refine bN ?_;obtain rfl:=sI i;have hL:=a8 _ rfl
 exact xE (cN ⟨l1,a6,c6,T3,d8,c8,m5,hL,rfl,q.t E,st.f1.t.f1.f1.f4.f3.f4,z.mono E,Y.mono E,r2.mono E,r4.mono E,B.mono E,r3.mono E,d3,d2.mono E⟩)
def AG(N:Nat)(p0:Tq)(s1:Int×qJ):Option (Int×qJ⊕qJ):=
 if(decide (s1.1<(List.length p0:Int)))=true then(((bV p0 s1.1).bind fun a=>(sH N p0 a.1).bind fun b=>if b.2=true then((dY 16 s1.2.1 ([a.1])).bind fun a=>(dY 64 s1.2.2 ([b.1])).bind fun b=>some (a,b)) else(some s1.2):Option qJ).bind fun o2=>some (.inl (IntKind.wrap .i64 (s1.1+1),o2.1,o2.2))) else(some (.inr s1.2))
def AY(N:Nat)(p0:Tq):Option qJ:=
 (sK N p0).bind fun y1=>if(y1 !=0)=true then(some (([]:T8),([]:IX))) else((aK (AG N p0) N (0,([]:T8),([]:IX))).bind fun a=>some a)
theorem RS{p0:Tq}{r:qJ}(st:St m (O) w)(v:RepS C1 m a1 c1 p0)(i:AY N p0=some r):Calls prog 57 #[.agg #[vS a1 p0 c1]] w fun e w'=>∃c0 d2 d1 d3 m',e= .returned (.agg (Vl r c0 d2 d1 d3))/\m.le m'/\St m' (kR c0 r.1 d2 9 1::kR d1 r.2 d3 58 3::O) w'/\P8 m' c0 d2 d1 d3 r:=by
 unfold AY at i;have q:=m.le_refl;refine bH func57 rfl ntmps57 ?_;refine aC (eA 1 28 (.agg #[vS a1 p0 c1]) st fun b1 m1 w1 e1 st l=>(cG 2 94 (.agg #[v6,v6]) st fun b2 w2 st=>(aS (aC (cG 3 94 (.agg #[v6,v6]) st fun u w3 st=>(aS (aF (aC (bW 8 (.agg #[vS a1 p0 c1]) st l (aM 9 i (wV st (v.mono e1)) ?_))))))))));rintro y1 i _ w4 ⟨m2,rfl,e2,st⟩;refine aH 1 [(10,vB (y1 !=0))] (aI i ?_ ?_)
 .intro A i;refine aC (bG 11 (.agg #[v2,ve]) st.h (bM (.agg #[v2,ve]) st.f1 fun a st=>(aS (aO (aR ?_)))));cases i;refine dO 2 94 [] [] st.h ?_;have st:=(st.nilroom 9 1).nilroom 58 3;exact⟨none,0,none,0,m2,rfl,(q.t e1).t e2,st.f2.t.f2.t.f1,(RepS.nil _ _),(RepS.nil _ _)⟩
 intro A i;refine aL (aB (aF (aV 1 [(12,vP b1 0)] (bW 13 (vS a1 p0 c1) st (l.mono e2) (aH 2 [(14,vI (p0.length:Int)),(15,vI 0)] (bB (cA (.exit 0) i (fun H L' w'=>∃(U:qJ),∃a2 c2 a3 c3 m3,U=H/\L'=[(2,vP b2 0),(3,vP u 0)]/\m.le m3/\St m3 (kB u (Vl U a2 c2 a3 c3) 94::kB b2 #[v2,ve] 94::kR a2 U.1 c2 9 1::kR a3 U.2 c3 58 3::O) w'/\P8 m3 a2 c2 a3 c3 U) ?_ ?_)))))))
 .rintro H i _ f ⟨U,a2,c2,a3,c3,m3,rfl,rfl,q,st,a,b⟩;refine cO (aB (aC (bG 41 (.agg (Vl U a2 c2 a3 c3)) st.h (bM (.agg (Vl U a2 c2 a3 c3)) st.f1 fun c st=>(aS (aO ?_))))));obtain rfl:=sI i;refine dO 2 94 [] [] st.h ?_;exact⟨a2,c2,a3,c3,m3,rfl,q,st.t.t.f1.f1,a,b⟩
 intro H i d4;have st:=(st.nilroom 9 1).nilroom 58 3;refine cR _ kr (cQ (fun k1 L' w'=>∃(s1:Int×qJ),∃K M x y m4,aK (AG N p0) k1 s1=some H/\L'=[(1,vP b1 0),(2,vP b2 0),(3,vP u 0),(13,vS a1 p0 c1),(14,vI (p0.length:Int)),(15,vI s1.1)]/\m.le m4/\St m4 (kB u (Vl s1.2 K M x y) 94::kB b2 #[v2,ve] 94::kR K s1.2.1 M 9 1::kR x s1.2.2 y 58 3::O) w'/\MRow m4 b1 0 [vS a1 p0 c1]/\RepS C1 m4 a1 c1 p0/\P8 m4 K M x y s1.2) N ⟨(0,([]:T8),([]:IX)),none,0,none,0,m2,i,rfl,(q.t e1).t e2,st.f1.f3.f3,l.mono e2,(v.mono e1).mono e2,(RepS.nil _ _),(RepS.nil _ _)⟩ ?_);rintro k1 _ w7 ⟨s1,K,M,x,y,m4,hL,rfl,q,st,l,v,r4,r5⟩;rcases k1 with _|k1
 .exact cU hL
 obtain⟨f5,i,e8,e0⟩:=cV hL;clear hL;unfold AG at i;refine aG 1 [(16,vB (decide (s1.1<(p0.length:Int))))] (aF ?_);refine aI i ?_ ?_
 .intro A i;refine aL (aB (aF (cA .normal i (fun o2 L' w'=>∃a6 c6 a7 c7 m5,L'=[(1,vP b1 0),(2,vP b2 0),(3,vP u 0),(13,vS a1 p0 c1),(14,vI (p0.length:Int)),(15,vI s1.1)]/\m.le m5/\St m5 (kB u (Vl o2 a6 c6 a7 c7) 94::kB b2 #[v2,ve] 94::kR a6 o2.1 c6 9 1::kR a7 o2.2 c7 58 3::O) w'/\MRow m5 b1 0 [vS a1 p0 c1]/\RepS C1 m5 a1 c1 p0/\P8 m5 a6 c6 a7 c7 o2) ?_ ?_)))
  .rintro o2 i _ c ⟨a6,c6,a7,c7,m5,rfl,q,st,l,v,a,b⟩;refine aB (bA (aA 2 [(15,vI (wr (s1.1+1)))] (aU rfl ?_)));have hL:=e8 _ (sI i);exact xE (cN ⟨(wr (s1.1+1),o2.1,o2.2),a6,c6,a7,c7,m5,hL,rfl,q,st.f3.f3.f3.f3,l,v,a,b⟩)
  intro o2 i b0;refine bB (aC (eP 17 v i ?_));rintro B i b4 f1 f4 ⟨_,_,rfl,rfl,rfl⟩ e9;refine eS 18 42 17 f1 (.agg (V2 B)) st e9 (cG 5 42 (.agg (V3 eB eB)) st fun b5 w9 st=>(bM (.agg (V2 B)) st fun f6 st=>(aS (aC (bW 20 (.agg #[vS a1 p0 c1]) st l (bK 1 22 9 21 0 (vT B.1) st.h (aM 23 i (zS st v) ?_)))))));rintro s i _ g0 ⟨D,F,E,G,m6,rfl,e3,st,r8,r9⟩;have q:=q.t e3;have l:=l.mono e3;have v:=v.mono e3;have r4:=r4.mono e3;have r5:=r5.mono e3;refine aA 3 [(24,.agg (Vc s.1 D F E G)),(25,vB s.2)] (cG 6 58 (.agg #[vT eB,v6,v6]) st fun b6 g1 st=>(bM (.agg (Vc s.1 D F E G)) st fun g2 st=>(aH 1 [(7,vB s.2)] (aC (aH 1 [(26,vB s.2)] (aI i ?_ ?_))))))
  .intro A i;refine dK [(15,fun w'=>Inv m6 w'/\Piece.holds m6 w' (kB b6 (Vc s.1 D F E G) 58)/\Piece.holds m6 w' (kB b5 (V2 B) 42)/\True),(12,fun w'=>Inv m6 w'/\Piece.holds m6 w' (kB u (Vl s1.2 K M x y) 94)/\True)] kr st fun g3 _ st=> ?_;have a:=m6.le_refl;refine⟨⟨.inr ⟨Inv.anti st.inv a,Piece.holds_anti st.h a,Piece.holds_anti st.t.t.t.h a,trivial⟩,⟨.inr ⟨Inv.anti st.inv a,Piece.holds_anti st.t.t.t.t.h a,trivial⟩,trivial⟩⟩,?_⟩;refine aD 0 27 (vP u 0) (.head _) (cW 35 27 1 28 0 (vS K s1.2.1 M) (.tail _ (.head _)) (fun _ h=>h.2.1) (aD 2 29 (vP b5 0) (.head _) (cW 9 29 3 30 0 (vT B.1) (.head _) (fun _ h=>h.2.2.1) (aD 6 33 (vP u 1) (.head _) (cW 92 33 7 34 1 (vS x s1.2.2 y) (.tail _ (.head _)) (fun _ h=>h.2.1) (cW 58 6 8 35 0 (.agg (Vc s.1 D F E G)) (.head _) (fun _ h=>h.2.1) (nJ [4,9] kr (by simp) (oS ?_ ?_))))))))
   .refine nF (d:=31) (t:=35) (e:=9) (len:=1) (parts:= #[(0,(.tmp 30))]) aJ (xs:=[B.1]) [vT B.1] kr rfl (fun _=>nH kr _) rfl rfl st ⟨[vT B.1],_,rfl,rfl,rfl⟩ fun b7 m7 f0 c st b9=> ?_;have a:=Mem.le_trans a c;refine⟨⟨.inr ⟨Inv.anti st.inv a,Piece.holds_anti st.t.h a,Piece.holds_anti st.t.t.t.t.h a,trivial⟩,⟨.inr ⟨Inv.anti st.inv a,Piece.holds_anti st.t.t.t.t.t.h a,trivial⟩,trivial⟩⟩,?_⟩;refine nJ [5,9] kr (by simp) (oS ?_ ?_)
    .refine qP 32 35 35 9 16 28 31 st.f7 (.inl kr) (r4.mono c) b9.src i fun z i f g m8 d5 b st V=> ?_;have a:=Mem.le_trans a b;refine⟨⟨.inr ⟨Inv.anti st.inv a,Piece.holds_anti st.t.t.h a,Piece.holds_anti st.t.t.t.t.t.h a,trivial⟩,⟨.inr ⟨Inv.anti st.inv a,Piece.holds_anti st.t.t.t.t.t.t.h a,trivial⟩,trivial⟩⟩,?_⟩;refine aD 11 38 (vP u 0) (.head _) (aY 9 kr (nF (d:=36) (t:=92) (e:=58) (len:=1) (parts:= #[(0,(.tmp 35))]) C6 (xs:=[s.1]) (Ve s.1 D F E G) kr rfl (fun _=>nH kr _) rfl rfl st ⟨(Ve s.1 D F E G),_,rfl,⟨_,_,rfl,rfl,⟨_,_,rfl,(nU ((r8.mono c).mono b)),(nU ((r9.mono c).mono b))⟩⟩,rfl⟩ fun b8 m9 d6 k st Y=> ?_));have a:=Mem.le_trans a k;refine⟨⟨.inr ⟨Inv.anti st.inv a,Piece.holds_anti st.t.t.t.h a,Piece.holds_anti st.t.t.t.t.t.t.h a,trivial⟩,⟨.inr ⟨Inv.anti st.inv a,Piece.holds_anti st.t.t.t.t.t.t.t.h a,trivial⟩,trivial⟩⟩,?_⟩;refine aY 10 kr (qP 37 92 92 58 64 34 36 st.f9 (.inl kr) (((r5.mono c).mono b).mono k) Y.src i fun R i n o S d7 p st Z=> ?_);have a:=Mem.le_trans a p;refine⟨⟨.inr ⟨Inv.anti st.inv a,Piece.holds_anti st.t.t.t.t.h a,Piece.holds_anti st.t.t.t.t.t.t.t.h a,trivial⟩,⟨.inr ⟨Inv.anti st.inv a,Piece.holds_anti st.t.t.t.t.t.t.t.t.h a,trivial⟩,trivial⟩⟩,?_⟩
     refine aY 12 kr (pJ 35 38 32 0 (vS f z g) #[vS f z g,vS x s1.2.2 y] st.f8 fun d8 st=>(⟨⟨.inr ⟨Inv.anti st.inv a,Piece.holds_anti st.t.t.t.t.t.h a,Piece.holds_anti st.t.t.t.t.t.t.t.t.h a,trivial⟩,⟨.inl rfl,trivial⟩⟩,?_⟩));refine aD 13 39 (vP u 1) (.head _) (aY 14 kr (pJ 92 39 37 1 (vS n R o) #[vS f z g,vS n R o] st fun d9 st=>(⟨⟨.inr ⟨Inv.anti st.inv a,Piece.holds_anti st.t.t.t.t.t.h a,Piece.holds_anti st.t.t.t.t.t.t.t.t.h a,trivial⟩,⟨.inl rfl,trivial⟩⟩,?_⟩)));refine cC kr ?_;have st:=st.f2.t.f3.t;refine bN ?_;cases i;exact xE (b0 _ _ ⟨f,g,n,o,S,rfl,(((q.t c).t b).t k).t p,st.f3.t.f3.t.f3.t.f3.t.f1.f2.f3.f3,(((l.mono c).mono b).mono k).mono p,(((v.mono c).mono b).mono k).mono p,(V.mono k).mono p,Z⟩)
    refine nF (d:=36) (t:=92) (e:=58) (len:=1) (parts:= #[(0,(.tmp 35))]) C6 (xs:=[s.1]) (Ve s.1 D F E G) kr rfl (fun _=>nH kr _) rfl rfl st ⟨(Ve s.1 D F E G),_,rfl,⟨_,_,rfl,rfl,⟨_,_,rfl,(nU (r8.mono c)),(nU (r9.mono c))⟩⟩,rfl⟩ fun b8 m8 d5 b st V=> ?_;have a:=Mem.le_trans a b;refine⟨⟨.inr ⟨Inv.anti st.inv a,Piece.holds_anti st.t.t.h a,Piece.holds_anti st.t.t.t.t.t.h a,trivial⟩,⟨.inr ⟨Inv.anti st.inv a,Piece.holds_anti st.t.t.t.t.t.t.h a,trivial⟩,trivial⟩⟩,?_⟩;refine aY 5 kr (qP 32 35 35 9 16 28 31 st.f8 (.inl kr) ((r4.mono c).mono b) (b9.mono b).src i fun z i f g m9 d6 k st Y=> ?_);have a:=Mem.le_trans a k;refine⟨⟨.inr ⟨Inv.anti st.inv a,Piece.holds_anti st.t.t.t.h a,Piece.holds_anti st.t.t.t.t.t.t.h a,trivial⟩,⟨.inr ⟨Inv.anti st.inv a,Piece.holds_anti st.t.t.t.t.t.t.t.h a,trivial⟩,trivial⟩⟩,?_⟩;refine aD 11 38 (vP u 0) (.head _) (aY 10 kr (qP 37 92 92 58 64 34 36 st.f9 (.inl kr) (((r5.mono c).mono b).mono k) (V.mono k).src i fun R i n o S d7 p st Z=> ?_));have a:=Mem.le_trans a p;refine⟨⟨.inr ⟨Inv.anti st.inv a,Piece.holds_anti st.t.t.t.t.h a,Piece.holds_anti st.t.t.t.t.t.t.t.h a,trivial⟩,⟨.inr ⟨Inv.anti st.inv a,Piece.holds_anti st.t.t.t.t.t.t.t.t.h a,trivial⟩,trivial⟩⟩,?_⟩
    refine aY 12 kr (pJ 35 38 32 0 (vS f z g) #[vS f z g,vS x s1.2.2 y] st.f8 fun d8 st=>(⟨⟨.inr ⟨Inv.anti st.inv a,Piece.holds_anti st.t.t.t.t.t.h a,Piece.holds_anti st.t.t.t.t.t.t.t.t.h a,trivial⟩,⟨.inl rfl,trivial⟩⟩,?_⟩));refine aD 13 39 (vP u 1) (.head _) (aY 14 kr (pJ 92 39 37 1 (vS n R o) #[vS f z g,vS n R o] st fun d9 st=>(⟨⟨.inr ⟨Inv.anti st.inv a,Piece.holds_anti st.t.t.t.t.t.h a,Piece.holds_anti st.t.t.t.t.t.t.t.t.h a,trivial⟩,⟨.inl rfl,trivial⟩⟩,?_⟩)));refine cC kr ?_;have st:=st.f3.t.f3.t;refine bN ?_;cases i;exact xE (b0 _ _ ⟨f,g,n,o,S,rfl,(((q.t c).t b).t k).t p,st.f3.t.f3.t.f3.t.f3.t.f1.f2.f3.f3,(((l.mono c).mono b).mono k).mono p,(((v.mono c).mono b).mono k).mono p,Y.mono p,Z⟩)
   refine nF (d:=36) (t:=92) (e:=58) (len:=1) (parts:= #[(0,(.tmp 35))]) C6 (xs:=[s.1]) (Ve s.1 D F E G) kr rfl (fun _=>nH kr _) rfl rfl st ⟨(Ve s.1 D F E G),_,rfl,⟨_,_,rfl,rfl,⟨_,_,rfl,(nU r8),(nU r9)⟩⟩,rfl⟩ fun b7 m7 f0 c st b9=> ?_;have a:=Mem.le_trans a c;refine⟨⟨.inr ⟨Inv.anti st.inv a,Piece.holds_anti st.t.h a,Piece.holds_anti st.t.t.t.t.h a,trivial⟩,⟨.inr ⟨Inv.anti st.inv a,Piece.holds_anti st.t.t.t.t.t.h a,trivial⟩,trivial⟩⟩,?_⟩;refine aY 4 kr (nF (d:=31) (t:=35) (e:=9) (len:=1) (parts:= #[(0,(.tmp 30))]) aJ (xs:=[B.1]) [vT B.1] kr rfl (fun _=>nH kr _) rfl rfl st ⟨[vT B.1],_,rfl,rfl,rfl⟩ fun b8 m8 d5 b st V=> ?_);have a:=Mem.le_trans a b;refine⟨⟨.inr ⟨Inv.anti st.inv a,Piece.holds_anti st.t.t.h a,Piece.holds_anti st.t.t.t.t.t.h a,trivial⟩,⟨.inr ⟨Inv.anti st.inv a,Piece.holds_anti st.t.t.t.t.t.t.h a,trivial⟩,trivial⟩⟩,?_⟩;refine aY 5 kr (qP 32 35 35 9 16 28 31 st.f8 (.inl kr) ((r4.mono c).mono b) V.src i fun z i f g m9 d6 k st Y=> ?_);have a:=Mem.le_trans a k;refine⟨⟨.inr ⟨Inv.anti st.inv a,Piece.holds_anti st.t.t.t.h a,Piece.holds_anti st.t.t.t.t.t.t.h a,trivial⟩,⟨.inr ⟨Inv.anti st.inv a,Piece.holds_anti st.t.t.t.t.t.t.t.h a,trivial⟩,trivial⟩⟩,?_⟩
   refine aD 11 38 (vP u 0) (.head _) (aY 10 kr (qP 37 92 92 58 64 34 36 st.f9 (.inl kr) (((r5.mono c).mono b).mono k) ((b9.mono b).mono k).src i fun R i n o S d7 p st Z=> ?_));have a:=Mem.le_trans a p;refine⟨⟨.inr ⟨Inv.anti st.inv a,Piece.holds_anti st.t.t.t.t.h a,Piece.holds_anti st.t.t.t.t.t.t.t.h a,trivial⟩,⟨.inr ⟨Inv.anti st.inv a,Piece.holds_anti st.t.t.t.t.t.t.t.t.h a,trivial⟩,trivial⟩⟩,?_⟩;refine aY 12 kr (pJ 35 38 32 0 (vS f z g) #[vS f z g,vS x s1.2.2 y] st.f8 fun d8 st=>(⟨⟨.inr ⟨Inv.anti st.inv a,Piece.holds_anti st.t.t.t.t.t.h a,Piece.holds_anti st.t.t.t.t.t.t.t.t.h a,trivial⟩,⟨.inl rfl,trivial⟩⟩,?_⟩));refine aD 13 39 (vP u 1) (.head _) (aY 14 kr (pJ 92 39 37 1 (vS n R o) #[vS f z g,vS n R o] st fun d9 st=>(⟨⟨.inr ⟨Inv.anti st.inv a,Piece.holds_anti st.t.t.t.t.t.h a,Piece.holds_anti st.t.t.t.t.t.t.t.t.h a,trivial⟩,⟨.inl rfl,trivial⟩⟩,?_⟩)));refine cC kr ?_;have st:=st.f3.t.f3.t;refine bN ?_;cases i;exact xE (b0 _ _ ⟨f,g,n,o,S,rfl,(((q.t c).t b).t k).t p,st.f3.t.f3.t.f3.t.f3.t.f1.f2.f3.f3,(((l.mono c).mono b).mono k).mono p,(((v.mono c).mono b).mono k).mono p,Y.mono p,Z⟩)
  intro A i;refine aL (bN ?_);cases i;exact xE (b0 _ _ ⟨K,M,x,y,m6,rfl,q,st.t.t.t.t.f3.f3.f3.f3,l,v,r4,r5⟩)
 intro A i;refine cJ (bC ?_);have ho:=e0 _ (sI i);have st:=st.f3.f3.f3.f3;refine bC ?_;exact xE (d4 _ _ ⟨s1.2,K,M,x,y,m4,ho,rfl,q,st,r4,r5⟩)
def wU(N:Nat)(p0:qJ)(p1:Int)(p3:BA)(s1:yX)(a:lX)(s2:yX):Option (yX⊕zB):=
 if(decide (s2.1<(List.length a.2.2:Int)))=true then(((bV a.2.2 s2.1).bind fun b=>(if(b.1==p1)=true then(some (b.2.1.toList==p3.toList)) else(some false):Ti).bind fun b=>if b=true then(if((IntKind.wrap .i64 (s2.2.2.2.2+1))==1)=true then((bV p0.1 s1.1).bind fun b=>some (a.1,b,s2.1,IntKind.wrap .i64 (s2.2.2.2.2+1))) else(some (s2.2.1,s2.2.2.1,s2.2.2.2.1,IntKind.wrap .i64 (s2.2.2.2.2+1)))) else(some s2.2):Option zB).bind fun a=>some (.inl (IntKind.wrap .i64 (s2.1+1),a.1,a.2.1,a.2.2.1,a.2.2.2))) else(some (.inr s2.2))
def wT(N:Nat)(p0:qJ)(p1:Int)(p2:BA)(p3:BA)(s1:yX):Option (yX⊕zB):=
 if(decide (s1.1<(List.length p0.2:Int)))=true then(((bV p0.2 s1.1).bind fun a=>(if(p1 !=3)=true then(some (!(a.1.toList==p2.toList))) else(some false):Ti).bind fun o4=>if o4=true then(some s1.2) else((aK (wU N p0 p1 p3 s1 a) N (0,s1.2.1,s1.2.2.1,s1.2.2.2.1,s1.2.2.2.2)).bind fun a=>some a):Option zB).bind fun a=>some (.inl (IntKind.wrap .i64 (s1.1+1),a.1,a.2.1,a.2.2.1,a.2.2.2))) else(some (.inr s1.2))
def AQ(N:Nat)(p0:qJ)(p1:Int)(p2:BA)(p3:BA):Option dU:=
 (if(p1==3)=true then(some (⟨#[]⟩:BA)) else(some p2):Tj).bind fun a=>(aK (wT N p0 p1 p2 p3) N (0,a,(⟨#[]⟩:BA),0,0)).bind fun o2=>some (o2.1,p3,p1,o2.2.1,o2.2.2.1,o2.2.2.2)
theorem RM{p0:qJ}{p1:Int}{p2:BA}{p3:BA}{r:dU}(st:St m (O) w)(c:RepS aJ m a1 c1 p0.1)(d:RepS C6 m a2 c2 p0.2)(i:AQ N p0 p1 p2 p3=some r):Calls prog 58 #[.agg (Vl p0 a1 c1 a2 c2),vI p1,vT p2,vT p3] w fun e w'=>∃m',e= .returned (.agg (Vg r))/\m.le m'/\St m' (O) w':=by
 unfold AQ at i;have q:=m.le_refl;refine bH func58 rfl ntmps58 ?_;refine aC (eA 4 94 (.agg (Vl p0 a1 c1 a2 c2)) st fun k m1 w1 Y st a=>(cG 8 66 (.agg (Vf eB eB 0 eB 0 0)) st fun l w2 st=>(aS (aC (aA 4 [(17,.agg (Vf p2 p3 p1 eB 0 0))] (cG 9 66 (.agg (Vf eB eB 0 eB 0 0)) st fun g w3 st=>(bM (.agg (Vf p2 p3 p1 eB 0 0)) st fun w4 st=>(aS (aF (aG 2 [(19,vB (p1==3))] (cA .normal i (fun o1 L' w'=>∃Z,L'=[(1,vI p1),(2,vT p2),(3,vT p3),(4,vP k 0),(8,vP l 0),(9,vP g 0)]/\m.le Z/\St Z (kB g (Vf o1 p3 p1 eB 0 0) 66::kB l (Vf eB eB 0 eB 0 0) 66::O) w'/\MRow Z k 0 [vS a1 p0.1 c1,vS a2 p0.2 c2]/\P8 Z a1 c1 a2 c2 p0) ?_ ?_)))))))))))
 .rintro o1 i _ w5 ⟨Z,rfl,q,st,a,c,d⟩;refine aB (aF (aV 1 [(21,vP k 1)] (bW 22 (vS a2 p0.2 c2) st (a.drop 1) (aH 2 [(23,vI (p0.2.length:Int)),(24,vI 0)] (bB (cA (.exit 0) i (fun M L' w'=>∃(o2:zB),∃m3,o2=M/\L'=[(8,vP l 0),(9,vP g 0)]/\m.le m3/\St m3 (kB g (Vf o2.1 p3 p1 o2.2.1 o2.2.2.1 o2.2.2.2) 66::kB l (Vf eB eB 0 eB 0 0) 66::O) w') ?_ ?_))))))
  .rintro M i _ f ⟨o2,m3,rfl,rfl,q,st⟩;refine cO (aB (aC (bG 75 (.agg (Vf o2.1 p3 p1 o2.2.1 o2.2.2.1 o2.2.2.2)) st.h (bM (.agg (Vf o2.1 p3 p1 o2.2.1 o2.2.2.1 o2.2.2.2)) st.f1 fun b st=>(aS (aO ?_))))));obtain rfl:=sI i;refine dO 8 66 [] [] st.h ?_;exact⟨m3,rfl,q,st.t.t⟩
  intro M i a8;refine cR _ kr (cQ (fun k1 L' w'=>∃(s1:yX),∃U,aK (wT N p0 p1 p2 p3) k1 s1=some M/\L'=[(1,vI p1),(2,vT p2),(3,vT p3),(4,vP k 0),(8,vP l 0),(9,vP g 0),(22,vS a2 p0.2 c2),(23,vI (p0.2.length:Int)),(24,vI s1.1)]/\m.le U/\St U (kB g (Vf s1.2.1 p3 p1 s1.2.2.1 s1.2.2.2.1 s1.2.2.2.2) 66::kB l (Vf eB eB 0 eB 0 0) 66::O) w'/\MRow U k 0 [vS a1 p0.1 c1,vS a2 p0.2 c2]/\P8 U a1 c1 a2 c2 p0) N ⟨(0,o1,eB,0,0),Z,i,rfl,q,st.f1.f1,a,c,d⟩ ?_);rintro k1 _ w8 ⟨s1,U,hL,rfl,q,st,a,c,d⟩;rcases k1 with _|k1
  .exact cU hL
  obtain⟨d7,i,c7,b9⟩:=cV hL;clear hL;unfold wT at i;refine aG 1 [(25,vB (decide (s1.1<(p0.2.length:Int))))] (aF ?_);refine aI i ?_ ?_
  .intro A i;refine aL (aB (aF (cA .normal i (fun E L' w'=>∃m5,L'=[(1,vI p1),(2,vT p2),(3,vT p3),(4,vP k 0),(8,vP l 0),(9,vP g 0),(22,vS a2 p0.2 c2),(23,vI (p0.2.length:Int)),(24,vI s1.1)]/\m.le m5/\St m5 (kB g (Vf E.1 p3 p1 E.2.1 E.2.2.1 E.2.2.2) 66::kB l (Vf eB eB 0 eB 0 0) 66::O) w'/\MRow m5 k 0 [vS a1 p0.1 c1,vS a2 p0.2 c2]/\P8 m5 a1 c1 a2 c2 p0) ?_ ?_)))
   .rintro E i _ b ⟨m5,rfl,q,st,a,c,d⟩;refine aB (bA (aA 2 [(24,vI (wr (s1.1+1)))] (aU rfl ?_)));have hL:=c7 _ (sI i);exact xE (cN ⟨(wr (s1.1+1),E.1,E.2.1,E.2.2.1,E.2.2.2),m5,hL,rfl,q,st.f1.f1,a,c,d⟩)
   intro E i b0;refine bB (aV 1 [(26,vI s1.1)] (eP 27 d i ?_));rintro b i b4 f1 d4 ⟨_,_,rfl,rfl,⟨_,_,rfl,⟨v,z,rfl,u⟩,⟨n,o,rfl,s⟩⟩⟩ c9;refine eS 28 58 27 f1 (.agg (Vc b v z n o)) st c9 (cG 11 58 (.agg #[vT eB,v6,v6]) st fun B d9 st=>(aA 1 [(10,vI s1.1)] (bM (.agg (Vc b v z n o)) st fun e0 st=>(aS (aF (aC ?_))))));have⟨o4,i,J⟩:=aZ i;refine vY (j:=8) (fun L' w'=>∃G,L'=[(1,vI p1),(2,vT p2),(3,vT p3),(4,vP k 0),(8,vP l 0),(9,vP g 0),(10,vI s1.1),(11,vP B 0),(22,vS a2 p0.2 c2),(23,vI (p0.2.length:Int)),(24,vI s1.1),(36,vB o4)]/\m.le G/\St G (kB B (Vc b v z n o) 58::kB g (Vf s1.2.1 p3 p1 s1.2.2.1 s1.2.2.2.1 s1.2.2.2.2) 66::kB l (Vf eB eB 0 eB 0 0) 66::O) w'/\MRow G k 0 [vS a1 p0.1 c1,vS a2 p0.2 c2]/\RepS aJ G a1 c1 p0.1/\RepS C6 G a2 c2 p0.2/\P4 G v z n o b.2) ?_ ?_
   .have i:=J;rintro _ e2 ⟨G,rfl,q,st,a,c,d,u,s⟩;refine aS (aI i ?_ ?_)
    .intro A i;refine cJ (bC (cO ?_));cases i;exact xE (b0 _ _ ⟨G,rfl,q,st.t.f1.f1,a,c,d⟩)
    intro A i;refine aL (aB (aC (bK 1 38 56 37 2 (vS n b.2.2 o) st.h (aH 2 [(39,vI (b.2.2.length:Int)),(40,vI 0)] (bB (cA (.exit 2) i (fun R L' w'=>∃(o5:zB),∃V,o5=R/\L'=[(1,vI p1),(2,vT p2),(3,vT p3),(4,vP k 0),(8,vP l 0),(9,vP g 0),(22,vS a2 p0.2 c2),(23,vI (p0.2.length:Int)),(24,vI s1.1)]/\m.le V/\St V (kB B (Vc b v z n o) 58::kB g (Vf o5.1 p3 p1 o5.2.1 o5.2.2.1 o5.2.2.2) 66::kB l (Vf eB eB 0 eB 0 0) 66::O) w'/\MRow V k 0 [vS a1 p0.1 c1,vS a2 p0.2 c2]/\RepS aJ V a1 c1 p0.1/\RepS C6 V a2 c2 p0.2/\P4 V v z n o b.2) ?_ ?_))))))
    .rintro R i _ f ⟨o5,V,rfl,rfl,q,st,a,c,d,u,s⟩;refine cO (bN ?_);cases i;exact xE (b0 _ _ ⟨V,rfl,q,st.t.f1.f1,a,c,d⟩)
    intro R i a9;refine cR _ kr (cQ (fun k2 L' w'=>∃(s2:yX),∃D,aK (wU N p0 p1 p3 s1 b) k2 s2=some R/\L'=[(1,vI p1),(2,vT p2),(3,vT p3),(4,vP k 0),(8,vP l 0),(9,vP g 0),(10,vI s1.1),(11,vP B 0),(22,vS a2 p0.2 c2),(23,vI (p0.2.length:Int)),(24,vI s1.1),(38,vS n b.2.2 o),(39,vI (b.2.2.length:Int)),(40,vI s2.1)]/\m.le D/\St D (kB B (Vc b v z n o) 58::kB g (Vf s2.2.1 p3 p1 s2.2.2.1 s2.2.2.2.1 s2.2.2.2.2) 66::kB l (Vf eB eB 0 eB 0 0) 66::O) w'/\MRow D k 0 [vS a1 p0.1 c1,vS a2 p0.2 c2]/\RepS aJ D a1 c1 p0.1/\RepS C6 D a2 c2 p0.2/\RepS C5 D n o b.2.2/\RepS aJ D v z b.2.1) N ⟨(0,s1.2.1,s1.2.2.1,s1.2.2.2.1,s1.2.2.2.2),G,i,rfl,q,st.f2.f2.f2,a,c,d,s,u⟩ ?_);rintro k2 _ e3 ⟨s2,D,hL,rfl,q,st,a,c,d,s,u⟩;rcases k2 with _|k2
    .exact cU hL
    obtain⟨d8,i,c8,c0⟩:=cV hL;clear hL;unfold wU at i;refine aG 1 [(41,vB (decide (s2.1<(b.2.2.length:Int))))] (aF ?_);refine aI i ?_ ?_
    .intro A i;refine aL (aB (aF (cA .normal i (fun F L' w'=>∃H,L'=[(1,vI p1),(2,vT p2),(3,vT p3),(4,vP k 0),(8,vP l 0),(9,vP g 0),(10,vI s1.1),(11,vP B 0),(22,vS a2 p0.2 c2),(23,vI (p0.2.length:Int)),(24,vI s1.1),(38,vS n b.2.2 o),(39,vI (b.2.2.length:Int)),(40,vI s2.1)]/\m.le H/\St H (kB B (Vc b v z n o) 58::kB g (Vf F.1 p3 p1 F.2.1 F.2.2.1 F.2.2.2) 66::kB l (Vf eB eB 0 eB 0 0) 66::O) w'/\MRow H k 0 [vS a1 p0.1 c1,vS a2 p0.2 c2]/\RepS aJ H a1 c1 p0.1/\RepS C6 H a2 c2 p0.2/\RepS C5 H n o b.2.2/\RepS aJ H v z b.2.1) ?_ ?_)))
     .rintro F i _ f ⟨H,rfl,q,st,a,c,d,s,u⟩;refine aB (bA (aA 2 [(40,vI (wr (s2.1+1)))] (aU rfl ?_)));have hL:=c8 _ (sI i);exact xE (cN ⟨(wr (s2.1+1),F.1,F.2.1,F.2.2.1,F.2.2.2),H,hL,rfl,q,st.f2.f2.f2,a,c,d,s,u⟩)
     intro F i a7;refine bB (aV 1 [(42,vI s2.1)] (eP 43 s i ?_));rintro S i b6 f2 d5 ⟨_,_,rfl,rfl,⟨_,_,rfl,rfl,⟨_,_,rfl,⟨a5,c5,rfl,r5⟩,⟨a6,c6,rfl,r6⟩⟩⟩⟩ d1;refine eS 44 98 43 f2 (.agg (Va S a5 c5 a6 c6)) st d1 (cG 13 98 (.agg #[vI 0,vT eB,v6,v6]) st fun b7 e4 st=>(aA 1 [(12,vI s2.1)] (bM (.agg (Va S a5 c5 a6 c6)) st fun e5 st=>(aS (aC (dT 10 i (fun o7 L' w'=>∃f,L'=[(1,vI p1),(2,vT p2),(3,vT p3),(4,vP k 0),(8,vP l 0),(9,vP g 0),(10,vI s1.1),(11,vP B 0),(12,vI s2.1),(22,vS a2 p0.2 c2),(23,vI (p0.2.length:Int)),(24,vI s1.1),(38,vS n b.2.2 o),(39,vI (b.2.2.length:Int)),(40,vI s2.1),(54,vB o7)]/\m.le f/\St f (kB b7 (Va S a5 c5 a6 c6) 98::kB B (Vc b v z n o) 58::kB g (Vf s2.2.1 p3 p1 s2.2.2.1 s2.2.2.2.1 s2.2.2.2.2) 66::kB l (Vf eB eB 0 eB 0 0) 66::O) w'/\MRow f k 0 [vS a1 p0.1 c1,vS a2 p0.2 c2]/\RepS aJ f a1 c1 p0.1/\RepS C6 f a2 c2 p0.2/\RepS C5 f n o b.2.2/\RepS aJ f a5 c5 S.2.2.1/\RepS C4 f a6 c6 S.2.2.2/\RepS aJ f v z b.2.1) ?_ ?_))))))
     .rintro o7 i _ e6 ⟨f,rfl,q,st,a,c,d,s,r5,r6,u⟩;refine aS (aI i ?_ ?_)
      .intro A i;refine aC (bK 1 56 3 55 5 (vI s2.2.2.2.2) st.t.t.h (aA 2 [(57,vI (wr (s2.2.2.2.2+1))),(58,vP g 5)] (eM (Vf s2.2.1 p3 p1 s2.2.2.1 s2.2.2.2.1 (wr (s2.2.2.2.2+1))) st.f2 fun e7 st=>(aS (aC (bK 1 60 3 59 5 (vI (wr (s2.2.2.2.2+1))) st.h (aH 1 [(61,vB ((wr (s2.2.2.2.2+1))==1))] (aI i ?_ ?_))))))))
       .intro A i;refine dK [(14,fun w'=>Inv f w'/\Piece.holds f w' (kB B (Vc b v z n o) 58)/\True)] kr st fun e8 _ st=> ?_;have p:=f.le_refl;refine⟨⟨.inr ⟨Inv.anti st.inv p,Piece.holds_anti st.t.t.h p,trivial⟩,trivial⟩,?_⟩;refine aD 0 62 (vP B 0) (.head _) (cW 9 62 1 63 0 (vT b.1) (.head _) (fun _ h=>h.2.1) (aD 2 64 (vP k 0) (.head _) (cM 35 64 3 65 0 (vS a1 p0.1 c1) (.head _) (fun _ h=>h.1) a (aD 4 66 (vI s1.1) (.head _) ?_))));have⟨x3,d3,i⟩:=aZ i;refine iU (t:=35) (e:=9) (x:=(.tmp 65)) (y:=(.tmp 66)) 5 67 aJ kr rfl kr (.head _) (cY (bJ (bJ (cY (cY (bJ (bJ (cY (bJ eV))))))))) (ev (vS a1 p0.1 c1)) (ev (vI s1.1)) kr c d3 ?_;rintro b8 f3 d6 rfl d2;refine cM 9 67 6 68 f3 (vT x3) (.head _) (fun _ h=>h.1) d2 (aD 7 69 (vI s2.1) (.head _) (aD 8 70 (vP g 0) (.head _) (aY 9 kr (pJ 9 70 63 0 (vT b.1) (Vf b.1 p3 p1 s2.2.2.1 s2.2.2.2.1 (wr (s2.2.2.2.2+1))) st fun e9 st=>(⟨⟨.inr ⟨Inv.anti st.inv p,Piece.holds_anti st.t.t.h p,trivial⟩,trivial⟩,?_⟩)))));refine aD 10 71 (vP g 3) (.head _) (aY 11 kr (pJ 9 71 68 3 (vT x3) (Vf b.1 p3 p1 x3 s2.2.2.2.1 (wr (s2.2.2.2.2+1))) st fun f0 st=>(⟨⟨.inr ⟨Inv.anti st.inv p,Piece.holds_anti st.t.t.h p,trivial⟩,trivial⟩,?_⟩)))
        refine aD 12 72 (vP g 4) (.head _) (aY 13 kr (pJ 3 72 69 4 (vI s2.1) (Vf b.1 p3 p1 x3 s2.1 (wr (s2.2.2.2.2+1))) st fun f4 st=>(⟨⟨.inr ⟨Inv.anti st.inv p,Piece.holds_anti st.t.t.h p,trivial⟩,trivial⟩,?_⟩)));refine cC kr ?_;refine bN ?_;cases i;exact xE (a7 _ _ ⟨f,rfl,q,st.f1.t.f2.f1.f2,a,c,d,s,u⟩)
       intro A i;refine aL (bN ?_);cases i;exact xE (a7 _ _ ⟨f,rfl,q,st.f1.t.f2.f1.f2,a,c,d,s,u⟩)
      intro A i;refine aL (bN ?_);cases i;exact xE (a7 _ _ ⟨f,rfl,q,st.t.f2.f2.f2,a,c,d,s,u⟩)
     intro o7 i K;refine bK 1 46 3 45 0 (vI S.1) st.h (aA 3 [(49,vB (S.1==p1))] (cH 49 i ?_ ?_))
     .intro A i;refine bK 1 51 9 50 1 (vT S.2.1) st.h (aA 3 [(54,vB (S.2.1.toList==p3.toList))] ?_);cases i;exact bD _ kr (K _ _ ⟨D,rfl,q,st.f3.f3.f3.f3,a,c,d,s,r5,r6,u⟩)
     intro A i;refine aA 5 [(54,vB false)] ?_;cases i;exact bD _ kr (K _ _ ⟨D,rfl,q,st.f3.f3.f3.f3,a,c,d,s,r5,r6,u⟩)
    intro A i;refine cJ (bC ?_);have ho:=c0 _ (sI i);have st:=st.f2.f2.f2;refine bC ?_;exact xE (a9 _ _ ⟨s2.2,D,ho,rfl,q,st,a,c,d,u,s⟩)
   intro K;refine aA 3 [(31,vB (p1 !=3))] (cH 31 i ?_ ?_)
   .intro A i;refine bK 1 33 9 32 0 (vT b.1) st.h (aA 3 [(36,vB (!(b.1.toList==p2.toList)))] ?_);cases i;exact bD _ kr (K _ _ ⟨U,rfl,q,st.f2.f2.f2,a,c,d,u,s⟩)
   intro A i;refine aA 5 [(36,vB false)] ?_;cases i;exact bD _ kr (K _ _ ⟨U,rfl,q,st.f2.f2.f2,a,c,d,u,s⟩)
  intro A i;refine cJ (bC ?_);have ho:=b9 _ (sI i);have st:=st.f1.f1;refine bC ?_;exact xE (a8 _ _ ⟨s1.2,U,ho,rfl,q,st⟩)
 intro o1 i b;refine aI i ?_ ?_
 .intro A i;refine bA (aA 1 [(20,vP g 0)] (eM (Vf eB p3 p1 eB 0 0) st fun f st=>(aU rfl ?_)));cases i;exact xE (b _ _ ⟨m1,rfl,q.t Y,st.f1.f1,a,c.mono Y,d.mono Y⟩)
 intro A i;refine aL ?_;cases i;exact xE (b _ _ ⟨m1,rfl,q.t Y,st.f1.f1,a,c.mono Y,d.mono Y⟩)
def FB(N:Nat)(p0:dU)(p1:dU):Ti:=
 if(!((p0.2.2.1==3)==(p1.2.2.1==3)))=true then(some (p1.2.2.1==3)) else(if(p0.2.2.1==3)=true then(some (Op.bytesLess p0.2.1.toList p1.2.1.toList)) else(if(!(p0.1.toList==p1.1.toList))=true then(some (Op.bytesLess p0.1.toList p1.1.toList)) else(if(p0.2.2.1 !=p1.2.2.1)=true then(some (decide (p0.2.2.1<p1.2.2.1))) else(some (Op.bytesLess p0.2.1.toList p1.2.1.toList)))))
theorem qCi{p0:dU}{p1:dU}{r:Bool}(st:St m (O) w)(i:FB N p0 p1=some r):Calls prog 59 #[.agg (Vg p0),.agg (Vg p1)] w fun e w'=>∃m',e= .returned (vB r)/\m.le m'/\St m' (O) w':=by
 unfold FB at i;have q:=m.le_refl;refine bH func59 rfl ntmps59 ?_;refine aC (eA 2 66 (.agg (Vg p0)) st fun c k l h st a=>(eA 3 66 (.agg (Vg p1)) st fun d f n g st b=> ?_));have q:=(q.t h).t g;have a:=a.mono g;refine aH 1 [] (aF (aV 1 [(5,vP c 2)] (bW 6 (vI p0.2.2.1) st (a.drop 2) (aA 2 [(7,vB (p0.2.2.1==3)),(8,vP d 2)] (bW 9 (vI p1.2.2.1) st (b.drop 2) (aH 2 [(11,vB (!((p0.2.2.1==3)==(p1.2.2.1==3))))] (aI i ?_ ?_)))))))
 .intro A i;refine aV 1 [(12,vP d 2)] ?_;refine bW 13 (vI p1.2.2.1) st (b.drop 2) ?_;refine aH 2 [(4,vB (p1.2.2.1==3))] (aO (aR ?_));cases i;exact aT [4] [vB (p1.2.2.1==3)] ⟨f,rfl,q,st⟩
 intro A i;refine aL (aB (aF (aV 1 [(15,vP c 2)] (bW 16 (vI p0.2.2.1) st (a.drop 2) (aH 1 [(17,vB (p0.2.2.1==3))] (aI i ?_ ?_))))))
 .intro A i;refine aV 1 [(18,vP c 1)] ?_;refine bW 19 (vT p0.2.1) st (a.drop 1) ?_;refine aA 1 [(20,vP d 1)] (bW 21 (vT p1.2.1) st (b.drop 1) (aH 2 [(4,vB (Op.bytesLess p0.2.1.toList p1.2.1.toList))] (aO (aR ?_))));cases i;exact aT [4] [vB (Op.bytesLess p0.2.1.toList p1.2.1.toList)] ⟨f,rfl,q,st⟩
 intro A i;refine aL (aB (aF (aV 1 [(23,vP c 0)] (bW 24 (vT p0.1) st a (aA 1 [(25,vP d 0)] (bW 26 (vT p1.1) st b (aH 1 [(27,vB (!(p0.1.toList==p1.1.toList)))] (aI i ?_ ?_))))))))
 .intro A i;refine aV 1 [(28,vP c 0)] ?_;refine bW 29 (vT p0.1) st a ?_;refine aA 1 [(30,vP d 0)] (bW 31 (vT p1.1) st b (aH 2 [(4,vB (Op.bytesLess p0.1.toList p1.1.toList))] (aO (aR ?_))));cases i;exact aT [4] [vB (Op.bytesLess p0.1.toList p1.1.toList)] ⟨f,rfl,q,st⟩
 intro A i;refine aL (aB (aF (aV 1 [(33,vP c 2)] (bW 34 (vI p0.2.2.1) st (a.drop 2) (aA 1 [(35,vP d 2)] (bW 36 (vI p1.2.2.1) st (b.drop 2) (aH 1 [(37,vB (p0.2.2.1 !=p1.2.2.1))] (aI i ?_ ?_))))))))
 .intro A i;refine aV 1 [(38,vP c 2)] ?_;refine bW 39 (vI p0.2.2.1) st (a.drop 2) ?_;refine aA 1 [(40,vP d 2)] (bW 41 (vI p1.2.2.1) st (b.drop 2) (aH 2 [(4,vB (decide (p0.2.2.1<p1.2.2.1)))] (aO (aR ?_))));cases i;exact aT [4] [vB (decide (p0.2.2.1<p1.2.2.1))] ⟨f,rfl,q,st⟩
 intro A i;refine aL (aB (aV 1 [(43,vP c 1)] (bW 44 (vT p0.2.1) st (a.drop 1) (aA 1 [(45,vP d 1)] (bW 46 (vT p1.2.1) st (b.drop 1) (aH 2 [(4,vB (Op.bytesLess p0.2.1.toList p1.2.1.toList))] (aO ?_)))))));cases i;exact aT [4] [vB (Op.bytesLess p0.2.1.toList p1.2.1.toList)] ⟨f,rfl,q,st⟩
def uV(N:Nat)(s2:zH)(c:dU)(a:Int):Option (Int⊕Int):=
 (if(decide (a<((List.length s2.1):Int)))=true then((bV s2.1 a).bind fun b=>(FB N b c).bind fun b=>some b) else(some false):Ti).bind fun b=>if b=true then(some (.inl (IntKind.wrap .i64 (a+1)))) else(some (.inr a))
def wQ(N:Nat)(c:qJ)(a:lX)(s2:zH):Option (zH⊕iO):=
 if(decide (s2.2<(List.length a.2.2:Int)))=true then(((bV a.2.2 s2.2).bind fun b=>(AQ N c b.1 a.1 b.2.1).bind fun a=>(aK (uV N s2 a) N 0).bind fun o4=>(if(decide (o4<((List.length s2.1):Int)))=true then((bV s2.1 o4).bind fun b=>some ((b.1.toList==a.1.toList)&&((b.2.1.toList==a.2.1.toList)&&((b.2.2.1==a.2.2.1)&&((b.2.2.2.1.toList==a.2.2.2.1.toList)&&((b.2.2.2.2.1==a.2.2.2.2.1)&&((b.2.2.2.2.2==a.2.2.2.2.2)&&true))))))) else(some false):Ti).bind fun b=>if b=true then(some s2.1) else((dY 72 s2.1 ([a])).bind fun b=>(oX b (IntKind.wrap .i64 (o4+1)) (List.length b:Int)).bind fun c=>(oX b o4 (List.length b:Int)).bind fun c=>(sY b (IntKind.wrap .i64 (o4+1)) o4).bind fun b=>(bV b o4).bind fun c=>some (List.set b (Int.toNat o4) a)):Option iO).bind fun a=>some (.inl (a,IntKind.wrap .i64 (s2.2+1)))) else(some (.inr s2.1))
def zQ(N:Nat)(a:qJ)(s1:zH):Option (zH⊕iO):=
 if(decide (s1.2<(List.length a.2:Int)))=true then((bV a.2 s1.2).bind fun b=>(aK (wQ N a b) N (s1.1,0)).bind fun o2=>some (.inl (o2,IntKind.wrap .i64 (s1.2+1)))) else(some (.inr s1.1))
def AA(N:Nat)(p0:Tq):Option iO:=
 (sK N p0).bind fun y1=>if(y1 !=0)=true then(some ([]:iO)) else((AY N p0).bind fun a=>(aK (zQ N a) N (([]:iO),0)).bind fun a=>some a)
theorem RH{p0:Tq}{r:iO}(st:St m (O) w)(r1:RepS C1 m a1 c1 p0)(i:AA N p0=some r):Calls prog 27 #[.agg #[vS a1 p0 c1]] w fun e w'=>∃g0 g1 m',e= .returned (vS g0 r g1)/\m.le m'/\St m' (kR g0 r g1 66 6::O) w'/\RepS C7 m' g0 g1 r:=by
 unfold AA at i;have q:=m.le_refl;refine bH func27 rfl ntmps27 ?_;refine aC (eA 1 28 (.agg #[vS a1 p0 c1]) st fun b1 m1 w1 e1 st g5=>(aH 1 [] (aC (aH 1 [(3,vd)] (aF (aC (bW 11 (.agg #[vS a1 p0 c1]) st g5 (aM 12 i (wV st (r1.mono e1)) ?_))))))));rintro y1 i _ w2 ⟨m2,rfl,e2,st⟩;refine aH 1 [(13,vB (y1 !=0))] (aI i ?_ ?_)
 .intro A i;refine aG 1 [(2,vd)] (aO ?_);refine aR ?_;cases i;exact aT [2] [vd] ⟨none,0,m2,rfl,(q.t e1).t e2,(st.nilroom 66 6),(RepS.nil _ _)⟩
 intro A i;refine aL (aB (aC (bW 14 (.agg #[vS a1 p0 c1]) st (g5.mono e2) (aM 15 i (RS st ((r1.mono e1).mono e2)) ?_))));rintro a i _ w3 ⟨B,D,n,p,m3,rfl,e3,st,G,F⟩;refine cG 4 94 (.agg #[v6,v6]) st fun Z w4 st=> ?_;refine bM (.agg (Vl a B D n p)) st fun w5 st=> ?_;refine aS (aF (aC (bK 1 17 92 16 1 (vS n a.2 p) st.h (aH 2 [(18,vI (a.2.length:Int)),(19,vI 0)] (bB ?_)))));have st:=LA (f:=(fun x:dU=>((Vh x):List Value))) (st.nilroom 66 6);refine cA (.exit 0) i (fun d5 L' w'=>∃(o1:iO),∃a4 c4 T1 m4,o1=d5/\L'=[(3,vS a4 o1 c4)]/\m.le m4/\St m4 (kB Z (Vl a B D n p) 94::eJ a4 (bY (fun x:dU=>((Vh x):List Value)) o1 T1) 66::kR B a.1 D 9 1::kR n a.2 p 58 3::O) w'/\RepS aJ m4 B D a.1/\RepS C6 m4 n p a.2/\OAS a4 o1.length c4 6 T1) ?_ ?_
 .rintro d5 i _ M ⟨o1,a4,c4,T1,m4,rfl,rfl,q,st,G,F,g⟩;refine cO (aB (aG 2 [(2,vS a4 o1 c4)] (aO ?_)));obtain rfl:=sI i;have st:=st.f1;obtain⟨s,E,st,H⟩:=St.freezeM (c:=C7) (f:=(fun x:dU=>((Vh x):List Value))) st g rfl (fun _=>rfl) (fun _ x=>⟨_,_,rfl,rfl,⟨_,_,rfl,rfl,⟨_,_,rfl,rfl,⟨_,_,rfl,rfl,⟨_,_,rfl,rfl,rfl⟩⟩⟩⟩⟩);exact aT [2] [vS a4 o1 c4] ⟨a4,c4,s,rfl,q.t E,st.f1.t.f1.t.f1.t,H⟩
 intro d5 i g2;refine cR _ kr (cQ (fun k1 L' w'=>∃(s1:zH),∃a5 c5 T2 m5,aK (zQ N a) k1 s1=some d5/\L'=[(3,vS a5 s1.1 c5),(4,vP Z 0),(17,vS n a.2 p),(18,vI (a.2.length:Int)),(19,vI s1.2)]/\m.le m5/\St m5 (kB Z (Vl a B D n p) 94::eJ a5 (bY (fun x:dU=>((Vh x):List Value)) s1.1 T2) 66::kR B a.1 D 9 1::kR n a.2 p 58 3::O) w'/\RepS C6 m5 n p a.2/\RepS aJ m5 B D a.1/\OAS a5 s1.1.length c5 6 T2) N ⟨(([]:iO),0),none,0,[],m3,i,rfl,((q.t e1).t e2).t e3,st.f3.f3.f2.f3,F,G,(OAS.nil 6)⟩ ?_);rintro k1 _ w7 ⟨s1,a5,c5,T2,m5,hL,rfl,q,st,F,G,g7⟩;rcases k1 with _|k1
 .exact cU hL
 obtain⟨k0,i,h0,g8⟩:=cV hL;clear hL;unfold zQ at i;refine aG 1 [(20,vB (decide (s1.2<(a.2.length:Int))))] (aF ?_);refine aI i ?_ ?_
 .intro A i;refine aL (aB (aF (bB (aC (eP 21 F i ?_)))));rintro g i b3 f1 h6 ⟨_,_,rfl,rfl,⟨_,_,rfl,⟨a6,c6,rfl,V⟩,⟨H,M,rfl,U⟩⟩⟩ h2;refine eS 22 58 21 f1 (.agg (Vc g a6 c6 H M)) st h2 (cG 6 58 (.agg #[vT eB,v6,v6]) st fun b4 w8 st=>(bM (.agg (Vc g a6 c6 H M)) st fun w9 st=>(aS (aC (bK 1 24 56 23 2 (vS H g.2.2 M) st.h (aH 2 [(25,vI (g.2.2.length:Int)),(26,vI 0)] (bB (cA (.exit 2) i (fun d6 L' w'=>∃(o2:iO),∃a8 c8 T3 m6,o2=d6/\L'=[(3,vS a8 o2 c8),(4,vP Z 0),(17,vS n a.2 p),(18,vI (a.2.length:Int)),(19,vI s1.2)]/\m.le m6/\St m6 (kB b4 (Vc g a6 c6 H M) 58::kB Z (Vl a B D n p) 94::eJ a8 (bY (fun x:dU=>((Vh x):List Value)) o2 T3) 66::kR B a.1 D 9 1::kR n a.2 p 58 3::O) w'/\RepS C6 m6 n p a.2/\RepS aJ m6 a6 c6 g.2.1/\RepS C5 m6 H M g.2.2/\RepS aJ m6 B D a.1/\OAS a8 o2.length c8 6 T3) ?_ ?_))))))))
  .rintro d6 i _ E ⟨o2,a8,c8,T3,m6,rfl,rfl,q,st,F,V,U,G,s⟩;refine cO (bN (aB (bA (aA 2 [(19,vI (wr (s1.2+1)))] (aU rfl ?_)))));have hL:=h0 _ (sI i);exact xE (cN ⟨(o2,wr (s1.2+1)),a8,c8,T3,m6,hL,rfl,q,st.t.f3.f3.f3.f3,F,G,s⟩)
  intro d6 i g3;refine cR _ kr (cQ (fun k2 L' w'=>∃(s2:zH),∃E c9 T4 m7,aK (wQ N a g) k2 s2=some d6/\L'=[(3,vS E s2.1 c9),(4,vP Z 0),(6,vP b4 0),(17,vS n a.2 p),(18,vI (a.2.length:Int)),(19,vI s1.2),(24,vS H g.2.2 M),(25,vI (g.2.2.length:Int)),(26,vI s2.2)]/\m.le m7/\St m7 (kB b4 (Vc g a6 c6 H M) 58::kB Z (Vl a B D n p) 94::eJ E (bY (fun x:dU=>((Vh x):List Value)) s2.1 T4) 66::kR B a.1 D 9 1::kR n a.2 p 58 3::O) w'/\RepS C6 m7 n p a.2/\RepS C5 m7 H M g.2.2/\RepS aJ m7 a6 c6 g.2.1/\RepS aJ m7 B D a.1/\OAS E s2.1.length c9 6 T4) N ⟨(s1.1,0),a5,c5,T2,m5,i,rfl,q,st.f4.f4.f4.f4.f4,F,U,V,G,g7⟩ ?_);rintro k2 _ k5 ⟨s2,E,c9,T4,m7,hL,rfl,q,st,F,U,V,G,d3⟩;rcases k2 with _|k2
  .exact cU hL
  obtain⟨k4,i,h1,g9⟩:=cV hL;clear hL;unfold wQ at i;refine aG 1 [(27,vB (decide (s2.2<(g.2.2.length:Int))))] (aF ?_);refine aI i ?_ ?_
  .intro A i;refine aL (aB (aF (cA .normal i (fun o3 L' w'=>∃d8 d9 T5 m8,L'=[(3,vS d8 o3 d9),(4,vP Z 0),(6,vP b4 0),(17,vS n a.2 p),(18,vI (a.2.length:Int)),(19,vI s1.2),(24,vS H g.2.2 M),(25,vI (g.2.2.length:Int)),(26,vI s2.2)]/\m.le m8/\St m8 (kB b4 (Vc g a6 c6 H M) 58::kB Z (Vl a B D n p) 94::eJ d8 (bY (fun x:dU=>((Vh x):List Value)) o3 T5) 66::kR B a.1 D 9 1::kR n a.2 p 58 3::O) w'/\RepS C6 m8 n p a.2/\RepS C5 m8 H M g.2.2/\RepS aJ m8 a6 c6 g.2.1/\RepS aJ m8 B D a.1/\OAS d8 o3.length d9 6 T5) ?_ ?_)))
   .rintro o3 i _ R ⟨d8,d9,T5,m8,rfl,q,st,F,U,V,G,s⟩;refine aB (bA (aA 2 [(26,vI (wr (s2.2+1)))] (aU rfl ?_)));have hL:=h1 _ (sI i);exact xE (cN ⟨(o3,wr (s2.2+1)),d8,d9,T5,m8,hL,rfl,q,st.f4.f4.f4.f4.f4,F,U,V,G,s⟩)
   intro o3 i g4;refine bB (aC (eP 28 U i ?_));rintro x2 i b5 f2 h7 ⟨_,_,rfl,rfl,⟨_,_,rfl,rfl,⟨_,_,rfl,⟨b9,d1,rfl,r6⟩,⟨c0,d2,rfl,r7⟩⟩⟩⟩ h3;refine eS 29 98 28 f2 (.agg (Va x2 b9 d1 c0 d2)) st h3 (cG 8 98 (.agg #[vI 0,vT eB,v6,v6]) st fun b6 k6 st=>(bM (.agg (Va x2 b9 d1 c0 d2)) st fun k7 st=>(aS (aC (bG 30 (.agg (Vl a B D n p)) st.t.t.h (bK 1 32 3 31 0 (vI x2.1) st.h (bK 1 34 9 33 0 (vT g.1) st.t.h (bK 1 36 9 35 1 (vT x2.2.1) st.h (aM 37 i (RM (p0:=a) st G F) ?_)))))))));rintro s i _ k8 ⟨m9,rfl,e4,st⟩;refine cG 9 66 (.agg (Vf eB eB 0 eB 0 0)) st fun b7 k9 st=> ?_;refine bM (.agg (Vg s)) st fun l0 st=> ?_;refine aS (aC (aH 1 [(10,vI 0)] (aF (bB (cA (.exit 4) i (fun d7 L' w'=>∃(o4:Int),∃R,o4=d7/\L'=[(3,vS E s2.1 c9),(4,vP Z 0),(6,vP b4 0),(9,vP b7 0),(10,vI o4),(17,vS n a.2 p),(18,vI (a.2.length:Int)),(19,vI s1.2),(24,vS H g.2.2 M),(25,vI (g.2.2.length:Int)),(26,vI s2.2)]/\m.le R/\St R (kB b7 (Vg s) 66::kB b6 (Va x2 b9 d1 c0 d2) 98::kB b4 (Vc g a6 c6 H M) 58::kB Z (Vl a B D n p) 94::eJ E (bY (fun x:dU=>((Vh x):List Value)) s2.1 T4) 66::kR B a.1 D 9 1::kR n a.2 p 58 3::O) w'/\RepS C6 R n p a.2/\RepS C5 R H M g.2.2/\RepS aJ R b9 d1 x2.2.2.1/\RepS C4 R c0 d2 x2.2.2.2/\RepS aJ R a6 c6 g.2.1/\RepS aJ R B D a.1) ?_ ?_)))))
   .rintro d7 i _ l3 ⟨o4,R,rfl,rfl,q,st,F,U,r6,r7,V,G⟩;refine cO (aB (aF (aF (cA .normal i (fun o6 L' w'=>∃b0,L'=[(3,vS E s2.1 c9),(4,vP Z 0),(6,vP b4 0),(9,vP b7 0),(10,vI o4),(17,vS n a.2 p),(18,vI (a.2.length:Int)),(19,vI s1.2),(24,vS H g.2.2 M),(25,vI (g.2.2.length:Int)),(26,vI s2.2),(63,vB o6)]/\m.le b0/\St b0 (kB b7 (Vg s) 66::kB b6 (Va x2 b9 d1 c0 d2) 98::kB b4 (Vc g a6 c6 H M) 58::kB Z (Vl a B D n p) 94::eJ E (bY (fun x:dU=>((Vh x):List Value)) s2.1 T4) 66::kR B a.1 D 9 1::kR n a.2 p 58 3::O) w'/\RepS C6 b0 n p a.2/\RepS C5 b0 H M g.2.2/\RepS aJ b0 b9 d1 x2.2.2.1/\RepS C4 b0 c0 d2 x2.2.2.2/\RepS aJ b0 a6 c6 g.2.1/\RepS aJ b0 B D a.1) ?_ ?_))))
    .rintro o6 i _ l4 ⟨b0,rfl,q,st,F,U,r6,r7,V,G⟩;refine aB (aI i ?_ ?_)
     .intro A i;refine cJ (bC (cO ?_));cases i;exact xE (g4 _ _ ⟨E,c9,T4,b0,rfl,q,st.t.t.f4.f4.f4.f4.f4,F,U,V,G,d3⟩)
     intro A i;refine aL (aB (aV 1 [(64,vS E s2.1 c9)] (bG 65 (.agg (Vg s)) st.h (dV 66 66 1 C7 [s] st fun b8 f9 l5 e6 st r8=> ?_))));have st:=st.f5;have⟨l1,h5,i⟩:=aZ i;refine bQ rfl (KO (d:=67) (t:=50) (u:=50) (e:=66) (by_:=72) (x:=(.tmp 64)) (y:=(.tmp 66)) (c:=C7) (f:=(fun x:dU=>((Vh x):List Value))) (l:=s2.1) (fun _ _ _ h=>by obtain⟨_,_,rfl,rfl,⟨_,_,rfl,rfl,⟨_,_,rfl,rfl,⟨_,_,rfl,rfl,⟨_,_,rfl,rfl,rfl⟩⟩⟩⟩⟩:=h;rfl) (fun _=>rfl) kr rfl (ev (vS E s2.1 c9)) (ev (vS (aP b8) ([s]) 1)) st d3 rfl kr (.inl kr) r8.src h5 fun Y S T6 l6 d4 st=>(aA 1 [(3,vS Y l1 S)] (aU rfl ?_)));have st:=st.f1.t;refine aB (aF (dK [(8,fun w'=>Inv f9 w'/\True)] kr st fun l7 _ st=> ?_));have e0:=f9.le_refl;refine tA st e0 ?_;refine aD 0 68 (vS Y l1 S) (.head _) (aD 1 69 (vI o4) (.head _) (aD 2 70 (vI (wr (o4+1))) (.head _) ?_));have⟨u5,e9,i⟩:=aZ i;refine LK (t:=50) (e:=66) (k:=6) (x:=(.tmp 68)) (lo:=(some (.tmp 70))) (hi:=none) (li:=wr (o4+1)) (hix:=(l1.length:Int)) 3 71 kr rfl kr (.head _) (bJ (cY (bJ (bJ (cY (cY (bJ (bJ (cY (bJ eV)))))))))) (ev (vS Y l1 S)) kr (.inr ⟨_,_,rfl,(ev (vI (wr (o4+1))))⟩) (.inl ⟨rfl,congrArg Nat.cast rfl⟩) d4 rfl e9 ?_;have h8:=MG e9 rfl;refine aD 4 72 (vS Y l1 S) (.head _) (aD 5 73 (vI o4) (.head _) ?_)
     have⟨u6,f0,i⟩:=aZ i;refine LK (t:=50) (e:=66) (k:=6) (x:=(.tmp 72)) (lo:=(some (.tmp 73))) (hi:=none) (li:=o4) (hix:=(l1.length:Int)) 6 74 kr rfl kr (.head _) (bJ (cY (bJ (bJ (cY (cY (bJ (bJ (cY (bJ eV)))))))))) (ev (vS Y l1 S)) kr (.inr ⟨_,_,rfl,(ev (vI o4))⟩) (.inl ⟨rfl,congrArg Nat.cast rfl⟩) d4 rfl f0 ?_;have h9:=MG f0 rfl;have⟨l2,f7,i⟩:=aZ i;refine aY 7 kr (WG (d:=75) (t:=50) (u:=50) (e:=66) (k:=6) (x:=(.tmp 71)) (y:=(.tmp 74)) (f:=(fun x:dU=>((Vh x):List Value))) (l:=l1) (d0:=wr (o4+1)) (s0:=o4) (fun _=>rfl) (fun _ _ hv=>by simp only[jI,kZ,dD] at hv;rcases hv with rfl|rfl|rfl|rfl|rfl|rfl<;>rfl) (by decide) kr rfl (ev (.slice (oO Y S (Int.toNat (wr (o4+1))) 6) (Int.toNat (l1.length:Int)-Int.toNat (wr (o4+1))) (S-Int.toNat (wr (o4+1))))) (ev (.slice (oO Y S (Int.toNat o4) 6) (Int.toNat (l1.length:Int)-Int.toNat o4) (S-Int.toNat o4))) rfl rfl kr st d4 rfl f7 fun v1 l8 st=> ?_);have e8:=((VS f7).trans rfl);refine tA st e0 ?_;refine cC kr ?_;refine aB (bA (aA 2 [(76,vS Y l1 S),(77,vI o4)] (bG 78 (.agg (Vg s)) st.t.h ?_)));have⟨x5,f8,i⟩:=aZ i
     refine bQ rfl (KK (d:=79) (t:=50) (e:=66) (x:=(.tmp 76)) (y:=(.tmp 77)) (k:=6) kr rfl (ev (vS Y l1 S)) (ev (vI o4)) kr d4 e8 f8 (bQ rfl (SU (t:=66) (x:=(.tmp 79)) (y:=(.tmp 78)) (o:=0) (f:=(fun x:dU=>((Vh x):List Value))) (z:=x5) (u:=s) (v:= .agg (Vg s)) (fun _=>rfl) (Int.toNat o4*6) rfl kr (ev (.pointer (some ⟨ab Y,Int.toNat o4*6,none⟩))) (ev (.agg (Vg s))) st d4 e8 f8 kr rfl fun l9 st=> ?_)));have g6:List.length (List.set l2 (Int.toNat o4) s)=l1.length:=LW e8 _ _;refine aU rfl (bN ?_);obtain rfl:=sI i;have h4:=OAS.cast d4 g6;refine eG [(3,.slice Y (List.length (List.set l2 (Int.toNat o4) s)) S),(4,vP Z 0),(6,vP b4 0),(17,vS n a.2 p),(18,vI (a.2.length:Int)),(19,vI s1.2),(24,vS H g.2.2 M),(25,vI (g.2.2.length:Int)),(26,vI s2.2)] (by(try simp only[vS,g6]);kernel_rfl) ?_;exact xE (g4 _ _ ⟨Y,S,T6,f9,rfl,q.t e6,st.f1.t.f1.t.f4.f4.f2.f4.f4,F.mono e6,U.mono e6,V.mono e6,G.mono e6,h4⟩)
    intro o6 i K;refine dK [(12,fun w'=>Inv R w'/\Piece.holds R w' (kB b7 (Vg s) 66)/\Piece.holds R w' (eJ E (bY (fun x:dU=>((Vh x):List Value)) s2.1 T4) 66)/\True)] kr st fun e0 _ st=> ?_;have Y:=R.le_refl;refine⟨⟨.inr ⟨Inv.anti st.inv Y,Piece.holds_anti st.h Y,LL st.t.t.t.t.h Y,trivial⟩,trivial⟩,?_⟩;refine aD 0 52 (vI o4) (.head _) (aD 1 53 (vS E s2.1 c9) (.head _) (aD 2 54 (vI (s2.1.length:Int)) (.head _) (aD 3 55 (vB (decide (o4<(s2.1.length:Int)))) (.head _) (aD 4 56 (vB (decide (o4<(s2.1.length:Int)))) (.head _) ?_))));rcases dJ (decide (o4<(s2.1.length:Int))) with A|A
    .rw[if_pos A] at i;refine iM (t:=56) (b:=true) (decide (o4<(s2.1.length:Int))) kr A ?_;refine aD 5 57 (vS E s2.1 c9) (.head _) (aD 6 58 (vI o4) (.head _) ?_);have⟨S,d4,i⟩:=aZ i;refine TN (t:=50) (e:=66) (x:=(.tmp 57)) (y:=(.tmp 58)) (k:=6) 7 59 kr rfl kr (.head _) (bJ (bJ (cY (bJ (bJ (cY (cY (bJ (bJ (cY (bJ eV))))))))))) (ev (vS E s2.1 c9)) (ev (vI o4)) kr d3 rfl d4 ?_;refine UD (t:=66) (x:=(.tmp 59)) (o:=0) (f:=(fun x:dU=>((Vh x):List Value))) (z:=S) (v:= .agg (Vg S)) 8 60 (fun _=>rfl) (Int.toNat o4*6) rfl kr rfl kr (.head _) (bJ (bJ (cY (bJ (bJ (cY (cY (bJ (bJ (cY (bJ eV))))))))))) (fun _ h=>h.2.2.1) (ev (.pointer (some ⟨ab E,Int.toNat o4*6,none⟩))) d3 rfl d4 kr ?_;refine cW 66 9 9 61 0 (.agg (Vg s)) (.head _) (fun _ h=>h.2.1) (aY 10 kr (OB (d:=62) (t:=66) (t2:=66) (x:=(.tmp 60)) (y:=(.tmp 61)) (xs:=(Vg S)) (ys:=(Vg s)) ((S.1.toList==s.1.toList)&&((S.2.1.toList==s.2.1.toList)&&((S.2.2.1==s.2.2.1)&&((S.2.2.2.1.toList==s.2.2.2.1.toList)&&((S.2.2.2.2.1==s.2.2.2.2.1)&&((S.2.2.2.2.2==s.2.2.2.2.2)&&true)))))) kr rfl (ev (.agg (Vg S))) (ev (.agg (Vg s))) kr kr kr (⟨⟨.inr ⟨Inv.anti st.inv Y,Piece.holds_anti st.h Y,LL st.t.t.t.t.h Y,trivial⟩,trivial⟩,?_⟩)))
     refine aD 11 63 (vB ((S.1.toList==s.1.toList)&&((S.2.1.toList==s.2.1.toList)&&((S.2.2.1==s.2.2.1)&&((S.2.2.2.1.toList==s.2.2.2.1.toList)&&((S.2.2.2.2.1==s.2.2.2.2.1)&&((S.2.2.2.2.2==s.2.2.2.2.2)&&true))))))) (.head _) ?_;cases i;exact cC kr (eG _ kr (K _ _ ⟨R,rfl,q,st.f6.f6.f6.f6.f6.f6.f6,F,U,r6,r7,V,G⟩))
    rw[if_neg (not_true A)] at i;refine iM (t:=56) (b:=false) (decide (o4<(s2.1.length:Int))) kr A ?_;refine aW 5 57 (.head _) (aW 6 58 (.head _) (aW 7 59 (.head _) (aW 8 60 (.head _) (aW 9 61 (.head _) (aW 10 62 (.head _) (aD 11 63 (vB false) (.head _) ?_))))));cases i;exact cC kr (eG _ kr (K _ _ ⟨R,rfl,q,st.f6.f6.f6.f6.f6.f6.f6,F,U,r6,r7,V,G⟩))
   intro d7 i d4;refine cR _ kr (cQ (fun k3 L' w'=>∃(s3:Int),∃S,aK (uV N s2 s) k3 s3=some d7/\L'=[(3,vS E s2.1 c9),(4,vP Z 0),(6,vP b4 0),(9,vP b7 0),(10,vI s3),(17,vS n a.2 p),(18,vI (a.2.length:Int)),(19,vI s1.2),(24,vS H g.2.2 M),(25,vI (g.2.2.length:Int)),(26,vI s2.2)]/\m.le S/\St S (kB b7 (Vg s) 66::kB b6 (Va x2 b9 d1 c0 d2) 98::kB b4 (Vc g a6 c6 H M) 58::kB Z (Vl a B D n p) 94::eJ E (bY (fun x:dU=>((Vh x):List Value)) s2.1 T4) 66::kR B a.1 D 9 1::kR n a.2 p 58 3::O) w'/\RepS C6 S n p a.2/\RepS C5 S H M g.2.2/\RepS aJ S b9 d1 x2.2.2.1/\RepS C4 S c0 d2 x2.2.2.2/\RepS aJ S a6 c6 g.2.1/\RepS aJ S B D a.1) N ⟨0,m9,i,rfl,q.t e4,st.f6.f6.f6.f6.f6.f6.f6,F.mono e4,U.mono e4,r6.mono e4,r7.mono e4,V.mono e4,G.mono e4⟩ ?_);rintro k3 _ f8 ⟨s3,S,hL,rfl,q,st,F,U,r6,r7,V,G⟩;rcases k3 with _|k3
   .exact cU hL
   obtain⟨f7,i,e9,e8⟩:=cV hL;clear hL;unfold uV at i;refine aF (aF (cA .normal i (fun o5 L' w'=>∃b0,L'=[(3,vS E s2.1 c9),(4,vP Z 0),(6,vP b4 0),(9,vP b7 0),(10,vI s3),(17,vS n a.2 p),(18,vI (a.2.length:Int)),(19,vI s1.2),(24,vS H g.2.2 M),(25,vI (g.2.2.length:Int)),(26,vI s2.2),(49,vB o5)]/\m.le b0/\St b0 (kB b7 (Vg s) 66::kB b6 (Va x2 b9 d1 c0 d2) 98::kB b4 (Vc g a6 c6 H M) 58::kB Z (Vl a B D n p) 94::eJ E (bY (fun x:dU=>((Vh x):List Value)) s2.1 T4) 66::kR B a.1 D 9 1::kR n a.2 p 58 3::O) w'/\RepS C6 b0 n p a.2/\RepS C5 b0 H M g.2.2/\RepS aJ b0 b9 d1 x2.2.2.1/\RepS C4 b0 c0 d2 x2.2.2.2/\RepS aJ b0 a6 c6 g.2.1/\RepS aJ b0 B D a.1) ?_ ?_))
   .rintro o5 i _ Y ⟨b0,rfl,q,st,F,U,r6,r7,V,G⟩;refine aB (aI i ?_ ?_)
    .intro A i;refine aL (aB (bB (bA (aA 3 [(10,vI (wr (s3+1)))] (aU rfl (bN ?_))))));have hL:=e9 _ (sI i);exact xE (cN ⟨wr (s3+1),b0,hL,rfl,q,st.f6.f6.f6.f6.f6.f6.f6,F,U,r6,r7,V,G⟩)
    intro A i;refine cJ (bC ?_);have ho:=e8 _ (sI i);have st:=st.f6.f6.f6.f6.f6.f6.f6;refine bC ?_;exact xE (d4 _ _ ⟨s3,b0,ho,rfl,q,st,F,U,r6,r7,V,G⟩)
   intro o5 i K;refine dK [(12,fun w'=>Inv S w'/\Piece.holds S w' (kB b7 (Vg s) 66)/\Piece.holds S w' (eJ E (bY (fun x:dU=>((Vh x):List Value)) s2.1 T4) 66)/\True)] kr st fun f9 _ st=> ?_;have Y:=S.le_refl;refine⟨⟨.inr ⟨Inv.anti st.inv Y,Piece.holds_anti st.h Y,LL st.t.t.t.t.h Y,trivial⟩,trivial⟩,?_⟩;refine aD 0 38 (vI s3) (.head _) (aD 1 39 (vS E s2.1 c9) (.head _) (aD 2 40 (vI (s2.1.length:Int)) (.head _) (aD 3 41 (vB (decide (s3<(s2.1.length:Int)))) (.head _) (aD 4 42 (vB (decide (s3<(s2.1.length:Int)))) (.head _) ?_))));rcases dJ (decide (s3<(s2.1.length:Int))) with A|A
   .rw[if_pos A] at i;refine iM (t:=42) (b:=true) (decide (s3<(s2.1.length:Int))) kr A ?_;refine aD 5 43 (vS E s2.1 c9) (.head _) (aD 6 44 (vI s3) (.head _) ?_);have⟨x3,e0,i⟩:=aZ i;refine TN (t:=50) (e:=66) (x:=(.tmp 43)) (y:=(.tmp 44)) (k:=6) 7 45 kr rfl kr (.head _) (bJ (bJ (bJ (cY (bJ (cY (bJ (bJ (cY (cY (bJ (bJ (cY (bJ eV)))))))))))))) (ev (vS E s2.1 c9)) (ev (vI s3)) kr d3 rfl e0 ?_;refine UD (t:=66) (x:=(.tmp 45)) (o:=0) (f:=(fun x:dU=>((Vh x):List Value))) (z:=x3) (v:= .agg (Vg x3)) 8 46 (fun _=>rfl) (Int.toNat s3*6) rfl kr rfl kr (.head _) (bJ (bJ (bJ (cY (bJ (cY (bJ (bJ (cY (cY (bJ (bJ (cY (bJ eV)))))))))))))) (fun _ h=>h.2.2.1) (ev (.pointer (some ⟨ab E,Int.toNat s3*6,none⟩))) d3 rfl e0 kr ?_;refine cW 66 9 9 47 0 (.agg (Vg s)) (.head _) (fun _ h=>h.2.1) (aY 10 kr (cL 48 i (fun _ h=>qCi (p0:=x3) (p1:=s) st h) ?_));rintro y4 i _ g6 ⟨f0,rfl,e5,st⟩;refine⟨_,rfl,?_⟩;have Y:=Mem.le_trans Y e5;refine⟨⟨.inr ⟨Inv.anti st.inv Y,Piece.holds_anti st.h Y,LL st.t.t.t.t.h Y,trivial⟩,trivial⟩,?_⟩;refine aD 11 49 (vB y4) (.head _) ?_;cases i
    exact cC kr (eG _ kr (K _ _ ⟨f0,rfl,q.t e5,st.f6.f6.f6.f6.f6.f6.f6,F.mono e5,U.mono e5,r6.mono e5,r7.mono e5,V.mono e5,G.mono e5⟩))
   rw[if_neg (not_true A)] at i;refine iM (t:=42) (b:=false) (decide (s3<(s2.1.length:Int))) kr A ?_;refine aW 5 43 (.head _) (aW 6 44 (.head _) (aW 7 45 (.head _) (aW 8 46 (.head _) (aW 9 47 (.head _) (aW 10 48 (.head _) (aD 11 49 (vB false) (.head _) ?_))))));cases i;exact cC kr (eG _ kr (K _ _ ⟨S,rfl,q,st.f6.f6.f6.f6.f6.f6.f6,F,U,r6,r7,V,G⟩))
  intro A i;refine cJ (bC ?_);have ho:=g9 _ (sI i);have st:=st.f4.f4.f4.f4.f4;refine bC ?_;exact xE (g3 _ _ ⟨s2.1,E,c9,T4,m7,ho,rfl,q,st,F,V,U,G,d3⟩)
 intro A i;refine cJ (bC ?_);have ho:=g8 _ (sI i);have st:=st.f3.f3.f3.f3;refine bC ?_;exact xE (g2 _ _ ⟨s1.1,a5,c5,T2,m5,ho,rfl,q,st,G,F,g7⟩)
def DQ(N:Nat)(p0:iO)(p1:iO)(s1:Int):Th:=
 if(decide (s1<(List.length p0:Int)))=true then((bV p0 s1).bind fun a=>(bV p1 s1).bind fun b=>if(!((a.1.toList==b.1.toList)&&((a.2.1.toList==b.2.1.toList)&&((a.2.2.1==b.2.2.1)&&((a.2.2.2.1.toList==b.2.2.2.1.toList)&&((a.2.2.2.2.1==b.2.2.2.2.1)&&((a.2.2.2.2.2==b.2.2.2.2.2)&&true)))))))=true then(some (.inr (.inr (false)))) else(some (.inl (IntKind.wrap .i64 (s1+1))))) else(some (.inr (.inl ())))
def DW(N:Nat)(p0:iO)(p1:iO):Ti:=
 if((List.length p0:Int) !=(List.length p1:Int))=true then(some false) else((aK (DQ N p0 p1) N 0).bind fun a=>(match a with| .inl a=>some true| .inr (z)=>some z))
theorem qBl{p0:iO}{p1:iO}{r:Bool}(st:St m (O) w)(p:RepS C7 m a1 c1 p0)(s:RepS C7 m a2 c2 p1)(i:DW N p0 p1=some r):Calls prog 25 #[vS a1 p0 c1,vS a2 p1 c2] w fun e w'=>∃m',e= .returned (vB r)/\m.le m'/\St m' (O) w':=by
 unfold DW at i;have q:=m.le_refl;refine bH func25 rfl ntmps25 ?_;refine aG 1 [] (aF ?_);refine aG 5 [(10,vB ((p0.length:Int) !=(p1.length:Int)))] (aI i ?_ ?_)
 .intro A i;refine aG 1 [(4,vB false)] (aO ?_);refine aR ?_;cases i;exact aT [4] [vB false] ⟨m,rfl,q,st⟩
 intro A i;refine aL (aB (aF (aG 3 [(12,vI (p0.length:Int)),(13,vI 0)] (bB ?_))));have⟨k,i,E⟩:=aZ i;refine dH (.exit 0) (fun L' w'=>∃(F:Unit),∃o,(.inl F)=k/\L'=[]/\m.le o/\St o (O) w') ?_ ?_
 .rintro _ a ⟨F,o,rfl,rfl,q,st⟩;have i:=E;refine cO (aB (aG 1 [(4,vB true)] (aO ?_)));cases i;exact aT [4] [vB true] ⟨o,rfl,q,st⟩
 intro l;refine cR _ kr (cQ (fun n L' w'=>∃(s1:Int),∃a,aK (DQ N p0 p1) n s1=some k/\L'=[(0,vS a1 p0 c1),(1,vS a2 p1 c2),(12,vI (p0.length:Int)),(13,vI s1)]/\m.le a/\St a (O) w'/\RepS C7 a a1 c1 p0/\RepS C7 a a2 c2 p1) N ⟨0,m,i,rfl,q,st,p,s⟩ ?_);rintro n _ V ⟨s1,a,hL,rfl,q,st,p,s⟩;rcases n with _|n
 .exact cU hL
 obtain⟨R,i,u,f⟩:=cV hL;clear hL;unfold DQ at i;refine aG 1 [(14,vB (decide (s1<(p0.length:Int))))] (aF ?_);refine aI i ?_ ?_
 .intro A i;refine aL (aB (aF (bB (aG 2 [(5,vI s1)] (aF (dK [(9,fun w'=>Inv a w'/\True)] kr st fun Y _ st=> ?_))))));have g:=a.le_refl;refine tA st g ?_;refine aD 0 16 (vS a1 p0 c1) (.head _) (aD 1 17 (vI s1) (.head _) ?_);have⟨b,B,i⟩:=aZ i;refine iU (t:=50) (e:=66) (x:=(.tmp 16)) (y:=(.tmp 17)) 2 18 C7 kr rfl kr (.head _) (bJ (cY (bJ (bJ (cY (bJ eV)))))) (ev (vS a1 p0 c1)) (ev (vI s1)) kr p B ?_;rintro S G K ⟨_,_,rfl,rfl,⟨_,_,rfl,rfl,⟨_,_,rfl,rfl,⟨_,_,rfl,rfl,⟨_,_,rfl,rfl,rfl⟩⟩⟩⟩⟩ v;refine cM 66 18 3 19 G (.agg (Vg b)) (.head _) (fun _ h=>h.1) v (aD 4 20 (vS a2 p1 c2) (.head _) (aD 5 21 (vI s1) (.head _) ?_));have⟨c,D,i⟩:=aZ i;refine iU (t:=50) (e:=66) (x:=(.tmp 20)) (y:=(.tmp 21)) 6 22 C7 kr rfl kr (.head _) (bJ (cY (bJ (bJ (cY (bJ eV)))))) (ev (vS a2 p1 c2)) (ev (vI s1)) kr s D ?_;rintro U H M ⟨_,_,rfl,rfl,⟨_,_,rfl,rfl,⟨_,_,rfl,rfl,⟨_,_,rfl,rfl,⟨_,_,rfl,rfl,rfl⟩⟩⟩⟩⟩ z
  refine cM 66 22 7 23 H (.agg (Vg c)) (.head _) (fun _ h=>h.1) z (aY 8 kr (KV (d:=24) (t:=66) (t2:=66) (x:=(.tmp 19)) (y:=(.tmp 23)) (xs:=(Vg b)) (ys:=(Vg c)) ((b.1.toList==c.1.toList)&&((b.2.1.toList==c.2.1.toList)&&((b.2.2.1==c.2.2.1)&&((b.2.2.2.1.toList==c.2.2.2.1.toList)&&((b.2.2.2.2.1==c.2.2.2.2.1)&&((b.2.2.2.2.2==c.2.2.2.2.2)&&true)))))) kr rfl (ev (.agg (Vg b))) (ev (.agg (Vg c))) kr kr kr (tA st g (cC kr (aB (aI i ?_ ?_))))))
  .intro A i;refine aG 1 [(4,vB false)] (aO ?_);refine bI (aR ?_);have ho:=f _ (sI i);subst ho;have i:=E;refine aR (bI (aR ?_));cases i;exact aT [4] [vB false] ⟨a,rfl,q,st⟩
  intro A i;refine aL (bN (aB (bA (aA 2 [(13,vI (wr (s1+1)))] (aU rfl ?_)))));have hL:=u _ (sI i);exact xE (cN ⟨wr (s1+1),a,hL,rfl,q,st,p,s⟩)
 intro A i;refine cJ (bC ?_);have ho:=f _ (sI i);refine bC ?_;exact xE (l _ _ ⟨(),a,ho,rfl,q,st⟩)
end
section
open Go Go.Dc Tryz
set_option maxHeartbeats 4000000
set_option maxRecDepth 100000
variable {N c1 c2 c3 c4 bp0:Nat} {m:Mem} {O:List Piece} {w:World} {a1 a2 a3 a4:Option Addr}
def KG(N:Nat)(y1:iO)(s1:uN):Option T32:=
 if(decide (s1.2<(List.length y1:Int)))=true then(((bV y1 s1.2).bind fun a=>(if(a.2.2.1==2)=true then(some (a.2.2.2.2.2==1)) else(some false):Ti).bind fun b=>if b=true then((dY 32 s1.1 ([(a.1,a.2.1)])).bind fun a=>some a) else(some s1.1):Tt).bind fun o2=>some (.inl (o2,IntKind.wrap .i64 (s1.2+1)))) else(some (.inr s1.1))
def xO(N:Nat)(p0:Tq):Tt:=
 (BF N p0).bind fun y1=>(aK (KG N y1) N (([]:Tq),0)).bind fun a=>some a
theorem SI{p0:Tq}{r:Tq}(st:St m (O) w)(r1:RepS C1 m a1 c1 p0)(i:xO N p0=some r):Calls prog 28 #[.agg #[vS a1 p0 c1]] w fun e w'=>∃B D m',e= .returned (vS B r D)/\m.le m'/\St m' (kR B r D 55 2::O) w'/\RepS C1 m' B D r:=by
 unfold xO at i;have q:=m.le_refl;refine bH func28 rfl ntmps28 ?_;refine aC (eA 1 28 (.agg #[vS a1 p0 c1]) st fun b1 m1 w1 Z st a7=>(aH 1 [] (aC (aH 1 [(3,v7)] (aF (aC (bW 6 (.agg #[vS a1 p0 c1]) st a7 (aM 7 i (RX st (r1.mono Z)) ?_))))))));rintro y1 i _ w2 ⟨b,d,m2,rfl,e2,st,g⟩;refine aH 2 [(8,vI (y1.length:Int)),(9,vI 0)] (bB (cA (.exit 0) i (fun k L' w'=>∃(p:Tq),∃n o z,p=k/\L'=[(3,vS n p o)]/\m.le z/\St z (kR b y1 d 66 6::kR n p o 55 2::O) w'/\RepS C1 z n o p) ?_ ?_))
 .rintro k i _ c ⟨p,n,o,z,rfl,rfl,q,st,a⟩;refine cO (aB (aV 2 [(2,vS n p o)] (aU rfl ?_)));have st:=st.t;refine aB (aO ?_);obtain rfl:=sI i;exact aT [2] [vS n p o] ⟨n,o,z,rfl,q,st,a⟩
 intro k i E;have st:=(st.nilroom 55 2).front1;refine cR _ kr (cQ (fun F L' w'=>∃(s1:uN),∃c f l,aK (KG N y1) F s1=some k/\L'=[(3,vS c s1.1 f),(7,vS b y1 d),(8,vI (y1.length:Int)),(9,vI s1.2)]/\m.le l/\St l (kR b y1 d 66 6::kR c s1.1 f 55 2::O) w'/\RepS C1 l c f s1.1/\RepS C7 l b d y1) N ⟨(([]:Tq),0),none,0,m2,i,rfl,(q.t Z).t e2,st,(RepS.nil _ _),g⟩ ?_);rintro F _ w4 ⟨s1,c,f,l,hL,rfl,q,st,v,g⟩;rcases F with _|F
 .exact cU hL
 obtain⟨b0,i,S,R⟩:=cV hL;clear hL;unfold KG at i;refine aG 1 [(10,vB (decide (s1.2<(y1.length:Int))))] (aF ?_);refine aI i ?_ ?_
 .intro A i;refine aL (aB (aF (cA .normal i (fun o2 L' w'=>∃x y s,L'=[(3,vS x o2 y),(7,vS b y1 d),(8,vI (y1.length:Int)),(9,vI s1.2)]/\m.le s/\St s (kR b y1 d 66 6::kR x o2 y 55 2::O) w'/\RepS C1 s x y o2/\RepS C7 s b d y1) ?_ ?_)))
  .rintro o2 i _ u ⟨x,y,s,rfl,q,st,a,g⟩;refine aB (bA (aA 2 [(9,vI (wr (s1.2+1)))] (aU rfl ?_)));have hL:=S _ (sI i);exact xE (cN ⟨(o2,wr (s1.2+1)),x,y,s,hL,rfl,q,st.f1.f1,a,g⟩)
  intro o2 i G;refine bB (aC (eP 11 g i ?_));rintro a i b2 f1 a9 ⟨_,_,rfl,rfl,⟨_,_,rfl,rfl,⟨_,_,rfl,rfl,⟨_,_,rfl,rfl,⟨_,_,rfl,rfl,rfl⟩⟩⟩⟩⟩ a8;refine eS 12 66 11 f1 (.agg (Vg a)) st a8 (cG 5 66 (.agg (Vf eB eB 0 eB 0 0)) st fun H w6 st=>(bM (.agg (Vg a)) st fun w7 st=>(aS (aC (dT 8 i (fun U L' w'=>∃u,L'=[(3,vS c s1.1 f),(5,vP H 0),(7,vS b y1 d),(8,vI (y1.length:Int)),(9,vI s1.2),(20,vB U)]/\m.le u/\St u (kB H (Vg a) 66::kR b y1 d 66 6::kR c s1.1 f 55 2::O) w'/\RepS C1 u c f s1.1/\RepS C7 u b d y1) ?_ ?_)))))
  .rintro U i _ w8 ⟨u,rfl,q,st,v,g⟩;refine aS (aI i ?_ ?_)
   .intro A i;refine bA (aA 2 [(21,vS c s1.1 f),(22,vP H 0)] (bG 23 (vT a.1) st.h (bK 1 25 9 24 1 (vT a.2.1) st.h (aA 1 [(26,.agg (V3 a.1 a.2.1))] (dV 27 55 1 C1 [(a.1,a.2.1)] st fun b4 m7 w9 M st r6=>(mA 28 52 52 55 32 21 27 st.f3 (.inl kr) (v.mono M) r6.src i fun l1 i V Y m8 b5 e4 st r7=>(aA 1 [(3,vS V l1 Y)] (aU rfl ?_))))))));have st:=st.f1.t;refine bN ?_;cases i;exact xE (G _ _ ⟨V,Y,m8,rfl,(q.t M).t e4,st.f1.t.f1,r7,(g.mono M).mono e4⟩)
   intro A i;refine aL (bN ?_);cases i;exact xE (G _ _ ⟨c,f,u,rfl,q,st.t.f1.f1,v,g⟩)
  intro U i K;refine bK 1 14 3 13 2 (vI a.2.2.1) st.h (aA 2 [(16,vB (a.2.2.1==2))] (cH 16 i ?_ ?_))
  .intro A i;refine bK 1 18 3 17 5 (vI a.2.2.2.2.2) st.h (aA 2 [(20,vB (a.2.2.2.2.2==1))] ?_);cases i;exact bD _ kr (K _ _ ⟨l,rfl,q,st.f2.f2.f2,v,g⟩)
  intro A i;refine aA 4 [(20,vB false)] ?_;cases i;exact bD _ kr (K _ _ ⟨l,rfl,q,st.f2.f2.f2,v,g⟩)
 intro A i;refine cJ (bC ?_);have ho:=R _ (sI i);have st:=st.f1.f1;refine bC ?_;exact xE (E _ _ ⟨s1.1,c,f,l,ho,rfl,q,st,v⟩)
def JS(N:Nat)(y1:iO)(s1:uN):Option T32:=
 if(decide (s1.2<(List.length y1:Int)))=true then(((bV y1 s1.2).bind fun a=>(if(a.2.2.1==2)=true then(some (a.2.2.2.2.2==1)) else(some false):Ti).bind fun b=>if b=true then((dY 32 s1.1 ([(a.1,a.2.1)])).bind fun a=>some a) else(some s1.1):Tt).bind fun o2=>some (.inl (o2,IntKind.wrap .i64 (s1.2+1)))) else(some (.inr s1.1))
def FI(N:Nat)(p0:Tq):Tt:=
 (AA N p0).bind fun y1=>(aK (JS N y1) N (([]:Tq),0)).bind fun a=>some a
theorem qCn{p0:Tq}{r:Tq}(st:St m (O) w)(r1:RepS C1 m a1 c1 p0)(i:FI N p0=some r):Calls prog 29 #[.agg #[vS a1 p0 c1]] w fun e w'=>∃B D m',e= .returned (vS B r D)/\m.le m'/\St m' (kR B r D 55 2::O) w'/\RepS C1 m' B D r:=by
 unfold FI at i;have q:=m.le_refl;refine bH func29 rfl ntmps29 ?_;refine aC (eA 1 28 (.agg #[vS a1 p0 c1]) st fun b1 m1 w1 Z st a7=>(aH 1 [] (aC (aH 1 [(3,v7)] (aF (aC (bW 6 (.agg #[vS a1 p0 c1]) st a7 (aM 7 i (RH st (r1.mono Z)) ?_))))))));rintro y1 i _ w2 ⟨b,d,m2,rfl,e2,st,g⟩;refine aH 2 [(8,vI (y1.length:Int)),(9,vI 0)] (bB (cA (.exit 0) i (fun k L' w'=>∃(p:Tq),∃n o z,p=k/\L'=[(3,vS n p o)]/\m.le z/\St z (kR b y1 d 66 6::kR n p o 55 2::O) w'/\RepS C1 z n o p) ?_ ?_))
 .rintro k i _ c ⟨p,n,o,z,rfl,rfl,q,st,a⟩;refine cO (aB (aV 2 [(2,vS n p o)] (aU rfl ?_)));have st:=st.t;refine aB (aO ?_);obtain rfl:=sI i;exact aT [2] [vS n p o] ⟨n,o,z,rfl,q,st,a⟩
 intro k i E;have st:=(st.nilroom 55 2).front1;refine cR _ kr (cQ (fun F L' w'=>∃(s1:uN),∃c f l,aK (JS N y1) F s1=some k/\L'=[(3,vS c s1.1 f),(7,vS b y1 d),(8,vI (y1.length:Int)),(9,vI s1.2)]/\m.le l/\St l (kR b y1 d 66 6::kR c s1.1 f 55 2::O) w'/\RepS C1 l c f s1.1/\RepS C7 l b d y1) N ⟨(([]:Tq),0),none,0,m2,i,rfl,(q.t Z).t e2,st,(RepS.nil _ _),g⟩ ?_);rintro F _ w4 ⟨s1,c,f,l,hL,rfl,q,st,v,g⟩;rcases F with _|F
 .exact cU hL
 obtain⟨b0,i,S,R⟩:=cV hL;clear hL;unfold JS at i;refine aG 1 [(10,vB (decide (s1.2<(y1.length:Int))))] (aF ?_);refine aI i ?_ ?_
 .intro A i;refine aL (aB (aF (cA .normal i (fun o2 L' w'=>∃x y s,L'=[(3,vS x o2 y),(7,vS b y1 d),(8,vI (y1.length:Int)),(9,vI s1.2)]/\m.le s/\St s (kR b y1 d 66 6::kR x o2 y 55 2::O) w'/\RepS C1 s x y o2/\RepS C7 s b d y1) ?_ ?_)))
  .rintro o2 i _ u ⟨x,y,s,rfl,q,st,a,g⟩;refine aB (bA (aA 2 [(9,vI (wr (s1.2+1)))] (aU rfl ?_)));have hL:=S _ (sI i);exact xE (cN ⟨(o2,wr (s1.2+1)),x,y,s,hL,rfl,q,st.f1.f1,a,g⟩)
  intro o2 i G;refine bB (aC (eP 11 g i ?_));rintro a i b2 f1 a9 ⟨_,_,rfl,rfl,⟨_,_,rfl,rfl,⟨_,_,rfl,rfl,⟨_,_,rfl,rfl,⟨_,_,rfl,rfl,rfl⟩⟩⟩⟩⟩ a8;refine eS 12 66 11 f1 (.agg (Vg a)) st a8 (cG 5 66 (.agg (Vf eB eB 0 eB 0 0)) st fun H w6 st=>(bM (.agg (Vg a)) st fun w7 st=>(aS (aC (dT 8 i (fun U L' w'=>∃u,L'=[(3,vS c s1.1 f),(5,vP H 0),(7,vS b y1 d),(8,vI (y1.length:Int)),(9,vI s1.2),(20,vB U)]/\m.le u/\St u (kB H (Vg a) 66::kR b y1 d 66 6::kR c s1.1 f 55 2::O) w'/\RepS C1 u c f s1.1/\RepS C7 u b d y1) ?_ ?_)))))
  .rintro U i _ w8 ⟨u,rfl,q,st,v,g⟩;refine aS (aI i ?_ ?_)
   .intro A i;refine bA (aA 2 [(21,vS c s1.1 f),(22,vP H 0)] (bG 23 (vT a.1) st.h (bK 1 25 9 24 1 (vT a.2.1) st.h (aA 1 [(26,.agg (V3 a.1 a.2.1))] (dV 27 55 1 C1 [(a.1,a.2.1)] st fun b4 m7 w9 M st r6=>(mA 28 52 52 55 32 21 27 st.f3 (.inl kr) (v.mono M) r6.src i fun l1 i V Y m8 b5 e4 st r7=>(aA 1 [(3,vS V l1 Y)] (aU rfl ?_))))))));have st:=st.f1.t;refine bN ?_;cases i;exact xE (G _ _ ⟨V,Y,m8,rfl,(q.t M).t e4,st.f1.t.f1,r7,(g.mono M).mono e4⟩)
   intro A i;refine aL (bN ?_);cases i;exact xE (G _ _ ⟨c,f,u,rfl,q,st.t.f1.f1,v,g⟩)
  intro U i K;refine bK 1 14 3 13 2 (vI a.2.2.1) st.h (aA 2 [(16,vB (a.2.2.1==2))] (cH 16 i ?_ ?_))
  .intro A i;refine bK 1 18 3 17 5 (vI a.2.2.2.2.2) st.h (aA 2 [(20,vB (a.2.2.2.2.2==1))] ?_);cases i;exact bD _ kr (K _ _ ⟨l,rfl,q,st.f2.f2.f2,v,g⟩)
  intro A i;refine aA 4 [(20,vB false)] ?_;cases i;exact bD _ kr (K _ _ ⟨l,rfl,q,st.f2.f2.f2,v,g⟩)
 intro A i;refine cJ (bC ?_);have ho:=R _ (sI i);have st:=st.f1.f1;refine bC ?_;exact xE (E _ _ ⟨s1.1,c,f,l,ho,rfl,q,st,v⟩)
def FV(N:Nat)(p0:Tq)(p1:BA)(s1:dM):Option (dM⊕Int):=
 if(decide (s1.1<s1.2))=true then((bV p0 (IntKind.wrap .i64 (Int.fdiv (IntKind.wrap .u64 (IntKind.wrap .i64 (s1.1+s1.2))) (2^1)))).bind fun a=>if(!(!Op.bytesLess a.1.toList p1.toList))=true then(some (.inl (IntKind.wrap .i64 ((IntKind.wrap .i64 (Int.fdiv (IntKind.wrap .u64 (IntKind.wrap .i64 (s1.1+s1.2))) (2^1)))+1),s1.2))) else(some (.inl (s1.1,IntKind.wrap .i64 (Int.fdiv (IntKind.wrap .u64 (IntKind.wrap .i64 (s1.1+s1.2))) (2^1)))))) else(some (.inr s1.1))
def GK(N:Nat)(p0:Tq)(p1:BA):Option (Int×Bool):=
 ((aK (FV N p0 p1) N (0,(List.length p0:Int))).bind fun o2=>some o2:Ta).bind fun a=>(if(decide (a<(List.length p0:Int)))=true then((bV p0 a).bind fun b=>some (b.1.toList==p1.toList)) else(some false):Ti).bind fun b=>some (a,b)
theorem qDy{p0:Tq}{p1:BA}{r:Int×Bool}(st:St m (O) w)(d:RepS C1 m a1 c1 p0)(i:GK N p0 p1=some r):Calls prog 81 #[.agg #[vS a1 p0 c1],vT p1] w fun e w'=>∃m',e= .returned (.tuple #[vI r.1,vB r.2])/\m.le m'/\St m' (O) w':=by
 unfold GK at i;have q:=m.le_refl;refine bH func81 rfl ntmps81 ?_;refine aC (bQ rfl (pK 2 28 0 (.agg #[vS a1 p0 c1]) st fun c R st=>(bQ rfl (pK 3 9 1 (vT p1) st fun f S st=>(aH 2 [] (aC (bK 1 8 26 7 0 (vS a1 p0 c1) st.t.h (aA 2 [(9,vI (p0.length:Int)),(10,.func (.func 120) #[] #[vP c 0,vP f 0])] ?_))))))));have⟨a,i,G⟩:=aZ i;refine bQ rfl (mH 11 119 #[vI (p0.length:Int),.func (.func 120) #[] #[vP c 0,vP f 0]] kr rfl (NV (fun v' w'=>∃k,v'=(vI a)/\m.le k/\St k (kB f #[vT p1] 9::kB c #[vS a1 p0 c1] 28::O) w'/\RepS C1 k a1 c1 p0) ?_ ?_))
 .have i:=G;rintro _ B ⟨k,rfl,q,st,d⟩;refine⟨_,rfl,?_⟩;refine aH 1 [(6,vI a)] (aF (cA .normal i (fun n L' w'=>∃l,L'=[(4,vI a),(5,vB n)]/\m.le l/\St l (kB f #[vT p1] 9::kB c #[vS a1 p0 c1] 28::O) w'/\RepS C1 l a1 c1 p0) ?_ ?_))
  .rintro n i _ g ⟨l,rfl,q,st,d⟩;refine aB (aO ?_);obtain rfl:=sI i;exact aT [4,5] [vI a,vB n] ⟨l,rfl,q,st.t.t⟩
  intro n i K;refine dK [(18,fun w'=>Inv k w'/\Piece.holds k w' (kB f #[vT p1] 9)/\Piece.holds k w' (kB c #[vS a1 p0 c1] 28)/\True)] kr st fun D _ st=> ?_;have g:=k.le_refl;refine⟨⟨.inr ⟨Inv.anti st.inv g,Piece.holds_anti st.h g,Piece.holds_anti st.t.h g,trivial⟩,trivial⟩,?_⟩;refine aD 0 12 (vI a) (.head _) (aD 1 13 (vI a) (.head _) (aD 2 14 (vP c 0) (.head _) (cW 26 14 3 15 0 (vS a1 p0 c1) (.head _) (fun _ h=>h.2.2.1) (aD 4 16 (vI (p0.length:Int)) (.head _) (aD 5 17 (vB (decide (a<(p0.length:Int)))) (.head _) (aD 6 18 (vB (decide (a<(p0.length:Int)))) (.head _) ?_))))));rcases dJ (decide (a<(p0.length:Int))) with A|A
  .rw[if_pos A] at i;refine iM (t:=18) (b:=true) (decide (a<(p0.length:Int))) kr A ?_;refine aD 7 19 (vP c 0) (.head _) (cW 26 19 8 20 0 (vS a1 p0 c1) (.head _) (fun _ h=>h.2.2.1) (aD 9 21 (vI a) (.head _) ?_));have⟨o,u,i⟩:=aZ i;refine iU (t:=26) (e:=42) (x:=(.tmp 20)) (y:=(.tmp 21)) 10 22 C1 kr rfl kr (.head _) (bJ eV) (ev (vS a1 p0 c1)) (ev (vI a)) kr d u ?_;rintro v p z ⟨_,_,rfl,rfl,rfl⟩ s;refine aD 11 23 (vP v p) (.head _) (cM 9 23 12 24 p (vT o.1) (.head _) (fun _ h=>h.1) s (cW 9 3 13 25 0 (vT p1) (.head _) (fun _ h=>h.2.1) (aD 14 26 (vB (o.1.toList==p1.toList)) (.head _) (aD 15 27 (vB (o.1.toList==p1.toList)) (.head _) (aD 16 4 (vI a) (.head _) (aD 17 5 (vB (o.1.toList==p1.toList)) (.head _) ?_))))));cases i;exact cC kr (eG _ kr (K _ _ ⟨k,rfl,q,st.f1.f1,d⟩))
  rw[if_neg (not_true A)] at i;refine iM (t:=18) (b:=false) (decide (a<(p0.length:Int))) kr A ?_;refine aW 7 19 (.head _) (aW 8 20 (.head _) (aW 9 21 (.head _) (aW 10 22 (.head _) (aW 11 23 (.head _) (aW 12 24 (.head _) (aW 13 25 (.head _) (aW 14 26 (.head _) (aD 15 27 (vB false) (.head _) (aD 16 4 (vI a) (.head _) (aD 17 5 (vB false) (.head _) ?_))))))))));cases i;exact cC kr (eG _ kr (K _ _ ⟨k,rfl,q,st.f1.f1,d⟩))
 refine bH func119 rfl ntmps119 ?_;refine aG 1 [] (aC ?_);refine aH 3 [(5,vI 0),(6,vI (p0.length:Int))] (aF (bB (cA (.exit 0) i (fun l L' w'=>∃(o2:Int),∃p,o2=l/\L'=[(5,vI o2)]/\m.le p/\St p (kB f #[vT p1] 9::kB c #[vS a1 p0 c1] 28::O) w'/\RepS C1 p a1 c1 p0) ?_ ?_)))
 .rintro l i _ g ⟨o2,p,rfl,rfl,q,st,d⟩;refine cO (aB (aG 2 [(4,vI o2)] (aO ?_)));obtain rfl:=sI i;exact aT [4] [vI o2] ⟨_,rfl,⟨p,rfl,q,st.f1.f1,d⟩⟩
 intro l i u;refine cR _ kr (cQ (fun v L' w'=>∃(s1:dM),∃g,aK (FV N p0 p1) v s1=some l/\L'=[(1,.func (.func 120) #[] #[vP c 0,vP f 0]),(5,vI s1.1),(6,vI s1.2)]/\m.le g/\St g (kB f #[vT p1] 9::kB c #[vS a1 p0 c1] 28::O) w'/\RepS C1 g a1 c1 p0) N ⟨(0,(p0.length:Int)),m,i,rfl,q,st.f1.f1,d⟩ ?_);rintro v _ U ⟨s1,g,hL,rfl,q,st,d⟩;rcases v with _|v
 .exact cU hL
 obtain⟨M,i,o,z⟩:=cV hL;clear hL;unfold FV at i;refine aF (aG 3 [(11,vB (decide (s1.1<s1.2)))] (aI i ?_ ?_))
 .intro A i;refine aL (aB (bB (aG 7 [(7,vI (wr (Int.fdiv (IntKind.wrap .u64 (wr (s1.1+s1.2))) (2^1))))] (aC (aA 2 [(18,.func (.func 120) #[] #[vP c 0,vP f 0]),(19,vI (wr (Int.fdiv (IntKind.wrap .u64 (wr (s1.1+s1.2))) (2^1))))] (bQ rfl (mH 20 120 #[vI (wr (Int.fdiv (IntKind.wrap .u64 (wr (s1.1+s1.2))) (2^1))),vP c 0,vP f 0] kr rfl (bH func120 rfl ntmps120 (aG 1 [] (aF (dK [(9,fun w'=>Inv g w'/\Piece.holds g w' (kB f #[vT p1] 9)/\Piece.holds g w' (kB c #[vS a1 p0 c1] 28)/\True)] kr st fun V _ st=> ?_)))))))))));have n:=g.le_refl;refine⟨⟨.inr ⟨Inv.anti st.inv n,Piece.holds_anti st.h n,Piece.holds_anti st.t.h n,trivial⟩,trivial⟩,?_⟩;refine aD 0 5 (vP c 0) (.head _) (cW 26 5 1 6 0 (vS a1 p0 c1) (.head _) (fun _ h=>h.2.2.1) (aD 2 7 (vI (wr (Int.fdiv (IntKind.wrap .u64 (wr (s1.1+s1.2))) (2^1)))) (.head _) ?_));have⟨s,E,i⟩:=aZ i;refine iU (t:=26) (e:=42) (x:=(.tmp 6)) (y:=(.tmp 7)) 3 8 C1 kr rfl kr (.head _) (bJ eV) (ev (vS a1 p0 c1)) (ev (vI (wr (Int.fdiv (IntKind.wrap .u64 (wr (s1.1+s1.2))) (2^1))))) kr d E ?_;rintro F B H ⟨_,_,rfl,rfl,rfl⟩ D
  refine aD 4 9 (vP F B) (.head _) (cM 9 9 5 10 B (vT s.1) (.head _) (fun _ h=>h.1) D (cW 9 2 6 11 0 (vT p1) (.head _) (fun _ h=>h.2.1) (aD 7 12 (vB (!Op.bytesLess s.1.toList p1.toList)) (.head _) (aD 8 4 (vB (!Op.bytesLess s.1.toList p1.toList)) (.head _) (cC kr (aB (aO (aT [4] [vB (!Op.bytesLess s.1.toList p1.toList)] (⟨_,rfl,?_⟩)))))))));refine aH 1 [(21,vB (!(!Op.bytesLess s.1.toList p1.toList)))] (aI i ?_ ?_)
  .intro A i;refine bA (aA 3 [(5,vI (wr ((wr (Int.fdiv (IntKind.wrap .u64 (wr (s1.1+s1.2))) (2^1)))+1)))] (aU rfl (bN ?_)));have hL:=o _ (sI i);exact xE (cN ⟨(wr ((wr (Int.fdiv (IntKind.wrap .u64 (wr (s1.1+s1.2))) (2^1)))+1),s1.2),g,hL,rfl,q,st.f1.f1,d⟩)
  intro A i;refine bA (aA 2 [(6,vI (wr (Int.fdiv (IntKind.wrap .u64 (wr (s1.1+s1.2))) (2^1))))] (aU rfl (bN ?_)));have hL:=o _ (sI i);exact xE (cN ⟨(s1.1,wr (Int.fdiv (IntKind.wrap .u64 (wr (s1.1+s1.2))) (2^1))),g,hL,rfl,q,st.f1.f1,d⟩)
 intro A i;refine cJ (bC ?_);have ho:=z _ (sI i);have st:=st.f1.f1;refine bC ?_;exact xE (u _ _ ⟨s1.1,g,ho,rfl,q,st,d⟩)
def GA(N:Nat)(p0:Tq)(p1:BA):Option uM:=
 (FY N p0).bind fun y1=>if(y1 !=0)=true then(some ((⟨#[]⟩:BA),false)) else((GK N p0 p1).bind fun a=>if(!a.2)=true then(some ((⟨#[]⟩:BA),false)) else((bV p0 a.1).bind fun a=>some (a.2,true)))
theorem qDv{p0:Tq}{p1:BA}{r:uM}(st:St m (O) w)(c:RepS C1 m a1 c1 p0)(i:GA N p0 p1=some r):Calls prog 60 #[.agg #[vS a1 p0 c1],vT p1] w fun e w'=>∃m',e= .returned (.tuple #[vT r.1,vB r.2])/\m.le m'/\St m' (O) w':=by
 unfold GA at i;have q:=m.le_refl;refine bH func60 rfl ntmps60 ?_;refine aC (eA 2 28 (.agg #[vS a1 p0 c1]) st fun n v x h st b=> ?_);have c:=c.mono h;refine aH 2 [] (aF (aC (bW 8 (.agg #[vS a1 p0 c1]) st b (aM 9 i (BD st c) ?_))));rintro y1 i _ y ⟨s,rfl,a,st⟩;have q:=(q.t h).t a;refine aH 1 [(10,vB (y1 !=0))] (aI i ?_ ?_)
 .intro A i;refine aG 2 [(4,vT eB),(5,vB false)] (aO ?_);refine aR ?_;cases i;exact aT [4,5] [vT eB,vB false] ⟨s,rfl,q,st⟩
 intro A i;refine aL (aB (aC (bW 12 (.agg #[vS a1 p0 c1]) st (b.mono a) (aA 1 [(13,vT p1)] (aM 14 i (qDy st (c.mono a)) ?_)))));rintro f i _ z ⟨l,rfl,d,st⟩;refine aH 5 [(6,vI f.1),(7,vB f.2)] (aF (aG 2 [(18,vB (!f.2))] (aI i ?_ ?_)))
 .intro A i;refine aG 2 [(4,vT eB),(5,vB false)] (aO ?_);refine aR ?_;cases i;exact aT [4,5] [vT eB,vB false] ⟨l,rfl,q.t d,st⟩
 intro A i;refine aL (aB (aV 1 [(19,vP n 0)] (bW 20 (vS a1 p0 c1) st ((b.mono a).mono d) (aA 1 [(21,vI f.1)] (eP 22 ((c.mono a).mono d) i ?_)))));rintro g i o p u ⟨_,_,rfl,rfl,rfl⟩ k;refine aA 1 [(23,.pointer (some ⟨o,p+1,none⟩))] (bW 24 (vT g.2) st (k.drop 1) (aH 2 [(4,vT g.2),(5,vB true)] (aO ?_)));cases i;exact aT [4,5] [vT g.2,vB true] ⟨l,rfl,q.t d,st⟩
def BJ(N:Nat)(p0:Tq)(p1:BA):Option (lX×Bool):=
 (GA N p0 p1).bind fun y1=>(if(!y1.2)=true then(some true) else((BG N p1).bind fun a=>some (!a)):Ti).bind fun a=>if a=true then(some (((⟨#[]⟩:BA),([]:T8),([]:dZ)),false)) else((BR N y1.1).bind fun a=>some (a.1,a.2.2==0))
theorem SD{p0:Tq}{p1:BA}{r:lX×Bool}(st:St m (O) w)(D:RepS C1 m a1 c1 p0)(i:BJ N p0 p1=some r):Calls prog 30 #[.agg #[vS a1 p0 c1],vT p1] w fun e w'=>∃g l k n m',e= .returned (.tuple #[.agg (Vc r.1 g l k n),vB r.2])/\m.le m'/\St m' (kR g r.1.2.1 l 9 1::kR k r.1.2.2 n 98 4::O) w'/\P4 m' g l k n r.1.2:=by
 unfold BJ at i;have q:=m.le_refl;refine bH func30 rfl ntmps30 ?_;refine aC (eA 2 28 (.agg #[vS a1 p0 c1]) st fun H R S p st x=>(cG 4 58 (.agg #[vT eB,v6,v6]) st fun u U st=>(aH 1 [] (aC (bW 12 (.agg #[vS a1 p0 c1]) st x (aA 1 [(13,vT p1)] (aM 14 i (qDv st (D.mono p)) ?_)))))));rintro y1 i _ V ⟨z,rfl,v,st⟩;refine aH 5 [(6,vT y1.1),(7,vB y1.2)] (aF (aC (dT 7 i (fun s L' w'=>∃o,L'=[(4,vP u 0),(6,vT y1.1),(23,vB s)]/\m.le o/\St o (kB u #[vT eB,v2,vc] 58::O) w') ?_ ?_)))
 .rintro s i _ Y ⟨o,rfl,q,st⟩;refine aS (aI i ?_ ?_)
  .intro A i;refine aV 1 [(24,.agg #[vT eB,v2,vc])] ?_;refine bM (.agg #[vT eB,v2,vc]) st fun a st=> ?_;refine aH 1 [(5,vB false)] (aO (aR ?_));cases i;refine dO 4 58 [5] [vB false] st.h ?_;have st:=(st.nilroom 9 1).nilroom 98 4;exact⟨none,0,none,0,o,rfl,q,st.f2.t.f1,(RepS.nil _ _),(RepS.nil _ _)⟩
  intro A i;refine aL (aB (aV 1 [(26,vT y1.1)] (aM 27 i (SN st) ?_)));rintro a i _ Z ⟨b,d,c,f,B,rfl,y,st,E,F⟩;refine aA 4 [(28,.agg (Vc a.1 b d c f)),(29,vI a.2.1),(30,vI a.2.2)] (cG 8 58 (.agg #[vT eB,v6,v6]) st fun M w8 st=>(bM (.agg (Vc a.1 b d c f)) st fun w9 st=>(aH 2 [(10,vI a.2.2)] (aC (bG 31 (.agg (Vc a.1 b d c f)) st.h (aA 2 [(33,vB (a.2.2==0))] (bM (.agg (Vc a.1 b d c f)) st.f3 fun G st=>(aH 1 [(5,vB (a.2.2==0))] (aO ?_)))))))));obtain rfl:=sI i;refine dO 4 58 [5] [vB (a.2.2==0)] st.h ?_;exact⟨b,d,c,f,B,rfl,q.t y,st.t.t.f1.f1,E,F⟩
 intro s i K;refine aA 3 [(19,vB (!y1.2))] (cH 19 i ?_ ?_)
 .intro A i;refine aA 4 [(23,vB true)] ?_;cases i;exact bD _ kr (K _ _ ⟨z,rfl,(q.t p).t v,st⟩)
 intro A i;refine aA 1 [(20,vT p1)] (aM 21 i (RW st) ?_);rintro c i _ d ⟨b,rfl,a,st⟩;refine aA 2 [(23,vB (!c))] ?_;cases i;exact bD _ kr (K _ _ ⟨b,rfl,((q.t p).t v).t a,st⟩)
def DX(N:Nat)(p0:T8)(p1:T8)(s1:Int):Th:=
 if(decide (s1<(List.length p0:Int)))=true then((bV p0 s1).bind fun a=>(bV p1 s1).bind fun b=>if(!(a.toList==b.toList))=true then(some (.inr (.inr (false)))) else(some (.inl (IntKind.wrap .i64 (s1+1))))) else(some (.inr (.inl ())))
def zV(N:Nat)(p0:T8)(p1:T8):Ti:=
 if((List.length p0:Int) !=(List.length p1:Int))=true then(some false) else((aK (DX N p0 p1) N 0).bind fun a=>(match a with| .inl a=>some true| .inr (z)=>some z))
theorem RF{p0:T8}{p1:T8}{r:Bool}(st:St m (O) w)(k:RepS aJ m a1 c1 p0)(l:RepS aJ m a2 c2 p1)(i:zV N p0 p1=some r):Calls prog 65 #[vS a1 p0 c1,vS a2 p1 c2] w fun e w'=>∃m',e= .returned (vB r)/\m.le m'/\St m' (O) w':=by
 unfold zV at i;have q:=m.le_refl;refine bH func65 rfl ntmps65 ?_;refine aG 1 [] (aF ?_);refine aG 5 [(10,vB ((p0.length:Int) !=(p1.length:Int)))] (aI i ?_ ?_)
 .intro A i;refine aG 1 [(4,vB false)] (aO ?_);refine aR ?_;cases i;exact aT [4] [vB false] ⟨m,rfl,q,st⟩
 intro A i;refine aL (aB (aF (aG 3 [(12,vI (p0.length:Int)),(13,vI 0)] (bB ?_))));have⟨c,i,z⟩:=aZ i;refine dH (.exit 0) (fun L' w'=>∃(B:Unit),∃g,(.inl B)=c/\L'=[]/\m.le g/\St g (O) w') ?_ ?_
 .rintro _ a ⟨B,g,rfl,rfl,q,st⟩;have i:=z;refine cO (aB (aG 1 [(4,vB true)] (aO ?_)));cases i;exact aT [4] [vB true] ⟨g,rfl,q,st⟩
 intro d;refine cR _ kr (cQ (fun f L' w'=>∃(s1:Int),∃a,aK (DX N p0 p1) f s1=some c/\L'=[(0,vS a1 p0 c1),(1,vS a2 p1 c2),(12,vI (p0.length:Int)),(13,vI s1)]/\m.le a/\St a (O) w'/\RepS aJ a a1 c1 p0/\RepS aJ a a2 c2 p1) N ⟨0,m,i,rfl,q,st,k,l⟩ ?_);rintro f _ U ⟨s1,a,hL,rfl,q,st,k,l⟩;rcases f with _|f
 .exact cU hL
 obtain⟨M,i,n,b⟩:=cV hL;clear hL;unfold DX at i;refine aG 1 [(14,vB (decide (s1<(p0.length:Int))))] (aF ?_);refine aI i ?_ ?_
 .intro A i;refine aL (aB (aF (bB (aG 2 [(5,vI s1)] (aF (dK [(9,fun w'=>Inv a w'/\True)] kr st fun V _ st=> ?_))))));have o:=a.le_refl;refine tA st o ?_;refine aD 0 16 (vS a1 p0 c1) (.head _) (aD 1 17 (vI s1) (.head _) ?_);have⟨D,u,i⟩:=aZ i;refine iU (t:=35) (e:=9) (x:=(.tmp 16)) (y:=(.tmp 17)) 2 18 aJ kr rfl kr (.head _) (bJ (cY (bJ (bJ (cY (bJ eV)))))) (ev (vS a1 p0 c1)) (ev (vI s1)) kr k u ?_;rintro R F H rfl p;refine cM 9 18 3 19 F (vT D) (.head _) (fun _ h=>h.1) p (aD 4 20 (vS a2 p1 c2) (.head _) (aD 5 21 (vI s1) (.head _) ?_));have⟨E,v,i⟩:=aZ i;refine iU (t:=35) (e:=9) (x:=(.tmp 20)) (y:=(.tmp 21)) 6 22 aJ kr rfl kr (.head _) (bJ (cY (bJ (bJ (cY (bJ eV)))))) (ev (vS a2 p1 c2)) (ev (vI s1)) kr l v ?_;rintro S G K rfl s;refine cM 9 22 7 23 G (vT E) (.head _) (fun _ h=>h.1) s (aD 8 24 (vB (!(D.toList==E.toList))) (.head _) (cC kr (aB (aI i ?_ ?_))))
  .intro A i;refine aG 1 [(4,vB false)] (aO ?_);refine bI (aR ?_);have ho:=b _ (sI i);subst ho;have i:=z;refine aR (bI (aR ?_));cases i;exact aT [4] [vB false] ⟨a,rfl,q,st⟩
  intro A i;refine aL (bN (aB (bA (aA 2 [(13,vI (wr (s1+1)))] (aU rfl ?_)))));have hL:=n _ (sI i);exact xE (cN ⟨wr (s1+1),a,hL,rfl,q,st,k,l⟩)
 intro A i;refine cJ (bC ?_);have ho:=b _ (sI i);refine bC ?_;exact xE (d _ _ ⟨(),a,ho,rfl,q,st⟩)
def zO(N:Nat)(p0:sD)(p1:sD)(s1:Int):Th:=
 if(decide (s1<(List.length p0.2.2.2.2:Int)))=true then((bV p0.2.2.2.2 s1).bind fun a=>(bV p1.2.2.2.2 s1).bind fun b=>if(a !=b)=true then(some (.inr (.inr (false)))) else(some (.inl (IntKind.wrap .i64 (s1+1))))) else(some (.inr (.inl ())))
def EL(N:Nat)(p0:sD)(p1:sD):Ti:=
 (if(p0.1 !=p1.1)=true then(some true) else(if(p0.2.1 !=p1.2.1)=true then(some true) else(if(p0.2.2.1 !=p1.2.2.1)=true then(some true) else(if(!(p0.2.2.2.1.toList==p1.2.2.2.1.toList))=true then(some true) else(some ((List.length p0.2.2.2.2:Int) !=(List.length p1.2.2.2.2:Int)))))):Ti).bind fun a=>if a=true then(some false) else((aK (zO N p0 p1) N 0).bind fun a=>(match a with| .inl o2=>some true| .inr (z)=>some z))
theorem qBx{p0:sD}{p1:sD}{r:Bool}(st:St m (O) w)(d:RepS (aX .i64) m a1 c1 p0.2.2.2.2)(f:RepS (aX .i64) m a2 c2 p1.2.2.2.2)(i:EL N p0 p1=some r):Calls prog 95 #[.agg (V8 p0 a1 c1),.agg (V8 p1 a2 c2)] w fun e w'=>∃m',e= .returned (vB r)/\m.le m'/\St m' (O) w':=by
 unfold EL at i;have q:=m.le_refl;refine bH func95 rfl ntmps95 ?_;refine aC (eA 2 143 (.agg (V8 p0 a1 c1)) st fun g m1 w1 B st a=>(eA 3 143 (.agg (V8 p1 a2 c2)) st fun k o w2 u st b=> ?_));have q:=(q.t B).t u;have d:=(d.mono B).mono u;have f:=(f.mono B).mono u;have a:=a.mono u;refine aH 1 [] (aF (aC (dT 35 i (fun F L' w'=>∃l,L'=[(2,vP g 0),(3,vP k 0),(40,vB F)]/\m.le l/\St l (O) w'/\MRow l g 0 (V9 p0 a1 c1)/\RepS (aX .i64) l a1 c1 p0.2.2.2.2/\MRow l k 0 (V9 p1 a2 c2)/\RepS (aX .i64) l a2 c2 p1.2.2.2.2) ?_ ?_)))
 .rintro F i _ w3 ⟨l,rfl,q,st,a,d,b,f⟩;refine aS (aI i ?_ ?_)
  .intro A i;refine aG 1 [(4,vB false)] (aO ?_);refine aR ?_;cases i;exact aT [4] [vB false] ⟨l,rfl,q,st⟩
  intro A i;refine aL (aB (aF (aV 1 [(41,vP g 4)] (bW 42 (vS a1 p0.2.2.2.2 c1) st (a.drop 4) (aH 2 [(43,vI (p0.2.2.2.2.length:Int)),(44,vI 0)] (bB ?_))))));have⟨p,i,S⟩:=aZ i;refine dH (.exit 0) (fun L' w'=>∃(o2:Unit),∃z,(.inl o2)=p/\L'=[]/\m.le z/\St z (O) w') ?_ ?_
  .rintro _ c ⟨o2,z,rfl,rfl,q,st⟩;have i:=S;refine cO (aB (aG 1 [(4,vB true)] (aO ?_)));cases i;exact aT [4] [vB true] ⟨z,rfl,q,st⟩
  intro s;refine cR _ kr (cQ (fun v L' w'=>∃(s1:Int),∃c,aK (zO N p0 p1) v s1=some p/\L'=[(2,vP g 0),(3,vP k 0),(43,vI (p0.2.2.2.2.length:Int)),(44,vI s1)]/\m.le c/\St c (O) w'/\MRow c g 0 (V9 p0 a1 c1)/\RepS (aX .i64) c a1 c1 p0.2.2.2.2/\MRow c k 0 (V9 p1 a2 c2)/\RepS (aX .i64) c a2 c2 p1.2.2.2.2) N ⟨0,l,i,rfl,q,st,a,d,b,f⟩ ?_);rintro v _ w5 ⟨s1,c,hL,rfl,q,st,a,d,b,f⟩;rcases v with _|v
  .exact cU hL
  obtain⟨a7,i,D,n⟩:=cV hL;clear hL;unfold zO at i;refine aG 1 [(45,vB (decide (s1<(p0.2.2.2.2.length:Int))))] (aF ?_);refine aI i ?_ ?_
  .intro A i;refine aL (aB (aF (bB (aG 2 [(5,vI s1)] (aF (dK [(11,fun w'=>Inv c w'/\True)] kr st fun w6 _ st=> ?_))))));have E:=c.le_refl;refine tA st E ?_;refine aD 0 47 (vP g 4) (.head _) (cM 22 47 1 48 4 (vS a1 p0.2.2.2.2 c1) (.head _) (fun _ h=>h.1) (a.drop 4) (aD 2 49 (vI s1) (.head _) ?_));have⟨U,M,i⟩:=aZ i;refine iU (t:=22) (e:=3) (x:=(.tmp 48)) (y:=(.tmp 49)) 3 50 (aX .i64) kr rfl kr (.head _) (bJ (cY (bJ (bJ (cY (bJ eV)))))) (ev (vS a1 p0.2.2.2.2 c1)) (ev (vI s1)) kr d M ?_;rintro b3 Y a5 rfl G;refine cM 3 50 4 51 Y (vI U) (.head _) (fun _ h=>h.1) G (aD 5 52 (vP k 4) (.head _) (cM 22 52 6 53 4 (vS a2 p1.2.2.2.2 c2) (.head _) (fun _ h=>h.1) (b.drop 4) (aD 7 54 (vI s1) (.head _) ?_)));have⟨V,R,i⟩:=aZ i;refine iU (t:=22) (e:=3) (x:=(.tmp 53)) (y:=(.tmp 54)) 8 55 (aX .i64) kr rfl kr (.head _) (bJ (cY (bJ (bJ (cY (bJ eV)))))) (ev (vS a2 p1.2.2.2.2 c2)) (ev (vI s1)) kr f R ?_;rintro b4 Z a6 rfl H;refine cM 3 55 9 56 Z (vI V) (.head _) (fun _ h=>h.1) H (aD 10 57 (vB (U !=V)) (.head _) (cC kr (aB (aI i ?_ ?_))))
   .intro A i;refine aG 1 [(4,vB false)] (aO ?_);refine bI (aR ?_);have ho:=n _ (sI i);subst ho;have i:=S;refine aR (bI (aR ?_));cases i;exact aT [4] [vB false] ⟨c,rfl,q,st⟩
   intro A i;refine aL (bN (aB (bA (aA 2 [(44,vI (wr (s1+1)))] (aU rfl ?_)))));have hL:=D _ (sI i);exact xE (cN ⟨wr (s1+1),c,hL,rfl,q,st,a,d,b,f⟩)
  intro A i;refine cJ (bC ?_);have ho:=n _ (sI i);refine bC ?_;exact xE (s _ _ ⟨(),c,ho,rfl,q,st⟩)
 intro F i K;refine aA 1 [(6,vP g 0)] (bW 7 (vI p0.1) st a (aA 1 [(8,vP k 0)] (bW 9 (vI p1.1) st b (aA 2 [(11,vB (p0.1 !=p1.1))] (cH 11 i ?_ ?_)))))
 .intro A i;refine aA 29 [(40,vB true)] ?_;cases i;exact bD _ kr (K _ _ ⟨o,rfl,q,st,a,d,b,f⟩)
 intro A i;refine aA 1 [(12,vP g 1)] (bW 13 (vI p0.2.1) st (a.drop 1) (aA 1 [(14,vP k 1)] (bW 15 (vI p1.2.1) st (b.drop 1) (aA 3 [(18,vB (p0.2.1 !=p1.2.1))] (cH 18 i ?_ ?_)))))
 .intro A i;refine aA 22 [(40,vB true)] ?_;cases i;exact bD _ kr (K _ _ ⟨o,rfl,q,st,a,d,b,f⟩)
 intro A i;refine aA 1 [(19,vP g 2)] (bW 20 (vI p0.2.2.1) st (a.drop 2) (aA 1 [(21,vP k 2)] (bW 22 (vI p1.2.2.1) st (b.drop 2) (aA 3 [(25,vB (p0.2.2.1 !=p1.2.2.1))] (cH 25 i ?_ ?_)))))
 .intro A i;refine aA 15 [(40,vB true)] ?_;cases i;exact bD _ kr (K _ _ ⟨o,rfl,q,st,a,d,b,f⟩)
 intro A i;refine aA 1 [(26,vP g 3)] (bW 27 (vT p0.2.2.2.1) st (a.drop 3) (aA 1 [(28,vP k 3)] (bW 29 (vT p1.2.2.2.1) st (b.drop 3) (aA 3 [(32,vB (!(p0.2.2.2.1.toList==p1.2.2.2.1.toList)))] (cH 32 i ?_ ?_)))))
 .intro A i;refine aA 8 [(40,vB true)] ?_;cases i;exact bD _ kr (K _ _ ⟨o,rfl,q,st,a,d,b,f⟩)
 intro A i;refine aA 1 [(33,vP g 4)] (bW 34 (vS a1 p0.2.2.2.2 c1) st (a.drop 4) (aA 2 [(35,vI (p0.2.2.2.2.length:Int)),(36,vP k 4)] (bW 37 (vS a2 p1.2.2.2.2 c2) st (b.drop 4) (aA 3 [(40,vB ((p0.2.2.2.2.length:Int) !=(p1.2.2.2.2.length:Int)))] ?_))));cases i;exact bD _ kr (K _ _ ⟨o,rfl,q,st,a,d,b,f⟩)
def zP(N:Nat)(p0:tJ)(p1:tJ)(s1:Int):Th:=
 if(decide (s1<(List.length p0.2.2.2:Int)))=true then((bV p0.2.2.2 s1).bind fun a=>(bV p1.2.2.2 s1).bind fun b=>(EL N a b).bind fun a=>if(!a)=true then(some (.inr (.inr (false)))) else(some (.inl (IntKind.wrap .i64 (s1+1))))) else(some (.inr (.inl ())))
def ER(N:Nat)(p0:tJ)(p1:tJ):Ti:=
 (if(p0.1 !=p1.1)=true then(some true) else(if(!(p0.2.1.toList==p1.2.1.toList))=true then(some true) else((zV N p0.2.2.1 p1.2.2.1).bind fun y1=>if(!y1)=true then(some true) else(some ((List.length p0.2.2.2:Int) !=(List.length p1.2.2.2:Int))))):Ti).bind fun a=>if a=true then(some false) else((aK (zP N p0 p1) N 0).bind fun a=>(match a with| .inl o2=>some true| .inr (z)=>some z))
theorem qBz{p0:tJ}{p1:tJ}{r:Bool}(st:St m (O) w)(f:RepS aJ m a1 c1 p0.2.2.1)(g:RepS C4 m a2 c2 p0.2.2.2)(k:RepS aJ m a3 c3 p1.2.2.1)(l:RepS C4 m a4 c4 p1.2.2.2)(i:ER N p0 p1=some r):Calls prog 66 #[.agg (Va p0 a1 c1 a2 c2),.agg (Va p1 a3 c3 a4 c4)] w fun e w'=>∃m',e= .returned (vB r)/\m.le m'/\St m' (O) w':=by
 unfold ER at i;have q:=m.le_refl;refine bH func66 rfl ntmps66 ?_;refine aC (eA 2 98 (.agg (Va p0 a1 c1 a2 c2)) st fun n m1 w1 v st a=>(eA 3 98 (.agg (Va p1 a3 c3 a4 c4)) st fun o Y w2 u st b=> ?_));have q:=(q.t v).t u;have f:=(f.mono v).mono u;have g:=(g.mono v).mono u;have k:=(k.mono v).mono u;have l:=(l.mono v).mono u;have a:=a.mono u;refine aH 1 [] (aF (aC (dT 29 i (fun H L' w'=>∃d,L'=[(2,vP n 0),(3,vP o 0),(34,vB H)]/\m.le d/\St d (O) w'/\MRow d n 0 (Vb p0 a1 c1 a2 c2)/\RepS aJ d a1 c1 p0.2.2.1/\RepS C4 d a2 c2 p0.2.2.2/\MRow d o 0 (Vb p1 a3 c3 a4 c4)/\RepS aJ d a3 c3 p1.2.2.1/\RepS C4 d a4 c4 p1.2.2.2) ?_ ?_)))
 .rintro H i _ w3 ⟨d,rfl,q,st,a,f,g,b,k,l⟩;refine aS (aI i ?_ ?_)
  .intro A i;refine aG 1 [(4,vB false)] (aO ?_);refine aR ?_;cases i;exact aT [4] [vB false] ⟨d,rfl,q,st⟩
  intro A i;refine aL (aB (aF (aV 1 [(35,vP n 3)] (bW 36 (vS a2 p0.2.2.2 c2) st (a.drop 3) (aH 2 [(37,vI (p0.2.2.2.length:Int)),(38,vI 0)] (bB ?_))))));have⟨B,i,V⟩:=aZ i;refine dH (.exit 0) (fun L' w'=>∃(o2:Unit),∃F,(.inl o2)=B/\L'=[]/\m.le F/\St F (O) w') ?_ ?_
  .rintro _ c ⟨o2,F,rfl,rfl,q,st⟩;have i:=V;refine cO (aB (aG 1 [(4,vB true)] (aO ?_)));cases i;exact aT [4] [vB true] ⟨F,rfl,q,st⟩
  intro D;refine cR _ kr (cQ (fun E L' w'=>∃(s1:Int),∃c,aK (zP N p0 p1) E s1=some B/\L'=[(2,vP n 0),(3,vP o 0),(37,vI (p0.2.2.2.length:Int)),(38,vI s1)]/\m.le c/\St c (O) w'/\MRow c n 0 (Vb p0 a1 c1 a2 c2)/\RepS aJ c a1 c1 p0.2.2.1/\RepS C4 c a2 c2 p0.2.2.2/\MRow c o 0 (Vb p1 a3 c3 a4 c4)/\RepS aJ c a3 c3 p1.2.2.1/\RepS C4 c a4 c4 p1.2.2.2) N ⟨0,d,i,rfl,q,st,a,f,g,b,k,l⟩ ?_);rintro E _ w6 ⟨s1,c,hL,rfl,q,st,a,f,g,b,k,l⟩;rcases E with _|E
  .exact cU hL
  obtain⟨a9,i,G,z⟩:=cV hL;clear hL;unfold zP at i;refine aG 1 [(39,vB (decide (s1<(p0.2.2.2.length:Int))))] (aF ?_);refine aI i ?_ ?_
  .intro A i;refine aL (aB (aF (bB (aG 2 [(5,vI s1)] (aF (dK [(12,fun w'=>Inv c w'/\True)] kr st fun w7 _ st=> ?_))))));have s:=c.le_refl;refine tA st s ?_;refine aD 0 41 (vP n 3) (.head _) (cM 96 41 1 42 3 (vS a2 p0.2.2.2 c2) (.head _) (fun _ h=>h.1) (a.drop 3) (aD 2 43 (vI s1) (.head _) ?_));have⟨x1,S,i⟩:=aZ i;refine iU (t:=96) (e:=143) (x:=(.tmp 42)) (y:=(.tmp 43)) 3 44 C4 kr rfl kr (.head _) (bJ (cY (bJ (bJ (cY (bJ eV)))))) (ev (vS a2 p0.2.2.2 c2)) (ev (vI s1)) kr g S ?_;rintro b3 f1 a7 ⟨_,_,rfl,rfl,⟨_,_,rfl,rfl,⟨_,_,rfl,rfl,⟨_,_,rfl,rfl,⟨a5,c5,rfl,r5⟩⟩⟩⟩⟩ M;refine cM 143 44 4 45 f1 (.agg (V8 x1 a5 c5)) (.head _) (fun _ h=>h.1) M (aD 5 46 (vP o 3) (.head _) (cM 96 46 6 47 3 (vS a4 p1.2.2.2 c4) (.head _) (fun _ h=>h.1) (b.drop 3) (aD 7 48 (vI s1) (.head _) ?_)));have⟨x2,U,i⟩:=aZ i;refine iU (t:=96) (e:=143) (x:=(.tmp 47)) (y:=(.tmp 48)) 8 49 C4 kr rfl kr (.head _) (bJ (cY (bJ (bJ (cY (bJ eV)))))) (ev (vS a4 p1.2.2.2 c4)) (ev (vI s1)) kr l U ?_;rintro b4 f2 a8 ⟨_,_,rfl,rfl,⟨_,_,rfl,rfl,⟨_,_,rfl,rfl,⟨_,_,rfl,rfl,⟨a6,c6,rfl,r6⟩⟩⟩⟩⟩ R;refine cM 143 49 9 50 f2 (.agg (V8 x2 a6 c6)) (.head _) (fun _ h=>h.1) R (aY 10 kr (cL 51 i (fun _ h=>qBx (p0:=x1) (p1:=x2) st r5 r6 h) ?_));rintro y2 i _ w8 ⟨Z,rfl,p,st⟩
   refine⟨_,rfl,?_⟩;have s:=Mem.le_trans s p;refine tA st s ?_;refine aD 11 52 (vB (!y2)) (.head _) (cC kr (aB (aI i ?_ ?_)))
   .intro A i;refine aG 1 [(4,vB false)] (aO ?_);refine bI (aR ?_);have ho:=z _ (sI i);subst ho;have i:=V;refine aR (bI (aR ?_));cases i;exact aT [4] [vB false] ⟨Z,rfl,q.t p,st⟩
   intro A i;refine aL (bN (aB (bA (aA 2 [(38,vI (wr (s1+1)))] (aU rfl ?_)))));have hL:=G _ (sI i);exact xE (cN ⟨wr (s1+1),Z,hL,rfl,q.t p,st,a.mono p,f.mono p,g.mono p,b.mono p,k.mono p,l.mono p⟩)
  intro A i;refine cJ (bC ?_);have ho:=z _ (sI i);refine bC ?_;exact xE (D _ _ ⟨(),c,ho,rfl,q,st⟩)
 intro H i K;refine aA 1 [(6,vP n 0)] (bW 7 (vI p0.1) st a (aA 1 [(8,vP o 0)] (bW 9 (vI p1.1) st b (aA 2 [(11,vB (p0.1 !=p1.1))] (cH 11 i ?_ ?_)))))
 .intro A i;refine aA 23 [(34,vB true)] ?_;cases i;exact bD _ kr (K _ _ ⟨Y,rfl,q,st,a,f,g,b,k,l⟩)
 intro A i;refine aA 1 [(12,vP n 1)] (bW 13 (vT p0.2.1) st (a.drop 1) (aA 1 [(14,vP o 1)] (bW 15 (vT p1.2.1) st (b.drop 1) (aA 3 [(18,vB (!(p0.2.1.toList==p1.2.1.toList)))] (cH 18 i ?_ ?_)))))
 .intro A i;refine aA 16 [(34,vB true)] ?_;cases i;exact bD _ kr (K _ _ ⟨Y,rfl,q,st,a,f,g,b,k,l⟩)
 intro A i;refine aA 1 [(19,vP n 2)] (bW 20 (vS a1 p0.2.2.1 c1) st (a.drop 2) (aA 1 [(21,vP o 2)] (bW 22 (vS a3 p1.2.2.1 c3) st (b.drop 2) (aM 23 i (RF st f k) ?_))));rintro y1 i _ s ⟨p,rfl,c,st⟩;have a:=a.mono c;have b:=b.mono c;refine aA 3 [(26,vB (!y1))] (cH 26 i ?_ ?_)
 .intro A i;refine aA 8 [(34,vB true)] ?_;cases i;exact bD _ kr (K _ _ ⟨p,rfl,q.t c,st,a,f.mono c,g.mono c,b,k.mono c,l.mono c⟩)
 intro A i;refine aA 1 [(27,vP n 3)] (bW 28 (vS a2 p0.2.2.2 c2) st (a.drop 3) (aA 2 [(29,vI (p0.2.2.2.length:Int)),(30,vP o 3)] (bW 31 (vS a4 p1.2.2.2 c4) st (b.drop 3) (aA 3 [(34,vB ((p0.2.2.2.length:Int) !=(p1.2.2.2.length:Int)))] ?_))));cases i;exact bD _ kr (K _ _ ⟨p,rfl,q.t c,st,a,f.mono c,g.mono c,b,k.mono c,l.mono c⟩)
def AJ(N:Nat)(p0:lX)(p1:lX)(s1:Int):Th:=
 if(decide (s1<(List.length p0.2.2:Int)))=true then((bV p0.2.2 s1).bind fun a=>(bV p1.2.2 s1).bind fun b=>(ER N a b).bind fun a=>if(!a)=true then(some (.inr (.inr (false)))) else(some (.inl (IntKind.wrap .i64 (s1+1))))) else(some (.inr (.inl ())))
def AZ(N:Nat)(p0:lX)(p1:lX):Ti:=
 (if(!(p0.1.toList==p1.1.toList))=true then(some true) else((zV N p0.2.1 p1.2.1).bind fun y1=>if(!y1)=true then(some true) else(some ((List.length p0.2.2:Int) !=(List.length p1.2.2:Int)))):Ti).bind fun a=>if a=true then(some false) else((aK (AJ N p0 p1) N 0).bind fun a=>(match a with| .inl o2=>some true| .inr (z)=>some z))
theorem RV{p0:lX}{p1:lX}{r:Bool}(st:St m (O) w)(f:RepS aJ m a1 c1 p0.2.1)(g:RepS C5 m a2 c2 p0.2.2)(k:RepS aJ m a3 c3 p1.2.1)(l:RepS C5 m a4 c4 p1.2.2)(i:AZ N p0 p1=some r):Calls prog 32 #[.agg (Vc p0 a1 c1 a2 c2),.agg (Vc p1 a3 c3 a4 c4)] w fun e w'=>∃m',e= .returned (vB r)/\m.le m'/\St m' (O) w':=by
 unfold AZ at i;have q:=m.le_refl;refine bH func32 rfl ntmps32 ?_;refine aC (eA 2 58 (.agg (Vc p0 a1 c1 a2 c2)) st fun n m1 w1 v st a=>(eA 3 58 (.agg (Vc p1 a3 c3 a4 c4)) st fun s m2 w2 u st b=> ?_));have q:=(q.t v).t u;have f:=(f.mono v).mono u;have g:=(g.mono v).mono u;have k:=(k.mono v).mono u;have l:=(l.mono v).mono u;have a:=a.mono u;refine aH 1 [] (aF (aC (dT 22 i (fun H L' w'=>∃d,L'=[(2,vP n 0),(3,vP s 0),(27,vB H)]/\m.le d/\St d (O) w'/\MRow d n 0 (Ve p0 a1 c1 a2 c2)/\RepS aJ d a1 c1 p0.2.1/\RepS C5 d a2 c2 p0.2.2/\MRow d s 0 (Ve p1 a3 c3 a4 c4)/\P4 d a3 c3 a4 c4 p1.2) ?_ ?_)))
 .rintro H i _ w3 ⟨d,rfl,q,st,a,f,g,b,k,l⟩;refine aS (aI i ?_ ?_)
  .intro A i;refine aG 1 [(4,vB false)] (aO ?_);refine aR ?_;cases i;exact aT [4] [vB false] ⟨d,rfl,q,st⟩
  intro A i;refine aL (aB (aF (aV 1 [(28,vP n 2)] (bW 29 (vS a2 p0.2.2 c2) st (a.drop 2) (aH 2 [(30,vI (p0.2.2.length:Int)),(31,vI 0)] (bB ?_))))));have⟨B,i,V⟩:=aZ i;refine dH (.exit 0) (fun L' w'=>∃(o2:Unit),∃F,(.inl o2)=B/\L'=[]/\m.le F/\St F (O) w') ?_ ?_
  .rintro _ c ⟨o2,F,rfl,rfl,q,st⟩;have i:=V;refine cO (aB (aG 1 [(4,vB true)] (aO ?_)));cases i;exact aT [4] [vB true] ⟨F,rfl,q,st⟩
  intro D;refine cR _ kr (cQ (fun E L' w'=>∃(s1:Int),∃c,aK (AJ N p0 p1) E s1=some B/\L'=[(2,vP n 0),(3,vP s 0),(30,vI (p0.2.2.length:Int)),(31,vI s1)]/\m.le c/\St c (O) w'/\MRow c n 0 (Ve p0 a1 c1 a2 c2)/\RepS aJ c a1 c1 p0.2.1/\RepS C5 c a2 c2 p0.2.2/\MRow c s 0 (Ve p1 a3 c3 a4 c4)/\P4 c a3 c3 a4 c4 p1.2) N ⟨0,d,i,rfl,q,st,a,f,g,b,k,l⟩ ?_);rintro E _ w6 ⟨s1,c,hL,rfl,q,st,a,f,g,b,k,l⟩;rcases E with _|E
  .exact cU hL
  obtain⟨b5,i,G,z⟩:=cV hL;clear hL;unfold AJ at i;refine aG 1 [(32,vB (decide (s1<(p0.2.2.length:Int))))] (aF ?_);refine aI i ?_ ?_
  .intro A i;refine aL (aB (aF (bB (aG 2 [(5,vI s1)] (aF (dK [(12,fun w'=>Inv c w'/\True)] kr st fun w7 _ st=> ?_))))));have p:=c.le_refl;refine tA st p ?_;refine aD 0 34 (vP n 2) (.head _) (cM 56 34 1 35 2 (vS a2 p0.2.2 c2) (.head _) (fun _ h=>h.1) (a.drop 2) (aD 2 36 (vI s1) (.head _) ?_));have⟨Z,S,i⟩:=aZ i;refine iU (t:=56) (e:=98) (x:=(.tmp 35)) (y:=(.tmp 36)) 3 37 C5 kr rfl kr (.head _) (bJ (cY (bJ (bJ (cY (bJ eV)))))) (ev (vS a2 p0.2.2 c2)) (ev (vI s1)) kr g S ?_;rintro b3 f1 a9 ⟨_,_,rfl,rfl,⟨_,_,rfl,rfl,⟨_,_,rfl,⟨a5,c5,rfl,r5⟩,⟨a6,c6,rfl,r6⟩⟩⟩⟩ M;refine cM 98 37 4 38 f1 (.agg (Va Z a5 c5 a6 c6)) (.head _) (fun _ h=>h.1) M (aD 5 39 (vP s 2) (.head _) (cM 56 39 6 40 2 (vS a4 p1.2.2 c4) (.head _) (fun _ h=>h.1) (b.drop 2) (aD 7 41 (vI s1) (.head _) ?_)));have⟨x2,U,i⟩:=aZ i;refine iU (t:=56) (e:=98) (x:=(.tmp 40)) (y:=(.tmp 41)) 8 42 C5 kr rfl kr (.head _) (bJ (cY (bJ (bJ (cY (bJ eV)))))) (ev (vS a4 p1.2.2 c4)) (ev (vI s1)) kr l U ?_;rintro b4 f2 b0 ⟨_,_,rfl,rfl,⟨_,_,rfl,rfl,⟨_,_,rfl,⟨a7,c7,rfl,r7⟩,⟨a8,c8,rfl,r8⟩⟩⟩⟩ R;refine cM 98 42 9 43 f2 (.agg (Va x2 a7 c7 a8 c8)) (.head _) (fun _ h=>h.1) R (aY 10 kr (cL 44 i (fun _ h=>qBz (p0:=Z) (p1:=x2) st r5 r6 r7 r8 h) ?_));rintro y2 i _ w8 ⟨Y,rfl,o,st⟩;refine⟨_,rfl,?_⟩
   have p:=Mem.le_trans p o;refine tA st p ?_;refine aD 11 45 (vB (!y2)) (.head _) (cC kr (aB (aI i ?_ ?_)))
   .intro A i;refine aG 1 [(4,vB false)] (aO ?_);refine bI (aR ?_);have ho:=z _ (sI i);subst ho;have i:=V;refine aR (bI (aR ?_));cases i;exact aT [4] [vB false] ⟨Y,rfl,q.t o,st⟩
   intro A i;refine aL (bN (aB (bA (aA 2 [(31,vI (wr (s1+1)))] (aU rfl ?_)))));have hL:=G _ (sI i);exact xE (cN ⟨wr (s1+1),Y,hL,rfl,q.t o,st,a.mono o,f.mono o,g.mono o,b.mono o,k.mono o,l.mono o⟩)
  intro A i;refine cJ (bC ?_);have ho:=z _ (sI i);refine bC ?_;exact xE (D _ _ ⟨(),c,ho,rfl,q,st⟩)
 intro H i K;refine aA 1 [(6,vP n 0)] (bW 7 (vT p0.1) st a (aA 1 [(8,vP s 0)] (bW 9 (vT p1.1) st b (aA 2 [(11,vB (!(p0.1.toList==p1.1.toList)))] (cH 11 i ?_ ?_)))))
 .intro A i;refine aA 16 [(27,vB true)] ?_;cases i;exact bD _ kr (K _ _ ⟨m2,rfl,q,st,a,f,g,b,k,l⟩)
 intro A i;refine aA 1 [(12,vP n 1)] (bW 13 (vS a1 p0.2.1 c1) st (a.drop 1) (aA 1 [(14,vP s 1)] (bW 15 (vS a3 p1.2.1 c3) st (b.drop 1) (aM 16 i (RF st f k) ?_))));rintro y1 i _ p ⟨o,rfl,c,st⟩;have a:=a.mono c;have b:=b.mono c;refine aA 3 [(19,vB (!y1))] (cH 19 i ?_ ?_)
 .intro A i;refine aA 8 [(27,vB true)] ?_;cases i;exact bD _ kr (K _ _ ⟨o,rfl,q.t c,st,a,f.mono c,g.mono c,b,k.mono c,l.mono c⟩)
 intro A i;refine aA 1 [(20,vP n 2)] (bW 21 (vS a2 p0.2.2 c2) st (a.drop 2) (aA 2 [(22,vI (p0.2.2.length:Int)),(23,vP s 2)] (bW 24 (vS a4 p1.2.2 c4) st (b.drop 2) (aA 3 [(27,vB ((p0.2.2.length:Int) !=(p1.2.2.length:Int)))] ?_))));cases i;exact bD _ kr (K _ _ ⟨o,rfl,q.t c,st,a,f.mono c,g.mono c,b,k.mono c,l.mono c⟩)
def AR(N:Nat)(p0:zG)(p1:BA)(s1:uN):Option T32:=
 if(decide (s1.2<(List.length p0.1:Int)))=true then(((bV p0.1 s1.2).bind fun a=>(if((aQ p0.2.2.1 a.1).isSome)=true then(some ((((aQ p0.2.2.1 a.1).getD ((⟨#[]⟩:BA),([]:T8),([]:dZ))).1).toList==p1.toList)) else(some false):Ti).bind fun b=>if b=true then((dY 32 s1.1 ([a])).bind fun a=>some a) else(some s1.1):Tt).bind fun o2=>some (.inl (o2,IntKind.wrap .i64 (s1.2+1)))) else(some (.inr s1.1))
def KE(N:Nat)(p0:zG)(p1:BA):Tt:=
 (aK (AR N p0 p1) N (([]:Tq),0)).bind fun a=>some a
theorem qDc{p0:zG}{p1:BA}{f:Option Nat}{p:Array MapEntry}{n:Nat}{l:Option Nat}{u:Array MapEntry}{o:Nat}{r:Tq}(st:St m (cB f p n::cB l u o::kB bp0 #[vS a1 p0.1 c1,vB p0.2.1,.map f,vS a2 p0.2.2.2.1 c2,.map l] 76::O) w)(D:RepS C1 m a1 c1 p0.1)(v:MapQ (fun s:BA=>Value.string s) C6 true m f p n p0.2.2.1)(E:RepS aJ m a2 c2 p0.2.2.2.1)(F:MapQ eQ C7 true m l u o p0.2.2.2.2)(i:KE N p0 p1=some r):Calls prog 68 #[vP bp0 0,vT p1] w fun e w'=>∃b7 b8 m',e= .returned (vS b7 r b8)/\m.le m'/\St m' (kR b7 r b8 42 2::cB f p n::cB l u o::kB bp0 #[vS a1 p0.1 c1,vB p0.2.1,.map f,vS a2 p0.2.2.2.1 c2,.map l] 76::O) w'/\RepS C1 m' b7 b8 r:=by
 unfold KE at i;have q:=m.le_refl;refine bH func68 rfl ntmps68 ?_;refine aG 1 [] (aC ?_);refine aH 1 [(5,v7)] (aF (aC (bK 4 14 26 13 0 (vS a1 p0.1 c1) st.t.t.h (aH 2 [(15,vI (p0.1.length:Int)),(16,vI 0)] (bB (cA (.exit 0) i (fun a9 L' w'=>∃(o1:Tq),∃a3 c3 m1,o1=a9/\L'=[(5,vS a3 o1 c3)]/\m.le m1/\St m1 (kB bp0 #[vS a1 p0.1 c1,vB p0.2.1,.map f,vS a2 p0.2.2.2.1 c2,.map l] 76::cB f p n::cB l u o::kR a3 o1 c3 42 2::O) w'/\RepS C1 m1 a3 c3 o1/\RepS C1 m1 a1 c1 p0.1/\RepS aJ m1 a2 c2 p0.2.2.2.1/\MapQ (fun s:BA=>Value.string s) C6 true m1 f p n p0.2.2.1/\MapQ eQ C7 true m1 l u o p0.2.2.2.2) ?_ ?_))))))
 .rintro a9 i _ b ⟨o1,a3,c3,m1,rfl,rfl,q,st,a,D,E,v,F⟩;refine cO (aB (aG 2 [(4,vS a3 o1 c3)] (aO ?_)));obtain rfl:=sI i;exact aT [4] [vS a3 o1 c3] ⟨a3,c3,m1,rfl,q,st.f2.f2.f3,a⟩
 intro a9 i b9;have st:=(st.nilroom 42 2).front2.front2.front3;refine cR _ kr (cQ (fun k1 L' w'=>∃(s1:uN),∃G H B,aK (AR N p0 p1) k1 s1=some a9/\L'=[(0,vP bp0 0),(1,vT p1),(5,vS G s1.1 H),(14,vS a1 p0.1 c1),(15,vI (p0.1.length:Int)),(16,vI s1.2)]/\m.le B/\St B (kB bp0 #[vS a1 p0.1 c1,vB p0.2.1,.map f,vS a2 p0.2.2.2.1 c2,.map l] 76::cB f p n::cB l u o::kR G s1.1 H 42 2::O) w'/\RepS C1 B G H s1.1/\RepS C1 B a1 c1 p0.1/\RepS aJ B a2 c2 p0.2.2.2.1/\MapQ (fun s:BA=>Value.string s) C6 true B f p n p0.2.2.1/\MapQ eQ C7 true B l u o p0.2.2.2.2) N ⟨(([]:Tq),0),none,0,m,i,rfl,q,st,(RepS.nil _ _),D,E,v,F⟩ ?_);rintro k1 _ w2 ⟨s1,G,H,B,hL,rfl,q,st,Z,D,E,v,F⟩;rcases k1 with _|k1
 .exact cU hL
 obtain⟨d6,i,c9,c0⟩:=cV hL;clear hL;unfold AR at i;refine aG 1 [(17,vB (decide (s1.2<(p0.1.length:Int))))] (aF ?_);refine aI i ?_ ?_
 .intro A i;refine aL (aB (aF (cA .normal i (fun o2 L' w'=>∃a5 c5 m3,L'=[(0,vP bp0 0),(1,vT p1),(5,vS a5 o2 c5),(14,vS a1 p0.1 c1),(15,vI (p0.1.length:Int)),(16,vI s1.2)]/\m.le m3/\St m3 (kB bp0 #[vS a1 p0.1 c1,vB p0.2.1,.map f,vS a2 p0.2.2.2.1 c2,.map l] 76::cB f p n::cB l u o::kR a5 o2 c5 42 2::O) w'/\RepS C1 m3 a5 c5 o2/\RepS C1 m3 a1 c1 p0.1/\RepS aJ m3 a2 c2 p0.2.2.2.1/\MapQ (fun s:BA=>Value.string s) C6 true m3 f p n p0.2.2.1/\MapQ eQ C7 true m3 l u o p0.2.2.2.2) ?_ ?_)))
  .rintro o2 i _ b ⟨a5,c5,m3,rfl,q,st,a,D,E,v,F⟩;refine aB (bA (aA 2 [(16,vI (wr (s1.2+1)))] (aU rfl ?_)));have hL:=c9 _ (sI i);exact xE (cN ⟨(o2,wr (s1.2+1)),a5,c5,m3,hL,rfl,q,st.f3.f3.f3.f3,a,D,E,v,F⟩)
  intro o2 i b0;refine bB (aC (eP 18 D i ?_));rintro a i b1 f1 d5 ⟨_,_,rfl,rfl,rfl⟩ d2;refine eS 19 42 18 f1 (.agg (V2 a)) st d2 (cG 7 42 (.agg (V3 eB eB)) st fun b2 w4 st=>(bM (.agg (V2 a)) st fun w5 st=>(aS (aF (dK [(13,fun w'=>Inv B w'/\Piece.holds B w' (kB b2 (V2 a) 42)/\Piece.holds B w' (kB bp0 #[vS a1 p0.1 c1,vB p0.2.1,.map f,vS a2 p0.2.2.2.1 c2,.map l] 76)/\True)] kr st fun w6 _ st=> ?_)))));have b:=B.le_refl;refine⟨⟨.inr ⟨Inv.anti st.inv b,Piece.holds_anti st.h b,Piece.holds_anti st.t.h b,trivial⟩,trivial⟩,?_⟩;refine aD 0 21 (vP bp0 0) (.head _) (aD 1 22 (vP bp0 0) (.head _) (aD 2 23 (vP bp0 2) (.head _) (cW 73 23 3 24 2 (.map f) (.head _) (fun _ h=>h.2.2.1) (aD 4 25 (vP b2 0) (.head _) (cW 9 25 5 26 0 (vT a.1) (.head _) (fun _ h=>h.2.1) (nJ [6,10] kr (by simp) (oS ?_ ?_)))))))
  .refine rS (ek:=(fun s:BA=>Value.string s)) (c:=C6) (agg:=true) (k:=a.1) (zx:=(eB,([]:T8),([]:dZ))) (zcs:=[vT eB,v2,vc]) (z:=(.agg #[vT eB,v2,vc])) (kt:=9) (et:=58) (d:=27) (t:=73) (x:=(.tmp 24)) (y:=(.tmp 26)) (ok:=true) kr rfl (ev (.map f)) (ev (vT a.1)) kr (vX kr) st.t.t.h v ⟨_,_,rfl,rfl,⟨_,_,rfl,(nU (RepS.nil _ _)),(nU (RepS.nil _ _))⟩⟩ rfl ?_;rintro d1 ⟨_,_,rfl,rfl,⟨_,_,rfl,⟨R,U,rfl,r8⟩,⟨S,V,rfl,r9⟩⟩⟩;refine⟨⟨.inr ⟨Inv.anti st.inv b,Piece.holds_anti st.h b,Piece.holds_anti st.t.h b,trivial⟩,trivial⟩,?_⟩;refine aD 7 20 (.tuple #[.agg #[vT (((aQ p0.2.2.1 a.1).getD (eB,([]:T8),([]:dZ))).1),.slice R (List.length (((aQ p0.2.2.1 a.1).getD (eB,([]:T8),([]:dZ))).2.1)) U,.slice S (List.length (((aQ p0.2.2.1 a.1).getD (eB,([]:T8),([]:dZ))).2.2)) V],vB ((aQ p0.2.2.1 a.1).isSome)]) (.head _) (aD 8 28 (.agg #[vT (((aQ p0.2.2.1 a.1).getD (eB,([]:T8),([]:dZ))).1),.slice R (List.length (((aQ p0.2.2.1 a.1).getD (eB,([]:T8),([]:dZ))).2.1)) U,.slice S (List.length (((aQ p0.2.2.1 a.1).getD (eB,([]:T8),([]:dZ))).2.2)) V]) (.head _) (aD 9 29 (vB ((aQ p0.2.2.1 a.1).isSome)) (.head _) (aY 10 kr (lV 8 58 (.agg #[vT eB,v6,v6]) st fun b3 w7 st=>(⟨⟨.inr ⟨Inv.anti st.inv b,Piece.holds_anti st.t.h b,Piece.holds_anti st.t.t.h b,trivial⟩,trivial⟩,?_⟩)))))
   refine aY 11 kr (eC 58 8 28 (.agg #[vT (((aQ p0.2.2.1 a.1).getD (eB,([]:T8),([]:dZ))).1),.slice R (List.length (((aQ p0.2.2.1 a.1).getD (eB,([]:T8),([]:dZ))).2.1)) U,.slice S (List.length (((aQ p0.2.2.1 a.1).getD (eB,([]:T8),([]:dZ))).2.2)) V]) st fun w8 st=>(⟨⟨.inr ⟨Inv.anti st.inv b,Piece.holds_anti st.t.h b,Piece.holds_anti st.t.t.h b,trivial⟩,trivial⟩,?_⟩));refine aD 12 9 (vB ((aQ p0.2.2.1 a.1).isSome)) (.head _) (cC kr (aB (aC (dT 7 i (fun o3 L' w'=>∃g,L'=[(0,vP bp0 0),(1,vT p1),(5,vS G s1.1 H),(7,vP b2 0),(14,vS a1 p0.1 c1),(15,vI (p0.1.length:Int)),(16,vI s1.2),(36,vB o3)]/\m.le g/\St g (kB b3 #[vT (((aQ p0.2.2.1 a.1).getD (eB,([]:T8),([]:dZ))).1),.slice R (List.length (((aQ p0.2.2.1 a.1).getD (eB,([]:T8),([]:dZ))).2.1)) U,.slice S (List.length (((aQ p0.2.2.1 a.1).getD (eB,([]:T8),([]:dZ))).2.2)) V] 58::kB b2 (V2 a) 42::kB bp0 #[vS a1 p0.1 c1,vB p0.2.1,.map f,vS a2 p0.2.2.2.1 c2,.map l] 76::cB f p n::cB l u o::kR G s1.1 H 42 2::O) w'/\RepS C1 g G H s1.1/\RepS C1 g a1 c1 p0.1/\RepS aJ g R U (((aQ p0.2.2.1 a.1).getD (eB,([]:T8),([]:dZ))).2.1)/\RepS C5 g S V (((aQ p0.2.2.1 a.1).getD (eB,([]:T8),([]:dZ))).2.2)/\RepS aJ g a2 c2 p0.2.2.2.1/\MapQ (fun s:BA=>Value.string s) C6 true g f p n p0.2.2.1/\MapQ eQ C7 true g l u o p0.2.2.2.2) ?_ ?_))))
   .rintro o3 i _ w9 ⟨g,rfl,q,st,Z,D,r8,r9,E,v,F⟩;refine aS (aI i ?_ ?_)
    .intro A i;refine bA (aA 1 [(37,vS G s1.1 H)] (bG 38 (.agg (V2 a)) st.t.h (dV 39 42 1 C1 [a] st fun b4 m5 d3 M st b5=>(mA 40 26 26 42 32 37 39 st.f6 (.inl kr) (Z.mono M) b5.src i fun l1 i a8 c8 m6 d4 Y st b6=>(aA 1 [(5,vS a8 l1 c8)] (aU rfl ?_))))));have st:=st.f1.t;refine bN ?_;cases i;exact xE (b0 _ _ ⟨a8,c8,m6,rfl,(q.t M).t Y,st.f1.t.f1.t.f3.f3.f3,b6,(D.mono M).mono Y,(E.mono M).mono Y,(v.mono M).mono Y,(F.mono M).mono Y⟩)
    intro A i;refine aL (bN ?_);cases i;exact xE (b0 _ _ ⟨G,H,g,rfl,q,st.t.t.f3.f3.f3.f3,Z,D,E,v,F⟩)
   intro o3 i K;refine aA 2 [(31,vB ((aQ p0.2.2.1 a.1).isSome))] (cH 31 i ?_ ?_)
   .intro A i;refine bK 1 33 9 32 0 (vT (((aQ p0.2.2.1 a.1).getD (eB,([]:T8),([]:dZ))).1)) st.h (aA 3 [(36,vB ((((aQ p0.2.2.1 a.1).getD (eB,([]:T8),([]:dZ))).1).toList==p1.toList))] ?_);cases i;exact bD _ kr (K _ _ ⟨B,rfl,q,st.f5.f5.f5.f5.f5.f5,Z,D,r8,r9,E,v,F⟩)
   intro A i;refine aA 5 [(36,vB false)] ?_;cases i;exact bD _ kr (K _ _ ⟨B,rfl,q,st.f5.f5.f5.f5.f5.f5,Z,D,r8,r9,E,v,F⟩)
  refine lV 8 58 (.agg #[vT eB,v6,v6]) st fun b3 w7 st=> ?_;refine⟨⟨.inr ⟨Inv.anti st.inv b,Piece.holds_anti st.t.h b,Piece.holds_anti st.t.t.h b,trivial⟩,trivial⟩,?_⟩;refine aY 6 kr (rS (ek:=(fun s:BA=>Value.string s)) (c:=C6) (agg:=true) (k:=a.1) (zx:=(eB,([]:T8),([]:dZ))) (zcs:=[vT eB,v2,vc]) (z:=(.agg #[vT eB,v2,vc])) (kt:=9) (et:=58) (d:=27) (t:=73) (x:=(.tmp 24)) (y:=(.tmp 26)) (ok:=true) kr rfl (ev (.map f)) (ev (vT a.1)) kr (vX kr) st.t.t.t.h v ⟨_,_,rfl,rfl,⟨_,_,rfl,(nU (RepS.nil _ _)),(nU (RepS.nil _ _))⟩⟩ rfl ?_);rintro d1 ⟨_,_,rfl,rfl,⟨_,_,rfl,⟨R,U,rfl,r8⟩,⟨S,V,rfl,r9⟩⟩⟩;refine⟨⟨.inr ⟨Inv.anti st.inv b,Piece.holds_anti st.t.h b,Piece.holds_anti st.t.t.h b,trivial⟩,trivial⟩,?_⟩
  refine aD 7 20 (.tuple #[.agg #[vT (((aQ p0.2.2.1 a.1).getD (eB,([]:T8),([]:dZ))).1),.slice R (List.length (((aQ p0.2.2.1 a.1).getD (eB,([]:T8),([]:dZ))).2.1)) U,.slice S (List.length (((aQ p0.2.2.1 a.1).getD (eB,([]:T8),([]:dZ))).2.2)) V],vB ((aQ p0.2.2.1 a.1).isSome)]) (.head _) (aD 8 28 (.agg #[vT (((aQ p0.2.2.1 a.1).getD (eB,([]:T8),([]:dZ))).1),.slice R (List.length (((aQ p0.2.2.1 a.1).getD (eB,([]:T8),([]:dZ))).2.1)) U,.slice S (List.length (((aQ p0.2.2.1 a.1).getD (eB,([]:T8),([]:dZ))).2.2)) V]) (.head _) (aD 9 29 (vB ((aQ p0.2.2.1 a.1).isSome)) (.head _) (aY 11 kr (eC 58 8 28 (.agg #[vT (((aQ p0.2.2.1 a.1).getD (eB,([]:T8),([]:dZ))).1),.slice R (List.length (((aQ p0.2.2.1 a.1).getD (eB,([]:T8),([]:dZ))).2.1)) U,.slice S (List.length (((aQ p0.2.2.1 a.1).getD (eB,([]:T8),([]:dZ))).2.2)) V]) st fun w8 st=>(⟨⟨.inr ⟨Inv.anti st.inv b,Piece.holds_anti st.t.h b,Piece.holds_anti st.t.t.h b,trivial⟩,trivial⟩,?_⟩)))))
  refine aD 12 9 (vB ((aQ p0.2.2.1 a.1).isSome)) (.head _) (cC kr (aB (aC (dT 7 i (fun o3 L' w'=>∃g,L'=[(0,vP bp0 0),(1,vT p1),(5,vS G s1.1 H),(7,vP b2 0),(14,vS a1 p0.1 c1),(15,vI (p0.1.length:Int)),(16,vI s1.2),(36,vB o3)]/\m.le g/\St g (kB b3 #[vT (((aQ p0.2.2.1 a.1).getD (eB,([]:T8),([]:dZ))).1),.slice R (List.length (((aQ p0.2.2.1 a.1).getD (eB,([]:T8),([]:dZ))).2.1)) U,.slice S (List.length (((aQ p0.2.2.1 a.1).getD (eB,([]:T8),([]:dZ))).2.2)) V] 58::kB b2 (V2 a) 42::kB bp0 #[vS a1 p0.1 c1,vB p0.2.1,.map f,vS a2 p0.2.2.2.1 c2,.map l] 76::cB f p n::cB l u o::kR G s1.1 H 42 2::O) w'/\RepS C1 g G H s1.1/\RepS C1 g a1 c1 p0.1/\RepS aJ g R U (((aQ p0.2.2.1 a.1).getD (eB,([]:T8),([]:dZ))).2.1)/\RepS C5 g S V (((aQ p0.2.2.1 a.1).getD (eB,([]:T8),([]:dZ))).2.2)/\RepS aJ g a2 c2 p0.2.2.2.1/\MapQ (fun s:BA=>Value.string s) C6 true g f p n p0.2.2.1/\MapQ eQ C7 true g l u o p0.2.2.2.2) ?_ ?_))))
  .rintro o3 i _ w9 ⟨g,rfl,q,st,Z,D,r8,r9,E,v,F⟩;refine aS (aI i ?_ ?_)
   .intro A i;refine bA (aA 1 [(37,vS G s1.1 H)] (bG 38 (.agg (V2 a)) st.t.h (dV 39 42 1 C1 [a] st fun b4 m5 d3 M st b5=>(mA 40 26 26 42 32 37 39 st.f6 (.inl kr) (Z.mono M) b5.src i fun l1 i a8 c8 m6 d4 Y st b6=>(aA 1 [(5,vS a8 l1 c8)] (aU rfl ?_))))));have st:=st.f1.t;refine bN ?_;cases i;exact xE (b0 _ _ ⟨a8,c8,m6,rfl,(q.t M).t Y,st.f1.t.f1.t.f3.f3.f3,b6,(D.mono M).mono Y,(E.mono M).mono Y,(v.mono M).mono Y,(F.mono M).mono Y⟩)
   intro A i;refine aL (bN ?_);cases i;exact xE (b0 _ _ ⟨G,H,g,rfl,q,st.t.t.f3.f3.f3.f3,Z,D,E,v,F⟩)
  intro o3 i K;refine aA 2 [(31,vB ((aQ p0.2.2.1 a.1).isSome))] (cH 31 i ?_ ?_)
  .intro A i;refine bK 1 33 9 32 0 (vT (((aQ p0.2.2.1 a.1).getD (eB,([]:T8),([]:dZ))).1)) st.h (aA 3 [(36,vB ((((aQ p0.2.2.1 a.1).getD (eB,([]:T8),([]:dZ))).1).toList==p1.toList))] ?_);cases i;exact bD _ kr (K _ _ ⟨B,rfl,q,st.f5.f5.f5.f5.f5.f5,Z,D,r8,r9,E,v,F⟩)
  intro A i;refine aA 5 [(36,vB false)] ?_;cases i;exact bD _ kr (K _ _ ⟨B,rfl,q,st.f5.f5.f5.f5.f5.f5,Z,D,r8,r9,E,v,F⟩)
 intro A i;refine cJ (bC ?_);have ho:=c0 _ (sI i);have st:=st.f3.f3.f3.f3;refine bC ?_;exact xE (b9 _ _ ⟨s1.1,G,H,B,ho,rfl,q,st,Z,D,E,v,F⟩)
def FZ(N:Nat)(p0:Tq)(p1:BA):Tt:=
 (tV N p0).bind fun y1=>if(!y1.2.1)=true then(some ([]:Tq)) else((KE N y1 p1).bind fun a=>some a)
theorem qDr{p0:Tq}{p1:BA}{r:Tq}(st:St m (O) w)(u:RepS C1 m a1 c1 p0)(i:FZ N p0 p1=some r):Calls prog 34 #[.agg #[vS a1 p0 c1],vT p1] w fun e w'=>∃a b m',e= .returned (vS a r b)/\m.le m'/\St m' (kR a r b 42 2::O) w'/\RepS C1 m' a b r:=by
 unfold FZ at i;have q:=m.le_refl;refine bH func34 rfl ntmps34 ?_;refine aC (eA 2 28 (.agg #[vS a1 p0 c1]) st fun M U Z f st l=>(aH 1 [] (aC (bW 6 (.agg #[vS a1 p0 c1]) st l (aM 7 i (GH st (u.mono f)) ?_)))));rintro y1 i _ w2 ⟨g,H,R,V,F,D,K,S,Y,G,E,p,rfl,k,st,v,x,y,z⟩;refine aH 1 [(5,vP g 0)] (aF (aC (bK 3 11 4 10 1 (vB y1.2.1) st.t.t.h (aH 1 [(12,vB (!y1.2.1))] (aI i ?_ ?_)))))
 .intro A i;refine aG 1 [(4,v7)] (aO ?_);refine aR ?_;cases i;refine aT [4] [v7] ?_;have st:=(st.nilroom 42 2).front1;exact⟨none,0,p,rfl,(q.t f).t k,st.t.f1.t.f1.t,(RepS.nil _ _)⟩
 intro A i;refine aL (aB (aV 2 [(13,vP g 0),(14,vT p1)] (aM 15 i (qDc st.f2.f2.f2 v x y z) ?_)));rintro n i _ w3 ⟨c,d,s,rfl,o,st,B⟩;refine aH 1 [(4,vS c n d)] (aO ?_);obtain rfl:=sI i;exact aT [4] [vS c n d] ⟨c,d,s,rfl,((q.t f).t k).t o,st.f1.t.f1.t.f1.t,B⟩
def zY(N:Nat)(p0:Tq)(p1:BA)(s1:uN):Option T32:=
 if(decide (s1.2<(List.length p0:Int)))=true then(((bV p0 s1.2).bind fun a=>(sH N p0 a.1).bind fun b=>(if b.2=true then(some (b.1.1.toList==p1.toList)) else(some false):Ti).bind fun b=>if b=true then((dY 32 s1.1 ([a])).bind fun a=>some a) else(some s1.1):Tt).bind fun o2=>some (.inl (o2,IntKind.wrap .i64 (s1.2+1)))) else(some (.inr s1.1))
def FG(N:Nat)(p0:Tq)(p1:BA):Tt:=
 (sK N p0).bind fun y1=>if(y1 !=0)=true then(some ([]:Tq)) else((aK (zY N p0 p1) N (([]:Tq),0)).bind fun a=>some a)
theorem qCr{p0:Tq}{p1:BA}{r:Tq}(st:St m (O) w)(b:RepS C1 m a1 c1 p0)(i:FG N p0 p1=some r):Calls prog 35 #[.agg #[vS a1 p0 c1],vT p1] w fun e w'=>∃R S m',e= .returned (vS R r S)/\m.le m'/\St m' (kR R r S 42 2::O) w'/\RepS C1 m' R S r:=by
 unfold FG at i;have q:=m.le_refl;refine bH func35 rfl ntmps35 ?_;refine aC (eA 2 28 (.agg #[vS a1 p0 c1]) st fun o m1 w1 V st a=>(aH 1 [] (aC (aH 1 [(5,v7)] (aF (aC (bW 10 (.agg #[vS a1 p0 c1]) st a (aM 11 i (wV st (b.mono V)) ?_))))))));rintro y1 i _ w2 ⟨m2,rfl,H,st⟩;refine aH 1 [(12,vB (y1 !=0))] (aI i ?_ ?_)
 .intro A i;refine aG 1 [(4,v7)] (aO ?_);refine aR ?_;cases i;exact aT [4] [v7] ⟨none,0,m2,rfl,(q.t V).t H,(st.nilroom 42 2),(RepS.nil _ _)⟩
 intro A i;refine aL (aB (aF (aV 1 [(13,vP o 0)] (bW 14 (vS a1 p0 c1) st (a.mono H) (aH 2 [(15,vI (p0.length:Int)),(16,vI 0)] (bB (cA (.exit 0) i (fun g L' w'=>∃(v:Tq),∃n p M,v=g/\L'=[(5,vS n v p)]/\m.le M/\St M (kR n v p 42 2::O) w'/\RepS C1 M n p v) ?_ ?_)))))))
 .rintro g i _ d ⟨v,n,p,M,rfl,rfl,q,st,c⟩;refine cO (aB (aG 2 [(4,vS n v p)] (aO ?_)));obtain rfl:=sI i;exact aT [4] [vS n v p] ⟨n,p,M,rfl,q,st,c⟩
 intro g i U;refine cR _ kr (cQ (fun Z L' w'=>∃(s1:uN),∃d f s,aK (zY N p0 p1) Z s1=some g/\L'=[(1,vT p1),(2,vP o 0),(5,vS d s1.1 f),(14,vS a1 p0 c1),(15,vI (p0.length:Int)),(16,vI s1.2)]/\m.le s/\St s (kR d s1.1 f 42 2::O) w'/\MRow s o 0 [vS a1 p0 c1]/\RepS C1 s a1 c1 p0/\RepS C1 s d f s1.1) N ⟨(([]:Tq),0),none,0,m2,i,rfl,(q.t V).t H,(st.nilroom 42 2),a.mono H,(b.mono V).mono H,(RepS.nil _ _)⟩ ?_);rintro Z _ w4 ⟨s1,d,f,s,hL,rfl,q,st,a,b,x⟩;rcases Z with _|Z
 .exact cU hL
 obtain⟨b8,i,b0,a9⟩:=cV hL;clear hL;unfold zY at i;refine aG 1 [(17,vB (decide (s1.2<(p0.length:Int))))] (aF ?_);refine aI i ?_ ?_
 .intro A i;refine aL (aB (aF (cA .normal i (fun o2 L' w'=>∃z E u,L'=[(1,vT p1),(2,vP o 0),(5,vS z o2 E),(14,vS a1 p0 c1),(15,vI (p0.length:Int)),(16,vI s1.2)]/\m.le u/\St u (kR z o2 E 42 2::O) w'/\MRow u o 0 [vS a1 p0 c1]/\RepS C1 u a1 c1 p0/\RepS C1 u z E o2) ?_ ?_)))
  .rintro o2 i _ k ⟨z,E,u,rfl,q,st,a,b,c⟩;refine aB (bA (aA 2 [(16,vI (wr (s1.2+1)))] (aU rfl ?_)));have hL:=b0 _ (sI i);exact xE (cN ⟨(o2,wr (s1.2+1)),z,E,u,hL,rfl,q,st,a,b,c⟩)
  intro o2 i a8;refine bB (aC (eP 18 b i ?_));rintro y i b2 f1 b7 ⟨_,_,rfl,rfl,rfl⟩ b6;refine eS 19 42 18 f1 (.agg (V2 y)) st b6 (cG 7 42 (.agg (V3 eB eB)) st fun b3 w6 st=>(bM (.agg (V2 y)) st fun w7 st=>(aS (aC (bW 21 (.agg #[vS a1 p0 c1]) st a (bK 1 23 9 22 0 (vT y.1) st.h (aM 24 i (zS st b) ?_)))))));rintro c i _ w8 ⟨B,F,D,G,m6,rfl,k,st,r5,r6⟩;refine aA 3 [(25,.agg (Vc c.1 B F D G)),(26,vB c.2)] (cG 8 58 (.agg #[vT eB,v6,v6]) st fun b4 w9 st=>(bM (.agg (Vc c.1 B F D G)) st fun b9 st=>(aH 1 [(9,vB c.2)] (aC (dT 7 i (fun o3 L' w'=>∃l,L'=[(1,vT p1),(2,vP o 0),(5,vS d s1.1 f),(7,vP b3 0),(14,vS a1 p0 c1),(15,vI (p0.length:Int)),(16,vI s1.2),(33,vB o3)]/\m.le l/\St l (kB b4 (Vc c.1 B F D G) 58::kB b3 (V2 y) 42::kR B c.1.2.1 F 9 1::kR D c.1.2.2 G 98 4::kR d s1.1 f 42 2::O) w'/\MRow l o 0 [vS a1 p0 c1]/\RepS C1 l a1 c1 p0/\RepS C1 l d f s1.1/\P4 l B F D G c.1.2) ?_ ?_)))))
  .rintro o3 i _ c0 ⟨l,rfl,q,st,a,b,x,r5,r6⟩;refine aS (aI i ?_ ?_)
   .intro A i;refine bA (aA 1 [(34,vS d s1.1 f)] (bG 35 (.agg (V2 y)) st.t.h (dV 36 42 1 C1 [y] st fun b5 m8 c8 Y st r7=>(mA 37 26 26 42 32 34 36 st.f5 (.inl kr) (x.mono Y) r7.src i fun l1 i a7 c7 m9 c9 e5 st r8=>(aA 1 [(5,vS a7 l1 c7)] (aU rfl ?_))))));have st:=st.f1.t;refine bN ?_;cases i;exact xE (a8 _ _ ⟨a7,c7,m9,rfl,(q.t Y).t e5,st.f1.t.f1.t.f1.t.f1.t,(a.mono Y).mono e5,(b.mono Y).mono e5,r8⟩)
   intro A i;refine aL (bN ?_);cases i;exact xE (a8 _ _ ⟨d,f,l,rfl,q,st.t.t.t.t,a,b,x⟩)
  intro o3 i K;refine aA 2 [(28,vB c.2)] (cH 28 i ?_ ?_)
  .intro A i;refine bK 1 30 9 29 0 (vT c.1.1) st.h (aA 3 [(33,vB (c.1.1.toList==p1.toList))] ?_);cases i;exact bD _ kr (K _ _ ⟨m6,rfl,q.t k,st.f4.f3.f3.f4.f4,a.mono k,b.mono k,x.mono k,r5,r6⟩)
  intro A i;refine aA 5 [(33,vB false)] ?_;cases i;exact bD _ kr (K _ _ ⟨m6,rfl,q.t k,st.f4.f3.f3.f4.f4,a.mono k,b.mono k,x.mono k,r5,r6⟩)
 intro A i;refine cJ (bC ?_);have ho:=a9 _ (sI i);refine bC ?_;exact xE (U _ _ ⟨s1.1,d,f,s,ho,rfl,q,st,x⟩)
def EY(N:Nat)(p0:Tq)(p1:Tq)(s1:Int):Th:=
 if(decide (s1<(List.length p0:Int)))=true then((bV p0 s1).bind fun a=>(bV p1 s1).bind fun b=>if(!((a.1.toList==b.1.toList)&&((a.2.toList==b.2.toList)&&true)))=true then(some (.inr (.inr (false)))) else(some (.inl (IntKind.wrap .i64 (s1+1))))) else(some (.inr (.inl ())))
def KB(N:Nat)(p0:Tq)(p1:Tq):Ti:=
 if((List.length p0:Int) !=(List.length p1:Int))=true then(some false) else((aK (EY N p0 p1) N 0).bind fun a=>(match a with| .inl a=>some true| .inr (z)=>some z))
theorem qCy{p0:Tq}{p1:Tq}{r:Bool}(st:St m (O) w)(D:RepS C1 m a1 c1 p0)(E:RepS C1 m a2 c2 p1)(i:KB N p0 p1=some r):Calls prog 67 #[.agg #[vS a1 p0 c1],.agg #[vS a2 p1 c2]] w fun e w'=>∃m',e= .returned (vB r)/\m.le m'/\St m' (O) w':=by
 unfold KB at i;have q:=m.le_refl;refine bH func67 rfl ntmps67 ?_;refine aC (eA 2 28 (.agg #[vS a1 p0 c1]) st fun f m1 w1 v st a=>(eA 3 28 (.agg #[vS a2 p1 c2]) st fun u S w2 g st c=> ?_));have a:=a.mono g;refine aH 1 [] (aF (aV 1 [(6,vP f 0)] (bW 7 (vS a1 p0 c1) st a (aA 2 [(8,vI (p0.length:Int)),(9,vP u 0)] (bW 10 (vS a2 p1 c2) st c (aH 2 [(12,vB ((p0.length:Int) !=(p1.length:Int)))] (aI i ?_ ?_)))))))
 .intro A i;refine aG 1 [(4,vB false)] (aO ?_);refine aR ?_;cases i;exact aT [4] [vB false] ⟨S,rfl,(q.t v).t g,st⟩
 intro A i;refine aL (aB (aF (aV 1 [(13,vP f 0)] (bW 14 (vS a1 p0 c1) st a (aH 2 [(15,vI (p0.length:Int)),(16,vI 0)] (bB ?_))))));have⟨n,i,R⟩:=aZ i;refine dH (.exit 0) (fun L' w'=>∃(U:Unit),∃B,(.inl U)=n/\L'=[]/\m.le B/\St B (O) w') ?_ ?_
 .rintro _ b ⟨U,B,rfl,rfl,q,st⟩;have i:=R;refine cO (aB (aG 1 [(4,vB true)] (aO ?_)));cases i;exact aT [4] [vB true] ⟨B,rfl,q,st⟩
 intro s;refine cR _ kr (cQ (fun z L' w'=>∃(s1:Int),∃b,aK (EY N p0 p1) z s1=some n/\L'=[(2,vP f 0),(3,vP u 0),(15,vI (p0.length:Int)),(16,vI s1)]/\m.le b/\St b (O) w'/\MRow b f 0 [vS a1 p0 c1]/\RepS C1 b a1 c1 p0/\MRow b u 0 [vS a2 p1 c2]/\RepS C1 b a2 c2 p1) N ⟨0,S,i,rfl,(q.t v).t g,st,a,(D.mono v).mono g,c,(E.mono v).mono g⟩ ?_);rintro z _ w4 ⟨s1,b,hL,rfl,q,st,a,D,c,E⟩;rcases z with _|z
 .exact cU hL
 obtain⟨a6,i,F,k⟩:=cV hL;clear hL;unfold EY at i;refine aG 1 [(17,vB (decide (s1<(p0.length:Int))))] (aF ?_);refine aI i ?_ ?_
 .intro A i;refine aL (aB (aF (bB (aG 2 [(5,vI s1)] (aF (dK [(11,fun w'=>Inv b w'/\True)] kr st fun w5 _ st=> ?_))))));have l:=b.le_refl;refine tA st l ?_;refine aD 0 19 (vP f 0) (.head _) (cM 26 19 1 20 0 (vS a1 p0 c1) (.head _) (fun _ h=>h.1) a (aD 2 21 (vI s1) (.head _) ?_));have⟨o,K,i⟩:=aZ i;refine iU (t:=26) (e:=42) (x:=(.tmp 20)) (y:=(.tmp 21)) 3 22 C1 kr rfl kr (.head _) (bJ (cY (bJ (bJ (cY (bJ eV)))))) (ev (vS a1 p0 c1)) (ev (vI s1)) kr D K ?_;rintro b3 V Z ⟨_,_,rfl,rfl,rfl⟩ G;refine cM 42 22 4 23 V (.agg (V2 o)) (.head _) (fun _ h=>h.1) G (aD 5 24 (vP u 0) (.head _) (cM 26 24 6 25 0 (vS a2 p1 c2) (.head _) (fun _ h=>h.1) c (aD 7 26 (vI s1) (.head _) ?_)));have⟨p,M,i⟩:=aZ i;refine iU (t:=26) (e:=42) (x:=(.tmp 25)) (y:=(.tmp 26)) 8 27 C1 kr rfl kr (.head _) (bJ (cY (bJ (bJ (cY (bJ eV)))))) (ev (vS a2 p1 c2)) (ev (vI s1)) kr E M ?_;rintro b4 Y a5 ⟨_,_,rfl,rfl,rfl⟩ H;refine cM 42 27 9 28 Y (.agg (V2 p)) (.head _) (fun _ h=>h.1) H (aY 10 kr (KV (d:=29) (t:=42) (t2:=42) (x:=(.tmp 23)) (y:=(.tmp 28)) (xs:=(V2 o)) (ys:=(V2 p)) ((o.1.toList==p.1.toList)&&((o.2.toList==p.2.toList)&&true)) kr rfl (ev (.agg (V2 o))) (ev (.agg (V2 p))) kr kr kr (tA st l (cC kr (aB (aI i ?_ ?_))))))
  .intro A i;refine aG 1 [(4,vB false)] (aO ?_);refine bI (aR ?_);have ho:=k _ (sI i);subst ho;have i:=R;refine aR (bI (aR ?_));cases i;exact aT [4] [vB false] ⟨b,rfl,q,st⟩
  intro A i;refine aL (bN (aB (bA (aA 2 [(16,vI (wr (s1+1)))] (aU rfl ?_)))));have hL:=F _ (sI i);exact xE (cN ⟨wr (s1+1),b,hL,rfl,q,st,a,D,c,E⟩)
 intro A i;refine cJ (bC ?_);have ho:=k _ (sI i);refine bC ?_;exact xE (s _ _ ⟨(),b,ho,rfl,q,st⟩)
def EE(N:Nat)(p0:Tq)(p1:Tq):Ti:=
 (KB N p0 p1).bind fun y1=>some y1
theorem qBt{p0:Tq}{p1:Tq}{r:Bool}(st:St m (O) w)(c:RepS C1 m a1 c1 p0)(d:RepS C1 m a2 c2 p1)(i:EE N p0 p1=some r):Calls prog 33 #[vS a1 p0 c1,vS a2 p1 c2] w fun e w'=>∃m',e= .returned (vB r)/\m.le m'/\St m' (O) w':=by
 unfold EE at i;have q:=m.le_refl;refine bH func33 rfl ntmps33 ?_;refine aG 1 [] (aC ?_);refine aA 4 [(6,.agg #[vS a1 p0 c1]),(8,.agg #[vS a2 p1 c2])] (aM 9 i (qCy st c d) ?_);rintro y1 i _ f ⟨b,rfl,a,st⟩;refine aH 1 [(4,vB y1)] (aO ?_);obtain rfl:=sI i;exact aT [4] [vB y1] ⟨b,rfl,q.t a,st⟩
def FT(N:Nat)(p0:zG)(p1:Int)(p2:BA)(p3:BA):Option dU:=
 if(!p0.2.1)=true then(some ((⟨#[]⟩:BA),(⟨#[]⟩:BA),0,(⟨#[]⟩:BA),0,0)) else((BZ N p1 p2 p3).bind fun y1=>if((aQ p0.2.2.2.2 y1).isSome)=true then(some (((aQ p0.2.2.2.2 y1).getD ((⟨#[]⟩:BA),(⟨#[]⟩:BA),0,(⟨#[]⟩:BA),0,0)).1,((aQ p0.2.2.2.2 y1).getD ((⟨#[]⟩:BA),(⟨#[]⟩:BA),0,(⟨#[]⟩:BA),0,0)).2.1,((aQ p0.2.2.2.2 y1).getD ((⟨#[]⟩:BA),(⟨#[]⟩:BA),0,(⟨#[]⟩:BA),0,0)).2.2.1,((aQ p0.2.2.2.2 y1).getD ((⟨#[]⟩:BA),(⟨#[]⟩:BA),0,(⟨#[]⟩:BA),0,0)).2.2.2.1,((aQ p0.2.2.2.2 y1).getD ((⟨#[]⟩:BA),(⟨#[]⟩:BA),0,(⟨#[]⟩:BA),0,0)).2.2.2.2.1,((aQ p0.2.2.2.2 y1).getD ((⟨#[]⟩:BA),(⟨#[]⟩:BA),0,(⟨#[]⟩:BA),0,0)).2.2.2.2.2)) else(some (y1.2.1,p3,p1,(⟨#[]⟩:BA),0,0)))
theorem qDj{p0:zG}{p1:Int}{p2:BA}{p3:BA}{g:Option Nat}{o:Array MapEntry}{l:Nat}{b:Option Nat}{p:Array MapEntry}{n:Nat}{r:dU}(st:St m (cB g o l::cB b p n::kB bp0 #[vS a1 p0.1 c1,vB p0.2.1,.map g,vS a2 p0.2.2.2.1 c2,.map b] 76::O) w)(R:RepS C1 m a1 c1 p0.1)(S:MapQ (fun s:BA=>Value.string s) C6 true m g o l p0.2.2.1)(U:RepS aJ m a2 c2 p0.2.2.2.1)(B:MapQ eQ C7 true m b p n p0.2.2.2.2)(i:FT N p0 p1 p2 p3=some r):Calls prog 69 #[vP bp0 0,vI p1,vT p2,vT p3] w fun e w'=>∃m',e= .returned (.agg (Vg r))/\m.le m'/\St m' (cB g o l::cB b p n::kB bp0 #[vS a1 p0.1 c1,vB p0.2.1,.map g,vS a2 p0.2.2.2.1 c2,.map b] 76::O) w':=by
 unfold FT at i;have q:=m.le_refl;refine bH func69 rfl ntmps69 ?_;refine aC (cG 8 66 (.agg (Vf eB eB 0 eB 0 0)) st fun M V st=>(aS (aF (aC (bK 3 15 4 14 1 (vB p0.2.1) st.t.t.t.h (aH 1 [(16,vB (!p0.2.1))] (aI i ?_ ?_)))))))
 .intro A i;refine aV 1 [(17,.agg (Vf eB eB 0 eB 0 0))] ?_;refine bM (.agg (Vf eB eB 0 eB 0 0)) st fun a st=> ?_;refine aS (aO (aR ?_));cases i;refine dO 8 66 [] [] st.h ?_;exact⟨m,rfl,q,st.t.f2.f2.f2⟩
 intro A i;refine aL (aB (aV 3 [(18,vI p1),(19,vT p2),(20,vT p3)] (aM 21 i (TO st) ?_)));rintro y1 i _ Y ⟨f,rfl,u,st⟩;have q:=q.t u;refine cG 9 116 (.agg #[vI 0,vT eB,vT eB]) st fun E Z st=> ?_;refine bM (.agg (Vd y1)) st fun w5 st=> ?_;refine aS (aF (aF (dK [(12,fun w'=>Inv f w'/\Piece.holds f w' (kB E (Vd y1) 116)/\Piece.holds f w' (kB bp0 #[vS a1 p0.1 c1,vB p0.2.1,.map g,vS a2 p0.2.2.2.1 c2,.map b] 76)/\True)] kr st fun w6 _ st=> ?_)));have a:=f.le_refl;refine⟨⟨.inr ⟨Inv.anti st.inv a,Piece.holds_anti st.h a,Piece.holds_anti st.t.t.t.t.h a,trivial⟩,trivial⟩,?_⟩;refine aD 0 23 (vP bp0 0) (.head _) (aD 1 24 (vP bp0 0) (.head _) (aD 2 25 (vP bp0 4) (.head _) (cW 74 25 3 26 4 (.map b) (.head _) (fun _ h=>h.2.2.1) (cW 116 9 4 27 0 (.agg (Vd y1)) (.head _) (fun _ h=>h.2.1) (nJ [5,9] kr (by simp) (oS ?_ ?_))))))
 .refine rS (ek:=eQ) (c:=C7) (agg:=true) (k:=y1) (zx:=(eB,eB,0,eB,0,0)) (zcs:=[vT eB,vT eB,vI 0,vT eB,vI 0,vI 0]) (z:=(.agg (Vf eB eB 0 eB 0 0))) (kt:=116) (et:=66) (d:=28) (t:=74) (x:=(.tmp 26)) (y:=(.tmp 27)) (ok:=true) kr rfl (ev (.map b)) (ev (.agg (Vd y1))) kr (CS kr kr (fun _ _=>kr) (fun _ _=>kr)) st.t.t.t.h (B.mono u) ⟨_,_,rfl,rfl,⟨_,_,rfl,rfl,⟨_,_,rfl,rfl,⟨_,_,rfl,rfl,⟨_,_,rfl,rfl,rfl⟩⟩⟩⟩⟩ rfl ?_;rintro v ⟨_,_,rfl,rfl,⟨_,_,rfl,rfl,⟨_,_,rfl,rfl,⟨_,_,rfl,rfl,⟨_,_,rfl,rfl,rfl⟩⟩⟩⟩⟩;refine⟨⟨.inr ⟨Inv.anti st.inv a,Piece.holds_anti st.h a,Piece.holds_anti st.t.t.t.t.h a,trivial⟩,trivial⟩,?_⟩
  refine aD 6 22 (.tuple #[.agg (Vf (((aQ p0.2.2.2.2 y1).getD (eB,eB,0,eB,0,0)).1) (((aQ p0.2.2.2.2 y1).getD (eB,eB,0,eB,0,0)).2.1) (((aQ p0.2.2.2.2 y1).getD (eB,eB,0,eB,0,0)).2.2.1) (((aQ p0.2.2.2.2 y1).getD (eB,eB,0,eB,0,0)).2.2.2.1) (((aQ p0.2.2.2.2 y1).getD (eB,eB,0,eB,0,0)).2.2.2.2.1) (((aQ p0.2.2.2.2 y1).getD (eB,eB,0,eB,0,0)).2.2.2.2.2)),vB ((aQ p0.2.2.2.2 y1).isSome)]) (.head _) (aD 7 29 (.agg (Vf (((aQ p0.2.2.2.2 y1).getD (eB,eB,0,eB,0,0)).1) (((aQ p0.2.2.2.2 y1).getD (eB,eB,0,eB,0,0)).2.1) (((aQ p0.2.2.2.2 y1).getD (eB,eB,0,eB,0,0)).2.2.1) (((aQ p0.2.2.2.2 y1).getD (eB,eB,0,eB,0,0)).2.2.2.1) (((aQ p0.2.2.2.2 y1).getD (eB,eB,0,eB,0,0)).2.2.2.2.1) (((aQ p0.2.2.2.2 y1).getD (eB,eB,0,eB,0,0)).2.2.2.2.2))) (.head _) (aD 8 30 (vB ((aQ p0.2.2.2.2 y1).isSome)) (.head _) (aY 9 kr (lV 10 66 (.agg (Vf eB eB 0 eB 0 0)) st fun F G st=>(⟨⟨.inr ⟨Inv.anti st.inv a,Piece.holds_anti st.t.h a,Piece.holds_anti st.t.t.t.t.t.h a,trivial⟩,trivial⟩,?_⟩)))))
  refine aY 10 kr (eC 66 10 29 (.agg (Vf (((aQ p0.2.2.2.2 y1).getD (eB,eB,0,eB,0,0)).1) (((aQ p0.2.2.2.2 y1).getD (eB,eB,0,eB,0,0)).2.1) (((aQ p0.2.2.2.2 y1).getD (eB,eB,0,eB,0,0)).2.2.1) (((aQ p0.2.2.2.2 y1).getD (eB,eB,0,eB,0,0)).2.2.2.1) (((aQ p0.2.2.2.2 y1).getD (eB,eB,0,eB,0,0)).2.2.2.2.1) (((aQ p0.2.2.2.2 y1).getD (eB,eB,0,eB,0,0)).2.2.2.2.2))) st fun H st=>(⟨⟨.inr ⟨Inv.anti st.inv a,Piece.holds_anti st.t.h a,Piece.holds_anti st.t.t.t.t.t.h a,trivial⟩,trivial⟩,?_⟩));refine aD 11 11 (vB ((aQ p0.2.2.2.2 y1).isSome)) (.head _) (cC kr (aB (aG 1 [(31,vB ((aQ p0.2.2.2.2 y1).isSome))] (aI i ?_ ?_))))
  .intro A i;refine aC (bG 32 (.agg (Vf (((aQ p0.2.2.2.2 y1).getD (eB,eB,0,eB,0,0)).1) (((aQ p0.2.2.2.2 y1).getD (eB,eB,0,eB,0,0)).2.1) (((aQ p0.2.2.2.2 y1).getD (eB,eB,0,eB,0,0)).2.2.1) (((aQ p0.2.2.2.2 y1).getD (eB,eB,0,eB,0,0)).2.2.2.1) (((aQ p0.2.2.2.2 y1).getD (eB,eB,0,eB,0,0)).2.2.2.2.1) (((aQ p0.2.2.2.2 y1).getD (eB,eB,0,eB,0,0)).2.2.2.2.2))) st.h (bM (.agg (Vf (((aQ p0.2.2.2.2 y1).getD (eB,eB,0,eB,0,0)).1) (((aQ p0.2.2.2.2 y1).getD (eB,eB,0,eB,0,0)).2.1) (((aQ p0.2.2.2.2 y1).getD (eB,eB,0,eB,0,0)).2.2.1) (((aQ p0.2.2.2.2 y1).getD (eB,eB,0,eB,0,0)).2.2.2.1) (((aQ p0.2.2.2.2 y1).getD (eB,eB,0,eB,0,0)).2.2.2.2.1) (((aQ p0.2.2.2.2 y1).getD (eB,eB,0,eB,0,0)).2.2.2.2.2))) st.f2 fun K st=>(aS (aO (aR ?_)))));obtain rfl:=sI i;refine dO 8 66 [] [] st.h ?_;exact⟨f,rfl,q,st.t.t.t.f2.f2.f2⟩
  intro A i;refine aL (aB (aC (bK 1 34 9 33 1 (vT y1.2.1) st.t.h (aA 3 [(37,.agg (Vf y1.2.1 p3 p1 eB 0 0))] (bM (.agg (Vf y1.2.1 p3 p1 eB 0 0)) st.f2 fun D st=>(aS (aO ?_)))))));cases i;refine dO 8 66 [] [] st.h ?_;exact⟨f,rfl,q,st.t.t.t.f2.f2.f2⟩
 refine lV 10 66 (.agg (Vf eB eB 0 eB 0 0)) st fun F G st=> ?_;refine⟨⟨.inr ⟨Inv.anti st.inv a,Piece.holds_anti st.t.h a,Piece.holds_anti st.t.t.t.t.t.h a,trivial⟩,trivial⟩,?_⟩;refine aY 5 kr (rS (ek:=eQ) (c:=C7) (agg:=true) (k:=y1) (zx:=(eB,eB,0,eB,0,0)) (zcs:=[vT eB,vT eB,vI 0,vT eB,vI 0,vI 0]) (z:=(.agg (Vf eB eB 0 eB 0 0))) (kt:=116) (et:=66) (d:=28) (t:=74) (x:=(.tmp 26)) (y:=(.tmp 27)) (ok:=true) kr rfl (ev (.map b)) (ev (.agg (Vd y1))) kr (CS kr kr (fun _ _=>kr) (fun _ _=>kr)) st.t.t.t.t.h (B.mono u) ⟨_,_,rfl,rfl,⟨_,_,rfl,rfl,⟨_,_,rfl,rfl,⟨_,_,rfl,rfl,⟨_,_,rfl,rfl,rfl⟩⟩⟩⟩⟩ rfl ?_);rintro v ⟨_,_,rfl,rfl,⟨_,_,rfl,rfl,⟨_,_,rfl,rfl,⟨_,_,rfl,rfl,⟨_,_,rfl,rfl,rfl⟩⟩⟩⟩⟩;refine⟨⟨.inr ⟨Inv.anti st.inv a,Piece.holds_anti st.t.h a,Piece.holds_anti st.t.t.t.t.t.h a,trivial⟩,trivial⟩,?_⟩
 refine aD 6 22 (.tuple #[.agg (Vf (((aQ p0.2.2.2.2 y1).getD (eB,eB,0,eB,0,0)).1) (((aQ p0.2.2.2.2 y1).getD (eB,eB,0,eB,0,0)).2.1) (((aQ p0.2.2.2.2 y1).getD (eB,eB,0,eB,0,0)).2.2.1) (((aQ p0.2.2.2.2 y1).getD (eB,eB,0,eB,0,0)).2.2.2.1) (((aQ p0.2.2.2.2 y1).getD (eB,eB,0,eB,0,0)).2.2.2.2.1) (((aQ p0.2.2.2.2 y1).getD (eB,eB,0,eB,0,0)).2.2.2.2.2)),vB ((aQ p0.2.2.2.2 y1).isSome)]) (.head _) (aD 7 29 (.agg (Vf (((aQ p0.2.2.2.2 y1).getD (eB,eB,0,eB,0,0)).1) (((aQ p0.2.2.2.2 y1).getD (eB,eB,0,eB,0,0)).2.1) (((aQ p0.2.2.2.2 y1).getD (eB,eB,0,eB,0,0)).2.2.1) (((aQ p0.2.2.2.2 y1).getD (eB,eB,0,eB,0,0)).2.2.2.1) (((aQ p0.2.2.2.2 y1).getD (eB,eB,0,eB,0,0)).2.2.2.2.1) (((aQ p0.2.2.2.2 y1).getD (eB,eB,0,eB,0,0)).2.2.2.2.2))) (.head _) (aD 8 30 (vB ((aQ p0.2.2.2.2 y1).isSome)) (.head _) (aY 10 kr (eC 66 10 29 (.agg (Vf (((aQ p0.2.2.2.2 y1).getD (eB,eB,0,eB,0,0)).1) (((aQ p0.2.2.2.2 y1).getD (eB,eB,0,eB,0,0)).2.1) (((aQ p0.2.2.2.2 y1).getD (eB,eB,0,eB,0,0)).2.2.1) (((aQ p0.2.2.2.2 y1).getD (eB,eB,0,eB,0,0)).2.2.2.1) (((aQ p0.2.2.2.2 y1).getD (eB,eB,0,eB,0,0)).2.2.2.2.1) (((aQ p0.2.2.2.2 y1).getD (eB,eB,0,eB,0,0)).2.2.2.2.2))) st fun H st=>(⟨⟨.inr ⟨Inv.anti st.inv a,Piece.holds_anti st.t.h a,Piece.holds_anti st.t.t.t.t.t.h a,trivial⟩,trivial⟩,?_⟩)))))
 refine aD 11 11 (vB ((aQ p0.2.2.2.2 y1).isSome)) (.head _) (cC kr (aB (aG 1 [(31,vB ((aQ p0.2.2.2.2 y1).isSome))] (aI i ?_ ?_))))
 .intro A i;refine aC (bG 32 (.agg (Vf (((aQ p0.2.2.2.2 y1).getD (eB,eB,0,eB,0,0)).1) (((aQ p0.2.2.2.2 y1).getD (eB,eB,0,eB,0,0)).2.1) (((aQ p0.2.2.2.2 y1).getD (eB,eB,0,eB,0,0)).2.2.1) (((aQ p0.2.2.2.2 y1).getD (eB,eB,0,eB,0,0)).2.2.2.1) (((aQ p0.2.2.2.2 y1).getD (eB,eB,0,eB,0,0)).2.2.2.2.1) (((aQ p0.2.2.2.2 y1).getD (eB,eB,0,eB,0,0)).2.2.2.2.2))) st.h (bM (.agg (Vf (((aQ p0.2.2.2.2 y1).getD (eB,eB,0,eB,0,0)).1) (((aQ p0.2.2.2.2 y1).getD (eB,eB,0,eB,0,0)).2.1) (((aQ p0.2.2.2.2 y1).getD (eB,eB,0,eB,0,0)).2.2.1) (((aQ p0.2.2.2.2 y1).getD (eB,eB,0,eB,0,0)).2.2.2.1) (((aQ p0.2.2.2.2 y1).getD (eB,eB,0,eB,0,0)).2.2.2.2.1) (((aQ p0.2.2.2.2 y1).getD (eB,eB,0,eB,0,0)).2.2.2.2.2))) st.f2 fun K st=>(aS (aO (aR ?_)))));obtain rfl:=sI i;refine dO 8 66 [] [] st.h ?_;exact⟨f,rfl,q,st.t.t.t.f2.f2.f2⟩
 intro A i;refine aL (aB (aC (bK 1 34 9 33 1 (vT y1.2.1) st.t.h (aA 3 [(37,.agg (Vf y1.2.1 p3 p1 eB 0 0))] (bM (.agg (Vf y1.2.1 p3 p1 eB 0 0)) st.f2 fun D st=>(aS (aO ?_)))))));cases i;refine dO 8 66 [] [] st.h ?_;exact⟨f,rfl,q,st.t.t.t.f2.f2.f2⟩
def xP(N:Nat)(p0:Tq)(p1:Int)(p2:BA)(p3:BA):Option dU:=
 (tV N p0).bind fun y1=>(FT N y1 p1 p2 p3).bind fun a=>some a
theorem BI{p0:Tq}{p1:Int}{p2:BA}{p3:BA}{r:dU}(st:St m (O) w)(g:RepS C1 m a1 c1 p0)(i:xP N p0 p1 p2 p3=some r):Calls prog 37 #[.agg #[vS a1 p0 c1],vI p1,vT p2,vT p3] w fun e w'=>∃m',e= .returned (.agg (Vg r))/\m.le m'/\St m' (O) w':=by
 unfold xP at i;have q:=m.le_refl;refine bH func37 rfl ntmps37 ?_;refine aC (eA 4 28 (.agg #[vS a1 p0 c1]) st fun A G R a st b=>(cG 8 66 (.agg (Vf eB eB 0 eB 0 0)) st fun B S st=>(aS (aC (bW 9 (.agg #[vS a1 p0 c1]) st b (aM 10 i (GH st (g.mono a)) ?_))))));rintro y1 i _ U ⟨D,y,E,K,v,s,z,F,M,x,u,H,rfl,c,st,k,l,n,o⟩;refine aA 3 [(11,vI p1),(12,vT p2),(13,vT p3)] (aM 14 i (qDj st.f2.f2.f2 k l n o) ?_);rintro p i _ V ⟨f,rfl,d,st⟩;refine bM (.agg (Vg p)) st.f3 fun Y st=> ?_;refine aS (aO ?_);obtain rfl:=sI i;refine dO 8 66 [] [] st.h ?_;exact⟨f,rfl,((q.t a).t c).t d,st.t.t.t.t⟩
def FM(N:Nat)(p0:Tq)(p1:Int)(p2:BA)(p3:BA):Option dU:=
 (sK N p0).bind fun y1=>if(y1 !=0)=true then(some ((⟨#[]⟩:BA),(⟨#[]⟩:BA),0,(⟨#[]⟩:BA),0,0)) else((AY N p0).bind fun a=>(AQ N a p1 p2 p3).bind fun a=>some a)
theorem rP{p0:Tq}{p1:Int}{p2:BA}{p3:BA}{r:dU}(st:St m (O) w)(d:RepS C1 m a1 c1 p0)(i:FM N p0 p1 p2 p3=some r):Calls prog 38 #[.agg #[vS a1 p0 c1],vI p1,vT p2,vT p3] w fun e w'=>∃m',e= .returned (.agg (Vg r))/\m.le m'/\St m' (O) w':=by
 unfold FM at i;have q:=m.le_refl;refine bH func38 rfl ntmps38 ?_;refine aC (eA 4 28 (.agg #[vS a1 p0 c1]) st fun x D F a st c=>(cG 8 66 (.agg (Vf eB eB 0 eB 0 0)) st fun y G st=>(aS (aF (aC (bW 9 (.agg #[vS a1 p0 c1]) st c (aM 10 i (wV st (d.mono a)) ?_)))))));rintro y1 i _ H ⟨k,rfl,b,st⟩;refine aH 1 [(11,vB (y1 !=0))] (aI i ?_ ?_)
 .intro A i;refine aV 1 [(12,.agg (Vf eB eB 0 eB 0 0))] ?_;refine bM (.agg (Vf eB eB 0 eB 0 0)) st fun f st=> ?_;refine aS (aO (aR ?_));cases i;refine dO 8 66 [] [] st.h ?_;exact⟨k,rfl,(q.t a).t b,st.t⟩
 intro A i;refine aL (aB (aC (bW 13 (.agg #[vS a1 p0 c1]) st (c.mono b) (aM 14 i (RS st ((d.mono a).mono b)) ?_))));rintro p i _ K ⟨u,z,v,B,E,rfl,f,st,n,o⟩;refine aA 3 [(15,vI p1),(16,vT p2),(17,vT p3)] (aM 18 i (RM (p0:=p) st n o) ?_);rintro s i _ M ⟨l,rfl,g,st⟩;refine bM (.agg (Vg s)) st.f2 fun R st=> ?_;refine aU rfl ?_;have st:=st.f1.t.f1.t;refine aB (aO ?_);obtain rfl:=sI i;refine dO 8 66 [] [] st.h ?_;exact⟨l,rfl,(((q.t a).t b).t f).t g,st.t⟩
end
section
open Go Go.Dc Tryz
set_option maxHeartbeats 4000000
set_option maxRecDepth 100000
variable {N c1 bp1 c2:Nat} {m:Mem} {O:List Piece} {w:World} {a1 a2:Option Addr}
def GB(N:Nat)(p0:Tq)(p1:dU):Option T33:=
 (BJ N p0 p1.2.2.2.1).bind fun y1=>(if(!y1.2)=true then(some true) else(if(decide (p1.2.2.2.2.1<0))=true then(some true) else(if(decide (p1.2.2.2.2.1>=(List.length y1.1.2.2:Int)))=true then(some true) else((bV y1.1.2.2 p1.2.2.2.2.1).bind fun a=>if(a.1 !=p1.2.2.1)=true then(some true) else((bV y1.1.2.2 p1.2.2.2.2.1).bind fun a=>some (!(a.2.1.toList==p1.2.1.toList)))))):Ti).bind fun a=>if a=true then(some (((⟨#[]⟩:BA),([]:T8),([]:dZ)),0,false)) else(some (y1.1,p1.2.2.2.2.1,true))
theorem qDs{p0:Tq}{p1:dU}{r:T33}(st:St m (O) w)(r1:RepS C1 m a1 c1 p0)(i:GB N p0 p1=some r):Calls prog 39 #[.agg #[vS a1 p0 c1],.agg (Vg p1)] w fun e w'=>∃z D B E m',e= .returned (.tuple #[.agg (Vc r.1 z D B E),vI r.2.1,vB r.2.2])/\m.le m'/\St m' (kR z r.1.2.1 D 9 1::kR B r.1.2.2 E 98 4::O) w'/\P4 m' z D B E r.1.2:=by
 unfold GB at i;have q:=m.le_refl;refine bH func39 rfl ntmps39 ?_;refine aC (eA 2 28 (.agg #[vS a1 p0 c1]) st fun b1 m1 w1 M st V=>(eA 3 66 (.agg (Vg p1)) st fun k m2 w2 F st a=>(cG 4 58 (.agg #[vT eB,v6,v6]) st fun s w3 st=>(aH 2 [] (aC (bW 8 (.agg #[vS a1 p0 c1]) st (V.mono F) (aA 1 [(9,vP k 3)] (bW 10 (vT p1.2.2.2.1) st (a.drop 3) (aM 11 i (SD st ((r1.mono M).mono F)) ?_)))))))));rintro y1 i _ w4 ⟨g,l,c,d,p,rfl,R,st,u,o⟩;have q:=((q.t M).t F).t R;have a:=a.mono R;refine aA 3 [(12,.agg (Vc y1.1 g l c d)),(13,vB y1.2)] (bM (.agg (Vc y1.1 g l c d)) st.f2 fun w5 st=>(aH 1 [(6,vB y1.2)] (aF (aF (cA .normal i (fun G L' w'=>∃f,L'=[(3,vP k 0),(4,vP s 0),(52,vB G)]/\m.le f/\St f (kB s (Vc y1.1 g l c d) 58::kR g y1.1.2.1 l 9 1::kR c y1.1.2.2 d 98 4::O) w'/\MRow f k 0 (Vh p1)/\P4 f g l c d y1.1.2) ?_ ?_)))))
 .rintro G i _ H ⟨f,rfl,q,st,a,u,o⟩;refine aB (aI i ?_ ?_)
  .intro A i;refine aV 1 [(53,.agg #[vT eB,v2,vc])] ?_;refine bM (.agg #[vT eB,v2,vc]) st fun n st=> ?_;refine aA 2 [(5,vI 0),(6,vB false)] (aU rfl ?_);have st:=st.f1.t.f1.t;refine aB (aO (aR ?_));cases i;refine dO 4 58 [5,6] [vI 0,vB false] st.h ?_;have st:=(st.nilroom 9 1).nilroom 98 4;exact⟨none,0,none,0,f,rfl,q,st.f2.t.f1,(RepS.nil _ _),(RepS.nil _ _)⟩
  intro A i;refine aL (aB (aF (dK [(6,fun w'=>Inv f w'/\True),(3,fun w'=>Inv f w'/\Piece.holds f w' (kB s (Vc y1.1 g l c d) 58)/\True)] kr st fun S _ st=> ?_)));have n:=f.le_refl;refine⟨⟨iA st n,⟨.inr ⟨Inv.anti st.inv n,Piece.holds_anti st.h n,trivial⟩,trivial⟩⟩,?_⟩;refine cW 58 4 0 54 0 (.agg (Vc y1.1 g l c d)) (.tail _ (.head _)) (fun _ h=>h.2.1) (aD 1 55 (vP k 4) (.head _) (cM 3 55 2 56 4 (vI p1.2.2.2.2.1) (.head _) (fun _ h=>h.1) (a.drop 4) (aY 3 kr (eC 58 4 54 (.agg (Vc y1.1 g l c d)) st fun v st=>(⟨⟨iA st n,⟨.inl rfl,trivial⟩⟩,?_⟩)))));refine aD 4 5 (vI p1.2.2.2.2.1) (.head _) (aD 5 6 (vB true) (.head _) (cC kr (aB (aO ?_))));cases i;refine dO 4 58 [5,6] [vI p1.2.2.2.2.1,vB true] st.h ?_;exact⟨g,l,c,d,f,rfl,q,st.t.f1.f1,u,o⟩
 intro G i K;refine dK [(39,fun w'=>Inv p w'/\Piece.holds p w' (kB s (Vc y1.1 g l c d) 58)/\True)] kr st fun w7 _ st=> ?_;have v:=p.le_refl;refine⟨⟨.inr ⟨Inv.anti st.inv v,Piece.holds_anti st.h v,trivial⟩,trivial⟩,?_⟩;refine aD 0 14 (vB y1.2) (.head _) (aD 1 15 (vB (!y1.2)) (.head _) (aD 2 16 (vB (!y1.2)) (.head _) ?_));rcases dJ (!y1.2) with A|A
 .rw[if_pos A] at i;refine iM (t:=16) (b:=true) (!y1.2) kr A ?_;refine aW 3 17 (.head _) (aW 4 18 (.head _) (aW 5 19 (.head _) (aD 6 20 (vB true) (.head _) (aD 7 21 (vB true) (.head _) (aW 8 22 (.head _) (aW 9 23 (.head _) (aW 10 24 (.head _) (aW 11 25 (.head _) (aW 12 26 (.head _) (aW 13 27 (.head _) (aD 14 28 (vB true) (.head _) (aD 15 29 (vB true) (.head _) (aW 16 30 (.head _) (aW 17 31 (.head _) (aW 18 32 (.head _) (aW 19 33 (.head _) (aW 20 34 (.head _) (aW 21 35 (.head _) (aW 22 36 (.head _) (aW 23 37 (.head _) (aW 24 38 (.head _) (aW 25 39 (.head _) (aD 26 40 (vB true) (.head _) (aD 27 41 (vB true) (.head _) (aW 28 42 (.head _) (aW 29 43 (.head _) (aW 30 44 (.head _) (aW 31 45 (.head _) (aW 32 46 (.head _) (aW 33 47 (.head _) (aW 34 48 (.head _) (aW 35 49 (.head _) (aW 36 50 (.head _) (aW 37 51 (.head _) (aD 38 52 (vB true) (.head _) ?_)))))))))))))))))))))))))))))))))));cases i;exact cC kr (eG _ kr (K _ _ ⟨p,rfl,q,st.f2.f2.f2,a,u,o⟩))
 rw[if_neg (not_true A)] at i;refine iM (t:=16) (b:=false) (!y1.2) kr A ?_;refine aD 3 17 (vP k 4) (.head _) (cM 3 17 4 18 4 (vI p1.2.2.2.2.1) (.head _) (fun _ h=>h.1) (a.drop 4) (aD 5 19 (vB (decide (p1.2.2.2.2.1<0))) (.head _) (aD 6 20 (vB (decide (p1.2.2.2.2.1<0))) (.head _) (aD 7 21 (vB (decide (p1.2.2.2.2.1<0))) (.head _) ?_))));rcases dJ (decide (p1.2.2.2.2.1<0)) with A|A
 .rw[if_pos A] at i;refine iM (t:=21) (b:=true) (decide (p1.2.2.2.2.1<0)) kr A ?_;refine aW 8 22 (.head _) (aW 9 23 (.head _) (aW 10 24 (.head _) (aW 11 25 (.head _) (aW 12 26 (.head _) (aW 13 27 (.head _) (aD 14 28 (vB true) (.head _) (aD 15 29 (vB true) (.head _) (aW 16 30 (.head _) (aW 17 31 (.head _) (aW 18 32 (.head _) (aW 19 33 (.head _) (aW 20 34 (.head _) (aW 21 35 (.head _) (aW 22 36 (.head _) (aW 23 37 (.head _) (aW 24 38 (.head _) (aW 25 39 (.head _) (aD 26 40 (vB true) (.head _) (aD 27 41 (vB true) (.head _) (aW 28 42 (.head _) (aW 29 43 (.head _) (aW 30 44 (.head _) (aW 31 45 (.head _) (aW 32 46 (.head _) (aW 33 47 (.head _) (aW 34 48 (.head _) (aW 35 49 (.head _) (aW 36 50 (.head _) (aW 37 51 (.head _) (aD 38 52 (vB true) (.head _) ?_))))))))))))))))))))))))))))));cases i;exact cC kr (eG _ kr (K _ _ ⟨p,rfl,q,st.f2.f2.f2,a,u,o⟩))
 rw[if_neg (not_true A)] at i;refine iM (t:=21) (b:=false) (decide (p1.2.2.2.2.1<0)) kr A ?_;refine aD 8 22 (vP k 4) (.head _) (cM 3 22 9 23 4 (vI p1.2.2.2.2.1) (.head _) (fun _ h=>h.1) (a.drop 4) (aD 10 24 (vP s 2) (.head _) (cW 56 24 11 25 2 (vS c y1.1.2.2 d) (.head _) (fun _ h=>h.2.1) (aD 12 26 (vI (y1.1.2.2.length:Int)) (.head _) (aD 13 27 (vB (decide (p1.2.2.2.2.1>=(y1.1.2.2.length:Int)))) (.head _) (aD 14 28 (vB (decide (p1.2.2.2.2.1>=(y1.1.2.2.length:Int)))) (.head _) (aD 15 29 (vB (decide (p1.2.2.2.2.1>=(y1.1.2.2.length:Int)))) (.head _) ?_)))))));rcases dJ (decide (p1.2.2.2.2.1>=(y1.1.2.2.length:Int))) with A|A
 .rw[if_pos A] at i;refine iM (t:=29) (b:=true) (decide (p1.2.2.2.2.1>=(y1.1.2.2.length:Int))) kr A ?_;refine aW 16 30 (.head _) (aW 17 31 (.head _) (aW 18 32 (.head _) (aW 19 33 (.head _) (aW 20 34 (.head _) (aW 21 35 (.head _) (aW 22 36 (.head _) (aW 23 37 (.head _) (aW 24 38 (.head _) (aW 25 39 (.head _) (aD 26 40 (vB true) (.head _) (aD 27 41 (vB true) (.head _) (aW 28 42 (.head _) (aW 29 43 (.head _) (aW 30 44 (.head _) (aW 31 45 (.head _) (aW 32 46 (.head _) (aW 33 47 (.head _) (aW 34 48 (.head _) (aW 35 49 (.head _) (aW 36 50 (.head _) (aW 37 51 (.head _) (aD 38 52 (vB true) (.head _) ?_))))))))))))))))))))));cases i;exact cC kr (eG _ kr (K _ _ ⟨p,rfl,q,st.f2.f2.f2,a,u,o⟩))
 rw[if_neg (not_true A)] at i;refine iM (t:=29) (b:=false) (decide (p1.2.2.2.2.1>=(y1.1.2.2.length:Int))) kr A ?_;refine aD 16 30 (vP s 2) (.head _) (cW 56 30 17 31 2 (vS c y1.1.2.2 d) (.head _) (fun _ h=>h.2.1) (aD 18 32 (vP k 4) (.head _) (cM 3 32 19 33 4 (vI p1.2.2.2.2.1) (.head _) (fun _ h=>h.1) (a.drop 4) ?_)));have⟨n,a8,i⟩:=aZ i;refine iU (t:=56) (e:=98) (x:=(.tmp 31)) (y:=(.tmp 33)) 20 34 C5 kr rfl kr (.head _) (bJ (bJ eV)) (ev (vS c y1.1.2.2 d)) (ev (vI p1.2.2.2.2.1)) kr o a8 ?_;rintro b4 S b0 ⟨_,_,rfl,rfl,⟨_,_,rfl,rfl,⟨_,_,rfl,⟨a4,c4,rfl,r4⟩,⟨a5,c5,rfl,r5⟩⟩⟩⟩ Y;refine aD 21 35 (vP b4 S) (.head _) (cM 3 35 22 36 S (vI n.1) (.head _) (fun _ h=>h.1) Y (aD 23 37 (vP k 2) (.head _) (cM 3 37 24 38 2 (vI p1.2.2.1) (.head _) (fun _ h=>h.1) (a.drop 2) (aD 25 39 (vB (n.1 !=p1.2.2.1)) (.head _) (aD 26 40 (vB (n.1 !=p1.2.2.1)) (.head _) (aD 27 41 (vB (n.1 !=p1.2.2.1)) (.head _) ?_))))));rcases dJ (n.1 !=p1.2.2.1) with A|A
 .rw[if_pos A] at i;refine iM (t:=41) (b:=true) (n.1 !=p1.2.2.1) kr A ?_;refine aW 28 42 (.head _) (aW 29 43 (.head _) (aW 30 44 (.head _) (aW 31 45 (.head _) (aW 32 46 (.head _) (aW 33 47 (.head _) (aW 34 48 (.head _) (aW 35 49 (.head _) (aW 36 50 (.head _) (aW 37 51 (.head _) (aD 38 52 (vB true) (.head _) ?_))))))))));cases i;exact cC kr (eG _ kr (K _ _ ⟨p,rfl,q,st.f2.f2.f2,a,u,o⟩))
 rw[if_neg (not_true A)] at i;refine iM (t:=41) (b:=false) (n.1 !=p1.2.2.1) kr A ?_;refine aD 28 42 (vP s 2) (.head _) (cW 56 42 29 43 2 (vS c y1.1.2.2 d) (.head _) (fun _ h=>h.2.1) (aD 30 44 (vP k 4) (.head _) (cM 3 44 31 45 4 (vI p1.2.2.2.2.1) (.head _) (fun _ h=>h.1) (a.drop 4) ?_)));have⟨H,a9,i⟩:=aZ i;refine iU (t:=56) (e:=98) (x:=(.tmp 43)) (y:=(.tmp 45)) 32 46 C5 kr rfl kr (.head _) (bJ (bJ eV)) (ev (vS c y1.1.2.2 d)) (ev (vI p1.2.2.2.2.1)) kr o a9 ?_;rintro b5 U b6 ⟨_,_,rfl,rfl,⟨_,_,rfl,rfl,⟨_,_,rfl,⟨a6,c6,rfl,r6⟩,⟨a7,c7,rfl,r7⟩⟩⟩⟩ Z;refine aD 33 47 (.pointer (some ⟨b5,U+1,none⟩)) (.head _) (cM 9 47 34 48 (U+1) (vT H.2.1) (.head _) (fun _ h=>h.1) (Z.drop 1) (aD 35 49 (vP k 1) (.head _) (cM 9 49 36 50 1 (vT p1.2.1) (.head _) (fun _ h=>h.1) (a.drop 1) (aD 37 51 (vB (!(H.2.1.toList==p1.2.1.toList))) (.head _) (aD 38 52 (vB (!(H.2.1.toList==p1.2.1.toList))) (.head _) ?_)))));cases i;exact cC kr (eG _ kr (K _ _ ⟨p,rfl,q,st.f2.f2.f2,a,u,o⟩))
def FL(N:Nat)(p0:Tq)(p1:dU):Option T33:=
 (sH N p0 p1.2.2.2.1).bind fun y1=>(if(!y1.2)=true then(some true) else(if(decide (p1.2.2.2.2.1<0))=true then(some true) else(if(decide (p1.2.2.2.2.1>=(List.length y1.1.2.2:Int)))=true then(some true) else((bV y1.1.2.2 p1.2.2.2.2.1).bind fun a=>if(a.1 !=p1.2.2.1)=true then(some true) else((bV y1.1.2.2 p1.2.2.2.2.1).bind fun a=>some (!(a.2.1.toList==p1.2.1.toList)))))):Ti).bind fun a=>if a=true then(some (((⟨#[]⟩:BA),([]:T8),([]:dZ)),0,false)) else(some (y1.1,p1.2.2.2.2.1,true))
theorem qDa{p0:Tq}{p1:dU}{r:T33}(st:St m (O) w)(r1:RepS C1 m a1 c1 p0)(i:FL N p0 p1=some r):Calls prog 40 #[.agg #[vS a1 p0 c1],.agg (Vg p1)] w fun e w'=>∃z D B E m',e= .returned (.tuple #[.agg (Vc r.1 z D B E),vI r.2.1,vB r.2.2])/\m.le m'/\St m' (kR z r.1.2.1 D 9 1::kR B r.1.2.2 E 98 4::O) w'/\P4 m' z D B E r.1.2:=by
 unfold FL at i;have q:=m.le_refl;refine bH func40 rfl ntmps40 ?_;refine aC (eA 2 28 (.agg #[vS a1 p0 c1]) st fun b1 m1 w1 R st Y=>(eA 3 66 (.agg (Vg p1)) st fun g m2 w2 F st a=>(cG 4 58 (.agg #[vT eB,v6,v6]) st fun M w3 st=>(aH 2 [] (aC (bW 10 (.agg #[vS a1 p0 c1]) st (Y.mono F) (aA 1 [(11,vP g 3)] (bW 12 (vT p1.2.2.2.1) st (a.drop 3) (aM 13 i (zS st ((r1.mono R).mono F)) ?_)))))))));rintro y1 i _ w4 ⟨f,k,c,d,p,rfl,S,st,u,o⟩;have q:=((q.t R).t F).t S;have a:=a.mono S;refine aA 3 [(14,.agg (Vc y1.1 f k c d)),(15,vB y1.2)] (cG 7 58 (.agg #[vT eB,v6,v6]) st fun s w5 st=>(bM (.agg (Vc y1.1 f k c d)) st fun w6 st=>(aH 1 [(8,vB y1.2)] (aF (aF (cA .normal i (fun G L' w'=>∃l,L'=[(3,vP g 0),(4,vP M 0),(7,vP s 0),(54,vB G)]/\m.le l/\St l (kB s (Vc y1.1 f k c d) 58::kB M #[vT eB,v2,vc] 58::kR f y1.1.2.1 k 9 1::kR c y1.1.2.2 d 98 4::O) w'/\MRow l g 0 (Vh p1)/\P4 l f k c d y1.1.2) ?_ ?_))))))
 .rintro G i _ U ⟨l,rfl,q,st,a,u,o⟩;refine aB (aI i ?_ ?_)
  .intro A i;refine aV 1 [(55,.agg #[vT eB,v2,vc])] ?_;refine bM (.agg #[vT eB,v2,vc]) st.f1 fun n st=> ?_;refine aH 2 [(5,vI 0),(6,vB false)] (aO (aR ?_));cases i;refine dO 4 58 [5,6] [vI 0,vB false] st.h ?_;have st:=(st.nilroom 9 1).nilroom 98 4;exact⟨none,0,none,0,l,rfl,q,st.f2.t.f2.t.f2.t.f2.t.f1,(RepS.nil _ _),(RepS.nil _ _)⟩
  intro A i;refine aL (aB (aF (dK [(6,fun w'=>Inv l w'/\Piece.holds l w' (kB s (Vc y1.1 f k c d) 58)/\True)] kr st fun v _ st=> ?_)));have n:=l.le_refl;refine⟨⟨.inr ⟨Inv.anti st.inv n,Piece.holds_anti st.h n,trivial⟩,trivial⟩,?_⟩;refine cW 58 7 0 56 0 (.agg (Vc y1.1 f k c d)) (.head _) (fun _ h=>h.2.1) (aD 1 57 (vP g 4) (.head _) (cM 3 57 2 58 4 (vI p1.2.2.2.2.1) (.head _) (fun _ h=>h.1) (a.drop 4) (aY 3 kr (eC 58 4 56 (.agg (Vc y1.1 f k c d)) st.f1 fun H st=>(⟨⟨.inr ⟨Inv.anti st.inv n,Piece.holds_anti st.t.h n,trivial⟩,trivial⟩,?_⟩)))));refine aD 4 5 (vI p1.2.2.2.2.1) (.head _) (aD 5 6 (vB true) (.head _) (cC kr (aB (aO ?_))));cases i;refine dO 4 58 [5,6] [vI p1.2.2.2.2.1,vB true] st.h ?_;exact⟨f,k,c,d,l,rfl,q,st.t.t.f1.f1,u,o⟩
 intro G i K;refine dK [(39,fun w'=>Inv p w'/\Piece.holds p w' (kB s (Vc y1.1 f k c d) 58)/\True)] kr st fun w8 _ st=> ?_;have v:=p.le_refl;refine⟨⟨.inr ⟨Inv.anti st.inv v,Piece.holds_anti st.h v,trivial⟩,trivial⟩,?_⟩;refine aD 0 16 (vB y1.2) (.head _) (aD 1 17 (vB (!y1.2)) (.head _) (aD 2 18 (vB (!y1.2)) (.head _) ?_));rcases dJ (!y1.2) with A|A
 .rw[if_pos A] at i;refine iM (t:=18) (b:=true) (!y1.2) kr A ?_;refine aW 3 19 (.head _) (aW 4 20 (.head _) (aW 5 21 (.head _) (aD 6 22 (vB true) (.head _) (aD 7 23 (vB true) (.head _) (aW 8 24 (.head _) (aW 9 25 (.head _) (aW 10 26 (.head _) (aW 11 27 (.head _) (aW 12 28 (.head _) (aW 13 29 (.head _) (aD 14 30 (vB true) (.head _) (aD 15 31 (vB true) (.head _) (aW 16 32 (.head _) (aW 17 33 (.head _) (aW 18 34 (.head _) (aW 19 35 (.head _) (aW 20 36 (.head _) (aW 21 37 (.head _) (aW 22 38 (.head _) (aW 23 39 (.head _) (aW 24 40 (.head _) (aW 25 41 (.head _) (aD 26 42 (vB true) (.head _) (aD 27 43 (vB true) (.head _) (aW 28 44 (.head _) (aW 29 45 (.head _) (aW 30 46 (.head _) (aW 31 47 (.head _) (aW 32 48 (.head _) (aW 33 49 (.head _) (aW 34 50 (.head _) (aW 35 51 (.head _) (aW 36 52 (.head _) (aW 37 53 (.head _) (aD 38 54 (vB true) (.head _) ?_)))))))))))))))))))))))))))))))))));cases i;exact cC kr (eG _ kr (K _ _ ⟨p,rfl,q,st.f2.f2.f3.f3,a,u,o⟩))
 rw[if_neg (not_true A)] at i;refine iM (t:=18) (b:=false) (!y1.2) kr A ?_;refine aD 3 19 (vP g 4) (.head _) (cM 3 19 4 20 4 (vI p1.2.2.2.2.1) (.head _) (fun _ h=>h.1) (a.drop 4) (aD 5 21 (vB (decide (p1.2.2.2.2.1<0))) (.head _) (aD 6 22 (vB (decide (p1.2.2.2.2.1<0))) (.head _) (aD 7 23 (vB (decide (p1.2.2.2.2.1<0))) (.head _) ?_))));rcases dJ (decide (p1.2.2.2.2.1<0)) with A|A
 .rw[if_pos A] at i;refine iM (t:=23) (b:=true) (decide (p1.2.2.2.2.1<0)) kr A ?_;refine aW 8 24 (.head _) (aW 9 25 (.head _) (aW 10 26 (.head _) (aW 11 27 (.head _) (aW 12 28 (.head _) (aW 13 29 (.head _) (aD 14 30 (vB true) (.head _) (aD 15 31 (vB true) (.head _) (aW 16 32 (.head _) (aW 17 33 (.head _) (aW 18 34 (.head _) (aW 19 35 (.head _) (aW 20 36 (.head _) (aW 21 37 (.head _) (aW 22 38 (.head _) (aW 23 39 (.head _) (aW 24 40 (.head _) (aW 25 41 (.head _) (aD 26 42 (vB true) (.head _) (aD 27 43 (vB true) (.head _) (aW 28 44 (.head _) (aW 29 45 (.head _) (aW 30 46 (.head _) (aW 31 47 (.head _) (aW 32 48 (.head _) (aW 33 49 (.head _) (aW 34 50 (.head _) (aW 35 51 (.head _) (aW 36 52 (.head _) (aW 37 53 (.head _) (aD 38 54 (vB true) (.head _) ?_))))))))))))))))))))))))))))));cases i;exact cC kr (eG _ kr (K _ _ ⟨p,rfl,q,st.f2.f2.f3.f3,a,u,o⟩))
 rw[if_neg (not_true A)] at i;refine iM (t:=23) (b:=false) (decide (p1.2.2.2.2.1<0)) kr A ?_;refine aD 8 24 (vP g 4) (.head _) (cM 3 24 9 25 4 (vI p1.2.2.2.2.1) (.head _) (fun _ h=>h.1) (a.drop 4) (aD 10 26 (vP s 2) (.head _) (cW 56 26 11 27 2 (vS c y1.1.2.2 d) (.head _) (fun _ h=>h.2.1) (aD 12 28 (vI (y1.1.2.2.length:Int)) (.head _) (aD 13 29 (vB (decide (p1.2.2.2.2.1>=(y1.1.2.2.length:Int)))) (.head _) (aD 14 30 (vB (decide (p1.2.2.2.2.1>=(y1.1.2.2.length:Int)))) (.head _) (aD 15 31 (vB (decide (p1.2.2.2.2.1>=(y1.1.2.2.length:Int)))) (.head _) ?_)))))));rcases dJ (decide (p1.2.2.2.2.1>=(y1.1.2.2.length:Int))) with A|A
 .rw[if_pos A] at i;refine iM (t:=31) (b:=true) (decide (p1.2.2.2.2.1>=(y1.1.2.2.length:Int))) kr A ?_;refine aW 16 32 (.head _) (aW 17 33 (.head _) (aW 18 34 (.head _) (aW 19 35 (.head _) (aW 20 36 (.head _) (aW 21 37 (.head _) (aW 22 38 (.head _) (aW 23 39 (.head _) (aW 24 40 (.head _) (aW 25 41 (.head _) (aD 26 42 (vB true) (.head _) (aD 27 43 (vB true) (.head _) (aW 28 44 (.head _) (aW 29 45 (.head _) (aW 30 46 (.head _) (aW 31 47 (.head _) (aW 32 48 (.head _) (aW 33 49 (.head _) (aW 34 50 (.head _) (aW 35 51 (.head _) (aW 36 52 (.head _) (aW 37 53 (.head _) (aD 38 54 (vB true) (.head _) ?_))))))))))))))))))))));cases i;exact cC kr (eG _ kr (K _ _ ⟨p,rfl,q,st.f2.f2.f3.f3,a,u,o⟩))
 rw[if_neg (not_true A)] at i;refine iM (t:=31) (b:=false) (decide (p1.2.2.2.2.1>=(y1.1.2.2.length:Int))) kr A ?_;refine aD 16 32 (vP s 2) (.head _) (cW 56 32 17 33 2 (vS c y1.1.2.2 d) (.head _) (fun _ h=>h.2.1) (aD 18 34 (vP g 4) (.head _) (cM 3 34 19 35 4 (vI p1.2.2.2.2.1) (.head _) (fun _ h=>h.1) (a.drop 4) ?_)));have⟨n,a9,i⟩:=aZ i;refine iU (t:=56) (e:=98) (x:=(.tmp 33)) (y:=(.tmp 35)) 20 36 C5 kr rfl kr (.head _) (bJ (bJ eV)) (ev (vS c y1.1.2.2 d)) (ev (vI p1.2.2.2.2.1)) kr o a9 ?_;rintro b5 U b7 ⟨_,_,rfl,rfl,⟨_,_,rfl,rfl,⟨_,_,rfl,⟨a4,c4,rfl,r4⟩,⟨a5,c5,rfl,r5⟩⟩⟩⟩ Z;refine aD 21 37 (vP b5 U) (.head _) (cM 3 37 22 38 U (vI n.1) (.head _) (fun _ h=>h.1) Z (aD 23 39 (vP g 2) (.head _) (cM 3 39 24 40 2 (vI p1.2.2.1) (.head _) (fun _ h=>h.1) (a.drop 2) (aD 25 41 (vB (n.1 !=p1.2.2.1)) (.head _) (aD 26 42 (vB (n.1 !=p1.2.2.1)) (.head _) (aD 27 43 (vB (n.1 !=p1.2.2.1)) (.head _) ?_))))));rcases dJ (n.1 !=p1.2.2.1) with A|A
 .rw[if_pos A] at i;refine iM (t:=43) (b:=true) (n.1 !=p1.2.2.1) kr A ?_;refine aW 28 44 (.head _) (aW 29 45 (.head _) (aW 30 46 (.head _) (aW 31 47 (.head _) (aW 32 48 (.head _) (aW 33 49 (.head _) (aW 34 50 (.head _) (aW 35 51 (.head _) (aW 36 52 (.head _) (aW 37 53 (.head _) (aD 38 54 (vB true) (.head _) ?_))))))))));cases i;exact cC kr (eG _ kr (K _ _ ⟨p,rfl,q,st.f2.f2.f3.f3,a,u,o⟩))
 rw[if_neg (not_true A)] at i;refine iM (t:=43) (b:=false) (n.1 !=p1.2.2.1) kr A ?_;refine aD 28 44 (vP s 2) (.head _) (cW 56 44 29 45 2 (vS c y1.1.2.2 d) (.head _) (fun _ h=>h.2.1) (aD 30 46 (vP g 4) (.head _) (cM 3 46 31 47 4 (vI p1.2.2.2.2.1) (.head _) (fun _ h=>h.1) (a.drop 4) ?_)));have⟨H,b0,i⟩:=aZ i;refine iU (t:=56) (e:=98) (x:=(.tmp 45)) (y:=(.tmp 47)) 32 48 C5 kr rfl kr (.head _) (bJ (bJ eV)) (ev (vS c y1.1.2.2 d)) (ev (vI p1.2.2.2.2.1)) kr o b0 ?_;rintro b6 V b8 ⟨_,_,rfl,rfl,⟨_,_,rfl,rfl,⟨_,_,rfl,⟨a6,c6,rfl,r6⟩,⟨a7,c7,rfl,r7⟩⟩⟩⟩ a8;refine aD 33 49 (.pointer (some ⟨b6,V+1,none⟩)) (.head _) (cM 9 49 34 50 (V+1) (vT H.2.1) (.head _) (fun _ h=>h.1) (a8.drop 1) (aD 35 51 (vP g 1) (.head _) (cM 9 51 36 52 1 (vT p1.2.1) (.head _) (fun _ h=>h.1) (a.drop 1) (aD 37 53 (vB (!(H.2.1.toList==p1.2.1.toList))) (.head _) (aD 38 54 (vB (!(H.2.1.toList==p1.2.1.toList))) (.head _) ?_)))));cases i;exact cC kr (eG _ kr (K _ _ ⟨p,rfl,q,st.f2.f2.f3.f3,a,u,o⟩))
def EJ(N:Nat)(p1:Tc)(a:Tq)(b:Tq)(s1:Int):Option (Int⊕Unit⊕Te):=
 if(decide (s1<(List.length a:Int)))=true then((bV a s1).bind fun a=>(bV b s1).bind fun b=>if(!((a.1.toList==b.1.toList)&&((a.2.toList==b.2.toList)&&true)))=true then(some (.inr (.inr ((p1,false))))) else(some (.inl (IntKind.wrap .i64 (s1+1))))) else(some (.inr (.inl ())))
def wS(N:Nat)(p0:Tq)(s2:Tk):Option (Tk⊕Tc⊕Te):=
 if(decide (s2.1<8))=true then((iY N s2.2 ([(⟨#[97,46,115,114,99]⟩:BA),(⟨#[98,46,115,114,99]⟩:BA),(⟨#[100,47,99,46,115,114,99]⟩:BA),(⟨#[120,46,115,114,99]⟩:BA),(⟨#[97,46,100,97,116]⟩:BA),(⟨#[122,122]⟩:BA)])).bind fun c=>(BJ N p0 c.2).bind fun a=>(sH N p0 c.2).bind fun b=>(if(!(a.2==b.2))=true then(some true) else((AZ N a.1 b.1).bind fun a=>some (!a)):Ti).bind fun o4=>if o4=true then(some (.inr (.inr ((c.1,false))))) else((iY N c.1 ([(⟨#[112]⟩:BA),(⟨#[113]⟩:BA),(⟨#[115]⟩:BA),(⟨#[120]⟩:BA),(⟨#[]⟩:BA)])).bind fun a=>(FZ N p0 a.2).bind fun b=>(FG N p0 a.2).bind fun d=>(EE N b d).bind fun b=>if(!b)=true then(some (.inr (.inr ((a.1,false))))) else((sG N a.1 ([(1:Int),2,3,1,2,0,4])).bind fun e=>(iY N e.1 ([(⟨#[102]⟩:BA),(⟨#[103]⟩:BA),(⟨#[116]⟩:BA),(⟨#[117]⟩:BA),(⟨#[97,46,100,97,116]⟩:BA),(⟨#[99]⟩:BA),(⟨#[]⟩:BA)])).bind fun d=>((xP N p0 e.2 a.2 d.2).bind fun b=>(FM N p0 e.2 a.2 d.2).bind fun a=>some (a.1,a.2.1,a.2.2.1,a.2.2.2.1,a.2.2.2.2.1,a.2.2.2.2.2,b.1,b.2.1,b.2.2.1,b.2.2.2.1,b.2.2.2.2.1,b.2.2.2.2.2):Option (T7×T7×Int×T7×Int×Int×dU)).bind fun a=>if(!((a.2.2.2.2.2.2.1.toList==a.1.toList)&&((a.2.2.2.2.2.2.2.1.toList==a.2.1.toList)&&((a.2.2.2.2.2.2.2.2.1==a.2.2.1)&&((a.2.2.2.2.2.2.2.2.2.1.toList==a.2.2.2.1.toList)&&((a.2.2.2.2.2.2.2.2.2.2.1==a.2.2.2.2.1)&&((a.2.2.2.2.2.2.2.2.2.2.2==a.2.2.2.2.2.1)&&true)))))))=true then(some (.inr (.inr ((d.1,false))))) else((mF N d.1 6).bind fun b=>(if(b.2==0)=true then((mF N b.1 6).bind fun d=>some (d.1.1,d.1.2,a.2.2.2.2.2.2.2.2.1,a.2.2.2.2.2.2.2.2.2.1,IntKind.wrap .i64 (d.2-1))) else(if(b.2==1)=true then(some (b.1.1,b.1.2,a.2.2.2.2.2.2.2.2.1,c.2,a.2.2.2.2.2.2.2.2.2.2.1)) else(if(b.2==2)=true then((mF N b.1 5).bind fun c=>some (c.1.1,c.1.2,c.2,a.2.2.2.2.2.2.2.2.2.1,a.2.2.2.2.2.2.2.2.2.2.1)) else(some (b.1.1,b.1.2,a.2.2.2.2.2.2.2.2.1,a.2.2.2.2.2.2.2.2.2.1,a.2.2.2.2.2.2.2.2.2.2.1)))):Option (Tb×Int×Int×To)).bind fun b=>(GB N p0 (a.2.2.2.2.2.2.1,a.2.2.2.2.2.2.2.1,b.2.2.1,b.2.2.2.1,b.2.2.2.2,a.2.2.2.2.2.2.2.2.2.2.2)).bind fun c=>(FL N p0 (a.2.2.2.2.2.2.1,a.2.2.2.2.2.2.2.1,b.2.2.1,b.2.2.2.1,b.2.2.2.2,a.2.2.2.2.2.2.2.2.2.2.2)).bind fun a=>(if(!(c.2.2==a.2.2))=true then(some true) else(if(c.2.1 !=a.2.1)=true then(some true) else((AZ N c.1 a.1).bind fun a=>some (!a))):Ti).bind fun a=>if a=true then(some (.inr (.inr (((b.1,b.2.1),false))))) else(some (.inl (IntKind.wrap .i64 (s2.1+1),b.1,b.2.1))))))) else(some (.inr (.inl s2.2)))
def FC(N:Nat)(p0:Tq)(p1:Tc):Option Te:=
 ((xM N p0).bind fun y1=>(FD N p0).bind fun a=>(AC N y1 a).bind fun a=>if(!a)=true then(some true) else((FX N p0).bind fun a=>(FF N p0).bind fun y5=>(AC N a y5).bind fun a=>if(!a)=true then(some true) else((BF N p0).bind fun a=>(AA N p0).bind fun b=>(DW N a b).bind fun a=>some (!a))):Ti).bind fun a=>if a=true then(some (p1,false)) else((xO N p0).bind fun a=>(FI N p0).bind fun b=>if((List.length a:Int) !=(List.length b:Int))=true then(some (p1,false)) else((aK (EJ N p1 a b) N 0).bind fun a=>(match a with| .inl o2=>(aK (wS N p0) N (0,p1.1,p1.2)).bind fun a=>(match a with| .inl a=>some (a,true)| .inr (z)=>some z)| .inr (z)=>some z)))
theorem qCe{p0:Tq}{p1:Tc}{r:Te}(st:St m (kB bp1 (V1 p1 a2 c2) 25::O) w)(f:RepS C1 m a1 c1 p0)(r2:RepS (aX .i64) m a2 c2 p1.1)(i:FC N p0 p1=some r):Calls prog 7 #[.agg #[vS a1 p0 c1],vP bp1 0] w fun e w'=>∃q8 q9 m',e= .returned (vB r.2)/\m.le m'/\St m' (kB bp1 (V1 r.1 q8 q9) 25::O) w'/\RepS (aX .i64) m' q8 q9 r.1.1:=by
 unfold FC at i;have q:=m.le_refl;refine bH func7 rfl ntmps7 ?_;refine aC (eA 2 28 (.agg #[vS a1 p0 c1]) st fun b1 m1 w1 e1 st g=> ?_);have f:=f.mono e1;refine aH 1 [] (aF (aF ?_));have⟨o1,i,J⟩:=aZ i;refine dH .normal (fun L' w'=>∃m2,L'=[(1,vP bp1 0),(2,vP b1 0),(42,vB o1)]/\m.le m2/\St m2 (kB bp1 (V1 p1 a2 c2) 25::O) w'/\MRow m2 b1 0 [vS a1 p0 c1]/\RepS C1 m2 a1 c1 p0/\RepS (aX .i64) m2 a2 c2 p1.1) ?_ ?_
 .have i:=J;rintro _ w2 ⟨m2,rfl,q,st,g,f,r2⟩;refine aB (aI i ?_ ?_)
  .intro A i;refine aG 1 [(4,vB false)] (aO ?_);refine aR ?_;cases i;exact aT [4] [vB false] ⟨a2,c2,m2,rfl,q,st,r2⟩
  intro A i;refine aL (aB (aF (dK [(6,fun w'=>Inv m2 w'/\True)] kr st fun x4 _ st=> ?_)));have f0:=m2.le_refl;refine tA st f0 ?_;refine cM 28 2 0 43 0 (.agg #[vS a1 p0 c1]) (.head _) (fun _ h=>h.1) g (cM 28 2 2 45 0 (.agg #[vS a1 p0 c1]) (.head _) (fun _ h=>h.1) g (aY 1 kr (cL 44 i (fun _ h=>SI st f h) ?_)));rintro d1 i _ x5 ⟨a9,c9,u5,rfl,k4,st,r9⟩;refine⟨_,rfl,?_⟩;have f:=f.mono k4;have f0:=Mem.le_trans f0 k4;refine tA st f0 ?_;refine aY 3 kr (cL 46 i (fun _ h=>qCn st f h) ?_);rintro g2 i _ x6 ⟨g6,g7,q1,rfl,g8,st,n2⟩;refine⟨_,rfl,?_⟩;have r2:=(r2.mono k4).mono g8;have f0:=Mem.le_trans f0 g8;refine tA st f0 ?_;refine aD 4 5 (vS a9 d1 c9) (.head _) (aD 5 6 (vS g6 g2 g7) (.head _) (cC kr (aB (aF (aG 5 [(51,vB ((d1.length:Int) !=(g2.length:Int)))] (aI i ?_ ?_))))))
  .intro A i;refine aV 1 [(4,vB false)] ?_;refine aU rfl ?_;have st:=st.t.t;refine aB (aO (aR ?_));cases i;exact aT [4] [vB false] ⟨a2,c2,q1,rfl,(q.t k4).t g8,st,r2⟩
  intro A i;refine aL (aB (aF (aG 3 [(53,vI (d1.length:Int)),(54,vI 0)] (bB ?_))));have⟨n9,i,j1⟩:=aZ i;refine dH (.exit 0) (fun L' w'=>∃(o2:Unit),∃h2,(.inl o2)=n9/\L'=[(1,vP bp1 0),(2,vP b1 0)]/\m.le h2/\St h2 (kB bp1 (V1 p1 a2 c2) 25::kR g6 g2 g7 55 2::kR a9 d1 c9 55 2::O) w'/\MRow h2 b1 0 [vS a1 p0 c1]/\RepS C1 h2 a1 c1 p0/\RepS (aX .i64) h2 a2 c2 p1.1) ?_ ?_
  .rintro _ x7 ⟨o2,h2,rfl,rfl,q,st,g,f,r2⟩;have i:=j1;refine cO (aB (aF (aV 1 [(8,vI 0)] (aU rfl ?_))));have st:=st.f1.t.f1.t;refine aB (bB ?_);have⟨o0,i,j2⟩:=aZ i;refine dH (.exit 2) (fun L' w'=>∃(o3:Tc),∃l8 n0 l3,(.inl o3)=o0/\L'=[]/\m.le l3/\St l3 (kB bp1 (V1 o3 l8 n0) 25::O) w'/\RepS (aX .i64) l3 l8 n0 o3.1) ?_ ?_
   .rintro _ c ⟨o3,l8,n0,l3,rfl,rfl,q,st,a⟩;have i:=j2;refine cO (aB (aG 1 [(4,vB true)] (aO ?_)));cases i;exact aT [4] [vB true] ⟨l8,n0,l3,rfl,q,st,a⟩
   intro o8;refine cR _ kr (cQ (fun k2 L' w'=>∃(s2:Tk),∃l9 n1 h3,aK (wS N p0) k2 s2=some o0/\L'=[(1,vP bp1 0),(2,vP b1 0),(8,vI s2.1)]/\m.le h3/\St h3 (kB bp1 (V1 s2.2 l9 n1) 25::O) w'/\MRow h3 b1 0 [vS a1 p0 c1]/\RepS C1 h3 a1 c1 p0/\RepS (aX .i64) h3 l9 n1 s2.2.1) N ⟨(0,p1.1,p1.2),a2,c2,h2,i,rfl,q,st,g,f,r2⟩ ?_);rintro k2 _ x8 ⟨s2,l9,n1,h3,hL,rfl,q,st,g,f,q6⟩;rcases k2 with _|k2
   .exact cU hL
   obtain⟨x3,i,r0,h1⟩:=cV hL;clear hL;unfold wS at i;refine aF (aG 2 [(68,vB (decide (s2.1<8)))] (aI i ?_ ?_))
   .intro A i;refine aL (aB (aF (bB (aV 1 [(71,vP bp1 0)] (dV 72 9 6 aJ [ba,bb,bc,bd,bj,(⟨#[122,122]⟩:BA)] st fun b4 u6 x9 k5 st s8=>(aM 73 i (mE (p0:=s2.2) st.f1 (q6.mono k5) s8) ?_))))));rintro e0 i _ y0 ⟨n5,n7,u7,rfl,l1,st,l4⟩;have f:=(f.mono k5).mono l1;refine aA 1 [(9,vT e0.2)] (aU rfl ?_);have st:=st.f1.t;refine aB (aC (bW 75 (.agg #[vS a1 p0 c1]) st ((g.mono k5).mono l1) (aA 1 [(76,vT e0.2)] (aM 77 i (SD st f) ?_))));rintro D i _ z0 ⟨M,V,R,Y,u9,rfl,k6,st,n,o⟩;have g:=((g.mono k5).mono l1).mono k6;have f:=f.mono k6;refine aA 3 [(78,.agg (Vc D.1 M V R Y)),(79,vB D.2)] (cG 10 58 (.agg #[vT eB,v6,v6]) st fun b5 z1 st=>(bM (.agg (Vc D.1 M V R Y)) st fun z2 st=>(aH 1 [(11,vB D.2)] (aC (bW 81 (.agg #[vS a1 p0 c1]) st g (aA 1 [(82,vT e0.2)] (aM 83 i (zS st f) ?_)))))));rintro z i _ z3 ⟨S,Z,U,b0,s5,rfl,g0,st,p,s⟩;have f:=f.mono g0;have n:=n.mono g0;have o:=o.mono g0;refine aA 3 [(84,.agg (Vc z.1 S Z U b0)),(85,vB z.2)] (cG 12 58 (.agg #[vT eB,v6,v6]) st fun b6 z4 st=>(bM (.agg (Vc z.1 S Z U b0)) st fun z5 st=>(aH 1 [(13,vB z.2)] (aF (aC ?_)))));have⟨o4,i,J⟩:=aZ i
    refine vY (j:=9) (fun L' w'=>∃d4,L'=[(1,vP bp1 0),(2,vP b1 0),(8,vI s2.1),(9,vT e0.2),(10,vP b5 0),(12,vP b6 0),(94,vB o4)]/\m.le d4/\St d4 (kB b6 (Vc z.1 S Z U b0) 58::kB b5 (Vc D.1 M V R Y) 58::kB bp1 (V1 e0.1 n5 n7) 25::kR S z.1.2.1 Z 9 1::kR U z.1.2.2 b0 98 4::kR M D.1.2.1 V 9 1::kR R D.1.2.2 Y 98 4::O) w'/\MRow d4 b1 0 [vS a1 p0 c1]/\RepS C1 d4 a1 c1 p0/\RepS aJ d4 S Z z.1.2.1/\RepS C5 d4 U b0 z.1.2.2/\RepS aJ d4 M V D.1.2.1/\RepS C5 d4 R Y D.1.2.2/\RepS (aX .i64) d4 n5 n7 e0.1.1) ?_ ?_
    .have i:=J;rintro _ z6 ⟨d4,rfl,q,st,g,f,p,s,n,o,l4⟩;refine aS (aI i ?_ ?_)
     .intro A i;refine aG 1 [(4,vB false)] (aO ?_);refine aR (bI (aR ?_));have ho:=h1 _ (sI i);subst ho;have i:=j2;refine aR (bI (aR ?_));cases i;exact aT [4] [vB false] ⟨n5,n7,d4,rfl,q,st.t.t.f1.t.f1.t.f1.t.f1.t,l4⟩
     intro A i;refine aL (aB (aV 1 [(95,vP bp1 0)] (dV 96 9 5 aJ [be,bf,bg,(⟨#[120]⟩:BA),eB] st fun b7 v0 z7 g1 st s9=>(aM 97 i (mE (p0:=e0.1) st.f3 (l4.mono g1) s9) ?_))));rintro k8 i _ z8 ⟨s3,s4,q2,rfl,g3,st,q7⟩;have g:=(g.mono g1).mono g3;have f:=(f.mono g1).mono g3;refine aA 1 [(14,vT k8.2)] (aU rfl ?_);have st:=st.f1.t;refine aB (aF (aF (dK [(8,fun w'=>Inv q2 w'/\True)] kr st fun z9 _ st=> ?_)));have H:=q2.le_refl;refine tA st H ?_;refine cM 28 2 0 98 0 (.agg #[vS a1 p0 c1]) (.head _) (fun _ h=>h.1) g (aD 1 99 (vT k8.2) (.head _) (cM 28 2 3 101 0 (.agg #[vS a1 p0 c1]) (.head _) (fun _ h=>h.1) g (aD 4 102 (vT k8.2) (.head _) (aY 2 kr (cL 100 i (fun _ h=>qDr st f h) ?_)))));rintro B5 i _ A0 ⟨t9,u2,v1,rfl,d2,st,t0⟩;refine⟨_,rfl,?_⟩;have f:=f.mono d2;have H:=Mem.le_trans H d2;refine tA st H ?_;refine aY 5 kr (cL 103 i (fun _ h=>qCr st f h) ?_);rintro B6 i _ A1 ⟨u0,u3,v3,rfl,c0,st,t3⟩;refine⟨_,rfl,?_⟩;have H:=Mem.le_trans H c0;refine tA st H ?_;refine aY 6 kr (cL 104 i (fun _ h=>qBt st (t0.mono c0) t3 h) ?_);rintro t7 i _ A2 ⟨s6,rfl,d3,st⟩;refine⟨_,rfl,?_⟩;have H:=Mem.le_trans H d3;refine tA st H ?_;refine aD 7 105 (vB (!t7)) (.head _) (cC kr ?_);have st:=st.t.t;refine aB (aI i ?_ ?_)
     .intro A i;refine aG 1 [(4,vB false)] (aO ?_);refine aR (bI (aR ?_));have ho:=h1 _ (sI i);subst ho;have i:=j2;refine aR (bI (aR ?_));cases i;exact aT [4] [vB false] ⟨s3,s4,s6,rfl,((((q.t g1).t g3).t d2).t c0).t d3,st.f1.t.f1.t.f1.t.f1.t.f1.t.f1.t,((q7.mono d2).mono c0).mono d3⟩
     intro A i;refine aL (aB (aV 1 [(106,vP bp1 0)] (dV 107 3 7 (aX .i64) [(1:Int),2,3,1,2,0,4] st fun b8 v4 A3 g4 st t4=>(aM 108 i (JM (p0:=k8.1) st.f1 ((((q7.mono d2).mono c0).mono d3).mono g4) t4) ?_))));rintro n4 i _ A4 ⟨u1,u4,v5,rfl,g9,st,t5⟩;refine aA 1 [(109,vP bp1 0)] (dV 110 9 7 aJ [bn,bo,bh,bi,bj,bl,eB] st fun b9 v9 A5 g5 st t6=>(aM 111 i (mE (p0:=n4.1) st.f1 (t5.mono g5) t6) ?_));rintro k9 i _ A6 ⟨n6,n8,q3,rfl,h0,st,F⟩;have q:=((((((((q.t g1).t g3).t d2).t c0).t d3).t g4).t g9).t g5).t h0;have g:=((((((g.mono d2).mono c0).mono d3).mono g4).mono g9).mono g5).mono h0;have f:=(((((f.mono c0).mono d3).mono g4).mono g9).mono g5).mono h0;have p:=((((((((p.mono g1).mono g3).mono d2).mono c0).mono d3).mono g4).mono g9).mono g5).mono h0;have s:=((((((((s.mono g1).mono g3).mono d2).mono c0).mono d3).mono g4).mono g9).mono g5).mono h0;have n:=((((((((n.mono g1).mono g3).mono d2).mono c0).mono d3).mono g4).mono g9).mono g5).mono h0;have o:=((((((((o.mono g1).mono g3).mono d2).mono c0).mono d3).mono g4).mono g9).mono g5).mono h0;refine aA 2 [(15,vI n4.2),(16,vT k9.2)] (aU rfl ?_);have st:=st.f1.t.f1.t;refine aB (aF ?_);have⟨l,i,J⟩:=aZ i
     refine dH .normal (fun L' w'=>∃f7 l0 d9,L'=[(1,vP bp1 0),(2,vP b1 0),(8,vI s2.1),(9,vT e0.2),(10,vP b5 0),(12,vP b6 0),(17,vP f7 0),(18,vP l0 0)]/\m.le d9/\St d9 (kB l0 (Vf l.1 l.2.1 l.2.2.1 l.2.2.2.1 l.2.2.2.2.1 l.2.2.2.2.2.1) 66::kB f7 (Vg l.2.2.2.2.2.2) 66::kB bp1 (V1 k9.1 n6 n8) 25::kB b6 (Vc z.1 S Z U b0) 58::kB b5 (Vc D.1 M V R Y) 58::kR S z.1.2.1 Z 9 1::kR U z.1.2.2 b0 98 4::kR M D.1.2.1 V 9 1::kR R D.1.2.2 Y 98 4::O) w'/\MRow d9 b1 0 [vS a1 p0 c1]/\RepS C1 d9 a1 c1 p0/\RepS (aX .i64) d9 n6 n8 k9.1.1/\RepS aJ d9 S Z z.1.2.1/\RepS C5 d9 U b0 z.1.2.2/\P4 d9 M V R Y D.1.2) ?_ ?_
     .have i:=J;rintro _ A7 ⟨f7,l0,d9,rfl,q,st,g,f,F,p,s,n,o⟩;refine aB (aF (aC (bG 122 (.agg (Vg l.2.2.2.2.2.2)) st.t.h (bG 123 (.agg (Vf l.1 l.2.1 l.2.2.1 l.2.2.2.1 l.2.2.2.2.1 l.2.2.2.2.2.1)) st.h (bQ rfl (KV (d:=124) (t:=66) (t2:=66) (x:=(.tmp 122)) (y:=(.tmp 123)) (xs:=(Vg l.2.2.2.2.2.2)) (ys:=(Vf l.1 l.2.1 l.2.2.1 l.2.2.2.1 l.2.2.2.2.1 l.2.2.2.2.2.1)) ((l.2.2.2.2.2.2.1.toList==l.1.toList)&&((l.2.2.2.2.2.2.2.1.toList==l.2.1.toList)&&((l.2.2.2.2.2.2.2.2.1==l.2.2.1)&&((l.2.2.2.2.2.2.2.2.2.1.toList==l.2.2.2.1.toList)&&((l.2.2.2.2.2.2.2.2.2.2.1==l.2.2.2.2.1)&&((l.2.2.2.2.2.2.2.2.2.2.2==l.2.2.2.2.2.1)&&true)))))) kr rfl (ev (.agg (Vg l.2.2.2.2.2.2))) (ev (.agg (Vf l.1 l.2.1 l.2.2.1 l.2.2.2.1 l.2.2.2.2.1 l.2.2.2.2.2.1))) kr kr kr (aS (aI i ?_ ?_))))))))
      .intro A i;refine aG 1 [(4,vB false)] (aO ?_);refine aR (bI (aR ?_));have ho:=h1 _ (sI i);subst ho;have i:=j2;refine aR (bI (aR ?_));cases i;exact aT [4] [vB false] ⟨n6,n8,d9,rfl,q,st.t.t.f1.t.f1.t.f1.t.f1.t.f1.t.f1.t,F⟩
      intro A i;refine aL (aB (aF (aV 1 [(125,vP bp1 0)] (aM 126 i (oD (p0:=k9.1) st.f2 F) ?_))));rintro l7 i _ A8 ⟨o9,q0,q4,rfl,d6,st,n3⟩;have q:=q.t d6;have g:=g.mono d6;have f:=f.mono d6;have p:=p.mono d6;have s:=s.mono d6;have n:=n.mono d6;have o:=o.mono d6;refine aS (cA .normal i (fun a L' w'=>∃G d5 v,L'=[(1,vP bp1 0),(2,vP b1 0),(8,vI s2.1),(10,vP b5 0),(12,vP b6 0),(17,vP f7 0)]/\m.le v/\St v (kB bp1 #[vS G a.1 d5,vI a.2.1] 25::kB l0 (Vf l.1 l.2.1 l.2.2.1 l.2.2.2.1 l.2.2.2.2.1 l.2.2.2.2.2.1) 66::kB f7 (Vf l.2.2.2.2.2.2.1 l.2.2.2.2.2.2.2.1 a.2.2.1 a.2.2.2.1 a.2.2.2.2 l.2.2.2.2.2.2.2.2.2.2.2) 66::kB b6 (Vc z.1 S Z U b0) 58::kB b5 (Vc D.1 M V R Y) 58::kR S z.1.2.1 Z 9 1::kR U z.1.2.2 b0 98 4::kR M D.1.2.1 V 9 1::kR R D.1.2.2 Y 98 4::O) w'/\MRow v b1 0 [vS a1 p0 c1]/\RepS C1 v a1 c1 p0/\RepS (aX .i64) v G d5 a.1/\RepS aJ v S Z z.1.2.1/\RepS C5 v U b0 z.1.2.2/\P4 v M V R Y D.1.2) ?_ ?_)
      .rintro a i _ A9 ⟨G,d5,v,rfl,q,st,g,f,E,p,s,n,o⟩;refine aB (aC (bW 143 (.agg #[vS a1 p0 c1]) st g (bG 144 (.agg (Vf l.2.2.2.2.2.2.1 l.2.2.2.2.2.2.2.1 a.2.2.1 a.2.2.2.1 a.2.2.2.2 l.2.2.2.2.2.2.2.2.2.2.2)) st.t.t.h (aM 145 i (qDs (p1:=(l.2.2.2.2.2.2.1,l.2.2.2.2.2.2.2.1,a.2.2.1,a.2.2.2.1,a.2.2.2.2,l.2.2.2.2.2.2.2.2.2.2.2)) st f) ?_))));rintro c i _ B0 ⟨h4,h8,h5,h9,x0,rfl,l2,st,d7,d8⟩;have f:=f.mono l2;refine aA 4 [(146,.agg (Vc c.1 h4 h8 h5 h9)),(147,vI c.2.1),(148,vB c.2.2)] (bM (.agg (Vc c.1 h4 h8 h5 h9)) st.f6 fun B1 st=>(aA 2 [(19,vI c.2.1),(11,vB c.2.2)] (aU rfl ?_)));have st:=st.f9.t.f9.t;refine aB (aC (bW 150 (.agg #[vS a1 p0 c1]) st (g.mono l2) (bG 151 (.agg (Vf l.2.2.2.2.2.2.1 l.2.2.2.2.2.2.2.1 a.2.2.1 a.2.2.2.1 a.2.2.2.2 l.2.2.2.2.2.2.2.2.2.2.2)) st.t.t.t.t.t.h (aM 152 i (qDa (p1:=(l.2.2.2.2.2.2.1,l.2.2.2.2.2.2.2.1,a.2.2.1,a.2.2.2.1,a.2.2.2.2,l.2.2.2.2.2.2.2.2.2.2.2)) st f) ?_))));rintro k i _ B2 ⟨h6,k0,h7,k3,q5,rfl,k7,st,l5,l6⟩;have q:=(q.t l2).t k7;have g:=(g.mono l2).mono k7;have f:=f.mono k7;have d7:=d7.mono k7;have d8:=d8.mono k7;have E:=(E.mono l2).mono k7;refine aA 4 [(153,.agg (Vc k.1 h6 k0 h7 k3)),(154,vI k.2.1),(155,vB k.2.2)] (bM (.agg (Vc k.1 h6 k0 h7 k3)) st.f8 fun B3 st=>(aA 2 [(20,vI k.2.1),(13,vB k.2.2)] (aU rfl ?_)));have st:=st.f9.t.f9.t
       refine aB (aC (dT 14 i (fun o7 L' w'=>∃u,L'=[(1,vP bp1 0),(2,vP b1 0),(8,vI s2.1),(169,vB o7)]/\m.le u/\St u (kB b6 (Vc k.1 h6 k0 h7 k3) 58::kB b5 (Vc c.1 h4 h8 h5 h9) 58::kB bp1 #[vS G a.1 d5,vI a.2.1] 25::kB l0 (Vf l.1 l.2.1 l.2.2.1 l.2.2.2.1 l.2.2.2.2.1 l.2.2.2.2.2.1) 66::kB f7 (Vf l.2.2.2.2.2.2.1 l.2.2.2.2.2.2.2.1 a.2.2.1 a.2.2.2.1 a.2.2.2.2 l.2.2.2.2.2.2.2.2.2.2.2) 66::kR h6 k.1.2.1 k0 9 1::kR h7 k.1.2.2 k3 98 4::kR h4 c.1.2.1 h8 9 1::kR h5 c.1.2.2 h9 98 4::O) w'/\MRow u b1 0 [vS a1 p0 c1]/\RepS C1 u a1 c1 p0/\RepS aJ u h6 k0 k.1.2.1/\RepS C5 u h7 k3 k.1.2.2/\RepS aJ u h4 h8 c.1.2.1/\RepS C5 u h5 h9 c.1.2.2/\RepS (aX .i64) u G d5 a.1) ?_ ?_))
       .rintro o7 i _ B ⟨u,rfl,q,st,g,f,l5,l6,d7,d8,E⟩;refine aS (aI i ?_ ?_)
        .intro A i;refine aG 1 [(4,vB false)] (aO ?_);refine bI (aR ?_);have ho:=h1 _ (sI i);subst ho;have i:=j2;refine aR (bI (aR ?_));cases i;exact aT [4] [vB false] ⟨G,d5,u,rfl,q,st.t.t.f1.t.f1.t.f1.t.f1.t.f1.t.f1.t,E⟩
        intro A i;refine aL (bN (aB (bA (aA 3 [(8,vI (wr (s2.1+1)))] (aU rfl ?_)))));have hL:=r0 _ (sI i);exact xE (cN ⟨(wr (s2.1+1),a.1,a.2.1),G,d5,u,hL,rfl,q,st.t.t.f1.t.f1.t.f1.t.f1.t.f1.t.f1.t,g,f,E⟩)
       intro o7 i K;refine aA 4 [(159,vB (!(c.2.2==k.2.2)))] (cH 159 i ?_ ?_)
       .intro A i;refine aA 10 [(169,vB true)] ?_;cases i;exact bD _ kr (K _ _ ⟨q5,rfl,q,st.f5.f5.f4.f4.f8.f8.f8.f8.f8,g,f,l5,l6,d7,d8,E⟩)
       intro A i;refine aA 5 [(164,vB (c.2.1 !=k.2.1))] (cH 164 i ?_ ?_)
       .intro A i;refine aA 5 [(169,vB true)] ?_;cases i;exact bD _ kr (K _ _ ⟨q5,rfl,q,st.f5.f5.f4.f4.f8.f8.f8.f8.f8,g,f,l5,l6,d7,d8,E⟩)
       intro A i;refine bG 165 (.agg (Vc c.1 h4 h8 h5 h9)) st.t.t.t.h ?_;refine bG 166 (.agg (Vc k.1 h6 k0 h7 k3)) st.h ?_;refine aM 167 i (RV (p0:=c.1) (p1:=k.1) st d7 d8 l5 l6) ?_;rintro t8 i _ B4 ⟨s7,rfl,B,st⟩;refine aA 2 [(169,vB (!t8))] ?_;cases i;exact bD _ kr (K _ _ ⟨s7,rfl,q.t B,st.f5.f5.f4.f4.f8.f8.f8.f8.f8,g.mono B,f.mono B,l5.mono B,l6.mono B,d7.mono B,d8.mono B,E.mono B⟩)
      intro a i k;refine bB (aG 2 [(127,vB (l7.2==0))] (aI i ?_ ?_))
      .intro A i;refine bA (aA 1 [(129,vP bp1 0)] (aM 130 i (oD (p0:=l7.1) st n3) ?_));rintro u i _ h4 ⟨B,E,d7,rfl,c,st,d8⟩;refine aA 2 [(131,vI (wr (u.2-1))),(132,vP f7 4)] (eM (Vf l.2.2.2.2.2.2.1 l.2.2.2.2.2.2.2.1 l.2.2.2.2.2.2.2.2.1 l.2.2.2.2.2.2.2.2.2.1 (wr (u.2-1)) l.2.2.2.2.2.2.2.2.2.2.2) st.f2 fun h5 st=>(aU rfl (bN ?_)));cases i;exact xE (k _ _ ⟨B,E,d7,rfl,q.t c,st.f8.f8.f8.f8.f8.f8.f6.f8.f8,g.mono c,f.mono c,d8,p.mono c,s.mono c,n.mono c,o.mono c⟩)
      intro A i;refine aG 2 [(133,vB (l7.2==1))] (aI i ?_ ?_)
      .intro A i;refine bA (aA 2 [(135,vT e0.2),(136,vP f7 3)] (eM (Vf l.2.2.2.2.2.2.1 l.2.2.2.2.2.2.2.1 l.2.2.2.2.2.2.2.2.1 e0.2 l.2.2.2.2.2.2.2.2.2.2.1 l.2.2.2.2.2.2.2.2.2.2.2) st.f2 fun c st=>(aU rfl (bN ?_))));cases i;exact xE (k _ _ ⟨o9,q0,q4,rfl,q,st.f8.f8.f8.f8.f8.f8.f6.f8.f8,g,f,n3,p,s,n,o⟩)
      intro A i;refine aG 2 [(137,vB (l7.2==2))] (aI i ?_ ?_)
      .intro A i;refine bA (aA 1 [(139,vP bp1 0)] (aM 140 i (oD (p0:=l7.1) st n3) ?_));rintro d8 i _ h4 ⟨u,B,E,rfl,c,st,d7⟩;refine aA 1 [(141,vP f7 2)] (eM (Vf l.2.2.2.2.2.2.1 l.2.2.2.2.2.2.2.1 d8.2 l.2.2.2.2.2.2.2.2.2.1 l.2.2.2.2.2.2.2.2.2.2.1 l.2.2.2.2.2.2.2.2.2.2.2) st.f2 fun h5 st=>(aU rfl (bN ?_)));cases i;exact xE (k _ _ ⟨u,B,E,rfl,q.t c,st.f8.f8.f8.f8.f8.f8.f6.f8.f8,g.mono c,f.mono c,d7,p.mono c,s.mono c,n.mono c,o.mono c⟩)
      intro A i;refine aL (bN ?_);cases i;exact xE (k _ _ ⟨o9,q0,q4,rfl,q,st.f8.f8.f8.f8.f8.f8.f8.f8.f8,g,f,n3,p,s,n,o⟩)
     intro K;refine dK [(14,fun w'=>Inv q3 w'/\True)] kr st fun h7 _ st=> ?_;have a:=q3.le_refl;refine tA st a ?_;refine cM 28 2 0 112 0 (.agg #[vS a1 p0 c1]) (.head _) (fun _ h=>h.1) g (aD 1 113 (vI n4.2) (.head _) (aD 2 114 (vT k8.2) (.head _) (aD 3 115 (vT k9.2) (.head _) (cM 28 2 5 117 0 (.agg #[vS a1 p0 c1]) (.head _) (fun _ h=>h.1) g (aD 6 118 (vI n4.2) (.head _) (aD 7 119 (vT k8.2) (.head _) (aD 8 120 (vT k9.2) (.head _) (nJ [4,10,11] kr (by simp) (OE ?_ ?_ ?_)))))))))
     .refine cL 116 i (fun _ h=>BI st f h) ?_;rintro G i _ h6 ⟨h5,rfl,k,st⟩;refine⟨_,rfl,?_⟩;have q:=q.t k;have g:=g.mono k;have f:=f.mono k;have F:=F.mono k;have p:=p.mono k;have s:=s.mono k;have n:=n.mono k;have o:=o.mono k;have a:=Mem.le_trans a k;refine tA st a ?_;refine nJ [9,10,11] kr (by simp) (OE ?_ ?_ ?_)
      .refine cL 121 i (fun _ h=>rP st f h) ?_;rintro B i _ h4 ⟨v,rfl,c,st⟩;refine⟨_,rfl,?_⟩;have f:=f.mono c;have a:=Mem.le_trans a c;refine tA st a ?_;refine nJ [10,11] kr (by simp) (oS ?_ ?_)
       .refine lV 17 66 (.agg (Vf eB eB 0 eB 0 0)) st fun E d5 st=> ?_;refine tA st a ?_;refine aY 11 kr (lV 18 66 (.agg (Vf eB eB 0 eB 0 0)) st fun u d6 st=>(tA st a (aY 12 kr (eC 66 17 116 (.agg (Vg G)) st.f1 fun d7 st=>(tA st a (aY 13 kr (eC 66 18 121 (.agg (Vg B)) st.f1 fun d8 st=>(tA st a ?_))))))));obtain rfl:=sI i;exact cC kr (eG _ kr (K _ _ ⟨E,u,v,rfl,q.t c,st.f8.f8.f8.f8.f8.f8.f8.f8.f8,g.mono c,f,F.mono c,p.mono c,s.mono c,n.mono c,o.mono c⟩))
       refine lV 18 66 (.agg (Vf eB eB 0 eB 0 0)) st fun E d5 st=> ?_;refine tA st a ?_;refine aY 10 kr (lV 17 66 (.agg (Vf eB eB 0 eB 0 0)) st fun u d6 st=>(tA st a (aY 12 kr (eC 66 17 116 (.agg (Vg G)) st fun d7 st=>(tA st a (aY 13 kr (eC 66 18 121 (.agg (Vg B)) st.f1 fun d8 st=>(tA st a ?_))))))));obtain rfl:=sI i;exact cC kr (eG _ kr (K _ _ ⟨u,E,v,rfl,q.t c,st.f8.f8.f8.f8.f8.f8.f8.f8.f8,g.mono c,f,F.mono c,p.mono c,s.mono c,n.mono c,o.mono c⟩))
      .refine lV 17 66 (.agg (Vf eB eB 0 eB 0 0)) st fun E h4 st=> ?_;refine tA st a ?_;refine nJ [9,11] kr (by simp) (oS ?_ ?_)
       .refine cL 121 i (fun _ h=>rP st f h) ?_;rintro B i _ d5 ⟨v,rfl,c,st⟩;refine⟨_,rfl,?_⟩;have a:=Mem.le_trans a c;refine tA st a ?_;refine aY 11 kr (lV 18 66 (.agg (Vf eB eB 0 eB 0 0)) st fun u d6 st=>(tA st a (aY 12 kr (eC 66 17 116 (.agg (Vg G)) st.f1 fun d7 st=>(tA st a (aY 13 kr (eC 66 18 121 (.agg (Vg B)) st.f1 fun d8 st=>(tA st a ?_))))))));obtain rfl:=sI i;exact cC kr (eG _ kr (K _ _ ⟨E,u,v,rfl,q.t c,st.f8.f8.f8.f8.f8.f8.f8.f8.f8,g.mono c,f.mono c,F.mono c,p.mono c,s.mono c,n.mono c,o.mono c⟩))
       refine lV 18 66 (.agg (Vf eB eB 0 eB 0 0)) st fun u d5 st=> ?_;refine tA st a ?_;refine aY 9 kr (cL 121 i (fun _ h=>rP st f h) ?_);rintro B i _ d6 ⟨v,rfl,c,st⟩;refine⟨_,rfl,?_⟩;have a:=Mem.le_trans a c;refine tA st a ?_;refine aY 12 kr (eC 66 17 116 (.agg (Vg G)) st.f1 fun d7 st=>(tA st a (aY 13 kr (eC 66 18 121 (.agg (Vg B)) st.f1 fun d8 st=>(tA st a ?_)))));obtain rfl:=sI i;exact cC kr (eG _ kr (K _ _ ⟨E,u,v,rfl,q.t c,st.f8.f8.f8.f8.f8.f8.f8.f8.f8,g.mono c,f.mono c,F.mono c,p.mono c,s.mono c,n.mono c,o.mono c⟩))
      refine lV 18 66 (.agg (Vf eB eB 0 eB 0 0)) st fun E h4 st=> ?_;refine tA st a ?_;refine nJ [9,10] kr (by simp) (oS ?_ ?_)
      .refine cL 121 i (fun _ h=>rP st f h) ?_;rintro B i _ d5 ⟨v,rfl,c,st⟩;refine⟨_,rfl,?_⟩;have a:=Mem.le_trans a c;refine tA st a ?_;refine aY 10 kr (lV 17 66 (.agg (Vf eB eB 0 eB 0 0)) st fun u d6 st=>(tA st a (aY 12 kr (eC 66 17 116 (.agg (Vg G)) st fun d7 st=>(tA st a (aY 13 kr (eC 66 18 121 (.agg (Vg B)) st.f1 fun d8 st=>(tA st a ?_))))))));obtain rfl:=sI i;exact cC kr (eG _ kr (K _ _ ⟨u,E,v,rfl,q.t c,st.f8.f8.f8.f8.f8.f8.f8.f8.f8,g.mono c,f.mono c,F.mono c,p.mono c,s.mono c,n.mono c,o.mono c⟩))
      refine lV 17 66 (.agg (Vf eB eB 0 eB 0 0)) st fun u d5 st=> ?_;refine tA st a ?_;refine aY 9 kr (cL 121 i (fun _ h=>rP st f h) ?_);rintro B i _ d6 ⟨v,rfl,c,st⟩;refine⟨_,rfl,?_⟩;have a:=Mem.le_trans a c;refine tA st a ?_;refine aY 12 kr (eC 66 17 116 (.agg (Vg G)) st fun d7 st=>(tA st a (aY 13 kr (eC 66 18 121 (.agg (Vg B)) st.f1 fun d8 st=>(tA st a ?_)))));obtain rfl:=sI i;exact cC kr (eG _ kr (K _ _ ⟨u,E,v,rfl,q.t c,st.f8.f8.f8.f8.f8.f8.f8.f8.f8,g.mono c,f.mono c,F.mono c,p.mono c,s.mono c,n.mono c,o.mono c⟩))
     .refine lV 17 66 (.agg (Vf eB eB 0 eB 0 0)) st fun E h6 st=> ?_;refine tA st a ?_;refine nJ [4,11] kr (by simp) (oS ?_ ?_)
      .refine cL 116 i (fun _ h=>BI st f h) ?_;rintro G i _ h4 ⟨h5,rfl,k,st⟩;refine⟨_,rfl,?_⟩;have f:=f.mono k;have a:=Mem.le_trans a k;refine tA st a ?_;refine nJ [9,11] kr (by simp) (oS ?_ ?_)
       .refine cL 121 i (fun _ h=>rP st f h) ?_;rintro B i _ d5 ⟨v,rfl,c,st⟩;refine⟨_,rfl,?_⟩;have a:=Mem.le_trans a c;refine tA st a ?_;refine aY 11 kr (lV 18 66 (.agg (Vf eB eB 0 eB 0 0)) st fun u d6 st=>(tA st a (aY 12 kr (eC 66 17 116 (.agg (Vg G)) st.f1 fun d7 st=>(tA st a (aY 13 kr (eC 66 18 121 (.agg (Vg B)) st.f1 fun d8 st=>(tA st a ?_))))))));obtain rfl:=sI i;exact cC kr (eG _ kr (K _ _ ⟨E,u,v,rfl,(q.t k).t c,st.f8.f8.f8.f8.f8.f8.f8.f8.f8,(g.mono k).mono c,f.mono c,(F.mono k).mono c,(p.mono k).mono c,(s.mono k).mono c,(n.mono k).mono c,(o.mono k).mono c⟩))
       refine lV 18 66 (.agg (Vf eB eB 0 eB 0 0)) st fun u d5 st=> ?_;refine tA st a ?_;refine aY 9 kr (cL 121 i (fun _ h=>rP st f h) ?_);rintro B i _ d6 ⟨v,rfl,c,st⟩;refine⟨_,rfl,?_⟩;have a:=Mem.le_trans a c;refine tA st a ?_;refine aY 12 kr (eC 66 17 116 (.agg (Vg G)) st.f1 fun d7 st=>(tA st a (aY 13 kr (eC 66 18 121 (.agg (Vg B)) st.f1 fun d8 st=>(tA st a ?_)))));obtain rfl:=sI i;exact cC kr (eG _ kr (K _ _ ⟨E,u,v,rfl,(q.t k).t c,st.f8.f8.f8.f8.f8.f8.f8.f8.f8,(g.mono k).mono c,f.mono c,(F.mono k).mono c,(p.mono k).mono c,(s.mono k).mono c,(n.mono k).mono c,(o.mono k).mono c⟩))
      refine lV 18 66 (.agg (Vf eB eB 0 eB 0 0)) st fun u h4 st=> ?_;refine tA st a ?_;refine aY 4 kr (cL 116 i (fun _ h=>BI st f h) ?_);rintro G i _ d5 ⟨h5,rfl,k,st⟩;refine⟨_,rfl,?_⟩;have f:=f.mono k;have a:=Mem.le_trans a k;refine tA st a ?_;refine aY 9 kr (cL 121 i (fun _ h=>rP st f h) ?_);rintro B i _ d6 ⟨v,rfl,c,st⟩;refine⟨_,rfl,?_⟩;have a:=Mem.le_trans a c;refine tA st a ?_;refine aY 12 kr (eC 66 17 116 (.agg (Vg G)) st.f1 fun d7 st=>(tA st a (aY 13 kr (eC 66 18 121 (.agg (Vg B)) st.f1 fun d8 st=>(tA st a ?_)))));obtain rfl:=sI i;exact cC kr (eG _ kr (K _ _ ⟨E,u,v,rfl,(q.t k).t c,st.f8.f8.f8.f8.f8.f8.f8.f8.f8,(g.mono k).mono c,f.mono c,(F.mono k).mono c,(p.mono k).mono c,(s.mono k).mono c,(n.mono k).mono c,(o.mono k).mono c⟩))
     refine lV 18 66 (.agg (Vf eB eB 0 eB 0 0)) st fun E h6 st=> ?_;refine tA st a ?_;refine nJ [4,10] kr (by simp) (oS ?_ ?_)
     .refine cL 116 i (fun _ h=>BI st f h) ?_;rintro G i _ h4 ⟨h5,rfl,k,st⟩;refine⟨_,rfl,?_⟩;have f:=f.mono k;have a:=Mem.le_trans a k;refine tA st a ?_;refine nJ [9,10] kr (by simp) (oS ?_ ?_)
      .refine cL 121 i (fun _ h=>rP st f h) ?_;rintro B i _ d5 ⟨v,rfl,c,st⟩;refine⟨_,rfl,?_⟩;have a:=Mem.le_trans a c;refine tA st a ?_;refine aY 10 kr (lV 17 66 (.agg (Vf eB eB 0 eB 0 0)) st fun u d6 st=>(tA st a (aY 12 kr (eC 66 17 116 (.agg (Vg G)) st fun d7 st=>(tA st a (aY 13 kr (eC 66 18 121 (.agg (Vg B)) st.f1 fun d8 st=>(tA st a ?_))))))));obtain rfl:=sI i;exact cC kr (eG _ kr (K _ _ ⟨u,E,v,rfl,(q.t k).t c,st.f8.f8.f8.f8.f8.f8.f8.f8.f8,(g.mono k).mono c,f.mono c,(F.mono k).mono c,(p.mono k).mono c,(s.mono k).mono c,(n.mono k).mono c,(o.mono k).mono c⟩))
      refine lV 17 66 (.agg (Vf eB eB 0 eB 0 0)) st fun u d5 st=> ?_;refine tA st a ?_;refine aY 9 kr (cL 121 i (fun _ h=>rP st f h) ?_);rintro B i _ d6 ⟨v,rfl,c,st⟩;refine⟨_,rfl,?_⟩;have a:=Mem.le_trans a c;refine tA st a ?_;refine aY 12 kr (eC 66 17 116 (.agg (Vg G)) st fun d7 st=>(tA st a (aY 13 kr (eC 66 18 121 (.agg (Vg B)) st.f1 fun d8 st=>(tA st a ?_)))));obtain rfl:=sI i;exact cC kr (eG _ kr (K _ _ ⟨u,E,v,rfl,(q.t k).t c,st.f8.f8.f8.f8.f8.f8.f8.f8.f8,(g.mono k).mono c,f.mono c,(F.mono k).mono c,(p.mono k).mono c,(s.mono k).mono c,(n.mono k).mono c,(o.mono k).mono c⟩))
     refine lV 17 66 (.agg (Vf eB eB 0 eB 0 0)) st fun u h4 st=> ?_;refine tA st a ?_;refine aY 4 kr (cL 116 i (fun _ h=>BI st f h) ?_);rintro G i _ d5 ⟨h5,rfl,k,st⟩;refine⟨_,rfl,?_⟩;have f:=f.mono k;have a:=Mem.le_trans a k;refine tA st a ?_;refine aY 9 kr (cL 121 i (fun _ h=>rP st f h) ?_);rintro B i _ d6 ⟨v,rfl,c,st⟩;refine⟨_,rfl,?_⟩;have a:=Mem.le_trans a c;refine tA st a ?_;refine aY 12 kr (eC 66 17 116 (.agg (Vg G)) st fun d7 st=>(tA st a (aY 13 kr (eC 66 18 121 (.agg (Vg B)) st.f1 fun d8 st=>(tA st a ?_)))));obtain rfl:=sI i;exact cC kr (eG _ kr (K _ _ ⟨u,E,v,rfl,(q.t k).t c,st.f8.f8.f8.f8.f8.f8.f8.f8.f8,(g.mono k).mono c,f.mono c,(F.mono k).mono c,(p.mono k).mono c,(s.mono k).mono c,(n.mono k).mono c,(o.mono k).mono c⟩))
    intro K;refine aA 4 [(89,vB (!(D.2==z.2)))] (cH 89 i ?_ ?_)
    .intro A i;refine aA 5 [(94,vB true)] ?_;cases i;exact bD _ kr (K _ _ ⟨s5,rfl,(((q.t k5).t l1).t k6).t g0,st.f5.f5.f4.f4.f6.f6.f6,g.mono g0,f,p,s,n,o,(l4.mono k6).mono g0⟩)
    intro A i;refine bG 90 (.agg (Vc D.1 M V R Y)) st.t.t.t.h ?_;refine bG 91 (.agg (Vc z.1 S Z U b0)) st.h ?_;refine aM 92 i (RV (p0:=D.1) (p1:=z.1) st n o p s) ?_;rintro k i _ l ⟨c,rfl,a,st⟩;refine aA 2 [(94,vB (!k))] ?_;cases i;exact bD _ kr (K _ _ ⟨c,rfl,((((q.t k5).t l1).t k6).t g0).t a,st.f5.f5.f4.f4.f6.f6.f6,(g.mono g0).mono a,f.mono a,p.mono a,s.mono a,n.mono a,o.mono a,((l4.mono k6).mono g0).mono a⟩)
   intro A i;refine cJ (bC ?_);have ho:=h1 _ (sI i);refine bC ?_;exact xE (o8 _ _ ⟨s2.2,l9,n1,h3,ho,rfl,q,st,q6⟩)
  intro o;refine cR _ kr (cQ (fun p L' w'=>∃(s1:Int),∃a,aK (EJ N p1 d1 g2) p s1=some n9/\L'=[(1,vP bp1 0),(2,vP b1 0),(5,vS a9 d1 c9),(6,vS g6 g2 g7),(53,vI (d1.length:Int)),(54,vI s1)]/\m.le a/\St a (kB bp1 (V1 p1 a2 c2) 25::kR g6 g2 g7 55 2::kR a9 d1 c9 55 2::O) w'/\MRow a b1 0 [vS a1 p0 c1]/\RepS C1 a a1 c1 p0/\RepS C1 a a9 c9 d1/\RepS C1 a g6 g7 g2/\RepS (aX .i64) a a2 c2 p1.1) N ⟨0,q1,i,rfl,(q.t k4).t g8,st.f1.f1.f2,(g.mono k4).mono g8,f.mono g8,r9.mono g8,n2,r2⟩ ?_);rintro p _ M ⟨s1,a,hL,rfl,q,st,g,f,r9,n2,r2⟩;rcases p with _|p
  .exact cU hL
  obtain⟨H,i,s,c⟩:=cV hL;clear hL;unfold EJ at i;refine aG 1 [(55,vB (decide (s1<(d1.length:Int))))] (aF ?_);refine aI i ?_ ?_
  .intro A i;refine aL (aB (aF (bB (aG 2 [(7,vI s1)] (aF (dK [(9,fun w'=>Inv a w'/\True)] kr st fun R _ st=> ?_))))));have k:=a.le_refl;refine tA st k ?_;refine aD 0 57 (vS a9 d1 c9) (.head _) (aD 1 58 (vI s1) (.head _) ?_);have⟨l,u,i⟩:=aZ i;refine iU (t:=52) (e:=55) (x:=(.tmp 57)) (y:=(.tmp 58)) 2 59 C1 kr rfl kr (.head _) (bJ (cY (bJ (bJ (cY (bJ eV)))))) (ev (vS a9 d1 c9)) (ev (vI s1)) kr r9 u ?_;rintro S D F ⟨_,_,rfl,rfl,rfl⟩ z;refine cM 55 59 3 60 D (.agg (V2 l)) (.head _) (fun _ h=>h.1) z (aD 4 61 (vS g6 g2 g7) (.head _) (aD 5 62 (vI s1) (.head _) ?_));have⟨n,v,i⟩:=aZ i;refine iU (t:=52) (e:=55) (x:=(.tmp 61)) (y:=(.tmp 62)) 6 63 C1 kr rfl kr (.head _) (bJ (cY (bJ (bJ (cY (bJ eV)))))) (ev (vS g6 g2 g7)) (ev (vI s1)) kr n2 v ?_;rintro U E G ⟨_,_,rfl,rfl,rfl⟩ B;refine cM 55 63 7 64 E (.agg (V2 n)) (.head _) (fun _ h=>h.1) B (aY 8 kr (KV (d:=65) (t:=55) (t2:=55) (x:=(.tmp 60)) (y:=(.tmp 64)) (xs:=(V2 l)) (ys:=(V2 n)) ((l.1.toList==n.1.toList)&&((l.2.toList==n.2.toList)&&true)) kr rfl (ev (.agg (V2 l))) (ev (.agg (V2 n))) kr kr kr (tA st k (cC kr (aB (aI i ?_ ?_))))))
   .intro A i;refine aV 1 [(4,vB false)] ?_;refine aU rfl ?_;have st:=st.f1.t.f1.t;refine aB (aO (bI (aR ?_)));have ho:=c _ (sI i);subst ho;have i:=j1;refine aR (bI (aR ?_));cases i;exact aT [4] [vB false] ⟨a2,c2,a,rfl,q,st,r2⟩
   intro A i;refine aL (bN (aB (bA (aA 2 [(54,vI (wr (s1+1)))] (aU rfl ?_)))));have hL:=s _ (sI i);exact xE (cN ⟨wr (s1+1),a,hL,rfl,q,st.f2.f2.f2,g,f,r9,n2,r2⟩)
  intro A i;refine cJ (bC ?_);have ho:=c _ (sI i);have st:=st.f2.f2.f2;refine bC ?_;exact xE (o _ _ ⟨(),a,ho,rfl,q,st,g,f,r2⟩)
 intro K;refine dK [(22,fun w'=>Inv m1 w'/\True)] kr st fun w3 _ st=> ?_;have a:=m1.le_refl;refine tA st a ?_;have hb1S:=g;refine cM 28 2 0 21 0 (.agg #[vS a1 p0 c1]) (.head _) (fun _ h=>h.1) g (cM 28 2 2 23 0 (.agg #[vS a1 p0 c1]) (.head _) (fun _ h=>h.1) g (aY 1 kr (cL 22 i (fun _ h=>SG st f h) ?_)));rintro y1 i _ w4 ⟨a3,c3,m3,rfl,o,st,H⟩;refine⟨_,rfl,?_⟩;have a:=Mem.le_trans a o;refine tA st a ?_;refine aY 3 kr (cL 24 i (fun _ h=>qCg st (f.mono o) h) ?_);rintro y2 i _ w5 ⟨a4,c4,m4,rfl,p,st,M⟩;refine⟨_,rfl,?_⟩;have a:=Mem.le_trans a p;refine tA st a ?_;refine aY 4 kr (cL 25 i (fun _ h=>RG st (H.mono p) M h) ?_);rintro B i _ w6 ⟨F,rfl,z,st⟩;refine⟨_,rfl,?_⟩;have q:=(((q.t e1).t o).t p).t z;have g:=((g.mono o).mono p).mono z;have f:=((f.mono o).mono p).mono z;have r2:=(((r2.mono e1).mono o).mono p).mono z;have a:=Mem.le_trans a z;refine tA st a ?_;refine aD 5 26 (vB (!B)) (.head _) (aD 6 27 (vB (!B)) (.head _) ?_);rcases dJ (!B) with A|A
 .rw[if_pos A] at i;refine iM (t:=27) (b:=true) (!B) kr A ?_;refine aW 7 28 (.head _) (aW 8 29 (.head _) (aW 9 30 (.head _) (aW 10 31 (.head _) (aW 11 32 (.head _) (aW 12 33 (.head _) (aD 13 34 (vB true) (.head _) (aD 14 35 (vB true) (.head _) (aW 15 36 (.head _) (aW 16 37 (.head _) (aW 17 38 (.head _) (aW 18 39 (.head _) (aW 19 40 (.head _) (aW 20 41 (.head _) (aD 21 42 (vB true) (.head _) ?_))))))))))))));cases i;exact cC kr (eG _ kr (K _ _ ⟨F,rfl,q,st.t,g,f,r2⟩))
 rw[if_neg (not_true A)] at i;refine iM (t:=27) (b:=false) (!B) kr A ?_;refine cM 28 2 7 28 0 (.agg #[vS a1 p0 c1]) (.head _) (fun _ h=>h.1) hb1S (cM 28 2 9 30 0 (.agg #[vS a1 p0 c1]) (.head _) (fun _ h=>h.1) hb1S (aY 8 kr (cL 29 i (fun _ h=>qDq st f h) ?_)));rintro y4 i _ w7 ⟨a5,c5,m6,rfl,c,st,R⟩;refine⟨_,rfl,?_⟩;have a:=Mem.le_trans a c;refine tA st a ?_;refine aY 10 kr (cL 31 i (fun _ h=>qCj st (f.mono c) h) ?_);rintro y5 i _ w8 ⟨a6,c6,m7,rfl,k,st,S⟩;refine⟨_,rfl,?_⟩;have a:=Mem.le_trans a k;refine tA st a ?_;refine aY 11 kr (cL 32 i (fun _ h=>RG st (R.mono k) S h) ?_);rintro v i _ w9 ⟨G,rfl,n,st⟩;refine⟨_,rfl,?_⟩;have f:=((f.mono c).mono k).mono n;have a:=Mem.le_trans a n;refine tA st a ?_;refine aD 12 33 (vB (!v)) (.head _) (aD 13 34 (vB (!v)) (.head _) (aD 14 35 (vB (!v)) (.head _) ?_));rcases dJ (!v) with A|A
 .rw[if_pos A] at i;refine iM (t:=35) (b:=true) (!v) kr A ?_;refine aW 15 36 (.head _) (aW 16 37 (.head _) (aW 17 38 (.head _) (aW 18 39 (.head _) (aW 19 40 (.head _) (aW 20 41 (.head _) (aD 21 42 (vB true) (.head _) ?_))))));cases i;exact cC kr (eG _ kr (K _ _ ⟨G,rfl,((q.t c).t k).t n,st.t.t.t,((g.mono c).mono k).mono n,f,((r2.mono c).mono k).mono n⟩))
 rw[if_neg (not_true A)] at i;refine iM (t:=35) (b:=false) (!v) kr A ?_;refine cM 28 2 15 36 0 (.agg #[vS a1 p0 c1]) (.head _) (fun _ h=>h.1) hb1S (cM 28 2 17 38 0 (.agg #[vS a1 p0 c1]) (.head _) (fun _ h=>h.1) hb1S (aY 16 kr (cL 37 i (fun _ h=>RX st f h) ?_)));rintro y7 i _ Z ⟨a7,c7,m9,rfl,s,st,U⟩;refine⟨_,rfl,?_⟩;have a:=Mem.le_trans a s;refine tA st a ?_;refine aY 18 kr (cL 39 i (fun _ h=>RH st (f.mono s) h) ?_);rintro y8 i _ b0 ⟨a8,c8,Y,rfl,u,st,V⟩;refine⟨_,rfl,?_⟩;have a:=Mem.le_trans a u;refine tA st a ?_;refine aY 19 kr (cL 40 i (fun _ h=>qBl st (U.mono u) V h) ?_);rintro E i _ c0 ⟨D,rfl,l,st⟩;refine⟨_,rfl,?_⟩;have a:=Mem.le_trans a l;refine tA st a ?_;refine aD 20 41 (vB (!E)) (.head _) (aD 21 42 (vB (!E)) (.head _) ?_);cases i;exact cC kr (eG _ kr (K _ _ ⟨D,rfl,(((((q.t c).t k).t n).t s).t u).t l,st.t.t.t.t.t,(((((g.mono c).mono k).mono n).mono s).mono u).mono l,((f.mono s).mono u).mono l,(((((r2.mono c).mono k).mono n).mono s).mono u).mono l⟩))
def AU(N:Nat):Ti:=
 (xP N ([((⟨#[97,46,115,114,99]⟩:BA),(⟨#[112,97,99,107,97,103,101,32,112,59,32,102,117,110,99,32,102,40,41,32,61,32,49,59,32,116,101,115,116,32,116,32,61,32,102,40,41,59]⟩:BA)),((⟨#[98,46,115,114,99]⟩:BA),(⟨#[112,97,99,107,97,103,101,32,112,59,32,102,117,110,99,32,102,40,41,32,61,32,50,59]⟩:BA)),((⟨#[99,46,115,114,99]⟩:BA),(⟨#[102,117,110,99]⟩:BA))]) 1 (⟨#[112]⟩:BA) (⟨#[102]⟩:BA)).bind fun y1=>(xO N ([((⟨#[97,46,115,114,99]⟩:BA),(⟨#[112,97,99,107,97,103,101,32,112,59,32,102,117,110,99,32,102,40,41,32,61,32,49,59,32,116,101,115,116,32,116,32,61,32,102,40,41,59]⟩:BA)),((⟨#[98,46,115,114,99]⟩:BA),(⟨#[112,97,99,107,97,103,101,32,112,59,32,102,117,110,99,32,102,40,41,32,61,32,50,59]⟩:BA)),((⟨#[99,46,115,114,99]⟩:BA),(⟨#[102,117,110,99]⟩:BA))])).bind fun a=>(xM N ([((⟨#[97,46,115,114,99]⟩:BA),(⟨#[112,97,99,107,97,103,101,32,112,59,32,102,117,110,99,32,102,40,41,32,61,32,49,59,32,116,101,115,116,32,116,32,61,32,102,40,41,59]⟩:BA)),((⟨#[98,46,115,114,99]⟩:BA),(⟨#[112,97,99,107,97,103,101,32,112,59,32,102,117,110,99,32,102,40,41,32,61,32,50,59]⟩:BA)),((⟨#[99,46,115,114,99]⟩:BA),(⟨#[102,117,110,99]⟩:BA))])).bind fun b=>(if((y1.1.toList==(⟨#[112]⟩:BA).toList)&&((y1.2.1.toList==(⟨#[102]⟩:BA).toList)&&((y1.2.2.1==1)&&((y1.2.2.2.1.toList==(⟨#[97,46,115,114,99]⟩:BA).toList)&&((y1.2.2.2.2.1==0)&&((y1.2.2.2.2.2==2)&&true))))))=true then(if((List.length a:Int)==1)=true then((bV a 0).bind fun a=>if(a.2.toList==(⟨#[116]⟩:BA).toList)=true then(if((List.length b:Int)==1)=true then((bV b 0).bind fun a=>some (a.toList==(⟨#[99,46,115,114,99]⟩:BA).toList)) else(some false)) else(some false)) else(some false)) else(some false):Ti).bind fun a=>some a
theorem qCm{r:Bool}(st:St m (O) w)(i:AU N=some r):Calls prog 8 #[] w fun e w'=>∃m',e= .returned (vB r)/\m.le m'/\St m' (O) w':=by
 unfold AU at i;have q:=m.le_refl;refine bH func8 rfl ntmps8 ?_;refine aG 1 [] (aC ?_);refine aA 3 [(5,.agg (V3 ba tF)),(6,.agg (V3 bb tG)),(7,.agg (V3 b1s bz))] (dV 8 42 3 C1 [(ba,tF),(bb,tG),(b1s,bz)] st fun b m1 w1 R st a=>(aA 1 [(9,.agg #[.slice (aP b) (List.length ([(ba,tF),(bb,tG),(b1s,bz)])) 3])] (cG 1 28 (.agg #[v6]) st fun G w2 st=>(bM (.agg #[.slice (aP b) (List.length ([(ba,tF),(bb,tG),(b1s,bz)])) 3]) st fun w3 st=>(aS (aC (bG 10 (.agg #[.slice (aP b) (List.length ([(ba,tF),(bb,tG),(b1s,bz)])) 3]) st.h (aM 11 i (BI st a) ?_))))))));rintro y1 i _ w4 ⟨m2,rfl,z,st⟩;have a:=a.mono z;refine cG 2 66 (.agg (Vf eB eB 0 eB 0 0)) st fun H w5 st=> ?_;refine bM (.agg (Vg y1)) st fun w6 st=> ?_;refine aS (aC (bG 12 (.agg #[.slice (aP b) (List.length ([(ba,tF),(bb,tG),(b1s,bz)])) 3]) st.t.h (aM 13 i (SI st a) ?_)));rintro k i _ w7 ⟨l,n,m3,rfl,o,st,V⟩;refine aH 1 [(3,vS l k n)] (aC (bG 14 (.agg #[.slice (aP b) (List.length ([(ba,tF),(bb,tG),(b1s,bz)])) 3]) st.t.t.h (aM 15 i (SG st (a.mono o)) ?_)));rintro s i _ w8 ⟨u,v,c,rfl,p,st,Y⟩;have q:=(((q.t R).t z).t o).t p;have a:=(a.mono o).mono p
 refine aH 1 [(4,vS u s v)] (aC (dT 27 i (fun g L' w'=>∃f,L'=[(0,vB g)]/\m.le f/\St f (kB H (Vg y1) 66::kB G #[.slice (aP b) (List.length ([(ba,tF),(bb,tG),(b1s,bz)])) 3] 28::kR l k n 55 2:: .room (aP b) (List.length ([(ba,tF),(bb,tG),(b1s,bz)])) 3 42 2::O) w'/\RepS C1 f (aP b) 3 ([(ba,tF),(bb,tG),(b1s,bz)])) ?_ ?_))
 .rintro g i _ B ⟨f,rfl,q,st,a⟩;refine aS (aO ?_);obtain rfl:=sI i;exact aT [0] [vB g] ⟨f,rfl,q,st.t.t.t.t⟩
 intro g i K;refine bG 16 (.agg (Vg y1)) st.t.h ?_;refine aA 1 [(17,.agg (Vf be bn 1 ba 0 2))] (bQ rfl (OB (d:=18) (t:=66) (t2:=66) (x:=(.tmp 16)) (y:=(.tmp 17)) (xs:=(Vg y1)) (ys:=(Vf be bn 1 ba 0 2)) ((y1.1.toList==be.toList)&&((y1.2.1.toList==bn.toList)&&((y1.2.2.1==1)&&((y1.2.2.2.1.toList==ba.toList)&&((y1.2.2.2.2.1==0)&&((y1.2.2.2.2.2==2)&&true)))))) kr rfl (ev (.agg (Vg y1))) (ev (.agg (Vf be bn 1 ba 0 2))) kr kr kr (aA 1 [(19,vB ((y1.1.toList==be.toList)&&((y1.2.1.toList==bn.toList)&&((y1.2.2.1==1)&&((y1.2.2.2.1.toList==ba.toList)&&((y1.2.2.2.2.1==0)&&((y1.2.2.2.2.2==2)&&true)))))))] (cH 19 i ?_ ?_))))
 .intro A i;refine aA 5 [(24,vB ((k.length:Int)==1))] (cH 24 i ?_ ?_)
  .intro A i;refine aA 1 [(25,vS l k n)] (eP 26 (V.mono p) i ?_);rintro E i M S Z ⟨_,_,rfl,rfl,rfl⟩ B;refine aA 1 [(27,.pointer (some ⟨M,S+1,none⟩))] (bW 28 (vT E.2) st (B.drop 1) (aA 3 [(31,vB (E.2.toList==bh.toList))] (cH 31 i ?_ ?_)))
   .intro A i;refine aA 5 [(36,vB ((s.length:Int)==1))] (cH 36 i ?_ ?_)
    .intro A i;refine aA 1 [(37,vS u s v)] (eP 38 Y i ?_);rintro F i b5 U a3 rfl D;refine eS 39 9 38 U (vT F) st D (aA 3 [(0,vB (F.toList==b1s.toList))] ?_);cases i;exact bD _ kr (K _ _ ⟨c,rfl,q,st.f3.f1.f3.f3,a⟩)
    intro A i;refine aA 6 [(0,vB false)] ?_;cases i;exact bD _ kr (K _ _ ⟨c,rfl,q,st.f3.f1.f3.f3,a⟩)
   intro A i;refine aA 11 [(0,vB false)] ?_;cases i;exact bD _ kr (K _ _ ⟨c,rfl,q,st.f3.f1.f3.f3,a⟩)
  intro A i;refine aA 18 [(0,vB false)] ?_;cases i;exact bD _ kr (K _ _ ⟨c,rfl,q,st.f3.f1.f3.f3,a⟩)
 intro A i;refine aA 23 [(0,vB false)] ?_;cases i;exact bD _ kr (K _ _ ⟨c,rfl,q,st.f3.f1.f3.f3,a⟩)
def JC(N:Nat)(s1:Int×IJ):Option (Int×IJ⊕IJ):=
 if(decide (s1.1>0))=true then((FQ N (s1.2.1,s1.2.2.1) s1.2.2.2).bind fun a=>some (.inl (IntKind.wrap .i64 (s1.1-1),a.1.1,a.1.2,a.2))) else(some (.inr s1.2))
def DT(N:Nat)(p0:Tb):Ti:=
 (EX N (p0,0)).bind fun y1=>(mF N y1.1 4).bind fun a=>(aK (JC N) N (a.2,a.1.1,a.1.2,y1.2)).bind fun a=>((FC N a.2.2 (a.1,a.2.1)).bind fun a=>if a.2=true then((AU N).bind fun y5=>some (y5,a.1.1,a.1.2)) else(some (false,a.1.1,a.1.2)):Option (Bool×Tc)).bind fun o2=>some o2.1
theorem qBk{p0:Tb}{r:Bool}(st:St m (O) w)(r1:RepS (aX .i64) m a1 c1 p0)(i:DT N p0=some r):Calls prog 3 #[vS a1 p0 c1] w fun e w'=>∃m',e= .returned (vB r)/\m.le m'/\St m' (O) w':=by
 unfold DT at i;have q:=m.le_refl;refine bH func3 rfl ntmps3 ?_;refine aG 1 [] (aC ?_);refine aA 2 [(7,.agg #[vS a1 p0 c1,vI 0])] (bQ rfl (pK 8 25 7 (.agg #[vS a1 p0 c1,vI 0]) st fun b w1 st=>(aH 1 [(3,vP b 0)] (aC (aA 1 [(9,vP b 0)] (aM 10 i (qCc (p0:=(p0,0)) st r1) ?_))))));rintro y1 i _ w2 ⟨a2,c2,H,M,m2,rfl,e2,st,r2,r3⟩;refine cG 4 28 (.agg #[v6]) st fun n w3 st=> ?_;refine bM (.agg #[vS H y1.2 M]) st fun w4 st=> ?_;refine aS (aF (aV 1 [(11,vP b 0)] (aM 12 i (oD (p0:=y1.1) st.f2 r2) ?_)));rintro x i _ w5 ⟨Y,c4,m3,rfl,R,st,r4⟩;refine aH 1 [(5,vI x.2)] (bB (cA (.exit 0) i (fun c L' w'=>∃(a:IJ),∃D E d f o,a=c/\L'=[(3,vP b 0),(4,vP n 0)]/\m.le o/\St o (kB b #[vS D a.1 E,vI a.2.1] 25::kB n #[vS d a.2.2 f] 28::kR d a.2.2 f 42 2::O) w'/\RepS (aX .i64) o D E a.1/\RepS C1 o d f a.2.2) ?_ ?_))
 .rintro c i _ Z ⟨a,D,E,d,f,o,rfl,rfl,q,st,G,s⟩;refine cO (aB (aC (dT 7 i (fun o2 L' w'=>∃k l g,L'=[(2,vB o2.1)]/\m.le g/\St g (kB b (V1 o2.2 k l) 25::kB n #[vS d a.2.2 f] 28::kR d a.2.2 f 42 2::O) w'/\RepS (aX .i64) g k l o2.2.1/\RepS C1 g d f a.2.2) ?_ ?_)))
  .rintro o2 i _ u ⟨k,l,g,rfl,q,st,p,s⟩;refine aS (aO ?_);cases i;exact aT [2] [vB o2.1] ⟨g,rfl,q,st.t.t.t⟩
  intro o2 i K;refine bG 20 (.agg #[vS d a.2.2 f]) st.t.h ?_;refine aA 1 [(21,vP b 0)] (aM 22 i (qCe (p1:=(a.1,a.2.1)) st s G) ?_);rintro S i _ U ⟨u,v,B,rfl,p,st,y⟩;refine aA 1 [(23,vB S.2)] (cH 23 i ?_ ?_)
  .intro A i;refine aM 24 i (qCm st) ?_;rintro y5 i _ V ⟨F,rfl,z,st⟩;refine aA 2 [(2,vB y5)] ?_;cases i;exact bD _ kr (K _ _ ⟨u,v,F,rfl,(q.t p).t z,st.f2.f2.f2,y.mono z,(s.mono p).mono z⟩)
  intro A i;refine aA 3 [(2,vB false)] ?_;cases i;exact bD _ kr (K _ _ ⟨u,v,B,rfl,q.t p,st.f2.f2.f2,y,s.mono p⟩)
 intro c i p;refine cR _ kr (cQ (fun v L' w'=>∃(s1:Int×IJ),∃s u g k l,aK (JC N) v s1=some c/\L'=[(3,vP b 0),(4,vP n 0),(5,vI s1.1)]/\m.le l/\St l (kB b #[vS s s1.2.1 u,vI s1.2.2.1] 25::kB n #[vS g s1.2.2.2 k] 28::kR g s1.2.2.2 k 42 2::O) w'/\RepS (aX .i64) l s u s1.2.1/\RepS C1 l g k s1.2.2.2) N ⟨(x.2,x.1.1,x.1.2,y1.2),Y,c4,H,M,m3,i,rfl,(q.t e2).t R,st.f2.f2.f2,r4,r3.mono R⟩ ?_);rintro v _ w7 ⟨s1,s,u,g,k,l,hL,rfl,q,st,U,V⟩;rcases v with _|v
 .exact cU hL
 obtain⟨b0,i,G,F⟩:=cV hL;clear hL;unfold JC at i;refine aF (aG 2 [(14,vB (decide (s1.1>0)))] (aI i ?_ ?_))
 .intro A i;refine aL (aB (aF (bB (bA (aA 1 [(17,vP b 0)] (bG 18 (.agg #[vS g s1.2.2.2 k]) st.t.h (aM 19 i (qDi (p0:=(s1.2.1,s1.2.2.1)) st U V) ?_)))))));rintro y i _ w8 ⟨Z,c9,z,B,m6,rfl,e4,st,r9,S⟩;refine bM (.agg #[vS z y.2 B]) st.f2 fun w9 st=> ?_;refine aU rfl ?_;have st:=st.f3.t;refine bN (aB (bA (aA 3 [(5,vI (wr (s1.1-1)))] (aU rfl ?_))));have hL:=G _ (sI i);exact xE (cN ⟨(wr (s1.1-1),y.1.1,y.1.2,y.2),Z,c9,z,B,m6,hL,rfl,q.t e4,st.f1.f1.f2,r9,S⟩)
 intro A i;refine cJ (bC ?_);have ho:=F _ (sI i);have st:=st.f2.f2.f2;refine bC ?_;exact xE (p _ _ ⟨s1.2,s,u,g,k,l,ho,rfl,q,st,U,V⟩)
end
end Go.Proofs.YtbclhfjdmfbegaaGreatDoor
section
namespace Go.Dc
theorem PH{σ β:Type}{f:σ->Option (σ⊕β)}(st:Nat->σ)(k:Nat)(res:β)(step:∀i,i<k->f (st i)=some (.inl (st (i+1))))(stop:f (st k)=some (.inr res)){N:Nat}(b:k<N):aK f N (st 0)=some res:=by
 have key:∀d i M,i+d=k->d<M->aK f M (st i)=some res:=by
  intro d
  induction d with
  |zero=>intro i M h a;obtain⟨M',rfl⟩:∃M',M=M'+1:=⟨M-1,by omega⟩;simp only[gO] at h;subst h;simp[aK,stop]
  |succ d c=>
   intro i M h a
   obtain⟨M',rfl⟩:∃M',M=M'+1:=⟨M-1,by omega⟩
   have:=c (i+1) M' (by omega) (by omega)
   simp[aK,step i (by omega),this]
 exact key k 0 N (by omega) b
section
variable {ν:Type}
theorem qFh{l:List (Int×ν)}{k c:Int}{v:ν}(h:c≠k):cS (l.map fun p=>if k=p.1 then(k,v) else p) c=cS l c:=by
 induction l with
 |nil=>rfl
 |cons p l a=>
  simp only[kJ,cS]
  by_cases hk:k=p.1
  .subst hk;rw[if_pos rfl,if_neg h,if_neg h,a]
  rw[if_neg hk,a]
theorem qFe{l:List (Int×ν)}{k:Int}{v:ν}(h:(cS l k).isSome=true):cS (l.map fun p=>if k=p.1 then(k,v) else p) k=some v:=by
 induction l with
 |nil=>cases h
 |cons p l a=>
  simp only[kJ,cS] at h ⊢
  by_cases hk:k=p.1
  .subst hk;simp
  rw[if_neg hk] at h ⊢
  rw[if_neg hk]
  exact a h
theorem qJh{l:List (Int×ν)}{k:Int}{v:ν}(h:cS l k=none)(c:Int):cS (mins l k v) c=if c=k then some v else cS l c:=by
 induction l with
 |nil=>rfl
 |cons p l a=>
  simp only[cS] at h
  split at h
  .cases h
  rename_i hk
  simp only[mins]
  split
  .simp only[cS]
  simp only[cS,a h]
  by_cases hc:c=k
  .subst hc;simp[hk]
  simp[hc]
theorem qIa(l:List (Int×ν))(k:Int)(v:ν)(c:Int):cS (mset l k v) c=if c=k then some v else cS l c:=by
 unfold mset
 split
 .rename_i h
  split
  .rename_i hc;subst hc;exact qFe h
  rename_i hc;exact qFh hc
 rename_i h
 exact qJh (by simpa using h) c
def Srt(l:List (Int×ν)):Prop:=(l.map (·.1)).Pairwise (· < ·)
theorem Srt.nil:Srt ([]:List (Int×ν)):=List.Pairwise.nil
theorem Srt.mins{l:List (Int×ν)}{k:Int}{v:ν}(d:Srt l)(h:cS l k=none):Srt (mins l k v):=by
 induction l with
 |nil=>simp[Srt,Go.Dc.mins]
 |cons p l f=>
  have hs':=d
  simp only[Srt,kJ,jV] at d
  simp only[cS] at h
  split at h
  .cases h
  rename_i hk
  simp only[Go.Dc.mins]
  split
  .rename_i b
   have b:k<p.1:=by simpa[KOrd.lt] using b
   refine jV.2 ⟨fun a c=> ?_,hs'⟩
   simp only[kJ,jI] at c
   rcases c with rfl|c
   .exact b
   exact Int.lt_trans b (d.1 a c)
  rename_i b
  have b:¬k<p.1:=by simpa[KOrd.lt] using b
  refine jV.2 ⟨fun a c=> ?_,f d.2 h⟩
  obtain⟨q,e,rfl⟩:=gY.1 c
  rcases jI.1 ((XC l k v).mem_iff.1 e) with rfl|e
  .show p.1<k;omega
  exact d.1 _ (gI e)
theorem Srt.mset{l:List (Int×ν)}(a:Srt l)(k:Int)(v:ν):Srt (mset l k v):=by
 unfold Go.Dc.mset
 split
 .unfold Srt
  have:(l.map fun p=>if k=p.1 then(k,v) else p).map (·.1)=l.map (·.1):=by
   rw[List.map_map]
   refine fY fun p _=> ?_
   simp only[Function.comp_apply]
   split
   .rename_i h;exact h
   rfl
  rw[this];exact a
 rename_i h
 exact a.mins (by simpa using h)
theorem Srt.out{l:List (Int×ν)}{c:Int}(h:∀a∈l.map (·.1),c<a):cS l c=none:=by
 rw[GV];intro b;exact Int.lt_irrefl _ (h c b)
theorem Srt.ext:∀{l k:List (Int×ν)},Srt l->Srt k->(∀c,cS l c=cS k c)->l=k
 |[],[],_,_,_=>rfl
 |[],q::k,_,_,h=>by have:=h q.1;simp[cS] at this
 |p::l,[],_,_,h=>by have:=h p.1;simp[cS] at this
 |p::l,q::k,n,g,h=>by
  have hl':(∀a∈l.map (·.1),p.1<a)/\Srt l:=jV.1 n
  have hk':(∀a∈k.map (·.1),q.1<a)/\Srt k:=jV.1 g
  have e:p.1=q.1:=by
   rcases Int.lt_trichotomy p.1 q.1 with d|f|d
   .have:=h p.1
    rw[Srt.out (l:=q::k) (c:=p.1)] at this
    .simp[cS] at this
    intro a b
    rcases jI.1 b with rfl|b
    .exact d
    exact Int.lt_trans d (hk'.1 a b)
   .exact f
   have:=h q.1
   rw[Srt.out (l:=p::l) (c:=q.1)] at this
   .simp[cS] at this
   intro a b
   rcases jI.1 b with rfl|b
   .exact d
   exact Int.lt_trans d (hl'.1 a b)
  have d:p.2=q.2:=by have:=h p.1;simpa[cS,e] using this
  have f:l=k:=by
   refine Srt.ext hl'.2 hk'.2 fun c=> ?_
   by_cases hc:c=p.1
   .rw[Srt.out (l:=l) (fun a b=>hc▸hl'.1 a b),Srt.out (l:=k) (fun a b=>by rw[hc,e];exact hk'.1 a b)]
   have:=h c
   simpa[cS,hc,e▸hc] using this
  rw[f,Prod.ext e d]
def pY(v:ν)(m:List (Int×ν))(xs:List UInt8):List (Int×ν):=xs.foldl (fun m x=>mset m (x.toNat:Int) v) m
theorem VD{v:ν}:∀{xs:List UInt8} {m:List (Int×ν)},Srt m->Srt (pY v m xs)
 |[],_,h=>h
 |_::xs,_,h=>VD (xs:=xs) (h.mset _ _)
theorem UH{v:ν}(c:Int):∀(xs:List UInt8) (m:List (Int×ν)),cS (pY v m xs) c=if xs.any (fun x=>decide ((x.toNat:Int)=c))=true then some v else cS m c
 |[],m=>by simp[pY]
 |x::xs,m=>by
  have:=UH (v:=v) c xs (mset m (x.toNat:Int) v)
  rw[show pY v m (x::xs)=pY v (mset m (x.toNat:Int) v) xs from rfl,this,qIa]
  by_cases h1:xs.any (fun x=>decide ((x.toNat:Int)=c))=true
  .simp[h1]
  by_cases h2:(x.toNat:Int)=c
  .subst h2;simp[h1]
  have a:¬c=(x.toNat:Int):=fun e=>h2 e.symm
  simp[h1,h2,a]
end
end Go.Dc
namespace Go.Proofs.YtbclhfjdmfbegaaGreatDoor
open Go Go.Dc
def allK:List (Int×BA):=[(1,⟨#[97,98,99,100,101,102,103,104,105,106,107,108,109,110,111,112,113,114,115,116,117,118,119,120,121,122]⟩),(2,⟨#[48,49,50,51,52,53,54,55,56,57]⟩),(3,⟨#[95]⟩),(4,⟨#[46]⟩),(5,⟨#[9,10,13,32]⟩),(6,⟨#[35]⟩),(7,⟨#[34]⟩),(8,⟨#[59,44,40,41,43,45,42,47,37,60,61]⟩)]
def kdL:List (Int×Int):=[(9,5),(10,5),(13,5),(32,5),(34,7),(35,6),(37,8),(40,8),(41,8),(42,8),(43,8),(44,8),(45,8),(46,4),(47,8),(48,2),(49,2),(50,2),(51,2),(52,2),(53,2),(54,2),(55,2),(56,2),(57,2),(59,8),(60,8),(61,8),(95,3),(97,1),(98,1),(99,1),(100,1),(101,1),(102,1),(103,1),(104,1),(105,1),(106,1),(107,1),(108,1),(109,1),(110,1),(111,1),(112,1),(113,1),(114,1),(115,1),(116,1),(117,1),(118,1),(119,1),(120,1),(121,1),(122,1)]
def sC(c:Int):Int:=(cS kdL c).getD 0
def tI(e:Int×BA)(c:Int):Bool:=e.2.data.toList.any fun x=>decide ((x.toNat:Int)=c)
def wH(m:List (Int×Int))(k:List (Int×BA)):List (Int×Int):=k.foldl (fun m e=>pY e.1 m e.2.data.toList) m
theorem XV:∀{k:List (Int×BA)} {m:List (Int×Int)},Srt m->Srt (wH m k)
 |[],_,h=>h
 |_::k,_,h=>XV (k:=k) (VD h)
theorem YI(c:Int):∀(k:List (Int×BA)) (m:List (Int×Int)),(∀e∈k,tI e c=true->e.1=sC c)->(∀v,cS m c=some v->v=sC c)->
  cS (wH m k) c=if(k.any fun e=>tI e c)=true then some (sC c) else cS m c
 |[],m,_,_=>by simp[wH]
 |e::k,m,h,f=>by
  have b:=UH (v:=e.1) c e.2.data.toList m
  have:=YI c k (pY e.1 m e.2.data.toList) (fun e' d=>h e' (jQ _ d)) (fun v a=>by
   rw[b] at a
   split at a
   .rename_i hi
    rw[<-jD a]
    exact h e (jK ..) hi
   exact f v a)
  rw[show wH m (e::k)=wH (pY e.1 m e.2.data.toList) k from rfl,this,b]
  by_cases h1:(k.any fun e=>tI e c)=true
  .simp[h1]
  by_cases h2:tI e c=true
  .have:=h e (jK ..) h2
   have h2':(e.2.data.toList.any fun x=>decide ((x.toNat:Int)=c))=true:=h2
   simp only[List.any_cons,h2,Bool.true_or,jE,h1,h2',this]
   simp
  have h2':(e.2.data.toList.any fun x=>decide ((x.toNat:Int)=c))=false:=by simpa[tI] using h2
  simp only[List.any_cons,h1,h2',Bool.or_false,j9,jC]
  simp[h2]
theorem XL:(allK.all fun e=>e.2.data.toList.all fun x=>decide (e.1=sC (x.toNat:Int)))=true/\(kdL.all fun p=>allK.any fun e=>tI e p.1)=true:=⟨by kernel_rfl,by kernel_rfl⟩
theorem qAi{e:Int×BA}{c:Int}(d:e∈allK)(h:tI e c=true):e.1=sC c:=by
 have:=jX.1 XL.1 e d
 obtain⟨x,f,a⟩:=fN.1 h
 have b:=jX.1 this x f
 have a:(x.toNat:Int)=c:=by simpa using a
 subst a
 simpa using b
theorem qMv(c:Int):cS kdL c=if(allK.any fun e=>tI e c)=true then some (sC c) else none:=by
 cases h:cS kdL c with
 |none=>
  rw[if_neg]
  intro f
  obtain⟨e,a,hi⟩:=fN.1 f
  have d:=qAi a hi
  have b:sC c=0:=by simp[sC,h]
  have:(allK.all fun e=>decide (e.1≠0))=true:=by kernel_rfl
  have:=jX.1 this e a
  simp[d,b] at this
 |some v=>
  have a:(c,v)∈kdL:=(HG (l:=kdL) (by
   have:decide ((kdL.map (·.1)).Nodup)=true:=by kernel_rfl
   simpa using this)).1 h
  have:=jX.1 XL.2 _ a
  rw[if_pos this]
  simp[sC,h]
theorem qLn:Srt kdL:=by
 have:decide ((kdL.map (·.1)).Pairwise (· < ·))=true:=by kernel_rfl
 simpa[Srt] using this
theorem qJl{k:List (Int×BA)}(h:k.Perm allK):wH [] k=kdL:=by
 refine Srt.ext (XV Srt.nil) qLn fun c=> ?_
 rw[YI c k [] (fun e a hi=>qAi (h.mem_iff.1 a) hi) (fun v b=>by cases b),qMv]
 have:(k.any fun e=>tI e c)=(allK.any fun e=>tI e c):=by
  rw[jY,fN,fN]
  exact⟨fun⟨e,a,hi⟩=>⟨e,h.mem_iff.1 a,hi⟩,fun⟨e,a,hi⟩=>⟨e,h.mem_iff.2 a,hi⟩⟩
 rw[this]
 rfl
theorem qKf{N:Nat}{e:Int×BA}(m:List (Int×Int))(d:e.2.size<=26)(c:30<N):sM N (some e) (some m)=some (.inl (some (pY e.1 m e.2.data.toList))):=by
 have b:e.2.data.toList.length=e.2.size:=by simp
 have a:bytesOf e.2=some e.2.data.toList:=by unfold bytesOf;rw[if_pos (by simp only[maxLen];omega)]
 simp only[sM,a,j0]
 have key:=PH (f:=BN N e e.2.data.toList) (fun i=>((i:Int),some (pY e.1 m (e.2.data.toList.take i)))) e.2.data.toList.length (some (pY e.1 m e.2.data.toList)) (fun i hi=> ?_) ?_ (N:=N) (by omega)
 .simp only[Int.natCast_zero,List.take_zero] at key
  rw[show pY e.1 m []=m from rfl] at key
  rw[key];rfl
 .simp only[BN]
  rw[if_pos (by simpa using hi),dP hi]
  simp only[j0,iI,kG]
  rw[bS (by omega) (by omega),kX hi]
  simp[pY]
 simp only[BN]
 rw[if_neg (by simp),fT]
theorem UU{N:Nat}(a:30<N):∀(k:List (Int×BA)) (m:List (Int×Int)),(∀e∈k,e.2.size<=26)->iW (sM N) k (some m)=some (some (wH m k))
 |[],m,_=>by simp[iW,sM,wH]
 |e::k,m,h=>by
  have:=UU a k (pY e.1 m e.2.data.toList) (fun e' b=>h e' (jQ _ b))
  simp only[iW,qKf m (h e (jK ..)) a,j0,this]
  rfl
theorem PE{N:Nat}(d:30<N):xV N=some (some kdL):=by
 have c:∀e∈allK,e.2.size<=26:=by
  have:(allK.all fun e=>decide (e.2.size<=26))=true:=by kernel_rfl
  intro e a
  simpa using jX.1 this e a
 have key:uC (sM N) allK (some [])=some (some kdL):=WX fun k b=>by
  rw[UU d k [] (fun e a=>c e (b.mem_iff.1 a)),qJl b]
 have a:xV N=(uC (sM N) allK (some [])).bind fun f=>some f:=by kernel_rfl
 rw[a,key];rfl
end Go.Proofs.YtbclhfjdmfbegaaGreatDoor
end
namespace Go.Proofs.YtbclhfjdmfbegaaGreatDoor
section
open Go Go.Dc
theorem eR(s:BA):s.data.toList.length=s.size:=by simp
theorem lY{s:BA}{i:Nat}(h:i<s.data.toList.length):eD s (i:Int)=some (s.data.toList[i]):=by
 have h':i<s.size:=by simpa using h
 rw[OZ h']
 simp[ByteArray.getElem_eq_getElem_data]
def tw(p:UInt8->Bool)(l:List UInt8)(a:Nat):Nat:=a+((l.drop a).takeWhile p).length
section
variable {p:UInt8->Bool} {l:List UInt8} {a:Nat}
theorem nM(h:a<=l.length):a<=tw p l a/\tw p l a<=l.length:=by
 have:=(hQ p (l:=l.drop a)).length_le
 simp only[kS] at this
 unfold tw;omega
theorem vR(h:a<l.length)(b:p l[a]=true):tw p l (a+1)=tw p l a:=by
 unfold tw
 rw[jJ h,gG b]
 simp only[jA];omega
theorem vV(h:a<l.length)(b:p l[a]=false):tw p l a=a:=by
 unfold tw
 rw[jJ h,gV (by simp[b])]
 simp
theorem CQ(h:l.length<=a):tw p l a=a:=by
 unfold tw
 rw[jT h];rfl
theorem QL:∀(d a:Nat),a+d=l.length->∀h:tw p l a<l.length,p (l[tw p l a]'h)=false
 |0,a,c,h=>by rw[CQ (by omega)] at h;omega
 |d+1,a,c,h=>by
  have b:a<l.length:=by omega
  cases hb:p l[a] with
  |true=>
   have e:=vR b hb
   have:=QL d (a+1) (by omega) (by rw[e];exact h)
   simpa only[e] using this
  |false=>
   have e:=vV b hb
   simpa only[e] using hb
theorem CI{β:Type}{f:Int->Option (Int⊕β)}(out:Nat->β)(go:∀i:Nat,∀h:i<l.length,p l[i]=true->f (i:Int)=some (.inl ((i:Int)+1)))
  (no:∀i:Nat,∀h:i<l.length,p l[i]=false->f (i:Int)=some (.inr (out i))) (en:f (l.length:Int)=some (.inr (out l.length))):
  ∀(d a N:Nat),a+d=l.length->d<N->aK f N (a:Int)=some (out (tw p l a))
 |d,a,0,_,h=>by omega
 |0,a,N+1,c,h=>by
  have:a=l.length:=by omega
  subst this
  rw[CQ (jN _)];simp[aK,en]
 |d+1,a,N+1,c,h=>by
  have b:a<l.length:=by omega
  cases hb:p l[a] with
  |true=>
   have:=CI out go no en d (a+1) N (by omega) (by omega)
   rw[vR b hb] at this
   simpa[aK,go a b hb] using this
  |false=>
   rw[vV b hb];simp[aK,no a b hb]
end
def kd(c:UInt8):Int:=sC (c.toNat:Int)
def cD(ks:List Int)(c:UInt8):Bool:=ks.any fun k=>kd c==k
theorem UN{N:Nat}{s:BA}{ks:List Int}{i:Nat}(h:i<s.data.toList.length)(c:ks.length<=10)(b:10<N):aK (xR N s (some kdL) ks (i:Int)) N (false,0)=some (cD ks (s.data.toList[i])):=by
 have key:=PH (f:=xR N s (some kdL) ks (i:Int)) (fun j=>((ks.take j).any (fun k=>kd (s.data.toList[i])==k),(j:Int))) ks.length (cD ks (s.data.toList[i])) (fun j a=> ?_) ?_ (N:=N) (by omega)
 .simpa using key
 .simp only[xR]
  rw[if_pos (by simpa using a),dP a,lY h]
  simp only[j0]
  rw[bS (by omega) (by omega),kX a,List.any_append]
  cases(ks.take j).any (fun k=>kd (s.data.toList[i])==k)
  .simp[kd,sC,aQ]
  simp
 simp only[xR]
 rw[if_neg (by simp),fT]
 rfl
theorem HK{N:Nat}{s:BA}{ks:List Int}{i:Nat}(hi:i<=s.data.toList.length)(e:s.data.toList.length<1000000)(c:ks.length<=10)(d:s.data.toList.length+10<N):
  sN N s (i:Int) (some kdL) ks=some ((tw (cD ks) s.data.toList i:Nat):Int):=by
 have g:=eR s
 have key:=CI (f:=xQ N s (some kdL) ks) (l:=s.data.toList) (p:=cD ks) (fun n=>(n:Int)) (fun j b a=>by
   simp only[xQ]
   rw[if_pos (by simp only[j6];omega),UN b c (by omega),a]
   simp only[j0]
   rw[bS (by omega) (by omega)]
   rfl) (fun j b a=>by
   simp only[xQ]
   rw[if_pos (by simp only[j6];omega),UN b c (by omega),a]
   rfl) (by
   simp only[xQ]
   rw[if_neg (by simp only[j6];omega)]) (s.data.toList.length-i) i N (by omega) (by omega)
 unfold sN
 rw[key]
 rfl
theorem QJ(c:UInt8):(aQ (some kdL) (c.toNat:Int)).getD 0=kd c:=rfl
theorem lC{l:List UInt8}{i:Nat}(h:i<l.length):l.getD i 0=l[i]:=by simp[kP,h]
theorem XJ{β:Type}{p:UInt8->Bool}{l:List UInt8}{a0:Nat}{f:Int->Option (Int⊕β)}(out:Nat->β)(go:∀i:Nat,∀h:i<l.length,p l[i]=true->f (i:Int)=some (.inl ((i:Int)+1)))
  (no:∀i:Nat,∀h:i<l.length,a0<=i->p l[i]=false->f (i:Int)=some (.inr (out i))) (en:f (l.length:Int)=some (.inr (out l.length))):
  ∀(d a N:Nat),a0<=a->a+d=l.length->d<N->aK f N (a:Int)=some (out (tw p l a))
 |d,a,0,_,_,h=>by omega
 |0,a,N+1,_,e,h=>by
  have:a=l.length:=by omega
  subst this
  rw[CQ (jN _)];simp[aK,en]
 |d+1,a,N+1,c,e,h=>by
  have b:a<l.length:=by omega
  cases hb:p l[a] with
  |true=>
   have:=XJ out go no en d (a+1) N (by omega) (by omega) (by omega)
   rw[vR b hb] at this
   simpa[aK,go a b hb] using this
  |false=>
   rw[vV b hb];simp[aK,no a b c hb]
def IG(n:Int)(c:UInt8):Int:=if 9007199254740993<10*n+((c.toNat:Int)-48) then 9007199254740993 else 10*n+((c.toNat:Int)-48)
def qG(ds:List UInt8):Int:=ds.foldl IG 0
def oV(c:UInt8):Bool:=decide (32<=c.toNat)&&decide (c.toNat<=126)&&c !=34
def wE:Int×BA×Int×Int:=(0,⟨#[]⟩,0,0)
def rG(l:List UInt8)(i:Nat):Nat:=if l.getD i 0=61/\l.getD (i+1) 0=61 then i+2 else i+1
def eL(s:BA)(i:Nat):(Int×BA×Int×Int)×Int×Int:=
 if kd (s.data.toList.getD i 0)=1 then
  if tw (cD [1,2,3]) s.data.toList i-i>24 then(wE,0,2) else((1,s.extract i (tw (cD [1,2,3]) s.data.toList i),0,0),((tw (cD [1,2,3]) s.data.toList i:Nat):Int),0)
 else if kd (s.data.toList.getD i 0)=2 then
  if qG ((s.data.toList.drop i).takeWhile (cD [2]))>9007199254740992 then(wE,0,3) else((2,⟨#[]⟩,qG ((s.data.toList.drop i).takeWhile (cD [2])),0),((tw (cD [2]) s.data.toList i:Nat):Int),0)
 else if kd (s.data.toList.getD i 0)=7 then
  if s.data.toList.getD (tw oV s.data.toList (i+1)) 0=34 then((3,s.extract (i+1) (tw oV s.data.toList (i+1)),0,0),((tw oV s.data.toList (i+1)+1:Nat):Int),0) else(wE,0,9)
 else if kd (s.data.toList.getD i 0)=8 then
  ((4,s.extract i (rG s.data.toList i),0,0),((rG s.data.toList i:Nat):Int),0)
 else(wE,0,9)
theorem PI:∀c:UInt8,kd c=2->48<=c.toNat/\c.toNat<=57:=by
 have h:((List.range 256).all fun n=> !(decide (kd (UInt8.ofNat n)=2))||(decide (48<=n)&&decide (n<=57)))=true:=by kernel_rfl
 intro c a
 have:=jX.1 h c.toNat (fO.2 c.toNat_lt)
 simpa[a] using this
theorem qEl{s:BA}{p:UInt8->Bool}{i:Nat}:(s.extract i (tw p s.data.toList i)).data.toList=(s.data.toList.drop i).takeWhile p:=by
 simp only[ByteArray.data_extract,fA]
 have h:=List.prefix_iff_eq_take.1 (List.takeWhile_prefix p (l:=s.data.toList.drop i))
 rw[gK,show tw p s.data.toList i-i=((s.data.toList.drop i).takeWhile p).length by unfold tw;omega]
 exact h.symm
theorem OH(l:List UInt8)(c:UInt8):qG (l++[c])=IG (qG l) c:=by simp[qG]
theorem MC{p:UInt8->Bool}:∀{l:List UInt8} {c:UInt8},c∈l.takeWhile p->p c=true
 |[],_,h=>by simp at h
 |x::l,c,h=>by
  cases hx:p x with
  |true=>
   rw[gG hx] at h
   rcases jI.1 h with rfl|h
   .exact hx
   exact MC h
  |false=>rw[gV (by simp[hx])] at h;cases h
theorem qKp{N:Nat}{ds:List UInt8}(b:∀c∈ds,kd c=2)(k:ds.length<1000000)(h:ds.length<N):aK (xN N ds) N (0,0)=some (qG ds):=by
 have d:∀j,j<=ds.length->0<=qG (ds.take j)/\qG (ds.take j)<=9007199254740993:=by
  intro j
  induction j with
  |zero=>intro _;simp[qG]
  |succ j g=>
   intro a
   have:=g (by omega)
   rw[kX (by omega)]
   have e:=PI _ (b _ (jW (show j<ds.length by omega)))
   rw[OH]
   unfold IG
   split<;>omega
 have key:=PH (f:=xN N ds) (fun j=>(qG (ds.take j),(j:Int))) ds.length (qG ds) (fun j a=> ?_) ?_ (N:=N) (by omega)
 .exact key
 .have e:=PI _ (b _ (jW a))
  have g:=d j (by omega)
  simp only[xN]
  rw[if_pos (by simpa using a),dP a]
  simp only[j0]
  rw[wu8 (by omega) (by omega),bS (x:=10*qG (ds.take j)) (by omega) (by omega),bS (x:=((ds[j]).toNat:Int)-48) (by omega) (by omega),bS (x:=(j:Int)+1) (by omega) (by omega),bS (by omega) (by omega),kX a,OH]
  rfl
 simp only[xN]
 rw[if_neg (by simp),fT]
theorem rT{s:BA}{i e:Nat}(a:i<=e)(b:e<=s.data.toList.length):lN s (i:Int) (e:Int)=some (s.extract i e):=by
 have:=eR s
 rw[GU (by omega) (by omega) (by omega)]
 simp
theorem qMu{N:Nat}{s:BA}{i j:Nat}(c:j<s.data.toList.length)(g:s.data.toList.length<1000000)(a:oV (s.data.toList[j])=true):tS N s (i:Int) (j:Int)=some (.inl ((j:Int)+1)):=by
 have h:=eR s
 simp only[oV,jR,j6,fB,ne_eq] at a
 obtain⟨⟨d,f⟩,b⟩:=a
 have h3':¬((s.data.toList[j]).toNat:Int)=34:=fun e=>b (UInt8.toNat_inj.1 (by show _=34;omega))
 simp only[tS,lY c,j0]
 rw[if_pos (by simp only[j6];omega),if_pos (by simp only[j6];omega)]
 simp only[j0]
 rw[if_pos (by simp only[j6];omega),if_neg (by simpa using h3'),bS (by omega) (by omega)]
theorem qMq{N:Nat}{s:BA}{i j:Nat}(hi:i<s.data.toList.length)(b:j<s.data.toList.length)(d:s.data.toList.length<1000000)(a:i+1<=j)(c:oV (s.data.toList[j])=false):
  tS N s (i:Int) (j:Int)=some (.inr (if s.data.toList.getD j 0=34 then(.inr ((3,s.extract (i+1) j,0,0),((j+1:Nat):Int),0)) else(.inl ()))):=by
 have f:=eR s
 simp only[tS,lY b,j0,lC b]
 rw[if_pos (by simp only[j6];omega)]
 by_cases h34:s.data.toList[j]=34
 .rw[h34]
  simp only[show((34:UInt8).toNat:Int)=34 from rfl]
  rw[bS (x:=(i:Int)+1) (by omega) (by omega),bS (by omega) (by omega),<-gB,rT a (by omega)]
  rfl
 have h3':¬((s.data.toList[j]).toNat:Int)=34:=fun e=>h34 (UInt8.toNat_inj.1 (by show _=34;omega))
 rw[if_neg h34]
 simp only[oV,Bool.and_eq_false_iff,decide_eq_false_iff_not,bne_eq_false_iff_eq,h34,dD] at c
 by_cases h1:32<=(s.data.toList[j]).toNat
 .rw[if_pos (by simp only[j6];omega)]
  simp only[j0]
  rw[if_neg (by simp only[j6];omega)]
 rw[if_neg (by simp only[j6];omega)]
 simp
theorem OA{s:BA}{i:Nat}(a:i<=s.data.toList.length):lN s (i:Int) (s.size:Int)=some (s.extract i s.data.toList.length):=by
 have b:=eR s
 rw[<-rT a (jN _),b]
theorem lB(x y:BA):(x.toList==y.toList)=decide (x=y):=by
 rw[jY]
 simp only[kE,j6]
 constructor
 .intro h
  rw[ByteArray.toList_eq,ByteArray.toList_eq] at h
  exact Go.WideShapes.bytes_inj h
 rintro rfl;rfl
theorem qIz{N:Nat}{s:BA}{i:Nat}(hi:i<s.data.toList.length):FR N (s.extract i s.data.toList.length) (⟨#[61,61]⟩:BA)=some (decide (s.data.toList.getD i 0=61/\s.data.toList.getD (i+1) 0=61)):=by
 have g:=eR s
 have b:(s.extract i s.data.toList.length).size=s.data.toList.length-i:=by rw[ByteArray.size_extract];omega
 simp only[FR,JG,b,show(⟨#[61,61]⟩:BA).size=2 from rfl]
 by_cases h:i+1<s.data.toList.length
 .have a:((s.extract i s.data.toList.length).extract 0 2).data.toList=[s.data.toList[i],s.data.toList[i+1]]:=by
   simp only[ByteArray.data_extract,fA,gK,kA]
   rw[List.take_take,jJ hi,jJ h]
   have:min (2-0) (s.data.toList.length-i)=2:=by omega
   rw[this];rfl
  have c:lN (s.extract i s.data.toList.length) 0 ((2:Nat):Int)=some ((s.extract i s.data.toList.length).extract 0 2):=by
   have:=rT (s:=s.extract i s.data.toList.length) (i:=0) (e:=2) (by omega) (by rw[eR,b];omega)
   simpa only[Int.natCast_zero] using this
  rw[if_pos (by simp only[j6];omega),c]
  simp only[j0,lB]
  rw[lC hi,lC h]
  generalize (s.extract i s.data.toList.length).extract 0 2=X at a
  refine congrArg some (decide_eq_decide.2 ?_)
  constructor
  .intro e
   rw[e] at a
   have hd':[(61:UInt8),61]=[s.data.toList[i],s.data.toList[i+1]]:=a
   simp only[kL,and_true] at hd'
   exact⟨hd'.1.symm,hd'.2.symm⟩
  rintro⟨d,f⟩
  apply Go.WideShapes.bytes_inj
  rw[a,d,f]
 rw[if_neg (by simp only[j6];omega)]
 have a:s.data.toList.getD (i+1) 0=0:=by rw[kP,List.getElem?_eq_none (by omega)];rfl
 rw[a]
 simp
theorem qKz{N:Nat}{s:BA}{i:Nat}(hi:i<s.data.toList.length)(d:s.data.toList.length<1000000)(r:s.data.toList.length+20<N):GM N s (i:Int) (some kdL)=some (eL s i):=by
 have t:=eR s
 simp only[GM,lY hi,j0,QJ,eL,lC hi,kE]
 by_cases h1:kd (s.data.toList[i])=1
 .simp only[h1,jE]
  have b:=nM (p:=cD [1,2,3]) (l:=s.data.toList) (a:=i) (by omega)
  rw[HK (by omega) d (by simp) (by omega)]
  simp only[j0]
  rw[bS (by omega) (by omega),rT b.1 b.2]
  by_cases h:tw (cD [1,2,3]) s.data.toList i-i>24
  .rw[if_pos (by simp only[j6];omega),if_pos h];rfl
  rw[if_neg (by simp only[j6];omega),if_neg h];rfl
 simp only[h1,jC]
 by_cases h2:kd (s.data.toList[i])=2
 .simp only[h2,jE]
  have b:=nM (p:=cD [2]) (l:=s.data.toList) (a:=i) (by omega)
  have q:=eR (s.extract i (tw (cD [2]) s.data.toList i))
  have k:=qEl (s:=s) (p:=cD [2]) (i:=i)
  have o:((s.data.toList.drop i).takeWhile (cD [2])).length<=s.data.toList.length:=by
   have:=(hQ (cD [2]) (l:=s.data.toList.drop i)).length_le
   simp only[kS] at this;omega
  rw[HK (by omega) d (by simp) (by omega)]
  simp only[j0]
  rw[rT b.1 b.2]
  simp only[j0]
  have g:bytesOf (s.extract i (tw (cD [2]) s.data.toList i))=some ((s.data.toList.drop i).takeWhile (cD [2])):=by
   unfold bytesOf;rw[<-k,if_pos];rw[<-q,k];simp only[maxLen];omega
  rw[g]
  simp only[j0]
  rw[qKp (fun c n=> ?_) (by omega) (by omega)]
  .simp only[j0,j6]
   split<;>rfl
  have:=MC n
  simpa[cD] using this
 simp only[h2,jC]
 by_cases h7:kd (s.data.toList[i])=7
 .simp only[h7,jE]
  have key:=XJ (a0:=i+1) (f:=tS N s (i:Int)) (l:=s.data.toList) (p:=oV) (fun e=>if s.data.toList.getD e 0=34 then(.inr ((3,s.extract (i+1) e,0,0),((e+1:Nat):Int),0)) else(.inl ()))
   (fun j k b=>qMu k d b) (fun j k g b=>qMq hi k d g b) (by
    simp only[tS]
    rw[if_neg (by simp only[j6];omega),if_neg (by simp)]
    rfl) (s.data.toList.length-(i+1)) (i+1) N (jN _) (by omega) (by omega)
  rw[bS (x:=(i:Int)+1) (by omega) (by omega),<-gB,key]
  simp only[j0]
  split
  .rename_i h;split at h<;>simp_all [wE]
  rename_i h;split at h<;>simp_all
 simp only[h7,jC]
 by_cases h8:kd (s.data.toList[i])=8
 .simp only[h8,jE]
  rw[OA (by omega),bS (x:=(i:Int)+1) (by omega) (by omega)]
  simp only[j0]
  rw[qIz hi]
  simp only[j0,j6]
  by_cases h:s.data.toList.getD i 0=61/\s.data.toList.getD (i+1) 0=61
  .have k:i+1<s.data.toList.length:=by
    rcases fG (i+1) s.data.toList.length with h'|h'
    .exact h'
    have g:s.data.toList.getD (i+1) 0=0:=by rw[kP,List.getElem?_eq_none h'];rfl
    rw[g] at h;exact absurd h.2 (by decide)
   have b:rG s.data.toList i=i+2:=by rw[rG,if_pos h]
   rw[if_pos h,bS (by omega) (by omega),b]
   simp only[j0]
   rw[show((i:Int)+1+1)=((i+2:Nat):Int) by omega,rT (by omega) (by omega)]
   rfl
  have b:rG s.data.toList i=i+1:=by rw[rG,if_neg h]
  rw[if_neg h,b]
  simp only[j0]
  rw[<-gB,rT (by omega) (by omega)]
  rfl
 simp only[h8,jC]
 rfl
theorem qAa{p:UInt8->Bool}{l:List UInt8}(h:∀c∈l,p c=true):tw p l 0=l.length:=by
 unfold tw
 have:l.takeWhile p=l:=by
  induction l with
  |nil=>rfl
  |cons c l b=>rw[gG (h c (jK ..)),b fun d a=>h d (jQ _ a)]
 simp[this]
abbrev bZ:=Int×BA×Int×Int
theorem YG{ks:List Int}{k:Int}{c:UInt8}(a:k∈ks)(h:kd c=k):cD ks c=true:=by
 unfold cD;exact fN.2 ⟨k,a,by simp[h]⟩
theorem yN{p:UInt8->Bool}{l:List UInt8}{a:Nat}(h:a<l.length)(b:p l[a]=true):a<tw p l a:=by
 rw[<-vR h b];have:=(nM (p:=p) (l:=l) (a:=a+1) (by omega)).1;omega
theorem HF{l:List UInt8}{i:Nat}(h:l.getD i 0≠0):i<l.length:=by
 rcases fG i l.length with h'|h'
 .exact h'
 exfalso;apply h;rw[kP,List.getElem?_eq_none h'];rfl
theorem LT{s:BA}{i:Nat}(hi:i<s.data.toList.length)(h:(eL s i).2.2=0):∃e:Nat,(eL s i).2.1=(e:Int)/\i<e/\e<=s.data.toList.length/\
  (((eL s i).1.1=1\/(eL s i).1.1=4)/\(eL s i).1.2.1=s.extract i e\/(eL s i).1.1=2/\(eL s i).1.2.1=⟨#[]⟩\/(eL s i).1.1=3/\(eL s i).1.2.1.size+i<e):=by
 have d:=eR s
 unfold eL at h ⊢
 rw[lC hi] at h ⊢
 by_cases h1:kd (s.data.toList[i])=1
 .rw[if_pos h1] at h ⊢
  split at h
  .cases h
  rename_i h24
  rw[if_neg h24]
  have b:=nM (p:=cD [1,2,3]) (l:=s.data.toList) (a:=i) (by omega)
  exact⟨_,rfl,yN hi (YG (by simp) h1),b.2,.inl ⟨.inl rfl,rfl⟩⟩
 rw[if_neg h1] at h ⊢
 by_cases h2:kd (s.data.toList[i])=2
 .rw[if_pos h2] at h ⊢
  split at h
  .cases h
  rename_i h24
  rw[if_neg h24]
  have b:=nM (p:=cD [2]) (l:=s.data.toList) (a:=i) (by omega)
  exact⟨_,rfl,yN hi (YG (by simp) h2),b.2,.inr (.inl ⟨rfl,rfl⟩)⟩
 rw[if_neg h2] at h ⊢
 by_cases h7:kd (s.data.toList[i])=7
 .rw[if_pos h7] at h ⊢
  split at h
  .rename_i h24
   rw[if_pos h24]
   have b:=nM (p:=oV) (l:=s.data.toList) (a:=i+1) (by omega)
   have c:tw oV s.data.toList (i+1)<s.data.toList.length:=HF (by rw[h24];decide)
   refine⟨_,rfl,by omega,by omega,.inr (.inr ⟨rfl,?_⟩)⟩
   simp only[ByteArray.size_extract]
   omega
  cases h
 rw[if_neg h7] at h ⊢
 by_cases h8:kd (s.data.toList[i])=8
 .rw[if_pos h8] at h ⊢
  refine⟨_,rfl,?_,?_,.inl ⟨.inr rfl,rfl⟩⟩
  .unfold rG;split<;>omega
  unfold rG
  split
  .rename_i hh
   have:i+1<s.data.toList.length:=HF (by rw[hh.2];decide)
   omega
  omega
 rw[if_neg h8] at h
 cases h
def eK(c:UInt8):Bool:=c !=10
def mL:Nat->BA->Nat->(Int×Int)⊕List bZ
 |0,_,_=> .inr []
 |k+1,s,i=>
  if tw (cD [5]) s.data.toList i=s.data.toList.length then .inr [(5,⟨#[]⟩,0,(s.data.toList.length:Int))]
  else if kd (s.data.toList.getD (tw (cD [5]) s.data.toList i) 0)=6 then mL k s (tw eK s.data.toList (tw (cD [5]) s.data.toList i))
  else if(eL s (tw (cD [5]) s.data.toList i)).2.2≠0 then .inl ((tw (cD [5]) s.data.toList i:Nat),(eL s (tw (cD [5]) s.data.toList i)).2.2)
  else match mL k s (eL s (tw (cD [5]) s.data.toList i)).2.1.toNat with
   | .inl x=> .inl x
   | .inr r=> .inr (((eL s (tw (cD [5]) s.data.toList i)).1.1,(eL s (tw (cD [5]) s.data.toList i)).1.2.1,(eL s (tw (cD [5]) s.data.toList i)).1.2.2.1,((tw (cD [5]) s.data.toList i:Nat):Int))::r)
def uI(acc:List bZ):(Int×Int)⊕List bZ->List bZ×Int×Int
 | .inl x=>([],x.1,x.2)
 | .inr r=>(acc++r,0,0)
def iQ(s:BA):List bZ×Int×Int:=if s.data.toList.length>16384 then([],0,2) else uI [] (mL (s.data.toList.length+1) s 0)
theorem qLv{s:BA}{i:Nat}(hi:i<=s.data.toList.length):
  (if pR (s.extract i s.data.toList.length) 10<0 then((s.data.toList.length-i:Nat):Int) else pR (s.extract i s.data.toList.length) 10)=((tw eK s.data.toList i-i:Nat):Int):=by
 have x:=eR s
 have n:(s.extract i s.data.toList.length).size=s.data.toList.length-i:=by rw[ByteArray.size_extract];omega
 have v:=nM (p:=eK) (l:=s.data.toList) (a:=i) hi
 have f:∀j,j<s.data.toList.length-i->(s.extract i s.data.toList.length)[j]! =s.data.toList.getD (i+j) 0:=by
  intro j b
  have hj':i+j<s.data.toList.length:=by omega
  rw[lC hj',getElem!_pos _ _ (by rw[n];exact b),ByteArray.getElem_extract]
  simp[ByteArray.getElem_eq_getElem_data]
 have g:∀d a,a+d=s.data.toList.length->∀j,a<=j->j<tw eK s.data.toList a->s.data.toList.getD j 0≠10:=by
  intro d
  induction d with
  |zero=>intro a o j b e;rw[CQ (by omega)] at e;omega
  |succ d q=>
   intro a o j b e
   have c:a<s.data.toList.length:=by omega
   cases hc:eK (s.data.toList[a]) with
   |true=>
    rw[<-vR c hc] at e
    rcases Nat.eq_or_lt_of_le b with rfl|b
    .rw[lC c];simpa[eK] using hc
    exact q (a+1) (by omega) j b e
   |false=>rw[vV c hc] at e;omega
 have g:=g (s.data.toList.length-i) i (by omega)
 unfold pR
 rw[n]
 cases hf:(List.range (s.data.toList.length-i)).find? (fun j=>(s.extract i s.data.toList.length)[j]! ==(10:Int).toNat.toUInt8) with
 |none=>
  rw[List.find?_eq_none] at hf
  simp only
  rw[if_pos (by omega)]
  have:¬tw eK s.data.toList i<s.data.toList.length:=by
   intro c
   have b:=QL (p:=eK) (l:=s.data.toList) (s.data.toList.length-i) i (by omega) c
   have e:=hf (tw eK s.data.toList i-i) (fO.2 (by omega))
   rw[f _ (by omega),show i+(tw eK s.data.toList i-i)=tw eK s.data.toList i by omega,lC c] at e
   simp only[eK,bne_eq_false_iff_eq] at b
   rw[b] at e
   exact e (by decide)
  omega
 |some k=>
  have b:=List.find?_some hf
  have r:k<s.data.toList.length-i:=fO.1 (gZ hf)
  simp only
  rw[if_neg (by omega)]
  rw[f k r] at b
  have b:s.data.toList.getD (i+k) 0=10:=by simpa using b
  have e:¬i+k<tw eK s.data.toList i:=fun h=>g (i+k) (by omega) h b
  have t:¬tw eK s.data.toList i<i+k:=by
   intro c
   have hlt':tw eK s.data.toList i<s.data.toList.length:=by omega
   have q:=QL (p:=eK) (l:=s.data.toList) (s.data.toList.length-i) i (by omega) hlt'
   have u:=List.not_of_lt_findIdx (xs:=List.range (s.data.toList.length-i)) (p:=fun j=>(s.extract i s.data.toList.length)[j]! ==(10:Int).toNat.toUInt8) (i:=tw eK s.data.toList i-i)
   have o:=(List.find?_range_eq_some.1 hf).2.2 (tw eK s.data.toList i-i) (by omega)
   rw[f _ (by omega),show i+(tw eK s.data.toList i-i)=tw eK s.data.toList i by omega,lC hlt'] at o
   simp only[eK,bne_eq_false_iff_eq] at q
   rw[q] at o
   simp at o
  omega
theorem ND{N:Nat}{s:BA}(n:s.data.toList.length<=16384)(g:s.data.toList.length+40<N):∀(k M i:Nat) (acc:List bZ),i<=s.data.toList.length->s.data.toList.length<i+k->k<=M->acc.length<=i->
  aK (BL N s (some kdL)) M (acc,(i:Int))=some (uI acc (mL k s i))
 |0,_,i,_,f,o,_,_=>by omega
 |k+1,0,_,_,_,_,q,_=>by omega
 |k+1,M+1,i,acc,f,o,q,v=>by
  have y:=eR s
  have t:=nM (p:=cD [5]) (l:=s.data.toList) (a:=i) f
  simp only[aK,mL]
  have c:BL N s (some kdL) (acc,(i:Int))=if tw (cD [5]) s.data.toList i=s.data.toList.length then some (.inr (acc++[(5,⟨#[]⟩,0,(s.data.toList.length:Int))],0,0))
    else if kd (s.data.toList.getD (tw (cD [5]) s.data.toList i) 0)=6 then some (.inl (acc,((tw eK s.data.toList (tw (cD [5]) s.data.toList i):Nat):Int)))
    else if(eL s (tw (cD [5]) s.data.toList i)).2.2≠0 then some (.inr ([],(tw (cD [5]) s.data.toList i:Nat),(eL s (tw (cD [5]) s.data.toList i)).2.2))
    else some (.inl (acc++[((eL s (tw (cD [5]) s.data.toList i)).1.1,(eL s (tw (cD [5]) s.data.toList i)).1.2.1,(eL s (tw (cD [5]) s.data.toList i)).1.2.2.1,((tw (cD [5]) s.data.toList i:Nat):Int))],(eL s (tw (cD [5]) s.data.toList i)).2.1)):=by
   simp only[BL]
   rw[HK f (by omega) (by simp) (by omega)]
   simp only[j0]
   generalize hE:tw (cD [5]) s.data.toList i=e at t ⊢
   by_cases he:e=s.data.toList.length
   .rw[if_pos he,if_pos (by rw[kE];omega),iB (by simp only[jA,jB];omega) (by omega),he]
    rfl
   have b:e<s.data.toList.length:=by omega
   rw[if_neg he,if_neg (by rw[kE];omega),lY b]
   simp only[j0,QJ,kE,lC b]
   by_cases h6:kd (s.data.toList[e])=6
   .rw[if_pos h6,if_pos h6,OA (by omega)]
    have h:=qLv (s:=s) (i:=e) (by omega)
    have d:=nM (p:=eK) (l:=s.data.toList) (a:=e) (by omega)
    have u:(if(decide (pR (s.extract e s.data.toList.length) 10<0))=true then(some (IntKind.wrap .i64 ((ByteArray.size s:Int)-(e:Int)))) else(some (pR (s.extract e s.data.toList.length) 10)):Option Int)=some ((tw eK s.data.toList e-e:Nat):Int):=by
     rw[<-h,bS (by omega) (by omega)]
     by_cases hi:pR (s.extract e s.data.toList.length) 10<0
     .rw[if_pos (by simpa using hi),if_pos hi];congr 1;omega
     rw[if_neg (by simpa using hi),if_neg hi]
    simp only[j0,KC,zK]
    rw[u]
    simp only[j0]
    rw[bS (by omega) (by omega)]
    congr 3;omega
   rw[if_neg h6,if_neg h6,qKz b (by omega) (by omega)]
   simp only[j0,fB]
   by_cases h0:(eL s e).2.2≠0
   .rw[if_pos h0,if_pos h0]
   rw[if_neg h0,if_neg h0,iB (by simp only[jA,jB];omega) (by omega)]
   rfl
  rw[c]
  by_cases he:tw (cD [5]) s.data.toList i=s.data.toList.length
  .rw[if_pos he,if_pos he];rfl
  rw[if_neg he,if_neg he]
  have b:tw (cD [5]) s.data.toList i<s.data.toList.length:=by omega
  by_cases h6:kd (s.data.toList.getD (tw (cD [5]) s.data.toList i) 0)=6
  .rw[if_pos h6,if_pos h6]
   have d:=nM (p:=eK) (l:=s.data.toList) (a:=tw (cD [5]) s.data.toList i) (by omega)
   have h:=yN (p:=eK) b (by
    rw[lC b] at h6
    simp only[eK,fB,ne_eq]
    intro e;rw[e] at h6;exact absurd h6 (by decide))
   exact ND n g k M _ acc d.2 (by omega) (by omega) (by omega)
  rw[if_neg h6,if_neg h6]
  by_cases h0:(eL s (tw (cD [5]) s.data.toList i)).2.2≠0
  .rw[if_pos h0,if_pos h0];rfl
  rw[if_neg h0,if_neg h0]
  obtain⟨e,d,u,h,_⟩:=LT b (by simpa using h0)
  rw[d]
  simp only[j0,kI]
  rw[ND n g k M e _ h (by omega) (by omega) (by simp;omega)]
  cases mL k s e with
  |inl x=>rfl
  |inr r=>simp[uI]
theorem qIc{N:Nat}{s:BA}(a:20000<N):GG N s=some (iQ s):=by
 have b:=eR s
 unfold GG iQ
 by_cases h:s.data.toList.length>16384
 .rw[if_pos (by simp only[j6];omega),if_pos h]
 rw[if_neg (by simp only[j6];omega),if_neg h,PE (by omega)]
 have:=ND (N:=N) (s:=s) (by omega) (by omega) (s.data.toList.length+1) N 0 [] (by omega) (by omega) (by omega) (by simp)
 simp only[j0]
 rw[show((0:Nat):Int)=0 from rfl] at this
 rw[this]
 rfl
def wI(t:bZ):Int:=t.2.2.2+(t.2.1.size:Int)+(if t.1=2 then 1 else 0)
def QR(s:BA):Int->List bZ->Prop
 |_,[]=>True
 |e,t::r=>e<=t.2.2.2/\t.2.2.2+(t.2.1.size:Int)<=s.size/\(t.1=5↔r=[])/\(t.1=1\/t.1=4->s.extract t.2.2.2.toNat (t.2.2.2+(t.2.1.size:Int)).toNat=t.2.1/\0<t.2.1.size)/\QR s (wI t) r
theorem NS{s:BA}:∀(k i:Nat) (e:Int) (r:List bZ),i<=s.data.toList.length->s.data.toList.length<i+k->e<=i->mL k s i= .inr r->QR s e r/\r≠[]/\r.length<=s.data.toList.length+1-i
 |0,i,e,r,A,G,H,c=>by omega
 |k+1,i,e,r,A,G,H,c=>by
  have M:=eR s
  have K:=nM (p:=cD [5]) (l:=s.data.toList) (a:=i) A
  simp only[mL] at c
  generalize hE:tw (cD [5]) s.data.toList i=a at K c
  split at c
  .obtain rfl:=(Sum.inr.inj c).symm
   refine⟨⟨by show e<=(s.data.toList.length:Int);omega,by show(s.data.toList.length:Int)+((0:Nat):Int)<=_;omega,by simp,fun h=>by simp at h,trivial⟩,by simp,by simp;omega⟩
  rename_i he
  have o:a<s.data.toList.length:=by omega
  split at c
  .rename_i h6
   have u:=nM (p:=eK) (l:=s.data.toList) (a:=a) (by omega)
   have d:=yN (p:=eK) o (by
    rw[lC o] at h6
    simp only[eK,fB,ne_eq]
    intro e;rw[e] at h6;exact absurd h6 (by decide))
   obtain⟨v,y,F⟩:=NS k _ e r u.2 (by omega) (by omega) c
   exact⟨v,y,by omega⟩
  split at c
  .cases c
  rename_i h0
  obtain⟨b,B,u,D,E⟩:=LT o (by simpa using h0)
  rw[B,kI] at c
  generalize (eL s a).1=t at c E
  cases z:mL k s b with
  |inl x=>rw[z] at c;cases c
  |inr q=>
   rw[z] at c
   obtain rfl:=(Sum.inr.inj c).symm
   have g:(s.extract a b).size=b-a:=by rw[ByteArray.size_extract];omega
   have f:wI (t.1,t.2.1,t.2.2.1,(a:Int))<=b/\(a:Int)+(t.2.1.size:Int)<=b/\t.1≠5/\(t.1=1\/t.1=4->t.2.1=s.extract a b):=by
    rcases E with ⟨n,d⟩|⟨n,d⟩|⟨n,d⟩
    .refine⟨?_,?_,by omega,fun _=>d⟩
     .simp only[wI,d,g];rw[if_neg (by omega)];omega
     rw[d,g];omega
    .have:(⟨#[]⟩:BA).size=0:=rfl
     refine⟨?_,?_,by omega,fun h=>by omega⟩
     .simp only[wI,d,this];rw[if_pos n];omega
     rw[d,this];omega
    refine⟨?_,by omega,by omega,fun h=>by omega⟩
    simp only[wI];rw[if_neg (by omega)];omega
   obtain⟨v,y,F⟩:=NS k b (wI (t.1,t.2.1,t.2.2.1,(a:Int))) q D (by omega) f.1 z
   refine⟨⟨by show e<=(a:Int);omega,?_,?_,?_,v⟩,by simp,by simp only[jA];omega⟩
   .show(a:Int)+(t.2.1.size:Int)<=_;omega
   .exact⟨fun h=>absurd h f.2.2.1,fun h=>absurd h y⟩
   intro h
   have:=f.2.2.2 h
   show s.extract (Int.toNat (a:Int)) ((a:Int)+(t.2.1.size:Int)).toNat=t.2.1/\0<t.2.1.size
   rw[this,g,kI,show((a:Int)+((b-a:Nat):Int)).toNat=b by omega]
   exact⟨rfl,by omega⟩
theorem PJ{s:BA}:∀(k i:Nat) (x:Int×Int),i<=s.data.toList.length->s.data.toList.length<i+k->mL k s i= .inl x->0<=x.1/\x.1<=s.size/\x.2≠0
 |0,i,x,h,r,c=>by omega
 |k+1,i,x,h,r,c=>by
  have v:=eR s
  have t:=nM (p:=cD [5]) (l:=s.data.toList) (a:=i) h
  simp only[mL] at c
  generalize hE:tw (cD [5]) s.data.toList i=a at t c
  split at c
  .cases c
  rename_i he
  have d:a<s.data.toList.length:=by omega
  split at c
  .rename_i h6
   have f:=nM (p:=eK) (l:=s.data.toList) (a:=a) (by omega)
   have g:=yN (p:=eK) d (by
    rw[lC d] at h6
    simp only[eK,fB,ne_eq]
    intro e;rw[e] at h6;exact absurd h6 (by decide))
   exact PJ k _ x f.2 (by omega) c
  split at c
  .rename_i h0
   obtain rfl:=Sum.inl.inj c
   exact⟨by simp only;omega,by simp only;omega,h0⟩
  rename_i h0
  obtain⟨b,n,f,o,u⟩:=LT d (by simpa using h0)
  rw[n,kI] at c
  cases g:mL k s b with
  |inl y=>rw[g] at c;obtain rfl:=Sum.inl.inj c;exact PJ k b y o (by omega) g
  |inr q=>rw[g] at c;cases c
theorem vZ{p:UInt8->Bool}(h:((List.range 256).all fun n=>p (UInt8.ofNat n))=true)(c:UInt8):p c=true:=by
 have:=jX.1 h c.toNat (fO.2 c.toNat_lt)
 simpa using this
theorem NY{N:Nat}(c:UInt8):xD N (c.toNat:Int)=some (kd c==1):=by
 have h:=vZ (p:=fun c=>(decide (97<=c.toNat)&&decide (c.toNat<=122))==(kd c==1)) (by kernel_rfl) c
 rw[kE] at h
 rw[<-h]
 unfold xD
 by_cases h1:97<=c.toNat
 .rw[if_pos (by simp only[j6];omega)]
  simp only[h1,decide_true,gN,j0]
  congr 1
  exact decide_eq_decide.2 (by omega)
 rw[if_neg (by simp only[j6];omega)]
 simp[h1]
theorem HB{N:Nat}(c:UInt8):vE N (c.toNat:Int)=some (cD [1,2,3] c):=by
 have h:=vZ (p:=fun c=>(kd c==1||(decide (48<=c.toNat)&&decide (c.toNat<=57)||decide (c.toNat=95)))==cD [1,2,3] c) (by kernel_rfl) c
 rw[kE] at h
 rw[<-h]
 unfold vE
 rw[NY]
 simp only[j0]
 cases kd c==1
 .have a:((c.toNat:Int)==95)=decide (c.toNat=95):=by rw[jY,kE,j6];omega
  simp only[j9,jC,dE,a]
  by_cases h1:48<=c.toNat
  .by_cases h2:c.toNat<=57
   .rw[if_pos (by simp only[j6];omega),if_pos (by simp only[j6];omega)];simp[h1,h2]
   rw[if_pos (by simp only[j6];omega),if_neg (by simp only[j6];omega)];simp[h2]
  rw[if_neg (by simp only[j6];omega)];simp[h1]
 rfl
theorem OL(c:UInt8):kd c=2↔48<=c.toNat/\c.toNat<=57:=by
 have h:=vZ (p:=fun c=>(kd c==2)==(decide (48<=c.toNat)&&decide (c.toNat<=57))) (by kernel_rfl) c
 rw[kE,jY] at h
 simpa using h
theorem WZ(c:UInt8):kd c=7↔c=34:=by
 have h:=vZ (p:=fun c=>(kd c==7)==(c==34)) (by kernel_rfl) c
 rw[kE,jY] at h
 simpa using h
def signs:List UInt8:=[59,44,40,41,43,45,42,47,37,60,61]
theorem YB(c:UInt8):kd c=8↔signs.contains c=true:=by
 have h:=vZ (p:=fun c=>(kd c==8)==signs.contains c) (by kernel_rfl) c
 rw[kE,jY] at h
 simpa using h
theorem qHw(c:UInt8):cD [5] c=true↔c.toNat=32\/c.toNat=9\/c.toNat=10\/c.toNat=13:=by
 have h:=vZ (p:=fun c=>cD [5] c==(decide (c.toNat=32)||(decide (c.toNat=9)||(decide (c.toNat=10)||decide (c.toNat=13))))) (by kernel_rfl) c
 rw[kE,jY] at h
 simpa using h
theorem qFg(c:UInt8):kd c=6↔c.toNat=35:=by
 have h:=vZ (p:=fun c=>(kd c==6)==decide (c.toNat=35)) (by kernel_rfl) c
 rw[kE,jY] at h
 simpa using h
def oA(n:Int)(c:UInt8):Int:=if n<=9007199254740992 then n*10+((c.toNat:Int)-48) else n
theorem qIb(l:List UInt8)(c:UInt8):(l++[c]).foldl oA 0=oA (l.foldl oA 0) c:=by simp
theorem YS:∀(n:Nat) (ds:List UInt8),ds.length=n->(∀c∈ds,kd c=2)->0<=ds.foldl oA 0/\ds.foldl oA 0<=90071992547409930/\qG ds=if ds.foldl oA 0>9007199254740992 then 9007199254740993 else ds.foldl oA 0
 |0,ds,h,_=>by obtain rfl:=hO.1 h;simp[qG]
 |n+1,ds,h,k=>by
  obtain⟨l,c,rfl⟩:∃l c,ds=l++[c]:=by
   rcases List.eq_nil_or_concat ds with e|⟨l,c,e⟩
   .rw[e] at h;cases h
   exact⟨l,c,by simpa using e⟩
  obtain⟨d,f,a⟩:=YS n l (by simpa using h) (fun c g=>k c (gM _ g))
  have g:=PI c (k c (by simp))
  rw[qIb,OH]
  by_cases hu:l.foldl oA 0<=9007199254740992
  .rw[if_neg (by omega)] at a
   rw[a]
   generalize l.foldl oA 0=u at d f hu
   have b:oA u c=u*10+((c.toNat:Int)-48):=if_pos hu
   rw[b]
   unfold IG
   refine⟨by omega,by omega,?_⟩
   by_cases h4:9007199254740993<10*u+((c.toNat:Int)-48)
   .rw[if_pos h4,if_pos (by omega)]
   rw[if_neg h4]
   by_cases h5:u*10+((c.toNat:Int)-48)>9007199254740992
   .rw[if_pos h5];omega
   rw[if_neg h5];omega
  rw[if_pos (by omega)] at a
  rw[a]
  generalize l.foldl oA 0=u at d f hu
  have b:oA u c=u:=if_neg hu
  have o:IG 9007199254740993 c=9007199254740993:=if_pos (by omega)
  rw[b,o,if_pos (by omega)]
  exact⟨d,f,rfl⟩
theorem qAn(c:UInt8):cD [2] c=decide (48<=c.toNat/\c.toNat<=57):=by
 rw[jY,j6,<-OL];simp[cD]
theorem TW{N:Nat}{s:BA}:∀(d i M:Nat) (n:Int),i+d=s.data.toList.length->s.data.toList.length<1000000->d<M->0<=n->n<=90071992547409930->
  aK (AF N s) M ((i:Int),n)=some (((tw (cD [2]) s.data.toList i:Nat):Int),((s.data.toList.drop i).takeWhile (cD [2])).foldl oA n)
 |d,i,0,n,_,_,h,_,_=>by omega
 |0,i,M+1,n,c,b,e,f,g=>by
  have l:=eR s
  rw[CQ (by omega),jT (by omega)]
  simp only[aK,AF]
  rw[if_neg (by simp only[j6];omega)]
  rfl
 |d+1,i,M+1,n,c,b,e,f,g=>by
  have l:=eR s
  have hi:i<s.data.toList.length:=by omega
  simp only[aK,AF]
  rw[if_pos (by simp only[j6];omega),lY hi]
  simp only[j0]
  have k:(if decide (((s.data.toList[i]).toNat:Int)>=48)=true then some (decide (((s.data.toList[i]).toNat:Int)<=57)) else some false)=some (cD [2] (s.data.toList[i])):=by
   rw[qAn]
   by_cases h48:48<=(s.data.toList[i]).toNat
   .rw[if_pos (by simp only[j6];omega)];congr 1;exact decide_eq_decide.2 (by omega)
   rw[if_neg (by simp only[j6];omega)];congr 1;exact(jS (by omega)).symm
  rw[k]
  simp only[j0]
  rw[jJ hi]
  cases hb:cD [2] (s.data.toList[i]) with
  |false=>
   rw[vV hi hb,gV (by rw[hb];exact gE)]
   rfl
  |true=>
   have o:48<=(s.data.toList[i]).toNat/\(s.data.toList[i]).toNat<=57:=by rw[qAn] at hb;simpa using hb
   rw[<-vR hi hb,gG hb,jM,if_pos rfl]
   have a:(if decide (n<=9007199254740992)=true then some (IntKind.wrap .i64 (IntKind.wrap .i64 (n*10)+IntKind.wrap .i64 (IntKind.wrap .u8 (((s.data.toList[i]).toNat:Int)-48)))) else some n)=some (oA n (s.data.toList[i])):=by
    unfold oA
    by_cases a:n<=9007199254740992
    .rw[if_pos (by simpa using a),if_pos a,wu8 (by omega) (by omega),bS (x:=n*10) (by omega) (by omega),bS (x:=((s.data.toList[i]).toNat:Int)-48) (by omega) (by omega),bS (by omega) (by omega)]
    rw[if_neg (by simpa using a),if_neg a]
   rw[a]
   simp only[j0]
   rw[bS (by omega) (by omega),<-gB]
   exact TW d (i+1) M _ (by omega) b (by omega) (by unfold oA;split<;>omega) (by unfold oA;split<;>omega)
theorem YD(c:UInt8):(if decide ((c.toNat:Int)>=32)=true then(if decide ((c.toNat:Int)<=126)=true then some ((c.toNat:Int) !=34) else some false) else some false)=some (oV c):=by
 unfold oV
 by_cases h1:32<=c.toNat
 .rw[if_pos (by simp only[j6];omega)]
  by_cases h2:c.toNat<=126
  .rw[if_pos (by simp only[j6];omega)]
   simp only[h1,h2,decide_true,gN]
   congr 1
   rw[jY,fB,fB]
   exact⟨fun h e=>h (by rw[e];rfl),fun h e=>h (UInt8.toNat_inj.1 (by show _=34;omega))⟩
  rw[if_neg (by simp only[j6];omega)];simp[h2]
 rw[if_neg (by simp only[j6];omega)];simp[h1]
theorem qEx{N:Nat}{s:BA}(d i M:Nat)(c:i+d=s.data.toList.length)(h:s.data.toList.length<1000000)(g:d<M):aK (uW N s) M (i:Int)=some ((tw oV s.data.toList i:Nat):Int):=by
 have k:=eR s
 refine CI (f:=uW N s) (l:=s.data.toList) (p:=oV) (fun e=>(e:Int)) (fun j b a=> ?_) (fun j b a=> ?_) ?_ d i M c g
 .simp only[uW]
  rw[if_pos (by simp only[j6];omega),lY b]
  simp only[j0,YD,a]
  rw[if_pos trivial,bS (by omega) (by omega)]
 .simp only[uW]
  rw[if_pos (by simp only[j6];omega),lY b]
  simp only[j0,YD,a]
  rfl
 simp only[uW]
 rw[if_neg (by simp only[j6];omega)]
 rfl
theorem ZY{N:Nat}{s:BA}{p1 a:Int}:EK N s p1 a=if(decide (a<(signs.length:Int)))=true then((bV signs a).bind fun b=>(eD s p1).bind fun c=>if((c.toNat:Int)==(b.toNat:Int))=true then((lN s p1 (IntKind.wrap .i64 (p1+1))).bind fun d=>some (.inr (.inr (((4,d,0,p1),IntKind.wrap .i64 (p1+1),0))))) else(some (.inl (IntKind.wrap .i64 (a+1))))) else(some (.inr (.inl ()))):=rfl
theorem TE{N:Nat}{s:BA}{i:Nat}(hi:i<s.data.toList.length)(g:s.data.toList.length<1000000):∀(d j M:Nat),j+d=signs.length->d<M->
  aK (EK N s (i:Int)) M (j:Int)=some (if(signs.drop j).contains (s.data.toList[i])=true then .inr ((4,s.extract i (i+1),0,(i:Int)),((i+1:Nat):Int),0) else .inl ())
 |d,j,0,_,h=>by omega
 |0,j,M+1,e,f=>by
  simp only[aK,ZY]
  rw[if_neg (by simp only[j6];omega),jT (by omega)]
  rfl
 |d+1,j,M+1,e,f=>by
  have b:j<signs.length:=by omega
  have k:signs.length=11:=rfl
  simp only[aK,ZY]
  rw[if_pos (by simp only[j6];omega),dP b,lY hi,jJ b]
  simp only[j0,List.contains_cons]
  by_cases he:s.data.toList[i]=signs[j]
  .rw[if_pos (by rw[he];exact kN _),bS (x:=(i:Int)+1) (by omega) (by omega),<-gB,rT (by omega) (by omega)]
   simp only[j0]
   rw[if_pos (by rw[he];simp)]
  have c:¬((s.data.toList[i]).toNat:Int)=((signs[j]).toNat:Int):=fun h=>he (UInt8.toNat_inj.1 (by omega))
  have a:(s.data.toList[i]==signs[j])=false:=beq_eq_false_iff_ne.2 he
  rw[if_neg (by simpa using c),bS (by omega) (by omega),<-gB]
  simp only[j0,a,dE]
  exact TE hi g d (j+1) M (by omega) (by omega)
def QX(s:BA)(i:Nat):(Int×BA×Int×Int)×Int×Int:=
 if(eL s i).2.2=0 then(((eL s i).1.1,(eL s i).1.2.1,(eL s i).1.2.2.1,(i:Int)),(eL s i).2.1,0) else eL s i
theorem qGc{N:Nat}{s:BA}{i:Nat}(hi:i<s.data.toList.length)(n:s.data.toList.length<1000000)(v:s.data.toList.length+20<N):FE N s (i:Int)=some (QX s i):=by
 have y:=eR s
 simp only[FE,lY hi,j0,NY,QX,eL,lC hi,kE]
 by_cases h1:kd (s.data.toList[i])=1
 .simp only[h1,jE]
  have d:=nM (p:=cD [1,2,3]) (l:=s.data.toList) (a:=i) (by omega)
  have key:=CI (f:=wX N s) (l:=s.data.toList) (p:=cD [1,2,3]) (fun e=>(e:Int)) (fun j b d=>by
   simp only[wX]
   rw[if_pos (by simp only[j6];omega),lY b]
   simp only[j0,HB,d]
   rw[if_pos trivial,bS (by omega) (by omega)]) (fun j b d=>by
   simp only[wX]
   rw[if_pos (by simp only[j6];omega),lY b]
   simp only[j0,HB,d]
   rfl) (by
   simp only[wX]
   rw[if_neg (by simp only[j6];omega)]
   rfl) (s.data.toList.length-i) i N (by omega) (by omega)
  rw[key]
  simp only[j0]
  rw[bS (by omega) (by omega),rT d.1 d.2]
  by_cases h:tw (cD [1,2,3]) s.data.toList i-i>24
  .rw[if_pos (by simp only[j6];omega),if_pos h];rfl
  rw[if_neg (by simp only[j6];omega),if_neg h];rfl
 simp only[h1,jC]
 by_cases h2:kd (s.data.toList[i])=2
 .simp only[h2,jE]
  have q:=(OL _).1 h2
  rw[if_pos (by simp only[j6];omega)]
  simp only[j0]
  obtain⟨b,k,o⟩:=YS _ _ rfl (fun c (g:c∈(s.data.toList.drop i).takeWhile (cD [2]))=>by simpa[cD] using MC g)
  rw[if_pos (by simp only[j6];omega),TW (s.data.toList.length-i) i N 0 (by omega) n (by omega) (by omega) (by omega),o]
  simp only[j0,j6]
  generalize ((s.data.toList.drop i).takeWhile (cD [2])).foldl oA 0=u at b k
  by_cases h4:u>9007199254740992
  .simp[h4,wE]
  simp[h4]
 simp only[h2,jC]
 have t:¬(48<=(s.data.toList[i]).toNat/\(s.data.toList[i]).toNat<=57):=fun h=>h2 ((OL _).2 h)
 have k:(if decide (((s.data.toList[i]).toNat:Int)>=48)=true then some (decide (((s.data.toList[i]).toNat:Int)<=57)) else some false)=some false:=by
  by_cases h48:48<=(s.data.toList[i]).toNat
  .rw[if_pos (by simp only[j6];omega)];congr 1;rw[decide_eq_false_iff_not];omega
  rw[if_neg (by simp only[j6];omega)]
 rw[k]
 simp only[j0,j9,jC]
 by_cases h7:kd (s.data.toList[i])=7
 .have g:s.data.toList[i]=34:=(WZ _).1 h7
  simp only[h7,jE]
  rw[if_pos (by rw[g];rfl),bS (x:=(i:Int)+1) (by omega) (by omega),<-gB]
  have d:=nM (p:=oV) (l:=s.data.toList) (a:=i+1) (by omega)
  rw[qEx (s.data.toList.length-(i+1)) (i+1) N (by omega) n (by omega)]
  simp only[j0]
  generalize tw oV s.data.toList (i+1)=e at d
  by_cases he:e=s.data.toList.length
  .rw[if_pos (by omega)]
   have:¬s.data.toList.getD e 0=34:=fun h=>by have:=HF (l:=s.data.toList) (i:=e) (by rw[h];decide);omega
   rw[if_neg this]
   rfl
  have b:e<s.data.toList.length:=by omega
  rw[if_neg (by omega),lY b,lC b]
  simp only[j0]
  by_cases h34:s.data.toList[e]=34
  .rw[if_pos h34,if_neg (by rw[h34];decide),rT d.1 d.2]
   simp only[j0,jE]
   rw[bS (by omega) (by omega),<-gB]
  have h34':¬((s.data.toList[e]).toNat:Int)=34:=fun h=>h34 (UInt8.toNat_inj.1 (by show _=34;omega))
  rw[if_neg h34,if_pos (by simpa using h34')]
  simp[wE]
 have h34':¬((s.data.toList[i]).toNat:Int)=34:=fun h=>h7 ((WZ _).2 (UInt8.toNat_inj.1 (by show _=34;omega)))
 simp only[h7,jC,h34']
 have q:(if((s.data.toList[i]).toNat:Int)=61 then(if decide (IntKind.wrap .i64 ((i:Int)+1)<(s.size:Int))=true then((eD s (IntKind.wrap .i64 ((i:Int)+1))).bind fun o=>some ((o.toNat:Int)==61)) else some false) else some false)=some (decide (s.data.toList.getD i 0=61/\s.data.toList.getD (i+1) 0=61)):=by
  rw[lC hi]
  by_cases h61:s.data.toList[i]=61
  .rw[if_pos (by rw[h61];rfl),bS (by omega) (by omega),<-gB]
   by_cases b:i+1<s.data.toList.length
   .rw[if_pos (by simp only[j6];omega),lY b,lC b]
    simp only[j0]
    congr 1
    rw[jY,kE,j6]
    exact⟨fun h=>⟨h61,UInt8.toNat_inj.1 (by show _=61;omega)⟩,fun h=>by rw[h.2];rfl⟩
   rw[if_neg (by simp only[j6];omega)]
   congr 1
   refine(jS fun h=> ?_).symm
   have:=HF (l:=s.data.toList) (i:=i+1) (by rw[h.2];decide)
   omega
  rw[if_neg (fun h=>h61 (UInt8.toNat_inj.1 (by show _=61;omega)))]
  congr 1
  exact(jS fun h=>h61 h.1).symm
 rw[q]
 simp only[j0,j6]
 by_cases h61:s.data.toList.getD i 0=61/\s.data.toList.getD (i+1) 0=61
 .have b:i+1<s.data.toList.length:=HF (by rw[h61.2];decide)
  have d:kd (s.data.toList[i])=8:=by rw[<-lC hi,h61.1];kernel_rfl
  have g:rG s.data.toList i=i+2:=by rw[rG,if_pos h61]
  have r:s.extract i (i+2)=(⟨#[61,61]⟩:BA):=by
   apply Go.WideShapes.bytes_inj
   simp only[ByteArray.data_extract,fA,gK]
   rw[jJ hi,jJ b,<-lC hi,<-lC b,h61.1,h61.2,show i+2-i=2 by omega]
   rfl
  simp only[h61,and_self,jE,d,g,r]
  rw[bS (by omega) (by omega)]
  simp
 have g:rG s.data.toList i=i+1:=by rw[rG,if_neg h61]
 have key:=TE (N:=N) hi n 11 0 N rfl (by omega)
 rw[show((0:Nat):Int)=0 from rfl] at key
 rw[if_neg h61,key]
 by_cases d:kd (s.data.toList[i])=8
 .have:=(YB _).1 d
  simp only[d,jE,kA,this,j0,g]
 have:¬signs.contains (s.data.toList[i])=true:=fun h=>d ((YB _).2 h)
 simp only[d,jC,kA,this,j0]
 simp[wE]
def lH:Nat->List UInt8->Nat->Nat
 |0,_,i=>i
 |k+1,l,i=>
  if tw (cD [5]) l i=l.length then l.length
  else if kd (l.getD (tw (cD [5]) l i) 0)=6 then lH k l (tw eK l (tw (cD [5]) l i))
  else tw (cD [5]) l i
theorem qGx{N:Nat}{s:BA}{i:Nat}(hi:i<=s.data.toList.length)(k:s.data.toList.length<1000000)(g:s.data.toList.length+10<N):aK (uY N s) N (i:Int)=some ((tw eK s.data.toList i:Nat):Int):=by
 have n:=eR s
 have d:∀c:UInt8,((c.toNat:Int) !=10)=eK c:=fun c=>by
  rw[jY,fB,eK,fB]
  exact⟨fun h e=>h (by rw[e];rfl),fun h e=>h (UInt8.toNat_inj.1 (by show _=10;omega))⟩
 refine CI (f:=uY N s) (l:=s.data.toList) (p:=eK) (fun e=>(e:Int)) (fun j b a=> ?_) (fun j b a=> ?_) ?_ (s.data.toList.length-i) i N (by omega) (by omega)
 .simp only[uY]
  rw[if_pos (by simp only[j6];omega),lY b]
  simp only[j0,d,a]
  rw[if_pos trivial,bS (by omega) (by omega)]
 .simp only[uY]
  rw[if_pos (by simp only[j6];omega),lY b]
  simp only[j0,d,a]
  rfl
 simp only[uY]
 rw[if_neg (by simp only[j6];omega)]
 rfl
theorem qHe{s:BA}{i:Nat}(hi:i<s.data.toList.length):((eD s (i:Int)).bind fun b=>if((b.toNat:Int)==32)=true then(some true) else((eD s (i:Int)).bind fun d=>if((d.toNat:Int)==9)=true then(some true) else((eD s (i:Int)).bind fun e=>if((e.toNat:Int)==10)=true then(some true) else((eD s (i:Int)).bind fun f=>some ((f.toNat:Int)==13)))))=some (cD [5] (s.data.toList[i])):=by
 simp only[lY hi,j0,kE]
 generalize s.data.toList[i]=c
 have a:=qHw c
 by_cases h1:(c.toNat:Int)=32
 .rw[if_pos h1,a.2 (by omega)]
 rw[if_neg h1]
 by_cases h2:(c.toNat:Int)=9
 .rw[if_pos h2,a.2 (by omega)]
 rw[if_neg h2]
 by_cases h3:(c.toNat:Int)=10
 .rw[if_pos h3,a.2 (by omega)]
 rw[if_neg h3]
 congr 1
 rw[jY,kE,a]
 omega
theorem qHg{N:Nat}{s:BA}{i:Nat}(hi:i<s.data.toList.length)(c:s.data.toList.length<1000000)(b:s.data.toList.length+10<N):
  wZ N s (i:Int)=some (if cD [5] (s.data.toList[i])=true then .inl (((i+1:Nat)):Int) else if kd (s.data.toList[i])=6 then .inl ((tw eK s.data.toList i:Nat):Int) else .inr (.inr (i:Int))):=by
 have d:=eR s
 simp only[wZ]
 rw[if_pos (by simp only[j6];omega),qHe hi]
 simp only[j0]
 by_cases h5:cD [5] (s.data.toList[i])=true
 .rw[if_pos h5,if_pos h5,bS (by omega) (by omega),<-gB]
 rw[if_neg h5,if_neg h5,lY hi]
 simp only[j0,kE]
 have a:=qFg (s.data.toList[i])
 by_cases h6:kd (s.data.toList[i])=6
 .rw[if_pos (by have:=a.1 h6;omega),if_pos h6,qGx (by omega) c b]
  rfl
 rw[if_neg (fun h=>h6 (a.2 (by omega))),if_neg h6]
theorem OF{N:Nat}{s:BA}(f:s.data.toList.length<1000000)(c:s.data.toList.length+10<N):∀(d i k M:Nat),i+d=s.data.toList.length->d<k->d<M->∃z,aK (wZ N s) M (i:Int)=some z/\(z= .inl ((lH k s.data.toList i:Nat):Int)\/z= .inr ((lH k s.data.toList i:Nat):Int))
 |d,i,k,0,_,_,h=>by omega
 |d,i,0,M,_,h,_=>by omega
 |0,i,k+1,M+1,g,n,o=>by
  have r:=eR s
  refine⟨.inl ((s.data.toList.length:Nat):Int),?_,.inl ?_⟩
  .simp only[aK,wZ]
   rw[if_neg (by simp only[j6];omega)]
   simp only[j0]
   congr 2;omega
  simp only[lH]
  rw[CQ (by omega),if_pos (by omega)]
 |d+1,i,k+1,M+1,g,n,o=>by
  have r:=eR s
  have hi:i<s.data.toList.length:=by omega
  simp only[aK]
  rw[qHg hi f c]
  simp only[j0]
  cases h5:cD [5] (s.data.toList[i]) with
  |true=>
   rw[if_pos rfl]
   have:=OF f c d (i+1) (k+1) M (by omega) (by omega) (by omega)
   simp only[lH,vR hi h5] at this ⊢
   exact this
  |false=>
   rw[if_neg gE]
   by_cases h6:kd (s.data.toList[i])=6
   .have b:lH (k+1) s.data.toList i=lH k s.data.toList (tw eK s.data.toList i):=by
     simp only[lH,vV hi h5,lC hi,h6,jE]
     rw[if_neg (by omega)]
    rw[b,if_pos h6]
    have t:=nM (p:=eK) (l:=s.data.toList) (a:=i) (by omega)
    have q:=yN (p:=eK) hi (by
     simp only[eK,fB,ne_eq]
     intro e;rw[e] at h6;exact absurd h6 (by decide))
    exact OF f c (s.data.toList.length-tw eK s.data.toList i) _ k M (by omega) (by omega) (by omega)
   have b:lH (k+1) s.data.toList i=i:=by
    simp only[lH,vV hi h5,lC hi,h6,jC]
    rw[if_neg (by omega)]
   rw[b,if_neg h6]
   exact⟨_,rfl,.inr rfl⟩
theorem ZF{N:Nat}{s:BA}{i k:Nat}(hi:i<=s.data.toList.length)(d:s.data.toList.length<1000000)(c:s.data.toList.length+10<N)(e:s.data.toList.length<i+k):AW N s (i:Int)=some ((lH k s.data.toList i:Nat):Int):=by
 obtain⟨z,a,b⟩:=OF d c (s.data.toList.length-i) i k N (by omega) (by omega) (by omega)
 unfold AW
 rw[a]
 rcases b with rfl|rfl<;>rfl
theorem XA{s:BA}:∀(k i:Nat),i<=s.data.toList.length->s.data.toList.length<i+k->i<=lH k s.data.toList i/\lH k s.data.toList i<=s.data.toList.length/\
  (lH k s.data.toList i=s.data.toList.length->mL k s i= .inr [(5,⟨#[]⟩,0,(s.data.toList.length:Int))])/\
  (lH k s.data.toList i<s.data.toList.length->∃k',(∀b,lH k s.data.toList i<b->s.data.toList.length<b+k')/\mL k s i=
   if(eL s (lH k s.data.toList i)).2.2≠0 then .inl ((lH k s.data.toList i:Nat),(eL s (lH k s.data.toList i)).2.2)
   else match mL k' s (eL s (lH k s.data.toList i)).2.1.toNat with
    | .inl x=> .inl x
    | .inr r=> .inr (((eL s (lH k s.data.toList i)).1.1,(eL s (lH k s.data.toList i)).1.2.1,(eL s (lH k s.data.toList i)).1.2.2.1,((lH k s.data.toList i:Nat):Int))::r))
 |0,i,d,t=>by omega
 |k+1,i,d,t=>by
  have f:=nM (p:=cD [5]) (l:=s.data.toList) (a:=i) d
  simp only[lH,mL]
  by_cases he:tw (cD [5]) s.data.toList i=s.data.toList.length
  .simp only[he,jE]
   exact⟨d,jN _,fun _=>trivial,fun h=>absurd h (Nat.lt_irrefl _)⟩
  simp only[he,jC]
  have c:tw (cD [5]) s.data.toList i<s.data.toList.length:=by omega
  by_cases h6:kd (s.data.toList.getD (tw (cD [5]) s.data.toList i) 0)=6
  .simp only[h6,jE]
   have g:=nM (p:=eK) (l:=s.data.toList) (a:=tw (cD [5]) s.data.toList i) (by omega)
   have u:=yN (p:=eK) c (by
    rw[lC c] at h6
    simp only[eK,fB,ne_eq]
    intro e;rw[e] at h6;exact absurd h6 (by decide))
   obtain⟨v,n,o,q⟩:=XA k (tw eK s.data.toList (tw (cD [5]) s.data.toList i)) g.2 (by omega)
   exact⟨by omega,n,o,q⟩
  simp only[h6,jC]
  exact⟨f.1,f.2,fun h=>absurd h he,fun _=>⟨k,fun b hb'=>by omega,rfl⟩⟩
theorem SP{N:Nat}{s:BA}(E:s.data.toList.length<=16384)(B:s.data.toList.length+40<N):∀(d i k M:Nat) (acc:List bZ),i+d=s.data.toList.length->d<M->s.data.toList.length<i+k->acc.length<=i->
  ∃z,aK (EI N s) M (acc,((lH k s.data.toList i:Nat):Int))=some z/\((∃o,z= .inl o/\o.length<=s.data.toList.length/\uI acc (mL k s i)=(o++[(5,⟨#[]⟩,0,(s.size:Int))],0,0))\/z= .inr (uI acc (mL k s i)))
 |d,i,k,0,acc,_,h,_,_=>by omega
 |d,i,k,M+1,acc,G,H,A,K=>by
  have F:=eR s
  obtain⟨v,y,g,l⟩:=XA (s:=s) k i (by omega) A
  generalize hA:lH k s.data.toList i=a at v y g l
  simp only[aK,EI]
  by_cases he:a=s.data.toList.length
  .refine⟨.inl acc,?_,.inl ⟨acc,rfl,by omega,?_⟩⟩
   .rw[if_neg (by simp only[j6];omega)]
    rfl
   rw[g he,<-F];rfl
  have b:a<s.data.toList.length:=by omega
  obtain⟨k',n,p⟩:=l b
  rw[if_pos (by simp only[j6];omega),qGc b (by omega) (by omega)]
  simp only[j0,QX]
  by_cases h0:(eL s a).2.2=0
  .obtain⟨e,c,f,q,_⟩:=LT b h0
   rw[if_pos h0]
   simp only[gH,j9,jC]
   rw[iB (by simp only[jA,jB];omega) (by omega),c]
   simp only[j0]
   rw[ZF (k:=k') q (by omega) (by omega) (n e f)]
   simp only[j0]
   obtain⟨z,t,u⟩:=SP E B (s.data.toList.length-e) e k' M (acc++[((eL s a).1.1,(eL s a).1.2.1,(eL s a).1.2.2.1,(a:Int))]) (by omega) (by omega) (n e f) (by simp;omega)
   have D:uI acc (mL k s i)=uI (acc++[((eL s a).1.1,(eL s a).1.2.1,(eL s a).1.2.2.1,(a:Int))]) (mL k' s e):=by
    rw[p,if_neg (by simp[h0]),c,kI]
    cases mL k' s e with
    |inl x=>rfl
    |inr r=>simp[uI]
   rw[D]
   exact⟨z,t,u⟩
  rw[if_neg h0]
  have c:((eL s a).2.2 !=0)=true:=by simpa using h0
  simp only[c,jE,j0]
  refine⟨_,rfl,.inr ?_⟩
  rw[p,if_pos h0]
  rfl
theorem qEu{N:Nat}{s:BA}(e:20000<N):FA N s=some (iQ s):=by
 have g:=eR s
 unfold FA iQ
 by_cases h:s.data.toList.length>16384
 .rw[if_pos (by simp only[j6];omega),if_pos h]
 rw[if_neg (by simp only[j6];omega),if_neg h]
 have a:=ZF (N:=N) (s:=s) (i:=0) (k:=s.data.toList.length+1) (by omega) (by omega) (by omega) (by omega)
 rw[show((0:Nat):Int)=0 from rfl] at a
 rw[a]
 simp only[j0]
 obtain⟨z,b,c⟩:=SP (N:=N) (s:=s) (by omega) (by omega) s.data.toList.length 0 (s.data.toList.length+1) N [] (by omega) (by omega) (by omega) (by simp)
 rw[b]
 rcases c with ⟨o,rfl,f,d⟩|rfl
 .simp only[j0]
  rw[iB (by simp only[jA,jB];omega) (by omega),d]
  rfl
 rfl
def uG(s:BA):Bool:=decide (1<=s.data.toList.length/\s.data.toList.length<=24/\kd (s.data.toList.getD 0 0)=1/\tw (cD [1,2,3]) s.data.toList 0=s.data.toList.length)
theorem yC{s:BA}(h:¬(1<=s.data.toList.length/\s.data.toList.length<=24/\kd (s.data.toList.getD 0 0)=1/\tw (cD [1,2,3]) s.data.toList 0=s.data.toList.length)):false=uG s:=(jS h).symm
theorem qIt{s:BA}(h:1<=s.data.toList.length/\s.data.toList.length<=24/\kd (s.data.toList.getD 0 0)=1/\tw (cD [1,2,3]) s.data.toList 0=s.data.toList.length):true=uG s:=(jL h).symm
theorem qMm{N:Nat}{s:BA}(b:100<N):GQ N s=some (uG s):=by
 have c:=eR s
 simp only[GQ,PE (show 30<N by omega),j0]
 by_cases h1:1<=s.data.toList.length
 .by_cases h2:s.data.toList.length<=24
  .rw[if_pos (by simp only[j6];omega),if_pos (by simp only[j6];omega)]
   have hi:=lY (s:=s) (i:=0) (by omega)
   rw[show((0:Nat):Int)=0 from rfl] at hi
   rw[hi]
   simp only[j0,QJ,kE]
   have a:=HK (N:=N) (s:=s) (ks:=[1,2,3]) (i:=0) (by omega) (by omega) (by simp) (by omega)
   rw[show((0:Nat):Int)=0 from rfl] at a
   by_cases h3:kd (s.data.toList[0])=1
   .rw[if_pos h3,a]
    simp only[j0]
    congr 1
    rw[jY,kE,uG,j6,lC (by omega)]
    exact⟨fun h=>⟨h1,h2,h3,by omega⟩,fun h=>by have:=h.2.2.2;omega⟩
   rw[if_neg h3]
   refine congrArg some (yC fun h=> ?_)
   rw[lC (by omega)] at h
   exact h3 h.2.2.1
  rw[if_pos (by simp only[j6];omega),if_neg (by simp only[j6];omega)]
  exact congrArg some (yC fun h=>h2 h.2.1)
 rw[if_neg (by simp only[j6];omega)]
 exact congrArg some (yC fun h=>h1 h.1)
theorem qHb{N:Nat}{s:BA}(c:100<N):AX N s=some (uG s):=by
 have d:=eR s
 simp only[AX]
 by_cases h1:1<=s.data.toList.length
 .by_cases h2:s.data.toList.length<=24
  .rw[if_neg (by simp only[j6];omega),if_neg (by simp only[j6];omega)]
   have hi:=lY (s:=s) (i:=0) (by omega)
   rw[show((0:Nat):Int)=0 from rfl] at hi
   rw[hi]
   simp only[j0,NY]
   by_cases h3:kd (s.data.toList[0])=1
   .rw[h3,if_neg (by simp)]
    have key:=CI (f:=xA N s) (l:=s.data.toList) (p:=cD [1,2,3]) (fun e=>if e=s.data.toList.length then .inl () else .inr false) (fun j b a=>by
     simp only[xA]
     rw[if_pos (by simp only[j6];omega),lY b]
     simp only[j0,HB,a]
     rw[bS (by omega) (by omega)]
     rfl) (fun j b a=>by
     simp only[xA]
     rw[if_pos (by simp only[j6];omega),lY b]
     simp only[j0,HB,a]
     rw[if_neg (show ¬j=s.data.toList.length by omega)]
     rfl) (by
     simp only[xA]
     rw[if_neg (by simp only[j6];omega)]
     simp) s.data.toList.length 0 N (by omega) (by omega)
    rw[show((0:Nat):Int)=0 from rfl] at key
    rw[key]
    simp only[j0]
    by_cases h4:tw (cD [1,2,3]) s.data.toList 0=s.data.toList.length
    .rw[if_pos h4]
     exact congrArg some (qIt ⟨h1,h2,by rw[lC (by omega)];exact h3,h4⟩)
    rw[if_neg h4]
    exact congrArg some (yC fun h=>h4 h.2.2.2)
   rw[if_pos (by rw[fR,beq_eq_false_iff_ne];exact h3)]
   refine congrArg some (yC fun h=> ?_)
   rw[lC (by omega)] at h
   exact h3 h.2.2.1
  rw[if_neg (by simp only[j6];omega),if_pos (by simp only[j6];omega)]
  simp only[j0,jE]
  exact congrArg some (yC fun h=>h2 h.2.1)
 rw[if_pos (by simp only[j6];omega)]
 simp only[j0,jE]
 exact congrArg some (yC fun h=>h1 h.1)
def sp:List UInt8->List (List UInt8)
 |[]=>[[]]
 |c::l=>if c=47 then[]::sp l else match sp l with
  |[]=>[[c]]
  |p::q=>(c::p)::q
theorem CV:∀l:List UInt8,sp l≠[]
 |[]=>by simp[sp]
 |c::l=>by
  simp only[sp]
  split
  .simp
  split<;>simp
theorem QK:∀l:List UInt8,(sp l).length=l.count 47+1
 |[]=>rfl
 |c::l=>by
  simp only[sp]
  split
  .rename_i h;subst h;simp[QK l]
  rename_i h
  have:=QK l
  split
  .rename_i e;exact absurd e (CV l)
  rename_i e
  rw[e] at this
  simp only[jA] at this ⊢
  rw[List.count_cons_of_ne h,<-this]
def lS(c:UInt8):Bool:=c !=47
theorem YR:∀l:List UInt8,sp l=if(l.takeWhile lS).length=l.length then[l] else l.takeWhile lS::sp (l.drop ((l.takeWhile lS).length+1))
 |[]=>rfl
 |c::l=>by
  have b:=YR l
  by_cases h:c=47
  .subst h
   rw[gV (by decide)]
   simp[sp]
  have a:lS c=true:=by simpa[lS] using h
  rw[gG a]
  simp only[sp,h,jC,b,jA,Nat.add_right_cancel_iff,List.drop_succ_cons]
  by_cases he:(l.takeWhile lS).length=l.length
  .simp[he]
  simp[he]
def tB:Nat->Nat->List UInt8->Option (Nat×Nat)
 |a,b,[]=>some (a,b)
 |a,b,c::l=>if c=47 then(if b=0 then none else tB (a+1) 0 l) else if cD [1,2,3,4] c=true then(if b+1>24 then none else tB a (b+1) l) else none
def qNu(p:List UInt8):Prop:=1<=p.length/\p.length<=24/\∀c∈p,cD [1,2,3,4] c=true
theorem NZ:∀(l:List UInt8) (a b:Nat),b<=24->((∃x y,tB a b l=some (x,y)/\0<y/\x<=8)↔
  ∃p q,sp l=p::q/\1<=b+p.length/\b+p.length<=24/\(∀c∈p,cD [1,2,3,4] c=true)/\(∀r∈q,qNu r)/\a+q.length<=8)
 |[],a,b,v=>by
  constructor
  .rintro⟨x,y,h,e,g⟩
   simp only[tB,jG,Prod.mk.injEq] at h
   exact⟨[],[],rfl,by simp;omega,by simpa using v,by simp,by simp,by simp;omega⟩
  rintro⟨p,q,h,e,g,_,_,f⟩
  simp only[sp,kL] at h
  obtain⟨rfl,rfl⟩:=h
  simp only[jB] at e f
  exact⟨a,b,rfl,by omega,by omega⟩
 |c::l,a,b,v=>by
  by_cases hc:c=47
  .have t:sp (c::l)=[]::sp l:=by simp[sp,hc]
   rw[t]
   simp only[tB,hc,jE]
   by_cases h0:b=0
   .subst h0
    simp only[jE]
    constructor
    .rintro⟨x,y,h,_⟩;cases h
    rintro⟨p,q,h,e,_⟩
    simp only[kL] at h
    rw[<-h.1] at e;simp at e
   rw[if_neg h0]
   rw[NZ l (a+1) 0 (by omega)]
   constructor
   .rintro⟨p,q,h,e,g,f,n,o⟩
    refine⟨[],sp l,rfl,by simp;omega,by simpa using v,by simp,?_,by rw[h];simp only[jA];omega⟩
    intro r s
    rw[h] at s
    rcases jI.1 s with rfl|s
    .exact⟨by omega,by omega,f⟩
    exact n r s
   rintro⟨p,q,h,e,g,f,n,o⟩
   simp only[kL] at h
   obtain⟨rfl,rfl⟩:=h
   obtain⟨p,q,k⟩:∃p q,sp l=p::q:=by
    cases u:sp l with
    |nil=>exact absurd u (CV l)
    |cons p q=>exact⟨p,q,rfl⟩
   rw[k] at n o
   obtain⟨A,B,z⟩:=n p (jK ..)
   exact⟨p,q,k,by omega,by omega,z,fun r s=>n r (jQ _ s),by simp only[jA] at o;omega⟩
  obtain⟨p0,z,k⟩:∃p q,sp l=p::q:=by
   cases u:sp l with
   |nil=>exact absurd u (CV l)
   |cons p q=>exact⟨p,q,rfl⟩
  have t:sp (c::l)=(c::p0)::z:=by simp only[sp,hc,jC,k]
  rw[t]
  simp only[tB,hc,jC]
  by_cases u:cD [1,2,3,4] c=true
  .rw[if_pos u]
   by_cases h24:b+1>24
   .rw[if_pos h24]
    constructor
    .rintro⟨x,y,h,_⟩;cases h
    rintro⟨p,q,h,e,g,_⟩
    simp only[kL] at h
    rw[<-h.1] at g
    simp only[jA] at g
    omega
   rw[if_neg h24,NZ l a (b+1) (by omega)]
   constructor
   .rintro⟨p,q,h,e,g,f,n,o⟩
    rw[k] at h
    simp only[kL] at h
    obtain⟨rfl,rfl⟩:=h
    refine⟨_,_,rfl,by simp only[jA];omega,by simp only[jA];omega,?_,n,o⟩
    intro d s
    rcases jI.1 s with rfl|s
    .exact u
    exact f d s
   rintro⟨p,q,h,e,g,f,n,o⟩
   simp only[kL] at h
   obtain⟨rfl,rfl⟩:=h
   simp only[jA] at e g
   exact⟨p0,z,k,by omega,by omega,fun d s=>f d (jQ _ s),n,o⟩
  rw[if_neg u]
  constructor
  .rintro⟨x,y,h,_⟩;cases h
  rintro⟨p,q,h,e,g,f,_⟩
  simp only[kL] at h
  rw[<-h.1] at f
  exact absurd (f c (jK ..)) u
theorem inK4{N:Nat}(c:UInt8):((vE N (c.toNat:Int)).bind fun y1=>if y1=true then(some true) else(some ((c.toNat:Int)==46)))=some (cD [1,2,3,4] c):=by
 have h:=vZ (p:=fun c=>(cD [1,2,3] c||decide (c.toNat=46))==cD [1,2,3,4] c) (by kernel_rfl) c
 rw[kE] at h
 rw[<-h,HB]
 simp only[j0]
 have e:((c.toNat:Int)==46)=decide (c.toNat=46):=by rw[jY,kE,j6];omega
 rw[e]
 cases cD [1,2,3] c<;>simp
theorem NC{N:Nat}{s:BA}(c:s.data.toList.length<1000000):∀(d i M a b:Nat),i+d=s.data.toList.length->d<M->a<=i+1->b<=24->
  aK (AI N s) M ((a:Int),(b:Int),(i:Int))=some (match tB a b (s.data.toList.drop i) with|some z=> .inl ((z.1:Int),(z.2:Int))|none=> .inr false)
 |d,i,0,_,_,_,h,_,_=>by omega
 |0,i,M+1,a,b,e,f,g,k=>by
  have l:=eR s
  simp only[aK,AI]
  rw[if_neg (by simp only[j6];omega),jT (by omega)]
  rfl
 |d+1,i,M+1,a,b,e,f,g,k=>by
  have l:=eR s
  have hi:i<s.data.toList.length:=by omega
  simp only[aK,AI]
  rw[if_pos (by simp only[j6];omega),jJ hi,lY hi]
  simp only[j0,inK4,kE,tB]
  by_cases hc:s.data.toList[i]=47
  .rw[if_pos (show((s.data.toList[i]).toNat:Int)=47 by rw[hc];rfl),if_pos hc]
   by_cases hb:b=0
   .rw[if_pos (show(b:Int)=0 by omega),if_pos hb]
    rfl
   rw[if_neg (show ¬(b:Int)=0 by omega),if_neg hb,bS (x:=(a:Int)+1) (by omega) (by omega)]
   simp only[j0]
   rw[if_neg (by simp),bS (by omega) (by omega)]
   have:=NC (N:=N) c d (i+1) M (a+1) 0 (by omega) (by omega) (by omega) (by omega)
   exact this
  have hc':¬((s.data.toList[i]).toNat:Int)=47:=fun h=>hc (UInt8.toNat_inj.1 (by show _=47;omega))
  rw[if_neg hc',if_neg hc]
  by_cases hk:cD [1,2,3,4] (s.data.toList[i])=true
  .rw[if_pos hk,if_pos hk,bS (x:=(b:Int)+1) (by omega) (by omega)]
   simp only[j0]
   by_cases h24:b+1>24
   .rw[if_pos (by simp only[j6];omega),if_pos h24]
    rfl
   rw[if_neg (by simp only[j6];omega),if_neg h24,bS (by omega) (by omega)]
   have:=NC (N:=N) c d (i+1) M a (b+1) (by omega) (by omega) (by omega) (by omega)
   exact this
  rw[if_neg hk,if_neg hk]
  rfl
def iE(l:List UInt8):Bool:=decide (l.length<=80/\(sp l).length<=8/\∀p∈sp l,1<=p.length/\p.length<=24/\∀c∈p,cD [1,2,3,4] c=true)
theorem WC(l:List UInt8):iE l=true↔l.length<=80/\∃x y,tB 1 0 l=some (x,y)/\0<y/\x<=8:=by
 rw[NZ l 1 0 (by omega)]
 simp only[iE,j6]
 obtain⟨p,q,hpq⟩:∃p q,sp l=p::q:=by
  cases a:sp l with
  |nil=>exact absurd a (CV l)
  |cons p q=>exact⟨p,q,rfl⟩
 constructor
 .rintro⟨c,d,b⟩
  rw[hpq] at d b
  obtain⟨f,g,e⟩:=b p (jK ..)
  exact⟨c,p,q,hpq,by omega,by omega,e,fun r a=>b r (jQ _ a),by simp only[jA] at d;omega⟩
 rintro⟨c,p',q',h,d,b,e,f,g⟩
 refine⟨c,by rw[h];simp only[jA];omega,?_⟩
 intro r a
 rw[h] at a
 rcases jI.1 a with rfl|a
 .exact⟨by omega,by omega,e⟩
 exact f r a
theorem NR{N:Nat}{s:BA}(c:100<N):vF N s=some (iE s.data.toList):=by
 have d:=eR s
 simp only[vF]
 by_cases h80:s.data.toList.length<=80
 .rw[if_neg (by simp only[j6];omega)]
  have key:=NC (N:=N) (s:=s) (by omega) s.data.toList.length 0 N 1 0 (by omega) (by omega) (by omega) (by omega)
  rw[show((0:Nat):Int)=0 from rfl,show((1:Nat):Int)=1 from rfl,kA] at key
  rw[key]
  have a:=WC s.data.toList
  cases hR:tB 1 0 s.data.toList with
  |none=>
   simp only[j0]
   refine congrArg some ?_
   rw[jY,a]
   constructor
   .intro h;cases h
   rintro⟨_,x,y,h,_⟩;rw[hR] at h;cases h
  |some z=>
   obtain⟨x,y⟩:=z
   simp only[j0]
   by_cases hy:0<y
   .rw[if_pos (by simp only[j6];omega)]
    simp only[j0]
    refine congrArg some ?_
    rw[jY,a,j6]
    constructor
    .intro h;exact⟨h80,x,y,hR,hy,by omega⟩
    rintro⟨_,x',y',h,_,b⟩;rw[hR] at h;simp only[jG,Prod.mk.injEq] at h;omega
   rw[if_neg (by simp only[j6];omega)]
   simp only[j0]
   refine congrArg some ?_
   rw[jY,a]
   constructor
   .intro h;cases h
   rintro⟨_,x',y',h,b,_⟩;rw[hR] at h;simp only[jG,Prod.mk.injEq] at h;omega
 rw[if_pos (by simp only[j6];omega)]
 refine congrArg some ?_
 rw[jY,WC]
 exact⟨fun h=>(by cases h),fun h=>absurd h.1 h80⟩
end
end Go.Proofs.YtbclhfjdmfbegaaGreatDoor
