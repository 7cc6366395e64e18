/- No condition but those of each theorem. -/
import Derived.Test.YtleaknfdlaokiaaGreatDoorProg
import Derived.WalkKit
import Derived.Deep.LoopGhost
import Derived.KernelRfl
import Derived.OrdersHeld
import Derived.OrdersIn
import Derived.LoopNIn
import Derived.Sort.LoopGhostIn
import Derived.Laws.AppendOwn
import Derived.RangeFuncLeaves
import Derived.RangeFuncRecord
import Derived.MapKept
import Derived.Maps.RangeRun
import Derived.ChangeKeysEq
import Derived.HandedShaped
import Derived.ChangeStays
import Derived.ChangeSame
import Derived.OpenShut
import Derived.WideShapes
import Derived.JoinedOf
import Derived.ReadAgain
import Derived.ChangeAt
import Derived.RowKit
import Derived.Lib.Overlaps
import Derived.Shelf.SlSortCmp.NoneTotal
import Derived.WalkSmall
import Derived.Recover
import Derived.Lib.Bytealg
import Derived.Test.YtleaknfdlaokiaaGreatDoorK5a4
namespace Go.Proofs.YtleaknfdlaokiaaGreatDoor
section
open Go Go.Dc Go.Proofs
section
variable {N:Nat} {L:List bM} {env:nG} {w:Int} {Z:Int->BA->Prop} {F:Int->Prop} {n:Nat} {D a:Nat} {t:Aa} {vs:List Int} {s:Es} {x:Ex}
theorem qTi(A:AI N L env w Z F n)(l:Cnd n s)(f:3*n<=D)(g:a<=64)(u:tE Z F t)(r:t.2.2.2.1.length=vs.length)(y:∀v∈vs,VB v){j k:Nat}(b:x.2.2.2.2=[(j:Int),(k:Int)])(M:j<t.2.2.2.2.length)(R:k<t.2.2.2.2.length):
  qN a (bE (ev (lA L env w) n a t vs (nU x 0) s) fun p s=>bE (ev (lA L env w) n a t vs (nU x 1) s) fun q s=>(s,arP x.2.2.1 p q)) (GB N (D+1) (dR (eZ L) env w (lV s a)) (t.1,t.2,vs) x):=by
 have E:nU x 0=(j:Int):=by unfold nU;rw[b];rfl
 have G:nU x 1=(k:Int):=by unfold nU;rw[b];rfl
 have e:bS x.2.2.2.2 0=some (j:Int):=by rw[b];rfl
 have z:bS x.2.2.2.2 1=some (k:Int):=by rw[b];rfl
 rw[E,G]
 have H:=A D a t vs j s l f g u r y aa aa
 have c:=Gr.ev (lA L env w) n a t vs j s
 revert H c
 generalize ev (lA L env w) n a t vs j s=o
 obtain⟨s1,er|p⟩:=o
 .rintro⟨a',h⟩ _;exact⟨a',qPv e h⟩
 rintro⟨h,S⟩ c
 have K:=A D a t vs k s1 (l.gr c) f g u r y aa aa
 simp only[bE]
 revert K
 generalize ev (lA L env w) n a t vs k s1=o
 obtain⟨s2,er|q⟩:=o
 .rintro⟨a',d⟩;exact⟨a',qQu e z h d⟩
 rintro⟨d,B⟩
 rw[qTv e z h d]
 exact qUn B a s2
theorem qRv{m:nE}{W:AA}{c:JI}{a:Int}{z:Int×nE}(d:bS x.2.2.2.2 0=some a)(b:GN N D (dR W env w m) c a=some (.inl z)):GI N (D+1) (dR W env w m) c x=some (.inl z):=by
 show AZ N (GN N D) (GE N D) (GC N D) (GB N D) (GI N D) (GR N D) (dR W env w m) c x=_
 unfold AZ
 rw[d,j0,show GN N D _ _ a=some (.inl z) from b];rfl
theorem qEr{m d:nE}{W:AA}{c:JI}{b j p:Int}{o:pP}(k:bS x.2.2.2.2 0=some b)(a:bS x.2.2.2.2 (if p=0 then 2 else 1)=some j)(h:GN N D (dR W env w m) c b=some (.inr (d,p)))(e:GN N D (dR W env w d) c j=some o):
  GI N (D+1) (dR W env w m) c x=some o:=by
 show AZ N (GN N D) (GE N D) (GC N D) (GB N D) (GI N D) (GR N D) (dR W env w m) c x=_
 unfold AZ
 obtain⟨f,s1,g,l⟩:=d
 rw[k,j0,show GN N D _ _ b=some (.inr ((f,s1,g,l),p)) from h,j0]
 dsimp only
 by_cases hp:p=0
 .rw[if_pos hp] at a
  rw[if_neg (by simpa using hp),a,j0,show GN N D _ _ j=some o from e]
  cases o<;>rfl
 rw[if_neg hp] at a
 rw[if_pos (by simpa using hp),a,j0,show GN N D _ _ j=some o from e]
 cases o<;>rfl
theorem qTt(G:AI N L env w Z F n)(r:Cnd n s)(f:3*n<=D)(g:a<=64)(B:tE Z F t)(z:t.2.2.2.1.length=vs.length)(E:∀v∈vs,VB v){j k l:Nat}(d:x.2.2.2.2=[(j:Int),(k:Int),(l:Int)])(V:j<t.2.2.2.2.length)(K:k<t.2.2.2.2.length)(A:l<t.2.2.2.2.length):
  qN a (bE (ev (lA L env w) n a t vs (nU x 0) s) fun p s=>ev (lA L env w) n a t vs (nU x (if p=0 then 2 else 1)) s) (GI N (D+1) (dR (eZ L) env w (lV s a)) (t.1,t.2,vs) x):=by
 have R:nU x 0=(j:Int):=by unfold nU;rw[d];rfl
 have e:bS x.2.2.2.2 0=some (j:Int):=by rw[d];rfl
 rw[R]
 have S:=G D a t vs j s r f g B z E aa aa
 have b:=Gr.ev (lA L env w) n a t vs j s
 revert S b
 generalize ev (lA L env w) n a t vs j s=o
 obtain⟨s1,er|p⟩:=o
 .rintro⟨a',h⟩ _;exact⟨a',qRv e h⟩
 rintro⟨h,Y⟩ b
 simp only[bE]
 have u:∃y:Nat,nU x (if p=0 then 2 else 1)=(y:Int)/\bS x.2.2.2.2 (if p=0 then 2 else 1)=some (y:Int)/\y<t.2.2.2.2.length:=by
  unfold nU
  rw[d]
  split
  .exact⟨l,rfl,rfl,A⟩
  exact⟨k,rfl,rfl,K⟩
 obtain⟨y,y1,H,y3⟩:=u
 rw[y1]
 have U:=G D a t vs y s1 (r.gr b) f g B z E aa aa
 revert U
 generalize ev (lA L env w) n a t vs y s1=o
 obtain⟨s2,er|q⟩:=o
 .rintro⟨a',c⟩;exact⟨a',qEr e H h c⟩
 rintro⟨c,M⟩;exact⟨qEr e H h c,M⟩
theorem qUa{v:Int}:Int.tmod (IntKind.wrap .i64 ((Int.tmod v 256)+256)) 256=v%256:=by
 have e: -256<Int.tmod v 256/\Int.tmod v 256<256:=by
  constructor
  .have:=Int.lt_tmod_of_pos v (show(0:Int)<256 by decide);omega
  exact Int.tmod_lt_of_pos v ac
 rw[bZ aa aa]
 have c:Int.tmod (Int.tmod v 256+256) 256=(Int.tmod v 256+256)%256:=Int.tmod_eq_emod_of_nonneg aa
 rw[c]
 have d:=Int.tmod_eq_emod (a:=v) (b:=256)
 rw[d]
 split<;>omega
theorem qEq(i m:Int):(if decide (i<0)then some true else some (decide (i>=m)):Option Bool)=some (!decide (0<=i/\i<m)):=by
 by_cases h:i<0
 .rw[if_pos (jM h),jR aa];rfl
 rw[if_neg (by simpa using h)]
 by_cases g:i<m
 .rw[jM (show 0<=i/\i<m by omega),jR aa];rfl
 rw[jR (show ¬(0<=i/\i<m) by omega),jM aa];rfl
theorem qQy(H:Wrl N L env Z F)(K:AI N L env w Z F n)(U:Cnd n s)(S:3*n<=D)(B:a<=64)(ht:tE Z F t)(Y:t.2.2.2.1.length=vs.length)(z:∀v∈vs,VB v){j:Nat}(E:x.2.2.2.2=[(j:Int)])(hj:j<t.2.2.2.2.length):
  qN a (bE (mA s (nR L x.2.2.2.1).1,(nR L x.2.2.2.1).2) fun u s=>bE (ev (lA L env w) n a t vs (nU x 0) s) fun i s=>
   match u with
   | .inl b=>if 0<=i/\i<b.size then(s,.inr ((b.data.toList.getD i.toNat 0).toNat:Int)) else(s,.inl 3)
   | .inr u=>if i=0 then bE (oJ (ev (lA L env w) n) a u [] s) fun v s=>(s,.inr (v%256)) else(s,.inl 3)) (GR N (D+2) (dR (eZ L) env w (lV s a)) (t.1,t.2,vs) x):=by
 show qN a _ (KW N (GN N (D+1)) (GE N (D+1)) (GC N (D+1)) (GB N (D+1)) (GI N (D+1)) (GR N (D+1)) (dR (eZ L) env w (lV s a)) (t.1,t.2,vs) x)
 unfold KW
 have o0:nU x 0=(j:Int):=by unfold nU;rw[E];rfl
 have G:bS x.2.2.2.2 0=some (j:Int):=by rw[E];rfl
 rw[show vM N _ _=_ from TP (w:=w) H x.2.2.2.1 s a,j0,TM,o0]
 have d:=U.gr (Gr.see s (nR L x.2.2.2.1).1)
 have l:=K (D+1) a t vs j _ d aa B ht Y z aa aa
 have c:=Gr.ev (lA L env w) n a t vs j (mA s (nR L x.2.2.2.1).1)
 rcases RG H x.2.2.2.1 with ⟨b,hb,f,g⟩|⟨ks,e,V,f,g⟩|⟨q,ks,f,g⟩
 .rw[f] at l c d ⊢
  rw[g]
  rw[show(bif decide ((false,qL,b,(0:Int)).2.2.2≠0) then(.inl (false,qL,b,(0:Int)).2.2.2:Int⊕Unit) else .inr ())= .inr () from rfl,j0]
  simp only[bE,j9,jC,j0,G]
  revert l c
  generalize ev (lA L env w) n a t vs j _=o
  obtain⟨s1,er|i⟩:=o
  .rintro _ ⟨a',h⟩
   rw[show GN N (D+1) _ _ (j:Int)=_ from h]
   exact⟨a',rfl⟩
  rintro c ⟨h,hp⟩
  rw[show GN N (D+1) _ _ (j:Int)=_ from h]
  simp only[j0]
  rw[qEq,j0,uL,j0]
  by_cases hi:0<=i/\i<b.size
  .rw[if_pos hi,jM hi]
   obtain⟨k,rfl⟩:∃k:Nat,i=(k:Int):=⟨i.toNat,by omega⟩
   have p:k<b.data.toList.length:=by have:=hi.2;simp only[ByteArray.size] at this;simp only[Array.length_toList];omega
   show qN a _ ((iC b (k:Int)).bind fun y=>some (Sum.inr (lV s1 a,IntKind.wrap .i64 (y.toNat:Int))))
   have r:(b.data.toList[k]).toNat<256:=UInt8.toNat_lt _
   rw[nI p,j0,bZ aa aa,kD,jU,List.getElem?_eq_getElem p,Option.getD_some]
   exact⟨rfl,by unfold VB;omega⟩
  rw[if_neg hi,jR hi]
  exact⟨_,rfl⟩
 .rw[f,g,jM V]
  exact⟨_,rfl⟩
 rw[f] at l c d ⊢
 rw[g]
 obtain⟨M,A,R⟩:=DG H q
 have y:(lX L (cG L 3 eY x.2.2.2.1)).2.2.2.1=[]:=A.1.2.2.2 (by rw[R];decide)
 rw[show(bif decide ((true,cG L 3 eY x.2.2.2.1,eY,(0:Int)).2.2.2≠0) then(.inl (true,cG L 3 eY x.2.2.2.1,eY,(0:Int)).2.2.2:Int⊕Unit) else .inr ())= .inr () from rfl,j0]
 simp only[bE,jE,j0,G]
 revert l c
 generalize ev (lA L env w) n a t vs j _=o
 obtain⟨s1,er|i⟩:=o
 .rintro _ ⟨a',h⟩
  rw[show GN N (D+1) _ _ (j:Int)=_ from h]
  exact⟨a',rfl⟩
 rintro c ⟨h,hp⟩
 rw[show GN N (D+1) _ _ (j:Int)=_ from h]
 simp only[j0]
 rw[qEq,j0,uL,j0]
 by_cases hi:i=0
 .subst hi
  have r:=SE K (a:=a) (d.gr c) S B M A (vs:=[]) (by rw[y];rfl) (fun v z=>by cases z)
  rw[if_pos rfl,jM (show(0:Int)<=0/\(0:Int)<1 by decide)]
  simp only[kI,cond_false,j9,jC]
  revert r
  generalize oJ (ev (lA L env w) n) a (lX L (cG L 3 eY x.2.2.2.1)) [] s1=o2
  obtain⟨s2,er|v⟩:=o2
  .rintro⟨a',p⟩
   rw[show GE N (D+1) _ _ []=_ from p]
   exact⟨a',rfl⟩
  rintro⟨p,h5⟩
  rw[show GE N (D+1) _ _ []=_ from p]
  simp only[j0,qUa]
  exact⟨rfl,by unfold VB;omega⟩
 rw[if_neg hi,jR (show ¬(0<=i/\i<1) by omega)]
 exact⟨_,rfl⟩
theorem qFn(H:Wrl N L env Z F):∀n,AI N L env w Z F n
 |0,_,_,_,_,_,s,r,_,_,_,_,_,_,_=>by have:=r.1;have:=r.2;omega
 |n+1,D,a,t,vs,i,s,r,Y,A,u,B,z,V,hi=>by
  have E:=qFn H n
  obtain⟨D,rfl⟩:∃D',D=D'+3:=⟨D-3,by omega⟩
  have hD':3*n<=D:=by omega
  unfold ev
  by_cases hs:s.2.1=20000
  .rw[if_pos hs]
   exact⟨(a:Int),qPj (t:=lV s a) (by show((s.2.1:Nat):Int)=20000;omega)⟩
  rw[if_neg hs]
  have hs':(lV s a).2.1≠20000:=by show((s.2.1:Nat):Int)≠20000;omega
  obtain⟨k,rfl⟩:∃k:Nat,i=(k:Int):=⟨i.toNat,by omega⟩
  have M:k<t.2.2.2.2.length:=by omega
  rw[kD,List.getElem?_eq_getElem M]
  dsimp only
  have g:bS ((t.1,t.2,vs):JI).2.1.2.2.2 (k:Int)=some t.2.2.2.2[k]:=eR M
  have G:=u.1.1.1 k _ (List.getElem?_eq_getElem M)
  generalize t.2.2.2.2[k]=x at g G
  have d:up (lV s a)=lV (s.1,s.2.1+1,s.2.2) a:=by
   show(nW s.1,IntKind.wrap .i64 ((s.2.1:Int)+1),(a:Int),s.2.2)=(nW s.1,((s.2.1+1:Nat):Int),(a:Int),s.2.2)
   have:=r.1
   rw[bZ aa aa];rfl
  have q:Cnd n (s.1,s.2.1+1,s.2.2):=⟨by have:=r.1;show s.2.1+1<=20000;omega,by have:=r.2;show 20000<s.2.1+1+n;omega⟩
  have o:∀j:Nat,j<k->j<t.2.2.2.2.length:=fun j R=>by omega
  unfold uZ
  rcases G with ⟨b,e,h⟩|⟨b,e,h⟩|⟨b,-,e,h⟩|⟨b,j,l,e,h,K⟩|⟨b,j,l,m,e,h,K,U⟩|⟨b,-,j,e,h⟩|⟨b,-⟩|⟨b,e,h,-⟩
  .rw[if_pos b,qQs hs' g b,d]
   exact⟨rfl,by unfold VB;omega⟩
  .obtain⟨p,S⟩:∃p:Nat,x.2.1=(p:Int):=⟨x.2.1.toNat,by omega⟩
   have y:p<vs.length:=by omega
   rw[if_neg aa,if_pos b,qPo hs' g b (v:=vs[p]) (by rw[S];exact eR y),d,S,kD,jU,List.getElem?_eq_getElem y]
   exact⟨rfl,z _ (jT y)⟩
  .rw[if_neg aa,if_neg aa,if_pos b,qNv hs' g b,d,show(lA L env w).cl t.1 x.2.2.2.1=_ from if_neg (by have:=u.2.1;omega)]
   exact qQf H E q hD' A u B z e fun j R=>by have:=h j R;omega
  .rw[if_neg aa,if_neg aa,if_neg aa,if_pos b,qQb hs' g b,d]
   exact qTi E q aa A u B z e (o _ h) (o _ K)
  .rw[if_neg aa,if_neg aa,if_neg aa,if_neg aa,if_pos b,qRq hs' g b,d]
   exact qTt E q aa A u B z e (o _ h) (o _ K) (o _ U)
  .rw[if_neg aa,if_neg aa,if_neg aa,if_neg aa,if_neg aa,if_pos b]
   rw[uM (f:=55) hs' g (by rw[b];rfl) rfl,d]
   exact qQy H E q hD' A u B z e (o _ h)
  .rcases b with b|b|b
   .rw[if_neg aa,if_neg aa,if_neg aa,if_neg aa,if_neg aa,if_neg aa,if_pos b]
    rw[uM (f:=56) hs' g (by rw[b];rfl) rfl,d]
    exact qTb (c:=(t.1,t.2,vs)) H
   .rw[if_neg aa,if_neg aa,if_neg aa,if_neg aa,if_neg aa,if_neg aa,if_neg aa,if_pos b]
    rw[uM (f:=57) hs' g (by rw[b];rfl) rfl,d]
    exact qUh (c:=(t.1,t.2,vs)) H
   rw[if_neg aa,if_neg aa,if_neg aa,if_neg aa,if_neg aa,if_neg aa,if_neg aa,if_neg aa,if_pos b]
   rw[uM (f:=58) hs' g (by rw[b];rfl) rfl,d]
   exact qUe (c:=(t.1,t.2,vs)) H
  rw[if_neg aa,if_neg aa,if_neg aa,if_neg aa,if_neg aa,if_neg aa,if_neg aa,if_neg aa,if_neg aa]
  rw[uM (f:=59) hs' g (by rw[b];rfl) rfl,d]
  exact qRl (N:=N) (c:=(t.1,t.2,vs)) e
end
abbrev IR:Ky->Ky->Int:=rQ tV (rQ pN pN)
theorem cmpKy_lin:Lin IR:=NI qCr (NI NQ NQ)
def xW(o:EB):List Ky:=xP (ltOf IR) ((Option.getD o []).map (·.1))
theorem qOc{l k:List Ky}(h:l.Perm k):xP (ltOf IR) l=xP (ltOf IR) k:=
 RA (r:=fun x y=>ltOf IR y x=false) (fun x y a b=>cmpKy_lin.total x y b a) ((CP l).trans (h.trans (CP k).symm)) (MQ cmpKy_lin l) (MQ cmpKy_lin k)
theorem qEy{N:Nat}:∀(k:List (Ky×Bool)) (acc:List Ky),acc.length+k.length<1000000->lM (FN N) k acc=some (acc++k.map (·.1))
 |[],acc,_=>by simp[lM,FN]
 |x::k,acc,h=>by
  simp only[jA] at h
  simp only[lM,FN]
  rw[show eM 40 acc [(x.1.1,x.1.2.1,x.1.2.2)]=some (acc++[x.1]) from iS ag aa]
  simp only[j0]
  rw[qEy k (acc++[x.1]) aj]
  simp
def DZ(o:Eo Int):Int×Int×Int:=match o.2 with
 | .inr v=>if v=0 then(2,0,0) else(1,v,0)
 | .inl e=>(3,0,e)
theorem qSm{N:Nat}{m:OS}{E:JC}{args:List Int}{o:Eo Int}{a:Nat}(p:40<N)(h:qN a o (BM N m E args))(r:(Option.getD (nW o.1.1) []).length<1000000):
  ∃t,yQ N m E args=some (t,(DZ o,o.1.2.2,xW (nW o.1.1),(o.1.2.1:Int))):=by
 have key:∀(q:pP),(AC q).1=nW o.1.1->(AC q).2.1=(o.1.2.1:Int)->(AC q).2.2.2=o.1.2.2->(OT q,OR q,OV q)=DZ o->BM N m E args=some q->∃t,yQ N m E args=some (t,(DZ o,o.1.2.2,xW (nW o.1.1),(o.1.2.1:Int))):=fun q c d f g l=>by
  refine⟨AC q,?_⟩
  unfold yQ
  rw[show FO N _ _ _=_ from qOv l,j0]
  dsimp only
  rw[c,d,f,g]
  rw[show JX (nW o.1.1)=some () from rfl,j0]
  refine qNa fun k b=> ?_
  rw[qEy k [] (by rw[jB,b.length_eq];omega),jW,j0]
  have n:yJ N (k.map (·.1))=some (xW (nW o.1.1)):=by
   unfold yJ
   rw[if_pos ⟨by omega,by rw[gJ,b.length_eq];omega⟩]
   unfold xW
   exact congrArg some (qOc (b.map _))
  rw[n];rfl
 obtain⟨s,e|v⟩:=o
 .obtain⟨a',h⟩:=h
  exact key _ rfl rfl rfl rfl h
 obtain⟨h,-⟩:=h
 refine key _ rfl rfl rfl ?_ h
 show(if v=0 then 2 else 1,v,0)=DZ (s,.inr v)
 unfold DZ
 dsimp only
 split
 .rename_i h0;rw[h0]
 rfl
def uQ(L:List bM)(env:nG)(w:Int)(P T:BA):Eo Int:=oJ (ev (lA L env w) 20001) 0 (lX L (cG L 2 P T)) [] ([(2,P,T)],0,false)
def VG(o:Eo Int):(Int×Int×Int)×Bool×List Ky×Int:=(DZ o,o.1.2.2,xW (nW o.1.1),(o.1.2.1:Int))
theorem qDj:∀(ks:List Ky) (M:List (Ky×Bool)),(M.map (·.1)).Nodup->((ks.foldl (fun M k=>mset M k true) M).map (·.1)).Nodup/\(ks.foldl (fun M k=>mset M k true) M).length<=M.length+ks.length
 |[],M,h=>⟨h,jP _⟩
 |k::ks,M,h=>by
  rw[kC,jA]
  have c:=qPs h k true
  obtain⟨a,b⟩:=qDj ks (mset M k true) (RB h k true)
  exact⟨a,by omega⟩
def Qk(s:Es):Prop:=s.1.length<=10*s.2.1+1
theorem Qk.bE{α β:Type}{o:Eo α}{k:α->Es->Eo β}(h:Qk o.1)(a:∀v u,Qk u->Qk (k v u).1):Qk (bE o k).1:=by
 obtain⟨u,e|v⟩:=o
 .exact h
 exact a v u h
def QkF(F:tY):Prop:=∀a c vs i s,Qk s->Qk (F a c vs i s).1
theorem Qk.seq{F:Int->Es->Eo Int}(h:∀i s,Qk s->Qk (F i s).1):∀(l:List Int) (s:Es),Qk s->Qk (rT F l s).1
 |[],_,a=>a
 |i::l,s,a=>(h i s a).bE fun _ u b=>(Qk.seq h l u b).bE fun _ _ b=>b
theorem Qk.enter{F:tY}(h:QkF F)(a:Nat)(t:Aa)(vs:List Int)(s:Es)(b:Qk s):Qk (oJ F a t vs s).1:=by
 unfold oJ
 split
 .exact b
 exact h _ _ _ _ _ b
theorem JB{s:Es}{l:List Ky}(h:s.1.length+9<=10*s.2.1+1)(a:l.length<=9):Qk (mA s l):=by
 show(s.1++l).length<=10*s.2.1+1
 rw[jF];omega
theorem Qk.node{I:Lk}{F:tY}(k:(∀f nm,(I.cl f nm).1.length<=9)/\∀p,(I.dt p).1.length<=9)(h:QkF F)(a:Nat)(c:Aa)(vs:List Int)(x:Ex)(s:Es)(e:s.1.length+9<=10*s.2.1+1):Qk (uZ I F a c vs x s).1:=by
 have g:Qk s:=by unfold Qk;omega
 unfold uZ
 split
 .exact g
 split
 .exact g
 split
 .refine Qk.bE (o:=(mA s _,_)) (JB e (k.1 ..)) fun t u d=>(Qk.seq (fun i s e=>h _ _ _ _ _ e) _ u d).bE fun us u d=> ?_
  split
  .exact .enter h _ _ _ _ d
  exact d
 split
 .exact(h _ _ _ _ _ g).bE fun _ u d=>(h _ _ _ _ _ d).bE fun _ u d=>d
 split
 .exact(h _ _ _ _ _ g).bE fun _ u d=>h _ _ _ _ _ d
 split
 .refine Qk.bE (o:=(mA s _,_)) (JB e (k.2 ..)) fun t u d=>(h _ _ _ _ _ d).bE fun i u d=> ?_
  cases t with
  |inl b=>dsimp only;split<;>exact d
  |inr t=>
   dsimp only
   split
   .exact(Qk.enter h _ _ _ _ d).bE fun _ u d=>d
   exact d
 split
 .exact Qk.bE (o:=(mA s _,_)) (JB e (k.2 ..)) fun _ u d=>d
 split
 .exact JB e (k.2 ..)
 split
 .exact JB e (by show 1<=9;decide)
 exact g
theorem Qk.ev{I:Lk}(d:(∀f nm,(I.cl f nm).1.length<=9)/\∀p,(I.dt p).1.length<=9):∀n,QkF (ev I n)
 |0,_,_,_,_,_,b=>b
 |n+1,a,c,vs,i,s,b=>by
  unfold Go.Proofs.YtleaknfdlaokiaaGreatDoor.ev
  split
  .exact b
  split
  .exact b
  exact .node d (Qk.ev d n) _ _ _ _ _ (by unfold Qk at b;show s.1.length+9<=10*(s.2.1+1)+1;omega)
theorem qRm(L:List bM)(env:nG)(w:Int):(∀f nm,((lA L env w).cl f nm).1.length<=9)/\∀p,((lA L env w).dt p).1.length<=9:=by
 refine⟨fun f nm=> ?_,fun p=> ?_⟩
 .show(if 8<f.2.1.length then([],.inl 0) else uV L _:List Ky×(Int⊕Aa)).1.length<=9
  split
  .exact kG _
  have:=(NL (E:=fun p=>cG L 1 p nm) (nm:=nm) (fun p=>CT L 1 p _) (f.1::f.2.1) []).2
  simp only[jA,jB] at this
  show(mZ (fun p=>cG L 1 p nm) nm (f.1::f.2.1) []).2.1.length<=9
  omega
 show(nR L p).1.length<=9
 unfold nR
 split
 .show 1<=9;decide
 show 2<=9;decide
theorem qAp(L:List bM)(env:nG)(w:Int)(P T:BA):(Option.getD (nW (uQ L env w P T).1.1) []).length<1000000:=by
 have a:Qk (uQ L env w P T).1:=Qk.enter (Qk.ev (qRm L env w) 20001) _ _ _ _ (by show 1<=10*0+1;decide)
 have b:(uQ L env w P T).1.2.1<=20000:=(Gr.enter (Gr.ev (lA L env w) 20001) 0 (lX L (cG L 2 P T)) [] ([(2,P,T)],0,false)).2.2.1 (kG _)
 have:=(qDj (uQ L env w P T).1.1 [] List.nodup_nil).2
 unfold Qk at a
 show((uQ L env w P T).1.1.foldl (fun M k=>mset M k true) []).length<1000000
 simp only[jB] at this
 omega
theorem qPq{o:EB}(h:(Option.getD o []).length<1000000):(xW o).length<1000000:=by
 unfold xW
 rw[(CP _).length_eq,gJ];exact h
section
variable {N:Nat} {L:List bM} {env:nG} {w:Int} {Z:Int->BA->Prop} {F:Int->Prop}
theorem qEs(H:Wrl N L env Z F)(B:xK N L)(A:AX N env=some true){P T:BA}(h:(cG L 2 P T).2.2.2.2.2=1):
  xI N L env w (P,T)=some (VG (uQ L env w P T),0):=by
 have U:=H.hN
 obtain⟨M,rfl⟩:∃M,N=M+70000:=⟨N-70000,by omega⟩
 obtain⟨y,g,z⟩:=DG H h
 have f:(lX L (cG L 2 P T)).2.2.2.1=[]:=g.1.2.2.2 (by rw[z];decide)
 unfold xI
 have eW:(eZ L).2.1=true:=by unfold eZ;rw[if_pos H.hc]
 rw[qUk B aa,j0,if_neg (by rw[eW];decide),A]
 simp only[j0]
 rw[if_neg ac,show vQ (M+70000) _ 2 P T=_ from NO 2 P T,j0,if_neg (by rw[h];decide)]
 have G:∀{α:Type} (K:Option (List (Int×Option Nat))->Option α),((eA (some []:Option (List (Int×Option Nat))) 1 (some 50:Option Nat)).bind fun k=>(eA k 2 (some 51:Option Nat)).bind fun l=>(eA l 3 (some 52:Option Nat)).bind fun n=>(eA n 4 (some 53:Option Nat)).bind fun o=>(eA o 5 (some 54:Option Nat)).bind fun p=>(eA p 6 (some 55:Option Nat)).bind fun q=>(eA q 7 (some 56:Option Nat)).bind fun r=>(eA r 8 (some 57:Option Nat)).bind fun u=>(eA u 9 (some 58:Option Nat)).bind fun x=>(eA x 10 (some 59:Option Nat)).bind K)=K ndC:=fun K=>by rfl
 rw[G]
 have b:pT (M+70000) (dR (eZ L) env w (some [],0,0,false)) [(2,P,T)]=some (lV ([(2,P,T)],0,false) 0):=IA (N:=M+70000) (W:=eZ L) (env:=env) (w:=w) (s:=([],0,false)) (a:=0) (ks:=[(2,P,T)]) (by show 1<1000000;decide) (by show 1<M+70000;omega)
 rw[show pT (M+70000) _ [(2,P,T)]=_ from b,j0]
 have c:=SE (qFn (w:=w) H 20001) (D:=M+69999) (a:=0) (s:=([(2,P,T)],0,false)) (e:=cG L 2 P T) (vs:=[]) ⟨kG _,by show 20000<0+20001;decide⟩ aa ac y g (by rw[f];rfl) (fun v S=>by cases S)
 have d:=qAp L env w P T
 obtain⟨t,R⟩:=qSm (N:=M+70000) (m:=dR (eZ L) env w (lV ([(2,P,T)],0,false) 0)) (E:=cG L 2 P T) (args:=[]) aa c d
 rw[show yQ (M+70000) _ _ []=_ from R]
 rfl
end
abbrev Rn:=(Int×Int×Int)×Bool×List Ky×Int
theorem qOk{N:Nat}{r:Rn}(b:r.2.2.1.length<1000000)(a:r.2.2.1.length<N):FT N r r=some true:=by
 unfold FT
 rw[if_neg ae,if_neg ae,if_neg ae]
 simp only[fU,j0,j9,jC]
 have:=DF (f:=BC N r r) (fun i=>(i:Int)) r.2.2.1.length (.inl ()) (fun i hi=>by
  simp only[BC]
  rw[if_pos (by simpa using hi),eR hi,j0,j0,if_neg ae,bZ aa aa];rfl) (by simp only[BC];rw[if_neg ae]) a
 rw[show aK (BC N r r) N 0=_ from this];rfl
def wP(x y:dQ):Bool:=(BV 0 x y).getD false
theorem qNp{N:Nat}(x y:dQ):BV N x y=some (wP x y):=by
 show BV 0 x y=_
 unfold wP BV
 split
 .rfl
 split
 .rfl
 split
 .rfl
 split<;>rfl
theorem qVg(x y:dQ):((x.1.toList==y.1.toList)&&((x.2.1.toList==y.2.1.toList)&&((x.2.2.1==y.2.2.1)&&((x.2.2.2.1.toList==y.2.2.2.1.toList)&&((x.2.2.2.2.1==y.2.2.2.2.1)&&((x.2.2.2.2.2==y.2.2.2.2.2)&&true))))))=decide (x=y):=by
 obtain⟨a,b,c,d,e,f⟩:=x
 obtain⟨a',b',c',d',e',f'⟩:=y
 rw[jY]
 simp only[oY,jJ,j6,kF,and_true,Prod.mk.injEq]
theorem qRo{N:Nat}{s2:List dQ×Int}{y:dQ}(d:s2.1.length<1000000)(c:s2.1.length<N):aK (yK N s2 y) N 0=some ((rR wP y s2.1:Nat):Int):=by
 have a:=ZU (b:=wP) (e:=y) (L:=s2.1) (f:=yK N s2 y) d (by
  intro i hi
  simp only[yK]
  rw[if_pos ad,eR hi]
  have w:IntKind.wrap .i64 ((i:Int)+1)=((i+1:Nat):Int):=by rw[bZ aa aa];omega
  simp only[j0,w,qNp]
  split<;>rfl) (by
  simp only[yK]
  rw[if_neg ae]
  rfl) s2.1.length 0 N aa c
 rw[jS,kW] at a
 exact a
theorem qOj{N:Nat}{out:List dQ}{i:Int}{y:dQ}(d:out.length<1000000)(l:out.length<N):
  ((aK (yK N (out,i) y) N 0).bind fun o4=>(if(decide (o4<((List.length out):Int)))then((bS out o4).bind fun a=>some ((a.1.toList==y.1.toList)&&((a.2.1.toList==y.2.1.toList)&&((a.2.2.1==y.2.2.1)&&((a.2.2.2.1.toList==y.2.2.2.1.toList)&&((a.2.2.2.2.1==y.2.2.2.2.1)&&((a.2.2.2.2.2==y.2.2.2.2.2)&&true))))))) else(some false):Option (Bool)).bind fun n=>if n then(some out) else((eM 72 out ([y])).bind fun c=>(rS c (IntKind.wrap .i64 (o4+1)) (List.length c:Int)).bind fun _=>(rS c o4 (List.length c:Int)).bind fun _=>(wK c (IntKind.wrap .i64 (o4+1)) o4).bind fun h=>(bS h o4).bind fun _=>some (List.set h (Int.toNat o4) y)):Option (List dQ))=some (tT wP y out):=by
 rw[qRo (s2:=(out,i)) d l,qBz]
 have f:=qCy (b:=wP) (e:=y) out
 show((some ((rR wP y out:Nat):Int)).bind _)=_
 generalize rR wP y out=k at f
 simp only[j0,qVg]
 by_cases hc:(k:Int)<(out.length:Int)
 .have hi:k<out.length:=by omega
  rw[if_pos (by simpa using hi),eR hi]
  simp only[j0,List.getElem?_eq_getElem hi,jG,j6]
  by_cases he:out[k]=y
  .rw[if_pos he,if_pos he]
  rw[if_neg he,if_neg he]
  exact qCz f ac ac d
 rw[if_neg (by simpa using hc)]
 simp only[j0,j9,jC]
 rw[if_neg (by rw[List.getElem?_eq_none aa];intro g;cases g)]
 exact qCz f ac ac d
def qD(O:List mU)(pkg:BA)(out:List dQ)(d:Dl):List dQ:=tT wP (lW O d.1 pkg d.2.1) out
theorem qEd{N:Nat}{l:List (BA×Sr)}{x:Sr}{acc:List dQ}(n:l.length<=64)(k:∀x∈l,x.2.2.2.length<=64)(p:x.2.2.length<=64)(o:1000000<N)(g:acc.length<=100000):
  aK (AW N (l.map (·.1),l.map (·.2)) x) N (acc,0)=some (x.2.2.foldl (qD (iF l) x.1) acc)/\(x.2.2.foldl (qD (iF l) x.1) acc).length<=acc.length+64:=by
 have a:∀(ds:List Dl) (t:List dQ),(ds.foldl (qD (iF l) x.1) t).length<=t.length+ds.length:=by
  intro ds
  induction ds with
  |nil=>intro t;exact jP _
  |cons d ds b=>
   intro t
   have e:=b (qD (iF l) x.1 t d)
   have c:(qD (iF l) x.1 t d).length<=t.length+1:=NP
   simp only[kC,jA];omega
 refine⟨?_,by have:=a x.2.2 acc;omega⟩
 have h:=yX (L:=x.2.2) (fun(t:List dQ) (i:Nat)=>(t,(i:Int))) (f:=AW N (l.map (·.1),l.map (·.2)) x)
  (fun t d=> .inl (qD (iF l) x.1 t d)) (fun t=>t) (fun i t=>t.length<=acc.length+i) (by
   intro t i hi b
   simp only[AW]
   rw[if_pos ad,eR hi]
   have ew:IntKind.wrap .i64 ((i:Int)+1)=((i+1:Nat):Int):=by rw[bZ aa aa];omega
   have e:=qNn (N:=N) (l:=l) (x.2.2[i]).1 x.1 (x.2.2[i]).2.1 n k aa
   simp only[j0,ew]
   refine Eq.trans (congrArg (fun z=>Option.bind (Option.bind z _) _) e) ?_
   simp only[j0]
   refine Eq.trans (congrArg (fun z=>Option.bind z _) (qOj (i:=(i:Int)) (y:=lW (iF l) (x.2.2[i]).1 x.1 (x.2.2[i]).2.1) (show t.length<1000000 by omega) (show t.length<N by omega))) ?_
   rfl) (by
   intro t i hi t' b h
   cases h
   have c:(qD (iF l) x.1 t x.2.2[i]).length<=t.length+1:=NP
   omega) (by
   intro t b
   simp only[AW]
   rw[if_neg ae]) (M:=N) (t:=acc) aa (jP _)
 rw[show((0:Nat):Int)=0 from rfl] at h
 rw[h,zF (qD (iF l) x.1) (fun _ _=>rfl)]
def AllE(O:List mU)(l:List dQ):Prop:=∀e∈l,∃k p n,e=lW O k p n
theorem AllE.ins{O:List mU}{pkg:BA}:∀(ds:List Dl) (l:List dQ),AllE O l->AllE O (ds.foldl (qD O pkg) l)
 |[],_,h=>h
 |d::ds,l,h=>AllE.ins ds _ fun e a=>by
  rcases qBv.1 a with rfl|a
  .exact⟨_,_,_,rfl⟩
  exact h e a
theorem qJq{N:Nat}{L:List bM}(q:lK L=0)(s:1000005<N):∃E,LB N L=some E/\E.length<1000000/\AllE (iF (eS L)) E:=by
 simp only[LB,MS (show 100<N by omega),j0]
 rw[if_neg (by simp[q]),qMc s]
 obtain⟨b,a⟩:=qQl L
 rw[show xT L=eS L by unfold xT;rw[if_pos q]] at b a ⊢
 generalize eS L=l at b a
 simp only[j0]
 have h:=yX (L:=l) (fun(t:List dQ) (i:Nat)=>(t,(i:Int))) (f:=FF N (l.map (·.1),l.map (·.2)))
  (fun t x=> .inl (x.2.2.2.foldl (qD (iF l) x.2.1) t)) (fun t=>t) (fun i t=>t.length<=64*i) (by
   intro t i hi c
   simp only[FF]
   have n:i<(l.map (·.2)).length:=by simpa using hi
   rw[if_pos ad,eR n]
   have ew:IntKind.wrap .i64 ((i:Int)+1)=((i+1:Nat):Int):=by rw[bZ aa aa];omega
   simp only[j0,ew,dF]
   rw[(qEd (x:=(l[i]).2) (acc:=t) b a (a _ (jT hi)) aa aa).1]
   rfl) (by
   intro t i hi t' c h
   cases h
   have:=(qEd (N:=N) (x:=(l[i]).2) (acc:=t) b a (a _ (jT hi)) aa aa).2
   omega) (by
   intro t c
   simp only[FF]
   rw[if_neg ae]) (M:=N) (t:=[]) aa (kG _)
 rw[show((0:Nat):Int)=0 from rfl] at h
 rw[zF (fun t (x:BA×Sr)=>x.2.2.2.foldl (qD (iF l) x.2.1) t) (fun _ _=>rfl)] at h
 refine⟨_,congrArg (fun z=>Option.bind z _) h,?_⟩
 suffices g:∀(k:List (BA×Sr)) (t:List dQ),(∀x∈k,x.2.2.2.length<=64)->AllE (iF l) t->(k.foldl (fun t (x:BA×Sr)=>x.2.2.2.foldl (qD (iF l) x.2.1) t) t).length<=t.length+64*k.length/\AllE (iF l) (k.foldl (fun t (x:BA×Sr)=>x.2.2.2.foldl (qD (iF l) x.2.1) t) t) by
  obtain⟨p,c⟩:=g l [] a (fun e n=>by cases n)
  exact⟨by simp only[jB] at p;omega,c⟩
 intro k
 induction k with
 |nil=>exact fun t _ h=>⟨jP _,h⟩
 |cons x k o=>
  intro t r u
  have D:=r x (jL ..)
  obtain⟨p,c⟩:=o (x.2.2.2.foldl (qD (iF l) x.2.1) t) (fun y v=>r y (jO _ v)) (AllE.ins _ _ u)
  have n:∀(ds:List Dl) (t:List dQ),(ds.foldl (qD (iF l) x.2.1) t).length<=t.length+ds.length:=by
   intro ds
   induction ds with
   |nil=>intro t;exact jP _
   |cons d ds o=>
    intro t
    have A:=o (qD (iF l) x.2.1 t d)
    have B:(qD (iF l) x.2.1 t d).length<=t.length+1:=NP
    simp only[kC,jA];omega
  have:=n x.2.2.2 t
  rw[kC]
  exact⟨by simp only[jA];omega,c⟩
theorem YF{α β:Type}(p:α->Bool)(g:α->β):∀(L:List α) (acc:List β),L.foldl (fun t x=>if p x then t++[g x] else t) acc=acc++(L.filter p).map g
 |[],acc=>by simp
 |x::L,acc=>by
  rw[kC,YF p g L,kU]
  by_cases h:p x=true
  .rw[if_pos h,if_pos h];simp
  rw[if_neg h,if_neg h]
def xR(x:dQ):Bool:=x.2.2.1==2&&x.2.2.2.2.2==1
abbrev Nm:=BA×BA
theorem qMj{N:Nat}{E:List dQ}{f:List Nm×Int->Option ((List Nm×Int)⊕List Nm)}(g:E.length<1000000)(k:1000000<N)
  (c:∀s1:List Nm×Int,f s1=if(decide (s1.2<(List.length E:Int)))then(((bS E s1.2).bind fun a=>(if(a.2.2.1==2)then(some (a.2.2.2.2.2==1)) else(some false):Option (Bool)).bind fun e=>if e then((eM 32 s1.1 ([(a.1,a.2.1)])).bind fun d=>some d) else(some s1.1):Option ((List (BA×BA)))).bind fun o2=>some (.inl (o2,IntKind.wrap .i64 (s1.2+1)))) else(some (.inr s1.1))):
  aK f N ([],0)=some ((E.filter xR).map fun x=>(x.1,x.2.1)):=by
 have h:=yX (L:=E) (fun(t:List Nm) (i:Nat)=>(t,(i:Int))) (f:=f)
  (fun t x=> .inl (if xR x then t++[(x.1,x.2.1)] else t)) (fun t=>t) (fun i t=>t.length<=i) (by
   intro t i hi b
   rw[c]
   simp only
   rw[if_pos ad,eR hi]
   have ew:IntKind.wrap .i64 ((i:Int)+1)=((i+1:Nat):Int):=by rw[bZ aa aa];omega
   simp only[j0,ew]
   unfold xR
   by_cases h1:((E[i]).2.2.1==2)=true
   .rw[if_pos h1,h1]
    simp only[j0,dA]
    by_cases h2:((E[i]).2.2.2.2.2==1)=true
    .rw[if_pos h2,if_pos h2,iS ag aa]
     rfl
    rw[if_neg h2,if_neg h2];rfl
   .have h1':((E[i]).2.2.1==2)=false:=by simpa using h1
    rw[if_neg h1,h1']
    simp only[j0,Bool.false_and,j9,jC]) (by
   intro t i hi t' b h
   cases h
   split
   .simp only[jF,jA,jB];omega
   .omega) (by
   intro t b
   rw[c]
   simp only
   rw[if_neg ae]) (M:=N) (t:=[]) aa (kG _)
 rw[show((0:Nat):Int)=0 from rfl] at h
 rw[h,zF (fun t (x:dQ)=>if xR x then t++[(x.1,x.2.1)] else t) (fun _ _=>rfl),YF xR (fun x=>(x.1,x.2.1))]
 simp
theorem qKn{N:Nat}{L:List bM}(d:lK L=0)(r:1000005<N):∃T:List Nm,LT N L=some T/\T.length<1000000/\∀x∈T,(cG L 2 x.1 x.2).2.2.2.2.2=1:=by
 obtain⟨E,l,o,q⟩:=qJq d r
 refine⟨(E.filter xR).map fun x=>(x.1,x.2.1),?_,?_,?_⟩
 .unfold LT
  rw[l]
  simp only[j0]
  rw[qMj (f:=PI N E) o aa (fun _=>rfl)]
  rfl
 .rw[gJ]
  have:=fF xR E
  omega
 intro x t
 obtain⟨e,c,rfl⟩:=fE.1 t
 obtain⟨c,b⟩:=gP.1 c
 obtain⟨k,p,n,rfl⟩:=q e c
 obtain⟨g,h,a⟩:=qLy (iF (eS L)) k p n
 unfold xR at b
 simp only[jJ,kF] at b
 have s:k=2:=h▸b.1
 subst s
 rcases a with a|a
 .cases a
 unfold cG
 rw[if_pos d,g,a]
 exact b.2
end
section
open Go Go.Dc
def sc:Nat->List UInt8->Option Nat
 |s,[]=>some s
 |s,c::l=>if s=1/\c=122 then none else sc (if c=122 then 1 else 0) l
theorem UH:∀(x y:List UInt8) (p:Nat),sc p (x++y)=(sc p x).bind fun q=>sc q y
 |[],_,_=>rfl
 |c::x,y,p=>by
  show(if p=1/\c=122 then none else sc (if c=122 then 1 else 0) (x++y))=((if p=1/\c=122 then none else sc (if c=122 then 1 else 0) x:Option Nat)).bind fun q=>sc q y
  split
  .rfl
  exact UH x y _
def Wt(x:BA)(p q n:Nat):Prop:=x.size<=n/\∀p0,p0<=p->∃a,a<=q/\sc p0 x.data.toList=some a
section
variable {x y:BA} {p q r n m:Nat}
theorem Wt.mono(h:Wt x p q n)(a:n<=m):Wt x p q m:=⟨kX h.1 a,h.2⟩
theorem Wt.up(h:Wt x p 0 n):Wt x p 1 n:=⟨h.1,fun p0 a=>by
 obtain⟨c,d,b⟩:=h.2 p0 a
 exact⟨c,by omega,b⟩⟩
theorem Wt.app(a:Wt x p q n)(b:Wt y q r m):Wt (x++y) p r (n+m):=by
 have e:(x++y).data.toList=x.data.toList++y.data.toList:=by simp
 refine⟨by rw[ByteArray.size_append];exact Nat.add_le_add a.1 b.1,fun p0 c=> ?_⟩
 obtain⟨k,d,f⟩:=a.2 p0 c
 obtain⟨l,g,h⟩:=b.2 k d
 exact⟨l,g,by rw[e,UH,f];exact h⟩
def JG(p q:Nat)(l:List UInt8):Bool:=(List.range (p+1)).all fun p0=>match sc p0 l with|some r=>decide (r<=q)|none=>false
theorem IQ{l:List UInt8}(h:JG p q l=true):∀p0,p0<=p->∃a,a<=q/\sc p0 l=some a:=fun p0 b=>by
 have:=jN.1 h p0 (gV.2 aa)
 split at this
 .rename_i r hr;exact⟨r,kV this,hr⟩
 cases this
def litW(x:BA)(p q:Nat):Bool:=JG p q x.data.toList
theorem Wt.lit(k q:Nat)(h:litW x p q=true):Wt x p q (x.size+6*k):=⟨by omega,IQ h⟩
def EF(x:BA):Bool:=decide (x.size<=7)&&JG 1 0 x.data.toList
theorem Wt.neu(h:EF x=true):Wt x 1 0 7/\Wt x 0 0 7:=by
 unfold EF at h
 simp only[jJ,j6] at h
 exact⟨⟨h.1,IQ h.2⟩,⟨h.1,fun p0 a=>IQ h.2 p0 aa⟩⟩
end
section
variable {β:Type} {Q:β->Prop} {N:Nat} {l:List Int} {a:Int}
theorem Ok.catP{x y:BA}{f:BA->Option β}{p q r n m:Nat}(a:Wt x p q n)(b:Wt y q r m)(c:n+m<=1000000000)(h:∀s:BA,Wt s p r (n+m)->Ok (f s) Q):Ok ((dM x y).bind f) Q:=by
 have:=a.1
 have:=b.1
 unfold dM
 rw[if_pos (by simp only[maxLen];omega)]
 exact h _ (a.app b)
theorem Ok.catW{x y:BA}{f:BA->Option β}{q r n m:Nat}(b:Wt x 0 q n)(c:Wt y q r m)(a:n+m<=1000000000)(h:∀s:BA,Wt s 0 r (n+m)->Ok (f s) Q):Ok ((dM x y).bind f) Q:=Ok.catP b c a h
theorem Ok.oneW{L:List BA}{f:(List Int×Int)×BA->Option β}(c:0<=a)(d:a<4611686018427387904)(b:(decide (0<L.length)&&decide (L.length<1000)&&L.all EF)=true)(h:∀x:BA,Wt x 1 0 7->Wt x 0 0 7->Ok (f ((l,a+1),x)) Q):Ok ((mY N (l,a) L).bind f) Q:=by
 simp only[jJ,j6] at b
 exact Ok.one c d b.1.1 b.1.2 fun x e=>by
  have:=Wt.neu (jN.1 b.2 x e)
  exact h x this.1 this.2
theorem Ok.onePW{L:List BA}{f:(List Int×Int)×BA->Option β}(d:0<=a)(e:a<4611686018427387904)(g:decide ((List.length L:Int)>0)=true)(b:L.length<1000)(c:∀x∈L,Wt x 0 0 7)(h:∀x:BA,Wt x 0 0 7->Ok (f ((l,a+1),x)) Q):Ok ((mY N (l,a) L).bind f) Q:=
 Ok.one d e (by have:=kV g;omega) b fun x k=>h x (c x k)
def ON(k:Nat):List Int:=if k=2 then[0,1,63] else[0,1,2,3,10,255,9007199254740992,1073741824]
theorem qPz(M k:Nat)(a:k=2\/k=16):((ON k).all fun x=>match rZ (M+40) x with|some s=>decide (s.size<=k)&&JG 0 1 s.data.toList|none=>false)=true:=by
 rcases a with rfl|rfl
 .kernel_rfl
 kernel_rfl
theorem Ok.digitsW{x:Int}{k:Nat}{f:BA->Option β}(a:x∈ON k/\(k=2\/k=16))(b:100<N)(h:∀s:BA,Wt s 0 1 k->Ok (f s) Q):Ok ((rZ N x).bind f) Q:=by
 obtain⟨M,rfl⟩:∃M,N=M+40:=⟨N-40,by omega⟩
 have:=jN.1 (qPz M k a.2) x a.1
 split at this
 .rename_i s hs
  rw[hs]
  simp only[jJ,j6] at this
  exact h s ⟨this.1,IQ this.2⟩
 cases this
theorem Ok.pickN(k:Nat){L:List Int}{f:(List Int×Int)×Int->Option β}(c:0<=a)(d:a<4611686018427387904)(b:(decide (0<L.length)&&decide (L.length<1000)&&(L.all fun x=>decide (x∈ON k))&&decide (k=2\/k=16))=true)(h:∀x:Int,x∈ON k/\(k=2\/k=16)->Ok (f ((l,a+1),x)) Q):Ok ((uH N (l,a) L).bind f) Q:=by
 simp only[jJ,j6] at b
 exact Ok.pick c d b.1.1.1 b.1.1.2 fun x e=>h x ⟨kV (jN.1 b.1.2 x e),b.2⟩
end
def tG:Nat->Nat
 |0=>21
 |d+1=>3*tG d+24
theorem qEi:∀d,21<=tG d
 |0=>jP _
 |d+1=>by have:=qEi d;simp only[tG];omega
section
variable {N:Nat} {l:List Int}
def DT(N:Nat)(l:List Int)(E:(List Int×Int)->Int->List BA->Option ((List Int×Int)×BA))(d:Nat)(ps:List BA):Prop:=
 ∀a:Int,0<=a->a+pW d<2000000000000000000->Ok (E (l,a) (d:Int) ps) fun y=>∃a' s,y=((l,a'),s)/\a<=a'/\a'<=a+pW d/\Wt s 0 1 (tG d)
theorem Ok.exprW{β:Type}{Q:β->Prop}{E:(List Int×Int)->Int->List BA->Option ((List Int×Int)×BA)}{d:Nat}{ps:List BA}(n:DT N l E d ps){a:Int}{f:(List Int×Int)×BA->Option β}(g:0<=a)(k:a+pW d<2000000000000000000)
  (h:∀(a':Int) (s:BA),a<=a'->a'<=a+pW d->Wt s 0 1 (tG d)->Ok (f ((l,a'),s)) Q):Ok ((E (l,a) (d:Int) ps).bind f) Q:=
 Ok.bind (n a g k) fun y o=>by
  obtain⟨a',s,rfl,b,c,e⟩:=o
  exact h a' s b c e
theorem qAl(d:Nat)(a:d<=5):pW d<=10000/\tG d<=20000:=by
 match d,a with
 |0,_=>decide
 |1,_=>decide
 |2,_=>decide
 |3,_=>decide
 |4,_=>decide
 |5,_=>decide
theorem Ok.exprloopW{β:Type}{Q:β->Prop}{E:(List Int×Int)->Int->List BA->Option ((List Int×Int)×BA)}{d:Nat}{ps:List BA}(x:DT N l E d ps)(y:d<=5){p1:Int}(A:IntKind.wrap .i64 (p1-1)=(d:Int)){s:BA}{n a:Int}{f:BA×List Int×Int->Option β}{w:Nat}
  (H:n=0\/n=1) (q:0<=a) (r:a+pW d<2000000000000000000) (o:Wt s 0 1 w) (K:w<=100000000) (G:100<N) (h:∀(s':BA) (a':Int),a<=a'->a'<=a+pW d->Wt s' 0 1 (w+(tG d+2))->Ok (f (s',l,a')) Q):Ok ((aK (LP N E p1 ps) N (s,n,l,a)).bind f) Q:=by
 have F:=qAl d y
 refine Ok.loop (fun st=>∃s' n' a',st=(s',n',l,a')/\((n'=n/\a'=a/\s'=s)\/(n'=0/\a<=a'/\a'<=a+pW d/\Wt s' 0 1 (w+(tG d+2))))) (fun st=>st.2.1.toNat) (fun b=>∃s' a',b=(s',l,a')/\a<=a'/\a'<=a+pW d/\Wt s' 0 1 (w+(tG d+2))) ?_ ⟨s,n,a,rfl,.inl ⟨rfl,rfl,rfl⟩⟩ al ?_
 .rintro _ ⟨s',n',a',rfl,k⟩
  simp only[LP]
  by_cases hn0:n'>0
  .rw[if_pos (by simpa using hn0),A]
   have k:n'=n/\a'=a/\s'=s:=k.resolve_right fun h=>by omega
   obtain⟨rfl,rfl,rfl⟩:=k
   refine Ok.exprW x q r fun p t c e g=> ?_
   have z:Wt (⟨#[44,32]⟩:BA) 1 0 2:=Wt.lit 0 0 af
   refine Ok.catP z g aa fun u B=> ?_
   refine Ok.catW o B aa fun v D=> ?_
   refine Ok.mk ⟨⟨v,_,p,rfl,.inr ⟨by rw[bZ aa aa];omega,c,e,D.mono aa⟩⟩,?_⟩
   simp only
   rw[bZ aa aa]
   omega
  rw[if_neg (by simpa using hn0)]
  refine Ok.mk ⟨s',a',rfl,?_⟩
  rcases k with ⟨_,rfl,rfl⟩|⟨_,c,e,g⟩
  .exact⟨by omega,by omega,o.mono aa⟩
  exact⟨c,e,g⟩
 rintro _ ⟨s',a',rfl,c,e,g⟩
 exact h s' a' c e g
theorem okA{p:Prop}(h:p:=by
 repeat' first
  |with_reducible apply Ok.tt
  |with_reducible apply Ok.ff
  |with_reducible apply Ok.ttb
  |with_reducible apply Ok.ffb
  |with_reducible apply Ok.assoc
  |((with_reducible apply Ok.iteb)<;>intro _)
  |((with_reducible apply Ok.ite)<;>intro _)
  |with_reducible apply Ok.someb
  |with_reducible apply Ok.mapb
  |((with_reducible refine Ok.mk ⟨_,_,rfl,?_,?_,Wt.mono (by first|assumption|exact Wt.up ak) ?_⟩)<;>omega)
  |((with_reducible refine Ok.next ?_ ?_ ?_ ?_ (fun _ _ _=> ?_))<;>try omega)
  |((with_reducible refine Ok.chance ?_ ?_ ?_ ?_ (fun _=> ?_))<;>try omega)
  |((with_reducible refine Ok.pick01 ?_ ?_ (fun _ _=> ?_))<;>try omega)
  |((with_reducible refine Ok.exprloopW ak aa ak ak ?_ ?_ ak ?_ ak (fun _ _ _ _ _=> ?_))<;>try omega)
  |((with_reducible refine Ok.exprW ak ?_ ?_ (fun _ _ _ _ _=> ?_))<;>try omega)
  |((with_reducible refine Ok.pickN 2 ?_ ?_ ac (fun _ _=> ?_))<;>try omega)
  |((with_reducible refine Ok.pickN 16 ?_ ?_ ac (fun _ _=> ?_))<;>try omega)
  |((with_reducible refine Ok.onePW ?_ ?_ ak ak ak (fun _ _=> ?_))<;>try omega)
  |((with_reducible refine Ok.oneW ?_ ?_ af (fun _ _ _=> ?_))<;>try omega)
  |(with_reducible refine Ok.digitsW ak ak (fun _ _=> ?_))
  |((with_reducible refine Ok.catW (by first|assumption|exact Wt.lit 0 0 af|exact Wt.lit 0 1 af|exact Wt.lit 1 0 af|exact Wt.lit 1 1 af) (by first|assumption|exact Wt.lit 0 0 af|exact Wt.lit 0 1 af|exact Wt.lit 1 0 af|exact Wt.lit 1 1 af) ?_ (fun _ _=> ?_))<;>simp only[qFk,gM,jA,jB,Nat.reduceAdd,Nat.reduceMul] at* <;>try omega)
  |((with_reducible refine Ok.catW (by first|assumption|exact Wt.lit 0 0 af|exact Wt.lit 0 1 af|exact Wt.lit 1 0 af|exact Wt.lit 1 1 af) (by first|assumption|exact Wt.lit 0 0 af|exact Wt.lit 0 1 af|exact Wt.lit 1 0 af|exact Wt.lit 1 1 af) ?_ (fun _ _=> ?_))<;>try omega)
  |dsimp only
  |(apply Ok.iteb<;>intro _)
 all_goals omega):p:=h
set_option maxHeartbeats 4000000 in
theorem qMd{E:(List Int×Int)->Int->List BA->Option ((List Int×Int)×BA)}{d:Nat}{ps:List BA}(c:d=0)(g:ps.length<1000)(e:∀x∈ps,Wt x 0 0 7)(n:100<N):DT N l (CB N E) d ps:=by
 subst c
 intro a h k
 have b:pW 0=8:=rfl
 have f:tG 0=21:=rfl
 simp only[CB,b,f,xA,LA]
 rw[if_pos (show decide (((0:Nat):Int)<=0)=true by decide)]
 exact okA
set_option maxHeartbeats 8000000 in
theorem qMg{E:(List Int×Int)->Int->List BA->Option ((List Int×Int)×BA)}{d:Nat}{ps:List BA}(p:DT N l E d ps)(r:d<=4)(h:ps.length<1000)(c:∀x∈ps,Wt x 0 0 7)(q:100<N):DT N l (CB N E) (d+1) ps:=by
 intro a n o
 have b:pW (d+1)=3*pW d+8:=rfl
 have f:tG (d+1)=3*tG d+24:=rfl
 have g:=qEi d
 have k:=qAl d aa
 have e:IntKind.wrap .i64 (((d+1:Nat):Int)-1)=(d:Int):=by rw[bZ aa aa];omega
 simp only[CB,b,f,xA,LA,FR,e]
 exact okA
theorem TQ:∀(d D:Nat) (ps:List BA),d<D->d<=5->ps.length<1000->(∀x∈ps,Wt x 0 0 7)->100<N->DT N l (GO N D) d ps
 |_,0,_,h,_,_,_,_=>absurd h (gG _)
 |0,D+1,ps,_,_,a,b,c=>qMd (E:=GO N D) rfl a b c
 |d+1,D+1,ps,h,e,a,b,c=>qMg (TQ d D ps aa aa a b c) aa a b c
theorem qGg:∀{ps:List BA},(ps.all EF)=true->∀x∈ps,Wt x 0 0 7:=fun h x a=>(Wt.neu (jN.1 h x a)).2
theorem Ok.expr3W{β:Type}{Q:β->Prop}{ps:List BA}{a:Int}{f:(List Int×Int)×BA->Option β}(k:100<N)(g:0<=a)(p:a+10000<2000000000000000000)(n:ps.length<=2)(b:ps.all EF=true)
  (h:∀(a':Int) (s:BA),a<=a'->a'<=a+10000->Wt s 0 1 879->Ok (f ((l,a'),s)) Q):Ok ((CE N (l,a) 3 ps).bind f) Q:=
 Ok.exprW (d:=3) (TQ 3 N ps aa aa aa (qGg b) k) g (by have:pW 3=320:=rfl;omega) fun a' s c o e=>h a' s c (by have:pW 3=320:=rfl;omega) (e.mono ac)
theorem Ok.expr2W{β:Type}{Q:β->Prop}{ps:List BA}{a:Int}{f:(List Int×Int)×BA->Option β}(k:100<N)(g:0<=a)(p:a+10000<2000000000000000000)(n:ps.length<=2)(b:ps.all EF=true)
  (h:∀(a':Int) (s:BA),a<=a'->a'<=a+10000->Wt s 0 1 879->Ok (f ((l,a'),s)) Q):Ok ((CE N (l,a) 2 ps).bind f) Q:=
 Ok.exprW (d:=2) (TQ 2 N ps aa aa aa (qGg b) k) g (by have:pW 2=104:=rfl;omega) fun a' s c o e=>h a' s c (by have:pW 2=104:=rfl;omega) (e.mono ac)
set_option maxHeartbeats 8000000 in
theorem qUl{a:Int}(b:100<N)(c:0<=a)(d:a<1000000000000000000):Ok (CF N (l,a)) fun y=>∃a' s,y=((l,a'),s)/\a<=a'/\a'<=a+10010/\Wt s 0 0 920:=by
 simp only[CF,PW,xA,FR]
 repeat' first
  |with_reducible apply Ok.tt
  |with_reducible apply Ok.ff
  |with_reducible apply Ok.ttb
  |with_reducible apply Ok.ffb
  |with_reducible apply Ok.assoc
  |((with_reducible apply Ok.iteb)<;>intro _)
  |((with_reducible apply Ok.ite)<;>intro _)
  |with_reducible apply Ok.someb
  |with_reducible apply Ok.mapb
  |((with_reducible refine Ok.mk ⟨_,_,rfl,?_,?_,Wt.mono (by first|assumption|exact Wt.up ak) ?_⟩)<;>omega)
  |((with_reducible refine Ok.next ?_ ?_ ?_ ?_ (fun _ _ _=> ?_))<;>try omega)
  |((with_reducible refine Ok.chance ?_ ?_ ?_ ?_ (fun _=> ?_))<;>try omega)
  |((with_reducible refine Ok.expr3W b ?_ ?_ ?_ ?_ (fun _ _ _ _ _=> ?_))<;>first|omega|decide+kernel|skip)
  |((with_reducible refine Ok.expr2W b ?_ ?_ ?_ ?_ (fun _ _ _ _ _=> ?_))<;>first|omega|decide+kernel|skip)
  |(with_reducible refine Ok.app ae ac ?_)
  |((with_reducible refine Ok.pickN 2 ?_ ?_ ac (fun _ _=> ?_))<;>try omega)
  |((with_reducible refine Ok.pickN 16 ?_ ?_ ac (fun _ _=> ?_))<;>try omega)
  |((with_reducible refine Ok.oneW ?_ ?_ af (fun _ _ _=> ?_))<;>try omega)
  |(with_reducible refine Ok.digitsW ak b (fun _ _=> ?_))
  |((with_reducible refine Ok.catW (by first|assumption|exact Wt.lit 0 0 af|exact Wt.lit 0 1 af|exact Wt.lit 1 0 af|exact Wt.lit 1 1 af) (by first|assumption|exact Wt.lit 0 0 af|exact Wt.lit 0 1 af|exact Wt.lit 1 0 af|exact Wt.lit 1 1 af) ?_ (fun _ _=> ?_))<;>simp only[qFk,gM,jA,jB,Nat.reduceAdd,Nat.reduceMul] at* <;>try omega)
  |((with_reducible refine Ok.catW (by first|assumption|exact Wt.lit 0 0 af|exact Wt.lit 0 1 af|exact Wt.lit 1 0 af|exact Wt.lit 1 1 af) (by first|assumption|exact Wt.lit 0 0 af|exact Wt.lit 0 1 af|exact Wt.lit 1 0 af|exact Wt.lit 1 1 af) ?_ (fun _ _=> ?_))<;>try omega)
  |dsimp only
  |(apply Ok.iteb<;>intro _)
 all_goals omega
theorem Ok.declW{β:Type}{Q:β->Prop}{a:Int}{f:(List Int×Int)×BA->Option β}(k:100<N)(e:0<=a)(g:a<1000000000000000000)
  (h:∀(a':Int) (s:BA),a<=a'->a'<=a+10010->Wt s 0 0 920->Ok (f ((l,a'),s)) Q):Ok ((CF N (l,a)).bind f) Q:=
 Ok.bind (qUl k e g) fun y n=>by
  obtain⟨a',s,rfl,b,c,d⟩:=n
  exact h a' s b c d
theorem qUz{β:Type}{Q:β->Prop}{y:(List Int×Int)×BA}{f:BA->Option β}(d:y.2.size<=920)(a:3000<N)(h:∀s:BA,Ok (f s) Q):Ok ((aK (LD N y) N (y.2,0)).bind f) Q:=by
 refine Ok.loop (fun st=>∃j:Nat,st.2=(j:Int)/\j<=y.2.size) (fun st=>y.2.size-st.2.toNat) (fun _=>True) ?_ ⟨0,rfl,kG _⟩ al (fun b _=>h b)
 rintro⟨s,_⟩ ⟨j,rfl,c⟩
 simp only[LD]
 by_cases hlt:j<y.2.size
 .rw[if_pos (by simpa using hlt),TC hlt]
  simp only[j0]
  refine Ok.bind (P:=fun _=>True) (Ok.ite (fun _=>Ok.mk trivial) fun _=>Ok.mk trivial) fun b _=> ?_
  refine Ok.ite (fun _=> ?_) fun _=> ?_
  .rw[MZ aa aa aa];exact Ok.mk trivial
  refine Ok.mk ⟨⟨j+1,by simp only;rw[bZ aa aa];omega,by omega⟩,?_⟩
  simp only;rw[bZ aa aa];omega
 rw[if_neg (by simpa using hlt)];exact Ok.mk trivial
def qFt(x:BA):Bool:=decide (x.size<=20)&&JG 0 0 x.data.toList
theorem Ok.oneE{β:Type}{Q:β->Prop}{a:Int}{L:List BA}{f:(List Int×Int)×BA->Option β}(c:0<=a)(d:a<4611686018427387904)(b:(decide (0<L.length)&&decide (L.length<1000)&&L.all qFt)=true)(h:∀x:BA,Wt x 0 0 20->Ok (f ((l,a+1),x)) Q):Ok ((mY N (l,a) L).bind f) Q:=by
 simp only[jJ,j6] at b
 exact Ok.one c d b.1.1 b.1.2 fun x e=>by
  have:=jN.1 b.2 x e
  unfold qFt at this
  simp only[jJ,j6] at this
  exact h x ⟨this.1,IQ this.2⟩
theorem SZ{a:Int}{pk:BA}(G:3000<N)(E:0<=a)(h1:a<100000000000000000)(H:Wt pk 0 0 7):Ok (yS N (l,a) pk) fun y=>∃a' s,y=((l,a'),s)/\a<=a'/\a'<=a+100000/\Wt s 0 0 4800:=by
 simp only[yS]
 have V:Wt (⟨#[112,97,99,107,97,103,101,32]⟩:BA) 0 0 8:=Wt.lit 0 0 af
 have v:Wt (⟨#[59,10]⟩:BA) 0 0 8:=(Wt.lit 0 0 af).mono ac
 have Y:Wt (⟨#[35,32,97,32,99,111,109,109,101,110,116,10]⟩:BA) 0 0 12:=Wt.lit 0 0 af
 have Z:Wt (⟨#[105,109,112,111,114,116,32]⟩:BA) 0 0 7:=Wt.lit 0 0 af
 refine Ok.catW V H aa fun s1 B=> ?_
 refine Ok.catW B v aa fun s2 u=> ?_
 refine Ok.chance E aa aa aa fun c=> ?_
 refine Ok.bind (P:=fun s:BA=>Wt s 0 0 40) (Ok.ite (fun _=>Ok.catW Y u aa fun s3 f=>Ok.mk (f.mono aa)) fun _=>Ok.mk (u.mono aa)) fun o1 f=> ?_
 dsimp only
 refine Ok.next aa aa aa aa fun r D g2=> ?_
 dsimp only
 -- imports
 refine Ok.loop (fun st=>∃s L n a' w,st=(s,L,n,l,a')/\Wt s 0 0 w/\0<=n/\n<=2/\(L.length:Int)+n<=2/\(w:Int)<=40+25*(2-n)/\a<=a'/\a'<=a+10+(2-n)) (fun st=>st.2.2.1.toNat) (fun b=>∃s a',b=(s,l,a')/\Wt s 0 0 90/\a<=a'/\a'<=a+20) ?_ ⟨o1,[],r,a+1+1,40,rfl,f,D,by omega,by simp only[jB];omega,by omega,by omega,by omega⟩ al ?_
 .rintro _ ⟨s,L,n,a',w,rfl,kw,K,M,R,S,p,U⟩
  simp only[PL,yO]
  by_cases hn:n>0
  .rw[if_pos (by simpa using hn)]
   refine Ok.assoc (Ok.someb ?_)
   refine Ok.assoc (Ok.oneW aa aa af fun x _ k=> ?_)
   dsimp only
   refine Ok.assoc (Ok.bind (P:=fun _=>True) (Ok.ite (fun _=>Ok.has aa aa fun b=>Ok.mk trivial) fun _=>Ok.mk trivial) fun o4 _=> ?_)
   refine Ok.iteb (fun _=> ?_) fun _=> ?_
   .refine Ok.assoc (Ok.app ag ac ?_)
    refine Ok.assoc (Ok.catW Z k aa fun t1 g=> ?_)
    refine Ok.assoc (Ok.catW g v aa fun t2 e=> ?_)
    refine Ok.assoc (Ok.catW kw e aa fun q h=>Ok.someb (Ok.mk ?_))
    dsimp only
    rw[bZ aa aa]
    exact⟨⟨q,_,_,_,_,rfl,h,by omega,by omega,by simp only[jF,jA,jB];omega,by omega,by omega,by omega⟩,by omega⟩
   refine Ok.someb (Ok.mk ?_)
   dsimp only
   rw[bZ aa aa]
   exact⟨⟨s,_,_,_,w,rfl,kw,by omega,by omega,by omega,by omega,by omega,by omega⟩,by omega⟩
  rw[if_neg (by simpa using hn)]
  exact Ok.mk ⟨s,a',rfl,kw.mono aa,p,by omega⟩
 rintro _ ⟨s,A,rfl,q1,q2,q3⟩
 dsimp only
 refine Ok.next aa aa aa aa fun r2 g3 g4=> ?_
 dsimp only
 -- declarations
 refine Ok.loop (fun st=>∃s L n a' w,st=(s,L,n,l,a')/\Wt s 0 0 w/\0<=n/\n<=5/\(L.length:Int)+n<=5/\(w:Int)<=90+920*(5-n)/\a<=a'/\a'<=a+100+10020*(5-n)) (fun st=>st.2.2.1.toNat) (fun b=>∃s a',b=(s,l,a')/\Wt s 0 0 4690/\a<=a'/\a'<=a+60000) ?_ ⟨s,[],_,A+1,90,rfl,q1,by rw[bZ aa aa];omega,by rw[bZ aa aa];omega,by rw[bZ aa aa];simp only[jB];omega,by rw[bZ aa aa];omega,by omega,by rw[bZ aa aa];omega⟩ (by simp only;rw[bZ aa aa];omega) ?_
 .rintro _ ⟨s,L,n,a',w,rfl,kw,K,M,R,S,p,U⟩
  simp only[PQ]
  by_cases hn:n>0
  .rw[if_pos (by simpa using hn)]
   refine Ok.assoc (Ok.declW aa aa aa fun e d v1 v2 z=> ?_)
   refine Ok.assoc (qUz (y:=((l,e),d)) z.1 G fun hd=> ?_)
   dsimp only
   refine Ok.assoc (Ok.bind (P:=fun o:Bool×List Int×Int=>o.2.1=l/\e<=o.2.2/\o.2.2<=e+1) (Ok.has aa aa fun b=>Ok.ite (fun _=>Ok.mk ⟨rfl,by simp only;omega,by simp only;omega⟩) fun _=>Ok.chance aa aa aa aa fun c=>Ok.mk ⟨rfl,by simp only;omega,by simp only;omega⟩) fun o9 F=> ?_)
   obtain⟨b9,l9,a9⟩:=o9
   obtain⟨rfl,w1,w2⟩:=F
   dsimp only at w1 w2 ⊢
   refine Ok.iteb (fun _=> ?_) fun _=> ?_
   .refine Ok.assoc (Ok.app ag ac ?_)
    refine Ok.assoc (Ok.catW kw z aa fun q h=>Ok.someb (Ok.mk ?_))
    dsimp only
    rw[bZ aa aa]
    exact⟨⟨q,_,_,_,_,rfl,h,by omega,by omega,by simp only[jF,jA,jB];omega,by omega,by omega,by omega⟩,by omega⟩
   refine Ok.someb (Ok.mk ?_)
   dsimp only
   rw[bZ aa aa]
   exact⟨⟨s,_,_,_,w,rfl,kw,by omega,by omega,by omega,by omega,by omega,by omega⟩,by omega⟩
  rw[if_neg (by simpa using hn)]
  exact Ok.mk ⟨s,a',rfl,kw.mono aa,p,by omega⟩
 rintro _ ⟨s,h,rfl,e,p,q⟩
 dsimp only
 refine Ok.chance aa aa aa aa fun c=> ?_
 dsimp only
 refine Ok.iteb (fun _=> ?_) fun _=> ?_
 .refine Ok.assoc (Ok.oneE aa aa af fun x k=> ?_)
  dsimp only
  refine Ok.assoc (Ok.catW e k aa fun t g=>Ok.someb (Ok.mk ?_))
  dsimp only
  exact⟨_,_,rfl,by omega,by omega,g.mono aa⟩
 refine Ok.someb (Ok.mk ?_)
 dsimp only
 exact⟨_,_,rfl,by omega,by omega,e.mono aa⟩
end
theorem TR{k:Int}{x:UInt8}:cD [k] x=true↔kd x=k:=by simp[cD]
theorem qDv(p:UInt8->Bool)(l:List UInt8):l.dropWhile p=l.drop (l.takeWhile p).length:=by
 have h:=congrArg (List.drop (l.takeWhile p).length) (List.takeWhile_append_dropWhile (p:=p) (l:=l))
 rw[List.drop_left] at h
 exact h
def P40(l:List UInt8):Prop:=∀i:Nat,l[i]? =some 122->l[i+1]?≠some 122
theorem qFr:∀(l:List UInt8) (p q:Nat),sc p l=some q->q<=1->P40 l/\(p=1->l[0]?≠some 122)
 |[],_,_,_,_=>⟨fun i h=>(by simp at h),fun _=>by simp⟩
 |c::l,p,q,h,g=>by
  have h:(if p=1/\c=122 then none else sc (if c=122 then 1 else 0) l)=some q:=h
  split at h
  .cases h
  rename_i hp
  obtain⟨d,f⟩:=qFr l _ q h g
  refine⟨fun i a b=> ?_,fun e a=>hp ⟨e,by simpa using a⟩⟩
  cases i with
  |zero=>exact f (if_pos (by simpa using a)) (by simpa using b)
  |succ i=>exact d i (by simpa using a) (by simpa using b)
theorem P40.drop{l:List UInt8}(h:P40 l)(k:Nat):P40 (l.drop k):=fun i a b=>by
 rw[List.getElem?_drop] at a b
 exact h (k+i) a b
theorem P40.take{l:List UInt8}(h:P40 l)(k:Nat):P40 (l.take k):=fun i a b=>by
 rw[List.getElem?_take] at a b
 split at a
 .split at b
  .exact h i a b
  cases b
 cases a
inductive Cm:List UInt8->Prop
 |base {l:List UInt8} (h:P40 l):Cm l
 |bl {c:UInt8} {l:List UInt8} (hc:kd c=5) (h:Cm l):Cm (c::l)
 |com {d l:List UInt8} (hd:∀c∈d,eX c=true) (h:Cm l):Cm (35::(d++10::l))
theorem Cm.blank{c:UInt8}{l:List UInt8}(h:Cm (c::l))(a:kd c=5):Cm l:=by
 cases h with
 |base h=>exact .base (h.drop 1)
 |bl _ h=>exact h
 |com _ _=>exact absurd a af
theorem Cm.blanks:∀{l:List UInt8},Cm l->Cm (l.dropWhile (cD [5]))
 |[],h=>h
 |c::l,h=>by
  rw[List.dropWhile_cons]
  split
  .rename_i hc;exact Cm.blanks (h.blank (TR.1 hc))
  exact h
theorem Cm.line{c:UInt8}{l:List UInt8}(h:Cm (c::l))(a:kd c=6):Cm ((c::l).dropWhile eX):=by
 cases h with
 |base h=>
  rw[qDv];exact .base (h.drop _)
 |bl f _=>rw[f] at a;exact absurd a ac
 |@com d l b h=>
  have e:(35::(d++10::l)).dropWhile eX=10::l:=by
   rw[List.dropWhile_cons,if_pos ac]
   clear h a
   induction d with
   |nil=>rfl
   |cons x d g=>
    rw[gD,List.dropWhile_cons,if_pos (b x (jL ..))]
    exact g fun c a=>b c (jO _ a)
  rw[e]
  exact .bl af h
theorem Cm.p40{c:UInt8}{l:List UInt8}(h:Cm (c::l))(b:kd c≠5)(d:kd c≠6):P40 (c::l):=by
 cases h with
 |base h=>exact h
 |bl a _=>exact absurd a b
 |com _ _=>exact absurd af d
theorem TW(p:UInt8->Bool)(l:List UInt8)(i:Nat):l.drop (tw p l i)=(l.drop i).dropWhile p:=by
 unfold tw
 rw[qDv,dE]
theorem qDd:∀(ds:List UInt8) (n:Int),0<=n->(∀c∈ds,kd c=2)->0<=ds.foldl AB n
 |[],_,h,_=>h
 |c::ds,n,h,a=>qDd ds _ (by
  have:=NN c (a c (jL ..))
  unfold AB
  split<;>omega) fun c b=>a c (jO _ b)
def AL:BA:=⟨#[122,122]⟩
def zzP:BA:=⟨#[122,122,47,110,101,119,46,115,114,99]⟩
def Zz(_:Int)(x:BA):Prop:=x≠AL/\x≠zzP
theorem qFm{s:BA}{i:Nat}(k:Int)(j:Nat)(h:P40 (s.data.toList.drop i)):Zz k (s.extract i j):=by
 have e:(s.extract i j).data.toList=(s.data.toList.drop i).take (j-i):=by
  simp only[ByteArray.data_extract,gT,kY]
 have h:=h.take (j-i)
 rw[<-e] at h
 exact⟨fun g=>by rw[g] at h;exact h 0 rfl rfl,fun g=>by rw[g] at h;exact h 0 rfl rfl⟩
theorem qTg{s:BA}{i:Nat}(hi:i<s.data.toList.length)(e:P40 (s.data.toList.drop i))(h:(eO s i).2.2=0):AD Zz (fun _=>True) ((eO s i).1.1,(eO s i).1.2.1,(eO s i).1.2.2.1,(i:Int))/\i<=(eO s i).2.1.toNat:=by
 have b:∀(p:UInt8->Bool) (a:Nat),a<=tw p s.data.toList a:=fun p a=>Nat.le_add_right _ _
 unfold eO at h ⊢
 by_cases h1:kd (s.data.toList.getD i 0)=1
 .rw[if_pos h1] at h ⊢
  split at h
  .cases h
  rename_i h2;rw[if_neg h2];exact⟨⟨fun _=>qFm 3 _ e,fun h=>(by cases h),fun h=>(by cases h)⟩,b _ _⟩
 rw[if_neg h1] at h ⊢
 by_cases h2:kd (s.data.toList.getD i 0)=2
 .rw[if_pos h2] at h ⊢
  split at h
  .cases h
  rename_i h3
  rw[if_neg h3]
  refine⟨⟨fun h=>(by cases h),fun h=>(by cases h),fun _=>⟨⟨qDd _ 0 (dD _) fun c d=>TR.1 (IK d),by show rC _<=_;omega⟩,fun _=>trivial⟩⟩,b _ _⟩
 rw[if_neg h2] at h ⊢
 by_cases h7:kd (s.data.toList.getD i 0)=7
 .rw[if_pos h7] at h ⊢
  split at h
  .rename_i h3
   rw[if_pos h3]
   have d:∀k,Zz k (s.extract (i+1) (tw oS s.data.toList (i+1))):=fun k=>qFm k _ (by have:=e.drop 1;rwa[dE] at this)
   refine⟨⟨fun h=>(by cases h),fun _=>⟨fun _=>⟨d 6,d 7,d 8⟩,fun _=>d 9⟩,fun h=>(by cases h)⟩,?_⟩
   have:=b oS (i+1)
   show i<=(((tw oS s.data.toList (i+1)+1:Nat):Int)).toNat
   omega
  cases h
 rw[if_neg h7] at h ⊢
 by_cases h8:kd (s.data.toList.getD i 0)=8
 .rw[if_pos h8] at h ⊢
  refine⟨⟨fun h=>(by cases h),fun h=>(by cases h),fun h=>(by cases h)⟩,?_⟩
  show i<=(((rO s.data.toList i:Nat):Int)).toNat
  unfold rO
  split<;>omega
 rw[if_neg h8] at h;cases h
theorem UB{s:BA}:∀(k i:Nat) {ts:List cB},Cm (s.data.toList.drop i)->nC k s i= .inr ts->∀t∈ts,AD Zz (fun _=>True) t
 |0,_,_,_,h=>fun t a=>by cases h;cases a
 |k+1,i,ts,p,h=>by
  have b:Cm (s.data.toList.drop (tw (cD [5]) s.data.toList i)):=by rw[TW];exact p.blanks
  have d:∀c l,s.data.toList.drop (tw (cD [5]) s.data.toList i)=c::l->kd c≠5:=fun c l e o=>by
   rw[TW] at e
   have:=List.head?_dropWhile_not (cD [5]) (s.data.toList.drop i)
   rw[e] at this
   have this:cD [5] c=false:=by simpa using this
   rw[TR.2 o] at this
   cases this
  unfold nC at h
  generalize tw (cD [5]) s.data.toList i=j at h b d
  split at h
  .cases h
   intro t a
   rw[gH.1 a]
   exact⟨fun h=>absurd h (by show ¬((5:Int)=1);decide),fun h=>absurd h (by show ¬((5:Int)=3);decide),fun h=>absurd h (by show ¬((5:Int)=2);decide)⟩
  rename_i hj
  by_cases hlt:j<s.data.toList.length
  .have f:s.data.toList.drop j=s.data.toList[j]::s.data.toList.drop (j+1):=(fR hlt).symm
   have n:s.data.toList.getD j 0=s.data.toList[j]:=by rw[jU,List.getElem?_eq_getElem hlt];rfl
   split at h
   .rename_i h6
    refine UB k _ ?_ h
    rw[TW]
    rw[f] at b ⊢
    exact b.line (by rw[<-n];exact h6)
   rename_i h6
   split at h
   .cases h
   rename_i h0
   have g:P40 (s.data.toList.drop j):=by
    rw[f] at b ⊢
    exact b.p40 (d _ _ f) (by rw[<-n];exact h6)
   obtain⟨t1,t2⟩:=qTg hlt g (Decidable.not_not.1 h0)
   split at h
   .cases h
   rename_i r hr
   cases h
   intro t a
   rcases jI.1 a with rfl|a
   .exact t1
   refine UB k _ (.base ?_) hr t a
   have:=g.drop ((eO s j).2.1.toNat-j)
   rwa[dE,show j+((eO s j).2.1.toNat-j)=(eO s j).2.1.toNat by omega] at this
  have f:s.data.toList.getD j 0=0:=by rw[jU,List.getElem?_eq_none aa];rfl
  have g:kd 0=0:=by decide+kernel
  have a:(eO s j).2.2≠0:=by
   unfold eO
   rw[f,g,if_neg ac,if_neg ac,if_neg ac,if_neg ac]
   decide
  rw[f,g,if_neg ac,if_pos a] at h
  cases h
theorem qAy{s:BA}(c:Cm s.data.toList):(lD s).2.2=0->∀t∈(lD s).1,AD Zz (fun _=>True) t:=by
 unfold lD
 split
 .intro h;cases h
 intro h t a
 cases b:nC (s.data.toList.length+1) s 0 with
 |inl x=>rw[b] at a;cases a
 |inr r=>
  rw[b] at a
  exact UB _ 0 (by rw[jS];exact c) b t (by simpa[uU] using a)
end
section
open Go Go.Dc Go.Proofs
def zzS:BA:=⟨#[112,97,99,107,97,103,101,32,122,122,59,32,105,109,112,111,114,116,32,112,59,32,102,117,110,99,32,102,40,97,41,32,61,32,97,59,32,116,101,115,116,32,116,32,61,32,102,40,49,41,59]⟩
def lH(L:List bM):List bM:=iQ L zzP zzS
theorem qQj{O:List mU}{k:Int}{p n:BA}(h:∀o∈O,rP o≠nL k p n)(e:dQ):O.foldl (lG k p n) e=e:=by
 induction O generalizing e with
 |nil=>rfl
 |cons o O b=>
  rw[kC,show lG k p n e o=e from if_neg (h o (jL ..))]
  exact b (fun o a=>h o (jO _ a)) e
theorem RM{p b:BA}:∀{L:List bM},(∀f∈L,f.1≠p)->∃A B,L=A++B/\iQ L p b=A++(p,b)::B
 |[],_=>⟨[],[],rfl,rfl⟩
 |f::L,h=>by
  unfold iQ
  by_cases h1:blt p f.1=true
  .rw[if_pos h1];exact⟨[],f::L,rfl,rfl⟩
  rw[if_neg h1,if_neg (h f (jL ..))]
  obtain⟨A,B,a,c⟩:=RM (p:=p) (b:=b) (L:=L) fun g d=>h g (jO _ d)
  exact⟨f::A,B,by rw[a];rfl,by rw[c];rfl⟩
theorem SM(A B:List bM):eS (A++B)=eS A++eS B:=by unfold eS;rw[List.filter_append,List.map_append]
theorem SP(A B:List (BA×Sr)):iF (A++B)=iF A++iF B:=by unfold iF;exact List.flatMap_append
theorem qRz:iF (eS [(zzP,zzS)])=[(AL,⟨#[102]⟩,1,zzP,0),(AL,⟨#[116]⟩,2,zzP,1)]:=by kernel_rfl
section
variable {N:Nat} {L:List bM} {env:nG} {w:Int} {F:Int->Prop}
theorem SX(s:∀f∈L,f.1≠zzP)(l:lK L=0)(hc':lK (lH L)=0){k:Int}{p n:BA}(h:k=3\/p≠AL):cG (lH L) k p n=cG L k p n:=by
 unfold cG
 rw[if_pos l,if_pos hc']
 unfold lH
 obtain⟨A,B,rfl,e⟩:=RM (b:=zzS) s
 rw[e,SM,show(zzP,zzS)::B=[(zzP,zzS)]++B from rfl,SM,SP,SP,qRz,SM,SP]
 unfold lW
 rw[gF,gF,gF]
 congr 1
 refine qQj (fun o c r=> ?_) _
 have key:∀{j:Int} {m q:BA} {i:Int},o=(AL,m,j,q,i)->j≠3->False:=fun e d=>by
  subst e
  obtain⟨g,-,a⟩:=zC r
  rcases h with rfl|h
  .exact d g
  rcases a with a|a
  .exact d a
  exact h a.symm
 rcases jI.1 c with e|c
 .exact key e ac
 exact key (gH.1 c) ac
theorem qTm(c:∀f∈L,f.1≠zzP){f:bM}(a:f∈L):f∈lH L:=by
 unfold lH
 obtain⟨A,B,rfl,e⟩:=RM (b:=zzS) c
 rw[e]
 rcases gI.1 a with h|h
 .exact gB _ h
 exact List.mem_append_right _ (jO _ h)
theorem qCm(h:lK L=0){k:Int}{p n:BA}(c:(cG L k p n).2.2.2.2.2=1):
  ∃f∈L,oU f=true/\(cG L k p n).2.2.2.1=f.1/\(k=3\/(lJ f.2).1.1=p):=by
 have e:cG L k p n=lW (iF (eS L)) k p n:=by unfold cG;rw[if_pos h]
 rw[e] at c ⊢
 obtain⟨o,s,r,b⟩:=qDk (O:=iF (eS L)) (k:=k) (p:=p) (n:=n) (by rw[c];decide)
 obtain⟨f,l,q,j,d,t,rfl⟩:=ZW s
 refine⟨f,l,q,?_,?_⟩
 .unfold ED at b;simp only[Prod.mk.injEq] at b;exact b.2.2.2.1
 obtain⟨g,-,a⟩:=zC r
 rcases a with a|a
 .exact .inl (g▸a)
 exact .inr a
theorem UR(o:∀f∈L,f.1≠zzP)(b:lK L=0)(hc':lK (lH L)=0){k:Int}{p n:BA}(e:(cG L k p n).2.2.2.2.2=1):lX (lH L) (cG L k p n)=lX L (cG L k p n):=by
 obtain⟨f,c,h,g,-⟩:=qCm b e
 have key:∀M:List bM,lK M=0->f∈M->vC (eZ M) (cG L k p n)=(lJ f.2).1:=fun M a d=>by
  have l:(eZ M).2.2.1=some (OL M):=by unfold eZ;rw[if_pos a];rfl
  unfold vC
  rw[g,l,bC,j0,ZI (rI.1 a).2.1 d,if_pos h];rfl
 unfold lX
 rw[key _ hc' (qTm o c),key _ b c]
theorem YG{E E':BA->dQ}{nm:BA}:∀(l:List BA) (acc:List K3),(∀p∈l,E p=E' p)->mZ E nm l acc=mZ E' nm l acc
 |[],_,_=>rfl
 |p::l,acc,h=>by
  unfold mZ
  rw[h p (jL ..),YG l _ fun q a=>h q (jO _ a)]
theorem qPi(H:Wrl N L env Zz F)(c:∀f∈L,f.1≠zzP)(hc':lK (lH L)=0){f:Sr}{nm:BA}(e:f.1≠AL)(g:∀q∈f.2.1,q≠AL):
  ((lA (lH L) env w).cl f nm).1=((lA L env w).cl f nm).1/\VE (fun t t'=>t=t'/\tE Zz F t) ((lA L env w).cl f nm).2 ((lA (lH L) env w).cl f nm).2:=by
 have k:mZ (fun p=>cG (lH L) 1 p nm) nm (f.1::f.2.1) []=mZ (fun p=>cG L 1 p nm) nm (f.1::f.2.1) []:=YG _ _ fun p a=>SX c H.hc hc' (.inr (by
  rcases jI.1 a with rfl|a
  .exact e
  exact g p a))
 show(if 8<f.2.1.length then([],.inl 0) else uV (lH L) (mZ (fun p=>cG (lH L) 1 p nm) nm (f.1::f.2.1) []):List Ky×(Int⊕Aa)).1=(if 8<f.2.1.length then([],.inl 0) else uV L (mZ (fun p=>cG L 1 p nm) nm (f.1::f.2.1) []):List Ky×(Int⊕Aa)).1/\
  VE (fun t t'=>t=t'/\tE Zz F t) (if 8<f.2.1.length then([],.inl 0) else uV L (mZ (fun p=>cG L 1 p nm) nm (f.1::f.2.1) []):List Ky×(Int⊕Aa)).2 (if 8<f.2.1.length then([],.inl 0) else uV (lH L) (mZ (fun p=>cG (lH L) 1 p nm) nm (f.1::f.2.1) []):List Ky×(Int⊕Aa)).2
 rw[k]
 split
 .exact⟨rfl,rfl⟩
 unfold uV
 refine⟨rfl,?_⟩
 dsimp only
 by_cases h:(mZ (fun p=>cG L 1 p nm) nm (f.1::f.2.1) []).2.2=0
 .obtain⟨p,d,b⟩:=(NL (E:=fun p=>cG L 1 p nm) (nm:=nm) (fun p=>CT L 1 p _) (f.1::f.2.1) []).1 h
  rw[if_pos h,if_pos h,d]
  exact⟨(UR c H.hc hc' b).symm,(DG H b).2.1⟩
 rw[if_neg h,if_neg h]
 exact rfl
theorem qPf(H:Wrl N L env Zz F)(c:∀f∈L,f.1≠zzP)(hc':lK (lH L)=0){p:BA}(e:p≠zzP):
  (nR (lH L) p).1=(nR L p).1/\qGd (fun t t'=>t=t'/\tE Zz F t) (nR L p).2 (nR (lH L) p).2:=by
 unfold nR
 have d:iD (lH L) p=iD L p:=by
  unfold lH
  rw[TH H.asc,if_neg (Ne.symm e)]
 rw[d,SX c H.hc hc' (.inl rfl)]
 cases iD L p with
 |some b=>exact⟨rfl,rfl⟩
 |none=>
  refine⟨rfl,?_⟩
  dsimp only
  have h:=CT L 3 eY p
  by_cases h0:(cG L 3 eY p).2.2.2.2.2=0
  .rw[if_pos h0,if_pos h0];exact rfl
  by_cases h1:1<(cG L 3 eY p).2.2.2.2.2
  .rw[if_neg h0,if_pos h1,if_neg h0,if_pos h1];exact rfl
  rw[if_neg h0,if_neg h1,if_neg h0,if_neg h1]
  have a:(cG L 3 eY p).2.2.2.2.2=1:=by omega
  exact⟨(UR c H.hc hc' a).symm,(DG H a).2.1⟩
theorem apart(H:Wrl N L env Zz F)(n:∀f∈L,f.1≠zzP)(hc':lK (lH L)=0){P T:BA}(d:(cG L 2 P T).2.2.2.2.2=1):cG (lH L) 2 P T=cG L 2 P T/\uQ (lH L) env w P T=uQ L env w P T:=by
 have p:Agr (lA L env w) (lA (lH L) env w) (fun _=>True) (fun t t'=>t=t'/\tE Zz F t):={
  anti:=fun _ _ _ _=>trivial
  body:=fun t t' e=>by rw[e.1]
  ar:=rfl
  cl:=fun t t' x s e _ _ _=>by
   obtain⟨rfl,l⟩:=e
   exact qPi H n hc' l.2.2.1.1 fun q o=>(l.2.2.2 q o).1
  dt:=fun t t' x s e r u _=>by
   refine qPf H n hc' ?_
   obtain⟨i,hi⟩:=List.mem_iff_getElem?.1 r
   have l:∀k:Int,k≠6->k≠7->k≠8->x.1≠k:=fun k a b c g=>by omega
   rcases e.2.1.1.1 i x hi with ⟨d,-⟩|⟨d,-⟩|⟨d,-⟩|⟨d,-⟩|⟨d,-⟩|⟨-,o,-⟩|⟨-,o⟩|⟨d,-⟩
   .exact absurd d (l 1 ac ac ac)
   .exact absurd d (l 2 ac ac ac)
   .exact absurd d (l 3 ac ac ac)
   .exact absurd d (l 4 ac ac ac)
   .exact absurd d (l 5 ac ac ac)
   .exact o.2
   .exact o.2
   exact absurd d (l 10 ac ac ac)
  en:=fun _ _ _ _ _ _ _ _=>rfl
  bt:=fun _ _ _ _ _ _ _ _=>rfl}
 have l:cG (lH L) 2 P T=cG L 2 P T:=by
  refine SX n H.hc hc' (.inr ?_)
  obtain⟨f,l,o,-,h|h⟩:=qCm H.hc d
  .exact absurd h ac
  rw[<-h];exact(H.src f l o).1.1.1
 refine⟨l,?_⟩
 unfold uQ
 rw[l,UR n H.hc hc' d]
 exact SC p (qFa p 20001) ⟨rfl,(DG H d).2.1⟩ trivial
end
end
section
open Go Go.Dc
def Mk(x:BA):Prop:=∃c b,x.data.toList=c++b/\sc 0 b=some 0/\∀b,Cm b->Cm (c++b)
theorem Wt.z{x:BA}{n:Nat}(h:Wt x 0 0 n):sc 0 x.data.toList=some 0:=by
 obtain⟨q,b,a⟩:=h.2 0 (jP _)
 obtain rfl:q=0:=by omega
 exact a
theorem Mk.src{x:BA}{n:Nat}(h:Wt x 0 0 n):Mk x:=⟨[],x.data.toList,rfl,h.z,fun _ h=>h⟩
theorem Mk.app{x y:BA}{n:Nat}(h:Mk x)(g:Wt y 0 0 n):Mk (x++y):=by
 obtain⟨c,b,a,d,e⟩:=h
 exact⟨c,b++y.data.toList,by simp[a],by rw[UH,d];exact g.z,e⟩
theorem Mk.com{x d:BA}(h:Mk x)(n:∀c∈d.data.toList,eX c=true):Mk ((((⟨#[35,32]⟩:BA)++d)++(⟨#[10,32,32]⟩:BA))++x):=by
 obtain⟨c,b,e,f,g⟩:=h
 refine⟨35::((32::d.data.toList)++10::(32::32::c)),b,by simp[e],f,fun b l=> ?_⟩
 have:35::((32::d.data.toList)++10::(32::32::c))++b=35::((32::d.data.toList)++10::(32::32::(c++b))):=by simp
 rw[this]
 have k:kd 32=5:=by decide+kernel
 exact .com (fun c a=>by
  rcases jI.1 a with rfl|a
  .decide
  exact n c a) (.bl k (.bl k (g b l)))
theorem Mk.cm{x:BA}(h:Mk x):Cm x.data.toList:=by
 obtain⟨c,b,a,d,e⟩:=h
 rw[a]
 exact e b (.base (qFr b 0 0 d ac).1)
theorem qTx(M:Nat):((List.range 100).all fun n=>match rZ (M+40) (n:Int) with|some s=>decide (s.size<=16)&&s.data.toList.all eX|none=>false)=true:=by kernel_rfl
theorem Ok.digits100{β:Type}{Q:β->Prop}{N:Nat}{x:Int}{f:BA->Option β}(b:0<=x)(d:x<100)(e:100<N)(h:∀s:BA,s.size<=16->(∀c∈s.data.toList,eX c=true)->Ok (f s) Q):Ok ((rZ N x).bind f) Q:=by
 obtain⟨M,rfl⟩:∃M,N=M+40:=⟨N-40,by omega⟩
 obtain⟨n,rfl⟩:∃n:Nat,x=(n:Int):=⟨x.toNat,by omega⟩
 have:=jN.1 (qTx M) n (gV.2 aa)
 split at this
 .rename_i s hs
  rw[hs]
  simp only[jJ,j6] at this
  exact h s this.1 fun c a=>jN.1 this.2 c a
 cases this
theorem Ok.catQ{β:Type}{Q:β->Prop}{x y:BA}{f:BA->Option β}(a:x.size+y.size<=1000000000)(h:Ok (f (x++y)) Q):Ok ((dM x y).bind f) Q:=by
 unfold dM
 rw[if_pos (by simp only[maxLen];omega)]
 exact h
def pzB(p:BA):Bool:=iY p.data.toList&&decide (p≠zzP)
theorem pzB.path{p:BA}(h:pzB p=true):iY p.data.toList=true:=by unfold pzB at h;rw[jJ] at h;exact h.1
theorem pzB.ne{p:BA}(h:pzB p=true):p≠zzP:=by unfold pzB at h;rw[jJ] at h;exact kV h.2
theorem qSc:(srcL.all pzB)=true:=by kernel_rfl
theorem qTp:(datL.all pzB)=true:=by kernel_rfl
theorem qFb{p:BA}(h:p∈srcL):pzB p=true:=jN.1 qSc p h
theorem qFc{p:BA}(h:p∈datL):pzB p=true:=jN.1 qTp p h
theorem zpz{x:Int}(d:0<=x)(e:x<3){M:Nat}:∃s t p:BA,rZ (M+1) x=some s/\dM (⟨#[122]⟩:BA) s=some t/\dM t (⟨#[46,115,114,99]⟩:BA)=some p/\pzB p=true:=by
 obtain⟨d0,a,b⟩:=qTz M
 have c:x=0\/x=1\/x=2:=by omega
 rcases c with rfl|rfl|rfl
 .exact⟨_,⟨#[122,48]⟩,⟨#[122,48,46,115,114,99]⟩,d0,DB af ac,DB af ac,by kernel_rfl⟩
 .exact⟨_,⟨#[122,49]⟩,⟨#[122,49,46,115,114,99]⟩,a,DB af ac,DB af ac,by kernel_rfl⟩
 exact⟨_,⟨#[122,50]⟩,⟨#[122,50,46,115,114,99]⟩,b,DB af ac,DB af ac,by kernel_rfl⟩
def MadeC(K:Nat)(L:List bM):Prop:=Asc L/\∀f∈L,pzB f.1=true/\f.2.size<=K/\(nH f.1=true->Mk f.2)
theorem MadeC.put{K:Nat}{L:List bM}(h:MadeC K L){p b:BA}(e:pzB p=true)(c:b.size<=K)(d:nH p=true->Mk b):MadeC K (iQ L p b):=
 ⟨h.1.put p b,fun f a=>by
  rcases zG a with rfl|a
  .exact⟨e,c,d⟩
  exact h.2 f a⟩
theorem MadeC.del{K:Nat}{L:List bM}(h:MadeC K L)(p:BA):MadeC K (oE L p):=⟨h.1.del p,fun f a=>h.2 f (gP.1 a).1⟩
theorem MadeC.more{K K':Nat}{L:List bM}(h:MadeC K L)(b:K<=K'):MadeC K' L:=⟨h.1,fun f a=>⟨(h.2 f a).1,kX (h.2 f a).2.1 b,(h.2 f a).2.2⟩⟩
theorem MadeC.wf{K:Nat}{L:List bM}(h:MadeC K L)(b:K<=16384)(c:L.length<=64):WF L:=⟨c,h.1,fun f a=>⟨pzB.path (h.2 f a).1,kX (h.2 f a).2.1 b⟩⟩
theorem qRh:(datL.all fun p=> !(nH p))=true:=by kernel_rfl
theorem qSv:(srcL.all nH)=true:=by kernel_rfl
theorem qEk{p:BA}(h:p∈datL){P:Prop}:nH p=true->P:=fun g=>by
 have:=jN.1 qRh p h
 rw[g] at this
 cases this
theorem OG{p:BA}(h:p∈srcL):nH p=true:=jN.1 qSv p h
theorem qMl{N:Nat}{l:List Int}{a:Int}(k:3000<N)(z:0<=a)(A:a<10000000000000000):Ok (LM N (l,a)) fun y=>∃a' L,y=((l,a'),L)/\a<=a'/\a'<=a+1000000/\MadeC 4800 L/\L.length<=7:=by
 simp only[LM,GK]
 refine Ok.someb ?_
 show Ok ((aK (KN N srcL) N (0,[],l,a)).bind _) _
 refine Ok.loop (fun st=>∃(n:Nat) (L:List bM) (a':Int),st=((n:Int),L,l,a')/\n<=4/\L.length<=n/\MadeC 4800 L/\a<=a'/\a'<=a+100010*n) (fun st=>4-st.1.toNat) (fun b=>∃L a',b=(L,l,a')/\L.length<=4/\MadeC 4800 L/\a<=a'/\a'<=a+500000) ?_ ⟨0,[],a,rfl,by omega,by simp,⟨List.Pairwise.nil,by simp⟩,by omega,by omega⟩ (by dsimp only;omega) ?_
 .rintro _ ⟨n,L,a',rfl,p,q,e,r,t⟩
  rw[qQe]
  have d:srcL.length=4:=rfl
  dsimp only
  by_cases hn:n<4
  .rw[if_pos (by simp only[j6,d];omega),eR (l:=srcL) aa]
   refine Ok.assoc (Ok.someb ?_)
   refine Ok.assoc (Ok.chance aa aa aa aa fun c=> ?_)
   dsimp only
   refine Ok.iteb (fun _=> ?_) fun _=> ?_
   .refine Ok.assoc (Ok.someb ?_)
    refine Ok.assoc (Ok.oneW aa aa af fun x _ h=> ?_)
    dsimp only
    refine Ok.assoc (Ok.bind (SZ k aa aa h) ?_)
    rintro _ ⟨f,s,rfl,v,v2,g⟩
    dsimp only
    rw[wA _ _ aa e.1 aa]
    refine Ok.assoc (Ok.someb (Ok.someb (Ok.mk ?_)))
    dsimp only
    have o:=HL L (srcL[n]) s
    refine⟨⟨n+1,_,_,by rw[bZ aa aa];rfl,by omega,by omega,e.put (qFb (jT _)) g.1 (fun _=>Mk.src g),by omega,by omega⟩,?_⟩
    rw[bZ aa aa];omega
   refine Ok.someb (Ok.mk ?_)
   dsimp only
   refine⟨⟨n+1,_,_,by rw[bZ aa aa];rfl,by omega,by omega,e,by omega,by omega⟩,?_⟩
   rw[bZ aa aa];omega
  rw[if_neg (by simp only[j6,d];omega)]
  exact Ok.mk ⟨L,a',rfl,by omega,e,by omega,by omega⟩
 rintro _ ⟨L1,h,rfl,B,u,D,E⟩
 dsimp only
 refine Ok.loop (fun st=>∃(n:Nat) (L:List bM) (a':Int),st=((n:Int),L,l,a')/\n<=3/\L.length<=4+n/\MadeC 4800 L/\a<=a'/\a'<=a+500000+20*n) (fun st=>3-st.1.toNat) (fun b=>∃L a',b=(L,l,a')/\L.length<=7/\MadeC 4800 L/\a<=a'/\a'<=a+600000) ?_ ⟨0,L1,h,rfl,by omega,by omega,u,by omega,by omega⟩ (by dsimp only;omega) ?_
 .rintro _ ⟨n,L,a',rfl,p,q,e,r,t⟩
  rw[qQz]
  have d:datL.length=3:=rfl
  dsimp only
  by_cases hn:n<3
  .rw[if_pos (by simp only[j6,d];omega),eR (l:=datL) aa]
   refine Ok.assoc (Ok.someb ?_)
   refine Ok.assoc (Ok.chance aa aa aa aa fun c=> ?_)
   dsimp only
   refine Ok.iteb (fun _=> ?_) fun _=> ?_
   .refine Ok.assoc (Ok.bind (qDe aa aa aa) ?_)
    rintro _ ⟨f,s,rfl,v,v2,g⟩
    dsimp only
    rw[wA _ _ aa e.1 aa]
    refine Ok.assoc (Ok.someb (Ok.someb (Ok.mk ?_)))
    dsimp only
    have o:=HL L (datL[n]) s
    refine⟨⟨n+1,_,_,by rw[bZ aa aa];rfl,by omega,by omega,e.put (qFc (jT _)) aa (qEk (jT _)),by omega,by omega⟩,?_⟩
    rw[bZ aa aa];omega
   refine Ok.someb (Ok.mk ?_)
   dsimp only
   refine⟨⟨n+1,_,_,by rw[bZ aa aa];rfl,by omega,by omega,e,by omega,by omega⟩,?_⟩
   rw[bZ aa aa];omega
  rw[if_neg (by simp only[j6,d];omega)]
  exact Ok.mk ⟨L,a',rfl,by omega,e,by omega,by omega⟩
 rintro _ ⟨L2,f,rfl,d,e,g,o⟩
 refine Ok.mk ?_
 exact⟨f,L2,rfl,by omega,by omega,e,d⟩
def zQ(l:List Int)(a:Int)(K:Nat)(L:List bM)(z:(List Int×Int)×List bM):Prop:=∃a' L',z=((l,a'),L')/\a<=a'/\a'<=a+200000/\MadeC (K+950) L'/\L'.length<=L.length+1
section
variable {N:Nat} {l:List Int} {a:Int} {K:Nat} {L:List bM}
theorem qUm(hN:3000<N)(h0:0<=a)(h1:a<10000000000000000)(f:MadeC K L)(hK:4800<=K)(a1:K<=100000)(h:L.length<=100):Ok (MD N (l,a) L) (zQ l a K L):=by
 obtain⟨M,rfl⟩:∃M,N=M+1:=⟨N-1,by omega⟩
 have D:MadeC (K+950) L:=f.more aa
 have g:∀(a':Int) {p b:BA},a<=a'->a'<=a+200000->pzB p=true->b.size<=K+950->(nH p=true->Mk b)->zQ l a K L ((l,a'),iQ L p b):=fun a' {p b} Y Z A hb hm=>
  ⟨a',_,rfl,Y,Z,D.put A hb hm,HL L p b⟩
 unfold MD GK
 refine Ok.someb (Ok.one h0 aa ac ac fun p A=> ?_)
 have v:=qFb A
 refine Ok.next am am ac ac fun r r0 r1=> ?_
 dsimp only
 refine Ok.bind (P:=fun q=>q= .inl ()\/∃z,q= .inr z/\zQ l a K L z) ?_ ?_
 .refine Ok.ite (fun _=> ?_) fun _=>Ok.ite (fun _=> ?_) fun _=>Ok.ite (fun _=> ?_) fun _=>Ok.ite (fun _=> ?_) fun _=>Ok.ite (fun _=> ?_) fun _=>Ok.ite (fun _=> ?_) fun _=>Ok.mk (.inl rfl)
  .refine Ok.one aa aa ac ac fun q k=> ?_
   have k:q∈datL:=k
   dsimp only
   refine Ok.bind (qDe aa aa aa) ?_
   rintro _ ⟨y,s,rfl,E,v2,B⟩
   dsimp only
   rw[wA _ _ aa f.1 aa]
   exact Ok.mk (.inr ⟨_,rfl,g y aa aa (qFc k) aa (qEk k)⟩)
  .refine Ok.one aa aa ac ac fun q k=> ?_
   dsimp only
   rw[ZX aa aa]
   exact Ok.mk (.inr ⟨_,rfl,_,_,rfl,by omega,by omega,D.del q,by have:=qEc L q;omega⟩)
  .refine Ok.someb (Ok.oneW aa aa af fun q _ k=> ?_)
   refine Ok.bind (SZ aa am am k) ?_
   rintro _ ⟨y,s,rfl,E,v2,B⟩
   dsimp only at E v2 ⊢
   rw[wA _ _ aa f.1 aa]
   exact Ok.mk (.inr ⟨_,rfl,g y aa aa v (by have:=B.1;omega) fun _=>Mk.src B⟩)
  .refine Ok.bind (ND (L:=L) (p:=p) (Q:=zQ l a K L) h aa (fun j e c=> ?_) (fun j e c=> ?_) ?_) ?_
   .have d:((j:Int)<(L.length:Int)):=by omega
    simp only[GJ,d,decide_true,jE,eR e,j0,oY,c]
    rw[ZX aa aa]
    refine Ok.someb (Ok.next aa aa ac ac fun x U V=> ?_)
    obtain⟨s,t,q,G,H,R,S⟩:=zpz U V (M:=M)
    simp only[G,H,R,j0]
    have hd:=qEc L p
    rw[wA _ _ aa (f.1.del p) aa]
    refine Ok.mk ⟨_,rfl,_,_,rfl,by omega,by omega,(D.del p).put S (by have:=(f.2 L[j] (jT e)).2.1;omega) fun _=>(f.2 L[j] (jT e)).2.2 (by rw[c];exact OG A),?_⟩
    have:=HL (oE L p) q L[j].2
    omega
   .have d:((j:Int)<(L.length:Int)):=by omega
    have w:IntKind.wrap .i64 ((j:Int)+1)=((j+1:Nat):Int):=by rw[bZ aa aa];omega
    simp only[GJ,d,decide_true,jE,eR e,j0,oY,c,decide_false,j9,jC,w]
   .have d:¬((L.length:Int)<(L.length:Int)):=by omega
    simp only[GJ,d,decide_false,j9,jC]
   rintro o (rfl|⟨z,rfl,n⟩)
   .exact Ok.mk (.inl rfl)
   exact Ok.mk (.inr ⟨z,rfl,n⟩)
  .refine Ok.bind (ND (L:=L) (p:=p) (Q:=zQ l a K L) h aa (fun j e c=> ?_) (fun j e c=> ?_) ?_) ?_
   .have d:((j:Int)<(L.length:Int)):=by omega
    have F:=(f.2 L[j] (jT e)).2.1
    have u:=(f.2 L[j] (jT e)).2.2 (by rw[c];exact OG A)
    simp only[GG,d,decide_true,jE,eR e,j0,oY,c]
    refine Ok.next aa aa ac ac fun x U V=> ?_
    refine Ok.digits100 U V aa fun s hs hd=> ?_
    have G:(⟨#[35,32]⟩:BA).size=2:=rfl
    have H:(⟨#[10,32,32]⟩:BA).size=3:=rfl
    have R:((⟨#[35,32]⟩:BA)++s).size=2+s.size:=by rw[ByteArray.size_append,G]
    have S:(((⟨#[35,32]⟩:BA)++s)++(⟨#[10,32,32]⟩:BA)).size=5+s.size:=by rw[ByteArray.size_append,H,R];omega
    refine Ok.catQ aa (Ok.catQ aa (Ok.catQ aa ?_))
    rw[wA _ _ aa f.1 aa]
    exact Ok.mk ⟨_,rfl,g _ am am v (by rw[ByteArray.size_append,S];omega) fun _=>u.com hd⟩
   .have d:((j:Int)<(L.length:Int)):=by omega
    have w:IntKind.wrap .i64 ((j:Int)+1)=((j+1:Nat):Int):=by rw[bZ aa aa];omega
    simp only[GG,d,decide_true,jE,eR e,j0,oY,c,decide_false,j9,jC,w]
   .have d:¬((L.length:Int)<(L.length:Int)):=by omega
    simp only[GG,d,decide_false,j9,jC]
   rintro o (rfl|⟨z,rfl,n⟩)
   .exact Ok.mk (.inl rfl)
   exact Ok.mk (.inr ⟨z,rfl,n⟩)
  refine Ok.bind (ND (L:=L) (p:=p) (Q:=zQ l a K L) h aa (fun j e c=> ?_) (fun j e c=> ?_) ?_) ?_
  .have d:((j:Int)<(L.length:Int)):=by omega
   have F:=(f.2 L[j] (jT e)).2.1
   have u:=(f.2 L[j] (jT e)).2.2 (by rw[c];exact OG A)
   simp only[GL,d,decide_true,jE,eR e,j0,oY,c]
   have G:Wt (⟨#[102,117,110,99]⟩:BA) 0 0 4:=Wt.lit 0 0 af
   refine Ok.catQ (by have:=G.1;omega) ?_
   rw[wA _ _ aa f.1 aa]
   exact Ok.mk ⟨_,rfl,g _ am am v (by have:=G.1;rw[ByteArray.size_append];omega) fun _=>u.app G⟩
  .have d:((j:Int)<(L.length:Int)):=by omega
   have w:IntKind.wrap .i64 ((j:Int)+1)=((j+1:Nat):Int):=by rw[bZ aa aa];omega
   simp only[GL,d,decide_true,jE,eR e,j0,oY,c,decide_false,j9,jC,w]
  .have d:¬((L.length:Int)<(L.length:Int)):=by omega
   simp only[GL,d,decide_false,j9,jC]
  rintro o (rfl|⟨z,rfl,n⟩)
  .exact Ok.mk (.inl rfl)
  exact Ok.mk (.inr ⟨z,rfl,n⟩)
 rintro q (rfl|⟨z,rfl,n⟩)
 .dsimp only
  refine Ok.bind (ND (L:=L) (p:=p) (Q:=zQ l a K L) h aa (fun j e c=> ?_) (fun j e c=> ?_) ?_) ?_
  .have d:((j:Int)<(L.length:Int)):=by omega
   have F:=(f.2 L[j] (jT e)).2.1
   have u:=(f.2 L[j] (jT e)).2.2 (by rw[c];exact OG A)
   simp only[GH,d,decide_true,jE,eR e,j0,oY,c]
   refine Ok.declW aa aa aa fun y s Y Z G=> ?_
   dsimp only
   have H:=G.1
   refine Ok.catQ aa ?_
   rw[wA _ _ aa f.1 aa]
   exact Ok.mk ⟨_,rfl,g y aa aa v (by rw[ByteArray.size_append];omega) fun _=>u.app G⟩
  .have d:((j:Int)<(L.length:Int)):=by omega
   have w:IntKind.wrap .i64 ((j:Int)+1)=((j+1:Nat):Int):=by rw[bZ aa aa];omega
   simp only[GH,d,decide_true,jE,eR e,j0,oY,c,decide_false,j9,jC,w]
  .have d:¬((L.length:Int)<(L.length:Int)):=by omega
   simp only[GH,d,decide_false,j9,jC]
  rintro o (rfl|⟨z,rfl,n⟩)
  .dsimp only
   refine Ok.someb (Ok.oneW aa aa af fun q _ k=> ?_)
   refine Ok.bind (SZ aa am am k) ?_
   rintro _ ⟨y,s,rfl,E,v2,B⟩
   dsimp only at E v2 ⊢
   rw[wA _ _ aa f.1 aa]
   exact Ok.mk (g y aa aa v (by have:=B.1;omega) fun _=>Mk.src B)
  exact Ok.mk n
 exact Ok.mk n
end
end
section
open Go Go.Dc Go.Proofs
def envV:List Int:=[0,1,(-1),5,9007199254740992,(-9007199254740992)]
def EA(L:List nG)(nm:BA):List nG:=L.flatMap fun e=>e::envV.map fun v=>e++[(nm,v)]
def zZ:Nat->List nG
 |0=>[[]]
 |1=>EA [[]] ⟨#[109]⟩
 |_=>EA (EA [[]] ⟨#[109]⟩) ⟨#[110]⟩
theorem qSe(M:Nat):((zZ 2).all fun e=>decide (AX (M+300) e=some true)&&decide (e.length<=16)&&e.all fun v=>decide (-9223372036854775808<=v.2)&&decide (v.2<=9223372036854775807))=true:=by kernel_rfl
theorem qOs{L:List nG}{nm:BA}{e:nG}(h:e∈L):e∈EA L nm:=fO.2 ⟨e,h,jL ..⟩
theorem qPb{L:List nG}{nm:BA}{e:nG}(h:e∈L){v:Int}(a:v∈envV):e++[(nm,v)]∈EA L nm:=fO.2 ⟨e,h,jO _ (fE.2 ⟨v,a,rfl⟩)⟩
theorem qAk{i:Nat}(hi:i<2):zZ (i+1)=EA (zZ i) ([(⟨#[109]⟩:BA),(⟨#[110]⟩:BA)][i]):=by
 rcases(by omega:i=0\/i=1) with rfl|rfl<;>rfl
theorem qJv{N:Nat}{l:List Int}{a:Int}(t:100<N)(p:0<=a)(q:a<1000000000000000000):Ok (KO N (l,a)) fun y=>∃a' e,y=((l,a'),e)/\a<=a'/\a'<=a+4/\e∈zZ 2:=by
 unfold KO
 have g:∀e∈zZ 2,True:=fun _ _=>trivial
 refine Ok.loop (fun s=>∃(i:Nat) (e:nG) (b:Int),s=((i:Int),e,l,b)/\i<=2/\e.length<=i/\a<=b/\b<=a+2*i/\e∈zZ i) (fun s=>2-s.1.toNat)
  (fun o=>∃(e:nG) (b:Int),o=(e,l,b)/\a<=b/\b<=a+4/\e∈zZ 2) (fun s h=> ?_) ⟨0,[],a,rfl,by omega,by simp,by omega,by omega,gH.2 rfl⟩ al ?_
 .obtain⟨i,e,b,rfl,hi,u,f,n,d⟩:=h
  unfold PC
  refine Ok.ite (fun c=> ?_) fun c=>Ok.mk ?_
  .have c:i<2:=by simp only[j6,jA,jB] at c;omega
   have ew:IntKind.wrap .i64 ((i:Int)+1)=((i+1:Nat):Int):=by rw[bZ aa aa];omega
   dsimp only
   rw[eR (show i<[(⟨#[109]⟩:BA),(⟨#[110]⟩:BA)].length from c)]
   simp only[j0,ew]
   refine Ok.assoc (Ok.chance aa aa ac ac fun r=> ?_)
   cases r with
   |true=>
    refine Ok.ttb (Ok.assoc (Ok.pick aa aa ac ac fun z k=> ?_))
    refine Ok.assoc (Ok.app ag ac ?_)
    refine Ok.someb (Ok.mk ⟨⟨i+1,_,b+1+1,rfl,by omega,by simp only[jF,jA,jB];omega,by omega,by omega,?_⟩,by simp only;omega⟩)
    rw[qAk c]
    exact qPb d k
   |false=>
    refine Ok.ffb (Ok.someb (Ok.mk ⟨⟨i+1,e,b+1,rfl,by omega,by omega,by omega,by omega,?_⟩,by simp only;omega⟩))
    rw[qAk c]
    exact qOs d
  obtain rfl:i=2:=by simp only[j6,jA,jB] at c;omega
  exact⟨e,b,rfl,f,by omega,d⟩
 rintro _ ⟨e,b,rfl,c,d,f⟩
 exact Ok.mk ⟨b,e,rfl,c,d,f⟩
theorem ZQ{p:BA}(h:iY p.data.toList=true):p.size<=80:=by
 have:p.data.toList.length<=80:=(kV h).1
 have e:=iV p
 omega
theorem qLa{N K:Nat}{L:List bM}(h:MadeC K L)(b:10000<N):xK N L:=fun g a=>by
 have:=ZQ (pzB.path (h.2 g a).1)
 exact UA aa aa
theorem TX:iY zzP.data.toList=true:=by kernel_rfl
theorem qNu{N:Nat}{L:List bM}(h:xK N L)(b:10000<N):xK N (lH L):=fun g a=>by
 rcases zG a with rfl|a
 .have:=ZQ TX
  exact UA (by show zzP.size<_;omega) (by show 2*zzP.size+1000<N;omega)
 exact h g a
theorem qRn:((lD zzS).1.all fun t=>decide (t.1=2->0<=t.2.2.1/\t.2.2.1<=9007199254740992))=true:=by kernel_rfl
abbrev T2:Int->BA->Prop:=fun _ _=>True
abbrev F1:Int->Prop:=fun _=>True
theorem qSx{t:cB}(h:t.1=2->0<=t.2.2.1/\t.2.2.1<=9007199254740992):AD T2 F1 t:=⟨fun _=>trivial,fun _=>⟨fun _=>⟨trivial,trivial,trivial⟩,fun _=>trivial⟩,fun e=>⟨h e,fun _=>trivial⟩⟩
def qTu(N:Nat)(y:(List Int×Int)×List bM×nG×Int):Prop:=(xK N y.2.1/\xK N (lH y.2.1))/\AX N y.2.2.1=some true/\Wrl N y.2.1 y.2.2.1 Zz F1/\Wrl N (lH y.2.1) y.2.2.1 T2 F1/\(∀f∈y.2.1,f.1≠zzP)/\OU y.2.1 zzP zzS=(lH y.2.1,0)
theorem qSo{N:Nat}{l:List Int}(hN:3000000<N):Ok (LU N (l,0)) (qTu N):=by
 unfold LU
 refine Ok.bind (qMl (l:=l) (a:=0) aa ac ac) ?_
 rintro _ ⟨G,A,rfl,u1,u2,Z,u4⟩
 dsimp only
 refine Ok.next aa aa ac ac fun n V n1=> ?_
 dsimp only
 refine Ok.loop (fun st=>∃(j:Nat) (a':Int) (B:List bM),st=((j:Int),l,a',B)/\j<=3/\0<=a'/\a'<=2000000+200000*(3-j)/\MadeC (4800+950*(3-j)) B/\B.length<=7+(3-j)) (fun st=>st.1.toNat) (fun b=>∃a' B,b=(l,a',B)/\0<=a'/\a'<=10000000/\MadeC 10000 B/\B.length<=10) ?_ ⟨n.toNat,G+1,A,by rw[Int.toNat_of_nonneg V],by omega,by omega,by omega,Z.more aa,by omega⟩ (by show n.toNat<N;omega) ?_
 .rintro _ ⟨j,a',B,rfl,g,p,R,c,S⟩
  unfold PJ
  dsimp only
  by_cases hlt:0<j
  .rw[if_pos ad]
   refine Ok.bind (qUm (K:=4800+950*(3-j)) aa aa aa c aa aa aa) ?_
   rintro _ ⟨o,C,rfl,h,v2,d,k⟩
   dsimp only
   have w:IntKind.wrap .i64 ((j:Int)-1)=((j-1:Nat):Int):=by rw[bZ aa aa];omega
   rw[w]
   exact Ok.mk ⟨⟨j-1,o,C,rfl,by omega,by omega,by omega,d.more aa,by omega⟩,by simp only[kD];omega⟩
  rw[if_neg ad]
  exact Ok.mk ⟨a',B,rfl,p,by omega,c.more aa,by omega⟩
 rintro _ ⟨a',B,rfl,p,R,c,S⟩
 dsimp only
 refine Ok.bind (qJv aa p aa) ?_
 rintro _ ⟨o,e,rfl,e1,e2,H⟩
 dsimp only
 unfold PZ
 refine Ok.assoc (Ok.pick aa aa ac ac fun z hz=> ?_)
 obtain⟨r,Y,-⟩:=HZ (N:=N) (l:=l) (a:=o+1) (n:=1073741824) aa aa ac
 dsimp only
 rw[Y]
 refine Ok.someb (Ok.someb (Ok.mk ?_))
 obtain⟨M,rfl⟩:∃M,N=M+300:=⟨N-300,by omega⟩
 have h:=jN.1 (qSe M) e H
 simp only[jJ,j6,jN] at h
 have E:=c.wf ac aa
 have s:lK B=0:=rI.2 E
 have hl:(lH B).length<=B.length+1:=HL B zzP zzS
 have F:WF (lH B):=E.put TX ac (by show(lH B).length<=64;omega)
 have u:lK (lH B)=0:=rI.2 F
 have x:=qLa (N:=M+300) c aa
 have y:∀{f:bM},oU f=true->nH f.1=true:=fun g=>by unfold oU at g;rw[jJ] at g;exact g.1
 have k:e.length<=16/\∀v∈e,VB v.2:=⟨h.1.2,fun v k=>h.2 v k⟩
 refine⟨⟨x,qNu x aa⟩,h.1.1,⟨by omega,s,fun f d g=> ?_,k⟩,⟨by omega,u,fun f d g=> ?_,k⟩,fun f d=>pzB.ne (c.2 f d).1,?_⟩
 .exact qDl ⟨by decide,by decide⟩ (qAy ((c.2 f d).2.2 (y g)).cm)
 .refine qDl trivial fun U t D=>qSx fun q=> ?_
  rcases zG d with rfl|d
  .exact kV (jN.1 qRn t D) q
  exact((qAy ((c.2 f d).2.2 (y g)).cm U t D).2.2 q).1
 unfold OU
 rw[if_neg (by rw[s];simp),if_neg (by rw[TX];simp),if_neg (by rw[show zzS.size=51 from rfl];show ¬(_\/64<(lH B).length);omega)]
 rfl
theorem qLq(M:Nat):LV (M+800)=some true:=by kernel_rfl
theorem testgatelaw10_EvaluateApart_true(l:List Int)(_gl:l.length*8<=reachBytes/\∀x∈l,(Lit.int .i64 x).wf=true):∃N,KJ N l=some true:=by
 refine⟨4000000,?_⟩
 have key:Ok (KJ 4000000 l) fun r=>r=true:=by
  unfold KJ
  refine Ok.bind (qSo (l:=l) ac) fun y t=> ?_
  obtain⟨⟨s,h⟩,g,H,H2,u,d⟩:=t
  refine Ok.bind (P:=fun q=>q=(lH y.2.1,(0:Int))) ⟨_,(qPa zzP zzS ac).trans (congrArg some d),rfl⟩ ?_
  rintro _ rfl
  rw[if_neg ae]
  obtain⟨T,t1,t2,v⟩:=qKn H.hc (N:=4000000) ac
  rw[t1,j0]
  have:=DF (f:=AO 4000000 y (lH y.2.1,0) T) (fun i=>(i:Int)) T.length (.inl ()) (fun i hi=>by
   simp only[AO]
   rw[if_pos (by simpa using hi),eR hi]
   have a:=v T[i] (jT hi)
   obtain⟨k,n⟩:=apart (w:=y.2.2.2) H u H2.hc a
   have p:=qEs (w:=y.2.2.2) H s g a
   have e:=qEs (w:=y.2.2.2) H2 h g (P:=T[i].1) (T:=T[i].2) (by rw[k];exact a)
   rw[n] at e
   have c:=qPq (qAp y.2.1 y.2.2.1 y.2.2.2 T[i].1 T[i].2)
   generalize uQ y.2.1 y.2.2.1 y.2.2.2 T[i].1 T[i].2=o at*
   have b:=qOk (N:=4000000) (r:=VG o) c (by show(xW _).length<4000000;omega)
   simp only[j0]
   rw[show xI 4000000 _ _ _ T[i]=_ from p,j0,show xI 4000000 _ _ _ T[i]=_ from e,j0]
   generalize VG o=r at*
   rw[if_neg ae,if_neg ae]
   rw[show FT 4000000 _ _=_ from b]
   simp only[j0]
   rw[if_neg ac,bZ aa aa];rfl) (by simp only[AO];rw[if_neg ae]) (N:=4000000) aa
  rw[show aK (AO 4000000 y (lH y.2.1,0) T) 4000000 0=_ from this,j0]
  rw[show LV 4000000=some true from qLq 3999200]
  exact Ok.mk rfl
 obtain⟨r,a,rfl⟩:=key
 exact a
end
end Go.Proofs.YtleaknfdlaokiaaGreatDoor
