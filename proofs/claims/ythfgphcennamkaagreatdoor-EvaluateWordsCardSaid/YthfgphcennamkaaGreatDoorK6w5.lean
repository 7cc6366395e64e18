/- No condition but those of each theorem. -/
import Derived.Test.YthfgphcennamkaaGreatDoorProg
import Derived.WalkKit
import Derived.Deep.LoopGhost
import Derived.KernelRfl
import Derived.OrdersHeld
import Derived.OrdersIn
import Derived.LoopNIn
import Derived.Sort.LoopGhostIn
import Derived.Laws.AppendOwn
import Derived.RangeFuncLeaves
import Derived.RangeFuncRecord
import Derived.MapKept
import Derived.Maps.RangeRun
import Derived.ChangeKeysEq
import Derived.HandedShaped
import Derived.ChangeStays
import Derived.ChangeSame
import Derived.OpenShut
import Derived.WideShapes
import Derived.JoinedOf
import Derived.ReadAgain
import Derived.ChangeAt
import Derived.RowKit
import Derived.Lib.Overlaps
import Derived.Shelf.SlSortCmp.NoneTotal
import Derived.WalkSmall
import Derived.Recover
import Derived.Lib.Bytealg
import Derived.Test.YthfgphcennamkaaGreatDoorK5w5
namespace Go.Proofs.YthfgphcennamkaaGreatDoor
section
open Go Go.Dc Go.Proofs
section
variable {N:Nat} {L:List bV} {env:nD} {w:Int} {Z:Int->BA->Prop} {F:Int->Prop} {n:Nat} {D a:Nat} {t:Aa} {vs:List Int} {s:Es} {x:Ex}
theorem qQx(A:AI N L env w Z F n)(l:Cnd n s)(f:3*n<=D)(g:a<=64)(u:uG Z F t)(r:t.2.2.2.1.length=vs.length)(y:∀v∈vs,VB v){j k:Nat}(b:x.2.2.2.2=[(j:Int),(k:Int)])(M:j<t.2.2.2.2.length)(R:k<t.2.2.2.2.length):
  qQ a (bE (ev (iZ L env w) n a t vs (nT x 0) s) fun p s=>bE (ev (iZ L env w) n a t vs (nT x 1) s) fun q s=>(s,arP x.2.2.1 p q)) (GB N (D+1) (dP (iF L) env w (lS s a)) (t.1,t.2,vs) x):=by
 have E:nT x 0=(j:Int):=by unfold nT;rw[b];rfl
 have G:nT x 1=(k:Int):=by unfold nT;rw[b];rfl
 have e:bQ x.2.2.2.2 0=some (j:Int):=by rw[b];rfl
 have z:bQ x.2.2.2.2 1=some (k:Int):=by rw[b];rfl
 rw[E,G]
 have H:=A D a t vs j s l f g u r y aa aa
 have c:=Gr.ev (iZ L env w) n a t vs j s
 revert H c
 generalize ev (iZ L env w) n a t vs j s=o
 obtain⟨s1,er|p⟩:=o
 .rintro⟨a',h⟩ _;exact⟨a',qPf e h⟩
 rintro⟨h,S⟩ c
 have K:=A D a t vs k s1 (l.gr c) f g u r y aa aa
 simp only[bE]
 revert K
 generalize ev (iZ L env w) n a t vs k s1=o
 obtain⟨s2,er|q⟩:=o
 .rintro⟨a',d⟩;exact⟨a',qPm e z h d⟩
 rintro⟨d,B⟩
 rw[qSi e z h d]
 exact qTa B a s2
theorem qSa{m:nA}{W:AA}{c:JJ}{a:Int}{z:Int×nA}(d:bQ x.2.2.2.2 0=some a)(b:GN N D (dP W env w m) c a=some (.inl z)):GI N (D+1) (dP W env w m) c x=some (.inl z):=by
 show BD N (GN N D) (GE N D) (GC N D) (GB N D) (GI N D) (GR N D) (dP W env w m) c x=_
 unfold BD
 rw[d,j0,show GN N D _ _ a=some (.inl z) from b];rfl
theorem qEd{m d:nA}{W:AA}{c:JJ}{b j p:Int}{o:pI}(k:bQ x.2.2.2.2 0=some b)(a:bQ x.2.2.2.2 (if p=0 then 2 else 1)=some j)(h:GN N D (dP W env w m) c b=some (.inr (d,p)))(e:GN N D (dP W env w d) c j=some o):
  GI N (D+1) (dP W env w m) c x=some o:=by
 show BD N (GN N D) (GE N D) (GC N D) (GB N D) (GI N D) (GR N D) (dP W env w m) c x=_
 unfold BD
 obtain⟨f,s1,g,l⟩:=d
 rw[k,j0,show GN N D _ _ b=some (.inr ((f,s1,g,l),p)) from h,j0]
 dsimp only
 by_cases hp:p=0
 .rw[if_pos hp] at a
  rw[if_neg (by simpa using hp),a,j0,show GN N D _ _ j=some o from e]
  cases o<;>rfl
 rw[if_neg hp] at a
 rw[if_pos (by simpa using hp),a,j0,show GN N D _ _ j=some o from e]
 cases o<;>rfl
theorem qSt(G:AI N L env w Z F n)(r:Cnd n s)(f:3*n<=D)(g:a<=64)(B:uG Z F t)(z:t.2.2.2.1.length=vs.length)(E:∀v∈vs,VB v){j k l:Nat}(d:x.2.2.2.2=[(j:Int),(k:Int),(l:Int)])(V:j<t.2.2.2.2.length)(K:k<t.2.2.2.2.length)(A:l<t.2.2.2.2.length):
  qQ a (bE (ev (iZ L env w) n a t vs (nT x 0) s) fun p s=>ev (iZ L env w) n a t vs (nT x (if p=0 then 2 else 1)) s) (GI N (D+1) (dP (iF L) env w (lS s a)) (t.1,t.2,vs) x):=by
 have R:nT x 0=(j:Int):=by unfold nT;rw[d];rfl
 have e:bQ x.2.2.2.2 0=some (j:Int):=by rw[d];rfl
 rw[R]
 have S:=G D a t vs j s r f g B z E aa aa
 have b:=Gr.ev (iZ L env w) n a t vs j s
 revert S b
 generalize ev (iZ L env w) n a t vs j s=o
 obtain⟨s1,er|p⟩:=o
 .rintro⟨a',h⟩ _;exact⟨a',qSa e h⟩
 rintro⟨h,Y⟩ b
 simp only[bE]
 have u:∃y:Nat,nT x (if p=0 then 2 else 1)=(y:Int)/\bQ x.2.2.2.2 (if p=0 then 2 else 1)=some (y:Int)/\y<t.2.2.2.2.length:=by
  unfold nT
  rw[d]
  split
  .exact⟨l,rfl,rfl,A⟩
  exact⟨k,rfl,rfl,K⟩
 obtain⟨y,y1,H,y3⟩:=u
 rw[y1]
 have U:=G D a t vs y s1 (r.gr b) f g B z E aa aa
 revert U
 generalize ev (iZ L env w) n a t vs y s1=o
 obtain⟨s2,er|q⟩:=o
 .rintro⟨a',c⟩;exact⟨a',qEd e H h c⟩
 rintro⟨c,M⟩;exact⟨qEd e H h c,M⟩
theorem qTc{v:Int}:Int.tmod (IntKind.wrap .i64 ((Int.tmod v 256)+256)) 256=v%256:=by
 have e: -256<Int.tmod v 256/\Int.tmod v 256<256:=by
  constructor
  .have:=Int.lt_tmod_of_pos v (show(0:Int)<256 by decide);omega
  exact Int.tmod_lt_of_pos v ac
 rw[bY aa aa]
 have c:Int.tmod (Int.tmod v 256+256) 256=(Int.tmod v 256+256)%256:=Int.tmod_eq_emod_of_nonneg aa
 rw[c]
 have d:=Int.tmod_eq_emod (a:=v) (b:=256)
 rw[d]
 split<;>omega
theorem qDu(i m:Int):(if decide (i<0)=true then some true else some (decide (i>=m)):Option Bool)=some (!decide (0<=i/\i<m)):=by
 by_cases h:i<0
 .rw[if_pos (jL h),jR aa];rfl
 rw[if_neg (by simpa using h)]
 by_cases g:i<m
 .rw[jL (show 0<=i/\i<m by omega),jR aa];rfl
 rw[jR (show ¬(0<=i/\i<m) by omega),jL aa];rfl
theorem qOq(H:Wrl N L env Z F)(K:AI N L env w Z F n)(U:Cnd n s)(S:3*n<=D)(B:a<=64)(ht:uG Z F t)(Y:t.2.2.2.1.length=vs.length)(z:∀v∈vs,VB v){j:Nat}(E:x.2.2.2.2=[(j:Int)])(hj:j<t.2.2.2.2.length):
  qQ a (bE (lV s (pF L x.2.2.2.1).1,(pF L x.2.2.2.1).2) fun u s=>bE (ev (iZ L env w) n a t vs (nT x 0) s) fun i s=>
   match u with
   | .inl b=>if 0<=i/\i<b.size then(s,.inr ((b.data.toList.getD i.toNat 0).toNat:Int)) else(s,.inl 3)
   | .inr u=>if i=0 then bE (oG (ev (iZ L env w) n) a u [] s) fun v s=>(s,.inr (v%256)) else(s,.inl 3)) (GR N (D+2) (dP (iF L) env w (lS s a)) (t.1,t.2,vs) x):=by
 show qQ a _ (KT N (GN N (D+1)) (GE N (D+1)) (GC N (D+1)) (GB N (D+1)) (GI N (D+1)) (GR N (D+1)) (dP (iF L) env w (lS s a)) (t.1,t.2,vs) x)
 unfold KT
 have o0:nT x 0=(j:Int):=by unfold nT;rw[E];rfl
 have G:bQ x.2.2.2.2 0=some (j:Int):=by rw[E];rfl
 rw[show vQ N _ _=_ from TB (w:=w) H x.2.2.2.1 s a,j0,TG,o0]
 have d:=U.gr (Gr.see s (pF L x.2.2.2.1).1)
 have l:=K (D+1) a t vs j _ d aa B ht Y z aa aa
 have c:=Gr.ev (iZ L env w) n a t vs j (lV s (pF L x.2.2.2.1).1)
 rcases MR H x.2.2.2.1 with ⟨b,hb,f,g⟩|⟨ks,e,V,f,g⟩|⟨q,ks,f,g⟩
 .rw[f] at l c d ⊢
  rw[g]
  rw[show(bif decide ((false,qM,b,(0:Int)).2.2.2≠0) then(.inl (false,qM,b,(0:Int)).2.2.2:Int⊕Unit) else .inr ())= .inr () from rfl,j0]
  simp only[bE,j9,jD,j0,G]
  revert l c
  generalize ev (iZ L env w) n a t vs j _=o
  obtain⟨s1,er|i⟩:=o
  .rintro _ ⟨a',h⟩
   rw[show GN N (D+1) _ _ (j:Int)=_ from h]
   exact⟨a',rfl⟩
  rintro c ⟨h,hp⟩
  rw[show GN N (D+1) _ _ (j:Int)=_ from h]
  simp only[j0]
  rw[qDu,j0,uN,j0]
  by_cases hi:0<=i/\i<b.size
  .rw[if_pos hi,jL hi]
   obtain⟨k,rfl⟩:∃k:Nat,i=(k:Int):=⟨i.toNat,by omega⟩
   have p:k<b.data.toList.length:=by have:=hi.2;simp only[ByteArray.size] at this;simp only[Array.length_toList];omega
   show qQ a _ ((eX b (k:Int)).bind fun y=>some (Sum.inr (lS s1 a,IntKind.wrap .i64 (y.toNat:Int))))
   have r:(b.data.toList[k]).toNat<256:=UInt8.toNat_lt _
   rw[nF p,j0,bY aa aa,jZ,jT,List.getElem?_eq_getElem p,dF]
   exact⟨rfl,by unfold VB;omega⟩
  rw[if_neg hi,jR hi]
  exact⟨_,rfl⟩
 .rw[f,g,jL V]
  exact⟨_,rfl⟩
 rw[f] at l c d ⊢
 rw[g]
 obtain⟨M,A,R⟩:=DK H q
 have y:(mE L (cU L 3 iE x.2.2.2.1)).2.2.2.1=[]:=A.1.2.2.2 (by rw[R];decide)
 rw[show(bif decide ((true,cU L 3 iE x.2.2.2.1,iE,(0:Int)).2.2.2≠0) then(.inl (true,cU L 3 iE x.2.2.2.1,iE,(0:Int)).2.2.2:Int⊕Unit) else .inr ())= .inr () from rfl,j0]
 simp only[bE,jE,j0,G]
 revert l c
 generalize ev (iZ L env w) n a t vs j _=o
 obtain⟨s1,er|i⟩:=o
 .rintro _ ⟨a',h⟩
  rw[show GN N (D+1) _ _ (j:Int)=_ from h]
  exact⟨a',rfl⟩
 rintro c ⟨h,hp⟩
 rw[show GN N (D+1) _ _ (j:Int)=_ from h]
 simp only[j0]
 rw[qDu,j0,uN,j0]
 by_cases hi:i=0
 .subst hi
  have r:=RZ K (a:=a) (d.gr c) S B M A (vs:=[]) (by rw[y];rfl) (fun v z=>by cases z)
  rw[if_pos rfl,jL (show(0:Int)<=0/\(0:Int)<1 by decide)]
  simp only[kJ,cond_false,j9,jD]
  revert r
  generalize oG (ev (iZ L env w) n) a (mE L (cU L 3 iE x.2.2.2.1)) [] s1=o2
  obtain⟨s2,er|v⟩:=o2
  .rintro⟨a',p⟩
   rw[show GE N (D+1) _ _ []=_ from p]
   exact⟨a',rfl⟩
  rintro⟨p,h5⟩
  rw[show GE N (D+1) _ _ []=_ from p]
  simp only[j0,qTc]
  exact⟨rfl,by unfold VB;omega⟩
 rw[if_neg hi,jR (show ¬(0<=i/\i<1) by omega)]
 exact⟨_,rfl⟩
theorem qEk(H:Wrl N L env Z F):∀n,AI N L env w Z F n
 |0,_,_,_,_,_,s,r,_,_,_,_,_,_,_=>by have:=r.1;have:=r.2;omega
 |n+1,D,a,t,vs,i,s,r,Y,A,u,B,z,V,hi=>by
  have E:=qEk H n
  obtain⟨D,rfl⟩:∃D',D=D'+3:=⟨D-3,by omega⟩
  have hD':3*n<=D:=by omega
  unfold ev
  by_cases hs:s.2.1=20000
  .rw[if_pos hs]
   exact⟨(a:Int),qOf (t:=lS s a) (by show((s.2.1:Nat):Int)=20000;omega)⟩
  rw[if_neg hs]
  have hs':(lS s a).2.1≠20000:=by show((s.2.1:Nat):Int)≠20000;omega
  obtain⟨k,rfl⟩:∃k:Nat,i=(k:Int):=⟨i.toNat,by omega⟩
  have M:k<t.2.2.2.2.length:=by omega
  rw[jZ,List.getElem?_eq_getElem M]
  dsimp only
  have g:bQ ((t.1,t.2,vs):JJ).2.1.2.2.2 (k:Int)=some t.2.2.2.2[k]:=eS M
  have G:=u.1.1.1 k _ (List.getElem?_eq_getElem M)
  generalize t.2.2.2.2[k]=x at g G
  have d:up (lS s a)=lS (s.1,s.2.1+1,s.2.2) a:=by
   show(nW s.1,IntKind.wrap .i64 ((s.2.1:Int)+1),(a:Int),s.2.2)=(nW s.1,((s.2.1+1:Nat):Int),(a:Int),s.2.2)
   have:=r.1
   rw[bY aa aa];rfl
  have q:Cnd n (s.1,s.2.1+1,s.2.2):=⟨by have:=r.1;show s.2.1+1<=20000;omega,by have:=r.2;show 20000<s.2.1+1+n;omega⟩
  have o:∀j:Nat,j<k->j<t.2.2.2.2.length:=fun j R=>by omega
  unfold uZ
  rcases G with ⟨b,e,h⟩|⟨b,e,h⟩|⟨b,-,e,h⟩|⟨b,j,l,e,h,K⟩|⟨b,j,l,m,e,h,K,U⟩|⟨b,-,j,e,h⟩|⟨b,-⟩|⟨b,e,h,-⟩
  .rw[if_pos b,qPv hs' g b,d]
   exact⟨rfl,by unfold VB;omega⟩
  .obtain⟨p,S⟩:∃p:Nat,x.2.1=(p:Int):=⟨x.2.1.toNat,by omega⟩
   have y:p<vs.length:=by omega
   rw[if_neg aa,if_pos b,qOv hs' g b (v:=vs[p]) (by rw[S];exact eS y),d,S,jZ,jT,List.getElem?_eq_getElem y]
   exact⟨rfl,z _ (jS y)⟩
  .rw[if_neg aa,if_neg aa,if_pos b,qNn hs' g b,d,show(iZ L env w).cl t.1 x.2.2.2.1=_ from if_neg (by have:=u.2.1;omega)]
   exact qOr H E q hD' A u B z e fun j R=>by have:=h j R;omega
  .rw[if_neg aa,if_neg aa,if_neg aa,if_pos b,qOz hs' g b,d]
   exact qQx E q aa A u B z e (o _ h) (o _ K)
  .rw[if_neg aa,if_neg aa,if_neg aa,if_neg aa,if_pos b,qSc hs' g b,d]
   exact qSt E q aa A u B z e (o _ h) (o _ K) (o _ U)
  .rw[if_neg aa,if_neg aa,if_neg aa,if_neg aa,if_neg aa,if_pos b]
   rw[uO (f:=50) hs' g (by rw[b];rfl) rfl,d]
   exact qOq H E q hD' A u B z e (o _ h)
  .rcases b with b|b|b
   .rw[if_neg aa,if_neg aa,if_neg aa,if_neg aa,if_neg aa,if_neg aa,if_pos b]
    rw[uO (f:=51) hs' g (by rw[b];rfl) rfl,d]
    exact qSf (c:=(t.1,t.2,vs)) H
   .rw[if_neg aa,if_neg aa,if_neg aa,if_neg aa,if_neg aa,if_neg aa,if_neg aa,if_pos b]
    rw[uO (f:=52) hs' g (by rw[b];rfl) rfl,d]
    exact qSx (c:=(t.1,t.2,vs)) H
   rw[if_neg aa,if_neg aa,if_neg aa,if_neg aa,if_neg aa,if_neg aa,if_neg aa,if_neg aa,if_pos b]
   rw[uO (f:=53) hs' g (by rw[b];rfl) rfl,d]
   exact qSl (c:=(t.1,t.2,vs)) H
  rw[if_neg aa,if_neg aa,if_neg aa,if_neg aa,if_neg aa,if_neg aa,if_neg aa,if_neg aa,if_neg aa]
  rw[uO (f:=54) hs' g (by rw[b];rfl) rfl,d]
  exact qRp (N:=N) (c:=(t.1,t.2,vs)) e
end
abbrev IQ:Ky->Ky->Int:=rO tV (rO pK pK)
theorem cmpKy_lin:Lin IQ:=NK qBc (NK NC NC)
def xZ(o:EI):List Ky:=xV (ltOf IQ) ((Option.getD o []).map (·.1))
theorem qNc{l k:List Ky}(h:l.Perm k):xV (ltOf IQ) l=xV (ltOf IQ) k:=
 QQ (r:=fun x y=>ltOf IQ y x=false) (fun x y a b=>cmpKy_lin.total x y b a) ((CP l).trans (h.trans (CP k).symm)) (MO cmpKy_lin l) (MO cmpKy_lin k)
theorem qDq{N:Nat}:∀(k:List (Ky×Bool)) (acc:List Ky),acc.length+k.length<1000000->lG (FJ N) k acc=some (acc++k.map (·.1))
 |[],acc,_=>by simp[lG,FJ]
 |x::k,acc,h=>by
  simp only[jA] at h
  simp only[lG,FJ]
  rw[show eQ 40 acc [(x.1.1,x.1.2.1,x.1.2.2)]=some (acc++[x.1]) from lB (by simp only[jA,jB];omega) aa]
  simp only[j0]
  rw[qDq k (acc++[x.1]) (by simp only[jF,jA,jB];omega)]
  simp
def EG(o:Eo Int):Int×Int×Int:=match o.2 with
 | .inr v=>if v=0 then(2,0,0) else(1,v,0)
 | .inl e=>(3,0,e)
theorem qRu{N:Nat}{m:OM}{E:IY}{args:List Int}{o:Eo Int}{a:Nat}(p:40<N)(h:qQ a o (BO N m E args))(r:(Option.getD (nW o.1.1) []).length<1000000):
  ∃t,yV N m E args=some (t,(EG o,o.1.2.2,xZ (nW o.1.1),(o.1.2.1:Int))):=by
 have key:∀(q:pI),(AD q).1=nW o.1.1->(AD q).2.1=(o.1.2.1:Int)->(AD q).2.2.2=o.1.2.2->(OK q,OJ q,ON q)=EG o->BO N m E args=some q->∃t,yV N m E args=some (t,(EG o,o.1.2.2,xZ (nW o.1.1),(o.1.2.1:Int))):=fun q c d f g l=>by
  refine⟨AD q,?_⟩
  unfold yV
  rw[show FG N _ _ _=_ from qOb l,j0]
  dsimp only
  rw[c,d,f,g]
  rw[show JL (nW o.1.1)=some () from rfl,j0]
  refine qLh fun k b=> ?_
  rw[qDq k [] (by rw[jB,b.length_eq];omega),kE,j0]
  have n:yO N (k.map (·.1))=some (xZ (nW o.1.1)):=by
   unfold yO
   rw[if_pos ⟨by omega,by rw[gG,b.length_eq];omega⟩]
   unfold xZ
   exact congrArg some (qNc (b.map _))
  rw[n];rfl
 obtain⟨s,e|v⟩:=o
 .obtain⟨a',h⟩:=h
  exact key _ rfl rfl rfl rfl h
 obtain⟨h,-⟩:=h
 refine key _ rfl rfl rfl ?_ h
 show(if v=0 then 2 else 1,v,0)=EG (s,.inr v)
 unfold EG
 dsimp only
 split
 .rename_i h0;rw[h0]
 rfl
def oP(L:List bV)(env:nD)(w:Int)(P T:BA):Eo Int:=oG (ev (iZ L env w) 20001) 0 (mE L (cU L 2 P T)) [] ([(2,P,T)],0,false)
def tX(o:Eo Int):(Int×Int×Int)×Bool×List Ky×Int:=(EG o,o.1.2.2,xZ (nW o.1.1),(o.1.2.1:Int))
theorem qCt:∀(ks:List Ky) (M:List (Ky×Bool)),(M.map (·.1)).Nodup->((ks.foldl (fun M k=>mset M k true) M).map (·.1)).Nodup/\(ks.foldl (fun M k=>mset M k true) M).length<=M.length+ks.length
 |[],M,h=>⟨h,jM _⟩
 |k::ks,M,h=>by
  rw[kC,jA]
  have c:=qPg h k true
  obtain⟨a,b⟩:=qCt ks (mset M k true) (QX h k true)
  exact⟨a,by omega⟩
def Qk(s:Es):Prop:=s.1.length<=10*s.2.1+1
theorem Qk.bE{α β:Type}{o:Eo α}{k:α->Es->Eo β}(h:Qk o.1)(a:∀v u,Qk u->Qk (k v u).1):Qk (bE o k).1:=by
 obtain⟨u,e|v⟩:=o
 .exact h
 exact a v u h
def QkF(F:uC):Prop:=∀a c vs i s,Qk s->Qk (F a c vs i s).1
theorem Qk.seq{F:Int->Es->Eo Int}(h:∀i s,Qk s->Qk (F i s).1):∀(l:List Int) (s:Es),Qk s->Qk (rQ F l s).1
 |[],_,a=>a
 |i::l,s,a=>(h i s a).bE fun _ u b=>(Qk.seq h l u b).bE fun _ _ b=>b
theorem Qk.enter{F:uC}(h:QkF F)(a:Nat)(t:Aa)(vs:List Int)(s:Es)(b:Qk s):Qk (oG F a t vs s).1:=by
 unfold oG
 split
 .exact b
 exact h _ _ _ _ _ b
theorem JE{s:Es}{l:List Ky}(h:s.1.length+9<=10*s.2.1+1)(a:l.length<=9):Qk (lV s l):=by
 show(s.1++l).length<=10*s.2.1+1
 rw[jF];omega
theorem Qk.node{I:Lk}{F:uC}(k:(∀f nm,(I.cl f nm).1.length<=9)/\∀p,(I.dt p).1.length<=9)(h:QkF F)(a:Nat)(c:Aa)(vs:List Int)(x:Ex)(s:Es)(e:s.1.length+9<=10*s.2.1+1):Qk (uZ I F a c vs x s).1:=by
 have g:Qk s:=by unfold Qk;omega
 unfold uZ
 split
 .exact g
 split
 .exact g
 split
 .refine Qk.bE (o:=(lV s _,_)) (JE e (k.1 ..)) fun t u d=>(Qk.seq (fun i s e=>h _ _ _ _ _ e) _ u d).bE fun us u d=> ?_
  split
  .exact .enter h _ _ _ _ d
  exact d
 split
 .exact(h _ _ _ _ _ g).bE fun _ u d=>(h _ _ _ _ _ d).bE fun _ u d=>d
 split
 .exact(h _ _ _ _ _ g).bE fun _ u d=>h _ _ _ _ _ d
 split
 .refine Qk.bE (o:=(lV s _,_)) (JE e (k.2 ..)) fun t u d=>(h _ _ _ _ _ d).bE fun i u d=> ?_
  cases t with
  |inl b=>dsimp only;split<;>exact d
  |inr t=>
   dsimp only
   split
   .exact(Qk.enter h _ _ _ _ d).bE fun _ u d=>d
   exact d
 split
 .exact Qk.bE (o:=(lV s _,_)) (JE e (k.2 ..)) fun _ u d=>d
 split
 .exact JE e (k.2 ..)
 split
 .exact JE e (by show 1<=9;decide)
 exact g
theorem Qk.ev{I:Lk}(d:(∀f nm,(I.cl f nm).1.length<=9)/\∀p,(I.dt p).1.length<=9):∀n,QkF (ev I n)
 |0,_,_,_,_,_,b=>b
 |n+1,a,c,vs,i,s,b=>by
  unfold Go.Proofs.YthfgphcennamkaaGreatDoor.ev
  split
  .exact b
  split
  .exact b
  exact .node d (Qk.ev d n) _ _ _ _ _ (by unfold Qk at b;show s.1.length+9<=10*(s.2.1+1)+1;omega)
theorem qRx(L:List bV)(env:nD)(w:Int):(∀f nm,((iZ L env w).cl f nm).1.length<=9)/\∀p,((iZ L env w).dt p).1.length<=9:=by
 refine⟨fun f nm=> ?_,fun p=> ?_⟩
 .show(if 8<f.2.1.length then([],.inl 0) else zW L _:List Ky×(Int⊕Aa)).1.length<=9
  split
  .exact kG _
  have:=(NF (E:=fun p=>cU L 1 p nm) (nm:=nm) (fun p=>HM L 1 p _) (f.1::f.2.1) []).2
  simp only[jA,jB] at this
  show(qL (fun p=>cU L 1 p nm) nm (f.1::f.2.1) []).2.1.length<=9
  omega
 show(pF L p).1.length<=9
 unfold pF
 split
 .show 1<=9;decide
 show 2<=9;decide
theorem ZH(L:List bV)(env:nD)(w:Int)(P T:BA):(Option.getD (nW (oP L env w P T).1.1) []).length<1000000:=by
 have a:Qk (oP L env w P T).1:=Qk.enter (Qk.ev (qRx L env w) 20001) _ _ _ _ (by show 1<=10*0+1;decide)
 have b:(oP L env w P T).1.2.1<=20000:=(Gr.enter (Gr.ev (iZ L env w) 20001) 0 (mE L (cU L 2 P T)) [] ([(2,P,T)],0,false)).2.2.1 (kG _)
 have:=(qCt (oP L env w P T).1.1 [] List.nodup_nil).2
 unfold Qk at a
 show((oP L env w P T).1.1.foldl (fun M k=>mset M k true) []).length<1000000
 simp only[jB] at this
 omega
theorem qPx{o:EI}(h:(Option.getD o []).length<1000000):(xZ o).length<1000000:=by
 unfold xZ
 rw[(CP _).length_eq,gG];exact h
section
variable {N:Nat} {L:List bV} {env:nD} {w:Int} {Z:Int->BA->Prop} {F:Int->Prop}
theorem UA(H:Wrl N L env Z F)(B:IE N L)(A:BE N env=some true){P T:BA}(h:(cU L 2 P T).2.2.2.2.2=1):
  uK N L env w (P,T)=some (tX (oP L env w P T),0):=by
 have U:=H.hN
 obtain⟨M,rfl⟩:∃M,N=M+70000:=⟨N-70000,by omega⟩
 obtain⟨y,g,z⟩:=DK H h
 have f:(mE L (cU L 2 P T)).2.2.2.1=[]:=g.1.2.2.2 (by rw[z];decide)
 unfold uK
 have eW:(iF L).2.1=true:=by unfold iF;rw[if_pos H.hc]
 rw[qTo B aa,j0,if_neg (by rw[eW];decide),A]
 simp only[j0]
 rw[if_neg ac,show vV (M+70000) _ 2 P T=_ from NJ 2 P T,j0,if_neg (by rw[h];decide)]
 have G:∀{α:Type} (K:Option (List (Int×Option Nat))->Option α),((dZ (some []:Option (List (Int×Option Nat))) 1 (some 45:Option Nat)).bind fun k=>(dZ k 2 (some 46:Option Nat)).bind fun l=>(dZ l 3 (some 47:Option Nat)).bind fun n=>(dZ n 4 (some 48:Option Nat)).bind fun o=>(dZ o 5 (some 49:Option Nat)).bind fun p=>(dZ p 6 (some 50:Option Nat)).bind fun q=>(dZ q 7 (some 51:Option Nat)).bind fun r=>(dZ r 8 (some 52:Option Nat)).bind fun u=>(dZ u 9 (some 53:Option Nat)).bind fun x=>(dZ x 10 (some 54:Option Nat)).bind K)=K ndC:=fun K=>by rfl
 rw[G]
 have b:pR (M+70000) (dP (iF L) env w (some [],0,0,false)) [(2,P,T)]=some (lS ([(2,P,T)],0,false) 0):=ID (N:=M+70000) (W:=iF L) (env:=env) (w:=w) (s:=([],0,false)) (a:=0) (ks:=[(2,P,T)]) (by show 1<1000000;decide) (by show 1<M+70000;omega)
 rw[show pR (M+70000) _ [(2,P,T)]=_ from b,j0]
 have c:=RZ (qEk (w:=w) H 20001) (D:=M+69999) (a:=0) (s:=([(2,P,T)],0,false)) (e:=cU L 2 P T) (vs:=[]) ⟨kG _,by show 20000<0+20001;decide⟩ aa ac y g (by rw[f];rfl) (fun v S=>by cases S)
 have d:=ZH L env w P T
 obtain⟨t,R⟩:=qRu (N:=M+70000) (m:=dP (iF L) env w (lS ([(2,P,T)],0,false) 0)) (E:=cU L 2 P T) (args:=[]) aa c d
 rw[show yV (M+70000) _ _ []=_ from R]
 rfl
end
theorem qCa(n k:Nat)(c:k<64):wS (n:Int) (k:Int)=((n.testBit k).toNat:Int):=by
 have a:wR .u64 (n:Int) (k:Int)=some ((n/2^k:Nat):Int):=by
  unfold wR
  rw[if_neg aa,jZ,Nat.min_eq_left (show k<=IntKind.u64.bits from Nat.le_of_lt c)]
  exact congrArg some (by rw[Int.fdiv_eq_ediv_of_nonneg _ (by exact_mod_cast kG _)];norm_cast)
 have b:∀m:Nat,IntKind.wrap .i64 (yA .u64 (m:Int) 1)=((m%2:Nat):Int):=fun m=>by
  unfold yA
  have e:(BitVec.ofInt IntKind.u64.bits (m:Int)&&&BitVec.ofInt IntKind.u64.bits 1).toNat=m%2:=by
   rw[show IntKind.u64.bits=64 from rfl,BitVec.toNat_and,BitVec.ofInt_natCast,BitVec.toNat_ofNat,show(BitVec.ofInt 64 1).toNat=1 from rfl,Nat.and_one_is_mod]
   omega
  rw[e]
  have:m%2<2:=Nat.mod_lt _ ac
  rcases(by omega:m%2=0\/m%2=1) with h|h<;>rw[h]<;>rfl
 unfold wS
 rw[a,dF,b]
 rw[Nat.testBit_eq_decide_div_mod_eq]
 rcases(by omega:n/2^k%2=0\/n/2^k%2=1) with h|h<;>rw[h]<;>rfl
theorem qQu(n:Nat)(a:n<2^64):vA .u64 (n:Int) 1099511627776=((n^^^2^40:Nat):Int):=by
 unfold vA
 have e:(BitVec.ofInt IntKind.u64.bits (n:Int)^^^BitVec.ofInt IntKind.u64.bits 1099511627776).toNat=n^^^2^40:=by
  rw[show IntKind.u64.bits=64 from rfl,BitVec.toNat_xor,BitVec.ofInt_natCast,BitVec.toNat_ofNat,Nat.mod_eq_of_lt a];rfl
 rw[e]
 have:=Nat.xor_lt_two_pow a (show 2^40<2^64 by decide)
 have b:∀z:Int,IntKind.wrap .u64 z=z%18446744073709551616:=fun z=>by simp[IntKind.wrap,IntKind.signed,IntKind.bits]
 rw[b]
 omega
theorem qOa(n k:Nat)(b:n<2^64)(a:k<64)(h:k≠40):wS (vA .u64 (n:Int) 1099511627776) (k:Int)=wS (n:Int) (k:Int):=by
 rw[qQu n b,qCa _ k a,qCa _ k a,Nat.testBit_xor,Nat.testBit_two_pow_of_ne (Ne.symm h),Bool.xor_false]
section
variable {N:Nat} {L:List bV} {env:nD} {Z:Int->BA->Prop} {F:Int->Prop}
theorem RelS.same{G:Aa->Aa->Prop}:∀{p:Int⊕Aa},(∀t,p= .inr t->G t t)->RelS G p p
 | .inl _,_=>rfl
 | .inr t,h=>h t rfl
theorem RelD.same{G:Aa->Aa->Prop}:∀{p:Int⊕(BA⊕Aa)},(∀t,p= .inr (.inr t)->G t t)->RelD G p p
 | .inl _,_=>rfl
 | .inr (.inl _),_=>rfl
 | .inr (.inr t),h=>h t rfl
theorem qNv{a b:Int}{P T:BA}(h:(oP L env a P T).1.2.2=false):oP L env b P T=oP L env a P T:=by
 have c:Agr (iZ L env a) (iZ L env b) (fun s=>s.2.2=false) (fun t t'=>t=t'):={
  anti:=fun s s' g h=>by
   cases hs:s.2.2 with
   |false=>rfl
   |true=>rw[g.2.2.2 hs] at h;cases h
  body:=fun t t' e=>by rw[e]
  ar:=rfl
  cl:=fun t t' x s e _ _ _=>by subst e;exact⟨rfl,RelS.same fun _ _=>rfl⟩
  dt:=fun t t' x s _ _ _ _=>⟨rfl,RelD.same fun _ _=>rfl⟩
  en:=fun _ _ _ _ _ _ _ _=>rfl
  bt:=fun _ _ _ _ _ _ _ h=>by cases h}
 exact MU c (TV c 20001) rfl h
theorem qRv(H:Wrl N L env Z F){w:Int}{f:Sr}{nm:BA}{t:Aa}(h:((iZ L env w).cl f nm).2= .inr t):uG Z F t:=by
 have h:(if 8<f.2.1.length then([],.inl 0) else zW L (qL (fun p=>cU L 1 p nm) nm (f.1::f.2.1) []):List Ky×(Int⊕Aa)).2= .inr t:=h
 split at h
 .cases h
 unfold zW at h
 dsimp only at h
 split at h
 .rename_i h0
  obtain⟨p,a,b⟩:=(NF (E:=fun p=>cU L 1 p nm) (nm:=nm) (fun p=>HM L 1 p _) (f.1::f.2.1) []).1 h0
  rw[a] at h
  cases h
  exact(DK H b).2.1
 cases h
theorem qRh(H:Wrl N L env Z F){p:BA}{t:Aa}(h:(pF L p).2= .inr (.inr t)):uG Z F t:=by
 rcases MR H p with ⟨b,f,a,d⟩|⟨ks,e,g,a,d⟩|⟨c,ks,a,d⟩
 .rw[a] at h;cases h
 .rw[a] at h;cases h
 rw[a] at h;cases h;exact(DK H c).2.1
theorem qLo(H:Wrl N L env Z F){a b:Int}{P T:BA}(c:(cU L 2 P T).2.2.2.2.2=1)(o:∀k,0<=k->k<64->F k->wS b k=wS a k):oP L env b P T=oP L env a P T:=by
 have f:Agr (iZ L env a) (iZ L env b) (fun _=>True) (fun t t'=>t=t'/\uG Z F t):={
  anti:=fun _ _ _ _=>trivial
  body:=fun t t' e=>by rw[e.1]
  ar:=rfl
  cl:=fun t t' x s e _ _ _=>by obtain⟨rfl,-⟩:=e;exact⟨rfl,RelS.same fun _ h=>⟨rfl,qRv H (w:=a) h⟩⟩
  dt:=fun t t' x s _ _ _ _=>⟨rfl,RelD.same fun _ h=>⟨rfl,qRh H h⟩⟩
  en:=fun _ _ _ _ _ _ _ _=>rfl
  bt:=fun t t' x s e p d _=>by
   obtain⟨i,hi⟩:=List.mem_iff_getElem?.1 p
   rcases e.2.1.1.1 i x hi with ⟨c,-⟩|⟨c,-⟩|⟨c,-⟩|⟨c,-⟩|⟨c,-⟩|⟨c,-⟩|⟨c|c|c,-⟩|⟨-,g,l,n⟩
   .exact absurd c (d 1 ac ac)
   .exact absurd c (d 2 ac ac)
   .exact absurd c (d 3 ac ac)
   .exact absurd c (d 4 ac ac)
   .exact absurd c (d 5 ac ac)
   .exact absurd c (d 6 ac ac)
   .exact absurd c (d 7 ac ac)
   .exact absurd c (d 8 ac ac)
   .exact absurd c (d 9 ac ac)
   exact o _ g l n}
 exact MU f (TV f 20001) ⟨rfl,(DK H c).2.1⟩ trivial
end
abbrev Rn:=(Int×Int×Int)×Bool×List Ky×Int
theorem qMx{N:Nat}{r:Rn}(b:r.2.2.1.length<1000000)(a:r.2.2.1.length<N):vO N r r=some true:=by
 unfold vO
 rw[if_neg ad,if_neg ad,if_neg ad]
 simp only[fW,j0,j9,jD]
 have:=DC (f:=BC N r r) (fun i=>(i:Int)) r.2.2.1.length (.inl ()) (fun i hi=>by
  simp only[BC]
  rw[if_pos (by simpa using hi),eS hi,j0,j0,if_neg ad,bY aa aa];rfl) (by simp only[BC];rw[if_neg ad]) a
 rw[show aK (BC N r r) N 0=_ from this];rfl
def wU(x y:dS):Bool:=(BW 0 x y).getD false
theorem qNm{N:Nat}(x y:dS):BW N x y=some (wU x y):=by
 show BW 0 x y=_
 unfold wU BW
 split
 .rfl
 split
 .rfl
 split
 .rfl
 split<;>rfl
theorem qTt(x y:dS):((x.1.toList==y.1.toList)&&((x.2.1.toList==y.2.1.toList)&&((x.2.2.1==y.2.2.1)&&((x.2.2.2.1.toList==y.2.2.2.1.toList)&&((x.2.2.2.2.1==y.2.2.2.2.1)&&((x.2.2.2.2.2==y.2.2.2.2.2)&&true))))))=decide (x=y):=by
 obtain⟨a,b,c,d,e,f⟩:=x
 obtain⟨a',b',c',d',e',f'⟩:=y
 rw[jX]
 simp only[pO,jK,j6,kF,and_true,Prod.mk.injEq]
theorem qRd{N:Nat}{s2:List dS×Int}{y:dS}(d:s2.1.length<1000000)(c:s2.1.length<N):aK (yP N s2 y) N 0=some ((rP wU y s2.1:Nat):Int):=by
 have a:=ZY (b:=wU) (e:=y) (L:=s2.1) (f:=yP N s2 y) d (by
  intro i hi
  simp only[yP]
  rw[if_pos (by simp only[j6];omega),eS hi]
  have w:IntKind.wrap .i64 ((i:Int)+1)=((i+1:Nat):Int):=by rw[bY aa aa];omega
  simp only[j0,w,qNm]
  split<;>rfl) (by
  simp only[yP]
  rw[if_neg ad]
  rfl) s2.1.length 0 N aa c
 rw[jV,kU] at a
 exact a
theorem qNb{N:Nat}{out:List dS}{i:Int}{y:dS}(d:out.length<1000000)(l:out.length<N):
  ((aK (yP N (out,i) y) N 0).bind fun o4=>(if(decide (o4<((List.length out):Int)))=true then((bQ out o4).bind fun a=>some ((a.1.toList==y.1.toList)&&((a.2.1.toList==y.2.1.toList)&&((a.2.2.1==y.2.2.1)&&((a.2.2.2.1.toList==y.2.2.2.1.toList)&&((a.2.2.2.2.1==y.2.2.2.2.1)&&((a.2.2.2.2.2==y.2.2.2.2.2)&&true))))))) else(some false):Option (Bool)).bind fun n=>if n=true then(some out) else((eQ 72 out ([y])).bind fun c=>(rR c (IntKind.wrap .i64 (o4+1)) (List.length c:Int)).bind fun _=>(rR c o4 (List.length c:Int)).bind fun _=>(wN c (IntKind.wrap .i64 (o4+1)) o4).bind fun h=>(bQ h o4).bind fun _=>some (List.set h (Int.toNat o4) y)):Option (List dS))=some (tW wU y out):=by
 rw[qRd (s2:=(out,i)) d l,qBu]
 have f:=qCp (b:=wU) (e:=y) out
 show((some ((rP wU y out:Nat):Int)).bind _)=_
 generalize rP wU y out=k at f
 simp only[j0,qTt]
 by_cases hc:(k:Int)<(out.length:Int)
 .have hi:k<out.length:=by omega
  rw[if_pos (by simpa using hi),eS hi]
  simp only[j0,List.getElem?_eq_getElem hi,jG,j6]
  by_cases he:out[k]=y
  .rw[if_pos he,if_pos he]
  rw[if_neg he,if_neg he]
  exact qDk f ac ac d
 rw[if_neg (by simpa using hc)]
 simp only[j0,j9,jD]
 rw[if_neg (by rw[List.getElem?_eq_none aa];intro g;cases g)]
 exact qDk f ac ac d
def qA(O:List nC)(pkg:BA)(out:List dS)(d:Dl):List dS:=tW wU (lW O d.1 pkg d.2.1) out
theorem qCg{N:Nat}{l:List (BA×Sr)}{x:Sr}{acc:List dS}(n:l.length<=64)(k:∀x∈l,x.2.2.2.length<=64)(p:x.2.2.length<=64)(o:1000000<N)(g:acc.length<=100000):
  aK (AX N (l.map (·.1),l.map (·.2)) x) N (acc,0)=some (x.2.2.foldl (qA (iP l) x.1) acc)/\(x.2.2.foldl (qA (iP l) x.1) acc).length<=acc.length+64:=by
 have a:∀(ds:List Dl) (t:List dS),(ds.foldl (qA (iP l) x.1) t).length<=t.length+ds.length:=by
  intro ds
  induction ds with
  |nil=>intro t;exact jM _
  |cons d ds b=>
   intro t
   have e:=b (qA (iP l) x.1 t d)
   have c:(qA (iP l) x.1 t d).length<=t.length+1:=NG
   simp only[kC,jA];omega
 refine⟨?_,by have:=a x.2.2 acc;omega⟩
 have h:=zB (L:=x.2.2) (fun(t:List dS) (i:Nat)=>(t,(i:Int))) (f:=AX N (l.map (·.1),l.map (·.2)) x)
  (fun t d=> .inl (qA (iP l) x.1 t d)) (fun t=>t) (fun i t=>t.length<=acc.length+i) (by
   intro t i hi b
   simp only[AX]
   rw[if_pos (by simp only[j6];omega),eS hi]
   have ew:IntKind.wrap .i64 ((i:Int)+1)=((i+1:Nat):Int):=by rw[bY aa aa];omega
   have e:=qNp (N:=N) (l:=l) (x.2.2[i]).1 x.1 (x.2.2[i]).2.1 n k aa
   simp only[j0,ew]
   refine Eq.trans (congrArg (fun z=>Option.bind (Option.bind z _) _) e) ?_
   simp only[j0]
   refine Eq.trans (congrArg (fun z=>Option.bind z _) (qNb (i:=(i:Int)) (y:=lW (iP l) (x.2.2[i]).1 x.1 (x.2.2[i]).2.1) (show t.length<1000000 by omega) (show t.length<N by omega))) ?_
   rfl) (by
   intro t i hi t' b h
   cases h
   have c:(qA (iP l) x.1 t x.2.2[i]).length<=t.length+1:=NG
   omega) (by
   intro t b
   simp only[AX]
   rw[if_neg ad]) (M:=N) (t:=acc) aa (jM _)
 rw[show((0:Nat):Int)=0 from rfl] at h
 rw[h,zJ (qA (iP l) x.1) (fun _ _=>rfl)]
def AllE(O:List nC)(l:List dS):Prop:=∀e∈l,∃k p n,e=lW O k p n
theorem AllE.ins{O:List nC}{pkg:BA}:∀(ds:List Dl) (l:List dS),AllE O l->AllE O (ds.foldl (qA O pkg) l)
 |[],_,h=>h
 |d::ds,l,h=>AllE.ins ds _ fun e a=>by
  rcases qBr.1 a with rfl|a
  .exact⟨_,_,_,rfl⟩
  exact h e a
theorem qIo{N:Nat}{L:List bV}(q:nP L=0)(s:1000005<N):∃E,LC N L=some E/\E.length<1000000/\AllE (iP (iB L)) E:=by
 simp only[LC,QY (show 100<N by omega),j0]
 rw[if_neg (by simp[q]),qLu s]
 obtain⟨b,a⟩:=qOc L
 rw[show xX L=iB L by unfold xX;rw[if_pos q]] at b a ⊢
 generalize iB L=l at b a
 simp only[j0]
 have h:=zB (L:=l) (fun(t:List dS) (i:Nat)=>(t,(i:Int))) (f:=FC N (l.map (·.1),l.map (·.2)))
  (fun t x=> .inl (x.2.2.2.foldl (qA (iP l) x.2.1) t)) (fun t=>t) (fun i t=>t.length<=64*i) (by
   intro t i hi c
   simp only[FC]
   have n:i<(l.map (·.2)).length:=by simpa using hi
   rw[if_pos (by simp only[j6];omega),eS n]
   have ew:IntKind.wrap .i64 ((i:Int)+1)=((i+1:Nat):Int):=by rw[bY aa aa];omega
   simp only[j0,ew,dG]
   rw[(qCg (x:=(l[i]).2) (acc:=t) b a (a _ (jS hi)) aa aa).1]
   rfl) (by
   intro t i hi t' c h
   cases h
   have:=(qCg (N:=N) (x:=(l[i]).2) (acc:=t) b a (a _ (jS hi)) aa aa).2
   omega) (by
   intro t c
   simp only[FC]
   rw[if_neg ad]) (M:=N) (t:=[]) aa (kG _)
 rw[show((0:Nat):Int)=0 from rfl] at h
 rw[zJ (fun t (x:BA×Sr)=>x.2.2.2.foldl (qA (iP l) x.2.1) t) (fun _ _=>rfl)] at h
 refine⟨_,congrArg (fun z=>Option.bind z _) h,?_⟩
 suffices g:∀(k:List (BA×Sr)) (t:List dS),(∀x∈k,x.2.2.2.length<=64)->AllE (iP l) t->(k.foldl (fun t (x:BA×Sr)=>x.2.2.2.foldl (qA (iP l) x.2.1) t) t).length<=t.length+64*k.length/\AllE (iP l) (k.foldl (fun t (x:BA×Sr)=>x.2.2.2.foldl (qA (iP l) x.2.1) t) t) by
  obtain⟨p,c⟩:=g l [] a (fun e n=>by cases n)
  exact⟨by simp only[jB] at p;omega,c⟩
 intro k
 induction k with
 |nil=>exact fun t _ h=>⟨jM _,h⟩
 |cons x k o=>
  intro t r u
  have D:=r x (jO ..)
  obtain⟨p,c⟩:=o (x.2.2.2.foldl (qA (iP l) x.2.1) t) (fun y v=>r y (jQ _ v)) (AllE.ins _ _ u)
  have n:∀(ds:List Dl) (t:List dS),(ds.foldl (qA (iP l) x.2.1) t).length<=t.length+ds.length:=by
   intro ds
   induction ds with
   |nil=>intro t;exact jM _
   |cons d ds o=>
    intro t
    have A:=o (qA (iP l) x.2.1 t d)
    have B:(qA (iP l) x.2.1 t d).length<=t.length+1:=NG
    simp only[kC,jA];omega
  have:=n x.2.2.2 t
  rw[kC]
  exact⟨by simp only[jA];omega,c⟩
theorem XI{α β:Type}(p:α->Bool)(g:α->β):∀(L:List α) (acc:List β),L.foldl (fun t x=>if p x=true then t++[g x] else t) acc=acc++(L.filter p).map g
 |[],acc=>by simp
 |x::L,acc=>by
  rw[kC,XI p g L,kZ]
  by_cases h:p x=true
  .rw[if_pos h,if_pos h];simp
  rw[if_neg h,if_neg h]
def xS(x:dS):Bool:=x.2.2.1==2&&x.2.2.2.2.2==1
abbrev Nm:=BA×BA
theorem qLi{N:Nat}{E:List dS}{f:List Nm×Int->Option ((List Nm×Int)⊕List Nm)}(g:E.length<1000000)(k:1000000<N)
  (c:∀s1:List Nm×Int,f s1=if(decide (s1.2<(List.length E:Int)))=true then(((bQ E s1.2).bind fun a=>(if(a.2.2.1==2)=true then(some (a.2.2.2.2.2==1)) else(some false):Option (Bool)).bind fun e=>if e=true then((eQ 32 s1.1 ([(a.1,a.2.1)])).bind fun d=>some d) else(some s1.1):Option ((List (BA×BA)))).bind fun o2=>some (.inl (o2,IntKind.wrap .i64 (s1.2+1)))) else(some (.inr s1.1))):
  aK f N ([],0)=some ((E.filter xS).map fun x=>(x.1,x.2.1)):=by
 have h:=zB (L:=E) (fun(t:List Nm) (i:Nat)=>(t,(i:Int))) (f:=f)
  (fun t x=> .inl (if xS x=true then t++[(x.1,x.2.1)] else t)) (fun t=>t) (fun i t=>t.length<=i) (by
   intro t i hi b
   rw[c]
   simp only
   rw[if_pos (by simp only[j6];omega),eS hi]
   have ew:IntKind.wrap .i64 ((i:Int)+1)=((i+1:Nat):Int):=by rw[bY aa aa];omega
   simp only[j0,ew]
   unfold xS
   by_cases h1:((E[i]).2.2.1==2)=true
   .rw[if_pos h1,h1]
    simp only[j0,dC]
    by_cases h2:((E[i]).2.2.2.2.2==1)=true
    .rw[if_pos h2,if_pos h2,lB (by simp only[jA,jB];omega) aa]
     rfl
    rw[if_neg h2,if_neg h2];rfl
   .have h1':((E[i]).2.2.1==2)=false:=by simpa using h1
    rw[if_neg h1,h1']
    simp only[j0,Bool.false_and,j9,jD]) (by
   intro t i hi t' b h
   cases h
   split
   .simp only[jF,jA,jB];omega
   .omega) (by
   intro t b
   rw[c]
   simp only
   rw[if_neg ad]) (M:=N) (t:=[]) aa (kG _)
 rw[show((0:Nat):Int)=0 from rfl] at h
 rw[h,zJ (fun t (x:dS)=>if xS x=true then t++[(x.1,x.2.1)] else t) (fun _ _=>rfl),XI xS (fun x=>(x.1,x.2.1))]
 simp
theorem qJk{N:Nat}{L:List bV}(d:nP L=0)(r:1000005<N):∃T:List Nm,LR N L=some T/\T.length<1000000/\∀x∈T,(cU L 2 x.1 x.2).2.2.2.2.2=1:=by
 obtain⟨E,l,o,q⟩:=qIo d r
 refine⟨(E.filter xS).map fun x=>(x.1,x.2.1),?_,?_,?_⟩
 .unfold LR
  rw[l]
  simp only[j0]
  rw[qLi (f:=PI N E) o aa (fun _=>rfl)]
  rfl
 .rw[gG]
  have:=fU xS E
  omega
 intro x t
 obtain⟨e,c,rfl⟩:=fC.1 t
 obtain⟨c,b⟩:=gM.1 c
 obtain⟨k,p,n,rfl⟩:=q e c
 obtain⟨g,h,a⟩:=qKh (iP (iB L)) k p n
 unfold xS at b
 simp only[jK,kF] at b
 have s:k=2:=h▸b.1
 subst s
 rcases a with a|a
 .cases a
 unfold cU
 rw[if_pos d,g,a]
 exact b.2
end
section
open Go Go.Dc
def sc:Nat->List UInt8->Option Nat
 |s,[]=>some s
 |s,c::l=>if s=2/\c≠57 then none else sc (if c=52 then 1 else if c=48/\s=1 then 2 else 0) l
theorem TW:∀(x y:List UInt8) (p:Nat),sc p (x++y)=(sc p x).bind fun q=>sc q y
 |[],_,_=>rfl
 |c::x,y,p=>by
  show(if p=2/\c≠57 then none else sc (if c=52 then 1 else if c=48/\p=1 then 2 else 0) (x++y))=((if p=2/\c≠57 then none else sc (if c=52 then 1 else if c=48/\p=1 then 2 else 0) x:Option Nat)).bind fun q=>sc q y
  split
  .rfl
  exact TW x y _
def Wt(x:BA)(p q n:Nat):Prop:=x.size<=n/\∀p0,p0<=p->∃a,a<=q/\sc p0 x.data.toList=some a
section
variable {x y:BA} {p q r n m:Nat}
theorem Wt.mono(h:Wt x p q n)(a:n<=m):Wt x p q m:=⟨kV h.1 a,h.2⟩
theorem Wt.up(h:Wt x p 0 n):Wt x p 1 n:=⟨h.1,fun p0 a=>by
 obtain⟨c,d,b⟩:=h.2 p0 a
 exact⟨c,by omega,b⟩⟩
theorem Wt.app(a:Wt x p q n)(b:Wt y q r m):Wt (x++y) p r (n+m):=by
 have e:(x++y).data.toList=x.data.toList++y.data.toList:=by simp
 refine⟨by rw[ByteArray.size_append];exact Nat.add_le_add a.1 b.1,fun p0 c=> ?_⟩
 obtain⟨k,d,f⟩:=a.2 p0 c
 obtain⟨l,g,h⟩:=b.2 k d
 exact⟨l,g,by rw[e,TW,f];exact h⟩
def JR(p q:Nat)(l:List UInt8):Bool:=(List.range (p+1)).all fun p0=>match sc p0 l with|some r=>decide (r<=q)|none=>false
theorem IM{l:List UInt8}(h:JR p q l=true):∀p0,p0<=p->∃a,a<=q/\sc p0 l=some a:=fun p0 b=>by
 have:=jN.1 h p0 (gS.2 aa)
 split at this
 .rename_i r hr;exact⟨r,gA this,hr⟩
 cases this
def litW(x:BA)(p q:Nat):Bool:=JR p q x.data.toList
theorem Wt.lit(k q:Nat)(h:litW x p q=true):Wt x p q (x.size+6*k):=⟨by omega,IM h⟩
def EC(x:BA):Bool:=decide (x.size<=7)&&JR 1 0 x.data.toList
theorem Wt.neu(h:EC x=true):Wt x 1 0 7/\Wt x 0 0 7:=by
 unfold EC at h
 simp only[jK,j6] at h
 exact⟨⟨h.1,IM h.2⟩,⟨h.1,fun p0 a=>IM h.2 p0 aa⟩⟩
end
section
variable {β:Type} {Q:β->Prop} {N:Nat} {l:List Int} {a:Int}
theorem Ok.catP{x y:BA}{f:BA->Option β}{p q r n m:Nat}(a:Wt x p q n)(b:Wt y q r m)(c:n+m<=1000000000)(h:∀s:BA,Wt s p r (n+m)->Ok (f s) Q):Ok ((dM x y).bind f) Q:=by
 have:=a.1
 have:=b.1
 unfold dM
 rw[if_pos (by simp only[maxLen];omega)]
 exact h _ (a.app b)
theorem Ok.catW{x y:BA}{f:BA->Option β}{q r n m:Nat}(b:Wt x 0 q n)(c:Wt y q r m)(a:n+m<=1000000000)(h:∀s:BA,Wt s 0 r (n+m)->Ok (f s) Q):Ok ((dM x y).bind f) Q:=Ok.catP b c a h
theorem Ok.oneW{L:List BA}{f:(List Int×Int)×BA->Option β}(c:0<=a)(d:a<4611686018427387904)(b:(decide (0<L.length)&&decide (L.length<1000)&&L.all EC)=true)(h:∀x:BA,Wt x 1 0 7->Wt x 0 0 7->Ok (f ((l,a+1),x)) Q):Ok ((mU N (l,a) L).bind f) Q:=by
 simp only[jK,j6] at b
 exact Ok.one c d b.1.1 b.1.2 fun x e=>by
  have:=Wt.neu (jN.1 b.2 x e)
  exact h x this.1 this.2
theorem Ok.onePW{L:List BA}{f:(List Int×Int)×BA->Option β}(d:0<=a)(e:a<4611686018427387904)(g:decide ((List.length L:Int)>0)=true)(b:L.length<1000)(c:∀x∈L,Wt x 0 0 7)(h:∀x:BA,Wt x 0 0 7->Ok (f ((l,a+1),x)) Q):Ok ((mU N (l,a) L).bind f) Q:=
 Ok.one d e (by have:=gA g;omega) b fun x k=>h x (c x k)
def OG(k:Nat):List Int:=if k=2 then[0,1,63] else[0,1,2,3,10,255,9007199254740992,1073741824]
theorem qOt(M k:Nat)(a:k=2\/k=16):((OG k).all fun x=>match rX (M+40) x with|some s=>decide (s.size<=k)&&JR 0 1 s.data.toList|none=>false)=true:=by
 rcases a with rfl|rfl
 .kernel_rfl
 kernel_rfl
theorem Ok.digitsW{x:Int}{k:Nat}{f:BA->Option β}(a:x∈OG k/\(k=2\/k=16))(b:100<N)(h:∀s:BA,Wt s 0 1 k->Ok (f s) Q):Ok ((rX N x).bind f) Q:=by
 obtain⟨M,rfl⟩:∃M,N=M+40:=⟨N-40,by omega⟩
 have:=jN.1 (qOt M k a.2) x a.1
 split at this
 .rename_i s hs
  rw[hs]
  simp only[jK,j6] at this
  exact h s ⟨this.1,IM this.2⟩
 cases this
theorem Ok.pickN(k:Nat){L:List Int}{f:(List Int×Int)×Int->Option β}(c:0<=a)(d:a<4611686018427387904)(b:(decide (0<L.length)&&decide (L.length<1000)&&(L.all fun x=>decide (x∈OG k))&&decide (k=2\/k=16))=true)(h:∀x:Int,x∈OG k/\(k=2\/k=16)->Ok (f ((l,a+1),x)) Q):Ok ((uI N (l,a) L).bind f) Q:=by
 simp only[jK,j6] at b
 exact Ok.pick c d b.1.1.1 b.1.1.2 fun x e=>h x ⟨gA (jN.1 b.1.2 x e),b.2⟩
end
def tD:Nat->Nat
 |0=>21
 |d+1=>3*tD d+24
theorem qEe:∀d,21<=tD d
 |0=>jM _
 |d+1=>by have:=qEe d;simp only[tD];omega
section
variable {N:Nat} {l:List Int}
def DS(N:Nat)(l:List Int)(E:(List Int×Int)->Int->List BA->Option ((List Int×Int)×BA))(d:Nat)(ps:List BA):Prop:=
 ∀a:Int,0<=a->a+pV d<2000000000000000000->Ok (E (l,a) (d:Int) ps) fun y=>∃a' s,y=((l,a'),s)/\a<=a'/\a'<=a+pV d/\Wt s 0 1 (tD d)
theorem Ok.exprW{β:Type}{Q:β->Prop}{E:(List Int×Int)->Int->List BA->Option ((List Int×Int)×BA)}{d:Nat}{ps:List BA}(n:DS N l E d ps){a:Int}{f:(List Int×Int)×BA->Option β}(g:0<=a)(k:a+pV d<2000000000000000000)
  (h:∀(a':Int) (s:BA),a<=a'->a'<=a+pV d->Wt s 0 1 (tD d)->Ok (f ((l,a'),s)) Q):Ok ((E (l,a) (d:Int) ps).bind f) Q:=
 Ok.bind (n a g k) fun y o=>by
  obtain⟨a',s,rfl,b,c,e⟩:=o
  exact h a' s b c e
theorem qAn(d:Nat)(a:d<=5):pV d<=10000/\tD d<=20000:=by
 match d,a with
 |0,_=>decide
 |1,_=>decide
 |2,_=>decide
 |3,_=>decide
 |4,_=>decide
 |5,_=>decide
theorem Ok.exprloopW{β:Type}{Q:β->Prop}{E:(List Int×Int)->Int->List BA->Option ((List Int×Int)×BA)}{d:Nat}{ps:List BA}(x:DS N l E d ps)(y:d<=5){p1:Int}(A:IntKind.wrap .i64 (p1-1)=(d:Int)){s:BA}{n a:Int}{f:BA×List Int×Int->Option β}{w:Nat}
  (H:n=0\/n=1) (q:0<=a) (r:a+pV d<2000000000000000000) (o:Wt s 0 1 w) (K:w<=100000000) (G:100<N) (h:∀(s':BA) (a':Int),a<=a'->a'<=a+pV d->Wt s' 0 1 (w+(tD d+2))->Ok (f (s',l,a')) Q):Ok ((aK (LM N E p1 ps) N (s,n,l,a)).bind f) Q:=by
 have F:=qAn d y
 refine Ok.loop (fun st=>∃s' n' a',st=(s',n',l,a')/\((n'=n/\a'=a/\s'=s)\/(n'=0/\a<=a'/\a'<=a+pV d/\Wt s' 0 1 (w+(tD d+2))))) (fun st=>st.2.1.toNat) (fun b=>∃s' a',b=(s',l,a')/\a<=a'/\a'<=a+pV d/\Wt s' 0 1 (w+(tD d+2))) ?_ ⟨s,n,a,rfl,.inl ⟨rfl,rfl,rfl⟩⟩ ai ?_
 .rintro _ ⟨s',n',a',rfl,k⟩
  simp only[LM]
  by_cases hn0:n'>0
  .rw[if_pos (by simpa using hn0),A]
   have k:n'=n/\a'=a/\s'=s:=k.resolve_right fun h=>by omega
   obtain⟨rfl,rfl,rfl⟩:=k
   refine Ok.exprW x q r fun p t c e g=> ?_
   have z:Wt (⟨#[44,32]⟩:BA) 1 0 2:=Wt.lit 0 0 ae
   refine Ok.catP z g aa fun u B=> ?_
   refine Ok.catW o B aa fun v D=> ?_
   refine Ok.mk ⟨⟨v,_,p,rfl,.inr ⟨by rw[bY aa aa];omega,c,e,D.mono aa⟩⟩,?_⟩
   simp only
   rw[bY aa aa]
   omega
  rw[if_neg (by simpa using hn0)]
  refine Ok.mk ⟨s',a',rfl,?_⟩
  rcases k with ⟨_,rfl,rfl⟩|⟨_,c,e,g⟩
  .exact⟨by omega,by omega,o.mono aa⟩
  exact⟨c,e,g⟩
 rintro _ ⟨s',a',rfl,c,e,g⟩
 exact h s' a' c e g
theorem okA{p:Prop}(h:p:=by
 repeat' first
  |with_reducible apply Ok.tt
  |with_reducible apply Ok.ff
  |with_reducible apply Ok.ttb
  |with_reducible apply Ok.ffb
  |with_reducible apply Ok.assoc
  |((with_reducible apply Ok.iteb)<;>intro _)
  |((with_reducible apply Ok.ite)<;>intro _)
  |with_reducible apply Ok.someb
  |with_reducible apply Ok.mapb
  |((with_reducible refine Ok.mk ⟨_,_,rfl,?_,?_,Wt.mono (by first|assumption|exact Wt.up ah) ?_⟩)<;>omega)
  |((with_reducible refine Ok.next ?_ ?_ ?_ ?_ (fun _ _ _=> ?_))<;>try omega)
  |((with_reducible refine Ok.chance ?_ ?_ ?_ ?_ (fun _=> ?_))<;>try omega)
  |((with_reducible refine Ok.pick01 ?_ ?_ (fun _ _=> ?_))<;>try omega)
  |((with_reducible refine Ok.exprloopW ah aa ah ah ?_ ?_ ah ?_ ah (fun _ _ _ _ _=> ?_))<;>try omega)
  |((with_reducible refine Ok.exprW ah ?_ ?_ (fun _ _ _ _ _=> ?_))<;>try omega)
  |((with_reducible refine Ok.pickN 2 ?_ ?_ ac (fun _ _=> ?_))<;>try omega)
  |((with_reducible refine Ok.pickN 16 ?_ ?_ ac (fun _ _=> ?_))<;>try omega)
  |((with_reducible refine Ok.onePW ?_ ?_ ah ah ah (fun _ _=> ?_))<;>try omega)
  |((with_reducible refine Ok.oneW ?_ ?_ ae (fun _ _ _=> ?_))<;>try omega)
  |(with_reducible refine Ok.digitsW ah ah (fun _ _=> ?_))
  |((with_reducible refine Ok.catW (by first|assumption|exact Wt.lit 0 0 ae|exact Wt.lit 0 1 ae|exact Wt.lit 1 0 ae|exact Wt.lit 1 1 ae) (by first|assumption|exact Wt.lit 0 0 ae|exact Wt.lit 0 1 ae|exact Wt.lit 1 0 ae|exact Wt.lit 1 1 ae) ?_ (fun _ _=> ?_))<;>simp only[qEp,gJ,jA,jB,Nat.reduceAdd,Nat.reduceMul] at* <;>try omega)
  |((with_reducible refine Ok.catW (by first|assumption|exact Wt.lit 0 0 ae|exact Wt.lit 0 1 ae|exact Wt.lit 1 0 ae|exact Wt.lit 1 1 ae) (by first|assumption|exact Wt.lit 0 0 ae|exact Wt.lit 0 1 ae|exact Wt.lit 1 0 ae|exact Wt.lit 1 1 ae) ?_ (fun _ _=> ?_))<;>try omega)
  |dsimp only
  |(apply Ok.iteb<;>intro _)
 all_goals omega):p:=h
set_option maxHeartbeats 4000000 in
theorem qLd{E:(List Int×Int)->Int->List BA->Option ((List Int×Int)×BA)}{d:Nat}{ps:List BA}(c:d=0)(g:ps.length<1000)(e:∀x∈ps,Wt x 0 0 7)(n:100<N):DS N l (CC N E) d ps:=by
 subst c
 intro a h k
 have b:pV 0=8:=rfl
 have f:tD 0=21:=rfl
 simp only[CC,b,f,xH,KW]
 rw[if_pos (show decide (((0:Nat):Int)<=0)=true by decide)]
 exact okA
set_option maxHeartbeats 8000000 in
theorem qKz{E:(List Int×Int)->Int->List BA->Option ((List Int×Int)×BA)}{d:Nat}{ps:List BA}(p:DS N l E d ps)(r:d<=4)(h:ps.length<1000)(c:∀x∈ps,Wt x 0 0 7)(q:100<N):DS N l (CC N E) (d+1) ps:=by
 intro a n o
 have b:pV (d+1)=3*pV d+8:=rfl
 have f:tD (d+1)=3*tD d+24:=rfl
 have g:=qEe d
 have k:=qAn d aa
 have e:IntKind.wrap .i64 (((d+1:Nat):Int)-1)=(d:Int):=by rw[bY aa aa];omega
 simp only[CC,b,f,xH,KW,FN,e]
 exact okA
theorem TM:∀(d D:Nat) (ps:List BA),d<D->d<=5->ps.length<1000->(∀x∈ps,Wt x 0 0 7)->100<N->DS N l (GG N D) d ps
 |_,0,_,h,_,_,_,_=>absurd h (gF _)
 |0,D+1,ps,_,_,a,b,c=>qLd (E:=GG N D) rfl a b c
 |d+1,D+1,ps,h,e,a,b,c=>qKz (TM d D ps aa aa a b c) aa a b c
theorem qEs:∀{ps:List BA},(ps.all EC)=true->∀x∈ps,Wt x 0 0 7:=fun h x a=>(Wt.neu (jN.1 h x a)).2
theorem Ok.expr3W{β:Type}{Q:β->Prop}{ps:List BA}{a:Int}{f:(List Int×Int)×BA->Option β}(k:100<N)(g:0<=a)(p:a+10000<2000000000000000000)(n:ps.length<=2)(b:ps.all EC=true)
  (h:∀(a':Int) (s:BA),a<=a'->a'<=a+10000->Wt s 0 1 879->Ok (f ((l,a'),s)) Q):Ok ((CG N (l,a) 3 ps).bind f) Q:=
 Ok.exprW (d:=3) (TM 3 N ps aa aa aa (qEs b) k) g (by have:pV 3=320:=rfl;omega) fun a' s c o e=>h a' s c (by have:pV 3=320:=rfl;omega) (e.mono ac)
theorem Ok.expr2W{β:Type}{Q:β->Prop}{ps:List BA}{a:Int}{f:(List Int×Int)×BA->Option β}(k:100<N)(g:0<=a)(p:a+10000<2000000000000000000)(n:ps.length<=2)(b:ps.all EC=true)
  (h:∀(a':Int) (s:BA),a<=a'->a'<=a+10000->Wt s 0 1 879->Ok (f ((l,a'),s)) Q):Ok ((CG N (l,a) 2 ps).bind f) Q:=
 Ok.exprW (d:=2) (TM 2 N ps aa aa aa (qEs b) k) g (by have:pV 2=104:=rfl;omega) fun a' s c o e=>h a' s c (by have:pV 2=104:=rfl;omega) (e.mono ac)
set_option maxHeartbeats 8000000 in
theorem qSj{a:Int}(b:100<N)(c:0<=a)(d:a<1000000000000000000):Ok (CE N (l,a)) fun y=>∃a' s,y=((l,a'),s)/\a<=a'/\a'<=a+10010/\Wt s 0 0 920:=by
 simp only[CE,PQ,xH,FN]
 repeat' first
  |with_reducible apply Ok.tt
  |with_reducible apply Ok.ff
  |with_reducible apply Ok.ttb
  |with_reducible apply Ok.ffb
  |with_reducible apply Ok.assoc
  |((with_reducible apply Ok.iteb)<;>intro _)
  |((with_reducible apply Ok.ite)<;>intro _)
  |with_reducible apply Ok.someb
  |with_reducible apply Ok.mapb
  |((with_reducible refine Ok.mk ⟨_,_,rfl,?_,?_,Wt.mono (by first|assumption|exact Wt.up ah) ?_⟩)<;>omega)
  |((with_reducible refine Ok.next ?_ ?_ ?_ ?_ (fun _ _ _=> ?_))<;>try omega)
  |((with_reducible refine Ok.chance ?_ ?_ ?_ ?_ (fun _=> ?_))<;>try omega)
  |((with_reducible refine Ok.expr3W b ?_ ?_ ?_ ?_ (fun _ _ _ _ _=> ?_))<;>first|omega|decide+kernel|skip)
  |((with_reducible refine Ok.expr2W b ?_ ?_ ?_ ?_ (fun _ _ _ _ _=> ?_))<;>first|omega|decide+kernel|skip)
  |(with_reducible refine Ok.app ad ac ?_)
  |((with_reducible refine Ok.pickN 2 ?_ ?_ ac (fun _ _=> ?_))<;>try omega)
  |((with_reducible refine Ok.pickN 16 ?_ ?_ ac (fun _ _=> ?_))<;>try omega)
  |((with_reducible refine Ok.oneW ?_ ?_ ae (fun _ _ _=> ?_))<;>try omega)
  |(with_reducible refine Ok.digitsW ah b (fun _ _=> ?_))
  |((with_reducible refine Ok.catW (by first|assumption|exact Wt.lit 0 0 ae|exact Wt.lit 0 1 ae|exact Wt.lit 1 0 ae|exact Wt.lit 1 1 ae) (by first|assumption|exact Wt.lit 0 0 ae|exact Wt.lit 0 1 ae|exact Wt.lit 1 0 ae|exact Wt.lit 1 1 ae) ?_ (fun _ _=> ?_))<;>simp only[qEp,gJ,jA,jB,Nat.reduceAdd,Nat.reduceMul] at* <;>try omega)
  |((with_reducible refine Ok.catW (by first|assumption|exact Wt.lit 0 0 ae|exact Wt.lit 0 1 ae|exact Wt.lit 1 0 ae|exact Wt.lit 1 1 ae) (by first|assumption|exact Wt.lit 0 0 ae|exact Wt.lit 0 1 ae|exact Wt.lit 1 0 ae|exact Wt.lit 1 1 ae) ?_ (fun _ _=> ?_))<;>try omega)
  |dsimp only
  |(apply Ok.iteb<;>intro _)
 all_goals omega
theorem Ok.declW{β:Type}{Q:β->Prop}{a:Int}{f:(List Int×Int)×BA->Option β}(k:100<N)(e:0<=a)(g:a<1000000000000000000)
  (h:∀(a':Int) (s:BA),a<=a'->a'<=a+10010->Wt s 0 0 920->Ok (f ((l,a'),s)) Q):Ok ((CE N (l,a)).bind f) Q:=
 Ok.bind (qSj k e g) fun y n=>by
  obtain⟨a',s,rfl,b,c,d⟩:=n
  exact h a' s b c d
theorem qSv{β:Type}{Q:β->Prop}{y:(List Int×Int)×BA}{f:BA->Option β}(d:y.2.size<=920)(a:3000<N)(h:∀s:BA,Ok (f s) Q):Ok ((aK (KX N y) N (y.2,0)).bind f) Q:=by
 refine Ok.loop (fun st=>∃j:Nat,st.2=(j:Int)/\j<=y.2.size) (fun st=>y.2.size-st.2.toNat) (fun _=>True) ?_ ⟨0,rfl,kG _⟩ ai (fun b _=>h b)
 rintro⟨s,_⟩ ⟨j,rfl,c⟩
 simp only[KX]
 by_cases hlt:j<y.2.size
 .rw[if_pos (by simpa using hlt),SS hlt]
  simp only[j0]
  refine Ok.bind (P:=fun _=>True) (Ok.ite (fun _=>Ok.mk trivial) fun _=>Ok.mk trivial) fun b _=> ?_
  refine Ok.ite (fun _=> ?_) fun _=> ?_
  .rw[MT aa aa aa];exact Ok.mk trivial
  refine Ok.mk ⟨⟨j+1,by simp only;rw[bY aa aa];omega,by omega⟩,?_⟩
  simp only;rw[bY aa aa];omega
 rw[if_neg (by simpa using hlt)];exact Ok.mk trivial
def qFd(x:BA):Bool:=decide (x.size<=20)&&JR 0 0 x.data.toList
theorem Ok.oneE{β:Type}{Q:β->Prop}{a:Int}{L:List BA}{f:(List Int×Int)×BA->Option β}(c:0<=a)(d:a<4611686018427387904)(b:(decide (0<L.length)&&decide (L.length<1000)&&L.all qFd)=true)(h:∀x:BA,Wt x 0 0 20->Ok (f ((l,a+1),x)) Q):Ok ((mU N (l,a) L).bind f) Q:=by
 simp only[jK,j6] at b
 exact Ok.one c d b.1.1 b.1.2 fun x e=>by
  have:=jN.1 b.2 x e
  unfold qFd at this
  simp only[jK,j6] at this
  exact h x ⟨this.1,IM this.2⟩
theorem SK{a:Int}{pk:BA}(G:3000<N)(E:0<=a)(h1:a<100000000000000000)(H:Wt pk 0 0 7):Ok (yW N (l,a) pk) fun y=>∃a' s,y=((l,a'),s)/\a<=a'/\a'<=a+100000/\Wt s 0 0 4800:=by
 simp only[yW]
 have V:Wt (⟨#[112,97,99,107,97,103,101,32]⟩:BA) 0 0 8:=Wt.lit 0 0 ae
 have v:Wt (⟨#[59,10]⟩:BA) 0 0 8:=(Wt.lit 0 0 ae).mono ac
 have Y:Wt (⟨#[35,32,97,32,99,111,109,109,101,110,116,10]⟩:BA) 0 0 12:=Wt.lit 0 0 ae
 have Z:Wt (⟨#[105,109,112,111,114,116,32]⟩:BA) 0 0 7:=Wt.lit 0 0 ae
 refine Ok.catW V H aa fun s1 B=> ?_
 refine Ok.catW B v aa fun s2 u=> ?_
 refine Ok.chance E aa aa aa fun c=> ?_
 refine Ok.bind (P:=fun s:BA=>Wt s 0 0 40) (Ok.ite (fun _=>Ok.catW Y u aa fun s3 f=>Ok.mk (f.mono aa)) fun _=>Ok.mk (u.mono aa)) fun o1 f=> ?_
 dsimp only
 refine Ok.next aa aa aa aa fun r D g2=> ?_
 dsimp only
 -- imports
 refine Ok.loop (fun st=>∃s L n a' w,st=(s,L,n,l,a')/\Wt s 0 0 w/\0<=n/\n<=2/\(L.length:Int)+n<=2/\(w:Int)<=40+25*(2-n)/\a<=a'/\a'<=a+10+(2-n)) (fun st=>st.2.2.1.toNat) (fun b=>∃s a',b=(s,l,a')/\Wt s 0 0 90/\a<=a'/\a'<=a+20) ?_ ⟨o1,[],r,a+1+1,40,rfl,f,D,by omega,by simp only[jB];omega,by omega,by omega,by omega⟩ ai ?_
 .rintro _ ⟨s,L,n,a',w,rfl,kw,K,M,R,S,p,U⟩
  simp only[PD,yT]
  by_cases hn:n>0
  .rw[if_pos (by simpa using hn)]
   refine Ok.assoc (Ok.someb ?_)
   refine Ok.assoc (Ok.oneW aa aa ae fun x _ k=> ?_)
   dsimp only
   refine Ok.assoc (Ok.bind (P:=fun _=>True) (Ok.ite (fun _=>Ok.has aa aa fun b=>Ok.mk trivial) fun _=>Ok.mk trivial) fun o4 _=> ?_)
   refine Ok.iteb (fun _=> ?_) fun _=> ?_
   .refine Ok.assoc (Ok.app (by simp only[jA,jB];omega) ac ?_)
    refine Ok.assoc (Ok.catW Z k aa fun t1 g=> ?_)
    refine Ok.assoc (Ok.catW g v aa fun t2 e=> ?_)
    refine Ok.assoc (Ok.catW kw e aa fun q h=>Ok.someb (Ok.mk ?_))
    dsimp only
    rw[bY aa aa]
    exact⟨⟨q,_,_,_,_,rfl,h,by omega,by omega,by simp only[jF,jA,jB];omega,by omega,by omega,by omega⟩,by omega⟩
   refine Ok.someb (Ok.mk ?_)
   dsimp only
   rw[bY aa aa]
   exact⟨⟨s,_,_,_,w,rfl,kw,by omega,by omega,by omega,by omega,by omega,by omega⟩,by omega⟩
  rw[if_neg (by simpa using hn)]
  exact Ok.mk ⟨s,a',rfl,kw.mono aa,p,by omega⟩
 rintro _ ⟨s,A,rfl,q1,q2,q3⟩
 dsimp only
 refine Ok.next aa aa aa aa fun r2 g3 g4=> ?_
 dsimp only
 -- declarations
 refine Ok.loop (fun st=>∃s L n a' w,st=(s,L,n,l,a')/\Wt s 0 0 w/\0<=n/\n<=5/\(L.length:Int)+n<=5/\(w:Int)<=90+920*(5-n)/\a<=a'/\a'<=a+100+10020*(5-n)) (fun st=>st.2.2.1.toNat) (fun b=>∃s a',b=(s,l,a')/\Wt s 0 0 4690/\a<=a'/\a'<=a+60000) ?_ ⟨s,[],_,A+1,90,rfl,q1,by rw[bY aa aa];omega,by rw[bY aa aa];omega,by rw[bY aa aa];simp only[jB];omega,by rw[bY aa aa];omega,by omega,by rw[bY aa aa];omega⟩ (by simp only;rw[bY aa aa];omega) ?_
 .rintro _ ⟨s,L,n,a',w,rfl,kw,K,M,R,S,p,U⟩
  simp only[PF]
  by_cases hn:n>0
  .rw[if_pos (by simpa using hn)]
   refine Ok.assoc (Ok.declW aa aa aa fun e d v1 v2 z=> ?_)
   refine Ok.assoc (qSv (y:=((l,e),d)) z.1 G fun hd=> ?_)
   dsimp only
   refine Ok.assoc (Ok.bind (P:=fun o:Bool×List Int×Int=>o.2.1=l/\e<=o.2.2/\o.2.2<=e+1) (Ok.has aa aa fun b=>Ok.ite (fun _=>Ok.mk ⟨rfl,by simp only;omega,by simp only;omega⟩) fun _=>Ok.chance aa aa aa aa fun c=>Ok.mk ⟨rfl,by simp only;omega,by simp only;omega⟩) fun o9 F=> ?_)
   obtain⟨b9,l9,a9⟩:=o9
   obtain⟨rfl,w1,w2⟩:=F
   dsimp only at w1 w2 ⊢
   refine Ok.iteb (fun _=> ?_) fun _=> ?_
   .refine Ok.assoc (Ok.app (by simp only[jA,jB];omega) ac ?_)
    refine Ok.assoc (Ok.catW kw z aa fun q h=>Ok.someb (Ok.mk ?_))
    dsimp only
    rw[bY aa aa]
    exact⟨⟨q,_,_,_,_,rfl,h,by omega,by omega,by simp only[jF,jA,jB];omega,by omega,by omega,by omega⟩,by omega⟩
   refine Ok.someb (Ok.mk ?_)
   dsimp only
   rw[bY aa aa]
   exact⟨⟨s,_,_,_,w,rfl,kw,by omega,by omega,by omega,by omega,by omega,by omega⟩,by omega⟩
  rw[if_neg (by simpa using hn)]
  exact Ok.mk ⟨s,a',rfl,kw.mono aa,p,by omega⟩
 rintro _ ⟨s,h,rfl,e,p,q⟩
 dsimp only
 refine Ok.chance aa aa aa aa fun c=> ?_
 dsimp only
 refine Ok.iteb (fun _=> ?_) fun _=> ?_
 .refine Ok.assoc (Ok.oneE aa aa ae fun x k=> ?_)
  dsimp only
  refine Ok.assoc (Ok.catW e k aa fun t g=>Ok.someb (Ok.mk ?_))
  dsimp only
  exact⟨_,_,rfl,by omega,by omega,g.mono aa⟩
 refine Ok.someb (Ok.mk ?_)
 dsimp only
 exact⟨_,_,rfl,by omega,by omega,e.mono aa⟩
end
theorem TN{k:Int}{x:UInt8}:cC [k] x=true↔kd x=k:=by simp[cC]
theorem qDo(p:UInt8->Bool)(l:List UInt8):l.dropWhile p=l.drop (l.takeWhile p).length:=by
 have h:=congrArg (List.drop (l.takeWhile p).length) (List.takeWhile_append_dropWhile (p:=p) (l:=l))
 rw[List.drop_left] at h
 exact h
def P40(l:List UInt8):Prop:=∀i:Nat,l[i]? =some 52->l[i+1]? =some 48->l[i+2]? =some 57
theorem qEy:∀(l:List UInt8) (p q:Nat),sc p l=some q->q<=1->P40 l/\(p=1->l[0]? =some 48->l[1]? =some 57)/\(p=2->l[0]? =some 57)
 |[],p,q,h,d=>by
  have h:some p=some q:=h
  cases h
  exact⟨fun i h=>(by simp at h),fun _ h=>(by simp at h),fun h=>by omega⟩
 |c::l,p,q,h,d=>by
  have h:(if p=2/\c≠57 then none else sc (if c=52 then 1 else if c=48/\p=1 then 2 else 0) l)=some q:=h
  split at h
  .cases h
  rename_i hp
  obtain⟨f,g,k⟩:=qEy l _ q h d
  refine⟨fun i a b=> ?_,fun e a=> ?_,fun e=> ?_⟩
  .cases i with
   |zero=>
    have a:c=52:=by simpa using a
    exact g (if_pos a) (by simpa using b)
   |succ i=>exact f i (by simpa using a) (by simpa using b)
  .have a:c=48:=by simpa using a
   exact k (by rw[if_neg (by rw[a];decide),if_pos ⟨a,e⟩])
  by_cases hc:c=57
  .simp[hc]
  exact absurd ⟨e,hc⟩ hp
theorem P40.drop{l:List UInt8}(h:P40 l)(k:Nat):P40 (l.drop k):=fun i a b=>by
 rw[List.getElem?_drop] at a b ⊢
 exact h (k+i) a b
inductive Cm:List UInt8->Prop
 |base {l:List UInt8} (h:P40 l):Cm l
 |bl {c:UInt8} {l:List UInt8} (hc:kd c=5) (h:Cm l):Cm (c::l)
 |com {d l:List UInt8} (hd:∀c∈d,eU c=true) (h:Cm l):Cm (35::(d++10::l))
theorem Cm.blank{c:UInt8}{l:List UInt8}(h:Cm (c::l))(a:kd c=5):Cm l:=by
 cases h with
 |base h=>exact .base (h.drop 1)
 |bl _ h=>exact h
 |com _ _=>exact absurd a ae
theorem Cm.blanks:∀{l:List UInt8},Cm l->Cm (l.dropWhile (cC [5]))
 |[],h=>h
 |c::l,h=>by
  rw[List.dropWhile_cons]
  split
  .rename_i hc;exact Cm.blanks (h.blank (TN.1 hc))
  exact h
theorem Cm.line{c:UInt8}{l:List UInt8}(h:Cm (c::l))(a:kd c=6):Cm ((c::l).dropWhile eU):=by
 cases h with
 |base h=>
  rw[qDo];exact .base (h.drop _)
 |bl f _=>rw[f] at a;exact absurd a ac
 |@com d l b h=>
  have e:(35::(d++10::l)).dropWhile eU=10::l:=by
   rw[List.dropWhile_cons,if_pos ac]
   clear h a
   induction d with
   |nil=>rfl
   |cons x d g=>
    rw[fA,List.dropWhile_cons,if_pos (b x (jO ..))]
    exact g fun c a=>b c (jQ _ a)
  rw[e]
  exact .bl ae h
theorem Cm.p40{c:UInt8}{l:List UInt8}(h:Cm (c::l))(b:kd c≠5)(d:kd c≠6):P40 (c::l):=by
 cases h with
 |base h=>exact h
 |bl a _=>exact absurd a b
 |com _ _=>exact absurd ae d
theorem TH(p:UInt8->Bool)(l:List UInt8)(i:Nat):l.drop (tw p l i)=(l.drop i).dropWhile p:=by
 unfold tw
 rw[qDo,List.drop_drop]
theorem NR:∀(ds:List UInt8) (n:Int),0<=n->(∀c∈ds,kd c=2)->0<=ds.foldl vC n
 |[],_,h,_=>h
 |c::ds,n,h,a=>NR ds _ (by
  have:=HW c (a c (jO ..))
  unfold vC
  split<;>omega) fun c b=>a c (jQ _ b)
theorem qBo{n m:Int}{c:UInt8}(d:0<=n)(a:kd c=2)(b:m<100)(h:vC n c=m):10*n<=m/\m<10*n+10/\(c.toNat:Int)=m-10*n+48:=by
 have:=HW c a
 unfold vC at h
 split at h<;>omega
theorem qUd{ds:List UInt8}(k:∀c∈ds,kd c=2)(h:qD ds=40):∃a,ds=a++[52,48]:=by
 rcases List.eq_nil_or_concat ds with rfl|⟨a,c,rfl⟩
 .cases h
 rw[List.concat_eq_append] at*
 have f:∀x∈a,kd x=2:=fun x g=>k x (kW _ g)
 have q:kd c=2:=k c (fT _ (gB.2 rfl))
 rw[HK] at h
 obtain⟨r,s,t⟩:=qBo (NR a 0 (fV _) f) q ac h
 have e:qD a=4:=by show a.foldl vC 0=4;omega
 rcases List.eq_nil_or_concat a with rfl|⟨b,d,rfl⟩
 .cases e
 rw[List.concat_eq_append] at*
 have p:∀x∈b,kd x=2:=fun x g=>f x (kW _ g)
 have l:kd d=2:=f d (fT _ (gB.2 rfl))
 rw[HK] at e
 obtain⟨u,v,y⟩:=qBo (NR b 0 (fV _) p) l ac e
 have n:c=48:=UInt8.toNat_inj.1 (by show c.toNat=48;omega)
 have o:d=52:=UInt8.toNat_inj.1 (by show d.toNat=52;omega)
 rw[n,o]
 exact⟨b,by simp⟩
theorem qQe{s:BA}{i:Nat}(hi:i<s.data.toList.length)(o:P40 (s.data.toList.drop i))(h:(eL s i).2.2=0):AF (fun _ _=>True) (fun k=>k≠40) ((eL s i).1.1,(eL s i).1.2.1,(eL s i).1.2.2.1,(i:Int))/\i<=(eL s i).2.1.toNat:=by
 have e:∀(p:UInt8->Bool) (a:Nat),a<=tw p s.data.toList a:=fun p a=>Nat.le_add_right _ _
 have triv:∀t:cA,t.1≠2->AF (fun _ _=>True) (fun k=>k≠40) t:=fun t u=>⟨fun _=>trivial,fun _=>⟨fun _=>⟨trivial,trivial,trivial⟩,fun _=>trivial⟩,fun h=>absurd h u⟩
 unfold eL at h ⊢
 by_cases h1:kd (s.data.toList.getD i 0)=1
 .rw[if_pos h1] at h ⊢
  split at h
  .cases h
  rename_i h2;rw[if_neg h2];exact⟨triv _ (by show ¬((1:Int)=2);decide),e _ _⟩
 rw[if_neg h1] at h ⊢
 by_cases h2:kd (s.data.toList.getD i 0)=2
 .rw[if_pos h2] at h ⊢
  split at h
  .cases h
  rename_i h3
  rw[if_neg h3]
  refine⟨⟨fun h=>(by cases h),fun h=>(by cases h),fun _=> ?_⟩,e _ _⟩
  have d:∀c∈(s.data.toList.drop i).takeWhile (cC [2]),kd c=2:=fun c f=>TN.1 (IK f)
  refine⟨⟨NR _ 0 (fV _) d,by show qD _<=_;omega⟩,fun _ n=> ?_⟩
  obtain⟨a,q⟩:=qUd d n
  have b:=List.takeWhile_append_dropWhile (p:=cC [2]) (l:=s.data.toList.drop i)
  rw[q] at b
  generalize hr:(s.data.toList.drop i).dropWhile (cC [2])=r at b
  have g:=o a.length (by rw[<-b];simp) (by rw[<-b];simp)
  rw[<-b] at g
  cases r with
  |nil=>simp at g
  |cons c r=>
   have f:c=57:=by simpa[List.getElem?_append] using g
   have:=List.head?_dropWhile_not (cC [2]) (s.data.toList.drop i)
   rw[hr] at this
   rw[f] at this
   have this:cC [2] 57=false:=by simpa using this
   exact absurd this ae
 rw[if_neg h2] at h ⊢
 by_cases h7:kd (s.data.toList.getD i 0)=7
 .rw[if_pos h7] at h ⊢
  split at h
  .rename_i h3
   rw[if_pos h3]
   refine⟨triv _ (by show ¬((3:Int)=2);decide),?_⟩
   have:=e pH (i+1)
   show i<=(((tw pH s.data.toList (i+1)+1:Nat):Int)).toNat
   omega
  cases h
 rw[if_neg h7] at h ⊢
 by_cases h8:kd (s.data.toList.getD i 0)=8
 .rw[if_pos h8] at h ⊢
  refine⟨triv _ (by show ¬((4:Int)=2);decide),?_⟩
  show i<=(((rN s.data.toList i:Nat):Int)).toNat
  unfold rN
  split<;>omega
 rw[if_neg h8] at h;cases h
theorem TD{s:BA}:∀(k i:Nat) {ts:List cA},Cm (s.data.toList.drop i)->mW k s i= .inr ts->∀t∈ts,AF (fun _ _=>True) (fun k=>k≠40) t
 |0,_,_,_,h=>fun t a=>by cases h;cases a
 |k+1,i,ts,p,h=>by
  have b:Cm (s.data.toList.drop (tw (cC [5]) s.data.toList i)):=by rw[TH];exact p.blanks
  have d:∀c l,s.data.toList.drop (tw (cC [5]) s.data.toList i)=c::l->kd c≠5:=fun c l e o=>by
   rw[TH] at e
   have:=List.head?_dropWhile_not (cC [5]) (s.data.toList.drop i)
   rw[e] at this
   have this:cC [5] c=false:=by simpa using this
   rw[TN.2 o] at this
   cases this
  unfold mW at h
  generalize tw (cC [5]) s.data.toList i=j at h b d
  split at h
  .cases h
   intro t a
   rw[gB.1 a]
   exact⟨fun h=>absurd h (by show ¬((5:Int)=1);decide),fun h=>absurd h (by show ¬((5:Int)=3);decide),fun h=>absurd h (by show ¬((5:Int)=2);decide)⟩
  rename_i hj
  by_cases hlt:j<s.data.toList.length
  .have f:s.data.toList.drop j=s.data.toList[j]::s.data.toList.drop (j+1):=(fQ hlt).symm
   have n:s.data.toList.getD j 0=s.data.toList[j]:=by rw[jT,List.getElem?_eq_getElem hlt];rfl
   split at h
   .rename_i h6
    refine TD k _ ?_ h
    rw[TH]
    rw[f] at b ⊢
    exact b.line (by rw[<-n];exact h6)
   rename_i h6
   split at h
   .cases h
   rename_i h0
   have g:P40 (s.data.toList.drop j):=by
    rw[f] at b ⊢
    exact b.p40 (d _ _ f) (by rw[<-n];exact h6)
   obtain⟨t1,t2⟩:=qQe hlt g (Decidable.not_not.1 h0)
   split at h
   .cases h
   rename_i r hr
   cases h
   intro t a
   rcases jJ.1 a with rfl|a
   .exact t1
   refine TD k _ (.base ?_) hr t a
   have:=g.drop ((eL s j).2.1.toNat-j)
   rwa[List.drop_drop,show j+((eL s j).2.1.toNat-j)=(eL s j).2.1.toNat by omega] at this
  have f:s.data.toList.getD j 0=0:=by rw[jT,List.getElem?_eq_none aa];rfl
  have g:kd 0=0:=by decide+kernel
  have a:(eL s j).2.2≠0:=by
   unfold eL
   rw[f,g,if_neg ac,if_neg ac,if_neg ac,if_neg ac]
   decide
  rw[f,g,if_neg ac,if_pos a] at h
  cases h
theorem qMh{s:BA}(c:Cm s.data.toList):(lC s).2.2=0->∀t∈(lC s).1,AF (fun _ _=>True) (fun k=>k≠40) t:=by
 unfold lC
 split
 .intro h;cases h
 intro h t a
 cases b:mW (s.data.toList.length+1) s 0 with
 |inl x=>rw[b] at a;cases a
 |inr r=>
  rw[b] at a
  exact TD _ 0 (by rw[jV];exact c) b t (by simpa[uV] using a)
def Mk(x:BA):Prop:=∃c b,x.data.toList=c++b/\sc 0 b=some 0/\∀b,Cm b->Cm (c++b)
theorem Wt.z{x:BA}{n:Nat}(h:Wt x 0 0 n):sc 0 x.data.toList=some 0:=by
 obtain⟨q,b,a⟩:=h.2 0 (jM _)
 obtain rfl:q=0:=by omega
 exact a
theorem Mk.src{x:BA}{n:Nat}(h:Wt x 0 0 n):Mk x:=⟨[],x.data.toList,rfl,h.z,fun _ h=>h⟩
theorem Mk.app{x y:BA}{n:Nat}(h:Mk x)(g:Wt y 0 0 n):Mk (x++y):=by
 obtain⟨c,b,a,d,e⟩:=h
 exact⟨c,b++y.data.toList,by simp[a],by rw[TW,d];exact g.z,e⟩
theorem Mk.com{x d:BA}(h:Mk x)(n:∀c∈d.data.toList,eU c=true):Mk ((((⟨#[35,32]⟩:BA)++d)++(⟨#[10,32,32]⟩:BA))++x):=by
 obtain⟨c,b,e,f,g⟩:=h
 refine⟨35::((32::d.data.toList)++10::(32::32::c)),b,by simp[e],f,fun b l=> ?_⟩
 have:35::((32::d.data.toList)++10::(32::32::c))++b=35::((32::d.data.toList)++10::(32::32::(c++b))):=by simp
 rw[this]
 have k:kd 32=5:=by decide+kernel
 exact .com (fun c a=>by
  rcases jJ.1 a with rfl|a
  .decide
  exact n c a) (.bl k (.bl k (g b l)))
theorem Mk.cm{x:BA}(h:Mk x):Cm x.data.toList:=by
 obtain⟨c,b,a,d,e⟩:=h
 rw[a]
 exact e b (.base (qEy b 0 0 d ac).1)
theorem qSw(M:Nat):((List.range 100).all fun n=>match rX (M+40) (n:Int) with|some s=>decide (s.size<=16)&&s.data.toList.all eU|none=>false)=true:=by kernel_rfl
theorem Ok.digits100{β:Type}{Q:β->Prop}{N:Nat}{x:Int}{f:BA->Option β}(b:0<=x)(d:x<100)(e:100<N)(h:∀s:BA,s.size<=16->(∀c∈s.data.toList,eU c=true)->Ok (f s) Q):Ok ((rX N x).bind f) Q:=by
 obtain⟨M,rfl⟩:∃M,N=M+40:=⟨N-40,by omega⟩
 obtain⟨n,rfl⟩:∃n:Nat,x=(n:Int):=⟨x.toNat,by omega⟩
 have:=jN.1 (qSw M) n (gS.2 aa)
 split at this
 .rename_i s hs
  rw[hs]
  simp only[jK,j6] at this
  exact h s this.1 fun c a=>jN.1 this.2 c a
 cases this
theorem Ok.catQ{β:Type}{Q:β->Prop}{x y:BA}{f:BA->Option β}(a:x.size+y.size<=1000000000)(h:Ok (f (x++y)) Q):Ok ((dM x y).bind f) Q:=by
 unfold dM
 rw[if_pos (by simp only[maxLen];omega)]
 exact h
def MadeC(K:Nat)(L:List bV):Prop:=Asc L/\∀f∈L,iV f.1.data.toList=true/\f.2.size<=K/\(nE f.1=true->Mk f.2)
theorem MadeC.put{K:Nat}{L:List bV}(h:MadeC K L){p b:BA}(e:iV p.data.toList=true)(c:b.size<=K)(d:nE p=true->Mk b):MadeC K (mX L p b):=
 ⟨h.1.put p b,fun f a=>by
  rcases HR a with rfl|a
  .exact⟨e,c,d⟩
  exact h.2 f a⟩
theorem MadeC.del{K:Nat}{L:List bV}(h:MadeC K L)(p:BA):MadeC K (vE L p):=⟨h.1.del p,fun f a=>h.2 f (gM.1 a).1⟩
theorem MadeC.more{K K':Nat}{L:List bV}(h:MadeC K L)(b:K<=K'):MadeC K' L:=⟨h.1,fun f a=>⟨(h.2 f a).1,kV (h.2 f a).2.1 b,(h.2 f a).2.2⟩⟩
theorem MadeC.wf{K:Nat}{L:List bV}(h:MadeC K L)(b:K<=16384)(c:L.length<=64):WF L:=⟨c,h.1,fun f a=>⟨(h.2 f a).1,kV (h.2 f a).2.1 b⟩⟩
theorem qSd:(datL.all fun p=> !(nE p))=true:=by kernel_rfl
theorem qQl:(srcL.all nE)=true:=by kernel_rfl
theorem qDt{p:BA}(h:p∈datL){P:Prop}:nE p=true->P:=fun g=>by
 have:=jN.1 qSd p h
 rw[g] at this
 cases this
theorem NV{p:BA}(h:p∈srcL):nE p=true:=jN.1 qQl p h
theorem qLc{N:Nat}{l:List Int}{a:Int}(k:3000<N)(z:0<=a)(A:a<10000000000000000):Ok (LG N (l,a)) fun y=>∃a' L,y=((l,a'),L)/\a<=a'/\a'<=a+1000000/\MadeC 4800 L/\L.length<=7:=by
 simp only[LG,FV]
 refine Ok.someb ?_
 show Ok ((aK (KO N srcL) N (0,[],l,a)).bind _) _
 refine Ok.loop (fun st=>∃(n:Nat) (L:List bV) (a':Int),st=((n:Int),L,l,a')/\n<=4/\L.length<=n/\MadeC 4800 L/\a<=a'/\a'<=a+100010*n) (fun st=>4-st.1.toNat) (fun b=>∃L a',b=(L,l,a')/\L.length<=4/\MadeC 4800 L/\a<=a'/\a'<=a+500000) ?_ ⟨0,[],a,rfl,by omega,by simp,⟨List.Pairwise.nil,by simp⟩,by omega,by omega⟩ (by dsimp only;omega) ?_
 .rintro _ ⟨n,L,a',rfl,p,q,e,r,t⟩
  rw[qPs]
  have d:srcL.length=4:=rfl
  dsimp only
  by_cases hn:n<4
  .rw[if_pos (by simp only[j6,d];omega),eS (l:=srcL) aa]
   refine Ok.assoc (Ok.someb ?_)
   refine Ok.assoc (Ok.chance aa aa aa aa fun c=> ?_)
   dsimp only
   refine Ok.iteb (fun _=> ?_) fun _=> ?_
   .refine Ok.assoc (Ok.someb ?_)
    refine Ok.assoc (Ok.oneW aa aa ae fun x _ h=> ?_)
    dsimp only
    refine Ok.assoc (Ok.bind (SK k aa aa h) ?_)
    rintro _ ⟨f,s,rfl,v,v2,g⟩
    dsimp only
    rw[wA _ _ aa e.1 aa]
    refine Ok.assoc (Ok.someb (Ok.someb (Ok.mk ?_)))
    dsimp only
    have o:=MM L (srcL[n]) s
    refine⟨⟨n+1,_,_,by rw[bY aa aa];rfl,by omega,by omega,e.put (qBa (jS _)) g.1 (fun _=>Mk.src g),by omega,by omega⟩,?_⟩
    rw[bY aa aa];omega
   refine Ok.someb (Ok.mk ?_)
   dsimp only
   refine⟨⟨n+1,_,_,by rw[bY aa aa];rfl,by omega,by omega,e,by omega,by omega⟩,?_⟩
   rw[bY aa aa];omega
  rw[if_neg (by simp only[j6,d];omega)]
  exact Ok.mk ⟨L,a',rfl,by omega,e,by omega,by omega⟩
 rintro _ ⟨L1,h,rfl,B,u,D,E⟩
 dsimp only
 refine Ok.loop (fun st=>∃(n:Nat) (L:List bV) (a':Int),st=((n:Int),L,l,a')/\n<=3/\L.length<=4+n/\MadeC 4800 L/\a<=a'/\a'<=a+500000+20*n) (fun st=>3-st.1.toNat) (fun b=>∃L a',b=(L,l,a')/\L.length<=7/\MadeC 4800 L/\a<=a'/\a'<=a+600000) ?_ ⟨0,L1,h,rfl,by omega,by omega,u,by omega,by omega⟩ (by dsimp only;omega) ?_
 .rintro _ ⟨n,L,a',rfl,p,q,e,r,t⟩
  rw[qPr]
  have d:datL.length=3:=rfl
  dsimp only
  by_cases hn:n<3
  .rw[if_pos (by simp only[j6,d];omega),eS (l:=datL) aa]
   refine Ok.assoc (Ok.someb ?_)
   refine Ok.assoc (Ok.chance aa aa aa aa fun c=> ?_)
   dsimp only
   refine Ok.iteb (fun _=> ?_) fun _=> ?_
   .refine Ok.assoc (Ok.bind (qCd aa aa aa) ?_)
    rintro _ ⟨f,s,rfl,v,v2,g⟩
    dsimp only
    rw[wA _ _ aa e.1 aa]
    refine Ok.assoc (Ok.someb (Ok.someb (Ok.mk ?_)))
    dsimp only
    have o:=MM L (datL[n]) s
    refine⟨⟨n+1,_,_,by rw[bY aa aa];rfl,by omega,by omega,e.put (qBw (jS _)) aa (qDt (jS _)),by omega,by omega⟩,?_⟩
    rw[bY aa aa];omega
   refine Ok.someb (Ok.mk ?_)
   dsimp only
   refine⟨⟨n+1,_,_,by rw[bY aa aa];rfl,by omega,by omega,e,by omega,by omega⟩,?_⟩
   rw[bY aa aa];omega
  rw[if_neg (by simp only[j6,d];omega)]
  exact Ok.mk ⟨L,a',rfl,by omega,e,by omega,by omega⟩
 rintro _ ⟨L2,f,rfl,d,e,g,o⟩
 refine Ok.mk ?_
 exact⟨f,L2,rfl,by omega,by omega,e,d⟩
def zT(l:List Int)(a:Int)(K:Nat)(L:List bV)(z:(List Int×Int)×List bV):Prop:=∃a' L',z=((l,a'),L')/\a<=a'/\a'<=a+200000/\MadeC (K+950) L'/\L'.length<=L.length+1
section
variable {N:Nat} {l:List Int} {a:Int} {K:Nat} {L:List bV}
theorem qSm(hN:3000<N)(h0:0<=a)(h1:a<10000000000000000)(f:MadeC K L)(hK:4800<=K)(a1:K<=100000)(h:L.length<=100):Ok (LZ N (l,a) L) (zT l a K L):=by
 obtain⟨M,rfl⟩:∃M,N=M+1:=⟨N-1,by omega⟩
 have D:MadeC (K+950) L:=f.more aa
 have g:∀(a':Int) {p b:BA},a<=a'->a'<=a+200000->iV p.data.toList=true->b.size<=K+950->(nE p=true->Mk b)->zT l a K L ((l,a'),mX L p b):=fun a' {p b} Y Z A hb hm=>
  ⟨a',_,rfl,Y,Z,D.put A hb hm,MM L p b⟩
 unfold LZ FV
 refine Ok.someb (Ok.one h0 aa ac ac fun p A=> ?_)
 have v:=qBa A
 refine Ok.next aj aj ac ac fun r r0 r1=> ?_
 dsimp only
 refine Ok.bind (P:=fun q=>q= .inl ()\/∃z,q= .inr z/\zT l a K L z) ?_ ?_
 .refine Ok.ite (fun _=> ?_) fun _=>Ok.ite (fun _=> ?_) fun _=>Ok.ite (fun _=> ?_) fun _=>Ok.ite (fun _=> ?_) fun _=>Ok.ite (fun _=> ?_) fun _=>Ok.ite (fun _=> ?_) fun _=>Ok.mk (.inl rfl)
  .refine Ok.one aa aa ac ac fun q k=> ?_
   have k:q∈datL:=k
   dsimp only
   refine Ok.bind (qCd aa aa aa) ?_
   rintro _ ⟨y,s,rfl,E,v2,B⟩
   dsimp only
   rw[wA _ _ aa f.1 aa]
   exact Ok.mk (.inr ⟨_,rfl,g y aa aa (qBw k) aa (qDt k)⟩)
  .refine Ok.one aa aa ac ac fun q k=> ?_
   dsimp only
   rw[ZQ aa aa]
   exact Ok.mk (.inr ⟨_,rfl,_,_,rfl,by omega,by omega,D.del q,by have:=qCx L q;omega⟩)
  .refine Ok.someb (Ok.oneW aa aa ae fun q _ k=> ?_)
   refine Ok.bind (SK aa aj aj k) ?_
   rintro _ ⟨y,s,rfl,E,v2,B⟩
   dsimp only at E v2 ⊢
   rw[wA _ _ aa f.1 aa]
   exact Ok.mk (.inr ⟨_,rfl,g y aa aa v (by have:=B.1;omega) fun _=>Mk.src B⟩)
  .refine Ok.bind (MV (L:=L) (p:=p) (Q:=zT l a K L) h aa (fun j e c=> ?_) (fun j e c=> ?_) ?_) ?_
   .have d:((j:Int)<(L.length:Int)):=by omega
    simp only[FZ,d,decide_true,jE,eS e,j0,pO,c]
    rw[ZQ aa aa]
    refine Ok.someb (Ok.next aa aa ac ac fun x U V=> ?_)
    obtain⟨s,t,q,G,H,R,S⟩:=qUg U V (M:=M)
    simp only[G,H,R,j0]
    have hd:=qCx L p
    rw[wA _ _ aa (f.1.del p) aa]
    refine Ok.mk ⟨_,rfl,_,_,rfl,by omega,by omega,(D.del p).put S (by have:=(f.2 L[j] (jS e)).2.1;omega) fun _=>(f.2 L[j] (jS e)).2.2 (by rw[c];exact NV A),?_⟩
    have:=MM (vE L p) q L[j].2
    omega
   .have d:((j:Int)<(L.length:Int)):=by omega
    have w:IntKind.wrap .i64 ((j:Int)+1)=((j+1:Nat):Int):=by rw[bY aa aa];omega
    simp only[FZ,d,decide_true,jE,eS e,j0,pO,c,decide_false,j9,jD,w]
   .have d:¬((L.length:Int)<(L.length:Int)):=by omega
    simp only[FZ,d,decide_false,j9,jD]
   rintro o (rfl|⟨z,rfl,n⟩)
   .exact Ok.mk (.inl rfl)
   exact Ok.mk (.inr ⟨z,rfl,n⟩)
  .refine Ok.bind (MV (L:=L) (p:=p) (Q:=zT l a K L) h aa (fun j e c=> ?_) (fun j e c=> ?_) ?_) ?_
   .have d:((j:Int)<(L.length:Int)):=by omega
    have F:=(f.2 L[j] (jS e)).2.1
    have u:=(f.2 L[j] (jS e)).2.2 (by rw[c];exact NV A)
    simp only[FX,d,decide_true,jE,eS e,j0,pO,c]
    refine Ok.next aa aa ac ac fun x U V=> ?_
    refine Ok.digits100 U V aa fun s hs hd=> ?_
    have G:(⟨#[35,32]⟩:BA).size=2:=rfl
    have H:(⟨#[10,32,32]⟩:BA).size=3:=rfl
    have R:((⟨#[35,32]⟩:BA)++s).size=2+s.size:=by rw[ByteArray.size_append,G]
    have S:(((⟨#[35,32]⟩:BA)++s)++(⟨#[10,32,32]⟩:BA)).size=5+s.size:=by rw[ByteArray.size_append,H,R];omega
    refine Ok.catQ aa (Ok.catQ aa (Ok.catQ aa ?_))
    rw[wA _ _ aa f.1 aa]
    exact Ok.mk ⟨_,rfl,g _ aj aj v (by rw[ByteArray.size_append,S];omega) fun _=>u.com hd⟩
   .have d:((j:Int)<(L.length:Int)):=by omega
    have w:IntKind.wrap .i64 ((j:Int)+1)=((j+1:Nat):Int):=by rw[bY aa aa];omega
    simp only[FX,d,decide_true,jE,eS e,j0,pO,c,decide_false,j9,jD,w]
   .have d:¬((L.length:Int)<(L.length:Int)):=by omega
    simp only[FX,d,decide_false,j9,jD]
   rintro o (rfl|⟨z,rfl,n⟩)
   .exact Ok.mk (.inl rfl)
   exact Ok.mk (.inr ⟨z,rfl,n⟩)
  refine Ok.bind (MV (L:=L) (p:=p) (Q:=zT l a K L) h aa (fun j e c=> ?_) (fun j e c=> ?_) ?_) ?_
  .have d:((j:Int)<(L.length:Int)):=by omega
   have F:=(f.2 L[j] (jS e)).2.1
   have u:=(f.2 L[j] (jS e)).2.2 (by rw[c];exact NV A)
   simp only[GA,d,decide_true,jE,eS e,j0,pO,c]
   have G:Wt (⟨#[102,117,110,99]⟩:BA) 0 0 4:=Wt.lit 0 0 ae
   refine Ok.catQ (by have:=G.1;omega) ?_
   rw[wA _ _ aa f.1 aa]
   exact Ok.mk ⟨_,rfl,g _ aj aj v (by have:=G.1;rw[ByteArray.size_append];omega) fun _=>u.app G⟩
  .have d:((j:Int)<(L.length:Int)):=by omega
   have w:IntKind.wrap .i64 ((j:Int)+1)=((j+1:Nat):Int):=by rw[bY aa aa];omega
   simp only[GA,d,decide_true,jE,eS e,j0,pO,c,decide_false,j9,jD,w]
  .have d:¬((L.length:Int)<(L.length:Int)):=by omega
   simp only[GA,d,decide_false,j9,jD]
  rintro o (rfl|⟨z,rfl,n⟩)
  .exact Ok.mk (.inl rfl)
  exact Ok.mk (.inr ⟨z,rfl,n⟩)
 rintro q (rfl|⟨z,rfl,n⟩)
 .dsimp only
  refine Ok.bind (MV (L:=L) (p:=p) (Q:=zT l a K L) h aa (fun j e c=> ?_) (fun j e c=> ?_) ?_) ?_
  .have d:((j:Int)<(L.length:Int)):=by omega
   have F:=(f.2 L[j] (jS e)).2.1
   have u:=(f.2 L[j] (jS e)).2.2 (by rw[c];exact NV A)
   simp only[FY,d,decide_true,jE,eS e,j0,pO,c]
   refine Ok.declW aa aa aa fun y s Y Z G=> ?_
   dsimp only
   have H:=G.1
   refine Ok.catQ aa ?_
   rw[wA _ _ aa f.1 aa]
   exact Ok.mk ⟨_,rfl,g y aa aa v (by rw[ByteArray.size_append];omega) fun _=>u.app G⟩
  .have d:((j:Int)<(L.length:Int)):=by omega
   have w:IntKind.wrap .i64 ((j:Int)+1)=((j+1:Nat):Int):=by rw[bY aa aa];omega
   simp only[FY,d,decide_true,jE,eS e,j0,pO,c,decide_false,j9,jD,w]
  .have d:¬((L.length:Int)<(L.length:Int)):=by omega
   simp only[FY,d,decide_false,j9,jD]
  rintro o (rfl|⟨z,rfl,n⟩)
  .dsimp only
   refine Ok.someb (Ok.oneW aa aa ae fun q _ k=> ?_)
   refine Ok.bind (SK aa aj aj k) ?_
   rintro _ ⟨y,s,rfl,E,v2,B⟩
   dsimp only at E v2 ⊢
   rw[wA _ _ aa f.1 aa]
   exact Ok.mk (g y aa aa v (by have:=B.1;omega) fun _=>Mk.src B)
  exact Ok.mk n
 exact Ok.mk n
end
end
section
open Go Go.Dc Go.Proofs
def envV:List Int:=[0,1,(-1),5,9007199254740992,(-9007199254740992)]
def DZ(L:List nD)(nm:BA):List nD:=L.flatMap fun e=>e::envV.map fun v=>e++[(nm,v)]
def AE:Nat->List nD
 |0=>[[]]
 |1=>DZ [[]] ⟨#[109]⟩
 |_=>DZ (DZ [[]] ⟨#[109]⟩) ⟨#[110]⟩
theorem qSe(M:Nat):((AE 2).all fun e=>decide (BE (M+300) e=some true)&&decide (e.length<=16)&&e.all fun v=>decide (-9223372036854775808<=v.2)&&decide (v.2<=9223372036854775807))=true:=by kernel_rfl
theorem qNs{L:List nD}{nm:BA}{e:nD}(h:e∈L):e∈DZ L nm:=fN.2 ⟨e,h,jO ..⟩
theorem qNj{L:List nD}{nm:BA}{e:nD}(h:e∈L){v:Int}(a:v∈envV):e++[(nm,v)]∈DZ L nm:=fN.2 ⟨e,h,jQ _ (fC.2 ⟨v,a,rfl⟩)⟩
theorem qAd{i:Nat}(hi:i<2):AE (i+1)=DZ (AE i) ([(⟨#[109]⟩:BA),(⟨#[110]⟩:BA)][i]):=by
 rcases(by omega:i=0\/i=1) with rfl|rfl<;>rfl
theorem qIr{N:Nat}{l:List Int}{a:Int}(t:100<N)(p:0<=a)(q:a<1000000000000000000):Ok (KM N (l,a)) fun y=>∃a' e,y=((l,a'),e)/\a<=a'/\a'<=a+4/\e∈AE 2:=by
 unfold KM
 have g:∀e∈AE 2,True:=fun _ _=>trivial
 refine Ok.loop (fun s=>∃(i:Nat) (e:nD) (b:Int),s=((i:Int),e,l,b)/\i<=2/\e.length<=i/\a<=b/\b<=a+2*i/\e∈AE i) (fun s=>2-s.1.toNat)
  (fun o=>∃(e:nD) (b:Int),o=(e,l,b)/\a<=b/\b<=a+4/\e∈AE 2) (fun s h=> ?_) ⟨0,[],a,rfl,by omega,by simp,by omega,by omega,gB.2 rfl⟩ ai ?_
 .obtain⟨i,e,b,rfl,hi,u,f,n,d⟩:=h
  unfold OT
  refine Ok.ite (fun c=> ?_) fun c=>Ok.mk ?_
  .have c:i<2:=by simp only[j6,jA,jB] at c;omega
   have ew:IntKind.wrap .i64 ((i:Int)+1)=((i+1:Nat):Int):=by rw[bY aa aa];omega
   dsimp only
   rw[eS (show i<[(⟨#[109]⟩:BA),(⟨#[110]⟩:BA)].length from c)]
   simp only[j0,ew]
   refine Ok.assoc (Ok.chance aa aa ac ac fun r=> ?_)
   cases r with
   |true=>
    refine Ok.ttb (Ok.assoc (Ok.pick aa aa ac ac fun z k=> ?_))
    refine Ok.assoc (Ok.app (by simp only[jA,jB];omega) ac ?_)
    refine Ok.someb (Ok.mk ⟨⟨i+1,_,b+1+1,rfl,by omega,by simp only[jF,jA,jB];omega,by omega,by omega,?_⟩,by simp only;omega⟩)
    rw[qAd c]
    exact qNj d k
   |false=>
    refine Ok.ffb (Ok.someb (Ok.mk ⟨⟨i+1,e,b+1,rfl,by omega,by omega,by omega,by omega,?_⟩,by simp only;omega⟩))
    rw[qAd c]
    exact qNs d
  obtain rfl:i=2:=by simp only[j6,jA,jB] at c;omega
  exact⟨e,b,rfl,f,by omega,d⟩
 rintro _ ⟨e,b,rfl,c,d,f⟩
 exact Ok.mk ⟨b,e,rfl,c,d,f⟩
theorem qKw{p:BA}(h:iV p.data.toList=true):p.size<=80:=by
 have:p.data.toList.length<=80:=(gA h).1
 have e:=iS p
 omega
theorem qKj{N K:Nat}{L:List bV}(h:MadeC K L)(b:10000<N):IE N L:=fun g a=>by
 have:=qKw (h.2 g a).1
 exact qCh aa aa
def qTr(N:Nat)(y:(List Int×Int)×List bV×nD×Int):Prop:=IE N y.2.1/\BE N y.2.2.1=some true/\Wrl N y.2.1 y.2.2.1 (fun _ _=>True) (fun k=>k≠40)
theorem qQs{N:Nat}{l:List Int}(H:3000000<N):Ok (LS N (l,0)) (qTr N):=by
 unfold LS
 refine Ok.bind (qLc (l:=l) (a:=0) aa ac ac) ?_
 rintro _ ⟨o,A,rfl,U,V,E,Y⟩
 dsimp only
 refine Ok.next aa aa ac ac fun n y S=> ?_
 dsimp only
 refine Ok.loop (fun st=>∃(j:Nat) (a':Int) (B:List bV),st=((j:Int),l,a',B)/\j<=3/\0<=a'/\a'<=2000000+200000*(3-j)/\MadeC (4800+950*(3-j)) B/\B.length<=7+(3-j)) (fun st=>st.1.toNat) (fun b=>∃a' B,b=(l,a',B)/\0<=a'/\a'<=10000000/\MadeC 10000 B/\B.length<=10) ?_ ⟨n.toNat,o+1,A,by rw[Int.toNat_of_nonneg y],by omega,by omega,by omega,E.more aa,by omega⟩ (by show n.toNat<N;omega) ?_
 .rintro _ ⟨j,a',B,rfl,k,h,q,c,s⟩
  unfold PG
  dsimp only
  by_cases hlt:0<j
  .rw[if_pos (by simp only[j6];omega)]
   refine Ok.bind (qSm (K:=4800+950*(3-j)) aa aa aa c aa aa aa) ?_
   rintro _ ⟨g,C,rfl,p,v2,d,t⟩
   dsimp only
   have w:IntKind.wrap .i64 ((j:Int)-1)=((j-1:Nat):Int):=by rw[bY aa aa];omega
   rw[w]
   exact Ok.mk ⟨⟨j-1,g,C,rfl,by omega,by omega,by omega,d.more aa,by omega⟩,by simp only[jZ];omega⟩
  rw[if_neg (by simp only[j6];omega)]
  exact Ok.mk ⟨a',B,rfl,h,by omega,c.more aa,by omega⟩
 rintro _ ⟨a',B,rfl,h,q,c,s⟩
 dsimp only
 refine Ok.bind (qIr aa h aa) ?_
 rintro _ ⟨g,e,rfl,F,G,p⟩
 dsimp only
 unfold PV
 refine Ok.assoc (Ok.pick aa aa ac ac fun z R=> ?_)
 obtain⟨r,D,-⟩:=HP (N:=N) (l:=l) (a:=g+1) (n:=1073741824) aa aa ac
 dsimp only
 rw[D]
 refine Ok.someb (Ok.someb (Ok.mk ?_))
 obtain⟨M,rfl⟩:∃M,N=M+300:=⟨N-300,by omega⟩
 have d:=jN.1 (qSe M) e p
 simp only[jK,j6,jN] at d
 refine⟨qKj c aa,d.1.1,⟨by omega,tK.2 (c.wf ac aa),fun f t k=> ?_,d.1.2,fun v x=>d.2 v x⟩⟩
 have u:nE f.1=true:=by unfold pX at k;rw[jK] at k;exact k.1
 exact qSb trivial (qMh ((c.2 f t).2.2 u).cm)
theorem qJz(M:Nat):LQ (M+800)=some true:=by kernel_rfl
theorem testgatelaw10_EvaluateWords_true(l:List Int)(_gl:l.length*8<=reachBytes/\∀x∈l,(Lit.int .i64 x).wf=true)(a:Int)(ga:(Lit.int .u64 a).wf=true)(b:Int)(_gb:(Lit.int .u64 b).wf=true):∃N,KH N l a b=some true:=by
 refine⟨4000000,?_⟩
 have key:Ok (KH 4000000 l a b) fun r=>r=true:=by
  unfold KH
  refine Ok.bind (qQs (l:=l) ac) fun y V=> ?_
  obtain⟨A,z,H⟩:=V
  obtain⟨T,t1,t2,Z⟩:=qJk H.hc (N:=4000000) ac
  rw[t1,j0]
  have U:∃n:Nat,a=(n:Int)/\n<2^64:=by
   simp[Lit.wf,IntKind.min,IntKind.max,IntKind.signed,IntKind.bits] at ga
   exact⟨a.toNat,by omega,by omega⟩
  obtain⟨n,rfl,S⟩:=U
  have:=DC (f:=AP 4000000 (n:Int) b y T) (fun i=>(i:Int)) T.length (.inl ()) (fun i hi=>by
   simp only[AP]
   rw[if_pos (by simpa using hi),eS hi]
   have d:=Z T[i] (jS hi)
   have G:=UA (w:=(n:Int)) H A z d
   have K:=UA (w:=b) H A z d
   have D:=UA (w:=vA .u64 (n:Int) 1099511627776) H A z d
   have u:oP y.2.1 y.2.2.1 (vA .u64 (n:Int) 1099511627776) T[i].1 T[i].2=oP y.2.1 y.2.2.1 (n:Int) T[i].1 T[i].2:=qLo H d fun k k0 k1 kf=>by
    obtain⟨m,rfl⟩:∃m:Nat,k=(m:Int):=⟨k.toNat,by omega⟩
    exact qOa n m S aa aa
   rw[u] at D
   have v:=qNv (a:=(n:Int)) (b:=b) (L:=y.2.1) (env:=y.2.2.1) (P:=T[i].1) (T:=T[i].2)
   have E:(n:Int)=b->oP y.2.1 y.2.2.1 b T[i].1 T[i].2=oP y.2.1 y.2.2.1 (n:Int) T[i].1 T[i].2:=fun e=>by rw[e]
   have B:=qPx (ZH y.2.1 y.2.2.1 (n:Int) T[i].1 T[i].2)
   generalize oP y.2.1 y.2.2.1 (n:Int) T[i].1 T[i].2=o at*
   have c:=qMx (N:=4000000) (r:=tX o) B (by show(xZ _).length<4000000;omega)
   simp only[j0]
   rw[show uK 4000000 _ _ (n:Int) T[i]=_ from G,j0,show uK 4000000 _ _ b T[i]=_ from K,j0]
   rw[show uK 4000000 _ _ _ T[i]=_ from D]
   rw[if_neg ad,if_neg ad]
   have M:(tX o).2.1=false->tX (oP y.2.1 y.2.2.1 b T[i].1 T[i].2)=tX o:=fun h=>congrArg tX (v h)
   have R:(n:Int)=b->tX (oP y.2.1 y.2.2.1 b T[i].1 T[i].2)=tX o:=fun h=>congrArg tX (E h)
   generalize tX (oP y.2.1 y.2.2.1 b T[i].1 T[i].2)=s at*
   generalize tX o=r at*
   have fin:((some (r,(0:Int))).bind fun q=>(if(q.2 !=0)=true then(some true) else((vO 4000000 (r.1,r.2.1,r.2.2.1,r.2.2.2) (q.1.1,q.1.2.1,q.1.2.2.1,q.1.2.2.2)).bind fun y8=>some (!y8)):Option (Bool)).bind fun Y=>if Y=true then(some (.inr (.inr (false)))) else(some (.inl (IntKind.wrap .i64 ((i:Int)+1)))):Option (Int⊕(Unit⊕Bool)))=some (.inl ((i+1:Nat):Int)):=by
    rw[j0,if_neg ad,show vO 4000000 _ _=_ from c]
    simp only[j0]
    rw[if_neg ac,bY aa aa];rfl
   rcases Bool.eq_false_or_eq_true r.2.1 with p|p
   rotate_left
   .rw[M p,if_neg (show ¬(!(r.2.1==r.2.1))=true by simp),if_pos (show(!r.2.1)=true by rw[p];rfl),show vO 4000000 _ _=_ from c]
    simp only[j0]
    rw[if_neg ac]
    exact fin
   by_cases t:(!(r.2.1==s.2.1))=true
   .have F:¬((n:Int)==b)=true:=fun g=>by rw[R (by simpa using g)] at t;simp at t
    rw[if_pos t,if_neg F,if_neg (show ¬(!r.2.1)=true by rw[p];decide)]
    simp only[j0]
    rw[if_neg ac]
    exact fin
   rw[if_neg t,if_neg (show ¬(!r.2.1)=true by rw[p];decide)]
   simp only[j0]
   rw[if_neg ac]
   exact fin) (by simp only[AP];rw[if_neg ad]) (N:=4000000) aa
  rw[show aK (AP 4000000 (n:Int) b y T) 4000000 0=_ from this,j0]
  rw[show LQ 4000000=some true from qJz 3999200]
  exact Ok.mk rfl
 obtain⟨r,d,rfl⟩:=key
 exact d
end
end Go.Proofs.YthfgphcennamkaaGreatDoor
