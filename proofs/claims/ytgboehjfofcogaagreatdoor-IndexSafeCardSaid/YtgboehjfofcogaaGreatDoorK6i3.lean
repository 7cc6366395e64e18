/- No condition but those of each theorem. -/
import Derived.Test.YtgboehjfofcogaaGreatDoorK5i3
namespace Go.Proofs.YtgboehjfofcogaaGreatDoor
section
open Go Go.Dc Go.Sort Go.Proofs
def iY:List lX->Ky->List Int
 |[],_=>[]
 |p::L,k=>if p.1=k then p.2 else iY L k
theorem Nd{k:Ky}:∀{L:List lX} {m:Nat},DS L->(a:m<L.length)->L[m].1=k->iY L k=L[m].2
 |p::L,0,_,_,h=>by grind [iY]
 |p::L,m+1,c,a,h=>by
  have ha':=jF.1 c
  simp only[jS] at a
  simp only[List.getElem_cons_succ] at h ⊢
  have d:=ha'.1 L[m] (jI aa)
  have b:¬p.1=k:=λe=>by rw[e,h] at d;have:=(cK_lin.zero k k).2 rfl;omega
  simp only[iY,b,jE]
  exact Nd ha'.2 aa h
theorem XW{k:Ky}:∀{L:List lX},(∀p∈L,p.1≠k)->iY L k=[]
 |[],_=>rfl
 |p::L,h=>by
  simp only[iY,h p (jD ..),jE]
  exact XW λq a=>h q (jC _ a)
theorem Lm{n:Int}{k:Ky}:∀{L:List lX},(∀p∈L,NX n p)->RecOK n (iY L k)
 |[],_=>⟨λr b=>by grind [iY],List.Pairwise.nil⟩
 |p::L,h=>by
  simp only[iY]
  split
  .exact(h p (jD ..)).2.2
  exact Lm λq a=>h q (jC _ a)
theorem qHf{i j:Nat}(hi:i<2000000)(a:j<2000000):wI (Int.fdiv (IntKind.wrap .u64 (wI ((i:Int)+(j:Int)))) (2^1))=(((i+j)/2:Nat):Int):=by
 grind [bA,AX]
theorem YR{N:Nat}(c:3000000<N){x:mI}{k:Ky}(p:x.1.length<=1048576):∀(d i j M:Nat),j-i<=d->d<M->i<=j->(K:j<=x.1.length)->(∀t (h:t<x.1.length),t<i->cK x.1[t].1 k<0)->(∀t (h:t<x.1.length),j<=t->¬cK x.1[t].1 k<0)->
  DS x.1->∃m:Nat,aA (ME N x k) M ((i:Int),(j:Int))=some (m:Int)/\m<=x.1.length/\(∀t (h:t<x.1.length),t<m->cK x.1[t].1 k<0)/\(∀t (h:t<x.1.length),m<=t->¬cK x.1[t].1 k<0)
 |_,_,_,0,_,h,_,_,_,_,_=>absurd h (jO _)
 |d,i,j,M+1,F,G,H,v,y,z,f=>by
  simp only[aA,ME]
  by_cases hij:i<j
  .have A:((i:Int)<(j:Int)):=by omega
   have o:=qHf (i:=i) (j:=j) aa aa
   generalize hg:(i+j)/2=g at o
   have D:i<=g:=by omega
   have E:g<j:=by omega
   have b:g<x.1.length:=by omega
   have mono:∀t s (a:t<x.1.length) (q:s<x.1.length),t<s->cK x.1[t].1 x.1[s].1<0:=λt s a q u=>fS.1 f t s a q u
   have B:wI ((g:Int)+1)=((g+1:Nat):Int):=by grind [bA]
   have l:xX N (x.1[g].1.1,x.1[g].1.2.1,x.1[g].1.2.2) (k.1,k.2.1,k.2.2)=some (cK x.1[g].1 k):=XU c _ _
   simp only[A,decide_true,jJ,o,cD b,j0,l]
   by_cases hlt:cK x.1[g].1 k<0
   .have:¬cK x.1[g].1 k>=0:=by omega
    simp only[this,decide_false,kV,jJ,j0,B]
    refine YR c p (d-1) (g+1) j M aa aa aa v (λt a r=> ?_) z f
    by_cases e:t=g
    .subst e;exact hlt
    exact cK_lin.trans _ _ _ (mono t g a b aa) hlt
   have:cK x.1[g].1 k>=0:=by omega
   simp only[this,decide_true,kK,j7,jE,j0]
   refine YR c p (d-1) i g M aa aa aa aa y (λt a r n=> ?_) f
   by_cases e:t=g
   .grind
   exact hlt (cK_lin.trans _ _ _ (mono g t b a aa) n)
  grind
theorem qGz{N:Nat}(d:3000000<N){x:mI}{k:Ky}(c:AR x):GH N (x.1,x.2) (k.1,k.2.1,k.2.2)=some (if wQ x then iY x.1 k else[]):=by
 show GH N x k=_
 have q:=c.1
 have l:=Mu d c
 simp only[GH]
 rw[show xY N (x.1,x.2)=some (wQ x) from l]
 cases hck:wQ x with
 |false=>rfl
 |true=>
  have b:=SZ.1 hck
  obtain⟨m,f,z,A,g⟩:=YR (N:=N) d (x:=x) (k:=k) q x.1.length 0 x.1.length N aa aa aa (jH _) (λt _ h=>by omega) (λt n o=>by omega) b.2.2
  have e1':aA (ME N x k) N (0,(x.1.length:Int))=some (m:Int):=f
  simp only[j0,kK,j7,jE,e1',jJ]
  have none_of:(∀(h:m<x.1.length),x.1[m].1≠k)->iY x.1 k=[]:=λu=>XW λp r e=>by
   obtain⟨t,s,rfl⟩:=List.getElem_of_mem r
   have B:=(cK_lin.zero x.1[t].1 k).2 e
   by_cases n:t<m
   .grind
   by_cases o:t=m
   .grind
   have a:m<x.1.length:=by omega
   have v:=g m a (jH _)
   have y:=fS.1 b.2.2 m t a s aa
   grind
  by_cases hm:m=x.1.length
  .grind
  have:((m:Int)==(x.1.length:Int))=false:=by grind
  have a:m<x.1.length:=by omega
  simp only[this,j7,jE,cD a,j0,OJ]
  by_cases he:x.1[m].1=k
  .have s:=c.2 x.1[m] (jI a)
   simp only[he,decide_true,kK,j7,jE]
   rw[Ac aa,Nd b.2.2 a he]
   rfl
  grind
def wS(R:List Int)(l:List Bool):List Bool:=R.foldl (λl t=>l.set t.toNat true) l
def tW(L:List lX)(keys:List Ky)(l:List Bool):List Bool:=keys.foldl (λl k=>wS (iY L k) l) l
theorem TI:∀(R:List Int) (l:List Bool),(wS R l).length=l.length
 |[],_=>rfl
 |r::R,l=>by
  show(wS R (l.set r.toNat true)).length=_
  rw[TI R];simp
theorem SY(L:List lX):∀(keys:List Ky) (l:List Bool),(tW L keys l).length=l.length
 |[],_=>rfl
 |k::keys,l=>by
  show(tW L keys (wS (iY L k) l)).length=_
  rw[SY L keys,TI]
theorem Kb{N:Nat}{R:List Int}(e:R.length<=2000000):∀(d i M:Nat) (l:List Bool),i+d=R.length->d<M->(∀r∈R,0<=r/\r<(l.length:Int))->aA (LT N R) M ((i:Int),l)=some (wS (R.drop i) l)
 |_,_,0,_,_,h,_=>absurd h (jO _)
 |d,i,M+1,l,k,n,c=>by
  simp only[aA,LT]
  cases d with
  |zero=>
   have b:¬((i:Int)<(R.length:Int)):=by omega
   simp only[b,decide_false,j7,jE,j0]
   rw[gU aa];rfl
  |succ d=>
   have hi:i<R.length:=by omega
   have b:((i:Int)<(R.length:Int)):=by omega
   have g:wI ((i:Int)+1)=((i+1:Nat):Int):=by grind [bA]
   have a:R.drop i=R[i]::R.drop (i+1):=(jY hi).symm
   obtain⟨o,p⟩:=c _ (jI hi)
   have f:aO l R[i]=some (l[R[i].toNat]' aa):=by
    grind [cD]
   simp only[b,decide_true,jJ,cD hi,j0,f,g]
   rw[Kb e d (i+1) M _ aa aa (by simpa using c),a]
   rfl
theorem Im{N:Nat}(f:3000000<N){x:mI}(e:AR x)(c:yO x){keys:List Ky}(n:keys.length<=1000000):∀(d i M:Nat) (l:List Bool),i+d=keys.length->d<M->(l.length:Int)=x.2->
  aA (LR N x keys) M ((i:Int),l)=some (tW x.1 (keys.drop i) l)
 |_,_,0,_,_,h,_=>absurd h (jO _)
 |d,i,M+1,l,u,v,y=>by
  simp only[aA,LR]
  cases d with
  |zero=>
   have b:¬((i:Int)<(keys.length:Int)):=by omega
   simp only[b,decide_false,j7,jE,j0]
   rw[gU aa];rfl
  |succ d=>
   have hi:i<keys.length:=by omega
   have b:((i:Int)<(keys.length:Int)):=by omega
   have t:wI ((i:Int)+1)=((i+1:Nat):Int):=by grind [bA]
   have a:keys.drop i=keys[i]::keys.drop (i+1):=(jY hi).symm
   have g:=qGz (N:=N) f (x:=x) (k:=keys[i]) e
   rw[SZ.2 c,jB rfl] at g
   have s:RecOK x.2 (iY x.1 keys[i]):=Lm c.2.1
   have o:(iY x.1 keys[i]).length<=1048576:=by
    have:∀L:List lX,(∀p∈L,p.2.length<=1048576)->(iY L keys[i]).length<=1048576:=by
     intro L
     induction L with
     |nil=>grind [iY]
     |cons p L q=>
      grind [iY]
    exact this x.1 λp q=>(e.2 p q).2
   have q:aA (LT N (iY x.1 keys[i])) N (0,l)=some (wS (iY x.1 keys[i]) l):=Kb aa (iY x.1 keys[i]).length 0 N l aa aa (λr hr'=>by have:=s.1 r hr';omega)
   simp only[b,decide_true,jJ,cD hi,j0,g,q,t]
   rw[Im f e c n d (i+1) M _ aa aa (by grind [TI]),a]
   rfl
def rS(b:Bool):Nat->List Bool->List Int
 |_,[]=>[]
 |i,a::l=>if a=b then(i:Int)::rS b (i+1) l else rS b (i+1) l
theorem Lp:∀(i:Nat) (l:List Bool),(rS true i l).length+(rS false i l).length=l.length
 |_,[]=>rfl
 |i,a::l=>by
  have:=Lp (i+1) l
  grind [rS]
theorem Ad{N:Nat}{x:mI}{b:Bool}{l:List Bool}(e:x.2=(l.length:Int))(c:l.length<=1000000):∀(d i M:Nat) (S:List Int),i+d=l.length->d<M->S.length<=i->aA (LP N x b l) M (S,(i:Int))=some (S++rS b i (l.drop i))
 |_,_,0,_,_,h,_=>absurd h (jO _)
 |d,i,M+1,S,k,n,o=>by
  have hn':x.2.toNat=l.length:=by omega
  simp only[aA,LP,hn']
  cases d with
  |zero=>
   grind [rS]
  |succ d=>
   have hi:i<l.length:=by omega
   have g:((i:Int)<(l.length:Int)):=by omega
   have f:wI ((i:Int)+1)=((i+1:Nat):Int):=by grind [bA]
   have a:l.drop i=l[i]::l.drop (i+1):=(jY hi).symm
   simp only[g,decide_true,jJ,cD hi,j0]
   rw[a]
   simp only[rS]
   by_cases he:l[i]=b
   .have:(l[i]==b)=true:=by simp[he]
    simp only[this,jJ]
    rw[jB he,eT (by grind) ac]
    simp only[j0,f]
    rw[Ad e c d (i+1) M _ aa aa (by grind),jW]
    rfl
   have:(l[i]==b)=false:=by simp[he]
   simp only[this,j7,jE,j0,f]
   rw[jA he,Ad e c d (i+1) M _ aa aa aa]
theorem Lg{N:Nat}(c:3000000<N){keys:List Ky}(e:keys.length<=1000000)(f:∀k∈keys,k.2.1.size<=1048576):∀(d i M:Nat),i+d=keys.length->d<M->
  ∃o,aA (LS N keys) M (i:Int)=some o/\(((keys.drop i).all eY=true/\o= .inl ())\/((keys.drop i).all eY=false/\∃j:Nat,o= .inr (j:Int)))
 |_,_,0,_,h=>absurd h (jO _)
 |d,i,M+1,l,n=>by
  simp only[aA,LS]
  cases d with
  |zero=>
   grind
  |succ d=>
   have hi:i<keys.length:=by omega
   have hc':((i:Int)<(keys.length:Int)):=by omega
   have g:wI ((i:Int)+1)=((i+1:Nat):Int):=by grind [bA]
   have a:keys.drop i=keys[i]::keys.drop (i+1):=(jY hi).symm
   have b:SL N (keys[i].1,keys[i].2.1,keys[i].2.2)=some (!eY keys[i]):=by
    grind [SL,XB]
   simp only[hc',decide_true,jJ,cD hi,j0,b]
   rw[a]
   simp only[fF]
   by_cases hck:eY keys[i]=true
   .simp only[hck,kK,j7,jE,j0,g,gY]
    exact Lg c e f d (i+1) M aa aa
   grind
def HB(x:mI)(keys:List Ky)(b:Bool):List Int×Int:=
 if wQ x=true/\keys.all eY then(rS b 0 (tW x.1 keys (List.replicate x.2.toNat false)),0) else([],1)
theorem Js{N:Nat}(f:3000000<N){x:mI}(l:AR x){keys:List Ky}(h:keys.length<=1000000)(r:∀k∈keys,k.2.1.size<=1048576)(b:Bool):MI N x keys b=some (HB x keys b):=by
 have p:=Mu f l
 simp only[MI,HB]
 rw[show xY N (x.1,x.2)=some (wQ x) from p]
 cases hck:wQ x with
 |false=>rfl
 |true=>
  have g:=SZ.1 hck
  obtain⟨o,n,c⟩:=Lg f h r keys.length 0 N aa aa
  have e1':aA (LS N keys) N 0=some o:=n
  rw[kP] at c
  simp only[j0,kK,j7,jE,e1',true_and]
  rcases c with ⟨c,rfl⟩|⟨c,j,rfl⟩
  .have e:¬((-1:Int)>=0):=by omega
   have u:wX 1 false x.2=some (List.replicate x.2.toNat false):=by
    have a:(maxLen:Nat)=9223372036854775807:=rfl
    have q:=g.1
    grind [wX]
   have a:(List.replicate x.2.toNat false).length=x.2.toNat:=gX
   have q:=g.1
   have s:aA (LR N x keys) N (0,List.replicate x.2.toNat false)=some (tW x.1 keys (List.replicate x.2.toNat false)):=Im f l g h keys.length 0 N _ aa aa (by rw[a];omega)
   have d:=SY x.1 keys (List.replicate x.2.toNat false)
   have t:aA (LP N x b (tW x.1 keys (List.replicate x.2.toNat false))) N (([]:List Int),0)=some (rS b 0 (tW x.1 keys (List.replicate x.2.toNat false))):=Ad (by grind) (by rw[d,a];omega) _ 0 N [] (gN _) (by rw[d,a];omega) (jH _)
   grind
  grind
theorem Zq{N:Nat}(a:3000000<N){x:mI}(d:AR x){keys:List Ky}(b:keys.length<=1000000)(c:∀k∈keys,k.2.1.size<=1048576):FQ N (x.1,x.2) keys=some (HB x keys true):=by
 grind [FQ,Js]
theorem Yd{N:Nat}(a:3000000<N){x:mI}(d:AR x){keys:List Ky}(b:keys.length<=1000000)(c:∀k∈keys,k.2.1.size<=1048576):FO N (x.1,x.2) keys=some (HB x keys false):=by
 grind [FO,Js]
theorem Od:∀(L:List mA) (i:Nat) (x:mI),yY i x->yO x->i+L.length<=512->(∀c∈L,SmallR c)->L.all sG=true->yY (i+L.length) (L.foldl qG x)/\yO (L.foldl qG x)
 |[],i,x,a,b,_,_,_=>⟨a,b⟩
 |c::L,i,x,a,b,h,f,e=>by
  simp only[fF,jU] at e
  simp only[jS] at h
  have g:x.2<512:=by have:=a.1;omega
  have:=Od L (i+1) (qG x c) (YO a (f c (jD ..))) (Ie b g (Hg e.1)) aa (λd k=>f d (jC _ k)) e.2
  simp only[jS,kI]
  rw[show i+(L.length+1)=i+1+L.length by omega]
  exact this
end
section
open Go Go.Dc Go.Proofs
variable {N:Nat} {S U:List BA} {t:BA}
theorem ZE(h:S.Nodup)(g:S.length<=4096)(c:5000<N):FF N S=some 0:=by
 have d:∀i (hi:i<S.length) j (a:j<S.length),S[i]=S[j]->i=j:=λi hi j a e=>(List.getElem_inj h).1 e
 have:=tO (f:=KJ N S) (λi=>(i:Int)) S.length (.inl ()) (λi hi=>by
  have b:=tO (f:=KC N S[i] (S.take i)) (λj=>(j:Int)) i (.inl ()) (λj a=>by
   grind [KC,cD,sO,bA]) (by
   grind [KC]) (N:=N) aa
  grind [KJ,cD,CL,bA]) (by grind [KJ]) (N:=N) aa
 grind [FF]
theorem Hz(c:S.length<=4096):∀(d i M:Nat),i+d=S.length->d<M->∃o:Unit⊕Int,aA (FB N S t) M (i:Int)=some o/\(o= .inl ()/\t∉S.drop i\/∃n:Nat,o= .inr (n:Int)/\S[n]? =some t)
 |_,_,0,_,h=>absurd h (jO _)
 |0,i,M+1,a,b=>by
  grind [aA,FB]
 |d+1,i,M+1,a,b=>by
  have hi:i<S.length:=by omega
  simp only[aA,FB]
  rw[jB (by simpa using hi),cD hi,j0,sO]
  by_cases he:S[i]=t
  .grind
  rw[kC he,jA ac,bA aa aa,show((i:Int)+1)=((i+1:Nat):Int) by omega]
  obtain⟨o,e,f⟩:=Hz c d (i+1) M aa aa
  grind [pF]
def StI(U S:List BA):Prop:=S.Nodup/\∀x∈S,x∈U
theorem StI.len(h:StI U S):S.length<=U.length:=SM h.1 h.2
theorem qJc(h:StI U S)(f:U.length<=4000)(k:t∈U)(e:5000<N):∃(R:List BA) (n:Nat),SG N S t=some (S++R,(n:Int),0)/\StI U (S++R)/\(S++R)[n]? =some t:=by
 have g:=h.len
 obtain⟨o,c,d⟩:=Hz (N:=N) (t:=t) (show S.length<=4096 by omega) S.length 0 N aa aa
 unfold SG WY
 rw[ZE h.1 aa e,j0,jA ac,eT (by grind) ac,j0,show aA (FB N S t) N 0=_ from c,j0]
 rcases d with ⟨rfl,b⟩|⟨n,rfl,b⟩
 .rw[kP] at b
  dsimp only
  rw[j0,jA ac,jA ah,eT (by grind) ac]
  refine⟨[t],S.length,rfl,⟨List.nodup_append.2 ⟨h.1,by simp,?_⟩,λx a=> ?_⟩,by simp⟩
  .grind
  rcases kJ.1 a with a|a
  .exact h.2 x a
  grind
 dsimp only
 rw[j0,jB ad]
 exact⟨[],n,by grind,by grind,by grind⟩
def FOk(V:Ky->BA)(S:List BA)(f:Ky×Int):Prop:=∃n:Nat,f.2=(n:Int)/\S[n]? =some (V f.1)
theorem FOk.more{V:Ky->BA}{S R:List BA}{f:Ky×Int}(h:FOk V S f):FOk V (S++R) f:=by
 obtain⟨n,a,b⟩:=h
 exact⟨n,a,by grind⟩
variable {V:Ky->BA} {ks:List Ky}
theorem Jp(l:U.length<=4000)(o:∀k∈ks,V k∈U)(r:ks.length<=4000)(g:5000<N):∀(d i M:Nat) (F:List (Ky×Int)) (S:List BA),i+d=ks.length->d<M->F.length=i->StI U S->(∀f∈F,FOk V S f)->
  ∃(G:List (Ky×Int)) (R:List BA),aA (KR N (ks,0) (ks.map V,0)) M ((i:Int),F,S)=some (.inl (F++G,S++R))/\G.map (·.1)=ks.drop i/\StI U (S++R)/\∀f∈F++G,FOk V (S++R) f
 |_,_,0,_,_,_,h,_,_,_=>absurd h (jO _)
 |0,i,M+1,F,S,p,q,b,c,e=>by
  refine⟨[],[],?_,by grind,by rwa[gT],by grind⟩
  grind [aA,KR]
 |d+1,i,M+1,F,S,p,q,b,c,e=>by
  have hi:i<ks.length:=by omega
  obtain⟨R,n,p1,p2,p3⟩:=qJc c l (o _ (jI hi)) g
  have s:=Jp l o r g d (i+1) M (F++[(ks[i],(n:Int))]) (S++R) aa aa (by simp[b]) p2 (λf a=>by
   rcases kJ.1 a with a|a
   .exact(e f a).more
   rw[kY.1 a];exact⟨n,rfl,p3⟩)
  obtain⟨G,R',u,v,x,y⟩:=s
  have t:F++(ks[i],(n:Int))::G=F++[(ks[i],(n:Int))]++G:=List.append_cons ..
  refine⟨(ks[i],(n:Int))::G,R++R',?_,by grind [pF],by grind,by grind⟩
  simp only[aA,KR]
  grind [cD,eT,bA]
structure RcOk(N:Nat)(V:Ky->BA)(S:List BA)(c:mA):Prop where
 nm:lC c.1.1=true/\lC c.1.2=true
 z1:c.2.1=0
 z2:c.2.2.1=0
 lv:1<=c.2.2.2.1/\c.2.2.2.1<=3
 rs:zP N c.2.2.2.2.1=some true
 st:rO cK (mO c)
 ks:∀k∈mO c,Kg k/\pO c.2.2.2.1 k=k
 fs:∀f∈c.2.2.2.2.2.2,FOk V S f
theorem RcOk.more{S R:List BA}{c:mA}(h:RcOk N V S c):RcOk N V (S++R) c:=⟨h.nm,h.z1,h.z2,h.lv,h.rs,h.st,h.ks,λf a=>(h.fs f a).more⟩
def keyL:List Ky:=(nmW.flatMap λp=>nmW.flatMap λn=>[(1,dP p,dP n),(2,dP p,dP n)])++((wdW.flatMap λp=>[(3,dP p,e0),(4,dP p,e0),(5,dP p,e0)])++nmW.flatMap λp=>[(6,dP p,e0),(7,dP p,e0)])
theorem Ab:keyL.length<=1000:=by decide+kernel
theorem Ib(s:BA):dP s.data.toList=s:=by cases s;simp[dP]
theorem Kw.mem{k:Ky}(h:Kw k):k∈keyL:=by
 obtain⟨q,x,y⟩:=k
 have ex:=Ib x
 have ey:=Ib y
 rcases h with ⟨c,a,b⟩|⟨c,a,b⟩|⟨c,a,b⟩
 .refine kQ _ (kL.2 ⟨_,a,kL.2 ⟨_,b,?_⟩⟩)
  grind
 .refine kW _ (kQ _ (kL.2 ⟨_,a,?_⟩))
  grind
 refine kW _ (kW _ (kL.2 ⟨_,a,?_⟩))
 grind
theorem Kg.up{k:Ky}(h:Kg k)(n:Int):Kg (pO n k):=by
 refine⟨qIm h.1,?_⟩
 obtain⟨-,h⟩:=h
 unfold pO
 split
 .rename_i g
  rcases h with ⟨b,a,c⟩|⟨b,a,c⟩|⟨b,a,c⟩
  .exact .inr (.inr ⟨.inl rfl,a,rfl⟩)
  .omega
  omega
 split
 .rename_i g
  rcases h with ⟨b,a,c⟩|⟨b,a,c⟩|⟨b,a,c⟩
  .exact .inr (.inr ⟨.inr rfl,a,rfl⟩)
  .omega
  exact .inr (.inr ⟨.inr rfl,a,rfl⟩)
 exact h
theorem Qo(k:Ky):¬cK k k<0:=by
 have:=(cK_lin.zero k k).2 rfl
 omega
theorem Kg.few{K:List Ky}(h:∀k∈K,Kg k)(d:rO cK K):K.length<=1000:=kM (SM (d.imp λ{a b} h e=>by subst e;exact Qo a h) λk c=>(h k c).2.mem) Ab
theorem Oq(e:100<N){x:BA×BA}(a:lC x.1=true)(c:lC x.2=true){n:Int}(d:1<=n/\n<=3){r:Int×Int×Int}{b:Bool}{F:List (Ky×Int)}:LN N (x,0,0,n,r,b,F)=some true:=by
 grind [LN,MR]
theorem qGl{L:List bY}{env:iG}{S:List BA}(h:SmF L)(p:fP L=0)(y:wY env)(d:rV N env=some true)(o:3000000<N)(e:StI (keyL.map (lF N L env)) S)
  {x:BA×BA} (g:lC x.1=true) (l:lC x.2=true) {n:Int} (b:1<=n/\n<=3) {r:Int×Int×Int} (s:zP N r=some true) {rnd:Bool} {tr:List Ky} (t:∀k∈tr,Kg k) (D:tr.length<1000000) {z:Int}:
  ∃(R:List BA) (c:mA),RZ N S L env (x,0,0,n,(0,0,0),false,[]) (r,rnd,tr,z)=some (S++R,c,0)/\StI (keyL.map (lF N L env)) (S++R)/\RcOk N (lF N L env) (S++R) c/\c.1=x:=by
 have q:(keyL.map (lF N L env)).length<=4000:=by grind [Ab]
 have a:∀k∈nI (tr.map (pO n)),Kg k/\pO n k=k:=λk a=>by
  obtain⟨k',hk',rfl⟩:=gF.1 (xZ.1 a)
  exact⟨(t k' hk').up n,qBe b.1 (gB _) b.2 k'⟩
 have B:=Kg.few (λk h=>(a k h).1) (MJ (tr.map (pO n)))
 obtain⟨G,R,F,H,u,v⟩:=Jp (N:=N) (ks:=nI (tr.map (pO n))) (V:=lF N L env) q (λk h=>gE (a k h).1.2.mem) aa aa (nI (tr.map (pO n))).length 0 N [] S aa aa rfl e (λf A=>by cases A)
 have E:=e.len
 refine⟨R,(x,0,0,n,r,rnd,G),?_,u,⟨⟨g,l⟩,rfl,rfl,b,s,?_,?_,v⟩,rfl⟩
 .unfold RZ
  dsimp only
  rw[ZE e.1 aa aa,j0,jA ac,wE aa,p,j0,jA ac,d,j0,jA ac,Oq aa g l b,j0,jA ac,s,j0,j0,jA ac]
  rw[Zh o b.1 b.2 D (λk a=>(t k a).1),j0,jA ad,jA ah,Ia h p y d o (λk h=>(a k h).1.1) aa,j0]
  grind
 .show rO cK (G.map (·.1))
  grind [MJ]
 show ∀k∈G.map (·.1),_
 grind
theorem qDt{K:List Ky}(h:rO cK K){i:Nat}(hi:i+1<K.length):cK K[i] K[i+1]<0:=fS.1 h i (i+1) aa hi aa
theorem qEl{S:List BA}{c:mA}(h:RcOk N V S c)(v:S.length<=4096)(u:5000<N):RK N c (S.length:Int)=some 0:=by
 have e:=Kg.few (λk d=>(h.ks k d).1) h.st
 obtain⟨⟨o,p⟩,g,l,lv,rs,st,ks,fs⟩:=h
 obtain⟨x,a,b,n,r,rnd,F⟩:=c
 dsimp only[mO] at*
 subst g l
 rw[gS] at e
 have d:∀i (hi:i<F.length),Kg F[i].1/\pO n F[i].1=F[i].1:=λi hi=>ks _ (gE (jI hi))
 have y:=tO (f:=KN N (x,0,0,n,r,rnd,F)) (λi=>(i:Int)) F.length (.inl ()) (λi hi=>by
  simp only[KN]
  rw[jB (by simpa using hi),cD hi,j0,Iv aa lv.1 lv.2 (d i hi).1.1,(d i hi).2,j0,jA ad,OJ,kE rfl,jA ac]
  cases i with
  |zero=>rfl
  |succ i=>
   have s:=qDt st (i:=i) (by grind)
   grind [bA,cD,Hu]) (by grind [KN]) (N:=N) aa
 have z:=tO (f:=KM N (x,0,0,n,r,rnd,F) (S.length:Int)) (λi=>(i:Int)) F.length (.inl ()) (λi hi=>by
  obtain⟨q,s,t⟩:=fs _ (jI hi)
  grind [KM,cD,bA]) (by grind [KM]) (N:=N) aa
 grind [RK,Oq]
theorem qEs{L:List bY}{env:iG}{S:List BA}{c:mA}(p:SmF L)(o:fP L=0)(v:wY env)(d:rV N env=some true)(s:3000000<N)(l:StI U S)(G:U.length<=4000)(h:RcOk N V S c):
  ∃z:Int,FG N S L env c=some (z,0)/\(z= -1↔∀k∈mO c,lF N L env k=V k):=by
 have D:=l.len
 have e:=Kg.few (λk g=>(h.ks k g).1) h.st
 have u:=qEl h aa (show 5000<N by omega)
 obtain⟨-,-,-,-,-,-,ks,fs⟩:=h
 obtain⟨x,a,b,n,r,rnd,F⟩:=c
 dsimp only[mO] at*
 rw[gS] at e
 have y:=mM (L:=F) (λ(b:List BA) (i:Nat)=>(b,(i:Int))) (f:=JZ N S (x,a,b,n,r,rnd,F))
  (λb f=> .inl (b++[V f.1])) (λb=>b) (λi b=>b.length<=i) (by
   intro b i hi E
   obtain⟨q,A,B⟩:=fs _ (jI hi)
   grind [JZ,cD,eT,bA]) (by
   grind) (by
   grind [JZ]) (M:=N) (t:=[]) aa ad
 have A:=mM (L:=F) (λ(b:List Ky) (i:Nat)=>(b,(i:Int))) (f:=KT N (x,a,b,n,r,rnd,F))
  (λb f=> .inl (b++[f.1])) (λb=>b) (λi b=>b.length<=i) (by
   grind [KT,cD,eT,bA]) (by
   grind) (by
   grind [KT]) (M:=N) (t:=[]) aa ad
 rw[pG (λb (f:Ky×Int)=>b++[V f.1]) (λ_ _=>rfl),foldl_map (λf:Ky×Int=>V f.1)] at y
 rw[pG (λb (f:Ky×Int)=>b++[f.1]) (λ_ _=>rfl),foldl_map (λf:Ky×Int=>f.1)] at A
 obtain⟨z,E,B⟩:=qHx (N:=N) (x:=F.map (·.1)) (t:=F.map λf=>V f.1) p o v d s (λk g=>(ks k g).1.1) (by grind) ad
 refine⟨z,?_,B.trans ?_⟩
 .unfold FG WV WX
  dsimp only
  rw[ZE l.1 aa aa,j0,jA ac,u,j0,j0,jA ac,wE aa,o,j0,jA ac,d,j0,j0,jA ac]
  grind
 simp_all
variable {l:List Ld} {pkg:BA}
theorem qDq(h:∀x∈l,x.2.1≠pkg/\x.2.2.1.length<=8)(k:l.length<=100)(e:1000<N):FJ N (eO l) pkg=some [pkg]:=by
 have a:aA (xV N (l.map (·.1),l.map (·.2)) ([pkg],0)) N ([pkg],0)=some [pkg]:=tO (f:=xV N (l.map (·.1),l.map (·.2)) ([pkg],0)) (λi=>([pkg],(i:Int))) l.length [pkg] (λi hi=>by
  obtain⟨b,c⟩:=h _ (jI hi)
  have d:=tO (f:=BZ N ([pkg],0) (l[i]).2) (λj=>([pkg],(j:Int))) (l[i]).2.2.1.length [pkg] (λj g=>by
   simp only[BZ]
   grind [cD,aO,sO,bA]) (by
   grind [BZ]) (N:=N) aa
  grind [xV,cD,bA]) (by
  grind [xV]) aa
 have b:=tO (f:=FC N (l.map (·.1),l.map (·.2))) (λi=>([pkg],(i:Int))) 1 [pkg] (λi hi=>by
  obtain rfl:i=0:=by omega
  simp only[FC]
  rw[jB ad,show aA (xV N (l.map (·.1),l.map (·.2)) ([pkg],((0:Nat):Int))) N ([pkg],0)=_ from a];rfl) rfl (N:=N) aa
 have c:=tO (f:=QX N [pkg]) (λi=>((i:Int),[pkg])) 1 [pkg] (λi hi=>by
  obtain rfl:i=0:=by omega
  obtain⟨M,rfl⟩:∃M,N=M+1:=⟨N-1,by omega⟩
  rfl) rfl (N:=N) aa
 show(aA (FC N (l.map (·.1),l.map (·.2))) N ([pkg],0)).bind _=_
 grind
def vD(pkg:BA)(d:Dl):Ky:=if d.1=2 then(2,pkg,d.2.1) else if d.1=3 then(3,d.2.1,e0) else(1,pkg,d.2.1)
def uA(x:Sr):List Ky:=((x.1::x.2.1).flatMap λq=>[(6,q,e0),(7,q,e0)])++x.2.2.map (vD x.1)
def nP(L:List bY):List Ky:=L.map (λf=>(4,f.1,e0))++(dJ L).flatMap λx=>uA x.2
def Sm(k:Ky):BA:=if k.1=6 then eqB1++dP [] else if k.1=7 then eqB1++dP (catP [(k.2.1,eqB1++dP [])]) else⟨#[45]⟩
variable {L L':List bY} {env env':iG}
theorem NV(b:fP L=0){x:Ld}(a:x∈dJ L):okF (Zb false) F1 x.2:=by
 rw[HJ b] at a
 obtain⟨f,c,d,rfl⟩:=TH a
 grind [ZJ,ZW]
theorem Sb(h:SmF L)(c:fP L=0):∀k∈nP L,Kc k:=λk a=>by
 have nm:∀(i:Int) (p:BA),i=6\/i=7->lC p=true->Kc (i,p,e0):=λi p hi b=>by
  show eY _=true
  grind [eY]
 have pt:∀(i:Int) (p:BA),i=3\/i=4->eU p.data.toList=true->Kc (i,p,e0):=λi p hi b=>by
  show eY _=true
  grind [eY]
 have fn:∀(i:Int) (p n:BA),i=1\/i=2->lC p=true->lC n=true->Kc (i,p,n):=λi p n hi b s=>by
  show eY _=true
  grind [eY]
 rcases kJ.1 a with a|a
 .obtain⟨f,l,rfl⟩:=gF.1 a
  exact pt 4 f.1 (.inr rfl) (h.ok f l).1
 obtain⟨x,o,a⟩:=kL.1 a
 obtain⟨⟨t,u⟩,-,-,q⟩:=NV c o
 rcases kJ.1 a with a|a
 .grind [Zk3]
 obtain⟨d,g,rfl⟩:=gF.1 a
 obtain⟨-,-,-,-,r,v⟩:=q d g
 unfold vD
 split
 .grind [Zk3]
 split
 .rename_i e
  have:=(r e).1
  grind
 grind [Zk3]
theorem UC(h:SmF L)(c:fP L=0):(nP L).length<=5000:=by
 obtain⟨f,k,-⟩:=GW h
 have d:∀l:List Ld,(∀x∈l,okF (Zb false) F1 x.2)->(l.flatMap λx=>uA x.2).length<=90*l.length:=λl=>by
  induction l with
  |nil=>intro _;simp
  |cons x l b=>
   intro a
   have:=b λy e=>a y (jC _ e)
   obtain⟨-,n,o,-⟩:=a x (jD ..)
   have p:∀l:List BA,(l.flatMap λq=>[((6,q,e0):Ky),(7,q,e0)]).length=2*l.length:=λl=>by
    induction l with
    |nil=>rfl
    |cons q l b=>grind
   grind [uA]
 have g:=d (dJ L) λx a=>NV c a
 exact kM (Nat.le_of_eq (by grind [nP])) (kM (Nat.add_le_add h.len g) aa)
theorem qIp{k:Ky}(a:k.1≠5):lF N L env k=lF N L [] k:=by
 grind [lF,oD]
theorem qKi(h:SmF L)(F:fP L=0)(D:3000000<N){k:Ky}(c:Kc k)(Y:k.1≠5)(K:k∉nP L):lF N L [] k=Sm k:=by
 have e0':wY ([]:iG):=⟨jQ _,λv R=>by cases R⟩
 have V:=c.size
 have U:=c.kind
 suffices g:oD N L (eO (dJ L)) [] k=some (Sm k) by grind [lF]
 have A:∀x∈dJ L,∀k'∈uA x.2,k'≠k:=λx r k' hk' e=>K (kW _ (kL.2 ⟨x,r,e▸hk'⟩))
 -- declarations
 have dec:∀(q:Int) (p n:BA),(∀x∈dJ L,∀d∈x.2.2.2,qR d.1 x.2.1 d.2.1≠qR q p n)->wB N (eO (dJ L)) q p n=some ⟨#[45]⟩:=λq p n a=>by
  have H:(dO L q p n).2.2.2.2.2=0:=Decidable.byContradiction λl=>by
   have e:dO L q p n=oB (nB (mF L)) q p n:=by grind [dO]
   rw[e] at l
   obtain⟨o,E,s,-⟩:=Bc l
   obtain⟨f,u,G,j,d,B,rfl⟩:=ZC E
   refine a (f.1,(lN f.2).1) ?_ d (fQ B) s
   rw[HJ F]
   exact gF.2 ⟨f,gL.2 ⟨u,G⟩,rfl⟩
  grind [wB,Ng]
 have u:∀x∈dJ L,∀d∈x.2.2.2,vD x.2.1 d≠k:=λx r d a=>A x r _ (kW _ (gE a))
 have H:k.1=6\/k.1=7->∀x∈dJ L,x.2.1≠k.2.1:=λs x r e=>by
  have B:k.2.2=e0:=by
   have c:eY k=true:=c
   grind [eY]
  have:k=(k.1,k.2.1,e0):=by rw[<-B]
  rcases s with s|s
  .exact A x r (6,x.2.1,e0) (kQ _ (kL.2 ⟨_,jD ..,jD ..⟩)) (by grind)
  exact A x r (7,x.2.1,e0) (kQ _ (kL.2 ⟨_,jD ..,jC _ (jD ..)⟩)) (by grind)
 have E:k.1=6\/k.1=7->tC L k.2.1=eqB1++dP []:=λs=>by
  unfold tC yG OH
  rw[List.filter_eq_nil_iff.2 λx r=>by grind];rfl
 obtain⟨q,x,y⟩:=k
 dsimp only at*
 have s:q=1\/q=2\/q=3\/q=4\/q=6\/q=7:=by omega
 rcases s with rfl|rfl|rfl|rfl|rfl|rfl
 .rw[Av D (.inl rfl)]
  exact(dec 1 x y λz l d a e=>u z l d a (by
   grind [yB,vD]))
 .rw[Av D (.inr rfl)]
  exact(dec 2 x y λz l d a e=>u z l d a (by
   grind [yB,vD]))
 .have B:y=e0:=by
   have c:eY (3,x,y)=true:=c
   grind [eY]
  rw[show oD N L (eO (dJ L)) [] (3,x,y)=((wB N (eO (dJ L)) 3 ⟨#[]⟩ x).bind λy=>some y) from rfl,dec 3 ⟨#[]⟩ x λz l d a e=>u z l d a (by
   grind [yB,vD])];rfl
 .have B:y=e0:=by
   have c:eY (4,x,y)=true:=c
   grind [eY]
  rw[show oD N L (eO (dJ L)) [] (4,x,y)=((rI N L x).bind λM=>if M.2 then((bW (⟨#[61]⟩:BA) M.1).bind λS=>some S) else(some (⟨#[45]⟩:BA))) from rfl,GJ x (show 100<N by omega)]
  unfold qO
  rw[jB F]
  cases G:mH L x with
  |none=>rfl
  |some b=>exact absurd (kQ _ (gF.2 ⟨(x,b),TU G,by rw[B]⟩)) K
 .rw[Ly h D rfl]
  exact kA some (E (.inl rfl))
 obtain⟨t,t1,-,B⟩:=Pz (env:=([]:iG)) h D (k:=(7,x,y)) rfl (by grind)
 obtain⟨-,G,-⟩:=GW h
 rw[qDq (λz l=>⟨H (.inr rfl) z l,(NV F l).2.1⟩) aa aa] at t1
 obtain rfl:=jX t1
 rw[B]
 show some (eqB1++dP (catP [(x,tC L x)]))=_
 rw[E (.inr rfl)];rfl
theorem AF:∀(l S:List Ky),(l.foldl eL S).length<=S.length+l.length
 |[],S=>jH _
 |k::l,S=>by
  have a:=AF l (eL S k)
  grind [uV]
theorem qGt{x:Sr}(o:x.2.1.length<=8)(p:x.2.2.length<=64){S:List Ky}(u:S.length<=1000000)(s:3000000<N):
  ((dS 16 [x.1] x.2.1).bind λh=>(aA (BU N h) N (S,0)).bind λk=>aA (EM N x) N (k,0))=some ((uA x).foldl eL S):=by
 have a:=mM (L:=x.1::x.2.1) (λ(S:List Ky) (i:Nat)=>(S,(i:Int))) (f:=BU N (x.1::x.2.1))
  (λS q=> .inl (eL (eL S (6,q,e0)) (7,q,e0))) (λS=>S) (λi T=>T.length<=S.length+2*i) (by
   grind [BU,uV,e0,cD,GM,bA]) (by
   grind [uV]) (by
   grind [BU]) (M:=N) (t:=S) (by simp only[jS];omega) aa
 rw[pG (λS q=>eL (eL S (6,q,e0)) (7,q,e0)) (λ_ _=>rfl)] at a
 have b:∀(l:List BA) (S:List Ky),l.foldl (λS q=>eL (eL S (6,q,e0)) (7,q,e0)) S=(l.flatMap λq=>[((6,q,e0):Ky),(7,q,e0)]).foldl eL S:=λl=>by
  induction l with
  |nil=>intro _;rfl
  |cons q l g=>grind
 rw[b] at a
 have c:=AF ((x.1::x.2.1).flatMap λq=>[((6,q,e0):Ky),(7,q,e0)]) S
 have n:((x.1::x.2.1).flatMap λq=>[((6,q,e0):Ky),(7,q,e0)]).length<=1000:=by
  have a:∀l:List BA,(l.flatMap λq=>[((6,q,e0):Ky),(7,q,e0)]).length=2*l.length:=λl=>by
   induction l with
   |nil=>rfl
   |cons q l g=>grind
  grind
 unfold uA
 rw[List.foldl_append]
 generalize ((x.1::x.2.1).flatMap λq=>[((6,q,e0):Ky),(7,q,e0)]).foldl eL S=S2 at a c
 have g:=mM (L:=x.2.2) (λ(S:List Ky) (i:Nat)=>(S,(i:Int))) (f:=EM N x)
  (λS d=> .inl (eL S (vD x.1 d))) (λS=>S) (λi T=>T.length<=S2.length+i) (by
   intro T i hi r
   simp only[EM]
   have e:∀d:Dl,(if(d.1==2)then(some (2,x.1,d.2.1)) else(if(d.1==3)then(some (3,d.2.1,(⟨#[]⟩:BA))) else(some (1,x.1,d.2.1))):Option Ky)=some (vD x.1 d):=λd=>by
    unfold vD
    by_cases g2:d.1=2
    .grind
    rw[jA (by simpa using g2),jA g2]
    by_cases g3:d.1=3
    .rw[jB (by simpa using g3),jB g3];rfl
    grind
   grind [cD,GM,bA]) (by
   grind [uV]) (by
   grind [EM]) (M:=N) (t:=S2) aa aa
 rw[pG (λS d=>eL S (vD x.1 d)) (λ_ _=>rfl)] at g
 grind [eT,List.foldl_map]
theorem Gx(h:SmF L)(g:fP L=0)(o:3000000<N):BW N L (eO (dJ L))=some ((nP L).foldl eL []):=by
 obtain⟨-,v,-⟩:=GW h
 have p:=h.len
 have k:=mM (L:=L) (λ(S:List Ky) (i:Nat)=>(S,(i:Int))) (f:=JP N L)
  (λS f=> .inl (eL S (4,f.1,e0))) (λS=>S) (λi T=>T.length<=i) (by
   intro T i hi n
   simp only[JP]
   rw[jB (by simpa using hi),cD hi,j0,show tL N T (4,(L[i]).1,⟨#[]⟩)=_ from GM _ aa aa,j0,bA aa aa]
   rfl) (by
   grind [uV]) (by
   grind [JP]) (M:=N) (t:=[]) aa ad
 rw[pG (λS (f:bY)=>eL S (4,f.1,e0)) (λ_ _=>rfl)] at k
 have d:=AF (L.map λf=>((4,f.1,e0):Ky)) []
 rw[List.foldl_map,gS,kH] at d
 unfold nP
 rw[List.foldl_append,List.foldl_map]
 generalize L.foldl (λS f=>eL S (4,f.1,e0)) []=S at k d
 have a:∀x∈dJ L,x.2.2.1.length<=8/\x.2.2.2.length<=64:=λx a=>⟨(NV g a).2.1,(NV g a).2.2.1⟩
 have kl:∀x∈dJ L,(uA x.2).length<=90:=λx h=>by
  obtain⟨b,c⟩:=a x h
  have s:∀l:List BA,(l.flatMap λq=>[((6,q,e0):Ky),(7,q,e0)]).length=2*l.length:=λl=>by
   induction l with
   |nil=>rfl
   |cons q l r=>grind
  grind [uA]
 have s:=mM (L:=dJ L) (λ(S:List Ky) (i:Nat)=>(S,(i:Int))) (f:=JO N ((dJ L).map (·.1),(dJ L).map (·.2)))
  (λS x=> .inl ((uA x.2).foldl eL S)) (λS=>S) (λi T=>T.length<=S.length+90*i) (by
   intro T i hi n
   obtain⟨b,c⟩:=a _ (jI hi)
   simp only[JO]
   rw[jB (by simpa using hi),cD (by simpa using hi),j0,List.getElem_map]
   have:=qGt (N:=N) (S:=T) b c aa o
   cases ha:dS 16 [((dJ L)[i]).2.1] ((dJ L)[i]).2.2.1 with
   |none=>grind
   |some u=>
    rw[ha,j0] at this
    rw[j0]
    cases hb:aA (BU N u) N (T,0) with
    |none=>grind
    |some y=>
     grind [bA]) (by
   grind [AF]) (by
   grind [JO]) (M:=N) (t:=S) aa aa
 rw[pG (λS (x:Ld)=>(uA x.2).foldl eL S) (λ_ _=>rfl)] at s
 have e:∀(l:List Ld) (S:List Ky),l.foldl (λS x=>(uA x.2).foldl eL S) S=(l.flatMap λx=>uA x.2).foldl eL S:=λl=>by
  induction l with
  |nil=>intro _;rfl
  |cons x l r=>grind
 grind [BW,eO]
def DZ(N:Nat)(L L':List bY)(k:Ky):Bool:=decide (lF N L [] k≠lF N L' [] k)
def DJ(N:Nat)(L L':List bY):List Ky:=(nI ((nP L).foldl eL []++(nP L').foldl eL [])).filter (DZ N L L')
theorem Nu{k:Ky}:k∈DJ N L L'↔(k∈nP L\/k∈nP L')/\lF N L [] k≠lF N L' [] k:=by
 grind [DJ,xZ,NA,DZ]
theorem qAh(h:SmF L)(c:fP L=0)(h':SmF L')(hc':fP L'=0)(a:3000000<N):RB N L L'=some (DJ N L L',0):=by
 have e0':wY ([]:iG):=⟨jQ _,λv n=>by cases n⟩
 have o:=AF (nP L) []
 have p:=AF (nP L') []
 have r:=UC h c
 have s:=UC h' hc'
 simp only[kH,gN] at o p
 have d:=MX ((nP L).foldl eL []++(nP L').foldl eL [])
 rw[jP] at d
 have g:∀k∈nI ((nP L).foldl eL []++(nP L').foldl eL []),Kc k:=λk g=>by
  grind [xZ,Sb,NA]
 have key:=mM (L:=nI ((nP L).foldl eL []++(nP L').foldl eL [])) (λ(S:List Ky) (i:Nat)=>(S,(i:Int))) (f:=JQ N L L' ((eO (dJ L')).1,(eO (dJ L')).2,eO (dJ L)) (nI ((nP L).foldl eL []++(nP L').foldl eL [])))
  (λS k=> .inl (if DZ N L L' k then S++[k] else S)) (λS=>S) (λi T=>T.length<=i) (by
   intro T i hi q
   have b:=g _ (jI hi)
   simp only[JQ]
   rw[jB (by simpa using hi),cD hi,j0,Bf h e0' a b,j0,show oD N L' ((eO (dJ L')).1,(eO (dJ L')).2) [] _=_ from Bf h' e0' a b,j0,sO,bA aa aa]
   grind [DZ,eT]) (by
   grind) (by
   grind [JQ]) (M:=N) (t:=[]) aa ad
 rw[pG (λS k=>if DZ N L L' k then S++[k] else S) (λ_ _=>rfl)] at key
 have e:∀(l S:List Ky),l.foldl (λS k=>if DZ N L L' k then S++[k] else S) S=S++l.filter (DZ N L L'):=λl=>by
  induction l with
  |nil=>intro _;simp
  |cons k l b=>
   grind
 rw[e,kT] at key
 unfold RB
 rw[wE aa,c,j0,jA ac,wE aa,hc',j0,j0,jA ac,GF aa,j0,GF aa,j0,j0]
 dsimp only
 rw[show BW N L ((dJ L).map (·.1),(dJ L).map (·.2))=_ from Gx h c a,j0,show BW N L' ((dJ L').map (·.1),(dJ L').map (·.2))=_ from Gx h' hc' a,j0,eT aa ac,j0,ZF (by grind) (by grind),j0]
 exact kA (λz=>Option.bind z _) key
def envV:List Int:=[0,1,(-1),5,9007199254740992,(-9007199254740992)]
def IB(L:List iG)(nm:BA):List iG:=L.flatMap λe=>e::envV.map λv=>e++[(nm,v)]
def BD:Nat->List iG
 |0=>[[]]
 |1=>IB [[]] ⟨#[109]⟩
 |_=>IB (IB [[]] ⟨#[109]⟩) ⟨#[110]⟩
theorem qIb(M:Nat):((BD 2).all λe=>decide (rV (M+300) e=some true)&&decide (e.length<=10)&&e.all λv=>lC v.1&&decide (v.2∈envV))=true:=by kernel_rfl
theorem Og(M:Nat):(envV.all λv=>match tK (M+300) v with
 |some s=>decide (s.size<=20)&&envV.all λu=>decide (tK (M+300) u=some s->u=v)
 |none=>false)=true:=by kernel_rfl
theorem qDk{L:List iG}{nm:BA}{e:iG}(h:e∈L):e∈IB L nm:=kL.2 ⟨e,h,jD ..⟩
theorem qCn{L:List iG}{nm:BA}{e:iG}(h:e∈L){v:Int}(a:v∈envV):e++[(nm,v)]∈IB L nm:=kL.2 ⟨e,h,jC _ (gF.2 ⟨v,a,rfl⟩)⟩
theorem Jf{i:Nat}(hi:i<2):BD (i+1)=IB (BD i) ([(⟨#[109]⟩:BA),(⟨#[110]⟩:BA)][i]):=by
 rcases(by omega:i=0\/i=1) with rfl|rfl<;>rfl
theorem Fj{N:Nat}{l:List Int}{a:Int}(q:100<N)(n:0<=a)(p:a<1000000000000000000):Ok (JU N (l,a)) λy=>∃a' e,y=((l,a'),e)/\a<=a'/\a'<=a+4/\e∈BD 2:=by
 unfold JU
 have d:∀e∈BD 2,True:=λ_ _=>trivial
 refine Ok.loop (λs=>∃(i:Nat) (e:iG) (b:Int),s=((i:Int),e,l,b)/\i<=2/\e.length<=i/\a<=b/\b<=a+2*i/\e∈BD i) (λs=>2-s.1.toNat)
  (λo=>∃(e:iG) (b:Int),o=(e,l,b)/\a<=b/\b<=a+4/\e∈BD 2) (λs f=> ?_) ⟨0,[],a,rfl,by omega,by simp,by omega,by omega,kY.2 rfl⟩ ai ?_
 .obtain⟨i,e,b,rfl,hi,u,t,k,g⟩:=f
  unfold VW
  refine Ok.ite (λc=> ?_) λc=>Ok.mk ?_
  .have c:i<2:=by grind
   have ew:wI ((i:Int)+1)=((i+1:Nat):Int):=by grind [bA]
   dsimp only
   rw[cD (show i<[(⟨#[109]⟩:BA),(⟨#[110]⟩:BA)].length from c)]
   simp only[j0,ew]
   refine Ok.assoc (Ok.chance aa aa ac ac λr=> ?_)
   cases r with
   |true=>
    refine Ok.ttb (Ok.assoc (Ok.pick aa aa ac ac λz h=> ?_))
    refine Ok.assoc (Ok.app (by grind) ac ?_)
    refine Ok.someb (Ok.mk ⟨⟨i+1,_,b+1+1,rfl,by omega,by grind,by omega,by omega,?_⟩,by simp only;omega⟩)
    rw[Jf c]
    exact qCn g h
   |false=>
    grind [Ok.mk,Jf,qDk]
  grind
 grind [Ok.mk]
structure EnvM(N:Nat)(e:iG):Prop where
 ok:wY e
 ck:rV N e=some true
 vs:∀v∈e,lC v.1=true/\v.2∈envV
theorem Oo:∀v∈envV,eW v:=by unfold eW;decide
theorem Rx{N:Nat}{e:iG}(b:300<=N)(h:e∈BD 2):EnvM N e:=by
 obtain⟨M,rfl⟩:∃M,N=M+300:=⟨N-300,by omega⟩
 have:=jL.1 (qIb M) e h
 simp only[jU,jR,jL] at this
 exact⟨⟨this.1.2,λv a=>Oo _ (this.2 v a).2⟩,this.1.1,this.2⟩
theorem Ah{nm:BA}{v:Int}(h:mW env nm=some v):(nm,v)∈env:=by
 obtain⟨z,a,rfl⟩:=jK.1 h
 grind [sO]
theorem qIs(h:EnvM N env)(h':EnvM N env')(p:300<=N){nm e:BA}:lF N L env (5,nm,e)=lF N L' env' (5,nm,e)↔mW env nm=mW env' nm:=by
 obtain⟨M,rfl⟩:∃M,N=M+300:=⟨N-300,by omega⟩
 have key:∀(L:List bY) {env:iG},EnvM (M+300) env->(mW env nm=none/\lF (M+300) L env (5,nm,e)=⟨#[45]⟩)\/∃(v:Int) (s:BA),mW env nm=some v/\v∈envV/\tK (M+300) v=some s/\lF (M+300) L env (5,nm,e)=eqB1++s:=λL env h=>by
  have c:oD (M+300) L (eO (dJ L)) env (5,nm,e)=(uO (M+300) env nm).bind λy5=>if y5.2 then((tK (M+300) y5.1).bind λf=>(bW (⟨#[61]⟩:BA) f).bind λd=>some d) else(some (⟨#[45]⟩:BA)):=rfl
  have k:=h.ok.1
  unfold lF
  rw[c,US aa aa]
  cases hv:mW env nm with
  |none=>grind
  |some v=>
   have b:=(h.vs _ (Ah hv)).2
   have a:=jL.1 (Og M) v b
   cases hs:tK (M+300) v with
   |none=>grind
   |some s=>
    rw[hs] at a
    simp only[jU,jR] at a
    refine .inr ⟨v,s,rfl,b,hs,?_⟩
    rw[j0,jB rfl,hs,j0]
    unfold bW
    rw[jB (by have:(⟨#[61]⟩:BA).size=1:=rfl;grind [Go.maxLen])];rfl
 have ne:∀s:BA,(⟨#[45]⟩:BA)≠eqB1++s:=λs g=>by
  have:=kA (λz=>z.data.toList) g
  simp[eqB1] at this
 rcases key L h with ⟨c,d⟩|⟨v,s,c,d,o,l⟩<;>rcases key L' h' with ⟨b,f⟩|⟨u,r,b,f,n,k⟩
 .grind
 .grind
 .grind
 rw[c,l,b,k]
 refine⟨λg=> ?_,λg=> ?_⟩
 .have g:s=r:=by
   simp_all
  have a:=jL.1 (Og M) v d
  grind
 grind
def DL(ea eb:iG):List Ky:=(ea++eb).foldl (λS v=>if mW ea v.1≠mW eb v.1 then eL S (5,v.1,e0) else S) []
theorem Np{ea eb:iG}{k:Ky}:k∈DL ea eb↔∃v∈ea++eb,mW ea v.1≠mW eb v.1/\k=(5,v.1,e0):=by
 have:∀(l:iG) (S:List Ky),k∈l.foldl (λS v=>if mW ea v.1≠mW eb v.1 then eL S (5,v.1,e0) else S) S↔k∈S\/∃v∈l,mW ea v.1≠mW eb v.1/\k=(5,v.1,e0):=λl=>by
  induction l with
  |nil=>intro S;simp
  |cons v l a=>
   grind [TP]
 grind [DL]
theorem Xl(h:EnvM N env)(h':EnvM N env')(b:3000000<N):QE N env env'=some (DL env env',0)/\(DL env env').length<=20:=by
 have c:=h.ok.1
 have d:=h'.ok.1
 have key:=mM (L:=env++env') (λ(S:List Ky) (i:Nat)=>(S,(i:Int))) (f:=JH N env env' (env++env'))
  (λS v=> .inl (if mW env v.1≠mW env' v.1 then eL S (5,v.1,e0) else S)) (λS=>S) (λi T=>T.length<=i) (by
   intro T i hi a
   have hi':i<20:=by grind
   simp only[JH]
   rw[jB (by grind),cD hi,j0,US aa aa,j0,US aa aa,j0,bA aa aa]
   grind [e0,GM]) (by
   grind [uV]) (by
   grind [JH]) (M:=N) (t:=[]) (by grind) ad
 rw[pG (λS (v:BA×Int)=>if mW env v.1≠mW env' v.1 then eL S (5,v.1,e0) else S) (λ_ _=>rfl)] at key
 refine⟨?_,?_⟩
 .unfold QE
  rw[h.ck,j0,jA ac,h'.ck,j0,j0,jA ac]
  have ea:yX 24 env=some env:=by
   grind [yX,Go.maxLen]
  rw[ea,j0,eT aa ac,j0]
  exact kA (λz=>Option.bind z _) key
 have:∀(l:iG) (S:List Ky),(l.foldl (λS v=>if mW env v.1≠mW env' v.1 then eL S (5,v.1,e0) else S) S).length<=S.length+l.length:=λl=>by
  induction l with
  |nil=>grind
  |cons v l a=>
   grind [uV]
 grind [DL]
def DO(N:Nat)(L L':List bY)(env env':iG):List Ky:=nI (DJ N L L'++DL env env')
theorem qJo(h:SmF L)(c:fP L=0)(h':SmF L')(hc':fP L'=0)(d:EnvM N env)(he':EnvM N env')(b:3000000<N):SH N L env L' env'=some (DO N L L' env env',0)/\(DO N L L' env env').length<=20000:=by
 obtain⟨g,k⟩:=Xl d he' b
 have l:=AF (nP L) []
 have n:=AF (nP L') []
 have o:=UC h c
 have p:=UC h' hc'
 have f:=MX ((nP L).foldl eL []++(nP L').foldl eL [])
 have e:(DJ N L L').length<=10000:=by
  grind [DJ]
 have a:=MX (DJ N L L'++DL env env')
 rw[jP] at a
 unfold SH
 grind [qAh,eT,ZF,DO]
theorem qLn(h:SmF L)(d:fP L=0)(h':SmF L')(hc':fP L'=0)(b:EnvM N env)(he':EnvM N env'):∀k∈DO N L L' env env',Kc k:=λk c=>by
 rcases kJ.1 (xZ.1 c) with g|g
 .grind [Nu,Sb]
 obtain⟨v,a,-,rfl⟩:=Np.1 g
 have e:lC v.1=true:=by
  rcases kJ.1 a with a|a
  .exact(b.vs v a).1
  exact(he'.vs v a).1
 show eY (5,v.1,e0)=true
 grind [eY]
theorem Nz(h:SmF L)(o:fP L=0)(h':SmF L')(hc':fP L'=0)(f:EnvM N env)(he':EnvM N env')(n:3000000<N){k:Ky}(c:Kc k):k∈DO N L L' env env'↔lF N L env k≠lF N L' env' k:=by
 unfold DO
 rw[xZ,kJ,Nu,Np]
 by_cases h5:k.1=5
 .have b:k.2.2=e0:=by
   have c:eY k=true:=c
   grind [eY]
  obtain⟨q,nm,y⟩:=k
  dsimp only at h5 b
  subst h5 b
  rw[ne_eq,ne_eq,qIs f he' aa]
  have l:∀L:List bY,(5,nm,e0)∉nP L:=λL a=>by
   rcases kJ.1 a with a|a
   .grind
   obtain⟨x,-,a⟩:=kL.1 a
   rcases kJ.1 a with a|a
   .grind
   grind [vD]
  constructor
  .grind
  intro g
  cases d:mW env nm with
  |some u=>exact .inr ⟨(nm,u),kQ _ (Ah d),g,rfl⟩
  |none=>
   cases e:mW env' nm with
   |some u=>exact .inr ⟨(nm,u),kW _ (Ah e),g,rfl⟩
   |none=>grind
 grind [qIp,qKi]
theorem qAg{k:Ky}{K:List Ky}(h:∀q∈K,cK k q<0):k∉K:=λg=>Qo k (h k g)
theorem FT{n z:Int}{k:Ky}:∀(d:Nat) (L:List lX) (K:List Ky),L.length+K.length<=d->DS L->rO cK K->(z∈iY (lJ d L K n) k↔z∈iY L k\/k∈K/\z=n)
 |0,L,K,a,_,_=>by
  grind [List.length_eq_zero_iff,lJ]
 |d+1,[],[],_,_,_=>by simp[lJ,iY]
 |d+1,[],l::K,a,c,b=>by
  have a:0+(K.length+1)<=d+1:=a
  have f:=FT (n:=n) (z:=z) (k:=k) d [] K (by grind) c (jF.1 b).2
  grind [lJ,iY]
 |d+1,p::L,[],a,c,b=>by
  have a:(L.length+1)+0<=d+1:=a
  have f:=FT (n:=n) (z:=z) (k:=k) d L [] (by grind) (jF.1 c).2 b
  grind [lJ,iY]
 |d+1,p::L,l::K,a,c,b=>by
  have a:(L.length+1)+(K.length+1)<=d+1:=a
  obtain⟨t,o⟩:=jF.1 c
  obtain⟨s,r⟩:=jF.1 b
  unfold lJ
  split
  .rename_i g
   have f:=FT (n:=n) (z:=z) (k:=k) d L (l::K) (by grind) o b
   simp only[iY]
   by_cases e:p.1=k
   .have:k∉l::K:=qAg λq h=>by
     rw[<-e]
     rcases jG.1 h with rfl|h
     .exact g
     exact cK_lin.trans _ _ _ g (s q h)
    grind
   grind
  split
  .rename_i g
   have f:=FT (n:=n) (z:=z) (k:=k) d L K aa o r
   grind [iY]
  rename_i g1 g2
  have f:=FT (n:=n) (z:=z) (k:=k) d (p::L) K (by grind) c r
  grind [iY,XW]
theorem Ji{k:Ky}{z:Int}:∀(l:List mA) (i:Nat) (x:mI),yY i x->yO x->i+l.length<=512->(∀c∈l,SmallR c)->l.all sG=true->
  (z∈iY (l.foldl qG x).1 k↔z∈iY x.1 k\/∃j,∃h:j<l.length,z=((i+j:Nat):Int)/\k∈mO l[j])
 |[],i,x,_,_,_,_,_=>by simp
 |c::l,i,x,f,n,q,o,g=>by
  simp only[fF,jU] at g
  simp only[jS] at q
  have p:x.2<512:=by have:=f.1;omega
  have t:=Ji (k:=k) (z:=z) l (i+1) (qG x c) (YO f (o c (jD ..))) (Ie n p (Hg g.1)) aa (λd r=>o d (jC _ r)) g.2
  rw[kI,t]
  have s:z∈iY (qG x c).1 k↔z∈iY x.1 k\/k∈nI (mO c)/\z=x.2:=FT _ _ _ (jH _) n.2.2 (MJ _)
  rw[s,xZ,f.1]
  constructor
  .rintro((e|⟨a,b⟩)|⟨j,h,a,b⟩)
   .exact .inl e
   .grind
   exact .inr ⟨j+1,by simpa using h,by rw[a];congr 1;omega,b⟩
  rintro(e|⟨j,h,a,b⟩)
  .grind
  cases j with
  |zero=>grind
  |succ j=>grind
theorem Mr{i:Nat}:∀(R:List Int) (l:List Bool),i<l.length->(∀r∈R,0<=r)->((wS R l)[i]? =some true↔(i:Int)∈R\/l[i]? =some true)
 |[],l,_,_=>by simp[wS]
 |r::R,l,hi,h=>by
  have b:=Mr (i:=i) R (l.set r.toNat true) (by simpa using hi) λq a=>h q (jC _ a)
  grind [List.mem_cons_self,wS]
theorem Kj{L:List lX}{i:Nat}:∀(ks:List Ky) (l:List Bool),i<l.length->(∀k∈ks,∀r∈iY L k,0<=r)->((tW L ks l)[i]? =some true↔(∃k∈ks,(i:Int)∈iY L k)\/l[i]? =some true)
 |[],l,_,_=>by simp[tW]
 |k::ks,l,hi,h=>by
  have b:=Kj (L:=L) (i:=i) ks (wS (iY L k) l) (by grind [TI]) λq a=>h q (jC _ a)
  grind [tW,Mr]
theorem Md{b:Bool}{z:Int}:∀(l:List Bool) (i:Nat),z∈rS b i l↔∃j,z=((i+j:Nat):Int)/\l[j]? =some b
 |[],i=>by simp[rS]
 |a::l,i=>by
  have d:=Md (b:=b) (z:=z) l (i+1)
  have c:(∃j,z=((i+1+j:Nat):Int)/\l[j]? =some b)↔∃j,z=((i+(j+1):Nat):Int)/\(a::l)[j+1]? =some b:=by grind
  unfold rS
  by_cases e:a=b
  .rw[jB e,jG,d,c]
   constructor
   .grind
   rintro⟨j,g⟩
   cases j with
   |zero=>exact .inl g.1
   |succ j=>grind
  rw[jA e,d,c]
  constructor
  .grind
  rintro⟨j,g⟩
  cases j with
  |zero=>grind
  |succ j=>exact⟨j,g⟩
theorem qBj{N:Nat}(n:3000000<N){l:List mA}(o:l.length<=512)(f:∀c∈l,SmallR c)(g:l.all sG=true){ks:List Ky}(v:ks.length<=1000000)(y:∀k∈ks,k.2.1.size<=1048576)(t:ks.all eY=true):
  ∃(x:mI) (S:Bool->List Int),FU N l=some (x,0)/\FO N x ks=some (S false,0)/\FQ N x ks=some (S true,0)/\(S true).length+(S false).length=l.length/\
   ∀b,∀z∈S b,∃j,∃e:j<l.length,z=(j:Int)/\((∃k∈ks,k∈mO l[j])↔b=true):=by
 obtain⟨a,h⟩:=Od l 0 tV YV Iu aa f g
 have p:=qDd aa a
 have fd:∀k z,z∈iY (l.foldl qG tV).1 k↔∃j,∃e:j<l.length,z=(j:Int)/\k∈mO l[j]:=λk z=>by
  grind [Ji,tV,YV,Iu,iY]
 have d:=qFt n o f
 rw[jB g] at d
 generalize l.foldl qG tV=x at a h p fd d
 have s:x.2.toNat=l.length:=by have:=a.1;omega
 have u:∀b,HB x ks b=(rS b 0 (tW x.1 ks (List.replicate x.2.toNat false)),0):=λb=>by
  grind [HB,SZ]
 refine⟨x,λb=>rS b 0 (tW x.1 ks (List.replicate x.2.toNat false)),d,?_,?_,?_,λb z hz'=> ?_⟩
 .grind [Yd]
 .grind [Zq]
 .grind [Lp,SY]
 obtain⟨j,q,r⟩:=(Md _ _).1 hz'
 have e:j<l.length:=by
  grind [SY]
 refine⟨j,e,by grind,?_⟩
 grind [Kj]
end
section
open Go Go.Dc
theorem Wt.fr{x:BA}{n:Nat}(h:Wt x 0 1 n):Fr x.data.toList:=by
 obtain⟨r,b,a⟩:=h.2 [] rfl
 exact⟨r,a,by grind [cl]⟩
theorem qJb(M:Nat):((List.range 100).all λn=>match sQ (M+40) (n:Int) with|some s=>decide (s.size<=16)|none=>false)=true:=by kernel_rfl
theorem Ok.digits100{β:Type}{Q:β->Prop}{N:Nat}{x:Int}{f:BA->Option β}(a:0<=x)(b:x<100)(c:100<N)(h:∀s:BA,s.size<=16->Ok (f s) Q):Ok ((sQ N x).bind f) Q:=by
 obtain⟨M,rfl⟩:∃M,N=M+40:=⟨N-40,by omega⟩
 obtain⟨n,rfl⟩:∃n:Nat,x=(n:Int):=⟨x.toNat,by omega⟩
 have:=jL.1 (qJb M) n (gZ.2 aa)
 grind
def MadeI(b:Bool)(K:Nat)(L:List bY):Prop:=Asc L/\∀f∈L,eU f.1.data.toList=true/\f.2.size<=K/\(b=true->uU f.1=true->Fr f.2.data.toList)
variable {b:Bool} {K K':Nat} {L:List bY}
theorem MadeI.put(h:MadeI b K L){p x:BA}(d:eU p.data.toList=true)(e:x.size<=K)(c:b=true->uU p=true->Fr x.data.toList):MadeI b K (oR L p x):=
 ⟨h.1.put p x,λf a=>by
  rcases NE a with rfl|a
  .grind
  exact h.2 f a⟩
theorem MadeI.del(h:MadeI b K L)(p:BA):MadeI b K (yW L p):=⟨h.1.del p,λf a=>h.2 f (gL.1 a).1⟩
theorem MadeI.less(h:MadeI b K L)(c:K<=K'):MadeI false K' L:=⟨h.1,λf a=>⟨(h.2 f a).1,kM (h.2 f a).2.1 c,λh=>by cases h⟩⟩
theorem MadeI.wf(h:MadeI b K L)(c:K<=16384)(d:L.length<=64):WF L:=⟨d,h.1,λf a=>⟨(h.2 f a).1,kM (h.2 f a).2.1 c⟩⟩
theorem qHg:(datL.all λp=> !(uU p))=true:=by kernel_rfl
theorem qIo{p:BA}(h:p∈datL){P:Prop}:uU p=true->P:=λg=>by
 grind [qHg]
theorem qAx{N:Nat}{l:List Int}{a:Int}(k:3000<N)(z:0<=a)(A:a<10000000000000000):Ok (QY N (l,a)) λy=>∃a' L,y=((l,a'),L)/\a<=a'/\a'<=a+1000000/\MadeI true 4800 L/\L.length<=7:=by
 simp only[QY,LA]
 refine Ok.someb ?_
 show Ok ((aA (QK N srcL) N (0,[],l,a)).bind _) _
 refine Ok.loop (λst=>∃(n:Nat) (L:List bY) (a':Int),st=((n:Int),L,l,a')/\n<=4/\L.length<=n/\MadeI true 4800 L/\a<=a'/\a'<=a+100010*n) (λst=>4-st.1.toNat) (λb=>∃L a',b=(L,l,a')/\L.length<=4/\MadeI true 4800 L/\a<=a'/\a'<=a+500000) ?_ ⟨0,[],a,rfl,by omega,by simp,⟨List.Pairwise.nil,by simp⟩,by omega,by omega⟩ (by dsimp only;omega) ?_
 .rintro _ ⟨n,L,a',rfl,p,q,d,r,t⟩
  rw[qEy]
  have e:srcL.length=4:=rfl
  dsimp only
  by_cases hn:n<4
  .rw[jB (by grind),cD (l:=srcL) aa]
   refine Ok.assoc (Ok.someb ?_)
   refine Ok.assoc (Ok.chance aa aa aa aa λc=> ?_)
   dsimp only
   refine Ok.iteb (λ_=> ?_) λ_=> ?_
   .refine Ok.assoc (Ok.someb ?_)
    refine Ok.assoc (Ok.oneW aa aa ae λx g=> ?_)
    dsimp only
    refine Ok.assoc (Ok.bind (Nh k aa aa g) ?_)
    rintro _ ⟨h,s,rfl,v,v2,f⟩
    dsimp only
    rw[AG _ _ aa d.1 aa]
    refine Ok.assoc (Ok.someb (Ok.someb (Ok.mk ?_)))
    dsimp only
    have o:=SV L (srcL[n]) s
    refine⟨⟨n+1,_,_,by rw[bA aa aa];rfl,by omega,by omega,d.put (Mg (jI _)) f.1 (λ_ _=>f.fr),by omega,by omega⟩,?_⟩
    grind [bA]
   grind [Ok.mk,bA]
  grind [Ok.mk]
 rintro _ ⟨L1,g,rfl,B,u,D,E⟩
 dsimp only
 refine Ok.loop (λst=>∃(n:Nat) (L:List bY) (a':Int),st=((n:Int),L,l,a')/\n<=3/\L.length<=4+n/\MadeI true 4800 L/\a<=a'/\a'<=a+500000+20*n) (λst=>3-st.1.toNat) (λb=>∃L a',b=(L,l,a')/\L.length<=7/\MadeI true 4800 L/\a<=a'/\a'<=a+600000) ?_ ⟨0,L1,g,rfl,by omega,by omega,u,by omega,by omega⟩ (by dsimp only;omega) ?_
 .rintro _ ⟨n,L,a',rfl,p,q,d,r,t⟩
  rw[qEo]
  have e:datL.length=3:=rfl
  dsimp only
  by_cases hn:n<3
  .rw[jB (by grind),cD (l:=datL) aa]
   refine Ok.assoc (Ok.someb ?_)
   refine Ok.assoc (Ok.chance aa aa aa aa λc=> ?_)
   dsimp only
   refine Ok.iteb (λ_=> ?_) λ_=> ?_
   .refine Ok.assoc (Ok.bind (Pn aa aa aa) ?_)
    rintro _ ⟨h,s,rfl,v,v2,f⟩
    dsimp only
    rw[AG _ _ aa d.1 aa]
    refine Ok.assoc (Ok.someb (Ok.someb (Ok.mk ?_)))
    dsimp only
    have o:=SV L (datL[n]) s
    refine⟨⟨n+1,_,_,by rw[bA aa aa];rfl,by omega,by omega,d.put (Nc (jI _)) aa (λ_=>qIo (jI _)),by omega,by omega⟩,?_⟩
    grind [bA]
   grind [Ok.mk,bA]
  grind [Ok.mk]
 grind [Ok.mk]
variable {N:Nat} {l:List Int} {a:Int}
def AU(l:List Int)(a:Int)(K:Nat)(L:List bY)(z:(List Int×Int)×List bY):Prop:=∃a' L',z=((l,a'),L')/\a<=a'/\a'<=a+200000/\MadeI false (K+950) L'/\L'.length<=L.length+1
theorem UU{β:Type}{Q:β->Prop}{R:(List Int×Int)×List bY->Prop}{p:BA}{f:Int->Option (Int⊕(Unit⊕((List Int×Int)×List bY)))}{g:Unit⊕((List Int×Int)×List bY)->Option β}(B:bY->Option (Int⊕(Unit⊕((List Int×Int)×List bY))))
  (l:∀s,f s=if(decide (s<(List.length L:Int)))then((aO L s).bind λx=>if(x.1.toList==p.toList)then B x else(some (.inl (wI (s+1))))) else(some (.inr (.inl ())))) (c:L.length<=100) (a:200<N)
  (k:∀x∈L,Ok (B x) λr=>∃z,r= .inr (.inr z)/\R z) (d:Ok (g (.inl ())) Q) (h:∀z,R z->Ok (g (.inr z)) Q):Ok ((aA f N 0).bind g) Q:=by
 refine Ok.bind (qDb (L:=L) (p:=p) (Q:=R) c a (λj b e=> ?_) (λj b e=> ?_) ?_) ?_
 .grind [cD]
 .grind [cD,sO,bA]
 .grind
 grind
theorem OS{β:Type}{Q:β->Prop}{x y:BA}{f:BA->Option β}(a:x.size+y.size<=1000000000)(h:Ok (f (x++y)) Q):Ok ((bW x y).bind f) Q:=by
 grind [bW,Go.maxLen]
theorem qIq(Z:3000<N)(S:0<=a)(V:a<10000000000000000)(c:MadeI false K L)(Y:4800<=K)(U:K<=100000)(d:L.length<=100):Ok (SF N (l,a) L) (AU l a K L):=by
 obtain⟨M,rfl⟩:∃M,N=M+1:=⟨N-1,by omega⟩
 have f:MadeI false (K+950) L:=c.less aa
 have no:∀{P:Prop},false=true->P:=λh=>by cases h
 have o:∀(a':Int) {p x:BA},a<=a'->a'<=a+200000->eU p.data.toList=true->x.size<=K+950->AU l a K L ((l,a'),oR L p x):=λa' {p x} B D n e=>
  ⟨a',_,rfl,B,D,f.put n e no,SV L p x⟩
 have src:∀{a':Int} {p:BA},a<=a'->a'<=a+10->eU p.data.toList=true->∀{β:Type} {Q:β->Prop} {g:(List Int×Int)×List bY->Option β},(∀z,AU l a K L z->Ok (g z) Q)->
   Ok ((zQ (M+1)).bind λA=>(mY (M+1) (l,a') A).bind λb=>(zW (M+1) b.1 b.2).bind λu=>(rH (M+1) L (p,u.2)).bind λv=>g (u.1,v)) Q:=λ{a' p} B D n {β Q g} k=>by
  refine Ok.someb (Ok.oneW aa aa ae λq b=> ?_)
  refine Ok.bind (Nh aa (by grind) (by first|omega|(dsimp only;omega)) b) ?_
  rintro _ ⟨u,s,rfl,A,v2,E⟩
  dsimp only at A v2 ⊢
  rw[AG _ _ aa c.1 aa]
  exact k _ (o u aa aa n (by have:=E.1;omega))
 unfold SF LA
 refine Ok.someb (Ok.one S aa ac ac λp n=> ?_)
 have v:=Mg n
 refine Ok.next (by grind) (by first|omega|(dsimp only;omega)) ac ac λr r0 r1=> ?_
 dsimp only
 refine Ok.bind (P:=λq=>q= .inl ()\/∃z,q= .inr z/\AU l a K L z) ?_ ?_
 .refine Ok.ite (λ_=> ?_) λ_=>Ok.ite (λ_=> ?_) λ_=>Ok.ite (λ_=> ?_) λ_=>Ok.ite (λ_=> ?_) λ_=>Ok.ite (λ_=> ?_) λ_=>Ok.ite (λ_=> ?_) λ_=>Ok.mk (.inl rfl)
  .refine Ok.one aa aa ac ac λq b=> ?_
   dsimp only
   refine Ok.bind (Pn aa aa aa) ?_
   rintro _ ⟨u,s,rfl,A,v2,E⟩
   dsimp only
   rw[AG _ _ aa c.1 aa]
   exact Ok.mk (.inr ⟨_,rfl,o u aa aa (Nc b) aa⟩)
  .refine Ok.one aa aa ac ac λq b=> ?_
   dsimp only
   rw[Lb aa aa]
   exact Ok.mk (.inr ⟨_,rfl,_,_,rfl,by omega,by omega,f.del q,by grind [Pq]⟩)
  .exact src aa aa v λz b=>Ok.mk (.inr ⟨z,rfl,b⟩)
  .refine UU _ (λ_=>rfl) d aa (R:=AU l a K L) (λx e=> ?_) (Ok.mk (.inl rfl)) λz b=>Ok.mk (.inr ⟨z,rfl,b⟩)
   rw[Lb aa aa]
   refine Ok.someb (Ok.next aa aa ac ac λy E y1=> ?_)
   obtain⟨s,t,q,F,G,A,H⟩:=qLc E y1 (M:=M)
   simp only[F,G,A,j0]
   have hd:=Pq L p
   rw[AG _ _ aa (c.1.del p) aa]
   refine Ok.mk ⟨_,rfl,_,_,rfl,by omega,by omega,(f.del p).put H (by have:=(c.2 x e).2.1;omega) no,?_⟩
   grind [SV]
  .refine UU _ (λ_=>rfl) d aa (R:=AU l a K L) (λx e=> ?_) (Ok.mk (.inl rfl)) λz b=>Ok.mk (.inr ⟨z,rfl,b⟩)
   have A:=(c.2 x e).2.1
   refine Ok.next aa aa ac ac λy E y1=> ?_
   refine Ok.digits100 E y1 aa λs hs=> ?_
   have F:(⟨#[35,32]⟩:BA).size=2:=rfl
   have G:(⟨#[10,32,32]⟩:BA).size=3:=rfl
   have H:(((⟨#[35,32]⟩:BA)++s)++(⟨#[10,32,32]⟩:BA)).size=5+s.size:=by grind
   refine OS aa (OS (by rw[ByteArray.size_append];omega) (OS aa ?_))
   rw[AG _ _ aa c.1 aa]
   grind [Ok.mk]
  refine UU _ (λ_=>rfl) d aa (R:=AU l a K L) (λx e=> ?_) (Ok.mk (.inl rfl)) λz b=>Ok.mk (.inr ⟨z,rfl,b⟩)
  have A:=(c.2 x e).2.1
  have E:(⟨#[102,117,110,99]⟩:BA).size=4:=rfl
  refine OS aa ?_
  rw[AG _ _ aa c.1 aa]
  grind [Ok.mk]
 rintro q (rfl|⟨z,rfl,b⟩)
 .dsimp only
  refine UU _ (λ_=>rfl) d aa (R:=AU l a K L) (λx e=> ?_) (src aa aa v λz b=>Ok.mk b) λz b=>Ok.mk b
  have A:=(c.2 x e).2.1
  refine Ok.declW aa aa aa λu s B D E=> ?_
  have F:=E.1
  dsimp only
  refine OS aa ?_
  rw[AG _ _ aa c.1 aa]
  grind [Ok.mk]
 grind [Ok.mk]
end
section
open Go Go.Dc Go.Proofs
theorem qAe(M:Nat):WT (M+300)=some true:=by kernel_rfl
theorem qIj{N:Nat}{o:Eo Int}(h:Gv eW o.2):zP N (HT o)=some true:=by
 obtain⟨s,e|v⟩:=o
 .have h:3<=e/\e<=17:=h
  grind [zP,HT]
 have h: -9007199254740992<=v/\v<=9007199254740992:=h
 grind [HT,zP]
theorem qDr{L:List bY}{env:iG}{w:Int}{P T:BA}:(xP (wR L env w P T).1.1).length<1000000:=by
 have a:Qk (wR L env w P T).1:=Qk.enter (Qk.ev (HC L env w) 20001) _ _ _ _ (by show 1<=10*0+1;decide)
 have b:(wR L env w P T).1.2.1<=20000:=(Gr.enter (Gr.ev (lT L env w) 20001) 0 (oT L (dO L 2 P T)) [] ([(2,P,T)],0,false)).2.2.1 (jQ _)
 grind [Oi,Qk]
theorem MadeI.sm{b:Bool}{K:Nat}{L:List bY}(h:MadeI b K L)(c:K<=10000)(d:L.length<=20):SmF L:=⟨h.1,d,λf a=>⟨(h.2 f a).1,kM (h.2 f a).2.1 c⟩⟩
theorem Nk{N:Nat}{V:Ky->BA}{S:List BA}{c:mA}(h:RcOk N V S c):SmallR c/\sG c=true:=by
 have b:=Kg.few (λk a=>(h.ks k a).1) h.st
 refine⟨⟨by grind [mO],λk a=> ?_⟩,jL.2 λf b=>(h.ks _ (gE b)).1.1⟩
 have:=Kc.size (h.ks k a).1.1
 omega
theorem Yj{N:Nat}(hN:20000000<N)(l:List Int):Ok (QM N l) λz=>z=true:=by
 unfold QM
 refine Ok.bind (qAx aa ac ac) ?_
 rintro _ ⟨a1,L,rfl,p1,p2,s,hl⟩
 dsimp only
 refine Ok.bind (Fj aa aa aa) ?_
 rintro _ ⟨y,env,rfl,s1,s2,he⟩
 dsimp only
 have E:=Rx (N:=N) aa he
 have u:=s.sm ac aa
 have a:fP L=0:=wH.2 (s.wf ac aa)
 have W:Wc L:=⟨a,λf hf hs=>(s.2 f hf).2.2 rfl hs⟩
 have hV:∀v∈env,eW v.2:=λv Y=>Oo _ (E.vs v Y).2
 have H:Wrr N L env:=⟨hN,W,by have:=E.ok.1;omega,λv Y=>by grind [eW,VB]⟩
 obtain⟨T,t1,t2,t3⟩:=Yv (N:=N) a aa
 rw[t1,j0]
 refine Ok.loop (λst=>∃(R:List mA) (i:Nat) (S:List BA) (a':Int),st=(R,(i:Int),S,l,a')/\i<=T.length/\R.length=i/\StI (keyL.map (lF N L env)) S/\(∀c∈R,RcOk N (lF N L env) S c)/\0<=a'/\a'<=y+i) (λst=>T.length-st.2.1.toNat)
  (λo=>∃(R:List mA) (S:List BA) (a':Int),o= .inl (R,S,l,a')/\R.length<=512/\StI (keyL.map (lF N L env)) S/\(∀c∈R,RcOk N (lF N L env) S c)/\0<=a'/\a'<=y+512) ?_ ⟨[],0,[],y,rfl,by omega,rfl,⟨by simp,λx g=>(by cases g)⟩,λc a=>(by cases a),by omega,by omega⟩ (by dsimp only;omega) ?_
 .rintro _ ⟨R,i,S,a',rfl,k1,A,B,h,k5,k6⟩
  unfold VY
  dsimp only
  by_cases hi:i<T.length
  .rw[jB (by simpa using hi),cD hi]
   have p:=t3 _ (jI hi)
   generalize T[i]=x at p
   obtain⟨P,Z⟩:=x
   dsimp only at p
   obtain⟨⟨F,G⟩,V⟩:=qBa (w:=7) W hV p
   refine Ok.someb ?_
   rw[qHs H E.ck p]
   refine Ok.someb (Ok.assoc (Ok.next aa aa ac ac λr r0 r1=> ?_))
   dsimp only
   rw[bA aa aa]
   have D:lC P=true/\lC Z=true:=by
    have:=V.1
    grind [eY]
   obtain⟨Q,c,m1,m2,m3,m4⟩:=qGl (N:=N) (x:=(P,Z)) (n:=1+r) (r:=HT (wR L env 7 P Z)) (rnd:=(wR L env 7 P Z).1.2.2) (tr:=xP (wR L env 7 P Z).1.1) (z:=((wR L env 7 P Z).1.2.1:Int)) u a E.ok E.ck aa B D.1 D.2 aa (qIj G) (λk g=>F k ((NA.1 g).resolve_right ad)) qDr
   unfold VL
   dsimp only
   rw[m1]
   refine Ok.someb (Ok.someb ?_)
   refine Ok.app (by grind) ac (Ok.mk ⟨⟨R++[c],i+1,S++Q,a'+1,by grind [bA],by omega,by simp[A],m2,λd t=> ?_,by omega,by omega⟩,by grind [bA]⟩)
   rcases kJ.1 t with t|t
   .exact(h d t).more
   grind
  grind [Ok.mk]
 rintro _ ⟨R,S,t,rfl,A,B,h,k5,k6⟩
 dsimp only
 refine Ok.assoc (Ok.bind (qIq (K:=4800) aa aa aa (s.less (jH _)) ac ac aa) ?_)
 rintro _ ⟨D,L',rfl,q1,q2,hL',hl'⟩
 refine Ok.someb ?_
 dsimp only
 have hm':=hL'.sm ac aa
 have hc':fP L'=0:=wH.2 (hL'.wf ac aa)
 refine Ok.chance aa aa ac ac λch=> ?_
 refine Ok.bind (P:=λo=>EnvM N o.2.2) (Ok.ite (λ_=>Ok.bind (Fj aa aa aa) ?_) λ_=>Ok.mk E) ?_
 .grind [Ok.mk,Rx]
 rintro⟨l6,F,env'⟩ E'
 dsimp only at E' ⊢
 obtain⟨d1,d2⟩:=qJo u a hm' hc' E E' (show 3000000<N by omega)
 have dc:=qLn (N:=N) u a hm' hc' E E'
 rw[d1]
 refine Ok.someb ?_
 dsimp only
 obtain⟨x,Sel,x1,x2,x3,x4,x5⟩:=qBj (N:=N) (l:=R) (ks:=DO N L L' env env') aa A (λc a=>(Nk (h c a)).1) (jL.2 λc a=>(Nk (h c a)).2) aa (λk g=>by grind [Kc.size]) (jL.2 dc)
 rw[x1]
 refine Ok.someb ?_
 dsimp only
 rw[jA ac,x2]
 refine Ok.someb ?_
 rw[x3]
 refine Ok.someb ?_
 dsimp only
 rw[jA ac,jA ac,j0,bA aa aa,jA ah]
 have hU:(keyL.map (lF N L env)).length<=4000:=by grind [Ab]
 have key:∀(b:Bool) (j:Nat) (p:j<(Sel b).length),∃(c:mA) (z:Int),aO R (Sel b)[j]=some c/\FG N S L' env' c=some (z,0)/\(z= -1↔b=false):=λb j p=>by
  obtain⟨q,hq,e1,e2⟩:=x5 b _ (jI p)
  have V:=h _ (jI hq)
  obtain⟨z,z1,z2⟩:=qEs (U:=keyL.map (lF N L env)) hm' hc' E'.ok E'.ck aa B hU V
  refine⟨R[q],z,by grind [cD],z1,z2.trans ?_⟩
  constructor
  .grind [Nz]
  rintro rfl k g
  refine Classical.byContradiction λG=> ?_
  have:=e2.1 ⟨k,(Nz u a hm' hc' E E' aa (V.ks k g).1.1).2 λe=>G e.symm,g⟩
  cases this
 have sl:∀b,(Sel b).length<1000000:=λb=>by cases b<;>omega
 have G:=tO (f:=JK N (R,S,l,t) (L',l,D) (l6,F,env') (Sel false,0)) (λj=>(j:Int)) (Sel false).length (.inl ()) (λj p=>by
  grind [JK,cD,bA]) (by
  grind [JK]) (N:=N) (by grind)
 have V:=tO (f:=JL N (R,S,l,t) (L',l,D) (l6,F,env') (Sel true,0)) (λj=>(j:Int)) (Sel true).length (.inl ()) (λj p=>by
  grind [JL,cD,bA]) (by
  grind [JL]) (N:=N) (by grind)
 obtain⟨M,rfl⟩:∃M,N=M+300:=⟨N-300,by omega⟩
 refine⟨true,?_,rfl⟩
 grind [qAe]
theorem testgatelaw18_IndexSafe_true(l:List Int){G:Prop}(_gl:G):∃N,QM N l=some true:=by
 obtain⟨z,a,rfl⟩:=Yj (N:=20000001) ac l
 exact⟨_,a⟩
end
end Go.Proofs.YtgboehjfofcogaaGreatDoor
