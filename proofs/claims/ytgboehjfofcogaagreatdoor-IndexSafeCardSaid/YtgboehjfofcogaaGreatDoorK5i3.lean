/- No condition but those of each theorem. -/
import Derived.Lib.ItoaNum
import Derived.Test.YtgboehjfofcogaaGreatDoorK4i3
namespace Go.Proofs.YtgboehjfofcogaaGreatDoor
section
open Go Go.Dc
variable {N:Nat} {ts:List cO} {pr:List BA}
def OR(ts:List cO)(r:cU⊕(Nat×Dl))(o:RT×Dl):Prop:=
 match r with
 | .inl z=>uK ts z o.1
 | .inr a=>o=(gR ts a.2.2.2.1 (a.1,a.2.2.2.2),a.2)
def wO(N:Nat)(st:RT)(k:Int)(nm:BA):Option (RT×Dl):=
 ((if(k==1)then((iH N st (⟨#[40]⟩:BA)).bind λa=>aA (qW N) N (cN a [])) else(some (cN st [])):Option RL)).bind λa=>
 (iH N (a.1,a.2.1,a.2.2.1,a.2.2.2.1,a.2.2.2.2.2.2.2,a.2.2.2.2.2.1,a.2.2.2.2.2.2.1) (⟨#[61]⟩:BA)).bind λb=>
 (zO N b 1).bind λb=>(iH N b.1 (⟨#[59]⟩:BA)).bind λb=>some (b,(k,nm,a.2.2.2.2.2.2.2,b.2.2.2.2.2.1))
theorem ZK(h:1000005<N){z:cU}{i:Nat}{b:List Ex}(a:z.2≠0)(hi:i<ts.length)(k:Int)(nm:BA):∃o,wO N (bR ts z i pr b) k nm=some o/\uK ts z o.1:=by
 have tail:∀(i:Nat) (pr:List BA) (b:List Ex) (l:List BA),i<ts.length->∃o,((iH N ((cN (bR ts z i pr b) l).1,(cN (bR ts z i pr b) l).2.1,(cN (bR ts z i pr b) l).2.2.1,(cN (bR ts z i pr b) l).2.2.2.1,(cN (bR ts z i pr b) l).2.2.2.2.2.2.2,(cN (bR ts z i pr b) l).2.2.2.2.2.1,(cN (bR ts z i pr b) l).2.2.2.2.2.2.1) (⟨#[61]⟩:BA)).bind λf=>
   (zO N f 1).bind λg=>(iH N g.1 (⟨#[59]⟩:BA)).bind λd=>some (d,(k,nm,(cN (bR ts z i pr b) l).2.2.2.2.2.2.2,d.2.2.2.2.2.1)))=some o/\uK ts z o.1:=by
  intro i pr b l hi
  have e:((cN (bR ts z i pr b) l).1,(cN (bR ts z i pr b) l).2.1,(cN (bR ts z i pr b) l).2.2.1,(cN (bR ts z i pr b) l).2.2.2.1,(cN (bR ts z i pr b) l).2.2.2.2.2.2.2,(cN (bR ts z i pr b) l).2.2.2.2.2.1,(cN (bR ts z i pr b) l).2.2.2.2.2.2.1)=bR ts z i l b:=rfl
  obtain⟨v,d⟩:=YJ (N:=N) aa z i l b a hi
  simp only[e,sB a hi,j0,d]
  exact⟨_,rfl,a,i,l,b,hi,rfl⟩
 obtain⟨M,hM⟩:∃M,N=M+1:=⟨N-1,by omega⟩
 have d:aA (qW N) N (cN (bR ts z i pr b) [])=some (cN (bR ts z i pr b) []):=by
  grind [MQ]
 unfold wO
 rcases eX (k==1) with c|c
 .simp only[c,jJ,sB a hi,j0,d]
  exact tail i pr b [] hi
 simp only[c,j7,jE,j0]
 exact tail i pr b [] hi
theorem qCz(d:OkT ts)(h:ts.length<1000000)(x:1000005<N)(i:Nat)(hi:i<ts.length)(k:Int)(nm:BA):∃o,wO N (gR ts pr (i,[])) k nm=some o/\
  OR ts (bZ (if k=1 then zZ ts i else .inr (i,[])) λbq=>bZ (eN ts DV bq.1) λj=>bZ (iM ts bq.2 32 (j,[])) λc=>bZ (eN ts vC c.1.1) λm=> .inr (m,(k,nm,bq.2,c.1.2))) o:=by
 have badt:∀(z:cU) (st:RT) (l:List BA),uK ts z st->∃o,((iH N ((cN st l).1,(cN st l).2.1,(cN st l).2.2.1,(cN st l).2.2.2.1,(cN st l).2.2.2.2.2.2.2,(cN st l).2.2.2.2.2.1,(cN st l).2.2.2.2.2.2.1) (⟨#[61]⟩:BA)).bind λn=>
   (zO N n 1).bind λg=>(iH N g.1 (⟨#[59]⟩:BA)).bind λf=>some (f,(k,nm,(cN st l).2.2.2.2.2.2.2,f.2.2.2.2.2.1)))=some o/\uK ts z o.1:=by
  rintro z st l ⟨a,i,pr,b,hi,rfl⟩
  have e:((cN (bR ts z i pr b) l).1,(cN (bR ts z i pr b) l).2.1,(cN (bR ts z i pr b) l).2.2.1,(cN (bR ts z i pr b) l).2.2.2.1,(cN (bR ts z i pr b) l).2.2.2.2.2.2.2,(cN (bR ts z i pr b) l).2.2.2.2.2.1,(cN (bR ts z i pr b) l).2.2.2.2.2.2.1)=bR ts z i l b:=rfl
  obtain⟨v,p⟩:=YJ (N:=N) aa z i l b a hi
  simp only[e,sB a hi,j0,p]
  exact⟨_,rfl,a,i,l,b,hi,rfl⟩
 have goodt:∀(q:Nat×List BA),q.1<ts.length->q.2.length<=8->∃o,((iH N ((cN (gR ts pr (q.1,[])) q.2).1,(cN (gR ts pr (q.1,[])) q.2).2.1,(cN (gR ts pr (q.1,[])) q.2).2.2.1,(cN (gR ts pr (q.1,[])) q.2).2.2.2.1,(cN (gR ts pr (q.1,[])) q.2).2.2.2.2.2.2.2,(cN (gR ts pr (q.1,[])) q.2).2.2.2.2.2.1,(cN (gR ts pr (q.1,[])) q.2).2.2.2.2.2.2.1) (⟨#[61]⟩:BA)).bind λn=>
   (zO N n 1).bind λg=>(iH N g.1 (⟨#[59]⟩:BA)).bind λf=>some (f,(k,nm,(cN (gR ts pr (q.1,[])) q.2).2.2.2.2.2.2.2,f.2.2.2.2.2.1)))=some o/\
   OR ts (bZ (eN ts DV q.1) λj=>bZ (iM ts q.2 32 (j,[])) λc=>bZ (eN ts vC c.1.1) λm=> .inr (m,(k,nm,q.2,c.1.2))) o:=by
  intro q g A
  have e:((cN (gR ts pr (q.1,[])) q.2).1,(cN (gR ts pr (q.1,[])) q.2).2.1,(cN (gR ts pr (q.1,[])) q.2).2.2.1,(cN (gR ts pr (q.1,[])) q.2).2.2.2.1,(cN (gR ts pr (q.1,[])) q.2).2.2.2.2.2.2.2,(cN (gR ts pr (q.1,[])) q.2).2.2.2.2.2.1,(cN (gR ts pr (q.1,[])) q.2).2.2.2.2.2.2.1)=gR ts q.2 (q.1,[]):=rfl
  have u:(cN (gR ts pr (q.1,[])) q.2).2.2.2.2.2.2.2=q.2:=rfl
  rw[e]
  simp only[u,sS (q.1,[]) g h,j0,DV]
  cases hj:eN ts ⟨#[61]⟩ q.1 with
  |inl z=>
   have a:=rL hj
   obtain⟨v,p⟩:=YJ (N:=N) aa z q.1 q.2 [] a g
   simp only[p,j0,sB a g,bZ]
   exact⟨_,rfl,a,q.1,q.2,[],g,rfl⟩
  |inr j=>
   obtain⟨rfl,t,-⟩:=nZ d g hj
   obtain⟨o,r,f⟩:=qFh (N:=N) (pr:=q.2) d h aa aa (q.1+1,[]) t ad
   simp only[r,j0,bZ]
   cases hc:iM ts q.2 32 (q.1+1,[]) with
   |inl z=>
    rw[hc] at f
    obtain⟨a,i,pr',b,hi,p⟩:=f
    simp only[p,sB a hi,j0]
    exact⟨_,rfl,a,i,pr',b,hi,rfl⟩
   |inr c=>
    rw[hc] at f
    obtain⟨⟨B,p,s,D⟩,-⟩:=AH d 32 (q.1+1,[]) c.1 c.2 t ad hc
    have hr':o=(gR ts q.2 c.1,(c.2:Int)):=f
    simp only[hr',sS c.1 p h,j0,vC]
    cases y:eN ts ⟨#[59]⟩ c.1.1 with
    |inl z=>exact⟨_,rfl,rL y,c.1.1,q.2,c.1.2,p,rfl⟩
    |inr m=>exact⟨_,rfl,rfl⟩
 unfold wO
 by_cases c:k=1
 .have c':(k==1)=true:=by simpa using c
  simp only[c',jJ,sS (i,[]) hi h,j0,jB c,zZ,qX]
  cases h1:eN ts ⟨#[40]⟩ i with
  |inl z=>
   have a:=rL h1
   obtain⟨M,hM⟩:∃M,N=M+1:=⟨N-1,by omega⟩
   have t:aA (qW N) N (cN (bR ts z i pr []) [])=some (cN (bR ts z i pr []) []):=by
    grind [MQ]
   simp only[t,j0,bZ]
   exact badt z _ [] ⟨a,i,pr,[],hi,rfl⟩
  |inr j=>
   obtain⟨rfl,t,-⟩:=nZ d hi h1
   obtain⟨o,r,f⟩:=qGm (N:=N) (pr:=pr) (b:=[]) d h x (i+1) t
   simp only[r,j0,bZ]
   cases hP:(if dK ts 4 nF (i+1)then .inr (i+1+1,[]) else wN ts (ts.length+1) [] (i+1):cU⊕(Nat×List BA)) with
   |inl z=>
    rw[hP] at f
    obtain⟨st,l,a,rfl⟩:=f
    exact badt z st l a
   |inr q=>
    rw[hP] at f
    have hr':o=cN (gR ts pr (q.1,[])) q.2:=f
    have g:q.1<ts.length/\q.2.length<=8:=by
     split at hP
     .grind [oE]
     obtain⟨_,p,s⟩:=XR d _ _ _ q t ad hP
     exact⟨p,s⟩
    rw[hr']
    exact goodt q g.1 g.2
 have c':(k==1)=false:=by simpa using c
 simp only[c',j7,jE,j0,jA c]
 exact goodt (i,[]) hi ad
def NC(N:Nat)(f:Sr)(t:cO)(st:RT)(k:Int):Option (RT×Dl):=
 ((if((List.length f.2.2:Int)==64)then iW N st t.2.2.2 2 else some st):Option RT).bind λo2=>(iS N o2).bind λb=>
 ((if(k==3)then rE N b.1 true else oJ N b.1):Option (RT×BA)).bind λa=>
 ((if(a.1.2.2.2.1==0)then zU N f k a.2 else some false):Option Bool).bind λc=>
 ((if c then iW N a.1 b.2.2.2.2 10 else some a.1):Option RT).bind λb=>wO N b k a.2
theorem qAl(d:1000005<N){f:Sr}{t:cO}{z:cU}{i:Nat}{b:List Ex}(g:z.2≠0)(hi:i<ts.length)(k:Int):∃o,
  ((iS N (bR ts z i pr b)).bind λc=>((if(k==3)then rE N c.1 true else oJ N c.1):Option (RT×BA)).bind λa=>
   ((if(a.1.2.2.2.1==0)then zU N f k a.2 else some false):Option Bool).bind λh=>
   ((if h then iW N a.1 c.2.2.2.2 10 else some a.1):Option RT).bind λl=>wO N l k a.2)=some o/\uK ts z o.1:=by
 have hz':((bR ts z i pr b).2.2.2.1==0)=false:=by grind [bR]
 have e:((if(k==3)then rE N (bR ts z i pr b) true else oJ N (bR ts z i pr b)):Option (RT×BA))=some (bR ts z i pr b,⟨#[]⟩):=by
  grind [Am,UD]
 simp only[sF hi,j0,e,hz',j7,jE]
 exact ZK d g hi k _
theorem qAs(n:OkT ts)(q:ts.length<1000000)(h:1000005<N){f:Sr}(r:f.2.2.length<=64)(t:cO)(i:Nat)(hi:i<ts.length)(k:Int):∃o,NC N f t (gR ts pr (i,[])) k=some o/\
  OR ts (if f.2.2.length=64 then eR t 2 else bZ (if k=3 then qL ts i else oM ts i) λa=>
   if f.2.2.any (λd=>d.1==k&&decide (d.2.1=a.2.2.1)) then eR a.2 10
   else bZ (if k=1 then zZ ts a.1 else .inr (a.1,[])) λb=>
    bZ (eN ts DV b.1) λj=>bZ (iM ts b.2 32 (j,[])) λc=>
    bZ (eN ts vC c.1.1) λm=> .inr (m,(k,a.2.2.1,b.2,c.1.2))) o:=by
 unfold NC
 by_cases k1:f.2.2.length=64
 .have k1':((f.2.2.length:Int)==64)=true:=by simp;omega
  rw[jB k1]
  simp only[k1',jJ,pH,j0,eR]
  exact qAl (t:=t) h (show(2:Int)≠0 by decide) hi k
 have k1':((f.2.2.length:Int)==64)=false:=by simp;omega
 rw[jA k1]
 simp only[k1',j7,jE,j0,mT (i,[]) hi]
 have e:((if(k==3)then rE N (gR ts pr (i,[])) true else oJ N (gR ts pr (i,[]))):Option (RT×BA))=
   some (match(if k=3 then qL ts i else oM ts i) with| .inl z=>(bR ts z i pr [],⟨#[]⟩)| .inr a=>(gR ts pr (a.1,[]),a.2.2.1)):=by
  grind [Au,HH]
 rw[e]
 simp only[j0]
 cases hX:(if k=3 then qL ts i else oM ts i) with
 |inl z=>
  have g:z.2≠0:=by
   grind [UG,UB]
  have hz':((bR ts z i pr []).2.2.2.1==0)=false:=by grind [bR]
  simp only[hz',j7,jE,j0,bZ]
  exact ZK h g hi k _
 |inr a=>
  have ga:a=(i+1,aV ts i)/\i+1<ts.length:=by
   grind [AI,wL]
  obtain⟨rfl,l⟩:=ga
  have p:((gR ts pr (i+1,[])).2.2.2.1==0)=true:=rfl
  simp only[p,jJ,Qt (N:=N) (f:=f) (k:=k) (s:=(aV ts i).2.1) aa aa,j0]
  rw[show bZ (Sum.inr (i+1,aV ts i)) (λa:Nat×cO=>if f.2.2.any (λd=>d.1==k&&decide (d.2.1=a.2.2.1))then eR a.2 10
   else bZ (if k=1 then zZ ts a.1 else .inr (a.1,[])) λb=>
    bZ (eN ts DV b.1) λj=>bZ (iM ts b.2 32 (j,[])) λc=>
    bZ (eN ts vC c.1.1) λm=>(.inr (m,(k,a.2.2.1,b.2,c.1.2)):cU⊕(Nat×Dl)))=(if f.2.2.any (λd=>d.1==k&&decide (d.2.1=(aV ts i).2.1))then eR (aV ts i) 10
   else bZ (if k=1 then zZ ts (i+1) else .inr (i+1,[])) λb=>
    bZ (eN ts DV b.1) λj=>bZ (iM ts b.2 32 (j,[])) λc=>
    bZ (eN ts vC c.1.1) λm=>(.inr (m,(k,(aV ts i).2.1,b.2,c.1.2)):cU⊕(Nat×Dl))) from rfl]
  rcases eX (f.2.2.any λd=>d.1==k&&decide (d.2.1=(aV ts i).2.1)) with g|g
  .rw[jB g]
   simp only[g,jJ,pH,j0,eR]
   exact ZK h (show(10:Int)≠0 by decide) l k _
  rw[jA (by rw[g];decide)]
  simp only[g,j7,jE,j0]
  exact qCz n q h (i+1) l k _
abbrev RN:=List cO×Int×Int×Int×List BA×List Ex×List Int×BA
def Su(st:RT)(l:BA):RN:=(st.1,st.2.1,st.2.2.1,st.2.2.2.1,st.2.2.2.2.1,st.2.2.2.2.2.1,st.2.2.2.2.2.2,l)
theorem qLy(q:OkT ts)(l:ts.length<1000000)(y:1000005<N){f:Sr}(z:f.2.2.length<=64)(i:Nat)(b:List Ex)(hi:i<ts.length):∃o,QF N (gR ts pr (i,b)) f=some o/\OR ts (pI ts f.2.2 i) o:=by
 have e0:((gR ts pr (i,b)).1,(gR ts pr (i,b)).2.1,(gR ts pr (i,b)).2.2.1,(gR ts pr (i,b)).2.2.2.1,([]:List BA),([]:List Ex),(gR ts pr (i,b)).2.2.2.2.2.2)=gR ts [] (i,[]):=rfl
 have rest:∀(st:RT) (k:Int),(((if((List.length f.2.2:Int)==64)then((iW N st (aV ts i).2.2.2 2).bind λD=>some D) else(some st)):Option RT).bind λo2=>(iS N o2).bind λp=>((if(k==3)then((rE N p.1 true).bind λv=>some (Su v.1 v.2)) else((oJ N p.1).bind λx=>some (Su x.1 x.2))):Option RN).bind λa=>((if(a.2.2.2.1==0)then((zU N f k a.2.2.2.2.2.2.2).bind λt=>some t) else(some false)):Option Bool).bind λA=>((if A then((iW N (a.1,a.2.1,a.2.2.1,a.2.2.2.1,a.2.2.2.2.1,a.2.2.2.2.2.1,a.2.2.2.2.2.2.1) p.2.2.2.2 10).bind λu=>some u) else(some (a.1,a.2.1,a.2.2.1,a.2.2.2.1,a.2.2.2.2.1,a.2.2.2.2.2.1,a.2.2.2.2.2.2.1))):Option RT).bind λB=>wO N B k a.2.2.2.2.2.2.2)=NC N f (aV ts i) st k:=by
  intro st k
  unfold NC
  simp only[qV]
  refine kA _ (funext λo2=>kA _ (funext λp=> ?_))
  rcases eX (k==3) with c|c<;>simp only[c,jJ,j7,jE,fA,j0]<;>rfl
 have fin:∀(k:Int),k≠0->DD (aV ts i).2.1=k->(aV ts i).1=1->∃o,NC N f (aV ts i) (gR ts [] (i+1,[])) k=some o/\OR ts (pI ts f.2.2 i) o:=by
  intro k E r d
  have g:=q.next hi (show(aV ts i).1≠5 by rw[d];decide)
  obtain⟨o,e,h⟩:=qAs (N:=N) (pr:=[]) q l y z (aV ts i) (i+1) g k
  refine⟨o,e,?_⟩
  unfold pI
  dsimp only
  rw[r,jA (by grind)]
  exact h
 simp only[QF,e0,mT (i,[]) hi,j0,Prod.eta,rM (i,[]) hi l]
 by_cases d:(aV ts i).1=1
 .have n:∀s,dK ts 1 s i=decide ((aV ts i).2.1=s):=λs=>Mi d
  simp only[n]
  by_cases w1:(aV ts i).2.1=(⟨#[102,117,110,99]⟩:BA)
  .simp only[kE w1,jJ,j0]
   obtain⟨o,e,h⟩:=fin 1 ac (by rw[w1];rfl) d
   refine⟨o,Eq.trans ?_ e,h⟩
   refine Eq.trans ?_ (rest (gR ts [] (i+1,[])) 1)
   simp only[qV,wO]
   rfl
  simp only[kC w1,j7,jE,j0,rM (i,[]) hi l,n,Prod.eta]
  by_cases w2:(aV ts i).2.1=(⟨#[116,101,115,116]⟩:BA)
  .simp only[kE w2,jJ,j0]
   obtain⟨o,e,h⟩:=fin 2 ac (by rw[w2];rfl) d
   refine⟨o,Eq.trans ?_ e,h⟩
   refine Eq.trans ?_ (rest (gR ts [] (i+1,[])) 2)
   simp only[qV,wO]
   rfl
  simp only[kC w2,j7,jE,j0,rM (i,[]) hi l,n,Prod.eta]
  by_cases w3:(aV ts i).2.1=(⟨#[103,101,110]⟩:BA)
  .simp only[kE w3,jJ,j0]
   obtain⟨o,e,h⟩:=fin 3 ac (by rw[w3];rfl) d
   refine⟨o,Eq.trans ?_ e,h⟩
   refine Eq.trans ?_ (rest (gR ts [] (i+1,[])) 3)
   simp only[qV,wO]
   rfl
  simp only[kC w3,j7,jE,j0,pH,Prod.eta]
  refine⟨_,rfl,?_⟩
  have r:DD (aV ts i).2.1=0:=by
   grind [DD,Cg,Bw,Cv]
  unfold pI
  dsimp only
  rw[jB (.inr r)]
  exact⟨show(9:Int)≠0 by decide,i,[],[],hi,rfl⟩
 have n:∀s,dK ts 1 s i=false:=λs=>Qj d
 simp only[n,j7,jE,j0,rM (i,[]) hi l,pH,Prod.eta]
 refine⟨_,rfl,?_⟩
 unfold pI
 dsimp only
 rw[jB (.inl d)]
 exact⟨show(9:Int)≠0 by decide,i,[],[],hi,rfl⟩
def Cw(ts:List cO)(pr:List BA)(b:List Ex)(r:cU⊕(Nat×List BA))(o:RL):Prop:=
 match r with
 | .inl z=>∃st l,uK ts z st/\o=cN st l
 | .inr q=>o=cN (gR ts pr (q.1,b)) q.2
theorem Gh{y5:RT×BA}{z:cU}{i:Nat}{pr':List BA}{b:List Ex}(a:z.2≠0)(M:Nat)(l:List BA):aA (rW N y5) (M+1) (cN (bR ts z i pr' b) l)=some (cN (bR ts z i pr' b) l):=by
 grind [cN,bR,aA,rW]
theorem Fv(k:OkT ts)(u:ts.length<1000000)(H:1000005<N){y5:RT×BA}{b:List Ex}:∀(n M:Nat) (l:List BA) (i:Nat),i<ts.length->l.length<=8->ts.length<i+n->ts.length+2<i+M->
  ∃o,aA (rW N y5) M (cN (gR ts pr (i,b)) l)=some o/\Cw ts pr b (rK ts y5.2 n l i) o
 |0,M,l,i,hi,_,h,_=>by omega
 |n+1,0,l,i,hi,_,_,h=>by omega
 |n+1,M+1,l,i,hi,R,U,S=>by
  have G:((cN (gR ts pr (i,b)) l).2.2.2.1==0)=true:=rfl
  have E:∀st:RT,∀l,((cN st l).1,(cN st l).2.1,(cN st l).2.2.1,(cN st l).2.2.2.1,(cN st l).2.2.2.2.1,(cN st l).2.2.2.2.2.1,(cN st l).2.2.2.2.2.2.1)=st:=λ_ _=>rfl
  have F:∀st:RT,∀l,(cN st l).2.2.2.2.2.2.2=l:=λ_ _=>rfl
  have d:∀s:BA,dS 16 l [s]=some (l++[s]):=λs=>eT (by grind) aa
  have t:∀s,rJ N l s=some (decide (s∈l)):=λs=>OQ aa aa
  have bad:∀(z:cU) (i:Nat) (pr':List BA) (b':List Ex) (l:List BA),z.2≠0->i<ts.length->∃o,aA (rW N y5) M (cN (bR ts z i pr' b') l)=some o/\Cw ts pr b (.inl z) o:=by
   intro z i pr' b' l c hi
   obtain⟨M',rfl⟩:∃M',M=M'+1:=⟨M-1,by omega⟩
   exact⟨_,Gh c M' l,_,_,⟨c,i,pr',b',hi,rfl⟩,rfl⟩
  -- from the import's name on, behind an error
  have badn:∀(z:cU) (i:Nat) (pr':List BA) (b':List Ex),z.2≠0->i<ts.length->∃o,((iS N (bR ts z i pr' b')).bind λe=>(oJ N e.1).bind λa=>((if(a.1.2.2.2.1==0)then(if(a.2.toList==y5.2.toList)then(some true) else(rJ N l a.2)) else(some false)):Option Bool).bind λy=>((if y then iW N a.1 e.2.2.2.2 10 else some a.1):Option RT).bind λA=>(iH N A (⟨#[59]⟩:BA)).bind λq=>(dS 16 l ([a.2])).bind λv=>aA (rW N y5) M (cN q v))=some o/\Cw ts pr b (.inl z) o:=by
   intro z i pr' b' c hi
   have hz':((bR ts z i pr' b').2.2.2.1==0)=false:=by grind [bR]
   simp only[sF hi,UD c hi,j0,hz',j7,jE,sB c hi,d]
   exact bad z i pr' b' _ c hi
  -- the step
  have step:aA (rW N y5) (M+1) (cN (gR ts pr (i,b)) l)=(if dK ts 1 NQ i then
    ((if((l.length:Int)==8)then some (bR ts ((aV ts i).2.2.2,2) (i+1) pr b) else some (gR ts pr (i+1,b))):Option RT).bind λst=>((iS N st).bind λe=>(oJ N e.1).bind λa=>((if(a.1.2.2.2.1==0)then(if(a.2.toList==y5.2.toList)then(some true) else(rJ N l a.2)) else(some false)):Option Bool).bind λy=>((if y then iW N a.1 e.2.2.2.2 10 else some a.1):Option RT).bind λA=>(iH N A (⟨#[59]⟩:BA)).bind λq=>(dS 16 l ([a.2])).bind λv=>aA (rW N y5) M (cN q v))
    else some (cN (gR ts pr (i,b)) l)):=by
   have K:dK ts 1 NQ i=((aV ts i).1==1&&decide ((aV ts i).2.1=(⟨#[105,109,112,111,114,116]⟩:BA))):=rfl
   have D:=yH (show i<1000000 by omega)
   simp only[aA,rW,G,jJ,E,F,mT (i,b) hi,j0,Prod.eta,nY,K]
   rcases eX ((aV ts i).1==1) with f|f
   rotate_left
   .grind
   rcases eX (decide ((aV ts i).2.1=(⟨#[105,109,112,111,114,116]⟩:BA))) with B|B
   rotate_left
   .grind
   simp only[f,B,jJ,j0,Bool.and_true]
   rcases eX ((l.length:Int)==8) with p|p
   .simp only[p,jJ,j0,mT (i,b) hi,pH,qV]
    have r:((bR ts ((aV ts i).2.2.2,2) i pr b).1,wI ((bR ts ((aV ts i).2.2.2,2) i pr b).2.1+1),(bR ts ((aV ts i).2.2.2,2) i pr b).2.2.1,(bR ts ((aV ts i).2.2.2,2) i pr b).2.2.2.1,(bR ts ((aV ts i).2.2.2,2) i pr b).2.2.2.2.1,(bR ts ((aV ts i).2.2.2,2) i pr b).2.2.2.2.2.1,(bR ts ((aV ts i).2.2.2,2) i pr b).2.2.2.2.2.2)=bR ts ((aV ts i).2.2.2,2) (i+1) pr b:=by
     show(ts,wI ((i:Int)+1),(aV ts i).2.2.2,(2:Int),pr,b,([]:List Int))=_
     rw[D];rfl
    rw[r]
    simp only[fA,j0]
    rfl
   simp only[p,j7,jE,j0,qV]
   have r:((gR ts pr (i,b)).1,wI ((gR ts pr (i,b)).2.1+1),(gR ts pr (i,b)).2.2.1,(gR ts pr (i,b)).2.2.2.1,(gR ts pr (i,b)).2.2.2.2.1,(gR ts pr (i,b)).2.2.2.2.2.1,(gR ts pr (i,b)).2.2.2.2.2.2)=gR ts pr (i+1,b):=by
    show(ts,wI ((i:Int)+1),(0:Int),(0:Int),pr,b,([]:List Int))=_
    rw[D];rfl
   rw[r]
   simp only[fA,j0]
   rfl
  rw[step]
  simp only[rK]
  rcases eX (dK ts 1 NQ i) with f|f
  rotate_left
  .simp only[f,j7,jE]
   exact⟨_,rfl,rfl⟩
  have g:=oE k hi ac f
  simp only[f,jJ]
  by_cases k2:l.length=8
  .have k2':((l.length:Int)==8)=true:=by simp;omega
   rw[jB k2]
   simp only[k2',jJ,j0,eR]
   exact badn _ _ _ _ (show(2:Int)≠0 by decide) g
  have k2':((l.length:Int)==8)=false:=by simp;omega
  rw[jA k2]
  simp only[k2',j7,jE,j0,mT (i+1,b) g,HH (i+1,b) g u (by omega:100<N)]
  cases hx:oM ts (i+1) with
  |inl z=>
   have c:=UB hx
   have hz':((bR ts z (i+1) pr b).2.2.2.1==0)=false:=by grind [bR]
   simp only[hz',j7,jE,j0,sB c g,d,bZ]
   exact bad _ _ _ _ _ c g
  |inr x=>
   obtain⟨rfl,p,-⟩:=wL k g hx
   have r:((gR ts pr (i+1+1,b)).2.2.2.1==0)=true:=rfl
   simp only[r,jJ,nY,t,bZ]
   by_cases k3:(aV ts (i+1)).2.1=y5.2\/(aV ts (i+1)).2.1∈l
   .rw[jB k3]
    have:((if decide ((aV ts (i+1)).2.1=y5.2)then some true else some (decide ((aV ts (i+1)).2.1∈l))):Option Bool)=some true:=by
     grind
    rw[this]
    simp only[j0,jJ,pH,d,eR]
    have c:(((aV ts (i+1)).2.2.2,(10:Int)):cU).2≠0:=show(10:Int)≠0 by decide
    simp only[sB c p,j0]
    exact bad _ _ _ _ _ c p
   rw[jA k3]
   have:((if decide ((aV ts (i+1)).2.1=y5.2)then some true else some (decide ((aV ts (i+1)).2.1∈l))):Option Bool)=some false:=by
    grind
   rw[this]
   simp only[j0,j7,jE,sS (i+1+1,b) p u,d,vC]
   cases c:eN ts ⟨#[59]⟩ (i+1+1) with
   |inl z=>exact bad _ _ _ _ _ (rL c) p
   |inr j=>
    obtain⟨rfl,B,-⟩:=nZ k p c
    exact Fv k u H n M _ (i+1+1+1) B (by grind) aa aa
abbrev RD:=List cO×Int×Int×Int×List BA×List Ex×List Int×List Dl
def oX(st:RT)(l:List Dl):RD:=(st.1,st.2.1,st.2.2.1,st.2.2.2.1,st.2.2.2.2.1,st.2.2.2.2.2.1,st.2.2.2.2.2.2,l)
def relS(ts:List cO)(r:cU⊕List Dl)(o:RD):Prop:=
 match r with
 | .inl z=>∃st l,uK ts z st/\o=oX st l
 | .inr a=>∃pr p,o=oX (gR ts pr p) a
theorem Ht{y5:RT×BA}{o2:RL}{z:cU}{i:Nat}{pr':List BA}{b:List Ex}(a:z.2≠0)(M:Nat)(l:List Dl):aA (vY N y5 o2) (M+1) (oX (bR ts z i pr' b) l)=some (oX (bR ts z i pr' b) l):=by
 grind [oX,bR,aA,vY]
theorem Hc(c:OkT ts)(k:ts.length<1000000)(g:1000005<N){y5:RT×BA}{o2:RL}:∀(n M:Nat) (l:List Dl) (i:Nat) (pr:List BA) (b:List Ex),i<ts.length->l.length<=64->ts.length<i+n->ts.length+2<i+M->
  ∃o,aA (vY N y5 o2) M (oX (gR ts pr (i,b)) l)=some o/\relS ts (sZ ts n l i) o
 |0,M,l,i,_,_,hi,_,h,_=>by omega
 |n+1,0,l,i,_,_,hi,_,_,h=>by omega
 |n+1,M+1,l,i,pr,b,hi,e,y,x=>by
  have t:((oX (gR ts pr (i,b)) l).2.2.2.1==0)=true:=rfl
  have r:∀st:RT,∀l,((oX st l).1,(oX st l).2.1,(oX st l).2.2.1,(oX st l).2.2.2.1,(oX st l).2.2.2.2.1,(oX st l).2.2.2.2.2.1,(oX st l).2.2.2.2.2.2.1)=st:=λ_ _=>rfl
  have s:∀st:RT,∀l,(oX st l).2.2.2.2.2.2.2=l:=λ_ _=>rfl
  simp only[aA,vY,t,jJ,r,s,mT (i,b) hi,j0,Prod.eta,sZ]
  by_cases k1:(aV ts i).1=5
  .have k1':((aV ts i).1 !=5)=false:=by simp[k1]
   rw[jB k1]
   simp only[k1',j7,jE,j0]
   exact⟨_,rfl,pr,(i,b),rfl⟩
  have k1':((aV ts i).1 !=5)=true:=by simp[k1]
  rw[jA k1]
  simp only[k1',jJ]
  obtain⟨o,v,d⟩:=qLy (N:=N) (pr:=pr) (f:=(y5.2,o2.2.2.2.2.2.2.2,l)) c k g e i b hi
  simp only[v,j0]
  rw[eT (by grind) aa]
  simp only[j0]
  cases hd:pI ts l i with
  |inl z=>
   rw[show pI ts (y5.2,o2.2.2.2.2.2.2.2,l).2.2 i=pI ts l i from rfl,hd] at d
   obtain⟨q,j,pr',b',u,p⟩:=d
   obtain⟨M',rfl⟩:∃M',M=M'+1:=⟨M-1,by omega⟩
   rw[p]
   exact⟨_,Ht q M' _,_,_,⟨q,j,pr',b',u,rfl⟩,rfl⟩
  |inr a=>
   rw[show pI ts (y5.2,o2.2.2.2.2.2.2.2,l).2.2 i=pI ts l i from rfl,hd] at d
   obtain⟨q,p,u⟩:=TL c hi hd
   have hr':o=(gR ts a.2.2.2.1 (a.1,a.2.2.2.2),a.2):=d
   rw[hr']
   exact Hc c k g n M (l++[a.2]) a.1 _ _ p (by grind) aa aa
theorem qKr(c:OkT ts)(e:ts.length<1000000)(u:1000005<N):
  ((pW N (ts,0,0,0,[],[],[]) (⟨#[112,97,99,107,97,103,101]⟩:BA)).bind λn=>((if(!n.2)then((iS N n.1).bind λA=>iW N A.1 A.2.2.2.2 9) else(some n.1)):Option RT).bind λF=>(oJ N F).bind λy5=>(iH N y5.1 (⟨#[59]⟩:BA)).bind λp=>(aA (rW N y5) N (cN p [])).bind λo2=>(aA (vY N y5 o2) N (o2.1,o2.2.1,o2.2.2.1,o2.2.2.2.1,o2.2.2.2.2.1,o2.2.2.2.2.2.1,o2.2.2.2.2.2.2.1,[])).bind λa=>if(a.2.2.2.1 !=0)then(some (rQ,a.2.2.1,a.2.2.2.1)) else(some (((y5.2,o2.2.2.2.2.2.2.2,a.2.2.2.2.2.2.2):Sr),(0:Int),(0:Int))))=some (match uZ ts with| .inl z=>(rQ,z.1,z.2)| .inr f=>(f,0,0)):=by
 have t:0<ts.length:=fW.2 c.1
 obtain⟨M,hM⟩:∃M,N=M+1:=⟨N-1,by omega⟩
 have e0:((ts,(0:Int),(0:Int),(0:Int),[],[],[]):RT)=gR ts [] (0,[]):=rfl
 -- the loops behind an error
 have badD:∀(y5:RT×BA) (o2:RL) (z:cU) (st:RT),uK ts z st->((aA (vY N y5 o2) N (oX st [])).bind λa=>if(a.2.2.2.1 !=0)then(some (rQ,a.2.2.1,a.2.2.2.1)) else(some (((y5.2,o2.2.2.2.2.2.2.2,a.2.2.2.2.2.2.2):Sr),(0:Int),(0:Int))))=some (rQ,z.1,z.2):=by
  rintro y5 o2 z st ⟨k,i,pr',b,hi,rfl⟩
  grind [oX,bR,Ht]
 have badI:∀(y5:RT×BA) (z:cU) (i:Nat) (pr':List BA) (b:List Ex),z.2≠0->i<ts.length->((aA (rW N y5) N (cN (bR ts z i pr' b) [])).bind λo2=>(aA (vY N y5 o2) N (o2.1,o2.2.1,o2.2.2.1,o2.2.2.2.1,o2.2.2.2.2.1,o2.2.2.2.2.2.1,o2.2.2.2.2.2.2.1,[])).bind λa=>if(a.2.2.2.1 !=0)then(some (rQ,a.2.2.1,a.2.2.2.1)) else(some (((y5.2,o2.2.2.2.2.2.2.2,a.2.2.2.2.2.2.2):Sr),(0:Int),(0:Int))))=some (rQ,z.1,z.2):=by
  intro y5 z i pr' b k hi
  have d:aA (rW N y5) N (cN (bR ts z i pr' b) [])=some (cN (bR ts z i pr' b) []):=by
   grind [Gh]
  rw[d]
  simp only[j0]
  exact badD y5 (cN (bR ts z i pr' b) []) z (bR ts z i pr' b) ⟨k,i,pr',b,hi,rfl⟩
 have bad:∀(z:cU) (i:Nat) (pr':List BA) (b:List Ex),z.2≠0->i<ts.length->((oJ N (bR ts z i pr' b)).bind λy5=>(iH N y5.1 (⟨#[59]⟩:BA)).bind λp=>(aA (rW N y5) N (cN p [])).bind λo2=>(aA (vY N y5 o2) N (o2.1,o2.2.1,o2.2.2.1,o2.2.2.2.1,o2.2.2.2.2.1,o2.2.2.2.2.2.1,o2.2.2.2.2.2.2.1,[])).bind λa=>if(a.2.2.2.1 !=0)then(some (rQ,a.2.2.1,a.2.2.2.1)) else(some (((y5.2,o2.2.2.2.2.2.2.2,a.2.2.2.2.2.2.2):Sr),(0:Int),(0:Int))))=some (rQ,z.1,z.2):=by
  grind [UD,sB]
 rw[e0]
 simp only[rM (0,[]) t e,j0,uZ,yQ,ZY]
 rcases eX (dK ts 1 ⟨#[112,97,99,107,97,103,101]⟩ 0) with h|h
 rotate_left
 .grind [mT,pH,eR,bZ]
 have q:=oE c t ac h
 simp only[h,jJ,kK,j7,jE,j0,HH (0+1,[]) q e (by omega:100<N),bZ]
 cases h2:oM ts (0+1) with
 |inl z=>
  grind [UB,sB]
 |inr x=>
  obtain⟨rfl,r,-⟩:=wL c q h2
  simp only[sS (0+1+1,[]) r e,j0,vC]
  cases h3:eN ts ⟨#[59]⟩ (0+1+1) with
  |inl z=>grind [rL]
  |inr j=>
   obtain⟨rfl,s,-⟩:=nZ c r h3
   obtain⟨o,D,g⟩:=Fv (N:=N) (pr:=[]) (b:=[]) (y5:=(gR ts [] (0+1+1,[]),(aV ts (0+1)).2.1)) c e u (ts.length+1) N [] (0+1+1+1) s ad aa aa
   simp only[D,j0]
   cases h4:rK ts (aV ts (0+1)).2.1 (ts.length+1) [] (0+1+1+1) with
   |inl z=>
    rw[show rK ts ((gR ts [] (0+1+1,[]),(aV ts (0+1)).2.1):RT×BA).2 (ts.length+1) [] (0+1+1+1)=rK ts (aV ts (0+1)).2.1 (ts.length+1) [] (0+1+1+1) from rfl,h4] at g
    obtain⟨st,l,d,rfl⟩:=g
    exact badD _ (cN st l) z st d
   |inr y=>
    rw[show rK ts ((gR ts [] (0+1+1,[]),(aV ts (0+1)).2.1):RT×BA).2 (ts.length+1) [] (0+1+1+1)=rK ts (aV ts (0+1)).2.1 (ts.length+1) [] (0+1+1+1) from rfl,h4] at g
    have hr':o=cN (gR ts [] (y.1,[])) y.2:=g
    obtain⟨G,E,H⟩:=SS c _ _ _ y s ad h4
    obtain⟨o2,v,d⟩:=Hc (N:=N) (y5:=(gR ts [] (0+1+1,[]),(aV ts (0+1)).2.1)) (o2:=o) c e u (ts.length+1) N [] y.1 [] [] E ad aa aa
    have B:(o.1,o.2.1,o.2.2.1,o.2.2.2.1,o.2.2.2.2.1,o.2.2.2.2.2.1,o.2.2.2.2.2.2.1,([]:List Dl))=oX (gR ts [] (y.1,[])) []:=by rw[hr'];rfl
    rw[B,v]
    simp only[j0]
    cases h5:sZ ts (ts.length+1) [] y.1 with
    |inl z=>
     rw[h5] at d
     obtain⟨st,l,⟨k,i,pr',b,hi,rfl⟩,rfl⟩:=d
     grind [oX,bR]
    |inr l=>
     rw[h5] at d
     obtain⟨pr',p',rfl⟩:=d
     have hz':((oX (gR ts pr' p') l).2.2.2.1 !=0)=false:=rfl
     simp only[hz',j7,jE]
     rw[hr']
     rfl
theorem Zy{N:Nat}(s:BA)(b:1000005<N):RS N s=some (lN s):=by
 simp only[RS,Ys (N:=N) aa,j0,lN]
 by_cases h:(lP s).2.2=0
 .rw[jA (show ¬((lP s).2.2 !=0)=true by simpa using h),jA (show ¬(lP s).2.2≠0 by simpa using h)]
  obtain⟨a,d,e⟩:=MT h
  have c:=qKr (N:=N) a aa b
  refine Eq.trans ?_ (Eq.trans c ?_)
  .simp only[Prod.eta,qV];rfl
  grind
 rw[jB (show((lP s).2.2 !=0)=true by simpa using h),jB h];rfl
end
section
open Go Go.Dc Go.Proofs
def AT{α τ:Type}(g:Nat->τ->α->τ):Nat->τ->List α->τ
 |_,t,[]=>t
 |i,t,x::l=>AT g (i+1) (g i t x) l
abbrev eS:=BA×BA×Int×BA×Int×Int
abbrev K3:=Int×BA×BA
abbrev oI:=BA×BA×Int×BA×Int
def qR(kind:Int)(pkg name:BA):K3:=(kind,if kind=3 then iQ else pkg,name)
def yU(o:oI):K3:=qR o.2.2.1 o.1 o.2.1
def Qm(M:List (K3×eS))(o:oI):List (K3×eS):=
 mset M (yU o) (match dX M (yU o) with
  |some x=>(x.1,x.2.1,x.2.2.1,x.2.2.2.1,x.2.2.2.2.1,wI (x.2.2.2.2.2+1))
  |none=>(o.1,o.2.1,o.2.2.1,o.2.2.2.1,o.2.2.2.2,1))
def sH(path pkg:BA):Nat->List Dl->List oI
 |_,[]=>[]
 |i,d::l=>(pkg,d.2.1,d.1,path,(i:Int))::sH path pkg (i+1) l
def sJ(f:bY):Bool:=uU f.1&&decide ((lN f.2).2.2=0)
def mF(L:List bY):List (BA×Sr):=(L.filter sJ).map λf=>(f.1,(lN f.2).1)
def nB(l:List (BA×Sr)):List oI:=l.flatMap λx=>sH x.1 x.2.1 0 x.2.2.2
theorem Iw{ts:List cO}(h:OkT ts):∀(n:Nat) (l:List Dl) (i:Nat) {r:List Dl},l.length<=64->i<ts.length->sZ ts n l i= .inr r->r.length<=64
 |0,_,_,_,_,_,a=>by cases a
 |n+1,l,i,r,f,hi,a=>by
  unfold sZ at a
  split at a
  .grind
  obtain⟨x,d,c⟩:=dF a
  obtain⟨-,b,e⟩:=TL h hi d
  exact Iw h n _ _ ah b c
theorem Ij{s:BA}:(lN s).1.2.2.length<=64:=by
 unfold lN
 by_cases h0:(lP s).2.2=0
 .rw[jA (not_not_intro h0)]
  obtain⟨d,u,x⟩:=MT h0
  have e:0<(lP s).1.length:=by
   cases h:(lP s).1 with
   |nil=>exact absurd h d.1
   |cons a l=>exact Nat.succ_pos _
  cases c:uZ (lP s).1 with
  |inl z=>exact jQ _
  |inr f=>
   simp only
   unfold uZ at c
   obtain⟨i,o,c⟩:=dF c
   obtain⟨rfl,g,-⟩:=TR d e o
   obtain⟨a,p,c⟩:=dF c
   obtain⟨rfl,k,-⟩:=wL d g p
   obtain⟨j,q,c⟩:=dF c
   obtain⟨rfl,n,-⟩:=nZ d k q
   obtain⟨b,r,c⟩:=dF c
   obtain⟨-,v,-⟩:=SS d _ _ _ b n ad r
   obtain⟨l,t,c⟩:=dF c
   have:=Iw d _ _ _ ad v t
   grind
 rw[jB h0];exact jQ _
def lG(kind:Int)(pkg name:BA)(e:eS)(o:oI):eS:=
 if yU o=qR kind pkg name then(if e.2.2.2.2.2=0 then(o.1,name,kind,o.2.2.2.1,o.2.2.2.2,1) else(e.1,e.2.1,e.2.2.1,e.2.2.2.1,e.2.2.2.2.1,e.2.2.2.2.2+1)) else e
def vO(kind:Int)(pkg name:BA):eS:=(if kind=3 then iQ else pkg,name,kind,iQ,0,0)
def oB(O:List oI)(kind:Int)(pkg name:BA):eS:=O.foldl (lG kind pkg name) (vO kind pkg name)
theorem yB{k k':Int}{p p' n n':BA}(h:qR k p n=qR k' p' n'):k=k'/\n=n'/\(k=3\/p=p'):=by
 grind [qR]
def MapE(M:List (K3×eS))(O:List oI):Prop:=
 (M.map (·.1)).Nodup/\∀kind pkg name,dX M (qR kind pkg name)=if(oB O kind pkg name).2.2.2.2.2=0 then none else some (oB O kind pkg name)
theorem Hy(kind:Int)(pkg name:BA):∀(O:List oI),0<=(oB O kind pkg name).2.2.2.2.2/\(oB O kind pkg name).2.2.2.2.2<=O.length/\((oB O kind pkg name).2.2.2.2.2=0->oB O kind pkg name=vO kind pkg name):=by
 suffices h:∀(O:List oI) (e:eS) (b:Nat),0<=e.2.2.2.2.2/\e.2.2.2.2.2<=b/\(e.2.2.2.2.2=0->e=vO kind pkg name)->
   0<=(O.foldl (lG kind pkg name) e).2.2.2.2.2/\(O.foldl (lG kind pkg name) e).2.2.2.2.2<=(b+O.length:Nat)/\((O.foldl (lG kind pkg name) e).2.2.2.2.2=0->O.foldl (lG kind pkg name) e=vO kind pkg name) by
  intro O
  have:=h O (vO kind pkg name) 0 ⟨gB _,gB _,λ_=>rfl⟩
  rw[gN] at this
  exact this
 intro O
 induction O with
 |nil=>grind
 |cons o O a=>
  intro e b h
  rw[kI]
  have:=a (lG kind pkg name e o) (b+1) (by
   unfold lG
   grind)
  grind
theorem MapE.step{M:List (K3×eS)}{O:List oI}(h:MapE M O)(e:O.length<1000000)(o:oI):MapE (Qm M o) (O++[o]):=by
 refine⟨Zc h.1 _ _,λkind pkg name=> ?_⟩
 have f:=Hy kind pkg name O
 have a:oB (O++[o]) kind pkg name=lG kind pkg name (oB O kind pkg name) o:=by
  grind [oB]
 unfold Qm
 rw[qAu h.1,a]
 by_cases hk:qR kind pkg name=yU o
 .rw[jB hk,<-hk,h.2 kind pkg name]
  unfold lG
  rw[jB hk.symm]
  obtain⟨b,c,d⟩:=yB hk
  grind [bA]
 have b:lG kind pkg name (oB O kind pkg name) o=oB O kind pkg name:=by grind [lG]
 rw[jA hk,h.2 kind pkg name,b]
theorem TH{L:List bY}{x:BA×Sr}(h:x∈mF L):∃f∈L,sJ f=true/\x=(f.1,(lN f.2).1):=by
 grind [mF]
theorem YN(L:List bY):(mF L).length<=L.length:=by
 grind [mF]
def AV:eS:=(iQ,iQ,0,iQ,0,0)
def dO(L:List bY)(kind:Int)(pkg name:BA):eS:=if fP L=0 then oB (nB (mF L)) kind pkg name else AV
theorem XP{α τ σ β:Type}{L:List α}(enc:τ->Nat->σ){f:σ->Option (σ⊕β)}(g:Nat->τ->α->τ)(fin:τ->β)(I:Nat->τ->Prop)
  (a:∀t i,∀hi:i<L.length,I i t->f (enc t i)=some (.inl (enc (g i t L[i]) (i+1)))/\I (i+1) (g i t L[i]))
  (b:∀t,I L.length t->f (enc t L.length)=some (.inr (fin t))):∀(d i M:Nat) (t:τ),i+d=L.length->d<M->I i t->aA f M (enc t i)=some (fin (AT g i t (L.drop i)))/\I L.length (AT g i t (L.drop i))
 |_,_,0,_,_,h,_=>absurd h (jO _)
 |0,i,M+1,t,e,k,c=>by
  grind [aA,AT]
 |d+1,i,M+1,t,e,k,c=>by
  have hi:i<L.length:=by omega
  obtain⟨l,n⟩:=a t i hi c
  simp only[aA,l,j0]
  rw[pF hi]
  exact XP enc g fin I a b d (i+1) M _ aa aa n
def OO(L:List bY)(p:BA):Sr×Bool:=match(if fP L=0 then mH L p else none) with
 |some b=>if uU p then((lN b).1,decide ((lN b).2.2=0)) else(rQ,false)
 |none=>(rQ,false)
theorem Gc{N:Nat}{L:List bY}{p:BA}(a:1000005<N):KY N L p=some (OO L p):=by
 simp only[KY,GJ p (show 100<N by omega),j0,Xu (show 100<N by omega),Zy _ a]
 unfold OO qO
 by_cases hc:fP L=0
 .rw[jB hc,jB hc]
  cases hg:mH L p with
  |none=>rfl
  |some b=>
   simp only[Ro]
   by_cases hs:uU p=true
   .grind
   have hs':uU p=false:=by simpa using hs
   rw[jA hs,hs']
   rfl
 rw[jA hc,jA hc];rfl
theorem Mc{L:List bY}(a:fP L=0){f:bY}(b:f∈L):(OO L f.1).2=sJ f/\(sJ f=true->(OO L f.1).1=(lN f.2).1):=by
 unfold OO
 rw[jB a,Gp (wH.1 a).2.1 b]
 grind [sJ]
def yM(t:List BA×List Sr)(f:bY):List BA×List Sr:=if sJ f then(t.1++[f.1],t.2++[(lN f.2).1]) else t
theorem XT:∀(L:List bY) (P:List BA) (S:List Sr),L.foldl yM (P,S)=(P++(mF L).map (·.1),S++(mF L).map (·.2))
 |[],P,S=>by simp[mF]
 |f::L,P,S=>by
  rw[kI]
  by_cases h:sJ f=true
  .have el:mF (f::L)=(f.1,(lN f.2).1)::mF L:=by grind [mF]
   rw[show yM (P,S) f=(P++[f.1],S++[(lN f.2).1]) by grind [yM],XT L,el]
   simp
  have el:mF (f::L)=mF L:=by grind [mF]
  rw[show yM (P,S) f=(P,S) by grind [yM],XT L,el]
def dJ(L:List bY):List (BA×Sr):=if fP L=0 then mF L else[]
theorem GF{N:Nat}{L:List bY}(b:1000005<N):xW N L=some ((dJ L).map (·.1),(dJ L).map (·.2)):=by
 simp only[xW,wE (show 100<N by omega),j0]
 unfold dJ
 by_cases hc:fP L=0
 .rw[jA (by simp[hc]),jB hc]
  have c:=(wH.1 hc).1
  have h:=mM (L:=L) (λ(t:List BA×List Sr) (i:Nat)=>((i:Int),t.1,t.2)) (f:=KX N L)
   (λt f=> .inl (yM t f)) (λt=>(t.1,t.2)) (λi t=>t.1.length<=i/\t.2.length<=i) (by
    intro t i hi a
    simp only[KX]
    rw[jB (by grind),cD hi]
    have ew:wI ((i:Int)+1)=((i+1:Nat):Int):=by grind [bA]
    grind [Mc,Gc,yM,eT]) (by
    grind [yM]) (by
    grind [KX]) (M:=N) (t:=([],[])) aa ⟨jQ _,jQ _⟩
  rw[show((0:Nat):Int)=0 from rfl] at h
  rw[h,pG yM (λ_ _=>rfl),XT]
  grind
 grind
theorem Ic(kind:Int)(pkg name path p:BA):∀(l:List Dl) (i:Nat) (e:eS),
  AT (λi e (d:Dl)=>lG kind pkg name e (p,d.2.1,d.1,path,(i:Int))) i e l=(sH path p i l).foldl (lG kind pkg name) e
 |[],_,_=>rfl
 |d::l,i,e=>by simp only[AT,sH,kI];exact Ic kind pkg name path p l (i+1) _
theorem Rn{kind:Int}{pkg name path p:BA}(a:kind≠3)(b:p≠pkg):∀(l:List Dl) (i:Nat) (e:eS),(sH path p i l).foldl (lG kind pkg name) e=e
 |[],_,_=>rfl
 |d::l,i,e=>by
  have:lG kind pkg name e (p,d.2.1,d.1,path,(i:Int))=e:=by
   unfold lG
   rw[jA]
   intro h
   obtain⟨c,f,g⟩:=yB h
   grind
  simp only[sH,kI,this]
  exact Rn a b l (i+1) e
def EntI(kind:Int)(name:BA)(b:Nat)(e:eS):Prop:=e.2.1=name/\e.2.2.1=kind/\0<=e.2.2.2.2.2/\e.2.2.2.2.2<=(b:Int)
theorem EntI.see{kind:Int}{pkg name:BA}{b:Nat}{e:eS}(h:EntI kind name b e)(o:oI):EntI kind name (b+1) (lG kind pkg name e o):=by
 obtain⟨a,c,d,f⟩:=h
 unfold lG
 split
 .split
  .exact⟨rfl,rfl,(by grind),(by grind)⟩
  exact⟨a,c,(by grind),(by grind)⟩
 exact⟨a,c,d,by omega⟩
theorem Zt{N:Nat}{P:List BA×List Sr}{kind:Int}{pkg name path:BA}{c:Int×BA×BA×Int×Int}{x:Sr}(r:aO P.1 c.1=some path)(n:kind=3\/x.1=pkg)
  (q:x.2.2.length<=64) (o:1000<N) {b:Nat} (p:b<1000000) {e:eS} (a:EntI kind name b e):
  aA (EP N P kind name c x) N (0,e.1,e.2.2.2.1,e.2.2.2.2.1,e.2.2.2.2.2)=some (((sH path x.1 0 x.2.2).foldl (lG kind pkg name) e).1,((sH path x.1 0 x.2.2).foldl (lG kind pkg name) e).2.2.2.1,((sH path x.1 0 x.2.2).foldl (lG kind pkg name) e).2.2.2.2.1,((sH path x.1 0 x.2.2).foldl (lG kind pkg name) e).2.2.2.2.2)
  /\EntI kind name (b+64) ((sH path x.1 0 x.2.2).foldl (lG kind pkg name) e):=by
 have:=XP (L:=x.2.2) (λ(e:eS) (i:Nat)=>((i:Int),e.1,e.2.2.2.1,e.2.2.2.2.1,e.2.2.2.2.2)) (f:=EP N P kind name c x)
  (λi e (d:Dl)=>lG kind pkg name e (x.1,d.2.1,d.1,path,(i:Int))) (λe=>(e.1,e.2.2.2.1,e.2.2.2.2.1,e.2.2.2.2.2)) (λi e=>EntI kind name (b+i) e) (by
   intro e i hi a
   refine⟨?_,a.see _⟩
   obtain⟨g,h,k,l⟩:=a
   grind [EP,cD,bA,sO,yU,qR,lG]) (by
   grind [EP]) x.2.2.length 0 N e aa aa a
 rw[kP,Ic] at this
 refine⟨this.1,?_⟩
 obtain⟨g,h,k,l⟩:=this.2
 exact⟨g,h,k,by omega⟩
theorem Gz(kind:Int)(pkg name:BA):∀(l:List (BA×Sr)) (i:Nat) (e:eS),
  AT (λ_ e (x:BA×Sr)=>(sH x.1 x.2.1 0 x.2.2.2).foldl (lG kind pkg name) e) i e l=(nB l).foldl (lG kind pkg name) e
 |[],_,_=>rfl
 |x::l,i,e=>by
  simp only[AT,nB,kU,List.foldl_append]
  exact Gz kind pkg name l (i+1) _
theorem MZ{N:Nat}{l:List (BA×Sr)}(kind:Int)(pkg name:BA)(q:l.length<=64)(p:∀x∈l,x.2.2.2.length<=64)(o:1000<N):
  uQ N (l.map (·.1),l.map (·.2)) kind pkg name=some (oB (nB l) kind pkg name):=by
 unfold uQ
 have h:=XP (L:=l) (λ(e:eS) (i:Nat)=>((i:Int),e.1,e.2.2.2.1,e.2.2.2.2.1,e.2.2.2.2.2)) (f:=EQ N (l.map (·.1),l.map (·.2)) kind pkg name)
  (λ_ e (x:BA×Sr)=>(sH x.1 x.2.1 0 x.2.2.2).foldl (lG kind pkg name) e) (λe=>(e.1,e.2.2.2.1,e.2.2.2.2.1,e.2.2.2.2.2)) (λi e=>EntI kind name (64*i) e) (by
   intro e i hi g
   have k:i<(l.map (·.1)).length:=by simpa using hi
   have c:i<(l.map (·.2)).length:=by simpa using hi
   have ew:wI ((i:Int)+1)=((i+1:Nat):Int):=by grind [bA]
   have ex:aO (l.map (·.1)) (i:Int)=some (l[i]).1:=by grind [cD]
   simp only[EQ]
   rw[jB (by grind),cD c]
   simp only[j0,ew,List.getElem_map,sO]
   by_cases hs:kind≠3/\(l[i]).2.1≠pkg
   .rw[jB (show(kind !=3)=true by simp[hs.1])]
    simp only[j0]
    rw[jB (by simp[hs.2]),Rn hs.1 hs.2]
    refine⟨rfl,?_⟩
    obtain⟨a,b,d,n⟩:=g
    exact⟨a,b,d,by omega⟩
   grind [Zt]) (by
   grind [EQ]) l.length 0 N (vO kind pkg name) aa aa ⟨rfl,rfl,gB _,gB _⟩
 rw[kP,Gz] at h
 have e0:(if(kind==3)then some (⟨#[]⟩:BA) else some pkg)=some (vO kind pkg name).1:=by
  unfold vO
  by_cases h:kind=3
  .rw[jB (by simp[h]),jB h];rfl
  grind
 rw[e0]
 simp only[j0]
 refine Eq.trans (kA (λz=>Option.bind z _) (show aA (EQ N (l.map (·.1),l.map (·.2)) kind pkg name) N (0,(vO kind pkg name).1,(⟨#[]⟩:BA),0,0)=_ from h.1)) ?_
 have a:=h.2.1
 have b:=h.2.2.1
 grind [oB]
theorem GV(L:List bY):(dJ L).length<=64/\∀x∈dJ L,x.2.2.2.length<=64:=by
 grind [dJ,fP,YN,TH,Ij]
theorem Zu{N:Nat}{L:List bY}(kind:Int)(pkg name:BA)(a:1000005<N):LK N L kind pkg name=some (dO L kind pkg name):=by
 simp only[LK,wE (show 100<N by omega),j0]
 unfold dO
 by_cases hc:fP L=0
 .grind [GF,MZ,GV,dJ]
 rw[jB (by simpa using hc),jA hc];rfl
def pJ(E:BA->eS)(name:BA):List BA->List K3->eS×List K3×Int
 |[],acc=>(AV,acc,11)
 |p::l,acc=>
  if(E p).2.2.2.2.2=0 then pJ E name l (acc++[(1,p,name)])
  else if 1<(E p).2.2.2.2.2 then(AV,acc++[(1,p,name)],12)
  else(E p,acc++[(1,p,name)],0)
theorem CI(L:List bY)(kind:Int)(pkg name:BA):0<=(dO L kind pkg name).2.2.2.2.2:=by
 unfold dO
 split
 .exact(Hy kind pkg name _).1
 exact gB _
theorem Gi{N:Nat}{L:List bY}{name:BA}{l:List BA}(g:fP L=0)(n:l.length<1000)(f:1000005<N):∀(d i M:Nat) (acc:List K3),i+d=l.length->d<M->acc.length<=i->
  (aA (JV N ((dJ L).map (·.1),(dJ L).map (·.2)) name l) M (acc,(i:Int))).bind (λb=>(match b with| .inl o=>some (((⟨#[]⟩:BA),(⟨#[]⟩:BA),(0:Int),(⟨#[]⟩:BA),(0:Int),(0:Int)),o,(11:Int))| .inr (z)=>some z))=
  some (pJ (λp=>dO L 1 p name) name (l.drop i) acc)
 |_,_,0,_,_,h,_=>absurd h (jO _)
 |0,i,M+1,acc,a,c,e=>by
  simp only[aA,JV]
  rw[jA (by grind),jZ aa]
  rfl
 |d+1,i,M+1,acc,a,c,e=>by
  have hi:i<l.length:=by omega
  have k:∀p,uQ N ((dJ L).map (·.1),(dJ L).map (·.2)) 1 p name=some (dO L 1 p name):=by
   grind [MZ,GV,dO,dJ]
  simp only[aA,JV]
  rw[jB (by grind),cD hi,pF hi]
  have ew:wI ((i:Int)+1)=((i+1:Nat):Int):=by grind [bA]
  simp only[j0,ew]
  rw[eT (by grind) aa]
  simp only[j0,k,pJ]
  have q:=CI L 1 (l[i]) name
  by_cases h0:(dO L 1 (l[i]) name).2.2.2.2.2=0
  .rw[jA (show ¬((dO L 1 (l[i]) name).2.2.2.2.2==1)=true by rw[h0];decide),jA (show ¬decide ((dO L 1 (l[i]) name).2.2.2.2.2>1)=true by rw[h0];decide),jB h0]
   simp only[j0]
   exact Gi g n f d (i+1) M _ aa aa ah
  rw[jA h0]
  by_cases a:1<(dO L 1 (l[i]) name).2.2.2.2.2
  .rw[jA (show ¬((dO L 1 (l[i]) name).2.2.2.2.2==1)=true by rw[gP];omega),jB (kE a),jB a];rfl
  grind
end
section
open Go Go.Dc
abbrev Hd:=Int×Int×Int×BA
inductive Rose where
 |mk (h:Hd) (ks:List Rose)
def Rose.hd:Rose->Hd
 | .mk h _=>h
def Rose.ks:Rose->List Rose
 | .mk _ ks=>ks
mutual
def Rose.size:Rose->Nat
 | .mk _ ks=>eA ks+1
def eA:List Rose->Nat
 |[]=>0
 |t::l=>t.size+eA l
end
def eQ:Nat->List Rose->List Int
 |_,[]=>[]
 |b,t::l=>((b+t.size-1:Nat):Int)::eQ (b+t.size) l
def mE(h:Hd)(args:List Int):Ex:=(h.1,h.2.1,h.2.2.1,h.2.2.2,args)
mutual
def Rose.flat(b:Nat):Rose->List Ex
 | .mk h ks=>nA b ks++[mE h (eQ b ks)]
def nA(b:Nat):List Rose->List Ex
 |[]=>[]
 |t::l=>t.flat b++nA (b+t.size) l
end
theorem Rose.pos(t:Rose):0<t.size:=by cases t;grind [Rose.size]
mutual
theorem nT(t:Rose)(b:Nat):(t.flat b).length=t.size:=by
 match t with
 | .mk h ks=>unfold Rose.flat Rose.size;rw[jP,TC ks b];rfl
theorem TC(l:List Rose)(b:Nat):(nA b l).length=eA l:=by
 match l with
 |[]=>rfl
 |t::l=>unfold nA eA;rw[jP,nT t b,TC l (b+t.size)]
end
theorem wJ:∀(l:List Rose) (b:Nat),(eQ b l).length=l.length
 |[],_=>rfl
 |t::l,b=>by simp only[eQ,jS,wJ l]
theorem ZA:∀(l k:List Rose),eA (l++k)=eA l+eA k
 |[],k=>by grind [eA]
 |t::l,k=>by
  have a:=ZA l k
  grind [eA]
theorem ZB:∀(l k:List Rose) (b:Nat),eQ b (l++k)=eQ b l++eQ (b+eA l) k
 |[],k,b=>by simp[eQ,eA]
 |t::l,k,b=>by
  rw[gV]
  simp only[eQ,eA,ZB l k,gV]
  rw[hQ]
theorem YU:∀(l k:List Rose) (b:Nat),nA b (l++k)=nA b l++nA (b+eA l) k
 |[],k,b=>by simp[nA,eA]
 |t::l,k,b=>by
  rw[gV]
  simp only[nA,eA,YU l k,jW]
  rw[hQ]
theorem XI:∀l:List Rose,l.length<=eA l
 |[]=>jQ _
 |t::l=>by
  have:=XI l
  have:=t.pos
  grind [eA]
def vG:List Ex->Nat->List Int->Option (List Int)
 |[],_,st=>some st
 |x::l,i,st=>if x.2.2.2.2.length<=st.length/\st.drop (st.length-x.2.2.2.2.length)=x.2.2.2.2 then vG l (i+1) (st.take (st.length-x.2.2.2.2.length)++[(i:Int)]) else none
theorem Zm{fs:List Rose}{h:Hd}{args:List Int}{m:Nat}(f:args.length<=fs.length)(n:fs.length-args.length=m)(g:(eQ 0 fs).drop m=args):
  eA (fs.take m++[Rose.mk h (fs.drop m)])=eA fs+1/\eQ 0 (fs.take m++[Rose.mk h (fs.drop m)])=(eQ 0 fs).take m++[((eA fs:Nat):Int)]/\nA 0 (fs.take m++[Rose.mk h (fs.drop m)])=nA 0 fs++[mE h args]:=by
 have d:fs=fs.take m++fs.drop m:=(gW m fs).symm
 have a:(fs.take m).length=m:=by grind
 have o:eQ 0 fs=eQ 0 (fs.take m)++eQ (eA (fs.take m)) (fs.drop m):=by
  grind [ZB]
 have l:nA 0 fs=nA 0 (fs.take m)++nA (eA (fs.take m)) (fs.drop m):=by
  grind [YU]
 have b:eA fs=eA (fs.take m)+eA (fs.drop m):=by
  grind [ZA]
 have e:(eQ 0 (fs.take m)).length=m:=by rw[wJ,a]
 have k:args=eQ (eA (fs.take m)) (fs.drop m):=by
  grind
 have c:(eQ 0 fs).take m=eQ 0 (fs.take m):=by
  grind
 rw[c]
 refine⟨?_,?_,?_⟩
 .grind [ZA,eA,Rose.size]
 .rw[ZB,gN]
  simp only[eQ,Rose.size]
  rw[b,show eA (fs.take m)+(eA (fs.drop m)+1)-1=eA (fs.take m)+eA (fs.drop m) by omega]
 grind [YU,nA,Rose.flat]
theorem qCh(x:Ex)(l:List Ex)(i:Nat)(st a:List Int)(h:x.2.2.2.2=a):vG (x::l) i st=if a.length<=st.length/\st.drop (st.length-a.length)=a then vG l (i+1) (st.take (st.length-a.length)++[(i:Int)]) else none:=by
 subst h;rfl
def AtT(l:List Ex)(b:Nat)(t:Rose):Prop:=∃p q,l=p++t.flat b++q/\p.length=b
def AtTs(l:List Ex)(b:Nat)(ts:List Rose):Prop:=∃p q,l=p++nA b ts++q/\p.length=b
theorem AtT.whole(t:Rose):AtT (t.flat 0) 0 t:=⟨[],[],by simp,rfl⟩
theorem AtT.args{l:List Ex}{b:Nat}{h:Hd}{ks:List Rose}(g:AtT l b (.mk h ks)):l[b+eA ks]? =some (mE h (eQ b ks))/\AtTs l b ks:=by
 obtain⟨p,q,rfl,rfl⟩:=g
 unfold Rose.flat
 constructor
 .rw[jW,List.getElem?_append_right aa,jW,List.getElem?_append_right (by rw[TC];omega),TC]
  grind
 exact⟨p,[mE h (eQ p.length ks)]++q,by grind,rfl⟩
theorem AtTs.head{l:List Ex}{b:Nat}{t:Rose}{ts:List Rose}(g:AtTs l b (t::ts)):AtT l b t/\AtTs l (b+t.size) ts:=by
 obtain⟨p,q,rfl,rfl⟩:=g
 unfold nA
 exact⟨⟨p,nA (p.length+t.size) ts++q,by grind,rfl⟩,⟨p++t.flat p.length,q,by grind,by grind [nT]⟩⟩
theorem AtT.le{l:List Ex}{b:Nat}{t:Rose}(g:AtT l b t):b+t.size<=l.length:=by
 obtain⟨p,q,rfl,rfl⟩:=g
 grind [nT]
def mD(s:BA):Bool:=lC s&& !yZ s
def eP:BA:=⟨#[]⟩
theorem qIv(a b:Bool):(if a then some b else some false:Option Bool)=some (a&&b):=by cases a<;>rfl
theorem eqE(s:BA):(s.toList==(⟨#[]⟩:BA).toList)=decide (s=eP):=nY _ _
def uJ(x:Ex):Int:=(x.2.2.2.2.length:Int)
def rP(np:Int)(x:Ex):Bool:=
 if x.1=1 then decide (x.2.2.2.1=eP)&&(x.2.2.1==0&&(uJ x==0&&(decide (x.2.1>=-9007199254740992)&&decide (x.2.1<=9007199254740992))))
 else if x.1=2 then decide (x.2.2.2.1=eP)&&(x.2.2.1==0&&(uJ x==0&&(decide (x.2.1>=0)&&decide (x.2.1<np))))
 else if x.1=3 then x.2.1==0&&(x.2.2.1==0&&mD x.2.2.2.1)
 else if x.1=4 then x.2.1==0&&(decide (x.2.2.2.1=eP)&&(uJ x==2&&(decide (x.2.2.1>=1)&&decide (x.2.2.1<=7))))
 else if x.1=5 then x.2.1==0&&(decide (x.2.2.2.1=eP)&&(x.2.2.1==0&&uJ x==3))
 else if x.1=6 then x.2.1==0&&(x.2.2.1==0&&(uJ x==1&&eU x.2.2.2.1.data.toList))
 else if x.1=7\/x.1=8 then x.2.1==0&&(x.2.2.1==0&&(uJ x==0&&eU x.2.2.2.1.data.toList))
 else if x.1=9 then x.2.1==0&&(x.2.2.1==0&&(uJ x==0&&lC x.2.2.2.1))
 else if x.1=10 then decide (x.2.2.2.1=eP)&&(x.2.2.1==0&&(uJ x==0&&(decide (x.2.1>=0)&&decide (x.2.1<64))))
 else false
def StOk(st:List Int):Nat->List Rose->Prop
 |_,[]=>True
 |b,t::l=>st[b+t.size-1]? =some (b:Int)/\StOk st (b+t.size) l
theorem StOk.app{st:List Int}:∀{l k:List Rose} {b:Nat},StOk st b (l++k)↔StOk st b l/\StOk st (b+eA l) k
 |[],k,b=>by simp[StOk,eA]
 |t::l,k,b=>by
  rw[gV]
  simp only[StOk,eA,StOk.app (l:=l)]
  rw[and_assoc,hQ]
theorem StOk.set{st:List Int}{i:Nat}{v:Int}:∀{l:List Rose} {b:Nat},StOk st b l->b+eA l<=i->StOk (st.set i v) b l
 |[],_,_,_=>trivial
 |t::l,b,h,hi=>by
  have a:=t.pos
  simp only[eA] at hi
  exact⟨by rw[List.getElem?_set_ne aa];exact h.1,h.2.set aa⟩
theorem vA{α:Type}{l:List α}{i:Nat}{v:α}(h:l[i]? =some v):aO l (i:Int)=some v:=by
 have hi:i<l.length:=by
  by_cases hl:i<l.length
  .exact hl
  rw[List.getElem?_eq_none aa] at h;cases h
 rw[cD hi]
 rw[List.getElem?_eq_getElem hi] at h
 exact h
def oneP:Option (List Int)->Bool
 |some [_]=>true
 |_=>false
def VH(d:Dl):Bool:=d.2.2.2.all (rP (d.2.2.1.length:Int))&&oneP (vG d.2.2.2 0 [])
def OK(d:Dl):Bool:=if d.1=1\/d.1=2 then mD d.2.1 else if d.1=3 then eU d.2.1.data.toList else false
def Ci(d:Dl):Bool:=d.2.2.1.all λs=>d.1==1&&mD s
def yA(d:Dl):Bool:=OK d&&(Ci d&&VH d)
def SmD(d:Dl):Prop:=d.2.1.size<=1048576/\d.2.2.1.length<2000000/\d.2.2.2.length<2000000/\∀x∈d.2.2.2,x.2.2.2.1.size<=1048576/\x.2.2.2.2.length<2000000
def SmSr(f:Sr):Prop:=f.2.1.length<2000000/\f.2.2.length<2000000/\∀d∈f.2.2,SmD d
def Cn(f:Sr):Bool:=mD f.1&&(f.2.1.all mD&&f.2.2.all yA)
def AY{α:Type}[DecidableEq α]:List α->List α->Bool
 |_,[]=>false
 |seen,x::l=>decide (x∈seen)||AY (seen++[x]) l
def vF{α:Type}[DecidableEq α](l:List α):Bool:=AY [] l
abbrev Nm2:=Int×BA
instance decMemN(s:Nm2)(l:List Nm2):Decidable (s∈l):=@List.instDecidableMemOfLawfulBEq Nm2 instBEqOfDecidableEq inferInstance s l
def yT(d:Dl):Nm2:=(d.1,d.2.1)
def UM(f:Sr):Bool:=f.2.2.any (λd=>vF d.2.2.1)||(decide (f.1∈f.2.1)||(vF f.2.1||vF (f.2.2.map yT)))
def HQ:List Ex->List Rose->List Rose
 |[],fs=>fs
 |x::l,fs=>HQ l (fs.take (fs.length-x.2.2.2.2.length)++[Rose.mk (x.1,x.2.1,x.2.2.1,x.2.2.2.1) (fs.drop (fs.length-x.2.2.2.2.length))])
def OG(l:List Ex):Option Rose:=match HQ l [] with
 |[t]=>some t
 |_=>none
theorem Mk:∀(l:List Ex) (fs:List Rose) {st:List Int},vG l (eA fs) (eQ 0 fs)=some st->nA 0 (HQ l fs)=nA 0 fs++l/\st=eQ 0 (HQ l fs)
 |[],fs,st,h=>⟨by simp[HQ],(jX h).symm⟩
 |x::l,fs,st,h=>by
  rw[qCh x _ _ _ x.2.2.2.2 rfl] at h
  split at h
  .rename_i hc
   obtain⟨a,b⟩:=hc
   rw[wJ] at a b h
   obtain⟨c,d,e⟩:=Zm (h:=(x.1,x.2.1,x.2.2.1,x.2.2.2.1)) a rfl b
   rw[<-c,<-d] at h
   obtain⟨f,g⟩:=Mk l _ h
   exact⟨by rw[HQ,f,e,jW];rfl,g⟩
  cases h
theorem Aj{l:List Ex}(h:oneP (vG l 0 [])=true):∃t,OG l=some t/\l=t.flat 0:=by
 cases a:vG l 0 [] with
 |none=>rw[a] at h;cases h
 |some st=>
  rw[a] at h
  obtain⟨b,c⟩:=Mk l [] a
  have d:st.length=1:=by
   match st,h with
   |[x],_=>rfl
  grind [wJ,List.length_eq_one_iff,OG,nA]
mutual
def Rose.deepen(d:Nat):Rose->Nat
 | .mk h ks=>max d (sT (if h.1=4 then d else d+1) ks)
def sT(d:Nat):List Rose->Nat
 |[]=>0
 |t::l=>max (t.deepen d) (sT d l)
end
def UL(dp:List Int)(a:List Int)(v:Int):List Int:=a.foldl (λdp a=>dp.set a.toNat v) dp
theorem Jv{j:Nat}{v:Int}:∀(ks:List Rose) (b:Nat) (dp:List Int),j<b->(UL dp (eQ b ks) v)[j]? =dp[j]?
 |[],_,_,_=>rfl
 |t::l,b,dp,h=>by
  have a:=t.pos
  show(UL (dp.set (((b+t.size-1:Nat):Int)).toNat v) (eQ (b+t.size) l) v)[j]? =_
  rw[Jv l (b+t.size) _ aa,jT,List.getElem?_set_ne aa]
def DpOk(dp:List Int):Nat->List (Rose×Nat)->Prop
 |_,[]=>True
 |b,p::l=>(∃v:Int,dp[b+p.1.size-1]? =some v/\(v=(p.2:Int)\/v=0/\p.2=1))/\DpOk dp (b+p.1.size) l
theorem DpOk.app{dp:List Int}:∀{l k:List (Rose×Nat)} {b:Nat},DpOk dp b (l++k)↔DpOk dp b l/\DpOk dp (b+eA (l.map (·.1))) k
 |[],k,b=>by simp[DpOk,eA]
 |t::l,k,b=>by
  rw[gV]
  simp only[DpOk,kO,eA,DpOk.app (l:=l)]
  rw[and_assoc,hQ]
theorem DpOk.congr{dp dp':List Int}:∀{l:List (Rose×Nat)} {b:Nat},DpOk dp b l->(∀j,j<b+eA (l.map (·.1))->dp'[j]? =dp[j]?)->DpOk dp' b l
 |[],_,_,_=>trivial
 |t::l,b,h,a=>by
  have e:=t.1.pos
  simp only[kO,eA] at a
  refine⟨?_,h.2.congr λj h=>a j aa⟩
  obtain⟨v,c,d⟩:=h.1
  grind
theorem DpOk.kids{d:Nat}:∀{ks:List Rose} {b:Nat} {dp:List Int},b+eA ks<=dp.length->DpOk (UL dp (eQ b ks) (d:Int)) b (ks.map λt=>(t,d))
 |[],_,_,_=>trivial
 |t::l,b,dp,h=>by
  have a:=t.pos
  simp only[eA] at h
  show DpOk (UL (dp.set (((b+t.size-1:Nat):Int)).toNat d) (eQ (b+t.size) l) d) b ((t,d)::l.map λt=>(t,d))
  refine⟨⟨d,?_,.inl rfl⟩,DpOk.kids (by rw[List.length_set];omega)⟩
  rw[Jv l (b+t.size) _ (by show b+t.size-1<b+t.size;omega),jT,List.getElem?_set_self aa]
def UW(l:List Ex):Bool:=match OG l with
 |some t=>decide (32<t.deepen 1)
 |none=>false
def HR(d:Dl):Bool:=decide (8<d.2.2.1.length)||(decide (256<d.2.2.2.length)||UW d.2.2.2)
def VI(f:Sr):Bool:=decide (8<f.2.1.length)||(decide (64<f.2.2.length)||f.2.2.any HR)
def NJ(f:Sr):Int:=if Cn f then if UM f then 10 else if VI f then 2 else 0 else 9
end
end Go.Proofs.YtgboehjfofcogaaGreatDoor
namespace Go.Dc
section
def vM(n:Int):BA:=⟨(Lib.itoa n).toArray⟩
end
end Go.Dc
namespace Go.Proofs.YtgboehjfofcogaaGreatDoor
section
open Go Go.Dc Go.Proofs
def nW(h:Hd):Int:=if h.1=5 then 0 else if h.1=4 then(if h.2.2.1=6\/h.2.2.1=7 then 1 else if h.2.2.1=1\/h.2.2.1=2 then 2 else 3) else 4
def oF(h:Hd)(k:Nat):Int:=if h.1=4 then(if k=0 then(if nW h=1 then 2 else nW h) else nW h+1) else 0
def qIi:List (Int×BA):=[(1,⟨#[43]⟩),(2,⟨#[45]⟩),(3,⟨#[42]⟩),(4,⟨#[47]⟩),(5,⟨#[37]⟩),(6,⟨#[60]⟩),(7,⟨#[61,61]⟩)]
def OI(op:Int):BA:=(rR (some qIi) op).getD ⟨#[]⟩
def qIu:List (Int×BA):=[(7,⟨#[115,105,122,101]⟩),(8,⟨#[104,97,115]⟩),(9,⟨#[101,110,118]⟩)]
def Ch(k:Int):BA:=(rR (some qIu) k).getD ⟨#[]⟩
def tI:List UInt8:=[105,102,32]
def tThen:List UInt8:=[32,116,104,101,110,32]
def tElse:List UInt8:=[32,101,108,115,101,32]
def tG(k:Nat):List UInt8:=if k=0 then[] else[44,32]
def uC:Nat->List (List UInt8)->List UInt8
 |_,[]=>[]
 |k,w::ws=>tG k++(w++uC (k+1) ws)
def qN(ps:List BA)(h:Hd)(ws:List (List UInt8)):List UInt8:=
 if h.1=1 then(vM h.2.1).data.toList
 else if h.1=2 then(ps.getD h.2.1.toNat ⟨#[]⟩).data.toList
 else if h.1=4 then ws.getD 0 []++((((⟨#[32]⟩:BA)++OI h.2.2.1)++(⟨#[32]⟩:BA)).data.toList++ws.getD 1 [])
 else if h.1=5 then tI++(ws.getD 0 []++(tThen++(ws.getD 1 []++(tElse++ws.getD 2 []))))
 else if h.1=3 then(h.2.2.2++(⟨#[40]⟩:BA)).data.toList++(uC 0 ws++[41])
 else if h.1=6 then(((⟨#[114,101,97,100,40,34]⟩:BA)++h.2.2.2)++(⟨#[34,44,32]⟩:BA)).data.toList++(ws.getD 0 []++[41])
 else if h.1=10 then(((⟨#[102,108,105,112,40]⟩:BA)++vM h.2.1)++(⟨#[41]⟩:BA)).data.toList
 else(((Ch h.1++(⟨#[40,34]⟩:BA))++h.2.2.2)++(⟨#[34,41]⟩:BA)).data.toList
mutual
def Rose.wr(ps:List BA)(need:Int):Rose->List UInt8
 | .mk h ks=>if nW h<need then 40::(qN ps h (pB ps h 0 ks)++[41]) else qN ps h (pB ps h 0 ks)
def pB(ps:List BA)(h:Hd)(k:Nat):List Rose->List (List UInt8)
 |[]=>[]
 |t::l=>t.wr ps (oF h k)::pB ps h (k+1) l
end
mutual
def Rose.dep(need:Int)(d:Nat):Rose->Nat
 | .mk h ks=>max (if nW h<need then d+1 else d) (Sf h 0 (if h.1=4 then(if nW h<need then d+1 else d) else(if nW h<need then d+1 else d)+1) ks)
def Sf(h:Hd)(k d:Nat):List Rose->Nat
 |[]=>0
 |t::l=>max (t.dep (oF h k) d) (Sf h (k+1) d l)
end
theorem catW{x y:BA}(h:x.size+y.size<=1000000000):bW x y=some (x++y):=by
 unfold bW
 rw[jB (kM h ac)]
theorem mX(x:BA):x.data.toList.length=x.size:=by simp
theorem qIn(m d:Nat):(if(d:Int)>(m:Int) then(d:Int) else(m:Int))=((max m d:Nat):Int):=by
 split<;>omega
section
variable (N:Nat) (l:List Ex) (ps:List BA)
variable {N l ps}
theorem Jh{np:Int}{x:Ex}(h:rP np x=true):
  (x.1=1/\x.2.2.2.2.length=0/\-9007199254740992<=x.2.1/\x.2.1<=9007199254740992/\x.2.2.1=0/\x.2.2.2.1=eP)\/(x.1=2/\x.2.2.2.2.length=0/\0<=x.2.1/\x.2.1<np/\x.2.2.1=0/\x.2.2.2.1=eP)\/(x.1=3/\mD x.2.2.2.1=true/\x.2.1=0/\x.2.2.1=0)\/(x.1=4/\x.2.2.2.2.length=2/\1<=x.2.2.1/\x.2.2.1<=7/\x.2.1=0/\x.2.2.2.1=eP)\/
  (x.1=5/\x.2.2.2.2.length=3/\x.2.1=0/\x.2.2.1=0/\x.2.2.2.1=eP)\/(x.1=6/\x.2.2.2.2.length=1/\eU x.2.2.2.1.data.toList=true/\x.2.1=0/\x.2.2.1=0)\/((x.1=7\/x.1=8)/\x.2.2.2.2.length=0/\eU x.2.2.2.1.data.toList=true/\x.2.1=0/\x.2.2.1=0)\/(x.1=9/\x.2.2.2.2.length=0/\lC x.2.2.2.1=true/\x.2.1=0/\x.2.2.1=0)\/
  (x.1=10/\x.2.2.2.2.length=0/\0<=x.2.1/\x.2.1<64/\x.2.2.1=0/\x.2.2.2.1=eP):=by
 unfold rP uJ at h
 by_cases h1:x.1=1
 .grind
 rw[jA h1] at h
 by_cases h2:x.1=2
 .grind
 rw[jA h2] at h
 by_cases h3:x.1=3
 .grind
 rw[jA h3] at h
 by_cases h4:x.1=4
 .grind
 rw[jA h4] at h
 by_cases h5:x.1=5
 .grind
 rw[jA h5] at h
 by_cases h6:x.1=6
 .grind
 grind
end
section
variable {N:Nat} {l:List Ex} {ps:List BA}
theorem len0{b:Nat}{ks:List Rose}(h:(eQ b ks).length=0):ks=[]:=by
 rw[wJ] at h
 exact gA.1 h
theorem len1{b:Nat}{ks:List Rose}(h:(eQ b ks).length=1):∃t,ks=[t]:=by
 rw[wJ] at h
 exact List.length_eq_one_iff.1 h
theorem len2{b:Nat}{ks:List Rose}(h:(eQ b ks).length=2):∃t u,ks=[t,u]:=by
 rw[wJ] at h
 match ks,h with
 |[t,u],_=>exact⟨t,u,rfl⟩
theorem len3{b:Nat}{ks:List Rose}(h:(eQ b ks).length=3):∃t u v,ks=[t,u,v]:=by
 rw[wJ] at h
 match ks,h with
 |[t,u,v],_=>exact⟨t,u,v,rfl⟩
end
end
section
open Go Go.Dc
abbrev Ct:=Int×List UInt8
abbrev VQ:=Int×BA×Int
def qKo(c:Ct):VQ:=(c.1,if c.1=2 then⟨#[]⟩ else⟨⟨c.2⟩⟩,if c.1=2 then BI c.2 else 0)
def qKu(t:cO):VQ:=(t.1,t.2.1,t.2.2.1)
abbrev Pc:=Ct×List UInt8
end
section
open Go Go.Dc Go.Proofs
theorem Mw{n:Nat}(h:¬n<10):Lib.decDigits n=Lib.decDigits (n/10)++[UInt8.ofNat (48+n%10)]:=by rw[Lib.decDigits,dif_neg h]
theorem HF:∀(k n:Nat),n<10^(k+1)->(Lib.decDigits n).length<=k+1
 |0,n,h=>by rw[Lib.decDigits_one (by simpa using h)];exact jH _
 |k+1,n,h=>by
  by_cases h10:n<10
  .rw[Lib.decDigits_one h10];simp
  rw[Nat.pow_succ] at h
  have:=HF k (n/10) aa
  rw[Mw h10,jP,List.length_singleton];omega
theorem GR(n:Nat):(vM (n:Int)).data.toList=Lib.decDigits n:=by
 unfold vM Lib.itoa
 rw[jA aa,jT]
theorem tU{x y:BA}(h:x.data.toList=y.data.toList):x=y:=ByteArray.ext (Array.ext' h)
theorem yC(x y:BA):(x++y).data.toList=x.data.toList++y.data.toList:=by
 rw[ByteArray.data_append,Array.toList_append]
theorem qIa:∀i:Fin 10,((⟨#[48,49,50,51,52,53,54,55,56,57]⟩:BA).extract i.val (i.val+1)).data.toList=[UInt8.ofNat (48+i.val)]:=by decide+kernel
theorem TJ{s:BA}(h:lC s=true):s.size<=24:=by
 have:=(gO h).2.1
 simp_all
theorem GP{s:BA}(h:eU s.data.toList=true):s.size<=80:=by
 have:s.data.toList.length<=80:=(gO h).1
 simp_all
theorem tN{s:BA}(h:mD s=true):s.size<=24:=by
 grind [mD,TJ]
theorem Kt{op:Int}(a:1<=op)(b:op<=7):(OI op).size<=2:=by
 rcases(by omega:op=1\/op=2\/op=3\/op=4\/op=5\/op=6\/op=7) with rfl|rfl|rfl|rfl|rfl|rfl|rfl<;>decide+kernel
theorem Lh{k:Int}(h:k=7\/k=8\/k=9):(Ch k).size<=4:=by
 rcases h with rfl|rfl|rfl<;>decide+kernel
theorem UF{n:Int}(a: -9007199254740992<=n)(b:n<=9007199254740992):(vM n).size<=17:=by
 rw[<-mX]
 show(Lib.itoa n).length<=17
 unfold Lib.itoa
 split
 .have:=HF 15 n.natAbs aa
  grind
 have:=HF 15 n.toNat aa
 omega
def xH(ws:List (List UInt8)):Nat:=(ws.map λw=>w.length+2).sum
theorem YY:∀(ws:List (List UInt8)) (k:Nat),(uC k ws).length<=xH ws
 |[],_=>jQ _
 |w::ws,k=>by
  have a:=YY ws (k+1)
  grind [tG,xH,uC]
theorem qDz{ps:List BA}{h:Hd}{ks:List Rose}{b:Nat}(z:∀s∈ps,s.size<=24)(x:rP (ps.length:Int) (mE h (eQ b ks))=true):(qN ps h (pB ps h 0 ks)).length<=100+xH (pB ps h 0 ks):=by
 rcases Jh x with ⟨k,a,c,n1,-,-⟩|⟨k,a,c,n1,-,-⟩|⟨k,a,-,-⟩|⟨k,a,c,n1,-,-⟩|⟨k,a,-,-,-⟩|⟨k,a,c,-,-⟩|⟨k,a,c,-,-⟩|⟨k,a,c,-,-⟩|⟨k,a,c,n1,-,-⟩
 all_goals (try simp only[mE] at k)<;>(try simp only[mE] at a)
 .have:(vM h.2.1).size<=17:=UF c n1
  grind [qN,mX]
 .grind [qN,mX]
 .have f:h.1≠1:=by omega
  have g:h.1≠2:=by omega
  have l:h.1≠4:=by omega
  have r:h.1≠5:=by omega
  have d:=tN a
  have p:=YY (pB ps h 0 ks) 0
  have e:(⟨#[40]⟩:BA).size=1:=rfl
  grind [qN,mX]
 .obtain⟨t,u,rfl⟩:=len2 a
  have f:h.1≠1:=by omega
  have g:h.1≠2:=by omega
  have d:=Kt c n1
  have e:(⟨#[32]⟩:BA).size=1:=rfl
  grind [mE,qN,pB,xH,mX]
 .obtain⟨t,u,v,rfl⟩:=len3 a
  have f:h.1≠1:=by omega
  have g:h.1≠2:=by omega
  have l:h.1≠4:=by omega
  have o:tI.length=3:=rfl
  have q:tThen.length=6:=rfl
  have y:tElse.length=6:=rfl
  grind [qN,pB,xH]
 .obtain⟨t,rfl⟩:=len1 a
  have f:h.1≠1:=by omega
  have g:h.1≠2:=by omega
  have l:h.1≠4:=by omega
  have r:h.1≠5:=by omega
  have y:h.1≠3:=by omega
  have d:=GP c
  have e:(⟨#[114,101,97,100,40,34]⟩:BA).size=6:=rfl
  have o:(⟨#[34,44,32]⟩:BA).size=3:=rfl
  grind [mE,qN,pB,xH,mX]
 all_goals obtain rfl:=len0 a
 all_goals have f:h.1≠1:=by omega
 all_goals have g:h.1≠2:=by omega
 all_goals have l:h.1≠4:=by omega
 all_goals have r:h.1≠5:=by omega
 all_goals have y:h.1≠3:=by omega
 all_goals have A:h.1≠6:=by omega
 .have q:h.1≠10:=by omega
  have d:=GP c
  have p:=Lh (k:=h.1) aa
  have e:(⟨#[40,34]⟩:BA).size=2:=rfl
  have o:(⟨#[34,41]⟩:BA).size=2:=rfl
  grind [mE,qN,mX]
 .have q:h.1≠10:=by omega
  have d:=TJ c
  have p:=Lh (k:=h.1) aa
  have e:(⟨#[40,34]⟩:BA).size=2:=rfl
  have o:(⟨#[34,41]⟩:BA).size=2:=rfl
  grind [mE,qN,mX]
 try simp only[mE] at c n1
 have d:=UF (n:=h.2.1) aa aa
 have e:(⟨#[102,108,105,112,40]⟩:BA).size=5:=rfl
 have o:(⟨#[41]⟩:BA).size=1:=rfl
 grind [qN,mX]
mutual
theorem Bl{ps:List BA}(a:∀s∈ps,s.size<=24)(t:Rose)(b:Nat)(need:Int)(c:∀x∈t.flat b,rP (ps.length:Int) x=true):(t.wr ps need).length+2<=110*t.size:=by
 match t with
 | .mk h ks=>
  have d:=Pl a ks h 0 b (λx e=>c x (by grind [Rose.flat]))
  grind [qDz,Rose.flat,Rose.wr,Rose.size]
theorem Pl{ps:List BA}(a:∀s∈ps,s.size<=24)(l:List Rose)(h:Hd)(k b:Nat)(c:∀x∈nA b l,rP (ps.length:Int) x=true):xH (pB ps h k l)<=110*eA l:=by
 match l with
 |[]=>exact jQ _
 |t::l=>
  have e:=Bl a t b (oF h k) (λx d=>c x (by grind [nA]))
  have f:=Pl a l h (k+1) (b+t.size) (λx d=>c x (by grind [nA]))
  grind [pB,xH,eA]
end
def JC(d:Dl):List UInt8:=match OG d.2.2.2 with
 |some t=>t.wr d.2.2.1 0
 |none=>[]
structure GoodD(d:Dl):Prop where
 head:OK d=true
 pars:∀s∈d.2.2.1,d.1=1/\mD s=true
 nodes:∀x∈d.2.2.2,rP (d.2.2.1.length:Int) x=true
 tree:oneP (vG d.2.2.2 0 [])=true
theorem Lo{d:Dl}(h:yA d=true):GoodD d:=by
 unfold yA Ci VH at h
 simp only[jU,jL,gP] at h
 exact⟨h.1,h.2.1,h.2.2.1,h.2.2.2⟩
def VE(l:List BA):BA:=⟨⟨uC 0 (l.map λs=>s.data.toList)⟩⟩
def OL(d:Dl):BA:=
 if d.1=1 then((((⟨#[102,117,110,99,32]⟩:BA)++d.2.1)++(⟨#[40]⟩:BA))++VE d.2.2.1)++(⟨#[41]⟩:BA)
 else if d.1=2 then(⟨#[116,101,115,116,32]⟩:BA)++d.2.1
 else((⟨#[103,101,110,32,34]⟩:BA)++d.2.1)++(⟨#[34]⟩:BA)
def VD(d:Dl):List UInt8:=(OL d).data.toList++(((⟨#[32,61,32]⟩:BA)++dP (JC d))++(⟨#[59,10]⟩:BA)).data.toList
def HX(s:BA):List UInt8:=(((⟨#[112,97,99,107,97,103,101,32]⟩:BA)++s)++(⟨#[59,10]⟩:BA)).data.toList
def yV(s:BA):List UInt8:=(((⟨#[105,109,112,111,114,116,32]⟩:BA)++s)++(⟨#[59,10]⟩:BA)).data.toList
theorem Ho{α:Type}(g:α->List UInt8):∀(l:List α) (t:List UInt8),l.foldl (λt x=>t++g x) t=t++l.flatMap g
 |[],t=>by simp
 |x::l,t=>by rw[kI,Ho g l,kU,jW]
structure GoodS(f:Sr):Prop where
 pkg:mD f.1=true
 imps:∀s∈f.2.1,mD s=true
 impn:f.2.1.length<=8
 decn:f.2.2.length<=64
 decs:∀d∈f.2.2,GoodD d/\d.2.2.1.length<=8/\d.2.2.2.length<=256/\UW d.2.2.2=false
 once:UM f=false
theorem qEf{f:Sr}(h:NJ f=0):GoodS f:=by
 unfold NJ at h
 split at h
 .rename_i hs
  split at h
  .cases h
  rename_i ht
  split at h
  .cases h
  rename_i a
  have a:VI f=false:=by simpa using a
  unfold Cn at hs
  unfold VI at a
  simp only[jU,jL] at hs
  simp only[Bool.or_eq_false_iff,decide_eq_false_iff_not,List.any_eq_false] at a
  refine⟨hs.1,hs.2.1,by omega,by omega,λd b=> ?_,by simpa using ht⟩
  grind [HR,Lo]
 cases h
theorem qFz{l:List BA}(h:∀s∈l,s.size<=24):(VE l).size<=26*l.length:=by
 have a:=YY (l.map λs=>s.data.toList) 0
 have b:xH (l.map λs=>s.data.toList)<=26*l.length:=by
  clear a
  induction l with
  |nil=>exact jQ _
  |cons s l c=>
   grind [xH,mX]
 have c:(VE l).size=(uC 0 (l.map λs=>s.data.toList)).length:=by rw[<-mX];rfl
 omega
theorem Mv{d:Dl}(h:GoodD d):d.2.1.size<=80:=by
 have:=h.head
 grind [OK,tN,GP]
theorem Lq{d:Dl}(h:GoodD d)(e:d.2.2.1.length<=8):(OL d).size<=400:=by
 have b:=Mv h
 have c:=qFz (l:=d.2.2.1) λs a=>tN (h.pars s a).2
 have f:(⟨#[102,117,110,99,32]⟩:BA).size=5:=rfl
 have g:(⟨#[40]⟩:BA).size=1:=rfl
 have k:(⟨#[41]⟩:BA).size=1:=rfl
 have n:(⟨#[116,101,115,116,32]⟩:BA).size=5:=rfl
 have o:(⟨#[103,101,110,32,34]⟩:BA).size=5:=rfl
 have p:(⟨#[34]⟩:BA).size=1:=rfl
 grind [OL]
theorem wF(l:List UInt8):(dP l).data.toList=l:=rfl
theorem nD(l:List UInt8):(dP l).size=l.length:=by rw[<-mX,wF]
variable {ts:List cO} {params:List BA} {E S:Ps->PM Nat} {B:Nat}
def BE(B:Nat)(l:List Ex):Prop:=∀x∈l,x.2.2.2.2.length<=B
def zC(B:Nat)(E:Ps->PM Nat):Prop:=∀(p q:Ps) (x:Nat),BE B p.2->E p= .inr (q,x)->BE B q.2
theorem CU{t:cO}{x:Ex}{p q:Ps}{i:Nat}(b:BE B p.2)(c:x.2.2.2.2.length<=B)(h:nO t x p= .inr (q,i)):BE B q.2:=by
 obtain⟨rfl,-,-⟩:=Ns h
 intro y a
 rcases kJ.1 a with a|a
 .exact b y a
 grind
theorem Ql(d:zC B E):∀(n:Nat) (l:List Int) (p q:Ps) (x:List Int),BE B p.2->wT ts E n l p= .inr (q,x)->BE B q.2/\x.length<=l.length+n
 |0,_,_,_,_,_,b=>by cases b
 |n+1,l,p,q,x,g,b=>by
  obtain⟨a,f,c⟩:=dF (show bZ (E p) _=_ from b)
  have e:=d p a.1 a.2 g f
  split at c
  .obtain⟨o,r⟩:=Ql d n _ (a.1.1+1,a.1.2) q x e c
   grind
  obtain⟨j,k,h⟩:=dF c
  grind
theorem Zg(c:zC B E){p q:Ps}{x:List Int}(d:BE B p.2)(b:GE ts E p= .inr (q,x)):BE B q.2/\x.length<=ts.length+1:=by
 obtain⟨i,hi,a⟩:=dF b
 split at a
 .grind
 obtain⟨e,f⟩:=Ql c _ _ (i,p.2) q x d a
 grind
theorem qDs(z:3<=B)(s:zC B E){t:cO}{p q:Ps}{x:Nat}(u:BE B p.2)(l:wK ts E t p= .inr (q,x)):BE B q.2:=by
 obtain⟨i,hi,n⟩:=dF l
 obtain⟨a,f,o⟩:=dF n
 obtain⟨j,A,r⟩:=dF o
 have key:BE B a.1.2/\a.2.2.2.2.2.length<=B:=by
  split at f
  .obtain⟨b,g,e⟩:=dF f
   obtain⟨c,v,h⟩:=dF e
   obtain⟨d,k,y⟩:=dF h
   have:=s (c,p.2) d.1 d.2 u k
   grind
  split at f
  .obtain⟨b,g,e⟩:=dF f
   grind
  split at f
  .obtain⟨b,g,e⟩:=dF f
   grind
  split at f
  .obtain⟨b,g,e⟩:=dF f
   grind
  obtain⟨b,g,e⟩:=dF f
  split at e
  .cases e
  grind
 exact CU (p:=(j,a.1.2)) key.1 key.2 r
theorem qEp(h:ts.length+3<=B)(f:zC B E):zC B (sU ts params E):=by
 intro p q x c b
 unfold sU at b
 dsimp only at b
 split at b
 .exact CU (p:=(p.1+1,p.2)) c (jQ _) b
 split at b
 .obtain⟨a,e,d⟩:=dF b
  exact CU (p:=(a.1,p.2)) c (jQ _) d
 split at b
 .obtain⟨a,e,d⟩:=dF b
  have:=f (p.1+1,p.2) a.1 a.2 c e
  obtain⟨j,k,g⟩:=dF d
  grind
 split at b
 .cases b
 split at b
 .exact qDs aa f (p:=(p.1+1,p.2)) c b
 split at b
 .cases b
 split at b
 .obtain⟨a,e,d⟩:=dF b
  obtain⟨g,k⟩:=Zg f (p:=(p.1+1,p.2)) c e
  exact CU (p:=a.1) g (by grind) d
 split at b
 .exact CU (p:=(p.1+1,p.2)) c (jQ _) b
 cases b
theorem Qr(g:3<=B){level:Nat}(d:zC B S):∀(n x:Nat) (p q:Ps) (y:Nat),BE B p.2->pL ts level S n x p= .inr (q,y)->BE B q.2
 |0,_,_,_,_,_,b=>by cases b
 |n+1,x,p,q,y,l,b=>by
  unfold pL at b
  split at b
  .grind
  obtain⟨a,h,e⟩:=dF b
  have f:=d (p.1+1,p.2) a.1 a.2 l h
  obtain⟨r,o,c⟩:=dF e
  have k:BE B r.1.2:=by
   refine CU (p:=a.1) f ?_ o
   grind
  split at c
  .grind
  exact Qr g d n _ _ q y k c
theorem Aq(e:3<=B){level:Nat}(b:zC B S):zC B (sD ts level S):=by
 intro p q x g c
 obtain⟨a,f,d⟩:=dF c
 exact Qr e b _ _ _ q x (b p a.1 a.2 g f) d
theorem OD(e:ts.length+3<=B):∀k,zC B (iM ts params k)
 |0=>λ_ _ _ _ d=>by cases d
 |k+1=>by
  intro p q x f d
  unfold iM at d
  split at d
  .obtain⟨a,y,r⟩:=dF d
   have l:=OD e k (p.1+1,p.2) a.1 a.2 f y
   obtain⟨i,hi,s⟩:=dF r
   obtain⟨b,g,t⟩:=dF s
   have n:=OD e k (i,a.1.2) b.1 b.2 l g
   obtain⟨j,z,u⟩:=dF t
   obtain⟨c,h,v⟩:=dF u
   have o:=OD e k (j,b.1.2) c.1 c.2 n h
   refine CU (p:=c.1) o ?_ v
   grind
  exact Aq aa (Aq aa (Aq aa (qEp e (OD e k)))) p q x f d
def VP(d:Dl):Prop:=d.2.2.1.length<=8/\d.2.2.2.length<=256/\BE 20000 d.2.2.2
theorem qKh(b:OkT ts)(v:ts.length<=16385){before:List Dl}{i:Nat}{a:Nat×Dl}(hi:i<ts.length)(d:pI ts before i= .inr a):VP a.2:=by
 unfold pI at d
 dsimp only at d
 split at d
 .cases d
 rename_i k1
 split at d
 .cases d
 have g:=b.next hi (show(aV ts i).1≠5 by grind)
 obtain⟨x,h,f⟩:=dF d
 have gx:x.1<ts.length:=by
  split at h
  .obtain⟨rfl,e,-⟩:=AI b g h;exact e
  obtain⟨rfl,e,-⟩:=wL b g h;exact e
 split at f
 .cases f
 obtain⟨y,l,p⟩:=dF f
 have gy:y.1<ts.length/\y.2.length<=8:=by
  split at l
  .obtain⟨-,k,e⟩:=Fb b gx l;exact⟨k,e⟩
  grind
 obtain⟨j,t,q⟩:=dF p
 obtain⟨rfl,e,-⟩:=nZ b gy.1 t
 obtain⟨c,k,r⟩:=dF q
 obtain⟨⟨-,-,-,n⟩,-⟩:=AH b 32 (y.1+1,[]) c.1 c.2 e ad k
 have o:=OD (B:=20000) aa 32 (y.1+1,[]) c.1 c.2 (λz u=>by cases u) k
 obtain⟨m,A,s⟩:=dF r
 obtain rfl:=Sum.inr.inj s
 exact⟨gy.2,n,o⟩
theorem Nv(b:OkT ts)(c:ts.length<=16385):∀(n:Nat) (l:List Dl) (i:Nat) {r:List Dl},(∀d∈l,VP d)->i<ts.length->sZ ts n l i= .inr r->∀d∈r,VP d
 |0,_,_,_,_,_,a=>by cases a
 |n+1,l,i,r,k,hi,a=>by
  unfold sZ at a
  split at a
  .grind
  obtain⟨x,g,f⟩:=dF a
  obtain⟨-,e,-⟩:=TL b hi g
  refine Nv b c n _ _ (λd h=> ?_) e f
  grind [qKh]
def DP(f:Sr):Prop:=f.2.1.length<=8/\f.2.2.length<=64/\∀d∈f.2.2,VP d
theorem Ob{ts:List cO}(h:OkT ts):∀(n:Nat) (l:List Dl) (i:Nat) {r:List Dl},l.length<=64->i<ts.length->sZ ts n l i= .inr r->r.length<=64
 |0,_,_,_,_,_,a=>by cases a
 |n+1,l,i,r,f,hi,a=>by
  unfold sZ at a
  split at a
  .grind
  obtain⟨x,d,c⟩:=dF a
  obtain⟨-,b,e⟩:=TL h hi d
  exact Ob h n _ _ (by grind) b c
theorem ZZ:DP rQ:=⟨jQ _,jQ _,λd a=>by cases a⟩
theorem qDm(s:BA):DP (lN s).1:=by
 unfold lN
 by_cases h0:(lP s).2.2=0
 .rw[jA (not_not_intro h0)]
  obtain⟨e,g,E⟩:=MT h0
  have k:0<(lP s).1.length:=by
   cases h:(lP s).1 with
   |nil=>exact absurd h e.1
   |cons a l=>exact Nat.succ_pos _
  cases c:uZ (lP s).1 with
  |inl z=>exact ZZ
  |inr f=>
   simp only
   unfold uZ at c
   obtain⟨i,v,c⟩:=dF c
   obtain⟨rfl,r,-⟩:=TR e k v
   obtain⟨a,x,c⟩:=dF c
   obtain⟨rfl,t,-⟩:=wL e r x
   obtain⟨j,y,c⟩:=dF c
   obtain⟨rfl,u,-⟩:=nZ e t y
   obtain⟨b,A,c⟩:=dF c
   obtain⟨-,o,D⟩:=SS e _ _ _ b u ad A
   obtain⟨l,n,c⟩:=dF c
   have p:=Ob e _ _ _ ad o n
   have q:=Nv e g _ _ _ (λd B=>by cases B) o n
   cases c
   exact⟨D,p,q⟩
 grind [ZZ]
theorem qFs{P:Rose->Prop}(h:∀b ks,(∀t∈ks,P t)->P (.mk b ks))(t:Rose):P t:=by
 have key:∀(n:Nat) (t:Rose),t.size<=n->P t:=by
  intro n
  induction n with
  |zero=>intro t c;have:=t.pos;omega
  |succ n d=>
   intro t c
   match t with
   | .mk b ks=>
    refine h b ks λu e=>d u ?_
    have g:u.size<=eA ks:=by
     clear c d h
     induction ks with
     |nil=>cases e
     |cons a l f=>
      grind [eA]
    have:(Rose.mk b ks).size=eA ks+1:=rfl
    omega
 exact key t.size t (jH _)
inductive Fine(np:Nat):Rose->Prop
 |num (n:Int) (h0: -9007199254740992<=n) (h1:n<=9007199254740992):Fine np (.mk (1,n,0,eP) [])
 |par (i:Nat) (h:i<np):Fine np (.mk (2,(i:Int),0,eP) [])
 |call (s:BA) (ks:List Rose) (h:mD s=true) (hk:∀t∈ks,Fine np t):Fine np (.mk (3,0,0,s) ks)
 |bin (op:Int) (a b:Rose) (h0:1<=op) (h1:op<=7) (ha:Fine np a) (hb:Fine np b):Fine np (.mk (4,0,op,eP) [a,b])
 |ite (a b c:Rose) (ha:Fine np a) (hb:Fine np b) (hc:Fine np c):Fine np (.mk (5,0,0,eP) [a,b,c])
 |read (s:BA) (a:Rose) (h:eU s.data.toList=true) (ha:Fine np a):Fine np (.mk (6,0,0,s) [a])
 |look (k:Int) (s:BA) (hk:k=7\/k=8) (h:eU s.data.toList=true):Fine np (.mk (k,0,0,s) [])
 |env (s:BA) (h:lC s=true):Fine np (.mk (9,0,0,s) [])
 |flip (n:Nat) (h:n<64):Fine np (.mk (10,(n:Int),0,eP) [])
theorem qHn{np:Nat}(t:Rose):∀b,(∀x∈t.flat b,rP (np:Int) x=true)->Fine np t:=by
 refine qFs (P:=λt=>∀b,(∀x∈t.flat b,rP (np:Int) x=true)->Fine np t) ?_ t
 intro z ks B b y
 have A:rP (np:Int) (mE z (eQ b ks))=true:=y _ (by grind [Rose.flat])
 have q:∀t∈ks,Fine np t:=by
  have e:∀x∈nA b ks,rP (np:Int) x=true:=λx g=>y x (by grind [Rose.flat])
  clear y A
  induction ks generalizing b with
  |nil=>grind
  |cons a l h=>
   intro t f
   rcases jG.1 f with rfl|f
   .exact B t (jD ..) b λx g=>e x (by grind [nA])
   exact h (λu p=>B u (jC _ p)) (b+a.size) (λx g=>e x (by grind [nA])) t f
 obtain⟨k,n,o,s⟩:=z
 have r:(mE (k,n,o,s) (eQ b ks)).2.2.2.2.length=ks.length:=wJ ks b
 rcases Jh A with ⟨e,h,p,g,f,v⟩|⟨e,h,p,g,f,v⟩|⟨e,h,p,g⟩|⟨e,h,p,g,f,v⟩|⟨e,h,p,g,f⟩|⟨e,h,p,g,f⟩|⟨e,h,p,g,f⟩|⟨e,h,p,g,f⟩|⟨e,h,p,g,f,v⟩
 .have e:k=1:=e
  have f:o=0:=f
  have v:s=eP:=v
  rw[r] at h
  obtain rfl:=gA.1 h
  subst e f v
  exact .num n p g
 .have e:k=2:=e
  have f:o=0:=f
  have v:s=eP:=v
  have p:0<=n:=p
  have g:n<(np:Int):=g
  rw[r] at h
  obtain rfl:=gA.1 h
  subst e f v
  obtain⟨i,rfl⟩:∃i:Nat,n=(i:Int):=⟨n.toNat,by omega⟩
  exact .par i aa
 .have e:k=3:=e
  have p:n=0:=p
  have g:o=0:=g
  subst e p g
  exact .call s ks h q
 .have e:k=4:=e
  have f:n=0:=f
  have v:s=eP:=v
  rw[r] at h
  subst e f v
  match ks,h,q with
  |[a,c],_,q=>exact .bin o a c p g (q a ad) (q c ad)
 .have e:k=5:=e
  have p:n=0:=p
  have g:o=0:=g
  have f:s=eP:=f
  rw[r] at h
  subst e p g f
  match ks,h,q with
  |[a,c,d],_,q=>exact .ite a c d (q a ad) (q c ad) (q d ad)
 .have e:k=6:=e
  have g:n=0:=g
  have f:o=0:=f
  rw[r] at h
  subst e g f
  match ks,h,q with
  |[a],_,q=>exact .read s a p (q a ad)
 .have e:k=7\/k=8:=e
  have g:n=0:=g
  have f:o=0:=f
  rw[r] at h
  obtain rfl:=gA.1 h
  subst g f
  exact .look k s e p
 .have e:k=9:=e
  have g:n=0:=g
  have f:o=0:=f
  rw[r] at h
  obtain rfl:=gA.1 h
  subst e g f
  exact .env s p
 have e:k=10:=e
 have p:0<=n:=p
 have g:n<64:=g
 have f:o=0:=f
 have v:s=eP:=v
 rw[r] at h
 obtain rfl:=gA.1 h
 subst e f v
 obtain⟨i,rfl⟩:∃i:Nat,n=(i:Int):=⟨n.toNat,by omega⟩
 exact .flip i aa
abbrev Pf:=List UInt8->List Pc
def sN(l:List UInt8)(bl:List UInt8):Pc:=((4,l),bl)
def BQ(l:List UInt8)(bl:List UInt8):Pc:=((1,l),bl)
def txP(l:List UInt8)(bl:List UInt8):Pc:=((3,l),bl)
def Rs(n:Int)(bl:List UInt8):List Pc:=if n<0 then[sN [45] [],((2,Lib.decDigits n.natAbs),bl)] else[((2,Lib.decDigits n.toNat),bl)]
def Qe:Nat->List Pf->List Pc
 |_,[]=>[]
 |k,w::ws=>(if k=0 then[] else[sN [44] [32]])++(w []++Qe (k+1) ws)
def wIf:List UInt8:=[105,102]
def qKy:List UInt8:=[116,104,101,110]
def qLd:List UInt8:=[101,108,115,101]
def qLp:List UInt8:=[114,101,97,100]
def qLa:List UInt8:=[102,108,105,112]
def IV:Pf:=λ_=>[]
def Qb(ps:List BA)(h:Hd)(ws:List Pf)(bl:List UInt8):List Pc:=
 if h.1=1 then Rs h.2.1 bl
 else if h.1=2 then[BQ (ps.getD h.2.1.toNat ⟨#[]⟩).data.toList bl]
 else if h.1=4 then(ws.getD 0 IV) [32]++(sN (OI h.2.2.1).data.toList [32]::(ws.getD 1 IV) bl)
 else if h.1=5 then BQ wIf [32]::((ws.getD 0 IV) [32]++(BQ qKy [32]::((ws.getD 1 IV) [32]++(BQ qLd [32]::(ws.getD 2 IV) bl))))
 else if h.1=3 then BQ h.2.2.2.data.toList []::sN [40] []::(Qe 0 ws++[sN [41] bl])
 else if h.1=6 then BQ qLp []::sN [40] []::txP h.2.2.2.data.toList []::sN [44] [32]::((ws.getD 0 IV) []++[sN [41] bl])
 else if h.1=10 then BQ qLa []::sN [40] []::(Rs h.2.1 []++[sN [41] bl])
 else[BQ (Ch h.1).data.toList [],sN [40] [],txP h.2.2.2.data.toList [],sN [41] bl]
mutual
def Rose.pc(ps:List BA)(need:Int)(bl:List UInt8):Rose->List Pc
 | .mk h ks=>if nW h<need then sN [40] []::(Qb ps h (pcs ps h 0 ks) []++[sN [41] bl]) else Qb ps h (pcs ps h 0 ks) bl
def pcs(ps:List BA)(h:Hd)(k:Nat):List Rose->List Pf
 |[]=>[]
 |t::l=>(λbl=>t.pc ps (oF h k) bl)::pcs ps h (k+1) l
end
def Cx(l:List Pc):List VQ:=l.map λp=>qKo p.1
def Seg(ts:List cO):Nat->List VQ->Prop
 |_,[]=>True
 |i,c::cs=>qKu (aV ts i)=c/\Seg ts (i+1) cs
variable {ps:List BA} {i:Nat}
def NextOk(n:Nat)(ts:List cO)(i:Nat):Prop:=i<ts.length/\dK ts 4 qX i=false/\∀L,n<=L->1<=L->L<=3->nS ts L i=0
theorem NextOk.up{n m:Nat}(h:NextOk n ts i)(a:n<=m):NextOk m ts i:=⟨h.1,h.2.1,λL b=>h.2.2 L aa⟩
def Res{α:Type}(x:cU⊕α)(g:Prop)(v:α):Prop:=(g->x= .inr v)/\(¬g->∃z,x= .inl (z,2))
theorem Res.bind{α β:Type}{x:cU⊕α}{g g' G:Prop}{v:α}{f:α->cU⊕β}{v':β}(h:Res x g v)(c:g->Res (f v) g' v')(d:G↔g/\g'):Res (bZ x f) G v':=by
 constructor
 .intro e
  obtain⟨a,b⟩:=d.1 e
  rw[h.1 a]
  exact(c a).1 b
 intro e
 by_cases a:g
 .rw[h.1 a]
  exact(c a).2 λb=>e (d.2 ⟨a,b⟩)
 obtain⟨z,k⟩:=h.2 a
 exact⟨z,by rw[k];rfl⟩
theorem Res.pure{α:Type}{x:cU⊕α}{g:Prop}{v:α}(a:g)(h:x= .inr v):Res x g v:=⟨λ_=>h,λn=>absurd a n⟩
def PL(ts:List cO)(ps:List BA)(E:Ps->PM Nat):Nat->Ps->PM Nat
 |1=>ZX ts ps E
 |2=>zB ts ps E
 |3=>UZ ts ps E
 |_=>sU ts ps E
def Fac(ts:List cO)(ps:List BA)(E:Ps->PM Nat)(n:Nat)(pf:Pf)(g:Prop)(t:Rose):Prop:=
 ∀i l bl,Seg ts i (Cx (pf bl))->NextOk n ts (i+(pf bl).length)->l.length+t.size<=256->Res (PL ts ps E n (i,l)) g ((i+(pf bl).length,l++t.flat l.length),l.length+t.size-1)
def Spi(ts:List cO)(ps:List BA)(E:Ps->PM Nat)(L:Nat)(pf:Pf)(g:Prop)(t:Rose):Prop:=
 ∀i l bl,Seg ts i (Cx (pf bl))->NextOk (L+1) ts (i+(pf bl).length)->l.length+t.size<=256->
  (g->∃n',ts.length+1<=n'+(pf bl).length/\sD ts L (PL ts ps E (L+1)) (i,l)=pL ts L (PL ts ps E (L+1)) n' (l.length+t.size-1) (i+(pf bl).length,l++t.flat l.length))/\
  (¬g->∃z,sD ts L (PL ts ps E (L+1)) (i,l)= .inl (z,2))
variable {pf:Pf} {g:Prop} {t:Rose}
end
section
open Go Go.Dc Go.Proofs
variable (ts:List cO) (ps:List BA)
def Pos0(k d:Nat)(t:Rose):Prop:=∀i l bl,Seg ts i (Cx (t.pc ps 0 bl))->NextOk 1 ts (i+(t.pc ps 0 bl).length)->l.length+t.size<=256->Res (iM ts ps k (i,l)) (t.dep 0 d<=32) ((i+(t.pc ps 0 bl).length,l++t.flat l.length),l.length+t.size-1)
structure Pk(t:Rose):Prop where
 p0:∀k d,k+d=33->Pos0 ts ps k d t
 en:∀k d,k+d=32->∀n:Nat,2<=n->n<=4->Fac ts ps (iM ts ps k) n (λbl=>t.pc ps (n:Int) bl) (t.dep (n:Int) d<=32) t
 es:∀k d,k+d=32->∀L:Nat,2<=L->L<=3->Spi ts ps (iM ts ps k) L (λbl=>t.pc ps (L:Int) bl) (t.dep (L:Int) d<=32) t
end
section
open Go Go.Dc Go.Proofs
variable {ts:List cO} {ps:List BA}
theorem Res.step{α β:Type}{x:cU⊕α}{v:α}{f:α->cU⊕β}{g:Prop}{w:β}(h:x= .inr v)(r:Res (f v) g w):Res (bZ x f) g w:=by
 rw[h];exact r
structure OkD(d:Dl):Prop where
 good:GoodD d
 pars:d.2.2.1.length<=8
 body:d.2.2.2.length<=256
 dup:vF d.2.2.1=false
theorem OkD.tree{d:Dl}(h:OkD d):∃t,OG d.2.2.2=some t/\d.2.2.2=t.flat 0/\Fine d.2.2.1.length t:=by
 obtain⟨t,b,a⟩:=Aj h.good.tree
 exact⟨t,b,a,qHn t 0 λx c=>h.good.nodes x (by rw[a];exact c)⟩
theorem OkD.kind{d:Dl}(h:OkD d):(d.1=1\/d.1=2)/\mD d.2.1=true\/d.1=3/\eU d.2.1.data.toList=true:=by
 have:=h.good.head
 unfold OK at this
 split at this
 .rename_i g;exact .inl ⟨g,this⟩
 split at this
 .rename_i g;exact .inr ⟨g,this⟩
 cases this
theorem OkD.names{d:Dl}(h:OkD d):∀s∈d.2.2.1,mD s=true:=λs a=>(h.good.pars s a).2
theorem qKm{f:Sr}(h:GoodS f):∀d∈f.2.2,OkD d:=λd e=>by
 obtain⟨a,b,c,-⟩:=h.decs d e
 refine⟨a,b,c,?_⟩
 have:=h.once
 unfold UM at this
 simp only[Bool.or_eq_false_iff,List.any_eq_false] at this
 exact(Bool.not_eq_true _).mp (this.1 d e)
theorem NG{N:Nat}{s:BA}(a:100<N):uS N s=some (mD s):=by
 grind [uS,MR,Sq,mD]
def DT(k:Int):Int:=if k=3 then-1 else if k=4 then 2 else if k=5 then 3 else if k=6 then 1 else 0
def BL(x:Ex):Bool:=(x.1==3)||(uJ x==DT x.1)
def yF(np:Int)(x:Ex):Bool:=
 if x.1=1 then decide (x.2.2.2.1=eP)&&(x.2.2.1==0&&(decide (x.2.1>=-9007199254740992)&&decide (x.2.1<=9007199254740992)))
 else if x.1=2 then decide (x.2.2.2.1=eP)&&(x.2.2.1==0&&(decide (x.2.1>=0)&&decide (x.2.1<np)))
 else if x.1=3 then x.2.1==0&&(x.2.2.1==0&&mD x.2.2.2.1)
 else if x.1=4 then x.2.1==0&&(decide (x.2.2.2.1=eP)&&(decide (x.2.2.1>=1)&&decide (x.2.2.1<=7)))
 else if x.1=5 then x.2.1==0&&(decide (x.2.2.2.1=eP)&&x.2.2.1==0)
 else if x.1=6 then x.2.1==0&&(x.2.2.1==0&&eU x.2.2.2.1.data.toList)
 else if x.1=7\/x.1=8 then x.2.1==0&&(x.2.2.1==0&&eU x.2.2.2.1.data.toList)
 else if x.1=9 then x.2.1==0&&(x.2.2.1==0&&lC x.2.2.2.1)
 else if x.1=10 then decide (x.2.2.2.1=eP)&&(x.2.2.1==0&&(decide (x.2.1>=0)&&decide (x.2.1<64)))
 else false
theorem qAy(np:Int)(x:Ex):rP np x=(yF np x&&BL x):=by
 unfold rP yF BL DT
 grind
theorem qEu{N:Nat}{np:Int}{x:Ex}(a:100<N):RR N x np=some (yF np x):=by
 simp only[RR,eqE,FZ (s:=x.2.2.2.1) a,MR (s:=x.2.2.2.1) a,NG (s:=x.2.2.2.1) a,j0,qIv]
 unfold yF
 by_cases h1:x.1=1
 .grind
 by_cases h2:x.1=2
 .grind
 by_cases h3:x.1=3
 .grind
 grind
theorem qFi{N:Nat}(k:Int):RU N k=some (DT k):=by
 grind [RU,DT]
theorem Qy{N m n:Nat}{st args:List Int}{x:Ex}{i:Int}(f:x.2.2.2.2=args)(o:args.length=n)(p:st.length=m+n)(g:st.length<4000000):∀(d k M:Nat),k+d=n->d<M->
  aA (JS N (st,i) x (n:Int)) M (k:Int)=some (if st.drop (m+k)=args.drop k then .inl () else .inr false)
 |_,_,0,_,h=>absurd h (jO _)
 |0,k,M+1,l,_=>by
  grind [aA,JS]
 |d+1,k,M+1,l,q=>by
  subst f
  have b:k<x.2.2.2.2.length:=by omega
  have a:m+k<st.length:=by omega
  have ew:wI ((k:Int)+1)=((k+1:Nat):Int):=by grind [bA]
  have e0:wI ((st.length:Int)-(n:Int))=(m:Int):=by grind [bA]
  have c:wI ((m:Int)+(k:Int))=((m+k:Nat):Int):=by grind [bA]
  simp only[aA,JS]
  rw[jB (by grind),cD b,e0,c,cD a]
  simp only[j0,ew]
  rw[pF b,pF a]
  by_cases e:x.2.2.2.2[k]=st[m+k]
  .rw[jA (by simpa using e)]
   simp only[j0]
   rw[Qy rfl o p g d (k+1) M aa aa,e]
   grind
  grind
def DQ(l:List Ex)(k:Nat)(st:List Int):Option (List Int):=if l.all BL then vG l k st else none
theorem qBg{N:Nat}{l:List Ex}(p:l.length<2000000)(g:∀x∈l,x.2.2.2.2.length<2000000)(o:3000000<N):QV N l=some (oneP (DQ l 0 [])):=by
 have e:=mM (L:=l) (λ(t:List Int×Nat) (i:Nat)=>(t.1,(i:Int))) (f:=JR N l)
  (λt x=>if BL x=true/\x.2.2.2.2.length<=t.1.length/\t.1.drop (t.1.length-x.2.2.2.2.length)=x.2.2.2.2 then .inl (t.1.take (t.1.length-x.2.2.2.2.length)++[(t.2:Int)],t.2+1) else .inr (.inr false)) (λt=>(.inl t.1:List Int⊕Bool)) (λi t=>t.2=i/\t.1.length<=i) (by
   rintro⟨st,k⟩ i hi ⟨rfl,d⟩
   simp only at d hi ⊢
   have b:=g _ (jI hi)
   simp only[JR]
   rw[jB (by grind),cD hi]
   generalize l[k]=x at b
   simp only[j0,qFi]
   have ew:wI ((k:Int)+1)=((k+1:Nat):Int):=by grind [bA]
   have e0:wI ((st.length:Int)-(x.2.2.2.2.length:Int))=(st.length:Int)-(x.2.2.2.2.length:Int):=by
    grind [bA]
   by_cases a:BL x=true
   .have c:(if decide (DT x.1<0)then some (x.2.2.2.2.length:Int) else some (DT x.1):Option Int)=some (x.2.2.2.2.length:Int):=by
     unfold BL uJ at a
     simp only[Bool.or_eq_true,gP] at a
     rcases a with a|a
     .rw[a];rfl
     grind
    rw[c]
    simp only[j0]
    rw[jA ad]
    simp only[j0]
    by_cases n:x.2.2.2.2.length<=st.length
    .rw[jA (by grind)]
     have h:=Qy (N:=N) (m:=st.length-x.2.2.2.2.length) (st:=st) (x:=x) (i:=(k:Int)) rfl rfl aa aa x.2.2.2.2.length 0 N aa aa
     grind [CL,eT]
    grind
   grind [BL,DT,uJ]) (by
   grind) (by
   grind [JR]) (M:=N) (t:=([],0)) aa ⟨rfl,jH _⟩
 unfold QV
 rw[show((([]:List Int),(0:Int)))=((([]:List Int),0).1,(((0:Nat)):Int)) from rfl]
 rw[e]
 have key:∀(l:List Ex) (st:List Int) (k:Nat),run (λ(t:List Int×Nat) (x:Ex)=>if BL x=true/\x.2.2.2.2.length<=t.1.length/\t.1.drop (t.1.length-x.2.2.2.2.length)=x.2.2.2.2 then(.inl (t.1.take (t.1.length-x.2.2.2.2.length)++[(t.2:Int)],t.2+1):(List Int×Nat)⊕(List Int⊕Bool)) else .inr (.inr false)) (λt=>(.inl t.1:List Int⊕Bool)) l (st,k)=match DQ l k st with
   |some r=> .inl r
   |none=> .inr false:=by
  intro l
  induction l with
  |nil=>intro st k;rfl
  |cons x l a=>
   grind [run,DQ,vG]
 rw[key]
 cases DQ l 0 [] with
 |none=>rfl
 |some r=>
  simp only[j0]
  congr 1
  match r with
  |[]=>rfl
  |[_]=>rfl
  |_::_::r=>
   show(((r.length+1+1:Nat):Int)==1)=false
   rw[beq_eq_false_iff_ne];omega
mutual
theorem Kh(t:Rose)(d:Nat):t.deepen (d+1)=t.deepen d+1:=by
 match t with
 | .mk h ks=>
  simp only[Rose.deepen]
  by_cases h4:h.1=4
  .rw[jB h4,jB h4]
   by_cases hk:ks=[]
   .grind [sT]
   rw[XY ks d hk];omega
  rw[jA h4,jA h4]
  by_cases hk:ks=[]
  .grind [sT]
  rw[XY ks (d+1) hk];omega
theorem XY(l:List Rose)(d:Nat)(a:l≠[]):sT (d+1) l=sT d l+1:=by
 match l with
 |[]=>exact absurd rfl a
 |t::l=>
  have b:=Kh t d
  simp only[sT]
  by_cases hk:l=[]
  .grind [sT]
  rw[XY l d hk];omega
end
theorem qBt{d:Nat}:∀(n:Nat) (t:Rose),t.size<=n->t.deepen d<=d+t.size/\d<=t.deepen d:=by
 intro n
 induction n generalizing d with
 |zero=>intro t h;have:=t.pos;omega
 |succ n c=>
  intro t b
  match t with
  | .mk h ks=>
   have key:∀(e:Nat) (l:List Rose),eA l<=n->sT e l<=e+eA l:=by
    intro e l
    induction l with
    |nil=>intro _;exact jQ _
    |cons u l a=>
     grind [eA,sT]
   grind [Rose.size,Rose.deepen]
theorem Nw{N D:Nat}{l:List Ex}{x:Ex}{i:Nat}(r:l[i]? =some x)(s:x.2.2.2.2.length<2000000):∀(ks:List Rose) (k b M m:Nat),(∀t∈ks,∀b,AtT l b t->CF N D l ((b+t.size-1:Nat):Int)=some ((t.deepen 1:Nat):Int))->x.2.2.2.2.drop k=eQ b ks->k<=x.2.2.2.2.length->AtTs l b ks->eA ks<=300->ks.length<M->
  aA (KV N (CF N D) l (i:Int) x) M ((m:Int),(k:Int))=some ((max m (sT (if x.1=4 then 1 else 2) ks):Nat):Int)
 |_,_,_,0,_,_,_,_,_,_,h=>absurd h (jO _)
 |[],k,b,M+1,m,_,a,y,_,_,_=>by
  grind [eQ,List.length_nil,aA,KV,sT]
 |t::ks,k,b,M+1,m,e,a,y,n,q,E=>by
  have z:=t.pos
  simp only[eA] at q
  have c:k<x.2.2.2.2.length:=by
   by_cases hh:k<x.2.2.2.2.length
   .exact hh
   rw[jZ aa] at a;cases a
  rw[pF c] at a
  obtain⟨o,p⟩:=List.cons.inj a
  obtain⟨f,g⟩:=n.head
  have B:=(qBt (d:=1) t.size t (jH _)).1
  have ew:wI ((k:Int)+1)=((k+1:Nat):Int):=by grind [bA]
  have ed:wI (((t.deepen 1:Nat):Int)+1)=((t.deepen 2:Nat):Int):=by
   grind [Kh,bA]
  simp only[aA,KV]
  rw[jB (by grind),cD c,o]
  simp only[j0]
  rw[e t (jD ..) b f,vA r]
  simp only[j0,ed,ew]
  have v:(if(x.1 !=4)then some ((t.deepen 2:Nat):Int) else some ((t.deepen 1:Nat):Int):Option Int)=some ((t.deepen (if x.1=4 then 1 else 2):Nat):Int):=by
   grind
  rw[v]
  simp only[j0,qIn]
  rw[Nw r s ks (k+1) (b+t.size) M _ (λu A=>e u (jC _ A)) p aa g aa (by grind)]
  grind [sT]
theorem On{N:Nat}{l:List Ex}(g:∀x∈l,x.2.2.2.2.length<2000000)(p:3000000<N):∀(n:Nat) (t:Rose) (b D:Nat),t.size<=n->n<=300->n<=D->AtT l b t->CF N D l ((b+t.size-1:Nat):Int)=some ((t.deepen 1:Nat):Int)
 |0,t,_,_,h,_,_,_=>by have:=t.pos;omega
 |n+1,.mk h ks,b,D,e,v,s,d=>by
  simp only[Rose.size] at e ⊢
  obtain⟨D,rfl⟩:∃D',D=D'+1:=⟨D-1,by omega⟩
  rw[show b+(eA ks+1)-1=b+eA ks by omega]
  obtain⟨c,a⟩:=d.args
  have f:=g _ (fQ c)
  have k:=XI ks
  have r:∀t∈ks,t.size<=eA ks:=by
   intro t o
   clear a c f k e d
   induction ks with
   |nil=>cases o
   |cons u l q=>
    grind [eA]
  have q:=Nw (N:=N) (D:=D) c f ks 0 b N 1 (λt o b' hat'=>On g p n t b' D (by grind) aa aa hat') (by rw[kP];rfl) (jQ _) a aa aa
  show RE N (CF N D) l _=_
  unfold RE
  rw[vA c]
  simp only[j0]
  rw[show((1:Int),(0:Int))=(((1:Nat):Int),((0:Nat):Int)) from rfl,q]
  simp only[j0,Rose.deepen]
  rfl
theorem qHd{N:Nat}{l:List Ex}(d:oneP (vG l 0 [])=true)(h:l.length<=256)(c:∀x∈l,x.2.2.2.2.length<2000000)(b:3000000<N):∃v:Int,RW N l (wI ((l.length:Int)-1))=some v/\(decide (v>32))=UW l:=by
 obtain⟨t,f,g⟩:=Aj d
 have e:t.size=l.length:=by
  grind [nT]
 have k:=t.pos
 have a:AtT l 0 t:=by
  grind [AtT.whole]
 refine⟨((t.deepen 1:Nat):Int),?_,?_⟩
 .unfold RW
  have:=On c b t.size t 0 N (jH _) aa aa a
  grind [bA]
 grind [UW]
def SmE(d:Dl):Prop:=d.2.2.1.length<2000000/\d.2.2.2.length<2000000/\∀x∈d.2.2.2,x.2.2.2.2.length<2000000
def BK(f:Sr):Prop:=f.2.1.length<2000000/\f.2.2.length<2000000/\∀d∈f.2.2,SmE d
theorem SmSr.r{f:Sr}(h:SmSr f):BK f:=⟨h.1,h.2.1,λd a=>⟨(h.2.2 d a).2.1,(h.2.2 d a).2.2.1,λx b=>((h.2.2 d a).2.2.2 x b).2⟩⟩
theorem qLs{N:Nat}{f:Sr}(a:BK f)(d:3000000<N):aA (ER N f) N 0=some (if f.2.1.all mD then .inl () else .inr 9):=by
 obtain⟨c,-,-⟩:=a
 have h:=mM (L:=f.2.1) (λ(_:Unit) (i:Nat)=>(i:Int)) (f:=ER N f)
  (λ_ s=>if(!mD s)then .inr (.inr 9) else .inl ()) (λ_=>(.inl ():Unit⊕Int)) (λ_ _=>True) (by
   grind [ER,cD,bA,NG]) (λ_ _ _ _ _ _=>trivial) (by
   grind [ER]) (M:=N) (t:=()) aa trivial
 rw[show((0:Nat):Int)=0 from rfl] at h
 rw[h,HA (b:=(.inr 9:Unit⊕Int)) (λs=> !mD s) (λx=>rfl),fE]
 grind
theorem qLf{N:Nat}{d:Dl}(a:SmE d)(e:3000000<N):aA (EW N d) N 0=some (if d.2.2.1.all mD then .inl () else .inr 9):=by
 obtain⟨c,-,-⟩:=a
 have h:=mM (L:=d.2.2.1) (λ(_:Unit) (i:Nat)=>(i:Int)) (f:=EW N d)
  (λ_ s=>if(!mD s)then .inr (.inr 9) else .inl ()) (λ_=>(.inl ():Unit⊕Int)) (λ_ _=>True) (by
   grind [EW,cD,bA,NG]) (λ_ _ _ _ _ _=>trivial) (by
   grind [EW]) (M:=N) (t:=()) aa trivial
 rw[show((0:Nat):Int)=0 from rfl] at h
 rw[h,HA (b:=(.inr 9:Unit⊕Int)) (λs=> !mD s) (λx=>rfl),fE]
 grind
theorem qLz{N:Nat}{d:Dl}(a:SmE d)(e:3000000<N):aA (EZ N d) N 0=some (if d.2.2.2.all (yF (d.2.2.1.length:Int))then .inl () else .inr 9):=by
 obtain⟨-,c,-⟩:=a
 have h:=mM (L:=d.2.2.2) (λ(_:Unit) (i:Nat)=>(i:Int)) (f:=EZ N d)
  (λ_ x=>if(!yF (d.2.2.1.length:Int) x)then .inr (.inr 9) else .inl ()) (λ_=>(.inl ():Unit⊕Int)) (λ_ _=>True) (by
   grind [EZ,cD,bA,qEu]) (λ_ _ _ _ _ _=>trivial) (by
   grind [EZ]) (M:=N) (t:=()) aa trivial
 rw[show((0:Nat):Int)=0 from rfl] at h
 rw[h,HA (b:=(.inr 9:Unit⊕Int)) (λx=> !yF (d.2.2.1.length:Int) x) (λx=>rfl),fE]
 grind
def VG(d:Dl):Bool:=(d.1==1||(d.2.2.1.isEmpty&&(d.1==2||d.1==3)))&&(if d.1=3 then eU d.2.1.data.toList else mD d.2.1)
theorem Xp(d:Dl):yA d=(VG d&&(d.2.2.1.all mD&&(d.2.2.2.all (yF (d.2.2.1.length:Int))&&oneP (DQ d.2.2.2 0 [])))):=by
 have e:VH d=(d.2.2.2.all (yF (d.2.2.1.length:Int))&&oneP (DQ d.2.2.2 0 [])):=by
  grind [VH,DQ,qAy,oneP]
 unfold yA
 rw[e]
 unfold OK Ci VG
 by_cases k1:d.1=1
 .simp[k1]
 by_cases b:d.1=2
 .cases hp:d.2.2.1 with
  |nil=>simp[b]
  |cons a l=>simp[b]
 by_cases c:d.1=3
 .cases hp:d.2.2.1 with
  |nil=>simp[c]
  |cons a l=>simp[c]
 grind
theorem qLw{N:Nat}{f:Sr}(p:BK f)(e:3000000<N):aA (EY N f) N 0=some (if f.2.2.all yA then .inl () else .inr 9):=by
 obtain⟨-,q,o⟩:=p
 have h:=mM (L:=f.2.2) (λ(_:Unit) (i:Nat)=>(i:Int)) (f:=EY N f)
  (λ_ d=>if(!yA d)then .inr (.inr 9) else .inl ()) (λ_=>(.inl ():Unit⊕Int)) (λ_ _=>True) (by
   intro t i hi _
   have c:=o _ (jI hi)
   obtain⟨-,k,n⟩:=id c
   simp only[EY]
   rw[jB (by grind),cD hi]
   generalize f.2.2[i]=d at c k n
   have ew:wI ((i:Int)+1)=((i+1:Nat):Int):=by grind [bA]
   simp only[j0,NG (s:=d.2.1) (show 100<N by omega),FZ (s:=d.2.1) (show 100<N by omega),qLf c e,qLz c e,qBg k n e,ew]
   rw[Xp]
   have r:(if decide (d.1<1)then some true else if decide (d.1>3)then some true else if(d.1 !=1)then(if decide ((d.2.2.1.length:Int)>0)then some true else if(d.1==3)then(if(!eU d.2.1.data.toList)then some true else if(d.1 !=3)then some (!mD d.2.1) else some false) else if(d.1 !=3)then some (!mD d.2.1) else some false) else if(d.1==3)then(if(!eU d.2.1.data.toList)then some true else if(d.1 !=3)then some (!mD d.2.1) else some false) else if(d.1 !=3)then some (!mD d.2.1) else some false:Option Bool)=some (!VG d):=by
    unfold VG
    by_cases k1:d.1=1
    .simp[k1]
    by_cases g:d.1=2
    .cases hp:d.2.2.1 with
     |nil=>simp[g]
     |cons a l=>simp[g]
    by_cases k3:d.1=3
    .cases hp:d.2.2.1 with
     |nil=>grind
     |cons a l=>simp[k3]
    grind
   grind) (λ_ _ _ _ _ _=>trivial) (by
   grind [EY]) (M:=N) (t:=()) aa trivial
 rw[show((0:Nat):Int)=0 from rfl] at h
 rw[h,HA (b:=(.inr 9:Unit⊕Int)) (λd=> !yA d) (λx=>rfl),fE]
 grind
theorem qKn{N:Nat}{f:Sr}(a:BK f)(c:3000000<N):aA (EX N f) N 0=some (if(decide (f.1∈f.2.1)||vF f.2.1)then .inr 10 else .inl ()):=by
 obtain⟨b,-,-⟩:=a
 have h:=mM (L:=f.2.1) (λ(_:List BA) (i:Nat)=>(i:Int)) (f:=EX N f)
  (λt s=>if(decide (s=f.1)||decide (s∈t))then .inr (.inr 10) else .inl (t++[s])) (λ_=>(.inl ():Unit⊕Int)) (λi t=>t=f.2.1.take i) (by
   grind [EX,cD,bA,CL,nY,OQ,List.length_take]) (by
   grind [YX]) (by
   grind [EX]) (M:=N) (t:=[]) aa ad
 rw[show((0:Nat):Int)=0 from rfl] at h
 rw[h]
 congr 1
 have key:∀(l t:List BA),run (λt s=>if(decide (s=f.1)||decide (s∈t))then(.inr (.inr 10):List BA⊕(Unit⊕Int)) else .inl (t++[s])) (λ_=>(.inl ():Unit⊕Int)) l t=if(decide (f.1∈l)||AY t l)then .inr 10 else .inl ():=by
  intro l
  induction l with
  |nil=>intro t;rfl
  |cons s l d=>
   grind [run,AY]
 exact key _ _
theorem qLo{N:Nat}{d:Dl}(a:SmE d)(c:3000000<N):aA (ET N d) N 0=some (if vF d.2.2.1 then .inr 10 else .inl ()):=by
 obtain⟨b,-,-⟩:=a
 have h:=mM (L:=d.2.2.1) (λ(_:List BA) (i:Nat)=>(i:Int)) (f:=ET N d)
  (λt s=>if decide (s∈t)then .inr (.inr 10) else .inl (t++[s])) (λ_=>(.inl ():Unit⊕Int)) (λi t=>t=d.2.2.1.take i) (by
   grind [ET,cD,bA,CL,OQ,List.length_take]) (by
   grind [YX]) (by
   grind [ET]) (M:=N) (t:=[]) aa ad
 rw[show((0:Nat):Int)=0 from rfl] at h
 rw[h]
 congr 1
 have key:∀(l t:List BA),run (λt s=>if decide (s∈t)then(.inr (.inr 10):List BA⊕(Unit⊕Int)) else .inl (t++[s])) (λ_=>(.inl ():Unit⊕Int)) l t=if AY t l then .inr 10 else .inl ():=by
  intro l
  induction l with
  |nil=>intro t;rfl
  |cons s l e=>
   grind [run,AY]
 exact key _ _
theorem qLj{N:Nat}{f:Sr}(b:BK f)(e:3000000<N):aA (EU N f) N 0=some (if(vF (f.2.2.map yT)||f.2.2.any (λd=>vF d.2.2.1))then .inr 10 else .inl ()):=by
 obtain⟨-,c,a⟩:=b
 have h:=mM (L:=f.2.2) (λ(_:List Dl) (i:Nat)=>(i:Int)) (f:=EU N f)
  (λt d=>if(decide (yT d∈t.map yT)||vF d.2.2.1)then .inr (.inr 10) else .inl (t++[d])) (λ_=>(.inl ():Unit⊕Int)) (λi t=>t=f.2.2.take i) (by
   rintro t i hi rfl
   have g:=a _ (jI hi)
   simp only[EU]
   rw[jB (by grind),cD hi]
   have ew:wI ((i:Int)+1)=((i+1:Nat):Int):=by grind [bA]
   grind [CL,Qt,List.length_take,qLo,yT]) (by
   grind [YX]) (by
   grind [EU]) (M:=N) (t:=[]) aa ad
 rw[show((0:Nat):Int)=0 from rfl] at h
 rw[h]
 congr 1
 have key:∀(l t:List Dl),run (λt d=>if(decide (yT d∈t.map yT)||vF d.2.2.1)then(.inr (.inr 10):List Dl⊕(Unit⊕Int)) else .inl (t++[d])) (λ_=>(.inl ():Unit⊕Int)) l t=if(AY (t.map yT) (l.map yT)||l.any (λd=>vF d.2.2.1))then .inr 10 else .inl ():=by
  intro l
  induction l with
  |nil=>intro t;rfl
  |cons d l g=>
   grind [run,AY]
 exact key _ _
theorem qLq{N:Nat}{f:Sr}(c:BK f)(e:f.2.2.all yA=true)(k:3000000<N):aA (ES N f) N 0=some (if f.2.2.any HR then .inr 2 else .inl ()):=by
 obtain⟨-,g,a⟩:=c
 have h:=mM (L:=f.2.2) (λ(_:Unit) (i:Nat)=>(i:Int)) (f:=ES N f)
  (λ_ d=>if HR d then .inr (.inr 2) else .inl ()) (λ_=>(.inl ():Unit⊕Int)) (λ_ _=>True) (by
   intro t i hi _
   obtain⟨n,o,p⟩:=a _ (jI hi)
   have l:=(Lo (jL.1 e _ (jI hi))).tree
   grind [ES,cD,bA,HR,qHd]) (λ_ _ _ _ _ _=>trivial) (by
   grind [ES]) (M:=N) (t:=()) aa trivial
 rw[show((0:Nat):Int)=0 from rfl] at h
 rw[h,HA (b:=(.inr 2:Unit⊕Int)) HR (λx=>rfl)]
theorem qCi{N:Nat}{f:Sr}(b:BK f)(a:3000000<N):RM N f=some (NJ f):=by
 unfold RM NJ Cn
 rw[NG aa,qLs b a,qLw b a,qKn b a,qLj b a]
 simp only[j0]
 grind [qLq,UM,VI]
theorem UR{N:Nat}:∀(D k n:Nat),n<10^(k+1)->n<10000000000000000->k<D->KF N D (n:Int)=some (vM (n:Int))
 |0,_,_,_,_,h=>absurd h (jO _)
 |D+1,k,n,h,e,d=>by
  show QQ N (KF N D) (n:Int)=_
  unfold QQ
  by_cases h10:n<10
  .have c:ByteArray.size (⟨#[48,49,50,51,52,53,54,55,56,57]⟩:BA)=10:=rfl
   rw[jB (by grind),AX aa aa,TM aa aa aa]
   simp only[j0,jT]
   rw[show((n:Int)+1).toNat=n+1 by omega]
   congr 1
   refine tU ?_
   rw[GR,Lib.decDigits_one h10]
   exact qIa ⟨n,h10⟩
  rw[jA (by grind)]
  obtain⟨k,rfl⟩:∃k',k=k'+1:=by
   cases k with
   |zero=>simp at h;omega
   |succ k=>exact⟨k,rfl⟩
  rw[Nat.pow_succ] at h
  have a:IntKind.wrap .u64 (Int.tdiv (n:Int) 10)=((n/10:Nat):Int):=by
   grind [AX]
  have b:Int.tmod (n:Int) 10=((n%10:Nat):Int):=by
   grind
  rw[a,b,UR D k (n/10) aa aa aa,UR D 0 (n%10) aa aa aa]
  simp only[j0]
  have f:=HF 15 (n/10) aa
  have g:=HF 15 (n%10) aa
  have l:(vM ((n/10:Nat):Int)).size=(Lib.decDigits (n/10)).length:=by rw[<-GR,mX]
  have o:(vM ((n%10:Nat):Int)).size=(Lib.decDigits (n%10)).length:=by rw[<-GR,mX]
  rw[catW aa]
  grind [tU,yC,GR,Mw,Go.Lib.decDigits_one]
theorem YI{N:Nat}{n:Int}(a: -9007199254740992<=n)(b:n<=9007199254740992)(c:100<N):tK N n=some (vM n):=by
 unfold tK RF
 by_cases h:n<0
 .rw[jB (by simpa using h),bA (show-9223372036854775808<=n+1 by omega) aa,bA aa aa,AX (show 0<=0-(n+1) by omega) aa,AX aa aa]
  obtain⟨m,rfl⟩:∃m:Nat,n= -(m:Int):=⟨n.natAbs,by omega⟩
  rw[show(0-(-(m:Int)+1)+1)=(m:Int) by omega,UR N 15 m aa aa aa]
  have d:=HF 15 m aa
  have e:(vM (m:Int)).size=(Lib.decDigits m).length:=by rw[<-GR,mX]
  have z:(⟨#[45]⟩:BA).size=1:=rfl
  simp only[j0]
  rw[catW aa]
  simp only[j0]
  congr 1
  refine tU ?_
  rw[yC,GR]
  show[45]++Lib.decDigits m=Lib.itoa (-(m:Int))
  grind [Go.Lib.itoa]
 rw[jA (by simpa using h),AX aa aa]
 obtain⟨m,rfl⟩:∃m:Nat,n=(m:Int):=⟨n.toNat,by omega⟩
 rw[UR N 15 m aa aa aa]
 rfl
theorem Jx{N:Nat}(x:Ex):zV N x=some (nW (x.1,x.2.1,x.2.2.1,x.2.2.2.1)):=by
 grind [zV,nW]
theorem yD{N:Nat}{h:Hd}{args:List Int}{need:Int}{B:List UInt8}(e:B.length<=100000):(Option.bind (some (dP B)) λa=>(zV N (mE h args)).bind λd=>if(decide (d<need))then((bW (⟨#[40]⟩:BA) a).bind λb=>(bW b (⟨#[41]⟩:BA)).bind λc=>some c) else(some a))=some (dP (if nW h<need then 40::(B++[41]) else B)):=by
 have f:(⟨#[40]⟩:BA).size=1:=rfl
 have g:(⟨#[41]⟩:BA).size=1:=rfl
 rw[show zV N (mE h args)=some (nW h) from Jx _]
 simp only[j0]
 by_cases h:nW h<need
 .rw[jB (by simpa using h),jB h,catW (by rw[nD];omega)]
  simp only[j0]
  rw[catW (by grind [nD])]
  rfl
 grind
theorem qFq{op:Int}(a:1<=op)(b:op<=7):aO ([(⟨#[]⟩:BA),(⟨#[43]⟩:BA),(⟨#[45]⟩:BA),(⟨#[42]⟩:BA),(⟨#[47]⟩:BA),(⟨#[37]⟩:BA),(⟨#[60]⟩:BA),(⟨#[61,61]⟩:BA)]) op=some (OI op):=by
 rcases(by omega:op=1\/op=2\/op=3\/op=4\/op=5\/op=6\/op=7) with rfl|rfl|rfl|rfl|rfl|rfl|rfl<;>rfl
variable {N:Nat} {l:List Ex}
def Sj(N:Nat)(l:List Ex)(ps:List BA)(t:Rose):Prop:=∀(b D:Nat) (need:Int),AtT l b t->t.size<=300->t.size<=D->0<=need->CB N D l ((b+t.size-1:Nat):Int) ps need=some (dP (t.wr ps need))/\(t.wr ps need).length+2<=110*t.size
theorem nd0{h:Hd}(a:h.1≠4)(k:Nat):oF h k=0:=by grind [oF]
theorem Rr{D:Nat}{h:Hd}{x:Ex}(y:3000000<N)(v:h.1≠4)(G:x.2.2.2.2.length<2000000):∀(ks:List Rose) (k b M:Nat) (s:List UInt8),(∀t∈ks,Sj N l ps t/\t.size<=300/\t.size<=D)->x.2.2.2.2.drop k=eQ b ks->k<=x.2.2.2.2.length->AtTs l b ks->s.length+110*eA ks<=100000->ks.length<M->
  aA (KA N (CB N D) l ps x) M (dP s,(k:Int))=some (dP (s++uC k (pB ps h k ks)))
 |_,_,_,0,_,_,_,_,_,_,o=>absurd o (jO _)
 |[],k,b,M+1,s,_,a,A,_,_,_=>by
  grind [eQ,List.length_nil,aA,KA,pB,uC]
 |t::ks,k,b,M+1,s,d,a,A,p,E,o=>by
  have B:=t.pos
  simp only[eA] at E
  have c:k<x.2.2.2.2.length:=by
   by_cases hh:k<x.2.2.2.2.length
   .exact hh
   rw[jZ aa] at a;cases a
  rw[pF c] at a
  obtain⟨q,r⟩:=List.cons.inj a
  obtain⟨g,n⟩:=p.head
  obtain⟨t1,t2,K⟩:=d t (jD ..)
  obtain⟨R,U⟩:=t1 b D 0 g t2 K (gB 0)
  have ew:wI ((k:Int)+1)=((k+1:Nat):Int):=by grind [bA]
  have z:(⟨#[44,32]⟩:BA).size=2:=rfl
  simp only[aA,KA]
  rw[jB (by grind),cD c,q]
  have f:(if(decide ((k:Int)>0))then((bW (dP s) (⟨#[44,32]⟩:BA)).bind λH=>some H) else(some (dP s)):Option BA)=some (dP (s++tG k)):=by
   unfold tG
   by_cases h0:k=0
   .grind
   rw[jB (by grind),jA h0,catW (by rw[nD];omega)]
   rfl
  have S:(s++tG k).length<=s.length+2:=by
   grind [tG]
  simp only[j0,f,R]
  rw[catW (by grind [nD])]
  simp only[j0,ew]
  have e:dP (s++tG k)++dP (t.wr ps 0)=dP ((s++tG k)++t.wr ps 0):=by
   grind [tU,yC,wF]
  rw[e,Rr y v G ks (k+1) (b+t.size) M _ (λu F=>d u (jC _ F)) r aa n (by grind) (by grind)]
  grind [pB,uC,nd0]
theorem qHp(hN:3000000<N)(a1:∀s∈ps,s.size<=24)(hl:∀x∈l,rP (ps.length:Int) x=true){t:Rose}(hf:Fine ps.length t):Sj N l ps t:=by
 have G:∀(t:Rose) (b:Nat) (need:Int),AtT l b t->(t.wr ps need).length+2<=110*t.size:=λt b need f=>by
  obtain⟨p,q,rfl,-⟩:=f
  exact Bl a1 t b need λx g=>hl x (kQ _ (kW _ g))
 -- a node, from what its body is
 have node:∀(h:Hd) (ks:List Rose) (b D:Nat) (need:Int),AtT l b (.mk h ks)->(Rose.mk h ks).size<=300->(∀D',D=D'+1->(qN ps h (pB ps h 0 ks)).length<=100000->tJ N (CB N D') l ((b+eA ks:Nat):Int) ps need=some (dP (if nW h<need then 40::(qN ps h (pB ps h 0 ks)++[41]) else qN ps h (pB ps h 0 ks))))->(Rose.mk h ks).size<=D->
   CB N D l ((b+(Rose.mk h ks).size-1:Nat):Int) ps need=some (dP ((Rose.mk h ks).wr ps need))/\((Rose.mk h ks).wr ps need).length+2<=110*(Rose.mk h ks).size:=by
  intro h ks b D need f g v r
  have o:=G _ b need f
  refine⟨?_,o⟩
  simp only[Rose.size] at g r o ⊢
  obtain⟨D,rfl⟩:∃D',D=D'+1:=⟨D-1,by omega⟩
  have y:(qN ps h (pB ps h 0 ks)).length<=100000:=by
   grind [Rose.wr]
  rw[show b+(eA ks+1)-1=b+eA ks by omega]
  simp only[Rose.wr]
  exact v D rfl y
 have sub:∀{t:Rose} {ks:List Rose},t∈ks->t.size<=eA ks:=by
  intro t ks y
  induction ks with
  |nil=>cases y
  |cons u l ih=>
   grind [eA]
 have z0:(⟨#[32]⟩:BA).size=1:=rfl
 have z1:(⟨#[40]⟩:BA).size=1:=rfl
 have z2:(⟨#[41]⟩:BA).size=1:=rfl
 have z3:(⟨#[105,102,32]⟩:BA).size=3:=rfl
 have z4:(⟨#[32,116,104,101,110,32]⟩:BA).size=6:=rfl
 have z5:(⟨#[32,101,108,115,101,32]⟩:BA).size=6:=rfl
 have z6:(⟨#[114,101,97,100,40,34]⟩:BA).size=6:=rfl
 have z7:(⟨#[34,44,32]⟩:BA).size=3:=rfl
 have z8:(⟨#[115,105,122,101,40,34]⟩:BA).size=6:=rfl
 have z9:(⟨#[104,97,115,40,34]⟩:BA).size=5:=rfl
 have za:(⟨#[101,110,118,40,34]⟩:BA).size=5:=rfl
 have zb:(⟨#[34,41]⟩:BA).size=2:=rfl
 have zc:(⟨#[102,108,105,112,40]⟩:BA).size=5:=rfl
 induction hf with
 |num n M R=>
  intro b D need f g r B
  refine node _ _ b D need f g (λD' _ o=> ?_) r
  unfold tJ
  rw[vA f.args.1]
  simp only[j0]
  refine Eq.trans (kA (λz=>Option.bind z _) (?_:_=some (dP _))) (yD o)
  refine Eq.trans (jB rfl) ?_
  show(tK N n).bind _=_
  rw[YI M R aa]
  rfl
 |par i h=>
  intro b D need f g r B
  refine node _ _ b D need f g (λD' _ o=> ?_) r
  unfold tJ
  rw[vA f.args.1]
  simp only[j0]
  refine Eq.trans (kA (λz=>Option.bind z _) (?_:_=some (dP _))) (yD o)
  refine Eq.trans (jA (by show ¬((2:Int)==1)=true;decide)) ?_
  refine Eq.trans (jB rfl) ?_
  show(aO ps (i:Int)).bind _=_
  have e:ps.getD i ⟨#[]⟩=ps[i]:=by grind
  rw[cD h]
  show some ps[i]=some (dP (ps.getD (Int.toNat (i:Int)) ⟨#[]⟩).data.toList)
  rw[jT,e]
  rfl
 |call s ks h hk ih=>
  intro b D need f g r B
  refine node _ _ b D need f g (λD' hD' o=> ?_) r
  subst hD'
  simp only[Rose.size] at g r
  have V:=tN h
  unfold tJ
  rw[vA f.args.1]
  simp only[j0]
  refine Eq.trans (kA (λz=>Option.bind z _) (?_:_=some (dP _))) (yD o)
  have E:=XI ks
  refine Eq.trans (jA (by show ¬((3:Int)==1)=true;decide)) ?_
  refine Eq.trans (jA (by show ¬((3:Int)==2)=true;decide)) ?_
  refine Eq.trans (jB rfl) ?_
  show(bW s (⟨#[40]⟩:BA)).bind _=_
  rw[catW aa]
  simp only[j0]
  have v:=Rr (D:=D') (h:=(3,0,0,s)) (x:=mE (3,0,0,s) (eQ b ks)) hN (by grind) (by show(eQ b ks).length<_;rw[wJ];omega) ks 0 b N (s++(⟨#[40]⟩:BA)).data.toList (λt y=>⟨ih t y,by grind,by grind⟩) (by rw[kP];rfl) (jQ _) f.args.2 (by grind [mX]) aa
  rw[show dP (s++(⟨#[40]⟩:BA)).data.toList=s++(⟨#[40]⟩:BA) from tU (wF _),show((0:Nat):Int)=0 from rfl] at v
  rw[v]
  simp only[j0]
  have A:=G _ b 0 f
  simp only[Rose.wr,Rose.size] at A
  grind [qN,catW,nD,tU,yC,wF]
 |bin op a c M R ha hc E K=>
  intro b D need f g r B
  refine node _ _ b D need f g (λD' hD' o=> ?_) r
  subst hD'
  obtain⟨v,y⟩:=f.args
  obtain⟨A,atr⟩:=y.head
  obtain⟨F,-⟩:=atr.head
  simp only[Rose.size,eA] at g r
  have U:=a.pos
  have a0:=c.pos
  obtain⟨e,-,l3⟩:(nW (4,0,op,eP)=1\/nW (4,0,op,eP)=2\/nW (4,0,op,eP)=3)/\True/\True:=by
   rcases(by omega:op=1\/op=2\/op=3\/op=4\/op=5\/op=6\/op=7) with rfl|rfl|rfl|rfl|rfl|rfl|rfl<;>decide
  have n0:oF (4,0,op,eP) 0=if nW (4,0,op,eP)=1 then 2 else nW (4,0,op,eP):=by grind [oF]
  have n1:oF (4,0,op,eP) 1=nW (4,0,op,eP)+1:=by grind [oF]
  obtain⟨wa,la⟩:=E b D' (oF (4,0,op,eP) 0) A aa aa (by grind)
  obtain⟨wc,lc⟩:=K (b+a.size) D' (oF (4,0,op,eP) 1) F aa aa (by rw[n1];omega)
  have Z:=Kt M R
  unfold tJ
  rw[vA v]
  simp only[j0]
  refine Eq.trans (kA (λz=>Option.bind z _) (?_:_=some (dP _))) (yD o)
  refine Eq.trans (jA (by show ¬((4:Int)==1)=true;decide)) ?_
  refine Eq.trans (jA (by show ¬((4:Int)==2)=true;decide)) ?_
  refine Eq.trans (jA (by show ¬((4:Int)==3)=true;decide)) ?_
  refine Eq.trans (jB rfl) ?_
  rw[show zV N (mE (4,0,op,eP) (eQ b [a,c]))=some (nW (4,0,op,eP)) from Jx _]
  simp only[j0]
  have S:(if(nW (4,0,op,eP)==1)then some 2 else some (nW (4,0,op,eP)):Option Int)=some (oF (4,0,op,eP) 0):=by
   grind
  have H:aO (mE (4,0,op,eP) (eQ b [a,c])).2.2.2.2 0=some ((b+a.size-1:Nat):Int):=rfl
  have Y:aO (mE (4,0,op,eP) (eQ b [a,c])).2.2.2.2 1=some ((b+a.size+c.size-1:Nat):Int):=rfl
  have ew:wI (nW (4,0,op,eP)+1)=oF (4,0,op,eP) 1:=by grind [bA]
  rw[S,H,Y]
  simp only[j0,wa,ew,wc]
  rw[catW (by rw[nD];omega)]
  simp only[j0]
  rw[show(mE (4,0,op,eP) (eQ b [a,c])).2.2.1=op from rfl,qFq M R]
  simp only[j0]
  rw[catW (by grind [nD])]
  simp only[j0]
  rw[catW (by grind [nD])]
  simp only[j0]
  rw[catW (by grind [nD])]
  simp only[j0]
  congr 1
  refine tU ?_
  show _=a.wr ps (oF (4,0,op,eP) 0)++((((⟨#[32]⟩:BA)++OI op)++(⟨#[32]⟩:BA)).data.toList++c.wr ps (oF (4,0,op,eP) 1))
  grind [yC,wF]
 |ite a c d ha hc hd E K a2=>
  intro b D need f g r B
  refine node _ _ b D need f g (λD' hD' o=> ?_) r
  subst hD'
  obtain⟨v,y⟩:=f.args
  obtain⟨A,atr⟩:=y.head
  obtain⟨F,atr⟩:=atr.head
  obtain⟨Z,-⟩:=atr.head
  simp only[Rose.size,eA] at g r
  have U:=a.pos
  have a0:=c.pos
  have a3:=d.pos
  have S:∀k,oF (5,0,0,eP) k=0:=nd0 (by grind)
  obtain⟨wa,la⟩:=E b D' 0 A aa aa (gB 0)
  obtain⟨wc,lc⟩:=K (b+a.size) D' 0 F aa aa (gB 0)
  obtain⟨wd,ld⟩:=a2 (b+a.size+c.size) D' 0 Z aa aa (gB 0)
  unfold tJ
  rw[vA v]
  simp only[j0]
  refine Eq.trans (kA (λz=>Option.bind z _) (?_:_=some (dP _))) (yD o)
  refine Eq.trans (jA (by show ¬((5:Int)==1)=true;decide)) ?_
  refine Eq.trans (jA (by show ¬((5:Int)==2)=true;decide)) ?_
  refine Eq.trans (jA (by show ¬((5:Int)==3)=true;decide)) ?_
  refine Eq.trans (jA (by show ¬((5:Int)==4)=true;decide)) ?_
  refine Eq.trans (jB rfl) ?_
  have H:aO (mE (5,0,0,eP) (eQ b [a,c,d])).2.2.2.2 0=some ((b+a.size-1:Nat):Int):=rfl
  have Y:aO (mE (5,0,0,eP) (eQ b [a,c,d])).2.2.2.2 1=some ((b+a.size+c.size-1:Nat):Int):=rfl
  have i2:aO (mE (5,0,0,eP) (eQ b [a,c,d])).2.2.2.2 2=some ((b+a.size+c.size+d.size-1:Nat):Int):=rfl
  rw[H,Y,i2]
  simp only[j0,wa]
  rw[catW (by rw[nD];omega)]
  simp only[j0]
  rw[catW (by grind [nD])]
  simp only[j0,wc]
  rw[catW (by grind [nD])]
  simp only[j0]
  rw[catW (by grind [nD])]
  simp only[j0,wd]
  rw[catW (by grind [nD])]
  simp only[j0]
  congr 1
  refine tU ?_
  show _=tI++(a.wr ps (oF (5,0,0,eP) 0)++(tThen++(c.wr ps (oF (5,0,0,eP) 1)++(tElse++d.wr ps (oF (5,0,0,eP) 2)))))
  simp only[yC,wF,jW,S]
  rfl
 |read s a h ha E=>
  intro b D need f g r B
  refine node _ _ b D need f g (λD' hD' o=> ?_) r
  subst hD'
  obtain⟨v,y⟩:=f.args
  obtain⟨A,-⟩:=y.head
  simp only[Rose.size,eA] at g r
  have U:=a.pos
  have V:=GP h
  have S:∀k,oF (6,0,0,s) k=0:=nd0 (by grind)
  obtain⟨wa,la⟩:=E b D' 0 A aa aa (gB 0)
  unfold tJ
  rw[vA v]
  simp only[j0]
  refine Eq.trans (kA (λz=>Option.bind z _) (?_:_=some (dP _))) (yD o)
  refine Eq.trans (jA (by show ¬((6:Int)==1)=true;decide)) ?_
  refine Eq.trans (jA (by show ¬((6:Int)==2)=true;decide)) ?_
  refine Eq.trans (jA (by show ¬((6:Int)==3)=true;decide)) ?_
  refine Eq.trans (jA (by show ¬((6:Int)==4)=true;decide)) ?_
  refine Eq.trans (jA (by show ¬((6:Int)==5)=true;decide)) ?_
  refine Eq.trans (jB rfl) ?_
  have H:aO (mE (6,0,0,s) (eQ b [a])).2.2.2.2 0=some ((b+a.size-1:Nat):Int):=rfl
  rw[show(mE (6,0,0,s) (eQ b [a])).2.2.2.1=s from rfl,H,catW aa]
  simp only[j0]
  rw[catW (by grind)]
  simp only[j0,wa]
  rw[catW (by grind [nD])]
  simp only[j0]
  rw[catW (by grind [nD])]
  simp only[j0]
  congr 1
  refine tU ?_
  show _=(((⟨#[114,101,97,100,40,34]⟩:BA)++s)++(⟨#[34,44,32]⟩:BA)).data.toList++(a.wr ps (oF (6,0,0,s) 0)++[41])
  grind [yC,wF]
 |look k s hk h=>
  intro b D need f g r B
  refine node _ _ b D need f g (λD' _ o=> ?_) r
  have V:=GP h
  unfold tJ
  rw[vA f.args.1]
  simp only[j0]
  refine Eq.trans (kA (λz=>Option.bind z _) (?_:_=some (dP _))) (yD o)
  rcases hk with rfl|rfl
  .refine Eq.trans (jA (by show ¬((7:Int)==1)=true;decide)) ?_
   refine Eq.trans (jA (by show ¬((7:Int)==2)=true;decide)) ?_
   refine Eq.trans (jA (by show ¬((7:Int)==3)=true;decide)) ?_
   refine Eq.trans (jA (by show ¬((7:Int)==4)=true;decide)) ?_
   refine Eq.trans (jA (by show ¬((7:Int)==5)=true;decide)) ?_
   refine Eq.trans (jA (by show ¬((7:Int)==6)=true;decide)) ?_
   refine Eq.trans (jB rfl) ?_
   rw[show(mE (7,0,0,s) (eQ b [])).2.2.2.1=s from rfl,catW aa]
   simp only[j0]
   rw[catW (by grind)]
   simp only[j0]
   congr 1
  refine Eq.trans (jA (by show ¬((8:Int)==1)=true;decide)) ?_
  refine Eq.trans (jA (by show ¬((8:Int)==2)=true;decide)) ?_
  refine Eq.trans (jA (by show ¬((8:Int)==3)=true;decide)) ?_
  refine Eq.trans (jA (by show ¬((8:Int)==4)=true;decide)) ?_
  refine Eq.trans (jA (by show ¬((8:Int)==5)=true;decide)) ?_
  refine Eq.trans (jA (by show ¬((8:Int)==6)=true;decide)) ?_
  refine Eq.trans (jA (by show ¬((8:Int)==7)=true;decide)) ?_
  refine Eq.trans (jB rfl) ?_
  rw[show(mE (8,0,0,s) (eQ b [])).2.2.2.1=s from rfl,catW aa]
  simp only[j0]
  rw[catW (by grind)]
  simp only[j0]
  congr 1
 |env s h=>
  intro b D need f g r B
  refine node _ _ b D need f g (λD' _ o=> ?_) r
  have V:=TJ h
  unfold tJ
  rw[vA f.args.1]
  simp only[j0]
  refine Eq.trans (kA (λz=>Option.bind z _) (?_:_=some (dP _))) (yD o)
  refine Eq.trans (jA (by show ¬((9:Int)==1)=true;decide)) ?_
  refine Eq.trans (jA (by show ¬((9:Int)==2)=true;decide)) ?_
  refine Eq.trans (jA (by show ¬((9:Int)==3)=true;decide)) ?_
  refine Eq.trans (jA (by show ¬((9:Int)==4)=true;decide)) ?_
  refine Eq.trans (jA (by show ¬((9:Int)==5)=true;decide)) ?_
  refine Eq.trans (jA (by show ¬((9:Int)==6)=true;decide)) ?_
  refine Eq.trans (jA (by show ¬((9:Int)==7)=true;decide)) ?_
  refine Eq.trans (jA (by show ¬((9:Int)==8)=true;decide)) ?_
  refine Eq.trans (jB rfl) ?_
  rw[show(mE (9,0,0,s) (eQ b [])).2.2.2.1=s from rfl,catW aa]
  simp only[j0]
  rw[catW (by grind)]
  simp only[j0]
  congr 1
 |flip n h=>
  intro b D need f g r B
  refine node _ _ b D need f g (λD' _ o=> ?_) r
  unfold tJ
  rw[vA f.args.1]
  simp only[j0]
  refine Eq.trans (kA (λz=>Option.bind z _) (?_:_=some (dP _))) (yD o)
  have hi:=UF (n:=(n:Int)) aa aa
  refine Eq.trans (jA (by show ¬((10:Int)==1)=true;decide)) ?_
  refine Eq.trans (jA (by show ¬((10:Int)==2)=true;decide)) ?_
  refine Eq.trans (jA (by show ¬((10:Int)==3)=true;decide)) ?_
  refine Eq.trans (jA (by show ¬((10:Int)==4)=true;decide)) ?_
  refine Eq.trans (jA (by show ¬((10:Int)==5)=true;decide)) ?_
  refine Eq.trans (jA (by show ¬((10:Int)==6)=true;decide)) ?_
  refine Eq.trans (jA (by show ¬((10:Int)==7)=true;decide)) ?_
  refine Eq.trans (jA (by show ¬((10:Int)==8)=true;decide)) ?_
  refine Eq.trans (jA (by show ¬((10:Int)==9)=true;decide)) ?_
  refine Eq.trans (jB rfl) ?_
  rw[show(mE (10,(n:Int),0,eP) (eQ b [])).2.1=(n:Int) from rfl,YI aa aa aa]
  simp only[j0]
  rw[catW aa]
  simp only[j0]
  rw[catW (by grind)]
  simp only[j0]
  congr 1
theorem qCs{N:Nat}{d:Dl}(h:OkD d)(c:3000000<N):RJ N d.2.2.2 (wI ((d.2.2.2.length:Int)-1)) d.2.2.1 0=some (dP (JC d)):=by
 obtain⟨t,g,k,b⟩:=h.tree
 have f:t.size=d.2.2.2.length:=by
  grind [nT]
 have n:=t.pos
 have l:=h.body
 have a:AtT d.2.2.2 0 t:=by
  grind [AtT.whole]
 have p:JC d=t.wr d.2.2.1 0:=by grind [JC]
 have o:=(qHp c (λs e=>tN (h.names s e)) h.good.nodes b 0 N 0 a aa aa (gB 0)).1
 grind [RJ,bA]
theorem Az(a b:List UInt8):dP a++dP b=dP (a++b):=tU (by grind [yC,wF])
theorem OA(s:BA):dP s.data.toList=s:=tU (wF _)
theorem Of{d:Dl}(a:GoodD d)(k:d.2.2.2.length<=256):(JC d).length<=30000:=by
 obtain⟨t,g,h⟩:=Aj a.tree
 have e:t.size=d.2.2.2.length:=by
  grind [nT]
 have c:∀x∈t.flat 0,rP (d.2.2.1.length:Int) x=true:=λx l=>a.nodes x (by grind)
 have f:=Bl (ps:=d.2.2.1) (λs b=>tN (a.pars s b).2) t 0 0 c
 grind [JC]
theorem qDj{d:Dl}(h:OkD d):(VD d).length<=31000:=by
 have a:=Lq h.good h.pars
 have b:=Of h.good h.body
 have c:(⟨#[32,61,32]⟩:BA).size=3:=rfl
 have e:(⟨#[59,10]⟩:BA).size=2:=rfl
 grind [VD,mX,nD]
theorem qFd{l:List BA}(h:∀s∈l,mD s=true):(l.flatMap yV).length<=40*l.length:=by
 induction l with
 |nil=>exact jQ _
 |cons s l b=>
  have c:=tN (h s (jD ..))
  have d:=b λx a=>h x (jC _ a)
  have e:(⟨#[105,109,112,111,114,116,32]⟩:BA).size=7:=rfl
  have f:(⟨#[59,10]⟩:BA).size=2:=rfl
  grind [yV,mX]
theorem qFw{N:Nat}{f:Sr}(h:GoodS f)(l:3000000<N):RX N f=some (dP (HX f.1++f.2.1.flatMap yV))/\(HX f.1++f.2.1.flatMap yV).length<=600:=by
 have n:=h.impn
 have d:=tN h.pkg
 have o:(⟨#[112,97,99,107,97,103,101,32]⟩:BA).size=8:=rfl
 have p:(⟨#[59,10]⟩:BA).size=2:=rfl
 have q:(⟨#[105,109,112,111,114,116,32]⟩:BA).size=7:=rfl
 have e:(HX f.1).length<=100:=by grind [HX,mX]
 refine⟨?_,by have:=qFd h.imps;grind⟩
 have b:∀s∈f.2.1,(yV s).length<=40:=λs c=>by
  have:=tN (h.imps s c)
  grind [yV,mX]
 have a:=mM (L:=f.2.1) (λ(t:List UInt8) (i:Nat)=>(dP t,(i:Int))) (f:=KP N f)
  (λt s=> .inl (t++yV s)) (λt=>dP t) (λi t=>t.length<=100+40*i) (by
   intro t i hi k
   have g:=tN (h.imps _ (jI hi))
   simp only[KP]
   rw[jB (by grind),cD hi]
   grind [bA,catW,nD,Az,yV,OA]) (by
   grind) (by
   grind [KP]) (M:=N) (t:=HX f.1) aa aa
 unfold RX
 rw[catW aa]
 simp only[j0]
 rw[catW (by grind)]
 simp only[j0]
 rw[show((⟨#[112,97,99,107,97,103,101,32]⟩:BA)++f.1)++(⟨#[59,10]⟩:BA)=dP (HX f.1) from(OA _).symm,show(0:Int)=((0:Nat):Int) from rfl,a]
 simp only[j0]
 rw[pG (λt s=>t++yV s) (λ_ _=>rfl),Ho]
theorem qJx{N:Nat}{d:Dl}(h:OkD d)(o:3000000<N){s:BA}(q:s.size<=200):aA (CC N d) N (s,0)=some (s++VE d.2.2.1):=by
 have p:=h.pars
 have b:=mM (L:=d.2.2.1) (λ(t:List UInt8×Nat) (i:Nat)=>(dP t.1,(i:Int))) (f:=CC N d)
  (λt x=> .inl ((t.1++tG t.2)++x.data.toList,t.2+1)) (λt=>dP t.1) (λi t=>t.2=i/\t.1.length<=200+40*i) (by
   rintro⟨t,k⟩ i hi ⟨rfl,a⟩
   simp only at a hi ⊢
   have c:=tN (h.names _ (jI hi))
   have z:(⟨#[44,32]⟩:BA).size=2:=rfl
   simp only[CC]
   rw[jB (by grind),cD hi]
   have ew:wI ((k:Int)+1)=((k+1:Nat):Int):=by grind [bA]
   have g:(if(decide ((k:Int)>0))then((bW (dP t) (⟨#[44,32]⟩:BA)).bind λn=>some n) else(some (dP t)):Option BA)=some (dP (t++tG k)):=by
    unfold tG
    by_cases h0:k=0
    .grind
    rw[jB (by grind),jA h0,catW (by rw[nD];omega)]
    rfl
   grind [catW,nD,Az,OA]) (by
   rintro⟨t,k⟩ i hi t' ⟨rfl,a⟩ e
   obtain rfl:=(Sum.inl.inj e).symm
   have c:(d.2.2.1[k]).size<=24:=tN (h.names _ (jI hi))
   grind [tG,mX]) (by
   grind [CC]) (M:=N) (t:=(s.data.toList,0)) aa ⟨rfl,by rw[mX];omega⟩
 rw[show dP (s.data.toList,0).1=s from OA s,show((0:Nat):Int)=0 from rfl] at b
 rw[b]
 have key:∀(l:List BA) (t:List UInt8) (k:Nat),run (λ(t:List UInt8×Nat) (x:BA)=>(.inl ((t.1++tG t.2)++x.data.toList,t.2+1):(List UInt8×Nat)⊕BA)) (λt=>dP t.1) l (t,k)=dP (t++uC k (l.map λs=>s.data.toList)):=by
  intro l
  induction l with
  |nil=>grind [run,uC]
  |cons x l a=>
   grind [run,uC]
 rw[key,<-Az,OA]
 rfl
theorem qEn{N:Nat}{d:Dl}(h:OkD d)(o:3000000<N):SC N d=some (dP (VD d)):=by
 have b:=Lq h.good h.pars
 have n:=Mv h.good
 have p:=Of h.good h.body
 have y1:(⟨#[102,117,110,99,32]⟩:BA).size=5:=rfl
 have r:(⟨#[40]⟩:BA).size=1:=rfl
 have s:(⟨#[41]⟩:BA).size=1:=rfl
 have t:(⟨#[116,101,115,116,32]⟩:BA).size=5:=rfl
 have y5:(⟨#[103,101,110,32,34]⟩:BA).size=5:=rfl
 have u:(⟨#[34]⟩:BA).size=1:=rfl
 have v:(⟨#[32,61,32]⟩:BA).size=3:=rfl
 have x:(⟨#[59,10]⟩:BA).size=2:=rfl
 have a:(if(d.1==1)then((bW (⟨#[102,117,110,99,32]⟩:BA) d.2.1).bind λc=>(bW c (⟨#[40]⟩:BA)).bind λe=>(aA (CC N d) N (e,0)).bind λo2=>(bW o2 (⟨#[41]⟩:BA)).bind λf=>some f) else(if(d.1==2)then((bW (⟨#[116,101,115,116,32]⟩:BA) d.2.1).bind λg=>some g) else(if(d.1==3)then((bW (⟨#[103,101,110,32,34]⟩:BA) d.2.1).bind λk=>(bW k (⟨#[34]⟩:BA)).bind λl=>some l) else(some (⟨#[]⟩:BA)))):Option (BA))=some (OL d):=by
  unfold OL at b ⊢
  by_cases k1:d.1=1
  .grind [catW,qJx]
  rw[jA (by simpa using k1),jA k1]
  by_cases k2:d.1=2
  .grind [catW]
  have q:d.1=3:=by
   rcases h.kind with ⟨h,-⟩|⟨h,-⟩<;>omega
  grind [catW]
 unfold SC
 refine Eq.trans (kA (λz=>Option.bind z _) a) ?_
 simp only[j0]
 rw[catW aa]
 grind [qCs,catW,nD,tU,VD,yC,wF]
end
section
open Go Go.Dc
def Ok{α:Type}(x:Option α)(Q:α->Prop):Prop:=∃a,x=some a/\Q a
variable {α β γ:Type} {Q:β->Prop}
theorem Ok.mk{a:β}(h:Q a):Ok (some a) Q:=⟨a,rfl,h⟩
theorem Ok.bind{x:Option α}{P:α->Prop}{f:α->Option β}(h:Ok x P)(k:∀a,P a->Ok (f a) Q):Ok (x.bind f) Q:=by
 obtain⟨a,rfl,b⟩:=h
 exact k a b
theorem Ok.mono{x:Option β}{P:β->Prop}(h:Ok x P)(k:∀a,P a->Q a):Ok x Q:=by
 obtain⟨a,e,b⟩:=h
 exact⟨a,e,k a b⟩
theorem Ok.assoc{x:Option α}{g:α->Option γ}{f:γ->Option β}(h:Ok (x.bind λa=>(g a).bind f) Q):Ok ((x.bind g).bind f) Q:=by
 grind
theorem Ok.ite{c:Prop}[Decidable c]{x y:Option β}(a:c->Ok x Q)(b:¬c->Ok y Q):Ok (if c then x else y) Q:=by
 grind
theorem Ok.iteb{c:Prop}[Decidable c]{x y:Option α}{f:α->Option β}(a:c->Ok (x.bind f) Q)(b:¬c->Ok (y.bind f) Q):Ok ((if c then x else y).bind f) Q:=by
 grind
theorem Ok.tt[Decidable (true=true)]{x y:Option β}(h:Ok x Q):Ok (if true then x else y) Q:=by grind
theorem Ok.ff[Decidable (false=true)]{x y:Option β}(h:Ok y Q):Ok (if false then x else y) Q:=by grind
theorem Ok.ttb[Decidable (true=true)]{x y:Option α}{f:α->Option β}(h:Ok (x.bind f) Q):Ok ((if true then x else y).bind f) Q:=by grind
theorem Ok.ffb[Decidable (false=true)]{x y:Option α}{f:α->Option β}(h:Ok (y.bind f) Q):Ok ((if false then x else y).bind f) Q:=by grind
theorem Ok.someb{a:α}{f:α->Option β}(h:Ok (f a) Q):Ok ((some a).bind f) Q:=h
theorem Ok.mapb{a:α}{g:α->γ}{f:γ->Option β}(h:Ok (f (g a)) Q):Ok (((some a).map g).bind f) Q:=h
theorem Ok.cat{x y:BA}{f:BA->Option β}(a:x.size+y.size<=1000000000)(h:∀s:BA,s.size=x.size+y.size->Ok (f s) Q):Ok ((bW x y).bind f) Q:=by
 grind [bW,Go.maxLen]
theorem Ok.app{b:Nat}{l k:List α}{f:List α->Option β}(c:(l.length+k.length)*b<=140737488355328)(a:0<b)(h:Ok (f (l++k)) Q):Ok ((dS b l k).bind f) Q:=by
 grind [eT]
theorem Ok.loop{σ:Type}{f:σ->Option (σ⊕α)}{g:α->Option β}{s:σ}{N:Nat}(I:σ->Prop)(μ:σ->Nat)(R:α->Prop)
  (h:∀s,I s->Ok (f s) λr=>match r with| .inl s'=>I s'/\μ s'<μ s| .inr b=>R b) (c:I s) (e:μ s<N) (k:∀b,R b->Ok (g b) Q):Ok ((aA f N s).bind g) Q:=by
 obtain⟨b,d,a⟩:=ZN I μ R (λs c=>by
  obtain⟨r,d,a⟩:=h s c
  cases r with
  |inl s'=>exact .inr ⟨s',d,a.1,a.2⟩
  |inr b=>grind) N s c e
 grind
theorem Ru(a:Array UInt8):(⟨a⟩:BA).size=a.size:=rfl
theorem qEd{N:Nat}{v n:Int}(d:n<=9223372036854775807):∃r,SE N v n=some r/\0<=r/\(1<=n->r<n):=by
 simp only[SE]
 by_cases h:n<=1
 .exact⟨0,by simp[h],by omega,by omega⟩
 have a:n≠0:=by omega
 have b:=Int.tmod_lt_of_pos v (show 0<n by omega)
 have c:=Int.lt_tmod_of_pos v (show 0<n by omega)
 grind [BG,bA]
theorem TT{N:Nat}{l:List Int}{a n:Int}(c:0<=a)(f:a<4611686018427387904)(d:n<=9223372036854775807):∃r,pX N (l,a) n=some ((l,a+1),r)/\0<=r/\(1<=n->r<n):=by
 simp only[pX]
 have b:∃v,(if(decide (a<(List.length l:Int)))then((aO l a).bind λe=>some e) else(some (Int.tmod (wI (a*7)) 11)):Option Int)=some v:=by
  by_cases h:a<(l.length:Int)
  .exact⟨_,by simp only[h,decide_true,jJ];rw[ZV c aa];rfl⟩
  exact⟨_,by simp only[h,decide_false,j7,jE];rfl⟩
 obtain⟨v,b⟩:=b
 obtain⟨r,o,g,k⟩:=qEd (N:=N) (v:=v) d
 grind [bA]
variable {N:Nat} {l:List Int} {a:Int}
theorem Ok.next{n:Int}{f:(List Int×Int)×Int->Option β}(b:0<=a)(c:a<4611686018427387904)(k:1<=n)(d:n<=1000000)(h:∀r,0<=r->r<n->Ok (f ((l,a+1),r)) Q):Ok ((pX N (l,a) n).bind f) Q:=by
 obtain⟨r,o,e,g⟩:=TT (N:=N) (l:=l) b c (show n<=9223372036854775807 by omega)
 grind
theorem Ok.chance{n m:Int}{f:(List Int×Int)×Bool->Option β}(b:0<=a)(c:a<4611686018427387904)(k:1<=m)(d:m<=1000000)(h:∀r,Ok (f ((l,a+1),r)) Q):Ok ((rF N (l,a) n m).bind f) Q:=by
 obtain⟨r,o,e,g⟩:=TT (N:=N) (l:=l) b c (show m<=9223372036854775807 by omega)
 grind [rF]
theorem Ok.one{L:List BA}{f:(List Int×Int)×BA->Option β}(b:0<=a)(c:a<4611686018427387904)(k:0<L.length)(d:L.length<1000)(h:∀x∈L,Ok (f ((l,a+1),x)) Q):Ok ((mY N (l,a) L).bind f) Q:=by
 obtain⟨r,n,e,g⟩:=TT (N:=N) (l:=l) b c (show(L.length:Int)<=9223372036854775807 by omega)
 grind [mY,ZV]
theorem Ok.oneP{L:List BA}{f:(List Int×Int)×BA->Option β}(d:0<=a)(e:a<4611686018427387904)(k:decide ((List.length L:Int)>0)=true)(b:L.length<1000)(c:∀x∈L,x.size<=12)(h:∀x:BA,x.size<=12->Ok (f ((l,a+1),x)) Q):Ok ((mY N (l,a) L).bind f) Q:=
 Ok.one d e (by grind) b λx g=>h x (c x g)
theorem Ok.pick{L:List Int}{f:(List Int×Int)×Int->Option β}(b:0<=a)(c:a<4611686018427387904)(k:0<L.length)(d:L.length<1000)(h:∀x∈L,Ok (f ((l,a+1),x)) Q):Ok ((xT N (l,a) L).bind f) Q:=by
 obtain⟨r,n,e,g⟩:=TT (N:=N) (l:=l) b c (show(L.length:Int)<=9223372036854775807 by omega)
 grind [xT,ZV]
def qJ:Nat->Nat
 |0=>8
 |d+1=>3*qJ d+8
theorem Ok.pick01{β:Type}{Q:β->Prop}{a:Int}{f:(List Int×Int)×Int->Option β}(b:0<=a)(c:a<4611686018427387904)(h:∀x:Int,x=0\/x=1->Ok (f ((l,a+1),x)) Q):Ok ((xT N (l,a) [0,0,0,1]).bind f) Q:=
 Ok.pick b c ac ac λx d=>h x (by grind)
theorem qJn{L:List BA}{x:BA}(a:L.length<1000000)(b:L.length<N):Ok (FP N L x) λ_=>True:=by
 unfold FP
 refine Ok.loop (λst=>∃j:Nat,st=(j:Int)/\j<=L.length) (λst=>L.length-st.toNat) (λ_=>True) ?_ ⟨0,rfl,jQ _⟩ (by grind) ?_
 .grind [WW,cD,Ok.mk,bA]
 grind [Ok.mk]
theorem Ok.has{β:Type}{Q:β->Prop}{L:List BA}{x:BA}{f:Bool->Option β}(a:L.length<1000000)(c:L.length<N)(h:∀b,Ok (f b) Q):Ok ((FP N L x).bind f) Q:=Ok.bind (qJn a c) λb _=>h b
theorem MM{N:Nat}{L:List bY}{p b:BA}(l:L.length<1000000)(c:Asc L):∀(d i M:Nat) (done:Bool) (acc:List bY),i+d=L.length->d<M->acc.length<=i+done.toNat->(done=true->∀f∈L.drop i,f.1≠p)->
  Ok (aA (KE N L (p,b)) M (done,(i:Int),acc)) λo=>o.2.length<=L.length+1/\(if o.1 then o.2 else o.2++[(p,b)])=acc++(if done then L.drop i else oR (L.drop i) p b)
 |_,_,0,_,_,_,h,_,_=>by omega
 |0,i,M+1,done,acc,s,_,a,_=>by
  refine⟨(done,acc),?_,by simp only;cases done<;>simp only[Bool.toNat_true,Bool.toNat_false] at a<;>omega,?_⟩
  .grind [aA,KE]
  grind [oR]
 |d+1,i,M+1,done,acc,s,u,a,k=>by
  have hi:i<L.length:=by omega
  have r:(i:Int)+1=((i+1:Nat):Int):=by omega
  have t:∀f∈L.drop (i+1),blt (L[i]).1 f.1=true:=by
   have:=(jF.1 (by rw[<-jN hi];exact List.Pairwise.sublist (List.drop_sublist _ _) c:Asc (L[i]::L.drop (i+1)))).1
   exact this
  simp only[aA,KE]
  rw[jB (by grind),cD hi,bA aa aa,r]
  rw[jN hi] at k ⊢
  simp only[j0,sO]
  cases done with
  |true=>
   simp only[Bool.toNat_true] at a
   have g:=k rfl _ (jD ..)
   have q:=MM (N:=N) (p:=p) (b:=b) l c d (i+1) M true (acc++[((L[i]).1,(L[i]).2)]) aa aa ah (λh f n=>k rfl f (jC _ n))
   simp only[kK,j7,jE,j0]
   grind [eT]
  |false=>
   simp only[Bool.toNat_false] at a
   simp only[kV,jJ,j0]
   rcases TD p (L[i]).1 with h|h|h
   .have h':Op.bytesLess p.toList (L[i]).1.toList=true:=h
    have g:(L[i]).1≠p:=λe=>UV h e.symm
    have q:=MM (N:=N) (p:=p) (b:=b) l c d (i+1) M true ((acc++[(p,b)])++[((L[i]).1,(L[i]).2)]) aa aa ah (λ_ f n e=>by
     grind [GK,AA])
    rw[h',Bool.true_or,jB rfl,eT (by grind) aa]
    simp only[j0]
    grind [eT,oR]
   .have q:=MM (N:=N) (p:=p) (b:=b) l c d (i+1) M true (acc++[(p,b)]) aa aa ah (λ_ f n e=>by
     grind [AA])
    rw[kE h,Bool.or_true,jB rfl,eT (by grind) aa]
    simp only[j0]
    grind [oR,AA]
   have g:(L[i]).1≠p:=UV h
   have h':Op.bytesLess p.toList (L[i]).1.toList=false:=Kk h
   have q:=MM (N:=N) (p:=p) (b:=b) l c d (i+1) M false (acc++[((L[i]).1,(L[i]).2)]) aa aa ah (λh=>by cases h)
   rw[h',kC (λe=>g e.symm),Bool.or_false,jA ad]
   simp only[j0]
   grind [eT,oR,blt]
theorem AG{N:Nat}{L:List bY}(p b:BA)(d:L.length<1000000)(c:Asc L)(a:L.length<N):rH N L (p,b)=some (oR L p b):=by
 obtain⟨o,e,f,g⟩:=MM (N:=N) (p:=p) (b:=b) d c L.length 0 N false [] aa a ad (λh=>by cases h)
 grind [rH,eT]
def srcL:List BA:=[(⟨#[97,46,115,114,99]⟩:BA),(⟨#[98,46,115,114,99]⟩:BA),(⟨#[100,47,99,46,115,114,99]⟩:BA),(⟨#[120,46,115,114,99]⟩:BA)]
def datL:List BA:=[(⟨#[97,46,100,97,116]⟩:BA),(⟨#[100,47,98,46,100,97,116]⟩:BA),(⟨#[99]⟩:BA)]
theorem Ot:(srcL.all λp=>eU p.data.toList)=true:=by kernel_rfl
theorem Pg:(datL.all λp=>eU p.data.toList)=true:=by kernel_rfl
def Made(L:List bY):Prop:=Asc L/\∀f∈L,f.1∈srcL++datL/\f.2.size<=4700
theorem Made.put{L:List bY}(h:Made L){p b:BA}(d:p∈srcL++datL)(c:b.size<=4700):Made (oR L p b):=
 ⟨h.1.put p b,λf a=>by
  rcases NE a with rfl|a
  .exact⟨d,c⟩
  exact h.2 f a⟩
theorem Made.path{L:List bY}(h:Made L){f:bY}(a:f∈L):eU f.1.data.toList=true:=by
 rcases kJ.1 (h.2 f a).1 with h|h
 .grind [Ot]
 grind [Pg]
theorem qEy{N:Nat}{y1:List BA}{a:Int×(List (BA×BA))×List (Int)×Int}:QK N y1 a=
 if(decide (a.1<(List.length y1:Int)))then(((aO y1 a.1).bind λd=>(rF N (a.2.2.1,a.2.2.2) 3 4).bind λb=>if b.2 then((zQ N).bind λe=>(mY N (b.1.1,b.1.2) e).bind λc=>(zW N (c.1.1,c.1.2) c.2).bind λy5=>(rH N a.2.1 (d,y5.2)).bind λf=>some (f,y5.1.1,y5.1.2)) else(some (a.2.1,b.1.1,b.1.2)):Option ((List (BA×BA))×List (Int)×Int)).bind λo2=>some (.inl (wI (a.1+1),o2.1,o2.2.1,o2.2.2))) else(some (.inr (a.2.1,a.2.2.1,a.2.2.2))):=rfl
theorem qEo{N:Nat}{a:Int×(List (BA×BA))×List (Int)×Int}:WC N a=
 if(decide (a.1<(List.length datL:Int)))then(((aO datL a.1).bind λe=>(rF N (a.2.2.1,a.2.2.2) 1 3).bind λb=>if b.2 then((FK N (b.1.1,b.1.2)).bind λd=>(rH N a.2.1 (e,d.2)).bind λf=>some (f,d.1.1,d.1.2)) else(some (a.2.1,b.1.1,b.1.2)):Option ((List (BA×BA))×List (Int)×Int)).bind λc=>some (.inl (wI (a.1+1),c.1,c.2.1,c.2.2))) else(some (.inr (a.2.1,a.2.2.1,a.2.2.2))):=rfl
theorem Pn{N:Nat}{l:List Int}{a:Int}(h:100<N)(f:0<=a)(g:a<1000000000000000000):Ok (FK N (l,a)) λy=>∃a' s,y=((l,a'),s)/\a<=a'/\a'<=a+10/\s.size<=10:=by
 simp only[FK]
 refine Ok.next aa aa aa aa λr d e=> ?_
 dsimp only
 simp only[WM]
 refine Ok.assoc ?_
 refine Ok.loop (λst=>∃L n a',st=(L,n,l,a')/\0<=n/\n<=r/\(L.length:Int)=n/\a<=a'/\a'<=a+1+n) (λst=>(r-st.2.1).toNat) (λb=>∃L a',b=(L,l,a')/\L.length<=4/\a<=a'/\a'<=a+5) ?_ ⟨[],0,a+1,rfl,by omega,by omega,rfl,by omega,by omega⟩ (by dsimp only;omega) ?_
 .rintro _ ⟨L,n,a',rfl,k,o,p,q,t⟩
  have c:ByteArray.size (⟨#[97,98,0,255,48]⟩:BA)=5:=rfl
  simp only[VZ,c]
  grind [Ok.next,iB,Ok.app,Ok.mk,bA]
 grind [Ok.mk,nD]
theorem Made.wf{L:List bY}(h:Made L)(b:L.length<=64):WF L:=⟨b,h.1,λf a=>⟨h.path a,kM (h.2 f a).2 ac⟩⟩
def MadeE(K:Nat)(L:List bY):Prop:=Asc L/\∀f∈L,eU f.1.data.toList=true/\f.2.size<=K
theorem Made.e{L:List bY}(h:Made L):MadeE 4700 L:=⟨h.1,λf a=>⟨h.path a,(h.2 f a).2⟩⟩
theorem MadeE.put{K:Nat}{L:List bY}(h:MadeE K L){p b:BA}(d:eU p.data.toList=true)(c:b.size<=K):MadeE K (oR L p b):=
 ⟨h.1.put p b,λf a=>by
  rcases NE a with rfl|a
  .exact⟨d,c⟩
  exact h.2 f a⟩
theorem MadeE.del{K:Nat}{L:List bY}(h:MadeE K L)(p:BA):MadeE K (yW L p):=⟨h.1.del p,λf a=>h.2 f (gL.1 a).1⟩
theorem MadeE.more{K K':Nat}{L:List bY}(h:MadeE K L)(b:K<=K'):MadeE K' L:=⟨h.1,λf a=>⟨(h.2 f a).1,kM (h.2 f a).2 b⟩⟩
theorem MadeE.wf{K:Nat}{L:List bY}(h:MadeE K L)(b:K<=16384)(c:L.length<=64):WF L:=⟨c,h.1,λf a=>⟨(h.2 f a).1,kM (h.2 f a).2 b⟩⟩
theorem Lb{N:Nat}{L:List bY}{p:BA}(e:L.length<1000000)(b:L.length<N):LG N L p=some (yW L p):=by
 have h:=mM (L:=L) (λ(t:List bY) i=>((i:Int),t)) (f:=KD N L p) (λt f=>(.inl (if decide (f.1≠p)then t++[f] else t):List bY⊕List bY)) (λt=>t) (λi t=>t.length<=i) (λt i hi d=>by
   grind [bA,KD,cD,sO,eT]) (λt i hi t' d c=>by
   grind) (λt _=>by
   grind [KD]) (t:=[]) b (jQ _)
 rw[show((0:Nat):Int)=0 from rfl] at h
 have c:=pG (step:=λ(t:List bY) (f:bY)=>(.inl (if decide (f.1≠p)then t++[f] else t):List bY⊕List bY)) (fin:=λt=>t) (λ(t:List bY) (f:bY)=>if decide (f.1≠p)then t++[f] else t) (λ_ _=>rfl) L []
 unfold LG
 rw[h,c]
 simp only[j0]
 congr 1
 have:∀(a t:List bY),a.foldl (λt f=>if decide (f.1≠p)then t++[f] else t) t=t++yW a p:=by
  intro a
  induction a with
  |nil=>grind [yW]
  |cons x a g=>
   grind [yW]
 rw[this];rfl
theorem Pq(L:List bY)(p:BA):(yW L p).length<=L.length:=List.length_filter_le _ _
variable {K:Nat} {L:List bY}
theorem qDb{f:Int->Option (Int⊕(Unit⊕((List Int×Int)×List bY)))}{Q:(List Int×Int)×List bY->Prop}{p:BA}(n:L.length<=100)(k:200<N)
  (e:∀j,∀d:j<L.length,L[j].1=p->Ok (f (j:Int)) λr=>∃z,r= .inr (.inr z)/\Q z) (g:∀j,∀d:j<L.length,¬L[j].1=p->f (j:Int)=some (.inl ((j+1:Nat):Int))) (l:f (L.length:Int)=some (.inr (.inl ()))):
  Ok (aA f N 0) λo=>o= .inl ()\/∃z,o= .inr z/\Q z:=by
 obtain⟨b,a,c⟩:=ZN (f:=f) (λs=>∃j:Nat,s=(j:Int)/\j<=L.length) (λs=>L.length-s.toNat) (λo=>o= .inl ()\/∃z,o= .inr z/\Q z) (λs h=>by
  obtain⟨j,rfl,d⟩:=h
  by_cases hlt:j<L.length
  .by_cases hp:L[j].1=p
   .obtain⟨r,a,z,rfl,c⟩:=e j hlt hp
    grind
   exact .inr ⟨_,g j hlt hp,⟨j+1,rfl,hlt⟩,by grind⟩
  grind) N 0 ⟨0,rfl,jQ _⟩ (by grind)
 exact⟨b,a,c⟩
theorem qIk(M:Nat):sQ (M+1) 0=some (⟨#[48]⟩:BA)/\sQ (M+1) 1=some (⟨#[49]⟩:BA)/\sQ (M+1) 2=some (⟨#[50]⟩:BA):=⟨by kernel_rfl,by kernel_rfl,by kernel_rfl⟩
theorem GX{x y z:BA}(h:x++y=z)(a:x.size+y.size<=1000):bW x y=some z:=by
 grind [bW,Go.maxLen]
theorem qLc{x:Int}(d:0<=x)(e:x<3){M:Nat}:∃s t p:BA,sQ (M+1) x=some s/\bW (⟨#[122]⟩:BA) s=some t/\bW t (⟨#[46,115,114,99]⟩:BA)=some p/\eU p.data.toList=true:=by
 obtain⟨d0,a,b⟩:=qIk M
 have c:x=0\/x=1\/x=2:=by omega
 rcases c with rfl|rfl|rfl
 .exact⟨_,⟨#[122,48]⟩,⟨#[122,48,46,115,114,99]⟩,d0,GX ae ac,GX ae ac,by kernel_rfl⟩
 .exact⟨_,⟨#[122,49]⟩,⟨#[122,49,46,115,114,99]⟩,a,GX ae ac,GX ae ac,by kernel_rfl⟩
 exact⟨_,⟨#[122,50]⟩,⟨#[122,50,46,115,114,99]⟩,b,GX ae ac,GX ae ac,by kernel_rfl⟩
theorem Mg{p:BA}(h:p∈srcL):eU p.data.toList=true:=jL.1 Ot p h
theorem Nc{p:BA}(h:p∈datL):eU p.data.toList=true:=jL.1 Pg p h
def xG:Nat->Nat->List UInt8
 |0,n=>[UInt8.ofNat n]
 |k+1,n=>if n<128 then[UInt8.ofNat n] else UInt8.ofNat (n%128+128)::xG k (n/128)
def VM(n:Nat):List UInt8:=xG 9 n
theorem Ai:∀k n,(xG k n).length<=k+1
 |0,n=>by simp[xG]
 |k+1,n=>by
  simp only[xG]
  split
  .simp
  have:=Ai k (n/128);grind
theorem CN(n:Nat):(VM n).length<=10:=Ai 9 n
theorem qBu(n:Nat):uG (n:Int)=UInt8.ofNat n:=by simp[uG]
theorem Iq(n:Nat):uG (IntKind.wrap .u8 (n:Int))=UInt8.ofNat n:=by
 grind [qEx,qBu,UInt8.toNat_inj,UInt8.toNat_ofNat']
theorem Mh(f:Int×List UInt8->Option ((Int×List UInt8)⊕(Int×List UInt8)))
  (b:∀(n:Nat) (out:List UInt8),128<=n->n<18446744073709551616->out.length+1<=140737488355328->f ((n:Int),out)=some (.inl (((n/128:Nat):Int),out++[UInt8.ofNat (n%128+128)])))
  (c:∀(n:Nat) (out:List UInt8),n<128->f ((n:Int),out)=some (.inr ((n:Int),out))):
  ∀(k N n:Nat) (out:List UInt8),n<18446744073709551616->n<128^(k+1)->k<N->out.length+k<=140737488355328->
   ∃(r:Nat) (o:List UInt8),aA f N ((n:Int),out)=some ((r:Int),o)/\r<128/\o++[UInt8.ofNat r]=out++xG k n
 |k,0,_,_,_,_,h,_=>absurd h (jO _)
 |0,N+1,n,out,_,a,_,_=>⟨n,out,by grind [aA],by simpa using a,by simp[xG]⟩
 |k+1,N+1,n,out,p,a,l,q=>by
  by_cases h:n<128
  .exact⟨n,out,by grind [aA],h,by simp[xG,h]⟩
  obtain⟨r,o,d,e,g⟩:=Mh f b c k N (n/128) (out++[UInt8.ofNat (n%128+128)]) aa (by grind) aa (by grind)
  grind [xG,aA]
theorem Xt{N:Nat}{l:List UInt8}{n:Nat}(e:n<18446744073709551616)(d:9<N)(g:l.length+10<=140737488355328):QZ N l (n:Int)=some (l++VM n):=by
 obtain⟨r,o,b,c,a⟩:=Mh (JT N) (λn out b c a=>by
  grind [JT,wu8,Iq,eT,AX]) (λn out h=>by
  grind [JT]) 9 N n l e aa d aa
 have f:o.length+1=l.length+(xG 9 n).length:=by have:=kA List.length a;simpa using this
 have:=Ai 9 n
 simp only[QZ]
 rw[eT ah aa]
 simp only[j0,kT,b]
 rw[Iq,eT ah aa,a];rfl
theorem Ff{N:Nat}{l:List UInt8}{s:BA}(a:9<N)(b:l.length+10+s.size<=140737488355328):CA N l s=some (l++VM s.size++s.data.toList):=by
 grind [CN,CA,AX,Xt,eT,ByteArray.size_data]
end
section
open Go Go.Dc Go.Proofs
def oY(s:BA):List UInt8:=VM s.size++s.data.toList
def catP(l:List (BA×BA)):List UInt8:=l.flatMap λf=>oY f.1++oY f.2
abbrev Ld:=BA×Sr
def OH(pkg:BA)(l:List Ld):List Ld:=l.filter λx=>decide (x.2.1=pkg)
def uB(l:List Ld)(place:BA)(i:Int):Sr×Int:=match l.find? λx=>decide (x.1=place) with
 |some x=>(x.2,i)
 |none=>(rQ,0)
theorem YS:∀{l:List Ld},(l.map (·.1)).Nodup->∀x∈l,l.find? (λy=>decide (y.1=x.1))=some x
 |[],_,x,a=>by cases a
 |y::l,b,x,a=>by
  rw[kO,fJ] at b
  rcases jG.1 a with rfl|a
  .grind
  have c:y.1≠x.1:=λe=>b.1 (by grind)
  rw[List.find?_cons_of_neg (by simpa using c),YS b.2 x a]
abbrev Pd:=List BA×List Sr
def eO(l:List Ld):Pd:=(l.map (·.1),l.map (·.2))
theorem ZH{N:Nat}{l:List Ld}{e:eS}(c:l.length<=64)(b:1000<N):zT N (eO l) e=some (uB l e.2.2.2.1 e.2.2.2.2.1):=by
 have a:=mM (L:=l) (λ(_:Unit) (i:Nat)=>(i:Int)) (f:=JW N (eO l) e)
  (λ_ x=>if decide (x.1=e.2.2.2.1)then .inr (.inr (x.2,e.2.2.2.2.1)) else .inl ()) (λ_=>(.inl ():Unit⊕(Sr×Int))) (λ_ _=>True) (by
   grind [eO,bA,JW,cD,nY]) (λ_ _ _ _ _ _=>trivial) (by
   grind [JW,eO]) (M:=N) (t:=()) aa trivial
 rw[show((0:Nat):Int)=0 from rfl] at a
 have key:∀l:List Ld,run (λ(_:Unit) (x:Ld)=>if decide (x.1=e.2.2.2.1)then(.inr (.inr (x.2,e.2.2.2.2.1)):Unit⊕(Unit⊕(Sr×Int))) else .inl ()) (λ_=>(.inl ():Unit⊕(Sr×Int))) l ()=match l.find? λx=>decide (x.1=e.2.2.2.1) with
   |some x=> .inr (x.2,e.2.2.2.2.1)
   |none=> .inl ():=by
  intro l
  induction l with
  |nil=>rfl
  |cons x l d=>
   grind [run]
 unfold zT uB
 rw[a,key]
 simp only[j0]
 cases l.find? λx=>decide (x.1=e.2.2.2.1) with
 |none=>rfl
 |some x=>rfl
theorem qKk{f:Sr}(h:DP f):BK f:=⟨by have:=h.1;omega,by have:=h.2.1;omega,λd e=>by
 obtain⟨a,b,c⟩:=h.2.2 d e
 exact⟨by omega,by omega,λx g=>by have:=c x g;omega⟩⟩
theorem qFj{N:Nat}{f:Sr}{i:Int}(l:DP f)(d:3000000<N):Ok (SB N f i) λy=>y.1.size<=40000:=by
 unfold SB
 rw[qCi (qKk l) d]
 refine Ok.someb (Ok.ite (λ_=>Ok.mk (by show 0<=40000;omega)) λa=> ?_)
 have g:NJ f=0:=by simpa using a
 have p:=qEf g
 refine Ok.bind (P:=λb=>b=false->0<=i/\i<(f.2.2.length:Int)) (Ok.ite (λ_=>Ok.mk λh=>by cases h) λn=>Ok.mk λo=> ?_) λb e=> ?_
 .grind
 refine Ok.ite (λ_=>Ok.mk (by show 0<=40000;omega)) λc=> ?_
 obtain⟨q,r⟩:=e (by simpa using c)
 obtain⟨k,rfl⟩:∃k:Nat,i=(k:Int):=⟨i.toNat,by omega⟩
 grind [qKm,qFw,qDj,cD,qEn,Ok.cat,nD,Ok.mk]
structure Ldd(l:List Ld):Prop where
 len:l.length<=64
 nod:(l.map (·.1)).Nodup
 ok:∀x∈l,DP x.2
theorem Ldd.decs{l:List Ld}(h:Ldd l):∀x∈l,x.2.2.2.length<=64:=λx a=>(h.ok x a).2.1
theorem qFc{l:List Ld}(h:Ldd l)(p:BA)(i:Int):DP (uB l p i).1:=by
 unfold uB
 cases hf:l.find? λx=>decide (x.1=p) with
 |none=>exact ZZ
 |some x=>exact h.ok x (fT hf)
theorem Kq{N:Nat}{l:List Ld}(h:Ldd l)(kind:Int)(pkg name:BA)(a:3000000<N):Ok (wB N (eO l) kind pkg name) λs=>s.size<=50000:=by
 unfold wB
 rw[show uQ N (eO l) kind pkg name=_ from MZ kind pkg name h.len h.decs aa]
 refine Ok.someb (Ok.ite (λ_=>Ok.mk (by show 1<=50000;omega)) λ_=>Ok.ite (λ_=>Ok.mk (by show 1<=50000;omega)) λ_=> ?_)
 rw[ZH h.len aa]
 refine Ok.someb (Ok.bind (qFj (qFc h _ _) a) λy b=> ?_)
 have z:(⟨#[61]⟩:BA).size=1:=rfl
 grind [Ok.cat,Ok.mk]
def yG(L:List bY)(l:List Ld)(pkg:BA):List (BA×BA):=(OH pkg l).map λx=>(x.1,(qO L x.1).1)
def eqB1:BA:=⟨#[61]⟩
theorem qDw{N:Nat}{L:List bY}{l:List Ld}{K:Nat}(pkg:BA)(c:l.length<=64)(g:∀x∈l,x.1.size<=100)(h:∀x∈l,(qO L x.1).1.size<=K)(u:K<=100000)(v:3000000<N):
  FI N L (eO l) pkg=some (eqB1++dP (catP (yG L l pkg)))/\(catP (yG L l pkg)).length<=l.length*(K+120):=by
 have b:(catP (yG L l pkg)).length<=l.length*(K+120):=by
  clear c
  unfold yG OH
  induction l with
  |nil=>simp[catP]
  |cons x l d=>
   grind [CN,Nat.succ_mul,oY,catP,mX]
 refine⟨?_,b⟩
 have a:=mM (L:=l) (λ(t:List UInt8) (i:Nat)=>(t,(i:Int))) (f:=KI N L (eO l) pkg)
  (λt x=> .inl (if decide (x.2.1=pkg)then t++(oY x.1++oY (qO L x.1).1) else t)) (λt=>t) (λi t=>t.length<=i*(K+120)) (by
   intro t i hi s
   have n:i<(eO l).1.length:=by grind [eO]
   have o:i<(eO l).2.length:=by grind [eO]
   have r:(eO l).1[i]=(l[i]).1:=by simp[eO]
   have e:(eO l).2[i]=(l[i]).2:=by simp[eO]
   have p:=g _ (jI hi)
   have q:=h _ (jI hi)
   have k:i*(K+120)<=64*(K+120):=kD _ aa
   have ew:wI ((i:Int)+1)=((i+1:Nat):Int):=by grind [bA]
   have y:=CN (l[i]).1.size
   simp only[KI]
   rw[jB (by grind),cD o]
   simp only[j0,nY,e,ew]
   by_cases hp:(l[i]).2.1=pkg
   .rw[jB (by simpa using hp),jB (by simpa using hp),cD n]
    grind [GJ,Ff,List.length_append,mX,oY]
   grind) (by
   grind [CN,oY,mX]) (by
   grind [KI,eO]) (M:=N) (t:=[]) aa ad
 rw[show((0:Nat):Int)=0 from rfl] at a
 have k:l.length*(K+120)<=64*(K+120):=kD _ c
 have z:(⟨#[61]⟩:BA).size=1:=rfl
 have key:∀(l:List Ld) (t:List UInt8),l.foldl (λt x=>if decide (x.2.1=pkg)then t++(oY x.1++oY (qO L x.1).1) else t) t=t++catP (yG L l pkg):=by
  intro l
  induction l with
  |nil=>grind [yG,OH,catP]
  |cons x l d=>
   intro t
   rw[kI,d]
   unfold yG OH
   rw[List.filter_cons]
   by_cases hp:x.2.1=pkg
   .rw[jB (by simpa using hp),jB (by simpa using hp),kO,jW]
    rfl
   grind
 unfold FI
 rw[a,pG (λ(t:List UInt8) (x:Ld)=>if decide (x.2.1=pkg)then t++(oY x.1++oY (qO L x.1).1) else t) (λ_ _=>rfl),key,kT]
 simp only[j0]
 rw[catW (by rw[nD];omega)]
 rfl
theorem Ip{ts:List cO}{pkg:BA}(f:∀j,(aV ts j).2.1.size<100000):∀(n:Nat) (l:List BA) (i:Nat) (r:Nat×List BA),(∀s∈l,s.size<100000)->rK ts pkg n l i= .inr r->∀s∈r.2,s.size<100000
 |0,_,_,_,_,h=>by cases h
 |n+1,l,i,r,g,h=>by
  unfold rK at h
  split at h
  .split at h
   .cases h
   obtain⟨a,c,h⟩:=dF h
   split at h
   .cases h
   obtain⟨j,-,h⟩:=dF h
   have e:a.2=aV ts (i+1):=by
    obtain⟨b,d,c⟩:=dF c
    split at c
    .cases c
    obtain rfl:=Sum.inr.inj c
    unfold oG at d
    split at d
    .grind
    cases d
   refine Ip f n _ _ r (λs d=> ?_) h
   grind
  grind
theorem qDc(x:BA):∀s∈(lN x).1.2.1,s.size<100000:=by
 have d:∀s∈rQ.2.1,s.size<100000:=λs g=>by cases g
 unfold lN
 split
 .exact d
 rename_i e
 have e:(lP x).2.2=0:=by simpa using e
 split
 .exact d
 rename_i f c
 unfold uZ at c
 obtain⟨i,-,c⟩:=dF c
 obtain⟨a,-,c⟩:=dF c
 obtain⟨j,-,c⟩:=dF c
 obtain⟨b,h,c⟩:=dF c
 obtain⟨l,-,c⟩:=dF c
 grind [Ip,MT]
theorem SM{α:Type}[DecidableEq α]:∀{l k:List α},l.Nodup->(∀x∈l,x∈k)->l.length<=k.length
 |[],_,_,_=>jQ _
 |x::l,k,a,b=>by
  rw[fJ] at a
  have c:=b x (jD ..)
  have f:=List.length_pos_of_mem c
  have g:=SM (l:=l) (k:=k.erase x) a.2 λy d=>(List.mem_erase_of_ne (λe=>a.1 (by grind))).2 (b y (jC _ d))
  grind
def IA(l:List Ld):List BA:=l.flatMap λx=>x.2.2.1
theorem Mo:∀{l:List Ld},(∀x∈l,DP x.2)->(IA l).length<=8*l.length
 |[],_=>jQ _
 |x::l,h=>by
  have b:=(h x (jD ..)).1
  have c:=Mo λy a=>h y (jC _ a)
  grind [IA]
def TrI(l:List Ld)(pkg:BA)(b:Nat)(t:List BA):Prop:=t.Nodup/\(∀x∈t,x∈pkg::IA l)/\pkg∈t/\b<=t.length
theorem TrI.len{l:List Ld}{pkg:BA}{b:Nat}{t:List BA}(a:Ldd l)(h:TrI l pkg b t):t.length<=8*l.length+1:=by
 have c:=SM h.1 h.2.1
 have d:=Mo a.ok
 grind
variable {N:Nat} {l:List Ld} {pkg:BA}
theorem Oj{s:BA}{t:List BA}{z:Int}(a:t.length<1000000):∀(d i M:Nat),i+d=t.length->d<M->
  aA (KQ N (t,z) s) M (i:Int)=some (if s∈t.drop i then .inr true else .inl ())
 |d,i,0,_,h=>by omega
 |0,i,M+1,h,_=>by
  grind [aA,KQ]
 |d+1,i,M+1,h,b=>by
  have hi:i<t.length:=by omega
  have c:=Oj (s:=s) (z:=z) a d (i+1) M aa aa
  grind [bA,aA,KQ,cD,List.drop_eq_getElem_cons,nY]
theorem qHk{β:Type}{Q:β->Prop}{g:List BA->Option β}(S:1000000<N)(q:Ldd l){x:Ld}(v:x∈l){r:List BA×Int}{i b:Nat}(hi:r.2=(i:Int))(G:i<b){t:List BA}(d:TrI l pkg b t)
  (k:∀t,TrI l pkg b t->Ok (g t) Q):Ok ((aA (BZ N r x.2) N (t,0)).bind g) Q:=by
 have H:=(q.ok x v).1
 refine Ok.loop (λs=>0<=s.2/\s.2<=(x.2.2.1.length:Int)/\TrI l pkg b s.1) (λs=>((x.2.2.1.length:Int)-s.2).toNat) (TrI l pkg b) (λs D=> ?_) ⟨gB _,by simp only;omega,d⟩ ai k
 obtain⟨t,j⟩:=s
 obtain⟨E,F,d⟩:=D
 simp only at E F d
 have K:=q.len
 have R:=d.len q
 obtain⟨n,rfl⟩:∃n:Nat,j=(n:Int):=⟨j.toNat,by omega⟩
 unfold BZ
 refine Ok.ite (λp=> ?_) λp=>Ok.mk d
 have p:n<x.2.2.1.length:=by grind
 have u:i<t.length:=by have:=d.2.2.2;omega
 refine Ok.bind (P:=TrI l pkg b) ?_ λV A=>Ok.mk ?_
 .rw[cD p]
  refine Ok.someb (Ok.bind (P:=λo=>o=true->x.2.2.1[n]∉t) ?_ λY B=> ?_)
  .rw[show r.2=(i:Int) from hi,show(t,(n:Int)).1=t from rfl,cD u]
   refine Ok.someb (Ok.ite (λ_=> ?_) λ_=>Ok.mk λh=>by cases h)
   have A:=Oj (N:=N) (s:=x.2.2.1[n]) (z:=(n:Int)) (t:=t) aa t.length 0 N aa aa
   grind [Ok.mk]
  refine Ok.ite (λh=> ?_) λ_=>Ok.mk d
  refine Ok.app (by grind) ac (Ok.mk ?_)
  have M:=B h
  refine⟨?_,λy f=> ?_,kQ _ d.2.2.1,by have:=d.2.2.2;grind⟩
  .rw[List.nodup_append]
   refine⟨d.1,by simp,λa U c hc' e=> ?_⟩
   grind
  rcases kJ.1 f with f|f
  .exact d.2.1 y f
  rw[kY.1 f]
  exact jC _ (kL.2 ⟨x,v,jI p⟩)
 grind [bA]
theorem qHl{β:Type}{Q:β->Prop}{g:List BA->Option β}(q:1000000<N)(d:Ldd l){c:List BA×Int}{i b:Nat}(hi:c.2=(i:Int))(o:i<b){t:List BA}(a:TrI l pkg b t)
  (k:∀t,TrI l pkg b t->Ok (g t) Q):Ok ((aA (xV N (eO l) c) N (t,0)).bind g) Q:=by
 have p:=d.len
 have e0:(eO l).2.length=l.length:=by simp[eO]
 refine Ok.loop (λs=>0<=s.2/\s.2<=(l.length:Int)/\TrI l pkg b s.1) (λs=>((l.length:Int)-s.2).toNat) (TrI l pkg b) (λs e=> ?_) ⟨gB _,by simp only;omega,a⟩ ai k
 obtain⟨t,j⟩:=s
 obtain⟨f,h,a⟩:=e
 simp only at f h a
 obtain⟨n,rfl⟩:∃n:Nat,j=(n:Int):=⟨j.toNat,by omega⟩
 grind [xV,Ok.mk,eO,cD,qHk,bA]
theorem qEj{t:List BA}{k:Nat}{x y p:BA}(c:k+1<t.length)(d:t[k]? =some x)(e:t[k+1]? =some y)(a:p∈t):p∈(t.set (k+1) x).set k y:=by
 obtain⟨j,b⟩:=fK.1 a
 refine fK.2 ?_
 by_cases h1:j=k
 .subst h1
  refine⟨j+1,?_⟩
  grind
 by_cases h2:j=k+1
 .grind [List.getElem?_set_self]
 exact⟨j,by grind⟩
theorem qHh{β:Type}{Q:β->Prop}{g:List BA->Option β}{t S:List BA}{n i:Nat}(y:1000000<N)(A:n<=600)(a:t.length=n)(u:pkg∈t)(p:∀x∈t,x∈S)(hi:i<n)
  (k:∀t,t.length=n->pkg∈t->(∀x∈t,x∈S)->Ok (g t) Q):Ok ((aA (QW N) N ((i:Int),t)).bind g) Q:=by
 refine Ok.loop (λs=>∃j:Nat,s.1=(j:Int)/\j<n/\s.2.length=n/\pkg∈s.2/\∀x∈s.2,x∈S) (λs=>s.1.toNat) (λt=>t.length=n/\pkg∈t/\∀x∈t,x∈S) (λs v=> ?_) ⟨i,rfl,hi,a,u,p⟩ ai λt a=>k t a.1 a.2.1 a.2.2
 obtain⟨z,t⟩:=s
 obtain⟨j,rfl,B,c,d,e⟩:=v
 simp only at c d e
 unfold QW
 simp only
 refine Ok.bind (P:=λo=>o=true->0<j) (Ok.ite (λb=> ?_) λ_=>Ok.mk λh=>by cases h) λo r=>Ok.ite (λh=> ?_) λ_=>Ok.mk ⟨c,d,e⟩
 .have b:0<j:=by grind
  have ew:wI ((j:Int)-1)=((j-1:Nat):Int):=by grind [bA]
  grind [cD,Ok.mk]
 have b:=r h
 obtain⟨q,rfl⟩:∃q,j=q+1:=⟨j-1,by omega⟩
 have ew:wI (((q+1:Nat):Int)-1)=(q:Int):=by grind [bA]
 have l:q+1<t.length:=by omega
 have f:q<t.length:=by omega
 rw[ew,cD f,cD l]
 refine Ok.someb (Ok.someb (Ok.someb ?_))
 grind [Int.toNat_natCast,cD,Ok.mk,qEj]
theorem qGu(o:1000000<N)(e:Ldd l)(pkg:BA):Ok (FJ N (eO l) pkg) λt=>pkg∈t/\t.length<=8*l.length+1/\∀x∈t,x∈pkg::IA l:=by
 have q:=e.len
 unfold FJ
 refine Ok.loop (λs=>∃i:Nat,s.2=(i:Int)/\TrI l pkg 1 s.1/\i<=s.1.length) (λs=>600-s.2.toNat) (TrI l pkg 1) (λs h=> ?_) ⟨0,rfl,⟨by simp,λx u=>by grind,kY.2 rfl,jH _⟩,jQ _⟩ ai λf g=> ?_
 .obtain⟨t,z⟩:=s
  obtain⟨i,rfl,c,hi⟩:=h
  simp only at c hi
  have k:=c.len e
  unfold FC
  refine Ok.ite (λa=> ?_) λa=>Ok.mk c
  have a:i<t.length:=by grind
  refine qHl (i:=i) (b:=t.length) o e rfl a ⟨c.1,c.2.1,c.2.2.1,jH _⟩ λo2 d=>Ok.mk ?_
  have ew:wI ((i:Int)+1)=((i+1:Nat):Int):=by grind [bA]
  have n:=d.2.2.2
  have p:=d.len e
  simp only[ew]
  exact⟨⟨i+1,rfl,⟨d.1,d.2.1,d.2.2.1,by omega⟩,by omega⟩,by omega⟩
 have r:=g.len e
 refine Ok.loop (λs=>∃i:Nat,s.1=(i:Int)/\i<=f.length/\s.2.length=f.length/\pkg∈s.2/\∀x∈s.2,x∈pkg::IA l) (λs=>((f.length:Int)-s.1).toNat) (λt=>t.length=f.length/\pkg∈t/\∀x∈t,x∈pkg::IA l) (λs h=> ?_) ⟨0,rfl,jQ _,rfl,g.2.2.1,g.2.1⟩ ai λy n=>Ok.mk ⟨n.2.1,by omega,n.2.2⟩
 obtain⟨z,t⟩:=s
 obtain⟨i,rfl,v,c,d,k⟩:=h
 simp only at c d k
 unfold QX
 refine Ok.ite (λa=> ?_) λa=>Ok.mk ⟨c,d,k⟩
 have a:i<f.length:=by grind
 refine qHh (i:=i) o aa c d k a λt' t1 t2 p=>Ok.mk ?_
 have ew:wI ((i:Int)+1)=((i+1:Nat):Int):=by grind [bA]
 simp only[ew]
 exact⟨⟨i+1,rfl,by omega,t1,t2,p⟩,by omega⟩
abbrev Ky3:=Int×BA×BA
abbrev Da:=List (BA×Int)
structure SmF(L:List bY):Prop where
 asc:Asc L
 len:L.length<=20
 ok:∀f∈L,eU f.1.data.toList=true/\f.2.size<=10000
theorem qBz{L:List bY}(h:Asc L):(L.map (·.1)).Nodup:=by
 unfold List.Nodup
 rw[List.pairwise_map]
 exact List.Pairwise.imp (λ{f g} a e=>by grind [AA]) h
theorem GW{L:List bY}(h:SmF L):Ldd (dJ L)/\(dJ L).length<=20/\(∀x∈dJ L,x.1.size<=100)/\(∀x∈dJ L,(qO L x.1).1.size<=10000)/\∀x∈dJ L,x.2=(lN (qO L x.1).1).1:=by
 unfold dJ
 by_cases hc:fP L=0
 .rw[jB hc]
  have c:=(wH.1 hc).2.1
  have g:=YN L
  have b:∀x∈mF L,∃f∈L,x=(f.1,(lN f.2).1):=λx a=>by
   grind [TH]
  have d:∀f∈L,qO L f.1=(f.2,true):=λf d=>by
   unfold qO
   rw[jB hc,Gp c d]
   rfl
  have k:=h.len
  refine⟨⟨by omega,?_,λx a=> ?_⟩,by omega,λx a=> ?_,λx a=> ?_,λx a=> ?_⟩
  .have e:(mF L).map (·.1)=(L.filter sJ).map (·.1):=by unfold mF;simp_all
   rw[e]
   exact(qBz c).sublist (List.filter_sublist.map _)
  .grind [qDm]
  .obtain⟨f,b,rfl⟩:=b x a
   have:=GP (h.ok f b).1
   grind
  .obtain⟨f,b,rfl⟩:=b x a
   rw[d f b]
   exact(h.ok f b).2
  grind
 rw[jA hc]
 exact⟨⟨jQ _,List.nodup_nil,λx a=>(by cases a)⟩,jQ _,λx a=>(by cases a),λx a=>(by cases a),λx a=>(by cases a)⟩
def tC(L:List bY)(pkg:BA):BA:=eqB1++dP (catP (yG L (dJ L) pkg))
theorem TF{N:Nat}{L:List bY}(h:SmF L)(pkg:BA)(e:3000000<N):FI N L (eO (dJ L)) pkg=some (tC L pkg)/\(tC L pkg).size<=300000:=by
 obtain⟨b,g,c,d,-⟩:=GW h
 obtain⟨a,f⟩:=qDw (N:=N) (K:=10000) pkg b.len c d ac e
 refine⟨a,?_⟩
 have z:eqB1.size=1:=rfl
 grind [tC,nD]
def wY(env:Da):Prop:=env.length<=10/\∀v∈env,-9007199254740992<=v.2/\v.2<=9007199254740992
theorem qAb{N:Nat}{env:Da}(h:wY env)(s:BA)(d:1000<N):Ok (uO N env s) λy=> -9007199254740992<=y.1/\y.1<=9007199254740992:=by
 have e:=h.1
 unfold uO
 refine Ok.loop (λs=>∃i:Nat,s=(i:Int)/\i<=env.length) (λs=>env.length-s.toNat) (λo=>∀y,o= .inr y->-9007199254740992<=y.1/\y.1<=9007199254740992) (λs c=> ?_) ⟨0,rfl,jQ _⟩ aa λo f=> ?_
 .obtain⟨i,rfl,hi⟩:=c
  unfold EK
  refine Ok.ite (λa=> ?_) λa=>Ok.mk λy b=>by cases b
  have a:i<env.length:=by grind
  rw[cD a]
  refine Ok.someb (Ok.ite (λ_=>Ok.mk λy b=> ?_) λ_=>Ok.mk ?_)
  .obtain rfl:=(Sum.inr.inj b).symm
   exact h.2 _ (jI a)
  grind [bA]
 grind [Ok.mk]
variable {L:List bY} {env:Da}
theorem Pz(h:SmF L)(e:3000000<N){k:Ky3}(s:k.1=7)(D:k.2.1.size<=1000):∃t:List BA,FJ N (eO (dJ L)) k.2.1=some t/\(∀q∈t,q.size<=1000000)/\oD N L (eO (dJ L)) env k=some (eqB1++dP (catP (t.map λq=>(q,tC L q)))):=by
 obtain⟨r,A,-,-,B⟩:=GW h
 obtain⟨t,o,F,G,v⟩:=qGu (N:=N) aa r k.2.1
 have c:∀q∈t,q.size<=1000000:=λq a=>by
  rcases jG.1 (v q a) with rfl|a
  .omega
  obtain⟨x,p,a⟩:=kL.1 a
  grind [qDc]
 refine⟨t,o,c,?_⟩
 unfold oD
 rw[s,jA ac,jA ac,jA ac,jA ac,jA ac,jA ac,o]
 simp only[j0]
 have d:=mM (L:=t) (λ(b:List UInt8) (i:Nat)=>(b,(i:Int))) (f:=LH N L (eO (dJ L)) t)
  (λb q=> .inl (b++(oY q++oY (tC L q)))) (λb=>b) (λi b=>b.length<=i*2000000) (by
   intro b i hi g
   have a:=c _ (jI hi)
   obtain⟨y,n⟩:=TF (N:=N) h t[i] e
   have u:i*2000000<=200*2000000:=kD _ aa
   have E:=CN (t[i]).size
   have ew:wI ((i:Int)+1)=((i+1:Nat):Int):=by grind [bA]
   grind [LH,cD,Ff,List.length_append,mX,oY,List.append_assoc]) (by
   intro b i hi b' g l
   obtain rfl:=(Sum.inl.inj l).symm
   have a:=c _ (jI hi)
   obtain⟨-,n⟩:=TF (N:=N) h t[i] e
   grind [CN,List.length_append,oY,mX]) (by
   grind [LH]) (M:=N) (t:=[]) aa ad
 rw[show((0:Nat):Int)=0 from rfl] at d
 have key:∀(t:List BA) (b:List UInt8),t.foldl (λb q=>b++(oY q++oY (tC L q))) b=b++catP (t.map λq=>(q,tC L q)):=by
  intro t
  induction t with
  |nil=>grind [catP]
  |cons q t l=>
   intro b
   rw[kI,l,kO,jW]
   rfl
 have g:∀(t:List BA),(∀q∈t,q.size<=1000000)->(catP (t.map λq=>(q,tC L q))).length<=t.length*2000000:=by
  intro t
  induction t with
  |nil=>grind [catP]
  |cons q t l=>
   intro a
   have y:=l λx p=>a x (jC _ p)
   have E:=a q (jD ..)
   obtain⟨-,n⟩:=TF (N:=N) h q e
   grind [CN,oY,catP,List.length_append,mX]
 have l:=g t c
 have u:t.length*2000000<=200*2000000:=kD _ aa
 rw[d,pG (λb q=>b++(oY q++oY (tC L q))) (λ_ _=>rfl),key,kT]
 simp only[j0]
 have z:(⟨#[61]⟩:BA).size=1:=rfl
 rw[catW (by rw[nD];omega)]
 rfl
theorem Ly(h:SmF L)(a:3000000<N){k:Ky3}(b:k.1=6):oD N L (eO (dJ L)) env k=some (tC L k.2.1):=by
 grind [oD,TF]
theorem Av(a:3000000<N){k:Ky3}(b:k.1=1\/k.1=2):oD N L (eO (dJ L)) env k=wB N (eO (dJ L)) k.1 k.2.1 k.2.2:=by
 grind [oD]
theorem qLe(h:SmF L)(f:wY env)(c:3000000<N){k:Ky3}(l:k.2.1.size<=1000)(n:1<=k.1)(o:k.1<=7):∃v,oD N L (eO (dJ L)) env k=some v:=by
 obtain⟨e,p,-⟩:=GW h
 have any:∀{x:Option BA} {P:BA->Prop},Ok x P->∃v,x=some v:=λd=>⟨d.choose,d.choose_spec.1⟩
 have z:(⟨#[61]⟩:BA).size=1:=rfl
 rcases(by omega:(k.1=1\/k.1=2)\/k.1=3\/k.1=4\/k.1=5\/k.1=6\/k.1=7) with a|a|a|a|a|a
 .rw[Av c a]
  exact any (Kq e _ _ _ c)
 .unfold oD
  rw[a,jA ac,jA ac,jB ac]
  exact any (Ok.bind (Kq e 3 _ k.2.1 c) λy _=>Ok.mk (Q:=λ_=>True) trivial)
 .unfold oD
  rw[a,jA ac,jA ac,jA ac,jB ac,GJ _ aa]
  refine any (P:=λ_=>True) (Ok.someb (Ok.ite (λ_=> ?_) λ_=>Ok.mk trivial))
  refine Ok.cat ?_ λs _=>Ok.mk trivial
  have:(qO L k.2.1).1.size<=10000:=by
   unfold qO
   split
   .cases hg:mH L k.2.1 with
    |none=>show 0<=10000;omega
    |some b=>
     exact(h.ok _ (TU hg)).2
   show 0<=10000;omega
  omega
 .unfold oD
  rw[a,jA ac,jA ac,jA ac,jA ac,jB ac]
  refine any (P:=λ_=>True) (Ok.bind (qAb f _ aa) λy g=>Ok.ite (λ_=> ?_) λ_=>Ok.mk trivial)
  grind [YI,UF,Ok.cat,Ok.mk]
 .exact⟨_,Ly h c a⟩
 obtain⟨t,-,-,g⟩:=Pz (env:=env) h c a l
 exact⟨_,g⟩
end
section
open Go Go.Dc Go.Sort Go.Proofs
def nG{α:Type}[DecidableEq α]:List α->List α
 |[]=>[]
 |[x]=>[x]
 |x::y::l=>if x=y then nG (y::l) else x::nG (y::l)
theorem YC{α:Type}[DecidableEq α]:∀(l:List α) (z:α),z∈nG l↔z∈l
 |[],z=>Iff.rfl
 |[x],z=>Iff.rfl
 |x::y::l,z=>by
  have a:=YC (y::l) z
  grind [nG]
def rO{α:Type}(c:α->α->Int)(l:List α):Prop:=l.Pairwise λx y=>c x y<0
def Sn{α:Type}(c:α->α->Int)(l:List α):Prop:=l.Pairwise λx y=>c x y<=0
theorem Fy{α:Type}[DecidableEq α]{c:α->α->Int}(e:Lin c):∀{l:List α},Sn c l->rO c (nG l)
 |[],_=>List.Pairwise.nil
 |[x],_=>by simp[rO,nG]
 |x::y::l,h=>by
  obtain⟨p,k⟩:=jF.1 h
  have o:=Fy e (l:=y::l) k
  simp only[nG]
  split
  .exact o
  rename_i hne
  refine jF.2 ⟨λz f=> ?_,o⟩
  rw[YC] at f
  have d:c x y<0:=by
   have a:=p y (jD ..)
   have b:=e.zero x y
   grind
  rcases jG.1 f with rfl|f
  .exact d
  have n:=(jF.1 k).1 z f
  rcases Int.lt_or_eq_of_le n with g|g
  .exact e.trans _ _ _ d g
  rw[<-(e.zero y z).1 g];exact d
theorem Hj{α:Type}{c:α->α->Int}(a:Lin c):∀{l k:List α},rO c l->rO c k->(∀z,z∈l↔z∈k)->l=k
 |[],[],_,_,_=>rfl
 |[],y::k,_,_,h=>by grind [List.mem_cons_self]
 |x::l,[],_,_,h=>by grind [List.mem_cons_self]
 |x::l,y::k,r,s,h=>by
  obtain⟨d,f⟩:=jF.1 r
  obtain⟨n,o⟩:=jF.1 s
  have irr:∀z,¬c z z<0:=λz=>by have:=(a.zero z z).2 rfl;omega
  have b:x=y:=by
   rcases jG.1 ((h x).1 (jD ..)) with e|e
   .exact e
   rcases jG.1 ((h y).2 (jD ..)) with g|g
   .exact g.symm
   have p:=n x e;have q:=d y g
   exact absurd (a.trans _ _ _ p q) (irr y)
  subst b
  have:l=k:=Hj a f o λz=>by
   grind
  rw[this]
theorem qCy{α:Type}{c:α->α->Int}(a:Lin c)(l:List α):Sn c (l.mergeSort λx y=> !(ltOf c) y x):=by
 have:=List.pairwise_mergeSort (le:=λx y=> !(ltOf c) y x) (λx y z b d=>by
  simp only[fO,ltOf,decide_eq_false_iff_not] at*
  intro e
  have s:=a.swo.ntrans z y x (by grind [Go.Proofs.ltOf]) (by grind [Go.Proofs.ltOf])
  grind [Go.Proofs.ltOf]) (λx y=>by
  simp only[Bool.or_eq_true,fO,ltOf,decide_eq_false_iff_not]
  have:=a.anti x y;omega) l
 refine this.imp λh=> ?_
 rename_i x y
 simp only[fO,ltOf,decide_eq_false_iff_not] at h
 have:=a.anti y x;grind
theorem Jb{α:Type}[DecidableEq α]:∀(l:List α) (z x:α),nG (l++[z,x])=if z=x then nG (l++[z]) else nG (l++[z])++[x]
 |[],z,x=>by
  grind [nG]
 |[a],z,x=>by
  grind [nG]
 |a::b::l,z,x=>by
  have c:=Jb (b::l) z x
  grind [nG]
abbrev Ky:=Int×BA×BA
abbrev cK:Ky->Ky->Int:=qQ sK (qQ pM pM)
theorem cK_lin:Lin cK:=GY cmpI_lin (GY cmpS_lin cmpS_lin)
theorem OJ(x y:Ky):((x.1==y.1)&&((x.2.1.toList==y.2.1.toList)&&((x.2.2.toList==y.2.2.toList)&&true)))=decide (x=y):=by
 grind [Go.ByteArray.toList_eq,Go.WideShapes.bytes_inj]
section
variable {α:Type} [DecidableEq α]
theorem Hx(y:List α)(k:Nat)(a:k+1<y.length):nG (y.take (k+2))=if y[k]=y[k+1] then nG (y.take (k+1)) else nG (y.take (k+1))++[y[k+1]]:=by
 grind [List.take_succ_eq_append_getElem,Jb]
theorem qBv(y:List α)(h:0<y.length):nG (y.take 1)=y.take 1:=by
 cases y with
 |nil=>simp at h
 |cons a y=>simp[nG]
end
theorem Cj{N:Nat}{y:List Ky}{k:Nat}(c:y.length<5000000):∀(d j a M:Nat) (l:List Ky),k+j+d=y.length->d<M->1<=j->k<=a->a+1<=k+j->l.length=y.length->l.drop a=y.drop a->l.take a=nG (y.take (k+j))->
  ∃(p:Nat) (q:List Ky),aA (MP N y (k:Int)) M ((a:Int),(j:Int),l)=some ((p:Int),q)/\p<y.length/\q.length=y.length/\q.take p=nG y
 |d,j,a,0,l,_,h,_,_,_,_,_,_=>absurd h (jO _)
 |d,j,a,M+1,l,B,D,E,s,F,f,g,n=>by
  have elen:Int.toNat (List.length y:Int)=y.length:=by simp
  have etk:Int.toNat (k:Int)=k:=by simp
  have get:∀i,a<=i->(hi:i<y.length)->l[i]? =some y[i]:=λi hi t=>by
   have b:(l.drop a)[i-a]? =(y.drop a)[i-a]? :=by rw[g]
   rw[List.getElem?_drop,List.getElem?_drop] at b
   have:a+(i-a)=i:=by omega
   rw[this] at b
   rw[b];simp[t]
  simp only[aA,MP,elen,etk]
  rw[gI aa]
  cases d with
  |zero=>
   have o:¬((j:Int)<((y.length-k:Nat):Int)):=by omega
   simp only[o,decide_false,j7,jE,j0]
   refine⟨a,l,rfl,by omega,f,?_⟩
   rw[n,gI aa]
  |succ d=>
   have o:((j:Int)<((y.length-k:Nat):Int)):=by omega
   have u:wI ((j:Int)-1)=((j-1:Nat):Int):=by rw[bA aa aa];omega
   have r:wI ((j:Int)+1)=((j+1:Nat):Int):=by rw[bA aa aa];omega
   have v:wI ((a:Int)+1)=((a+1:Nat):Int):=by rw[bA aa aa];omega
   have x:aO (l.drop k) (j:Int)=some (y[k+j]' aa):=by
    simp only[aO,Int.natCast_nonneg,jJ,jT,List.getElem?_drop]
    exact get (k+j) aa aa
   have z:aO (l.drop k) ((j-1:Nat):Int)=some (y[k+(j-1)]' aa):=by
    simp only[aO,Int.natCast_nonneg,jJ,jT,List.getElem?_drop]
    exact get (k+(j-1)) aa aa
   have A:aO l (a:Int)=some (l[a]' aa):=cD aa
   have ejj:k+(j-1)+1=k+j:=by omega
   have b:=Hx y (k+(j-1)) aa
   have ed:k+(j-1)+2=k+j+1:=by omega
   simp only[ed,ejj] at b
   simp only[o,decide_true,jJ,u,x,z,j0,OJ]
   by_cases heq:y[k+j]' aa=y[k+(j-1)]' aa
   .simp only[heq,decide_true,kK,j7,jE,j0,r]
    rw[jB heq.symm] at b
    exact Cj c d (j+1) a M l aa aa aa s aa f g (by rw[n,<-b];rfl)
   simp only[heq,decide_false,kV,jJ,j0,A,v,r]
   rw[jA (λe=>heq e.symm)] at b
   refine Cj c d (j+1) (a+1) M _ aa aa aa aa aa (by simpa using f) ?_ ?_
   .simp only[jT]
    rw[List.drop_set_of_lt aa]
    have:=kA (List.drop 1) g
    simpa[List.drop_drop] using this
   simp only[jT]
   rw[kG ah]
   simp only[List.getElem_set_self]
   rw[List.take_set_of_le aa,n]
   exact b.symm
theorem Ry{N:Nat}{y1 y:List Ky}(c:y.length<5000000)(p:y1.length=y.length)(v:y.length<N):∀(d k M:Nat),k+1+d=y.length->d<M->nG (y.take (k+1))=y.take (k+1)->
  ∃o,aA (MN N y1 y) M ((k+1:Nat):Int)=some o/\(o= .inl ()/\nG y=y\/o= .inr (nG y))
 |d,k,0,_,h,_=>absurd h (jO _)
 |d,k,M+1,F,G,f=>by
  simp only[aA,MN,p]
  cases d with
  |zero=>
   have q:¬(((k+1:Nat):Int)<(y.length:Int)):=by omega
   simp only[q,decide_false,j7,jE,j0]
   refine⟨_,rfl,.inl ⟨rfl,?_⟩⟩
   rw[gI aa] at f;exact f
  |succ d=>
   have q:(((k+1:Nat):Int)<(y.length:Int)):=by omega
   have x:wI (((k+1:Nat):Int)-1)=(k:Int):=by rw[bA aa aa];omega
   have z:wI (((k+1:Nat):Int)+1)=((k+1+1:Nat):Int):=by rw[bA aa aa];omega
   have A:aO y ((k+1:Nat):Int)=some (y[k+1]' aa):=cD aa
   have B:aO y (k:Int)=some (y[k]' aa):=cD aa
   have n:=Hx y k aa
   simp only[q,decide_true,jJ,x,A,B,j0,OJ]
   by_cases heq:y[k+1]' aa=y[k]' aa
   .rw[jB heq.symm] at n
    simp only[heq,decide_true,jJ]
    have r:lR y ((k+1:Nat):Int) (y.length:Int)=some ():=by unfold lR;rw[jB aa]
    obtain⟨a,b,t,D,E,u⟩:=Cj (N:=N) (y:=y) (k:=k+1) c (y.length-(k+2)) 1 (k+1) N y aa aa aa aa aa rfl rfl (by rw[show k+1+1=k+2 by omega,n,f])
    have e1':aA (MP N y ((k+1:Nat):Int)) N (((k+1:Nat):Int),1,y)=some ((a:Int),b):=t
    simp only[r,e1',j0]
    have g:lR b (a:Int) (b.length:Int)=some ():=by unfold lR;rw[jB aa]
    have s:CX b (a:Int) ((0,(⟨#[]⟩:BA),(⟨#[]⟩:BA)):Ky)=some (b.take a++List.replicate (b.length-a) (0,(⟨#[]⟩:BA),(⟨#[]⟩:BA))):=by
     unfold CX;rw[jB aa];simp
    have l:lR (b.take a++List.replicate (b.length-a) ((0,(⟨#[]⟩:BA),(⟨#[]⟩:BA)):Ky)) 0 (a:Int)=some ():=by
     unfold lR;rw[jB];simp only[jP,kS,gX];omega
    simp only[g,s,l,j0]
    refine⟨_,rfl,.inr ?_⟩
    simp only[jT]
    rw[gM (by simp only[kS];omega),List.take_take,Nat.min_self,u]
   rw[jA (λe=>heq e.symm)] at n
   simp only[heq,decide_false,j7,jE,z,j0]
   refine Ry c p v d (k+1) M aa aa ?_
   rw[show k+1+1=k+2 by omega,n,f,kG (show k+1<y.length by omega)]
theorem Lf{α:Type}[DecidableEq α]:∀l:List α,(nG l).length<=l.length
 |[]=>jH _
 |[x]=>jH _
 |x::y::l=>by
  have:=Lf (y::l)
  grind [nG]
def nI(L:List Ky):List Ky:=nG (L.mergeSort λx y=> !(ltOf cK) y x)
theorem MJ(L:List Ky):rO cK (nI L):=Fy cK_lin (qCy cK_lin L)
theorem xZ{L:List Ky}{z:Ky}:z∈nI L↔z∈L:=by grind [nI,YC,List.mem_mergeSort]
theorem MX(L:List Ky):(nI L).length<=L.length:=by
 have:=Lf (L.mergeSort λx y=> !(ltOf cK) y x)
 simpa[nI] using this
theorem Yw{N:Nat}{L:List Ky}(k:L.length<5000000)(l:L.length+10<N):NB N L=some (nI L):=by
 have n:(maxLen:Nat)=9223372036854775807:=rfl
 have g:JF L=some L:=by
  unfold JF yX;rw[jB aa]
 have c:BS N L=some (L.mergeSort λx y=> !(ltOf cK) y x):=by
  unfold BS;rw[jB aa]
 unfold nI
 generalize hy:(L.mergeSort λx y=> !(ltOf cK) y x)=y at c
 have d:y.length=L.length:=by rw[<-hy];simp
 simp only[NB,g,c,j0]
 by_cases hc:(L.length:Int)<2
 .simp only[hc,decide_true,jJ,j0]
  rcases y with _|⟨a,_|⟨b,y⟩⟩
  .rfl
  .rfl
  simp only[jS] at d;omega
 simp only[hc,decide_false,j7,jE,j0]
 obtain⟨o,e,f⟩:=Ry (N:=N) (y1:=L) (y:=y) aa aa aa (y.length-1) 0 N aa aa (qBv y aa)
 have e1':aA (MN N L y) N 1=some o:=e
 rcases f with ⟨rfl,h⟩|rfl
 .simp only[e1',j0,h]
 simp only[e1',j0]
def e0:BA:=⟨#[]⟩
def eY(k:Ky):Bool:=
 if k.1=1\/k.1=2 then lC k.2.1&&lC k.2.2 else if k.1=3\/k.1=4 then eU k.2.1.data.toList&&decide (k.2.2=e0) else if k.1=5\/k.1=6\/k.1=7 then lC k.2.1&&decide (k.2.2=e0) else false
theorem Rg(s:BA):(s.toList==(⟨#[]⟩:BA).toList)=decide (s=e0):=by
 rw[fZ]
 simp only[gP,jR]
 constructor
 .intro h
  rw[ByteArray.toList_eq,ByteArray.toList_eq] at h
  exact Go.WideShapes.bytes_inj h
 rintro rfl;rfl
theorem Ya{N:Nat}{k:Ky}(a:k.2.1.size<100000000)(b:2*k.2.1.size+1000<N):AC N k=some (eY k):=by
 obtain⟨q,x,y⟩:=k
 try simp only at a b
 simp only[AC,eY,Nt (N:=N) (s:=x) aa,Nt (N:=N) (s:=y) aa,qHt a b,j0,Rg]
 grind
def pO(n:Int)(k:Ky):Ky:=if n=2/\(k.1=1\/k.1=2) then(6,k.2.1,e0) else if n=3/\(k.1=1\/k.1=2\/k.1=6) then(7,k.2.1,e0) else k
theorem qBe{n m:Int}(a:1<=n)(h:n<=m)(b:m<=3)(k:Ky):pO m (pO n k)=pO m k:=by
 grind [pO]
end
section
open Go Go.Dc
abbrev Aa:=Sr×Dl
abbrev Es:=List Ky×Nat×Bool
abbrev Eo(α:Type):=Es×(Int⊕α)
structure Lk where
 cl:Sr->BA->List Ky×(Int⊕Aa)
 dt:BA->List Ky×(Int⊕(BA⊕Aa))
 en:BA->Option Int
 bt:Int->Int
 ar:Int->Int->Int->Int⊕Int
abbrev zH:=Nat->Aa->List Int->Int->Es->Eo Int
def bE{α β:Type}(o:Eo α)(k:α->Es->Eo β):Eo β:=
 match o with
 |(s,.inl e)=>(s,.inl e)
 |(s,.inr v)=>k v s
def xD(F:Int->Es->Eo Int):List Int->Es->Eo (List Int)
 |[],s=>(s,.inr [])
 |i::l,s=>bE (F i s) λv s=>bE (xD F l s) λvs s=>(s,.inr (v::vs))
def rN(F:zH)(a:Nat)(t:Aa)(vs:List Int)(s:Es):Eo Int:=
 if a=64 then(s,.inl 17) else F (a+1) t vs ((t.2.2.2.2.length:Int)-1) s
def lS(s:Es)(l:List Ky):Es:=(s.1++l,s.2)
def oU(x:Ex)(k:Nat):Int:=x.2.2.2.2.getD k 0
def DN(I:Lk)(F:zH)(a:Nat)(c:Aa)(vs:List Int)(x:Ex)(s:Es):Eo Int:=
 if x.1=1 then(s,.inr x.2.1)
 else if x.1=2 then(s,.inr (vs.getD x.2.1.toNat 0))
 else if x.1=3 then
  bE (lS s (I.cl c.1 x.2.2.2.1).1,(I.cl c.1 x.2.2.2.1).2) λt s=>bE (xD (F a c vs) x.2.2.2.2 s) λus s=>
   if us.length=t.2.2.2.1.length then rN F a t us s else(s,.inl 13)
 else if x.1=4 then bE (F a c vs (oU x 0) s) λp s=>bE (F a c vs (oU x 1) s) λq s=>(s,I.ar x.2.2.1 p q)
 else if x.1=5 then bE (F a c vs (oU x 0) s) λp s=>F a c vs (oU x (if p=0 then 2 else 1)) s
 else if x.1=6 then
  bE (lS s (I.dt x.2.2.2.1).1,(I.dt x.2.2.2.1).2) λt s=>bE (F a c vs (oU x 0) s) λi s=>
   match t with
   | .inl b=>if 0<=i/\i<b.size then(s,.inr ((b.data.toList.getD i.toNat 0).toNat:Int)) else(s,.inl 3)
   | .inr t=>if i=0 then bE (rN F a t [] s) λv s=>(s,.inr (v%256)) else(s,.inl 3)
 else if x.1=7 then
  bE (lS s (I.dt x.2.2.2.1).1,(I.dt x.2.2.2.1).2) λt s=>(s,.inr (match t with| .inl b=>(b.size:Int)| .inr _=>1))
 else if x.1=8 then(lS s (I.dt x.2.2.2.1).1,.inr (match(I.dt x.2.2.2.1).2 with| .inl e=>(if e=14 then 0 else 1)| .inr _=>1))
 else if x.1=9 then(lS s [(5,x.2.2.2.1,⟨#[]⟩)],match I.en x.2.2.2.1 with|some v=> .inr v|none=> .inl 15)
 else((s.1,s.2.1,true),.inr (I.bt x.2.1))
def ev(I:Lk):Nat->zH
 |0,_,_,_,_,s=>(s,.inl 16)
 |n+1,a,c,vs,i,s=>
  if s.2.1=20000 then(s,.inl 16) else
  match c.2.2.2.2[i.toNat]? with
  |none=>(s,.inl 0)
  |some x=>DN I (ev I n) a c vs x (s.1,s.2.1+1,s.2.2)
def Gr(s s':Es):Prop:=(∃l,s'.1=s.1++l)/\s.2.1<=s'.2.1/\(s.2.1<=20000->s'.2.1<=20000)/\(s.2.2=true->s'.2.2=true)
theorem Gr.rfl'(s:Es):Gr s s:=⟨⟨[],(gT _).symm⟩,jH _,id,id⟩
theorem Gr.tr{s t u:Es}(h:Gr s t)(g:Gr t u):Gr s u:=by
 obtain⟨⟨l,o⟩,d,e,f⟩:=h
 obtain⟨⟨k,n⟩,a,b,c⟩:=g
 exact⟨⟨l++k,by grind⟩,kM d a,λh=>b (e h),λh=>c (f h)⟩
theorem Gr.see(s:Es)(l:List Ky):Gr s (lS s l):=⟨⟨l,rfl⟩,jH _,id,id⟩
theorem Gr.bE{α β:Type}{s:Es}{o:Eo α}{k:α->Es->Eo β}(h:Gr s o.1)(a:∀v u,Gr u (k v u).1):Gr s (bE o k).1:=by
 obtain⟨u,e|v⟩:=o
 .exact h
 exact h.tr (a v u)
def GrF(F:zH):Prop:=∀a c vs i s,Gr s (F a c vs i s).1
theorem Gr.seq{F:Int->Es->Eo Int}(h:∀i s,Gr s (F i s).1):∀(l:List Int) (s:Es),Gr s (xD F l s).1
 |[],s=> .rfl' s
 |i::l,s=>(h i s).bE λ_ u=>(Gr.seq h l u).bE λ_ u=> .rfl' u
theorem Gr.enter{F:zH}(h:GrF F)(a:Nat)(t:Aa)(vs:List Int)(s:Es):Gr s (rN F a t vs s).1:=by
 unfold rN
 split
 .exact .rfl' s
 exact h ..
theorem Gr.node{I:Lk}{F:zH}(h:GrF F)(a:Nat)(c:Aa)(vs:List Int)(x:Ex)(s:Es):Gr s (DN I F a c vs x s).1:=by
 unfold DN
 split
 .exact .rfl' s
 split
 .exact .rfl' s
 split
 .refine(Gr.see s _).bE λt u=>(Gr.seq (λi s=>h ..) _ u).bE λus u=> ?_
  grind [Gr.enter,Gr.rfl']
 split
 .exact(h ..).bE λ_ u=>(h ..).bE λ_ u=> .rfl' u
 split
 .exact(h ..).bE λ_ u=>h ..
 split
 .refine(Gr.see s _).bE λt u=>(h ..).bE λi u=> ?_
  grind [Gr.rfl',Gr.enter,Gr.bE]
 split
 .grind [Gr.see,Gr.bE,Gr.rfl']
 split
 .exact .see ..
 split
 .exact .see ..
 exact⟨⟨[],(gT _).symm⟩,jH _,id,λ_=>rfl⟩
theorem Gr.ev(I:Lk):∀n,GrF (ev I n)
 |0,_,_,_,_,s=> .rfl' s
 |n+1,a,c,vs,i,s=>by
  unfold Go.Proofs.YtgboehjfofcogaaGreatDoor.ev
  split
  .exact .rfl' s
  rename_i hs
  split
  .exact .rfl' s
  exact Gr.tr (t:=(s.1,s.2.1+1,s.2.2)) ⟨⟨[],(gT _).symm⟩,Nat.le_succ _,λh=>show s.2.1+1<=20000 by omega,id⟩ (.node (Gr.ev I n) ..)
end
section
open Go Go.Dc Go.Proofs
def NZ{α:Type}(x:cU⊕α):Prop:=∀z,x= .inl z->z.2≠0
theorem NZ.ok{α:Type}{a:α}:NZ (.inr a:cU⊕α):=λz h=>by cases h
theorem NZ.fail{α:Type}{t:cO}{e:Int}(a:e≠0):NZ (eR t e:cU⊕α):=λz h=>by
 obtain rfl:=Sum.inl.inj h
 exact a
theorem NZ.bind{α β:Type}{x:cU⊕α}{f:α->cU⊕β}(h:NZ x)(c:∀a,NZ (f a)):NZ (bZ x f):=λz b=>by
 cases x with
 |inl y=>
  obtain rfl:=Sum.inl.inj (show(Sum.inl y:cU⊕β)= .inl z from b)
  exact h _ rfl
 |inr a=>exact c a z b
theorem NZ.ite{α:Type}{c:Prop}[Decidable c]{x y:cU⊕α}(a:NZ x)(b:NZ y):NZ (if c then x else y):=by
 grind
variable {ts:List cO} {ps:List BA} {E S:Ps->PM Nat}
theorem tY{s:BA}{i:Nat}:NZ (eN ts s i):= .ite .ok (.fail ac)
theorem Bi{s:BA}{i:Nat}:NZ (yQ ts s i):= .ite .ok (.fail ac)
theorem NT{k:Int}{i:Nat}:NZ (oG ts k i):= .ite .ok (.fail ac)
theorem UK{i:Nat}:NZ (oM ts i):= .bind NT λ_=> .ite (.fail ac) .ok
theorem UH{i:Nat}:NZ (qL ts i):= .bind NT λ_=> .ite .ok (.fail ac)
theorem qGk{i:Nat}:NZ (yI ts i):= .bind NT λ_=> .ite .ok (.fail ac)
theorem DA{t:cO}{x:Ex}{p:Ps}:NZ (nO t x p):= .ite (.fail ac) .ok
theorem Qn(a:∀p,NZ (E p)):∀(n:Nat) (l:List Int) (p:Ps),NZ (wT ts E n l p)
 |0,_,_=> .fail ac
 |n+1,_,p=> .bind (a p) λ_=> .ite (Qn a n _ _) (.bind tY λ_=> .ok)
theorem Zv(a:∀p,NZ (E p))(p:Ps):NZ (GE ts E p):= .bind tY λ_=> .ite .ok (Qn a _ _ _)
theorem qCp(a:∀p,NZ (E p))(t:cO)(p:Ps):NZ (wK ts E t p):=
 .bind tY λ_=> .bind (.ite (.bind UH λ_=> .bind tY λ_=> .bind (a _) λ_=> .ok) (.ite (.bind UH λ_=> .ok) (.ite (.bind UH λ_=> .ok) (.ite (.bind qGk λ_=> .ok) (.bind NT λ_=> .ite (.fail ac) .ok))))) λ_=> .bind tY λ_=>DA
theorem qEa(a:∀p,NZ (E p))(p:Ps):NZ (sU ts ps E p):=by
 unfold sU
 refine .ite DA (.ite (.bind NT λ_=>DA) (.ite (.bind (a _) λ_=> .bind tY λ_=> .ok) (.ite (.fail ac) (.ite (qCp a _ _) (.ite (.fail ac) (.ite (.bind (Zv a _) λ_=>DA) ?_))))))
 split
 .exact DA
 exact .fail ac
theorem Qz{level:Nat}(a:∀p,NZ (S p)):∀(n x:Nat) (p:Ps),NZ (pL ts level S n x p)
 |0,_,_=> .fail ac
 |n+1,_,p=> .ite .ok (.bind (a _) λ_=> .bind DA λ_=> .ite .ok (Qz a n _ _))
theorem Ao{level:Nat}(a:∀p,NZ (S p))(p:Ps):NZ (sD ts level S p):= .bind (a p) λ_=>Qz a _ _ _
theorem NY:∀(k:Nat) (p:Ps),NZ (iM ts ps k p)
 |0,_=> .fail ac
 |k+1,p=> .ite (.bind (NY k _) λ_=> .bind Bi λ_=> .bind (NY k _) λ_=> .bind Bi λ_=> .bind (NY k _) λ_=>DA) (Ao (Ao (Ao (qEa (NY k)))) p)
theorem Mf:∀(n:Nat) (l:List BA) (i:Nat),NZ (wN ts n l i)
 |0,_,_=> .fail ac
 |n+1,_,_=> .bind UK λ_=> .ite (.fail ac) (.ite (.fail ac) (.ite (Mf n _ _) (.bind tY λ_=> .ok)))
theorem qJq(before:List Dl)(i:Nat):NZ (pI ts before i):=by
 unfold pI
 refine .ite (.fail ac) (.ite (.fail ac) (.bind (.ite UH UK) λ_=> .ite (.fail ac) (.bind (.ite (.bind tY λ_=> .ite .ok (Mf _ _ _)) .ok) λ_=> .bind tY λ_=> .bind (NY _ _) λ_=> .bind tY λ_=> .ok)))
theorem Ki{pkg:BA}:∀(n:Nat) (l:List BA) (i:Nat),NZ (rK ts pkg n l i)
 |0,_,_=> .fail ac
 |n+1,_,_=> .ite (.ite (.fail ac) (.bind UK λ_=> .ite (.fail ac) (.bind tY λ_=>Ki n _ _))) .ok
theorem Ol:∀(n:Nat) (l:List Dl) (i:Nat),NZ (sZ ts n l i)
 |0,_,_=> .fail ac
 |n+1,_,_=> .ite .ok (.bind (qJq _ _) λ_=>Ol n _ _)
theorem qJz:NZ (uZ ts):= .bind Bi λ_=> .bind UK λ_=> .bind tY λ_=> .bind (Ki _ _ _) λ_=> .bind (Ol _ _ _) λ_=> .ok
end
section
open Go Go.Dc
def PB{α:Type}(P:α->Prop)(x:cU⊕α):Prop:=∀a,x= .inr a->P a
theorem PB.fail{α:Type}{P:α->Prop}{t:cO}{e:Int}:PB P (eR t e):=λ_ h=>by cases h
theorem PB.ok{α:Type}{P:α->Prop}{a:α}(h:P a):PB P (.inr a):=λb e=>by cases e;exact h
theorem PB.bind{α β:Type}{P:α->Prop}{Q:β->Prop}{x:cU⊕α}{f:α->cU⊕β}(h:PB P x)(b:∀a,P a->PB Q (f a)):PB Q (bZ x f):=by
 cases x with
 |inl z=>exact λ_ e=>by cases e
 |inr a=>exact b a (h a rfl)
theorem PB.any{α:Type}{x:cU⊕α}:PB (λ_=>True) x:=λ_ _=>trivial
theorem PB.ite{α:Type}{P:α->Prop}{c:Prop}[Decidable c]{x y:cU⊕α}(a:c->PB P x)(b:¬c->PB P y):PB P (if c then x else y):=by
 grind
def okX(Z:Int->BA->Prop)(F:Int->Prop)(np i:Nat)(x:Ex):Prop:=
 (x.1=1/\-9007199254740992<=x.2.1/\x.2.1<=9007199254740992)\/(x.1=2/\0<=x.2.1/\x.2.1<np)\/(x.1=3/\Z 3 x.2.2.2.1/\x.2.2.2.2.length<=20000/\∀j∈x.2.2.2.2,0<=j/\j<(i:Int))\/
 (x.1=4/\(1<=x.2.2.1/\x.2.2.1<=7)/\∃j k:Nat,x.2.2.2.2=[(j:Int),(k:Int)]/\j<i/\k<i)\/(x.1=5/\∃j k l:Nat,x.2.2.2.2=[(j:Int),(k:Int),(l:Int)]/\j<i/\k<i/\l<i)\/
 (x.1=6/\Z 6 x.2.2.2.1/\∃j:Nat,x.2.2.2.2=[(j:Int)]/\j<i)\/((x.1=7\/x.1=8\/x.1=9)/\Z x.1 x.2.2.2.1)\/(x.1=10/\0<=x.2.1/\x.2.1<64/\F x.2.1)
def HY(Z:Int->BA->Prop)(F:Int->Prop)(t:cO):Prop:=
 (t.1=1->yZ t.2.1=false->Z 3 t.2.1)/\(t.1=3->(eU t.2.1.data.toList=true->Z 6 t.2.1/\Z 7 t.2.1/\Z 8 t.2.1)/\(lC t.2.1=true->Z 9 t.2.1))/\(t.1=2->(0<=t.2.2.1/\t.2.2.1<=9007199254740992)/\(t.2.2.1<64->F t.2.2.1))
def OB(Z:Int->BA->Prop)(F:Int->Prop)(np:Nat)(l:List Ex):Prop:=(∀(i:Nat) x,l[i]? =some x->okX Z F np i x)/\l.length<=256
def IU(Z:Int->BA->Prop)(F:Int->Prop)(d:Dl):Prop:=OB Z F d.2.2.1.length d.2.2.2/\0<d.2.2.2.length/\d.2.2.1.length<=8/\(d.1≠1->d.2.2.1=[])/\(d.1=3->Z 6 d.2.1)/\(d.1≠3->Z 3 d.2.1)
def okF(Z:Int->BA->Prop)(F:Int->Prop)(f:Sr):Prop:=(Z 3 f.1/\∀q∈f.2.1,Z 3 q)/\f.2.1.length<=8/\f.2.2.length<=64/\∀d∈f.2.2,IU Z F d
variable {Z:Int->BA->Prop} {F:Int->Prop} {ts:List cO} {ps:List BA} {E S:Ps->PM Nat}
def vK(Z:Int->BA->Prop)(F:Int->Prop)(ts:List cO):Prop:=∀j,HY Z F (aV ts j)
def Stp(Z:Int->BA->Prop)(F:Int->Prop)(np:Nat)(p:Ps)(r:Ps×Nat):Prop:=OB Z F np r.1.2/\p.2.length<=r.1.2.length/\r.2<r.1.2.length
def zF(Z:Int->BA->Prop)(F:Int->Prop)(np:Nat)(E:Ps->PM Nat):Prop:=∀p,OB Z F np p.2->PB (Stp Z F np p) (E p)
theorem NW(b:vK Z F ts){k:Int}{i:Nat}:PB (λa=>HY Z F a.2/\a.2.1=k) (oG ts k i):= .ite (λh=> .ok ⟨b i,h⟩) λ_=> .fail
theorem Br(b:vK Z F ts){i:Nat}:PB (λa=>Z 3 a.2.2.1) (oM ts i):= .bind (NW b) λ_ h=> .ite (λ_=> .fail) λg=> .ok (h.1.1 h.2 (by simpa using g))
theorem UJ(b:vK Z F ts){i:Nat}:PB (λa=>Z 6 a.2.2.1/\Z 7 a.2.2.1/\Z 8 a.2.2.1) (qL ts i):= .bind (NW b) λ_ h=> .ite (λg=> .ok ((h.1.2.1 h.2).1 g)) λ_=> .fail
theorem qHq(b:vK Z F ts){i:Nat}:PB (λa=>Z 9 a.2.2.1) (yI ts i):= .bind (NW b) λ_ h=> .ite (λg=> .ok ((h.1.2.1 h.2).2 g)) λ_=> .fail
theorem CV{np:Nat}{t:cO}{x:Ex}{p q:Ps}(b:OB Z F np p.2)(c:q.2.length<=p.2.length)(d:okX Z F np p.2.length x):PB (Stp Z F np q) (nO t x p):= .ite (λ_=> .fail) λh=> .ok (by
 refine⟨⟨λi y a=> ?_,?_⟩,?_,?_⟩
 .rw[List.getElem?_append] at a
  split at a
  .exact b.1 i y a
  grind
 .show(p.2++[x]).length<=256
  have:=b.2
  grind
 .grind
 grind)
def OpL(n:Nat)(l:List Int):Prop:=∀j∈l,0<=j/\j<(n:Int)
theorem OpL.snoc{n m:Nat}{l:List Int}{k:Nat}(h:OpL n l)(c:n<=m)(b:k<m):OpL m (l++[(k:Int)]):=λj a=>by
 rcases kJ.1 a with a|a
 .have:=h j a;omega
 grind
variable {np:Nat}
theorem Qw(c:zF Z F np E){q:Ps}:∀(n:Nat) (l:List Int) (p:Ps),OB Z F np p.2->q.2.length<=p.2.length->OpL p.2.length l->PB (λr=>OB Z F np r.1.2/\q.2.length<=r.1.2.length/\OpL r.1.2.length r.2/\r.2.length<=l.length+n) (wT ts E n l p)
 |0,_,_,_,_,_=> .fail
 |n+1,l,p,g,f,d=> .bind (c p g) λa h=> .ite (λ_ b e=>by
  obtain⟨k,o,s,t⟩:=Qw c n (l++[(a.2:Int)]) (a.1.1+1,a.1.2) h.1 (kM f h.2.1) (d.snoc h.2.1 h.2.2) b e
  grind) λ_=> .bind .any λ_ _=> .ok ⟨h.1,kM f h.2.1,d.snoc h.2.1 h.2.2,by grind⟩
theorem Zl(d:zF Z F np E){p:Ps}(c:OB Z F np p.2):PB (λr=>OB Z F np r.1.2/\p.2.length<=r.1.2.length/\OpL r.1.2.length r.2/\r.2.length<=ts.length+1) (GE ts E p):=
 .bind .any λi _=> .ite (λ_=> .ok ⟨c,jH _,λ_ a=>(by cases a),jQ _⟩) λ_ b e=>by
  have:=Qw d (q:=p) _ [] (i,p.2) c (jH _) (λ_ a=>by cases a) b e
  grind
theorem qBy(d:vK Z F ts)(e:zF Z F np E){t:cO}{p q:Ps}(b:OB Z F np p.2)(c:q.2.length<=p.2.length):PB (Stp Z F np q) (wK ts E t p):=
 .bind .any λ_ _=> .bind (P:=λr=>OB Z F np r.1.2/\q.2.length<=r.1.2.length/\okX Z F np r.1.2.length r.2)
  (.ite (λ_=> .bind (UJ d) λ_ h=> .bind .any λ_ _=> .bind (e _ b) λa g=> .ok ⟨g.1,kM c g.2.1,.inr (.inr (.inr (.inr (.inr (.inl ⟨rfl,h.1,a.2,rfl,g.2.2⟩)))))⟩) λ_=>
   .ite (λ_=> .bind (UJ d) λ_ h=> .ok ⟨b,c,.inr (.inr (.inr (.inr (.inr (.inr (.inl ⟨.inl rfl,h.2.1⟩))))))⟩) λ_=>
   .ite (λ_=> .bind (UJ d) λ_ h=> .ok ⟨b,c,.inr (.inr (.inr (.inr (.inr (.inr (.inl ⟨.inr (.inl rfl),h.2.2⟩))))))⟩) λ_=>
   .ite (λ_=> .bind (qHq d) λ_ h=> .ok ⟨b,c,.inr (.inr (.inr (.inr (.inr (.inr (.inl ⟨.inr (.inr rfl),h⟩))))))⟩) λ_=>
   .bind (NW d) λa h=> .ite (λ_=> .fail) λg=> .ok ⟨b,c,.inr (.inr (.inr (.inr (.inr (.inr (.inr ⟨rfl,(h.1.2.2 h.2).1.1,Int.not_le.1 g,(h.1.2.2 h.2).2 (Int.not_le.1 g)⟩))))))⟩)
  λ_ h=> .bind .any λ_ _=>CV h.1 h.2.1 h.2.2
theorem qHo{n:Int}(h:0<=n/\n<=9007199254740992): -9007199254740992<=n/\n<=9007199254740992:=by omega
theorem qHi{n:Int}(h:0<=n/\n<=9007199254740992): -9007199254740992<=wI (0-n)/\wI (0-n)<=9007199254740992:=by
 grind [bA]
theorem qEk(c:vK Z F ts)(g:ts.length<=16385)(d:zF Z F ps.length E):zF Z F ps.length (sU ts ps E):=by
 intro p b
 unfold sU
 refine .ite (λh=>CV b (jH _) (.inl ⟨rfl,qHo ((c _).2.2 h).1⟩)) λ_=> .ite (λ_=> .bind (NW c) λ_ h=>CV b (jH _) (.inl ⟨rfl,qHi (h.1.2.2 h.2).1⟩)) λ_=> .ite (λ_=> .bind (d _ b) λ_ h=> .bind .any λ_ _=> .ok h) λ_=>
  .ite (λ_=> .fail) λe=> .ite (λ_=>qBy c d b (jH _)) λ_=> .ite (λ_=> .fail) λf=>
  .ite (λ_=> .bind (Zl d b) λa h=>CV h.1 h.2.1 (.inr (.inr (.inl ⟨rfl,(c _).1 (Decidable.not_not.1 e) (by simpa using f),by grind,h.2.2.1⟩)))) λ_=> ?_
 split
 .rename_i i hi
  obtain⟨e,-⟩:=List.findIdx?_eq_some_iff_getElem.1 hi
  exact CV b (jH _) (.inr (.inl ⟨rfl,Int.natCast_nonneg i,Int.ofNat_lt.2 e⟩))
 exact .fail
theorem qJs{level i:Nat}(h:¬nS ts level i=0):1<=nS ts level i/\nS ts level i<=7:=by
 unfold nS at h ⊢
 split
 .rename_i o ho
  have:=fT ho
  simp only[opsC,jG,gC,hY] at this
  grind
 grind
theorem Qs{level:Nat}(b:zF Z F np S){q:Ps}:∀(n x:Nat) (p:Ps),OB Z F np p.2->q.2.length<=p.2.length->x<p.2.length->PB (Stp Z F np q) (pL ts level S n x p)
 |0,_,_,_,_,_=> .fail
 |n+1,x,p,c,d,e=> .ite (λ_=> .ok ⟨c,d,e⟩) λf=> .bind (b _ c) λa h=> .bind (CV (q:=q) h.1 (kM d h.2.1) (.inr (.inr (.inr (.inl ⟨rfl,qJs f,x,a.2,rfl,fH e h.2.1,h.2.2⟩))))) λ_ g=> .ite (λ_=> .ok g) λ_=>Qs b n _ _ g.1 g.2.1 g.2.2
theorem Bb{level:Nat}(a:zF Z F np S):zF Z F np (sD ts level S):=λp b=> .bind (a p b) λ_ h=>Qs a _ _ _ h.1 h.2.1 h.2.2
theorem NS(f:vK Z F ts)(d:ts.length<=16385):∀k:Nat,zF Z F ps.length (iM ts ps k)
 |0=>λ_ _=> .fail
 |k+1=>λp l=> .ite (λ_=> .bind (NS f d k _ l) λa h=> .bind .any λ_ _=> .bind (NS f d k _ h.1) λb g=> .bind .any λ_ _=> .bind (NS f d k _ g.1) λc e=>
   CV e.1 (kM h.2.1 (kM g.2.1 e.2.1)) (.inr (.inr (.inr (.inr (.inl ⟨rfl,a.2,b.2,c.2,rfl,fH h.2.2 (kM g.2.1 e.2.1),fH g.2.2 e.2.1,e.2.2⟩)))))) λ_=>
  Bb (Bb (Bb (qEk f d (NS f d k)))) p l
theorem Ln:∀(n:Nat) (l:List BA) (i:Nat),l.length<=8->PB (λr=>r.2.length<=8) (wN ts n l i)
 |0,_,_,_=> .fail
 |n+1,l,i,a=> .bind .any λ_ _=> .ite (λ_=> .fail) λh=> .ite (λ_=> .fail) λ_=>
  .ite (λ_=>Ln n _ _ (by grind)) λ_=> .bind .any λ_ _=> .ok (by grind)
theorem Yq{i:Nat}:PB (λr=>r.2.length<=8) (zZ ts i):= .bind .any λ_ _=> .ite (λ_=> .ok (jQ _)) λ_=>Ln _ _ _ (jQ _)
theorem qJm(d:vK Z F ts)(l:ts.length<=16385)(before:List Dl)(i:Nat):PB (λa=>IU Z F a.2) (pI ts before i):=by
 unfold pI
 exact .ite (λ_=> .fail) λ_=> .ite (λ_=> .fail) λ_=> .bind (P:=λa=>(DD (aV ts i).2.1=3->Z 6 a.2.2.1)/\(DD (aV ts i).2.1≠3->Z 3 a.2.2.1)) (.ite (λh b e=>⟨λ_=>(UJ d b e).1,λg=>absurd h g⟩) λh b e=>⟨λg=>absurd g h,λ_=>Br d b e⟩) λ_ n=> .ite (λ_=> .fail) λ_=>
  .bind (P:=λb=>b.2.length<=8/\(DD (aV ts i).2.1≠1->b.2=[])) (.ite (λh b e=>⟨Yq b e,λk=>absurd h k⟩) λ_=> .ok ⟨jQ _,λ_=>rfl⟩) λb f=> .bind .any λ_ _=>
  .bind (NS d l _ (_,[]) ⟨λi x h=>(by simp at h),jQ _⟩) λc g=> .bind .any λ_ _=> .ok ⟨g.1,Nat.lt_of_le_of_lt (jQ _) g.2.2,f.1,f.2,n⟩
theorem Ow(b:vK Z F ts)(a:ts.length<=16385):∀(n:Nat) (l:List Dl) (i:Nat),(∀d∈l,IU Z F d)->PB (λr=>∀d∈r,IU Z F d) (sZ ts n l i)
 |0,_,_,_=> .fail
 |n+1,l,i,c=> .ite (λ_=> .ok c) λ_=> .bind (qJm b a _ _) λ_ h=>Ow b a n _ _ λd e=>by
  grind
theorem Jk(b:vK Z F ts){pkg:BA}:∀(n:Nat) (l:List BA) (i:Nat),(∀q∈l,Z 3 q)->l.length<=8->PB (λr=>(∀q∈r.2,Z 3 q)/\r.2.length<=8) (rK ts pkg n l i)
 |0,_,_,_,_=> .fail
 |n+1,l,i,d,c=> .ite (λ_=> .ite (λ_=> .fail) λh=> .bind (Br b) λa e=> .ite (λ_=> .fail) λ_=> .bind .any λ_ _=>Jk b n _ _ (λq f=>by
  grind) (by grind)) λ_=> .ok ⟨d,c⟩
def wc(c:UInt8):Bool:=decide (97<=c.toNat/\c.toNat<=122)||decide (46<=c.toNat/\c.toNat<=57)||c==95
def nmW:List (List UInt8):=[[],[112],[113],[115],[116],[117],[118],[102],[103],[104],[107],[97],[98],[120],[99],[100],[110],[109],[99,111,109,109,101,110,116]]
def OU:List (List UInt8):=[[112,97,99,107,97,103,101],[105,109,112,111,114,116],[102,117,110,99],[116,101,115,116],[103,101,110],[105,102],[116,104,101,110],[101,108,115,101],[114,101,97,100],[115,105,122,101],[104,97,115],[101,110,118],[102,108,105,112]]
def wdW:List (List UInt8):=nmW++OU++[[47],[48],[49],[50],[51],[54,51],[49,48],[50,53,53],[57,48,48,55,49,57,57,50,53,52,55,52,48,57,57,50],[49,48,55,51,55,52,49,56,50,52],[97,46,100,97,116],[46,100,97,116],[100,47,98,46,100,97,116],[47,98,46,100,97,116],[98,46,100,97,116],[97,46,115,114,99],[120,46,115,114,99],[46,115,114,99]]
def sc:List UInt8->List UInt8->Option (List UInt8)
 |a,[]=>some a
 |a,c::l=>if wc c then sc (a++[c]) l else if a∈wdW then sc [] l else none
theorem UO:∀(x y a:List UInt8),sc a (x++y)=(sc a x).bind λq=>sc q y
 |[],_,_=>rfl
 |c::x,y,a=>by
  simp only[gV,sc]
  split
  .exact UO x y _
  split
  .exact UO x y _
  rfl
def cl(p:Nat)(a:List UInt8):Bool:=if p=0 then a==[] else decide (a∈wdW)
theorem Rw{a:List UInt8}(h:cl 0 a=true):cl 1 a=true:=by
 obtain rfl:a=[]:=by grind [cl]
 decide
def Wt(x:BA)(p q n:Nat):Prop:=x.size<=n/\∀a,cl p a=true->∃r,cl q r=true/\sc a x.data.toList=some r
variable {x y:BA} {p q r n m:Nat}
theorem Wt.mono(h:Wt x p q n)(a:n<=m):Wt x p q m:=⟨kM h.1 a,h.2⟩
theorem Wt.up(h:Wt x p 0 n):Wt x p 1 n:=⟨h.1,λa b=>by
 obtain⟨r,c,d⟩:=h.2 a b
 grind [Rw]⟩
theorem Wt.app(b:Wt x p q n)(c:Wt y q r m):Wt (x++y) p r (n+m):=by
 have e:(x++y).data.toList=x.data.toList++y.data.toList:=by simp
 refine⟨by rw[ByteArray.size_append];exact Nat.add_le_add b.1 c.1,λa d=> ?_⟩
 obtain⟨g,f,h⟩:=b.2 a d
 obtain⟨o,k,l⟩:=c.2 g f
 grind [UO]
def okq(q:Nat):Option (List UInt8)->Bool
 |some r=>cl q r
 |none=>false
theorem qJl{o:Option (List UInt8)}(h:okq q o=true):∃r,cl q r=true/\o=some r:=by
 cases o with
 |none=>cases h
 |some r=>exact⟨r,h,rfl⟩
def IW(p q:Nat):List UInt8->Bool
 |[]=>decide (p<=q)
 |c::l=>(p==0|| !wc c)&&okq q (if p=0 then sc [] (c::l) else sc [] l)
theorem UI{l:List UInt8}(d:p<=1)(e:q<=1)(h:IW p q l=true):∀a,cl p a=true->∃r,cl q r=true/\sc a l=some r:=λa b=>by
 cases l with
 |nil=>
  have h:p<=q:=gO h
  refine⟨a,?_,rfl⟩
  obtain rfl|rfl:p=0\/p=1:=by omega
  .obtain rfl|rfl:q=0\/q=1:=by omega
   .exact b
   exact Rw b
  grind
 |cons c l=>
  grind [IW,cl,qJl,sc]
def Sv(x:BA)(p q:Nat):Bool:=decide (p<=1/\q<=1)&&IW p q x.data.toList
theorem Wt.lit(k q:Nat)(h:Sv x p q=true):Wt x p q (x.size+6*k):=by
 simp only[Sv,jU,jR] at h
 exact⟨by omega,UI h.1.1 h.1.2 h.2⟩
def HW(x:BA):Bool:=decide (x.size<=7)&&IW 0 1 x.data.toList
theorem Wt.neu(h:HW x=true):Wt x 0 1 7:=by
 unfold HW at h
 simp only[jU,jR] at h
 exact⟨h.1,UI ac ac h.2⟩
variable {β:Type} {Q:β->Prop} {N:Nat} {l:List Int} {a:Int}
theorem Ok.catP{x y:BA}{f:BA->Option β}{p q r n m:Nat}(a:Wt x p q n)(b:Wt y q r m)(c:n+m<=1000000000)(h:∀s:BA,Wt s p r (n+m)->Ok (f s) Q):Ok ((bW x y).bind f) Q:=by
 have:=a.1
 have:=b.1
 unfold bW
 rw[jB (by grind [Go.maxLen])]
 exact h _ (a.app b)
theorem Ok.catW{x y:BA}{f:BA->Option β}{q r n m:Nat}(b:Wt x 0 q n)(c:Wt y q r m)(a:n+m<=1000000000)(h:∀s:BA,Wt s 0 r (n+m)->Ok (f s) Q):Ok ((bW x y).bind f) Q:=Ok.catP b c a h
theorem Ok.oneW{L:List BA}{f:(List Int×Int)×BA->Option β}(b:0<=a)(c:a<4611686018427387904)(d:(decide (0<L.length)&&decide (L.length<1000)&&L.all HW)=true)(h:∀x:BA,Wt x 0 1 7->Ok (f ((l,a+1),x)) Q):Ok ((mY N (l,a) L).bind f) Q:=by
 grind [Ok.one,Wt.neu]
theorem Ok.onePW{L:List BA}{f:(List Int×Int)×BA->Option β}(d:0<=a)(e:a<4611686018427387904)(k:decide ((List.length L:Int)>0)=true)(b:L.length<1000)(c:∀x∈L,Wt x 0 1 7)(h:∀x:BA,Wt x 0 1 7->Ok (f ((l,a+1),x)) Q):Ok ((mY N (l,a) L).bind f) Q:=
 Ok.one d e (by grind) b λx g=>h x (c x g)
def VC(k:Nat):List Int:=if k=2 then[0,1,63] else[0,1,2,3,10,255,9007199254740992,1073741824]
theorem qEz(M k:Nat)(a:k=2\/k=16):((VC k).all λx=>match sQ (M+40) x with|some s=>decide (s.size<=k)&&IW 0 1 s.data.toList|none=>false)=true:=by
 rcases a with rfl|rfl
 .kernel_rfl
 kernel_rfl
theorem Ok.digitsW{x:Int}{k:Nat}{f:BA->Option β}(a:x∈VC k/\(k=2\/k=16))(b:100<N)(h:∀s:BA,Wt s 0 1 k->Ok (f s) Q):Ok ((sQ N x).bind f) Q:=by
 obtain⟨M,rfl⟩:∃M,N=M+40:=⟨N-40,by omega⟩
 have:=jL.1 (qEz M k a.2) x a.1
 split at this
 .rename_i s hs
  rw[hs]
  simp only[jU,jR] at this
  exact h s ⟨this.1,UI ac ac this.2⟩
 cases this
theorem Ok.pickN(k:Nat){L:List Int}{f:(List Int×Int)×Int->Option β}(b:0<=a)(c:a<4611686018427387904)(d:(decide (0<L.length)&&decide (L.length<1000)&&(L.all λx=>decide (x∈VC k))&&decide (k=2\/k=16))=true)(h:∀x:Int,x∈VC k/\(k=2\/k=16)->Ok (f ((l,a+1),x)) Q):Ok ((xT N (l,a) L).bind f) Q:=by
 grind [Ok.pick]
def uM:Nat->Nat
 |0=>21
 |d+1=>3*uM d+24
theorem qKb:∀d,21<=uM d
 |0=>jH _
 |d+1=>by grind [uM]
def HM(N:Nat)(l:List Int)(E:(List Int×Int)->Int->List BA->Option ((List Int×Int)×BA))(d:Nat)(ps:List BA):Prop:=
 ∀a:Int,0<=a->a+qJ d<2000000000000000000->Ok (E (l,a) (d:Int) ps) λy=>∃a' s,y=((l,a'),s)/\a<=a'/\a'<=a+qJ d/\Wt s 0 1 (uM d)
theorem Ok.exprW{β:Type}{Q:β->Prop}{E:(List Int×Int)->Int->List BA->Option ((List Int×Int)×BA)}{d:Nat}{ps:List BA}(e:HM N l E d ps){a:Int}{f:(List Int×Int)×BA->Option β}(b:0<=a)(c:a+qJ d<2000000000000000000)
  (h:∀(a':Int) (s:BA),a<=a'->a'<=a+qJ d->Wt s 0 1 (uM d)->Ok (f ((l,a'),s)) Q):Ok ((E (l,a) (d:Int) ps).bind f) Q:=
 Ok.bind (e a b c) λy g=>by
  grind
theorem Le(d:Nat)(a:d<=5):qJ d<=10000/\uM d<=20000:=by
 match d,a with
 |0,_=>decide
 |1,_=>decide
 |2,_=>decide
 |3,_=>decide
 |4,_=>decide
 |5,_=>decide
theorem Ok.exprloopW{β:Type}{Q:β->Prop}{E:(List Int×Int)->Int->List BA->Option ((List Int×Int)×BA)}{d:Nat}{ps:List BA}(q:HM N l E d ps)(r:d<=5){p1:Int}(u:wI (p1-1)=(d:Int)){s:BA}{n a:Int}{f:BA×List Int×Int->Option β}{w:Nat}
  (B:n=0\/n=1) (o:0<=a) (p:a+qJ d<2000000000000000000) (v:Wt s 0 1 w) (D:w<=100000000) (z:100<N) (h:∀(s':BA) (a':Int),a<=a'->a'<=a+qJ d->Wt s' 0 1 (w+(uM d+2))->Ok (f (s',l,a')) Q):Ok ((aA (RG N E p1 ps) N (s,n,l,a)).bind f) Q:=by
 have x:=Le d r
 refine Ok.loop (λst=>∃s' n' a',st=(s',n',l,a')/\((n'=n/\a'=a/\s'=s)\/(n'=0/\a<=a'/\a'<=a+qJ d/\Wt s' 0 1 (w+(uM d+2))))) (λst=>st.2.1.toNat) (λb=>∃s' a',b=(s',l,a')/\a<=a'/\a'<=a+qJ d/\Wt s' 0 1 (w+(uM d+2))) ?_ ⟨s,n,a,rfl,.inl ⟨rfl,rfl,rfl⟩⟩ ai ?_
 .rintro _ ⟨s',n',a',rfl,c⟩
  simp only[RG]
  by_cases hn0:n'>0
  .rw[jB (by simpa using hn0),u]
   have c:n'=n/\a'=a/\s'=s:=c.resolve_right λh=>by omega
   obtain⟨rfl,rfl,rfl⟩:=c
   refine Ok.exprW q o p λy t e g k=> ?_
   have A:Wt (⟨#[44,32]⟩:BA) 1 0 2:=Wt.lit 0 0 ae
   grind [Ok.catP,Ok.mk,bA]
  rw[jA (by simpa using hn0)]
  refine Ok.mk ⟨s',a',rfl,?_⟩
  rcases c with ⟨_,rfl,rfl⟩|⟨_,e,g,k⟩
  .exact⟨by omega,by omega,v.mono aa⟩
  grind
 grind
theorem okA{p:Prop}(h:p:=by
 repeat' first
  |with_reducible apply Ok.tt
  |with_reducible apply Ok.ff
  |with_reducible apply Ok.ttb
  |with_reducible apply Ok.ffb
  |with_reducible apply Ok.assoc
  |((with_reducible apply Ok.iteb)<;>intro _)
  |((with_reducible apply Ok.ite)<;>intro _)
  |with_reducible apply Ok.someb
  |with_reducible apply Ok.mapb
  |((with_reducible refine Ok.mk ⟨_,_,rfl,?_,?_,Wt.mono (by first|assumption|exact Wt.up af) ?_⟩)<;>omega)
  |((with_reducible refine Ok.next ?_ ?_ ?_ ?_ (λ_ _ _=> ?_))<;>try omega)
  |((with_reducible refine Ok.chance ?_ ?_ ?_ ?_ (λ_=> ?_))<;>try omega)
  |((with_reducible refine Ok.pick01 ?_ ?_ (λ_ _=> ?_))<;>try omega)
  |((with_reducible refine Ok.exprloopW af aa af af ?_ ?_ af ?_ af (λ_ _ _ _ _=> ?_))<;>try omega)
  |((with_reducible refine Ok.exprW af ?_ ?_ (λ_ _ _ _ _=> ?_))<;>try omega)
  |((with_reducible refine Ok.pickN 2 ?_ ?_ ac (λ_ _=> ?_))<;>try omega)
  |((with_reducible refine Ok.pickN 16 ?_ ?_ ac (λ_ _=> ?_))<;>try omega)
  |((with_reducible refine Ok.onePW ?_ ?_ af af af (λ_ _=> ?_))<;>try omega)
  |((with_reducible refine Ok.oneW ?_ ?_ ae (λ_ _=> ?_))<;>try omega)
  |(with_reducible refine Ok.digitsW af af (λ_ _=> ?_))
  |((with_reducible refine Ok.catW (by first|assumption|exact Wt.lit 0 0 ae|exact Wt.lit 0 1 ae|exact Wt.lit 1 0 ae|exact Wt.lit 1 1 ae) (by first|assumption|exact Wt.lit 0 0 ae|exact Wt.lit 0 1 ae|exact Wt.lit 1 0 ae|exact Wt.lit 1 1 ae) ?_ (λ_ _=> ?_))<;>simp only[Ru,gQ,jS,kH,Nat.reduceAdd,Nat.reduceMul] at* <;>try omega)
  |((with_reducible refine Ok.catW (by first|assumption|exact Wt.lit 0 0 ae|exact Wt.lit 0 1 ae|exact Wt.lit 1 0 ae|exact Wt.lit 1 1 ae) (by first|assumption|exact Wt.lit 0 0 ae|exact Wt.lit 0 1 ae|exact Wt.lit 1 0 ae|exact Wt.lit 1 1 ae) ?_ (λ_ _=> ?_))<;>try omega)
  |dsimp only
  |(apply Ok.iteb<;>intro _)
 all_goals omega):p:=h
set_option maxHeartbeats 4000000 in
theorem qBo{E:(List Int×Int)->Int->List BA->Option ((List Int×Int)×BA)}{d:Nat}{ps:List BA}(c:d=0)(g:ps.length<1000)(e:∀x∈ps,Wt x 0 1 7)(n:100<N):HM N l (FH N E) d ps:=by
 subst c
 intro a h k
 have b:qJ 0=8:=rfl
 have f:uM 0=21:=rfl
 simp only[FH,b,f,zX,QR]
 rw[jB (show decide (((0:Nat):Int)<=0)=true by decide)]
 exact okA
set_option maxHeartbeats 8000000 in
theorem qAm{E:(List Int×Int)->Int->List BA->Option ((List Int×Int)×BA)}{d:Nat}{ps:List BA}(p:HM N l E d ps)(r:d<=4)(h:ps.length<1000)(c:∀x∈ps,Wt x 0 1 7)(q:100<N):HM N l (FH N E) (d+1) ps:=by
 intro a n o
 have b:qJ (d+1)=3*qJ d+8:=rfl
 have f:uM (d+1)=3*uM d+24:=rfl
 have g:=qKb d
 have k:=Le d aa
 have e:wI (((d+1:Nat):Int)-1)=(d:Int):=by grind [bA]
 simp only[FH,b,f,zX,QR,KH,e]
 exact okA
theorem Ax:∀(d D:Nat) (ps:List BA),d<D->d<=5->ps.length<1000->(∀x∈ps,Wt x 0 1 7)->100<N->HM N l (LJ N D) d ps
 |_,0,_,h,_,_,_,_=>absurd h (jO _)
 |0,D+1,ps,_,_,a,b,c=>qBo (E:=LJ N D) rfl a b c
 |d+1,D+1,ps,h,e,a,b,c=>qAm (Ax d D ps aa aa a b c) aa a b c
theorem Sk:∀{ps:List BA},(ps.all HW)=true->∀x∈ps,Wt x 0 1 7:=λh x a=>Wt.neu (jL.1 h x a)
theorem Ok.expr3W{β:Type}{Q:β->Prop}{ps:List BA}{a:Int}{f:(List Int×Int)×BA->Option β}(k:100<N)(g:0<=a)(p:a+10000<2000000000000000000)(n:ps.length<=2)(b:ps.all HW=true)
  (h:∀(a':Int) (s:BA),a<=a'->a'<=a+10000->Wt s 0 1 879->Ok (f ((l,a'),s)) Q):Ok ((FM N (l,a) 3 ps).bind f) Q:=
 Ok.exprW (d:=3) (Ax 3 N ps aa aa aa (Sk b) k) g (by grind [qJ]) λa' s c o e=>h a' s c (by grind [qJ]) (e.mono ac)
theorem Ok.expr2W{β:Type}{Q:β->Prop}{ps:List BA}{a:Int}{f:(List Int×Int)×BA->Option β}(k:100<N)(g:0<=a)(p:a+10000<2000000000000000000)(n:ps.length<=2)(b:ps.all HW=true)
  (h:∀(a':Int) (s:BA),a<=a'->a'<=a+10000->Wt s 0 1 879->Ok (f ((l,a'),s)) Q):Ok ((FM N (l,a) 2 ps).bind f) Q:=
 Ok.exprW (d:=2) (Ax 2 N ps aa aa aa (Sk b) k) g (by grind [qJ]) λa' s c o e=>h a' s c (by grind [qJ]) (e.mono ac)
set_option maxHeartbeats 8000000 in
theorem qKl{a:Int}(b:100<N)(c:0<=a)(d:a<1000000000000000000):Ok (FL N (l,a)) λy=>∃a' s,y=((l,a'),s)/\a<=a'/\a'<=a+10010/\Wt s 0 0 920:=by
 simp only[FL,WZ,zX,KH]
 repeat' first
  |with_reducible apply Ok.tt
  |with_reducible apply Ok.ff
  |with_reducible apply Ok.ttb
  |with_reducible apply Ok.ffb
  |with_reducible apply Ok.assoc
  |((with_reducible apply Ok.iteb)<;>intro _)
  |((with_reducible apply Ok.ite)<;>intro _)
  |with_reducible apply Ok.someb
  |with_reducible apply Ok.mapb
  |((with_reducible refine Ok.mk ⟨_,_,rfl,?_,?_,Wt.mono (by first|assumption|exact Wt.up af) ?_⟩)<;>omega)
  |((with_reducible refine Ok.next ?_ ?_ ?_ ?_ (λ_ _ _=> ?_))<;>try omega)
  |((with_reducible refine Ok.chance ?_ ?_ ?_ ?_ (λ_=> ?_))<;>try omega)
  |((with_reducible refine Ok.expr3W b ?_ ?_ ?_ ?_ (λ_ _ _ _ _=> ?_))<;>first|omega|decide+kernel|skip)
  |((with_reducible refine Ok.expr2W b ?_ ?_ ?_ ?_ (λ_ _ _ _ _=> ?_))<;>first|omega|decide+kernel|skip)
  |(with_reducible refine Ok.app ad ac ?_)
  |((with_reducible refine Ok.pickN 2 ?_ ?_ ac (λ_ _=> ?_))<;>try omega)
  |((with_reducible refine Ok.pickN 16 ?_ ?_ ac (λ_ _=> ?_))<;>try omega)
  |((with_reducible refine Ok.oneW ?_ ?_ ae (λ_ _=> ?_))<;>try omega)
  |(with_reducible refine Ok.digitsW af b (λ_ _=> ?_))
  |((with_reducible refine Ok.catW (by first|assumption|exact Wt.lit 0 0 ae|exact Wt.lit 0 1 ae|exact Wt.lit 1 0 ae|exact Wt.lit 1 1 ae) (by first|assumption|exact Wt.lit 0 0 ae|exact Wt.lit 0 1 ae|exact Wt.lit 1 0 ae|exact Wt.lit 1 1 ae) ?_ (λ_ _=> ?_))<;>simp only[Ru,gQ,jS,kH,Nat.reduceAdd,Nat.reduceMul] at* <;>try omega)
  |((with_reducible refine Ok.catW (by first|assumption|exact Wt.lit 0 0 ae|exact Wt.lit 0 1 ae|exact Wt.lit 1 0 ae|exact Wt.lit 1 1 ae) (by first|assumption|exact Wt.lit 0 0 ae|exact Wt.lit 0 1 ae|exact Wt.lit 1 0 ae|exact Wt.lit 1 1 ae) ?_ (λ_ _=> ?_))<;>try omega)
  |dsimp only
  |(apply Ok.iteb<;>intro _)
 all_goals omega
theorem Ok.declW{β:Type}{Q:β->Prop}{a:Int}{f:(List Int×Int)×BA->Option β}(d:100<N)(b:0<=a)(c:a<1000000000000000000)
  (h:∀(a':Int) (s:BA),a<=a'->a'<=a+10010->Wt s 0 0 920->Ok (f ((l,a'),s)) Q):Ok ((FL N (l,a)).bind f) Q:=
 Ok.bind (qKl d b c) λy e=>by
  grind
theorem qJa{β:Type}{Q:β->Prop}{y:(List Int×Int)×BA}{f:BA->Option β}(c:y.2.size<=920)(a:3000<N)(h:∀s:BA,Ok (f s) Q):Ok ((aA (QT N y) N (y.2,0)).bind f) Q:=by
 refine Ok.loop (λst=>∃j:Nat,st.2=(j:Int)/\j<=y.2.size) (λst=>y.2.size-st.2.toNat) (λ_=>True) ?_ ⟨0,rfl,jQ _⟩ ai (λb _=>h b)
 grind [QT,Lv,Ok.mk,TM,bA]
def So(x:BA):Bool:=decide (x.size<=20)&&IW 0 1 x.data.toList
theorem Ok.oneE{β:Type}{Q:β->Prop}{a:Int}{L:List BA}{f:(List Int×Int)×BA->Option β}(c:0<=a)(d:a<4611686018427387904)(b:(decide (0<L.length)&&decide (L.length<1000)&&L.all So)=true)(h:∀x:BA,Wt x 0 1 20->Ok (f ((l,a+1),x)) Q):Ok ((mY N (l,a) L).bind f) Q:=by
 simp only[jU,jR] at b
 exact Ok.one c d b.1.1 b.1.2 λx e=>by
  have:=jL.1 b.2 x e
  unfold So at this
  simp only[jU,jR] at this
  exact h x ⟨this.1,UI ac ac this.2⟩
theorem Nh{a:Int}{pk:BA}(G:3000<N)(E:0<=a)(h1:a<100000000000000000)(H:Wt pk 0 1 7):Ok (zW N (l,a) pk) λy=>∃a' s,y=((l,a'),s)/\a<=a'/\a'<=a+100000/\Wt s 0 1 4800:=by
 simp only[zW]
 have V:Wt (⟨#[112,97,99,107,97,103,101,32]⟩:BA) 0 0 8:=Wt.lit 0 0 ae
 have u:Wt (⟨#[59,10]⟩:BA) 1 0 8:=(Wt.lit 0 0 ae).mono ac
 have Y:Wt (⟨#[35,32,97,32,99,111,109,109,101,110,116,10]⟩:BA) 0 0 12:=Wt.lit 0 0 ae
 have Z:Wt (⟨#[105,109,112,111,114,116,32]⟩:BA) 0 0 7:=Wt.lit 0 0 ae
 refine Ok.catW V H aa λs1 B=> ?_
 refine Ok.catW B u aa λs2 p=> ?_
 refine Ok.chance E aa aa aa λc=> ?_
 refine Ok.bind (P:=λs:BA=>Wt s 0 0 40) (Ok.ite (λ_=>Ok.catW Y p aa λs3 f=>Ok.mk (f.mono aa)) λ_=>Ok.mk (p.mono aa)) λo1 f=> ?_
 dsimp only
 refine Ok.next aa aa aa aa λr D g2=> ?_
 dsimp only
 -- imports
 refine Ok.loop (λst=>∃s L n a' w,st=(s,L,n,l,a')/\Wt s 0 0 w/\0<=n/\n<=2/\(L.length:Int)+n<=2/\(w:Int)<=40+25*(2-n)/\a<=a'/\a'<=a+10+(2-n)) (λst=>st.2.2.1.toNat) (λb=>∃s a',b=(s,l,a')/\Wt s 0 0 90/\a<=a'/\a'<=a+20) ?_ ⟨o1,[],r,a+1+1,40,rfl,f,D,by omega,by grind,by omega,by omega,by omega⟩ ai ?_
 .rintro _ ⟨s,L,n,a',w,rfl,kw,K,M,R,S,k,U⟩
  simp only[WL,zQ]
  by_cases hn:n>0
  .rw[jB (by simpa using hn)]
   refine Ok.assoc (Ok.someb ?_)
   refine Ok.assoc (Ok.oneW aa aa ae λx h=> ?_)
   dsimp only
   refine Ok.assoc (Ok.bind (P:=λ_=>True) (Ok.ite (λ_=>Ok.has aa aa λb=>Ok.mk trivial) λ_=>Ok.mk trivial) λz _=> ?_)
   refine Ok.iteb (λ_=> ?_) λ_=> ?_
   .refine Ok.assoc (Ok.app (by grind) ac ?_)
    refine Ok.assoc (Ok.catW Z h aa λt1 g=> ?_)
    refine Ok.assoc (Ok.catW g u aa λt2 e=> ?_)
    refine Ok.assoc (Ok.catW kw e aa λv q=>Ok.someb (Ok.mk ?_))
    dsimp only
    rw[bA aa aa]
    grind
   refine Ok.someb (Ok.mk ?_)
   grind [bA]
  rw[jA (by simpa using hn)]
  exact Ok.mk ⟨s,a',rfl,kw.mono aa,k,by omega⟩
 rintro _ ⟨s,A,rfl,q1,q2,q3⟩
 dsimp only
 refine Ok.next aa aa aa aa λr2 g3 g4=> ?_
 dsimp only
 -- declarations
 refine Ok.loop (λst=>∃s L n a' w,st=(s,L,n,l,a')/\Wt s 0 0 w/\0<=n/\n<=5/\(L.length:Int)+n<=5/\(w:Int)<=90+920*(5-n)/\a<=a'/\a'<=a+100+10020*(5-n)) (λst=>st.2.2.1.toNat) (λb=>∃s a',b=(s,l,a')/\Wt s 0 0 4690/\a<=a'/\a'<=a+60000) ?_ ⟨s,[],_,A+1,90,rfl,q1,by grind [bA],by rw[bA aa aa];omega,by grind [bA],by rw[bA aa aa];omega,by omega,by rw[bA aa aa];omega⟩ (by grind [bA]) ?_
 .rintro _ ⟨s,L,n,a',w,rfl,kw,K,M,R,S,k,U⟩
  simp only[WH]
  by_cases hn:n>0
  .rw[jB (by simpa using hn)]
   refine Ok.assoc (Ok.declW aa aa aa λe d v1 v2 z=> ?_)
   refine Ok.assoc (qJa (y:=((l,e),d)) z.1 G λhd=> ?_)
   dsimp only
   refine Ok.assoc (Ok.bind (P:=λo:Bool×List Int×Int=>o.2.1=l/\e<=o.2.2/\o.2.2<=e+1) (Ok.has aa aa λb=>Ok.ite (λ_=>Ok.mk ⟨rfl,by simp only;omega,by simp only;omega⟩) λ_=>Ok.chance aa aa aa aa λc=>Ok.mk ⟨rfl,by simp only;omega,by simp only;omega⟩) λo9 F=> ?_)
   obtain⟨b9,l9,a9⟩:=o9
   obtain⟨rfl,w1,w2⟩:=F
   dsimp only at w1 w2 ⊢
   refine Ok.iteb (λ_=> ?_) λ_=> ?_
   .refine Ok.assoc (Ok.app (by grind) ac ?_)
    refine Ok.assoc (Ok.catW kw z aa λv q=>Ok.someb (Ok.mk ?_))
    dsimp only
    rw[bA aa aa]
    exact⟨⟨v,_,_,_,_,rfl,q,by omega,by omega,by grind,by omega,by omega,by omega⟩,by omega⟩
   refine Ok.someb (Ok.mk ?_)
   grind [bA]
  rw[jA (by simpa using hn)]
  exact Ok.mk ⟨s,a',rfl,kw.mono aa,k,by omega⟩
 rintro _ ⟨s,k,rfl,e,q,v⟩
 dsimp only
 refine Ok.chance aa aa aa aa λc=> ?_
 dsimp only
 refine Ok.iteb (λ_=> ?_) λ_=> ?_
 .refine Ok.assoc (Ok.oneE aa aa ae λx h=> ?_)
  dsimp only
  refine Ok.assoc (Ok.catW e h aa λt g=>Ok.someb (Ok.mk ?_))
  dsimp only
  exact⟨_,_,rfl,by omega,by omega,g.mono aa⟩
 refine Ok.someb (Ok.mk ?_)
 dsimp only
 exact⟨_,_,rfl,by omega,by omega,e.up.mono aa⟩
end
section
open Go Go.Dc Go.Proofs
theorem Rz:∀c:UInt8,cY [1,2,3,4] c=true->wc c=true:=λc=>by
 have:=jL.1 (show((List.range 256).all λn=> !(cY [1,2,3,4] (UInt8.ofNat n))||wc (UInt8.ofNat n))=true by decide+kernel) c.toNat (gZ.2 c.toNat_lt)
 grind [UInt8.ofNat_toNat]
theorem UY{ks:List Int}(d:∀k∈ks,k∈[(1:Int),2,3,4]){c:UInt8}(h:cY ks c=true):wc c=true:=Rz c (by
 obtain⟨k,a,b⟩:=fG.1 h
 exact fG.2 ⟨k,d k a,b⟩)
def Fr(l:List UInt8):Prop:=∃r,sc [] l=some r/\r∈wdW
theorem Fr.one{c:UInt8}{l:List UInt8}(a:wc c=false):Fr (c::l)↔Fr l:=by
 unfold Fr
 simp only[sc,a]
 rfl
theorem Fr.cut{x l:List UInt8}{c:UInt8}(e:wc c=false)(h:Fr (x++c::l)):Fr l:=by
 obtain⟨r,b,d⟩:=h
 rw[UO] at b
 obtain⟨q,-,a⟩:=jV.1 b
 simp only[sc,e] at a
 split at a
 .grind
 split at a
 .exact⟨r,a,d⟩
 cases a
theorem Ri:∀(x a l:List UInt8),(∀c∈x,wc c=true)->sc a (x++l)=sc (a++x) l
 |[],a,l,_=>by simp
 |c::x,a,l,h=>by
  have:=Ri x (a++[c]) l λc b=>h c (jC _ b)
  grind [sc]
theorem qLx:∀w∈wdW,∀c∈w,wc c=true:=λw a=>jL.1 (jL.1 (show(wdW.all λw=>w.all wc)=true by decide+kernel) w a)
theorem qKq(l:List UInt8):l.dropWhile wc=[]\/∃c y,l.dropWhile wc=c::y/\wc c=false:=by
 have:=List.head?_dropWhile_not wc l
 cases h:l.dropWhile wc with
 |nil=>exact .inl rfl
 |cons c y=>grind
theorem Fr.word{l:List UInt8}(h:Fr l):l.takeWhile wc∈wdW/\∀w∈wdW,Fr (w++l.dropWhile wc):=by
 grind [List.takeWhile_append_dropWhile,Ri,CW,Fr,qKq,qLx,sc]
theorem Bz{p:UInt8->Bool}(a:∀c,p c=true->wc c=true):∀l:List UInt8,l.takeWhile p=(l.takeWhile wc).takeWhile p/\l.dropWhile p=(l.takeWhile wc).dropWhile p++l.dropWhile wc
 |[]=>⟨rfl,rfl⟩
 |c::l=>by
  have b:=Bz a l
  by_cases h:p c=true
  .simp_all
  by_cases g:wc c=true
  .simp[h,g]
  simp[h,g]
def wdB(w:List UInt8):Bool:=decide (w.dropWhile (cY [1,2,3])∈wdW)&&decide (w.dropWhile (cY [2])∈wdW)&&decide (kd (w.headD 0)=1->w.takeWhile (cY [1,2,3])∈nmW++OU)&&decide (w.headD 0=47->w.tail∈wdW)
theorem qMd:∀w∈wdW,wdB w=true:=jL.1 ae
theorem Fr.take{l:List UInt8}(h:Fr l):Fr (l.dropWhile (cY [1,2,3]))/\Fr (l.dropWhile (cY [2]))/\(kd (l.headD 0)=1->l.takeWhile (cY [1,2,3])∈nmW++OU)/\(wc (l.headD 0)=false\/l.headD 0=47->Fr l.tail):=by
 obtain⟨f,q⟩:=h.word
 have b:=qMd _ f
 simp only[wdB,jU,jR] at b
 obtain⟨⟨⟨r,s⟩,n⟩,t⟩:=b
 have d:=Bz (p:=cY [1,2,3]) (λc=>UY ac) l
 have o:=Bz (p:=cY [2]) (λc=>UY ac) l
 have k:∀c y,l=c::y->wc c=true->(l.takeWhile wc).headD 0=c/\l.tail=(l.takeWhile wc).tail++l.dropWhile wc:=λc y e g=>by
  simp_all
 refine⟨by grind,by grind,λa=> ?_,λg=> ?_⟩
 .rw[d.1]
  cases l with
  |nil=>exact absurd a ae
  |cons c y=>
   have a:kd c=1:=a
   exact n (by rw[(k c y rfl (UY ac (Ag (ks:=[1]) ad a))).1];exact a)
 cases l with
 |nil=>exact h
 |cons c y=>
  grind [Fr.one]
theorem NM(p:UInt8->Bool)(l:List UInt8)(i:Nat):l.drop (tw p l i)=(l.drop i).dropWhile p:=by
 have h:=kA (List.drop ((l.drop i).takeWhile p).length) (kZ (p:=p) (l:=l.drop i))
 rw[List.drop_left] at h
 rw[h,List.drop_drop];rfl
theorem Qp:∀(ds:List UInt8) (n:Int),0<=n->(∀c∈ds,kd c=2)->0<=ds.foldl OP n
 |[],_,h,_=>h
 |c::ds,n,h,b=>Qp ds _ (by
  grind [Lz,OP]) λc a=>b c (jC _ a)
abbrev F1:Int->Prop:=λ_=>True
def Zb(b:Bool)(k:Int)(nm:BA):Prop:=(if k=3\/k=9 then lC nm=true else eU nm.data.toList=true)/\(b=true->nm.data.toList∈if k=3 then nmW else wdW)
theorem qJt{nm:BA}(h:nm.data.toList∈OU):yZ nm=true:=by
 rw[show OU=wordsR.map (λx=>x.data.toList) from rfl] at h
 obtain⟨x,a,b⟩:=gF.1 h
 have:x=nm:=by
  cases x;simp_all
 exact kE (this▸a)
theorem Ce:∀(l:List UInt8),(∀p∈sp l,∀c∈p,cY [1,2,3,4] c=true)->∀c∈l,wc c=true
 |[],_=>λ_ h=>by cases h
 |c::l,h=>by
  have d:=HP l
  unfold sp at h
  split at h
  .rename_i e
   subst e
   intro x a
   rcases jG.1 a with rfl|a
   .decide
   exact Ce l (λp b=>h p (jC _ b)) x a
  cases e:sp l with
  |nil=>exact absurd e d
  |cons p q=>
   rw[e] at h
   have f:=h (c::p) (jD ..)
   intro x a
   rcases jG.1 a with rfl|a
   .grind [Rz]
   refine Ce l (λp' b=> ?_) x a
   grind
theorem qGp{nm:BA}(h:lC nm=true):∀c∈nm.data.toList,cY [1,2,3] c=true:=by
 have:=(gO h).2.2.2
 grind [List.takeWhile_append_dropWhile,tw,CW]
theorem qKc(b:Bool){s:BA}{i:Nat}(a:Int)(hi:i<s.data.toList.length)(f:b=true->Fr (s.data.toList.drop i))(h:(iC s i).2.2=0):
  HY (Zb b) F1 ((iC s i).1.1,(iC s i).1.2.1,(iC s i).1.2.2.1,a)/\(b=true->Fr (s.data.toList.drop (iC s i).2.1.toNat)):=by
 have B:(s.data.toList.drop i).headD 0=s.data.toList[i]:=by grind [pF]
 have no:∀t:cO,t.1≠1->t.1≠2->t.1≠3->HY (Zb b) F1 t:=λt g o k=>⟨λh=>absurd h g,λh=>absurd h k,λh=>absurd h o⟩
 unfold iC at h ⊢
 rw[tR hi] at h ⊢
 by_cases g:kd (s.data.toList[i])=1
 .rw[jB g] at h ⊢
  split at h
  .cases h
  rename_i h24
  rw[jA h24]
  refine⟨⟨λ_ v=>⟨?_,λd=> ?_⟩,λh=>(by cases h),λh=>(by cases h)⟩,λd=> ?_⟩
  .rw[jB (.inl rfl)]
   have q:=XE (s:=s) (p:=cY [1,2,3]) (i:=i)
   have u:((s.data.toList.drop i).takeWhile (cY [1,2,3])).length<=24:=by
    grind [tw]
   show lC (s.extract i (tw (cY [1,2,3]) s.data.toList i))=true
   generalize s.extract i (tw (cY [1,2,3]) s.data.toList i)=X at q
   rw[pF hi,gG (Ag ad g)] at q u
   unfold lC
   rw[q]
   refine kE ⟨by simp,u,g,?_⟩
   have v:=List.takeWhile_append_of_pos (p:=cY [1,2,3]) (l₁:=s.data.toList[i]::(s.data.toList.drop (i+1)).takeWhile (cY [1,2,3])) (l₂:=[]) (λx r=>by
    rcases jG.1 r with rfl|r
    .exact Ag ad g
    exact CW r)
   grind [List.takeWhile_nil,tw]
  .have:=(f d).take.2.2.1 (by grind)
   grind [XE,qJt]
  show Fr (s.data.toList.drop (tw (cY [1,2,3]) s.data.toList i))
  rw[NM];exact(f d).take.1
 rw[jA g] at h ⊢
 by_cases o:kd (s.data.toList[i])=2
 .rw[jB o] at h ⊢
  split at h
  .cases h
  rename_i k
  rw[jA k]
  refine⟨⟨λh=>(by cases h),λh=>(by cases h),λ_=>⟨⟨Qp _ 0 (gB _) λc v=> ?_,by grind⟩,λ_=>trivial⟩⟩,λd=> ?_⟩
  .grind [cY,CW]
  show Fr (s.data.toList.drop (tw (cY [2]) s.data.toList i))
  rw[NM];exact(f d).take.2.1
 rw[jA o] at h ⊢
 by_cases h7:kd (s.data.toList[i])=7
 .rw[jB h7] at h ⊢
  split at h
  .rename_i k
   rw[jB k]
   have E:tw oO s.data.toList (i+1)<s.data.toList.length:=by
    grind
   have z:(s.data.toList.drop (i+1)).dropWhile oO=34::s.data.toList.drop (tw oO s.data.toList (i+1)+1):=by
    grind [NM,pF]
   have q:=XE (s:=s) (p:=oO) (i:=i+1)
   have u:wc 34=false:=by decide
   have r:b=true->Fr ((s.data.toList.drop (i+1)).takeWhile oO++34::s.data.toList.drop (tw oO s.data.toList (i+1)+1)):=λd=>by
    have e:=kZ (p:=oO) (l:=s.data.toList.drop (i+1))
    rw[z] at e
    rw[e]
    have f:=f d
    rw[pF hi] at f
    refine(Fr.one ?_).1 f
    cases A:wc s.data.toList[i] with
    |false=>rfl
    |true=>exact absurd h7 (by
      have:=jL.1 (show((List.range 256).all λn=> !(wc (UInt8.ofNat n))||decide (kd (UInt8.ofNat n)≠7))=true by decide+kernel) (s.data.toList[i]).toNat (gZ.2 (UInt8.toNat_lt _))
      simp_all)
   have A:b=true->(∀c∈(s.data.toList.drop (i+1)).takeWhile oO,wc c=true)->(s.data.toList.drop (i+1)).takeWhile oO∈wdW:=λd v=>by
    have:=(r d).word.1
    simp_all
   refine⟨⟨λh=>(by cases h),λ_=>⟨λD=> ?_,λy=>⟨by grind,λd=> ?_⟩⟩,λh=>(by cases h)⟩,λd=>Fr.cut u (r d)⟩
   .grind [eU,Ce,Zb]
   rw[jA ac]
   show(s.extract (i+1) (tw oO s.data.toList (i+1))).data.toList∈wdW
   have y:=qGp y
   grind [UY]
  cases h
 rw[jA h7] at h ⊢
 by_cases h8:kd (s.data.toList[i])=8
 .rw[jB h8] at h ⊢
  refine⟨no _ (by grind) (by grind) (by grind),λd=> ?_⟩
  show Fr (s.data.toList.drop (yP s.data.toList i))
  have v:wc (s.data.toList[i])=false\/s.data.toList[i]=47:=by
   have:=jL.1 (show((List.range 256).all λn=> !(wc (UInt8.ofNat n))||decide (UInt8.ofNat n=47)||decide (kd (UInt8.ofNat n)≠8))=true by decide+kernel) (s.data.toList[i]).toNat (gZ.2 (UInt8.toNat_lt _))
   simp_all
  have h1':Fr (s.data.toList.drop (i+1)):=by
   have:=(f d).take.2.2.2 (by grind)
   simp_all
  grind [yP,pF,Fr.one]
 grind
theorem qEi{c:UInt8}(h:mV c=false):wc c=false:=by
 have:c=10:=by grind [mV]
 rw[this];decide
theorem qGa{c:UInt8}(h:cY [5] c=true):wc c=false:=by
 have:=jL.1 (show((List.range 256).all λn=> !(cY [5] (UInt8.ofNat n))|| !wc (UInt8.ofNat n))=true by decide+kernel) c.toNat (gZ.2 c.toNat_lt)
 simp_all
theorem Fr.blanks:∀{l:List UInt8},Fr l->Fr (l.dropWhile (cY [5]))
 |[],h=>h
 |c::l,h=>by
  rw[List.dropWhile_cons]
  split
  .rename_i hc;exact Fr.blanks ((Fr.one (qGa hc)).1 h)
  exact h
theorem Fr.line{l:List UInt8}(h:Fr l):Fr (l.dropWhile mV):=by
 have e:=kZ (p:=mV) (l:=l)
 have a:=List.head?_dropWhile_not mV l
 cases hd:l.dropWhile mV with
 |nil=>exact⟨[],rfl,by decide⟩
 |cons c y=>
  grind [qEi,Fr.one,Fr.cut]
theorem Bp(b:Bool){s:BA}:∀(k i:Nat) (r:List cO),(b=true->Fr (s.data.toList.drop i))->oQ k s i= .inr r->∀t∈r,HY (Zb b) F1 t
 |0,_,r,_,h=>by
  obtain rfl:=(Sum.inr.inj h).symm
  grind
 |k+1,i,r,f,h=>by
  have d:b=true->Fr (s.data.toList.drop (tw (cY [5]) s.data.toList i)):=λe=>by rw[NM];exact(f e).blanks
  unfold oQ at h
  generalize tw (cY [5]) s.data.toList i=j at h d
  split at h
  .obtain rfl:=(Sum.inr.inj h).symm
   intro t a
   rw[kY.1 a]
   exact⟨λh=>absurd h (by grind),λh=>absurd h (by grind),λh=>absurd h (by grind)⟩
  split at h
  .exact Bp b k _ r (λe=>by rw[NM];exact(d e).line) h
  split at h
  .cases h
  rename_i h6 c
  have c:(iC s j).2.2=0:=by simpa using c
  have g:j<s.data.toList.length:=by
   refine Nat.lt_of_not_le λl=> ?_
   have e0:s.data.toList.getD j 0=0:=by grind
   have n:kd 0=0:=by decide+kernel
   grind [iC]
  split at h
  .cases h
  rename_i q hq
  obtain rfl:=(Sum.inr.inj h).symm
  obtain⟨t1,t2⟩:=qKc b (j:Int) g d c
  intro t a
  rcases jG.1 a with rfl|a
  .exact t1
  exact Bp b k _ q t2 hq t a
theorem qEw(b:Bool){s:BA}(c:b=true->Fr s.data.toList)(h:(lP s).2.2=0):∀t∈(lP s).1,HY (Zb b) F1 t:=by
 unfold lP at h ⊢
 split
 .grind
 rename_i hs
 rw[jA hs] at h
 cases hg:oQ (s.data.toList.length+1) s 0 with
 |inl x=>intro t a;cases a
 |inr r=>exact λt a=>Bp b _ 0 r (λd=>by grind) hg t a
end
section
open Go Go.Dc Go.Sort Go.Proofs
theorem Jt:∀a b:List UInt8,Op.bytesLess a b=decide (oS a b<0)
 |[],[]=>rfl
 |[],_::_=>rfl
 |_::_,[]=>rfl
 |x::a,y::b=>by
  rw[show Op.bytesLess (x::a) (y::b)=(decide (x<y)||((x==y)&&Op.bytesLess a b)) from rfl,Jt a b]
  grind [oS]
theorem qCa(a b:BA):Op.bytesLess a.toList b.toList=decide (pM a b<0):=by
 grind [Jt,NP,Go.ByteArray.toList_eq]
theorem btK(a b:BA):(a.toList==b.toList)=decide (a=b):=by
 grind [Go.ByteArray.toList_eq,Go.WideShapes.bytes_inj]
theorem qFy{x y:Int}(h:x≠y):sK x y<0↔x<y:=by
 grind [sK]
theorem Hu{N:Nat}(x y:Ky):LL N x y=some (decide (cK x y<0)):=by
 have a:=cmpI_lin.zero x.1 y.1
 have b:=cmpS_lin.zero x.2.1 y.2.1
 grind [LL,btK,qCa,qQ,qFy]
def eL:List Ky->Ky->List Ky
 |[],x=>[x]
 |y::L,x=>if cK y x<0 then y::eL L x else if y=x then y::L else x::y::L
def uH:List Ky->Ky->Nat
 |[],_=>0
 |y::L,x=>if cK y x<0 then uH L x+1 else 0
theorem Px:∀(L:List Ky) (x:Ky),uH L x<=L.length
 |[],_=>jH _
 |y::L,x=>by
  have:=Px L x
  grind [uH]
theorem Ni:∀(L:List Ky) (x:Ky),eL L x=if L[uH L x]? =some x then L else L.take (uH L x)++x::L.drop (uH L x)
 |[],x=>by simp[eL,uH]
 |y::L,x=>by
  simp only[eL,uH]
  by_cases h:cK y x<0
  .simp only[h,jJ,List.getElem?_cons_succ,List.take_succ_cons,List.drop_succ_cons]
   rw[Ni L x]
   split<;>rfl
  grind
theorem TP:∀{L:List Ky} {x z:Ky},z∈eL L x↔z=x\/z∈L
 |[],x,z=>by simp[eL]
 |y::L,x,z=>by
  simp only[eL]
  split
  .simp only[jG,TP (L:=L)]
   grind
  grind
theorem uV:∀(L:List Ky) (x:Ky),(eL L x).length<=L.length+1
 |[],_=>jH _
 |y::L,x=>by
  have:=uV L x
  grind [eL]
theorem Hb:∀{L:List Ky} {x:Ky},rO cK L->rO cK (eL L x)
 |[],x,_=>fC _ x
 |y::L,x,h=>by
  have h':=jF.1 h
  simp only[eL]
  split
  .rename_i hc
   refine jF.2 ⟨λz a=> ?_,Hb h'.2⟩
   grind [TP]
  rename_i hc
  split
  .exact h
  rename_i hne
  have b:cK x y<0:=by
   have c:=cK_lin.zero y x;have d:=cK_lin.anti x y
   grind
  refine jF.2 ⟨λz a=> ?_,h⟩
  rcases jG.1 a with rfl|a
  .exact b
  exact cK_lin.trans x y z b (h'.1 z a)
theorem Lc{N:Nat}{L:List Ky}{x:Ky}(e:L.length<25000000):∀(d i M:Nat),i+d=L.length->d<M->aA (JY N L x) M (i:Int)=some ((i+uH (L.drop i) x:Nat):Int)
 |_,_,0,_,h=>absurd h (jO _)
 |d,i,M+1,g,k=>by
  simp only[aA,JY]
  cases d with
  |zero=>
   have b:¬((i:Int)<(L.length:Int)):=by omega
   simp only[b,decide_false,j7,jE,j0]
   rw[gU aa];rfl
  |succ d=>
   have hi:i<L.length:=by omega
   have b:((i:Int)<(L.length:Int)):=by omega
   have f:wI ((i:Int)+1)=((i+1:Nat):Int):=by grind [bA]
   have c:=Hu (N:=N) L[i] x
   simp only[b,decide_true,jJ,cD hi,j0]
   rw[c]
   have a:L.drop i=L[i]::L.drop (i+1):=(jY hi).symm
   simp only[j0]
   rw[a]
   simp only[uH]
   by_cases hbb:cK L[i] x<0
   .simp only[hbb,decide_true,jJ,f,j0]
    rw[Lc e d (i+1) M aa aa]
    congr 2;omega
   simp[hbb]
theorem GM{N:Nat}{L:List Ky}(x:Ky)(n:L.length<25000000)(l:L.length<N):tL N L x=some (eL L x):=by
 have p:=Lc (N:=N) (L:=L) (x:=x) n L.length 0 N aa l
 have h1':aA (JY N L x) N 0=some ((uH L x:Nat):Int):=by
  grind
 have q:=Px L x
 rw[Ni]
 generalize hk:uH L x=k at*
 have w:wI ((k:Int)+1)=((k+1:Nat):Int):=by grind [bA]
 have fin:∀(_:L[k]?≠some x),((dS 40 L [((0,(⟨#[]⟩:BA),(⟨#[]⟩:BA)):Ky)]).bind λa=>(lR a (wI ((k:Int)+1)) (List.length a:Int)).bind λ_=>(lR a (k:Int) (List.length a:Int)).bind λ_=>(tE a (wI ((k:Int)+1)) (k:Int)).bind λd=>(aO d (k:Int)).bind λ_=>some (List.set d (Int.toNat (k:Int)) (x.1,x.2.1,x.2.2)))=some (L.take k++x::L.drop k):=by
  intro _
  rw[w,eT (by grind) ac]
  simp only[j0]
  generalize hz:((0,(⟨#[]⟩:BA),(⟨#[]⟩:BA)):Ky)=z
  have b:(L++[z]).length=L.length+1:=by simp
  have f:lR (L++[z]) ((k+1:Nat):Int) ((L++[z]).length:Int)=some ():=by grind [lR]
  have g:lR (L++[z]) (k:Int) ((L++[z]).length:Int)=some ():=by grind [lR]
  have h:tE (L++[z]) ((k+1:Nat):Int) (k:Int)=some (qM (L++[z]) (k+1) k):=by grind [tE]
  simp only[f,g,h,j0]
  have e:qM (L++[z]) (k+1) k=(L++[z]).take (k+1)++L.drop k:=by
   have t1:((L++[z]).drop k).take (L.length-k)=L.drop k:=by
    grind
   grind [List.drop_of_length_le,qM]
  have c:k<(qM (L++[z]) (k+1) k).length:=by grind
  rw[cD c]
  simp only[j0,jT]
  congr 1
  rw[e]
  have o:(L++[z]).take (k+1)=L.take k++[((L++[z])[k]'(by rw[b];omega))]:=by
   grind [List.take_succ_eq_append_getElem]
  simp_all
 grind [tL,cD,OJ]
theorem Lw{N:Nat}{L:List Ky}(f:L.length<2500000)(c:L.length<N):∀(d i M:Nat) (S:List Ky),i+d=L.length->d<M->S.length<=i->aA (LE N L) M (S,(i:Int))=some ((L.drop i).foldl eL S)
 |_,_,0,_,_,h,_=>absurd h (jO _)
 |d,i,M+1,S,l,n,o=>by
  simp only[aA,LE]
  cases d with
  |zero=>
   grind
  |succ d=>
   have hi:i<L.length:=by omega
   have e:((i:Int)<(L.length:Int)):=by omega
   have g:wI ((i:Int)+1)=((i+1:Nat):Int):=by grind [bA]
   have b:=GM (N:=N) (L:=S) L[i] aa aa
   simp only[e,decide_true,jJ,cD hi,j0]
   rw[show tL N S (L[i].1,L[i].2.1,L[i].2.2)=some (eL S L[i]) from b]
   have a:L.drop i=L[i]::L.drop (i+1):=(jY hi).symm
   have k:=uV S L[i]
   simp only[j0,g]
   rw[Lw f c d (i+1) M _ aa aa aa,a]
   rfl
theorem Gd:∀(L S:List Ky),rO cK S->rO cK (L.foldl eL S)
 |[],_,h=>h
 |_::L,_,h=>Gd L _ (Hb h)
theorem NA:∀{L S:List Ky} {z:Ky},z∈L.foldl eL S↔z∈L\/z∈S
 |[],S,z=>by simp
 |x::L,S,z=>by
  simp only[kI,jG]
  rw[NA,TP]
  grind
theorem ZF{N:Nat}{L:List Ky}(c:L.length<2500000)(b:L.length<N):FN N L=some (nI L):=by
 have a:aA (LE N L) N (([]:List Ky),0)=some (L.foldl eL []):=Lw c b L.length 0 N [] aa aa (jH _)
 simp only[FN,a,j0]
 congr 1
 exact Hj cK_lin (Gd L [] List.Pairwise.nil) (MJ L) λz=>by grind [NA,xZ]
end
section
open Go Go.Dc Go.Proofs
def IG(e:eS):oI:=(e.1,e.2.1,e.2.2.1,e.2.2.2.1,e.2.2.2.2.1)
theorem Bc{O:List oI}{k:Int}{p n:BA}(h:(oB O k p n).2.2.2.2.2≠0):∃o∈O,yU o=qR k p n/\IG (oB O k p n)=o:=by
 suffices g:∀(O J:List oI) (e:eS),(0<=e.2.2.2.2.2)->(e.2.2.2.2.2≠0->∃o∈J,yU o=qR k p n/\IG e=o)->(O.foldl (lG k p n) e).2.2.2.2.2≠0->∃o∈J++O,yU o=qR k p n/\IG (O.foldl (lG k p n) e)=o by
  have:=g O [] (vO k p n) (gB 0) (λh=>absurd rfl h) h
  rwa[kT] at this
 intro O
 induction O with
 |nil=>grind
 |cons o O b=>
  intro J e d c a
  rw[show J++o::O=(J++[o])++O by simp,kI]
  rw[kI] at a
  refine b (J++[o]) (lG k p n e o) ?_ ?_ a
  .grind [lG]
  grind [lG,yU,yB,IG]
theorem Ks{path pkg:BA}{o:oI}:∀{l:List Dl} {i:Nat},o∈sH path pkg i l->∃j d,l[j]? =some d/\o=(pkg,d.2.1,d.1,path,((i+j:Nat):Int))
 |[],_,h=>by cases h
 |d::l,i,h=>by
  rcases jG.1 h with rfl|h
  .exact⟨0,d,rfl,rfl⟩
  obtain⟨j,d',a,b⟩:=Ks h
  exact⟨j+1,d',by simpa using a,by grind⟩
theorem ZC{L:List bY}{o:oI}(h:o∈nB (mF L)):∃f∈L,sJ f=true/\∃(j:Nat) (d:Dl),(lN f.2).1.2.2[j]? =some d/\o=((lN f.2).1.1,d.2.1,d.1,f.1,(j:Int)):=by
 grind [nB,TH,Ks]
abbrev iG:=List (BA×Int)
def VB(v:Int):Prop:= -9223372036854775808<=v/\v<=9223372036854775807
theorem NN(v:Int):VB (wI v):=by unfold VB;simp only[wI,IntKind.wrap,IntKind.signed,IntKind.bits];simp;omega
abbrev Rrn:=(Int×Int×Int)×Bool×List Ky×Int
abbrev xO:=Rrn×Int×Int
abbrev Rmc:=List bY×Pd×iG×Int×Rrn×Int×Int
abbrev oC(L:List bY)(env:iG)(w:Int)(t:xO):Rmc:=(L,eO (dJ L),env,w,t.1,t.2.1,t.2.2)
def xP(ks:List Ky):List Ky:=ks.foldl eL []
abbrev mP(s:Es)(e a:Int):xO:=(((0,0,0),s.2.2,xP s.1,(s.2.1:Int)),e,a)
theorem Fs:∀(ks l:List Ky),(ks.foldl eL l).length<=l.length+ks.length
 |[],l=>jH _
 |k::ks,l=>by
  have:=Fs ks (eL l k)
  grind [uV]
theorem Oi(ks:List Ky):(xP ks).length<=ks.length:=by grind [xP,Fs]
variable {N:Nat} {L:List bY} {env:iG} {w:Int}
theorem GZ(t:xO)(h:t.2.1=0)(e:Int):nC N (oC L env w t) e=some ((t.1,e,t.2.2),0):=by
 grind [nC]
theorem Lx{p:List Ky}(b:p.length<1000000):∀(d i M:Nat) (l:List Ky),i+d=p.length->d<M->l.length+d<20000000->l.length+d<N->aA (JJ N p) M ((i:Int),l)=some ((p.drop i).foldl eL l)
 |_,_,0,_,_,h,_,_=>absurd h (jO _)
 |0,i,M+1,l,a,_,_,_=>by
  grind [aA,JJ]
 |d+1,i,M+1,l,a,c,e,f=>by
  have hi:i<p.length:=by omega
  have g:=uV l p[i]
  simp only[aA,JJ]
  rw[jB (by grind),cD hi,j0,GM _ aa aa,j0,bA aa aa]
  simp only[j0]
  rw[show((i:Int)+1)=((i+1:Nat):Int) by omega,Lx b d (i+1) M _ aa aa aa aa,pF hi,kI]
theorem qIx{s:Es}{e a:Int}{ks:List Ky}(h:s.1.length+ks.length<10000000)(c:10000000<N)(b:ks.length<1000000):pD N (oC L env w (mP s e a)) ks=some (mP (lS s ks) e a):=by
 have d:=Oi s.1
 have:=Lx (N:=N) b ks.length 0 N (xP s.1) aa aa aa aa
 grind [pD,xP,lS]
def IF(v:Int):Int⊕Int:=if v< -9007199254740992\/9007199254740992<v then .inl 3 else .inr v
def wZ(v:Int):Int:=if v<0 then wI (0-v) else v
def OX(op a b:Int):Int⊕Int:=
 if op=1 then IF (wI (a+b)) else if op=2 then IF (wI (a-b))
 else if op=3 then(if a=0\/b=0 then .inr 0 else if wZ a>(uE .i64 9007199254740992 (wZ b)).getD 0 then .inl 3 else .inr (wI (a*b)))
 else if op=6 then .inr (if a<b then 1 else 0) else if op=7 then .inr (if a=b then 1 else 0)
 else if b=0 then .inl 4 else if op=4 then .inr ((uE .i64 a b).getD 0) else .inr ((BG a b).getD 0)
def RelR(a:Nat)(o:Eo Int)(r:Option (xO×Int)):Prop:=match o.2 with
 | .inr v=>r=some (mP o.1 0 a,v)/\VB v
 | .inl e=>e≠0/\∃v,r=some (mP o.1 e a,v)
theorem RelR.err{a:Nat}{s:Es}{e v:Int}{r:Option (xO×Int)}(b:e≠0)(h:r=some (mP s e a,v)):RelR a (s,.inl e) r:=⟨b,v,h⟩
theorem RelR.val{a:Nat}{s:Es}{v:Int}{r:Option (xO×Int)}(b:VB v)(h:r=some (mP s 0 a,v)):RelR a (s,.inr v) r:=⟨h,b⟩
theorem Qd{s:Es}{a:Nat}{v:Int}(b:VB v):RelR a (s,IF v) (JG N (oC L env w (mP s 0 a)) v):=by
 grind [JG,IF,nC,RelR.err,RelR.val]
theorem Nr{a b:Int}(c:b≠0):∃v,uE .i64 a b=some v/\VB v:=by
 unfold uE
 rw[jA c]
 grind [NN]
theorem qIz{b:Int}(c:b≠0)(a:VB b):wZ b≠0:=by
 unfold VB at a;unfold wZ
 by_cases h:b= -9223372036854775808
 .subst h;decide
 grind [bA]
theorem Rh(b:Int):(if decide (b<0)then some (wI (0-b)) else some b:Option Int)=some (wZ b):=by
 grind [wZ]
theorem qGn{a b:Int}(h:VB a):VB (Int.tmod a b):=by
 unfold VB at*
 have d:(Int.tmod a b).natAbs<=a.natAbs:=by rw[Int.natAbs_tmod];exact Nat.mod_le _ _
 by_cases g:0<=a
 .omega
 have c:=Int.tmod_nonneg b (show 0<=-a by omega)
 rw[Int.neg_tmod] at c
 omega
theorem qCc{s:Es}{a:Nat}{op p q:Int}(l:VB p)(d:VB q):RelR a (s,OX op p q) (QB N (oC L env w (mP s 0 a)) op p q):=by
 have pass:∀{x:Int⊕Int} {r:Option (xO×Int)},RelR a (s,x) r->RelR a (s,x) (r.bind λy=>some (((y.1.1.1,y.1.1.2.1,y.1.1.2.2.1,y.1.1.2.2.2),y.1.2.1,y.1.2.2),y.2)):=λ{x r} h=>by
  cases x with
  |inl e=>obtain⟨b,v,c⟩:=h;rw[c];exact⟨b,v,rfl⟩
  |inr v=>obtain⟨b,c⟩:=h;rw[b];exact⟨rfl,c⟩
 unfold QB OX
 by_cases b:op=1
 .grind [Qd,NN]
 rw[jA b,jA (show ¬(op==1)=true by simpa using b)]
 by_cases c:op=2
 .grind [Qd,NN]
 rw[jA c,jA (show ¬(op==2)=true by simpa using c)]
 by_cases h3:op=3
 .rw[jB h3,jB (show(op==3)=true by simp[h3])]
  refine pass ?_
  unfold VU
  have e:(if(p==0)then some true else some (q==0):Option Bool)=some (decide (p=0\/q=0)):=by
   grind
  rw[e,j0]
  by_cases h:p=0\/q=0
  .grind [RelR.val]
  rw[jA h,jA (show ¬decide (p=0\/q=0)=true by simpa using h),Rh,j0,Rh,j0]
  obtain⟨v,f,-⟩:=Nr (a:=9007199254740992) (qIz (λg=>h (.inr g)) d)
  grind [nC,RelR.err,RelR.val,NN]
 rw[jA h3,jA (show ¬(op==3)=true by simpa using h3)]
 by_cases h6:op=6
 .grind [RelR.val,VB]
 rw[jA h6,jA (show ¬(op==6)=true by simpa using h6)]
 by_cases h7:op=7
 .grind [RelR.val,VB]
 rw[jA h7,jA (show ¬(op==7)=true by simpa using h7)]
 by_cases h0:q=0
 .grind [nC,RelR.err]
 rw[jA h0,jA (show ¬(q==0)=true by simpa using h0)]
 by_cases h4:op=4
 .obtain⟨v,f,k⟩:=Nr (a:=p) h0
  grind [RelR.val]
 grind [BG,RelR.val,qGn]
def oT(L:List bY)(e:eS):Aa:=((uB (dJ L) e.2.2.2.1 e.2.2.2.2.1).1,(uB (dJ L) e.2.2.2.1 e.2.2.2.2.1).1.2.2.getD (uB (dJ L) e.2.2.2.1 e.2.2.2.2.1).2.toNat (0,⟨#[]⟩,[],[]))
def HS(L:List bY)(r:eS×List K3×Int):List Ky×(Int⊕Aa):=(r.2.1,if r.2.2=0 then .inr (oT L r.1) else .inl r.2.2)
def qY(L:List bY)(p:BA):List Ky×(Int⊕(BA⊕Aa)):=match mH L p with
 |some b=>([(4,p,⟨#[]⟩)],.inr (.inl b))
 |none=>([(4,p,⟨#[]⟩),(3,p,⟨#[]⟩)],if(dO L 3 iQ p).2.2.2.2.2=0 then .inl 14 else if 1<(dO L 3 iQ p).2.2.2.2.2 then .inl 12 else .inr (.inr (oT L (dO L 3 iQ p))))
def mW(env:iG)(nm:BA):Option Int:=(env.find? λv=>v.1.toList==nm.toList).map (·.2)
def ON(w k:Int):Int:=wI (Cq .u64 ((DR .u64 w k).getD 0) 1)
def lT(L:List bY)(env:iG)(w:Int):Lk where
 cl f nm:=if 8<f.2.1.length then([],.inl 0) else HS L (pJ (λp=>dO L 1 p nm) nm (f.1::f.2.1) [])
 dt:=qY L
 en:=mW env
 bt:=ON w
 ar:=OX
abbrev Zk:=Zb true
def xM(t:Aa):Prop:=IU Zk F1 t.2/\t.1.2.1.length<=8/\Zk 3 t.1.1/\∀q∈t.1.2.1,Zk 3 q
structure Wc(L:List bY):Prop where
 hc:fP L=0
 wd:∀f∈L,uU f.1=true->Fr f.2.data.toList
structure Wrr(N:Nat)(L:List bY)(env:iG):Prop where
 hN:20000000<N
 wc:Wc L
 env:env.length<=16/\∀v∈env,VB v.2
theorem Wrr.hc{N:Nat}{L:List bY}{env:iG}(h:Wrr N L env):fP L=0:=h.wc.hc
theorem ZJ(b:Bool){s:BA}(o:b=true->Fr s.data.toList)(h:(lN s).2.2=0):okF (Zb b) F1 (lN s).1:=by
 have a:=Ij (s:=s)
 unfold lN at h a ⊢
 by_cases h0:(lP s).2.2=0
 .rw[jA (not_not_intro h0)] at h a ⊢
  obtain⟨-,e,-⟩:=MT h0
  have p:=qEw b o h0
  have g:vK (Zb b) F1 (lP s).1:=λj=>by
   unfold aV
   rw[gH]
   cases hj:(lP s).1[j]? with
   |none=>exact⟨λh=>absurd h ac,λh=>absurd h ac,λh=>absurd h ac⟩
   |some t=>grind
  cases c:uZ (lP s).1 with
  |inl z=>rw[c] at h;exact absurd h (qJz z c)
  |inr f=>
   rw[c] at a
   have key:PB (λf=>(Zb b 3 f.1/\∀q∈f.2.1,Zb b 3 q)/\f.2.1.length<=8/\∀d∈f.2.2,IU (Zb b) F1 d) (uZ (lP s).1):=
    .bind .any λ_ _=> .bind (Br g) λ_ l=> .bind .any λ_ _=> .bind (Jk g _ [] _ (λ_ h=>by cases h) (jQ _)) λ_ k=> .bind (Ow g e _ [] _ λ_ h=>by cases h) λ_ n=> .ok ⟨⟨l,k.1⟩,k.2,n⟩
   obtain⟨k,l,n⟩:=key f c
   exact⟨k,l,a,n⟩
 grind
theorem Zk3{b:Bool}{nm:BA}(h:Zb b 3 nm):lC nm=true:=by have:=h.1;grind
theorem ZW{f:bY}(h:sJ f=true):(lN f.2).2.2=0:=by grind [sJ]
theorem HJ(a:fP L=0):dJ L=mF L:=by grind [dJ]
theorem Ih(a:fP L=0):((dJ L).map (·.1)).Nodup:=by
 rw[HJ a]
 unfold mF
 rw[List.map_map]
 exact List.pairwise_map.2 ((List.Pairwise.filter _ (wH.1 a).2.1).imp λh=>UV h)
theorem Lu(c:fP L=0){k:Int}{p n:BA}(b:(dO L k p n).2.2.2.2.2=1):
  ∃(f:bY) (j:Nat) (d:Dl),f∈L/\sJ f=true/\(lN f.2).1.2.2[j]? =some d/\qR d.1 (lN f.2).1.1 d.2.1=qR k p n/\uB (dJ L) (dO L k p n).2.2.2.1 (dO L k p n).2.2.2.2.1=((lN f.2).1,(j:Int)):=by
 have e:dO L k p n=oB (nB (mF L)) k p n:=by grind [dO]
 rw[e] at b ⊢
 obtain⟨o,r,q,a⟩:=Bc (O:=nB (mF L)) (k:=k) (p:=p) (n:=n) (by rw[b];decide)
 obtain⟨f,g,h,j,d,l,rfl⟩:=ZC r
 unfold IG at a
 simp only[Prod.mk.injEq] at a
 refine⟨f,j,d,g,h,l,q,?_⟩
 rw[a.2.2.2.1,a.2.2.2.2]
 have s:(f.1,(lN f.2).1)∈dJ L:=by
  rw[HJ c]
  exact gF.2 ⟨f,gL.2 ⟨g,h⟩,rfl⟩
 unfold uB
 rw[YS (Ih c) _ s]
theorem CM(b:Wc L){k:Int}{p n:BA}(g:(dO L k p n).2.2.2.2.2=1):
  (∃i:Int,uB (dJ L) (dO L k p n).2.2.2.1 (dO L k p n).2.2.2.2.1=((oT L (dO L k p n)).1,i)/\aO (oT L (dO L k p n)).1.2.2 i=some (oT L (dO L k p n)).2)/\xM (oT L (dO L k p n))/\(oT L (dO L k p n)).2.1=k:=by
 obtain⟨f,j,d,h,l,o,a,e⟩:=Lu b.hc g
 have a:=(yB a).1
 have et:oT L (dO L k p n)=((lN f.2).1,d):=by
  grind [oT]
 obtain⟨q,rfl⟩:=List.getElem?_eq_some_iff.1 o
 obtain⟨c,r,t,s⟩:=ZJ true (λ_=>b.wd f h (by grind [sJ])) (ZW l)
 refine⟨⟨(j:Int),by grind,by grind [cD]⟩,by rw[et];exact⟨s _ (jI q),r,c.1,c.2⟩,by grind⟩
theorem Ng(b:fP L=0)(a:1000<N)(k:Int)(p n:BA):uQ N (eO (dJ L)) k p n=some (dO L k p n):=by
 grind [eO,MZ,GV,dO,HJ]
theorem qFb(b:fP L=0)(a:1000005<N){f:Sr}(c:f.2.1.length<900)(nm:BA):LB N (eO (dJ L)) f nm=some (pJ (λp=>dO L 1 p nm) nm (f.1::f.2.1) []):=by
 simp only[LB]
 rw[eT (by grind) aa]
 have:=Gi (N:=N) (L:=L) (name:=nm) (l:=f.1::f.2.1) b (by grind) a (f.1::f.2.1).length 0 N [] aa (by grind) (jQ _)
 rw[kP] at this
 simp only[j0]
 rw[show([f.1]++f.2.1:List BA)=f.1::f.2.1 from rfl]
 exact this
theorem qEv(a:fP L=0)(c:1000005<N)(p:BA):rG N L (eO (dJ L)) p=some (match mH L p with
  |some _=>(1,AV,[(4,p,iQ)],0)
  |none=>if(dO L 3 iQ p).2.2.2.2.2=0 then(0,AV,[(4,p,iQ),(3,p,iQ)],14)
   else if 1<(dO L 3 iQ p).2.2.2.2.2 then(3,AV,[(4,p,iQ),(3,p,iQ)],12)
   else(2,dO L 3 iQ p,[(4,p,iQ),(3,p,iQ)],0)):=by
 simp only[rG,GJ p (show 100<N by omega),qO,jB a,j0]
 cases hg:mH L p with
 |some b=>rfl
 |none=>
  simp only[j7,jE]
  rw[eT (by grind) aa]
  simp only[j0,Ng a (show 1000<N by omega)]
  have d:=CI L 3 iQ p
  have e:(⟨#[]⟩:BA)=iQ:=rfl
  rw[e]
  by_cases h0:(dO L 3 iQ p).2.2.2.2.2=0
  .rw[jA (show ¬((dO L 3 iQ p).2.2.2.2.2==1)=true by rw[h0];decide),jA (show ¬decide ((dO L 3 iQ p).2.2.2.2.2>1)=true by rw[h0];decide),jB h0];rfl
  rw[jA h0]
  by_cases h1:1<(dO L 3 iQ p).2.2.2.2.2
  .rw[jA (show ¬((dO L 3 iQ p).2.2.2.2.2==1)=true by rw[gP];omega),jB (kE h1),jB h1];rfl
  rw[jB (show((dO L 3 iQ p).2.2.2.2.2==1)=true by rw[gP];omega),jA h1];rfl
theorem Ml{nm:BA}(c:env.length<=16):∀(d i M:Nat),i+d=env.length->d<M->aA (EK N env nm) M (i:Int)=some (match mW (env.drop i) nm with|some v=> .inr (v,true)|none=> .inl ())
 |_,_,0,_,h=>absurd h (jO _)
 |0,i,M+1,a,b=>by
  simp only[aA,EK]
  rw[jA (by grind),jZ aa];rfl
 |d+1,i,M+1,a,b=>by
  have hi:i<env.length:=by omega
  simp only[aA,EK]
  rw[jB (by grind),cD hi,pF hi,j0]
  unfold mW
  by_cases h:((env[i]).1.toList==nm.toList)=true
  .grind
  have h':((env[i]).1.toList==nm.toList)=false:=by simpa using h
  rw[jA h,bA aa aa]
  simp only[j0,List.find?_cons,h']
  rw[show((i:Int)+1)=((i+1:Nat):Int) by omega,Ml c d (i+1) M aa aa]
  rfl
theorem US(a:env.length<=16)(b:100<N)(nm:BA):uO N env nm=some (match mW env nm with|some v=>(v,true)|none=>(0,false)):=by
 unfold uO
 have:=Ml (N:=N) (nm:=nm) a env.length 0 N aa aa
 grind
def Qk(s:Es):Prop:=s.1.length<=10*s.2.1+1
theorem Qk.bE{α β:Type}{o:Eo α}{k:α->Es->Eo β}(h:Qk o.1)(a:∀v u,Qk u->Qk (k v u).1):Qk (bE o k).1:=by
 obtain⟨u,e|v⟩:=o
 .exact h
 exact a v u h
def QkF(F:zH):Prop:=∀a c vs i s,Qk s->Qk (F a c vs i s).1
theorem Qk.seq{F:Int->Es->Eo Int}(h:∀i s,Qk s->Qk (F i s).1):∀(l:List Int) (s:Es),Qk s->Qk (xD F l s).1
 |[],_,a=>a
 |i::l,s,a=>(h i s a).bE λ_ u b=>(Qk.seq h l u b).bE λ_ _ b=>b
theorem Qk.enter{F:zH}(h:QkF F)(a:Nat)(t:Aa)(vs:List Int)(s:Es)(b:Qk s):Qk (rN F a t vs s).1:=by
 unfold rN
 split
 .exact b
 exact h _ _ _ _ _ b
theorem BH{s:Es}{l:List Ky}(h:s.1.length+9<=10*s.2.1+1)(a:l.length<=9):Qk (lS s l):=by
 show(s.1++l).length<=10*s.2.1+1
 grind
theorem Qk.node{I:Lk}{F:zH}(g:(∀f nm,(I.cl f nm).1.length<=9)/\∀p,(I.dt p).1.length<=9)(h:QkF F)(a:Nat)(c:Aa)(vs:List Int)(x:Ex)(s:Es)(e:s.1.length+9<=10*s.2.1+1):Qk (DN I F a c vs x s).1:=by
 have d:Qk s:=by unfold Qk;omega
 unfold DN
 split
 .exact d
 split
 .exact d
 split
 .refine Qk.bE (o:=(lS s _,_)) (BH e (g.1 ..)) λt u b=>(Qk.seq (λi s e=>h _ _ _ _ _ e) _ u b).bE λus u b=> ?_
  grind [Qk.enter]
 split
 .exact(h _ _ _ _ _ d).bE λ_ u b=>(h _ _ _ _ _ b).bE λ_ u b=>b
 split
 .exact(h _ _ _ _ _ d).bE λ_ u b=>h _ _ _ _ _ b
 split
 .refine Qk.bE (o:=(lS s _,_)) (BH e (g.2 ..)) λt u b=>(h _ _ _ _ _ b).bE λi u b=> ?_
  grind [Qk.enter,Qk.bE]
 split
 .grind [Qk.bE,BH]
 split
 .grind [BH]
 split
 .grind [BH]
 exact d
theorem Qk.ev{I:Lk}(d:(∀f nm,(I.cl f nm).1.length<=9)/\∀p,(I.dt p).1.length<=9):∀n,QkF (ev I n)
 |0,_,_,_,_,_,b=>b
 |n+1,a,c,vs,i,s,b=>by
  unfold Go.Proofs.YtgboehjfofcogaaGreatDoor.ev
  split
  .exact b
  split
  .exact b
  exact .node d (Qk.ev d n) _ _ _ _ _ (by unfold Qk at b;show s.1.length+9<=10*(s.2.1+1)+1;omega)
theorem ZM{E:BA->eS}{nm:BA}(b:∀p,0<=(E p).2.2.2.2.2):∀(l:List BA) (acc:List K3),
  ((pJ E nm l acc).2.2=0->∃p,(pJ E nm l acc).1=E p/\(E p).2.2.2.2.2=1)/\(pJ E nm l acc).2.1.length<=acc.length+l.length
 |[],acc=>⟨λh=>absurd h (by show ¬((11:Int)=0);decide),jH _⟩
 |p::l,acc=>by
  unfold pJ
  split
  .obtain⟨a,c⟩:=ZM b l (acc++[(1,p,nm)])
   exact⟨a,by grind⟩
  grind
theorem HC(L:List bY)(env:iG)(w:Int):(∀f nm,((lT L env w).cl f nm).1.length<=9)/\∀p,((lT L env w).dt p).1.length<=9:=by
 refine⟨λf nm=> ?_,λp=> ?_⟩
 .show(if 8<f.2.1.length then([],.inl 0) else HS L _:List Ky×(Int⊕Aa)).1.length<=9
  split
  .exact jQ _
  have:=(ZM (E:=λp=>dO L 1 p nm) (nm:=nm) (λp=>CI L 1 p _) (f.1::f.2.1) []).2
  simp only[jS,kH] at this
  show(pJ (λp=>dO L 1 p nm) nm (f.1::f.2.1) []).2.1.length<=9
  omega
 show(qY L p).1.length<=9
 grind [qY]
abbrev IZ(N D:Nat):=(nL N D).1
abbrev JB(N D:Nat):=(nL N D).2.1
abbrev nJ(N D:Nat):=(nL N D).2.2.1
abbrev BJ(N D:Nat):=(nL N D).2.2.2
theorem tS(r:Option (xO×Int)):(r.bind λy=>some (((y.1.1.1,y.1.1.2.1,y.1.1.2.2.1,y.1.1.2.2.2),y.1.2.1,y.1.2.2),y.2))=r:=by cases r<;>rfl
def Cnd(n:Nat)(s:Es):Prop:=s.2.1<=20000/\20000<s.2.1+n
theorem Cnd.gr{n:Nat}{s s':Es}(h:Cnd n s)(g:Gr s s'):Cnd n s':=⟨g.2.2.1 h.1,fH h.2 (Nat.add_le_add_right g.2.1 n)⟩
variable {n D a:Nat} {t:Aa} {vs:List Int} {s:Es} {x:Ex}
theorem Jy{e b:Int}(a:e≠0)(f:Sr)(l:List Ex)(i:Int)(us:List Int):nJ N (D+1) (oC L env w (mP s e b)) f l i us=some (mP s e b,0):=by
 show EH N (IZ N D) (JB N D) (nJ N D) (BJ N D) (oC L env w (mP s e b)) f l i us=_
 grind [EH]
abbrev PA(N:Nat)(L:List bY)(env:iG)(w:Int)(n:Nat):Prop:=
 ∀(D a:Nat) (t:Aa) (vs:List Int) (i:Int) (s:Es),Cnd n s->Qk s->3*n<=D->a<=64->xM t->t.2.2.2.1.length=vs.length->(∀v∈vs,VB v)->0<=i->i<t.2.2.2.2.length->
  RelR a (ev (lT L env w) n a t vs i s) (nJ N D (oC L env w (mP s 0 a)) t.1 t.2.2.2.2 i vs)
theorem ZQ(x:PA N L env w n){k:Int}(l:Cnd n s)(r:Qk s)(f:3*n<=D)(y:a<=64)(p:aO t.1.2.2 k=some t.2)(b:xM t)(q:t.2.2.2.1.length=vs.length)(u:∀v∈vs,VB v):
  RelR a (rN (ev (lT L env w) n) a t vs s) (BJ N (D+1) (oC L env w (mP s 0 a)) t.1 k vs):=by
 show RelR a _ (PX N (IZ N D) (JB N D) (nJ N D) (BJ N D) (oC L env w (mP s 0 a)) t.1 k vs)
 unfold PX rN
 by_cases h64:a=64
 .grind [nC,RelR.err]
 have z:=b.1.2.1
 have e:=b.1.1.2
 rw[jA h64,jA (show ¬(((a:Nat):Int)==64)=true by grind),p,j0]
 rw[show wI ((oC L env w (mP s 0 a)).2.2.2.2.2.2+1)=((a+1:Nat):Int) from by grind [bA]]
 rw[show wI ((t.2.2.2.2.length:Int)-1)=(t.2.2.2.2.length:Int)-1 from bA aa aa]
 have d:=x D (a+1) t vs ((t.2.2.2.2.length:Int)-1) s l r f aa b q u aa aa
 have c:wI (((a+1:Nat):Int)-1)=(a:Int):=by grind [bA]
 revert d
 generalize ev (lT L env w) n (a+1) t vs ((t.2.2.2.2.length:Int)-1) s=o
 obtain⟨s',er|v⟩:=o
 .rintro⟨A,v,h⟩
  grind [RelR.err]
 rintro⟨h,g⟩
 grind [RelR.val]
abbrev Sw:=List Int×Int×Int×Int×Bool×List Ky×Int×Int×Int
abbrev PI(us:List Int)(s:Es)(e a:Int):Sw:=(us,0,0,0,s.2.2,xP s.1,(s.2.1:Int),e,a)
abbrev BM(us:List Int)(i:Int)(s:Es)(e a:Int):List Int×Int×Int×Int×Int×Bool×List Ky×Int×Int×Int:=(us,i,0,0,0,s.2.2,xP s.1,(s.2.1:Int),e,a)
theorem Mm{m0:Rmc}(b:∃t0,m0=oC L env w t0){e:Int}(k:e≠0)(l:x.2.2.2.2.length<=20000):∀(d i M:Nat) (acc:List Int),i+d=x.2.2.2.2.length->d<M->acc.length<=i->
  ∃us,aA (rC N (nJ N (D+1)) m0 t.1 t.2.2.2.2 x vs) M (BM acc (i:Int) s e a)=some (PI us s e a)
 |_,_,0,_,_,h,_=>absurd h (jO _)
 |0,i,M+1,acc,c,f,g=>by
  refine⟨acc,?_⟩
  grind [aA,rC]
 |d+1,i,M+1,acc,c,f,g=>by
  obtain⟨t0,rfl⟩:=b
  have hi:i<x.2.2.2.2.length:=by omega
  obtain⟨us,h⟩:=Mm (m0:=oC L env w t0) ⟨t0,rfl⟩ k l d (i+1) M (acc++[0]) aa aa (by grind)
  refine⟨us,?_⟩
  have n:rC N (nJ N (D+1)) (oC L env w t0) t.1 t.2.2.2.2 x vs (BM acc (i:Int) s e a)=some (.inl (BM (acc++[0]) ((i+1:Nat):Int) s e a)):=by
   grind [rC,cD,Jy,eT,bA]
  grind [aA]
def Co(a:Nat)(acc:List Int)(k:Nat)(o:Eo (List Int))(r:Option Sw):Prop:=match o.2 with
 | .inr us=>r=some (PI (acc++us) o.1 0 a)/\(∀u∈us,VB u)/\us.length=k
 | .inl e=>e≠0/\∃us,r=some (PI us o.1 e a)
theorem No(K:PA N L env w n)(y:3*n<=D+1)(z:a<=64)(F:xM t)(B:t.2.2.2.1.length=vs.length)(G:∀v∈vs,VB v){t0:xO}
  (H:x.2.2.2.2.length<=20000) (E:∀j∈x.2.2.2.2,0<=j/\j<(t.2.2.2.2.length:Int)):∀(d i M:Nat) (acc:List Int) (s:Es),i+d=x.2.2.2.2.length->d<M->acc.length<=i->Cnd n s->Qk s->
  Co a acc d (xD (ev (lT L env w) n a t vs) (x.2.2.2.2.drop i) s) (aA (rC N (nJ N (D+1)) (oC L env w t0) t.1 t.2.2.2.2 x vs) M (BM acc (i:Int) s 0 a))
 |_,_,0,_,_,_,h,_,_,_=>absurd h (jO _)
 |0,i,M+1,acc,s,S,c,k,l,r=>by
  rw[jZ aa]
  refine⟨?_,λu b=>(by cases b),rfl⟩
  simp only[aA,rC]
  rw[jA (by simp only[jR];omega),gT];rfl
 |d+1,i,M+1,acc,s,S,c,k,l,r=>by
  have hi:i<x.2.2.2.2.length:=by omega
  rw[pF hi]
  have A:=E _ (jI hi)
  have U:=K (D+1) a t vs x.2.2.2.2[i] s l r y z F B G A.1 A.2
  have p:=Gr.ev (lT L env w) n a t vs x.2.2.2.2[i] s
  have q:=Qk.ev (HC L env w) n a t vs x.2.2.2.2[i] s r
  unfold xD
  revert U p q
  generalize ev (lT L env w) n a t vs x.2.2.2.2[i] s=o
  obtain⟨s',er|v⟩:=o
  .rintro⟨e,v,h⟩ _ _
   obtain⟨us,b⟩:=Mm (D:=D) (vs:=vs) (a:=a) (t:=t) (s:=s') (m0:=oC L env w t0) (N:=N) ⟨t0,rfl⟩ e H d (i+1) M (acc++[v]) aa aa (by simp only[jP,jS,kH];omega)
   refine⟨e,us,?_⟩
   have f:rC N (nJ N (D+1)) (oC L env w t0) t.1 t.2.2.2.2 x vs (BM acc (i:Int) s 0 a)=some (.inl (BM (acc++[v]) ((i+1:Nat):Int) s' er a)):=by
    simp only[rC]
    rw[jB (by simpa using hi),cD hi,j0,show nJ N (D+1) _ t.1 _ _ vs=_ from h]
    simp only[j0]
    rw[eT (by simp only[jS,kH];omega) aa,j0,bA aa aa];rfl
   simp only[aA,f,j0]
   exact b
  rintro⟨h,g⟩ p q
  have f:rC N (nJ N (D+1)) (oC L env w t0) t.1 t.2.2.2.2 x vs (BM acc (i:Int) s 0 a)=some (.inl (BM (acc++[v]) ((i+1:Nat):Int) s' 0 a)):=by
   simp only[rC]
   rw[jB (by simpa using hi),cD hi,j0,show nJ N (D+1) _ t.1 _ _ vs=_ from h]
   simp only[j0]
   rw[eT (by simp only[jS,kH];omega) aa,j0,bA aa aa];rfl
  simp only[aA,f,j0]
  have rc:=No K y z F B G (t0:=t0) H E d (i+1) M (acc++[v]) s' aa aa (by simp only[jP,jS,kH];omega) (l.gr p) q
  revert rc
  show Co a (acc++[v]) d _ _->Co a acc (d+1) (bE (s',Sum.inr v) _) _
  simp only[bE]
  generalize xD (ev (lT L env w) n a t vs) (x.2.2.2.2.drop (i+1)) s'=o2
  obtain⟨R,er|us⟩:=o2
  .rintro⟨e,us,c⟩
   exact⟨e,us,c⟩
  rintro⟨c,k,e⟩
  refine⟨c.trans ?_,λu b=> ?_,by show(v::us).length=d+1;rw[jS,e]⟩
  .show some (PI ((acc++[v])++us) R 0 a)=some (PI (acc++(v::us)) R 0 a)
   rw[jW];rfl
  rcases jG.1 b with rfl|b
  .exact g
  exact k u b
theorem tZ(a:20000000<N)(d:s.1.length<=300000){e b:Int}(ks:List Ky)(c:ks.length<=9):pD N (oC L env w (mP s e b)) ks=some (mP (lS s ks) e b):=qIx aa aa aa
theorem qDy(H:Wrr N L env)(M:PA N L env w n)(q:Cnd n s)(hq:s.1.length+9<=10*s.2.1+1)(U:3*n<=D)(F:a<=64)(K:xM t)(Y:t.2.2.2.1.length=vs.length)(hv:∀v∈vs,VB v)
  (hx:x.2.2.2.2.length<=20000) (Z:∀j∈x.2.2.2.2,0<=j/\j<(t.2.2.2.2.length:Int)):
  RelR a (bE (lS s (HS L (pJ (λp=>dO L 1 p x.2.2.2.1) x.2.2.2.1 (t.1.1::t.1.2.1) [])).1,(HS L (pJ (λp=>dO L 1 p x.2.2.2.1) x.2.2.2.1 (t.1.1::t.1.2.1) [])).2) λu s=>bE (xD (ev (lT L env w) n a t vs) x.2.2.2.2 s) λus s=>
   if us.length=u.2.2.2.1.length then rN (ev (lT L env w) n) a u us s else(s,.inl 13)) (IZ N (D+2) (oC L env w (mP s 0 a)) t.1 t.2.2.2.2 x vs):=by
 have V:=H.hN
 have h8:=K.2.1
 have a0:=q.1
 show RelR a _ (PY N (IZ N (D+1)) (JB N (D+1)) (nJ N (D+1)) (BJ N (D+1)) (oC L env w (mP s 0 a)) t.1 t.2.2.2.2 x vs)
 unfold PY
 rw[show LB N _ t.1 x.2.2.2.1=_ from qFb H.hc aa (f:=t.1) aa x.2.2.2.1,j0]
 obtain⟨A,B⟩:=ZM (E:=λp=>dO L 1 p x.2.2.2.1) (nm:=x.2.2.2.1) (λp=>CI L 1 p _) (t.1.1::t.1.2.1) []
 generalize pJ (λp=>dO L 1 p x.2.2.2.1) x.2.2.2.1 (t.1.1::t.1.2.1) []=r at A B
 obtain⟨e,ks,k⟩:=r
 simp only[jS,kH] at B
 have g:ks.length<=9:=by omega
 rw[show pD N _ ks=_ from tZ (L:=L) (env:=env) (w:=w) (e:=0) (b:=(a:Int)) V aa ks g,j0]
 unfold HS
 dsimp only
 have l:Qk (lS s ks):=BH hq g
 by_cases hk:k=0
 .subst hk
  obtain⟨p,rfl,y⟩:=A rfl
  obtain⟨⟨i,R,f1'⟩,S,f3⟩:=CM H.wc y
  rw[jB rfl,jA ac]
  simp only[bE]
  have z:=Gr.seq (λi s=>Gr.ev (lT L env w) n a t vs i s) x.2.2.2.2 (lS s ks)
  have d:=Qk.seq (λi s h=>Qk.ev (HC L env w) n a t vs i s h) x.2.2.2.2 (lS s ks) l
  have c:=No M (D:=D) aa F K Y hv (t0:=mP s 0 a) hx Z x.2.2.2.2.length 0 N [] (lS s ks) aa aa (jH _) (q.gr (Gr.see s ks)) l
  rw[kP,show((0:Nat):Int)=0 from rfl] at c
  revert c z d
  generalize xD (ev (lT L env w) n a t vs) x.2.2.2.2 (lS s ks)=o
  obtain⟨s',er|us⟩:=o
  .rintro _ _ ⟨G,us,h⟩
   rw[show aA (rC N (nJ N (D+1)) _ t.1 _ x vs) N _=_ from h,j0,jB (show(er !=0)=true by simpa using G)]
   exact RelR.err G rfl
  rintro z d ⟨h,G,h3⟩
  rw[show aA (rC N (nJ N (D+1)) _ t.1 _ x vs) N _=_ from h,j0,jA (show ¬((0:Int) !=0)=true by decide)]
  rw[show zT N _ (dO L 1 p x.2.2.2.1)=_ from ZH (GV L).1 aa,j0,R]
  dsimp only
  rw[f1',j0]
  simp only[kT]
  by_cases hlen:us.length=(oT L (dO L 1 p x.2.2.2.1)).2.2.2.1.length
  .rw[jB hlen,jA (by simp[hlen]),tS]
   exact ZQ M ((q.gr (Gr.see s ks)).gr z) d U F f1' S hlen.symm G
  rw[jA hlen,jB ah,tS,show nC N _ 13=_ from GZ (mP s' 0 a) rfl 13]
  exact RelR.err ac rfl
 rw[jA hk,jB (show(k !=0)=true by simpa using hk),tS,show nC N _ k=_ from GZ (mP (lS s ks) 0 a) rfl k]
 exact RelR.err hk rfl
theorem XQ(a:fP L=0)(c:1000005<N)(p:BA):(∃b,b.size<=16384/\qY L p=([(4,p,⟨#[]⟩)],.inr (.inl b))/\rG N L (eO (dJ L)) p=some (1,AV,[(4,p,⟨#[]⟩)],0)/\rI N L p=some (b,true))\/
  (∃(ks:List Ky) (e k:Int),ks.length<=2/\e≠0/\(k≠0↔e≠14)/\qY L p=(ks,.inl e)/\rG N L (eO (dJ L)) p=some (k,AV,ks,e))\/
  (∃ks:List Ky,ks.length<=2/\(dO L 3 iQ p).2.2.2.2.2=1/\qY L p=(ks,.inr (.inr (oT L (dO L 3 iQ p))))/\rG N L (eO (dJ L)) p=some (2,dO L 3 iQ p,ks,0)/\∃z,rI N L p=some (z,false)):=by
 rw[qEv a c p,GJ p (show 100<N by omega)]
 unfold qY qO
 rw[jB a]
 cases d:mH L p with
 |some b=>exact .inl ⟨b,((wH.1 a).2.2 _ (TU d)).2,rfl,rfl,rfl⟩
 |none=>
  have h:=CI L 3 iQ p
  by_cases h0:(dO L 3 iQ p).2.2.2.2.2=0
  .exact .inr (.inl ⟨[(4,p,⟨#[]⟩),(3,p,⟨#[]⟩)],14,0,jH 2,by decide,by decide,by grind,by simp only[jB h0];rfl⟩)
  by_cases h1:1<(dO L 3 iQ p).2.2.2.2.2
  .exact .inr (.inl ⟨[(4,p,⟨#[]⟩),(3,p,⟨#[]⟩)],12,3,jH 2,by decide,by decide,by grind,by simp only[jA h0,jB h1];rfl⟩)
  exact .inr (.inr ⟨[(4,p,⟨#[]⟩),(3,p,⟨#[]⟩)],jH 2,by omega,by grind,by simp only[jA h0,jA h1];rfl,_,rfl⟩)
theorem Pe{v:Int}:(if decide (Int.tmod v 256<0)then some (wI (Int.tmod v 256+256)) else some (Int.tmod v 256):Option Int)=some (v%256):=by
 grind [bA]
theorem Qx(i m:Int):(if decide (i<0)then some true else some (decide (i>=m)):Option Bool)=some (!decide (0<=i/\i<m)):=by
 by_cases h:i<0
 .rw[jB (kE h),kC aa];rfl
 rw[jA (by simpa using h)]
 by_cases g:i<m
 .rw[kE (show 0<=i/\i<m by omega),kC aa];rfl
 rw[kC (show ¬(0<=i/\i<m) by omega),kE aa];rfl
theorem qFf(H:Wrr N L env)(U:PA N L env w n)(K:Cnd n s)(hq:s.1.length+9<=10*s.2.1+1)(hD:3*n<=D)(G:a<=64)(ht:xM t)(hl:t.2.2.2.1.length=vs.length)(q:∀v∈vs,VB v){j:Nat}(hx:x.2.2.2.2=[(j:Int)])(hj:j<t.2.2.2.2.length):
  RelR a (bE (lS s (qY L x.2.2.2.1).1,(qY L x.2.2.2.1).2) λu s=>bE (ev (lT L env w) n a t vs (oU x 0) s) λi s=>
   match u with
   | .inl b=>if 0<=i/\i<b.size then(s,.inr ((b.data.toList.getD i.toNat 0).toNat:Int)) else(s,.inl 3)
   | .inr u=>if i=0 then bE (rN (ev (lT L env w) n) a u [] s) λv s=>(s,.inr (v%256)) else(s,.inl 3)) (JB N (D+2) (oC L env w (mP s 0 a)) t.1 t.2.2.2.2 x vs):=by
 have F:=H.hN
 have a0:=K.1
 show RelR a _ (QA N (IZ N (D+1)) (JB N (D+1)) (nJ N (D+1)) (BJ N (D+1)) (oC L env w (mP s 0 a)) t.1 t.2.2.2.2 x vs)
 unfold QA
 have o0:oU x 0=(j:Int):=by unfold oU;rw[hx];rfl
 have i0:aO x.2.2.2.2 0=some (j:Int):=by rw[hx];rfl
 rw[o0]
 rcases XQ H.hc (show 1000005<N by omega) x.2.2.2.1 with ⟨b,hb,g,l,B⟩|⟨ks,e,k,p,c,-,g,l⟩|⟨ks,p,M,g,l,z,B⟩
 .rw[g,show rG N _ _ x.2.2.2.1=_ from l,j0,show pD N _ [(4,x.2.2.2.1,(⟨#[]⟩:BA))]=_ from tZ (L:=L) (env:=env) (w:=w) (e:=0) (b:=(a:Int)) F aa [(4,x.2.2.2.1,⟨#[]⟩)] (by show 1<=9;decide),j0,jA (show ¬((0:Int) !=0)=true by decide),i0]
  simp only[bE,j0]
  have f:Qk (lS s [(4,x.2.2.2.1,⟨#[]⟩)]):=BH hq (by show 1<=9;decide)
  have d:=K.gr (Gr.see s [(4,x.2.2.2.1,⟨#[]⟩)])
  have Y:=U (D+1) a t vs j _ d f aa G ht hl q aa aa
  revert Y
  generalize ev (lT L env w) n a t vs j _=o
  obtain⟨r,er|i⟩:=o
  .rintro⟨c,v,h⟩
   rw[show nJ N (D+1) _ t.1 _ (j:Int) vs=_ from h,j0,jB (show(er !=0)=true by simpa using c)]
   exact RelR.err c rfl
  rintro⟨h,hp⟩
  rw[show nJ N (D+1) _ t.1 _ (j:Int) vs=_ from h,j0,jA (show ¬((0:Int) !=0)=true by decide),show rI N _ x.2.2.2.1=_ from B,j0,jA (show ¬((1:Int)==2)=true by decide),j0]
  rw[show(if decide (i<0)then some true else some (decide (i>=(b.size:Int))):Option Bool)=_ from Qx i b.size,j0]
  dsimp only
  by_cases hi:0<=i/\i<b.size
  .rw[jB hi,kE hi,jA ac,jB ac]
   obtain⟨k,rfl⟩:∃k:Nat,i=(k:Int):=⟨i.toNat,by omega⟩
   have p:k<b.data.toList.length:=by have:=hi.2;simp only[ByteArray.size] at this;simp only[Array.length_toList];omega
   have A:(b.data.toList[k]).toNat<256:=UInt8.toNat_lt _
   rw[oW p,j0,bA aa aa,jT,gH,List.getElem?_eq_getElem p,hJ]
   exact RelR.val (by unfold VB;omega) rfl
  rw[jA hi,kC hi,jB ac,tS,show nC N _ 3=_ from GZ (mP r 0 a) rfl 3]
  exact RelR.err ac rfl
 .rw[g,show rG N _ _ x.2.2.2.1=_ from l,j0,show pD N _ ks=_ from tZ (L:=L) (env:=env) (w:=w) (e:=0) (b:=(a:Int)) F aa ks aa,j0,jB (show(e !=0)=true by simpa using c),tS,show nC N _ e=_ from GZ (mP (lS s ks) 0 a) rfl e]
  exact RelR.err c rfl
 obtain⟨⟨y,f1,f1'⟩,Z,f3⟩:=CM H.wc M
 have S:(oT L (dO L 3 iQ x.2.2.2.1)).2.2.2.1=[]:=Z.1.2.2.2.1 (by rw[f3];decide)
 rw[g,show rG N _ _ x.2.2.2.1=_ from l,j0,show pD N _ ks=_ from tZ (L:=L) (env:=env) (w:=w) (e:=0) (b:=(a:Int)) F aa ks aa,j0,jA (show ¬((0:Int) !=0)=true by decide),i0]
 simp only[bE,j0]
 have f:Qk (lS s ks):=BH hq aa
 have d:=K.gr (Gr.see s ks)
 have Y:=U (D+1) a t vs j _ d f aa G ht hl q aa aa
 have A:=Gr.ev (lT L env w) n a t vs j (lS s ks)
 have V:=Qk.ev (HC L env w) n a t vs j (lS s ks) f
 revert Y A V
 generalize ev (lT L env w) n a t vs j _=o
 obtain⟨r,er|i⟩:=o
 .rintro⟨c,v,h⟩ _ _
  rw[show nJ N (D+1) _ t.1 _ (j:Int) vs=_ from h,j0,jB (show(er !=0)=true by simpa using c)]
  exact RelR.err c rfl
 rintro⟨h,hp⟩ A V
 rw[show nJ N (D+1) _ t.1 _ (j:Int) vs=_ from h,j0,jA (show ¬((0:Int) !=0)=true by decide),show rI N _ x.2.2.2.1=_ from B,j0,jB (show((2:Int)==2)=true by decide),j0]
 rw[show(if decide (i<0)then some true else some (decide (i>=(1:Int))):Option Bool)=_ from Qx i 1,j0]
 dsimp only
 by_cases hi:i=0
 .subst hi
  rw[jB rfl,kE (show(0:Int)<=0/\(0:Int)<1 by decide),jA ac,jA (show ¬((2:Int)==1)=true by decide)]
  rw[show zT N _ (dO L 3 iQ x.2.2.2.1)=_ from ZH (GV L).1 aa,j0,f1]
  have R:=ZQ (k:=y) (t:=oT L (dO L 3 iQ x.2.2.2.1)) (vs:=[]) U (d.gr A) V hD G f1' Z (by rw[S];rfl) (λv q=>by cases q)
  revert R
  dsimp only
  generalize rN (ev (lT L env w) n) a (oT L (dO L 3 iQ x.2.2.2.1)) [] r=o2
  obtain⟨s2,er|v⟩:=o2
  .rintro⟨c,v,E⟩
   rw[show BJ N (D+1) _ _ y []=_ from E,j0,Pe]
   exact RelR.err c rfl
  rintro⟨E,h5⟩
  rw[show BJ N (D+1) _ _ y []=_ from E,j0,Pe]
  exact RelR.val (by unfold VB;omega) rfl
 rw[jA hi,kC (show ¬(0<=i/\i<1) by omega),jB ac,tS,show nC N _ 3=_ from GZ (mP r 0 a) rfl 3]
 exact RelR.err ac rfl
theorem qFv{k:Int}(h:0<=k)(w:Int):∃z,DR .u64 w k=some z:=by
 unfold DR
 simp_all
theorem Rq(H:Wrr N L env)(hE:∀v∈env,VB v.2):∀n,PA N L env w n
 |0,_,_,_,_,_,s,Z,_,_,_,_,_,_,_,_=>by have:=Z.1;have:=Z.2;omega
 |n+1,D,a,t,vs,i,s,Z,hq,hD,G,A,M,R,h0,hi=>by
  have S:=Rq H hE n
  have hN:=H.hN
  have a4:=Z.1
  obtain⟨D,rfl⟩:∃D',D=D'+3:=⟨D-3,by omega⟩
  have hD':3*n<=D:=by omega
  have a6:s.1.length<=10*s.2.1+1:=hq
  show RelR a _ (EH N (IZ N (D+2)) (JB N (D+2)) (nJ N (D+2)) (BJ N (D+2)) (oC L env w (mP s 0 a)) t.1 t.2.2.2.2 i vs)
  unfold ev EH
  rw[jA (show ¬((0:Int) !=0)=true by decide)]
  by_cases hs:s.2.1=20000
  .grind [nC,RelR.err]
  rw[jA hs,jA (show ¬(((s.2.1:Nat):Int)==20000)=true by grind)]
  obtain⟨k,rfl⟩:∃k:Nat,i=(k:Int):=⟨i.toNat,by omega⟩
  have K:k<t.2.2.2.2.length:=by omega
  rw[jT,List.getElem?_eq_getElem K]
  dsimp only
  rw[cD K,j0]
  have a0:=A.1.1.1 k _ (List.getElem?_eq_getElem K)
  generalize t.2.2.2.2[k]=x at a0
  rw[show wI ((s.2.1:Int)+1)=((s.2.1+1:Nat):Int) from by grind [bA]]
  have u:Cnd n (s.1,s.2.1+1,s.2.2):=⟨by grind,by have:=Z.2;grind⟩
  have a1:(s.1,s.2.1+1,s.2.2).1.length+9<=10*(s.1,s.2.1+1,s.2.2).2.1+1:=by grind
  have U:Qk (s.1,s.2.1+1,s.2.2):=by show s.1.length<=10*(s.2.1+1)+1;omega
  have a3:∀j:Nat,j<k->j<t.2.2.2.2.length:=λj hj=>by omega
  have c:∀k:Int,x.1≠k->¬(x.1==k)=true:=λk h=>by simpa using h
  have d:∀k:Int,x.1=k->(x.1==k)=true:=λk h=>by simpa using h
  generalize hs1:(s.1,s.2.1+1,s.2.2)=g at*
  have e1:g.1=s.1:=by rw[<-hs1]
  have e2:g.2.1=s.2.1+1:=by rw[<-hs1]
  have e3:g.2.2=s.2.2:=by rw[<-hs1]
  rw[<-e1,<-e2,<-e3]
  have V:g.1.length<=300000:=by rw[e1];omega
  unfold DN
  rcases a0 with ⟨f,r,F⟩|⟨f,r,F⟩|⟨f,-,r,F⟩|⟨f,-,j,l,r,F,h4⟩|⟨f,j,l,m,r,F,h4,h5⟩|⟨f,-,j,r,F⟩|⟨f,-⟩|⟨f,r,F,-⟩
  .grind [RelR.val,VB]
  .obtain⟨p,hp⟩:∃p:Nat,x.2.1=(p:Int):=⟨x.2.1.toNat,by omega⟩
   have y:p<vs.length:=by omega
   rw[jA aa,jB f,jA (c 1 aa),jB (d 2 f),hp,cD y,j0,jT,gH,List.getElem?_eq_getElem y]
   grind [RelR.val]
  .rw[jA aa,jA aa,jB f,jA (c 1 aa),jA (c 2 aa),jB (d 3 f),tS,show(lT L env w).cl t.1 x.2.2.2.1=_ from jA (by have:=A.2.1;omega)]
   exact qDy H S u a1 hD' G A M R r λj hj=>by grind
  .have o0:oU x 0=(j:Int):=by unfold oU;rw[r];rfl
   have o1:oU x 1=(l:Int):=by grind [oU]
   have i0:aO x.2.2.2.2 0=some (j:Int):=by rw[r];rfl
   have i1:aO x.2.2.2.2 1=some (l:Int):=by rw[r];rfl
   rw[jA aa,jA aa,jA aa,jB f,jA (c 1 aa),jA (c 2 aa),jA (c 3 aa),jB (d 4 f),i0,j0,o0,o1]
   have r0:=S (D+2) a t vs j g u U aa G A M R aa (by grind)
   have B:=Gr.ev (lT L env w) n a t vs j g
   have E:=Qk.ev (HC L env w) n a t vs j g U
   revert r0 B E
   generalize ev (lT L env w) n a t vs j g=o
   obtain⟨Y,er|p⟩:=o
   .rintro⟨y,v,h⟩ _ _
    rw[show nJ N (D+2) _ t.1 _ (j:Int) vs=_ from h,j0,i1,j0,show nJ N (D+2) _ t.1 _ (l:Int) vs=_ from Jy (D:=D+1) (s:=Y) (b:=(a:Int)) y t.1 _ _ vs,j0,jB (show(er !=0)=true by simpa using y)]
    exact RelR.err y rfl
   rintro⟨h,hp⟩ B E
   rw[show nJ N (D+2) _ t.1 _ (j:Int) vs=_ from h,j0,i1,j0]
   simp only[bE]
   have r1:=S (D+2) a t vs l Y (u.gr B) E aa G A M R aa (by grind)
   revert r1
   generalize ev (lT L env w) n a t vs l Y=o
   obtain⟨s3,er|q⟩:=o
   .rintro⟨y,v,h⟩
    grind [RelR.err]
   rintro⟨h',hq'⟩
   rw[show nJ N (D+2) _ t.1 _ (l:Int) vs=_ from h',j0,jA (show ¬((0:Int) !=0)=true by decide),tS]
   exact qCc hp hq'
  .have o0:oU x 0=(j:Int):=by grind [oU]
   have i0:aO x.2.2.2.2 0=some (j:Int):=by rw[r];rfl
   have i1:aO x.2.2.2.2 1=some (l:Int):=by rw[r];rfl
   have i2:aO x.2.2.2.2 2=some (m:Int):=by rw[r];rfl
   rw[jA aa,jA aa,jA aa,jA aa,jB f,jA (c 1 aa),jA (c 2 aa),jA (c 3 aa),jA (c 4 aa),jB (d 5 f),i0,j0,o0]
   have r0:=S (D+2) a t vs j g u U aa G A M R aa (by grind)
   have B:=Gr.ev (lT L env w) n a t vs j g
   have E:=Qk.ev (HC L env w) n a t vs j g U
   revert r0 B E
   generalize ev (lT L env w) n a t vs j g=o
   obtain⟨Y,er|p⟩:=o
   .rintro⟨y,v,h⟩ _ _
    rw[show nJ N (D+2) _ t.1 _ (j:Int) vs=_ from h,j0,jB (show(er !=0)=true by simpa using y)]
    exact RelR.err y rfl
   rintro⟨h,hp⟩ B E
   rw[show nJ N (D+2) _ t.1 _ (j:Int) vs=_ from h,j0,jA (show ¬((0:Int) !=0)=true by decide)]
   simp only[bE]
   by_cases hp0:p=0
   .rw[jB hp0,jA (show ¬(p !=0)=true by simp[hp0]),i2,j0,tS,show oU x 2=(m:Int) by grind [oU]]
    exact S (D+2) a t vs m Y (u.gr B) E aa G A M R aa (by grind)
   rw[jA hp0,jB (show(p !=0)=true by simpa using hp0),i1,j0,tS,show oU x 1=(l:Int) by grind [oU]]
   exact S (D+2) a t vs l Y (u.gr B) E aa G A M R aa (by grind)
  .rw[jA aa,jA aa,jA aa,jA aa,jA aa,jB f,jA (c 1 aa),jA (c 2 aa),jA (c 3 aa),jA (c 4 aa),jA (c 5 aa),jB (d 6 f),tS]
   exact qFf H S u a1 hD' G A M R r (a3 _ F)
  .rcases f with f|f|f
   .rw[jA aa,jA aa,jA aa,jA aa,jA aa,jA aa,jB f,jA (c 1 aa),jA (c 2 aa),jA (c 3 aa),jA (c 4 aa),jA (c 5 aa),jA (c 6 aa),jB (d 7 f)]
    show RelR a (bE (lS g (qY L x.2.2.2.1).1,(qY L x.2.2.2.1).2) λt s=>(s,.inr (match t with| .inl b=>(b.size:Int)| .inr _=>1))) _
    rcases XQ H.hc (show 1000005<N by omega) x.2.2.2.1 with ⟨b,hb,B,E,Y⟩|⟨ks,e,k,K,y,-,B,E⟩|⟨ks,K,a2,B,E,z,Y⟩
    .rw[B,show rG N _ _ x.2.2.2.1=_ from E,j0,show pD N _ [(4,x.2.2.2.1,(⟨#[]⟩:BA))]=_ from tZ (L:=L) (env:=env) (w:=w) (s:=g) (e:=0) (b:=(a:Int)) hN V [(4,x.2.2.2.1,⟨#[]⟩)] (by grind),j0,jA (show ¬((0:Int) !=0)=true by decide),jA (show ¬((1:Int)==2)=true by decide),show rI N _ x.2.2.2.1=_ from Y,j0]
     exact RelR.val (by grind [VB]) rfl
    .rw[B,show rG N _ _ x.2.2.2.1=_ from E,j0,show pD N _ ks=_ from tZ (L:=L) (env:=env) (w:=w) (s:=g) (e:=0) (b:=(a:Int)) hN V ks aa,j0,jB (show(e !=0)=true by simpa using y),tS,show nC N _ e=_ from GZ (mP (lS g ks) 0 a) rfl e]
     exact RelR.err y rfl
    rw[B,show rG N _ _ x.2.2.2.1=_ from E,j0,show pD N _ ks=_ from tZ (L:=L) (env:=env) (w:=w) (s:=g) (e:=0) (b:=(a:Int)) hN V ks aa,j0,jA (show ¬((0:Int) !=0)=true by decide),jB (show((2:Int)==2)=true by decide)]
    exact RelR.val (by grind [VB]) rfl
   .rw[jA aa,jA aa,jA aa,jA aa,jA aa,jA aa,jA aa,jB f,jA (c 1 aa),jA (c 2 aa),jA (c 3 aa),jA (c 4 aa),jA (c 5 aa),jA (c 6 aa),jA (c 7 aa),jB (d 8 f)]
    show RelR a (lS g (qY L x.2.2.2.1).1,.inr (match(qY L x.2.2.2.1).2 with| .inl e=>(if e=14 then 0 else 1)| .inr _=>1)) _
    rcases XQ H.hc (show 1000005<N by omega) x.2.2.2.1 with ⟨b,hb,B,E,Y⟩|⟨ks,e,k,K,y,a5,B,E⟩|⟨ks,K,a2,B,E,z,Y⟩
    .grind [tZ,RelR.val,VB]
    .grind [tZ,RelR.val,VB]
    grind [tZ,RelR.val,VB]
   rw[jA aa,jA aa,jA aa,jA aa,jA aa,jA aa,jA aa,jA aa,jB f,jA (c 1 aa),jA (c 2 aa),jA (c 3 aa),jA (c 4 aa),jA (c 5 aa),jA (c 6 aa),jA (c 7 aa),jA (c 8 aa),jB (d 9 f)]
   rw[show pD N _ [(5,x.2.2.2.1,(⟨#[]⟩:BA))]=_ from tZ (L:=L) (env:=env) (w:=w) (s:=g) (e:=0) (b:=(a:Int)) hN V [(5,x.2.2.2.1,⟨#[]⟩)] (by grind),j0,show uO N _ x.2.2.2.1=_ from US H.env.1 aa x.2.2.2.1,j0]
   show RelR a (lS g [(5,x.2.2.2.1,⟨#[]⟩)],match mW env x.2.2.2.1 with|some v=> .inr v|none=> .inl 15) _
   grind [mW,nC,RelR.err,RelR.val,Option.map_eq_some_iff]
  rw[jA aa,jA aa,jA aa,jA aa,jA aa,jA aa,jA aa,jA aa,jA aa,jA (c 1 aa),jA (c 2 aa),jA (c 3 aa),jA (c 4 aa),jA (c 5 aa),jA (c 6 aa),jA (c 7 aa),jA (c 8 aa),jA (c 9 aa)]
  obtain⟨z,y⟩:=qFv r w
  rw[show DR .u64 _ x.2.1=_ from y,j0]
  refine RelR.val (v:=ON w x.2.1) (NN _) ?_
  grind [ON]
def wR(L:List bY)(env:iG)(w:Int)(P T:BA):Eo Int:=rN (ev (lT L env w) 20001) 0 (oT L (dO L 2 P T)) [] ([(2,P,T)],0,false)
def HT(o:Eo Int):Int×Int×Int:=match o.2 with
 | .inr v=>if v=0 then(2,0,0) else(1,v,0)
 | .inl e=>(3,0,e)
def VL(o:Eo Int):Rrn:=(HT o,o.1.2.2,xP o.1.1,(o.1.2.1:Int))
variable {P T:BA}
theorem qIc(H:Wrr N L env){k:Int}{p n:BA}(h:(dO L k p n).2.2.2.2.2=1):∃i:Int,RY N L (dO L k p n)=some ((oT L (dO L k p n)).1,i,true)/\aO (oT L (dO L k p n)).1.2.2 i=some (oT L (dO L k p n)).2:=by
 have y:=H.hN
 have b:=H.hc
 have e:dO L k p n=oB (nB (mF L)) k p n:=by grind [dO]
 obtain⟨o,r,B,a⟩:=Bc (O:=nB (mF L)) (k:=k) (p:=p) (n:=n) (by grind)
 obtain⟨f,l,q,j,d,A,rfl⟩:=ZC r
 unfold IG at a
 rw[<-e] at a
 simp only[Prod.mk.injEq] at a
 obtain⟨u,v,x,c,g⟩:=a
 obtain⟨⟨i,t,f1'⟩,-,-⟩:=CM H.wc h
 have s:(f.1,(lN f.2).1)∈dJ L:=by
  rw[HJ b]
  exact gF.2 ⟨f,gL.2 ⟨l,q⟩,rfl⟩
 have z:uB (dJ L) (dO L k p n).2.2.2.1 (dO L k p n).2.2.2.2.1=((lN f.2).1,(j:Int)):=by
  rw[c,g]
  unfold uB
  rw[YS (Ih b) _ s]
 grind [RY,Mc,Gc,cD]
theorem qHs(H:Wrr N L env)(u:rV N env=some true)(d:(dO L 2 P T).2.2.2.2.2=1):SD N L env w (P,T)=some (VL (wR L env w P T),0):=by
 have x:=H.hN
 obtain⟨M,rfl⟩:∃M,N=M+70000:=⟨N-70000,by omega⟩
 obtain⟨i,l,p⟩:=qIc H d
 obtain⟨-,g,q⟩:=CM H.wc d
 have f:(oT L (dO L 2 P T)).2.2.2.1=[]:=g.1.2.2.2.1 (by rw[q];decide)
 unfold SD
 rw[wE aa,H.hc,j0,jA ac,u,j0,j0,jA ac,show LK (M+70000) L 2 P T=_ from Zu 2 P T aa,j0,jA (by simp[d]),l,j0,GF aa,j0]
 rw[show pD (M+70000) (L,((dJ L).map (·.1),(dJ L).map (·.2)),env,w,((0,0,0),false,[],0),0,0) [(2,(P,T).1,(P,T).2)]=_ from tZ (L:=L) (env:=env) (w:=w) (s:=([],0,false)) (e:=0) (b:=0) x (by grind) [(2,P,T)] (by grind),j0]
 have y:=ZQ (N:=M+70000) (L:=L) (env:=env) (w:=w) (n:=20001) (D:=M+69999) (a:=0) (s:=([(2,P,T)],0,false)) (t:=oT L (dO L 2 P T)) (vs:=[]) (Rq H H.env.2 20001) (k:=i) ⟨jQ _,by simp_all⟩ (by show 1<=10*0+1;decide) aa ac p g (by rw[f];rfl) (λv A=>by cases A)
 have key:∀(o:Eo Int) (r:Option (xO×Int)),RelR 0 o r->(r.bind λc=>(if(c.1.2.1 !=0)then some ((3:Int),(0:Int),c.1.2.1) else if(c.2==0)then some (2,0,0) else some (1,c.2,0):Option (Int×Int×Int)).bind λo2=>some ((o2,c.1.1.2.1,c.1.1.2.2.1,c.1.1.2.2.2),(0:Int)))=some (VL o,0):=λo r h=>by
  obtain⟨s,e|v⟩:=o
  .obtain⟨z,v,h⟩:=h
   rw[h,j0,jB (show(e !=0)=true by simpa using z)];rfl
  obtain⟨h,-⟩:=h
  grind [VL,HT]
 exact key _ _ y
def eW(v:Int):Prop:= -9007199254740992<=v/\v<=9007199254740992
theorem Ap{v:Int}(h:v.natAbs<=9007199254740992):eW v:=by unfold eW;omega
theorem Pb{v:Int}(h:eW v):wZ v=(v.natAbs:Int):=by
 grind [eW,wZ,bA]
def Kw(k:Ky):Prop:=((k.1=1\/k.1=2)/\k.2.1.data.toList∈nmW/\k.2.2.data.toList∈nmW)\/((k.1=3\/k.1=4\/k.1=5)/\k.2.1.data.toList∈wdW/\k.2.2=e0)\/((k.1=6\/k.1=7)/\k.2.1.data.toList∈nmW/\k.2.2=e0)
def Kg(k:Ky):Prop:=eY k=true/\Kw k
def Kgs(s:Es):Prop:=∀k∈s.1,Kg k
def Gv{α:Type}(P:α->Prop):Int⊕α->Prop
 | .inl e=>3<=e/\e<=17
 | .inr v=>P v
def Gq{α:Type}(P:α->Prop)(o:Eo α):Prop:=Kgs o.1/\Gv P o.2
theorem Gq.bE{α β:Type}{P:α->Prop}{Q:β->Prop}{o:Eo α}{k:α->Es->Eo β}(h:Gq P o)(a:∀v u,P v->Kgs u->Gq Q (k v u)):Gq Q (bE o k):=by
 obtain⟨u,e|v⟩:=o
 .exact h
 exact a v u h.2 h.1
theorem Kgs.see{s:Es}{l:List Ky}(h:Kgs s)(b:∀k∈l,Kg k):Kgs (lS s l):=λk a=>by
 rcases kJ.1 a with a|a
 .exact h k a
 grind
theorem Zw{k:Int}{nm:BA}(h:Zk k nm):nm.data.toList∈if k=3 then nmW else wdW:=h.2 rfl
theorem Kg.nm{i:Int}{p n:BA}(hi:i=1\/i=2)(b:Zk 3 p)(a:Zk 3 n):Kg (i,p,n):=by
 refine⟨?_,.inl ⟨hi,Zw b,Zw a⟩⟩
 grind [eY,Zk3]
theorem Kg.pt{i k:Int}{p:BA}(hi:i=3\/i=4)(d:k=6\/k=7\/k=8)(c:Zk k p):Kg (i,p,e0):=by
 obtain⟨b,a⟩:=c
 rw[jA aa] at b
 have a:=a rfl
 rw[jA aa] at a
 refine⟨?_,.inr (.inl ⟨by grind,a,rfl⟩)⟩
 grind [eY]
theorem Kg.vr{p:BA}(c:Zk 9 p):Kg (5,p,e0):=by
 obtain⟨a,b⟩:=c
 rw[jB (.inr rfl)] at a
 refine⟨?_,.inr (.inl ⟨.inr (.inr rfl),b rfl,rfl⟩)⟩
 grind [eY]
theorem Hi{E:BA->eS}{nm:BA}(b:∀p,0<=(E p).2.2.2.2.2)(c:Zk 3 nm):∀(l:List BA) (acc:List K3),(∀p∈l,Zk 3 p)->(∀k∈acc,Kg k)->
  (∀k∈(pJ E nm l acc).2.1,Kg k)/\((pJ E nm l acc).2.2=11\/(pJ E nm l acc).2.2=12\/(pJ E nm l acc).2.2=0/\∃p,(pJ E nm l acc).1=E p/\(E p).2.2.2.2.2=1)
 |[],acc,_,h=>⟨h,.inl rfl⟩
 |p::l,acc,d,h=>by
  have a:∀k∈acc++[(1,p,nm)],Kg k:=λk f=>by
   grind [Kg.nm]
  unfold pJ
  split
  .exact Hi b c l _ (λq e=>d q (jC _ e)) a
  grind
theorem qHj{op a b:Int}(e:eW a)(f:eW b):Gv eW (OX op a b):=by
 have ha':a.natAbs<=9007199254740992:=by grind [eW]
 have hb':b.natAbs<=9007199254740992:=by grind [eW]
 have k:∀v,Gv eW (IF v):=λv=>by
  unfold IF
  split
  .exact⟨by decide,by decide⟩
  show eW v;unfold eW;omega
 have g:∀(c:Prop) [Decidable c],Gv eW (.inr (if c then 1 else 0)):=λc _=>by
  show eW _
  grind [eW]
 unfold OX
 by_cases p1:op=1
 .grind
 by_cases p2:op=2
 .grind
 rw[jA p1,jA p2]
 by_cases p3:op=3
 .rw[jB p3]
  by_cases h0:a=0\/b=0
  .rw[jB h0];show eW 0;unfold eW;decide
  rw[jA h0]
  by_cases hg:wZ a>(uE .i64 9007199254740992 (wZ b)).getD 0
  .rw[jB hg];exact⟨by decide,by decide⟩
  rw[jA hg]
  have l:eW (a*b):=Ap (by
   rw[Int.natAbs_mul]
   have d:uE .i64 9007199254740992 (b.natAbs:Int)=some ((9007199254740992/b.natAbs:Nat):Int):=by
    have h:=Nat.div_le_self 9007199254740992 b.natAbs
    grind [uE,bA]
   rw[Pb e,Pb f,d,hJ] at hg
   exact(Nat.le_div_iff_mul_le aa).1 aa)
  show eW (wI (a*b))
  grind [eW,bA]
 rw[jA p3]
 by_cases p6:op=6
 .simp_all
 by_cases p7:op=7
 .simp_all
 rw[jA p6,jA p7]
 by_cases hb0:b=0
 .rw[jB hb0];exact⟨by decide,by decide⟩
 rw[jA hb0]
 have d:eW (a.tdiv b):=Ap (by rw[Int.natAbs_tdiv];exact kM (Nat.div_le_self _ _) ha')
 have h:eW (a.tmod b):=Ap (by rw[Int.natAbs_tmod];exact kM (Nat.mod_le _ _) ha')
 split
 .show eW _
  grind [eW,bA,uE]
 show eW _
 grind [BG]
theorem ZG(H:Wc L){k:Int}{p:BA}(a:k=6\/k=7\/k=8)(d:Zk k p){s:Es}(h:Kgs s):Gq (λu=>(∀b,u= .inl b->b.size<=16384)/\∀t,u= .inr t->xM t) (lS s (qY L p).1,(qY L p).2):=by
 have c:Kg (4,p,e0):=Kg.pt (.inr rfl) a d
 have f:Kg (3,p,e0):=Kg.pt (.inl rfl) a d
 unfold qY
 cases hg:mH L p with
 |some b=>
  refine⟨h.see λk a=>by rw[kY.1 a];exact c,λb' e=> ?_,λt e=>by cases e⟩
  cases e
  exact((wH.1 H.hc).2.2 _ (TU hg)).2
 |none=>
  refine⟨h.see λk a=> ?_,?_⟩
  .rcases jG.1 a with rfl|a
   .exact c
   rw[kY.1 a];exact f
  dsimp only
  split
  .exact⟨by decide,by decide⟩
  split
  .exact⟨by decide,by decide⟩
  refine⟨λb e=>(by cases e),λt e=> ?_⟩
  cases e
  exact(CM H (by have:=CI L 3 iQ p;omega)).2.1
theorem qDf(w k:Int):eW (ON w k):=by
 unfold ON
 grind [Cq,qCk,bA,eW]
theorem Py(H:Wc L)(V:∀v∈env,eW v.2):∀n (a:Nat) (t:Aa) (vs:List Int) (i:Int) (s:Es),xM t->(∀v∈vs,eW v)->0<=i->i<(t.2.2.2.2.length:Int)->Kgs s->Gq eW (ev (lT L env w) n a t vs i s)
 |0,_,_,_,_,_,_,_,_,_,h=>⟨h,by decide,by decide⟩
 |n+1,a,t,vs,i,s,y,r,i0,i1,h=>by
  have Z:=Py H V n
  have S:∀(t:Aa) (us:List Int) (s:Es),xM t->(∀v∈us,eW v)->Kgs s->Gq eW (rN (ev (lT L env w) n) a t us s):=λt us s y d h=>by
   unfold rN
   split
   .exact⟨h,by decide,by decide⟩
   have:=y.1.2.1
   grind
  have U:∀(l:List Int) (s:Es),(∀j∈l,0<=j/\j<(t.2.2.2.2.length:Int))->Kgs s->Gq (λus=>∀v∈us,eW v) (xD (ev (lT L env w) n a t vs) l s):=λl=>by
   induction l with
   |nil=>exact λ_ _ h=>⟨h,λv r=>by cases r⟩
   |cons j l il=>exact λs G h=>(Z _ _ _ _ _ y r (G j (jD ..)).1 (G j (jD ..)).2 h).bE λv u hv' d=>(il u (λk K=>G k (jC _ K)) d).bE λus u Y d=>⟨d,λx hx=>by
     grind⟩
  unfold ev
  split
  .exact⟨h,by decide,by decide⟩
  have hi:i.toNat<t.2.2.2.2.length:=by omega
  rw[List.getElem?_eq_getElem hi]
  dsimp only
  have R:=y.1.1.1 i.toNat _ (List.getElem?_eq_getElem hi)
  generalize t.2.2.2.2[i.toNat]=x at R ⊢
  have g:Kgs (s.1,s.2.1+1,s.2.2):=h
  have B:∀(j:Nat) (s:Es),j<i.toNat->Kgs s->Gq eW (ev (lT L env w) n a t vs (j:Int) s):=λj s G h=>Z _ _ _ _ _ y r aa aa h
  unfold DN
  rcases R with ⟨c,e⟩|⟨c,-⟩|⟨c,e,-,D⟩|⟨c,-,j,k,e,D,M⟩|⟨c,j,k,l,e,D,M,g5⟩|⟨c,e,j,D,M⟩|⟨c,e⟩|⟨c,-⟩
  .rw[jB c];exact⟨g,e⟩
  .rw[jA aa,jB c]
   refine⟨g,?_⟩
   show eW (vs.getD x.2.1.toNat 0)
   grind [eW]
  .rw[jA aa,jA aa,jB c,show(lT L env w).cl t.1 x.2.2.2.1=_ from jA (by have:=y.2.1;omega)]
   obtain⟨k1,A⟩:=Hi (E:=λp=>dO L 1 p x.2.2.2.1) (λp=>CI L 1 p _) e (t.1.1::t.1.2.1) [] (λp F=>by
    rcases jG.1 F with rfl|F
    .exact y.2.2.1
    exact y.2.2.2 p F) (λk K=>by cases K)
   refine Gq.bE (P:=xM) (o:=(lS _ _,_)) ⟨g.see k1,?_⟩ λu s d f=>(U _ s (λj G=>by grind) f).bE λus s Y f=> ?_
   .unfold HS
    dsimp only
    rcases A with A|A|⟨A,p,e1,e2⟩
    .rw[A];exact⟨by decide,by decide⟩
    .rw[A];exact⟨by decide,by decide⟩
    rw[jB A,e1]
    exact(CM H e2).2.1
   split
   .grind
   exact⟨f,by decide,by decide⟩
  .rw[jA aa,jA aa,jA aa,jB c]
   unfold oU
   rw[e]
   exact(B j _ D g).bE λp u F d=>(B k _ M d).bE λq u A d=>⟨d,qHj F A⟩
  .rw[jA aa,jA aa,jA aa,jA aa,jB c]
   unfold oU
   rw[e]
   refine(B j _ D g).bE λp u F d=> ?_
   grind
  .rw[jA aa,jA aa,jA aa,jA aa,jA aa,jB c]
   unfold oU
   rw[D]
   refine(ZG H (.inl rfl) e g).bE λu s d f=>(B j _ M f).bE λi s _ f=> ?_
   cases u with
   |inl b=>
    dsimp only
    split
    .have:=(b.data.toList.getD i.toNat 0).toNat_lt
     exact⟨f,by show eW _;unfold eW;omega⟩
    exact⟨f,by decide,by decide⟩
   |inr u=>
    dsimp only
    split
    .exact(S u _ s (d.2 u rfl) (λv r=>by cases r) f).bE λv u _ d=>⟨d,by show eW _;unfold eW;omega⟩
    exact⟨f,by decide,by decide⟩
  .rcases c with c|c|c
   .rw[jA aa,jA aa,jA aa,jA aa,jA aa,jA aa,jB c]
    refine(ZG H aa e g).bE λu s d f=>⟨f,?_⟩
    cases u with
    |inl b=>have:=d.1 b rfl;show eW (b.size:Int);unfold eW;omega
    |inr t=>show eW 1;unfold eW;decide
   .rw[jA aa,jA aa,jA aa,jA aa,jA aa,jA aa,jA aa,jB c]
    refine⟨(ZG H aa e g).1,?_⟩
    show eW _
    grind [eW]
   rw[jA aa,jA aa,jA aa,jA aa,jA aa,jA aa,jA aa,jA aa,jB c]
   rw[c] at e
   refine⟨g.see λk K=>by rw[kY.1 K];exact Kg.vr e,?_⟩
   dsimp only
   split
   .rename_i v r
    have r:(env.find? λv=>v.1.toList==x.2.2.2.1.toList).map (·.2)=some v:=r
    obtain⟨z,f,rfl⟩:=jK.1 r
    exact V z (fT f)
   exact⟨by decide,by decide⟩
  rw[jA aa,jA aa,jA aa,jA aa,jA aa,jA aa,jA aa,jA aa,jA aa]
  exact⟨g,qDf w _⟩
theorem qBa(H:Wc L)(e:∀v∈env,eW v.2)(a:(dO L 2 P T).2.2.2.2.2=1):Gq eW (wR L env w P T)/\Kg (2,P,T):=by
 obtain⟨f,j,d,h,l,n,g,-⟩:=Lu H.hc a
 obtain⟨s,c,t⟩:=yB g
 obtain⟨p,rfl⟩:=List.getElem?_eq_some_iff.1 n
 obtain⟨u,x,y,r⟩:=ZJ true (λ_=>H.wd f h (by grind [sJ])) (ZW l)
 have o:Kg (2,P,T):=Kg.nm (.inr rfl) (by grind) (by rw[<-c];exact(r _ (jI p)).2.2.2.2.2 aa)
 have b:=(CM H a).2.1
 refine⟨?_,o⟩
 unfold wR rN
 rw[jA ac]
 have:=b.1.2.1
 exact Py H e _ _ _ _ _ _ b (λv q=>by cases q) aa aa λk hk'=>by grind
def Kc(k:Ky):Prop:=eY k=true
theorem qIw{p:BA}(h:eU p.data.toList=true):p.size<=80:=by
 have:p.data.toList.length<=80:=(gO h).1
 simp_all
theorem Kc.kind{k:Ky}(h:Kc k):1<=k.1/\k.1<=7:=by
 grind [Kc,eY]
theorem Kc.size{k:Ky}(h:Kc k):k.2.1.size<=80:=by
 grind [Kc,eY,TJ,qIw]
theorem qIm{n:Int}{k:Ky}(h:Kc k):Kc (pO n k):=by
 grind [Kc,eY,pO]
theorem foldl_map{α β:Type}(V:α->β):∀(x:List α) (b:List β),x.foldl (λb k=>b++[V k]) b=b++x.map V
 |[],b=>by simp
 |k::x,b=>by rw[kI,foldl_map V x,kO,jW];rfl
variable {L':List bY}
theorem Jm{k:Ky}(a:100<N):LI N k=some (eY k):=by
 obtain⟨q,x,y⟩:=k
 grind [LI,eY,MR,FZ,Rg]
theorem Iv(c:100<N){n:Int}(f:1<=n)(g:n<=3){k:Ky}(a:Kc k):LO N k n=some (pO n k,0):=by
 have b:=a.kind
 have d:n=1\/n=2\/n=3:=by omega
 unfold LO
 rw[Jm c,show eY k=true from a]
 obtain⟨q,x,y⟩:=k
 try simp only at b
 have e:q=1\/q=2\/q=3\/q=4\/q=5\/q=6\/q=7:=by omega
 rcases e with rfl|rfl|rfl|rfl|rfl|rfl|rfl<;>rcases d with rfl|rfl|rfl<;>rfl
theorem Zh(h:3000000<N){n:Int}(c:1<=n)(d:n<=3){K:List Ky}(l:K.length<1000000)(g:∀k∈K,Kc k):SA N K n=some (nI (K.map (pO n)),0):=by
 have a:=mM (L:=K) (λ(b:List Ky) (i:Nat)=>(b,(i:Int))) (f:=KW N K n)
  (λb k=> .inl (b++[pO n k])) (λb=> .inl b) (λi b=>b.length<=i) (by
   intro b i hi e
   have ew:wI ((i:Int)+1)=((i+1:Nat):Int):=by grind [bA]
   simp only[KW]
   grind [cD,Iv,List.getElem_mem,eT]) (by
   grind) (by
   grind [KW]) (M:=N) (t:=[]) aa ad
 rw[show((0:Nat):Int)=0 from rfl,pG (λb k=>b++[pO n k]) (λ_ _=>rfl),foldl_map] at a
 grind [SA,ZF,List.length_map]
def lF(N:Nat)(L:List bY)(env:iG)(k:Ky):BA:=(oD N L (eO (dJ L)) env k).getD e0
theorem Bf(h:SmF L)(c:wY env)(b:3000000<N){k:Ky}(a:Kc k):oD N L (eO (dJ L)) env k=some (lF N L env k):=by
 obtain⟨v,d⟩:=qLe (N:=N) (env:=env) (k:=k) h c b (by have:=a.size;omega) a.kind.1 a.kind.2
 grind [lF]
theorem Ia(h:SmF L)(d:fP L=0)(o:wY env)(c:rV N env=some true)(n:3000000<N){x:List Ky}(g:∀k∈x,Kc k)(p:x.length<1000000):KO N L env x=some (x.map (lF N L env),0):=by
 unfold KO
 rw[wE aa,c,d]
 have a:=mM (L:=x) (λ(b:List BA) (i:Nat)=>(b,(i:Int))) (f:=JM N L env x (eO (dJ L)))
  (λb k=> .inl (b++[lF N L env k])) (λb=> .inl b) (λi b=>b.length<=i) (by
   intro b i hi l
   have ew:wI ((i:Int)+1)=((i+1:Nat):Int):=by grind [bA]
   have e:=g _ (jI hi)
   simp only[JM]
   rw[jB (by grind),cD hi]
   simp only[j0,ew]
   rw[Jm aa,show eY x[i]=true from e]
   grind [Bf,eT]) (by
   grind) (by
   grind [JM]) (M:=N) (t:=[]) aa ad
 rw[show((0:Nat):Int)=0 from rfl] at a
 rw[GF aa]
 simp only[j0,bne_self_eq_false,j7,jE,kK]
 rw[show((dJ L).map (·.1),(dJ L).map (·.2))=eO (dJ L) from rfl,a,pG (λb k=>b++[lF N L env k]) (λ_ _=>rfl),foldl_map]
 rfl
theorem Ii{t u:List BA}(e:u.length<1000000)(a:t.length=u.length):∀(d i M:Nat),i+d=u.length->d<M->
  ∃o:Unit⊕(Int×Int),aA (KL N t (u,0)) M (i:Int)=some o/\((o= .inl ()/\u.drop i=t.drop i)\/(∃j:Nat,o= .inr ((j:Int),0)/\u.drop i≠t.drop i))
 |_,_,0,_,h=>absurd h (jO _)
 |0,i,M+1,b,c=>by
  grind [aA,KL]
 |d+1,i,M+1,b,c=>by
  have hi:i<u.length:=by omega
  have hi':i<t.length:=by omega
  simp only[aA,KL]
  rw[jB (by grind),cD hi,j0,cD hi',j0,nY]
  by_cases he:u[i]=t[i]
  .rw[kE he,jA ac,bA aa aa,show((i:Int)+1)=((i+1:Nat):Int) by omega]
   obtain⟨o,f,g⟩:=Ii e a d (i+1) M aa aa
   grind [pF]
  grind [pF]
theorem qHx(h:SmF L')(f:fP L'=0)(g:wY env)(a:rV N env=some true)(e:3000000<N){x:List Ky}(p:∀k∈x,Kc k)(l:x.length<1000000){t:List BA}(n:t.length=x.length):
  ∃z:Int,RQ N L' env x t=some (z,0)/\(z= -1↔x.map (lF N L' env)=t):=by
 unfold RQ
 rw[Ia h f g a e p l,j0,jA ad]
 rw[show((x.length:Int) !=(t.length:Int))=false by simp[n],j0,jA ac]
 obtain⟨o,b,c⟩:=Ii (N:=N) (t:=t) (u:=x.map (lF N L' env)) (by grind) (by grind) (x.map (lF N L' env)).length 0 N aa (by grind)
 rw[show((0:Nat):Int)=0 from rfl,kP,kP] at*
 rw[b,j0]
 rcases c with ⟨rfl,d⟩|⟨j,rfl,d⟩
 .grind
 grind
def vE{α:Type}[DecidableEq α](b:α->α->Bool)(e:α):List α->List α
 |[]=>[e]
 |x::l=>if b x e then x::vE b e l else if x=e then x::l else e::x::l
theorem Mx{α:Type}[DecidableEq α]{b:α->α->Bool}{e z:α}:∀{l:List α},z∈vE b e l↔z=e\/z∈l
 |[]=>by simp[vE]
 |x::l=>by
  have a:=Mx (b:=b) (e:=e) (z:=z) (l:=l)
  simp only[vE]
  split
  .rw[jG,a,jG]
   constructor
   .rintro(h|h|h)
    .exact .inr (.inl h)
    .exact .inl h
    exact .inr (.inr h)
   rintro(h|h|h)
   .exact .inr (.inl h)
   .exact .inl h
   exact .inr (.inr h)
  split
  .rename_i h
   constructor
   .exact .inr
   rintro(g|g)
   .rw[g,<-h];exact jD ..
   exact g
  exact jG
theorem TO{α:Type}[DecidableEq α]{b:α->α->Bool}{e:α}:∀{l:List α},(vE b e l).length<=l.length+1
 |[]=>jH _
 |x::l=>by
  have a:=TO (b:=b) (e:=e) (l:=l)
  simp only[vE]
  split
  .simp only[jS];omega
  split
  .simp only[jS];omega
  simp only[jS];omega
def Cs(k:Int)(p n:BA)(e:eS):Prop:=e.2.1=n/\e.2.2.1=k/\(k=3\/e.1=p)
theorem Zd(O:List oI)(k:Int)(p n:BA):Cs k p n (oB O k p n):=by
 suffices h:∀(O:List oI) (e:eS),Cs k p n e->Cs k p n (O.foldl (lG k p n) e) from h O _ ⟨rfl,rfl,by
  unfold vO
  by_cases h:k=3
  .exact .inl h
  exact .inr (jA h)⟩
 intro O
 induction O with
 |nil=>intro e h;exact h
 |cons o O c=>
  intro e h
  rw[kI]
  refine c _ ?_
  unfold lG
  split
  .rename_i hk
   obtain⟨b,d,a⟩:=yB (show qR o.2.2.1 o.1 o.2.1=qR k p n from hk)
   split
   .exact⟨rfl,rfl,by rw[<-b];rcases a with a|a;exact .inl a;exact .inr a⟩
   exact h
  exact h
def uI{α:Type}(b:α->α->Bool)(e:α):List α->Nat
 |[]=>0
 |x::l=>if b x e then uI b e l+1 else 0
theorem Ox{α:Type}{b:α->α->Bool}{e:α}:∀(l:List α),uI b e l<=l.length
 |[]=>jH _
 |x::l=>by
  have:=Ox (b:=b) (e:=e) l
  grind [uI]
theorem Lt{α:Type}[DecidableEq α]{b:α->α->Bool}{e:α}:∀(l:List α),vE b e l=if l[uI b e l]? =some e then l else l.take (uI b e l)++e::l.drop (uI b e l)
 |[]=>by simp[vE,uI]
 |x::l=>by
  simp only[vE,uI]
  by_cases h:b x e=true
  .simp only[h,jJ,List.getElem?_cons_succ,List.take_succ_cons,List.drop_succ_cons]
   rw[Lt l]
   split<;>rfl
  grind
theorem Je{α:Type}{b:α->α->Bool}{e:α}{L:List α}{f:Int->Option (Int⊕Int)}(k:L.length<1000000)
  (a:∀i,∀hi:i<L.length,f (i:Int)=some (if b L[i] e then .inl ((i+1:Nat):Int) else .inr (i:Int))) (c:f (L.length:Int)=some (.inr (L.length:Int))):∀(d i M:Nat),i+d=L.length->d<M->aA f M (i:Int)=some ((i+uI b e (L.drop i):Nat):Int)
 |_,_,0,_,h=>absurd h (jO _)
 |0,i,M+1,g,_=>by
  grind [aA,uI]
 |d+1,i,M+1,g,l=>by
  have hi:i<L.length:=by omega
  simp only[aA,a i hi,j0]
  rw[pF hi]
  simp only[uI]
  by_cases hb:b L[i] e=true
  .rw[jB hb,jB hb]
   simp only
   rw[Je k a c d (i+1) M aa aa]
   congr 2;omega
  grind
theorem qGs{α:Type}{by_:Nat}{L:List α}{x z:α}{k:Nat}(p:k<=L.length)(n:0<by_)(c:by_<=100)(q:L.length<1000000):
  ((dS by_ L [z]).bind λa=>(lR a (wI ((k:Int)+1)) (List.length a:Int)).bind λ_=>(lR a (k:Int) (List.length a:Int)).bind λ_=>(tE a (wI ((k:Int)+1)) (k:Int)).bind λf=>(aO f (k:Int)).bind λ_=>some (List.set f (Int.toNat (k:Int)) x))=some (L.take k++x::L.drop k):=by
 have w:wI ((k:Int)+1)=((k+1:Nat):Int):=by grind [bA]
 have r:(L.length+1)*by_<=(L.length+1)*100:=Nat.mul_le_mul_left _ c
 rw[w,eT (by grind) n]
 simp only[j0]
 have b:(L++[z]).length=L.length+1:=by simp
 have g:lR (L++[z]) ((k+1:Nat):Int) ((L++[z]).length:Int)=some ():=by grind [lR]
 have h:lR (L++[z]) (k:Int) ((L++[z]).length:Int)=some ():=by grind [lR]
 have l:tE (L++[z]) ((k+1:Nat):Int) (k:Int)=some (qM (L++[z]) (k+1) k):=by grind [tE]
 simp only[g,h,l,j0]
 have e:qM (L++[z]) (k+1) k=(L++[z]).take (k+1)++L.drop k:=by
  grind [List.take_of_length_le,List.drop_of_length_le,qM]
 have d:k<(qM (L++[z]) (k+1) k).length:=by grind
 rw[cD d]
 simp only[j0,jT]
 congr 1
 rw[e]
 have o:(L++[z]).take (k+1)=L.take k++[((L++[z])[k]'(by rw[b];omega))]:=by
  grind [List.take_succ_eq_append_getElem]
 simp_all
def IX(x y:eS):Bool:=(LD 0 x y).getD false
theorem qDa{N:Nat}(x y:eS):LD N x y=some (IX x y):=by
 grind [LD,IX]
theorem qLh(x y:eS):((x.1.toList==y.1.toList)&&((x.2.1.toList==y.2.1.toList)&&((x.2.2.1==y.2.2.1)&&((x.2.2.2.1.toList==y.2.2.2.1.toList)&&((x.2.2.2.2.1==y.2.2.2.2.1)&&((x.2.2.2.2.2==y.2.2.2.2.2)&&true))))))=decide (x=y):=by
 grind [sO]
theorem qGr{N:Nat}{a:List eS×Int}{y:eS}(d:a.1.length<1000000)(c:a.1.length<N):aA (BT N a y) N 0=some ((uI IX y a.1:Nat):Int):=by
 have g:=Je (b:=IX) (e:=y) (L:=a.1) (f:=BT N a y) d (by
  grind [BT,cD,bA,qDa]) (by
  grind [BT]) a.1.length 0 N aa c
 grind
theorem qCt{N:Nat}{out:List eS}{i:Int}{y:eS}(g:out.length<1000000)(f:out.length<N):
  ((aA (BT N (out,i) y) N 0).bind λa=>(if(decide (a<((List.length out):Int)))then((aO out a).bind λb=>some ((b.1.toList==y.1.toList)&&((b.2.1.toList==y.2.1.toList)&&((b.2.2.1==y.2.2.1)&&((b.2.2.2.1.toList==y.2.2.2.1.toList)&&((b.2.2.2.2.1==y.2.2.2.2.1)&&((b.2.2.2.2.2==y.2.2.2.2.2)&&true))))))) else(some false):Option (Bool)).bind λe=>if e then(some out) else((dS 72 out ([y])).bind λc=>(lR c (wI (a+1)) (List.length c:Int)).bind λ_=>(lR c a (List.length c:Int)).bind λ_=>(tE c (wI (a+1)) a).bind λd=>(aO d a).bind λ_=>some (List.set d (Int.toNat a) y)):Option (List eS))=some (vE IX y out):=by
 grind [qGr,Lt,Ox,qLh,cD,qGs]
def rT(O:List oI)(pkg:BA)(out:List eS)(d:Dl):List eS:=vE IX (oB O d.1 pkg d.2.1) out
theorem Nx{N:Nat}{l:List (BA×Sr)}{x:Sr}{acc:List eS}(e:l.length<=64)(c:∀x∈l,x.2.2.2.length<=64)(o:x.2.2.length<=64)(n:1000000<N)(b:acc.length<=100000):
  aA (EN N (l.map (·.1),l.map (·.2)) x) N (acc,0)=some (x.2.2.foldl (rT (nB l) x.1) acc)/\(x.2.2.foldl (rT (nB l) x.1) acc).length<=acc.length+64:=by
 have g:∀(ds:List Dl) (t:List eS),(ds.foldl (rT (nB l) x.1) t).length<=t.length+ds.length:=by
  intro ds
  induction ds with
  |nil=>grind
  |cons d ds a=>
   grind [rT,TO]
 refine⟨?_,by grind⟩
 have h:=mM (L:=x.2.2) (λ(t:List eS) (i:Nat)=>(t,(i:Int))) (f:=EN N (l.map (·.1),l.map (·.2)) x)
  (λt d=> .inl (rT (nB l) x.1 t d)) (λt=>t) (λi t=>t.length<=acc.length+i) (by
   intro t i hi k
   simp only[EN]
   rw[jB (by grind),cD hi]
   have ew:wI ((i:Int)+1)=((i+1:Nat):Int):=by grind [bA]
   have a:=MZ (N:=N) (l:=l) (x.2.2[i]).1 x.1 (x.2.2[i]).2.1 e c aa
   simp only[j0,ew]
   refine Eq.trans (kA (λz=>Option.bind (Option.bind z _) _) a) ?_
   simp only[j0]
   refine Eq.trans (kA (λz=>Option.bind z _) (qCt (i:=(i:Int)) (y:=oB (nB l) (x.2.2[i]).1 x.1 (x.2.2[i]).2.1) (show t.length<1000000 by omega) (show t.length<N by omega))) ?_
   rfl) (by
   grind [rT,TO]) (by
   grind [EN]) (M:=N) (t:=acc) aa (jH _)
 rw[show((0:Nat):Int)=0 from rfl] at h
 rw[h,pG (rT (nB l) x.1) (λ_ _=>rfl)]
def AllE(O:List oI)(l:List eS):Prop:=∀e∈l,∃k p n,e=oB O k p n
theorem AllE.ins{O:List oI}{pkg:BA}:∀(ds:List Dl) (l:List eS),AllE O l->AllE O (ds.foldl (rT O pkg) l)
 |[],_,h=>h
 |d::ds,l,h=>AllE.ins ds _ λe a=>by
  rcases Mx.1 a with rfl|a
  .grind
  exact h e a
theorem Xn{N:Nat}{L:List bY}(c:fP L=0)(r:1000005<N):∃E,QS N L=some E/\E.length<=64*L.length/\AllE (nB (mF L)) E:=by
 simp only[QS,wE (show 100<N by omega),j0]
 rw[jA (by simp[c]),GF r]
 obtain⟨b,a⟩:=GV L
 rw[show dJ L=mF L by unfold dJ;rw[jB c]] at b a ⊢
 have A:=YN L
 generalize mF L=l at b a A
 simp only[j0]
 have h:=mM (L:=l) (λ(t:List eS) (i:Nat)=>(t,(i:Int))) (f:=JN N (l.map (·.1),l.map (·.2)))
  (λt x=> .inl (x.2.2.2.foldl (rT (nB l) x.2.1) t)) (λt=>t) (λi t=>t.length<=64*i) (by
   grind [JN,cD,bA,Nx]) (by
   intro t i hi t' n h
   cases h
   have:=(Nx (N:=N) (x:=(l[i]).2) (acc:=t) b a (a _ (jI hi)) aa aa).2
   omega) (by
   grind [JN]) (M:=N) (t:=[]) aa (jQ _)
 rw[show((0:Nat):Int)=0 from rfl] at h
 rw[pG (λt (x:BA×Sr)=>x.2.2.2.foldl (rT (nB l) x.2.1) t) (λ_ _=>rfl)] at h
 refine⟨_,kA (λz=>Option.bind z _) h,?_⟩
 suffices g:∀(k:List (BA×Sr)) (t:List eS),(∀x∈k,x.2.2.2.length<=64)->AllE (nB l) t->(k.foldl (λt (x:BA×Sr)=>x.2.2.2.foldl (rT (nB l) x.2.1) t) t).length<=t.length+64*k.length/\AllE (nB l) (k.foldl (λt (x:BA×Sr)=>x.2.2.2.foldl (rT (nB l) x.2.1) t) t) by
  obtain⟨p,q⟩:=g l [] a (λe n=>by cases n)
  grind
 intro k
 induction k with
 |nil=>grind
 |cons x k o=>
  intro t n u
  have B:=n x (jD ..)
  obtain⟨p,q⟩:=o (x.2.2.2.foldl (rT (nB l) x.2.1) t) (λy v=>n y (jC _ v)) (AllE.ins _ _ u)
  have s:∀(ds:List Dl) (t:List eS),(ds.foldl (rT (nB l) x.2.1) t).length<=t.length+ds.length:=by
   intro ds
   induction ds with
   |nil=>grind
   |cons d ds o=>
    grind [rT,TO]
  grind
theorem Gt{α β:Type}(p:α->Bool)(g:α->β):∀(L:List α) (acc:List β),L.foldl (λt x=>if p x then t++[g x] else t) acc=acc++(L.filter p).map g
 |[],acc=>by simp
 |x::L,acc=>by
  rw[kI,Gt p g L,List.filter_cons]
  grind
def CZ(x:eS):Bool:=x.2.2.1==2&&x.2.2.2.2.2==1
abbrev Nm:=BA×BA
theorem qBm{N:Nat}{E:List eS}{f:List Nm×Int->Option ((List Nm×Int)⊕List Nm)}(d:E.length<1000000)(e:1000000<N)
  (g:∀s1:List Nm×Int,f s1=if(decide (s1.2<(List.length E:Int)))then(((aO E s1.2).bind λa=>(if(a.2.2.1==2)then(some (a.2.2.2.2.2==1)) else(some false):Option (Bool)).bind λc=>if c then((dS 32 s1.1 ([(a.1,a.2.1)])).bind λb=>some b) else(some s1.1):Option ((List (BA×BA)))).bind λo2=>some (.inl (o2,wI (s1.2+1)))) else(some (.inr s1.1))):
  aA f N ([],0)=some ((E.filter CZ).map λx=>(x.1,x.2.1)):=by
 have h:=mM (L:=E) (λ(t:List Nm) (i:Nat)=>(t,(i:Int))) (f:=f)
  (λt x=> .inl (if CZ x then t++[(x.1,x.2.1)] else t)) (λt=>t) (λi t=>t.length<=i) (by
   grind [cD,bA,CZ,eT]) (by
   grind) (by
   grind) (M:=N) (t:=[]) aa (jQ _)
 rw[show((0:Nat):Int)=0 from rfl] at h
 rw[h,pG (λt (x:eS)=>if CZ x then t++[(x.1,x.2.1)] else t) (λ_ _=>rfl),Gt CZ (λx=>(x.1,x.2.1))]
 simp
theorem Yv{N:Nat}{L:List bY}(b:fP L=0)(d:1000005<N):∃T:List Nm,RV N L=some T/\T.length<=64*L.length/\∀x∈T,(dO L 2 x.1 x.2).2.2.2.2.2=1:=by
 obtain⟨E,o,q,c⟩:=Xn b d
 have r:=(wH.1 b).1
 refine⟨(E.filter CZ).map λx=>(x.1,x.2.1),?_,?_,?_⟩
 .grind [RV,qBm,WJ]
 .grind
 intro x f
 obtain⟨e,a,rfl⟩:=gF.1 f
 obtain⟨a,s⟩:=gL.1 a
 obtain⟨k,p,n,rfl⟩:=c e a
 obtain⟨g,h,l⟩:=Zd (nB (mF L)) k p n
 grind [CZ,dO]
end
section
open Go Go.Dc Go.Sort Go.Proofs
abbrev lX:=Ky×List Int
abbrev mI:=List lX×Int
abbrev mA:=(BA×BA)×Int×Int×Int×(Int×Int×Int)×Bool×(List (Ky×Int))
def uD{α:Type}(L:List α):Nat->Option α
 |0=>none
 |j+1=>L[j]?
def xF(n:Int):Option Int->List Int->Bool
 |_,[]=>true
 |o,r::R=>(decide (0<=r/\r<n)&&o.all λq=>decide (q<r))&&xF n (some r) R
def yL(n:Int):Option lX->List lX->Bool
 |_,[]=>true
 |o,p::L=>(eY p.1&&((o.all λq=>decide (cK q.1 p.1<0))&& !p.2.isEmpty))&&(xF n none p.2&&yL n (some p) L)
def wQ(x:mI):Bool:=decide (0<=x.2/\x.2<=512)&&yL x.2 none x.1
def AR(x:mI):Prop:=x.1.length<=1048576/\∀p∈x.1,p.1.2.1.size<=1048576/\p.2.length<=1048576
theorem XB{N:Nat}(a:3000000<N){k:Ky}(h:k.2.1.size<=1048576):AC N (k.1,k.2.1,k.2.2)=some (eY k):=Ya (k:=k) aa aa
theorem XU{N:Nat}(a:3000000<N)(x y:Ky):xX N (x.1,x.2.1,x.2.2) (y.1,y.2.1,y.2.2)=some (cK x y):=Fh aa x y
theorem Nb{N:Nat}{x:mI}{p:lX}(f:p.2.length<2000000):∀(d i M:Nat),i+d=p.2.length->d<M->
  aA (LW N x p) M (i:Int)=some (if xF x.2 (uD p.2 i) (p.2.drop i)then .inl () else .inr false)
 |_,_,0,_,h=>absurd h (jO _)
 |d,i,M+1,n,o=>by
  simp only[aA,LW]
  cases d with
  |zero=>
   grind [xF]
  |succ d=>
   have hi:i<p.2.length:=by omega
   have e:((i:Int)<(p.2.length:Int)):=by omega
   have k:wI ((i:Int)+1)=((i+1:Nat):Int):=by grind [bA]
   have a:p.2.drop i=p.2[i]::p.2.drop (i+1):=(jY hi).symm
   have c:uD p.2 (i+1)=some p.2[i]:=List.getElem?_eq_getElem hi
   have g:(if(decide (p.2[i]<0))then(some true) else(if(decide (p.2[i]>=x.2))then(some true) else(if(decide ((i:Int)>0))then((aO p.2 (wI ((i:Int)-1))).bind λl=>some (decide (p.2[i]<=l))) else(some false))):Option Bool)=some (!(decide (0<=p.2[i]/\p.2[i]<x.2)&&(uD p.2 i).all λq=>decide (q<p.2[i]))):=by
    by_cases g1:p.2[i]<0
    .grind
    by_cases g2:p.2[i]>=x.2
    .grind
    have:(0<=p.2[i]/\p.2[i]<x.2):=by omega
    simp only[g1,g2,this,and_self,decide_true,decide_false,j7,jE,gY]
    cases i with
    |zero=>simp[uD]
    |succ j=>
     grind [bA,uD,cD]
   simp only[e,decide_true,jJ,cD hi,j0]
   rw[g,a]
   simp only[j0,xF]
   rcases fX (decide (0<=p.2[i]/\p.2[i]<x.2)&&(uD p.2 i).all λq=>decide (q<p.2[i])) with b|b
   .simp only[b,kK,j7,jE,j0,k,gY]
    rw[Nb f d (i+1) M aa aa,c]
   grind
theorem Jl{N:Nat}(g:3000000<N){x:mI}(e:AR x):∀(d i M:Nat),i+d=x.1.length->d<M->
  aA (LY N x) M (i:Int)=some (if yL x.2 (uD x.1 i) (x.1.drop i)then .inl () else .inr false)
 |_,_,0,_,h=>absurd h (jO _)
 |d,i,M+1,y,z=>by
  have A:=e.1
  simp only[aA,LY]
  cases d with
  |zero=>
   grind [yL]
  |succ d=>
   have hi:i<x.1.length:=by omega
   have o:((i:Int)<(x.1.length:Int)):=by omega
   have u:wI ((i:Int)+1)=((i+1:Nat):Int):=by grind [bA]
   have b:x.1.drop i=x.1[i]::x.1.drop (i+1):=(jY hi).symm
   have n:uD x.1 (i+1)=some x.1[i]:=List.getElem?_eq_getElem hi
   have t:=e.2 x.1[i] (jI hi)
   have p:((List.length x.1[i].2:Int)==0)=x.1[i].2.isEmpty:=by
    cases x.1[i].2 with
    |nil=>rfl
    |cons a l=>grind
   have r:((AC N (x.1[i].1.1,x.1[i].1.2.1,x.1[i].1.2.2)).bind λy1=>if(!y1)then(some true) else(if(decide ((i:Int)>0))then((aO x.1 (wI ((i:Int)-1))).bind λf=>(xX N (f.1.1,f.1.2.1,f.1.2.2) (x.1[i].1.1,x.1[i].1.2.1,x.1[i].1.2.2)).bind λv=>if(decide (v>=0))then(some true) else(some ((List.length x.1[i].2:Int)==0))) else(some ((List.length x.1[i].2:Int)==0))):Option Bool)
     =some (!(eY x.1[i].1&&(((uD x.1 i).all λq=>decide (cK q.1 x.1[i].1<0))&& !x.1[i].2.isEmpty))):=by
    rw[XB g t.1]
    simp only[j0,p]
    cases eY x.1[i].1 with
    |false=>rfl
    |true=>
     simp only[kK,j7,jE,gY]
     cases i with
     |zero=>simp[uD]
     |succ j=>
      grind [bA,uD,cD,XU]
   have s:aA (LW N x x.1[i]) N 0=some (if xF x.2 none x.1[i].2 then .inl () else .inr false):=Nb aa x.1[i].2.length 0 N aa aa
   simp only[o,decide_true,jJ,cD hi,j0]
   rw[r,b,s]
   simp only[j0,yL]
   rcases fX (eY x.1[i].1&&(((uD x.1 i).all λq=>decide (cK q.1 x.1[i].1<0))&& !x.1[i].2.isEmpty)) with k|k
   .rcases fX (xF x.2 none x.1[i].2) with c|c
    .simp only[k,c,kK,j7,jE,jJ,j0,u,gY]
     rw[Jl g e d (i+1) M aa aa,n]
    grind
   grind
theorem Mu{N:Nat}(b:3000000<N){x:mI}(a:AR x):xY N x=some (wQ x):=by
 have c:aA (LY N x) N 0=some (if yL x.2 none x.1 then .inl () else .inr false):=Jl b a x.1.length 0 N aa (by have:=a.1;omega)
 grind [xY,wQ]
def RecOK(n:Int)(R:List Int):Prop:=(∀r∈R,0<=r/\r<n)/\R.Pairwise (· < ·)
theorem Ls{n:Int}:∀{R:List Int} {o:Option Int},xF n o R=true↔RecOK n R/\∀q,o=some q->∀r∈R,q<r
 |[],o=>by simp[xF,RecOK]
 |r::R,o=>by
  have d:=Ls (n:=n) (R:=R) (o:=some r)
  simp only[xF,jU,jR,d,RecOK,jG,jF]
  constructor
  .grind
  rintro⟨⟨a,e,c⟩,f⟩
  refine⟨⟨a r (.inl rfl),?_⟩,⟨λq b=>a q (.inr b),c⟩,λq b z g=> ?_⟩
  .cases o with
   |none=>rfl
   |some q=>simp_all
  grind
def NX(n:Int)(p:lX):Prop:=eY p.1=true/\p.2≠[]/\RecOK n p.2
abbrev DS(L:List lX):Prop:=L.Pairwise λp q=>cK p.1 q.1<0
theorem Jo{n:Int}:∀{L:List lX} {o:Option lX},yL n o L=true↔(∀p∈L,NX n p)/\DS L/\∀q,o=some q->∀p∈L,cK q.1 p.1<0
 |[],o=>by simp[yL]
 |p::L,o=>by
  have t:=Jo (n:=n) (L:=L) (o:=some p)
  have s:=Ls (n:=n) (R:=p.2) (o:=none)
  simp only[yL,jU,fO,List.isEmpty_eq_false_iff,t,s,jG,jF]
  constructor
  .rintro⟨⟨c,b,e⟩,⟨f,_⟩,u,r,g⟩
   refine⟨λq a=> ?_,⟨λq a=>g p rfl q a,r⟩,λq a z d=> ?_⟩
   .rcases a with rfl|a
    .exact⟨c,e,f⟩
    grind
   subst a
   have b:cK q.1 p.1<0:=by simpa using b
   rcases d with rfl|d
   .exact b
   exact cK_lin.trans _ _ _ b (g p rfl z d)
  rintro⟨c,⟨b,e⟩,f⟩
  obtain⟨h,k,l⟩:=c p (.inl rfl)
  refine⟨⟨h,?_,k⟩,⟨l,λq a=>by cases a⟩,λq a=>c q (.inr a),e,λq a z d=> ?_⟩
  .cases o with
   |none=>rfl
   |some q=>grind
  grind
def yO(x:mI):Prop:=(0<=x.2/\x.2<=512)/\(∀p∈x.1,NX x.2 p)/\DS x.1
theorem SZ{x:mI}:wQ x=true↔yO x:=by
 grind [wQ,Jo,yO]
def lJ:Nat->List lX->List Ky->Int->List lX
 |0,_,_,_=>[]
 |_+1,[],[],_=>[]
 |d+1,[],k::K,n=>(k,[n])::lJ d [] K n
 |d+1,p::L,[],n=>p::lJ d L [] n
 |d+1,p::L,k::K,n=>if cK p.1 k<0 then p::lJ d L (k::K) n else if p.1=k then(k,p.2++[n])::lJ d L K n else(k,[n])::lJ d (p::L) K n
theorem Ac{N:Nat}{R:List Int}(h:R.length<=2000000):KZ N R=some R:=by
 unfold KZ
 cases R with
 |nil=>rfl
 |cons r R=>
  grind [IE,eT]
theorem TZ{α:Type}(a:α)(l:List α):((List.length (a::l):Int)>0)/\((List.length (a::l):Int)==0)=false:=by
 grind
theorem ZU{α:Type}(a:α)(l:List α):qP (a::l) 1 (List.length (a::l):Int)=some l:=by
 rw[CL aa (by grind) (gB _)]
 simp
theorem Cd{α:Type}(a:α)(l:List α):aO (a::l) 0=some a:=rfl
variable {N:Nat} {x:mI} {L:List lX} {K:List Ky} {out:List lX} {p:lX} {k:Ky}
theorem n1{α:Type}:decide ((List.length ([]:List α):Int)>0)=false:=rfl
theorem n2{α:Type}:((List.length ([]:List α):Int)==0)=true:=rfl
theorem Ny:uT N x ([],[],out)=some (.inr (.inl ([],[],out))):=rfl
theorem qGf(a:out.length<=10000000):uT N x (k::K,[],out)=some (.inl (K,[],out++[(k,[x.2])])):=by
 have h:=TZ k K
 simp only[uT,n1,n2,h.1,decide_true,j7,jE,jJ,Cd,ZU,j0]
 grind [eT]
theorem qHy(b:out.length<=10000000)(a:p.2.length<=2000000):uT N x ([],p::L,out)=some (.inl ([],L,out++[p])):=by
 have h:=TZ p L
 simp only[uT,n1,n2,h.1,h.2,decide_true,j7,jE,jJ,Cd,ZU,j0,Ac a]
 grind [eT]
theorem qGg(a:3000000<N)(d:out.length<=10000000)(c:p.2.length<=2000000):uT N x (k::K,p::L,out)=
  some (.inl (if cK p.1 k<0 then(k::K,L,out++[p]) else if p.1=k then(K,L,out++[(k,p.2++[x.2])]) else(K,p::L,out++[(k,[x.2])]))):=by
 have h:=TZ p L
 have h':=TZ k K
 have e:=cK_lin.zero p.1 k
 have b:=XU (N:=N) a p.1 k
 simp only[uT,h.1,h.2,h'.2,decide_true,jJ,j7,jE,Cd,ZU,j0,Ac c,b]
 grind [eT]
theorem GG{N:Nat}(b:3000000<N){x:mI}:∀(d M:Nat) (L:List lX) (K:List Ky) (out:List lX),L.length+K.length<=d->d<M->out.length+d<=10000000->(∀p∈L,p.2.length<=2000000)->
  aA (uT N x) M (K,L,out)=some (.inl ([],[],out++lJ d L K x.2))
 |d,0,_,_,_,_,h,_,_=>absurd h (jO _)
 |0,M+1,L,K,out,c,_,_,_=>by
  have l:L=[]:=kF aa
  have n:K=[]:=kF aa
  grind [aA,Ny,lJ]
 |d+1,M+1,[],[],out,_,_,_,_=>by grind [aA,Ny,lJ]
 |d+1,M+1,[],k::K,out,c,f,g,a=>by
  simp only[aA]
  rw[qGf aa]
  simp only[j0,lJ]
  rw[GG b d M [] K _ (by grind) aa (by simp only[jP,jS,kH];omega) a,jW];rfl
 |d+1,M+1,p::L,[],out,c,f,g,a=>by
  simp only[aA]
  rw[qHy aa (a p (jD ..))]
  simp only[j0,lJ]
  rw[GG b d M L [] _ (by grind) aa (by grind) (λq e=>a q (jC _ e)),jW];rfl
 |d+1,M+1,p::L,k::K,out,c,f,g,a=>by
  have h4':∀q∈L,q.2.length<=2000000:=λq e=>a q (jC _ e)
  simp only[aA]
  rw[qGg b aa (a p (jD ..))]
  simp only[j0,lJ]
  by_cases g1:cK p.1 k<0
  .simp only[g1,jJ]
   rw[GG b d M L (k::K) _ (by grind) aa (by simp only[jP,jS,kH];omega) h4',jW];rfl
  by_cases g2:p.1=k
  .simp only[g1,g2,jJ,jE]
   rw[jA (by grind)]
   rw[GG b d M L K _ (by simp only[jS] at*;omega) aa (by grind) h4',jW]
   grind
  simp only[g1,g2,jE]
  rw[GG b d M (p::L) K _ (by grind) aa (by grind) a,jW];rfl
def mO(c:mA):List Ky:=c.2.2.2.2.2.2.map (·.1)
def qG(x:mI)(c:mA):mI:=(lJ (x.1.length+(nI (mO c)).length) x.1 (nI (mO c)) x.2,x.2+1)
theorem Ga{N:Nat}{c:mA}(e:c.2.2.2.2.2.2.length<=2000000):∀(d i M:Nat) (S:List Ky),i+d=c.2.2.2.2.2.2.length->d<M->S.length<=i->
  aA (LX N c) M (S,(i:Int))=some (S++(c.2.2.2.2.2.2.drop i).map (·.1))
 |_,_,0,_,_,h,_=>absurd h (jO _)
 |d,i,M+1,S,g,k,l=>by
  simp only[aA,LX]
  cases d with
  |zero=>
   grind
  |succ d=>
   have hi:i<c.2.2.2.2.2.2.length:=by omega
   have b:((i:Int)<(c.2.2.2.2.2.2.length:Int)):=by omega
   have f:wI ((i:Int)+1)=((i+1:Nat):Int):=by grind [bA]
   have a:c.2.2.2.2.2.2.drop i=c.2.2.2.2.2.2[i]::c.2.2.2.2.2.2.drop (i+1):=(jY hi).symm
   simp only[b,decide_true,jJ,cD hi,j0]
   rw[eT (by grind) ac]
   simp only[j0,f]
   rw[Ga e d (i+1) M _ aa aa (by grind),a,jW,kO];rfl
theorem qAk{N:Nat}(d:3000000<N){c:mA}(b:c.2.2.2.2.2.2.length<=2000000):MO N c=some (mO c):=by
 have a:aA (LX N c) N (([]:List Ky),0)=_:=Ga b c.2.2.2.2.2.2.length 0 N [] aa aa (jH _)
 simp only[MO,a,j0,kT,kP]
 rfl
theorem qFg{N:Nat}(a:3000000<N){x:mI}{c:mA}(g:c.2.2.2.2.2.2.length<=1100000)(l:x.1.length<=1500000)(e:∀p∈x.1,p.2.length<=2000000)(k:0<=x.2/\x.2<=512):FX N x c=some (qG x c):=by
 have h:(mO c).length=c.2.2.2.2.2.2.length:=gS ..
 have b:NB N (mO c)=some (nI (mO c)):=Yw aa aa
 have f:=MX (mO c)
 have d:aA (uT N x) N (nI (mO c),x.1,([]:List lX))=_:=GG a (x.1.length+(nI (mO c)).length) N x.1 (nI (mO c)) [] (jH _) aa (by grind) e
 have w:wI (x.2+1)=x.2+1:=bA aa aa
 simp only[FX]
 rw[show MO N ((c.1.1,c.1.2),c.2.1,c.2.2.1,c.2.2.2.1,(c.2.2.2.2.1.1,c.2.2.2.2.1.2.1,c.2.2.2.2.1.2.2),c.2.2.2.2.2.1,c.2.2.2.2.2.2)=some (mO c) from qAk (c:=c) a aa]
 simp only[j0,b,d,w,kT]
 rfl
theorem RecOK.up{n:Int}{R:List Int}(h:RecOK n R):RecOK (n+1) R:=⟨λr a=>by have:=h.1 r a;omega,h.2⟩
theorem RecOK.snoc{n:Int}{R:List Int}(f:0<=n)(h:RecOK n R):RecOK (n+1) (R++[n]):=by
 refine⟨λr c=> ?_,List.pairwise_append.2 ⟨h.2,fC _ _,λa d b e=> ?_⟩⟩
 .rcases kJ.1 c with c|c
  .have:=h.1 r c;omega
  grind
 simp only[jG,gC,hY] at e
 have:=h.1 a d;omega
theorem RecOK.one{n:Int}(a:0<=n):RecOK (n+1) [n]:=⟨λr b=>by grind,fC _ _⟩
theorem AB{n:Int}{P Q:lX->Prop}{R:Ky->Prop}(g:∀p,P p->Q p)(h:∀p,P p->R p.1->Q (p.1,p.2++[n]))(l:∀k,R k->Q (k,[n])):∀(d:Nat) (L:List lX) (K:List Ky),(∀p∈L,P p)->(∀k∈K,R k)->∀q∈lJ d L K n,Q q
 |0,_,_,_,_,q,c=>by grind [lJ]
 |_+1,[],[],_,_,q,c=>by grind [lJ]
 |d+1,[],k::K,a,b,q,c=>by
  simp only[lJ,jG] at c
  rcases c with rfl|c
  .grind
  exact AB g h l d [] K a (λz f=>b z (jC _ f)) q c
 |d+1,p::L,[],a,b,q,c=>by
  simp only[lJ,jG] at c
  rcases c with rfl|c
  .grind
  exact AB g h l d L [] (λz f=>a z (jC _ f)) b q c
 |d+1,p::L,k::K,a,b,q,c=>by
  have a':∀z∈L,P z:=λz f=>a z (jC _ f)
  have b':∀z∈K,R z:=λz f=>b z (jC _ f)
  simp only[lJ] at c
  split at c
  .rcases jG.1 c with rfl|c
   .grind
   exact AB g h l d L (k::K) a' b q c
  split at c
  .rename_i e
   subst e
   rcases jG.1 c with rfl|c
   .grind
   exact AB g h l d L K a' b' q c
  rcases jG.1 c with rfl|c
  .grind
  exact AB g h l d (p::L) K a b' q c
theorem MK{n:Int}{b:Ky}{d:Nat}{L:List lX}{K:List Ky}(c:∀p∈L,cK b p.1<0)(a:∀k∈K,cK b k<0):∀q∈lJ d L K n,cK b q.1<0:=
 AB (P:=λp=>cK b p.1<0) (Q:=λp=>cK b p.1<0) (R:=λk=>cK b k<0) (λ_ h=>h) (λ_ h _=>h) (λ_ h=>h) d L K c a
theorem GA{n:Int}:∀(d:Nat) (L:List lX) (K:List Ky),DS L->rO cK K->DS (lJ d L K n)
 |0,_,_,_,_=>List.Pairwise.nil
 |_+1,[],[],_,_=>List.Pairwise.nil
 |d+1,[],k::K,a,b=>by
  have b':=jF.1 b
  simp only[lJ]
  exact jF.2 ⟨MK ad b'.1,GA d [] K a b'.2⟩
 |d+1,p::L,[],a,b=>by
  have a':=jF.1 a
  simp only[lJ]
  exact jF.2 ⟨MK a'.1 ad,GA d L [] a'.2 b⟩
 |d+1,p::L,k::K,a,b=>by
  have a':=jF.1 a
  have b':=jF.1 b
  simp only[lJ]
  split
  .rename_i h
   refine jF.2 ⟨MK a'.1 (λz c=> ?_),GA d L (k::K) a'.2 b⟩
   rcases jG.1 c with rfl|c
   .exact h
   exact cK_lin.trans _ _ _ h (b'.1 z c)
  rename_i h
  split
  .rename_i e
   subst e
   exact jF.2 ⟨MK a'.1 b'.1,GA d L K a'.2 b'.2⟩
  rename_i g
  have f:cK k p.1<0:=by
   have l:=cK_lin.zero p.1 k;have o:=cK_lin.anti k p.1
   grind
  refine jF.2 ⟨MK (λz c=> ?_) b'.1,GA d (p::L) K a b'.2⟩
  rcases jG.1 c with rfl|c
  .exact f
  exact cK_lin.trans _ _ _ f (a'.1 z c)
theorem GD{n:Int}:∀(d:Nat) (L:List lX) (K:List Ky),(lJ d L K n).length<=d
 |0,_,_=>jH _
 |_+1,[],[]=>jQ _
 |d+1,[],k::K=>by have:=GD (n:=n) d [] K;grind [lJ]
 |d+1,p::L,[]=>by have:=GD (n:=n) d L [];grind [lJ]
 |d+1,p::L,k::K=>by
  have a:=GD (n:=n) d L (k::K);have b:=GD (n:=n) d L K;have c:=GD (n:=n) d (p::L) K
  grind [lJ]
theorem Ie{x:mI}{c:mA}(n:yO x)(o:x.2<512)(h:∀k∈mO c,eY k=true):yO (qG x c):=by
 obtain⟨e,f,g⟩:=n
 have l:(qG x c).2=x.2+1:=rfl
 refine⟨by omega,?_,GA _ _ _ g (MJ _)⟩
 rw[l]
 refine AB (P:=NX x.2) (Q:=NX (x.2+1)) (R:=λk=>eY k=true) ?_ ?_ ?_ _ _ _ f (λk d=>h k (xZ.1 d))
 .rintro p ⟨a,b,r⟩;exact⟨a,b,r.up⟩
 .rintro p ⟨a,b,r⟩ _;exact⟨a,by simp,r.snoc e.1⟩
 intro k d;exact⟨d,by simp,RecOK.one e.1⟩
def SmallR(c:mA):Prop:=c.2.2.2.2.2.2.length<=1000/\∀k∈mO c,k.2.1.size<=1048576
def Cz(c:mA):Prop:=c.2.2.2.2.2.2.length<=1048576/\∀k∈mO c,k.2.1.size<=1048576
theorem SmallR.big{c:mA}(h:SmallR c):Cz c:=⟨by have:=h.1;omega,h.2⟩
def yY(i:Nat)(x:mI):Prop:=x.2=(i:Int)/\x.1.length<=1000*i/\∀p∈x.1,p.2.length<=i/\p.1.2.1.size<=1048576
theorem YO{i:Nat}{x:mI}{c:mA}(h:yY i x)(a:SmallR c):yY (i+1) (qG x c):=by
 obtain⟨g,l,d⟩:=h
 have b:(mO c).length=c.2.2.2.2.2.2.length:=gS ..
 have f:=MX (mO c)
 have e:=a.1
 refine⟨by show x.2+1=_;omega,?_,?_⟩
 .have:=GD (n:=x.2) (x.1.length+(nI (mO c)).length) x.1 (nI (mO c))
  show(lJ _ _ _ _).length<=_
  omega
 refine AB (P:=λp=>p.2.length<=i/\p.1.2.1.size<=1048576) (Q:=λp=>p.2.length<=i+1/\p.1.2.1.size<=1048576) (R:=λk=>k.2.1.size<=1048576) ?_ ?_ ?_ _ _ _ d (λk b=>a.2 k (xZ.1 b))
 .grind
 .grind
 grind
def sG(c:mA):Bool:=c.2.2.2.2.2.2.all λf=>eY f.1
theorem Hg{c:mA}(h:sG c=true):∀k∈mO c,eY k=true:=λk b=>by
 obtain⟨f,a,rfl⟩:=gF.1 b
 exact jL.1 h f a
theorem Kr{N:Nat}(e:3000000<N){c:mA}(b:Cz c):∀(d i M:Nat),i+d=c.2.2.2.2.2.2.length->d<M->
  ∃o,aA (MH N c) M (i:Int)=some o/\((((c.2.2.2.2.2.2.drop i).all λf=>eY f.1)=true/\o= .inl ())\/(((c.2.2.2.2.2.2.drop i).all λf=>eY f.1)=false/\∃j:Nat,o= .inr (j:Int)))
 |_,_,0,_,h=>absurd h (jO _)
 |d,i,M+1,l,n=>by
  have p:=b.1
  simp only[aA,MH]
  cases d with
  |zero=>
   grind
  |succ d=>
   have hi:i<c.2.2.2.2.2.2.length:=by omega
   have hc':((i:Int)<(c.2.2.2.2.2.2.length:Int)):=by omega
   have k:wI ((i:Int)+1)=((i+1:Nat):Int):=by grind [bA]
   have a:c.2.2.2.2.2.2.drop i=c.2.2.2.2.2.2[i]::c.2.2.2.2.2.2.drop (i+1):=(jY hi).symm
   have q:=b.2 c.2.2.2.2.2.2[i].1 (gE (jI hi))
   have g:SQ N ((c.2.2.2.2.2.2[i].1.1,c.2.2.2.2.2.2[i].1.2.1,c.2.2.2.2.2.2[i].1.2.2),c.2.2.2.2.2.2[i].2)=some (!eY c.2.2.2.2.2.2[i].1):=by
    grind [SQ,XB]
   simp only[hc',decide_true,jJ,cD hi,j0,g]
   rw[a]
   simp only[fF]
   by_cases hck:eY c.2.2.2.2.2.2[i].1=true
   .simp only[hck,kK,j7,jE,j0,k,gY]
    exact Kr e b d (i+1) M aa aa
   grind
theorem qGy{N:Nat}(e:3000000<N){c:mA}(b:Cz c):GI N c=some (sG c):=by
 obtain⟨o,d,a⟩:=Kr e b c.2.2.2.2.2.2.length 0 N aa (by have:=b.1;omega)
 have h1':aA (MH N c) N 0=some o:=d
 simp only[GI,h1',j0]
 rw[kP] at a
 rcases a with ⟨a,rfl⟩|⟨a,j,rfl⟩
 .grind [sG]
 rw[show sG c=false from a]
 simp_all
theorem Qa{N:Nat}(e:3000000<N){l:List mA}(k:l.length<=512)(b:∀c∈l,SmallR c):∀(d i M:Nat),i+d=l.length->d<M->
  ∃o,aA (LV N l) M (i:Int)=some o/\(((l.drop i).all sG=true/\o= .inl ())\/((l.drop i).all sG=false/\∃j:Nat,o= .inr (j:Int)))
 |_,_,0,_,h=>absurd h (jO _)
 |d,i,M+1,p,q=>by
  simp only[aA,LV]
  cases d with
  |zero=>
   grind
  |succ d=>
   have hi:i<l.length:=by omega
   have hc':((i:Int)<(l.length:Int)):=by omega
   have n:wI ((i:Int)+1)=((i+1:Nat):Int):=by grind [bA]
   have a:l.drop i=l[i]::l.drop (i+1):=(jY hi).symm
   have g:∀c:mA,SmallR c->MC N ((c.1.1,c.1.2),c.2.1,c.2.2.1,c.2.2.2.1,(c.2.2.2.2.1.1,c.2.2.2.2.1.2.1,c.2.2.2.2.1.2.2),c.2.2.2.2.2.1,c.2.2.2.2.2.2)=some (!sG c):=λc f=>by
    show MC N c=_
    simp only[MC]
    rw[show GI N ((c.1.1,c.1.2),c.2.1,c.2.2.1,c.2.2.2.1,(c.2.2.2.2.1.1,c.2.2.2.2.1.2.1,c.2.2.2.2.1.2.2),c.2.2.2.2.2.1,c.2.2.2.2.2.2)=some (sG c) from qGy e f.big]
    rfl
   simp only[hc',decide_true,jJ,cD hi,j0,g l[i] (b _ (jI hi))]
   rw[a]
   simp only[fF]
   by_cases hck:sG l[i]=true
   .simp only[hck,kK,j7,jE,j0,n,gY]
    exact Qa e k b d (i+1) M aa aa
   grind
theorem qCd{N:Nat}(h:3000000<N){i:Nat}{x:mI}{c:mA}(hi:i<=512)(b:yY i x)(a:SmallR c):FX N (x.1,x.2) ((c.1.1,c.1.2),c.2.1,c.2.2.1,c.2.2.2.1,(c.2.2.2.2.1.1,c.2.2.2.2.1.2.1,c.2.2.2.2.1.2.2),c.2.2.2.2.2.1,c.2.2.2.2.2.2)=some (qG x c):=by
 obtain⟨e,f,g⟩:=b
 have d:=a.1
 grind [qFg]
theorem Qg{N:Nat}(g:3000000<N){l:List mA}(k:l.length<=512)(f:∀c∈l,SmallR c):∀(d i M:Nat) (x:mI),i+d=l.length->d<M->yY i x->
  aA (LU N l) M ((i:Int),x.1,x.2)=some ((l.drop i).foldl qG x)
 |_,_,0,_,_,h,_=>absurd h (jO _)
 |d,i,M+1,x,o,p,e=>by
  simp only[aA,LU]
  cases d with
  |zero=>
   grind
  |succ d=>
   have hi:i<l.length:=by omega
   have hc':((i:Int)<(l.length:Int)):=by omega
   have n:wI ((i:Int)+1)=((i+1:Nat):Int):=by grind [bA]
   have a:l.drop i=l[i]::l.drop (i+1):=(jY hi).symm
   have b:=f _ (jI hi)
   simp only[hc',decide_true,jJ,cD hi,j0]
   rw[qCd g aa e b]
   simp only[j0,n]
   rw[Qg g k f d (i+1) M (qG x l[i]) aa aa (YO e b),a]
   rfl
def tV:mI:=([],0)
theorem YV:yY 0 tV:=⟨rfl,jH _,λp a=>by grind [tV]⟩
theorem Iu:yO tV:=⟨⟨by decide,by decide⟩,λp a=>by grind [tV],List.Pairwise.nil⟩
theorem qFt{N:Nat}(d:3000000<N){l:List mA}(e:l.length<=512)(b:∀c∈l,SmallR c):FU N l=some (if l.all sG then(l.foldl qG tV,0) else(tV,1)):=by
 obtain⟨o,f,a⟩:=Qa d e b l.length 0 N aa aa
 have h1':aA (LV N l) N 0=some o:=f
 have h:aA (LU N l) N (0,([]:List lX),0)=some (l.foldl qG tV):=Qg d e b l.length 0 N tV aa aa YV
 have g:¬((l.length:Int)>512):=by omega
 simp only[FU,g,decide_false,j7,jE,h1',j0]
 rw[kP] at a
 rcases a with ⟨a,rfl⟩|⟨a,j,rfl⟩
 .grind
 have:(j:Int)>=0:=by omega
 simp only[j0,this,decide_true,jJ,a,j7,jE]
 rfl
theorem qDd{i:Nat}{x:mI}(hi:i<=512)(h:yY i x):AR x:=by
 obtain⟨c,d,a⟩:=h
 exact⟨by omega,λp b=>⟨(a p b).2,by grind⟩⟩
end
end Go.Proofs.YtgboehjfofcogaaGreatDoor
