/- No condition but those of each theorem. -/
import Derived.Test.YthiiggmmmoolbaaGreatDoorProg
import Derived.WalkKit
import Derived.Deep.LoopGhost
import Derived.KernelRfl
import Derived.OrdersHeld
import Derived.OrdersIn
import Derived.LoopNIn
import Derived.Sort.LoopGhostIn
import Derived.Laws.AppendOwn
import Derived.RangeFuncLeaves
import Derived.RangeFuncRecord
import Derived.MapKept
import Derived.Maps.RangeRun
import Derived.ChangeKeysEq
import Derived.HandedShaped
import Derived.ChangeStays
import Derived.ChangeSame
import Derived.OpenShut
import Derived.WideShapes
import Derived.JoinedOf
import Derived.ReadAgain
import Derived.ChangeAt
import Derived.RowKit
import Derived.Lib.Overlaps
import Derived.Shelf.Sort.Plain
import Derived.Shelf.Slices.In.SortNone
import Derived.WalkSmall
import Derived.Recover
import Derived.Lib.Builder
import Derived.Lib.UnsafeStr
import Derived.Shelf.Strconv.Itoa3
import Derived.Room.Shelf.Join48
import Derived.Lib.Bytealg
import Derived.Test.YthiiggmmmoolbaaGreatDoorK4b1
namespace Go.Proofs.YthiiggmmmoolbaaGreatDoor
section
open Go Go.Dc Go.Proofs
theorem TQ(h:Hd):0<=cJ h:=by
 unfold cJ
 split
 .decide
 split
 .split
  .decide
  split<;>decide
 decide
theorem qIu{ps:List BA}{t:Rose}{a b:Int}(h:a<=b):(t.wr ps a).length<=(t.wr ps b).length:=by
 cases t with
 |mk c ks=>
  simp only[Rose.wr]
  by_cases h1:cJ c<a
  .rw[if_pos h1,if_pos (by omega)];exact jJ _
  rw[if_neg h1]
  split
  .simp only[jB,j9];omega
  exact jJ _
theorem qHu{ps:List BA}{t:Rose}{a:Int}:(t.wr ps a).length<=(t.wr ps 0).length+2:=by
 cases t with
 |mk b ks=>
  have:=TQ b
  simp only[Rose.wr]
  rw[if_neg (show ¬cJ b<0 by omega)]
  split
  .simp only[jB,j9,jD];omega
  omega
mutual
theorem qEi(t:Rose)(n:Int){d e:Nat}(a:d<=e):t.dep n d<=t.dep n e:=by
 match t with
 | .mk h ks=>
  have b:=sB ks h 0 a
  have c:=sB ks h 0 (Nat.add_le_add_right a 1)
  have f:=sB ks h 0 (Nat.add_le_add_right a 2)
  simp only[Rose.dep]
  by_cases h1:cJ h<n
  .by_cases h4:h.1=4
   .simp only[if_pos h1,if_pos h4];omega
   simp only[if_pos h1,if_neg h4]
   rw[show d+1+1=d+2 by omega,show e+1+1=e+2 by omega];omega
  by_cases h4:h.1=4
  .simp only[if_neg h1,if_pos h4];omega
  simp only[if_neg h1,if_neg h4];omega
theorem sB(l:List Rose)(h:Hd)(k:Nat){d e:Nat}(a:d<=e):iF h k d l<=iF h k e l:=by
 match l with
 |[]=>exact jJ _
 |t::l=>
  have b:=qEi t (cN h k) a
  have c:=sB l h (k+1) a
  simp only[iF];omega
end
theorem qDq(t:Rose){a b:Int}(c:a<=b)(d:Nat):t.dep a d<=t.dep b d:=by
 cases t with
 |mk h ks=>
  have e:=sB ks h 0 (show d<=d+1 by omega)
  have f:=sB ks h 0 (show d+1<=d+1+1 by omega)
  simp only[Rose.dep]
  by_cases h1:cJ h<a
  .simp only[if_pos h1,if_pos (show cJ h<b by omega)];exact jJ _
  by_cases h2:cJ h<b
  .by_cases h4:h.1=4
   .simp only[if_neg h1,if_pos h2,if_pos h4];omega
   simp only[if_neg h1,if_pos h2,if_neg h4];omega
  simp only[if_neg h1,if_neg h2];exact jJ _
theorem qIe(t:Rose)(n:Int)(d:Nat):t.dep n d<=t.dep 0 (d+1):=by
 cases t with
 |mk h ks=>
  have a:=sB ks h 0 (show d<=d+1 by omega)
  have b:=sB ks h 0 (show d+1<=d+1+1 by omega)
  have:=TQ h
  simp only[Rose.dep,if_neg (show ¬cJ h<0 by omega)]
  by_cases h1:cJ h<n
  .simp only[if_pos h1];exact jJ _
  by_cases h4:h.1=4
  .simp only[if_neg h1,if_pos h4];omega
  simp only[if_neg h1,if_neg h4];omega
mutual
theorem OB(t:Rose)(n:Int)(d:Nat):t.deepen d<=t.dep n d:=by
 match t with
 | .mk h ks=>
  obtain⟨e,he1,he2⟩:∃e,e=(if cJ h<n then d+1 else d)/\d<=e:=⟨_,rfl,by split<;>omega⟩
  have b:=IK ks h 0 d
  have c:=IK ks h 0 (d+1)
  have f:=sB ks h 0 he2
  have a:=sB ks h 0 (Nat.succ_le_succ he2)
  simp only[Rose.deepen,Rose.dep]
  rw[<-he1]
  by_cases h4:h.1=4
  .rw[if_pos h4,if_pos h4];omega
  rw[if_neg h4,if_neg h4]
  simp only[Nat.succ_eq_add_one] at a
  omega
theorem IK(l:List Rose)(h:Hd)(k d:Nat):sG d l<=iF h k d l:=by
 match l with
 |[]=>exact jJ _
 |t::l=>
  have a:=OB t (cN h k) d
  have b:=IK l h (k+1) d
  simp only[sG,iF];omega
end
def co(t:bH):Nat:=if t.1=5 then 0 else if t.1=2 then 3*(Lib.decDigits t.2.2.1.toNat).length else if t.1=3 then 3*t.2.1.size+6 else 3*t.2.1.size
def cs(ts:List bH)(i:Nat):Nat:=((ts.take i).map co).sum
section
variable {ts:List bH} {ps:List BA} {E S:Ps->PM Nat}
theorem mL(i:Nat):cs ts (i+1)=cs ts i+co (aC ts i):=by
 unfold cs
 by_cases h:i<ts.length
 .have e:aC ts i=ts[i]:=by
   unfold aC
   rw[jP,List.getElem?_eq_getElem h];rfl
  rw[FY h,gM,List.sum_append,e]
  simp
 have e:aC ts i=(5,⟨#[]⟩,0,0):=by
  unfold aC
  rw[jP,List.getElem?_eq_none (by omega)];rfl
 rw[gF (by omega),gF (by omega),e]
 rfl
theorem rC{k:Int}{s:BA}{i:Nat}(h:cD ts k s i=true)(a:k=1\/k=4):co (aC ts i)=3*s.size:=by
 simp only[cD,jI,kY,jA] at h
 unfold co
 rw[if_neg (by omega),if_neg (by omega),if_neg (by omega),h.2]
theorem GV{i:Nat}(h:(aC ts i).1=1):co (aC ts i)=3*(aC ts i).2.1.size:=by
 unfold co
 rw[if_neg (by omega),if_neg (by omega),if_neg (by omega)]
theorem SJ{i:Nat}(h:(aC ts i).1=3):co (aC ts i)=3*(aC ts i).2.1.size+6:=by
 unfold co
 rw[if_neg (by omega),if_neg (by omega),if_pos h]
theorem LN{i:Nat}(h:(aC ts i).1=2):co (aC ts i)=3*(Lib.decDigits (aC ts i).2.2.1.toNat).length:=by
 unfold co
 rw[if_neg (by omega),if_pos h]
theorem qX{s:BA}{i j:Nat}(h:eK ts s i= .inr j):j=i+1/\cs ts j=cs ts i+3*s.size:=by
 unfold eK at h
 split at h
 .rename_i g
  obtain rfl:=(Sum.inr.inj h).symm
  exact⟨rfl,by rw[mL,rC g (.inr rfl)]⟩
 cases h
theorem wdI{s:BA}{i j:Nat}(h:oL ts s i= .inr j):j=i+1/\cs ts j=cs ts i+3*s.size:=by
 unfold oL at h
 split at h
 .rename_i g
  obtain rfl:=(Sum.inr.inj h).symm
  exact⟨rfl,by rw[mL,rC g (.inl rfl)]⟩
 cases h
theorem EH{k:Int}{i:Nat}{a:Nat×bH}(h:mC ts k i= .inr a):a=(i+1,aC ts i)/\(aC ts i).1=k:=by
 unfold mC at h
 split at h
 .rename_i g
  exact⟨(Sum.inr.inj h).symm,g⟩
 cases h
theorem nmI{i:Nat}{a:Nat×bH}(h:nI ts i= .inr a):a=(i+1,aC ts i)/\(aC ts i).1=1/\oQ (aC ts i).2.1=false/\cs ts (i+1)=cs ts i+3*(aC ts i).2.1.size:=by
 obtain⟨b,d,c⟩:=bG h
 obtain⟨rfl,g⟩:=EH d
 split at c
 .cases c
 rename_i g3
 obtain rfl:=Sum.inr.inj c
 exact⟨rfl,g,by simpa using g3,by rw[mL,GV g]⟩
theorem ptI{i:Nat}{a:Nat×bH}(h:nT ts i= .inr a):a=(i+1,aC ts i)/\lL (aC ts i).2.1.data.toList=true/\cs ts (i+1)=cs ts i+(3*(aC ts i).2.1.size+6):=by
 obtain⟨b,d,c⟩:=bG h
 obtain⟨rfl,g⟩:=EH d
 split at c
 .rename_i g3
  obtain rfl:=Sum.inr.inj c
  exact⟨rfl,g3,by rw[mL,SJ g]⟩
 cases c
theorem lnI{i:Nat}{a:Nat×bH}(h:wZ ts i= .inr a):a=(i+1,aC ts i)/\iT (aC ts i).2.1=true/\cs ts (i+1)=cs ts i+(3*(aC ts i).2.1.size+6):=by
 obtain⟨b,d,c⟩:=bG h
 obtain⟨rfl,g⟩:=EH d
 split at c
 .rename_i g3
  obtain rfl:=Sum.inr.inj c
  exact⟨rfl,g3,by rw[mL,SJ g]⟩
 cases c
def pQ(ts:List bH):Prop:=∀i,((aC ts i).1=1->iT (aC ts i).2.1=true)/\((aC ts i).1=2->0<=(aC ts i).2.2.1/\(aC ts i).2.2.1<=9007199254740992)
def Snd(ts:List bH)(ps:List BA)(n:Int)(d:Nat)(p:Ps)(r:Ps×Nat):Prop:=
 ∃t,Fine ps.length t/\r.1.2=p.2++t.flat p.2.length/\r.2+1=p.2.length+t.size/\p.2.length+t.size<=256/\cs ts p.1+(t.wr ps n).length<=cs ts r.1.1/\t.dep n d<=32
def rL(ts:List bH)(ps:List BA)(n:Int)(d:Nat)(E:Ps->PM Nat):Prop:=∀p r,p.2.length<=256->E p= .inr r->Snd ts ps n d p r
theorem Snd.less{n m:Int}{d:Nat}{p:Ps}{r:Ps×Nat}(h:Snd ts ps n d p r)(c:m<=n):Snd ts ps m d p r:=by
 obtain⟨t,e,f,g,k,l,o⟩:=h
 have a:=qIu (ps:=ps) (t:=t) c
 have b:=qDq t c d
 exact⟨t,e,f,g,k,by omega,by omega⟩
theorem wK{h:Hd}{d:Nat}{p:Ps}{j:Nat}{tok:bH}{r:Ps×Nat}(e:p.2.length<=256)(c:iB tok (h.1,h.2.1,h.2.2.1,h.2.2.2,[]) (j,p.2)= .inr r)(b:Fine ps.length (.mk h []))(k:cJ h=4)(f:d<=32)(a:cs ts p.1+(dR ps h []).length<=cs ts j):Snd ts ps 4 d p r:=by
 obtain⟨q,i⟩:=r
 obtain⟨rfl,rfl,g⟩:=wI c
 have g:p.2.length≠256:=g
 refine⟨.mk h [],b,rfl,rfl,by show _+(0+1)<=_;omega,?_,?_⟩
 .simp only[Rose.wr,cO]
  rw[if_neg (by omega)]
  exact a
 simp only[Rose.dep,iF]
 rw[if_neg (by omega)]
 omega
end
section
variable {ts:List bH} {ps:List BA} {E S:Ps->PM Nat} {d:Nat}
theorem zX{h:Hd}(a:h.1≠4)(k:Nat):cN h k=0:=by unfold cN;rw[if_neg a]
theorem QR(s:rL ts ps 0 (d+1) E){h:Hd}(b:h.1≠4):∀(n:Nat) (k:Nat) (l:List Int) (p q:Ps) (x:List Int),p.2.length<=256->qT ts E n l p= .inr (q,x)->
  ∃ks,(∀t∈ks,Fine ps.length t)/\q.2=p.2++cC p.2.length ks/\x=l++bQ p.2.length ks/\p.2.length+aL ks<=256/\cs ts p.1+mS (cO ps h k ks)+1<=cs ts q.1/\iF h k (d+1) ks<=32
 |0,_,_,_,_,_,_,f=>by cases f
 |n+1,k,l,p,q,x,B,f=>by
  obtain⟨a,A,g⟩:=bG (show bF (E p) _=_ from f)
  obtain⟨t,t1,t2,M,R,S,U⟩:=s p a B A
  have H:=t.pos
  have r:((a.2:Nat):Int)=((p.2.length+t.size-1:Nat):Int):=by omega
  have D:a.1.2.length=p.2.length+t.size:=by rw[t2,j9,eF]
  split at g
  .rename_i hc
   obtain⟨ks,F,o,k3,y,G,K⟩:=QR s b n (k+1) _ (a.1.1+1,a.1.2) q x (by show a.1.2.length<=256;omega) g
   have v:cs ts (a.1.1+1)=cs ts a.1.1+3:=by rw[mL,rC hc (.inr rfl)];rfl
   simp only at o k3 y G
   rw[D] at o k3 y
   refine⟨t::ks,?_,?_,?_,?_,?_,?_⟩
   .intro u c
    rcases jT.1 c with rfl|c
    .exact t1
    exact F u c
   .rw[o,t2,jC];rfl
   .rw[k3,jC,r];rfl
   .show p.2.length+(t.size+aL ks)<=256;omega
   .show cs ts p.1+mS (t.wr ps (cN h k)::cO ps h (k+1) ks)+1<=_
    have e:mS (t.wr ps (cN h k)::cO ps h (k+1) ks)=((t.wr ps (cN h k)).length+2)+mS (cO ps h (k+1) ks):=by simp[mS]
    rw[e,zX b];omega
   show max (t.dep (cN h k) (d+1)) (iF h (k+1) (d+1) ks)<=32
   rw[zX b];omega
  obtain⟨j,y,o⟩:=bG g
  obtain⟨rfl,v⟩:=qX y
  obtain⟨rfl,rfl⟩:=Prod.mk.inj (Sum.inr.inj o)
  have z:sClose.size=1:=rfl
  refine⟨[t],?_,?_,?_,?_,?_,?_⟩
  .intro u c
   rw[jN.1 c];exact t1
  .rw[t2];simp[cC]
  .rw[r];rfl
  .show p.2.length+(t.size+0)<=256;omega
  .have e:mS (cO ps h k [t])=(t.wr ps (cN h k)).length+2:=by simp[mS,cO]
   rw[e,zX b]
   show _<=cs ts (a.1.1+1)
   omega
  show max (t.dep (cN h k) (d+1)) 0<=32
  rw[zX b];omega
theorem XO(e:rL ts ps 0 (d+1) E){h:Hd}(c:h.1≠4){p q:Ps}{x:List Int}(f:p.2.length<=256)(b:oY ts E p= .inr (q,x)):
  ∃ks,(∀t∈ks,Fine ps.length t)/\q.2=p.2++cC p.2.length ks/\x=bQ p.2.length ks/\p.2.length+aL ks<=256/\cs ts p.1+mS (cO ps h 0 ks)+2<=cs ts q.1/\iF h 0 (d+1) ks<=32:=by
 obtain⟨j,k,a⟩:=bG b
 obtain⟨rfl,s⟩:=qX k
 have z:sOpen.size=1:=rfl
 split at a
 .rename_i hc
  obtain⟨rfl,rfl⟩:=Prod.mk.inj (Sum.inr.inj a)
  have g:cs ts (p.1+1+1)=cs ts (p.1+1)+3:=by rw[mL,rC hc (.inr rfl)];rfl
  refine⟨[],fun t l=>(kW l).elim,by simp[cC],rfl,by show p.2.length+0<=256;omega,?_,kE _⟩
  show cs ts p.1+0+2<=cs ts (p.1+1+1)
  omega
 obtain⟨ks,g,l,k3,n,o,r⟩:=QR e c _ 0 [] (p.1+1,p.2) q x f a
 simp only at o
 exact⟨ks,g,l,by rw[k3,jL],n,by omega,r⟩
theorem qFc:sRead.size=4/\sSize.size=4/\sHas.size=3/\sEnv.size=3/\sFlip.size=4/\sOpen.size=1/\sClose.size=1/\sComma.size=1:=by decide+kernel
theorem qAv:(iS 7).size=4/\(iS 8).size=3/\(iS 9).size=3:=by decide+kernel
theorem SN{n:Int}(h:0<=n):(nM n).data.toList.length=(Lib.decDigits n.toNat).length:=by
 show(Lib.itoa n).length=_
 unfold Lib.itoa
 rw[if_neg (by omega)]
theorem qGf{n:Int}(h:0<=n):(nM (-n)).data.toList.length<=(Lib.decDigits n.toNat).length+1:=by
 show(Lib.itoa (-n)).length<=_
 unfold Lib.itoa
 split
 .rw[show(-n).natAbs=n.toNat by omega,jB];exact jJ _
 rw[show(-n).toNat=n.toNat by omega];omega
theorem YX(U:pQ ts)(S:rL ts ps 0 (d+1) E)(x:d<=32){p0:Nat}{l:List Ex}{r:Ps×Nat}(u:l.length<=256)(Y:(aC ts p0).1=1)(v:(aC ts p0).2.1∈[sRead,sSize,sHas,sEnv,sFlip])(A:nP ts E (aC ts p0) (p0+1,l)= .inr r):Snd ts ps 4 d (p0,l) r:=by
 obtain⟨z1,z2,z3,z4,z5,z6,z7,z8⟩:=qFc
 obtain⟨w7,w8,w9⟩:=qAv
 unfold nP at A
 obtain⟨j,V,B⟩:=bG A
 obtain⟨rfl,F⟩:=qX V
 have p:cs ts (p0+1)=cs ts p0+3*(aC ts p0).2.1.size:=by rw[mL,GV Y]
 simp only at F B
 obtain⟨q,c,R⟩:=bG B
 obtain⟨j2,H,s⟩:=bG R
 obtain⟨rfl,f⟩:=qX H
 have y1:(⟨#[40,34]⟩:BA).size=2:=rfl
 have y2:(⟨#[34,41]⟩:BA).size=2:=rfl
 have y3:(⟨#[114,101,97,100,40,34]⟩:BA).size=6:=rfl
 have y4:(⟨#[34,44,32]⟩:BA).size=3:=rfl
 have y5:(⟨#[102,108,105,112,40]⟩:BA).size=5:=rfl
 have y6:(⟨#[41]⟩:BA).size=1:=rfl
 simp only[jT,kW,hH] at v
 split at c
 .rename_i e
  rw[e,z1] at p
  obtain⟨a,o,c⟩:=bG c
  obtain⟨rfl,k,y⟩:=ptI o
  obtain⟨i3,G,c⟩:=bG c
  obtain⟨rfl,z⟩:=qX G
  obtain⟨b,D,c⟩:=bG c
  obtain⟨t,t1,t2,Z,t4,t5,t6⟩:=S _ b u D
  obtain rfl:=(Sum.inr.inj c).symm
  have hp:=t.pos
  simp only at t2 Z t4 t5 z f s
  obtain⟨q,i⟩:=r
  obtain⟨rfl,rfl,g⟩:=wI s
  have K:b.1.2.length=l.length+t.size:=by rw[t2,j9,eF]
  simp only at g
  have M:((b.2:Nat):Int)=((l.length+t.size-1:Nat):Int):=by omega
  refine⟨.mk (6,0,0,(aC ts (p0+1+1)).2.1) [t],.read _ t k t1,?_,?_,?_,?_,?_⟩
  .show b.1.2++_=l++_
   rw[t2,LR,jC,M]
   rfl
  .show b.1.2.length+1=l.length+((t.size+0)+1)
   omega
  .show l.length+((t.size+0)+1)<=256
   omega
  .simp only[Rose.wr,cO]
   rw[if_neg (show ¬cJ ((6,0,0,(aC ts (p0+1+1)).2.1):Hd)<4 from(by show ¬(4:Int)<4;decide)),zX (by show(6:Int)≠4;decide)]
   show cs ts p0+((((⟨#[114,101,97,100,40,34]⟩:BA)++(aC ts (p0+1+1)).2.1)++(⟨#[34,44,32]⟩:BA)).data.toList++(t.wr ps 0++[41])).length<=cs ts (b.1.1+1)
   simp only[j9,cV,ByteArray.size_append,jB,jD]
   omega
  show max (if(4:Int)<4 then d+1 else d) (max (t.dep 0 ((if(4:Int)<4 then d+1 else d)+1)) 0)<=32
  rw[if_neg (by decide)];omega
 split at c
 .rename_i e
  rw[e,z2] at p
  obtain⟨a,o,c⟩:=bG c
  obtain⟨rfl,k,y⟩:=ptI o
  obtain rfl:=(Sum.inr.inj c).symm
  refine wK (h:=(7,0,0,(aC ts (p0+1+1)).2.1)) u s (.look 7 _ (.inl rfl) k) rfl x ?_
  show cs ts p0+(((iS 7++(⟨#[40,34]⟩:BA))++(aC ts (p0+1+1)).2.1)++(⟨#[34,41]⟩:BA)).data.toList.length<=_
  simp only[cV,ByteArray.size_append]
  simp only at f
  omega
 split at c
 .rename_i e
  rw[e,z3] at p
  obtain⟨a,o,c⟩:=bG c
  obtain⟨rfl,k,y⟩:=ptI o
  obtain rfl:=(Sum.inr.inj c).symm
  refine wK (h:=(8,0,0,(aC ts (p0+1+1)).2.1)) u s (.look 8 _ (.inr rfl) k) rfl x ?_
  show cs ts p0+(((iS 8++(⟨#[40,34]⟩:BA))++(aC ts (p0+1+1)).2.1)++(⟨#[34,41]⟩:BA)).data.toList.length<=_
  simp only[cV,ByteArray.size_append]
  simp only at f
  omega
 split at c
 .rename_i e
  rw[e,z4] at p
  obtain⟨a,o,c⟩:=bG c
  obtain⟨rfl,k,y⟩:=lnI o
  obtain rfl:=(Sum.inr.inj c).symm
  refine wK (h:=(9,0,0,(aC ts (p0+1+1)).2.1)) u s (.env _ k) rfl x ?_
  show cs ts p0+(((iS 9++(⟨#[40,34]⟩:BA))++(aC ts (p0+1+1)).2.1)++(⟨#[34,41]⟩:BA)).data.toList.length<=_
  simp only[cV,ByteArray.size_append]
  simp only at f
  omega
 rename_i n1 n2 n3 n4
 have e:(aC ts p0).2.1=sFlip:=by
  rcases v with h|h|h|h|h
  .exact absurd h n1
  .exact absurd h n2
  .exact absurd h n3
  .exact absurd h n4
  exact h
 rw[e,z5] at p
 obtain⟨a,o,c⟩:=bG c
 obtain⟨rfl,k⟩:=EH o
 split at c
 .cases c
 rename_i y
 obtain rfl:=(Sum.inr.inj c).symm
 have D:=((U (p0+1+1)).2 k).1
 have y:¬(aC ts (p0+1+1)).2.2.1>=64:=y
 obtain⟨m,v⟩:∃m:Nat,(aC ts (p0+1+1)).2.2.1=(m:Int):=⟨(aC ts (p0+1+1)).2.2.1.toNat,by omega⟩
 have z:cs ts (p0+1+1+1)=cs ts (p0+1+1)+3*(Lib.decDigits m).length:=by rw[mL,LN k,v];rfl
 simp only[v] at s
 have K:=SN (n:=(m:Int)) (by omega)
 rw[jU,cV] at K
 refine wK (h:=(10,(m:Int),0,emB)) u s (.flip m (by omega)) rfl x ?_
 show cs ts p0+(((⟨#[102,108,105,112,40]⟩:BA)++nM (m:Int))++(⟨#[41]⟩:BA)).data.toList.length<=_
 simp only[cV,ByteArray.size_append]
 simp only at f
 omega
theorem ZN(o:pQ ts)(y:rL ts ps 0 (d+1) E)(s:d<=32):rL ts ps 4 d (iP ts ps E):=by
 intro p r k b
 obtain⟨i,l⟩:=p
 unfold iP at b
 simp only at b k
 split at b
 .rename_i c
  have v:=(o i).2 c
  refine wK (h:=(1,(aC ts i).2.2.1,0,emB)) k b (.num _ (by omega) v.2) rfl s ?_
  show cs ts i+(nM (aC ts i).2.2.1).data.toList.length<=cs ts (i+1)
  rw[SN v.1,mL,LN c];omega
 split at b
 .rename_i hm
  obtain⟨a,n,f⟩:=bG b
  obtain⟨rfl,c⟩:=EH n
  have v:=(o (i+1)).2 c
  have ew:IntKind.wrap .i64 (0-(aC ts (i+1)).2.2.1)= -(aC ts (i+1)).2.2.1:=by rw[bT (by omega) (by omega)];omega
  simp only at f
  rw[ew] at f
  refine wK (h:=(1,-(aC ts (i+1)).2.2.1,0,emB)) k f (.num _ (by omega) (by omega)) rfl s ?_
  show cs ts i+(nM (-(aC ts (i+1)).2.2.1)).data.toList.length<=cs ts (i+1+1)
  have:=qGf v.1
  have z:sMinus.size=1:=rfl
  rw[mL,mL,LN c,rC hm (.inr rfl)];omega
 split at b
 .rename_i hm
  obtain⟨a,n,f⟩:=bG b
  obtain⟨j,v,A⟩:=bG f
  obtain⟨rfl,G⟩:=qX v
  obtain rfl:=(Sum.inr.inj A).symm
  obtain⟨t,t1,t2,B,D,F,K⟩:=y _ a k n
  have w:=qHu (ps:=ps) (t:=t) (a:=4)
  have u:=qIe t 4 d
  have z:sOpen.size=1:=rfl
  have M:sClose.size=1:=rfl
  have H:cs ts (i+1)=cs ts i+3:=by rw[mL,rC hm (.inr rfl)];rfl
  simp only at F
  refine⟨t,t1,t2,B,D,?_,by omega⟩
  show cs ts i+(t.wr ps 4).length<=cs ts (a.1.1+1)
  omega
 split at b
 .cases b
 rename_i c
 have c:(aC ts i).1=1:=by simpa using c
 split at b
 .rename_i hm
  exact YX o y s k c hm b
 split at b
 .cases b
 rename_i hres
 have B:cP (aC ts i).2.1=true:=by
  unfold cP
  rw[(o i).1 c,show oQ (aC ts i).2.1=false by simpa using hres];rfl
 have H:cs ts (i+1)=cs ts i+3*(aC ts i).2.1.size:=by rw[mL,GV c]
 split at b
 .obtain⟨a,n,f⟩:=bG b
  obtain⟨ks,D,A,k3,F,G,M⟩:=XO (h:=(3,0,0,(aC ts i).2.1)) (ps:=ps) y (by show(3:Int)≠4;decide) (p:=(i+1,l)) (q:=a.1) (x:=a.2) k n
  obtain⟨q,x⟩:=r
  obtain⟨rfl,rfl,g⟩:=wI f
  simp only at A k3 F G
  have K:a.1.2.length=l.length+aL ks:=by rw[A,j9,oI]
  refine⟨.mk (3,0,0,(aC ts i).2.1) ks,.call _ ks B D,?_,?_,?_,?_,?_⟩
  .show a.1.2++_=l++(cC l.length ks++_)
   rw[A,jC,k3];rfl
  .show a.1.2.length+1=l.length+(aL ks+1)
   omega
  .show l.length+(aL ks+1)<=256
   omega
  .have v:=CX (cO ps (3,0,0,(aC ts i).2.1) 0 ks) 0
   have R:(⟨#[40]⟩:BA).size=1:=rfl
   simp only[Rose.wr]
   rw[if_neg (show ¬cJ ((3,0,0,(aC ts i).2.1):Hd)<4 from(by show ¬(4:Int)<4;decide))]
   show cs ts i+(((aC ts i).2.1++(⟨#[40]⟩:BA)).data.toList++(lG 0 (cO ps (3,0,0,(aC ts i).2.1) 0 ks)++[41])).length<=cs ts a.1.1
   simp only[j9,cV,ByteArray.size_append,jB,jD]
   omega
  show max (if(4:Int)<4 then d+1 else d) (iF (3,0,0,(aC ts i).2.1) 0 ((if(4:Int)<4 then d+1 else d)+1) ks)<=32
  rw[if_neg (by decide)];omega
 split at b
 .rename_i j v
  obtain⟨n,f,-⟩:=List.findIdx?_eq_some_iff_getElem.1 v
  have f:ps[j]=(aC ts i).2.1:=gN f
  refine wK (h:=(2,(j:Int),0,emB)) k b (.par j n) rfl s ?_
  show cs ts i+(ps.getD (Int.toNat (j:Int)) ⟨#[]⟩).data.toList.length<=cs ts (i+1)
  have e:ps.getD j ⟨#[]⟩=ps[j]:=by rw[jP,List.getElem?_eq_getElem n];rfl
  rw[jU,e,f,cV];omega
 cases b
def uP(level:Nat):Int:=if level=1 then 2 else level
theorem qHp{level i:Nat}(h:lS ts level i≠0):1<=lS ts level i/\lS ts level i<=7/\pH (lS ts level i)=level/\cD ts 4 (mM (lS ts level i)) i=true:=by
 have e:lS ts level i=match opsC.find? (oG ts level i) with
  |some o=>o.1
  |none=>0:=rfl
 cases ho:opsC.find? (oG ts level i) with
 |none=>
  rw[ho] at e
  exact absurd e h
 |some o=>
  rw[ho] at e
  have e:lS ts level i=o.1:=e
  have a:=List.find?_some ho
  have c:=gU ho
  simp only[oG,jI,jA] at a
  have b:(1<=o.1/\o.1<=7)/\o.2=mM o.1:=by
   simp only[opsC,jT,kW,hH] at c
   rcases c with rfl|rfl|rfl|rfl|rfl|rfl|rfl<;>decide+kernel
  rw[e]
  exact⟨b.1.1,b.1.2,a.2,by rw[<-b.2];exact a.1⟩
theorem qCl{op:Int}(a:1<=op)(b:op<=7):1<=(mM op).size:=by
 rcases(by omega:op=1\/op=2\/op=3\/op=4\/op=5\/op=6\/op=7) with rfl|rfl|rfl|rfl|rfl|rfl|rfl<;>decide+kernel
theorem RV{level:Nat}(s:rL ts ps ((level:Int)+1) d S)(h1l:1<=level)(R:d<=32){p0:Ps}:∀(n x:Nat) (p:Ps) (r:Ps×Nat),Snd ts ps (uP level) d p0 (p,x)->mN ts level S n x p= .inr r->Snd ts ps level d p0 r
 |0,_,_,_,_,c=>by cases c
 |n+1,x,p,r,A,c=>by
  unfold mN at c
  have v:(level:Int)<=uP level:=by unfold uP;split<;>omega
  split at c
  .obtain rfl:=Sum.inr.inj c
   exact A.less v
  rename_i hop
  obtain⟨f,k,E,o4⟩:=qHp hop
  generalize lS ts level p.1=op at c f k E o4
  obtain⟨e,-,-⟩:=LW f k
  rw[E] at e
  have V:=qCl f k
  have a1:cs ts (p.1+1)=cs ts p.1+3*(mM op).size:=by rw[mL,rC o4 (.inr rfl)]
  obtain⟨a,K,H⟩:=bG c
  obtain⟨b,M,o⟩:=bG H
  obtain⟨t,t1,t2,Y,t4,Z,t6⟩:=A
  simp only at t2 Y Z
  have U:p.2.length=p0.2.length+t.size:=by rw[t2,j9,eF]
  obtain⟨u,u1,l,F,G,u5,u6⟩:=s (p.1+1,p.2) a (by show p.2.length<=256;omega) K
  simp only at l F G u5
  rw[U] at l F G
  have a2:a.1.2.length=p0.2.length+t.size+u.size:=by rw[l,t2];simp only[j9,eF]
  obtain⟨q,y⟩:=b
  obtain⟨rfl,rfl,g⟩:=wI M
  have a3:=t.pos
  have a4:=u.pos
  have B:cN (4,0,op,emB) 0=uP level:=by
   unfold cN uP
   rw[if_pos rfl,if_pos rfl,e]
   by_cases h:level=1
   .rw[if_pos h,if_pos (by omega)]
   rw[if_neg h,if_neg (by omega)]
  have D:cN (4,0,op,emB) 1=(level:Int)+1:=by
   unfold cN
   rw[if_pos rfl,if_neg (by decide),e]
  have key:∀m:Int,m<=level->Snd ts ps m d p0 ((a.1.1,a.1.2++[((4,0,op,⟨#[]⟩,[(x:Int),(a.2:Int)]):Ex)]),a.1.2.length):=by
   intro m hm
   refine⟨.mk (4,0,op,emB) [t,u],.bin op t u f k t1 u1,?_,?_,?_,?_,?_⟩
   .show a.1.2++_=p0.2++_
    rw[l,t2,LT,show(x:Int)=((p0.2.length+t.size-1:Nat):Int) by omega,show(a.2:Int)=((p0.2.length+t.size+u.size-1:Nat):Int) by omega]
    simp only[jC]
    rfl
   .show a.1.2.length+1=p0.2.length+(t.size+(u.size+0)+1)
    omega
   .show p0.2.length+(t.size+(u.size+0)+1)<=256
    try simp only at g
    omega
   .simp only[Rose.wr,cO,B,D]
    rw[if_neg (by rw[e];omega)]
    show cs ts p0.1+(t.wr ps (uP level)++((((⟨#[32]⟩:BA)++mM op)++(⟨#[32]⟩:BA)).data.toList++u.wr ps ((level:Int)+1))).length<=cs ts a.1.1
    have z:(⟨#[32]⟩:BA).size=1:=rfl
    simp only[j9,cV,ByteArray.size_append]
    omega
   show max (if cJ (4,0,op,emB)<m then d+1 else d) (max (t.dep (cN (4,0,op,emB) 0) (if cJ (4,0,op,emB)<m then d+1 else d)) (max (u.dep (cN (4,0,op,emB) 1) (if cJ (4,0,op,emB)<m then d+1 else d)) 0))<=32
   rw[if_neg (by rw[e];omega),B,D]
   omega
  split at o
  .obtain rfl:=Sum.inr.inj o
   exact key _ (gZ _)
  rename_i hne
  refine RV s h1l R n _ _ r ?_ o
  refine key _ ?_
  unfold uP
  rw[if_neg hne];exact gZ _
theorem JF{level:Nat}(b:rL ts ps ((level:Int)+1) d S)(h1l:1<=level)(h:d<=32):rL ts ps level d (oA ts level S):=by
 intro p r g c
 obtain⟨a,f,e⟩:=bG c
 have:=b p a g f
 refine RV b h1l h _ a.2 a.1 r (this.less ?_) e
 unfold uP
 split<;>omega
theorem YJ(c:pQ ts)(b:rL ts ps 0 (d+1) E)(a:d<=32):rL ts ps 1 d (zF ts ps E):=
 JF (level:=1) (JF (level:=2) (JF (level:=3) (ZN c b a) (by decide) a) (by decide) a) (by decide) a
end
theorem RU{ts:List bH}{ps:List BA}(s:pQ ts):∀(k d:Nat),d+k=33->rL ts ps 0 d (cG ts ps k)
 |0,_,_=>fun p r _ h=>by cases h
 |k+1,d,hk=>by
  have n:=RU (ps:=ps) s k (d+1) (by omega)
  intro p r x l
  unfold cG at l
  split at l
  .rename_i hif
   obtain⟨a,G,e⟩:=bG l
   obtain⟨i,hi,e⟩:=bG e
   obtain⟨b,z,e⟩:=bG e
   obtain⟨j,K,e⟩:=bG e
   obtain⟨c,H,F⟩:=bG e
   obtain⟨t,t1,t2,S,U,V,t6⟩:=n (p.1+1,p.2) a x G
   simp only at t2 S U V
   have M:a.1.2.length=p.2.length+t.size:=by rw[t2,j9,eF]
   obtain⟨rfl,ci⟩:=wdI hi
   obtain⟨u,Y,f,A,B,Z,u6⟩:=n _ b (by show a.1.2.length<=256;omega) z
   simp only at f A B Z
   rw[M] at f A B
   have R:b.1.2.length=p.2.length+t.size+u.size:=by rw[f,t2];simp only[j9,eF]
   obtain⟨rfl,cj⟩:=wdI K
   obtain⟨v,v1,o,D,E,v5,v6⟩:=n _ c (by show b.1.2.length<=256;omega) H
   simp only at o D E v5
   rw[R] at o D E
   have l3:c.1.2.length=p.2.length+t.size+u.size+v.size:=by rw[o,f,t2];simp only[j9,eF]
   obtain⟨q,y⟩:=r
   obtain⟨rfl,rfl,g⟩:=wI F
   have a1:=t.pos
   have a2:=u.pos
   have a3:=v.pos
   have h0:cs ts (p.1+1)=cs ts p.1+6:=by rw[mL,rC hif (.inl rfl)];rfl
   have z1:sThen.size=4:=rfl
   have z2:sElse.size=4:=rfl
   have nd:∀k,cN (5,0,0,emB) k=0:=zX (by show(5:Int)≠4;decide)
   refine⟨.mk (5,0,0,emB) [t,u,v],.ite t u v t1 Y v1,?_,?_,?_,?_,?_⟩
   .show c.1.2++_=p.2++_
    rw[o,f,t2,LP,show(a.2:Int)=((p.2.length+t.size-1:Nat):Int) by omega,show(b.2:Int)=((p.2.length+t.size+u.size-1:Nat):Int) by omega,show(c.2:Int)=((p.2.length+t.size+u.size+v.size-1:Nat):Int) by omega]
    simp only[jC]
    rfl
   .show c.1.2.length+1=p.2.length+(t.size+(u.size+(v.size+0))+1)
    omega
   .show p.2.length+(t.size+(u.size+(v.size+0))+1)<=256
    try simp only at g
    omega
   .simp only[Rose.wr,cO,nd]
    rw[if_neg (by decide)]
    show cs ts p.1+(tI++(t.wr ps 0++(tThen++(u.wr ps 0++(tElse++v.wr ps 0))))).length<=cs ts c.1.1
    have y1:tI.length=3:=rfl
    have y2:tThen.length=6:=rfl
    have y3:tElse.length=6:=rfl
    simp only[j9]
    omega
   show max (if(0:Int)<0 then d+1 else d) (max (t.dep (cN (5,0,0,emB) 0) ((if(0:Int)<0 then d+1 else d)+1)) (max (u.dep (cN (5,0,0,emB) 1) ((if(0:Int)<0 then d+1 else d)+1)) (max (v.dep (cN (5,0,0,emB) 2) ((if(0:Int)<0 then d+1 else d)+1)) 0)))<=32
   rw[if_neg (by decide),nd,nd,nd]
   omega
  exact(YJ s n (by omega) p r x l).less (by decide)
mutual
theorem OW(t:Rose)(b:Nat)(rest:List Ex)(fs:List Rose):rJ (t.flat b++rest) fs=rJ rest (fs++[t]):=by
 match t with
 | .mk h ks=>
  unfold Rose.flat
  rw[jC,NN ks b,List.singleton_append]
  have e:(dK h (bQ b ks)).2.2.2.2.length=ks.length:=oJ ks b
  have a:(fs++ks).length-ks.length=fs.length:=by rw[j9];omega
  show rJ rest ((fs++ks).take ((fs++ks).length-(dK h (bQ b ks)).2.2.2.2.length)++[Rose.mk h ((fs++ks).drop ((fs++ks).length-(dK h (bQ b ks)).2.2.2.2.length))])=_
  rw[e,a,fP,dA]
theorem NN(l:List Rose)(b:Nat)(rest:List Ex)(fs:List Rose):rJ (cC b l++rest) fs=rJ rest (fs++l):=by
 match l with
 |[]=>simp[cC]
 |t::l=>
  unfold cC
  rw[jC,OW t b,NN l (b+t.size),jC]
  rfl
end
theorem ZP(t:Rose):sL (t.flat 0)=some t:=by
 have:=OW t 0 [] []
 rw[jS] at this
 unfold sL
 rw[this]
 rfl
theorem qCn(t:Rose):oneP (mQ (t.flat 0) 0 [])=true:=by
 have:=PX t 0 [] []
 rw[jS] at this
 rw[this]
 rfl
theorem qAf{np:Nat}{t:Rose}(h:Fine np t):∀b,∀x∈t.flat b,eC (np:Int) x=true:=by
 have leaf:∀(o:Hd) (b:Nat),eC (np:Int) (dK o [])=true->∀x∈(Rose.mk o []).flat b,eC (np:Int) x=true:=fun o b B x d=>by
  have d:x∈[dK o []]:=d
  rw[jN.1 d];exact B
 induction h with
 |num n p q=>
  refine fun b=>leaf _ b ?_
  simp[eC,dK,nK,p,q]
 |par i h=>
  refine fun b=>leaf _ b ?_
  simp[eC,dK,nK,h]
 |call s ks h r y=>
  intro b x d
  have d:x∈cC b ks++[dK (3,0,0,s) (bQ b ks)]:=by unfold Rose.flat at d;exact d
  rcases kC.1 d with d|d
  .clear r
   induction ks generalizing b with
   |nil=>cases d
   |cons t l f=>
    have d:x∈t.flat b++cC (b+t.size) l:=d
    rcases kC.1 d with d|d
    .exact y t (jG ..) b x d
    exact f (fun u g=>y u (jK _ g)) (b+t.size) (jW _ d) (jW _ d) d
  rw[jN.1 d]
  simp[eC,dK,h]
 |bin op a c p q v A f g=>
  intro b x d
  rw[LT] at d
  rcases kC.1 d with d|d
  .rcases kC.1 d with d|d
   .exact f b x d
   exact g _ x d
  rw[jN.1 d]
  simp[eC,dK,nK,p,q]
 |ite a c e v A D f g z=>
  intro b x d
  rw[LP] at d
  rcases kC.1 d with d|d
  .rcases kC.1 d with d|d
   .rcases kC.1 d with d|d
    .exact f b x d
    exact g _ x d
   exact z _ x d
  rw[jN.1 d]
  simp[eC,dK,nK]
 |read s a h v f=>
  intro b x d
  rw[LR] at d
  rcases kC.1 d with d|d
  .exact f b x d
  rw[jN.1 d]
  simp[eC,dK,nK,h]
 |look k s r h=>
  refine fun b=>leaf _ b ?_
  rcases r with rfl|rfl<;>simp[eC,dK,nK,h]
 |env s h=>
  refine fun b=>leaf _ b ?_
  simp[eC,dK,nK,h]
 |flip n h=>
  refine fun b=>leaf _ b ?_
  have:(n:Int)<64:=by omega
  simp[eC,dK,nK,this]
theorem PK{α:Type}[DecidableEq α]{x:α}:∀{l seen:List α},mD seen l=false->x∉seen->x∉l->mD seen (l++[x])=false
 |[],seen,_,h,_=>by
  show(decide (x∈seen)||false)=false
  rw[gD h];rfl
 |y::l,seen,a,h,b=>by
  unfold mD at a
  rw[kL] at a
  show(decide (y∈seen)||mD (seen++[y]) (l++[x]))=false
  rw[a.1,gP]
  refine PK a.2 (fun g=> ?_) fun g=>b (jK _ g)
  rcases kC.1 g with g|g
  .exact h g
  exact b (by rw[jN.1 g];exact jG ..)
theorem JD{α:Type}[DecidableEq α]{x:α}{l:List α}(h:iK l=false)(a:x∉l):iK (l++[x])=false:=PK h (fun g=>by cases g) a
section
variable {ts:List bH}
def rI(l:List BA):Nat:=mS (l.map fun s=>s.data.toList)
theorem qAj(l:List BA)(x:BA):rI (l++[x])=rI l+(x.size+2):=by simp[rI,mS]
theorem OC(f:pQ ts):∀(n:Nat) (l:List BA) (i:Nat) (r:Nat×List BA),(∀s∈l,cP s=true)->iK l=false->l.length<=8->sJ ts n l i= .inr r->
  (∀s∈r.2,cP s=true)/\iK r.2=false/\r.2.length<=8/\cs ts i+rI r.2+1<=cs ts r.1+rI l
 |0,_,_,_,_,_,_,h=>by cases h
 |n+1,l,i,r,u,v,E,h=>by
  obtain⟨a,x,h⟩:=bG h
  obtain⟨rfl,k,t,D⟩:=nmI x
  simp only at h
  split at h
  .cases h
  rename_i h8
  split at h
  .cases h
  rename_i hm
  have y:cP (aC ts i).2.1=true:=by unfold cP;rw[(f i).1 k,t];rfl
  have c:∀s∈l++[(aC ts i).2.1],cP s=true:=fun s b=>by
   rcases kC.1 b with b|b
   .exact u s b
   rw[jN.1 b];exact y
  have d:=JD v hm
  have e:(l++[(aC ts i).2.1]).length<=8:=by rw[j9,jO];omega
  have A:=qAj l (aC ts i).2.1
  split at h
  .rename_i hc
   obtain⟨o,p,q,B⟩:=OC f n _ (i+1+1) r c d e h
   have g:cs ts (i+1+1)=cs ts (i+1)+3:=by rw[mL,rC hc (.inr rfl)];rfl
   exact⟨o,p,q,by omega⟩
  obtain⟨j,o,h⟩:=bG h
  obtain⟨rfl,g⟩:=qX o
  obtain rfl:=(Sum.inr.inj h).symm
  have z:sClose.size=1:=rfl
  refine⟨c,d,e,?_⟩
  show cs ts i+rI (l++[(aC ts i).2.1])+1<=cs ts (i+1+1)+rI l
  omega
theorem XH(f:pQ ts){i:Nat}{r:Nat×List BA}(h:rY ts i= .inr r):(∀s∈r.2,cP s=true)/\iK r.2=false/\r.2.length<=8/\cs ts i+rI r.2+2<=cs ts r.1:=by
 obtain⟨j,k,h⟩:=bG h
 obtain⟨rfl,l⟩:=qX k
 have z:sOpen.size=1:=rfl
 split at h
 .rename_i hc
  obtain rfl:=(Sum.inr.inj h).symm
  have g:cs ts (i+1+1)=cs ts (i+1)+3:=by rw[mL,rC hc (.inr rfl)];rfl
  refine⟨fun s d=>(by cases d),rfl,kE _,?_⟩
  show cs ts i+0+2<=cs ts (i+1+1)
  omega
 obtain⟨a,b,c,e⟩:=OC f _ [] (i+1) r (fun s d=>by cases d) rfl (kE _) h
 exact⟨a,b,c,by show _+2<=_;have:rI []=0:=rfl;omega⟩
def OkL(d:Dl):Prop:=qG d=true/\uO d=false/\iK d.2.2.1=false/\iE d<=32
theorem qEg(l:List BA):(rH l).size<=rI l:=by
 rw[<-cV]
 exact CX _ 0
theorem qAc{s:BA}(h:eV s≠0):eV s=1/\s.size=4\/eV s=2/\s.size=4\/eV s=3/\s.size=3:=by
 unfold eV at h ⊢
 by_cases h1:s=zW
 .rw[if_pos h1,h1];exact .inl ⟨rfl,rfl⟩
 rw[if_neg h1] at h ⊢
 by_cases h2:s=zP
 .rw[if_pos h2,h2];exact .inr (.inl ⟨rfl,rfl⟩)
 rw[if_neg h2] at h ⊢
 by_cases h3:s=AD
 .rw[if_pos h3,h3];exact .inr (.inr ⟨rfl,rfl⟩)
 rw[if_neg h3] at h;exact absurd rfl h
theorem qEe(u:pQ ts){before:List Dl}{i:Nat}{r:Nat×Dl}(h:oD ts before i= .inr r):OkL r.2/\before.length≠64/\qR r.2∉before.map qR/\cs ts i+(lH r.2).length<=cs ts r.1:=by
 unfold oD at h
 simp only at h
 split at h
 .cases h
 rename_i hk
 have B:(aC ts i).1=1:=by
  refine Classical.byContradiction fun g=>hk (.inl g)
 have D:eV (aC ts i).2.1≠0:=fun g=>hk (.inr g)
 have Z:cs ts (i+1)=cs ts i+3*(aC ts i).2.1.size:=by rw[mL,GV B]
 have q:=qAc D
 generalize eV (aC ts i).2.1=k at h q
 split at h
 .cases h
 rename_i h64
 obtain⟨a,n,h⟩:=bG h
 split at h
 .cases h
 rename_i hany
 obtain⟨b,o,h⟩:=bG h
 obtain⟨j,A,h⟩:=bG h
 obtain⟨rfl,cj⟩:=qX A
 obtain⟨c,H,h⟩:=bG h
 obtain⟨m,R,h⟩:=bG h
 obtain⟨rfl,cm⟩:=qX R
 obtain rfl:=(Sum.inr.inj h).symm
 -- the name
 have p:rE (k,a.2.2.1,b.2,c.1.2)=true/\cs ts (i+1)+(if k=3 then 3*a.2.2.1.size+6 else 3*a.2.2.1.size)=cs ts a.1:=by
  by_cases k3:k=3
  .rw[if_pos k3] at n ⊢
   obtain⟨rfl,f,l⟩:=ptI n
   refine⟨?_,l.symm⟩
   unfold rE
   rw[if_neg (by simp only;omega),if_pos k3];exact f
  rw[if_neg k3] at n ⊢
  obtain⟨rfl,g,f,l⟩:=nmI n
  refine⟨?_,l.symm⟩
  unfold rE
  rw[if_pos (by simp only;omega)]
  unfold cP
  rw[(u (i+1)).1 g,f];rfl
 -- the parameters
 have y:(∀s∈b.2,k=1/\cP s=true)/\iK b.2=false/\b.2.length<=8/\cs ts a.1+(if k=1 then rI b.2+2 else 0)<=cs ts b.1:=by
  by_cases k1:k=1
  .rw[if_pos k1] at o ⊢
   obtain⟨p1,p2,p3,p4⟩:=XH u o
   exact⟨fun s l=>⟨k1,p1 s l⟩,p2,p3,by omega⟩
  rw[if_neg k1] at o ⊢
  obtain rfl:=(Sum.inr.inj o).symm
  exact⟨fun s l=>(by cases l),rfl,kE _,jJ _⟩
 obtain⟨p1,p2,p3,p4⟩:=y
 obtain⟨S,z⟩:=p
 -- the body
 obtain⟨t,t1,t2,U,V,E,Y⟩:=RU (ps:=b.2) u 32 1 rfl _ c (by show 0<=256;decide) H
 simp only[jL,jD,kG] at t2 U V E
 have f:sL c.1.2=some t:=by rw[t2];exact ZP t
 have M:c.1.2.length=t.size:=by rw[t2,eF]
 have z1:sEq.size=1:=rfl
 have z2:sSemi.size=1:=rfl
 refine⟨⟨?_,?_,p2,?_⟩,h64,?_,?_⟩
 .unfold qG xA zV
  simp only[jI,jV,kY]
  refine⟨S,p1,?_,?_⟩
  .intro x v
   rw[t2] at v
   exact qAf t1 0 x v
  rw[t2];exact qCn t
 .unfold uO xD
  simp only[f]
  have:=OB t 0 1
  simp only[kL,decide_eq_false_iff_not]
  exact⟨by omega,by omega,by omega⟩
 .unfold iE
  simp only[f]
  exact Y
 .intro v
  obtain⟨d,K,e⟩:=fJ.1 v
  refine hany (gR.2 ⟨d,K,?_⟩)
  have F:d.1=k:=congrArg Prod.fst e
  have G:d.2.1=a.2.2.1:=congrArg Prod.snd e
  rw[F,G]
  simp
 have v:rO (k,a.2.2.1,b.2,c.1.2)=t.wr b.2 0:=by
  unfold rO
  simp only[f]
 have y1:(⟨#[32,61,32]⟩:BA).size=3:=rfl
 have y2:(⟨#[59,10]⟩:BA).size=2:=rfl
 have F:cs ts i+(tK (k,a.2.2.1,b.2,c.1.2)).size<=cs ts b.1:=by
  have A:=qEg b.2
  have x1:(⟨#[102,117,110,99,32]⟩:BA).size=5:=rfl
  have G:(⟨#[40]⟩:BA).size=1:=rfl
  have K:(⟨#[41]⟩:BA).size=1:=rfl
  have x4:(⟨#[116,101,115,116,32]⟩:BA).size=5:=rfl
  have x5:(⟨#[103,101,110,32,34]⟩:BA).size=5:=rfl
  have x6:(⟨#[34]⟩:BA).size=1:=rfl
  unfold tK
  rcases q with ⟨rfl,l⟩|⟨rfl,l⟩|⟨rfl,l⟩
  .rw[if_neg (by decide)] at z
   rw[if_pos rfl] at p4
   rw[if_pos rfl]
   simp only[ByteArray.size_append];omega
  .rw[if_neg (by decide)] at z
   rw[if_neg (by decide)] at p4
   dsimp only
   rw[if_neg (by decide),if_pos rfl]
   simp only[ByteArray.size_append];omega
  rw[if_pos rfl] at z
  rw[if_neg (by decide)] at p4
  dsimp only
  rw[if_neg (by decide),if_neg (by decide)]
  simp only[ByteArray.size_append];omega
 unfold lH
 rw[v]
 simp only[j9,cV,ByteArray.size_append,CQ]
 try simp only at E
 omega
theorem NR(o:pQ ts){pkg:BA}:∀(n:Nat) (l:List BA) (i:Nat) (r:Nat×List BA),(∀s∈l,cP s=true)->iK l=false->pkg∉l->l.length<=8->pK ts pkg n l i= .inr r->
  (∀s∈r.2,cP s=true)/\iK r.2=false/\pkg∉r.2/\r.2.length<=8/\cs ts i+(r.2.flatMap lV).length<=cs ts r.1+(l.flatMap lV).length
 |0,_,_,_,_,_,_,_,h=>by cases h
 |n+1,l,i,r,c,d,f,x,h=>by
  unfold pK at h
  split at h
  .rename_i hi
   split at h
   .cases h
   rename_i h8
   obtain⟨a,y,h⟩:=bG h
   obtain⟨rfl,k,v,E⟩:=nmI y
   simp only at h
   split at h
   .cases h
   rename_i hno
   obtain⟨j,A,h⟩:=bG h
   obtain⟨rfl,cj⟩:=qX A
   have B:cP (aC ts (i+1)).2.1=true:=by unfold cP;rw[(o (i+1)).1 k,v];rfl
   obtain⟨p,q,t,u,D⟩:=NR o n _ _ r (fun s b=>by
    rcases kC.1 b with b|b
    .exact c s b
    .rw[jN.1 b];exact B) (JD d fun g=>hno (.inr g)) (fun g=>by
    rcases kC.1 g with g|g
    .exact f g
    exact hno (.inl (jN.1 g).symm)) (by rw[j9,jO];omega) h
   have c0:cs ts (i+1)=cs ts i+18:=by rw[mL,rC hi (.inl rfl)];rfl
   have z:sSemi.size=1:=rfl
   have y1:(⟨#[105,109,112,111,114,116,32]⟩:BA).size=7:=rfl
   have F:(⟨#[59,10]⟩:BA).size=2:=rfl
   have e:((l++[(aC ts (i+1)).2.1]).flatMap lV).length=(l.flatMap lV).length+(7+(aC ts (i+1)).2.1.size+2):=by
    rw[fK,j9]
    congr 1
    show(lV (aC ts (i+1)).2.1++[]).length=_
    rw[jS]
    unfold lV
    simp only[cV,ByteArray.size_append];omega
   exact⟨p,q,t,u,by omega⟩
  obtain rfl:=(Sum.inr.inj h).symm
  exact⟨c,d,f,x,jJ _⟩
theorem QF(g:pQ ts):∀(n:Nat) (l:List Dl) (i:Nat) (r:List Dl),(∀d∈l,OkL d)->iK (l.map qR)=false->l.length<=64->oK ts n l i= .inr r->
  (∀d∈r,OkL d)/\iK (r.map qR)=false/\r.length<=64/\∃e,cs ts i+(r.flatMap lH).length<=cs ts e+(l.flatMap lH).length
 |0,_,_,_,_,_,_,h=>by cases h
 |n+1,l,i,r,c,f,t,h=>by
  unfold oK at h
  split at h
  .obtain rfl:=(Sum.inr.inj h).symm
   exact⟨c,f,t,i,jJ _⟩
  obtain⟨a,u,h⟩:=bG h
  obtain⟨q,y,s,z⟩:=qEe g u
  obtain⟨k,o,p,e,v⟩:=QF g n _ _ r (fun d b=>by
   rcases kC.1 b with b|b
   .exact c d b
   rw[jN.1 b];exact q) (by rw[gM,List.map_singleton];exact JD f s) (by rw[j9,jO];omega) h
  refine⟨k,o,p,e,?_⟩
  have x:((l++[a.2]).flatMap lH).length=(l.flatMap lH).length+(lH a.2).length:=by
   rw[fK,j9]
   congr 1
   show(lH a.2++[]).length=_
   rw[jS]
  omega
theorem qCs(o:pQ ts){f:Sr}(h:rG ts= .inr f):mK f=0/\(∀d∈f.2.2,iE d<=32)/\∃e,(nD f).length<=cs ts e:=by
 unfold rG at h
 obtain⟨i,hi,h⟩:=bG h
 obtain⟨rfl,R⟩:=wdI hi
 obtain⟨a,x,h⟩:=bG h
 obtain⟨rfl,k,v,U⟩:=nmI x
 obtain⟨j,A,h⟩:=bG h
 obtain⟨rfl,r⟩:=qX A
 obtain⟨b,y,h⟩:=bG h
 obtain⟨l,B,h⟩:=bG h
 obtain rfl:=(Sum.inr.inj h).symm
 have D:cP (aC ts (0+1)).2.1=true:=by unfold cP;rw[(o (0+1)).1 k,v];rfl
 obtain⟨E,F,G,V,q⟩:=NR o _ [] _ b (fun s p=>by cases p) rfl (fun g=>by cases g) (kE _) y
 obtain⟨n,t,S,e,u⟩:=QF o _ [] _ l (fun s p=>by cases p) rfl (kE _) B
 refine⟨?_,fun d c=>(n d c).2.2.2,e,?_⟩
 .have H:tQ ((aC ts (0+1)).2.1,b.2,l)=true:=by
   unfold tQ
   simp only[jI,jV]
   exact⟨D,E,fun d c=>(n d c).1⟩
  have K:tF ((aC ts (0+1)).2.1,b.2,l)=false:=by
   unfold tF
   simp only[kL,fZ,decide_eq_false_iff_not]
   exact⟨fun d c=>by rw[(n d c).2.2.1];exact jY,G,F,t⟩
  have M:uR ((aC ts (0+1)).2.1,b.2,l)=false:=by
   unfold uR
   simp only[kL,fZ,decide_eq_false_iff_not]
   exact⟨by omega,by omega,fun d c=>by rw[(n d c).2.1];exact jY⟩
  unfold mK
  rw[if_pos H,K,M]
  rfl
 have z:sPackage.size=7:=rfl
 have K:sSemi.size=1:=rfl
 have y1:(⟨#[112,97,99,107,97,103,101,32]⟩:BA).size=8:=rfl
 have H:(⟨#[59,10]⟩:BA).size=2:=rfl
 unfold nD rK
 simp only[j9,cV,ByteArray.size_append]
 simp only[dD,jD,gX] at q u
 simp only at r q
 omega
end
theorem OZ:∀(n:Nat) (ds:List UInt8),ds.length=n->(∀c∈ds,kd c=2)->0<=lU ds/\lU ds<((10^ds.length:Nat):Int)
 |0,ds,b,_=>by
  obtain rfl:=gC.1 b
  exact⟨by decide,by decide⟩
 |n+1,ds,b,d=>by
  rcases fW ds with rfl|⟨a,c,rfl⟩
  .cases b
  rw[fX] at*
  have e:a.length=n:=by simpa using b
  obtain⟨k,l⟩:=OZ n a e fun x g=>d x (jW _ g)
  have h:=JL c (d c (kH _ (jN.2 rfl)))
  have f:(10^(a++[c]).length:Nat)=10^a.length*10:=by rw[j9,jO,Nat.pow_succ]
  rw[FW,f]
  unfold xH
  split<;>omega
def UO(t:bH):Prop:=(t.1=1->iT t.2.1=true)/\(t.1=2->0<=t.2.2.1/\t.2.2.1<=9007199254740992)
theorem qBz{s:BA}{i:Nat}(a:Int)(hi:i<s.data.toList.length)(h:(dZ s i).2.2=0):UO ((dZ s i).1.1,(dZ s i).1.2.1,(dZ s i).1.2.2.1,a)/\co ((dZ s i).1.1,(dZ s i).1.2.1,(dZ s i).1.2.2.1,a)+3*i<=3*(dZ s i).2.1.toNat:=by
 have t:=lB s
 unfold dZ at h ⊢
 rw[nQ hi] at h ⊢
 by_cases h1:kd (s.data.toList[i])=1
 .rw[if_pos h1] at h ⊢
  split at h
  .cases h
  rename_i h24
  rw[if_neg h24]
  have f:=nJ (p:=bI [1,2,3]) (l:=s.data.toList) (a:=i) (by omega)
  have k:=uN (p:=bI [1,2,3]) hi (DD (by simp) h1)
  have d:(s.extract i (tw (bI [1,2,3]) s.data.toList i)).size=tw (bI [1,2,3]) s.data.toList i-i:=by rw[ByteArray.size_extract];omega
  refine⟨⟨fun _=> ?_,fun h=>by cases h⟩,?_⟩
  .show iT (s.extract i (tw (bI [1,2,3]) s.data.toList i))=true
   have g:(s.extract i (tw (bI [1,2,3]) s.data.toList i)).data.toList.length=tw (bI [1,2,3]) s.data.toList i-i:=by rw[<-d,cV]
   have b:=MY (s:=s) (p:=bI [1,2,3]) (i:=i)
   generalize s.extract i (tw (bI [1,2,3]) s.data.toList i)=X at g b
   unfold iT
   refine kS ⟨by omega,by omega,?_,?_⟩
   .rw[b,yY hi,gL (DD (by simp) h1)]
    exact h1
   show 0+((X.data.toList.drop 0).takeWhile (bI [1,2,3])).length=X.data.toList.length
   have e:=FM (p:=bI [1,2,3]) (a:=(s.data.toList.drop i).takeWhile (bI [1,2,3])) (r:=[]) (fun x d=>LK x d) (fun x q h=>by cases h)
   rw[jS] at e
   rw[kJ,kG,b,e]
  show 3*(s.extract i (tw (bI [1,2,3]) s.data.toList i)).size+3*i<=3*(tw (bI [1,2,3]) s.data.toList i)
  omega
 rw[if_neg h1] at h ⊢
 by_cases h2:kd (s.data.toList[i])=2
 .rw[if_pos h2] at h ⊢
  split at h
  .cases h
  rename_i h24
  rw[if_neg h24]
  have k:=uN (p:=bI [2]) hi (DD (by simp) h2)
  have g:tw (bI [2]) s.data.toList i=i+((s.data.toList.drop i).takeWhile (bI [2])).length:=rfl
  have b:∀c∈(s.data.toList.drop i).takeWhile (bI [2]),kd c=2:=fun c e=>by
   have:=jV.1 (List.all_takeWhile (p:=bI [2]) (l:=s.data.toList.drop i)) c e
   exact GQ.1 this
  obtain⟨d,n⟩:=OZ _ _ rfl b
  generalize (s.data.toList.drop i).takeWhile (bI [2])=ds at*
  refine⟨⟨fun h=>(by cases h),fun _=>⟨d,by show lU ds<=_;omega⟩⟩,?_⟩
  show 3*(Lib.decDigits (lU ds).toNat).length+3*i<=3*(tw (bI [2]) s.data.toList i)
  have o:=GW (ds.length-1) (lU ds).toNat (by
   rw[show ds.length-1+1=ds.length by omega];omega)
  omega
 rw[if_neg h2] at h ⊢
 by_cases h7:kd (s.data.toList[i])=7
 .rw[if_pos h7] at h ⊢
  split at h
  .rename_i h24
   rw[if_pos h24]
   have f:=nJ (p:=lK) (l:=s.data.toList) (a:=i+1) (by omega)
   have b:tw lK s.data.toList (i+1)<s.data.toList.length:=JX (by rw[h24];decide)
   refine⟨⟨fun h=>(by cases h),fun h=>by cases h⟩,?_⟩
   show 3*(s.extract (i+1) (tw lK s.data.toList (i+1))).size+6+3*i<=3*(tw lK s.data.toList (i+1)+1)
   rw[ByteArray.size_extract];omega
  cases h
 rw[if_neg h7] at h ⊢
 by_cases h8:kd (s.data.toList[i])=8
 .rw[if_pos h8] at h ⊢
  refine⟨⟨fun h=>(by cases h),fun h=>by cases h⟩,?_⟩
  show 3*(s.extract i (oM s.data.toList i)).size+3*i<=3*(oM s.data.toList i)
  rw[ByteArray.size_extract]
  have:i<=oM s.data.toList i:=by unfold oM;split<;>omega
  omega
 rw[if_neg h8] at h
 cases h
theorem IY{s:BA}:∀(k i:Nat) (r:List bH),i<=s.data.toList.length->s.data.toList.length<i+k->lW k s i= .inr r->(∀t∈r,UO t)/\(r.map co).sum+3*i<=3*s.data.toList.length
 |0,i,r,v,B,c=>by omega
 |k+1,i,r,v,B,c=>by
  have D:=nJ (p:=bI [5]) (l:=s.data.toList) (a:=i) v
  simp only[lW] at c
  generalize hE:tw (bI [5]) s.data.toList i=a at D c
  split at c
  .obtain rfl:=(Sum.inr.inj c).symm
   refine⟨fun t f=> ?_,?_⟩
   .rw[jN.1 f]
    exact⟨fun h=>(by cases h),fun h=>by cases h⟩
   show 0+0+3*i<=_
   omega
  rename_i he
  have d:a<s.data.toList.length:=by omega
  split at c
  .rename_i h6
   have n:=nJ (p:=eM) (l:=s.data.toList) (a:=a) (by omega)
   have g:=uN (p:=eM) d (by
    rw[nQ d] at h6
    simp only[eM,dF,ne_eq]
    intro e;rw[e] at h6;exact absurd h6 (by decide))
   obtain⟨o,A⟩:=IY k _ r n.2 (by omega) c
   exact⟨o,by omega⟩
  split at c
  .cases c
  rename_i g
  have g:(dZ s a).2.2=0:=by simpa using g
  obtain⟨b,y,n,z,-⟩:=GO d g
  obtain⟨E,F⟩:=qBz (a:Int) d g
  rw[y,jU] at c F
  cases u:lW k s b with
  |inl x=>rw[u] at c;cases c
  |inr q=>
   rw[u] at c
   obtain rfl:=(Sum.inr.inj c).symm
   obtain⟨o,A⟩:=IY k b q z (by omega) u
   refine⟨fun t f=> ?_,?_⟩
   .rcases jT.1 f with rfl|f
    .exact E
    exact o t f
   rw[jZ,fY];omega
theorem ZH{s:BA}(h:(iQ s).2.2=0):pQ (iQ s).1/\∀e,cs (iQ s).1 e<=3*s.size:=by
 have d:=lB s
 unfold iQ at h ⊢
 split at h
 .cases h
 rename_i hl
 rw[if_neg hl]
 cases hG:lW (s.data.toList.length+1) s 0 with
 |inl x=>
  rw[hG] at h
  exact absurd h (GH _ 0 x (by omega) (by omega) hG).2.2
 |inr r=>
  obtain⟨a,b⟩:=IY _ 0 r (by omega) (by omega) hG
  show pQ ([]++r)/\∀e,cs ([]++r) e<=3*s.size
  rw[jL]
  refine⟨fun i=> ?_,fun e=> ?_⟩
  .by_cases hi:i<r.length
   .have e:aC r i=r[i]:=by
     unfold aC
     rw[jP,List.getElem?_eq_getElem hi];rfl
    rw[e]
    exact a _ (jX hi)
   have e:aC r i=(5,⟨#[]⟩,0,0):=by
    unfold aC
    rw[jP,List.getElem?_eq_none (by omega)];rfl
   rw[e]
   exact⟨fun h=>(by cases h),fun h=>by cases h⟩
  unfold cs
  have c:(r.map co).sum=((r.take e).map co).sum+((r.drop e).map co).sum:=by
   rw[<-List.sum_append,<-gM,gI]
  omega
def NZ{α:Type}(x:dL⊕α):Prop:=∀z,x= .inl z->z.2≠0
theorem NZ.ok{α:Type}{a:α}:NZ (.inr a:dL⊕α):=fun z h=>by cases h
theorem NZ.fail{α:Type}{t:bH}{e:Int}(a:e≠0):NZ (eX t e:dL⊕α):=fun z h=>by
 obtain rfl:=Sum.inl.inj h
 exact a
theorem NZ.bind{α β:Type}{x:dL⊕α}{f:α->dL⊕β}(h:NZ x)(c:∀a,NZ (f a)):NZ (bF x f):=fun z b=>by
 cases x with
 |inl y=>
  obtain rfl:=Sum.inl.inj (show(Sum.inl y:dL⊕β)= .inl z from b)
  exact h _ rfl
 |inr a=>exact c a z b
theorem NZ.ite{α:Type}{c:Prop}[Decidable c]{x y:dL⊕α}(a:NZ x)(b:NZ y):NZ (if c then x else y):=by
 split
 .exact a
 exact b
section
variable {ts:List bH} {ps:List BA} {E S:Ps->PM Nat}
theorem qP{s:BA}{i:Nat}:NZ (eK ts s i):= .ite .ok (.fail (by decide))
theorem LM{s:BA}{i:Nat}:NZ (oL ts s i):= .ite .ok (.fail (by decide))
theorem DO{k:Int}{i:Nat}:NZ (mC ts k i):= .ite .ok (.fail (by decide))
theorem HC{i:Nat}:NZ (nI ts i):= .bind DO fun _=> .ite (.fail (by decide)) .ok
theorem HB{i:Nat}:NZ (nT ts i):= .bind DO fun _=> .ite .ok (.fail (by decide))
theorem qFw{i:Nat}:NZ (wZ ts i):= .bind DO fun _=> .ite .ok (.fail (by decide))
theorem wW{t:bH}{x:Ex}{p:Ps}:NZ (iB t x p):= .ite (.fail (by decide)) .ok
theorem TO(a:∀p,NZ (E p)):∀(n:Nat) (l:List Int) (p:Ps),NZ (qT ts E n l p)
 |0,_,_=> .fail (by decide)
 |n+1,_,p=> .bind (a p) fun _=> .ite (TO a n _ _) (.bind qP fun _=> .ok)
theorem YY(a:∀p,NZ (E p))(p:Ps):NZ (oY ts E p):= .bind qP fun _=> .ite .ok (TO a _ _ _)
theorem qBt(a:∀p,NZ (E p))(t:bH)(p:Ps):NZ (nP ts E t p):=
 .bind qP fun _=> .bind (.ite (.bind HB fun _=> .bind qP fun _=> .bind (a _) fun _=> .ok) (.ite (.bind HB fun _=> .ok) (.ite (.bind HB fun _=> .ok) (.ite (.bind qFw fun _=> .ok) (.bind DO fun _=> .ite (.fail (by decide)) .ok))))) fun _=> .bind qP fun _=>wW
theorem qDt(a:∀p,NZ (E p))(p:Ps):NZ (iP ts ps E p):=by
 unfold iP
 refine .ite wW (.ite (.bind DO fun _=>wW) (.ite (.bind (a _) fun _=> .bind qP fun _=> .ok) (.ite (.fail (by decide)) (.ite (qBt a _ _) (.ite (.fail (by decide)) (.ite (.bind (YY a _) fun _=>wW) ?_))))))
 split
 .exact wW
 exact .fail (by decide)
theorem UE{level:Nat}(a:∀p,NZ (S p)):∀(n x:Nat) (p:Ps),NZ (mN ts level S n x p)
 |0,_,_=> .fail (by decide)
 |n+1,_,p=> .ite .ok (.bind (a _) fun _=> .bind wW fun _=> .ite .ok (UE a n _ _))
theorem KY{level:Nat}(a:∀p,NZ (S p))(p:Ps):NZ (oA ts level S p):= .bind (a p) fun _=>UE a _ _ _
theorem DT:∀(k:Nat) (p:Ps),NZ (cG ts ps k p)
 |0,_=> .fail (by decide)
 |k+1,p=> .ite (.bind (DT k _) fun _=> .bind LM fun _=> .bind (DT k _) fun _=> .bind LM fun _=> .bind (DT k _) fun _=>wW) (KY (KY (KY (qDt (DT k)))) p)
theorem QX:∀(n:Nat) (l:List BA) (i:Nat),NZ (sJ ts n l i)
 |0,_,_=> .fail (by decide)
 |n+1,_,_=> .bind HC fun _=> .ite (.fail (by decide)) (.ite (.fail (by decide)) (.ite (QX n _ _) (.bind qP fun _=> .ok)))
theorem qHb(before:List Dl)(i:Nat):NZ (oD ts before i):=by
 unfold oD
 refine .ite (.fail (by decide)) (.ite (.fail (by decide)) (.bind (.ite HB HC) fun _=> .ite (.fail (by decide)) (.bind (.ite (.bind qP fun _=> .ite .ok (QX _ _ _)) .ok) fun _=> .bind qP fun _=> .bind (DT _ _) fun _=> .bind qP fun _=> .ok)))
theorem PR{pkg:BA}:∀(n:Nat) (l:List BA) (i:Nat),NZ (pK ts pkg n l i)
 |0,_,_=> .fail (by decide)
 |n+1,_,_=> .ite (.ite (.fail (by decide)) (.bind HC fun _=> .ite (.fail (by decide)) (.bind qP fun _=>PR n _ _))) .ok
theorem SQ:∀(n:Nat) (l:List Dl) (i:Nat),NZ (oK ts n l i)
 |0,_,_=> .fail (by decide)
 |n+1,_,_=> .ite .ok (.bind (qHb _ _) fun _=>SQ n _ _)
theorem UA:NZ (rG ts):= .bind LM fun _=> .bind HC fun _=> .bind qP fun _=> .bind (PR _ _ _) fun _=> .bind (SQ _ _ _) fun _=> .ok
end
theorem qBj{s:BA}{f:Sr}(h:iR s=(f,0,0)):mK f=0/\(∀d∈f.2.2,iE d<=32)/\(nD f).length<=3*s.size:=by
 unfold iR at h
 split at h
 .rename_i hn
  exact absurd (congrArg (fun z=>z.2.2) h) hn
 rename_i k
 have k:(iQ s).2.2=0:=by simpa using k
 obtain⟨l,n⟩:=ZH k
 split at h
 .rename_i z hz0
  exact absurd (congrArg (fun y=>y.2.2) h) (UA z hz0)
 rename_i g hg
 obtain rfl:g=f:=congrArg (fun z=>z.1) h
 obtain⟨a,b,e,c⟩:=qCs l hg
 exact⟨a,b,Nat.le_trans c (n e)⟩
def pL(x:Ex):Prop:=x.2.2.2.1.size<=12/\x.2.2.2.2.length<=12
section
variable {β:Type} {Q:β->Prop}
theorem Ok.chk{α:Type}{l:List α}{lo hi:Int}{f:Unit->Option β}(a:0<=lo)(b:lo<=hi)(c:hi<=l.length)(h:Ok (f ()) Q):Ok ((xG l lo hi).bind f) Q:=by
 unfold xG
 rw[if_pos ⟨a,b,c⟩];exact h
theorem Ok.appM{α:Type}{b:Nat}{l:List α}{f:List α->Option β}(a:l.length*b<=140737488355328)(c:l.length<=1000000)(h:Ok (f l) Q):Ok ((appM b l).bind f) Q:=by
 unfold Dc.appM
 rw[if_pos ⟨a,by simp only[maxLen];omega⟩];exact h
theorem Ok.sub{α:Type}{l:List α}{hi:Int}{f:List α->Option β}(a:0<=hi)(b:hi<=l.length)(h:Ok (f (l.take hi.toNat)) Q):Ok ((mR l 0 hi).bind f) Q:=by
 rw[GC (gZ 0) a b];exact h
theorem Ok.idx{α:Type}{l:List α}{i:Int}{f:α->Option β}(a:0<=i)(b:i<l.length)(h:∀x∈l,Ok (f x) Q):Ok ((idx l i).bind f) Q:=by
 rw[DF a (by omega)];exact h _ (jX _)
end
variable {N:Nat} {l:List Int}
def SmallO(l:List Int)(a:Int)(o:Int×Int×Int×Int×BA×List Int×Int):Prop:=
 ∃a',o.2.2.2.2.2=(l,a')/\a<=a'/\a'<=a+3/\0<=o.1/\o.1<=3/\o.2.2.2.2.1.size<=12
theorem SmallO.mk{a b n kd nu op:Int}{nm:BA}(c:a<=b)(d:b<=a+3)(e:0<=n)(f:n<=3)(g:nm.size<=12):SmallO l a (n,kd,nu,op,nm,l,b):=⟨b,rfl,c,d,e,f,g⟩
theorem ZO{p a:Int}{s:List Ex×List Int×Int×List Int×Int}{k:Int}(hp:0<=p)(a5:p<=1000000)(h0:0<=a)(h1:a<1000000000000000000)(hk:1<=k/\k<=12)
  (Z:∃a',s.2.2.2=(l,a')/\a<=a'/\a'<=a+10*(k-s.2.2.1)/\0<=s.2.2.1/\(s.1.length:Int)+s.2.2.1=k/\s.2.1.length<=s.1.length/\(∀x∈s.1,pL x)/\(s.1≠[]->s.2.1≠[])):
  Ok (BR N p s) fun r=>match r with
   | .inl s'=>(∃a',s'.2.2.2=(l,a')/\a<=a'/\a'<=a+10*(k-s'.2.2.1)/\0<=s'.2.2.1/\(s'.1.length:Int)+s'.2.2.1=k/\s'.2.1.length<=s'.1.length/\(∀x∈s'.1,pL x)/\(s'.1≠[]->s'.2.1≠[]))/\s'.2.2.1.toNat<s.2.2.1.toNat
   | .inr b=>∃a',b.2.2=(l,a')/\a<=a'/\a'<=a+200/\1<=b.1.length/\b.1.length<=12/\b.2.1.length<=b.1.length/\(∀x∈b.1,pL x):=by
 obtain⟨L,st,i,l',a'⟩:=s
 obtain⟨a1,d,v,y,S,U,A,f,V⟩:=Z
 simp only[Prod.mk.injEq] at d
 obtain⟨rfl,rfl⟩:=d
 dsimp only at v y S U A f V
 unfold BR
 dsimp only
 by_cases hi:i>0
 .rw[if_pos (by simpa using hi)]
  refine Ok.pick (by omega) (by omega) (by decide) (by decide) fun kd a4=> ?_
  dsimp only
  have c:(⟨#[]⟩:BA).size<=12:=by decide
  refine Ok.bind (P:=SmallO l' a') ?_ fun o2 B=> ?_
  .refine Ok.ite (fun _=>Ok.pick (by omega) (by omega) (by decide) (by decide) fun z _=> ?_) fun _=> ?_
   .dsimp only;exact Ok.mk (SmallO.mk (by omega) (by omega) (by omega) (by omega) c)
   refine Ok.ite (fun _=>Ok.ite (fun _=>Ok.mk (SmallO.mk (by omega) (by omega) (by omega) (by omega) c)) fun e=>Ok.next (by omega) (by omega) (by simp at e;omega) (by omega) fun r _ _=> ?_) fun _=> ?_
   .dsimp only;exact Ok.mk (SmallO.mk (by omega) (by omega) (by omega) (by omega) c)
   refine Ok.ite (fun _=>Ok.oneS (by omega) (by omega) (by decide) fun z e=> ?_) fun _=> ?_
   .dsimp only
    refine Ok.next (by omega) (by omega) (by omega) (by omega) fun r g h=> ?_
    dsimp only
    exact Ok.mk (SmallO.mk (by omega) (by omega) g (by omega) e)
   refine Ok.ite (fun _=>Ok.next (by omega) (by omega) (by omega) (by omega) fun r g h=> ?_) fun _=> ?_
   .dsimp only;exact Ok.mk (SmallO.mk (by omega) (by omega) (by omega) (by omega) c)
   refine Ok.ite (fun _=>Ok.mk (SmallO.mk (by omega) (by omega) (by omega) (by omega) c)) fun _=> ?_
   refine Ok.ite (fun _=>Ok.mk (SmallO.mk (by omega) (by omega) (by omega) (by omega) (by decide))) fun _=> ?_
   refine Ok.bind (P:=fun _=>True) (Ok.ite (fun _=>Ok.mk trivial) fun _=>Ok.mk trivial) fun b _=> ?_
   refine Ok.ite (fun _=>Ok.mk (SmallO.mk (by omega) (by omega) (by omega) (by omega) (by decide))) fun _=> ?_
   refine Ok.ite (fun _=>Ok.mk (SmallO.mk (by omega) (by omega) (by omega) (by omega) (by decide))) fun _=> ?_
   refine Ok.ite (fun _=>Ok.next (by omega) (by omega) (by omega) (by omega) fun r g h=> ?_) fun _=>Ok.mk (SmallO.mk (by omega) (by omega) (by omega) (by omega) c)
   dsimp only;exact Ok.mk (SmallO.mk (by omega) (by omega) (by omega) (by omega) c)
  obtain⟨n,a8,nu,op,nm,l2,F⟩:=o2
  obtain⟨a3,d,G,H,h,q,t⟩:=B
  simp only[Prod.mk.injEq] at d
  obtain⟨rfl,rfl⟩:=d
  dsimp only at G H h q t
  dsimp only
  refine Ok.bind (P:=fun o:Int×Int×Int×Int×BA=>0<=o.1/\o.1<=3/\o.1<=st.length/\o.2.2.2.2.size<=12) (Ok.ite (fun _=>Ok.mk ⟨gZ 0,by show(0:Int)<=3;omega,by show(0:Int)<=_;omega,c⟩) fun Y=>Ok.mk ⟨h,q,by simp at Y;dsimp only;omega,t⟩) fun o4 D=> ?_
  obtain⟨g,a9,b1,b2,b0⟩:=o4
  obtain⟨K,M,R,u⟩:=D
  dsimp only at K M R u
  dsimp only
  have a6:(st.length:Int)<=12:=by omega
  rw[bT (x:=(st.length:Int)-g) (by omega) (by omega),bT (x:=i-1) (by omega) (by omega)]
  refine Ok.chk (by omega) (by omega) (by omega) ?_
  have E:(List.drop ((st.length:Int)-g).toNat (List.take (st.length:Int).toNat st)).length<=12:=by
   rw[kZ,kX];omega
  refine Ok.appM (by omega) (by omega) ?_
  refine Ok.sub (by omega) (by omega) ?_
  have a7:(List.take ((st.length:Int)-g).toNat st).length<=st.length:=by rw[kX];omega
  refine Ok.app (by simp only[jO];omega) (by decide) ?_
  refine Ok.app (by simp only[jO];omega) (by decide) ?_
  refine Ok.mk ⟨⟨F,rfl,by first|omega|(dsimp only;omega),by first|omega|(dsimp only;omega),by first|omega|(dsimp only;omega),by simp only[j9,jO];omega,by simp only[j9,jO];omega,fun x e=> ?_,fun _=>by simp⟩,by first|omega|(dsimp only;omega)⟩
  rcases kC.1 e with e|e
  .exact f x e
  rw[jN.1 e];exact⟨u,E⟩
 rw[if_neg (by simpa using hi)]
 exact Ok.mk ⟨a',rfl,v,by first|omega|(dsimp only at y ⊢;omega),by first|omega|(dsimp only;omega),by first|omega|(dsimp only;omega),A,f⟩
theorem ZT{a:Int}{s:List Ex×List Int×List Int×Int}(q:0<=a)(t:a<1000000000000000000)
  (n:∃a',s.2.2=(l,a')/\a<=a'/\a'+s.2.1.length<=a+300/\1<=s.1.length/\s.1.length+s.2.1.length<=24/\(∀x∈s.1,pL x)):
  Ok (BL N s) fun r=>match r with
   | .inl s'=>(∃a',s'.2.2=(l,a')/\a<=a'/\a'+s'.2.1.length<=a+300/\1<=s'.1.length/\s'.1.length+s'.2.1.length<=24/\(∀x∈s'.1,pL x))/\s'.2.1.length<s.2.1.length
   | .inr b=>∃a',b.2=(l,a')/\a<=a'/\a'<=a+300/\1<=b.1.length/\b.1.length<=24/\(∀x∈b.1,pL x):=by
 obtain⟨L,st,l',a'⟩:=s
 obtain⟨p,g,e,h,f,k,d⟩:=n
 simp only[Prod.mk.injEq] at g
 obtain⟨rfl,rfl⟩:=g
 dsimp only at e h f k d
 unfold BL
 dsimp only
 by_cases hi:(st.length:Int)>1
 .rw[if_pos (by simpa using hi)]
  rw[bT (x:=(st.length:Int)-2) (by omega) (by omega),bT (x:=(st.length:Int)-1) (by omega) (by omega)]
  refine Ok.idx (by omega) (by omega) fun x1 _=> ?_
  refine Ok.idx (by omega) (by omega) fun y _=> ?_
  refine Ok.next (by omega) (by omega) (by omega) (by omega) fun r u v=> ?_
  dsimp only
  refine Ok.app (by simp only[jO];omega) (by decide) ?_
  refine Ok.sub (by omega) (by omega) ?_
  have o:(List.take ((st.length:Int)-2).toNat st).length+2=st.length:=by rw[kX];omega
  refine Ok.app (by simp only[jO];omega) (by decide) ?_
  refine Ok.mk ⟨⟨_,rfl,by first|omega|(dsimp only;omega),?_,?_,?_,fun x c=> ?_⟩,?_⟩
  .simp only[j9,jO];omega
  .simp only[j9,jO];omega
  .simp only[j9,jO];omega
  .rcases kC.1 c with c|c
   .exact d x c
   rw[jN.1 c];exact⟨by show(0:Nat)<=12;decide,by show 2<=12;decide⟩
  simp only[j9,jO];omega
 rw[if_neg (by simpa using hi)]
 exact Ok.mk ⟨a',rfl,e,by omega,f,by first|omega|(dsimp only;omega),d⟩
theorem qFh{p a:Int}(D:0<=p)(o:p<=1000000)(B:0<=a)(U:a<100000000000000000)(V:3000<N):
  Ok (CB N (l,a) p) fun y=>∃a' L,y=((l,a'),L)/\a<=a'/\a'<=a+1000/\1<=L.length/\L.length<=24/\∀x∈L,pL x:=by
 unfold CB
 refine Ok.next B (by omega) (by omega) (by omega) fun r Z q2=> ?_
 dsimp only
 rw[bT (x:=1+r) (by omega) (by omega)]
 refine Ok.loop (fun s=>∃a',s.2.2.2=(l,a')/\a+1<=a'/\a'<=(a+1)+10*((1+r)-s.2.2.1)/\0<=s.2.2.1/\(s.1.length:Int)+s.2.2.1=1+r/\s.2.1.length<=s.1.length/\(∀x∈s.1,pL x)/\(s.1≠[]->s.2.1≠[])) (fun s=>s.2.2.1.toNat) (fun b=>∃a',b.2.2=(l,a')/\a+1<=a'/\a'<=a+1+200/\1<=b.1.length/\b.1.length<=12/\b.2.1.length<=b.1.length/\(∀x∈b.1,pL x)) (fun s e=>(ZO (N:=N) (a:=a+1) D o (by omega) (by omega) ⟨by omega,by omega⟩ e).mono fun r h=>by cases r<;>exact h) ⟨_,rfl,by omega,by first|omega|(dsimp only;omega),by first|omega|(dsimp only;omega),by simp,jJ _,fun x E=>by simp at E,fun h=>absurd rfl h⟩ (by first|omega|(dsimp only;omega)) fun F k=> ?_
 obtain⟨L,st,l',a'⟩:=F
 obtain⟨H,d,q,t,f,u,v,g⟩:=k
 simp only[Prod.mk.injEq] at d
 obtain⟨rfl,rfl⟩:=d
 dsimp only at q t f u v g
 refine Ok.loop (fun s=>∃c,s.2.2=(l',c)/\a'<=c/\c+s.2.1.length<=a'+300/\1<=s.1.length/\s.1.length+s.2.1.length<=24/\(∀x∈s.1,pL x)) (fun s=>s.2.1.length) (fun b=>∃c,b.2=(l',c)/\a'<=c/\c<=a'+300/\1<=b.1.length/\b.1.length<=24/\(∀x∈b.1,pL x)) (fun s e=>(ZT (N:=N) (a:=a') (by omega) (by omega) e).mono fun r h=>by cases r<;>exact h) ⟨_,rfl,gZ _,by first|omega|(dsimp only;omega),f,by first|omega|(dsimp only;omega),g⟩ (by first|omega|(dsimp only;omega)) fun G n=> ?_
 obtain⟨L5,Y,K⟩:=G
 obtain⟨M,d,R,S,e3,z,A⟩:=n
 simp only[Prod.mk.injEq] at d
 obtain⟨rfl,rfl⟩:=d
 exact Ok.mk ⟨_,_,rfl,by omega,by omega,e3,z,A⟩
def SmallD(d:Dl):Prop:=d.2.1.size<=12/\d.2.2.1.length<=8/\d.2.2.2.length<=24/\∀x∈d.2.2.2,pL x
theorem TE{α:Type}{P:α->Prop}{L:List α}{j:Nat}{x:α}(h:∀y∈L,P y)(b:P x):∀y∈L.set j x,P y:=fun y c=>by
 rcases List.mem_or_eq_of_mem_set c with a|a
 .exact h y a
 rw[a];exact b
theorem SmallD.sm{d:Dl}(h:SmallD d):EI d:=⟨by have:=h.1;omega,by have:=h.2.1;omega,by have:=h.2.2.1;omega,fun x a=>⟨by have:=(h.2.2.2 x a).1;omega,by have:=(h.2.2.2 x a).2;omega⟩⟩
theorem ZX{a:Int}{s:Int×List Int×Int×List BA}(p:0<=a)(q:a<1000000000000000000)
  (k:∃a',(s.2.1,s.2.2.1)=(l,a')/\a<=a'/\a'<=a+(3-s.1)/\0<=s.1/\s.1<=3/\(s.2.2.2.length:Int)+s.1<=3):
  Ok (BQ N s) fun r=>match r with
   | .inl s'=>(∃a',(s'.2.1,s'.2.2.1)=(l,a')/\a<=a'/\a'<=a+(3-s'.1)/\0<=s'.1/\s'.1<=3/\(s'.2.2.2.length:Int)+s'.1<=3)/\s'.1.toNat<s.1.toNat
   | .inr b=>∃a',(b.1,b.2.1)=(l,a')/\a<=a'/\a'<=a+3/\b.2.2.length<=3:=by
 obtain⟨n,l',a',ps⟩:=s
 obtain⟨o,d,c,e,f,g,h⟩:=k
 simp only[Prod.mk.injEq] at d
 obtain⟨rfl,rfl⟩:=d
 dsimp only at c e f g h
 unfold BQ
 dsimp only
 by_cases hn:n>0
 .rw[if_pos (by simpa using hn)]
  refine Ok.oneS (by omega) (by omega) (by decide) fun x t=> ?_
  dsimp only
  refine Ok.app (by simp only[jO];omega) (by decide) ?_
  rw[bT (x:=n-1) (by omega) (by omega)]
  exact Ok.mk ⟨⟨a'+1,rfl,by omega,by first|omega|(dsimp only;omega),by first|omega|(dsimp only;omega),by first|omega|(dsimp only;omega),by simp only[j9,jO];omega⟩,by first|omega|(dsimp only;omega)⟩
 rw[if_neg (by simpa using hn)]
 exact Ok.mk ⟨a',rfl,c,by omega,by first|omega|(dsimp only;omega)⟩
theorem ZS{a:Int}{s:Int×List Int×Int×List Dl}(V:0<=a)(Y:a<10000000000000000)(G:3000<N)
  (p:∃a',(s.2.1,s.2.2.1)=(l,a')/\a<=a'/\a'<=a+2000*(3-s.1)/\0<=s.1/\s.1<=3/\(s.2.2.2.length:Int)+s.1<=3/\∀d∈s.2.2.2,SmallD d/\1<=d.2.2.2.length/\d.2.2.1.length<=3):
  Ok (BS N s) fun r=>match r with
   | .inl s'=>(∃a',(s'.2.1,s'.2.2.1)=(l,a')/\a<=a'/\a'<=a+2000*(3-s'.1)/\0<=s'.1/\s'.1<=3/\(s'.2.2.2.length:Int)+s'.1<=3/\∀d∈s'.2.2.2,SmallD d/\1<=d.2.2.2.length/\d.2.2.1.length<=3)/\s'.1.toNat<s.1.toNat
   | .inr b=>∃a',(b.1,b.2.1)=(l,a')/\a<=a'/\a'<=a+6000/\b.2.2.length<=3/\∀d∈b.2.2,SmallD d/\1<=d.2.2.2.length/\d.2.2.1.length<=3:=by
 obtain⟨n,l',a',ds⟩:=s
 obtain⟨S,e,u,B,D,E,F,k⟩:=p
 simp only[Prod.mk.injEq] at e
 obtain⟨rfl,rfl⟩:=e
 dsimp only at u B D E F k
 unfold BS
 dsimp only
 by_cases hn:n>0
 .rw[if_pos (by simpa using hn)]
  refine Ok.next (by omega) (by omega) (by omega) (by omega) fun kd Z k2=> ?_
  dsimp only
  refine Ok.oneS (by omega) (by omega) (by decide) fun nm v=> ?_
  dsimp only
  refine Ok.bind (P:=fun o:List BA×List Int×Int=>∃g,o.2=(l',g)/\a'<=g/\g<=a'+10/\o.1.length<=3) (Ok.ite (fun _=> ?_) fun _=>Ok.mk ⟨_,rfl,by omega,by omega,by simp⟩) fun H y=> ?_
  .refine Ok.next (by omega) (by omega) (by omega) (by omega) fun r z M=> ?_
   dsimp only
   refine Ok.loop (fun s=>∃c,(s.2.1,s.2.2.1)=(l',c)/\a'+3<=c/\c<=(a'+3)+(3-s.1)/\0<=s.1/\s.1<=3/\(s.2.2.2.length:Int)+s.1<=3) (fun s=>s.1.toNat) (fun b=>∃c,(b.1,b.2.1)=(l',c)/\a'+3<=c/\c<=a'+3+3/\b.2.2.length<=3) (fun s p=>(ZX (N:=N) (a:=a'+3) (by omega) (by omega) p).mono fun r h=>by cases r<;>exact h) ⟨a'+1+1+1,rfl,by omega,by first|omega|(dsimp only;omega),z,by first|omega|(dsimp only;omega),by simp only[jD];omega⟩ (by first|omega|(dsimp only;omega)) fun o4 f=> ?_
   obtain⟨K,c,p4⟩:=o4
   obtain⟨A,e,q,t,e3⟩:=f
   simp only[Prod.mk.injEq] at e
   obtain⟨rfl,rfl⟩:=e
   exact Ok.mk ⟨c,rfl,by omega,by omega,e3⟩
  obtain⟨ps,l3,U⟩:=H
  obtain⟨c,e,q,t,e3⟩:=y
  simp only[Prod.mk.injEq] at e
  obtain⟨rfl,rfl⟩:=e
  dsimp only at q t e3
  dsimp only
  refine Ok.bind (qFh (by omega) (by omega) (by omega) (by omega) G) fun y9 z=> ?_
  obtain⟨A,L9,rfl,w1,w2,K,M,R⟩:=z
  dsimp only
  refine Ok.app (by simp only[jO];omega) (by decide) ?_
  rw[bT (x:=n-1) (by omega) (by omega)]
  refine Ok.mk ⟨⟨A,rfl,by omega,by first|omega|(dsimp only;omega),by first|omega|(dsimp only;omega),by first|omega|(dsimp only;omega),by simp only[j9,jO];omega,fun d f=> ?_⟩,by first|omega|(dsimp only;omega)⟩
  rcases kC.1 f with f|f
  .exact k d f
  rw[jN.1 f]
  exact⟨⟨v,by show ps.length<=8;omega,M,R⟩,K,e3⟩
 rw[if_neg (by simpa using hn)]
 exact Ok.mk ⟨a',rfl,u,by omega,by first|omega|(dsimp only;omega),k⟩
theorem qFe{a:Int}(h0:0<=a)(h1:a<1000000000000000)(hN:3000<N):
  Ok (CC N (l,a)) fun y=>∃a' f,y=((l,a'),f)/\a<=a'/\a'<=a+10000/\f.2.1.length<=1/\f.2.2.length<=3/\∀d∈f.2.2,SmallD d:=by
 unfold CC
 refine Ok.oneS (by omega) (by omega) (by decide) fun pk b2=> ?_
 dsimp only
 refine Ok.chance (by omega) (by omega) (by omega) (by omega) fun b1=> ?_
 dsimp only
 refine Ok.bind (P:=fun o:List Int×Int×BA×List BA=>∃p,(o.1,o.2.1)=(l,p)/\a<=p/\p<=a+10/\o.2.2.2.length<=1) (Ok.ite (fun _=>Ok.oneS (by omega) (by omega) (by decide) fun x t=>Ok.app (by simp only[jO,jD];omega) (by decide) (Ok.mk ⟨a+1+1+1,rfl,by omega,by omega,by simp⟩)) fun _=>Ok.mk ⟨a+1+1,rfl,by omega,by omega,by simp⟩) fun o1 S=> ?_
 obtain⟨l1,n,p1,i1⟩:=o1
 obtain⟨p,g,c1,c2,K⟩:=S
 simp only[Prod.mk.injEq] at g
 obtain⟨rfl,rfl⟩:=g
 dsimp only at c1 c2 K
 dsimp only
 refine Ok.next (by omega) (by omega) (by omega) (by omega) fun r q1 q2=> ?_
 dsimp only
 refine Ok.loop (fun s=>∃k,(s.2.1,s.2.2.1)=(l1,k)/\n+1<=k/\k<=(n+1)+2000*(3-s.1)/\0<=s.1/\s.1<=3/\(s.2.2.2.length:Int)+s.1<=3/\∀d∈s.2.2.2,SmallD d/\1<=d.2.2.2.length/\d.2.2.1.length<=3) (fun s=>s.1.toNat) (fun b=>∃k,(b.1,b.2.1)=(l1,k)/\n+1<=k/\k<=n+1+6000/\b.2.2.length<=3/\∀d∈b.2.2,SmallD d/\1<=d.2.2.2.length/\d.2.2.1.length<=3) (fun s hs=>(ZS (N:=N) (a:=n+1) (by omega) (by omega) hN hs).mono fun r h=>by cases r<;>exact h) ⟨n+1,rfl,by omega,by first|omega|(dsimp only;omega),q1,by first|omega|(dsimp only;omega),by simp only[jD];omega,fun d E=>by simp at E⟩ (by first|omega|(dsimp only;omega)) fun o2 U=> ?_
 obtain⟨l2,q,ds⟩:=o2
 obtain⟨k,g,e1,e2,e3,D⟩:=U
 simp only[Prod.mk.injEq] at g
 obtain⟨rfl,rfl⟩:=g
 dsimp only at e1 e2 e3 D
 dsimp only
 have M:∀d∈ds,SmallD d:=fun d E=>(D d E).1
 refine Ok.bind (P:=fun o:Bool×List Int×Int=>∃e,o.2=(l2,e)/\q<=e/\e<=q+10/\(o.1=true->0<ds.length)) (Ok.chance (by omega) (by omega) (by omega) (by omega) fun b=>Ok.ite (fun _=>Ok.mk ⟨q+1,rfl,by omega,by omega,fun h=>by simpa using h⟩) fun _=>Ok.mk ⟨q+1,rfl,by omega,by omega,fun h=>by simp at h⟩) fun o5 V=> ?_
 obtain⟨b5,F,e⟩:=o5
 obtain⟨a6,g,f1,f2,R⟩:=V
 simp only[Prod.mk.injEq] at g
 obtain⟨rfl,rfl⟩:=g
 dsimp only at f1 f2 R
 dsimp only
 refine Ok.bind (P:=fun o:List Int×Int×List Dl=>∃c,(o.1,o.2.1)=(F,c)/\e<=c/\c<=e+10/\o.2.2.length<=3/\∀d∈o.2.2,SmallD d) (Ok.ite (fun hb=> ?_) fun _=>Ok.mk ⟨e,rfl,by omega,by omega,e3,M⟩) fun o6 Y=> ?_
 .have b0:=R hb
  refine Ok.next (by omega) (by omega) (by omega) (by omega) fun r1 u1 u2=> ?_
  dsimp only
  refine Ok.idx u1 (by omega) fun x1 Z=> ?_
  obtain⟨z1,z2,z9⟩:=D x1 Z
  obtain⟨u,G,H,v⟩:=id z1
  refine Ok.next (by omega) (by omega) (by omega) (by omega) fun r2 u3 u4=> ?_
  dsimp only
  refine Ok.idx u3 (by omega) fun x2 a9=> ?_
  obtain⟨A,B⟩:=v x2 a9
  have fin:∀{c:Int} {d:Dl},e<=c->c<=e+10->SmallD d->Ok (some (F,c,List.set ds r1.toNat d)) fun o:List Int×Int×List Dl=>∃c,(o.1,o.2.1)=(F,c)/\e<=c/\c<=e+10/\o.2.2.length<=3/\∀d∈o.2.2,SmallD d:=fun {c d} t1 t2 t3=>Ok.mk ⟨c,rfl,t1,t2,by simp only[gB];exact e3,TE M t3⟩
  have body:∀x:Ex,pL x->SmallD (x1.1,x1.2.1,x1.2.2.1,List.set x1.2.2.2 r2.toNat x):=fun x t=>⟨u,G,by simp only[gB];exact H,TE v t⟩
  refine Ok.next (by omega) (by omega) (by omega) (by omega) fun r3 u5 u6=> ?_
  dsimp only
  refine Ok.ite (fun _=>Ok.pick (by omega) (by omega) (by decide) (by decide) fun z _=>fin (by first|omega|(dsimp only;omega)) (by first|omega|(dsimp only;omega)) (body _ ⟨A,B⟩)) fun _=> ?_
  refine Ok.ite (fun _=>Ok.pick (by omega) (by omega) (by decide) (by decide) fun z _=>fin (by first|omega|(dsimp only;omega)) (by first|omega|(dsimp only;omega)) (body _ ⟨A,B⟩)) fun _=> ?_
  refine Ok.ite (fun _=>Ok.pick (by omega) (by omega) (by decide) (by decide) fun z _=>fin (by first|omega|(dsimp only;omega)) (by first|omega|(dsimp only;omega)) (body _ ⟨A,B⟩)) fun _=> ?_
  refine Ok.ite (fun _=>Ok.oneS (by omega) (by omega) (by decide) fun z hz=>fin (by first|omega|(dsimp only;omega)) (by first|omega|(dsimp only;omega)) (body _ ⟨hz,B⟩)) fun _=> ?_
  refine Ok.ite (fun _=>Ok.next (by omega) (by omega) (by omega) (by omega) fun r4 _ _=>Ok.next (by omega) (by omega) (by omega) (by omega) fun r5 _ _=>Ok.app (by simp only[jB,jD];omega) (by decide) (fin (by first|omega|(dsimp only;omega)) (by first|omega|(dsimp only;omega)) (body _ ⟨A,by show([]++[r4,r5]).length<=12;simp⟩))) fun _=> ?_
  refine Ok.ite (fun _=>fin (by first|omega|(dsimp only;omega)) (by first|omega|(dsimp only;omega)) ⟨u,G,kE _,fun x t=>by simp at t⟩) fun _=> ?_
  refine Ok.ite (fun _=>Ok.oneS (by omega) (by omega) (by decide) fun z hz=>Ok.app (by simp only[jO];omega) (by decide) (fin (by first|omega|(dsimp only;omega)) (by first|omega|(dsimp only;omega)) ⟨u,by show(x1.2.2.1++[z]).length<=8;simp only[j9,jO];omega,H,v⟩)) fun _=>fin (by first|omega|(dsimp only;omega)) (by first|omega|(dsimp only;omega)) ⟨u,G,H,v⟩
 obtain⟨G,c,B⟩:=o6
 obtain⟨A,g,H,Z,u,v⟩:=Y
 simp only[Prod.mk.injEq] at g
 obtain⟨rfl,rfl⟩:=g
 exact Ok.mk ⟨c,_,rfl,by omega,by omega,K,u,v⟩
end
section
open Go Go.Dc Go.Proofs
theorem GA{f:Int->Option (Int⊕(Unit⊕Bool))}{n M:Nat}(h:∀i:Nat,i<n->f (i:Int)=some (.inl ((i+1:Nat):Int)))(g:f (n:Int)=some (.inr (.inl ())))(e:n<M):aS f M 0=some (.inl ()):=by
 obtain⟨b,c,d⟩:=JV (fun s:Int=>∃i:Nat,s=(i:Int)/\i<=n) (fun s=>n-s.toNat) (fun b=>b=(Sum.inl ():Unit⊕Bool)) (fun s k=>by
  obtain⟨i,rfl,hi⟩:=k
  rcases gW i n with a|a
  .exact .inr ⟨_,h i a,⟨i+1,rfl,a⟩,by simp only[jU];omega⟩
  obtain rfl:i=n:=by omega
  exact .inl ⟨_,g,rfl⟩) M 0 ⟨0,rfl,kE _⟩ (by simpa using e)
 rw[c,d]
theorem MX{N:Nat}{p:List BA}(b:p.length<2000000)(a:3000000<N):xS N p p=some true:=by
 unfold xS
 rw[if_neg (by simp),GA (n:=p.length) (fun i hi=> ?_) ?_ (by omega)]
 .rfl
 .unfold AQ
  rw[if_neg (by simp)]
 unfold AQ
 rw[if_pos (by simp only[jA];omega),eZ hi]
 simp only[j0]
 rw[if_neg (by simp),bT (by omega) (by omega)]
 rfl
theorem XW{N:Nat}{x:Ex}(b:x.2.2.2.2.length<2000000)(a:3000000<N):xU N x x=some true:=by
 unfold xU
 rw[if_neg (by simp),if_neg (by simp),if_neg (by simp),if_neg (by simp)]
 simp only[j0]
 rw[if_neg (by simp),GA (n:=x.2.2.2.2.length) (fun i hi=> ?_) ?_ (by omega)]
 .rfl
 .unfold AU
  rw[if_neg (by simp)]
 unfold AU
 rw[if_pos (by simp only[jA];omega),eZ hi]
 simp only[j0]
 rw[if_neg (by simp),bT (by omega) (by omega)]
 rfl
theorem XT{N:Nat}{d:Dl}(e:SmE d)(a:3000000<N):xW N d d=some true:=by
 obtain⟨b,f,c⟩:=e
 unfold xW
 rw[if_neg (by simp),if_neg (by simp),MX b a]
 simp only[j0]
 rw[if_neg (by simp)]
 simp only[j0]
 rw[if_neg (by simp),GA (n:=d.2.2.2.length) (fun i hi=> ?_) ?_ (by omega)]
 .rfl
 .unfold AT
  rw[if_neg (by simp)]
 unfold AT
 rw[if_pos (by simp only[jA];omega),eZ hi]
 simp only[j0]
 rw[show xU N (d.2.2.2[i].1,d.2.2.2[i].2.1,d.2.2.2[i].2.2.1,d.2.2.2[i].2.2.2.1,d.2.2.2[i].2.2.2.2) (d.2.2.2[i].1,d.2.2.2[i].2.1,d.2.2.2[i].2.2.1,d.2.2.2[i].2.2.2.1,d.2.2.2[i].2.2.2.2)=some true from XW (c _ (jX hi)) a]
 simp only[j0]
 rw[if_neg (by simp),bT (by omega) (by omega)]
 rfl
theorem QA{N:Nat}{f:Sr}(d:SmR f)(a:3000000<N):uB N f f=some true:=by
 obtain⟨b,e,c⟩:=d
 unfold uB
 rw[if_neg (by simp),MX b a]
 simp only[j0]
 rw[if_neg (by simp)]
 simp only[j0]
 rw[if_neg (by simp),GA (n:=f.2.2.length) (fun i hi=> ?_) ?_ (by omega)]
 .rfl
 .unfold BO
  rw[if_neg (by simp)]
 unfold BO
 rw[if_pos (by simp only[jA];omega),eZ hi]
 simp only[j0]
 rw[show xW N (f.2.2[i].1,f.2.2[i].2.1,f.2.2[i].2.2.1,f.2.2[i].2.2.2) (f.2.2[i].1,f.2.2[i].2.1,f.2.2[i].2.2.1,f.2.2[i].2.2.2)=some true from XT (c _ (jX hi)) a]
 simp only[j0]
 rw[if_neg (by simp),bT (by omega) (by omega)]
 rfl
theorem qDy{s:BA}(h:(iR s).2.2=0):(iR s).2.1=0:=by
 unfold iR at h ⊢
 split at h
 .rename_i hn
  exact absurd h hn
 rename_i hz
 rw[if_neg hz]
 split at h
 .rename_i z hz0
  exact absurd h (UA z hz0)
 rfl
def AF(f:Sr):BA×Int:=if mK f=0 then uJ f else(⟨#[]⟩,mK f)
theorem TY{f:Sr}(a:mK f=0)(b:∀d∈f.2.2,iE d<=32)(e:(nD f).length<=16384):AF f=(eW (nD f),0)/\iR (eW (nD f))=(f,0,0):=by
 unfold AF uJ
 rw[if_pos a,if_neg,if_neg (by omega)]
 .exact⟨rfl,(YV a e).1 b⟩
 simp only[gR,jA,not_exists,not_and]
 intro d c g
 have:=b d c
 omega
theorem qDg{f:Sr}(h:(AF f).2=0):AF f=(eW (nD f),0)/\iR (eW (nD f))=(f,0,0):=by
 have a:=h
 unfold AF at a
 by_cases hc:mK f=0
 .rw[if_pos hc] at a
  unfold uJ at a
  split at a
  .exact absurd a (by decide)
  rename_i ha
  split at a
  .exact absurd a (by decide)
  rename_i hl
  refine TY hc (fun d b=> ?_) (by omega)
  simp only[gR,jA,not_exists,not_and] at ha
  have:=ha d b
  omega
 rw[if_neg hc] at a
 exact absurd a hc
theorem KE{N:Nat}{f:Sr}(b:SmSr f)(a:3000000<N):qD N (f.1,f.2.1,f.2.2)=some (AF f):=NU b a
theorem KR{N:Nat}(s:BA)(a:3000000<N):rV N s=some (iR s):=RL s (by omega)
theorem qEk{f:Sr}(c:f.2.1.length<=1)(e:f.2.2.length<=3)(a:∀d∈f.2.2,SmallD d):SmSr f:=⟨by omega,by omega,fun d b=>(a d b).sm⟩
theorem qGj(s:BA)(e:mK (iR s).1=0):SmSr (iR s).1:=by
 have h:=qAo s
 refine qFs (GK e) ⟨by have:=h.1;omega,by have:=h.2.1;omega,fun d f=> ?_⟩
 obtain⟨a,b,c⟩:=h.2.2 d f
 exact⟨by omega,by omega,fun x g=>by have:=c x g;omega⟩
theorem XN{N:Nat}(l:List Int)(a:3000000<N):Ok (AY N l) fun b=>b=true:=by
 have k:vD N=some true:=aw_true a
 unfold AY
 refine Ok.bind (qFe (gZ 0) (by omega) (by omega)) fun y1 v=> ?_
 obtain⟨a',f,rfl,G,H,y,z,A⟩:=v
 dsimp only
 have n:=qEk y z A
 rw[KE n a]
 refine Ok.someb ?_
 refine Ok.bind (P:=fun q:Unit⊕Bool=>q= .inl ()) (Ok.ite (fun h=> ?_) fun _=>Ok.mk rfl) fun E u=> ?_
 .obtain⟨d,o⟩:=qDg (by simpa using h)
  rw[d,KR _ a,o]
  refine Ok.someb ?_
  dsimp only
  rw[if_neg (by decide),if_neg (by decide),show uB N (f.1,f.2.1,f.2.2) (f.1,f.2.1,f.2.2)=some true from QA n.r a]
  exact Ok.mk rfl
 subst u
 dsimp only
 refine Ok.bind (qAx (by omega) (by omega) (by omega) (by decide)) fun M x=> ?_
 obtain⟨F,s,rfl,-,-,K⟩:=x
 dsimp only
 rw[KR _ a]
 refine Ok.someb ?_
 refine Ok.ite (fun _=> ?_) fun e=> ?_
 .rw[k];exact Ok.mk rfl
 have e:(iR s).2.2=0:=by simpa using e
 have D:iR s=((iR s).1,0,0):=by
  have c:=qDy e
  have:iR s=((iR s).1,(iR s).2.1,(iR s).2.2):=rfl
  rw[c,e] at this
  exact this
 obtain⟨p,t,B⟩:=qBj D
 have c:SmSr (iR s).1:=qGj s p
 generalize (iR s).1=g at p t B c
 obtain⟨d,o⟩:=TY p t (by omega)
 rw[KE c a,d]
 refine Ok.someb ?_
 dsimp only
 rw[KR _ a,o]
 refine Ok.someb ?_
 dsimp only
 rw[KE c a,d]
 refine Ok.someb ?_
 dsimp only
 rw[if_pos (by decide),if_pos (by decide),if_pos (by decide),if_pos (by simp),show uB N (g.1,g.2.1,g.2.2) (g.1,g.2.1,g.2.2)=some true from QA c.r a]
 refine Ok.assoc (Ok.someb ?_)
 rw[if_pos rfl,k]
 exact Ok.mk rfl
theorem testgatelaw05_SourceBack_true(l:List Int)(_gl:l.length*8<=reachBytes/\∀x∈l,(Lit.int .i64 x).wf=true):∃N,AY N l=some true:=by
 obtain⟨b,h,rfl⟩:=XN l (N:=3000001) (by decide)
 exact⟨_,h⟩
end
end Go.Proofs.YthiiggmmmoolbaaGreatDoor
