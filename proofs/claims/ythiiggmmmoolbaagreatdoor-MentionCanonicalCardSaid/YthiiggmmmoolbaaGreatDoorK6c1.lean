/- No condition but those of each theorem. -/
import Derived.Test.YthiiggmmmoolbaaGreatDoorProg
import Derived.WalkKit
import Derived.Deep.LoopGhost
import Derived.KernelRfl
import Derived.OrdersHeld
import Derived.OrdersIn
import Derived.LoopNIn
import Derived.Sort.LoopGhostIn
import Derived.Laws.AppendOwn
import Derived.RangeFuncLeaves
import Derived.RangeFuncRecord
import Derived.MapKept
import Derived.Maps.RangeRun
import Derived.ChangeKeysEq
import Derived.HandedShaped
import Derived.ChangeStays
import Derived.ChangeSame
import Derived.OpenShut
import Derived.WideShapes
import Derived.JoinedOf
import Derived.ReadAgain
import Derived.ChangeAt
import Derived.RowKit
import Derived.Lib.Overlaps
import Derived.Shelf.Sort.Plain
import Derived.Shelf.Slices.In.SortNone
import Derived.WalkSmall
import Derived.Recover
import Derived.Lib.Builder
import Derived.Lib.UnsafeStr
import Derived.Shelf.Strconv.Itoa3
import Derived.Room.Shelf.Join48
import Derived.Lib.Bytealg
import Derived.Test.YthiiggmmmoolbaaGreatDoorK5c1
namespace Go.Proofs.YthiiggmmmoolbaaGreatDoor
section
open Go Go.Dc Go.Proofs
section
variable {ts:List bB} {ps:List BA} {E S:Ps->PM Nat} {d:Nat}
theorem EF{h:Hd}(a:h.1≠4)(k:Nat):eE h k=0:=by unfold eE;rw[if_neg a]
theorem qAr(v:uC ts ps 0 (d+1) E){h:Hd}(b:h.1≠4):∀(n:Nat) (k:Nat) (l:List Int) (p q:Ps) (x:List Int),p.2.length<=256->pT ts E n l p= .inr (q,x)->
  ∃ks,(∀t∈ks,Fine ps.length t)/\q.2=p.2++cN p.2.length ks/\x=l++bX p.2.length ks/\p.2.length+aX ks<=256/\cs ts p.1+oO (eF ps h k ks)+1<=cs ts q.1/\lX h k (d+1) ks<=32
 |0,_,_,_,_,_,_,f=>by cases f
 |n+1,k,l,p,q,x,D,f=>by
  obtain⟨a,B,g⟩:=bP (show aW (E p) _=_ from f)
  obtain⟨t,t1,t2,R,S,U,V⟩:=v p a D B
  have K:=t.pos
  have s:((a.2:Nat):Int)=((p.2.length+t.size-1:Nat):Int):=by omega
  have F:a.1.2.length=p.2.length+t.size:=by rw[t2,jA,iW]
  split at g
  .rename_i hc
   obtain⟨ks,G,o,r,A,H,M⟩:=qAr v b n (k+1) _ (a.1.1+1,a.1.2) q x (by show a.1.2.length<=256;omega) g
   have y:cs ts (a.1.1+1)=cs ts a.1.1+3:=by rw[oH,tW hc (.inr rfl)];rfl
   simp only at o r A H
   rw[F] at o r A
   refine⟨t::ks,?_,?_,?_,?_,?_,?_⟩
   .intro u c
    rcases jT.1 c with rfl|c
    .exact t1
    exact G u c
   .rw[o,t2,jD];rfl
   .rw[r,jD,s];rfl
   .show p.2.length+(t.size+aX ks)<=256;omega
   .show cs ts p.1+oO (t.wr ps (eE h k)::eF ps h (k+1) ks)+1<=_
    have e:oO (t.wr ps (eE h k)::eF ps h (k+1) ks)=((t.wr ps (eE h k)).length+2)+oO (eF ps h (k+1) ks):=by simp[oO]
    rw[e,EF b];omega
   show max (t.dep (eE h k) (d+1)) (lX h (k+1) (d+1) ks)<=32
   rw[EF b];omega
  obtain⟨j,r,o⟩:=bP g
  obtain⟨rfl,y⟩:=tH r
  obtain⟨rfl,rfl⟩:=Prod.mk.inj (Sum.inr.inj o)
  have z:sClose.size=1:=rfl
  refine⟨[t],?_,?_,?_,?_,?_,?_⟩
  .intro u c
   rw[jK.1 c];exact t1
  .rw[t2];simp[cN]
  .rw[s];rfl
  .show p.2.length+(t.size+0)<=256;omega
  .have e:oO (eF ps h k [t])=(t.wr ps (eE h k)).length+2:=by simp[oO,eF]
   rw[e,EF b]
   show _<=cs ts (a.1.1+1)
   omega
  show max (t.dep (eE h k) (d+1)) 0<=32
  rw[EF b];omega
theorem qIl(e:uC ts ps 0 (d+1) E){h:Hd}(c:h.1≠4){p q:Ps}{x:List Int}(f:p.2.length<=256)(b:pN ts E p= .inr (q,x)):
  ∃ks,(∀t∈ks,Fine ps.length t)/\q.2=p.2++cN p.2.length ks/\x=bX p.2.length ks/\p.2.length+aX ks<=256/\cs ts p.1+oO (eF ps h 0 ks)+2<=cs ts q.1/\lX h 0 (d+1) ks<=32:=by
 obtain⟨j,k,a⟩:=bP b
 obtain⟨rfl,u⟩:=tH k
 have z:sOpen.size=1:=rfl
 split at a
 .rename_i hc
  obtain⟨rfl,rfl⟩:=Prod.mk.inj (Sum.inr.inj a)
  have g:cs ts (p.1+1+1)=cs ts (p.1+1)+3:=by rw[oH,tW hc (.inr rfl)];rfl
  refine⟨[],fun t l=>(gB l).elim,by simp[cN],rfl,by show p.2.length+0<=256;omega,?_,kE _⟩
  show cs ts p.1+0+2<=cs ts (p.1+1+1)
  omega
 obtain⟨ks,g,l,n,o,r,s⟩:=qAr e c _ 0 [] (p.1+1,p.2) q x f a
 simp only at r
 exact⟨ks,g,l,by rw[n,jO],o,by omega,s⟩
theorem qRw:sRead.size=4/\sSize.size=4/\sHas.size=3/\sEnv.size=3/\sFlip.size=4/\sOpen.size=1/\sClose.size=1/\sComma.size=1:=by decide+kernel
theorem qMx:(mO 7).size=4/\(mO 8).size=3/\(mO 9).size=3:=by decide+kernel
theorem qCn{n:Int}(h:0<=n):(oA n).data.toList.length=(Lib.decDigits n.toNat).length:=by
 show(Lib.itoa n).length=_
 unfold Lib.itoa
 rw[if_neg (by omega)]
theorem qQs{n:Int}(h:0<=n):(oA (-n)).data.toList.length<=(Lib.decDigits n.toNat).length+1:=by
 show(Lib.itoa (-n)).length<=_
 unfold Lib.itoa
 split
 .rw[show(-n).natAbs=n.toNat by omega,jC];exact jP _
 rw[show(-n).toNat=n.toNat by omega];omega
theorem qKb(U:sK ts)(S:uC ts ps 0 (d+1) E)(x:d<=32){p0:Nat}{l:List Ex}{r:Ps×Nat}(u:l.length<=256)(Y:(aB ts p0).1=1)(v:(aB ts p0).2.1∈[sRead,sSize,sHas,sEnv,sFlip])(A:nH ts E (aB ts p0) (p0+1,l)= .inr r):Snd ts ps 4 d (p0,l) r:=by
 obtain⟨z1,z2,z3,z4,z5,z6,z7,z8⟩:=qRw
 obtain⟨w7,w8,w9⟩:=qMx
 unfold nH at A
 obtain⟨j,V,B⟩:=bP A
 obtain⟨rfl,F⟩:=tH V
 have p:cs ts (p0+1)=cs ts p0+3*(aB ts p0).2.1.size:=by rw[oH,ME Y]
 simp only at F B
 obtain⟨q,c,R⟩:=bP B
 obtain⟨j2,H,s⟩:=bP R
 obtain⟨rfl,f⟩:=tH H
 have y1:(⟨#[40,34]⟩:BA).size=2:=rfl
 have y2:(⟨#[34,41]⟩:BA).size=2:=rfl
 have y3:(⟨#[114,101,97,100,40,34]⟩:BA).size=6:=rfl
 have y4:(⟨#[34,44,32]⟩:BA).size=3:=rfl
 have y5:(⟨#[102,108,105,112,40]⟩:BA).size=5:=rfl
 have y6:(⟨#[41]⟩:BA).size=1:=rfl
 simp only[jT,gB,dE] at v
 split at c
 .rename_i e
  rw[e,z1] at p
  obtain⟨a,o,c⟩:=bP c
  obtain⟨rfl,k,y⟩:=ptI o
  obtain⟨i3,G,c⟩:=bP c
  obtain⟨rfl,z⟩:=tH G
  obtain⟨b,D,c⟩:=bP c
  obtain⟨t,t1,t2,Z,t4,t5,t6⟩:=S _ b u D
  obtain rfl:=(Sum.inr.inj c).symm
  have hp:=t.pos
  simp only at t2 Z t4 t5 z f s
  obtain⟨q,i⟩:=r
  obtain⟨rfl,rfl,g⟩:=AI s
  have K:b.1.2.length=l.length+t.size:=by rw[t2,jA,iW]
  simp only at g
  have M:((b.2:Nat):Int)=((l.length+t.size-1:Nat):Int):=by omega
  refine⟨.mk (6,0,0,(aB ts (p0+1+1)).2.1) [t],.read _ t k t1,?_,?_,?_,?_,?_⟩
  .show b.1.2++_=l++_
   rw[t2,TO,jD,M]
   rfl
  .show b.1.2.length+1=l.length+((t.size+0)+1)
   omega
  .show l.length+((t.size+0)+1)<=256
   omega
  .simp only[Rose.wr,eF]
   rw[if_neg (show ¬dY ((6,0,0,(aB ts (p0+1+1)).2.1):Hd)<4 from(by show ¬(4:Int)<4;decide)),EF (by show(6:Int)≠4;decide)]
   show cs ts p0+((((⟨#[114,101,97,100,40,34]⟩:BA)++(aB ts (p0+1+1)).2.1)++(⟨#[34,44,32]⟩:BA)).data.toList++(t.wr ps 0++[41])).length<=cs ts (b.1.1+1)
   simp only[jA,eS,ByteArray.size_append,jC,jE]
   omega
  show max (if(4:Int)<4 then d+1 else d) (max (t.dep 0 ((if(4:Int)<4 then d+1 else d)+1)) 0)<=32
  rw[if_neg (by decide)];omega
 split at c
 .rename_i e
  rw[e,z2] at p
  obtain⟨a,o,c⟩:=bP c
  obtain⟨rfl,k,y⟩:=ptI o
  obtain rfl:=(Sum.inr.inj c).symm
  refine AJ (h:=(7,0,0,(aB ts (p0+1+1)).2.1)) u s (.look 7 _ (.inl rfl) k) rfl x ?_
  show cs ts p0+(((mO 7++(⟨#[40,34]⟩:BA))++(aB ts (p0+1+1)).2.1)++(⟨#[34,41]⟩:BA)).data.toList.length<=_
  simp only[eS,ByteArray.size_append]
  simp only at f
  omega
 split at c
 .rename_i e
  rw[e,z3] at p
  obtain⟨a,o,c⟩:=bP c
  obtain⟨rfl,k,y⟩:=ptI o
  obtain rfl:=(Sum.inr.inj c).symm
  refine AJ (h:=(8,0,0,(aB ts (p0+1+1)).2.1)) u s (.look 8 _ (.inr rfl) k) rfl x ?_
  show cs ts p0+(((mO 8++(⟨#[40,34]⟩:BA))++(aB ts (p0+1+1)).2.1)++(⟨#[34,41]⟩:BA)).data.toList.length<=_
  simp only[eS,ByteArray.size_append]
  simp only at f
  omega
 split at c
 .rename_i e
  rw[e,z4] at p
  obtain⟨a,o,c⟩:=bP c
  obtain⟨rfl,k,y⟩:=lnI o
  obtain rfl:=(Sum.inr.inj c).symm
  refine AJ (h:=(9,0,0,(aB ts (p0+1+1)).2.1)) u s (.env _ k) rfl x ?_
  show cs ts p0+(((mO 9++(⟨#[40,34]⟩:BA))++(aB ts (p0+1+1)).2.1)++(⟨#[34,41]⟩:BA)).data.toList.length<=_
  simp only[eS,ByteArray.size_append]
  simp only at f
  omega
 rename_i n1 n2 n3 n4
 have e:(aB ts p0).2.1=sFlip:=by
  rcases v with h|h|h|h|h
  .exact absurd h n1
  .exact absurd h n2
  .exact absurd h n3
  .exact absurd h n4
  exact h
 rw[e,z5] at p
 obtain⟨a,o,c⟩:=bP c
 obtain⟨rfl,k⟩:=JW o
 split at c
 .cases c
 rename_i y
 obtain rfl:=(Sum.inr.inj c).symm
 have D:=((U (p0+1+1)).2 k).1
 have y:¬(aB ts (p0+1+1)).2.2.1>=64:=y
 obtain⟨m,v⟩:∃m:Nat,(aB ts (p0+1+1)).2.2.1=(m:Int):=⟨(aB ts (p0+1+1)).2.2.1.toNat,by omega⟩
 have z:cs ts (p0+1+1+1)=cs ts (p0+1+1)+3*(Lib.decDigits m).length:=by rw[oH,SR k,v];rfl
 simp only[v] at s
 have K:=qCn (n:=(m:Int)) (by omega)
 rw[jX,eS] at K
 refine AJ (h:=(10,(m:Int),0,emB)) u s (.flip m (by omega)) rfl x ?_
 show cs ts p0+(((⟨#[102,108,105,112,40]⟩:BA)++oA (m:Int))++(⟨#[41]⟩:BA)).data.toList.length<=_
 simp only[eS,ByteArray.size_append]
 simp only at f
 omega
theorem qLn(o:sK ts)(y:uC ts ps 0 (d+1) E)(s:d<=32):uC ts ps 4 d (lL ts ps E):=by
 intro p r k b
 obtain⟨i,l⟩:=p
 unfold lL at b
 simp only at b k
 split at b
 .rename_i c
  have v:=(o i).2 c
  refine AJ (h:=(1,(aB ts i).2.2.1,0,emB)) k b (.num _ (by omega) v.2) rfl s ?_
  show cs ts i+(oA (aB ts i).2.2.1).data.toList.length<=cs ts (i+1)
  rw[qCn v.1,oH,SR c];omega
 split at b
 .rename_i hm
  obtain⟨a,n,f⟩:=bP b
  obtain⟨rfl,c⟩:=JW n
  have v:=(o (i+1)).2 c
  have ew:IntKind.wrap .i64 (0-(aB ts (i+1)).2.2.1)= -(aB ts (i+1)).2.2.1:=by rw[bT (by omega) (by omega)];omega
  simp only at f
  rw[ew] at f
  refine AJ (h:=(1,-(aB ts (i+1)).2.2.1,0,emB)) k f (.num _ (by omega) (by omega)) rfl s ?_
  show cs ts i+(oA (-(aB ts (i+1)).2.2.1)).data.toList.length<=cs ts (i+1+1)
  have:=qQs v.1
  have z:sMinus.size=1:=rfl
  rw[oH,oH,SR c,tW hm (.inr rfl)];omega
 split at b
 .rename_i hm
  obtain⟨a,n,f⟩:=bP b
  obtain⟨j,v,A⟩:=bP f
  obtain⟨rfl,G⟩:=tH v
  obtain rfl:=(Sum.inr.inj A).symm
  obtain⟨t,t1,t2,B,D,F,K⟩:=y _ a k n
  have w:=qSx (ps:=ps) (t:=t) (a:=4)
  have u:=qTc t 4 d
  have z:sOpen.size=1:=rfl
  have M:sClose.size=1:=rfl
  have H:cs ts (i+1)=cs ts i+3:=by rw[oH,tW hm (.inr rfl)];rfl
  simp only at F
  refine⟨t,t1,t2,B,D,?_,by omega⟩
  show cs ts i+(t.wr ps 4).length<=cs ts (a.1.1+1)
  omega
 split at b
 .cases b
 rename_i c
 have c:(aB ts i).1=1:=by simpa using c
 split at b
 .rename_i hm
  exact qKb o y s k c hm b
 split at b
 .cases b
 rename_i hres
 have B:eG (aB ts i).2.1=true:=by
  unfold eG
  rw[(o i).1 c,show pF (aB ts i).2.1=false by simpa using hres];rfl
 have K:cs ts (i+1)=cs ts i+3*(aB ts i).2.1.size:=by rw[oH,ME c]
 split at b
 .obtain⟨a,n,f⟩:=bP b
  obtain⟨ks,F,A,D,G,H,R⟩:=qIl (h:=(3,0,0,(aB ts i).2.1)) (ps:=ps) y (by show(3:Int)≠4;decide) (p:=(i+1,l)) (q:=a.1) (x:=a.2) k n
  obtain⟨q,x⟩:=r
  obtain⟨rfl,rfl,g⟩:=AI f
  simp only at A D G H
  have M:a.1.2.length=l.length+aX ks:=by rw[A,jA,qV]
  refine⟨.mk (3,0,0,(aB ts i).2.1) ks,.call _ ks B F,?_,?_,?_,?_,?_⟩
  .show a.1.2++_=l++(cN l.length ks++_)
   rw[A,jD,D];rfl
  .show a.1.2.length+1=l.length+(aX ks+1)
   omega
  .show l.length+(aX ks+1)<=256
   omega
  .have v:=HM (eF ps (3,0,0,(aB ts i).2.1) 0 ks) 0
   have S:(⟨#[40]⟩:BA).size=1:=rfl
   simp only[Rose.wr]
   rw[if_neg (show ¬dY ((3,0,0,(aB ts i).2.1):Hd)<4 from(by show ¬(4:Int)<4;decide))]
   show cs ts i+(((aB ts i).2.1++(⟨#[40]⟩:BA)).data.toList++(mX 0 (eF ps (3,0,0,(aB ts i).2.1) 0 ks)++[41])).length<=cs ts a.1.1
   simp only[jA,eS,ByteArray.size_append,jC,jE]
   omega
  show max (if(4:Int)<4 then d+1 else d) (lX (3,0,0,(aB ts i).2.1) 0 ((if(4:Int)<4 then d+1 else d)+1) ks)<=32
  rw[if_neg (by decide)];omega
 split at b
 .rename_i j v
  obtain⟨n,f,-⟩:=List.findIdx?_eq_some_iff_getElem.1 v
  have f:ps[j]=(aB ts i).2.1:=gS f
  refine AJ (h:=(2,(j:Int),0,emB)) k b (.par j n) rfl s ?_
  show cs ts i+(ps.getD (Int.toNat (j:Int)) ⟨#[]⟩).data.toList.length<=cs ts (i+1)
  have e:ps.getD j ⟨#[]⟩=ps[j]:=by rw[jN,List.getElem?_eq_getElem n];rfl
  rw[jX,e,f,eS];omega
 cases b
def yI(level:Nat):Int:=if level=1 then 2 else level
theorem qTv{level i:Nat}(h:iI ts level i≠0):1<=iI ts level i/\iI ts level i<=7/\qF (iI ts level i)=level/\bE ts 4 (oK (iI ts level i)) i=true:=by
 have e:iI ts level i=match opsC.find? (nJ ts level i) with
  |some o=>o.1
  |none=>0:=rfl
 cases ho:opsC.find? (nJ ts level i) with
 |none=>
  rw[ho] at e
  exact absurd e h
 |some o=>
  rw[ho] at e
  have e:iI ts level i=o.1:=e
  have a:=List.find?_some ho
  have c:=fG ho
  simp only[nJ,jI,j9] at a
  have b:(1<=o.1/\o.1<=7)/\o.2=oK o.1:=by
   simp only[opsC,jT,gB,dE] at c
   rcases c with rfl|rfl|rfl|rfl|rfl|rfl|rfl<;>decide+kernel
  rw[e]
  exact⟨b.1.1,b.1.2,a.2,by rw[<-b.2];exact a.1⟩
theorem qPk{op:Int}(a:1<=op)(b:op<=7):1<=(oK op).size:=by
 rcases(by omega:op=1\/op=2\/op=3\/op=4\/op=5\/op=6\/op=7) with rfl|rfl|rfl|rfl|rfl|rfl|rfl<;>decide+kernel
theorem qAd{level:Nat}(o:uC ts ps ((level:Int)+1) d S)(h1l:1<=level)(M:d<=32){p0:Ps}:∀(n x:Nat) (p:Ps) (r:Ps×Nat),Snd ts ps (yI level) d p0 (p,x)->lM ts level S n x p= .inr r->Snd ts ps level d p0 r
 |0,_,_,_,_,c=>by cases c
 |n+1,x,p,r,v,c=>by
  unfold lM at c
  have s:(level:Int)<=yI level:=by unfold yI;split<;>omega
  split at c
  .obtain rfl:=Sum.inr.inj c
   exact v.less s
  rename_i hop
  obtain⟨f,o2,D,o4⟩:=qTv hop
  generalize iI ts level p.1=op at c f o2 D o4
  obtain⟨e,-,-⟩:=TU f o2
  rw[D] at e
  have U:=qPk f o2
  have a1:cs ts (p.1+1)=cs ts p.1+3*(oK op).size:=by rw[oH,tW o4 (.inr rfl)]
  obtain⟨a,H,G⟩:=bP c
  obtain⟨b,K,l⟩:=bP G
  obtain⟨t,t1,t2,V,t4,Y,t6⟩:=v
  simp only at t2 V Y
  have R:p.2.length=p0.2.length+t.size:=by rw[t2,jA,iW]
  obtain⟨u,Z,k,E,F,u5,u6⟩:=o (p.1+1,p.2) a (by show p.2.length<=256;omega) H
  simp only at k E F u5
  rw[R] at k E F
  have a2:a.1.2.length=p0.2.length+t.size+u.size:=by rw[k,t2];simp only[jA,iW]
  obtain⟨q,y⟩:=b
  obtain⟨rfl,rfl,g⟩:=AI K
  have a3:=t.pos
  have a4:=u.pos
  have A:eE (4,0,op,emB) 0=yI level:=by
   unfold eE yI
   rw[if_pos rfl,if_pos rfl,e]
   by_cases h:level=1
   .rw[if_pos h,if_pos (by omega)]
   rw[if_neg h,if_neg (by omega)]
  have B:eE (4,0,op,emB) 1=(level:Int)+1:=by
   unfold eE
   rw[if_pos rfl,if_neg (by decide),e]
  have key:∀m:Int,m<=level->Snd ts ps m d p0 ((a.1.1,a.1.2++[((4,0,op,⟨#[]⟩,[(x:Int),(a.2:Int)]):Ex)]),a.1.2.length):=by
   intro m hm
   refine⟨.mk (4,0,op,emB) [t,u],.bin op t u f o2 t1 Z,?_,?_,?_,?_,?_⟩
   .show a.1.2++_=p0.2++_
    rw[k,t2,TI,show(x:Int)=((p0.2.length+t.size-1:Nat):Int) by omega,show(a.2:Int)=((p0.2.length+t.size+u.size-1:Nat):Int) by omega]
    simp only[jD]
    rfl
   .show a.1.2.length+1=p0.2.length+(t.size+(u.size+0)+1)
    omega
   .show p0.2.length+(t.size+(u.size+0)+1)<=256
    try simp only at g
    omega
   .simp only[Rose.wr,eF,A,B]
    rw[if_neg (by rw[e];omega)]
    show cs ts p0.1+(t.wr ps (yI level)++((((⟨#[32]⟩:BA)++oK op)++(⟨#[32]⟩:BA)).data.toList++u.wr ps ((level:Int)+1))).length<=cs ts a.1.1
    have z:(⟨#[32]⟩:BA).size=1:=rfl
    simp only[jA,eS,ByteArray.size_append]
    omega
   show max (if dY (4,0,op,emB)<m then d+1 else d) (max (t.dep (eE (4,0,op,emB) 0) (if dY (4,0,op,emB)<m then d+1 else d)) (max (u.dep (eE (4,0,op,emB) 1) (if dY (4,0,op,emB)<m then d+1 else d)) 0))<=32
   rw[if_neg (by rw[e];omega),A,B]
   omega
  split at l
  .obtain rfl:=Sum.inr.inj l
   exact key _ (dK _)
  rename_i hne
  refine qAd o h1l M n _ _ r ?_ l
  refine key _ ?_
  unfold yI
  rw[if_neg hne];exact dK _
theorem PK{level:Nat}(b:uC ts ps ((level:Int)+1) d S)(h1l:1<=level)(h:d<=32):uC ts ps level d (nI ts level S):=by
 intro p r g c
 obtain⟨a,f,e⟩:=bP c
 have:=b p a g f
 refine qAd b h1l h _ a.2 a.1 r (this.less ?_) e
 unfold yI
 split<;>omega
theorem qJy(c:sK ts)(b:uC ts ps 0 (d+1) E)(a:d<=32):uC ts ps 1 d (AH ts ps E):=
 PK (level:=1) (PK (level:=2) (PK (level:=3) (qLn c b a) (by decide) a) (by decide) a) (by decide) a
end
theorem qAu{ts:List bB}{ps:List BA}(s:sK ts):∀(k d:Nat),d+k=33->uC ts ps 0 d (bZ ts ps k)
 |0,_,_=>fun p r _ h=>by cases h
 |k+1,d,hk=>by
  have n:=qAu (ps:=ps) s k (d+1) (by omega)
  intro p r x l
  unfold bZ at l
  split at l
  .rename_i hif
   obtain⟨a,G,e⟩:=bP l
   obtain⟨i,hi,e⟩:=bP e
   obtain⟨b,z,e⟩:=bP e
   obtain⟨j,K,e⟩:=bP e
   obtain⟨c,H,F⟩:=bP e
   obtain⟨t,t1,t2,S,U,V,t6⟩:=n (p.1+1,p.2) a x G
   simp only at t2 S U V
   have M:a.1.2.length=p.2.length+t.size:=by rw[t2,jA,iW]
   obtain⟨rfl,ci⟩:=wdI hi
   obtain⟨u,Y,f,A,B,Z,u6⟩:=n _ b (by show a.1.2.length<=256;omega) z
   simp only at f A B Z
   rw[M] at f A B
   have R:b.1.2.length=p.2.length+t.size+u.size:=by rw[f,t2];simp only[jA,iW]
   obtain⟨rfl,cj⟩:=wdI K
   obtain⟨v,v1,o,D,E,v5,v6⟩:=n _ c (by show b.1.2.length<=256;omega) H
   simp only at o D E v5
   rw[R] at o D E
   have l3:c.1.2.length=p.2.length+t.size+u.size+v.size:=by rw[o,f,t2];simp only[jA,iW]
   obtain⟨q,y⟩:=r
   obtain⟨rfl,rfl,g⟩:=AI F
   have a1:=t.pos
   have a2:=u.pos
   have a3:=v.pos
   have h0:cs ts (p.1+1)=cs ts p.1+6:=by rw[oH,tW hif (.inl rfl)];rfl
   have z1:sThen.size=4:=rfl
   have z2:sElse.size=4:=rfl
   have nd:∀k,eE (5,0,0,emB) k=0:=EF (by show(5:Int)≠4;decide)
   refine⟨.mk (5,0,0,emB) [t,u,v],.ite t u v t1 Y v1,?_,?_,?_,?_,?_⟩
   .show c.1.2++_=p.2++_
    rw[o,f,t2,TL,show(a.2:Int)=((p.2.length+t.size-1:Nat):Int) by omega,show(b.2:Int)=((p.2.length+t.size+u.size-1:Nat):Int) by omega,show(c.2:Int)=((p.2.length+t.size+u.size+v.size-1:Nat):Int) by omega]
    simp only[jD]
    rfl
   .show c.1.2.length+1=p.2.length+(t.size+(u.size+(v.size+0))+1)
    omega
   .show p.2.length+(t.size+(u.size+(v.size+0))+1)<=256
    try simp only at g
    omega
   .simp only[Rose.wr,eF,nd]
    rw[if_neg (by decide)]
    show cs ts p.1+(tI++(t.wr ps 0++(tThen++(u.wr ps 0++(tElse++v.wr ps 0))))).length<=cs ts c.1.1
    have y1:tI.length=3:=rfl
    have y2:tThen.length=6:=rfl
    have y3:tElse.length=6:=rfl
    simp only[jA]
    omega
   show max (if(0:Int)<0 then d+1 else d) (max (t.dep (eE (5,0,0,emB) 0) ((if(0:Int)<0 then d+1 else d)+1)) (max (u.dep (eE (5,0,0,emB) 1) ((if(0:Int)<0 then d+1 else d)+1)) (max (v.dep (eE (5,0,0,emB) 2) ((if(0:Int)<0 then d+1 else d)+1)) 0)))<=32
   rw[if_neg (by decide),nd,nd,nd]
   omega
  exact(qJy s n (by omega) p r x l).less (by decide)
mutual
theorem XJ(t:Rose)(b:Nat)(rest:List Ex)(fs:List Rose):tV (t.flat b++rest) fs=tV rest (fs++[t]):=by
 match t with
 | .mk h ks=>
  unfold Rose.flat
  rw[jD,WD ks b,List.singleton_append]
  have e:(eX h (bX b ks)).2.2.2.2.length=ks.length:=qU ks b
  have a:(fs++ks).length-ks.length=fs.length:=by rw[jA];omega
  show tV rest ((fs++ks).take ((fs++ks).length-(eX h (bX b ks)).2.2.2.2.length)++[Rose.mk h ((fs++ks).drop ((fs++ks).length-(eX h (bX b ks)).2.2.2.2.length))])=_
  rw[e,a,fJ,fY]
theorem WD(l:List Rose)(b:Nat)(rest:List Ex)(fs:List Rose):tV (cN b l++rest) fs=tV rest (fs++l):=by
 match l with
 |[]=>simp[cN]
 |t::l=>
  unfold cN
  rw[jD,XJ t b,WD l (b+t.size),jD]
  rfl
end
theorem qKy(t:Rose):vE (t.flat 0)=some t:=by
 have:=XJ t 0 [] []
 rw[jW] at this
 unfold vE
 rw[this]
 rfl
theorem qPj(t:Rose):oneP (oP (t.flat 0) 0 [])=true:=by
 have:=YH t 0 [] []
 rw[jW] at this
 rw[this]
 rfl
theorem qLg{np:Nat}{t:Rose}(h:Fine np t):∀b,∀x∈t.flat b,iM (np:Int) x=true:=by
 have leaf:∀(o:Hd) (b:Nat),iM (np:Int) (eX o [])=true->∀x∈(Rose.mk o []).flat b,iM (np:Int) x=true:=fun o b B x d=>by
  have d:x∈[eX o []]:=d
  rw[jK.1 d];exact B
 induction h with
 |num n p q=>
  refine fun b=>leaf _ b ?_
  simp[iM,eX,pU,p,q]
 |par i h=>
  refine fun b=>leaf _ b ?_
  simp[iM,eX,pU,h]
 |call s ks h r y=>
  intro b x d
  have d:x∈cN b ks++[eX (3,0,0,s) (bX b ks)]:=by unfold Rose.flat at d;exact d
  rcases kL.1 d with d|d
  .clear r
   induction ks generalizing b with
   |nil=>cases d
   |cons t l f=>
    have d:x∈t.flat b++cN (b+t.size) l:=d
    rcases kL.1 d with d|d
    .exact y t (jH ..) b x d
    exact f (fun u g=>y u (jL _ g)) (b+t.size) (kA _ d) (kA _ d) d
  rw[jK.1 d]
  simp[iM,eX,h]
 |bin op a c p q v A f g=>
  intro b x d
  rw[TI] at d
  rcases kL.1 d with d|d
  .rcases kL.1 d with d|d
   .exact f b x d
   exact g _ x d
  rw[jK.1 d]
  simp[iM,eX,pU,p,q]
 |ite a c e v A D f g z=>
  intro b x d
  rw[TL] at d
  rcases kL.1 d with d|d
  .rcases kL.1 d with d|d
   .rcases kL.1 d with d|d
    .exact f b x d
    exact g _ x d
   exact z _ x d
  rw[jK.1 d]
  simp[iM,eX,pU]
 |read s a h v f=>
  intro b x d
  rw[TO] at d
  rcases kL.1 d with d|d
  .exact f b x d
  rw[jK.1 d]
  simp[iM,eX,pU,h]
 |look k s r h=>
  refine fun b=>leaf _ b ?_
  rcases r with rfl|rfl<;>simp[iM,eX,pU,h]
 |env s h=>
  refine fun b=>leaf _ b ?_
  simp[iM,eX,pU,h]
 |flip n h=>
  refine fun b=>leaf _ b ?_
  have:(n:Int)<64:=by omega
  simp[iM,eX,pU,this]
theorem XY{α:Type}[DecidableEq α]{x:α}:∀{l seen:List α},oE seen l=false->x∉seen->x∉l->oE seen (l++[x])=false
 |[],seen,_,h,_=>by
  show(decide (x∈seen)||false)=false
  rw[jY h];rfl
 |y::l,seen,a,h,b=>by
  unfold oE at a
  rw[kD] at a
  show(decide (y∈seen)||oE (seen++[y]) (l++[x]))=false
  rw[a.1,gN]
  refine XY a.2 (fun g=> ?_) fun g=>b (jL _ g)
  rcases kL.1 g with g|g
  .exact h g
  exact b (by rw[jK.1 g];exact jH ..)
theorem PV{α:Type}[DecidableEq α]{x:α}{l:List α}(h:lS l=false)(a:x∉l):lS (l++[x])=false:=XY h (fun g=>by cases g) a
section
variable {ts:List bB}
def tY(l:List BA):Nat:=oO (l.map fun s=>s.data.toList)
theorem qLc(l:List BA)(x:BA):tY (l++[x])=tY l+(x.size+2):=by simp[tY,oO]
theorem XP(f:sK ts):∀(n:Nat) (l:List BA) (i:Nat) (r:Nat×List BA),(∀s∈l,eG s=true)->lS l=false->l.length<=8->qB ts n l i= .inr r->
  (∀s∈r.2,eG s=true)/\lS r.2=false/\r.2.length<=8/\cs ts i+tY r.2+1<=cs ts r.1+tY l
 |0,_,_,_,_,_,_,h=>by cases h
 |n+1,l,i,r,u,v,E,h=>by
  obtain⟨a,x,h⟩:=bP h
  obtain⟨rfl,k,t,D⟩:=nmI x
  simp only at h
  split at h
  .cases h
  rename_i h8
  split at h
  .cases h
  rename_i hm
  have y:eG (aB ts i).2.1=true:=by unfold eG;rw[(f i).1 k,t];rfl
  have c:∀s∈l++[(aB ts i).2.1],eG s=true:=fun s b=>by
   rcases kL.1 b with b|b
   .exact u s b
   rw[jK.1 b];exact y
  have d:=PV v hm
  have e:(l++[(aB ts i).2.1]).length<=8:=by rw[jA,gE];omega
  have A:=qLc l (aB ts i).2.1
  split at h
  .rename_i hc
   obtain⟨o,p,q,B⟩:=XP f n _ (i+1+1) r c d e h
   have g:cs ts (i+1+1)=cs ts (i+1)+3:=by rw[oH,tW hc (.inr rfl)];rfl
   exact⟨o,p,q,by omega⟩
  obtain⟨j,o,h⟩:=bP h
  obtain⟨rfl,g⟩:=tH o
  obtain rfl:=(Sum.inr.inj h).symm
  have z:sClose.size=1:=rfl
  refine⟨c,d,e,?_⟩
  show cs ts i+tY (l++[(aB ts i).2.1])+1<=cs ts (i+1+1)+tY l
  omega
theorem qHs(f:sK ts){i:Nat}{r:Nat×List BA}(h:pM ts i= .inr r):(∀s∈r.2,eG s=true)/\lS r.2=false/\r.2.length<=8/\cs ts i+tY r.2+2<=cs ts r.1:=by
 obtain⟨j,k,h⟩:=bP h
 obtain⟨rfl,l⟩:=tH k
 have z:sOpen.size=1:=rfl
 split at h
 .rename_i hc
  obtain rfl:=(Sum.inr.inj h).symm
  have g:cs ts (i+1+1)=cs ts (i+1)+3:=by rw[oH,tW hc (.inr rfl)];rfl
  refine⟨fun s d=>(by cases d),rfl,kE _,?_⟩
  show cs ts i+0+2<=cs ts (i+1+1)
  omega
 obtain⟨a,b,c,e⟩:=XP f _ [] (i+1) r (fun s d=>by cases d) rfl (kE _) h
 exact⟨a,b,c,by show _+2<=_;have:tY []=0:=rfl;omega⟩
def OkL(d:Dl):Prop:=rK d=true/\wM d=false/\lS d.2.2.1=false/\pW d<=32
theorem qNz(l:List BA):(vD l).size<=tY l:=by
 rw[<-eS]
 exact HM _ 0
theorem qLk{s:BA}(h:lA s≠0):lA s=1/\s.size=4\/lA s=2/\s.size=4\/lA s=3/\s.size=3:=by
 unfold lA at h ⊢
 by_cases h1:s=AV
 .rw[if_pos h1,h1];exact .inl ⟨rfl,rfl⟩
 rw[if_neg h1] at h ⊢
 by_cases h2:s=AY
 .rw[if_pos h2,h2];exact .inr (.inl ⟨rfl,rfl⟩)
 rw[if_neg h2] at h ⊢
 by_cases h3:s=BF
 .rw[if_pos h3,h3];exact .inr (.inr ⟨rfl,rfl⟩)
 rw[if_neg h3] at h;exact absurd rfl h
theorem qPb(u:sK ts){before:List Dl}{i:Nat}{r:Nat×Dl}(h:mD ts before i= .inr r):OkL r.2/\before.length≠64/\tC r.2∉before.map tC/\cs ts i+(pS r.2).length<=cs ts r.1:=by
 unfold mD at h
 simp only at h
 split at h
 .cases h
 rename_i hk
 have B:(aB ts i).1=1:=by
  refine Classical.byContradiction fun g=>hk (.inl g)
 have D:lA (aB ts i).2.1≠0:=fun g=>hk (.inr g)
 have Z:cs ts (i+1)=cs ts i+3*(aB ts i).2.1.size:=by rw[oH,ME B]
 have q:=qLk D
 generalize lA (aB ts i).2.1=k at h q
 split at h
 .cases h
 rename_i h64
 obtain⟨a,n,h⟩:=bP h
 split at h
 .cases h
 rename_i hany
 obtain⟨b,o,h⟩:=bP h
 obtain⟨j,A,h⟩:=bP h
 obtain⟨rfl,cj⟩:=tH A
 obtain⟨c,H,h⟩:=bP h
 obtain⟨m,R,h⟩:=bP h
 obtain⟨rfl,cm⟩:=tH R
 obtain rfl:=(Sum.inr.inj h).symm
 -- the name
 have p:tX (k,a.2.2.1,b.2,c.1.2)=true/\cs ts (i+1)+(if k=3 then 3*a.2.2.1.size+6 else 3*a.2.2.1.size)=cs ts a.1:=by
  by_cases k3:k=3
  .rw[if_pos k3] at n ⊢
   obtain⟨rfl,f,l⟩:=ptI n
   refine⟨?_,l.symm⟩
   unfold tX
   rw[if_neg (by simp only;omega),if_pos k3];exact f
  rw[if_neg k3] at n ⊢
  obtain⟨rfl,g,f,l⟩:=nmI n
  refine⟨?_,l.symm⟩
  unfold tX
  rw[if_pos (by simp only;omega)]
  unfold eG
  rw[(u (i+1)).1 g,f];rfl
 -- the parameters
 have y:(∀s∈b.2,k=1/\eG s=true)/\lS b.2=false/\b.2.length<=8/\cs ts a.1+(if k=1 then tY b.2+2 else 0)<=cs ts b.1:=by
  by_cases k1:k=1
  .rw[if_pos k1] at o ⊢
   obtain⟨p1,p2,p3,p4⟩:=qHs u o
   exact⟨fun s l=>⟨k1,p1 s l⟩,p2,p3,by omega⟩
  rw[if_neg k1] at o ⊢
  obtain rfl:=(Sum.inr.inj o).symm
  exact⟨fun s l=>(by cases l),rfl,kE _,jP _⟩
 obtain⟨p1,p2,p3,p4⟩:=y
 obtain⟨S,z⟩:=p
 -- the body
 obtain⟨t,t1,t2,U,V,E,Y⟩:=qAu (ps:=b.2) u 32 1 rfl _ c (by show 0<=256;decide) H
 simp only[jO,jE,kF] at t2 U V E
 have f:vE c.1.2=some t:=by rw[t2];exact qKy t
 have M:c.1.2.length=t.size:=by rw[t2,iW]
 have z1:sEq.size=1:=rfl
 have z2:sSemi.size=1:=rfl
 refine⟨⟨?_,?_,p2,?_⟩,h64,?_,?_⟩
 .unfold rK yC AX
  simp only[jI,jU,kJ]
  refine⟨S,p1,?_,?_⟩
  .intro x v
   rw[t2] at v
   exact qLg t1 0 x v
  rw[t2];exact qPj t
 .unfold wM wN
  simp only[f]
  have:=XK t 0 1
  simp only[kD,decide_eq_false_iff_not]
  exact⟨by omega,by omega,by omega⟩
 .unfold pW
  simp only[f]
  exact Y
 .intro v
  obtain⟨d,K,e⟩:=fV.1 v
  refine hany (fQ.2 ⟨d,K,?_⟩)
  have F:d.1=k:=congrArg Prod.fst e
  have G:d.2.1=a.2.2.1:=congrArg Prod.snd e
  rw[F,G]
  simp
 have v:qR (k,a.2.2.1,b.2,c.1.2)=t.wr b.2 0:=by
  unfold qR
  simp only[f]
 have y1:(⟨#[32,61,32]⟩:BA).size=3:=rfl
 have y2:(⟨#[59,10]⟩:BA).size=2:=rfl
 have F:cs ts i+(tZ (k,a.2.2.1,b.2,c.1.2)).size<=cs ts b.1:=by
  have A:=qNz b.2
  have x1:(⟨#[102,117,110,99,32]⟩:BA).size=5:=rfl
  have G:(⟨#[40]⟩:BA).size=1:=rfl
  have K:(⟨#[41]⟩:BA).size=1:=rfl
  have x4:(⟨#[116,101,115,116,32]⟩:BA).size=5:=rfl
  have x5:(⟨#[103,101,110,32,34]⟩:BA).size=5:=rfl
  have x6:(⟨#[34]⟩:BA).size=1:=rfl
  unfold tZ
  rcases q with ⟨rfl,l⟩|⟨rfl,l⟩|⟨rfl,l⟩
  .rw[if_neg (by decide)] at z
   rw[if_pos rfl] at p4
   rw[if_pos rfl]
   simp only[ByteArray.size_append];omega
  .rw[if_neg (by decide)] at z
   rw[if_neg (by decide)] at p4
   dsimp only
   rw[if_neg (by decide),if_pos rfl]
   simp only[ByteArray.size_append];omega
  rw[if_pos rfl] at z
  rw[if_neg (by decide)] at p4
  dsimp only
  rw[if_neg (by decide),if_neg (by decide)]
  simp only[ByteArray.size_append];omega
 unfold pS
 rw[v]
 simp only[jA,eS,ByteArray.size_append,PE]
 try simp only at E
 omega
theorem WG(o:sK ts){pkg:BA}:∀(n:Nat) (l:List BA) (i:Nat) (r:Nat×List BA),(∀s∈l,eG s=true)->lS l=false->pkg∉l->l.length<=8->nR ts pkg n l i= .inr r->
  (∀s∈r.2,eG s=true)/\lS r.2=false/\pkg∉r.2/\r.2.length<=8/\cs ts i+(r.2.flatMap oR).length<=cs ts r.1+(l.flatMap oR).length
 |0,_,_,_,_,_,_,_,h=>by cases h
 |n+1,l,i,r,c,d,f,x,h=>by
  unfold nR at h
  split at h
  .rename_i hi
   split at h
   .cases h
   rename_i h8
   obtain⟨a,y,h⟩:=bP h
   obtain⟨rfl,k,v,E⟩:=nmI y
   simp only at h
   split at h
   .cases h
   rename_i hno
   obtain⟨j,A,h⟩:=bP h
   obtain⟨rfl,cj⟩:=tH A
   have B:eG (aB ts (i+1)).2.1=true:=by unfold eG;rw[(o (i+1)).1 k,v];rfl
   obtain⟨p,q,t,u,D⟩:=WG o n _ _ r (fun s b=>by
    rcases kL.1 b with b|b
    .exact c s b
    .rw[jK.1 b];exact B) (PV d fun g=>hno (.inr g)) (fun g=>by
    rcases kL.1 g with g|g
    .exact f g
    exact hno (.inl (jK.1 g).symm)) (by rw[jA,gE];omega) h
   have c0:cs ts (i+1)=cs ts i+18:=by rw[oH,tW hi (.inl rfl)];rfl
   have z:sSemi.size=1:=rfl
   have y1:(⟨#[105,109,112,111,114,116,32]⟩:BA).size=7:=rfl
   have F:(⟨#[59,10]⟩:BA).size=2:=rfl
   have e:((l++[(aB ts (i+1)).2.1]).flatMap oR).length=(l.flatMap oR).length+(7+(aB ts (i+1)).2.1.size+2):=by
    rw[fM,jA]
    congr 1
    show(oR (aB ts (i+1)).2.1++[]).length=_
    rw[jW]
    unfold oR
    simp only[eS,ByteArray.size_append];omega
   exact⟨p,q,t,u,by omega⟩
  obtain rfl:=(Sum.inr.inj h).symm
  exact⟨c,d,f,x,jP _⟩
theorem XW(g:sK ts):∀(n:Nat) (l:List Dl) (i:Nat) (r:List Dl),(∀d∈l,OkL d)->lS (l.map tC)=false->l.length<=64->oI ts n l i= .inr r->
  (∀d∈r,OkL d)/\lS (r.map tC)=false/\r.length<=64/\∃e,cs ts i+(r.flatMap pS).length<=cs ts e+(l.flatMap pS).length
 |0,_,_,_,_,_,_,h=>by cases h
 |n+1,l,i,r,c,f,t,h=>by
  unfold oI at h
  split at h
  .obtain rfl:=(Sum.inr.inj h).symm
   exact⟨c,f,t,i,jP _⟩
  obtain⟨a,u,h⟩:=bP h
  obtain⟨q,y,s,z⟩:=qPb g u
  obtain⟨k,o,p,e,v⟩:=XW g n _ _ r (fun d b=>by
   rcases kL.1 b with b|b
   .exact c d b
   rw[jK.1 b];exact q) (by rw[gV,List.map_singleton];exact PV f s) (by rw[jA,gE];omega) h
  refine⟨k,o,p,e,?_⟩
  have x:((l++[a.2]).flatMap pS).length=(l.flatMap pS).length+(pS a.2).length:=by
   rw[fM,jA]
   congr 1
   show(pS a.2++[]).length=_
   rw[jW]
  omega
theorem qOj(o:sK ts){f:Sr}(h:oN ts= .inr f):pO f=0/\(∀d∈f.2.2,pW d<=32)/\∃e,(sG f).length<=cs ts e:=by
 unfold oN at h
 obtain⟨i,hi,h⟩:=bP h
 obtain⟨rfl,R⟩:=wdI hi
 obtain⟨a,x,h⟩:=bP h
 obtain⟨rfl,k,v,U⟩:=nmI x
 obtain⟨j,A,h⟩:=bP h
 obtain⟨rfl,r⟩:=tH A
 obtain⟨b,y,h⟩:=bP h
 obtain⟨l,B,h⟩:=bP h
 obtain rfl:=(Sum.inr.inj h).symm
 have D:eG (aB ts (0+1)).2.1=true:=by unfold eG;rw[(o (0+1)).1 k,v];rfl
 obtain⟨E,F,G,V,q⟩:=WG o _ [] _ b (fun s p=>by cases p) rfl (fun g=>by cases g) (kE _) y
 obtain⟨n,t,S,e,u⟩:=XW o _ [] _ l (fun s p=>by cases p) rfl (kE _) B
 refine⟨?_,fun d c=>(n d c).2.2.2,e,?_⟩
 .have H:rS ((aB ts (0+1)).2.1,b.2,l)=true:=by
   unfold rS
   simp only[jI,jU]
   exact⟨D,E,fun d c=>(n d c).1⟩
  have K:qZ ((aB ts (0+1)).2.1,b.2,l)=false:=by
   unfold qZ
   simp only[kD,fF,decide_eq_false_iff_not]
   exact⟨fun d c=>by rw[(n d c).2.2.1];exact kC,G,F,t⟩
  have M:rR ((aB ts (0+1)).2.1,b.2,l)=false:=by
   unfold rR
   simp only[kD,fF,decide_eq_false_iff_not]
   exact⟨by omega,by omega,fun d c=>by rw[(n d c).2.1];exact kC⟩
  unfold pO
  rw[if_pos H,K,M]
  rfl
 have z:sPackage.size=7:=rfl
 have K:sSemi.size=1:=rfl
 have y1:(⟨#[112,97,99,107,97,103,101,32]⟩:BA).size=8:=rfl
 have H:(⟨#[59,10]⟩:BA).size=2:=rfl
 unfold sG yM
 simp only[jA,eS,ByteArray.size_append]
 simp only[List.flatMap_nil,jE,fC] at q u
 simp only at r q
 omega
end
theorem XL:∀(n:Nat) (ds:List UInt8),ds.length=n->(∀c∈ds,kd c=2)->0<=mQ ds/\mQ ds<((10^ds.length:Nat):Int)
 |0,ds,b,_=>by
  obtain rfl:=kY.1 b
  exact⟨by decide,by decide⟩
 |n+1,ds,b,d=>by
  rcases fW ds with rfl|⟨a,c,rfl⟩
  .cases b
  rw[dB] at*
  have e:a.length=n:=by simpa using b
  obtain⟨k,l⟩:=XL n a e fun x g=>d x (kA _ g)
  have h:=LZ c (d c (kO _ (jK.2 rfl)))
  have f:(10^(a++[c]).length:Nat)=10^a.length*10:=by rw[jA,gE,Nat.pow_succ]
  rw[HO,f]
  unfold wS
  split<;>omega
def qEe(t:bB):Prop:=(t.1=1->lW t.2.1=true)/\(t.1=2->0<=t.2.2.1/\t.2.2.1<=9007199254740992)
theorem qMp{s:BA}{i:Nat}(a:Int)(hi:i<s.data.toList.length)(h:(cM s i).2.2=0):qEe ((cM s i).1.1,(cM s i).1.2.1,(cM s i).1.2.2.1,a)/\co ((cM s i).1.1,(cM s i).1.2.1,(cM s i).1.2.2.1,a)+3*i<=3*(cM s i).2.1.toNat:=by
 have t:=iH s
 unfold cM at h ⊢
 rw[mA hi] at h ⊢
 by_cases h1:kd (s.data.toList[i])=1
 .rw[if_pos h1] at h ⊢
  split at h
  .cases h
  rename_i h24
  rw[if_neg h24]
  have f:=nB (p:=aV [1,2,3]) (l:=s.data.toList) (a:=i) (by omega)
  have k:=uX (p:=aV [1,2,3]) hi (HX (by simp) h1)
  have d:(s.extract i (tw (aV [1,2,3]) s.data.toList i)).size=tw (aV [1,2,3]) s.data.toList i-i:=by rw[ByteArray.size_extract];omega
  refine⟨⟨fun _=> ?_,fun h=>by cases h⟩,?_⟩
  .show lW (s.extract i (tw (aV [1,2,3]) s.data.toList i))=true
   have g:(s.extract i (tw (aV [1,2,3]) s.data.toList i)).data.toList.length=tw (aV [1,2,3]) s.data.toList i-i:=by rw[<-d,eS]
   have b:=VE (s:=s) (p:=aV [1,2,3]) (i:=i)
   generalize s.extract i (tw (aV [1,2,3]) s.data.toList i)=X at g b
   unfold lW
   refine jV ⟨by omega,by omega,?_,?_⟩
   .rw[b,DG hi,kV (HX (by simp) h1)]
    exact h1
   show 0+((X.data.toList.drop 0).takeWhile (aV [1,2,3])).length=X.data.toList.length
   have e:=CW (p:=aV [1,2,3]) (a:=(s.data.toList.drop i).takeWhile (aV [1,2,3])) (r:=[]) (fun x d=>TG x d) (fun x q h=>by cases h)
   rw[jW] at e
   rw[kI,kF,b,e]
  show 3*(s.extract i (tw (aV [1,2,3]) s.data.toList i)).size+3*i<=3*(tw (aV [1,2,3]) s.data.toList i)
  omega
 rw[if_neg h1] at h ⊢
 by_cases h2:kd (s.data.toList[i])=2
 .rw[if_pos h2] at h ⊢
  split at h
  .cases h
  rename_i h24
  rw[if_neg h24]
  have k:=uX (p:=aV [2]) hi (HX (by simp) h2)
  have g:tw (aV [2]) s.data.toList i=i+((s.data.toList.drop i).takeWhile (aV [2])).length:=rfl
  have b:∀c∈(s.data.toList.drop i).takeWhile (aV [2]),kd c=2:=fun c e=>by
   have:=jU.1 (List.all_takeWhile (p:=aV [2]) (l:=s.data.toList.drop i)) c e
   exact MP.1 this
  obtain⟨d,n⟩:=XL _ _ rfl b
  generalize (s.data.toList.drop i).takeWhile (aV [2])=ds at*
  refine⟨⟨fun h=>(by cases h),fun _=>⟨d,by show mQ ds<=_;omega⟩⟩,?_⟩
  show 3*(Lib.decDigits (mQ ds).toNat).length+3*i<=3*(tw (aV [2]) s.data.toList i)
  have o:=MQ (ds.length-1) (mQ ds).toNat (by
   rw[show ds.length-1+1=ds.length by omega];omega)
  omega
 rw[if_neg h2] at h ⊢
 by_cases h7:kd (s.data.toList[i])=7
 .rw[if_pos h7] at h ⊢
  split at h
  .rename_i h24
   rw[if_pos h24]
   have f:=nB (p:=eD) (l:=s.data.toList) (a:=i+1) (by omega)
   have b:tw eD s.data.toList (i+1)<s.data.toList.length:=DP (by rw[h24];decide)
   refine⟨⟨fun h=>(by cases h),fun h=>by cases h⟩,?_⟩
   show 3*(s.extract (i+1) (tw eD s.data.toList (i+1))).size+6+3*i<=3*(tw eD s.data.toList (i+1)+1)
   rw[ByteArray.size_extract];omega
  cases h
 rw[if_neg h7] at h ⊢
 by_cases h8:kd (s.data.toList[i])=8
 .rw[if_pos h8] at h ⊢
  refine⟨⟨fun h=>(by cases h),fun h=>by cases h⟩,?_⟩
  show 3*(s.extract i (oJ s.data.toList i)).size+3*i<=3*(oJ s.data.toList i)
  rw[ByteArray.size_extract]
  have:i<=oJ s.data.toList i:=by unfold oJ;split<;>omega
  omega
 rw[if_neg h8] at h
 cases h
theorem QH{s:BA}:∀(k i:Nat) (r:List bB),i<=s.data.toList.length->s.data.toList.length<i+k->iT k s i= .inr r->(∀t∈r,qEe t)/\(r.map co).sum+3*i<=3*s.data.toList.length
 |0,i,r,v,B,c=>by omega
 |k+1,i,r,v,B,c=>by
  have D:=nB (p:=aV [5]) (l:=s.data.toList) (a:=i) v
  simp only[iT] at c
  generalize hE:tw (aV [5]) s.data.toList i=a at D c
  split at c
  .obtain rfl:=(Sum.inr.inj c).symm
   refine⟨fun t f=> ?_,?_⟩
   .rw[jK.1 f]
    exact⟨fun h=>(by cases h),fun h=>by cases h⟩
   show 0+0+3*i<=_
   omega
  rename_i he
  have d:a<s.data.toList.length:=by omega
  split at c
  .rename_i h6
   have n:=nB (p:=cF) (l:=s.data.toList) (a:=a) (by omega)
   have g:=uX (p:=cF) d (by
    rw[mA d] at h6
    simp only[cF,fO,ne_eq]
    intro e;rw[e] at h6;exact absurd h6 (by decide))
   obtain⟨o,A⟩:=QH k _ r n.2 (by omega) c
   exact⟨o,by omega⟩
  split at c
  .cases c
  rename_i g
  have g:(cM s a).2.2=0:=by simpa using g
  obtain⟨b,y,n,z,-⟩:=HZ d g
  obtain⟨E,F⟩:=qMp (a:Int) d g
  rw[y,jX] at c F
  cases u:iT k s b with
  |inl x=>rw[u] at c;cases c
  |inr q=>
   rw[u] at c
   obtain rfl:=(Sum.inr.inj c).symm
   obtain⟨o,A⟩:=QH k b q z (by omega) u
   refine⟨fun t f=> ?_,?_⟩
   .rcases jT.1 f with rfl|f
    .exact E
    exact o t f
   rw[kG,dC];omega
theorem qJn{s:BA}(h:(iP s).2.2=0):sK (iP s).1/\∀e,cs (iP s).1 e<=3*s.size:=by
 have d:=iH s
 unfold iP at h ⊢
 split at h
 .cases h
 rename_i hl
 rw[if_neg hl]
 cases hG:iT (s.data.toList.length+1) s 0 with
 |inl x=>
  rw[hG] at h
  exact absurd h (HW _ 0 x (by omega) (by omega) hG).2.2
 |inr r=>
  obtain⟨a,b⟩:=QH _ 0 r (by omega) (by omega) hG
  show sK ([]++r)/\∀e,cs ([]++r) e<=3*s.size
  rw[jO]
  refine⟨fun i=> ?_,fun e=> ?_⟩
  .by_cases hi:i<r.length
   .have e:aB r i=r[i]:=by
     unfold aB
     rw[jN,List.getElem?_eq_getElem hi];rfl
    rw[e]
    exact a _ (kH hi)
   have e:aB r i=(5,⟨#[]⟩,0,0):=by
    unfold aB
    rw[jN,List.getElem?_eq_none (by omega)];rfl
   rw[e]
   exact⟨fun h=>(by cases h),fun h=>by cases h⟩
  unfold cs
  have c:(r.map co).sum=((r.take e).map co).sum+((r.drop e).map co).sum:=by
   rw[<-List.sum_append,<-gV,gP]
  omega
def NZ{α:Type}(x:bJ⊕α):Prop:=∀z,x= .inl z->z.2≠0
theorem NZ.ok{α:Type}{a:α}:NZ (.inr a:bJ⊕α):=fun z h=>by cases h
theorem NZ.fail{α:Type}{t:bB}{e:Int}(a:e≠0):NZ (cV t e:bJ⊕α):=fun z h=>by
 obtain rfl:=Sum.inl.inj h
 exact a
theorem NZ.bind{α β:Type}{x:bJ⊕α}{f:α->bJ⊕β}(h:NZ x)(c:∀a,NZ (f a)):NZ (aW x f):=fun z b=>by
 cases x with
 |inl y=>
  obtain rfl:=Sum.inl.inj (show(Sum.inl y:bJ⊕β)= .inl z from b)
  exact h _ rfl
 |inr a=>exact c a z b
theorem NZ.ite{α:Type}{c:Prop}[Decidable c]{x y:bJ⊕α}(a:NZ x)(b:NZ y):NZ (if c then x else y):=by
 split
 .exact a
 exact b
section
variable {ts:List bB} {ps:List BA} {E S:Ps->PM Nat}
theorem sY{s:BA}{i:Nat}:NZ (cC ts s i):= .ite .ok (.fail (by decide))
theorem SX{s:BA}{i:Nat}:NZ (oL ts s i):= .ite .ok (.fail (by decide))
theorem IL{k:Int}{i:Nat}:NZ (lH ts k i):= .ite .ok (.fail (by decide))
theorem MX{i:Nat}:NZ (lN ts i):= .bind IL fun _=> .ite (.fail (by decide)) .ok
theorem MY{i:Nat}:NZ (mC ts i):= .bind IL fun _=> .ite .ok (.fail (by decide))
theorem qRm{i:Nat}:NZ (rO ts i):= .bind IL fun _=> .ite .ok (.fail (by decide))
theorem AR{t:bB}{x:Ex}{p:Ps}:NZ (iE t x p):= .ite (.fail (by decide)) .ok
theorem qDr(a:∀p,NZ (E p)):∀(n:Nat) (l:List Int) (p:Ps),NZ (pT ts E n l p)
 |0,_,_=> .fail (by decide)
 |n+1,_,p=> .bind (a p) fun _=> .ite (qDr a n _ _) (.bind sY fun _=> .ok)
theorem qJk(a:∀p,NZ (E p))(p:Ps):NZ (pN ts E p):= .bind sY fun _=> .ite .ok (qDr a _ _ _)
theorem qNj(a:∀p,NZ (E p))(t:bB)(p:Ps):NZ (nH ts E t p):=
 .bind sY fun _=> .bind (.ite (.bind MY fun _=> .bind sY fun _=> .bind (a _) fun _=> .ok) (.ite (.bind MY fun _=> .ok) (.ite (.bind MY fun _=> .ok) (.ite (.bind qRm fun _=> .ok) (.bind IL fun _=> .ite (.fail (by decide)) .ok))))) fun _=> .bind sY fun _=>AR
theorem qOd(a:∀p,NZ (E p))(p:Ps):NZ (lL ts ps E p):=by
 unfold lL
 refine .ite AR (.ite (.bind IL fun _=>AR) (.ite (.bind (a _) fun _=> .bind sY fun _=> .ok) (.ite (.fail (by decide)) (.ite (qNj a _ _) (.ite (.fail (by decide)) (.ite (.bind (qJk a _) fun _=>AR) ?_))))))
 split
 .exact AR
 exact .fail (by decide)
theorem qDw{level:Nat}(a:∀p,NZ (S p)):∀(n x:Nat) (p:Ps),NZ (lM ts level S n x p)
 |0,_,_=> .fail (by decide)
 |n+1,_,p=> .ite .ok (.bind (a _) fun _=> .bind AR fun _=> .ite .ok (qDw a n _ _))
theorem RO{level:Nat}(a:∀p,NZ (S p))(p:Ps):NZ (nI ts level S p):= .bind (a p) fun _=>qDw a _ _ _
theorem IT:∀(k:Nat) (p:Ps),NZ (bZ ts ps k p)
 |0,_=> .fail (by decide)
 |k+1,p=> .ite (.bind (IT k _) fun _=> .bind SX fun _=> .bind (IT k _) fun _=> .bind SX fun _=> .bind (IT k _) fun _=>AR) (RO (RO (RO (qOd (IT k)))) p)
theorem ZX:∀(n:Nat) (l:List BA) (i:Nat),NZ (qB ts n l i)
 |0,_,_=> .fail (by decide)
 |n+1,_,_=> .bind MX fun _=> .ite (.fail (by decide)) (.ite (.fail (by decide)) (.ite (ZX n _ _) (.bind sY fun _=> .ok)))
theorem qUf(before:List Dl)(i:Nat):NZ (mD ts before i):=by
 unfold mD
 refine .ite (.fail (by decide)) (.ite (.fail (by decide)) (.bind (.ite MY MX) fun _=> .ite (.fail (by decide)) (.bind (.ite (.bind sY fun _=> .ite .ok (ZX _ _ _)) .ok) fun _=> .bind sY fun _=> .bind (IT _ _) fun _=> .bind sY fun _=> .ok)))
theorem ZM{pkg:BA}:∀(n:Nat) (l:List BA) (i:Nat),NZ (nR ts pkg n l i)
 |0,_,_=> .fail (by decide)
 |n+1,_,_=> .ite (.ite (.fail (by decide)) (.bind MX fun _=> .ite (.fail (by decide)) (.bind sY fun _=>ZM n _ _))) .ok
theorem qBr:∀(n:Nat) (l:List Dl) (i:Nat),NZ (oI ts n l i)
 |0,_,_=> .fail (by decide)
 |n+1,_,_=> .ite .ok (.bind (qUf _ _) fun _=>qBr n _ _)
theorem TH:NZ (oN ts):= .bind SX fun _=> .bind MX fun _=> .bind sY fun _=> .bind (ZM _ _ _) fun _=> .bind (qBr _ _ _) fun _=> .ok
end
theorem ZB{s:BA}{f:Sr}(h:nU s=(f,0,0)):pO f=0/\(∀d∈f.2.2,pW d<=32)/\(sG f).length<=3*s.size:=by
 unfold nU at h
 split at h
 .rename_i hn
  exact absurd (congrArg (fun z=>z.2.2) h) hn
 rename_i k
 have k:(iP s).2.2=0:=by simpa using k
 obtain⟨l,n⟩:=qJn k
 split at h
 .rename_i z hz0
  exact absurd (congrArg (fun y=>y.2.2) h) (TH z hz0)
 rename_i g hg
 obtain rfl:g=f:=congrArg (fun z=>z.1) h
 obtain⟨a,b,e,c⟩:=qOj l hg
 exact⟨a,b,Nat.le_trans c (n e)⟩
end
section
open Go Go.Dc
def iZ(d:List UInt8):lK×Nat×Int:=
 if kd (d.getD 0 0)=1 then
  if(d.takeWhile (aV [1,2,3])).length>24 then((0,⟨#[]⟩,0),0,2) else((1,⟨(d.takeWhile (aV [1,2,3])).toArray⟩,0),(d.takeWhile (aV [1,2,3])).length,0)
 else if kd (d.getD 0 0)=2 then
  if mQ (d.takeWhile (aV [2]))>9007199254740992 then((0,⟨#[]⟩,0),0,3) else((2,⟨#[]⟩,mQ (d.takeWhile (aV [2]))),(d.takeWhile (aV [2])).length,0)
 else if kd (d.getD 0 0)=7 then
  if d.getD (((d.drop 1).takeWhile eD).length+1) 0=34 then((3,⟨((d.drop 1).takeWhile eD).toArray⟩,0),((d.drop 1).takeWhile eD).length+2,0) else((0,⟨#[]⟩,0),0,9)
 else if kd (d.getD 0 0)=8 then
  ((4,⟨(d.take (if d.getD 0 0=61/\d.getD 1 0=61 then 2 else 1)).toArray⟩,0),(if d.getD 0 0=61/\d.getD 1 0=61 then 2 else 1),0)
 else((0,⟨#[]⟩,0),0,9)
theorem SM{p:UInt8->Bool}{l d:List UInt8}{i:Nat}(h:l.drop i=d):tw p l i=i+(d.takeWhile p).length:=by simp only[tw,h]
theorem LJ{l d:List UInt8}{i:Nat}(h:l.drop i=d)(j:Nat):l.getD (i+j) 0=d.getD j 0:=by
 rw[<-h,jN,jN,List.getElem?_drop]
theorem WS{l d:List UInt8}{i:Nat}(h:l.drop i=d)(j:Nat):l.drop (i+j)=d.drop j:=by rw[<-h,dS]
theorem LX{s:BA}{d:List UInt8}{i:Nat}(h:s.data.toList.drop i=d)(j:Nat):s.extract i (i+j)=⟨(d.take j).toArray⟩:=by
 apply ByteArray.ext
 apply Array.ext'
 simp only[ByteArray.data_extract,gU,gG,h]
 rw[show i+j-i=j by omega]
theorem qCr{p:UInt8->Bool}(d:List UInt8):d.take (d.takeWhile p).length=d.takeWhile p:=(dN.1 (fU p)).symm
theorem qUd{s:BA}{d:List UInt8}{i:Nat}(h:s.data.toList.drop i=d):(cM s i).2.2=(iZ d).2.2/\((cM s i).2.2=0->((cM s i).1.1,(cM s i).1.2.1,(cM s i).1.2.2.1)=(iZ d).1/\(cM s i).2.1=((i+(iZ d).2.1:Nat):Int)):=by
 have b:s.data.toList.getD i 0=d.getD 0 0:=LJ h 0
 have c:s.data.toList.getD (i+1) 0=d.getD 1 0:=LJ h 1
 have a:=WS h 1
 unfold cM iZ
 rw[b,SM h,SM h,SM a,h]
 by_cases k1:kd (d.getD 0 0)=1
 .rw[if_pos k1,if_pos k1]
  by_cases k2:(d.takeWhile (aV [1,2,3])).length>24
  .rw[if_pos (by omega),if_pos k2];exact⟨rfl,fun h=>by simp at h⟩
  rw[if_neg (by omega),if_neg k2]
  refine⟨rfl,fun _=>⟨?_,rfl⟩⟩
  simp only[LX h,qCr]
 rw[if_neg k1,if_neg k1]
 by_cases k2:kd (d.getD 0 0)=2
 .rw[if_pos k2,if_pos k2]
  by_cases k3:mQ (d.takeWhile (aV [2]))>9007199254740992
  .rw[if_pos k3,if_pos k3];exact⟨rfl,fun h=>by simp at h⟩
  rw[if_neg k3,if_neg k3];exact⟨rfl,fun _=>⟨rfl,rfl⟩⟩
 rw[if_neg k2,if_neg k2]
 by_cases k3:kd (d.getD 0 0)=7
 .rw[if_pos k3,if_pos k3]
  have e:s.data.toList.getD (i+1+((d.drop 1).takeWhile eD).length) 0=d.getD (((d.drop 1).takeWhile eD).length+1) 0:=by
   rw[gI,LJ h,hK 1]
  rw[e]
  by_cases k4:d.getD (((d.drop 1).takeWhile eD).length+1) 0=34
  .rw[if_pos k4,if_pos k4]
   refine⟨rfl,fun _=>⟨?_,by simp only;omega⟩⟩
   simp only[LX a,qCr]
  rw[if_neg k4,if_neg k4];exact⟨rfl,fun h=>by simp at h⟩
 rw[if_neg k3,if_neg k3]
 by_cases k4:kd (d.getD 0 0)=8
 .rw[if_pos k4,if_pos k4]
  unfold oJ
  rw[b,c]
  by_cases k5:d.getD 0 0=61/\d.getD 1 0=61
  .rw[if_pos k5,if_pos k5]
   refine⟨rfl,fun _=>⟨?_,rfl⟩⟩
   simp only[LX h]
  rw[if_neg k5,if_neg k5]
  refine⟨rfl,fun _=>⟨?_,rfl⟩⟩
  simp only[LX h]
 rw[if_neg k4,if_neg k4];exact⟨rfl,fun h=>by simp at h⟩
theorem SD{l:List UInt8}{i:Nat}(h:l.getD i 0≠0):i<l.length:=by
 rcases fR i l.length with g|g
 .exact g
 exact absurd (by rw[jN,List.getElem?_eq_none g];rfl) h
theorem qNp{d:List UInt8}(h:(iZ d).2.2=0)(a:d≠[]):(iZ d).2.1<=d.length:=by
 have b:0<d.length:=fE.2 a
 unfold iZ at h ⊢
 have t:∀p,(d.takeWhile p).length<=d.length:=fun p=>(hZ p).length_le
 split
 .split
  .exact kE _
  exact t _
 split
 .split
  .exact kE _
  exact t _
 split
 .split
  .rename_i g
   have:=SD (show d.getD _ 0≠0 by rw[g];decide)
   show _+2<=_
   omega
  exact kE _
 split
 .show(if _ then 2 else 1)<=_
  split
  .rename_i g
   have:=SD (show d.getD 1 0≠0 by rw[g.2];decide)
   omega
  omega
 exact kE _
theorem SL{p:UInt8->Bool}(l:List UInt8):l.drop (l.takeWhile p).length=l.dropWhile p:=by
 have h:=fY (l₁:=l.takeWhile p) (l₂:=l.dropWhile p)
 rw[kX] at h
 exact h
theorem DX{p:UInt8->Bool}:∀{l:List UInt8} {c:UInt8} {r:List UInt8},l.dropWhile p=c::r->p c=false
 |[],_,_,h=>by cases h
 |x::l,c,r,h=>by
  rw[hQ] at h
  split at h
  .exact DX h
  rename_i hx
  obtain⟨rfl,-⟩:=List.cons.inj h
  simpa using hx
theorem EE{p:UInt8->Bool}:∀{a b:List UInt8},(∀x∈a,p x=true)->(a++b).dropWhile p=b.dropWhile p
 |[],_,_=>rfl
 |x::a,b,h=>by
  rw[jQ,hQ,if_pos (h x (jH ..))]
  exact EE fun y c=>h y (jL _ c)
theorem DV{p:UInt8->Bool}{b:List UInt8}(h:∀c r,b=c::r->p c=false):b.dropWhile p=b:=by
 cases b with
 |nil=>rfl
 |cons c r=>rw[hQ,if_neg (by rw[h c r rfl];simp)]
def oQ:Nat->List UInt8->Int⊕List lK
 |0,_=> .inr []
 |k+1,d=>match d.dropWhile (aV [5]) with
  |[]=> .inr [(5,⟨#[]⟩,0)]
  |c::r=>if kd c=6 then oQ k ((c::r).dropWhile cF)
   else if(iZ (c::r)).2.2≠0 then .inl (iZ (c::r)).2.2
   else match oQ k ((c::r).drop (iZ (c::r)).2.1) with
    | .inl e=> .inl e
    | .inr l=> .inr ((iZ (c::r)).1::l)
def qEj:(Int×Int)⊕List bB->Int⊕List lK
 | .inl x=> .inl x.2
 | .inr r=> .inr (r.map cO)
theorem NA{s:BA}:∀(k i:Nat),i<=s.data.toList.length->qEj (iT k s i)=oQ k (s.data.toList.drop i)
 |0,_,_=>rfl
 |k+1,i,hi=>by
  have b:s.data.toList.drop (tw (aV [5]) s.data.toList i)=(s.data.toList.drop i).dropWhile (aV [5]):=by
   rw[<-SL];unfold tw;rw[dS]
  have n:=nB (p:=aV [5]) (l:=s.data.toList) (a:=i) hi
  simp only[iT,oQ]
  generalize tw (aV [5]) s.data.toList i=a at b n ⊢
  rw[<-b]
  by_cases ha:a=s.data.toList.length
  .rw[if_pos ha,ha,hU];rfl
  rw[if_neg ha]
  have g:a<s.data.toList.length:=by omega
  obtain⟨c,r,hcr⟩:∃c r,s.data.toList.drop a=c::r:=⟨_,_,jR g⟩
  have o:s.data.toList.getD a 0=c:=LJ hcr 0
  obtain⟨h,q⟩:=qUd hcr
  rw[hcr,o]
  simp only
  by_cases h6:kd c=6
  .rw[if_pos h6,if_pos h6]
   have f:=nB (p:=cF) (l:=s.data.toList) (a:=a) (by omega)
   rw[NA k _ f.2]
   have e:s.data.toList.drop (tw cF s.data.toList a)=(c::r).dropWhile cF:=by
    rw[<-hcr,<-SL];unfold tw;rw[dS]
   rw[e]
  rw[if_neg h6,if_neg h6,h]
  by_cases hz:(iZ (c::r)).2.2≠0
  .rw[if_pos hz,if_pos hz];rfl
  rw[if_neg hz,if_neg hz]
  obtain⟨t,u⟩:=q (by rw[h];simpa using hz)
  have f:=qNp (d:=c::r) (by simpa using hz) (by simp)
  have v:(c::r).length=s.data.toList.length-a:=by rw[<-hcr,gQ]
  rw[u,jX,<-WS hcr,<-NA k _ (by omega)]
  cases iT k s (a+(iZ (c::r)).2.1) with
  |inl x=>rfl
  |inr l=>
   show Sum.inr (List.map cO _)=_
   rw[kG]
   show Sum.inr ((((cM s a).1.1,(cM s a).1.2.1,(cM s a).1.2.2.1):lK)::_)=_
   rw[t];rfl
def wQ(c:UInt8):List UInt8:=if c=59\/c=40 then[32,35,32,120,10,32,c] else[c]
def cR(d:List UInt8):List UInt8:=d.flatMap wQ
theorem MK(a b:List UInt8):cR (a++b)=cR a++cR b:=fM
theorem AK(c:UInt8)(d:List UInt8):cR (c::d)=wQ c++cR d:=rfl
theorem SG{c:UInt8}(h:c≠59/\c≠40):wQ c=[c]:=if_neg fun g=>g.elim h.1 h.2
theorem NF:∀{T:List UInt8},(∀x∈T,x≠59/\x≠40)->cR T=T
 |[],_=>rfl
 |c::T,h=>by
  rw[AK,SG (h c (jH ..)),NF fun x a=>h x (jL _ a)];rfl
theorem QN{f q:List UInt8}{x:UInt8}(h:cR f=x::q):(∃q',f=x::q')\/x=32:=by
 cases f with
 |nil=>cases h
 |cons c f=>
  rw[AK] at h
  unfold wQ at h
  split at h
  .exact .inr (List.cons.inj h).1.symm
  exact .inl ⟨f,by rw[(List.cons.inj h).1]⟩
def scS:Nat->UInt8->Option Nat
 |0,c=>if c=34 then some 1 else if c=35 then some 2 else some 0
 |1,c=>if c=34 then some 0 else if c=59\/c=40 then none else some 1
 |_,c=>if c=10 then some 0 else if c=59\/c=40 then none else some 2
def sc:Nat->List UInt8->Option Nat
 |st,[]=>some st
 |st,c::r=>(scS st c).bind fun st'=>sc st' r
theorem qDi:∀(a b:List UInt8) (st:Nat),sc st (a++b)=(sc st a).bind fun t=>sc t b
 |[],_,_=>rfl
 |c::a,b,st=>by
  show(scS st c).bind (fun st'=>sc st' (a++b))=((scS st c).bind fun st'=>sc st' a).bind _
  cases scS st c with
  |none=>rfl
  |some t=>exact qDi a b t
theorem IC:∀{T f:List UInt8},(∀x∈T,x≠34/\x≠35)->sc 0 (T++f)=sc 0 f
 |[],_,_=>rfl
 |c::T,f,h=>by
  obtain⟨a,b⟩:=h c (jH ..)
  show(if c=34 then some 1 else if c=35 then some 2 else some 0).bind (fun st'=>sc st' (T++f))=_
  rw[if_neg a,if_neg b]
  exact IC fun x d=>h x (jL _ d)
theorem qCt:∀{T f:List UInt8},(∀x∈T,x≠34)->sc 1 (T++f)≠none->(∀x∈T,x≠59/\x≠40)/\sc 1 f≠none
 |[],_,_,h=>⟨fun x a=>by(cases a),h⟩
 |c::T,f,h,b=>by
  have d:=h c (jH ..)
  have b:(if c=34 then some 0 else if c=59\/c=40 then none else some 1).bind (fun st'=>sc st' (T++f))≠none:=b
  rw[if_neg d] at b
  split at b
  .exact absurd rfl b
  rename_i g
  obtain⟨k,l⟩:=qCt (T:=T) (f:=f) (fun x a=>h x (jL _ a)) b
  refine⟨fun x a=> ?_,l⟩
  rcases jT.1 a with rfl|a
  .exact⟨fun e=>g (.inl e),fun e=>g (.inr e)⟩
  exact k x a
theorem qCe:∀{T f:List UInt8},(∀x∈T,x≠10)->sc 2 (T++f)≠none->(∀x∈T,x≠59/\x≠40)/\sc 2 f≠none
 |[],_,_,h=>⟨fun x a=>by(cases a),h⟩
 |c::T,f,h,b=>by
  have d:=h c (jH ..)
  have b:(if c=10 then some 0 else if c=59\/c=40 then none else some 2).bind (fun st'=>sc st' (T++f))≠none:=b
  rw[if_neg d] at b
  split at b
  .exact absurd rfl b
  rename_i g
  obtain⟨k,l⟩:=qCe (T:=T) (f:=f) (fun x a=>h x (jL _ a)) b
  refine⟨fun x a=> ?_,l⟩
  rcases jT.1 a with rfl|a
  .exact⟨fun e=>g (.inl e),fun e=>g (.inr e)⟩
  exact k x a
theorem qOg(P:UInt8->Bool)(h:((List.range 256).all fun i=>P (UInt8.ofNat i))=true)(c:UInt8):P c=true:=by
 have:=jU.1 h c.toNat (fB.2 c.toNat_lt)
 have e:UInt8.ofNat c.toNat=c:=by simp
 rwa[e] at this
def yJ(c:UInt8):Bool:=(!(aV [5] c||aV [1,2,3] c)||(decide (c≠59)&&decide (c≠40)&&decide (c≠34)&&decide (c≠35)))&&(!decide (kd c=8)||(decide (c≠34)&&decide (c≠35)))&&(!decide (kd c=7)||decide (c=34))&&(!decide (kd c=6)||decide (c=35))&&(!eD c||decide (c≠34))&&(!aV [2] c||aV [1,2,3] c)
theorem DZ(c:UInt8):yJ c=true:=qOg yJ (by kernel_rfl) c
theorem qDm{c:UInt8}(h:aV [5] c=true\/aV [1,2,3] c=true):(c≠59/\c≠40)/\(c≠34/\c≠35):=by
 have:=DZ c
 unfold yJ at this
 simp only[jI,gX,gT,kD,j9] at this
 rcases this.1.1.1.1.1 with g|g
 .rcases h with h|h
  .rw[h] at g;cases g.1
  rw[h] at g;cases g.2
 exact⟨g.1.1,g.1.2,g.2⟩
theorem qTu{c:UInt8}(h:kd c=8):c≠34/\c≠35:=by
 have:=DZ c
 unfold yJ at this
 simp only[jI,gX,gT,j9,decide_eq_false_iff_not] at this
 exact this.1.1.1.1.2.resolve_left fun g=>g h
theorem qTe{c:UInt8}(h:kd c=7):c=34:=by
 have:=DZ c
 unfold yJ at this
 simp only[jI,gX,gT,j9,decide_eq_false_iff_not] at this
 exact this.1.1.1.2.resolve_left fun g=>g h
theorem qSy{c:UInt8}(h:kd c=6):c=35:=by
 have:=DZ c
 unfold yJ at this
 simp only[jI,gX,gT,j9,decide_eq_false_iff_not] at this
 exact this.1.1.2.resolve_left fun g=>g h
theorem qUr{c:UInt8}(h:eD c=true):c≠34:=by
 have:=DZ c
 unfold yJ at this
 simp only[jI,gX,gT,j9] at this
 rcases this.1.2 with g|g
 .rw[h] at g;cases g
 exact g
theorem qUi{c:UInt8}(h:aV [2] c=true):aV [1,2,3] c=true:=by
 have:=DZ c
 unfold yJ at this
 simp only[jI,gX,gT] at this
 rcases this.2 with g|g
 .rw[h] at g;cases g
 exact g
theorem yE{p:UInt8->Bool}{l:List UInt8}:∀x∈l.takeWhile p,p x=true:=fun x a=>jU.1 (List.all_takeWhile (p:=p) (l:=l)) x a
theorem qCv{p:UInt8->Bool}{e:List UInt8}(h:∀x,p x=true->aV [1,2,3] x=true)(c:p 32=false)(f:sc 0 e≠none):
  e=e.takeWhile p++e.dropWhile p/\(∀x∈e.takeWhile p,x≠59/\x≠40)/\sc 0 (e.dropWhile p)≠none/\(e.takeWhile p++cR (e.dropWhile p)).takeWhile p=e.takeWhile p:=by
 have b:e=e.takeWhile p++e.dropWhile p:=kX.symm
 have d:∀x∈e.takeWhile p,(x≠59/\x≠40)/\(x≠34/\x≠35):=fun x a=>qDm (.inr (h x (yE x a)))
 refine⟨b,fun x a=>(d x a).1,?_,CW yE fun x q k=> ?_⟩
 .rw[b,IC fun x a=>(d x a).2] at f
  exact f
 rcases QN k with ⟨q',g⟩|rfl
 .exact DX g
 exact c
theorem ZQ{p:UInt8->Bool}{c:UInt8}{r b:List UInt8}(h:p c=true):((c::r).takeWhile p++b).getD 0 0=c:=by
 rw[kV h];rfl
theorem qNx{c:UInt8}{r:List UInt8}(G:c≠59/\c≠40)(a:(iZ (c::r)).2.2=0)(A:sc 0 (c::r)≠none):
  ∃T f,c::r=T++f/\(∀x∈T,x≠59/\x≠40)/\(iZ (c::r)).2.1=T.length/\0<T.length/\sc 0 f≠none/\iZ (T++cR f)=iZ (c::r):=by
 have o:(c::r).getD 0 0=c:=rfl
 by_cases b:kd c=1
 .have d:aV [1,2,3] c=true:=by unfold aV;simp[b]
  obtain⟨y,z,B,D⟩:=qCv (p:=aV [1,2,3]) (e:=c::r) (fun _ h=>h) (by kernel_rfl) A
  have s:(iZ (c::r)).2.1=((c::r).takeWhile (aV [1,2,3])).length:=by
   unfold iZ at a ⊢
   rw[o,if_pos b] at a ⊢
   split
   .rename_i g;rw[if_pos g] at a;cases a
   rfl
  refine⟨_,_,y,z,s,?_,B,?_⟩
  .rw[kV d];exact Nat.succ_pos _
  unfold iZ
  rw[ZQ d,D,o,if_pos b,if_pos b]
 by_cases k:kd c=2
 .have d:aV [2] c=true:=by unfold aV;simp[k]
  obtain⟨y,z,B,D⟩:=qCv (p:=aV [2]) (e:=c::r) (fun _ h=>qUi h) (by kernel_rfl) A
  have s:(iZ (c::r)).2.1=((c::r).takeWhile (aV [2])).length:=by
   unfold iZ at a ⊢
   rw[o,if_neg b,if_pos k] at a ⊢
   split
   .rename_i g;rw[if_pos g] at a;cases a
   rfl
  refine⟨_,_,y,z,s,?_,B,?_⟩
  .rw[kV d];exact Nat.succ_pos _
  unfold iZ
  rw[ZQ d,D,o,if_neg b,if_neg b,if_pos k,if_pos k]
 by_cases v:kd c=7
 .obtain rfl:=qTe v
  have E:(34::r).drop 1=r:=rfl
  have u:(34::r).getD ((r.takeWhile eD).length+1) 0=34:=by
   unfold iZ at a
   rw[o,if_neg b,if_neg k,if_pos v,E] at a
   split at a
   .assumption
   cases a
  have F:r=r.takeWhile eD++r.dropWhile eD:=kX.symm
  obtain⟨f,hf⟩:∃f,r.dropWhile eD=34::f:=by
   have g:(34::r).getD ((r.takeWhile eD).length+1) 0=r.getD (r.takeWhile eD).length 0:=rfl
   rw[g] at u
   have d:=SD (l:=r) (show r.getD (r.takeWhile eD).length 0≠0 by rw[u];decide)
   have s:=SL (p:=eD) r
   rw[jR d] at s
   rw[jN,List.getElem?_eq_getElem d] at u
   have u:r[(r.takeWhile eD).length]=34:=u
   exact⟨_,by rw[<-s,u]⟩
  rw[hf] at F
  have K:sc 1 (r.takeWhile eD++34::f)≠none:=by
   rw[<-F]
   have:sc 0 (34::r)=sc 1 r:=rfl
   rw[this] at A;exact A
  obtain⟨S,U⟩:=qCt (fun x d=>qUr (yE x d)) K
  refine⟨34::(r.takeWhile eD++[34]),f,?_,fun x d=> ?_,?_,Nat.succ_pos _,U,?_⟩
  .conv=>lhs;rw[F]
   simp
  .rcases jT.1 d with rfl|d
   .exact G
   rcases kL.1 d with d|d
   .exact S x d
   rw[jK.1 d];exact G
  .unfold iZ
   rw[o,if_neg b,if_neg k,if_pos v,E,if_pos u]
   simp
  have t:(r.takeWhile eD++34::cR f).takeWhile eD=r.takeWhile eD:=CW yE fun x q h=>by
   obtain⟨rfl,-⟩:=List.cons.inj h
   rfl
  have eL:34::(r.takeWhile eD++[34])++cR f=34::(r.takeWhile eD++34::cR f):=by simp
  have R:(34::(r.takeWhile eD++34::cR f)).getD 0 0=34:=rfl
  have M:(34::(r.takeWhile eD++34::cR f)).drop 1=r.takeWhile eD++34::cR f:=rfl
  have H:(34::(r.takeWhile eD++34::cR f)).getD ((r.takeWhile eD).length+1) 0=34:=by
   show(r.takeWhile eD++34::cR f).getD (r.takeWhile eD).length 0=34
   exact tQ
  rw[eL]
  unfold iZ
  rw[o,R,if_neg b,if_neg b,if_neg k,if_neg k,if_pos v,if_pos v,E,M,t,if_pos u,if_pos H]
 by_cases k8:kd c=8
 .have u:=qTu k8
  have key:∀(T f:List UInt8) (n:Nat),c::r=T++f->T.length=n->(∀x∈T,x≠59/\x≠40)->(∀x∈T,x≠34/\x≠35)->0<n->(if(c::r).getD 0 0=61/\(c::r).getD 1 0=61 then 2 else 1)=n->(if(T++cR f).getD 0 0=61/\(T++cR f).getD 1 0=61 then 2 else 1)=n->(T++cR f).getD 0 0=c->
    ∃T f,c::r=T++f/\(∀x∈T,x≠59/\x≠40)/\(iZ (c::r)).2.1=T.length/\0<T.length/\sc 0 f≠none/\iZ (T++cR f)=iZ (c::r):=by
   intro T f n y z B D K E F H
   refine⟨T,f,y,B,?_,by omega,?_,?_⟩
   .unfold iZ
    rw[o,if_neg b,if_neg k,if_neg v,if_pos k8]
    rw[o] at E
    exact E.trans z.symm
   .rw[y,IC D] at A;exact A
   unfold iZ
   rw[F,E,H,o,if_neg b,if_neg b,if_neg k,if_neg k,if_neg v,if_neg v,if_pos k8,if_pos k8,y,<-z,fJ,fJ]
  by_cases y:c=61/\r.getD 0 0=61
  .obtain⟨rfl,y⟩:=y
   obtain⟨f,rfl⟩:∃f,r=61::f:=by
    cases r with
    |nil=>cases y
    |cons x f=>exact⟨f,by rw[show x=61 from y]⟩
   exact key [61,61] f 2 rfl rfl (by decide) (by decide) (by decide) (if_pos ⟨rfl,rfl⟩) (if_pos ⟨rfl,rfl⟩) rfl
  refine key [c] r 1 rfl rfl (fun x d=> ?_) (fun x d=> ?_) (by decide) (if_neg y) (if_neg ?_) rfl
  .rw[jK.1 d];exact G
  .rw[jK.1 d];exact u
  rintro⟨z,s⟩
  have z:c=61:=z
  have s:(cR r).getD 0 0=61:=s
  refine y ⟨z,?_⟩
  cases hi:cR r with
  |nil=>rw[hi] at s;cases s
  |cons x q=>
   rw[hi] at s
   have s:x=61:=s
   subst s
   rcases QN hi with ⟨q',rfl⟩|g
   .rfl
   exact absurd g (by decide)
 exfalso
 unfold iZ at a
 rw[o,if_neg b,if_neg k,if_neg v,if_neg k8] at a
 cases a
theorem LF{k:Nat}{d e:List UInt8}{c:UInt8}(h:d.dropWhile (aV [5])=c::e)(a:kd c≠6)(b:(iZ (c::e)).2.2=0):oQ (k+1) d=match oQ k ((c::e).drop (iZ (c::e)).2.1) with
  | .inl e=> .inl e
  | .inr l=> .inr ((iZ (c::e)).1::l):=by
 rw[oQ,h]
 simp only
 rw[if_neg a,if_neg (by simpa using b)]
theorem ZR{c:UInt8}(h:c=59\/c=40)(t:List UInt8):kd c≠6/\aV [5] c=false/\iZ (c::t)=((4,⟨#[c]⟩,0),1,0):=by
 have b:¬(((c::t).getD 0 0=61)/\(c::t).getD 1 0=61):=fun g=>by
  have a:c=61:=g.1
  rcases h with rfl|rfl<;>exact absurd a (by decide)
 have a:kd c=8:=by rcases h with rfl|rfl<;>kernel_rfl
 have d:(c::t).getD 0 0=c:=rfl
 refine⟨by rw[a];decide,by unfold aV;simp[a],?_⟩
 unfold iZ
 rw[if_neg b,d,if_neg (by rw[a];decide),if_neg (by rw[a];decide),if_neg (by rw[a];decide),if_pos a]
 rfl
theorem qOa:∀(n:Nat) (d:List UInt8) (k k':Nat) (r:List lK),d.length<=n->sc 0 d≠none->d.length<k->(cR d).length<k'->oQ k d= .inr r->oQ k' (cR d)= .inr r:=by
 intro n
 induction n with
 |zero=>
  intro d k k' r R _ h3 h4 h
  obtain rfl:=kY.1 (Nat.le_zero.1 R)
  obtain⟨k,rfl⟩:∃j,k=j+1:=⟨k-1,by omega⟩
  obtain⟨k',rfl⟩:∃j,k'=j+1:=⟨k'-1,by omega⟩
  exact h
 |succ n M=>
  intro d k k' r R S h3 h4 h
  obtain⟨k,rfl⟩:∃j,k=j+1:=⟨k-1,by omega⟩
  have G:d=d.takeWhile (aV [5])++d.dropWhile (aV [5]):=kX.symm
  have U:∀x∈d.takeWhile (aV [5]),(x≠59/\x≠40)/\(x≠34/\x≠35):=fun x o=>qDm (.inl (yE x o))
  have E:sc 0 (d.dropWhile (aV [5]))≠none:=by
   rw[G,IC fun x o=>(U x o).2] at S;exact S
  have eI:cR d=d.takeWhile (aV [5])++cR (d.dropWhile (aV [5])):=by
   conv=>lhs;rw[G]
   rw[MK,NF fun x o=>(U x o).1]
  have s:(cR d).dropWhile (aV [5])=(cR (d.dropWhile (aV [5]))).dropWhile (aV [5]):=by rw[eI,EE yE]
  have K:d.length=(d.takeWhile (aV [5])).length+(d.dropWhile (aV [5])).length:=by
   conv=>lhs;rw[G]
   exact jA
  have v:(cR d).length=(d.takeWhile (aV [5])).length+(cR (d.dropWhile (aV [5]))).length:=by rw[eI];exact jA
  generalize (d.takeWhile (aV [5])).length=nb at K v
  cases he:d.dropWhile (aV [5]) with
  |nil=>
   rw[oQ,he] at h
   rw[he] at s
   obtain⟨k',rfl⟩:∃j,k'=j+1:=⟨k'-1,by omega⟩
   rw[oQ,s]
   exact h
  |cons c t=>
   have V:aV [5] c=false:=DX he
   rw[he] at E s K v
   rw[jC] at K
   by_cases hc:c=59\/c=40
   .obtain⟨D,s2,F⟩:=ZR hc t
    rw[LF he D (by rw[F]),F] at h
    have h:(match oQ k t with
     | .inl e=> .inl e
     | .inr l=> .inr (((4,⟨#[c]⟩,0):lK)::l):Int⊕List lK)= .inr r:=h
    have hi:cR (c::t)=[32,35,32,120,10,32]++c::cR t:=by
     rw[AK];unfold wQ;rw[if_pos hc];rfl
    rw[hi] at s v
    have v:(cR d).length=nb+(6+((cR t).length+1)):=by rw[v,jA,jC];rfl
    have s:(cR d).dropWhile (aV [5])=35::32::120::10::32::c::cR t:=by
     rw[s]
     exact(EE (a:=[32]) (fun x o=>by rw[jK.1 o];kernel_rfl)).trans (DV fun x q g=>by
      obtain⟨rfl,-⟩:=List.cons.inj g
      kernel_rfl)
    obtain⟨j,rfl⟩:∃j,k'=j+2:=⟨k'-2,by omega⟩
    rw[oQ,s]
    simp only
    rw[if_pos (show kd 35=6 by kernel_rfl)]
    have H:(35::32::120::10::32::c::cR t).dropWhile cF=10::32::c::cR t:=by
     exact(EE (a:=[35,32,120]) (b:=10::32::c::cR t) (by decide)).trans (DV fun x q g=>by
      obtain⟨rfl,-⟩:=List.cons.inj g
      rfl)
    rw[H]
    have Z:(10::32::c::cR t).dropWhile (aV [5])=c::cR t:=
     (EE (a:=[10,32]) (b:=c::cR t) (fun x o=>by
      rcases jT.1 o with rfl|o
      .kernel_rfl
      .rw[jK.1 o];kernel_rfl)).trans (DV fun x q g=>by
      obtain⟨rfl,-⟩:=List.cons.inj g
      exact s2)
    obtain⟨-,-,Y⟩:=ZR hc (cR t)
    rw[LF Z D (by rw[Y]),Y]
    show(match oQ j (cR t) with
     | .inl e=> .inl e
     | .inr l=> .inr (((4,⟨#[c]⟩,0):lK)::l):Int⊕List lK)= .inr r
    have B:sc 0 t≠none:=by
     have g:c≠34/\c≠35:=by rcases hc with rfl|rfl<;>decide
     have:=IC (T:=[c]) (f:=t) (fun x o=>by rw[jK.1 o];exact g)
     rw[show[c]++t=c::t from rfl] at this
     rw[this] at E;exact E
    cases A:oQ k t with
    |inl e=>rw[A] at h;cases h
    |inr l=>
     rw[A] at h
     rw[M t k j l (by omega) B (by omega) (by omega) A]
     exact h
   have Y:c≠59/\c≠40:=⟨fun g=>hc (.inl g),fun g=>hc (.inr g)⟩
   by_cases h6:kd c=6
   .obtain rfl:=qSy h6
    have e2:35::t=(35::t).takeWhile cF++(35::t).dropWhile cF:=kX.symm
    rw[oQ,he] at h
    simp only at h
    rw[if_pos h6] at h
    have Z:sc 2 (t.takeWhile cF++t.dropWhile cF)≠none:=by
     rw[kX];exact E
    obtain⟨i1,i2⟩:=qCe (fun x o=>by
     have:=yE x o
     unfold cF at this
     simpa using this) Z
    have eN:(35::t).dropWhile cF=t.dropWhile cF:=by rw[hQ,if_pos (by rfl)]
    rw[eN] at h
    have i3:sc 0 (t.dropWhile cF)≠none:=by
     cases B:t.dropWhile cF with
     |nil=>intro g;cases g
     |cons x q=>
      have o:=DX B
      have o:x=10:=by unfold cF at o;simpa using o
      subst o
      rw[B] at i2
      exact i2
    have D:cR (35::t)=35::(t.takeWhile cF++cR (t.dropWhile cF)):=by
     rw[AK,SG Y]
     conv=>lhs;rw[<-kX (p:=cF) (l:=t)]
     rw[MK,NF i1];rfl
    rw[D] at s v
    have s:(cR d).dropWhile (aV [5])=35::(t.takeWhile cF++cR (t.dropWhile cF)):=by
     rw[s]
     exact DV fun x q g=>by
      obtain⟨rfl,-⟩:=List.cons.inj g
      kernel_rfl
    rw[jC,jA] at v
    have a1:t.length=(t.takeWhile cF).length+(t.dropWhile cF).length:=by
     conv=>lhs;rw[<-kX (p:=cF) (l:=t)]
     exact jA
    obtain⟨j,rfl⟩:∃j,k'=j+1:=⟨k'-1,by omega⟩
    rw[oQ,s]
    simp only
    rw[if_pos h6]
    have H:(35::(t.takeWhile cF++cR (t.dropWhile cF))).dropWhile cF=cR (t.dropWhile cF):=by
     rw[hQ,if_pos (by rfl),EE yE]
     refine DV fun x q g=> ?_
     rcases QN g with ⟨q',g⟩|rfl
     .exact DX g
     exfalso
     cases B:t.dropWhile cF with
     |nil=>rw[B] at g;cases g
     |cons y z=>
      have F:=DX B
      have F:y=10:=by unfold cF at F;simpa using F
      subst F
      rw[B,AK,SG (by decide)] at g
      exact absurd (List.cons.inj g).1 (by decide)
    rw[H]
    exact M _ k j r (by omega) i3 (by omega) (by omega) h
   by_cases hz:(iZ (c::t)).2.2=0
   .rw[LF he h6 hz] at h
    obtain⟨T,f,t1,t2,B,H,Z,F⟩:=qNx Y hz E
    rw[B] at h
    conv at h=>lhs;rw[t1]
    rw[fY,<-t1] at h
    have D:cR (c::t)=T++cR f:=by rw[t1,MK,NF t2]
    obtain⟨u,hu⟩:∃u,T=c::u:=by
     cases T with
     |nil=>cases H
     |cons x u=>exact⟨u,by rw[(List.cons.inj t1).1]⟩
    rw[D] at s v
    have s:(cR d).dropWhile (aV [5])=c::(u++cR f):=by
     rw[s,hu]
     exact DV fun x q g=>by
      obtain⟨rfl,-⟩:=List.cons.inj g
      exact V
    have eT:c::(u++cR f)=T++cR f:=by rw[hu];rfl
    have a1:t.length+1=T.length+f.length:=by
     have:=congrArg List.length t1
     rw[jC,jA] at this
     exact this
    rw[jA] at v
    obtain⟨j,rfl⟩:∃j,k'=j+1:=⟨k'-1,by omega⟩
    rw[LF s h6 (by rw[eT,F];exact hz),eT,F,B,fY]
    cases A:oQ k f with
    |inl e=>rw[A] at h;cases h
    |inr l=>
     rw[A] at h
     rw[M f k j l (by omega) Z (by omega) (by omega) A]
     exact h
   rw[oQ,he] at h
   simp only at h
   rw[if_neg h6,if_pos hz] at h
   cases h
theorem qDj:∀l:List UInt8,l.length<=(cR l).length
 |[]=>jP _
 |c::l=>by
  have:=qDj l
  rw[AK,jA,jC]
  have h:1<=(wQ c).length:=by
   unfold wQ
   split
   .exact(by decide:1<=7)
   exact jP 1
  omega
def Wt(x:BA)(p q n:Nat):Prop:=(cR x.data.toList).length<=n/\sc p x.data.toList=some q
section
variable {x y:BA} {p q r n m:Nat}
theorem Wt.size(h:Wt x p q n):x.size<=n:=by
 have:=qDj x.data.toList
 have e:x.data.toList.length=x.size:=iH x
 have:=h.1
 omega
theorem Wt.mono(h:Wt x p q n)(a:n<=m):Wt x p q m:=⟨Nat.le_trans h.1 a,h.2⟩
theorem Wt.app(a:Wt x p q n)(b:Wt y q r m):Wt (x++y) p r (n+m):=by
 have e:(x++y).data.toList=x.data.toList++y.data.toList:=by simp
 unfold Wt
 rw[e,MK,qDi,a.2,jA]
 exact⟨Nat.add_le_add a.1 b.1,b.2⟩
def qEt(x:BA)(p q k:Nat):Bool:=decide ((cR x.data.toList).length<=x.size+6*k)&&decide (sc p x.data.toList=some q)
theorem Wt.lit(k q:Nat)(h:qEt x p q k=true):Wt x p q (x.size+6*k):=by
 unfold qEt at h
 simp only[jI,j9] at h
 exact h
def ES(x:BA):Bool:=decide (x.size<=7)&&decide ((cR x.data.toList).length<=7)&&decide (sc 0 x.data.toList=some 0)&&decide (sc 1 x.data.toList=some 1)
theorem Wt.neu(h:ES x=true):Wt x 1 1 7/\Wt x 0 0 7:=by
 unfold ES at h
 simp only[jI,j9] at h
 exact⟨⟨h.1.1.2,h.2⟩,⟨h.1.1.2,h.1.2⟩⟩
end
section
variable {β:Type} {Q:β->Prop} {N:Nat} {l:List Int} {a:Int}
theorem Ok.catW{x y:BA}{f:BA->Option β}{q r n m:Nat}(a:Wt x 0 q n)(b:Wt y q r m)(c:n+m<=1000000000)(h:∀s:BA,Wt s 0 r (n+m)->Ok (f s) Q):Ok ((cA x y).bind f) Q:=by
 have:=a.size
 have:=b.size
 unfold cA
 rw[if_pos (by simp only[maxLen];omega)]
 exact h _ (a.app b)
theorem Ok.oneW{L:List BA}{f:(List Int×Int)×BA->Option β}(c:0<=a)(d:a<4611686018427387904)(b:(decide (0<L.length)&&decide (L.length<1000)&&L.all ES)=true)(h:∀x:BA,Wt x 1 1 7->Wt x 0 0 7->Ok (f ((l,a+1),x)) Q):Ok ((oF N (l,a) L).bind f) Q:=by
 simp only[jI,j9] at b
 exact Ok.one c d b.1.1 b.1.2 fun x e=>by
  have:=Wt.neu (jU.1 b.2 x e)
  exact h x this.1 this.2
theorem Ok.onePW{L:List BA}{f:(List Int×Int)×BA->Option β}(d:0<=a)(e:a<4611686018427387904)(g:decide ((List.length L:Int)>0)=true)(b:L.length<1000)(c:∀x∈L,Wt x 0 0 7)(h:∀x:BA,Wt x 0 0 7->Ok (f ((l,a+1),x)) Q):Ok ((oF N (l,a) L).bind f) Q:=
 Ok.one d e (by have:=gS g;omega) b fun x k=>h x (c x k)
theorem qQj:∀i:Nat,i<10->Wt ((⟨#[48,49,50,51,52,53,54,55,56,57]⟩:BA).extract i (i+1)) 0 0 1:=by
 have h:((List.range 10).all fun i=>decide ((cR ((⟨#[48,49,50,51,52,53,54,55,56,57]⟩:BA).extract i (i+1)).data.toList).length<=1)&&decide (sc 0 ((⟨#[48,49,50,51,52,53,54,55,56,57]⟩:BA).extract i (i+1)).data.toList=some 0))=true:=by decide+kernel
 intro i hi
 have:=jU.1 h i (fB.2 hi)
 simp only[jI,j9] at this
 exact this
theorem LT:∀(k D:Nat) (x:Int),k<D->k<=100->0<=x->x<10^(k+1)->x<=9223372036854775806->Ok (GI N D x) fun s=>Wt s 0 0 (k+1)
 |_,0,_,h,_,_,_,_=>absurd h (kT _)
 |k,D+1,x,q,n,a,d,p=>by
  show Ok (GK N (GI N D) x) _
  unfold GK
  have o:ByteArray.size (⟨#[48,49,50,51,52,53,54,55,56,57]⟩:BA)=10:=rfl
  by_cases hx:x<10
  .rw[if_pos (by simpa using hx),bT (by omega) (by omega),LE a (by omega) (by omega)]
   refine Ok.mk ?_
   have e:(x+1).toNat=x.toNat+1:=by omega
   rw[e]
   exact(qQj x.toNat (by omega)).mono (by omega)
  rw[if_neg (by simpa using hx)]
  obtain⟨k,rfl⟩:∃k',k=k'+1:=by
   cases k with
   |zero=>simp at d;omega
   |succ k=>exact⟨k,rfl⟩
  obtain⟨D,rfl⟩:∃D',D=D'+1:=⟨D-1,by omega⟩
  have b:Int.tdiv x 10=x/10:=Int.tdiv_eq_ediv_of_nonneg a
  have c:Int.tmod x 10=x%10:=Int.tmod_eq_emod_of_nonneg a
  have r:(10:Int)^(k+1+1)=10*10^(k+1):=by rw[Int.pow_succ];omega
  rw[b,c,bT (by omega) (by omega)]
  refine Ok.bind (LT k (D+1) (x/10) (by omega) (by omega) (by omega) (by omega) (by omega)) fun s f=> ?_
  refine Ok.bind (LT 0 (D+1) (x%10) (by omega) (by omega) (by omega) (by simp;omega) (by omega)) fun t g=> ?_
  exact Ok.catW f g (by omega) fun u l=>Ok.mk (l.mono (by omega))
theorem Ok.digitsW{x:Int}{f:BA->Option β}(a:0<=x)(b:x<=9007199254740992)(c:100<N)(h:∀s:BA,Wt s 0 0 16->Ok (f s) Q):Ok ((GR N x).bind f) Q:=
 Ok.bind (LT 15 N x (by omega) (by omega) a (by rw[show(10:Int)^(15+1)=10000000000000000 from by kernel_rfl];omega) (by omega)) h
theorem Ok.digitsW2{x:Int}{f:BA->Option β}(a:0<=x)(b:x<=99)(c:100<N)(h:∀s:BA,Wt s 0 0 2->Ok (f s) Q):Ok ((GR N x).bind f) Q:=
 Ok.bind (LT 1 N x (by omega) (by omega) a (by rw[show(10:Int)^(1+1)=100 from by kernel_rfl];omega) (by omega)) h
theorem Ok.pickS2{L:List Int}{f:(List Int×Int)×Int->Option β}(c:0<=a)(d:a<4611686018427387904)(b:(decide (0<L.length)&&decide (L.length<1000)&&L.all fun x=>decide (0<=x/\x<=99))=true)(h:∀x:Int,0<=x->x<=99->Ok (f ((l,a+1),x)) Q):Ok ((uJ N (l,a) L).bind f) Q:=by
 simp only[jI,j9] at b
 exact Ok.pick c d b.1.1 b.1.2 fun x e=>by
  have:=jU.1 b.2 x e
  simp only[j9] at this
  exact h x this.1 this.2
end
def tG:Nat->Nat
 |0=>21
 |d+1=>3*tG d+24
theorem qDy:∀d,21<=tG d
 |0=>jP _
 |d+1=>by have:=qDy d;simp only[tG];omega
section
variable {N:Nat} {l:List Int}
def EI(N:Nat)(l:List Int)(E:(List Int×Int)->Int->List BA->Option ((List Int×Int)×BA))(d:Nat)(ps:List BA):Prop:=
 ∀a:Int,0<=a->a+qD d<2000000000000000000->Ok (E (l,a) (d:Int) ps) fun y=>∃a' s,y=((l,a'),s)/\a<=a'/\a'<=a+qD d/\Wt s 0 0 (tG d)
theorem Ok.exprW{β:Type}{Q:β->Prop}{E:(List Int×Int)->Int->List BA->Option ((List Int×Int)×BA)}{d:Nat}{ps:List BA}(n:EI N l E d ps){a:Int}{f:(List Int×Int)×BA->Option β}(g:0<=a)(k:a+qD d<2000000000000000000)
  (h:∀(a':Int) (s:BA),a<=a'->a'<=a+qD d->Wt s 0 0 (tG d)->Ok (f ((l,a'),s)) Q):Ok ((E (l,a) (d:Int) ps).bind f) Q:=
 Ok.bind (n a g k) fun y o=>by
  obtain⟨a',s,rfl,b,c,e⟩:=o
  exact h a' s b c e
theorem YB(d:Nat)(a:d<=5):qD d<=10000/\tG d<=20000:=by
 match d,a with
 |0,_=>decide
 |1,_=>decide
 |2,_=>decide
 |3,_=>decide
 |4,_=>decide
 |5,_=>decide
set_option maxHeartbeats 4000000 in
theorem qKt{E:(List Int×Int)->Int->List BA->Option ((List Int×Int)×BA)}{d:Nat}{ps:List BA}(g:d=0)(e:ps.length<1000)(b:∀x∈ps,Wt x 0 0 7)(c:100<N):EI N l (zD N E) d ps:=by
 subst g
 intro a k n
 have f:qD 0=8:=rfl
 have h:tG 0=21:=rfl
 simp only[zD,f,h,vO,GA]
 rw[if_pos (show decide (((0:Nat):Int)<=0)=true by decide)]
 repeat' first
  |with_reducible apply Ok.tt
  |with_reducible apply Ok.ff
  |with_reducible apply Ok.ttb
  |with_reducible apply Ok.ffb
  |with_reducible apply Ok.assoc
  |((with_reducible apply Ok.iteb)<;>intro _)
  |((with_reducible apply Ok.ite)<;>intro _)
  |with_reducible apply Ok.someb
  |with_reducible apply Ok.mapb
  |((with_reducible refine Ok.mk ⟨_,_,rfl,?_,?_,Wt.mono (by assumption) ?_⟩)<;>omega)
  |((with_reducible refine Ok.next ?_ ?_ ?_ ?_ (fun _ _ _=> ?_))<;>try omega)
  |((with_reducible refine Ok.chance ?_ ?_ ?_ ?_ (fun _=> ?_))<;>try omega)
  |((with_reducible refine Ok.pickS2 ?_ ?_ (by decide) (fun _ _ _=> ?_))<;>try omega)
  |((with_reducible refine Ok.pickS ?_ ?_ (by decide) (fun _ _ _=> ?_))<;>try omega)
  |((with_reducible refine Ok.onePW ?_ ?_ (by assumption) e b (fun _ _=> ?_))<;>try omega)
  |((with_reducible refine Ok.oneW ?_ ?_ (by decide+kernel) (fun _ _ _=> ?_))<;>try omega)
  |(with_reducible refine Ok.digitsW2 (by omega) (by omega) c (fun _ _=> ?_))
  |((with_reducible refine Ok.digitsW ?_ ?_ c (fun _ _=> ?_))<;>try omega)
  |((with_reducible refine Ok.catW (by first|assumption|exact Wt.lit 0 0 (by decide+kernel)|exact Wt.lit 0 1 (by decide+kernel)|exact Wt.lit 1 0 (by decide+kernel)|exact Wt.lit 1 1 (by decide+kernel)) (by first|assumption|exact Wt.lit 0 0 (by decide+kernel)|exact Wt.lit 0 1 (by decide+kernel)|exact Wt.lit 1 0 (by decide+kernel)|exact Wt.lit 1 1 (by decide+kernel)) ?_ (fun _ _=> ?_))<;>simp only[TK,fA,jC,jE,Nat.reduceAdd,Nat.reduceMul] at* <;>try omega)
  |((with_reducible refine Ok.catW (by first|assumption|exact Wt.lit 0 0 (by decide+kernel)|exact Wt.lit 0 1 (by decide+kernel)|exact Wt.lit 1 0 (by decide+kernel)|exact Wt.lit 1 1 (by decide+kernel)) (by first|assumption|exact Wt.lit 0 0 (by decide+kernel)|exact Wt.lit 0 1 (by decide+kernel)|exact Wt.lit 1 0 (by decide+kernel)|exact Wt.lit 1 1 (by decide+kernel)) ?_ (fun _ _=> ?_))<;>try omega)
  |dsimp only
  |(apply Ok.iteb<;>intro _)
 all_goals omega
theorem Ok.exprloopW{β:Type}{Q:β->Prop}{E:(List Int×Int)->Int->List BA->Option ((List Int×Int)×BA)}{d:Nat}{ps:List BA}(x:EI N l E d ps)(y:d<=5){p1:Int}(A:IntKind.wrap .i64 (p1-1)=(d:Int)){s:BA}{n a:Int}{f:BA×List Int×Int->Option β}{w:Nat}
  (H:n=0\/n=1) (q:0<=a) (r:a+qD d<2000000000000000000) (o:Wt s 0 0 w) (K:w<=100000000) (G:100<N) (h:∀(s':BA) (a':Int),a<=a'->a'<=a+qD d->Wt s' 0 0 (w+(tG d+2))->Ok (f (s',l,a')) Q):Ok ((aJ (GM N E p1 ps) N (s,n,l,a)).bind f) Q:=by
 have F:=YB d y
 refine Ok.loop (fun st=>∃s' n' a',st=(s',n',l,a')/\((n'=n/\a'=a/\s'=s)\/(n'=0/\a<=a'/\a'<=a+qD d/\Wt s' 0 0 (w+(tG d+2))))) (fun st=>st.2.1.toNat) (fun b=>∃s' a',b=(s',l,a')/\a<=a'/\a'<=a+qD d/\Wt s' 0 0 (w+(tG d+2))) ?_ ⟨s,n,a,rfl,.inl ⟨rfl,rfl,rfl⟩⟩ (by simp only;omega) ?_
 .rintro _ ⟨s',n',a',rfl,k⟩
  simp only[GM]
  by_cases hn0:n'>0
  .rw[if_pos (by simpa using hn0),A]
   have k:n'=n/\a'=a/\s'=s:=k.resolve_right fun h=>by omega
   obtain⟨rfl,rfl,rfl⟩:=k
   refine Ok.exprW x q r fun p t c e g=> ?_
   have z:Wt (⟨#[44,32]⟩:BA) 0 0 2:=Wt.lit 0 0 (by decide+kernel)
   refine Ok.catW z g (by omega) fun u B=> ?_
   refine Ok.catW o B (by omega) fun v D=> ?_
   refine Ok.mk ⟨⟨v,_,p,rfl,.inr ⟨by rw[bT (by omega) (by omega)];omega,c,e,D.mono (by omega)⟩⟩,?_⟩
   simp only
   rw[bT (by omega) (by omega)]
   omega
  rw[if_neg (by simpa using hn0)]
  refine Ok.mk ⟨s',a',rfl,?_⟩
  rcases k with ⟨_,rfl,rfl⟩|⟨_,c,e,g⟩
  .exact⟨by omega,by omega,o.mono (by omega)⟩
  exact⟨c,e,g⟩
 rintro _ ⟨s',a',rfl,c,e,g⟩
 exact h s' a' c e g
set_option maxHeartbeats 8000000 in
theorem qLe{E:(List Int×Int)->Int->List BA->Option ((List Int×Int)×BA)}{d:Nat}{ps:List BA}(e:EI N l E d ps)(r:d<=4)(f:ps.length<1000)(c:∀x∈ps,Wt x 0 0 7)(b:100<N):EI N l (zD N E) (d+1) ps:=by
 intro a p q
 have h:qD (d+1)=3*qD d+8:=rfl
 have k:tG (d+1)=3*tG d+24:=rfl
 have n:=qDy d
 have o:=YB d (by omega)
 have g:IntKind.wrap .i64 (((d+1:Nat):Int)-1)=(d:Int):=by rw[bT (by omega) (by omega)];omega
 simp only[zD,h,k,vO,GA,BW,g]
 repeat' first
  |with_reducible apply Ok.tt
  |with_reducible apply Ok.ff
  |with_reducible apply Ok.ttb
  |with_reducible apply Ok.ffb
  |with_reducible apply Ok.assoc
  |((with_reducible apply Ok.iteb)<;>intro _)
  |((with_reducible apply Ok.ite)<;>intro _)
  |with_reducible apply Ok.someb
  |with_reducible apply Ok.mapb
  |((with_reducible refine Ok.mk ⟨_,_,rfl,?_,?_,Wt.mono (by assumption) ?_⟩)<;>omega)
  |((with_reducible refine Ok.next ?_ ?_ ?_ ?_ (fun _ _ _=> ?_))<;>try omega)
  |((with_reducible refine Ok.chance ?_ ?_ ?_ ?_ (fun _=> ?_))<;>try omega)
  |((with_reducible refine Ok.pick01 ?_ ?_ (fun _ _=> ?_))<;>try omega)
  |((with_reducible refine Ok.exprloopW e (by omega) g (by assumption) ?_ ?_ (by assumption) ?_ b (fun _ _ _ _ _=> ?_))<;>try omega)
  |((with_reducible refine Ok.exprW e ?_ ?_ (fun _ _ _ _ _=> ?_))<;>try omega)
  |((with_reducible refine Ok.pickS2 ?_ ?_ (by decide) (fun _ _ _=> ?_))<;>try omega)
  |((with_reducible refine Ok.pickS ?_ ?_ (by decide) (fun _ _ _=> ?_))<;>try omega)
  |((with_reducible refine Ok.onePW ?_ ?_ (by assumption) f c (fun _ _=> ?_))<;>try omega)
  |((with_reducible refine Ok.oneW ?_ ?_ (by decide+kernel) (fun _ _ _=> ?_))<;>try omega)
  |(with_reducible refine Ok.digitsW2 (by omega) (by omega) b (fun _ _=> ?_))
  |((with_reducible refine Ok.digitsW ?_ ?_ b (fun _ _=> ?_))<;>try omega)
  |((with_reducible refine Ok.catW (by first|assumption|exact Wt.lit 0 0 (by decide+kernel)|exact Wt.lit 0 1 (by decide+kernel)|exact Wt.lit 1 0 (by decide+kernel)|exact Wt.lit 1 1 (by decide+kernel)) (by first|assumption|exact Wt.lit 0 0 (by decide+kernel)|exact Wt.lit 0 1 (by decide+kernel)|exact Wt.lit 1 0 (by decide+kernel)|exact Wt.lit 1 1 (by decide+kernel)) ?_ (fun _ _=> ?_))<;>simp only[TK,fA,jC,jE,Nat.reduceAdd,Nat.reduceMul] at* <;>try omega)
  |((with_reducible refine Ok.catW (by first|assumption|exact Wt.lit 0 0 (by decide+kernel)|exact Wt.lit 0 1 (by decide+kernel)|exact Wt.lit 1 0 (by decide+kernel)|exact Wt.lit 1 1 (by decide+kernel)) (by first|assumption|exact Wt.lit 0 0 (by decide+kernel)|exact Wt.lit 0 1 (by decide+kernel)|exact Wt.lit 1 0 (by decide+kernel)|exact Wt.lit 1 1 (by decide+kernel)) ?_ (fun _ _=> ?_))<;>try omega)
  |dsimp only
  |(apply Ok.iteb<;>intro _)
 all_goals omega
theorem RX:∀(d D:Nat) (ps:List BA),d<D->d<=5->ps.length<1000->(∀x∈ps,Wt x 0 0 7)->100<N->EI N l (GP N D) d ps
 |_,0,_,h,_,_,_,_=>absurd h (kT _)
 |0,D+1,ps,_,_,a,b,c=>qKt (E:=GP N D) rfl a b c
 |d+1,D+1,ps,h,e,a,b,c=>qLe (RX d D ps (by omega) (by omega) a b c) (by omega) a b c
theorem qEv:∀{ps:List BA},(ps.all ES)=true->∀x∈ps,Wt x 0 0 7:=fun h x a=>(Wt.neu (jU.1 h x a)).2
theorem Ok.expr3W{β:Type}{Q:β->Prop}{ps:List BA}{a:Int}{f:(List Int×Int)×BA->Option β}(k:100<N)(g:0<=a)(p:a+10000<2000000000000000000)(n:ps.length<=2)(b:ps.all ES=true)
  (h:∀(a':Int) (s:BA),a<=a'->a'<=a+10000->Wt s 0 0 879->Ok (f ((l,a'),s)) Q):Ok ((CL N (l,a) 3 ps).bind f) Q:=
 Ok.exprW (d:=3) (RX 3 N ps (by omega) (by omega) (by omega) (qEv b) k) g (by have:qD 3=320:=rfl;omega) fun a' s c o e=>h a' s c (by have:qD 3=320:=rfl;omega) (e.mono (by decide))
theorem Ok.expr2W{β:Type}{Q:β->Prop}{ps:List BA}{a:Int}{f:(List Int×Int)×BA->Option β}(k:100<N)(g:0<=a)(p:a+10000<2000000000000000000)(n:ps.length<=2)(b:ps.all ES=true)
  (h:∀(a':Int) (s:BA),a<=a'->a'<=a+10000->Wt s 0 0 879->Ok (f ((l,a'),s)) Q):Ok ((CL N (l,a) 2 ps).bind f) Q:=
 Ok.exprW (d:=2) (RX 2 N ps (by omega) (by omega) (by omega) (qEv b) k) g (by have:qD 2=104:=rfl;omega) fun a' s c o e=>h a' s c (by have:qD 2=104:=rfl;omega) (e.mono (by decide))
set_option maxHeartbeats 8000000 in
theorem qUe{a:Int}(b:100<N)(c:0<=a)(d:a<1000000000000000000):Ok (CM N (l,a)) fun y=>∃a' s,y=((l,a'),s)/\a<=a'/\a'<=a+10010/\Wt s 0 0 920:=by
 simp only[CM,KQ,vO,BW]
 repeat' first
  |with_reducible apply Ok.tt
  |with_reducible apply Ok.ff
  |with_reducible apply Ok.ttb
  |with_reducible apply Ok.ffb
  |with_reducible apply Ok.assoc
  |((with_reducible apply Ok.iteb)<;>intro _)
  |((with_reducible apply Ok.ite)<;>intro _)
  |with_reducible apply Ok.someb
  |with_reducible apply Ok.mapb
  |((with_reducible refine Ok.mk ⟨_,_,rfl,?_,?_,Wt.mono (by assumption) ?_⟩)<;>omega)
  |((with_reducible refine Ok.next ?_ ?_ ?_ ?_ (fun _ _ _=> ?_))<;>try omega)
  |((with_reducible refine Ok.chance ?_ ?_ ?_ ?_ (fun _=> ?_))<;>try omega)
  |((with_reducible refine Ok.expr3W b ?_ ?_ ?_ ?_ (fun _ _ _ _ _=> ?_))<;>first|omega|decide+kernel|skip)
  |((with_reducible refine Ok.expr2W b ?_ ?_ ?_ ?_ (fun _ _ _ _ _=> ?_))<;>first|omega|decide+kernel|skip)
  |(with_reducible refine Ok.app (by simp) (by decide) ?_)
  |((with_reducible refine Ok.pickS2 ?_ ?_ (by decide) (fun _ _ _=> ?_))<;>try omega)
  |((with_reducible refine Ok.pickS ?_ ?_ (by decide) (fun _ _ _=> ?_))<;>try omega)
  |((with_reducible refine Ok.oneW ?_ ?_ (by decide+kernel) (fun _ _ _=> ?_))<;>try omega)
  |(with_reducible refine Ok.digitsW2 (by omega) (by omega) b (fun _ _=> ?_))
  |((with_reducible refine Ok.digitsW ?_ ?_ b (fun _ _=> ?_))<;>try omega)
  |((with_reducible refine Ok.catW (by first|assumption|exact Wt.lit 0 0 (by decide+kernel)|exact Wt.lit 0 1 (by decide+kernel)|exact Wt.lit 1 0 (by decide+kernel)|exact Wt.lit 1 1 (by decide+kernel)) (by first|assumption|exact Wt.lit 0 0 (by decide+kernel)|exact Wt.lit 0 1 (by decide+kernel)|exact Wt.lit 1 0 (by decide+kernel)|exact Wt.lit 1 1 (by decide+kernel)) ?_ (fun _ _=> ?_))<;>simp only[TK,fA,jC,jE,Nat.reduceAdd,Nat.reduceMul] at* <;>try omega)
  |((with_reducible refine Ok.catW (by first|assumption|exact Wt.lit 0 0 (by decide+kernel)|exact Wt.lit 0 1 (by decide+kernel)|exact Wt.lit 1 0 (by decide+kernel)|exact Wt.lit 1 1 (by decide+kernel)) (by first|assumption|exact Wt.lit 0 0 (by decide+kernel)|exact Wt.lit 0 1 (by decide+kernel)|exact Wt.lit 1 0 (by decide+kernel)|exact Wt.lit 1 1 (by decide+kernel)) ?_ (fun _ _=> ?_))<;>try omega)
  |dsimp only
  |(apply Ok.iteb<;>intro _)
 all_goals omega
theorem Ok.declW{β:Type}{Q:β->Prop}{a:Int}{f:(List Int×Int)×BA->Option β}(k:100<N)(e:0<=a)(g:a<1000000000000000000)
  (h:∀(a':Int) (s:BA),a<=a'->a'<=a+10010->Wt s 0 0 920->Ok (f ((l,a'),s)) Q):Ok ((CM N (l,a)).bind f) Q:=
 Ok.bind (qUe k e g) fun y n=>by
  obtain⟨a',s,rfl,b,c,d⟩:=n
  exact h a' s b c d
theorem qUc{β:Type}{Q:β->Prop}{y:(List Int×Int)×BA}{f:BA->Option β}(d:y.2.size<=920)(a:3000<N)(h:∀s:BA,Ok (f s) Q):Ok ((aJ (GC N y) N (y.2,0)).bind f) Q:=by
 refine Ok.loop (fun st=>∃j:Nat,st.2=(j:Int)/\j<=y.2.size) (fun st=>y.2.size-st.2.toNat) (fun _=>True) ?_ ⟨0,rfl,kE _⟩ (by simp only;omega) (fun b _=>h b)
 rintro⟨s,_⟩ ⟨j,rfl,c⟩
 simp only[GC]
 by_cases hlt:j<y.2.size
 .rw[if_pos (by simpa using hlt),qBf hlt]
  simp only[j0]
  refine Ok.bind (P:=fun _=>True) (Ok.ite (fun _=>Ok.mk trivial) fun _=>Ok.mk trivial) fun b _=> ?_
  refine Ok.ite (fun _=> ?_) fun _=> ?_
  .rw[LE (by omega) (by omega) (by omega)];exact Ok.mk trivial
  refine Ok.mk ⟨⟨j+1,by simp only;rw[bT (by omega) (by omega)];omega,by omega⟩,?_⟩
  simp only;rw[bT (by omega) (by omega)];omega
 rw[if_neg (by simpa using hlt)];exact Ok.mk trivial
def qFa(x:BA):Bool:=decide ((cR x.data.toList).length<=20)&&(decide (sc 0 x.data.toList=some 0)||decide (sc 0 x.data.toList=some 1))
theorem Ok.oneE{β:Type}{Q:β->Prop}{a:Int}{L:List BA}{f:(List Int×Int)×BA->Option β}(c:0<=a)(d:a<4611686018427387904)(b:(decide (0<L.length)&&decide (L.length<1000)&&L.all qFa)=true)(h:∀(x:BA) (q:Nat),Wt x 0 q 20->Ok (f ((l,a+1),x)) Q):Ok ((oF N (l,a) L).bind f) Q:=by
 simp only[jI,j9] at b
 exact Ok.one c d b.1.1 b.1.2 fun x e=>by
  have:=jU.1 b.2 x e
  unfold qFa at this
  simp only[jI,gX,j9] at this
  rcases this.2 with g|g
  .exact h x 0 ⟨this.1,g⟩
  exact h x 1 ⟨this.1,g⟩
theorem qPn{a:Int}{pk:BA}(H:3000<N)(F:0<=a)(h1:a<100000000000000000)(K:Wt pk 0 0 7):Ok (GQ N (l,a) pk) fun y=>∃a' s q,y=((l,a'),s)/\a<=a'/\a'<=a+100000/\Wt s 0 q 4800:=by
 simp only[GQ]
 have Y:Wt (⟨#[112,97,99,107,97,103,101,32]⟩:BA) 0 0 8:=Wt.lit 0 0 (by decide+kernel)
 have z:Wt (⟨#[59,10]⟩:BA) 0 0 8:=Wt.lit 1 0 (by decide+kernel)
 have Z:Wt (⟨#[35,32,97,32,99,111,109,109,101,110,116,10]⟩:BA) 0 0 12:=Wt.lit 0 0 (by decide+kernel)
 have l4:Wt (⟨#[105,109,112,111,114,116,32]⟩:BA) 0 0 7:=Wt.lit 0 0 (by decide+kernel)
 refine Ok.catW Y K (by omega) fun s1 D=> ?_
 refine Ok.catW D z (by omega) fun s2 v=> ?_
 refine Ok.chance F (by omega) (by omega) (by omega) fun c=> ?_
 refine Ok.bind (P:=fun s:BA=>Wt s 0 0 40) (Ok.ite (fun _=>Ok.catW Z v (by omega) fun s3 f=>Ok.mk (f.mono (by omega))) fun _=>Ok.mk (v.mono (by omega))) fun o1 f=> ?_
 dsimp only
 refine Ok.next (by omega) (by omega) (by omega) (by omega) fun r E g2=> ?_
 dsimp only
 -- imports
 refine Ok.loop (fun st=>∃s L n a' w,st=(s,L,n,l,a')/\Wt s 0 0 w/\0<=n/\n<=2/\(L.length:Int)+n<=2/\(w:Int)<=40+25*(2-n)/\a<=a'/\a'<=a+10+(2-n)) (fun st=>st.2.2.1.toNat) (fun b=>∃s a',b=(s,l,a')/\Wt s 0 0 90/\a<=a'/\a'<=a+20) ?_ ⟨o1,[],r,a+1+1,40,rfl,f,E,by omega,by simp only[jE];omega,by omega,by omega,by omega⟩ (by simp only;omega) ?_
 .rintro _ ⟨s,L,n,a',w,rfl,kw,M,R,S,U,p,V⟩
  simp only[KI,KO]
  by_cases hn:n>0
  .rw[if_pos (by simpa using hn)]
   refine Ok.assoc (Ok.someb ?_)
   refine Ok.assoc (Ok.oneW (by omega) (by omega) (by decide+kernel) fun x _ k=> ?_)
   dsimp only
   refine Ok.assoc (Ok.bind (P:=fun _=>True) (Ok.ite (fun _=>Ok.has (by omega) (by omega) fun b=>Ok.mk trivial) fun _=>Ok.mk trivial) fun o4 _=> ?_)
   refine Ok.iteb (fun _=> ?_) fun _=> ?_
   .refine Ok.assoc (Ok.app (by simp only[jC,jE];omega) (by decide) ?_)
    refine Ok.assoc (Ok.catW l4 k (by omega) fun t1 g=> ?_)
    refine Ok.assoc (Ok.catW g z (by omega) fun t2 e=> ?_)
    refine Ok.assoc (Ok.catW kw e (by omega) fun u h=>Ok.someb (Ok.mk ?_))
    dsimp only
    rw[bT (by omega) (by omega)]
    exact⟨⟨u,_,_,_,_,rfl,h,by omega,by omega,by simp only[jA,jC,jE];omega,by omega,by omega,by omega⟩,by omega⟩
   refine Ok.someb (Ok.mk ?_)
   dsimp only
   rw[bT (by omega) (by omega)]
   exact⟨⟨s,_,_,_,w,rfl,kw,by omega,by omega,by omega,by omega,by omega,by omega⟩,by omega⟩
  rw[if_neg (by simpa using hn)]
  exact Ok.mk ⟨s,a',rfl,kw.mono (by omega),p,by omega⟩
 rintro _ ⟨s,B,rfl,q1,q2,q3⟩
 dsimp only
 refine Ok.next (by omega) (by omega) (by omega) (by omega) fun r2 g3 g4=> ?_
 dsimp only
 -- declarations
 refine Ok.loop (fun st=>∃s L n a' w,st=(s,L,n,l,a')/\Wt s 0 0 w/\0<=n/\n<=5/\(L.length:Int)+n<=5/\(w:Int)<=90+920*(5-n)/\a<=a'/\a'<=a+100+10020*(5-n)) (fun st=>st.2.2.1.toNat) (fun b=>∃s a',b=(s,l,a')/\Wt s 0 0 4690/\a<=a'/\a'<=a+60000) ?_ ⟨s,[],_,B+1,90,rfl,q1,by rw[bT (by omega) (by omega)];omega,by rw[bT (by omega) (by omega)];omega,by rw[bT (by omega) (by omega)];simp only[jE];omega,by rw[bT (by omega) (by omega)];omega,by omega,by rw[bT (by omega) (by omega)];omega⟩ (by simp only;rw[bT (by omega) (by omega)];omega) ?_
 .rintro _ ⟨s,L,n,a',w,rfl,kw,M,R,S,U,p,V⟩
  simp only[KJ]
  by_cases hn:n>0
  .rw[if_pos (by simpa using hn)]
   refine Ok.assoc (Ok.declW (by omega) (by omega) (by omega) fun e d v1 v2 A=> ?_)
   refine Ok.assoc (qUc (y:=((l,e),d)) A.size H fun hd=> ?_)
   dsimp only
   refine Ok.assoc (Ok.bind (P:=fun o:Bool×List Int×Int=>o.2.1=l/\e<=o.2.2/\o.2.2<=e+1) (Ok.has (by omega) (by omega) fun b=>Ok.ite (fun _=>Ok.mk ⟨rfl,by simp only;omega,by simp only;omega⟩) fun _=>Ok.chance (by omega) (by omega) (by omega) (by omega) fun c=>Ok.mk ⟨rfl,by simp only;omega,by simp only;omega⟩) fun o9 G=> ?_)
   obtain⟨b9,l9,a9⟩:=o9
   obtain⟨rfl,w1,w2⟩:=G
   dsimp only at w1 w2 ⊢
   refine Ok.iteb (fun _=> ?_) fun _=> ?_
   .refine Ok.assoc (Ok.app (by simp only[jC,jE];omega) (by decide) ?_)
    refine Ok.assoc (Ok.catW kw A (by omega) fun u h=>Ok.someb (Ok.mk ?_))
    dsimp only
    rw[bT (by omega) (by omega)]
    exact⟨⟨u,_,_,_,_,rfl,h,by omega,by omega,by simp only[jA,jC,jE];omega,by omega,by omega,by omega⟩,by omega⟩
   refine Ok.someb (Ok.mk ?_)
   dsimp only
   rw[bT (by omega) (by omega)]
   exact⟨⟨s,_,_,_,w,rfl,kw,by omega,by omega,by omega,by omega,by omega,by omega⟩,by omega⟩
  rw[if_neg (by simpa using hn)]
  exact Ok.mk ⟨s,a',rfl,kw.mono (by omega),p,by omega⟩
 rintro _ ⟨s,h,rfl,e,p,u⟩
 dsimp only
 refine Ok.chance (by omega) (by omega) (by omega) (by omega) fun c=> ?_
 dsimp only
 refine Ok.iteb (fun _=> ?_) fun _=> ?_
 .refine Ok.assoc (Ok.oneE (by omega) (by omega) (by decide+kernel) fun x q k=> ?_)
  dsimp only
  refine Ok.assoc (Ok.catW e k (by omega) fun t g=>Ok.someb (Ok.mk ?_))
  dsimp only
  exact⟨_,_,q,rfl,by omega,by omega,g.mono (by omega)⟩
 refine Ok.someb (Ok.mk ?_)
 dsimp only
 exact⟨_,_,0,rfl,by omega,by omega,e.mono (by omega)⟩
end
def ER{α β:Type}(R:α->β->Prop):bJ⊕α->bJ⊕β->Prop
 | .inr a,.inr b=>R a b
 | .inl _,.inl _=>True
 |_,_=>False
theorem ER.fail{α β:Type}{R:α->β->Prop}{t u:bB}{e e':Int}:ER R (cV t e) (cV u e'):=trivial
theorem ER.ok{α β:Type}{R:α->β->Prop}{a:α}{b:β}(h:R a b):ER R (.inr a) (.inr b):=h
theorem ER.bind{α β γ δ:Type}{R:α->β->Prop}{S:γ->δ->Prop}{x:bJ⊕α}{y:bJ⊕β}{f:α->bJ⊕γ}{g:β->bJ⊕δ}(h:ER R x y)(c:∀a b,R a b->ER S (f a) (g b)):ER S (aW x f) (aW y g):=by
 cases x with
 |inl z=>cases y with
  |inl w=>exact trivial
  |inr b=>exact h.elim
 |inr a=>cases y with
  |inl w=>exact h.elim
  |inr b=>exact c a b h
theorem ER.bindE{α γ δ:Type}{S:γ->δ->Prop}{x y:bJ⊕α}{f:α->bJ⊕γ}{g:α->bJ⊕δ}(h:ER Eq x y)(c:∀a,ER S (f a) (g a)):ER S (aW x f) (aW y g):=ER.bind h fun a b e=>by subst e;exact c a
theorem ER.ite{α β:Type}{R:α->β->Prop}{c c':Prop}[Decidable c][Decidable c']{x x':bJ⊕α}{y y':bJ⊕β}(a:c↔c')(b:ER R x y)(d:ER R x' y'):ER R (if c then x else x') (if c' then y else y'):=by
 by_cases h:c
 .rw[if_pos h,if_pos (a.1 h)];exact b
 rw[if_neg h,if_neg fun g=>h (a.2 g)];exact d
theorem IQ{a b:bB}(h:cO a=cO b):a.1=b.1:=congrArg (fun x=>x.1) h
theorem qY{a b:bB}(h:cO a=cO b):a.2.1=b.2.1:=congrArg (fun x=>x.2.1) h
theorem SW{a b:bB}(h:cO a=cO b):a.2.2.1=b.2.2.1:=congrArg (fun x=>x.2.2) h
structure TkE(ts us:List bB):Prop where
 at_:∀i,cO (aB ts i)=cO (aB us i)
 len:ts.length=us.length
def FG(a b:Nat×bB):Prop:=a.1=b.1/\cO a.2=cO b.2
section
variable {ts us:List bB} {ps:List BA} {E F:Ps->PM Nat}
theorem qFc(H:TkE ts us)(k:Int)(s:BA)(i:Nat):bE ts k s i=bE us k s i:=by
 unfold bE;rw[IQ (H.at_ i),qY (H.at_ i)]
theorem uA(H:TkE ts us)(k:Int)(s:BA)(i:Nat):bE ts k s i=true↔bE us k s i=true:=by rw[qFc H]
theorem tB(H:TkE ts us){s:BA}{i:Nat}:ER Eq (cC ts s i) (cC us s i):= .ite (uA H ..) (.ok rfl) .fail
theorem SZ(H:TkE ts us){s:BA}{i:Nat}:ER Eq (oL ts s i) (oL us s i):= .ite (uA H ..) (.ok rfl) .fail
theorem IJ(H:TkE ts us){k:Int}{i:Nat}:ER FG (lH ts k i) (lH us k i):= .ite (by rw[IQ (H.at_ i)]) (.ok ⟨rfl,H.at_ i⟩) .fail
theorem NE(H:TkE ts us){i:Nat}:ER FG (lN ts i) (lN us i):= .bind (IJ H) fun a b h=> .ite (by rw[qY h.2]) .fail (.ok h)
theorem NI(H:TkE ts us){i:Nat}:ER FG (mC ts i) (mC us i):= .bind (IJ H) fun a b h=> .ite (by rw[qY h.2]) (.ok h) .fail
theorem qQh(H:TkE ts us){i:Nat}:ER FG (rO ts i) (rO us i):= .bind (IJ H) fun a b h=> .ite (by rw[qY h.2]) (.ok h) .fail
theorem AP{t u:bB}{x y:Ex}{p:Ps}(h:x=y):ER Eq (iE t x p) (iE u y p):=by
 subst h
 exact .ite Iff.rfl .fail (.ok rfl)
theorem op_e(H:TkE ts us)(level i:Nat):iI ts level i=iI us level i:=by
 have:nJ ts level i=nJ us level i:=funext fun o=>by unfold nJ;rw[qFc H]
 unfold iI;rw[this]
theorem qDp(H:TkE ts us)(a:∀p,ER Eq (E p) (F p)):∀(n:Nat) (l:List Int) (p:Ps),ER Eq (pT ts E n l p) (pT us F n l p)
 |0,_,_=> .fail
 |n+1,_,p=> .bindE (a p) fun _=> .ite (uA H ..) (qDp H a n _ _) (.bindE (tB H) fun _=> .ok rfl)
theorem qKe(H:TkE ts us)(a:∀p,ER Eq (E p) (F p))(p:Ps):ER Eq (pN ts E p) (pN us F p):=by
 unfold pN
 rw[H.len]
 exact .bindE (tB H) fun _=> .ite (uA H ..) (.ok rfl) (qDp H a _ _ _)
theorem qMm(H:TkE ts us)(e:∀p,ER Eq (E p) (F p)){t u:bB}(d:cO t=cO u)(p:Ps):ER Eq (nH ts E t p) (nH us F u p):=by
 have c:=qY d
 refine .bindE (tB H) fun i=> .bindE (.ite (by rw[c]) ?_ (.ite (by rw[c]) ?_ (.ite (by rw[c]) ?_ (.ite (by rw[c]) ?_ ?_)))) fun q=> .bindE (tB H) fun _=>AP rfl
 .exact .bind (NI H) fun a b h=>by
   rw[h.1,qY h.2]
   exact .bindE (tB H) fun _=> .bindE (e _) fun _=> .ok rfl
 .exact .bind (NI H) fun a b h=>by rw[h.1,qY h.2];exact .ok rfl
 .exact .bind (NI H) fun a b h=>by rw[h.1,qY h.2];exact .ok rfl
 .exact .bind (qQh H) fun a b h=>by rw[h.1,qY h.2];exact .ok rfl
 exact .bind (IJ H) fun a b h=>by
  rw[h.1,SW h.2]
  exact .ite Iff.rfl .fail (.ok rfl)
theorem qOm(H:TkE ts us)(d:∀p,ER Eq (E p) (F p))(p:Ps):ER Eq (lL ts ps E p) (lL us ps F p):=by
 have c:=H.at_ p.1
 unfold lL
 simp only
 rw[IQ c,qY c,SW c]
 refine .ite Iff.rfl (AP rfl) (.ite (uA H ..) (.bind (IJ H) fun a b h=> ?_) (.ite (uA H ..) (.bindE (d _) fun _=> .bindE (tB H) fun _=> .ok rfl) (.ite Iff.rfl .fail (.ite Iff.rfl (qMm H d c _) (.ite Iff.rfl .fail (.ite (uA H ..) (.bindE (qKe H d _) fun _=>AP rfl) ?_))))))
 .rw[h.1,SW h.2]
  exact AP rfl
 split
 .exact AP rfl
 exact .fail
theorem qDn(H:TkE ts us){level:Nat}{S T:Ps->PM Nat}(a:∀p,ER Eq (S p) (T p)):∀(n x:Nat) (p:Ps),ER Eq (lM ts level S n x p) (lM us level T n x p)
 |0,_,_=> .fail
 |n+1,x,p=>by
  unfold lM
  rw[op_e H]
  exact .ite Iff.rfl (.ok rfl) (.bindE (a _) fun _=> .bindE (AP rfl) fun _=> .ite Iff.rfl (.ok rfl) (qDn H a n _ _))
theorem SC(H:TkE ts us){level:Nat}{S T:Ps->PM Nat}(a:∀p,ER Eq (S p) (T p))(p:Ps):ER Eq (nI ts level S p) (nI us level T p):=by
 unfold nI
 rw[H.len]
 exact .bindE (a p) fun _=>qDn H a _ _ _
theorem IH(H:TkE ts us):∀(k:Nat) (p:Ps),ER Eq (bZ ts ps k p) (bZ us ps k p)
 |0,_=> .fail
 |k+1,p=> .ite (uA H ..) (.bindE (IH H k _) fun _=> .bindE (SZ H) fun _=> .bindE (IH H k _) fun _=> .bindE (SZ H) fun _=> .bindE (IH H k _) fun _=>AP rfl) (SC H (SC H (SC H (qOm H (IH H k)))) p)
theorem qAs(H:TkE ts us):∀(n:Nat) (l:List BA) (i:Nat),ER Eq (qB ts n l i) (qB us n l i)
 |0,_,_=> .fail
 |n+1,l,i=> .bind (NE H) fun a b h=>by
  rw[h.1,qY h.2]
  exact .ite Iff.rfl .fail (.ite Iff.rfl .fail (.ite (uA H ..) (qAs H n _ _) (.bindE (tB H) fun _=> .ok rfl)))
theorem qIo(H:TkE ts us)(i:Nat):ER Eq (pM ts i) (pM us i):=by
 unfold pM
 rw[H.len]
 exact .bindE (tB H) fun _=> .ite (uA H ..) (.ok rfl) (qAs H _ _ _)
theorem qTt(H:TkE ts us)(before:List Dl)(i:Nat):ER Eq (mD ts before i) (mD us before i):=by
 unfold mD
 simp only
 rw[IQ (H.at_ i),qY (H.at_ i)]
 refine .ite Iff.rfl .fail (.ite Iff.rfl .fail (.bind (R:=FG) (.ite Iff.rfl (NI H) (NE H)) fun a b h=> ?_))
 rw[h.1,qY h.2]
 exact .ite Iff.rfl .fail (.bindE (.ite Iff.rfl (qIo H _) (.ok rfl)) fun _=> .bindE (tB H) fun _=> .bindE (IH H _ _) fun _=> .bindE (tB H) fun _=> .ok rfl)
theorem YA(H:TkE ts us){pkg:BA}:∀(n:Nat) (l:List BA) (i:Nat),ER Eq (nR ts pkg n l i) (nR us pkg n l i)
 |0,_,_=> .fail
 |n+1,l,i=> .ite (uA H ..) (.ite Iff.rfl .fail (.bind (NE H) fun a b h=>by
  rw[h.1,qY h.2]
  exact .ite Iff.rfl .fail (.bindE (tB H) fun _=>YA H n _ _))) (.ok rfl)
theorem qBy(H:TkE ts us):∀(n:Nat) (l:List Dl) (i:Nat),ER Eq (oI ts n l i) (oI us n l i)
 |0,_,_=> .fail
 |n+1,_,i=> .ite (by rw[IQ (H.at_ i)]) (.ok rfl) (.bindE (qTt H _ _) fun _=>qBy H n _ _)
theorem qUk(H:TkE ts us):ER Eq (oN ts) (oN us):=by
 unfold oN
 rw[H.len]
 refine .bindE (SZ H) fun _=> .bind (NE H) fun a b h=> ?_
 rw[h.1,qY h.2]
 exact .bindE (tB H) fun _=> .bindE (YA H _ _ _) fun _=> .bindE (qBy H _ _ _) fun _=> .ok rfl
end
theorem qVr{ts us:List bB}(h:ts.map cO=us.map cO):TkE ts us:=by
 have a:ts.length=us.length:=by
  have:=congrArg List.length h
  rwa[gC,gC] at this
 refine⟨fun i=> ?_,a⟩
 have g:∀l:List bB,cO (aB l i)=(l.map cO).getD i (5,⟨#[]⟩,0):=fun l=>by
  unfold aB
  rw[jN,jN,List.getElem?_map]
  cases l[i]? <;>rfl
 rw[g,g,h]
theorem qJx(s:BA):(∃f,nU s=(f,0,0))\/(∃a e,nU s=(sF,a,e)/\e≠0):=by
 unfold nU
 split
 .rename_i h;exact .inr ⟨_,_,rfl,h⟩
 cases h:oN (iP s).1 with
 |inl z=>exact .inr ⟨z.1,z.2,rfl,TH z h⟩
 |inr f=>exact .inl ⟨f,rfl⟩
theorem qMg{s b:BA}{f:Sr}(h:(nU s).2.2=0)(d:(nU s).1=f)(o:sc 0 s.data.toList≠none)(k:b.data.toList=cR s.data.toList)(q:b.data.toList.length<=16384):nU b=(f,0,0):=by
 unfold nU at h d
 split at h
 .rename_i hn
  exact absurd h hn
 rename_i a
 rw[if_neg a] at d
 have a:(iP s).2.2=0:=by simpa using a
 obtain⟨ts,e1,e2⟩:∃ts,iT (s.data.toList.length+1) s 0= .inr ts/\(iP s).1=ts:=by
  unfold iP at a ⊢
  split at a
  .cases a
  rename_i g
  rw[if_neg g]
  cases e:iT (s.data.toList.length+1) s 0 with
  |inl x=>
   rw[e] at a
   exact absurd a (HW _ _ _ (kE _) (by omega) e).2.2
  |inr ts=>exact⟨ts,rfl,rfl⟩
 rw[e2] at h d
 have l:=NA (s:=s) (s.data.toList.length+1) 0 (kE _)
 rw[e1,kI] at l
 have p:=qOa _ _ _ (b.data.toList.length+1) _ (jP _) o (dF _) (by rw[k];exact dF _) l.symm
 have c:=NA (s:=b) (b.data.toList.length+1) 0 (kE _)
 rw[kI] at c
 have c:qEj (iT (b.data.toList.length+1) b 0)=oQ (b.data.toList.length+1) (cR s.data.toList):=by rw[c];exact congrArg _ k
 rw[p] at c
 obtain⟨us,e3,e4⟩:∃us,iT (b.data.toList.length+1) b 0= .inr us/\us.map cO=ts.map cO:=by
  cases e:iT (b.data.toList.length+1) b 0 with
  |inl x=>rw[e] at c;cases c
  |inr us=>
   rw[e] at c
   exact⟨us,rfl,Sum.inr.inj c⟩
 have n:iP b=(us,0,0):=by
  unfold iP
  rw[if_neg (by omega),e3];rfl
 have key:=qUk (qVr e4.symm)
 unfold nU
 rw[n]
 simp only
 rw[if_neg (by decide)]
 cases h1:oN ts with
 |inl z=>
  rw[h1] at h
  exact absurd h (TH z h1)
 |inr g=>
  rw[h1] at d key
  have d:g=f:=d
  cases e:oN us with
  |inl w=>rw[e] at key;exact key.elim
  |inr g'=>
   rw[e] at key
   have key:g=g':=key
   rw[<-key,d]
end
section
open Go Go.Dc Go.Proofs
def nW(f:Sr)(d:Dl):Sr:=(f.1,f.2.1,[d])
theorem qAa(f:Sr)(d:Dl):sG (nW f d)=vF f d:=by
 unfold sG nW vF
 simp
theorem qRd{f:Sr}(h:pO f=0){d:Dl}(g:d∈f.2.2):pO (nW f d)=0:=by
 unfold pO at h
 split at h
 .rename_i hs
  split at h
  .cases h
  rename_i a
  split at h
  .cases h
  rename_i b
  have b:rR f=false:=by simpa using b
  have a:qZ f=false:=by simpa using a
  unfold rS at hs
  unfold rR at b
  unfold qZ at a
  simp only[jI,jU] at hs
  simp only[kD,decide_eq_false_iff_not,fF] at b a
  have k:rS (nW f d)=true:=by
   unfold rS nW
   simp only[jI,jU]
   exact⟨hs.1,hs.2.1,fun e c=>by rw[jK.1 c];exact hs.2.2 d g⟩
  have l:qZ (nW f d)=false:=by
   unfold qZ nW
   simp only[kD,fF,decide_eq_false_iff_not]
   exact⟨fun e c=>by rw[jK.1 c];exact a.1 d g,a.2.1,a.2.2.1,rfl⟩
  have n:rR (nW f d)=false:=by
   unfold rR nW
   simp only[kD,decide_eq_false_iff_not,fF]
   exact⟨b.1,by show ¬64<1;decide,fun e c=>by rw[jK.1 c];exact b.2.2 d g⟩
  unfold pO
  rw[if_pos k,if_neg (by rw[l];decide),if_neg (by rw[n];decide)]
 cases h
section
variable {N:Nat}
theorem RE{y:(List Int×Int)×BA}(r:y.2.size<=20000)(o:3000000<N):∀(d i M:Nat) (b:BA),i+d=y.2.size->d<M->b.size<=7*i->aJ (BM N y) M (b,(i:Int))=some (b++iL (cR (y.2.data.toList.drop i)))
 |_,_,0,_,_,h,_=>absurd h (kT _)
 |0,i,M+1,b,v,_,_=>by
  have A:y.2.data.toList.length=y.2.size:=iH y.2
  simp only[aJ,BM]
  rw[if_neg (by simp only[j9];omega),jZ (by omega)]
  simp only[j0]
  exact congrArg some (EB (by rw[mV];exact(jW _).symm))
 |d+1,i,M+1,b,v,E,q=>by
  have A:y.2.data.toList.length=y.2.size:=iH y.2
  have hi:i<y.2.size:=by omega
  have k:i<y.2.data.toList.length:=by omega
  have ew:IntKind.wrap .i64 ((i:Int)+1)=((i+1:Nat):Int):=by rw[bT (by omega) (by omega)];omega
  have s:eU y.2 (i:Int)=some (y.2.data.toList[i]):=nG k
  have l:(y.2.extract i (i+1)).data.toList=[y.2.data.toList[i]]:=by
   simp only[ByteArray.data_extract,gU,gG]
   rw[Nat.add_sub_cancel_left,jR k];rfl
  have p:mY y.2 (i:Int) ((i+1:Nat):Int)=some (y.2.extract i (i+1)):=by
   rw[LE (by omega) (by omega) (by omega)]
   rfl
  have D:(y.2.extract i (i+1)).size=1:=by rw[ByteArray.size_extract];omega
  have z:(⟨#[32,35,32,120,10,32]⟩:BA).size=6:=rfl
  rw[jR k,AK]
  generalize hc:y.2.data.toList[i]=c at s l
  have x:((eU y.2 (i:Int)).bind fun x1=>if((x1.toNat:Int)==59)=true then(some true) else((eU y.2 (i:Int)).bind fun B=>some ((B.toNat:Int)==40)):Option Bool)=some (decide (c=59\/c=40)):=by
   rw[s]
   simp only[j0]
   have e:∀n:UInt8,(((c.toNat:Int)==(n.toNat:Int))=true)↔c=n:=fun n=>by
    rw[kJ]
    exact⟨fun h=>UInt8.toNat_inj.1 (by omega),fun h=>by rw[h]⟩
   have f:=e 59
   have a:=e 40
   have u:((59:UInt8).toNat:Int)=59:=rfl
   have t:((40:UInt8).toNat:Int)=40:=rfl
   rw[u] at f
   rw[t] at a
   by_cases h:c=59
   .rw[if_pos (f.2 h),jV (.inl h)]
   rw[if_neg fun g=>h (f.1 g)]
   by_cases h4:c=40
   .rw[a.2 h4,jV (.inr h4)]
   rw[jY (fun g=>g.elim h h4)]
   congr 1
   cases q:((c.toNat:Int)==40)
   .rfl
   exact absurd (a.1 q) h4
  simp only[aJ,BM]
  rw[if_pos (by simp only[j9];omega),x]
  simp only[j0]
  by_cases h:c=59\/c=40
  .rw[if_pos (jV h),catW (by omega)]
   simp only[j0]
   rw[ew,p]
   simp only[j0]
   rw[catW (by rw[ByteArray.size_append];omega)]
   simp only[j0]
   rw[RE r o d (i+1) M _ (by omega) (by omega) (by rw[ByteArray.size_append,ByteArray.size_append];omega)]
   refine congrArg some (EB ?_)
   simp only[mV,LD,l,wQ,if_pos h]
   simp
  rw[if_neg (by simpa using h)]
  simp only[j0]
  rw[ew,p]
  simp only[j0]
  rw[catW (by omega)]
  simp only[j0]
  rw[RE r o d (i+1) M _ (by omega) (by omega) (by rw[ByteArray.size_append];omega)]
  refine congrArg some (EB ?_)
  simp only[mV,LD,l,wQ,if_neg h]
  simp
theorem qMi{s:BA}{f:Sr}(k:nU s=(f,0,0)){i:Nat}(hi:i<f.2.2.length)(t:s.size<=5000)(o:3000000<N):HA N (iL (vF f f.2.2[i]))=some (nW f f.2.2[i],0)/\qM N (nW f f.2.2[i]) 0=some (iL (vF f f.2.2[i]),0):=by
 obtain⟨p,e,q⟩:=ZB k
 have a:=YF s
 rw[k] at a
 have b:=kH hi
 have g:(sG (nW f f.2.2[i])).length<=16384:=by
  rw[qAa]
  have:(vF f f.2.2[i]).length<=(sG f).length:=by
   unfold vF sG
   simp only[jA]
   have:=(List.sublist_flatten_of_mem (gZ (f:=pS) b)).length_le
   rw[<-List.flatMap_def] at this
   omega
  omega
 have h:okSr (nW f f.2.2[i]):=⟨a.1,by show 1<=64;decide,fun d e=>by
  rw[jK.1 e]
  exact a.2.2 _ b⟩
 have c:=qRd p b
 have l:nU (iL (vF f f.2.2[i]))=(nW f f.2.2[i],0,0):=by
  have:=qJf c g
  rw[qAa] at this
  exact this.1 (fun d hd'=>by rw[jK.1 hd'];exact e _ b)
 have n:qM N (nW f f.2.2[i]) 0=some (iL (vF f f.2.2[i]),0):=by
  have:=qAb h.r c o (i:=0) (by show 0<1;decide)
  exact this
 refine⟨?_,n⟩
 unfold HA
 rw[qPc _ (by omega),l]
 simp only[j0]
 rw[if_neg (by decide),if_neg (by show ¬(((1:Nat):Int) !=1)=true;decide),show qM N ((nW f f.2.2[i]).1,(nW f f.2.2[i]).2.1,(nW f f.2.2[i]).2.2) 0=_ from n]
 simp only[j0]
 rw[if_neg (by simp)]
theorem qGz(l:List Int)(k:Int)(t:3000000<N):Ok (FJ N l k) fun b=>b=true:=by
 have F:Wt (⟨#[112]⟩:BA) 0 0 7:=(Wt.neu (by decide+kernel)).2
 unfold FJ
 refine Ok.bind (qPn (by omega) (by decide) (by decide) F) fun y1 Y=> ?_
 obtain⟨H,s,q,rfl,-,-,z⟩:=Y
 have hs:=z.size
 have aw:=qPd t
 have E:=OV (N:=N) s (by omega)
 have hL:s.data.toList.length=s.size:=iH s
 dsimp only
 rw[E]
 refine Ok.someb ?_
 rcases qJx s with ⟨f,c⟩|⟨a,e,c,S⟩
 .rw[c]
  dsimp only
  refine Ok.bind (P:=fun o=>o=decide (f.2.2.length=0)) ?_ fun o d=> ?_
  .refine Ok.ite (fun h=>absurd h (by decide)) fun _=>Ok.mk ?_
   by_cases h:f.2.2.length=0
   .rw[jV h,h];rfl
   rw[jY h]
   exact beq_eq_false_iff_ne.2 (by omega)
  refine Ok.ite (fun _=>by rw[aw];exact Ok.mk rfl) fun A=> ?_
  have A:f.2.2.length≠0:=fun g=>A (by rw[d];exact jV g)
  obtain⟨R,-,hl⟩:=ZB c
  have p:=YF s
  rw[c] at p
  have U:f.2.2.length<=64:=p.2.1
  have u:=RE (N:=N) (y:=((l,H),s)) (by show s.size<=20000;omega) t s.size 0 N ⟨#[]⟩ (by simp) (by omega) (by decide)
  rw[show((0:Nat):Int)=0 from rfl] at u
  rw[u]
  refine Ok.someb ?_
  have B:((⟨#[]⟩:BA)++iL (cR (s.data.toList.drop 0))).data.toList=cR s.data.toList:=by
   rw[mV,LD];rfl
  have D:=qMg (s:=s) (b:=(⟨#[]⟩:BA)++iL (cR (s.data.toList.drop 0))) (f:=f) (by rw[c]) (by rw[c]) (by rw[z.2];exact fun g=>by cases g) B (by rw[B];have:=z.1;omega)
  rw[OV _ (by omega)]
  refine Ok.someb ?_
  obtain⟨r,V,Z,G⟩:=qBh (N:=N) (v:=k) (n:=(f.2.2.length:Int)) (by omega)
  have G:=G (by omega)
  rw[V]
  refine Ok.someb ?_
  obtain⟨i,rfl⟩:=Int.eq_ofNat_of_zero_le Z
  have hi:i<f.2.2.length:=by omega
  have x:=qAb p.r R t hi
  obtain⟨K,M⟩:=qMi c hi (by omega) t
  have x:qM N (f.1,f.2.1,f.2.2) (i:Int)=_:=x
  rw[D]
  dsimp only
  rw[x]
  refine Ok.someb (Ok.someb ?_)
  dsimp only
  rw[K]
  refine Ok.someb ?_
  dsimp only
  refine Ok.bind (P:=fun o=>o=false) ?_ fun o d=> ?_
  .refine Ok.ite (fun h=>absurd h (by decide)) fun _=>Ok.ite (fun h=>absurd h (by decide)) fun _=>Ok.ite (fun h=>absurd h (by decide)) fun _=>Ok.ite (fun h=>absurd h (by decide)) fun _=>Ok.ite (fun h=> ?_) fun _=>Ok.mk rfl
   simp at h
  subst d
  refine Ok.ff ?_
  rw[show qM N ((nW f f.2.2[i]).1,(nW f f.2.2[i]).2.1,(nW f f.2.2[i]).2.2) 0=_ from M]
  refine Ok.someb ?_
  dsimp only
  refine Ok.bind (P:=fun o=>o=true) ?_ fun o d=>Ok.mk d
  refine Ok.ite (fun _=> ?_) fun h=>absurd (by rfl) h
  refine Ok.ite (fun _=> ?_) fun h=>absurd (gA _) h
  rw[show idx (nW f f.2.2[i]).2.2 0=some f.2.2[i] from rfl,iX hi]
  refine Ok.someb (Ok.someb ?_)
  rw[show BV N (f.2.2[i].1,f.2.2[i].2.1,f.2.2[i].2.2.1,f.2.2[i].2.2.2) (f.2.2[i].1,f.2.2[i].2.1,f.2.2[i].2.2.1,f.2.2[i].2.2.2)=_ from qIs (p.2.2 _ (kH hi)) (by omega)]
  refine Ok.someb (Ok.tt ?_)
  rw[aw]
  exact Ok.mk rfl
 rw[c]
 dsimp only
 refine Ok.bind (P:=fun o=>o=true) ?_ fun o d=> ?_
 .refine Ok.ite (fun _=>Ok.mk rfl) fun h=>absurd h (by simpa using S)
 subst d
 refine Ok.tt ?_
 rw[aw]
 exact Ok.mk rfl
end
theorem testgatelaw06_MentionCanonical_true(l:List Int){G:Prop}(_gl:G)(k:Int){H:Prop}(_gk:H):∃N,FJ N l k=some true:=by
 obtain⟨b,a,rfl⟩:=qGz (N:=3000001) l k (by decide)
 exact⟨3000001,a⟩
end
end Go.Proofs.YthiiggmmmoolbaaGreatDoor
