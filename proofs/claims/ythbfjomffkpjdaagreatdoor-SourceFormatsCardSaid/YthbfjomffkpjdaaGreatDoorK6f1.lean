/- No condition but those of each theorem. -/
import Derived.Test.YthbfjomffkpjdaaGreatDoorProg
import Derived.WalkKit
import Derived.Deep.LoopGhost
import Derived.KernelRfl
import Derived.OrdersHeld
import Derived.OrdersIn
import Derived.LoopNIn
import Derived.Sort.LoopGhostIn
import Derived.Laws.AppendOwn
import Derived.RangeFuncLeaves
import Derived.RangeFuncRecord
import Derived.MapKept
import Derived.Maps.RangeRun
import Derived.ChangeKeysEq
import Derived.HandedShaped
import Derived.ChangeStays
import Derived.ChangeSame
import Derived.OpenShut
import Derived.WideShapes
import Derived.JoinedOf
import Derived.ReadAgain
import Derived.ChangeAt
import Derived.RowKit
import Derived.Lib.Overlaps
import Derived.Shelf.Sort.Plain
import Derived.Shelf.Slices.In.SortNone
import Derived.WalkSmall
import Derived.Recover
import Derived.Lib.Builder
import Derived.Lib.UnsafeStr
import Derived.Shelf.Strconv.Itoa3
import Derived.Room.Shelf.Join48
import Derived.Lib.Bytealg
import Derived.Test.YthbfjomffkpjdaaGreatDoorK5f1
namespace Go.Proofs.YthbfjomffkpjdaaGreatDoor
section
open Go Go.Dc Go.Proofs
theorem ZW{ts:List bQ}:∀(cs:List lZ) (j:Nat),(∀n,∀a:n<cs.length,eC (aJ ts (j+n))=cs[n])->iI ts j cs
 |[],_,_=>trivial
 |c::cs,j,h=>⟨h 0 (by simp),ZW cs (j+1) fun n a=>by
  have:=h (n+1) (by simpa using a)
  rw[show j+1+n=j+(n+1) by omega,this]
  rfl⟩
theorem qMi{ts:List bQ}{cs:List lZ}(h:ts.map eC=cs):iI ts 0 cs:=by
 subst h
 refine ZW _ 0 fun n a=> ?_
 have a:n<ts.length:=by simpa using a
 rw[kO,List.getElem_map]
 unfold aJ
 rw[kA,List.getElem?_eq_getElem a]
 rfl
theorem OO{α:Type}(g:α->List Pc)(k:Nat):∀(l:List α),(∀x∈l,k<=(g x).length)->k*l.length<=(l.flatMap g).length
 |[],_=>by simp
 |x::l,h=>by
  have b:=h x (jH ..)
  have c:=OO g k l fun y a=>h y (jK _ a)
  rw[kF,jC,jD,Nat.mul_add];omega
theorem TP(d:Dl):∃w r,mH d=cS w [32]::r/\(w=DP\/w=IA\/w=IJ):=by
 unfold mH sF
 split
 .exact⟨_,_,rfl,.inl rfl⟩
 split
 .exact⟨_,_,rfl,.inr (.inl rfl)⟩
 exact⟨_,_,rfl,.inr (.inr rfl)⟩
theorem qJd{ts:List bQ}{f:Sr}(h:GoodS f)(o:iI ts 0 (iK (zS f)++[((5,⟨#[]⟩,0):lZ)]))(e:(zS f).length<ts.length):Res (DN ts) (∀d∈f.2.2,lS d<=32) f:=by
 have g:=h.once
 unfold wV at g
 simp only[kZ,decide_eq_false_iff_not] at g
 obtain⟨-,t1,t2,v⟩:=g
 unfold zS at o e
 obtain⟨t,p,u,a⟩:=o
 have a:iI ts 3 (iK (f.2.1.flatMap pT++f.2.2.flatMap mH)++[((5,⟨#[]⟩,0):lZ)]):=a
 rw[KV,jE] at a
 simp only[jD,jC] at e
 have q:(aJ ts (0+1)).2.1=f.1:=oN (mC p)
 have li:=OO pT 1 f.2.1 fun s _=>by show 1<=3;decide
 have ld:=OO mH 1 f.2.2 fun d _=>by
  obtain⟨w,r,b,-⟩:=TP d
  rw[b];simp
 have hi:∃c,iI ts 3 (iK (f.2.1.flatMap pT)++[c])/\(c.1==1&&decide (c.2.1=vA))=false:=by
  cases hd:f.2.2 with
  |nil=>
   rw[hd] at a
   exact⟨(5,⟨#[]⟩,0),a,rfl⟩
  |cons d ds=>
   rw[hd,kF] at a
   obtain⟨w,r,b,k⟩:=TP d
   rw[b] at a
   rw[zP] at a
   refine⟨eE (1,w),zP.2 ⟨a.1,a.2.1,trivial⟩,?_⟩
   rcases k with rfl|rfl|rfl<;>decide+kernel
 obtain⟨c,k,l⟩:=hi
 have b:=UR (pkg:=f.1) f.2.1 [] (ts.length+1) 3 c h.imps (by simpa using h.impn) t2 t1 k l (by omega)
 rw[jQ] at b
 have n:(iK (f.2.1.flatMap pT)).length=(f.2.1.flatMap pT).length:=gJ ..
 rw[zP,n] at a
 have RD:=WV f.2.2 [] (ts.length+1) (3+(f.2.1.flatMap pT).length) (DM h) (by simpa using h.decn) v a.2 (by omega) (by omega)
 rw[jQ] at RD
 unfold DN
 refine Res.stepR (PX (s:=HN) t rfl) ?_
 refine Res.stepR (CY p h.pkg) ?_
 refine Res.stepR (nJ (s:=qD) u rfl) ?_
 dsimp only
 rw[q]
 refine Res.stepR b ?_
 refine RD.bind (g':=True) (fun _=> .pure trivial rfl) (by simp)
theorem qFr{f:Sr}(e:lQ f=0)(c:(nO f).length<=16384):
  ((∀d∈f.2.2,lS d<=32)->zV ⟨⟨nO f⟩⟩=(f,0,0))/\(¬(∀d∈f.2.2,lS d<=32)->∃z,zV ⟨⟨nO f⟩⟩=(tC,z,2)):=by
 have a:=CW e
 rw[<-qFd a] at c ⊢
 obtain⟨ts,t1,t2⟩:=qEk c (qMa a)
 have b:(zS f).length<ts.length:=by
  have:=congrArg List.length t2
  simp only[gJ,jC,jD,jF] at this
  omega
 have R:=qJd a (qMi t2) b
 unfold zV
 rw[t1]
 simp only[ne_eq,not_true_eq_false,jI]
 constructor
 .intro h
  rw[R.1 h]
 intro h
 obtain⟨z,g⟩:=R.2 h
 exact⟨z,by rw[g]⟩
theorem qEj{f:Sr}(b:lQ f=0):vC f=if 16384<(nO f).length then(⟨#[]⟩,2) else if(zV ⟨⟨nO f⟩⟩).2.2=2 then(⟨#[]⟩,2) else(cQ (nO f),0):=by
 unfold vC
 by_cases hl:16384<(nO f).length
 .rw[if_pos hl,if_pos hl]
  split<;>rfl
 rw[if_neg hl,if_neg hl]
 obtain⟨p1,p2⟩:=qFr b (by omega)
 by_cases ha:∀d∈f.2.2,lS d<=32
 .rw[if_neg,p1 ha,if_neg (by show ¬(0:Int)=2;decide)]
  rw[fD]
  rintro⟨d,a,g⟩
  have:=ha d a
  have:=gL g
  omega
 obtain⟨z,c⟩:=p2 ha
 rw[if_pos,c,if_pos rfl]
 rw[fD]
 refine Classical.byContradiction fun g=>ha fun d a=> ?_
 refine Classical.byContradiction fun e=>g ⟨d,a,kC (by omega)⟩
theorem UP:∀(ws:List (List UInt8)) (k:Nat),iR (k+1) ws=Lib.joinTail [44,32] ws
 |[],_=>rfl
 |w::ws,k=>by
  have a:=UP ws (k+1)
  show lB (k+1)++(w++iR (k+1+1) ws)=_
  rw[a]
  unfold lB
  rw[if_neg (by omega)]
  simp[Lib.joinTail]
theorem qGj(ws:List (List UInt8)):iR 0 ws=Lib.join ws [44,32]:=by
 cases ws with
 |nil=>rfl
 |cons w ws=>
  rw[Lib.join_cons,<-UP ws 0]
  rfl
theorem qLn(l:List BA):DO l (⟨#[44,32]⟩:BA)=tD l:=by
 refine qX ?_
 show Lib.join (l.map (·.data.toList)) [44,32]=iR 0 (l.map fun s=>s.data.toList)
 rw[qGj]
theorem qJe{N:Nat}{l:List BA}(d:l.length<=8)(c:∀s∈l,s.size<=24):tO N l (⟨#[44,32]⟩:BA)=some (tD l):=by
 by_cases h1:l.length<=1
 .exact qJg h1
 have b:=PS c
 have a:0<(tD l).size:=by
  match l,h1 with
  |x::y::r,_=>
   show 0<(iR 0 (x.data.toList::y.data.toList::r.map fun s=>s.data.toList)).length
   simp only[iR,jC]
   have:(lB (0+1)).length=2:=rfl
   omega
  |[],h=>exact absurd (gC 1) h
  |[x],h=>exact absurd (jT 1) h
 unfold tO
 rw[if_pos (by omega)]
 unfold MA
 rw[qLn,if_pos ⟨a,by omega,by omega⟩]
theorem UG{N:Nat}{f:Sr}(h:SmSr f)(b:3000000<N):tM N f=some (if lQ f=0 then vC f else(⟨#[]⟩,lQ f)):=
 qGv h (fun c d e _=>by
  obtain⟨g,a,-,-⟩:=(CW c).decs d e
  exact qJe a fun s k=>oQ (g.pars s k).2) b
def awT:BA:=⟨#[112,97,99,107,97,103,101,32,112,59,32,102,117,110,99,32,102,40,120,41,32,61,32,120,32,43,32,50,32,42,32,51,59]⟩
def awS:BA:=⟨#[112,97,99,107,97,103,101,32,112,59,10,102,117,110,99,32,102,40,120,41,32,61,32,120,32,43,32,50,32,42,32,51,59,10]⟩
def uH(a b:Int):Dl:=(1,⟨#[102]⟩,[⟨#[120]⟩],[(2,0,0,bU,[]),(1,a,0,bU,[]),(1,b,0,bU,[]),(4,0,3,bU,[1,2]),(4,0,1,bU,[0,3])])
def sO:Sr:=(⟨#[112]⟩,[],[uH 2 3])
theorem ZQ:lQ sO=0:=by kernel_rfl
theorem qAk:SmSr sO:=by
 refine⟨by show 0<2000000;decide,by show 1<2000000;decide,fun d b=> ?_⟩
 have b:d=uH 2 3:=kI.1 b
 subst b
 refine⟨by show(1:Nat)<=1048576;decide,by show 1<2000000;decide,by show 5<2000000;decide,fun e a=> ?_⟩
 have a:e∈[((2,0,0,bU,[]):Ex),(1,2,0,bU,[]),(1,3,0,bU,[]),(4,0,3,bU,[1,2]),(4,0,1,bU,[0,3])]:=a
 simp only[jR,gK,dG] at a
 rcases a with rfl|rfl|rfl|rfl|rfl<;>exact⟨by show 0<=1048576;decide,by decide⟩
theorem qBf(a b:Int):pW (uH a b)=[120]++([32,43,32]++(Lib.itoa a++([32,42,32]++Lib.itoa b)))/\lS (uH a b)=1:=⟨by kernel_rfl,by kernel_rfl⟩
theorem XO{n:Nat}(h:n<10):Lib.itoa (n:Int)=[UInt8.ofNat (48+n)]:=by
 rw[<-Lib.decDigits_one h,<-uX]
 rfl
theorem aw_f:vC sO=(awS,0):=by
 have a:Lib.itoa 2=[50]:=XO (n:=2) (by decide)
 have e3:Lib.itoa 3=[51]:=XO (n:=3) (by decide)
 have e:(sO.2.2.any fun d=>decide (32<lS d))=false:=by
  show(decide (32<lS (uH 2 3))||false)=false
  rw[(qBf 2 3).2];rfl
 have f:nO sO=awS.data.toList:=by
  have b:pW (uH 2 3)=[120,32,43,32,50,32,42,32,51]:=by rw[(qBf 2 3).1,a,e3];rfl
  have c:lY (uH 2 3)=[102,117,110,99,32,102,40,120,41,32,61,32,120,32,43,32,50,32,42,32,51,59,10]:=by
   unfold lY
   rw[b]
   rfl
  show(oW ⟨#[112]⟩++([]:List BA).flatMap lI)++[uH 2 3].flatMap lY=_
  simp only[kF,List.flatMap_nil,jV,c]
  rfl
 unfold vC
 rw[if_neg (by rw[e];decide),f,if_neg (by show ¬16384<34;decide)]
 rfl
theorem qAm:idx sO.2.2 0=some (uH 2 3):=rfl
theorem qOm:idx (uH 2 3).2.2.2 4=some ((4,0,1,⟨#[]⟩,[0,3]):Ex):=rfl
theorem zR{α β:Type}{x:Option α}{v:α}{f:α->Option β}{r:Option β}(h:x=some v)(a:f v=r):Option.bind x f=r:=by
 subst h;exact a
theorem qNt(M:Nat):CK (M+200) awT=some (sO,0,0):=by
 unfold CK KB
 rw[if_neg (by rw[show decide ((ByteArray.size awT:Int)>16384)=false by kernel_rfl];decide),PU (by omega)]
 kernel_rfl
theorem aw_true{N:Nat}(a:3000000<N):BP N=some true:=by
 have b:CK N awT=some (sO,0,0):=by
  obtain⟨M,rfl⟩:∃M,N=M+200:=⟨N-200,by omega⟩
  exact qNt M
 have c:tM N sO=some (awS,0):=by
  have h:tM N sO=_:=UG qAk a
  rw[h,if_pos ZQ,aw_f]
 have d:qM N sO=some 0:=by
  have h:qM N sO=_:=KI qAk a
  rw[h,ZQ]
 unfold BP
 refine zR b ?_
 refine zR c ?_
 refine zR (v:=true) ?_ rfl
 refine Eq.trans (if_pos rfl) (Eq.trans (if_pos rfl) (Eq.trans (if_pos rfl) (Eq.trans (if_pos rfl) ?_)))
 refine zR qAm ?_
 refine Eq.trans (if_pos rfl) ?_
 refine zR qAm ?_
 refine zR qOm ?_
 refine Eq.trans (if_pos rfl) ?_
 refine Eq.trans (if_pos (gQ awS.toList)) ?_
 refine zR d ?_
 rfl
theorem HJ{N:Nat}{s:BA}(a:100<N):sB N s=some (dH s):=by
 simp only[sB,OB a,qAy a,j0]
 unfold dH
 cases lR s<;>rfl
def vV(k:Int):Int:=if k=3 then-1 else if k=4 then 2 else if k=5 then 3 else if k=6 then 1 else 0
def rD(x:Ex):Bool:=(x.1==3)||(rU x==vV x.1)
def rP(np:Int)(x:Ex):Bool:=
 if x.1=1 then decide (x.2.2.2.1=bU)&&(x.2.2.1==0&&(decide (x.2.1>=-9007199254740992)&&decide (x.2.1<=9007199254740992)))
 else if x.1=2 then decide (x.2.2.2.1=bU)&&(x.2.2.1==0&&(decide (x.2.1>=0)&&decide (x.2.1<np)))
 else if x.1=3 then x.2.1==0&&(x.2.2.1==0&&dH x.2.2.2.1)
 else if x.1=4 then x.2.1==0&&(decide (x.2.2.2.1=bU)&&(decide (x.2.2.1>=1)&&decide (x.2.2.1<=7)))
 else if x.1=5 then x.2.1==0&&(decide (x.2.2.2.1=bU)&&x.2.2.1==0)
 else if x.1=6 then x.2.1==0&&(x.2.2.1==0&&iN x.2.2.2.1.data.toList)
 else if x.1=7\/x.1=8 then x.2.1==0&&(x.2.2.1==0&&iN x.2.2.2.1.data.toList)
 else if x.1=9 then x.2.1==0&&(x.2.2.1==0&&lR x.2.2.2.1)
 else if x.1=10 then decide (x.2.2.2.1=bU)&&(x.2.2.1==0&&(decide (x.2.1>=0)&&decide (x.2.1<64)))
 else false
theorem qGq(np:Int)(x:Ex):iJ np x=(rP np x&&rD x):=by
 unfold iJ rP rD vV
 by_cases h1:x.1=1
 .simp[h1];ac_rfl
 by_cases h2:x.1=2
 .simp[h2];ac_rfl
 by_cases h3:x.1=3
 .simp[h3]
 by_cases h4:x.1=4
 .simp[h4];ac_rfl
 by_cases h5:x.1=5
 .simp[h5];ac_rfl
 by_cases h6:x.1=6
 .simp[h6];ac_rfl
 by_cases h7:x.1=7
 .simp[h7];ac_rfl
 by_cases h8:x.1=8
 .simp[h8];ac_rfl
 by_cases h9:x.1=9
 .simp[h9];ac_rfl
 by_cases h10:x.1=10
 .simp[h10];ac_rfl
 simp[h1,h2,h3,h4,h5,h6,h7,h8,h9,h10]
theorem qKn{N:Nat}{np:Int}{x:Ex}(d:100<N):FV N x np=some (rP np x):=by
 simp only[FV,eqE,NX (s:=x.2.2.2.1) d,OB (s:=x.2.2.2.1) d,HJ (s:=x.2.2.2.1) d,j0,ZT]
 unfold rP
 by_cases h1:x.1=1
 .by_cases a:x.2.2.2.1=bU<;>by_cases b:x.2.2.1=0<;>simp[h1,a,b]
 by_cases h2:x.1=2
 .by_cases a:x.2.2.2.1=bU<;>by_cases b:x.2.2.1=0<;>simp[h2,a,b]
 by_cases h3:x.1=3
 .by_cases a:x.2.1=0<;>by_cases b:x.2.2.1=0<;>simp[h3,a,b]
 by_cases h4:x.1=4
 .by_cases a:x.2.1=0<;>by_cases b:x.2.2.2.1=bU<;>simp[h4,a,b]
 by_cases h5:x.1=5
 .by_cases a:x.2.1=0<;>by_cases b:x.2.2.2.1=bU<;>by_cases c:x.2.2.1=0<;>simp[h5,a,b,c]
 by_cases h6:x.1=6
 .by_cases a:x.2.1=0<;>by_cases b:x.2.2.1=0<;>simp[h6,a,b]
 by_cases h7:x.1=7
 .by_cases a:x.2.1=0<;>by_cases b:x.2.2.1=0<;>simp[h7,a,b]
 by_cases h8:x.1=8
 .by_cases a:x.2.1=0<;>by_cases b:x.2.2.1=0<;>simp[h8,a,b]
 by_cases h9:x.1=9
 .by_cases a:x.2.1=0<;>by_cases b:x.2.2.1=0<;>simp[h9,a,b]
 by_cases h10:x.1=10
 .by_cases a:x.2.2.2.1=bU<;>by_cases b:x.2.2.1=0<;>simp[h10,a,b]
 by_cases c:x.1<1
 .simp[h1,h2,h3,h4,h5,h6,h7,h8,h9,h10,c]
 have e:x.1>10:=by omega
 simp[h1,h2,h3,h4,h5,h6,h7,h8,h9,h10,c,e]
theorem qJb{N:Nat}(k:Int):FT N k=some (vV k):=by
 unfold FT vV
 by_cases h3:k=3
 .simp[h3]
 by_cases h4:k=4
 .simp[h4]
 by_cases h5:k=5
 .simp[h5]
 by_cases h6:k=6
 .simp[h6]
 simp[h3,h4,h5,h6]
theorem ZR{N m n:Nat}{st args:List Int}{x:Ex}{i:Int}(l:x.2.2.2.2=args)(q:args.length=n)(r:st.length=m+n)(o:st.length<4000000):∀(d k M:Nat),k+d=n->d<M->
  aI (AV N (st,i) x (n:Int)) M (k:Int)=some (if st.drop (m+k)=args.drop k then .inl () else .inr false)
 |_,_,0,_,h=>absurd h (kP _)
 |0,k,M+1,p,_=>by
  simp only[aI,AV]
  rw[if_neg (by simp only[jA];omega),if_pos (by rw[jW (by omega),jW (by omega)])]
  rfl
 |d+1,k,M+1,p,s=>by
  subst l
  have b:k<x.2.2.2.2.length:=by omega
  have a:m+k<st.length:=by omega
  have ew:IntKind.wrap .i64 ((k:Int)+1)=((k+1:Nat):Int):=by rw[bX (by omega) (by omega)];omega
  have c:IntKind.wrap .i64 ((st.length:Int)-(n:Int))=(m:Int):=by rw[bX (by omega) (by omega)];omega
  have f:IntKind.wrap .i64 ((m:Int)+(k:Int))=((m+k:Nat):Int):=by rw[bX (by omega) (by omega)];omega
  simp only[aI,AV]
  rw[if_pos (by simp only[jA];omega),dM b,c,f,dM a]
  simp only[j0,ew]
  rw[uU b,uU a]
  by_cases e:x.2.2.2.2[k]=st[m+k]
  .rw[if_neg (by simpa using e)]
   simp only[j0]
   rw[ZR rfl q r o d (k+1) M (by omega) (by omega),e]
   simp only[kV,true_and]
   rfl
  rw[if_pos (by simpa using e),if_neg (fun g=>e (List.cons.inj g).1.symm)]
  rfl
def xG(l:List Ex)(k:Nat)(st:List Int):Option (List Int):=if l.all rD=true then oI l k st else none
theorem qHc{N:Nat}{l:List Ex}(y:l.length<2000000)(u:∀x∈l,x.2.2.2.2.length<2000000)(v:3000000<N):FI N l=some (oneP (xG l 0 [])):=by
 have s:=oR (L:=l) (fun(t:List Int×Nat) (i:Nat)=>(t.1,(i:Int))) (f:=AX N l)
  (fun t x=>if rD x=true/\x.2.2.2.2.length<=t.1.length/\t.1.drop (t.1.length-x.2.2.2.2.length)=x.2.2.2.2 then .inl (t.1.take (t.1.length-x.2.2.2.2.length)++[(t.2:Int)],t.2+1) else .inr (.inr false)) (fun t=>(.inl t.1:List Int⊕Bool)) (fun i t=>t.2=i/\t.1.length<=i) (by
   rintro⟨st,k⟩ i hi ⟨rfl,d⟩
   simp only at d hi ⊢
   have p:=u _ (jN hi)
   simp only[AX]
   rw[if_pos (by simp only[jA];omega),dM hi]
   generalize l[k]=x at p
   simp only[j0,qJb]
   have ew:IntKind.wrap .i64 ((k:Int)+1)=((k+1:Nat):Int):=by rw[bX (by omega) (by omega)];omega
   have q:IntKind.wrap .i64 ((st.length:Int)-(x.2.2.2.2.length:Int))=(st.length:Int)-(x.2.2.2.2.length:Int):=by
    rw[bX (by omega) (by omega)]
   by_cases a:rD x=true
   .have n:(if decide (vV x.1<0)=true then some (x.2.2.2.2.length:Int) else some (vV x.1):Option Int)=some (x.2.2.2.2.length:Int):=by
     unfold rD rU at a
     simp only[fP,kN] at a
     rcases a with a|a
     .rw[a];rfl
     rw[<-a,if_neg (by simp)]
    rw[n]
    simp only[j0]
    rw[if_neg (by simp)]
    simp only[j0]
    by_cases b:x.2.2.2.2.length<=st.length
    .rw[if_neg (by simp only[jA];omega)]
     have e:=ZR (N:=N) (m:=st.length-x.2.2.2.2.length) (st:=st) (x:=x) (i:=(k:Int)) rfl rfl (by omega) (by omega) x.2.2.2.2.length 0 N (by omega) (by omega)
     rw[show((0:Nat):Int)=0 from rfl,fA,jZ] at e
     rw[e]
     simp only[j0]
     by_cases c:st.drop (st.length-x.2.2.2.2.length)=x.2.2.2.2
     .rw[if_pos c,if_pos ⟨a,b,c⟩]
      simp only
      rw[q,wP (by omega) (by omega) (by omega)]
      simp only[j0,gZ,jZ]
      rw[show((st.length:Int)-(x.2.2.2.2.length:Int)).toNat=st.length-x.2.2.2.2.length by omega,pP (by simp only[kL,jD,jF];omega) (by omega)]
      simp only[j0,ew]
     rw[if_neg c,if_neg (fun g=>c g.2.2)]
    rw[if_pos (by simp only[jA];omega),if_neg (fun g=>b g.2.1)]
   .have e:¬(rD x=true/\x.2.2.2.2.length<=st.length/\st.drop (st.length-x.2.2.2.2.length)=x.2.2.2.2):=fun g=>a g.1
    rw[if_neg e]
    have n:x.1≠3:=fun g=>a (by unfold rD;rw[g];rfl)
    have o:¬vV x.1<0:=by
     unfold vV
     rw[if_neg n]
     split
     .decide
     split
     .decide
     split<;>decide
    have c:(x.2.2.2.2.length:Int)≠vV x.1:=fun g=>a (by unfold rD rU;rw[g,gQ,Bool.or_true])
    rw[if_neg (by simpa using o)]
    simp only[j0]
    rw[if_pos (by simpa using c)]
    rfl) (by
   rintro⟨st,k⟩ i hi t' ⟨rfl,d⟩ h
   simp only at d h
   split at h
   .rename_i g
    obtain rfl:=(Sum.inl.inj h).symm
    refine⟨rfl,?_⟩
    simp only[jC,kL,jD,jF]
    omega
   .cases h) (by
   rintro⟨st,k⟩ ⟨rfl,d⟩
   simp only[AX]
   rw[if_neg (by simp)]) (M:=N) (t:=([],0)) (by omega) ⟨rfl,jT _⟩
 unfold FI
 rw[show((([]:List Int),(0:Int)))=((([]:List Int),0).1,(((0:Nat)):Int)) from rfl]
 rw[s]
 have key:∀(l:List Ex) (st:List Int) (k:Nat),run (fun(t:List Int×Nat) (x:Ex)=>if rD x=true/\x.2.2.2.2.length<=t.1.length/\t.1.drop (t.1.length-x.2.2.2.2.length)=x.2.2.2.2 then(.inl (t.1.take (t.1.length-x.2.2.2.2.length)++[(t.2:Int)],t.2+1):(List Int×Nat)⊕(List Int⊕Bool)) else .inr (.inr false)) (fun t=>(.inl t.1:List Int⊕Bool)) l (st,k)=match xG l k st with
   |some r=> .inl r
   |none=> .inr false:=by
  intro l
  induction l with
  |nil=>intro st k;rfl
  |cons x l c=>
   intro st k
   simp only[run]
   unfold xG at c ⊢
   rw[List.all_cons]
   by_cases a:rD x=true
   .rw[a,gF]
    by_cases b:x.2.2.2.2.length<=st.length/\st.drop (st.length-x.2.2.2.2.length)=x.2.2.2.2
    .rw[if_pos ⟨rfl,b⟩]
     simp only
     rw[c]
     simp only[oI]
     rw[if_pos b]
    rw[if_neg (fun g=>b g.2)]
    simp only[oI]
    rw[if_neg b,ite_self]
   rw[if_neg (fun g=>a g.1),show rD x=false by simpa using a,Bool.false_and]
   rfl
 rw[key]
 cases xG l 0 [] with
 |none=>rfl
 |some r=>
  simp only[j0]
  congr 1
  match r with
  |[]=>rfl
  |[_]=>rfl
  |_::_::r=>
   show(((r.length+1+1:Nat):Int)==1)=false
   rw[beq_eq_false_iff_ne];omega
mutual
theorem WC(t:Rose)(d:Nat):t.deepen (d+1)=t.deepen d+1:=by
 match t with
 | .mk h ks=>
  simp only[Rose.deepen]
  by_cases h4:h.1=4
  .rw[if_pos h4,if_pos h4]
   by_cases hk:ks=[]
   .rw[hk];simp[oF]
   rw[OA ks d hk];omega
  rw[if_neg h4,if_neg h4]
  by_cases hk:ks=[]
  .rw[hk];simp[oF]
  rw[OA ks (d+1) hk];omega
theorem OA(l:List Rose)(d:Nat)(a:l≠[]):oF (d+1) l=oF d l+1:=by
 match l with
 |[]=>exact absurd rfl a
 |t::l=>
  have b:=WC t d
  simp only[oF]
  by_cases hk:l=[]
  .rw[hk];simp only[oF];omega
  rw[OA l d hk];omega
end
theorem qHm{d:Nat}:∀(n:Nat) (t:Rose),t.size<=n->t.deepen d<=d+t.size/\d<=t.deepen d:=by
 intro n
 induction n generalizing d with
 |zero=>intro t h;have:=t.pos;omega
 |succ n k=>
  intro t g
  match t with
  | .mk h ks=>
   have key:∀(e:Nat) (l:List Rose),aY l<=n->oF e l<=e+aY l:=by
    intro e l
    induction l with
    |nil=>intro _;exact gC _
    |cons u l c=>
     intro f
     have o:=u.pos
     simp only[aY] at f
     have a:=(k (d:=e) u (by omega)).1
     have b:=c (by omega)
     simp only[oF,aY];omega
   simp only[Rose.size] at g ⊢
   simp only[Rose.deepen]
   by_cases h4:h.1=4
   .have:=key d ks (by omega)
    rw[if_pos h4];omega
   have:=key (d+1) ks (by omega)
   rw[if_neg h4];omega
theorem ZE{N D:Nat}{l:List Ex}{x:Ex}{i:Nat}(r:l[i]? =some x)(s:x.2.2.2.2.length<2000000):∀(ks:List Rose) (k b M m:Nat),(∀t∈ks,∀b,AtT l b t->yD N D l ((b+t.size-1:Nat):Int)=some ((t.deepen 1:Nat):Int))->x.2.2.2.2.drop k=bW b ks->k<=x.2.2.2.2.length->AtTs l b ks->aY ks<=300->ks.length<M->
  aI (BK N (yD N D) l (i:Int) x) M ((m:Int),(k:Int))=some ((max m (oF (if x.1=4 then 1 else 2) ks):Nat):Int)
 |_,_,_,0,_,_,_,_,_,_,h=>absurd h (kP _)
 |[],k,b,M+1,m,_,a,z,_,_,_=>by
  have F:k=x.2.2.2.2.length:=by
   have:=congrArg List.length a
   rw[kW] at this
   simp only[bW,jF] at this
   omega
  simp only[aI,BK]
  rw[if_neg (by simp only[jA];omega)]
  simp only[j0,oF,fG]
 |t::ks,k,b,M+1,m,e,a,z,n,q,y=>by
  have A:=t.pos
  simp only[aY] at q
  have c:k<x.2.2.2.2.length:=by
   by_cases hh:k<x.2.2.2.2.length
   .exact hh
   rw[jW (by omega)] at a;cases a
  rw[uU c] at a
  obtain⟨o,p⟩:=List.cons.inj a
  obtain⟨f,g⟩:=n.head
  have E:=(qHm (d:=1) t.size t (jT _)).1
  have ew:IntKind.wrap .i64 ((k:Int)+1)=((k+1:Nat):Int):=by rw[bX (by omega) (by omega)];omega
  have ed:IntKind.wrap .i64 (((t.deepen 1:Nat):Int)+1)=((t.deepen 2:Nat):Int):=by
   have:=WC t 1
   rw[bX (by omega) (by omega),show t.deepen 2=t.deepen 1+1 from this];omega
  simp only[aI,BK]
  rw[if_pos (by simp only[jA];omega),dM c,o]
  simp only[j0]
  rw[e t (jH ..) b f,mR r]
  simp only[j0,ed,ew]
  have v:(if(x.1 !=4)=true then some ((t.deepen 2:Nat):Int) else some ((t.deepen 1:Nat):Int):Option Int)=some ((t.deepen (if x.1=4 then 1 else 2):Nat):Int):=by
   by_cases h4:x.1=4
   .rw[if_neg (by simp[h4]),if_pos h4]
   rw[if_pos (by simpa using h4),if_neg h4]
  rw[v]
  simp only[j0,tX]
  rw[ZE r s ks (k+1) (b+t.size) M _ (fun u B=>e u (jK _ B)) p (by omega) g (by omega) (by simp only[jD] at y;omega)]
  simp only[oF,hQ]
theorem YR{N:Nat}{l:List Ex}(o:∀x∈l,x.2.2.2.2.length<2000000)(q:3000000<N):∀(n:Nat) (t:Rose) (b D:Nat),t.size<=n->n<=300->n<=D->AtT l b t->yD N D l ((b+t.size-1:Nat):Int)=some ((t.deepen 1:Nat):Int)
 |0,t,_,_,h,_,_,_=>by have:=t.pos;omega
 |n+1,.mk h ks,b,D,f,v,s,e=>by
  simp only[Rose.size] at f ⊢
  obtain⟨D,rfl⟩:∃D',D=D'+1:=⟨D-1,by omega⟩
  rw[show b+(aY ks+1)-1=b+aY ks by omega]
  obtain⟨d,c⟩:=e.args
  have g:=o _ (fK d)
  have p:=KA ks
  have k:∀t∈ks,t.size<=aY ks:=by
   intro t a
   clear c d g p f e
   induction ks with
   |nil=>cases a
   |cons u l r=>
    simp only[aY]
    rcases jR.1 a with rfl|a
    .omega
    have:=r a;omega
  have r:=ZE (N:=N) (D:=D) d g ks 0 b N 1 (fun t a b' hat'=>YR o q n t b' D (by have:=k t a;omega) (by omega) (by omega) hat') (by rw[jZ];rfl) (gC _) c (by omega) (by omega)
  show FQ N (yD N D) l _=_
  unfold FQ
  rw[mR d]
  simp only[j0]
  rw[show((1:Int),(0:Int))=(((1:Nat):Int),((0:Nat):Int)) from rfl,r]
  simp only[j0,Rose.deepen]
  rfl
theorem qMh{N:Nat}{l:List Ex}(f:oneP (oI l 0 [])=true)(h:l.length<=256)(e:∀x∈l,x.2.2.2.2.length<2000000)(d:3000000<N):∃v:Int,JU N l (IntKind.wrap .i64 ((l.length:Int)-1))=some v/\(decide (v>32))=vJ l:=by
 obtain⟨t,c,a⟩:=HM f
 have g:t.size=l.length:=by
  have:=iP t 0
  rw[<-a] at this;exact this.symm
 have k:=t.pos
 have b:AtT l 0 t:=by
  have:=AtT.whole t
  rw[<-a] at this;exact this
 refine⟨((t.deepen 1:Nat):Int),?_,?_⟩
 .unfold JU
  have:=YR e d t.size t 0 N (jT _) (by omega) (by omega) b
  rw[bX (by omega) (by omega),show(l.length:Int)-1=((0+t.size-1:Nat):Int) by omega]
  exact this
 unfold vJ
 rw[c]
 simp only
 congr 1
 rw[eq_iff_iff];omega
def JC(d:Dl):Prop:=d.2.2.1.length<2000000/\d.2.2.2.length<2000000/\∀x∈d.2.2.2,x.2.2.2.2.length<2000000
def uJ(f:Sr):Prop:=f.2.1.length<2000000/\f.2.2.length<2000000/\∀d∈f.2.2,JC d
theorem SmSr.r{f:Sr}(h:SmSr f):uJ f:=⟨h.1,h.2.1,fun d a=>⟨(h.2.2 d a).2.1,(h.2.2 d a).2.2.1,fun x b=>((h.2.2 d a).2.2.2 x b).2⟩⟩
theorem qPa{N:Nat}{f:Sr}(a:uJ f)(d:3000000<N):aI (xW N f) N 0=some (if f.2.1.all dH=true then .inl () else .inr 9):=by
 obtain⟨c,-,-⟩:=a
 have h:=oR (L:=f.2.1) (fun(_:Unit) (i:Nat)=>(i:Int)) (f:=xW N f)
  (fun _ s=>if(!dH s)=true then .inr (.inr 9) else .inl ()) (fun _=>(.inl ():Unit⊕Int)) (fun _ _=>True) (by
   intro t i hi _
   simp only[xW]
   rw[if_pos (by simp only[jA];omega),dM hi]
   have ew:IntKind.wrap .i64 ((i:Int)+1)=((i+1:Nat):Int):=by rw[bX (by omega) (by omega)];omega
   simp only[j0,HJ (s:=f.2.1[i]) (show 100<N by omega),ew]
   cases dH f.2.1[i]<;>rfl) (fun _ _ _ _ _ _=>trivial) (by
   intro t _
   simp only[xW]
   rw[if_neg (by simp)]) (M:=N) (t:=()) (by omega) trivial
 rw[show((0:Nat):Int)=0 from rfl] at h
 rw[h,tR (b:=(.inr 9:Unit⊕Int)) (fun s=> !dH s) (fun x=>rfl),gM]
 cases(f.2.1.any fun s=> !dH s)<;>rfl
theorem qPm{N:Nat}{d:Dl}(a:JC d)(e:3000000<N):aI (xT N d) N 0=some (if d.2.2.1.all dH=true then .inl () else .inr 9):=by
 obtain⟨c,-,-⟩:=a
 have h:=oR (L:=d.2.2.1) (fun(_:Unit) (i:Nat)=>(i:Int)) (f:=xT N d)
  (fun _ s=>if(!dH s)=true then .inr (.inr 9) else .inl ()) (fun _=>(.inl ():Unit⊕Int)) (fun _ _=>True) (by
   intro t i hi _
   simp only[xT]
   rw[if_pos (by simp only[jA];omega),dM hi]
   have ew:IntKind.wrap .i64 ((i:Int)+1)=((i+1:Nat):Int):=by rw[bX (by omega) (by omega)];omega
   simp only[j0,HJ (s:=d.2.2.1[i]) (show 100<N by omega),ew]
   cases dH d.2.2.1[i]<;>rfl) (fun _ _ _ _ _ _=>trivial) (by
   intro t _
   simp only[xT]
   rw[if_neg (by simp)]) (M:=N) (t:=()) (by omega) trivial
 rw[show((0:Nat):Int)=0 from rfl] at h
 rw[h,tR (b:=(.inr 9:Unit⊕Int)) (fun s=> !dH s) (fun x=>rfl),gM]
 cases(d.2.2.1.any fun s=> !dH s)<;>rfl
theorem qOv{N:Nat}{d:Dl}(a:JC d)(e:3000000<N):aI (xX N d) N 0=some (if d.2.2.2.all (rP (d.2.2.1.length:Int))=true then .inl () else .inr 9):=by
 obtain⟨-,c,-⟩:=a
 have h:=oR (L:=d.2.2.2) (fun(_:Unit) (i:Nat)=>(i:Int)) (f:=xX N d)
  (fun _ x=>if(!rP (d.2.2.1.length:Int) x)=true then .inr (.inr 9) else .inl ()) (fun _=>(.inl ():Unit⊕Int)) (fun _ _=>True) (by
   intro t i hi _
   simp only[xX]
   rw[if_pos (by simp only[jA];omega),dM hi]
   have ew:IntKind.wrap .i64 ((i:Int)+1)=((i+1:Nat):Int):=by rw[bX (by omega) (by omega)];omega
   simp only[j0,qKn (x:=d.2.2.2[i]) (np:=(d.2.2.1.length:Int)) (show 100<N by omega),ew]
   cases rP (d.2.2.1.length:Int) d.2.2.2[i]<;>rfl) (fun _ _ _ _ _ _=>trivial) (by
   intro t _
   simp only[xX]
   rw[if_neg (by simp)]) (M:=N) (t:=()) (by omega) trivial
 rw[show((0:Nat):Int)=0 from rfl] at h
 rw[h,tR (b:=(.inr 9:Unit⊕Int)) (fun x=> !rP (d.2.2.1.length:Int) x) (fun x=>rfl),gM]
 cases(d.2.2.2.any fun x=> !rP (d.2.2.1.length:Int) x)<;>rfl
def ID(d:Dl):Bool:=(d.1==1||(d.2.2.1.isEmpty&&(d.1==2||d.1==3)))&&(if d.1=3 then iN d.2.1.data.toList else dH d.2.1)
theorem qEc(d:Dl):oS d=(ID d&&(d.2.2.1.all dH&&(d.2.2.2.all (rP (d.2.2.1.length:Int))&&oneP (xG d.2.2.2 0 [])))):=by
 have c:AD d=(d.2.2.2.all (rP (d.2.2.1.length:Int))&&oneP (xG d.2.2.2 0 [])):=by
  unfold AD xG
  have e:d.2.2.2.all (iJ (d.2.2.1.length:Int))=(d.2.2.2.all (rP (d.2.2.1.length:Int))&&d.2.2.2.all rD):=by
   rw[kK]
   simp only[kE,jM,qGq]
   exact⟨fun h=>⟨fun x b=>(h x b).1,fun x b=>(h x b).2⟩,fun h x b=>⟨h.1 x b,h.2 x b⟩⟩
  rw[e]
  cases d.2.2.2.all rD with
  |true=>simp
  |false=>simp[oneP]
 unfold oS
 rw[c]
 unfold vO AH ID
 by_cases k1:d.1=1
 .simp[k1]
 by_cases b:d.1=2
 .cases hp:d.2.2.1 with
  |nil=>simp[b]
  |cons a l=>simp[b]
 by_cases k3:d.1=3
 .cases hp:d.2.2.1 with
  |nil=>simp[k3]
  |cons a l=>simp[k3]
 simp[k1,b,k3]
theorem qOn{N:Nat}{f:Sr}(p:uJ f)(g:3000000<N):aI (xP N f) N 0=some (if f.2.2.all oS=true then .inl () else .inr 9):=by
 obtain⟨-,u,o⟩:=p
 have h:=oR (L:=f.2.2) (fun(_:Unit) (i:Nat)=>(i:Int)) (f:=xP N f)
  (fun _ d=>if(!oS d)=true then .inr (.inr 9) else .inl ()) (fun _=>(.inl ():Unit⊕Int)) (fun _ _=>True) (by
   intro t i hi _
   have c:=o _ (jN hi)
   obtain⟨-,k,n⟩:=id c
   simp only[xP]
   rw[if_pos (by simp only[jA];omega),dM hi]
   generalize f.2.2[i]=d at c k n
   have ew:IntKind.wrap .i64 ((i:Int)+1)=((i+1:Nat):Int):=by rw[bX (by omega) (by omega)];omega
   simp only[j0,HJ (s:=d.2.1) (show 100<N by omega),NX (s:=d.2.1) (show 100<N by omega),qPm c g,qOv c g,qHc k n g,ew]
   rw[qEc]
   have q:(if decide (d.1<1)=true then some true else if decide (d.1>3)=true then some true else if(d.1 !=1)=true then(if decide ((d.2.2.1.length:Int)>0)=true then some true else if(d.1==3)=true then(if(!iN d.2.1.data.toList)=true then some true else if(d.1 !=3)=true then some (!dH d.2.1) else some false) else if(d.1 !=3)=true then some (!dH d.2.1) else some false) else if(d.1==3)=true then(if(!iN d.2.1.data.toList)=true then some true else if(d.1 !=3)=true then some (!dH d.2.1) else some false) else if(d.1 !=3)=true then some (!dH d.2.1) else some false:Option Bool)=some (!ID d):=by
    unfold ID
    by_cases k1:d.1=1
    .simp[k1]
    by_cases e:d.1=2
    .cases hp:d.2.2.1 with
     |nil=>simp[e]
     |cons a l=>simp[e]
    by_cases k3:d.1=3
    .cases hp:d.2.2.1 with
     |nil=>simp[k3];cases iN d.2.1.data.toList<;>rfl
     |cons a l=>simp[k3]
    by_cases k4:d.1<1
    .simp[k1,e,k3,k4]
    have r:d.1>3:=by omega
    simp[k1,e,k3,k4,r]
   refine Eq.trans (congrArg (fun z=>Option.bind z _) q) ?_
   simp only[j0]
   cases ID d with
   |false=>rfl
   |true=>
    rw[if_neg (by decide),gF]
    cases d.2.2.1.all dH with
    |false=>rfl
    |true=>
     rw[if_pos rfl,gF]
     simp only
     cases d.2.2.2.all (rP (d.2.2.1.length:Int)) with
     |false=>rfl
     |true=>
      rw[if_pos rfl,gF]
      simp only
      cases oneP (xG d.2.2.2 0 [])<;>rfl) (fun _ _ _ _ _ _=>trivial) (by
   intro t _
   simp only[xP]
   rw[if_neg (by simp)]) (M:=N) (t:=()) (by omega) trivial
 rw[show((0:Nat):Int)=0 from rfl] at h
 rw[h,tR (b:=(.inr 9:Unit⊕Int)) (fun d=> !oS d) (fun x=>rfl),gM]
 cases(f.2.2.any fun d=> !oS d)<;>rfl
theorem qOq{N:Nat}{f:Sr}(b:uJ f)(d:3000000<N):aI (xU N f) N 0=some (if(decide (f.1∈f.2.1)||lC f.2.1)=true then .inr 10 else .inl ()):=by
 obtain⟨c,-,-⟩:=b
 have h:=oR (L:=f.2.1) (fun(_:List BA) (i:Nat)=>(i:Int)) (f:=xU N f)
  (fun t s=>if(decide (s=f.1)||decide (s∈t))=true then .inr (.inr 10) else .inl (t++[s])) (fun _=>(.inl ():Unit⊕Int)) (fun i t=>t=f.2.1.take i) (by
   rintro t i hi rfl
   simp only[xU]
   rw[if_pos (by simp only[jA];omega),dM hi]
   have ew:IntKind.wrap .i64 ((i:Int)+1)=((i+1:Nat):Int):=by rw[bX (by omega) (by omega)];omega
   simp only[j0]
   rw[wP (by omega) (by omega) (by omega)]
   simp only[j0,jS,gZ,jZ,iY,ew]
   rw[IK (by rw[kL];omega) (by rw[kL];omega)]
   simp only[j0]
   cases decide (f.2.1[i]=f.1)<;>cases decide (f.2.1[i]∈f.2.1.take i)<;>rfl) (by
   rintro t i hi t' rfl a
   split at a
   .cases a
   .obtain rfl:=(Sum.inl.inj a).symm
    rw[CT hi]) (by
   intro t _
   simp only[xU]
   rw[if_neg (by simp)]) (M:=N) (t:=[]) (by omega) (by simp)
 rw[show((0:Nat):Int)=0 from rfl] at h
 rw[h]
 congr 1
 have key:∀(l t:List BA),run (fun t s=>if(decide (s=f.1)||decide (s∈t))=true then(.inr (.inr 10):List BA⊕(Unit⊕Int)) else .inl (t++[s])) (fun _=>(.inl ():Unit⊕Int)) l t=if(decide (f.1∈l)||mD t l)=true then .inr 10 else .inl ():=by
  intro l
  induction l with
  |nil=>intro t;rfl
  |cons s l a=>
   intro t
   simp only[run,mD,jR]
   by_cases e1:s=f.1
   .simp[e1]
   by_cases e2:s∈t
   .simp[e2]
   rw[jX e1,jX e2]
   simp only[Bool.or_self,jB,jI,kX]
   rw[a]
   have e3:decide (f.1=s\/f.1∈l)=decide (f.1∈l):=by
    rw[decide_eq_decide]
    exact⟨fun h=>h.resolve_left (fun g=>e1 g.symm),.inr⟩
   rw[e3]
 exact key _ _
theorem qPi{N:Nat}{d:Dl}(b:JC d)(e:3000000<N):aI (xS N d) N 0=some (if lC d.2.2.1=true then .inr 10 else .inl ()):=by
 obtain⟨c,-,-⟩:=b
 have h:=oR (L:=d.2.2.1) (fun(_:List BA) (i:Nat)=>(i:Int)) (f:=xS N d)
  (fun t s=>if decide (s∈t)=true then .inr (.inr 10) else .inl (t++[s])) (fun _=>(.inl ():Unit⊕Int)) (fun i t=>t=d.2.2.1.take i) (by
   rintro t i hi rfl
   simp only[xS]
   rw[if_pos (by simp only[jA];omega),dM hi]
   have ew:IntKind.wrap .i64 ((i:Int)+1)=((i+1:Nat):Int):=by rw[bX (by omega) (by omega)];omega
   simp only[j0]
   rw[wP (by omega) (by omega) (by omega)]
   simp only[j0,jS,gZ,jZ,ew]
   rw[IK (by rw[kL];omega) (by rw[kL];omega)]
   simp only[j0]
   cases decide (d.2.2.1[i]∈d.2.2.1.take i)<;>rfl) (by
   rintro t i hi t' rfl a
   split at a
   .cases a
   .obtain rfl:=(Sum.inl.inj a).symm
    rw[CT hi]) (by
   intro t _
   simp only[xS]
   rw[if_neg (by simp)]) (M:=N) (t:=[]) (by omega) (by simp)
 rw[show((0:Nat):Int)=0 from rfl] at h
 rw[h]
 congr 1
 have key:∀(l t:List BA),run (fun t s=>if decide (s∈t)=true then(.inr (.inr 10):List BA⊕(Unit⊕Int)) else .inl (t++[s])) (fun _=>(.inl ():Unit⊕Int)) l t=if mD t l=true then .inr 10 else .inl ():=by
  intro l
  induction l with
  |nil=>intro t;rfl
  |cons s l a=>
   intro t
   simp only[run]
   rw[show mD t (s::l)=(decide (s∈t)||mD (t++[s]) l) from rfl]
   by_cases e2:s∈t
   .simp[e2]
   rw[jX e2]
   simp only[jB,jI,kX]
   rw[a]
 exact key _ _
theorem qGk(l:List Dl)(d:Dl):(l.any fun x=>x.1==d.1&&decide (x.2.1=d.2.1))=decide (mP d∈l.map mP):=by
 rw[kK]
 simp only[fD,jM,kN,jA,fT]
 constructor
 .rintro⟨x,a,b,c⟩
  exact⟨x,a,Prod.ext b c⟩
 rintro⟨x,a,h⟩
 exact⟨x,a,congrArg (fun z:rV=>z.1) h,congrArg (fun z:rV=>z.2) h⟩
theorem qPp{N:Nat}{f:Sr}(g:uJ f)(c:3000000<N):aI (xV N f) N 0=some (if(lC (f.2.2.map mP)||f.2.2.any (fun d=>lC d.2.2.1))=true then .inr 10 else .inl ()):=by
 obtain⟨-,k,b⟩:=g
 have h:=oR (L:=f.2.2) (fun(_:List Dl) (i:Nat)=>(i:Int)) (f:=xV N f)
  (fun t d=>if(decide (mP d∈t.map mP)||lC d.2.2.1)=true then .inr (.inr 10) else .inl (t++[d])) (fun _=>(.inl ():Unit⊕Int)) (fun i t=>t=f.2.2.take i) (by
   rintro t i hi rfl
   have e:=b _ (jN hi)
   simp only[xV]
   rw[if_pos (by simp only[jA];omega),dM hi]
   have ew:IntKind.wrap .i64 ((i:Int)+1)=((i+1:Nat):Int):=by rw[bX (by omega) (by omega)];omega
   simp only[j0]
   rw[wP (by omega) (by omega) (by omega)]
   simp only[j0,jS,gZ,jZ,ew]
   rw[qAg (by show(f.2.2.take i).length<_;rw[kL];omega) (by show(f.2.2.take i).length<_;rw[kL];omega)]
   simp only[j0]
   rw[show((((⟨#[]⟩:BA),([]:List BA),f.2.2.take i):Sr).2.2.any fun x=>x.1==f.2.2[i].1&&decide (x.2.1=f.2.2[i].2.1))=_ from qGk (f.2.2.take i) f.2.2[i],qPi e c]
   cases decide (mP f.2.2[i]∈(f.2.2.take i).map mP)<;>cases lC f.2.2[i].2.2.1<;>rfl) (by
   rintro t i hi t' rfl a
   split at a
   .cases a
   .obtain rfl:=(Sum.inl.inj a).symm
    rw[CT hi]) (by
   intro t _
   simp only[xV]
   rw[if_neg (by simp)]) (M:=N) (t:=[]) (by omega) (by simp)
 rw[show((0:Nat):Int)=0 from rfl] at h
 rw[h]
 congr 1
 have key:∀(l t:List Dl),run (fun t d=>if(decide (mP d∈t.map mP)||lC d.2.2.1)=true then(.inr (.inr 10):List Dl⊕(Unit⊕Int)) else .inl (t++[d])) (fun _=>(.inl ():Unit⊕Int)) l t=if(mD (t.map mP) (l.map mP)||l.any (fun d=>lC d.2.2.1))=true then .inr 10 else .inl ():=by
  intro l
  induction l with
  |nil=>intro t;rfl
  |cons d l a=>
   intro t
   simp only[run,kG,mD,fI]
   by_cases e1:mP d∈t.map mP
   .simp[e1]
   rw[jX e1]
   cases e2:lC d.2.2.1 with
   |true=>simp
   |false=>
    simp only[Bool.or_self,jB,jI,kX]
    rw[a,fB,List.map_singleton]
 exact key _ _
theorem qOw{N:Nat}{f:Sr}(n:uJ f)(o:f.2.2.all oS=true)(l:3000000<N):aI (xR N f) N 0=some (if f.2.2.any sZ=true then .inr 2 else .inl ()):=by
 obtain⟨-,u,k⟩:=n
 have h:=oR (L:=f.2.2) (fun(_:Unit) (i:Nat)=>(i:Int)) (f:=xR N f)
  (fun _ d=>if sZ d=true then .inr (.inr 2) else .inl ()) (fun _=>(.inl ():Unit⊕Int)) (fun _ _=>True) (by
   intro t i hi _
   obtain⟨p,q,e⟩:=k _ (jN hi)
   have c:=(WZ (kE.1 o _ (jN hi))).tree
   simp only[xR]
   rw[if_pos (by simp only[jA];omega),dM hi]
   generalize f.2.2[i]=d at p q e c
   have ew:IntKind.wrap .i64 ((i:Int)+1)=((i+1:Nat):Int):=by rw[bX (by omega) (by omega)];omega
   have g:decide ((d.2.2.1.length:Int)>8)=decide (8<d.2.2.1.length):=by congr 1;rw[eq_iff_iff];omega
   have a:decide ((d.2.2.2.length:Int)>256)=decide (256<d.2.2.2.length):=by congr 1;rw[eq_iff_iff];omega
   simp only[j0,g,a,ew]
   unfold sZ
   cases c8:decide (8<d.2.2.1.length) with
   |true=>rfl
   |false=>
    simp only[jB,jI,kX]
    cases c256:decide (256<d.2.2.2.length) with
    |true=>rfl
    |false=>
     have y:=of_decide_eq_false c256
     obtain⟨v,r,s⟩:=qMh c (by omega) e l
     simp only[jB,jI,kX,r,j0,s]
     cases vJ d.2.2.2<;>rfl) (fun _ _ _ _ _ _=>trivial) (by
   intro t _
   simp only[xR]
   rw[if_neg (by simp)]) (M:=N) (t:=()) (by omega) trivial
 rw[show((0:Nat):Int)=0 from rfl] at h
 rw[h,tR (b:=(.inr 2:Unit⊕Int)) sZ (fun x=>rfl)]
theorem OK{N:Nat}{f:Sr}(b:uJ f)(a:3000000<N):tK N f=some (lQ f):=by
 unfold tK lQ xF
 rw[HJ (by omega),qPa b a,qOn b a,qOq b a,qPp b a]
 simp only[j0]
 cases dH f.1 with
 |false=>rfl
 |true=>
  rw[if_neg (by decide),gF]
  cases f.2.1.all dH with
  |false=>rfl
  |true=>
   rw[if_pos rfl,gF]
   simp only
   cases hs:f.2.2.all oS with
   |false=>rfl
   |true=>
    rw[if_pos rfl,if_pos rfl,qOw b hs a]
    simp only
    unfold wV AE
    have e:decide ((f.2.1.length:Int)>8)=decide (8<f.2.1.length):=by congr 1;rw[eq_iff_iff];omega
    have c:decide ((f.2.2.length:Int)>64)=decide (64<f.2.2.length):=by congr 1;rw[eq_iff_iff];omega
    rw[e,c]
    cases decide (f.1∈f.2.1)<;>cases lC f.2.1<;>cases lC (f.2.2.map mP)<;>cases f.2.2.any (fun d=>lC d.2.2.1)<;>(try rfl)
    cases decide (8<f.2.1.length)<;>cases decide (64<f.2.2.length)<;>cases f.2.2.any sZ<;>rfl
end
section
open Go Go.Dc Go.Proofs
end
section
open Go Go.Dc Go.Proofs
def zZ(d:Dl):Sr:=(⟨#[112]⟩,[],[(1,⟨#[102]⟩,d.2.2.1,d.2.2.2)])
theorem LO{N:Nat}:∀(D k n:Nat),n<10^(k+1)->n<10000000000000000->k<D->FD N D (n:Int)=some (oZ (n:Int))
 |0,_,_,_,_,h=>absurd h (kP _)
 |D+1,k,n,h,e,d=>by
  show FH N (FD N D) (n:Int)=_
  unfold FH
  by_cases h10:n<10
  .have c:ByteArray.size (⟨#[48,49,50,51,52,53,54,55,56,57]⟩:BA)=10:=rfl
   rw[if_pos (by simp only[jA];omega),IR (by omega) (by omega),WM (by omega) (by omega) (by omega)]
   simp only[j0,jS]
   rw[show((n:Int)+1).toNat=n+1 by omega]
   congr 1
   refine qX ?_
   rw[uX,Lib.decDigits_one h10]
   exact qKs ⟨n,h10⟩
  rw[if_neg (by simp only[jA];omega)]
  obtain⟨k,rfl⟩:∃k',k=k'+1:=by
   cases k with
   |zero=>simp at h;omega
   |succ k=>exact⟨k,rfl⟩
  rw[Nat.pow_succ] at h
  have a:IntKind.wrap .u64 (Int.tdiv (n:Int) 10)=((n/10:Nat):Int):=by
   rw[show(10:Int)=((10:Nat):Int) from rfl,<-Int.ofNat_tdiv,IR (by omega) (by omega)]
  have b:Int.tmod (n:Int) 10=((n%10:Nat):Int):=by
   rw[show(10:Int)=((10:Nat):Int) from rfl,<-Int.ofNat_tmod]
  rw[a,b,LO D k (n/10) (by omega) (by omega) (by omega),LO D 0 (n%10) (by omega) (by omega) (by omega)]
  simp only[j0]
  have f:=DF 15 (n/10) (by omega)
  have g:=DF 15 (n%10) (by omega)
  have l:(oZ ((n/10:Nat):Int)).size=(Lib.decDigits (n/10)).length:=by rw[<-uX,eH]
  have o:(oZ ((n%10:Nat):Int)).size=(Lib.decDigits (n%10)).length:=by rw[<-uX,eH]
  rw[cV (by omega)]
  simp only[j0]
  congr 1
  refine qX ?_
  rw[lA,uX,uX,uX,KW h10,Lib.decDigits_one (show n%10<10 by omega)]
theorem VS{N:Nat}{n:Int}(a: -9007199254740992<=n)(b:n<=9007199254740992)(c:100<N):yC N n=some (oZ n):=by
 unfold yC JS
 by_cases h:n<0
 .rw[if_pos (by simpa using h),bX (show-9223372036854775808<=n+1 by omega) (by omega),bX (by omega) (by omega),IR (show 0<=0-(n+1) by omega) (by omega),IR (by omega) (by omega)]
  obtain⟨m,rfl⟩:∃m:Nat,n= -(m:Int):=⟨n.natAbs,by omega⟩
  rw[show(0-(-(m:Int)+1)+1)=(m:Int) by omega,LO N 15 m (by omega) (by omega) (by omega)]
  have d:=DF 15 m (by omega)
  have e:(oZ (m:Int)).size=(Lib.decDigits m).length:=by rw[<-uX,eH]
  have z:(⟨#[45]⟩:BA).size=1:=rfl
  simp only[j0]
  rw[cV (by omega)]
  simp only[j0]
  congr 1
  refine qX ?_
  rw[lA,uX]
  show[45]++Lib.decDigits m=Lib.itoa (-(m:Int))
  unfold Lib.itoa
  rw[if_pos (by omega),show(-(m:Int)).natAbs=m by omega]
  rfl
 rw[if_neg (by simpa using h),IR (by omega) (by omega)]
 obtain⟨m,rfl⟩:∃m:Nat,n=(m:Int):=⟨n.toNat,by omega⟩
 rw[LO N 15 m (by omega) (by omega) (by omega)]
 rfl
theorem VM{N:Nat}(x:Ex):uO N x=some (dO (x.1,x.2.1,x.2.2.1,x.2.2.2.1)):=by
 unfold uO dO
 by_cases h5:x.1=5
 .simp[h5]
 by_cases h4:x.1=4
 .by_cases o1:x.2.2.1=1
  .simp[h4,o1]
  by_cases o2:x.2.2.1=2
  .simp[h4,o2]
  by_cases o6:x.2.2.1=6
  .simp[h4,o6]
  by_cases o7:x.2.2.1=7
  .simp[h4,o7]
  simp[h4,o6,o7,o1,o2]
 simp[h5,h4]
theorem vD{N:Nat}{h:Hd}{args:List Int}{need:Int}{B:List UInt8}(e:B.length<=100000):(Option.bind (some (cQ B)) fun a=>(uO N (eD h args)).bind fun d=>if(decide (d<need))=true then((cC (⟨#[40]⟩:BA) a).bind fun b=>(cC b (⟨#[41]⟩:BA)).bind fun c=>some c) else(some a))=some (cQ (if dO h<need then 40::(B++[41]) else B)):=by
 have f:(⟨#[40]⟩:BA).size=1:=rfl
 have g:(⟨#[41]⟩:BA).size=1:=rfl
 rw[show uO N (eD h args)=some (dO h) from VM _]
 simp only[j0]
 by_cases h:dO h<need
 .rw[if_pos (by simpa using h),if_pos h,cV (by rw[iS];omega)]
  simp only[j0]
  rw[cV (by rw[ByteArray.size_append,iS];omega)]
  rfl
 rw[if_neg (by simpa using h),if_neg h]
theorem qJv{op:Int}(a:1<=op)(b:op<=7):idx ([(⟨#[]⟩:BA),(⟨#[43]⟩:BA),(⟨#[45]⟩:BA),(⟨#[42]⟩:BA),(⟨#[47]⟩:BA),(⟨#[37]⟩:BA),(⟨#[60]⟩:BA),(⟨#[61,61]⟩:BA)]) op=some (pI op):=by
 rcases(by omega:op=1\/op=2\/op=3\/op=4\/op=5\/op=6\/op=7) with rfl|rfl|rfl|rfl|rfl|rfl|rfl<;>rfl
section
variable {N:Nat} {l:List Ex} {ps:List BA}
def qBm(N:Nat)(l:List Ex)(ps:List BA)(t:Rose):Prop:=∀(b D:Nat) (need:Int),AtT l b t->t.size<=300->t.size<=D->0<=need->xY N D l ((b+t.size-1:Nat):Int) ps need=some (cQ (t.wr ps need))/\(t.wr ps need).length+2<=110*t.size
theorem nd0{h:Hd}(a:h.1≠4)(k:Nat):dV h k=0:=by unfold dV;rw[if_neg a]
theorem qAs{D:Nat}{h:Hd}{x:Ex}(y:3000000<N)(p:h.1≠4)(G:x.2.2.2.2.length<2000000):∀(ks:List Rose) (k b M:Nat) (s:List UInt8),(∀t∈ks,qBm N l ps t/\t.size<=300/\t.size<=D)->x.2.2.2.2.drop k=bW b ks->k<=x.2.2.2.2.length->AtTs l b ks->s.length+110*aY ks<=100000->ks.length<M->
  aI (BD N (xY N D) l ps x) M (cQ s,(k:Int))=some (cQ (s++iR k (dZ ps h k ks)))
 |_,_,_,0,_,_,_,_,_,_,e=>absurd e (kP _)
 |[],k,b,M+1,s,_,a,A,_,_,_=>by
  have U:k=x.2.2.2.2.length:=by
   have:=congrArg List.length a
   rw[kW] at this
   simp only[bW,jF] at this
   omega
  simp only[aI,BD]
  rw[if_neg (by simp only[jA];omega)]
  simp only[j0,dZ,iR,jV]
 |t::ks,k,b,M+1,s,d,a,A,q,E,e=>by
  have B:=t.pos
  simp only[aY] at E
  have c:k<x.2.2.2.2.length:=by
   by_cases hh:k<x.2.2.2.2.length
   .exact hh
   rw[jW (by omega)] at a;cases a
  rw[uU c] at a
  obtain⟨r,v⟩:=List.cons.inj a
  obtain⟨n,o⟩:=q.head
  obtain⟨t1,t2,K⟩:=d t (jH ..)
  obtain⟨R,V⟩:=t1 b D 0 n t2 K (gU 0)
  have ew:IntKind.wrap .i64 ((k:Int)+1)=((k+1:Nat):Int):=by rw[bX (by omega) (by omega)];omega
  have z:(⟨#[44,32]⟩:BA).size=2:=rfl
  simp only[aI,BD]
  rw[if_pos (by simp only[jA];omega),dM c,r]
  have g:(if(decide ((k:Int)>0))=true then((cC (cQ s) (⟨#[44,32]⟩:BA)).bind fun H=>some H) else(some (cQ s)):Option BA)=some (cQ (s++lB k)):=by
   unfold lB
   by_cases h0:k=0
   .subst h0
    rw[if_neg (by decide),if_pos rfl,jV]
   rw[if_pos (by simp only[jA];omega),if_neg h0,cV (by rw[iS];omega)]
   rfl
  have S:(s++lB k).length<=s.length+2:=by
   unfold lB
   split<;>simp
  simp only[j0,g,R]
  rw[cV (by rw[iS,iS];omega)]
  simp only[j0,ew]
  have f:cQ (s++lB k)++cQ (t.wr ps 0)=cQ ((s++lB k)++t.wr ps 0):=by
   refine qX ?_
   rw[lA,pZ,pZ,pZ]
  rw[f,qAs y p G ks (k+1) (b+t.size) M _ (fun u F=>d u (jK _ F)) v (by omega) o (by rw[jC];omega) (by simp only[jD] at e;omega)]
  simp only[dZ,iR,nd0 p,jE]
theorem qKw(hN:3000000<N)(a2:∀s∈ps,s.size<=24)(hl:∀x∈l,iJ (ps.length:Int) x=true){t:Rose}(hf:Fine ps.length t):qBm N l ps t:=by
 have F:∀(t:Rose) (b:Nat) (need:Int),AtT l b t->(t.wr ps need).length+2<=110*t.size:=fun t b need f=>by
  obtain⟨p,q,rfl,-⟩:=f
  exact LM a2 t b need fun x g=>hl x (kD _ (kM _ g))
 -- a node, from what its body is
 have node:∀(h:Hd) (ks:List Rose) (b D:Nat) (need:Int),AtT l b (.mk h ks)->(Rose.mk h ks).size<=300->(∀D',D=D'+1->(eF ps h (dZ ps h 0 ks)).length<=100000->rH N (xY N D') l ((b+aY ks:Nat):Int) ps need=some (cQ (if dO h<need then 40::(eF ps h (dZ ps h 0 ks)++[41]) else eF ps h (dZ ps h 0 ks))))->(Rose.mk h ks).size<=D->
   xY N D l ((b+(Rose.mk h ks).size-1:Nat):Int) ps need=some (cQ ((Rose.mk h ks).wr ps need))/\((Rose.mk h ks).wr ps need).length+2<=110*(Rose.mk h ks).size:=by
  intro h ks b D need f g y r
  have v:=F _ b need f
  refine⟨?_,v⟩
  simp only[Rose.size] at g r v ⊢
  obtain⟨D,rfl⟩:∃D',D=D'+1:=⟨D-1,by omega⟩
  have E:(eF ps h (dZ ps h 0 ks)).length<=100000:=by
   have o:=F _ b 0 f
   simp only[Rose.wr,Rose.size] at o
   split at o
   .simp only[jD,jC] at o;omega
   omega
  rw[show b+(aY ks+1)-1=b+aY ks by omega]
  simp only[Rose.wr]
  exact y D rfl E
 have sub:∀{t:Rose} {ks:List Rose},t∈ks->t.size<=aY ks:=by
  intro t ks v
  induction ks with
  |nil=>cases v
  |cons u l Z=>
   simp only[aY]
   rcases jR.1 v with rfl|v
   .omega
   have:=Z v;omega
 have z0:(⟨#[32]⟩:BA).size=1:=rfl
 have z1:(⟨#[40]⟩:BA).size=1:=rfl
 have z2:(⟨#[41]⟩:BA).size=1:=rfl
 have z3:(⟨#[105,102,32]⟩:BA).size=3:=rfl
 have z4:(⟨#[32,116,104,101,110,32]⟩:BA).size=6:=rfl
 have z5:(⟨#[32,101,108,115,101,32]⟩:BA).size=6:=rfl
 have z6:(⟨#[114,101,97,100,40,34]⟩:BA).size=6:=rfl
 have z7:(⟨#[34,44,32]⟩:BA).size=3:=rfl
 have z8:(⟨#[115,105,122,101,40,34]⟩:BA).size=6:=rfl
 have z9:(⟨#[104,97,115,40,34]⟩:BA).size=5:=rfl
 have za:(⟨#[101,110,118,40,34]⟩:BA).size=5:=rfl
 have zb:(⟨#[34,41]⟩:BA).size=2:=rfl
 have zc:(⟨#[102,108,105,112,40]⟩:BA).size=5:=rfl
 induction hf with
 |num n R S=>
  intro b D need f g r B
  refine node _ _ b D need f g (fun D' _ o=> ?_) r
  unfold rH
  rw[mR f.args.1]
  simp only[j0]
  refine Eq.trans (congrArg (fun z=>Option.bind z _) (?_:_=some (cQ _))) (vD o)
  refine Eq.trans (if_pos rfl) ?_
  show(yC N n).bind _=_
  rw[VS R S (by omega)]
  rfl
 |par i h=>
  intro b D need f g r B
  refine node _ _ b D need f g (fun D' _ o=> ?_) r
  unfold rH
  rw[mR f.args.1]
  simp only[j0]
  refine Eq.trans (congrArg (fun z=>Option.bind z _) (?_:_=some (cQ _))) (vD o)
  refine Eq.trans (if_neg (by show ¬((2:Int)==1)=true;decide)) ?_
  refine Eq.trans (if_pos rfl) ?_
  show(idx ps (i:Int)).bind _=_
  have e:ps.getD i ⟨#[]⟩=ps[i]:=by rw[kA,List.getElem?_eq_getElem h];rfl
  rw[dM h]
  show some ps[i]=some (cQ (ps.getD (Int.toNat (i:Int)) ⟨#[]⟩).data.toList)
  rw[jS,e]
  rfl
 |call s ks h hk Z=>
  intro b D need f g r B
  refine node _ _ b D need f g (fun D' hD' o=> ?_) r
  subst hD'
  simp only[Rose.size] at g r
  have V:=oQ h
  unfold rH
  rw[mR f.args.1]
  simp only[j0]
  refine Eq.trans (congrArg (fun z=>Option.bind z _) (?_:_=some (cQ _))) (vD o)
  have G:=KA ks
  refine Eq.trans (if_neg (by show ¬((3:Int)==1)=true;decide)) ?_
  refine Eq.trans (if_neg (by show ¬((3:Int)==2)=true;decide)) ?_
  refine Eq.trans (if_pos rfl) ?_
  show(cC s (⟨#[40]⟩:BA)).bind _=_
  rw[cV (by omega)]
  simp only[j0]
  have A:=qAs (D:=D') (h:=(3,0,0,s)) (x:=eD (3,0,0,s) (bW b ks)) hN (by show(3:Int)≠4;decide) (by show(bW b ks).length<_;rw[qA];omega) ks 0 b N (s++(⟨#[40]⟩:BA)).data.toList (fun t v=>⟨Z t v,by have:=sub v;omega,by have:=sub v;omega⟩) (by rw[jZ];rfl) (gC _) f.args.2 (by rw[eH,ByteArray.size_append];omega) (by omega)
  rw[show cQ (s++(⟨#[40]⟩:BA)).data.toList=s++(⟨#[40]⟩:BA) from qX (pZ _),show((0:Nat):Int)=0 from rfl] at A
  rw[A]
  simp only[j0]
  have y:=F _ b 0 f
  simp only[Rose.wr,Rose.size] at y
  rw[if_neg (by show ¬(4:Int)<0;decide)] at y
  have E:eF ps (3,0,0,s) (dZ ps (3,0,0,s) 0 ks)=(s++(⟨#[40]⟩:BA)).data.toList++(iR 0 (dZ ps (3,0,0,s) 0 ks)++[41]):=rfl
  rw[E] at y ⊢
  simp only[jC,jD,jF] at y
  rw[cV (by rw[iS];simp only[jC];omega)]
  simp only[j0]
  congr 1
  refine qX ?_
  rw[lA,pZ,pZ,jE]
 |bin op a c R S ha hc E M=>
  intro b D need f g r B
  refine node _ _ b D need f g (fun D' hD' o=> ?_) r
  subst hD'
  obtain⟨v,y⟩:=f.args
  obtain⟨A,atr⟩:=y.head
  obtain⟨G,-⟩:=atr.head
  simp only[Rose.size,aY] at g r
  have U:=a.pos
  have a1:=c.pos
  obtain⟨e,-,l3⟩:(dO (4,0,op,bU)=1\/dO (4,0,op,bU)=2\/dO (4,0,op,bU)=3)/\True/\True:=by
   rcases(by omega:op=1\/op=2\/op=3\/op=4\/op=5\/op=6\/op=7) with rfl|rfl|rfl|rfl|rfl|rfl|rfl<;>decide
  have n0:dV (4,0,op,bU) 0=if dO (4,0,op,bU)=1 then 2 else dO (4,0,op,bU):=by unfold dV;rw[if_pos rfl,if_pos rfl]
  have n1:dV (4,0,op,bU) 1=dO (4,0,op,bU)+1:=by unfold dV;rw[if_pos rfl,if_neg (by decide)]
  obtain⟨wa,la⟩:=E b D' (dV (4,0,op,bU) 0) A (by omega) (by omega) (by rw[n0];split<;>omega)
  obtain⟨wc,lc⟩:=M (b+a.size) D' (dV (4,0,op,bU) 1) G (by omega) (by omega) (by rw[n1];omega)
  have a0:=WR R S
  unfold rH
  rw[mR v]
  simp only[j0]
  refine Eq.trans (congrArg (fun z=>Option.bind z _) (?_:_=some (cQ _))) (vD o)
  refine Eq.trans (if_neg (by show ¬((4:Int)==1)=true;decide)) ?_
  refine Eq.trans (if_neg (by show ¬((4:Int)==2)=true;decide)) ?_
  refine Eq.trans (if_neg (by show ¬((4:Int)==3)=true;decide)) ?_
  refine Eq.trans (if_pos rfl) ?_
  rw[show uO N (eD (4,0,op,bU) (bW b [a,c]))=some (dO (4,0,op,bU)) from VM _]
  simp only[j0]
  have H:(if(dO (4,0,op,bU)==1)=true then some 2 else some (dO (4,0,op,bU)):Option Int)=some (dV (4,0,op,bU) 0):=by
   rw[n0]
   by_cases e:dO (4,0,op,bU)=1
   .rw[if_pos (by simpa using e),if_pos e]
   rw[if_neg (by simpa using e),if_neg e]
  have K:idx (eD (4,0,op,bU) (bW b [a,c])).2.2.2.2 0=some ((b+a.size-1:Nat):Int):=rfl
  have Y:idx (eD (4,0,op,bU) (bW b [a,c])).2.2.2.2 1=some ((b+a.size+c.size-1:Nat):Int):=rfl
  have ew:IntKind.wrap .i64 (dO (4,0,op,bU)+1)=dV (4,0,op,bU) 1:=by rw[n1,bX (by omega) (by omega)]
  rw[H,K,Y]
  simp only[j0,wa,ew,wc]
  rw[cV (by rw[iS];omega)]
  simp only[j0]
  rw[show(eD (4,0,op,bU) (bW b [a,c])).2.2.1=op from rfl,qJv R S]
  simp only[j0]
  rw[cV (by rw[ByteArray.size_append,iS];omega)]
  simp only[j0]
  rw[cV (by simp only[ByteArray.size_append,iS];omega)]
  simp only[j0]
  rw[cV (by simp only[ByteArray.size_append,iS];omega)]
  simp only[j0]
  congr 1
  refine qX ?_
  show _=a.wr ps (dV (4,0,op,bU) 0)++((((⟨#[32]⟩:BA)++pI op)++(⟨#[32]⟩:BA)).data.toList++c.wr ps (dV (4,0,op,bU) 1))
  simp only[lA,pZ,jE]
 |ite a c d ha hc hd E M a3=>
  intro b D need f g r B
  refine node _ _ b D need f g (fun D' hD' o=> ?_) r
  subst hD'
  obtain⟨v,y⟩:=f.args
  obtain⟨A,atr⟩:=y.head
  obtain⟨G,atr⟩:=atr.head
  obtain⟨a0,-⟩:=atr.head
  simp only[Rose.size,aY] at g r
  have U:=a.pos
  have a1:=c.pos
  have a4:=d.pos
  have H:∀k,dV (5,0,0,bU) k=0:=nd0 (by show(5:Int)≠4;decide)
  obtain⟨wa,la⟩:=E b D' 0 A (by omega) (by omega) (gU 0)
  obtain⟨wc,lc⟩:=M (b+a.size) D' 0 G (by omega) (by omega) (gU 0)
  obtain⟨wd,ld⟩:=a3 (b+a.size+c.size) D' 0 a0 (by omega) (by omega) (gU 0)
  unfold rH
  rw[mR v]
  simp only[j0]
  refine Eq.trans (congrArg (fun z=>Option.bind z _) (?_:_=some (cQ _))) (vD o)
  refine Eq.trans (if_neg (by show ¬((5:Int)==1)=true;decide)) ?_
  refine Eq.trans (if_neg (by show ¬((5:Int)==2)=true;decide)) ?_
  refine Eq.trans (if_neg (by show ¬((5:Int)==3)=true;decide)) ?_
  refine Eq.trans (if_neg (by show ¬((5:Int)==4)=true;decide)) ?_
  refine Eq.trans (if_pos rfl) ?_
  have K:idx (eD (5,0,0,bU) (bW b [a,c,d])).2.2.2.2 0=some ((b+a.size-1:Nat):Int):=rfl
  have Y:idx (eD (5,0,0,bU) (bW b [a,c,d])).2.2.2.2 1=some ((b+a.size+c.size-1:Nat):Int):=rfl
  have i2:idx (eD (5,0,0,bU) (bW b [a,c,d])).2.2.2.2 2=some ((b+a.size+c.size+d.size-1:Nat):Int):=rfl
  rw[K,Y,i2]
  simp only[j0,wa]
  rw[cV (by rw[iS];omega)]
  simp only[j0]
  rw[cV (by simp only[ByteArray.size_append,iS];omega)]
  simp only[j0,wc]
  rw[cV (by simp only[ByteArray.size_append,iS];omega)]
  simp only[j0]
  rw[cV (by simp only[ByteArray.size_append,iS];omega)]
  simp only[j0,wd]
  rw[cV (by simp only[ByteArray.size_append,iS];omega)]
  simp only[j0]
  congr 1
  refine qX ?_
  show _=tI++(a.wr ps (dV (5,0,0,bU) 0)++(tThen++(c.wr ps (dV (5,0,0,bU) 1)++(tElse++d.wr ps (dV (5,0,0,bU) 2)))))
  simp only[lA,pZ,jE,H]
  rfl
 |read s a h ha E=>
  intro b D need f g r B
  refine node _ _ b D need f g (fun D' hD' o=> ?_) r
  subst hD'
  obtain⟨v,y⟩:=f.args
  obtain⟨A,-⟩:=y.head
  simp only[Rose.size,aY] at g r
  have U:=a.pos
  have V:=GZ h
  have H:∀k,dV (6,0,0,s) k=0:=nd0 (by show(6:Int)≠4;decide)
  obtain⟨wa,la⟩:=E b D' 0 A (by omega) (by omega) (gU 0)
  unfold rH
  rw[mR v]
  simp only[j0]
  refine Eq.trans (congrArg (fun z=>Option.bind z _) (?_:_=some (cQ _))) (vD o)
  refine Eq.trans (if_neg (by show ¬((6:Int)==1)=true;decide)) ?_
  refine Eq.trans (if_neg (by show ¬((6:Int)==2)=true;decide)) ?_
  refine Eq.trans (if_neg (by show ¬((6:Int)==3)=true;decide)) ?_
  refine Eq.trans (if_neg (by show ¬((6:Int)==4)=true;decide)) ?_
  refine Eq.trans (if_neg (by show ¬((6:Int)==5)=true;decide)) ?_
  refine Eq.trans (if_pos rfl) ?_
  have K:idx (eD (6,0,0,s) (bW b [a])).2.2.2.2 0=some ((b+a.size-1:Nat):Int):=rfl
  rw[show(eD (6,0,0,s) (bW b [a])).2.2.2.1=s from rfl,K,cV (by omega)]
  simp only[j0]
  rw[cV (by rw[ByteArray.size_append];omega)]
  simp only[j0,wa]
  rw[cV (by simp only[ByteArray.size_append,iS];omega)]
  simp only[j0]
  rw[cV (by simp only[ByteArray.size_append,iS];omega)]
  simp only[j0]
  congr 1
  refine qX ?_
  show _=(((⟨#[114,101,97,100,40,34]⟩:BA)++s)++(⟨#[34,44,32]⟩:BA)).data.toList++(a.wr ps (dV (6,0,0,s) 0)++[41])
  simp only[lA,pZ,jE,H]
 |look k s hk h=>
  intro b D need f g r B
  refine node _ _ b D need f g (fun D' _ o=> ?_) r
  have V:=GZ h
  unfold rH
  rw[mR f.args.1]
  simp only[j0]
  refine Eq.trans (congrArg (fun z=>Option.bind z _) (?_:_=some (cQ _))) (vD o)
  rcases hk with rfl|rfl
  .refine Eq.trans (if_neg (by show ¬((7:Int)==1)=true;decide)) ?_
   refine Eq.trans (if_neg (by show ¬((7:Int)==2)=true;decide)) ?_
   refine Eq.trans (if_neg (by show ¬((7:Int)==3)=true;decide)) ?_
   refine Eq.trans (if_neg (by show ¬((7:Int)==4)=true;decide)) ?_
   refine Eq.trans (if_neg (by show ¬((7:Int)==5)=true;decide)) ?_
   refine Eq.trans (if_neg (by show ¬((7:Int)==6)=true;decide)) ?_
   refine Eq.trans (if_pos rfl) ?_
   rw[show(eD (7,0,0,s) (bW b [])).2.2.2.1=s from rfl,cV (by omega)]
   simp only[j0]
   rw[cV (by rw[ByteArray.size_append];omega)]
   simp only[j0]
   congr 1
  refine Eq.trans (if_neg (by show ¬((8:Int)==1)=true;decide)) ?_
  refine Eq.trans (if_neg (by show ¬((8:Int)==2)=true;decide)) ?_
  refine Eq.trans (if_neg (by show ¬((8:Int)==3)=true;decide)) ?_
  refine Eq.trans (if_neg (by show ¬((8:Int)==4)=true;decide)) ?_
  refine Eq.trans (if_neg (by show ¬((8:Int)==5)=true;decide)) ?_
  refine Eq.trans (if_neg (by show ¬((8:Int)==6)=true;decide)) ?_
  refine Eq.trans (if_neg (by show ¬((8:Int)==7)=true;decide)) ?_
  refine Eq.trans (if_pos rfl) ?_
  rw[show(eD (8,0,0,s) (bW b [])).2.2.2.1=s from rfl,cV (by omega)]
  simp only[j0]
  rw[cV (by rw[ByteArray.size_append];omega)]
  simp only[j0]
  congr 1
 |env s h=>
  intro b D need f g r B
  refine node _ _ b D need f g (fun D' _ o=> ?_) r
  have V:=OI h
  unfold rH
  rw[mR f.args.1]
  simp only[j0]
  refine Eq.trans (congrArg (fun z=>Option.bind z _) (?_:_=some (cQ _))) (vD o)
  refine Eq.trans (if_neg (by show ¬((9:Int)==1)=true;decide)) ?_
  refine Eq.trans (if_neg (by show ¬((9:Int)==2)=true;decide)) ?_
  refine Eq.trans (if_neg (by show ¬((9:Int)==3)=true;decide)) ?_
  refine Eq.trans (if_neg (by show ¬((9:Int)==4)=true;decide)) ?_
  refine Eq.trans (if_neg (by show ¬((9:Int)==5)=true;decide)) ?_
  refine Eq.trans (if_neg (by show ¬((9:Int)==6)=true;decide)) ?_
  refine Eq.trans (if_neg (by show ¬((9:Int)==7)=true;decide)) ?_
  refine Eq.trans (if_neg (by show ¬((9:Int)==8)=true;decide)) ?_
  refine Eq.trans (if_pos rfl) ?_
  rw[show(eD (9,0,0,s) (bW b [])).2.2.2.1=s from rfl,cV (by omega)]
  simp only[j0]
  rw[cV (by rw[ByteArray.size_append];omega)]
  simp only[j0]
  congr 1
 |flip n h=>
  intro b D need f g r B
  refine node _ _ b D need f g (fun D' _ o=> ?_) r
  unfold rH
  rw[mR f.args.1]
  simp only[j0]
  refine Eq.trans (congrArg (fun z=>Option.bind z _) (?_:_=some (cQ _))) (vD o)
  have hi:=QT (n:=(n:Int)) (by omega) (by omega)
  refine Eq.trans (if_neg (by show ¬((10:Int)==1)=true;decide)) ?_
  refine Eq.trans (if_neg (by show ¬((10:Int)==2)=true;decide)) ?_
  refine Eq.trans (if_neg (by show ¬((10:Int)==3)=true;decide)) ?_
  refine Eq.trans (if_neg (by show ¬((10:Int)==4)=true;decide)) ?_
  refine Eq.trans (if_neg (by show ¬((10:Int)==5)=true;decide)) ?_
  refine Eq.trans (if_neg (by show ¬((10:Int)==6)=true;decide)) ?_
  refine Eq.trans (if_neg (by show ¬((10:Int)==7)=true;decide)) ?_
  refine Eq.trans (if_neg (by show ¬((10:Int)==8)=true;decide)) ?_
  refine Eq.trans (if_neg (by show ¬((10:Int)==9)=true;decide)) ?_
  refine Eq.trans (if_pos rfl) ?_
  rw[show(eD (10,(n:Int),0,bU) (bW b [])).2.1=(n:Int) from rfl,VS (by omega) (by omega) (by omega)]
  simp only[j0]
  rw[cV (by omega)]
  simp only[j0]
  rw[cV (by rw[ByteArray.size_append];omega)]
  simp only[j0]
  congr 1
end
theorem WQ{N:Nat}{d:Dl}(h:OkD d)(f:3000000<N):BO N d.2.2.2 (IntKind.wrap .i64 ((d.2.2.2.length:Int)-1)) d.2.2.1 0=some (cQ (pW d)):=by
 obtain⟨t,c,a,e⟩:=h.tree
 have n:t.size=d.2.2.2.length:=by
  have:=iP t 0
  rw[<-a] at this;exact this.symm
 have p:=t.pos
 have o:=h.body
 have b:AtT d.2.2.2 0 t:=by
  have:=AtT.whole t
  rw[<-a] at this;exact this
 have l:pW d=t.wr d.2.2.1 0:=by unfold pW;rw[c]
 have g:=(qKw f (fun s k=>oQ (h.names s k)) h.good.nodes e 0 N 0 b (by omega) (by omega) (gU 0)).1
 unfold BO
 rw[bX (by omega) (by omega),l,show(d.2.2.2.length:Int)-1=((0+t.size-1:Nat):Int) by omega]
 exact g
theorem LG(a b:List UInt8):cQ a++cQ b=cQ (a++b):=qX (by rw[lA,pZ,pZ,pZ])
theorem HV(s:BA):cQ s.data.toList=s:=qX (pZ _)
theorem ZL{d:Dl}(a:GoodD d)(n:d.2.2.2.length<=256):(pW d).length<=30000:=by
 obtain⟨t,c,b⟩:=HM a.tree
 have k:t.size=d.2.2.2.length:=by
  have:=iP t 0
  rw[<-b] at this;exact this.symm
 have f:∀x∈t.flat 0,iJ (d.2.2.1.length:Int) x=true:=fun x h=>a.nodes x (by rw[b];exact h)
 have l:=LM (ps:=d.2.2.1) (fun s e=>oQ (a.pars s e).2) t 0 0 f
 have g:pW d=t.wr d.2.2.1 0:=by unfold pW;rw[c]
 rw[g];omega
theorem qHl{d:Dl}(h:OkD d):(lY d).length<=31000:=by
 have a:=KN h.good h.pars
 have b:=ZL h.good h.body
 have c:(⟨#[32,61,32]⟩:BA).size=3:=rfl
 have e:(⟨#[59,10]⟩:BA).size=2:=rfl
 unfold lY
 simp only[jC,eH,ByteArray.size_append,iS];omega
theorem qKe{l:List BA}(h:∀s∈l,dH s=true):(l.flatMap lI).length<=40*l.length:=by
 induction l with
 |nil=>exact gC _
 |cons s l b=>
  have c:=oQ (h s (jH ..))
  have d:=b fun x a=>h x (jK _ a)
  have f:(⟨#[105,109,112,111,114,116,32]⟩:BA).size=7:=rfl
  have g:(⟨#[59,10]⟩:BA).size=2:=rfl
  have e:(lI s).length<=40:=by unfold lI;simp only[eH,ByteArray.size_append];omega
  simp only[kF,jC,jD];omega
theorem qIw{N:Nat}{f:Sr}(h:GoodS f)(n:3000000<N):GA N f=some (cQ (oW f.1++f.2.1.flatMap lI))/\(oW f.1++f.2.1.flatMap lI).length<=600:=by
 have o:=h.impn
 have g:=oQ h.pkg
 have p:(⟨#[112,97,99,107,97,103,101,32]⟩:BA).size=8:=rfl
 have q:(⟨#[59,10]⟩:BA).size=2:=rfl
 have r:(⟨#[105,109,112,111,114,116,32]⟩:BA).size=7:=rfl
 have k:(oW f.1).length<=100:=by unfold oW;simp only[eH,ByteArray.size_append];omega
 refine⟨?_,by have:=qKe h.imps;rw[jC];omega⟩
 have a:∀s∈f.2.1,(lI s).length<=40:=fun s e=>by
  have:=oQ (h.imps s e)
  unfold lI
  simp only[eH,ByteArray.size_append];omega
 have d:=oR (L:=f.2.1) (fun(t:List UInt8) (i:Nat)=>(cQ t,(i:Int))) (f:=BJ N f)
  (fun t s=> .inl (t++lI s)) (fun t=>cQ t) (fun i t=>t.length<=100+40*i) (by
   intro t i hi b
   have l:=oQ (h.imps _ (jN hi))
   simp only[BJ]
   rw[if_pos (by simp only[jA];omega),dM hi]
   have ew:IntKind.wrap .i64 ((i:Int)+1)=((i+1:Nat):Int):=by rw[bX (by omega) (by omega)];omega
   simp only[j0]
   rw[cV (by omega)]
   simp only[j0]
   rw[cV (by rw[ByteArray.size_append];omega)]
   simp only[j0]
   rw[cV (by simp only[ByteArray.size_append,iS];omega)]
   simp only[j0,ew]
   rw[<-LG,show cQ (lI f.2.1[i])=_ from HV _]) (by
   intro t i hi t' b c
   cases c
   have:=a _ (jN hi)
   simp only[jC];omega) (by
   intro t b
   simp only[BJ]
   rw[if_neg (by simp)]) (M:=N) (t:=oW f.1) (by omega) (by omega)
 unfold GA
 rw[cV (by omega)]
 simp only[j0]
 rw[cV (by rw[ByteArray.size_append];omega)]
 simp only[j0]
 rw[show((⟨#[112,97,99,107,97,103,101,32]⟩:BA)++f.1)++(⟨#[59,10]⟩:BA)=cQ (oW f.1) from(HV _).symm,show(0:Int)=((0:Nat):Int) from rfl,d]
 simp only[j0]
 rw[KS (fun t s=>t++lI s) (fun _ _=>rfl),KF]
theorem qNd{N:Nat}{d:Dl}(h:OkD d)(p:3000000<N){s:BA}(r:s.size<=200):aI (wD N d) N (s,0)=some (s++tD d.2.2.1):=by
 have q:=h.pars
 have c:=oR (L:=d.2.2.1) (fun(t:List UInt8×Nat) (i:Nat)=>(cQ t.1,(i:Int))) (f:=wD N d)
  (fun t x=> .inl ((t.1++lB t.2)++x.data.toList,t.2+1)) (fun t=>cQ t.1) (fun i t=>t.2=i/\t.1.length<=200+40*i) (by
   rintro⟨t,k⟩ i hi ⟨rfl,a⟩
   simp only at a hi ⊢
   have g:=oQ (h.names _ (jN hi))
   have z:(⟨#[44,32]⟩:BA).size=2:=rfl
   simp only[wD]
   rw[if_pos (by simp only[jA];omega),dM hi]
   have ew:IntKind.wrap .i64 ((k:Int)+1)=((k+1:Nat):Int):=by rw[bX (by omega) (by omega)];omega
   have b:(if(decide ((k:Int)>0))=true then((cC (cQ t) (⟨#[44,32]⟩:BA)).bind fun o=>some o) else(some (cQ t)):Option BA)=some (cQ (t++lB k)):=by
    unfold lB
    by_cases h0:k=0
    .subst h0
     rw[if_neg (by decide),if_pos rfl,jV]
    rw[if_pos (by simp only[jA];omega),if_neg h0,cV (by rw[iS];omega)]
    rfl
   have e:(t++lB k).length<=t.length+2:=by
    unfold lB
    split<;>simp
   simp only[j0,b]
   rw[cV (by rw[iS];omega)]
   simp only[j0,ew]
   rw[<-LG (t++lB k),HV]) (by
   rintro⟨t,k⟩ i hi t' ⟨rfl,a⟩ n
   obtain rfl:=(Sum.inl.inj n).symm
   have g:(d.2.2.1[k]).size<=24:=oQ (h.names _ (jN hi))
   have e:(lB k).length<=2:=by
    unfold lB
    split<;>simp
   refine⟨rfl,?_⟩
   show((t++lB k)++(d.2.2.1[k]).data.toList).length<=200+40*(k+1)
   simp only at a
   simp only[jC,eH]
   omega) (by
   rintro⟨t,k⟩ ⟨rfl,a⟩
   simp only[wD]
   rw[if_neg (by simp)]) (M:=N) (t:=(s.data.toList,0)) (by omega) ⟨rfl,by rw[eH];omega⟩
 rw[show cQ (s.data.toList,0).1=s from HV s,show((0:Nat):Int)=0 from rfl] at c
 rw[c]
 have key:∀(l:List BA) (t:List UInt8) (k:Nat),run (fun(t:List UInt8×Nat) (x:BA)=>(.inl ((t.1++lB t.2)++x.data.toList,t.2+1):(List UInt8×Nat)⊕BA)) (fun t=>cQ t.1) l (t,k)=cQ (t++iR k (l.map fun s=>s.data.toList)):=by
  intro l
  induction l with
  |nil=>intro t k;simp[run,iR]
  |cons x l a=>
   intro t k
   simp only[run,kG,iR]
   rw[a]
   simp only[jE]
 rw[key,<-LG,HV]
 rfl
theorem qJm{N:Nat}{d:Dl}(h:OkD d)(e:3000000<N):GC N d=some (cQ (lY d)):=by
 have c:=KN h.good h.pars
 have p:=PG h.good
 have q:=ZL h.good h.body
 have y1:(⟨#[102,117,110,99,32]⟩:BA).size=5:=rfl
 have r:(⟨#[40]⟩:BA).size=1:=rfl
 have s:(⟨#[41]⟩:BA).size=1:=rfl
 have t:(⟨#[116,101,115,116,32]⟩:BA).size=5:=rfl
 have y5:(⟨#[103,101,110,32,34]⟩:BA).size=5:=rfl
 have u:(⟨#[34]⟩:BA).size=1:=rfl
 have v:(⟨#[32,61,32]⟩:BA).size=3:=rfl
 have x:(⟨#[59,10]⟩:BA).size=2:=rfl
 have a:(if(d.1==1)=true then((cC (⟨#[102,117,110,99,32]⟩:BA) d.2.1).bind fun f=>(cC f (⟨#[40]⟩:BA)).bind fun g=>(aI (wD N d) N (g,0)).bind fun o2=>(cC o2 (⟨#[41]⟩:BA)).bind fun k=>some k) else(if(d.1==2)=true then((cC (⟨#[116,101,115,116,32]⟩:BA) d.2.1).bind fun l=>some l) else(if(d.1==3)=true then((cC (⟨#[103,101,110,32,34]⟩:BA) d.2.1).bind fun n=>(cC n (⟨#[34]⟩:BA)).bind fun o=>some o) else(some (⟨#[]⟩:BA)))):Option (BA))=some (vN d):=by
  unfold vN at c ⊢
  by_cases k1:d.1=1
  .rw[if_pos k1] at c
   simp only[ByteArray.size_append] at c
   rw[if_pos (by simpa using k1),if_pos k1,cV (by omega)]
   simp only[j0]
   rw[cV (by rw[ByteArray.size_append];omega)]
   simp only[j0]
   rw[qNd h e (by simp only[ByteArray.size_append];omega)]
   simp only[j0]
   rw[cV (by simp only[ByteArray.size_append];omega)]
   rfl
  rw[if_neg (by simpa using k1),if_neg k1]
  by_cases b:d.1=2
  .rw[if_pos (by simpa using b),if_pos b,cV (by omega)]
   rfl
  have k3:d.1=3:=by
   rcases h.kind with ⟨h,-⟩|⟨h,-⟩<;>omega
  rw[if_neg (by simpa using b),if_neg b,if_pos (by simpa using k3),cV (by omega)]
  simp only[j0]
  rw[cV (by rw[ByteArray.size_append];omega)]
  rfl
 unfold GC
 refine Eq.trans (congrArg (fun z=>Option.bind z _) a) ?_
 simp only[j0]
 rw[cV (by omega)]
 simp only[j0]
 rw[WQ h e]
 simp only[j0]
 rw[cV (by rw[ByteArray.size_append,iS];omega)]
 simp only[j0]
 rw[cV (by simp only[ByteArray.size_append,iS];omega)]
 simp only[j0]
 congr 1
 refine qX ?_
 unfold lY
 simp only[lA,pZ,jE]
theorem qGh{N:Nat}{f:Sr}(n:uJ f)(e:3000000<N):BN N f=some (if lQ f=0 then vC f else(⟨#[]⟩,lQ f)):=by
 unfold BN
 rw[OK n e]
 simp only[j0]
 by_cases hc:lQ f=0
 .have b:=CW hc
  have q:=b.decn
  obtain⟨k,a⟩:=qIw b e
  rw[if_neg (by simp[hc]),if_pos hc,k]
  simp only[j0]
  have c:∀d∈f.2.2,(lY d).length<=31000:=fun d l=>by
   exact qHl (DM b d l)
  have p:=oR (L:=f.2.2) (fun(t:List UInt8) (i:Nat)=>(cQ t,(i:Int))) (f:=BC N f)
   (fun t d=> .inl (t++lY d)) (fun t=>cQ t) (fun i t=>t.length<=600+31000*i) (by
    intro t i hi g
    have h:=jN hi
    have r:=c _ h
    simp only[BC]
    rw[if_pos (by simp only[jA];omega),dM hi]
    have ew:IntKind.wrap .i64 ((i:Int)+1)=((i+1:Nat):Int):=by rw[bX (by omega) (by omega)];omega
    simp only[j0]
    rw[qJm (DM b _ h) e]
    simp only[j0]
    rw[cV (by rw[iS,iS];omega)]
    simp only[j0,ew,LG]) (by
    intro t i hi t' g o
    cases o
    have:=c _ (jN hi)
    simp only[jC];omega) (by
    intro t g
    simp only[BC]
    rw[if_neg (by simp)]) (M:=N) (t:=oW f.1++f.2.1.flatMap lI) (by omega) (by omega)
  rw[show(0:Int)=((0:Nat):Int) from rfl,p]
  simp only[j0]
  rw[KS (fun t d=>t++lY d) (fun _ _=>rfl),KF,show(oW f.1++f.2.1.flatMap lI)++f.2.2.flatMap lY=nO f from rfl,qEj hc,iS]
  by_cases hs:16384<(nO f).length
  .rw[if_pos (by simp only[jA];omega),if_pos hs]
  rw[if_neg (by simp only[jA];omega),if_neg hs,qFl _ (by omega)]
  simp only[j0]
  rw[show(⟨⟨nO f⟩⟩:BA)=cQ (nO f) from rfl]
  by_cases a:(zV (cQ (nO f))).2.2=2
  .rw[if_pos (by simpa using a),if_pos a]
  rw[if_neg (by simpa using a),if_neg a]
  rfl
 rw[if_pos (by simpa using hc),if_neg hc]
end
section
open Go Go.Dc
def Ok{α:Type}(x:Option α)(Q:α->Prop):Prop:=∃a,x=some a/\Q a
section
variable {α β γ:Type} {Q:β->Prop}
theorem Ok.mk{a:β}(h:Q a):Ok (some a) Q:=⟨a,rfl,h⟩
theorem Ok.bind{x:Option α}{P:α->Prop}{f:α->Option β}(h:Ok x P)(k:∀a,P a->Ok (f a) Q):Ok (x.bind f) Q:=by
 obtain⟨a,rfl,b⟩:=h
 exact k a b
theorem Ok.mono{x:Option β}{P:β->Prop}(h:Ok x P)(k:∀a,P a->Q a):Ok x Q:=by
 obtain⟨a,e,b⟩:=h
 exact⟨a,e,k a b⟩
theorem Ok.ite{c:Prop}[Decidable c]{x y:Option β}(a:c->Ok x Q)(b:¬c->Ok y Q):Ok (if c then x else y) Q:=by
 by_cases h:c
 .rw[if_pos h];exact a h
 rw[if_neg h];exact b h
theorem Ok.app{b:Nat}{l k:List α}{f:List α->Option β}(c:(l.length+k.length)*b<=140737488355328)(a:0<b)(h:Ok (f (l++k)) Q):Ok ((cP b l k).bind f) Q:=by
 rw[pP c a];exact h
theorem Ok.loop{σ:Type}{f:σ->Option (σ⊕α)}{g:α->Option β}{s:σ}{N:Nat}(I:σ->Prop)(μ:σ->Nat)(R:α->Prop)
  (h:∀s,I s->Ok (f s) fun r=>match r with| .inl s'=>I s'/\μ s'<μ s| .inr b=>R b) (d:I s) (e:μ s<N) (k:∀b,R b->Ok (g b) Q):Ok ((aI f N s).bind g) Q:=by
 obtain⟨b,c,a⟩:=KU I μ R (fun s d=>by
  obtain⟨r,c,a⟩:=h s d
  cases r with
  |inl s'=>exact .inr ⟨s',c,a.1,a.2⟩
  |inr b=>exact .inl ⟨b,c,a⟩) N s d e
 rw[c];exact k b a
end
theorem qIz{N:Nat}{v n:Int}(d:n<=9223372036854775807):∃r,GD N v n=some r/\0<=r/\(1<=n->r<n):=by
 simp only[GD]
 by_cases h:n<=1
 .exact⟨0,by simp[h],by omega,by omega⟩
 have a:n≠0:=by omega
 have b:=Int.tmod_lt_of_pos v (show 0<n by omega)
 have c:=Int.lt_tmod_of_pos v (show 0<n by omega)
 simp only[h,decide_false,jB,jI,MB,a,j0]
 by_cases h3:Int.tmod v n<0
 .refine⟨Int.tmod v n+n,?_,by omega,by omega⟩
  simp only[h3,decide_true,jJ,j0]
  rw[bX (by omega) (by omega)]
 exact⟨Int.tmod v n,by simp only[h3,decide_false,jB,jI,j0],by omega,by omega⟩
theorem KQ{N:Nat}{l:List Int}{a n:Int}(c:0<=a)(k:a<4611686018427387904)(f:n<=9223372036854775807):∃r,mM N (l,a) n=some ((l,a+1),r)/\0<=r/\(1<=n->r<n):=by
 simp only[mM]
 have b:∃v,(if(decide (a<(List.length l:Int)))=true then((idx l a).bind fun x1=>some x1) else(some (Int.tmod (IntKind.wrap .i64 (a*7)) 11)):Option Int)=some v:=by
  by_cases h:a<(l.length:Int)
  .exact⟨_,by simp only[h,decide_true,jJ];rw[HC c (by omega)];rfl⟩
  exact⟨_,by simp only[h,decide_false,jB,jI];rfl⟩
 obtain⟨v,b⟩:=b
 obtain⟨r,g,d,e⟩:=qIz (N:=N) (v:=v) f
 exact⟨r,by simp only[b,j0,g];rw[bX (by omega) (by omega)],d,e⟩
section
variable {β:Type} {Q:β->Prop} {N:Nat} {l:List Int} {a:Int}
theorem Ok.next{n:Int}{f:(List Int×Int)×Int->Option β}(d:0<=a)(e:a<4611686018427387904)(g:1<=n)(o:n<=1000000)(h:∀r,0<=r->r<n->Ok (f ((l,a+1),r)) Q):Ok ((mM N (l,a) n).bind f) Q:=by
 obtain⟨r,k,b,c⟩:=KQ (N:=N) (l:=l) d e (show n<=9223372036854775807 by omega)
 rw[k];exact h r b (c g)
theorem Ok.chance{n m:Int}{f:(List Int×Int)×Bool->Option β}(b:0<=a)(c:a<4611686018427387904)(o:1<=m)(e:m<=1000000)(h:∀r,Ok (f ((l,a+1),r)) Q):Ok ((AW N (l,a) n m).bind f) Q:=by
 obtain⟨r,d,g,k⟩:=KQ (N:=N) (l:=l) b c (show m<=9223372036854775807 by omega)
 simp only[AW,d,j0]
 exact h _
theorem Ok.one{L:List BA}{f:(List Int×Int)×BA->Option β}(e:0<=a)(g:a<4611686018427387904)(o:0<L.length)(n:L.length<1000)(h:∀x∈L,Ok (f ((l,a+1),x)) Q):Ok ((rI N (l,a) L).bind f) Q:=by
 obtain⟨r,k,d,c⟩:=KQ (N:=N) (l:=l) e g (show(L.length:Int)<=9223372036854775807 by omega)
 have c:=c (by omega)
 have b:r.toNat<L.length:=by omega
 simp only[rI]
 rw[if_neg (by rw[kN];omega),k]
 simp only[j0]
 rw[HC d b]
 exact h _ (jN b)
theorem Ok.oneP{L:List BA}{f:(List Int×Int)×BA->Option β}(d:0<=a)(e:a<4611686018427387904)(g:decide ((List.length L:Int)>0)=true)(b:L.length<1000)(c:∀x∈L,x.size<=12)(h:∀x:BA,x.size<=12->Ok (f ((l,a+1),x)) Q):Ok ((rI N (l,a) L).bind f) Q:=
 Ok.one d e (by have:=gL g;omega) b fun x k=>h x (c x k)
theorem Ok.oneS{L:List BA}{f:(List Int×Int)×BA->Option β}(c:0<=a)(d:a<4611686018427387904)(b:(decide (0<L.length)&&decide (L.length<1000)&&L.all fun x=>decide (x.size<=12))=true)(h:∀x:BA,x.size<=12->Ok (f ((l,a+1),x)) Q):Ok ((rI N (l,a) L).bind f) Q:=by
 simp only[jM,jA] at b
 exact Ok.one c d b.1.1 b.1.2 fun x e=>h x (by simpa using kE.1 b.2 x e)
theorem Ok.pick{L:List Int}{f:(List Int×Int)×Int->Option β}(e:0<=a)(g:a<4611686018427387904)(o:0<L.length)(n:L.length<1000)(h:∀x∈L,Ok (f ((l,a+1),x)) Q):Ok ((uN N (l,a) L).bind f) Q:=by
 obtain⟨r,k,d,c⟩:=KQ (N:=N) (l:=l) e g (show(L.length:Int)<=9223372036854775807 by omega)
 have c:=c (by omega)
 have b:r.toNat<L.length:=by omega
 simp only[uN]
 rw[if_neg (by rw[kN];omega),k]
 simp only[j0]
 rw[HC d b]
 exact h _ (jN b)
end
end
section
open Go Go.Dc Go.Proofs
def co(t:bQ):Nat:=if t.1=5 then 0 else if t.1=2 then 3*(Lib.decDigits t.2.2.1.toNat).length else if t.1=3 then 3*t.2.1.size+6 else 3*t.2.1.size
def cs(ts:List bQ)(i:Nat):Nat:=((ts.take i).map co).sum
end
section
open Go Go.Dc Go.Proofs
end
section
open Go Go.Dc Go.Proofs
end
section
open Go Go.Dc Go.Proofs
def NZ{α:Type}(x:bZ⊕α):Prop:=∀z,x= .inl z->z.2≠0
theorem NZ.ok{α:Type}{a:α}:NZ (.inr a:bZ⊕α):=fun z h=>by cases h
theorem NZ.bind{α β:Type}{x:bZ⊕α}{f:α->bZ⊕β}(h:NZ x)(c:∀a,NZ (f a)):NZ (bC x f):=fun z b=>by
 cases x with
 |inl y=>
  obtain rfl:=Sum.inl.inj (show(Sum.inl y:bZ⊕β)= .inl z from b)
  exact h _ rfl
 |inr a=>exact c a z b
theorem NZ.ite{α:Type}{c:Prop}[Decidable c]{x y:bZ⊕α}(a:NZ x)(b:NZ y):NZ (if c then x else y):=by
 split
 .exact a
 exact b
def rO(x:Ex):Prop:=x.2.2.2.1.size<=12/\x.2.2.2.2.length<=12
section
variable {β:Type} {Q:β->Prop}
theorem Ok.chk{α:Type}{l:List α}{lo hi:Int}{f:Unit->Option β}(a:0<=lo)(b:lo<=hi)(c:hi<=l.length)(h:Ok (f ()) Q):Ok ((AK l lo hi).bind f) Q:=by
 unfold AK
 rw[if_pos ⟨a,b,c⟩];exact h
theorem Ok.appM{α:Type}{b:Nat}{l:List α}{f:List α->Option β}(a:l.length*b<=140737488355328)(c:l.length<=1000000)(h:Ok (f l) Q):Ok ((appM b l).bind f) Q:=by
 unfold Dc.appM
 rw[if_pos ⟨a,by simp only[maxLen];omega⟩];exact h
theorem Ok.sub{α:Type}{l:List α}{hi:Int}{f:List α->Option β}(a:0<=hi)(b:hi<=l.length)(h:Ok (f (l.take hi.toNat)) Q):Ok ((nH l 0 hi).bind f) Q:=by
 rw[wP (gU 0) a b];exact h
theorem Ok.idx{α:Type}{l:List α}{i:Int}{f:α->Option β}(a:0<=i)(b:i<l.length)(h:∀x∈l,Ok (f x) Q):Ok ((idx l i).bind f) Q:=by
 rw[HC a (by omega)];exact h _ (jN _)
end
variable {N:Nat} {l:List Int}
def SmallO(l:List Int)(a:Int)(o:Int×Int×Int×Int×BA×List Int×Int):Prop:=
 ∃a',o.2.2.2.2.2=(l,a')/\a<=a'/\a'<=a+3/\0<=o.1/\o.1<=3/\o.2.2.2.2.1.size<=12
theorem SmallO.mk{a b n kd nu op:Int}{nm:BA}(c:a<=b)(d:b<=a+3)(e:0<=n)(f:n<=3)(g:nm.size<=12):SmallO l a (n,kd,nu,op,nm,l,b):=⟨b,rfl,c,d,e,f,g⟩
theorem qGs{p a:Int}{s:List Ex×List Int×Int×List Int×Int}{k:Int}(hp:0<=p)(a4:p<=1000000)(h0:0<=a)(h1:a<1000000000000000000)(hk:1<=k/\k<=12)
  (Z:∃a',s.2.2.2=(l,a')/\a<=a'/\a'<=a+10*(k-s.2.2.1)/\0<=s.2.2.1/\(s.1.length:Int)+s.2.2.1=k/\s.2.1.length<=s.1.length/\(∀x∈s.1,rO x)/\(s.1≠[]->s.2.1≠[])):
  Ok (FP N p s) fun r=>match r with
   | .inl s'=>(∃a',s'.2.2.2=(l,a')/\a<=a'/\a'<=a+10*(k-s'.2.2.1)/\0<=s'.2.2.1/\(s'.1.length:Int)+s'.2.2.1=k/\s'.2.1.length<=s'.1.length/\(∀x∈s'.1,rO x)/\(s'.1≠[]->s'.2.1≠[]))/\s'.2.2.1.toNat<s.2.2.1.toNat
   | .inr b=>∃a',b.2.2=(l,a')/\a<=a'/\a'<=a+200/\1<=b.1.length/\b.1.length<=12/\b.2.1.length<=b.1.length/\(∀x∈b.1,rO x):=by
 obtain⟨L,st,i,l',a'⟩:=s
 obtain⟨a1,d,v,y,S,U,A,f,V⟩:=Z
 simp only[Prod.mk.injEq] at d
 obtain⟨rfl,rfl⟩:=d
 dsimp only at v y S U A f V
 unfold FP
 dsimp only
 by_cases hi:i>0
 .rw[if_pos (by simpa using hi)]
  refine Ok.pick (by omega) (by omega) (by decide) (by decide) fun kd a0=> ?_
  dsimp only
  have c:(⟨#[]⟩:BA).size<=12:=by decide
  refine Ok.bind (P:=SmallO l' a') ?_ fun o2 B=> ?_
  .refine Ok.ite (fun _=>Ok.pick (by omega) (by omega) (by decide) (by decide) fun z _=> ?_) fun _=> ?_
   .dsimp only;exact Ok.mk (SmallO.mk (by omega) (by omega) (by omega) (by omega) c)
   refine Ok.ite (fun _=>Ok.ite (fun _=>Ok.mk (SmallO.mk (by omega) (by omega) (by omega) (by omega) c)) fun e=>Ok.next (by omega) (by omega) (by simp at e;omega) (by omega) fun r _ _=> ?_) fun _=> ?_
   .dsimp only;exact Ok.mk (SmallO.mk (by omega) (by omega) (by omega) (by omega) c)
   refine Ok.ite (fun _=>Ok.oneS (by omega) (by omega) (by decide) fun z e=> ?_) fun _=> ?_
   .dsimp only
    refine Ok.next (by omega) (by omega) (by omega) (by omega) fun r g h=> ?_
    dsimp only
    exact Ok.mk (SmallO.mk (by omega) (by omega) g (by omega) e)
   refine Ok.ite (fun _=>Ok.next (by omega) (by omega) (by omega) (by omega) fun r g h=> ?_) fun _=> ?_
   .dsimp only;exact Ok.mk (SmallO.mk (by omega) (by omega) (by omega) (by omega) c)
   refine Ok.ite (fun _=>Ok.mk (SmallO.mk (by omega) (by omega) (by omega) (by omega) c)) fun _=> ?_
   refine Ok.ite (fun _=>Ok.mk (SmallO.mk (by omega) (by omega) (by omega) (by omega) (by decide))) fun _=> ?_
   refine Ok.bind (P:=fun _=>True) (Ok.ite (fun _=>Ok.mk trivial) fun _=>Ok.mk trivial) fun b _=> ?_
   refine Ok.ite (fun _=>Ok.mk (SmallO.mk (by omega) (by omega) (by omega) (by omega) (by decide))) fun _=> ?_
   refine Ok.ite (fun _=>Ok.mk (SmallO.mk (by omega) (by omega) (by omega) (by omega) (by decide))) fun _=> ?_
   refine Ok.ite (fun _=>Ok.next (by omega) (by omega) (by omega) (by omega) fun r g h=> ?_) fun _=>Ok.mk (SmallO.mk (by omega) (by omega) (by omega) (by omega) c)
   dsimp only;exact Ok.mk (SmallO.mk (by omega) (by omega) (by omega) (by omega) c)
  obtain⟨n,a7,nu,op,nm,l2,F⟩:=o2
  obtain⟨a3,d,G,H,h,q,t⟩:=B
  simp only[Prod.mk.injEq] at d
  obtain⟨rfl,rfl⟩:=d
  dsimp only at G H h q t
  dsimp only
  refine Ok.bind (P:=fun o:Int×Int×Int×Int×BA=>0<=o.1/\o.1<=3/\o.1<=st.length/\o.2.2.2.2.size<=12) (Ok.ite (fun _=>Ok.mk ⟨gU 0,by show(0:Int)<=3;omega,by show(0:Int)<=_;omega,c⟩) fun Y=>Ok.mk ⟨h,q,by simp at Y;dsimp only;omega,t⟩) fun o4 D=> ?_
  obtain⟨g,a8,b0,b1,a9⟩:=o4
  obtain⟨K,M,R,u⟩:=D
  dsimp only at K M R u
  dsimp only
  have a5:(st.length:Int)<=12:=by omega
  rw[bX (x:=(st.length:Int)-g) (by omega) (by omega),bX (x:=i-1) (by omega) (by omega)]
  refine Ok.chk (by omega) (by omega) (by omega) ?_
  have E:(List.drop ((st.length:Int)-g).toNat (List.take (st.length:Int).toNat st)).length<=12:=by
   rw[kW,kL];omega
  refine Ok.appM (by omega) (by omega) ?_
  refine Ok.sub (by omega) (by omega) ?_
  have a6:(List.take ((st.length:Int)-g).toNat st).length<=st.length:=by rw[kL];omega
  refine Ok.app (by simp only[jU];omega) (by decide) ?_
  refine Ok.app (by simp only[jU];omega) (by decide) ?_
  refine Ok.mk ⟨⟨F,rfl,by first|omega|(dsimp only;omega),by first|omega|(dsimp only;omega),by first|omega|(dsimp only;omega),by simp only[jC,jU];omega,by simp only[jC,jU];omega,fun x e=> ?_,fun _=>by simp⟩,by first|omega|(dsimp only;omega)⟩
  rcases gP.1 e with e|e
  .exact f x e
  rw[kI.1 e];exact⟨u,E⟩
 rw[if_neg (by simpa using hi)]
 exact Ok.mk ⟨a',rfl,v,by first|omega|(dsimp only at y ⊢;omega),by first|omega|(dsimp only;omega),by first|omega|(dsimp only;omega),A,f⟩
theorem qHe{a:Int}{s:List Ex×List Int×List Int×Int}(q:0<=a)(t:a<1000000000000000000)
  (n:∃a',s.2.2=(l,a')/\a<=a'/\a'+s.2.1.length<=a+300/\1<=s.1.length/\s.1.length+s.2.1.length<=24/\(∀x∈s.1,rO x)):
  Ok (FJ N s) fun r=>match r with
   | .inl s'=>(∃a',s'.2.2=(l,a')/\a<=a'/\a'+s'.2.1.length<=a+300/\1<=s'.1.length/\s'.1.length+s'.2.1.length<=24/\(∀x∈s'.1,rO x))/\s'.2.1.length<s.2.1.length
   | .inr b=>∃a',b.2=(l,a')/\a<=a'/\a'<=a+300/\1<=b.1.length/\b.1.length<=24/\(∀x∈b.1,rO x):=by
 obtain⟨L,st,l',a'⟩:=s
 obtain⟨p,g,e,h,f,k,d⟩:=n
 simp only[Prod.mk.injEq] at g
 obtain⟨rfl,rfl⟩:=g
 dsimp only at e h f k d
 unfold FJ
 dsimp only
 by_cases hi:(st.length:Int)>1
 .rw[if_pos (by simpa using hi)]
  rw[bX (x:=(st.length:Int)-2) (by omega) (by omega),bX (x:=(st.length:Int)-1) (by omega) (by omega)]
  refine Ok.idx (by omega) (by omega) fun x1 _=> ?_
  refine Ok.idx (by omega) (by omega) fun y _=> ?_
  refine Ok.next (by omega) (by omega) (by omega) (by omega) fun r u v=> ?_
  dsimp only
  refine Ok.app (by simp only[jU];omega) (by decide) ?_
  refine Ok.sub (by omega) (by omega) ?_
  have o:(List.take ((st.length:Int)-2).toNat st).length+2=st.length:=by rw[kL];omega
  refine Ok.app (by simp only[jU];omega) (by decide) ?_
  refine Ok.mk ⟨⟨_,rfl,by first|omega|(dsimp only;omega),?_,?_,?_,fun x c=> ?_⟩,?_⟩
  .simp only[jC,jU];omega
  .simp only[jC,jU];omega
  .simp only[jC,jU];omega
  .rcases gP.1 c with c|c
   .exact d x c
   rw[kI.1 c];exact⟨by show(0:Nat)<=12;decide,by show 2<=12;decide⟩
  simp only[jC,jU];omega
 rw[if_neg (by simpa using hi)]
 exact Ok.mk ⟨a',rfl,e,by omega,f,by first|omega|(dsimp only;omega),d⟩
theorem qMj{p a:Int}(D:0<=p)(o:p<=1000000)(B:0<=a)(U:a<100000000000000000)(V:3000<N):
  Ok (FY N (l,a) p) fun y=>∃a' L,y=((l,a'),L)/\a<=a'/\a'<=a+1000/\1<=L.length/\L.length<=24/\∀x∈L,rO x:=by
 unfold FY
 refine Ok.next B (by omega) (by omega) (by omega) fun r Z q2=> ?_
 dsimp only
 rw[bX (x:=1+r) (by omega) (by omega)]
 refine Ok.loop (fun s=>∃a',s.2.2.2=(l,a')/\a+1<=a'/\a'<=(a+1)+10*((1+r)-s.2.2.1)/\0<=s.2.2.1/\(s.1.length:Int)+s.2.2.1=1+r/\s.2.1.length<=s.1.length/\(∀x∈s.1,rO x)/\(s.1≠[]->s.2.1≠[])) (fun s=>s.2.2.1.toNat) (fun b=>∃a',b.2.2=(l,a')/\a+1<=a'/\a'<=a+1+200/\1<=b.1.length/\b.1.length<=12/\b.2.1.length<=b.1.length/\(∀x∈b.1,rO x)) (fun s e=>(qGs (N:=N) (a:=a+1) D o (by omega) (by omega) ⟨by omega,by omega⟩ e).mono fun r h=>by cases r<;>exact h) ⟨_,rfl,by omega,by first|omega|(dsimp only;omega),by first|omega|(dsimp only;omega),by simp,jT _,fun x E=>by simp at E,fun h=>absurd rfl h⟩ (by first|omega|(dsimp only;omega)) fun F k=> ?_
 obtain⟨L,st,l',a'⟩:=F
 obtain⟨H,d,q,t,f,u,v,g⟩:=k
 simp only[Prod.mk.injEq] at d
 obtain⟨rfl,rfl⟩:=d
 dsimp only at q t f u v g
 refine Ok.loop (fun s=>∃c,s.2.2=(l',c)/\a'<=c/\c+s.2.1.length<=a'+300/\1<=s.1.length/\s.1.length+s.2.1.length<=24/\(∀x∈s.1,rO x)) (fun s=>s.2.1.length) (fun b=>∃c,b.2=(l',c)/\a'<=c/\c<=a'+300/\1<=b.1.length/\b.1.length<=24/\(∀x∈b.1,rO x)) (fun s e=>(qHe (N:=N) (a:=a') (by omega) (by omega) e).mono fun r h=>by cases r<;>exact h) ⟨_,rfl,gU _,by first|omega|(dsimp only;omega),f,by first|omega|(dsimp only;omega),g⟩ (by first|omega|(dsimp only;omega)) fun G n=> ?_
 obtain⟨L5,Y,K⟩:=G
 obtain⟨M,d,R,S,e3,z,A⟩:=n
 simp only[Prod.mk.injEq] at d
 obtain⟨rfl,rfl⟩:=d
 exact Ok.mk ⟨_,_,rfl,by omega,by omega,e3,z,A⟩
def SmallD(d:Dl):Prop:=d.2.1.size<=12/\d.2.2.1.length<=8/\d.2.2.2.length<=24/\∀x∈d.2.2.2,rO x
theorem ZB{α:Type}{P:α->Prop}{L:List α}{j:Nat}{x:α}(h:∀y∈L,P y)(b:P x):∀y∈L.set j x,P y:=fun y c=>by
 rcases List.mem_or_eq_of_mem_set c with a|a
 .exact h y a
 rw[a];exact b
theorem SmallD.sm{d:Dl}(h:SmallD d):SmD d:=⟨by have:=h.1;omega,by have:=h.2.1;omega,by have:=h.2.2.1;omega,fun x a=>⟨by have:=(h.2.2.2 x a).1;omega,by have:=(h.2.2.2 x a).2;omega⟩⟩
theorem qGi{a:Int}{s:Int×List Int×Int×List BA}(p:0<=a)(q:a<1000000000000000000)
  (k:∃a',(s.2.1,s.2.2.1)=(l,a')/\a<=a'/\a'<=a+(3-s.1)/\0<=s.1/\s.1<=3/\(s.2.2.2.length:Int)+s.1<=3):
  Ok (FO N s) fun r=>match r with
   | .inl s'=>(∃a',(s'.2.1,s'.2.2.1)=(l,a')/\a<=a'/\a'<=a+(3-s'.1)/\0<=s'.1/\s'.1<=3/\(s'.2.2.2.length:Int)+s'.1<=3)/\s'.1.toNat<s.1.toNat
   | .inr b=>∃a',(b.1,b.2.1)=(l,a')/\a<=a'/\a'<=a+3/\b.2.2.length<=3:=by
 obtain⟨n,l',a',ps⟩:=s
 obtain⟨o,d,c,e,f,g,h⟩:=k
 simp only[Prod.mk.injEq] at d
 obtain⟨rfl,rfl⟩:=d
 dsimp only at c e f g h
 unfold FO
 dsimp only
 by_cases hn:n>0
 .rw[if_pos (by simpa using hn)]
  refine Ok.oneS (by omega) (by omega) (by decide) fun x t=> ?_
  dsimp only
  refine Ok.app (by simp only[jU];omega) (by decide) ?_
  rw[bX (x:=n-1) (by omega) (by omega)]
  exact Ok.mk ⟨⟨a'+1,rfl,by omega,by first|omega|(dsimp only;omega),by first|omega|(dsimp only;omega),by first|omega|(dsimp only;omega),by simp only[jC,jU];omega⟩,by first|omega|(dsimp only;omega)⟩
 rw[if_neg (by simpa using hn)]
 exact Ok.mk ⟨a',rfl,c,by omega,by first|omega|(dsimp only;omega)⟩
theorem qGy{a:Int}{s:Int×List Int×Int×List Dl}(V:0<=a)(Y:a<10000000000000000)(G:3000<N)
  (p:∃a',(s.2.1,s.2.2.1)=(l,a')/\a<=a'/\a'<=a+2000*(3-s.1)/\0<=s.1/\s.1<=3/\(s.2.2.2.length:Int)+s.1<=3/\∀d∈s.2.2.2,SmallD d/\1<=d.2.2.2.length/\d.2.2.1.length<=3):
  Ok (FL N s) fun r=>match r with
   | .inl s'=>(∃a',(s'.2.1,s'.2.2.1)=(l,a')/\a<=a'/\a'<=a+2000*(3-s'.1)/\0<=s'.1/\s'.1<=3/\(s'.2.2.2.length:Int)+s'.1<=3/\∀d∈s'.2.2.2,SmallD d/\1<=d.2.2.2.length/\d.2.2.1.length<=3)/\s'.1.toNat<s.1.toNat
   | .inr b=>∃a',(b.1,b.2.1)=(l,a')/\a<=a'/\a'<=a+6000/\b.2.2.length<=3/\∀d∈b.2.2,SmallD d/\1<=d.2.2.2.length/\d.2.2.1.length<=3:=by
 obtain⟨n,l',a',ds⟩:=s
 obtain⟨S,e,u,B,D,E,F,k⟩:=p
 simp only[Prod.mk.injEq] at e
 obtain⟨rfl,rfl⟩:=e
 dsimp only at u B D E F k
 unfold FL
 dsimp only
 by_cases hn:n>0
 .rw[if_pos (by simpa using hn)]
  refine Ok.next (by omega) (by omega) (by omega) (by omega) fun kd Z k2=> ?_
  dsimp only
  refine Ok.oneS (by omega) (by omega) (by decide) fun nm v=> ?_
  dsimp only
  refine Ok.bind (P:=fun o:List BA×List Int×Int=>∃g,o.2=(l',g)/\a'<=g/\g<=a'+10/\o.1.length<=3) (Ok.ite (fun _=> ?_) fun _=>Ok.mk ⟨_,rfl,by omega,by omega,by simp⟩) fun H y=> ?_
  .refine Ok.next (by omega) (by omega) (by omega) (by omega) fun r A R=> ?_
   dsimp only
   refine Ok.loop (fun s=>∃c,(s.2.1,s.2.2.1)=(l',c)/\a'+3<=c/\c<=(a'+3)+(3-s.1)/\0<=s.1/\s.1<=3/\(s.2.2.2.length:Int)+s.1<=3) (fun s=>s.1.toNat) (fun b=>∃c,(b.1,b.2.1)=(l',c)/\a'+3<=c/\c<=a'+3+3/\b.2.2.length<=3) (fun s p=>(qGi (N:=N) (a:=a'+3) (by omega) (by omega) p).mono fun r h=>by cases r<;>exact h) ⟨a'+1+1+1,rfl,by omega,by first|omega|(dsimp only;omega),A,by first|omega|(dsimp only;omega),by simp only[jF];omega⟩ (by first|omega|(dsimp only;omega)) fun z f=> ?_
   obtain⟨M,c,p4⟩:=z
   obtain⟨K,e,q,t,e3⟩:=f
   simp only[Prod.mk.injEq] at e
   obtain⟨rfl,rfl⟩:=e
   exact Ok.mk ⟨c,rfl,by omega,by omega,e3⟩
  obtain⟨ps,l3,U⟩:=H
  obtain⟨c,e,q,t,e3⟩:=y
  simp only[Prod.mk.injEq] at e
  obtain⟨rfl,rfl⟩:=e
  dsimp only at q t e3
  dsimp only
  refine Ok.bind (qMj (by omega) (by omega) (by omega) (by omega) G) fun y9 z=> ?_
  obtain⟨A,L9,rfl,w1,w2,K,M,R⟩:=z
  dsimp only
  refine Ok.app (by simp only[jU];omega) (by decide) ?_
  rw[bX (x:=n-1) (by omega) (by omega)]
  refine Ok.mk ⟨⟨A,rfl,by omega,by first|omega|(dsimp only;omega),by first|omega|(dsimp only;omega),by first|omega|(dsimp only;omega),by simp only[jC,jU];omega,fun d f=> ?_⟩,by first|omega|(dsimp only;omega)⟩
  rcases gP.1 f with f|f
  .exact k d f
  rw[kI.1 f]
  exact⟨⟨v,by show ps.length<=8;omega,M,R⟩,K,e3⟩
 rw[if_neg (by simpa using hn)]
 exact Ok.mk ⟨a',rfl,u,by omega,by first|omega|(dsimp only;omega),k⟩
theorem YQ{a:Int}(h0:0<=a)(h1:a<1000000000000000)(hN:3000<N):
  Ok (BT N (l,a)) fun y=>∃a' f,y=((l,a'),f)/\a<=a'/\a'<=a+10000/\f.2.1.length<=1/\f.2.2.length<=3/\∀d∈f.2.2,SmallD d:=by
 unfold BT
 refine Ok.oneS (by omega) (by omega) (by decide) fun pk b0=> ?_
 dsimp only
 refine Ok.chance (by omega) (by omega) (by omega) (by omega) fun b1=> ?_
 dsimp only
 refine Ok.bind (P:=fun o:List Int×Int×BA×List BA=>∃p,(o.1,o.2.1)=(l,p)/\a<=p/\p<=a+10/\o.2.2.2.length<=1) (Ok.ite (fun _=>Ok.oneS (by omega) (by omega) (by decide) fun x t=>Ok.app (by simp only[jU,jF];omega) (by decide) (Ok.mk ⟨a+1+1+1,rfl,by omega,by omega,by simp⟩)) fun _=>Ok.mk ⟨a+1+1,rfl,by omega,by omega,by simp⟩) fun o1 S=> ?_
 obtain⟨l1,n,p1,i1⟩:=o1
 obtain⟨p,g,c1,c2,K⟩:=S
 simp only[Prod.mk.injEq] at g
 obtain⟨rfl,rfl⟩:=g
 dsimp only at c1 c2 K
 dsimp only
 refine Ok.next (by omega) (by omega) (by omega) (by omega) fun r q1 q2=> ?_
 dsimp only
 refine Ok.loop (fun s=>∃k,(s.2.1,s.2.2.1)=(l1,k)/\n+1<=k/\k<=(n+1)+2000*(3-s.1)/\0<=s.1/\s.1<=3/\(s.2.2.2.length:Int)+s.1<=3/\∀d∈s.2.2.2,SmallD d/\1<=d.2.2.2.length/\d.2.2.1.length<=3) (fun s=>s.1.toNat) (fun b=>∃k,(b.1,b.2.1)=(l1,k)/\n+1<=k/\k<=n+1+6000/\b.2.2.length<=3/\∀d∈b.2.2,SmallD d/\1<=d.2.2.2.length/\d.2.2.1.length<=3) (fun s hs=>(qGy (N:=N) (a:=n+1) (by omega) (by omega) hN hs).mono fun r h=>by cases r<;>exact h) ⟨n+1,rfl,by omega,by first|omega|(dsimp only;omega),q1,by first|omega|(dsimp only;omega),by simp only[jF];omega,fun d E=>by simp at E⟩ (by first|omega|(dsimp only;omega)) fun o2 U=> ?_
 obtain⟨l2,q,ds⟩:=o2
 obtain⟨k,g,e1,e2,e3,D⟩:=U
 simp only[Prod.mk.injEq] at g
 obtain⟨rfl,rfl⟩:=g
 dsimp only at e1 e2 e3 D
 dsimp only
 have M:∀d∈ds,SmallD d:=fun d E=>(D d E).1
 refine Ok.bind (P:=fun o:Bool×List Int×Int=>∃e,o.2=(l2,e)/\q<=e/\e<=q+10/\(o.1=true->0<ds.length)) (Ok.chance (by omega) (by omega) (by omega) (by omega) fun b=>Ok.ite (fun _=>Ok.mk ⟨q+1,rfl,by omega,by omega,fun h=>by simpa using h⟩) fun _=>Ok.mk ⟨q+1,rfl,by omega,by omega,fun h=>by simp at h⟩) fun o5 V=> ?_
 obtain⟨b5,F,e⟩:=o5
 obtain⟨a6,g,f1,f2,R⟩:=V
 simp only[Prod.mk.injEq] at g
 obtain⟨rfl,rfl⟩:=g
 dsimp only at f1 f2 R
 dsimp only
 refine Ok.bind (P:=fun o:List Int×Int×List Dl=>∃c,(o.1,o.2.1)=(F,c)/\e<=c/\c<=e+10/\o.2.2.length<=3/\∀d∈o.2.2,SmallD d) (Ok.ite (fun hb=> ?_) fun _=>Ok.mk ⟨e,rfl,by omega,by omega,e3,M⟩) fun o6 Y=> ?_
 .have a9:=R hb
  refine Ok.next (by omega) (by omega) (by omega) (by omega) fun r1 u1 u2=> ?_
  dsimp only
  refine Ok.idx u1 (by omega) fun x1 Z=> ?_
  obtain⟨z1,z2,z9⟩:=D x1 Z
  obtain⟨u,G,H,v⟩:=id z1
  refine Ok.next (by omega) (by omega) (by omega) (by omega) fun r2 u3 u4=> ?_
  dsimp only
  refine Ok.idx u3 (by omega) fun x2 a0=> ?_
  obtain⟨A,B⟩:=v x2 a0
  have fin:∀{c:Int} {d:Dl},e<=c->c<=e+10->SmallD d->Ok (some (F,c,List.set ds r1.toNat d)) fun o:List Int×Int×List Dl=>∃c,(o.1,o.2.1)=(F,c)/\e<=c/\c<=e+10/\o.2.2.length<=3/\∀d∈o.2.2,SmallD d:=fun {c d} t1 t2 t3=>Ok.mk ⟨c,rfl,t1,t2,by simp only[gE];exact e3,ZB M t3⟩
  have body:∀x:Ex,rO x->SmallD (x1.1,x1.2.1,x1.2.2.1,List.set x1.2.2.2 r2.toNat x):=fun x t=>⟨u,G,by simp only[gE];exact H,ZB v t⟩
  refine Ok.next (by omega) (by omega) (by omega) (by omega) fun r3 u5 u6=> ?_
  dsimp only
  refine Ok.ite (fun _=>Ok.pick (by omega) (by omega) (by decide) (by decide) fun z _=>fin (by first|omega|(dsimp only;omega)) (by first|omega|(dsimp only;omega)) (body _ ⟨A,B⟩)) fun _=> ?_
  refine Ok.ite (fun _=>Ok.pick (by omega) (by omega) (by decide) (by decide) fun z _=>fin (by first|omega|(dsimp only;omega)) (by first|omega|(dsimp only;omega)) (body _ ⟨A,B⟩)) fun _=> ?_
  refine Ok.ite (fun _=>Ok.pick (by omega) (by omega) (by decide) (by decide) fun z _=>fin (by first|omega|(dsimp only;omega)) (by first|omega|(dsimp only;omega)) (body _ ⟨A,B⟩)) fun _=> ?_
  refine Ok.ite (fun _=>Ok.oneS (by omega) (by omega) (by decide) fun z hz=>fin (by first|omega|(dsimp only;omega)) (by first|omega|(dsimp only;omega)) (body _ ⟨hz,B⟩)) fun _=> ?_
  refine Ok.ite (fun _=>Ok.next (by omega) (by omega) (by omega) (by omega) fun r4 _ _=>Ok.next (by omega) (by omega) (by omega) (by omega) fun r5 _ _=>Ok.app (by simp only[jD,jF];omega) (by decide) (fin (by first|omega|(dsimp only;omega)) (by first|omega|(dsimp only;omega)) (body _ ⟨A,by show([]++[r4,r5]).length<=12;simp⟩))) fun _=> ?_
  refine Ok.ite (fun _=>fin (by first|omega|(dsimp only;omega)) (by first|omega|(dsimp only;omega)) ⟨u,G,gC _,fun x t=>by simp at t⟩) fun _=> ?_
  refine Ok.ite (fun _=>Ok.oneS (by omega) (by omega) (by decide) fun z hz=>Ok.app (by simp only[jU];omega) (by decide) (fin (by first|omega|(dsimp only;omega)) (by first|omega|(dsimp only;omega)) ⟨u,by show(x1.2.2.1++[z]).length<=8;simp only[jC,jU];omega,H,v⟩)) fun _=>fin (by first|omega|(dsimp only;omega)) (by first|omega|(dsimp only;omega)) ⟨u,G,H,v⟩
 obtain⟨G,c,B⟩:=o6
 obtain⟨A,g,H,Z,u,v⟩:=Y
 simp only[Prod.mk.injEq] at g
 obtain⟨rfl,rfl⟩:=g
 exact Ok.mk ⟨c,_,rfl,by omega,by omega,K,u,v⟩
end
section
open Go Go.Dc Go.Proofs
theorem qIe{f:Int->Option (Int⊕(Unit⊕Bool))}{n M:Nat}(h:∀i:Nat,i<n->f (i:Int)=some (.inl ((i+1:Nat):Int)))(g:f (n:Int)=some (.inr (.inl ())))(e:n<M):aI f M 0=some (.inl ()):=by
 obtain⟨b,c,d⟩:=KU (fun s:Int=>∃i:Nat,s=(i:Int)/\i<=n) (fun s=>n-s.toNat) (fun b=>b=(Sum.inl ():Unit⊕Bool)) (fun s k=>by
  obtain⟨i,rfl,hi⟩:=k
  rcases fR i n with a|a
  .exact .inr ⟨_,h i a,⟨i+1,rfl,a⟩,by simp only[jS];omega⟩
  obtain rfl:i=n:=by omega
  exact .inl ⟨_,g,rfl⟩) M 0 ⟨0,rfl,gC _⟩ (by simpa using e)
 rw[c,d]
def qBa(f:Sr):BA×Int:=if lQ f=0 then vC f else(⟨#[]⟩,lQ f)
theorem qJj{N:Nat}{f:Sr}(b:SmSr f)(a:3000000<N):tM N (f.1,f.2.1,f.2.2)=some (qBa f):=UG b a
theorem qJa{f:Sr}(c:f.2.1.length<=1)(e:f.2.2.length<=3)(a:∀d∈f.2.2,SmallD d):SmSr f:=⟨by omega,by omega,fun d b=>(a d b).sm⟩
theorem qLu{α:Type}{p q:List α}{f:Int->Option (Int⊕(Unit⊕Bool))}{M:Nat}(o:p.length=q.length)
  (h:∀i:Nat,∀(g:i<p.length) (k:i<q.length),Ok (f (i:Int)) fun r=>(p[i]=q[i]/\r= .inl ((i+1:Nat):Int))\/(p[i]≠q[i]/\r= .inr (.inr false)))
  (n:f (p.length:Int)=some (.inr (.inl ()))) (l:p.length<M):Ok (aI f M 0) fun r=>(p=q/\r= .inl ())\/(p≠q/\r= .inr false):=by
 obtain⟨b,g,k⟩:=KU (fun s:Int=>∃i:Nat,s=(i:Int)/\i<=p.length/\p.take i=q.take i) (fun s=>p.length-s.toNat) (fun r:Unit⊕Bool=>(p=q/\r= .inl ())\/(p≠q/\r= .inr false)) (fun s t=>by
  obtain⟨i,rfl,hi,d⟩:=t
  rcases fR i p.length with a|a
  .obtain⟨r,e,⟨c,rfl⟩|⟨c,rfl⟩⟩:=h i a (by omega)
   .refine .inr ⟨_,e,⟨i+1,rfl,a,?_⟩,by simp only[jS];omega⟩
    rw[gH a,gH (show i<q.length by omega),d,c]
   exact .inl ⟨_,e,.inr ⟨fun h=>by subst h;exact c rfl,rfl⟩⟩
  obtain rfl:i=p.length:=by omega
  refine .inl ⟨_,n,.inl ⟨?_,rfl⟩⟩
  rw[gT,o,gT] at d
  exact d) M 0 ⟨0,rfl,gC _,rfl⟩ (by simpa using l)
 exact⟨b,g,k⟩
def nG{α:Type}(x:Option Bool)(p q:α):Prop:=Ok x fun b=>b=true↔p=q
section
variable {α:Type} {p q:List α} {N:Nat}
theorem wO{f:Int->Option (Int⊕(Unit⊕Bool))}{M:Nat}(k:p.length=q.length)
  (h:∀i:Nat,∀(n:i<p.length) (o:i<q.length),Ok (f (i:Int)) fun r=>(p[i]=q[i]/\r= .inl ((i+1:Nat):Int))\/(p[i]≠q[i]/\r= .inr (.inr false)))
  (d:f (p.length:Int)=some (.inr (.inl ()))) (c:p.length<M) {g:Unit⊕Bool->Option Bool} (a:g (.inl ())=some true) (b:g (.inr false)=some false):nG ((aI f M 0).bind g) p q:=by
 refine Ok.bind (qLu k h d c) fun r l=> ?_
 rcases l with ⟨e,rfl⟩|⟨e,rfl⟩
 .rw[a];exact Ok.mk ⟨fun _=>e,fun _=>rfl⟩
 rw[b];exact Ok.mk ⟨fun h=>(by cases h),fun h=>absurd h e⟩
theorem GT{x:Option Bool}(h:p.length=q.length->nG x p q):nG (if((List.length p:Int) !=(List.length q:Int))=true then some false else x) p q:=by
 refine Ok.ite (fun a=>Ok.mk ⟨fun h=>(by cases h),fun e=> ?_⟩) fun a=>h (by simp only[fY,ne_eq,Decidable.not_not] at a;omega)
 subst e;simp at a
end
variable {N:Nat}
theorem YS{p q:List BA}(e:p.length<2000000)(d:3000000<N):nG (AU N p q) p q:=by
 unfold AU
 refine GT fun c=>wO c (fun i a b=> ?_) ?_ (by omega) rfl rfl
 .unfold EN
  rw[if_pos (by simp only[jA];omega),dM a]
  simp only[j0]
  rw[dM b]
  simp only[j0,iY]
  by_cases he:p[i]=q[i]
  .rw[if_neg (by simpa using he),bX (by omega) (by omega)];exact Ok.mk (.inl ⟨he,rfl⟩)
  rw[if_pos (by simpa using he)];exact Ok.mk (.inr ⟨he,rfl⟩)
 unfold EN
 rw[if_neg (by simp)]
theorem ZH{p q:List BA}(e:p.length<2000000)(d:3000000<N):nG (AY N p q) p q:=by
 unfold AY
 refine GT fun c=>wO c (fun i a b=> ?_) ?_ (by omega) rfl rfl
 .unfold ES
  rw[if_pos (by simp only[jA];omega),dM a]
  simp only[j0]
  rw[dM b]
  simp only[j0,iY]
  by_cases he:p[i]=q[i]
  .rw[if_neg (by simpa using he),bX (by omega) (by omega)];exact Ok.mk (.inl ⟨he,rfl⟩)
  rw[if_pos (by simpa using he)];exact Ok.mk (.inr ⟨he,rfl⟩)
 unfold ES
 rw[if_neg (by simp)]
theorem qMw{p q:List Int}(e:p.length<2000000)(d:3000000<N):nG (FS N p q) p q:=by
 unfold FS
 refine GT fun c=>wO c (fun i a b=> ?_) ?_ (by omega) rfl rfl
 .unfold FA
  rw[if_pos (by simp only[jA];omega),dM a]
  simp only[j0]
  rw[dM b]
  simp only[j0]
  by_cases he:p[i]=q[i]
  .rw[if_neg (by simpa using he),bX (by omega) (by omega)];exact Ok.mk (.inl ⟨he,rfl⟩)
  rw[if_pos (by simpa using he)];exact Ok.mk (.inr ⟨he,rfl⟩)
 unfold FA
 rw[if_neg (by simp)]
theorem zE{α β:Type}{c:Prop}[Decidable c]{x:Option Bool}{p q:α}{s t:β}(d:c↔s=t)(h:s=t->nG x p q):nG (if c then x else some false) (s,p) (t,q):=by
 refine Ok.ite (fun a=>Ok.mono (h (d.1 a)) fun b f=> ?_) fun a=>Ok.mk ⟨fun h=>(by cases h),fun h=>absurd (d.2 (Prod.mk.inj h).1) a⟩
 rw[f,Prod.mk.injEq]
 exact⟨fun e=>⟨d.1 a,e⟩,fun e=>e.2⟩
theorem HL{α:Type}{x:Option Bool}{p q:α}(h:nG x p q):nG (x.bind fun o=>some o) p q:=by
 refine Ok.bind h fun b a=>Ok.mk a
theorem qMv{x y:Ex}(g:x.2.2.2.2.length<2000000)(f:3000000<N):nG (GK N x y) x y:=by
 obtain⟨a,b,c,d,e⟩:=x
 obtain⟨a',b',c',d',e'⟩:=y
 unfold GK
 refine HL (zE (by simp) fun _=>zE (by simp) fun _=>zE (by simp) fun _=>zE (by simp only[iY,jA]) fun _=>HL (qMw g f))
end
section
open Go Go.Dc Go.Proofs
variable {N:Nat}
theorem LA{α:Type}{x:Option Bool}{p q:α}{k:Int}(h:nG x p q):Ok (x.bind fun y=>if(!y)=true then(some (.inr (.inr false)):Option (Int⊕(Unit⊕Bool))) else some (.inl k)) fun r=>(p=q/\r= .inl k)\/(p≠q/\r= .inr (.inr false)):=by
 refine Ok.bind h fun b a=> ?_
 cases b with
 |true=>rw[if_neg (by decide)];exact Ok.mk (.inl ⟨a.1 rfl,rfl⟩)
 |false=>rw[if_pos (by decide)];exact Ok.mk (.inr ⟨fun e=>(by cases a.2 e),rfl⟩)
theorem VR{α β:Type}{x z:Option Bool}{p q:α}{s t:β}(d:nG x s t)(f:s=t->nG z p q):nG (x.bind fun y=>if y=true then z else some false) (s,p) (t,q):=by
 refine Ok.bind d fun b a=> ?_
 cases b with
 |true=>
  rw[if_pos rfl]
  refine Ok.mono (f (a.1 rfl)) fun c g=> ?_
  rw[g,Prod.mk.injEq]
  exact⟨fun e=>⟨a.1 rfl,e⟩,fun e=>e.2⟩
 |false=>
  rw[if_neg (by decide)]
  exact Ok.mk ⟨fun h=>(by cases h),fun e=>(by cases a.2 (Prod.mk.inj e).1)⟩
theorem NQ{α:Type}{x z:Option Bool}{p q:α}{R:Prop}(b:Ok x fun o=>(o=true->p≠q)/\(o=false->R))(c:R->nG z p q):nG (x.bind fun o=>if o=true then some false else z) p q:=by
 refine Ok.bind b fun o a=> ?_
 cases o with
 |true=>rw[if_pos rfl];exact Ok.mk ⟨fun h=>(by cases h),fun e=>absurd e (a.1 rfl)⟩
 |false=>rw[if_neg (by decide)];exact c (a.2 rfl)
theorem qOg{x y:Ex}(n:x.2.2.2.2.length<2000000)(v:3000000<N):nG (FE N x y) x y:=by
 obtain⟨a,b,c,d,e⟩:=x
 obtain⟨a',b',c',d',e'⟩:=y
 unfold FE
 refine NQ (R:=a=a'/\b=b'/\c=c'/\d=d'/\e.length=e'.length) ?_ fun⟨g,k,l,f,o⟩=> ?_
 .refine Ok.ite (fun h=>Ok.mk ⟨fun _ e=>(by cases e;simp at h),fun h=>(by cases h)⟩) fun g=> ?_
  refine Ok.ite (fun h=>Ok.mk ⟨fun _ e=>(by cases e;simp at h),fun h=>(by cases h)⟩) fun k=> ?_
  refine Ok.ite (fun h=>Ok.mk ⟨fun _ e=>(by cases e;simp at h),fun h=>(by cases h)⟩) fun l=> ?_
  refine Ok.ite (fun h=>Ok.mk ⟨fun _ e=>(by cases e;simp at h),fun h=>(by cases h)⟩) fun f=> ?_
  refine Ok.mk ⟨fun h e=>(by cases e;simp at h),fun h=>⟨by simpa using g,by simpa using k,by simpa using l,?_,?_⟩⟩
  .rw[iY] at f;simpa using f
  simp only[bne_eq_false_iff_eq] at h;omega
 subst g;subst k;subst l;subst f
 refine Ok.mono (wO (p:=e) (q:=e') o (fun i t u=> ?_) ?_ (by have:e.length<2000000:=n;omega) rfl rfl) fun r s=> ?_
 .have hx':e.length<2000000:=n
  unfold EW
  dsimp only
  rw[if_pos (by simp only[jA];omega),dM t]
  simp only[j0]
  rw[dM u]
  simp only[j0]
  by_cases he:e[i]=e'[i]
  .rw[if_neg (by simpa using he),bX (by omega) (by omega)];exact Ok.mk (.inl ⟨he,rfl⟩)
  rw[if_pos (by simpa using he)];exact Ok.mk (.inr ⟨he,rfl⟩)
 .unfold EW
  dsimp only
  rw[if_neg (by simp)]
 rw[s]
 exact⟨fun h=>by rw[h],fun h=>by cases h;rfl⟩
theorem qNw{x y:Dl}(u:JC x)(l:3000000<N):nG (FF N x y) x y:=by
 obtain⟨a,b,c,e⟩:=x
 obtain⟨a',b',c',e'⟩:=y
 obtain⟨n,z,o⟩:=u
 dsimp only at n z o
 unfold FF
 refine NQ (R:=a=a'/\b=b'/\c=c'/\e.length=e'.length) ?_ fun⟨f,d,g,s⟩=> ?_
 .refine Ok.ite (fun h=>Ok.mk ⟨fun _ e=>(by cases e;simp at h),fun h=>(by cases h)⟩) fun f=> ?_
  refine Ok.ite (fun h=>Ok.mk ⟨fun _ e=>(by cases e;simp at h),fun h=>(by cases h)⟩) fun d=> ?_
  refine Ok.bind (ZH n l) fun y1 k=> ?_
  refine Ok.ite (fun h=>Ok.mk ⟨fun _ e=>(by cases e;simp at h;rw[h] at k;exact absurd (k.2 rfl) (by decide)),fun h=>(by cases h)⟩) fun g=> ?_
  refine Ok.mk ⟨fun h e=>(by cases e;simp at h),fun h=>⟨by simpa using f,?_,k.1 (by simpa using g),?_⟩⟩
  .rw[iY] at d;simpa using d
  simp only[bne_eq_false_iff_eq] at h;omega
 subst f;subst d;subst g
 refine Ok.mono (wO (p:=e) (q:=e') s (fun i k v=> ?_) ?_ (by omega) rfl rfl) fun r t=> ?_
 .unfold ET
  dsimp only
  rw[if_pos (by simp only[jA];omega),dM k]
  simp only[j0]
  rw[dM v]
  simp only[j0]
  rw[bX (by omega) (by omega)]
  exact LA (qOg (x:=e[i]) (y:=e'[i]) (o _ (jN k)) l)
 .unfold ET
  dsimp only
  rw[if_neg (by simp)]
 rw[t]
 exact⟨fun h=>by rw[h],fun h=>by cases h;rfl⟩
theorem qPx{x y:Sr}(s:uJ x)(g:3000000<N):nG (BU N x y) x y:=by
 obtain⟨b,c,e⟩:=x
 obtain⟨b',c',e'⟩:=y
 obtain⟨k,u,l⟩:=s
 dsimp only at k u l
 unfold BU
 refine NQ (R:=b=b'/\c=c'/\e.length=e'.length) ?_ fun⟨a,d,n⟩=> ?_
 .refine Ok.ite (fun h=>Ok.mk ⟨fun _ e=>(by cases e;simp at h),fun h=>(by cases h)⟩) fun a=> ?_
  refine Ok.bind (ZH k g) fun y1 f=> ?_
  refine Ok.ite (fun h=>Ok.mk ⟨fun _ e=>(by cases e;simp at h;rw[h] at f;exact absurd (f.2 rfl) (by decide)),fun h=>(by cases h)⟩) fun d=> ?_
  refine Ok.mk ⟨fun h e=>(by cases e;simp at h),fun h=>⟨?_,f.1 (by simpa using d),?_⟩⟩
  .rw[iY] at a;simpa using a
  simp only[bne_eq_false_iff_eq] at h;omega
 subst a;subst d
 refine Ok.mono (wO (p:=e) (q:=e') n (fun i f t=> ?_) ?_ (by omega) rfl rfl) fun r o=> ?_
 .unfold FN
  dsimp only
  rw[if_pos (by simp only[jA];omega),dM f]
  simp only[j0]
  rw[dM t]
  simp only[j0]
  rw[bX (by omega) (by omega)]
  exact LA (qNw (x:=e[i]) (y:=e'[i]) (l _ (jN f)) g)
 .unfold FN
  dsimp only
  rw[if_neg (by simp)]
 rw[o]
 exact⟨fun h=>by rw[h],fun h=>by cases h;rfl⟩
theorem qAn{x y:Sr}(D:uJ x)(f:3000000<N):nG (wN N x y) x y:=by
 obtain⟨b,c,e⟩:=x
 obtain⟨b',c',e'⟩:=y
 obtain⟨o,H,r⟩:=D
 dsimp only at o H r
 unfold wN
 refine HL (zE (by simp only[iY,jA]) fun _=>VR (YS o f) fun _=>HL (GT (p:=e) (q:=e') fun B=>wO (p:=e) (q:=e') B (fun i k F=> ?_) ?_ (by omega) rfl rfl))
 .unfold GG
  dsimp only
  rw[if_pos (by simp only[jA];omega),dM k]
  simp only[j0]
  rw[dM F]
  simp only[j0]
  rw[bX (by omega) (by omega)]
  obtain⟨l,G,n⟩:=r _ (jN k)
  generalize e[i]=x at*
  generalize e'[i]=y at*
  obtain⟨s,u,z,a⟩:=x
  obtain⟨t,v,A,d⟩:=y
  dsimp only at l G n
  refine LA (p:=(s,u,z,a)) (q:=(t,v,A,d)) (zE (by simp) fun _=>zE (by simp only[iY,jA]) fun _=>VR (YS l f) fun _=>HL (GT (p:=a) (q:=d) fun g=>wO (p:=a) (q:=d) g (fun j h E=> ?_) ?_ (by omega) rfl rfl))
  .unfold GF
   dsimp only
   rw[if_pos (by simp only[jA];omega),dM h]
   simp only[j0]
   rw[dM E]
   simp only[j0]
   rw[bX (by omega) (by omega)]
   exact LA (qMv (x:=a[j]) (y:=d[j]) (n _ (jN h)) f)
  unfold GF
  dsimp only
  rw[if_neg (by simp)]
 unfold GG
 dsimp only
 rw[if_neg (by simp)]
def LW(d:Dl):BA×Int:=if lQ (zZ d)=0 then(cQ (pW (1,⟨#[102]⟩,d.2.2.1,d.2.2.2)),0) else(⟨#[]⟩,lQ (zZ d))
theorem XE{d:Dl}(h:SmallD d):SmSr (zZ d):=⟨by show 0<2000000;decide,by show 1<2000000;decide,fun e a=>by
 rw[kI.1 a]
 have:=h.sm
 exact⟨by show(1:Nat)<=1048576;decide,this.2.1,this.2.2.1,this.2.2.2⟩⟩
theorem qNc{d:Dl}(h:SmallD d)(a:3000000<N):GO N d.2.2.2 d.2.2.1=some (LW d):=by
 have g:=XE h
 have e:qM N (zZ d)=_:=KI g a
 unfold GO LW
 rw[show qM N ((⟨#[112]⟩:BA),([]:List (BA)),[(1,(⟨#[102]⟩:BA),d.2.2.1,d.2.2.2)])=_ from e]
 simp only[j0]
 by_cases hc:lQ (zZ d)=0
 .obtain⟨b,k,c,l⟩:=(CW hc).decs (1,⟨#[102]⟩,d.2.2.1,d.2.2.2) (kI.2 rfl)
  have f:yR N d.2.2.2 d.2.2.1=_:=(PR (d:=(1,⟨#[102]⟩,d.2.2.1,d.2.2.2)) b c a).1
  rw[if_pos hc,if_neg (by simpa using hc),f]
  rfl
 rw[if_neg hc,if_pos (by simpa using hc)]
theorem qNx{d:Dl}(h:SmallD d)(a:3000000<N):FZ N d.2.2.2 d.2.2.1=some (LW d):=by
 have e:=XE h
 have b:tK N (zZ d)=_:=OK e.r a
 unfold FZ LW
 rw[show tK N ((⟨#[112]⟩:BA),([]:List (BA)),[(1,(⟨#[102]⟩:BA),d.2.2.1,d.2.2.2)])=_ from b]
 simp only[j0]
 by_cases hc:lQ (zZ d)=0
 .have c:BO N d.2.2.2 (IntKind.wrap .i64 ((d.2.2.2.length:Int)-1)) d.2.2.1 0=_:=WQ (d:=(1,⟨#[102]⟩,d.2.2.1,d.2.2.2)) (DM (CW hc) _ (kI.2 rfl)) a
  rw[if_pos hc,if_neg (by simpa using hc),c]
  rfl
 rw[if_neg hc,if_pos (by simpa using hc)]
theorem qDp(l:List Int)(c:3000000<N):Ok (EP N l) fun b=>b=true:=by
 have k:BP N=some true:=aw_true c
 unfold EP
 refine Ok.bind (YQ (gU 0) (by omega) (by omega)) fun y1 p=> ?_
 obtain⟨a',f,rfl,K,M,t,u,h⟩:=p
 dsimp only
 refine Ok.bind (YQ (by omega) (by omega) (by omega)) fun V q=> ?_
 obtain⟨H,g,rfl,-,-,R,S,U⟩:=q
 dsimp only
 have a:=qJa t u h
 have v:qM N (f.1,f.2.1,f.2.2)=some (lQ f):=KI a c
 have x:tK N (f.1,f.2.1,f.2.2)=some (lQ f):=OK a.r c
 rw[v,x]
 simp only[j0]
 rw[if_neg (by simp)]
 obtain⟨d,A,B⟩:=qAn (y:=g) a.r c
 obtain⟨e,D,E⟩:=qPx (y:=g) a.r c
 obtain⟨s,F,G⟩:=qAn (y:=f) a.r c
 have z:d=e:=by rw[kK,B,E]
 obtain rfl:s=true:=G.2 rfl
 rw[show wN N (f.1,f.2.1,f.2.2) (g.1,g.2.1,g.2.2)=some d from A,show BU N (f.1,f.2.1,f.2.2) (g.1,g.2.1,g.2.2)=some e from D,show wN N (f.1,f.2.1,f.2.2) (f.1,f.2.1,f.2.2)=some true from F]
 simp only[j0]
 rw[if_neg (by simp[z])]
 simp only[j0]
 rw[if_neg (by decide),qJj a c,show BN N (f.1,f.2.1,f.2.2)=some (qBa f) from qGh a.r c]
 simp only[j0]
 rw[if_neg (by simp)]
 simp only[j0]
 rw[if_neg (by simp),qIe (n:=f.2.2.length) (fun i hi=> ?_) ?_ (by omega)]
 .simp only[j0]
  rw[k]
  exact Ok.mk rfl
 .unfold EL
  dsimp only
  rw[if_neg (by simp)]
 unfold EL
 dsimp only
 rw[if_pos (by simp only[jA];omega),dM hi]
 simp only[j0]
 have o:=h _ (jN hi)
 rw[qNc o c,qNx o c]
 simp only[j0]
 rw[if_neg (by simp)]
 simp only[j0]
 rw[if_neg (by simp),bX (by omega) (by omega)]
 rfl
theorem testgatelaw05_SourceFormats_true(l:List Int)(_gl:l.length*8<=reachBytes/\∀x∈l,(Lit.int .i64 x).wf=true):∃N,EP N l=some true:=by
 obtain⟨b,h,rfl⟩:=qDp l (N:=3000001) (by decide)
 exact⟨_,h⟩
end
end Go.Proofs.YthbfjomffkpjdaaGreatDoor
