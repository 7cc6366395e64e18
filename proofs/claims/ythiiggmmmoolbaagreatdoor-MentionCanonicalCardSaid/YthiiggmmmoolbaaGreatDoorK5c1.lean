/- No condition but those of each theorem. -/
import Derived.Test.YthiiggmmmoolbaaGreatDoorProg
import Derived.WalkKit
import Derived.Deep.LoopGhost
import Derived.KernelRfl
import Derived.OrdersHeld
import Derived.OrdersIn
import Derived.LoopNIn
import Derived.Sort.LoopGhostIn
import Derived.Laws.AppendOwn
import Derived.RangeFuncLeaves
import Derived.RangeFuncRecord
import Derived.MapKept
import Derived.Maps.RangeRun
import Derived.ChangeKeysEq
import Derived.HandedShaped
import Derived.ChangeStays
import Derived.ChangeSame
import Derived.OpenShut
import Derived.WideShapes
import Derived.JoinedOf
import Derived.ReadAgain
import Derived.ChangeAt
import Derived.RowKit
import Derived.Lib.Overlaps
import Derived.Shelf.Sort.Plain
import Derived.Shelf.Slices.In.SortNone
import Derived.WalkSmall
import Derived.Recover
import Derived.Lib.Builder
import Derived.Lib.UnsafeStr
import Derived.Shelf.Strconv.Itoa3
import Derived.Room.Shelf.Join48
import Derived.Lib.Bytealg
import Derived.Test.YthiiggmmmoolbaaGreatDoorK4c1
namespace Go.Proofs.YthiiggmmmoolbaaGreatDoor
section
open Go Go.Dc
section
variable {N:Nat} {ts:List bB} {pr:List BA} {E S:Ps->PM Nat} {d:Int}
variable {r1 r2 r3 r4:RT->Int->Option (RT×Int)}
theorem qAc{y1:RT×bB}{y31:RT×BA}{p:Ps}(a:pr.length<1000):∀(k i M:Nat),i+k=pr.length->k<M->
  aJ (vL N y1 y31 (gR ts pr p,false)) M (i:Int)=(match(pr.drop i).findIdx? (fun x=>decide (x=y31.2)) with
   |some j=>(lF N (gR ts pr p) (2,((i+j:Nat):Int),0,⟨#[]⟩,[]) y1.2.2.2.2).bind fun y=>some (.inr y)
   |none=>some (.inl ()))
 |k,i,0,_,h=>by omega
 |0,i,M+1,h,_=>by
  have:pr.drop i=[]:=jZ (by omega)
  have c:decide ((i:Int)<((gR ts pr p).2.2.2.2.1.length:Int))=false:=jY (by simp only[gR];omega)
  simp only[aJ,vL,this,List.findIdx?_nil,c,jB,jF,j0]
 |k+1,i,M+1,h,e=>by
  have hi:i<pr.length:=by omega
  have d:=qAc (y1:=y1) (y31:=y31) (p:=p) a k (i+1) M (by omega) (by omega)
  have c:decide ((i:Int)<((gR ts pr p).2.2.2.2.1.length:Int))=true:=jV (by simp only[gR];omega)
  have x:idx (gR ts pr p).2.2.2.2.1 (i:Int)=some pr[i]:=iX hi
  have b:((gR ts pr p).2.2.2.1==0)=true:=rfl
  rw[jR hi,List.findIdx?_cons]
  simp only[aJ,vL,b,Prod.eta,c,x,jJ,j0,mF,j9]
  by_cases hs:pr[i]=y31.2
  .simp only[if_pos hs,jJ,j0,fC]
   cases lF N (gR ts pr p) (2,(i:Int),0,⟨#[]⟩,[]) y1.2.2.2.2<;>rfl
  simp only[if_neg hs,j0,jB,jF,nV (show i<1000000 by omega),d]
  cases(pr.drop (i+1)).findIdx? (fun x=>decide (x=y31.2)) with
  |none=>rfl
  |some j=>simp only[kW];rw[show i+1+j=i+(j+1) by omega]
theorem QY{y1:RT×bB}{y31:RT×BA}{z:bJ}{j:Nat}{pr':List BA}{b:List Ex}(d:z.2≠0)(a:pr'.length<1000):∀(k i M:Nat),i+k=pr'.length->k<M->
  aJ (vL N y1 y31 (bR ts z j pr' b,false)) M (i:Int)=some (.inl ())
 |k,i,0,_,h=>by omega
 |0,i,M+1,h,_=>by
  have c:decide ((i:Int)<((bR ts z j pr' b).2.2.2.2.1.length:Int))=false:=jY (by simp only[bR];omega)
  simp only[aJ,vL,c,jB,jF,j0]
 |k+1,i,M+1,h,g=>by
  have hi:i<pr'.length:=by omega
  have f:=QY (y1:=y1) (y31:=y31) (j:=j) (b:=b) d a k (i+1) M (by omega) (by omega)
  have c:decide ((i:Int)<((bR ts z j pr' b).2.2.2.2.1.length:Int))=true:=jV (by simp only[bR];omega)
  have x:idx (bR ts z j pr' b).2.2.2.2.1 (i:Int)=some pr'[i]:=iX hi
  have e:((bR ts z j pr' b).2.2.2.1==0)=false:=by simpa[bR] using d
  simp only[aJ,vL,e,Prod.eta,c,x,jJ,j0,mF,j9]
  have:((if pr'[i]=y31.2 then some false else some false):Option Bool)=some false:=by split<;>rfl
  simp only[this,j0,jB,jF,nV (show i<1000000 by omega),f]
variable (hEg:∀p:Ps,p.1<ts.length->p.2.length<=256->∃o,r4 (gR ts pr p) (IntKind.wrap .i64 (d+1))=some o/\iU ts pr (E p) o)
variable (hEb:∀(z:bJ) (i:Nat) (pr':List BA) (b:List Ex),z.2≠0->i<ts.length->∃v,r4 (bR ts z i pr' b) (IntKind.wrap .i64 (d+1))=some (bR ts z i pr' b,v))
include hEg hEb in
theorem qSg(e:OkT ts)(k:ts.length<1000000)(H:100<N)(G:lT ts E)(t:bB)(p:Ps)(f:p.1<ts.length)(A:p.2.length<=256):∃o,
  ((iG N (gR ts pr p) (⟨#[40]⟩:BA)).bind fun D=>(qK N D true).bind fun r=>(iG N r.1 (⟨#[44]⟩:BA)).bind fun F=>(r4 F (IntKind.wrap .i64 (d+1))).bind fun c=>(iG N c.1 (⟨#[41]⟩:BA)).bind fun g=>lF N g (6,0,0,r.2,[c.2]) t.2.2.2)=some o/\
  iU ts pr (aW (cC ts sOpen p.1) fun i=>aW (aW (mC ts i) fun a=>aW (cC ts sComma a.1) fun i=>aW (E (i,p.2)) fun q=>(.inr (q.1,((6,0,0,a.2.2.1,[(q.2:Int)]):Ex)):bJ⊕(Ps×Ex))) fun q=>aW (cC ts sClose q.1.1) fun i=>iE t q.2 (i,q.1.2)) o:=by
 have bad:∀{z:bJ} {i:Nat} {pr':List BA} {b:List Ex} (x:BA),z.2≠0->i<ts.length->∃o,((r4 (bR ts z i pr' b) (IntKind.wrap .i64 (d+1))).bind fun c=>(iG N c.1 (⟨#[41]⟩:BA)).bind fun g=>lF N g (6,0,0,x,[c.2]) t.2.2.2)=some o/\iU ts pr (.inl z) o:=by
  intro z i pr' b x n hi
  obtain⟨v,h⟩:=hEb z i pr' b n hi
  simp only[h,j0]
  exact zZ n hi _ _
 simp only[sD p f k,j0,sOpen]
 cases h1:cC ts ⟨#[40]⟩ p.1 with
 |inl z=>
  simp only[RV (qW h1) f,rM (qW h1) f,j0]
  exact bad _ (qW h1) f
 |inr i=>
  obtain⟨rfl,h,-⟩:=lZ e f h1
  simp only[SJ (p.1+1,p.2) h k H,j0,jJ,aW]
  cases h2:mC ts (p.1+1) with
  |inl z=>
   simp only[rM (MJ h2) h,j0]
   exact bad _ (MJ h2) h
  |inr a=>
   obtain⟨rfl,s,-⟩:=sT e h h2
   simp only[sD (p.1+1+1,p.2) s k,j0,sComma]
   cases y:cC ts ⟨#[44]⟩ (p.1+1+1) with
   |inl z=>exact bad _ (qW y) s
   |inr j=>
    obtain⟨rfl,u,-⟩:=lZ e s y
    obtain⟨o,K,l⟩:=hEg (p.1+1+1+1,p.2) u A
    simp only[K,j0]
    cases h4:E (p.1+1+1+1,p.2) with
    |inl z=>
     rw[h4] at l
     obtain⟨n,i,pr',b,hi,B⟩:=l
     simp only[B]
     exact zZ n hi _ _
    |inr q=>
     rw[h4] at l
     obtain⟨⟨M,n,R,B⟩,S⟩:=G (p.1+1+1+1,p.2) q.1 q.2 u A h4
     have hr':o=(gR ts pr q.1,(q.2:Int)):=l
     simp only[hr']
     exact PN t _ q.1 e k n B
theorem SU(c:OkT ts)(h:ts.length<1000000)(r:100<N)(k:Int)(pth:Bool)(t:bB)(p:Ps)(f:p.1<ts.length)(s:p.2.length<=256):∃o,
  ((iG N (gR ts pr p) (⟨#[40]⟩:BA)).bind fun l=>(qK N l pth).bind fun g=>(iG N g.1 (⟨#[41]⟩:BA)).bind fun n=>lF N n (k,0,0,g.2,[]) t.2.2.2)=some o/\
  iU ts pr (aW (cC ts sOpen p.1) fun i=>aW (aW (if pth=true then mC ts i else rO ts i) fun a=>(.inr ((a.1,p.2),((k,0,0,a.2.2.1,[]):Ex)):bJ⊕(Ps×Ex))) fun q=>aW (cC ts sClose q.1.1) fun i=>iE t q.2 (i,q.1.2)) o:=by
 simp only[sD p f h,j0,sOpen]
 cases h1:cC ts ⟨#[40]⟩ p.1 with
 |inl z=>
  simp only[RV (qW h1) f,j0]
  exact zZ (qW h1) f _ _
 |inr i=>
  obtain⟨rfl,d,-⟩:=lZ c f h1
  simp only[SJ (p.1+1,p.2) d h r,j0,aW]
  cases h2:(if pth=true then mC ts (p.1+1) else rO ts (p.1+1)) with
  |inl z=>
   have b:z.2≠0:=by
    split at h2
    .exact MJ h2
    exact qPx h2
   exact zZ b d _ _
  |inr a=>
   have b:a=(p.1+1+1,aB ts (p.1+1))/\p.1+1+1<ts.length:=by
    split at h2
    .obtain⟨e,b,-⟩:=sT c d h2;exact⟨e,b⟩
    obtain⟨e,b,-⟩:=YL c d h2;exact⟨e,b⟩
   obtain⟨rfl,b⟩:=b
   exact PN t _ (p.1+1+1,p.2) c h b s
theorem qQr(c:OkT ts)(h:ts.length<1000000)(t:bB)(p:Ps)(d:p.1<ts.length)(u:p.2.length<=256):∃o,
  ((iG N (gR ts pr p) (⟨#[40]⟩:BA)).bind fun n=>(iJ N n).bind fun g=>(uG N g.1).bind fun b=>(if(decide (b.2>=64))=true then((iS N b.1 g.2.2.2.2 9).bind fun r=>some r) else(some b.1):Option RT).bind fun v=>(iG N v (⟨#[41]⟩:BA)).bind fun s=>lF N s (10,b.2,0,⟨#[]⟩,[]) t.2.2.2)=some o/\
  iU ts pr (aW (cC ts sOpen p.1) fun i=>aW (aW (lH ts 2 i) fun a=>if a.2.2.2.1>=64 then cV a.2 9 else(.inr ((a.1,p.2),((10,a.2.2.2.1,0,⟨#[]⟩,[]):Ex)):bJ⊕(Ps×Ex))) fun q=>aW (cC ts sClose q.1.1) fun i=>iE t q.2 (i,q.1.2)) o:=by
 have f:¬decide ((0:Int)>=64)=true:=by decide
 simp only[sD p d h,j0,sOpen]
 cases h1:cC ts ⟨#[40]⟩ p.1 with
 |inl z=>
  simp only[rN d,qNc (qW h1) d,j0,if_neg f]
  exact zZ (qW h1) d _ _
 |inr i=>
  obtain⟨rfl,e,-⟩:=lZ c d h1
  simp only[mI (p.1+1,p.2) e,PT (p.1+1,p.2) e h,j0,aW]
  cases h2:lH ts 2 (p.1+1) with
  |inl z=>
   simp only[if_neg f,j0]
   exact zZ (HY h2) e _ _
  |inr a=>
   obtain⟨rfl,l,-⟩:=wD c (by decide) e h2
   by_cases k:(aB ts (p.1+1)).2.2.1>=64
   .simp only[if_pos k,j9,jJ,pD,j0]
    exact zZ (show(9:Int)≠0 by decide) l _ _
   simp only[if_neg k,j9,j0]
   exact PN t _ (p.1+1+1,p.2) c h l u
end
section
variable {N:Nat} {ts:List bB} {pr:List BA} {E S:Ps->PM Nat} {d:Int}
variable {r1 r2 r3 r4:RT->Int->Option (RT×Int)}
theorem qAz{s:BA}{i:Nat}(h:(aB ts i).1=1):bE ts 1 s i=decide ((aB ts i).2.1=s):=by simp[bE,h]
theorem qCz{k:Int}{s:BA}{i:Nat}(h:(aB ts i).1≠k):bE ts k s i=false:=by simp[bE,h]
theorem qG{α:Type}(x:Option α):(x.bind fun y=>some y)=x:=by cases x<;>rfl
theorem qMl{z:bJ}{i:Nat}{pr':List BA}{b:List Ex}(c:z.2≠0)(hi:i<ts.length):yQ N r1 r2 r3 r4 (bR ts z i pr' b) d=some (bR ts z i pr' b,0):=by
 have a:((bR ts z i pr' b).2.2.2.1 !=0)=true:=by simpa[bR] using c
 simp only[yQ,Prod.eta,rN hi,j0,a,jJ]
variable (hEg:∀p:Ps,p.1<ts.length->p.2.length<=256->∃o,r4 (gR ts pr p) (IntKind.wrap .i64 (d+1))=some o/\iU ts pr (E p) o)
variable (hEb:∀(z:bJ) (i:Nat) (pr':List BA) (b:List Ex),z.2≠0->i<ts.length->∃v,r4 (bR ts z i pr' b) (IntKind.wrap .i64 (d+1))=some (bR ts z i pr' b,v))
include hEg hEb in
theorem qRj(e:OkT ts)(f:ts.length<1000000)(H:pr.length<1000)(hN:1000002<N)(M:lT ts E)(p:Ps)(l:p.1<ts.length)(t:p.2.length<=256):
  ∃o,yQ N r1 r2 r3 r4 (gR ts pr p) d=some o/\iU ts pr (lL ts pr E p) o:=by
 have Y:((gR ts pr p).2.2.2.1 !=0)=false:=rfl
 simp only[yQ,Prod.eta,mI p l,j0,Y,jB,jF]
 unfold lL
 dsimp only
 by_cases k1:(aB ts p.1).1=2
 .have k1':((aB ts p.1).1==2)=true:=by simpa using k1
  have g:=e.next l (show(aB ts p.1).1≠5 by rw[k1];decide)
  rw[if_pos k1]
  simp only[k1',jJ,PT p l f,lH,if_pos k1,j0]
  obtain⟨o,k,c⟩:=AD (N:=N) (pr:=pr) (aB ts p.1) (1,(aB ts p.1).2.2.1,0,⟨#[]⟩,[]) (p.1+1,p.2) g t
  simp only[k,j0]
  exact⟨_,rfl,c⟩
 have k1':((aB ts p.1).1==2)=false:=by simpa using k1
 rw[if_neg k1]
 simp only[k1',jB,jF,pP p l f,j0]
 rcases eO (bE ts 4 sMinus p.1) with B|B
 .have c1':bE ts 4 ⟨#[45]⟩ p.1=true:=B
  have g:=mG e l (by decide) B
  simp only[B,c1',jJ,PT (p.1+1,p.2) g f,j0]
  cases h:lH ts 2 (p.1+1) with
  |inl z=>
   obtain⟨o,k,c⟩:=DQ (N:=N) (pr:=pr) (pr':=pr) (b:=p.2) (HY h) g (1,IntKind.wrap .i64 (0-0),0,⟨#[]⟩,[]) (aB ts p.1).2.2.2
   simp only[k,j0]
   exact⟨_,rfl,c⟩
  |inr a=>
   obtain⟨rfl,F,-⟩:=wD e (by decide) g h
   obtain⟨o,k,c⟩:=AD (N:=N) (pr:=pr) (aB ts p.1) (1,IntKind.wrap .i64 (0-(aB ts (p.1+1)).2.2.1),0,⟨#[]⟩,[]) (p.1+1+1,p.2) F t
   simp only[k,j0,aW]
   exact⟨_,rfl,c⟩
 have c1':bE ts 4 ⟨#[45]⟩ p.1=false:=B
 simp only[B,c1',jB,jF,pP p l f,j0]
 rcases eO (bE ts 4 sOpen p.1) with D|D
 .have c2':bE ts 4 ⟨#[40]⟩ p.1=true:=D
  have g:=mG e l (by decide) D
  obtain⟨o,k,c⟩:=hEg (p.1+1,p.2) g t
  simp only[D,c2',jJ,k,j0]
  cases h:E (p.1+1,p.2) with
  |inl z=>
   rw[h] at c
   obtain⟨r,i,pr',b,hi,G⟩:=c
   simp only[G,rM r hi,j0,aW]
   exact⟨_,rfl,sB r hi⟩
  |inr q=>
   rw[h] at c
   obtain⟨⟨U,K,V,S⟩,v⟩:=M (p.1+1,p.2) q.1 q.2 g t h
   have hr':o=(gR ts pr q.1,(q.2:Int)):=c
   simp only[hr',sD q.1 K f,j0,aW,sClose]
   cases u:cC ts ⟨#[41]⟩ q.1.1 with
   |inl z=>exact⟨_,rfl,sB (qW u) K⟩
   |inr j=>exact⟨_,rfl,rfl⟩
 have c2':bE ts 4 ⟨#[40]⟩ p.1=false:=D
 simp only[D,c2',jB,jF,qX p l f,j0]
 by_cases k2:(aB ts p.1).1=1
 rotate_left
 .-- no name
  rw[if_pos k2]
  have n:∀s,bE ts 1 s p.1=false:=fun s=>qCz k2
  have v:lN ts p.1= .inl ((aB ts p.1).2.2.2,9):=by simp[lN,lH,k2,aW,cV]
  simp only[n,jB,jF,qX p l f,j0,DR p l f (by omega:100<N),v]
  have r:(((aB ts p.1).2.2.2,(9:Int)):bJ).2≠0:=show(9:Int)≠0 by decide
  have u:=QY (N:=N) (ts:=ts) (y1:=(gR ts pr p,aB ts p.1)) (y31:=(bR ts ((aB ts p.1).2.2.2,9) p.1 pr p.2,(⟨#[]⟩:BA))) (j:=p.1) (pr':=pr) (b:=p.2) r H pr.length 0 N (by omega) (by omega)
  rw[show((0:Nat):Int)=0 from rfl] at u
  simp only[MO r,j0,kP,jJ,u,sC r]
  exact⟨_,rfl,sB r l⟩
 rw[if_neg (show ¬(aB ts p.1).1≠1 by simpa using k2)]
 have g:=e.next l (show(aB ts p.1).1≠5 by rw[k2];decide)
 have n:∀s,bE ts 1 s p.1=decide ((aB ts p.1).2.1=s):=fun s=>qAz k2
 simp only[n,qX p l f,j0]
 by_cases w1:(aB ts p.1).2.1=sRead
 .rw[if_pos (show(aB ts p.1).2.1∈[sRead,sSize,sHas,sEnv,sFlip] by rw[w1];simp)]
  have w1':decide ((aB ts p.1).2.1=(⟨#[114,101,97,100]⟩:BA))=true:=jV w1
  simp only[w1',jJ]
  obtain⟨o,k,c⟩:=qSg (N:=N) hEg hEb e f (by omega) M (aB ts p.1) (p.1+1,p.2) g t
  refine⟨o,Eq.trans ?_ k,?_⟩
  .simp only[qG]
  simp only[nH,if_pos w1]
  exact c
 have w1':decide ((aB ts p.1).2.1=(⟨#[114,101,97,100]⟩:BA))=false:=jY w1
 simp only[w1',jB,jF,qX p l f,j0,n]
 by_cases w2:(aB ts p.1).2.1=sSize
 .rw[if_pos (show(aB ts p.1).2.1∈[sRead,sSize,sHas,sEnv,sFlip] by rw[w2];simp)]
  have w2':decide ((aB ts p.1).2.1=(⟨#[115,105,122,101]⟩:BA))=true:=jV w2
  have wx:((aB ts p.1).2.1.toList==(⟨#[104,97,115]⟩:BA).toList)=false:=by rw[mF,w2];decide
  have wy:((aB ts p.1).2.1.toList==(⟨#[101,110,118]⟩:BA).toList)=false:=by rw[mF,w2];decide
  simp only[w2',jJ,j0,wx,wy,jB,jF]
  obtain⟨o,k,c⟩:=SU (N:=N) (pr:=pr) e f (by omega) 7 true (aB ts p.1) (p.1+1,p.2) g t
  refine⟨o,Eq.trans ?_ k,?_⟩
  .simp only[qG];rfl
  simp only[nH,if_neg w1,if_pos w2]
  exact c
 have w2':decide ((aB ts p.1).2.1=(⟨#[115,105,122,101]⟩:BA))=false:=jY w2
 simp only[w2',jB,jF,qX p l f,j0,n]
 by_cases w3:(aB ts p.1).2.1=sHas
 .rw[if_pos (show(aB ts p.1).2.1∈[sRead,sSize,sHas,sEnv,sFlip] by rw[w3];simp)]
  have w3':decide ((aB ts p.1).2.1=(⟨#[104,97,115]⟩:BA))=true:=jV w3
  have wx:((aB ts p.1).2.1.toList==(⟨#[104,97,115]⟩:BA).toList)=true:=by rw[mF,w3']
  simp only[w3',jJ,j0,wx]
  obtain⟨o,k,c⟩:=SU (N:=N) (pr:=pr) e f (by omega) 8 true (aB ts p.1) (p.1+1,p.2) g t
  refine⟨o,Eq.trans ?_ k,?_⟩
  .simp only[qG];rfl
  simp only[nH,if_neg w1,if_neg w2,if_pos w3]
  exact c
 have w3':decide ((aB ts p.1).2.1=(⟨#[104,97,115]⟩:BA))=false:=jY w3
 simp only[w3',jB,jF,qX p l f,j0,n]
 by_cases w4:(aB ts p.1).2.1=sEnv
 .rw[if_pos (show(aB ts p.1).2.1∈[sRead,sSize,sHas,sEnv,sFlip] by rw[w4];simp)]
  have w4':decide ((aB ts p.1).2.1=(⟨#[101,110,118]⟩:BA))=true:=jV w4
  have wx:((aB ts p.1).2.1.toList==(⟨#[104,97,115]⟩:BA).toList)=false:=by rw[mF,w4];decide
  have wy:((aB ts p.1).2.1.toList==(⟨#[101,110,118]⟩:BA).toList)=true:=by rw[mF,w4']
  simp only[w4',jJ,j0,wx,wy,jB,jF]
  obtain⟨o,k,c⟩:=SU (N:=N) (pr:=pr) e f (by omega) 9 false (aB ts p.1) (p.1+1,p.2) g t
  refine⟨o,Eq.trans ?_ k,?_⟩
  .simp only[qG];rfl
  simp only[nH,if_neg w1,if_neg w2,if_neg w3,if_pos w4]
  exact c
 have w4':decide ((aB ts p.1).2.1=(⟨#[101,110,118]⟩:BA))=false:=jY w4
 simp only[w4',jB,jF,qX p l f,j0,n]
 by_cases w5:(aB ts p.1).2.1=sFlip
 .rw[if_pos (show(aB ts p.1).2.1∈[sRead,sSize,sHas,sEnv,sFlip] by rw[w5];simp)]
  have w5':decide ((aB ts p.1).2.1=(⟨#[102,108,105,112]⟩:BA))=true:=jV w5
  simp only[w5',jJ]
  obtain⟨o,k,c⟩:=qQr (N:=N) (pr:=pr) e f (aB ts p.1) (p.1+1,p.2) g t
  refine⟨o,Eq.trans ?_ k,?_⟩
  .simp only[qG]
  simp only[nH,if_neg w1,if_neg w2,if_neg w3,if_neg w4]
  exact c
 have w5':decide ((aB ts p.1).2.1=(⟨#[102,108,105,112]⟩:BA))=false:=jY w5
 rw[if_neg (show ¬(aB ts p.1).2.1∈[sRead,sSize,sHas,sEnv,sFlip] by simp[w1,w2,w3,w4,w5])]
 simp only[w5',jB,jF,DR p l f (by omega:100<N),j0,lN,lH,if_pos k2,aW]
 rcases eO (pF (aB ts p.1).2.1) with R|R
 .simp only[R,jJ,cV]
  have r:(((aB ts p.1).2.2.2,(9:Int)):bJ).2≠0:=show(9:Int)≠0 by decide
  have u:=QY (N:=N) (ts:=ts) (y1:=(gR ts pr p,aB ts p.1)) (y31:=(bR ts ((aB ts p.1).2.2.2,9) p.1 pr p.2,(⟨#[]⟩:BA))) (j:=p.1) (pr':=pr) (b:=p.2) r H pr.length 0 N (by omega) (by omega)
  rw[show((0:Nat):Int)=0 from rfl] at u
  simp only[MO r,j0,kP,jJ,u,sC r]
  exact⟨_,rfl,sB r l⟩
 simp only[R,jB,jF,pP (p.1+1,p.2) g f,j0]
 rcases eO (bE ts 4 sOpen (p.1+1)) with A|A
 .have c4':bE ts 4 ⟨#[40]⟩ (p.1+1)=true:=A
  have F:=mG e g (by decide) A
  simp only[A,c4',jJ,kU,jB,jF]
  have Z:cC ts sOpen (p.1+1)= .inr (p.1+1+1):=by simp[cC,A]
  simp only[pN,Z,aW]
  obtain⟨o,k,c⟩:=qUu (N:=N) hEg hEb e f (by omega) M (p.1+1+1,p.2) F t
  simp only[k,j0]
  cases ha:(if bE ts 4 sClose (p.1+1+1)=true then .inr ((p.1+1+1+1,p.2),[]) else pT ts E (ts.length+1) [] (p.1+1+1,p.2):PM (List Int)) with
  |inl z=>
   rw[ha] at c
   obtain⟨r,i,pr',b,hi,G⟩:=c
   simp only[G]
   obtain⟨o2,v,y⟩:=DQ (N:=N) (pr:=pr) (pr':=pr') (b:=b) r hi (3,0,0,(aB ts p.1).2.1,o.1) (aB ts p.1).2.2.2
   simp only[v,j0]
   exact⟨_,rfl,y⟩
  |inr q=>
   rw[ha] at c
   have hr':o=(q.2,gR ts pr q.1):=c
   have r:q.1.1<ts.length/\q.1.2.length<=256:=by
    split at ha
    .rename_i hc
     obtain rfl:=Sum.inr.inj ha
     exact⟨mG e F (by decide) hc,t⟩
    obtain⟨U,K,V,S⟩:=PP e M _ _ (p.1+1+1,p.2) q.1 q.2 F t ha
    exact⟨K,S⟩
   simp only[hr']
   obtain⟨o2,v,y⟩:=AD (N:=N) (pr:=pr) (aB ts p.1) (3,0,0,(aB ts p.1).2.1,q.2) q.1 r.1 r.2
   simp only[v,j0]
   exact⟨_,rfl,y⟩
 have c4':bE ts 4 ⟨#[40]⟩ (p.1+1)=false:=A
 simp only[A,c4',jB,jF,kP,jJ]
 have u:=qAc (N:=N) (ts:=ts) (pr:=pr) (y1:=(gR ts pr p,aB ts p.1)) (y31:=(gR ts pr (p.1+1,p.2),(aB ts p.1).2.1)) (p:=(p.1+1,p.2)) H pr.length 0 N (by omega) (by omega)
 rw[show((0:Nat):Int)=0 from rfl] at u
 simp only[u,kI,kF]
 cases hi:pr.findIdx? (fun x=>decide (x=(aB ts p.1).2.1)) with
 |none=>
  simp only[j0,pD]
  exact⟨_,rfl,sB (show(9:Int)≠0 by decide) g⟩
 |some j=>
  obtain⟨o2,v,y⟩:=AD (N:=N) (pr:=pr) (aB ts p.1) (2,(j:Int),0,⟨#[]⟩,[]) (p.1+1,p.2) g t
  simp only[v,j0]
  exact⟨_,rfl,y⟩
end
section
variable {N:Nat} {ts:List bB} {pr:List BA} {E S:Ps->PM Nat} {d:Int}
variable {r r1 r2 r3 r4:RT->Int->Option (RT×Int)}
theorem qCk{L i:Nat}(h:iI ts L i≠0):(aB ts i).1=4:=by
 apply Decidable.byContradiction
 intro b
 apply h
 unfold iI
 have:opsC.find? (nJ ts L i)=none:=by
  rw[List.find?_eq_none]
  intro o _ a
  simp only[nJ,jI] at a
  exact b (LW a.1)
 rw[this]
theorem qEd{f:Int×RT->Option ((Int×RT)⊕(Int×RT))}{L:Nat}(A:OkT ts)(H:lT ts S)
  (t:∀p:Ps,p.1<ts.length->p.2.length<=256->∃o,r (gR ts pr p) d=some o/\iU ts pr (S p) o)
  (a1:∀(z:bJ) (i:Nat) (pr':List BA) (b:List Ex),z.2≠0->i<ts.length->∃v,r (bR ts z i pr' b) d=some (bR ts z i pr' b,v))
  (y:∀(z:bJ) (i:Nat) (pr':List BA) (b:List Ex) (v:Int),z.2≠0->f (v,bR ts z i pr' b)=some (.inr (v,bR ts z i pr' b)))
  {n M x:Nat} {p:Ps} (R:p.1<ts.length) (u:p.2.length<=256) (hM:0<M) (G:L≠1) (e:iI ts L p.1≠0)
  (U:∀(x:Nat) (q:Ps),q.1<ts.length->p.1<q.1->q.2.length<=256->x<q.2.length->∃o,aJ f M ((x:Int),gR ts pr q)=some o/\iU ts pr (lM ts L S n x q) (o.2,o.1)):
  ∃o,((r (gR ts pr (p.1+1,p.2)) d).bind fun B=>(lF N B.1 (4,0,iI ts L p.1,⟨#[]⟩,[(x:Int),B.2]) (aB ts p.1).2.2.2).bind fun D=>aJ f M (D.2,D.1))=some o/\iU ts pr (lM ts L S (n+1) x p) (o.2,o.1):=by
 have g:=A.next R (show(aB ts p.1).1≠5 by rw[qCk e];decide)
 obtain⟨o,K,c⟩:=t (p.1+1,p.2) g u
 obtain⟨M',rfl⟩:∃M',M=M'+1:=⟨M-1,by omega⟩
 have bad:∀(z:bJ) (i:Nat) (pr':List BA) (b:List Ex) (v:Int),z.2≠0->aJ f (M'+1) (v,bR ts z i pr' b)=some (v,bR ts z i pr' b):=by
  intro z i pr' b v a
  simp only[aJ,y z i pr' b v a,j0]
 simp only[K,j0,lM]
 rw[if_neg e]
 cases h:S (p.1+1,p.2) with
 |inl z=>
  rw[h] at c
  obtain⟨a,i,pr',b,hi,l⟩:=c
  simp only[l,aW]
  obtain⟨v,k⟩:=qCj (N:=N) (ts:=ts) (pr:=pr') (b:=b) (i:=i) a (4,0,iI ts L p.1,⟨#[]⟩,[(x:Int),o.2]) (aB ts p.1).2.2.2
  simp only[k,j0,bad _ _ _ _ _ a]
  exact⟨_,rfl,sB a hi⟩
 |inr q=>
  rw[h] at c
  obtain⟨⟨E,a,F,l⟩,f5⟩:=H (p.1+1,p.2) q.1 q.2 g u h
  have hr':o=(gR ts pr q.1,(q.2:Int)):=c
  simp only[hr',aW]
  obtain⟨v,k⟩:=qBq (N:=N) (ts:=ts) (pr:=pr) (aB ts p.1) (4,0,iI ts L p.1,⟨#[]⟩,[(x:Int),(q.2:Int)]) q.1 l
  simp only[k,j0]
  cases hn:iE (aB ts p.1) (4,0,iI ts L p.1,⟨#[]⟩,[(x:Int),(q.2:Int)]) q.1 with
  |inl z=>
   simp only[bad _ _ _ _ _ (RU hn)]
   exact⟨_,rfl,sB (RU hn) a⟩
  |inr s=>
   obtain⟨⟨V,Y,k3,Z⟩,k5⟩:=wB (ts:=ts) (p:=p) (r:=q.1) (by simp only at E;omega) a F l hn
   simp only[if_neg G]
   exact U s.2 s.1 Y V Z k5
theorem qEh{L n x:Nat}{p:Ps}(a:iI ts L p.1=0):iU ts pr (lM ts L S (n+1) x p) (gR ts pr p,(x:Int)):=by
 simp only[lM]
 rw[if_pos a]
 rfl
theorem QT(z:bJ)(i:Nat)(pr':List BA)(b:List Ex)(v:Int)(c:z.2≠0):tL N r d (v,bR ts z i pr' b)=some (.inr (v,bR ts z i pr' b)):=by
 have a:((bR ts z i pr' b).2.2.2.1==0)=false:=by simpa[bR] using c
 simp only[tL,a,jB,jF,Prod.eta]
theorem RR(z:bJ)(i:Nat)(pr':List BA)(b:List Ex)(v:Int)(c:z.2≠0):uH N r d (v,bR ts z i pr' b)=some (.inr (v,bR ts z i pr' b)):=by
 have a:((bR ts z i pr' b).2.2.2.1==0)=false:=by simpa[bR] using c
 simp only[uH,a,jB,jF,Prod.eta]
theorem WR(B:OkT ts)(k:ts.length<1000000)(D:lT ts S)
  (A:∀p:Ps,p.1<ts.length->p.2.length<=256->∃o,r (gR ts pr p) d=some o/\iU ts pr (S p) o)
  (u:∀(z:bJ) (i:Nat) (pr':List BA) (b:List Ex),z.2≠0->i<ts.length->∃v,r (bR ts z i pr' b) d=some (bR ts z i pr' b,v)):
  ∀(n M x:Nat) (p:Ps),p.1<ts.length->p.2.length<=256->x<p.2.length->ts.length<p.1+n->ts.length+1<p.1+M->
  ∃o,aJ (tL N r d) M ((x:Int),gR ts pr p)=some o/\iU ts pr (lM ts 3 S n x p) (o.2,o.1)
 |0,M,x,p,c,_,_,h,_=>by omega
 |n+1,0,x,p,c,_,_,_,h=>by omega
 |n+1,M+1,x,p,c,H,Y,V,U=>by
  have t:((gR ts pr p).2.2.2.1==0)=true:=rfl
  have K:∀(x:Nat) (q:Ps),q.1<ts.length->p.1<q.1->q.2.length<=256->x<q.2.length->∃o,aJ (tL N r d) M ((x:Int),gR ts pr q)=some o/\iU ts pr (lM ts 3 S n x q) (o.2,o.1):=
   fun x q F R a G=>WR B k D A u n M x q F a G (by omega) (by omega)
  have go:=fun E=>qEd (N:=N) (n:=n) (x:=x) B D A u (QT (N:=N) (r:=r) (d:=d)) c H (show 0<M by omega) (show 3≠1 by decide) E K
  have a:=op_3 (ts:=ts) (i:=p.1)
  rcases eO (bE ts 4 ⟨#[42]⟩ p.1) with e|e
  .simp only[e,jJ] at a
   obtain⟨o,l,s⟩:=go (by rw[a];decide)
   refine⟨o,Eq.trans ?_ l,s⟩
   simp only[aJ,tL,Prod.eta,t,jJ,mI p c,pP p c k,j0,e,a]
   cases r (gR ts pr (p.1+1,p.2)) d with
   |none=>rfl
   |some y=>simp only[j0];cases lF N y.1 (4,0,3,⟨#[]⟩,[(x:Int),y.2]) (aB ts p.1).2.2.2<;>rfl
  rcases eO (bE ts 4 ⟨#[47]⟩ p.1) with f|f
  .simp only[e,f,jJ,jB,jF] at a
   obtain⟨o,l,s⟩:=go (by rw[a];decide)
   refine⟨o,Eq.trans ?_ l,s⟩
   simp only[aJ,tL,Prod.eta,t,jJ,mI p c,pP p c k,j0,e,f,a,jB,jF]
   cases r (gR ts pr (p.1+1,p.2)) d with
   |none=>rfl
   |some y=>simp only[j0];cases lF N y.1 (4,0,4,⟨#[]⟩,[(x:Int),y.2]) (aB ts p.1).2.2.2<;>rfl
  rcases eO (bE ts 4 ⟨#[37]⟩ p.1) with g|g
  .simp only[e,f,g,jJ,jB,jF] at a
   obtain⟨o,l,s⟩:=go (by rw[a];decide)
   refine⟨o,Eq.trans ?_ l,s⟩
   simp only[aJ,tL,Prod.eta,t,jJ,mI p c,pP p c k,j0,e,f,g,a,jB,jF]
   cases r (gR ts pr (p.1+1,p.2)) d with
   |none=>rfl
   |some y=>simp only[j0];cases lF N y.1 (4,0,5,⟨#[]⟩,[(x:Int),y.2]) (aB ts p.1).2.2.2<;>rfl
  simp only[e,f,g,jB,jF] at a
  simp only[aJ,tL,Prod.eta,t,jJ,mI p c,pP p c k,j0,e,f,g,jB,jF]
  exact⟨_,rfl,qEh a⟩
theorem YI(s:OkT ts)(g:ts.length<1000000)(B:lT ts S)
  (l:∀p:Ps,p.1<ts.length->p.2.length<=256->∃o,r (gR ts pr p) d=some o/\iU ts pr (S p) o)
  (k:∀(z:bJ) (i:Nat) (pr':List BA) (b:List Ex),z.2≠0->i<ts.length->∃v,r (bR ts z i pr' b) d=some (bR ts z i pr' b,v)):
  ∀(n M x:Nat) (p:Ps),p.1<ts.length->p.2.length<=256->x<p.2.length->ts.length<p.1+n->ts.length+1<p.1+M->
  ∃o,aJ (uH N r d) M ((x:Int),gR ts pr p)=some o/\iU ts pr (lM ts 2 S n x p) (o.2,o.1)
 |0,M,x,p,c,_,_,h,_=>by omega
 |n+1,0,x,p,c,_,_,_,h=>by omega
 |n+1,M+1,x,p,c,G,V,U,R=>by
  have t:((gR ts pr p).2.2.2.1==0)=true:=rfl
  have H:∀(x:Nat) (q:Ps),q.1<ts.length->p.1<q.1->q.2.length<=256->x<q.2.length->∃o,aJ (uH N r d) M ((x:Int),gR ts pr q)=some o/\iU ts pr (lM ts 2 S n x q) (o.2,o.1):=
   fun x q E K a F=>YI s g B l k n M x q E a F (by omega) (by omega)
  have go:=fun D=>qEd (N:=N) (n:=n) (x:=x) s B l k (RR (N:=N) (r:=r) (d:=d)) c G (show 0<M by omega) (show 2≠1 by decide) D H
  have a:=op_2 (ts:=ts) (i:=p.1)
  rcases eO (bE ts 4 ⟨#[43]⟩ p.1) with e|e
  .simp only[e,jJ] at a
   obtain⟨o,u,A⟩:=go (by rw[a];decide)
   refine⟨o,Eq.trans ?_ u,A⟩
   simp only[aJ,uH,Prod.eta,t,jJ,mI p c,pP p c g,j0,e,a]
   cases r (gR ts pr (p.1+1,p.2)) d with
   |none=>rfl
   |some y=>simp only[j0];cases lF N y.1 (4,0,1,⟨#[]⟩,[(x:Int),y.2]) (aB ts p.1).2.2.2<;>rfl
  rcases eO (bE ts 4 ⟨#[45]⟩ p.1) with f|f
  .simp only[e,f,jJ,jB,jF] at a
   obtain⟨o,u,A⟩:=go (by rw[a];decide)
   refine⟨o,Eq.trans ?_ u,A⟩
   simp only[aJ,uH,Prod.eta,t,jJ,mI p c,pP p c g,j0,e,f,a,jB,jF]
   cases r (gR ts pr (p.1+1,p.2)) d with
   |none=>rfl
   |some y=>simp only[j0];cases lF N y.1 (4,0,2,⟨#[]⟩,[(x:Int),y.2]) (aB ts p.1).2.2.2<;>rfl
  simp only[e,f,jB,jF] at a
  simp only[aJ,uH,Prod.eta,t,jJ,mI p c,pP p c g,j0,e,f,jB,jF]
  exact⟨_,rfl,qEh a⟩
theorem qVk(k:OkT ts)(u:ts.length<1000000)(B:1000002<N)(e:lT ts S)
  (c:∀p:Ps,p.1<ts.length->p.2.length<=256->∃o,r1 (gR ts pr p) d=some o/\iU ts pr (S p) o)
  (h1b:∀(z:bJ) (i:Nat) (pr':List BA) (b:List Ex),z.2≠0->i<ts.length->∃v,r1 (bR ts z i pr' b) d=some (bR ts z i pr' b,v))
  (p:Ps) (l:p.1<ts.length) (f:p.2.length<=256):∃o,yR N r1 r2 r3 r4 (gR ts pr p) d=some o/\iU ts pr (nI ts 3 S p) o:=by
 obtain⟨o,x,a⟩:=c p l f
 simp only[yR,Prod.eta,x,j0,nI]
 cases h:S p with
 |inl z=>
  rw[h] at a
  obtain⟨n,i,pr',b,hi,g⟩:=a
  obtain⟨M,rfl⟩:∃M,N=M+1:=⟨N-1,by omega⟩
  simp only[g,aW,aJ,QT z i pr' b _ n,j0]
  exact⟨_,rfl,sB n hi⟩
 |inr q=>
  rw[h] at a
  obtain⟨⟨y,r,A,s⟩,t⟩:=e p q.1 q.2 l f h
  have hr':o=(gR ts pr q.1,(q.2:Int)):=a
  obtain⟨o2,g,n⟩:=WR (N:=N) k u e c h1b (ts.length+1) N q.2 q.1 r s t (by omega) (by omega)
  simp only[hr',aW,g,j0]
  exact⟨_,rfl,n⟩
theorem qSk(h1b:∀(z:bJ) (i:Nat) (pr':List BA) (b:List Ex),z.2≠0->i<ts.length->∃v,r1 (bR ts z i pr' b) d=some (bR ts z i pr' b,v))(e:0<N)
  (z:bJ) (i:Nat) (pr':List BA) (b:List Ex) (a:z.2≠0) (hi:i<ts.length):∃v,yR N r1 r2 r3 r4 (bR ts z i pr' b) d=some (bR ts z i pr' b,v):=by
 obtain⟨v,c⟩:=h1b z i pr' b a hi
 obtain⟨M,rfl⟩:∃M,N=M+1:=⟨N-1,by omega⟩
 simp only[yR,Prod.eta,c,j0,aJ,QT z i pr' b _ a]
 exact⟨_,rfl⟩
theorem rsum(k:OkT ts)(u:ts.length<1000000)(B:1000002<N)(e:lT ts S)
  (c:∀p:Ps,p.1<ts.length->p.2.length<=256->∃o,r2 (gR ts pr p) d=some o/\iU ts pr (S p) o)
  (h2b:∀(z:bJ) (i:Nat) (pr':List BA) (b:List Ex),z.2≠0->i<ts.length->∃v,r2 (bR ts z i pr' b) d=some (bR ts z i pr' b,v))
  (p:Ps) (l:p.1<ts.length) (f:p.2.length<=256):∃o,yT N r1 r2 r3 r4 (gR ts pr p) d=some o/\iU ts pr (nI ts 2 S p) o:=by
 obtain⟨o,x,a⟩:=c p l f
 simp only[yT,Prod.eta,x,j0,nI]
 cases h:S p with
 |inl z=>
  rw[h] at a
  obtain⟨n,i,pr',b,hi,g⟩:=a
  obtain⟨M,rfl⟩:∃M,N=M+1:=⟨N-1,by omega⟩
  simp only[g,aW,aJ,RR z i pr' b _ n,j0]
  exact⟨_,rfl,sB n hi⟩
 |inr q=>
  rw[h] at a
  obtain⟨⟨y,r,A,s⟩,t⟩:=e p q.1 q.2 l f h
  have hr':o=(gR ts pr q.1,(q.2:Int)):=a
  obtain⟨o2,g,n⟩:=YI (N:=N) k u e c h2b (ts.length+1) N q.2 q.1 r s t (by omega) (by omega)
  simp only[hr',aW,g,j0]
  exact⟨_,rfl,n⟩
theorem qTi(h2b:∀(z:bJ) (i:Nat) (pr':List BA) (b:List Ex),z.2≠0->i<ts.length->∃v,r2 (bR ts z i pr' b) d=some (bR ts z i pr' b,v))(e:0<N)
  (z:bJ) (i:Nat) (pr':List BA) (b:List Ex) (a:z.2≠0) (hi:i<ts.length):∃v,yT N r1 r2 r3 r4 (bR ts z i pr' b) d=some (bR ts z i pr' b,v):=by
 obtain⟨v,c⟩:=h2b z i pr' b a hi
 obtain⟨M,rfl⟩:∃M,N=M+1:=⟨N-1,by omega⟩
 simp only[yT,Prod.eta,c,j0,aJ,RR z i pr' b _ a]
 exact⟨_,rfl⟩
theorem qQv(z:bJ)(i:Nat)(pr':List BA)(b:List Ex)(a:z.2≠0)(hi:i<ts.length):vN N r1 r2 r3 r4 (bR ts z i pr' b) d=some (bR ts z i pr' b,0):=by
 have c:((bR ts z i pr' b).2.2.2.1 !=0)=true:=by simpa[bR] using a
 simp only[vN,Prod.eta,rN hi,j0,sC a]
 have:((if decide (d>32)=true then some (bR ts z i pr' b) else some (bR ts z i pr' b)):Option RT)=some (bR ts z i pr' b):=by split<;>rfl
 simp only[this,j0,c,jJ]
theorem qRb(c:d>32)(p:Ps)(a:p.1<ts.length):∃o,vN N r1 r2 r3 r4 (gR ts pr p) d=some o/\iU ts pr (bZ ts pr 0 p) o:=by
 have hd':decide (d>32)=true:=by simpa using c
 simp only[vN,Prod.eta,mI p a,j0,hd',jJ,pD]
 have b:((bR ts ((aB ts p.1).2.2.2,2) p.1 pr p.2).2.2.2.1 !=0)=true:=by rfl
 simp only[b,jJ]
 exact⟨_,rfl,sB (show(2:Int)≠0 by decide) a⟩
theorem qVf{k:Nat}(A:OkT ts)(F:ts.length<1000000)(hd:d+k=32)(S:lT ts (bZ ts pr k))(hS:lT ts (uB ts pr (bZ ts pr k)))
  (H:∀p:Ps,p.1<ts.length->p.2.length<=256->∃o,r4 (gR ts pr p) (IntKind.wrap .i64 (d+1))=some o/\iU ts pr (bZ ts pr k p) o)
  (u:∀(z:bJ) (i:Nat) (pr':List BA) (b:List Ex),z.2≠0->i<ts.length->∃v,r4 (bR ts z i pr' b) (IntKind.wrap .i64 (d+1))=some (bR ts z i pr' b,v))
  (Z:∀p:Ps,p.1<ts.length->p.2.length<=256->∃o,r3 (gR ts pr p) d=some o/\iU ts pr (uB ts pr (bZ ts pr k) p) o)
  (h3b:∀(z:bJ) (i:Nat) (pr':List BA) (b:List Ex),z.2≠0->i<ts.length->∃v,r3 (bR ts z i pr' b) d=some (bR ts z i pr' b,v))
  (p:Ps) (K:p.1<ts.length) (M:p.2.length<=256):∃o,vN N r1 r2 r3 r4 (gR ts pr p) d=some o/\iU ts pr (bZ ts pr (k+1) p) o:=by
 have hd':decide (d>32)=false:=jY (by omega)
 have g0:((gR ts pr p).2.2.2.1 !=0)=false:=rfl
 simp only[vN,Prod.eta,mI p K,j0,hd',jB,jF,g0,qX p K F,bZ]
 rcases eO (bE ts 1 pJ p.1) with s|s
 rotate_left
 .have c1':bE ts 1 ⟨#[105,102]⟩ p.1=false:=s
  simp only[s,c1',jB,jF]
  obtain⟨o,ho,G⟩:=Z p K M
  simp only[ho,j0,AH,nI]
  cases h:uB ts pr (bZ ts pr k) p with
  |inl z=>
   rw[h] at G
   obtain⟨e,i,pr',b,hi,l⟩:=G
   simp only[l,rN hi,MO e,j0,jB,jF,aW]
   exact⟨_,rfl,sB e hi⟩
  |inr q=>
   rw[h] at G
   obtain⟨⟨f1,B,f3,U⟩,f5⟩:=hS p q.1 q.2 K M h
   have hr':o=(gR ts pr q.1,(q.2:Int)):=G
   simp only[hr',mI q.1 B,pP q.1 B F,j0,aW,lM]
   have go:∀op,op≠0->iI ts 1 q.1.1=op->∃o,((r3 (gR ts pr (q.1.1+1,q.1.2)) d).bind fun R=>(lF N R.1 (4,0,op,⟨#[]⟩,[(q.2:Int),R.2]) (aB ts q.1.1).2.2.2).bind fun Y=>some Y)=some o/\
     iU ts pr (if iI ts 1 q.1.1=0 then .inr (q.1,q.2) else aW (uB ts pr (bZ ts pr k) (q.1.1+1,q.1.2)) fun a=>aW (iE (aB ts q.1.1) (4,0,iI ts 1 q.1.1,⟨#[]⟩,[(q.2:Int),(a.2:Int)]) a.1) fun r=> .inr r) o:=by
    intro op n t
    have g:=A.next B (show(aB ts q.1.1).1≠5 by rw[qCk (L:=1) (by rw[t];exact n)];decide)
    obtain⟨o2,E,f⟩:=Z (q.1.1+1,q.1.2) g U
    rw[t,if_neg n]
    simp only[E,j0,qG]
    cases h2:uB ts pr (bZ ts pr k) (q.1.1+1,q.1.2) with
    |inl z=>
     rw[h2] at f
     obtain⟨e,i,pr',b,hi,l⟩:=f
     simp only[l,aW]
     exact DQ e hi _ _
    |inr a=>
     rw[h2] at f
     obtain⟨⟨j1,j2,j3,j4⟩,j5⟩:=hS (q.1.1+1,q.1.2) a.1 a.2 g U h2
     have hr2':o2=(gR ts pr a.1,(a.2:Int)):=f
     simp only[hr2',aW]
     obtain⟨o3,V,D⟩:=AD (N:=N) (pr:=pr) (aB ts q.1.1) (4,0,op,⟨#[]⟩,[(q.2:Int),(a.2:Int)]) a.1 j2 j4
     refine⟨o3,V,?_⟩
     cases hn:iE (aB ts q.1.1) (4,0,op,⟨#[]⟩,[(q.2:Int),(a.2:Int)]) a.1<;>rw[hn] at D<;>exact D
   have t:=op_1 (ts:=ts) (i:=q.1.1)
   rcases eO (bE ts 4 ⟨#[60]⟩ q.1.1) with f|f
   .simp only[f,jJ] at t
    obtain⟨o4,D,E⟩:=go 6 (by decide) t
    simp only[f,jJ,j0]
    exact⟨o4,D,by simpa only[aW] using E⟩
   rcases eO (bE ts 4 ⟨#[61,61]⟩ q.1.1) with n|n
   .simp only[f,n,jJ,jB,jF] at t
    obtain⟨o4,D,E⟩:=go 7 (by decide) t
    simp only[f,n,jJ,j0,jB,jF,pP q.1 B F]
    exact⟨o4,D,by simpa only[aW] using E⟩
   simp only[f,n,jB,jF] at t
   simp only[f,n,j0,jB,jF,pP q.1 B F]
   rw[if_pos t]
   exact⟨_,rfl,rfl⟩
 have c1':bE ts 1 ⟨#[105,102]⟩ p.1=true:=s
 have g:=mG A K (by decide) s
 simp only[s,c1',jJ]
 -- behind an error
 have badN:∀{z:bJ} {i:Nat} {pr':List BA} {b:List Ex} (x y w:Int),z.2≠0->i<ts.length->∃o,((lF N (bR ts z i pr' b) (5,0,0,⟨#[]⟩,[x,y,w]) (aB ts p.1).2.2.2).bind fun b6=>some b6)=some o/\iU ts pr (.inl z) o:=by
  intro z i pr' b x y w e hi
  simp only[qG]
  exact DQ e hi _ _
 have nf:∀b:Bool,(if(!b)=true then(0:Nat) else 1)=if b=true then 1 else 0:=by intro b;cases b<;>rfl
 obtain⟨oa,a7,B⟩:=H (p.1+1,p.2) g M
 simp only[a7,j0]
 cases ha:bZ ts pr k (p.1+1,p.2) with
 |inl z=>
  rw[ha] at B
  obtain⟨e,i,pr',b,hi,l⟩:=B
  obtain⟨v,t⟩:=u z i pr' b e hi
  simp only[l,RQ e,j0,kP,jJ,rN hi,sC e,t,aW]
  exact badN _ _ _ e hi
 |inr a=>
  rw[ha] at B
  obtain⟨⟨a1,E,a3,R⟩,a5⟩:=S (p.1+1,p.2) a.1 a.2 g M ha
  have hra':oa=(gR ts pr a.1,(a.2:Int)):=B
  have b0:oL ts sThen a.1.1=if bE ts 1 ⟨#[116,104,101,110]⟩ a.1.1=true then .inr (a.1.1+1) else cV (aB ts a.1.1) 9:=rfl
  simp only[hra',qX a.1 E F,j0,aW,b0]
  rcases eO (bE ts 1 ⟨#[116,104,101,110]⟩ a.1.1) with f|f
  rotate_left
  .have e:(((aB ts a.1.1).2.2.2,(9:Int)):bJ).2≠0:=show(9:Int)≠0 by decide
   obtain⟨v,t⟩:=u ((aB ts a.1.1).2.2.2,9) a.1.1 pr a.1.2 e E
   simp only[f,jB,jF,kP,jJ,mI a.1 E,pD,j0,t,RQ e,rN E,sC e,cV]
   exact badN _ _ _ e E
  have V:=mG A E (by decide) f
  obtain⟨ob,a8,D⟩:=H (a.1.1+1,a.1.2) V R
  simp only[f,jJ,kU,jB,jF,j0,a8]
  cases hb1:bZ ts pr k (a.1.1+1,a.1.2) with
  |inl z=>
   rw[hb1] at D
   obtain⟨e,i,pr',b,hi,l⟩:=D
   obtain⟨v,t⟩:=u z i pr' b e hi
   simp only[l,RQ e,j0,kP,jJ,rN hi,sC e,t]
   exact badN _ _ _ e hi
  |inr b=>
   rw[hb1] at D
   obtain⟨⟨b1,G,b3,U⟩,b5⟩:=S (a.1.1+1,a.1.2) b.1 b.2 V R hb1
   have hrb':ob=(gR ts pr b.1,(b.2:Int)):=D
   have a6:oL ts sElse b.1.1=if bE ts 1 ⟨#[101,108,115,101]⟩ b.1.1=true then .inr (b.1.1+1) else cV (aB ts b.1.1) 9:=rfl
   simp only[hrb',qX b.1 G F,j0,a6]
   rcases eO (bE ts 1 ⟨#[101,108,115,101]⟩ b.1.1) with n|n
   rotate_left
   .have e:(((aB ts b.1.1).2.2.2,(9:Int)):bJ).2≠0:=show(9:Int)≠0 by decide
    obtain⟨v,t⟩:=u ((aB ts b.1.1).2.2.2,9) b.1.1 pr b.1.2 e G
    simp only[n,jB,jF,kP,jJ,mI b.1 G,pD,j0,t,cV]
    exact badN _ _ _ e G
   have Y:=mG A G (by decide) n
   obtain⟨oc,a9,t⟩:=H (b.1.1+1,b.1.2) Y U
   simp only[n,jJ,kU,jB,jF,j0,a9]
   cases hc1:bZ ts pr k (b.1.1+1,b.1.2) with
   |inl z=>
    rw[hc1] at t
    obtain⟨e,i,pr',b',hi,l⟩:=t
    simp only[l]
    exact badN _ _ _ e hi
   |inr c=>
    rw[hc1] at t
    obtain⟨⟨s,f,n,e⟩,l⟩:=S (b.1.1+1,b.1.2) c.1 c.2 Y U hc1
    have hrc':oc=(gR ts pr c.1,(c.2:Int)):=t
    simp only[hrc',qG]
    exact AD (N:=N) (pr:=pr) (aB ts p.1) (5,0,0,⟨#[]⟩,[(a.2:Int),(b.2:Int),(c.2:Int)]) c.1 f e
end
section
variable {N:Nat} {ts:List bB} {pr:List BA}
theorem QM(D:Nat)(c:1<=D)(d:Int)(z:bJ)(i:Nat)(pr':List BA)(b:List Ex)(a:z.2≠0)(hi:i<ts.length):∃v,(iR N D).2.2.2 (bR ts z i pr' b) d=some (bR ts z i pr' b,v):=by
 obtain⟨D',rfl⟩:∃D',D=D'+1:=⟨D-1,by omega⟩
 simp only[iR]
 exact⟨_,qQv z i pr' b a hi⟩
theorem WX(D:Nat)(c:1<=D)(d:Int)(z:bJ)(i:Nat)(pr':List BA)(b:List Ex)(a:z.2≠0)(hi:i<ts.length):∃v,(iR N D).1 (bR ts z i pr' b) d=some (bR ts z i pr' b,v):=by
 obtain⟨D',rfl⟩:∃D',D=D'+1:=⟨D-1,by omega⟩
 simp only[iR]
 exact⟨_,qMl a hi⟩
theorem qAf(c:0<N)(D:Nat)(e:2<=D)(d:Int)(z:bJ)(i:Nat)(pr':List BA)(b:List Ex)(a:z.2≠0)(hi:i<ts.length):∃v,(iR N D).2.1 (bR ts z i pr' b) d=some (bR ts z i pr' b,v):=by
 obtain⟨D',rfl⟩:∃D',D=D'+1:=⟨D-1,by omega⟩
 simp only[iR]
 exact qSk (fun z i pr' b a hi=>WX D' (by omega) d z i pr' b a hi) c z i pr' b a hi
theorem qSl(c:0<N)(D:Nat)(e:3<=D)(d:Int)(z:bJ)(i:Nat)(pr':List BA)(b:List Ex)(a:z.2≠0)(hi:i<ts.length):∃v,(iR N D).2.2.1 (bR ts z i pr' b) d=some (bR ts z i pr' b,v):=by
 obtain⟨D',rfl⟩:∃D',D=D'+1:=⟨D-1,by omega⟩
 simp only[iR]
 exact qTi (fun z i pr' b a hi=>qAf c D' (by omega) d z i pr' b a hi) c z i pr' b a hi
theorem qBv(a:OkT ts)(g:ts.length<1000000)(n:pr.length<1000)(l:1000002<N):∀(k D:Nat),k<=32->4*k+1<=D->∀p:Ps,p.1<ts.length->p.2.length<=256->
  ∃o,(iR N D).2.2.2 (gR ts pr p) (33-(k:Int))=some o/\iU ts pr (bZ ts pr k p) o
 |0,0,_,h,_,_,_=>by omega
 |0,D+1,_,_,p,c,_=>by simp only[iR];exact qRb (by omega) p c
 |k+1,D,A,f,p,c,d=>by
  have q:=uR (ts:=ts) (params:=pr) a k
  have s:=PC (params:=pr) a q
  have t:lT ts (EJ ts pr (bZ ts pr k)):=zW a s
  have y:lT ts (uB ts pr (bZ ts pr k)):=zW a t
  have r:∀D,4*k+1<=D->∀p:Ps,p.1<ts.length->p.2.length<=256->∃o,(iR N D).2.2.2 (gR ts pr p) (IntKind.wrap .i64 (32-(k:Int)+1))=some o/\iU ts pr (bZ ts pr k p) o:=by
   intro D f p c d
   rw[bT (by omega) (by omega),show 32-(k:Int)+1=33-(k:Int) by omega]
   exact qBv a g n l k D (by omega) f p c d
  have u:∀D,4*k+2<=D->∀p:Ps,p.1<ts.length->p.2.length<=256->∃o,(iR N D).1 (gR ts pr p) (32-(k:Int))=some o/\iU ts pr (lL ts pr (bZ ts pr k) p) o:=by
   intro D f p c d
   obtain⟨D',rfl⟩:∃D',D=D'+1:=⟨D-1,by omega⟩
   simp only[iR]
   exact qRj (r D' (by omega)) (fun z i pr' b e hi=>QM D' (by omega) _ z i pr' b e hi) a g n l q p c d
  have v:∀D,4*k+3<=D->∀p:Ps,p.1<ts.length->p.2.length<=256->∃o,(iR N D).2.1 (gR ts pr p) (32-(k:Int))=some o/\iU ts pr (EJ ts pr (bZ ts pr k) p) o:=by
   intro D f p c d
   obtain⟨D',rfl⟩:∃D',D=D'+1:=⟨D-1,by omega⟩
   simp only[iR]
   exact qVk a g l s (u D' (by omega)) (fun z i pr' b e hi=>WX D' (by omega) _ z i pr' b e hi) p c d
  have x:∀D,4*k+4<=D->∀p:Ps,p.1<ts.length->p.2.length<=256->∃o,(iR N D).2.2.1 (gR ts pr p) (32-(k:Int))=some o/\iU ts pr (uB ts pr (bZ ts pr k) p) o:=by
   intro D f p c d
   obtain⟨D',rfl⟩:∃D',D=D'+1:=⟨D-1,by omega⟩
   simp only[iR]
   exact rsum a g l t (v D' (by omega)) (fun z i pr' b e hi=>qAf (by omega) D' (by omega) _ z i pr' b e hi) p c d
  obtain⟨D',rfl⟩:∃D',D=D'+1:=⟨D-1,by omega⟩
  rw[show(33:Int)-((k+1:Nat):Int)=32-(k:Int) by omega]
  simp only[iR]
  exact qVf a g (by omega) q y (r D' (by omega)) (fun z i pr' b e hi=>QM D' (by omega) _ z i pr' b e hi) (x D' (by omega)) (fun z i pr' b e hi=>qSl (by omega) D' (by omega) _ z i pr' b e hi) p c d
theorem qNl(a:OkT ts)(e:ts.length<1000000)(b:pr.length<1000)(c:1000002<N)(p:Ps)(f:p.1<ts.length)(d:p.2.length<=256):
 ∃o,xA N (gR ts pr p) 1=some o/\iU ts pr (bZ ts pr 32 p) o:=qBv a e b c 32 N (by omega) (by omega) p f d
theorem PX(a:1<=N)(z:bJ)(i:Nat)(pr':List BA)(b:List Ex)(c:z.2≠0)(hi:i<ts.length):∃v,xA N (bR ts z i pr' b) 1=some (bR ts z i pr' b,v):=QM N a 1 z i pr' b c hi
abbrev RL:=List bB×Int×Int×Int×List BA×List Ex×List Int×List BA
def bO(st:RT)(l:List BA):RL:=(st.1,st.2.1,st.2.2.1,st.2.2.2.1,st.2.2.2.2.1,st.2.2.2.2.2.1,st.2.2.2.2.2.2,l)
def IN(ts:List bB)(n:Nat)(l:List BA)(i:Nat):bJ⊕(Nat×List BA):=
 if bE ts 4 sComma i then qB ts n l (i+1) else aW (cC ts sClose i) fun j=> .inr (j,l)
theorem qLq(n:Nat)(l:List BA)(i:Nat):qB ts (n+1) l i=aW (lN ts i) fun a=>if l.length=8 then cV a.2 2 else if a.2.2.1∈l then cV a.2 10 else IN ts n (l++[a.2.2.1]) a.1:=rfl
def ET(ts:List bB)(pr:List BA)(b:List Ex)(r:bJ⊕(Nat×List BA))(o:RL):Prop:=
 match r with
 | .inl z=>∃st l,tF ts z st/\o=bO st l
 | .inr q=>o=bO (gR ts pr (q.1,b)) q.2
theorem HF{z:bJ}{i:Nat}{pr':List BA}{b:List Ex}(a:z.2≠0)(M:Nat)(l:List BA):aJ (oC N) (M+1) (bO (bR ts z i pr' b) l)=some (bO (bR ts z i pr' b) l):=by
 have hz':((bO (bR ts z i pr' b) l).2.2.2.1==0)=false:=by simpa[bR,bO] using a
 simp only[aJ,oC,hz',jB,jF,j0]
theorem XC(A:ts.length<1000000)(E:1000002<N){i:Nat}{b:List Ex}{l:List BA}(hi:i<ts.length)(D:l.length<=8){G:RL->Option RL}{n:Nat}
  (f:∀(z:bJ) (i:Nat) (pr':List BA) (b:List Ex) (l:List BA),z.2≠0->G (bO (bR ts z i pr' b) l)=some (bO (bR ts z i pr' b) l))
  (u:OkT ts)
  (B:∀(s:BA),i+1<ts.length->l.length<8->∃o,G (bO (gR ts pr (i+1,b)) (l++[s]))=some o/\ET ts pr b (IN ts n (l++[s]) (i+1)) o):
  ∃o,((iJ N (gR ts pr (i,b))).bind fun k=>(nP N k.1).bind fun d=>(if((l.length:Int)==8)=true then((iS N d.1 k.2.2.2.2 2).bind fun v=>some v) else(some d.1):Option RT).bind fun r=>(rF N l d.2).bind fun p=>(if p=true then((iS N r k.2.2.2.2 10).bind fun y=>some y) else(some r):Option RT).bind fun h=>(cU 16 l ([d.2])).bind fun t=>G (bO h t))=some o/\
   ET ts pr b (qB ts (n+1) l i) o:=by
 rw[qLq]
 simp only[mI (i,b) hi,j0,DR (i,b) hi A (by omega:100<N),qG]
 have c:∀s:BA,cU 16 l [s]=some (l++[s]):=fun s=>nQ (by simp only[jC,jE];omega) (by omega)
 have g:∀s,rF N l s=some (decide (s∈l)):=fun s=>TX (by omega) (by omega)
 -- behind an error
 have q:∀(z:bJ) (i:Nat) (pr':List BA) (b':List Ex) (s:BA) (a:Int),z.2≠0->i<ts.length->∃o,((rF N l s).bind fun p=>(if p=true then iS N (bR ts z i pr' b') a 10 else(some (bR ts z i pr' b')):Option RT).bind fun h=>(cU 16 l ([s])).bind fun t=>G (bO h t))=some o/\ET ts pr b (.inl z) o:=by
  intro z i pr' b' s a e hi
  simp only[g,j0,sC e]
  have:((if decide (s∈l)=true then some (bR ts z i pr' b') else some (bR ts z i pr' b')):Option RT)=some (bR ts z i pr' b'):=by split<;>rfl
  simp only[this,j0,c,f _ _ _ _ _ e]
  exact⟨_,rfl,bR ts z i pr' b',_,⟨e,i,pr',b',hi,rfl⟩,rfl⟩
 cases hx:lN ts i with
 |inl z=>
  have e:=MG hx
  have:((if((l.length:Int)==8)=true then iS N (bR ts z i pr b) (aB ts i).2.2.2 2 else some (bR ts z i pr b)):Option RT)=some (bR ts z i pr b):=by
   rw[sC e];split<;>rfl
  simp only[this,j0,aW]
  exact q z i pr b _ _ e hi
 |inr x=>
  obtain⟨rfl,e,-⟩:=sA u hi hx
  simp only[aW]
  by_cases k1:l.length=8
  .have k1':((l.length:Int)==8)=true:=by simp;omega
   rw[if_pos k1]
   simp only[k1',jJ,pD,j0,cV]
   exact q _ _ _ _ _ _ (show(2:Int)≠0 by decide) e
  have k1':((l.length:Int)==8)=false:=by simp;omega
  rw[if_neg k1]
  simp only[k1',jB,jF,j0,g]
  by_cases k2:(aB ts i).2.1∈l
  .rw[if_pos k2]
   simp only[jV k2,jJ,pD,j0,c,cV]
   refine⟨_,f _ _ _ _ _ (show(10:Int)≠0 by decide),bR ts ((aB ts i).2.2.2,10) (i+1) pr b,_,⟨show(10:Int)≠0 by decide,i+1,pr,b,e,rfl⟩,rfl⟩
  rw[if_neg k2]
  simp only[jY k2,jB,jF,j0,c]
  exact B _ e (by omega)
theorem qJz(x:1000002<N){b:List Ex}{l:List BA}(v:l.length<=8){G:RL->Option RL}
  (g:∀(z:bJ) (i:Nat) (pr':List BA) (b:List Ex) (l:List BA),z.2≠0->G (bO (bR ts z i pr' b) l)=some (bO (bR ts z i pr' b) l))
  {z:bJ} {i:Nat} {pr':List BA} {b':List Ex} (d:z.2≠0) (hi:i<ts.length):
  ∃o,((iJ N (bR ts z i pr' b')).bind fun c=>(nP N c.1).bind fun a=>(if((l.length:Int)==8)=true then((iS N a.1 c.2.2.2.2 2).bind fun n=>some n) else(some a.1):Option RT).bind fun e=>(rF N l a.2).bind fun p=>(if p=true then((iS N e c.2.2.2.2 10).bind fun q=>some q) else(some e):Option RT).bind fun k=>(cU 16 l ([a.2])).bind fun u=>G (bO k u))=some o/\
   ET ts pr b (.inl z) o:=by
 have f:∀s:BA,cU 16 l [s]=some (l++[s]):=fun s=>nQ (by simp only[jC,jE];omega) (by omega)
 have h:∀s,rF N l s=some (decide (s∈l)):=fun s=>TX (by omega) (by omega)
 have r:((if((l.length:Int)==8)=true then some (bR ts z i pr' b') else some (bR ts z i pr' b')):Option RT)=some (bR ts z i pr' b'):=by split<;>rfl
 have t:((if decide ((⟨#[]⟩:BA)∈l)=true then some (bR ts z i pr' b') else some (bR ts z i pr' b')):Option RT)=some (bR ts z i pr' b'):=by split<;>rfl
 simp only[rN hi,j0,MS d hi,qG,sC d,r,h,t,f,g _ _ _ _ _ d]
 exact⟨_,rfl,bR ts z i pr' b',_,⟨d,i,pr',b',hi,rfl⟩,rfl⟩
theorem VW(d:OkT ts)(e:ts.length<1000000)(k:1000002<N){b:List Ex}:∀(n M:Nat) (l:List BA) (i:Nat),l≠[]->i<ts.length->l.length<=8->ts.length<i+n->ts.length+2<i+M->
  ∃o,aJ (oC N) M (bO (gR ts pr (i,b)) l)=some o/\ET ts pr b (IN ts n l i) o
 |0,M,l,i,_,hi,_,h,_=>by omega
 |n+1,0,l,i,_,hi,_,_,h=>by omega
 |n+1,M+1,l,i,v,hi,f,H,F=>by
  have D:=pP (N:=N) (pr:=pr) (i,b) hi e ⟨#[41]⟩
  have q:decide ((l.length:Int)>0)=true:=by
   have:=fE.2 v
   exact jV (by omega)
  have A:((bO (gR ts pr (i,b)) l).2.2.2.1==0)=true:=rfl
  have x:∀st:RT,∀l,((bO st l).1,(bO st l).2.1,(bO st l).2.2.1,(bO st l).2.2.2.1,(bO st l).2.2.2.2.1,(bO st l).2.2.2.2.2.1,(bO st l).2.2.2.2.2.2.1)=st:=fun _ _=>rfl
  have y:∀st:RT,∀l,(bO st l).2.2.2.2.2.2.2=l:=fun _ _=>rfl
  simp only[aJ,oC,A,jJ,x,y,D,j0,q]
  rcases eO (bE ts 4 ⟨#[41]⟩ i) with a|a
  .simp only[a,jJ,kU,jB,jF]
   refine⟨_,rfl,?_⟩
   have c:bE ts 4 sComma i=false:=by
    simp only[bE,jI,j9] at a
    simp[bE,a.2,sComma]
   have p:cC ts sClose i= .inr (i+1):=by simp[cC,sClose,a]
   simp only[IN,c,jB,jF,p,aW]
   rfl
  have u:bE ts 4 sComma i=bE ts 4 ⟨#[44]⟩ i:=rfl
  simp only[a,jB,jF,kP,jJ,Prod.eta,sD (i,b) hi e,j0,IN,u,cC]
  rcases eO (bE ts 4 ⟨#[44]⟩ i) with c|c
  .have g:=mG d hi (by decide) c
   simp only[c,jJ]
   obtain⟨o,p,r⟩:=XC (N:=N) (pr:=pr) (b:=b) (l:=l) (n:=n) (G:=aJ (oC N) M) e k g f (fun z i pr' b l t=>by
    obtain⟨M',rfl⟩:∃M',M=M'+1:=⟨M-1,by omega⟩
    exact HF t M' l) d (fun s B E=>VW d e k n M (l++[s]) (i+1+1) (by simp) B (by simp only[jA,jC,jE];omega) (by omega) (by omega))
   refine⟨o,Eq.trans ?_ p,r⟩
   simp only[fL,j0]
   rfl
  have c1':bE ts 4 sClose i=false:=a
  simp only[c,c1',jB,jF,cV,aW]
  obtain⟨o,p,r⟩:=qJz (N:=N) (pr:=pr) (b:=b) (l:=l) (z:=((aB ts i).2.2.2,9)) (i:=i) (pr':=pr) (b':=b) (G:=aJ (oC N) M) k f (fun z i pr' b l t=>by
   obtain⟨M',rfl⟩:∃M',M=M'+1:=⟨M-1,by omega⟩
   exact HF t M' l) (show(9:Int)≠0 by decide) hi
  refine⟨o,Eq.trans ?_ p,r⟩
  simp only[fL,j0]
  rfl
theorem qRg(a:OkT ts)(d:ts.length<1000000)(x:1000005<N){b:List Ex}(i:Nat)(hi:i<ts.length):
  ∃o,aJ (oC N) N (bO (gR ts pr (i,b)) [])=some o/\ET ts pr b (if bE ts 4 sClose i then .inr (i+1,[]) else qB ts (ts.length+1) [] i) o:=by
 obtain⟨M,hM⟩:∃M,N=M+1:=⟨N-1,by omega⟩
 have t:=pP (N:=N) (pr:=pr) (i,b) hi d ⟨#[41]⟩
 have k:((bO (gR ts pr (i,b)) []).2.2.2.1==0)=true:=rfl
 have e:decide ((([]:List BA).length:Int)>0)=false:=rfl
 have g:∀st:RT,∀l,((bO st l).1,(bO st l).2.1,(bO st l).2.2.1,(bO st l).2.2.2.1,(bO st l).2.2.2.2.1,(bO st l).2.2.2.2.2.1,(bO st l).2.2.2.2.2.2.1)=st:=fun _ _=>rfl
 have h:∀st:RT,∀l,(bO st l).2.2.2.2.2.2.2=l:=fun _ _=>rfl
 have f:aJ (oC N) N (bO (gR ts pr (i,b)) [])=aJ (oC N) (M+1) (bO (gR ts pr (i,b)) []):=by rw[<-hM]
 rw[f]
 simp only[aJ,oC,k,jJ,g,h,t,j0,e,sClose]
 rcases eO (bE ts 4 ⟨#[41]⟩ i) with c|c
 .simp only[c,jJ,kU,jB,jF]
  exact⟨_,rfl,rfl⟩
 simp only[c,jB,jF,kP,jJ,Prod.eta,j0]
 obtain⟨o,q,r⟩:=XC (N:=N) (pr:=pr) (b:=b) (l:=[]) (n:=ts.length) (G:=aJ (oC N) M) d (by omega) hi (by simp) (fun z i pr' b l u=>by
  obtain⟨M',rfl⟩:∃M',M=M'+1:=⟨M-1,by omega⟩
  exact HF u M' l) a (fun s p v=>VW a d (by omega) ts.length M ([]++[s]) (i+1) (by simp) p (by simp) (by omega) (by omega))
 refine⟨o,Eq.trans ?_ q,r⟩
 simp only[fL,j0]
 rfl
end
section
variable {N:Nat} {ts:List bB} {pr:List BA}
def JC(ts:List bB)(r:bJ⊕(Nat×Dl))(o:RT×Dl):Prop:=
 match r with
 | .inl z=>tF ts z o.1
 | .inr a=>o=(gR ts a.2.2.2.1 (a.1,a.2.2.2.2),a.2)
def uT(N:Nat)(st:RT)(k:Int)(nm:BA):Option (RT×Dl):=
 ((if(k==1)=true then((iG N st (⟨#[40]⟩:BA)).bind fun a=>aJ (oC N) N (bO a [])) else(some (bO st [])):Option RL)).bind fun a=>
 (iG N (a.1,a.2.1,a.2.2.1,a.2.2.2.1,a.2.2.2.2.2.2.2,a.2.2.2.2.2.1,a.2.2.2.2.2.2.1) (⟨#[61]⟩:BA)).bind fun b=>
 (xA N b 1).bind fun b=>(iG N b.1 (⟨#[59]⟩:BA)).bind fun b=>some (b,(k,nm,a.2.2.2.2.2.2.2,b.2.2.2.2.2.1))
theorem QB(h:1000005<N){z:bJ}{i:Nat}{b:List Ex}(a:z.2≠0)(hi:i<ts.length)(k:Int)(nm:BA):∃o,uT N (bR ts z i pr b) k nm=some o/\tF ts z o.1:=by
 have tail:∀(i:Nat) (pr:List BA) (b:List Ex) (l:List BA),i<ts.length->∃o,((iG N ((bO (bR ts z i pr b) l).1,(bO (bR ts z i pr b) l).2.1,(bO (bR ts z i pr b) l).2.2.1,(bO (bR ts z i pr b) l).2.2.2.1,(bO (bR ts z i pr b) l).2.2.2.2.2.2.2,(bO (bR ts z i pr b) l).2.2.2.2.2.1,(bO (bR ts z i pr b) l).2.2.2.2.2.2.1) (⟨#[61]⟩:BA)).bind fun f=>
   (xA N f 1).bind fun g=>(iG N g.1 (⟨#[59]⟩:BA)).bind fun d=>some (d,(k,nm,(bO (bR ts z i pr b) l).2.2.2.2.2.2.2,d.2.2.2.2.2.1)))=some o/\tF ts z o.1:=by
  intro i pr b l hi
  have e:((bO (bR ts z i pr b) l).1,(bO (bR ts z i pr b) l).2.1,(bO (bR ts z i pr b) l).2.2.1,(bO (bR ts z i pr b) l).2.2.2.1,(bO (bR ts z i pr b) l).2.2.2.2.2.2.2,(bO (bR ts z i pr b) l).2.2.2.2.2.1,(bO (bR ts z i pr b) l).2.2.2.2.2.2.1)=bR ts z i l b:=rfl
  obtain⟨v,d⟩:=PX (N:=N) (by omega) z i l b a hi
  simp only[e,rM a hi,j0,d]
  exact⟨_,rfl,a,i,l,b,hi,rfl⟩
 obtain⟨M,hM⟩:∃M,N=M+1:=⟨N-1,by omega⟩
 have g:aJ (oC N) N (bO (bR ts z i pr b) [])=some (bO (bR ts z i pr b) []):=by
  have d:aJ (oC N) N (bO (bR ts z i pr b) [])=aJ (oC N) (M+1) (bO (bR ts z i pr b) []):=by rw[<-hM]
  rw[d];exact HF a M []
 unfold uT
 rcases eO (k==1) with c|c
 .simp only[c,jJ,rM a hi,j0,g]
  exact tail i pr b [] hi
 simp only[c,jB,jF,j0]
 exact tail i pr b [] hi
theorem qMr(d:OkT ts)(h:ts.length<1000000)(x:1000005<N)(i:Nat)(hi:i<ts.length)(k:Int)(nm:BA):∃o,uT N (gR ts pr (i,[])) k nm=some o/\
  JC ts (aW (if k=1 then pM ts i else .inr (i,[])) fun bq=>aW (cC ts sEq bq.1) fun j=>aW (bZ ts bq.2 32 (j,[])) fun c=>aW (cC ts sSemi c.1.1) fun m=> .inr (m,(k,nm,bq.2,c.1.2))) o:=by
 have badt:∀(z:bJ) (st:RT) (l:List BA),tF ts z st->∃o,((iG N ((bO st l).1,(bO st l).2.1,(bO st l).2.2.1,(bO st l).2.2.2.1,(bO st l).2.2.2.2.2.2.2,(bO st l).2.2.2.2.2.1,(bO st l).2.2.2.2.2.2.1) (⟨#[61]⟩:BA)).bind fun n=>
   (xA N n 1).bind fun g=>(iG N g.1 (⟨#[59]⟩:BA)).bind fun f=>some (f,(k,nm,(bO st l).2.2.2.2.2.2.2,f.2.2.2.2.2.1)))=some o/\tF ts z o.1:=by
  rintro z st l ⟨a,i,pr,b,hi,rfl⟩
  have e:((bO (bR ts z i pr b) l).1,(bO (bR ts z i pr b) l).2.1,(bO (bR ts z i pr b) l).2.2.1,(bO (bR ts z i pr b) l).2.2.2.1,(bO (bR ts z i pr b) l).2.2.2.2.2.2.2,(bO (bR ts z i pr b) l).2.2.2.2.2.1,(bO (bR ts z i pr b) l).2.2.2.2.2.2.1)=bR ts z i l b:=rfl
  obtain⟨v,p⟩:=PX (N:=N) (by omega) z i l b a hi
  simp only[e,rM a hi,j0,p]
  exact⟨_,rfl,a,i,l,b,hi,rfl⟩
 have goodt:∀(q:Nat×List BA),q.1<ts.length->q.2.length<=8->∃o,((iG N ((bO (gR ts pr (q.1,[])) q.2).1,(bO (gR ts pr (q.1,[])) q.2).2.1,(bO (gR ts pr (q.1,[])) q.2).2.2.1,(bO (gR ts pr (q.1,[])) q.2).2.2.2.1,(bO (gR ts pr (q.1,[])) q.2).2.2.2.2.2.2.2,(bO (gR ts pr (q.1,[])) q.2).2.2.2.2.2.1,(bO (gR ts pr (q.1,[])) q.2).2.2.2.2.2.2.1) (⟨#[61]⟩:BA)).bind fun n=>
   (xA N n 1).bind fun g=>(iG N g.1 (⟨#[59]⟩:BA)).bind fun f=>some (f,(k,nm,(bO (gR ts pr (q.1,[])) q.2).2.2.2.2.2.2.2,f.2.2.2.2.2.1)))=some o/\
   JC ts (aW (cC ts sEq q.1) fun j=>aW (bZ ts q.2 32 (j,[])) fun c=>aW (cC ts sSemi c.1.1) fun m=> .inr (m,(k,nm,q.2,c.1.2))) o:=by
  intro q g A
  have e:((bO (gR ts pr (q.1,[])) q.2).1,(bO (gR ts pr (q.1,[])) q.2).2.1,(bO (gR ts pr (q.1,[])) q.2).2.2.1,(bO (gR ts pr (q.1,[])) q.2).2.2.2.1,(bO (gR ts pr (q.1,[])) q.2).2.2.2.2.2.2.2,(bO (gR ts pr (q.1,[])) q.2).2.2.2.2.2.1,(bO (gR ts pr (q.1,[])) q.2).2.2.2.2.2.2.1)=gR ts q.2 (q.1,[]):=rfl
  have u:(bO (gR ts pr (q.1,[])) q.2).2.2.2.2.2.2.2=q.2:=rfl
  rw[e]
  simp only[u,sD (q.1,[]) g h,j0,sEq]
  cases hj:cC ts ⟨#[61]⟩ q.1 with
  |inl z=>
   have a:=qW hj
   obtain⟨v,p⟩:=PX (N:=N) (by omega) z q.1 q.2 [] a g
   simp only[p,j0,rM a g,aW]
   exact⟨_,rfl,a,q.1,q.2,[],g,rfl⟩
  |inr j=>
   obtain⟨rfl,r,-⟩:=lZ d g hj
   obtain⟨o,s,f⟩:=qNl (N:=N) (pr:=q.2) d h (by omega) (by omega) (q.1+1,[]) r (by simp)
   simp only[s,j0,aW]
   cases hc:bZ ts q.2 32 (q.1+1,[]) with
   |inl z=>
    rw[hc] at f
    obtain⟨a,i,pr',b,hi,p⟩:=f
    simp only[p,rM a hi,j0]
    exact⟨_,rfl,a,i,pr',b,hi,rfl⟩
   |inr c=>
    rw[hc] at f
    obtain⟨⟨B,p,t,D⟩,-⟩:=uR d 32 (q.1+1,[]) c.1 c.2 r (by simp) hc
    have hr':o=(gR ts q.2 c.1,(c.2:Int)):=f
    simp only[hr',sD c.1 p h,j0,sSemi]
    cases y:cC ts ⟨#[59]⟩ c.1.1 with
    |inl z=>exact⟨_,rfl,qW y,c.1.1,q.2,c.1.2,p,rfl⟩
    |inr m=>exact⟨_,rfl,rfl⟩
 unfold uT
 by_cases c:k=1
 .have c':(k==1)=true:=by simpa using c
  simp only[c',jJ,sD (i,[]) hi h,j0,if_pos c,pM,sOpen]
  cases h1:cC ts ⟨#[40]⟩ i with
  |inl z=>
   have a:=qW h1
   obtain⟨M,hM⟩:∃M,N=M+1:=⟨N-1,by omega⟩
   have u:aJ (oC N) N (bO (bR ts z i pr []) [])=some (bO (bR ts z i pr []) []):=by
    have r:aJ (oC N) N (bO (bR ts z i pr []) [])=aJ (oC N) (M+1) (bO (bR ts z i pr []) []):=by rw[<-hM]
    rw[r];exact HF a M []
   simp only[u,j0,aW]
   exact badt z _ [] ⟨a,i,pr,[],hi,rfl⟩
  |inr j=>
   obtain⟨rfl,a,-⟩:=lZ d hi h1
   obtain⟨o,s,f⟩:=qRg (N:=N) (pr:=pr) (b:=[]) d h x (i+1) a
   simp only[s,j0,aW]
   cases hP:(if bE ts 4 sClose (i+1)=true then .inr (i+1+1,[]) else qB ts (ts.length+1) [] (i+1):bJ⊕(Nat×List BA)) with
   |inl z=>
    rw[hP] at f
    obtain⟨st,l,r,rfl⟩:=f
    exact badt z st l r
   |inr q=>
    rw[hP] at f
    have hr':o=bO (gR ts pr (q.1,[])) q.2:=f
    have g:q.1<ts.length/\q.2.length<=8:=by
     split at hP
     .rename_i hc
      obtain rfl:=Sum.inr.inj hP
      exact⟨mG d a (by decide) hc,by simp⟩
     obtain⟨_,p,t⟩:=OT d _ _ _ q a (by simp) hP
     exact⟨p,t⟩
    rw[hr']
    exact goodt q g.1 g.2
 have c':(k==1)=false:=by simpa using c
 simp only[c',jB,jF,j0,if_neg c]
 exact goodt (i,[]) hi (by simp)
def HS(N:Nat)(f:Sr)(t:bB)(st:RT)(k:Int):Option (RT×Dl):=
 ((if((List.length f.2.2:Int)==64)=true then iS N st t.2.2.2 2 else some st):Option RT).bind fun o2=>(iJ N o2).bind fun b=>
 ((if(k==3)=true then qK N b.1 true else nP N b.1):Option (RT×BA)).bind fun a=>
 ((if(a.1.2.2.2.1==0)=true then xI N f k a.2 else some false):Option Bool).bind fun o4=>
 ((if o4=true then iS N a.1 b.2.2.2.2 10 else some a.1):Option RT).bind fun b=>uT N b k a.2
theorem qKk(g:1000005<N){f:Sr}{t:bB}{z:bJ}{i:Nat}{b:List Ex}(c:z.2≠0)(hi:i<ts.length)(k:Int):∃o,
  ((iJ N (bR ts z i pr b)).bind fun d=>((if(k==3)=true then qK N d.1 true else nP N d.1):Option (RT×BA)).bind fun a=>
   ((if(a.1.2.2.2.1==0)=true then xI N f k a.2 else some false):Option Bool).bind fun o4=>
   ((if o4=true then iS N a.1 d.2.2.2.2 10 else some a.1):Option RT).bind fun h=>uT N h k a.2)=some o/\tF ts z o.1:=by
 have hz':((bR ts z i pr b).2.2.2.1==0)=false:=by simpa[bR] using c
 have e:((if(k==3)=true then qK N (bR ts z i pr b) true else nP N (bR ts z i pr b)):Option (RT×BA))=some (bR ts z i pr b,⟨#[]⟩):=by
  rw[RV c hi,MS c hi];split<;>rfl
 simp only[rN hi,j0,e,hz',jB,jF]
 exact QB g c hi k _
theorem qLb(h:OkT ts)(p:ts.length<1000000)(n:1000005<N){f:Sr}(r:f.2.2.length<=64)(t:bB)(i:Nat)(hi:i<ts.length)(k:Int):∃o,HS N f t (gR ts pr (i,[])) k=some o/\
  JC ts (if f.2.2.length=64 then cV t 2 else aW (if k=3 then mC ts i else lN ts i) fun a=>
   if f.2.2.any (fun d=>d.1==k&&decide (d.2.1=a.2.2.1)) then cV a.2 10
   else aW (if k=1 then pM ts a.1 else .inr (a.1,[])) fun b=>
    aW (cC ts sEq b.1) fun j=>aW (bZ ts b.2 32 (j,[])) fun c=>
    aW (cC ts sSemi c.1.1) fun m=> .inr (m,(k,a.2.2.1,b.2,c.1.2))) o:=by
 unfold HS
 by_cases k1:f.2.2.length=64
 .have k1':((f.2.2.length:Int)==64)=true:=by simp;omega
  rw[if_pos k1]
  simp only[k1',jJ,pD,j0,cV]
  exact qKk (t:=t) n (show(2:Int)≠0 by decide) hi k
 have k1':((f.2.2.length:Int)==64)=false:=by simp;omega
 rw[if_neg k1]
 simp only[k1',jB,jF,j0,mI (i,[]) hi]
 have e:((if(k==3)=true then qK N (gR ts pr (i,[])) true else nP N (gR ts pr (i,[]))):Option (RT×BA))=
   some (match(if k=3 then mC ts i else lN ts i) with| .inl z=>(bR ts z i pr [],⟨#[]⟩)| .inr a=>(gR ts pr (a.1,[]),a.2.2.1)):=by
  by_cases k3:k=3
  .have k3':(k==3)=true:=by simpa using k3
   rw[if_pos k3',if_pos k3,SJ (i,[]) hi p (by omega)]<;>rfl
  have k3':(k==3)=false:=by simpa using k3
  rw[if_neg (by rw[k3'];decide),if_neg k3,DR (i,[]) hi p (by omega)]<;>rfl
 rw[e]
 simp only[j0]
 cases hX:(if k=3 then mC ts i else lN ts i) with
 |inl z=>
  have g:z.2≠0:=by
   split at hX
   .exact MJ hX
   exact MG hX
  have hz':((bR ts z i pr []).2.2.2.1==0)=false:=by simpa[bR] using g
  simp only[hz',jB,jF,j0,aW]
  exact QB n g hi k _
 |inr a=>
  have ga:a=(i+1,aB ts i)/\i+1<ts.length:=by
   split at hX
   .obtain⟨e,g,-⟩:=sT h hi hX;exact⟨e,g⟩
   obtain⟨e,g,-⟩:=sA h hi hX;exact⟨e,g⟩
  obtain⟨rfl,g⟩:=ga
  have q:((gR ts pr (i+1,[])).2.2.2.1==0)=true:=rfl
  simp only[q,jJ,qTs (N:=N) (f:=f) (k:=k) (s:=(aB ts i).2.1) (by omega) (by omega),j0]
  rw[show aW (Sum.inr (i+1,aB ts i)) (fun a:Nat×bB=>if f.2.2.any (fun d=>d.1==k&&decide (d.2.1=a.2.2.1))=true then cV a.2 10
   else aW (if k=1 then pM ts a.1 else .inr (a.1,[])) fun b=>
    aW (cC ts sEq b.1) fun j=>aW (bZ ts b.2 32 (j,[])) fun c=>
    aW (cC ts sSemi c.1.1) fun m=>(.inr (m,(k,a.2.2.1,b.2,c.1.2)):bJ⊕(Nat×Dl)))=(if f.2.2.any (fun d=>d.1==k&&decide (d.2.1=(aB ts i).2.1))=true then cV (aB ts i) 10
   else aW (if k=1 then pM ts (i+1) else .inr (i+1,[])) fun b=>
    aW (cC ts sEq b.1) fun j=>aW (bZ ts b.2 32 (j,[])) fun c=>
    aW (cC ts sSemi c.1.1) fun m=>(.inr (m,(k,(aB ts i).2.1,b.2,c.1.2)):bJ⊕(Nat×Dl))) from rfl]
  rcases eO (f.2.2.any fun d=>d.1==k&&decide (d.2.1=(aB ts i).2.1)) with l|l
  .rw[if_pos l]
   simp only[l,jJ,pD,j0,cV]
   exact QB n (show(10:Int)≠0 by decide) g k _
  rw[if_neg (by rw[l];decide)]
  simp only[l,jB,jF,j0]
  exact qMr h p n (i+1) g k _
end
section
variable {N:Nat} {ts:List bB} {pr:List BA}
abbrev RN:=List bB×Int×Int×Int×List BA×List Ex×List Int×BA
def qFb(st:RT)(l:BA):RN:=(st.1,st.2.1,st.2.2.1,st.2.2.2.1,st.2.2.2.2.1,st.2.2.2.2.2.1,st.2.2.2.2.2.2,l)
theorem qVa(r:OkT ts)(p:ts.length<1000000)(B:1000005<N){f:Sr}(D:f.2.2.length<=64)(i:Nat)(b:List Ex)(hi:i<ts.length):∃o,FQ N (gR ts pr (i,b)) f=some o/\JC ts (mD ts f.2.2 i) o:=by
 have A:((gR ts pr (i,b)).1,(gR ts pr (i,b)).2.1,(gR ts pr (i,b)).2.2.1,(gR ts pr (i,b)).2.2.2.1,([]:List BA),([]:List Ex),(gR ts pr (i,b)).2.2.2.2.2.2)=gR ts [] (i,[]):=rfl
 have rest:∀(st:RT) (k:Int),(((if((List.length f.2.2:Int)==64)=true then((iS N st (aB ts i).2.2.2 2).bind fun F=>some F) else(some st)):Option RT).bind fun o2=>(iJ N o2).bind fun q=>((if(k==3)=true then((qK N q.1 true).bind fun y=>some (qFb y.1 y.2)) else((nP N q.1).bind fun z=>some (qFb z.1 z.2))):Option RN).bind fun a=>((if(a.2.2.2.1==0)=true then((xI N f k a.2.2.2.2.2.2.2).bind fun v=>some v) else(some false)):Option Bool).bind fun o4=>((if o4=true then((iS N (a.1,a.2.1,a.2.2.1,a.2.2.2.1,a.2.2.2.2.1,a.2.2.2.2.2.1,a.2.2.2.2.2.2.1) q.2.2.2.2 10).bind fun x=>some x) else(some (a.1,a.2.1,a.2.2.1,a.2.2.2.1,a.2.2.2.2.1,a.2.2.2.2.2.1,a.2.2.2.2.2.2.1))):Option RT).bind fun E=>uT N E k a.2.2.2.2.2.2.2)=HS N f (aB ts i) st k:=by
  intro st k
  unfold HS
  simp only[qG]
  refine congrArg _ (funext fun o2=>congrArg _ (funext fun q=> ?_))
  rcases eO (k==3) with c|c<;>simp only[c,jJ,jB,jF,fL,j0]<;>rfl
 have fin:∀(k:Int),k≠0->lA (aB ts i).2.1=k->(aB ts i).1=1->∃o,HS N f (aB ts i) (gR ts [] (i+1,[])) k=some o/\JC ts (mD ts f.2.2 i) o:=by
  intro k u t d
  have g:=r.next hi (show(aB ts i).1≠5 by rw[d];decide)
  obtain⟨o,e,l⟩:=qLb (N:=N) (pr:=[]) r p B D (aB ts i) (i+1) g k
  refine⟨o,e,?_⟩
  unfold mD
  dsimp only
  rw[t,if_neg (by rintro(h|h);exact h d;exact u h)]
  exact l
 simp only[FQ,A,mI (i,[]) hi,j0,Prod.eta,qX (i,[]) hi p]
 by_cases d:(aB ts i).1=1
 .have n:∀s,bE ts 1 s i=decide ((aB ts i).2.1=s):=fun s=>qAz d
  simp only[n]
  by_cases w1:(aB ts i).2.1=(⟨#[102,117,110,99]⟩:BA)
  .simp only[jV w1,jJ,j0]
   obtain⟨o,e,l⟩:=fin 1 (by decide) (by rw[w1];rfl) d
   refine⟨o,Eq.trans ?_ e,l⟩
   refine Eq.trans ?_ (rest (gR ts [] (i+1,[])) 1)
   simp only[qG,uT]
   rfl
  simp only[jY w1,jB,jF,j0,qX (i,[]) hi p,n,Prod.eta]
  by_cases w2:(aB ts i).2.1=(⟨#[116,101,115,116]⟩:BA)
  .simp only[jV w2,jJ,j0]
   obtain⟨o,e,l⟩:=fin 2 (by decide) (by rw[w2];rfl) d
   refine⟨o,Eq.trans ?_ e,l⟩
   refine Eq.trans ?_ (rest (gR ts [] (i+1,[])) 2)
   simp only[qG,uT]
   rfl
  simp only[jY w2,jB,jF,j0,qX (i,[]) hi p,n,Prod.eta]
  by_cases w3:(aB ts i).2.1=(⟨#[103,101,110]⟩:BA)
  .simp only[jV w3,jJ,j0]
   obtain⟨o,e,l⟩:=fin 3 (by decide) (by rw[w3];rfl) d
   refine⟨o,Eq.trans ?_ e,l⟩
   refine Eq.trans ?_ (rest (gR ts [] (i+1,[])) 3)
   simp only[qG,uT]
   rfl
  simp only[jY w3,jB,jF,j0,pD,Prod.eta]
  refine⟨_,rfl,?_⟩
  have t:lA (aB ts i).2.1=0:=by
   unfold lA
   rw[if_neg (show ¬(aB ts i).2.1=AV from w1),if_neg (show ¬(aB ts i).2.1=AY from w2),if_neg (show ¬(aB ts i).2.1=BF from w3)]
  unfold mD
  dsimp only
  rw[if_pos (.inr t)]
  exact⟨show(9:Int)≠0 by decide,i,[],[],hi,rfl⟩
 have n:∀s,bE ts 1 s i=false:=fun s=>qCz d
 simp only[n,jB,jF,j0,qX (i,[]) hi p,pD,Prod.eta]
 refine⟨_,rfl,?_⟩
 unfold mD
 dsimp only
 rw[if_pos (.inl d)]
 exact⟨show(9:Int)≠0 by decide,i,[],[],hi,rfl⟩
def TT(ts:List bB)(pr:List BA)(b:List Ex)(r:bJ⊕(Nat×List BA))(o:RL):Prop:=
 match r with
 | .inl z=>∃st l,tF ts z st/\o=bO st l
 | .inr q=>o=bO (gR ts pr (q.1,b)) q.2
theorem VT{y5:RT×BA}{z:bJ}{i:Nat}{pr':List BA}{b:List Ex}(a:z.2≠0)(M:Nat)(l:List BA):aJ (pZ N y5) (M+1) (bO (bR ts z i pr' b) l)=some (bO (bR ts z i pr' b) l):=by
 have hz':((bO (bR ts z i pr' b) l).2.2.2.1==0)=false:=by simpa[bR,bO] using a
 simp only[aJ,pZ,hz',jB,jF,j0]
theorem VH(k:OkT ts)(v:ts.length<1000000)(H:1000005<N){y5:RT×BA}{b:List Ex}:∀(n M:Nat) (l:List BA) (i:Nat),i<ts.length->l.length<=8->ts.length<i+n->ts.length+2<i+M->
  ∃o,aJ (pZ N y5) M (bO (gR ts pr (i,b)) l)=some o/\TT ts pr b (nR ts y5.2 n l i) o
 |0,M,l,i,hi,_,h,_=>by omega
 |n+1,0,l,i,hi,_,_,h=>by omega
 |n+1,M+1,l,i,hi,R,U,S=>by
  have G:((bO (gR ts pr (i,b)) l).2.2.2.1==0)=true:=rfl
  have E:∀st:RT,∀l,((bO st l).1,(bO st l).2.1,(bO st l).2.2.1,(bO st l).2.2.2.1,(bO st l).2.2.2.2.1,(bO st l).2.2.2.2.2.1,(bO st l).2.2.2.2.2.2.1)=st:=fun _ _=>rfl
  have F:∀st:RT,∀l,(bO st l).2.2.2.2.2.2.2=l:=fun _ _=>rfl
  have e:∀s:BA,cU 16 l [s]=some (l++[s]):=fun s=>nQ (by simp only[jC,jE];omega) (by omega)
  have u:∀s,rF N l s=some (decide (s∈l)):=fun s=>TX (by omega) (by omega)
  have bad:∀(z:bJ) (i:Nat) (pr':List BA) (b':List Ex) (l:List BA),z.2≠0->i<ts.length->∃o,aJ (pZ N y5) M (bO (bR ts z i pr' b') l)=some o/\TT ts pr b (.inl z) o:=by
   intro z i pr' b' l c hi
   obtain⟨M',rfl⟩:∃M',M=M'+1:=⟨M-1,by omega⟩
   exact⟨_,VT c M' l,_,_,⟨c,i,pr',b',hi,rfl⟩,rfl⟩
  -- from the import's name on, behind an error
  have badn:∀(z:bJ) (i:Nat) (pr':List BA) (b':List Ex),z.2≠0->i<ts.length->∃o,((iJ N (bR ts z i pr' b')).bind fun f=>(nP N f.1).bind fun a=>((if(a.1.2.2.2.1==0)=true then(if(a.2.toList==y5.2.toList)=true then(some true) else(rF N l a.2)) else(some false)):Option Bool).bind fun A=>((if A=true then iS N a.1 f.2.2.2.2 10 else some a.1):Option RT).bind fun B=>(iG N B (⟨#[59]⟩:BA)).bind fun r=>(cU 16 l ([a.2])).bind fun y=>aJ (pZ N y5) M (bO r y))=some o/\TT ts pr b (.inl z) o:=by
   intro z i pr' b' c hi
   have hz':((bR ts z i pr' b').2.2.2.1==0)=false:=by simpa[bR] using c
   simp only[rN hi,MS c hi,j0,hz',jB,jF,rM c hi,e]
   exact bad z i pr' b' _ c hi
  -- the step
  have step:aJ (pZ N y5) (M+1) (bO (gR ts pr (i,b)) l)=(if bE ts 1 uV i=true then
    ((if((l.length:Int)==8)=true then some (bR ts ((aB ts i).2.2.2,2) (i+1) pr b) else some (gR ts pr (i+1,b))):Option RT).bind fun st=>((iJ N st).bind fun f=>(nP N f.1).bind fun a=>((if(a.1.2.2.2.1==0)=true then(if(a.2.toList==y5.2.toList)=true then(some true) else(rF N l a.2)) else(some false)):Option Bool).bind fun A=>((if A=true then iS N a.1 f.2.2.2.2 10 else some a.1):Option RT).bind fun B=>(iG N B (⟨#[59]⟩:BA)).bind fun r=>(cU 16 l ([a.2])).bind fun y=>aJ (pZ N y5) M (bO r y))
    else some (bO (gR ts pr (i,b)) l)):=by
   have K:bE ts 1 uV i=((aB ts i).1==1&&decide ((aB ts i).2.1=(⟨#[105,109,112,111,114,116]⟩:BA))):=rfl
   have D:=nV (show i<1000000 by omega)
   simp only[aJ,pZ,G,jJ,E,F,mI (i,b) hi,j0,Prod.eta,mF,K]
   rcases eO ((aB ts i).1==1) with d|d
   rotate_left
   .simp only[d,jB,jF,j0,Bool.false_and]
    rfl
   rcases eO (decide ((aB ts i).2.1=(⟨#[105,109,112,111,114,116]⟩:BA))) with p|p
   rotate_left
   .simp only[d,p,jB,jF,jJ,j0,Bool.and_false]
    rfl
   simp only[d,p,jJ,j0,Bool.and_true]
   rcases eO ((l.length:Int)==8) with q|q
   .simp only[q,jJ,j0,mI (i,b) hi,pD,qG]
    have t:((bR ts ((aB ts i).2.2.2,2) i pr b).1,IntKind.wrap .i64 ((bR ts ((aB ts i).2.2.2,2) i pr b).2.1+1),(bR ts ((aB ts i).2.2.2,2) i pr b).2.2.1,(bR ts ((aB ts i).2.2.2,2) i pr b).2.2.2.1,(bR ts ((aB ts i).2.2.2,2) i pr b).2.2.2.2.1,(bR ts ((aB ts i).2.2.2,2) i pr b).2.2.2.2.2.1,(bR ts ((aB ts i).2.2.2,2) i pr b).2.2.2.2.2.2)=bR ts ((aB ts i).2.2.2,2) (i+1) pr b:=by
     show(ts,IntKind.wrap .i64 ((i:Int)+1),(aB ts i).2.2.2,(2:Int),pr,b,([]:List Int))=_
     rw[D];rfl
    rw[t]
    simp only[fL,j0]
    rfl
   simp only[q,jB,jF,j0,qG]
   have t:((gR ts pr (i,b)).1,IntKind.wrap .i64 ((gR ts pr (i,b)).2.1+1),(gR ts pr (i,b)).2.2.1,(gR ts pr (i,b)).2.2.2.1,(gR ts pr (i,b)).2.2.2.2.1,(gR ts pr (i,b)).2.2.2.2.2.1,(gR ts pr (i,b)).2.2.2.2.2.2)=gR ts pr (i+1,b):=by
    show(ts,IntKind.wrap .i64 ((i:Int)+1),(0:Int),(0:Int),pr,b,([]:List Int))=_
    rw[D];rfl
   rw[t]
   simp only[fL,j0]
   rfl
  rw[step]
  simp only[nR]
  rcases eO (bE ts 1 uV i) with d|d
  rotate_left
  .simp only[d,jB,jF]
   exact⟨_,rfl,rfl⟩
  have g:=mG k hi (by decide) d
  simp only[d,jJ]
  by_cases k2:l.length=8
  .have k2':((l.length:Int)==8)=true:=by simp;omega
   rw[if_pos k2]
   simp only[k2',jJ,j0,cV]
   exact badn _ _ _ _ (show(2:Int)≠0 by decide) g
  have k2':((l.length:Int)==8)=false:=by simp;omega
  rw[if_neg k2]
  simp only[k2',jB,jF,j0,mI (i+1,b) g,DR (i+1,b) g v (by omega:100<N)]
  cases hx:lN ts (i+1) with
  |inl z=>
   have c:=MG hx
   have hz':((bR ts z (i+1) pr b).2.2.2.1==0)=false:=by simpa[bR] using c
   simp only[hz',jB,jF,j0,rM c g,e,aW]
   exact bad _ _ _ _ _ c g
  |inr x=>
   obtain⟨rfl,p,-⟩:=sA k g hx
   have t:((gR ts pr (i+1+1,b)).2.2.2.1==0)=true:=rfl
   simp only[t,jJ,mF,u,aW]
   by_cases q:(aB ts (i+1)).2.1=y5.2\/(aB ts (i+1)).2.1∈l
   .rw[if_pos q]
    have:((if decide ((aB ts (i+1)).2.1=y5.2)=true then some true else some (decide ((aB ts (i+1)).2.1∈l))):Option Bool)=some true:=by
     rcases q with h|h
     .rw[if_pos (jV h)]
     rw[jV h];split<;>rfl
    rw[this]
    simp only[j0,jJ,pD,e,cV]
    have c:(((aB ts (i+1)).2.2.2,(10:Int)):bJ).2≠0:=show(10:Int)≠0 by decide
    simp only[rM c p,j0]
    exact bad _ _ _ _ _ c p
   rw[if_neg q]
   have:((if decide ((aB ts (i+1)).2.1=y5.2)=true then some true else some (decide ((aB ts (i+1)).2.1∈l))):Option Bool)=some false:=by
    rw[if_neg (by simp only[j9];exact fun h=>q (.inl h)),jY (fun h=>q (.inr h))]
   rw[this]
   simp only[j0,jB,jF,sD (i+1+1,b) p v,e,sSemi]
   cases c:cC ts ⟨#[59]⟩ (i+1+1) with
   |inl z=>exact bad _ _ _ _ _ (qW c) p
   |inr j=>
    obtain⟨rfl,D,-⟩:=lZ k p c
    exact VH k v H n M _ (i+1+1+1) D (by simp only[jA,jC,jE];omega) (by omega) (by omega)
end
section
variable {N:Nat} {ts:List bB} {pr:List BA}
abbrev RD:=List bB×Int×Int×Int×List BA×List Ex×List Int×List Dl
def mR(st:RT)(l:List Dl):RD:=(st.1,st.2.1,st.2.2.1,st.2.2.2.1,st.2.2.2.2.1,st.2.2.2.2.2.1,st.2.2.2.2.2.2,l)
def relS(ts:List bB)(r:bJ⊕List Dl)(o:RD):Prop:=
 match r with
 | .inl z=>∃st l,tF ts z st/\o=mR st l
 | .inr a=>∃pr p,o=mR (gR ts pr p) a
theorem XM{y5:RT×BA}{o2:RL}{z:bJ}{i:Nat}{pr':List BA}{b:List Ex}(a:z.2≠0)(M:Nat)(l:List Dl):aJ (rE N y5 o2) (M+1) (mR (bR ts z i pr' b) l)=some (mR (bR ts z i pr' b) l):=by
 have hz':((mR (bR ts z i pr' b) l).2.2.2.1==0)=false:=by simpa[bR,mR] using a
 simp only[aJ,rE,hz',jB,jF,j0]
theorem WH(c:OkT ts)(k:ts.length<1000000)(g:1000005<N){y5:RT×BA}{o2:RL}:∀(n M:Nat) (l:List Dl) (i:Nat) (pr:List BA) (b:List Ex),i<ts.length->l.length<=64->ts.length<i+n->ts.length+2<i+M->
  ∃o,aJ (rE N y5 o2) M (mR (gR ts pr (i,b)) l)=some o/\relS ts (oI ts n l i) o
 |0,M,l,i,_,_,hi,_,h,_=>by omega
 |n+1,0,l,i,_,_,hi,_,_,h=>by omega
 |n+1,M+1,l,i,pr,b,hi,e,y,x=>by
  have t:((mR (gR ts pr (i,b)) l).2.2.2.1==0)=true:=rfl
  have r:∀st:RT,∀l,((mR st l).1,(mR st l).2.1,(mR st l).2.2.1,(mR st l).2.2.2.1,(mR st l).2.2.2.2.1,(mR st l).2.2.2.2.2.1,(mR st l).2.2.2.2.2.2.1)=st:=fun _ _=>rfl
  have s:∀st:RT,∀l,(mR st l).2.2.2.2.2.2.2=l:=fun _ _=>rfl
  simp only[aJ,rE,t,jJ,r,s,mI (i,b) hi,j0,Prod.eta,oI]
  by_cases k1:(aB ts i).1=5
  .have k1':((aB ts i).1 !=5)=false:=by simp[k1]
   rw[if_pos k1]
   simp only[k1',jB,jF,j0]
   exact⟨_,rfl,pr,(i,b),rfl⟩
  have k1':((aB ts i).1 !=5)=true:=by simp[k1]
  rw[if_neg k1]
  simp only[k1',jJ]
  obtain⟨o,v,d⟩:=qVa (N:=N) (pr:=pr) (f:=(y5.2,o2.2.2.2.2.2.2.2,l)) c k g e i b hi
  simp only[v,j0]
  rw[nQ (by simp only[jC,jE];omega) (by omega)]
  simp only[j0]
  cases hd:mD ts l i with
  |inl z=>
   rw[show mD ts (y5.2,o2.2.2.2.2.2.2.2,l).2.2 i=mD ts l i from rfl,hd] at d
   obtain⟨q,j,pr',b',u,p⟩:=d
   obtain⟨M',rfl⟩:∃M',M=M'+1:=⟨M-1,by omega⟩
   rw[p]
   exact⟨_,XM q M' _,_,_,⟨q,j,pr',b',u,rfl⟩,rfl⟩
  |inr a=>
   rw[show mD ts (y5.2,o2.2.2.2.2.2.2.2,l).2.2 i=mD ts l i from rfl,hd] at d
   obtain⟨q,p,u⟩:=HP c hi hd
   have hr':o=(gR ts a.2.2.2.1 (a.1,a.2.2.2.2),a.2):=d
   rw[hr']
   exact WH c k g n M (l++[a.2]) a.1 _ _ p (by simp only[jA,jC,jE];omega) (by omega) (by omega)
theorem qVe(d:OkT ts)(h:ts.length<1000000)(A:1000005<N):
  ((oW N (ts,0,0,0,[],[],[]) (⟨#[112,97,99,107,97,103,101]⟩:BA)).bind fun s=>((if(!s.2)=true then((iJ N s.1).bind fun D=>iS N D.1 D.2.2.2.2 9) else(some s.1)):Option RT).bind fun K=>(nP N K).bind fun y5=>(iG N y5.1 (⟨#[59]⟩:BA)).bind fun t=>(aJ (pZ N y5) N (bO t [])).bind fun o2=>(aJ (rE N y5 o2) N (o2.1,o2.2.1,o2.2.2.1,o2.2.2.2.1,o2.2.2.2.2.1,o2.2.2.2.2.2.1,o2.2.2.2.2.2.2.1,[])).bind fun a=>if(a.2.2.2.1 !=0)=true then(some (sF,a.2.2.1,a.2.2.2.1)) else(some (((y5.2,o2.2.2.2.2.2.2.2,a.2.2.2.2.2.2.2):Sr),(0:Int),(0:Int))))=some (match oN ts with| .inl z=>(sF,z.1,z.2)| .inr f=>(f,0,0)):=by
 have p:0<ts.length:=fE.2 d.1
 obtain⟨M,hM⟩:∃M,N=M+1:=⟨N-1,by omega⟩
 have E:((ts,(0:Int),(0:Int),(0:Int),[],[],[]):RT)=gR ts [] (0,[]):=rfl
 -- the loops behind an error
 have badD:∀(y5:RT×BA) (o2:RL) (z:bJ) (st:RT),tF ts z st->((aJ (rE N y5 o2) N (mR st [])).bind fun a=>if(a.2.2.2.1 !=0)=true then(some (sF,a.2.2.1,a.2.2.2.1)) else(some (((y5.2,o2.2.2.2.2.2.2.2,a.2.2.2.2.2.2.2):Sr),(0:Int),(0:Int))))=some (sF,z.1,z.2):=by
  rintro y5 o2 z st ⟨c,i,pr',b,hi,rfl⟩
  have g:aJ (rE N y5 o2) N (mR (bR ts z i pr' b) [])=some (mR (bR ts z i pr' b) []):=by
   have e:aJ (rE N y5 o2) N (mR (bR ts z i pr' b) [])=aJ (rE N y5 o2) (M+1) (mR (bR ts z i pr' b) []):=by rw[<-hM]
   rw[e];exact XM c M []
  have hz':((mR (bR ts z i pr' b) []).2.2.2.1 !=0)=true:=by simpa[bR,mR] using c
  rw[g]
  simp only[j0,hz',jJ]
  rfl
 have badI:∀(y5:RT×BA) (z:bJ) (i:Nat) (pr':List BA) (b:List Ex),z.2≠0->i<ts.length->((aJ (pZ N y5) N (bO (bR ts z i pr' b) [])).bind fun o2=>(aJ (rE N y5 o2) N (o2.1,o2.2.1,o2.2.2.1,o2.2.2.2.1,o2.2.2.2.2.1,o2.2.2.2.2.2.1,o2.2.2.2.2.2.2.1,[])).bind fun a=>if(a.2.2.2.1 !=0)=true then(some (sF,a.2.2.1,a.2.2.2.1)) else(some (((y5.2,o2.2.2.2.2.2.2.2,a.2.2.2.2.2.2.2):Sr),(0:Int),(0:Int))))=some (sF,z.1,z.2):=by
  intro y5 z i pr' b c hi
  have g:aJ (pZ N y5) N (bO (bR ts z i pr' b) [])=some (bO (bR ts z i pr' b) []):=by
   have e:aJ (pZ N y5) N (bO (bR ts z i pr' b) [])=aJ (pZ N y5) (M+1) (bO (bR ts z i pr' b) []):=by rw[<-hM]
   rw[e];exact VT c M []
  rw[g]
  simp only[j0]
  exact badD y5 (bO (bR ts z i pr' b) []) z (bR ts z i pr' b) ⟨c,i,pr',b,hi,rfl⟩
 have bad:∀(z:bJ) (i:Nat) (pr':List BA) (b:List Ex),z.2≠0->i<ts.length->((nP N (bR ts z i pr' b)).bind fun y5=>(iG N y5.1 (⟨#[59]⟩:BA)).bind fun t=>(aJ (pZ N y5) N (bO t [])).bind fun o2=>(aJ (rE N y5 o2) N (o2.1,o2.2.1,o2.2.2.1,o2.2.2.2.1,o2.2.2.2.2.1,o2.2.2.2.2.2.1,o2.2.2.2.2.2.2.1,[])).bind fun a=>if(a.2.2.2.1 !=0)=true then(some (sF,a.2.2.1,a.2.2.2.1)) else(some (((y5.2,o2.2.2.2.2.2.2.2,a.2.2.2.2.2.2.2):Sr),(0:Int),(0:Int))))=some (sF,z.1,z.2):=by
  intro z i pr' b c hi
  simp only[MS c hi,rM c hi,j0]
  exact badI _ z i pr' b c hi
 rw[E]
 simp only[qX (0,[]) p h,j0,oN,oL,sPackage]
 rcases eO (bE ts 1 ⟨#[112,97,99,107,97,103,101]⟩ 0) with k|k
 rotate_left
 .simp only[k,jB,jF,kP,jJ,mI (0,[]) p,pD,j0,cV,aW]
  exact bad _ _ _ _ (show(9:Int)≠0 by decide) p
 have n:=mG d p (by decide) k
 simp only[k,jJ,kU,jB,jF,j0,DR (0+1,[]) n h (by omega:100<N),aW]
 cases h2:lN ts (0+1) with
 |inl z=>
  have c:=MG h2
  simp only[rM c n,j0]
  exact badI _ z _ _ _ c n
 |inr x=>
  obtain⟨rfl,r,-⟩:=sA d n h2
  simp only[sD (0+1+1,[]) r h,j0,sSemi]
  cases v:cC ts ⟨#[59]⟩ (0+1+1) with
  |inl z=>exact badI _ z _ _ _ (qW v) r
  |inr j=>
   obtain⟨rfl,u,-⟩:=lZ d r v
   obtain⟨o,G,q⟩:=VH (N:=N) (pr:=[]) (b:=[]) (y5:=(gR ts [] (0+1+1,[]),(aB ts (0+1)).2.1)) d h A (ts.length+1) N [] (0+1+1+1) u (by simp) (by omega) (by omega)
   simp only[G,j0]
   cases h4:nR ts (aB ts (0+1)).2.1 (ts.length+1) [] (0+1+1+1) with
   |inl z=>
    rw[show nR ts ((gR ts [] (0+1+1,[]),(aB ts (0+1)).2.1):RT×BA).2 (ts.length+1) [] (0+1+1+1)=nR ts (aB ts (0+1)).2.1 (ts.length+1) [] (0+1+1+1) from rfl,h4] at q
    obtain⟨st,l,g,rfl⟩:=q
    exact badD _ (bO st l) z st g
   |inr y=>
    rw[show nR ts ((gR ts [] (0+1+1,[]),(aB ts (0+1)).2.1):RT×BA).2 (ts.length+1) [] (0+1+1+1)=nR ts (aB ts (0+1)).2.1 (ts.length+1) [] (0+1+1+1) from rfl,h4] at q
    have hr':o=bO (gR ts [] (y.1,[])) y.2:=q
    obtain⟨R,H,S⟩:=KZ d _ _ _ y u (by simp) h4
    obtain⟨o2,B,g⟩:=WH (N:=N) (y5:=(gR ts [] (0+1+1,[]),(aB ts (0+1)).2.1)) (o2:=o) d h A (ts.length+1) N [] y.1 [] [] H (by simp) (by omega) (by omega)
    have F:(o.1,o.2.1,o.2.2.1,o.2.2.2.1,o.2.2.2.2.1,o.2.2.2.2.2.1,o.2.2.2.2.2.2.1,([]:List Dl))=mR (gR ts [] (y.1,[])) []:=by rw[hr'];rfl
    rw[F,B]
    simp only[j0]
    cases h5:oI ts (ts.length+1) [] y.1 with
    |inl z=>
     rw[h5] at g
     obtain⟨st,l,⟨c,i,pr',b,hi,rfl⟩,rfl⟩:=g
     have hz':((mR (bR ts z i pr' b) l).2.2.2.1 !=0)=true:=by simpa[bR,mR] using c
     simp only[hz',jJ]
     rfl
    |inr l=>
     rw[h5] at g
     obtain⟨pr',p',rfl⟩:=g
     have hz':((mR (gR ts pr' p') l).2.2.2.1 !=0)=false:=rfl
     simp only[hz',jB,jF]
     rw[hr']
     rfl
end
theorem OV{N:Nat}(s:BA)(b:1000005<N):xH N s=some (nU s):=by
 simp only[xH,qIx (N:=N) (by omega),j0,nU]
 by_cases h:(iP s).2.2=0
 .rw[if_neg (show ¬((iP s).2.2 !=0)=true by simpa using h),if_neg (show ¬(iP s).2.2≠0 by simpa using h)]
  obtain⟨a,d,e⟩:=PG h
  have c:=qVe (N:=N) a (by omega) b
  refine Eq.trans ?_ (Eq.trans c ?_)
  .simp only[Prod.eta,qG];rfl
  cases oN (iP s).1<;>rfl
 rw[if_pos (show((iP s).2.2 !=0)=true by simpa using h),if_pos h];rfl
abbrev Hd:=Int×Int×Int×BA
inductive Rose where
 |mk (h:Hd) (ks:List Rose)
def Rose.hd:Rose->Hd
 | .mk h _=>h
def Rose.ks:Rose->List Rose
 | .mk _ ks=>ks
mutual
def Rose.size:Rose->Nat
 | .mk _ ks=>aX ks+1
def aX:List Rose->Nat
 |[]=>0
 |t::l=>t.size+aX l
end
def bX:Nat->List Rose->List Int
 |_,[]=>[]
 |b,t::l=>((b+t.size-1:Nat):Int)::bX (b+t.size) l
def eX(h:Hd)(args:List Int):Ex:=(h.1,h.2.1,h.2.2.1,h.2.2.2,args)
mutual
def Rose.flat(b:Nat):Rose->List Ex
 | .mk h ks=>cN b ks++[eX h (bX b ks)]
def cN(b:Nat):List Rose->List Ex
 |[]=>[]
 |t::l=>t.flat b++cN (b+t.size) l
end
theorem Rose.pos(t:Rose):0<t.size:=by cases t;unfold Rose.size;omega
mutual
theorem iW(t:Rose)(b:Nat):(t.flat b).length=t.size:=by
 match t with
 | .mk h ks=>unfold Rose.flat Rose.size;rw[jA,qV ks b];rfl
theorem qV(l:List Rose)(b:Nat):(cN b l).length=aX l:=by
 match l with
 |[]=>rfl
 |t::l=>unfold cN aX;rw[jA,iW t b,qV l (b+t.size)]
end
theorem qU:∀(l:List Rose) (b:Nat),(bX b l).length=l.length
 |[],_=>rfl
 |t::l,b=>by simp only[bX,jC,qU l]
theorem wA:∀(l k:List Rose),aX (l++k)=aX l+aX k
 |[],k=>by rw[jO,show aX []=0 from rfl,kF]
 |t::l,k=>by
  have a:=wA l k
  rw[jQ,show aX (t::(l++k))=t.size+aX (l++k) from rfl,show aX (t::l)=t.size+aX l from rfl];omega
theorem HK:∀(l k:List Rose) (b:Nat),bX b (l++k)=bX b l++bX (b+aX l) k
 |[],k,b=>by simp[bX,aX]
 |t::l,k,b=>by
  rw[jQ]
  simp only[bX,aX,HK l k,jQ]
  rw[gI]
theorem DH:∀(l k:List Rose) (b:Nat),cN b (l++k)=cN b l++cN (b+aX l) k
 |[],k,b=>by simp[cN,aX]
 |t::l,k,b=>by
  rw[jQ]
  simp only[cN,aX,DH l k,jD]
  rw[gI]
theorem VO:∀l:List Rose,l.length<=aX l
 |[]=>kE _
 |t::l=>by
  have:=VO l
  have:=t.pos
  simp only[aX,jC];omega
def oP:List Ex->Nat->List Int->Option (List Int)
 |[],_,st=>some st
 |x::l,i,st=>if x.2.2.2.2.length<=st.length/\st.drop (st.length-x.2.2.2.2.length)=x.2.2.2.2 then oP l (i+1) (st.take (st.length-x.2.2.2.2.length)++[(i:Int)]) else none
theorem VZ{fs:List Rose}{h:Hd}{args:List Int}{m:Nat}(n:args.length<=fs.length)(o:fs.length-args.length=m)(e:(bX 0 fs).drop m=args):
  aX (fs.take m++[Rose.mk h (fs.drop m)])=aX fs+1/\bX 0 (fs.take m++[Rose.mk h (fs.drop m)])=(bX 0 fs).take m++[((aX fs:Nat):Int)]/\cN 0 (fs.take m++[Rose.mk h (fs.drop m)])=cN 0 fs++[eX h args]:=by
 have a:fs=fs.take m++fs.drop m:=(gP m fs).symm
 have b:(fs.take m).length=m:=by rw[gK];omega
 have c:bX 0 fs=bX 0 (fs.take m)++bX (aX (fs.take m)) (fs.drop m):=by
  conv=>lhs;rw[a]
  rw[HK,kF]
 have g:cN 0 fs=cN 0 (fs.take m)++cN (aX (fs.take m)) (fs.drop m):=by
  conv=>lhs;rw[a]
  rw[DH,kF]
 have d:aX fs=aX (fs.take m)+aX (fs.drop m):=by
  conv=>lhs;rw[a]
  rw[wA]
 have l:(bX 0 (fs.take m)).length=m:=by rw[qU,b]
 have f:args=bX (aX (fs.take m)) (fs.drop m):=by
  rw[<-e,c,gL (by omega),jZ (by omega),jO]
 have k:(bX 0 fs).take m=bX 0 (fs.take m):=by
  rw[c,gD (by omega),gM (by omega)]
 rw[k]
 refine⟨?_,?_,?_⟩
 .rw[wA,d];simp only[aX,Rose.size];omega
 .rw[HK,kF]
  simp only[bX,Rose.size]
  rw[d,show aX (fs.take m)+(aX (fs.drop m)+1)-1=aX (fs.take m)+aX (fs.drop m) by omega]
 rw[DH,kF,g,jD]
 simp only[cN,Rose.flat,jW,<-f]
theorem LG(x:Ex)(l:List Ex)(i:Nat)(st a:List Int)(h:x.2.2.2.2=a):oP (x::l) i st=if a.length<=st.length/\st.drop (st.length-a.length)=a then oP l (i+1) (st.take (st.length-a.length)++[(i:Int)]) else none:=by
 subst h;rfl
mutual
theorem YH(t:Rose)(b:Nat)(rest:List Ex)(st:List Int):oP (t.flat b++rest) b st=oP rest (b+t.size) (st++[((b+t.size-1:Nat):Int)]):=by
 match t with
 | .mk h ks=>
  unfold Rose.flat
  rw[jD,WV ks b,List.singleton_append]
  have a:(st++bX b ks).length-(bX b ks).length=st.length:=by rw[jA];omega
  rw[LG (eX h (bX b ks)) rest (b+aX ks) (st++bX b ks) (bX b ks) rfl,if_pos ⟨by rw[jA];omega,by rw[a,fY]⟩,a,fJ]
  unfold Rose.size
  rw[show b+(aX ks+1)-1=b+aX ks by omega,<-gI]
theorem WV(l:List Rose)(b:Nat)(rest:List Ex)(st:List Int):oP (cN b l++rest) b st=oP rest (b+aX l) (st++bX b l):=by
 match l with
 |[]=>simp[cN,aX,bX]
 |t::l=>
  unfold cN
  rw[jD,YH t b,WV l (b+t.size)]
  simp only[aX,bX,jD,List.singleton_append]
  rw[gI]
end
def AtT(l:List Ex)(b:Nat)(t:Rose):Prop:=∃p q,l=p++t.flat b++q/\p.length=b
def AtTs(l:List Ex)(b:Nat)(ts:List Rose):Prop:=∃p q,l=p++cN b ts++q/\p.length=b
theorem AtT.whole(t:Rose):AtT (t.flat 0) 0 t:=⟨[],[],by simp,rfl⟩
theorem AtT.args{l:List Ex}{b:Nat}{h:Hd}{ks:List Rose}(g:AtT l b (.mk h ks)):l[b+aX ks]? =some (eX h (bX b ks))/\AtTs l b ks:=by
 obtain⟨p,q,rfl,rfl⟩:=g
 unfold Rose.flat
 constructor
 .rw[jD,List.getElem?_append_right (by omega),jD,List.getElem?_append_right (by rw[qV];omega),qV]
  rw[show p.length+aX ks-p.length-aX ks=0 by omega]
  rfl
 exact⟨p,[eX h (bX p.length ks)]++q,by simp only[jD],rfl⟩
theorem AtTs.head{l:List Ex}{b:Nat}{t:Rose}{ts:List Rose}(g:AtTs l b (t::ts)):AtT l b t/\AtTs l (b+t.size) ts:=by
 obtain⟨p,q,rfl,rfl⟩:=g
 unfold cN
 exact⟨⟨p,cN (p.length+t.size) ts++q,by simp only[jD],rfl⟩,⟨p++t.flat p.length,q,by simp only[jD],by rw[jA,iW]⟩⟩
theorem AtT.le{l:List Ex}{b:Nat}{t:Rose}(g:AtT l b t):b+t.size<=l.length:=by
 obtain⟨p,q,rfl,rfl⟩:=g
 rw[jA,jA,iW];omega
def eG(s:BA):Bool:=lW s&& !pF s
theorem HU{N:Nat}{s:BA}(a:100<N):uN N s=some (eG s):=by
 simp only[uN,SO a,OU,j0]
 unfold eG
 cases lW s<;>rfl
def emB:BA:=⟨#[]⟩
theorem qSu(a b:Bool):(if a=true then some b else some false:Option Bool)=some (a&&b):=by cases a<;>rfl
theorem eqE(s:BA):(s.toList==(⟨#[]⟩:BA).toList)=decide (s=emB):=mF _ _
def pU(x:Ex):Int:=(x.2.2.2.2.length:Int)
def iM(np:Int)(x:Ex):Bool:=
 if x.1=1 then decide (x.2.2.2.1=emB)&&(x.2.2.1==0&&(pU x==0&&(decide (x.2.1>=-9007199254740992)&&decide (x.2.1<=9007199254740992))))
 else if x.1=2 then decide (x.2.2.2.1=emB)&&(x.2.2.1==0&&(pU x==0&&(decide (x.2.1>=0)&&decide (x.2.1<np))))
 else if x.1=3 then x.2.1==0&&(x.2.2.1==0&&eG x.2.2.2.1)
 else if x.1=4 then x.2.1==0&&(decide (x.2.2.2.1=emB)&&(pU x==2&&(decide (x.2.2.1>=1)&&decide (x.2.2.1<=7))))
 else if x.1=5 then x.2.1==0&&(decide (x.2.2.2.1=emB)&&(x.2.2.1==0&&pU x==3))
 else if x.1=6 then x.2.1==0&&(x.2.2.1==0&&(pU x==1&&mK x.2.2.2.1.data.toList))
 else if x.1=7\/x.1=8 then x.2.1==0&&(x.2.2.1==0&&(pU x==0&&mK x.2.2.2.1.data.toList))
 else if x.1=9 then x.2.1==0&&(x.2.2.1==0&&(pU x==0&&lW x.2.2.2.1))
 else if x.1=10 then decide (x.2.2.2.1=emB)&&(x.2.2.1==0&&(pU x==0&&(decide (x.2.1>=0)&&decide (x.2.1<64))))
 else false
theorem qQx{N:Nat}{np:Int}{x:Ex}(b:x.2.2.2.1.size<=1048576)(a:3000000<N):DD N x np=some (iM np x):=by
 simp only[DD,eqE,SP (s:=x.2.2.2.1) (N:=N) (by omega) (by omega),SO (s:=x.2.2.2.1) (show 100<N by omega),HU (s:=x.2.2.2.1) (show 100<N by omega),j0,qSu]
 unfold iM pU
 by_cases h1:x.1=1
 .simp[h1]
 by_cases h2:x.1=2
 .simp[h2]
 by_cases h3:x.1=3
 .simp[h3]
 by_cases h4:x.1=4
 .simp[h4]
 by_cases h5:x.1=5
 .simp[h5]
 by_cases h6:x.1=6
 .simp[h6]
 by_cases h7:x.1=7
 .simp[h7]
 by_cases h8:x.1=8
 .simp[h8]
 by_cases h9:x.1=9
 .simp[h9]
 by_cases h10:x.1=10
 .simp[h10]
 simp[h1,h2,h3,h4,h5,h6,h7,h8,h9,h10]
def StOk(st:List Int):Nat->List Rose->Prop
 |_,[]=>True
 |b,t::l=>st[b+t.size-1]? =some (b:Int)/\StOk st (b+t.size) l
theorem StOk.app{st:List Int}:∀{l k:List Rose} {b:Nat},StOk st b (l++k)↔StOk st b l/\StOk st (b+aX l) k
 |[],k,b=>by simp[StOk,aX]
 |t::l,k,b=>by
  rw[jQ]
  simp only[StOk,aX,StOk.app (l:=l)]
  rw[and_assoc,gI]
theorem StOk.set{st:List Int}{i:Nat}{v:Int}:∀{l:List Rose} {b:Nat},StOk st b l->b+aX l<=i->StOk (st.set i v) b l
 |[],_,_,_=>trivial
 |t::l,b,h,hi=>by
  have a:=t.pos
  simp only[aX] at hi
  exact⟨by rw[List.getElem?_set_ne (by omega)];exact h.1,h.2.set (by omega)⟩
theorem tU{α:Type}{l:List α}{i:Nat}{v:α}(h:l[i]? =some v):idx l (i:Int)=some v:=by
 have hi:i<l.length:=by
  by_cases hl:i<l.length
  .exact hl
  rw[List.getElem?_eq_none (by omega)] at h;cases h
 rw[iX hi]
 rw[List.getElem?_eq_getElem hi] at h
 exact h
theorem qAi{st:List Int}{i:Nat}{v:Int}(h:st[i]? =some v):st.set i v=st:=by
 refine hD fun j=> ?_
 rw[List.getElem?_set]
 by_cases e:i=j
 .subst e
  have hi:i<st.length:=by
   by_cases hl:i<st.length
   .exact hl
   rw[List.getElem?_eq_none (by omega)] at h;cases h
  rw[if_pos rfl,if_pos hi,h]
 rw[if_neg e]
theorem qCq{N i:Nat}{x:Ex}{so:List Int}:∀(k M:Nat) (pre:List Rose) (st:List Int),k<=x.2.2.2.2.length->k<M->StOk st 0 pre->st[i]? =some ((aX pre:Nat):Int)->aX pre<=i->i<2000000->k<2000000->
  aJ (CI N ((i:Int),so) x) M ((k:Int)-1,st)=some (if k<=pre.length/\(bX 0 pre).drop (pre.length-k)=x.2.2.2.2.take k then .inl (st.set i ((aX (pre.take (pre.length-k)):Nat):Int)) else .inr false)
 |_,0,_,_,_,h,_,_,_,_,_=>absurd h (kT _)
 |0,M+1,pre,st,_,_,_,hi,_,_,_=>by
  simp only[aJ,CI]
  rw[if_neg (by simp),if_pos ⟨kE _,by rw[Nat.sub_zero,List.drop_of_length_le (by rw[qU];exact jP _),List.take_zero]⟩]
  rw[Nat.sub_zero,fI,qAi hi]
  rfl
 |k+1,M+1,pre,st,A,z,q,hi,d,u,y=>by
  have c:k<x.2.2.2.2.length:=by omega
  have ek:((k+1:Nat):Int)-1=(k:Int):=by omega
  have wk:IntKind.wrap .i64 ((k:Int)-1)=(k:Int)-1:=by rw[bT (by omega) (by omega)]
  simp only[aJ,CI]
  rw[ek,if_pos (by simp),iX c,tU hi]
  simp only[j0]
  have wc:IntKind.wrap .i64 (((aX pre:Nat):Int)-1)=((aX pre:Nat):Int)-1:=by rw[bT (by omega) (by omega)]
  rw[wc]
  have n:x.2.2.2.2.take (k+1)=x.2.2.2.2.take k++[x.2.2.2.2[k]]:=LI c
  rcases fW pre with rfl|⟨pre',t,rfl⟩
  .have b:¬(k+1<=([]:List Rose).length/\(bX 0 []).drop (([]:List Rose).length-(k+1))=x.2.2.2.2.take (k+1)):=by
    rintro⟨h,-⟩
    exact absurd h (by simp)
   rw[if_neg b]
   by_cases a:x.2.2.2.2[k]=((aX []:Nat):Int)-1
   .have g:x.2.2.2.2[k]<0:=by rw[a];simp[aX]
    rw[if_neg (by simpa using a)]
    simp only[j0,jV g,jJ]
   rw[if_pos (by simpa using a)]
   rfl
  rw[dB] at q hi d ⊢
  have s:aX (pre'++[t])=aX pre'+t.size:=by rw[wA];simp[aX]
  have B:=t.pos
  obtain⟨r,e,-⟩:=StOk.app.1 q
  rw[kF] at e
  have v:bX 0 (pre'++[t])=bX 0 pre'++[((aX pre'+t.size-1:Nat):Int)]:=by
   rw[HK,kF];rfl
  have l:k<=pre'.length->(bX 0 (pre'++[t])).drop ((pre'++[t]).length-(k+1))=(bX 0 pre').drop (pre'.length-k)++[((aX pre'+t.size-1:Nat):Int)]:=fun h=>by
   rw[v,jA,gE,show pre'.length+1-(k+1)=pre'.length-k by omega,gL (by rw[qU];omega)]
  rw[s] at hi d ⊢
  by_cases a:x.2.2.2.2[k]=((aX pre'+t.size:Nat):Int)-1
  .have g:decide (x.2.2.2.2[k]<0)=false:=jY (by omega)
   have o:x.2.2.2.2[k]=((aX pre'+t.size-1:Nat):Int):=by omega
   rw[if_neg (by simpa using a)]
   simp only[j0,g,jB,jF]
   rw[o,tU e]
   simp only[j0,jX,wk]
   have p:i<st.length:=by
    by_cases hl:i<st.length
    .exact hl
    rw[List.getElem?_eq_none (by omega)] at hi;cases hi
   rw[qCq k M pre' _ (by omega) (by omega) (r.set (by omega)) (by rw[List.getElem?_set_self p]) (by omega) u (by omega),List.set_set]
   congr 1
   by_cases hc:k<=pre'.length/\(bX 0 pre').drop (pre'.length-k)=x.2.2.2.2.take k
   .rw[if_pos hc,if_pos ⟨by simp only[jA,gE];omega,by rw[l hc.1,n,hc.2,o]⟩]
    rw[jA,gE,show pre'.length+1-(k+1)=pre'.length-k by omega,gD (by omega)]
   rw[if_neg hc,if_neg]
   rintro⟨f,b⟩
   simp only[jA,gE] at f
   rw[l (by omega),n] at b
   exact hc ⟨by omega,(List.append_inj' b rfl).1⟩
  rw[if_pos (by simpa using a),if_neg]
  .rfl
  rintro⟨f,b⟩
  simp only[jA,gE] at f
  rw[l (by omega),n] at b
  have:=(List.append_inj' b rfl).2
  simp only[gF,and_true] at this
  exact a (by omega)
theorem qBz{N:Nat}{d:Dl}(o:d.2.2.2.length<2000000)(k:∀x∈d.2.2.2,x.2.2.2.1.size<=1048576/\x.2.2.2.2.length<2000000)(v:3000000<N):∀(M:Nat) (fs:List Rose) (st:List Int),cN 0 fs=d.2.2.2.take (aX fs)->aX fs<=d.2.2.2.length->st.length=d.2.2.2.length->StOk st 0 fs->d.2.2.2.length-aX fs<M->
  ∃out,aJ (xK N d) M (((aX fs:Nat):Int),st)=some out/\(match out with
   | .inl st'=>(∀x∈d.2.2.2.drop (aX fs),iM (d.2.2.1.length:Int) x=true)/\∃fs',oP (d.2.2.2.drop (aX fs)) (aX fs) (bX 0 fs)=some (bX 0 fs')/\StOk st' 0 fs'/\st'.length=d.2.2.2.length/\aX fs'=d.2.2.2.length
   | .inr b=>b=false/\¬((∀x∈d.2.2.2.drop (aX fs),iM (d.2.2.1.length:Int) x=true)/\∃r,oP (d.2.2.2.drop (aX fs)) (aX fs) (bX 0 fs)=some r))
 |0,_,_,_,_,_,_,h=>absurd h (kT _)
 |M+1,fs,st,F,H,l,q,K=>by
  by_cases hi:aX fs<d.2.2.2.length
  .have z:d.2.2.2.drop (aX fs)=d.2.2.2[aX fs]::d.2.2.2.drop (aX fs+1):=DG hi
   obtain⟨A,B⟩:=k _ (kH hi)
   rw[z]
   generalize g:d.2.2.2[aX fs]=x at A B
   have wi:IntKind.wrap .i64 (((aX fs:Nat):Int)+1)=((aX fs+1:Nat):Int):=by rw[bT (by omega) (by omega)];omega
   have wl:IntKind.wrap .i64 ((x.2.2.2.2.length:Int)-1)=(x.2.2.2.2.length:Int)-1:=by rw[bT (by omega) (by omega)]
   have c:aX fs<st.length:=by omega
   have n:(xK N d (((aX fs:Nat):Int),st))=if iM (d.2.2.1.length:Int) x=true then(if x.2.2.2.2.length<=fs.length/\(bX 0 fs).drop (fs.length-x.2.2.2.2.length)=x.2.2.2.2 then some (.inl (((aX fs+1:Nat):Int),(st.set (aX fs) ((aX fs:Nat):Int)).set (aX fs) ((aX (fs.take (fs.length-x.2.2.2.2.length)):Nat):Int))) else some (.inr (.inr false))) else some (.inr (.inr false)):=by
    simp only[xK]
    rw[if_pos (by simp only[j9];omega),iX hi]
    simp only[j0,g]
    rw[show DD N (x.1,x.2.1,x.2.2.1,x.2.2.2.1,x.2.2.2.2) (d.2.2.1.length:Int)=_ from qQx A v]
    simp only[j0]
    by_cases a:iM (d.2.2.1.length:Int) x=true
    .rw[if_pos a,a,if_neg (by decide),iX c]
     simp only[j0,jX,wi,wl]
     have f:=qCq (N:=N) (i:=aX fs) (x:=x) (so:=st) x.2.2.2.2.length N fs (st.set (aX fs) ((aX fs:Nat):Int)) (jP _) (by omega) (q.set (by omega)) (List.getElem?_set_self c) (jP _) (by omega) B
     rw[fI] at f
     rw[f]
     simp only[j0]
     by_cases hc:x.2.2.2.2.length<=fs.length/\(bX 0 fs).drop (fs.length-x.2.2.2.2.length)=x.2.2.2.2
     .rw[if_pos hc,if_pos hc]
     rw[if_neg hc,if_neg hc]
    rw[if_neg a,show iM (d.2.2.1.length:Int) x=false by simpa using a]
    rfl
   simp only[aJ,n]
   by_cases a:iM (d.2.2.1.length:Int) x=true
   .rw[if_pos a]
    by_cases hc:x.2.2.2.2.length<=fs.length/\(bX 0 fs).drop (fs.length-x.2.2.2.2.length)=x.2.2.2.2
    .rw[if_pos hc]
     simp only[j0]
     obtain⟨f,E,u⟩:=VZ (h:=(x.1,x.2.1,x.2.2.1,x.2.2.2.1)) hc.1 rfl hc.2
     have hx':eX (x.1,x.2.1,x.2.2.1,x.2.2.2.1) x.2.2.2.2=x:=rfl
     rw[hx'] at u
     rw[List.set_set]
     have s:StOk (st.set (aX fs) ((aX (fs.take (fs.length-x.2.2.2.2.length)):Nat):Int)) 0 (fs.take (fs.length-x.2.2.2.2.length)++[Rose.mk (x.1,x.2.1,x.2.2.1,x.2.2.2.1) (fs.drop (fs.length-x.2.2.2.2.length))]):=by
      refine StOk.app.2 ⟨?_,?_,trivial⟩
      .have p:=q
       rw[<-gP (fs.length-x.2.2.2.2.length) fs] at p
       refine(StOk.app.1 p).1.set ?_
       have:=wA (fs.take (fs.length-x.2.2.2.2.length)) (fs.drop (fs.length-x.2.2.2.2.length))
       rw[gP] at this
       omega
      have:=wA (fs.take (fs.length-x.2.2.2.2.length)) (fs.drop (fs.length-x.2.2.2.2.length))
      rw[gP] at this
      rw[kF,show aX (fs.take (fs.length-x.2.2.2.2.length))+(Rose.mk (x.1,x.2.1,x.2.2.1,x.2.2.2.1) (fs.drop (fs.length-x.2.2.2.2.length))).size-1=aX fs by simp only[Rose.size];omega]
      exact List.getElem?_set_self c
     have G:d.2.2.2.take (aX fs+1)=d.2.2.2.take (aX fs)++[x]:=by rw[LI hi,g]
     obtain⟨out,D,o2⟩:=qBz o k v M _ (st.set (aX fs) ((aX (fs.take (fs.length-x.2.2.2.2.length)):Nat):Int)) (by rw[u,f,G,F]) (by rw[f];omega) (by rw[gW];exact l) s (by rw[f];omega)
     rw[f] at D o2
     refine⟨out,D,?_⟩
     have p:oP (x::d.2.2.2.drop (aX fs+1)) (aX fs) (bX 0 fs)=oP (d.2.2.2.drop (aX fs+1)) (aX fs+1) (bX 0 (fs.take (fs.length-x.2.2.2.2.length)++[Rose.mk (x.1,x.2.1,x.2.2.1,x.2.2.2.1) (fs.drop (fs.length-x.2.2.2.2.length))])):=by
      rw[LG x _ _ _ x.2.2.2.2 rfl,qU,if_pos hc,E]
     rw[p]
     cases out with
     |inl st'=>exact⟨fun y t=>(jT.1 t).elim (fun e=>e▸a) (o2.1 y),o2.2⟩
     |inr b=>exact⟨o2.1,fun h=>o2.2 ⟨fun y t=>h.1 y (jL _ t),h.2⟩⟩
    rw[if_neg hc]
    refine⟨_,rfl,rfl,?_⟩
    rintro⟨-,r,f⟩
    rw[LG x _ _ _ x.2.2.2.2 rfl,qU,if_neg hc] at f
    cases f
   rw[if_neg a]
   exact⟨_,rfl,rfl,fun h=>a (h.1 x (jH ..))⟩
  have c:aX fs=d.2.2.2.length:=by omega
  have a:d.2.2.2.drop (aX fs)=[]:=jZ (by omega)
  have n:(xK N d (((aX fs:Nat):Int),st))=some (.inr (.inl st)):=by
   simp only[xK]
   rw[if_neg (by simp only[j9];omega)]
  simp only[aJ,n,j0]
  refine⟨.inl st,rfl,?_⟩
  dsimp only
  rw[a]
  exact⟨fun x g=>(by cases g),fs,rfl,q,l,c⟩
def oneP:Option (List Int)->Bool
 |some [_]=>true
 |_=>false
def AX(d:Dl):Bool:=d.2.2.2.all (iM (d.2.2.1.length:Int))&&oneP (oP d.2.2.2 0 [])
def tX(d:Dl):Bool:=if d.1=1\/d.1=2 then eG d.2.1 else if d.1=3 then mK d.2.1.data.toList else false
def yC(d:Dl):Bool:=d.2.2.1.all fun s=>d.1==1&&eG s
def rK(d:Dl):Bool:=tX d&&(yC d&&AX d)
def SmD(d:Dl):Prop:=d.2.1.size<=1048576/\d.2.2.1.length<2000000/\d.2.2.2.length<2000000/\∀x∈d.2.2.2,x.2.2.2.1.size<=1048576/\x.2.2.2.2.length<2000000
theorem qMq{N:Nat}{d:Dl}(e:SmD d)(k:3000000<N):aJ (zF N d) N 0=some (if yC d=true then .inl () else .inr false):=by
 obtain⟨-,g,-,-⟩:=e
 have h:=HG (L:=d.2.2.1) (fun(_:Unit) (i:Nat)=>(i:Int)) (f:=zF N d)
  (fun _ s=>if(!(d.1==1&&eG s))=true then .inr (.inr false) else .inl ()) (fun _=>(.inl ():Unit⊕Bool)) (fun _ _=>True) (by
   intro t i hi _
   simp only[zF]
   rw[if_pos (by simp only[j9];omega),iX hi]
   have ew:IntKind.wrap .i64 ((i:Int)+1)=((i+1:Nat):Int):=by rw[bT (by omega) (by omega)];omega
   simp only[j0,HU (s:=d.2.2.1[i]) (show 100<N by omega),ew]
   by_cases hk:d.1=1
   .have a:(d.1 !=1)=false:=by simp[hk]
    have c:(d.1==1)=true:=by simp[hk]
    simp only[a,c,jB,jF,j0,fH]
    cases eG d.2.2.1[i]<;>rfl
   .have a:(d.1 !=1)=true:=by simp[hk]
    have c:(d.1==1)=false:=by simp[hk]
    simp only[a,c,jJ,j0,Bool.false_and,kP]) (fun _ _ _ _ _ _=>trivial) (by
   intro t _
   simp only[zF]
   rw[if_neg (by simp)]) (M:=N) (t:=()) (by omega) trivial
 rw[show((0:Nat):Int)=0 from rfl] at h
 rw[h,IA (b:=(.inr false:Unit⊕Bool)) (fun s=> !(d.1==1&&eG s)) (fun x=>rfl)]
 unfold yC
 rw[dO]
 cases(d.2.2.1.any fun s=> !(d.1==1&&eG s))<;>rfl
theorem qJg{N:Nat}{d:Dl}(l:SmD d)(k:3000000<N):CQ N d=some (rK d):=by
 obtain⟨B,E,q,v⟩:=id l
 unfold CQ
 have e:((if(d.1==1)=true then(some (d.1==1)) else(some (d.1==2)):Option (Bool)).bind fun o2=>if o2=true then((uN N d.2.1).bind fun y1=>if(!y1)=true then(some (.inr false)) else(some (.inl ()))) else(if(d.1==3)=true then((vZ N d.2.1).bind fun z=>if(!z)=true then(some (.inr false)) else(some (.inl ()))) else(some (.inr false))):Option ((Unit)⊕(Bool)))=some (if tX d=true then .inl () else .inr false):=by
  simp only[HU (s:=d.2.1) (show 100<N by omega),SP (s:=d.2.1) (N:=N) (by omega) (by omega),j0]
  unfold tX
  by_cases k1:d.1=1
  .simp only[k1,gA,jJ,j0,true_or]
   cases eG d.2.1<;>rfl
  have a:(d.1==1)=false:=by simpa using k1
  by_cases k2:d.1=2
  .simp only[a,k2,gA,jB,jF,jJ,j0,or_true]
   cases eG d.2.1<;>rfl
  have f:(d.1==2)=false:=by simpa using k2
  by_cases k3:d.1=3
  .have c:(d.1==3)=true:=by simpa using k3
   rw[if_neg (show ¬(d.1=1\/d.1=2) by omega),if_pos k3]
   simp only[a,f,c,jB,jF,jJ,j0]
   cases mK d.2.1.data.toList<;>rfl
  have c:(d.1==3)=false:=by simpa using k3
  rw[if_neg (show ¬(d.1=1\/d.1=2) by omega),if_neg k3]
  simp only[a,f,c,jB,jF,j0]
 rw[e]
 simp only[j0]
 unfold rK
 by_cases hh:tX d=true
 .rw[if_pos hh,hh,fH]
  simp only[qMq l k,j0]
  by_cases c:yC d=true
  .rw[if_pos c,c,fH]
   have A:(maxLen:Int)=9223372036854775807:=rfl
   have n:sE 8 (0:Int) (d.2.2.2.length:Int)=some (List.replicate d.2.2.2.length 0):=by
    unfold sE;rw[if_pos (by omega),jX]
   simp only[n,j0]
   obtain⟨out,o,o2⟩:=qBz (N:=N) q v k N [] (List.replicate d.2.2.2.length 0) (by simp[cN,aX]) (kE _) (by simp) trivial (by omega)
   have p:((aX []:Nat):Int)=0:=rfl
   rw[p] at o
   rw[o]
   simp only[j0]
   rw[show aX []=0 from rfl,kI] at o2
   cases out with
   |inr b=>
    obtain⟨rfl,f⟩:=o2
    dsimp only
    congr 1
    unfold AX
    cases g:d.2.2.2.all (iM (d.2.2.1.length:Int)) with
    |false=>rfl
    |true=>
     rw[fH]
     cases h:oP d.2.2.2 0 [] with
     |none=>rfl
     |some r=>exact absurd ⟨jU.1 g,r,h⟩ f
   |inl st=>
    obtain⟨g,fs,h,x,F,y⟩:=o2
    dsimp only
    have ha':d.2.2.2.all (iM (d.2.2.1.length:Int))=true:=jU.2 g
    have ho':oP d.2.2.2 0 []=some (bX 0 fs):=h
    unfold AX
    rw[ha',ho',fH]
    rcases fW fs with rfl|⟨pre,t,rfl⟩
    .have f:d.2.2.2.length=0:=by rw[<-y];rfl
     rw[if_neg (by simp[f])]
     rfl
    rw[dB] at*
    have D:aX (pre++[t])=aX pre+t.size:=by rw[wA];simp[aX]
    have c:=t.pos
    obtain⟨-,f,-⟩:=StOk.app.1 x
    rw[kF] at f
    have w:IntKind.wrap .i64 ((d.2.2.2.length:Int)-1)=((aX pre+t.size-1:Nat):Int):=by rw[bT (by omega) (by omega)];omega
    rw[if_pos (by simp only[j9];omega),w,tU f]
    simp only[j0]
    congr 1
    rw[HK,kF]
    cases pre with
    |nil=>rfl
    |cons u pre=>
     have G:=u.pos
     have a:((((aX (u::pre):Nat)):Int)==0)=false:=by
      simp only[aX,beq_eq_false_iff_ne];omega
     rw[a]
     cases pre<;>rfl
  rw[if_neg c,show yC d=false by simpa using c]
  rfl
 rw[if_neg hh,show tX d=false by simpa using hh]
 rfl
def SmSr(f:Sr):Prop:=f.2.1.length<2000000/\f.2.2.length<2000000/\∀d∈f.2.2,SmD d
def rS(f:Sr):Bool:=eG f.1&&(f.2.1.all eG&&f.2.2.all rK)
theorem qLw{N:Nat}{f:Sr}(h:SmSr f)(g:3000000<N):CX N f=some (rS f):=by
 obtain⟨k,l,e⟩:=h
 unfold CX
 rw[HU (by omega)]
 simp only[j0]
 unfold rS
 by_cases hn:eG f.1=true
 .rw[hn,if_neg (by decide),fH]
  have a:=HG (L:=f.2.1) (fun(_:Unit) (i:Nat)=>(i:Int)) (f:=CO N f)
   (fun _ s=>if(!eG s)=true then .inr (.inr false) else .inl ()) (fun _=>(.inl ():Unit⊕Bool)) (fun _ _=>True) (by
    intro t i hi _
    simp only[CO]
    rw[if_pos (by simp only[j9];omega),iX hi]
    have ew:IntKind.wrap .i64 ((i:Int)+1)=((i+1:Nat):Int):=by rw[bT (by omega) (by omega)];omega
    simp only[j0,HU (s:=f.2.1[i]) (show 100<N by omega),ew]
    cases eG f.2.1[i]<;>rfl) (fun _ _ _ _ _ _=>trivial) (by
    intro t _
    simp only[CO]
    rw[if_neg (by simp)]) (M:=N) (t:=()) (by omega) trivial
  have c:=PR (L:=f.2.2) (fun(_:Unit) (i:Nat)=>(i:Int)) (f:=CP N f)
   (fun _ d=>if(!rK d)=true then .inr (.inr false) else .inl ()) (fun _=>(.inl ():Unit⊕Bool)) (fun _ _=>True) (by
    intro t i hi _
    simp only[CP]
    rw[if_pos (by simp only[j9];omega),iX hi]
    have ew:IntKind.wrap .i64 ((i:Int)+1)=((i+1:Nat):Int):=by rw[bT (by omega) (by omega)];omega
    simp only[j0,ew]
    rw[show CQ N (f.2.2[i].1,f.2.2[i].2.1,f.2.2[i].2.2.1,f.2.2[i].2.2.2)=_ from qJg (e _ (kH hi)) g]
    simp only[j0]
    cases rK f.2.2[i]<;>rfl) (fun _ _ _ _ _ _=>trivial) (by
    intro t _
    simp only[CP]
    rw[if_neg (by simp)]) f.2.2.length 0 N () (by omega) (by omega) trivial
  rw[show((0:Nat):Int)=0 from rfl] at a c
  rw[a,IA (b:=(.inr false:Unit⊕Bool)) (fun s=> !eG s) (fun x=>rfl),dO]
  cases ha:(f.2.1.any fun s=> !eG s) with
  |true=>rfl
  |false=>
   simp only[jB,jF,j0,kP,fH]
   rw[c,kI,IA (b:=(.inr false:Unit⊕Bool)) (fun s=> !rK s) (fun x=>rfl),dO]
   cases(f.2.2.any fun s=> !rK s)<;>rfl
 rw[show eG f.1=false by simpa using hn]
 rfl
def oE{α:Type}[DecidableEq α]:List α->List α->Bool
 |_,[]=>false
 |seen,x::l=>decide (x∈seen)||oE (seen++[x]) l
def lS{α:Type}[DecidableEq α](l:List α):Bool:=oE [] l
theorem qBa{α:Type}[DecidableEq α]{l:List α}{f:Int->Option (Int⊕(Unit⊕Bool))}(b:∀(i:Nat) (hi:i<l.length),f (i:Int)=some (if l[i]∈l.take i then .inr (.inr true) else .inl ((i+1:Nat):Int)))
  (a:f (l.length:Int)=some (.inr (.inl ()))):∀(d i M:Nat),i+d=l.length->d<M->aJ f M (i:Int)=some (if oE (l.take i) (l.drop i)=true then .inr true else .inl ())
 |_,_,0,_,h=>absurd h (kT _)
 |0,i,M+1,c,_=>by
  have:i=l.length:=by omega
  subst this
  simp only[aJ,a,j0,hU,oE]
  rfl
 |d+1,i,M+1,c,g=>by
  have hi:i<l.length:=by omega
  simp only[aJ,b i hi,j0]
  rw[DG hi]
  by_cases hm:l[i]∈l.take i
  .have e:oE (l.take i) (l[i]::l.drop (i+1))=true:=by
    show(decide _||_)=true
    rw[jV hm,Bool.true_or]
   rw[if_pos hm,if_pos e]
  have e:oE (l.take i) (l[i]::l.drop (i+1))=oE (l.take (i+1)) (l.drop (i+1)):=by
   show(decide _||_)=_
   rw[jY hm,gN,LI hi]
  rw[if_neg hm,e]
  exact qBa b a d (i+1) M (by omega) (by omega)
theorem YJ{α:Type}[DecidableEq α]{l:List α}{f:Int->Option (Int⊕(Unit⊕Bool))}(c:∀(i:Nat) (hi:i<l.length),f (i:Int)=some (if l[i]∈l.take i then .inr (.inr true) else .inl ((i+1:Nat):Int)))
  (b:f (l.length:Int)=some (.inr (.inl ()))) {M:Nat} (a:l.length<M):aJ f M 0=some (if lS l=true then .inr true else .inl ()):=by
 have h:=qBa c b l.length 0 M (by omega) a
 rw[List.take_zero,kI] at h
 exact h
theorem QW{α:Type}[DecidableEq α]{l:List α}{x:α}{f:Int->Option (Int⊕(Unit⊕Int))}(c:∀(i:Nat) (hi:i<l.length),f (i:Int)=some (if x=l[i] then .inr (.inr (i:Int)) else .inl ((i+1:Nat):Int)))
  (b:f (l.length:Int)=some (.inr (.inl ()))):∀(d i M:Nat),i+d=l.length->d<M->∃o,aJ f M (i:Int)=some o/\(match o with| .inl _=>x∉l.drop i| .inr j=>x∈l.drop i/\0<=j)
 |_,_,0,_,h=>absurd h (kT _)
 |0,i,M+1,e,_=>by
  have:i=l.length:=by omega
  subst this
  simp only[aJ,b,j0,hU]
  exact⟨.inl (),rfl,gB⟩
 |d+1,i,M+1,e,k=>by
  have hi:i<l.length:=by omega
  simp only[aJ,c i hi,j0]
  rw[DG hi]
  by_cases a:x=l[i]
  .rw[if_pos a]
   exact⟨.inr (i:Int),rfl,by rw[a];exact jH ..,by omega⟩
  rw[if_neg a]
  simp only
  obtain⟨o,g,o2⟩:=QW c b d (i+1) M (by omega) (by omega)
  refine⟨o,g,?_⟩
  cases o with
  |inl u=>exact fun h=>(jT.1 h).elim a o2
  |inr j=>exact⟨jL _ o2.1,o2.2⟩
theorem VL{N:Nat}{s:BA}{l:List BA}(c:l.length<2000000)(b:l.length<N):uF N l s=some (decide (s∈l)):=by
 obtain⟨o,a,o2⟩:=QW (l:=l) (x:=s) (f:=vM N l s) (fun i hi=>by
  simp only[vM]
  rw[if_pos (by simp only[j9];omega),iX hi]
  have ew:IntKind.wrap .i64 ((i:Int)+1)=((i+1:Nat):Int):=by rw[bT (by omega) (by omega)];omega
  simp only[j0,mF,j9,ew]
  split<;>rfl) (by
  simp only[vM]
  rw[if_neg (by simp)]) l.length 0 N (by omega) b
 rw[show((0:Nat):Int)=0 from rfl] at a
 rw[kI] at o2
 simp only[uF,yS,a,j0]
 cases o with
 |inl u=>
  simp only at o2
  rw[jY o2];rfl
 |inr j=>
  simp only at o2 ⊢
  rw[jV o2.1]
  simp[o2.2]
theorem XZ{N:Nat}{l:List BA}(b:l.length<2000000)(a:l.length<N):CG N l=some (lS l):=by
 have h:=YJ (l:=l) (f:=BX N l) (fun i hi=>by
  simp only[BX]
  rw[if_pos (by simp only[j9];omega),iX hi,QI (by omega) (by omega) (by omega)]
  have ew:IntKind.wrap .i64 ((i:Int)+1)=((i+1:Nat):Int):=by rw[bT (by omega) (by omega)];omega
  simp only[j0,jX,Int.toNat_zero,kI,ew]
  rw[VL (by rw[gK];omega) (by rw[gK];omega)]
  simp only[j0,j9]
  split<;>rfl) (by
  simp only[BX]
  rw[if_neg (by simp)]) a
 simp only[CG,h,j0]
 cases lS l<;>rfl
abbrev uD:=Int×BA
instance decMemN(s:uD)(l:List uD):Decidable (s∈l):=@List.instDecidableMemOfLawfulBEq uD instBEqOfDecidableEq inferInstance s l
theorem qJa{N:Nat}{s:uD}{l:List uD}(c:l.length<2000000)(b:l.length<N):FH N l s=some (decide (s∈l)):=by
 obtain⟨o,a,o2⟩:=QW (l:=l) (x:=s) (f:=BL N l s) (fun i hi=>by
  simp only[BL]
  rw[if_pos (by simp only[j9];omega),iX hi]
  have ew:IntKind.wrap .i64 ((i:Int)+1)=((i+1:Nat):Int):=by rw[bT (by omega) (by omega)];omega
  have ee:((s.1==l[i].1)&&((s.2.toList==l[i].2.toList)&&true))=decide (s=l[i]):=by
   rw[kM]
   simp only[mF,jI,kJ,j9,and_true,Prod.ext_iff]
  simp only[j0,ee,j9,ew]
  split<;>rfl) (by
  simp only[BL]
  rw[if_neg (by simp)]) l.length 0 N (by omega) b
 rw[show((0:Nat):Int)=0 from rfl] at a
 rw[kI] at o2
 simp only[FH,KA,a,j0]
 cases o with
 |inl u=>
  simp only at o2
  rw[jY o2];rfl
 |inr j=>
  simp only at o2 ⊢
  rw[jV o2.1]
  simp[o2.2]
theorem qLu{N:Nat}{l:List uD}(b:l.length<2000000)(a:l.length<N):FR N l=some (lS l):=by
 have h:=YJ (l:=l) (f:=BP N l) (fun i hi=>by
  simp only[BP]
  rw[if_pos (by simp only[j9];omega),iX hi,QI (by omega) (by omega) (by omega)]
  have ew:IntKind.wrap .i64 ((i:Int)+1)=((i+1:Nat):Int):=by rw[bT (by omega) (by omega)];omega
  simp only[j0,jX,Int.toNat_zero,kI,ew]
  rw[qJa (by rw[gK];omega) (by rw[gK];omega)]
  simp only[j0,j9]
  split<;>rfl) (by
  simp only[BP]
  rw[if_neg (by simp)]) a
 simp only[FR,h,j0]
 cases lS l<;>rfl
def tC(d:Dl):uD:=(d.1,d.2.1)
def qZ(f:Sr):Bool:=f.2.2.any (fun d=>lS d.2.2.1)||(decide (f.1∈f.2.1)||(lS f.2.1||lS (f.2.2.map tC)))
theorem qOi{N:Nat}{f:Sr}(c:SmSr f)(o:3000000<N):aJ (zJ N f) N ([],0)=some (if f.2.2.any (fun d=>lS d.2.2.1)=true then .inr true else .inl (f.2.2.map tC)):=by
 obtain⟨k,n,b⟩:=c
 have h:=HG (L:=f.2.2) (fun(t:List uD) (i:Nat)=>(t,(i:Int))) (f:=zJ N f)
  (fun t d=>if lS d.2.2.1=true then .inr (.inr true) else .inl (t++[tC d])) (fun t=>(.inl t:List uD⊕Bool)) (fun i t=>t.length<=i) (by
   intro t i hi a
   obtain⟨-,e,-,-⟩:=b _ (kH hi)
   simp only[zJ]
   rw[if_pos (by simp only[j9];omega),iX hi]
   have ew:IntKind.wrap .i64 ((i:Int)+1)=((i+1:Nat):Int):=by rw[bT (by omega) (by omega)];omega
   simp only[j0,XZ e (show(f.2.2[i]).2.2.1.length<N by omega),ew]
   rw[nQ (by simp only[jC,jE];omega) (by omega)]
   simp only[j0]
   split<;>rfl) (by
   intro t i hi t' a h
   split at h
   .cases h
   .cases h
    simp only[jA,jC,jE];omega) (by
   intro t a
   simp only[zJ]
   rw[if_neg (by simp)]) (M:=N) (t:=[]) (by omega) (jP _)
 rw[show((0:Nat):Int)=0 from rfl] at h
 rw[h]
 congr 1
 suffices g:∀(l:List Dl) (t:List uD),run (fun t d=>if lS d.2.2.1=true then .inr (.inr true) else .inl (t++[tC d])) (fun t=>(.inl t:List uD⊕Bool)) l t=if l.any (fun d=>lS d.2.2.1)=true then .inr true else .inl (t++l.map tC) by
  have:=g f.2.2 []
  rw[jO] at this
  exact this
 intro l
 induction l with
 |nil=>intro t;simp[run]
 |cons d l a=>
  intro t
  simp only[run,fX,kG]
  cases hd:lS d.2.2.1 with
  |true=>simp
  |false=>
   simp only[jB,jF,gN]
   rw[a,jD];rfl
theorem qPw{N:Nat}{f:Sr}(b:SmSr f)(e:3000000<N):DA N f=some (qZ f):=by
 obtain⟨a,c,g⟩:=id b
 unfold DA
 rw[qOi b e]
 simp only[j0]
 unfold qZ
 cases ha:f.2.2.any (fun d=>lS d.2.2.1) with
 |true=>rfl
 |false=>
  simp only[jB,jF,gN]
  rw[VL a (by omega),XZ a (by omega),qLu (by rw[gC];exact c) (by rw[gC];omega)]
  simp only[j0]
  cases decide (f.1∈f.2.1)<;>cases lS f.2.1<;>rfl
def tV:List Ex->List Rose->List Rose
 |[],fs=>fs
 |x::l,fs=>tV l (fs.take (fs.length-x.2.2.2.2.length)++[Rose.mk (x.1,x.2.1,x.2.2.1,x.2.2.2.1) (fs.drop (fs.length-x.2.2.2.2.length))])
def vE(l:List Ex):Option Rose:=match tV l [] with
 |[t]=>some t
 |_=>none
theorem qAt:∀(l:List Ex) (fs:List Rose) {st:List Int},oP l (aX fs) (bX 0 fs)=some st->cN 0 (tV l fs)=cN 0 fs++l/\st=bX 0 (tV l fs)
 |[],fs,st,h=>⟨by simp[tV],(jG h).symm⟩
 |x::l,fs,st,h=>by
  rw[LG x _ _ _ x.2.2.2.2 rfl] at h
  split at h
  .rename_i hc
   obtain⟨a,b⟩:=hc
   rw[qU] at a b h
   obtain⟨c,d,e⟩:=VZ (h:=(x.1,x.2.1,x.2.2.1,x.2.2.2.1)) a rfl b
   rw[<-c,<-d] at h
   obtain⟨f,g⟩:=qAt l _ h
   exact⟨by rw[tV,f,e,jD];rfl,g⟩
  cases h
theorem QZ{l:List Ex}(h:oneP (oP l 0 [])=true):∃t,vE l=some t/\l=t.flat 0:=by
 cases a:oP l 0 [] with
 |none=>rw[a] at h;cases h
 |some st=>
  rw[a] at h
  obtain⟨b,e⟩:=qAt l [] a
  have c:st.length=1:=by
   match st,h with
   |[x],_=>rfl
  rw[e,qU] at c
  obtain⟨t,d⟩:=List.length_eq_one_iff.1 c
  refine⟨t,by unfold vE;rw[d],?_⟩
  rw[d] at b
  simpa[cN] using b.symm
mutual
def Rose.deepen(d:Nat):Rose->Nat
 | .mk h ks=>max d (uW (if h.1=4 then d else d+1) ks)
def uW(d:Nat):List Rose->Nat
 |[]=>0
 |t::l=>max (t.deepen d) (uW d l)
end
theorem OS{d:Nat}:∀{l:List Rose},(32<uW d l)↔∃t∈l,32<t.deepen d
 |[]=>by simp[uW]
 |t::l=>by
  have a:=OS (d:=d) (l:=l)
  simp only[uW,jT,exists_eq_or_imp,<-a]
  omega
def sZ(dp:List Int)(a:List Int)(v:Int):List Int:=a.foldl (fun dp a=>dp.set a.toNat v) dp
theorem XT:∀(a:List Int) (dp:List Int) (v:Int),(sZ dp a v).length=dp.length
 |[],_,_=>rfl
 |x::a,dp,v=>by
  show(sZ (dp.set x.toNat v) a v).length=_
  rw[XT a,gW]
theorem QJ{j:Nat}{v:Int}:∀(ks:List Rose) (b:Nat) (dp:List Int),j<b->(sZ dp (bX b ks) v)[j]? =dp[j]?
 |[],_,_,_=>rfl
 |t::l,b,dp,h=>by
  have a:=t.pos
  show(sZ (dp.set (((b+t.size-1:Nat):Int)).toNat v) (bX (b+t.size) l) v)[j]? =_
  rw[QJ l (b+t.size) _ (by omega),jX,List.getElem?_set_ne (by omega)]
def DpOk(dp:List Int):Nat->List (Rose×Nat)->Prop
 |_,[]=>True
 |b,p::l=>(∃v:Int,dp[b+p.1.size-1]? =some v/\(v=(p.2:Int)\/v=0/\p.2=1))/\DpOk dp (b+p.1.size) l
theorem DpOk.app{dp:List Int}:∀{l k:List (Rose×Nat)} {b:Nat},DpOk dp b (l++k)↔DpOk dp b l/\DpOk dp (b+aX (l.map (·.1))) k
 |[],k,b=>by simp[DpOk,aX]
 |t::l,k,b=>by
  rw[jQ]
  simp only[DpOk,kG,aX,DpOk.app (l:=l)]
  rw[and_assoc,gI]
theorem DpOk.congr{dp dp':List Int}:∀{l:List (Rose×Nat)} {b:Nat},DpOk dp b l->(∀j,j<b+aX (l.map (·.1))->dp'[j]? =dp[j]?)->DpOk dp' b l
 |[],_,_,_=>trivial
 |t::l,b,h,a=>by
  have e:=t.1.pos
  simp only[kG,aX] at a
  refine⟨?_,h.2.congr fun j h=>a j (by omega)⟩
  obtain⟨v,c,d⟩:=h.1
  exact⟨v,by rw[a _ (by omega)];exact c,d⟩
theorem DpOk.kids{d:Nat}:∀{ks:List Rose} {b:Nat} {dp:List Int},b+aX ks<=dp.length->DpOk (sZ dp (bX b ks) (d:Int)) b (ks.map fun t=>(t,d))
 |[],_,_,_=>trivial
 |t::l,b,dp,h=>by
  have a:=t.pos
  simp only[aX] at h
  show DpOk (sZ (dp.set (((b+t.size-1:Nat):Int)).toNat d) (bX (b+t.size) l) d) b ((t,d)::l.map fun t=>(t,d))
  refine⟨⟨d,?_,.inl rfl⟩,DpOk.kids (by rw[gW];omega)⟩
  rw[QJ l (b+t.size) _ (by show b+t.size-1<b+t.size;omega),jX,List.getElem?_set_self (by omega)]
theorem SK{N i d:Nat}{x1:Dl}{x5:Ex}{so:List Int}(o:x1.2.2.2[i]? =some x5)(l:∀a∈x5.2.2.2.2,0<=a/\a<(i:Int))(g:x5.2.2.2.2.length<2000000)(q:d<=1000):∀(k j M:Nat) (dp:List Int),j+k=x5.2.2.2.2.length->k<M->i<dp.length->dp[i]? =some (d:Int)->
  aJ (CS N x1 ((i:Int),so) x5) M ((j:Int),dp)=some (sZ dp (x5.2.2.2.2.drop j) (if x5.1=4 then(d:Int) else((d+1:Nat):Int)))
 |_,_,0,_,_,h,_,_=>absurd h (kT _)
 |0,j,M+1,dp,s,_,_,_=>by
  have:j=x5.2.2.2.2.length:=by omega
  subst this
  simp only[aJ,CS]
  rw[if_neg (by simp),hU]
  rfl
 |k+1,j,M+1,dp,s,u,hi,c=>by
  have f:j<x5.2.2.2.2.length:=by omega
  obtain⟨a0,t⟩:=l _ (kH f)
  obtain⟨a,ea⟩:∃a:Nat,x5.2.2.2.2[j]=(a:Int):=⟨(x5.2.2.2.2[j]).toNat,by omega⟩
  have r:a<i:=by omega
  have ew:IntKind.wrap .i64 ((j:Int)+1)=((j+1:Nat):Int):=by rw[bT (by omega) (by omega)];omega
  have ed:IntKind.wrap .i64 ((d:Int)+1)=((d+1:Nat):Int):=by rw[bT (by omega) (by omega)];omega
  simp only[aJ,CS]
  rw[if_pos (by simp only[j9];omega),iX f,ea]
  have p:idx dp (a:Int)=some dp[a]:=iX (by omega)
  have n:idx (dp.set a (d:Int)) (a:Int)=some (d:Int):=tU (List.getElem?_set_self (by omega))
  simp only[j0,tU c,p,tU o,jX,n,ed,ew]
  rw[DG f,ea]
  have b:∀v:Int,sZ dp ((a:Int)::x5.2.2.2.2.drop (j+1)) v=sZ (dp.set a v) (x5.2.2.2.2.drop (j+1)) v:=fun v=>by
   show sZ (dp.set ((a:Int)).toNat v) _ v=_
   rw[jX]
  by_cases hk:x5.1=4
  .have e:(x5.1 !=4)=false:=by simp[hk]
   simp only[e,jB,jF,j0]
   rw[SK o l g q k (j+1) M _ (by omega) (by omega) (by rw[gW];exact hi) (by rw[List.getElem?_set_ne (by omega)];exact c),if_pos hk,b]
  have e:(x5.1 !=4)=true:=by simp[hk]
  simp only[e,jJ,j0,List.set_set]
  rw[SK o l g q k (j+1) M _ (by omega) (by omega) (by rw[gW];exact hi) (by rw[List.getElem?_set_ne (by omega)];exact c),if_neg hk,b]
theorem qAy:∀{ks:List Rose} {b:Nat},∀a∈bX b ks,(b:Int)<=a/\a<((b+aX ks:Nat):Int)
 |[],_,a,h=>by cases h
 |t::l,b,a,h=>by
  have c:=t.pos
  simp only[aX]
  rcases jT.1 h with rfl|h
  .omega
  have:=qAy (ks:=l) (b:=b+t.size) a h
  omega
theorem qCo{N:Nat}{x1:Dl}(E:x1.2.2.2.length<=256)(g:∀x∈x1.2.2.2,x.2.2.2.2.length<2000000)(hN:3000000<N):∀(M:Nat) (F:List (Rose×Nat)) (dp:List Int),cN 0 (F.map (·.1))=x1.2.2.2.take (aX (F.map (·.1)))->aX (F.map (·.1))<=x1.2.2.2.length->dp.length=x1.2.2.2.length->DpOk dp 0 F->(∀p∈F,1<=p.2/\p.2<=33)->aX (F.map (·.1))<M->
  ∃o,aJ (zL N x1) M (((aX (F.map (·.1)):Nat):Int)-1,dp)=some o/\(match o with
   | .inl _=>¬∃p∈F,32<p.1.deepen p.2
   | .inr b=>b=true/\∃p∈F,32<p.1.deepen p.2)
 |0,_,_,_,_,_,_,_,h=>absurd h (kT _)
 |M+1,F,dp,s,A,S,U,z,R=>by
  rcases fW F with rfl|⟨pre,⟨⟨h,ks⟩,d⟩,rfl⟩
  .simp only[aJ,zL]
   rw[if_neg (by simp[aX])]
   exact⟨_,rfl,by simp⟩
  rw[dB] at*
  obtain⟨g1,g2⟩:=z (Rose.mk h ks,d) (by simp)
  simp only at g1 g2
  rw[gV,List.map_singleton] at s A R ⊢
  have r:aX (pre.map (·.1)++[Rose.mk h ks])=aX (pre.map (·.1))+(aX ks+1):=by rw[wA];simp[aX,Rose.size]
  generalize hb:aX (pre.map (·.1))=b at r
  obtain⟨d1,K,-⟩:=DpOk.app.1 U
  rw[kF,hb] at K
  obtain⟨v,v1,v2⟩:=K
  simp only[Rose.size] at v1
  rw[show b+(aX ks+1)-1=b+aX ks by omega] at v1
  rw[r] at A R ⊢
  have hi:b+aX ks<dp.length:=by omega
  have ei:((b+(aX ks+1):Nat):Int)-1=((b+aX ks:Nat):Int):=by omega
  -- the node
  have f:x1.2.2.2[b+aX ks]? =some (eX h (bX b ks)):=by
   have e:x1.2.2.2.take (b+(aX ks+1))=cN 0 (pre.map (·.1))++(cN b ks++[eX h (bX b ks)]):=by
    rw[r] at s
    rw[<-s,DH,kF,hb]
    simp[cN,Rose.flat]
   have c:(x1.2.2.2.take (b+(aX ks+1)))[b+aX ks]? =some (eX h (bX b ks)):=by
    rw[e,List.getElem?_append_right (by rw[qV,hb];omega),List.getElem?_append_right (by rw[qV,qV,hb];omega),qV,qV,hb,show b+aX ks-b-aX ks=0 by omega]
    rfl
   rw[List.getElem?_take_of_lt (by omega)] at c
   exact c
  have wi:IntKind.wrap .i64 (((b+aX ks:Nat):Int)-1)=((b+aX ks:Nat):Int)-1:=by rw[bT (by omega) (by omega)]
  -- the node's depth is laid
  have G:(if(v==0)=true then some (dp.set (b+aX ks) 1) else some dp:Option (List Int))=some (dp.set (b+aX ks) (d:Int)):=by
   rcases v2 with rfl|⟨rfl,rfl⟩
   .have:((d:Int)==0)=false:=by rw[beq_eq_false_iff_ne];omega
    rw[this,qAi v1];rfl
   rfl
  have hd':(dp.set (b+aX ks) (d:Int))[b+aX ks]? =some (d:Int):=List.getElem?_set_self hi
  simp only[aJ,zL]
  rw[ei,if_pos (by simp only[j9];omega),tU v1]
  simp only[j0,jX,G,tU hd',tU f]
  have c:(Rose.mk h ks).deepen d=max d (uW (if h.1=4 then d else d+1) ks):=by simp only[Rose.deepen]
  by_cases a1:32<d
  .rw[if_pos (by simp only[j9];omega)]
   refine⟨.inr true,rfl,rfl,(Rose.mk h ks,d),by simp,?_⟩
   simp only[c];omega
  rw[if_neg (by simp only[j9];omega)]
  have Z:∀a∈bX b ks,0<=a/\a<((b+aX ks:Nat):Int):=fun a ha=>by
   have:=qAy a ha;omega
  have D:=SK (N:=N) (i:=b+aX ks) (d:=d) (x1:=x1) (x5:=eX h (bX b ks)) (so:=dp) f Z (by
   have:=g _ (dD f);exact this) (by omega) (bX b ks).length 0 N (dp.set (b+aX ks) (d:Int)) (by show 0+_=(bX b ks).length;omega) (by
   have:=g _ (dD f)
   have:(bX b ks).length<2000000:=this
   omega) (by rw[gW];exact hi) hd'
  rw[kI] at D
  rw[show(((0:Nat):Int))=0 from rfl] at D
  rw[D]
  simp only[j0,wi]
  have hv:(if(eX h (bX b ks)).1=4 then(d:Int) else((d+1:Nat):Int))=(((if h.1=4 then d else d+1:Nat)):Int):=by
   show(if h.1=4 then(d:Int) else((d+1:Nat):Int))=_
   split<;>rfl
  rw[hv]
  show ∃o,aJ (zL N x1) M (((b+aX ks:Nat):Int)-1,sZ (dp.set (b+aX ks) (d:Int)) (bX b ks) _)=some o/\_
  generalize hd2:(if h.1=4 then d else d+1:Nat)=d'
  rw[hd2] at c
  have hd2':1<=d'/\d'<=33:=by rw[<-hd2];split<;>omega
  have B:∀l:List Rose,(l.map fun t=>(t,d')).map (·.1)=l:=fun l=>by rw[List.map_map];exact List.map_id _
  have n:aX ((pre++ks.map fun t=>(t,d')).map (·.1))=b+aX ks:=by rw[gV,B,wA,hb]
  have V:cN 0 ((pre++ks.map fun t=>(t,d')).map (·.1))=x1.2.2.2.take (b+aX ks):=by
   rw[gV,B,DH,kF,hb]
   have e:x1.2.2.2.take (b+(aX ks+1))=cN 0 (pre.map (·.1))++(cN b ks++[eX h (bX b ks)]):=by
    rw[r] at s
    rw[<-s,DH,kF,hb]
    simp[cN,Rose.flat]
   have k:=congrArg (List.take (b+aX ks)) e
   rw[List.take_take,Nat.min_eq_left (by omega),<-jD,gD (by rw[jA,qV,qV,hb];exact jP _),gM (show(cN 0 (pre.map (·.1))++cN b ks).length<=b+aX ks by rw[jA,qV,qV,hb];exact jP _)] at k
   exact k.symm
  obtain⟨o,o1,o2⟩:=qCo E g hN M (pre++ks.map fun t=>(t,d')) (sZ (dp.set (b+aX ks) (d:Int)) (bX b ks) (d':Int)) (by rw[n];exact V) (by rw[n];omega) (by rw[XT,gW];exact S) (DpOk.app.2 ⟨d1.congr fun j Y=>by
    rw[kF,hb] at Y
    rw[QJ ks b _ Y,List.getElem?_set_ne (by omega)],by
    rw[kF,hb]
    exact DpOk.kids (by rw[gW];omega)⟩) (fun p k=>by
    rcases kL.1 k with k|k
    .exact z p (kA _ k)
    obtain⟨t,-,rfl⟩:=fV.1 k
    exact hd2') (by rw[n];omega)
  rw[n] at o1
  refine⟨o,o1,?_⟩
  have y:(∃p∈pre++ks.map fun t=>(t,d'),32<p.1.deepen p.2)↔∃p∈pre++[(Rose.mk h ks,d)],32<p.1.deepen p.2:=by
   simp only[kL,fV,jK]
   constructor
   .rintro⟨p,k|⟨t,H,rfl⟩,q⟩
    .exact⟨p,.inl k,q⟩
    refine⟨_,.inr rfl,?_⟩
    simp only[c]
    have:32<uW d' ks:=OS.2 ⟨t,H,q⟩
    omega
   rintro⟨p,k|rfl,q⟩
   .exact⟨p,.inl k,q⟩
   simp only[c] at q
   obtain⟨t,H,q⟩:=OS.1 (show 32<uW d' ks by omega)
   exact⟨_,.inr ⟨t,H,rfl⟩,q⟩
  cases o with
  |inl u=>exact fun k=>o2 (y.2 k)
  |inr u=>exact⟨o2.1,y.1 o2.2⟩
def wN(l:List Ex):Bool:=match vE l with
 |some t=>decide (32<t.deepen 1)
 |none=>false
def wM(d:Dl):Bool:=decide (8<d.2.2.1.length)||(decide (256<d.2.2.2.length)||wN d.2.2.2)
def rR(f:Sr):Bool:=decide (8<f.2.1.length)||(decide (64<f.2.2.length)||f.2.2.any wM)
def pO(f:Sr):Int:=if rS f=true then if qZ f=true then 10 else if rR f=true then 2 else 0 else 9
theorem qSe{N:Nat}{f:Sr}(E:SmSr f)(p:rS f=true)(B:3000000<N):DC N f=some (rR f):=by
 obtain⟨S,U,A⟩:=id E
 have c:∀d∈f.2.2,oneP (oP d.2.2.2 0 [])=true:=fun d D=>by
  unfold rS rK AX at p
  simp only[jI,jU] at p
  exact(p.2.2 d D).2.2.2
 have q:=HG (L:=f.2.2) (fun(_:Unit) (i:Nat)=>(i:Int)) (f:=CU N f)
  (fun _ d=>if wM d=true then .inr (.inr true) else .inl ()) (fun _=>(.inl ():Unit⊕Bool)) (fun _ _=>True) (by
   intro t i hi _
   obtain⟨-,G,H,y⟩:=A _ (kH hi)
   have r:=c _ (kH hi)
   simp only[CU]
   rw[if_pos (by simp only[j9];omega),iX hi]
   generalize f.2.2[i]=d at G H y r
   have ew:IntKind.wrap .i64 ((i:Int)+1)=((i+1:Nat):Int):=by rw[bT (by omega) (by omega)];omega
   have n:decide ((d.2.2.1.length:Int)>8)=decide (8<d.2.2.1.length):=by congr 1;rw[eq_iff_iff];omega
   have l:decide ((d.2.2.2.length:Int)>256)=decide (256<d.2.2.2.length):=by congr 1;rw[eq_iff_iff];omega
   simp only[j0,n,l,ew]
   unfold wM
   cases c8:decide (8<d.2.2.1.length) with
   |true=>rfl
   |false=>
    simp only[jB,jF,j0,gN]
    cases c256:decide (256<d.2.2.2.length) with
    |true=>rfl
    |false=>
     have V:=of_decide_eq_false c256
     have R:(maxLen:Int)=9223372036854775807:=rfl
     have s:sE 8 (0:Int) (d.2.2.2.length:Int)=some (List.replicate d.2.2.2.length 0):=by
      unfold sE;rw[if_pos (by omega),jX]
     obtain⟨t,v,h⟩:=QZ r
     have k:t.size=d.2.2.2.length:=by
      have:=iW t 0
      rw[<-h] at this;exact this.symm
     have Y:=t.pos
     simp only[jB,jF,s,j0,gN]
     have a:aX ([(t,1)].map (·.1))=d.2.2.2.length:=by simp[aX,k]
     obtain⟨o,z,o2⟩:=qCo (N:=N) (x1:=d) (by omega) (fun x F=>(y x F).2) B N [(t,1)] (List.replicate d.2.2.2.length 0) (by
      rw[a,fI]
      simp only[kG,List.map_nil,cN,jW]
      exact h.symm) (by rw[a];exact jP _) (by simp) ⟨⟨0,by rw[kF,k,List.getElem?_replicate,if_pos (by omega)],.inr ⟨rfl,rfl⟩⟩,trivial⟩ (by simp) (by rw[a];omega)
     rw[a] at z
     rw[bT (by omega) (by omega),z]
     have g:wN d.2.2.2=decide (32<t.deepen 1):=by unfold wN;rw[v]
     simp only[j0]
     cases o with
     |inl u=>
      simp only[jK,exists_eq_left] at o2
      have e:wN d.2.2.2=false:=by rw[g];exact jY o2
      rw[e]
      rfl
     |inr u=>
      simp only[jK,exists_eq_left] at o2
      obtain⟨rfl,K⟩:=o2
      have e:wN d.2.2.2=true:=by rw[g];exact jV K
      rw[e]
      rfl) (fun _ _ _ _ _ _=>trivial) (by
   intro t _
   simp only[CU]
   rw[if_neg (by simp)]) (M:=N) (t:=()) (by omega) trivial
 rw[show((0:Nat):Int)=0 from rfl] at q
 unfold DC
 have n:decide ((f.2.1.length:Int)>8)=decide (8<f.2.1.length):=by congr 1;rw[eq_iff_iff];omega
 have a:decide ((f.2.2.length:Int)>64)=decide (64<f.2.2.length):=by congr 1;rw[eq_iff_iff];omega
 rw[n,a]
 unfold rR
 cases c8:decide (8<f.2.1.length) with
 |true=>rfl
 |false=>
  simp only[jB,jF,j0,gN]
  cases c64:decide (64<f.2.2.length) with
  |true=>rfl
  |false=>
   simp only[jB,jF,gN]
   rw[q,IA (b:=(.inr true:Unit⊕Bool)) wM (fun x=>rfl)]
   cases f.2.2.any wM<;>rfl
theorem LK{N:Nat}{f:Sr}(b:SmSr f)(a:3000000<N):sQ N f=some (pO f):=by
 unfold sQ
 rw[show CX N (f.1,f.2.1,f.2.2)=_ from qLw b a,show DA N (f.1,f.2.1,f.2.2)=_ from qPw b a]
 simp only[j0]
 unfold pO
 cases hs:rS f with
 |false=>rfl
 |true=>
  rw[show DC N (f.1,f.2.1,f.2.2)=_ from qSe b hs a]
  simp only[kU,jB,jF,j0,jJ]
  cases qZ f<;>cases rR f<;>rfl
end
section
open Go Go.Dc Go.Proofs
def dY(h:Hd):Int:=if h.1=5 then 0 else if h.1=4 then(if h.2.2.1=6\/h.2.2.1=7 then 1 else if h.2.2.1=1\/h.2.2.1=2 then 2 else 3) else 4
def eE(h:Hd)(k:Nat):Int:=if h.1=4 then(if k=0 then(if dY h=1 then 2 else dY h) else dY h+1) else 0
def TB:List (Int×BA):=[(1,⟨#[43]⟩),(2,⟨#[45]⟩),(3,⟨#[42]⟩),(4,⟨#[47]⟩),(5,⟨#[37]⟩),(6,⟨#[60]⟩),(7,⟨#[61,61]⟩)]
def oK(op:Int):BA:=(cS (some TB) op).getD ⟨#[]⟩
def MT:List (Int×BA):=[(7,⟨#[115,105,122,101]⟩),(8,⟨#[104,97,115]⟩),(9,⟨#[101,110,118]⟩)]
def mO(k:Int):BA:=(cS (some MT) k).getD ⟨#[]⟩
def tI:List UInt8:=[105,102,32]
def tThen:List UInt8:=[32,116,104,101,110,32]
def tElse:List UInt8:=[32,101,108,115,101,32]
def sH(k:Nat):List UInt8:=if k=0 then[] else[44,32]
def mX:Nat->List (List UInt8)->List UInt8
 |_,[]=>[]
 |k,w::ws=>sH k++(w++mX (k+1) ws)
def iD(ps:List BA)(h:Hd)(ws:List (List UInt8)):List UInt8:=
 if h.1=1 then(oA h.2.1).data.toList
 else if h.1=2 then(ps.getD h.2.1.toNat ⟨#[]⟩).data.toList
 else if h.1=4 then ws.getD 0 []++((((⟨#[32]⟩:BA)++oK h.2.2.1)++(⟨#[32]⟩:BA)).data.toList++ws.getD 1 [])
 else if h.1=5 then tI++(ws.getD 0 []++(tThen++(ws.getD 1 []++(tElse++ws.getD 2 []))))
 else if h.1=3 then(h.2.2.2++(⟨#[40]⟩:BA)).data.toList++(mX 0 ws++[41])
 else if h.1=6 then(((⟨#[114,101,97,100,40,34]⟩:BA)++h.2.2.2)++(⟨#[34,44,32]⟩:BA)).data.toList++(ws.getD 0 []++[41])
 else if h.1=10 then(((⟨#[102,108,105,112,40]⟩:BA)++oA h.2.1)++(⟨#[41]⟩:BA)).data.toList
 else(((mO h.1++(⟨#[40,34]⟩:BA))++h.2.2.2)++(⟨#[34,41]⟩:BA)).data.toList
mutual
def Rose.wr(ps:List BA)(need:Int):Rose->List UInt8
 | .mk h ks=>if dY h<need then 40::(iD ps h (eF ps h 0 ks)++[41]) else iD ps h (eF ps h 0 ks)
def eF(ps:List BA)(h:Hd)(k:Nat):List Rose->List (List UInt8)
 |[]=>[]
 |t::l=>t.wr ps (eE h k)::eF ps h (k+1) l
end
mutual
def Rose.dep(need:Int)(d:Nat):Rose->Nat
 | .mk h ks=>max (if dY h<need then d+1 else d) (lX h 0 (if h.1=4 then(if dY h<need then d+1 else d) else(if dY h<need then d+1 else d)+1) ks)
def lX(h:Hd)(k d:Nat):List Rose->Nat
 |[]=>0
 |t::l=>max (t.dep (eE h k) d) (lX h (k+1) d l)
end
theorem qBj{N:Nat}(x:Ex):xL N x=some (dY (x.1,x.2.1,x.2.2.1,x.2.2.2.1)):=by
 unfold xL zK dY
 by_cases h5:x.1=5
 .simp[h5]
 by_cases h4:x.1=4
 .by_cases o6:x.2.2.1=6
  .simp[h4,o6]
  by_cases o7:x.2.2.1=7
  .simp[h4,o7]
  by_cases o1:x.2.2.1=1
  .simp[h4,o1]
  by_cases o2:x.2.2.1=2
  .simp[h4,o2]
  simp[h4,o6,o7,o1,o2]
 simp[h5,h4]
theorem qOz{N:Nat}:CZ N=some (some TB):=by kernel_rfl
theorem nX{l k:List UInt8}(h:l.length+k.length<=1000000000):cU 1 l k=some (l++k):=nQ (by omega) (by decide)
theorem catW{x y:BA}(h:x.size+y.size<=1000000000):cA x y=some (x++y):=by
 unfold cA
 rw[if_pos (Nat.le_trans h (by decide))]
theorem eS(x:BA):x.data.toList.length=x.size:=by simp
theorem wH(m d:Nat):(if(d:Int)>(m:Int) then(d:Int) else(m:Int))=((max m d:Nat):Int):=by
 split<;>omega
section
variable (N:Nat) (l:List Ex) (ps:List BA)
def EQ(t:Rose):Prop:=∀(D b:Nat) (buf:List UInt8) (s:Bool) (m d:Nat) (need:Int),AtT l b t->(∀x∈t.flat b,iM (ps.length:Int) x=true)->2*t.size<=D->buf.length+(t.wr ps need).length<=1000000000->d+2*t.size<=100000000->0<=need->
 xG N D ((s,buf),l,ps,(m:Int)) ((b+t.size-1:Nat):Int) need (d:Int)=some ((true,buf++t.wr ps need),l,ps,((max m (t.dep need d):Nat):Int))
variable {N l ps}
theorem ZD{h:Hd}{x1:Ex}{D d:Nat}(F:3000000<N)(e:x1.2.2.2.2.length<2000000)(G:d<100000000):∀(ks:List Rose) (k b M m:Nat) (buf:List UInt8),(∀t∈ks,EQ N l ps t)->x1.2.2.2.2.drop k=bX b ks->k<=x1.2.2.2.2.length->AtTs l b ks->(∀x∈cN b ks,iM (ps.length:Int) x=true)->2*aX ks<=D->h.1≠4->
  buf.length+(mX k (eF ps h k ks)).length<=1000000000->d+1+2*aX ks<=100000000->ks.length<M->
  aJ (CA N (xG N D) (d:Int) x1) M ((k:Int),true,buf,l,ps,(m:Int))=some (true,buf++mX k (eF ps h k ks),l,ps,((max m (lX h k (d+1) ks):Nat):Int))
 |_,_,_,0,_,_,_,_,_,_,_,_,_,_,_,n=>absurd n (kT _)
 |[],k,b,M+1,m,buf,_,a,H,_,_,_,_,_,_,_=>by
  have U:k=x1.2.2.2.2.length:=by
   have:=congrArg List.length a
   rw[gQ] at this
   simp only[bX,jE] at this
   omega
  simp only[aJ,CA]
  rw[if_neg (by simp only[j9];omega)]
  simp only[j0,eF,mX,jW,lX,hJ]
 |t::ks,k,b,M+1,m,buf,g,a,H,s,B,E,r,c,v,n=>by
  have K:=t.pos
  simp only[aX] at E v
  have f:k<x1.2.2.2.2.length:=by
   by_cases hh:k<x1.2.2.2.2.length
   .exact hh
   rw[jZ (by omega)] at a;cases a
  rw[DG f] at a
  obtain⟨z,A⟩:=List.cons.inj a
  obtain⟨p,q⟩:=s.head
  have y:eE h k=0:=by unfold eE;rw[if_neg r]
  simp only[eF,mX,y] at c ⊢
  simp only[jA] at c
  have ew:IntKind.wrap .i64 ((k:Int)+1)=((k+1:Nat):Int):=by rw[bT (by omega) (by omega)];omega
  have ed:IntKind.wrap .i64 ((d:Int)+1)=((d+1:Nat):Int):=by rw[bT (by omega) (by omega)];omega
  simp only[aJ,CA]
  rw[if_pos (by simp only[j9];omega),iX f,z]
  have o:(if(decide ((k:Int)>0))=true then((cU 1 buf ((⟨#[44,32]⟩:BA).data.toList)).bind fun S=>some (true,S)) else(some (true,buf)):Option (Bool×List (UInt8)))=some (true,buf++sH k):=by
   unfold sH at c ⊢
   by_cases h0:k=0
   .subst h0
    rw[if_neg (by decide),if_pos rfl,jW]
   rw[if_neg h0] at c
   rw[if_pos (by simp only[j9];omega),if_neg h0,nX (by show buf.length+2<=_;simp only[jC,jE] at c;omega)]
   rfl
  simp only[j0,o,ew,ed]
  rw[g t (jH ..) D b (buf++sH k) true m (d+1) 0 p (fun x e=>B x (by unfold cN;exact kA _ e)) (by omega) (by rw[jA];omega) (by omega) (dK 0)]
  simp only[j0]
  rw[ZD F e G ks (k+1) (b+t.size) M (max m (t.dep 0 (d+1))) ((buf++sH k)++t.wr ps 0) (fun u R=>g u (jL _ R)) A (by omega) q (fun x e=>B x (by unfold cN;exact kO _ e)) (by omega) r (by simp only[jA];omega) (by omega) (by simp only[jC] at n;omega)]
  simp only[jD,lX,y,dT]
theorem HJ{np:Int}{x:Ex}(h:iM np x=true):
  (x.1=1/\x.2.2.2.2.length=0/\-9007199254740992<=x.2.1/\x.2.1<=9007199254740992/\x.2.2.1=0/\x.2.2.2.1=emB)\/(x.1=2/\x.2.2.2.2.length=0/\0<=x.2.1/\x.2.1<np/\x.2.2.1=0/\x.2.2.2.1=emB)\/(x.1=3/\eG x.2.2.2.1=true/\x.2.1=0/\x.2.2.1=0)\/(x.1=4/\x.2.2.2.2.length=2/\1<=x.2.2.1/\x.2.2.1<=7/\x.2.1=0/\x.2.2.2.1=emB)\/
  (x.1=5/\x.2.2.2.2.length=3/\x.2.1=0/\x.2.2.1=0/\x.2.2.2.1=emB)\/(x.1=6/\x.2.2.2.2.length=1/\mK x.2.2.2.1.data.toList=true/\x.2.1=0/\x.2.2.1=0)\/((x.1=7\/x.1=8)/\x.2.2.2.2.length=0/\mK x.2.2.2.1.data.toList=true/\x.2.1=0/\x.2.2.1=0)\/(x.1=9/\x.2.2.2.2.length=0/\lW x.2.2.2.1=true/\x.2.1=0/\x.2.2.1=0)\/
  (x.1=10/\x.2.2.2.2.length=0/\0<=x.2.1/\x.2.1<64/\x.2.2.1=0/\x.2.2.2.1=emB):=by
 unfold iM pU at h
 by_cases h1:x.1=1
 .simp only[if_pos h1,jI,j9,kJ] at h
  exact .inl ⟨h1,by omega,h.2.2.2.1,h.2.2.2.2,h.2.1,h.1⟩
 rw[if_neg h1] at h
 by_cases h2:x.1=2
 .simp only[if_pos h2,jI,j9,kJ] at h
  exact .inr (.inl ⟨h2,by omega,h.2.2.2.1,h.2.2.2.2,h.2.1,h.1⟩)
 rw[if_neg h2] at h
 by_cases h3:x.1=3
 .simp only[if_pos h3,jI,j9,kJ] at h
  exact .inr (.inr (.inl ⟨h3,h.2.2,h.1,h.2.1⟩))
 rw[if_neg h3] at h
 by_cases h4:x.1=4
 .simp only[if_pos h4,jI,j9,kJ] at h
  exact .inr (.inr (.inr (.inl ⟨h4,by omega,h.2.2.2.1,h.2.2.2.2,h.1,h.2.1⟩)))
 rw[if_neg h4] at h
 by_cases h5:x.1=5
 .simp only[if_pos h5,jI,j9,kJ] at h
  exact .inr (.inr (.inr (.inr (.inl ⟨h5,by omega,h.1,h.2.2.1,h.2.1⟩))))
 rw[if_neg h5] at h
 by_cases h6:x.1=6
 .simp only[if_pos h6,jI,j9,kJ] at h
  exact .inr (.inr (.inr (.inr (.inr (.inl ⟨h6,by omega,h.2.2.2,h.1,h.2.1⟩)))))
 rw[if_neg h6] at h
 by_cases h7:x.1=7\/x.1=8
 .simp only[if_pos h7,jI,j9,kJ] at h
  exact .inr (.inr (.inr (.inr (.inr (.inr (.inl ⟨h7,by omega,h.2.2.2,h.1,h.2.1⟩))))))
 rw[if_neg h7] at h
 by_cases h9:x.1=9
 .simp only[if_pos h9,jI,j9,kJ] at h
  exact .inr (.inr (.inr (.inr (.inr (.inr (.inr (.inl ⟨h9,by omega,h.2.2.2,h.1,h.2.1⟩)))))))
 rw[if_neg h9] at h
 by_cases h10:x.1=10
 .simp only[if_pos h10,jI,j9,kJ] at h
  exact .inr (.inr (.inr (.inr (.inr (.inr (.inr (.inr ⟨h10,by omega,h.2.2.2.1,h.2.2.2.2,h.2.1,h.1⟩)))))))
 rw[if_neg h10] at h
 cases h
end
section
variable {N:Nat} {l:List Ex} {ps:List BA}
theorem NP{b:Nat}{ks:List Rose}(h:(bX b ks).length=0):ks=[]:=by
 rw[qU] at h
 exact kY.1 h
theorem qEp{b:Nat}{ks:List Rose}(h:(bX b ks).length=1):∃t,ks=[t]:=by
 rw[qU] at h
 exact List.length_eq_one_iff.1 h
theorem qEu{b:Nat}{ks:List Rose}(h:(bX b ks).length=2):∃t u,ks=[t,u]:=by
 rw[qU] at h
 match ks,h with
 |[t,u],_=>exact⟨t,u,rfl⟩
theorem qEs{b:Nat}{ks:List Rose}(h:(bX b ks).length=3):∃t u v,ks=[t,u,v]:=by
 rw[qU] at h
 match ks,h with
 |[t,u,v],_=>exact⟨t,u,v,rfl⟩
theorem qCd{N:Nat}{n:Int}(a: -9007199254740992<=n)(b:n<=9007199254740992):strconv_Itoa N n=some (oA n):=by
 unfold strconv_Itoa NJ
 rw[if_pos ⟨by omega,by omega⟩]
theorem wm1:lG (some []:Option (List (Int×BA))) 7 (⟨#[115,105,122,101]⟩:BA)=some (some [(7,⟨#[115,105,122,101]⟩)]):=by kernel_rfl
theorem wm2:lG (some [(7,⟨#[115,105,122,101]⟩)]:Option (List (Int×BA))) 8 (⟨#[104,97,115]⟩:BA)=some (some [(7,⟨#[115,105,122,101]⟩),(8,⟨#[104,97,115]⟩)]):=by kernel_rfl
theorem wm3:lG (some [(7,⟨#[115,105,122,101]⟩),(8,⟨#[104,97,115]⟩)]:Option (List (Int×BA))) 9 (⟨#[101,110,118]⟩:BA)=some (some MT):=by kernel_rfl
theorem qBx{h:Hd}{ks:List Rose}(hN:3000000<N)(r:∀t∈ks,EQ N l ps t){D b m d:Nat}{buf:List UInt8}{s:Bool}{need:Int}(a3:AtT l b (.mk h ks))(hv:∀x∈(Rose.mk h ks).flat b,iM (ps.length:Int) x=true)(H:2*aX ks<=D)
  (n:buf.length+(iD ps h (eF ps h 0 ks)).length<=1000000000) (V:d+(2*aX ks+1)<=100000000) (hl:¬dY h<need) (a6:ks.length<2000000):
  xG N (D+1) ((s,buf),l,ps,(m:Int)) ((b+aX ks:Nat):Int) need (d:Int)=some ((true,buf++iD ps h (eF ps h 0 ks)),l,ps,((max m (max d (lX h 0 (if h.1=4 then d else d+1) ks)):Nat):Int)):=by
 obtain⟨Y,A⟩:=a3.args
 have Y:l[b+aX ks]? =some (h.1,h.2.1,h.2.2.1,h.2.2.2,bX b ks):=Y
 have K:iM (ps.length:Int) (h.1,h.2.1,h.2.2.1,h.2.2.2,bX b ks)=true:=hv (eX h (bX b ks)) (by unfold Rose.flat;exact kO _ (jH ..))
 have o:∀x∈cN b ks,iM (ps.length:Int) x=true:=fun x q=>hv x (by unfold Rose.flat;exact kA _ q)
 have ed:IntKind.wrap .i64 ((d:Int)+1)=((d+1:Nat):Int):=by rw[bT (by omega) (by omega)];omega
 show zC N (xG N D) _ _ _ _=_
 unfold zC
 dsimp only
 rw[tU Y]
 simp only[j0]
 rw[show xL N (h.1,h.2.1,h.2.2.1,h.2.2.2,bX b ks)=some (dY h) from qBj _]
 simp only[j0]
 rw[if_neg (by simpa using hl)]
 rcases HJ K with ⟨k,a,z,F,-,-⟩|⟨k,a,z,F,-,-⟩|⟨k,a,-,-⟩|⟨k,a,z,F,-,-⟩|⟨k,a,-,-,-⟩|⟨k,a,z,-,-⟩|⟨k,a,z,-,-⟩|⟨k,a,z,-,-⟩|⟨k,a,z,F,-,-⟩
 all_goals dsimp only at k a
 .obtain rfl:=NP a
  have eb:iD ps h (eF ps h 0 [])=(oA h.2.1).data.toList:=by unfold iD;rw[if_pos k]
  rw[eb] at n ⊢
  dsimp only at z F
  rw[if_pos (by simpa using k),qCd z F]
  simp only[j0]
  rw[nX n]
  simp only[j0,wH,lX,hJ]
 .obtain rfl:=NP a
  dsimp only at z F
  have c:h.1≠1:=by omega
  have eb:iD ps h (eF ps h 0 [])=(ps.getD h.2.1.toNat ⟨#[]⟩).data.toList:=by unfold iD;rw[if_neg c,if_pos k]
  rw[eb] at n ⊢
  have f:h.2.1.toNat<ps.length:=by omega
  rw[if_neg (by simpa using c),if_pos (by simpa using k),MC z f]
  simp only[j0]
  have e:ps.getD h.2.1.toNat ⟨#[]⟩=ps[h.2.1.toNat]:=by rw[jN,List.getElem?_eq_getElem f];rfl
  rw[e] at n ⊢
  rw[nX n]
  simp only[j0,wH,lX,hJ]
 .have c:h.1≠1:=by omega
  have g:h.1≠2:=by omega
  have f:h.1≠4:=by omega
  have p:h.1≠5:=by omega
  have eb:iD ps h (eF ps h 0 ks)=(h.2.2.2++(⟨#[40]⟩:BA)).data.toList++(mX 0 (eF ps h 0 ks)++[41]):=by unfold iD;rw[if_neg c,if_neg g,if_neg f,if_neg p,if_pos k]
  rw[eb] at n ⊢
  rw[if_neg (by simpa using c),if_neg (by simpa using g),if_neg (by simpa using f),if_neg (by simpa using p),if_pos (by simpa using k)]
  simp only[jA,eS,ByteArray.size_append,jC,jE] at n
  have a5:(⟨#[40]⟩:BA).size=1:=rfl
  rw[catW (by omega)]
  simp only[j0]
  rw[nX (by rw[eS,ByteArray.size_append];omega)]
  simp only[j0,wH]
  have y:=ZD (N:=N) (l:=l) (ps:=ps) (h:=h) (x1:=(h.1,h.2.1,h.2.2.1,h.2.2.2,bX b ks)) (D:=D) (d:=d) hN (by show(bX b ks).length<_;rw[qU];exact a6) (by omega) ks 0 b N (max m d) (buf++(h.2.2.2++(⟨#[40]⟩:BA)).data.toList) r rfl (kE _) A o H f
   (by simp only[jA,eS,ByteArray.size_append];omega) (by omega) (by omega)
  rw[show((0:Nat):Int)=0 from rfl] at y
  rw[y]
  simp only[j0]
  rw[nX (by simp only[jA,eS,ByteArray.size_append,jC,jE];omega)]
  simp only[j0,jD,if_neg f,dT]
 .obtain⟨t,u,rfl⟩:=qEu a
  have c:h.1≠1:=by omega
  have g:h.1≠2:=by omega
  simp only[aX,fC] at H V o
  obtain⟨B,atr⟩:=A.head
  obtain⟨y,-⟩:=atr.head
  have a7:1<=dY h/\dY h<=3:=by
   unfold dY
   rw[if_neg (show h.1≠5 by omega),if_pos k]
   split<;>(try split)<;>omega
  have R:eE h 0=if dY h=1 then 2 else dY h:=by unfold eE;rw[if_pos k,if_pos rfl]
  have S:eE h 1=dY h+1:=by unfold eE;rw[if_pos k,if_neg (by decide)]
  have eb:iD ps h (eF ps h 0 [t,u])=t.wr ps (eE h 0)++((((⟨#[32]⟩:BA)++oK h.2.2.1)++(⟨#[32]⟩:BA)).data.toList++u.wr ps (eE h 1)):=by unfold iD;rw[if_neg c,if_neg g,if_pos k];rfl
  rw[eb] at n ⊢
  rw[if_neg (by simpa using c),if_neg (by simpa using g),if_pos (by simpa using k)]
  have E:(if(dY h==1)=true then(some (IntKind.wrap .i64 (dY h+1))) else(some (dY h)):Option (Int))=some (eE h 0):=by
   rw[R]
   by_cases e:dY h=1
   .rw[if_pos (by simpa using e),if_pos e,bT (by omega) (by omega),e];rfl
   rw[if_neg (by simpa using e),if_neg e]
  have w1:IntKind.wrap .i64 (dY h+1)=eE h 1:=by rw[S,bT (by omega) (by omega)]
  have G:idx (bX b [t,u]) 0=some ((b+t.size-1:Nat):Int):=rfl
  have Z:idx (bX b [t,u]) 1=some ((b+t.size+u.size-1:Nat):Int):=rfl
  simp only[j0,E,G,Z,wH]
  rw[w1]
  simp only[jA,eS,ByteArray.size_append] at n
  have a5:(⟨#[32]⟩:BA).size=1:=rfl
  have U:=t.pos
  have a4:=u.pos
  have q0:0<=eE h 0:=by rw[R];split<;>omega
  have q1:0<=eE h 1:=by rw[S];omega
  rw[r t (jH ..) D b buf s (max m d) d (eE h 0) B (fun x q=>o x (by unfold cN;exact kA _ q)) (by omega) (by omega) (by omega) q0]
  simp only[j0,qOz]
  rw[show(cS (some TB) h.2.2.1).getD (⟨#[]⟩:BA)=oK h.2.2.1 from rfl,catW (by omega)]
  simp only[j0]
  rw[catW (by rw[ByteArray.size_append];omega)]
  simp only[j0]
  rw[nX (by simp only[jA,eS,ByteArray.size_append];omega)]
  simp only[j0]
  rw[r u (jL _ (jH ..)) D (b+t.size) _ true _ d (eE h 1) y (fun x q=>o x (by unfold cN;refine kO _ ?_;unfold cN;exact kA _ q)) (by omega) (by simp only[jA,eS,ByteArray.size_append];omega) (by omega) q1]
  simp only[j0,jD,if_pos k,lX,hJ,dT]
 .obtain⟨t,u,v,rfl⟩:=qEs a
  have c:h.1≠1:=by omega
  have g:h.1≠2:=by omega
  have f:h.1≠4:=by omega
  simp only[aX,fC] at H V o
  obtain⟨B,atr⟩:=A.head
  obtain⟨y,atr⟩:=atr.head
  obtain⟨R,-⟩:=atr.head
  have E:∀j,eE h j=0:=fun j=>by unfold eE;rw[if_neg f]
  have eb:iD ps h (eF ps h 0 [t,u,v])=tI++(t.wr ps 0++(tThen++(u.wr ps 0++(tElse++v.wr ps 0)))):=by
   unfold iD;rw[if_neg c,if_neg g,if_neg f,if_pos k]
   simp only[eF,E];rfl
  rw[eb] at n ⊢
  rw[if_neg (by simpa using c),if_neg (by simpa using g),if_neg (by simpa using f),if_pos (by simpa using k)]
  have U:=t.pos
  have a4:=u.pos
  have a5:=v.pos
  have l1:tI.length=3:=rfl
  have l2:tThen.length=6:=rfl
  have l3:tElse.length=6:=rfl
  simp only[jA] at n
  obtain⟨M,rfl⟩:∃M,N=M+4:=⟨N-4,by omega⟩
  have G:idx (bX b [t,u,v]) 0=some ((b+t.size-1:Nat):Int):=rfl
  have Z:idx (bX b [t,u,v]) 1=some ((b+t.size+u.size-1:Nat):Int):=rfl
  have i2:idx (bX b [t,u,v]) 2=some ((b+t.size+u.size+v.size-1:Nat):Int):=rfl
  have a0:∀L:List UInt8,L.length+3<=1000000000->cU 1 L [105,102,32]=some (L++tI):=fun L h=>nX h
  have S:∀L:List UInt8,L.length+6<=1000000000->cU 1 L [32,116,104,101,110,32]=some (L++tThen):=fun L h=>nX h
  have a2:∀L:List UInt8,L.length+6<=1000000000->cU 1 L [32,101,108,115,101,32]=some (L++tElse):=fun L h=>nX h
  have w0:IntKind.wrap .i64 ((0:Int)+1)=1:=by decide
  have w1:IntKind.wrap .i64 ((1:Int)+1)=2:=by decide
  have w2:IntKind.wrap .i64 ((2:Int)+1)=3:=by decide
  have s0:idx ([(⟨#[105,102,32]⟩:BA),(⟨#[32,116,104,101,110,32]⟩:BA),(⟨#[32,101,108,115,101,32]⟩:BA)]) 0=some ⟨#[105,102,32]⟩:=rfl
  have s1:idx ([(⟨#[105,102,32]⟩:BA),(⟨#[32,116,104,101,110,32]⟩:BA),(⟨#[32,101,108,115,101,32]⟩:BA)]) 1=some ⟨#[32,116,104,101,110,32]⟩:=rfl
  have s2:idx ([(⟨#[105,102,32]⟩:BA),(⟨#[32,116,104,101,110,32]⟩:BA),(⟨#[32,101,108,115,101,32]⟩:BA)]) 2=some ⟨#[32,101,108,115,101,32]⟩:=rfl
  have c0:decide ((0:Int)<(List.length ([(⟨#[105,102,32]⟩:BA),(⟨#[32,116,104,101,110,32]⟩:BA),(⟨#[32,101,108,115,101,32]⟩:BA)]):Int))=true:=by decide
  have c1:decide ((1:Int)<(List.length ([(⟨#[105,102,32]⟩:BA),(⟨#[32,116,104,101,110,32]⟩:BA),(⟨#[32,101,108,115,101,32]⟩:BA)]):Int))=true:=by decide
  have c2:decide ((2:Int)<(List.length ([(⟨#[105,102,32]⟩:BA),(⟨#[32,116,104,101,110,32]⟩:BA),(⟨#[32,101,108,115,101,32]⟩:BA)]):Int))=true:=by decide
  have c3:decide ((3:Int)<(List.length ([(⟨#[105,102,32]⟩:BA),(⟨#[32,116,104,101,110,32]⟩:BA),(⟨#[32,101,108,115,101,32]⟩:BA)]):Int))=false:=by decide
  simp only[aJ,KK,c0,jJ,s0,j0,G,ed,wH]
  rw[a0 _ (by omega)]
  simp only[j0]
  rw[r t (by simp) D b (buf++tI) true (max m d) (d+1) 0 B (fun x q=>o x (by unfold cN;exact kA _ q)) (by omega) (by rw[jA];omega) (by omega) (dK 0)]
  simp only[j0,w0,c1,jJ,s1,Z]
  rw[S _ (by simp only[jA];omega)]
  simp only[j0]
  rw[r u (by simp) D (b+t.size) _ true _ (d+1) 0 y (fun x q=>o x (by unfold cN;refine kO _ ?_;unfold cN;exact kA _ q)) (by omega) (by simp only[jA];omega) (by omega) (dK 0)]
  simp only[j0,w1,c2,jJ,s2,i2]
  rw[a2 _ (by simp only[jA];omega)]
  simp only[j0]
  rw[r v (by simp) D (b+t.size+u.size) _ true _ (d+1) 0 R (fun x q=>o x (by unfold cN;refine kO _ ?_;unfold cN;refine kO _ ?_;unfold cN;exact kA _ q)) (by omega) (by simp only[jA];omega) (by omega) (dK 0)]
  simp only[j0,w2,c3,jB,jF,jD,if_neg f,lX,E,hJ,dT]
 .obtain⟨t,rfl⟩:=qEp a
  have c:h.1≠1:=by omega
  have g:h.1≠2:=by omega
  have f:h.1≠4:=by omega
  have p:h.1≠5:=by omega
  have y:h.1≠3:=by omega
  simp only[aX,fC] at H V o
  obtain⟨B,-⟩:=A.head
  have E:∀j,eE h j=0:=fun j=>by unfold eE;rw[if_neg f]
  have eb:iD ps h (eF ps h 0 [t])=(((⟨#[114,101,97,100,40,34]⟩:BA)++h.2.2.2)++(⟨#[34,44,32]⟩:BA)).data.toList++(t.wr ps 0++[41]):=by
   unfold iD;rw[if_neg c,if_neg g,if_neg f,if_neg p,if_neg y,if_pos k]
   simp only[eF,E];rfl
  rw[eb] at n ⊢
  rw[if_neg (by simpa using c),if_neg (by simpa using g),if_neg (by simpa using f),if_neg (by simpa using p),if_neg (by simpa using y),if_pos (by simpa using k)]
  have U:=t.pos
  have G:idx (bX b [t]) 0=some ((b+t.size-1:Nat):Int):=rfl
  have R:(⟨#[114,101,97,100,40,34]⟩:BA).size=6:=rfl
  have S:(⟨#[34,44,32]⟩:BA).size=3:=rfl
  simp only[jA,eS,ByteArray.size_append,jC,jE] at n
  rw[catW (by omega)]
  simp only[j0]
  rw[catW (by rw[ByteArray.size_append];omega)]
  simp only[j0]
  rw[nX (by simp only[eS,ByteArray.size_append];omega)]
  simp only[j0,G,ed,wH]
  rw[r t (by simp) D b _ true (max m d) (d+1) 0 B (fun x q=>o x (by unfold cN;exact kA _ q)) (by omega) (by simp only[jA,eS,ByteArray.size_append];omega) (by omega) (dK 0)]
  simp only[j0]
  rw[nX (by simp only[jA,eS,ByteArray.size_append,jC,jE];omega)]
  simp only[j0,jD,if_neg f,lX,E,hJ,dT]
 all_goals obtain rfl:=NP a
 .have c:h.1≠1:=by omega
  have g:h.1≠2:=by omega
  have f:h.1≠4:=by omega
  have p:h.1≠5:=by omega
  have y:h.1≠3:=by omega
  have E:h.1≠6:=by omega
  have B:h.1≠10:=by omega
  have eb:iD ps h (eF ps h 0 [])=(((mO h.1++(⟨#[40,34]⟩:BA))++h.2.2.2)++(⟨#[34,41]⟩:BA)).data.toList:=by
   unfold iD;rw[if_neg c,if_neg g,if_neg f,if_neg p,if_neg y,if_neg E,if_neg B]
  rw[eb] at n ⊢
  rw[if_neg (by simpa using c),if_neg (by simpa using g),if_neg (by simpa using f),if_neg (by simpa using p),if_neg (by simpa using y),if_neg (by simpa using E),if_neg (by simpa using B)]
  simp only[eS,ByteArray.size_append] at n
  have R:(⟨#[40,34]⟩:BA).size=2:=rfl
  have S:(⟨#[34,41]⟩:BA).size=2:=rfl
  simp only[wm1,wm2,wm3,j0]
  rw[show(cS (some MT) h.1).getD (⟨#[]⟩:BA)=mO h.1 from rfl,catW (by omega)]
  simp only[j0]
  rw[catW (by rw[ByteArray.size_append];omega)]
  simp only[j0]
  rw[catW (by rw[ByteArray.size_append,ByteArray.size_append];omega)]
  simp only[j0]
  rw[nX (by simp only[eS,ByteArray.size_append];omega)]
  simp only[j0,wH,lX,hJ]
 .have c:h.1≠1:=by omega
  have g:h.1≠2:=by omega
  have f:h.1≠4:=by omega
  have p:h.1≠5:=by omega
  have y:h.1≠3:=by omega
  have E:h.1≠6:=by omega
  have B:h.1≠10:=by omega
  have eb:iD ps h (eF ps h 0 [])=(((mO h.1++(⟨#[40,34]⟩:BA))++h.2.2.2)++(⟨#[34,41]⟩:BA)).data.toList:=by
   unfold iD;rw[if_neg c,if_neg g,if_neg f,if_neg p,if_neg y,if_neg E,if_neg B]
  rw[eb] at n ⊢
  rw[if_neg (by simpa using c),if_neg (by simpa using g),if_neg (by simpa using f),if_neg (by simpa using p),if_neg (by simpa using y),if_neg (by simpa using E),if_neg (by simpa using B)]
  simp only[eS,ByteArray.size_append] at n
  have R:(⟨#[40,34]⟩:BA).size=2:=rfl
  have S:(⟨#[34,41]⟩:BA).size=2:=rfl
  simp only[wm1,wm2,wm3,j0]
  rw[show(cS (some MT) h.1).getD (⟨#[]⟩:BA)=mO h.1 from rfl,catW (by omega)]
  simp only[j0]
  rw[catW (by rw[ByteArray.size_append];omega)]
  simp only[j0]
  rw[catW (by rw[ByteArray.size_append,ByteArray.size_append];omega)]
  simp only[j0]
  rw[nX (by simp only[eS,ByteArray.size_append];omega)]
  simp only[j0,wH,lX,hJ]
 have c:h.1≠1:=by omega
 have g:h.1≠2:=by omega
 have f:h.1≠4:=by omega
 have p:h.1≠5:=by omega
 have y:h.1≠3:=by omega
 have E:h.1≠6:=by omega
 dsimp only at z F
 have eb:iD ps h (eF ps h 0 [])=(((⟨#[102,108,105,112,40]⟩:BA)++oA h.2.1)++(⟨#[41]⟩:BA)).data.toList:=by
  unfold iD;rw[if_neg c,if_neg g,if_neg f,if_neg p,if_neg y,if_neg E,if_pos k]
 rw[eb] at n ⊢
 rw[if_neg (by simpa using c),if_neg (by simpa using g),if_neg (by simpa using f),if_neg (by simpa using p),if_neg (by simpa using y),if_neg (by simpa using E),if_pos (by simpa using k),qCd (by omega) (by omega)]
 simp only[eS,ByteArray.size_append] at n
 simp only[j0]
 rw[catW (by omega)]
 simp only[j0]
 rw[catW (by rw[ByteArray.size_append];omega)]
 simp only[j0]
 rw[nX (by simp only[eS,ByteArray.size_append];omega)]
 simp only[j0,wH,lX,hJ]
theorem qQn{h:Hd}{ks:List Rose}(k:3000000<N)(e:∀t∈ks,EQ N l ps t)(f:ks.length<2000000):EQ N l ps (.mk h ks):=by
 intro D b buf s m d need a o q c r p
 simp only[Rose.size] at q r ⊢
 rw[show b+(aX ks+1)-1=b+aX ks by omega]
 simp only[Rose.wr,Rose.dep] at c ⊢
 by_cases hl:dY h<need
 .rw[if_pos hl] at c ⊢
  simp only[if_pos hl]
  simp only[jC,jA,jE] at c
  obtain⟨D,rfl⟩:∃D',D=D'+2:=⟨D-2,by omega⟩
  have n:¬dY h<0:=by
   unfold dY
   split
   .omega
   split
   .split
    .omega
    split<;>omega
   omega
  obtain⟨g,-⟩:=a.args
  have g:l[b+aX ks]? =some (h.1,h.2.1,h.2.2.1,h.2.2.2,bX b ks):=g
  have ed:IntKind.wrap .i64 ((d:Int)+1)=((d+1:Nat):Int):=by rw[bT (by omega) (by omega)];omega
  show zC N (xG N (D+1)) _ _ _ _=_
  unfold zC
  dsimp only
  rw[tU g]
  simp only[j0]
  rw[show xL N (h.1,h.2.1,h.2.2.1,h.2.2.2,bX b ks)=some (dY h) from qBj _]
  simp only[j0]
  rw[if_pos (by simpa using hl),nX (by simp only[jC,jE];omega)]
  simp only[j0,ed]
  rw[qBx k e a o (by omega) (by simp only[jA,jC,jE];omega) (by omega) n f]
  simp only[j0]
  rw[nX (by simp only[jA,jC,jE];omega)]
  simp only[j0,jD,jQ,jO]
 rw[if_neg hl] at c ⊢
 simp only[if_neg hl]
 obtain⟨D,rfl⟩:∃D',D=D'+1:=⟨D-1,by omega⟩
 exact qBx k e a o (by omega) c (by omega) hl f
end
mutual
theorem qEf{N:Nat}{l:List Ex}{ps:List BA}(a:3000000<N)(t:Rose)(b:t.size<2000000):EQ N l ps t:=by
 match t with
 | .mk h ks=>
  have c:aX ks<2000000:=by simp only[Rose.size] at b;omega
  exact qQn a (qDa a ks c) (by have:=VO ks;omega)
theorem qDa{N:Nat}{l:List Ex}{ps:List BA}(c:3000000<N)(ks:List Rose)(a:aX ks<2000000):∀t∈ks,EQ N l ps t:=by
 match ks with
 |[]=>intro t h;cases h
 |t::ks=>
  have d:t.size<2000000:=by simp only[aX] at a;omega
  have e:aX ks<2000000:=by simp only[aX] at a;omega
  have f:=qEf (l:=l) (ps:=ps) c t d
  have g:=qDa (l:=l) (ps:=ps) c ks e
  intro u b
  rcases jT.1 b with rfl|b
  .exact f
  exact g u b
end
end
section
open Go Go.Dc
abbrev Ct:=Int×List UInt8
def nM(c:Ct):List UInt8:=if c.1=3 then 34::(c.2++[34]) else c.2
theorem uQ{k:Int}{l:List UInt8}(h:k≠3):nM (k,l)=l:=by unfold nM;rw[if_neg h]
def IV:List (List UInt8):=[[59],[44],[40],[41],[43],[45],[42],[47],[37],[60],[61],[61,61]]
def pX(c:Ct):Prop:=(c.1=1/\(∃x l,c.2=x::l/\kd x=1)/\(∀x∈c.2,aV [1,2,3] x=true)/\c.2.length<=24)\/(c.1=2/\c.2≠[]/\(∀x∈c.2,aV [2] x=true)/\mQ c.2<=9007199254740992)\/
 (c.1=3/\∀x∈c.2,eD x=true)\/(c.1=4/\c.2∈IV)
abbrev lK:=Int×BA×Int
def eY(c:Ct):lK:=(c.1,if c.1=2 then⟨#[]⟩ else⟨⟨c.2⟩⟩,if c.1=2 then mQ c.2 else 0)
def cO(t:bB):lK:=(t.1,t.2.1,t.2.2.1)
def IU(c:Ct)(x:UInt8):Bool:=if c.1=1 then !aV [1,2,3] x else if c.1=2 then !aV [2] x else if c.2=[61] then x !=61 else true
abbrev Pc:=Ct×List UInt8
def cL:List Pc->List UInt8
 |[]=>[]
 |p::l=>nM p.1++(p.2++cL l)
def iQ:List Pc->Prop
 |[]=>True
 |p::l=>pX p.1/\(∀x∈p.2,aV [5] x=true)/\(∀x r,p.2++cL l=x::r->IU p.1 x=true)/\iQ l
theorem CW{p:UInt8->Bool}:∀{a r:List UInt8},(∀x∈a,p x=true)->(∀x q,r=x::q->p x=false)->(a++r).takeWhile p=a
 |[],[],_,_=>rfl
 |[],x::q,_,h=>by rw[jO,fD (by rw[h x q rfl];simp)]
 |x::a,r,b,c=>by rw[jQ,kV (b x (jH ..)),CW (fun y d=>b y (jL _ d)) c]
theorem IP{p:UInt8->Bool}{pre a r:List UInt8}(b:∀x∈a,p x=true)(c:∀x q,r=x::q->p x=false):tw p (pre++(a++r)) pre.length=pre.length+a.length:=by
 unfold tw
 rw[fY,CW b c]
theorem tQ{pre:List UInt8}{x:UInt8}{r:List UInt8}:(pre++x::r).getD pre.length 0=x:=by
 rw[jN,List.getElem?_append_right (jP _),Nat.sub_self];rfl
theorem SI{s:BA}{pre a r:List UInt8}(h:s.data.toList=pre++(a++r)):s.extract pre.length (pre.length+a.length)=⟨⟨a⟩⟩:=
 ByteArray.ext (Array.ext' (by
  simp only[ByteArray.data_extract,gU,gG]
  rw[h,fY,Nat.add_sub_cancel_left,fJ]))
theorem qAw{l:List UInt8}(h:l∈IV):(∃x,l=[x]/\kd x=8)\/l=[61,61]:=by
 simp only[IV,jT,gB,dE] at h
 rcases h with rfl|rfl|rfl|rfl|rfl|rfl|rfl|rfl|rfl|rfl|rfl|rfl<;>first|exact .inr rfl|exact .inl ⟨_,rfl,by kernel_rfl⟩
theorem MP{k:Int}{x:UInt8}:aV [k] x=true↔kd x=k:=by simp[aV]
theorem ZJ{c:Ct}(h:pX c):∃x r,nM c=x::r/\(kd x=1\/kd x=2\/kd x=7\/kd x=8):=by
 obtain⟨k,l⟩:=c
 rcases h with ⟨rfl,⟨x,r,b,a⟩,-,-⟩|⟨rfl,b,a,-⟩|⟨rfl,b⟩|⟨rfl,b⟩
 .exact⟨x,r,by rw[uQ (by decide)];exact b,.inl a⟩
 .cases l with
  |nil=>exact absurd rfl b
  |cons x r=>exact⟨x,r,uQ (by decide),.inr (.inl (MP.1 (a x (jH ..))))⟩
 .exact⟨34,l++[34],by unfold nM;rw[if_pos rfl],.inr (.inr (.inl (by kernel_rfl)))⟩
 rcases qAw b with ⟨x,a,d⟩|a
 .have a:l=[x]:=a
  subst a
  exact⟨x,[],uQ (by decide),.inr (.inr (.inr d))⟩
 have a:l=[61,61]:=a
 subst a
 exact⟨61,[61],uQ (by decide),.inr (.inr (.inr (by kernel_rfl)))⟩
theorem qNw{s:BA}{pre r:List UInt8}{c:Ct}(E:pX c)(b:s.data.toList=pre++(nM c++r))(B:∀x q,r=x::q->IU c x=true):
  cM s pre.length=(((eY c).1,(eY c).2.1,(eY c).2.2,0),((pre.length+(nM c).length:Nat):Int),0):=by
 obtain⟨k,l⟩:=c
 rcases E with ⟨rfl,⟨x,q,f,a⟩,o,D⟩|⟨rfl,f,a,o⟩|⟨rfl,f⟩|⟨rfl,f⟩
 .have eb:nM (1,l)=l:=uQ (by decide)
  rw[eb] at b ⊢
  have f:l=x::q:=f
  have d:s.data.toList.getD pre.length 0=x:=by rw[b,f];exact tQ
  have p:tw (aV [1,2,3]) s.data.toList pre.length=pre.length+l.length:=by
   rw[b]
   exact IP o fun y z t=>by have:=B y z t;simpa[IU] using this
  have D:l.length<=24:=D
  unfold cM
  rw[if_pos (by rw[d];exact a),p,if_neg (by omega),SI b]
  rfl
 .have eb:nM (2,l)=l:=uQ (by decide)
  rw[eb] at b ⊢
  have f:l≠[]:=f
  have o:mQ l<=9007199254740992:=o
  obtain⟨x,q,e⟩:∃x q,l=x::q:=by cases l with
   |nil=>exact absurd rfl f
   |cons x q=>exact⟨x,q,rfl⟩
  have d:s.data.toList.getD pre.length 0=x:=by rw[b,e];exact tQ
  have n:kd x=2:=MP.1 (a x (by show x∈l;rw[e];exact jH ..))
  have u:∀y z,r=y::z->aV [2] y=false:=fun y z t=>by have:=B y z t;simpa[IU] using this
  have p:tw (aV [2]) s.data.toList pre.length=pre.length+l.length:=by
   rw[b];exact IP a u
  have A:(s.data.toList.drop pre.length).takeWhile (aV [2])=l:=by
   rw[b,fY];exact CW a u
  unfold cM
  rw[if_neg (by rw[d,n];decide),if_pos (by rw[d];exact n),p,A,if_neg (by omega)]
  rfl
 .have eb:nM (3,l)=34::(l++[34]):=by unfold nM;rw[if_pos rfl]
  rw[eb] at b ⊢
  have d:s.data.toList.getD pre.length 0=34:=by rw[b];exact tQ
  have n:kd 34=7:=by kernel_rfl
  have v:s.data.toList=(pre++[34])++(l++(34::r)):=by rw[b];simp
  have u:(pre++[34]).length=pre.length+1:=by simp
  have p:tw eD s.data.toList (pre.length+1)=pre.length+1+l.length:=by
   rw[v,<-u]
   exact IP f fun y z t=>by cases t;rfl
  have A:s.data.toList.getD (pre.length+1+l.length) 0=34:=by
   rw[b,show pre++(34::(l++[34])++r)=(pre++34::l)++34::r by simp,show pre.length+1+l.length=(pre++34::l).length by simp;omega]
   exact tQ
  have t:=SI v
  rw[u] at t
  unfold cM
  rw[if_neg (by rw[d,n];decide),if_neg (by rw[d,n];decide),if_pos (by rw[d];exact n),p,if_pos A,t]
  unfold eY
  simp only[jC,jA,jE]
  rw[show pre.length+1+l.length+1=pre.length+(l.length+(0+1)+1) by omega]
  rfl
 have eb:nM (4,l)=l:=uQ (by decide)
 rw[eb] at b ⊢
 have u:∀{x:UInt8},kd x=8->kd x≠1/\kd x≠2/\kd x≠7:=fun h=>by rw[h];decide
 have key:∀x q,l=x::q->kd x=8->oJ s.data.toList pre.length=pre.length+l.length->cM s pre.length=(((eY (4,l)).1,(eY (4,l)).2.1,(eY (4,l)).2.2,0),((pre.length+l.length:Nat):Int),0):=fun x q e n t=>by
  have d:s.data.toList.getD pre.length 0=x:=by rw[b,e];exact tQ
  obtain⟨p,v,A⟩:=u n
  unfold cM
  rw[if_neg (by rw[d];exact p),if_neg (by rw[d];exact v),if_neg (by rw[d];exact A),if_pos (by rw[d];exact n),t,SI b]
  rfl
 rcases qAw f with ⟨x,a,o⟩|a
 .have a:l=[x]:=a
  refine key x [] a o ?_
  have d:s.data.toList.getD pre.length 0=x:=by rw[b,a];exact tQ
  unfold oJ
  rw[if_neg,a]
  .rfl
  rw[d]
  rintro⟨rfl,g⟩
  cases r with
  |nil=>
   rw[b,a,jN,List.getElem?_eq_none (by simp)] at g
   cases g
  |cons y z=>
   have p:s.data.toList.getD (pre.length+1) 0=y:=by
    rw[b,a,show pre++([61]++y::z)=(pre++[61])++y::z by simp,show pre.length+1=(pre++[(61:UInt8)]).length by simp]
    exact tQ
   have:=B y z rfl
   simp only[IU,a] at this
   rw[p] at g
   simp[g] at this
 have a:l=[61,61]:=a
 refine key 61 [61] a (by kernel_rfl) ?_
 have d:s.data.toList.getD pre.length 0=61:=by rw[b,a];exact tQ
 have p:s.data.toList.getD (pre.length+1) 0=61:=by
  rw[b,a,show pre++([61,61]++r)=(pre++[61])++61::r by simp,show pre.length+1=(pre++[(61:UInt8)]).length by simp]
  exact tQ
 unfold oJ
 rw[if_pos ⟨d,p⟩,a]
 rfl
theorem XG{s:BA}:∀(ps:List Pc) (pre bl:List UInt8) (k:Nat),s.data.toList=pre++(bl++cL ps)->(∀x∈bl,aV [5] x=true)->iQ ps->ps.length<k->
  ∃ts,iT k s pre.length= .inr ts/\ts.map cO=ps.map (fun p=>eY p.1)++[(5,⟨#[]⟩,0)]
 |_,_,_,0,_,_,_,h=>absurd h (kT _)
 |[],pre,bl,k+1,n,g,_,_=>by
  have hs':s.data.toList=pre++(bl++[]):=n
  have e:tw (aV [5]) s.data.toList pre.length=s.data.toList.length:=by
   rw[hs',IP g fun x q h=>by cases h]
   simp
  refine⟨[(5,⟨#[]⟩,0,(s.data.toList.length:Int))],?_,rfl⟩
  unfold iT
  rw[e,if_pos rfl]
 |p::ps,pre,bl,k+1,n,g,G,H=>by
  obtain⟨t,D,E,F⟩:=G
  obtain⟨x,r,d,o⟩:=ZJ t
  have K:aV [5] x=false:=by
   cases h:aV [5] x with
   |false=>rfl
   |true=>have:=MP.1 h;rcases o with f|f|f|f<;>rw[f] at this<;>cases this
  have M:kd x≠6:=by rcases o with f|f|f|f<;>rw[f]<;>decide
  have a:s.data.toList=pre++(bl++(nM p.1++(p.2++cL ps))):=n
  have b:s.data.toList=(pre++bl)++(nM p.1++(p.2++cL ps)):=by rw[a];simp
  have v:s.data.toList=(pre++bl++nM p.1)++(p.2++cL ps):=by rw[a];simp
  have c:(pre++bl).length=pre.length+bl.length:=by simp
  have B:tw (aV [5]) s.data.toList pre.length=pre.length+bl.length:=by
   rw[a]
   refine IP g fun y q h=> ?_
   rw[d] at h
   cases h
   exact K
  have A:s.data.toList.getD (pre.length+bl.length) 0=x:=by
   rw[b,d,<-c];exact tQ
  have l:s.data.toList.length≠pre.length+bl.length:=by
   rw[b,d];simp only[jA,jC];omega
  have z:=qNw t b E
  rw[c] at z
  obtain⟨ts,t1,t2⟩:=XG ps (pre++bl++nM p.1) p.2 k v D F (by simp only[jC] at H;omega)
  have u:(pre++bl++nM p.1).length=pre.length+bl.length+(nM p.1).length:=by simp;omega
  refine⟨((eY p.1).1,(eY p.1).2.1,(eY p.1).2.2,((pre.length+bl.length:Nat):Int))::ts,?_,?_⟩
  .unfold iT
   rw[B,if_neg (Ne.symm l),if_neg (by rw[A];exact M),z]
   simp only[ne_eq,not_true_eq_false,jF,jX]
   rw[<-u,t1]
  rw[kG,t2];rfl
theorem qIa{ps:List Pc}(e:(cL ps).length<=16384)(a:iQ ps):∃ts,iP ⟨⟨cL ps⟩⟩=(ts,0,0)/\ts.map cO=ps.map (fun p=>eY p.1)++[(5,⟨#[]⟩,0)]:=by
 have g:ps.length<=(cL ps).length:=by
  clear e
  induction ps with
  |nil=>exact kE _
  |cons p ps f=>
   obtain⟨c,-,-,d⟩:=a
   obtain⟨x,r,b,-⟩:=ZJ c
   have:=f d
   unfold cL
   simp only[jA,jC,b];omega
 obtain⟨ts,t1,t2⟩:=XG (s:=⟨⟨cL ps⟩⟩) ps [] [] ((cL ps).length+1) rfl (fun x h=>by cases h) a (by omega)
 refine⟨ts,?_,t2⟩
 have t1:iT ((cL ps).length+1) ⟨⟨cL ps⟩⟩ 0= .inr ts:=t1
 unfold iP
 rw[if_neg (by show ¬(cL ps).length>16384;omega)]
 show uZ [] (iT ((cL ps).length+1) _ 0)=_
 rw[t1]
 rfl
end
section
open Go Go.Dc Go.Proofs
theorem MM:∀i:Fin 10,aV [2] (UInt8.ofNat (48+i.val))=true/\(UInt8.ofNat (48+i.val)).toNat=48+i.val:=by decide+kernel
theorem QL{n:Nat}(h:¬n<10):Lib.decDigits n=Lib.decDigits (n/10)++[UInt8.ofNat (48+n%10)]:=by rw[Lib.decDigits,dif_neg h]
theorem qMt(n:Nat):∀x∈Lib.decDigits n,aV [2] x=true:=by
 induction n using Nat.strongRecOn with
 |_ n b=>
  intro x a
  by_cases h:n<10
  .rw[Lib.decDigits_one h,jK] at a
   rw[a];exact(MM ⟨n,h⟩).1
  rw[QL h] at a
  rcases kL.1 a with a|a
  .exact b (n/10) (by omega) x a
  rw[jK] at a
  rw[a];exact(MM ⟨n%10,by omega⟩).1
theorem qDc(n:Nat):Lib.decDigits n≠[]:=by
 intro h
 have:=Lib.decDigits_length n
 rw[h] at this
 have:=Lib.nDigits_pos n
 simp only[jE] at*;omega
theorem ZT(n:Nat)(b:n<=9007199254740992):mQ (Lib.decDigits n)=(n:Int):=by
 induction n using Nat.strongRecOn with
 |_ n a=>
  by_cases h:n<10
  .rw[Lib.decDigits_one h]
   have:=(MM ⟨n,h⟩).2
   show wS 0 (UInt8.ofNat (48+n))=_
   unfold wS
   simp only at this
   rw[this,if_neg (by omega)];omega
  rw[QL h,HO,a (n/10) (by omega) (by omega)]
  have:=(MM ⟨n%10,by omega⟩).2
  simp only at this
  unfold wS
  rw[this,if_neg (by omega)];omega
theorem MQ:∀(k n:Nat),n<10^(k+1)->(Lib.decDigits n).length<=k+1
 |0,n,h=>by rw[Lib.decDigits_one (by simpa using h)];exact jP _
 |k+1,n,h=>by
  by_cases h10:n<10
  .rw[Lib.decDigits_one h10];simp
  rw[Nat.pow_succ] at h
  have:=MQ k (n/10) (by omega)
  rw[QL h10,jA,gE];omega
theorem qPs(n:Nat):(oA (n:Int)).data.toList=Lib.decDigits n:=by
 unfold oA Lib.itoa
 rw[if_neg (by omega),jX]
theorem EB{x y:BA}(h:x.data.toList=y.data.toList):x=y:=ByteArray.ext (Array.ext' h)
theorem mV(x y:BA):(x++y).data.toList=x.data.toList++y.data.toList:=by
 rw[ByteArray.data_append,Array.toList_append]
theorem QD{s:BA}(h:lW s=true):s.size<=24:=by
 have:=(gS h).2.1
 rw[eS] at this;exact this
theorem HR{s:BA}(h:mK s.data.toList=true):s.size<=80:=by
 have:s.data.toList.length<=80:=(gS h).1
 rw[eS] at this;exact this
theorem uO{s:BA}(h:eG s=true):s.size<=24:=by
 unfold eG at h
 rw[jI] at h
 exact QD h.1
theorem qMz{op:Int}(a:1<=op)(b:op<=7):(oK op).size<=2:=by
 rcases(by omega:op=1\/op=2\/op=3\/op=4\/op=5\/op=6\/op=7) with rfl|rfl|rfl|rfl|rfl|rfl|rfl<;>decide+kernel
theorem XV{k:Int}(h:k=7\/k=8\/k=9):(mO k).size<=4:=by
 rcases h with rfl|rfl|rfl<;>decide+kernel
theorem qCm{n:Int}(a: -9007199254740992<=n)(b:n<=9007199254740992):(oA n).size<=17:=by
 rw[<-eS]
 show(Lib.itoa n).length<=17
 unfold Lib.itoa
 split
 .have:=MQ 15 n.natAbs (by omega)
  simp only[jC];omega
 have:=MQ 15 n.toNat (by omega)
 omega
def oO(ws:List (List UInt8)):Nat:=(ws.map fun w=>w.length+2).sum
theorem HM:∀(ws:List (List UInt8)) (k:Nat),(mX k ws).length<=oO ws
 |[],_=>kE _
 |w::ws,k=>by
  have b:=HM ws (k+1)
  have a:(sH k).length<=2:=by unfold sH;split<;>simp
  unfold oO at*
  simp only[mX,jA,kG,dC];omega
theorem qNt{ps:List BA}{h:Hd}{ks:List Rose}{b:Nat}(B:∀s∈ps,s.size<=24)(D:iM (ps.length:Int) (eX h (bX b ks))=true):(iD ps h (eF ps h 0 ks)).length<=100+oO (eF ps h 0 ks):=by
 rcases HJ D with ⟨k,a,d,p,-,-⟩|⟨k,a,d,p,-,-⟩|⟨k,a,-,-⟩|⟨k,a,d,p,-,-⟩|⟨k,a,-,-,-⟩|⟨k,a,d,-,-⟩|⟨k,a,d,-,-⟩|⟨k,a,d,-,-⟩|⟨k,a,d,p,-,-⟩
 all_goals (try simp only[eX] at k)<;>(try simp only[eX] at a)
 .have:(oA h.2.1).size<=17:=qCm d p
  unfold iD
  rw[if_pos k,eS];omega
 .have c:h.1≠1:=by omega
  try simp only[eX] at d p
  have f:h.2.1.toNat<ps.length:=by omega
  have e:ps.getD h.2.1.toNat ⟨#[]⟩=ps[h.2.1.toNat]:=by rw[jN,List.getElem?_eq_getElem f];rfl
  have:=B _ (kH f)
  unfold iD
  rw[if_neg c,if_pos k,e,eS];omega
 .have c:h.1≠1:=by omega
  have f:h.1≠2:=by omega
  have l:h.1≠4:=by omega
  have o:h.1≠5:=by omega
  have g:=uO a
  have A:=HM (eF ps h 0 ks) 0
  have x:(⟨#[40]⟩:BA).size=1:=rfl
  unfold iD
  rw[if_neg c,if_neg f,if_neg l,if_neg o,if_pos k]
  try simp only[eX] at g
  simp only[jA,eS,ByteArray.size_append,jC,jE];omega
 .obtain⟨t,u,rfl⟩:=qEu a
  have c:h.1≠1:=by omega
  have f:h.1≠2:=by omega
  have g:=qMz d p
  have x:(⟨#[32]⟩:BA).size=1:=rfl
  try simp only[eX] at g
  unfold iD
  rw[if_neg c,if_neg f,if_pos k]
  simp only[eF,oO,kG,List.map_nil,dC,List.sum_nil,List.getD_cons_zero,List.getD_cons_succ,jA,eS,ByteArray.size_append];omega
 .obtain⟨t,u,v,rfl⟩:=qEs a
  have c:h.1≠1:=by omega
  have f:h.1≠2:=by omega
  have l:h.1≠4:=by omega
  have q:tI.length=3:=rfl
  have r:tThen.length=6:=rfl
  have y:tElse.length=6:=rfl
  unfold iD
  rw[if_neg c,if_neg f,if_neg l,if_pos k]
  simp only[eF,oO,kG,List.map_nil,dC,List.sum_nil,List.getD_cons_zero,List.getD_cons_succ,jA];omega
 .obtain⟨t,rfl⟩:=qEp a
  have c:h.1≠1:=by omega
  have f:h.1≠2:=by omega
  have l:h.1≠4:=by omega
  have o:h.1≠5:=by omega
  have r:h.1≠3:=by omega
  have g:=HR d
  have x:(⟨#[114,101,97,100,40,34]⟩:BA).size=6:=rfl
  have z:(⟨#[34,44,32]⟩:BA).size=3:=rfl
  try simp only[eX] at g
  unfold iD
  rw[if_neg c,if_neg f,if_neg l,if_neg o,if_neg r,if_pos k]
  simp only[eF,oO,kG,List.map_nil,dC,List.sum_nil,List.getD_cons_zero,jA,eS,ByteArray.size_append,jC,jE];omega
 all_goals obtain rfl:=NP a
 all_goals have c:h.1≠1:=by omega
 all_goals have f:h.1≠2:=by omega
 all_goals have l:h.1≠4:=by omega
 all_goals have o:h.1≠5:=by omega
 all_goals have r:h.1≠3:=by omega
 all_goals have y:h.1≠6:=by omega
 .have q:h.1≠10:=by omega
  have g:=HR d
  have A:=XV (k:=h.1) (by omega)
  have x:(⟨#[40,34]⟩:BA).size=2:=rfl
  have z:(⟨#[34,41]⟩:BA).size=2:=rfl
  try simp only[eX] at g
  unfold iD
  rw[if_neg c,if_neg f,if_neg l,if_neg o,if_neg r,if_neg y,if_neg q]
  simp only[eS,ByteArray.size_append];omega
 .have q:h.1≠10:=by omega
  have g:=QD d
  have A:=XV (k:=h.1) (by omega)
  have x:(⟨#[40,34]⟩:BA).size=2:=rfl
  have z:(⟨#[34,41]⟩:BA).size=2:=rfl
  try simp only[eX] at g
  unfold iD
  rw[if_neg c,if_neg f,if_neg l,if_neg o,if_neg r,if_neg y,if_neg q]
  simp only[eS,ByteArray.size_append];omega
 try simp only[eX] at d p
 have g:=qCm (n:=h.2.1) (by omega) (by omega)
 have x:(⟨#[102,108,105,112,40]⟩:BA).size=5:=rfl
 have z:(⟨#[41]⟩:BA).size=1:=rfl
 unfold iD
 rw[if_neg c,if_neg f,if_neg l,if_neg o,if_neg r,if_neg y,if_pos k]
 simp only[eS,ByteArray.size_append];omega
mutual
theorem qDs{ps:List BA}(a:∀s∈ps,s.size<=24)(t:Rose)(b:Nat)(need:Int)(c:∀x∈t.flat b,iM (ps.length:Int) x=true):(t.wr ps need).length+2<=110*t.size:=by
 match t with
 | .mk h ks=>
  have e:=qCw a ks h 0 b (fun x d=>c x (by unfold Rose.flat;exact kA _ d))
  have f:=qNt (b:=b) a (c (eX h (bX b ks)) (by unfold Rose.flat;exact kO _ (jH ..)))
  simp only[Rose.wr,Rose.size]
  split
  .simp only[jC,jA,jE];omega
  omega
theorem qCw{ps:List BA}(a:∀s∈ps,s.size<=24)(l:List Rose)(h:Hd)(k b:Nat)(d:∀x∈cN b l,iM (ps.length:Int) x=true):oO (eF ps h k l)<=110*aX l:=by
 match l with
 |[]=>exact kE _
 |t::l=>
  have e:=qDs a t b (eE h k) (fun x c=>d x (by unfold cN;exact kA _ c))
  have f:=qCw a l h (k+1) (b+t.size) (fun x c=>d x (by unfold cN;exact kO _ c))
  simp only[eF,oO,kG,dC,aX] at*
  omega
end
def qR(d:Dl):List UInt8:=match vE d.2.2.2 with
 |some t=>t.wr d.2.2.1 0
 |none=>[]
def pW(d:Dl):Nat:=match vE d.2.2.2 with
 |some t=>t.dep 0 1
 |none=>0
structure GoodD(d:Dl):Prop where
 head:tX d=true
 pars:∀s∈d.2.2.1,d.1=1/\eG s=true
 nodes:∀x∈d.2.2.2,iM (d.2.2.1.length:Int) x=true
 tree:oneP (oP d.2.2.2 0 [])=true
theorem qNr{d:Dl}(h:rK d=true):GoodD d:=by
 unfold rK yC AX at h
 simp only[jI,jU,kJ] at h
 exact⟨h.1,h.2.1,h.2.2.1,h.2.2.2⟩
theorem qPl{ps:List BA}{h:Hd}{ks:List Rose}{b:Nat}(r:∀s∈ps,s.data.toList≠[])(t:iM (ps.length:Int) (eX h (bX b ks))=true):iD ps h (eF ps h 0 ks)≠[]:=by
 have ne:∀{x y:List UInt8},y≠[]->x++y≠[]:=fun h e=>h (dQ.1 e).2
 have nel:∀{x y:List UInt8},x≠[]->x++y≠[]:=fun h e=>h (dQ.1 e).1
 rcases HJ t with ⟨k,a,g,p,-,-⟩|⟨k,a,g,p,-,-⟩|⟨k,a,-,-⟩|⟨k,a,g,p,-,-⟩|⟨k,a,-,-,-⟩|⟨k,a,g,-,-⟩|⟨k,a,g,-,-⟩|⟨k,a,g,-,-⟩|⟨k,a,g,p,-,-⟩
 all_goals try simp only[eX] at k
 .unfold iD
  rw[if_pos k]
  show Lib.itoa h.2.1≠[]
  unfold Lib.itoa
  split
  .simp
  exact qDc _
 .have c:h.1≠1:=by omega
  try simp only[eX] at g p
  have d:h.2.1.toNat<ps.length:=by omega
  have e:ps.getD h.2.1.toNat ⟨#[]⟩=ps[h.2.1.toNat]:=by rw[jN,List.getElem?_eq_getElem d];rfl
  unfold iD
  rw[if_neg c,if_pos k,e]
  exact r _ (kH d)
 all_goals have c:h.1≠1:=by omega
 all_goals have d:h.1≠2:=by omega
 .have f:h.1≠4:=by omega
  have l:h.1≠5:=by omega
  unfold iD
  rw[if_neg c,if_neg d,if_neg f,if_neg l,if_pos k]
  exact ne (ne (by simp))
 .unfold iD
  rw[if_neg c,if_neg d,if_pos k]
  refine ne (nel ?_)
  rw[mV,mV]
  exact ne (by simp)
 all_goals have f:h.1≠4:=by omega
 .unfold iD
  rw[if_neg c,if_neg d,if_neg f,if_pos k]
  exact nel (by simp[tI])
 all_goals have l:h.1≠5:=by omega
 all_goals have o:h.1≠3:=by omega
 .unfold iD
  rw[if_neg c,if_neg d,if_neg f,if_neg l,if_neg o,if_pos k]
  exact ne (ne (by simp))
 all_goals have q:h.1≠6:=by omega
 .have n:h.1≠10:=by omega
  unfold iD
  rw[if_neg c,if_neg d,if_neg f,if_neg l,if_neg o,if_neg q,if_neg n,mV]
  exact ne (by simp)
 .have n:h.1≠10:=by omega
  unfold iD
  rw[if_neg c,if_neg d,if_neg f,if_neg l,if_neg o,if_neg q,if_neg n,mV]
  exact ne (by simp)
 unfold iD
 rw[if_neg c,if_neg d,if_neg f,if_neg l,if_neg o,if_neg q,if_pos k,mV]
 exact ne (by simp)
theorem qUv{ps:List BA}(a:∀s∈ps,s.data.toList≠[])(t:Rose)(b:Nat)(need:Int)(c:∀x∈t.flat b,iM (ps.length:Int) x=true):t.wr ps need≠[]:=by
 cases t with
 |mk h ks=>
  simp only[Rose.wr]
  split
  .simp
  exact qPl (b:=b) a (c (eX h (bX b ks)) (by unfold Rose.flat;exact kO _ (jH ..)))
theorem qQb{s:BA}(h:eG s=true):s.data.toList≠[]:=by
 unfold eG at h
 rw[jI] at h
 have:=(gS h.1).1
 intro e
 rw[e] at this
 simp at this
theorem RI{N:Nat}{d:Dl}(b:GoodD d)(A:d.2.2.2.length<=256)(r:3000000<N):zQ N d.2.2.2 d.2.2.1=some (iL (qR d),(pW d:Int))/\(qR d).length<=30000:=by
 obtain⟨t,g,c⟩:=QZ b.tree
 have y:t.size=d.2.2.2.length:=by
  have:=iW t 0
  rw[<-c] at this;exact this.symm
 have B:=t.pos
 have f:∀x∈t.flat 0,iM (d.2.2.1.length:Int) x=true:=fun x v=>b.nodes x (by rw[c];exact v)
 have z:=qDs (ps:=d.2.2.1) (fun s e=>uO (b.pars s e).2) t 0 0 f
 have h:AtT d.2.2.2 0 t:=by
  have:=AtT.whole t
  rw[<-c] at this;exact this
 have q:qR d=t.wr d.2.2.1 0:=by unfold qR;rw[g]
 have k:pW d=t.dep 0 1:=by unfold pW;rw[g]
 refine⟨?_,by rw[q];omega⟩
 unfold zQ
 rw[bT (by omega) (by omega)]
 have p:=qEf (l:=d.2.2.2) (ps:=d.2.2.1) r t (by omega) N 0 [] false 0 1 0 h f (by omega) (by simp only[jE];omega) (by omega) (dK 0)
 rw[show(((0+t.size-1:Nat)):Int)=(d.2.2.2.length:Int)-1 by omega,show((0:Nat):Int)=0 from rfl,show((1:Nat):Int)=1 from rfl] at p
 rw[show OC N ((false,([]:List (UInt8))),d.2.2.2,d.2.2.1,0) ((d.2.2.2.length:Int)-1) 0 1=_ from p]
 simp only[j0,jO]
 have n:=qUv (ps:=d.2.2.1) (fun s e=>qQb (b.pars s e).2) t 0 0 f
 have o:IZ (t.wr d.2.2.1 0)=some ():=by
  cases u:t.wr d.2.2.1 0 with
  |nil=>exact absurd u n
  |cons a l=>rfl
 rw[o,q,k]
 simp only[j0,Nat.zero_max]
def vD(l:List BA):BA:=⟨⟨mX 0 (l.map fun s=>s.data.toList)⟩⟩
def tZ(d:Dl):BA:=
 if d.1=1 then((((⟨#[102,117,110,99,32]⟩:BA)++d.2.1)++(⟨#[40]⟩:BA))++vD d.2.2.1)++(⟨#[41]⟩:BA)
 else if d.1=2 then(⟨#[116,101,115,116,32]⟩:BA)++d.2.1
 else((⟨#[103,101,110,32,34]⟩:BA)++d.2.1)++(⟨#[34]⟩:BA)
def pS(d:Dl):List UInt8:=(tZ d).data.toList++(((⟨#[32,61,32]⟩:BA)++iL (qR d))++(⟨#[59,10]⟩:BA)).data.toList
def yM(s:BA):List UInt8:=(((⟨#[112,97,99,107,97,103,101,32]⟩:BA)++s)++(⟨#[59,10]⟩:BA)).data.toList
def oR(s:BA):List UInt8:=(((⟨#[105,109,112,111,114,116,32]⟩:BA)++s)++(⟨#[59,10]⟩:BA)).data.toList
def sG(f:Sr):List UInt8:=(yM f.1++f.2.1.flatMap oR)++f.2.2.flatMap pS
theorem XA{α:Type}(g:α->List UInt8):∀(l:List α) (t:List UInt8),l.foldl (fun t x=>t++g x) t=t++l.flatMap g
 |[],t=>by simp
 |x::l,t=>by rw[List.foldl_cons,XA g l,kN,jD]
structure GoodS(f:Sr):Prop where
 pkg:eG f.1=true
 imps:∀s∈f.2.1,eG s=true
 impn:f.2.1.length<=8
 decn:f.2.2.length<=64
 decs:∀d∈f.2.2,GoodD d/\d.2.2.1.length<=8/\d.2.2.2.length<=256/\wN d.2.2.2=false
 once:qZ f=false
theorem DN{f:Sr}(h:pO f=0):GoodS f:=by
 unfold pO at h
 split at h
 .rename_i hs
  split at h
  .cases h
  rename_i ht
  split at h
  .cases h
  rename_i a
  have a:rR f=false:=by simpa using a
  unfold rS at hs
  unfold rR at a
  simp only[jI,jU] at hs
  simp only[kD,decide_eq_false_iff_not,fF] at a
  refine⟨hs.1,hs.2.1,by omega,by omega,fun d c=> ?_,by simpa using ht⟩
  have b:=a.2.2 d c
  unfold wM at b
  simp only[Bool.not_eq_true,kD,decide_eq_false_iff_not] at b
  exact⟨qNr (hs.2.2 d c),by omega,by omega,b.2.2⟩
 cases h
theorem RH{l:List BA}(h:∀s∈l,s.size<=24):(vD l).size<=26*l.length:=by
 have a:=HM (l.map fun s=>s.data.toList) 0
 have d:oO (l.map fun s=>s.data.toList)<=26*l.length:=by
  clear a
  induction l with
  |nil=>exact kE _
  |cons s l c=>
   have e:=h s (jH ..)
   have f:=c fun x b=>h x (jL _ b)
   unfold oO at*
   simp only[kG,dC,jC,eS] at*
   omega
 have b:(vD l).size=(mX 0 (l.map fun s=>s.data.toList)).length:=by rw[<-eS];rfl
 omega
theorem RF{d:Dl}(h:GoodD d):d.2.1.size<=80:=by
 have:=h.head
 unfold tX at this
 split at this
 .have:=uO this;omega
 split at this
 .exact HR this
 cases this
theorem qOn{d:Dl}(h:GoodD d)(e:d.2.2.1.length<=8):(tZ d).size<=400:=by
 have b:=RF h
 have c:=RH (l:=d.2.2.1) fun s a=>uO (h.pars s a).2
 have f:(⟨#[102,117,110,99,32]⟩:BA).size=5:=rfl
 have g:(⟨#[40]⟩:BA).size=1:=rfl
 have k:(⟨#[41]⟩:BA).size=1:=rfl
 have n:(⟨#[116,101,115,116,32]⟩:BA).size=5:=rfl
 have o:(⟨#[103,101,110,32,34]⟩:BA).size=5:=rfl
 have p:(⟨#[34]⟩:BA).size=1:=rfl
 unfold tZ
 split
 .simp only[ByteArray.size_append];omega
 split
 .simp only[ByteArray.size_append];omega
 simp only[ByteArray.size_append];omega
theorem LD(l:List UInt8):(iL l).data.toList=l:=rfl
theorem PE(l:List UInt8):(iL l).size=l.length:=by rw[<-eS,LD]
theorem qOx{N:Nat}{l:List BA}(h:l.length<=1):vX N l (⟨#[44,32]⟩:BA)=some (vD l):=by
 unfold vX
 rw[if_neg (by omega)]
 unfold KV
 match l,h with
 |[],_=>rfl
 |[x],_=>
  simp only[jC,jE]
  rw[if_neg (by decide),if_pos (by decide),show idx [x] 0=some x from rfl]
  simp only[j0]
  congr 1
  refine EB ?_
  show x.data.toList=mX 0 [x.data.toList]
  simp[mX,sH]
section
variable {ts:List bB} {params:List BA} {E S:Ps->PM Nat} {B:Nat}
def BE(B:Nat)(l:List Ex):Prop:=∀x∈l,x.2.2.2.2.length<=B
def wR(B:Nat)(E:Ps->PM Nat):Prop:=∀(p q:Ps) (x:Nat),BE B p.2->E p= .inr (q,x)->BE B q.2
theorem AS{t:bB}{x:Ex}{p q:Ps}{i:Nat}(b:BE B p.2)(c:x.2.2.2.2.length<=B)(h:iE t x p= .inr (q,i)):BE B q.2:=by
 obtain⟨rfl,-,-⟩:=AI h
 intro y a
 rcases kL.1 a with a|a
 .exact b y a
 rw[jK.1 a];exact c
theorem qDg(e:wR B E):∀(n:Nat) (l:List Int) (p q:Ps) (x:List Int),BE B p.2->pT ts E n l p= .inr (q,x)->BE B q.2/\x.length<=l.length+n
 |0,_,_,_,_,_,c=>by cases c
 |n+1,l,p,q,x,h,c=>by
  obtain⟨a,g,d⟩:=bP (show aW (E p) _=_ from c)
  have b:=e p a.1 a.2 h g
  split at d
  .obtain⟨k,o⟩:=qDg e n _ (a.1.1+1,a.1.2) q x b d
   exact⟨k,by simp only[jA,jC,jE] at o;omega⟩
  obtain⟨j,r,f⟩:=bP d
  obtain⟨rfl,rfl⟩:=Prod.mk.inj (Sum.inr.inj f)
  exact⟨b,by simp only[jA,jC,jE];omega⟩
theorem qJl(d:wR B E){p q:Ps}{x:List Int}(b:BE B p.2)(c:pN ts E p= .inr (q,x)):BE B q.2/\x.length<=ts.length+1:=by
 obtain⟨i,hi,a⟩:=bP c
 split at a
 .obtain⟨rfl,rfl⟩:=Prod.mk.inj (Sum.inr.inj a)
  exact⟨b,kE _⟩
 obtain⟨e,f⟩:=qDg d _ _ (i,p.2) q x b a
 exact⟨e,by simpa using f⟩
theorem qMe(z:3<=B)(v:wR B E){t:bB}{p q:Ps}{x:Nat}(h:BE B p.2)(o:nH ts E t p= .inr (q,x)):BE B q.2:=by
 obtain⟨i,hi,r⟩:=bP o
 obtain⟨a,f,s⟩:=bP r
 obtain⟨j,A,u⟩:=bP s
 have key:BE B a.1.2/\a.2.2.2.2.2.length<=B:=by
  split at f
  .obtain⟨b,g,e⟩:=bP f
   obtain⟨c,y,k⟩:=bP e
   obtain⟨d,l,n⟩:=bP k
   have:=v (c,p.2) d.1 d.2 h l
   obtain rfl:=Sum.inr.inj n
   exact⟨this,by show 1<=B;omega⟩
  split at f
  .obtain⟨b,g,e⟩:=bP f
   obtain rfl:=Sum.inr.inj e
   exact⟨h,kE _⟩
  split at f
  .obtain⟨b,g,e⟩:=bP f
   obtain rfl:=Sum.inr.inj e
   exact⟨h,kE _⟩
  split at f
  .obtain⟨b,g,e⟩:=bP f
   obtain rfl:=Sum.inr.inj e
   exact⟨h,kE _⟩
  obtain⟨b,g,e⟩:=bP f
  split at e
  .cases e
  obtain rfl:=Sum.inr.inj e
  exact⟨h,kE _⟩
 exact AS (p:=(j,a.1.2)) key.1 key.2 u
theorem qOq(h:ts.length+3<=B)(f:wR B E):wR B (lL ts params E):=by
 intro p q x c b
 unfold lL at b
 dsimp only at b
 split at b
 .exact AS (p:=(p.1+1,p.2)) c (kE _) b
 split at b
 .obtain⟨a,e,d⟩:=bP b
  exact AS (p:=(a.1,p.2)) c (kE _) d
 split at b
 .obtain⟨a,e,d⟩:=bP b
  have:=f (p.1+1,p.2) a.1 a.2 c e
  obtain⟨j,k,g⟩:=bP d
  obtain⟨rfl,rfl⟩:=Prod.mk.inj (Sum.inr.inj g)
  exact this
 split at b
 .cases b
 split at b
 .exact qMe (by omega) f (p:=(p.1+1,p.2)) c b
 split at b
 .cases b
 split at b
 .obtain⟨a,e,d⟩:=bP b
  obtain⟨g,k⟩:=qJl f (p:=(p.1+1,p.2)) c e
  exact AS (p:=a.1) g (by show a.2.length<=B;omega) d
 split at b
 .exact AS (p:=(p.1+1,p.2)) c (kE _) b
 cases b
theorem qDb(h:3<=B){level:Nat}(d:wR B S):∀(n x:Nat) (p q:Ps) (y:Nat),BE B p.2->lM ts level S n x p= .inr (q,y)->BE B q.2
 |0,_,_,_,_,_,b=>by cases b
 |n+1,x,p,q,y,e,b=>by
  unfold lM at b
  split at b
  .obtain⟨rfl,rfl⟩:=Prod.mk.inj (Sum.inr.inj b)
   exact e
  obtain⟨a,l,g⟩:=bP b
  have f:=d (p.1+1,p.2) a.1 a.2 e l
  obtain⟨r,o,c⟩:=bP g
  have k:BE B r.1.2:=by
   refine AS (p:=a.1) f ?_ o
   show 2<=B
   omega
  split at c
  .obtain⟨rfl,rfl⟩:=Prod.mk.inj (Sum.inr.inj c)
   exact k
  exact qDb h d n _ _ q y k c
theorem SN(e:3<=B){level:Nat}(b:wR B S):wR B (nI ts level S):=by
 intro p q x g c
 obtain⟨a,f,d⟩:=bP c
 exact qDb e b _ _ _ q x (b p a.1 a.2 g f) d
theorem IG(e:ts.length+3<=B):∀k,wR B (bZ ts params k)
 |0=>fun _ _ _ _ d=>by cases d
 |k+1=>by
  intro p q x f d
  unfold bZ at d
  split at d
  .obtain⟨a,y,r⟩:=bP d
   have l:=IG e k (p.1+1,p.2) a.1 a.2 f y
   obtain⟨i,hi,s⟩:=bP r
   obtain⟨b,g,t⟩:=bP s
   have n:=IG e k (i,a.1.2) b.1 b.2 l g
   obtain⟨j,z,u⟩:=bP t
   obtain⟨c,h,v⟩:=bP u
   have o:=IG e k (j,b.1.2) c.1 c.2 n h
   refine AS (p:=c.1) o ?_ v
   show 3<=B
   omega
  exact SN (by omega) (SN (by omega) (SN (by omega) (qOq e (IG e k)))) p q x f d
def JB(d:Dl):Prop:=d.2.2.1.length<=8/\d.2.2.2.length<=256/\BE 20000 d.2.2.2
theorem qTk(b:OkT ts)(A:ts.length<=16385){before:List Dl}{i:Nat}{a:Nat×Dl}(hi:i<ts.length)(d:mD ts before i= .inr a):JB a.2:=by
 unfold mD at d
 dsimp only at d
 split at d
 .cases d
 rename_i k1
 split at d
 .cases d
 have g:=b.next hi (show(aB ts i).1≠5 by intro e;apply k1;left;rw[e];decide)
 obtain⟨x,k,h⟩:=bP d
 have gx:x.1<ts.length:=by
  split at k
  .obtain⟨rfl,f,-⟩:=sT b g k;exact f
  obtain⟨rfl,f,-⟩:=sA b g k;exact f
 split at h
 .cases h
 obtain⟨y,l,q⟩:=bP h
 have gy:y.1<ts.length/\y.2.length<=8:=by
  split at l
  .obtain⟨-,n,f⟩:=OL b gx l;exact⟨n,f⟩
  obtain rfl:=Sum.inr.inj l;exact⟨gx,kE _⟩
 obtain⟨j,u,r⟩:=bP q
 obtain⟨rfl,f,-⟩:=lZ b gy.1 u
 obtain⟨c,n,s⟩:=bP r
 obtain⟨⟨-,-,-,o⟩,-⟩:=uR b 32 (y.1+1,[]) c.1 c.2 f (by simp) n
 have p:=IG (B:=20000) (by omega) 32 (y.1+1,[]) c.1 c.2 (fun z v=>by cases v) n
 obtain⟨m,D,t⟩:=bP s
 obtain rfl:=Sum.inr.inj t
 exact⟨gy.2,o,p⟩
theorem qCy(c:OkT ts)(e:ts.length<=16385):∀(n:Nat) (l:List Dl) (i:Nat) {r:List Dl},(∀d∈l,JB d)->i<ts.length->oI ts n l i= .inr r->∀d∈r,JB d
 |0,_,_,_,_,_,a=>by cases a
 |n+1,l,i,r,f,hi,a=>by
  unfold oI at a
  split at a
  .cases a;exact f
  obtain⟨x,g,k⟩:=bP a
  obtain⟨-,h,-⟩:=HP c hi g
  refine qCy c e n _ _ (fun d b=> ?_) h k
  rcases kL.1 b with b|b
  .exact f d b
  rw[jK.1 b];exact qTk c e hi g
end
def okSr(f:Sr):Prop:=f.2.1.length<=8/\f.2.2.length<=64/\∀d∈f.2.2,JB d
theorem qCs{ts:List bB}(h:OkT ts):∀(n:Nat) (l:List Dl) (i:Nat) {r:List Dl},l.length<=64->i<ts.length->oI ts n l i= .inr r->r.length<=64
 |0,_,_,_,_,_,a=>by cases a
 |n+1,l,i,r,d,hi,a=>by
  unfold oI at a
  split at a
  .cases a;exact d
  obtain⟨x,e,c⟩:=bP a
  obtain⟨-,b,f⟩:=HP h hi e
  exact qCs h n _ _ (by simp only[jA,jC,jE];omega) b c
theorem qAv:okSr sF:=⟨kE _,kE _,fun d a=>by cases a⟩
theorem YF(s:BA):okSr (nU s).1:=by
 unfold nU
 by_cases h0:(iP s).2.2=0
 .rw[if_neg (not_not_intro h0)]
  obtain⟨e,g,E⟩:=PG h0
  have k:0<(iP s).1.length:=by
   cases h:(iP s).1 with
   |nil=>exact absurd h e.1
   |cons a l=>exact Nat.succ_pos _
  cases c:oN (iP s).1 with
  |inl z=>exact qAv
  |inr f=>
   simp only
   unfold oN at c
   obtain⟨i,v,c⟩:=bP c
   obtain⟨rfl,r,-⟩:=DM e k v
   obtain⟨a,x,c⟩:=bP c
   obtain⟨rfl,t,-⟩:=sA e r x
   obtain⟨j,y,c⟩:=bP c
   obtain⟨rfl,u,-⟩:=lZ e t y
   obtain⟨b,A,c⟩:=bP c
   obtain⟨-,o,D⟩:=KZ e _ _ _ b u (by simp) A
   obtain⟨l,n,c⟩:=bP c
   have p:=qCs e _ _ _ (by simp) o n
   have q:=qCy e g _ _ _ (fun d B=>by cases B) o n
   cases c
   exact⟨D,p,q⟩
 rw[if_pos h0];exact qAv
theorem YM{β:Type}{b:β}{n:Nat}{f:Int->Option (Int⊕β)}(c:∀i,i<n->f (i:Int)=some (.inl ((i+1:Nat):Int)))(a:f (n:Int)=some (.inr b)):∀(d i M:Nat),i+d=n->d<M->aJ f M (i:Int)=some b
 |_,_,0,_,h=>absurd h (kT _)
 |0,i,M+1,e,_=>by
  have:i=n:=by omega
  subst this
  simp only[aJ,a,j0]
 |d+1,i,M+1,e,g=>by
  simp only[aJ,c i (by omega),j0]
  exact YM c a d (i+1) M (by omega) (by omega)
theorem TJ{β:Type}{b:β}{n M:Nat}{f:Int->Option (Int⊕β)}(d:∀i,i<n->f (i:Int)=some (.inl ((i+1:Nat):Int)))(c:f (n:Int)=some (.inr b))(a:n<M):aJ f M 0=some b:=
 YM d c n 0 M (by omega) a
theorem qIj{N:Nat}{l:List BA}(h:l.length<1000000)(a:l.length<N):FU N l l=some true:=by
 unfold FU
 rw[if_neg (by simp),TJ (n:=l.length) (b:=(.inl ():Unit⊕Bool)) (fun i hi=>by
  simp only[FM]
  rw[if_pos (by simp only[j9];omega),iX hi]
  have ew:IntKind.wrap .i64 ((i:Int)+1)=((i+1:Nat):Int):=by rw[bT (by omega) (by omega)];omega
  simp only[j0,gA,kU,jB,jF,ew]) (by
  simp only[FM]
  rw[if_neg (by simp)]) a]
 rfl
theorem qIu{N:Nat}{x:Ex}(h:x.2.2.2.2.length<1000000)(a:x.2.2.2.2.length<N):GB N x x=some true:=by
 unfold GB
 have c:=TJ (n:=x.2.2.2.2.length) (M:=N) (b:=(.inl ():Unit⊕Bool)) (f:=BQ N x x) (fun i hi=>by
  simp only[BQ]
  rw[if_pos (by simp only[j9];omega),iX hi]
  have ew:IntKind.wrap .i64 ((i:Int)+1)=((i+1:Nat):Int):=by rw[bT (by omega) (by omega)];omega
  simp only[j0,fK,jB,jF,ew]) (by
  simp only[BQ]
  rw[if_neg (by simp)]) a
 simp only[fK,jB,jF,gA,kU,j0,c]
theorem qIs{N:Nat}{d:Dl}(h:JB d)(k:100000<N):BV N d d=some true:=by
 obtain⟨e,g,a⟩:=h
 unfold BV
 have c:=TJ (n:=d.2.2.2.length) (M:=N) (b:=(.inl ():Unit⊕Bool)) (f:=BR N d d) (fun i hi=>by
  simp only[BR]
  rw[if_pos (by simp only[j9];omega),iX hi]
  have ew:IntKind.wrap .i64 ((i:Int)+1)=((i+1:Nat):Int):=by rw[bT (by omega) (by omega)];omega
  have o:=a _ (kH hi)
  simp only[j0]
  rw[qIu (by omega) (by omega)]
  simp only[j0,kU,jB,jF,ew]) (by
  simp only[BR]
  rw[if_neg (by simp)]) (by omega)
 rw[qIj (l:=d.2.2.1) (by omega) (by omega)]
 simp only[fK,jB,jF,gA,kU,j0,c]
end
section
open Go Go.Dc
def PB{α:Type}(P:α->Prop)(x:bJ⊕α):Prop:=∀a,x= .inr a->P a
theorem PB.fail{α:Type}{P:α->Prop}{t:bB}{e:Int}:PB P (cV t e):=fun _ h=>by cases h
theorem PB.ok{α:Type}{P:α->Prop}{a:α}(h:P a):PB P (.inr a):=fun b e=>by cases e;exact h
theorem PB.bind{α β:Type}{P:α->Prop}{Q:β->Prop}{x:bJ⊕α}{f:α->bJ⊕β}(h:PB P x)(b:∀a,P a->PB Q (f a)):PB Q (aW x f):=by
 cases x with
 |inl z=>exact fun _ e=>by cases e
 |inr a=>exact b a (h a rfl)
theorem PB.any{α:Type}{x:bJ⊕α}:PB (fun _=>True) x:=fun _ _=>trivial
theorem PB.ite{α:Type}{P:α->Prop}{c:Prop}[Decidable c]{x y:bJ⊕α}(a:PB P x)(b:PB P y):PB P (if c then x else y):=by
 split
 .exact a
 exact b
end
section
open Go Go.Dc Go.Proofs
theorem qPi{P:Rose->Prop}(h:∀b ks,(∀t∈ks,P t)->P (.mk b ks))(t:Rose):P t:=by
 have key:∀(n:Nat) (t:Rose),t.size<=n->P t:=by
  intro n
  induction n with
  |zero=>intro t d;have:=t.pos;omega
  |succ n e=>
   intro t d
   match t with
   | .mk b ks=>
    refine h b ks fun u c=>e u ?_
    have g:u.size<=aX ks:=by
     clear d e h
     induction ks with
     |nil=>cases c
     |cons a l f=>
      rcases jT.1 c with rfl|c
      .show _<=u.size+aX l;omega
      have:=f c
      show _<=a.size+aX l;omega
    have:(Rose.mk b ks).size=aX ks+1:=rfl
    omega
 exact key t.size t (jP _)
inductive Fine(np:Nat):Rose->Prop
 |num (n:Int) (h0: -9007199254740992<=n) (h1:n<=9007199254740992):Fine np (.mk (1,n,0,emB) [])
 |par (i:Nat) (h:i<np):Fine np (.mk (2,(i:Int),0,emB) [])
 |call (s:BA) (ks:List Rose) (h:eG s=true) (hk:∀t∈ks,Fine np t):Fine np (.mk (3,0,0,s) ks)
 |bin (op:Int) (a b:Rose) (h0:1<=op) (h1:op<=7) (ha:Fine np a) (hb:Fine np b):Fine np (.mk (4,0,op,emB) [a,b])
 |ite (a b c:Rose) (ha:Fine np a) (hb:Fine np b) (hc:Fine np c):Fine np (.mk (5,0,0,emB) [a,b,c])
 |read (s:BA) (a:Rose) (h:mK s.data.toList=true) (ha:Fine np a):Fine np (.mk (6,0,0,s) [a])
 |look (k:Int) (s:BA) (hk:k=7\/k=8) (h:mK s.data.toList=true):Fine np (.mk (k,0,0,s) [])
 |env (s:BA) (h:lW s=true):Fine np (.mk (9,0,0,s) [])
 |flip (n:Nat) (h:n<64):Fine np (.mk (10,(n:Int),0,emB) [])
theorem qRc{np:Nat}(t:Rose):∀b,(∀x∈t.flat b,iM (np:Int) x=true)->Fine np t:=by
 refine qPi (P:=fun t=>∀b,(∀x∈t.flat b,iM (np:Int) x=true)->Fine np t) ?_ t
 intro z ks B b y
 have A:iM (np:Int) (eX z (bX b ks))=true:=y _ (by unfold Rose.flat;exact kO _ (jK.2 rfl))
 have q:∀t∈ks,Fine np t:=by
  have g:∀x∈cN b ks,iM (np:Int) x=true:=fun x f=>y x (by unfold Rose.flat;exact kA _ f)
  clear y A
  induction ks generalizing b with
  |nil=>intro t e;cases e
  |cons a l h=>
   intro t e
   rcases jT.1 e with rfl|e
   .exact B t (jH ..) b fun x f=>g x (by unfold cN;exact kA _ f)
   exact h (fun u p=>B u (jL _ p)) (b+a.size) (fun x f=>g x (by unfold cN;exact kO _ f)) t e
 obtain⟨k,n,o,s⟩:=z
 have r:(eX (k,n,o,s) (bX b ks)).2.2.2.2.length=ks.length:=qU ks b
 rcases HJ A with ⟨e,h,p,g,f,v⟩|⟨e,h,p,g,f,v⟩|⟨e,h,p,g⟩|⟨e,h,p,g,f,v⟩|⟨e,h,p,g,f⟩|⟨e,h,p,g,f⟩|⟨e,h,p,g,f⟩|⟨e,h,p,g,f⟩|⟨e,h,p,g,f,v⟩
 .have e:k=1:=e
  have f:o=0:=f
  have v:s=emB:=v
  rw[r] at h
  obtain rfl:=kY.1 h
  subst e f v
  exact .num n p g
 .have e:k=2:=e
  have f:o=0:=f
  have v:s=emB:=v
  have p:0<=n:=p
  have g:n<(np:Int):=g
  rw[r] at h
  obtain rfl:=kY.1 h
  subst e f v
  obtain⟨i,rfl⟩:∃i:Nat,n=(i:Int):=⟨n.toNat,by omega⟩
  exact .par i (by omega)
 .have e:k=3:=e
  have p:n=0:=p
  have g:o=0:=g
  subst e p g
  exact .call s ks h q
 .have e:k=4:=e
  have f:n=0:=f
  have v:s=emB:=v
  rw[r] at h
  subst e f v
  match ks,h,q with
  |[a,c],_,q=>exact .bin o a c p g (q a (by simp)) (q c (by simp))
 .have e:k=5:=e
  have p:n=0:=p
  have g:o=0:=g
  have f:s=emB:=f
  rw[r] at h
  subst e p g f
  match ks,h,q with
  |[a,c,d],_,q=>exact .ite a c d (q a (by simp)) (q c (by simp)) (q d (by simp))
 .have e:k=6:=e
  have g:n=0:=g
  have f:o=0:=f
  rw[r] at h
  subst e g f
  match ks,h,q with
  |[a],_,q=>exact .read s a p (q a (by simp))
 .have e:k=7\/k=8:=e
  have g:n=0:=g
  have f:o=0:=f
  rw[r] at h
  obtain rfl:=kY.1 h
  subst g f
  exact .look k s e p
 .have e:k=9:=e
  have g:n=0:=g
  have f:o=0:=f
  rw[r] at h
  obtain rfl:=kY.1 h
  subst e g f
  exact .env s p
 have e:k=10:=e
 have p:0<=n:=p
 have g:n<64:=g
 have f:o=0:=f
 have v:s=emB:=v
 rw[r] at h
 obtain rfl:=kY.1 h
 subst e f v
 obtain⟨i,rfl⟩:∃i:Nat,n=(i:Int):=⟨n.toNat,by omega⟩
 exact .flip i (by omega)
abbrev Pf:=List UInt8->List Pc
def bS(l:List UInt8)(bl:List UInt8):Pc:=((4,l),bl)
def cK(l:List UInt8)(bl:List UInt8):Pc:=((1,l),bl)
def qJ(l:List UInt8)(bl:List UInt8):Pc:=((3,l),bl)
def rA(n:Int)(bl:List UInt8):List Pc:=if n<0 then[bS [45] [],((2,Lib.decDigits n.natAbs),bl)] else[((2,Lib.decDigits n.toNat),bl)]
def mH:Nat->List Pf->List Pc
 |_,[]=>[]
 |k,w::ws=>(if k=0 then[] else[bS [44] [32]])++(w []++mH (k+1) ws)
def FD:List UInt8:=[105,102]
def EK:List UInt8:=[116,104,101,110]
def EH:List UInt8:=[101,108,115,101]
def EG:List UInt8:=[114,101,97,100]
def yD:List UInt8:=[102,108,105,112]
def FC:Pf:=fun _=>[]
def pE(ps:List BA)(h:Hd)(ws:List Pf)(bl:List UInt8):List Pc:=
 if h.1=1 then rA h.2.1 bl
 else if h.1=2 then[cK (ps.getD h.2.1.toNat ⟨#[]⟩).data.toList bl]
 else if h.1=4 then(ws.getD 0 FC) [32]++(bS (oK h.2.2.1).data.toList [32]::(ws.getD 1 FC) bl)
 else if h.1=5 then cK FD [32]::((ws.getD 0 FC) [32]++(cK EK [32]::((ws.getD 1 FC) [32]++(cK EH [32]::(ws.getD 2 FC) bl))))
 else if h.1=3 then cK h.2.2.2.data.toList []::bS [40] []::(mH 0 ws++[bS [41] bl])
 else if h.1=6 then cK EG []::bS [40] []::qJ h.2.2.2.data.toList []::bS [44] [32]::((ws.getD 0 FC) []++[bS [41] bl])
 else if h.1=10 then cK yD []::bS [40] []::(rA h.2.1 []++[bS [41] bl])
 else[cK (mO h.1).data.toList [],bS [40] [],qJ h.2.2.2.data.toList [],bS [41] bl]
mutual
def Rose.pc(ps:List BA)(need:Int)(bl:List UInt8):Rose->List Pc
 | .mk h ks=>if dY h<need then bS [40] []::(pE ps h (lE ps h 0 ks) []++[bS [41] bl]) else pE ps h (lE ps h 0 ks) bl
def lE(ps:List BA)(h:Hd)(k:Nat):List Rose->List Pf
 |[]=>[]
 |t::l=>(fun bl=>t.pc ps (eE h k) bl)::lE ps h (k+1) l
end
theorem rJ:∀(a b:List Pc),cL (a++b)=cL a++cL b
 |[],_=>rfl
 |p::a,b=>by simp only[jQ,cL,rJ a b,jD]
theorem pA(c:Ct)(bl:List UInt8)(l:List Pc):cL ((c,bl)::l)=nM c++(bl++cL l):=rfl
theorem rU(l:List UInt8):nM (1,l)=l:=uQ (by decide)
theorem by2(l:List UInt8):nM (2,l)=l:=uQ (by decide)
theorem sL(l:List UInt8):nM (4,l)=l:=uQ (by decide)
theorem JO(l:List UInt8):nM (3,l)=34::(l++[34]):=if_pos rfl
theorem qVi(n:Int):(oA n).data.toList=Lib.itoa n:=rfl
theorem WT(n:Int)(bl:List UInt8):cL (rA n bl)=(oA n).data.toList++bl:=by
 rw[qVi]
 unfold rA Lib.itoa
 split
 .simp only[bS,pA,cL,sL,by2,jW,jO,jQ]
 simp only[pA,cL,by2,jW]
theorem qE{a:Array UInt8}:(⟨a⟩:BA).data.toList=a.toList:=rfl
theorem qUb(ps:List BA)(h:Hd)(ks:List Rose)(need:Int):(Rose.mk h ks).wr ps need=if dY h<need then 40::(iD ps h (eF ps h 0 ks)++[41]) else iD ps h (eF ps h 0 ks):=by unfold Rose.wr;rfl
theorem NO(ps:List BA)(h:Hd)(ks:List Rose)(need:Int)(bl:List UInt8):(Rose.mk h ks).pc ps need bl=if dY h<need then bS [40] []::(pE ps h (lE ps h 0 ks) []++[bS [41] bl]) else pE ps h (lE ps h 0 ks) bl:=by unfold Rose.pc;rfl
theorem vY{ps:List BA}{h:Hd}{ks:List Rose}(a:∀bl,cL (pE ps h (lE ps h 0 ks) bl)=iD ps h (eF ps h 0 ks)++bl)(need:Int)(bl:List UInt8):cL ((Rose.mk h ks).pc ps need bl)=(Rose.mk h ks).wr ps need++bl:=by
 rw[qUb,NO]
 split
 .simp only[bS,pA,rJ,a,sL,cL,jW,jO,jQ,jD]
 exact a bl
theorem WE(ps:List BA)(h:Hd):∀(ks:List Rose) (k:Nat),(∀t∈ks,∀need bl,cL (t.pc ps need bl)=t.wr ps need++bl)->cL (mH k (lE ps h k ks))=mX k (eF ps h k ks)
 |[],_,_=>rfl
 |t::ks,k,a=>by
  have c:=WE ps h ks (k+1) fun u b=>a u (jL _ b)
  simp only[lE,eF,mH,mX,rJ,c,a t (jH ..),jW]
  congr 1
  unfold sH
  split
  .rfl
  rfl
theorem qNg{ps:List BA}{np:Nat}{t:Rose}(r:Fine np t):∀need bl,cL (t.pc ps need bl)=t.wr ps need++bl:=by
 induction r with
 |num n o p=>exact vY fun bl=>WT n bl
 |par i h=>
  exact vY fun bl=>by
   show cL [cK _ bl]=_++bl
   simp only[cK,pA,cL,rU,jW]
   rfl
 |call s ks h g u=>
  exact vY fun bl=>by
   show cL (cK s.data.toList []::bS [40] []::(mH 0 (lE ps (3,0,0,s) 0 ks)++[bS [41] bl]))=((s++(⟨#[40]⟩:BA)).data.toList++(mX 0 (eF ps (3,0,0,s) 0 ks)++[41]))++bl
   simp only[cK,bS,pA,rJ,WE ps _ ks 0 u,rU,sL,cL,mV,qE,jW,jO,jD,jQ]
 |bin op a b o p f q d e=>
  exact vY fun bl=>by
   show cL (a.pc ps (eE (4,0,op,emB) 0) [32]++(bS (oK op).data.toList [32]::b.pc ps (eE (4,0,op,emB) 1) bl))=(a.wr ps (eE (4,0,op,emB) 0)++((((⟨#[32]⟩:BA)++oK op)++(⟨#[32]⟩:BA)).data.toList++b.wr ps (eE (4,0,op,emB) 1)))++bl
   simp only[bS,rJ,pA,d,e,sL,mV,qE,jD,jQ,jO]
 |ite a b c f q v d e l=>
  exact vY fun bl=>by
   show cL (cK FD [32]::(a.pc ps 0 [32]++(cK EK [32]::(b.pc ps 0 [32]++(cK EH [32]::c.pc ps 0 bl)))))=(tI++(a.wr ps 0++(tThen++(b.wr ps 0++(tElse++c.wr ps 0)))))++bl
   simp only[cK,pA,rJ,d,e,l,rU,FD,EK,EH,tI,tThen,tElse,jD,jQ,jO]
 |read s a h f d=>
  exact vY fun bl=>by
   show cL (cK EG []::bS [40] []::qJ s.data.toList []::bS [44] [32]::(a.pc ps 0 []++[bS [41] bl]))=((((⟨#[114,101,97,100,40,34]⟩:BA)++s)++(⟨#[34,44,32]⟩:BA)).data.toList++(a.wr ps 0++[41]))++bl
   simp only[cK,bS,qJ,pA,rJ,d,rU,JO,sL,EG,cL,mV,qE,jW,jO,jD,jQ]
 |look k s g h=>
  exact vY fun bl=>by
   rcases g with rfl|rfl
   .show cL [cK (mO 7).data.toList [],bS [40] [],qJ s.data.toList [],bS [41] bl]=((((mO 7++(⟨#[40,34]⟩:BA))++s)++(⟨#[34,41]⟩:BA)).data.toList)++bl
    simp only[cK,bS,qJ,pA,rU,JO,sL,cL,mV,qE,jW,jO,jD,jQ]
   show cL [cK (mO 8).data.toList [],bS [40] [],qJ s.data.toList [],bS [41] bl]=((((mO 8++(⟨#[40,34]⟩:BA))++s)++(⟨#[34,41]⟩:BA)).data.toList)++bl
   simp only[cK,bS,qJ,pA,rU,JO,sL,cL,mV,qE,jW,jO,jD,jQ]
 |env s h=>
  exact vY fun bl=>by
   show cL [cK (mO 9).data.toList [],bS [40] [],qJ s.data.toList [],bS [41] bl]=((((mO 9++(⟨#[40,34]⟩:BA))++s)++(⟨#[34,41]⟩:BA)).data.toList)++bl
   simp only[cK,bS,qJ,pA,rU,JO,sL,cL,mV,qE,jW,jO,jD,jQ]
 |flip n h=>
  exact vY fun bl=>by
   show cL (cK yD []::bS [40] []::(rA (n:Int) []++[bS [41] bl]))=((((⟨#[102,108,105,112,40]⟩:BA)++oA (n:Int))++(⟨#[41]⟩:BA)).data.toList)++bl
   simp only[cK,bS,pA,rJ,WT,rU,sL,yD,cL,mV,qE,jW,jO,jD,jQ]
theorem TG{p:UInt8->Bool}:∀{l:List UInt8} (x:UInt8),x∈l.takeWhile p->p x=true
 |[],_,h=>by cases h
 |y::l,x,h=>by
  rw[List.takeWhile_cons] at h
  split at h
  .rename_i hy
   rcases jT.1 h with rfl|h
   .exact hy
   exact TG x h
  cases h
theorem ZK{s:BA}(h:lW s=true):(∃x l,s.data.toList=x::l/\kd x=1)/\(∀x∈s.data.toList,aV [1,2,3] x=true)/\s.data.toList.length<=24:=by
 unfold lW at h
 obtain⟨b,e,c,a⟩:=gS h
 refine⟨?_,?_,e⟩
 .cases d:s.data.toList with
  |nil=>rw[d] at b;cases b
  |cons x l=>rw[d] at c;exact⟨x,l,rfl,c⟩
 unfold tw at a
 rw[kI,kF] at a
 have f:s.data.toList.takeWhile (aV [1,2,3])=s.data.toList:=(fU _).eq_of_length a
 intro x d
 rw[<-f] at d
 exact TG x d
theorem AB{s:BA}(h:lW s=true):pX (1,s.data.toList):=by
 obtain⟨a,b,c⟩:=ZK h
 exact .inl ⟨rfl,a,b,c⟩
theorem zV{s:BA}(h:eG s=true):lW s=true:=by
 unfold eG at h
 simp only[jI] at h
 exact h.1
theorem cls:(List.range 256).all (fun i=>(!aV [1,2,3,4] (UInt8.ofNat i)||(eD (UInt8.ofNat i)&&decide (i≠61)))&&(decide (i≠47)||eD (UInt8.ofNat i)))=true:=by kernel_rfl
theorem RY{x:UInt8}(h:aV [1,2,3,4] x=true\/x=47):eD x=true/\x≠61:=by
 have:=jU.1 cls x.toNat (fB.2 x.toNat_lt)
 have e:UInt8.ofNat x.toNat=x:=by simp
 rw[e] at this
 simp only[jI,gX,gT,j9] at this
 rcases h with h|rfl
 .rcases this.1 with g|⟨a,b⟩
  .rw[h] at g;cases g
  exact⟨a,fun e=>b (by rw[e];rfl)⟩
 exact⟨by kernel_rfl,by decide⟩
theorem qSt:∀{l:List UInt8} {x:UInt8},x∈l->x=47\/∃p∈sp l,x∈p:=by
 intro l
 induction l with
 |nil=>intro x a;cases a
 |cons y l e=>
  intro x a
  by_cases hy:y=47
  .rcases jT.1 a with rfl|a
   .exact .inl hy
   rcases e a with g|⟨p,b,d⟩
   .exact .inl g
   refine .inr ⟨p,?_,d⟩
   unfold sp
   rw[if_pos hy]
   exact jL _ b
  cases c:sp l with
  |nil=>exact absurd c (AT l)
  |cons q r=>
   rcases jT.1 a with rfl|a
   .refine .inr ⟨x::q,?_,jH ..⟩
    unfold sp
    rw[if_neg hy,c]
    exact jH ..
   rcases e a with g|⟨p,b,d⟩
   .exact .inl g
   rw[c] at b
   rcases jT.1 b with rfl|b
   .refine .inr ⟨y::p,?_,jL _ d⟩
    unfold sp
    rw[if_neg hy,c]
    exact jH ..
   refine .inr ⟨p,?_,d⟩
   unfold sp
   rw[if_neg hy,c]
   exact jL _ b
theorem QV{l:List UInt8}(h:mK l=true):(∀x∈l,eD x=true)/\l≠[61]:=by
 unfold mK at h
 obtain⟨-,-,d⟩:=gS h
 have key:∀x∈l,eD x=true/\x≠61:=fun x a=>by
  rcases qSt a with g|⟨p,b,c⟩
  .exact RY (.inr g)
  exact RY (.inl ((d p b).2.2 x c))
 exact⟨fun x a=>(key x a).1,fun e=>(key 61 (by rw[e];exact jH ..)).2 rfl⟩
theorem qPg{s:BA}(h:lW s=true):(∀x∈s.data.toList,eD x=true)/\s.data.toList≠[61]:=by
 obtain⟨-,b,-⟩:=ZK h
 have key:∀x∈s.data.toList,eD x=true/\x≠61:=fun x a=>by
  refine RY (.inl ?_)
  have:=b x a
  unfold aV at this ⊢
  simp only[fX,List.any_nil,dU,gX] at this ⊢
  rcases this with g|g|g
  .exact .inl g
  .exact .inr (.inl g)
  exact .inr (.inr (.inl g))
 exact⟨fun x a=>(key x a).1,fun e=>(key 61 (by rw[e];exact jH ..)).2 rfl⟩
def qP(l:List UInt8):Bool:=match l with|[]=>true|x::_=> !aV [1,2,3] x
theorem qAl{l:List UInt8}(h:qP l=true):∀x r,l=x::r->aV [1,2,3] x=false:=fun x r e=>by
 subst e
 simpa[qP] using h
theorem qPv{l:List UInt8}(h:qP l=true):∀x r,l=x::r->aV [2] x=false:=fun x r e=>by
 have:=qAl h x r e
 unfold aV at this ⊢
 simp only[fX,List.any_nil,dU,kD] at this ⊢
 exact this.2.1
def vJ(bl:List UInt8):Prop:=∀x∈bl,aV [5] x=true
theorem mL:vJ []:=fun x h=>by cases h
theorem pG:vJ [32]:=fun x h=>by rw[jK.1 h];kernel_rfl
theorem oT{l bl:List UInt8}{rest:List Pc}(d:pX (1,l))(a:vJ bl)(c:qP (bl++cL rest)=true)(b:iQ rest):iQ (cK l bl::rest):=
 ⟨d,a,fun x r h=>by
  have:=qAl c x r h
  show(if(1:Int)=1 then !aV [1,2,3] x else _)=true
  rw[if_pos rfl,this];rfl,b⟩
theorem gdN{n:Nat}{bl:List UInt8}{rest:List Pc}(c:n<=9007199254740992)(a:vJ bl)(d:qP (bl++cL rest)=true)(b:iQ rest):iQ (((2,Lib.decDigits n),bl)::rest):=
 ⟨.inr (.inl ⟨rfl,qDc n,qMt n,by
  have:=ZT n c
  show mQ (Lib.decDigits n)<=_
  omega⟩),a,fun x r h=>by
  have:=qPv d x r h
  show(if(2:Int)=1 then _ else if(2:Int)=2 then !aV [2] x else _)=true
  rw[if_neg (by decide),if_pos rfl,this];rfl,b⟩
theorem nK{l bl:List UInt8}{rest:List Pc}(d:l∈IV)(a:l≠[61])(b:vJ bl)(c:iQ rest):iQ (bS l bl::rest):=
 ⟨.inr (.inr (.inr ⟨rfl,d⟩)),b,fun x r _=>by
  show(if(4:Int)=1 then _ else if(4:Int)=2 then _ else if l=[61] then _ else true)=true
  rw[if_neg (by decide),if_neg (by decide),if_neg a],c⟩
theorem JJ{l bl:List UInt8}{rest:List Pc}(d:∀x∈l,eD x=true)(a:l≠[61])(b:vJ bl)(c:iQ rest):iQ (qJ l bl::rest):=
 ⟨.inr (.inr (.inl ⟨rfl,d⟩)),b,fun x r _=>by
  show(if(3:Int)=1 then _ else if(3:Int)=2 then _ else if l=[61] then _ else true)=true
  rw[if_neg (by decide),if_neg (by decide),if_neg a],c⟩
theorem qEc{n:Int}{bl:List UInt8}{rest:List Pc}(d: -9007199254740992<=n)(e:n<=9007199254740992)(a:vJ bl)(c:qP (bl++cL rest)=true)(b:iQ rest):iQ (rA n bl++rest):=by
 unfold rA
 split
 .exact nK (by decide) (by decide) mL (gdN (by omega) a c b)
 exact gdN (by omega) a c b
theorem qRo{op:Int}(a:1<=op)(b:op<=7):(oK op).data.toList∈IV/\(oK op).data.toList≠[61]:=by
 rcases(by omega:op=1\/op=2\/op=3\/op=4\/op=5\/op=6\/op=7) with rfl|rfl|rfl|rfl|rfl|rfl|rfl<;>decide+kernel
def GdP(ps:List BA)(t:Rose):Prop:=∀need bl rest,vJ bl->qP (bl++cL rest)=true->iQ rest->iQ (t.pc ps need bl++rest)
theorem uU{ps:List BA}{h:Hd}{ks:List Rose}(c:∀bl rest,vJ bl->qP (bl++cL rest)=true->iQ rest->iQ (pE ps h (lE ps h 0 ks) bl++rest)):GdP ps (.mk h ks):=by
 intro need bl rest a d b
 rw[NO]
 split
 .rw[jQ,jD]
  exact nK (by decide) (by decide) mL (c [] _ mL (by kernel_rfl) (nK (by decide) (by decide) a b))
 exact c bl rest a d b
theorem qMw{ws:List Pf}{k:Nat}{rest:List Pc}(a:qP (cL rest)=true):qP (cL (mH (k+1) ws++rest))=true:=by
 cases ws with
 |nil=>exact a
 |cons w ws=>
  show qP (cL (((if k+1=0 then[] else[bS [44] [32]])++(w []++mH (k+1+1) ws))++rest))=true
  rw[if_neg (by omega)]
  kernel_rfl
theorem qBp{ps:List BA}{h:Hd}:∀(ks:List Rose) (k:Nat) (rest:List Pc),(∀t∈ks,GdP ps t)->qP (cL rest)=true->iQ rest->iQ (mH k (lE ps h k ks)++rest)
 |[],_,_,_,_,a=>a
 |t::ks,k,rest,c,d,a=>by
  have f:=qBp (h:=h) ks (k+1) rest (fun u e=>c u (jL _ e)) d a
  show iQ (((if k=0 then[] else[bS [44] [32]])++(t.pc ps (eE h k) []++mH (k+1) (lE ps h (k+1) ks)))++rest)
  rw[jD,jD]
  have b:=c t (jH ..) (eE h k) [] (mH (k+1) (lE ps h (k+1) ks)++rest) mL (qMw d) f
  split
  .exact b
  exact nK (by decide) (by decide) pG b
theorem okIf:pX (1,FD):= .inl ⟨rfl,⟨105,_,rfl,by kernel_rfl⟩,by decide+kernel,by decide⟩
theorem qUn:pX (1,EK):= .inl ⟨rfl,⟨116,_,rfl,by kernel_rfl⟩,by decide+kernel,by decide⟩
theorem qTj:pX (1,EH):= .inl ⟨rfl,⟨101,_,rfl,by kernel_rfl⟩,by decide+kernel,by decide⟩
theorem qUq:pX (1,EG):= .inl ⟨rfl,⟨114,_,rfl,by kernel_rfl⟩,by decide+kernel,by decide⟩
theorem qUo:pX (1,yD):= .inl ⟨rfl,⟨102,_,rfl,by kernel_rfl⟩,by decide+kernel,by decide⟩
theorem qTq:pX (1,(mO 7).data.toList):= .inl ⟨rfl,⟨115,_,rfl,by kernel_rfl⟩,by decide+kernel,by decide⟩
theorem qVh:pX (1,(mO 8).data.toList):= .inl ⟨rfl,⟨104,_,rfl,by kernel_rfl⟩,by decide+kernel,by decide⟩
theorem qVj:pX (1,(mO 9).data.toList):= .inl ⟨rfl,⟨101,_,rfl,by kernel_rfl⟩,by decide+kernel,by decide⟩
theorem qRi{ps:List BA}(u:∀s∈ps,lW s=true){t:Rose}(y:Fine ps.length t):GdP ps t:=by
 induction y with
 |num n o p=>exact uU fun bl rest d f e=>qEc o p d f e
 |par i h=>
  refine uU fun bl rest d f e=>oT (AB (u _ ?_)) d f e
  show ps.getD ((i:Int)).toNat ⟨#[]⟩∈ps
  rw[jX,jN,List.getElem?_eq_getElem h]
  exact kH h
 |call s ks h r z=>
  refine uU fun bl rest d f e=> ?_
  show iQ (cK s.data.toList []::bS [40] []::((mH 0 (lE ps (3,0,0,s) 0 ks)++[bS [41] bl])++rest))
  rw[jD]
  exact oT (AB (zV h)) mL (by kernel_rfl) (nK (by decide) (by decide) mL (qBp ks 0 _ z (by kernel_rfl) (nK (by decide) (by decide) d e)))
 |bin op a b o p q x g l=>
  refine uU fun bl rest d f e=> ?_
  show iQ ((a.pc ps (eE (4,0,op,emB) 0) [32]++(bS (oK op).data.toList [32]::b.pc ps (eE (4,0,op,emB) 1) bl))++rest)
  rw[jD,jQ]
  obtain⟨v,A⟩:=qRo o p
  exact g _ _ _ pG (by kernel_rfl) (nK v A pG (l _ _ _ d f e))
 |ite a b c q x A g l v=>
  refine uU fun bl rest d f e=> ?_
  show iQ (cK FD [32]::((a.pc ps 0 [32]++(cK EK [32]::(b.pc ps 0 [32]++(cK EH [32]::c.pc ps 0 bl))))++rest))
  rw[jD,jQ,jD,jQ]
  exact oT okIf pG (by kernel_rfl) (g _ _ _ pG (by kernel_rfl) (oT qUn pG (by kernel_rfl) (l _ _ _ pG (by kernel_rfl) (oT qTj pG (by kernel_rfl) (v _ _ _ d f e)))))
 |read s a h q g=>
  refine uU fun bl rest d f e=> ?_
  show iQ (cK EG []::bS [40] []::qJ s.data.toList []::bS [44] [32]::((a.pc ps 0 []++[bS [41] bl])++rest))
  rw[jD]
  obtain⟨p1,p2⟩:=QV h
  exact oT qUq mL (by kernel_rfl) (nK (by decide) (by decide) mL (JJ p1 p2 mL (nK (by decide) (by decide) pG (g _ _ _ mL (by kernel_rfl) (nK (by decide) (by decide) d e)))))
 |look k s r h=>
  obtain⟨p1,p2⟩:=QV h
  rcases r with rfl|rfl
  .exact uU fun bl rest d f e=>oT qTq mL (by kernel_rfl) (nK (by decide) (by decide) mL (JJ p1 p2 mL (nK (by decide) (by decide) d e)))
  exact uU fun bl rest d f e=>oT qVh mL (by kernel_rfl) (nK (by decide) (by decide) mL (JJ p1 p2 mL (nK (by decide) (by decide) d e)))
 |env s h=>
  obtain⟨p1,p2⟩:=qPg h
  exact uU fun bl rest d f e=>oT qVj mL (by kernel_rfl) (nK (by decide) (by decide) mL (JJ p1 p2 mL (nK (by decide) (by decide) d e)))
 |flip n h=>
  refine uU fun bl rest d f e=> ?_
  show iQ (cK yD []::bS [40] []::((rA (n:Int) []++[bS [41] bl])++rest))
  rw[jD]
  exact oT qUo mL (by kernel_rfl) (nK (by decide) (by decide) mL (qEc (by omega) (by omega) mL (by kernel_rfl) (nK (by decide) (by decide) d e)))
def lO(l:List Pc):List lK:=l.map fun p=>eY p.1
theorem MA(a b:List Pc):lO (a++b)=lO a++lO b:=gV ..
def lI(ts:List bB):Nat->List lK->Prop
 |_,[]=>True
 |i,c::cs=>cO (aB ts i)=c/\lI ts (i+1) cs
theorem AL{ts:List bB}:∀{a b:List lK} {i:Nat},lI ts i (a++b)↔lI ts i a/\lI ts (i+a.length) b
 |[],b,i=>by simp[lI]
 |c::a,b,i=>by
  have d:=AL (ts:=ts) (a:=a) (b:=b) (i:=i+1)
  simp only[jQ,lI,d,jC,and_assoc]
  rw[show i+1+a.length=i+(a.length+1) by omega]
theorem rQ{ts:List bB}{a b:List Pc}{i:Nat}(h:lI ts i (lO (a++b))):lI ts i (lO a)/\lI ts (i+a.length) (lO b):=by
 rw[MA,AL] at h
 have:(lO a).length=a.length:=gC ..
 rw[this] at h
 exact h
section
variable {ts:List bB} {ps:List BA} {i:Nat}
theorem qN{c:lK}(h:cO (aB ts i)=c)(k:Int)(s:BA):bE ts k s i=(c.1==k&&decide (c.2.1=s)):=by
 subst h;rfl
theorem tK{c:lK}(h:cO (aB ts i)=c):(aB ts i).1=c.1:=congrArg (fun x=>x.1) h
theorem pH{c:lK}(h:cO (aB ts i)=c):(aB ts i).2.1=c.2.1:=congrArg (fun x=>x.2.1) h
theorem tk3{c:lK}(h:cO (aB ts i)=c):(aB ts i).2.2.1=c.2.2:=congrArg (fun x=>x.2.2) h
def opK(c:lK)(level:Nat):Int:=
 match opsC.find? (fun o=>(c.1==4&&decide (c.2.1=o.2))&&decide (qF o.1=level)) with
 |some o=>o.1
 |none=>0
theorem qDh{c:lK}(h:cO (aB ts i)=c)(level:Nat):iI ts level i=opK c level:=by
 subst h;rfl
theorem LO{l:List UInt8}(h:cO (aB ts i)=eY (4,l)):cO (aB ts i)=(4,⟨⟨l⟩⟩,0):=h
theorem nF{l:List UInt8}(h:cO (aB ts i)=eY (1,l)):cO (aB ts i)=(1,⟨⟨l⟩⟩,0):=h
theorem AA{l:List UInt8}(h:cO (aB ts i)=eY (3,l)):cO (aB ts i)=(3,⟨⟨l⟩⟩,0):=h
theorem LQ{n:Nat}(a:n<=9007199254740992)(h:cO (aB ts i)=eY (2,Lib.decDigits n)):cO (aB ts i)=(2,⟨#[]⟩,(n:Int)):=by
 rw[h]
 unfold eY
 rw[if_pos rfl,if_pos rfl,ZT n a]
theorem oG{l:List UInt8}(h:cO (aB ts i)=eY (4,l)){s:BA}(a:(⟨⟨l⟩⟩:BA)=s):cC ts s i= .inr (i+1):=by
 unfold cC
 rw[qN (LO h),jV a]
 rfl
theorem RG{l:List UInt8}(h:cO (aB ts i)=eY (1,l)){s:BA}(a:(⟨⟨l⟩⟩:BA)=s):oL ts s i= .inr (i+1):=by
 unfold oL
 rw[qN (nF h),jV a]
 rfl
theorem HH{l:List UInt8}(h:cO (aB ts i)=eY (4,l)){s:BA}(a:(⟨⟨l⟩⟩:BA)≠s):bE ts 4 s i=false:=by
 rw[qN (LO h),jY a];rfl
theorem zY{l:List UInt8}(h:cO (aB ts i)=eY (4,l)){s:BA}(a:(⟨⟨l⟩⟩:BA)=s):bE ts 4 s i=true:=by
 rw[qN (LO h),jV a];rfl
def NextOk(n:Nat)(ts:List bB)(i:Nat):Prop:=i<ts.length/\bE ts 4 sOpen i=false/\∀L,n<=L->1<=L->L<=3->iI ts L i=0
theorem NextOk.up{n m:Nat}(h:NextOk n ts i)(a:n<=m):NextOk m ts i:=⟨h.1,h.2.1,fun L b=>h.2.2 L (by omega)⟩
def BG:List lK:=[(4,⟨#[41]⟩,0),(4,⟨#[44]⟩,0),(4,⟨#[59]⟩,0),(1,⟨#[116,104,101,110]⟩,0),(1,⟨#[101,108,115,101]⟩,0)]
theorem AC{c:lK}(a:c∈BG)(h:cO (aB ts i)=c)(hi:i<ts.length)(n:Nat):NextOk n ts i:=by
 simp only[BG,jT,gB,dE] at a
 refine⟨hi,?_,fun L _ b d=> ?_⟩
 .rw[qN h]
  rcases a with rfl|rfl|rfl|rfl|rfl<;>decide+kernel
 rw[qDh h]
 rcases(by omega:L=1\/L=2\/L=3) with rfl|rfl|rfl<;>rcases a with rfl|rfl|rfl|rfl|rfl<;>decide+kernel
theorem qCl{op:Int}(a:1<=op)(b:op<=7)(h:cO (aB ts i)=eY (4,(oK op).data.toList)):bE ts 4 sOpen i=false/\∀L,1<=L->L<=3->iI ts L i=if qF op=L then op else 0:=by
 rw[qN h]
 refine⟨?_,fun L c d=> ?_⟩
 .rcases(by omega:op=1\/op=2\/op=3\/op=4\/op=5\/op=6\/op=7) with rfl|rfl|rfl|rfl|rfl|rfl|rfl<;>decide+kernel
 rw[qDh h]
 rcases(by omega:L=1\/L=2\/L=3) with rfl|rfl|rfl<;>rcases(by omega:op=1\/op=2\/op=3\/op=4\/op=5\/op=6\/op=7) with rfl|rfl|rfl|rfl|rfl|rfl|rfl<;>decide+kernel
def Res{α:Type}(x:bJ⊕α)(g:Prop)(v:α):Prop:=(g->x= .inr v)/\(¬g->∃z,x= .inl (z,2))
theorem Res.bind{α β:Type}{x:bJ⊕α}{g g' G:Prop}{v:α}{f:α->bJ⊕β}{v':β}(h:Res x g v)(c:g->Res (f v) g' v')(d:G↔g/\g'):Res (aW x f) G v':=by
 constructor
 .intro e
  obtain⟨a,b⟩:=d.1 e
  rw[h.1 a]
  exact(c a).1 b
 intro e
 by_cases a:g
 .rw[h.1 a]
  exact(c a).2 fun b=>e (d.2 ⟨a,b⟩)
 obtain⟨z,k⟩:=h.2 a
 exact⟨z,by rw[k];rfl⟩
theorem Res.pure{α:Type}{x:bJ⊕α}{g:Prop}{v:α}(a:g)(h:x= .inr v):Res x g v:=⟨fun _=>h,fun n=>absurd a n⟩
theorem sR{t:bB}{x:Ex}{j:Nat}{l:List Ex}(h:l.length+1<=256):iE t x (j,l)= .inr ((j,l++[x]),l.length):=by
 unfold iE
 rw[if_neg (by show ¬l.length=256;omega)]
def PL(ts:List bB)(ps:List BA)(E:Ps->PM Nat):Nat->Ps->PM Nat
 |1=>AH ts ps E
 |2=>uB ts ps E
 |3=>EJ ts ps E
 |_=>lL ts ps E
theorem SS(E:Ps->PM Nat){n:Nat}(a:1<=n)(b:n<=3)(p:Ps):PL ts ps E n p=nI ts n (PL ts ps E (n+1)) p:=by
 rcases(by omega:n=1\/n=2\/n=3) with rfl|rfl|rfl<;>rfl
def Fac(ts:List bB)(ps:List BA)(E:Ps->PM Nat)(n:Nat)(pf:Pf)(g:Prop)(t:Rose):Prop:=
 ∀i l bl,lI ts i (lO (pf bl))->NextOk n ts (i+(pf bl).length)->l.length+t.size<=256->Res (PL ts ps E n (i,l)) g ((i+(pf bl).length,l++t.flat l.length),l.length+t.size-1)
def Spi(ts:List bB)(ps:List BA)(E:Ps->PM Nat)(L:Nat)(pf:Pf)(g:Prop)(t:Rose):Prop:=
 ∀i l bl,lI ts i (lO (pf bl))->NextOk (L+1) ts (i+(pf bl).length)->l.length+t.size<=256->
  (g->∃n',ts.length+1<=n'+(pf bl).length/\nI ts L (PL ts ps E (L+1)) (i,l)=lM ts L (PL ts ps E (L+1)) n' (l.length+t.size-1) (i+(pf bl).length,l++t.flat l.length))/\
  (¬g->∃z,nI ts L (PL ts ps E (L+1)) (i,l)= .inl (z,2))
variable {E:Ps->PM Nat} {pf:Pf} {g:Prop} {t:Rose}
theorem qBc{L n x:Nat}{S:Ps->PM Nat}{p:Ps}(h:iI ts L p.1=0):lM ts L S (n+1) x p= .inr (p,x):=by
 unfold lM
 rw[if_pos h]
theorem Fac.lift{n:Nat}(a:1<=n)(b:n<=3)(h:Fac ts ps E (n+1) pf g t):Fac ts ps E n pf g t:=by
 intro i l bl e c d
 rw[SS E a b]
 unfold nI
 exact(h i l bl e (c.up (by omega)) d).bind (g':=True) (fun _=> .pure trivial (qBc (c.2.2 n (jP n) a b))) (by simp)
theorem Fac.lifts{n m:Nat}(a:1<=m)(e:m<=n)(c:n<=4)(h:Fac ts ps E n pf g t):Fac ts ps E m pf g t:=by
 obtain⟨d,rfl⟩:∃d,n=m+d:=⟨n-m,by omega⟩
 induction d generalizing m with
 |zero=>exact h
 |succ d b=>
  have:=b (m:=m+1) (by omega) (by omega) (by omega) (by rw[show m+1+d=m+(d+1) by omega];exact h)
  exact Fac.lift a (by omega) this
theorem Fac.spi{L:Nat}(h:Fac ts ps E (L+1) pf g t):Spi ts ps E L pf g t:=by
 intro i l bl d c b
 obtain⟨f,k⟩:=h i l bl d c b
 constructor
 .intro a
  refine⟨ts.length+1,by omega,?_⟩
  unfold nI
  rw[f a]
  rfl
 intro a
 obtain⟨z,e⟩:=k a
 exact⟨z,by unfold nI;rw[e];rfl⟩
theorem Spi.fac{L:Nat}(b:1<=L)(c:L<=3)(h:Spi ts ps E L pf g t):Fac ts ps E L pf g t:=by
 intro i l bl k a f
 obtain⟨n,o⟩:=h i l bl k (a.up (by omega)) f
 rw[SS E b c]
 constructor
 .intro e
  obtain⟨n',p,d⟩:=n e
  have:=a.1
  obtain⟨m,rfl⟩:∃m,n'=m+1:=⟨n'-1,by omega⟩
  rw[d,qBc (a.2.2 L (jP L) b c)]
 exact o
end
theorem PJ:((4,⟨#[41]⟩,0):lK)∈BG:= .head _
theorem qNe:((4,⟨#[44]⟩,0):lK)∈BG:= .tail _ (.head _)
theorem qNm:((4,⟨#[59]⟩,0):lK)∈BG:= .tail _ (.tail _ (.head _))
theorem qNq:((1,⟨#[116,104,101,110]⟩,0):lK)∈BG:= .tail _ (.tail _ (.tail _ (.head _)))
theorem qPu:((1,⟨#[101,108,115,101]⟩,0):lK)∈BG:= .tail _ (.tail _ (.tail _ (.tail _ (.head _))))
theorem RZ(h:Hd):∃n:Nat,dY h=(n:Int)/\n<=4:=by
 unfold dY
 split
 .exact⟨0,rfl,by decide⟩
 split
 .split
  .exact⟨1,rfl,by decide⟩
  split
  .exact⟨2,rfl,by decide⟩
  exact⟨3,rfl,by decide⟩
 exact⟨4,rfl,by decide⟩
theorem qEi(h:Hd)(ks:List Rose)(need:Int)(d:Nat):(Rose.mk h ks).dep need d=max (if dY h<need then d+1 else d) (lX h 0 (if h.1=4 then(if dY h<need then d+1 else d) else(if dY h<need then d+1 else d)+1) ks):=by unfold Rose.dep;rfl
theorem wI{h:Hd}{ks:List Rose}{need:Int}{d:Nat}(a:¬dY h<need):(Rose.mk h ks).dep need d=max d (lX h 0 (if h.1=4 then d else d+1) ks):=by
 rw[qEi];simp only[if_neg a]
theorem RK{h:Hd}{ks:List Rose}{need:Int}{d:Nat}(a:dY h<need):(Rose.mk h ks).dep need d=(Rose.mk h ks).dep 0 (d+1):=by
 obtain⟨n,e,-⟩:=RZ h
 rw[qEi,wI (need:=0) (by omega)];simp only[if_pos a]
section
variable (ts:List bB) (ps:List BA)
def JE(k d:Nat)(t:Rose):Prop:=∀i l bl,lI ts i (lO (t.pc ps 0 bl))->NextOk 1 ts (i+(t.pc ps 0 bl).length)->l.length+t.size<=256->Res (bZ ts ps k (i,l)) (t.dep 0 d<=32) ((i+(t.pc ps 0 bl).length,l++t.flat l.length),l.length+t.size-1)
structure Pk(t:Rose):Prop where
 p0:∀k d,k+d=33->JE ts ps k d t
 en:∀k d,k+d=32->∀n:Nat,2<=n->n<=4->Fac ts ps (bZ ts ps k) n (fun bl=>t.pc ps (n:Int) bl) (t.dep (n:Int) d<=32) t
 es:∀k d,k+d=32->∀L:Nat,2<=L->L<=3->Spi ts ps (bZ ts ps k) L (fun bl=>t.pc ps (L:Int) bl) (t.dep (L:Int) d<=32) t
end
section
variable {ts:List bB} {ps:List BA}
theorem uY{h:Hd}{ks:List Rose}{need:Int}(a:¬dY h<need)(bl:List UInt8):(Rose.mk h ks).pc ps need bl=pE ps h (lE ps h 0 ks) bl:=by rw[NO,if_neg a]
theorem IK{h:Hd}{ks:List Rose}{need:Int}(a:dY h<need)(bl:List UInt8):(Rose.mk h ks).pc ps need bl=bS [40] []::((Rose.mk h ks).pc ps 0 []++[bS [41] bl]):=by
 obtain⟨n,e,-⟩:=RZ h
 rw[NO,if_pos a,uY (by omega)]
theorem RM{t:Rose}{k d:Nat}(r:k+d=32)(f:JE ts ps k (d+1) t):Fac ts ps (bZ ts ps k) 4 (fun bl=>bS [40] []::(t.pc ps 0 []++[bS [41] bl])) (t.dep 0 (d+1)<=32) t:=by
 intro i l bl o e n
 simp only[jC,jA,jE] at e ⊢
 obtain⟨b,c⟩:=o
 obtain⟨c,a⟩:=rQ c
 obtain⟨a,-⟩:=a
 have p:=e.1
 have g:=f (i+1) l [] c (AC PJ a (by omega) 1) n
 have h:PL ts ps (bZ ts ps k) 4 (i,l)=aW (bZ ts ps k (i+1,l)) fun q=>aW (cC ts sClose q.1.1) fun j=> .inr ((j,q.1.2),q.2):=by
  show lL ts ps (bZ ts ps k) (i,l)=_
  unfold lL
  dsimp only
  rw[if_neg (by rw[tK b];show ¬(4:Int)=2;decide),if_neg (by rw[HH b (by decide+kernel)];decide),if_pos (zY (s:=sOpen) b rfl)]
 rw[h]
 refine g.bind (g':=True) (fun _=> .pure trivial ?_) (by simp)
 refine Eq.trans (congrArg (fun z=>aW z _) (oG (s:=sClose) a rfl)) ?_
 show Sum.inr _=Sum.inr _
 rw[show i+1+(t.pc ps 0 []).length+1=i+((t.pc ps 0 []).length+(0+1)+1) by omega]
theorem qTx(t:Rose)(d:Nat):d<=t.dep 0 d:=by
 cases t with
 |mk h ks=>
  obtain⟨n,e,-⟩:=RZ h
  rw[wI (by omega)]
  exact Nat.le_max_left ..
theorem qEg{t:Rose}{d:Nat}(a:0+d=33):JE ts ps 0 d t:=by
 intro i l bl _ _ _
 have:=qTx t d
 refine⟨fun g=>by omega,fun _=>⟨(aB ts i).2.2.2,?_⟩⟩
 rfl
theorem IY{h:Hd}{ks:List Rose}{lv:Nat}(t:dY h=(lv:Int))(s:1<=lv)(o:lv<=4)
  (p:∀i bl,lI ts i (lO ((Rose.mk h ks).pc ps 0 bl))->bE ts 1 pJ i=false)
  (g:∀k d,k+d=32->Fac ts ps (bZ ts ps k) lv (fun bl=>(Rose.mk h ks).pc ps 0 bl) ((Rose.mk h ks).dep 0 d<=32) (.mk h ks))
  (q:∀k d,k+d=32->lv=2\/lv=3->Spi ts ps (bZ ts ps k) lv (fun bl=>(Rose.mk h ks).pc ps 0 bl) ((Rose.mk h ks).dep 0 d<=32) (.mk h ks)):Pk ts ps (.mk h ks):=by
 have f:∀k d,k+d=33->JE ts ps k d (.mk h ks):=by
  intro k d b
  cases k with
  |zero=>exact qEg b
  |succ k=>
   intro i l bl c a r
   rw[bZ,if_neg (by rw[p i bl c];decide)]
   exact(g k d (by omega)).lifts (jP 1) s o i l bl c a r
 have un:∀{n:Nat},n<=lv->(fun bl=>(Rose.mk h ks).pc ps (n:Int) bl)=fun bl=>(Rose.mk h ks).pc ps 0 bl:=fun {n} a=>by
  funext bl
  rw[uY (by omega),uY (by omega)]
 have und:∀{n d:Nat},n<=lv->(Rose.mk h ks).dep (n:Int) d=(Rose.mk h ks).dep 0 d:=fun {n d} a=>by
  rw[wI (by omega),wI (by omega)]
 have pr:∀{n:Nat},lv<n->(fun bl=>(Rose.mk h ks).pc ps (n:Int) bl)=fun bl=>bS [40] []::((Rose.mk h ks).pc ps 0 []++[bS [41] bl]):=fun {n} a=>by
  funext bl
  rw[IK (by omega)]
 have c:∀k d,k+d=32->∀n:Nat,lv<n->Fac ts ps (bZ ts ps k) 4 (fun bl=>(Rose.mk h ks).pc ps (n:Int) bl) ((Rose.mk h ks).dep (n:Int) d<=32) (.mk h ks):=fun k d b n a=>by
  rw[pr a,RK (by omega)]
  exact RM b (f k (d+1) (by omega))
 refine⟨f,fun k d b n u r=> ?_,fun k d b L L2 L3=> ?_⟩
 .by_cases a:n<=lv
  .rw[un a,und a]
   exact(g k d b).lifts (by omega) a o
  exact(c k d b n (by omega)).lifts (by omega) r (by omega)
 by_cases a:L<=lv
 .rw[un a,und a]
  by_cases e:L=lv
  .subst e
   exact q k d b (by omega)
  exact((g k d b).lifts (m:=L+1) (by omega) (by omega) o).spi
 exact((c k d b L (by omega)).lifts (m:=L+1) (by omega) (by omega) (by omega)).spi
theorem ML{h:Hd}(c:dY h=4)
  (o:∀i bl,lI ts i (lO (pE ps h [] bl))->bE ts 1 pJ i=false)
  (n:∀k i l bl,lI ts i (lO (pE ps h [] bl))->NextOk 4 ts (i+(pE ps h [] bl).length)->l.length+1<=256->lL ts ps (bZ ts ps k) (i,l)= .inr ((i+(pE ps h [] bl).length,l++[eX h []]),l.length)):Pk ts ps (.mk h []):=by
 have e:∀bl,(Rose.mk h []).pc ps 0 bl=pE ps h [] bl:=fun bl=>uY (by omega) bl
 refine IY (lv:=4) c (by decide) (by decide) (fun i bl a=>o i bl (by rw[<-e];exact a)) (fun k d p=> ?_) fun _ _ _ h=>by omega
 intro i l bl a f b
 simp only[e] at a f ⊢
 have g:(Rose.mk h []).size=1:=rfl
 rw[g] at b ⊢
 refine .pure ?_ (n k i l bl a f b)
 rw[wI (by omega)]
 show max d 0<=32
 omega
theorem HQ{s:BA}(h:eG s=true):s∉[sRead,sSize,sHas,sEnv,sFlip]/\pF s=false/\s≠pJ:=by
 unfold eG at h
 simp only[jI,gT] at h
 have a:¬s∈wordsR:=by
  have:=h.2
  unfold pF at this
  exact of_decide_eq_false this
 refine⟨fun g=>a ?_,h.2,fun g=>a ?_⟩
 .simp only[jT,gB,dE] at g
  unfold wordsR
  simp only[jT,gB,dE]
  rcases g with g|g|g|g|g<;>simp[g]
 rw[g];unfold wordsR
 simp
section
variable {i:Nat} {l:List Ex} {E:Ps->PM Nat}
theorem sV{w:List UInt8}(h:cO (aB ts i)=eY (1,w))(a:(⟨⟨w⟩⟩:BA)≠pJ):bE ts 1 pJ i=false:=by
 rw[qN (nF h),jY a];rfl
theorem SB{w:List UInt8}(h:cO (aB ts i)=eY (4,w)):bE ts 1 pJ i=false:=by
 rw[qN (LO h)];rfl
theorem qDu{w:List UInt8}(h:cO (aB ts i)=eY (2,w)):bE ts 1 pJ i=false:=by
 rw[qN h];rfl
theorem qSm{n:Nat}(c:n<=9007199254740992)(h:cO (aB ts i)=eY (2,Lib.decDigits n))(b:l.length+1<=256):lL ts ps E (i,l)= .inr ((i+1,l++[(1,(n:Int),0,⟨#[]⟩,[])]),l.length):=by
 unfold lL
 dsimp only
 have a:=LQ c h
 rw[if_pos (tK a),sR b,tk3 a]
theorem qRe{n:Nat}(e:n<=9007199254740992)(h:cO (aB ts i)=eY (4,[45]))(c:cO (aB ts (i+1))=eY (2,Lib.decDigits n))(d:l.length+1<=256):lL ts ps E (i,l)= .inr ((i+1+1,l++[(1,-(n:Int),0,⟨#[]⟩,[])]),l.length):=by
 unfold lL
 dsimp only
 have a:=LQ e c
 rw[if_neg (by rw[tK h];show ¬(4:Int)=2;decide),if_pos (zY (s:=sMinus) h rfl)]
 unfold lH
 rw[if_pos (tK a)]
 show iE (aB ts i) (1,IntKind.wrap .i64 (0-(aB ts (i+1)).2.2.1),0,⟨#[]⟩,[]) (i+1+1,l)=_
 have b:(aB ts (i+1)).2.2.1=(n:Int):=tk3 a
 rw[sR d,b,bT (by omega) (by omega),Int.zero_sub]
theorem HV{w:List UInt8}(h:cO (aB ts i)=eY (1,w)):lL ts ps E (i,l)=
  if(⟨⟨w⟩⟩:BA)∈[sRead,sSize,sHas,sEnv,sFlip] then nH ts E (aB ts i) (i+1,l)
  else if pF ⟨⟨w⟩⟩ then cV (aB ts i) 9
  else if bE ts 4 sOpen (i+1) then aW (pN ts E (i+1,l)) fun q=>iE (aB ts i) (3,0,0,⟨⟨w⟩⟩,q.2) q.1
  else match ps.findIdx? (fun x=>decide (x=⟨⟨w⟩⟩)) with
   |some j=>iE (aB ts i) (2,(j:Int),0,⟨#[]⟩,[]) (i+1,l)
   |none=>cV (aB ts i) 9:=by
 unfold lL
 dsimp only
 have a:=nF h
 rw[if_neg (by rw[tK a];show ¬(1:Int)=2;decide),if_neg (by rw[qN a];exact kC),if_neg (by rw[qN a];exact kC),if_neg (by rw[tK a];exact fun h=>h rfl),pH a]
 rfl
end
end
section
variable {ts:List bB} {ps:List BA} {i:Nat} {l:List Ex} {E:Ps->PM Nat}
theorem LP{c:lK}{k:Int}(h:cO (aB ts i)=c)(a:c.1=k):lH ts k i= .inr (i+1,aB ts i):=by
 unfold lH
 rw[if_pos ((tK h).trans a)]
theorem MD{w:List UInt8}(h:cO (aB ts i)=eY (3,w))(a:mK w=true):mC ts i= .inr (i+1,aB ts i):=by
 unfold mC
 rw[LP (AA h) rfl]
 simp only[aW]
 have e:(aB ts i).2.1=⟨⟨w⟩⟩:=pH (AA h)
 rw[e,if_pos a]
theorem qMu{s:BA}(h:cO (aB ts i)=eY (3,s.data.toList))(a:lW s=true):rO ts i= .inr (i+1,aB ts i):=by
 unfold rO
 rw[LP (AA h) rfl]
 simp only[aW]
 have e:(aB ts i).2.1=s:=pH (AA h)
 rw[e,if_pos a]
theorem qPm{w:List UInt8}{k:Int}{s:BA}(o:(⟨⟨w⟩⟩:BA)=sSize/\k=7/\mK s.data.toList=true\/(⟨⟨w⟩⟩:BA)=sHas/\k=8/\mK s.data.toList=true\/(⟨⟨w⟩⟩:BA)=sEnv/\k=9/\lW s=true)
  (n:cO (aB ts i)=eY (1,w)) (f:cO (aB ts (i+1))=eY (4,[40])) (c:cO (aB ts (i+1+1))=eY (3,s.data.toList)) (g:cO (aB ts (i+1+1+1))=eY (4,[41])) (h:l.length+1<=256):
  lL ts ps E (i,l)= .inr ((i+1+1+1+1,l++[(k,0,0,s,[])]),l.length):=by
 have d:(aB ts i).2.1=⟨⟨w⟩⟩:=pH (nF n)
 have e:(aB ts (i+1+1)).2.1=s:=pH (AA c)
 rw[HV n]
 rcases o with ⟨a,rfl,b⟩|⟨a,rfl,b⟩|⟨a,rfl,b⟩
 .rw[if_pos (by rw[a];decide+kernel)]
  unfold nH
  dsimp only
  rw[oG (s:=sOpen) f rfl]
  simp only[aW]
  rw[d,a,if_neg (by decide+kernel),if_pos rfl,MD c b]
  simp only[aW]
  rw[oG (s:=sClose) g rfl]
  simp only[aW]
  rw[sR h,e]
 .rw[if_pos (by rw[a];decide+kernel)]
  unfold nH
  dsimp only
  rw[oG (s:=sOpen) f rfl]
  simp only[aW]
  rw[d,a,if_neg (by decide+kernel),if_neg (by decide+kernel),if_pos rfl,MD c b]
  simp only[aW]
  rw[oG (s:=sClose) g rfl]
  simp only[aW]
  rw[sR h,e]
 rw[if_pos (by rw[a];decide+kernel)]
 unfold nH
 dsimp only
 rw[oG (s:=sOpen) f rfl]
 simp only[aW]
 rw[d,a,if_neg (by decide+kernel),if_neg (by decide+kernel),if_neg (by decide+kernel),if_pos rfl,qMu c b]
 simp only[aW]
 rw[oG (s:=sClose) g rfl]
 simp only[aW]
 rw[sR h,e]
theorem qOu{n:Nat}(h:n<64)(a:cO (aB ts i)=eY (1,yD))(e:cO (aB ts (i+1))=eY (4,[40]))(b:cO (aB ts (i+1+1))=eY (2,Lib.decDigits n))(f:cO (aB ts (i+1+1+1))=eY (4,[41]))(g:l.length+1<=256):
  lL ts ps E (i,l)= .inr ((i+1+1+1+1,l++[(10,(n:Int),0,⟨#[]⟩,[])]),l.length):=by
 have c:(aB ts i).2.1=sFlip:=pH (nF a)
 have d:(aB ts (i+1+1)).2.2.1=(n:Int):=tk3 (LQ (by omega) b)
 rw[HV a,if_pos (by decide+kernel)]
 unfold nH
 dsimp only
 rw[oG (s:=sOpen) e rfl]
 simp only[aW]
 rw[c,if_neg (by decide+kernel),if_neg (by decide+kernel),if_neg (by decide+kernel),if_neg (by decide+kernel),LP (LQ (by omega) b) rfl]
 simp only[aW]
 rw[d,if_neg (by omega)]
 simp only
 rw[oG (s:=sClose) f rfl]
 simp only[aW]
 rw[sR g]
theorem qTh{n:Int}(f: -9007199254740992<=n)(g:n<=9007199254740992):Pk ts ps (.mk (1,n,0,emB) []):=by
 have e:∀bl,pE ps (1,n,0,emB) [] bl=rA n bl:=fun bl=>rfl
 refine ML rfl (fun i bl a=> ?_) fun k i l bl a h b=> ?_
 .rw[e] at a
  unfold rA at a
  split at a
  .exact SB a.1
  exact qDu a.1
 rw[e] at a ⊢
 unfold rA at a ⊢
 split at a
 .rename_i hneg
  rw[if_pos hneg]
  obtain⟨c,d,-⟩:=a
  rw[qRe (n:=n.natAbs) (by omega) c d b,show-(n.natAbs:Int)=n by omega]
  rfl
 rename_i hneg
 rw[if_neg hneg]
 rw[qSm (n:=n.toNat) (by omega) a.1 b,show(n.toNat:Int)=n by omega]
 rfl
theorem qSw{j:Nat}(d:j<ps.length)(h:∀s∈ps,eG s=true)(b:ps.findIdx? (fun x=>decide (x=ps.getD j ⟨#[]⟩))=some j):Pk ts ps (.mk (2,(j:Int),0,emB) []):=by
 have e:∀bl,pE ps (2,(j:Int),0,emB) [] bl=[cK (ps.getD j ⟨#[]⟩).data.toList bl]:=fun bl=>rfl
 have c:ps.getD j ⟨#[]⟩∈ps:=by
  rw[jN,List.getElem?_eq_getElem d]
  exact kH d
 obtain⟨n,o,p⟩:=HQ (h _ c)
 generalize ps.getD j ⟨#[]⟩=s at e n o p b
 refine ML rfl (fun i bl a=> ?_) fun k i l bl a f q=> ?_
 .rw[e] at a
  exact sV a.1 p
 rw[e] at a f ⊢
 have g:bE ts 4 sOpen (i+1)=false:=f.2.1
 rw[HV a.1,if_neg n,if_neg (by rw[show pF (⟨⟨s.data.toList⟩⟩:BA)=false from o];exact kC),if_neg (by rw[g];exact kC)]
 rw[show ps.findIdx? (fun x=>decide (x=(⟨⟨s.data.toList⟩⟩:BA)))=some j from b]
 simp only
 rw[sR q]
 rfl
theorem qCi{k:Int}{s:BA}(c:(k=7\/k=8)/\mK s.data.toList=true\/k=9/\lW s=true):Pk ts ps (.mk (k,0,0,s) []):=by
 have hk':k=7\/k=8\/k=9:=by
  rcases c with ⟨h|h,-⟩|⟨h,-⟩
  .exact .inl h
  .exact .inr (.inl h)
  exact .inr (.inr h)
 have e:∀bl,pE ps (k,0,0,s) [] bl=[cK (mO k).data.toList [],bS [40] [],qJ s.data.toList [],bS [41] bl]:=fun bl=>by
  rcases hk' with rfl|rfl|rfl<;>rfl
 have f:(⟨⟨(mO k).data.toList⟩⟩:BA)≠pJ:=by rcases hk' with rfl|rfl|rfl<;>decide+kernel
 refine ML (by rcases hk' with rfl|rfl|rfl<;>rfl) (fun i bl a=> ?_) fun r i l bl a q d=> ?_
 .rw[e] at a
  exact sV a.1 f
 rw[e] at a ⊢
 obtain⟨g,n,o,p,-⟩:=a
 refine Eq.trans (qPm (k:=k) (s:=s) ?_ g n o p d) rfl
 rcases c with ⟨rfl|rfl,b⟩|⟨rfl,b⟩
 .exact .inl ⟨rfl,rfl,b⟩
 .exact .inr (.inl ⟨rfl,rfl,b⟩)
 exact .inr (.inr ⟨rfl,rfl,b⟩)
theorem qRn{n:Nat}(c:n<64):Pk ts ps (.mk (10,(n:Int),0,emB) []):=by
 have e:∀bl,pE ps (10,(n:Int),0,emB) [] bl=[cK yD [],bS [40] [],((2,Lib.decDigits n),[]),bS [41] bl]:=fun bl=>by
  show cK yD []::bS [40] []::(rA (n:Int) []++[bS [41] bl])=_
  unfold rA
  rw[if_neg (by omega),jX]
  rfl
 refine ML rfl (fun i bl a=> ?_) fun k i l bl a _ b=> ?_
 .rw[e] at a
  exact sV a.1 (by decide+kernel)
 rw[e] at a ⊢
 obtain⟨d,f,g,h,-⟩:=a
 exact Eq.trans (qOu c d f g h b) rfl
end
section
variable {ts:List bB} {ps:List BA}
theorem qVm(h:Hd)(a b:Rose)(d:Nat):lX h 0 d [a,b]=max (a.dep (eE h 0) d) (max (b.dep (eE h 1) d) 0):=rfl
theorem TU{op:Int}(a:1<=op)(b:op<=7):dY (4,0,op,emB)=(qF op:Int)/\1<=qF op/\qF op<=3:=by
 rcases(by omega:op=1\/op=2\/op=3\/op=4\/op=5\/op=6\/op=7) with rfl|rfl|rfl|rfl|rfl|rfl|rfl<;>decide+kernel
theorem TI(h:Hd)(a b:Rose)(n:Nat):(Rose.mk h [a,b]).flat n=a.flat n++b.flat (n+a.size)++[eX h [((n+a.size-1:Nat):Int),((n+a.size+b.size-1:Nat):Int)]]:=by
 show(a.flat n++(b.flat (n+a.size)++[]))++_=_
 rw[jW];rfl
theorem TL(h:Hd)(a b c:Rose)(n:Nat):(Rose.mk h [a,b,c]).flat n=a.flat n++b.flat (n+a.size)++c.flat (n+a.size+b.size)++[eX h [((n+a.size-1:Nat):Int),((n+a.size+b.size-1:Nat):Int),((n+a.size+b.size+c.size-1:Nat):Int)]]:=by
 show(a.flat n++(b.flat (n+a.size)++(c.flat (n+a.size+b.size)++[])))++_=_
 rw[jW,<-jD];rfl
theorem TO(h:Hd)(a:Rose)(n:Nat):(Rose.mk h [a]).flat n=a.flat n++[eX h [((n+a.size-1:Nat):Int)]]:=by
 show(a.flat n++[])++_=_
 rw[jW];rfl
theorem NL(h:Hd)(a b:Rose):(Rose.mk h [a,b]).size=a.size+b.size+1:=by show a.size+(b.size+0)+1=_;omega
theorem qUz(h:Hd)(a b c:Rose):(Rose.mk h [a,b,c]).size=a.size+b.size+c.size+1:=by show a.size+(b.size+(c.size+0))+1=_;omega
theorem qVn(h:Hd)(a:Rose):(Rose.mk h [a]).size=a.size+1:=by show a.size+0+1=_;omega
theorem qUp{op:Int}{a b:Rose}(G:1<=op)(H:op<=7)(V:Pk ts ps a)(hb:Pk ts ps b)(U:∀n:Nat,1<=n->∀i bl,lI ts i (lO (a.pc ps (n:Int) bl))->bE ts 1 pJ i=false):Pk ts ps (.mk (4,0,op,emB) [a,b]):=by
 obtain⟨e,D,E⟩:=TU G H
 generalize hL:qF op=L at e D E
 -- what the operands need
 obtain⟨nl,enl,nl2,nl3⟩:∃nl:Nat,eE (4,0,op,emB) 0=(nl:Int)/\(L=1->nl=2)/\(L≠1->nl=L):=by
  unfold eE
  rw[if_pos rfl,if_pos rfl,e]
  by_cases h:L=1
  .exact⟨2,by rw[if_pos (by omega)];rfl,fun _=>rfl,fun g=>absurd h g⟩
  exact⟨L,by rw[if_neg (by omega)],fun g=>absurd g h,fun _=>rfl⟩
 have enr:eE (4,0,op,emB) 1=((L+1:Nat):Int):=by
  unfold eE
  rw[if_pos rfl,if_neg (by decide),e];rfl
 have y:∀bl,(Rose.mk (4,0,op,emB) [a,b]).pc ps 0 bl=a.pc ps (nl:Int) [32]++(bS (oK op).data.toList [32]::b.pc ps ((L+1:Nat):Int) bl):=fun bl=>by
  rw[uY (by omega),<-enl,<-enr];rfl
 have v:∀d,d<=32->((Rose.mk (4,0,op,emB) [a,b]).dep 0 d<=32↔a.dep (nl:Int) d<=32/\b.dep ((L+1:Nat):Int) d<=32):=fun d K=>by
  rw[wI (by omega),if_pos rfl,qVm,enl,enr];omega
 -- the operator and the second operand
 have tail:∀k d,k+d=32->∀i l bl m,lI ts i (lO (bS (oK op).data.toList [32]::b.pc ps ((L+1:Nat):Int) bl))->NextOk (L+1) ts (i+(1+(b.pc ps ((L+1:Nat):Int) bl).length))->a.size<=l.length->l.length+b.size+1<=256->
   ∀x:Nat,(b.dep ((L+1:Nat):Int) d<=32->lM ts L (PL ts ps (bZ ts ps k) (L+1)) (m+1) x (i,l)=if L=1 then .inr ((i+(1+(b.pc ps ((L+1:Nat):Int) bl).length),l++b.flat l.length++[(4,0,op,⟨#[]⟩,[(x:Int),((l.length+b.size-1:Nat):Int)])]),l.length+b.size)
    else lM ts L (PL ts ps (bZ ts ps k) (L+1)) m (l.length+b.size) (i+(1+(b.pc ps ((L+1:Nat):Int) bl).length),l++b.flat l.length++[(4,0,op,⟨#[]⟩,[(x:Int),((l.length+b.size-1:Nat):Int)])]))/\
   (¬b.dep ((L+1:Nat):Int) d<=32->∃z,lM ts L (PL ts ps (bZ ts ps k) (L+1)) (m+1) x (i,l)= .inl (z,2)):=by
  intro k d o i l bl m f c R B x
  obtain⟨A,t⟩:=f
  obtain⟨-,o2⟩:=qCl G H A
  have u:iI ts L i=op:=by rw[o2 L D E,if_pos hL]
  have p:=hb.en k d o (L+1) (by omega) (by omega) (i+1) l bl t (by rw[show i+1+(b.pc ps ((L+1:Nat):Int) bl).length=i+(1+(b.pc ps ((L+1:Nat):Int) bl).length) by omega];exact c) (by omega)
  have F:lM ts L (PL ts ps (bZ ts ps k) (L+1)) (m+1) x (i,l)=aW (PL ts ps (bZ ts ps k) (L+1) (i+1,l)) fun q=>aW (iE (aB ts i) (4,0,op,⟨#[]⟩,[(x:Int),(q.2:Int)]) q.1) fun r=>if L=1 then .inr r else lM ts L (PL ts ps (bZ ts ps k) (L+1)) m r.2 r.1:=by
   conv=>lhs;unfold lM
   dsimp only
   rw[u,if_neg (by omega)]
  rw[F]
  constructor
  .intro s
   rw[p.1 s]
   simp only[aW]
   have fl:(b.flat l.length).length=b.size:=iW ..
   rw[sR (by rw[jA,fl];omega)]
   simp only[jA,fl]
   rw[show i+1+(b.pc ps ((L+1:Nat):Int) bl).length=i+(1+(b.pc ps ((L+1:Nat):Int) bl).length) by omega]
  intro s
  obtain⟨z,M⟩:=p.2 s
  exact⟨z,by rw[M];rfl⟩
 have p:∀n,(a.flat n).length=a.size:=fun n=>iW ..
 have nxt:∀{i:Nat},cO (aB ts i)=eY (4,(oK op).data.toList)->i<ts.length->NextOk (L+1) ts i:=fun {i} f hi=>by
  obtain⟨R,o2⟩:=qCl G H f
  exact⟨hi,R,fun L' S u F=>by rw[o2 L' u F,if_neg (by omega)]⟩
 have S:∀i bl,lI ts i (lO ((Rose.mk (4,0,op,emB) [a,b]).pc ps 0 bl))->bE ts 1 pJ i=false:=fun i bl f=>by
  rw[y] at f
  refine U nl ?_ i [32] (rQ f).1
  by_cases h:L=1
  .rw[nl2 h];decide
  rw[nl3 h];omega
 have fin:∀(l:List Ex) (x:Nat),x=l.length+a.size-1->l++a.flat l.length++b.flat (l++a.flat l.length).length++[((4,0,op,⟨#[]⟩,[(x:Int),(((l++a.flat l.length).length+b.size-1:Nat):Int)]):Ex)]=l++(Rose.mk (4,0,op,emB) [a,b]).flat l.length:=fun l x hx=>by
  rw[TI,jA,p,hx]
  simp only[jD]
  rfl
 by_cases h1L:L=1
 .-- a comparison
  subst h1L
  obtain rfl:=nl2 rfl
  refine IY (lv:=1) e (by decide) (by decide) S (fun k d o=> ?_) fun _ _ _ h=>by omega
  intro i l bl f c B
  simp only[y] at f c ⊢
  rw[NL] at B
  obtain⟨A,t⟩:=rQ f
  simp only[jA,jC] at c ⊢
  have F:=V.en k d o 2 (by decide) (by decide) i l [32] A (nxt t.1 (by have:=c.1;show i+(a.pc ps ((2:Nat):Int) [32]).length<ts.length;omega)) (by omega)
  have u:=tail k d o (i+(a.pc ps ((2:Nat):Int) [32]).length) (l++a.flat l.length) bl ts.length t (by rw[show i+(a.pc ps ((2:Nat):Int) [32]).length+(1+(b.pc ps ((1+1:Nat):Int) bl).length)=i+((a.pc ps ((2:Nat):Int) [32]).length+((b.pc ps ((1+1:Nat):Int) bl).length+1)) by omega];exact c.up (by decide)) (by rw[jA,p];omega) (by rw[jA,p];omega) (l.length+a.size-1)
  rw[SS _ (by decide) (by decide)]
  unfold nI
  refine F.bind (g':=b.dep ((1+1:Nat):Int) d<=32) (fun _=> ?_) (v d (by omega))
  refine⟨fun s=> ?_,u.2⟩
  have:=u.1 s
  rw[if_pos rfl] at this
  refine Eq.trans this ?_
  rw[fin l _ rfl,NL,jA,p]
  show Sum.inr _=Sum.inr _
  have:=a.pos
  rw[show i+(a.pc ps ((2:Nat):Int) [32]).length+(1+(b.pc ps ((1+1:Nat):Int) bl).length)=i+((a.pc ps ((2:Nat):Int) [32]).length+((b.pc ps ((1+1:Nat):Int) bl).length+1)) by omega,show l.length+(a.size+b.size+1)-1=l.length+a.size+b.size by omega]
 -- a sum or a term
 obtain rfl:=nl3 h1L
 have spi:∀k d,k+d=32->Spi ts ps (bZ ts ps k) nl (fun bl=>(Rose.mk (4,0,op,emB) [a,b]).pc ps 0 bl) ((Rose.mk (4,0,op,emB) [a,b]).dep 0 d<=32) (.mk (4,0,op,emB) [a,b]):=by
  intro k d o i l bl f c B
  simp only[y] at f c ⊢
  rw[NL] at B
  obtain⟨A,t⟩:=rQ f
  simp only[jA,jC] at c ⊢
  obtain⟨R,Y⟩:=V.es k d o nl (by omega) E i l [32] A (nxt t.1 (by have:=c.1;show i+(a.pc ps (nl:Int) [32]).length<ts.length;omega)) (by omega)
  dsimp only at R Y
  have a4:=c.1
  have K:=v d (by omega)
  have u:=fun m=>tail k d o (i+(a.pc ps (nl:Int) [32]).length) (l++a.flat l.length) bl m t (by rw[show i+(a.pc ps (nl:Int) [32]).length+(1+(b.pc ps ((nl+1:Nat):Int) bl).length)=i+((a.pc ps (nl:Int) [32]).length+((b.pc ps ((nl+1:Nat):Int) bl).length+1)) by omega];exact c) (by rw[jA,p];omega) (by rw[jA,p];omega) (l.length+a.size-1)
  constructor
  .intro s
   obtain⟨ga,gb⟩:=K.1 s
   obtain⟨n',Z,F⟩:=R ga
   obtain⟨m,rfl⟩:∃m,n'=m+1:=⟨n'-1,by omega⟩
   refine⟨m,by omega,?_⟩
   rw[F,(u m).1 gb,if_neg h1L,fin l _ rfl,NL,jA,p]
   rw[show i+(a.pc ps (nl:Int) [32]).length+(1+(b.pc ps ((nl+1:Nat):Int) bl).length)=i+((a.pc ps (nl:Int) [32]).length+((b.pc ps ((nl+1:Nat):Int) bl).length+1)) by omega,show l.length+(a.size+b.size+1)-1=l.length+a.size+b.size by omega]
  intro s
  by_cases ga:a.dep (nl:Int) d<=32
  .obtain⟨n',Z,F⟩:=R ga
   obtain⟨m,rfl⟩:∃m,n'=m+1:=⟨n'-1,by omega⟩
   obtain⟨z,M⟩:=(u m).2 fun gb=>s (K.2 ⟨ga,gb⟩)
   exact⟨z,by rw[F,M]⟩
  exact Y ga
 exact IY (lv:=nl) e D (by omega) S (fun k d o=>(spi k d o).fac D E) fun k d o _=>spi k d o
end
section
variable {ts:List bB} {ps:List BA}
def Pn(ts:List bB)(ps:List BA)(t:Rose):Prop:=∀n:Nat,1<=n->∀i bl,lI ts i (lO (t.pc ps (n:Int) bl))->bE ts 1 pJ i=false
theorem wL{h:Hd}{ks:List Rose}(b:1<=dY h->∀i bl,lI ts i (lO (pE ps h (lE ps h 0 ks) bl))->bE ts 1 pJ i=false):Pn ts ps (.mk h ks):=by
 intro n c i bl a
 by_cases hl:dY h<(n:Int)
 .rw[IK hl] at a
  exact SB a.1
 rw[uY hl] at a
 exact b (by omega) i bl a
theorem Res.step{α β:Type}{x:bJ⊕α}{v:α}{f:α->bJ⊕β}{g:Prop}{w:β}(h:x= .inr v)(r:Res (f v) g w):Res (aW x f) g w:=by
 rw[h];exact r
theorem qSv{a b c:Rose}(v:Pk ts ps a)(y:Pk ts ps b)(z:Pk ts ps c):Pk ts ps (.mk (5,0,0,emB) [a,b,c]):=by
 have E:dY (5,0,0,emB)=0:=rfl
 have r:∀bl,(Rose.mk (5,0,0,emB) [a,b,c]).pc ps 0 bl=cK FD [32]::(a.pc ps 0 [32]++(cK EK [32]::(b.pc ps 0 [32]++(cK EH [32]::c.pc ps 0 bl)))):=fun bl=>by
  rw[uY (by omega)];rfl
 have p:∀d,d<=32->((Rose.mk (5,0,0,emB) [a,b,c]).dep 0 d<=32↔a.dep 0 (d+1)<=32/\(b.dep 0 (d+1)<=32/\(c.dep 0 (d+1)<=32/\True))):=fun d F=>by
  have e:(Rose.mk (5,0,0,emB) [a,b,c]).dep 0 d=max d (max (a.dep 0 (d+1)) (max (b.dep 0 (d+1)) (max (c.dep 0 (d+1)) 0))):=by
   rw[wI (by omega)];rfl
  rw[e];simp only[and_true];omega
 have h:∀k d,k+d=33->JE ts ps k d (.mk (5,0,0,emB) [a,b,c]):=by
  intro k d g
  cases k with
  |zero=>exact qEg g
  |succ k=>
   intro i l bl t o A
   rw[r] at t o ⊢
   simp only[jC,jA] at o ⊢
   rw[qUz] at A ⊢
   obtain⟨D,f⟩:=t
   obtain⟨sa,f⟩:=rQ f
   obtain⟨st,f⟩:=f
   obtain⟨sb,f⟩:=rQ f
   obtain⟨se,sc⟩:=f
   have B:=o.1
   have fa:(a.flat l.length).length=a.size:=iW ..
   have q:bE ts 1 pJ i=true:=by rw[qN (nF D)];rfl
   rw[bZ,if_pos q]
   have RA:=v.p0 k (d+1) (by omega) (i+1) l [32] sa (AC qNq st (by omega) 1) (by omega)
   refine RA.bind (fun _=> ?_) (p d (by omega))
   dsimp only
   refine Res.step (RG (s:=sThen) st rfl) ?_
   have RB:=y.p0 k (d+1) (by omega) (i+1+(a.pc ps 0 [32]).length+1) (l++a.flat l.length) [32] sb (AC qPu se (by omega) 1) (by rw[jA,fa];omega)
   refine Res.bind (x:=bZ ts ps k (i+1+(a.pc ps 0 [32]).length+1,l++a.flat l.length)) RB (fun _=> ?_) Iff.rfl
   dsimp only
   refine Res.step (RG (s:=sElse) se rfl) ?_
   have fb:(b.flat (l++a.flat l.length).length).length=b.size:=iW ..
   have fc:∀n,(c.flat n).length=c.size:=fun n=>iW ..
   have RC:=z.p0 k (d+1) (by omega) (i+1+(a.pc ps 0 [32]).length+1+(b.pc ps 0 [32]).length+1) ((l++a.flat l.length)++b.flat (l++a.flat l.length).length) bl sc (by
    rw[show i+1+(a.pc ps 0 [32]).length+1+(b.pc ps 0 [32]).length+1+(c.pc ps 0 bl).length=i+((a.pc ps 0 [32]).length+((b.pc ps 0 [32]).length+((c.pc ps 0 bl).length+1)+1)+1) by omega]
    exact o) (by rw[jA,fb,jA,fa];omega)
   refine Res.bind (x:=bZ ts ps k (i+1+(a.pc ps 0 [32]).length+1+(b.pc ps 0 [32]).length+1,(l++a.flat l.length)++b.flat (l++a.flat l.length).length)) RC (fun _=> .pure trivial ?_) Iff.rfl
   dsimp only
   have pa:=a.pos
   have pb:=b.pos
   have pc:=c.pos
   rw[sR (by simp only[jA,fa,fb,fc];simp only[jA,fa] at fb;omega)]
   simp only[jA,fa,fc]
   rw[show(b.flat (l.length+a.size)).length=b.size from iW ..]
   rw[TL]
   have u:i+1+(a.pc ps 0 [32]).length+1+(b.pc ps 0 [32]).length+1+(c.pc ps 0 bl).length=i+((a.pc ps 0 [32]).length+((b.pc ps 0 [32]).length+((c.pc ps 0 bl).length+1)+1)+1):=by omega
   rw[u,show l.length+(a.size+b.size+c.size+1)-1=l.length+a.size+b.size+c.size by omega]
   simp only[jD]
   rfl
 refine⟨h,fun k d g n o f=> ?_,fun k d g L L2 L3=> ?_⟩
 .have e:(fun bl=>(Rose.mk (5,0,0,emB) [a,b,c]).pc ps (n:Int) bl)=fun bl=>bS [40] []::((Rose.mk (5,0,0,emB) [a,b,c]).pc ps 0 []++[bS [41] bl]):=by
   funext bl;rw[IK (by omega)]
  rw[e,RK (by omega)]
  exact(RM g (h k (d+1) (by omega))).lifts (by omega) f (by omega)
 have e:(fun bl=>(Rose.mk (5,0,0,emB) [a,b,c]).pc ps (L:Int) bl)=fun bl=>bS [40] []::((Rose.mk (5,0,0,emB) [a,b,c]).pc ps 0 []++[bS [41] bl]):=by
  funext bl;rw[IK (by omega)]
 rw[e,RK (by omega)]
 exact((RM g (h k (d+1) (by omega))).lifts (m:=L+1) (by omega) (by omega) (by omega)).spi
theorem qSd{s:BA}{a:Rose}(A:mK s.data.toList=true)(u:Pk ts ps a):Pk ts ps (.mk (6,0,0,s) [a]):=by
 have n:dY (6,0,0,s)=4:=rfl
 have c:∀bl,(Rose.mk (6,0,0,s) [a]).pc ps 0 bl=cK EG []::bS [40] []::qJ s.data.toList []::bS [44] [32]::(a.pc ps 0 []++[bS [41] bl]):=fun bl=>by
  rw[uY (by omega)];rfl
 refine IY (lv:=4) n (by decide) (by decide) (fun i bl b=>by rw[c] at b;exact sV b.1 (by decide+kernel)) (fun k d F=> ?_) fun _ _ _ h=>by omega
 have f:(Rose.mk (6,0,0,s) [a]).dep 0 d<=32↔a.dep 0 (d+1)<=32/\True:=by
  have e:(Rose.mk (6,0,0,s) [a]).dep 0 d=max d (max (a.dep 0 (d+1)) 0):=by
   rw[wI (by omega)];rfl
  rw[e];simp only[and_true];omega
 intro i l bl b g x
 simp only[c] at b g ⊢
 simp only[jC,jA,jE] at g ⊢
 rw[qVn] at x ⊢
 obtain⟨o,B,p,D,E⟩:=b
 obtain⟨sa,sz,-⟩:=rQ E
 have y:=g.1
 have r:(aB ts i).2.1=sRead:=pH (nF o)
 have t:(aB ts (i+1+1)).2.1=s:=pH (AA p)
 have fa:(a.flat l.length).length=a.size:=iW ..
 have v:PL ts ps (bZ ts ps k) 4 (i,l)=aW (bZ ts ps k (i+1+1+1+1,l)) fun q=>aW (cC ts sClose q.1.1) fun j=>iE (aB ts i) (6,0,0,s,[(q.2:Int)]) (j,q.1.2):=by
  show lL ts ps (bZ ts ps k) (i,l)=_
  rw[HV o,if_pos (by decide+kernel)]
  unfold nH
  dsimp only
  rw[oG (s:=sOpen) B rfl]
  simp only[aW]
  rw[r,if_pos rfl,MD p A]
  simp only[aW]
  rw[oG (s:=sComma) D rfl]
  simp only[aW]
  rw[t]
  cases bZ ts ps k (i+1+1+1+1,l) with
  |inl z=>rfl
  |inr q=>rfl
 rw[v]
 have RA:=u.p0 k (d+1) (by omega) (i+1+1+1+1) l [] sa (AC PJ sz (by omega) 1) (by omega)
 refine RA.bind (fun _=> .pure trivial ?_) f
 dsimp only
 refine Eq.trans (congrArg (fun z=>aW z _) (oG (s:=sClose) sz rfl)) ?_
 simp only[aW]
 have pa:=a.pos
 rw[sR (by rw[jA,fa];omega),TO,jA,fa]
 rw[show i+1+1+1+1+(a.pc ps 0 []).length+1=i+((a.pc ps 0 []).length+(0+1)+1+1+1+1) by omega,show l.length+(a.size+1)-1=l.length+a.size by omega,<-jD]
 rfl
end
section
variable {ts:List bB} {ps:List BA}
def Pz(ts:List bB)(ps:List BA)(t:Rose):Prop:=∀(n:Nat) i bl,lI ts i (lO (t.pc ps (n:Int) bl))->bE ts 4 sClose i=false
theorem wP{h:Hd}{ks:List Rose}(b:∀i bl,lI ts i (lO (pE ps h (lE ps h 0 ks) bl))->bE ts 4 sClose i=false):Pz ts ps (.mk h ks):=by
 intro n i bl a
 by_cases hl:dY h<(n:Int)
 .rw[IK hl] at a
  exact HH a.1 (by decide+kernel)
 rw[uY hl] at a
 exact b i bl a
theorem xT{i:Nat}{w:List UInt8}(h:cO (aB ts i)=eY (1,w)):bE ts 4 sClose i=false:=by
 rw[qN (nF h)];rfl
theorem qUh{i:Nat}{w:List UInt8}(h:cO (aB ts i)=eY (2,w)):bE ts 4 sClose i=false:=by
 rw[qN h];rfl
theorem WL{n:Int}{i:Nat}{bl:List UInt8}(a:lI ts i (lO (rA n bl))):bE ts 1 pJ i=false/\bE ts 4 sClose i=false:=by
 unfold rA at a
 split at a
 .exact⟨SB a.1,HH a.1 (by decide+kernel)⟩
 exact⟨qDu a.1,qUh a.1⟩
theorem ZN:∀(ws:List Pf) (j:Nat),ws.length<=(mH (j+1) ws).length
 |[],_=>kE _
 |w::ws,j=>by
  have:=ZN ws (j+1)
  show ws.length+1<=((if j+1=0 then[] else[bS [44] [32]])++(w []++mH (j+1+1) ws)).length
  rw[if_neg (by omega)]
  simp only[jA,jC,jE]
  omega
theorem qAn(s:BA){k d:Nat}(g:k+(d+1)=33):∀(ks:List Rose) (t:Rose) (m j:Nat) (acc:List Int) (i:Nat) (l:List Ex) (bl:List UInt8),(∀u∈t::ks,Pk ts ps u)->
  lI ts i (lO (t.pc ps 0 []++(mH (j+1) (lE ps (3,0,0,s) (j+1) ks)++[bS [41] bl])))->i+((t.pc ps 0 []).length+((mH (j+1) (lE ps (3,0,0,s) (j+1) ks)).length+1))<ts.length->l.length+t.size+aX ks<=256->ks.length<m->
  Res (pT ts (bZ ts ps k) m acc (i,l)) (max (t.dep 0 (d+1)) (lX (3,0,0,s) (j+1) (d+1) ks)<=32) ((i+((t.pc ps 0 []).length+((mH (j+1) (lE ps (3,0,0,s) (j+1) ks)).length+1)),l++(t.flat l.length++cN (l.length+t.size) ks)),acc++bX l.length (t::ks))
 |_,_,0,_,_,_,_,_,_,_,_,_,h=>absurd h (kT _)
 |[],t,m+1,j,acc,i,l,bl,f,c,b,n,_=>by
  obtain⟨o,a⟩:=rQ c
  have a:cO (aB ts (i+(t.pc ps 0 []).length))=eY (4,[41]):=a.1
  have y:(mH (j+1) (lE ps (3,0,0,s) (j+1) [])).length=0:=rfl
  rw[y] at b ⊢
  have e:aX []=0:=rfl
  rw[e] at n
  have RA:=(f t (jH ..)).p0 k (d+1) g i l [] o (AC PJ a (by omega) 1) (by omega)
  unfold pT
  refine RA.bind (g':=True) (fun _=> .pure trivial ?_) (by show max _ 0<=32↔_;simp only[and_true];omega)
  dsimp only
  rw[if_neg (by rw[HH a (by decide+kernel)];exact kC)]
  refine Eq.trans (congrArg (fun z=>aW z _) (oG (s:=sClose) a rfl)) ?_
  simp only[aW]
  show Sum.inr _=Sum.inr _
  rw[show cN (l.length+t.size) []=[] from rfl,jW,kF,<-gI]
  rfl
 |u::us,t,m+1,j,acc,i,l,bl,f,c,b,n,A=>by
  have p:mH (j+1) (lE ps (3,0,0,s) (j+1) (u::us))=bS [44] [32]::(u.pc ps 0 []++mH (j+1+1) (lE ps (3,0,0,s) (j+1+1) us)):=by
   show(if j+1=0 then[] else[bS [44] [32]])++(u.pc ps (eE (3,0,0,s) (j+1)) []++mH (j+1+1) (lE ps (3,0,0,s) (j+1+1) us))=_
   rw[if_neg (by omega)];rfl
  rw[p] at c b ⊢
  rw[jQ,jD] at c
  simp only[jC,jA] at b ⊢
  have e:aX (u::us)=u.size+aX us:=rfl
  rw[e] at n
  obtain⟨o,a⟩:=rQ c
  obtain⟨a,D⟩:=a
  have a:cO (aB ts (i+(t.pc ps 0 []).length))=eY (4,[44]):=a
  have ft:(t.flat l.length).length=t.size:=iW ..
  have RA:=(f t (jH ..)).p0 k (d+1) g i l [] o (AC qNe a (by omega) 1) (by omega)
  have RB:=qAn s g us u m (j+1) (acc++[((l.length+t.size-1:Nat):Int)]) (i+(t.pc ps 0 []).length+1) (l++t.flat l.length) bl (fun v B=>f v (jL _ B)) D (by omega) (by rw[jA,ft];omega) (by simp only[jC] at A;omega)
  unfold pT
  refine RA.bind (fun _=> ?_) (g':=max (u.dep 0 (d+1)) (lX (3,0,0,s) (j+1+1) (d+1) us)<=32) (by show max _ (max (u.dep 0 (d+1)) _)<=32↔_;omega)
  dsimp only
  rw[if_pos (zY (s:=sComma) a rfl)]
  rw[jA,ft] at RB
  have q:i+(t.pc ps 0 []).length+1+((u.pc ps 0 []).length+((mH (j+1+1) (lE ps (3,0,0,s) (j+1+1) us)).length+1))=i+((t.pc ps 0 []).length+((u.pc ps 0 []).length+(mH (j+1+1) (lE ps (3,0,0,s) (j+1+1) us)).length+1+1)):=by omega
  rw[q] at RB
  have r:l++t.flat l.length++(u.flat (l.length+t.size)++cN (l.length+t.size+u.size) us)=l++(t.flat l.length++cN (l.length+t.size) (u::us)):=by
   rw[jD];rfl
  rw[r] at RB
  have x:acc++[((l.length+t.size-1:Nat):Int)]++bX (l.length+t.size) (u::us)=acc++bX l.length (t::u::us):=by
   rw[jD];rfl
  rw[x] at RB
  exact RB
theorem qQc{s:BA}{ks:List Rose}(h:eG s=true)(o:∀t∈ks,Pk ts ps t/\Pz ts ps t):Pk ts ps (.mk (3,0,0,s) ks):=by
 have F:dY (3,0,0,s)=4:=rfl
 obtain⟨S,U,V⟩:=HQ h
 have x:∀bl,(Rose.mk (3,0,0,s) ks).pc ps 0 bl=cK s.data.toList []::bS [40] []::(mH 0 (lE ps (3,0,0,s) 0 ks)++[bS [41] bl]):=fun bl=>by
  rw[uY (by omega)];rfl
 refine IY (lv:=4) F (by decide) (by decide) (fun i bl y=>by rw[x] at y;exact sV y.1 V) (fun k d Z=> ?_) fun _ _ _ h=>by omega
 intro i l bl y p z
 have g:(Rose.mk (3,0,0,s) ks).flat l.length=cN l.length ks++[eX (3,0,0,s) (bX l.length ks)]:=by unfold Rose.flat;rfl
 have b:(Rose.mk (3,0,0,s) ks).size=aX ks+1:=rfl
 have n:(Rose.mk (3,0,0,s) ks).dep 0 d=max d (lX (3,0,0,s) 0 (d+1) ks):=by rw[wI (by omega)];rfl
 simp only[x] at y p ⊢
 rw[b] at z
 rw[g,b,n]
 simp only[jC,jA,jE] at p ⊢
 obtain⟨Y,H,e⟩:=y
 have f:=p.1
 have E:PL ts ps (bZ ts ps k) 4 (i,l)=aW (pN ts (bZ ts ps k) (i+1,l)) fun q=>iE (aB ts i) (3,0,0,s,q.2) q.1:=by
  show lL ts ps (bZ ts ps k) (i,l)=_
  rw[HV Y,if_neg S,if_neg (by rw[show pF (⟨⟨s.data.toList⟩⟩:BA)=false from U];exact kC),if_pos (zY (s:=sOpen) H rfl)]
 have D:pN ts (bZ ts ps k) (i+1,l)=if bE ts 4 sClose (i+1+1) then .inr ((i+1+1+1,l),[]) else pT ts (bZ ts ps k) (ts.length+1) [] (i+1+1,l):=by
  unfold pN
  dsimp only
  rw[oG (s:=sOpen) H rfl]
  rfl
 rw[E,D]
 cases ks with
 |nil=>
  have e:cO (aB ts (i+1+1))=eY (4,[41]):=e.1
  have A:(mH 0 (lE ps (3,0,0,s) 0 [])).length=0:=rfl
  rw[A] at p ⊢
  have c:aX []=0:=rfl
  rw[c] at z
  rw[if_pos (zY (s:=sClose) e rfl)]
  refine .pure (by show max d 0<=32;omega) ?_
  simp only[aW]
  rw[sR (by omega),show i+1+1+1=i+(0+(0+1)+1+1) by omega]
  rfl
 |cons u us=>
  have B:mH 0 (lE ps (3,0,0,s) 0 (u::us))=u.pc ps 0 []++mH (0+1) (lE ps (3,0,0,s) (0+1) us):=rfl
  rw[B] at e f ⊢
  simp only[jA] at f ⊢
  rw[jD] at e
  have R:bE ts 4 sClose (i+1+1)=false:=(o u (jH ..)).2 0 (i+1+1) [] (rQ e).1
  rw[if_neg (by rw[R];exact kC)]
  have c:aX (u::us)=u.size+aX us:=rfl
  rw[c] at z
  have A:=ZN (lE ps (3,0,0,s) (0+1) us) 0
  have G:(lE ps (3,0,0,s) (0+1) us).length=us.length:=by
   clear A f e B x o g b n p z c E D
   generalize 0+1=j
   induction us generalizing j with
   |nil=>rfl
   |cons a r K=>show(lE ps (3,0,0,s) (j+1) r).length+1=_;rw[K];rfl
  rw[G] at A
  have RA:=qAn s (k:=k) (d:=d) (by omega) us u (ts.length+1) 0 [] (i+1+1) l bl (fun v M=>(o v M).1) e (by omega) (by omega) (by omega)
  refine RA.bind (g':=True) (fun _=> .pure trivial ?_) (by show max d (max (u.dep 0 (d+1)) _)<=32↔_;simp only[and_true];omega)
  dsimp only
  have fl:(u.flat l.length++cN (l.length+u.size) us).length=u.size+aX us:=by
   rw[jA,iW,qV]
  rw[sR (by rw[jA,fl];omega),jA,fl]
  have K:i+1+1+((u.pc ps 0 []).length+((mH (0+1) (lE ps (3,0,0,s) (0+1) us)).length+1))=i+((u.pc ps 0 []).length+(mH (0+1) (lE ps (3,0,0,s) (0+1) us)).length+(0+1)+1+1):=by omega
  rw[K,jD,c,show l.length+(u.size+aX us+1)-1=l.length+(u.size+aX us) by omega]
  rfl
theorem qRr(r:∀s∈ps,eG s=true)(v:∀j,j<ps.length->ps.findIdx? (fun x=>decide (x=ps.getD j ⟨#[]⟩))=some j){t:Rose}(B:Fine ps.length t):Pk ts ps t/\Pn ts ps t/\Pz ts ps t:=by
 induction B with
 |num n l o=>exact⟨qTh l o,wL fun _ i bl d=>(WL d).1,wP fun i bl d=>(WL d).2⟩
 |par i h=>
  have f:ps.getD i ⟨#[]⟩∈ps:=by
   rw[jN,List.getElem?_eq_getElem h]
   exact kH h
  exact⟨qSw h r (v i h),wL fun _ j bl d=>sV d.1 (HQ (r _ f)).2.2,wP fun j bl d=>xT d.1⟩
 |call s ks h q z=>exact⟨qQc h fun t y=>⟨(z t y).1,(z t y).2.2⟩,wL fun _ j bl d=>sV d.1 (HQ h).2.2,wP fun j bl d=>xT d.1⟩
 |bin op a b l o u p f g=>
  obtain⟨e,A,D⟩:=TU l o
  obtain⟨nl,enl,hnl⟩:∃nl:Nat,eE (4,0,op,emB) 0=(nl:Int)/\1<=nl:=by
   unfold eE
   rw[if_pos rfl,if_pos rfl,e]
   split
   .exact⟨2,rfl,by decide⟩
   exact⟨qF op,rfl,A⟩
  have p:∀bl,pE ps (4,0,op,emB) (lE ps (4,0,op,emB) 0 [a,b]) bl=a.pc ps (nl:Int) [32]++(bS (oK op).data.toList [32]::b.pc ps (eE (4,0,op,emB) 1) bl):=fun bl=>by
   rw[<-enl];rfl
  exact⟨qUp l o f.1 g.1 f.2.1,wL fun _ i bl d=>by rw[p] at d;exact f.2.1 nl hnl i [32] (rQ d).1,wP fun i bl d=>by rw[p] at d;exact f.2.2 nl i [32] (rQ d).1⟩
 |ite a b c u p D f g A=>exact⟨qSv f.1 g.1 A.1,wL fun h=>absurd h (by decide),wP fun i bl d=>xT d.1⟩
 |read s a h u f=>exact⟨qSd h f.1,wL fun _ i bl d=>sV d.1 (by decide+kernel),wP fun i bl d=>xT d.1⟩
 |look k s q h=>
  refine⟨qCi (.inl ⟨q,h⟩),wL fun _ i bl d=> ?_,wP fun i bl d=> ?_⟩
  .rcases q with rfl|rfl
   .exact sV (w:=(mO 7).data.toList) d.1 (by decide+kernel)
   exact sV (w:=(mO 8).data.toList) d.1 (by decide+kernel)
  rcases q with rfl|rfl<;>exact xT d.1
 |env s h=>exact⟨qCi (.inr ⟨rfl,h⟩),wL fun _ i bl d=>sV (w:=(mO 9).data.toList) d.1 (by decide+kernel),wP fun i bl d=>xT d.1⟩
 |flip n h=>exact⟨qRn h,wL fun _ i bl d=>sV d.1 (by decide+kernel),wP fun i bl d=>xT d.1⟩
end
theorem DL{α:Type}[DecidableEq α]:∀{l seen:List α},oE seen l=false->∀y∈l,y∉seen
 |[],_,_,y,a=>by cases a
 |x::l,seen,h,y,a=>by
  unfold oE at h
  simp only[kD,decide_eq_false_iff_not] at h
  rcases jT.1 a with rfl|a
  .exact h.1
  exact fun g=>DL h.2 y a (kA _ g)
theorem qBn:∀{l seen:List BA},oE seen l=false->∀j,j<l.length->l.findIdx? (fun x=>decide (x=l.getD j ⟨#[]⟩))=some j
 |[],_,_,j,a=>by cases a
 |x::l,seen,h,0,_=>by
  rw[List.findIdx?_cons]
  have:decide (x=(x::l).getD 0 ⟨#[]⟩)=true:=jV rfl
  rw[if_pos this]
 |x::l,seen,h,j+1,a=>by
  have b:=h
  unfold oE at b
  simp only[kD] at b
  have a:j<l.length:=by simpa using a
  have e:(x::l).getD (j+1) ⟨#[]⟩=l.getD j ⟨#[]⟩:=rfl
  have c:x≠l.getD j ⟨#[]⟩:=fun g=>by
   have d:l.getD j ⟨#[]⟩∈l:=by
    rw[jN,List.getElem?_eq_getElem a]
    exact kH a
   refine DL b.2 _ d ?_
   rw[<-g]
   exact kO _ (jK.2 rfl)
  rw[List.findIdx?_cons,e,if_neg (by simpa using c),qBn b.2 j a]
  rfl
def EN:List UInt8:=[102,117,110,99]
def IW:List UInt8:=[116,101,115,116]
def JD:List UInt8:=[103,101,110]
def TR:List UInt8:=[112,97,99,107,97,103,101]
def TV:List UInt8:=[105,109,112,111,114,116]
def lV:Nat->List BA->List Pc
 |_,[]=>[]
 |k,p::r=>(if k=0 then[] else[bS [44] [32]])++(cK p.data.toList []::lV (k+1) r)
def sX(d:Dl):List Pc:=
 if d.1=1 then cK EN [32]::cK d.2.1.data.toList []::bS [40] []::(lV 0 d.2.2.1++[bS [41] [32]])
 else if d.1=2 then[cK IW [32],cK d.2.1.data.toList [32]]
 else[cK JD [32],qJ d.2.1.data.toList [32]]
def qC(d:Dl):List Pc:=match vE d.2.2.2 with
 |some t=>t.pc d.2.2.1 0 []
 |none=>[]
def nL(d:Dl):List Pc:=sX d++(bS [61] [32]::(qC d++[bS [59] [10]]))
def qO(s:BA):List Pc:=[cK TV [32],cK s.data.toList [],bS [59] [10]]
def AO(f:Sr):List Pc:=cK TR [32]::cK f.1.data.toList []::bS [59] [10]::(f.2.1.flatMap qO++f.2.2.flatMap nL)
structure OkD(d:Dl):Prop where
 good:GoodD d
 pars:d.2.2.1.length<=8
 body:d.2.2.2.length<=256
 dup:lS d.2.2.1=false
theorem OkD.tree{d:Dl}(h:OkD d):∃t,vE d.2.2.2=some t/\d.2.2.2=t.flat 0/\Fine d.2.2.1.length t:=by
 obtain⟨t,b,a⟩:=QZ h.good.tree
 exact⟨t,b,a,qRc t 0 fun x c=>h.good.nodes x (by rw[a];exact c)⟩
theorem OkD.kind{d:Dl}(h:OkD d):(d.1=1\/d.1=2)/\eG d.2.1=true\/d.1=3/\mK d.2.1.data.toList=true:=by
 have:=h.good.head
 unfold tX at this
 split at this
 .rename_i g;exact .inl ⟨g,this⟩
 split at this
 .rename_i g;exact .inr ⟨g,this⟩
 cases this
theorem OkD.nopars{d:Dl}(h:OkD d)(a:d.1≠1):d.2.2.1=[]:=by
 cases hp:d.2.2.1 with
 |nil=>rfl
 |cons p r=>exact absurd (h.good.pars p (by rw[hp];exact jH ..)).1 a
theorem OkD.names{d:Dl}(h:OkD d):∀s∈d.2.2.1,eG s=true:=fun s a=>(h.good.pars s a).2
theorem qJt{d:Dl}(h:OkD d):cL (qC d)=qR d:=by
 obtain⟨t,a,-,b⟩:=h.tree
 unfold qC qR
 rw[a]
 simp only
 rw[qNg b,jW]
theorem XS:∀(l:List BA) (k:Nat),cL (lV k l)=mX k (l.map fun s=>s.data.toList)
 |[],_=>rfl
 |p::l,k=>by
  simp only[lV,kG,mX,rJ,cK,pA,rU,XS l,jO]
  congr 1
  unfold sH
  split
  .rfl
  rfl
theorem qSj(l:List UInt8):(iL l).data.toList=l:=rfl
theorem qKa{d:Dl}(h:OkD d):cL (nL d)=pS d:=by
 unfold nL pS
 rw[rJ]
 have e:cL (sX d)=(tZ d).data.toList++[32]:=by
  unfold sX tZ
  by_cases h1:d.1=1
  .rw[if_pos h1,if_pos h1]
   simp only[cK,bS,pA,rJ,XS,rU,sL,cL,mV,qE,vD,EN,jW,jO,jD,jQ]
  rw[if_neg h1,if_neg h1]
  by_cases h2:d.1=2
  .rw[if_pos h2,if_pos h2]
   simp only[cK,pA,rU,cL,mV,qE,IW,jW,jO,jD,jQ]
  rw[if_neg h2,if_neg h2]
  simp only[cK,qJ,pA,rU,JO,cL,mV,qE,JD,jW,jO,jD,jQ]
 rw[e]
 simp only[bS,pA,rJ,qJt h,sL,cL,mV,qE,qSj,jW,jO,jD,jQ]
theorem qKr(s:BA):cL (qO s)=oR s:=by
 unfold qO oR
 simp only[cK,bS,pA,rU,sL,cL,mV,qE,TV,jW,jO,jD,jQ]
theorem OZ{α:Type}(g:α->List Pc)(h:α->List UInt8):∀(l:List α),(∀x∈l,cL (g x)=h x)->cL (l.flatMap g)=l.flatMap h
 |[],_=>rfl
 |x::l,a=>by
  rw[kN,kN,rJ,a x (jH ..),OZ g h l fun y b=>a y (jL _ b)]
theorem MZ{f:Sr}(h:GoodS f):∀d∈f.2.2,OkD d:=fun d e=>by
 obtain⟨a,b,c,-⟩:=h.decs d e
 refine⟨a,b,c,?_⟩
 have:=h.once
 unfold qZ at this
 simp only[kD,fF] at this
 exact(Bool.not_eq_true _).mp (this.1 d e)
theorem qKd{f:Sr}(h:GoodS f):cL (AO f)=sG f:=by
 unfold AO sG yM
 simp only[cK,bS,pA,rJ,rU,sL,mV,qE,TR,jO,jD,jQ]
 rw[OZ qO oR _ fun s _=>qKr s,OZ nL pS _ fun d a=>qKa (MZ h d a)]
theorem UB:vJ [10]:=fun x h=>by rw[jK.1 h];kernel_rfl
theorem gdE{rest:List Pc}(a:iQ rest):iQ (bS [61] [32]::rest):=
 ⟨.inr (.inr (.inr ⟨rfl,by decide⟩)),pG,fun x r h=>by
  obtain⟨rfl,-⟩:=List.cons.inj (show 32::cL rest=x::r from h)
  kernel_rfl,a⟩
theorem qTf:pX (1,EN):= .inl ⟨rfl,⟨102,_,rfl,by kernel_rfl⟩,by decide+kernel,by decide⟩
theorem qTp:pX (1,IW):= .inl ⟨rfl,⟨116,_,rfl,by kernel_rfl⟩,by decide+kernel,by decide⟩
theorem qVb:pX (1,JD):= .inl ⟨rfl,⟨103,_,rfl,by kernel_rfl⟩,by decide+kernel,by decide⟩
theorem qVl:pX (1,TR):= .inl ⟨rfl,⟨112,_,rfl,by kernel_rfl⟩,by decide+kernel,by decide⟩
theorem qVc:pX (1,TV):= .inl ⟨rfl,⟨105,_,rfl,by kernel_rfl⟩,by decide+kernel,by decide⟩
theorem qQa{l:List BA}{k:Nat}{rest:List Pc}(a:qP (cL rest)=true):qP (cL (lV (k+1) l++rest))=true:=by
 cases l with
 |nil=>exact a
 |cons p r=>
  show qP (cL (((if k+1=0 then[] else[bS [44] [32]])++(cK p.data.toList []::lV (k+1+1) r))++rest))=true
  rw[if_neg (by omega)]
  kernel_rfl
theorem qDq:∀(l:List BA) (k:Nat) (rest:List Pc),(∀s∈l,eG s=true)->qP (cL rest)=true->iQ rest->iQ (lV k l++rest)
 |[],_,_,_,_,b=>b
 |p::l,k,rest,d,a,b=>by
  have e:=qDq l (k+1) rest (fun s a=>d s (jL _ a)) a b
  have c:iQ (cK p.data.toList []::(lV (k+1) l++rest)):=oT (AB (zV (d p (jH ..)))) mL (qQa a) e
  show iQ (((if k=0 then[] else[bS [44] [32]])++(cK p.data.toList []::lV (k+1) l))++rest)
  rw[jD]
  split
  .exact c
  exact nK (by decide) (by decide) pG c
theorem qSo{d:Dl}(h:OkD d){rest:List Pc}(k:iQ rest):iQ (nL d++rest):=by
 obtain⟨t,f,-,g⟩:=h.tree
 have e:∀s∈d.2.2.1,lW s=true:=fun s l=>zV (h.names s l)
 have a:iQ (bS [61] [32]::((qC d++[bS [59] [10]])++rest)):=by
  refine gdE ?_
  unfold qC
  rw[f,jD]
  exact qRi e g 0 [] _ mL (by kernel_rfl) (nK (by decide) (by decide) UB k)
 unfold nL
 rw[jD,jQ]
 generalize hR:bS [61] [32]::((qC d++[bS [59] [10]])++rest)=R at a
 unfold sX
 rcases h.kind with ⟨c,b⟩|⟨c,b⟩
 .by_cases k1:d.1=1
  .rw[if_pos k1]
   show iQ (cK EN [32]::cK d.2.1.data.toList []::bS [40] []::((lV 0 d.2.2.1++[bS [41] [32]])++R))
   rw[jD]
   exact oT qTf pG (by kernel_rfl) (oT (AB (zV b)) mL (by kernel_rfl) (nK (by decide) (by decide) mL (qDq _ 0 _ h.names (by kernel_rfl) (nK (by decide) (by decide) pG a))))
  rw[if_neg k1,if_pos (c.resolve_left k1)]
  exact oT qTp pG (by kernel_rfl) (oT (AB (zV b)) pG (by kernel_rfl) a)
 rw[if_neg (by omega),if_neg (by omega)]
 obtain⟨p1,p2⟩:=QV b
 exact oT qVb pG (by kernel_rfl) (JJ p1 p2 pG a)
theorem RS{α:Type}(g:α->List Pc):∀(l:List α) (rest:List Pc),(∀x∈l,∀r,iQ r->iQ (g x++r))->iQ rest->iQ (l.flatMap g++rest)
 |[],_,_,a=>a
 |x::l,rest,b,a=>by
  rw[kN,jD]
  exact b x (jH ..) _ (RS g l rest (fun y c=>b y (jL _ c)) a)
theorem qSb{f:Sr}(h:GoodS f):iQ (AO f):=by
 have a:=RS nL f.2.2 [] (fun d a r b=>qSo (MZ h d a) b) trivial
 rw[jW] at a
 have hi:=RS qO f.2.1 (f.2.2.flatMap nL) (fun s c r b=>oT qVc pG (by kernel_rfl) (oT (AB (zV (h.imps s c))) mL (by kernel_rfl) (nK (by decide) (by decide) UB b))) a
 exact oT qVl pG (by kernel_rfl) (oT (AB (zV h.pkg)) mL (by kernel_rfl) (nK (by decide) (by decide) UB hi))
section
variable {ts:List bB} {i:Nat}
theorem DO{s:BA}(h:cO (aB ts i)=eY (1,s.data.toList))(a:eG s=true):lN ts i= .inr (i+1,aB ts i):=by
 unfold lN
 rw[LP (nF h) rfl]
 simp only[aW]
 have e:(aB ts i).2.1=s:=pH (nF h)
 rw[e,if_neg (by rw[(HQ a).2.1];exact kC)]
theorem qBm:∀(l:List BA) (j:Nat),l.length<=(lV (j+1) l).length
 |[],_=>kE _
 |p::l,j=>by
  have:=qBm l (j+1)
  show l.length+1<=((if j+1=0 then[] else[bS [44] [32]])++(cK p.data.toList []::lV (j+1+1) l)).length
  rw[if_neg (by omega)]
  simp only[jA,jC,jE]
  omega
theorem YD:∀(r:List BA) (p:BA) (n j:Nat) (acc:List BA) (i:Nat) (bl:List UInt8),(∀s∈p::r,eG s=true)->oE acc (p::r)=false->acc.length+r.length+1<=8->lI ts i (lO (cK p.data.toList []::(lV (j+1) r++[bS [41] bl])))->r.length<n->
  qB ts n acc i= .inr (i+(1+(lV (j+1) r).length+1),acc++p::r)
 |_,_,0,_,_,_,_,_,_,_,_,h=>absurd h (kT _)
 |[],p,n+1,j,acc,i,bl,g,b,f,c,_=>by
  obtain⟨d,k,-⟩:=c
  have e:(aB ts i).2.1=p:=pH (nF d)
  have a:=DL b p (jH ..)
  unfold qB
  rw[DO d (g p (jH ..))]
  simp only[aW]
  rw[if_neg (by simp only[jE] at f;omega),e,if_neg a,if_neg (by rw[HH k (by decide+kernel)];exact kC),oG (s:=sClose) k rfl]
  rfl
 |q::r,p,n+1,j,acc,i,bl,g,b,f,c,o=>by
  have l:lV (j+1) (q::r)=bS [44] [32]::(cK q.data.toList []::lV (j+1+1) r):=by
   show(if j+1=0 then[] else[bS [44] [32]])++(cK q.data.toList []::lV (j+1+1) r)=_
   rw[if_neg (by omega)];rfl
  rw[l] at c ⊢
  obtain⟨d,k,u⟩:=c
  have e:(aB ts i).2.1=p:=pH (nF d)
  have a:=DL b p (jH ..)
  unfold oE at b
  simp only[kD] at b
  have t:=YD r q n (j+1) (acc++[p]) (i+1+1) bl (fun s c=>g s (jL _ c)) b.2 (by simp only[jA,jC,jE] at f ⊢;omega) u (by simp only[jC] at o;omega)
  unfold qB
  rw[DO d (g p (jH ..))]
  simp only[aW]
  rw[if_neg (by simp only[jC] at f;omega),e,if_neg a,if_pos (zY (s:=sComma) k rfl),t]
  simp only[jC,jD,jQ,jO]
  show Sum.inr _=Sum.inr _
  rw[show i+1+1+(1+(lV (j+1+1) r).length+1)=i+(1+((lV (j+1+1) r).length+1+1)+1) by omega]
theorem qIe{l:List BA}{bl:List UInt8}(f:∀s∈l,eG s=true)(d:lS l=false)(e:l.length<=8)(g:lI ts i (lO (bS [40] []::(lV 0 l++[bS [41] bl]))))(b:i+(lV 0 l).length+2<ts.length):
  pM ts i= .inr (i+(1+(lV 0 l).length+1),l):=by
 obtain⟨h,a⟩:=g
 unfold pM
 rw[oG (s:=sOpen) h rfl]
 simp only[aW]
 cases l with
 |nil=>
  have a:cO (aB ts (i+1))=eY (4,[41]):=a.1
  rw[if_pos (zY (s:=sClose) a rfl)]
  rfl
 |cons p r=>
  have c:lV 0 (p::r)=cK p.data.toList []::lV (0+1) r:=rfl
  rw[c] at a b ⊢
  have k:=qBm r 0
  simp only[jC] at b e ⊢
  rw[if_neg (by rw[xT a.1];exact kC)]
  have:=YD r p (ts.length+1) 0 [] (i+1) bl f d (by simp only[jE];omega) a (by omega)
  rw[this,jO,show i+1+(1+(lV (0+1) r).length+1)=i+(1+((lV (0+1) r).length+1)+1) by omega]
end
theorem Res.stepR{α β:Type}{x:bJ⊕α}{v:α}{f:α->bJ⊕β}{g:Prop}{w:β}(h:x= .inr v)(r:Res (f v) g w):Res (aW x f) g w:=by
 rw[h];exact r
section
variable {ts:List bB}
theorem qOv{d:Dl}(h:OkD d){i:Nat}{k:Int}{nm:BA}(l:lI ts i (lO (bS [61] [32]::(qC d++[bS [59] [10]]))))(b:i+((qC d).length+1+1)<ts.length):
  Res (aW (cC ts sEq i) fun j=>aW (bZ ts d.2.2.1 32 (j,[])) fun c=>aW (cC ts sSemi c.1.1) fun m=>(.inr (m,(k,nm,d.2.2.1,c.1.2)):bJ⊕(Nat×Dl))) (pW d<=32) (i+((qC d).length+1+1),(k,nm,d.2.2.1,d.2.2.2)):=by
 obtain⟨t,f,g,p⟩:=h.tree
 have et:qC d=t.pc d.2.2.1 0 []:=by unfold qC;rw[f]
 have ed:pW d=t.dep 0 1:=by unfold pW;rw[f]
 rw[et] at l b ⊢
 rw[ed]
 obtain⟨r,e⟩:=l
 obtain⟨e,a⟩:=rQ e
 have a:cO (aB ts (i+1+(t.pc d.2.2.1 0 []).length))=eY (4,[59]):=a.1
 have q:=(qRr (ts:=ts) h.names (qBn h.dup) p).1
 have n:t.size=d.2.2.2.length:=by
  have:=iW t 0
  rw[<-g] at this;exact this.symm
 have o:=h.body
 have RA:=q.p0 32 1 (by decide) (i+1) [] [] e (AC qNm a (by omega) 1) (by rw[n];simpa using h.body)
 refine Res.stepR (oG (s:=sEq) r rfl) ?_
 refine RA.bind (g':=True) (fun _=> .pure trivial ?_) (by simp)
 dsimp only
 rw[oG (s:=sSemi) a rfl]
 simp only[aW,jO,jE]
 rw[<-g,show i+1+(t.pc d.2.2.1 0 []).length+1=i+((t.pc d.2.2.1 0 []).length+1+1) by omega]
theorem qNu{d:Dl}(h:OkD d){i:Nat}{before:List Dl}(y:before.length<64)(e:before.any (fun x=>x.1==d.1&&decide (x.2.1=d.2.1))=false)(t:lI ts i (lO (nL d)))(a:i+(nL d).length<ts.length):
  Res (mD ts before i) (pW d<=32) (i+(nL d).length,d):=by
 unfold nL at t a ⊢
 simp only[jA,jC,jE] at a ⊢
 obtain⟨n,v⟩:=rQ t
 have r:((d.1,d.2.1,d.2.2.1,d.2.2.2):Dl)=d:=rfl
 have T:=fun(j:Nat) (u:j=i+(sX d).length)=>qOv (ts:=ts) h (i:=j) (k:=d.1) (nm:=d.2.1) (by rw[u];exact v) (by omega)
 unfold mD
 dsimp only
 by_cases k1:d.1=1
 .have eh:sX d=cK EN [32]::cK d.2.1.data.toList []::bS [40] []::(lV 0 d.2.2.1++[bS [41] [32]]):=if_pos k1
  have q:eG d.2.1=true:=by
   rcases h.kind with ⟨-,g⟩|⟨g,-⟩
   .exact g
   omega
  rw[eh] at n T a ⊢
  simp only[jA,jC,jE] at T a ⊢
  obtain⟨b,c,f⟩:=n
  have o:(aB ts i).2.1=AV:=pH (nF b)
  have p:(aB ts (i+1)).2.1=d.2.1:=pH (nF c)
  have ek:lA (aB ts i).2.1=1:=by rw[o];decide+kernel
  rw[if_neg (by rw[ek,tK (nF b)];show ¬((1:Int)≠1\/(1:Int)=0);decide),if_neg (by omega),ek,if_neg (by decide),DO c q]
  simp only[aW]
  rw[p,if_neg (by rw[<-k1,e];exact kC),if_pos trivial,qIe h.names h.dup h.pars f (by omega)]
  simp only
  rw[<-k1]
  have:=T (i+1+1+(1+(lV 0 d.2.2.1).length+1)) (by omega)
  rw[show i+1+1+(1+(lV 0 d.2.2.1).length+1)+((qC d).length+1+1)=i+((lV 0 d.2.2.1).length+(0+1)+1+1+1+((qC d).length+(0+1)+1)) by omega] at this
  exact this
 have f:=h.nopars k1
 rcases h.kind with ⟨l,q⟩|⟨s,q⟩
 .have l:d.1=2:=l.resolve_left k1
  have eh:sX d=[cK IW [32],cK d.2.1.data.toList [32]]:=by unfold sX;rw[if_neg k1,if_pos l]
  rw[eh] at n T a ⊢
  simp only[jC,jE] at T a ⊢
  obtain⟨b,c,-⟩:=n
  have o:(aB ts i).2.1=AY:=pH (nF b)
  have p:(aB ts (i+1)).2.1=d.2.1:=pH (nF c)
  have ek:lA (aB ts i).2.1=2:=by rw[o];decide+kernel
  rw[if_neg (by rw[ek,tK (nF b)];show ¬((1:Int)≠1\/(2:Int)=0);decide),if_neg (by omega),ek,if_neg (by decide),DO c q]
  simp only[aW]
  rw[p,if_neg (by rw[<-l,e];exact kC),if_neg (by decide)]
  simp only
  have:=T (i+1+1) (by omega)
  rw[f,l,show i+1+1+((qC d).length+1+1)=i+(0+1+1+((qC d).length+(0+1)+1)) by omega] at this
  refine Eq.mp (congrArg (Res _ _) ?_) this
  rw[<-r,f,l]
 have eh:sX d=[cK JD [32],qJ d.2.1.data.toList [32]]:=by unfold sX;rw[if_neg k1,if_neg (by omega)]
 rw[eh] at n T a ⊢
 simp only[jC,jE] at T a ⊢
 obtain⟨b,c,-⟩:=n
 have o:(aB ts i).2.1=BF:=pH (nF b)
 have p:(aB ts (i+1)).2.1=d.2.1:=pH (AA c)
 have ek:lA (aB ts i).2.1=3:=by rw[o];decide+kernel
 rw[if_neg (by rw[ek,tK (nF b)];show ¬((1:Int)≠1\/(3:Int)=0);decide),if_neg (by omega),ek,if_pos rfl,MD c q]
 simp only[aW]
 rw[p,if_neg (by rw[<-s,e];exact kC),if_neg (by decide)]
 simp only
 have:=T (i+1+1) (by omega)
 rw[f,s,show i+1+1+((qC d).length+1+1)=i+(0+1+1+((qC d).length+(0+1)+1)) by omega] at this
 refine Eq.mp (congrArg (Res _ _) ?_) this
 rw[<-r,f,s]
theorem ZI:∀(ds before:List Dl) (n i:Nat),(∀d∈ds,OkD d)->before.length+ds.length<=64->oE (before.map tC) (ds.map tC)=false->lI ts i (lO (ds.flatMap nL)++[((5,⟨#[]⟩,0):lK)])->i+(ds.flatMap nL).length<ts.length->ds.length<n->
  Res (oI ts n before i) (∀d∈ds,pW d<=32) (before++ds)
 |_,_,0,_,_,_,_,_,_,h=>absurd h (kT _)
 |[],before,n+1,i,_,_,_,e,_,_=>by
  have f:cO (aB ts i)=(5,⟨#[]⟩,0):=e.1
  unfold oI
  rw[if_pos (tK f),jW]
  exact .pure (fun d t=>by cases t) rfl
 |d::ds,before,n+1,i,g,u,a,e,c,v=>by
  rw[kN] at e c
  rw[MA,jD,AL] at e
  obtain⟨f,p⟩:=e
  have o:(lO (nL d)).length=(nL d).length:=gC ..
  rw[o] at p
  rw[jA] at c
  simp only[jC] at u v
  have b:(aB ts i).1≠5:=by
   have k:∃w r,nL d=cK w [32]::r:=by
    unfold nL sX
    split
    .exact⟨_,_,rfl⟩
    split
    .exact⟨_,_,rfl⟩
    exact⟨_,_,rfl⟩
   obtain⟨w,r,l⟩:=k
   rw[l] at f
   rw[tK (nF f.1)]
   show(1:Int)≠5
   decide
  have k:before.any (fun x=>x.1==d.1&&decide (x.2.1=d.2.1))=false:=by
   have:=DL a (tC d) (jH ..)
   rw[fF]
   intro x l
   simp only[jI,kJ,j9]
   rintro⟨q,s⟩
   exact this (fV.2 ⟨x,l,Prod.ext q s⟩)
  rw[kG] at a
  unfold oE at a
  simp only[kD] at a
  have RA:=qNu (ts:=ts) (g d (jH ..)) (i:=i) (before:=before) (by omega) k f (by omega)
  have RB:=ZI ds (before++[d]) n (i+(nL d).length) (fun x l=>g x (jL _ l)) (by simp only[jA,jC,jE];omega) (by rw[gV];exact a.2) p (by omega) (by omega)
  unfold oI
  rw[if_neg b]
  refine RA.bind (fun _=> ?_) (g':=∀x∈ds,pW x<=32) (by simp)
  rw[jD] at RB
  exact RB
theorem XF{pkg:BA}:∀(r acc:List BA) (n i:Nat) (c:lK),(∀s∈r,eG s=true)->acc.length+r.length<=8->oE acc r=false->pkg∉r->lI ts i (lO (r.flatMap qO)++[c])->(c.1==1&&decide (c.2.1=uV))=false->r.length<n->
  nR ts pkg n acc i= .inr (i+(r.flatMap qO).length,acc++r)
 |_,_,0,_,_,_,_,_,_,_,_,h=>absurd h (kT _)
 |[],acc,n+1,i,c,_,_,_,_,b,d,_=>by
  have f:cO (aB ts i)=c:=b.1
  unfold nR
  rw[qN f,d,if_neg kC,jW]
  rfl
 |s::r,acc,n+1,i,c,l,t,a,o,b,d,u=>by
  rw[kN,MA,jD,AL] at b
  obtain⟨⟨f,p,z,-⟩,A⟩:=b
  have q:(aB ts (i+1)).2.1=s:=pH (nF p)
  have e:=DL a s (jH ..)
  unfold oE at a
  simp only[kD] at a
  simp only[jC] at t u
  have y:=XF (pkg:=pkg) r (acc++[s]) n (i+1+1+1) c (fun x v=>l x (jL _ v)) (by simp only[jA,jC,jE];omega) a.2 (fun g=>o (jL _ g)) A d (by omega)
  have k:bE ts 1 uV i=true:=by rw[qN (nF f)];decide+kernel
  unfold nR
  rw[if_pos k,if_neg (by omega),DO p (l s (jH ..))]
  simp only[aW]
  rw[q,if_neg (by
   rintro(g|g)
   .exact o (by rw[g];exact jH ..)
   exact e g),oG (s:=sSemi) z rfl]
  simp only
  rw[y,kN,jA,jD]
  show Sum.inr _=Sum.inr _
  rw[show i+1+1+1+(r.flatMap qO).length=i+((qO s).length+(r.flatMap qO).length) by show _=i+(3+_);omega]
  rfl
end
theorem qDf{ts:List bB}:∀(cs:List lK) (j:Nat),(∀n,∀a:n<cs.length,cO (aB ts (j+n))=cs[n])->lI ts j cs
 |[],_,_=>trivial
 |c::cs,j,h=>⟨h 0 (by simp),qDf cs (j+1) fun n a=>by
  have:=h (n+1) (by simpa using a)
  rw[show j+1+n=j+(n+1) by omega,this]
  rfl⟩
theorem qRh{ts:List bB}{cs:List lK}(h:ts.map cO=cs):lI ts 0 cs:=by
 subst h
 refine qDf _ 0 fun n a=> ?_
 have a:n<ts.length:=by simpa using a
 rw[kF,List.getElem_map]
 unfold aB
 rw[jN,List.getElem?_eq_getElem a]
 rfl
theorem PO{α:Type}(g:α->List Pc)(k:Nat):∀(l:List α),(∀x∈l,k<=(g x).length)->k*l.length<=(l.flatMap g).length
 |[],_=>by simp
 |x::l,h=>by
  have b:=h x (jH ..)
  have c:=PO g k l fun y a=>h y (jL _ a)
  rw[kN,jA,jC,Nat.mul_add];omega
theorem VN(d:Dl):∃w r,nL d=cK w [32]::r/\(w=EN\/w=IW\/w=JD):=by
 unfold nL sX
 split
 .exact⟨_,_,rfl,.inl rfl⟩
 split
 .exact⟨_,_,rfl,.inr (.inl rfl)⟩
 exact⟨_,_,rfl,.inr (.inr rfl)⟩
theorem qOc{ts:List bB}{f:Sr}(h:GoodS f)(o:lI ts 0 (lO (AO f)++[((5,⟨#[]⟩,0):lK)]))(e:(AO f).length<ts.length):Res (oN ts) (∀d∈f.2.2,pW d<=32) f:=by
 have g:=h.once
 unfold qZ at g
 simp only[kD,decide_eq_false_iff_not] at g
 obtain⟨-,t1,t2,v⟩:=g
 unfold AO at o e
 obtain⟨t,p,u,a⟩:=o
 have a:lI ts 3 (lO (f.2.1.flatMap qO++f.2.2.flatMap nL)++[((5,⟨#[]⟩,0):lK)]):=a
 rw[MA,jD] at a
 simp only[jC,jA] at e
 have q:(aB ts (0+1)).2.1=f.1:=pH (nF p)
 have li:=PO qO 1 f.2.1 fun s _=>by show 1<=3;decide
 have ld:=PO nL 1 f.2.2 fun d _=>by
  obtain⟨w,r,b,-⟩:=VN d
  rw[b];simp
 have hi:∃c,lI ts 3 (lO (f.2.1.flatMap qO)++[c])/\(c.1==1&&decide (c.2.1=uV))=false:=by
  cases hd:f.2.2 with
  |nil=>
   rw[hd] at a
   exact⟨(5,⟨#[]⟩,0),a,rfl⟩
  |cons d ds=>
   rw[hd,kN] at a
   obtain⟨w,r,b,k⟩:=VN d
   rw[b] at a
   rw[AL] at a
   refine⟨eY (1,w),AL.2 ⟨a.1,a.2.1,trivial⟩,?_⟩
   rcases k with rfl|rfl|rfl<;>decide+kernel
 obtain⟨c,k,l⟩:=hi
 have b:=XF (pkg:=f.1) f.2.1 [] (ts.length+1) 3 c h.imps (by simpa using h.impn) t2 t1 k l (by omega)
 rw[jO] at b
 have n:(lO (f.2.1.flatMap qO)).length=(f.2.1.flatMap qO).length:=gC ..
 rw[AL,n] at a
 have RD:=ZI f.2.2 [] (ts.length+1) (3+(f.2.1.flatMap qO).length) (MZ h) (by simpa using h.decn) v a.2 (by omega) (by omega)
 rw[jO] at RD
 unfold oN
 refine Res.stepR (RG (s:=sPackage) t rfl) ?_
 refine Res.stepR (DO p h.pkg) ?_
 refine Res.stepR (oG (s:=sSemi) u rfl) ?_
 dsimp only
 rw[q]
 refine Res.stepR b ?_
 refine RD.bind (g':=True) (fun _=> .pure trivial rfl) (by simp)
theorem qJf{f:Sr}(e:pO f=0)(c:(sG f).length<=16384):
  ((∀d∈f.2.2,pW d<=32)->nU ⟨⟨sG f⟩⟩=(f,0,0))/\(¬(∀d∈f.2.2,pW d<=32)->∃z,nU ⟨⟨sG f⟩⟩=(sF,z,2)):=by
 have a:=DN e
 rw[<-qKd a] at c ⊢
 obtain⟨ts,t1,t2⟩:=qIa c (qSb a)
 have b:(AO f).length<ts.length:=by
  have:=congrArg List.length t2
  simp only[gC,jA,jC,jE] at this
  omega
 have R:=qOc a (qRh t2) b
 unfold nU
 rw[t1]
 simp only[ne_eq,not_true_eq_false,jF]
 constructor
 .intro h
  rw[R.1 h]
 intro h
 obtain⟨z,g⟩:=R.2 h
 exact⟨z,by rw[g]⟩
theorem WU:∀(ws:List (List UInt8)) (k:Nat),mX (k+1) ws=Lib.joinTail [44,32] ws
 |[],_=>rfl
 |w::ws,k=>by
  have a:=WU ws (k+1)
  show sH (k+1)++(w++mX (k+1+1) ws)=_
  rw[a]
  unfold sH
  rw[if_neg (by omega)]
  simp[Lib.joinTail]
theorem qKl(ws:List (List UInt8)):mX 0 ws=Lib.join ws [44,32]:=by
 cases ws with
 |nil=>rfl
 |cons w ws=>
  rw[Lib.join_cons,<-WU ws 0]
  rfl
theorem qSa(l:List BA):EM l (⟨#[44,32]⟩:BA)=vD l:=by
 refine EB ?_
 show Lib.join (l.map (·.data.toList)) [44,32]=mX 0 (l.map fun s=>s.data.toList)
 rw[qKl]
theorem qNv{N:Nat}{l:List BA}(d:l.length<=8)(c:∀s∈l,s.size<=24):vX N l (⟨#[44,32]⟩:BA)=some (vD l):=by
 by_cases h1:l.length<=1
 .exact qOx h1
 have b:=RH c
 have a:0<(vD l).size:=by
  match l,h1 with
  |x::y::r,_=>
   show 0<(mX 0 (x.data.toList::y.data.toList::r.map fun s=>s.data.toList)).length
   simp only[mX,jA]
   have:(sH (0+1)).length=2:=rfl
   omega
  |[],h=>exact absurd (kE 1) h
  |[x],h=>exact absurd (jP 1) h
 unfold vX
 rw[if_pos (by omega)]
 unfold NM
 rw[qSa,if_pos ⟨a,by omega,by omega⟩]
end
section
open Go Go.Dc
def Ok{α:Type}(x:Option α)(Q:α->Prop):Prop:=∃a,x=some a/\Q a
section
variable {α β γ:Type} {Q:β->Prop}
theorem Ok.mk{a:β}(h:Q a):Ok (some a) Q:=⟨a,rfl,h⟩
theorem Ok.bind{x:Option α}{P:α->Prop}{f:α->Option β}(h:Ok x P)(k:∀a,P a->Ok (f a) Q):Ok (x.bind f) Q:=by
 obtain⟨a,rfl,b⟩:=h
 exact k a b
theorem Ok.mono{x:Option β}{P:β->Prop}(h:Ok x P)(k:∀a,P a->Q a):Ok x Q:=by
 obtain⟨a,e,b⟩:=h
 exact⟨a,e,k a b⟩
theorem Ok.assoc{x:Option α}{g:α->Option γ}{f:γ->Option β}(h:Ok (x.bind fun a=>(g a).bind f) Q):Ok ((x.bind g).bind f) Q:=by
 rw[fL];exact h
theorem Ok.ite{c:Prop}[Decidable c]{x y:Option β}(a:c->Ok x Q)(b:¬c->Ok y Q):Ok (if c then x else y) Q:=by
 by_cases h:c
 .rw[if_pos h];exact a h
 rw[if_neg h];exact b h
theorem Ok.iteb{c:Prop}[Decidable c]{x y:Option α}{f:α->Option β}(a:c->Ok (x.bind f) Q)(b:¬c->Ok (y.bind f) Q):Ok ((if c then x else y).bind f) Q:=by
 by_cases h:c
 .rw[if_pos h];exact a h
 rw[if_neg h];exact b h
theorem Ok.tt[Decidable (true=true)]{x y:Option β}(h:Ok x Q):Ok (if true=true then x else y) Q:=by rw[if_pos rfl];exact h
theorem Ok.ff[Decidable (false=true)]{x y:Option β}(h:Ok y Q):Ok (if false=true then x else y) Q:=by rw[if_neg kC];exact h
theorem Ok.ttb[Decidable (true=true)]{x y:Option α}{f:α->Option β}(h:Ok (x.bind f) Q):Ok ((if true=true then x else y).bind f) Q:=by rw[if_pos rfl];exact h
theorem Ok.ffb[Decidable (false=true)]{x y:Option α}{f:α->Option β}(h:Ok (y.bind f) Q):Ok ((if false=true then x else y).bind f) Q:=by rw[if_neg kC];exact h
theorem Ok.someb{a:α}{f:α->Option β}(h:Ok (f a) Q):Ok ((some a).bind f) Q:=h
theorem Ok.mapb{a:α}{g:α->γ}{f:γ->Option β}(h:Ok (f (g a)) Q):Ok (((some a).map g).bind f) Q:=h
theorem Ok.app{b:Nat}{l k:List α}{f:List α->Option β}(c:(l.length+k.length)*b<=140737488355328)(a:0<b)(h:Ok (f (l++k)) Q):Ok ((cU b l k).bind f) Q:=by
 rw[nQ c a];exact h
theorem Ok.loop{σ:Type}{f:σ->Option (σ⊕α)}{g:α->Option β}{s:σ}{N:Nat}(I:σ->Prop)(μ:σ->Nat)(R:α->Prop)
  (h:∀s,I s->Ok (f s) fun r=>match r with| .inl s'=>I s'/\μ s'<μ s| .inr b=>R b) (d:I s) (e:μ s<N) (k:∀b,R b->Ok (g b) Q):Ok ((aJ f N s).bind g) Q:=by
 obtain⟨b,c,a⟩:=qAp I μ R (fun s d=>by
  obtain⟨r,c,a⟩:=h s d
  cases r with
  |inl s'=>exact .inr ⟨s',c,a.1,a.2⟩
  |inr b=>exact .inl ⟨b,c,a⟩) N s d e
 rw[c];exact k b a
end
theorem TK(a:Array UInt8):(⟨a⟩:BA).size=a.size:=rfl
theorem qBh{N:Nat}{v n:Int}(d:n<=9223372036854775807):∃r,CN N v n=some r/\0<=r/\(1<=n->r<n):=by
 simp only[CN]
 by_cases h:n<=1
 .exact⟨0,by simp[h],by omega,by omega⟩
 have a:n≠0:=by omega
 have b:=Int.tmod_lt_of_pos v (show 0<n by omega)
 have c:=Int.lt_tmod_of_pos v (show 0<n by omega)
 simp only[h,decide_false,jB,jF,NN,a,j0]
 by_cases h3:Int.tmod v n<0
 .refine⟨Int.tmod v n+n,?_,by omega,by omega⟩
  simp only[h3,decide_true,jJ,j0]
  rw[bT (by omega) (by omega)]
 exact⟨Int.tmod v n,by simp only[h3,decide_false,jB,jF,j0],by omega,by omega⟩
theorem LU{N:Nat}{l:List Int}{a n:Int}(c:0<=a)(k:a<4611686018427387904)(f:n<=9223372036854775807):∃r,rZ N (l,a) n=some ((l,a+1),r)/\0<=r/\(1<=n->r<n):=by
 simp only[rZ]
 have b:∃v,(if(decide (a<(List.length l:Int)))=true then((idx l a).bind fun x1=>some x1) else(some (Int.tmod (IntKind.wrap .i64 (a*7)) 11)):Option Int)=some v:=by
  by_cases h:a<(l.length:Int)
  .exact⟨_,by simp only[h,decide_true,jJ];rw[MC c (by omega)];rfl⟩
  exact⟨_,by simp only[h,decide_false,jB,jF];rfl⟩
 obtain⟨v,b⟩:=b
 obtain⟨r,g,d,e⟩:=qBh (N:=N) (v:=v) f
 exact⟨r,by simp only[b,j0,g];rw[bT (by omega) (by omega)],d,e⟩
section
variable {β:Type} {Q:β->Prop} {N:Nat} {l:List Int} {a:Int}
theorem Ok.next{n:Int}{f:(List Int×Int)×Int->Option β}(d:0<=a)(e:a<4611686018427387904)(g:1<=n)(o:n<=1000000)(h:∀r,0<=r->r<n->Ok (f ((l,a+1),r)) Q):Ok ((rZ N (l,a) n).bind f) Q:=by
 obtain⟨r,k,b,c⟩:=LU (N:=N) (l:=l) d e (show n<=9223372036854775807 by omega)
 rw[k];exact h r b (c g)
theorem Ok.chance{n m:Int}{f:(List Int×Int)×Bool->Option β}(b:0<=a)(c:a<4611686018427387904)(o:1<=m)(e:m<=1000000)(h:∀r,Ok (f ((l,a+1),r)) Q):Ok ((uI N (l,a) n m).bind f) Q:=by
 obtain⟨r,d,g,k⟩:=LU (N:=N) (l:=l) b c (show m<=9223372036854775807 by omega)
 simp only[uI,d,j0]
 exact h _
theorem Ok.one{L:List BA}{f:(List Int×Int)×BA->Option β}(e:0<=a)(g:a<4611686018427387904)(o:0<L.length)(n:L.length<1000)(h:∀x∈L,Ok (f ((l,a+1),x)) Q):Ok ((oF N (l,a) L).bind f) Q:=by
 obtain⟨r,k,d,c⟩:=LU (N:=N) (l:=l) e g (show(L.length:Int)<=9223372036854775807 by omega)
 have c:=c (by omega)
 have b:r.toNat<L.length:=by omega
 simp only[oF]
 rw[if_neg (by rw[kJ];omega),k]
 simp only[j0]
 rw[MC d b]
 exact h _ (kH b)
theorem Ok.oneP{L:List BA}{f:(List Int×Int)×BA->Option β}(d:0<=a)(e:a<4611686018427387904)(g:decide ((List.length L:Int)>0)=true)(b:L.length<1000)(c:∀x∈L,x.size<=12)(h:∀x:BA,x.size<=12->Ok (f ((l,a+1),x)) Q):Ok ((oF N (l,a) L).bind f) Q:=
 Ok.one d e (by have:=gS g;omega) b fun x k=>h x (c x k)
theorem Ok.pick{L:List Int}{f:(List Int×Int)×Int->Option β}(e:0<=a)(g:a<4611686018427387904)(o:0<L.length)(n:L.length<1000)(h:∀x∈L,Ok (f ((l,a+1),x)) Q):Ok ((uJ N (l,a) L).bind f) Q:=by
 obtain⟨r,k,d,c⟩:=LU (N:=N) (l:=l) e g (show(L.length:Int)<=9223372036854775807 by omega)
 have c:=c (by omega)
 have b:r.toNat<L.length:=by omega
 simp only[uJ]
 rw[if_neg (by rw[kJ];omega),k]
 simp only[j0]
 rw[MC d b]
 exact h _ (kH b)
theorem Ok.pickS{L:List Int}{f:(List Int×Int)×Int->Option β}(c:0<=a)(d:a<4611686018427387904)(b:(decide (0<L.length)&&decide (L.length<1000)&&L.all fun x=>decide (0<=x/\x<=9007199254740992))=true)(h:∀x:Int,0<=x->x<=9007199254740992->Ok (f ((l,a+1),x)) Q):Ok ((uJ N (l,a) L).bind f) Q:=by
 simp only[jI,j9] at b
 exact Ok.pick c d b.1.1 b.1.2 fun x e=>by
  have:=jU.1 b.2 x e
  simp only[j9] at this
  exact h x this.1 this.2
end
def qD:Nat->Nat
 |0=>8
 |d+1=>3*qD d+8
section
variable {N:Nat} {l:List Int}
theorem Ok.pick01{β:Type}{Q:β->Prop}{a:Int}{f:(List Int×Int)×Int->Option β}(b:0<=a)(c:a<4611686018427387904)(h:∀x:Int,x=0\/x=1->Ok (f ((l,a+1),x)) Q):Ok ((uJ N (l,a) [0,0,0,1]).bind f) Q:=
 Ok.pick b c (by decide) (by decide) fun x d=>h x (by simp at d;omega)
theorem qTb{L:List BA}{x:BA}(a:L.length<1000000)(c:L.length<N):Ok (zG N L x) fun _=>True:=by
 unfold zG
 refine Ok.loop (fun st=>∃j:Nat,st=(j:Int)/\j<=L.length) (fun st=>L.length-st.toNat) (fun _=>True) ?_ ⟨0,rfl,kE _⟩ (by show L.length-(0:Int).toNat<N;omega) ?_
 .rintro _ ⟨j,rfl,d⟩
  simp only[KP]
  by_cases h:j<L.length
  .rw[if_pos (by simpa using h),iX h]
   simp only[j0]
   refine Ok.ite (fun _=>Ok.mk trivial) fun _=>Ok.mk ⟨⟨j+1,by rw[bT (by omega) (by omega)];omega,by omega⟩,?_⟩
   rw[bT (by omega) (by omega)];omega
  rw[if_neg (by simpa using h)];exact Ok.mk trivial
 intro b _
 cases b<;>exact Ok.mk trivial
theorem Ok.has{β:Type}{Q:β->Prop}{L:List BA}{x:BA}{f:Bool->Option β}(a:L.length<1000000)(c:L.length<N)(h:∀b,Ok (f b) Q):Ok ((zG N L x).bind f) Q:=Ok.bind (qTb a c) fun b _=>h b
end
end
section
open Go Go.Dc Go.Proofs
def mnT:BA:=⟨#[112,97,99,107,97,103,101,32,112,59,32,105,109,112,111,114,116,32,113,59,32,116,101,115,116,32,116,32,61,32,102,40,114,101,97,100,40,34,97,46,100,97,116,34,44,32,102,108,105,112,40,48,41,41,41,59]⟩
def mnS:BA:=⟨#[112,97,99,107,97,103,101,32,112,59,10,105,109,112,111,114,116,32,113,59,10,116,101,115,116,32,116,32,61,32,102,40,114,101,97,100,40,34,97,46,100,97,116,34,44,32,102,108,105,112,40,48,41,41,41,59,10]⟩
def EY(a:Int):List Ex:=[(10,a,0,emB,[]),(6,0,0,⟨#[97,46,100,97,116]⟩,[0]),(3,0,0,⟨#[102]⟩,[1])]
def rW(a:Int):Dl:=(2,⟨#[116]⟩,[],EY a)
def FA:Sr:=(⟨#[112]⟩,[⟨#[113]⟩],[rW 0])
def mnF:Sr:=(⟨#[112]⟩,[],[(1,⟨#[102]⟩,[],EY 0)])
theorem mn_p:nU mnT=(FA,0,0):=by kernel_rfl
theorem SV:pO FA=0:=by kernel_rfl
theorem qRk:pO mnF=0:=by kernel_rfl
theorem qBb:∀e∈EY 0,e.2.2.2.1.size<=1048576/\e.2.2.2.2.length<2000000:=fun e a=>by
 have a:e∈[((10,0,0,emB,[]):Ex),(6,0,0,⟨#[97,46,100,97,116]⟩,[0]),(3,0,0,⟨#[102]⟩,[1])]:=a
 simp only[jT,gB,dE] at a
 rcases a with rfl|rfl|rfl
 .exact⟨by show 0<=1048576;decide,by decide⟩
 .exact⟨by show 5<=1048576;decide,by decide⟩
 exact⟨by show 1<=1048576;decide,by decide⟩
theorem qVt:SmSr FA:=by
 refine⟨by show 1<2000000;decide,by show 1<2000000;decide,fun d a=> ?_⟩
 have a:d=rW 0:=jK.1 a
 subst a
 exact⟨by show(1:Nat)<=1048576;decide,by show 0<2000000;decide,by show 3<2000000;decide,qBb⟩
theorem qUl:SmSr mnF:=by
 refine⟨by show 0<2000000;decide,by show 1<2000000;decide,fun d a=> ?_⟩
 have a:d=(1,⟨#[102]⟩,[],EY 0):=jK.1 a
 subst a
 exact⟨by show(1:Nat)<=1048576;decide,by show 0<2000000;decide,by show 3<2000000;decide,qBb⟩
theorem it0:oA 0=⟨#[48]⟩:=EB (by
 rw[show oA 0=oA ((0:Nat):Int) from rfl,qPs,Lib.decDigits_one (by decide)]
 rfl)
theorem mn_w(a:Int):qR (rW a)=((⟨#[102]⟩:BA)++(⟨#[40]⟩:BA)).data.toList++(mX 0 [(((⟨#[114,101,97,100,40,34]⟩:BA)++(⟨#[97,46,100,97,116]⟩:BA))++(⟨#[34,44,32]⟩:BA)).data.toList++((((⟨#[102,108,105,112,40]⟩:BA)++oA a)++(⟨#[41]⟩:BA)).data.toList++[41])]++[41]):=by kernel_rfl
def mnW:List UInt8:=[102,40,114,101,97,100,40,34,97,46,100,97,116,34,44,32,102,108,105,112,40,48,41,41,41]
theorem qUy:qR (rW 0)=mnW:=by
 rw[mn_w,it0]
 rfl
theorem nS{α β:Type}{x:Option α}{v:α}{f:α->Option β}{r:Option β}(h:x=some v)(a:f v=r):Option.bind x f=r:=by
 subst h;exact a
theorem qQo{N:Nat}(a:3000000<N):zT N (EY 0) []=some (iL mnW,0):=by
 have b:sQ N mnF=_:=LK qUl a
 rw[qRk] at b
 obtain⟨c,-,d,-⟩:=(DN SV).decs (rW 0) (jK.2 rfl)
 have e:zQ N (EY 0) []=some (iL (qR (rW 0)),(pW (rW 0):Int)):=(RI c d a).1
 unfold zT
 refine nS (show sQ N mnF=some 0 from b) ?_
 refine Eq.trans (if_neg (by decide)) ?_
 refine nS e ?_
 rw[qUy]
theorem qDz{N:Nat}{f:Sr}(h:GoodS f)(o:3000000<N){t0:List UInt8}(q:t0.length<=100):aJ (zH N f) N (0,t0)=some (t0++f.2.1.flatMap oR)/\(t0++f.2.1.flatMap oR).length<=600:=by
 have p:=h.impn
 have b:∀s∈f.2.1,(oR s).length<=40:=fun s e=>by
  have:=uO (h.imps s e)
  have g:(⟨#[105,109,112,111,114,116,32]⟩:BA).size=7:=rfl
  have k:(⟨#[59,10]⟩:BA).size=2:=rfl
  unfold oR
  simp only[eS,ByteArray.size_append];omega
 constructor
 .have a:=HG (L:=f.2.1) (fun(t:List UInt8) (i:Nat)=>((i:Int),t)) (f:=zH N f)
   (fun t s=> .inl (t++oR s)) (fun t=>t) (fun i t=>t.length<=100+40*i) (by
    intro t i hi c
    have n:=uO (h.imps _ (kH hi))
    simp only[zH]
    rw[if_pos (by simp only[j9];omega),iX hi]
    have ew:IntKind.wrap .i64 ((i:Int)+1)=((i+1:Nat):Int):=by rw[bT (by omega) (by omega)];omega
    have g:(⟨#[105,109,112,111,114,116,32]⟩:BA).size=7:=rfl
    have k:(⟨#[59,10]⟩:BA).size=2:=rfl
    simp only[j0]
    rw[catW (by omega)]
    simp only[j0]
    rw[catW (by rw[ByteArray.size_append];omega)]
    simp only[j0]
    rw[nX (by simp only[eS,ByteArray.size_append];omega)]
    simp only[j0,ew]
    rfl) (by
    intro t i hi t' c d
    cases d
    have:=b _ (kH hi)
    simp only[jA];omega) (by
    intro t c
    simp only[zH]
    rw[if_neg (by simp)]) (M:=N) (t:=t0) (by omega) (by omega)
  rw[show((0:Nat):Int)=0 from rfl] at a
  rw[a,ZU (fun t s=>t++oR s) (fun _ _=>rfl),XA]
 have:∀l:List BA,(∀s∈l,(oR s).length<=40)->(l.flatMap oR).length<=40*l.length:=fun l=>by
  induction l with
  |nil=>intro _;exact kE _
  |cons s l d=>
   intro a
   have g:=a s (jH ..)
   have k:=d fun x c=>a x (jL _ c)
   simp only[kN,jA,jC];omega
 have:=this _ b
 rw[jA];omega
theorem qSq{N:Nat}(a:3000000<N):qM N FA 0=some (mnS,0):=by
 have b:sQ N FA=_:=LK qVt a
 rw[SV] at b
 unfold qM
 refine nS b ?_
 refine Eq.trans (if_neg (by decide)) ?_
 refine nS (v:=false) rfl ?_
 refine Eq.trans (if_neg (by decide)) ?_
 refine nS (v:=rW 0) rfl ?_
 refine nS (qQo a) ?_
 refine Eq.trans (if_neg (by decide)) ?_
 refine nS (v:=(⟨#[112,97,99,107,97,103,101,32,112]⟩:BA)) rfl ?_
 refine nS (v:=(⟨#[112,97,99,107,97,103,101,32,112,59,10]⟩:BA)) rfl ?_
 refine nS (v:=([112,97,99,107,97,103,101,32,112,59,10]:List UInt8)) rfl ?_
 refine nS (v:=([112,97,99,107,97,103,101,32,112,59,10,105,109,112,111,114,116,32,113,59,10]:List UInt8)) ?_ ?_
 .exact(qDz (DN SV) a (t0:=([112,97,99,107,97,103,101,32,112,59,10]:List UInt8)) (by decide)).1
 refine nS (v:=([112,97,99,107,97,103,101,32,112,59,10,105,109,112,111,114,116,32,113,59,10,116,101,115,116,32,116,32,61,32]:List UInt8)) rfl ?_
 rfl
theorem qUw(M:Nat):KT (M+100) (rW 0)=some [⟨#[102]⟩]:=by kernel_rfl
theorem qVs(M:Nat):KU (M+100) (rW 0)=some [⟨#[97,46,100,97,116]⟩]:=by kernel_rfl
theorem qUx(M:Nat):KW (M+100) (rW 0)=some true:=by kernel_rfl
theorem qPd{N:Nat}(e:3000000<N):CF N=some true:=by
 have d:xH N mnT=some (FA,0,0):=by rw[OV _ (by omega),mn_p]
 obtain⟨M,rfl⟩:∃M,N=M+100:=⟨N-100,by omega⟩
 have a:=qUw M
 have b:=qVs M
 have c:=qUx M
 unfold CF
 refine nS d ?_
 refine Eq.trans (if_neg (by decide)) ?_
 refine nS (qSq e) ?_
 refine nS (v:=rW 0) rfl ?_
 refine nS (v:=rW 0) rfl ?_
 refine nS a ?_
 refine nS b ?_
 refine nS (v:=true) ?_ rfl
 refine Eq.trans (if_pos rfl) (Eq.trans (if_pos (gA mnS.toList)) (Eq.trans (if_pos rfl) ?_))
 refine nS (v:=(⟨#[102]⟩:BA)) rfl ?_
 refine Eq.trans (if_pos (gA (⟨#[102]⟩:BA).toList)) (Eq.trans (if_pos rfl) ?_)
 refine nS (v:=(⟨#[97,46,100,97,116]⟩:BA)) rfl ?_
 refine Eq.trans (if_pos (gA (⟨#[97,46,100,97,116]⟩:BA).toList)) ?_
 refine nS (v:=rW 0) rfl ?_
 refine nS c ?_
 rfl
end
section
open Go Go.Dc Go.Proofs
end
section
open Go Go.Dc Go.Proofs
def SmE(d:Dl):Prop:=d.2.2.1.length<2000000/\d.2.2.2.length<2000000/\∀x∈d.2.2.2,x.2.2.2.2.length<2000000
def SmR(f:Sr):Prop:=f.2.1.length<2000000/\f.2.2.length<2000000/\∀d∈f.2.2,SmE d
theorem SmSr.r{f:Sr}(h:SmSr f):SmR f:=⟨h.1,h.2.1,fun d a=>⟨(h.2.2 d a).2.1,(h.2.2 d a).2.2.1,fun x b=>((h.2.2 d a).2.2.2 x b).2⟩⟩
end
section
open Go Go.Dc Go.Proofs
end
section
open Go Go.Dc Go.Proofs
end
section
open Go Go.Dc Go.Proofs
theorem qMf{np:Int}{x:Ex}(h:iM np x=true):x.2.2.2.1.size<=80:=by
 have z:emB.size=0:=rfl
 rcases HJ h with ⟨-,-,-,-,-,e⟩|⟨-,-,-,-,-,e⟩|⟨-,e,-,-⟩|⟨-,-,-,-,-,e⟩|⟨-,-,-,-,e⟩|⟨-,-,e,-,-⟩|⟨-,-,e,-,-⟩|⟨-,-,e,-,-⟩|⟨-,-,-,-,-,e⟩
 .rw[e];omega
 .rw[e];omega
 .have:=uO e;omega
 .rw[e];omega
 .rw[e];omega
 .exact HR e
 .exact HR e
 .have:=QD e;omega
 rw[e];omega
theorem qPa{d:Dl}(h:GoodD d)(a:SmE d):SmD d:=by
 have:=RF h
 exact⟨by omega,a.1,a.2.1,fun x b=>⟨by have:=qMf (h.nodes x b);omega,a.2.2 x b⟩⟩
theorem qCu{f:Sr}(h:GoodS f)(a:SmR f):SmSr f:=⟨a.1,a.2.1,fun d b=>qPa (h.decs d b).1 (a.2.2 d b)⟩
def wK(d:Dl):Sr:=(⟨#[112]⟩,[],[(1,⟨#[102]⟩,d.2.2.1,d.2.2.2)])
theorem qPy{d:Dl}(h:GoodD d)(l:d.2.2.1.length<=8)(c:d.2.2.2.length<=256)(b:wN d.2.2.2=false)(a:lS d.2.2.1=false):pO (wK d)=0:=by
 have e:rK (1,⟨#[102]⟩,d.2.2.1,d.2.2.2)=true:=by
  unfold rK yC AX
  simp only[jI,jU,kJ]
  exact⟨by kernel_rfl,fun s f=>⟨trivial,(h.pars s f).2⟩,h.nodes,h.tree⟩
 have f:rS (wK d)=true:=by
  unfold rS wK
  simp only[List.all_nil,List.all_cons,Bool.and_true,fH,e]
  kernel_rfl
 have g:qZ (wK d)=false:=by
  unfold qZ wK
  simp only[fX,List.any_nil,dU,a,gN]
  kernel_rfl
 have k:rR (wK d)=false:=by
  unfold rR wK wM
  simp only[fX,List.any_nil,dU,b]
  simp only[kD,decide_eq_false_iff_not]
  exact⟨by simp,by simp,by omega,by omega⟩
 unfold pO
 rw[if_pos f,g,k]
 rfl
theorem qOe{N:Nat}{d:Dl}(h:GoodD d)(q:SmE d)(n:d.2.2.1.length<=8)(a:d.2.2.2.length<=256)(k:wN d.2.2.2=false)(c:lS d.2.2.1=false)(g:3000000<N):
  zT N d.2.2.2 d.2.2.1=some (iL (qR d),0):=by
 have b:=qPy h n a k c
 have p:=(DN b).decs (1,⟨#[102]⟩,d.2.2.1,d.2.2.2) (jK.2 rfl)
 have r:SmSr (wK d):=qCu (DN b) ⟨by show 0<2000000;decide,by show 1<2000000;decide,fun e o=>by
  rw[jK.1 o];exact q⟩
 have f:sQ N (wK d)=_:=LK r g
 rw[b] at f
 have l:zQ N d.2.2.2 d.2.2.1=some (iL (qR d),(pW d:Int)):=(RI (d:=(1,⟨#[102]⟩,d.2.2.1,d.2.2.2)) p.1 a g).1
 unfold zT
 rw[show sQ N ((⟨#[112]⟩:BA),([]:List (BA)),[(1,(⟨#[102]⟩:BA),d.2.2.1,d.2.2.2)])=_ from f]
 simp only[j0]
 rw[if_neg (by decide),l]
 rfl
def vF(f:Sr)(d:Dl):List UInt8:=(yM f.1++f.2.1.flatMap oR)++pS d
theorem qAb{N:Nat}{f:Sr}(y:SmR f)(v:pO f=0)(h:3000000<N){i:Nat}(hi:i<f.2.2.length):qM N f (i:Int)=some (iL (vF f f.2.2[i]),0):=by
 have e:=DN v
 have q:=kH hi
 obtain⟨c,g,o,u⟩:=e.decs _ q
 have gdup:lS f.2.2[i].2.2.1=false:=(MZ e _ q).dup
 have n:=y.2.2 _ q
 have x:sQ N f=some (pO f):=LK (qCu e y) h
 have a3:=uO e.pkg
 have z1:(⟨#[112,97,99,107,97,103,101,32]⟩:BA).size=8:=rfl
 have z2:(⟨#[59,10]⟩:BA).size=2:=rfl
 have D:(yM f.1).length<=100:=by unfold yM;simp only[eS,ByteArray.size_append];omega
 unfold qM
 rw[x,v]
 simp only[j0]
 rw[if_neg (by decide),if_neg (by simp only[j9];omega)]
 simp only[j0]
 rw[if_neg (by simp only[j9];omega),iX hi]
 simp only[j0]
 unfold vF
 generalize f.2.2[i]=d at c g o u gdup n
 rw[qOe c n g o u gdup h]
 simp only[j0]
 rw[if_neg (by decide),catW (by omega)]
 simp only[j0]
 rw[catW (by rw[ByteArray.size_append];omega)]
 simp only[j0]
 rw[nX (by simp only[jE,eS,ByteArray.size_append];omega),jO]
 simp only[j0]
 rw[show(((⟨#[112,97,99,107,97,103,101,32]⟩:BA)++f.1)++(⟨#[59,10]⟩:BA)).data.toList=yM f.1 from rfl]
 obtain⟨M,R⟩:=qDz e h D
 rw[M]
 simp only[j0]
 generalize yM f.1++f.2.1.flatMap oR=t at R
 have hw:=(RI c o h).2
 have b:=qOn c g
 have a2:=RF c
 have a1:=RH (l:=d.2.2.1) fun s r=>uO (c.pars s r).2
 have A:vX N d.2.2.1 (⟨#[44,32]⟩:BA)=some (vD d.2.2.1):=qNv g fun s r=>uO (c.pars s r).2
 have y1:(⟨#[102,117,110,99,32]⟩:BA).size=5:=rfl
 have y2:(⟨#[40]⟩:BA).size=1:=rfl
 have K:(⟨#[41,32,61,32]⟩:BA).size=4:=rfl
 have y4:(⟨#[116,101,115,116,32]⟩:BA).size=5:=rfl
 have y5:(⟨#[103,101,110,32,34]⟩:BA).size=5:=rfl
 have y6:(⟨#[34,32,61,32]⟩:BA).size=4:=rfl
 have y7:(⟨#[32,61,32]⟩:BA).size=3:=rfl
 have k:(if(d.1==1)=true then((cA (⟨#[102,117,110,99,32]⟩:BA) d.2.1).bind fun Y=>(cA Y (⟨#[40]⟩:BA)).bind fun Z=>(vX N d.2.2.1 (⟨#[44,32]⟩:BA)).bind fun K=>(cA Z K).bind fun s8=>(cA s8 (⟨#[41,32,61,32]⟩:BA)).bind fun s9=>(cU 1 t s9.data.toList).bind fun S=>some S) else(if(d.1==2)=true then((cA (⟨#[116,101,115,116,32]⟩:BA) d.2.1).bind fun E=>(cA E (⟨#[32,61,32]⟩:BA)).bind fun F=>(cU 1 t F.data.toList).bind fun U=>some U) else((cA (⟨#[103,101,110,32,34]⟩:BA) d.2.1).bind fun G=>(cA G (⟨#[34,32,61,32]⟩:BA)).bind fun H=>(cU 1 t H.data.toList).bind fun V=>some V)):Option (List (UInt8)))=some (t++((tZ d).data.toList++[32,61,32])):=by
  unfold tZ at b ⊢
  by_cases k1:d.1=1
  .rw[if_pos k1] at b
   simp only[ByteArray.size_append] at b
   rw[if_pos (by simpa using k1),if_pos k1,catW (by omega)]
   simp only[j0]
   rw[catW (by rw[ByteArray.size_append];omega),A]
   simp only[j0]
   rw[catW (by simp only[ByteArray.size_append];omega)]
   simp only[j0]
   rw[catW (by simp only[ByteArray.size_append];omega)]
   simp only[j0]
   rw[nX (by simp only[eS,ByteArray.size_append];omega)]
   simp only[j0,mV,qE,jD,jQ,jO]
  rw[if_neg k1] at b
  rw[if_neg (by simpa using k1),if_neg k1]
  by_cases k2:d.1=2
  .rw[if_pos k2] at b
   simp only[ByteArray.size_append] at b
   rw[if_pos (by simpa using k2),if_pos k2,catW (by omega)]
   simp only[j0]
   rw[catW (by rw[ByteArray.size_append];omega)]
   simp only[j0]
   rw[nX (by simp only[eS,ByteArray.size_append];omega)]
   simp only[j0,mV,qE,jD,jQ,jO]
  rw[if_neg k2] at b
  simp only[ByteArray.size_append] at b
  rw[if_neg (by simpa using k2),if_neg k2,catW (by omega)]
  simp only[j0]
  rw[catW (by rw[ByteArray.size_append];omega)]
  simp only[j0]
  rw[nX (by simp only[eS,ByteArray.size_append];omega)]
  simp only[j0,mV,qE,jD,jQ,jO]
 refine Eq.trans (congrArg (fun z=>Option.bind z _) k) ?_
 simp only[j0]
 rw[catW (by rw[PE];omega)]
 simp only[j0]
 rw[nX (by simp only[jA,eS,ByteArray.size_append,PE,jC,jE];omega)]
 simp only[j0]
 have p:(t++((tZ d).data.toList++[32,61,32]))++(iL (qR d)++(⟨#[59,10]⟩:BA)).data.toList=t++pS d:=by
  unfold pS
  simp only[mV,qE,jD]
 rw[p]
 have B:IZ (t++pS d)=some ():=by
  unfold pS
  cases hh2:t++((tZ d).data.toList++(((⟨#[32,61,32]⟩:BA)++iL (qR d))++(⟨#[59,10]⟩:BA)).data.toList) with
  |nil=>
   have:=congrArg List.length hh2
   simp only[jA,eS,ByteArray.size_append,jE] at this
   omega
  |cons a l=>rfl
 rw[B]
 rfl
theorem okSr.r{f:Sr}(h:okSr f):SmR f:=⟨by have:=h.1;omega,by have:=h.2.1;omega,fun d e=>by
 obtain⟨a,b,c⟩:=h.2.2 d e
 exact⟨by omega,by omega,fun x g=>by have:=c x g;omega⟩⟩
theorem qDo(h:Hd):0<=dY h:=by
 unfold dY
 split
 .decide
 split
 .split
  .decide
  split<;>decide
 decide
theorem qUs{ps:List BA}{t:Rose}{a b:Int}(h:a<=b):(t.wr ps a).length<=(t.wr ps b).length:=by
 cases t with
 |mk c ks=>
  simp only[Rose.wr]
  by_cases h1:dY c<a
  .rw[if_pos h1,if_pos (by omega)];exact jP _
  rw[if_neg h1]
  split
  .simp only[jC,jA];omega
  exact jP _
theorem qSx{ps:List BA}{t:Rose}{a:Int}:(t.wr ps a).length<=(t.wr ps 0).length+2:=by
 cases t with
 |mk b ks=>
  have:=qDo b
  simp only[Rose.wr]
  rw[if_neg (show ¬dY b<0 by omega)]
  split
  .simp only[jC,jA,jE];omega
  omega
mutual
theorem qPq(t:Rose)(n:Int){d e:Nat}(a:d<=e):t.dep n d<=t.dep n e:=by
 match t with
 | .mk h ks=>
  have b:=uS ks h 0 a
  have c:=uS ks h 0 (Nat.add_le_add_right a 1)
  have f:=uS ks h 0 (Nat.add_le_add_right a 2)
  simp only[Rose.dep]
  by_cases h1:dY h<n
  .by_cases h4:h.1=4
   .simp only[if_pos h1,if_pos h4];omega
   simp only[if_pos h1,if_neg h4]
   rw[show d+1+1=d+2 by omega,show e+1+1=e+2 by omega];omega
  by_cases h4:h.1=4
  .simp only[if_neg h1,if_pos h4];omega
  simp only[if_neg h1,if_neg h4];omega
theorem uS(l:List Rose)(h:Hd)(k:Nat){d e:Nat}(a:d<=e):lX h k d l<=lX h k e l:=by
 match l with
 |[]=>exact jP _
 |t::l=>
  have b:=qPq t (eE h k) a
  have c:=uS l h (k+1) a
  simp only[lX];omega
end
theorem qPz(t:Rose){a b:Int}(c:a<=b)(d:Nat):t.dep a d<=t.dep b d:=by
 cases t with
 |mk h ks=>
  have e:=uS ks h 0 (show d<=d+1 by omega)
  have f:=uS ks h 0 (show d+1<=d+1+1 by omega)
  simp only[Rose.dep]
  by_cases h1:dY h<a
  .simp only[if_pos h1,if_pos (show dY h<b by omega)];exact jP _
  by_cases h2:dY h<b
  .by_cases h4:h.1=4
   .simp only[if_neg h1,if_pos h2,if_pos h4];omega
   simp only[if_neg h1,if_pos h2,if_neg h4];omega
  simp only[if_neg h1,if_neg h2];exact jP _
theorem qTc(t:Rose)(n:Int)(d:Nat):t.dep n d<=t.dep 0 (d+1):=by
 cases t with
 |mk h ks=>
  have a:=uS ks h 0 (show d<=d+1 by omega)
  have b:=uS ks h 0 (show d+1<=d+1+1 by omega)
  have:=qDo h
  simp only[Rose.dep,if_neg (show ¬dY h<0 by omega)]
  by_cases h1:dY h<n
  .simp only[if_pos h1];exact jP _
  by_cases h4:h.1=4
  .simp only[if_neg h1,if_pos h4];omega
  simp only[if_neg h1,if_neg h4];omega
mutual
theorem XK(t:Rose)(n:Int)(d:Nat):t.deepen d<=t.dep n d:=by
 match t with
 | .mk h ks=>
  obtain⟨e,he1,he2⟩:∃e,e=(if dY h<n then d+1 else d)/\d<=e:=⟨_,rfl,by split<;>omega⟩
  have b:=PA ks h 0 d
  have c:=PA ks h 0 (d+1)
  have f:=uS ks h 0 he2
  have a:=uS ks h 0 (Nat.succ_le_succ he2)
  simp only[Rose.deepen,Rose.dep]
  rw[<-he1]
  by_cases h4:h.1=4
  .rw[if_pos h4,if_pos h4];omega
  rw[if_neg h4,if_neg h4]
  simp only[Nat.succ_eq_add_one] at a
  omega
theorem PA(l:List Rose)(h:Hd)(k d:Nat):uW d l<=lX h k d l:=by
 match l with
 |[]=>exact jP _
 |t::l=>
  have a:=XK t (eE h k) d
  have b:=PA l h (k+1) d
  simp only[uW,lX];omega
end
def co(t:bB):Nat:=if t.1=5 then 0 else if t.1=2 then 3*(Lib.decDigits t.2.2.1.toNat).length else if t.1=3 then 3*t.2.1.size+6 else 3*t.2.1.size
def cs(ts:List bB)(i:Nat):Nat:=((ts.take i).map co).sum
section
variable {ts:List bB} {ps:List BA} {E S:Ps->PM Nat}
theorem oH(i:Nat):cs ts (i+1)=cs ts i+co (aB ts i):=by
 unfold cs
 by_cases h:i<ts.length
 .have e:aB ts i=ts[i]:=by
   unfold aB
   rw[jN,List.getElem?_eq_getElem h];rfl
  rw[LI h,gV,List.sum_append,e]
  simp
 have e:aB ts i=(5,⟨#[]⟩,0,0):=by
  unfold aB
  rw[jN,List.getElem?_eq_none (by omega)];rfl
 rw[gM (by omega),gM (by omega),e]
 rfl
theorem tW{k:Int}{s:BA}{i:Nat}(h:bE ts k s i=true)(a:k=1\/k=4):co (aB ts i)=3*s.size:=by
 simp only[bE,jI,kJ,j9] at h
 unfold co
 rw[if_neg (by omega),if_neg (by omega),if_neg (by omega),h.2]
theorem ME{i:Nat}(h:(aB ts i).1=1):co (aB ts i)=3*(aB ts i).2.1.size:=by
 unfold co
 rw[if_neg (by omega),if_neg (by omega),if_neg (by omega)]
theorem qCg{i:Nat}(h:(aB ts i).1=3):co (aB ts i)=3*(aB ts i).2.1.size+6:=by
 unfold co
 rw[if_neg (by omega),if_neg (by omega),if_pos h]
theorem SR{i:Nat}(h:(aB ts i).1=2):co (aB ts i)=3*(Lib.decDigits (aB ts i).2.2.1.toNat).length:=by
 unfold co
 rw[if_neg (by omega),if_pos h]
theorem tH{s:BA}{i j:Nat}(h:cC ts s i= .inr j):j=i+1/\cs ts j=cs ts i+3*s.size:=by
 unfold cC at h
 split at h
 .rename_i g
  obtain rfl:=(Sum.inr.inj h).symm
  exact⟨rfl,by rw[oH,tW g (.inr rfl)]⟩
 cases h
theorem wdI{s:BA}{i j:Nat}(h:oL ts s i= .inr j):j=i+1/\cs ts j=cs ts i+3*s.size:=by
 unfold oL at h
 split at h
 .rename_i g
  obtain rfl:=(Sum.inr.inj h).symm
  exact⟨rfl,by rw[oH,tW g (.inl rfl)]⟩
 cases h
theorem JW{k:Int}{i:Nat}{a:Nat×bB}(h:lH ts k i= .inr a):a=(i+1,aB ts i)/\(aB ts i).1=k:=by
 unfold lH at h
 split at h
 .rename_i g
  exact⟨(Sum.inr.inj h).symm,g⟩
 cases h
theorem nmI{i:Nat}{a:Nat×bB}(h:lN ts i= .inr a):a=(i+1,aB ts i)/\(aB ts i).1=1/\pF (aB ts i).2.1=false/\cs ts (i+1)=cs ts i+3*(aB ts i).2.1.size:=by
 obtain⟨b,d,c⟩:=bP h
 obtain⟨rfl,g⟩:=JW d
 split at c
 .cases c
 rename_i g3
 obtain rfl:=Sum.inr.inj c
 exact⟨rfl,g,by simpa using g3,by rw[oH,ME g]⟩
theorem ptI{i:Nat}{a:Nat×bB}(h:mC ts i= .inr a):a=(i+1,aB ts i)/\mK (aB ts i).2.1.data.toList=true/\cs ts (i+1)=cs ts i+(3*(aB ts i).2.1.size+6):=by
 obtain⟨b,d,c⟩:=bP h
 obtain⟨rfl,g⟩:=JW d
 split at c
 .rename_i g3
  obtain rfl:=Sum.inr.inj c
  exact⟨rfl,g3,by rw[oH,qCg g]⟩
 cases c
theorem lnI{i:Nat}{a:Nat×bB}(h:rO ts i= .inr a):a=(i+1,aB ts i)/\lW (aB ts i).2.1=true/\cs ts (i+1)=cs ts i+(3*(aB ts i).2.1.size+6):=by
 obtain⟨b,d,c⟩:=bP h
 obtain⟨rfl,g⟩:=JW d
 split at c
 .rename_i g3
  obtain rfl:=Sum.inr.inj c
  exact⟨rfl,g3,by rw[oH,qCg g]⟩
 cases c
def sK(ts:List bB):Prop:=∀i,((aB ts i).1=1->lW (aB ts i).2.1=true)/\((aB ts i).1=2->0<=(aB ts i).2.2.1/\(aB ts i).2.2.1<=9007199254740992)
def Snd(ts:List bB)(ps:List BA)(n:Int)(d:Nat)(p:Ps)(r:Ps×Nat):Prop:=
 ∃t,Fine ps.length t/\r.1.2=p.2++t.flat p.2.length/\r.2+1=p.2.length+t.size/\p.2.length+t.size<=256/\cs ts p.1+(t.wr ps n).length<=cs ts r.1.1/\t.dep n d<=32
def uC(ts:List bB)(ps:List BA)(n:Int)(d:Nat)(E:Ps->PM Nat):Prop:=∀p r,p.2.length<=256->E p= .inr r->Snd ts ps n d p r
theorem Snd.less{n m:Int}{d:Nat}{p:Ps}{r:Ps×Nat}(h:Snd ts ps n d p r)(c:m<=n):Snd ts ps m d p r:=by
 obtain⟨t,e,f,g,k,l,o⟩:=h
 have a:=qUs (ps:=ps) (t:=t) c
 have b:=qPz t c d
 exact⟨t,e,f,g,k,by omega,by omega⟩
theorem AJ{h:Hd}{d:Nat}{p:Ps}{j:Nat}{tok:bB}{r:Ps×Nat}(e:p.2.length<=256)(c:iE tok (h.1,h.2.1,h.2.2.1,h.2.2.2,[]) (j,p.2)= .inr r)(b:Fine ps.length (.mk h []))(k:dY h=4)(f:d<=32)(a:cs ts p.1+(iD ps h []).length<=cs ts j):Snd ts ps 4 d p r:=by
 obtain⟨q,i⟩:=r
 obtain⟨rfl,rfl,g⟩:=AI c
 have g:p.2.length≠256:=g
 refine⟨.mk h [],b,rfl,rfl,by show _+(0+1)<=_;omega,?_,?_⟩
 .simp only[Rose.wr,eF]
  rw[if_neg (by omega)]
  exact a
 simp only[Rose.dep,lX]
 rw[if_neg (by omega)]
 omega
end
end
end Go.Proofs.YthiiggmmmoolbaaGreatDoor
