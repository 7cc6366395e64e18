/- No condition but those of each theorem. -/
import Derived.Test.YtfbdkahdgbimeaaGreatDoorProg
import Derived.WalkKit
import Derived.Deep.LoopGhost
import Derived.KernelRfl
import Derived.OrdersHeld
import Derived.OrdersIn
import Derived.LoopNIn
import Derived.Sort.LoopGhostIn
import Derived.Laws.AppendOwn
import Derived.RangeFuncLeaves
import Derived.RangeFuncRecord
import Derived.MapKept
import Derived.Maps.RangeRun
import Derived.ChangeKeysEq
import Derived.HandedShaped
import Derived.ChangeStays
import Derived.ChangeSame
import Derived.OpenShut
import Derived.WideShapes
import Derived.JoinedOf
import Derived.ReadAgain
import Derived.ChangeAt
import Derived.RowKit
import Derived.Lib.Overlaps
import Derived.Shelf.SlSortCmp.NoneTotal
import Derived.WalkSmall
import Derived.Recover
import Derived.Lib.Bytealg
import Derived.Lib.ItoaNum
import Derived.Test.YtfbdkahdgbimeaaGreatDoorK4v1
namespace Go.Proofs.YtfbdkahdgbimeaaGreatDoor
section
open Go Go.Dc
section
variable {N:Nat} {ts:List Tok} {pr:List ByteArray} {E S:Ps→PM Nat} {d:Int}
variable {r r1 r2 r3 r4:RT→Int→Option (RT×Int)}
theorem zNo{L i:Nat}(h:opC ts L i≠0):(tkAt ts i).1=4:=by
 apply Decidable.byContradiction
 intro hk
 apply h
 unfold opC
 have:opsC.find? (isOp ts L i)=none:=by
  rw[List.find?_eq_none]
  intro o _ ho
  simp only[isOp,jN] at ho
  exact hk (zCx ho.1)
 rw[this]
theorem rmore{f:Int×RT→Option ((Int×RT)⊕(Int×RT))}{L:Nat}(hok:OkT ts)(hS:Adv ts S)
  (hSg:∀p:Ps,p.1<ts.length→p.2.length≤256→∃o,r (gR ts pr p) d=some o∧relR ts pr (S p) o)
  (hSb:∀(z:Flt) (i:Nat) (pr':List ByteArray) (b:List Ex),z.2≠0→i<ts.length→∃v,r (bR ts z i pr' b) d=some (bR ts z i pr' b,v))
  (hfb:∀(z:Flt) (i:Nat) (pr':List ByteArray) (b:List Ex) (v:Int),z.2≠0→f (v,bR ts z i pr' b)=some (.inr (v,bR ts z i pr' b)))
  {n M x:Nat} {p:Ps} (hp:p.1<ts.length) (hb:p.2.length≤256) (hM:0<M) (hL:L≠1) (hop:opC ts L p.1≠0)
  (ih:∀(x:Nat) (q:Ps),q.1<ts.length→p.1<q.1→q.2.length≤256→x<q.2.length→∃o,qAs f M ((x:Int),gR ts pr q)=some o∧relR ts pr (qUc ts L S n x q) (o.2,o.1)):
  ∃o,((r (gR ts pr (p.1+1,p.2)) d).bind fun y6=>(qAp N y6.1 (4,0,opC ts L p.1,⟨#[]⟩,[(x:Int),y6.2]) (tkAt ts p.1).2.2.2).bind fun y7=>qAs f M (y7.2,y7.1))=some o∧relR ts pr (qUc ts L S (n+1) x p) (o.2,o.1):=by
 have g:=hok.next hp (show(tkAt ts p.1).1≠5 by rw[zNo hop];decide)
 obtain⟨o,ho,hr⟩:=hSg (p.1+1,p.2) g hb
 obtain⟨M',rfl⟩:∃M',M=M'+1:=⟨M-1,by omega⟩
 have bad:∀(z:Flt) (i:Nat) (pr':List ByteArray) (b:List Ex) (v:Int),z.2≠0→qAs f (M'+1) (v,bR ts z i pr' b)=some (v,bR ts z i pr' b):=by
  intro z i pr' b v hz
  simp only[qAs,hfb z i pr' b v hz,jA]
 simp only[ho,jA,qUc]
 rw[if_neg hop]
 cases h:S (p.1+1,p.2) with
 |inl z=>
  rw[h] at hr
  obtain⟨hz,i,pr',b,hi,ho1⟩:=hr
  simp only[ho1,qCo]
  obtain⟨v,hv⟩:=zPa (N:=N) (ts:=ts) (pr:=pr') (b:=b) (i:=i) hz (4,0,opC ts L p.1,⟨#[]⟩,[(x:Int),o.2]) (tkAt ts p.1).2.2.2
  simp only[hv,jA,bad _ _ _ _ _ hz]
  exact⟨_,rfl,qOc hz hi⟩
 |inr q=>
  rw[h] at hr
  obtain⟨⟨f1,f2,f3,f4⟩,f5⟩:=hS (p.1+1,p.2) q.1 q.2 g hb h
  have hr':o=(gR ts pr q.1,(q.2:Int)):=hr
  simp only[hr',qCo]
  obtain⟨v,hv⟩:=zPf (N:=N) (ts:=ts) (pr:=pr) (tkAt ts p.1) (4,0,opC ts L p.1,⟨#[]⟩,[(x:Int),(q.2:Int)]) q.1 f4
  simp only[hv,jA]
  cases hn:qPe (tkAt ts p.1) (4,0,opC ts L p.1,⟨#[]⟩,[(x:Int),(q.2:Int)]) q.1 with
  |inl z=>
   simp only[bad _ _ _ _ _ (zIs hn)]
   exact⟨_,rfl,qOc (zIs hn) f2⟩
  |inr s=>
   obtain⟨⟨k1,k2,k3,k4⟩,k5⟩:=qQd (ts:=ts) (p:=p) (r:=q.1) (by simp only at f1;omega) f2 f3 f4 hn
   simp only[if_neg hL]
   exact ih s.2 s.1 k2 k1 k4 k5
theorem rstop{L n x:Nat}{p:Ps}(hop:opC ts L p.1=0):relR ts pr (qUc ts L S (n+1) x p) (gR ts pr p,(x:Int)):=by
 simp only[qUc]
 rw[if_pos hop]
 rfl
theorem zDn(z:Flt)(i:Nat)(pr':List ByteArray)(b:List Ex)(v:Int)(hz:z.2≠0):qCj N r d (v,bR ts z i pr' b)=some (.inr (v,bR ts z i pr' b)):=by
 have g0:((bR ts z i pr' b).2.2.2.1==0)=false:=by simpa[bR] using hz
 simp only[qCj,g0,jC,jH,Prod.eta]
theorem zIl(z:Flt)(i:Nat)(pr':List ByteArray)(b:List Ex)(v:Int)(hz:z.2≠0):qCs N r d (v,bR ts z i pr' b)=some (.inr (v,bR ts z i pr' b)):=by
 have g0:((bR ts z i pr' b).2.2.2.1==0)=false:=by simpa[bR] using hz
 simp only[qCs,g0,jC,jH,Prod.eta]
theorem zBo(hok:OkT ts)(hl:ts.length<1000000)(hS:Adv ts S)
  (hSg:∀p:Ps,p.1<ts.length→p.2.length≤256→∃o,r (gR ts pr p) d=some o∧relR ts pr (S p) o)
  (hSb:∀(z:Flt) (i:Nat) (pr':List ByteArray) (b:List Ex),z.2≠0→i<ts.length→∃v,r (bR ts z i pr' b) d=some (bR ts z i pr' b,v)):
  ∀(n M x:Nat) (p:Ps),p.1<ts.length→p.2.length≤256→x<p.2.length→ts.length<p.1+n→ts.length+1<p.1+M→
  ∃o,qAs (qCj N r d) M ((x:Int),gR ts pr p)=some o∧relR ts pr (qUc ts 3 S n x p) (o.2,o.1)
 |0,M,x,p,hp,_,_,h,_=>by omega
 |n+1,0,x,p,hp,_,_,_,h=>by omega
 |n+1,M+1,x,p,hp,hb,hx,hn,hM=>by
  have g0:((gR ts pr p).2.2.2.1==0)=true:=rfl
  have ih:∀(x:Nat) (q:Ps),q.1<ts.length→p.1<q.1→q.2.length≤256→x<q.2.length→∃o,qAs (qCj N r d) M ((x:Int),gR ts pr q)=some o∧relR ts pr (qUc ts 3 S n x q) (o.2,o.1):=
   fun x q h1 h2 h3 h4=>zBo hok hl hS hSg hSb n M x q h1 h3 h4 (by omega) (by omega)
  have go:=fun hop=>rmore (N:=N) (n:=n) (x:=x) hok hS hSg hSb (zDn (N:=N) (r:=r) (d:=d)) hp hb (show 0<M by omega) (show 3≠1 by decide) hop ih
  have h3:=op_3 (ts:=ts) (i:=p.1)
  rcases qEr (isC ts 4 ⟨#[42]⟩ p.1) with c1|c1
  ·simp only[c1,jI] at h3
   obtain⟨o,ho,hr⟩:=go (by rw[h3];decide)
   refine⟨o,Eq.trans ?_ ho,hr⟩
   simp only[qAs,qCj,Prod.eta,g0,jI,qKw p hp,qLt p hp hl,jA,c1,h3]
   cases r (gR ts pr (p.1+1,p.2)) d with
   |none=>rfl
   |some y=>simp only[jA];cases qAp N y.1 (4,0,3,⟨#[]⟩,[(x:Int),y.2]) (tkAt ts p.1).2.2.2<;>rfl
  rcases qEr (isC ts 4 ⟨#[47]⟩ p.1) with c2|c2
  ·simp only[c1,c2,jI,jC,jH] at h3
   obtain⟨o,ho,hr⟩:=go (by rw[h3];decide)
   refine⟨o,Eq.trans ?_ ho,hr⟩
   simp only[qAs,qCj,Prod.eta,g0,jI,qKw p hp,qLt p hp hl,jA,c1,c2,h3,jC,jH]
   cases r (gR ts pr (p.1+1,p.2)) d with
   |none=>rfl
   |some y=>simp only[jA];cases qAp N y.1 (4,0,4,⟨#[]⟩,[(x:Int),y.2]) (tkAt ts p.1).2.2.2<;>rfl
  rcases qEr (isC ts 4 ⟨#[37]⟩ p.1) with c3|c3
  ·simp only[c1,c2,c3,jI,jC,jH] at h3
   obtain⟨o,ho,hr⟩:=go (by rw[h3];decide)
   refine⟨o,Eq.trans ?_ ho,hr⟩
   simp only[qAs,qCj,Prod.eta,g0,jI,qKw p hp,qLt p hp hl,jA,c1,c2,c3,h3,jC,jH]
   cases r (gR ts pr (p.1+1,p.2)) d with
   |none=>rfl
   |some y=>simp only[jA];cases qAp N y.1 (4,0,5,⟨#[]⟩,[(x:Int),y.2]) (tkAt ts p.1).2.2.2<;>rfl
  simp only[c1,c2,c3,jC,jH] at h3
  simp only[qAs,qCj,Prod.eta,g0,jI,qKw p hp,qLt p hp hl,jA,c1,c2,c3,jC,jH]
  exact⟨_,rfl,rstop h3⟩
theorem zFq(hok:OkT ts)(hl:ts.length<1000000)(hS:Adv ts S)
  (hSg:∀p:Ps,p.1<ts.length→p.2.length≤256→∃o,r (gR ts pr p) d=some o∧relR ts pr (S p) o)
  (hSb:∀(z:Flt) (i:Nat) (pr':List ByteArray) (b:List Ex),z.2≠0→i<ts.length→∃v,r (bR ts z i pr' b) d=some (bR ts z i pr' b,v)):
  ∀(n M x:Nat) (p:Ps),p.1<ts.length→p.2.length≤256→x<p.2.length→ts.length<p.1+n→ts.length+1<p.1+M→
  ∃o,qAs (qCs N r d) M ((x:Int),gR ts pr p)=some o∧relR ts pr (qUc ts 2 S n x p) (o.2,o.1)
 |0,M,x,p,hp,_,_,h,_=>by omega
 |n+1,0,x,p,hp,_,_,_,h=>by omega
 |n+1,M+1,x,p,hp,hb,hx,hn,hM=>by
  have g0:((gR ts pr p).2.2.2.1==0)=true:=rfl
  have ih:∀(x:Nat) (q:Ps),q.1<ts.length→p.1<q.1→q.2.length≤256→x<q.2.length→∃o,qAs (qCs N r d) M ((x:Int),gR ts pr q)=some o∧relR ts pr (qUc ts 2 S n x q) (o.2,o.1):=
   fun x q h1 h2 h3 h4=>zFq hok hl hS hSg hSb n M x q h1 h3 h4 (by omega) (by omega)
  have go:=fun hop=>rmore (N:=N) (n:=n) (x:=x) hok hS hSg hSb (zIl (N:=N) (r:=r) (d:=d)) hp hb (show 0<M by omega) (show 2≠1 by decide) hop ih
  have h3:=op_2 (ts:=ts) (i:=p.1)
  rcases qEr (isC ts 4 ⟨#[43]⟩ p.1) with c1|c1
  ·simp only[c1,jI] at h3
   obtain⟨o,ho,hr⟩:=go (by rw[h3];decide)
   refine⟨o,Eq.trans ?_ ho,hr⟩
   simp only[qAs,qCs,Prod.eta,g0,jI,qKw p hp,qLt p hp hl,jA,c1,h3]
   cases r (gR ts pr (p.1+1,p.2)) d with
   |none=>rfl
   |some y=>simp only[jA];cases qAp N y.1 (4,0,1,⟨#[]⟩,[(x:Int),y.2]) (tkAt ts p.1).2.2.2<;>rfl
  rcases qEr (isC ts 4 ⟨#[45]⟩ p.1) with c2|c2
  ·simp only[c1,c2,jI,jC,jH] at h3
   obtain⟨o,ho,hr⟩:=go (by rw[h3];decide)
   refine⟨o,Eq.trans ?_ ho,hr⟩
   simp only[qAs,qCs,Prod.eta,g0,jI,qKw p hp,qLt p hp hl,jA,c1,c2,h3,jC,jH]
   cases r (gR ts pr (p.1+1,p.2)) d with
   |none=>rfl
   |some y=>simp only[jA];cases qAp N y.1 (4,0,2,⟨#[]⟩,[(x:Int),y.2]) (tkAt ts p.1).2.2.2<;>rfl
  simp only[c1,c2,jC,jH] at h3
  simp only[qAs,qCs,Prod.eta,g0,jI,qKw p hp,qLt p hp hl,jA,c1,c2,jC,jH]
  exact⟨_,rfl,rstop h3⟩
theorem rterm(hok:OkT ts)(hl:ts.length<1000000)(hN:1000002<N)(hS:Adv ts S)
  (h1:∀p:Ps,p.1<ts.length→p.2.length≤256→∃o,r1 (gR ts pr p) d=some o∧relR ts pr (S p) o)
  (h1b:∀(z:Flt) (i:Nat) (pr':List ByteArray) (b:List Ex),z.2≠0→i<ts.length→∃v,r1 (bR ts z i pr' b) d=some (bR ts z i pr' b,v))
  (p:Ps) (hp:p.1<ts.length) (hb:p.2.length≤256):∃o,qDv N r1 r2 r3 r4 (gR ts pr p) d=some o∧relR ts pr (qSp ts 3 S p) o:=by
 obtain⟨o,ho,hr⟩:=h1 p hp hb
 simp only[qDv,Prod.eta,ho,jA,qSp]
 cases h:S p with
 |inl z=>
  rw[h] at hr
  obtain⟨hz,i,pr',b,hi,ho1⟩:=hr
  obtain⟨M,rfl⟩:∃M,N=M+1:=⟨N-1,by omega⟩
  simp only[ho1,qCo,qAs,zDn z i pr' b _ hz,jA]
  exact⟨_,rfl,qOc hz hi⟩
 |inr q=>
  rw[h] at hr
  obtain⟨⟨f1,f2,f3,f4⟩,f5⟩:=hS p q.1 q.2 hp hb h
  have hr':o=(gR ts pr q.1,(q.2:Int)):=hr
  obtain⟨o2,ho2,hr2⟩:=zBo (N:=N) hok hl hS h1 h1b (ts.length+1) N q.2 q.1 f2 f4 f5 (by omega) (by omega)
  simp only[hr',qCo,ho2,jA]
  exact⟨_,rfl,hr2⟩
theorem zSz(h1b:∀(z:Flt) (i:Nat) (pr':List ByteArray) (b:List Ex),z.2≠0→i<ts.length→∃v,r1 (bR ts z i pr' b) d=some (bR ts z i pr' b,v))(hN:0<N)
  (z:Flt) (i:Nat) (pr':List ByteArray) (b:List Ex) (hz:z.2≠0) (hi:i<ts.length):∃v,qDv N r1 r2 r3 r4 (bR ts z i pr' b) d=some (bR ts z i pr' b,v):=by
 obtain⟨v,hv⟩:=h1b z i pr' b hz hi
 obtain⟨M,rfl⟩:∃M,N=M+1:=⟨N-1,by omega⟩
 simp only[qDv,Prod.eta,hv,jA,qAs,zDn z i pr' b _ hz]
 exact⟨_,rfl⟩
theorem rsum(hok:OkT ts)(hl:ts.length<1000000)(hN:1000002<N)(hS:Adv ts S)
  (h2:∀p:Ps,p.1<ts.length→p.2.length≤256→∃o,r2 (gR ts pr p) d=some o∧relR ts pr (S p) o)
  (h2b:∀(z:Flt) (i:Nat) (pr':List ByteArray) (b:List Ex),z.2≠0→i<ts.length→∃v,r2 (bR ts z i pr' b) d=some (bR ts z i pr' b,v))
  (p:Ps) (hp:p.1<ts.length) (hb:p.2.length≤256):∃o,qDz N r1 r2 r3 r4 (gR ts pr p) d=some o∧relR ts pr (qSp ts 2 S p) o:=by
 obtain⟨o,ho,hr⟩:=h2 p hp hb
 simp only[qDz,Prod.eta,ho,jA,qSp]
 cases h:S p with
 |inl z=>
  rw[h] at hr
  obtain⟨hz,i,pr',b,hi,ho1⟩:=hr
  obtain⟨M,rfl⟩:∃M,N=M+1:=⟨N-1,by omega⟩
  simp only[ho1,qCo,qAs,zIl z i pr' b _ hz,jA]
  exact⟨_,rfl,qOc hz hi⟩
 |inr q=>
  rw[h] at hr
  obtain⟨⟨f1,f2,f3,f4⟩,f5⟩:=hS p q.1 q.2 hp hb h
  have hr':o=(gR ts pr q.1,(q.2:Int)):=hr
  obtain⟨o2,ho2,hr2⟩:=zFq (N:=N) hok hl hS h2 h2b (ts.length+1) N q.2 q.1 f2 f4 f5 (by omega) (by omega)
  simp only[hr',qCo,ho2,jA]
  exact⟨_,rfl,hr2⟩
theorem rsum_b(h2b:∀(z:Flt) (i:Nat) (pr':List ByteArray) (b:List Ex),z.2≠0→i<ts.length→∃v,r2 (bR ts z i pr' b) d=some (bR ts z i pr' b,v))(hN:0<N)
  (z:Flt) (i:Nat) (pr':List ByteArray) (b:List Ex) (hz:z.2≠0) (hi:i<ts.length):∃v,qDz N r1 r2 r3 r4 (bR ts z i pr' b) d=some (bR ts z i pr' b,v):=by
 obtain⟨v,hv⟩:=h2b z i pr' b hz hi
 obtain⟨M,rfl⟩:∃M,N=M+1:=⟨N-1,by omega⟩
 simp only[qDz,Prod.eta,hv,jA,qAs,zIl z i pr' b _ hz]
 exact⟨_,rfl⟩
theorem zTi(z:Flt)(i:Nat)(pr':List ByteArray)(b:List Ex)(hz:z.2≠0)(hi:i<ts.length):qDb N r1 r2 r3 r4 (bR ts z i pr' b) d=some (bR ts z i pr' b,0):=by
 have g0:((bR ts z i pr' b).2.2.2.1 !=0)=true:=by simpa[bR] using hz
 simp only[qDb,Prod.eta,qQi hi,jA,qOa hz]
 have:((if decide (d>32)=true then some (bR ts z i pr' b) else some (bR ts z i pr' b)):Option RT)=some (bR ts z i pr' b):=by split<;>rfl
 simp only[this,jA,g0,jI]
theorem zTn(hd:d>32)(p:Ps)(hp:p.1<ts.length):∃o,qDb N r1 r2 r3 r4 (gR ts pr p) d=some o∧relR ts pr (qLm ts pr 0 p) o:=by
 have hd':decide (d>32)=true:=by simpa using hd
 simp only[qDb,Prod.eta,qKw p hp,jA,hd',jI,qLi]
 have g0:((bR ts ((tkAt ts p.1).2.2.2,2) p.1 pr p.2).2.2.2.1 !=0)=true:=by rfl
 simp only[g0,jI]
 exact⟨_,rfl,qOc (show(2:Int)≠0 by decide) hp⟩
theorem rexpr{k:Nat}(hok:OkT ts)(hl:ts.length<1000000)(hd:d+k=32)(hA:Adv ts (qLm ts pr k))(hS:Adv ts (sumC ts pr (qLm ts pr k)))
  (hEg:∀p:Ps,p.1<ts.length→p.2.length≤256→∃o,r4 (gR ts pr p) (IntKind.wrap .i64 (d+1))=some o∧relR ts pr (qLm ts pr k p) o)
  (hEb:∀(z:Flt) (i:Nat) (pr':List ByteArray) (b:List Ex),z.2≠0→i<ts.length→∃v,r4 (bR ts z i pr' b) (IntKind.wrap .i64 (d+1))=some (bR ts z i pr' b,v))
  (h3:∀p:Ps,p.1<ts.length→p.2.length≤256→∃o,r3 (gR ts pr p) d=some o∧relR ts pr (sumC ts pr (qLm ts pr k) p) o)
  (h3b:∀(z:Flt) (i:Nat) (pr':List ByteArray) (b:List Ex),z.2≠0→i<ts.length→∃v,r3 (bR ts z i pr' b) d=some (bR ts z i pr' b,v))
  (p:Ps) (hp:p.1<ts.length) (hb:p.2.length≤256):∃o,qDb N r1 r2 r3 r4 (gR ts pr p) d=some o∧relR ts pr (qLm ts pr (k+1) p) o:=by
 have hd':decide (d>32)=false:=jY (by omega)
 have g0:((gR ts pr p).2.2.2.1 !=0)=false:=rfl
 simp only[qDb,Prod.eta,qKw p hp,jA,hd',jC,jH,g0,qMs p hp hl,qLm]
 rcases qEr (isC ts 1 sIf p.1) with c1|c1
 rotate_left
 ·have c1':isC ts 1 ⟨#[105,102]⟩ p.1=false:=c1
  simp only[c1,c1',jC,jH]
  obtain⟨o,ho,hr⟩:=h3 p hp hb
  simp only[ho,jA,zDv,qSp]
  cases h:sumC ts pr (qLm ts pr k) p with
  |inl z=>
   rw[h] at hr
   obtain⟨hz,i,pr',b,hi,ho1⟩:=hr
   simp only[ho1,qQi hi,zDr hz,jA,jC,jH,qCo]
   exact⟨_,rfl,qOc hz hi⟩
  |inr q=>
   rw[h] at hr
   obtain⟨⟨f1,f2,f3,f4⟩,f5⟩:=hS p q.1 q.2 hp hb h
   have hr':o=(gR ts pr q.1,(q.2:Int)):=hr
   simp only[hr',qKw q.1 f2,qLt q.1 f2 hl,jA,qCo,qUc]
   have go:∀op,op≠0→opC ts 1 q.1.1=op→∃o,((r3 (gR ts pr (q.1.1+1,q.1.2)) d).bind fun y18=>(qAp N y18.1 (4,0,op,⟨#[]⟩,[(q.2:Int),y18.2]) (tkAt ts q.1.1).2.2.2).bind fun y19=>some y19)=some o∧
     relR ts pr (if opC ts 1 q.1.1=0 then .inr (q.1,q.2) else qCo (sumC ts pr (qLm ts pr k) (q.1.1+1,q.1.2)) fun a=>qCo (qPe (tkAt ts q.1.1) (4,0,opC ts 1 q.1.1,⟨#[]⟩,[(q.2:Int),(a.2:Int)]) a.1) fun r=> .inr r) o:=by
    intro op hne hop
    have g:=hok.next f2 (show(tkAt ts q.1.1).1≠5 by rw[zNo (L:=1) (by rw[hop];exact hne)];decide)
    obtain⟨o2,ho2,hr2⟩:=h3 (q.1.1+1,q.1.2) g f4
    rw[hop,if_neg hne]
    simp only[ho2,jA,obs]
    cases h2:sumC ts pr (qLm ts pr k) (q.1.1+1,q.1.2) with
    |inl z=>
     rw[h2] at hr2
     obtain⟨hz,i,pr',b,hi,ho1⟩:=hr2
     simp only[ho1,qCo]
     exact qUm hz hi _ _
    |inr a=>
     rw[h2] at hr2
     obtain⟨⟨j1,j2,j3,j4⟩,j5⟩:=hS (q.1.1+1,q.1.2) a.1 a.2 g f4 h2
     have hr2':o2=(gR ts pr a.1,(a.2:Int)):=hr2
     simp only[hr2',qCo]
     obtain⟨o3,ho3,hr3⟩:=qSd (N:=N) (pr:=pr) (tkAt ts q.1.1) (4,0,op,⟨#[]⟩,[(q.2:Int),(a.2:Int)]) a.1 j2 j4
     refine⟨o3,ho3,?_⟩
     cases hn:qPe (tkAt ts q.1.1) (4,0,op,⟨#[]⟩,[(q.2:Int),(a.2:Int)]) a.1<;>rw[hn] at hr3<;>exact hr3
   have h1:=op_1 (ts:=ts) (i:=q.1.1)
   rcases qEr (isC ts 4 ⟨#[60]⟩ q.1.1) with c2|c2
   ·simp only[c2,jI] at h1
    obtain⟨o4,ho4,hr4⟩:=go 6 (by decide) h1
    simp only[c2,jI,jA]
    exact⟨o4,ho4,by simpa only[qCo] using hr4⟩
   rcases qEr (isC ts 4 ⟨#[61,61]⟩ q.1.1) with c3|c3
   ·simp only[c2,c3,jI,jC,jH] at h1
    obtain⟨o4,ho4,hr4⟩:=go 7 (by decide) h1
    simp only[c2,c3,jI,jA,jC,jH,qLt q.1 f2 hl]
    exact⟨o4,ho4,by simpa only[qCo] using hr4⟩
   ·simp only[c2,c3,jC,jH] at h1
    simp only[c2,c3,jA,jC,jH,qLt q.1 f2 hl]
    rw[if_pos h1]
    exact⟨_,rfl,rfl⟩
 have c1':isC ts 1 ⟨#[105,102]⟩ p.1=true:=c1
 have g:=qHs hok hp (by decide) c1
 simp only[c1,c1',jI]
 -- behind an error
 have badN:∀{z:Flt} {i:Nat} {pr':List ByteArray} {b:List Ex} (x y w:Int),z.2≠0→i<ts.length→∃o,((qAp N (bR ts z i pr' b) (5,0,0,⟨#[]⟩,[x,y,w]) (tkAt ts p.1).2.2.2).bind fun y13=>some y13)=some o∧relR ts pr (.inl z) o:=by
  intro z i pr' b x y w hz hi
  simp only[obs]
  exact qUm hz hi _ _
 have nf:∀b:Bool,(if(!b)=true then(0:Nat) else 1)=if b=true then 1 else 0:=by intro b;cases b<;>rfl
 obtain⟨oa,hoa,hra⟩:=hEg (p.1+1,p.2) g hb
 simp only[hoa,jA]
 cases ha:qLm ts pr k (p.1+1,p.2) with
 |inl z=>
  rw[ha] at hra
  obtain⟨hz,i,pr',b,hi,ho1⟩:=hra
  obtain⟨v,hv⟩:=hEb z i pr' b hz hi
  simp only[ho1,zHq hz,jA,kJ,jI,qQi hi,qOa hz,hv,qCo]
  exact badN _ _ _ hz hi
 |inr a=>
  rw[ha] at hra
  obtain⟨⟨a1,a2,a3,a4⟩,a5⟩:=hA (p.1+1,p.2) a.1 a.2 g hb ha
  have hra':oa=(gR ts pr a.1,(a.2:Int)):=hra
  have hth:zFd ts zUj a.1.1=if isC ts 1 ⟨#[116,104,101,110]⟩ a.1.1=true then .inr (a.1.1+1) else qIf (tkAt ts a.1.1) 9:=rfl
  simp only[hra',qMs a.1 a2 hl,jA,qCo,hth]
  rcases qEr (isC ts 1 ⟨#[116,104,101,110]⟩ a.1.1) with c2|c2
  rotate_left
  ·have hz:(((tkAt ts a.1.1).2.2.2,(9:Int)):Flt).2≠0:=show(9:Int)≠0 by decide
   obtain⟨v,hv⟩:=hEb ((tkAt ts a.1.1).2.2.2,9) a.1.1 pr a.1.2 hz a2
   simp only[c2,jC,jH,kJ,jI,qKw a.1 a2,qLi,jA,hv,zHq hz,qQi a2,qOa hz,qIf]
   exact badN _ _ _ hz a2
  have g1:=qHs hok a2 (by decide) c2
  obtain⟨ob,hob,hrb⟩:=hEg (a.1.1+1,a.1.2) g1 a4
  simp only[c2,jI,kM,jC,jH,jA,hob]
  cases hb1:qLm ts pr k (a.1.1+1,a.1.2) with
  |inl z=>
   rw[hb1] at hrb
   obtain⟨hz,i,pr',b,hi,ho1⟩:=hrb
   obtain⟨v,hv⟩:=hEb z i pr' b hz hi
   simp only[ho1,zHq hz,jA,kJ,jI,qQi hi,qOa hz,hv]
   exact badN _ _ _ hz hi
  |inr b=>
   rw[hb1] at hrb
   obtain⟨⟨b1,b2,b3,b4⟩,b5⟩:=hA (a.1.1+1,a.1.2) b.1 b.2 g1 a4 hb1
   have hrb':ob=(gR ts pr b.1,(b.2:Int)):=hrb
   have hel:zFd ts zUk b.1.1=if isC ts 1 ⟨#[101,108,115,101]⟩ b.1.1=true then .inr (b.1.1+1) else qIf (tkAt ts b.1.1) 9:=rfl
   simp only[hrb',qMs b.1 b2 hl,jA,hel]
   rcases qEr (isC ts 1 ⟨#[101,108,115,101]⟩ b.1.1) with c3|c3
   rotate_left
   ·have hz:(((tkAt ts b.1.1).2.2.2,(9:Int)):Flt).2≠0:=show(9:Int)≠0 by decide
    obtain⟨v,hv⟩:=hEb ((tkAt ts b.1.1).2.2.2,9) b.1.1 pr b.1.2 hz b2
    simp only[c3,jC,jH,kJ,jI,qKw b.1 b2,qLi,jA,hv,qIf]
    exact badN _ _ _ hz b2
   have g2:=qHs hok b2 (by decide) c3
   obtain⟨oc,hoc,hrc⟩:=hEg (b.1.1+1,b.1.2) g2 b4
   simp only[c3,jI,kM,jC,jH,jA,hoc]
   cases hc1:qLm ts pr k (b.1.1+1,b.1.2) with
   |inl z=>
    rw[hc1] at hrc
    obtain⟨hz,i,pr',b',hi,ho1⟩:=hrc
    simp only[ho1]
    exact badN _ _ _ hz hi
   |inr c=>
    rw[hc1] at hrc
    obtain⟨⟨c1,c2,c3,c4⟩,c5⟩:=hA (b.1.1+1,b.1.2) c.1 c.2 g2 b4 hc1
    have hrc':oc=(gR ts pr c.1,(c.2:Int)):=hrc
    simp only[hrc',obs]
    exact qSd (N:=N) (pr:=pr) (tkAt ts p.1) (5,0,0,⟨#[]⟩,[(a.2:Int),(b.2:Int),(c.2:Int)]) c.1 c2 c4
end
end
section
open Go Go.Dc
section
variable {N:Nat} {ts:List Tok} {pr:List ByteArray}
theorem zDw(D:Nat)(hD:1≤D)(d:Int)(z:Flt)(i:Nat)(pr':List ByteArray)(b:List Ex)(hz:z.2≠0)(hi:i<ts.length):∃v,(qAh N D).2.2.2 (bR ts z i pr' b) d=some (bR ts z i pr' b,v):=by
 obtain⟨D',rfl⟩:∃D',D=D'+1:=⟨D-1,by omega⟩
 simp only[qAh]
 exact⟨_,zTi z i pr' b hz hi⟩
theorem zBy(D:Nat)(hD:1≤D)(d:Int)(z:Flt)(i:Nat)(pr':List ByteArray)(b:List Ex)(hz:z.2≠0)(hi:i<ts.length):∃v,(qAh N D).1 (bR ts z i pr' b) d=some (bR ts z i pr' b,v):=by
 obtain⟨D',rfl⟩:∃D',D=D'+1:=⟨D-1,by omega⟩
 simp only[qAh]
 exact⟨_,zMp hz hi⟩
theorem zKs(hN:0<N)(D:Nat)(hD:2≤D)(d:Int)(z:Flt)(i:Nat)(pr':List ByteArray)(b:List Ex)(hz:z.2≠0)(hi:i<ts.length):∃v,(qAh N D).2.1 (bR ts z i pr' b) d=some (bR ts z i pr' b,v):=by
 obtain⟨D',rfl⟩:∃D',D=D'+1:=⟨D-1,by omega⟩
 simp only[qAh]
 exact zSz (fun z i pr' b hz hi=>zBy D' (by omega) d z i pr' b hz hi) hN z i pr' b hz hi
theorem zTs(hN:0<N)(D:Nat)(hD:3≤D)(d:Int)(z:Flt)(i:Nat)(pr':List ByteArray)(b:List Ex)(hz:z.2≠0)(hi:i<ts.length):∃v,(qAh N D).2.2.1 (bR ts z i pr' b) d=some (bR ts z i pr' b,v):=by
 obtain⟨D',rfl⟩:∃D',D=D'+1:=⟨D-1,by omega⟩
 simp only[qAh]
 exact rsum_b (fun z i pr' b hz hi=>zKs hN D' (by omega) d z i pr' b hz hi) hN z i pr' b hz hi
theorem zNz(hok:OkT ts)(hl:ts.length<1000000)(hpr:pr.length<1000)(hN:1000002<N):∀(k D:Nat),k≤32→4*k+1≤D→∀p:Ps,p.1<ts.length→p.2.length≤256→
  ∃o,(qAh N D).2.2.2 (gR ts pr p) (33-(k:Int))=some o∧relR ts pr (qLm ts pr k p) o
 |0,0,_,h,_,_,_=>by omega
 |0,D+1,_,_,p,hp,_=>by simp only[qAh];exact zTn (by omega) p hp
 |k+1,D,hk,hD,p,hp,hb=>by
  have hA:=qOn (ts:=ts) (params:=pr) hok k
  have hF:=zAv (params:=pr) hok hA
  have hT:Adv ts (zSa ts pr (qLm ts pr k)):=qQw hok hF
  have hS:Adv ts (sumC ts pr (qLm ts pr k)):=qQw hok hT
  have hE:∀D,4*k+1≤D→∀p:Ps,p.1<ts.length→p.2.length≤256→∃o,(qAh N D).2.2.2 (gR ts pr p) (IntKind.wrap .i64 (32-(k:Int)+1))=some o∧relR ts pr (qLm ts pr k p) o:=by
   intro D hD p hp hb
   rw[wi64 (by omega) (by omega),show 32-(k:Int)+1=33-(k:Int) by omega]
   exact zNz hok hl hpr hN k D (by omega) hD p hp hb
  have h1:∀D,4*k+2≤D→∀p:Ps,p.1<ts.length→p.2.length≤256→∃o,(qAh N D).1 (gR ts pr p) (32-(k:Int))=some o∧relR ts pr (qSb ts pr (qLm ts pr k) p) o:=by
   intro D hD p hp hb
   obtain⟨D',rfl⟩:∃D',D=D'+1:=⟨D-1,by omega⟩
   simp only[qAh]
   exact zUo (hE D' (by omega)) (fun z i pr' b hz hi=>zDw D' (by omega) _ z i pr' b hz hi) hok hl hpr hN hA p hp hb
  have h2:∀D,4*k+3≤D→∀p:Ps,p.1<ts.length→p.2.length≤256→∃o,(qAh N D).2.1 (gR ts pr p) (32-(k:Int))=some o∧relR ts pr (zSa ts pr (qLm ts pr k) p) o:=by
   intro D hD p hp hb
   obtain⟨D',rfl⟩:∃D',D=D'+1:=⟨D-1,by omega⟩
   simp only[qAh]
   exact rterm hok hl hN hF (h1 D' (by omega)) (fun z i pr' b hz hi=>zBy D' (by omega) _ z i pr' b hz hi) p hp hb
  have h3:∀D,4*k+4≤D→∀p:Ps,p.1<ts.length→p.2.length≤256→∃o,(qAh N D).2.2.1 (gR ts pr p) (32-(k:Int))=some o∧relR ts pr (sumC ts pr (qLm ts pr k) p) o:=by
   intro D hD p hp hb
   obtain⟨D',rfl⟩:∃D',D=D'+1:=⟨D-1,by omega⟩
   simp only[qAh]
   exact rsum hok hl hN hT (h2 D' (by omega)) (fun z i pr' b hz hi=>zKs (by omega) D' (by omega) _ z i pr' b hz hi) p hp hb
  obtain⟨D',rfl⟩:∃D',D=D'+1:=⟨D-1,by omega⟩
  rw[show(33:Int)-((k+1:Nat):Int)=32-(k:Int) by omega]
  simp only[qAh]
  exact rexpr hok hl (by omega) hA hS (hE D' (by omega)) (fun z i pr' b hz hi=>zDw D' (by omega) _ z i pr' b hz hi) (h3 D' (by omega)) (fun z i pr' b hz hi=>zTs (by omega) D' (by omega) _ z i pr' b hz hi) p hp hb
theorem zQk(hok:OkT ts)(hl:ts.length<1000000)(hpr:pr.length<1000)(hN:1000002<N)(p:Ps)(hp:p.1<ts.length)(hb:p.2.length≤256):
 ∃o,qDp N (gR ts pr p) 1=some o∧relR ts pr (qLm ts pr 32 p) o:=zNz hok hl hpr hN 32 N (by omega) (by omega) p hp hb
theorem zAb(hN:1≤N)(z:Flt)(i:Nat)(pr':List ByteArray)(b:List Ex)(hz:z.2≠0)(hi:i<ts.length):∃v,qDp N (bR ts z i pr' b) 1=some (bR ts z i pr' b,v):=zDw N hN 1 z i pr' b hz hi
abbrev RL:=List Tok×Int×Int×Int×List ByteArray×List Ex×List Int×List ByteArray
def addL(st:RT)(l:List ByteArray):RL:=(st.1,st.2.1,st.2.2.1,st.2.2.2.1,st.2.2.2.2.1,st.2.2.2.2.2.1,st.2.2.2.2.2.2,l)
def zFy(ts:List Tok)(n:Nat)(l:List ByteArray)(i:Nat):Flt⊕(Nat×List ByteArray):=
 if isC ts 4 qQx i then qUe ts n l (i+1) else qCo (qHr ts qLe i) fun j=> .inr (j,l)
theorem zMa(n:Nat)(l:List ByteArray)(i:Nat):qUe ts (n+1) l i=qCo (qRo ts i) fun a=>if l.length=8 then qIf a.2 2 else if a.2.2.1∈l then qIf a.2 10 else zFy ts n (l++[a.2.2.1]) a.1:=rfl
def relP(ts:List Tok)(pr:List ByteArray)(b:List Ex)(r:Flt⊕(Nat×List ByteArray))(o:RL):Prop:=
 match r with
 | .inl z=>∃st l,Bad ts z st∧o=addL st l
 | .inr q=>o=addL (gR ts pr (q.1,b)) q.2
theorem qPo{z:Flt}{i:Nat}{pr':List ByteArray}{b:List Ex}(hz:z.2≠0)(M:Nat)(l:List ByteArray):qAs (qBi N) (M+1) (addL (bR ts z i pr' b) l)=some (addL (bR ts z i pr' b) l):=by
 have hz':((addL (bR ts z i pr' b) l).2.2.2.1==0)=false:=by simpa[bR,addL] using hz
 simp only[qAs,qBi,hz',jC,jH,jA]
theorem zCg(hl:ts.length<1000000)(hN:1000002<N){i:Nat}{b:List Ex}{l:List ByteArray}(hi:i<ts.length)(hl8:l.length≤8){G:RL→Option RL}{n:Nat}
  (hbad:∀(z:Flt) (i:Nat) (pr':List ByteArray) (b:List Ex) (l:List ByteArray),z.2≠0→G (addL (bR ts z i pr' b) l)=some (addL (bR ts z i pr' b) l))
  (hok:OkT ts)
  (ih:∀(s:ByteArray),i+1<ts.length→l.length<8→∃o,G (addL (gR ts pr (i+1,b)) (l++[s]))=some o∧relP ts pr b (zFy ts n (l++[s]) (i+1)) o):
  ∃o,((qAk N (gR ts pr (i,b))).bind fun y15=>(qBm N y15.1).bind fun y16=>(if((l.length:Int)==8)=true then((qAl N y16.1 y15.2.2.2.2 2).bind fun y17=>some y17) else(some y16.1):Option RT).bind fun o10=>(qDf N l y16.2).bind fun y18=>(if y18=true then((qAl N o10 y15.2.2.2.2 10).bind fun y19=>some y19) else(some o10):Option RT).bind fun o11=>(qEb 16 l ([y16.2])).bind fun l1=>G (addL o11 l1))=some o∧
   relP ts pr b (qUe ts (n+1) l i) o:=by
 rw[zMa]
 simp only[qKw (i,b) hi,jA,qXc (i,b) hi hl (by omega:100<N),obs]
 have happ:∀s:ByteArray,qEb 16 l [s]=some (l++[s]):=fun s=>qCr (by simp only[jD,jE];omega) (by omega)
 have hhas:∀s,qDf N l s=some (decide (s∈l)):=fun s=>rhas (by omega) (by omega)
 -- behind an error
 have hb2:∀(z:Flt) (i:Nat) (pr':List ByteArray) (b':List Ex) (s:ByteArray) (a:Int),z.2≠0→i<ts.length→∃o,((qDf N l s).bind fun y18=>(if y18=true then qAl N (bR ts z i pr' b') a 10 else(some (bR ts z i pr' b')):Option RT).bind fun o11=>(qEb 16 l ([s])).bind fun l1=>G (addL o11 l1))=some o∧relP ts pr b (.inl z) o:=by
  intro z i pr' b' s a hz hi
  simp only[hhas,jA,qOa hz]
  have:((if decide (s∈l)=true then some (bR ts z i pr' b') else some (bR ts z i pr' b')):Option RT)=some (bR ts z i pr' b'):=by split<;>rfl
  simp only[this,jA,happ,hbad _ _ _ _ _ hz]
  exact⟨_,rfl,bR ts z i pr' b',_,⟨hz,i,pr',b',hi,rfl⟩,rfl⟩
 cases hx:qRo ts i with
 |inl z=>
  have hz:=zCy hx
  have:((if((l.length:Int)==8)=true then qAl N (bR ts z i pr b) (tkAt ts i).2.2.2 2 else some (bR ts z i pr b)):Option RT)=some (bR ts z i pr b):=by
   rw[qOa hz];split<;>rfl
  simp only[this,jA,qCo]
  exact hb2 z i pr b _ _ hz hi
 |inr x=>
  obtain⟨rfl,g1,-⟩:=qPf hok hi hx
  simp only[qCo]
  by_cases k1:l.length=8
  ·have k1':((l.length:Int)==8)=true:=by simp;omega
   rw[if_pos k1]
   simp only[k1',jI,qLi,jA,qIf]
   exact hb2 _ _ _ _ _ _ (show(2:Int)≠0 by decide) g1
  have k1':((l.length:Int)==8)=false:=by simp;omega
  rw[if_neg k1]
  simp only[k1',jC,jH,jA,hhas]
  by_cases k2:(tkAt ts i).2.1∈l
  ·rw[if_pos k2]
   simp only[kG k2,jI,qLi,jA,happ,qIf]
   refine⟨_,hbad _ _ _ _ _ (show(10:Int)≠0 by decide),bR ts ((tkAt ts i).2.2.2,10) (i+1) pr b,_,⟨show(10:Int)≠0 by decide,i+1,pr,b,g1,rfl⟩,rfl⟩
  ·rw[if_neg k2]
   simp only[jY k2,jC,jH,jA,happ]
   exact ih _ g1 (by omega)
theorem zIx(hN:1000002<N){b:List Ex}{l:List ByteArray}(hl8:l.length≤8){G:RL→Option RL}
  (hbad:∀(z:Flt) (i:Nat) (pr':List ByteArray) (b:List Ex) (l:List ByteArray),z.2≠0→G (addL (bR ts z i pr' b) l)=some (addL (bR ts z i pr' b) l))
  {z:Flt} {i:Nat} {pr':List ByteArray} {b':List Ex} (hz:z.2≠0) (hi:i<ts.length):
  ∃o,((qAk N (bR ts z i pr' b')).bind fun y15=>(qBm N y15.1).bind fun y16=>(if((l.length:Int)==8)=true then((qAl N y16.1 y15.2.2.2.2 2).bind fun y17=>some y17) else(some y16.1):Option RT).bind fun o10=>(qDf N l y16.2).bind fun y18=>(if y18=true then((qAl N o10 y15.2.2.2.2 10).bind fun y19=>some y19) else(some o10):Option RT).bind fun o11=>(qEb 16 l ([y16.2])).bind fun l1=>G (addL o11 l1))=some o∧
   relP ts pr b (.inl z) o:=by
 have happ:∀s:ByteArray,qEb 16 l [s]=some (l++[s]):=fun s=>qCr (by simp only[jD,jE];omega) (by omega)
 have hhas:∀s,qDf N l s=some (decide (s∈l)):=fun s=>rhas (by omega) (by omega)
 have e3:((if((l.length:Int)==8)=true then some (bR ts z i pr' b') else some (bR ts z i pr' b')):Option RT)=some (bR ts z i pr' b'):=by split<;>rfl
 have e4:((if decide ((⟨#[]⟩:ByteArray)∈l)=true then some (bR ts z i pr' b') else some (bR ts z i pr' b')):Option RT)=some (bR ts z i pr' b'):=by split<;>rfl
 simp only[qQi hi,jA,zDa hz hi,obs,qOa hz,e3,hhas,e4,happ,hbad _ _ _ _ _ hz]
 exact⟨_,rfl,bR ts z i pr' b',_,⟨hz,i,pr',b',hi,rfl⟩,rfl⟩
theorem qXq(hok:OkT ts)(hl:ts.length<1000000)(hN:1000002<N){b:List Ex}:∀(n M:Nat) (l:List ByteArray) (i:Nat),l≠[]→i<ts.length→l.length≤8→ts.length<i+n→ts.length+2<i+M→
  ∃o,qAs (qBi N) M (addL (gR ts pr (i,b)) l)=some o∧relP ts pr b (zFy ts n l i) o
 |0,M,l,i,_,hi,_,h,_=>by omega
 |n+1,0,l,i,_,hi,_,_,h=>by omega
 |n+1,M+1,l,i,hne,hi,hl8,hn,hM=>by
  have hs:=qLt (N:=N) (pr:=pr) (i,b) hi hl ⟨#[41]⟩
  have hpos:decide ((l.length:Int)>0)=true:=by
   have:=gZ.2 hne
   exact kG (by omega)
  have g0:((addL (gR ts pr (i,b)) l).2.2.2.1==0)=true:=rfl
  have e1:∀st:RT,∀l,((addL st l).1,(addL st l).2.1,(addL st l).2.2.1,(addL st l).2.2.2.1,(addL st l).2.2.2.2.1,(addL st l).2.2.2.2.2.1,(addL st l).2.2.2.2.2.2.1)=st:=fun _ _=>rfl
  have e2:∀st:RT,∀l,(addL st l).2.2.2.2.2.2.2=l:=fun _ _=>rfl
  simp only[qAs,qBi,g0,jI,e1,e2,hs,jA,hpos]
  rcases qEr (isC ts 4 ⟨#[41]⟩ i) with c1|c1
  ·simp only[c1,jI,kM,jC,jH]
   refine⟨_,rfl,?_⟩
   have c2:isC ts 4 qQx i=false:=by
    simp only[isC,jN,jB] at c1
    simp[isC,c1.2,qQx]
   have c3:qHr ts qLe i= .inr (i+1):=by simp[qHr,qLe,c1]
   simp only[zFy,c2,jC,jH,c3,qCo]
   rfl
  ·have hcc:isC ts 4 qQx i=isC ts 4 ⟨#[44]⟩ i:=rfl
   simp only[c1,jC,jH,kJ,jI,Prod.eta,qNv (i,b) hi hl,jA,zFy,hcc,qHr]
   rcases qEr (isC ts 4 ⟨#[44]⟩ i) with c2|c2
   ·have g:=qHs hok hi (by decide) c2
    simp only[c2,jI]
    obtain⟨o,ho,hr⟩:=zCg (N:=N) (pr:=pr) (b:=b) (l:=l) (n:=n) (G:=qAs (qBi N) M) hl hN g hl8 (fun z i pr' b l hz=>by
     obtain⟨M',rfl⟩:∃M',M=M'+1:=⟨M-1,by omega⟩
     exact qPo hz M' l) hok (fun s g2 g3=>qXq hok hl hN n M (l++[s]) (i+1+1) (by simp) g2 (by simp only[jF,jD,jE];omega) (by omega) (by omega))
    refine⟨o,Eq.trans ?_ ho,hr⟩
    simp only[gY,jA]
    rfl
   ·have c1':isC ts 4 qLe i=false:=c1
    simp only[c2,c1',jC,jH,qIf,qCo]
    obtain⟨o,ho,hr⟩:=zIx (N:=N) (pr:=pr) (b:=b) (l:=l) (z:=((tkAt ts i).2.2.2,9)) (i:=i) (pr':=pr) (b':=b) (G:=qAs (qBi N) M) hN hl8 (fun z i pr' b l hz=>by
     obtain⟨M',rfl⟩:∃M',M=M'+1:=⟨M-1,by omega⟩
     exact qPo hz M' l) (show(9:Int)≠0 by decide) hi
    refine⟨o,Eq.trans ?_ ho,hr⟩
    simp only[gY,jA]
    rfl
theorem zTq(hok:OkT ts)(hl:ts.length<1000000)(hN:1000005<N){b:List Ex}(i:Nat)(hi:i<ts.length):
  ∃o,qAs (qBi N) N (addL (gR ts pr (i,b)) [])=some o∧relP ts pr b (if isC ts 4 qLe i then .inr (i+1,[]) else qUe ts (ts.length+1) [] i) o:=by
 obtain⟨M,hM⟩:∃M,N=M+1:=⟨N-1,by omega⟩
 have hs:=qLt (N:=N) (pr:=pr) (i,b) hi hl ⟨#[41]⟩
 have g0:((addL (gR ts pr (i,b)) []).2.2.2.1==0)=true:=rfl
 have hnil:decide ((([]:List ByteArray).length:Int)>0)=false:=rfl
 have e1:∀st:RT,∀l,((addL st l).1,(addL st l).2.1,(addL st l).2.2.1,(addL st l).2.2.2.1,(addL st l).2.2.2.2.1,(addL st l).2.2.2.2.2.1,(addL st l).2.2.2.2.2.2.1)=st:=fun _ _=>rfl
 have e2:∀st:RT,∀l,(addL st l).2.2.2.2.2.2.2=l:=fun _ _=>rfl
 have e0:qAs (qBi N) N (addL (gR ts pr (i,b)) [])=qAs (qBi N) (M+1) (addL (gR ts pr (i,b)) []):=by rw[←hM]
 rw[e0]
 simp only[qAs,qBi,g0,jI,e1,e2,hs,jA,hnil,qLe]
 rcases qEr (isC ts 4 ⟨#[41]⟩ i) with c1|c1
 ·simp only[c1,jI,kM,jC,jH]
  exact⟨_,rfl,rfl⟩
 ·simp only[c1,jC,jH,kJ,jI,Prod.eta,jA]
  obtain⟨o,ho,hr⟩:=zCg (N:=N) (pr:=pr) (b:=b) (l:=[]) (n:=ts.length) (G:=qAs (qBi N) M) hl (by omega) hi (by simp) (fun z i pr' b l hz=>by
   obtain⟨M',rfl⟩:∃M',M=M'+1:=⟨M-1,by omega⟩
   exact qPo hz M' l) hok (fun s g2 g3=>qXq hok hl (by omega) ts.length M ([]++[s]) (i+1) (by simp) g2 (by simp) (by omega) (by omega))
  refine⟨o,Eq.trans ?_ ho,hr⟩
  simp only[gY,jA]
  rfl
end
end
section
open Go Go.Dc
section
variable {N:Nat} {ts:List Tok} {pr:List ByteArray}
def relD(ts:List Tok)(r:Flt⊕(Nat×Dl))(o:RT×Dl):Prop:=
 match r with
 | .inl z=>Bad ts z o.1
 | .inr a=>o=(gR ts a.2.2.2.1 (a.1,a.2.2.2.2),a.2)
def qQp(N:Nat)(st:RT)(k:Int)(nm:ByteArray):Option (RT×Dl):=
 ((if(k==1)=true then((qAi N st (⟨#[40]⟩:ByteArray)).bind fun y12=>qAs (qBi N) N (addL y12 [])) else(some (addL st [])):Option RL)).bind fun o6=>
 (qAi N (o6.1,o6.2.1,o6.2.2.1,o6.2.2.2.1,o6.2.2.2.2.2.2.2,o6.2.2.2.2.2.1,o6.2.2.2.2.2.2.1) (⟨#[61]⟩:ByteArray)).bind fun y20=>
 (qDp N y20 1).bind fun y21=>(qAi N y21.1 (⟨#[59]⟩:ByteArray)).bind fun y22=>some (y22,(k,nm,o6.2.2.2.2.2.2.2,y22.2.2.2.2.2.1))
theorem zAj(hN:1000005<N){z:Flt}{i:Nat}{b:List Ex}(hz:z.2≠0)(hi:i<ts.length)(k:Int)(nm:ByteArray):∃o,qQp N (bR ts z i pr b) k nm=some o∧Bad ts z o.1:=by
 have tail:∀(i:Nat) (pr:List ByteArray) (b:List Ex) (l:List ByteArray),i<ts.length→∃o,((qAi N ((addL (bR ts z i pr b) l).1,(addL (bR ts z i pr b) l).2.1,(addL (bR ts z i pr b) l).2.2.1,(addL (bR ts z i pr b) l).2.2.2.1,(addL (bR ts z i pr b) l).2.2.2.2.2.2.2,(addL (bR ts z i pr b) l).2.2.2.2.2.1,(addL (bR ts z i pr b) l).2.2.2.2.2.2.1) (⟨#[61]⟩:ByteArray)).bind fun y20=>
   (qDp N y20 1).bind fun y21=>(qAi N y21.1 (⟨#[59]⟩:ByteArray)).bind fun y22=>some (y22,(k,nm,(addL (bR ts z i pr b) l).2.2.2.2.2.2.2,y22.2.2.2.2.2.1)))=some o∧Bad ts z o.1:=by
  intro i pr b l hi
  have e:((addL (bR ts z i pr b) l).1,(addL (bR ts z i pr b) l).2.1,(addL (bR ts z i pr b) l).2.2.1,(addL (bR ts z i pr b) l).2.2.2.1,(addL (bR ts z i pr b) l).2.2.2.2.2.2.2,(addL (bR ts z i pr b) l).2.2.2.2.2.1,(addL (bR ts z i pr b) l).2.2.2.2.2.2.1)=bR ts z i l b:=rfl
  obtain⟨v,hv⟩:=zAb (N:=N) (by omega) z i l b hz hi
  simp only[e,qNj hz hi,jA,hv]
  exact⟨_,rfl,hz,i,l,b,hi,rfl⟩
 obtain⟨M,hM⟩:∃M,N=M+1:=⟨N-1,by omega⟩
 have hb:qAs (qBi N) N (addL (bR ts z i pr b) [])=some (addL (bR ts z i pr b) []):=by
  have e0:qAs (qBi N) N (addL (bR ts z i pr b) [])=qAs (qBi N) (M+1) (addL (bR ts z i pr b) []):=by rw[←hM]
  rw[e0];exact qPo hz M []
 unfold qQp
 rcases qEr (k==1) with c|c
 ·simp only[c,jI,qNj hz hi,jA,hb]
  exact tail i pr b [] hi
 ·simp only[c,jC,jH,jA]
  exact tail i pr b [] hi
theorem zPy(hok:OkT ts)(hl:ts.length<1000000)(hN:1000005<N)(i:Nat)(hi:i<ts.length)(k:Int)(nm:ByteArray):∃o,qQp N (gR ts pr (i,[])) k nm=some o∧
  relD ts (qCo (if k=1 then qMp ts i else .inr (i,[])) fun bq=>qCo (qHr ts sEq bq.1) fun j=>qCo (qLm ts bq.2 32 (j,[])) fun c=>qCo (qHr ts zAa c.1.1) fun m=> .inr (m,(k,nm,bq.2,c.1.2))) o:=by
 have badt:∀(z:Flt) (st:RT) (l:List ByteArray),Bad ts z st→∃o,((qAi N ((addL st l).1,(addL st l).2.1,(addL st l).2.2.1,(addL st l).2.2.2.1,(addL st l).2.2.2.2.2.2.2,(addL st l).2.2.2.2.2.1,(addL st l).2.2.2.2.2.2.1) (⟨#[61]⟩:ByteArray)).bind fun y20=>
   (qDp N y20 1).bind fun y21=>(qAi N y21.1 (⟨#[59]⟩:ByteArray)).bind fun y22=>some (y22,(k,nm,(addL st l).2.2.2.2.2.2.2,y22.2.2.2.2.2.1)))=some o∧Bad ts z o.1:=by
  rintro z st l ⟨hz,i,pr,b,hi,rfl⟩
  have e:((addL (bR ts z i pr b) l).1,(addL (bR ts z i pr b) l).2.1,(addL (bR ts z i pr b) l).2.2.1,(addL (bR ts z i pr b) l).2.2.2.1,(addL (bR ts z i pr b) l).2.2.2.2.2.2.2,(addL (bR ts z i pr b) l).2.2.2.2.2.1,(addL (bR ts z i pr b) l).2.2.2.2.2.2.1)=bR ts z i l b:=rfl
  obtain⟨v,hv⟩:=zAb (N:=N) (by omega) z i l b hz hi
  simp only[e,qNj hz hi,jA,hv]
  exact⟨_,rfl,hz,i,l,b,hi,rfl⟩
 have goodt:∀(q:Nat×List ByteArray),q.1<ts.length→q.2.length≤8→∃o,((qAi N ((addL (gR ts pr (q.1,[])) q.2).1,(addL (gR ts pr (q.1,[])) q.2).2.1,(addL (gR ts pr (q.1,[])) q.2).2.2.1,(addL (gR ts pr (q.1,[])) q.2).2.2.2.1,(addL (gR ts pr (q.1,[])) q.2).2.2.2.2.2.2.2,(addL (gR ts pr (q.1,[])) q.2).2.2.2.2.2.1,(addL (gR ts pr (q.1,[])) q.2).2.2.2.2.2.2.1) (⟨#[61]⟩:ByteArray)).bind fun y20=>
   (qDp N y20 1).bind fun y21=>(qAi N y21.1 (⟨#[59]⟩:ByteArray)).bind fun y22=>some (y22,(k,nm,(addL (gR ts pr (q.1,[])) q.2).2.2.2.2.2.2.2,y22.2.2.2.2.2.1)))=some o∧
   relD ts (qCo (qHr ts sEq q.1) fun j=>qCo (qLm ts q.2 32 (j,[])) fun c=>qCo (qHr ts zAa c.1.1) fun m=> .inr (m,(k,nm,q.2,c.1.2))) o:=by
  intro q hq hq8
  have e:((addL (gR ts pr (q.1,[])) q.2).1,(addL (gR ts pr (q.1,[])) q.2).2.1,(addL (gR ts pr (q.1,[])) q.2).2.2.1,(addL (gR ts pr (q.1,[])) q.2).2.2.2.1,(addL (gR ts pr (q.1,[])) q.2).2.2.2.2.2.2.2,(addL (gR ts pr (q.1,[])) q.2).2.2.2.2.2.1,(addL (gR ts pr (q.1,[])) q.2).2.2.2.2.2.2.1)=gR ts q.2 (q.1,[]):=rfl
  have e2:(addL (gR ts pr (q.1,[])) q.2).2.2.2.2.2.2.2=q.2:=rfl
  rw[e]
  simp only[e2,qNv (q.1,[]) hq hl,jA,sEq]
  cases hj:qHr ts ⟨#[61]⟩ q.1 with
  |inl z=>
   have hz:=qMr hj
   obtain⟨v,hv⟩:=zAb (N:=N) (by omega) z q.1 q.2 [] hz hq
   simp only[hv,jA,qNj hz hq,qCo]
   exact⟨_,rfl,hz,q.1,q.2,[],hq,rfl⟩
  |inr j=>
   obtain⟨rfl,g3,-⟩:=qHt hok hq hj
   obtain⟨o,ho,hr⟩:=zQk (N:=N) (pr:=q.2) hok hl (by omega) (by omega) (q.1+1,[]) g3 (by simp)
   simp only[ho,jA,qCo]
   cases hc:qLm ts q.2 32 (q.1+1,[]) with
   |inl z=>
    rw[hc] at hr
    obtain⟨hz,i,pr',b,hi,ho1⟩:=hr
    simp only[ho1,qNj hz hi,jA]
    exact⟨_,rfl,hz,i,pr',b,hi,rfl⟩
   |inr c=>
    rw[hc] at hr
    obtain⟨⟨f1,f2,f3,f4⟩,-⟩:=qOn hok 32 (q.1+1,[]) c.1 c.2 g3 (by simp) hc
    have hr':o=(gR ts q.2 c.1,(c.2:Int)):=hr
    simp only[hr',qNv c.1 f2 hl,jA,zAa]
    cases hm:qHr ts ⟨#[59]⟩ c.1.1 with
    |inl z=>exact⟨_,rfl,qMr hm,c.1.1,q.2,c.1.2,f2,rfl⟩
    |inr m=>exact⟨_,rfl,rfl⟩
 unfold qQp
 by_cases c:k=1
 ·have c':(k==1)=true:=by simpa using c
  simp only[c',jI,qNv (i,[]) hi hl,jA,if_pos c,qMp,qUw]
  cases h1:qHr ts ⟨#[40]⟩ i with
  |inl z=>
   have hz:=qMr h1
   obtain⟨M,hM⟩:∃M,N=M+1:=⟨N-1,by omega⟩
   have hb:qAs (qBi N) N (addL (bR ts z i pr []) [])=some (addL (bR ts z i pr []) []):=by
    have e0:qAs (qBi N) N (addL (bR ts z i pr []) [])=qAs (qBi N) (M+1) (addL (bR ts z i pr []) []):=by rw[←hM]
    rw[e0];exact qPo hz M []
   simp only[hb,jA,qCo]
   exact badt z _ [] ⟨hz,i,pr,[],hi,rfl⟩
  |inr j=>
   obtain⟨rfl,g1,-⟩:=qHt hok hi h1
   obtain⟨o,ho,hr⟩:=zTq (N:=N) (pr:=pr) (b:=[]) hok hl hN (i+1) g1
   simp only[ho,jA,qCo]
   cases hP:(if isC ts 4 qLe (i+1)=true then .inr (i+1+1,[]) else qUe ts (ts.length+1) [] (i+1):Flt⊕(Nat×List ByteArray)) with
   |inl z=>
    rw[hP] at hr
    obtain⟨st,l,hbad,rfl⟩:=hr
    exact badt z st l hbad
   |inr q=>
    rw[hP] at hr
    have hr':o=addL (gR ts pr (q.1,[])) q.2:=hr
    have hq:q.1<ts.length∧q.2.length≤8:=by
     split at hP
     ·rename_i hc
      obtain rfl:=Sum.inr.inj hP
      exact⟨qHs hok g1 (by decide) hc,by simp⟩
     ·obtain⟨_,f2,f3⟩:=qVf hok _ _ _ q g1 (by simp) hP
      exact⟨f2,f3⟩
    rw[hr']
    exact goodt q hq.1 hq.2
 ·have c':(k==1)=false:=by simpa using c
  simp only[c',jC,jH,jA,if_neg c]
  exact goodt (i,[]) hi (by simp)
def qVs(N:Nat)(f:Sr)(t:Tok)(st:RT)(k:Int):Option (RT×Dl):=
 ((if((List.length f.2.2:Int)==64)=true then qAl N st t.2.2.2 2 else some st):Option RT).bind fun o2=>(qAk N o2).bind fun y7=>
 ((if(k==3)=true then qBw N y7.1 true else qBm N y7.1):Option (RT×ByteArray)).bind fun o3=>
 ((if(o3.1.2.2.2.1==0)=true then qEn N f k o3.2 else some false):Option Bool).bind fun o4=>
 ((if o4=true then qAl N o3.1 y7.2.2.2.2 10 else some o3.1):Option RT).bind fun o5=>qQp N o5 k o3.2
theorem zKz(hN:1000005<N){f:Sr}{t:Tok}{z:Flt}{i:Nat}{b:List Ex}(hz:z.2≠0)(hi:i<ts.length)(k:Int):∃o,
  ((qAk N (bR ts z i pr b)).bind fun y7=>((if(k==3)=true then qBw N y7.1 true else qBm N y7.1):Option (RT×ByteArray)).bind fun o3=>
   ((if(o3.1.2.2.2.1==0)=true then qEn N f k o3.2 else some false):Option Bool).bind fun o4=>
   ((if o4=true then qAl N o3.1 y7.2.2.2.2 10 else some o3.1):Option RT).bind fun o5=>qQp N o5 k o3.2)=some o∧Bad ts z o.1:=by
 have hz':((bR ts z i pr b).2.2.2.1==0)=false:=by simpa[bR] using hz
 have e:((if(k==3)=true then qBw N (bR ts z i pr b) true else qBm N (bR ts z i pr b)):Option (RT×ByteArray))=some (bR ts z i pr b,⟨#[]⟩):=by
  rw[zIz hz hi,zDa hz hi];split<;>rfl
 simp only[qQi hi,jA,e,hz',jC,jH]
 exact zAj hN hz hi k _
theorem zMb(hok:OkT ts)(hl:ts.length<1000000)(hN:1000005<N){f:Sr}(hf:f.2.2.length≤64)(t:Tok)(i:Nat)(hi:i<ts.length)(k:Int):∃o,qVs N f t (gR ts pr (i,[])) k=some o∧
  relD ts (if f.2.2.length=64 then qIf t 2 else qCo (if k=3 then qVc ts i else qRo ts i) fun a=>
   if f.2.2.any (fun d=>d.1==k&&decide (d.2.1=a.2.2.1)) then qIf a.2 10
   else qCo (if k=1 then qMp ts a.1 else .inr (a.1,[])) fun b=>
    qCo (qHr ts sEq b.1) fun j=>qCo (qLm ts b.2 32 (j,[])) fun c=>
    qCo (qHr ts zAa c.1.1) fun m=> .inr (m,(k,a.2.2.1,b.2,c.1.2))) o:=by
 unfold qVs
 by_cases k1:f.2.2.length=64
 ·have k1':((f.2.2.length:Int)==64)=true:=by simp;omega
  rw[if_pos k1]
  simp only[k1',jI,qLi,jA,qIf]
  exact zKz (t:=t) hN (show(2:Int)≠0 by decide) hi k
 have k1':((f.2.2.length:Int)==64)=false:=by simp;omega
 rw[if_neg k1]
 simp only[k1',jC,jH,jA,qKw (i,[]) hi]
 have e:((if(k==3)=true then qBw N (gR ts pr (i,[])) true else qBm N (gR ts pr (i,[]))):Option (RT×ByteArray))=
   some (match(if k=3 then qVc ts i else qRo ts i) with| .inl z=>(bR ts z i pr [],⟨#[]⟩)| .inr a=>(gR ts pr (a.1,[]),a.2.2.1)):=by
  by_cases k3:k=3
  ·have k3':(k==3)=true:=by simpa using k3
   rw[if_pos k3',if_pos k3,zJd (i,[]) hi hl (by omega)]<;>rfl
  ·have k3':(k==3)=false:=by simpa using k3
   rw[if_neg (by rw[k3'];decide),if_neg k3,qXc (i,[]) hi hl (by omega)]<;>rfl
 rw[e]
 simp only[jA]
 cases hX:(if k=3 then qVc ts i else qRo ts i) with
 |inl z=>
  have hz:z.2≠0:=by
   split at hX
   ·exact zEg hX
   ·exact zCy hX
  have hz':((bR ts z i pr []).2.2.2.1==0)=false:=by simpa[bR] using hz
  simp only[hz',jC,jH,jA,qCo]
  exact zAj hN hz hi k _
 |inr a=>
  have ga:a=(i+1,tkAt ts i)∧i+1<ts.length:=by
   split at hX
   ·obtain⟨e,g1,-⟩:=qQa hok hi hX;exact⟨e,g1⟩
   ·obtain⟨e,g1,-⟩:=qPf hok hi hX;exact⟨e,g1⟩
  obtain⟨rfl,g1⟩:=ga
  have g0:((gR ts pr (i+1,[])).2.2.2.1==0)=true:=rfl
  simp only[g0,jI,zSl (N:=N) (f:=f) (k:=k) (s:=(tkAt ts i).2.1) (by omega) (by omega),jA]
  rw[show qCo (Sum.inr (i+1,tkAt ts i)) (fun a:Nat×Tok=>if f.2.2.any (fun d=>d.1==k&&decide (d.2.1=a.2.2.1))=true then qIf a.2 10
   else qCo (if k=1 then qMp ts a.1 else .inr (a.1,[])) fun b=>
    qCo (qHr ts sEq b.1) fun j=>qCo (qLm ts b.2 32 (j,[])) fun c=>
    qCo (qHr ts zAa c.1.1) fun m=>(.inr (m,(k,a.2.2.1,b.2,c.1.2)):Flt⊕(Nat×Dl)))=(if f.2.2.any (fun d=>d.1==k&&decide (d.2.1=(tkAt ts i).2.1))=true then qIf (tkAt ts i) 10
   else qCo (if k=1 then qMp ts (i+1) else .inr (i+1,[])) fun b=>
    qCo (qHr ts sEq b.1) fun j=>qCo (qLm ts b.2 32 (j,[])) fun c=>
    qCo (qHr ts zAa c.1.1) fun m=>(.inr (m,(k,(tkAt ts i).2.1,b.2,c.1.2)):Flt⊕(Nat×Dl))) from rfl]
  rcases qEr (f.2.2.any fun d=>d.1==k&&decide (d.2.1=(tkAt ts i).2.1)) with k4|k4
  ·rw[if_pos k4]
   simp only[k4,jI,qLi,jA,qIf]
   exact zAj hN (show(10:Int)≠0 by decide) g1 k _
  ·rw[if_neg (by rw[k4];decide)]
   simp only[k4,jC,jH,jA]
   exact zPy hok hl hN (i+1) g1 k _
end
end
section
open Go Go.Dc
section
variable {N:Nat} {ts:List Tok} {pr:List ByteArray}
abbrev RN:=List Tok×Int×Int×Int×List ByteArray×List Ex×List Int×ByteArray
def addN(st:RT)(l:ByteArray):RN:=(st.1,st.2.1,st.2.2.1,st.2.2.2.1,st.2.2.2.2.1,st.2.2.2.2.2.1,st.2.2.2.2.2.2,l)
theorem rdecl(hok:OkT ts)(hl:ts.length<1000000)(hN:1000005<N){f:Sr}(hf:f.2.2.length≤64)(i:Nat)(b:List Ex)(hi:i<ts.length):∃o,qGl N (gR ts pr (i,b)) f=some o∧relD ts (qVm ts f.2.2 i) o:=by
 have e0:((gR ts pr (i,b)).1,(gR ts pr (i,b)).2.1,(gR ts pr (i,b)).2.2.1,(gR ts pr (i,b)).2.2.2.1,([]:List ByteArray),([]:List Ex),(gR ts pr (i,b)).2.2.2.2.2.2)=gR ts [] (i,[]):=rfl
 have rest:∀(st:RT) (k:Int),(((if((List.length f.2.2:Int)==64)=true then((qAl N st (tkAt ts i).2.2.2 2).bind fun y6=>some y6) else(some st)):Option RT).bind fun o2=>(qAk N o2).bind fun y7=>((if(k==3)=true then((qBw N y7.1 true).bind fun y8=>some (addN y8.1 y8.2)) else((qBm N y7.1).bind fun y9=>some (addN y9.1 y9.2))):Option RN).bind fun o3=>((if(o3.2.2.2.1==0)=true then((qEn N f k o3.2.2.2.2.2.2.2).bind fun y10=>some y10) else(some false)):Option Bool).bind fun o4=>((if o4=true then((qAl N (o3.1,o3.2.1,o3.2.2.1,o3.2.2.2.1,o3.2.2.2.2.1,o3.2.2.2.2.2.1,o3.2.2.2.2.2.2.1) y7.2.2.2.2 10).bind fun y11=>some y11) else(some (o3.1,o3.2.1,o3.2.2.1,o3.2.2.2.1,o3.2.2.2.2.1,o3.2.2.2.2.2.1,o3.2.2.2.2.2.2.1))):Option RT).bind fun o5=>qQp N o5 k o3.2.2.2.2.2.2.2)=qVs N f (tkAt ts i) st k:=by
  intro st k
  unfold qVs
  simp only[obs]
  refine congrArg _ (funext fun o2=>congrArg _ (funext fun y7=> ?_))
  rcases qEr (k==3) with c|c<;>simp only[c,jI,jC,jH,gY,jA]<;>rfl
 have fin:∀(k:Int),k≠0→zRx (tkAt ts i).2.1=k→(tkAt ts i).1=1→∃o,qVs N f (tkAt ts i) (gR ts [] (i+1,[])) k=some o∧relD ts (qVm ts f.2.2 i) o:=by
  intro k hk0 hk h1
  have g:=hok.next hi (show(tkAt ts i).1≠5 by rw[h1];decide)
  obtain⟨o,ho,hr⟩:=zMb (N:=N) (pr:=[]) hok hl hN hf (tkAt ts i) (i+1) g k
  refine⟨o,ho,?_⟩
  unfold qVm
  dsimp only
  rw[hk,if_neg (by rintro(h|h);exact h h1;exact hk0 h)]
  exact hr
 simp only[qGl,e0,qKw (i,[]) hi,jA,Prod.eta,qMs (i,[]) hi hl]
 by_cases h1:(tkAt ts i).1=1
 ·have n:∀s,isC ts 1 s i=decide ((tkAt ts i).2.1=s):=fun s=>zKe h1
  simp only[n]
  by_cases w1:(tkAt ts i).2.1=(⟨#[102,117,110,99]⟩:ByteArray)
  ·simp only[kG w1,jI,jA]
   obtain⟨o,ho,hr⟩:=fin 1 (by decide) (by rw[w1];rfl) h1
   refine⟨o,Eq.trans ?_ ho,hr⟩
   refine Eq.trans ?_ (rest (gR ts [] (i+1,[])) 1)
   simp only[obs,qQp]
   rfl
  simp only[jY w1,jC,jH,jA,qMs (i,[]) hi hl,n,Prod.eta]
  by_cases w2:(tkAt ts i).2.1=(⟨#[116,101,115,116]⟩:ByteArray)
  ·simp only[kG w2,jI,jA]
   obtain⟨o,ho,hr⟩:=fin 2 (by decide) (by rw[w2];rfl) h1
   refine⟨o,Eq.trans ?_ ho,hr⟩
   refine Eq.trans ?_ (rest (gR ts [] (i+1,[])) 2)
   simp only[obs,qQp]
   rfl
  simp only[jY w2,jC,jH,jA,qMs (i,[]) hi hl,n,Prod.eta]
  by_cases w3:(tkAt ts i).2.1=(⟨#[103,101,110]⟩:ByteArray)
  ·simp only[kG w3,jI,jA]
   obtain⟨o,ho,hr⟩:=fin 3 (by decide) (by rw[w3];rfl) h1
   refine⟨o,Eq.trans ?_ ho,hr⟩
   refine Eq.trans ?_ (rest (gR ts [] (i+1,[])) 3)
   simp only[obs,qQp]
   rfl
  simp only[jY w3,jC,jH,jA,qLi,Prod.eta]
  refine⟨_,rfl,?_⟩
  have hk:zRx (tkAt ts i).2.1=0:=by
   unfold zRx
   rw[if_neg (show ¬(tkAt ts i).2.1=zUh from w1),if_neg (show ¬(tkAt ts i).2.1=zTl from w2),if_neg (show ¬(tkAt ts i).2.1=sGen from w3)]
  unfold qVm
  dsimp only
  rw[if_pos (.inr hk)]
  exact⟨show(9:Int)≠0 by decide,i,[],[],hi,rfl⟩
 ·have n:∀s,isC ts 1 s i=false:=fun s=>zSq h1
  simp only[n,jC,jH,jA,qMs (i,[]) hi hl,qLi,Prod.eta]
  refine⟨_,rfl,?_⟩
  unfold qVm
  dsimp only
  rw[if_pos (.inl h1)]
  exact⟨show(9:Int)≠0 by decide,i,[],[],hi,rfl⟩
def relI(ts:List Tok)(pr:List ByteArray)(b:List Ex)(r:Flt⊕(Nat×List ByteArray))(o:RL):Prop:=
 match r with
 | .inl z=>∃st l,Bad ts z st∧o=addL st l
 | .inr q=>o=addL (gR ts pr (q.1,b)) q.2
theorem qXi{y5:RT×ByteArray}{z:Flt}{i:Nat}{pr':List ByteArray}{b:List Ex}(hz:z.2≠0)(M:Nat)(l:List ByteArray):qAs (qCa N y5) (M+1) (addL (bR ts z i pr' b) l)=some (addL (bR ts z i pr' b) l):=by
 have hz':((addL (bR ts z i pr' b) l).2.2.2.1==0)=false:=by simpa[bR,addL] using hz
 simp only[qAs,qCa,hz',jC,jH,jA]
theorem qWg(hok:OkT ts)(hl:ts.length<1000000)(hN:1000005<N){y5:RT×ByteArray}{b:List Ex}:∀(n M:Nat) (l:List ByteArray) (i:Nat),i<ts.length→l.length≤8→ts.length<i+n→ts.length+2<i+M→
  ∃o,qAs (qCa N y5) M (addL (gR ts pr (i,b)) l)=some o∧relI ts pr b (qMb ts y5.2 n l i) o
 |0,M,l,i,hi,_,h,_=>by omega
 |n+1,0,l,i,hi,_,_,h=>by omega
 |n+1,M+1,l,i,hi,hl8,hn,hM=>by
  have g0:((addL (gR ts pr (i,b)) l).2.2.2.1==0)=true:=rfl
  have e1:∀st:RT,∀l,((addL st l).1,(addL st l).2.1,(addL st l).2.2.1,(addL st l).2.2.2.1,(addL st l).2.2.2.2.1,(addL st l).2.2.2.2.2.1,(addL st l).2.2.2.2.2.2.1)=st:=fun _ _=>rfl
  have e2:∀st:RT,∀l,(addL st l).2.2.2.2.2.2.2=l:=fun _ _=>rfl
  have happ:∀s:ByteArray,qEb 16 l [s]=some (l++[s]):=fun s=>qCr (by simp only[jD,jE];omega) (by omega)
  have hhas:∀s,qDf N l s=some (decide (s∈l)):=fun s=>rhas (by omega) (by omega)
  have bad:∀(z:Flt) (i:Nat) (pr':List ByteArray) (b':List Ex) (l:List ByteArray),z.2≠0→i<ts.length→∃o,qAs (qCa N y5) M (addL (bR ts z i pr' b') l)=some o∧relI ts pr b (.inl z) o:=by
   intro z i pr' b' l hz hi
   obtain⟨M',rfl⟩:∃M',M=M'+1:=⟨M-1,by omega⟩
   exact⟨_,qXi hz M' l,_,_,⟨hz,i,pr',b',hi,rfl⟩,rfl⟩
  -- from the import's name on, behind an error
  have badn:∀(z:Flt) (i:Nat) (pr':List ByteArray) (b':List Ex),z.2≠0→i<ts.length→∃o,((qAk N (bR ts z i pr' b')).bind fun y11=>(qBm N y11.1).bind fun y12=>((if(y12.1.2.2.2.1==0)=true then(if(y12.2.toList==y5.2.toList)=true then(some true) else(qDf N l y12.2)) else(some false)):Option Bool).bind fun o5=>((if o5=true then qAl N y12.1 y11.2.2.2.2 10 else some y12.1):Option RT).bind fun o6=>(qAi N o6 (⟨#[59]⟩:ByteArray)).bind fun y15=>(qEb 16 l ([y12.2])).bind fun l1=>qAs (qCa N y5) M (addL y15 l1))=some o∧relI ts pr b (.inl z) o:=by
   intro z i pr' b' hz hi
   have hz':((bR ts z i pr' b').2.2.2.1==0)=false:=by simpa[bR] using hz
   simp only[qQi hi,zDa hz hi,jA,hz',jC,jH,qNj hz hi,happ]
   exact bad z i pr' b' _ hz hi
  -- the step
  have step:qAs (qCa N y5) (M+1) (addL (gR ts pr (i,b)) l)=(if isC ts 1 qYv i=true then
    ((if((l.length:Int)==8)=true then some (bR ts ((tkAt ts i).2.2.2,2) (i+1) pr b) else some (gR ts pr (i+1,b))):Option RT).bind fun st=>((qAk N st).bind fun y11=>(qBm N y11.1).bind fun y12=>((if(y12.1.2.2.2.1==0)=true then(if(y12.2.toList==y5.2.toList)=true then(some true) else(qDf N l y12.2)) else(some false)):Option Bool).bind fun o5=>((if o5=true then qAl N y12.1 y11.2.2.2.2 10 else some y12.1):Option RT).bind fun o6=>(qAi N o6 (⟨#[59]⟩:ByteArray)).bind fun y15=>(qEb 16 l ([y12.2])).bind fun l1=>qAs (qCa N y5) M (addL y15 l1))
    else some (addL (gR ts pr (i,b)) l)):=by
   have hk:isC ts 1 qYv i=((tkAt ts i).1==1&&decide ((tkAt ts i).2.1=(⟨#[105,109,112,111,114,116]⟩:ByteArray))):=rfl
   have hw:=qVb (show i<1000000 by omega)
   simp only[qAs,qCa,g0,jI,e1,e2,qKw (i,b) hi,jA,Prod.eta,qFj,hk]
   rcases qEr ((tkAt ts i).1==1) with c1|c1
   rotate_left
   ·simp only[c1,jC,jH,jA,Bool.false_and]
    rfl
   rcases qEr (decide ((tkAt ts i).2.1=(⟨#[105,109,112,111,114,116]⟩:ByteArray))) with c2|c2
   rotate_left
   ·simp only[c1,c2,jC,jH,jI,jA,Bool.and_false]
    rfl
   simp only[c1,c2,jI,jA,Bool.and_true]
   rcases qEr ((l.length:Int)==8) with c3|c3
   ·simp only[c3,jI,jA,qKw (i,b) hi,qLi,obs]
    have e3:((bR ts ((tkAt ts i).2.2.2,2) i pr b).1,IntKind.wrap .i64 ((bR ts ((tkAt ts i).2.2.2,2) i pr b).2.1+1),(bR ts ((tkAt ts i).2.2.2,2) i pr b).2.2.1,(bR ts ((tkAt ts i).2.2.2,2) i pr b).2.2.2.1,(bR ts ((tkAt ts i).2.2.2,2) i pr b).2.2.2.2.1,(bR ts ((tkAt ts i).2.2.2,2) i pr b).2.2.2.2.2.1,(bR ts ((tkAt ts i).2.2.2,2) i pr b).2.2.2.2.2.2)=bR ts ((tkAt ts i).2.2.2,2) (i+1) pr b:=by
     show(ts,IntKind.wrap .i64 ((i:Int)+1),(tkAt ts i).2.2.2,(2:Int),pr,b,([]:List Int))=_
     rw[hw];rfl
    rw[e3]
    simp only[gY,jA]
    rfl
   ·simp only[c3,jC,jH,jA,obs]
    have e3:((gR ts pr (i,b)).1,IntKind.wrap .i64 ((gR ts pr (i,b)).2.1+1),(gR ts pr (i,b)).2.2.1,(gR ts pr (i,b)).2.2.2.1,(gR ts pr (i,b)).2.2.2.2.1,(gR ts pr (i,b)).2.2.2.2.2.1,(gR ts pr (i,b)).2.2.2.2.2.2)=gR ts pr (i+1,b):=by
     show(ts,IntKind.wrap .i64 ((i:Int)+1),(0:Int),(0:Int),pr,b,([]:List Int))=_
     rw[hw];rfl
    rw[e3]
    simp only[gY,jA]
    rfl
  rw[step]
  simp only[qMb]
  rcases qEr (isC ts 1 qYv i) with c1|c1
  rotate_left
  ·simp only[c1,jC,jH]
   exact⟨_,rfl,rfl⟩
  have g:=qHs hok hi (by decide) c1
  simp only[c1,jI]
  by_cases k2:l.length=8
  ·have k2':((l.length:Int)==8)=true:=by simp;omega
   rw[if_pos k2]
   simp only[k2',jI,jA,qIf]
   exact badn _ _ _ _ (show(2:Int)≠0 by decide) g
  have k2':((l.length:Int)==8)=false:=by simp;omega
  rw[if_neg k2]
  simp only[k2',jC,jH,jA,qKw (i+1,b) g,qXc (i+1,b) g hl (by omega:100<N)]
  cases hx:qRo ts (i+1) with
  |inl z=>
   have hz:=zCy hx
   have hz':((bR ts z (i+1) pr b).2.2.2.1==0)=false:=by simpa[bR] using hz
   simp only[hz',jC,jH,jA,qNj hz g,happ,qCo]
   exact bad _ _ _ _ _ hz g
  |inr x=>
   obtain⟨rfl,g1,-⟩:=qPf hok g hx
   have g00:((gR ts pr (i+1+1,b)).2.2.2.1==0)=true:=rfl
   simp only[g00,jI,qFj,hhas,qCo]
   by_cases k3:(tkAt ts (i+1)).2.1=y5.2∨(tkAt ts (i+1)).2.1∈l
   ·rw[if_pos k3]
    have:((if decide ((tkAt ts (i+1)).2.1=y5.2)=true then some true else some (decide ((tkAt ts (i+1)).2.1∈l))):Option Bool)=some true:=by
     rcases k3 with h|h
     ·rw[if_pos (kG h)]
     ·rw[kG h];split<;>rfl
    rw[this]
    simp only[jA,jI,qLi,happ,qIf]
    have hz:(((tkAt ts (i+1)).2.2.2,(10:Int)):Flt).2≠0:=show(10:Int)≠0 by decide
    simp only[qNj hz g1,jA]
    exact bad _ _ _ _ _ hz g1
   rw[if_neg k3]
   have:((if decide ((tkAt ts (i+1)).2.1=y5.2)=true then some true else some (decide ((tkAt ts (i+1)).2.1∈l))):Option Bool)=some false:=by
    rw[if_neg (by simp only[jB];exact fun h=>k3 (.inl h)),jY (fun h=>k3 (.inr h))]
   rw[this]
   simp only[jA,jC,jH,qNv (i+1+1,b) g1 hl,happ,zAa]
   cases hj:qHr ts ⟨#[59]⟩ (i+1+1) with
   |inl z=>exact bad _ _ _ _ _ (qMr hj) g1
   |inr j=>
    obtain⟨rfl,g2,-⟩:=qHt hok g1 hj
    exact qWg hok hl hN n M _ (i+1+1+1) g2 (by simp only[jF,jD,jE];omega) (by omega) (by omega)
end
end
section
open Go Go.Dc
section
variable {N:Nat} {ts:List Tok} {pr:List ByteArray}
abbrev RD:=List Tok×Int×Int×Int×List ByteArray×List Ex×List Int×List Dl
def addD(st:RT)(l:List Dl):RD:=(st.1,st.2.1,st.2.2.1,st.2.2.2.1,st.2.2.2.2.1,st.2.2.2.2.2.1,st.2.2.2.2.2.2,l)
def relS(ts:List Tok)(r:Flt⊕List Dl)(o:RD):Prop:=
 match r with
 | .inl z=>∃st l,Bad ts z st∧o=addD st l
 | .inr a=>∃pr p,o=addD (gR ts pr p) a
theorem zCp{y5:RT×ByteArray}{o2:RL}{z:Flt}{i:Nat}{pr':List ByteArray}{b:List Ex}(hz:z.2≠0)(M:Nat)(l:List Dl):qAs (qCl N y5 o2) (M+1) (addD (bR ts z i pr' b) l)=some (addD (bR ts z i pr' b) l):=by
 have hz':((addD (bR ts z i pr' b) l).2.2.2.1==0)=false:=by simpa[bR,addD] using hz
 simp only[qAs,qCl,hz',jC,jH,jA]
theorem zAd(hok:OkT ts)(hl:ts.length<1000000)(hN:1000005<N){y5:RT×ByteArray}{o2:RL}:∀(n M:Nat) (l:List Dl) (i:Nat) (pr:List ByteArray) (b:List Ex),i<ts.length→l.length≤64→ts.length<i+n→ts.length+2<i+M→
  ∃o,qAs (qCl N y5 o2) M (addD (gR ts pr (i,b)) l)=some o∧relS ts (qWk ts n l i) o
 |0,M,l,i,_,_,hi,_,h,_=>by omega
 |n+1,0,l,i,_,_,hi,_,_,h=>by omega
 |n+1,M+1,l,i,pr,b,hi,hl64,hn,hM=>by
  have g0:((addD (gR ts pr (i,b)) l).2.2.2.1==0)=true:=rfl
  have e1:∀st:RT,∀l,((addD st l).1,(addD st l).2.1,(addD st l).2.2.1,(addD st l).2.2.2.1,(addD st l).2.2.2.2.1,(addD st l).2.2.2.2.2.1,(addD st l).2.2.2.2.2.2.1)=st:=fun _ _=>rfl
  have e2:∀st:RT,∀l,(addD st l).2.2.2.2.2.2.2=l:=fun _ _=>rfl
  simp only[qAs,qCl,g0,jI,e1,e2,qKw (i,b) hi,jA,Prod.eta,qWk]
  by_cases k1:(tkAt ts i).1=5
  ·have k1':((tkAt ts i).1 !=5)=false:=by simp[k1]
   rw[if_pos k1]
   simp only[k1',jC,jH,jA]
   exact⟨_,rfl,pr,(i,b),rfl⟩
  have k1':((tkAt ts i).1 !=5)=true:=by simp[k1]
  rw[if_neg k1]
  simp only[k1',jI]
  obtain⟨o,ho,hr⟩:=rdecl (N:=N) (pr:=pr) (f:=(y5.2,o2.2.2.2.2.2.2.2,l)) hok hl hN hl64 i b hi
  simp only[ho,jA]
  rw[qCr (by simp only[jD,jE];omega) (by omega)]
  simp only[jA]
  cases hd:qVm ts l i with
  |inl z=>
   rw[show qVm ts (y5.2,o2.2.2.2.2.2.2.2,l).2.2 i=qVm ts l i from rfl,hd] at hr
   obtain⟨hz,j,pr',b',hj,ho1⟩:=hr
   obtain⟨M',rfl⟩:∃M',M=M'+1:=⟨M-1,by omega⟩
   rw[ho1]
   exact⟨_,zCp hz M' _,_,_,⟨hz,j,pr',b',hj,rfl⟩,rfl⟩
  |inr a=>
   rw[show qVm ts (y5.2,o2.2.2.2.2.2.2.2,l).2.2 i=qVm ts l i from rfl,hd] at hr
   obtain⟨g1,g2,g3⟩:=qYr hok hi hd
   have hr':o=(gR ts a.2.2.2.1 (a.1,a.2.2.2.2),a.2):=hr
   rw[hr']
   exact zAd hok hl hN n M (l++[a.2]) a.1 _ _ g2 (by simp only[jF,jD,jE];omega) (by omega) (by omega)
theorem rfile(hok:OkT ts)(hl:ts.length<1000000)(hN:1000005<N):
  ((qBq N (ts,0,0,0,[],[],[]) (⟨#[112,97,99,107,97,103,101]⟩:ByteArray)).bind fun y2=>((if(!y2.2)=true then((qAk N y2.1).bind fun y3=>qAl N y3.1 y3.2.2.2.2 9) else(some y2.1)):Option RT).bind fun o1=>(qBm N o1).bind fun y5=>(qAi N y5.1 (⟨#[59]⟩:ByteArray)).bind fun y6=>(qAs (qCa N y5) N (addL y6 [])).bind fun o2=>(qAs (qCl N y5 o2) N (o2.1,o2.2.1,o2.2.2.1,o2.2.2.2.1,o2.2.2.2.2.1,o2.2.2.2.2.2.1,o2.2.2.2.2.2.2.1,[])).bind fun o7=>if(o7.2.2.2.1 !=0)=true then(some (qVg,o7.2.2.1,o7.2.2.2.1)) else(some (((y5.2,o2.2.2.2.2.2.2.2,o7.2.2.2.2.2.2.2):Sr),(0:Int),(0:Int))))=some (match zIk ts with| .inl z=>(qVg,z.1,z.2)| .inr f=>(f,0,0)):=by
 have h0:0<ts.length:=gZ.2 hok.1
 obtain⟨M,hM⟩:∃M,N=M+1:=⟨N-1,by omega⟩
 have e0:((ts,(0:Int),(0:Int),(0:Int),[],[],[]):RT)=gR ts [] (0,[]):=rfl
 -- the loops behind an error
 have badD:∀(y5:RT×ByteArray) (o2:RL) (z:Flt) (st:RT),Bad ts z st→((qAs (qCl N y5 o2) N (addD st [])).bind fun o7=>if(o7.2.2.2.1 !=0)=true then(some (qVg,o7.2.2.1,o7.2.2.2.1)) else(some (((y5.2,o2.2.2.2.2.2.2.2,o7.2.2.2.2.2.2.2):Sr),(0:Int),(0:Int))))=some (qVg,z.1,z.2):=by
  rintro y5 o2 z st ⟨hz,i,pr',b,hi,rfl⟩
  have hb:qAs (qCl N y5 o2) N (addD (bR ts z i pr' b) [])=some (addD (bR ts z i pr' b) []):=by
   have e:qAs (qCl N y5 o2) N (addD (bR ts z i pr' b) [])=qAs (qCl N y5 o2) (M+1) (addD (bR ts z i pr' b) []):=by rw[←hM]
   rw[e];exact zCp hz M []
  have hz':((addD (bR ts z i pr' b) []).2.2.2.1 !=0)=true:=by simpa[bR,addD] using hz
  rw[hb]
  simp only[jA,hz',jI]
  rfl
 have badI:∀(y5:RT×ByteArray) (z:Flt) (i:Nat) (pr':List ByteArray) (b:List Ex),z.2≠0→i<ts.length→((qAs (qCa N y5) N (addL (bR ts z i pr' b) [])).bind fun o2=>(qAs (qCl N y5 o2) N (o2.1,o2.2.1,o2.2.2.1,o2.2.2.2.1,o2.2.2.2.2.1,o2.2.2.2.2.2.1,o2.2.2.2.2.2.2.1,[])).bind fun o7=>if(o7.2.2.2.1 !=0)=true then(some (qVg,o7.2.2.1,o7.2.2.2.1)) else(some (((y5.2,o2.2.2.2.2.2.2.2,o7.2.2.2.2.2.2.2):Sr),(0:Int),(0:Int))))=some (qVg,z.1,z.2):=by
  intro y5 z i pr' b hz hi
  have hb:qAs (qCa N y5) N (addL (bR ts z i pr' b) [])=some (addL (bR ts z i pr' b) []):=by
   have e:qAs (qCa N y5) N (addL (bR ts z i pr' b) [])=qAs (qCa N y5) (M+1) (addL (bR ts z i pr' b) []):=by rw[←hM]
   rw[e];exact qXi hz M []
  rw[hb]
  simp only[jA]
  exact badD y5 (addL (bR ts z i pr' b) []) z (bR ts z i pr' b) ⟨hz,i,pr',b,hi,rfl⟩
 have bad:∀(z:Flt) (i:Nat) (pr':List ByteArray) (b:List Ex),z.2≠0→i<ts.length→((qBm N (bR ts z i pr' b)).bind fun y5=>(qAi N y5.1 (⟨#[59]⟩:ByteArray)).bind fun y6=>(qAs (qCa N y5) N (addL y6 [])).bind fun o2=>(qAs (qCl N y5 o2) N (o2.1,o2.2.1,o2.2.2.1,o2.2.2.2.1,o2.2.2.2.2.1,o2.2.2.2.2.2.1,o2.2.2.2.2.2.2.1,[])).bind fun o7=>if(o7.2.2.2.1 !=0)=true then(some (qVg,o7.2.2.1,o7.2.2.2.1)) else(some (((y5.2,o2.2.2.2.2.2.2.2,o7.2.2.2.2.2.2.2):Sr),(0:Int),(0:Int))))=some (qVg,z.1,z.2):=by
  intro z i pr' b hz hi
  simp only[zDa hz hi,qNj hz hi,jA]
  exact badI _ z i pr' b hz hi
 rw[e0]
 simp only[qMs (0,[]) h0 hl,jA,zIk,zFd,zCr]
 rcases qEr (isC ts 1 ⟨#[112,97,99,107,97,103,101]⟩ 0) with c1|c1
 rotate_left
 ·simp only[c1,jC,jH,kJ,jI,qKw (0,[]) h0,qLi,jA,qIf,qCo]
  exact bad _ _ _ _ (show(9:Int)≠0 by decide) h0
 have g1:=qHs hok h0 (by decide) c1
 simp only[c1,jI,kM,jC,jH,jA,qXc (0+1,[]) g1 hl (by omega:100<N),qCo]
 cases h2:qRo ts (0+1) with
 |inl z=>
  have hz:=zCy h2
  simp only[qNj hz g1,jA]
  exact badI _ z _ _ _ hz g1
 |inr x=>
  obtain⟨rfl,g2,-⟩:=qPf hok g1 h2
  simp only[qNv (0+1+1,[]) g2 hl,jA,zAa]
  cases h3:qHr ts ⟨#[59]⟩ (0+1+1) with
  |inl z=>exact badI _ z _ _ _ (qMr h3) g2
  |inr j=>
   obtain⟨rfl,g3,-⟩:=qHt hok g2 h3
   obtain⟨o,ho,hr⟩:=qWg (N:=N) (pr:=[]) (b:=[]) (y5:=(gR ts [] (0+1+1,[]),(tkAt ts (0+1)).2.1)) hok hl hN (ts.length+1) N [] (0+1+1+1) g3 (by simp) (by omega) (by omega)
   simp only[ho,jA]
   cases h4:qMb ts (tkAt ts (0+1)).2.1 (ts.length+1) [] (0+1+1+1) with
   |inl z=>
    rw[show qMb ts ((gR ts [] (0+1+1,[]),(tkAt ts (0+1)).2.1):RT×ByteArray).2 (ts.length+1) [] (0+1+1+1)=qMb ts (tkAt ts (0+1)).2.1 (ts.length+1) [] (0+1+1+1) from rfl,h4] at hr
    obtain⟨st,l,hbad,rfl⟩:=hr
    exact badD _ (addL st l) z st hbad
   |inr y=>
    rw[show qMb ts ((gR ts [] (0+1+1,[]),(tkAt ts (0+1)).2.1):RT×ByteArray).2 (ts.length+1) [] (0+1+1+1)=qMb ts (tkAt ts (0+1)).2.1 (ts.length+1) [] (0+1+1+1) from rfl,h4] at hr
    have hr':o=addL (gR ts [] (y.1,[])) y.2:=hr
    obtain⟨k1,k2,k3⟩:=qUi hok _ _ _ y g3 (by simp) h4
    obtain⟨o2,ho2,hr2⟩:=zAd (N:=N) (y5:=(gR ts [] (0+1+1,[]),(tkAt ts (0+1)).2.1)) (o2:=o) hok hl hN (ts.length+1) N [] y.1 [] [] k2 (by simp) (by omega) (by omega)
    have e3:(o.1,o.2.1,o.2.2.1,o.2.2.2.1,o.2.2.2.2.1,o.2.2.2.2.2.1,o.2.2.2.2.2.2.1,([]:List Dl))=addD (gR ts [] (y.1,[])) []:=by rw[hr'];rfl
    rw[e3,ho2]
    simp only[jA]
    cases h5:qWk ts (ts.length+1) [] y.1 with
    |inl z=>
     rw[h5] at hr2
     obtain⟨st,l,⟨hz,i,pr',b,hi,rfl⟩,rfl⟩:=hr2
     have hz':((addD (bR ts z i pr' b) l).2.2.2.1 !=0)=true:=by simpa[bR,addD] using hz
     simp only[hz',jI]
     rfl
    |inr l=>
     rw[h5] at hr2
     obtain⟨pr',p',rfl⟩:=hr2
     have hz':((addD (gR ts pr' p') l).2.2.2.1 !=0)=false:=rfl
     simp only[hz',jC,jH]
     rw[hr']
     rfl
end
theorem zIy{N:Nat}(s:ByteArray)(hN:1000005<N):qKc N s=some (qMv s):=by
 simp only[qKc,zEs (N:=N) (by omega),jA,qMv]
 by_cases h:(qKv s).2.2=0
 ·rw[if_neg (show ¬((qKv s).2.2 !=0)=true by simpa using h),if_neg (show ¬(qKv s).2.2≠0 by simpa using h)]
  obtain⟨h1,h2,h3⟩:=qWq h
  have hf:=rfile (N:=N) h1 (by omega) hN
  refine Eq.trans ?_ (Eq.trans hf ?_)
  ·simp only[Prod.eta,obs];rfl
  ·cases zIk (qKv s).1<;>rfl
 ·rw[if_pos (show((qKv s).2.2 !=0)=true by simpa using h),if_pos h];rfl
end
section
open Go Go.Dc Go.Proofs
def zHb{α τ:Type}(g:Nat→τ→α→τ):Nat→τ→List α→τ
 |_,t,[]=>t
 |i,t,x::l=>zHb g (i+1) (g i t x) l
abbrev Ent:=ByteArray×ByteArray×Int×ByteArray×Int×Int
abbrev K3:=Int×ByteArray×ByteArray
abbrev Occ:=ByteArray×ByteArray×Int×ByteArray×Int
def keyC(kind:Int)(pkg name:ByteArray):K3:=(kind,if kind=3 then zGx else pkg,name)
def okey(o:Occ):K3:=keyC o.2.2.1 o.1 o.2.1
def zKk(M:List (K3×Ent))(o:Occ):List (K3×Ent):=
 mset M (okey o) (match mget M (okey o) with
  |some x=>(x.1,x.2.1,x.2.2.1,x.2.2.2.1,x.2.2.2.2.1,IntKind.wrap .i64 (x.2.2.2.2.2+1))
  |none=>(o.1,o.2.1,o.2.2.1,o.2.2.2.1,o.2.2.2.2,1))
def qUr(path pkg:ByteArray):Nat→List Dl→List Occ
 |_,[]=>[]
 |i,d::l=>(pkg,d.2.1,d.1,path,(i:Int))::qUr path pkg (i+1) l
def zDo(f:File):Bool:=qOs f.1&&decide ((qMv f.2).2.2=0)
def qUh(L:List File):List (ByteArray×Sr):=(L.filter zDo).map fun f=>(f.1,(qMv f.2).1)
def qRy(l:List (ByteArray×Sr)):List Occ:=l.flatMap fun x=>qUr x.1 x.2.1 0 x.2.2.2
def seeE(kind:Int)(pkg name:ByteArray)(e:Ent)(o:Occ):Ent:=
 if okey o=keyC kind pkg name then(if e.2.2.2.2.2=0 then(o.1,name,kind,o.2.2.2.1,o.2.2.2.2,1) else(e.1,e.2.1,e.2.2.1,e.2.2.2.1,e.2.2.2.2.1,e.2.2.2.2.2+1)) else e
def noE(kind:Int)(pkg name:ByteArray):Ent:=(if kind=3 then zGx else pkg,name,kind,zGx,0,0)
def entE(O:List Occ)(kind:Int)(pkg name:ByteArray):Ent:=O.foldl (seeE kind pkg name) (noE kind pkg name)
theorem zDq{k k':Int}{p p' n n':ByteArray}(h:keyC k p n=keyC k' p' n'):k=k'∧n=n'∧(k=3∨p=p'):=by
 simp only[keyC,Prod.mk.injEq] at h
 obtain⟨rfl,h2,h3⟩:=h
 refine⟨rfl,h3,?_⟩
 by_cases h:k=3
 ·exact .inl h
 ·rw[if_neg h,if_neg h] at h2;exact .inr h2
def MapE(M:List (K3×Ent))(O:List Occ):Prop:=
 (M.map (·.1)).Nodup∧∀kind pkg name,mget M (keyC kind pkg name)=if(entE O kind pkg name).2.2.2.2.2=0 then none else some (entE O kind pkg name)
theorem zLb(kind:Int)(pkg name:ByteArray):∀(O:List Occ),0≤(entE O kind pkg name).2.2.2.2.2∧(entE O kind pkg name).2.2.2.2.2≤O.length∧((entE O kind pkg name).2.2.2.2.2=0→entE O kind pkg name=noE kind pkg name):=by
 suffices h:∀(O:List Occ) (e:Ent) (b:Nat),0≤e.2.2.2.2.2∧e.2.2.2.2.2≤b∧(e.2.2.2.2.2=0→e=noE kind pkg name)→
   0≤(O.foldl (seeE kind pkg name) e).2.2.2.2.2∧(O.foldl (seeE kind pkg name) e).2.2.2.2.2≤(b+O.length:Nat)∧((O.foldl (seeE kind pkg name) e).2.2.2.2.2=0→O.foldl (seeE kind pkg name) e=noE kind pkg name) by
  intro O
  have:=h O (noE kind pkg name) 0 ⟨f0 _,f0 _,fun _=>rfl⟩
  rw[kK] at this
  exact this
 intro O
 induction O with
 |nil=>intro e b h;exact h
 |cons o O ih=>
  intro e b h
  rw[kZ]
  have:=ih (seeE kind pkg name e o) (b+1) (by
   unfold seeE
   split
   ·split
    ·exact⟨(by show(0:Int)≤1;decide),by show(1:Int)≤_;omega,fun h=>by simp at h⟩
    ·rename_i hc
     refine⟨by show(0:Int)≤e.2.2.2.2.2+1;omega,by show e.2.2.2.2.2+1≤_;omega,fun h1=> ?_⟩
     have h1:e.2.2.2.2.2+1=0:=h1
     omega
   ·exact⟨h.1,by omega,h.2.2⟩)
  rw[jD,show b+(O.length+1)=b+1+O.length by omega]
  exact this
theorem MapE.step{M:List (K3×Ent)}{O:List Occ}(h:MapE M O)(hO:O.length<1000000)(o:Occ):MapE (zKk M o) (O++[o]):=by
 refine⟨zHy h.1 _ _,fun kind pkg name=> ?_⟩
 have hb:=zLb kind pkg name O
 have hE:entE (O++[o]) kind pkg name=seeE kind pkg name (entE O kind pkg name) o:=by
  unfold entE;rw[fT];rfl
 unfold zKk
 rw[zLn h.1,hE]
 by_cases hk:keyC kind pkg name=okey o
 ·rw[if_pos hk,←hk,h.2 kind pkg name]
  unfold seeE
  rw[if_pos hk.symm]
  obtain⟨e1,e2,e3⟩:=zDq hk
  by_cases hc:(entE O kind pkg name).2.2.2.2.2=0
  ·rw[if_pos hc,if_pos hc,if_neg (show ¬(1:Int)=0 by decide),←e1,←e2]
  ·rw[if_neg hc,if_neg hc,if_neg (show ¬(entE O kind pkg name).2.2.2.2.2+1=0 by omega)]
   simp only[wi64 (show-9223372036854775808≤(entE O kind pkg name).2.2.2.2.2+1 by omega) (by omega)]
 ·have hs:seeE kind pkg name (entE O kind pkg name) o=entE O kind pkg name:=by unfold seeE;rw[if_neg (fun e=>hk e.symm)]
  rw[if_neg hk,h.2 kind pkg name,hs]
theorem MapE.fold{O:List Occ}(hO:O.length<1000000):MapE (O.foldl zKk []) O:=by
 suffices h:∀(K:List Occ) (M:List (K3×Ent)) (J:List Occ),J.length+K.length<1000000→MapE M J→MapE (K.foldl zKk M) (J++K) by
  have:=h O [] [] (by simpa using hO) ⟨List.nodup_nil,fun kind pkg name=>by rw[show(entE [] kind pkg name).2.2.2.2.2=0 from rfl,if_pos rfl];rfl⟩
  exact this
 intro K
 induction K with
 |nil=>intro M J _ h;rw[fJ];exact h
 |cons o K ih=>
  intro M J hl h
  rw[kZ,show J++o::K=(J++[o])++K by simp]
  simp only[jD] at hl
  exact ih _ _ (by simp;omega) (h.step (by omega) o)
theorem zOh{L:List File}{x:ByteArray×Sr}(h:x∈qUh L):∃f∈L,zDo f=true∧x=(f.1,(qMv f.2).1):=by
 unfold qUh at h
 obtain⟨f,hf,rfl⟩:=kU.1 h
 exact⟨f,(gM.1 hf).1,(gM.1 hf).2,rfl⟩
theorem zMq(L:List File):(qUh L).length≤L.length:=by
 unfold qUh;rw[gF];exact List.length_filter_le _ _
end
section
open Go Go.Dc Go.Proofs
theorem qVe{α τ σ β:Type}{L:List α}(enc:τ→Nat→σ){f:σ→Option (σ⊕β)}(g:Nat→τ→α→τ)(fin:τ→β)(I:Nat→τ→Prop)
  (hstep:∀t i,∀hi:i<L.length,I i t→f (enc t i)=some (.inl (enc (g i t L[i]) (i+1)))∧I (i+1) (g i t L[i]))
  (hfin:∀t,I L.length t→f (enc t L.length)=some (.inr (fin t))):∀(d i M:Nat) (t:τ),i+d=L.length→d<M→I i t→qAs f M (enc t i)=some (fin (zHb g i t (L.drop i)))∧I L.length (zHb g i t (L.drop i))
 |_,_,0,_,_,h,_=>absurd h (kV _)
 |0,i,M+1,t,h1,h2,h3=>by
  have hi:i=L.length:=by omega
  subst hi
  simp only[qAs,hfin t h3,jA,List.drop_length,zHb]
  exact⟨trivial,h3⟩
 |d+1,i,M+1,t,h1,h2,h3=>by
  have hi:i<L.length:=by omega
  obtain⟨k1,k2⟩:=hstep t i hi h3
  simp only[qAs,k1,jA]
  rw[qOg hi]
  exact qVe enc g fin I hstep hfin d (i+1) M _ (by omega) (by omega) k2
def srcP(L:List File)(p:ByteArray):Sr×Bool:=match(if qPt L=0 then fget L p else none) with
 |some b=>if qOs p=true then((qMv b).1,decide ((qMv b).2.2=0)) else(qVg,false)
 |none=>(qVg,false)
theorem zEu{N:Nat}{L:List File}{p:ByteArray}(hN:1000005<N):qJm N L p=some (srcP L p):=by
 simp only[qJm,qWt p (show 100<N by omega),jA,zBf (show 100<N by omega),zIy _ hN]
 unfold srcP qRj
 by_cases hc:qPt L=0
 ·rw[if_pos hc,if_pos hc]
  cases hg:fget L p with
  |none=>rfl
  |some b=>
   simp only[findR]
   by_cases hs:qOs p=true
   ·rw[if_pos hs,hs]
    simp only[kM,jC,jH,jA]
    congr 2
   ·have hs':qOs p=false:=by simpa using hs
    rw[if_neg hs,hs']
    rfl
 ·rw[if_neg hc,if_neg hc];rfl
theorem zRf{L:List File}(hc:qPt L=0){f:File}(hf:f∈L):(srcP L f.1).2=zDo f∧(zDo f=true→(srcP L f.1).1=(qMv f.2).1):=by
 unfold srcP
 rw[if_pos hc,zAh (qWh.1 hc).2.1 hf]
 simp only[zDo]
 by_cases hs:qOs f.1=true
 ·rw[if_pos hs,hs];exact⟨by simp,fun _=>rfl⟩
 ·rw[if_neg hs]
  have hs':qOs f.1=false:=by simpa using hs
  rw[hs'];exact⟨rfl,fun h=>by simp at h⟩
def zDg(t:List ByteArray×List Sr)(f:File):List ByteArray×List Sr:=if zDo f=true then(t.1++[f.1],t.2++[(qMv f.2).1]) else t
theorem qXf:∀(L:List File) (P:List ByteArray) (S:List Sr),L.foldl zDg (P,S)=(P++(qUh L).map (·.1),S++(qUh L).map (·.2))
 |[],P,S=>by simp[qUh]
 |f::L,P,S=>by
  rw[kZ]
  by_cases h:zDo f=true
  ·have el:qUh (f::L)=(f.1,(qMv f.2).1)::qUh L:=by unfold qUh;rw[fE,if_pos h];rfl
   rw[show zDg (P,S) f=(P++[f.1],S++[(qMv f.2).1]) by unfold zDg;rw[if_pos h],qXf L,el]
   simp
  ·have el:qUh (f::L)=qUh L:=by unfold qUh;rw[fE,if_neg h]
   rw[show zDg (P,S) f=(P,S) by unfold zDg;rw[if_neg h],qXf L,el]
def qJl(L:List File):List (ByteArray×Sr):=if qPt L=0 then qUh L else[]
theorem zLy{N:Nat}{L:List File}(hN:1000005<N):qKr N L=some ((qJl L).map (·.1),(qJl L).map (·.2)):=by
 simp only[qKr,qVd (show 100<N by omega),jA]
 unfold qJl
 by_cases hc:qPt L=0
 ·rw[if_neg (by simp[hc]),if_pos hc]
  have hl:=(qWh.1 hc).1
  have h:=qGo (L:=L) (fun(t:List ByteArray×List Sr) (i:Nat)=>((i:Int),t.1,t.2)) (f:=qGq N L)
   (fun t f=> .inl (zDg t f)) (fun t=>(t.1,t.2)) (fun i t=>t.1.length≤i∧t.2.length≤i) (by
    intro t i hi hI
    simp only[qGq]
    rw[if_pos (by simp only[jB];omega),qCg hi]
    have ew:IntKind.wrap .i64 ((i:Int)+1)=((i+1:Nat):Int):=by rw[wi64 (by omega) (by omega)];omega
    have hs:=zRf hc (jP hi)
    simp only[jA,zEu hN,ew,hs.1]
    unfold zDg
    by_cases h1:zDo L[i]=true
    ·rw[if_pos h1,if_pos h1,qCr (by simp only[jD,jE];omega) (by omega)]
     simp only[jA]
     rw[qCr (by simp only[jD,jE];omega) (by omega)]
     simp only[jA,hs.2 h1]
    ·rw[if_neg h1,if_neg h1];rfl) (by
    intro t i hi t' hI h
    cases h
    unfold zDg
    split
    ·simp only[jF,jD,jE];omega
    ·omega) (by
    intro t hI
    simp only[qGq]
    rw[if_neg (by simp)]) (M:=N) (t:=([],[])) (by omega) ⟨k0 _,k0 _⟩
  rw[show((0:Nat):Int)=0 from rfl] at h
  rw[h,qSj zDg (fun _ _=>rfl),qXf]
  simp only[kF,jA]
 ·rw[if_pos (by simpa using hc),if_neg hc];rfl
theorem zBx(kind:Int)(pkg name path p:ByteArray):∀(l:List Dl) (i:Nat) (e:Ent),
  zHb (fun i e (d:Dl)=>seeE kind pkg name e (p,d.2.1,d.1,path,(i:Int))) i e l=(qUr path p i l).foldl (seeE kind pkg name) e
 |[],_,_=>rfl
 |d::l,i,e=>by simp only[zHb,qUr,kZ];exact zBx kind pkg name path p l (i+1) _
theorem zUc{kind:Int}{pkg name path p:ByteArray}(hk:kind≠3)(hp:p≠pkg):∀(l:List Dl) (i:Nat) (e:Ent),(qUr path p i l).foldl (seeE kind pkg name) e=e
 |[],_,_=>rfl
 |d::l,i,e=>by
  have:seeE kind pkg name e (p,d.2.1,d.1,path,(i:Int))=e:=by
   unfold seeE
   rw[if_neg]
   intro h
   obtain⟨e1,e2,e3⟩:=zDq h
   rcases e3 with e3|e3
   ·exact hk (by rw[←e1];exact e3)
   ·exact hp e3
  simp only[qUr,kZ,this]
  exact zUc hk hp l (i+1) e
def EntI(kind:Int)(name:ByteArray)(b:Nat)(e:Ent):Prop:=e.2.1=name∧e.2.2.1=kind∧0≤e.2.2.2.2.2∧e.2.2.2.2.2≤(b:Int)
theorem EntI.see{kind:Int}{pkg name:ByteArray}{b:Nat}{e:Ent}(h:EntI kind name b e)(o:Occ):EntI kind name (b+1) (seeE kind pkg name e o):=by
 obtain⟨h1,h2,h3,h4⟩:=h
 unfold seeE
 split
 ·split
  ·exact⟨rfl,rfl,(by show(0:Int)≤1;decide),(by show(1:Int)≤_;omega)⟩
  ·exact⟨h1,h2,(by show(0:Int)≤e.2.2.2.2.2+1;omega),(by show e.2.2.2.2.2+1≤_;omega)⟩
 ·exact⟨h1,h2,h3,by omega⟩
theorem zHv{N:Nat}{P:List ByteArray×List Sr}{kind:Int}{pkg name path:ByteArray}{s1:Int×ByteArray×ByteArray×Int×Int}{x:Sr}(hx:idx P.1 s1.1=some path)(hpk:kind=3∨x.1=pkg)
  (hl:x.2.2.length≤64) (hN:1000<N) {b:Nat} (hb:b<1000000) {e:Ent} (hI:EntI kind name b e):
  qAs (qEq N P kind name s1 x) N (0,e.1,e.2.2.2.1,e.2.2.2.2.1,e.2.2.2.2.2)=some (((qUr path x.1 0 x.2.2).foldl (seeE kind pkg name) e).1,((qUr path x.1 0 x.2.2).foldl (seeE kind pkg name) e).2.2.2.1,((qUr path x.1 0 x.2.2).foldl (seeE kind pkg name) e).2.2.2.2.1,((qUr path x.1 0 x.2.2).foldl (seeE kind pkg name) e).2.2.2.2.2)
  ∧EntI kind name (b+64) ((qUr path x.1 0 x.2.2).foldl (seeE kind pkg name) e):=by
 have:=qVe (L:=x.2.2) (fun(e:Ent) (i:Nat)=>((i:Int),e.1,e.2.2.2.1,e.2.2.2.2.1,e.2.2.2.2.2)) (f:=qEq N P kind name s1 x)
  (fun i e (d:Dl)=>seeE kind pkg name e (x.1,d.2.1,d.1,path,(i:Int))) (fun e=>(e.1,e.2.2.2.1,e.2.2.2.2.1,e.2.2.2.2.2)) (fun i e=>EntI kind name (b+i) e) (by
   intro e i hi hI
   refine⟨?_,hI.see _⟩
   obtain⟨h1,h2,h3,h4⟩:=hI
   simp only[qEq]
   rw[if_pos (by simp only[jB];omega),qCg hi]
   have ew:IntKind.wrap .i64 ((i:Int)+1)=((i+1:Nat):Int):=by rw[wi64 (by omega) (by omega)];omega
   have ec:IntKind.wrap .i64 (e.2.2.2.2.2+1)=e.2.2.2.2.2+1:=wi64 (by omega) (by omega)
   simp only[jA,ew,ec,eqB,hx]
   have hkey:okey (x.1,(x.2.2[i]).2.1,(x.2.2[i]).1,path,(i:Int))=keyC kind pkg name↔(x.2.2[i]).1=kind∧(x.2.2[i]).2.1=name:=by
    constructor
    ·intro h;obtain⟨e1,e2,-⟩:=zDq h;exact⟨e1,e2⟩
    ·rintro⟨e1,e2⟩
     unfold okey keyC
     simp only[e1,e2]
     rcases hpk with rfl|rfl
     ·rfl
     ·rfl
   unfold seeE
   by_cases hk:(x.2.2[i]).1=kind
   ·rw[if_pos (show((x.2.2[i]).1==kind)=true by simp[hk])]
    simp only[jA,jB]
    by_cases hn:(x.2.2[i]).2.1=name
    ·rw[if_pos hn,if_pos (hkey.2 ⟨hk,hn⟩)]
     by_cases hc:e.2.2.2.2.2=0
     ·rw[if_pos (by simp[hc]),if_pos hc,hc];rfl
     ·rw[if_neg (show ¬(e.2.2.2.2.2+1==1)=true by rw[kC];omega),if_neg hc];rfl
    ·rw[if_neg hn,if_neg (fun h=>hn (hkey.1 h).2)];rfl
   ·rw[if_neg (show ¬((x.2.2[i]).1==kind)=true by simp[hk])]
    simp only[jA,jC,jH]
    rw[if_neg (fun h=>hk (hkey.1 h).1)]) (by
   intro e _
   simp only[qEq]
   rw[if_neg (by simp)]) x.2.2.length 0 N e (by omega) (by omega) hI
 rw[kA,zBx] at this
 refine⟨this.1,?_⟩
 obtain⟨h1,h2,h3,h4⟩:=this.2
 exact⟨h1,h2,h3,by omega⟩
theorem zAe(kind:Int)(pkg name:ByteArray):∀(l:List (ByteArray×Sr)) (i:Nat) (e:Ent),
  zHb (fun _ e (x:ByteArray×Sr)=>(qUr x.1 x.2.1 0 x.2.2.2).foldl (seeE kind pkg name) e) i e l=(qRy l).foldl (seeE kind pkg name) e
 |[],_,_=>rfl
 |x::l,i,e=>by
  simp only[zHb,qRy,kP,fT]
  exact zAe kind pkg name l (i+1) _
theorem qYz{N:Nat}{l:List (ByteArray×Sr)}(kind:Int)(pkg name:ByteArray)(hl:l.length≤64)(hd:∀x∈l,x.2.2.2.length≤64)(hN:1000<N):
  qEv N (l.map (·.1),l.map (·.2)) kind pkg name=some (entE (qRy l) kind pkg name):=by
 unfold qEv
 have h:=qVe (L:=l) (fun(e:Ent) (i:Nat)=>((i:Int),e.1,e.2.2.2.1,e.2.2.2.2.1,e.2.2.2.2.2)) (f:=qEo N (l.map (·.1),l.map (·.2)) kind pkg name)
  (fun _ e (x:ByteArray×Sr)=>(qUr x.1 x.2.1 0 x.2.2.2).foldl (seeE kind pkg name) e) (fun e=>(e.1,e.2.2.2.1,e.2.2.2.2.1,e.2.2.2.2.2)) (fun i e=>EntI kind name (64*i) e) (by
   intro e i hi hI
   have hi1:i<(l.map (·.1)).length:=by simpa using hi
   have hi2:i<(l.map (·.2)).length:=by simpa using hi
   have ew:IntKind.wrap .i64 ((i:Int)+1)=((i+1:Nat):Int):=by rw[wi64 (by omega) (by omega)];omega
   have ex:idx (l.map (·.1)) (i:Int)=some (l[i]).1:=by rw[qCg hi1];simp
   simp only[qEo]
   rw[if_pos (by simp only[jB];omega),qCg hi2]
   simp only[jA,ew,List.getElem_map,eqB]
   by_cases hs:kind≠3∧(l[i]).2.1≠pkg
   ·rw[if_pos (show(kind !=3)=true by simp[hs.1])]
    simp only[jA]
    rw[if_pos (by simp[hs.2]),zUc hs.1 hs.2]
    refine⟨rfl,?_⟩
    obtain⟨h1,h2,h3,h4⟩:=hI
    exact⟨h1,h2,h3,by omega⟩
   ·have hpk:kind=3∨(l[i]).2.1=pkg:=by
     by_cases h:kind=3
     ·exact .inl h
     ·exact .inr (Decidable.byContradiction fun h2=>hs ⟨h,h2⟩)
    have hloop:=zHv (N:=N) (P:=(l.map (·.1),l.map (·.2))) (s1:=((i:Int),e.1,e.2.2.2.1,e.2.2.2.2.1,e.2.2.2.2.2)) (x:=(l[i]).2) (path:=(l[i]).1) (pkg:=pkg) ex hpk (hd _ (jP hi)) hN (b:=64*i) (by omega) hI
    have hsk:(if(kind !=3)=true then some (!decide ((l[i]).2.1=pkg)) else some false:Option Bool)=some false:=by
     rcases hpk with h|h
     ·rw[if_neg (by simp[h])]
     ·by_cases hk:kind=3
      ·rw[if_neg (by simp[hk])]
      ·rw[if_pos (by simp[hk]),kG h];rfl
    rw[hsk]
    simp only[jA,jC,jH,hloop.1]
    refine⟨trivial,?_⟩
    rw[show 64*(i+1)=64*i+64 by omega]
    exact hloop.2) (by
   intro e _
   simp only[qEo]
   rw[if_neg (by simp)]) l.length 0 N (noE kind pkg name) (by omega) (by omega) ⟨rfl,rfl,f0 _,f0 _⟩
 rw[kA,zAe] at h
 have e0:(if(kind==3)=true then some (⟨#[]⟩:ByteArray) else some pkg)=some (noE kind pkg name).1:=by
  unfold noE
  by_cases h:kind=3
  ·rw[if_pos (by simp[h]),if_pos h];rfl
  ·rw[if_neg (by simp[h]),if_neg h]
 rw[e0]
 simp only[jA]
 refine Eq.trans (congrArg (fun z=>Option.bind z _) (show qAs (qEo N (l.map (·.1),l.map (·.2)) kind pkg name) N (0,(noE kind pkg name).1,(⟨#[]⟩:ByteArray),0,0)=_ from h.1)) ?_
 have h1:=h.2.1
 have h2:=h.2.2.1
 unfold entE
 simp only[jA]
 exact congrArg some (Prod.ext rfl (Prod.ext h1.symm (Prod.ext h2.symm rfl)))
end
section
open Go Go.Dc
abbrev Hd:=Int×Int×Int×ByteArray
inductive Rose where
 |mk (h:Hd) (ks:List Rose)
def Rose.hd:Rose→Hd
 | .mk h _=>h
def Rose.ks:Rose→List Rose
 | .mk _ ks=>ks
mutual
def Rose.size:Rose→Nat
 | .mk _ ks=>qEs ks+1
def qEs:List Rose→Nat
 |[]=>0
 |t::l=>t.size+qEs l
end
def qIi:Nat→List Rose→List Int
 |_,[]=>[]
 |b,t::l=>((b+t.size-1:Nat):Int)::qIi (b+t.size) l
def qMh(h:Hd)(args:List Int):Ex:=(h.1,h.2.1,h.2.2.1,h.2.2.2,args)
mutual
def Rose.flat(b:Nat):Rose→List Ex
 | .mk h ks=>qOh b ks++[qMh h (qIi b ks)]
def qOh(b:Nat):List Rose→List Ex
 |[]=>[]
 |t::l=>t.flat b++qOh (b+t.size) l
end
theorem Rose.pos(t:Rose):0<t.size:=by cases t;unfold Rose.size;omega
mutual
theorem qIq(t:Rose)(b:Nat):(t.flat b).length=t.size:=by
 match t with
 | .mk h ks=>unfold Rose.flat Rose.size;rw[jF,qVq ks b];rfl
theorem qVq(l:List Rose)(b:Nat):(qOh b l).length=qEs l:=by
 match l with
 |[]=>rfl
 |t::l=>unfold qOh qEs;rw[jF,qIq t b,qVq l (b+t.size)]
end
theorem qMm:∀(l:List Rose) (b:Nat),(qIi b l).length=l.length
 |[],_=>rfl
 |t::l,b=>by simp only[qIi,jD,qMm l]
theorem qZq:∀(l k:List Rose),qEs (l++k)=qEs l+qEs k
 |[],k=>by rw[kF,show qEs []=0 from rfl,kK]
 |t::l,k=>by
  have ih:=qZq l k
  rw[kQ,show qEs (t::(l++k))=t.size+qEs (l++k) from rfl,show qEs (t::l)=t.size+qEs l from rfl];omega
theorem zAk:∀(l k:List Rose) (b:Nat),qIi b (l++k)=qIi b l++qIi (b+qEs l) k
 |[],k,b=>by simp[qIi,qEs]
 |t::l,k,b=>by
  rw[kQ]
  simp only[qIi,qEs,zAk l k,kQ]
  rw[gQ]
theorem qZe:∀(l k:List Rose) (b:Nat),qOh b (l++k)=qOh b l++qOh (b+qEs l) k
 |[],k,b=>by simp[qOh,qEs]
 |t::l,k,b=>by
  rw[kQ]
  simp only[qOh,qEs,qZe l k,jO]
  rw[gQ]
theorem qTp:∀l:List Rose,l.length≤qEs l
 |[]=>k0 _
 |t::l=>by
  have:=qTp l
  have:=t.pos
  simp only[qEs,jD];omega
def ordS:List Ex→Nat→List Int→Option (List Int)
 |[],_,st=>some st
 |x::l,i,st=>if x.2.2.2.2.length≤st.length∧st.drop (st.length-x.2.2.2.2.length)=x.2.2.2.2 then ordS l (i+1) (st.take (st.length-x.2.2.2.2.length)++[(i:Int)]) else none
theorem zHj{fs:List Rose}{h:Hd}{args:List Int}{m:Nat}(h1:args.length≤fs.length)(hm:fs.length-args.length=m)(h2:(qIi 0 fs).drop m=args):
  qEs (fs.take m++[Rose.mk h (fs.drop m)])=qEs fs+1∧qIi 0 (fs.take m++[Rose.mk h (fs.drop m)])=(qIi 0 fs).take m++[((qEs fs:Nat):Int)]∧qOh 0 (fs.take m++[Rose.mk h (fs.drop m)])=qOh 0 fs++[qMh h args]:=by
 have hfs:fs=fs.take m++fs.drop m:=(fH m fs).symm
 have hml:(fs.take m).length=m:=by rw[kN];omega
 have hr:qIi 0 fs=qIi 0 (fs.take m)++qIi (qEs (fs.take m)) (fs.drop m):=by
  conv=>lhs;rw[hfs]
  rw[zAk,kK]
 have hf:qOh 0 fs=qOh 0 (fs.take m)++qOh (qEs (fs.take m)) (fs.drop m):=by
  conv=>lhs;rw[hfs]
  rw[qZe,kK]
 have hs:qEs fs=qEs (fs.take m)+qEs (fs.drop m):=by
  conv=>lhs;rw[hfs]
  rw[qZq]
 have hl1:(qIi 0 (fs.take m)).length=m:=by rw[qMm,hml]
 have ha:args=qIi (qEs (fs.take m)) (fs.drop m):=by
  rw[←h2,hr,gI (by omega),jQ (by omega),kF]
 have ht:(qIi 0 fs).take m=qIi 0 (fs.take m):=by
  rw[hr,gA (by omega),kW (by omega)]
 rw[ht]
 refine⟨?_,?_,?_⟩
 ·rw[qZq,hs];simp only[qEs,Rose.size];omega
 ·rw[zAk,kK]
  simp only[qIi,Rose.size]
  rw[hs,show qEs (fs.take m)+(qEs (fs.drop m)+1)-1=qEs (fs.take m)+qEs (fs.drop m) by omega]
 ·rw[qZe,kK,hf,jO]
  simp only[qOh,Rose.flat,fJ,←ha]
theorem zNx(x:Ex)(l:List Ex)(i:Nat)(st a:List Int)(h:x.2.2.2.2=a):ordS (x::l) i st=if a.length≤st.length∧st.drop (st.length-a.length)=a then ordS l (i+1) (st.take (st.length-a.length)++[(i:Int)]) else none:=by
 subst h;rfl
def AtT(l:List Ex)(b:Nat)(t:Rose):Prop:=∃p q,l=p++t.flat b++q∧p.length=b
def AtTs(l:List Ex)(b:Nat)(ts:List Rose):Prop:=∃p q,l=p++qOh b ts++q∧p.length=b
theorem AtT.whole(t:Rose):AtT (t.flat 0) 0 t:=⟨[],[],by simp,rfl⟩
theorem AtT.args{l:List Ex}{b:Nat}{h:Hd}{ks:List Rose}(g:AtT l b (.mk h ks)):l[b+qEs ks]? =some (qMh h (qIi b ks))∧AtTs l b ks:=by
 obtain⟨p,q,rfl,rfl⟩:=g
 unfold Rose.flat
 constructor
 ·rw[jO,List.getElem?_append_right (by omega),jO,List.getElem?_append_right (by rw[qVq];omega),qVq]
  rw[show p.length+qEs ks-p.length-qEs ks=0 by omega]
  rfl
 ·exact⟨p,[qMh h (qIi p.length ks)]++q,by simp only[jO],rfl⟩
theorem AtTs.head{l:List Ex}{b:Nat}{t:Rose}{ts:List Rose}(g:AtTs l b (t::ts)):AtT l b t∧AtTs l (b+t.size) ts:=by
 obtain⟨p,q,rfl,rfl⟩:=g
 unfold qOh
 exact⟨⟨p,qOh (p.length+t.size) ts++q,by simp only[jO],rfl⟩,⟨p++t.flat p.length,q,by simp only[jO],by rw[jF,qIq]⟩⟩
theorem AtT.le{l:List Ex}{b:Nat}{t:Rose}(g:AtT l b t):b+t.size≤l.length:=by
 obtain⟨p,q,rfl,rfl⟩:=g
 rw[jF,jF,qIq];omega
end
section
open Go Go.Dc
def qHx(s:ByteArray):Bool:=qNl s&& !resC s
def emB:ByteArray:=⟨#[]⟩
theorem and_if(a b:Bool):(if a=true then some b else some false:Option Bool)=some (a&&b):=by cases a<;>rfl
theorem eqE(s:ByteArray):(s.toList==(⟨#[]⟩:ByteArray).toList)=decide (s=emB):=qFj _ _
def argN(x:Ex):Int:=(x.2.2.2.2.length:Int)
def qUp(np:Int)(x:Ex):Bool:=
 if x.1=1 then decide (x.2.2.2.1=emB)&&(x.2.2.1==0&&(argN x==0&&(decide (x.2.1≥-9007199254740992)&&decide (x.2.1≤9007199254740992))))
 else if x.1=2 then decide (x.2.2.2.1=emB)&&(x.2.2.1==0&&(argN x==0&&(decide (x.2.1≥0)&&decide (x.2.1<np))))
 else if x.1=3 then x.2.1==0&&(x.2.2.1==0&&qHx x.2.2.2.1)
 else if x.1=4 then x.2.1==0&&(decide (x.2.2.2.1=emB)&&(argN x==2&&(decide (x.2.2.1≥1)&&decide (x.2.2.1≤7))))
 else if x.1=5 then x.2.1==0&&(decide (x.2.2.2.1=emB)&&(x.2.2.1==0&&argN x==3))
 else if x.1=6 then x.2.1==0&&(x.2.2.1==0&&(argN x==1&&qJi x.2.2.2.1.data.toList))
 else if x.1=7∨x.1=8 then x.2.1==0&&(x.2.2.1==0&&(argN x==0&&qJi x.2.2.2.1.data.toList))
 else if x.1=9 then x.2.1==0&&(x.2.2.1==0&&(argN x==0&&qNl x.2.2.2.1))
 else if x.1=10 then decide (x.2.2.2.1=emB)&&(x.2.2.1==0&&(argN x==0&&(decide (x.2.1≥0)&&decide (x.2.1<64))))
 else false
def StOk(st:List Int):Nat→List Rose→Prop
 |_,[]=>True
 |b,t::l=>st[b+t.size-1]? =some (b:Int)∧StOk st (b+t.size) l
theorem StOk.app{st:List Int}:∀{l k:List Rose} {b:Nat},StOk st b (l++k)↔StOk st b l∧StOk st (b+qEs l) k
 |[],k,b=>by simp[StOk,qEs]
 |t::l,k,b=>by
  rw[kQ]
  simp only[StOk,qEs,StOk.app (l:=l)]
  rw[and_assoc,gQ]
theorem StOk.set{st:List Int}{i:Nat}{v:Int}:∀{l:List Rose} {b:Nat},StOk st b l→b+qEs l≤i→StOk (st.set i v) b l
 |[],_,_,_=>trivial
 |t::l,b,h,hi=>by
  have hp:=t.pos
  simp only[qEs] at hi
  exact⟨by rw[List.getElem?_set_ne (by omega)];exact h.1,h.2.set (by omega)⟩
theorem qZv{α:Type}{l:List α}{i:Nat}{v:α}(h:l[i]? =some v):idx l (i:Int)=some v:=by
 have hi:i<l.length:=by
  by_cases hl:i<l.length
  ·exact hl
  ·rw[List.getElem?_eq_none (by omega)] at h;cases h
 rw[qCg hi]
 rw[List.getElem?_eq_getElem hi] at h
 exact h
end
section
open Go Go.Dc
def oneP:Option (List Int)→Bool
 |some [_]=>true
 |_=>false
def zQz(d:Dl):Bool:=d.2.2.2.all (qUp (d.2.2.1.length:Int))&&oneP (ordS d.2.2.2 0 [])
def zPm(d:Dl):Bool:=if d.1=1∨d.1=2 then qHx d.2.1 else if d.1=3 then qJi d.2.1.data.toList else false
def zTr(d:Dl):Bool:=d.2.2.1.all fun s=>d.1==1&&qHx s
def qLy(d:Dl):Bool:=zPm d&&(zTr d&&zQz d)
def SmD(d:Dl):Prop:=d.2.1.size≤1048576∧d.2.2.1.length<2000000∧d.2.2.2.length<2000000∧∀x∈d.2.2.2,x.2.2.2.1.size≤1048576∧x.2.2.2.2.length<2000000
def SmSr(f:Sr):Prop:=f.2.1.length<2000000∧f.2.2.length<2000000∧∀d∈f.2.2,SmD d
def synP(f:Sr):Bool:=qHx f.1&&(f.2.1.all qHx&&f.2.2.all qLy)
def dupG{α:Type}[DecidableEq α]:List α→List α→Bool
 |_,[]=>false
 |seen,x::l=>decide (x∈seen)||dupG (seen++[x]) l
def dupL{α:Type}[DecidableEq α](l:List α):Bool:=dupG [] l
abbrev Nm2:=Int×ByteArray
instance decMemN(s:Nm2)(l:List Nm2):Decidable (s∈l):=@List.instDecidableMemOfLawfulBEq Nm2 instBEqOfDecidableEq inferInstance s l
def qVh(d:Dl):Nm2:=(d.1,d.2.1)
def zKc(f:Sr):Bool:=f.2.2.any (fun d=>dupL d.2.2.1)||(decide (f.1∈f.2.1)||(dupL f.2.1||dupL (f.2.2.map qVh)))
end
section
open Go Go.Dc
def zLp:List Ex→List Rose→List Rose
 |[],fs=>fs
 |x::l,fs=>zLp l (fs.take (fs.length-x.2.2.2.2.length)++[Rose.mk (x.1,x.2.1,x.2.2.1,x.2.2.2.1) (fs.drop (fs.length-x.2.2.2.2.length))])
def zOm(l:List Ex):Option Rose:=match zLp l [] with
 |[t]=>some t
 |_=>none
theorem zJq:∀(l:List Ex) (fs:List Rose) {st:List Int},ordS l (qEs fs) (qIi 0 fs)=some st→qOh 0 (zLp l fs)=qOh 0 fs++l∧st=qIi 0 (zLp l fs)
 |[],fs,st,h=>⟨by simp[zLp],(jZ h).symm⟩
 |x::l,fs,st,h=>by
  rw[zNx x _ _ _ x.2.2.2.2 rfl] at h
  split at h
  ·rename_i hc
   obtain⟨h1,h2⟩:=hc
   rw[qMm] at h1 h2 h
   obtain⟨e1,e2,e3⟩:=zHj (h:=(x.1,x.2.1,x.2.2.1,x.2.2.2.1)) h1 rfl h2
   rw[←e1,←e2] at h
   obtain⟨g1,g2⟩:=zJq l _ h
   exact⟨by rw[zLp,g1,e3,jO];rfl,g2⟩
  ·cases h
theorem zDy{l:List Ex}(h:oneP (ordS l 0 [])=true):∃t,zOm l=some t∧l=t.flat 0:=by
 cases ho:ordS l 0 [] with
 |none=>rw[ho] at h;cases h
 |some st=>
  rw[ho] at h
  obtain⟨g1,g2⟩:=zJq l [] ho
  have hl:st.length=1:=by
   match st,h with
   |[x],_=>rfl
  rw[g2,qMm] at hl
  obtain⟨t,ht⟩:=List.length_eq_one_iff.1 hl
  refine⟨t,by unfold zOm;rw[ht],?_⟩
  rw[ht] at g1
  simpa[qOh] using g1.symm
mutual
def Rose.deepen(d:Nat):Rose→Nat
 | .mk h ks=>max d (qNs (if h.1=4 then d else d+1) ks)
def qNs(d:Nat):List Rose→Nat
 |[]=>0
 |t::l=>max (t.deepen d) (qNs d l)
end
def zKf(dp:List Int)(a:List Int)(v:Int):List Int:=a.foldl (fun dp a=>dp.set a.toNat v) dp
theorem zGf{j:Nat}{v:Int}:∀(ks:List Rose) (b:Nat) (dp:List Int),j<b→(zKf dp (qIi b ks) v)[j]? =dp[j]?
 |[],_,_,_=>rfl
 |t::l,b,dp,h=>by
  have hp:=t.pos
  show(zKf (dp.set (((b+t.size-1:Nat):Int)).toNat v) (qIi (b+t.size) l) v)[j]? =_
  rw[zGf l (b+t.size) _ (by omega),jS,List.getElem?_set_ne (by omega)]
def DpOk(dp:List Int):Nat→List (Rose×Nat)→Prop
 |_,[]=>True
 |b,p::l=>(∃v:Int,dp[b+p.1.size-1]? =some v∧(v=(p.2:Int)∨v=0∧p.2=1))∧DpOk dp (b+p.1.size) l
theorem DpOk.app{dp:List Int}:∀{l k:List (Rose×Nat)} {b:Nat},DpOk dp b (l++k)↔DpOk dp b l∧DpOk dp (b+qEs (l.map (·.1))) k
 |[],k,b=>by simp[DpOk,qEs]
 |t::l,k,b=>by
  rw[kQ]
  simp only[DpOk,k9,qEs,DpOk.app (l:=l)]
  rw[and_assoc,gQ]
theorem DpOk.congr{dp dp':List Int}:∀{l:List (Rose×Nat)} {b:Nat},DpOk dp b l→(∀j,j<b+qEs (l.map (·.1))→dp'[j]? =dp[j]?)→DpOk dp' b l
 |[],_,_,_=>trivial
 |t::l,b,h,hj=>by
  have hp:=t.1.pos
  simp only[k9,qEs] at hj
  refine⟨?_,h.2.congr fun j h=>hj j (by omega)⟩
  obtain⟨v,h1,h2⟩:=h.1
  exact⟨v,by rw[hj _ (by omega)];exact h1,h2⟩
theorem DpOk.kids{d:Nat}:∀{ks:List Rose} {b:Nat} {dp:List Int},b+qEs ks≤dp.length→DpOk (zKf dp (qIi b ks) (d:Int)) b (ks.map fun t=>(t,d))
 |[],_,_,_=>trivial
 |t::l,b,dp,h=>by
  have hp:=t.pos
  simp only[qEs] at h
  show DpOk (zKf (dp.set (((b+t.size-1:Nat):Int)).toNat d) (qIi (b+t.size) l) d) b ((t,d)::l.map fun t=>(t,d))
  refine⟨⟨d,?_,.inl rfl⟩,DpOk.kids (by rw[dG];omega)⟩
  rw[zGf l (b+t.size) _ (by show b+t.size-1<b+t.size;omega),jS,List.getElem?_set_self (by omega)]
def zMk(l:List Ex):Bool:=match zOm l with
 |some t=>decide (32<t.deepen 1)
 |none=>false
def zIo(d:Dl):Bool:=decide (8<d.2.2.1.length)||(decide (256<d.2.2.2.length)||zMk d.2.2.2)
def zSe(f:Sr):Bool:=decide (8<f.2.1.length)||(decide (64<f.2.2.length)||f.2.2.any zIo)
def qZo(f:Sr):Int:=if synP f=true then if zKc f=true then 10 else if zSe f=true then 2 else 0 else 9
end
end Go.Proofs.YtfbdkahdgbimeaaGreatDoor
namespace Go.Dc
section
def itB(n:Int):ByteArray:=⟨(Lib.itoa n).toArray⟩
end
end Go.Dc
namespace Go.Proofs.YtfbdkahdgbimeaaGreatDoor
section
open Go Go.Dc Go.Proofs
def lvH(h:Hd):Int:=if h.1=5 then 0 else if h.1=4 then(if h.2.2.1=6∨h.2.2.1=7 then 1 else if h.2.2.1=1∨h.2.2.1=2 then 2 else 3) else 4
def qPw(h:Hd)(k:Nat):Int:=if h.1=4 then(if k=0 then(if lvH h=1 then 2 else lvH h) else lvH h+1) else 0
def signsM:List (Int×ByteArray):=[(1,⟨#[43]⟩),(2,⟨#[45]⟩),(3,⟨#[42]⟩),(4,⟨#[47]⟩),(5,⟨#[37]⟩),(6,⟨#[60]⟩),(7,⟨#[61,61]⟩)]
def zOj(op:Int):ByteArray:=(qTq (some signsM) op).getD ⟨#[]⟩
def wordsM:List (Int×ByteArray):=[(7,⟨#[115,105,122,101]⟩),(8,⟨#[104,97,115]⟩),(9,⟨#[101,110,118]⟩)]
def zSw(k:Int):ByteArray:=(qTq (some wordsM) k).getD ⟨#[]⟩
def tI:List UInt8:=[105,102,32]
def tThen:List UInt8:=[32,116,104,101,110,32]
def tElse:List UInt8:=[32,101,108,115,101,32]
def sepK(k:Nat):List UInt8:=if k=0 then[] else[44,32]
def qXb:Nat→List (List UInt8)→List UInt8
 |_,[]=>[]
 |k,w::ws=>sepK k++(w++qXb (k+1) ws)
def qUb(ps:List ByteArray)(h:Hd)(ws:List (List UInt8)):List UInt8:=
 if h.1=1 then(itB h.2.1).data.toList
 else if h.1=2 then(ps.getD h.2.1.toNat ⟨#[]⟩).data.toList
 else if h.1=4 then ws.getD 0 []++((((⟨#[32]⟩:ByteArray)++zOj h.2.2.1)++(⟨#[32]⟩:ByteArray)).data.toList++ws.getD 1 [])
 else if h.1=5 then tI++(ws.getD 0 []++(tThen++(ws.getD 1 []++(tElse++ws.getD 2 []))))
 else if h.1=3 then(h.2.2.2++(⟨#[40]⟩:ByteArray)).data.toList++(qXb 0 ws++[41])
 else if h.1=6 then(((⟨#[114,101,97,100,40,34]⟩:ByteArray)++h.2.2.2)++(⟨#[34,44,32]⟩:ByteArray)).data.toList++(ws.getD 0 []++[41])
 else if h.1=10 then(((⟨#[102,108,105,112,40]⟩:ByteArray)++itB h.2.1)++(⟨#[41]⟩:ByteArray)).data.toList
 else(((zSw h.1++(⟨#[40,34]⟩:ByteArray))++h.2.2.2)++(⟨#[34,41]⟩:ByteArray)).data.toList
mutual
def Rose.wr(ps:List ByteArray)(need:Int):Rose→List UInt8
 | .mk h ks=>if lvH h<need then 40::(qUb ps h (wrs ps h 0 ks)++[41]) else qUb ps h (wrs ps h 0 ks)
def wrs(ps:List ByteArray)(h:Hd)(k:Nat):List Rose→List (List UInt8)
 |[]=>[]
 |t::l=>t.wr ps (qPw h k)::wrs ps h (k+1) l
end
mutual
def Rose.dep(need:Int)(d:Nat):Rose→Nat
 | .mk h ks=>max (if lvH h<need then d+1 else d) (deps h 0 (if h.1=4 then(if lvH h<need then d+1 else d) else(if lvH h<need then d+1 else d)+1) ks)
def deps(h:Hd)(k d:Nat):List Rose→Nat
 |[]=>0
 |t::l=>max (t.dep (qPw h k) d) (deps h (k+1) d l)
end
theorem catW{x y:ByteArray}(h:x.size+y.size≤1000000000):catB x y=some (x++y):=by
 unfold catB
 rw[if_pos (fL h (by decide))]
theorem szl(x:ByteArray):x.data.toList.length=x.size:=by simp
theorem max_if(m d:Nat):(if(d:Int)>(m:Int) then(d:Int) else(m:Int))=((max m d:Nat):Int):=by
 split<;>omega
section
variable (N:Nat) (l:List Ex) (ps:List ByteArray)
variable {N l ps}
theorem zFm{np:Int}{x:Ex}(h:qUp np x=true):
  (x.1=1∧x.2.2.2.2.length=0∧-9007199254740992≤x.2.1∧x.2.1≤9007199254740992∧x.2.2.1=0∧x.2.2.2.1=emB)∨(x.1=2∧x.2.2.2.2.length=0∧0≤x.2.1∧x.2.1<np∧x.2.2.1=0∧x.2.2.2.1=emB)∨(x.1=3∧qHx x.2.2.2.1=true∧x.2.1=0∧x.2.2.1=0)∨(x.1=4∧x.2.2.2.2.length=2∧1≤x.2.2.1∧x.2.2.1≤7∧x.2.1=0∧x.2.2.2.1=emB)∨
  (x.1=5∧x.2.2.2.2.length=3∧x.2.1=0∧x.2.2.1=0∧x.2.2.2.1=emB)∨(x.1=6∧x.2.2.2.2.length=1∧qJi x.2.2.2.1.data.toList=true∧x.2.1=0∧x.2.2.1=0)∨((x.1=7∨x.1=8)∧x.2.2.2.2.length=0∧qJi x.2.2.2.1.data.toList=true∧x.2.1=0∧x.2.2.1=0)∨(x.1=9∧x.2.2.2.2.length=0∧qNl x.2.2.2.1=true∧x.2.1=0∧x.2.2.1=0)∨
  (x.1=10∧x.2.2.2.2.length=0∧0≤x.2.1∧x.2.1<64∧x.2.2.1=0∧x.2.2.2.1=emB):=by
 unfold qUp argN at h
 by_cases h1:x.1=1
 ·simp only[if_pos h1,jN,jB,kC] at h
  exact .inl ⟨h1,by omega,h.2.2.2.1,h.2.2.2.2,h.2.1,h.1⟩
 rw[if_neg h1] at h
 by_cases h2:x.1=2
 ·simp only[if_pos h2,jN,jB,kC] at h
  exact .inr (.inl ⟨h2,by omega,h.2.2.2.1,h.2.2.2.2,h.2.1,h.1⟩)
 rw[if_neg h2] at h
 by_cases h3:x.1=3
 ·simp only[if_pos h3,jN,jB,kC] at h
  exact .inr (.inr (.inl ⟨h3,h.2.2,h.1,h.2.1⟩))
 rw[if_neg h3] at h
 by_cases h4:x.1=4
 ·simp only[if_pos h4,jN,jB,kC] at h
  exact .inr (.inr (.inr (.inl ⟨h4,by omega,h.2.2.2.1,h.2.2.2.2,h.1,h.2.1⟩)))
 rw[if_neg h4] at h
 by_cases h5:x.1=5
 ·simp only[if_pos h5,jN,jB,kC] at h
  exact .inr (.inr (.inr (.inr (.inl ⟨h5,by omega,h.1,h.2.2.1,h.2.1⟩))))
 rw[if_neg h5] at h
 by_cases h6:x.1=6
 ·simp only[if_pos h6,jN,jB,kC] at h
  exact .inr (.inr (.inr (.inr (.inr (.inl ⟨h6,by omega,h.2.2.2,h.1,h.2.1⟩)))))
 rw[if_neg h6] at h
 by_cases h7:x.1=7∨x.1=8
 ·simp only[if_pos h7,jN,jB,kC] at h
  exact .inr (.inr (.inr (.inr (.inr (.inr (.inl ⟨h7,by omega,h.2.2.2,h.1,h.2.1⟩))))))
 rw[if_neg h7] at h
 by_cases h9:x.1=9
 ·simp only[if_pos h9,jN,jB,kC] at h
  exact .inr (.inr (.inr (.inr (.inr (.inr (.inr (.inl ⟨h9,by omega,h.2.2.2,h.1,h.2.1⟩)))))))
 rw[if_neg h9] at h
 by_cases h10:x.1=10
 ·simp only[if_pos h10,jN,jB,kC] at h
  exact .inr (.inr (.inr (.inr (.inr (.inr (.inr (.inr ⟨h10,by omega,h.2.2.2.1,h.2.2.2.2,h.2.1,h.1⟩)))))))
 rw[if_neg h10] at h
 cases h
end
end
section
open Go Go.Dc Go.Proofs
section
variable {N:Nat} {l:List Ex} {ps:List ByteArray}
theorem len0{b:Nat}{ks:List Rose}(h:(qIi b ks).length=0):ks=[]:=by
 rw[qMm] at h
 exact kT.1 h
theorem len1{b:Nat}{ks:List Rose}(h:(qIi b ks).length=1):∃t,ks=[t]:=by
 rw[qMm] at h
 exact List.length_eq_one_iff.1 h
theorem len2{b:Nat}{ks:List Rose}(h:(qIi b ks).length=2):∃t u,ks=[t,u]:=by
 rw[qMm] at h
 match ks,h with
 |[t,u],_=>exact⟨t,u,rfl⟩
theorem len3{b:Nat}{ks:List Rose}(h:(qIi b ks).length=3):∃t u v,ks=[t,u,v]:=by
 rw[qMm] at h
 match ks,h with
 |[t,u,v],_=>exact⟨t,u,v,rfl⟩
end
end
section
open Go Go.Dc
abbrev Ct:=Int×List UInt8
abbrev Core:=Int×ByteArray×Int
def coreC(c:Ct):Core:=(c.1,if c.1=2 then⟨#[]⟩ else⟨⟨c.2⟩⟩,if c.1=2 then numL c.2 else 0)
def coreT(t:Tok):Core:=(t.1,t.2.1,t.2.2.1)
abbrev Pc:=Ct×List UInt8
end
section
open Go Go.Dc Go.Proofs
theorem zJx{n:Nat}(h:¬n<10):Lib.decDigits n=Lib.decDigits (n/10)++[UInt8.ofNat (48+n%10)]:=by rw[Lib.decDigits,dif_neg h]
theorem qXa:∀(k n:Nat),n<10^(k+1)→(Lib.decDigits n).length≤k+1
 |0,n,h=>by rw[Lib.decDigits_one (by simpa using h)];exact jU _
 |k+1,n,h=>by
  by_cases h10:n<10
  ·rw[Lib.decDigits_one h10];simp
  ·rw[dC] at h
   have:=qXa k (n/10) (by omega)
   rw[zJx h10,jF,List.length_singleton];omega
theorem qQf(n:Nat):(itB (n:Int)).data.toList=Lib.decDigits n:=by
 unfold itB Lib.itoa
 rw[if_neg (by omega),jS]
theorem qSr{x y:ByteArray}(h:x.data.toList=y.data.toList):x=y:=ByteArray.ext (Array.ext' h)
theorem qOk(x y:ByteArray):(x++y).data.toList=x.data.toList++y.data.toList:=by
 rw[ByteArray.data_append,Array.toList_append]
theorem zSx:∀i:Fin 10,((⟨#[48,49,50,51,52,53,54,55,56,57]⟩:ByteArray).extract i.val (i.val+1)).data.toList=[UInt8.ofNat (48+i.val)]:=by decide+kernel
end
section
open Go Go.Dc Go.Proofs
theorem qZt{s:ByteArray}(h:qNl s=true):s.size≤24:=by
 have:=(gC h).2.1
 rw[szl] at this;exact this
theorem qRe{s:ByteArray}(h:qJi s.data.toList=true):s.size≤80:=by
 have:s.data.toList.length≤80:=(gC h).1
 rw[szl] at this;exact this
theorem qKj{s:ByteArray}(h:qHx s=true):s.size≤24:=by
 unfold qHx at h
 rw[jN] at h
 exact qZt h.1
theorem zGt{op:Int}(h0:1≤op)(h1:op≤7):(zOj op).size≤2:=by
 rcases(by omega:op=1∨op=2∨op=3∨op=4∨op=5∨op=6∨op=7) with rfl|rfl|rfl|rfl|rfl|rfl|rfl<;>decide+kernel
theorem zGb{k:Int}(h:k=7∨k=8∨k=9):(zSw k).size≤4:=by
 rcases h with rfl|rfl|rfl<;>decide+kernel
theorem zDx{n:Int}(h0: -9007199254740992≤n)(h1:n≤9007199254740992):(itB n).size≤17:=by
 rw[←szl]
 show(Lib.itoa n).length≤17
 unfold Lib.itoa
 split
 ·have:=qXa 15 n.natAbs (by omega)
  simp only[jD];omega
 ·have:=qXa 15 n.toNat (by omega)
  omega
def lens(ws:List (List UInt8)):Nat:=(ws.map fun w=>w.length+2).sum
theorem qYo:∀(ws:List (List UInt8)) (k:Nat),(qXb k ws).length≤lens ws
 |[],_=>k0 _
 |w::ws,k=>by
  have ih:=qYo ws (k+1)
  have hs:(sepK k).length≤2:=by unfold sepK;split<;>simp
  unfold lens at*
  simp only[qXb,jF,k9,dE];omega
theorem zRw{ps:List ByteArray}{h:Hd}{ks:List Rose}{b:Nat}(hps:∀s∈ps,s.size≤24)(hn:qUp (ps.length:Int) (qMh h (qIi b ks))=true):(qUb ps h (wrs ps h 0 ks)).length≤100+lens (wrs ps h 0 ks):=by
 rcases zFm hn with ⟨k,a,n0,n1,-,-⟩|⟨k,a,n0,n1,-,-⟩|⟨k,a,-,-⟩|⟨k,a,n0,n1,-,-⟩|⟨k,a,-,-,-⟩|⟨k,a,n0,-,-⟩|⟨k,a,n0,-,-⟩|⟨k,a,n0,-,-⟩|⟨k,a,n0,n1,-,-⟩
 all_goals (try simp only[qMh] at k)<;>(try simp only[qMh] at a)
 ·have:(itB h.2.1).size≤17:=zDx n0 n1
  unfold qUb
  rw[if_pos k,szl];omega
 ·have k1:h.1≠1:=by omega
  try simp only[qMh] at n0 n1
  have hlt:h.2.1.toNat<ps.length:=by omega
  have e:ps.getD h.2.1.toNat ⟨#[]⟩=ps[h.2.1.toNat]:=by rw[kX,List.getElem?_eq_getElem hlt];rfl
  have:=hps _ (jP hlt)
  unfold qUb
  rw[if_neg k1,if_pos k,e,szl];omega
 ·have k1:h.1≠1:=by omega
  have k2:h.1≠2:=by omega
  have k4:h.1≠4:=by omega
  have k5:h.1≠5:=by omega
  have h1:=qKj a
  have h2:=qYo (wrs ps h 0 ks) 0
  have z1:(⟨#[40]⟩:ByteArray).size=1:=rfl
  unfold qUb
  rw[if_neg k1,if_neg k2,if_neg k4,if_neg k5,if_pos k]
  try simp only[qMh] at h1
  simp only[jF,szl,ByteArray.size_append,jD,jE];omega
 ·obtain⟨t,u,rfl⟩:=len2 a
  have k1:h.1≠1:=by omega
  have k2:h.1≠2:=by omega
  have h1:=zGt n0 n1
  have z1:(⟨#[32]⟩:ByteArray).size=1:=rfl
  try simp only[qMh] at h1
  unfold qUb
  rw[if_neg k1,if_neg k2,if_pos k]
  simp only[wrs,lens,k9,List.map_nil,dE,List.sum_nil,List.getD_cons_zero,List.getD_cons_succ,jF,szl,ByteArray.size_append];omega
 ·obtain⟨t,u,v,rfl⟩:=len3 a
  have k1:h.1≠1:=by omega
  have k2:h.1≠2:=by omega
  have k4:h.1≠4:=by omega
  have l1:tI.length=3:=rfl
  have l2:tThen.length=6:=rfl
  have l3:tElse.length=6:=rfl
  unfold qUb
  rw[if_neg k1,if_neg k2,if_neg k4,if_pos k]
  simp only[wrs,lens,k9,List.map_nil,dE,List.sum_nil,List.getD_cons_zero,List.getD_cons_succ,jF];omega
 ·obtain⟨t,rfl⟩:=len1 a
  have k1:h.1≠1:=by omega
  have k2:h.1≠2:=by omega
  have k4:h.1≠4:=by omega
  have k5:h.1≠5:=by omega
  have k3:h.1≠3:=by omega
  have h1:=qRe n0
  have z1:(⟨#[114,101,97,100,40,34]⟩:ByteArray).size=6:=rfl
  have z2:(⟨#[34,44,32]⟩:ByteArray).size=3:=rfl
  try simp only[qMh] at h1
  unfold qUb
  rw[if_neg k1,if_neg k2,if_neg k4,if_neg k5,if_neg k3,if_pos k]
  simp only[wrs,lens,k9,List.map_nil,dE,List.sum_nil,List.getD_cons_zero,jF,szl,ByteArray.size_append,jD,jE];omega
 all_goals obtain rfl:=len0 a
 all_goals have k1:h.1≠1:=by omega
 all_goals have k2:h.1≠2:=by omega
 all_goals have k4:h.1≠4:=by omega
 all_goals have k5:h.1≠5:=by omega
 all_goals have k3:h.1≠3:=by omega
 all_goals have k6:h.1≠6:=by omega
 ·have k10:h.1≠10:=by omega
  have h1:=qRe n0
  have h2:=zGb (k:=h.1) (by omega)
  have z1:(⟨#[40,34]⟩:ByteArray).size=2:=rfl
  have z2:(⟨#[34,41]⟩:ByteArray).size=2:=rfl
  try simp only[qMh] at h1
  unfold qUb
  rw[if_neg k1,if_neg k2,if_neg k4,if_neg k5,if_neg k3,if_neg k6,if_neg k10]
  simp only[szl,ByteArray.size_append];omega
 ·have k10:h.1≠10:=by omega
  have h1:=qZt n0
  have h2:=zGb (k:=h.1) (by omega)
  have z1:(⟨#[40,34]⟩:ByteArray).size=2:=rfl
  have z2:(⟨#[34,41]⟩:ByteArray).size=2:=rfl
  try simp only[qMh] at h1
  unfold qUb
  rw[if_neg k1,if_neg k2,if_neg k4,if_neg k5,if_neg k3,if_neg k6,if_neg k10]
  simp only[szl,ByteArray.size_append];omega
 ·try simp only[qMh] at n0 n1
  have h1:=zDx (n:=h.2.1) (by omega) (by omega)
  have z1:(⟨#[102,108,105,112,40]⟩:ByteArray).size=5:=rfl
  have z2:(⟨#[41]⟩:ByteArray).size=1:=rfl
  unfold qUb
  rw[if_neg k1,if_neg k2,if_neg k4,if_neg k5,if_neg k3,if_neg k6,if_pos k]
  simp only[szl,ByteArray.size_append];omega
mutual
theorem zOy{ps:List ByteArray}(hps:∀s∈ps,s.size≤24)(t:Rose)(b:Nat)(need:Int)(hv:∀x∈t.flat b,qUp (ps.length:Int) x=true):(t.wr ps need).length+2≤110*t.size:=by
 match t with
 | .mk h ks=>
  have h1:=zMw hps ks h 0 b (fun x hx=>hv x (by unfold Rose.flat;exact kS _ hx))
  have h2:=zRw (b:=b) hps (hv (qMh h (qIi b ks)) (by unfold Rose.flat;exact gE _ (jJ ..)))
  simp only[Rose.wr,Rose.size]
  split
  ·simp only[jD,jF,jE];omega
  ·omega
theorem zMw{ps:List ByteArray}(hps:∀s∈ps,s.size≤24)(l:List Rose)(h:Hd)(k b:Nat)(hv:∀x∈qOh b l,qUp (ps.length:Int) x=true):lens (wrs ps h k l)≤110*qEs l:=by
 match l with
 |[]=>exact k0 _
 |t::l=>
  have h1:=zOy hps t b (qPw h k) (fun x hx=>hv x (by unfold qOh;exact kS _ hx))
  have h2:=zMw hps l h (k+1) (b+t.size) (fun x hx=>hv x (by unfold qOh;exact gE _ hx))
  simp only[wrs,lens,k9,dE,qEs] at*
  omega
end
def wrD(d:Dl):List UInt8:=match zOm d.2.2.2 with
 |some t=>t.wr d.2.2.1 0
 |none=>[]
structure GoodD(d:Dl):Prop where
 head:zPm d=true
 pars:∀s∈d.2.2.1,d.1=1∧qHx s=true
 nodes:∀x∈d.2.2.2,qUp (d.2.2.1.length:Int) x=true
 tree:oneP (ordS d.2.2.2 0 [])=true
theorem zJw{d:Dl}(h:qLy d=true):GoodD d:=by
 unfold qLy zTr zQz at h
 simp only[jN,jT,kC] at h
 exact⟨h.1,h.2.1,h.2.2.1,h.2.2.2⟩
end
section
open Go Go.Dc Go.Proofs
def zQy(l:List ByteArray):ByteArray:=⟨⟨qXb 0 (l.map fun s=>s.data.toList)⟩⟩
def zMu(d:Dl):ByteArray:=
 if d.1=1 then((((⟨#[102,117,110,99,32]⟩:ByteArray)++d.2.1)++(⟨#[40]⟩:ByteArray))++zQy d.2.2.1)++(⟨#[41]⟩:ByteArray)
 else if d.1=2 then(⟨#[116,101,115,116,32]⟩:ByteArray)++d.2.1
 else((⟨#[103,101,110,32,34]⟩:ByteArray)++d.2.1)++(⟨#[34]⟩:ByteArray)
def zRh(d:Dl):List UInt8:=(zMu d).data.toList++(((⟨#[32,61,32]⟩:ByteArray)++qFv (wrD d))++(⟨#[59,10]⟩:ByteArray)).data.toList
def pkgT(s:ByteArray):List UInt8:=(((⟨#[112,97,99,107,97,103,101,32]⟩:ByteArray)++s)++(⟨#[59,10]⟩:ByteArray)).data.toList
def impT(s:ByteArray):List UInt8:=(((⟨#[105,109,112,111,114,116,32]⟩:ByteArray)++s)++(⟨#[59,10]⟩:ByteArray)).data.toList
theorem zBg{α:Type}(g:α→List UInt8):∀(l:List α) (t:List UInt8),l.foldl (fun t x=>t++g x) t=t++l.flatMap g
 |[],t=>by simp
 |x::l,t=>by rw[kZ,zBg g l,kP,jO]
structure GoodS(f:Sr):Prop where
 pkg:qHx f.1=true
 imps:∀s∈f.2.1,qHx s=true
 impn:f.2.1.length≤8
 decn:f.2.2.length≤64
 decs:∀d∈f.2.2,GoodD d∧d.2.2.1.length≤8∧d.2.2.2.length≤256∧zMk d.2.2.2=false
 once:zKc f=false
theorem zRi{f:Sr}(h:qZo f=0):GoodS f:=by
 unfold qZo at h
 split at h
 ·rename_i hs
  split at h
  ·cases h
  ·rename_i ht
   split at h
   ·cases h
   ·rename_i hm
    have hm:zSe f=false:=by simpa using hm
    unfold synP at hs
    unfold zSe at hm
    simp only[jN,jT] at hs
    simp only[fW,decide_eq_false_iff_not,List.any_eq_false] at hm
    refine⟨hs.1,hs.2.1,by omega,by omega,fun d hd=> ?_,by simpa using ht⟩
    have h1:=hm.2.2 d hd
    unfold zIo at h1
    simp only[Bool.not_eq_true,fW,decide_eq_false_iff_not] at h1
    exact⟨zJw (hs.2.2 d hd),by omega,by omega,h1.2.2⟩
 ·cases h
theorem zRp{l:List ByteArray}(h:∀s∈l,s.size≤24):(zQy l).size≤26*l.length:=by
 have h1:=qYo (l.map fun s=>s.data.toList) 0
 have h2:lens (l.map fun s=>s.data.toList)≤26*l.length:=by
  clear h1
  induction l with
  |nil=>exact k0 _
  |cons s l ih=>
   have i1:=h s (jJ ..)
   have i2:=ih fun x hx=>h x (jL _ hx)
   unfold lens at*
   simp only[k9,dE,jD,szl] at*
   omega
 have h3:(zQy l).size=(qXb 0 (l.map fun s=>s.data.toList)).length:=by rw[←szl];rfl
 omega
theorem zKo{d:Dl}(h:GoodD d):d.2.1.size≤80:=by
 have:=h.head
 unfold zPm at this
 split at this
 ·have:=qKj this;omega
 ·split at this
  ·exact qRe this
  ·cases this
theorem zJm{d:Dl}(h:GoodD d)(hp:d.2.2.1.length≤8):(zMu d).size≤400:=by
 have h1:=zKo h
 have h2:=zRp (l:=d.2.2.1) fun s hs=>qKj (h.pars s hs).2
 have z1:(⟨#[102,117,110,99,32]⟩:ByteArray).size=5:=rfl
 have z2:(⟨#[40]⟩:ByteArray).size=1:=rfl
 have z3:(⟨#[41]⟩:ByteArray).size=1:=rfl
 have z4:(⟨#[116,101,115,116,32]⟩:ByteArray).size=5:=rfl
 have z5:(⟨#[103,101,110,32,34]⟩:ByteArray).size=5:=rfl
 have z6:(⟨#[34]⟩:ByteArray).size=1:=rfl
 unfold zMu
 split
 ·simp only[ByteArray.size_append];omega
 ·split
  ·simp only[ByteArray.size_append];omega
  ·simp only[ByteArray.size_append];omega
theorem qHp(l:List UInt8):(qFv l).data.toList=l:=rfl
theorem qDh(l:List UInt8):(qFv l).size=l.length:=by rw[←szl,qHp]
end
section
open Go Go.Dc Go.Proofs
section
variable {ts:List Tok} {params:List ByteArray} {E S:Ps→PM Nat} {B:Nat}
def BE(B:Nat)(l:List Ex):Prop:=∀x∈l,x.2.2.2.2.length≤B
def AdvB(B:Nat)(E:Ps→PM Nat):Prop:=∀(p q:Ps) (x:Nat),BE B p.2→E p= .inr (q,x)→BE B q.2
theorem zAs{t:Tok}{x:Ex}{p q:Ps}{i:Nat}(h1:BE B p.2)(h2:x.2.2.2.2.length≤B)(h:qPe t x p= .inr (q,i)):BE B q.2:=by
 obtain⟨rfl,-,-⟩:=zJk h
 intro y hy
 rcases kL.1 hy with hy|hy
 ·exact h1 y hy
 ·rw[kY.1 hy];exact h2
theorem zSg(hE:AdvB B E):∀(n:Nat) (l:List Int) (p q:Ps) (x:List Int),BE B p.2→zEv ts E n l p= .inr (q,x)→BE B q.2∧x.length≤l.length+n
 |0,_,_,_,_,_,h1=>by cases h1
 |n+1,l,p,q,x,hb,h1=>by
  obtain⟨a,ha,h2⟩:=qBr (show qCo (E p) _=_ from h1)
  have hb2:=hE p a.1 a.2 hb ha
  split at h2
  ·obtain⟨k1,k2⟩:=zSg hE n _ (a.1.1+1,a.1.2) q x hb2 h2
   exact⟨k1,by simp only[jF,jD,jE] at k2;omega⟩
  ·obtain⟨j,hj,h3⟩:=qBr h2
   obtain⟨rfl,rfl⟩:=Prod.mk.inj (Sum.inr.inj h3)
   exact⟨hb2,by simp only[jF,jD,jE];omega⟩
theorem zHl(hE:AdvB B E){p q:Ps}{x:List Int}(hb:BE B p.2)(h1:qUn ts E p= .inr (q,x)):BE B q.2∧x.length≤ts.length+1:=by
 obtain⟨i,hi,h2⟩:=qBr h1
 split at h2
 ·obtain⟨rfl,rfl⟩:=Prod.mk.inj (Sum.inr.inj h2)
  exact⟨hb,k0 _⟩
 ·obtain⟨k1,k2⟩:=zSg hE _ _ (i,p.2) q x hb h2
  exact⟨k1,by simpa using k2⟩
theorem zNq(hB:3≤B)(hE:AdvB B E){t:Tok}{p q:Ps}{x:Nat}(hb:BE B p.2)(h1:qQh ts E t p= .inr (q,x)):BE B q.2:=by
 obtain⟨i,hi,h2⟩:=qBr h1
 obtain⟨a,ha,h3⟩:=qBr h2
 obtain⟨j,hj,h4⟩:=qBr h3
 have key:BE B a.1.2∧a.2.2.2.2.2.length≤B:=by
  split at ha
  ·obtain⟨b,hb1,hb2⟩:=qBr ha
   obtain⟨c,hc1,hc2⟩:=qBr hb2
   obtain⟨d,hd1,hd2⟩:=qBr hc2
   have:=hE (c,p.2) d.1 d.2 hb hd1
   obtain rfl:=Sum.inr.inj hd2
   exact⟨this,by show 1≤B;omega⟩
  ·split at ha
   ·obtain⟨b,hb1,hb2⟩:=qBr ha
    obtain rfl:=Sum.inr.inj hb2
    exact⟨hb,k0 _⟩
   ·split at ha
    ·obtain⟨b,hb1,hb2⟩:=qBr ha
     obtain rfl:=Sum.inr.inj hb2
     exact⟨hb,k0 _⟩
    ·split at ha
     ·obtain⟨b,hb1,hb2⟩:=qBr ha
      obtain rfl:=Sum.inr.inj hb2
      exact⟨hb,k0 _⟩
     ·obtain⟨b,hb1,hb2⟩:=qBr ha
      split at hb2
      ·cases hb2
      ·obtain rfl:=Sum.inr.inj hb2
       exact⟨hb,k0 _⟩
 exact zAs (p:=(j,a.1.2)) key.1 key.2 h4
theorem zQr(hB:ts.length+3≤B)(hE:AdvB B E):AdvB B (qSb ts params E):=by
 intro p q x hb h1
 unfold qSb at h1
 dsimp only at h1
 split at h1
 ·exact zAs (p:=(p.1+1,p.2)) hb (k0 _) h1
 split at h1
 ·obtain⟨a,ha,h2⟩:=qBr h1
  exact zAs (p:=(a.1,p.2)) hb (k0 _) h2
 split at h1
 ·obtain⟨a,ha,h2⟩:=qBr h1
  have:=hE (p.1+1,p.2) a.1 a.2 hb ha
  obtain⟨j,hj,h3⟩:=qBr h2
  obtain⟨rfl,rfl⟩:=Prod.mk.inj (Sum.inr.inj h3)
  exact this
 split at h1
 ·cases h1
 split at h1
 ·exact zNq (by omega) hE (p:=(p.1+1,p.2)) hb h1
 split at h1
 ·cases h1
 split at h1
 ·obtain⟨a,ha,h2⟩:=qBr h1
  obtain⟨k1,k2⟩:=zHl hE (p:=(p.1+1,p.2)) hb ha
  exact zAs (p:=a.1) k1 (by show a.2.length≤B;omega) h2
 split at h1
 ·exact zAs (p:=(p.1+1,p.2)) hb (k0 _) h1
 ·cases h1
theorem zSs(hB:3≤B){level:Nat}(hS:AdvB B S):∀(n x:Nat) (p q:Ps) (y:Nat),BE B p.2→qUc ts level S n x p= .inr (q,y)→BE B q.2
 |0,_,_,_,_,_,h1=>by cases h1
 |n+1,x,p,q,y,hb,h1=>by
  unfold qUc at h1
  split at h1
  ·obtain⟨rfl,rfl⟩:=Prod.mk.inj (Sum.inr.inj h1)
   exact hb
  ·obtain⟨a,ha,h2⟩:=qBr h1
   have f:=hS (p.1+1,p.2) a.1 a.2 hb ha
   obtain⟨r,hr,h3⟩:=qBr h2
   have k:BE B r.1.2:=by
    refine zAs (p:=a.1) f ?_ hr
    show 2≤B
    omega
   split at h3
   ·obtain⟨rfl,rfl⟩:=Prod.mk.inj (Sum.inr.inj h3)
    exact k
   ·exact zSs hB hS n _ _ q y k h3
theorem zIu(hB:3≤B){level:Nat}(hS:AdvB B S):AdvB B (qSp ts level S):=by
 intro p q x hb h1
 obtain⟨a,ha,h2⟩:=qBr h1
 exact zSs hB hS _ _ _ q x (hS p a.1 a.2 hb ha) h2
theorem zGr(hB:ts.length+3≤B):∀k,AdvB B (qLm ts params k)
 |0=>fun _ _ _ _ h1=>by cases h1
 |k+1=>by
  intro p q x hb h1
  unfold qLm at h1
  split at h1
  ·obtain⟨a,ha,h2⟩:=qBr h1
   have a1:=zGr hB k (p.1+1,p.2) a.1 a.2 hb ha
   obtain⟨i,hi,h3⟩:=qBr h2
   obtain⟨b,hb1,h4⟩:=qBr h3
   have b1:=zGr hB k (i,a.1.2) b.1 b.2 a1 hb1
   obtain⟨j,hj,h5⟩:=qBr h4
   obtain⟨c,hc1,h6⟩:=qBr h5
   have c1:=zGr hB k (j,b.1.2) c.1 c.2 b1 hc1
   refine zAs (p:=c.1) c1 ?_ h6
   show 3≤B
   omega
  ·exact zIu (by omega) (zIu (by omega) (zIu (by omega) (zQr hB (zGr hB k)))) p q x hb h1
def okDl(d:Dl):Prop:=d.2.2.1.length≤8∧d.2.2.2.length≤256∧BE 20000 d.2.2.2
theorem decl_b(hok:OkT ts)(hts:ts.length≤16385){before:List Dl}{i:Nat}{a:Nat×Dl}(hi:i<ts.length)(h1:qVm ts before i= .inr a):okDl a.2:=by
 unfold qVm at h1
 dsimp only at h1
 split at h1
 ·cases h1
 rename_i k1
 split at h1
 ·cases h1
 have g:=hok.next hi (show(tkAt ts i).1≠5 by intro e;apply k1;left;rw[e];decide)
 obtain⟨x,hx,h2⟩:=qBr h1
 have gx:x.1<ts.length:=by
  split at hx
  ·obtain⟨rfl,g1,-⟩:=qQa hok g hx;exact g1
  ·obtain⟨rfl,g1,-⟩:=qPf hok g hx;exact g1
 split at h2
 ·cases h2
 obtain⟨y,hy,h3⟩:=qBr h2
 have gy:y.1<ts.length∧y.2.length≤8:=by
  split at hy
  ·obtain⟨-,g2,g3⟩:=qTz hok gx hy;exact⟨g2,g3⟩
  ·obtain rfl:=Sum.inr.inj hy;exact⟨gx,k0 _⟩
 obtain⟨j,hj,h4⟩:=qBr h3
 obtain⟨rfl,g3,-⟩:=qHt hok gy.1 hj
 obtain⟨c,hc,h5⟩:=qBr h4
 obtain⟨⟨-,-,-,f4⟩,-⟩:=qOn hok 32 (y.1+1,[]) c.1 c.2 g3 (by simp) hc
 have f5:=zGr (B:=20000) (by omega) 32 (y.1+1,[]) c.1 c.2 (fun z hz=>by cases hz) hc
 obtain⟨m,hm,h6⟩:=qBr h5
 obtain rfl:=Sum.inr.inj h6
 exact⟨gy.2,f4,f5⟩
theorem zOl(hok:OkT ts)(hts:ts.length≤16385):∀(n:Nat) (l:List Dl) (i:Nat) {r:List Dl},(∀d∈l,okDl d)→i<ts.length→qWk ts n l i= .inr r→∀d∈r,okDl d
 |0,_,_,_,_,_,h1=>by cases h1
 |n+1,l,i,r,hl,hi,h1=>by
  unfold qWk at h1
  split at h1
  ·cases h1;exact hl
  obtain⟨x,hx,h2⟩:=qBr h1
  obtain⟨-,g2,-⟩:=qYr hok hi hx
  refine zOl hok hts n _ _ (fun d hd=> ?_) g2 h2
  rcases kL.1 hd with hd|hd
  ·exact hl d hd
  ·rw[kY.1 hd];exact decl_b hok hts hi hx
end
def okSr(f:Sr):Prop:=f.2.1.length≤8∧f.2.2.length≤64∧∀d∈f.2.2,okDl d
theorem zPs{ts:List Tok}(h:OkT ts):∀(n:Nat) (l:List Dl) (i:Nat) {r:List Dl},l.length≤64→i<ts.length→qWk ts n l i= .inr r→r.length≤64
 |0,_,_,_,_,_,h1=>by cases h1
 |n+1,l,i,r,hl,hi,h1=>by
  unfold qWk at h1
  split at h1
  ·cases h1;exact hl
  obtain⟨x,hx,h2⟩:=qBr h1
  obtain⟨-,g2,g3⟩:=qYr h hi hx
  exact zPs h n _ _ (by simp only[jF,jD,jE];omega) g2 h2
theorem zEc:okSr qVg:=⟨k0 _,k0 _,fun d hd=>by cases hd⟩
theorem zPe(s:ByteArray):okSr (qMv s).1:=by
 unfold qMv
 by_cases h0:(qKv s).2.2=0
 ·rw[if_neg (not_not_intro h0)]
  obtain⟨hok,hlen,hsz⟩:=qWq h0
  have hpos:0<(qKv s).1.length:=by
   cases h:(qKv s).1 with
   |nil=>exact absurd h hok.1
   |cons a l=>exact Nat.succ_pos _
  cases hf:zIk (qKv s).1 with
  |inl z=>exact zEc
  |inr f=>
   simp only
   unfold zIk at hf
   obtain⟨i,h1,hf⟩:=qBr hf
   obtain⟨rfl,g1,-⟩:=zDm hok hpos h1
   obtain⟨a,h2,hf⟩:=qBr hf
   obtain⟨rfl,g2,-⟩:=qPf hok g1 h2
   obtain⟨j,h3,hf⟩:=qBr hf
   obtain⟨rfl,g3,-⟩:=qHt hok g2 h3
   obtain⟨b,h4,hf⟩:=qBr hf
   obtain⟨-,k2,k3⟩:=qUi hok _ _ _ b g3 (by simp) h4
   obtain⟨l,h5,hf⟩:=qBr hf
   have e1:=zPs hok _ _ _ (by simp) k2 h5
   have e2:=zOl hok hlen _ _ _ (fun d hd=>by cases hd) k2 h5
   cases hf
   exact⟨k3,e1,e2⟩
 ·rw[if_pos h0];exact zEc
end
section
open Go Go.Dc Go.Proofs
theorem zRu{P:Rose→Prop}(h:∀hd ks,(∀t∈ks,P t)→P (.mk hd ks))(t:Rose):P t:=by
 have key:∀(n:Nat) (t:Rose),t.size≤n→P t:=by
  intro n
  induction n with
  |zero=>intro t ht;have:=t.pos;omega
  |succ n ih=>
   intro t ht
   match t with
   | .mk hd ks=>
    refine h hd ks fun u hu=>ih u ?_
    have hs:u.size≤qEs ks:=by
     clear ht ih h
     induction ks with
     |nil=>cases hu
     |cons a l ihl=>
      rcases jM.1 hu with rfl|hu
      ·show _≤u.size+qEs l;omega
      ·have:=ihl hu
       show _≤a.size+qEs l;omega
    have:(Rose.mk hd ks).size=qEs ks+1:=rfl
    omega
 exact key t.size t (jU _)
inductive Fine(np:Nat):Rose→Prop
 |num (n:Int) (h0: -9007199254740992≤n) (h1:n≤9007199254740992):Fine np (.mk (1,n,0,emB) [])
 |par (i:Nat) (h:i<np):Fine np (.mk (2,(i:Int),0,emB) [])
 |call (s:ByteArray) (ks:List Rose) (h:qHx s=true) (hk:∀t∈ks,Fine np t):Fine np (.mk (3,0,0,s) ks)
 |bin (op:Int) (a b:Rose) (h0:1≤op) (h1:op≤7) (ha:Fine np a) (hb:Fine np b):Fine np (.mk (4,0,op,emB) [a,b])
 |ite (a b c:Rose) (ha:Fine np a) (hb:Fine np b) (hc:Fine np c):Fine np (.mk (5,0,0,emB) [a,b,c])
 |read (s:ByteArray) (a:Rose) (h:qJi s.data.toList=true) (ha:Fine np a):Fine np (.mk (6,0,0,s) [a])
 |look (k:Int) (s:ByteArray) (hk:k=7∨k=8) (h:qJi s.data.toList=true):Fine np (.mk (k,0,0,s) [])
 |env (s:ByteArray) (h:qNl s=true):Fine np (.mk (9,0,0,s) [])
 |flip (n:Nat) (h:n<64):Fine np (.mk (10,(n:Int),0,emB) [])
theorem zTm{np:Nat}(t:Rose):∀b,(∀x∈t.flat b,qUp (np:Int) x=true)→Fine np t:=by
 refine zRu (P:=fun t=>∀b,(∀x∈t.flat b,qUp (np:Int) x=true)→Fine np t) ?_ t
 intro hd ks ih b hv
 have hn:qUp (np:Int) (qMh hd (qIi b ks))=true:=hv _ (by unfold Rose.flat;exact gE _ (kY.2 rfl))
 have hks:∀t∈ks,Fine np t:=by
  have hvs:∀x∈qOh b ks,qUp (np:Int) x=true:=fun x hx=>hv x (by unfold Rose.flat;exact kS _ hx)
  clear hv hn
  induction ks generalizing b with
  |nil=>intro t ht;cases ht
  |cons a l ihl=>
   intro t ht
   rcases jM.1 ht with rfl|ht
   ·exact ih t (jJ ..) b fun x hx=>hvs x (by unfold qOh;exact kS _ hx)
   ·exact ihl (fun u hu=>ih u (jL _ hu)) (b+a.size) (fun x hx=>hvs x (by unfold qOh;exact gE _ hx)) t ht
 obtain⟨k,n,o,s⟩:=hd
 have hlen:(qMh (k,n,o,s) (qIi b ks)).2.2.2.2.length=ks.length:=qMm ks b
 rcases zFm hn with ⟨h1,h2,h3,h4,h5,h6⟩|⟨h1,h2,h3,h4,h5,h6⟩|⟨h1,h2,h3,h4⟩|⟨h1,h2,h3,h4,h5,h6⟩|⟨h1,h2,h3,h4,h5⟩|⟨h1,h2,h3,h4,h5⟩|⟨h1,h2,h3,h4,h5⟩|⟨h1,h2,h3,h4,h5⟩|⟨h1,h2,h3,h4,h5,h6⟩
 ·have h1:k=1:=h1
  have h5:o=0:=h5
  have h6:s=emB:=h6
  rw[hlen] at h2
  obtain rfl:=kT.1 h2
  subst h1 h5 h6
  exact .num n h3 h4
 ·have h1:k=2:=h1
  have h5:o=0:=h5
  have h6:s=emB:=h6
  have h3:0≤n:=h3
  have h4:n<(np:Int):=h4
  rw[hlen] at h2
  obtain rfl:=kT.1 h2
  subst h1 h5 h6
  obtain⟨i,rfl⟩:∃i:Nat,n=(i:Int):=⟨n.toNat,by omega⟩
  exact .par i (by omega)
 ·have h1:k=3:=h1
  have h3:n=0:=h3
  have h4:o=0:=h4
  subst h1 h3 h4
  exact .call s ks h2 hks
 ·have h1:k=4:=h1
  have h5:n=0:=h5
  have h6:s=emB:=h6
  rw[hlen] at h2
  subst h1 h5 h6
  match ks,h2,hks with
  |[a,c],_,hks=>exact .bin o a c h3 h4 (hks a (by simp)) (hks c (by simp))
 ·have h1:k=5:=h1
  have h3:n=0:=h3
  have h4:o=0:=h4
  have h5:s=emB:=h5
  rw[hlen] at h2
  subst h1 h3 h4 h5
  match ks,h2,hks with
  |[a,c,d],_,hks=>exact .ite a c d (hks a (by simp)) (hks c (by simp)) (hks d (by simp))
 ·have h1:k=6:=h1
  have h4:n=0:=h4
  have h5:o=0:=h5
  rw[hlen] at h2
  subst h1 h4 h5
  match ks,h2,hks with
  |[a],_,hks=>exact .read s a h3 (hks a (by simp))
 ·have h1:k=7∨k=8:=h1
  have h4:n=0:=h4
  have h5:o=0:=h5
  rw[hlen] at h2
  obtain rfl:=kT.1 h2
  subst h4 h5
  exact .look k s h1 h3
 ·have h1:k=9:=h1
  have h4:n=0:=h4
  have h5:o=0:=h5
  rw[hlen] at h2
  obtain rfl:=kT.1 h2
  subst h1 h4 h5
  exact .env s h3
 ·have h1:k=10:=h1
  have h3:0≤n:=h3
  have h4:n<64:=h4
  have h5:o=0:=h5
  have h6:s=emB:=h6
  rw[hlen] at h2
  obtain rfl:=kT.1 h2
  subst h1 h5 h6
  obtain⟨i,rfl⟩:∃i:Nat,n=(i:Int):=⟨n.toNat,by omega⟩
  exact .flip i (by omega)
abbrev Pf:=List UInt8→List Pc
def sgP(l:List UInt8)(bl:List UInt8):Pc:=((4,l),bl)
def wdP(l:List UInt8)(bl:List UInt8):Pc:=((1,l),bl)
def txP(l:List UInt8)(bl:List UInt8):Pc:=((3,l),bl)
def numPc(n:Int)(bl:List UInt8):List Pc:=if n<0 then[sgP [45] [],((2,Lib.decDigits n.natAbs),bl)] else[((2,Lib.decDigits n.toNat),bl)]
def zSu:Nat→List Pf→List Pc
 |_,[]=>[]
 |k,w::ws=>(if k=0 then[] else[sgP [44] [32]])++(w []++zSu (k+1) ws)
def wIf:List UInt8:=[105,102]
def wThen:List UInt8:=[116,104,101,110]
def wElse:List UInt8:=[101,108,115,101]
def wRead:List UInt8:=[114,101,97,100]
def wFlip:List UInt8:=[102,108,105,112]
def noF:Pf:=fun _=>[]
def zSr(ps:List ByteArray)(h:Hd)(ws:List Pf)(bl:List UInt8):List Pc:=
 if h.1=1 then numPc h.2.1 bl
 else if h.1=2 then[wdP (ps.getD h.2.1.toNat ⟨#[]⟩).data.toList bl]
 else if h.1=4 then(ws.getD 0 noF) [32]++(sgP (zOj h.2.2.1).data.toList [32]::(ws.getD 1 noF) bl)
 else if h.1=5 then wdP wIf [32]::((ws.getD 0 noF) [32]++(wdP wThen [32]::((ws.getD 1 noF) [32]++(wdP wElse [32]::(ws.getD 2 noF) bl))))
 else if h.1=3 then wdP h.2.2.2.data.toList []::sgP [40] []::(zSu 0 ws++[sgP [41] bl])
 else if h.1=6 then wdP wRead []::sgP [40] []::txP h.2.2.2.data.toList []::sgP [44] [32]::((ws.getD 0 noF) []++[sgP [41] bl])
 else if h.1=10 then wdP wFlip []::sgP [40] []::(numPc h.2.1 []++[sgP [41] bl])
 else[wdP (zSw h.1).data.toList [],sgP [40] [],txP h.2.2.2.data.toList [],sgP [41] bl]
mutual
def Rose.pc(ps:List ByteArray)(need:Int)(bl:List UInt8):Rose→List Pc
 | .mk h ks=>if lvH h<need then sgP [40] []::(zSr ps h (pcs ps h 0 ks) []++[sgP [41] bl]) else zSr ps h (pcs ps h 0 ks) bl
def pcs(ps:List ByteArray)(h:Hd)(k:Nat):List Rose→List Pf
 |[]=>[]
 |t::l=>(fun bl=>t.pc ps (qPw h k) bl)::pcs ps h (k+1) l
end
end
section
open Go Go.Dc Go.Proofs
end
section
open Go Go.Dc Go.Proofs
def corP(l:List Pc):List Core:=l.map fun p=>coreC p.1
def Seg(ts:List Tok):Nat→List Core→Prop
 |_,[]=>True
 |i,c::cs=>coreT (tkAt ts i)=c∧Seg ts (i+1) cs
section
variable {ts:List Tok} {ps:List ByteArray} {i:Nat}
def NextOk(n:Nat)(ts:List Tok)(i:Nat):Prop:=i<ts.length∧isC ts 4 qUw i=false∧∀L,n≤L→1≤L→L≤3→opC ts L i=0
theorem NextOk.up{n m:Nat}(h:NextOk n ts i)(hnm:n≤m):NextOk m ts i:=⟨h.1,h.2.1,fun L h1=>h.2.2 L (by omega)⟩
def Res{α:Type}(x:Flt⊕α)(g:Prop)(v:α):Prop:=(g→x= .inr v)∧(¬g→∃z,x= .inl (z,2))
theorem Res.bind{α β:Type}{x:Flt⊕α}{g g' G:Prop}{v:α}{f:α→Flt⊕β}{v':β}(h:Res x g v)(h2:g→Res (f v) g' v')(hG:G↔g∧g'):Res (qCo x f) G v':=by
 constructor
 ·intro hg
  obtain⟨a,b⟩:=hG.1 hg
  rw[h.1 a]
  exact(h2 a).1 b
 ·intro hn
  by_cases a:g
  ·rw[h.1 a]
   exact(h2 a).2 fun b=>hn (hG.2 ⟨a,b⟩)
  ·obtain⟨z,hz⟩:=h.2 a
   exact⟨z,by rw[hz];rfl⟩
theorem Res.pure{α:Type}{x:Flt⊕α}{g:Prop}{v:α}(hg:g)(h:x= .inr v):Res x g v:=⟨fun _=>h,fun n=>absurd hg n⟩
def PL(ts:List Tok)(ps:List ByteArray)(E:Ps→PM Nat):Nat→Ps→PM Nat
 |1=>zDv ts ps E
 |2=>sumC ts ps E
 |3=>zSa ts ps E
 |_=>qSb ts ps E
def Fac(ts:List Tok)(ps:List ByteArray)(E:Ps→PM Nat)(n:Nat)(pf:Pf)(g:Prop)(t:Rose):Prop:=
 ∀i l bl,Seg ts i (corP (pf bl))→NextOk n ts (i+(pf bl).length)→l.length+t.size≤256→Res (PL ts ps E n (i,l)) g ((i+(pf bl).length,l++t.flat l.length),l.length+t.size-1)
def Spi(ts:List Tok)(ps:List ByteArray)(E:Ps→PM Nat)(L:Nat)(pf:Pf)(g:Prop)(t:Rose):Prop:=
 ∀i l bl,Seg ts i (corP (pf bl))→NextOk (L+1) ts (i+(pf bl).length)→l.length+t.size≤256→
  (g→∃n',ts.length+1≤n'+(pf bl).length∧qSp ts L (PL ts ps E (L+1)) (i,l)=qUc ts L (PL ts ps E (L+1)) n' (l.length+t.size-1) (i+(pf bl).length,l++t.flat l.length))∧
  (¬g→∃z,qSp ts L (PL ts ps E (L+1)) (i,l)= .inl (z,2))
variable {E:Ps→PM Nat} {pf:Pf} {g:Prop} {t:Rose}
end
end
section
open Go Go.Dc Go.Proofs
section
variable (ts:List Tok) (ps:List ByteArray)
def Pos0(k d:Nat)(t:Rose):Prop:=∀i l bl,Seg ts i (corP (t.pc ps 0 bl))→NextOk 1 ts (i+(t.pc ps 0 bl).length)→l.length+t.size≤256→Res (qLm ts ps k (i,l)) (t.dep 0 d≤32) ((i+(t.pc ps 0 bl).length,l++t.flat l.length),l.length+t.size-1)
structure Pk(t:Rose):Prop where
 p0:∀k d,k+d=33→Pos0 ts ps k d t
 en:∀k d,k+d=32→∀n:Nat,2≤n→n≤4→Fac ts ps (qLm ts ps k) n (fun bl=>t.pc ps (n:Int) bl) (t.dep (n:Int) d≤32) t
 es:∀k d,k+d=32→∀L:Nat,2≤L→L≤3→Spi ts ps (qLm ts ps k) L (fun bl=>t.pc ps (L:Int) bl) (t.dep (L:Int) d≤32) t
end
end
section
open Go Go.Dc Go.Proofs
end
section
open Go Go.Dc Go.Proofs
end
section
open Go Go.Dc Go.Proofs
section
variable {ts:List Tok} {ps:List ByteArray}
theorem Res.step{α β:Type}{x:Flt⊕α}{v:α}{f:α→Flt⊕β}{g:Prop}{w:β}(h:x= .inr v)(r:Res (f v) g w):Res (qCo x f) g w:=by
 rw[h];exact r
end
end
section
open Go Go.Dc Go.Proofs
end
section
open Go Go.Dc Go.Proofs
structure OkD(d:Dl):Prop where
 good:GoodD d
 pars:d.2.2.1.length≤8
 body:d.2.2.2.length≤256
 dup:dupL d.2.2.1=false
theorem OkD.tree{d:Dl}(h:OkD d):∃t,zOm d.2.2.2=some t∧d.2.2.2=t.flat 0∧Fine d.2.2.1.length t:=by
 obtain⟨t,h1,h2⟩:=zDy h.good.tree
 exact⟨t,h1,h2,zTm t 0 fun x hx=>h.good.nodes x (by rw[h2];exact hx)⟩
theorem OkD.kind{d:Dl}(h:OkD d):(d.1=1∨d.1=2)∧qHx d.2.1=true∨d.1=3∧qJi d.2.1.data.toList=true:=by
 have:=h.good.head
 unfold zPm at this
 split at this
 ·rename_i g;exact .inl ⟨g,this⟩
 ·split at this
  ·rename_i g;exact .inr ⟨g,this⟩
  ·cases this
theorem OkD.names{d:Dl}(h:OkD d):∀s∈d.2.2.1,qHx s=true:=fun s hs=>(h.good.pars s hs).2
theorem okD_of{f:Sr}(h:GoodS f):∀d∈f.2.2,OkD d:=fun d hd=>by
 obtain⟨a,b,c,-⟩:=h.decs d hd
 refine⟨a,b,c,?_⟩
 have:=h.once
 unfold zKc at this
 simp only[fW,List.any_eq_false] at this
 exact(Bool.not_eq_true _).mp (this.1 d hd)
end
section
open Go Go.Dc Go.Proofs
end
section
open Go Go.Dc Go.Proofs
end
section
open Go Go.Dc Go.Proofs
theorem qWl{N:Nat}{s:ByteArray}(hN:100<N):qDs N s=some (qHx s):=by
 simp only[qDs,qPk hN,rres hN,jA]
 unfold qHx
 cases qNl s<;>rfl
def arN(k:Int):Int:=if k=3 then-1 else if k=4 then 2 else if k=5 then 3 else if k=6 then 1 else 0
def arP(x:Ex):Bool:=(x.1==3)||(argN x==arN x.1)
def qRc(np:Int)(x:Ex):Bool:=
 if x.1=1 then decide (x.2.2.2.1=emB)&&(x.2.2.1==0&&(decide (x.2.1≥-9007199254740992)&&decide (x.2.1≤9007199254740992)))
 else if x.1=2 then decide (x.2.2.2.1=emB)&&(x.2.2.1==0&&(decide (x.2.1≥0)&&decide (x.2.1<np)))
 else if x.1=3 then x.2.1==0&&(x.2.2.1==0&&qHx x.2.2.2.1)
 else if x.1=4 then x.2.1==0&&(decide (x.2.2.2.1=emB)&&(decide (x.2.2.1≥1)&&decide (x.2.2.1≤7)))
 else if x.1=5 then x.2.1==0&&(decide (x.2.2.2.1=emB)&&x.2.2.1==0)
 else if x.1=6 then x.2.1==0&&(x.2.2.1==0&&qJi x.2.2.2.1.data.toList)
 else if x.1=7∨x.1=8 then x.2.1==0&&(x.2.2.1==0&&qJi x.2.2.2.1.data.toList)
 else if x.1=9 then x.2.1==0&&(x.2.2.1==0&&qNl x.2.2.2.1)
 else if x.1=10 then decide (x.2.2.2.1=emB)&&(x.2.2.1==0&&(decide (x.2.1≥0)&&decide (x.2.1<64)))
 else false
theorem zLz(np:Int)(x:Ex):qUp np x=(qRc np x&&arP x):=by
 unfold qUp qRc arP arN
 by_cases h1:x.1=1
 ·simp[h1];ac_rfl
 by_cases h2:x.1=2
 ·simp[h2];ac_rfl
 by_cases h3:x.1=3
 ·simp[h3]
 by_cases h4:x.1=4
 ·simp[h4];ac_rfl
 by_cases h5:x.1=5
 ·simp[h5];ac_rfl
 by_cases h6:x.1=6
 ·simp[h6];ac_rfl
 by_cases h7:x.1=7
 ·simp[h7];ac_rfl
 by_cases h8:x.1=8
 ·simp[h8];ac_rfl
 by_cases h9:x.1=9
 ·simp[h9];ac_rfl
 by_cases h10:x.1=10
 ·simp[h10];ac_rfl
 simp[h1,h2,h3,h4,h5,h6,h7,h8,h9,h10]
theorem zRr{N:Nat}{np:Int}{x:Ex}(hN:100<N):qJy N x np=some (qRc np x):=by
 simp only[qJy,eqE,qPl (s:=x.2.2.2.1) hN,qPk (s:=x.2.2.2.1) hN,qWl (s:=x.2.2.2.1) hN,jA,and_if]
 unfold qRc
 by_cases h1:x.1=1
 ·by_cases a:x.2.2.2.1=emB<;>by_cases b:x.2.2.1=0<;>simp[h1,a,b]
 by_cases h2:x.1=2
 ·by_cases a:x.2.2.2.1=emB<;>by_cases b:x.2.2.1=0<;>simp[h2,a,b]
 by_cases h3:x.1=3
 ·by_cases a:x.2.1=0<;>by_cases b:x.2.2.1=0<;>simp[h3,a,b]
 by_cases h4:x.1=4
 ·by_cases a:x.2.1=0<;>by_cases b:x.2.2.2.1=emB<;>simp[h4,a,b]
 by_cases h5:x.1=5
 ·by_cases a:x.2.1=0<;>by_cases b:x.2.2.2.1=emB<;>by_cases c:x.2.2.1=0<;>simp[h5,a,b,c]
 by_cases h6:x.1=6
 ·by_cases a:x.2.1=0<;>by_cases b:x.2.2.1=0<;>simp[h6,a,b]
 by_cases h7:x.1=7
 ·by_cases a:x.2.1=0<;>by_cases b:x.2.2.1=0<;>simp[h7,a,b]
 by_cases h8:x.1=8
 ·by_cases a:x.2.1=0<;>by_cases b:x.2.2.1=0<;>simp[h8,a,b]
 by_cases h9:x.1=9
 ·by_cases a:x.2.1=0<;>by_cases b:x.2.2.1=0<;>simp[h9,a,b]
 by_cases h10:x.1=10
 ·by_cases a:x.2.2.2.1=emB<;>by_cases b:x.2.2.1=0<;>simp[h10,a,b]
 by_cases c:x.1<1
 ·simp[h1,h2,h3,h4,h5,h6,h7,h8,h9,h10,c]
 ·have c2:x.1>10:=by omega
  simp[h1,h2,h3,h4,h5,h6,h7,h8,h9,h10,c,c2]
theorem zQu{N:Nat}(k:Int):qJx N k=some (arN k):=by
 unfold qJx arN
 by_cases h3:k=3
 ·simp[h3]
 by_cases h4:k=4
 ·simp[h4]
 by_cases h5:k=5
 ·simp[h5]
 by_cases h6:k=6
 ·simp[h6]
 simp[h3,h4,h5,h6]
theorem zSj{N m n:Nat}{st args:List Int}{x:Ex}{i:Int}(ha:x.2.2.2.2=args)(hn:args.length=n)(hs:st.length=m+n)(hb:st.length<4000000):∀(d k M:Nat),k+d=n→d<M→
  qAs (qFk N (st,i) x (n:Int)) M (k:Int)=some (if st.drop (m+k)=args.drop k then .inl () else .inr false)
 |_,_,0,_,h=>absurd h (kV _)
 |0,k,M+1,hd,_=>by
  simp only[qAs,qFk]
  rw[if_neg (by simp only[jB];omega),if_pos (by rw[jQ (by omega),jQ (by omega)])]
  rfl
 |d+1,k,M+1,hd,hM=>by
  subst ha
  have hk:k<x.2.2.2.2.length:=by omega
  have hmk:m+k<st.length:=by omega
  have ew:IntKind.wrap .i64 ((k:Int)+1)=((k+1:Nat):Int):=by rw[wi64 (by omega) (by omega)];omega
  have e0:IntKind.wrap .i64 ((st.length:Int)-(n:Int))=(m:Int):=by rw[wi64 (by omega) (by omega)];omega
  have e1:IntKind.wrap .i64 ((m:Int)+(k:Int))=((m+k:Nat):Int):=by rw[wi64 (by omega) (by omega)];omega
  simp only[qAs,qFk]
  rw[if_pos (by simp only[jB];omega),qCg hk,e0,e1,qCg hmk]
  simp only[jA,ew]
  rw[qOg hk,qOg hmk]
  by_cases e:x.2.2.2.2[k]=st[m+k]
  ·rw[if_neg (by simpa using e)]
   simp only[jA]
   rw[zSj rfl hn hs hb d (k+1) M (by omega) (by omega),e]
   simp only[g9,true_and]
   rfl
  ·rw[if_pos (by simpa using e),if_neg (fun g=>e (List.cons.inj g).1.symm)]
   rfl
def ordR(l:List Ex)(k:Nat)(st:List Int):Option (List Int):=if l.all arP=true then ordS l k st else none
theorem zLg{N:Nat}{l:List Ex}(hl:l.length<2000000)(ha:∀x∈l,x.2.2.2.2.length<2000000)(hN:3000000<N):qIy N l=some (oneP (ordR l 0 [])):=by
 have hL:=qGo (L:=l) (fun(t:List Int×Nat) (i:Nat)=>(t.1,(i:Int))) (f:=qFl N l)
  (fun t x=>if arP x=true∧x.2.2.2.2.length≤t.1.length∧t.1.drop (t.1.length-x.2.2.2.2.length)=x.2.2.2.2 then .inl (t.1.take (t.1.length-x.2.2.2.2.length)++[(t.2:Int)],t.2+1) else .inr (.inr false)) (fun t=>(.inl t.1:List Int⊕Bool)) (fun i t=>t.2=i∧t.1.length≤i) (by
   rintro⟨st,k⟩ i hi ⟨rfl,hI⟩
   simp only at hI hi ⊢
   have hxa:=ha _ (jP hi)
   simp only[qFl]
   rw[if_pos (by simp only[jB];omega),qCg hi]
   generalize l[k]=x at hxa
   simp only[jA,zQu]
   have ew:IntKind.wrap .i64 ((k:Int)+1)=((k+1:Nat):Int):=by rw[wi64 (by omega) (by omega)];omega
   have e0:IntKind.wrap .i64 ((st.length:Int)-(x.2.2.2.2.length:Int))=(st.length:Int)-(x.2.2.2.2.length:Int):=by
    rw[wi64 (by omega) (by omega)]
   by_cases h1:arP x=true
   ·have e2:(if decide (arN x.1<0)=true then some (x.2.2.2.2.length:Int) else some (arN x.1):Option Int)=some (x.2.2.2.2.length:Int):=by
     unfold arP argN at h1
     simp only[fQ,kC] at h1
     rcases h1 with h1|h1
     ·rw[h1];rfl
     ·rw[←h1,if_neg (by simp)]
    rw[e2]
    simp only[jA]
    rw[if_neg (by simp)]
    simp only[jA]
    by_cases h2:x.2.2.2.2.length≤st.length
    ·rw[if_neg (by simp only[jB];omega)]
     have hlp:=zSj (N:=N) (m:=st.length-x.2.2.2.2.length) (st:=st) (x:=x) (i:=(k:Int)) rfl rfl (by omega) (by omega) x.2.2.2.2.length 0 N (by omega) (by omega)
     rw[show((0:Nat):Int)=0 from rfl,gX,kA] at hlp
     rw[hlp]
     simp only[jA]
     by_cases h3:st.drop (st.length-x.2.2.2.2.length)=x.2.2.2.2
     ·rw[if_pos h3,if_pos ⟨h1,h2,h3⟩]
      simp only
      rw[e0,qTl (by omega) (by omega) (by omega)]
      simp only[jA,fI,kA]
      rw[show((st.length:Int)-(x.2.2.2.2.length:Int)).toNat=st.length-x.2.2.2.2.length by omega,qCr (by simp only[kN,jD,jE];omega) (by omega)]
      simp only[jA,ew]
     ·rw[if_neg h3,if_neg (fun g=>h3 g.2.2)]
    ·rw[if_pos (by simp only[jB];omega),if_neg (fun g=>h2 g.2.1)]
   ·have hneg:¬(arP x=true∧x.2.2.2.2.length≤st.length∧st.drop (st.length-x.2.2.2.2.length)=x.2.2.2.2):=fun g=>h1 g.1
    rw[if_neg hneg]
    have hne:x.1≠3:=fun g=>h1 (by unfold arP;rw[g];rfl)
    have hnn:¬arN x.1<0:=by
     unfold arN
     rw[if_neg hne]
     split
     ·decide
     ·split
      ·decide
      ·split<;>decide
    have hne2:(x.2.2.2.2.length:Int)≠arN x.1:=fun g=>h1 (by unfold arP argN;rw[g,gU,Bool.or_true])
    rw[if_neg (by simpa using hnn)]
    simp only[jA]
    rw[if_pos (by simpa using hne2)]
    rfl) (by
   rintro⟨st,k⟩ i hi t' ⟨rfl,hI⟩ h
   simp only at hI h
   split at h
   ·rename_i g
    obtain rfl:=(Sum.inl.inj h).symm
    refine⟨rfl,?_⟩
    simp only[jF,kN,jD,jE]
    omega
   ·cases h) (by
   rintro⟨st,k⟩ ⟨rfl,hI⟩
   simp only[qFl]
   rw[if_neg (by simp)]) (M:=N) (t:=([],0)) (by omega) ⟨rfl,jU _⟩
 unfold qIy
 rw[show((([]:List Int),(0:Int)))=((([]:List Int),0).1,(((0:Nat)):Int)) from rfl]
 rw[hL]
 have key:∀(l:List Ex) (st:List Int) (k:Nat),run (fun(t:List Int×Nat) (x:Ex)=>if arP x=true∧x.2.2.2.2.length≤t.1.length∧t.1.drop (t.1.length-x.2.2.2.2.length)=x.2.2.2.2 then(.inl (t.1.take (t.1.length-x.2.2.2.2.length)++[(t.2:Int)],t.2+1):(List Int×Nat)⊕(List Int⊕Bool)) else .inr (.inr false)) (fun t=>(.inl t.1:List Int⊕Bool)) l (st,k)=match ordR l k st with
   |some r=> .inl r
   |none=> .inr false:=by
  intro l
  induction l with
  |nil=>intro st k;rfl
  |cons x l ih=>
   intro st k
   simp only[run]
   unfold ordR at ih ⊢
   rw[List.all_cons]
   by_cases h1:arP x=true
   ·rw[h1,gW]
    by_cases h2:x.2.2.2.2.length≤st.length∧st.drop (st.length-x.2.2.2.2.length)=x.2.2.2.2
    ·rw[if_pos ⟨rfl,h2⟩]
     simp only
     rw[ih]
     simp only[ordS]
     rw[if_pos h2]
    ·rw[if_neg (fun g=>h2 g.2)]
     simp only[ordS]
     rw[if_neg h2,ite_self]
   ·rw[if_neg (fun g=>h1 g.1),show arP x=false by simpa using h1,Bool.false_and]
    rfl
 rw[key]
 cases ordR l 0 [] with
 |none=>rfl
 |some r=>
  simp only[jA]
  congr 1
  match r with
  |[]=>rfl
  |[_]=>rfl
  |_::_::r=>
   show(((r.length+1+1:Nat):Int)==1)=false
   rw[beq_eq_false_iff_ne];omega
mutual
theorem zEo(t:Rose)(d:Nat):t.deepen (d+1)=t.deepen d+1:=by
 match t with
 | .mk h ks=>
  simp only[Rose.deepen]
  by_cases h4:h.1=4
  ·rw[if_pos h4,if_pos h4]
   by_cases hk:ks=[]
   ·rw[hk];simp[qNs]
   ·rw[qWx ks d hk];omega
  ·rw[if_neg h4,if_neg h4]
   by_cases hk:ks=[]
   ·rw[hk];simp[qNs]
   ·rw[qWx ks (d+1) hk];omega
theorem qWx(l:List Rose)(d:Nat)(hl:l≠[]):qNs (d+1) l=qNs d l+1:=by
 match l with
 |[]=>exact absurd rfl hl
 |t::l=>
  have i1:=zEo t d
  simp only[qNs]
  by_cases hk:l=[]
  ·rw[hk];simp only[qNs];omega
  ·rw[qWx l d hk];omega
end
theorem zOq{d:Nat}:∀(n:Nat) (t:Rose),t.size≤n→t.deepen d≤d+t.size∧d≤t.deepen d:=by
 intro n
 induction n generalizing d with
 |zero=>intro t h;have:=t.pos;omega
 |succ n ih=>
  intro t ht
  match t with
  | .mk h ks=>
   have key:∀(e:Nat) (l:List Rose),qEs l≤n→qNs e l≤e+qEs l:=by
    intro e l
    induction l with
    |nil=>intro _;exact k0 _
    |cons u l ihl=>
     intro hl
     have hu:=u.pos
     simp only[qEs] at hl
     have a:=(ih (d:=e) u (by omega)).1
     have b:=ihl (by omega)
     simp only[qNs,qEs];omega
   simp only[Rose.size] at ht ⊢
   simp only[Rose.deepen]
   by_cases h4:h.1=4
   ·have:=key d ks (by omega)
    rw[if_pos h4];omega
   ·have:=key (d+1) ks (by omega)
    rw[if_neg h4];omega
theorem zOi{N D:Nat}{l:List Ex}{x:Ex}{i:Nat}(hx:l[i]? =some x)(hxa:x.2.2.2.2.length<2000000):∀(ks:List Rose) (k b M m:Nat),(∀t∈ks,∀b,AtT l b t→qFy N D l ((b+t.size-1:Nat):Int)=some ((t.deepen 1:Nat):Int))→x.2.2.2.2.drop k=qIi b ks→k≤x.2.2.2.2.length→AtTs l b ks→qEs ks≤300→ks.length<M→
  qAs (qGs N (qFy N D) l (i:Int) x) M ((m:Int),(k:Int))=some ((max m (qNs (if x.1=4 then 1 else 2) ks):Nat):Int)
 |_,_,_,0,_,_,_,_,_,_,h=>absurd h (kV _)
 |[],k,b,M+1,m,_,hr,hk,_,_,_=>by
  have hl:k=x.2.2.2.2.length:=by
   have:=congrArg List.length hr
   rw[gG] at this
   simp only[qIi,jE] at this
   omega
  simp only[qAs,qGs]
  rw[if_neg (by simp only[jB];omega)]
  simp only[jA,qNs,Nat.max_zero]
 |t::ks,k,b,M+1,m,hks,hr,hk,hat,hsz,hM=>by
  have hpos:=t.pos
  simp only[qEs] at hsz
  have hkl:k<x.2.2.2.2.length:=by
   by_cases hh:k<x.2.2.2.2.length
   ·exact hh
   ·rw[jQ (by omega)] at hr;cases hr
  rw[qOg hkl] at hr
  obtain⟨hr1,hr2⟩:=List.cons.inj hr
  obtain⟨at1,at2⟩:=hat.head
  have hdl:=(zOq (d:=1) t.size t (jU _)).1
  have ew:IntKind.wrap .i64 ((k:Int)+1)=((k+1:Nat):Int):=by rw[wi64 (by omega) (by omega)];omega
  have ed:IntKind.wrap .i64 (((t.deepen 1:Nat):Int)+1)=((t.deepen 2:Nat):Int):=by
   have:=zEo t 1
   rw[wi64 (by omega) (by omega),show t.deepen 2=t.deepen 1+1 from this];omega
  simp only[qAs,qGs]
  rw[if_pos (by simp only[jB];omega),qCg hkl,hr1]
  simp only[jA]
  rw[hks t (jJ ..) b at1,qZv hx]
  simp only[jA,ed,ew]
  have e4:(if(x.1 !=4)=true then some ((t.deepen 2:Nat):Int) else some ((t.deepen 1:Nat):Int):Option Int)=some ((t.deepen (if x.1=4 then 1 else 2):Nat):Int):=by
   by_cases h4:x.1=4
   ·rw[if_neg (by simp[h4]),if_pos h4]
   ·rw[if_pos (by simpa using h4),if_neg h4]
  rw[e4]
  simp only[jA,max_if]
  rw[zOi hx hxa ks (k+1) (b+t.size) M _ (fun u hu=>hks u (jL _ hu)) hr2 (by omega) at2 (by omega) (by simp only[jD] at hM;omega)]
  simp only[qNs,Nat.max_assoc]
theorem zPh{N:Nat}{l:List Ex}(ha:∀x∈l,x.2.2.2.2.length<2000000)(hN:3000000<N):∀(n:Nat) (t:Rose) (b D:Nat),t.size≤n→n≤300→n≤D→AtT l b t→qFy N D l ((b+t.size-1:Nat):Int)=some ((t.deepen 1:Nat):Int)
 |0,t,_,_,h,_,_,_=>by have:=t.pos;omega
 |n+1,.mk h ks,b,D,hsz,hn,hD,hat=>by
  simp only[Rose.size] at hsz ⊢
  obtain⟨D,rfl⟩:∃D',D=D'+1:=⟨D-1,by omega⟩
  rw[show b+(qEs ks+1)-1=b+qEs ks by omega]
  obtain⟨hx,hats⟩:=hat.args
  have hxa:=ha _ (List.mem_of_getElem? hx)
  have hll:=qTp ks
  have hsub:∀t∈ks,t.size≤qEs ks:=by
   intro t ht
   clear hats hx hxa hll hsz hat
   induction ks with
   |nil=>cases ht
   |cons u l ih=>
    simp only[qEs]
    rcases jM.1 ht with rfl|ht
    ·omega
    ·have:=ih ht;omega
  have hl:=zOi (N:=N) (D:=D) hx hxa ks 0 b N 1 (fun t ht b' hat'=>zPh ha hN n t b' D (by have:=hsub t ht;omega) (by omega) (by omega) hat') (by rw[kA];rfl) (k0 _) hats (by omega) (by omega)
  show qJo N (qFy N D) l _=_
  unfold qJo
  rw[qZv hx]
  simp only[jA]
  rw[show((1:Int),(0:Int))=(((1:Nat):Int),((0:Nat):Int)) from rfl,hl]
  simp only[jA,Rose.deepen]
  rfl
theorem zTu{N:Nat}{l:List Ex}(ho:oneP (ordS l 0 [])=true)(hl:l.length≤256)(ha:∀x∈l,x.2.2.2.2.length<2000000)(hN:3000000<N):∃v:Int,qLu N l (IntKind.wrap .i64 ((l.length:Int)-1))=some v∧(decide (v>32))=zMk l:=by
 obtain⟨t,h1,h2⟩:=zDy ho
 have hsz:t.size=l.length:=by
  have:=qIq t 0
  rw[←h2] at this;exact this.symm
 have hp:=t.pos
 have hat:AtT l 0 t:=by
  have:=AtT.whole t
  rw[←h2] at this;exact this
 refine⟨((t.deepen 1:Nat):Int),?_,?_⟩
 ·unfold qLu
  have:=zPh ha hN t.size t 0 N (jU _) (by omega) (by omega) hat
  rw[wi64 (by omega) (by omega),show(l.length:Int)-1=((0+t.size-1:Nat):Int) by omega]
  exact this
 ·unfold zMk
  rw[h1]
  simp only
  congr 1
  rw[eq_iff_iff];omega
end
section
open Go Go.Dc Go.Proofs
def SmE(d:Dl):Prop:=d.2.2.1.length<2000000∧d.2.2.2.length<2000000∧∀x∈d.2.2.2,x.2.2.2.2.length<2000000
def SmR(f:Sr):Prop:=f.2.1.length<2000000∧f.2.2.length<2000000∧∀d∈f.2.2,SmE d
theorem SmSr.r{f:Sr}(h:SmSr f):SmR f:=⟨h.1,h.2.1,fun d hd=>⟨(h.2.2 d hd).2.1,(h.2.2 d hd).2.2.1,fun x hx=>((h.2.2 d hd).2.2.2 x hx).2⟩⟩
theorem rc_L1{N:Nat}{f:Sr}(hf:SmR f)(hN:3000000<N):qAs (qFb N f) N 0=some (if f.2.1.all qHx=true then .inl () else .inr 9):=by
 obtain⟨h1,-,-⟩:=hf
 have h:=qGo (L:=f.2.1) (fun(_:Unit) (i:Nat)=>(i:Int)) (f:=qFb N f)
  (fun _ s=>if(!qHx s)=true then .inr (.inr 9) else .inl ()) (fun _=>(.inl ():Unit⊕Int)) (fun _ _=>True) (by
   intro t i hi _
   simp only[qFb]
   rw[if_pos (by simp only[jB];omega),qCg hi]
   have ew:IntKind.wrap .i64 ((i:Int)+1)=((i+1:Nat):Int):=by rw[wi64 (by omega) (by omega)];omega
   simp only[jA,qWl (s:=f.2.1[i]) (show 100<N by omega),ew]
   cases qHx f.2.1[i]<;>rfl) (fun _ _ _ _ _ _=>trivial) (by
   intro t _
   simp only[qFb]
   rw[if_neg (by simp)]) (M:=N) (t:=()) (by omega) trivial
 rw[show((0:Nat):Int)=0 from rfl] at h
 rw[h,qWz (b:=(.inr 9:Unit⊕Int)) (fun s=> !qHx s) (fun x=>rfl),fN]
 cases(f.2.1.any fun s=> !qHx s)<;>rfl
theorem rc_L3{N:Nat}{d:Dl}(hd:SmE d)(hN:3000000<N):qAs (qFf N d) N 0=some (if d.2.2.1.all qHx=true then .inl () else .inr 9):=by
 obtain⟨h1,-,-⟩:=hd
 have h:=qGo (L:=d.2.2.1) (fun(_:Unit) (i:Nat)=>(i:Int)) (f:=qFf N d)
  (fun _ s=>if(!qHx s)=true then .inr (.inr 9) else .inl ()) (fun _=>(.inl ():Unit⊕Int)) (fun _ _=>True) (by
   intro t i hi _
   simp only[qFf]
   rw[if_pos (by simp only[jB];omega),qCg hi]
   have ew:IntKind.wrap .i64 ((i:Int)+1)=((i+1:Nat):Int):=by rw[wi64 (by omega) (by omega)];omega
   simp only[jA,qWl (s:=d.2.2.1[i]) (show 100<N by omega),ew]
   cases qHx d.2.2.1[i]<;>rfl) (fun _ _ _ _ _ _=>trivial) (by
   intro t _
   simp only[qFf]
   rw[if_neg (by simp)]) (M:=N) (t:=()) (by omega) trivial
 rw[show((0:Nat):Int)=0 from rfl] at h
 rw[h,qWz (b:=(.inr 9:Unit⊕Int)) (fun s=> !qHx s) (fun x=>rfl),fN]
 cases(d.2.2.1.any fun s=> !qHx s)<;>rfl
theorem rc_L4{N:Nat}{d:Dl}(hd:SmE d)(hN:3000000<N):qAs (qFc N d) N 0=some (if d.2.2.2.all (qRc (d.2.2.1.length:Int))=true then .inl () else .inr 9):=by
 obtain⟨-,h1,-⟩:=hd
 have h:=qGo (L:=d.2.2.2) (fun(_:Unit) (i:Nat)=>(i:Int)) (f:=qFc N d)
  (fun _ x=>if(!qRc (d.2.2.1.length:Int) x)=true then .inr (.inr 9) else .inl ()) (fun _=>(.inl ():Unit⊕Int)) (fun _ _=>True) (by
   intro t i hi _
   simp only[qFc]
   rw[if_pos (by simp only[jB];omega),qCg hi]
   have ew:IntKind.wrap .i64 ((i:Int)+1)=((i+1:Nat):Int):=by rw[wi64 (by omega) (by omega)];omega
   simp only[jA,zRr (x:=d.2.2.2[i]) (np:=(d.2.2.1.length:Int)) (show 100<N by omega),ew]
   cases qRc (d.2.2.1.length:Int) d.2.2.2[i]<;>rfl) (fun _ _ _ _ _ _=>trivial) (by
   intro t _
   simp only[qFc]
   rw[if_neg (by simp)]) (M:=N) (t:=()) (by omega) trivial
 rw[show((0:Nat):Int)=0 from rfl] at h
 rw[h,qWz (b:=(.inr 9:Unit⊕Int)) (fun x=> !qRc (d.2.2.1.length:Int) x) (fun x=>rfl),fN]
 cases(d.2.2.2.any fun x=> !qRc (d.2.2.1.length:Int) x)<;>rfl
def zNu(d:Dl):Bool:=(d.1==1||(d.2.2.1.isEmpty&&(d.1==2||d.1==3)))&&(if d.1=3 then qJi d.2.1.data.toList else qHx d.2.1)
theorem zBe(d:Dl):qLy d=(zNu d&&(d.2.2.1.all qHx&&(d.2.2.2.all (qRc (d.2.2.1.length:Int))&&oneP (ordR d.2.2.2 0 [])))):=by
 have hb:zQz d=(d.2.2.2.all (qRc (d.2.2.1.length:Int))&&oneP (ordR d.2.2.2 0 [])):=by
  unfold zQz ordR
  have e:d.2.2.2.all (qUp (d.2.2.1.length:Int))=(d.2.2.2.all (qRc (d.2.2.1.length:Int))&&d.2.2.2.all arP):=by
   rw[kE]
   simp only[jT,jN,zLz]
   exact⟨fun h=>⟨fun x hx=>(h x hx).1,fun x hx=>(h x hx).2⟩,fun h x hx=>⟨h.1 x hx,h.2 x hx⟩⟩
  rw[e]
  cases d.2.2.2.all arP with
  |true=>simp
  |false=>simp[oneP]
 unfold qLy
 rw[hb]
 unfold zPm zTr zNu
 by_cases k1:d.1=1
 ·simp[k1]
 by_cases k2:d.1=2
 ·cases hp:d.2.2.1 with
  |nil=>simp[k2]
  |cons a l=>simp[k2]
 by_cases k3:d.1=3
 ·cases hp:d.2.2.1 with
  |nil=>simp[k3]
  |cons a l=>simp[k3]
 simp[k1,k2,k3]
theorem rc_L2{N:Nat}{f:Sr}(hf:SmR f)(hN:3000000<N):qAs (qEy N f) N 0=some (if f.2.2.all qLy=true then .inl () else .inr 9):=by
 obtain⟨-,h1,h2⟩:=hf
 have h:=qGo (L:=f.2.2) (fun(_:Unit) (i:Nat)=>(i:Int)) (f:=qEy N f)
  (fun _ d=>if(!qLy d)=true then .inr (.inr 9) else .inl ()) (fun _=>(.inl ():Unit⊕Int)) (fun _ _=>True) (by
   intro t i hi _
   have hd:=h2 _ (jP hi)
   obtain⟨-,q1,q2⟩:=id hd
   simp only[qEy]
   rw[if_pos (by simp only[jB];omega),qCg hi]
   generalize f.2.2[i]=d at hd q1 q2
   have ew:IntKind.wrap .i64 ((i:Int)+1)=((i+1:Nat):Int):=by rw[wi64 (by omega) (by omega)];omega
   simp only[jA,qWl (s:=d.2.1) (show 100<N by omega),qPl (s:=d.2.1) (show 100<N by omega),rc_L3 hd hN,rc_L4 hd hN,zLg q1 q2 hN,ew]
   rw[zBe]
   have hk:(if decide (d.1<1)=true then some true else if decide (d.1>3)=true then some true else if(d.1 !=1)=true then(if decide ((d.2.2.1.length:Int)>0)=true then some true else if(d.1==3)=true then(if(!qJi d.2.1.data.toList)=true then some true else if(d.1 !=3)=true then some (!qHx d.2.1) else some false) else if(d.1 !=3)=true then some (!qHx d.2.1) else some false) else if(d.1==3)=true then(if(!qJi d.2.1.data.toList)=true then some true else if(d.1 !=3)=true then some (!qHx d.2.1) else some false) else if(d.1 !=3)=true then some (!qHx d.2.1) else some false:Option Bool)=some (!zNu d):=by
    unfold zNu
    by_cases k1:d.1=1
    ·simp[k1]
    by_cases k2:d.1=2
    ·cases hp:d.2.2.1 with
     |nil=>simp[k2]
     |cons a l=>simp[k2]
    by_cases k3:d.1=3
    ·cases hp:d.2.2.1 with
     |nil=>simp[k3];cases qJi d.2.1.data.toList<;>rfl
     |cons a l=>simp[k3]
    by_cases k4:d.1<1
    ·simp[k1,k2,k3,k4]
    ·have k5:d.1>3:=by omega
     simp[k1,k2,k3,k4,k5]
   refine Eq.trans (congrArg (fun z=>Option.bind z _) hk) ?_
   simp only[jA]
   cases zNu d with
   |false=>rfl
   |true=>
    rw[if_neg (by decide),gW]
    cases d.2.2.1.all qHx with
    |false=>rfl
    |true=>
     rw[if_pos rfl,gW]
     simp only
     cases d.2.2.2.all (qRc (d.2.2.1.length:Int)) with
     |false=>rfl
     |true=>
      rw[if_pos rfl,gW]
      simp only
      cases oneP (ordR d.2.2.2 0 [])<;>rfl) (fun _ _ _ _ _ _=>trivial) (by
   intro t _
   simp only[qEy]
   rw[if_neg (by simp)]) (M:=N) (t:=()) (by omega) trivial
 rw[show((0:Nat):Int)=0 from rfl] at h
 rw[h,qWz (b:=(.inr 9:Unit⊕Int)) (fun d=> !qLy d) (fun x=>rfl),fN]
 cases(f.2.2.any fun d=> !qLy d)<;>rfl
theorem rc_L5{N:Nat}{f:Sr}(hf:SmR f)(hN:3000000<N):qAs (qEz N f) N 0=some (if(decide (f.1∈f.2.1)||dupL f.2.1)=true then .inr 10 else .inl ()):=by
 obtain⟨h1,-,-⟩:=hf
 have h:=qGo (L:=f.2.1) (fun(_:List ByteArray) (i:Nat)=>(i:Int)) (f:=qEz N f)
  (fun t s=>if(decide (s=f.1)||decide (s∈t))=true then .inr (.inr 10) else .inl (t++[s])) (fun _=>(.inl ():Unit⊕Int)) (fun i t=>t=f.2.1.take i) (by
   rintro t i hi rfl
   simp only[qEz]
   rw[if_pos (by simp only[jB];omega),qCg hi]
   have ew:IntKind.wrap .i64 ((i:Int)+1)=((i+1:Nat):Int):=by rw[wi64 (by omega) (by omega)];omega
   simp only[jA]
   rw[qTl (by omega) (by omega) (by omega)]
   simp only[jA,jS,fI,kA,qFj,ew]
   rw[rhas (by rw[kN];omega) (by rw[kN];omega)]
   simp only[jA]
   cases decide (f.2.1[i]=f.1)<;>cases decide (f.2.1[i]∈f.2.1.take i)<;>rfl) (by
   rintro t i hi t' rfl hh
   split at hh
   ·cases hh
   ·obtain rfl:=(Sum.inl.inj hh).symm
    rw[zAg hi]) (by
   intro t _
   simp only[qEz]
   rw[if_neg (by simp)]) (M:=N) (t:=[]) (by omega) (by simp)
 rw[show((0:Nat):Int)=0 from rfl] at h
 rw[h]
 congr 1
 have key:∀(l t:List ByteArray),run (fun t s=>if(decide (s=f.1)||decide (s∈t))=true then(.inr (.inr 10):List ByteArray⊕(Unit⊕Int)) else .inl (t++[s])) (fun _=>(.inl ():Unit⊕Int)) l t=if(decide (f.1∈l)||dupG t l)=true then .inr 10 else .inl ():=by
  intro l
  induction l with
  |nil=>intro t;rfl
  |cons s l ih=>
   intro t
   simp only[run,dupG,jM]
   by_cases e1:s=f.1
   ·simp[e1]
   ·by_cases e2:s∈t
    ·simp[e2]
    ·rw[jY e1,jY e2]
     simp only[Bool.or_self,jC,jH,gS]
     rw[ih]
     have e3:decide (f.1=s∨f.1∈l)=decide (f.1∈l):=by
      rw[decide_eq_decide]
      exact⟨fun h=>h.resolve_left (fun g=>e1 g.symm),.inr⟩
     rw[e3]
 exact key _ _
theorem rc_L7{N:Nat}{d:Dl}(hd:SmE d)(hN:3000000<N):qAs (qEx N d) N 0=some (if dupL d.2.2.1=true then .inr 10 else .inl ()):=by
 obtain⟨h1,-,-⟩:=hd
 have h:=qGo (L:=d.2.2.1) (fun(_:List ByteArray) (i:Nat)=>(i:Int)) (f:=qEx N d)
  (fun t s=>if decide (s∈t)=true then .inr (.inr 10) else .inl (t++[s])) (fun _=>(.inl ():Unit⊕Int)) (fun i t=>t=d.2.2.1.take i) (by
   rintro t i hi rfl
   simp only[qEx]
   rw[if_pos (by simp only[jB];omega),qCg hi]
   have ew:IntKind.wrap .i64 ((i:Int)+1)=((i+1:Nat):Int):=by rw[wi64 (by omega) (by omega)];omega
   simp only[jA]
   rw[qTl (by omega) (by omega) (by omega)]
   simp only[jA,jS,fI,kA,ew]
   rw[rhas (by rw[kN];omega) (by rw[kN];omega)]
   simp only[jA]
   cases decide (d.2.2.1[i]∈d.2.2.1.take i)<;>rfl) (by
   rintro t i hi t' rfl hh
   split at hh
   ·cases hh
   ·obtain rfl:=(Sum.inl.inj hh).symm
    rw[zAg hi]) (by
   intro t _
   simp only[qEx]
   rw[if_neg (by simp)]) (M:=N) (t:=[]) (by omega) (by simp)
 rw[show((0:Nat):Int)=0 from rfl] at h
 rw[h]
 congr 1
 have key:∀(l t:List ByteArray),run (fun t s=>if decide (s∈t)=true then(.inr (.inr 10):List ByteArray⊕(Unit⊕Int)) else .inl (t++[s])) (fun _=>(.inl ():Unit⊕Int)) l t=if dupG t l=true then .inr 10 else .inl ():=by
  intro l
  induction l with
  |nil=>intro t;rfl
  |cons s l ih=>
   intro t
   simp only[run]
   rw[show dupG t (s::l)=(decide (s∈t)||dupG (t++[s]) l) from rfl]
   by_cases e2:s∈t
   ·simp[e2]
   ·rw[jY e2]
    simp only[jC,jH,gS]
    rw[ih]
 exact key _ _
theorem zLo(l:List Dl)(d:Dl):(l.any fun x=>x.1==d.1&&decide (x.2.1=d.2.1))=decide (qVh d∈l.map qVh):=by
 rw[kE]
 simp only[gV,jN,kC,jB,kU]
 constructor
 ·rintro⟨x,hx,h1,h2⟩
  exact⟨x,hx,Prod.ext h1 h2⟩
 ·rintro⟨x,hx,h⟩
  exact⟨x,hx,congrArg (fun z:Nm2=>z.1) h,congrArg (fun z:Nm2=>z.2) h⟩
theorem rc_L6{N:Nat}{f:Sr}(hf:SmR f)(hN:3000000<N):qAs (qFa N f) N 0=some (if(dupL (f.2.2.map qVh)||f.2.2.any (fun d=>dupL d.2.2.1))=true then .inr 10 else .inl ()):=by
 obtain⟨-,h1,h2⟩:=hf
 have h:=qGo (L:=f.2.2) (fun(_:List Dl) (i:Nat)=>(i:Int)) (f:=qFa N f)
  (fun t d=>if(decide (qVh d∈t.map qVh)||dupL d.2.2.1)=true then .inr (.inr 10) else .inl (t++[d])) (fun _=>(.inl ():Unit⊕Int)) (fun i t=>t=f.2.2.take i) (by
   rintro t i hi rfl
   have hd:=h2 _ (jP hi)
   simp only[qFa]
   rw[if_pos (by simp only[jB];omega),qCg hi]
   have ew:IntKind.wrap .i64 ((i:Int)+1)=((i+1:Nat):Int):=by rw[wi64 (by omega) (by omega)];omega
   simp only[jA]
   rw[qTl (by omega) (by omega) (by omega)]
   simp only[jA,jS,fI,kA,ew]
   rw[zSl (by show(f.2.2.take i).length<_;rw[kN];omega) (by show(f.2.2.take i).length<_;rw[kN];omega)]
   simp only[jA]
   rw[show((((⟨#[]⟩:ByteArray),([]:List ByteArray),f.2.2.take i):Sr).2.2.any fun x=>x.1==f.2.2[i].1&&decide (x.2.1=f.2.2[i].2.1))=_ from zLo (f.2.2.take i) f.2.2[i],rc_L7 hd hN]
   cases decide (qVh f.2.2[i]∈(f.2.2.take i).map qVh)<;>cases dupL f.2.2[i].2.2.1<;>rfl) (by
   rintro t i hi t' rfl hh
   split at hh
   ·cases hh
   ·obtain rfl:=(Sum.inl.inj hh).symm
    rw[zAg hi]) (by
   intro t _
   simp only[qFa]
   rw[if_neg (by simp)]) (M:=N) (t:=[]) (by omega) (by simp)
 rw[show((0:Nat):Int)=0 from rfl] at h
 rw[h]
 congr 1
 have key:∀(l t:List Dl),run (fun t d=>if(decide (qVh d∈t.map qVh)||dupL d.2.2.1)=true then(.inr (.inr 10):List Dl⊕(Unit⊕Int)) else .inl (t++[d])) (fun _=>(.inl ():Unit⊕Int)) l t=if(dupG (t.map qVh) (l.map qVh)||l.any (fun d=>dupL d.2.2.1))=true then .inr 10 else .inl ():=by
  intro l
  induction l with
  |nil=>intro t;rfl
  |cons d l ih=>
   intro t
   simp only[run,k9,dupG,dN]
   by_cases e1:qVh d∈t.map qVh
   ·simp[e1]
   ·rw[jY e1]
    cases e2:dupL d.2.2.1 with
    |true=>simp
    |false=>
     simp only[Bool.or_self,jC,jH,gS]
     rw[ih,dF,List.map_singleton]
 exact key _ _
theorem rc_L8{N:Nat}{f:Sr}(hf:SmR f)(hs:f.2.2.all qLy=true)(hN:3000000<N):qAs (qFg N f) N 0=some (if f.2.2.any zIo=true then .inr 2 else .inl ()):=by
 obtain⟨-,h1,h2⟩:=hf
 have h:=qGo (L:=f.2.2) (fun(_:Unit) (i:Nat)=>(i:Int)) (f:=qFg N f)
  (fun _ d=>if zIo d=true then .inr (.inr 2) else .inl ()) (fun _=>(.inl ():Unit⊕Int)) (fun _ _=>True) (by
   intro t i hi _
   obtain⟨q1,q2,q3⟩:=h2 _ (jP hi)
   have ho:=(zJw (jT.1 hs _ (jP hi))).tree
   simp only[qFg]
   rw[if_pos (by simp only[jB];omega),qCg hi]
   generalize f.2.2[i]=d at q1 q2 q3 ho
   have ew:IntKind.wrap .i64 ((i:Int)+1)=((i+1:Nat):Int):=by rw[wi64 (by omega) (by omega)];omega
   have e8:decide ((d.2.2.1.length:Int)>8)=decide (8<d.2.2.1.length):=by congr 1;rw[eq_iff_iff];omega
   have e256:decide ((d.2.2.2.length:Int)>256)=decide (256<d.2.2.2.length):=by congr 1;rw[eq_iff_iff];omega
   simp only[jA,e8,e256,ew]
   unfold zIo
   cases c8:decide (8<d.2.2.1.length) with
   |true=>rfl
   |false=>
    simp only[jC,jH,gS]
    cases c256:decide (256<d.2.2.2.length) with
    |true=>rfl
    |false=>
     have hl:=of_decide_eq_false c256
     obtain⟨v,v1,v2⟩:=zTu ho (by omega) q3 hN
     simp only[jC,jH,gS,v1,jA,v2]
     cases zMk d.2.2.2<;>rfl) (fun _ _ _ _ _ _=>trivial) (by
   intro t _
   simp only[qFg]
   rw[if_neg (by simp)]) (M:=N) (t:=()) (by omega) trivial
 rw[show((0:Nat):Int)=0 from rfl] at h
 rw[h,qWz (b:=(.inr 2:Unit⊕Int)) zIo (fun x=>rfl)]
theorem zMm{N:Nat}{f:Sr}(hf:SmR f)(hN:3000000<N):qJv N f=some (qZo f):=by
 unfold qJv qZo synP
 rw[qWl (by omega),rc_L1 hf hN,rc_L2 hf hN,rc_L5 hf hN,rc_L6 hf hN]
 simp only[jA]
 cases qHx f.1 with
 |false=>rfl
 |true=>
  rw[if_neg (by decide),gW]
  cases f.2.1.all qHx with
  |false=>rfl
  |true=>
   rw[if_pos rfl,gW]
   simp only
   cases hs:f.2.2.all qLy with
   |false=>rfl
   |true=>
    rw[if_pos rfl,if_pos rfl,rc_L8 hf hs hN]
    simp only
    unfold zKc zSe
    have e8:decide ((f.2.1.length:Int)>8)=decide (8<f.2.1.length):=by congr 1;rw[eq_iff_iff];omega
    have e64:decide ((f.2.2.length:Int)>64)=decide (64<f.2.2.length):=by congr 1;rw[eq_iff_iff];omega
    rw[e8,e64]
    cases decide (f.1∈f.2.1)<;>cases dupL f.2.1<;>cases dupL (f.2.2.map qVh)<;>cases f.2.2.any (fun d=>dupL d.2.2.1)<;>(try rfl)
    cases decide (8<f.2.1.length)<;>cases decide (64<f.2.2.length)<;>cases f.2.2.any zIo<;>rfl
end
section
open Go Go.Dc Go.Proofs
theorem zJu{N:Nat}:∀(D k n:Nat),n<10^(k+1)→n<10000000000000000→k<D→qHy N D (n:Int)=some (itB (n:Int))
 |0,_,_,_,_,h=>absurd h (kV _)
 |D+1,k,n,h,hn,hD=>by
  show qIc N (qHy N D) (n:Int)=_
  unfold qIc
  by_cases h10:n<10
  ·have hsz:ByteArray.size (⟨#[48,49,50,51,52,53,54,55,56,57]⟩:ByteArray)=10:=rfl
   rw[if_pos (by simp only[jB];omega),wu64 (by omega) (by omega),qTn (by omega) (by omega) (by omega)]
   simp only[jA,jS]
   rw[show((n:Int)+1).toNat=n+1 by omega]
   congr 1
   refine qSr ?_
   rw[qQf,Lib.decDigits_one h10]
   exact zSx ⟨n,h10⟩
  ·rw[if_neg (by simp only[jB];omega)]
   obtain⟨k,rfl⟩:∃k',k=k'+1:=by
    cases k with
    |zero=>simp at h;omega
    |succ k=>exact⟨k,rfl⟩
   rw[dC] at h
   have e1:IntKind.wrap .u64 (Int.tdiv (n:Int) 10)=((n/10:Nat):Int):=by
    rw[show(10:Int)=((10:Nat):Int) from rfl,←Int.ofNat_tdiv,wu64 (by omega) (by omega)]
   have e2:Int.tmod (n:Int) 10=((n%10:Nat):Int):=by
    rw[show(10:Int)=((10:Nat):Int) from rfl,←Int.ofNat_tmod]
   rw[e1,e2,zJu D k (n/10) (by omega) (by omega) (by omega),zJu D 0 (n%10) (by omega) (by omega) (by omega)]
   simp only[jA]
   have l1:=qXa 15 (n/10) (by omega)
   have l2:=qXa 15 (n%10) (by omega)
   have s1:(itB ((n/10:Nat):Int)).size=(Lib.decDigits (n/10)).length:=by rw[←qQf,szl]
   have s2:(itB ((n%10:Nat):Int)).size=(Lib.decDigits (n%10)).length:=by rw[←qQf,szl]
   rw[catW (by omega)]
   simp only[jA]
   congr 1
   refine qSr ?_
   rw[qOk,qQf,qQf,qQf,zJx h10,Lib.decDigits_one (show n%10<10 by omega)]
theorem qYs{N:Nat}{n:Int}(h0: -9007199254740992≤n)(h1:n≤9007199254740992)(hN:100<N):qEw N n=some (itB n):=by
 unfold qEw qKz
 by_cases h:n<0
 ·rw[if_pos (by simpa using h),wi64 (show-9223372036854775808≤n+1 by omega) (by omega),wi64 (by omega) (by omega),wu64 (show 0≤0-(n+1) by omega) (by omega),wu64 (by omega) (by omega)]
  obtain⟨m,rfl⟩:∃m:Nat,n= -(m:Int):=⟨n.natAbs,by omega⟩
  rw[show(0-(-(m:Int)+1)+1)=(m:Int) by omega,zJu N 15 m (by omega) (by omega) (by omega)]
  have l1:=qXa 15 m (by omega)
  have s1:(itB (m:Int)).size=(Lib.decDigits m).length:=by rw[←qQf,szl]
  have z:(⟨#[45]⟩:ByteArray).size=1:=rfl
  simp only[jA]
  rw[catW (by omega)]
  simp only[jA]
  congr 1
  refine qSr ?_
  rw[qOk,qQf]
  show[45]++Lib.decDigits m=Lib.itoa (-(m:Int))
  unfold Lib.itoa
  rw[if_pos (by omega),show(-(m:Int)).natAbs=m by omega]
  rfl
 ·rw[if_neg (by simpa using h),wu64 (by omega) (by omega)]
  obtain⟨m,rfl⟩:∃m:Nat,n=(m:Int):=⟨n.toNat,by omega⟩
  rw[zJu N 15 m (by omega) (by omega) (by omega)]
  rfl
theorem zEp{N:Nat}(x:Ex):qEp N x=some (lvH (x.1,x.2.1,x.2.2.1,x.2.2.2.1)):=by
 unfold qEp lvH
 by_cases h5:x.1=5
 ·simp[h5]
 by_cases h4:x.1=4
 ·by_cases o1:x.2.2.1=1
  ·simp[h4,o1]
  by_cases o2:x.2.2.1=2
  ·simp[h4,o2]
  by_cases o6:x.2.2.1=6
  ·simp[h4,o6]
  by_cases o7:x.2.2.1=7
  ·simp[h4,o7]
  simp[h4,o6,o7,o1,o2]
 simp[h5,h4]
theorem qSg{N:Nat}{h:Hd}{args:List Int}{need:Int}{B:List UInt8}(hB:B.length≤100000):(Option.bind (some (qFv B)) fun o1=>(qEp N (qMh h args)).bind fun y11=>if(decide (y11<need))=true then((catB (⟨#[40]⟩:ByteArray) o1).bind fun s27=>(catB s27 (⟨#[41]⟩:ByteArray)).bind fun s28=>some s28) else(some o1))=some (qFv (if lvH h<need then 40::(B++[41]) else B)):=by
 have z1:(⟨#[40]⟩:ByteArray).size=1:=rfl
 have z2:(⟨#[41]⟩:ByteArray).size=1:=rfl
 rw[show qEp N (qMh h args)=some (lvH h) from zEp _]
 simp only[jA]
 by_cases h:lvH h<need
 ·rw[if_pos (by simpa using h),if_pos h,catW (by rw[qDh];omega)]
  simp only[jA]
  rw[catW (by rw[ByteArray.size_append,qDh];omega)]
  rfl
 ·rw[if_neg (by simpa using h),if_neg h]
theorem zRs{op:Int}(h0:1≤op)(h1:op≤7):idx ([(⟨#[]⟩:ByteArray),(⟨#[43]⟩:ByteArray),(⟨#[45]⟩:ByteArray),(⟨#[42]⟩:ByteArray),(⟨#[47]⟩:ByteArray),(⟨#[37]⟩:ByteArray),(⟨#[60]⟩:ByteArray),(⟨#[61,61]⟩:ByteArray)]) op=some (zOj op):=by
 rcases(by omega:op=1∨op=2∨op=3∨op=4∨op=5∨op=6∨op=7) with rfl|rfl|rfl|rfl|rfl|rfl|rfl<;>rfl
section
variable {N:Nat} {l:List Ex} {ps:List ByteArray}
def RwOk(N:Nat)(l:List Ex)(ps:List ByteArray)(t:Rose):Prop:=∀(b D:Nat) (need:Int),AtT l b t→t.size≤300→t.size≤D→0≤need→qFu N D l ((b+t.size-1:Nat):Int) ps need=some (qFv (t.wr ps need))∧(t.wr ps need).length+2≤110*t.size
theorem nd0{h:Hd}(h4:h.1≠4)(k:Nat):qPw h k=0:=by unfold qPw;rw[if_neg h4]
theorem rw_L1{D:Nat}{h:Hd}{x:Ex}(hN:3000000<N)(h4:h.1≠4)(hx:x.2.2.2.2.length<2000000):∀(ks:List Rose) (k b M:Nat) (s:List UInt8),(∀t∈ks,RwOk N l ps t∧t.size≤300∧t.size≤D)→x.2.2.2.2.drop k=qIi b ks→k≤x.2.2.2.2.length→AtTs l b ks→s.length+110*qEs ks≤100000→ks.length<M→
  qAs (qGk N (qFu N D) l ps x) M (qFv s,(k:Int))=some (qFv (s++qXb k (wrs ps h k ks)))
 |_,_,_,0,_,_,_,_,_,_,hM=>absurd hM (kV _)
 |[],k,b,M+1,s,_,hr,hk,_,_,_=>by
  have hl:k=x.2.2.2.2.length:=by
   have:=congrArg List.length hr
   rw[gG] at this
   simp only[qIi,jE] at this
   omega
  simp only[qAs,qGk]
  rw[if_neg (by simp only[jB];omega)]
  simp only[jA,wrs,qXb,fJ]
 |t::ks,k,b,M+1,s,hks,hr,hk,hat,hs,hM=>by
  have hpos:=t.pos
  simp only[qEs] at hs
  have hkl:k<x.2.2.2.2.length:=by
   by_cases hh:k<x.2.2.2.2.length
   ·exact hh
   ·rw[jQ (by omega)] at hr;cases hr
  rw[qOg hkl] at hr
  obtain⟨hr1,hr2⟩:=List.cons.inj hr
  obtain⟨at1,at2⟩:=hat.head
  obtain⟨t1,t2,t3⟩:=hks t (jJ ..)
  obtain⟨w1,w2⟩:=t1 b D 0 at1 t2 t3 (f0 0)
  have ew:IntKind.wrap .i64 ((k:Int)+1)=((k+1:Nat):Int):=by rw[wi64 (by omega) (by omega)];omega
  have z:(⟨#[44,32]⟩:ByteArray).size=2:=rfl
  simp only[qAs,qGk]
  rw[if_pos (by simp only[jB];omega),qCg hkl,hr1]
  have hsep:(if(decide ((k:Int)>0))=true then((catB (qFv s) (⟨#[44,32]⟩:ByteArray)).bind fun s3=>some s3) else(some (qFv s)):Option ByteArray)=some (qFv (s++sepK k)):=by
   unfold sepK
   by_cases h0:k=0
   ·subst h0
    rw[if_neg (by decide),if_pos rfl,fJ]
   ·rw[if_pos (by simp only[jB];omega),if_neg h0,catW (by rw[qDh];omega)]
    rfl
  have hsl:(s++sepK k).length≤s.length+2:=by
   unfold sepK
   split<;>simp
  simp only[jA,hsep,w1]
  rw[catW (by rw[qDh,qDh];omega)]
  simp only[jA,ew]
  have hcat:qFv (s++sepK k)++qFv (t.wr ps 0)=qFv ((s++sepK k)++t.wr ps 0):=by
   refine qSr ?_
   rw[qOk,qHp,qHp,qHp]
  rw[hcat,rw_L1 hN h4 hx ks (k+1) (b+t.size) M _ (fun u hu=>hks u (jL _ hu)) hr2 (by omega) at2 (by rw[jF];omega) (by simp only[jD] at hM;omega)]
  simp only[wrs,qXb,nd0 h4,jO]
theorem zUg(hN:3000000<N)(hps:∀s∈ps,s.size≤24)(hl:∀x∈l,qUp (ps.length:Int) x=true){t:Rose}(hf:Fine ps.length t):RwOk N l ps t:=by
 have hlen:∀(t:Rose) (b:Nat) (need:Int),AtT l b t→(t.wr ps need).length+2≤110*t.size:=fun t b need hat=>by
  obtain⟨p,q,rfl,-⟩:=hat
  exact zOy hps t b need fun x hx=>hl x (kS _ (gE _ hx))
 -- a node, from what its body is
 have node:∀(h:Hd) (ks:List Rose) (b D:Nat) (need:Int),AtT l b (.mk h ks)→(Rose.mk h ks).size≤300→(∀D',D=D'+1→(qUb ps h (wrs ps h 0 ks)).length≤100000→qCx N (qFu N D') l ((b+qEs ks:Nat):Int) ps need=some (qFv (if lvH h<need then 40::(qUb ps h (wrs ps h 0 ks)++[41]) else qUb ps h (wrs ps h 0 ks))))→(Rose.mk h ks).size≤D→
   qFu N D l ((b+(Rose.mk h ks).size-1:Nat):Int) ps need=some (qFv ((Rose.mk h ks).wr ps need))∧((Rose.mk h ks).wr ps need).length+2≤110*(Rose.mk h ks).size:=by
  intro h ks b D need hat hsz hX hD
  have hL:=hlen _ b need hat
  refine⟨?_,hL⟩
  simp only[Rose.size] at hsz hD hL ⊢
  obtain⟨D,rfl⟩:∃D',D=D'+1:=⟨D-1,by omega⟩
  have hb:(qUb ps h (wrs ps h 0 ks)).length≤100000:=by
   have h2:=hlen _ b 0 hat
   simp only[Rose.wr,Rose.size] at h2
   split at h2
   ·simp only[jD,jF] at h2;omega
   ·omega
  rw[show b+(qEs ks+1)-1=b+qEs ks by omega]
  simp only[Rose.wr]
  exact hX D rfl hb
 have sub:∀{t:Rose} {ks:List Rose},t∈ks→t.size≤qEs ks:=by
  intro t ks ht
  induction ks with
  |nil=>cases ht
  |cons u l ih=>
   simp only[qEs]
   rcases jM.1 ht with rfl|ht
   ·omega
   ·have:=ih ht;omega
 have z0:(⟨#[32]⟩:ByteArray).size=1:=rfl
 have z1:(⟨#[40]⟩:ByteArray).size=1:=rfl
 have z2:(⟨#[41]⟩:ByteArray).size=1:=rfl
 have z3:(⟨#[105,102,32]⟩:ByteArray).size=3:=rfl
 have z4:(⟨#[32,116,104,101,110,32]⟩:ByteArray).size=6:=rfl
 have z5:(⟨#[32,101,108,115,101,32]⟩:ByteArray).size=6:=rfl
 have z6:(⟨#[114,101,97,100,40,34]⟩:ByteArray).size=6:=rfl
 have z7:(⟨#[34,44,32]⟩:ByteArray).size=3:=rfl
 have z8:(⟨#[115,105,122,101,40,34]⟩:ByteArray).size=6:=rfl
 have z9:(⟨#[104,97,115,40,34]⟩:ByteArray).size=5:=rfl
 have za:(⟨#[101,110,118,40,34]⟩:ByteArray).size=5:=rfl
 have zb:(⟨#[34,41]⟩:ByteArray).size=2:=rfl
 have zc:(⟨#[102,108,105,112,40]⟩:ByteArray).size=5:=rfl
 induction hf with
 |num n h0 h1=>
  intro b D need hat hsz hD hn
  refine node _ _ b D need hat hsz (fun D' _ hb0=> ?_) hD
  unfold qCx
  rw[qZv hat.args.1]
  simp only[jA]
  refine Eq.trans (congrArg (fun z=>Option.bind z _) (?_:_=some (qFv _))) (qSg hb0)
  ·refine Eq.trans (if_pos rfl) ?_
   show(qEw N n).bind _=_
   rw[qYs h0 h1 (by omega)]
   rfl
 |par i h=>
  intro b D need hat hsz hD hn
  refine node _ _ b D need hat hsz (fun D' _ hb0=> ?_) hD
  unfold qCx
  rw[qZv hat.args.1]
  simp only[jA]
  refine Eq.trans (congrArg (fun z=>Option.bind z _) (?_:_=some (qFv _))) (qSg hb0)
  ·refine Eq.trans (if_neg (by show ¬((2:Int)==1)=true;decide)) ?_
   refine Eq.trans (if_pos rfl) ?_
   show(idx ps (i:Int)).bind _=_
   have e:ps.getD i ⟨#[]⟩=ps[i]:=by rw[kX,List.getElem?_eq_getElem h];rfl
   rw[qCg h]
   show some ps[i]=some (qFv (ps.getD (Int.toNat (i:Int)) ⟨#[]⟩).data.toList)
   rw[jS,e]
   rfl
 |call s ks h hk ih=>
  intro b D need hat hsz hD hn
  refine node _ _ b D need hat hsz (fun D' hD' hb0=> ?_) hD
  subst hD'
  simp only[Rose.size] at hsz hD
  have hs:=qKj h
  unfold qCx
  rw[qZv hat.args.1]
  simp only[jA]
  refine Eq.trans (congrArg (fun z=>Option.bind z _) (?_:_=some (qFv _))) (qSg hb0)
  ·have hll:=qTp ks
   refine Eq.trans (if_neg (by show ¬((3:Int)==1)=true;decide)) ?_
   refine Eq.trans (if_neg (by show ¬((3:Int)==2)=true;decide)) ?_
   refine Eq.trans (if_pos rfl) ?_
   show(catB s (⟨#[40]⟩:ByteArray)).bind _=_
   rw[catW (by omega)]
   simp only[jA]
   have hlp:=rw_L1 (D:=D') (h:=(3,0,0,s)) (x:=qMh (3,0,0,s) (qIi b ks)) hN (by show(3:Int)≠4;decide) (by show(qIi b ks).length<_;rw[qMm];omega) ks 0 b N (s++(⟨#[40]⟩:ByteArray)).data.toList (fun t ht=>⟨ih t ht,by have:=sub ht;omega,by have:=sub ht;omega⟩) (by rw[kA];rfl) (k0 _) hat.args.2 (by rw[szl,ByteArray.size_append];omega) (by omega)
   rw[show qFv (s++(⟨#[40]⟩:ByteArray)).data.toList=s++(⟨#[40]⟩:ByteArray) from qSr (qHp _),show((0:Nat):Int)=0 from rfl] at hlp
   rw[hlp]
   simp only[jA]
   have hw:=hlen _ b 0 hat
   simp only[Rose.wr,Rose.size] at hw
   rw[if_neg (by show ¬(4:Int)<0;decide)] at hw
   have hb:qUb ps (3,0,0,s) (wrs ps (3,0,0,s) 0 ks)=(s++(⟨#[40]⟩:ByteArray)).data.toList++(qXb 0 (wrs ps (3,0,0,s) 0 ks)++[41]):=rfl
   rw[hb] at hw ⊢
   simp only[jF,jD,jE] at hw
   rw[catW (by rw[qDh];simp only[jF];omega)]
   simp only[jA]
   congr 1
   refine qSr ?_
   rw[qOk,qHp,qHp,jO]
 |bin op a c h0 h1 ha hc iha ihc=>
  intro b D need hat hsz hD hn
  refine node _ _ b D need hat hsz (fun D' hD' hb0=> ?_) hD
  subst hD'
  obtain⟨hat1,hats⟩:=hat.args
  obtain⟨at1,atr⟩:=hats.head
  obtain⟨at2,-⟩:=atr.head
  simp only[Rose.size,qEs] at hsz hD
  have hp1:=a.pos
  have hp2:=c.pos
  obtain⟨e,-,l3⟩:(lvH (4,0,op,emB)=1∨lvH (4,0,op,emB)=2∨lvH (4,0,op,emB)=3)∧True∧True:=by
   rcases(by omega:op=1∨op=2∨op=3∨op=4∨op=5∨op=6∨op=7) with rfl|rfl|rfl|rfl|rfl|rfl|rfl<;>decide
  have n0:qPw (4,0,op,emB) 0=if lvH (4,0,op,emB)=1 then 2 else lvH (4,0,op,emB):=by unfold qPw;rw[if_pos rfl,if_pos rfl]
  have n1:qPw (4,0,op,emB) 1=lvH (4,0,op,emB)+1:=by unfold qPw;rw[if_pos rfl,if_neg (by decide)]
  obtain⟨wa,la⟩:=iha b D' (qPw (4,0,op,emB) 0) at1 (by omega) (by omega) (by rw[n0];split<;>omega)
  obtain⟨wc,lc⟩:=ihc (b+a.size) D' (qPw (4,0,op,emB) 1) at2 (by omega) (by omega) (by rw[n1];omega)
  have hsg:=zGt h0 h1
  unfold qCx
  rw[qZv hat1]
  simp only[jA]
  refine Eq.trans (congrArg (fun z=>Option.bind z _) (?_:_=some (qFv _))) (qSg hb0)
  ·refine Eq.trans (if_neg (by show ¬((4:Int)==1)=true;decide)) ?_
   refine Eq.trans (if_neg (by show ¬((4:Int)==2)=true;decide)) ?_
   refine Eq.trans (if_neg (by show ¬((4:Int)==3)=true;decide)) ?_
   refine Eq.trans (if_pos rfl) ?_
   rw[show qEp N (qMh (4,0,op,emB) (qIi b [a,c]))=some (lvH (4,0,op,emB)) from zEp _]
   simp only[jA]
   have hneed:(if(lvH (4,0,op,emB)==1)=true then some 2 else some (lvH (4,0,op,emB)):Option Int)=some (qPw (4,0,op,emB) 0):=by
    rw[n0]
    by_cases e:lvH (4,0,op,emB)=1
    ·rw[if_pos (by simpa using e),if_pos e]
    ·rw[if_neg (by simpa using e),if_neg e]
   have i0:idx (qMh (4,0,op,emB) (qIi b [a,c])).2.2.2.2 0=some ((b+a.size-1:Nat):Int):=rfl
   have i1:idx (qMh (4,0,op,emB) (qIi b [a,c])).2.2.2.2 1=some ((b+a.size+c.size-1:Nat):Int):=rfl
   have ew:IntKind.wrap .i64 (lvH (4,0,op,emB)+1)=qPw (4,0,op,emB) 1:=by rw[n1,wi64 (by omega) (by omega)]
   rw[hneed,i0,i1]
   simp only[jA,wa,ew,wc]
   rw[catW (by rw[qDh];omega)]
   simp only[jA]
   rw[show(qMh (4,0,op,emB) (qIi b [a,c])).2.2.1=op from rfl,zRs h0 h1]
   simp only[jA]
   rw[catW (by rw[ByteArray.size_append,qDh];omega)]
   simp only[jA]
   rw[catW (by simp only[ByteArray.size_append,qDh];omega)]
   simp only[jA]
   rw[catW (by simp only[ByteArray.size_append,qDh];omega)]
   simp only[jA]
   congr 1
   refine qSr ?_
   show _=a.wr ps (qPw (4,0,op,emB) 0)++((((⟨#[32]⟩:ByteArray)++zOj op)++(⟨#[32]⟩:ByteArray)).data.toList++c.wr ps (qPw (4,0,op,emB) 1))
   simp only[qOk,qHp,jO]
 |ite a c d ha hc hd iha ihc ihd=>
  intro b D need hat hsz hD hn
  refine node _ _ b D need hat hsz (fun D' hD' hb0=> ?_) hD
  subst hD'
  obtain⟨hat1,hats⟩:=hat.args
  obtain⟨at1,atr⟩:=hats.head
  obtain⟨at2,atr⟩:=atr.head
  obtain⟨at3,-⟩:=atr.head
  simp only[Rose.size,qEs] at hsz hD
  have hp1:=a.pos
  have hp2:=c.pos
  have hp3:=d.pos
  have hnd:∀k,qPw (5,0,0,emB) k=0:=nd0 (by show(5:Int)≠4;decide)
  obtain⟨wa,la⟩:=iha b D' 0 at1 (by omega) (by omega) (f0 0)
  obtain⟨wc,lc⟩:=ihc (b+a.size) D' 0 at2 (by omega) (by omega) (f0 0)
  obtain⟨wd,ld⟩:=ihd (b+a.size+c.size) D' 0 at3 (by omega) (by omega) (f0 0)
  unfold qCx
  rw[qZv hat1]
  simp only[jA]
  refine Eq.trans (congrArg (fun z=>Option.bind z _) (?_:_=some (qFv _))) (qSg hb0)
  ·refine Eq.trans (if_neg (by show ¬((5:Int)==1)=true;decide)) ?_
   refine Eq.trans (if_neg (by show ¬((5:Int)==2)=true;decide)) ?_
   refine Eq.trans (if_neg (by show ¬((5:Int)==3)=true;decide)) ?_
   refine Eq.trans (if_neg (by show ¬((5:Int)==4)=true;decide)) ?_
   refine Eq.trans (if_pos rfl) ?_
   have i0:idx (qMh (5,0,0,emB) (qIi b [a,c,d])).2.2.2.2 0=some ((b+a.size-1:Nat):Int):=rfl
   have i1:idx (qMh (5,0,0,emB) (qIi b [a,c,d])).2.2.2.2 1=some ((b+a.size+c.size-1:Nat):Int):=rfl
   have i2:idx (qMh (5,0,0,emB) (qIi b [a,c,d])).2.2.2.2 2=some ((b+a.size+c.size+d.size-1:Nat):Int):=rfl
   rw[i0,i1,i2]
   simp only[jA,wa]
   rw[catW (by rw[qDh];omega)]
   simp only[jA]
   rw[catW (by simp only[ByteArray.size_append,qDh];omega)]
   simp only[jA,wc]
   rw[catW (by simp only[ByteArray.size_append,qDh];omega)]
   simp only[jA]
   rw[catW (by simp only[ByteArray.size_append,qDh];omega)]
   simp only[jA,wd]
   rw[catW (by simp only[ByteArray.size_append,qDh];omega)]
   simp only[jA]
   congr 1
   refine qSr ?_
   show _=tI++(a.wr ps (qPw (5,0,0,emB) 0)++(tThen++(c.wr ps (qPw (5,0,0,emB) 1)++(tElse++d.wr ps (qPw (5,0,0,emB) 2)))))
   simp only[qOk,qHp,jO,hnd]
   rfl
 |read s a h ha iha=>
  intro b D need hat hsz hD hn
  refine node _ _ b D need hat hsz (fun D' hD' hb0=> ?_) hD
  subst hD'
  obtain⟨hat1,hats⟩:=hat.args
  obtain⟨at1,-⟩:=hats.head
  simp only[Rose.size,qEs] at hsz hD
  have hp1:=a.pos
  have hs:=qRe h
  have hnd:∀k,qPw (6,0,0,s) k=0:=nd0 (by show(6:Int)≠4;decide)
  obtain⟨wa,la⟩:=iha b D' 0 at1 (by omega) (by omega) (f0 0)
  unfold qCx
  rw[qZv hat1]
  simp only[jA]
  refine Eq.trans (congrArg (fun z=>Option.bind z _) (?_:_=some (qFv _))) (qSg hb0)
  ·refine Eq.trans (if_neg (by show ¬((6:Int)==1)=true;decide)) ?_
   refine Eq.trans (if_neg (by show ¬((6:Int)==2)=true;decide)) ?_
   refine Eq.trans (if_neg (by show ¬((6:Int)==3)=true;decide)) ?_
   refine Eq.trans (if_neg (by show ¬((6:Int)==4)=true;decide)) ?_
   refine Eq.trans (if_neg (by show ¬((6:Int)==5)=true;decide)) ?_
   refine Eq.trans (if_pos rfl) ?_
   have i0:idx (qMh (6,0,0,s) (qIi b [a])).2.2.2.2 0=some ((b+a.size-1:Nat):Int):=rfl
   rw[show(qMh (6,0,0,s) (qIi b [a])).2.2.2.1=s from rfl,i0,catW (by omega)]
   simp only[jA]
   rw[catW (by rw[ByteArray.size_append];omega)]
   simp only[jA,wa]
   rw[catW (by simp only[ByteArray.size_append,qDh];omega)]
   simp only[jA]
   rw[catW (by simp only[ByteArray.size_append,qDh];omega)]
   simp only[jA]
   congr 1
   refine qSr ?_
   show _=(((⟨#[114,101,97,100,40,34]⟩:ByteArray)++s)++(⟨#[34,44,32]⟩:ByteArray)).data.toList++(a.wr ps (qPw (6,0,0,s) 0)++[41])
   simp only[qOk,qHp,jO,hnd]
 |look k s hk h=>
  intro b D need hat hsz hD hn
  refine node _ _ b D need hat hsz (fun D' _ hb0=> ?_) hD
  have hs:=qRe h
  unfold qCx
  rw[qZv hat.args.1]
  simp only[jA]
  refine Eq.trans (congrArg (fun z=>Option.bind z _) (?_:_=some (qFv _))) (qSg hb0)
  ·rcases hk with rfl|rfl
   ·refine Eq.trans (if_neg (by show ¬((7:Int)==1)=true;decide)) ?_
    refine Eq.trans (if_neg (by show ¬((7:Int)==2)=true;decide)) ?_
    refine Eq.trans (if_neg (by show ¬((7:Int)==3)=true;decide)) ?_
    refine Eq.trans (if_neg (by show ¬((7:Int)==4)=true;decide)) ?_
    refine Eq.trans (if_neg (by show ¬((7:Int)==5)=true;decide)) ?_
    refine Eq.trans (if_neg (by show ¬((7:Int)==6)=true;decide)) ?_
    refine Eq.trans (if_pos rfl) ?_
    rw[show(qMh (7,0,0,s) (qIi b [])).2.2.2.1=s from rfl,catW (by omega)]
    simp only[jA]
    rw[catW (by rw[ByteArray.size_append];omega)]
    simp only[jA]
    congr 1
   ·refine Eq.trans (if_neg (by show ¬((8:Int)==1)=true;decide)) ?_
    refine Eq.trans (if_neg (by show ¬((8:Int)==2)=true;decide)) ?_
    refine Eq.trans (if_neg (by show ¬((8:Int)==3)=true;decide)) ?_
    refine Eq.trans (if_neg (by show ¬((8:Int)==4)=true;decide)) ?_
    refine Eq.trans (if_neg (by show ¬((8:Int)==5)=true;decide)) ?_
    refine Eq.trans (if_neg (by show ¬((8:Int)==6)=true;decide)) ?_
    refine Eq.trans (if_neg (by show ¬((8:Int)==7)=true;decide)) ?_
    refine Eq.trans (if_pos rfl) ?_
    rw[show(qMh (8,0,0,s) (qIi b [])).2.2.2.1=s from rfl,catW (by omega)]
    simp only[jA]
    rw[catW (by rw[ByteArray.size_append];omega)]
    simp only[jA]
    congr 1
 |env s h=>
  intro b D need hat hsz hD hn
  refine node _ _ b D need hat hsz (fun D' _ hb0=> ?_) hD
  have hs:=qZt h
  unfold qCx
  rw[qZv hat.args.1]
  simp only[jA]
  refine Eq.trans (congrArg (fun z=>Option.bind z _) (?_:_=some (qFv _))) (qSg hb0)
  ·refine Eq.trans (if_neg (by show ¬((9:Int)==1)=true;decide)) ?_
   refine Eq.trans (if_neg (by show ¬((9:Int)==2)=true;decide)) ?_
   refine Eq.trans (if_neg (by show ¬((9:Int)==3)=true;decide)) ?_
   refine Eq.trans (if_neg (by show ¬((9:Int)==4)=true;decide)) ?_
   refine Eq.trans (if_neg (by show ¬((9:Int)==5)=true;decide)) ?_
   refine Eq.trans (if_neg (by show ¬((9:Int)==6)=true;decide)) ?_
   refine Eq.trans (if_neg (by show ¬((9:Int)==7)=true;decide)) ?_
   refine Eq.trans (if_neg (by show ¬((9:Int)==8)=true;decide)) ?_
   refine Eq.trans (if_pos rfl) ?_
   rw[show(qMh (9,0,0,s) (qIi b [])).2.2.2.1=s from rfl,catW (by omega)]
   simp only[jA]
   rw[catW (by rw[ByteArray.size_append];omega)]
   simp only[jA]
   congr 1
 |flip n h=>
  intro b D need hat hsz hD hn
  refine node _ _ b D need hat hsz (fun D' _ hb0=> ?_) hD
  unfold qCx
  rw[qZv hat.args.1]
  simp only[jA]
  refine Eq.trans (congrArg (fun z=>Option.bind z _) (?_:_=some (qFv _))) (qSg hb0)
  ·have hi:=zDx (n:=(n:Int)) (by omega) (by omega)
   refine Eq.trans (if_neg (by show ¬((10:Int)==1)=true;decide)) ?_
   refine Eq.trans (if_neg (by show ¬((10:Int)==2)=true;decide)) ?_
   refine Eq.trans (if_neg (by show ¬((10:Int)==3)=true;decide)) ?_
   refine Eq.trans (if_neg (by show ¬((10:Int)==4)=true;decide)) ?_
   refine Eq.trans (if_neg (by show ¬((10:Int)==5)=true;decide)) ?_
   refine Eq.trans (if_neg (by show ¬((10:Int)==6)=true;decide)) ?_
   refine Eq.trans (if_neg (by show ¬((10:Int)==7)=true;decide)) ?_
   refine Eq.trans (if_neg (by show ¬((10:Int)==8)=true;decide)) ?_
   refine Eq.trans (if_neg (by show ¬((10:Int)==9)=true;decide)) ?_
   refine Eq.trans (if_pos rfl) ?_
   rw[show(qMh (10,(n:Int),0,emB) (qIi b [])).2.1=(n:Int) from rfl,qYs (by omega) (by omega) (by omega)]
   simp only[jA]
   rw[catW (by omega)]
   simp only[jA]
   rw[catW (by rw[ByteArray.size_append];omega)]
   simp only[jA]
   congr 1
end
theorem zPw{N:Nat}{d:Dl}(h:OkD d)(hN:3000000<N):qLg N d.2.2.2 (IntKind.wrap .i64 ((d.2.2.2.length:Int)-1)) d.2.2.1 0=some (qFv (wrD d)):=by
 obtain⟨t,h1,h2,h3⟩:=h.tree
 have hsz:t.size=d.2.2.2.length:=by
  have:=qIq t 0
  rw[←h2] at this;exact this.symm
 have hp:=t.pos
 have hb:=h.body
 have hat:AtT d.2.2.2 0 t:=by
  have:=AtT.whole t
  rw[←h2] at this;exact this
 have hw:wrD d=t.wr d.2.2.1 0:=by unfold wrD;rw[h1]
 have hr:=(zUg hN (fun s hs=>qKj (h.names s hs)) h.good.nodes h3 0 N 0 hat (by omega) (by omega) (f0 0)).1
 unfold qLg
 rw[wi64 (by omega) (by omega),hw,show(d.2.2.2.length:Int)-1=((0+t.size-1:Nat):Int) by omega]
 exact hr
end
section
open Go Go.Dc Go.Proofs
theorem zHi(a b:List UInt8):qFv a++qFv b=qFv (a++b):=qSr (by rw[qOk,qHp,qHp,qHp])
theorem zFu(s:ByteArray):qFv s.data.toList=s:=qSr (qHp _)
theorem zPx{d:Dl}(hd:GoodD d)(hb:d.2.2.2.length≤256):(wrD d).length≤30000:=by
 obtain⟨t,h1,h2⟩:=zDy hd.tree
 have hsz:t.size=d.2.2.2.length:=by
  have:=qIq t 0
  rw[←h2] at this;exact this.symm
 have hv:∀x∈t.flat 0,qUp (d.2.2.1.length:Int) x=true:=fun x hx=>hd.nodes x (by rw[h2];exact hx)
 have hwl:=zOy (ps:=d.2.2.1) (fun s hs=>qKj (hd.pars s hs).2) t 0 0 hv
 have hw:wrD d=t.wr d.2.2.1 0:=by unfold wrD;rw[h1]
 rw[hw];omega
theorem zPd{d:Dl}(h:OkD d):(zRh d).length≤31000:=by
 have h1:=zJm h.good h.pars
 have h2:=zPx h.good h.body
 have z1:(⟨#[32,61,32]⟩:ByteArray).size=3:=rfl
 have z2:(⟨#[59,10]⟩:ByteArray).size=2:=rfl
 unfold zRh
 simp only[jF,szl,ByteArray.size_append,qDh];omega
theorem zRq{l:List ByteArray}(h:∀s∈l,qHx s=true):(l.flatMap impT).length≤40*l.length:=by
 induction l with
 |nil=>exact k0 _
 |cons s l ih=>
  have i1:=qKj (h s (jJ ..))
  have i2:=ih fun x hx=>h x (jL _ hx)
  have z1:(⟨#[105,109,112,111,114,116,32]⟩:ByteArray).size=7:=rfl
  have z2:(⟨#[59,10]⟩:ByteArray).size=2:=rfl
  have e:(impT s).length≤40:=by unfold impT;simp only[szl,ByteArray.size_append];omega
  simp only[kP,jF,jD];omega
theorem zQv{N:Nat}{f:Sr}(h:GoodS f)(hN:3000000<N):qKq N f=some (qFv (pkgT f.1++f.2.1.flatMap impT))∧(pkgT f.1++f.2.1.flatMap impT).length≤600:=by
 have hn:=h.impn
 have hpk:=qKj h.pkg
 have z1:(⟨#[112,97,99,107,97,103,101,32]⟩:ByteArray).size=8:=rfl
 have z2:(⟨#[59,10]⟩:ByteArray).size=2:=rfl
 have z3:(⟨#[105,109,112,111,114,116,32]⟩:ByteArray).size=7:=rfl
 have hpl:(pkgT f.1).length≤100:=by unfold pkgT;simp only[szl,ByteArray.size_append];omega
 refine⟨?_,by have:=zRq h.imps;rw[jF];omega⟩
 have hlen:∀s∈f.2.1,(impT s).length≤40:=fun s hs=>by
  have:=qKj (h.imps s hs)
  unfold impT
  simp only[szl,ByteArray.size_append];omega
 have hl:=qGo (L:=f.2.1) (fun(t:List UInt8) (i:Nat)=>(qFv t,(i:Int))) (f:=qGp N f)
  (fun t s=> .inl (t++impT s)) (fun t=>qFv t) (fun i t=>t.length≤100+40*i) (by
   intro t i hi hI
   have h1:=qKj (h.imps _ (jP hi))
   simp only[qGp]
   rw[if_pos (by simp only[jB];omega),qCg hi]
   have ew:IntKind.wrap .i64 ((i:Int)+1)=((i+1:Nat):Int):=by rw[wi64 (by omega) (by omega)];omega
   simp only[jA]
   rw[catW (by omega)]
   simp only[jA]
   rw[catW (by rw[ByteArray.size_append];omega)]
   simp only[jA]
   rw[catW (by simp only[ByteArray.size_append,qDh];omega)]
   simp only[jA,ew]
   rw[←zHi,show qFv (impT f.2.1[i])=_ from zFu _]) (by
   intro t i hi t' hI hh
   cases hh
   have:=hlen _ (jP hi)
   simp only[jF];omega) (by
   intro t hI
   simp only[qGp]
   rw[if_neg (by simp)]) (M:=N) (t:=pkgT f.1) (by omega) (by omega)
 unfold qKq
 rw[catW (by omega)]
 simp only[jA]
 rw[catW (by rw[ByteArray.size_append];omega)]
 simp only[jA]
 rw[show((⟨#[112,97,99,107,97,103,101,32]⟩:ByteArray)++f.1)++(⟨#[59,10]⟩:ByteArray)=qFv (pkgT f.1) from(zFu _).symm,show(0:Int)=((0:Nat):Int) from rfl,hl]
 simp only[jA]
 rw[qSj (fun t s=>t++impT s) (fun _ _=>rfl),zBg]
theorem par_L1{N:Nat}{d:Dl}(h:OkD d)(hN:3000000<N){s:ByteArray}(hs:s.size≤200):qAs (qEm N d) N (s,0)=some (s++zQy d.2.2.1):=by
 have hn:=h.pars
 have hl:=qGo (L:=d.2.2.1) (fun(t:List UInt8×Nat) (i:Nat)=>(qFv t.1,(i:Int))) (f:=qEm N d)
  (fun t x=> .inl ((t.1++sepK t.2)++x.data.toList,t.2+1)) (fun t=>qFv t.1) (fun i t=>t.2=i∧t.1.length≤200+40*i) (by
   rintro⟨t,k⟩ i hi ⟨rfl,hI⟩
   simp only at hI hi ⊢
   have h1:=qKj (h.names _ (jP hi))
   have z:(⟨#[44,32]⟩:ByteArray).size=2:=rfl
   simp only[qEm]
   rw[if_pos (by simp only[jB];omega),qCg hi]
   have ew:IntKind.wrap .i64 ((k:Int)+1)=((k+1:Nat):Int):=by rw[wi64 (by omega) (by omega)];omega
   have hsep:(if(decide ((k:Int)>0))=true then((catB (qFv t) (⟨#[44,32]⟩:ByteArray)).bind fun s3=>some s3) else(some (qFv t)):Option ByteArray)=some (qFv (t++sepK k)):=by
    unfold sepK
    by_cases h0:k=0
    ·subst h0
     rw[if_neg (by decide),if_pos rfl,fJ]
    ·rw[if_pos (by simp only[jB];omega),if_neg h0,catW (by rw[qDh];omega)]
     rfl
   have hsl:(t++sepK k).length≤t.length+2:=by
    unfold sepK
    split<;>simp
   simp only[jA,hsep]
   rw[catW (by rw[qDh];omega)]
   simp only[jA,ew]
   rw[←zHi (t++sepK k),zFu]) (by
   rintro⟨t,k⟩ i hi t' ⟨rfl,hI⟩ hh
   obtain rfl:=(Sum.inl.inj hh).symm
   have h1:(d.2.2.1[k]).size≤24:=qKj (h.names _ (jP hi))
   have hsl:(sepK k).length≤2:=by
    unfold sepK
    split<;>simp
   refine⟨rfl,?_⟩
   show((t++sepK k)++(d.2.2.1[k]).data.toList).length≤200+40*(k+1)
   simp only at hI
   simp only[jF,szl]
   omega) (by
   rintro⟨t,k⟩ ⟨rfl,hI⟩
   simp only[qEm]
   rw[if_neg (by simp)]) (M:=N) (t:=(s.data.toList,0)) (by omega) ⟨rfl,by rw[szl];omega⟩
 rw[show qFv (s.data.toList,0).1=s from zFu s,show((0:Nat):Int)=0 from rfl] at hl
 rw[hl]
 have key:∀(l:List ByteArray) (t:List UInt8) (k:Nat),run (fun(t:List UInt8×Nat) (x:ByteArray)=>(.inl ((t.1++sepK t.2)++x.data.toList,t.2+1):(List UInt8×Nat)⊕ByteArray)) (fun t=>qFv t.1) l (t,k)=qFv (t++qXb k (l.map fun s=>s.data.toList)):=by
  intro l
  induction l with
  |nil=>intro t k;simp[run,qXb]
  |cons x l ih=>
   intro t k
   simp only[run,k9,qXb]
   rw[ih]
   simp only[jO]
 rw[key,←zHi,zFu]
 rfl
theorem zRt{N:Nat}{d:Dl}(h:OkD d)(hN:3000000<N):qKp N d=some (qFv (zRh d)):=by
 have hh:=zJm h.good h.pars
 have hnl:=zKo h.good
 have hw:=zPx h.good h.body
 have y1:(⟨#[102,117,110,99,32]⟩:ByteArray).size=5:=rfl
 have y2:(⟨#[40]⟩:ByteArray).size=1:=rfl
 have y3:(⟨#[41]⟩:ByteArray).size=1:=rfl
 have y4:(⟨#[116,101,115,116,32]⟩:ByteArray).size=5:=rfl
 have y5:(⟨#[103,101,110,32,34]⟩:ByteArray).size=5:=rfl
 have y6:(⟨#[34]⟩:ByteArray).size=1:=rfl
 have y7:(⟨#[32,61,32]⟩:ByteArray).size=3:=rfl
 have y8:(⟨#[59,10]⟩:ByteArray).size=2:=rfl
 have hhead:(if(d.1==1)=true then((catB (⟨#[102,117,110,99,32]⟩:ByteArray) d.2.1).bind fun s1=>(catB s1 (⟨#[40]⟩:ByteArray)).bind fun s2=>(qAs (qEm N d) N (s2,0)).bind fun o2=>(catB o2 (⟨#[41]⟩:ByteArray)).bind fun s6=>some s6) else(if(d.1==2)=true then((catB (⟨#[116,101,115,116,32]⟩:ByteArray) d.2.1).bind fun s7=>some s7) else(if(d.1==3)=true then((catB (⟨#[103,101,110,32,34]⟩:ByteArray) d.2.1).bind fun s8=>(catB s8 (⟨#[34]⟩:ByteArray)).bind fun s9=>some s9) else(some (⟨#[]⟩:ByteArray)))):Option (ByteArray))=some (zMu d):=by
  unfold zMu at hh ⊢
  by_cases k1:d.1=1
  ·rw[if_pos k1] at hh
   simp only[ByteArray.size_append] at hh
   rw[if_pos (by simpa using k1),if_pos k1,catW (by omega)]
   simp only[jA]
   rw[catW (by rw[ByteArray.size_append];omega)]
   simp only[jA]
   rw[par_L1 h hN (by simp only[ByteArray.size_append];omega)]
   simp only[jA]
   rw[catW (by simp only[ByteArray.size_append];omega)]
   rfl
  ·rw[if_neg (by simpa using k1),if_neg k1]
   by_cases k2:d.1=2
   ·rw[if_pos (by simpa using k2),if_pos k2,catW (by omega)]
    rfl
   ·have k3:d.1=3:=by
     rcases h.kind with ⟨h,-⟩|⟨h,-⟩<;>omega
    rw[if_neg (by simpa using k2),if_neg k2,if_pos (by simpa using k3),catW (by omega)]
    simp only[jA]
    rw[catW (by rw[ByteArray.size_append];omega)]
    rfl
 unfold qKp
 refine Eq.trans (congrArg (fun z=>Option.bind z _) hhead) ?_
 simp only[jA]
 rw[catW (by omega)]
 simp only[jA]
 rw[zPw h hN]
 simp only[jA]
 rw[catW (by rw[ByteArray.size_append,qDh];omega)]
 simp only[jA]
 rw[catW (by simp only[ByteArray.size_append,qDh];omega)]
 simp only[jA]
 congr 1
 refine qSr ?_
 unfold zRh
 simp only[qOk,qHp,jO]
end
section
open Go Go.Dc
def Ok{α:Type}(x:Option α)(Q:α→Prop):Prop:=∃a,x=some a∧Q a
section
variable {α β γ:Type} {Q:β→Prop}
theorem Ok.mk{a:β}(h:Q a):Ok (some a) Q:=⟨a,rfl,h⟩
theorem Ok.bind{x:Option α}{P:α→Prop}{f:α→Option β}(h:Ok x P)(k:∀a,P a→Ok (f a) Q):Ok (x.bind f) Q:=by
 obtain⟨a,rfl,ha⟩:=h
 exact k a ha
theorem Ok.mono{x:Option β}{P:β→Prop}(h:Ok x P)(k:∀a,P a→Q a):Ok x Q:=by
 obtain⟨a,e,ha⟩:=h
 exact⟨a,e,k a ha⟩
theorem Ok.assoc{x:Option α}{g:α→Option γ}{f:γ→Option β}(h:Ok (x.bind fun a=>(g a).bind f) Q):Ok ((x.bind g).bind f) Q:=by
 rw[gY];exact h
theorem Ok.ite{c:Prop}[Decidable c]{x y:Option β}(h1:c→Ok x Q)(h2:¬c→Ok y Q):Ok (if c then x else y) Q:=by
 by_cases h:c
 ·rw[if_pos h];exact h1 h
 ·rw[if_neg h];exact h2 h
theorem Ok.iteb{c:Prop}[Decidable c]{x y:Option α}{f:α→Option β}(h1:c→Ok (x.bind f) Q)(h2:¬c→Ok (y.bind f) Q):Ok ((if c then x else y).bind f) Q:=by
 by_cases h:c
 ·rw[if_pos h];exact h1 h
 ·rw[if_neg h];exact h2 h
theorem Ok.tt[Decidable (true=true)]{x y:Option β}(h:Ok x Q):Ok (if true=true then x else y) Q:=by rw[if_pos rfl];exact h
theorem Ok.ff[Decidable (false=true)]{x y:Option β}(h:Ok y Q):Ok (if false=true then x else y) Q:=by rw[if_neg gN];exact h
theorem Ok.ttb[Decidable (true=true)]{x y:Option α}{f:α→Option β}(h:Ok (x.bind f) Q):Ok ((if true=true then x else y).bind f) Q:=by rw[if_pos rfl];exact h
theorem Ok.ffb[Decidable (false=true)]{x y:Option α}{f:α→Option β}(h:Ok (y.bind f) Q):Ok ((if false=true then x else y).bind f) Q:=by rw[if_neg gN];exact h
theorem Ok.someb{a:α}{f:α→Option β}(h:Ok (f a) Q):Ok ((some a).bind f) Q:=h
theorem Ok.mapb{a:α}{g:α→γ}{f:γ→Option β}(h:Ok (f (g a)) Q):Ok (((some a).map g).bind f) Q:=h
theorem Ok.cat{x y:ByteArray}{f:ByteArray→Option β}(hs:x.size+y.size≤1000000000)(h:∀s:ByteArray,s.size=x.size+y.size→Ok (f s) Q):Ok ((catB x y).bind f) Q:=by
 unfold catB
 rw[if_pos (by simp only[maxLen];omega)]
 exact h _ (by simp)
theorem Ok.app{b:Nat}{l k:List α}{f:List α→Option β}(hs:(l.length+k.length)*b≤140737488355328)(hb:0<b)(h:Ok (f (l++k)) Q):Ok ((qEb b l k).bind f) Q:=by
 rw[qCr hs hb];exact h
theorem Ok.loop{σ:Type}{f:σ→Option (σ⊕α)}{g:α→Option β}{s:σ}{N:Nat}(I:σ→Prop)(μ:σ→Nat)(R:α→Prop)
  (h:∀s,I s→Ok (f s) fun r=>match r with| .inl s'=>I s'∧μ s'<μ s| .inr b=>R b) (hs:I s) (hN:μ s<N) (k:∀b,R b→Ok (g b) Q):Ok ((qAs f N s).bind g) Q:=by
 obtain⟨b,h1,h2⟩:=zDd I μ R (fun s hs=>by
  obtain⟨r,h1,h2⟩:=h s hs
  cases r with
  |inl s'=>exact .inr ⟨s',h1,h2.1,h2.2⟩
  |inr b=>exact .inl ⟨b,h1,h2⟩) N s hs hN
 rw[h1];exact k b h2
end
theorem qQu(a:Array UInt8):(⟨a⟩:ByteArray).size=a.size:=rfl
theorem zQh{N:Nat}{v n:Int}(hn:n≤9223372036854775807):∃r,qLc N v n=some r∧0≤r∧(1≤n→r<n):=by
 simp only[qLc]
 by_cases h:n≤1
 ·exact⟨0,by simp[h],by omega,by omega⟩
 ·have hne:n≠0:=by omega
  have h1:=Int.tmod_lt_of_pos v (show 0<n by omega)
  have h2:=Int.lt_tmod_of_pos v (show 0<n by omega)
  simp only[h,decide_false,jC,jH,remS,hne,jA]
  by_cases h3:Int.tmod v n<0
  ·refine⟨Int.tmod v n+n,?_,by omega,by omega⟩
   simp only[h3,decide_true,jI,jA]
   rw[wi64 (by omega) (by omega)]
  ·exact⟨Int.tmod v n,by simp only[h3,decide_false,jC,jH,jA],by omega,by omega⟩
theorem qYc{N:Nat}{l:List Int}{a n:Int}(h0:0≤a)(h1:a<4611686018427387904)(hn:n≤9223372036854775807):∃r,qBu N (l,a) n=some ((l,a+1),r)∧0≤r∧(1≤n→r<n):=by
 simp only[qBu]
 have hv:∃v,(if(decide (a<(List.length l:Int)))=true then((idx l a).bind fun x1=>some x1) else(some (Int.tmod (IntKind.wrap .i64 (a*7)) 11)):Option Int)=some v:=by
  by_cases h:a<(l.length:Int)
  ·exact⟨_,by simp only[h,decide_true,jI];rw[zDt h0 (by omega)];rfl⟩
  ·exact⟨_,by simp only[h,decide_false,jC,jH];rfl⟩
 obtain⟨v,hv⟩:=hv
 obtain⟨r,hr,h2,h3⟩:=zQh (N:=N) (v:=v) hn
 exact⟨r,by simp only[hv,jA,hr];rw[wi64 (by omega) (by omega)],h2,h3⟩
section
variable {β:Type} {Q:β→Prop} {N:Nat} {l:List Int} {a:Int}
theorem Ok.next{n:Int}{f:(List Int×Int)×Int→Option β}(h0:0≤a)(h1:a<4611686018427387904)(hn:1≤n)(hn2:n≤1000000)(h:∀r,0≤r→r<n→Ok (f ((l,a+1),r)) Q):Ok ((qBu N (l,a) n).bind f) Q:=by
 obtain⟨r,hr,g1,g2⟩:=qYc (N:=N) (l:=l) h0 h1 (show n≤9223372036854775807 by omega)
 rw[hr];exact h r g1 (g2 hn)
theorem Ok.chance{n m:Int}{f:(List Int×Int)×Bool→Option β}(h0:0≤a)(h1:a<4611686018427387904)(hn:1≤m)(hn2:m≤1000000)(h:∀r,Ok (f ((l,a+1),r)) Q):Ok ((qCb N (l,a) n m).bind f) Q:=by
 obtain⟨r,hr,g1,g2⟩:=qYc (N:=N) (l:=l) h0 h1 (show m≤9223372036854775807 by omega)
 simp only[qCb,hr,jA]
 exact h _
theorem Ok.one{L:List ByteArray}{f:(List Int×Int)×ByteArray→Option β}(h0:0≤a)(h1:a<4611686018427387904)(hL:0<L.length)(hL2:L.length<1000)(h:∀x∈L,Ok (f ((l,a+1),x)) Q):Ok ((qBh N (l,a) L).bind f) Q:=by
 obtain⟨r,hr,g1,g2⟩:=qYc (N:=N) (l:=l) h0 h1 (show(L.length:Int)≤9223372036854775807 by omega)
 have g2:=g2 (by omega)
 have hlt:r.toNat<L.length:=by omega
 simp only[qBh]
 rw[if_neg (by rw[kC];omega),hr]
 simp only[jA]
 rw[zDt g1 hlt]
 exact h _ (jP hlt)
theorem Ok.oneP{L:List ByteArray}{f:(List Int×Int)×ByteArray→Option β}(h0:0≤a)(h1:a<4611686018427387904)(hc:decide ((List.length L:Int)>0)=true)(hL2:L.length<1000)(hL3:∀x∈L,x.size≤12)(h:∀x:ByteArray,x.size≤12→Ok (f ((l,a+1),x)) Q):Ok ((qBh N (l,a) L).bind f) Q:=
 Ok.one h0 h1 (by have:=gC hc;omega) hL2 fun x hx=>h x (hL3 x hx)
theorem Ok.oneS{L:List ByteArray}{f:(List Int×Int)×ByteArray→Option β}(h0:0≤a)(h1:a<4611686018427387904)(hL:(decide (0<L.length)&&decide (L.length<1000)&&L.all fun x=>decide (x.size≤12))=true)(h:∀x:ByteArray,x.size≤12→Ok (f ((l,a+1),x)) Q):Ok ((qBh N (l,a) L).bind f) Q:=by
 simp only[jN,jB] at hL
 exact Ok.one h0 h1 hL.1.1 hL.1.2 fun x hx=>h x (by simpa using jT.1 hL.2 x hx)
theorem Ok.pick{L:List Int}{f:(List Int×Int)×Int→Option β}(h0:0≤a)(h1:a<4611686018427387904)(hL:0<L.length)(hL2:L.length<1000)(h:∀x∈L,Ok (f ((l,a+1),x)) Q):Ok ((qDl N (l,a) L).bind f) Q:=by
 obtain⟨r,hr,g1,g2⟩:=qYc (N:=N) (l:=l) h0 h1 (show(L.length:Int)≤9223372036854775807 by omega)
 have g2:=g2 (by omega)
 have hlt:r.toNat<L.length:=by omega
 simp only[qDl]
 rw[if_neg (by rw[kC];omega),hr]
 simp only[jA]
 rw[zDt g1 hlt]
 exact h _ (jP hlt)
theorem Ok.pickS{L:List Int}{f:(List Int×Int)×Int→Option β}(h0:0≤a)(h1:a<4611686018427387904)(hL:(decide (0<L.length)&&decide (L.length<1000)&&L.all fun x=>decide (0≤x∧x≤9007199254740992))=true)(h:∀x:Int,0≤x→x≤9007199254740992→Ok (f ((l,a+1),x)) Q):Ok ((qDl N (l,a) L).bind f) Q:=by
 simp only[jN,jB] at hL
 exact Ok.pick h0 h1 hL.1.1 hL.1.2 fun x hx=>by
  have:=jT.1 hL.2 x hx
  simp only[jB] at this
  exact h x this.1 this.2
theorem zCt:∀(k D:Nat) (x:Int),k<D→k≤100→0≤x→x<10^(k+1)→x≤9223372036854775806→Ok (qIw N D x) fun s=>s.size≤k+1
 |_,0,_,h,_,_,_,_=>absurd h (kV _)
 |k,D+1,x,hk,hk9,h0,h1,h2=>by
  show Ok (qIs N (qIw N D) x) _
  unfold qIs
  have hsz:ByteArray.size (⟨#[48,49,50,51,52,53,54,55,56,57]⟩:ByteArray)=10:=rfl
  by_cases hx:x<10
  ·rw[if_pos (by simpa using hx),wi64 (by omega) (by omega),qTn h0 (by omega) (by omega)]
   refine Ok.mk ?_
   simp only[ByteArray.size_extract,hsz];omega
  ·rw[if_neg (by simpa using hx)]
   obtain⟨k,rfl⟩:∃k',k=k'+1:=by
    cases k with
    |zero=>simp at h1;omega
    |succ k=>exact⟨k,rfl⟩
   obtain⟨D,rfl⟩:∃D',D=D'+1:=⟨D-1,by omega⟩
   have e1:Int.tdiv x 10=x/10:=Int.tdiv_eq_ediv_of_nonneg h0
   have e2:Int.tmod x 10=x%10:=Int.tmod_eq_emod_of_nonneg h0
   have hp:(10:Int)^(k+1+1)=10*10^(k+1):=by rw[Int.pow_succ];omega
   rw[e1,e2,wi64 (by omega) (by omega)]
   refine Ok.bind (zCt k (D+1) (x/10) (by omega) (by omega) (by omega) (by omega) (by omega)) fun s hs=> ?_
   refine Ok.bind (zCt 0 (D+1) (x%10) (by omega) (by omega) (by omega) (by simp;omega) (by omega)) fun t ht=> ?_
   exact Ok.cat (by omega) fun u hu=>Ok.mk (by omega)
theorem zNj{x:Int}(h0:0≤x)(h1:x≤9007199254740992)(hN:100<N):Ok (qDu N x) fun s=>s.size≤16:=
 zCt 15 N x (by omega) (by omega) h0 (by rw[show(10:Int)^(15+1)=10000000000000000 from by kernel_rfl];omega) (by omega)
theorem Ok.digits{x:Int}{f:ByteArray→Option β}(h0:0≤x)(h1:x≤9007199254740992)(hN:100<N)(h:∀s:ByteArray,s.size≤16→Ok (f s) Q):Ok ((qDu N x).bind f) Q:=Ok.bind (zNj h0 h1 hN) h
end
def qSm:Nat→Nat
 |0=>8
 |d+1=>3*qSm d+8
def qWe:Nat→Nat
 |0=>22
 |d+1=>3*qWe d+20
theorem zJj:∀d,22≤qWe d
 |0=>jU _
 |d+1=>by have:=zJj d;simp only[qWe];omega
section
variable {N:Nat} {l:List Int}
def qZy(N:Nat)(l:List Int)(E:(List Int×Int)→Int→List ByteArray→Option ((List Int×Int)×ByteArray))(d:Nat)(ps:List ByteArray):Prop:=
 ∀a:Int,0≤a→a+qSm d<2000000000000000000→Ok (E (l,a) (d:Int) ps) fun y=>∃a' s,y=((l,a'),s)∧a≤a'∧a'≤a+qSm d∧s.size≤qWe d
theorem Ok.expr{β:Type}{Q:β→Prop}{E:(List Int×Int)→Int→List ByteArray→Option ((List Int×Int)×ByteArray)}{d:Nat}{ps:List ByteArray}(hE:qZy N l E d ps){a:Int}{f:(List Int×Int)×ByteArray→Option β}(h0:0≤a)(h1:a+qSm d<2000000000000000000)
  (h:∀(a':Int) (s:ByteArray),a≤a'→a'≤a+qSm d→s.size≤qWe d→Ok (f ((l,a'),s)) Q):Ok ((E (l,a) (d:Int) ps).bind f) Q:=
 Ok.bind (hE a h0 h1) fun y hy=>by
  obtain⟨a',s,rfl,g1,g2,g3⟩:=hy
  exact h a' s g1 g2 g3
theorem zBp(d:Nat)(hd:d≤5):qSm d≤10000∧qWe d≤20000:=by
 match d,hd with
 |0,_=>decide
 |1,_=>decide
 |2,_=>decide
 |3,_=>decide
 |4,_=>decide
 |5,_=>decide
set_option maxHeartbeats 4000000 in
theorem zNr{E:(List Int×Int)→Int→List ByteArray→Option ((List Int×Int)×ByteArray)}{d:Nat}{ps:List ByteArray}(hd:d=0)(hps:ps.length<1000)(hps2:∀x∈ps,x.size≤12)(hN:100<N):qZy N l (qGn N E) d ps:=by
 subst hd
 intro a h0 h1
 have hc:qSm 0=8:=rfl
 have hz:qWe 0=22:=rfl
 simp only[qGn,hc,hz,qEa,qFe]
 rw[if_pos (show decide (((0:Nat):Int)≤0)=true by decide)]
 repeat' first
  |with_reducible apply Ok.tt
  |with_reducible apply Ok.ff
  |with_reducible apply Ok.ttb
  |with_reducible apply Ok.ffb
  |with_reducible apply Ok.assoc
  |((with_reducible apply Ok.iteb)<;>intro _)
  |((with_reducible apply Ok.ite)<;>intro _)
  |with_reducible apply Ok.someb
  |with_reducible apply Ok.mapb
  |((with_reducible refine Ok.mk ⟨_,_,rfl,?_,?_,?_⟩)<;>omega)
  |((with_reducible refine Ok.next ?_ ?_ ?_ ?_ (fun _ _ _=> ?_))<;>try omega)
  |((with_reducible refine Ok.chance ?_ ?_ ?_ ?_ (fun _=> ?_))<;>try omega)
  |((with_reducible refine Ok.pickS ?_ ?_ (by decide) (fun _ _ _=> ?_))<;>try omega)
  |((with_reducible refine Ok.oneP ?_ ?_ (by assumption) hps hps2 (fun _ _=> ?_))<;>try omega)
  |((with_reducible refine Ok.oneS ?_ ?_ (by decide) (fun _ _=> ?_))<;>try omega)
  |((with_reducible refine Ok.digits ?_ ?_ hN (fun _ _=> ?_))<;>try omega)
  |((with_reducible refine Ok.cat ?_ (fun _ h=> ?_))<;>simp only[qQu,jW,jD,jE,Nat.reduceAdd] at* <;>try omega)
  |((with_reducible refine Ok.cat ?_ (fun _ _=> ?_))<;>try omega)
  |(apply Ok.iteb<;>intro _)
  |dsimp only
 all_goals omega
theorem Ok.pick01{β:Type}{Q:β→Prop}{a:Int}{f:(List Int×Int)×Int→Option β}(h0:0≤a)(h1:a<4611686018427387904)(h:∀x:Int,x=0∨x=1→Ok (f ((l,a+1),x)) Q):Ok ((qDl N (l,a) [0,0,0,1]).bind f) Q:=
 Ok.pick h0 h1 (by decide) (by decide) fun x hx=>h x (by simp at hx;omega)
theorem Ok.exprloop{β:Type}{Q:β→Prop}{E:(List Int×Int)→Int→List ByteArray→Option ((List Int×Int)×ByteArray)}{d:Nat}{ps:List ByteArray}(hE:qZy N l E d ps)(hd:d≤5){p1:Int}(hp:IntKind.wrap .i64 (p1-1)=(d:Int)){s:ByteArray}{n a:Int}{f:ByteArray×List Int×Int→Option β}
  (hn:n=0∨n=1) (h0:0≤a) (h1:a+qSm d<2000000000000000000) (hs:s.size≤100000000) (hN:100<N) (h:∀(s':ByteArray) (a':Int),a≤a'→a'≤a+qSm d→s'.size≤s.size+qWe d+2→Ok (f (s',l,a')) Q):Ok ((qAs (qJn N E p1 ps) N (s,n,l,a)).bind f) Q:=by
 have hsm:=zBp d hd
 refine Ok.loop (fun st=>∃s' n' a',st=(s',n',l,a')∧((n'=n∧a'=a∧s'=s)∨(n'=0∧a≤a'∧a'≤a+qSm d∧s'.size≤s.size+qWe d+2))) (fun st=>st.2.1.toNat) (fun b=>∃s' a',b=(s',l,a')∧a≤a'∧a'≤a+qSm d∧s'.size≤s.size+qWe d+2) ?_ ⟨s,n,a,rfl,.inl ⟨rfl,rfl,rfl⟩⟩ (by simp only;omega) ?_
 ·rintro _ ⟨s',n',a',rfl,hc⟩
  simp only[qJn]
  by_cases hn0:n'>0
  ·rw[if_pos (by simpa using hn0),hp]
   have hc:n'=n∧a'=a∧s'=s:=hc.resolve_right fun h=>by omega
   obtain⟨rfl,rfl,rfl⟩:=hc
   refine Ok.expr hE h0 h1 fun a2 t g1 g2 g3=> ?_
   refine Ok.cat (by simp only[qQu,jW,jD,jE,Nat.reduceAdd];omega) fun u hu=> ?_
   simp only[qQu,jW,jD,jE,Nat.reduceAdd] at hu
   refine Ok.cat (by omega) fun v hv=> ?_
   refine Ok.mk ⟨⟨v,_,a2,rfl,.inr ⟨by rw[wi64 (by omega) (by omega)];omega,g1,g2,by omega⟩⟩,?_⟩
   simp only
   rw[wi64 (by omega) (by omega)]
   omega
  ·rw[if_neg (by simpa using hn0)]
   refine Ok.mk ⟨s',a',rfl,?_⟩
   rcases hc with ⟨_,rfl,rfl⟩|⟨_,g1,g2,g3⟩
   ·omega
   ·exact⟨g1,g2,g3⟩
 ·rintro _ ⟨s',a',rfl,g1,g2,g3⟩
  exact h s' a' g1 g2 g3
set_option maxHeartbeats 8000000 in
theorem zMt{E:(List Int×Int)→Int→List ByteArray→Option ((List Int×Int)×ByteArray)}{d:Nat}{ps:List ByteArray}(hE:qZy N l E d ps)(hd:d≤4)(hps:ps.length<1000)(hps2:∀x∈ps,x.size≤12)(hN:100<N):qZy N l (qGn N E) (d+1) ps:=by
 intro a h0 h1
 have hc:qSm (d+1)=3*qSm d+8:=rfl
 have hz:qWe (d+1)=3*qWe d+20:=rfl
 have hge:=zJj d
 have hsm:=zBp d (by omega)
 have hw:IntKind.wrap .i64 (((d+1:Nat):Int)-1)=(d:Int):=by rw[wi64 (by omega) (by omega)];omega
 simp only[qGn,hc,hz,qEa,qFe,qEe,hw]
 repeat' first
  |with_reducible apply Ok.tt
  |with_reducible apply Ok.ff
  |with_reducible apply Ok.ttb
  |with_reducible apply Ok.ffb
  |with_reducible apply Ok.assoc
  |((with_reducible apply Ok.iteb)<;>intro _)
  |((with_reducible apply Ok.ite)<;>intro _)
  |with_reducible apply Ok.someb
  |with_reducible apply Ok.mapb
  |((with_reducible refine Ok.mk ⟨_,_,rfl,?_,?_,?_⟩)<;>omega)
  |((with_reducible refine Ok.next ?_ ?_ ?_ ?_ (fun _ _ _=> ?_))<;>try omega)
  |((with_reducible refine Ok.chance ?_ ?_ ?_ ?_ (fun _=> ?_))<;>try omega)
  |((with_reducible refine Ok.pick01 ?_ ?_ (fun _ _=> ?_))<;>try omega)
  |((with_reducible refine Ok.exprloop hE (by omega) hw (by assumption) ?_ ?_ ?_ hN (fun _ _ _ _ _=> ?_))<;>try omega)
  |((with_reducible refine Ok.expr hE ?_ ?_ (fun _ _ _ _ _=> ?_))<;>try omega)
  |((with_reducible refine Ok.pickS ?_ ?_ (by decide) (fun _ _ _=> ?_))<;>try omega)
  |((with_reducible refine Ok.oneP ?_ ?_ (by assumption) hps hps2 (fun _ _=> ?_))<;>try omega)
  |((with_reducible refine Ok.oneS ?_ ?_ (by decide) (fun _ _=> ?_))<;>try omega)
  |((with_reducible refine Ok.digits ?_ ?_ hN (fun _ _=> ?_))<;>try omega)
  |((with_reducible refine Ok.cat ?_ (fun _ h=> ?_))<;>simp only[qQu,jW,jD,jE,Nat.reduceAdd] at* <;>try omega)
  |((with_reducible refine Ok.cat ?_ (fun _ _=> ?_))<;>try omega)
  |(apply Ok.iteb<;>intro _)
  |dsimp only
 all_goals omega
theorem zSo:∀(d D:Nat) (ps:List ByteArray),d<D→d≤5→ps.length<1000→(∀x∈ps,x.size≤12)→100<N→qZy N l (qJz N D) d ps
 |_,0,_,h,_,_,_,_=>absurd h (kV _)
 |0,D+1,ps,_,_,h1,h2,hN=>zNr (E:=qJz N D) rfl h1 h2 hN
 |d+1,D+1,ps,h,hd,h1,h2,hN=>zMt (zSo d D ps (by omega) (by omega) h1 h2 hN) (by omega) h1 h2 hN
theorem zOa{d:Nat}{ps:List ByteArray}(hd:d≤5)(h1:ps.length<1000)(h2:∀x∈ps,x.size≤12)(hN:100<N):qZy N l (qIl N) d ps:=zSo d N ps (by omega) hd h1 h2 hN
theorem Ok.expr3{β:Type}{Q:β→Prop}{ps:List ByteArray}{a:Int}{f:(List Int×Int)×ByteArray→Option β}(hN:100<N)(h0:0≤a)(h1:a+10000<2000000000000000000)(hps:ps.length≤2∧∀x∈ps,x.size≤12)
  (h:∀(a':Int) (s:ByteArray),a≤a'→a'≤a+10000→s.size≤854→Ok (f ((l,a'),s)) Q):Ok ((qIl N (l,a) 3 ps).bind f) Q:=
 Ok.expr (d:=3) (zOa (by omega) (by omega) hps.2 hN) h0 (by have:qSm 3=320:=rfl;have:qSm 2=104:=rfl;omega) fun a' s g1 g2 g3=>h a' s g1 (by have:qSm 3=320:=rfl;omega) (by have:qWe 3=854:=rfl;omega)
theorem Ok.expr2{β:Type}{Q:β→Prop}{ps:List ByteArray}{a:Int}{f:(List Int×Int)×ByteArray→Option β}(hN:100<N)(h0:0≤a)(h1:a+10000<2000000000000000000)(hps:ps.length≤2∧∀x∈ps,x.size≤12)
  (h:∀(a':Int) (s:ByteArray),a≤a'→a'≤a+10000→s.size≤854→Ok (f ((l,a'),s)) Q):Ok ((qIl N (l,a) 2 ps).bind f) Q:=
 Ok.expr (d:=2) (zOa (by omega) (by omega) hps.2 hN) h0 (by have:qSm 3=320:=rfl;have:qSm 2=104:=rfl;omega) fun a' s g1 g2 g3=>h a' s g1 (by have:qSm 2=104:=rfl;omega) (by have:qWe 2=278:=rfl;omega)
set_option maxHeartbeats 8000000 in
theorem zTd{a:Int}(hN:100<N)(h0:0≤a)(h1:a<1000000000000000000):Ok (qIh N (l,a)) fun y=>∃a' s,y=((l,a'),s)∧a≤a'∧a'≤a+10010∧s.size≤890:=by
 simp only[qIh,qJg,qEa,qEe]
 repeat' first
  |with_reducible apply Ok.tt
  |with_reducible apply Ok.ff
  |with_reducible apply Ok.ttb
  |with_reducible apply Ok.ffb
  |with_reducible apply Ok.assoc
  |((with_reducible apply Ok.iteb)<;>intro _)
  |((with_reducible apply Ok.ite)<;>intro _)
  |with_reducible apply Ok.someb
  |with_reducible apply Ok.mapb
  |((with_reducible refine Ok.mk ⟨_,_,rfl,?_,?_,?_⟩)<;>omega)
  |((with_reducible refine Ok.next ?_ ?_ ?_ ?_ (fun _ _ _=> ?_))<;>try omega)
  |((with_reducible refine Ok.chance ?_ ?_ ?_ ?_ (fun _=> ?_))<;>try omega)
  |((with_reducible refine Ok.expr3 hN ?_ ?_ ?_ (fun _ _ _ _ _=> ?_))<;>first|omega|exact⟨by decide,by decide⟩|skip)
  |((with_reducible refine Ok.expr2 hN ?_ ?_ ?_ (fun _ _ _ _ _=> ?_))<;>first|omega|exact⟨by decide,by decide⟩|skip)
  |(with_reducible refine Ok.app (by simp) (by decide) ?_)
  |((with_reducible refine Ok.pickS ?_ ?_ (by decide) (fun _ _ _=> ?_))<;>try omega)
  |((with_reducible refine Ok.oneS ?_ ?_ (by decide) (fun _ _=> ?_))<;>try omega)
  |((with_reducible refine Ok.digits ?_ ?_ hN (fun _ _=> ?_))<;>try omega)
  |((with_reducible refine Ok.cat ?_ (fun _ h=> ?_))<;>simp only[qQu,jW,jD,jE,Nat.reduceAdd] at* <;>try omega)
  |((with_reducible refine Ok.cat ?_ (fun _ _=> ?_))<;>try omega)
  |(apply Ok.iteb<;>intro _)
  |dsimp only
 all_goals omega
theorem Has_ok{L:List ByteArray}{x:ByteArray}(hL:L.length<1000000)(hN:L.length<N):Ok (qJh N L x) fun _=>True:=by
 unfold qJh
 refine Ok.loop (fun st=>∃j:Nat,st=(j:Int)∧j≤L.length) (fun st=>L.length-st.toNat) (fun _=>True) ?_ ⟨0,rfl,k0 _⟩ (by show L.length-(0:Int).toNat<N;omega) ?_
 ·rintro _ ⟨j,rfl,hj⟩
  simp only[qLn]
  by_cases h:j<L.length
  ·rw[if_pos (by simpa using h),qCg h]
   simp only[jA]
   refine Ok.ite (fun _=>Ok.mk trivial) fun _=>Ok.mk ⟨⟨j+1,by rw[wi64 (by omega) (by omega)];omega,by omega⟩,?_⟩
   rw[wi64 (by omega) (by omega)];omega
  ·rw[if_neg (by simpa using h)];exact Ok.mk trivial
 ·intro b _
  cases b<;>exact Ok.mk trivial
theorem Ok.has{β:Type}{Q:β→Prop}{L:List ByteArray}{x:ByteArray}{f:Bool→Option β}(hL:L.length<1000000)(hN:L.length<N)(h:∀b,Ok (f b) Q):Ok ((qJh N L x).bind f) Q:=Ok.bind (Has_ok hL hN) fun b _=>h b
theorem Ok.decl{β:Type}{Q:β→Prop}{a:Int}{f:(List Int×Int)×ByteArray→Option β}(hN:100<N)(h0:0≤a)(h1:a<1000000000000000000)
  (h:∀(a':Int) (s:ByteArray),a≤a'→a'≤a+10010→s.size≤890→Ok (f ((l,a'),s)) Q):Ok ((qIh N (l,a)).bind f) Q:=
 Ok.bind (zTd hN h0 h1) fun y hy=>by
  obtain⟨a',s,rfl,g1,g2,g3⟩:=hy
  exact h a' s g1 g2 g3
theorem zUb{β:Type}{Q:β→Prop}{y:(List Int×Int)×ByteArray}{f:ByteArray→Option β}(hs:y.2.size≤890)(hN:3000<N)(h:∀s:ByteArray,Ok (f s) Q):Ok ((qAs (qId N y) N (y.2,0)).bind f) Q:=by
 refine Ok.loop (fun st=>∃j:Nat,st.2=(j:Int)∧j≤y.2.size) (fun st=>y.2.size-st.2.toNat) (fun _=>True) ?_ ⟨0,rfl,k0 _⟩ (by simp only;omega) (fun b _=>h b)
 rintro⟨s,_⟩ ⟨j,rfl,hj⟩
 simp only[qId]
 by_cases hlt:j<y.2.size
 ·rw[if_pos (by simpa using hlt),zDs hlt]
  simp only[jA]
  refine Ok.bind (P:=fun _=>True) (Ok.ite (fun _=>Ok.mk trivial) fun _=>Ok.mk trivial) fun b _=> ?_
  refine Ok.ite (fun _=> ?_) fun _=> ?_
  ·rw[qTn (by omega) (by omega) (by omega)];exact Ok.mk trivial
  ·refine Ok.mk ⟨⟨j+1,by simp only;rw[wi64 (by omega) (by omega)];omega,by omega⟩,?_⟩
   simp only;rw[wi64 (by omega) (by omega)];omega
 ·rw[if_neg (by simpa using hlt)];exact Ok.mk trivial
theorem qZz{a:Int}{pk:ByteArray}(hN:3000<N)(h0:0≤a)(h1:a<100000000000000000)(hp:pk.size≤12):Ok (qFp N (l,a) pk) fun y=>∃a' s,y=((l,a'),s)∧a≤a'∧a'≤a+100000∧s.size≤4700:=by
 simp only[qFp]
 refine Ok.cat (by simp only[qQu,jW,jD,jE,Nat.reduceAdd];omega) fun s1 e1=> ?_
 simp only[qQu,jW,jD,jE,Nat.reduceAdd] at e1
 refine Ok.cat (by simp only[qQu,jW,jD,jE,Nat.reduceAdd];omega) fun s2 e2=> ?_
 simp only[qQu,jW,jD,jE,Nat.reduceAdd] at e2
 refine Ok.chance h0 (by omega) (by omega) (by omega) fun c=> ?_
 refine Ok.bind (P:=fun s:ByteArray=>s.size≤60) (Ok.ite (fun _=>Ok.cat (by simp only[qQu,jW,jD,jE,Nat.reduceAdd];omega) fun s3 e3=>Ok.mk (by simp only[qQu,jW,jD,jE,Nat.reduceAdd] at e3;omega)) fun _=>Ok.mk (by omega)) fun o1 e3=> ?_
 dsimp only
 refine Ok.next (by omega) (by omega) (by omega) (by omega) fun r g1 g2=> ?_
 dsimp only
 -- imports
 refine Ok.loop (fun st=>∃s L n a',st=(s,L,n,l,a')∧0≤n∧n≤2∧(L.length:Int)+n≤2∧(s.size:Int)≤60+30*(2-n)∧a≤a'∧a'≤a+10+(2-n)) (fun st=>st.2.2.1.toNat) (fun b=>∃s a',b=(s,l,a')∧s.size≤120∧a≤a'∧a'≤a+20) ?_ ⟨o1,[],r,a+1+1,rfl,g1,by omega,by simp only[jE];omega,by omega,by omega,by omega⟩ (by simp only;omega) ?_
 ·rintro _ ⟨s,L,n,a',rfl,k1,k2,k3,k4,k5,k6⟩
  simp only[qKe,qDq]
  by_cases hn:n>0
  ·rw[if_pos (by simpa using hn)]
   refine Ok.assoc (Ok.someb ?_)
   refine Ok.assoc (Ok.oneS (by omega) (by omega) (by decide) fun x hx=> ?_)
   dsimp only
   refine Ok.assoc (Ok.bind (P:=fun _=>True) (Ok.ite (fun _=>Ok.has (by omega) (by omega) fun b=>Ok.mk trivial) fun _=>Ok.mk trivial) fun o4 _=> ?_)
   refine Ok.iteb (fun _=> ?_) fun _=> ?_
   ·refine Ok.assoc (Ok.app (by simp only[jD,jE];omega) (by decide) ?_)
    refine Ok.assoc (Ok.cat (by simp only[qQu,jW,jD,jE,Nat.reduceAdd];omega) fun t1 f1=> ?_)
    simp only[qQu,jW,jD,jE,Nat.reduceAdd] at f1
    refine Ok.assoc (Ok.cat (by simp only[qQu,jW,jD,jE,Nat.reduceAdd];omega) fun t2 f2=> ?_)
    simp only[qQu,jW,jD,jE,Nat.reduceAdd] at f2
    refine Ok.assoc (Ok.cat (by omega) fun t3 f3=>Ok.someb (Ok.mk ?_))
    dsimp only
    rw[wi64 (by omega) (by omega)]
    exact⟨⟨t3,_,_,_,rfl,by omega,by omega,by simp only[jF,jD,jE];omega,by omega,by omega,by omega⟩,by omega⟩
   ·refine Ok.someb (Ok.mk ?_)
    dsimp only
    rw[wi64 (by omega) (by omega)]
    exact⟨⟨s,_,_,_,rfl,by omega,by omega,by omega,by omega,by omega,by omega⟩,by omega⟩
  ·rw[if_neg (by simpa using hn)]
   exact Ok.mk ⟨s,a',rfl,by omega,k5,by omega⟩
 rintro _ ⟨s,b1,rfl,q1,q2,q3⟩
 dsimp only
 refine Ok.next (by omega) (by omega) (by omega) (by omega) fun r2 g3 g4=> ?_
 dsimp only
 -- declarations
 refine Ok.loop (fun st=>∃s L n a',st=(s,L,n,l,a')∧0≤n∧n≤5∧(L.length:Int)+n≤5∧(s.size:Int)≤120+890*(5-n)∧a≤a'∧a'≤a+100+10020*(5-n)) (fun st=>st.2.2.1.toNat) (fun b=>∃s a',b=(s,l,a')∧s.size≤4580∧a≤a'∧a'≤a+60000) ?_ ⟨s,[],_,b1+1,rfl,by rw[wi64 (by omega) (by omega)];omega,by rw[wi64 (by omega) (by omega)];omega,by rw[wi64 (by omega) (by omega)];simp only[jE];omega,by rw[wi64 (by omega) (by omega)];omega,by omega,by rw[wi64 (by omega) (by omega)];omega⟩ (by simp only;rw[wi64 (by omega) (by omega)];omega) ?_
 ·rintro _ ⟨s,L,n,a',rfl,k1,k2,k3,k4,k5,k6⟩
  simp only[qKg]
  by_cases hn:n>0
  ·rw[if_pos (by simpa using hn)]
   refine Ok.assoc (Ok.decl (by omega) (by omega) (by omega) fun a2 d v1 v2 v3=> ?_)
   refine Ok.assoc (zUb (y:=((l,a2),d)) v3 hN fun hd=> ?_)
   dsimp only
   refine Ok.assoc (Ok.bind (P:=fun o:Bool×List Int×Int=>o.2.1=l∧a2≤o.2.2∧o.2.2≤a2+1) (Ok.has (by omega) (by omega) fun b=>Ok.ite (fun _=>Ok.mk ⟨rfl,by simp only;omega,by simp only;omega⟩) fun _=>Ok.chance (by omega) (by omega) (by omega) (by omega) fun c=>Ok.mk ⟨rfl,by simp only;omega,by simp only;omega⟩) fun o9 h9=> ?_)
   obtain⟨b9,l9,a9⟩:=o9
   obtain⟨rfl,w1,w2⟩:=h9
   dsimp only at w1 w2 ⊢
   refine Ok.iteb (fun _=> ?_) fun _=> ?_
   ·refine Ok.assoc (Ok.app (by simp only[jD,jE];omega) (by decide) ?_)
    refine Ok.assoc (Ok.cat (by omega) fun t3 f3=>Ok.someb (Ok.mk ?_))
    dsimp only
    rw[wi64 (by omega) (by omega)]
    exact⟨⟨t3,_,_,_,rfl,by omega,by omega,by simp only[jF,jD,jE];omega,by omega,by omega,by omega⟩,by omega⟩
   ·refine Ok.someb (Ok.mk ?_)
    dsimp only
    rw[wi64 (by omega) (by omega)]
    exact⟨⟨s,_,_,_,rfl,by omega,by omega,by omega,by omega,by omega,by omega⟩,by omega⟩
  ·rw[if_neg (by simpa using hn)]
   exact Ok.mk ⟨s,a',rfl,by omega,k5,by omega⟩
 rintro _ ⟨s,b2,rfl,u1,u2,u3⟩
 dsimp only
 refine Ok.chance (by omega) (by omega) (by omega) (by omega) fun c=> ?_
 dsimp only
 refine Ok.iteb (fun _=> ?_) fun _=> ?_
 ·refine Ok.assoc (Ok.oneS (by omega) (by omega) (by decide) fun x hx=> ?_)
  dsimp only
  refine Ok.assoc (Ok.cat (by omega) fun t f1=>Ok.someb (Ok.mk ?_))
  dsimp only
  refine⟨_,_,rfl,?_,?_,?_⟩<;>omega
 ·refine Ok.someb (Ok.mk ?_)
  dsimp only
  refine⟨_,_,rfl,?_,?_,?_⟩<;>omega
end
end
section
open Go Go.Dc
theorem qPs{N:Nat}{L:List File}{p b:ByteArray}(hl:L.length<1000000)(ha:Asc L):∀(d i M:Nat) (done:Bool) (acc:List File),i+d=L.length→d<M→acc.length≤i+done.toNat→(done=true→∀f∈L.drop i,f.1≠p)→
  Ok (qAs (qGh N L (p,b)) M (done,(i:Int),acc)) fun o=>o.2.length≤L.length+1∧(if o.1=true then o.2 else o.2++[(p,b)])=acc++(if done=true then L.drop i else fput (L.drop i) p b)
 |_,_,0,_,_,_,h,_,_=>by omega
 |0,i,M+1,done,acc,hd,_,hacc,_=>by
  refine⟨(done,acc),?_,by simp only;cases done<;>simp only[Bool.toNat_true,Bool.toNat_false] at hacc<;>omega,?_⟩
  ·simp only[qAs,qGh]
   rw[if_neg (by simp only[jB];omega)]
   rfl
  ·rw[jQ (by omega)]
   cases done<;>simp[fput]
 |d+1,i,M+1,done,acc,hd,hM,hacc,hno=>by
  have hi:i<L.length:=by omega
  have e1:(i:Int)+1=((i+1:Nat):Int):=by omega
  have hgt:∀f∈L.drop (i+1),blt (L[i]).1 f.1=true:=by
   have:=(kD.1 (by rw[←jR hi];exact List.Pairwise.sublist (List.drop_sublist _ _) ha:Asc (L[i]::L.drop (i+1)))).1
   exact this
  simp only[qAs,qGh]
  rw[if_pos (by simp only[jB];omega),qCg hi,wi64 (by omega) (by omega),e1]
  rw[jR hi] at hno ⊢
  simp only[jA,eqB]
  cases done with
  |true=>
   simp only[Bool.toNat_true] at hacc
   have hne:=hno rfl _ (jJ ..)
   have ih:=qPs (N:=N) (p:=p) (b:=b) hl ha d (i+1) M true (acc++[((L[i]).1,(L[i]).2)]) (by omega) (by omega) (by simp;omega) (fun h f hf=>hno rfl f (jL _ hf))
   simp only[kM,jC,jH,jA]
   rw[if_pos (by simp[hne]),qCr (by simp only[jD,jE];omega) (by omega)]
   simp only[jA]
   refine ih.mono fun o ho=>⟨ho.1,?_⟩
   rw[ho.2];simp only[jI,jO,kQ,kF]
  |false=>
   simp only[Bool.toNat_false] at hacc
   simp only[kJ,jI,jA]
   rcases qVx p (L[i]).1 with h|h|h
   ·have h':Op.bytesLess p.toList (L[i]).1.toList=true:=h
    have hne:(L[i]).1≠p:=fun e=>zMf h e.symm
    have ih:=qPs (N:=N) (p:=p) (b:=b) hl ha d (i+1) M true ((acc++[(p,b)])++[((L[i]).1,(L[i]).2)]) (by omega) (by omega) (by simp;omega) (fun _ f hf e=>by
     have:=qRm h (hgt f hf);rw[e,qMu] at this;cases this)
    rw[h',Bool.true_or,if_pos rfl,qCr (by simp only[jD,jE];omega) (by omega)]
    simp only[jA]
    rw[if_pos (by simp[hne]),qCr (by simp only[jF,jD,jE];omega) (by omega)]
    simp only[jA]
    refine ih.mono fun o ho=>⟨ho.1,?_⟩
    have g3:fput (L[i]::L.drop (i+1)) p b=(p,b)::L[i]::L.drop (i+1):=by rw[fput,if_pos h]
    rw[ho.2,g3];simp only[jI,jO,kQ,kF,jC,jH]
   ·have ih:=qPs (N:=N) (p:=p) (b:=b) hl ha d (i+1) M true (acc++[(p,b)]) (by omega) (by omega) (by simp;omega) (fun _ f hf e=>by
     have:=hgt f hf;rw[←h,e,qMu] at this;cases this)
    rw[kG h,Bool.or_true,if_pos rfl,qCr (by simp only[jD,jE];omega) (by omega)]
    simp only[jA]
    rw[if_neg (by simp[h])]
    simp only[jA]
    refine ih.mono fun o ho=>⟨ho.1,?_⟩
    have g3:fput (L[i]::L.drop (i+1)) p b=(p,b)::L.drop (i+1):=by rw[fput,if_neg (by rw[h,qMu];simp),if_pos h.symm]
    rw[ho.2,g3];simp only[jI,jO,kQ,kF,jC,jH]
   ·have hne:(L[i]).1≠p:=zMf h
    have h':Op.bytesLess p.toList (L[i]).1.toList=false:=zGg h
    have ih:=qPs (N:=N) (p:=p) (b:=b) hl ha d (i+1) M false (acc++[((L[i]).1,(L[i]).2)]) (by omega) (by omega) (by simp;omega) (fun h=>by cases h)
    rw[h',jY (fun e=>hne e.symm),Bool.or_false,if_neg (by simp)]
    simp only[jA]
    rw[if_pos (by simp[hne]),qCr (by simp only[jD,jE];omega) (by omega)]
    simp only[jA]
    refine ih.mono fun o ho=>⟨ho.1,?_⟩
    have g3:fput (L[i]::L.drop (i+1)) p b=L[i]::fput (L.drop (i+1)) p b:=by rw[fput,if_neg (by rw[show blt p (L[i]).1=false from h'];simp),if_neg hne]
    rw[ho.2,g3];simp only[jO,kQ,kF,jC,jH]
theorem qNb{N:Nat}{L:List File}(p b:ByteArray)(hl:L.length<1000000)(ha:Asc L)(hN:L.length<N):qCw N L (p,b)=some (fput L p b):=by
 obtain⟨o,h1,h2,h3⟩:=qPs (N:=N) (p:=p) (b:=b) hl ha L.length 0 N false [] (by omega) hN (by simp) (fun h=>by cases h)
 simp only[qCw]
 rw[show((0:Nat):Int)=0 from rfl] at h1
 rw[h1]
 simp only[kA,kF,jC,jH] at h3
 simp only[jA]
 cases ho:o.1 with
 |true=>rw[ho] at h3;simp only[jI] at h3;simp[h3]
 |false=>
  rw[ho] at h3
  simp only[jC,jH] at h3
  simp only[kJ,jI]
  rw[qCr (by simp only[jD,jE];omega) (by omega),h3]
  rfl
def srcL:List ByteArray:=[(⟨#[97,46,115,114,99]⟩:ByteArray),(⟨#[98,46,115,114,99]⟩:ByteArray),(⟨#[100,47,99,46,115,114,99]⟩:ByteArray),(⟨#[120,46,115,114,99]⟩:ByteArray)]
def datL:List ByteArray:=[(⟨#[97,46,100,97,116]⟩:ByteArray),(⟨#[100,47,98,46,100,97,116]⟩:ByteArray),(⟨#[99]⟩:ByteArray)]
theorem zMy:(srcL.all fun p=>qJi p.data.toList)=true:=by kernel_rfl
theorem zOw:(datL.all fun p=>qJi p.data.toList)=true:=by kernel_rfl
def Made(L:List File):Prop:=Asc L∧∀f∈L,f.1∈srcL++datL∧f.2.size≤4700
theorem Made.put{L:List File}(h:Made L){p b:ByteArray}(hp:p∈srcL++datL)(hb:b.size≤4700):Made (fput L p b):=
 ⟨h.1.put p b,fun f hf=>by
  rcases qYi hf with rfl|hf
  ·exact⟨hp,hb⟩
  ·exact h.2 f hf⟩
theorem Made.path{L:List File}(h:Made L){f:File}(hf:f∈L):qJi f.1.data.toList=true:=by
 rcases kL.1 (h.2 f hf).1 with h|h
 ·exact jT.1 zMy _ h
 ·exact jT.1 zOw _ h
theorem zSd{N:Nat}{y1:List ByteArray}{s1:Int×(List (ByteArray×ByteArray))×List (Int)×Int}:qGu N y1 s1=
 if(decide (s1.1<(List.length y1:Int)))=true then(((idx y1 s1.1).bind fun x1=>(qCb N (s1.2.2.1,s1.2.2.2) 3 4).bind fun y2=>if y2.2=true then((qDq N).bind fun y3=>(qBh N (y2.1.1,y2.1.2) y3).bind fun y4=>(qFp N (y4.1.1,y4.1.2) y4.2).bind fun y5=>(qCw N s1.2.1 (x1,y5.2)).bind fun y6=>some (y6,y5.1.1,y5.1.2)) else(some (s1.2.1,y2.1.1,y2.1.2)):Option ((List (ByteArray×ByteArray))×List (Int)×Int)).bind fun o2=>some (.inl (IntKind.wrap .i64 (s1.1+1),o2.1,o2.2.1,o2.2.2))) else(some (.inr (s1.2.1,s1.2.2.1,s1.2.2.2))):=rfl
theorem zQo{N:Nat}{s2:Int×(List (ByteArray×ByteArray))×List (Int)×Int}:qJd N s2=
 if(decide (s2.1<(List.length datL:Int)))=true then(((idx datL s2.1).bind fun x2=>(qCb N (s2.2.2.1,s2.2.2.2) 1 3).bind fun y7=>if y7.2=true then((qIg N (y7.1.1,y7.1.2)).bind fun y8=>(qCw N s2.2.1 (x2,y8.2)).bind fun y9=>some (y9,y8.1.1,y8.1.2)) else(some (s2.2.1,y7.1.1,y7.1.2)):Option ((List (ByteArray×ByteArray))×List (Int)×Int)).bind fun o4=>some (.inl (IntKind.wrap .i64 (s2.1+1),o4.1,o4.2.1,o4.2.2))) else(some (.inr (s2.2.1,s2.2.2.1,s2.2.2.2))):=rfl
theorem zPv{N:Nat}{l:List Int}{a:Int}(hN:100<N)(h0:0≤a)(h1:a<1000000000000000000):Ok (qIg N (l,a)) fun y=>∃a' s,y=((l,a'),s)∧a≤a'∧a'≤a+10∧s.size≤10:=by
 simp only[qIg]
 refine Ok.next (by omega) (by omega) (by omega) (by omega) fun r g1 g2=> ?_
 dsimp only
 simp only[qKi]
 refine Ok.assoc ?_
 refine Ok.loop (fun st=>∃L n a',st=(L,n,l,a')∧0≤n∧n≤r∧(L.length:Int)=n∧a≤a'∧a'≤a+1+n) (fun st=>(r-st.2.1).toNat) (fun b=>∃L a',b=(L,l,a')∧L.length≤4∧a≤a'∧a'≤a+5) ?_ ⟨[],0,a+1,rfl,by omega,by omega,rfl,by omega,by omega⟩ (by dsimp only;omega) ?_
 ·rintro _ ⟨L,n,a',rfl,k1,k2,k3,k4,k5⟩
  have h5:ByteArray.size (⟨#[97,98,0,255,48]⟩:ByteArray)=5:=rfl
  simp only[qIo,h5]
  by_cases hn:n<r
  ·rw[if_pos (by simpa using hn)]
   refine Ok.next (by omega) (by omega) (by omega) (by omega) fun q v1 v2=> ?_
   dsimp only
   have hq:q.toNat<ByteArray.size (⟨#[97,98,0,255,48]⟩:ByteArray):=by rw[h5];omega
   have hx:idxB (⟨#[97,98,0,255,48]⟩:ByteArray) q=some ((⟨#[97,98,0,255,48]⟩:ByteArray)[q.toNat]):=by
    have:=zDs hq
    rw[Int.toNat_of_nonneg v1] at this
    exact this
   rw[hx]
   refine Ok.someb (Ok.app (by simp only[jD,jE];omega) (by decide) (Ok.mk ?_))
   dsimp only
   rw[wi64 (by omega) (by omega)]
   exact⟨⟨_,_,_,rfl,by omega,by omega,by simp only[jF,jD,jE];omega,by omega,by omega⟩,by omega⟩
  ·rw[if_neg (by simpa using hn)]
   exact Ok.mk ⟨L,a',rfl,by omega,by omega,by omega⟩
 ·rintro _ ⟨L,a',rfl,v1,v2,v3⟩
  refine Ok.someb (Ok.mk ?_)
  dsimp only
  refine⟨_,_,rfl,?_,?_,?_⟩
  ·omega
  ·omega
  ·rw[qDh];omega
theorem zJf{N:Nat}{l:List Int}{a:Int}(hN:3000<N)(h0:0≤a)(h1:a<10000000000000000):Ok (qIu N (l,a)) fun y=>∃a' L,y=((l,a'),L)∧a≤a'∧a'≤a+1000000∧Made L∧L.length≤7:=by
 simp only[qIu,qHn]
 refine Ok.someb ?_
 show Ok ((qAs (qGu N srcL) N (0,[],l,a)).bind _) _
 refine Ok.loop (fun st=>∃(n:Nat) (L:List File) (a':Int),st=((n:Int),L,l,a')∧n≤4∧L.length≤n∧Made L∧a≤a'∧a'≤a+100010*n) (fun st=>4-st.1.toNat) (fun b=>∃L a',b=(L,l,a')∧L.length≤4∧Made L∧a≤a'∧a'≤a+500000) ?_ ⟨0,[],a,rfl,by omega,by simp,⟨List.Pairwise.nil,by simp⟩,by omega,by omega⟩ (by dsimp only;omega) ?_
 ·rintro _ ⟨n,L,a',rfl,k1,k2,k3,k4,k5⟩
  rw[zSd]
  have hlen:srcL.length=4:=rfl
  dsimp only
  by_cases hn:n<4
  ·rw[if_pos (by simp only[jB,hlen];omega),qCg (l:=srcL) (by omega)]
   refine Ok.assoc (Ok.someb ?_)
   refine Ok.assoc (Ok.chance (by omega) (by omega) (by omega) (by omega) fun c=> ?_)
   dsimp only
   refine Ok.iteb (fun _=> ?_) fun _=> ?_
   ·refine Ok.assoc (Ok.someb ?_)
    refine Ok.assoc (Ok.oneS (by omega) (by omega) (by decide) fun x hx=> ?_)
    dsimp only
    refine Ok.assoc (Ok.bind (qZz hN (by omega) (by omega) hx) ?_)
    rintro _ ⟨a2,s,rfl,v1,v2,v3⟩
    dsimp only
    rw[qNb _ _ (by omega) k3.1 (by omega)]
    refine Ok.assoc (Ok.someb (Ok.someb (Ok.mk ?_)))
    dsimp only
    have hf:=qRs L (srcL[n]) s
    refine⟨⟨n+1,_,_,by rw[wi64 (by omega) (by omega)];rfl,by omega,by omega,k3.put (kS _ (jP _)) v3,by omega,by omega⟩,?_⟩
    rw[wi64 (by omega) (by omega)];omega
   ·refine Ok.someb (Ok.mk ?_)
    dsimp only
    refine⟨⟨n+1,_,_,by rw[wi64 (by omega) (by omega)];rfl,by omega,by omega,k3,by omega,by omega⟩,?_⟩
    rw[wi64 (by omega) (by omega)];omega
  ·rw[if_neg (by simp only[jB,hlen];omega)]
   exact Ok.mk ⟨L,a',rfl,by omega,k3,by omega,by omega⟩
 rintro _ ⟨L1,a1,rfl,u1,u2,u3,u4⟩
 dsimp only
 refine Ok.loop (fun st=>∃(n:Nat) (L:List File) (a':Int),st=((n:Int),L,l,a')∧n≤3∧L.length≤4+n∧Made L∧a≤a'∧a'≤a+500000+20*n) (fun st=>3-st.1.toNat) (fun b=>∃L a',b=(L,l,a')∧L.length≤7∧Made L∧a≤a'∧a'≤a+600000) ?_ ⟨0,L1,a1,rfl,by omega,by omega,u2,by omega,by omega⟩ (by dsimp only;omega) ?_
 ·rintro _ ⟨n,L,a',rfl,k1,k2,k3,k4,k5⟩
  rw[zQo]
  have hlen:datL.length=3:=rfl
  dsimp only
  by_cases hn:n<3
  ·rw[if_pos (by simp only[jB,hlen];omega),qCg (l:=datL) (by omega)]
   refine Ok.assoc (Ok.someb ?_)
   refine Ok.assoc (Ok.chance (by omega) (by omega) (by omega) (by omega) fun c=> ?_)
   dsimp only
   refine Ok.iteb (fun _=> ?_) fun _=> ?_
   ·refine Ok.assoc (Ok.bind (zPv (by omega) (by omega) (by omega)) ?_)
    rintro _ ⟨a2,s,rfl,v1,v2,v3⟩
    dsimp only
    rw[qNb _ _ (by omega) k3.1 (by omega)]
    refine Ok.assoc (Ok.someb (Ok.someb (Ok.mk ?_)))
    dsimp only
    have hf:=qRs L (datL[n]) s
    refine⟨⟨n+1,_,_,by rw[wi64 (by omega) (by omega)];rfl,by omega,by omega,k3.put (gE _ (jP _)) (by omega),by omega,by omega⟩,?_⟩
    rw[wi64 (by omega) (by omega)];omega
   ·refine Ok.someb (Ok.mk ?_)
    dsimp only
    refine⟨⟨n+1,_,_,by rw[wi64 (by omega) (by omega)];rfl,by omega,by omega,k3,by omega,by omega⟩,?_⟩
    rw[wi64 (by omega) (by omega)];omega
  ·rw[if_neg (by simp only[jB,hlen];omega)]
   exact Ok.mk ⟨L,a',rfl,by omega,k3,by omega,by omega⟩
 rintro _ ⟨L2,a2,rfl,w1,w2,w3,w4⟩
 refine Ok.mk ?_
 exact⟨a2,L2,rfl,by omega,by omega,w2,w1⟩
theorem Made.wf{L:List File}(h:Made L)(hl:L.length≤64):WF L:=⟨hl,h.1,fun f hf=>⟨h.path hf,fL (h.2 f hf).2 (by decide)⟩⟩
end
section
open Go Go.Dc
def MadeE(K:Nat)(L:List File):Prop:=Asc L∧∀f∈L,qJi f.1.data.toList=true∧f.2.size≤K
theorem Made.e{L:List File}(h:Made L):MadeE 4700 L:=⟨h.1,fun f hf=>⟨h.path hf,(h.2 f hf).2⟩⟩
theorem MadeE.put{K:Nat}{L:List File}(h:MadeE K L){p b:ByteArray}(hp:qJi p.data.toList=true)(hb:b.size≤K):MadeE K (fput L p b):=
 ⟨h.1.put p b,fun f hf=>by
  rcases qYi hf with rfl|hf
  ·exact⟨hp,hb⟩
  ·exact h.2 f hf⟩
theorem MadeE.del{K:Nat}{L:List File}(h:MadeE K L)(p:ByteArray):MadeE K (fdel L p):=⟨h.1.del p,fun f hf=>h.2 f (gM.1 hf).1⟩
theorem MadeE.more{K K':Nat}{L:List File}(h:MadeE K L)(hk:K≤K'):MadeE K' L:=⟨h.1,fun f hf=>⟨(h.2 f hf).1,fL (h.2 f hf).2 hk⟩⟩
theorem MadeE.wf{K:Nat}{L:List File}(h:MadeE K L)(hk:K≤16384)(hl:L.length≤64):WF L:=⟨hl,h.1,fun f hf=>⟨(h.2 f hf).1,fL (h.2 f hf).2 hk⟩⟩
theorem zEy{N:Nat}{L:List File}{p:ByteArray}(hl:L.length<1000000)(hN:L.length<N):qIj N L p=some (fdel L p):=by
 have h:=qGo (L:=L) (fun(t:List File) i=>((i:Int),t)) (f:=qGi N L p) (fun t f=>(.inl (if decide (f.1≠p)=true then t++[f] else t):List File⊕List File)) (fun t=>t) (fun i t=>t.length≤i) (fun t i hi ht=>by
   have hc:((i:Int)<(L.length:Int)):=by omega
   have w:IntKind.wrap .i64 ((i:Int)+1)=((i+1:Nat):Int):=by rw[wi64 (by omega) (by omega)];omega
   simp only[qGi,hc,decide_true,jI,qCg hi,jA,w,eqB]
   by_cases hp:L[i].1=p
   ·simp[hp]
   ·simp only[hp,decide_false,kJ,jI,ne_eq,not_false_eq_true,decide_true]
    rw[qCr (by simp only[jD,jE];omega) (by decide)]
    rfl) (fun t i hi t' ht hs=>by
   simp only[Sum.inl.injEq] at hs
   subst hs
   split
   ·simp only[jF,jD,jE];omega
   ·omega) (fun t _=>by
   have hc:¬((L.length:Int)<(L.length:Int)):=by omega
   simp only[qGi,hc,decide_false,jC,jH]) (t:=[]) hN (k0 _)
 rw[show((0:Nat):Int)=0 from rfl] at h
 have hr:=qSj (step:=fun(t:List File) (f:File)=>(.inl (if decide (f.1≠p)=true then t++[f] else t):List File⊕List File)) (fin:=fun t=>t) (fun(t:List File) (f:File)=>if decide (f.1≠p)=true then t++[f] else t) (fun _ _=>rfl) L []
 unfold qIj
 rw[h,hr]
 simp only[jA]
 congr 1
 have:∀(a t:List File),a.foldl (fun t f=>if decide (f.1≠p)=true then t++[f] else t) t=t++fdel a p:=by
  intro a
  induction a with
  |nil=>intro t;simp[fdel]
  |cons x a ih=>
   intro t
   rw[kZ,ih]
   unfold fdel
   rw[fE]
   split<;>simp
 rw[this];rfl
theorem zPb(L:List File)(p:ByteArray):(fdel L p).length≤L.length:=List.length_filter_le _ _
def Good(l:List Int)(a:Int)(K:Nat)(L:List File)(z:(List Int×Int)×List File):Prop:=∃a' L',z=((l,a'),L')∧a≤a'∧a'≤a+200000∧MadeE (K+900) L'∧L'.length≤L.length+1
section
variable {N:Nat} {l:List Int} {a:Int} {K:Nat} {L:List File}
theorem qWd{f:Int→Option (Int⊕(Unit⊕((List Int×Int)×List File)))}{Q:(List Int×Int)×List File→Prop}{p:ByteArray}(hl:L.length≤100)(hN:200<N)
  (hf:∀j,∀hj:j<L.length,L[j].1=p→Ok (f (j:Int)) fun r=>∃z,r= .inr (.inr z)∧Q z) (hn:∀j,∀hj:j<L.length,¬L[j].1=p→f (j:Int)=some (.inl ((j+1:Nat):Int))) (he:f (L.length:Int)=some (.inr (.inl ()))):
  Ok (qAs f N 0) fun o=>o= .inl ()∨∃z,o= .inr z∧Q z:=by
 obtain⟨b,h1,h2⟩:=zDd (f:=f) (fun s=>∃j:Nat,s=(j:Int)∧j≤L.length) (fun s=>L.length-s.toNat) (fun o=>o= .inl ()∨∃z,o= .inr z∧Q z) (fun s hs=>by
  obtain⟨j,rfl,hj⟩:=hs
  by_cases hlt:j<L.length
  ·by_cases hp:L[j].1=p
   ·obtain⟨r,h1,z,rfl,h2⟩:=hf j hlt hp
    exact .inl ⟨_,h1,.inr ⟨z,rfl,h2⟩⟩
   ·exact .inr ⟨_,hn j hlt hp,⟨j+1,rfl,hlt⟩,by simp only[jS];omega⟩
  ·have:j=L.length:=by omega
   subst this
   exact .inl ⟨_,he,.inl rfl⟩) N 0 ⟨0,rfl,k0 _⟩ (by simp only[fI];omega)
 exact⟨b,h1,h2⟩
theorem digit3(M:Nat):qDu (M+1) 0=some (⟨#[48]⟩:ByteArray)∧qDu (M+1) 1=some (⟨#[49]⟩:ByteArray)∧qDu (M+1) 2=some (⟨#[50]⟩:ByteArray):=⟨by kernel_rfl,by kernel_rfl,by kernel_rfl⟩
theorem qUk{x y z:ByteArray}(h:x++y=z)(hs:x.size+y.size≤1000):catB x y=some z:=by
 unfold catB
 rw[if_pos (by simp only[maxLen];omega),h]
theorem zpath{x:Int}(h0:0≤x)(h1:x<3){M:Nat}:∃s t p:ByteArray,qDu (M+1) x=some s∧catB (⟨#[122]⟩:ByteArray) s=some t∧catB t (⟨#[46,115,114,99]⟩:ByteArray)=some p∧qJi p.data.toList=true:=by
 obtain⟨d0,d1,d2⟩:=digit3 M
 have hx:x=0∨x=1∨x=2:=by omega
 rcases hx with rfl|rfl|rfl
 ·exact⟨_,⟨#[122,48]⟩,⟨#[122,48,46,115,114,99]⟩,d0,qUk (by decide+kernel) (by decide),qUk (by decide+kernel) (by decide),by kernel_rfl⟩
 ·exact⟨_,⟨#[122,49]⟩,⟨#[122,49,46,115,114,99]⟩,d1,qUk (by decide+kernel) (by decide),qUk (by decide+kernel) (by decide),by kernel_rfl⟩
 ·exact⟨_,⟨#[122,50]⟩,⟨#[122,50,46,115,114,99]⟩,d2,qUk (by decide+kernel) (by decide),qUk (by decide+kernel) (by decide),by kernel_rfl⟩
theorem zRb{p:ByteArray}(h:p∈srcL):qJi p.data.toList=true:=jT.1 zMy p h
theorem zRm{p:ByteArray}(h:p∈datL):qJi p.data.toList=true:=jT.1 zOw p h
theorem zTj(hN:3000<N)(h0:0≤a)(h1:a<10000000000000000)(hL:MadeE K L)(hK:4700≤K)(hK2:K≤100000)(hlen:L.length≤100):Ok (qLa N (l,a) L) (Good l a K L):=by
 obtain⟨M,rfl⟩:∃M,N=M+1:=⟨N-1,by omega⟩
 have hL9:MadeE (K+900) L:=hL.more (by omega)
 have hput:∀(a':Int) {p b:ByteArray},a≤a'→a'≤a+200000→qJi p.data.toList=true→b.size≤K+900→Good l a K L ((l,a'),fput L p b):=fun a' {p b} g1 g2 hp hb=>
  ⟨a',_,rfl,g1,g2,hL9.put hp hb,qRs L p b⟩
 unfold qLa qHn
 refine Ok.someb (Ok.one h0 (by omega) (by decide) (by decide) fun p hp=> ?_)
 have hpp:=zRb hp
 refine Ok.next (by first|omega|(dsimp only;omega)) (by first|omega|(dsimp only;omega)) (by decide) (by decide) fun r r0 r1=> ?_
 dsimp only
 refine Ok.bind (P:=fun q=>q= .inl ()∨∃z,q= .inr z∧Good l a K L z) ?_ ?_
 ·refine Ok.ite (fun _=> ?_) fun _=>Ok.ite (fun _=> ?_) fun _=>Ok.ite (fun _=> ?_) fun _=>Ok.ite (fun _=> ?_) fun _=>Ok.ite (fun _=> ?_) fun _=>Ok.ite (fun _=> ?_) fun _=>Ok.mk (.inl rfl)
  ·refine Ok.one (by omega) (by omega) (by decide) (by decide) fun q hq=> ?_
   have hq:q∈datL:=hq
   dsimp only
   refine Ok.bind (zPv (by omega) (by omega) (by omega)) ?_
   rintro _ ⟨a2,s,rfl,v1,v2,v3⟩
   dsimp only
   rw[qNb _ _ (by omega) hL.1 (by omega)]
   exact Ok.mk (.inr ⟨_,rfl,hput a2 (by omega) (by omega) (zRm hq) (by omega)⟩)
  ·refine Ok.one (by omega) (by omega) (by decide) (by decide) fun q hq=> ?_
   dsimp only
   rw[zEy (by omega) (by omega)]
   exact Ok.mk (.inr ⟨_,rfl,_,_,rfl,by omega,by omega,hL9.del q,by have:=zPb L q;omega⟩)
  ·refine Ok.someb (Ok.oneS (by omega) (by omega) (by decide) fun q hq=> ?_)
   refine Ok.bind (qZz (by omega) (by first|omega|(dsimp only;omega)) (by first|omega|(dsimp only;omega)) hq) ?_
   rintro _ ⟨a2,s,rfl,v1,v2,v3⟩
   dsimp only at v1 v2 ⊢
   rw[qNb _ _ (by omega) hL.1 (by omega)]
   exact Ok.mk (.inr ⟨_,rfl,hput a2 (by omega) (by omega) hpp (by omega)⟩)
  ·refine Ok.bind (qWd (L:=L) (p:=p) (Q:=Good l a K L) hlen (by omega) (fun j hj hjp=> ?_) (fun j hj hjp=> ?_) ?_) ?_
   ·have hc:((j:Int)<(L.length:Int)):=by omega
    simp only[qHk,hc,decide_true,jI,qCg hj,jA,eqB,hjp]
    rw[zEy (by omega) (by omega)]
    refine Ok.someb (Ok.next (by omega) (by omega) (by decide) (by decide) fun x x0 x1=> ?_)
    obtain⟨s,t,q,e1,e2,e3,e4⟩:=zpath x0 x1 (M:=M)
    simp only[e1,e2,e3,jA]
    have hd:=zPb L p
    rw[qNb _ _ (by omega) (hL.1.del p) (by omega)]
    refine Ok.mk ⟨_,rfl,_,_,rfl,by omega,by omega,(hL9.del p).put e4 (by have:=(hL.2 L[j] (jP hj)).2;omega),?_⟩
    have:=qRs (fdel L p) q L[j].2
    omega
   ·have hc:((j:Int)<(L.length:Int)):=by omega
    have w:IntKind.wrap .i64 ((j:Int)+1)=((j+1:Nat):Int):=by rw[wi64 (by omega) (by omega)];omega
    simp only[qHk,hc,decide_true,jI,qCg hj,jA,eqB,hjp,decide_false,jC,jH,w]
   ·have hc:¬((L.length:Int)<(L.length:Int)):=by omega
    simp only[qHk,hc,decide_false,jC,jH]
   ·rintro o (rfl|⟨z,rfl,hz⟩)
    ·exact Ok.mk (.inl rfl)
    ·exact Ok.mk (.inr ⟨z,rfl,hz⟩)
  ·refine Ok.bind (qWd (L:=L) (p:=p) (Q:=Good l a K L) hlen (by omega) (fun j hj hjp=> ?_) (fun j hj hjp=> ?_) ?_) ?_
   ·have hc:((j:Int)<(L.length:Int)):=by omega
    have hsz:=(hL.2 L[j] (jP hj)).2
    simp only[qHl,hc,decide_true,jI,qCg hj,jA,eqB,hjp]
    refine Ok.next (by omega) (by omega) (by decide) (by decide) fun x x0 x1=> ?_
    refine Ok.digits (by omega) (by omega) (by omega) fun s hs=> ?_
    refine Ok.cat (by simp only[qQu,jW,jD,jE];omega) fun s5 h5=> ?_
    simp only[qQu,jW,jD,jE] at h5
    refine Ok.cat (by simp only[qQu,jW,jD,jE];omega) fun s6 h6=> ?_
    simp only[qQu,jW,jD,jE] at h6
    refine Ok.cat (by omega) fun s7 h7=> ?_
    rw[qNb _ _ (by omega) hL.1 (by omega)]
    exact Ok.mk ⟨_,rfl,hput _ (by first|omega|(dsimp only;omega)) (by first|omega|(dsimp only;omega)) hpp (by omega)⟩
   ·have hc:((j:Int)<(L.length:Int)):=by omega
    have w:IntKind.wrap .i64 ((j:Int)+1)=((j+1:Nat):Int):=by rw[wi64 (by omega) (by omega)];omega
    simp only[qHl,hc,decide_true,jI,qCg hj,jA,eqB,hjp,decide_false,jC,jH,w]
   ·have hc:¬((L.length:Int)<(L.length:Int)):=by omega
    simp only[qHl,hc,decide_false,jC,jH]
   ·rintro o (rfl|⟨z,rfl,hz⟩)
    ·exact Ok.mk (.inl rfl)
    ·exact Ok.mk (.inr ⟨z,rfl,hz⟩)
  ·refine Ok.bind (qWd (L:=L) (p:=p) (Q:=Good l a K L) hlen (by omega) (fun j hj hjp=> ?_) (fun j hj hjp=> ?_) ?_) ?_
   ·have hc:((j:Int)<(L.length:Int)):=by omega
    have hsz:=(hL.2 L[j] (jP hj)).2
    simp only[qHo,hc,decide_true,jI,qCg hj,jA,eqB,hjp]
    refine Ok.cat (by simp only[qQu,jW,jD,jE];omega) fun s5 h5=> ?_
    simp only[qQu,jW,jD,jE] at h5
    rw[qNb _ _ (by omega) hL.1 (by omega)]
    exact Ok.mk ⟨_,rfl,hput _ (by first|omega|(dsimp only;omega)) (by first|omega|(dsimp only;omega)) hpp (by omega)⟩
   ·have hc:((j:Int)<(L.length:Int)):=by omega
    have w:IntKind.wrap .i64 ((j:Int)+1)=((j+1:Nat):Int):=by rw[wi64 (by omega) (by omega)];omega
    simp only[qHo,hc,decide_true,jI,qCg hj,jA,eqB,hjp,decide_false,jC,jH,w]
   ·have hc:¬((L.length:Int)<(L.length:Int)):=by omega
    simp only[qHo,hc,decide_false,jC,jH]
   ·rintro o (rfl|⟨z,rfl,hz⟩)
    ·exact Ok.mk (.inl rfl)
    ·exact Ok.mk (.inr ⟨z,rfl,hz⟩)
 ·rintro q (rfl|⟨z,rfl,hz⟩)
  ·dsimp only
   refine Ok.bind (qWd (L:=L) (p:=p) (Q:=Good l a K L) hlen (by omega) (fun j hj hjp=> ?_) (fun j hj hjp=> ?_) ?_) ?_
   ·have hc:((j:Int)<(L.length:Int)):=by omega
    have hsz:=(hL.2 L[j] (jP hj)).2
    simp only[qHm,hc,decide_true,jI,qCg hj,jA,eqB,hjp]
    refine Ok.decl (by omega) (by omega) (by omega) fun a2 s g1 g2 g3=> ?_
    dsimp only
    refine Ok.cat (by omega) fun s5 h5=> ?_
    rw[qNb _ _ (by omega) hL.1 (by omega)]
    exact Ok.mk ⟨_,rfl,hput a2 (by omega) (by omega) hpp (by omega)⟩
   ·have hc:((j:Int)<(L.length:Int)):=by omega
    have w:IntKind.wrap .i64 ((j:Int)+1)=((j+1:Nat):Int):=by rw[wi64 (by omega) (by omega)];omega
    simp only[qHm,hc,decide_true,jI,qCg hj,jA,eqB,hjp,decide_false,jC,jH,w]
   ·have hc:¬((L.length:Int)<(L.length:Int)):=by omega
    simp only[qHm,hc,decide_false,jC,jH]
   ·rintro o (rfl|⟨z,rfl,hz⟩)
    ·dsimp only
     refine Ok.someb (Ok.oneS (by omega) (by omega) (by decide) fun q hq=> ?_)
     refine Ok.bind (qZz (by omega) (by first|omega|(dsimp only;omega)) (by first|omega|(dsimp only;omega)) hq) ?_
     rintro _ ⟨a2,s,rfl,v1,v2,v3⟩
     dsimp only at v1 v2 ⊢
     rw[qNb _ _ (by omega) hL.1 (by omega)]
     exact Ok.mk (hput a2 (by omega) (by omega) hpp (by omega))
    ·exact Ok.mk hz
  ·exact Ok.mk hz
end
end
section
open Go Go.Dc
def encF:Nat→Nat→List UInt8
 |0,n=>[UInt8.ofNat n]
 |k+1,n=>if n<128 then[UInt8.ofNat n] else UInt8.ofNat (n%128+128)::encF k (n/128)
def encU(n:Nat):List UInt8:=encF 9 n
theorem zCs:∀k n,(encF k n).length≤k+1
 |0,n=>by simp[encF]
 |k+1,n=>by
  simp only[encF]
  split
  ·simp
  ·have:=zCs k (n/128);simp only[jD];omega
theorem qMy(n:Nat):(encU n).length≤10:=zCs 9 n
theorem zOt(n:Nat):toU8 (n:Int)=UInt8.ofNat n:=by simp[toU8]
theorem zBk(n:Nat):toU8 (IntKind.wrap .u8 (n:Int))=UInt8.ofNat n:=by
 rw[zRd,show((n:Int)%256)=((n%256:Nat):Int) by omega,zOt]
 apply UInt8.toNat_inj.1
 simp[UInt8.toNat_ofNat']
theorem zKh(f:Int×List UInt8→Option ((Int×List UInt8)⊕(Int×List UInt8)))
  (h1:∀(n:Nat) (out:List UInt8),128≤n→n<18446744073709551616→out.length+1≤140737488355328→f ((n:Int),out)=some (.inl (((n/128:Nat):Int),out++[UInt8.ofNat (n%128+128)])))
  (h2:∀(n:Nat) (out:List UInt8),n<128→f ((n:Int),out)=some (.inr ((n:Int),out))):
  ∀(k N n:Nat) (out:List UInt8),n<18446744073709551616→n<128^(k+1)→k<N→out.length+k≤140737488355328→
   ∃(r:Nat) (o:List UInt8),qAs f N ((n:Int),out)=some ((r:Int),o)∧r<128∧o++[UInt8.ofNat r]=out++encF k n
 |k,0,_,_,_,_,h,_=>absurd h (kV _)
 |0,N+1,n,out,_,hn,_,_=>⟨n,out,by simp[qAs,h2 n out (by simpa using hn)],by simpa using hn,by simp[encF]⟩
 |k+1,N+1,n,out,hm,hn,hk,ho=>by
  by_cases h:n<128
  ·exact⟨n,out,by simp[qAs,h2 n out h],h,by simp[encF,h]⟩
  ·obtain⟨r,o,h3,h4,h5⟩:=zKh f h1 h2 k N (n/128) (out++[UInt8.ofNat (n%128+128)]) (by omega) (by rw[dC] at hn;omega) (by omega) (by simp only[jF,jD,jE];omega)
   refine⟨r,o,?_,h4,by rw[h5];simp[encF,h]⟩
   simp only[qAs,h1 n out (by omega) hm (by omega),jA,h3]
theorem zBa{N:Nat}{l:List UInt8}{n:Nat}(hn:n<18446744073709551616)(hN:9<N)(hl:l.length+10≤140737488355328):qIv N l (n:Int)=some (l++encU n):=by
 obtain⟨r,o,h1,h2,h3⟩:=zKh (qFn N) (fun n out h1 h2 h3=>by
  have e:((n:Int)≥128):=by omega
  simp only[qFn,e,decide_true,jI]
  have e1:Int.tmod (n:Int) 128=((n%128:Nat):Int):=rfl
  have e2:Int.tdiv (n:Int) 128=((n/128:Nat):Int):=rfl
  rw[e1,e2,wu8 (x:=((n%128:Nat):Int)) (by omega) (by omega),show(((n%128:Nat):Int)+128)=((n%128+128:Nat):Int) by omega,zBk,qCr (by simpa using h3) (by omega),wu64 (by omega) (by omega)];rfl) (fun n out h=>by
  have e:¬((n:Int)≥128):=by omega
  simp[qFn,e]) 9 N n l hn (by omega) hN (by omega)
 have hol:o.length+1=l.length+(encF 9 n).length:=by have:=congrArg List.length h3;simpa using this
 have:=zCs 9 n
 simp only[qIv]
 rw[qCr (by simp;omega) (by omega)]
 simp only[jA,kF,h1]
 rw[zBk,qCr (by simp;omega) (by omega),h3];rfl
theorem qOm{N:Nat}{l:List UInt8}{s:ByteArray}(hN:9<N)(hl:l.length+10+s.size≤140737488355328):qEi N l s=some (l++encU s.size++s.data.toList):=by
 have:=qMy s.size
 simp only[qEi,wu64 (x:=(s.size:Int)) (by omega) (by omega),zBa (l:=l) (n:=s.size) (by omega) hN (by omega),jA]
 rw[qCr (by simp only[jF,fB,ByteArray.size_data];omega) (by omega)];rfl
def uend(l:List UInt8)(a:Nat):Nat:=a+((l.drop a).takeWhile (fun b=>decide (128≤b.toNat))).length
def uval(l:List UInt8)(a:Nat):Nat→Nat→Nat
 |0,n=>n
 |k+1,n=>uval l a k ((n*128+(l.getD (a+k) 0).toNat%128)%18446744073709551616)
def uintP(l:List UInt8)(i:Int):Int×Int×Int:=
 if i<0∨i>l.length then(0,0,3) else
  let a:=i.toNat
  let e:=uend l a
  if e=l.length then(0,0,7) else
   if e-a≥10∨(e-a=9∧(l.getD e 0).toNat>1)∨(a<e∧(l.getD e 0).toNat=0) then(0,0,6) else
    ((uval l a (e-a+1) 0:Nat),(e:Int)+1,0)
end
section
open Go Go.Dc
def dvl:List UInt8→Nat
 |[]=>0
 |b::r=>b.toNat%128+128*dvl r
theorem zRg(xs:List UInt8)(x:UInt8):dvl (xs++[x])=dvl xs+128^xs.length*(x.toNat%128):=by
 induction xs with
 |nil=>simp[dvl]
 |cons y r ih=>
  simp only[kQ,dvl,ih,jD,dC]
  rw[Nat.mul_add,←Nat.mul_assoc,dJ 128 (128^r.length)];omega
theorem zOv(l:List UInt8)(a:Nat):∀k n,a+k≤l.length→n<18446744073709551616→uval l a k n=(n*128^k+dvl ((l.drop a).take k))%18446744073709551616
 |0,n,_,h=>by simp[uval,dvl,Nat.mod_eq_of_lt h]
 |k+1,n,h,hn=>by
  have hlt:a+k<l.length:=by omega
  have e:(l.drop a).take (k+1)=(l.drop a).take k++[l[a+k]]:=by
   rw[List.take_add_one]
   simp[hlt]
  have hlen:((l.drop a).take k).length=k:=by simp;omega
  rw[uval,zOv l a k _ (by omega) (Nat.mod_lt _ (by omega)),e,zRg,hlen]
  have hg:l.getD (a+k) 0=l[a+k]:=by simp[List.getD,hlt]
  rw[hg]
  generalize dvl ((l.drop a).take k)=D
  generalize l[a+k].toNat%128=d
  have e2:n*128^(k+1)+(D+128^k*d)=(n*128+d)*128^k+D:=by
   rw[dC,kI,dJ (128^k) 128,Nat.mul_assoc,dJ d];omega
  rw[e2,Nat.add_mod,Nat.mul_mod,Nat.mod_mod,←Nat.mul_mod,←Nat.add_mod]
theorem zFz:∀k n,n<128^(k+1)→∃ini:List UInt8,∃b:UInt8,encF k n=ini++[b]∧b.toNat=n/128^ini.length∧b.toNat<128∧(ini≠[]→1≤b.toNat)∧(∀x∈ini,128≤x.toNat)∧ini.length≤k∧dvl (encF k n)=n
 |0,n,h=>by
  refine⟨[],UInt8.ofNat n,rfl,?_,?_,by simp,by simp,by simp,?_⟩
  ·simp[UInt8.toNat_ofNat'];omega
  ·simp[UInt8.toNat_ofNat'];omega
  ·simp[encF,dvl,UInt8.toNat_ofNat'];omega
 |k+1,n,h=>by
  by_cases hn:n<128
  ·refine⟨[],UInt8.ofNat n,by simp[encF,hn],?_,?_,by simp,by simp,by simp,?_⟩
   ·simp[UInt8.toNat_ofNat'];omega
   ·simp[UInt8.toNat_ofNat'];omega
   ·simp[encF,hn,dvl,UInt8.toNat_ofNat']
    try omega
  ·obtain⟨ini,b,h1,h2,h3,h4,h5,h6,h7⟩:=zFz k (n/128) (by rw[dC] at h;omega)
   refine⟨UInt8.ofNat (n%128+128)::ini,b,by simp[encF,hn,h1],?_,h3,fun _=> ?_,?_,by simpa using h6,?_⟩
   ·rw[h2,jD,dC,dJ,Nat.div_div_eq_div_mul]
   ·cases ini with
    |nil=>simp at h2;omega
    |cons y r=>exact h4 (by simp)
   ·intro x hx
    rcases jM.1 hx with rfl|hx
    ·simp[UInt8.toNat_ofNat'];omega
    ·exact h5 x hx
   ·simp only[encF,hn,jH,dvl,h7]
    simp[UInt8.toNat_ofNat'];omega
theorem zEh{p:UInt8→Bool}{ini post:List UInt8}{b:UInt8}(h:∀x∈ini,p x=true)(hb:p b=false):(ini++b::post).takeWhile p=ini:=by
 induction ini with
 |nil=>simp[hb]
 |cons y r ih=>
  rw[kQ,List.takeWhile_cons,h y (jJ ..)]
  simp[ih (fun x hx=>h x (jL _ hx))]
theorem zFf{pre post:List UInt8}{n:Nat}(hn:n<18446744073709551616):uintP (pre++(encU n++post)) (pre.length:Int)=((n:Int),((pre.length+(encU n).length:Nat):Int),0):=by
 obtain⟨ini,b,h1,h2,h3,h4,h5,h6,h7⟩:=zFz 9 n (by omega)
 have he:encU n=ini++[b]:=h1
 generalize hl:pre++(encU n++post)=l
 have hll:l.length=pre.length+(ini.length+1)+post.length:=by rw[←hl,he];simp;omega
 have hd:l.drop pre.length=ini++b::post:=by rw[←hl,he];simp
 have hend:uend l pre.length=pre.length+ini.length:=by
  unfold uend
  rw[hd,zEh (fun x hx=>by simp[h5 x hx]) (by simp;omega)]
 have hb:l.getD (pre.length+ini.length) 0=b:=by
  rw[←hl,he];simp[List.getD]
 have hv:uval l pre.length (ini.length+1) 0=n:=by
  rw[zOv _ _ _ _ (by omega) (by omega),hd]
  have:(ini++b::post).take (ini.length+1)=encF 9 n:=by rw[h1];simp[List.take_append,kW]
  rw[this,h7];simp;omega
 have hlast:ini.length=9→b.toNat≤1:=by intro h9;rw[h2,h9];omega
 simp only[uintP]
 rw[if_neg (by omega)]
 simp only[jS,hend,hb]
 have e:pre.length+ini.length-pre.length=ini.length:=by omega
 rw[if_neg (by omega),e,if_neg (by
  rintro(h|h|h)
  ·omega
  ·have:=hlast h.1;omega
  ·have:ini≠[]:=by rintro rfl;simp at h
   have:=h4 this;omega),hv,he]
 simp;omega
end
section
open Go Go.Dc Go.Proofs
def encT(s:ByteArray):List UInt8:=encU s.size++s.data.toList
theorem zMj(n:Nat):encU n≠[]:=by
 unfold encU encF
 split<;>simp
theorem zQm{n m:Nat}{r r':List UInt8}(hn:n<18446744073709551616)(hm:m<18446744073709551616)(h:encU n++r=encU m++r'):n=m∧r=r':=by
 have h1:=zFf (pre:=[]) (post:=r) hn
 have h2:=zFf (pre:=[]) (post:=r') hm
 rw[kF] at h1 h2
 rw[h] at h1
 have e:=h1.symm.trans h2
 have e1:(n:Int)=(m:Int):=congrArg (fun z=>z.1) e
 obtain rfl:n=m:=by omega
 exact⟨rfl,List.append_cancel_left h⟩
theorem zKd{s t:ByteArray}{r r':List UInt8}(hs:s.size<18446744073709551616)(ht:t.size<18446744073709551616)(h:encT s++r=encT t++r'):s=t∧r=r':=by
 unfold encT at h
 rw[jO,jO] at h
 obtain⟨h1,h2⟩:=zQm hs ht h
 have hl:s.data.toList.length=t.data.toList.length:=by simpa using h1
 obtain⟨h3,h4⟩:=List.append_inj h2 hl
 exact⟨ByteArray.ext (Array.ext' h3),h4⟩
def catP(l:List (ByteArray×ByteArray)):List UInt8:=l.flatMap fun f=>encT f.1++encT f.2
theorem zDc:∀{l k:List (ByteArray×ByteArray)},(∀f∈l,f.1.size<18446744073709551616∧f.2.size<18446744073709551616)→(∀f∈k,f.1.size<18446744073709551616∧f.2.size<18446744073709551616)→catP l=catP k→l=k
 |[],[],_,_,_=>rfl
 |[],f::k,_,_,h=>by
  have:=congrArg List.length h
  have h2:=zMj f.1.size
  have h3:0<(encU f.1.size).length:=gZ.2 h2
  simp only[catP,List.flatMap_nil,kP,encT,jF,jE] at this
  omega
 |f::l,[],_,_,h=>by
  have:=congrArg List.length h
  have h2:=zMj f.1.size
  have h3:0<(encU f.1.size).length:=gZ.2 h2
  simp only[catP,List.flatMap_nil,kP,encT,jF,jE] at this
  omega
 |f::l,g::k,hl,hk,h=>by
  obtain⟨f1,f2⟩:=hl f (jJ ..)
  obtain⟨g1,g2⟩:=hk g (jJ ..)
  have h:(encT f.1++encT f.2)++catP l=(encT g.1++encT g.2)++catP k:=h
  rw[jO,jO] at h
  obtain⟨e1,h⟩:=zKd f1 g1 h
  obtain⟨e2,h⟩:=zKd f2 g2 h
  rw[zDc (fun x hx=>hl x (jL _ hx)) (fun x hx=>hk x (jL _ hx)) h]
  rw[show f=g from Prod.ext e1 e2]
end
section
open Go Go.Dc Go.Proofs
abbrev Ld:=ByteArray×Sr
def qWo(pkg:ByteArray)(l:List Ld):List Ld:=l.filter fun x=>decide (x.2.1=pkg)
theorem zJy{kind:Int}{pkg name:ByteArray}(hk:kind≠3)(l:List Ld):entE (qRy l) kind pkg name=entE (qRy (qWo pkg l)) kind pkg name:=by
 unfold entE
 generalize noE kind pkg name=e
 induction l generalizing e with
 |nil=>rfl
 |cons x l ih=>
  unfold qWo at ih ⊢
  rw[show qRy (x::l)=qUr x.1 x.2.1 0 x.2.2.2++qRy l from rfl,fT,fE]
  by_cases h:x.2.1=pkg
  ·rw[if_pos (by simpa using h),show qRy (x::l.filter fun x=>decide (x.2.1=pkg))=qUr x.1 x.2.1 0 x.2.2.2++qRy (l.filter fun x=>decide (x.2.1=pkg)) from rfl,fT,ih]
  ·rw[if_neg (by simpa using h),zUc hk h,ih]
theorem zBl(kind:Int)(pkg name:ByteArray):∀(O:List Occ) (e:Ent),(O.foldl (seeE kind pkg name) e).2.2.2.1=e.2.2.2.1∧(O.foldl (seeE kind pkg name) e).2.2.2.2.2=e.2.2.2.2.2∨(∃o∈O,(O.foldl (seeE kind pkg name) e).2.2.2.1=o.2.2.2.1)∨(O.foldl (seeE kind pkg name) e).2.2.2.1=e.2.2.2.1∧e.2.2.2.2.2≠0
 |[],e=> .inl ⟨rfl,rfl⟩
 |o::O,e=>by
  rw[kZ]
  have hs:(seeE kind pkg name e o=e)∨(seeE kind pkg name e o).2.2.2.1=o.2.2.2.1∨(seeE kind pkg name e o).2.2.2.1=e.2.2.2.1∧e.2.2.2.2.2≠0:=by
   unfold seeE
   split
   ·split
    ·exact .inr (.inl rfl)
    ·rename_i h;exact .inr (.inr ⟨rfl,h⟩)
   ·exact .inl rfl
  rcases zBl kind pkg name O (seeE kind pkg name e o) with ⟨h1,h2⟩|⟨o',ho,h⟩|⟨h1,h2⟩
  ·rcases hs with hs|hs|⟨hs,hn⟩
   ·rw[hs] at h1 h2 ⊢;exact .inl ⟨h1,h2⟩
   ·exact .inr (.inl ⟨o,jJ ..,h1.trans hs⟩)
   ·exact .inr (.inr ⟨h1.trans hs,hn⟩)
  ·exact .inr (.inl ⟨o',jL _ ho,h⟩)
  ·rcases hs with hs|hs|⟨hs,hn⟩
   ·rw[hs] at h1 h2 ⊢;exact .inr (.inr ⟨h1,h2⟩)
   ·exact .inr (.inl ⟨o,jJ ..,h1.trans hs⟩)
   ·exact .inr (.inr ⟨h1.trans hs,hn⟩)
theorem zBm(path pkg:ByteArray):∀(l:List Dl) (i:Nat),∀o∈qUr path pkg i l,o.2.2.2.1=path
 |[],_,o,h=>by cases h
 |d::l,i,o,h=>by
  rcases jM.1 h with rfl|h
  ·rfl
  ·exact zBm path pkg l (i+1) o h
theorem zLm{l:List Ld}{o:Occ}(h:o∈qRy l):∃x∈l,o.2.2.2.1=x.1:=by
 obtain⟨x,hx,ho⟩:=gB.1 h
 exact⟨x,hx,zBm _ _ _ _ _ ho⟩
theorem zMg{l:List Ld}{kind:Int}{pkg name:ByteArray}(h:(entE (qRy l) kind pkg name).2.2.2.2.2≠0):∃x∈l,(entE (qRy l) kind pkg name).2.2.2.1=x.1:=by
 rcases zBl kind pkg name (qRy l) (noE kind pkg name) with ⟨-,h2⟩|⟨o,ho,h1⟩|⟨-,h2⟩
 ·exact absurd h2 h
 ·obtain⟨x,hx,e⟩:=zLm ho
  exact⟨x,hx,h1.trans e⟩
 ·exact absurd rfl h2
def zHn(l:List Ld)(place:ByteArray)(i:Int):Sr×Int:=match l.find? fun x=>decide (x.1=place) with
 |some x=>(x.2,i)
 |none=>(qVg,0)
theorem zAo:∀{l:List Ld},(l.map (·.1)).Nodup→∀x∈l,l.find? (fun y=>decide (y.1=x.1))=some x
 |[],_,x,hx=>by cases hx
 |y::l,hn,x,hx=>by
  rw[k9,gT] at hn
  rcases jM.1 hx with rfl|hx
  ·rw[List.find?_cons_of_pos (by simp)]
  ·have hne:y.1≠x.1:=fun e=>hn.1 (by rw[e];exact gJ hx)
   rw[List.find?_cons_of_neg (by simpa using hne),zAo hn.2 x hx]
theorem zNi{l k:List Ld}{kind:Int}{pkg name:ByteArray}(hk:kind≠3)(hl:(l.map (·.1)).Nodup)(hk2:(k.map (·.1)).Nodup)(h:qWo pkg l=qWo pkg k):
  entE (qRy l) kind pkg name=entE (qRy k) kind pkg name∧((entE (qRy l) kind pkg name).2.2.2.2.2≠0→∀i,zHn l (entE (qRy l) kind pkg name).2.2.2.1 i=zHn k (entE (qRy l) kind pkg name).2.2.2.1 i):=by
 have e1:=zJy (name:=name) (pkg:=pkg) hk l
 have e2:=zJy (name:=name) (pkg:=pkg) hk k
 refine⟨by rw[e1,e2,h],fun hc i=> ?_⟩
 rw[e1] at hc ⊢
 obtain⟨x,hx,hp⟩:=zMg hc
 have hx1:x∈l:=(gM.1 hx).1
 have hx2:x∈k:=by
  rw[h] at hx
  exact(gM.1 hx).1
 unfold zHn
 rw[hp,zAo hl x hx1,zAo hk2 x hx2]
end
section
open Go Go.Dc Go.Proofs
abbrev Pd:=List ByteArray×List Sr
def pdOf(l:List Ld):Pd:=(l.map (·.1),l.map (·.2))
theorem qZc{N:Nat}{l:List Ld}{e:Ent}(hl:l.length≤64)(hN:1000<N):qJj N (pdOf l) e=some (zHn l e.2.2.2.1 e.2.2.2.2.1):=by
 have hlp:=qGo (L:=l) (fun(_:Unit) (i:Nat)=>(i:Int)) (f:=qFw N (pdOf l) e)
  (fun _ x=>if decide (x.1=e.2.2.2.1)=true then .inr (.inr (x.2,e.2.2.2.2.1)) else .inl ()) (fun _=>(.inl ():Unit⊕(Sr×Int))) (fun _ _=>True) (by
   intro t i hi _
   have h1:i<(pdOf l).1.length:=by simpa[pdOf] using hi
   have h2:i<(pdOf l).2.length:=by simpa[pdOf] using hi
   have e1:(pdOf l).1[i]=(l[i]).1:=by simp[pdOf]
   have e2:(pdOf l).2[i]=(l[i]).2:=by simp[pdOf]
   have ew:IntKind.wrap .i64 ((i:Int)+1)=((i+1:Nat):Int):=by rw[wi64 (by omega) (by omega)];omega
   simp only[qFw]
   rw[if_pos (by simp only[jB];omega),qCg h1]
   simp only[jA,qFj,e1,ew]
   rw[qCg h2]
   simp only[jA,e2]
   cases decide ((l[i]).1=e.2.2.2.1)<;>rfl) (fun _ _ _ _ _ _=>trivial) (by
   intro t _
   simp only[qFw]
   rw[if_neg (by simp[pdOf])]) (M:=N) (t:=()) (by omega) trivial
 rw[show((0:Nat):Int)=0 from rfl] at hlp
 have key:∀l:List Ld,run (fun(_:Unit) (x:Ld)=>if decide (x.1=e.2.2.2.1)=true then(.inr (.inr (x.2,e.2.2.2.2.1)):Unit⊕(Unit⊕(Sr×Int))) else .inl ()) (fun _=>(.inl ():Unit⊕(Sr×Int))) l ()=match l.find? fun x=>decide (x.1=e.2.2.2.1) with
   |some x=> .inr (x.2,e.2.2.2.2.1)
   |none=> .inl ():=by
  intro l
  induction l with
  |nil=>rfl
  |cons x l ih=>
   simp only[run]
   by_cases h:x.1=e.2.2.2.1
   ·rw[List.find?_cons_of_pos (by simpa using h),if_pos (by simpa using h)]
   ·rw[List.find?_cons_of_neg (by simpa using h),if_neg (by simpa using h)]
    exact ih
 unfold qJj zHn
 rw[hlp,key]
 simp only[jA]
 cases l.find? fun x=>decide (x.1=e.2.2.2.1) with
 |none=>rfl
 |some x=>rfl
theorem okSr_r{f:Sr}(h:okSr f):SmR f:=⟨by have:=h.1;omega,by have:=h.2.1;omega,fun d hd=>by
 obtain⟨a,b,c⟩:=h.2.2 d hd
 exact⟨by omega,by omega,fun x hx=>by have:=c x hx;omega⟩⟩
theorem zRl{N:Nat}{f:Sr}{i:Int}(hf:okSr f)(hN:3000000<N):Ok (qKn N f i) fun y=>y.1.size≤40000:=by
 unfold qKn
 rw[zMm (okSr_r hf) hN]
 refine Ok.someb (Ok.ite (fun _=>Ok.mk (by show 0≤40000;omega)) fun h0=> ?_)
 have hc:qZo f=0:=by simpa using h0
 have hg:=zRi hc
 refine Ok.bind (P:=fun b=>b=false→0≤i∧i<(f.2.2.length:Int)) (Ok.ite (fun _=>Ok.mk fun h=>by cases h) fun h1=>Ok.mk fun h2=> ?_) fun b hb=> ?_
 ·simp only[jB] at h1
  simp only[decide_eq_false_iff_not] at h2
  omega
 refine Ok.ite (fun _=>Ok.mk (by show 0≤40000;omega)) fun h3=> ?_
 obtain⟨q1,q2⟩:=hb (by simpa using h3)
 obtain⟨k,rfl⟩:∃k:Nat,i=(k:Int):=⟨i.toNat,by omega⟩
 have hk:k<f.2.2.length:=by omega
 have od:=okD_of hg _ (jP hk)
 obtain⟨r1,r2⟩:=zQv hg hN
 have r3:=zPd od
 rw[qCg hk]
 refine Ok.someb ?_
 rw[r1]
 refine Ok.someb ?_
 rw[zRt od hN]
 refine Ok.someb (Ok.cat (by rw[qDh,qDh];omega) fun s hs=>Ok.mk ?_)
 rw[qDh,qDh] at hs
 show s.size≤40000
 omega
structure Ldd(l:List Ld):Prop where
 len:l.length≤64
 nod:(l.map (·.1)).Nodup
 ok:∀x∈l,okSr x.2
theorem Ldd.decs{l:List Ld}(h:Ldd l):∀x∈l,x.2.2.2.length≤64:=fun x hx=>(h.ok x hx).2.1
theorem zRc{l:List Ld}(h:Ldd l)(p:ByteArray)(i:Int):okSr (zHn l p i).1:=by
 unfold zHn
 cases hf:l.find? fun x=>decide (x.1=p) with
 |none=>exact zEc
 |some x=>exact h.ok x (List.mem_of_find?_eq_some hf)
theorem zGa{N:Nat}{l:List Ld}(h:Ldd l)(kind:Int)(pkg name:ByteArray)(hN:3000000<N):Ok (qDd N (pdOf l) kind pkg name) fun s=>s.size≤50000:=by
 unfold qDd
 rw[show qEv N (pdOf l) kind pkg name=_ from qYz kind pkg name h.len h.decs (by omega)]
 refine Ok.someb (Ok.ite (fun _=>Ok.mk (by show 1≤50000;omega)) fun _=>Ok.ite (fun _=>Ok.mk (by show 1≤50000;omega)) fun _=> ?_)
 rw[qZc h.len (by omega)]
 refine Ok.someb (Ok.bind (zRl (zRc h _ _) hN) fun y hy=> ?_)
 have z:(⟨#[61]⟩:ByteArray).size=1:=rfl
 exact Ok.cat (by omega) fun s hs=>Ok.mk (by omega)
theorem zIe{N:Nat}{l k:List Ld}(hl:Ldd l)(hk:Ldd k){kind:Int}{pkg name:ByteArray}(h3:kind≠3)(h:qWo pkg l=qWo pkg k)(hN:3000000<N):qDd N (pdOf l) kind pkg name=qDd N (pdOf k) kind pkg name:=by
 obtain⟨e1,e2⟩:=zNi (name:=name) h3 hl.nod hk.nod h
 unfold qDd
 rw[show qEv N (pdOf l) kind pkg name=_ from qYz kind pkg name hl.len hl.decs (by omega),show qEv N (pdOf k) kind pkg name=_ from qYz kind pkg name hk.len hk.decs (by omega),←e1]
 simp only[jA]
 by_cases hc:(entE (qRy l) kind pkg name).2.2.2.2.2=0
 ·rw[if_pos (by simpa using hc),if_pos (by simpa using hc)]
 ·rw[qZc hl.len (by omega),qZc hk.len (by omega),e2 hc]
def qUf(L:List File)(l:List Ld)(pkg:ByteArray):List (ByteArray×ByteArray):=(qWo pkg l).map fun x=>(x.1,(qRj L x.1).1)
def eqB1:ByteArray:=⟨#[61]⟩
theorem zQp{N:Nat}{L:List File}{l:List Ld}{K:Nat}(pkg:ByteArray)(hl:l.length≤64)(h1:∀x∈l,x.1.size≤100)(h2:∀x∈l,(qRj L x.1).1.size≤K)(hK:K≤100000)(hN:3000000<N):
  qGm N L (pdOf l) pkg=some (eqB1++qFv (catP (qUf L l pkg)))∧(catP (qUf L l pkg)).length≤l.length*(K+120):=by
 have hlen:(catP (qUf L l pkg)).length≤l.length*(K+120):=by
  clear hl
  unfold qUf qWo
  induction l with
  |nil=>simp[catP]
  |cons x l ih=>
   have i1:=ih (fun y hy=>h1 y (jL _ hy)) (fun y hy=>h2 y (jL _ hy))
   have a1:=h1 x (jJ ..)
   have a2:=h2 x (jJ ..)
   have u1:=qMy x.1.size
   have u2:=qMy (qRj L x.1).1.size
   rw[fE,jD,Nat.succ_mul]
   split
   ·rw[k9]
    show(((encT x.1++encT (qRj L x.1).1)++catP _).length)≤_
    simp only[jF,encT,szl]
    omega
   ·omega
 refine⟨?_,hlen⟩
 have hlp:=qGo (L:=l) (fun(t:List UInt8) (i:Nat)=>(t,(i:Int))) (f:=qGe N L (pdOf l) pkg)
  (fun t x=> .inl (if decide (x.2.1=pkg)=true then t++(encT x.1++encT (qRj L x.1).1) else t)) (fun t=>t) (fun i t=>t.length≤i*(K+120)) (by
   intro t i hi hI
   have q1:i<(pdOf l).1.length:=by simpa[pdOf] using hi
   have q2:i<(pdOf l).2.length:=by simpa[pdOf] using hi
   have e1:(pdOf l).1[i]=(l[i]).1:=by simp[pdOf]
   have e2:(pdOf l).2[i]=(l[i]).2:=by simp[pdOf]
   have a1:=h1 _ (jP hi)
   have a2:=h2 _ (jP hi)
   have hm:i*(K+120)≤64*(K+120):=kH _ (by omega)
   have ew:IntKind.wrap .i64 ((i:Int)+1)=((i+1:Nat):Int):=by rw[wi64 (by omega) (by omega)];omega
   have u1:=qMy (l[i]).1.size
   simp only[qGe]
   rw[if_pos (by simp only[jB];omega),qCg q2]
   simp only[jA,qFj,e2,ew]
   by_cases hp:(l[i]).2.1=pkg
   ·rw[if_pos (by simpa using hp),if_pos (by simpa using hp),qCg q1]
    simp only[jA,e1]
    rw[qWt _ (by omega)]
    simp only[jA]
    rw[qOm (by omega) (by omega)]
    simp only[jA]
    rw[qOm (by omega) (by simp only[jF,szl];omega)]
    simp only[jA,encT,jO]
   ·rw[if_neg (by simpa using hp),if_neg (by simpa using hp)]
    rfl) (by
   intro t i hi t' hI hh
   obtain rfl:=(Sum.inl.inj hh).symm
   have a1:=h1 _ (jP hi)
   have a2:=h2 _ (jP hi)
   have u1:=qMy (l[i]).1.size
   have u2:=qMy (qRj L (l[i]).1).1.size
   rw[Nat.succ_mul]
   split
   ·simp only[jF,encT,szl];omega
   ·omega) (by
   intro t _
   simp only[qGe]
   rw[if_neg (by simp[pdOf])]) (M:=N) (t:=[]) (by omega) (by simp)
 rw[show((0:Nat):Int)=0 from rfl] at hlp
 have hm:l.length*(K+120)≤64*(K+120):=kH _ hl
 have z:(⟨#[61]⟩:ByteArray).size=1:=rfl
 have key:∀(l:List Ld) (t:List UInt8),l.foldl (fun t x=>if decide (x.2.1=pkg)=true then t++(encT x.1++encT (qRj L x.1).1) else t) t=t++catP (qUf L l pkg):=by
  intro l
  induction l with
  |nil=>intro t;simp[qUf,qWo,catP]
  |cons x l ih=>
   intro t
   rw[kZ,ih]
   unfold qUf qWo
   rw[fE]
   by_cases hp:x.2.1=pkg
   ·rw[if_pos (by simpa using hp),if_pos (by simpa using hp),k9,jO]
    rfl
   ·rw[if_neg (by simpa using hp),if_neg (by simpa using hp)]
 unfold qGm
 rw[hlp,qSj (fun(t:List UInt8) (x:Ld)=>if decide (x.2.1=pkg)=true then t++(encT x.1++encT (qRj L x.1).1) else t) (fun _ _=>rfl),key,kF]
 simp only[jA]
 rw[catW (by rw[qDh];omega)]
 rfl
end
section
open Go Go.Dc Go.Proofs
theorem zBu{ts:List Tok}{pkg:ByteArray}(hz:∀j,(tkAt ts j).2.1.size<100000):∀(n:Nat) (l:List ByteArray) (i:Nat) (r:Nat×List ByteArray),(∀s∈l,s.size<100000)→qMb ts pkg n l i= .inr r→∀s∈r.2,s.size<100000
 |0,_,_,_,_,h=>by cases h
 |n+1,l,i,r,h1,h=>by
  unfold qMb at h
  split at h
  ·split at h
   ·cases h
   obtain⟨a,ha,h⟩:=qBr h
   split at h
   ·cases h
   obtain⟨j,-,h⟩:=qBr h
   have e:a.2=tkAt ts (i+1):=by
    obtain⟨b,hb,ha⟩:=qBr ha
    split at ha
    ·cases ha
    ·obtain rfl:=Sum.inr.inj ha
     unfold qRn at hb
     split at hb
     ·rw[←Sum.inr.inj hb]
     ·cases hb
   refine zBu hz n _ _ r (fun s hs=> ?_) h
   rcases kL.1 hs with hs|hs
   ·exact h1 s hs
   ·rw[kY.1 hs,e];exact hz _
  ·obtain rfl:=(Sum.inr.inj h).symm
   exact h1
theorem zMr(x:ByteArray):∀s∈(qMv x).1.2.1,s.size<100000:=by
 have h0:∀s∈qVg.2.1,s.size<100000:=fun s hs=>by cases hs
 unfold qMv
 split
 ·exact h0
 ·rename_i hz
  have hz:(qKv x).2.2=0:=by simpa using hz
  split
  ·exact h0
  ·rename_i f hf
   unfold zIk at hf
   obtain⟨i,-,hf⟩:=qBr hf
   obtain⟨a,-,hf⟩:=qBr hf
   obtain⟨j,-,hf⟩:=qBr hf
   obtain⟨b,hb,hf⟩:=qBr hf
   obtain⟨l,-,hf⟩:=qBr hf
   obtain rfl:=(Sum.inr.inj hf).symm
   exact zBu (qWq hz).2.2 _ [] _ b (fun s hs=>by cases hs) hb
theorem qWj{α:Type}[DecidableEq α]:∀{l k:List α},l.Nodup→(∀x∈l,x∈k)→l.length≤k.length
 |[],_,_,_=>k0 _
 |x::l,k,hn,hs=>by
  rw[gT] at hn
  have hx:=hs x (jJ ..)
  have hp:=List.length_pos_of_mem hx
  have ih:=qWj (l:=l) (k:=k.erase x) hn.2 fun y hy=>(List.mem_erase_of_ne (fun e=>hn.1 (by rw[←e];exact hy))).2 (hs y (jL _ hy))
  rw[List.length_erase_of_mem hx] at ih
  rw[jD];omega
def allI(l:List Ld):List ByteArray:=l.flatMap fun x=>x.2.2.1
theorem zJl:∀{l:List Ld},(∀x∈l,okSr x.2)→(allI l).length≤8*l.length
 |[],_=>k0 _
 |x::l,h=>by
  have h1:=(h x (jJ ..)).1
  have ih:=zJl fun y hy=>h y (jL _ hy)
  unfold allI at ih ⊢
  rw[kP,jF,jD];omega
def TrI(l:List Ld)(pkg:ByteArray)(b:Nat)(t:List ByteArray):Prop:=t.Nodup∧(∀x∈t,x∈pkg::allI l)∧pkg∈t∧b≤t.length
theorem TrI.len{l:List Ld}{pkg:ByteArray}{b:Nat}{t:List ByteArray}(hl:Ldd l)(h:TrI l pkg b t):t.length≤8*l.length+1:=by
 have h1:=qWj h.1 h.2.1
 have h2:=zJl hl.ok
 rw[jD] at h1;omega
section
variable {N:Nat} {l:List Ld} {pkg:ByteArray}
theorem zNn{s:ByteArray}{t:List ByteArray}{z:Int}(hl:t.length<1000000):∀(d i M:Nat),i+d=t.length→d<M→
  qAs (qGw N (t,z) s) M (i:Int)=some (if s∈t.drop i then .inr true else .inl ())
 |d,i,0,_,h=>by omega
 |0,i,M+1,h,_=>by
  have:t.drop i=[]:=jQ (by omega)
  simp only[qAs,qGw,this]
  rw[if_neg (by simp only[jB];omega)]
  rfl
 |d+1,i,M+1,h,hM=>by
  have hi:i<t.length:=by omega
  have ih:=zNn (s:=s) (z:=z) hl d (i+1) M (by omega) (by omega)
  have ew:IntKind.wrap .i64 ((i:Int)+1)=((i+1:Nat):Int):=by rw[wi64 (by omega) (by omega)];omega
  simp only[qAs,qGw]
  rw[if_pos (by simp only[jB];omega),qCg hi,jR hi]
  simp only[jA,qFj,jB,jM]
  by_cases hs:t[i]=s
  ·rw[if_pos hs,if_pos (.inl hs.symm)];rfl
  ·rw[if_neg hs]
   simp only[jA,ew,ih]
   by_cases h2:s∈t.drop (i+1)
   ·rw[if_pos h2,if_pos (.inr h2)]
   ·rw[if_neg h2,if_neg (fun h=>h.elim (fun e=>hs e.symm) h2)]
theorem zTh{β:Type}{Q:β→Prop}{g:List ByteArray→Option β}(hN:1000000<N)(hl:Ldd l){x:Ld}(hx:x∈l){s1:List ByteArray×Int}{i b:Nat}(hi:s1.2=(i:Int))(hib:i<b){t:List ByteArray}(ht:TrI l pkg b t)
  (k:∀t,TrI l pkg b t→Ok (g t) Q):Ok ((qAs (qIz N s1 x.2) N (t,0)).bind g) Q:=by
 have him:=(hl.ok x hx).1
 refine Ok.loop (fun s=>0≤s.2∧s.2≤(x.2.2.1.length:Int)∧TrI l pkg b s.1) (fun s=>((x.2.2.1.length:Int)-s.2).toNat) (TrI l pkg b) (fun s hs=> ?_) ⟨f0 _,by simp only;omega,ht⟩ (by simp only;omega) k
 obtain⟨t,j⟩:=s
 obtain⟨j0,j1,ht⟩:=hs
 simp only at j0 j1 ht
 have hll:=hl.len
 have htl:=ht.len hl
 obtain⟨n,rfl⟩:∃n:Nat,j=(n:Int):=⟨j.toNat,by omega⟩
 unfold qIz
 refine Ok.ite (fun hc=> ?_) fun hc=>Ok.mk ht
 have hc:n<x.2.2.1.length:=by simp only[jB] at hc;omega
 have hil:i<t.length:=by have:=ht.2.2.2;omega
 refine Ok.bind (P:=TrI l pkg b) ?_ fun o4 h4=>Ok.mk ?_
 ·rw[qCg hc]
  refine Ok.someb (Ok.bind (P:=fun o=>o=true→x.2.2.1[n]∉t) ?_ fun o5 h5=> ?_)
  ·rw[show s1.2=(i:Int) from hi,show(t,(n:Int)).1=t from rfl,qCg hil]
   refine Ok.someb (Ok.ite (fun _=> ?_) fun _=>Ok.mk fun h=>by cases h)
   have h4:=zNn (N:=N) (s:=x.2.2.1[n]) (z:=(n:Int)) (t:=t) (by omega) t.length 0 N (by omega) (by omega)
   rw[show((0:Nat):Int)=0 from rfl,kA] at h4
   rw[h4]
   by_cases hm:x.2.2.1[n]∈t
   ·rw[if_pos hm]
    exact Ok.mk fun h=>by cases h
   ·rw[if_neg hm]
    exact Ok.mk fun _=>hm
  ·refine Ok.ite (fun h=> ?_) fun _=>Ok.mk ht
   refine Ok.app (by simp only[jD,jE];omega) (by decide) (Ok.mk ?_)
   have hno:=h5 h
   refine⟨?_,fun y hy=> ?_,kS _ ht.2.2.1,by have:=ht.2.2.2;show b≤(t++[x.2.2.1[n]]).length;rw[jF];omega⟩
   ·rw[dI]
    refine⟨ht.1,by simp,fun a ha c hc' e=> ?_⟩
    rw[kY.1 hc'] at e
    exact hno (by rw[←e];exact ha)
   ·rcases kL.1 hy with hy|hy
    ·exact ht.2.1 y hy
    ·rw[kY.1 hy]
     exact jL _ (gB.2 ⟨x,hx,jP hc⟩)
 ·have ew:IntKind.wrap .i64 ((n:Int)+1)=((n+1:Nat):Int):=by rw[wi64 (by omega) (by omega)];omega
  simp only[ew]
  exact⟨⟨by omega,by omega,h4⟩,by omega⟩
theorem zUa{β:Type}{Q:β→Prop}{g:List ByteArray→Option β}(hN:1000000<N)(hl:Ldd l){s1:List ByteArray×Int}{i b:Nat}(hi:s1.2=(i:Int))(hib:i<b){t:List ByteArray}(ht:TrI l pkg b t)
  (k:∀t,TrI l pkg b t→Ok (g t) Q):Ok ((qAs (qJa N (pdOf l) s1) N (t,0)).bind g) Q:=by
 have hll:=hl.len
 have e0:(pdOf l).2.length=l.length:=by simp[pdOf]
 refine Ok.loop (fun s=>0≤s.2∧s.2≤(l.length:Int)∧TrI l pkg b s.1) (fun s=>((l.length:Int)-s.2).toNat) (TrI l pkg b) (fun s hs=> ?_) ⟨f0 _,by simp only;omega,ht⟩ (by simp only;omega) k
 obtain⟨t,j⟩:=s
 obtain⟨j0,j1,ht⟩:=hs
 simp only at j0 j1 ht
 obtain⟨n,rfl⟩:∃n:Nat,j=(n:Int):=⟨j.toNat,by omega⟩
 unfold qJa
 refine Ok.ite (fun hc=> ?_) fun hc=>Ok.mk ht
 have hc:n<(pdOf l).2.length:=by simp only[jB] at hc;omega
 have hcl:n<l.length:=by omega
 rw[qCg hc]
 refine Ok.someb ?_
 rw[show(pdOf l).2[n]=(l[n]).2 by simp[pdOf]]
 refine zTh (x:=l[n]) hN hl (jP hcl) hi hib ht fun o3 h3=>Ok.mk ?_
 have ew:IntKind.wrap .i64 ((n:Int)+1)=((n+1:Nat):Int):=by rw[wi64 (by omega) (by omega)];omega
 simp only[ew]
 exact⟨⟨by omega,by omega,h3⟩,by omega⟩
theorem zSc{t:List ByteArray}{k:Nat}{x y p:ByteArray}(hk:k+1<t.length)(hx:t[k]? =some x)(hy:t[k+1]? =some y)(hp:p∈t):p∈(t.set (k+1) x).set k y:=by
 obtain⟨j,hj⟩:=fO.1 hp
 refine fO.2 ?_
 by_cases h1:j=k
 ·subst h1
  refine⟨j+1,?_⟩
  rw[List.getElem?_set_ne (by omega),List.getElem?_set_self hk,←hx,hj]
 ·by_cases h2:j=k+1
  ·subst h2
   refine⟨k,?_⟩
   rw[List.getElem?_set_self (by rw[dG];omega),←hy,hj]
  ·exact⟨j,by rw[List.getElem?_set_ne (by omega),List.getElem?_set_ne (by omega),hj]⟩
theorem zTc{β:Type}{Q:β→Prop}{g:List ByteArray→Option β}{t S:List ByteArray}{n i:Nat}(hN:1000000<N)(hn:n≤600)(ht:t.length=n)(hp:pkg∈t)(hS:∀x∈t,x∈S)(hi:i<n)
  (k:∀t,t.length=n→pkg∈t→(∀x∈t,x∈S)→Ok (g t) Q):Ok ((qAs (qIr N) N ((i:Int),t)).bind g) Q:=by
 refine Ok.loop (fun s=>∃j:Nat,s.1=(j:Int)∧j<n∧s.2.length=n∧pkg∈s.2∧∀x∈s.2,x∈S) (fun s=>s.1.toNat) (fun t=>t.length=n∧pkg∈t∧∀x∈t,x∈S) (fun s hs=> ?_) ⟨i,rfl,hi,ht,hp,hS⟩ (by simp only;omega) fun t ht=>k t ht.1 ht.2.1 ht.2.2
 obtain⟨z,t⟩:=s
 obtain⟨j,rfl,j1,j2,j3,j4⟩:=hs
 simp only at j2 j3 j4
 unfold qIr
 simp only
 refine Ok.bind (P:=fun o=>o=true→0<j) (Ok.ite (fun hc=> ?_) fun _=>Ok.mk fun h=>by cases h) fun o ho=>Ok.ite (fun h=> ?_) fun _=>Ok.mk ⟨j2,j3,j4⟩
 ·have hc:0<j:=by simp only[jB] at hc;omega
  have ew:IntKind.wrap .i64 ((j:Int)-1)=((j-1:Nat):Int):=by rw[wi64 (by omega) (by omega)];omega
  rw[ew,qCg (show j<t.length by omega)]
  refine Ok.someb ?_
  rw[qCg (show j-1<t.length by omega)]
  exact Ok.mk fun _=>hc
 ·have hc:=ho h
  obtain⟨q,rfl⟩:∃q,j=q+1:=⟨j-1,by omega⟩
  have ew:IntKind.wrap .i64 (((q+1:Nat):Int)-1)=(q:Int):=by rw[wi64 (by omega) (by omega)];omega
  have h1:q+1<t.length:=by omega
  have h0:q<t.length:=by omega
  rw[ew,qCg h0,qCg h1]
  refine Ok.someb (Ok.someb (Ok.someb ?_))
  rw[jS,jS,qCg (show q<(t.set (q+1) t[q]).length by rw[dG];exact h0)]
  refine Ok.mk ⟨⟨q,rfl,by omega,by simp only[dG];exact j2,?_,fun x hx=> ?_⟩,by simp only;omega⟩
  ·exact zSc h1 (List.getElem?_eq_getElem h0) (List.getElem?_eq_getElem h1) j3
  ·rcases List.mem_or_eq_of_mem_set hx with hx|rfl
   ·rcases List.mem_or_eq_of_mem_set hx with hx|rfl
    ·exact j4 x hx
    ·exact j4 _ (jP h0)
   ·exact j4 _ (jP h1)
theorem zTx(hN:1000000<N)(hl:Ldd l)(pkg:ByteArray):Ok (qKm N (pdOf l) pkg) fun t=>pkg∈t∧t.length≤8*l.length+1∧∀x∈t,x∈pkg::allI l:=by
 have hll:=hl.len
 unfold qKm
 refine Ok.loop (fun s=>∃i:Nat,s.2=(i:Int)∧TrI l pkg 1 s.1∧i≤s.1.length) (fun s=>600-s.2.toNat) (TrI l pkg 1) (fun s hs=> ?_) ⟨0,rfl,⟨by simp,fun x hx=>by rw[kY.1 hx];exact jJ ..,kY.2 rfl,jU _⟩,k0 _⟩ (by simp only;omega) fun o1 h1=> ?_
 ·obtain⟨t,z⟩:=s
  obtain⟨i,rfl,ht,hi⟩:=hs
  simp only at ht hi
  have htl:=ht.len hl
  unfold qKo
  refine Ok.ite (fun hc=> ?_) fun hc=>Ok.mk ht
  have hc:i<t.length:=by simp only[jB] at hc;omega
  refine zUa (i:=i) (b:=t.length) hN hl rfl hc ⟨ht.1,ht.2.1,ht.2.2.1,jU _⟩ fun o2 h2=>Ok.mk ?_
  have ew:IntKind.wrap .i64 ((i:Int)+1)=((i+1:Nat):Int):=by rw[wi64 (by omega) (by omega)];omega
  have h3:=h2.2.2.2
  have h4:=h2.len hl
  simp only[ew]
  exact⟨⟨i+1,rfl,⟨h2.1,h2.2.1,h2.2.2.1,by omega⟩,by omega⟩,by omega⟩
 ·have hol:=h1.len hl
  refine Ok.loop (fun s=>∃i:Nat,s.1=(i:Int)∧i≤o1.length∧s.2.length=o1.length∧pkg∈s.2∧∀x∈s.2,x∈pkg::allI l) (fun s=>((o1.length:Int)-s.1).toNat) (fun t=>t.length=o1.length∧pkg∈t∧∀x∈t,x∈pkg::allI l) (fun s hs=> ?_) ⟨0,rfl,k0 _,rfl,h1.2.2.1,h1.2.1⟩ (by simp only;omega) fun o8 h8=>Ok.mk ⟨h8.2.1,by omega,h8.2.2⟩
  obtain⟨z,t⟩:=s
  obtain⟨i,rfl,i1,i2,i3,i4⟩:=hs
  simp only at i2 i3 i4
  unfold qKs
  refine Ok.ite (fun hc=> ?_) fun hc=>Ok.mk ⟨i2,i3,i4⟩
  have hc:i<o1.length:=by simp only[jB] at hc;omega
  refine zTc (i:=i) hN (by omega) i2 i3 i4 hc fun t' t1 t2 t3=>Ok.mk ?_
  have ew:IntKind.wrap .i64 ((i:Int)+1)=((i+1:Nat):Int):=by rw[wi64 (by omega) (by omega)];omega
  simp only[ew]
  exact⟨⟨i+1,rfl,by omega,t1,t2,t3⟩,by omega⟩
end
end
section
open Go Go.Dc Go.Proofs
abbrev Ky3:=Int×ByteArray×ByteArray
abbrev Envt:=List (ByteArray×Int)
structure SmF(L:List File):Prop where
 asc:Asc L
 len:L.length≤20
 ok:∀f∈L,qJi f.1.data.toList=true∧f.2.size≤10000
theorem zNp{L:List File}(h:Asc L):(L.map (·.1)).Nodup:=by
 unfold List.Nodup
 rw[List.pairwise_map]
 exact List.Pairwise.imp (fun {f g} hb e=>by rw[e,qMu] at hb;cases hb) h
theorem qSh{L:List File}(h:SmF L):Ldd (qJl L)∧(qJl L).length≤20∧(∀x∈qJl L,x.1.size≤100)∧(∀x∈qJl L,(qRj L x.1).1.size≤10000)∧∀x∈qJl L,x.2=(qMv (qRj L x.1).1).1:=by
 unfold qJl
 by_cases hc:qPt L=0
 ·rw[if_pos hc]
  have hwf:=(qWh.1 hc).2.1
  have hlen:=zMq L
  have hm:∀x∈qUh L,∃f∈L,x=(f.1,(qMv f.2).1):=fun x hx=>by
   obtain⟨f,h1,-,h2⟩:=zOh hx
   exact⟨f,h1,h2⟩
  have hf:∀f∈L,qRj L f.1=(f.2,true):=fun f hf=>by
   unfold qRj
   rw[if_pos hc,zAh hwf hf]
   rfl
  have h64:=h.len
  refine⟨⟨by omega,?_,fun x hx=> ?_⟩,by omega,fun x hx=> ?_,fun x hx=> ?_,fun x hx=> ?_⟩
  ·have e:(qUh L).map (·.1)=(L.filter zDo).map (·.1):=by unfold qUh;rw[List.map_map];rfl
   rw[e]
   exact(zNp hwf).sublist (List.filter_sublist.map _)
  ·obtain⟨f,-,rfl⟩:=hm x hx
   exact zPe _
  ·obtain⟨f,hm,rfl⟩:=hm x hx
   have:=qRe (h.ok f hm).1
   show f.1.size≤100
   omega
  ·obtain⟨f,hm,rfl⟩:=hm x hx
   rw[hf f hm]
   exact(h.ok f hm).2
  ·obtain⟨f,hm,rfl⟩:=hm x hx
   rw[hf f hm]
 ·rw[if_neg hc]
  exact⟨⟨k0 _,List.nodup_nil,fun x hx=>(by cases hx)⟩,k0 _,fun x hx=>(by cases hx),fun x hx=>(by cases hx),fun x hx=>(by cases hx)⟩
def qPx(L:List File)(pkg:ByteArray):ByteArray:=eqB1++qFv (catP (qUf L (qJl L) pkg))
theorem qTr{N:Nat}{L:List File}(h:SmF L)(pkg:ByteArray)(hN:3000000<N):qGm N L (pdOf (qJl L)) pkg=some (qPx L pkg)∧(qPx L pkg).size≤300000:=by
 obtain⟨h1,h2,h3,h4,-⟩:=qSh h
 obtain⟨f1,f2⟩:=zQp (N:=N) (K:=10000) pkg h1.len h3 h4 (by decide) hN
 refine⟨f1,?_⟩
 have z:eqB1.size=1:=rfl
 have hm:(qJl L).length*(10000+120)≤20*(10000+120):=kH _ h2
 unfold qPx
 rw[ByteArray.size_append,qDh];omega
theorem zKg{a b:List UInt8}(h:eqB1++qFv a=eqB1++qFv b):a=b:=by
 have:=congrArg (fun s:ByteArray=>s.data.toList) h
 simp only[qOk,qHp] at this
 exact List.append_cancel_left this
theorem zOo{L L':List File}(h:SmF L)(h':SmF L'){pkg:ByteArray}(e:qPx L pkg=qPx L' pkg):qWo pkg (qJl L)=qWo pkg (qJl L'):=by
 obtain⟨-,-,a3,a4,a5⟩:=qSh h
 obtain⟨-,-,b3,b4,b5⟩:=qSh h'
 have e1:=zKg e
 have hs:∀{M:List File},(∀x∈qJl M,x.1.size≤100)→(∀x∈qJl M,(qRj M x.1).1.size≤10000)→∀f∈qUf M (qJl M) pkg,f.1.size<18446744073709551616∧f.2.size<18446744073709551616:=fun {M} q1 q2 f hf=>by
  obtain⟨x,hx,rfl⟩:=kU.1 hf
  have hx:=(gM.1 hx).1
  have:=q1 x hx
  have:=q2 x hx
  exact⟨by simp only;omega,by simp only;omega⟩
 have e2:=zDc (hs a3 a4) (hs b3 b4) e1
 have back:∀{M:List File},(∀x∈qJl M,x.2=(qMv (qRj M x.1).1).1)→qWo pkg (qJl M)=(qUf M (qJl M) pkg).map fun y=>(y.1,(qMv y.2).1):=fun {M} q=>by
  unfold qUf
  rw[List.map_map]
  refine(List.map_id _).symm.trans (hZ fun x hx=> ?_)
  have hx:=(gM.1 hx).1
  show x=(x.1,(qMv (qRj M x.1).1).1)
  rw[←q x hx]
 rw[back a5,back b5,e2]
def zHs(env:Envt):Prop:=env.length≤10∧∀v∈env,-9007199254740992≤v.2∧v.2≤9007199254740992
theorem zIt{N:Nat}{env:Envt}(h:zHs env)(s:ByteArray)(hN:1000<N):Ok (qIa N env s) fun y=> -9007199254740992≤y.1∧y.1≤9007199254740992:=by
 have hl:=h.1
 unfold qIa
 refine Ok.loop (fun s=>∃i:Nat,s=(i:Int)∧i≤env.length) (fun s=>env.length-s.toNat) (fun o=>∀y,o= .inr y→-9007199254740992≤y.1∧y.1≤9007199254740992) (fun s hs=> ?_) ⟨0,rfl,k0 _⟩ (by omega) fun o ho=> ?_
 ·obtain⟨i,rfl,hi⟩:=hs
  unfold qIn
  refine Ok.ite (fun hc=> ?_) fun hc=>Ok.mk fun y hy=>by cases hy
  have hc:i<env.length:=by simp only[jB] at hc;omega
  rw[qCg hc]
  refine Ok.someb (Ok.ite (fun _=>Ok.mk fun y hy=> ?_) fun _=>Ok.mk ?_)
  ·obtain rfl:=(Sum.inr.inj hy).symm
   exact h.2 _ (jP hc)
  ·have ew:IntKind.wrap .i64 ((i:Int)+1)=((i+1:Nat):Int):=by rw[wi64 (by omega) (by omega)];omega
   simp only[ew]
   exact⟨⟨i+1,rfl,by omega⟩,by omega⟩
 ·cases o with
  |inl u=>exact Ok.mk ⟨by decide,by decide⟩
  |inr y=>exact Ok.mk (ho y rfl)
theorem zJa{N:Nat}{env:Envt}(hN:1000<N):Ok (qEf N env) fun _=>True:=by
 unfold qEf
 refine Ok.ite (fun _=>Ok.mk trivial) fun hl=> ?_
 have hl:env.length≤16:=by simp only[jB] at hl;omega
 refine Ok.loop (fun s=>∃i:Nat,s=(i:Int)∧i≤env.length) (fun s=>env.length-s.toNat) (fun _=>True) (fun s hs=> ?_) ⟨0,rfl,k0 _⟩ (by omega) fun o _=> ?_
 ·obtain⟨i,rfl,hi⟩:=hs
  unfold qFh
  refine Ok.ite (fun hc=> ?_) fun hc=>Ok.mk trivial
  have hc:i<env.length:=by simp only[jB] at hc;omega
  rw[qCg hc]
  refine Ok.someb ?_
  rw[qPk (by omega)]
  refine Ok.someb ?_
  refine Ok.bind (P:=fun _=>True) (Ok.ite (fun _=>Ok.mk trivial) fun _=>Ok.ite (fun _=>Ok.mk trivial) fun _=>Ok.ite (fun _=>Ok.mk trivial) fun _=>Ok.ite (fun h0=> ?_) fun _=>Ok.mk trivial) fun o _=>Ok.ite (fun _=>Ok.mk trivial) fun _=>Ok.mk ?_
  ·have h0:0<i:=by simp only[jB] at h0;omega
   have ew:IntKind.wrap .i64 ((i:Int)-1)=((i-1:Nat):Int):=by rw[wi64 (by omega) (by omega)];omega
   rw[ew,qCg (show i-1<env.length by omega)]
   exact Ok.mk trivial
  ·have ew:IntKind.wrap .i64 ((i:Int)+1)=((i+1:Nat):Int):=by rw[wi64 (by omega) (by omega)];omega
   simp only[ew]
   exact⟨⟨i+1,rfl,by omega⟩,by omega⟩
 ·cases o<;>exact Ok.mk trivial
section
variable {N:Nat} {L:List File} {env:Envt}
theorem zIj(h:SmF L)(hN:3000000<N){k:Ky3}(hk:k.1=7)(hz:k.2.1.size≤1000):∃t:List ByteArray,k.2.1∈t∧(∀q∈t,q.size≤1000000)∧qBs N L (pdOf (qJl L)) env k=some (eqB1++qFv (catP (t.map fun q=>(q,qPx L q)))):=by
 obtain⟨h1,h2,-,-,h5⟩:=qSh h
 obtain⟨t,ht,m1,m2,m3⟩:=zTx (N:=N) (by omega) h1 k.2.1
 have hs:∀q∈t,q.size≤1000000:=fun q hq=>by
  rcases jM.1 (m3 q hq) with rfl|hq
  ·omega
  ·obtain⟨x,hx,hq⟩:=gB.1 hq
   rw[h5 x hx] at hq
   have:=zMr _ q hq
   omega
 refine⟨t,m1,hs,?_⟩
 unfold qBs
 rw[hk,if_neg (by decide),if_neg (by decide),if_neg (by decide),if_neg (by decide),if_neg (by decide),if_neg (by decide),ht]
 simp only[jA]
 have hlp:=qGo (L:=t) (fun(b:List UInt8) (i:Nat)=>(b,(i:Int))) (f:=qIm N L (pdOf (qJl L)) t)
  (fun b q=> .inl (b++(encT q++encT (qPx L q)))) (fun b=>b) (fun i b=>b.length≤i*2000000) (by
   intro b i hi hI
   have hq:=hs _ (jP hi)
   obtain⟨f1,f2⟩:=qTr (N:=N) h t[i] hN
   have hm:i*2000000≤200*2000000:=kH _ (by omega)
   have u1:=qMy (t[i]).size
   have ew:IntKind.wrap .i64 ((i:Int)+1)=((i+1:Nat):Int):=by rw[wi64 (by omega) (by omega)];omega
   simp only[qIm]
   rw[if_pos (by simp only[jB];omega),qCg hi]
   simp only[jA,ew]
   rw[qOm (by omega) (by omega)]
   simp only[jA,f1]
   rw[qOm (by omega) (by simp only[jF,szl];omega)]
   simp only[jA,encT,jO]) (by
   intro b i hi b' hI hh
   obtain rfl:=(Sum.inl.inj hh).symm
   have hq:=hs _ (jP hi)
   obtain⟨-,f2⟩:=qTr (N:=N) h t[i] hN
   have u1:=qMy (t[i]).size
   have u2:=qMy (qPx L t[i]).size
   rw[Nat.succ_mul]
   simp only[jF,encT,szl];omega) (by
   intro b _
   simp only[qIm]
   rw[if_neg (by simp)]) (M:=N) (t:=[]) (by omega) (by simp)
 rw[show((0:Nat):Int)=0 from rfl] at hlp
 have key:∀(t:List ByteArray) (b:List UInt8),t.foldl (fun b q=>b++(encT q++encT (qPx L q))) b=b++catP (t.map fun q=>(q,qPx L q)):=by
  intro t
  induction t with
  |nil=>intro b;simp[catP]
  |cons q t ih=>
   intro b
   rw[kZ,ih,k9,jO]
   rfl
 have hlen:∀(t:List ByteArray),(∀q∈t,q.size≤1000000)→(catP (t.map fun q=>(q,qPx L q))).length≤t.length*2000000:=by
  intro t
  induction t with
  |nil=>intro _;simp[catP]
  |cons q t ih=>
   intro hq
   have i1:=ih fun x hx=>hq x (jL _ hx)
   have i2:=hq q (jJ ..)
   obtain⟨-,f2⟩:=qTr (N:=N) h q hN
   have u1:=qMy q.size
   have u2:=qMy (qPx L q).size
   rw[k9,jD,Nat.succ_mul]
   show(((encT q++encT (qPx L q))++catP _).length)≤_
   simp only[jF,encT,szl];omega
 have hL:=hlen t hs
 have hm:t.length*2000000≤200*2000000:=kH _ (by omega)
 rw[hlp,qSj (fun b q=>b++(encT q++encT (qPx L q))) (fun _ _=>rfl),key,kF]
 simp only[jA]
 have z:(⟨#[61]⟩:ByteArray).size=1:=rfl
 rw[catW (by rw[qDh];omega)]
 rfl
theorem qWa(h:SmF L)(hN:3000000<N){k:Ky3}(hk:k.1=6):qBs N L (pdOf (qJl L)) env k=some (qPx L k.2.1):=by
 unfold qBs
 rw[hk,if_neg (by decide),if_neg (by decide),if_neg (by decide),if_neg (by decide),if_neg (by decide),if_pos (by decide),(qTr h _ hN).1]
 rfl
theorem zHp(hN:3000000<N){k:Ky3}(hk:k.1=1∨k.1=2):qBs N L (pdOf (qJl L)) env k=qDd N (pdOf (qJl L)) k.1 k.2.1 k.2.2:=by
 unfold qBs
 rcases hk with hk|hk
 ·rw[hk,if_pos (by decide)]
  cases qDd N (pdOf (qJl L)) 1 k.2.1 k.2.2<;>rfl
 ·rw[hk,if_neg (by decide),if_pos (by decide)]
  cases qDd N (pdOf (qJl L)) 2 k.2.1 k.2.2<;>rfl
theorem in_ok(h:SmF L)(he:zHs env)(hN:3000000<N){k:Ky3}(hz:k.2.1.size≤1000)(h1:1≤k.1)(h7:k.1≤7):∃v,qBs N L (pdOf (qJl L)) env k=some v:=by
 obtain⟨l1,l2,-⟩:=qSh h
 have any:∀{x:Option ByteArray} {P:ByteArray→Prop},Ok x P→∃v,x=some v:=fun hx=>⟨hx.choose,hx.choose_spec.1⟩
 have z:(⟨#[61]⟩:ByteArray).size=1:=rfl
 rcases(by omega:(k.1=1∨k.1=2)∨k.1=3∨k.1=4∨k.1=5∨k.1=6∨k.1=7) with hk|hk|hk|hk|hk|hk
 ·rw[zHp hN hk]
  exact any (zGa l1 _ _ _ hN)
 ·unfold qBs
  rw[hk,if_neg (by decide),if_neg (by decide),if_pos (by decide)]
  exact any (Ok.bind (zGa l1 3 _ k.2.1 hN) fun y _=>Ok.mk (Q:=fun _=>True) trivial)
 ·unfold qBs
  rw[hk,if_neg (by decide),if_neg (by decide),if_neg (by decide),if_pos (by decide),qWt _ (by omega)]
  refine any (P:=fun _=>True) (Ok.someb (Ok.ite (fun _=> ?_) fun _=>Ok.mk trivial))
  refine Ok.cat ?_ fun s _=>Ok.mk trivial
  have:(qRj L k.2.1).1.size≤10000:=by
   unfold qRj
   split
   ·cases hg:fget L k.2.1 with
    |none=>show 0≤10000;omega
    |some b=>
     exact(h.ok _ (zQn hg)).2
   ·show 0≤10000;omega
  omega
 ·unfold qBs
  rw[hk,if_neg (by decide),if_neg (by decide),if_neg (by decide),if_neg (by decide),if_pos (by decide)]
  refine any (P:=fun _=>True) (Ok.bind (zIt he _ (by omega)) fun y hy=>Ok.ite (fun _=> ?_) fun _=>Ok.mk trivial)
  rw[qYs hy.1 hy.2 (by omega)]
  have:=zDx hy.1 hy.2
  exact Ok.someb (Ok.cat (by omega) fun s _=>Ok.mk trivial)
 ·exact⟨_,qWa h hN hk⟩
 ·obtain⟨t,-,-,ht⟩:=zIj (env:=env) h hN hk hz
  exact⟨_,ht⟩
end
section
variable {N:Nat} {L L':List File} {env env':Envt}
theorem zLh(h:SmF L)(h':SmF L')(hN:3000000<N){a:ByteArray}{b b':ByteArray}(ha:a.size≤1000)(e:qBs N L (pdOf (qJl L)) env (7,a,b)=qBs N L' (pdOf (qJl L')) env' (7,a,b)):
  qBs N L (pdOf (qJl L)) env (6,a,b')=qBs N L' (pdOf (qJl L')) env' (6,a,b'):=by
 obtain⟨t,t1,t2,t3⟩:=zIj (env:=env) (k:=(7,a,b)) h hN rfl ha
 obtain⟨u,u1,u2,u3⟩:=zIj (env:=env') (k:=(7,a,b)) h' hN rfl ha
 rw[t3,u3] at e
 have e1:=zKg (jZ e)
 have hs:∀{M:List File} (_:SmF M) {w:List ByteArray},(∀q∈w,q.size≤1000000)→∀f∈w.map (fun q=>(q,qPx M q)),f.1.size<18446744073709551616∧f.2.size<18446744073709551616:=fun {M} hM {w} hw f hf=>by
  obtain⟨q,hq,rfl⟩:=kU.1 hf
  have a1:=hw q hq
  have a2:=(qTr (N:=N) hM q hN).2
  exact⟨by simp only;omega,by simp only;omega⟩
 have e2:=zDc (hs h t2) (hs h' u2) e1
 have hm:(a,qPx L a)∈t.map fun q=>(q,qPx L q):=kU.2 ⟨a,t1,rfl⟩
 rw[e2] at hm
 obtain⟨q,-,hq⟩:=kU.1 hm
 have q1:q=a:=congrArg Prod.fst hq
 have q2:qPx L' q=qPx L a:=congrArg Prod.snd hq
 rw[q1] at q2
 rw[qWa (k:=(6,a,b')) h hN rfl,qWa (k:=(6,a,b')) h' hN rfl]
 show some (qPx L a)=some (qPx L' a)
 rw[q2]
theorem zLx(h:SmF L)(h':SmF L')(hN:3000000<N){k:Ky3}(hk:k.1=1∨k.1=2){b:ByteArray}(e:qBs N L (pdOf (qJl L)) env (6,k.2.1,b)=qBs N L' (pdOf (qJl L')) env' (6,k.2.1,b)):
  qBs N L (pdOf (qJl L)) env k=qBs N L' (pdOf (qJl L')) env' k:=by
 rw[qWa (k:=(6,k.2.1,b)) h hN rfl,qWa (k:=(6,k.2.1,b)) h' hN rfl] at e
 have e1:=zOo h h' (jZ e)
 rw[zHp hN hk,zHp hN hk]
 exact zIe (qSh h).1 (qSh h').1 (by omega) e1 hN
end
end
section
open Go Go.Dc Go.Sort Go.Proofs
def qOe{α:Type}[DecidableEq α]:List α→List α
 |[]=>[]
 |[x]=>[x]
 |x::y::l=>if x=y then qOe (y::l) else x::qOe (y::l)
theorem qYm{α:Type}[DecidableEq α]:∀(l:List α) (z:α),z∈qOe l↔z∈l
 |[],z=>Iff.rfl
 |[x],z=>Iff.rfl
 |x::y::l,z=>by
  have ih:=qYm (y::l) z
  simp only[qOe]
  split
  ·rename_i h
   rw[ih,h];simp
  ·rw[jM,ih];simp
def zGc{α:Type}(c:α→α→Int)(l:List α):Prop:=l.Pairwise fun x y=>c x y<0
def Weak{α:Type}(c:α→α→Int)(l:List α):Prop:=l.Pairwise fun x y=>c x y≤0
theorem qXj{α:Type}[DecidableEq α]{c:α→α→Int}(hc:Lin c):∀{l:List α},Weak c l→zGc c (qOe l)
 |[],_=>List.Pairwise.nil
 |[x],_=>by simp[zGc,qOe]
 |x::y::l,h=>by
  obtain⟨h1,h2⟩:=kD.1 h
  have ih:=qXj hc (l:=y::l) h2
  simp only[qOe]
  split
  ·exact ih
  ·rename_i hne
   refine kD.2 ⟨fun z hz=> ?_,ih⟩
   rw[qYm] at hz
   have hxy:c x y<0:=by
    have a:=h1 y (jJ ..)
    have b:=hc.zero x y
    rcases Int.lt_or_eq_of_le a with g|g
    ·exact g
    ·exact absurd (b.1 g) hne
   rcases jM.1 hz with rfl|hz
   ·exact hxy
   ·have hyz:=(kD.1 h2).1 z hz
    rcases Int.lt_or_eq_of_le hyz with g|g
    ·exact hc.trans _ _ _ hxy g
    ·rw[←(hc.zero y z).1 g];exact hxy
theorem zCk{α:Type}{c:α→α→Int}(hc:Lin c):∀{l k:List α},zGc c l→zGc c k→(∀z,z∈l↔z∈k)→l=k
 |[],[],_,_,_=>rfl
 |[],y::k,_,_,h=>by have:=(h y).2 (jJ ..);cases this
 |x::l,[],_,_,h=>by have:=(h x).1 (jJ ..);cases this
 |x::l,y::k,h1,h2,h=>by
  obtain⟨a1,a2⟩:=kD.1 h1
  obtain⟨b1,b2⟩:=kD.1 h2
  have irr:∀z,¬c z z<0:=fun z=>by have:=(hc.zero z z).2 rfl;omega
  have hxy:x=y:=by
   rcases jM.1 ((h x).1 (jJ ..)) with e|e
   ·exact e
   ·rcases jM.1 ((h y).2 (jJ ..)) with g|g
    ·exact g.symm
    ·have p:=b1 x e;have q:=a1 y g
     exact absurd (hc.trans _ _ _ p q) (irr y)
  subst hxy
  have:l=k:=zCk hc a2 b2 fun z=>by
   constructor
   ·intro hz
    rcases jM.1 ((h z).1 (jL _ hz)) with e|e
    ·rw[e] at hz;exact absurd (a1 x hz) (irr x)
    ·exact e
   ·intro hz
    rcases jM.1 ((h z).2 (jL _ hz)) with e|e
    ·rw[e] at hz;exact absurd (b1 x hz) (irr x)
    ·exact e
  rw[this]
theorem zMl{α:Type}{c:α→α→Int}(hc:Lin c)(l:List α):Weak c (l.mergeSort fun x y=> !(ltOf c) y x):=by
 have:=List.pairwise_mergeSort (le:=fun x y=> !(ltOf c) y x) (fun x y z h1 h2=>by
  simp only[fV,ltOf,decide_eq_false_iff_not] at*
  intro h3
  have s:=hc.swo.ntrans z y x (by simpa[ltOf] using h2) (by simpa[ltOf] using h1)
  simp[ltOf] at s;omega) (fun x y=>by
  simp only[fQ,fV,ltOf,decide_eq_false_iff_not]
  have:=hc.anti x y;omega) l
 refine this.imp fun h=> ?_
 rename_i x y
 simp only[fV,ltOf,decide_eq_false_iff_not] at h
 have:=hc.anti y x;have:=hc.anti x y
 omega
theorem zCh{α:Type}[DecidableEq α]:∀(l:List α) (z x:α),qOe (l++[z,x])=if z=x then qOe (l++[z]) else qOe (l++[z])++[x]
 |[],z,x=>by
  simp only[kF,qOe]
  split
  ·rename_i h;simp[h]
  ·simp
 |[a],z,x=>by
  simp only[kQ,kF,qOe]
  by_cases h1:a=z
  ·by_cases h2:z=x<;>simp[h1,h2]
  ·by_cases h2:z=x<;>simp[h1,h2]
 |a::b::l,z,x=>by
  have ih:=zCh (b::l) z x
  simp only[kQ] at ih ⊢
  simp only[qOe]
  by_cases h1:a=b
  ·rw[if_pos h1,if_pos h1];exact ih
  ·rw[if_neg h1,if_neg h1,ih]
   split<;>simp
end
section
open Go Go.Dc Go.Sort Go.Proofs
abbrev Ky:=Int×ByteArray×ByteArray
abbrev cK:Ky→Ky→Int:=lexC cmpI (lexC cmpS cmpS)
theorem zNy:Lin cK:=qUl zEb (qUl qUo qUo)
theorem keyEq(x y:Ky):((x.1==y.1)&&((x.2.1.toList==y.2.1.toList)&&((x.2.2.toList==y.2.2.toList)&&true)))=decide (x=y):=by
 have bt:∀a b:ByteArray,(a.toList==b.toList)=decide (a=b):=fun a b=>by
  rw[kE]
  simp only[kC,jB]
  constructor
  ·intro h
   rw[ByteArray.toList_eq,ByteArray.toList_eq] at h
   exact Go.WideShapes.bytes_inj h
  ·rintro rfl;rfl
 rw[bt,bt,Bool.and_true,kE]
 simp only[jN,kC,jB]
 exact⟨fun h=>Prod.ext h.1 (Prod.ext h.2.1 h.2.2),fun h=>by subst h;exact⟨rfl,rfl,rfl⟩⟩
section
variable {α:Type} [DecidableEq α]
theorem zCj(y:List α)(k:Nat)(hk:k+1<y.length):qOe (y.take (k+2))=if y[k]=y[k+1] then qOe (y.take (k+1)) else qOe (y.take (k+1))++[y[k+1]]:=by
 have e1:y.take (k+1)=y.take k++[y[k]]:=kO (by omega)
 have e2:y.take (k+2)=y.take k++[y[k],y[k+1]]:=by
  rw[kO (show k+1<y.length from hk),e1,jO];rfl
 rw[e2,zCh,←e1]
theorem zQa(y:List α)(h:0<y.length):qOe (y.take 1)=y.take 1:=by
 cases y with
 |nil=>simp at h
 |cons a y=>simp[qOe]
end
theorem zTw{N:Nat}{y:List Ky}{k:Nat}(hlen:y.length<5000000):∀(d j k1 M:Nat) (l:List Ky),k+j+d=y.length→d<M→1≤j→k≤k1→k1+1≤k+j→l.length=y.length→l.drop k1=y.drop k1→l.take k1=qOe (y.take (k+j))→
  ∃(k2:Nat) (l2:List Ky),qAs (qNz N y (k:Int)) M ((k1:Int),(j:Int),l)=some ((k2:Int),l2)∧k2<y.length∧l2.length=y.length∧l2.take k2=qOe y
 |d,j,k1,0,l,_,h,_,_,_,_,_,_=>absurd h (kV _)
 |d,j,k1,M+1,l,h1,h2,h3,h4,h5,h6,h7,h8=>by
  have elen:Int.toNat (List.length y:Int)=y.length:=by simp
  have etk:Int.toNat (k:Int)=k:=by simp
  have get:∀i,k1≤i→(hi:i<y.length)→l[i]? =some y[i]:=fun i hi hl=>by
   have e1:(l.drop k1)[i-k1]? =(y.drop k1)[i-k1]? :=by rw[h7]
   rw[List.getElem?_drop,List.getElem?_drop] at e1
   have:k1+(i-k1)=i:=by omega
   rw[this] at e1
   rw[e1];simp[hl]
  simp only[qAs,qNz,elen,etk]
  rw[kW (by omega)]
  cases d with
  |zero=>
   have hc:¬((j:Int)<((y.length-k:Nat):Int)):=by omega
   simp only[hc,decide_false,jC,jH,jA]
   refine⟨k1,l,rfl,by omega,h6,?_⟩
   rw[h8,kW (by omega)]
  |succ d=>
   have hc:((j:Int)<((y.length-k:Nat):Int)):=by omega
   have w1:IntKind.wrap .i64 ((j:Int)-1)=((j-1:Nat):Int):=by rw[wi64 (by omega) (by omega)];omega
   have w2:IntKind.wrap .i64 ((j:Int)+1)=((j+1:Nat):Int):=by rw[wi64 (by omega) (by omega)];omega
   have w3:IntKind.wrap .i64 ((k1:Int)+1)=((k1+1:Nat):Int):=by rw[wi64 (by omega) (by omega)];omega
   have x3:idx (l.drop k) (j:Int)=some (y[k+j]'(by omega)):=by
    simp only[idx,Int.natCast_nonneg,jI,jS,List.getElem?_drop]
    exact get (k+j) (by omega) (by omega)
   have x4:idx (l.drop k) ((j-1:Nat):Int)=some (y[k+(j-1)]'(by omega)):=by
    simp only[idx,Int.natCast_nonneg,jI,jS,List.getElem?_drop]
    exact get (k+(j-1)) (by omega) (by omega)
   have x6:idx l (k1:Int)=some (l[k1]'(by omega)):=qCg (by omega)
   have ejj:k+(j-1)+1=k+j:=by omega
   have hd:=zCj y (k+(j-1)) (by omega)
   have ed:k+(j-1)+2=k+j+1:=by omega
   simp only[ed,ejj] at hd
   simp only[hc,decide_true,jI,w1,x3,x4,jA,keyEq]
   by_cases heq:y[k+j]'(by omega)=y[k+(j-1)]'(by omega)
   ·simp only[heq,decide_true,kM,jC,jH,jA,w2]
    rw[if_pos heq.symm] at hd
    exact zTw hlen d (j+1) k1 M l (by omega) (by omega) (by omega) h4 (by omega) h6 h7 (by rw[h8,←hd];rfl)
   ·simp only[heq,decide_false,kJ,jI,jA,x6,w3,w2]
    rw[if_neg (fun e=>heq e.symm)] at hd
    refine zTw hlen d (j+1) (k1+1) M _ (by omega) (by omega) (by omega) (by omega) (by omega) (by simpa using h6) ?_ ?_
    ·simp only[jS]
     rw[List.drop_set_of_lt (by omega)]
     have:=congrArg (List.drop 1) h7
     simpa[List.drop_drop] using this
    ·simp only[jS]
     rw[kO (by simp;omega)]
     simp only[List.getElem_set_self]
     rw[List.take_set_of_le (by omega),h8]
     exact hd.symm
theorem outer{N:Nat}{y1 y:List Ky}(hlen:y.length<5000000)(hy1:y1.length=y.length)(hN:y.length<N):∀(d k M:Nat),k+1+d=y.length→d<M→qOe (y.take (k+1))=y.take (k+1)→
  ∃o,qAs (qNu N y1 y) M ((k+1:Nat):Int)=some o∧(o= .inl ()∧qOe y=y∨o= .inr (qOe y))
 |d,k,0,_,h,_=>absurd h (kV _)
 |d,k,M+1,h1,h2,h3=>by
  simp only[qAs,qNu,hy1]
  cases d with
  |zero=>
   have hc:¬(((k+1:Nat):Int)<(y.length:Int)):=by omega
   simp only[hc,decide_false,jC,jH,jA]
   refine⟨_,rfl,.inl ⟨rfl,?_⟩⟩
   rw[kW (by omega)] at h3;exact h3
  |succ d=>
   have hc:(((k+1:Nat):Int)<(y.length:Int)):=by omega
   have w1:IntKind.wrap .i64 (((k+1:Nat):Int)-1)=(k:Int):=by rw[wi64 (by omega) (by omega)];omega
   have w2:IntKind.wrap .i64 (((k+1:Nat):Int)+1)=((k+1+1:Nat):Int):=by rw[wi64 (by omega) (by omega)];omega
   have x1:idx y ((k+1:Nat):Int)=some (y[k+1]'(by omega)):=qCg (by omega)
   have x2:idx y (k:Int)=some (y[k]'(by omega)):=qCg (by omega)
   have hd:=zCj y k (by omega)
   simp only[hc,decide_true,jI,w1,x1,x2,jA,keyEq]
   by_cases heq:y[k+1]'(by omega)=y[k]'(by omega)
   ·rw[if_pos heq.symm] at hd
    simp only[heq,decide_true,jI]
    have hchk:chkS y ((k+1:Nat):Int) (y.length:Int)=some ():=by unfold chkS;rw[if_pos (by omega)]
    obtain⟨k2,l2,e1,e2,e3,e4⟩:=zTw (N:=N) (y:=y) (k:=k+1) hlen (y.length-(k+2)) 1 (k+1) N y (by omega) (by omega) (by omega) (by omega) (by omega) rfl rfl (by rw[show k+1+1=k+2 by omega,hd,h3])
    have e1':qAs (qNz N y ((k+1:Nat):Int)) N (((k+1:Nat):Int),1,y)=some ((k2:Int),l2):=e1
    simp only[hchk,e1',jA]
    have hchk2:chkS l2 (k2:Int) (l2.length:Int)=some ():=by unfold chkS;rw[if_pos (by omega)]
    have hcl:qZw l2 (k2:Int) ((0,(⟨#[]⟩:ByteArray),(⟨#[]⟩:ByteArray)):Ky)=some (l2.take k2++List.replicate (l2.length-k2) (0,(⟨#[]⟩:ByteArray),(⟨#[]⟩:ByteArray))):=by
     unfold qZw;rw[if_pos (by omega)];simp
    have hchk3:chkS (l2.take k2++List.replicate (l2.length-k2) ((0,(⟨#[]⟩:ByteArray),(⟨#[]⟩:ByteArray)):Ky)) 0 (k2:Int)=some ():=by
     unfold chkS;rw[if_pos];simp only[jF,kN,fP];omega
    simp only[hchk2,hcl,hchk3,jA]
    refine⟨_,rfl,.inr ?_⟩
    simp only[jS]
    rw[gA (by simp only[kN];omega),List.take_take,Nat.min_self,e4]
   ·rw[if_neg (fun e=>heq e.symm)] at hd
    simp only[heq,decide_false,jC,jH,w2,jA]
    refine outer hlen hy1 hN d (k+1) M (by omega) (by omega) ?_
    rw[show k+1+1=k+2 by omega,hd,h3,kO (show k+1<y.length by omega)]
theorem zEz{α:Type}[DecidableEq α]:∀l:List α,(qOe l).length≤l.length
 |[]=>jU _
 |[x]=>jU _
 |x::y::l=>by
  have:=zEz (y::l)
  simp only[qOe]
  split
  ·simp only[jD] at*;omega
  ·simp only[jD] at*;omega
def qQv(L:List Ky):List Ky:=qOe (L.mergeSort fun x y=> !(ltOf cK) y x)
theorem qXs(L:List Ky):zGc cK (qQv L):=qXj zNy (zMl zNy L)
theorem qTk{L:List Ky}{z:Ky}:z∈qQv L↔z∈L:=by unfold qQv;rw[qYm];exact List.mem_mergeSort
theorem zFg(L:List Ky):(qQv L).length≤L.length:=by
 have:=zEz (L.mergeSort fun x y=> !(ltOf cK) y x)
 simpa[qQv] using this
theorem zNa{L K:List Ky}(h:∀z,z∈L↔z∈K):qQv L=qQv K:=zCk zNy (qXs L) (qXs K) fun z=>by rw[qTk,qTk];exact h z
theorem zEn{N:Nat}{L:List Ky}(hL:L.length<5000000)(hN:L.length+10<N):qVy N L=some (qQv L):=by
 have hm:(maxLen:Nat)=9223372036854775807:=rfl
 have h1:qEl L=some L:=by
  unfold qEl appM;rw[if_pos (by omega)]
 have h2:qBz N L=some (L.mergeSort fun x y=> !(ltOf cK) y x):=by
  unfold qBz;rw[if_pos (by omega)]
 unfold qQv
 generalize hy:(L.mergeSort fun x y=> !(ltOf cK) y x)=y at h2
 have hly:y.length=L.length:=by rw[←hy];simp
 simp only[qVy,h1,h2,jA]
 by_cases hc:(L.length:Int)<2
 ·simp only[hc,decide_true,jI,jA]
  rcases y with _|⟨a,_|⟨b,y⟩⟩
  ·rfl
  ·rfl
  ·simp only[jD] at hly;omega
 ·simp only[hc,decide_false,jC,jH,jA]
  obtain⟨o,e1,e2⟩:=outer (N:=N) (y1:=L) (y:=y) (by omega) (by omega) (by omega) (y.length-1) 0 N (by omega) (by omega) (zQa y (by omega))
  have e1':qAs (qNu N L y) N 1=some o:=e1
  rcases e2 with ⟨rfl,h⟩|rfl
  ·simp only[e1',jA,h]
  ·simp only[e1',jA]
end
end Go.Proofs.YtfbdkahdgbimeaaGreatDoor
