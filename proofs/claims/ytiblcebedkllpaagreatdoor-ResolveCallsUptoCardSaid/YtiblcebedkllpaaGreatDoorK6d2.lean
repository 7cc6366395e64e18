/- No condition but those of each theorem. -/
import Derived.Test.YtiblcebedkllpaaGreatDoorProg
import Derived.WalkKit
import Derived.Deep.LoopGhost
import Derived.KernelRfl
import Derived.OrdersHeld
import Derived.OrdersIn
import Derived.LoopNIn
import Derived.Sort.LoopGhostIn
import Derived.Laws.AppendOwn
import Derived.RangeFuncLeaves
import Derived.RangeFuncRecord
import Derived.MapKept
import Derived.Maps.RangeRun
import Derived.ChangeKeysEq
import Derived.HandedShaped
import Derived.ChangeStays
import Derived.ChangeSame
import Derived.OpenShut
import Derived.WideShapes
import Derived.JoinedOf
import Derived.ReadAgain
import Derived.ChangeAt
import Derived.RowKit
import Derived.Lib.Overlaps
import Derived.WalkSmall
import Derived.Recover
import Derived.Test.YtiblcebedkllpaaGreatDoorRows
import Derived.Lib.Bytealg
import Derived.Test.YtiblcebedkllpaaGreatDoorK5d2
namespace Go.Proofs.YtiblcebedkllpaaGreatDoor
section
open Go Go.Dc
section
variable {N:Nat} {ts:List Tok} {pr:List ByteArray} {E S:Ps→PM Nat} {d:Int}
variable {r r1 r2 r3 r4:RT→Int→Option (RT×Int)}
theorem zIv{L i:Nat}(h:opC ts L i≠0):(tkAt ts i).1=4:=by
 apply Decidable.byContradiction
 intro hk
 apply h
 unfold opC
 have:opsC.find? (isOp ts L i)=none:=by
  rw[List.find?_eq_none]
  intro o _ ho
  simp only[isOp,jS] at ho
  exact hk (qXk ho.1)
 rw[this]
theorem rmore{f:Int×RT→Option ((Int×RT)⊕(Int×RT))}{L:Nat}(hok:OkT ts)(hS:Adv ts S)
  (hSg:∀p:Ps,p.1<ts.length→p.2.length≤256→∃o,r (gR ts pr p) d=some o∧relR ts pr (S p) o)
  (hSb:∀(z:Flt) (i:Nat) (pr':List ByteArray) (b:List Ex),z.2≠0→i<ts.length→∃v,r (bR ts z i pr' b) d=some (bR ts z i pr' b,v))
  (hfb:∀(z:Flt) (i:Nat) (pr':List ByteArray) (b:List Ex) (v:Int),z.2≠0→f (v,bR ts z i pr' b)=some (.inr (v,bR ts z i pr' b)))
  {n M x:Nat} {p:Ps} (hp:p.1<ts.length) (hb:p.2.length≤256) (hM:0<M) (hL:L≠1) (hop:opC ts L p.1≠0)
  (ih:∀(x:Nat) (q:Ps),q.1<ts.length→p.1<q.1→q.2.length≤256→x<q.2.length→∃o,qAx f M ((x:Int),gR ts pr q)=some o∧relR ts pr (qTr ts L S n x q) (o.2,o.1)):
  ∃o,((r (gR ts pr (p.1+1,p.2)) d).bind fun y6=>(qAs N y6.1 (4,0,opC ts L p.1,⟨#[]⟩,[(x:Int),y6.2]) (tkAt ts p.1).2.2.2).bind fun y7=>qAx f M (y7.2,y7.1))=some o∧relR ts pr (qTr ts L S (n+1) x p) (o.2,o.1):=by
 have g:=hok.next hp (show(tkAt ts p.1).1≠5 by rw[zIv hop];decide)
 obtain⟨o,ho,hr⟩:=hSg (p.1+1,p.2) g hb
 obtain⟨M',rfl⟩:∃M',M=M'+1:=⟨M-1,by omega⟩
 have bad:∀(z:Flt) (i:Nat) (pr':List ByteArray) (b:List Ex) (v:Int),z.2≠0→qAx f (M'+1) (v,bR ts z i pr' b)=some (v,bR ts z i pr' b):=by
  intro z i pr' b v hz
  simp only[qAx,hfb z i pr' b v hz,j0]
 simp only[ho,j0,qTr]
 rw[if_neg hop]
 cases h:S (p.1+1,p.2) with
 |inl z=>
  rw[h] at hr
  obtain⟨hz,i,pr',b,hi,ho1⟩:=hr
  simp only[ho1,qCf]
  obtain⟨v,hv⟩:=zJl (N:=N) (ts:=ts) (pr:=pr') (b:=b) (i:=i) hz (4,0,opC ts L p.1,⟨#[]⟩,[(x:Int),o.2]) (tkAt ts p.1).2.2.2
  simp only[hv,j0,bad _ _ _ _ _ hz]
  exact⟨_,rfl,qNy hz hi⟩
 |inr q=>
  rw[h] at hr
  obtain⟨⟨f1,f2,f3,f4⟩,f5⟩:=hS (p.1+1,p.2) q.1 q.2 g hb h
  have hr':o=(gR ts pr q.1,(q.2:Int)):=hr
  simp only[hr',qCf]
  obtain⟨v,hv⟩:=zJn (N:=N) (ts:=ts) (pr:=pr) (tkAt ts p.1) (4,0,opC ts L p.1,⟨#[]⟩,[(x:Int),(q.2:Int)]) q.1 f4
  simp only[hv,j0]
  cases hn:qMg (tkAt ts p.1) (4,0,opC ts L p.1,⟨#[]⟩,[(x:Int),(q.2:Int)]) q.1 with
  |inl z=>
   simp only[bad _ _ _ _ _ (zFe hn)]
   exact⟨_,rfl,qNy (zFe hn) f2⟩
  |inr s=>
   obtain⟨⟨k1,k2,k3,k4⟩,k5⟩:=qPc (ts:=ts) (p:=p) (r:=q.1) (by simp only at f1;omega) f2 f3 f4 hn
   simp only[if_neg hL]
   exact ih s.2 s.1 k2 k1 k4 k5
theorem rstop{L n x:Nat}{p:Ps}(hop:opC ts L p.1=0):relR ts pr (qTr ts L S (n+1) x p) (gR ts pr p,(x:Int)):=by
 simp only[qTr]
 rw[if_pos hop]
 rfl
theorem zCi(z:Flt)(i:Nat)(pr':List ByteArray)(b:List Ex)(v:Int)(hz:z.2≠0):qCk N r d (v,bR ts z i pr' b)=some (.inr (v,bR ts z i pr' b)):=by
 have g0:((bR ts z i pr' b).2.2.2.1==0)=false:=by simpa[bR] using hz
 simp only[qCk,g0,jA,jE,Prod.eta]
theorem zGa(z:Flt)(i:Nat)(pr':List ByteArray)(b:List Ex)(v:Int)(hz:z.2≠0):qCu N r d (v,bR ts z i pr' b)=some (.inr (v,bR ts z i pr' b)):=by
 have g0:((bR ts z i pr' b).2.2.2.1==0)=false:=by simpa[bR] using hz
 simp only[qCu,g0,jA,jE,Prod.eta]
theorem qZw(hok:OkT ts)(hl:ts.length<1000000)(hS:Adv ts S)
  (hSg:∀p:Ps,p.1<ts.length→p.2.length≤256→∃o,r (gR ts pr p) d=some o∧relR ts pr (S p) o)
  (hSb:∀(z:Flt) (i:Nat) (pr':List ByteArray) (b:List Ex),z.2≠0→i<ts.length→∃v,r (bR ts z i pr' b) d=some (bR ts z i pr' b,v)):
  ∀(n M x:Nat) (p:Ps),p.1<ts.length→p.2.length≤256→x<p.2.length→ts.length<p.1+n→ts.length+1<p.1+M→
  ∃o,qAx (qCk N r d) M ((x:Int),gR ts pr p)=some o∧relR ts pr (qTr ts 3 S n x p) (o.2,o.1)
 |0,M,x,p,hp,_,_,h,_=>by omega
 |n+1,0,x,p,hp,_,_,_,h=>by omega
 |n+1,M+1,x,p,hp,hb,hx,hn,hM=>by
  have g0:((gR ts pr p).2.2.2.1==0)=true:=rfl
  have ih:∀(x:Nat) (q:Ps),q.1<ts.length→p.1<q.1→q.2.length≤256→x<q.2.length→∃o,qAx (qCk N r d) M ((x:Int),gR ts pr q)=some o∧relR ts pr (qTr ts 3 S n x q) (o.2,o.1):=
   fun x q h1 h2 h3 h4=>qZw hok hl hS hSg hSb n M x q h1 h3 h4 (by omega) (by omega)
  have go:=fun hop=>rmore (N:=N) (n:=n) (x:=x) hok hS hSg hSb (zCi (N:=N) (r:=r) (d:=d)) hp hb (show 0<M by omega) (show 3≠1 by decide) hop ih
  have h3:=op_3 (ts:=ts) (i:=p.1)
  rcases qEf (isC ts 4 ⟨#[42]⟩ p.1) with c1|c1
  ·simp only[c1,jH] at h3
   obtain⟨o,ho,hr⟩:=go (by rw[h3];decide)
   refine⟨o,Eq.trans ?_ ho,hr⟩
   simp only[qAx,qCk,Prod.eta,g0,jH,qKj p hp,qLn p hp hl,j0,c1,h3]
   cases r (gR ts pr (p.1+1,p.2)) d with
   |none=>rfl
   |some y=>simp only[j0];cases qAs N y.1 (4,0,3,⟨#[]⟩,[(x:Int),y.2]) (tkAt ts p.1).2.2.2<;>rfl
  rcases qEf (isC ts 4 ⟨#[47]⟩ p.1) with c2|c2
  ·simp only[c1,c2,jH,jA,jE] at h3
   obtain⟨o,ho,hr⟩:=go (by rw[h3];decide)
   refine⟨o,Eq.trans ?_ ho,hr⟩
   simp only[qAx,qCk,Prod.eta,g0,jH,qKj p hp,qLn p hp hl,j0,c1,c2,h3,jA,jE]
   cases r (gR ts pr (p.1+1,p.2)) d with
   |none=>rfl
   |some y=>simp only[j0];cases qAs N y.1 (4,0,4,⟨#[]⟩,[(x:Int),y.2]) (tkAt ts p.1).2.2.2<;>rfl
  rcases qEf (isC ts 4 ⟨#[37]⟩ p.1) with c3|c3
  ·simp only[c1,c2,c3,jH,jA,jE] at h3
   obtain⟨o,ho,hr⟩:=go (by rw[h3];decide)
   refine⟨o,Eq.trans ?_ ho,hr⟩
   simp only[qAx,qCk,Prod.eta,g0,jH,qKj p hp,qLn p hp hl,j0,c1,c2,c3,h3,jA,jE]
   cases r (gR ts pr (p.1+1,p.2)) d with
   |none=>rfl
   |some y=>simp only[j0];cases qAs N y.1 (4,0,5,⟨#[]⟩,[(x:Int),y.2]) (tkAt ts p.1).2.2.2<;>rfl
  simp only[c1,c2,c3,jA,jE] at h3
  simp only[qAx,qCk,Prod.eta,g0,jH,qKj p hp,qLn p hp hl,j0,c1,c2,c3,jA,jE]
  exact⟨_,rfl,rstop h3⟩
theorem zDs(hok:OkT ts)(hl:ts.length<1000000)(hS:Adv ts S)
  (hSg:∀p:Ps,p.1<ts.length→p.2.length≤256→∃o,r (gR ts pr p) d=some o∧relR ts pr (S p) o)
  (hSb:∀(z:Flt) (i:Nat) (pr':List ByteArray) (b:List Ex),z.2≠0→i<ts.length→∃v,r (bR ts z i pr' b) d=some (bR ts z i pr' b,v)):
  ∀(n M x:Nat) (p:Ps),p.1<ts.length→p.2.length≤256→x<p.2.length→ts.length<p.1+n→ts.length+1<p.1+M→
  ∃o,qAx (qCu N r d) M ((x:Int),gR ts pr p)=some o∧relR ts pr (qTr ts 2 S n x p) (o.2,o.1)
 |0,M,x,p,hp,_,_,h,_=>by omega
 |n+1,0,x,p,hp,_,_,_,h=>by omega
 |n+1,M+1,x,p,hp,hb,hx,hn,hM=>by
  have g0:((gR ts pr p).2.2.2.1==0)=true:=rfl
  have ih:∀(x:Nat) (q:Ps),q.1<ts.length→p.1<q.1→q.2.length≤256→x<q.2.length→∃o,qAx (qCu N r d) M ((x:Int),gR ts pr q)=some o∧relR ts pr (qTr ts 2 S n x q) (o.2,o.1):=
   fun x q h1 h2 h3 h4=>zDs hok hl hS hSg hSb n M x q h1 h3 h4 (by omega) (by omega)
  have go:=fun hop=>rmore (N:=N) (n:=n) (x:=x) hok hS hSg hSb (zGa (N:=N) (r:=r) (d:=d)) hp hb (show 0<M by omega) (show 2≠1 by decide) hop ih
  have h3:=op_2 (ts:=ts) (i:=p.1)
  rcases qEf (isC ts 4 ⟨#[43]⟩ p.1) with c1|c1
  ·simp only[c1,jH] at h3
   obtain⟨o,ho,hr⟩:=go (by rw[h3];decide)
   refine⟨o,Eq.trans ?_ ho,hr⟩
   simp only[qAx,qCu,Prod.eta,g0,jH,qKj p hp,qLn p hp hl,j0,c1,h3]
   cases r (gR ts pr (p.1+1,p.2)) d with
   |none=>rfl
   |some y=>simp only[j0];cases qAs N y.1 (4,0,1,⟨#[]⟩,[(x:Int),y.2]) (tkAt ts p.1).2.2.2<;>rfl
  rcases qEf (isC ts 4 ⟨#[45]⟩ p.1) with c2|c2
  ·simp only[c1,c2,jH,jA,jE] at h3
   obtain⟨o,ho,hr⟩:=go (by rw[h3];decide)
   refine⟨o,Eq.trans ?_ ho,hr⟩
   simp only[qAx,qCu,Prod.eta,g0,jH,qKj p hp,qLn p hp hl,j0,c1,c2,h3,jA,jE]
   cases r (gR ts pr (p.1+1,p.2)) d with
   |none=>rfl
   |some y=>simp only[j0];cases qAs N y.1 (4,0,2,⟨#[]⟩,[(x:Int),y.2]) (tkAt ts p.1).2.2.2<;>rfl
  simp only[c1,c2,jA,jE] at h3
  simp only[qAx,qCu,Prod.eta,g0,jH,qKj p hp,qLn p hp hl,j0,c1,c2,jA,jE]
  exact⟨_,rfl,rstop h3⟩
theorem rterm(hok:OkT ts)(hl:ts.length<1000000)(hN:1000002<N)(hS:Adv ts S)
  (h1:∀p:Ps,p.1<ts.length→p.2.length≤256→∃o,r1 (gR ts pr p) d=some o∧relR ts pr (S p) o)
  (h1b:∀(z:Flt) (i:Nat) (pr':List ByteArray) (b:List Ex),z.2≠0→i<ts.length→∃v,r1 (bR ts z i pr' b) d=some (bR ts z i pr' b,v))
  (p:Ps) (hp:p.1<ts.length) (hb:p.2.length≤256):∃o,qDp N r1 r2 r3 r4 (gR ts pr p) d=some o∧relR ts pr (qSo ts 3 S p) o:=by
 obtain⟨o,ho,hr⟩:=h1 p hp hb
 simp only[qDp,Prod.eta,ho,j0,qSo]
 cases h:S p with
 |inl z=>
  rw[h] at hr
  obtain⟨hz,i,pr',b,hi,ho1⟩:=hr
  obtain⟨M,rfl⟩:∃M,N=M+1:=⟨N-1,by omega⟩
  simp only[ho1,qCf,qAx,zCi z i pr' b _ hz,j0]
  exact⟨_,rfl,qNy hz hi⟩
 |inr q=>
  rw[h] at hr
  obtain⟨⟨f1,f2,f3,f4⟩,f5⟩:=hS p q.1 q.2 hp hb h
  have hr':o=(gR ts pr q.1,(q.2:Int)):=hr
  obtain⟨o2,ho2,hr2⟩:=qZw (N:=N) hok hl hS h1 h1b (ts.length+1) N q.2 q.1 f2 f4 f5 (by omega) (by omega)
  simp only[hr',qCf,ho2,j0]
  exact⟨_,rfl,hr2⟩
theorem zNy(h1b:∀(z:Flt) (i:Nat) (pr':List ByteArray) (b:List Ex),z.2≠0→i<ts.length→∃v,r1 (bR ts z i pr' b) d=some (bR ts z i pr' b,v))(hN:0<N)
  (z:Flt) (i:Nat) (pr':List ByteArray) (b:List Ex) (hz:z.2≠0) (hi:i<ts.length):∃v,qDp N r1 r2 r3 r4 (bR ts z i pr' b) d=some (bR ts z i pr' b,v):=by
 obtain⟨v,hv⟩:=h1b z i pr' b hz hi
 obtain⟨M,rfl⟩:∃M,N=M+1:=⟨N-1,by omega⟩
 simp only[qDp,Prod.eta,hv,j0,qAx,zCi z i pr' b _ hz]
 exact⟨_,rfl⟩
theorem rsum(hok:OkT ts)(hl:ts.length<1000000)(hN:1000002<N)(hS:Adv ts S)
  (h2:∀p:Ps,p.1<ts.length→p.2.length≤256→∃o,r2 (gR ts pr p) d=some o∧relR ts pr (S p) o)
  (h2b:∀(z:Flt) (i:Nat) (pr':List ByteArray) (b:List Ex),z.2≠0→i<ts.length→∃v,r2 (bR ts z i pr' b) d=some (bR ts z i pr' b,v))
  (p:Ps) (hp:p.1<ts.length) (hb:p.2.length≤256):∃o,qDv N r1 r2 r3 r4 (gR ts pr p) d=some o∧relR ts pr (qSo ts 2 S p) o:=by
 obtain⟨o,ho,hr⟩:=h2 p hp hb
 simp only[qDv,Prod.eta,ho,j0,qSo]
 cases h:S p with
 |inl z=>
  rw[h] at hr
  obtain⟨hz,i,pr',b,hi,ho1⟩:=hr
  obtain⟨M,rfl⟩:∃M,N=M+1:=⟨N-1,by omega⟩
  simp only[ho1,qCf,qAx,zGa z i pr' b _ hz,j0]
  exact⟨_,rfl,qNy hz hi⟩
 |inr q=>
  rw[h] at hr
  obtain⟨⟨f1,f2,f3,f4⟩,f5⟩:=hS p q.1 q.2 hp hb h
  have hr':o=(gR ts pr q.1,(q.2:Int)):=hr
  obtain⟨o2,ho2,hr2⟩:=zDs (N:=N) hok hl hS h2 h2b (ts.length+1) N q.2 q.1 f2 f4 f5 (by omega) (by omega)
  simp only[hr',qCf,ho2,j0]
  exact⟨_,rfl,hr2⟩
theorem rsum_b(h2b:∀(z:Flt) (i:Nat) (pr':List ByteArray) (b:List Ex),z.2≠0→i<ts.length→∃v,r2 (bR ts z i pr' b) d=some (bR ts z i pr' b,v))(hN:0<N)
  (z:Flt) (i:Nat) (pr':List ByteArray) (b:List Ex) (hz:z.2≠0) (hi:i<ts.length):∃v,qDv N r1 r2 r3 r4 (bR ts z i pr' b) d=some (bR ts z i pr' b,v):=by
 obtain⟨v,hv⟩:=h2b z i pr' b hz hi
 obtain⟨M,rfl⟩:∃M,N=M+1:=⟨N-1,by omega⟩
 simp only[qDv,Prod.eta,hv,j0,qAx,zGa z i pr' b _ hz]
 exact⟨_,rfl⟩
theorem zPe(z:Flt)(i:Nat)(pr':List ByteArray)(b:List Ex)(hz:z.2≠0)(hi:i<ts.length):qCx N r1 r2 r3 r4 (bR ts z i pr' b) d=some (bR ts z i pr' b,0):=by
 have g0:((bR ts z i pr' b).2.2.2.1 !=0)=true:=by simpa[bR] using hz
 simp only[qCx,Prod.eta,qQe hi,j0,qOd hz]
 have:((if decide (d>32)=true then some (bR ts z i pr' b) else some (bR ts z i pr' b)):Option RT)=some (bR ts z i pr' b):=by split<;>rfl
 simp only[this,j0,g0,jH]
theorem zOo(hd:d>32)(p:Ps)(hp:p.1<ts.length):∃o,qCx N r1 r2 r3 r4 (gR ts pr p) d=some o∧relR ts pr (qHp ts pr 0 p) o:=by
 have hd':decide (d>32)=true:=by simpa using hd
 simp only[qCx,Prod.eta,qKj p hp,j0,hd',jH,qLa]
 have g0:((bR ts ((tkAt ts p.1).2.2.2,2) p.1 pr p.2).2.2.2.1 !=0)=true:=by rfl
 simp only[g0,jH]
 exact⟨_,rfl,qNy (show(2:Int)≠0 by decide) hp⟩
theorem rexpr{k:Nat}(hok:OkT ts)(hl:ts.length<1000000)(hd:d+k=32)(hA:Adv ts (qHp ts pr k))(hS:Adv ts (sumC ts pr (qHp ts pr k)))
  (hEg:∀p:Ps,p.1<ts.length→p.2.length≤256→∃o,r4 (gR ts pr p) (IntKind.wrap .i64 (d+1))=some o∧relR ts pr (qHp ts pr k p) o)
  (hEb:∀(z:Flt) (i:Nat) (pr':List ByteArray) (b:List Ex),z.2≠0→i<ts.length→∃v,r4 (bR ts z i pr' b) (IntKind.wrap .i64 (d+1))=some (bR ts z i pr' b,v))
  (h3:∀p:Ps,p.1<ts.length→p.2.length≤256→∃o,r3 (gR ts pr p) d=some o∧relR ts pr (sumC ts pr (qHp ts pr k) p) o)
  (h3b:∀(z:Flt) (i:Nat) (pr':List ByteArray) (b:List Ex),z.2≠0→i<ts.length→∃v,r3 (bR ts z i pr' b) d=some (bR ts z i pr' b,v))
  (p:Ps) (hp:p.1<ts.length) (hb:p.2.length≤256):∃o,qCx N r1 r2 r3 r4 (gR ts pr p) d=some o∧relR ts pr (qHp ts pr (k+1) p) o:=by
 have hd':decide (d>32)=false:=jQ (by omega)
 have g0:((gR ts pr p).2.2.2.1 !=0)=false:=rfl
 simp only[qCx,Prod.eta,qKj p hp,j0,hd',jA,jE,g0,qMq p hp hl,qHp]
 rcases qEf (isC ts 1 sIf p.1) with c1|c1
 rotate_left
 ·have c1':isC ts 1 ⟨#[105,102]⟩ p.1=false:=c1
  simp only[c1,c1',jA,jE]
  obtain⟨o,ho,hr⟩:=h3 p hp hb
  simp only[ho,j0,qUz,qSo]
  cases h:sumC ts pr (qHp ts pr k) p with
  |inl z=>
   rw[h] at hr
   obtain⟨hz,i,pr',b,hi,ho1⟩:=hr
   simp only[ho1,qQe hi,zBq hz,j0,jA,jE,qCf]
   exact⟨_,rfl,qNy hz hi⟩
  |inr q=>
   rw[h] at hr
   obtain⟨⟨f1,f2,f3,f4⟩,f5⟩:=hS p q.1 q.2 hp hb h
   have hr':o=(gR ts pr q.1,(q.2:Int)):=hr
   simp only[hr',qKj q.1 f2,qLn q.1 f2 hl,j0,qCf,qTr]
   have go:∀op,op≠0→opC ts 1 q.1.1=op→∃o,((r3 (gR ts pr (q.1.1+1,q.1.2)) d).bind fun y18=>(qAs N y18.1 (4,0,op,⟨#[]⟩,[(q.2:Int),y18.2]) (tkAt ts q.1.1).2.2.2).bind fun y19=>some y19)=some o∧
     relR ts pr (if opC ts 1 q.1.1=0 then .inr (q.1,q.2) else qCf (sumC ts pr (qHp ts pr k) (q.1.1+1,q.1.2)) fun a=>qCf (qMg (tkAt ts q.1.1) (4,0,opC ts 1 q.1.1,⟨#[]⟩,[(q.2:Int),(a.2:Int)]) a.1) fun r=> .inr r) o:=by
    intro op hne hop
    have g:=hok.next f2 (show(tkAt ts q.1.1).1≠5 by rw[zIv (L:=1) (by rw[hop];exact hne)];decide)
    obtain⟨o2,ho2,hr2⟩:=h3 (q.1.1+1,q.1.2) g f4
    rw[hop,if_neg hne]
    simp only[ho2,j0,obs]
    cases h2:sumC ts pr (qHp ts pr k) (q.1.1+1,q.1.2) with
    |inl z=>
     rw[h2] at hr2
     obtain⟨hz,i,pr',b,hi,ho1⟩:=hr2
     simp only[ho1,qCf]
     exact qTj hz hi _ _
    |inr a=>
     rw[h2] at hr2
     obtain⟨⟨j1,j2,j3,j4⟩,j5⟩:=hS (q.1.1+1,q.1.2) a.1 a.2 g f4 h2
     have hr2':o2=(gR ts pr a.1,(a.2:Int)):=hr2
     simp only[hr2',qCf]
     obtain⟨o3,ho3,hr3⟩:=qRj (N:=N) (pr:=pr) (tkAt ts q.1.1) (4,0,op,⟨#[]⟩,[(q.2:Int),(a.2:Int)]) a.1 j2 j4
     refine⟨o3,ho3,?_⟩
     cases hn:qMg (tkAt ts q.1.1) (4,0,op,⟨#[]⟩,[(q.2:Int),(a.2:Int)]) a.1<;>rw[hn] at hr3<;>exact hr3
   have h1:=op_1 (ts:=ts) (i:=q.1.1)
   rcases qEf (isC ts 4 ⟨#[60]⟩ q.1.1) with c2|c2
   ·simp only[c2,jH] at h1
    obtain⟨o4,ho4,hr4⟩:=go 6 (by decide) h1
    simp only[c2,jH,j0]
    exact⟨o4,ho4,by simpa only[qCf] using hr4⟩
   rcases qEf (isC ts 4 ⟨#[61,61]⟩ q.1.1) with c3|c3
   ·simp only[c2,c3,jH,jA,jE] at h1
    obtain⟨o4,ho4,hr4⟩:=go 7 (by decide) h1
    simp only[c2,c3,jH,j0,jA,jE,qLn q.1 f2 hl]
    exact⟨o4,ho4,by simpa only[qCf] using hr4⟩
   ·simp only[c2,c3,jA,jE] at h1
    simp only[c2,c3,j0,jA,jE,qLn q.1 f2 hl]
    rw[if_pos h1]
    exact⟨_,rfl,rfl⟩
 have c1':isC ts 1 ⟨#[105,102]⟩ p.1=true:=c1
 have g:=qFf hok hp (by decide) c1
 simp only[c1,c1',jH]
 -- behind an error
 have badN:∀{z:Flt} {i:Nat} {pr':List ByteArray} {b:List Ex} (x y w:Int),z.2≠0→i<ts.length→∃o,((qAs N (bR ts z i pr' b) (5,0,0,⟨#[]⟩,[x,y,w]) (tkAt ts p.1).2.2.2).bind fun y13=>some y13)=some o∧relR ts pr (.inl z) o:=by
  intro z i pr' b x y w hz hi
  simp only[obs]
  exact qTj hz hi _ _
 have nf:∀b:Bool,(if(!b)=true then(0:Nat) else 1)=if b=true then 1 else 0:=by intro b;cases b<;>rfl
 obtain⟨oa,hoa,hra⟩:=hEg (p.1+1,p.2) g hb
 simp only[hoa,j0]
 cases ha:qHp ts pr k (p.1+1,p.2) with
 |inl z=>
  rw[ha] at hra
  obtain⟨hz,i,pr',b,hi,ho1⟩:=hra
  obtain⟨v,hv⟩:=hEb z i pr' b hz hi
  simp only[ho1,zGb hz,j0,jW,jH,qQe hi,qOd hz,hv,qCf]
  exact badN _ _ _ hz hi
 |inr a=>
  rw[ha] at hra
  obtain⟨⟨a1,a2,a3,a4⟩,a5⟩:=hA (p.1+1,p.2) a.1 a.2 g hb ha
  have hra':oa=(gR ts pr a.1,(a.2:Int)):=hra
  have hth:qVy ts zJi a.1.1=if isC ts 1 ⟨#[116,104,101,110]⟩ a.1.1=true then .inr (a.1.1+1) else qGy (tkAt ts a.1.1) 9:=rfl
  simp only[hra',qMq a.1 a2 hl,j0,qCf,hth]
  rcases qEf (isC ts 1 ⟨#[116,104,101,110]⟩ a.1.1) with c2|c2
  rotate_left
  ·have hz:(((tkAt ts a.1.1).2.2.2,(9:Int)):Flt).2≠0:=show(9:Int)≠0 by decide
   obtain⟨v,hv⟩:=hEb ((tkAt ts a.1.1).2.2.2,9) a.1.1 pr a.1.2 hz a2
   simp only[c2,jA,jE,jW,jH,qKj a.1 a2,qLa,j0,hv,zGb hz,qQe a2,qOd hz,qGy]
   exact badN _ _ _ hz a2
  have g1:=qFf hok a2 (by decide) c2
  obtain⟨ob,hob,hrb⟩:=hEg (a.1.1+1,a.1.2) g1 a4
  simp only[c2,jH,k7,jA,jE,j0,hob]
  cases hb1:qHp ts pr k (a.1.1+1,a.1.2) with
  |inl z=>
   rw[hb1] at hrb
   obtain⟨hz,i,pr',b,hi,ho1⟩:=hrb
   obtain⟨v,hv⟩:=hEb z i pr' b hz hi
   simp only[ho1,zGb hz,j0,jW,jH,qQe hi,qOd hz,hv]
   exact badN _ _ _ hz hi
  |inr b=>
   rw[hb1] at hrb
   obtain⟨⟨b1,b2,b3,b4⟩,b5⟩:=hA (a.1.1+1,a.1.2) b.1 b.2 g1 a4 hb1
   have hrb':ob=(gR ts pr b.1,(b.2:Int)):=hrb
   have hel:qVy ts zKh b.1.1=if isC ts 1 ⟨#[101,108,115,101]⟩ b.1.1=true then .inr (b.1.1+1) else qGy (tkAt ts b.1.1) 9:=rfl
   simp only[hrb',qMq b.1 b2 hl,j0,hel]
   rcases qEf (isC ts 1 ⟨#[101,108,115,101]⟩ b.1.1) with c3|c3
   rotate_left
   ·have hz:(((tkAt ts b.1.1).2.2.2,(9:Int)):Flt).2≠0:=show(9:Int)≠0 by decide
    obtain⟨v,hv⟩:=hEb ((tkAt ts b.1.1).2.2.2,9) b.1.1 pr b.1.2 hz b2
    simp only[c3,jA,jE,jW,jH,qKj b.1 b2,qLa,j0,hv,qGy]
    exact badN _ _ _ hz b2
   have g2:=qFf hok b2 (by decide) c3
   obtain⟨oc,hoc,hrc⟩:=hEg (b.1.1+1,b.1.2) g2 b4
   simp only[c3,jH,k7,jA,jE,j0,hoc]
   cases hc1:qHp ts pr k (b.1.1+1,b.1.2) with
   |inl z=>
    rw[hc1] at hrc
    obtain⟨hz,i,pr',b',hi,ho1⟩:=hrc
    simp only[ho1]
    exact badN _ _ _ hz hi
   |inr c=>
    rw[hc1] at hrc
    obtain⟨⟨c1,c2,c3,c4⟩,c5⟩:=hA (b.1.1+1,b.1.2) c.1 c.2 g2 b4 hc1
    have hrc':oc=(gR ts pr c.1,(c.2:Int)):=hrc
    simp only[hrc',obs]
    exact qRj (N:=N) (pr:=pr) (tkAt ts p.1) (5,0,0,⟨#[]⟩,[(a.2:Int),(b.2:Int),(c.2:Int)]) c.1 c2 c4
end
end
section
open Go Go.Dc
section
variable {N:Nat} {ts:List Tok} {pr:List ByteArray}
theorem zBo(D:Nat)(hD:1≤D)(d:Int)(z:Flt)(i:Nat)(pr':List ByteArray)(b:List Ex)(hz:z.2≠0)(hi:i<ts.length):∃v,(qAg N D).2.2.2 (bR ts z i pr' b) d=some (bR ts z i pr' b,v):=by
 obtain⟨D',rfl⟩:∃D',D=D'+1:=⟨D-1,by omega⟩
 simp only[qAg]
 exact⟨_,zPe z i pr' b hz hi⟩
theorem qZr(D:Nat)(hD:1≤D)(d:Int)(z:Flt)(i:Nat)(pr':List ByteArray)(b:List Ex)(hz:z.2≠0)(hi:i<ts.length):∃v,(qAg N D).1 (bR ts z i pr' b) d=some (bR ts z i pr' b,v):=by
 obtain⟨D',rfl⟩:∃D',D=D'+1:=⟨D-1,by omega⟩
 simp only[qAg]
 exact⟨_,zKr hz hi⟩
theorem zGy(hN:0<N)(D:Nat)(hD:2≤D)(d:Int)(z:Flt)(i:Nat)(pr':List ByteArray)(b:List Ex)(hz:z.2≠0)(hi:i<ts.length):∃v,(qAg N D).2.1 (bR ts z i pr' b) d=some (bR ts z i pr' b,v):=by
 obtain⟨D',rfl⟩:∃D',D=D'+1:=⟨D-1,by omega⟩
 simp only[qAg]
 exact zNy (fun z i pr' b hz hi=>qZr D' (by omega) d z i pr' b hz hi) hN z i pr' b hz hi
theorem zPc(hN:0<N)(D:Nat)(hD:3≤D)(d:Int)(z:Flt)(i:Nat)(pr':List ByteArray)(b:List Ex)(hz:z.2≠0)(hi:i<ts.length):∃v,(qAg N D).2.2.1 (bR ts z i pr' b) d=some (bR ts z i pr' b,v):=by
 obtain⟨D',rfl⟩:∃D',D=D'+1:=⟨D-1,by omega⟩
 simp only[qAg]
 exact rsum_b (fun z i pr' b hz hi=>zGy hN D' (by omega) d z i pr' b hz hi) hN z i pr' b hz hi
theorem zLb(hok:OkT ts)(hl:ts.length<1000000)(hpr:pr.length<1000)(hN:1000002<N):∀(k D:Nat),k≤32→4*k+1≤D→∀p:Ps,p.1<ts.length→p.2.length≤256→
  ∃o,(qAg N D).2.2.2 (gR ts pr p) (33-(k:Int))=some o∧relR ts pr (qHp ts pr k p) o
 |0,0,_,h,_,_,_=>by omega
 |0,D+1,_,_,p,hp,_=>by simp only[qAg];exact zOo (by omega) p hp
 |k+1,D,hk,hD,p,hp,hb=>by
  have hA:=qNe (ts:=ts) (params:=pr) hok k
  have hF:=qUe (params:=pr) hok hA
  have hT:Adv ts (zKq ts pr (qHp ts pr k)):=qNx hok hF
  have hS:Adv ts (sumC ts pr (qHp ts pr k)):=qNx hok hT
  have hE:∀D,4*k+1≤D→∀p:Ps,p.1<ts.length→p.2.length≤256→∃o,(qAg N D).2.2.2 (gR ts pr p) (IntKind.wrap .i64 (32-(k:Int)+1))=some o∧relR ts pr (qHp ts pr k p) o:=by
   intro D hD p hp hb
   rw[wi64 (by omega) (by omega),show 32-(k:Int)+1=33-(k:Int) by omega]
   exact zLb hok hl hpr hN k D (by omega) hD p hp hb
  have h1:∀D,4*k+2≤D→∀p:Ps,p.1<ts.length→p.2.length≤256→∃o,(qAg N D).1 (gR ts pr p) (32-(k:Int))=some o∧relR ts pr (qQl ts pr (qHp ts pr k) p) o:=by
   intro D hD p hp hb
   obtain⟨D',rfl⟩:∃D',D=D'+1:=⟨D-1,by omega⟩
   simp only[qAg]
   exact zOf (hE D' (by omega)) (fun z i pr' b hz hi=>zBo D' (by omega) _ z i pr' b hz hi) hok hl hpr hN hA p hp hb
  have h2:∀D,4*k+3≤D→∀p:Ps,p.1<ts.length→p.2.length≤256→∃o,(qAg N D).2.1 (gR ts pr p) (32-(k:Int))=some o∧relR ts pr (zKq ts pr (qHp ts pr k) p) o:=by
   intro D hD p hp hb
   obtain⟨D',rfl⟩:∃D',D=D'+1:=⟨D-1,by omega⟩
   simp only[qAg]
   exact rterm hok hl hN hF (h1 D' (by omega)) (fun z i pr' b hz hi=>qZr D' (by omega) _ z i pr' b hz hi) p hp hb
  have h3:∀D,4*k+4≤D→∀p:Ps,p.1<ts.length→p.2.length≤256→∃o,(qAg N D).2.2.1 (gR ts pr p) (32-(k:Int))=some o∧relR ts pr (sumC ts pr (qHp ts pr k) p) o:=by
   intro D hD p hp hb
   obtain⟨D',rfl⟩:∃D',D=D'+1:=⟨D-1,by omega⟩
   simp only[qAg]
   exact rsum hok hl hN hT (h2 D' (by omega)) (fun z i pr' b hz hi=>zGy (by omega) D' (by omega) _ z i pr' b hz hi) p hp hb
  obtain⟨D',rfl⟩:∃D',D=D'+1:=⟨D-1,by omega⟩
  rw[show(33:Int)-((k+1:Nat):Int)=32-(k:Int) by omega]
  simp only[qAg]
  exact rexpr hok hl (by omega) hA hS (hE D' (by omega)) (fun z i pr' b hz hi=>zBo D' (by omega) _ z i pr' b hz hi) (h3 D' (by omega)) (fun z i pr' b hz hi=>zPc (by omega) D' (by omega) _ z i pr' b hz hi) p hp hb
theorem zMm(hok:OkT ts)(hl:ts.length<1000000)(hpr:pr.length<1000)(hN:1000002<N)(p:Ps)(hp:p.1<ts.length)(hb:p.2.length≤256):
 ∃o,qDl N (gR ts pr p) 1=some o∧relR ts pr (qHp ts pr 32 p) o:=zLb hok hl hpr hN 32 N (by omega) (by omega) p hp hb
theorem qXz(hN:1≤N)(z:Flt)(i:Nat)(pr':List ByteArray)(b:List Ex)(hz:z.2≠0)(hi:i<ts.length):∃v,qDl N (bR ts z i pr' b) 1=some (bR ts z i pr' b,v):=zBo N hN 1 z i pr' b hz hi
abbrev RL:=List Tok×Int×Int×Int×List ByteArray×List Ex×List Int×List ByteArray
def addL(st:RT)(l:List ByteArray):RL:=(st.1,st.2.1,st.2.2.1,st.2.2.2.1,st.2.2.2.2.1,st.2.2.2.2.2.1,st.2.2.2.2.2.2,l)
def zDe(ts:List Tok)(n:Nat)(l:List ByteArray)(i:Nat):Flt⊕(Nat×List ByteArray):=
 if isC ts 4 qOy i then qQs ts n l (i+1) else qCf (qFe ts qJb i) fun j=> .inr (j,l)
theorem zIf(n:Nat)(l:List ByteArray)(i:Nat):qQs ts (n+1) l i=qCf (qNu ts i) fun a=>if l.length=8 then qGy a.2 2 else if a.2.2.1∈l then qGy a.2 10 else zDe ts n (l++[a.2.2.1]) a.1:=rfl
def relP(ts:List Tok)(pr:List ByteArray)(b:List Ex)(r:Flt⊕(Nat×List ByteArray))(o:RL):Prop:=
 match r with
 | .inl z=>∃st l,Bad ts z st∧o=addL st l
 | .inr q=>o=addL (gR ts pr (q.1,b)) q.2
theorem qPx{z:Flt}{i:Nat}{pr':List ByteArray}{b:List Ex}(hz:z.2≠0)(M:Nat)(l:List ByteArray):qAx (qBd N) (M+1) (addL (bR ts z i pr' b) l)=some (addL (bR ts z i pr' b) l):=by
 have hz':((addL (bR ts z i pr' b) l).2.2.2.1==0)=false:=by simpa[bR,addL] using hz
 simp only[qAx,qBd,hz',jA,jE,j0]
theorem zAo(hl:ts.length<1000000)(hN:1000002<N){i:Nat}{b:List Ex}{l:List ByteArray}(hi:i<ts.length)(hl8:l.length≤8){G:RL→Option RL}{n:Nat}
  (hbad:∀(z:Flt) (i:Nat) (pr':List ByteArray) (b:List Ex) (l:List ByteArray),z.2≠0→G (addL (bR ts z i pr' b) l)=some (addL (bR ts z i pr' b) l))
  (hok:OkT ts)
  (ih:∀(s:ByteArray),i+1<ts.length→l.length<8→∃o,G (addL (gR ts pr (i+1,b)) (l++[s]))=some o∧relP ts pr b (zDe ts n (l++[s]) (i+1)) o):
  ∃o,((qAk N (gR ts pr (i,b))).bind fun y15=>(qBj N y15.1).bind fun y16=>(if((l.length:Int)==8)=true then((qAm N y16.1 y15.2.2.2.2 2).bind fun y17=>some y17) else(some y16.1):Option RT).bind fun o10=>(qDg N l y16.2).bind fun y18=>(if y18=true then((qAm N o10 y15.2.2.2.2 10).bind fun y19=>some y19) else(some o10):Option RT).bind fun o11=>(qDo 16 l ([y16.2])).bind fun l1=>G (addL o11 l1))=some o∧
   relP ts pr b (qQs ts (n+1) l i) o:=by
 rw[zIf]
 simp only[qKj (i,b) hi,j0,qVn (i,b) hi hl (by omega:100<N),obs]
 have happ:∀s:ByteArray,qDo 16 l [s]=some (l++[s]):=fun s=>qCa (by simp only[jC,jD];omega) (by omega)
 have hhas:∀s,qDg N l s=some (decide (s∈l)):=fun s=>rhas (by omega) (by omega)
 -- behind an error
 have hb2:∀(z:Flt) (i:Nat) (pr':List ByteArray) (b':List Ex) (s:ByteArray) (a:Int),z.2≠0→i<ts.length→∃o,((qDg N l s).bind fun y18=>(if y18=true then qAm N (bR ts z i pr' b') a 10 else(some (bR ts z i pr' b')):Option RT).bind fun o11=>(qDo 16 l ([s])).bind fun l1=>G (addL o11 l1))=some o∧relP ts pr b (.inl z) o:=by
  intro z i pr' b' s a hz hi
  simp only[hhas,j0,qOd hz]
  have:((if decide (s∈l)=true then some (bR ts z i pr' b') else some (bR ts z i pr' b')):Option RT)=some (bR ts z i pr' b'):=by split<;>rfl
  simp only[this,j0,happ,hbad _ _ _ _ _ hz]
  exact⟨_,rfl,bR ts z i pr' b',_,⟨hz,i,pr',b',hi,rfl⟩,rfl⟩
 cases hx:qNu ts i with
 |inl z=>
  have hz:=zCp hx
  have:((if((l.length:Int)==8)=true then qAm N (bR ts z i pr b) (tkAt ts i).2.2.2 2 else some (bR ts z i pr b)):Option RT)=some (bR ts z i pr b):=by
   rw[qOd hz];split<;>rfl
  simp only[this,j0,qCf]
  exact hb2 z i pr b _ _ hz hi
 |inr x=>
  obtain⟨rfl,g1,-⟩:=qMl hok hi hx
  simp only[qCf]
  by_cases k1:l.length=8
  ·have k1':((l.length:Int)==8)=true:=by simp;omega
   rw[if_pos k1]
   simp only[k1',jH,qLa,j0,qGy]
   exact hb2 _ _ _ _ _ _ (show(2:Int)≠0 by decide) g1
  have k1':((l.length:Int)==8)=false:=by simp;omega
  rw[if_neg k1]
  simp only[k1',jA,jE,j0,hhas]
  by_cases k2:(tkAt ts i).2.1∈l
  ·rw[if_pos k2]
   simp only[jM k2,jH,qLa,j0,happ,qGy]
   refine⟨_,hbad _ _ _ _ _ (show(10:Int)≠0 by decide),bR ts ((tkAt ts i).2.2.2,10) (i+1) pr b,_,⟨show(10:Int)≠0 by decide,i+1,pr,b,g1,rfl⟩,rfl⟩
  ·rw[if_neg k2]
   simp only[jQ k2,jA,jE,j0,happ]
   exact ih _ g1 (by omega)
theorem zGd(hN:1000002<N){b:List Ex}{l:List ByteArray}(hl8:l.length≤8){G:RL→Option RL}
  (hbad:∀(z:Flt) (i:Nat) (pr':List ByteArray) (b:List Ex) (l:List ByteArray),z.2≠0→G (addL (bR ts z i pr' b) l)=some (addL (bR ts z i pr' b) l))
  {z:Flt} {i:Nat} {pr':List ByteArray} {b':List Ex} (hz:z.2≠0) (hi:i<ts.length):
  ∃o,((qAk N (bR ts z i pr' b')).bind fun y15=>(qBj N y15.1).bind fun y16=>(if((l.length:Int)==8)=true then((qAm N y16.1 y15.2.2.2.2 2).bind fun y17=>some y17) else(some y16.1):Option RT).bind fun o10=>(qDg N l y16.2).bind fun y18=>(if y18=true then((qAm N o10 y15.2.2.2.2 10).bind fun y19=>some y19) else(some o10):Option RT).bind fun o11=>(qDo 16 l ([y16.2])).bind fun l1=>G (addL o11 l1))=some o∧
   relP ts pr b (.inl z) o:=by
 have happ:∀s:ByteArray,qDo 16 l [s]=some (l++[s]):=fun s=>qCa (by simp only[jC,jD];omega) (by omega)
 have hhas:∀s,qDg N l s=some (decide (s∈l)):=fun s=>rhas (by omega) (by omega)
 have e3:((if((l.length:Int)==8)=true then some (bR ts z i pr' b') else some (bR ts z i pr' b')):Option RT)=some (bR ts z i pr' b'):=by split<;>rfl
 have e4:((if decide ((⟨#[]⟩:ByteArray)∈l)=true then some (bR ts z i pr' b') else some (bR ts z i pr' b')):Option RT)=some (bR ts z i pr' b'):=by split<;>rfl
 simp only[qQe hi,j0,zBu hz hi,obs,qOd hz,e3,hhas,e4,happ,hbad _ _ _ _ _ hz]
 exact⟨_,rfl,bR ts z i pr' b',_,⟨hz,i,pr',b',hi,rfl⟩,rfl⟩
theorem qWh(hok:OkT ts)(hl:ts.length<1000000)(hN:1000002<N){b:List Ex}:∀(n M:Nat) (l:List ByteArray) (i:Nat),l≠[]→i<ts.length→l.length≤8→ts.length<i+n→ts.length+2<i+M→
  ∃o,qAx (qBd N) M (addL (gR ts pr (i,b)) l)=some o∧relP ts pr b (zDe ts n l i) o
 |0,M,l,i,_,hi,_,h,_=>by omega
 |n+1,0,l,i,_,hi,_,_,h=>by omega
 |n+1,M+1,l,i,hne,hi,hl8,hn,hM=>by
  have hs:=qLn (N:=N) (pr:=pr) (i,b) hi hl ⟨#[41]⟩
  have hpos:decide ((l.length:Int)>0)=true:=by
   have:=gL.2 hne
   exact jM (by omega)
  have g0:((addL (gR ts pr (i,b)) l).2.2.2.1==0)=true:=rfl
  have e1:∀st:RT,∀l,((addL st l).1,(addL st l).2.1,(addL st l).2.2.1,(addL st l).2.2.2.1,(addL st l).2.2.2.2.1,(addL st l).2.2.2.2.2.1,(addL st l).2.2.2.2.2.2.1)=st:=fun _ _=>rfl
  have e2:∀st:RT,∀l,(addL st l).2.2.2.2.2.2.2=l:=fun _ _=>rfl
  simp only[qAx,qBd,g0,jH,e1,e2,hs,j0,hpos]
  rcases qEf (isC ts 4 ⟨#[41]⟩ i) with c1|c1
  ·simp only[c1,jH,k7,jA,jE]
   refine⟨_,rfl,?_⟩
   have c2:isC ts 4 qOy i=false:=by
    simp only[isC,jS,jB] at c1
    simp[isC,c1.2,qOy]
   have c3:qFe ts qJb i= .inr (i+1):=by simp[qFe,qJb,c1]
   simp only[zDe,c2,jA,jE,c3,qCf]
   rfl
  ·have hcc:isC ts 4 qOy i=isC ts 4 ⟨#[44]⟩ i:=rfl
   simp only[c1,jA,jE,jW,jH,Prod.eta,qNz (i,b) hi hl,j0,zDe,hcc,qFe]
   rcases qEf (isC ts 4 ⟨#[44]⟩ i) with c2|c2
   ·have g:=qFf hok hi (by decide) c2
    simp only[c2,jH]
    obtain⟨o,ho,hr⟩:=zAo (N:=N) (pr:=pr) (b:=b) (l:=l) (n:=n) (G:=qAx (qBd N) M) hl hN g hl8 (fun z i pr' b l hz=>by
     obtain⟨M',rfl⟩:∃M',M=M'+1:=⟨M-1,by omega⟩
     exact qPx hz M' l) hok (fun s g2 g3=>qWh hok hl hN n M (l++[s]) (i+1+1) (by simp) g2 (by simp only[jL,jC,jD];omega) (by omega) (by omega))
    refine⟨o,Eq.trans ?_ ho,hr⟩
    simp only[g9,j0]
    rfl
   ·have c1':isC ts 4 qJb i=false:=c1
    simp only[c2,c1',jA,jE,qGy,qCf]
    obtain⟨o,ho,hr⟩:=zGd (N:=N) (pr:=pr) (b:=b) (l:=l) (z:=((tkAt ts i).2.2.2,9)) (i:=i) (pr':=pr) (b':=b) (G:=qAx (qBd N) M) hN hl8 (fun z i pr' b l hz=>by
     obtain⟨M',rfl⟩:∃M',M=M'+1:=⟨M-1,by omega⟩
     exact qPx hz M' l) (show(9:Int)≠0 by decide) hi
    refine⟨o,Eq.trans ?_ ho,hr⟩
    simp only[g9,j0]
    rfl
theorem zOb(hok:OkT ts)(hl:ts.length<1000000)(hN:1000005<N){b:List Ex}(i:Nat)(hi:i<ts.length):
  ∃o,qAx (qBd N) N (addL (gR ts pr (i,b)) [])=some o∧relP ts pr b (if isC ts 4 qJb i then .inr (i+1,[]) else qQs ts (ts.length+1) [] i) o:=by
 obtain⟨M,hM⟩:∃M,N=M+1:=⟨N-1,by omega⟩
 have hs:=qLn (N:=N) (pr:=pr) (i,b) hi hl ⟨#[41]⟩
 have g0:((addL (gR ts pr (i,b)) []).2.2.2.1==0)=true:=rfl
 have hnil:decide ((([]:List ByteArray).length:Int)>0)=false:=rfl
 have e1:∀st:RT,∀l,((addL st l).1,(addL st l).2.1,(addL st l).2.2.1,(addL st l).2.2.2.1,(addL st l).2.2.2.2.1,(addL st l).2.2.2.2.2.1,(addL st l).2.2.2.2.2.2.1)=st:=fun _ _=>rfl
 have e2:∀st:RT,∀l,(addL st l).2.2.2.2.2.2.2=l:=fun _ _=>rfl
 have e0:qAx (qBd N) N (addL (gR ts pr (i,b)) [])=qAx (qBd N) (M+1) (addL (gR ts pr (i,b)) []):=by rw[←hM]
 rw[e0]
 simp only[qAx,qBd,g0,jH,e1,e2,hs,j0,hnil,qJb]
 rcases qEf (isC ts 4 ⟨#[41]⟩ i) with c1|c1
 ·simp only[c1,jH,k7,jA,jE]
  exact⟨_,rfl,rfl⟩
 ·simp only[c1,jA,jE,jW,jH,Prod.eta,j0]
  obtain⟨o,ho,hr⟩:=zAo (N:=N) (pr:=pr) (b:=b) (l:=[]) (n:=ts.length) (G:=qAx (qBd N) M) hl (by omega) hi (by simp) (fun z i pr' b l hz=>by
   obtain⟨M',rfl⟩:∃M',M=M'+1:=⟨M-1,by omega⟩
   exact qPx hz M' l) hok (fun s g2 g3=>qWh hok hl (by omega) ts.length M ([]++[s]) (i+1) (by simp) g2 (by simp) (by omega) (by omega))
  refine⟨o,Eq.trans ?_ ho,hr⟩
  simp only[g9,j0]
  rfl
end
end
section
open Go Go.Dc
section
variable {N:Nat} {ts:List Tok} {pr:List ByteArray}
def relD(ts:List Tok)(r:Flt⊕(Nat×Dl))(o:RT×Dl):Prop:=
 match r with
 | .inl z=>Bad ts z o.1
 | .inr a=>o=(gR ts a.2.2.2.1 (a.1,a.2.2.2.2),a.2)
def qQj(N:Nat)(st:RT)(k:Int)(nm:ByteArray):Option (RT×Dl):=
 ((if(k==1)=true then((qAi N st (⟨#[40]⟩:ByteArray)).bind fun y12=>qAx (qBd N) N (addL y12 [])) else(some (addL st [])):Option RL)).bind fun o6=>
 (qAi N (o6.1,o6.2.1,o6.2.2.1,o6.2.2.2.1,o6.2.2.2.2.2.2.2,o6.2.2.2.2.2.1,o6.2.2.2.2.2.2.1) (⟨#[61]⟩:ByteArray)).bind fun y20=>
 (qDl N y20 1).bind fun y21=>(qAi N y21.1 (⟨#[59]⟩:ByteArray)).bind fun y22=>some (y22,(k,nm,o6.2.2.2.2.2.2.2,y22.2.2.2.2.2.1))
theorem qXr(hN:1000005<N){z:Flt}{i:Nat}{b:List Ex}(hz:z.2≠0)(hi:i<ts.length)(k:Int)(nm:ByteArray):∃o,qQj N (bR ts z i pr b) k nm=some o∧Bad ts z o.1:=by
 have tail:∀(i:Nat) (pr:List ByteArray) (b:List Ex) (l:List ByteArray),i<ts.length→∃o,((qAi N ((addL (bR ts z i pr b) l).1,(addL (bR ts z i pr b) l).2.1,(addL (bR ts z i pr b) l).2.2.1,(addL (bR ts z i pr b) l).2.2.2.1,(addL (bR ts z i pr b) l).2.2.2.2.2.2.2,(addL (bR ts z i pr b) l).2.2.2.2.2.1,(addL (bR ts z i pr b) l).2.2.2.2.2.2.1) (⟨#[61]⟩:ByteArray)).bind fun y20=>
   (qDl N y20 1).bind fun y21=>(qAi N y21.1 (⟨#[59]⟩:ByteArray)).bind fun y22=>some (y22,(k,nm,(addL (bR ts z i pr b) l).2.2.2.2.2.2.2,y22.2.2.2.2.2.1)))=some o∧Bad ts z o.1:=by
  intro i pr b l hi
  have e:((addL (bR ts z i pr b) l).1,(addL (bR ts z i pr b) l).2.1,(addL (bR ts z i pr b) l).2.2.1,(addL (bR ts z i pr b) l).2.2.2.1,(addL (bR ts z i pr b) l).2.2.2.2.2.2.2,(addL (bR ts z i pr b) l).2.2.2.2.2.1,(addL (bR ts z i pr b) l).2.2.2.2.2.2.1)=bR ts z i l b:=rfl
  obtain⟨v,hv⟩:=qXz (N:=N) (by omega) z i l b hz hi
  simp only[e,qNh hz hi,j0,hv]
  exact⟨_,rfl,hz,i,l,b,hi,rfl⟩
 obtain⟨M,hM⟩:∃M,N=M+1:=⟨N-1,by omega⟩
 have hb:qAx (qBd N) N (addL (bR ts z i pr b) [])=some (addL (bR ts z i pr b) []):=by
  have e0:qAx (qBd N) N (addL (bR ts z i pr b) [])=qAx (qBd N) (M+1) (addL (bR ts z i pr b) []):=by rw[←hM]
  rw[e0];exact qPx hz M []
 unfold qQj
 rcases qEf (k==1) with c|c
 ·simp only[c,jH,qNh hz hi,j0,hb]
  exact tail i pr b [] hi
 ·simp only[c,jA,jE,j0]
  exact tail i pr b [] hi
theorem zJu(hok:OkT ts)(hl:ts.length<1000000)(hN:1000005<N)(i:Nat)(hi:i<ts.length)(k:Int)(nm:ByteArray):∃o,qQj N (gR ts pr (i,[])) k nm=some o∧
  relD ts (qCf (if k=1 then qIw ts i else .inr (i,[])) fun bq=>qCf (qFe ts sEq bq.1) fun j=>qCf (qHp ts bq.2 32 (j,[])) fun c=>qCf (qFe ts qVi c.1.1) fun m=> .inr (m,(k,nm,bq.2,c.1.2))) o:=by
 have badt:∀(z:Flt) (st:RT) (l:List ByteArray),Bad ts z st→∃o,((qAi N ((addL st l).1,(addL st l).2.1,(addL st l).2.2.1,(addL st l).2.2.2.1,(addL st l).2.2.2.2.2.2.2,(addL st l).2.2.2.2.2.1,(addL st l).2.2.2.2.2.2.1) (⟨#[61]⟩:ByteArray)).bind fun y20=>
   (qDl N y20 1).bind fun y21=>(qAi N y21.1 (⟨#[59]⟩:ByteArray)).bind fun y22=>some (y22,(k,nm,(addL st l).2.2.2.2.2.2.2,y22.2.2.2.2.2.1)))=some o∧Bad ts z o.1:=by
  rintro z st l ⟨hz,i,pr,b,hi,rfl⟩
  have e:((addL (bR ts z i pr b) l).1,(addL (bR ts z i pr b) l).2.1,(addL (bR ts z i pr b) l).2.2.1,(addL (bR ts z i pr b) l).2.2.2.1,(addL (bR ts z i pr b) l).2.2.2.2.2.2.2,(addL (bR ts z i pr b) l).2.2.2.2.2.1,(addL (bR ts z i pr b) l).2.2.2.2.2.2.1)=bR ts z i l b:=rfl
  obtain⟨v,hv⟩:=qXz (N:=N) (by omega) z i l b hz hi
  simp only[e,qNh hz hi,j0,hv]
  exact⟨_,rfl,hz,i,l,b,hi,rfl⟩
 have goodt:∀(q:Nat×List ByteArray),q.1<ts.length→q.2.length≤8→∃o,((qAi N ((addL (gR ts pr (q.1,[])) q.2).1,(addL (gR ts pr (q.1,[])) q.2).2.1,(addL (gR ts pr (q.1,[])) q.2).2.2.1,(addL (gR ts pr (q.1,[])) q.2).2.2.2.1,(addL (gR ts pr (q.1,[])) q.2).2.2.2.2.2.2.2,(addL (gR ts pr (q.1,[])) q.2).2.2.2.2.2.1,(addL (gR ts pr (q.1,[])) q.2).2.2.2.2.2.2.1) (⟨#[61]⟩:ByteArray)).bind fun y20=>
   (qDl N y20 1).bind fun y21=>(qAi N y21.1 (⟨#[59]⟩:ByteArray)).bind fun y22=>some (y22,(k,nm,(addL (gR ts pr (q.1,[])) q.2).2.2.2.2.2.2.2,y22.2.2.2.2.2.1)))=some o∧
   relD ts (qCf (qFe ts sEq q.1) fun j=>qCf (qHp ts q.2 32 (j,[])) fun c=>qCf (qFe ts qVi c.1.1) fun m=> .inr (m,(k,nm,q.2,c.1.2))) o:=by
  intro q hq hq8
  have e:((addL (gR ts pr (q.1,[])) q.2).1,(addL (gR ts pr (q.1,[])) q.2).2.1,(addL (gR ts pr (q.1,[])) q.2).2.2.1,(addL (gR ts pr (q.1,[])) q.2).2.2.2.1,(addL (gR ts pr (q.1,[])) q.2).2.2.2.2.2.2.2,(addL (gR ts pr (q.1,[])) q.2).2.2.2.2.2.1,(addL (gR ts pr (q.1,[])) q.2).2.2.2.2.2.2.1)=gR ts q.2 (q.1,[]):=rfl
  have e2:(addL (gR ts pr (q.1,[])) q.2).2.2.2.2.2.2.2=q.2:=rfl
  rw[e]
  simp only[e2,qNz (q.1,[]) hq hl,j0,sEq]
  cases hj:qFe ts ⟨#[61]⟩ q.1 with
  |inl z=>
   have hz:=qMr hj
   obtain⟨v,hv⟩:=qXz (N:=N) (by omega) z q.1 q.2 [] hz hq
   simp only[hv,j0,qNh hz hq,qCf]
   exact⟨_,rfl,hz,q.1,q.2,[],hq,rfl⟩
  |inr j=>
   obtain⟨rfl,g3,-⟩:=qFg hok hq hj
   obtain⟨o,ho,hr⟩:=zMm (N:=N) (pr:=q.2) hok hl (by omega) (by omega) (q.1+1,[]) g3 (by simp)
   simp only[ho,j0,qCf]
   cases hc:qHp ts q.2 32 (q.1+1,[]) with
   |inl z=>
    rw[hc] at hr
    obtain⟨hz,i,pr',b,hi,ho1⟩:=hr
    simp only[ho1,qNh hz hi,j0]
    exact⟨_,rfl,hz,i,pr',b,hi,rfl⟩
   |inr c=>
    rw[hc] at hr
    obtain⟨⟨f1,f2,f3,f4⟩,-⟩:=qNe hok 32 (q.1+1,[]) c.1 c.2 g3 (by simp) hc
    have hr':o=(gR ts q.2 c.1,(c.2:Int)):=hr
    simp only[hr',qNz c.1 f2 hl,j0,qVi]
    cases hm:qFe ts ⟨#[59]⟩ c.1.1 with
    |inl z=>exact⟨_,rfl,qMr hm,c.1.1,q.2,c.1.2,f2,rfl⟩
    |inr m=>exact⟨_,rfl,rfl⟩
 unfold qQj
 by_cases c:k=1
 ·have c':(k==1)=true:=by simpa using c
  simp only[c',jH,qNz (i,[]) hi hl,j0,if_pos c,qIw,qQy]
  cases h1:qFe ts ⟨#[40]⟩ i with
  |inl z=>
   have hz:=qMr h1
   obtain⟨M,hM⟩:∃M,N=M+1:=⟨N-1,by omega⟩
   have hb:qAx (qBd N) N (addL (bR ts z i pr []) [])=some (addL (bR ts z i pr []) []):=by
    have e0:qAx (qBd N) N (addL (bR ts z i pr []) [])=qAx (qBd N) (M+1) (addL (bR ts z i pr []) []):=by rw[←hM]
    rw[e0];exact qPx hz M []
   simp only[hb,j0,qCf]
   exact badt z _ [] ⟨hz,i,pr,[],hi,rfl⟩
  |inr j=>
   obtain⟨rfl,g1,-⟩:=qFg hok hi h1
   obtain⟨o,ho,hr⟩:=zOb (N:=N) (pr:=pr) (b:=[]) hok hl hN (i+1) g1
   simp only[ho,j0,qCf]
   cases hP:(if isC ts 4 qJb (i+1)=true then .inr (i+1+1,[]) else qQs ts (ts.length+1) [] (i+1):Flt⊕(Nat×List ByteArray)) with
   |inl z=>
    rw[hP] at hr
    obtain⟨st,l,hbad,rfl⟩:=hr
    exact badt z st l hbad
   |inr q=>
    rw[hP] at hr
    have hr':o=addL (gR ts pr (q.1,[])) q.2:=hr
    have hq:q.1<ts.length∧q.2.length≤8:=by
     split at hP
     ·rename_i hc
      obtain rfl:=Sum.inr.inj hP
      exact⟨qFf hok g1 (by decide) hc,by simp⟩
     ·obtain⟨_,f2,f3⟩:=qUi hok _ _ _ q g1 (by simp) hP
      exact⟨f2,f3⟩
    rw[hr']
    exact goodt q hq.1 hq.2
 ·have c':(k==1)=false:=by simpa using c
  simp only[c',jA,jE,j0,if_neg c]
  exact goodt (i,[]) hi (by simp)
def qVb(N:Nat)(f:Sr)(t:Tok)(st:RT)(k:Int):Option (RT×Dl):=
 ((if((List.length f.2.2:Int)==64)=true then qAm N st t.2.2.2 2 else some st):Option RT).bind fun o2=>(qAk N o2).bind fun y7=>
 ((if(k==3)=true then qBx N y7.1 true else qBj N y7.1):Option (RT×ByteArray)).bind fun o3=>
 ((if(o3.1.2.2.2.1==0)=true then qFp N f k o3.2 else some false):Option Bool).bind fun o4=>
 ((if o4=true then qAm N o3.1 y7.2.2.2.2 10 else some o3.1):Option RT).bind fun o5=>qQj N o5 k o3.2
theorem zIq(hN:1000005<N){f:Sr}{t:Tok}{z:Flt}{i:Nat}{b:List Ex}(hz:z.2≠0)(hi:i<ts.length)(k:Int):∃o,
  ((qAk N (bR ts z i pr b)).bind fun y7=>((if(k==3)=true then qBx N y7.1 true else qBj N y7.1):Option (RT×ByteArray)).bind fun o3=>
   ((if(o3.1.2.2.2.1==0)=true then qFp N f k o3.2 else some false):Option Bool).bind fun o4=>
   ((if o4=true then qAm N o3.1 y7.2.2.2.2 10 else some o3.1):Option RT).bind fun o5=>qQj N o5 k o3.2)=some o∧Bad ts z o.1:=by
 have hz':((bR ts z i pr b).2.2.2.1==0)=false:=by simpa[bR] using hz
 have e:((if(k==3)=true then qBx N (bR ts z i pr b) true else qBj N (bR ts z i pr b)):Option (RT×ByteArray))=some (bR ts z i pr b,⟨#[]⟩):=by
  rw[zFl hz hi,zBu hz hi];split<;>rfl
 simp only[qQe hi,j0,e,hz',jA,jE]
 exact qXr hN hz hi k _
theorem zIl(hok:OkT ts)(hl:ts.length<1000000)(hN:1000005<N){f:Sr}(hf:f.2.2.length≤64)(t:Tok)(i:Nat)(hi:i<ts.length)(k:Int):∃o,qVb N f t (gR ts pr (i,[])) k=some o∧
  relD ts (if f.2.2.length=64 then qGy t 2 else qCf (if k=3 then qPw ts i else qNu ts i) fun a=>
   if f.2.2.any (fun d=>d.1==k&&decide (d.2.1=a.2.2.1)) then qGy a.2 10
   else qCf (if k=1 then qIw ts a.1 else .inr (a.1,[])) fun b=>
    qCf (qFe ts sEq b.1) fun j=>qCf (qHp ts b.2 32 (j,[])) fun c=>
    qCf (qFe ts qVi c.1.1) fun m=> .inr (m,(k,a.2.2.1,b.2,c.1.2))) o:=by
 unfold qVb
 by_cases k1:f.2.2.length=64
 ·have k1':((f.2.2.length:Int)==64)=true:=by simp;omega
  rw[if_pos k1]
  simp only[k1',jH,qLa,j0,qGy]
  exact zIq (t:=t) hN (show(2:Int)≠0 by decide) hi k
 have k1':((f.2.2.length:Int)==64)=false:=by simp;omega
 rw[if_neg k1]
 simp only[k1',jA,jE,j0,qKj (i,[]) hi]
 have e:((if(k==3)=true then qBx N (gR ts pr (i,[])) true else qBj N (gR ts pr (i,[]))):Option (RT×ByteArray))=
   some (match(if k=3 then qPw ts i else qNu ts i) with| .inl z=>(bR ts z i pr [],⟨#[]⟩)| .inr a=>(gR ts pr (a.1,[]),a.2.2.1)):=by
  by_cases k3:k=3
  ·have k3':(k==3)=true:=by simpa using k3
   rw[if_pos k3',if_pos k3,zFf (i,[]) hi hl (by omega)];rfl
  ·have k3':(k==3)=false:=by simpa using k3
   rw[if_neg (by rw[k3'];decide),if_neg k3,qVn (i,[]) hi hl (by omega)];rfl
 rw[e]
 simp only[j0]
 cases hX:(if k=3 then qPw ts i else qNu ts i) with
 |inl z=>
  have hz:z.2≠0:=by
   split at hX
   ·exact zBm hX
   ·exact zCp hX
  have hz':((bR ts z i pr []).2.2.2.1==0)=false:=by simpa[bR] using hz
  simp only[hz',jA,jE,j0,qCf]
  exact qXr hN hz hi k _
 |inr a=>
  have ga:a=(i+1,tkAt ts i)∧i+1<ts.length:=by
   split at hX
   ·obtain⟨e,g1,-⟩:=qNa hok hi hX;exact⟨e,g1⟩
   ·obtain⟨e,g1,-⟩:=qMl hok hi hX;exact⟨e,g1⟩
  obtain⟨rfl,g1⟩:=ga
  have g0:((gR ts pr (i+1,[])).2.2.2.1==0)=true:=rfl
  simp only[g0,jH,rtaken (N:=N) (f:=f) (k:=k) (s:=(tkAt ts i).2.1) (by omega) (by omega),j0]
  rw[show qCf (Sum.inr (i+1,tkAt ts i)) (fun a:Nat×Tok=>if f.2.2.any (fun d=>d.1==k&&decide (d.2.1=a.2.2.1))=true then qGy a.2 10
   else qCf (if k=1 then qIw ts a.1 else .inr (a.1,[])) fun b=>
    qCf (qFe ts sEq b.1) fun j=>qCf (qHp ts b.2 32 (j,[])) fun c=>
    qCf (qFe ts qVi c.1.1) fun m=>(.inr (m,(k,a.2.2.1,b.2,c.1.2)):Flt⊕(Nat×Dl)))=(if f.2.2.any (fun d=>d.1==k&&decide (d.2.1=(tkAt ts i).2.1))=true then qGy (tkAt ts i) 10
   else qCf (if k=1 then qIw ts (i+1) else .inr (i+1,[])) fun b=>
    qCf (qFe ts sEq b.1) fun j=>qCf (qHp ts b.2 32 (j,[])) fun c=>
    qCf (qFe ts qVi c.1.1) fun m=>(.inr (m,(k,(tkAt ts i).2.1,b.2,c.1.2)):Flt⊕(Nat×Dl))) from rfl]
  rcases qEf (f.2.2.any fun d=>d.1==k&&decide (d.2.1=(tkAt ts i).2.1)) with k4|k4
  ·rw[if_pos k4]
   simp only[k4,jH,qLa,j0,qGy]
   exact qXr hN (show(10:Int)≠0 by decide) g1 k _
  ·rw[if_neg (by rw[k4];decide)]
   simp only[k4,jA,jE,j0]
   exact zJu hok hl hN (i+1) g1 k _
end
end
section
open Go Go.Dc
section
variable {N:Nat} {ts:List Tok} {pr:List ByteArray}
abbrev RN:=List Tok×Int×Int×Int×List ByteArray×List Ex×List Int×ByteArray
def addN(st:RT)(l:ByteArray):RN:=(st.1,st.2.1,st.2.2.1,st.2.2.2.1,st.2.2.2.2.1,st.2.2.2.2.2.1,st.2.2.2.2.2.2,l)
theorem rdecl(hok:OkT ts)(hl:ts.length<1000000)(hN:1000005<N){f:Sr}(hf:f.2.2.length≤64)(i:Nat)(b:List Ex)(hi:i<ts.length):∃o,qGm N (gR ts pr (i,b)) f=some o∧relD ts (qSa ts f.2.2 i) o:=by
 have e0:((gR ts pr (i,b)).1,(gR ts pr (i,b)).2.1,(gR ts pr (i,b)).2.2.1,(gR ts pr (i,b)).2.2.2.1,([]:List ByteArray),([]:List Ex),(gR ts pr (i,b)).2.2.2.2.2.2)=gR ts [] (i,[]):=rfl
 have rest:∀(st:RT) (k:Int),(((if((List.length f.2.2:Int)==64)=true then((qAm N st (tkAt ts i).2.2.2 2).bind fun y6=>some y6) else(some st)):Option RT).bind fun o2=>(qAk N o2).bind fun y7=>((if(k==3)=true then((qBx N y7.1 true).bind fun y8=>some (addN y8.1 y8.2)) else((qBj N y7.1).bind fun y9=>some (addN y9.1 y9.2))):Option RN).bind fun o3=>((if(o3.2.2.2.1==0)=true then((qFp N f k o3.2.2.2.2.2.2.2).bind fun y10=>some y10) else(some false)):Option Bool).bind fun o4=>((if o4=true then((qAm N (o3.1,o3.2.1,o3.2.2.1,o3.2.2.2.1,o3.2.2.2.2.1,o3.2.2.2.2.2.1,o3.2.2.2.2.2.2.1) y7.2.2.2.2 10).bind fun y11=>some y11) else(some (o3.1,o3.2.1,o3.2.2.1,o3.2.2.2.1,o3.2.2.2.2.1,o3.2.2.2.2.2.1,o3.2.2.2.2.2.2.1))):Option RT).bind fun o5=>qQj N o5 k o3.2.2.2.2.2.2.2)=qVb N f (tkAt ts i) st k:=by
  intro st k
  unfold qVb
  simp only[obs]
  refine congrArg _ (funext fun o2=>congrArg _ (funext fun y7=> ?_))
  rcases qEf (k==3) with c|c<;>simp only[c,jH,jA,jE,g9,j0]<;>rfl
 have fin:∀(k:Int),k≠0→qOb (tkAt ts i).2.1=k→(tkAt ts i).1=1→∃o,qVb N f (tkAt ts i) (gR ts [] (i+1,[])) k=some o∧relD ts (qSa ts f.2.2 i) o:=by
  intro k hk0 hk h1
  have g:=hok.next hi (show(tkAt ts i).1≠5 by rw[h1];decide)
  obtain⟨o,ho,hr⟩:=zIl (N:=N) (pr:=[]) hok hl hN hf (tkAt ts i) (i+1) g k
  refine⟨o,ho,?_⟩
  unfold qSa
  dsimp only
  rw[hk,if_neg (by rintro(h|h);exact h h1;exact hk0 h)]
  exact hr
 simp only[qGm,e0,qKj (i,[]) hi,j0,Prod.eta,qMq (i,[]) hi hl]
 by_cases h1:(tkAt ts i).1=1
 ·have n:∀s,isC ts 1 s i=decide ((tkAt ts i).2.1=s):=fun s=>zGo h1
  simp only[n]
  by_cases w1:(tkAt ts i).2.1=(⟨#[102,117,110,99]⟩:ByteArray)
  ·simp only[jM w1,jH,j0]
   obtain⟨o,ho,hr⟩:=fin 1 (by decide) (by rw[w1];rfl) h1
   refine⟨o,Eq.trans ?_ ho,hr⟩
   refine Eq.trans ?_ (rest (gR ts [] (i+1,[])) 1)
   simp only[obs,qQj]
   rfl
  simp only[jQ w1,jA,jE,j0,qMq (i,[]) hi hl,n,Prod.eta]
  by_cases w2:(tkAt ts i).2.1=(⟨#[116,101,115,116]⟩:ByteArray)
  ·simp only[jM w2,jH,j0]
   obtain⟨o,ho,hr⟩:=fin 2 (by decide) (by rw[w2];rfl) h1
   refine⟨o,Eq.trans ?_ ho,hr⟩
   refine Eq.trans ?_ (rest (gR ts [] (i+1,[])) 2)
   simp only[obs,qQj]
   rfl
  simp only[jQ w2,jA,jE,j0,qMq (i,[]) hi hl,n,Prod.eta]
  by_cases w3:(tkAt ts i).2.1=(⟨#[103,101,110]⟩:ByteArray)
  ·simp only[jM w3,jH,j0]
   obtain⟨o,ho,hr⟩:=fin 3 (by decide) (by rw[w3];rfl) h1
   refine⟨o,Eq.trans ?_ ho,hr⟩
   refine Eq.trans ?_ (rest (gR ts [] (i+1,[])) 3)
   simp only[obs,qQj]
   rfl
  simp only[jQ w3,jA,jE,j0,qLa,Prod.eta]
  refine⟨_,rfl,?_⟩
  have hk:qOb (tkAt ts i).2.1=0:=by
   unfold qOb
   rw[if_neg (show ¬(tkAt ts i).2.1=zKc from w1),if_neg (show ¬(tkAt ts i).2.1=zKl from w2),if_neg (show ¬(tkAt ts i).2.1=sGen from w3)]
  unfold qSa
  dsimp only
  rw[if_pos (.inr hk)]
  exact⟨show(9:Int)≠0 by decide,i,[],[],hi,rfl⟩
 ·have n:∀s,isC ts 1 s i=false:=fun s=>zNm h1
  simp only[n,jA,jE,j0,qMq (i,[]) hi hl,qLa,Prod.eta]
  refine⟨_,rfl,?_⟩
  unfold qSa
  dsimp only
  rw[if_pos (.inl h1)]
  exact⟨show(9:Int)≠0 by decide,i,[],[],hi,rfl⟩
def relI(ts:List Tok)(pr:List ByteArray)(b:List Ex)(r:Flt⊕(Nat×List ByteArray))(o:RL):Prop:=
 match r with
 | .inl z=>∃st l,Bad ts z st∧o=addL st l
 | .inr q=>o=addL (gR ts pr (q.1,b)) q.2
theorem qWk{y5:RT×ByteArray}{z:Flt}{i:Nat}{pr':List ByteArray}{b:List Ex}(hz:z.2≠0)(M:Nat)(l:List ByteArray):qAx (qBz N y5) (M+1) (addL (bR ts z i pr' b) l)=some (addL (bR ts z i pr' b) l):=by
 have hz':((addL (bR ts z i pr' b) l).2.2.2.1==0)=false:=by simpa[bR,addL] using hz
 simp only[qAx,qBz,hz',jA,jE,j0]
theorem qVa(hok:OkT ts)(hl:ts.length<1000000)(hN:1000005<N){y5:RT×ByteArray}{b:List Ex}:∀(n M:Nat) (l:List ByteArray) (i:Nat),i<ts.length→l.length≤8→ts.length<i+n→ts.length+2<i+M→
  ∃o,qAx (qBz N y5) M (addL (gR ts pr (i,b)) l)=some o∧relI ts pr b (qLq ts y5.2 n l i) o
 |0,M,l,i,hi,_,h,_=>by omega
 |n+1,0,l,i,hi,_,_,h=>by omega
 |n+1,M+1,l,i,hi,hl8,hn,hM=>by
  have g0:((addL (gR ts pr (i,b)) l).2.2.2.1==0)=true:=rfl
  have e1:∀st:RT,∀l,((addL st l).1,(addL st l).2.1,(addL st l).2.2.1,(addL st l).2.2.2.1,(addL st l).2.2.2.2.1,(addL st l).2.2.2.2.2.1,(addL st l).2.2.2.2.2.2.1)=st:=fun _ _=>rfl
  have e2:∀st:RT,∀l,(addL st l).2.2.2.2.2.2.2=l:=fun _ _=>rfl
  have happ:∀s:ByteArray,qDo 16 l [s]=some (l++[s]):=fun s=>qCa (by simp only[jC,jD];omega) (by omega)
  have hhas:∀s,qDg N l s=some (decide (s∈l)):=fun s=>rhas (by omega) (by omega)
  have bad:∀(z:Flt) (i:Nat) (pr':List ByteArray) (b':List Ex) (l:List ByteArray),z.2≠0→i<ts.length→∃o,qAx (qBz N y5) M (addL (bR ts z i pr' b') l)=some o∧relI ts pr b (.inl z) o:=by
   intro z i pr' b' l hz hi
   obtain⟨M',rfl⟩:∃M',M=M'+1:=⟨M-1,by omega⟩
   exact⟨_,qWk hz M' l,_,_,⟨hz,i,pr',b',hi,rfl⟩,rfl⟩
  -- from the import's name on, behind an error
  have badn:∀(z:Flt) (i:Nat) (pr':List ByteArray) (b':List Ex),z.2≠0→i<ts.length→∃o,((qAk N (bR ts z i pr' b')).bind fun y11=>(qBj N y11.1).bind fun y12=>((if(y12.1.2.2.2.1==0)=true then(if(y12.2.toList==y5.2.toList)=true then(some true) else(qDg N l y12.2)) else(some false)):Option Bool).bind fun o5=>((if o5=true then qAm N y12.1 y11.2.2.2.2 10 else some y12.1):Option RT).bind fun o6=>(qAi N o6 (⟨#[59]⟩:ByteArray)).bind fun y15=>(qDo 16 l ([y12.2])).bind fun l1=>qAx (qBz N y5) M (addL y15 l1))=some o∧relI ts pr b (.inl z) o:=by
   intro z i pr' b' hz hi
   have hz':((bR ts z i pr' b').2.2.2.1==0)=false:=by simpa[bR] using hz
   simp only[qQe hi,zBu hz hi,j0,hz',jA,jE,qNh hz hi,happ]
   exact bad z i pr' b' _ hz hi
  -- the step
  have step:qAx (qBz N y5) (M+1) (addL (gR ts pr (i,b)) l)=(if isC ts 1 qUd i=true then
    ((if((l.length:Int)==8)=true then some (bR ts ((tkAt ts i).2.2.2,2) (i+1) pr b) else some (gR ts pr (i+1,b))):Option RT).bind fun st=>((qAk N st).bind fun y11=>(qBj N y11.1).bind fun y12=>((if(y12.1.2.2.2.1==0)=true then(if(y12.2.toList==y5.2.toList)=true then(some true) else(qDg N l y12.2)) else(some false)):Option Bool).bind fun o5=>((if o5=true then qAm N y12.1 y11.2.2.2.2 10 else some y12.1):Option RT).bind fun o6=>(qAi N o6 (⟨#[59]⟩:ByteArray)).bind fun y15=>(qDo 16 l ([y12.2])).bind fun l1=>qAx (qBz N y5) M (addL y15 l1))
    else some (addL (gR ts pr (i,b)) l)):=by
   have hk:isC ts 1 qUd i=((tkAt ts i).1==1&&decide ((tkAt ts i).2.1=(⟨#[105,109,112,111,114,116]⟩:ByteArray))):=rfl
   have hw:=qLp (show i<1000000 by omega)
   simp only[qAx,qBz,g0,jH,e1,e2,qKj (i,b) hi,j0,Prod.eta,qEg,hk]
   rcases qEf ((tkAt ts i).1==1) with c1|c1
   rotate_left
   ·simp only[c1,jA,jE,j0,Bool.false_and]
    rfl
   rcases qEf (decide ((tkAt ts i).2.1=(⟨#[105,109,112,111,114,116]⟩:ByteArray))) with c2|c2
   rotate_left
   ·simp only[c1,c2,jA,jE,jH,j0,Bool.and_false]
    rfl
   simp only[c1,c2,jH,j0,Bool.and_true]
   rcases qEf ((l.length:Int)==8) with c3|c3
   ·simp only[c3,jH,j0,qKj (i,b) hi,qLa,obs]
    have e3:((bR ts ((tkAt ts i).2.2.2,2) i pr b).1,IntKind.wrap .i64 ((bR ts ((tkAt ts i).2.2.2,2) i pr b).2.1+1),(bR ts ((tkAt ts i).2.2.2,2) i pr b).2.2.1,(bR ts ((tkAt ts i).2.2.2,2) i pr b).2.2.2.1,(bR ts ((tkAt ts i).2.2.2,2) i pr b).2.2.2.2.1,(bR ts ((tkAt ts i).2.2.2,2) i pr b).2.2.2.2.2.1,(bR ts ((tkAt ts i).2.2.2,2) i pr b).2.2.2.2.2.2)=bR ts ((tkAt ts i).2.2.2,2) (i+1) pr b:=by
     show(ts,IntKind.wrap .i64 ((i:Int)+1),(tkAt ts i).2.2.2,(2:Int),pr,b,([]:List Int))=_
     rw[hw];rfl
    rw[e3]
    simp only[g9,j0]
    rfl
   ·simp only[c3,jA,jE,j0,obs]
    have e3:((gR ts pr (i,b)).1,IntKind.wrap .i64 ((gR ts pr (i,b)).2.1+1),(gR ts pr (i,b)).2.2.1,(gR ts pr (i,b)).2.2.2.1,(gR ts pr (i,b)).2.2.2.2.1,(gR ts pr (i,b)).2.2.2.2.2.1,(gR ts pr (i,b)).2.2.2.2.2.2)=gR ts pr (i+1,b):=by
     show(ts,IntKind.wrap .i64 ((i:Int)+1),(0:Int),(0:Int),pr,b,([]:List Int))=_
     rw[hw];rfl
    rw[e3]
    simp only[g9,j0]
    rfl
  rw[step]
  simp only[qLq]
  rcases qEf (isC ts 1 qUd i) with c1|c1
  rotate_left
  ·simp only[c1,jA,jE]
   exact⟨_,rfl,rfl⟩
  have g:=qFf hok hi (by decide) c1
  simp only[c1,jH]
  by_cases k2:l.length=8
  ·have k2':((l.length:Int)==8)=true:=by simp;omega
   rw[if_pos k2]
   simp only[k2',jH,j0,qGy]
   exact badn _ _ _ _ (show(2:Int)≠0 by decide) g
  have k2':((l.length:Int)==8)=false:=by simp;omega
  rw[if_neg k2]
  simp only[k2',jA,jE,j0,qKj (i+1,b) g,qVn (i+1,b) g hl (by omega:100<N)]
  cases hx:qNu ts (i+1) with
  |inl z=>
   have hz:=zCp hx
   have hz':((bR ts z (i+1) pr b).2.2.2.1==0)=false:=by simpa[bR] using hz
   simp only[hz',jA,jE,j0,qNh hz g,happ,qCf]
   exact bad _ _ _ _ _ hz g
  |inr x=>
   obtain⟨rfl,g1,-⟩:=qMl hok g hx
   have g00:((gR ts pr (i+1+1,b)).2.2.2.1==0)=true:=rfl
   simp only[g00,jH,qEg,hhas,qCf]
   by_cases k3:(tkAt ts (i+1)).2.1=y5.2∨(tkAt ts (i+1)).2.1∈l
   ·rw[if_pos k3]
    have:((if decide ((tkAt ts (i+1)).2.1=y5.2)=true then some true else some (decide ((tkAt ts (i+1)).2.1∈l))):Option Bool)=some true:=by
     rcases k3 with h|h
     ·rw[if_pos (jM h)]
     ·rw[jM h];split<;>rfl
    rw[this]
    simp only[j0,jH,qLa,happ,qGy]
    have hz:(((tkAt ts (i+1)).2.2.2,(10:Int)):Flt).2≠0:=show(10:Int)≠0 by decide
    simp only[qNh hz g1,j0]
    exact bad _ _ _ _ _ hz g1
   rw[if_neg k3]
   have:((if decide ((tkAt ts (i+1)).2.1=y5.2)=true then some true else some (decide ((tkAt ts (i+1)).2.1∈l))):Option Bool)=some false:=by
    rw[if_neg (by simp only[jB];exact fun h=>k3 (.inl h)),jQ (fun h=>k3 (.inr h))]
   rw[this]
   simp only[j0,jA,jE,qNz (i+1+1,b) g1 hl,happ,qVi]
   cases hj:qFe ts ⟨#[59]⟩ (i+1+1) with
   |inl z=>exact bad _ _ _ _ _ (qMr hj) g1
   |inr j=>
    obtain⟨rfl,g2,-⟩:=qFg hok g1 hj
    exact qVa hok hl hN n M _ (i+1+1+1) g2 (by simp only[jL,jC,jD];omega) (by omega) (by omega)
end
end
section
open Go Go.Dc
section
variable {N:Nat} {ts:List Tok} {pr:List ByteArray}
abbrev RD:=List Tok×Int×Int×Int×List ByteArray×List Ex×List Int×List Dl
def addD(st:RT)(l:List Dl):RD:=(st.1,st.2.1,st.2.2.1,st.2.2.2.1,st.2.2.2.2.1,st.2.2.2.2.2.1,st.2.2.2.2.2.2,l)
def relS(ts:List Tok)(r:Flt⊕List Dl)(o:RD):Prop:=
 match r with
 | .inl z=>∃st l,Bad ts z st∧o=addD st l
 | .inr a=>∃pr p,o=addD (gR ts pr p) a
theorem zAp{y5:RT×ByteArray}{o2:RL}{z:Flt}{i:Nat}{pr':List ByteArray}{b:List Ex}(hz:z.2≠0)(M:Nat)(l:List Dl):qAx (qCm N y5 o2) (M+1) (addD (bR ts z i pr' b) l)=some (addD (bR ts z i pr' b) l):=by
 have hz':((addD (bR ts z i pr' b) l).2.2.2.1==0)=false:=by simpa[bR,addD] using hz
 simp only[qAx,qCm,hz',jA,jE,j0]
theorem qZb(hok:OkT ts)(hl:ts.length<1000000)(hN:1000005<N){y5:RT×ByteArray}{o2:RL}:∀(n M:Nat) (l:List Dl) (i:Nat) (pr:List ByteArray) (b:List Ex),i<ts.length→l.length≤64→ts.length<i+n→ts.length+2<i+M→
  ∃o,qAx (qCm N y5 o2) M (addD (gR ts pr (i,b)) l)=some o∧relS ts (qUb ts n l i) o
 |0,M,l,i,_,_,hi,_,h,_=>by omega
 |n+1,0,l,i,_,_,hi,_,_,h=>by omega
 |n+1,M+1,l,i,pr,b,hi,hl64,hn,hM=>by
  have g0:((addD (gR ts pr (i,b)) l).2.2.2.1==0)=true:=rfl
  have e1:∀st:RT,∀l,((addD st l).1,(addD st l).2.1,(addD st l).2.2.1,(addD st l).2.2.2.1,(addD st l).2.2.2.2.1,(addD st l).2.2.2.2.2.1,(addD st l).2.2.2.2.2.2.1)=st:=fun _ _=>rfl
  have e2:∀st:RT,∀l,(addD st l).2.2.2.2.2.2.2=l:=fun _ _=>rfl
  simp only[qAx,qCm,g0,jH,e1,e2,qKj (i,b) hi,j0,Prod.eta,qUb]
  by_cases k1:(tkAt ts i).1=5
  ·have k1':((tkAt ts i).1 !=5)=false:=by simp[k1]
   rw[if_pos k1]
   simp only[k1',jA,jE,j0]
   exact⟨_,rfl,pr,(i,b),rfl⟩
  have k1':((tkAt ts i).1 !=5)=true:=by simp[k1]
  rw[if_neg k1]
  simp only[k1',jH]
  obtain⟨o,ho,hr⟩:=rdecl (N:=N) (pr:=pr) (f:=(y5.2,o2.2.2.2.2.2.2.2,l)) hok hl hN hl64 i b hi
  simp only[ho,j0]
  rw[qCa (by simp only[jC,jD];omega) (by omega)]
  simp only[j0]
  cases hd:qSa ts l i with
  |inl z=>
   rw[show qSa ts (y5.2,o2.2.2.2.2.2.2.2,l).2.2 i=qSa ts l i from rfl,hd] at hr
   obtain⟨hz,j,pr',b',hj,ho1⟩:=hr
   obtain⟨M',rfl⟩:∃M',M=M'+1:=⟨M-1,by omega⟩
   rw[ho1]
   exact⟨_,zAp hz M' _,_,_,⟨hz,j,pr',b',hj,rfl⟩,rfl⟩
  |inr a=>
   rw[show qSa ts (y5.2,o2.2.2.2.2.2.2.2,l).2.2 i=qSa ts l i from rfl,hd] at hr
   obtain⟨g1,g2,g3⟩:=qUo hok hi hd
   have hr':o=(gR ts a.2.2.2.1 (a.1,a.2.2.2.2),a.2):=hr
   rw[hr']
   exact qZb hok hl hN n M (l++[a.2]) a.1 _ _ g2 (by simp only[jL,jC,jD];omega) (by omega) (by omega)
theorem rfile(hok:OkT ts)(hl:ts.length<1000000)(hN:1000005<N):
  ((qBs N (ts,0,0,0,[],[],[]) (⟨#[112,97,99,107,97,103,101]⟩:ByteArray)).bind fun y2=>((if(!y2.2)=true then((qAk N y2.1).bind fun y3=>qAm N y3.1 y3.2.2.2.2 9) else(some y2.1)):Option RT).bind fun o1=>(qBj N o1).bind fun y5=>(qAi N y5.1 (⟨#[59]⟩:ByteArray)).bind fun y6=>(qAx (qBz N y5) N (addL y6 [])).bind fun o2=>(qAx (qCm N y5 o2) N (o2.1,o2.2.1,o2.2.2.1,o2.2.2.2.1,o2.2.2.2.2.1,o2.2.2.2.2.2.1,o2.2.2.2.2.2.2.1,[])).bind fun o7=>if(o7.2.2.2.1 !=0)=true then(some (qWy,o7.2.2.1,o7.2.2.2.1)) else(some (((y5.2,o2.2.2.2.2.2.2.2,o7.2.2.2.2.2.2.2):Sr),(0:Int),(0:Int))))=some (match zBr ts with| .inl z=>(qWy,z.1,z.2)| .inr f=>(f,0,0)):=by
 have h0:0<ts.length:=gL.2 hok.1
 obtain⟨M,hM⟩:∃M,N=M+1:=⟨N-1,by omega⟩
 have e0:((ts,(0:Int),(0:Int),(0:Int),[],[],[]):RT)=gR ts [] (0,[]):=rfl
 -- the loops behind an error
 have badD:∀(y5:RT×ByteArray) (o2:RL) (z:Flt) (st:RT),Bad ts z st→((qAx (qCm N y5 o2) N (addD st [])).bind fun o7=>if(o7.2.2.2.1 !=0)=true then(some (qWy,o7.2.2.1,o7.2.2.2.1)) else(some (((y5.2,o2.2.2.2.2.2.2.2,o7.2.2.2.2.2.2.2):Sr),(0:Int),(0:Int))))=some (qWy,z.1,z.2):=by
  rintro y5 o2 z st ⟨hz,i,pr',b,hi,rfl⟩
  have hb:qAx (qCm N y5 o2) N (addD (bR ts z i pr' b) [])=some (addD (bR ts z i pr' b) []):=by
   have e:qAx (qCm N y5 o2) N (addD (bR ts z i pr' b) [])=qAx (qCm N y5 o2) (M+1) (addD (bR ts z i pr' b) []):=by rw[←hM]
   rw[e];exact zAp hz M []
  have hz':((addD (bR ts z i pr' b) []).2.2.2.1 !=0)=true:=by simpa[bR,addD] using hz
  rw[hb]
  simp only[j0,hz',jH]
  rfl
 have badI:∀(y5:RT×ByteArray) (z:Flt) (i:Nat) (pr':List ByteArray) (b:List Ex),z.2≠0→i<ts.length→((qAx (qBz N y5) N (addL (bR ts z i pr' b) [])).bind fun o2=>(qAx (qCm N y5 o2) N (o2.1,o2.2.1,o2.2.2.1,o2.2.2.2.1,o2.2.2.2.2.1,o2.2.2.2.2.2.1,o2.2.2.2.2.2.2.1,[])).bind fun o7=>if(o7.2.2.2.1 !=0)=true then(some (qWy,o7.2.2.1,o7.2.2.2.1)) else(some (((y5.2,o2.2.2.2.2.2.2.2,o7.2.2.2.2.2.2.2):Sr),(0:Int),(0:Int))))=some (qWy,z.1,z.2):=by
  intro y5 z i pr' b hz hi
  have hb:qAx (qBz N y5) N (addL (bR ts z i pr' b) [])=some (addL (bR ts z i pr' b) []):=by
   have e:qAx (qBz N y5) N (addL (bR ts z i pr' b) [])=qAx (qBz N y5) (M+1) (addL (bR ts z i pr' b) []):=by rw[←hM]
   rw[e];exact qWk hz M []
  rw[hb]
  simp only[j0]
  exact badD y5 (addL (bR ts z i pr' b) []) z (bR ts z i pr' b) ⟨hz,i,pr',b,hi,rfl⟩
 have bad:∀(z:Flt) (i:Nat) (pr':List ByteArray) (b:List Ex),z.2≠0→i<ts.length→((qBj N (bR ts z i pr' b)).bind fun y5=>(qAi N y5.1 (⟨#[59]⟩:ByteArray)).bind fun y6=>(qAx (qBz N y5) N (addL y6 [])).bind fun o2=>(qAx (qCm N y5 o2) N (o2.1,o2.2.1,o2.2.2.1,o2.2.2.2.1,o2.2.2.2.2.1,o2.2.2.2.2.2.1,o2.2.2.2.2.2.2.1,[])).bind fun o7=>if(o7.2.2.2.1 !=0)=true then(some (qWy,o7.2.2.1,o7.2.2.2.1)) else(some (((y5.2,o2.2.2.2.2.2.2.2,o7.2.2.2.2.2.2.2):Sr),(0:Int),(0:Int))))=some (qWy,z.1,z.2):=by
  intro z i pr' b hz hi
  simp only[zBu hz hi,qNh hz hi,j0]
  exact badI _ z i pr' b hz hi
 rw[e0]
 simp only[qMq (0,[]) h0 hl,j0,zBr,qVy,qUr]
 rcases qEf (isC ts 1 ⟨#[112,97,99,107,97,103,101]⟩ 0) with c1|c1
 rotate_left
 ·simp only[c1,jA,jE,jW,jH,qKj (0,[]) h0,qLa,j0,qGy,qCf]
  exact bad _ _ _ _ (show(9:Int)≠0 by decide) h0
 have g1:=qFf hok h0 (by decide) c1
 simp only[c1,jH,k7,jA,jE,j0,qVn (0+1,[]) g1 hl (by omega:100<N),qCf]
 cases h2:qNu ts (0+1) with
 |inl z=>
  have hz:=zCp h2
  simp only[qNh hz g1,j0]
  exact badI _ z _ _ _ hz g1
 |inr x=>
  obtain⟨rfl,g2,-⟩:=qMl hok g1 h2
  simp only[qNz (0+1+1,[]) g2 hl,j0,qVi]
  cases h3:qFe ts ⟨#[59]⟩ (0+1+1) with
  |inl z=>exact badI _ z _ _ _ (qMr h3) g2
  |inr j=>
   obtain⟨rfl,g3,-⟩:=qFg hok g2 h3
   obtain⟨o,ho,hr⟩:=qVa (N:=N) (pr:=[]) (b:=[]) (y5:=(gR ts [] (0+1+1,[]),(tkAt ts (0+1)).2.1)) hok hl hN (ts.length+1) N [] (0+1+1+1) g3 (by simp) (by omega) (by omega)
   simp only[ho,j0]
   cases h4:qLq ts (tkAt ts (0+1)).2.1 (ts.length+1) [] (0+1+1+1) with
   |inl z=>
    rw[show qLq ts ((gR ts [] (0+1+1,[]),(tkAt ts (0+1)).2.1):RT×ByteArray).2 (ts.length+1) [] (0+1+1+1)=qLq ts (tkAt ts (0+1)).2.1 (ts.length+1) [] (0+1+1+1) from rfl,h4] at hr
    obtain⟨st,l,hbad,rfl⟩:=hr
    exact badD _ (addL st l) z st hbad
   |inr y=>
    rw[show qLq ts ((gR ts [] (0+1+1,[]),(tkAt ts (0+1)).2.1):RT×ByteArray).2 (ts.length+1) [] (0+1+1+1)=qLq ts (tkAt ts (0+1)).2.1 (ts.length+1) [] (0+1+1+1) from rfl,h4] at hr
    have hr':o=addL (gR ts [] (y.1,[])) y.2:=hr
    obtain⟨k1,k2,k3⟩:=qQg hok _ _ _ y g3 (by simp) h4
    obtain⟨o2,ho2,hr2⟩:=qZb (N:=N) (y5:=(gR ts [] (0+1+1,[]),(tkAt ts (0+1)).2.1)) (o2:=o) hok hl hN (ts.length+1) N [] y.1 [] [] k2 (by simp) (by omega) (by omega)
    have e3:(o.1,o.2.1,o.2.2.1,o.2.2.2.1,o.2.2.2.2.1,o.2.2.2.2.2.1,o.2.2.2.2.2.2.1,([]:List Dl))=addD (gR ts [] (y.1,[])) []:=by rw[hr'];rfl
    rw[e3,ho2]
    simp only[j0]
    cases h5:qUb ts (ts.length+1) [] y.1 with
    |inl z=>
     rw[h5] at hr2
     obtain⟨st,l,⟨hz,i,pr',b,hi,rfl⟩,rfl⟩:=hr2
     have hz':((addD (bR ts z i pr' b) l).2.2.2.1 !=0)=true:=by simpa[bR,addD] using hz
     simp only[hz',jH]
     rfl
    |inr l=>
     rw[h5] at hr2
     obtain⟨pr',p',rfl⟩:=hr2
     have hz':((addD (gR ts pr' p') l).2.2.2.1 !=0)=false:=rfl
     simp only[hz',jA,jE]
     rw[hr']
     rfl
end
theorem zFa{N:Nat}(s:ByteArray)(hN:1000005<N):qJk N s=some (qKw s):=by
 simp only[qJk,zCt (N:=N) (by omega),j0,qKw]
 by_cases h:(qHy s).2.2=0
 ·rw[if_neg (show ¬((qHy s).2.2 !=0)=true by simpa using h),if_neg (show ¬(qHy s).2.2≠0 by simpa using h)]
  obtain⟨h1,h2,h3⟩:=qWc h
  have hf:=rfile (N:=N) h1 (by omega) hN
  refine Eq.trans ?_ (Eq.trans hf ?_)
  ·simp only[Prod.eta,obs];rfl
  ·cases zBr (qHy s).1<;>rfl
 ·rw[if_pos (show((qHy s).2.2 !=0)=true by simpa using h),if_pos h];rfl
end
section
open Go Go.Dc Go.Proofs
def qWz{α τ:Type}(g:Nat→τ→α→τ):Nat→τ→List α→τ
 |_,t,[]=>t
 |i,t,x::l=>qWz g (i+1) (g i t x) l
theorem qWa{α τ σ β:Type}{L:List α}(enc:τ→Nat→σ){f:σ→Option (σ⊕β)}(g:Nat→τ→α→τ)(fin:τ→β)
  (hstep:∀t i,∀hi:i<L.length,f (enc t i)=some (.inl (enc (g i t L[i]) (i+1))))
  (hfin:∀t,f (enc t L.length)=some (.inr (fin t))):∀(d i M:Nat) (t:τ),i+d=L.length→d<M→qAx f M (enc t i)=some (fin (qWz g i t (L.drop i)))
 |_,_,0,_,_,h=>absurd h (kP _)
 |0,i,M+1,t,h1,h2=>by
  have hi:i=L.length:=by omega
  subst hi
  simp only[qAx,hfin t,j0,List.drop_length,qWz]
 |d+1,i,M+1,t,h1,h2=>by
  have hi:i<L.length:=by omega
  simp only[qAx,hstep t i hi,j0]
  rw[qTn hi]
  exact qWa enc g fin hstep hfin d (i+1) M _ (by omega) (by omega)
abbrev Ent:=ByteArray×ByteArray×Int×ByteArray×Int×Int
abbrev K3:=Int×ByteArray×ByteArray
abbrev Occ:=ByteArray×ByteArray×Int×ByteArray×Int
def keyC(kind:Int)(pkg name:ByteArray):K3:=(kind,if kind=3 then qJl else pkg,name)
def okey(o:Occ):K3:=keyC o.2.2.1 o.1 o.2.1
def qPa(M:List (K3×Ent))(o:Occ):List (K3×Ent):=
 mset M (okey o) (match mget M (okey o) with
  |some x=>(x.1,x.2.1,x.2.2.1,x.2.2.2.1,x.2.2.2.2.1,IntKind.wrap .i64 (x.2.2.2.2.2+1))
  |none=>(o.1,o.2.1,o.2.2.1,o.2.2.2.1,o.2.2.2.2,1))
def qRb(path pkg:ByteArray):Nat→List Dl→List Occ
 |_,[]=>[]
 |i,d::l=>(pkg,d.2.1,d.1,path,(i:Int))::qRb path pkg (i+1) l
def qWw(f:File):Bool:=qJd f.1&&decide ((qKw f.2).2.2=0)
def qKz(L:List File):List (ByteArray×Sr):=(L.filter qWw).map fun f=>(f.1,(qKw f.2).1)
def qNw(L:List File):List ByteArray:=(L.filter fun f=>qJd f.1&& !decide ((qKw f.2).2.2=0)).map (·.1)
def qRy(l:List (ByteArray×Sr)):List Occ:=l.flatMap fun x=>qRb x.1 x.2.1 0 x.2.2.2
abbrev Wld:=List File×Bool×Option (List (ByteArray×Sr))×List ByteArray×Option (List (K3×Ent))
def qLr(L:List File):Wld:=
 if qKx L=0 then(L,true,some ((qKz L).foldl (fun S x=>mset S x.1 x.2) []),qNw L,some ((qRy (qKz L)).foldl qPa [])) else(L,false,some [],[],some [])
theorem zAf(path pkg:ByteArray):∀(l:List Dl) (i:Nat) (M:List (K3×Ent)),
  qWz (fun i M (d:Dl)=>qPa M (pkg,d.2.1,d.1,path,(i:Int))) i M l=(qRb path pkg i l).foldl qPa M
 |[],_,_=>rfl
 |d::l,i,M=>by simp only[qWz,qRb,kI];exact zAf path pkg l (i+1) _
theorem qWr{N:Nat}(a:Int)(b c:ByteArray):qRa N a b c=some (keyC a b c):=by
 unfold qRa keyC
 by_cases h:a=3
 ·rw[if_pos (by simp[h]),if_pos h];rfl
 ·rw[if_neg (by simp[h]),if_neg h];rfl
theorem zIt{N:Nat}{x:File}{y:Sr×Int×Int}(hl:y.1.2.2.length<1000)(hN:1000<N)(M:List (K3×Ent)):
  qAx (qLt N x y) N (0,some M)=some (some ((qRb x.1 y.1.1 0 y.1.2.2).foldl qPa M)):=by
 have:=qWa (L:=y.1.2.2) (fun(M:List (K3×Ent)) i=>((i:Int),some M)) (f:=qLt N x y)
  (fun i M (d:Dl)=>qPa M (y.1.1,d.2.1,d.1,x.1,(i:Int))) (fun M=>some M) (by
   intro M i hi
   simp only[qLt]
   rw[if_pos (by simp only[jB];omega),qEc hi]
   simp only[j0,qWr]
   have ew:IntKind.wrap .i64 ((i:Int)+1)=((i+1:Nat):Int):=by rw[wi64 (by omega) (by omega)];omega
   simp only[ew]
   by_cases h:(qBe (some M) (keyC (y.1.2.2[i]).1 y.1.1 (y.1.2.2[i]).2.1)).isSome=true
   ·rw[if_pos h]
    unfold qPa okey
    simp only[qBe,qMc,j0,kD] at h ⊢
    obtain⟨v,hv⟩:=Option.isSome_iff_exists.1 h
    rw[hv];rfl
   ·rw[if_neg h]
    unfold qPa okey
    simp only[qBe,qMc,j0,kD] at h ⊢
    rw[show mget M (keyC (y.1.2.2[i]).1 y.1.1 (y.1.2.2[i]).2.1)=none by simpa using h]) (by
   intro M
   simp only[qLt]
   rw[if_neg (by simp)]) y.1.2.2.length 0 N M (by omega) (by omega)
 rw[jX,zAf] at this
 exact this
theorem zAg{ts:List Tok}(h:OkT ts):∀(n:Nat) (l:List Dl) (i:Nat) {r:List Dl},l.length≤64→i<ts.length→qUb ts n l i= .inr r→r.length≤64
 |0,_,_,_,_,_,h1=>by cases h1
 |n+1,l,i,r,hl,hi,h1=>by
  unfold qUb at h1
  split at h1
  ·cases h1;exact hl
  obtain⟨x,hx,h2⟩:=qDc h1
  obtain⟨-,g2,g3⟩:=qUo h hi hx
  exact zAg h n _ _ (by simp;omega) g2 h2
theorem qVu{s:ByteArray}:(qKw s).1.2.2.length≤64:=by
 unfold qKw
 by_cases h0:(qHy s).2.2=0
 ·rw[if_neg (not_not_intro h0)]
  obtain⟨hok,hlen,hsz⟩:=qWc h0
  have hpos:0<(qHy s).1.length:=by
   cases h:(qHy s).1 with
   |nil=>exact absurd h hok.1
   |cons a l=>exact Nat.succ_pos _
  cases hf:zBr (qHy s).1 with
  |inl z=>exact kO _
  |inr f=>
   simp only
   unfold zBr at hf
   obtain⟨i,h1,hf⟩:=qDc hf
   obtain⟨rfl,g1,-⟩:=qTk hok hpos h1
   obtain⟨a,h2,hf⟩:=qDc hf
   obtain⟨rfl,g2,-⟩:=qMl hok g1 h2
   obtain⟨j,h3,hf⟩:=qDc hf
   obtain⟨rfl,g3,-⟩:=qFg hok g2 h3
   obtain⟨b,h4,hf⟩:=qDc hf
   obtain⟨-,k2,-⟩:=qQg hok _ _ _ b g3 (by simp) h4
   obtain⟨l,h5,hf⟩:=qDc hf
   have:=zAg hok _ _ _ (by simp) k2 h5
   cases hf
   exact this
 ·rw[if_pos h0];exact kO _
def newF(t:List ByteArray×List (ByteArray×Sr)×List (K3×Ent))(f:File):List ByteArray×List (ByteArray×Sr)×List (K3×Ent):=
 if qJd f.1=false then t
 else if(qKw f.2).2.2=0 then(t.1,mset t.2.1 f.1 (qKw f.2).1,(qRb f.1 (qKw f.2).1.1 0 (qKw f.2).1.2.2).foldl qPa t.2.2)
 else(t.1++[f.1],t.2)
theorem qUu:∀(L:List File) (B:List ByteArray) (S:List (ByteArray×Sr)) (M:List (K3×Ent)),
  L.foldl newF (B,S,M)=(B++qNw L,(qKz L).foldl (fun S x=>mset S x.1 x.2) S,(qRy (qKz L)).foldl qPa M)
 |[],B,S,M=>by simp[qNw,qKz,qRy]
 |f::L,B,S,M=>by
  rw[kI]
  by_cases h1:qJd f.1=true
  ·by_cases h2:(qKw f.2).2.2=0
   ·have e:newF (B,S,M) f=(B,mset S f.1 (qKw f.2).1,(qRb f.1 (qKw f.2).1.1 0 (qKw f.2).1.2.2).foldl qPa M):=by
     unfold newF;rw[if_neg (by simp[h1]),if_pos h2]
    have el:qKz (f::L)=(f.1,(qKw f.2).1)::qKz L:=by
     unfold qKz;rw[kM,if_pos (show qWw f=true by simp[qWw,h1,h2])];rfl
    have eb:qNw (f::L)=qNw L:=by
     unfold qNw;rw[kM,if_neg (by simp[h2])]
    rw[e,qUu L,el,eb]
    simp only[kI,qRy,List.flatMap_cons,fJ]
   ·have e:newF (B,S,M) f=(B++[f.1],S,M):=by
     unfold newF;rw[if_neg (by simp[h1]),if_neg h2]
    have el:qKz (f::L)=qKz L:=by
     unfold qKz;rw[kM,if_neg (by simp[qWw,h2])]
    have eb:qNw (f::L)=f.1::qNw L:=by
     unfold qNw;rw[kM,if_pos (by simp[h1,h2])];rfl
    rw[e,qUu L,el,eb]
    simp
  ·have h1:qJd f.1=false:=by simpa using h1
   have e:newF (B,S,M) f=(B,S,M):=by unfold newF;rw[if_pos h1]
   have el:qKz (f::L)=qKz L:=by
    unfold qKz;rw[kM,if_neg (by simp[qWw,h1])]
   have eb:qNw (f::L)=qNw L:=by
    unfold qNw;rw[kM,if_neg (by simp[h1])]
   rw[e,qUu L,el,eb]
theorem zIo{N:Nat}{L:List File}(hP:qPp N L)(hl:L.length≤64)(hN:1000001<N):
  qAx (qLx N L) N (0,[],some [],some [])=some (qNw L,some ((qKz L).foldl (fun S x=>mset S x.1 x.2) []),some ((qRy (qKz L)).foldl qPa [])):=by
 have h:=qVl (L:=L) (fun(t:List ByteArray×List (ByteArray×Sr)×List (K3×Ent)) (i:Nat)=>((i:Int),t.1,some t.2.1,some t.2.2)) (f:=qLx N L)
  (fun t f=> .inl (newF t f)) (fun t=>(t.1,some t.2.1,some t.2.2)) (fun i t=>t.1.length≤i) (by
   intro t i hi hI
   simp only[qLx]
   rw[if_pos (by simp only[jB];omega),qEc hi]
   have ew:IntKind.wrap .i64 ((i:Int)+1)=((i+1:Nat):Int):=by rw[wi64 (by omega) (by omega)];omega
   have hs:=zFs (N:=N) (hP _ (kA hi))
   simp only[j0,hs,zLv _ hN,ew]
   unfold newF
   by_cases h1:qJd (L[i]).1=true
   ·by_cases h2:(qKw (L[i]).2).2.2=0
    ·rw[if_neg (by simp[h1]),if_neg (by simp[h2]),if_neg (by simp[h1]),if_pos h2,zIt (by have:=qVu (s:=(L[i]).2);omega) (by omega)]
     simp only[qMc,kD,j0]
    ·rw[if_neg (by simp[h1]),if_pos (by simpa using h2),if_neg (by simp[h1]),if_neg h2,qCa (by simp only[jC,jD];omega) (by omega)]
     simp only[j0]
   ·have h1:qJd (L[i]).1=false:=by simpa using h1
    rw[if_pos (by simp[h1]),if_pos h1]
    simp only[j0]) (by
   intro t i hi t' hI h
   cases h
   unfold newF
   split
   ·omega
   ·split
    ·exact Nat.le_succ_of_le hI
    ·simp only[jL,jC,jD];omega) (by
   intro t hI
   simp only[qLx]
   rw[if_neg (by simp)]) (M:=N) (t:=([],[],[])) (by omega) (kO _)
 rw[show((0:Nat):Int)=0 from rfl] at h
 rw[h,qXe newF (fun _ _=>rfl),qUu]
 simp only[kG]
theorem zNs{N:Nat}{L:List File}(hP:qPp N L)(hN:1000001<N):qQz N L=some (qLr L):=by
 simp only[qQz,zMz hP (show 100<N by omega),j0]
 unfold qLr
 by_cases hc:qKx L=0
 ·rw[if_neg (by simp[hc]),if_pos hc,zIo hP (qPt.1 hc).1 hN]
  simp only[j0,hc];rfl
 ·rw[if_pos (by simpa using hc),if_neg hc]
  simp only[show(qKx L==0)=false by simpa using hc]
def seeE(kind:Int)(pkg name:ByteArray)(e:Ent)(o:Occ):Ent:=
 if okey o=keyC kind pkg name then(if e.2.2.2.2.2=0 then(o.1,name,kind,o.2.2.2.1,o.2.2.2.2,1) else(e.1,e.2.1,e.2.2.1,e.2.2.2.1,e.2.2.2.2.1,e.2.2.2.2.2+1)) else e
def noE(kind:Int)(pkg name:ByteArray):Ent:=(if kind=3 then qJl else pkg,name,kind,qJl,0,0)
def entE(O:List Occ)(kind:Int)(pkg name:ByteArray):Ent:=O.foldl (seeE kind pkg name) (noE kind pkg name)
theorem zBd{k k':Int}{p p' n n':ByteArray}(h:keyC k p n=keyC k' p' n'):k=k'∧n=n'∧(k=3∨p=p'):=by
 simp only[keyC,Prod.mk.injEq] at h
 obtain⟨rfl,h2,h3⟩:=h
 refine⟨rfl,h3,?_⟩
 by_cases h:k=3
 ·exact .inl h
 ·rw[if_neg h,if_neg h] at h2;exact .inr h2
def MapE(M:List (K3×Ent))(O:List Occ):Prop:=
 (M.map (·.1)).Nodup∧∀kind pkg name,mget M (keyC kind pkg name)=if(entE O kind pkg name).2.2.2.2.2=0 then none else some (entE O kind pkg name)
theorem qVq(kind:Int)(pkg name:ByteArray):∀(O:List Occ),0≤(entE O kind pkg name).2.2.2.2.2∧(entE O kind pkg name).2.2.2.2.2≤O.length∧((entE O kind pkg name).2.2.2.2.2=0→entE O kind pkg name=noE kind pkg name):=by
 suffices h:∀(O:List Occ) (e:Ent) (b:Nat),0≤e.2.2.2.2.2∧e.2.2.2.2.2≤b∧(e.2.2.2.2.2=0→e=noE kind pkg name)→
   0≤(O.foldl (seeE kind pkg name) e).2.2.2.2.2∧(O.foldl (seeE kind pkg name) e).2.2.2.2.2≤(b+O.length:Nat)∧((O.foldl (seeE kind pkg name) e).2.2.2.2.2=0→O.foldl (seeE kind pkg name) e=noE kind pkg name) by
  intro O
  have:=h O (noE kind pkg name) 0 ⟨fO _,fO _,fun _=>rfl⟩
  rw[gD] at this
  exact this
 intro O
 induction O with
 |nil=>intro e b h;exact h
 |cons o O ih=>
  intro e b h
  rw[kI]
  have:=ih (seeE kind pkg name e o) (b+1) (by
   unfold seeE
   split
   ·split
    ·exact⟨(by show(0:Int)≤1;decide),by show(1:Int)≤_;omega,fun h=>by simp at h⟩
    ·rename_i hc
     refine⟨by show(0:Int)≤e.2.2.2.2.2+1;omega,by show e.2.2.2.2.2+1≤_;omega,fun h1=> ?_⟩
     have h1:e.2.2.2.2.2+1=0:=h1
     omega
   ·exact⟨h.1,by omega,h.2.2⟩)
  rw[jC,show b+(O.length+1)=b+1+O.length by omega]
  exact this
theorem MapE.step{M:List (K3×Ent)}{O:List Occ}(h:MapE M O)(hO:O.length<1000000)(o:Occ):MapE (qPa M o) (O++[o]):=by
 refine⟨zFw h.1 _ _,fun kind pkg name=> ?_⟩
 have hb:=qVq kind pkg name O
 have hE:entE (O++[o]) kind pkg name=seeE kind pkg name (entE O kind pkg name) o:=by
  unfold entE;rw[fJ];rfl
 unfold qPa
 rw[zIi h.1,hE]
 by_cases hk:keyC kind pkg name=okey o
 ·rw[if_pos hk,←hk,h.2 kind pkg name]
  unfold seeE
  rw[if_pos hk.symm]
  obtain⟨e1,e2,e3⟩:=zBd hk
  by_cases hc:(entE O kind pkg name).2.2.2.2.2=0
  ·rw[if_pos hc,if_pos hc,if_neg (show ¬(1:Int)=0 by decide),←e1,←e2]
  ·rw[if_neg hc,if_neg hc,if_neg (show ¬(entE O kind pkg name).2.2.2.2.2+1=0 by omega)]
   simp only[wi64 (show-9223372036854775808≤(entE O kind pkg name).2.2.2.2.2+1 by omega) (by omega)]
 ·have hs:seeE kind pkg name (entE O kind pkg name) o=entE O kind pkg name:=by unfold seeE;rw[if_neg (fun e=>hk e.symm)]
  rw[if_neg hk,h.2 kind pkg name,hs]
theorem MapE.fold{O:List Occ}(hO:O.length<1000000):MapE (O.foldl qPa []) O:=by
 suffices h:∀(K:List Occ) (M:List (K3×Ent)) (J:List Occ),J.length+K.length<1000000→MapE M J→MapE (K.foldl qPa M) (J++K) by
  have:=h O [] [] (by simpa using hO) ⟨List.nodup_nil,fun kind pkg name=>by rw[show(entE [] kind pkg name).2.2.2.2.2=0 from rfl,if_pos rfl];rfl⟩
  exact this
 intro K
 induction K with
 |nil=>intro M J _ h;rw[List.append_nil];exact h
 |cons o K ih=>
  intro M J hl h
  rw[kI,show J++o::K=(J++[o])++K by simp]
  simp only[jC] at hl
  exact ih _ _ (by simp;omega) (h.step (by omega) o)
theorem zEx(path pkg:ByteArray):∀(l:List Dl) (i:Nat),(qRb path pkg i l).length=l.length
 |[],_=>rfl
 |_::l,i=>by simp only[qRb,jC,zEx path pkg l]
theorem zDy{L:List File}{x:ByteArray×Sr}(h:x∈qKz L):∃f∈L,qWw f=true∧x=(f.1,(qKw f.2).1):=by
 unfold qKz at h
 obtain⟨f,hf,rfl⟩:=fK.1 h
 exact⟨f,(gU.1 hf).1,(gU.1 hf).2,rfl⟩
theorem zDp(L:List File):(qKz L).length≤L.length:=by
 unfold qKz;rw[gI];exact List.length_filter_le _ _
theorem zDc:∀(l:List (ByteArray×Sr)),(∀x∈l,x.2.2.2.length≤64)→(qRy l).length≤64*l.length
 |[],_=>jV _
 |x::l,h=>by
  have:=zDc l fun y hy=>h y (k0 _ hy)
  have:=h x (jU ..)
  unfold qRy at*
  rw[List.flatMap_cons,jL,zEx,jC]
  omega
theorem zKi{L:List File}(hl:L.length≤64):(qRy (qKz L)).length<1000000:=by
 have:=zDc (qKz L) fun x hx=>by
  obtain⟨f,_,_,rfl⟩:=zDy hx
  exact qVu
 have:=zDp L
 omega
def qXw:Ent:=(qJl,qJl,0,qJl,0,0)
def qIp(L:List File)(kind:Int)(pkg name:ByteArray):Ent:=if qKx L=0 then entE (qRy (qKz L)) kind pkg name else qXw
theorem zBi{N:Nat}{L:List File}(kind:Int)(pkg name:ByteArray):qIy N (qLr L) kind pkg name=some (qIp L kind pkg name):=by
 unfold qIy qLr qIp
 by_cases hc:qKx L=0
 ·simp only[if_pos hc]
  rw[if_neg (by simp)]
  simp only[qWr,j0]
  have hM:=(MapE.fold (zKi (qPt.1 hc).1)).2 kind pkg name
  have hb:=qVq kind pkg name (qRy (qKz L))
  generalize hq:qBe (some ((qRy (qKz L)).foldl qPa [])) (keyC kind pkg name)=q
  have hq:q=if(entE (qRy (qKz L)) kind pkg name).2.2.2.2.2=0 then none else some (entE (qRy (qKz L)) kind pkg name):=hq.symm.trans hM
  by_cases h0:(entE (qRy (qKz L)) kind pkg name).2.2.2.2.2=0
  ·rw[if_pos h0] at hq
   subst hq
   rw[if_neg (by simp),hb.2.2 h0];rfl
  ·rw[if_neg h0] at hq
   subst hq
   rw[if_pos (show(some (entE (qRy (qKz L)) kind pkg name)).isSome=true from rfl)];rfl
 ·simp only[if_neg hc]
  rw[if_pos (show(!false)=true from rfl)];rfl
end
section
open Go Go.Dc Go.Proofs
theorem qUm{α τ σ β:Type}{L:List α}(enc:τ→Nat→σ){f:σ→Option (σ⊕β)}(g:Nat→τ→α→τ)(fin:τ→β)(I:Nat→τ→Prop)
  (hstep:∀t i,∀hi:i<L.length,I i t→f (enc t i)=some (.inl (enc (g i t L[i]) (i+1)))∧I (i+1) (g i t L[i]))
  (hfin:∀t,I L.length t→f (enc t L.length)=some (.inr (fin t))):∀(d i M:Nat) (t:τ),i+d=L.length→d<M→I i t→qAx f M (enc t i)=some (fin (qWz g i t (L.drop i)))∧I L.length (qWz g i t (L.drop i))
 |_,_,0,_,_,h,_=>absurd h (kP _)
 |0,i,M+1,t,h1,h2,h3=>by
  have hi:i=L.length:=by omega
  subst hi
  simp only[qAx,hfin t h3,j0,List.drop_length,qWz]
  exact⟨trivial,h3⟩
 |d+1,i,M+1,t,h1,h2,h3=>by
  have hi:i<L.length:=by omega
  obtain⟨k1,k2⟩:=hstep t i hi h3
  simp only[qAx,k1,j0]
  rw[qTn hi]
  exact qUm enc g fin I hstep hfin d (i+1) M _ (by omega) (by omega) k2
def srcP(L:List File)(p:ByteArray):Sr×Bool:=match(if qKx L=0 then fget L p else none) with
 |some b=>if qJd p=true then((qKw b).1,decide ((qKw b).2.2=0)) else(qWy,false)
 |none=>(qWy,false)
theorem zEe{N:Nat}{L:List File}{p:ByteArray}(hN:1000005<N):qJc N L p=some (srcP L p):=by
 simp only[qJc,zAx p (show 100<N by omega),j0,qZi (show 100<N by omega),zFa _ hN]
 unfold srcP zMc
 by_cases hc:qKx L=0
 ·rw[if_pos hc,if_pos hc]
  cases hg:fget L p with
  |none=>rfl
  |some b=>
   simp only[zGl]
   by_cases hs:qJd p=true
   ·rw[if_pos hs,hs]
    simp only[k7,jA,jE,j0]
    congr 2
   ·have hs':qJd p=false:=by simpa using hs
    rw[if_neg hs,hs']
    rfl
 ·rw[if_neg hc,if_neg hc];rfl
theorem zNb{L:List File}(hc:qKx L=0){f:File}(hf:f∈L):(srcP L f.1).2=qWw f∧(qWw f=true→(srcP L f.1).1=(qKw f.2).1):=by
 unfold srcP
 rw[if_pos hc,zGe (qPt.1 hc).2.1 hf]
 simp only[qWw]
 by_cases hs:qJd f.1=true
 ·rw[if_pos hs,hs];exact⟨by simp,fun _=>rfl⟩
 ·rw[if_neg hs]
  have hs':qJd f.1=false:=by simpa using hs
  rw[hs'];exact⟨rfl,fun h=>by simp at h⟩
def zBn(t:List ByteArray×List Sr)(f:File):List ByteArray×List Sr:=if qWw f=true then(t.1++[f.1],t.2++[(qKw f.2).1]) else t
theorem qVk:∀(L:List File) (P:List ByteArray) (S:List Sr),L.foldl zBn (P,S)=(P++(qKz L).map (·.1),S++(qKz L).map (·.2))
 |[],P,S=>by simp[qKz]
 |f::L,P,S=>by
  rw[kI]
  by_cases h:qWw f=true
  ·have el:qKz (f::L)=(f.1,(qKw f.2).1)::qKz L:=by unfold qKz;rw[kM,if_pos h];rfl
   rw[show zBn (P,S) f=(P++[f.1],S++[(qKw f.2).1]) by unfold zBn;rw[if_pos h],qVk L,el]
   simp
  ·have el:qKz (f::L)=qKz L:=by unfold qKz;rw[kM,if_neg h]
   rw[show zBn (P,S) f=(P,S) by unfold zBn;rw[if_neg h],qVk L,el]
def qVf(L:List File):List (ByteArray×Sr):=if qKx L=0 then qKz L else[]
theorem qZt{N:Nat}{L:List File}(hN:1000005<N):qIq N L=some ((qVf L).map (·.1),(qVf L).map (·.2)):=by
 simp only[qIq,qRs (show 100<N by omega),j0]
 unfold qVf
 by_cases hc:qKx L=0
 ·rw[if_neg (by simp[hc]),if_pos hc]
  have hl:=(qPt.1 hc).1
  have h:=qVl (L:=L) (fun(t:List ByteArray×List Sr) (i:Nat)=>((i:Int),t.1,t.2)) (f:=qGt N L)
   (fun t f=> .inl (zBn t f)) (fun t=>(t.1,t.2)) (fun i t=>t.1.length≤i∧t.2.length≤i) (by
    intro t i hi hI
    simp only[qGt]
    rw[if_pos (by simp only[jB];omega),qEc hi]
    have ew:IntKind.wrap .i64 ((i:Int)+1)=((i+1:Nat):Int):=by rw[wi64 (by omega) (by omega)];omega
    have hs:=zNb hc (kA hi)
    simp only[j0,zEe hN,ew,hs.1]
    unfold zBn
    by_cases h1:qWw L[i]=true
    ·rw[if_pos h1,if_pos h1,qCa (by simp only[jC,jD];omega) (by omega)]
     simp only[j0]
     rw[qCa (by simp only[jC,jD];omega) (by omega)]
     simp only[j0,hs.2 h1]
    ·rw[if_neg h1,if_neg h1];rfl) (by
    intro t i hi t' hI h
    cases h
    unfold zBn
    split
    ·simp only[jL,jC,jD];omega
    ·omega) (by
    intro t hI
    simp only[qGt]
    rw[if_neg (by simp)]) (M:=N) (t:=([],[])) (by omega) ⟨kO _,kO _⟩
  rw[show((0:Nat):Int)=0 from rfl] at h
  rw[h,qXe zBn (fun _ _=>rfl),qVk]
  simp only[kG,j0]
 ·rw[if_pos (by simpa using hc),if_neg hc];rfl
theorem zAv(kind:Int)(pkg name path p:ByteArray):∀(l:List Dl) (i:Nat) (e:Ent),
  qWz (fun i e (d:Dl)=>seeE kind pkg name e (p,d.2.1,d.1,path,(i:Int))) i e l=(qRb path p i l).foldl (seeE kind pkg name) e
 |[],_,_=>rfl
 |d::l,i,e=>by simp only[qWz,qRb,kI];exact zAv kind pkg name path p l (i+1) _
theorem skipE{kind:Int}{pkg name path p:ByteArray}(hk:kind≠3)(hp:p≠pkg):∀(l:List Dl) (i:Nat) (e:Ent),(qRb path p i l).foldl (seeE kind pkg name) e=e
 |[],_,_=>rfl
 |d::l,i,e=>by
  have:seeE kind pkg name e (p,d.2.1,d.1,path,(i:Int))=e:=by
   unfold seeE
   rw[if_neg]
   intro h
   obtain⟨e1,e2,e3⟩:=zBd h
   rcases e3 with e3|e3
   ·exact hk (by rw[←e1];exact e3)
   ·exact hp e3
  simp only[qRb,kI,this]
  exact skipE hk hp l (i+1) e
def EntI(kind:Int)(name:ByteArray)(b:Nat)(e:Ent):Prop:=e.2.1=name∧e.2.2.1=kind∧0≤e.2.2.2.2.2∧e.2.2.2.2.2≤(b:Int)
theorem EntI.see{kind:Int}{pkg name:ByteArray}{b:Nat}{e:Ent}(h:EntI kind name b e)(o:Occ):EntI kind name (b+1) (seeE kind pkg name e o):=by
 obtain⟨h1,h2,h3,h4⟩:=h
 unfold seeE
 split
 ·split
  ·exact⟨rfl,rfl,(by show(0:Int)≤1;decide),(by show(1:Int)≤_;omega)⟩
  ·exact⟨h1,h2,(by show(0:Int)≤e.2.2.2.2.2+1;omega),(by show e.2.2.2.2.2+1≤_;omega)⟩
 ·exact⟨h1,h2,h3,by omega⟩
theorem zGi{N:Nat}{P:List ByteArray×List Sr}{kind:Int}{pkg name path:ByteArray}{s1:Int×ByteArray×ByteArray×Int×Int}{x:Sr}(hx:idx P.1 s1.1=some path)(hpk:kind=3∨x.1=pkg)
  (hl:x.2.2.length≤64) (hN:1000<N) {b:Nat} (hb:b<1000000) {e:Ent} (hI:EntI kind name b e):
  qAx (qEm N P kind name s1 x) N (0,e.1,e.2.2.2.1,e.2.2.2.2.1,e.2.2.2.2.2)=some (((qRb path x.1 0 x.2.2).foldl (seeE kind pkg name) e).1,((qRb path x.1 0 x.2.2).foldl (seeE kind pkg name) e).2.2.2.1,((qRb path x.1 0 x.2.2).foldl (seeE kind pkg name) e).2.2.2.2.1,((qRb path x.1 0 x.2.2).foldl (seeE kind pkg name) e).2.2.2.2.2)
  ∧EntI kind name (b+64) ((qRb path x.1 0 x.2.2).foldl (seeE kind pkg name) e):=by
 have:=qUm (L:=x.2.2) (fun(e:Ent) (i:Nat)=>((i:Int),e.1,e.2.2.2.1,e.2.2.2.2.1,e.2.2.2.2.2)) (f:=qEm N P kind name s1 x)
  (fun i e (d:Dl)=>seeE kind pkg name e (x.1,d.2.1,d.1,path,(i:Int))) (fun e=>(e.1,e.2.2.2.1,e.2.2.2.2.1,e.2.2.2.2.2)) (fun i e=>EntI kind name (b+i) e) (by
   intro e i hi hI
   refine⟨?_,hI.see _⟩
   obtain⟨h1,h2,h3,h4⟩:=hI
   simp only[qEm]
   rw[if_pos (by simp only[jB];omega),qEc hi]
   have ew:IntKind.wrap .i64 ((i:Int)+1)=((i+1:Nat):Int):=by rw[wi64 (by omega) (by omega)];omega
   have ec:IntKind.wrap .i64 (e.2.2.2.2.2+1)=e.2.2.2.2.2+1:=wi64 (by omega) (by omega)
   simp only[j0,ew,ec,eqB,hx]
   have hkey:okey (x.1,(x.2.2[i]).2.1,(x.2.2[i]).1,path,(i:Int))=keyC kind pkg name↔(x.2.2[i]).1=kind∧(x.2.2[i]).2.1=name:=by
    constructor
    ·intro h;obtain⟨e1,e2,-⟩:=zBd h;exact⟨e1,e2⟩
    ·rintro⟨e1,e2⟩
     unfold okey keyC
     simp only[e1,e2]
     rcases hpk with rfl|rfl
     ·rfl
     ·rfl
   unfold seeE
   by_cases hk:(x.2.2[i]).1=kind
   ·rw[if_pos (show((x.2.2[i]).1==kind)=true by simp[hk])]
    simp only[j0,jB]
    by_cases hn:(x.2.2[i]).2.1=name
    ·rw[if_pos hn,if_pos (hkey.2 ⟨hk,hn⟩)]
     by_cases hc:e.2.2.2.2.2=0
     ·rw[if_pos (by simp[hc]),if_pos hc,hc];rfl
     ·rw[if_neg (show ¬(e.2.2.2.2.2+1==1)=true by rw[jY];omega),if_neg hc];rfl
    ·rw[if_neg hn,if_neg (fun h=>hn (hkey.1 h).2)];rfl
   ·rw[if_neg (show ¬((x.2.2[i]).1==kind)=true by simp[hk])]
    simp only[j0,jA,jE]
    rw[if_neg (fun h=>hk (hkey.1 h).1)]) (by
   intro e _
   simp only[qEm]
   rw[if_neg (by simp)]) x.2.2.length 0 N e (by omega) (by omega) hI
 rw[jX,zAv] at this
 refine⟨this.1,?_⟩
 obtain⟨h1,h2,h3,h4⟩:=this.2
 exact⟨h1,h2,h3,by omega⟩
theorem qXs(kind:Int)(pkg name:ByteArray):∀(l:List (ByteArray×Sr)) (i:Nat) (e:Ent),
  qWz (fun _ e (x:ByteArray×Sr)=>(qRb x.1 x.2.1 0 x.2.2.2).foldl (seeE kind pkg name) e) i e l=(qRy l).foldl (seeE kind pkg name) e
 |[],_,_=>rfl
 |x::l,i,e=>by
  simp only[qWz,qRy,List.flatMap_cons,fJ]
  exact qXs kind pkg name l (i+1) _
theorem zDn{N:Nat}{l:List (ByteArray×Sr)}(kind:Int)(pkg name:ByteArray)(hl:l.length≤64)(hd:∀x∈l,x.2.2.2.length≤64)(hN:1000<N):
  qEr N (l.map (·.1),l.map (·.2)) kind pkg name=some (entE (qRy l) kind pkg name):=by
 unfold qEr
 have h:=qUm (L:=l) (fun(e:Ent) (i:Nat)=>((i:Int),e.1,e.2.2.2.1,e.2.2.2.2.1,e.2.2.2.2.2)) (f:=qEn N (l.map (·.1),l.map (·.2)) kind pkg name)
  (fun _ e (x:ByteArray×Sr)=>(qRb x.1 x.2.1 0 x.2.2.2).foldl (seeE kind pkg name) e) (fun e=>(e.1,e.2.2.2.1,e.2.2.2.2.1,e.2.2.2.2.2)) (fun i e=>EntI kind name (64*i) e) (by
   intro e i hi hI
   have hi1:i<(l.map (·.1)).length:=by simpa using hi
   have hi2:i<(l.map (·.2)).length:=by simpa using hi
   have ew:IntKind.wrap .i64 ((i:Int)+1)=((i+1:Nat):Int):=by rw[wi64 (by omega) (by omega)];omega
   have ex:idx (l.map (·.1)) (i:Int)=some (l[i]).1:=by rw[qEc hi1];simp
   simp only[qEn]
   rw[if_pos (by simp only[jB];omega),qEc hi2]
   simp only[j0,ew,List.getElem_map,eqB]
   by_cases hs:kind≠3∧(l[i]).2.1≠pkg
   ·rw[if_pos (show(kind !=3)=true by simp[hs.1])]
    simp only[j0]
    rw[if_pos (by simp[hs.2]),skipE hs.1 hs.2]
    refine⟨rfl,?_⟩
    obtain⟨h1,h2,h3,h4⟩:=hI
    exact⟨h1,h2,h3,by omega⟩
   ·have hpk:kind=3∨(l[i]).2.1=pkg:=by
     by_cases h:kind=3
     ·exact .inl h
     ·exact .inr (Decidable.byContradiction fun h2=>hs ⟨h,h2⟩)
    have hloop:=zGi (N:=N) (P:=(l.map (·.1),l.map (·.2))) (s1:=((i:Int),e.1,e.2.2.2.1,e.2.2.2.2.1,e.2.2.2.2.2)) (x:=(l[i]).2) (path:=(l[i]).1) (pkg:=pkg) ex hpk (hd _ (kA hi)) hN (b:=64*i) (by omega) hI
    have hsk:(if(kind !=3)=true then some (!decide ((l[i]).2.1=pkg)) else some false:Option Bool)=some false:=by
     rcases hpk with h|h
     ·rw[if_neg (by simp[h])]
     ·by_cases hk:kind=3
      ·rw[if_neg (by simp[hk])]
      ·rw[if_pos (by simp[hk]),jM h];rfl
    rw[hsk]
    simp only[j0,jA,jE,hloop.1]
    refine⟨trivial,?_⟩
    rw[show 64*(i+1)=64*i+64 by omega]
    exact hloop.2) (by
   intro e _
   simp only[qEn]
   rw[if_neg (by simp)]) l.length 0 N (noE kind pkg name) (by omega) (by omega) ⟨rfl,rfl,fO _,fO _⟩
 rw[jX,qXs] at h
 have e0:(if(kind==3)=true then some (⟨#[]⟩:ByteArray) else some pkg)=some (noE kind pkg name).1:=by
  unfold noE
  by_cases h:kind=3
  ·rw[if_pos (by simp[h]),if_pos h];rfl
  ·rw[if_neg (by simp[h]),if_neg h]
 rw[e0]
 simp only[j0]
 refine Eq.trans (congrArg (fun z=>Option.bind z _) (show qAx (qEn N (l.map (·.1),l.map (·.2)) kind pkg name) N (0,(noE kind pkg name).1,(⟨#[]⟩:ByteArray),0,0)=_ from h.1)) ?_
 have h1:=h.2.1
 have h2:=h.2.2.1
 unfold entE
 simp only[j0]
 exact congrArg some (Prod.ext rfl (Prod.ext h1.symm (Prod.ext h2.symm rfl)))
theorem qXc(L:List File):(qVf L).length≤64∧∀x∈qVf L,x.2.2.2.length≤64:=by
 unfold qVf
 by_cases hc:qKx L=0
 ·rw[if_pos hc]
  refine⟨fD (zDp L) (qPt.1 hc).1,fun x hx=> ?_⟩
  obtain⟨f,_,_,rfl⟩:=zDy hx
  exact qVu
 ·rw[if_neg hc];exact⟨kO _,fun x hx=>by cases hx⟩
end
section
open Go Go.Dc Go.Proofs
def qZk(E:ByteArray→Ent)(name:ByteArray):List ByteArray→List K3→Ent×List K3×Int
 |[],acc=>(qXw,acc,11)
 |p::l,acc=>
  if(E p).2.2.2.2.2=0 then qZk E name l (acc++[(1,p,name)])
  else if 1<(E p).2.2.2.2.2 then(qXw,acc++[(1,p,name)],12)
  else(E p,acc++[(1,p,name)],0)
def qZn(L:List File)(pkg:ByteArray)(imps:List ByteArray)(name:ByteArray):Ent×List K3×Int:=
 if qKx L=0∧qXb name=true then qZk (fun p=>qIp L 1 p name) name (pkg::imps) [] else(qXw,[],1)
def zFq(L:List File)(path:ByteArray):Int×Ent×List K3×Int:=
 if qKx L=0∧qKv path.data.toList=true then
  (match fget L path with
  |some _=>(1,qXw,[(4,path,qJl)],0)
  |none=>if(qIp L 3 qJl path).2.2.2.2.2=0 then(0,qXw,[(4,path,qJl),(3,path,qJl)],14)
   else if 1<(qIp L 3 qJl path).2.2.2.2.2 then(3,qXw,[(4,path,qJl),(3,path,qJl)],12)
   else(2,qIp L 3 qJl path,[(4,path,qJl),(3,path,qJl)],0))
 else(0,qXw,[],1)
theorem qZd(L:List File)(kind:Int)(pkg name:ByteArray):0≤(qIp L kind pkg name).2.2.2.2.2:=by
 unfold qIp
 split
 ·exact(qVq kind pkg name _).1
 ·exact fO _
def wres(E:ByteArray→Ent)(name:ByteArray)(x:Ent)(acc:List K3):List ByteArray→Ent×List K3×Nat
 |[]=>(x,acc,0)
 |p::l=>if(E p).2.2.2.2.2>0 then(E p,acc++[(1,p,name)],1) else wres E name (E p) (acc++[(1,p,name)]) l
def wfin(r:Ent×List K3×Nat):Ent×List K3×Int:=
 if r.1.2.2.2.2.2=0 then(qXw,r.2.1,11) else if 1<r.1.2.2.2.2.2 then(qXw,r.2.1,12) else(r.1,r.2.1,0)
theorem zGp{E:ByteArray→Ent}(hE:∀p,0≤(E p).2.2.2.2.2)(name:ByteArray):∀(l:List ByteArray) (x:Ent) (acc:List K3),x.2.2.2.2.2=0→wfin (wres E name x acc l)=qZk E name l acc
 |[],x,acc,hx=>by unfold wres wfin qZk;rw[if_pos hx]
 |p::l,x,acc,hx=>by
  unfold wres qZk
  have h:=hE p
  by_cases h0:(E p).2.2.2.2.2=0
  ·rw[if_neg (by omega),if_pos h0];exact zGp hE name l _ _ h0
  ·rw[if_pos (by omega),if_neg h0]
   unfold wfin
   simp only
   rw[if_neg h0]
theorem zEl{E:ByteArray→Ent}(name:ByteArray):∀(l:List ByteArray) (x:Ent) (acc:List K3),(wres E name x acc l).2.2=0∨(wres E name x acc l).2.2=1
 |[],x,acc=> .inl rfl
 |p::l,x,acc=>by
  unfold wres
  split
  ·exact .inr rfl
  ·exact zEl name l _ _
theorem zAz{N:Nat}{L:List File}{f:Sr}{name:ByteArray}(hl:f.2.1.length<1000):∀(d i M:Nat) (x:Ent) (acc:List K3),i+d=f.2.1.length→d<M→acc.length≤i+1→
  qAx (qJh N (qLr L) f name) M ((i:Int),x.1,x.2.1,x.2.2.1,x.2.2.2.1,x.2.2.2.2.1,x.2.2.2.2.2,acc)=
  some (match(wres (fun p=>qIp L 1 p name) name x acc (f.2.1.drop i)).2.2 with
   |0=> .inl ((wres (fun p=>qIp L 1 p name) name x acc (f.2.1.drop i)).1.1,(wres (fun p=>qIp L 1 p name) name x acc (f.2.1.drop i)).1.2.1,(wres (fun p=>qIp L 1 p name) name x acc (f.2.1.drop i)).1.2.2.1,(wres (fun p=>qIp L 1 p name) name x acc (f.2.1.drop i)).1.2.2.2.1,(wres (fun p=>qIp L 1 p name) name x acc (f.2.1.drop i)).1.2.2.2.2.1,(wres (fun p=>qIp L 1 p name) name x acc (f.2.1.drop i)).1.2.2.2.2.2,(wres (fun p=>qIp L 1 p name) name x acc (f.2.1.drop i)).2.1)
   |n+1=> .inr ((wres (fun p=>qIp L 1 p name) name x acc (f.2.1.drop i)).1.1,(wres (fun p=>qIp L 1 p name) name x acc (f.2.1.drop i)).1.2.1,(wres (fun p=>qIp L 1 p name) name x acc (f.2.1.drop i)).1.2.2.1,(wres (fun p=>qIp L 1 p name) name x acc (f.2.1.drop i)).1.2.2.2.1,(wres (fun p=>qIp L 1 p name) name x acc (f.2.1.drop i)).1.2.2.2.2.1,(wres (fun p=>qIp L 1 p name) name x acc (f.2.1.drop i)).1.2.2.2.2.2,(wres (fun p=>qIp L 1 p name) name x acc (f.2.1.drop i)).2.1,n+1))
 |_,_,0,_,_,_,h,_=>absurd h (kP _)
 |0,i,M+1,x,acc,h1,h2,h3=>by
  simp only[qAx,qJh]
  rw[if_neg (by simp only[jB];omega),jN (by omega)]
  rfl
 |d+1,i,M+1,x,acc,h1,h2,h3=>by
  have hi:i<f.2.1.length:=by omega
  simp only[qAx,qJh]
  rw[if_pos (by simp only[jB];omega),qEc hi,qTn hi]
  have ew:IntKind.wrap .i64 ((i:Int)+1)=((i+1:Nat):Int):=by rw[wi64 (by omega) (by omega)];omega
  simp only[j0,ew]
  rw[qCa (by simp only[jC,jD];omega) (by omega)]
  simp only[j0]
  have eW:∀w:Wld,(w.1,w.2.1,w.2.2.1,w.2.2.2.1,w.2.2.2.2)=w:=fun _=>rfl
  simp only[eW,zBi,j0,wres]
  by_cases h:(qIp L 1 (f.2.1[i]) name).2.2.2.2.2>0
  ·rw[if_pos (jM h),if_pos h]
   rfl
  ·rw[if_neg (by simpa using h),if_neg h]
   simp only[j0]
   exact zAz hl d (i+1) M _ _ (by omega) (by omega) (by simp;omega)
theorem zLo{N:Nat}{L:List File}{f:Sr}{name:ByteArray}(hl:f.2.1.length<1000)(hN:1000<N):qLi N (qLr L) f name=some (qZk (fun p=>qIp L 1 p name) name (f.1::f.2.1) []):=by
 rw[←zGp (fun p=>qZd L 1 p name) name (f.1::f.2.1) qXw [] rfl]
 unfold qLi
 rw[qCa (by simp only[jC,jD];omega) (by omega)]
 have eW:∀w:Wld,(w.1,w.2.1,w.2.2.1,w.2.2.2.1,w.2.2.2.2)=w:=fun _=>rfl
 simp only[j0,eW,zBi,wres,kG]
 have fin:∀(r:Ent×List K3×Nat),(r.2.2=0∨r.2.2=1)→
   (if r.2.2=0 then(if(r.1.2.2.2.2.2==0)=true then some (((⟨#[]⟩:ByteArray),(⟨#[]⟩:ByteArray),(0:Int),(⟨#[]⟩:ByteArray),(0:Int),(0:Int)),r.2.1,(11:Int)) else(if(decide (r.1.2.2.2.2.2>1))=true then some (((⟨#[]⟩:ByteArray),(⟨#[]⟩:ByteArray),(0:Int),(⟨#[]⟩:ByteArray),(0:Int),(0:Int)),r.2.1,(12:Int)) else some (r.1,r.2.1,(0:Int))))
    else(if r.2.2=1 then(if(r.1.2.2.2.2.2==0)=true then some (((⟨#[]⟩:ByteArray),(⟨#[]⟩:ByteArray),(0:Int),(⟨#[]⟩:ByteArray),(0:Int),(0:Int)),r.2.1,(11:Int)) else(if(decide (r.1.2.2.2.2.2>1))=true then some (((⟨#[]⟩:ByteArray),(⟨#[]⟩:ByteArray),(0:Int),(⟨#[]⟩:ByteArray),(0:Int),(0:Int)),r.2.1,(12:Int)) else some (r.1,r.2.1,(0:Int)))) else none))=some (wfin r):=by
  intro r hr
  have key:(if(r.1.2.2.2.2.2==0)=true then some (((⟨#[]⟩:ByteArray),(⟨#[]⟩:ByteArray),(0:Int),(⟨#[]⟩:ByteArray),(0:Int),(0:Int)),r.2.1,(11:Int)) else(if(decide (r.1.2.2.2.2.2>1))=true then some (((⟨#[]⟩:ByteArray),(⟨#[]⟩:ByteArray),(0:Int),(⟨#[]⟩:ByteArray),(0:Int),(0:Int)),r.2.1,(12:Int)) else some (r.1,r.2.1,(0:Int))))=some (wfin r):=by
   unfold wfin
   by_cases h0:r.1.2.2.2.2.2=0
   ·rw[if_pos (by simp[h0]),if_pos h0];rfl
   ·rw[if_neg (by simp[h0]),if_neg h0]
    by_cases h1:1<r.1.2.2.2.2.2
    ·rw[if_pos (jM h1),if_pos h1];rfl
    ·rw[if_neg (by simpa using h1),if_neg h1]
  rcases hr with hr|hr
  ·rw[if_pos hr];exact key
  ·rw[if_neg (by omega),if_pos hr];exact key
 by_cases h:(qIp L 1 f.1 name).2.2.2.2.2>0
 ·rw[if_pos (jM h),if_pos h]
  exact fin (qIp L 1 f.1 name,[(1,f.1,name)],1) (.inr rfl)
 ·rw[if_neg (by simpa using h),if_neg h]
  have hlp:=zAz (N:=N) (L:=L) (f:=f) (name:=name) hl f.2.1.length 0 N (qIp L 1 f.1 name) [(1,f.1,name)] (by omega) (by omega) (by simp)
  rw[show((0:Nat):Int)=0 from rfl,jX] at hlp
  rw[hlp]
  have hm:=zEl (E:=fun p=>qIp L 1 p name) name f.2.1 (qIp L 1 f.1 name) [(1,f.1,name)]
  have hf:=fin _ hm
  revert hf
  generalize wres (fun p=>qIp L 1 p name) name (qIp L 1 f.1 name) [(1,f.1,name)] f.2.1=r at hm ⊢
  obtain⟨r1,r2,r3⟩:=r
  intro hf
  rcases hm with hm|hm
  ·have hm:r3=0:=hm
   subst hm
   exact hf
  ·have hm:r3=1:=hm
   subst hm
   exact hf
theorem zJk{N:Nat}{L:List File}{f:Sr}{name:ByteArray}(hP:qPp N L)(hl:f.2.1.length<1000)(hN:1000001<N):qMv N L f name=some (qZn L f.1 f.2.1 name):=by
 simp only[qMv,zNs hP hN,j0]
 have eW:∀w:Wld,(w.1,w.2.1,w.2.2.1,w.2.2.2.1,w.2.2.2.2)=w:=fun _=>rfl
 unfold qZn
 by_cases hc:qKx L=0
 ·have e1:(qLr L).2.1=true:=by unfold qLr;rw[if_pos hc]
  rw[if_neg (show ¬(!(qLr L).2.1)=true by rw[e1];decide),zKz (show 100<N by omega)]
  simp only[hc,j0,true_and]
  by_cases hn:qXb name=true
  ·rw[if_neg (by simp[hn]),if_pos hn]
   refine Eq.trans (congrArg (fun z=>Option.bind z _) (show qLi N (qLr L) f name=_ from zLo hl (by omega))) ?_
   rfl
  ·rw[if_pos (by simpa using hn),if_neg hn];rfl
 ·have e1:(qLr L).2.1=false:=by unfold qLr;rw[if_neg hc]
  rw[if_pos (show(!(qLr L).2.1)=true by rw[e1];rfl),if_neg (fun h=>hc h.1)];rfl
theorem qWj{N:Nat}{L:List File}{name:ByteArray}{l:List ByteArray}(hc:qKx L=0)(hl:l.length<1000)(hN:1000005<N):∀(d i M:Nat) (acc:List K3),i+d=l.length→d<M→acc.length≤i→
  (qAx (qFu N ((qVf L).map (·.1),(qVf L).map (·.2)) name l) M (acc,(i:Int))).bind (fun out1=>(match out1 with| .inl o1=>some (((⟨#[]⟩:ByteArray),(⟨#[]⟩:ByteArray),(0:Int),(⟨#[]⟩:ByteArray),(0:Int),(0:Int)),o1,(11:Int))| .inr (z)=>some z))=
  some (qZk (fun p=>qIp L 1 p name) name (l.drop i) acc)
 |_,_,0,_,_,h,_=>absurd h (kP _)
 |0,i,M+1,acc,h1,h2,h3=>by
  simp only[qAx,qFu]
  rw[if_neg (by simp only[jB];omega),jN (by omega)]
  rfl
 |d+1,i,M+1,acc,h1,h2,h3=>by
  have hi:i<l.length:=by omega
  have hf:∀p,qEr N ((qVf L).map (·.1),(qVf L).map (·.2)) 1 p name=some (qIp L 1 p name):=by
   intro p
   rw[zDn 1 p name (qXc L).1 (qXc L).2 (by omega)]
   unfold qIp qVf
   rw[if_pos hc,if_pos hc]
  simp only[qAx,qFu]
  rw[if_pos (by simp only[jB];omega),qEc hi,qTn hi]
  have ew:IntKind.wrap .i64 ((i:Int)+1)=((i+1:Nat):Int):=by rw[wi64 (by omega) (by omega)];omega
  simp only[j0,ew]
  rw[qCa (by simp only[jC,jD];omega) (by omega)]
  simp only[j0,hf,qZk]
  have hp:=qZd L 1 (l[i]) name
  by_cases h0:(qIp L 1 (l[i]) name).2.2.2.2.2=0
  ·rw[if_neg (show ¬((qIp L 1 (l[i]) name).2.2.2.2.2==1)=true by rw[h0];decide),if_neg (show ¬decide ((qIp L 1 (l[i]) name).2.2.2.2.2>1)=true by rw[h0];decide),if_pos h0]
   simp only[j0]
   exact qWj hc hl hN d (i+1) M _ (by omega) (by omega) (by simp;omega)
  ·rw[if_neg h0]
   by_cases h1:1<(qIp L 1 (l[i]) name).2.2.2.2.2
   ·rw[if_neg (show ¬((qIp L 1 (l[i]) name).2.2.2.2.2==1)=true by rw[jY];omega),if_pos (jM h1),if_pos h1];rfl
   ·rw[if_pos (show((qIp L 1 (l[i]) name).2.2.2.2.2==1)=true by rw[jY];omega),if_neg h1];rfl
theorem zIk{N:Nat}{L:List File}{f:Sr}{name:ByteArray}(hl:f.2.1.length<900)(hN:1000005<N):qKb N L f name=some (qZn L f.1 f.2.1 name):=by
 simp only[qKb,qRs (show 100<N by omega),j0]
 unfold qZn
 by_cases hc:qKx L=0
 ·rw[if_neg (by simp[hc]),zAq (by omega)]
  simp only[j0]
  by_cases hn:qXb name=true
  ·rw[if_neg (by simp[hn]),if_pos ⟨hc,hn⟩,qZt hN]
   simp only[j0,qKl]
   rw[qCa (by simp only[jC,jD];omega) (by omega)]
   have:=qWj (N:=N) (L:=L) (name:=name) (l:=f.1::f.2.1) hc (by simp only[jC];omega) hN (f.1::f.2.1).length 0 N [] (by omega) (by simp only[jC];omega) (kO _)
   rw[jX] at this
   simp only[j0]
   rw[show([f.1]++f.2.1:List ByteArray)=f.1::f.2.1 from rfl]
   refine Eq.trans (congrArg (fun z=>Option.bind z _) (show _=_ from this)) ?_
   rfl
  ·rw[if_pos (by simpa using hn),if_neg (fun h=>hn h.2)];rfl
 ·rw[if_pos (by simpa using hc),if_neg (fun h=>hc h.1)];rfl
theorem qZs{N:Nat}{w:Wld}{p:ByteArray}(hl:w.1.length<1000000):∀(d i M:Nat),i+d=w.1.length→d<M→qAx (qIe N w p) M (i:Int)=some (match fget (w.1.drop i) p with|some b=> .inr (b,true)|none=> .inl ())
 |_,_,0,_,h=>by omega
 |0,i,M+1,hd,_=>by
  simp only[qAx,qIe]
  rw[if_neg (by simp only[jB];omega),jN (by omega)]
  rfl
 |d+1,i,M+1,hd,hM=>by
  have hi:i<w.1.length:=by omega
  simp only[qAx,qIe]
  rw[if_pos (by simp only[jB];omega),qEc hi,jI hi]
  simp only[j0,eqB,jB,fget]
  by_cases he:(w.1[i]).1=p
  ·rw[if_pos he,if_pos he];rfl
  ·rw[if_neg he,if_neg he,wi64 (by omega) (by omega)]
   have e1:(i:Int)+1=((i+1:Nat):Int):=by omega
   simp only[j0]
   rw[e1,qZs hl d (i+1) M (by omega) (by omega)]
theorem zNg{N:Nat}{L:List File}(p:ByteArray)(hl:L.length≤64)(hN:100<N):qLh N (qLr L) p=some (zGl (fget L p)):=by
 have e:(qLr L).1=L:=by unfold qLr;split<;>rfl
 have:=qZs (N:=N) (w:=qLr L) (p:=p) (by rw[e];omega) (qLr L).1.length 0 N (by omega) (by rw[e];omega)
 rw[show((0:Nat):Int)=0 from rfl,jX,e] at this
 simp only[qLh,this,j0]
 cases fget L p<;>rfl
theorem zKe{N:Nat}{L:List File}{path:ByteArray}(hP:qPp N L)(hp:qJj N path=some (qKv path.data.toList))(hN:1000001<N):qMw N L path=some (zFq L path):=by
 simp only[qMw,zNs hP hN,j0]
 have eW:∀w:Wld,(w.1,w.2.1,w.2.2.1,w.2.2.2.1,w.2.2.2.2)=w:=fun _=>rfl
 unfold zFq
 by_cases hc:qKx L=0
 ·have e1:(qLr L).2.1=true:=by unfold qLr;rw[if_pos hc]
  rw[if_neg (show ¬(!(qLr L).2.1)=true by rw[e1];decide),hp]
  simp only[hc,j0,true_and]
  by_cases hn:qKv path.data.toList=true
  ·rw[if_neg (by simp[hn]),if_pos hn]
   simp only[eW,qOg,zNg path (qPt.1 hc).1 (show 100<N by omega),j0]
   cases hg:fget L path with
   |some b=>simp only[zGl];rfl
   |none=>
    simp only[zGl,jA,jE]
    rw[qCa (by simp only[jC,jD];omega) (by omega)]
    simp only[j0,zBi]
    have e:(⟨#[]⟩:ByteArray)=qJl:=rfl
    rw[e]
    by_cases h0:(qIp L 3 qJl path).2.2.2.2.2=0
    ·rw[if_pos (by simp[h0]),if_pos h0];rfl
    ·rw[if_neg (by simp[h0]),if_neg h0]
     by_cases h1:1<(qIp L 3 qJl path).2.2.2.2.2
     ·rw[if_pos (jM h1),if_pos h1];rfl
     ·rw[if_neg (by simpa using h1),if_neg h1];rfl
  ·rw[if_pos (by simpa using hn),if_neg hn];rfl
 ·have e1:(qLr L).2.1=false:=by unfold qLr;rw[if_neg hc]
  rw[if_pos (show(!(qLr L).2.1)=true by rw[e1];rfl),if_neg (fun h=>hc h.1)];rfl
theorem zIg{N:Nat}{L:List File}{path:ByteArray}(hN:1000005<N):qKf N L path=some (zFq L path):=by
 simp only[qKf,qRs (show 100<N by omega),j0]
 unfold zFq
 by_cases hc:qKx L=0
 ·rw[if_neg (by simp[hc]),qTm (by omega)]
  simp only[j0]
  by_cases hn:qKv path.data.toList=true
  ·rw[if_neg (by simp[hn]),if_pos ⟨hc,hn⟩,qZt hN]
   simp only[j0,qKm,zAx path (show 100<N by omega),zMc,if_pos hc]
   cases hg:fget L path with
   |some b=>simp only[zGl];rfl
   |none=>
    simp only[zGl,jA,jE]
    rw[qCa (by simp only[jC,jD];omega) (by omega)]
    have hf:qEr N ((qVf L).map (·.1),(qVf L).map (·.2)) 3 (⟨#[]⟩:ByteArray) path=some (qIp L 3 qJl path):=by
     rw[zDn 3 _ path (qXc L).1 (qXc L).2 (by omega)]
     unfold qIp qVf
     rw[if_pos hc,if_pos hc];rfl
    simp only[j0,hf]
    have hp:=qZd L 3 qJl path
    by_cases h0:(qIp L 3 qJl path).2.2.2.2.2=0
    ·rw[if_neg (show ¬((qIp L 3 qJl path).2.2.2.2.2==1)=true by rw[h0];decide),if_neg (show ¬decide ((qIp L 3 qJl path).2.2.2.2.2>1)=true by rw[h0];decide),if_pos h0];rfl
    ·rw[if_neg h0]
     by_cases h1:1<(qIp L 3 qJl path).2.2.2.2.2
     ·rw[if_neg (show ¬((qIp L 3 qJl path).2.2.2.2.2==1)=true by rw[jY];omega),if_pos (jM h1),if_pos h1];rfl
     ·rw[if_pos (show((qIp L 3 qJl path).2.2.2.2.2==1)=true by rw[jY];omega),if_neg h1];rfl
  ·rw[if_pos (by simpa using hn),if_neg (fun h=>hn h.2)];rfl
 ·rw[if_pos (by simpa using hc),if_neg (fun h=>hc h.1)];rfl
end
section
open Go Go.Dc
def Ok{α:Type}(x:Option α)(Q:α→Prop):Prop:=∃a,x=some a∧Q a
section
variable {α β γ:Type} {Q:β→Prop}
theorem Ok.mk{a:β}(h:Q a):Ok (some a) Q:=⟨a,rfl,h⟩
theorem Ok.bind{x:Option α}{P:α→Prop}{f:α→Option β}(h:Ok x P)(k:∀a,P a→Ok (f a) Q):Ok (x.bind f) Q:=by
 obtain⟨a,rfl,ha⟩:=h
 exact k a ha
theorem Ok.mono{x:Option β}{P:β→Prop}(h:Ok x P)(k:∀a,P a→Q a):Ok x Q:=by
 obtain⟨a,e,ha⟩:=h
 exact⟨a,e,k a ha⟩
theorem Ok.assoc{x:Option α}{g:α→Option γ}{f:γ→Option β}(h:Ok (x.bind fun a=>(g a).bind f) Q):Ok ((x.bind g).bind f) Q:=by
 rw[g9];exact h
theorem Ok.ite{c:Prop}[Decidable c]{x y:Option β}(h1:c→Ok x Q)(h2:¬c→Ok y Q):Ok (if c then x else y) Q:=by
 by_cases h:c
 ·rw[if_pos h];exact h1 h
 ·rw[if_neg h];exact h2 h
theorem Ok.iteb{c:Prop}[Decidable c]{x y:Option α}{f:α→Option β}(h1:c→Ok (x.bind f) Q)(h2:¬c→Ok (y.bind f) Q):Ok ((if c then x else y).bind f) Q:=by
 by_cases h:c
 ·rw[if_pos h];exact h1 h
 ·rw[if_neg h];exact h2 h
theorem Ok.tt[Decidable (true=true)]{x y:Option β}(h:Ok x Q):Ok (if true=true then x else y) Q:=by rw[if_pos rfl];exact h
theorem Ok.ff[Decidable (false=true)]{x y:Option β}(h:Ok y Q):Ok (if false=true then x else y) Q:=by rw[if_neg kQ];exact h
theorem Ok.ttb[Decidable (true=true)]{x y:Option α}{f:α→Option β}(h:Ok (x.bind f) Q):Ok ((if true=true then x else y).bind f) Q:=by rw[if_pos rfl];exact h
theorem Ok.ffb[Decidable (false=true)]{x y:Option α}{f:α→Option β}(h:Ok (y.bind f) Q):Ok ((if false=true then x else y).bind f) Q:=by rw[if_neg kQ];exact h
theorem Ok.someb{a:α}{f:α→Option β}(h:Ok (f a) Q):Ok ((some a).bind f) Q:=h
theorem Ok.mapb{a:α}{g:α→γ}{f:γ→Option β}(h:Ok (f (g a)) Q):Ok (((some a).map g).bind f) Q:=h
theorem Ok.cat{x y:ByteArray}{f:ByteArray→Option β}(hs:x.size+y.size≤1000000000)(h:∀s:ByteArray,s.size=x.size+y.size→Ok (f s) Q):Ok ((catB x y).bind f) Q:=by
 unfold catB
 rw[if_pos (by simp only[maxLen];omega)]
 exact h _ (by simp)
theorem Ok.app{b:Nat}{l k:List α}{f:List α→Option β}(hs:(l.length+k.length)*b≤140737488355328)(hb:0<b)(h:Ok (f (l++k)) Q):Ok ((qDo b l k).bind f) Q:=by
 rw[qCa hs hb];exact h
theorem Ok.loop{σ:Type}{f:σ→Option (σ⊕α)}{g:α→Option β}{s:σ}{N:Nat}(I:σ→Prop)(μ:σ→Nat)(R:α→Prop)
  (h:∀s,I s→Ok (f s) fun r=>match r with| .inl s'=>I s'∧μ s'<μ s| .inr b=>R b) (hs:I s) (hN:μ s<N) (k:∀b,R b→Ok (g b) Q):Ok ((qAx f N s).bind g) Q:=by
 obtain⟨b,h1,h2⟩:=qXf I μ R (fun s hs=>by
  obtain⟨r,h1,h2⟩:=h s hs
  cases r with
  |inl s'=>exact .inr ⟨s',h1,h2.1,h2.2⟩
  |inr b=>exact .inl ⟨b,h1,h2⟩) N s hs hN
 rw[h1];exact k b h2
end
theorem qQn(a:Array UInt8):(⟨a⟩:ByteArray).size=a.size:=rfl
theorem zMq{N:Nat}{v n:Int}(hn:n≤9223372036854775807):∃r,qKt N v n=some r∧0≤r∧(1≤n→r<n):=by
 simp only[qKt]
 by_cases h:n≤1
 ·exact⟨0,by simp[h],by omega,by omega⟩
 ·have hne:n≠0:=by omega
  have h1:=Int.tmod_lt_of_pos v (show 0<n by omega)
  have h2:=Int.lt_tmod_of_pos v (show 0<n by omega)
  simp only[h,decide_false,jA,jE,remS,hne,j0]
  by_cases h3:Int.tmod v n<0
  ·refine⟨Int.tmod v n+n,?_,by omega,by omega⟩
   simp only[h3,decide_true,jH,j0]
   rw[wi64 (by omega) (by omega)]
  ·exact⟨Int.tmod v n,by simp only[h3,decide_false,jA,jE,j0],by omega,by omega⟩
theorem qXg{N:Nat}{l:List Int}{a n:Int}(h0:0≤a)(h1:a<4611686018427387904)(hn:n≤9223372036854775807):∃r,qBw N (l,a) n=some ((l,a+1),r)∧0≤r∧(1≤n→r<n):=by
 simp only[qBw]
 have hv:∃v,(if(decide (a<(List.length l:Int)))=true then((idx l a).bind fun x1=>some x1) else(some (Int.tmod (IntKind.wrap .i64 (a*7)) 11)):Option Int)=some v:=by
  by_cases h:a<(l.length:Int)
  ·exact⟨_,by simp only[h,decide_true,jH];rw[zCj h0 (by omega)];rfl⟩
  ·exact⟨_,by simp only[h,decide_false,jA,jE];rfl⟩
 obtain⟨v,hv⟩:=hv
 obtain⟨r,hr,h2,h3⟩:=zMq (N:=N) (v:=v) hn
 exact⟨r,by simp only[hv,j0,hr];rw[wi64 (by omega) (by omega)],h2,h3⟩
section
variable {β:Type} {Q:β→Prop} {N:Nat} {l:List Int} {a:Int}
theorem Ok.next{n:Int}{f:(List Int×Int)×Int→Option β}(h0:0≤a)(h1:a<4611686018427387904)(hn:1≤n)(hn2:n≤1000000)(h:∀r,0≤r→r<n→Ok (f ((l,a+1),r)) Q):Ok ((qBw N (l,a) n).bind f) Q:=by
 obtain⟨r,hr,g1,g2⟩:=qXg (N:=N) (l:=l) h0 h1 (show n≤9223372036854775807 by omega)
 rw[hr];exact h r g1 (g2 hn)
theorem Ok.chance{n m:Int}{f:(List Int×Int)×Bool→Option β}(h0:0≤a)(h1:a<4611686018427387904)(hn:1≤m)(hn2:m≤1000000)(h:∀r,Ok (f ((l,a+1),r)) Q):Ok ((qCe N (l,a) n m).bind f) Q:=by
 obtain⟨r,hr,g1,g2⟩:=qXg (N:=N) (l:=l) h0 h1 (show m≤9223372036854775807 by omega)
 simp only[qCe,hr,j0]
 exact h _
theorem Ok.one{L:List ByteArray}{f:(List Int×Int)×ByteArray→Option β}(h0:0≤a)(h1:a<4611686018427387904)(hL:0<L.length)(hL2:L.length<1000)(h:∀x∈L,Ok (f ((l,a+1),x)) Q):Ok ((qBf N (l,a) L).bind f) Q:=by
 obtain⟨r,hr,g1,g2⟩:=qXg (N:=N) (l:=l) h0 h1 (show(L.length:Int)≤9223372036854775807 by omega)
 have g2:=g2 (by omega)
 have hlt:r.toNat<L.length:=by omega
 simp only[qBf]
 rw[if_neg (by rw[jY];omega),hr]
 simp only[j0]
 rw[zCj g1 hlt]
 exact h _ (kA hlt)
theorem Ok.oneP{L:List ByteArray}{f:(List Int×Int)×ByteArray→Option β}(h0:0≤a)(h1:a<4611686018427387904)(hc:decide ((List.length L:Int)>0)=true)(hL2:L.length<1000)(hL3:∀x∈L,x.size≤12)(h:∀x:ByteArray,x.size≤12→Ok (f ((l,a+1),x)) Q):Ok ((qBf N (l,a) L).bind f) Q:=
 Ok.one h0 h1 (by have:=kJ hc;omega) hL2 fun x hx=>h x (hL3 x hx)
theorem Ok.oneS{L:List ByteArray}{f:(List Int×Int)×ByteArray→Option β}(h0:0≤a)(h1:a<4611686018427387904)(hL:(decide (0<L.length)&&decide (L.length<1000)&&L.all fun x=>decide (x.size≤12))=true)(h:∀x:ByteArray,x.size≤12→Ok (f ((l,a+1),x)) Q):Ok ((qBf N (l,a) L).bind f) Q:=by
 simp only[jS,jB] at hL
 exact Ok.one h0 h1 hL.1.1 hL.1.2 fun x hx=>h x (by simpa using jR.1 hL.2 x hx)
theorem Ok.pick{L:List Int}{f:(List Int×Int)×Int→Option β}(h0:0≤a)(h1:a<4611686018427387904)(hL:0<L.length)(hL2:L.length<1000)(h:∀x∈L,Ok (f ((l,a+1),x)) Q):Ok ((qDq N (l,a) L).bind f) Q:=by
 obtain⟨r,hr,g1,g2⟩:=qXg (N:=N) (l:=l) h0 h1 (show(L.length:Int)≤9223372036854775807 by omega)
 have g2:=g2 (by omega)
 have hlt:r.toNat<L.length:=by omega
 simp only[qDq]
 rw[if_neg (by rw[jY];omega),hr]
 simp only[j0]
 rw[zCj g1 hlt]
 exact h _ (kA hlt)
theorem Ok.pickS{L:List Int}{f:(List Int×Int)×Int→Option β}(h0:0≤a)(h1:a<4611686018427387904)(hL:(decide (0<L.length)&&decide (L.length<1000)&&L.all fun x=>decide (0≤x∧x≤9007199254740992))=true)(h:∀x:Int,0≤x→x≤9007199254740992→Ok (f ((l,a+1),x)) Q):Ok ((qDq N (l,a) L).bind f) Q:=by
 simp only[jS,jB] at hL
 exact Ok.pick h0 h1 hL.1.1 hL.1.2 fun x hx=>by
  have:=jR.1 hL.2 x hx
  simp only[jB] at this
  exact h x this.1 this.2
theorem zBx:∀(k D:Nat) (x:Int),k<D→k≤100→0≤x→x<10^(k+1)→x≤9223372036854775806→Ok (qIl N D x) fun s=>s.size≤k+1
 |_,0,_,h,_,_,_,_=>absurd h (kP _)
 |k,D+1,x,hk,hk9,h0,h1,h2=>by
  show Ok (qIi N (qIl N D) x) _
  unfold qIi
  have hsz:ByteArray.size (⟨#[48,49,50,51,52,53,54,55,56,57]⟩:ByteArray)=10:=rfl
  by_cases hx:x<10
  ·rw[if_pos (by simpa using hx),wi64 (by omega) (by omega),qSv h0 (by omega) (by omega)]
   refine Ok.mk ?_
   simp only[ByteArray.size_extract,hsz];omega
  ·rw[if_neg (by simpa using hx)]
   obtain⟨k,rfl⟩:∃k',k=k'+1:=by
    cases k with
    |zero=>simp at h1;omega
    |succ k=>exact⟨k,rfl⟩
   obtain⟨D,rfl⟩:∃D',D=D'+1:=⟨D-1,by omega⟩
   have e1:Int.tdiv x 10=x/10:=Int.tdiv_eq_ediv_of_nonneg h0
   have e2:Int.tmod x 10=x%10:=Int.tmod_eq_emod_of_nonneg h0
   have hp:(10:Int)^(k+1+1)=10*10^(k+1):=by rw[Int.pow_succ];omega
   rw[e1,e2,wi64 (by omega) (by omega)]
   refine Ok.bind (zBx k (D+1) (x/10) (by omega) (by omega) (by omega) (by omega) (by omega)) fun s hs=> ?_
   refine Ok.bind (zBx 0 (D+1) (x%10) (by omega) (by omega) (by omega) (by simp;omega) (by omega)) fun t ht=> ?_
   exact Ok.cat (by omega) fun u hu=>Ok.mk (by omega)
theorem zIw{x:Int}(h0:0≤x)(h1:x≤9007199254740992)(hN:100<N):Ok (qDn N x) fun s=>s.size≤16:=
 zBx 15 N x (by omega) (by omega) h0 (by rw[show(10:Int)^(15+1)=10000000000000000 from by kernel_rfl];omega) (by omega)
theorem Ok.digits{x:Int}{f:ByteArray→Option β}(h0:0≤x)(h1:x≤9007199254740992)(hN:100<N)(h:∀s:ByteArray,s.size≤16→Ok (f s) Q):Ok ((qDn N x).bind f) Q:=Ok.bind (zIw h0 h1 hN) h
end
def qRt:Nat→Nat
 |0=>8
 |d+1=>3*qRt d+8
def qUs:Nat→Nat
 |0=>22
 |d+1=>3*qUs d+20
theorem zHl:∀d,22≤qUs d
 |0=>jV _
 |d+1=>by have:=zHl d;simp only[qUs];omega
section
variable {N:Nat} {l:List Int}
def qXo(N:Nat)(l:List Int)(E:(List Int×Int)→Int→List ByteArray→Option ((List Int×Int)×ByteArray))(d:Nat)(ps:List ByteArray):Prop:=
 ∀a:Int,0≤a→a+qRt d<2000000000000000000→Ok (E (l,a) (d:Int) ps) fun y=>∃a' s,y=((l,a'),s)∧a≤a'∧a'≤a+qRt d∧s.size≤qUs d
theorem Ok.expr{β:Type}{Q:β→Prop}{E:(List Int×Int)→Int→List ByteArray→Option ((List Int×Int)×ByteArray)}{d:Nat}{ps:List ByteArray}(hE:qXo N l E d ps){a:Int}{f:(List Int×Int)×ByteArray→Option β}(h0:0≤a)(h1:a+qRt d<2000000000000000000)
  (h:∀(a':Int) (s:ByteArray),a≤a'→a'≤a+qRt d→s.size≤qUs d→Ok (f ((l,a'),s)) Q):Ok ((E (l,a) (d:Int) ps).bind f) Q:=
 Ok.bind (hE a h0 h1) fun y hy=>by
  obtain⟨a',s,rfl,g1,g2,g3⟩:=hy
  exact h a' s g1 g2 g3
theorem zAw(d:Nat)(hd:d≤5):qRt d≤10000∧qUs d≤20000:=by
 match d,hd with
 |0,_=>decide
 |1,_=>decide
 |2,_=>decide
 |3,_=>decide
 |4,_=>decide
 |5,_=>decide
set_option maxHeartbeats 4000000 in
theorem zLc{E:(List Int×Int)→Int→List ByteArray→Option ((List Int×Int)×ByteArray)}{d:Nat}{ps:List ByteArray}(hd:d=0)(hps:ps.length<1000)(hps2:∀x∈ps,x.size≤12)(hN:100<N):qXo N l (qGo N E) d ps:=by
 subst hd
 intro a h0 h1
 have hc:qRt 0=8:=rfl
 have hz:qUs 0=22:=rfl
 simp only[qGo,hc,hz,qEy,qHw]
 rw[if_pos (show decide (((0:Nat):Int)≤0)=true by decide)]
 repeat' first
  |with_reducible apply Ok.tt
  |with_reducible apply Ok.ff
  |with_reducible apply Ok.ttb
  |with_reducible apply Ok.ffb
  |with_reducible apply Ok.assoc
  |((with_reducible apply Ok.iteb)<;>intro _)
  |((with_reducible apply Ok.ite)<;>intro _)
  |with_reducible apply Ok.someb
  |with_reducible apply Ok.mapb
  |((with_reducible refine Ok.mk ⟨_,_,rfl,?_,?_,?_⟩)<;>omega)
  |((with_reducible refine Ok.next ?_ ?_ ?_ ?_ (fun _ _ _=> ?_))<;>try omega)
  |((with_reducible refine Ok.chance ?_ ?_ ?_ ?_ (fun _=> ?_))<;>try omega)
  |((with_reducible refine Ok.pickS ?_ ?_ (by decide) (fun _ _ _=> ?_))<;>try omega)
  |((with_reducible refine Ok.oneP ?_ ?_ (by assumption) hps hps2 (fun _ _=> ?_))<;>try omega)
  |((with_reducible refine Ok.oneS ?_ ?_ (by decide) (fun _ _=> ?_))<;>try omega)
  |((with_reducible refine Ok.digits ?_ ?_ hN (fun _ _=> ?_))<;>try omega)
  |((with_reducible refine Ok.cat ?_ (fun _ h=> ?_))<;>simp only[qQn,jP,jC,jD,Nat.reduceAdd] at* <;>try omega)
  |((with_reducible refine Ok.cat ?_ (fun _ _=> ?_))<;>try omega)
  |(apply Ok.iteb<;>intro _)
  |dsimp only
 all_goals omega
theorem Ok.pick01{β:Type}{Q:β→Prop}{a:Int}{f:(List Int×Int)×Int→Option β}(h0:0≤a)(h1:a<4611686018427387904)(h:∀x:Int,x=0∨x=1→Ok (f ((l,a+1),x)) Q):Ok ((qDq N (l,a) [0,0,0,1]).bind f) Q:=
 Ok.pick h0 h1 (by decide) (by decide) fun x hx=>h x (by simp at hx;omega)
theorem Ok.exprloop{β:Type}{Q:β→Prop}{E:(List Int×Int)→Int→List ByteArray→Option ((List Int×Int)×ByteArray)}{d:Nat}{ps:List ByteArray}(hE:qXo N l E d ps)(hd:d≤5){p1:Int}(hp:IntKind.wrap .i64 (p1-1)=(d:Int)){s:ByteArray}{n a:Int}{f:ByteArray×List Int×Int→Option β}
  (hn:n=0∨n=1) (h0:0≤a) (h1:a+qRt d<2000000000000000000) (hs:s.size≤100000000) (hN:100<N) (h:∀(s':ByteArray) (a':Int),a≤a'→a'≤a+qRt d→s'.size≤s.size+qUs d+2→Ok (f (s',l,a')) Q):Ok ((qAx (qIz N E p1 ps) N (s,n,l,a)).bind f) Q:=by
 have hsm:=zAw d hd
 refine Ok.loop (fun st=>∃s' n' a',st=(s',n',l,a')∧((n'=n∧a'=a∧s'=s)∨(n'=0∧a≤a'∧a'≤a+qRt d∧s'.size≤s.size+qUs d+2))) (fun st=>st.2.1.toNat) (fun b=>∃s' a',b=(s',l,a')∧a≤a'∧a'≤a+qRt d∧s'.size≤s.size+qUs d+2) ?_ ⟨s,n,a,rfl,.inl ⟨rfl,rfl,rfl⟩⟩ (by simp only;omega) ?_
 ·rintro _ ⟨s',n',a',rfl,hc⟩
  simp only[qIz]
  by_cases hn0:n'>0
  ·rw[if_pos (by simpa using hn0),hp]
   have hc:n'=n∧a'=a∧s'=s:=hc.resolve_right fun h=>by omega
   obtain⟨rfl,rfl,rfl⟩:=hc
   refine Ok.expr hE h0 h1 fun a2 t g1 g2 g3=> ?_
   refine Ok.cat (by simp only[qQn,jP,jC,jD,Nat.reduceAdd];omega) fun u hu=> ?_
   simp only[qQn,jP,jC,jD,Nat.reduceAdd] at hu
   refine Ok.cat (by omega) fun v hv=> ?_
   refine Ok.mk ⟨⟨v,_,a2,rfl,.inr ⟨by rw[wi64 (by omega) (by omega)];omega,g1,g2,by omega⟩⟩,?_⟩
   simp only
   rw[wi64 (by omega) (by omega)]
   omega
  ·rw[if_neg (by simpa using hn0)]
   refine Ok.mk ⟨s',a',rfl,?_⟩
   rcases hc with ⟨_,rfl,rfl⟩|⟨_,g1,g2,g3⟩
   ·omega
   ·exact⟨g1,g2,g3⟩
 ·rintro _ ⟨s',a',rfl,g1,g2,g3⟩
  exact h s' a' g1 g2 g3
set_option maxHeartbeats 8000000 in
theorem zJd{E:(List Int×Int)→Int→List ByteArray→Option ((List Int×Int)×ByteArray)}{d:Nat}{ps:List ByteArray}(hE:qXo N l E d ps)(hd:d≤4)(hps:ps.length<1000)(hps2:∀x∈ps,x.size≤12)(hN:100<N):qXo N l (qGo N E) (d+1) ps:=by
 intro a h0 h1
 have hc:qRt (d+1)=3*qRt d+8:=rfl
 have hz:qUs (d+1)=3*qUs d+20:=rfl
 have hge:=zHl d
 have hsm:=zAw d (by omega)
 have hw:IntKind.wrap .i64 (((d+1:Nat):Int)-1)=(d:Int):=by rw[wi64 (by omega) (by omega)];omega
 simp only[qGo,hc,hz,qEy,qHw,qGg,hw]
 repeat' first
  |with_reducible apply Ok.tt
  |with_reducible apply Ok.ff
  |with_reducible apply Ok.ttb
  |with_reducible apply Ok.ffb
  |with_reducible apply Ok.assoc
  |((with_reducible apply Ok.iteb)<;>intro _)
  |((with_reducible apply Ok.ite)<;>intro _)
  |with_reducible apply Ok.someb
  |with_reducible apply Ok.mapb
  |((with_reducible refine Ok.mk ⟨_,_,rfl,?_,?_,?_⟩)<;>omega)
  |((with_reducible refine Ok.next ?_ ?_ ?_ ?_ (fun _ _ _=> ?_))<;>try omega)
  |((with_reducible refine Ok.chance ?_ ?_ ?_ ?_ (fun _=> ?_))<;>try omega)
  |((with_reducible refine Ok.pick01 ?_ ?_ (fun _ _=> ?_))<;>try omega)
  |((with_reducible refine Ok.exprloop hE (by omega) hw (by assumption) ?_ ?_ ?_ hN (fun _ _ _ _ _=> ?_))<;>try omega)
  |((with_reducible refine Ok.expr hE ?_ ?_ (fun _ _ _ _ _=> ?_))<;>try omega)
  |((with_reducible refine Ok.pickS ?_ ?_ (by decide) (fun _ _ _=> ?_))<;>try omega)
  |((with_reducible refine Ok.oneP ?_ ?_ (by assumption) hps hps2 (fun _ _=> ?_))<;>try omega)
  |((with_reducible refine Ok.oneS ?_ ?_ (by decide) (fun _ _=> ?_))<;>try omega)
  |((with_reducible refine Ok.digits ?_ ?_ hN (fun _ _=> ?_))<;>try omega)
  |((with_reducible refine Ok.cat ?_ (fun _ h=> ?_))<;>simp only[qQn,jP,jC,jD,Nat.reduceAdd] at* <;>try omega)
  |((with_reducible refine Ok.cat ?_ (fun _ _=> ?_))<;>try omega)
  |(apply Ok.iteb<;>intro _)
  |dsimp only
 all_goals omega
theorem zNo:∀(d D:Nat) (ps:List ByteArray),d<D→d≤5→ps.length<1000→(∀x∈ps,x.size≤12)→100<N→qXo N l (qJm N D) d ps
 |_,0,_,h,_,_,_,_=>absurd h (kP _)
 |0,D+1,ps,_,_,h1,h2,hN=>zLc (E:=qJm N D) rfl h1 h2 hN
 |d+1,D+1,ps,h,hd,h1,h2,hN=>zJd (zNo d D ps (by omega) (by omega) h1 h2 hN) (by omega) h1 h2 hN
theorem zKx{d:Nat}{ps:List ByteArray}(hd:d≤5)(h1:ps.length<1000)(h2:∀x∈ps,x.size≤12)(hN:100<N):qXo N l (qIb N) d ps:=zNo d N ps (by omega) hd h1 h2 hN
theorem Ok.expr3{β:Type}{Q:β→Prop}{ps:List ByteArray}{a:Int}{f:(List Int×Int)×ByteArray→Option β}(hN:100<N)(h0:0≤a)(h1:a+10000<2000000000000000000)(hps:ps.length≤2∧∀x∈ps,x.size≤12)
  (h:∀(a':Int) (s:ByteArray),a≤a'→a'≤a+10000→s.size≤854→Ok (f ((l,a'),s)) Q):Ok ((qIb N (l,a) 3 ps).bind f) Q:=
 Ok.expr (d:=3) (zKx (by omega) (by omega) hps.2 hN) h0 (by have:qRt 3=320:=rfl;have:qRt 2=104:=rfl;omega) fun a' s g1 g2 g3=>h a' s g1 (by have:qRt 3=320:=rfl;omega) (by have:qUs 3=854:=rfl;omega)
theorem Ok.expr2{β:Type}{Q:β→Prop}{ps:List ByteArray}{a:Int}{f:(List Int×Int)×ByteArray→Option β}(hN:100<N)(h0:0≤a)(h1:a+10000<2000000000000000000)(hps:ps.length≤2∧∀x∈ps,x.size≤12)
  (h:∀(a':Int) (s:ByteArray),a≤a'→a'≤a+10000→s.size≤854→Ok (f ((l,a'),s)) Q):Ok ((qIb N (l,a) 2 ps).bind f) Q:=
 Ok.expr (d:=2) (zKx (by omega) (by omega) hps.2 hN) h0 (by have:qRt 3=320:=rfl;have:qRt 2=104:=rfl;omega) fun a' s g1 g2 g3=>h a' s g1 (by have:qRt 2=104:=rfl;omega) (by have:qUs 2=278:=rfl;omega)
set_option maxHeartbeats 8000000 in
theorem zPa{a:Int}(hN:100<N)(h0:0≤a)(h1:a<1000000000000000000):Ok (qHz N (l,a)) fun y=>∃a' s,y=((l,a'),s)∧a≤a'∧a'≤a+10010∧s.size≤890:=by
 simp only[qHz,qLs,qEy,qGg]
 repeat' first
  |with_reducible apply Ok.tt
  |with_reducible apply Ok.ff
  |with_reducible apply Ok.ttb
  |with_reducible apply Ok.ffb
  |with_reducible apply Ok.assoc
  |((with_reducible apply Ok.iteb)<;>intro _)
  |((with_reducible apply Ok.ite)<;>intro _)
  |with_reducible apply Ok.someb
  |with_reducible apply Ok.mapb
  |((with_reducible refine Ok.mk ⟨_,_,rfl,?_,?_,?_⟩)<;>omega)
  |((with_reducible refine Ok.next ?_ ?_ ?_ ?_ (fun _ _ _=> ?_))<;>try omega)
  |((with_reducible refine Ok.chance ?_ ?_ ?_ ?_ (fun _=> ?_))<;>try omega)
  |((with_reducible refine Ok.expr3 hN ?_ ?_ ?_ (fun _ _ _ _ _=> ?_))<;>first|omega|exact⟨by decide,by decide⟩|skip)
  |((with_reducible refine Ok.expr2 hN ?_ ?_ ?_ (fun _ _ _ _ _=> ?_))<;>first|omega|exact⟨by decide,by decide⟩|skip)
  |(with_reducible refine Ok.app (by simp) (by decide) ?_)
  |((with_reducible refine Ok.pickS ?_ ?_ (by decide) (fun _ _ _=> ?_))<;>try omega)
  |((with_reducible refine Ok.oneS ?_ ?_ (by decide) (fun _ _=> ?_))<;>try omega)
  |((with_reducible refine Ok.digits ?_ ?_ hN (fun _ _=> ?_))<;>try omega)
  |((with_reducible refine Ok.cat ?_ (fun _ h=> ?_))<;>simp only[qQn,jP,jC,jD,Nat.reduceAdd] at* <;>try omega)
  |((with_reducible refine Ok.cat ?_ (fun _ _=> ?_))<;>try omega)
  |(apply Ok.iteb<;>intro _)
  |dsimp only
 all_goals omega
theorem Has_ok{L:List ByteArray}{x:ByteArray}(hL:L.length<1000000)(hN:L.length<N):Ok (qIx N L x) fun _=>True:=by
 unfold qIx
 refine Ok.loop (fun st=>∃j:Nat,st=(j:Int)∧j≤L.length) (fun st=>L.length-st.toNat) (fun _=>True) ?_ ⟨0,rfl,kO _⟩ (by show L.length-(0:Int).toNat<N;omega) ?_
 ·rintro _ ⟨j,rfl,hj⟩
  simp only[qLd]
  by_cases h:j<L.length
  ·rw[if_pos (by simpa using h),qEc h]
   simp only[j0]
   refine Ok.ite (fun _=>Ok.mk trivial) fun _=>Ok.mk ⟨⟨j+1,by rw[wi64 (by omega) (by omega)];omega,by omega⟩,?_⟩
   rw[wi64 (by omega) (by omega)];omega
  ·rw[if_neg (by simpa using h)];exact Ok.mk trivial
 ·intro b _
  cases b<;>exact Ok.mk trivial
theorem Ok.has{β:Type}{Q:β→Prop}{L:List ByteArray}{x:ByteArray}{f:Bool→Option β}(hL:L.length<1000000)(hN:L.length<N)(h:∀b,Ok (f b) Q):Ok ((qIx N L x).bind f) Q:=Ok.bind (Has_ok hL hN) fun b _=>h b
theorem Ok.decl{β:Type}{Q:β→Prop}{a:Int}{f:(List Int×Int)×ByteArray→Option β}(hN:100<N)(h0:0≤a)(h1:a<1000000000000000000)
  (h:∀(a':Int) (s:ByteArray),a≤a'→a'≤a+10010→s.size≤890→Ok (f ((l,a'),s)) Q):Ok ((qHz N (l,a)).bind f) Q:=
 Ok.bind (zPa hN h0 h1) fun y hy=>by
  obtain⟨a',s,rfl,g1,g2,g3⟩:=hy
  exact h a' s g1 g2 g3
theorem zOm{β:Type}{Q:β→Prop}{y:(List Int×Int)×ByteArray}{f:ByteArray→Option β}(hs:y.2.size≤890)(hN:3000<N)(h:∀s:ByteArray,Ok (f s) Q):Ok ((qAx (qHs N y) N (y.2,0)).bind f) Q:=by
 refine Ok.loop (fun st=>∃j:Nat,st.2=(j:Int)∧j≤y.2.size) (fun st=>y.2.size-st.2.toNat) (fun _=>True) ?_ ⟨0,rfl,kO _⟩ (by simp only;omega) (fun b _=>h b)
 rintro⟨s,_⟩ ⟨j,rfl,hj⟩
 simp only[qHs]
 by_cases hlt:j<y.2.size
 ·rw[if_pos (by simpa using hlt),zCr hlt]
  simp only[j0]
  refine Ok.bind (P:=fun _=>True) (Ok.ite (fun _=>Ok.mk trivial) fun _=>Ok.mk trivial) fun b _=> ?_
  refine Ok.ite (fun _=> ?_) fun _=> ?_
  ·rw[qSv (by omega) (by omega) (by omega)];exact Ok.mk trivial
  ·refine Ok.mk ⟨⟨j+1,by simp only;rw[wi64 (by omega) (by omega)];omega,by omega⟩,?_⟩
   simp only;rw[wi64 (by omega) (by omega)];omega
 ·rw[if_neg (by simpa using hlt)];exact Ok.mk trivial
theorem qYf{a:Int}{pk:ByteArray}(hN:3000<N)(h0:0≤a)(h1:a<100000000000000000)(hp:pk.size≤12):Ok (qFm N (l,a) pk) fun y=>∃a' s,y=((l,a'),s)∧a≤a'∧a'≤a+100000∧s.size≤4700:=by
 simp only[qFm]
 refine Ok.cat (by simp only[qQn,jP,jC,jD,Nat.reduceAdd];omega) fun s1 e1=> ?_
 simp only[qQn,jP,jC,jD,Nat.reduceAdd] at e1
 refine Ok.cat (by simp only[qQn,jP,jC,jD,Nat.reduceAdd];omega) fun s2 e2=> ?_
 simp only[qQn,jP,jC,jD,Nat.reduceAdd] at e2
 refine Ok.chance h0 (by omega) (by omega) (by omega) fun c=> ?_
 refine Ok.bind (P:=fun s:ByteArray=>s.size≤60) (Ok.ite (fun _=>Ok.cat (by simp only[qQn,jP,jC,jD,Nat.reduceAdd];omega) fun s3 e3=>Ok.mk (by simp only[qQn,jP,jC,jD,Nat.reduceAdd] at e3;omega)) fun _=>Ok.mk (by omega)) fun o1 e3=> ?_
 dsimp only
 refine Ok.next (by omega) (by omega) (by omega) (by omega) fun r g1 g2=> ?_
 dsimp only
 -- imports
 refine Ok.loop (fun st=>∃s L n a',st=(s,L,n,l,a')∧0≤n∧n≤2∧(L.length:Int)+n≤2∧(s.size:Int)≤60+30*(2-n)∧a≤a'∧a'≤a+10+(2-n)) (fun st=>st.2.2.1.toNat) (fun b=>∃s a',b=(s,l,a')∧s.size≤120∧a≤a'∧a'≤a+20) ?_ ⟨o1,[],r,a+1+1,rfl,g1,by omega,by simp only[jD];omega,by omega,by omega,by omega⟩ (by simp only;omega) ?_
 ·rintro _ ⟨s,L,n,a',rfl,k1,k2,k3,k4,k5,k6⟩
  simp only[qJr,qEh]
  by_cases hn:n>0
  ·rw[if_pos (by simpa using hn)]
   refine Ok.assoc (Ok.someb ?_)
   refine Ok.assoc (Ok.oneS (by omega) (by omega) (by decide) fun x hx=> ?_)
   dsimp only
   refine Ok.assoc (Ok.bind (P:=fun _=>True) (Ok.ite (fun _=>Ok.has (by omega) (by omega) fun b=>Ok.mk trivial) fun _=>Ok.mk trivial) fun o4 _=> ?_)
   refine Ok.iteb (fun _=> ?_) fun _=> ?_
   ·refine Ok.assoc (Ok.app (by simp only[jC,jD];omega) (by decide) ?_)
    refine Ok.assoc (Ok.cat (by simp only[qQn,jP,jC,jD,Nat.reduceAdd];omega) fun t1 f1=> ?_)
    simp only[qQn,jP,jC,jD,Nat.reduceAdd] at f1
    refine Ok.assoc (Ok.cat (by simp only[qQn,jP,jC,jD,Nat.reduceAdd];omega) fun t2 f2=> ?_)
    simp only[qQn,jP,jC,jD,Nat.reduceAdd] at f2
    refine Ok.assoc (Ok.cat (by omega) fun t3 f3=>Ok.someb (Ok.mk ?_))
    dsimp only
    rw[wi64 (by omega) (by omega)]
    exact⟨⟨t3,_,_,_,rfl,by omega,by omega,by simp only[jL,jC,jD];omega,by omega,by omega,by omega⟩,by omega⟩
   ·refine Ok.someb (Ok.mk ?_)
    dsimp only
    rw[wi64 (by omega) (by omega)]
    exact⟨⟨s,_,_,_,rfl,by omega,by omega,by omega,by omega,by omega,by omega⟩,by omega⟩
  ·rw[if_neg (by simpa using hn)]
   exact Ok.mk ⟨s,a',rfl,by omega,k5,by omega⟩
 rintro _ ⟨s,b1,rfl,q1,q2,q3⟩
 dsimp only
 refine Ok.next (by omega) (by omega) (by omega) (by omega) fun r2 g3 g4=> ?_
 dsimp only
 -- declarations
 refine Ok.loop (fun st=>∃s L n a',st=(s,L,n,l,a')∧0≤n∧n≤5∧(L.length:Int)+n≤5∧(s.size:Int)≤120+890*(5-n)∧a≤a'∧a'≤a+100+10020*(5-n)) (fun st=>st.2.2.1.toNat) (fun b=>∃s a',b=(s,l,a')∧s.size≤4580∧a≤a'∧a'≤a+60000) ?_ ⟨s,[],_,b1+1,rfl,by rw[wi64 (by omega) (by omega)];omega,by rw[wi64 (by omega) (by omega)];omega,by rw[wi64 (by omega) (by omega)];simp only[jD];omega,by rw[wi64 (by omega) (by omega)];omega,by omega,by rw[wi64 (by omega) (by omega)];omega⟩ (by simp only;rw[wi64 (by omega) (by omega)];omega) ?_
 ·rintro _ ⟨s,L,n,a',rfl,k1,k2,k3,k4,k5,k6⟩
  simp only[qJw]
  by_cases hn:n>0
  ·rw[if_pos (by simpa using hn)]
   refine Ok.assoc (Ok.decl (by omega) (by omega) (by omega) fun a2 d v1 v2 v3=> ?_)
   refine Ok.assoc (zOm (y:=((l,a2),d)) v3 hN fun hd=> ?_)
   dsimp only
   refine Ok.assoc (Ok.bind (P:=fun o:Bool×List Int×Int=>o.2.1=l∧a2≤o.2.2∧o.2.2≤a2+1) (Ok.has (by omega) (by omega) fun b=>Ok.ite (fun _=>Ok.mk ⟨rfl,by simp only;omega,by simp only;omega⟩) fun _=>Ok.chance (by omega) (by omega) (by omega) (by omega) fun c=>Ok.mk ⟨rfl,by simp only;omega,by simp only;omega⟩) fun o9 h9=> ?_)
   obtain⟨b9,l9,a9⟩:=o9
   obtain⟨rfl,w1,w2⟩:=h9
   dsimp only at w1 w2 ⊢
   refine Ok.iteb (fun _=> ?_) fun _=> ?_
   ·refine Ok.assoc (Ok.app (by simp only[jC,jD];omega) (by decide) ?_)
    refine Ok.assoc (Ok.cat (by omega) fun t3 f3=>Ok.someb (Ok.mk ?_))
    dsimp only
    rw[wi64 (by omega) (by omega)]
    exact⟨⟨t3,_,_,_,rfl,by omega,by omega,by simp only[jL,jC,jD];omega,by omega,by omega,by omega⟩,by omega⟩
   ·refine Ok.someb (Ok.mk ?_)
    dsimp only
    rw[wi64 (by omega) (by omega)]
    exact⟨⟨s,_,_,_,rfl,by omega,by omega,by omega,by omega,by omega,by omega⟩,by omega⟩
  ·rw[if_neg (by simpa using hn)]
   exact Ok.mk ⟨s,a',rfl,by omega,k5,by omega⟩
 rintro _ ⟨s,b2,rfl,u1,u2,u3⟩
 dsimp only
 refine Ok.chance (by omega) (by omega) (by omega) (by omega) fun c=> ?_
 dsimp only
 refine Ok.iteb (fun _=> ?_) fun _=> ?_
 ·refine Ok.assoc (Ok.oneS (by omega) (by omega) (by decide) fun x hx=> ?_)
  dsimp only
  refine Ok.assoc (Ok.cat (by omega) fun t f1=>Ok.someb (Ok.mk ?_))
  dsimp only
  refine⟨_,_,rfl,?_,?_,?_⟩<;>omega
 ·refine Ok.someb (Ok.mk ?_)
  dsimp only
  refine⟨_,_,rfl,?_,?_,?_⟩<;>omega
end
end
section
open Go Go.Dc
theorem qPr{N:Nat}{L:List File}{p b:ByteArray}(hl:L.length<1000000)(ha:Asc L):∀(d i M:Nat) (done:Bool) (acc:List File),i+d=L.length→d<M→acc.length≤i+done.toNat→(done=true→∀f∈L.drop i,f.1≠p)→
  Ok (qAx (qGi N L (p,b)) M (done,(i:Int),acc)) fun o=>o.2.length≤L.length+1∧(if o.1=true then o.2 else o.2++[(p,b)])=acc++(if done=true then L.drop i else fput (L.drop i) p b)
 |_,_,0,_,_,_,h,_,_=>by omega
 |0,i,M+1,done,acc,hd,_,hacc,_=>by
  refine⟨(done,acc),?_,by simp only;cases done<;>simp only[Bool.toNat_true,Bool.toNat_false] at hacc<;>omega,?_⟩
  ·simp only[qAx,qGi]
   rw[if_neg (by simp only[jB];omega)]
   rfl
  ·rw[jN (by omega)]
   cases done<;>simp[fput]
 |d+1,i,M+1,done,acc,hd,hM,hacc,hno=>by
  have hi:i<L.length:=by omega
  have e1:(i:Int)+1=((i+1:Nat):Int):=by omega
  have hgt:∀f∈L.drop (i+1),blt (L[i]).1 f.1=true:=by
   have:=(k8.1 (by rw[←jI hi];exact List.Pairwise.sublist (List.drop_sublist _ _) ha:Asc (L[i]::L.drop (i+1)))).1
   exact this
  simp only[qAx,qGi]
  rw[if_pos (by simp only[jB];omega),qEc hi,wi64 (by omega) (by omega),e1]
  rw[jI hi] at hno ⊢
  simp only[j0,eqB]
  cases done with
  |true=>
   simp only[Bool.toNat_true] at hacc
   have hne:=hno rfl _ (jU ..)
   have ih:=qPr (N:=N) (p:=p) (b:=b) hl ha d (i+1) M true (acc++[((L[i]).1,(L[i]).2)]) (by omega) (by omega) (by simp;omega) (fun h f hf=>hno rfl f (k0 _ hf))
   simp only[k7,jA,jE,j0]
   rw[if_pos (by simp[hne]),qCa (by simp only[jC,jD];omega) (by omega)]
   simp only[j0]
   refine ih.mono fun o ho=>⟨ho.1,?_⟩
   rw[ho.2];simp only[jH,gX,gO,kG]
  |false=>
   simp only[Bool.toNat_false] at hacc
   simp only[jW,jH,j0]
   rcases qVh p (L[i]).1 with h|h|h
   ·have h':Op.bytesLess p.toList (L[i]).1.toList=true:=h
    have hne:(L[i]).1≠p:=fun e=>zJq h e.symm
    have ih:=qPr (N:=N) (p:=p) (b:=b) hl ha d (i+1) M true ((acc++[(p,b)])++[((L[i]).1,(L[i]).2)]) (by omega) (by omega) (by simp;omega) (fun _ f hf e=>by
     have:=qQt h (hgt f hf);rw[e,qNt] at this;cases this)
    rw[h',Bool.true_or,if_pos rfl,qCa (by simp only[jC,jD];omega) (by omega)]
    simp only[j0]
    rw[if_pos (by simp[hne]),qCa (by simp only[jL,jC,jD];omega) (by omega)]
    simp only[j0]
    refine ih.mono fun o ho=>⟨ho.1,?_⟩
    have g3:fput (L[i]::L.drop (i+1)) p b=(p,b)::L[i]::L.drop (i+1):=by rw[fput,if_pos h]
    rw[ho.2,g3];simp only[jH,gX,gO,kG,jA,jE]
   ·have ih:=qPr (N:=N) (p:=p) (b:=b) hl ha d (i+1) M true (acc++[(p,b)]) (by omega) (by omega) (by simp;omega) (fun _ f hf e=>by
     have:=hgt f hf;rw[←h,e,qNt] at this;cases this)
    rw[jM h,Bool.or_true,if_pos rfl,qCa (by simp only[jC,jD];omega) (by omega)]
    simp only[j0]
    rw[if_neg (by simp[h])]
    simp only[j0]
    refine ih.mono fun o ho=>⟨ho.1,?_⟩
    have g3:fput (L[i]::L.drop (i+1)) p b=(p,b)::L.drop (i+1):=by rw[fput,if_neg (by rw[h,qNt];simp),if_pos h.symm]
    rw[ho.2,g3];simp only[jH,gX,gO,kG,jA,jE]
   ·have hne:(L[i]).1≠p:=zJq h
    have h':Op.bytesLess p.toList (L[i]).1.toList=false:=zDg h
    have ih:=qPr (N:=N) (p:=p) (b:=b) hl ha d (i+1) M false (acc++[((L[i]).1,(L[i]).2)]) (by omega) (by omega) (by simp;omega) (fun h=>by cases h)
    rw[h',jQ (fun e=>hne e.symm),Bool.or_false,if_neg (by simp)]
    simp only[j0]
    rw[if_pos (by simp[hne]),qCa (by simp only[jC,jD];omega) (by omega)]
    simp only[j0]
    refine ih.mono fun o ho=>⟨ho.1,?_⟩
    have g3:fput (L[i]::L.drop (i+1)) p b=L[i]::fput (L.drop (i+1)) p b:=by rw[fput,if_neg (by rw[show blt p (L[i]).1=false from h'];simp),if_neg hne]
    rw[ho.2,g3];simp only[gX,gO,kG,jA,jE]
theorem qNn{N:Nat}{L:List File}(p b:ByteArray)(hl:L.length<1000000)(ha:Asc L)(hN:L.length<N):qCw N L (p,b)=some (fput L p b):=by
 obtain⟨o,h1,h2,h3⟩:=qPr (N:=N) (p:=p) (b:=b) hl ha L.length 0 N false [] (by omega) hN (by simp) (fun h=>by cases h)
 simp only[qCw]
 rw[show((0:Nat):Int)=0 from rfl] at h1
 rw[h1]
 simp only[jX,kG,jA,jE] at h3
 simp only[j0]
 cases ho:o.1 with
 |true=>rw[ho] at h3;simp only[jH] at h3;simp[h3]
 |false=>
  rw[ho] at h3
  simp only[jA,jE] at h3
  simp only[jW,jH]
  rw[qCa (by simp only[jC,jD];omega) (by omega),h3]
  rfl
def srcL:List ByteArray:=[(⟨#[97,46,115,114,99]⟩:ByteArray),(⟨#[98,46,115,114,99]⟩:ByteArray),(⟨#[100,47,99,46,115,114,99]⟩:ByteArray),(⟨#[120,46,115,114,99]⟩:ByteArray)]
def datL:List ByteArray:=[(⟨#[97,46,100,97,116]⟩:ByteArray),(⟨#[100,47,98,46,100,97,116]⟩:ByteArray),(⟨#[99]⟩:ByteArray)]
theorem zLt:(srcL.all fun p=>qKv p.data.toList)=true:=by kernel_rfl
theorem zJm:(datL.all fun p=>qKv p.data.toList)=true:=by kernel_rfl
def Made(L:List File):Prop:=Asc L∧∀f∈L,f.1∈srcL++datL∧f.2.size≤4700
theorem Made.put{L:List File}(h:Made L){p b:ByteArray}(hp:p∈srcL++datL)(hb:b.size≤4700):Made (fput L p b):=
 ⟨h.1.put p b,fun f hf=>by
  rcases qXj hf with rfl|hf
  ·exact⟨hp,hb⟩
  ·exact h.2 f hf⟩
theorem Made.path{L:List File}(h:Made L){f:File}(hf:f∈L):qKv f.1.data.toList=true:=by
 rcases gV.1 (h.2 f hf).1 with h|h
 ·exact jR.1 zLt _ h
 ·exact jR.1 zJm _ h
theorem zMg{N:Nat}{y1:List ByteArray}{s1:Int×(List (ByteArray×ByteArray))×List (Int)×Int}:qGr N y1 s1=
 if(decide (s1.1<(List.length y1:Int)))=true then(((idx y1 s1.1).bind fun x1=>(qCe N (s1.2.2.1,s1.2.2.2) 3 4).bind fun y2=>if y2.2=true then((qEh N).bind fun y3=>(qBf N (y2.1.1,y2.1.2) y3).bind fun y4=>(qFm N (y4.1.1,y4.1.2) y4.2).bind fun y5=>(qCw N s1.2.1 (x1,y5.2)).bind fun y6=>some (y6,y5.1.1,y5.1.2)) else(some (s1.2.1,y2.1.1,y2.1.2)):Option ((List (ByteArray×ByteArray))×List (Int)×Int)).bind fun o2=>some (.inl (IntKind.wrap .i64 (s1.1+1),o2.1,o2.2.1,o2.2.2))) else(some (.inr (s1.2.1,s1.2.2.1,s1.2.2.2))):=rfl
theorem zNi{N:Nat}{s2:Int×(List (ByteArray×ByteArray))×List (Int)×Int}:qIu N s2=
 if(decide (s2.1<(List.length datL:Int)))=true then(((idx datL s2.1).bind fun x2=>(qCe N (s2.2.2.1,s2.2.2.2) 1 3).bind fun y7=>if y7.2=true then((qIc N (y7.1.1,y7.1.2)).bind fun y8=>(qCw N s2.2.1 (x2,y8.2)).bind fun y9=>some (y9,y8.1.1,y8.1.2)) else(some (s2.2.1,y7.1.1,y7.1.2)):Option ((List (ByteArray×ByteArray))×List (Int)×Int)).bind fun o4=>some (.inl (IntKind.wrap .i64 (s2.1+1),o4.1,o4.2.1,o4.2.2))) else(some (.inr (s2.2.1,s2.2.2.1,s2.2.2.2))):=rfl
theorem zIp(l:List UInt8):(qRr l).size=l.length:=by simp[qRr,ByteArray.size]
theorem zKp{N:Nat}{l:List Int}{a:Int}(hN:100<N)(h0:0≤a)(h1:a<1000000000000000000):Ok (qIc N (l,a)) fun y=>∃a' s,y=((l,a'),s)∧a≤a'∧a'≤a+10∧s.size≤10:=by
 simp only[qIc]
 refine Ok.next (by omega) (by omega) (by omega) (by omega) fun r g1 g2=> ?_
 dsimp only
 simp only[qJs]
 refine Ok.assoc ?_
 refine Ok.loop (fun st=>∃L n a',st=(L,n,l,a')∧0≤n∧n≤r∧(L.length:Int)=n∧a≤a'∧a'≤a+1+n) (fun st=>(r-st.2.1).toNat) (fun b=>∃L a',b=(L,l,a')∧L.length≤4∧a≤a'∧a'≤a+5) ?_ ⟨[],0,a+1,rfl,by omega,by omega,rfl,by omega,by omega⟩ (by dsimp only;omega) ?_
 ·rintro _ ⟨L,n,a',rfl,k1,k2,k3,k4,k5⟩
  have h5:ByteArray.size (⟨#[97,98,0,255,48]⟩:ByteArray)=5:=rfl
  simp only[qIh,h5]
  by_cases hn:n<r
  ·rw[if_pos (by simpa using hn)]
   refine Ok.next (by omega) (by omega) (by omega) (by omega) fun q v1 v2=> ?_
   dsimp only
   have hq:q.toNat<ByteArray.size (⟨#[97,98,0,255,48]⟩:ByteArray):=by rw[h5];omega
   have hx:idxB (⟨#[97,98,0,255,48]⟩:ByteArray) q=some ((⟨#[97,98,0,255,48]⟩:ByteArray)[q.toNat]):=by
    have:=zCr hq
    rw[Int.toNat_of_nonneg v1] at this
    exact this
   rw[hx]
   refine Ok.someb (Ok.app (by simp only[jC,jD];omega) (by decide) (Ok.mk ?_))
   dsimp only
   rw[wi64 (by omega) (by omega)]
   exact⟨⟨_,_,_,rfl,by omega,by omega,by simp only[jL,jC,jD];omega,by omega,by omega⟩,by omega⟩
  ·rw[if_neg (by simpa using hn)]
   exact Ok.mk ⟨L,a',rfl,by omega,by omega,by omega⟩
 ·rintro _ ⟨L,a',rfl,v1,v2,v3⟩
  refine Ok.someb (Ok.mk ?_)
  dsimp only
  refine⟨_,_,rfl,?_,?_,?_⟩
  ·omega
  ·omega
  ·rw[zIp];omega
theorem zFk{N:Nat}{l:List Int}{a:Int}(hN:3000<N)(h0:0≤a)(h1:a<10000000000000000):Ok (qIo N (l,a)) fun y=>∃a' L,y=((l,a'),L)∧a≤a'∧a'≤a+1000000∧Made L∧L.length≤7:=by
 simp only[qIo,qHl]
 refine Ok.someb ?_
 show Ok ((qAx (qGr N srcL) N (0,[],l,a)).bind _) _
 refine Ok.loop (fun st=>∃(n:Nat) (L:List File) (a':Int),st=((n:Int),L,l,a')∧n≤4∧L.length≤n∧Made L∧a≤a'∧a'≤a+100010*n) (fun st=>4-st.1.toNat) (fun b=>∃L a',b=(L,l,a')∧L.length≤4∧Made L∧a≤a'∧a'≤a+500000) ?_ ⟨0,[],a,rfl,by omega,by simp,⟨List.Pairwise.nil,by simp⟩,by omega,by omega⟩ (by dsimp only;omega) ?_
 ·rintro _ ⟨n,L,a',rfl,k1,k2,k3,k4,k5⟩
  rw[zMg]
  have hlen:srcL.length=4:=rfl
  dsimp only
  by_cases hn:n<4
  ·rw[if_pos (by simp only[jB,hlen];omega),qEc (l:=srcL) (by omega)]
   refine Ok.assoc (Ok.someb ?_)
   refine Ok.assoc (Ok.chance (by omega) (by omega) (by omega) (by omega) fun c=> ?_)
   dsimp only
   refine Ok.iteb (fun _=> ?_) fun _=> ?_
   ·refine Ok.assoc (Ok.someb ?_)
    refine Ok.assoc (Ok.oneS (by omega) (by omega) (by decide) fun x hx=> ?_)
    dsimp only
    refine Ok.assoc (Ok.bind (qYf hN (by omega) (by omega) hx) ?_)
    rintro _ ⟨a2,s,rfl,v1,v2,v3⟩
    dsimp only
    rw[qNn _ _ (by omega) k3.1 (by omega)]
    refine Ok.assoc (Ok.someb (Ok.someb (Ok.mk ?_)))
    dsimp only
    have hf:=qRh L (srcL[n]) s
    refine⟨⟨n+1,_,_,by rw[wi64 (by omega) (by omega)];rfl,by omega,by omega,k3.put (kZ _ (kA _)) v3,by omega,by omega⟩,?_⟩
    rw[wi64 (by omega) (by omega)];omega
   ·refine Ok.someb (Ok.mk ?_)
    dsimp only
    refine⟨⟨n+1,_,_,by rw[wi64 (by omega) (by omega)];rfl,by omega,by omega,k3,by omega,by omega⟩,?_⟩
    rw[wi64 (by omega) (by omega)];omega
  ·rw[if_neg (by simp only[jB,hlen];omega)]
   exact Ok.mk ⟨L,a',rfl,by omega,k3,by omega,by omega⟩
 rintro _ ⟨L1,a1,rfl,u1,u2,u3,u4⟩
 dsimp only
 refine Ok.loop (fun st=>∃(n:Nat) (L:List File) (a':Int),st=((n:Int),L,l,a')∧n≤3∧L.length≤4+n∧Made L∧a≤a'∧a'≤a+500000+20*n) (fun st=>3-st.1.toNat) (fun b=>∃L a',b=(L,l,a')∧L.length≤7∧Made L∧a≤a'∧a'≤a+600000) ?_ ⟨0,L1,a1,rfl,by omega,by omega,u2,by omega,by omega⟩ (by dsimp only;omega) ?_
 ·rintro _ ⟨n,L,a',rfl,k1,k2,k3,k4,k5⟩
  rw[zNi]
  have hlen:datL.length=3:=rfl
  dsimp only
  by_cases hn:n<3
  ·rw[if_pos (by simp only[jB,hlen];omega),qEc (l:=datL) (by omega)]
   refine Ok.assoc (Ok.someb ?_)
   refine Ok.assoc (Ok.chance (by omega) (by omega) (by omega) (by omega) fun c=> ?_)
   dsimp only
   refine Ok.iteb (fun _=> ?_) fun _=> ?_
   ·refine Ok.assoc (Ok.bind (zKp (by omega) (by omega) (by omega)) ?_)
    rintro _ ⟨a2,s,rfl,v1,v2,v3⟩
    dsimp only
    rw[qNn _ _ (by omega) k3.1 (by omega)]
    refine Ok.assoc (Ok.someb (Ok.someb (Ok.mk ?_)))
    dsimp only
    have hf:=qRh L (datL[n]) s
    refine⟨⟨n+1,_,_,by rw[wi64 (by omega) (by omega)];rfl,by omega,by omega,k3.put (List.mem_append_right _ (kA _)) (by omega),by omega,by omega⟩,?_⟩
    rw[wi64 (by omega) (by omega)];omega
   ·refine Ok.someb (Ok.mk ?_)
    dsimp only
    refine⟨⟨n+1,_,_,by rw[wi64 (by omega) (by omega)];rfl,by omega,by omega,k3,by omega,by omega⟩,?_⟩
    rw[wi64 (by omega) (by omega)];omega
  ·rw[if_neg (by simp only[jB,hlen];omega)]
   exact Ok.mk ⟨L,a',rfl,by omega,k3,by omega,by omega⟩
 rintro _ ⟨L2,a2,rfl,w1,w2,w3,w4⟩
 refine Ok.mk ?_
 exact⟨a2,L2,rfl,by omega,by omega,w2,w1⟩
theorem Made.wf{L:List File}(h:Made L)(hl:L.length≤64):WF L:=⟨hl,h.1,fun f hf=>⟨h.path hf,fD (h.2 f hf).2 (by decide)⟩⟩
end
section
open Go Go.Dc
def MadeE(K:Nat)(L:List File):Prop:=Asc L∧∀f∈L,qKv f.1.data.toList=true∧f.2.size≤K
theorem Made.e{L:List File}(h:Made L):MadeE 4700 L:=⟨h.1,fun f hf=>⟨h.path hf,(h.2 f hf).2⟩⟩
theorem MadeE.put{K:Nat}{L:List File}(h:MadeE K L){p b:ByteArray}(hp:qKv p.data.toList=true)(hb:b.size≤K):MadeE K (fput L p b):=
 ⟨h.1.put p b,fun f hf=>by
  rcases qXj hf with rfl|hf
  ·exact⟨hp,hb⟩
  ·exact h.2 f hf⟩
theorem MadeE.del{K:Nat}{L:List File}(h:MadeE K L)(p:ByteArray):MadeE K (fdel L p):=⟨h.1.del p,fun f hf=>h.2 f (gU.1 hf).1⟩
theorem MadeE.more{K K':Nat}{L:List File}(h:MadeE K L)(hk:K≤K'):MadeE K' L:=⟨h.1,fun f hf=>⟨(h.2 f hf).1,fD (h.2 f hf).2 hk⟩⟩
theorem MadeE.wf{K:Nat}{L:List File}(h:MadeE K L)(hk:K≤16384)(hl:L.length≤64):WF L:=⟨hl,h.1,fun f hf=>⟨(h.2 f hf).1,fD (h.2 f hf).2 hk⟩⟩
theorem zDf{N:Nat}{L:List File}{p:ByteArray}(hl:L.length<1000000)(hN:L.length<N):qId N L p=some (fdel L p):=by
 have h:=qVl (L:=L) (fun(t:List File) i=>((i:Int),t)) (f:=qGe N L p) (fun t f=>(.inl (if decide (f.1≠p)=true then t++[f] else t):List File⊕List File)) (fun t=>t) (fun i t=>t.length≤i) (fun t i hi ht=>by
   have hc:((i:Int)<(L.length:Int)):=by omega
   have w:IntKind.wrap .i64 ((i:Int)+1)=((i+1:Nat):Int):=by rw[wi64 (by omega) (by omega)];omega
   simp only[qGe,hc,decide_true,jH,qEc hi,j0,w,eqB]
   by_cases hp:L[i].1=p
   ·simp[hp]
   ·simp only[hp,decide_false,jW,jH,ne_eq,not_false_eq_true,decide_true]
    rw[qCa (by simp only[jC,jD];omega) (by decide)]
    rfl) (fun t i hi t' ht hs=>by
   simp only[Sum.inl.injEq] at hs
   subst hs
   split
   ·simp only[jL,jC,jD];omega
   ·omega) (fun t _=>by
   have hc:¬((L.length:Int)<(L.length:Int)):=by omega
   simp only[qGe,hc,decide_false,jA,jE]) (t:=[]) hN (kO _)
 rw[show((0:Nat):Int)=0 from rfl] at h
 have hr:=qXe (step:=fun(t:List File) (f:File)=>(.inl (if decide (f.1≠p)=true then t++[f] else t):List File⊕List File)) (fin:=fun t=>t) (fun(t:List File) (f:File)=>if decide (f.1≠p)=true then t++[f] else t) (fun _ _=>rfl) L []
 unfold qId
 rw[h,hr]
 simp only[j0]
 congr 1
 have:∀(a t:List File),a.foldl (fun t f=>if decide (f.1≠p)=true then t++[f] else t) t=t++fdel a p:=by
  intro a
  induction a with
  |nil=>intro t;simp[fdel]
  |cons x a ih=>
   intro t
   rw[kI,ih]
   unfold fdel
   rw[kM]
   split<;>simp
 rw[this];rfl
theorem zJs(L:List File)(p:ByteArray):(fdel L p).length≤L.length:=List.length_filter_le _ _
def Good(l:List Int)(a:Int)(K:Nat)(L:List File)(z:(List Int×Int)×List File):Prop:=∃a' L',z=((l,a'),L')∧a≤a'∧a'≤a+200000∧MadeE (K+900) L'∧L'.length≤L.length+1
section
variable {N:Nat} {l:List Int} {a:Int} {K:Nat} {L:List File}
theorem qUy{f:Int→Option (Int⊕(Unit⊕((List Int×Int)×List File)))}{Q:(List Int×Int)×List File→Prop}{p:ByteArray}(hl:L.length≤100)(hN:200<N)
  (hf:∀j,∀hj:j<L.length,L[j].1=p→Ok (f (j:Int)) fun r=>∃z,r= .inr (.inr z)∧Q z) (hn:∀j,∀hj:j<L.length,¬L[j].1=p→f (j:Int)=some (.inl ((j+1:Nat):Int))) (he:f (L.length:Int)=some (.inr (.inl ()))):
  Ok (qAx f N 0) fun o=>o= .inl ()∨∃z,o= .inr z∧Q z:=by
 obtain⟨b,h1,h2⟩:=qXf (f:=f) (fun s=>∃j:Nat,s=(j:Int)∧j≤L.length) (fun s=>L.length-s.toNat) (fun o=>o= .inl ()∨∃z,o= .inr z∧Q z) (fun s hs=>by
  obtain⟨j,rfl,hj⟩:=hs
  by_cases hlt:j<L.length
  ·by_cases hp:L[j].1=p
   ·obtain⟨r,h1,z,rfl,h2⟩:=hf j hlt hp
    exact .inl ⟨_,h1,.inr ⟨z,rfl,h2⟩⟩
   ·exact .inr ⟨_,hn j hlt hp,⟨j+1,rfl,hlt⟩,by simp only[k9];omega⟩
  ·have:j=L.length:=by omega
   subst this
   exact .inl ⟨_,he,.inl rfl⟩) N 0 ⟨0,rfl,kO _⟩ (by simp only[Int.toNat_zero];omega)
 exact⟨b,h1,h2⟩
theorem digit3(M:Nat):qDn (M+1) 0=some (⟨#[48]⟩:ByteArray)∧qDn (M+1) 1=some (⟨#[49]⟩:ByteArray)∧qDn (M+1) 2=some (⟨#[50]⟩:ByteArray):=⟨by kernel_rfl,by kernel_rfl,by kernel_rfl⟩
theorem qTl{x y z:ByteArray}(h:x++y=z)(hs:x.size+y.size≤1000):catB x y=some z:=by
 unfold catB
 rw[if_pos (by simp only[maxLen];omega),h]
theorem zpath{x:Int}(h0:0≤x)(h1:x<3){M:Nat}:∃s t p:ByteArray,qDn (M+1) x=some s∧catB (⟨#[122]⟩:ByteArray) s=some t∧catB t (⟨#[46,115,114,99]⟩:ByteArray)=some p∧qKv p.data.toList=true:=by
 obtain⟨d0,d1,d2⟩:=digit3 M
 have hx:x=0∨x=1∨x=2:=by omega
 rcases hx with rfl|rfl|rfl
 ·exact⟨_,⟨#[122,48]⟩,⟨#[122,48,46,115,114,99]⟩,d0,qTl (by decide+kernel) (by decide),qTl (by decide+kernel) (by decide),by kernel_rfl⟩
 ·exact⟨_,⟨#[122,49]⟩,⟨#[122,49,46,115,114,99]⟩,d1,qTl (by decide+kernel) (by decide),qTl (by decide+kernel) (by decide),by kernel_rfl⟩
 ·exact⟨_,⟨#[122,50]⟩,⟨#[122,50,46,115,114,99]⟩,d2,qTl (by decide+kernel) (by decide),qTl (by decide+kernel) (by decide),by kernel_rfl⟩
theorem zMd{p:ByteArray}(h:p∈srcL):qKv p.data.toList=true:=jR.1 zLt p h
theorem zMr{p:ByteArray}(h:p∈datL):qKv p.data.toList=true:=jR.1 zJm p h
theorem zOi(hN:3000<N)(h0:0≤a)(h1:a<10000000000000000)(hL:MadeE K L)(hK:4700≤K)(hK2:K≤100000)(hlen:L.length≤100):Ok (qKn N (l,a) L) (Good l a K L):=by
 obtain⟨M,rfl⟩:∃M,N=M+1:=⟨N-1,by omega⟩
 have hL9:MadeE (K+900) L:=hL.more (by omega)
 have hput:∀(a':Int) {p b:ByteArray},a≤a'→a'≤a+200000→qKv p.data.toList=true→b.size≤K+900→Good l a K L ((l,a'),fput L p b):=fun a' {p b} g1 g2 hp hb=>
  ⟨a',_,rfl,g1,g2,hL9.put hp hb,qRh L p b⟩
 unfold qKn qHl
 refine Ok.someb (Ok.one h0 (by omega) (by decide) (by decide) fun p hp=> ?_)
 have hpp:=zMd hp
 refine Ok.next (by first|omega|(dsimp only;omega)) (by first|omega|(dsimp only;omega)) (by decide) (by decide) fun r r0 r1=> ?_
 dsimp only
 refine Ok.bind (P:=fun q=>q= .inl ()∨∃z,q= .inr z∧Good l a K L z) ?_ ?_
 ·refine Ok.ite (fun _=> ?_) fun _=>Ok.ite (fun _=> ?_) fun _=>Ok.ite (fun _=> ?_) fun _=>Ok.ite (fun _=> ?_) fun _=>Ok.ite (fun _=> ?_) fun _=>Ok.ite (fun _=> ?_) fun _=>Ok.mk (.inl rfl)
  ·refine Ok.one (by omega) (by omega) (by decide) (by decide) fun q hq=> ?_
   have hq:q∈datL:=hq
   dsimp only
   refine Ok.bind (zKp (by omega) (by omega) (by omega)) ?_
   rintro _ ⟨a2,s,rfl,v1,v2,v3⟩
   dsimp only
   rw[qNn _ _ (by omega) hL.1 (by omega)]
   exact Ok.mk (.inr ⟨_,rfl,hput a2 (by omega) (by omega) (zMr hq) (by omega)⟩)
  ·refine Ok.one (by omega) (by omega) (by decide) (by decide) fun q hq=> ?_
   dsimp only
   rw[zDf (by omega) (by omega)]
   exact Ok.mk (.inr ⟨_,rfl,_,_,rfl,by omega,by omega,hL9.del q,by have:=zJs L q;omega⟩)
  ·refine Ok.someb (Ok.oneS (by omega) (by omega) (by decide) fun q hq=> ?_)
   refine Ok.bind (qYf (by omega) (by first|omega|(dsimp only;omega)) (by first|omega|(dsimp only;omega)) hq) ?_
   rintro _ ⟨a2,s,rfl,v1,v2,v3⟩
   dsimp only at v1 v2 ⊢
   rw[qNn _ _ (by omega) hL.1 (by omega)]
   exact Ok.mk (.inr ⟨_,rfl,hput a2 (by omega) (by omega) hpp (by omega)⟩)
  ·refine Ok.bind (qUy (L:=L) (p:=p) (Q:=Good l a K L) hlen (by omega) (fun j hj hjp=> ?_) (fun j hj hjp=> ?_) ?_) ?_
   ·have hc:((j:Int)<(L.length:Int)):=by omega
    simp only[qHm,hc,decide_true,jH,qEc hj,j0,eqB,hjp]
    rw[zDf (by omega) (by omega)]
    refine Ok.someb (Ok.next (by omega) (by omega) (by decide) (by decide) fun x x0 x1=> ?_)
    obtain⟨s,t,q,e1,e2,e3,e4⟩:=zpath x0 x1 (M:=M)
    simp only[e1,e2,e3,j0]
    have hd:=zJs L p
    rw[qNn _ _ (by omega) (hL.1.del p) (by omega)]
    refine Ok.mk ⟨_,rfl,_,_,rfl,by omega,by omega,(hL9.del p).put e4 (by have:=(hL.2 L[j] (kA hj)).2;omega),?_⟩
    have:=qRh (fdel L p) q L[j].2
    omega
   ·have hc:((j:Int)<(L.length:Int)):=by omega
    have w:IntKind.wrap .i64 ((j:Int)+1)=((j+1:Nat):Int):=by rw[wi64 (by omega) (by omega)];omega
    simp only[qHm,hc,decide_true,jH,qEc hj,j0,eqB,hjp,decide_false,jA,jE,w]
   ·have hc:¬((L.length:Int)<(L.length:Int)):=by omega
    simp only[qHm,hc,decide_false,jA,jE]
   ·rintro o (rfl|⟨z,rfl,hz⟩)
    ·exact Ok.mk (.inl rfl)
    ·exact Ok.mk (.inr ⟨z,rfl,hz⟩)
  ·refine Ok.bind (qUy (L:=L) (p:=p) (Q:=Good l a K L) hlen (by omega) (fun j hj hjp=> ?_) (fun j hj hjp=> ?_) ?_) ?_
   ·have hc:((j:Int)<(L.length:Int)):=by omega
    have hsz:=(hL.2 L[j] (kA hj)).2
    simp only[qHn,hc,decide_true,jH,qEc hj,j0,eqB,hjp]
    refine Ok.next (by omega) (by omega) (by decide) (by decide) fun x x0 x1=> ?_
    refine Ok.digits (by omega) (by omega) (by omega) fun s hs=> ?_
    refine Ok.cat (by simp only[qQn,jP,jC,jD];omega) fun s5 h5=> ?_
    simp only[qQn,jP,jC,jD] at h5
    refine Ok.cat (by simp only[qQn,jP,jC,jD];omega) fun s6 h6=> ?_
    simp only[qQn,jP,jC,jD] at h6
    refine Ok.cat (by omega) fun s7 h7=> ?_
    rw[qNn _ _ (by omega) hL.1 (by omega)]
    exact Ok.mk ⟨_,rfl,hput _ (by first|omega|(dsimp only;omega)) (by first|omega|(dsimp only;omega)) hpp (by omega)⟩
   ·have hc:((j:Int)<(L.length:Int)):=by omega
    have w:IntKind.wrap .i64 ((j:Int)+1)=((j+1:Nat):Int):=by rw[wi64 (by omega) (by omega)];omega
    simp only[qHn,hc,decide_true,jH,qEc hj,j0,eqB,hjp,decide_false,jA,jE,w]
   ·have hc:¬((L.length:Int)<(L.length:Int)):=by omega
    simp only[qHn,hc,decide_false,jA,jE]
   ·rintro o (rfl|⟨z,rfl,hz⟩)
    ·exact Ok.mk (.inl rfl)
    ·exact Ok.mk (.inr ⟨z,rfl,hz⟩)
  ·refine Ok.bind (qUy (L:=L) (p:=p) (Q:=Good l a K L) hlen (by omega) (fun j hj hjp=> ?_) (fun j hj hjp=> ?_) ?_) ?_
   ·have hc:((j:Int)<(L.length:Int)):=by omega
    have hsz:=(hL.2 L[j] (kA hj)).2
    simp only[qHj,hc,decide_true,jH,qEc hj,j0,eqB,hjp]
    refine Ok.cat (by simp only[qQn,jP,jC,jD];omega) fun s5 h5=> ?_
    simp only[qQn,jP,jC,jD] at h5
    rw[qNn _ _ (by omega) hL.1 (by omega)]
    exact Ok.mk ⟨_,rfl,hput _ (by first|omega|(dsimp only;omega)) (by first|omega|(dsimp only;omega)) hpp (by omega)⟩
   ·have hc:((j:Int)<(L.length:Int)):=by omega
    have w:IntKind.wrap .i64 ((j:Int)+1)=((j+1:Nat):Int):=by rw[wi64 (by omega) (by omega)];omega
    simp only[qHj,hc,decide_true,jH,qEc hj,j0,eqB,hjp,decide_false,jA,jE,w]
   ·have hc:¬((L.length:Int)<(L.length:Int)):=by omega
    simp only[qHj,hc,decide_false,jA,jE]
   ·rintro o (rfl|⟨z,rfl,hz⟩)
    ·exact Ok.mk (.inl rfl)
    ·exact Ok.mk (.inr ⟨z,rfl,hz⟩)
 ·rintro q (rfl|⟨z,rfl,hz⟩)
  ·dsimp only
   refine Ok.bind (qUy (L:=L) (p:=p) (Q:=Good l a K L) hlen (by omega) (fun j hj hjp=> ?_) (fun j hj hjp=> ?_) ?_) ?_
   ·have hc:((j:Int)<(L.length:Int)):=by omega
    have hsz:=(hL.2 L[j] (kA hj)).2
    simp only[qHo,hc,decide_true,jH,qEc hj,j0,eqB,hjp]
    refine Ok.decl (by omega) (by omega) (by omega) fun a2 s g1 g2 g3=> ?_
    dsimp only
    refine Ok.cat (by omega) fun s5 h5=> ?_
    rw[qNn _ _ (by omega) hL.1 (by omega)]
    exact Ok.mk ⟨_,rfl,hput a2 (by omega) (by omega) hpp (by omega)⟩
   ·have hc:((j:Int)<(L.length:Int)):=by omega
    have w:IntKind.wrap .i64 ((j:Int)+1)=((j+1:Nat):Int):=by rw[wi64 (by omega) (by omega)];omega
    simp only[qHo,hc,decide_true,jH,qEc hj,j0,eqB,hjp,decide_false,jA,jE,w]
   ·have hc:¬((L.length:Int)<(L.length:Int)):=by omega
    simp only[qHo,hc,decide_false,jA,jE]
   ·rintro o (rfl|⟨z,rfl,hz⟩)
    ·dsimp only
     refine Ok.someb (Ok.oneS (by omega) (by omega) (by decide) fun q hq=> ?_)
     refine Ok.bind (qYf (by omega) (by first|omega|(dsimp only;omega)) (by first|omega|(dsimp only;omega)) hq) ?_
     rintro _ ⟨a2,s,rfl,v1,v2,v3⟩
     dsimp only at v1 v2 ⊢
     rw[qNn _ _ (by omega) hL.1 (by omega)]
     exact Ok.mk (hput a2 (by omega) (by omega) hpp (by omega))
    ·exact Ok.mk hz
  ·exact Ok.mk hz
end
end
section
open Go Go.Dc Go.Proofs
def wR:List File:=[((⟨#[97,46,115,114,99]⟩:ByteArray),(⟨#[112,97,99,107,97,103,101,32,115,59,32,102,117,110,99,32,102,40,41,32,61,32,49,59,32,103,101,110,32,34,99,34,32,61,32,50,59]⟩:ByteArray))]
theorem zOd:qZn wR (⟨#[112]⟩:ByteArray) [(⟨#[113]⟩:ByteArray),(⟨#[115]⟩:ByteArray)] (⟨#[102]⟩:ByteArray)=(((⟨#[115]⟩:ByteArray),(⟨#[102]⟩:ByteArray),1,(⟨#[97,46,115,114,99]⟩:ByteArray),0,1),[(1,(⟨#[112]⟩:ByteArray),(⟨#[102]⟩:ByteArray)),(1,(⟨#[113]⟩:ByteArray),(⟨#[102]⟩:ByteArray)),(1,(⟨#[115]⟩:ByteArray),(⟨#[102]⟩:ByteArray))],0):=by kernel_rfl
theorem zOe:zFq wR (⟨#[99]⟩:ByteArray)=(2,((⟨#[115]⟩:ByteArray),(⟨#[99]⟩:ByteArray),3,(⟨#[97,46,115,114,99]⟩:ByteArray),1,1),[(4,(⟨#[99]⟩:ByteArray),qJl),(3,(⟨#[99]⟩:ByteArray),qJl)],0):=by kernel_rfl
theorem qZe{N:Nat}{L:List File}(h:∀f∈L,f.1.size≤1048576)(hN:3000000<N):qPp N L:=fun g hg=>qXq (by have:=h g hg;omega) (by have:=h g hg;omega)
theorem zJx{p:ByteArray}(h:qKv p.data.toList=true):p.size≤80:=by
 have:p.data.toList.length≤80:=(kJ h).1
 have e:=qCl p
 omega
theorem zIs{N K:Nat}{L:List File}(h:MadeE K L)(hN:10000<N):qPp N L:=fun g hg=>by
 have:=zJx (h.2 g hg).1
 exact qXq (by omega) (by omega)
theorem zLl{N:Nat}(hN:3000000<N):qJq N=some true:=by
 have hP:qPp N wR:=qZe (fun f hf=>by
  rw[List.mem_singleton.1 hf];decide) hN
 have h1:=zJk (N:=N) (L:=wR) (f:=((⟨#[112]⟩:ByteArray),[(⟨#[113]⟩:ByteArray),(⟨#[115]⟩:ByteArray)],[])) (name:=(⟨#[102]⟩:ByteArray)) hP (by decide) (by omega)
 have h2:=zKe (N:=N) (L:=wR) (path:=(⟨#[99]⟩:ByteArray)) hP (qXq (by decide) (show 2*1+1000<N by omega)) (by omega)
 rw[show qZn wR _ _ _=_ from zOd] at h1
 rw[zOe] at h2
 unfold qJq
 refine Eq.trans (congrArg (fun z=>Option.bind z _) h1) ?_
 simp only[j0]
 refine Eq.trans (congrArg (fun z=>Option.bind z _) h2) ?_
 kernel_rfl
end
section
open Go Go.Dc Go.Proofs
theorem zDl{E:ByteArray→Ent}{name:ByteArray}:∀(l:List ByteArray) (acc:List K3),(qZk E name l acc).2.1.length≤acc.length+l.length
 |[],acc=>jV _
 |p::l,acc=>by
  unfold qZk
  split
  ·have:=zDl (E:=E) (name:=name) l (acc++[(1,p,name)])
   simp only[jL,jC,jD] at this ⊢
   omega
  ·split<;>simp only[jL,jC,jD]<;>omega
theorem zJg{L:List File}{pkg name:ByteArray}{l:List ByteArray}:(qZn L pkg l name).2.1.length≤1+l.length:=by
 unfold qZn
 split
 ·have:=zDl (E:=fun p=>qIp L 1 p name) (name:=name) (pkg::l) []
  simp only[jC,jD] at this
  omega
 ·exact kO _
theorem zLr{L:List File}{path:ByteArray}:(zFq L path).2.2.1.length≤2:=by
 unfold zFq
 split
 ·split
  ·exact(by decide:1≤2)
  ·split
   ·exact jV _
   ·split<;>exact jV _
 ·exact kO _
theorem qUq{N:Nat}{K:List K3}(hl:K.length<1000)(hN:1000<N):qGf N K K=some true:=by
 have:=qWa (L:=K) (fun(_:Unit) (i:Nat)=>(i:Int)) (f:=qEa N K K) (fun _ _ _=>()) (fun _=>(.inl ():Unit⊕Bool)) (by
  intro _ i hi
  simp only[qEa]
  rw[if_pos (by simp only[jB];omega),qEc hi]
  have ew:IntKind.wrap .i64 ((i:Int)+1)=((i+1:Nat):Int):=by rw[wi64 (by omega) (by omega)];omega
  simp only[j0,kX,Bool.and_true,k7,jA,jE,ew]) (by
  intro _
  simp only[qEa]
  rw[if_neg (by simp)]) K.length 0 N () (by omega) (by omega)
 simp only[qGf,gW,jA,jE]
 rw[show qAx (qEa N K K) N 0=_ from this]
 rfl
theorem zNe{L:List ByteArray}(hL:(L.all fun x=>decide (x.size≤12))=true){x:ByteArray}(h:x∈L):x.size≤12:=kJ (jR.1 hL x h)
theorem zMs{N:Nat}{l:List Int}{a:Int}{n:Int}{β:Type}{Q:β→Prop}{k:List Int×Int×List ByteArray→Option β}(h0:0≤a)(h1:a<1000000000000000000)(hn0:0≤n)(hn:n<4)(hN:100<N)
  (h:∀a' imps,a≤a'→a'≤a+3→imps.length≤3→Ok (k (l,a',imps)) Q):Ok ((qAx (qEq N) N (n,l,a,([]:List ByteArray))).bind k) Q:=by
 refine Ok.loop (fun s=>∃(n:Nat) (a':Int) (imps:List ByteArray),s=((n:Int),l,a',imps)∧n+imps.length≤3∧a≤a'∧a'+n≤a+3) (fun s=>s.1.toNat) (fun b=>∃a' imps,b=(l,a',imps)∧a≤a'∧a'≤a+3∧imps.length≤3) ?_ ⟨n.toNat,a,[],by rw[Int.toNat_of_nonneg hn0],by simp;omega,by omega,by omega⟩ (by dsimp only;omega) ?_
 ·rintro _ ⟨n,a',imps,rfl,g1,g2,g3⟩
  unfold qEq
  dsimp only
  by_cases hn:0<n
  ·rw[if_pos (by simpa using hn)]
   refine Ok.one (by omega) (by omega) (by decide) (by decide) fun x hx=> ?_
   dsimp only
   refine Ok.app (by simp only[jC,jD];omega) (by decide) ?_
   have w:IntKind.wrap .i64 ((n:Int)-1)=((n-1:Nat):Int):=by rw[wi64 (by omega) (by omega)];omega
   rw[w]
   exact Ok.mk ⟨⟨n-1,a'+1,_,rfl,by simp;omega,by omega,by omega⟩,by simp only[k9];omega⟩
  ·rw[if_neg (by simpa using hn)]
   exact Ok.mk ⟨a',imps,rfl,g2,by omega,by omega⟩
 ·rintro _ ⟨a',imps,rfl,g1,g2,g3⟩
  exact h a' imps g1 g2 g3
theorem zMw{N:Nat}{L:List File}{p2:ByteArray}{l:List Int}{s1:Int×List Int×Int}(hP:qPp N L)(hp:p2.size≤1048576)(hN:3000000<N){a:Int}(h0:0≤a)(h1:a<100000000000000000):
  Ok (qAx (qDi N p2 s1 L) N (0,l,a)) fun o=>∃a',o= .inl (l,a')∧a≤a'∧a'≤a+800:=by
 have key:=qXf (f:=qDi N p2 s1 L) (fun s=>∃(j:Nat) (a':Int),s=((j:Int),l,a')∧j≤8∧a≤a'∧a'≤a+100*j) (fun s=>8-s.1.toNat) (fun o=>∃a',o= .inl (l,a')∧a≤a'∧a'≤a+800) (fun s hs=>by
  obtain⟨j,a',rfl,hj,g1,g2⟩:=hs
  have main:Ok (qDi N p2 s1 L ((j:Int),l,a')) fun r=>(match r with
    | .inl s'=>(∃(j:Nat) (a':Int),s'=((j:Int),l,a')∧j≤8∧a≤a'∧a'≤a+100*j)∧8-s'.1.toNat<8-j
    | .inr b=>∃a',b= .inl (l,a')∧a≤a'∧a'≤a+800):=by
   unfold qDi
   dsimp only
   by_cases hlt:j<8
   ·rw[if_pos (by simp only[jB];omega)]
    refine Ok.one (by omega) (by omega) (by decide) (by decide) fun pkg _=> ?_
    dsimp only
    refine Ok.next (by omega) (by omega) (by decide) (by decide) fun n n0 n1=> ?_
    dsimp only
    refine zMs (by omega) (by omega) n0 n1 (by omega) fun a2 imps u1 u2 u3=> ?_
    dsimp only
    refine Ok.one (by omega) (by omega) (by decide) (by decide) fun name hname=> ?_
    dsimp only
    refine Ok.one (by omega) (by omega) (by decide) (by decide) fun path hpath=> ?_
    dsimp only
    refine Ok.bind (P:=fun _=>True) (by split<;>exact Ok.mk trivial) fun b _=> ?_
    refine Ok.bind (P:=fun z:ByteArray×ByteArray=>z.2.size≤1048576) ?_ fun z hz=> ?_
    ·split
     ·exact Ok.mk hp
     ·exact Ok.mk (fD (zNe (by decide) hpath) (by decide))
    have c1:=zJk (N:=N) (L:=L) (f:=(pkg,imps,[])) (name:=z.1) hP (show imps.length<1000 by omega) (by omega)
    have c2:=zIk (N:=N) (L:=L) (f:=(pkg,imps,[])) (name:=z.1) (show imps.length<900 by omega) (by omega)
    have d1:=zKe (N:=N) (L:=L) (path:=z.2) hP (qXq (by omega) (by omega)) (by omega)
    have d2:=zIg (N:=N) (L:=L) (path:=z.2) (by omega)
    have k1:=zJg (L:=L) (pkg:=pkg) (name:=z.1) (l:=imps)
    have k2:=zLr (L:=L) (path:=z.2)
    refine Ok.bind (P:=fun y=>y=qZn L pkg imps z.1) ⟨_,c1,rfl⟩ ?_
    rintro _ rfl
    refine Ok.bind (P:=fun y=>y=qZn L pkg imps z.1) ⟨_,c2,rfl⟩ ?_
    rintro _ rfl
    rw[if_neg (by simp),if_neg (by simp),qUq (by omega) (by omega)]
    simp only[j0,k7,jA,jE,d1,d2]
    rw[if_neg (by simp),if_neg (by simp),if_neg (by simp),qUq (by omega) (by omega)]
    have w:IntKind.wrap .i64 ((j:Int)+1)=((j+1:Nat):Int):=by rw[wi64 (by omega) (by omega)];omega
    simp only[j0,k7,jA,jE,w]
    exact Ok.mk ⟨⟨j+1,_,rfl,by omega,by omega,by omega⟩,by simp only[k9];omega⟩
   ·rw[if_neg (by simp only[jB];omega)]
    exact Ok.mk ⟨a',rfl,g1,by omega⟩
  obtain⟨r,m1,m2⟩:=main
  cases r with
  |inl s'=>exact .inr ⟨s',m1,m2.1,by simpa using m2.2⟩
  |inr b=>exact .inl ⟨b,m1,m2⟩) N (0,l,a) ⟨0,a,rfl,by decide,fO _,by omega⟩ (by show 8-0<N;omega)
 obtain⟨b,m1,m2⟩:=key
 exact⟨b,m1,m2⟩
theorem testgatelaw09_ResolveCalls_true(l:List Int)(_gl:l.length≤1048576∧∀x∈l,(Lit.int .i64 x).wf=true)(raw:List File)(graw:raw.length≤1048576∧∀f∈raw,f.1.size≤1048576∧f.2.size≤1048576)(s:ByteArray)(gs:s.size≤1048576):∃N,qFw N l raw s=some true:=by
 refine⟨4000000,?_⟩
 have key:Ok (qFw 4000000 l raw s) fun b=>b=true:=by
  unfold qFw
  refine Ok.bind (P:=fun o=>∀f∈o,f∈raw) ?_ fun o1 ho1=> ?_
  ·split
   ·rename_i h
    have h:=kJ h
    rw[show(5:Int)=((5:Nat):Int) from rfl,zEq (by omega) (by omega) (by omega)]
    exact Ok.mk fun f hf=>List.mem_of_mem_take (List.mem_of_mem_drop hf)
   ·exact Ok.mk fun f hf=>hf
  refine Ok.bind (zFk (l:=l) (a:=0) (by decide) (by decide) (by decide)) ?_
  rintro _ ⟨a1,A,rfl,u1,u2,u3,u4⟩
  dsimp only
  refine Ok.bind (zOi (K:=4700) (by decide) (by omega) (by omega) u3.e (by decide) (by decide) (by omega)) ?_
  rintro _ ⟨a2,B,rfl,v1,v2,v3,v4⟩
  dsimp only
  have pB:qPp 4000000 B:=zIs v3 (by decide)
  have pR:qPp 4000000 o1:=qZe (fun f hf=>(graw.2 f (ho1 f hf)).1) (by decide)
  refine Ok.loop (fun st=>∃(j:Nat) (a':Int),st=((j:Int),l,a')∧j≤2∧0≤a'∧a'≤1200000+800*j) (fun st=>2-st.1.toNat) (fun b=>∃z,b= .inl z) ?_ ⟨0,a2,rfl,by decide,by omega,by omega⟩ (by show 2-0<4000000;decide) ?_
  ·rintro _ ⟨j,a',rfl,hj,g1,g2⟩
   unfold qGn
   dsimp only
   by_cases hlt:j<2
   ·have hjl:j<[B,o1].length:=hlt
    rw[if_pos (by simp only[jC,jD,jB];omega),qEc hjl]
    simp only[j0]
    have hP:qPp 4000000 ([B,o1][j]):=by
     rcases(by omega:j=0∨j=1) with rfl|rfl
     ·exact pB
     ·exact pR
    refine Ok.bind (zMw hP gs (by decide) g1 (by omega)) ?_
    rintro _ ⟨a3,rfl,w1,w2⟩
    dsimp only
    have w:IntKind.wrap .i64 ((j:Int)+1)=((j+1:Nat):Int):=by rw[wi64 (by omega) (by omega)];omega
    rw[w]
    exact Ok.mk ⟨⟨j+1,a3,rfl,by omega,by omega,by omega⟩,by simp only[k9];omega⟩
   ·rw[if_neg (by simp only[jC,jD,jB];omega)]
    exact Ok.mk ⟨_,rfl⟩
  ·rintro _ ⟨z,rfl⟩
   dsimp only
   rw[zLl (by decide)]
   exact Ok.mk rfl
 obtain⟨b,h1,rfl⟩:=key
 exact h1
end
end Go.Proofs.YtiblcebedkllpaaGreatDoor
