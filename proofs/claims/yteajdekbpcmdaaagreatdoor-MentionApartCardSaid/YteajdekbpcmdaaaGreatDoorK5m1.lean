/- No condition but those of each theorem. -/
import Derived.Test.YteajdekbpcmdaaaGreatDoorProg
import Derived.WalkKit
import Derived.Deep.LoopGhost
import Derived.KernelRfl
import Derived.OrdersHeld
import Derived.OrdersIn
import Derived.LoopNIn
import Derived.Sort.LoopGhostIn
import Derived.Laws.AppendOwn
import Derived.RangeFuncLeaves
import Derived.RangeFuncRecord
import Derived.MapKept
import Derived.Maps.RangeRun
import Derived.ChangeKeysEq
import Derived.HandedShaped
import Derived.ChangeStays
import Derived.ChangeSame
import Derived.OpenShut
import Derived.WideShapes
import Derived.JoinedOf
import Derived.ReadAgain
import Derived.ChangeAt
import Derived.RowKit
import Derived.Lib.Overlaps
import Derived.Shelf.Sort.Plain
import Derived.Shelf.Slices.In.SortNone
import Derived.WalkSmall
import Derived.Recover
import Derived.Lib.Builder
import Derived.Lib.UnsafeStr
import Derived.Shelf.Strconv.Itoa3
import Derived.Room.Shelf.Join48
import Derived.Lib.Bytealg
import Derived.Test.YteajdekbpcmdaaaGreatDoorK4m1
namespace Go.Proofs.YteajdekbpcmdaaaGreatDoor
section
open Go Go.Dc
section
variable {N:Nat} {ts:List Tok} {pr:List ByteArray} {E S:Ps→PM Nat} {d:Int}
variable {r1 r2 r3 r4:RT→Int→Option (RT×Int)}
theorem zKc{y1:RT×Tok}{y31:RT×ByteArray}{p:Ps}(hpr:pr.length<1000):∀(k i M:Nat),i+k=pr.length→k<M→
  qAs (qCh N y1 y31 (gR ts pr p,false)) M (i:Int)=(match(pr.drop i).findIdx? (fun x=>decide (x=y31.2)) with
   |some j=>(qAm N (gR ts pr p) (2,((i+j:Nat):Int),0,⟨#[]⟩,[]) y1.2.2.2.2).bind fun y=>some (.inr y)
   |none=>some (.inl ()))
 |k,i,0,_,h=>by omega
 |0,i,M+1,h,_=>by
  have:pr.drop i=[]:=jT (by omega)
  have c:decide ((i:Int)<((gR ts pr p).2.2.2.2.1.length:Int))=false:=jU (by simp only[gR];omega)
  simp only[qAs,qCh,this,List.findIdx?_nil,c,jB,jI,j0]
 |k+1,i,M+1,h,hM=>by
  have hi:i<pr.length:=by omega
  have ih:=zKc (y1:=y1) (y31:=y31) (p:=p) hpr k (i+1) M (by omega) (by omega)
  have c:decide ((i:Int)<((gR ts pr p).2.2.2.2.1.length:Int))=true:=jZ (by simp only[gR];omega)
  have x:idx (gR ts pr p).2.2.2.2.1 (i:Int)=some pr[i]:=qCo hi
  have g0:((gR ts pr p).2.2.2.1==0)=true:=rfl
  rw[kC hi,List.findIdx?_cons]
  simp only[qAs,qCh,g0,Prod.eta,c,x,jK,j0,qDz,jA]
  by_cases hs:pr[i]=y31.2
  ·simp only[if_pos hs,jK,j0,gU]
   cases qAm N (gR ts pr p) (2,(i:Int),0,⟨#[]⟩,[]) y1.2.2.2.2<;>rfl
  ·simp only[if_neg hs,j0,jB,jI,qUi (show i<1000000 by omega),ih]
   cases(pr.drop (i+1)).findIdx? (fun x=>decide (x=y31.2)) with
   |none=>rfl
   |some j=>simp only[kY];rw[show i+1+j=i+(j+1) by omega]
theorem zDa{y1:RT×Tok}{y31:RT×ByteArray}{z:Flt}{j:Nat}{pr':List ByteArray}{b:List Ex}(hz:z.2≠0)(hpr:pr'.length<1000):∀(k i M:Nat),i+k=pr'.length→k<M→
  qAs (qCh N y1 y31 (bR ts z j pr' b,false)) M (i:Int)=some (.inl ())
 |k,i,0,_,h=>by omega
 |0,i,M+1,h,_=>by
  have c:decide ((i:Int)<((bR ts z j pr' b).2.2.2.2.1.length:Int))=false:=jU (by simp only[bR];omega)
  simp only[qAs,qCh,c,jB,jI,j0]
 |k+1,i,M+1,h,hM=>by
  have hi:i<pr'.length:=by omega
  have ih:=zDa (y1:=y1) (y31:=y31) (j:=j) (b:=b) hz hpr k (i+1) M (by omega) (by omega)
  have c:decide ((i:Int)<((bR ts z j pr' b).2.2.2.2.1.length:Int))=true:=jZ (by simp only[bR];omega)
  have x:idx (bR ts z j pr' b).2.2.2.2.1 (i:Int)=some pr'[i]:=qCo hi
  have g0:((bR ts z j pr' b).2.2.2.1==0)=false:=by simpa[bR] using hz
  simp only[qAs,qCh,g0,Prod.eta,c,x,jK,j0,qDz,jA]
  have:((if pr'[i]=y31.2 then some false else some false):Option Bool)=some false:=by split<;>rfl
  simp only[this,j0,jB,jI,qUi (show i<1000000 by omega),ih]
variable (hEg:∀p:Ps,p.1<ts.length→p.2.length≤256→∃o,r4 (gR ts pr p) (IntKind.wrap .i64 (d+1))=some o∧relR ts pr (E p) o)
variable (hEb:∀(z:Flt) (i:Nat) (pr':List ByteArray) (b:List Ex),z.2≠0→i<ts.length→∃v,r4 (bR ts z i pr' b) (IntKind.wrap .i64 (d+1))=some (bR ts z i pr' b,v))
include hEg hEb in
theorem zUp(hok:OkT ts)(hl:ts.length<1000000)(hN:100<N)(hA:Adv ts E)(t:Tok)(p:Ps)(hp:p.1<ts.length)(hb:p.2.length≤256):∃o,
  ((qAi N (gR ts pr p) (⟨#[40]⟩:ByteArray)).bind fun y11=>(qBr N y11 true).bind fun y12=>(qAi N y12.1 (⟨#[44]⟩:ByteArray)).bind fun y13=>(r4 y13 (IntKind.wrap .i64 (d+1))).bind fun y14=>(qAi N y14.1 (⟨#[41]⟩:ByteArray)).bind fun y15=>qAm N y15 (6,0,0,y12.2,[y14.2]) t.2.2.2)=some o∧
  relR ts pr (qBs (qGg ts qNk p.1) fun i=>qBs (qBs (qTj ts i) fun a=>qBs (qGg ts qPd a.1) fun i=>qBs (E (i,p.2)) fun q=>(.inr (q.1,((6,0,0,a.2.2.1,[(q.2:Int)]):Ex)):Flt⊕(Ps×Ex))) fun q=>qBs (qGg ts qFn q.1.1) fun i=>qLz t q.2 (i,q.1.2)) o:=by
 have bad:∀{z:Flt} {i:Nat} {pr':List ByteArray} {b:List Ex} (x:ByteArray),z.2≠0→i<ts.length→∃o,((r4 (bR ts z i pr' b) (IntKind.wrap .i64 (d+1))).bind fun y14=>(qAi N y14.1 (⟨#[41]⟩:ByteArray)).bind fun y15=>qAm N y15 (6,0,0,x,[y14.2]) t.2.2.2)=some o∧relR ts pr (.inl z) o:=by
  intro z i pr' b x hz hi
  obtain⟨v,hv⟩:=hEb z i pr' b hz hi
  simp only[hv,j0]
  exact qPs hz hi _ _
 simp only[qNw p hp hl,j0,qNk]
 cases h1:qGg ts ⟨#[40]⟩ p.1 with
 |inl z=>
  simp only[zHd (qMl h1) hp,qNg (qMl h1) hp,j0]
  exact bad _ (qMl h1) hp
 |inr i=>
  obtain⟨rfl,g1,-⟩:=qHl hok hp h1
  simp only[zIs (p.1+1,p.2) g1 hl hN,j0,jK,qBs]
  cases h2:qTj ts (p.1+1) with
  |inl z=>
   simp only[qNg (zEe h2) g1,j0]
   exact bad _ (zEe h2) g1
  |inr a=>
   obtain⟨rfl,g2,-⟩:=qQc hok g1 h2
   simp only[qNw (p.1+1+1,p.2) g2 hl,j0,qPd]
   cases h3:qGg ts ⟨#[44]⟩ (p.1+1+1) with
   |inl z=>exact bad _ (qMl h3) g2
   |inr j=>
    obtain⟨rfl,g3,-⟩:=qHl hok g2 h3
    obtain⟨o,ho,hr⟩:=hEg (p.1+1+1+1,p.2) g3 hb
    simp only[ho,j0]
    cases h4:E (p.1+1+1+1,p.2) with
    |inl z=>
     rw[h4] at hr
     obtain⟨hz,i,pr',b,hi,ho1⟩:=hr
     simp only[ho1]
     exact qPs hz hi _ _
    |inr q=>
     rw[h4] at hr
     obtain⟨⟨f1,f2,f3,f4⟩,f5⟩:=hA (p.1+1+1+1,p.2) q.1 q.2 g3 hb h4
     have hr':o=(gR ts pr q.1,(q.2:Int)):=hr
     simp only[hr']
     exact qZo t _ q.1 hok hl f2 f4
theorem zPd(hok:OkT ts)(hl:ts.length<1000000)(hN:100<N)(k:Int)(pth:Bool)(t:Tok)(p:Ps)(hp:p.1<ts.length)(hb:p.2.length≤256):∃o,
  ((qAi N (gR ts pr p) (⟨#[40]⟩:ByteArray)).bind fun y20=>(qBr N y20 pth).bind fun y21=>(qAi N y21.1 (⟨#[41]⟩:ByteArray)).bind fun y22=>qAm N y22 (k,0,0,y21.2,[]) t.2.2.2)=some o∧
  relR ts pr (qBs (qGg ts qNk p.1) fun i=>qBs (qBs (if pth=true then qTj ts i else qVw ts i) fun a=>(.inr ((a.1,p.2),((k,0,0,a.2.2.1,[]):Ex)):Flt⊕(Ps×Ex))) fun q=>qBs (qGg ts qFn q.1.1) fun i=>qLz t q.2 (i,q.1.2)) o:=by
 simp only[qNw p hp hl,j0,qNk]
 cases h1:qGg ts ⟨#[40]⟩ p.1 with
 |inl z=>
  simp only[zHd (qMl h1) hp,j0]
  exact qPs (qMl h1) hp _ _
 |inr i=>
  obtain⟨rfl,g1,-⟩:=qHl hok hp h1
  simp only[zIs (p.1+1,p.2) g1 hl hN,j0,qBs]
  cases h2:(if pth=true then qTj ts (p.1+1) else qVw ts (p.1+1)) with
  |inl z=>
   have hz:z.2≠0:=by
    split at h2
    ·exact zEe h2
    ·exact zSi h2
   exact qPs hz g1 _ _
  |inr a=>
   have g2:a=(p.1+1+1,tkAt ts (p.1+1))∧p.1+1+1<ts.length:=by
    split at h2
    ·obtain⟨e,g2,-⟩:=qQc hok g1 h2;exact⟨e,g2⟩
    ·obtain⟨e,g2,-⟩:=zGg hok g1 h2;exact⟨e,g2⟩
   obtain⟨rfl,g2⟩:=g2
   exact qZo t _ (p.1+1+1,p.2) hok hl g2 hb
theorem zVe(hok:OkT ts)(hl:ts.length<1000000)(t:Tok)(p:Ps)(hp:p.1<ts.length)(hb:p.2.length≤256):∃o,
  ((qAi N (gR ts pr p) (⟨#[40]⟩:ByteArray)).bind fun y25=>(qAj N y25).bind fun y26=>(qCk N y26.1).bind fun y27=>(if(decide (y27.2≥64))=true then((qAk N y27.1 y26.2.2.2.2 9).bind fun y28=>some y28) else(some y27.1):Option RT).bind fun o3=>(qAi N o3 (⟨#[41]⟩:ByteArray)).bind fun y29=>qAm N y29 (10,y27.2,0,⟨#[]⟩,[]) t.2.2.2)=some o∧
  relR ts pr (qBs (qGg ts qNk p.1) fun i=>qBs (qBs (qPz ts 2 i) fun a=>if a.2.2.2.1≥64 then qHh a.2 9 else(.inr ((a.1,p.2),((10,a.2.2.2.1,0,⟨#[]⟩,[]):Ex)):Flt⊕(Ps×Ex))) fun q=>qBs (qGg ts qFn q.1.1) fun i=>qLz t q.2 (i,q.1.2)) o:=by
 have h64:¬decide ((0:Int)≥64)=true:=by decide
 simp only[qNw p hp hl,j0,qNk]
 cases h1:qGg ts ⟨#[40]⟩ p.1 with
 |inl z=>
  simp only[qQj hp,zOy (qMl h1) hp,j0,if_neg h64]
  exact qPs (qMl h1) hp _ _
 |inr i=>
  obtain⟨rfl,g1,-⟩:=qHl hok hp h1
  simp only[qKa (p.1+1,p.2) g1,qYy (p.1+1,p.2) g1 hl,j0,qBs]
  cases h2:qPz ts 2 (p.1+1) with
  |inl z=>
   simp only[if_neg h64,j0]
   exact qPs (zAa h2) g1 _ _
  |inr a=>
   obtain⟨rfl,g2,-⟩:=qRx hok (by decide) g1 h2
   by_cases k:(tkAt ts (p.1+1)).2.2.1≥64
   ·simp only[if_pos k,jA,jK,qKp,j0]
    exact qPs (show(9:Int)≠0 by decide) g2 _ _
   ·simp only[if_neg k,jA,j0]
    exact qZo t _ (p.1+1+1,p.2) hok hl g2 hb
end
end
section
open Go Go.Dc
section
variable {N:Nat} {ts:List Tok} {pr:List ByteArray} {E S:Ps→PM Nat} {d:Int}
variable {r1 r2 r3 r4:RT→Int→Option (RT×Int)}
theorem zKv{s:ByteArray}{i:Nat}(h:(tkAt ts i).1=1):isC ts 1 s i=decide ((tkAt ts i).2.1=s):=by simp[isC,h]
theorem zSy{k:Int}{s:ByteArray}{i:Nat}(h:(tkAt ts i).1≠k):isC ts k s i=false:=by simp[isC,h]
theorem obs{α:Type}(x:Option α):(x.bind fun y=>some y)=x:=by cases x<;>rfl
theorem zMo{z:Flt}{i:Nat}{pr':List ByteArray}{b:List Ex}(hz:z.2≠0)(hi:i<ts.length):qDa N r1 r2 r3 r4 (bR ts z i pr' b) d=some (bR ts z i pr' b,0):=by
 have g0:((bR ts z i pr' b).2.2.2.1 !=0)=true:=by simpa[bR] using hz
 simp only[qDa,Prod.eta,qQj hi,j0,g0,jK]
variable (hEg:∀p:Ps,p.1<ts.length→p.2.length≤256→∃o,r4 (gR ts pr p) (IntKind.wrap .i64 (d+1))=some o∧relR ts pr (E p) o)
variable (hEb:∀(z:Flt) (i:Nat) (pr':List ByteArray) (b:List Ex),z.2≠0→i<ts.length→∃v,r4 (bR ts z i pr' b) (IntKind.wrap .i64 (d+1))=some (bR ts z i pr' b,v))
include hEg hEb in
theorem zVl(hok:OkT ts)(hl:ts.length<1000000)(hpr:pr.length<1000)(hN:1000002<N)(hA:Adv ts E)(p:Ps)(hp:p.1<ts.length)(hb:p.2.length≤256):
  ∃o,qDa N r1 r2 r3 r4 (gR ts pr p) d=some o∧relR ts pr (qIu ts pr E p) o:=by
 have g0:((gR ts pr p).2.2.2.1 !=0)=false:=rfl
 simp only[qDa,Prod.eta,qKa p hp,j0,g0,jB,jI]
 unfold qIu
 dsimp only
 by_cases k1:(tkAt ts p.1).1=2
 ·have k1':((tkAt ts p.1).1==2)=true:=by simpa using k1
  have g:=hok.next hp (show(tkAt ts p.1).1≠5 by rw[k1];decide)
  rw[if_pos k1]
  simp only[k1',jK,qYy p hp hl,qPz,if_pos k1,j0]
  obtain⟨o,ho,hr⟩:=qRn (N:=N) (pr:=pr) (tkAt ts p.1) (1,(tkAt ts p.1).2.2.1,0,⟨#[]⟩,[]) (p.1+1,p.2) g hb
  simp only[ho,j0]
  exact⟨_,rfl,hr⟩
 have k1':((tkAt ts p.1).1==2)=false:=by simpa using k1
 rw[if_neg k1]
 simp only[k1',jB,jI,qLd p hp hl,j0]
 rcases qFt (isC ts 4 zOh p.1) with c1|c1
 ·have c1':isC ts 4 ⟨#[45]⟩ p.1=true:=c1
  have g:=qHi hok hp (by decide) c1
  simp only[c1,c1',jK,qYy (p.1+1,p.2) g hl,j0]
  cases h:qPz ts 2 (p.1+1) with
  |inl z=>
   obtain⟨o,ho,hr⟩:=qTz (N:=N) (pr:=pr) (pr':=pr) (b:=p.2) (zAa h) g (1,IntKind.wrap .i64 (0-0),0,⟨#[]⟩,[]) (tkAt ts p.1).2.2.2
   simp only[ho,j0]
   exact⟨_,rfl,hr⟩
  |inr a=>
   obtain⟨rfl,g2,-⟩:=qRx hok (by decide) g h
   obtain⟨o,ho,hr⟩:=qRn (N:=N) (pr:=pr) (tkAt ts p.1) (1,IntKind.wrap .i64 (0-(tkAt ts (p.1+1)).2.2.1),0,⟨#[]⟩,[]) (p.1+1+1,p.2) g2 hb
   simp only[ho,j0,qBs]
   exact⟨_,rfl,hr⟩
 have c1':isC ts 4 ⟨#[45]⟩ p.1=false:=c1
 simp only[c1,c1',jB,jI,qLd p hp hl,j0]
 rcases qFt (isC ts 4 qNk p.1) with c2|c2
 ·have c2':isC ts 4 ⟨#[40]⟩ p.1=true:=c2
  have g:=qHi hok hp (by decide) c2
  obtain⟨o,ho,hr⟩:=hEg (p.1+1,p.2) g hb
  simp only[c2,c2',jK,ho,j0]
  cases h:E (p.1+1,p.2) with
  |inl z=>
   rw[h] at hr
   obtain⟨hz,i,pr',b,hi,ho1⟩:=hr
   simp only[ho1,qNg hz hi,j0,qBs]
   exact⟨_,rfl,qNz hz hi⟩
  |inr q=>
   rw[h] at hr
   obtain⟨⟨f1,f2,f3,f4⟩,f5⟩:=hA (p.1+1,p.2) q.1 q.2 g hb h
   have hr':o=(gR ts pr q.1,(q.2:Int)):=hr
   simp only[hr',qNw q.1 f2 hl,j0,qBs,qFn]
   cases hj:qGg ts ⟨#[41]⟩ q.1.1 with
   |inl z=>exact⟨_,rfl,qNz (qMl hj) f2⟩
   |inr j=>exact⟨_,rfl,rfl⟩
 have c2':isC ts 4 ⟨#[40]⟩ p.1=false:=c2
 simp only[c2,c2',jB,jI,qMj p hp hl,j0]
 by_cases k2:(tkAt ts p.1).1=1
 rotate_left
 ·-- no name
  rw[if_pos k2]
  have n:∀s,isC ts 1 s p.1=false:=fun s=>zSy k2
  have hname:qQl ts p.1= .inl ((tkAt ts p.1).2.2.2,9):=by simp[qQl,qPz,k2,qBs,qHh]
  simp only[n,jB,jI,qMj p hp hl,j0,qWp p hp hl (by omega:100<N),hname]
  have hz:(((tkAt ts p.1).2.2.2,(9:Int)):Flt).2≠0:=show(9:Int)≠0 by decide
  have hp0:=zDa (N:=N) (ts:=ts) (y1:=(gR ts pr p,tkAt ts p.1)) (y31:=(bR ts ((tkAt ts p.1).2.2.2,9) p.1 pr p.2,(⟨#[]⟩:ByteArray))) (j:=p.1) (pr':=pr) (b:=p.2) hz hpr pr.length 0 N (by omega) (by omega)
  rw[show((0:Nat):Int)=0 from rfl] at hp0
  simp only[zDj hz,j0,kT,jK,hp0,qNu hz]
  exact⟨_,rfl,qNz hz hp⟩
 rw[if_neg (show ¬(tkAt ts p.1).1≠1 by simpa using k2)]
 have g:=hok.next hp (show(tkAt ts p.1).1≠5 by rw[k2];decide)
 have n:∀s,isC ts 1 s p.1=decide ((tkAt ts p.1).2.1=s):=fun s=>zKv k2
 simp only[n,qMj p hp hl,j0]
 by_cases w1:(tkAt ts p.1).2.1=qVm
 ·rw[if_pos (show(tkAt ts p.1).2.1∈[qVm,qVf,sHas,sEnv,qWb] by rw[w1];simp)]
  have w1':decide ((tkAt ts p.1).2.1=(⟨#[114,101,97,100]⟩:ByteArray))=true:=jZ w1
  simp only[w1',jK]
  obtain⟨o,ho,hr⟩:=zUp (N:=N) hEg hEb hok hl (by omega) hA (tkAt ts p.1) (p.1+1,p.2) g hb
  refine⟨o,Eq.trans ?_ ho,?_⟩
  ·simp only[obs]
  ·simp only[qKo,if_pos w1]
   exact hr
 have w1':decide ((tkAt ts p.1).2.1=(⟨#[114,101,97,100]⟩:ByteArray))=false:=jU w1
 simp only[w1',jB,jI,qMj p hp hl,j0,n]
 by_cases w2:(tkAt ts p.1).2.1=qVf
 ·rw[if_pos (show(tkAt ts p.1).2.1∈[qVm,qVf,sHas,sEnv,qWb] by rw[w2];simp)]
  have w2':decide ((tkAt ts p.1).2.1=(⟨#[115,105,122,101]⟩:ByteArray))=true:=jZ w2
  have wx:((tkAt ts p.1).2.1.toList==(⟨#[104,97,115]⟩:ByteArray).toList)=false:=by rw[qDz,w2];decide
  have wy:((tkAt ts p.1).2.1.toList==(⟨#[101,110,118]⟩:ByteArray).toList)=false:=by rw[qDz,w2];decide
  simp only[w2',jK,j0,wx,wy,jB,jI]
  obtain⟨o,ho,hr⟩:=zPd (N:=N) (pr:=pr) hok hl (by omega) 7 true (tkAt ts p.1) (p.1+1,p.2) g hb
  refine⟨o,Eq.trans ?_ ho,?_⟩
  ·simp only[obs];rfl
  ·simp only[qKo,if_neg w1,if_pos w2]
   exact hr
 have w2':decide ((tkAt ts p.1).2.1=(⟨#[115,105,122,101]⟩:ByteArray))=false:=jU w2
 simp only[w2',jB,jI,qMj p hp hl,j0,n]
 by_cases w3:(tkAt ts p.1).2.1=sHas
 ·rw[if_pos (show(tkAt ts p.1).2.1∈[qVm,qVf,sHas,sEnv,qWb] by rw[w3];simp)]
  have w3':decide ((tkAt ts p.1).2.1=(⟨#[104,97,115]⟩:ByteArray))=true:=jZ w3
  have wx:((tkAt ts p.1).2.1.toList==(⟨#[104,97,115]⟩:ByteArray).toList)=true:=by rw[qDz,w3']
  simp only[w3',jK,j0,wx]
  obtain⟨o,ho,hr⟩:=zPd (N:=N) (pr:=pr) hok hl (by omega) 8 true (tkAt ts p.1) (p.1+1,p.2) g hb
  refine⟨o,Eq.trans ?_ ho,?_⟩
  ·simp only[obs];rfl
  ·simp only[qKo,if_neg w1,if_neg w2,if_pos w3]
   exact hr
 have w3':decide ((tkAt ts p.1).2.1=(⟨#[104,97,115]⟩:ByteArray))=false:=jU w3
 simp only[w3',jB,jI,qMj p hp hl,j0,n]
 by_cases w4:(tkAt ts p.1).2.1=sEnv
 ·rw[if_pos (show(tkAt ts p.1).2.1∈[qVm,qVf,sHas,sEnv,qWb] by rw[w4];simp)]
  have w4':decide ((tkAt ts p.1).2.1=(⟨#[101,110,118]⟩:ByteArray))=true:=jZ w4
  have wx:((tkAt ts p.1).2.1.toList==(⟨#[104,97,115]⟩:ByteArray).toList)=false:=by rw[qDz,w4];decide
  have wy:((tkAt ts p.1).2.1.toList==(⟨#[101,110,118]⟩:ByteArray).toList)=true:=by rw[qDz,w4']
  simp only[w4',jK,j0,wx,wy,jB,jI]
  obtain⟨o,ho,hr⟩:=zPd (N:=N) (pr:=pr) hok hl (by omega) 9 false (tkAt ts p.1) (p.1+1,p.2) g hb
  refine⟨o,Eq.trans ?_ ho,?_⟩
  ·simp only[obs];rfl
  ·simp only[qKo,if_neg w1,if_neg w2,if_neg w3,if_pos w4]
   exact hr
 have w4':decide ((tkAt ts p.1).2.1=(⟨#[101,110,118]⟩:ByteArray))=false:=jU w4
 simp only[w4',jB,jI,qMj p hp hl,j0,n]
 by_cases w5:(tkAt ts p.1).2.1=qWb
 ·rw[if_pos (show(tkAt ts p.1).2.1∈[qVm,qVf,sHas,sEnv,qWb] by rw[w5];simp)]
  have w5':decide ((tkAt ts p.1).2.1=(⟨#[102,108,105,112]⟩:ByteArray))=true:=jZ w5
  simp only[w5',jK]
  obtain⟨o,ho,hr⟩:=zVe (N:=N) (pr:=pr) hok hl (tkAt ts p.1) (p.1+1,p.2) g hb
  refine⟨o,Eq.trans ?_ ho,?_⟩
  ·simp only[obs]
  ·simp only[qKo,if_neg w1,if_neg w2,if_neg w3,if_neg w4]
   exact hr
 have w5':decide ((tkAt ts p.1).2.1=(⟨#[102,108,105,112]⟩:ByteArray))=false:=jU w5
 rw[if_neg (show ¬(tkAt ts p.1).2.1∈[qVm,qVf,sHas,sEnv,qWb] by simp[w1,w2,w3,w4,w5])]
 simp only[w5',jB,jI,qWp p hp hl (by omega:100<N),j0,qQl,qPz,if_pos k2,qBs]
 rcases qFt (resC (tkAt ts p.1).2.1) with c3|c3
 ·simp only[c3,jK,qHh]
  have hz:(((tkAt ts p.1).2.2.2,(9:Int)):Flt).2≠0:=show(9:Int)≠0 by decide
  have hp0:=zDa (N:=N) (ts:=ts) (y1:=(gR ts pr p,tkAt ts p.1)) (y31:=(bR ts ((tkAt ts p.1).2.2.2,9) p.1 pr p.2,(⟨#[]⟩:ByteArray))) (j:=p.1) (pr':=pr) (b:=p.2) hz hpr pr.length 0 N (by omega) (by omega)
  rw[show((0:Nat):Int)=0 from rfl] at hp0
  simp only[zDj hz,j0,kT,jK,hp0,qNu hz]
  exact⟨_,rfl,qNz hz hp⟩
 simp only[c3,jB,jI,qLd (p.1+1,p.2) g hl,j0]
 rcases qFt (isC ts 4 qNk (p.1+1)) with c4|c4
 ·have c4':isC ts 4 ⟨#[40]⟩ (p.1+1)=true:=c4
  have g2:=qHi hok g (by decide) c4
  simp only[c4,c4',jK,kW,jB,jI]
  have hs:qGg ts qNk (p.1+1)= .inr (p.1+1+1):=by simp[qGg,c4]
  simp only[qMn,hs,qBs]
  obtain⟨o,ho,hr⟩:=rargs (N:=N) hEg hEb hok hl (by omega) hA (p.1+1+1,p.2) g2 hb
  simp only[ho,j0]
  cases ha:(if isC ts 4 qFn (p.1+1+1)=true then .inr ((p.1+1+1+1,p.2),[]) else qWa ts E (ts.length+1) [] (p.1+1+1,p.2):PM (List Int)) with
  |inl z=>
   rw[ha] at hr
   obtain⟨hz,i,pr',b,hi,ho1⟩:=hr
   simp only[ho1]
   obtain⟨o2,ho2,hr2⟩:=qTz (N:=N) (pr:=pr) (pr':=pr') (b:=b) hz hi (3,0,0,(tkAt ts p.1).2.1,o.1) (tkAt ts p.1).2.2.2
   simp only[ho2,j0]
   exact⟨_,rfl,hr2⟩
  |inr q=>
   rw[ha] at hr
   have hr':o=(q.2,gR ts pr q.1):=hr
   have hq:q.1.1<ts.length∧q.1.2.length≤256:=by
    split at ha
    ·rename_i hc
     obtain rfl:=Sum.inr.inj ha
     exact⟨qHi hok g2 (by decide) hc,hb⟩
    ·obtain⟨f1,f2,f3,f4⟩:=zAk hok hA _ _ (p.1+1+1,p.2) q.1 q.2 g2 hb ha
     exact⟨f2,f4⟩
   simp only[hr']
   obtain⟨o2,ho2,hr2⟩:=qRn (N:=N) (pr:=pr) (tkAt ts p.1) (3,0,0,(tkAt ts p.1).2.1,q.2) q.1 hq.1 hq.2
   simp only[ho2,j0]
   exact⟨_,rfl,hr2⟩
 have c4':isC ts 4 ⟨#[40]⟩ (p.1+1)=false:=c4
 simp only[c4,c4',jB,jI,kT,jK]
 have hp0:=zKc (N:=N) (ts:=ts) (pr:=pr) (y1:=(gR ts pr p,tkAt ts p.1)) (y31:=(gR ts pr (p.1+1,p.2),(tkAt ts p.1).2.1)) (p:=(p.1+1,p.2)) hpr pr.length 0 N (by omega) (by omega)
 rw[show((0:Nat):Int)=0 from rfl] at hp0
 simp only[hp0,jX,kE]
 cases hi:pr.findIdx? (fun x=>decide (x=(tkAt ts p.1).2.1)) with
 |none=>
  simp only[j0,qKp]
  exact⟨_,rfl,qNz (show(9:Int)≠0 by decide) g⟩
 |some j=>
  obtain⟨o2,ho2,hr2⟩:=qRn (N:=N) (pr:=pr) (tkAt ts p.1) (2,(j:Int),0,⟨#[]⟩,[]) (p.1+1,p.2) g hb
  simp only[ho2,j0]
  exact⟨_,rfl,hr2⟩
end
end
section
open Go Go.Dc
section
variable {N:Nat} {ts:List Tok} {pr:List ByteArray} {E S:Ps→PM Nat} {d:Int}
variable {r r1 r2 r3 r4:RT→Int→Option (RT×Int)}
theorem zNt{L i:Nat}(h:opC ts L i≠0):(tkAt ts i).1=4:=by
 apply Decidable.byContradiction
 intro hk
 apply h
 unfold opC
 have:opsC.find? (isOp ts L i)=none:=by
  rw[List.find?_eq_none]
  intro o _ ho
  simp only[isOp,jL] at ho
  exact hk (zDh ho.1)
 rw[this]
theorem rmore{f:Int×RT→Option ((Int×RT)⊕(Int×RT))}{L:Nat}(hok:OkT ts)(hS:Adv ts S)
  (hSg:∀p:Ps,p.1<ts.length→p.2.length≤256→∃o,r (gR ts pr p) d=some o∧relR ts pr (S p) o)
  (hSb:∀(z:Flt) (i:Nat) (pr':List ByteArray) (b:List Ex),z.2≠0→i<ts.length→∃v,r (bR ts z i pr' b) d=some (bR ts z i pr' b,v))
  (hfb:∀(z:Flt) (i:Nat) (pr':List ByteArray) (b:List Ex) (v:Int),z.2≠0→f (v,bR ts z i pr' b)=some (.inr (v,bR ts z i pr' b)))
  {n M x:Nat} {p:Ps} (hp:p.1<ts.length) (hb:p.2.length≤256) (hM:0<M) (hL:L≠1) (hop:opC ts L p.1≠0)
  (ih:∀(x:Nat) (q:Ps),q.1<ts.length→p.1<q.1→q.2.length≤256→x<q.2.length→∃o,qAs f M ((x:Int),gR ts pr q)=some o∧relR ts pr (qOe ts L S n x q) (o.2,o.1)):
  ∃o,((r (gR ts pr (p.1+1,p.2)) d).bind fun y6=>(qAm N y6.1 (4,0,opC ts L p.1,⟨#[]⟩,[(x:Int),y6.2]) (tkAt ts p.1).2.2.2).bind fun y7=>qAs f M (y7.2,y7.1))=some o∧relR ts pr (qOe ts L S (n+1) x p) (o.2,o.1):=by
 have g:=hok.next hp (show(tkAt ts p.1).1≠5 by rw[zNt hop];decide)
 obtain⟨o,ho,hr⟩:=hSg (p.1+1,p.2) g hb
 obtain⟨M',rfl⟩:∃M',M=M'+1:=⟨M-1,by omega⟩
 have bad:∀(z:Flt) (i:Nat) (pr':List ByteArray) (b:List Ex) (v:Int),z.2≠0→qAs f (M'+1) (v,bR ts z i pr' b)=some (v,bR ts z i pr' b):=by
  intro z i pr' b v hz
  simp only[qAs,hfb z i pr' b v hz,j0]
 simp only[ho,j0,qOe]
 rw[if_neg hop]
 cases h:S (p.1+1,p.2) with
 |inl z=>
  rw[h] at hr
  obtain⟨hz,i,pr',b,hi,ho1⟩:=hr
  simp only[ho1,qBs]
  obtain⟨v,hv⟩:=zNn (N:=N) (ts:=ts) (pr:=pr') (b:=b) (i:=i) hz (4,0,opC ts L p.1,⟨#[]⟩,[(x:Int),o.2]) (tkAt ts p.1).2.2.2
  simp only[hv,j0,bad _ _ _ _ _ hz]
  exact⟨_,rfl,qNz hz hi⟩
 |inr q=>
  rw[h] at hr
  obtain⟨⟨f1,f2,f3,f4⟩,f5⟩:=hS (p.1+1,p.2) q.1 q.2 g hb h
  have hr':o=(gR ts pr q.1,(q.2:Int)):=hr
  simp only[hr',qBs]
  obtain⟨v,hv⟩:=zMp (N:=N) (ts:=ts) (pr:=pr) (tkAt ts p.1) (4,0,opC ts L p.1,⟨#[]⟩,[(x:Int),(q.2:Int)]) q.1 f4
  simp only[hv,j0]
  cases hn:qLz (tkAt ts p.1) (4,0,opC ts L p.1,⟨#[]⟩,[(x:Int),(q.2:Int)]) q.1 with
  |inl z=>
   simp only[bad _ _ _ _ _ (zId hn)]
   exact⟨_,rfl,qNz (zId hn) f2⟩
  |inr s=>
   obtain⟨⟨k1,k2,k3,k4⟩,k5⟩:=qQh (ts:=ts) (p:=p) (r:=q.1) (by simp only at f1;omega) f2 f3 f4 hn
   simp only[if_neg hL]
   exact ih s.2 s.1 k2 k1 k4 k5
theorem rstop{L n x:Nat}{p:Ps}(hop:opC ts L p.1=0):relR ts pr (qOe ts L S (n+1) x p) (gR ts pr p,(x:Int)):=by
 simp only[qOe]
 rw[if_pos hop]
 rfl
theorem zCt(z:Flt)(i:Nat)(pr':List ByteArray)(b:List Ex)(v:Int)(hz:z.2≠0):qCc N r d (v,bR ts z i pr' b)=some (.inr (v,bR ts z i pr' b)):=by
 have g0:((bR ts z i pr' b).2.2.2.1==0)=false:=by simpa[bR] using hz
 simp only[qCc,g0,jB,jI,Prod.eta]
theorem zHw(z:Flt)(i:Nat)(pr':List ByteArray)(b:List Ex)(v:Int)(hz:z.2≠0):qCj N r d (v,bR ts z i pr' b)=some (.inr (v,bR ts z i pr' b)):=by
 have g0:((bR ts z i pr' b).2.2.2.1==0)=false:=by simpa[bR] using hz
 simp only[qCj,g0,jB,jI,Prod.eta]
theorem zCb(hok:OkT ts)(hl:ts.length<1000000)(hS:Adv ts S)
  (hSg:∀p:Ps,p.1<ts.length→p.2.length≤256→∃o,r (gR ts pr p) d=some o∧relR ts pr (S p) o)
  (hSb:∀(z:Flt) (i:Nat) (pr':List ByteArray) (b:List Ex),z.2≠0→i<ts.length→∃v,r (bR ts z i pr' b) d=some (bR ts z i pr' b,v)):
  ∀(n M x:Nat) (p:Ps),p.1<ts.length→p.2.length≤256→x<p.2.length→ts.length<p.1+n→ts.length+1<p.1+M→
  ∃o,qAs (qCc N r d) M ((x:Int),gR ts pr p)=some o∧relR ts pr (qOe ts 3 S n x p) (o.2,o.1)
 |0,M,x,p,hp,_,_,h,_=>by omega
 |n+1,0,x,p,hp,_,_,_,h=>by omega
 |n+1,M+1,x,p,hp,hb,hx,hn,hM=>by
  have g0:((gR ts pr p).2.2.2.1==0)=true:=rfl
  have ih:∀(x:Nat) (q:Ps),q.1<ts.length→p.1<q.1→q.2.length≤256→x<q.2.length→∃o,qAs (qCc N r d) M ((x:Int),gR ts pr q)=some o∧relR ts pr (qOe ts 3 S n x q) (o.2,o.1):=
   fun x q h1 h2 h3 h4=>zCb hok hl hS hSg hSb n M x q h1 h3 h4 (by omega) (by omega)
  have go:=fun hop=>rmore (N:=N) (n:=n) (x:=x) hok hS hSg hSb (zCt (N:=N) (r:=r) (d:=d)) hp hb (show 0<M by omega) (show 3≠1 by decide) hop ih
  have h3:=op_3 (ts:=ts) (i:=p.1)
  rcases qFt (isC ts 4 ⟨#[42]⟩ p.1) with c1|c1
  ·simp only[c1,jK] at h3
   obtain⟨o,ho,hr⟩:=go (by rw[h3];decide)
   refine⟨o,Eq.trans ?_ ho,hr⟩
   simp only[qAs,qCc,Prod.eta,g0,jK,qKa p hp,qLd p hp hl,j0,c1,h3]
   cases r (gR ts pr (p.1+1,p.2)) d with
   |none=>rfl
   |some y=>simp only[j0];cases qAm N y.1 (4,0,3,⟨#[]⟩,[(x:Int),y.2]) (tkAt ts p.1).2.2.2<;>rfl
  rcases qFt (isC ts 4 ⟨#[47]⟩ p.1) with c2|c2
  ·simp only[c1,c2,jK,jB,jI] at h3
   obtain⟨o,ho,hr⟩:=go (by rw[h3];decide)
   refine⟨o,Eq.trans ?_ ho,hr⟩
   simp only[qAs,qCc,Prod.eta,g0,jK,qKa p hp,qLd p hp hl,j0,c1,c2,h3,jB,jI]
   cases r (gR ts pr (p.1+1,p.2)) d with
   |none=>rfl
   |some y=>simp only[j0];cases qAm N y.1 (4,0,4,⟨#[]⟩,[(x:Int),y.2]) (tkAt ts p.1).2.2.2<;>rfl
  rcases qFt (isC ts 4 ⟨#[37]⟩ p.1) with c3|c3
  ·simp only[c1,c2,c3,jK,jB,jI] at h3
   obtain⟨o,ho,hr⟩:=go (by rw[h3];decide)
   refine⟨o,Eq.trans ?_ ho,hr⟩
   simp only[qAs,qCc,Prod.eta,g0,jK,qKa p hp,qLd p hp hl,j0,c1,c2,c3,h3,jB,jI]
   cases r (gR ts pr (p.1+1,p.2)) d with
   |none=>rfl
   |some y=>simp only[j0];cases qAm N y.1 (4,0,5,⟨#[]⟩,[(x:Int),y.2]) (tkAt ts p.1).2.2.2<;>rfl
  simp only[c1,c2,c3,jB,jI] at h3
  simp only[qAs,qCc,Prod.eta,g0,jK,qKa p hp,qLd p hp hl,j0,c1,c2,c3,jB,jI]
  exact⟨_,rfl,rstop h3⟩
theorem zFk(hok:OkT ts)(hl:ts.length<1000000)(hS:Adv ts S)
  (hSg:∀p:Ps,p.1<ts.length→p.2.length≤256→∃o,r (gR ts pr p) d=some o∧relR ts pr (S p) o)
  (hSb:∀(z:Flt) (i:Nat) (pr':List ByteArray) (b:List Ex),z.2≠0→i<ts.length→∃v,r (bR ts z i pr' b) d=some (bR ts z i pr' b,v)):
  ∀(n M x:Nat) (p:Ps),p.1<ts.length→p.2.length≤256→x<p.2.length→ts.length<p.1+n→ts.length+1<p.1+M→
  ∃o,qAs (qCj N r d) M ((x:Int),gR ts pr p)=some o∧relR ts pr (qOe ts 2 S n x p) (o.2,o.1)
 |0,M,x,p,hp,_,_,h,_=>by omega
 |n+1,0,x,p,hp,_,_,_,h=>by omega
 |n+1,M+1,x,p,hp,hb,hx,hn,hM=>by
  have g0:((gR ts pr p).2.2.2.1==0)=true:=rfl
  have ih:∀(x:Nat) (q:Ps),q.1<ts.length→p.1<q.1→q.2.length≤256→x<q.2.length→∃o,qAs (qCj N r d) M ((x:Int),gR ts pr q)=some o∧relR ts pr (qOe ts 2 S n x q) (o.2,o.1):=
   fun x q h1 h2 h3 h4=>zFk hok hl hS hSg hSb n M x q h1 h3 h4 (by omega) (by omega)
  have go:=fun hop=>rmore (N:=N) (n:=n) (x:=x) hok hS hSg hSb (zHw (N:=N) (r:=r) (d:=d)) hp hb (show 0<M by omega) (show 2≠1 by decide) hop ih
  have h3:=op_2 (ts:=ts) (i:=p.1)
  rcases qFt (isC ts 4 ⟨#[43]⟩ p.1) with c1|c1
  ·simp only[c1,jK] at h3
   obtain⟨o,ho,hr⟩:=go (by rw[h3];decide)
   refine⟨o,Eq.trans ?_ ho,hr⟩
   simp only[qAs,qCj,Prod.eta,g0,jK,qKa p hp,qLd p hp hl,j0,c1,h3]
   cases r (gR ts pr (p.1+1,p.2)) d with
   |none=>rfl
   |some y=>simp only[j0];cases qAm N y.1 (4,0,1,⟨#[]⟩,[(x:Int),y.2]) (tkAt ts p.1).2.2.2<;>rfl
  rcases qFt (isC ts 4 ⟨#[45]⟩ p.1) with c2|c2
  ·simp only[c1,c2,jK,jB,jI] at h3
   obtain⟨o,ho,hr⟩:=go (by rw[h3];decide)
   refine⟨o,Eq.trans ?_ ho,hr⟩
   simp only[qAs,qCj,Prod.eta,g0,jK,qKa p hp,qLd p hp hl,j0,c1,c2,h3,jB,jI]
   cases r (gR ts pr (p.1+1,p.2)) d with
   |none=>rfl
   |some y=>simp only[j0];cases qAm N y.1 (4,0,2,⟨#[]⟩,[(x:Int),y.2]) (tkAt ts p.1).2.2.2<;>rfl
  simp only[c1,c2,jB,jI] at h3
  simp only[qAs,qCj,Prod.eta,g0,jK,qKa p hp,qLd p hp hl,j0,c1,c2,jB,jI]
  exact⟨_,rfl,rstop h3⟩
theorem rterm(hok:OkT ts)(hl:ts.length<1000000)(hN:1000002<N)(hS:Adv ts S)
  (h1:∀p:Ps,p.1<ts.length→p.2.length≤256→∃o,r1 (gR ts pr p) d=some o∧relR ts pr (S p) o)
  (h1b:∀(z:Flt) (i:Nat) (pr':List ByteArray) (b:List Ex),z.2≠0→i<ts.length→∃v,r1 (bR ts z i pr' b) d=some (bR ts z i pr' b,v))
  (p:Ps) (hp:p.1<ts.length) (hb:p.2.length≤256):∃o,qDj N r1 r2 r3 r4 (gR ts pr p) d=some o∧relR ts pr (qNs ts 3 S p) o:=by
 obtain⟨o,ho,hr⟩:=h1 p hp hb
 simp only[qDj,Prod.eta,ho,j0,qNs]
 cases h:S p with
 |inl z=>
  rw[h] at hr
  obtain⟨hz,i,pr',b,hi,ho1⟩:=hr
  obtain⟨M,rfl⟩:∃M,N=M+1:=⟨N-1,by omega⟩
  simp only[ho1,qBs,qAs,zCt z i pr' b _ hz,j0]
  exact⟨_,rfl,qNz hz hi⟩
 |inr q=>
  rw[h] at hr
  obtain⟨⟨f1,f2,f3,f4⟩,f5⟩:=hS p q.1 q.2 hp hb h
  have hr':o=(gR ts pr q.1,(q.2:Int)):=hr
  obtain⟨o2,ho2,hr2⟩:=zCb (N:=N) hok hl hS h1 h1b (ts.length+1) N q.2 q.1 f2 f4 f5 (by omega) (by omega)
  simp only[hr',qBs,ho2,j0]
  exact⟨_,rfl,hr2⟩
theorem zUh(h1b:∀(z:Flt) (i:Nat) (pr':List ByteArray) (b:List Ex),z.2≠0→i<ts.length→∃v,r1 (bR ts z i pr' b) d=some (bR ts z i pr' b,v))(hN:0<N)
  (z:Flt) (i:Nat) (pr':List ByteArray) (b:List Ex) (hz:z.2≠0) (hi:i<ts.length):∃v,qDj N r1 r2 r3 r4 (bR ts z i pr' b) d=some (bR ts z i pr' b,v):=by
 obtain⟨v,hv⟩:=h1b z i pr' b hz hi
 obtain⟨M,rfl⟩:∃M,N=M+1:=⟨N-1,by omega⟩
 simp only[qDj,Prod.eta,hv,j0,qAs,zCt z i pr' b _ hz]
 exact⟨_,rfl⟩
theorem rsum(hok:OkT ts)(hl:ts.length<1000000)(hN:1000002<N)(hS:Adv ts S)
  (h2:∀p:Ps,p.1<ts.length→p.2.length≤256→∃o,r2 (gR ts pr p) d=some o∧relR ts pr (S p) o)
  (h2b:∀(z:Flt) (i:Nat) (pr':List ByteArray) (b:List Ex),z.2≠0→i<ts.length→∃v,r2 (bR ts z i pr' b) d=some (bR ts z i pr' b,v))
  (p:Ps) (hp:p.1<ts.length) (hb:p.2.length≤256):∃o,qDn N r1 r2 r3 r4 (gR ts pr p) d=some o∧relR ts pr (qNs ts 2 S p) o:=by
 obtain⟨o,ho,hr⟩:=h2 p hp hb
 simp only[qDn,Prod.eta,ho,j0,qNs]
 cases h:S p with
 |inl z=>
  rw[h] at hr
  obtain⟨hz,i,pr',b,hi,ho1⟩:=hr
  obtain⟨M,rfl⟩:∃M,N=M+1:=⟨N-1,by omega⟩
  simp only[ho1,qBs,qAs,zHw z i pr' b _ hz,j0]
  exact⟨_,rfl,qNz hz hi⟩
 |inr q=>
  rw[h] at hr
  obtain⟨⟨f1,f2,f3,f4⟩,f5⟩:=hS p q.1 q.2 hp hb h
  have hr':o=(gR ts pr q.1,(q.2:Int)):=hr
  obtain⟨o2,ho2,hr2⟩:=zFk (N:=N) hok hl hS h2 h2b (ts.length+1) N q.2 q.1 f2 f4 f5 (by omega) (by omega)
  simp only[hr',qBs,ho2,j0]
  exact⟨_,rfl,hr2⟩
theorem rsum_b(h2b:∀(z:Flt) (i:Nat) (pr':List ByteArray) (b:List Ex),z.2≠0→i<ts.length→∃v,r2 (bR ts z i pr' b) d=some (bR ts z i pr' b,v))(hN:0<N)
  (z:Flt) (i:Nat) (pr':List ByteArray) (b:List Ex) (hz:z.2≠0) (hi:i<ts.length):∃v,qDn N r1 r2 r3 r4 (bR ts z i pr' b) d=some (bR ts z i pr' b,v):=by
 obtain⟨v,hv⟩:=h2b z i pr' b hz hi
 obtain⟨M,rfl⟩:∃M,N=M+1:=⟨N-1,by omega⟩
 simp only[qDn,Prod.eta,hv,j0,qAs,zHw z i pr' b _ hz]
 exact⟨_,rfl⟩
theorem zVm(z:Flt)(i:Nat)(pr':List ByteArray)(b:List Ex)(hz:z.2≠0)(hi:i<ts.length):qCp N r1 r2 r3 r4 (bR ts z i pr' b) d=some (bR ts z i pr' b,0):=by
 have g0:((bR ts z i pr' b).2.2.2.1 !=0)=true:=by simpa[bR] using hz
 simp only[qCp,Prod.eta,qQj hi,j0,qNu hz]
 have:((if decide (d>32)=true then some (bR ts z i pr' b) else some (bR ts z i pr' b)):Option RT)=some (bR ts z i pr' b):=by split<;>rfl
 simp only[this,j0,g0,jK]
theorem zUe(hd:d>32)(p:Ps)(hp:p.1<ts.length):∃o,qCp N r1 r2 r3 r4 (gR ts pr p) d=some o∧relR ts pr (qFa ts pr 0 p) o:=by
 have hd':decide (d>32)=true:=by simpa using hd
 simp only[qCp,Prod.eta,qKa p hp,j0,hd',jK,qKp]
 have g0:((bR ts ((tkAt ts p.1).2.2.2,2) p.1 pr p.2).2.2.2.1 !=0)=true:=by rfl
 simp only[g0,jK]
 exact⟨_,rfl,qNz (show(2:Int)≠0 by decide) hp⟩
theorem rexpr{k:Nat}(hok:OkT ts)(hl:ts.length<1000000)(hd:d+k=32)(hA:Adv ts (qFa ts pr k))(hS:Adv ts (sumC ts pr (qFa ts pr k)))
  (hEg:∀p:Ps,p.1<ts.length→p.2.length≤256→∃o,r4 (gR ts pr p) (IntKind.wrap .i64 (d+1))=some o∧relR ts pr (qFa ts pr k p) o)
  (hEb:∀(z:Flt) (i:Nat) (pr':List ByteArray) (b:List Ex),z.2≠0→i<ts.length→∃v,r4 (bR ts z i pr' b) (IntKind.wrap .i64 (d+1))=some (bR ts z i pr' b,v))
  (h3:∀p:Ps,p.1<ts.length→p.2.length≤256→∃o,r3 (gR ts pr p) d=some o∧relR ts pr (sumC ts pr (qFa ts pr k) p) o)
  (h3b:∀(z:Flt) (i:Nat) (pr':List ByteArray) (b:List Ex),z.2≠0→i<ts.length→∃v,r3 (bR ts z i pr' b) d=some (bR ts z i pr' b,v))
  (p:Ps) (hp:p.1<ts.length) (hb:p.2.length≤256):∃o,qCp N r1 r2 r3 r4 (gR ts pr p) d=some o∧relR ts pr (qFa ts pr (k+1) p) o:=by
 have hd':decide (d>32)=false:=jU (by omega)
 have g0:((gR ts pr p).2.2.2.1 !=0)=false:=rfl
 simp only[qCp,Prod.eta,qKa p hp,j0,hd',jB,jI,g0,qMj p hp hl,qFa]
 rcases qFt (isC ts 1 sIf p.1) with c1|c1
 rotate_left
 ·have c1':isC ts 1 ⟨#[105,102]⟩ p.1=false:=c1
  simp only[c1,c1',jB,jI]
  obtain⟨o,ho,hr⟩:=h3 p hp hb
  simp only[ho,j0,qXz,qNs]
  cases h:sumC ts pr (qFa ts pr k) p with
  |inl z=>
   rw[h] at hr
   obtain⟨hz,i,pr',b,hi,ho1⟩:=hr
   simp only[ho1,qQj hi,zDj hz,j0,jB,jI,qBs]
   exact⟨_,rfl,qNz hz hi⟩
  |inr q=>
   rw[h] at hr
   obtain⟨⟨f1,f2,f3,f4⟩,f5⟩:=hS p q.1 q.2 hp hb h
   have hr':o=(gR ts pr q.1,(q.2:Int)):=hr
   simp only[hr',qKa q.1 f2,qLd q.1 f2 hl,j0,qBs,qOe]
   have go:∀op,op≠0→opC ts 1 q.1.1=op→∃o,((r3 (gR ts pr (q.1.1+1,q.1.2)) d).bind fun y18=>(qAm N y18.1 (4,0,op,⟨#[]⟩,[(q.2:Int),y18.2]) (tkAt ts q.1.1).2.2.2).bind fun y19=>some y19)=some o∧
     relR ts pr (if opC ts 1 q.1.1=0 then .inr (q.1,q.2) else qBs (sumC ts pr (qFa ts pr k) (q.1.1+1,q.1.2)) fun a=>qBs (qLz (tkAt ts q.1.1) (4,0,opC ts 1 q.1.1,⟨#[]⟩,[(q.2:Int),(a.2:Int)]) a.1) fun r=> .inr r) o:=by
    intro op hne hop
    have g:=hok.next f2 (show(tkAt ts q.1.1).1≠5 by rw[zNt (L:=1) (by rw[hop];exact hne)];decide)
    obtain⟨o2,ho2,hr2⟩:=h3 (q.1.1+1,q.1.2) g f4
    rw[hop,if_neg hne]
    simp only[ho2,j0,obs]
    cases h2:sumC ts pr (qFa ts pr k) (q.1.1+1,q.1.2) with
    |inl z=>
     rw[h2] at hr2
     obtain⟨hz,i,pr',b,hi,ho1⟩:=hr2
     simp only[ho1,qBs]
     exact qTz hz hi _ _
    |inr a=>
     rw[h2] at hr2
     obtain⟨⟨j1,j2,j3,j4⟩,j5⟩:=hS (q.1.1+1,q.1.2) a.1 a.2 g f4 h2
     have hr2':o2=(gR ts pr a.1,(a.2:Int)):=hr2
     simp only[hr2',qBs]
     obtain⟨o3,ho3,hr3⟩:=qRn (N:=N) (pr:=pr) (tkAt ts q.1.1) (4,0,op,⟨#[]⟩,[(q.2:Int),(a.2:Int)]) a.1 j2 j4
     refine⟨o3,ho3,?_⟩
     cases hn:qLz (tkAt ts q.1.1) (4,0,op,⟨#[]⟩,[(q.2:Int),(a.2:Int)]) a.1<;>rw[hn] at hr3<;>exact hr3
   have h1:=op_1 (ts:=ts) (i:=q.1.1)
   rcases qFt (isC ts 4 ⟨#[60]⟩ q.1.1) with c2|c2
   ·simp only[c2,jK] at h1
    obtain⟨o4,ho4,hr4⟩:=go 6 (by decide) h1
    simp only[c2,jK,j0]
    exact⟨o4,ho4,by simpa only[qBs] using hr4⟩
   rcases qFt (isC ts 4 ⟨#[61,61]⟩ q.1.1) with c3|c3
   ·simp only[c2,c3,jK,jB,jI] at h1
    obtain⟨o4,ho4,hr4⟩:=go 7 (by decide) h1
    simp only[c2,c3,jK,j0,jB,jI,qLd q.1 f2 hl]
    exact⟨o4,ho4,by simpa only[qBs] using hr4⟩
   ·simp only[c2,c3,jB,jI] at h1
    simp only[c2,c3,j0,jB,jI,qLd q.1 f2 hl]
    rw[if_pos h1]
    exact⟨_,rfl,rfl⟩
 have c1':isC ts 1 ⟨#[105,102]⟩ p.1=true:=c1
 have g:=qHi hok hp (by decide) c1
 simp only[c1,c1',jK]
 -- behind an error
 have badN:∀{z:Flt} {i:Nat} {pr':List ByteArray} {b:List Ex} (x y w:Int),z.2≠0→i<ts.length→∃o,((qAm N (bR ts z i pr' b) (5,0,0,⟨#[]⟩,[x,y,w]) (tkAt ts p.1).2.2.2).bind fun y13=>some y13)=some o∧relR ts pr (.inl z) o:=by
  intro z i pr' b x y w hz hi
  simp only[obs]
  exact qTz hz hi _ _
 have nf:∀b:Bool,(if(!b)=true then(0:Nat) else 1)=if b=true then 1 else 0:=by intro b;cases b<;>rfl
 obtain⟨oa,hoa,hra⟩:=hEg (p.1+1,p.2) g hb
 simp only[hoa,j0]
 cases ha:qFa ts pr k (p.1+1,p.2) with
 |inl z=>
  rw[ha] at hra
  obtain⟨hz,i,pr',b,hi,ho1⟩:=hra
  obtain⟨v,hv⟩:=hEb z i pr' b hz hi
  simp only[ho1,zHl hz,j0,kT,jK,qQj hi,qNu hz,hv,qBs]
  exact badN _ _ _ hz hi
 |inr a=>
  rw[ha] at hra
  obtain⟨⟨a1,a2,a3,a4⟩,a5⟩:=hA (p.1+1,p.2) a.1 a.2 g hb ha
  have hra':oa=(gR ts pr a.1,(a.2:Int)):=hra
  have hth:zAp ts zMz a.1.1=if isC ts 1 ⟨#[116,104,101,110]⟩ a.1.1=true then .inr (a.1.1+1) else qHh (tkAt ts a.1.1) 9:=rfl
  simp only[hra',qMj a.1 a2 hl,j0,qBs,hth]
  rcases qFt (isC ts 1 ⟨#[116,104,101,110]⟩ a.1.1) with c2|c2
  rotate_left
  ·have hz:(((tkAt ts a.1.1).2.2.2,(9:Int)):Flt).2≠0:=show(9:Int)≠0 by decide
   obtain⟨v,hv⟩:=hEb ((tkAt ts a.1.1).2.2.2,9) a.1.1 pr a.1.2 hz a2
   simp only[c2,jB,jI,kT,jK,qKa a.1 a2,qKp,j0,hv,zHl hz,qQj a2,qNu hz,qHh]
   exact badN _ _ _ hz a2
  have g1:=qHi hok a2 (by decide) c2
  obtain⟨ob,hob,hrb⟩:=hEg (a.1.1+1,a.1.2) g1 a4
  simp only[c2,jK,kW,jB,jI,j0,hob]
  cases hb1:qFa ts pr k (a.1.1+1,a.1.2) with
  |inl z=>
   rw[hb1] at hrb
   obtain⟨hz,i,pr',b,hi,ho1⟩:=hrb
   obtain⟨v,hv⟩:=hEb z i pr' b hz hi
   simp only[ho1,zHl hz,j0,kT,jK,qQj hi,qNu hz,hv]
   exact badN _ _ _ hz hi
  |inr b=>
   rw[hb1] at hrb
   obtain⟨⟨b1,b2,b3,b4⟩,b5⟩:=hA (a.1.1+1,a.1.2) b.1 b.2 g1 a4 hb1
   have hrb':ob=(gR ts pr b.1,(b.2:Int)):=hrb
   have hel:zAp ts zOk b.1.1=if isC ts 1 ⟨#[101,108,115,101]⟩ b.1.1=true then .inr (b.1.1+1) else qHh (tkAt ts b.1.1) 9:=rfl
   simp only[hrb',qMj b.1 b2 hl,j0,hel]
   rcases qFt (isC ts 1 ⟨#[101,108,115,101]⟩ b.1.1) with c3|c3
   rotate_left
   ·have hz:(((tkAt ts b.1.1).2.2.2,(9:Int)):Flt).2≠0:=show(9:Int)≠0 by decide
    obtain⟨v,hv⟩:=hEb ((tkAt ts b.1.1).2.2.2,9) b.1.1 pr b.1.2 hz b2
    simp only[c3,jB,jI,kT,jK,qKa b.1 b2,qKp,j0,hv,qHh]
    exact badN _ _ _ hz b2
   have g2:=qHi hok b2 (by decide) c3
   obtain⟨oc,hoc,hrc⟩:=hEg (b.1.1+1,b.1.2) g2 b4
   simp only[c3,jK,kW,jB,jI,j0,hoc]
   cases hc1:qFa ts pr k (b.1.1+1,b.1.2) with
   |inl z=>
    rw[hc1] at hrc
    obtain⟨hz,i,pr',b',hi,ho1⟩:=hrc
    simp only[ho1]
    exact badN _ _ _ hz hi
   |inr c=>
    rw[hc1] at hrc
    obtain⟨⟨c1,c2,c3,c4⟩,c5⟩:=hA (b.1.1+1,b.1.2) c.1 c.2 g2 b4 hc1
    have hrc':oc=(gR ts pr c.1,(c.2:Int)):=hrc
    simp only[hrc',obs]
    exact qRn (N:=N) (pr:=pr) (tkAt ts p.1) (5,0,0,⟨#[]⟩,[(a.2:Int),(b.2:Int),(c.2:Int)]) c.1 c2 c4
end
end
section
open Go Go.Dc
section
variable {N:Nat} {ts:List Tok} {pr:List ByteArray}
theorem zDi(D:Nat)(hD:1≤D)(d:Int)(z:Flt)(i:Nat)(pr':List ByteArray)(b:List Ex)(hz:z.2≠0)(hi:i<ts.length):∃v,(qAh N D).2.2.2 (bR ts z i pr' b) d=some (bR ts z i pr' b,v):=by
 obtain⟨D',rfl⟩:∃D',D=D'+1:=⟨D-1,by omega⟩
 simp only[qAh]
 exact⟨_,zVm z i pr' b hz hi⟩
theorem zBa(D:Nat)(hD:1≤D)(d:Int)(z:Flt)(i:Nat)(pr':List ByteArray)(b:List Ex)(hz:z.2≠0)(hi:i<ts.length):∃v,(qAh N D).1 (bR ts z i pr' b) d=some (bR ts z i pr' b,v):=by
 obtain⟨D',rfl⟩:∃D',D=D'+1:=⟨D-1,by omega⟩
 simp only[qAh]
 exact⟨_,zMo hz hi⟩
theorem zJh(hN:0<N)(D:Nat)(hD:2≤D)(d:Int)(z:Flt)(i:Nat)(pr':List ByteArray)(b:List Ex)(hz:z.2≠0)(hi:i<ts.length):∃v,(qAh N D).2.1 (bR ts z i pr' b) d=some (bR ts z i pr' b,v):=by
 obtain⟨D',rfl⟩:∃D',D=D'+1:=⟨D-1,by omega⟩
 simp only[qAh]
 exact zUh (fun z i pr' b hz hi=>zBa D' (by omega) d z i pr' b hz hi) hN z i pr' b hz hi
theorem zUs(hN:0<N)(D:Nat)(hD:3≤D)(d:Int)(z:Flt)(i:Nat)(pr':List ByteArray)(b:List Ex)(hz:z.2≠0)(hi:i<ts.length):∃v,(qAh N D).2.2.1 (bR ts z i pr' b) d=some (bR ts z i pr' b,v):=by
 obtain⟨D',rfl⟩:∃D',D=D'+1:=⟨D-1,by omega⟩
 simp only[qAh]
 exact rsum_b (fun z i pr' b hz hi=>zJh hN D' (by omega) d z i pr' b hz hi) hN z i pr' b hz hi
theorem zMt(hok:OkT ts)(hl:ts.length<1000000)(hpr:pr.length<1000)(hN:1000002<N):∀(k D:Nat),k≤32→4*k+1≤D→∀p:Ps,p.1<ts.length→p.2.length≤256→
  ∃o,(qAh N D).2.2.2 (gR ts pr p) (33-(k:Int))=some o∧relR ts pr (qFa ts pr k p) o
 |0,0,_,h,_,_,_=>by omega
 |0,D+1,_,_,p,hp,_=>by simp only[qAh];exact zUe (by omega) p hp
 |k+1,D,hk,hD,p,hp,hb=>by
  have hA:=qOn (ts:=ts) (params:=pr) hok k
  have hF:=zAj (params:=pr) hok hA
  have hT:Adv ts (zSr ts pr (qFa ts pr k)):=qRd hok hF
  have hS:Adv ts (sumC ts pr (qFa ts pr k)):=qRd hok hT
  have hE:∀D,4*k+1≤D→∀p:Ps,p.1<ts.length→p.2.length≤256→∃o,(qAh N D).2.2.2 (gR ts pr p) (IntKind.wrap .i64 (32-(k:Int)+1))=some o∧relR ts pr (qFa ts pr k p) o:=by
   intro D hD p hp hb
   rw[wi64 (by omega) (by omega),show 32-(k:Int)+1=33-(k:Int) by omega]
   exact zMt hok hl hpr hN k D (by omega) hD p hp hb
  have h1:∀D,4*k+2≤D→∀p:Ps,p.1<ts.length→p.2.length≤256→∃o,(qAh N D).1 (gR ts pr p) (32-(k:Int))=some o∧relR ts pr (qIu ts pr (qFa ts pr k) p) o:=by
   intro D hD p hp hb
   obtain⟨D',rfl⟩:∃D',D=D'+1:=⟨D-1,by omega⟩
   simp only[qAh]
   exact zVl (hE D' (by omega)) (fun z i pr' b hz hi=>zDi D' (by omega) _ z i pr' b hz hi) hok hl hpr hN hA p hp hb
  have h2:∀D,4*k+3≤D→∀p:Ps,p.1<ts.length→p.2.length≤256→∃o,(qAh N D).2.1 (gR ts pr p) (32-(k:Int))=some o∧relR ts pr (zSr ts pr (qFa ts pr k) p) o:=by
   intro D hD p hp hb
   obtain⟨D',rfl⟩:∃D',D=D'+1:=⟨D-1,by omega⟩
   simp only[qAh]
   exact rterm hok hl hN hF (h1 D' (by omega)) (fun z i pr' b hz hi=>zBa D' (by omega) _ z i pr' b hz hi) p hp hb
  have h3:∀D,4*k+4≤D→∀p:Ps,p.1<ts.length→p.2.length≤256→∃o,(qAh N D).2.2.1 (gR ts pr p) (32-(k:Int))=some o∧relR ts pr (sumC ts pr (qFa ts pr k) p) o:=by
   intro D hD p hp hb
   obtain⟨D',rfl⟩:∃D',D=D'+1:=⟨D-1,by omega⟩
   simp only[qAh]
   exact rsum hok hl hN hT (h2 D' (by omega)) (fun z i pr' b hz hi=>zJh (by omega) D' (by omega) _ z i pr' b hz hi) p hp hb
  obtain⟨D',rfl⟩:∃D',D=D'+1:=⟨D-1,by omega⟩
  rw[show(33:Int)-((k+1:Nat):Int)=32-(k:Int) by omega]
  simp only[qAh]
  exact rexpr hok hl (by omega) hA hS (hE D' (by omega)) (fun z i pr' b hz hi=>zDi D' (by omega) _ z i pr' b hz hi) (h3 D' (by omega)) (fun z i pr' b hz hi=>zUs (by omega) D' (by omega) _ z i pr' b hz hi) p hp hb
theorem zSm(hok:OkT ts)(hl:ts.length<1000000)(hpr:pr.length<1000)(hN:1000002<N)(p:Ps)(hp:p.1<ts.length)(hb:p.2.length≤256):
 ∃o,qDg N (gR ts pr p) 1=some o∧relR ts pr (qFa ts pr 32 p) o:=zMt hok hl hpr hN 32 N (by omega) (by omega) p hp hb
theorem zAc(hN:1≤N)(z:Flt)(i:Nat)(pr':List ByteArray)(b:List Ex)(hz:z.2≠0)(hi:i<ts.length):∃v,qDg N (bR ts z i pr' b) 1=some (bR ts z i pr' b,v):=zDi N hN 1 z i pr' b hz hi
abbrev RL:=List Tok×Int×Int×Int×List ByteArray×List Ex×List Int×List ByteArray
def addL(st:RT)(l:List ByteArray):RL:=(st.1,st.2.1,st.2.2.1,st.2.2.2.1,st.2.2.2.2.1,st.2.2.2.2.2.1,st.2.2.2.2.2.2,l)
def zGa(ts:List Tok)(n:Nat)(l:List ByteArray)(i:Nat):Flt⊕(Nat×List ByteArray):=
 if isC ts 4 qPd i then qPn ts n l (i+1) else qBs (qGg ts qFn i) fun j=> .inr (j,l)
theorem zLd(n:Nat)(l:List ByteArray)(i:Nat):qPn ts (n+1) l i=qBs (qQl ts i) fun a=>if l.length=8 then qHh a.2 2 else if a.2.2.1∈l then qHh a.2 10 else zGa ts n (l++[a.2.2.1]) a.1:=rfl
def relP(ts:List Tok)(pr:List ByteArray)(b:List Ex)(r:Flt⊕(Nat×List ByteArray))(o:RL):Prop:=
 match r with
 | .inl z=>∃st l,Bad ts z st∧o=addL st l
 | .inr q=>o=addL (gR ts pr (q.1,b)) q.2
theorem qPo{z:Flt}{i:Nat}{pr':List ByteArray}{b:List Ex}(hz:z.2≠0)(M:Nat)(l:List ByteArray):qAs (qAy N) (M+1) (addL (bR ts z i pr' b) l)=some (addL (bR ts z i pr' b) l):=by
 have hz':((addL (bR ts z i pr' b) l).2.2.2.1==0)=false:=by simpa[bR,addL] using hz
 simp only[qAs,qAy,hz',jB,jI,j0]
theorem zBz(hl:ts.length<1000000)(hN:1000002<N){i:Nat}{b:List Ex}{l:List ByteArray}(hi:i<ts.length)(hl8:l.length≤8){G:RL→Option RL}{n:Nat}
  (hbad:∀(z:Flt) (i:Nat) (pr':List ByteArray) (b:List Ex) (l:List ByteArray),z.2≠0→G (addL (bR ts z i pr' b) l)=some (addL (bR ts z i pr' b) l))
  (hok:OkT ts)
  (ih:∀(s:ByteArray),i+1<ts.length→l.length<8→∃o,G (addL (gR ts pr (i+1,b)) (l++[s]))=some o∧relP ts pr b (zGa ts n (l++[s]) (i+1)) o):
  ∃o,((qAj N (gR ts pr (i,b))).bind fun y15=>(qBc N y15.1).bind fun y16=>(if((l.length:Int)==8)=true then((qAk N y16.1 y15.2.2.2.2 2).bind fun y17=>some y17) else(some y16.1):Option RT).bind fun o10=>(qCq N l y16.2).bind fun y18=>(if y18=true then((qAk N o10 y15.2.2.2.2 10).bind fun y19=>some y19) else(some o10):Option RT).bind fun o11=>(qCn 16 l ([y16.2])).bind fun l1=>G (addL o11 l1))=some o∧
   relP ts pr b (qPn ts (n+1) l i) o:=by
 rw[zLd]
 simp only[qKa (i,b) hi,j0,qWp (i,b) hi hl (by omega:100<N),obs]
 have happ:∀s:ByteArray,qCn 16 l [s]=some (l++[s]):=fun s=>qDx (by simp only[jD,jF];omega) (by omega)
 have hhas:∀s,qCq N l s=some (decide (s∈l)):=fun s=>rhas (by omega) (by omega)
 -- behind an error
 have hb2:∀(z:Flt) (i:Nat) (pr':List ByteArray) (b':List Ex) (s:ByteArray) (a:Int),z.2≠0→i<ts.length→∃o,((qCq N l s).bind fun y18=>(if y18=true then qAk N (bR ts z i pr' b') a 10 else(some (bR ts z i pr' b')):Option RT).bind fun o11=>(qCn 16 l ([s])).bind fun l1=>G (addL o11 l1))=some o∧relP ts pr b (.inl z) o:=by
  intro z i pr' b' s a hz hi
  simp only[hhas,j0,qNu hz]
  have:((if decide (s∈l)=true then some (bR ts z i pr' b') else some (bR ts z i pr' b')):Option RT)=some (bR ts z i pr' b'):=by split<;>rfl
  simp only[this,j0,happ,hbad _ _ _ _ _ hz]
  exact⟨_,rfl,bR ts z i pr' b',_,⟨hz,i,pr',b',hi,rfl⟩,rfl⟩
 cases hx:qQl ts i with
 |inl z=>
  have hz:=zCq hx
  have:((if((l.length:Int)==8)=true then qAk N (bR ts z i pr b) (tkAt ts i).2.2.2 2 else some (bR ts z i pr b)):Option RT)=some (bR ts z i pr b):=by
   rw[qNu hz];split<;>rfl
  simp only[this,j0,qBs]
  exact hb2 z i pr b _ _ hz hi
 |inr x=>
  obtain⟨rfl,g1,-⟩:=qPf hok hi hx
  simp only[qBs]
  by_cases k1:l.length=8
  ·have k1':((l.length:Int)==8)=true:=by simp;omega
   rw[if_pos k1]
   simp only[k1',jK,qKp,j0,qHh]
   exact hb2 _ _ _ _ _ _ (show(2:Int)≠0 by decide) g1
  have k1':((l.length:Int)==8)=false:=by simp;omega
  rw[if_neg k1]
  simp only[k1',jB,jI,j0,hhas]
  by_cases k2:(tkAt ts i).2.1∈l
  ·rw[if_pos k2]
   simp only[jZ k2,jK,qKp,j0,happ,qHh]
   refine⟨_,hbad _ _ _ _ _ (show(10:Int)≠0 by decide),bR ts ((tkAt ts i).2.2.2,10) (i+1) pr b,_,⟨show(10:Int)≠0 by decide,i+1,pr,b,g1,rfl⟩,rfl⟩
  ·rw[if_neg k2]
   simp only[jU k2,jB,jI,j0,happ]
   exact ih _ g1 (by omega)
theorem zIu(hN:1000002<N){b:List Ex}{l:List ByteArray}(hl8:l.length≤8){G:RL→Option RL}
  (hbad:∀(z:Flt) (i:Nat) (pr':List ByteArray) (b:List Ex) (l:List ByteArray),z.2≠0→G (addL (bR ts z i pr' b) l)=some (addL (bR ts z i pr' b) l))
  {z:Flt} {i:Nat} {pr':List ByteArray} {b':List Ex} (hz:z.2≠0) (hi:i<ts.length):
  ∃o,((qAj N (bR ts z i pr' b')).bind fun y15=>(qBc N y15.1).bind fun y16=>(if((l.length:Int)==8)=true then((qAk N y16.1 y15.2.2.2.2 2).bind fun y17=>some y17) else(some y16.1):Option RT).bind fun o10=>(qCq N l y16.2).bind fun y18=>(if y18=true then((qAk N o10 y15.2.2.2.2 10).bind fun y19=>some y19) else(some o10):Option RT).bind fun o11=>(qCn 16 l ([y16.2])).bind fun l1=>G (addL o11 l1))=some o∧
   relP ts pr b (.inl z) o:=by
 have happ:∀s:ByteArray,qCn 16 l [s]=some (l++[s]):=fun s=>qDx (by simp only[jD,jF];omega) (by omega)
 have hhas:∀s,qCq N l s=some (decide (s∈l)):=fun s=>rhas (by omega) (by omega)
 have e3:((if((l.length:Int)==8)=true then some (bR ts z i pr' b') else some (bR ts z i pr' b')):Option RT)=some (bR ts z i pr' b'):=by split<;>rfl
 have e4:((if decide ((⟨#[]⟩:ByteArray)∈l)=true then some (bR ts z i pr' b') else some (bR ts z i pr' b')):Option RT)=some (bR ts z i pr' b'):=by split<;>rfl
 simp only[qQj hi,j0,zDb hz hi,obs,qNu hz,e3,hhas,e4,happ,hbad _ _ _ _ _ hz]
 exact⟨_,rfl,bR ts z i pr' b',_,⟨hz,i,pr',b',hi,rfl⟩,rfl⟩
theorem qWx(hok:OkT ts)(hl:ts.length<1000000)(hN:1000002<N){b:List Ex}:∀(n M:Nat) (l:List ByteArray) (i:Nat),l≠[]→i<ts.length→l.length≤8→ts.length<i+n→ts.length+2<i+M→
  ∃o,qAs (qAy N) M (addL (gR ts pr (i,b)) l)=some o∧relP ts pr b (zGa ts n l i) o
 |0,M,l,i,_,hi,_,h,_=>by omega
 |n+1,0,l,i,_,hi,_,_,h=>by omega
 |n+1,M+1,l,i,hne,hi,hl8,hn,hM=>by
  have hs:=qLd (N:=N) (pr:=pr) (i,b) hi hl ⟨#[41]⟩
  have hpos:decide ((l.length:Int)>0)=true:=by
   have:=fN.2 hne
   exact jZ (by omega)
  have g0:((addL (gR ts pr (i,b)) l).2.2.2.1==0)=true:=rfl
  have e1:∀st:RT,∀l,((addL st l).1,(addL st l).2.1,(addL st l).2.2.1,(addL st l).2.2.2.1,(addL st l).2.2.2.2.1,(addL st l).2.2.2.2.2.1,(addL st l).2.2.2.2.2.2.1)=st:=fun _ _=>rfl
  have e2:∀st:RT,∀l,(addL st l).2.2.2.2.2.2.2=l:=fun _ _=>rfl
  simp only[qAs,qAy,g0,jK,e1,e2,hs,j0,hpos]
  rcases qFt (isC ts 4 ⟨#[41]⟩ i) with c1|c1
  ·simp only[c1,jK,kW,jB,jI]
   refine⟨_,rfl,?_⟩
   have c2:isC ts 4 qPd i=false:=by
    simp only[isC,jL,jA] at c1
    simp[isC,c1.2,qPd]
   have c3:qGg ts qFn i= .inr (i+1):=by simp[qGg,qFn,c1]
   simp only[zGa,c2,jB,jI,c3,qBs]
   rfl
  ·have hcc:isC ts 4 qPd i=isC ts 4 ⟨#[44]⟩ i:=rfl
   simp only[c1,jB,jI,kT,jK,Prod.eta,qNw (i,b) hi hl,j0,zGa,hcc,qGg]
   rcases qFt (isC ts 4 ⟨#[44]⟩ i) with c2|c2
   ·have g:=qHi hok hi (by decide) c2
    simp only[c2,jK]
    obtain⟨o,ho,hr⟩:=zBz (N:=N) (pr:=pr) (b:=b) (l:=l) (n:=n) (G:=qAs (qAy N) M) hl hN g hl8 (fun z i pr' b l hz=>by
     obtain⟨M',rfl⟩:∃M',M=M'+1:=⟨M-1,by omega⟩
     exact qPo hz M' l) hok (fun s g2 g3=>qWx hok hl hN n M (l++[s]) (i+1+1) (by simp) g2 (by simp only[jC,jD,jF];omega) (by omega) (by omega))
    refine⟨o,Eq.trans ?_ ho,hr⟩
    simp only[f9,j0]
    rfl
   ·have c1':isC ts 4 qFn i=false:=c1
    simp only[c2,c1',jB,jI,qHh,qBs]
    obtain⟨o,ho,hr⟩:=zIu (N:=N) (pr:=pr) (b:=b) (l:=l) (z:=((tkAt ts i).2.2.2,9)) (i:=i) (pr':=pr) (b':=b) (G:=qAs (qAy N) M) hN hl8 (fun z i pr' b l hz=>by
     obtain⟨M',rfl⟩:∃M',M=M'+1:=⟨M-1,by omega⟩
     exact qPo hz M' l) (show(9:Int)≠0 by decide) hi
    refine⟨o,Eq.trans ?_ ho,hr⟩
    simp only[f9,j0]
    rfl
theorem zTw(hok:OkT ts)(hl:ts.length<1000000)(hN:1000005<N){b:List Ex}(i:Nat)(hi:i<ts.length):
  ∃o,qAs (qAy N) N (addL (gR ts pr (i,b)) [])=some o∧relP ts pr b (if isC ts 4 qFn i then .inr (i+1,[]) else qPn ts (ts.length+1) [] i) o:=by
 obtain⟨M,hM⟩:∃M,N=M+1:=⟨N-1,by omega⟩
 have hs:=qLd (N:=N) (pr:=pr) (i,b) hi hl ⟨#[41]⟩
 have g0:((addL (gR ts pr (i,b)) []).2.2.2.1==0)=true:=rfl
 have hnil:decide ((([]:List ByteArray).length:Int)>0)=false:=rfl
 have e1:∀st:RT,∀l,((addL st l).1,(addL st l).2.1,(addL st l).2.2.1,(addL st l).2.2.2.1,(addL st l).2.2.2.2.1,(addL st l).2.2.2.2.2.1,(addL st l).2.2.2.2.2.2.1)=st:=fun _ _=>rfl
 have e2:∀st:RT,∀l,(addL st l).2.2.2.2.2.2.2=l:=fun _ _=>rfl
 have e0:qAs (qAy N) N (addL (gR ts pr (i,b)) [])=qAs (qAy N) (M+1) (addL (gR ts pr (i,b)) []):=by rw[←hM]
 rw[e0]
 simp only[qAs,qAy,g0,jK,e1,e2,hs,j0,hnil,qFn]
 rcases qFt (isC ts 4 ⟨#[41]⟩ i) with c1|c1
 ·simp only[c1,jK,kW,jB,jI]
  exact⟨_,rfl,rfl⟩
 ·simp only[c1,jB,jI,kT,jK,Prod.eta,j0]
  obtain⟨o,ho,hr⟩:=zBz (N:=N) (pr:=pr) (b:=b) (l:=[]) (n:=ts.length) (G:=qAs (qAy N) M) hl (by omega) hi (by simp) (fun z i pr' b l hz=>by
   obtain⟨M',rfl⟩:∃M',M=M'+1:=⟨M-1,by omega⟩
   exact qPo hz M' l) hok (fun s g2 g3=>qWx hok hl (by omega) ts.length M ([]++[s]) (i+1) (by simp) g2 (by simp) (by omega) (by omega))
  refine⟨o,Eq.trans ?_ ho,hr⟩
  simp only[f9,j0]
  rfl
end
end
section
open Go Go.Dc
section
variable {N:Nat} {ts:List Tok} {pr:List ByteArray}
def relD(ts:List Tok)(r:Flt⊕(Nat×Dl))(o:RT×Dl):Prop:=
 match r with
 | .inl z=>Bad ts z o.1
 | .inr a=>o=(gR ts a.2.2.2.1 (a.1,a.2.2.2.2),a.2)
def qQr(N:Nat)(st:RT)(k:Int)(nm:ByteArray):Option (RT×Dl):=
 ((if(k==1)=true then((qAi N st (⟨#[40]⟩:ByteArray)).bind fun y12=>qAs (qAy N) N (addL y12 [])) else(some (addL st [])):Option RL)).bind fun o6=>
 (qAi N (o6.1,o6.2.1,o6.2.2.1,o6.2.2.2.1,o6.2.2.2.2.2.2.2,o6.2.2.2.2.2.1,o6.2.2.2.2.2.2.1) (⟨#[61]⟩:ByteArray)).bind fun y20=>
 (qDg N y20 1).bind fun y21=>(qAi N y21.1 (⟨#[59]⟩:ByteArray)).bind fun y22=>some (y22,(k,nm,o6.2.2.2.2.2.2.2,y22.2.2.2.2.2.1))
theorem zAm(hN:1000005<N){z:Flt}{i:Nat}{b:List Ex}(hz:z.2≠0)(hi:i<ts.length)(k:Int)(nm:ByteArray):∃o,qQr N (bR ts z i pr b) k nm=some o∧Bad ts z o.1:=by
 have tail:∀(i:Nat) (pr:List ByteArray) (b:List Ex) (l:List ByteArray),i<ts.length→∃o,((qAi N ((addL (bR ts z i pr b) l).1,(addL (bR ts z i pr b) l).2.1,(addL (bR ts z i pr b) l).2.2.1,(addL (bR ts z i pr b) l).2.2.2.1,(addL (bR ts z i pr b) l).2.2.2.2.2.2.2,(addL (bR ts z i pr b) l).2.2.2.2.2.1,(addL (bR ts z i pr b) l).2.2.2.2.2.2.1) (⟨#[61]⟩:ByteArray)).bind fun y20=>
   (qDg N y20 1).bind fun y21=>(qAi N y21.1 (⟨#[59]⟩:ByteArray)).bind fun y22=>some (y22,(k,nm,(addL (bR ts z i pr b) l).2.2.2.2.2.2.2,y22.2.2.2.2.2.1)))=some o∧Bad ts z o.1:=by
  intro i pr b l hi
  have e:((addL (bR ts z i pr b) l).1,(addL (bR ts z i pr b) l).2.1,(addL (bR ts z i pr b) l).2.2.1,(addL (bR ts z i pr b) l).2.2.2.1,(addL (bR ts z i pr b) l).2.2.2.2.2.2.2,(addL (bR ts z i pr b) l).2.2.2.2.2.1,(addL (bR ts z i pr b) l).2.2.2.2.2.2.1)=bR ts z i l b:=rfl
  obtain⟨v,hv⟩:=zAc (N:=N) (by omega) z i l b hz hi
  simp only[e,qNg hz hi,j0,hv]
  exact⟨_,rfl,hz,i,l,b,hi,rfl⟩
 obtain⟨M,hM⟩:∃M,N=M+1:=⟨N-1,by omega⟩
 have hb:qAs (qAy N) N (addL (bR ts z i pr b) [])=some (addL (bR ts z i pr b) []):=by
  have e0:qAs (qAy N) N (addL (bR ts z i pr b) [])=qAs (qAy N) (M+1) (addL (bR ts z i pr b) []):=by rw[←hM]
  rw[e0];exact qPo hz M []
 unfold qQr
 rcases qFt (k==1) with c|c
 ·simp only[c,jK,qNg hz hi,j0,hb]
  exact tail i pr b [] hi
 ·simp only[c,jB,jI,j0]
  exact tail i pr b [] hi
theorem zPg(hok:OkT ts)(hl:ts.length<1000000)(hN:1000005<N)(i:Nat)(hi:i<ts.length)(k:Int)(nm:ByteArray):∃o,qQr N (gR ts pr (i,[])) k nm=some o∧
  relD ts (qBs (if k=1 then qKk ts i else .inr (i,[])) fun bq=>qBs (qGg ts sEq bq.1) fun j=>qBs (qFa ts bq.2 32 (j,[])) fun c=>qBs (qGg ts qUn c.1.1) fun m=> .inr (m,(k,nm,bq.2,c.1.2))) o:=by
 have badt:∀(z:Flt) (st:RT) (l:List ByteArray),Bad ts z st→∃o,((qAi N ((addL st l).1,(addL st l).2.1,(addL st l).2.2.1,(addL st l).2.2.2.1,(addL st l).2.2.2.2.2.2.2,(addL st l).2.2.2.2.2.1,(addL st l).2.2.2.2.2.2.1) (⟨#[61]⟩:ByteArray)).bind fun y20=>
   (qDg N y20 1).bind fun y21=>(qAi N y21.1 (⟨#[59]⟩:ByteArray)).bind fun y22=>some (y22,(k,nm,(addL st l).2.2.2.2.2.2.2,y22.2.2.2.2.2.1)))=some o∧Bad ts z o.1:=by
  rintro z st l ⟨hz,i,pr,b,hi,rfl⟩
  have e:((addL (bR ts z i pr b) l).1,(addL (bR ts z i pr b) l).2.1,(addL (bR ts z i pr b) l).2.2.1,(addL (bR ts z i pr b) l).2.2.2.1,(addL (bR ts z i pr b) l).2.2.2.2.2.2.2,(addL (bR ts z i pr b) l).2.2.2.2.2.1,(addL (bR ts z i pr b) l).2.2.2.2.2.2.1)=bR ts z i l b:=rfl
  obtain⟨v,hv⟩:=zAc (N:=N) (by omega) z i l b hz hi
  simp only[e,qNg hz hi,j0,hv]
  exact⟨_,rfl,hz,i,l,b,hi,rfl⟩
 have goodt:∀(q:Nat×List ByteArray),q.1<ts.length→q.2.length≤8→∃o,((qAi N ((addL (gR ts pr (q.1,[])) q.2).1,(addL (gR ts pr (q.1,[])) q.2).2.1,(addL (gR ts pr (q.1,[])) q.2).2.2.1,(addL (gR ts pr (q.1,[])) q.2).2.2.2.1,(addL (gR ts pr (q.1,[])) q.2).2.2.2.2.2.2.2,(addL (gR ts pr (q.1,[])) q.2).2.2.2.2.2.1,(addL (gR ts pr (q.1,[])) q.2).2.2.2.2.2.2.1) (⟨#[61]⟩:ByteArray)).bind fun y20=>
   (qDg N y20 1).bind fun y21=>(qAi N y21.1 (⟨#[59]⟩:ByteArray)).bind fun y22=>some (y22,(k,nm,(addL (gR ts pr (q.1,[])) q.2).2.2.2.2.2.2.2,y22.2.2.2.2.2.1)))=some o∧
   relD ts (qBs (qGg ts sEq q.1) fun j=>qBs (qFa ts q.2 32 (j,[])) fun c=>qBs (qGg ts qUn c.1.1) fun m=> .inr (m,(k,nm,q.2,c.1.2))) o:=by
  intro q hq hq8
  have e:((addL (gR ts pr (q.1,[])) q.2).1,(addL (gR ts pr (q.1,[])) q.2).2.1,(addL (gR ts pr (q.1,[])) q.2).2.2.1,(addL (gR ts pr (q.1,[])) q.2).2.2.2.1,(addL (gR ts pr (q.1,[])) q.2).2.2.2.2.2.2.2,(addL (gR ts pr (q.1,[])) q.2).2.2.2.2.2.1,(addL (gR ts pr (q.1,[])) q.2).2.2.2.2.2.2.1)=gR ts q.2 (q.1,[]):=rfl
  have e2:(addL (gR ts pr (q.1,[])) q.2).2.2.2.2.2.2.2=q.2:=rfl
  rw[e]
  simp only[e2,qNw (q.1,[]) hq hl,j0,sEq]
  cases hj:qGg ts ⟨#[61]⟩ q.1 with
  |inl z=>
   have hz:=qMl hj
   obtain⟨v,hv⟩:=zAc (N:=N) (by omega) z q.1 q.2 [] hz hq
   simp only[hv,j0,qNg hz hq,qBs]
   exact⟨_,rfl,hz,q.1,q.2,[],hq,rfl⟩
  |inr j=>
   obtain⟨rfl,g3,-⟩:=qHl hok hq hj
   obtain⟨o,ho,hr⟩:=zSm (N:=N) (pr:=q.2) hok hl (by omega) (by omega) (q.1+1,[]) g3 (by simp)
   simp only[ho,j0,qBs]
   cases hc:qFa ts q.2 32 (q.1+1,[]) with
   |inl z=>
    rw[hc] at hr
    obtain⟨hz,i,pr',b,hi,ho1⟩:=hr
    simp only[ho1,qNg hz hi,j0]
    exact⟨_,rfl,hz,i,pr',b,hi,rfl⟩
   |inr c=>
    rw[hc] at hr
    obtain⟨⟨f1,f2,f3,f4⟩,-⟩:=qOn hok 32 (q.1+1,[]) c.1 c.2 g3 (by simp) hc
    have hr':o=(gR ts q.2 c.1,(c.2:Int)):=hr
    simp only[hr',qNw c.1 f2 hl,j0,qUn]
    cases hm:qGg ts ⟨#[59]⟩ c.1.1 with
    |inl z=>exact⟨_,rfl,qMl hm,c.1.1,q.2,c.1.2,f2,rfl⟩
    |inr m=>exact⟨_,rfl,rfl⟩
 unfold qQr
 by_cases c:k=1
 ·have c':(k==1)=true:=by simpa using c
  simp only[c',jK,qNw (i,[]) hi hl,j0,if_pos c,qKk,qNk]
  cases h1:qGg ts ⟨#[40]⟩ i with
  |inl z=>
   have hz:=qMl h1
   obtain⟨M,hM⟩:∃M,N=M+1:=⟨N-1,by omega⟩
   have hb:qAs (qAy N) N (addL (bR ts z i pr []) [])=some (addL (bR ts z i pr []) []):=by
    have e0:qAs (qAy N) N (addL (bR ts z i pr []) [])=qAs (qAy N) (M+1) (addL (bR ts z i pr []) []):=by rw[←hM]
    rw[e0];exact qPo hz M []
   simp only[hb,j0,qBs]
   exact badt z _ [] ⟨hz,i,pr,[],hi,rfl⟩
  |inr j=>
   obtain⟨rfl,g1,-⟩:=qHl hok hi h1
   obtain⟨o,ho,hr⟩:=zTw (N:=N) (pr:=pr) (b:=[]) hok hl hN (i+1) g1
   simp only[ho,j0,qBs]
   cases hP:(if isC ts 4 qFn (i+1)=true then .inr (i+1+1,[]) else qPn ts (ts.length+1) [] (i+1):Flt⊕(Nat×List ByteArray)) with
   |inl z=>
    rw[hP] at hr
    obtain⟨st,l,hbad,rfl⟩:=hr
    exact badt z st l hbad
   |inr q=>
    rw[hP] at hr
    have hr':o=addL (gR ts pr (q.1,[])) q.2:=hr
    have hq:q.1<ts.length∧q.2.length≤8:=by
     split at hP
     ·rename_i hc
      obtain rfl:=Sum.inr.inj hP
      exact⟨qHi hok g1 (by decide) hc,by simp⟩
     ·obtain⟨_,f2,f3⟩:=qUm hok _ _ _ q g1 (by simp) hP
      exact⟨f2,f3⟩
    rw[hr']
    exact goodt q hq.1 hq.2
 ·have c':(k==1)=false:=by simpa using c
  simp only[c',jB,jI,j0,if_neg c]
  exact goodt (i,[]) hi (by simp)
def qVc(N:Nat)(f:Sr)(t:Tok)(st:RT)(k:Int):Option (RT×Dl):=
 ((if((List.length f.2.2:Int)==64)=true then qAk N st t.2.2.2 2 else some st):Option RT).bind fun o2=>(qAj N o2).bind fun y7=>
 ((if(k==3)=true then qBr N y7.1 true else qBc N y7.1):Option (RT×ByteArray)).bind fun o3=>
 ((if(o3.1.2.2.2.1==0)=true then qEf N f k o3.2 else some false):Option Bool).bind fun o4=>
 ((if o4=true then qAk N o3.1 y7.2.2.2.2 10 else some o3.1):Option RT).bind fun o5=>qQr N o5 k o3.2
theorem zLf(hN:1000005<N){f:Sr}{t:Tok}{z:Flt}{i:Nat}{b:List Ex}(hz:z.2≠0)(hi:i<ts.length)(k:Int):∃o,
  ((qAj N (bR ts z i pr b)).bind fun y7=>((if(k==3)=true then qBr N y7.1 true else qBc N y7.1):Option (RT×ByteArray)).bind fun o3=>
   ((if(o3.1.2.2.2.1==0)=true then qEf N f k o3.2 else some false):Option Bool).bind fun o4=>
   ((if o4=true then qAk N o3.1 y7.2.2.2.2 10 else some o3.1):Option RT).bind fun o5=>qQr N o5 k o3.2)=some o∧Bad ts z o.1:=by
 have hz':((bR ts z i pr b).2.2.2.1==0)=false:=by simpa[bR] using hz
 have e:((if(k==3)=true then qBr N (bR ts z i pr b) true else qBc N (bR ts z i pr b)):Option (RT×ByteArray))=some (bR ts z i pr b,⟨#[]⟩):=by
  rw[zHd hz hi,zDb hz hi];split<;>rfl
 simp only[qQj hi,j0,e,hz',jB,jI]
 exact zAm hN hz hi k _
theorem zLl(hok:OkT ts)(hl:ts.length<1000000)(hN:1000005<N){f:Sr}(hf:f.2.2.length≤64)(t:Tok)(i:Nat)(hi:i<ts.length)(k:Int):∃o,qVc N f t (gR ts pr (i,[])) k=some o∧
  relD ts (if f.2.2.length=64 then qHh t 2 else qBs (if k=3 then qTj ts i else qQl ts i) fun a=>
   if f.2.2.any (fun d=>d.1==k&&decide (d.2.1=a.2.2.1)) then qHh a.2 10
   else qBs (if k=1 then qKk ts a.1 else .inr (a.1,[])) fun b=>
    qBs (qGg ts sEq b.1) fun j=>qBs (qFa ts b.2 32 (j,[])) fun c=>
    qBs (qGg ts qUn c.1.1) fun m=> .inr (m,(k,a.2.2.1,b.2,c.1.2))) o:=by
 unfold qVc
 by_cases k1:f.2.2.length=64
 ·have k1':((f.2.2.length:Int)==64)=true:=by simp;omega
  rw[if_pos k1]
  simp only[k1',jK,qKp,j0,qHh]
  exact zLf (t:=t) hN (show(2:Int)≠0 by decide) hi k
 have k1':((f.2.2.length:Int)==64)=false:=by simp;omega
 rw[if_neg k1]
 simp only[k1',jB,jI,j0,qKa (i,[]) hi]
 have e:((if(k==3)=true then qBr N (gR ts pr (i,[])) true else qBc N (gR ts pr (i,[]))):Option (RT×ByteArray))=
   some (match(if k=3 then qTj ts i else qQl ts i) with| .inl z=>(bR ts z i pr [],⟨#[]⟩)| .inr a=>(gR ts pr (a.1,[]),a.2.2.1)):=by
  by_cases k3:k=3
  ·have k3':(k==3)=true:=by simpa using k3
   rw[if_pos k3',if_pos k3,zIs (i,[]) hi hl (by omega)]<;>rfl
  ·have k3':(k==3)=false:=by simpa using k3
   rw[if_neg (by rw[k3'];decide),if_neg k3,qWp (i,[]) hi hl (by omega)]<;>rfl
 rw[e]
 simp only[j0]
 cases hX:(if k=3 then qTj ts i else qQl ts i) with
 |inl z=>
  have hz:z.2≠0:=by
   split at hX
   ·exact zEe hX
   ·exact zCq hX
  have hz':((bR ts z i pr []).2.2.2.1==0)=false:=by simpa[bR] using hz
  simp only[hz',jB,jI,j0,qBs]
  exact zAm hN hz hi k _
 |inr a=>
  have ga:a=(i+1,tkAt ts i)∧i+1<ts.length:=by
   split at hX
   ·obtain⟨e,g1,-⟩:=qQc hok hi hX;exact⟨e,g1⟩
   ·obtain⟨e,g1,-⟩:=qPf hok hi hX;exact⟨e,g1⟩
  obtain⟨rfl,g1⟩:=ga
  have g0:((gR ts pr (i+1,[])).2.2.2.1==0)=true:=rfl
  simp only[g0,jK,zTi (N:=N) (f:=f) (k:=k) (s:=(tkAt ts i).2.1) (by omega) (by omega),j0]
  rw[show qBs (Sum.inr (i+1,tkAt ts i)) (fun a:Nat×Tok=>if f.2.2.any (fun d=>d.1==k&&decide (d.2.1=a.2.2.1))=true then qHh a.2 10
   else qBs (if k=1 then qKk ts a.1 else .inr (a.1,[])) fun b=>
    qBs (qGg ts sEq b.1) fun j=>qBs (qFa ts b.2 32 (j,[])) fun c=>
    qBs (qGg ts qUn c.1.1) fun m=>(.inr (m,(k,a.2.2.1,b.2,c.1.2)):Flt⊕(Nat×Dl)))=(if f.2.2.any (fun d=>d.1==k&&decide (d.2.1=(tkAt ts i).2.1))=true then qHh (tkAt ts i) 10
   else qBs (if k=1 then qKk ts (i+1) else .inr (i+1,[])) fun b=>
    qBs (qGg ts sEq b.1) fun j=>qBs (qFa ts b.2 32 (j,[])) fun c=>
    qBs (qGg ts qUn c.1.1) fun m=>(.inr (m,(k,(tkAt ts i).2.1,b.2,c.1.2)):Flt⊕(Nat×Dl))) from rfl]
  rcases qFt (f.2.2.any fun d=>d.1==k&&decide (d.2.1=(tkAt ts i).2.1)) with k4|k4
  ·rw[if_pos k4]
   simp only[k4,jK,qKp,j0,qHh]
   exact zAm hN (show(10:Int)≠0 by decide) g1 k _
  ·rw[if_neg (by rw[k4];decide)]
   simp only[k4,jB,jI,j0]
   exact zPg hok hl hN (i+1) g1 k _
end
end
section
open Go Go.Dc
section
variable {N:Nat} {ts:List Tok} {pr:List ByteArray}
abbrev RN:=List Tok×Int×Int×Int×List ByteArray×List Ex×List Int×ByteArray
def addN(st:RT)(l:ByteArray):RN:=(st.1,st.2.1,st.2.2.1,st.2.2.2.1,st.2.2.2.2.1,st.2.2.2.2.2.1,st.2.2.2.2.2.2,l)
theorem rdecl(hok:OkT ts)(hl:ts.length<1000000)(hN:1000005<N){f:Sr}(hf:f.2.2.length≤64)(i:Nat)(b:List Ex)(hi:i<ts.length):∃o,qGf N (gR ts pr (i,b)) f=some o∧relD ts (qRq ts f.2.2 i) o:=by
 have e0:((gR ts pr (i,b)).1,(gR ts pr (i,b)).2.1,(gR ts pr (i,b)).2.2.1,(gR ts pr (i,b)).2.2.2.1,([]:List ByteArray),([]:List Ex),(gR ts pr (i,b)).2.2.2.2.2.2)=gR ts [] (i,[]):=rfl
 have rest:∀(st:RT) (k:Int),(((if((List.length f.2.2:Int)==64)=true then((qAk N st (tkAt ts i).2.2.2 2).bind fun y6=>some y6) else(some st)):Option RT).bind fun o2=>(qAj N o2).bind fun y7=>((if(k==3)=true then((qBr N y7.1 true).bind fun y8=>some (addN y8.1 y8.2)) else((qBc N y7.1).bind fun y9=>some (addN y9.1 y9.2))):Option RN).bind fun o3=>((if(o3.2.2.2.1==0)=true then((qEf N f k o3.2.2.2.2.2.2.2).bind fun y10=>some y10) else(some false)):Option Bool).bind fun o4=>((if o4=true then((qAk N (o3.1,o3.2.1,o3.2.2.1,o3.2.2.2.1,o3.2.2.2.2.1,o3.2.2.2.2.2.1,o3.2.2.2.2.2.2.1) y7.2.2.2.2 10).bind fun y11=>some y11) else(some (o3.1,o3.2.1,o3.2.2.1,o3.2.2.2.1,o3.2.2.2.2.1,o3.2.2.2.2.2.1,o3.2.2.2.2.2.2.1))):Option RT).bind fun o5=>qQr N o5 k o3.2.2.2.2.2.2.2)=qVc N f (tkAt ts i) st k:=by
  intro st k
  unfold qVc
  simp only[obs]
  refine congrArg _ (funext fun o2=>congrArg _ (funext fun y7=> ?_))
  rcases qFt (k==3) with c|c<;>simp only[c,jK,jB,jI,f9,j0]<;>rfl
 have fin:∀(k:Int),k≠0→zIp (tkAt ts i).2.1=k→(tkAt ts i).1=1→∃o,qVc N f (tkAt ts i) (gR ts [] (i+1,[])) k=some o∧relD ts (qRq ts f.2.2 i) o:=by
  intro k hk0 hk h1
  have g:=hok.next hi (show(tkAt ts i).1≠5 by rw[h1];decide)
  obtain⟨o,ho,hr⟩:=zLl (N:=N) (pr:=[]) hok hl hN hf (tkAt ts i) (i+1) g k
  refine⟨o,ho,?_⟩
  unfold qRq
  dsimp only
  rw[hk,if_neg (by rintro(h|h);exact h h1;exact hk0 h)]
  exact hr
 simp only[qGf,e0,qKa (i,[]) hi,j0,Prod.eta,qMj (i,[]) hi hl]
 by_cases h1:(tkAt ts i).1=1
 ·have n:∀s,isC ts 1 s i=decide ((tkAt ts i).2.1=s):=fun s=>zKv h1
  simp only[n]
  by_cases w1:(tkAt ts i).2.1=(⟨#[102,117,110,99]⟩:ByteArray)
  ·simp only[jZ w1,jK,j0]
   obtain⟨o,ho,hr⟩:=fin 1 (by decide) (by rw[w1];rfl) h1
   refine⟨o,Eq.trans ?_ ho,hr⟩
   refine Eq.trans ?_ (rest (gR ts [] (i+1,[])) 1)
   simp only[obs,qQr]
   rfl
  simp only[jU w1,jB,jI,j0,qMj (i,[]) hi hl,n,Prod.eta]
  by_cases w2:(tkAt ts i).2.1=(⟨#[116,101,115,116]⟩:ByteArray)
  ·simp only[jZ w2,jK,j0]
   obtain⟨o,ho,hr⟩:=fin 2 (by decide) (by rw[w2];rfl) h1
   refine⟨o,Eq.trans ?_ ho,hr⟩
   refine Eq.trans ?_ (rest (gR ts [] (i+1,[])) 2)
   simp only[obs,qQr]
   rfl
  simp only[jU w2,jB,jI,j0,qMj (i,[]) hi hl,n,Prod.eta]
  by_cases w3:(tkAt ts i).2.1=(⟨#[103,101,110]⟩:ByteArray)
  ·simp only[jZ w3,jK,j0]
   obtain⟨o,ho,hr⟩:=fin 3 (by decide) (by rw[w3];rfl) h1
   refine⟨o,Eq.trans ?_ ho,hr⟩
   refine Eq.trans ?_ (rest (gR ts [] (i+1,[])) 3)
   simp only[obs,qQr]
   rfl
  simp only[jU w3,jB,jI,j0,qKp,Prod.eta]
  refine⟨_,rfl,?_⟩
  have hk:zIp (tkAt ts i).2.1=0:=by
   unfold zIp
   rw[if_neg (show ¬(tkAt ts i).2.1=zNs from w1),if_neg (show ¬(tkAt ts i).2.1=zOn from w2),if_neg (show ¬(tkAt ts i).2.1=sGen from w3)]
  unfold qRq
  dsimp only
  rw[if_pos (.inr hk)]
  exact⟨show(9:Int)≠0 by decide,i,[],[],hi,rfl⟩
 ·have n:∀s,isC ts 1 s i=false:=fun s=>zSy h1
  simp only[n,jB,jI,j0,qMj (i,[]) hi hl,qKp,Prod.eta]
  refine⟨_,rfl,?_⟩
  unfold qRq
  dsimp only
  rw[if_pos (.inl h1)]
  exact⟨show(9:Int)≠0 by decide,i,[],[],hi,rfl⟩
def relI(ts:List Tok)(pr:List ByteArray)(b:List Ex)(r:Flt⊕(Nat×List ByteArray))(o:RL):Prop:=
 match r with
 | .inl z=>∃st l,Bad ts z st∧o=addL st l
 | .inr q=>o=addL (gR ts pr (q.1,b)) q.2
theorem qXb{y5:RT×ByteArray}{z:Flt}{i:Nat}{pr':List ByteArray}{b:List Ex}(hz:z.2≠0)(M:Nat)(l:List ByteArray):qAs (qBv N y5) (M+1) (addL (bR ts z i pr' b) l)=some (addL (bR ts z i pr' b) l):=by
 have hz':((addL (bR ts z i pr' b) l).2.2.2.1==0)=false:=by simpa[bR,addL] using hz
 simp only[qAs,qBv,hz',jB,jI,j0]
theorem qVx(hok:OkT ts)(hl:ts.length<1000000)(hN:1000005<N){y5:RT×ByteArray}{b:List Ex}:∀(n M:Nat) (l:List ByteArray) (i:Nat),i<ts.length→l.length≤8→ts.length<i+n→ts.length+2<i+M→
  ∃o,qAs (qBv N y5) M (addL (gR ts pr (i,b)) l)=some o∧relI ts pr b (qLi ts y5.2 n l i) o
 |0,M,l,i,hi,_,h,_=>by omega
 |n+1,0,l,i,hi,_,_,h=>by omega
 |n+1,M+1,l,i,hi,hl8,hn,hM=>by
  have g0:((addL (gR ts pr (i,b)) l).2.2.2.1==0)=true:=rfl
  have e1:∀st:RT,∀l,((addL st l).1,(addL st l).2.1,(addL st l).2.2.1,(addL st l).2.2.2.1,(addL st l).2.2.2.2.1,(addL st l).2.2.2.2.2.1,(addL st l).2.2.2.2.2.2.1)=st:=fun _ _=>rfl
  have e2:∀st:RT,∀l,(addL st l).2.2.2.2.2.2.2=l:=fun _ _=>rfl
  have happ:∀s:ByteArray,qCn 16 l [s]=some (l++[s]):=fun s=>qDx (by simp only[jD,jF];omega) (by omega)
  have hhas:∀s,qCq N l s=some (decide (s∈l)):=fun s=>rhas (by omega) (by omega)
  have bad:∀(z:Flt) (i:Nat) (pr':List ByteArray) (b':List Ex) (l:List ByteArray),z.2≠0→i<ts.length→∃o,qAs (qBv N y5) M (addL (bR ts z i pr' b') l)=some o∧relI ts pr b (.inl z) o:=by
   intro z i pr' b' l hz hi
   obtain⟨M',rfl⟩:∃M',M=M'+1:=⟨M-1,by omega⟩
   exact⟨_,qXb hz M' l,_,_,⟨hz,i,pr',b',hi,rfl⟩,rfl⟩
  -- from the import's name on, behind an error
  have badn:∀(z:Flt) (i:Nat) (pr':List ByteArray) (b':List Ex),z.2≠0→i<ts.length→∃o,((qAj N (bR ts z i pr' b')).bind fun y11=>(qBc N y11.1).bind fun y12=>((if(y12.1.2.2.2.1==0)=true then(if(y12.2.toList==y5.2.toList)=true then(some true) else(qCq N l y12.2)) else(some false)):Option Bool).bind fun o5=>((if o5=true then qAk N y12.1 y11.2.2.2.2 10 else some y12.1):Option RT).bind fun o6=>(qAi N o6 (⟨#[59]⟩:ByteArray)).bind fun y15=>(qCn 16 l ([y12.2])).bind fun l1=>qAs (qBv N y5) M (addL y15 l1))=some o∧relI ts pr b (.inl z) o:=by
   intro z i pr' b' hz hi
   have hz':((bR ts z i pr' b').2.2.2.1==0)=false:=by simpa[bR] using hz
   simp only[qQj hi,zDb hz hi,j0,hz',jB,jI,qNg hz hi,happ]
   exact bad z i pr' b' _ hz hi
  -- the step
  have step:qAs (qBv N y5) (M+1) (addL (gR ts pr (i,b)) l)=(if isC ts 1 qRw i=true then
    ((if((l.length:Int)==8)=true then some (bR ts ((tkAt ts i).2.2.2,2) (i+1) pr b) else some (gR ts pr (i+1,b))):Option RT).bind fun st=>((qAj N st).bind fun y11=>(qBc N y11.1).bind fun y12=>((if(y12.1.2.2.2.1==0)=true then(if(y12.2.toList==y5.2.toList)=true then(some true) else(qCq N l y12.2)) else(some false)):Option Bool).bind fun o5=>((if o5=true then qAk N y12.1 y11.2.2.2.2 10 else some y12.1):Option RT).bind fun o6=>(qAi N o6 (⟨#[59]⟩:ByteArray)).bind fun y15=>(qCn 16 l ([y12.2])).bind fun l1=>qAs (qBv N y5) M (addL y15 l1))
    else some (addL (gR ts pr (i,b)) l)):=by
   have hk:isC ts 1 qRw i=((tkAt ts i).1==1&&decide ((tkAt ts i).2.1=(⟨#[105,109,112,111,114,116]⟩:ByteArray))):=rfl
   have hw:=qUi (show i<1000000 by omega)
   simp only[qAs,qBv,g0,jK,e1,e2,qKa (i,b) hi,j0,Prod.eta,qDz,hk]
   rcases qFt ((tkAt ts i).1==1) with c1|c1
   rotate_left
   ·simp only[c1,jB,jI,j0,Bool.false_and]
    rfl
   rcases qFt (decide ((tkAt ts i).2.1=(⟨#[105,109,112,111,114,116]⟩:ByteArray))) with c2|c2
   rotate_left
   ·simp only[c1,c2,jB,jI,jK,j0,Bool.and_false]
    rfl
   simp only[c1,c2,jK,j0,Bool.and_true]
   rcases qFt ((l.length:Int)==8) with c3|c3
   ·simp only[c3,jK,j0,qKa (i,b) hi,qKp,obs]
    have e3:((bR ts ((tkAt ts i).2.2.2,2) i pr b).1,IntKind.wrap .i64 ((bR ts ((tkAt ts i).2.2.2,2) i pr b).2.1+1),(bR ts ((tkAt ts i).2.2.2,2) i pr b).2.2.1,(bR ts ((tkAt ts i).2.2.2,2) i pr b).2.2.2.1,(bR ts ((tkAt ts i).2.2.2,2) i pr b).2.2.2.2.1,(bR ts ((tkAt ts i).2.2.2,2) i pr b).2.2.2.2.2.1,(bR ts ((tkAt ts i).2.2.2,2) i pr b).2.2.2.2.2.2)=bR ts ((tkAt ts i).2.2.2,2) (i+1) pr b:=by
     show(ts,IntKind.wrap .i64 ((i:Int)+1),(tkAt ts i).2.2.2,(2:Int),pr,b,([]:List Int))=_
     rw[hw];rfl
    rw[e3]
    simp only[f9,j0]
    rfl
   ·simp only[c3,jB,jI,j0,obs]
    have e3:((gR ts pr (i,b)).1,IntKind.wrap .i64 ((gR ts pr (i,b)).2.1+1),(gR ts pr (i,b)).2.2.1,(gR ts pr (i,b)).2.2.2.1,(gR ts pr (i,b)).2.2.2.2.1,(gR ts pr (i,b)).2.2.2.2.2.1,(gR ts pr (i,b)).2.2.2.2.2.2)=gR ts pr (i+1,b):=by
     show(ts,IntKind.wrap .i64 ((i:Int)+1),(0:Int),(0:Int),pr,b,([]:List Int))=_
     rw[hw];rfl
    rw[e3]
    simp only[f9,j0]
    rfl
  rw[step]
  simp only[qLi]
  rcases qFt (isC ts 1 qRw i) with c1|c1
  rotate_left
  ·simp only[c1,jB,jI]
   exact⟨_,rfl,rfl⟩
  have g:=qHi hok hi (by decide) c1
  simp only[c1,jK]
  by_cases k2:l.length=8
  ·have k2':((l.length:Int)==8)=true:=by simp;omega
   rw[if_pos k2]
   simp only[k2',jK,j0,qHh]
   exact badn _ _ _ _ (show(2:Int)≠0 by decide) g
  have k2':((l.length:Int)==8)=false:=by simp;omega
  rw[if_neg k2]
  simp only[k2',jB,jI,j0,qKa (i+1,b) g,qWp (i+1,b) g hl (by omega:100<N)]
  cases hx:qQl ts (i+1) with
  |inl z=>
   have hz:=zCq hx
   have hz':((bR ts z (i+1) pr b).2.2.2.1==0)=false:=by simpa[bR] using hz
   simp only[hz',jB,jI,j0,qNg hz g,happ,qBs]
   exact bad _ _ _ _ _ hz g
  |inr x=>
   obtain⟨rfl,g1,-⟩:=qPf hok g hx
   have g00:((gR ts pr (i+1+1,b)).2.2.2.1==0)=true:=rfl
   simp only[g00,jK,qDz,hhas,qBs]
   by_cases k3:(tkAt ts (i+1)).2.1=y5.2∨(tkAt ts (i+1)).2.1∈l
   ·rw[if_pos k3]
    have:((if decide ((tkAt ts (i+1)).2.1=y5.2)=true then some true else some (decide ((tkAt ts (i+1)).2.1∈l))):Option Bool)=some true:=by
     rcases k3 with h|h
     ·rw[if_pos (jZ h)]
     ·rw[jZ h];split<;>rfl
    rw[this]
    simp only[j0,jK,qKp,happ,qHh]
    have hz:(((tkAt ts (i+1)).2.2.2,(10:Int)):Flt).2≠0:=show(10:Int)≠0 by decide
    simp only[qNg hz g1,j0]
    exact bad _ _ _ _ _ hz g1
   rw[if_neg k3]
   have:((if decide ((tkAt ts (i+1)).2.1=y5.2)=true then some true else some (decide ((tkAt ts (i+1)).2.1∈l))):Option Bool)=some false:=by
    rw[if_neg (by simp only[jA];exact fun h=>k3 (.inl h)),jU (fun h=>k3 (.inr h))]
   rw[this]
   simp only[j0,jB,jI,qNw (i+1+1,b) g1 hl,happ,qUn]
   cases hj:qGg ts ⟨#[59]⟩ (i+1+1) with
   |inl z=>exact bad _ _ _ _ _ (qMl hj) g1
   |inr j=>
    obtain⟨rfl,g2,-⟩:=qHl hok g1 hj
    exact qVx hok hl hN n M _ (i+1+1+1) g2 (by simp only[jC,jD,jF];omega) (by omega) (by omega)
end
end
section
open Go Go.Dc
section
variable {N:Nat} {ts:List Tok} {pr:List ByteArray}
abbrev RD:=List Tok×Int×Int×Int×List ByteArray×List Ex×List Int×List Dl
def addD(st:RT)(l:List Dl):RD:=(st.1,st.2.1,st.2.2.1,st.2.2.2.1,st.2.2.2.2.1,st.2.2.2.2.2.1,st.2.2.2.2.2.2,l)
def relS(ts:List Tok)(r:Flt⊕List Dl)(o:RD):Prop:=
 match r with
 | .inl z=>∃st l,Bad ts z st∧o=addD st l
 | .inr a=>∃pr p,o=addD (gR ts pr p) a
theorem zBd{y5:RT×ByteArray}{o2:RL}{z:Flt}{i:Nat}{pr':List ByteArray}{b:List Ex}(hz:z.2≠0)(M:Nat)(l:List Dl):qAs (qCf N y5 o2) (M+1) (addD (bR ts z i pr' b) l)=some (addD (bR ts z i pr' b) l):=by
 have hz':((addD (bR ts z i pr' b) l).2.2.2.1==0)=false:=by simpa[bR,addD] using hz
 simp only[qAs,qCf,hz',jB,jI,j0]
theorem qYo(hok:OkT ts)(hl:ts.length<1000000)(hN:1000005<N){y5:RT×ByteArray}{o2:RL}:∀(n M:Nat) (l:List Dl) (i:Nat) (pr:List ByteArray) (b:List Ex),i<ts.length→l.length≤64→ts.length<i+n→ts.length+2<i+M→
  ∃o,qAs (qCf N y5 o2) M (addD (gR ts pr (i,b)) l)=some o∧relS ts (qQi ts n l i) o
 |0,M,l,i,_,_,hi,_,h,_=>by omega
 |n+1,0,l,i,_,_,hi,_,_,h=>by omega
 |n+1,M+1,l,i,pr,b,hi,hl64,hn,hM=>by
  have g0:((addD (gR ts pr (i,b)) l).2.2.2.1==0)=true:=rfl
  have e1:∀st:RT,∀l,((addD st l).1,(addD st l).2.1,(addD st l).2.2.1,(addD st l).2.2.2.1,(addD st l).2.2.2.2.1,(addD st l).2.2.2.2.2.1,(addD st l).2.2.2.2.2.2.1)=st:=fun _ _=>rfl
  have e2:∀st:RT,∀l,(addD st l).2.2.2.2.2.2.2=l:=fun _ _=>rfl
  simp only[qAs,qCf,g0,jK,e1,e2,qKa (i,b) hi,j0,Prod.eta,qQi]
  by_cases k1:(tkAt ts i).1=5
  ·have k1':((tkAt ts i).1 !=5)=false:=by simp[k1]
   rw[if_pos k1]
   simp only[k1',jB,jI,j0]
   exact⟨_,rfl,pr,(i,b),rfl⟩
  have k1':((tkAt ts i).1 !=5)=true:=by simp[k1]
  rw[if_neg k1]
  simp only[k1',jK]
  obtain⟨o,ho,hr⟩:=rdecl (N:=N) (pr:=pr) (f:=(y5.2,o2.2.2.2.2.2.2.2,l)) hok hl hN hl64 i b hi
  simp only[ho,j0]
  rw[qDx (by simp only[jD,jF];omega) (by omega)]
  simp only[j0]
  cases hd:qRq ts l i with
  |inl z=>
   rw[show qRq ts (y5.2,o2.2.2.2.2.2.2.2,l).2.2 i=qRq ts l i from rfl,hd] at hr
   obtain⟨hz,j,pr',b',hj,ho1⟩:=hr
   obtain⟨M',rfl⟩:∃M',M=M'+1:=⟨M-1,by omega⟩
   rw[ho1]
   exact⟨_,zBd hz M' _,_,_,⟨hz,j,pr',b',hj,rfl⟩,rfl⟩
  |inr a=>
   rw[show qRq ts (y5.2,o2.2.2.2.2.2.2.2,l).2.2 i=qRq ts l i from rfl,hd] at hr
   obtain⟨g1,g2,g3⟩:=qZy hok hi hd
   have hr':o=(gR ts a.2.2.2.1 (a.1,a.2.2.2.2),a.2):=hr
   rw[hr']
   exact qYo hok hl hN n M (l++[a.2]) a.1 _ _ g2 (by simp only[jC,jD,jF];omega) (by omega) (by omega)
theorem rfile(hok:OkT ts)(hl:ts.length<1000000)(hN:1000005<N):
  ((qBm N (ts,0,0,0,[],[],[]) (⟨#[112,97,99,107,97,103,101]⟩:ByteArray)).bind fun y2=>((if(!y2.2)=true then((qAj N y2.1).bind fun y3=>qAk N y3.1 y3.2.2.2.2 9) else(some y2.1)):Option RT).bind fun o1=>(qBc N o1).bind fun y5=>(qAi N y5.1 (⟨#[59]⟩:ByteArray)).bind fun y6=>(qAs (qBv N y5) N (addL y6 [])).bind fun o2=>(qAs (qCf N y5 o2) N (o2.1,o2.2.1,o2.2.2.1,o2.2.2.2.1,o2.2.2.2.2.1,o2.2.2.2.2.2.1,o2.2.2.2.2.2.2.1,[])).bind fun o7=>if(o7.2.2.2.1 !=0)=true then(some (qXm,o7.2.2.1,o7.2.2.2.1)) else(some (((y5.2,o2.2.2.2.2.2.2.2,o7.2.2.2.2.2.2.2):Sr),(0:Int),(0:Int))))=some (match zDo ts with| .inl z=>(qXm,z.1,z.2)| .inr f=>(f,0,0)):=by
 have h0:0<ts.length:=fN.2 hok.1
 obtain⟨M,hM⟩:∃M,N=M+1:=⟨N-1,by omega⟩
 have e0:((ts,(0:Int),(0:Int),(0:Int),[],[],[]):RT)=gR ts [] (0,[]):=rfl
 -- the loops behind an error
 have badD:∀(y5:RT×ByteArray) (o2:RL) (z:Flt) (st:RT),Bad ts z st→((qAs (qCf N y5 o2) N (addD st [])).bind fun o7=>if(o7.2.2.2.1 !=0)=true then(some (qXm,o7.2.2.1,o7.2.2.2.1)) else(some (((y5.2,o2.2.2.2.2.2.2.2,o7.2.2.2.2.2.2.2):Sr),(0:Int),(0:Int))))=some (qXm,z.1,z.2):=by
  rintro y5 o2 z st ⟨hz,i,pr',b,hi,rfl⟩
  have hb:qAs (qCf N y5 o2) N (addD (bR ts z i pr' b) [])=some (addD (bR ts z i pr' b) []):=by
   have e:qAs (qCf N y5 o2) N (addD (bR ts z i pr' b) [])=qAs (qCf N y5 o2) (M+1) (addD (bR ts z i pr' b) []):=by rw[←hM]
   rw[e];exact zBd hz M []
  have hz':((addD (bR ts z i pr' b) []).2.2.2.1 !=0)=true:=by simpa[bR,addD] using hz
  rw[hb]
  simp only[j0,hz',jK]
  rfl
 have badI:∀(y5:RT×ByteArray) (z:Flt) (i:Nat) (pr':List ByteArray) (b:List Ex),z.2≠0→i<ts.length→((qAs (qBv N y5) N (addL (bR ts z i pr' b) [])).bind fun o2=>(qAs (qCf N y5 o2) N (o2.1,o2.2.1,o2.2.2.1,o2.2.2.2.1,o2.2.2.2.2.1,o2.2.2.2.2.2.1,o2.2.2.2.2.2.2.1,[])).bind fun o7=>if(o7.2.2.2.1 !=0)=true then(some (qXm,o7.2.2.1,o7.2.2.2.1)) else(some (((y5.2,o2.2.2.2.2.2.2.2,o7.2.2.2.2.2.2.2):Sr),(0:Int),(0:Int))))=some (qXm,z.1,z.2):=by
  intro y5 z i pr' b hz hi
  have hb:qAs (qBv N y5) N (addL (bR ts z i pr' b) [])=some (addL (bR ts z i pr' b) []):=by
   have e:qAs (qBv N y5) N (addL (bR ts z i pr' b) [])=qAs (qBv N y5) (M+1) (addL (bR ts z i pr' b) []):=by rw[←hM]
   rw[e];exact qXb hz M []
  rw[hb]
  simp only[j0]
  exact badD y5 (addL (bR ts z i pr' b) []) z (bR ts z i pr' b) ⟨hz,i,pr',b,hi,rfl⟩
 have bad:∀(z:Flt) (i:Nat) (pr':List ByteArray) (b:List Ex),z.2≠0→i<ts.length→((qBc N (bR ts z i pr' b)).bind fun y5=>(qAi N y5.1 (⟨#[59]⟩:ByteArray)).bind fun y6=>(qAs (qBv N y5) N (addL y6 [])).bind fun o2=>(qAs (qCf N y5 o2) N (o2.1,o2.2.1,o2.2.2.1,o2.2.2.2.1,o2.2.2.2.2.1,o2.2.2.2.2.2.1,o2.2.2.2.2.2.2.1,[])).bind fun o7=>if(o7.2.2.2.1 !=0)=true then(some (qXm,o7.2.2.1,o7.2.2.2.1)) else(some (((y5.2,o2.2.2.2.2.2.2.2,o7.2.2.2.2.2.2.2):Sr),(0:Int),(0:Int))))=some (qXm,z.1,z.2):=by
  intro z i pr' b hz hi
  simp only[zDb hz hi,qNg hz hi,j0]
  exact badI _ z i pr' b hz hi
 rw[e0]
 simp only[qMj (0,[]) h0 hl,j0,zDo,zAp,qVs]
 rcases qFt (isC ts 1 ⟨#[112,97,99,107,97,103,101]⟩ 0) with c1|c1
 rotate_left
 ·simp only[c1,jB,jI,kT,jK,qKa (0,[]) h0,qKp,j0,qHh,qBs]
  exact bad _ _ _ _ (show(9:Int)≠0 by decide) h0
 have g1:=qHi hok h0 (by decide) c1
 simp only[c1,jK,kW,jB,jI,j0,qWp (0+1,[]) g1 hl (by omega:100<N),qBs]
 cases h2:qQl ts (0+1) with
 |inl z=>
  have hz:=zCq h2
  simp only[qNg hz g1,j0]
  exact badI _ z _ _ _ hz g1
 |inr x=>
  obtain⟨rfl,g2,-⟩:=qPf hok g1 h2
  simp only[qNw (0+1+1,[]) g2 hl,j0,qUn]
  cases h3:qGg ts ⟨#[59]⟩ (0+1+1) with
  |inl z=>exact badI _ z _ _ _ (qMl h3) g2
  |inr j=>
   obtain⟨rfl,g3,-⟩:=qHl hok g2 h3
   obtain⟨o,ho,hr⟩:=qVx (N:=N) (pr:=[]) (b:=[]) (y5:=(gR ts [] (0+1+1,[]),(tkAt ts (0+1)).2.1)) hok hl hN (ts.length+1) N [] (0+1+1+1) g3 (by simp) (by omega) (by omega)
   simp only[ho,j0]
   cases h4:qLi ts (tkAt ts (0+1)).2.1 (ts.length+1) [] (0+1+1+1) with
   |inl z=>
    rw[show qLi ts ((gR ts [] (0+1+1,[]),(tkAt ts (0+1)).2.1):RT×ByteArray).2 (ts.length+1) [] (0+1+1+1)=qLi ts (tkAt ts (0+1)).2.1 (ts.length+1) [] (0+1+1+1) from rfl,h4] at hr
    obtain⟨st,l,hbad,rfl⟩:=hr
    exact badD _ (addL st l) z st hbad
   |inr y=>
    rw[show qLi ts ((gR ts [] (0+1+1,[]),(tkAt ts (0+1)).2.1):RT×ByteArray).2 (ts.length+1) [] (0+1+1+1)=qLi ts (tkAt ts (0+1)).2.1 (ts.length+1) [] (0+1+1+1) from rfl,h4] at hr
    have hr':o=addL (gR ts [] (y.1,[])) y.2:=hr
    obtain⟨k1,k2,k3⟩:=qTa hok _ _ _ y g3 (by simp) h4
    obtain⟨o2,ho2,hr2⟩:=qYo (N:=N) (y5:=(gR ts [] (0+1+1,[]),(tkAt ts (0+1)).2.1)) (o2:=o) hok hl hN (ts.length+1) N [] y.1 [] [] k2 (by simp) (by omega) (by omega)
    have e3:(o.1,o.2.1,o.2.2.1,o.2.2.2.1,o.2.2.2.2.1,o.2.2.2.2.2.1,o.2.2.2.2.2.2.1,([]:List Dl))=addD (gR ts [] (y.1,[])) []:=by rw[hr'];rfl
    rw[e3,ho2]
    simp only[j0]
    cases h5:qQi ts (ts.length+1) [] y.1 with
    |inl z=>
     rw[h5] at hr2
     obtain⟨st,l,⟨hz,i,pr',b,hi,rfl⟩,rfl⟩:=hr2
     have hz':((addD (bR ts z i pr' b) l).2.2.2.1 !=0)=true:=by simpa[bR,addD] using hz
     simp only[hz',jK]
     rfl
    |inr l=>
     rw[h5] at hr2
     obtain⟨pr',p',rfl⟩:=hr2
     have hz':((addD (gR ts pr' p') l).2.2.2.1 !=0)=false:=rfl
     simp only[hz',jB,jI]
     rw[hr']
     rfl
end
theorem zAe{N:Nat}(s:ByteArray)(hN:1000005<N):qGi N s=some (qZt s):=by
 simp only[qGi,zFa (N:=N) (by omega),j0,qZt]
 by_cases h:(qKd s).2.2=0
 ·rw[if_neg (show ¬((qKd s).2.2 !=0)=true by simpa using h),if_neg (show ¬(qKd s).2.2≠0 by simpa using h)]
  obtain⟨h1,h2,h3⟩:=zCa h
  have hf:=rfile (N:=N) h1 (by omega) hN
  refine Eq.trans ?_ (Eq.trans hf ?_)
  ·simp only[Prod.eta,obs];rfl
  ·cases zDo (qKd s).1<;>rfl
 ·rw[if_pos (show((qKd s).2.2 !=0)=true by simpa using h),if_pos h];rfl
end
section
open Go Go.Dc
abbrev Hd:=Int×Int×Int×ByteArray
inductive Rose where
 |mk (h:Hd) (ks:List Rose)
def Rose.hd:Rose→Hd
 | .mk h _=>h
def Rose.ks:Rose→List Rose
 | .mk _ ks=>ks
mutual
def Rose.size:Rose→Nat
 | .mk _ ks=>qBo ks+1
def qBo:List Rose→Nat
 |[]=>0
 |t::l=>t.size+qBo l
end
def qDk:Nat→List Rose→List Int
 |_,[]=>[]
 |b,t::l=>((b+t.size-1:Nat):Int)::qDk (b+t.size) l
def qLf(h:Hd)(args:List Int):Ex:=(h.1,h.2.1,h.2.2.1,h.2.2.2,args)
mutual
def Rose.flat(b:Nat):Rose→List Ex
 | .mk h ks=>qFm b ks++[qLf h (qDk b ks)]
def qFm(b:Nat):List Rose→List Ex
 |[]=>[]
 |t::l=>t.flat b++qFm (b+t.size) l
end
theorem Rose.pos(t:Rose):0<t.size:=by cases t;unfold Rose.size;omega
mutual
theorem qDc(t:Rose)(b:Nat):(t.flat b).length=t.size:=by
 match t with
 | .mk h ks=>unfold Rose.flat Rose.size;rw[jC,qJc ks b];rfl
theorem qJc(l:List Rose)(b:Nat):(qFm b l).length=qBo l:=by
 match l with
 |[]=>rfl
 |t::l=>unfold qFm qBo;rw[jC,qDc t b,qJc l (b+t.size)]
end
theorem qJh:∀(l:List Rose) (b:Nat),(qDk b l).length=l.length
 |[],_=>rfl
 |t::l,b=>by simp only[qDk,jD,qJh l]
theorem qMu:∀(l k:List Rose),qBo (l++k)=qBo l+qBo k
 |[],k=>by rw[jO,show qBo []=0 from rfl,kE]
 |t::l,k=>by
  have ih:=qMu l k
  rw[jQ,show qBo (t::(l++k))=t.size+qBo (l++k) from rfl,show qBo (t::l)=t.size+qBo l from rfl];omega
theorem qTb:∀(l k:List Rose) (b:Nat),qDk b (l++k)=qDk b l++qDk (b+qBo l) k
 |[],k,b=>by simp[qDk,qBo]
 |t::l,k,b=>by
  rw[jQ]
  simp only[qDk,qBo,qTb l k,jQ]
  rw[gS]
theorem qQz:∀(l k:List Rose) (b:Nat),qFm b (l++k)=qFm b l++qFm (b+qBo l) k
 |[],k,b=>by simp[qFm,qBo]
 |t::l,k,b=>by
  rw[jQ]
  simp only[qFm,qBo,qQz l k,jE]
  rw[gS]
theorem qTg:∀l:List Rose,l.length≤qBo l
 |[]=>kO _
 |t::l=>by
  have:=qTg l
  have:=t.pos
  simp only[qBo,jD];omega
def ordS:List Ex→Nat→List Int→Option (List Int)
 |[],_,st=>some st
 |x::l,i,st=>if x.2.2.2.2.length≤st.length∧st.drop (st.length-x.2.2.2.2.length)=x.2.2.2.2 then ordS l (i+1) (st.take (st.length-x.2.2.2.2.length)++[(i:Int)]) else none
theorem qZa{fs:List Rose}{h:Hd}{args:List Int}{m:Nat}(h1:args.length≤fs.length)(hm:fs.length-args.length=m)(h2:(qDk 0 fs).drop m=args):
  qBo (fs.take m++[Rose.mk h (fs.drop m)])=qBo fs+1∧qDk 0 (fs.take m++[Rose.mk h (fs.drop m)])=(qDk 0 fs).take m++[((qBo fs:Nat):Int)]∧qFm 0 (fs.take m++[Rose.mk h (fs.drop m)])=qFm 0 fs++[qLf h args]:=by
 have hfs:fs=fs.take m++fs.drop m:=(gK m fs).symm
 have hml:(fs.take m).length=m:=by rw[k0];omega
 have hr:qDk 0 fs=qDk 0 (fs.take m)++qDk (qBo (fs.take m)) (fs.drop m):=by
  conv=>lhs;rw[hfs]
  rw[qTb,kE]
 have hf:qFm 0 fs=qFm 0 (fs.take m)++qFm (qBo (fs.take m)) (fs.drop m):=by
  conv=>lhs;rw[hfs]
  rw[qQz,kE]
 have hs:qBo fs=qBo (fs.take m)+qBo (fs.drop m):=by
  conv=>lhs;rw[hfs]
  rw[qMu]
 have hl1:(qDk 0 (fs.take m)).length=m:=by rw[qJh,hml]
 have ha:args=qDk (qBo (fs.take m)) (fs.drop m):=by
  rw[←h2,hr,gI (by omega),jT (by omega),jO]
 have ht:(qDk 0 fs).take m=qDk 0 (fs.take m):=by
  rw[hr,kV (by omega),gW (by omega)]
 rw[ht]
 refine⟨?_,?_,?_⟩
 ·rw[qMu,hs];simp only[qBo,Rose.size];omega
 ·rw[qTb,kE]
  simp only[qDk,Rose.size]
  rw[hs,show qBo (fs.take m)+(qBo (fs.drop m)+1)-1=qBo (fs.take m)+qBo (fs.drop m) by omega]
 ·rw[qQz,kE,hf,jE]
  simp only[qFm,Rose.flat,jY,←ha]
theorem qZr(x:Ex)(l:List Ex)(i:Nat)(st a:List Int)(h:x.2.2.2.2=a):ordS (x::l) i st=if a.length≤st.length∧st.drop (st.length-a.length)=a then ordS l (i+1) (st.take (st.length-a.length)++[(i:Int)]) else none:=by
 subst h;rfl
def AtT(l:List Ex)(b:Nat)(t:Rose):Prop:=∃p q,l=p++t.flat b++q∧p.length=b
def AtTs(l:List Ex)(b:Nat)(ts:List Rose):Prop:=∃p q,l=p++qFm b ts++q∧p.length=b
theorem AtT.whole(t:Rose):AtT (t.flat 0) 0 t:=⟨[],[],by simp,rfl⟩
theorem AtT.args{l:List Ex}{b:Nat}{h:Hd}{ks:List Rose}(g:AtT l b (.mk h ks)):l[b+qBo ks]? =some (qLf h (qDk b ks))∧AtTs l b ks:=by
 obtain⟨p,q,rfl,rfl⟩:=g
 unfold Rose.flat
 constructor
 ·rw[jE,List.getElem?_append_right (by omega),jE,List.getElem?_append_right (by rw[qJc];omega),qJc]
  rw[show p.length+qBo ks-p.length-qBo ks=0 by omega]
  rfl
 ·exact⟨p,[qLf h (qDk p.length ks)]++q,by simp only[jE],rfl⟩
theorem AtTs.head{l:List Ex}{b:Nat}{t:Rose}{ts:List Rose}(g:AtTs l b (t::ts)):AtT l b t∧AtTs l (b+t.size) ts:=by
 obtain⟨p,q,rfl,rfl⟩:=g
 unfold qFm
 exact⟨⟨p,qFm (p.length+t.size) ts++q,by simp only[jE],rfl⟩,⟨p++t.flat p.length,q,by simp only[jE],by rw[jC,qDc]⟩⟩
theorem AtT.le{l:List Ex}{b:Nat}{t:Rose}(g:AtT l b t):b+t.size≤l.length:=by
 obtain⟨p,q,rfl,rfl⟩:=g
 rw[jC,jC,qDc];omega
end
section
open Go Go.Dc
def qDf(s:ByteArray):Bool:=qOi s&& !resC s
theorem qVl{N:Nat}{s:ByteArray}(hN:100<N):qIv N s=some (qDf s):=by
 simp only[qIv,zNm hN,zHk,j0]
 unfold qDf
 cases qOi s<;>rfl
def emB:ByteArray:=⟨#[]⟩
theorem zTp(a b:Bool):(if a=true then some b else some false:Option Bool)=some (a&&b):=by cases a<;>rfl
theorem eqE(s:ByteArray):(s.toList==(⟨#[]⟩:ByteArray).toList)=decide (s=emB):=qDz _ _
def argN(x:Ex):Int:=(x.2.2.2.2.length:Int)
def qMb(np:Int)(x:Ex):Bool:=
 if x.1=1 then decide (x.2.2.2.1=emB)&&(x.2.2.1==0&&(argN x==0&&(decide (x.2.1≥-9007199254740992)&&decide (x.2.1≤9007199254740992))))
 else if x.1=2 then decide (x.2.2.2.1=emB)&&(x.2.2.1==0&&(argN x==0&&(decide (x.2.1≥0)&&decide (x.2.1<np))))
 else if x.1=3 then x.2.1==0&&(x.2.2.1==0&&qDf x.2.2.2.1)
 else if x.1=4 then x.2.1==0&&(decide (x.2.2.2.1=emB)&&(argN x==2&&(decide (x.2.2.1≥1)&&decide (x.2.2.1≤7))))
 else if x.1=5 then x.2.1==0&&(decide (x.2.2.2.1=emB)&&(x.2.2.1==0&&argN x==3))
 else if x.1=6 then x.2.1==0&&(x.2.2.1==0&&(argN x==1&&qMc x.2.2.2.1.data.toList))
 else if x.1=7∨x.1=8 then x.2.1==0&&(x.2.2.1==0&&(argN x==0&&qMc x.2.2.2.1.data.toList))
 else if x.1=9 then x.2.1==0&&(x.2.2.1==0&&(argN x==0&&qOi x.2.2.2.1))
 else if x.1=10 then decide (x.2.2.2.1=emB)&&(x.2.2.1==0&&(argN x==0&&(decide (x.2.1≥0)&&decide (x.2.1<64))))
 else false
theorem zVo{N:Nat}{np:Int}{x:Ex}(hx:x.2.2.2.1.size≤1048576)(hN:3000000<N):qOa N x np=some (qMb np x):=by
 simp only[qOa,eqE,zOe (s:=x.2.2.2.1) (N:=N) (by omega) (by omega),zNm (s:=x.2.2.2.1) (show 100<N by omega),qVl (s:=x.2.2.2.1) (show 100<N by omega),j0,zTp]
 unfold qMb argN
 by_cases h1:x.1=1
 ·simp[h1]
 by_cases h2:x.1=2
 ·simp[h2]
 by_cases h3:x.1=3
 ·simp[h3]
 by_cases h4:x.1=4
 ·simp[h4]
 by_cases h5:x.1=5
 ·simp[h5]
 by_cases h6:x.1=6
 ·simp[h6]
 by_cases h7:x.1=7
 ·simp[h7]
 by_cases h8:x.1=8
 ·simp[h8]
 by_cases h9:x.1=9
 ·simp[h9]
 by_cases h10:x.1=10
 ·simp[h10]
 simp[h1,h2,h3,h4,h5,h6,h7,h8,h9,h10]
def StOk(st:List Int):Nat→List Rose→Prop
 |_,[]=>True
 |b,t::l=>st[b+t.size-1]? =some (b:Int)∧StOk st (b+t.size) l
theorem StOk.app{st:List Int}:∀{l k:List Rose} {b:Nat},StOk st b (l++k)↔StOk st b l∧StOk st (b+qBo l) k
 |[],k,b=>by simp[StOk,qBo]
 |t::l,k,b=>by
  rw[jQ]
  simp only[StOk,qBo,StOk.app (l:=l)]
  rw[and_assoc,gS]
theorem StOk.set{st:List Int}{i:Nat}{v:Int}:∀{l:List Rose} {b:Nat},StOk st b l→b+qBo l≤i→StOk (st.set i v) b l
 |[],_,_,_=>trivial
 |t::l,b,h,hi=>by
  have hp:=t.pos
  simp only[qBo] at hi
  exact⟨by rw[List.getElem?_set_ne (by omega)];exact h.1,h.2.set (by omega)⟩
theorem qWs{α:Type}{l:List α}{i:Nat}{v:α}(h:l[i]? =some v):idx l (i:Int)=some v:=by
 have hi:i<l.length:=by
  by_cases hl:i<l.length
  ·exact hl
  ·rw[List.getElem?_eq_none (by omega)] at h;cases h
 rw[qCo hi]
 rw[List.getElem?_eq_getElem hi] at h
 exact h
theorem zKf{st:List Int}{i:Nat}{v:Int}(h:st[i]? =some v):st.set i v=st:=by
 refine fA fun j=> ?_
 rw[List.getElem?_set]
 by_cases e:i=j
 ·subst e
  have hi:i<st.length:=by
   by_cases hl:i<st.length
   ·exact hl
   ·rw[List.getElem?_eq_none (by omega)] at h;cases h
  rw[if_pos rfl,if_pos hi,h]
 ·rw[if_neg e]
theorem zPu{N i:Nat}{x:Ex}{so:List Int}:∀(k M:Nat) (pre:List Rose) (st:List Int),k≤x.2.2.2.2.length→k<M→StOk st 0 pre→st[i]? =some ((qBo pre:Nat):Int)→qBo pre≤i→i<2000000→k<2000000→
  qAs (qIf N ((i:Int),so) x) M ((k:Int)-1,st)=some (if k≤pre.length∧(qDk 0 pre).drop (pre.length-k)=x.2.2.2.2.take k then .inl (st.set i ((qBo (pre.take (pre.length-k)):Nat):Int)) else .inr false)
 |_,0,_,_,_,h,_,_,_,_,_=>absurd h (kL _)
 |0,M+1,pre,st,_,_,_,hi,_,_,_=>by
  simp only[qAs,qIf]
  rw[if_neg (by simp),if_pos ⟨kO _,by rw[Nat.sub_zero,List.drop_of_length_le (by rw[qJh];exact jP _),List.take_zero]⟩]
  rw[Nat.sub_zero,gO,zKf hi]
  rfl
 |k+1,M+1,pre,st,hk,hM,hs,hi,hle,hb,hkb=>by
  have hkl:k<x.2.2.2.2.length:=by omega
  have ek:((k+1:Nat):Int)-1=(k:Int):=by omega
  have wk:IntKind.wrap .i64 ((k:Int)-1)=(k:Int)-1:=by rw[wi64 (by omega) (by omega)]
  simp only[qAs,qIf]
  rw[ek,if_pos (by simp),qCo hkl,qWs hi]
  simp only[j0]
  have wc:IntKind.wrap .i64 (((qBo pre:Nat):Int)-1)=((qBo pre:Nat):Int)-1:=by rw[wi64 (by omega) (by omega)]
  rw[wc]
  have ht:x.2.2.2.2.take (k+1)=x.2.2.2.2.take k++[x.2.2.2.2[k]]:=qRc hkl
  rcases fW pre with rfl|⟨pre',t,rfl⟩
  ·have hneg:¬(k+1≤([]:List Rose).length∧(qDk 0 []).drop (([]:List Rose).length-(k+1))=x.2.2.2.2.take (k+1)):=by
    rintro⟨h,-⟩
    exact absurd h (by simp)
   rw[if_neg hneg]
   by_cases h1:x.2.2.2.2[k]=((qBo []:Nat):Int)-1
   ·have h2:x.2.2.2.2[k]<0:=by rw[h1];simp[qBo]
    rw[if_neg (by simpa using h1)]
    simp only[j0,jZ h2,jK]
   ·rw[if_pos (by simpa using h1)]
    rfl
  ·rw[List.concat_eq_append] at hs hi hle ⊢
   have hsz:qBo (pre'++[t])=qBo pre'+t.size:=by rw[qMu];simp[qBo]
   have hp:=t.pos
   obtain⟨hs1,hs2,-⟩:=StOk.app.1 hs
   rw[kE] at hs2
   have hr:qDk 0 (pre'++[t])=qDk 0 pre'++[((qBo pre'+t.size-1:Nat):Int)]:=by
    rw[qTb,kE];rfl
   have hd:k≤pre'.length→(qDk 0 (pre'++[t])).drop ((pre'++[t]).length-(k+1))=(qDk 0 pre').drop (pre'.length-k)++[((qBo pre'+t.size-1:Nat):Int)]:=fun h=>by
    rw[hr,jC,gZ,show pre'.length+1-(k+1)=pre'.length-k by omega,gI (by rw[qJh];omega)]
   rw[hsz] at hi hle ⊢
   by_cases h1:x.2.2.2.2[k]=((qBo pre'+t.size:Nat):Int)-1
   ·have h2:decide (x.2.2.2.2[k]<0)=false:=jU (by omega)
    have h3:x.2.2.2.2[k]=((qBo pre'+t.size-1:Nat):Int):=by omega
    rw[if_neg (by simpa using h1)]
    simp only[j0,h2,jB,jI]
    rw[h3,qWs hs2]
    simp only[j0,jR,wk]
    have hil:i<st.length:=by
     by_cases hl:i<st.length
     ·exact hl
     ·rw[List.getElem?_eq_none (by omega)] at hi;cases hi
    rw[zPu k M pre' _ (by omega) (by omega) (hs1.set (by omega)) (by rw[List.getElem?_set_self hil]) (by omega) hb (by omega),List.set_set]
    congr 1
    by_cases hc:k≤pre'.length∧(qDk 0 pre').drop (pre'.length-k)=x.2.2.2.2.take k
    ·rw[if_pos hc,if_pos ⟨by simp only[jC,gZ];omega,by rw[hd hc.1,ht,hc.2,h3]⟩]
     rw[jC,gZ,show pre'.length+1-(k+1)=pre'.length-k by omega,kV (by omega)]
    ·rw[if_neg hc,if_neg]
     rintro⟨g1,g2⟩
     simp only[jC,gZ] at g1
     rw[hd (by omega),ht] at g2
     exact hc ⟨by omega,(List.append_inj' g2 rfl).1⟩
   ·rw[if_pos (by simpa using h1),if_neg]
    ·rfl
    ·rintro⟨g1,g2⟩
     simp only[jC,gZ] at g1
     rw[hd (by omega),ht] at g2
     have:=(List.append_inj' g2 rfl).2
     simp only[gA,and_true] at this
     exact h1 (by omega)
theorem zPr{N:Nat}{d:Dl}(hlen:d.2.2.2.length<2000000)(hnm:∀x∈d.2.2.2,x.2.2.2.1.size≤1048576∧x.2.2.2.2.length<2000000)(hN:3000000<N):∀(M:Nat) (fs:List Rose) (st:List Int),qFm 0 fs=d.2.2.2.take (qBo fs)→qBo fs≤d.2.2.2.length→st.length=d.2.2.2.length→StOk st 0 fs→d.2.2.2.length-qBo fs<M→
  ∃out,qAs (qFw N d) M (((qBo fs:Nat):Int),st)=some out∧(match out with
   | .inl st'=>(∀x∈d.2.2.2.drop (qBo fs),qMb (d.2.2.1.length:Int) x=true)∧∃fs',ordS (d.2.2.2.drop (qBo fs)) (qBo fs) (qDk 0 fs)=some (qDk 0 fs')∧StOk st' 0 fs'∧st'.length=d.2.2.2.length∧qBo fs'=d.2.2.2.length
   | .inr b=>b=false∧¬((∀x∈d.2.2.2.drop (qBo fs),qMb (d.2.2.1.length:Int) x=true)∧∃r,ordS (d.2.2.2.drop (qBo fs)) (qBo fs) (qDk 0 fs)=some r))
 |0,_,_,_,_,_,_,h=>absurd h (kL _)
 |M+1,fs,st,hf,hle,hst,hs,hM=>by
  by_cases hi:qBo fs<d.2.2.2.length
  ·have hdr:d.2.2.2.drop (qBo fs)=d.2.2.2[qBo fs]::d.2.2.2.drop (qBo fs+1):=qKx hi
   obtain⟨n1,n2⟩:=hnm _ (k9 hi)
   rw[hdr]
   generalize hx:d.2.2.2[qBo fs]=x at n1 n2
   have wi:IntKind.wrap .i64 (((qBo fs:Nat):Int)+1)=((qBo fs+1:Nat):Int):=by rw[wi64 (by omega) (by omega)];omega
   have wl:IntKind.wrap .i64 ((x.2.2.2.2.length:Int)-1)=(x.2.2.2.2.length:Int)-1:=by rw[wi64 (by omega) (by omega)]
   have hil:qBo fs<st.length:=by omega
   have e1:(qFw N d (((qBo fs:Nat):Int),st))=if qMb (d.2.2.1.length:Int) x=true then(if x.2.2.2.2.length≤fs.length∧(qDk 0 fs).drop (fs.length-x.2.2.2.2.length)=x.2.2.2.2 then some (.inl (((qBo fs+1:Nat):Int),(st.set (qBo fs) ((qBo fs:Nat):Int)).set (qBo fs) ((qBo (fs.take (fs.length-x.2.2.2.2.length)):Nat):Int))) else some (.inr (.inr false))) else some (.inr (.inr false)):=by
    simp only[qFw]
    rw[if_pos (by simp only[jA];omega),qCo hi]
    simp only[j0,hx]
    rw[show qOa N (x.1,x.2.1,x.2.2.1,x.2.2.2.1,x.2.2.2.2) (d.2.2.1.length:Int)=_ from zVo n1 hN]
    simp only[j0]
    by_cases hn:qMb (d.2.2.1.length:Int) x=true
    ·rw[if_pos hn,hn,if_neg (by decide),qCo hil]
     simp only[j0,jR,wi,wl]
     have h3:=zPu (N:=N) (i:=qBo fs) (x:=x) (so:=st) x.2.2.2.2.length N fs (st.set (qBo fs) ((qBo fs:Nat):Int)) (jP _) (by omega) (hs.set (by omega)) (List.getElem?_set_self hil) (jP _) (by omega) n2
     rw[gO] at h3
     rw[h3]
     simp only[j0]
     by_cases hc:x.2.2.2.2.length≤fs.length∧(qDk 0 fs).drop (fs.length-x.2.2.2.2.length)=x.2.2.2.2
     ·rw[if_pos hc,if_pos hc]
     ·rw[if_neg hc,if_neg hc]
    ·rw[if_neg hn,show qMb (d.2.2.1.length:Int) x=false by simpa using hn]
     rfl
   simp only[qAs,e1]
   by_cases hn:qMb (d.2.2.1.length:Int) x=true
   ·rw[if_pos hn]
    by_cases hc:x.2.2.2.2.length≤fs.length∧(qDk 0 fs).drop (fs.length-x.2.2.2.2.length)=x.2.2.2.2
    ·rw[if_pos hc]
     simp only[j0]
     obtain⟨g1,g2,g3⟩:=qZa (h:=(x.1,x.2.1,x.2.2.1,x.2.2.2.1)) hc.1 rfl hc.2
     have hx':qLf (x.1,x.2.1,x.2.2.1,x.2.2.2.1) x.2.2.2.2=x:=rfl
     rw[hx'] at g3
     rw[List.set_set]
     have hst2:StOk (st.set (qBo fs) ((qBo (fs.take (fs.length-x.2.2.2.2.length)):Nat):Int)) 0 (fs.take (fs.length-x.2.2.2.2.length)++[Rose.mk (x.1,x.2.1,x.2.2.1,x.2.2.2.1) (fs.drop (fs.length-x.2.2.2.2.length))]):=by
      refine StOk.app.2 ⟨?_,?_,trivial⟩
      ·have h0:=hs
       rw[←gK (fs.length-x.2.2.2.2.length) fs] at h0
       refine(StOk.app.1 h0).1.set ?_
       have:=qMu (fs.take (fs.length-x.2.2.2.2.length)) (fs.drop (fs.length-x.2.2.2.2.length))
       rw[gK] at this
       omega
      ·have:=qMu (fs.take (fs.length-x.2.2.2.2.length)) (fs.drop (fs.length-x.2.2.2.2.length))
       rw[gK] at this
       rw[kE,show qBo (fs.take (fs.length-x.2.2.2.2.length))+(Rose.mk (x.1,x.2.1,x.2.2.1,x.2.2.2.1) (fs.drop (fs.length-x.2.2.2.2.length))).size-1=qBo fs by simp only[Rose.size];omega]
       exact List.getElem?_set_self hil
     have ht:d.2.2.2.take (qBo fs+1)=d.2.2.2.take (qBo fs)++[x]:=by rw[qRc hi,hx]
     obtain⟨out,o1,o2⟩:=zPr hlen hnm hN M _ (st.set (qBo fs) ((qBo (fs.take (fs.length-x.2.2.2.2.length)):Nat):Int)) (by rw[g3,g1,ht,hf]) (by rw[g1];omega) (by rw[gH];exact hst) hst2 (by rw[g1];omega)
     rw[g1] at o1 o2
     refine⟨out,o1,?_⟩
     have hord:ordS (x::d.2.2.2.drop (qBo fs+1)) (qBo fs) (qDk 0 fs)=ordS (d.2.2.2.drop (qBo fs+1)) (qBo fs+1) (qDk 0 (fs.take (fs.length-x.2.2.2.2.length)++[Rose.mk (x.1,x.2.1,x.2.2.1,x.2.2.2.1) (fs.drop (fs.length-x.2.2.2.2.length))])):=by
      rw[qZr x _ _ _ x.2.2.2.2 rfl,qJh,if_pos hc,g2]
     rw[hord]
     cases out with
     |inl st'=>exact⟨fun y hy=>(jN.1 hy).elim (fun e=>e▸hn) (o2.1 y),o2.2⟩
     |inr b=>exact⟨o2.1,fun h=>o2.2 ⟨fun y hy=>h.1 y (jM _ hy),h.2⟩⟩
    ·rw[if_neg hc]
     refine⟨_,rfl,rfl,?_⟩
     rintro⟨-,r,hr⟩
     rw[qZr x _ _ _ x.2.2.2.2 rfl,qJh,if_neg hc] at hr
     cases hr
   ·rw[if_neg hn]
    exact⟨_,rfl,rfl,fun h=>hn (h.1 x (jH ..))⟩
  ·have he:qBo fs=d.2.2.2.length:=by omega
   have hd:d.2.2.2.drop (qBo fs)=[]:=jT (by omega)
   have e1:(qFw N d (((qBo fs:Nat):Int),st))=some (.inr (.inl st)):=by
    simp only[qFw]
    rw[if_neg (by simp only[jA];omega)]
   simp only[qAs,e1,j0]
   refine⟨.inl st,rfl,?_⟩
   dsimp only
   rw[hd]
   exact⟨fun x hx=>(by cases hx),fs,rfl,hs,hst,he⟩
end
section
open Go Go.Dc
def oneP:Option (List Int)→Bool
 |some [_]=>true
 |_=>false
def zFx(d:Dl):Bool:=d.2.2.2.all (qMb (d.2.2.1.length:Int))&&oneP (ordS d.2.2.2 0 [])
def zDl(d:Dl):Bool:=if d.1=1∨d.1=2 then qDf d.2.1 else if d.1=3 then qMc d.2.1.data.toList else false
def zEt(d:Dl):Bool:=d.2.2.1.all fun s=>d.1==1&&qDf s
def qGr(d:Dl):Bool:=zDl d&&(zEt d&&zFx d)
def SmD(d:Dl):Prop:=d.2.1.size≤1048576∧d.2.2.1.length<2000000∧d.2.2.2.length<2000000∧∀x∈d.2.2.2,x.2.2.2.1.size≤1048576∧x.2.2.2.2.length<2000000
theorem zQe{N:Nat}{d:Dl}(hd:SmD d)(hN:3000000<N):qAs (qHc N d) N 0=some (if zEt d=true then .inl () else .inr false):=by
 obtain⟨-,h1,-,-⟩:=hd
 have h:=qGm (L:=d.2.2.1) (fun(_:Unit) (i:Nat)=>(i:Int)) (f:=qHc N d)
  (fun _ s=>if(!(d.1==1&&qDf s))=true then .inr (.inr false) else .inl ()) (fun _=>(.inl ():Unit⊕Bool)) (fun _ _=>True) (by
   intro t i hi _
   simp only[qHc]
   rw[if_pos (by simp only[jA];omega),qCo hi]
   have ew:IntKind.wrap .i64 ((i:Int)+1)=((i+1:Nat):Int):=by rw[wi64 (by omega) (by omega)];omega
   simp only[j0,qVl (s:=d.2.2.1[i]) (show 100<N by omega),ew]
   by_cases hk:d.1=1
   ·have e1:(d.1 !=1)=false:=by simp[hk]
    have e2:(d.1==1)=true:=by simp[hk]
    simp only[e1,e2,jB,jI,j0,gC]
    cases qDf d.2.2.1[i]<;>rfl
   ·have e1:(d.1 !=1)=true:=by simp[hk]
    have e2:(d.1==1)=false:=by simp[hk]
    simp only[e1,e2,jK,j0,Bool.false_and,kT]) (fun _ _ _ _ _ _=>trivial) (by
   intro t _
   simp only[qHc]
   rw[if_neg (by simp)]) (M:=N) (t:=()) (by omega) trivial
 rw[show((0:Nat):Int)=0 from rfl] at h
 rw[h,qQx (b:=(.inr false:Unit⊕Bool)) (fun s=> !(d.1==1&&qDf s)) (fun x=>rfl)]
 unfold zEt
 rw[gM]
 cases(d.2.2.1.any fun s=> !(d.1==1&&qDf s))<;>rfl
theorem zHj{N:Nat}{d:Dl}(hd:SmD d)(hN:3000000<N):qKe N d=some (qGr d):=by
 obtain⟨hn1,h1,h2,h3⟩:=id hd
 unfold qKe
 have hhead:((if(d.1==1)=true then(some (d.1==1)) else(some (d.1==2)):Option (Bool)).bind fun o2=>if o2=true then((qIv N d.2.1).bind fun y1=>if(!y1)=true then(some (.inr false)) else(some (.inl ()))) else(if(d.1==3)=true then((qMm N d.2.1).bind fun y2=>if(!y2)=true then(some (.inr false)) else(some (.inl ()))) else(some (.inr false))):Option ((Unit)⊕(Bool)))=some (if zDl d=true then .inl () else .inr false):=by
  simp only[qVl (s:=d.2.1) (show 100<N by omega),zOe (s:=d.2.1) (N:=N) (by omega) (by omega),j0]
  unfold zDl
  by_cases k1:d.1=1
  ·simp only[k1,gD,jK,j0,true_or]
   cases qDf d.2.1<;>rfl
  have e1:(d.1==1)=false:=by simpa using k1
  by_cases k2:d.1=2
  ·simp only[e1,k2,gD,jB,jI,jK,j0,or_true]
   cases qDf d.2.1<;>rfl
  have e2:(d.1==2)=false:=by simpa using k2
  by_cases k3:d.1=3
  ·have e3:(d.1==3)=true:=by simpa using k3
   rw[if_neg (show ¬(d.1=1∨d.1=2) by omega),if_pos k3]
   simp only[e1,e2,e3,jB,jI,jK,j0]
   cases qMc d.2.1.data.toList<;>rfl
  ·have e3:(d.1==3)=false:=by simpa using k3
   rw[if_neg (show ¬(d.1=1∨d.1=2) by omega),if_neg k3]
   simp only[e1,e2,e3,jB,jI,j0]
 rw[hhead]
 simp only[j0]
 unfold qGr
 by_cases hh:zDl d=true
 ·rw[if_pos hh,hh,gC]
  simp only[zQe hd hN,j0]
  by_cases hp:zEt d=true
  ·rw[if_pos hp,hp,gC]
   have hmx:(maxLen:Int)=9223372036854775807:=rfl
   have hmk:qWf 8 (0:Int) (d.2.2.2.length:Int)=some (List.replicate d.2.2.2.length 0):=by
    unfold qWf;rw[if_pos (by omega),jR]
   simp only[hmk,j0]
   obtain⟨out,o1,o2⟩:=zPr (N:=N) h2 h3 hN N [] (List.replicate d.2.2.2.length 0) (by simp[qFm,qBo]) (kO _) (by simp) trivial (by omega)
   have e0:((qBo []:Nat):Int)=0:=rfl
   rw[e0] at o1
   rw[o1]
   simp only[j0]
   rw[show qBo []=0 from rfl,jX] at o2
   cases out with
   |inr b=>
    obtain⟨rfl,hno⟩:=o2
    dsimp only
    congr 1
    unfold zFx
    cases ha:d.2.2.2.all (qMb (d.2.2.1.length:Int)) with
    |false=>rfl
    |true=>
     rw[gC]
     cases ho:ordS d.2.2.2 0 [] with
     |none=>rfl
     |some r=>exact absurd ⟨kA.1 ha,r,ho⟩ hno
   |inl st=>
    obtain⟨ha,fs,ho,hs,hl,hz⟩:=o2
    dsimp only
    have ha':d.2.2.2.all (qMb (d.2.2.1.length:Int))=true:=kA.2 ha
    have ho':ordS d.2.2.2 0 []=some (qDk 0 fs):=ho
    unfold zFx
    rw[ha',ho',gC]
    rcases fW fs with rfl|⟨pre,t,rfl⟩
    ·have hz0:d.2.2.2.length=0:=by rw[←hz];rfl
     rw[if_neg (by simp[hz0])]
     rfl
    ·rw[List.concat_eq_append] at*
     have hsz:qBo (pre++[t])=qBo pre+t.size:=by rw[qMu];simp[qBo]
     have hp:=t.pos
     obtain⟨-,hs2,-⟩:=StOk.app.1 hs
     rw[kE] at hs2
     have w:IntKind.wrap .i64 ((d.2.2.2.length:Int)-1)=((qBo pre+t.size-1:Nat):Int):=by rw[wi64 (by omega) (by omega)];omega
     rw[if_pos (by simp only[jA];omega),w,qWs hs2]
     simp only[j0]
     congr 1
     rw[qTb,kE]
     cases pre with
     |nil=>rfl
     |cons u pre=>
      have hu:=u.pos
      have e1:((((qBo (u::pre):Nat)):Int)==0)=false:=by
       simp only[qBo,beq_eq_false_iff_ne];omega
      rw[e1]
      cases pre<;>rfl
  ·rw[if_neg hp,show zEt d=false by simpa using hp]
   rfl
 ·rw[if_neg hh,show zDl d=false by simpa using hh]
  rfl
def SmSr(f:Sr):Prop:=f.2.1.length<2000000∧f.2.2.length<2000000∧∀d∈f.2.2,SmD d
def synP(f:Sr):Bool:=qDf f.1&&(f.2.1.all qDf&&f.2.2.all qGr)
theorem zPp{N:Nat}{f:Sr}(hf:SmSr f)(hN:3000000<N):qLs N f=some (synP f):=by
 obtain⟨h1,h2,h3⟩:=hf
 unfold qLs
 rw[qVl (by omega)]
 simp only[j0]
 unfold synP
 by_cases hn:qDf f.1=true
 ·rw[hn,if_neg (by decide),gC]
  have i1:=qGm (L:=f.2.1) (fun(_:Unit) (i:Nat)=>(i:Int)) (f:=qJn N f)
   (fun _ s=>if(!qDf s)=true then .inr (.inr false) else .inl ()) (fun _=>(.inl ():Unit⊕Bool)) (fun _ _=>True) (by
    intro t i hi _
    simp only[qJn]
    rw[if_pos (by simp only[jA];omega),qCo hi]
    have ew:IntKind.wrap .i64 ((i:Int)+1)=((i+1:Nat):Int):=by rw[wi64 (by omega) (by omega)];omega
    simp only[j0,qVl (s:=f.2.1[i]) (show 100<N by omega),ew]
    cases qDf f.2.1[i]<;>rfl) (fun _ _ _ _ _ _=>trivial) (by
    intro t _
    simp only[qJn]
    rw[if_neg (by simp)]) (M:=N) (t:=()) (by omega) trivial
  have i2:=qYm (L:=f.2.2) (fun(_:Unit) (i:Nat)=>(i:Int)) (f:=qJo N f)
   (fun _ d=>if(!qGr d)=true then .inr (.inr false) else .inl ()) (fun _=>(.inl ():Unit⊕Bool)) (fun _ _=>True) (by
    intro t i hi _
    simp only[qJo]
    rw[if_pos (by simp only[jA];omega),qCo hi]
    have ew:IntKind.wrap .i64 ((i:Int)+1)=((i+1:Nat):Int):=by rw[wi64 (by omega) (by omega)];omega
    simp only[j0,ew]
    rw[show qKe N (f.2.2[i].1,f.2.2[i].2.1,f.2.2[i].2.2.1,f.2.2[i].2.2.2)=_ from zHj (h3 _ (k9 hi)) hN]
    simp only[j0]
    cases qGr f.2.2[i]<;>rfl) (fun _ _ _ _ _ _=>trivial) (by
    intro t _
    simp only[qJo]
    rw[if_neg (by simp)]) f.2.2.length 0 N () (by omega) (by omega) trivial
  rw[show((0:Nat):Int)=0 from rfl] at i1 i2
  rw[i1,qQx (b:=(.inr false:Unit⊕Bool)) (fun s=> !qDf s) (fun x=>rfl),gM]
  cases ha:(f.2.1.any fun s=> !qDf s) with
  |true=>rfl
  |false=>
   simp only[jB,jI,j0,kT,gC]
   rw[i2,jX,qQx (b:=(.inr false:Unit⊕Bool)) (fun s=> !qGr s) (fun x=>rfl),gM]
   cases(f.2.2.any fun s=> !qGr s)<;>rfl
 ·rw[show qDf f.1=false by simpa using hn]
  rfl
def dupG{α:Type}[DecidableEq α]:List α→List α→Bool
 |_,[]=>false
 |seen,x::l=>decide (x∈seen)||dupG (seen++[x]) l
def dupL{α:Type}[DecidableEq α](l:List α):Bool:=dupG [] l
theorem zKu{α:Type}[DecidableEq α]{l:List α}{f:Int→Option (Int⊕(Unit⊕Bool))}(hs:∀(i:Nat) (hi:i<l.length),f (i:Int)=some (if l[i]∈l.take i then .inr (.inr true) else .inl ((i+1:Nat):Int)))
  (hf:f (l.length:Int)=some (.inr (.inl ()))):∀(d i M:Nat),i+d=l.length→d<M→qAs f M (i:Int)=some (if dupG (l.take i) (l.drop i)=true then .inr true else .inl ())
 |_,_,0,_,h=>absurd h (kL _)
 |0,i,M+1,hd,_=>by
  have:i=l.length:=by omega
  subst this
  simp only[qAs,hf,j0,hY,dupG]
  rfl
 |d+1,i,M+1,hd,hM=>by
  have hi:i<l.length:=by omega
  simp only[qAs,hs i hi,j0]
  rw[qKx hi]
  by_cases hm:l[i]∈l.take i
  ·have e:dupG (l.take i) (l[i]::l.drop (i+1))=true:=by
    show(decide _||_)=true
    rw[jZ hm,dF]
   rw[if_pos hm,if_pos e]
  ·have e:dupG (l.take i) (l[i]::l.drop (i+1))=dupG (l.take (i+1)) (l.drop (i+1)):=by
    show(decide _||_)=_
    rw[jU hm,kU,qRc hi]
   rw[if_neg hm,e]
   exact zKu hs hf d (i+1) M (by omega) (by omega)
theorem zGh{α:Type}[DecidableEq α]{l:List α}{f:Int→Option (Int⊕(Unit⊕Bool))}(hs:∀(i:Nat) (hi:i<l.length),f (i:Int)=some (if l[i]∈l.take i then .inr (.inr true) else .inl ((i+1:Nat):Int)))
  (hf:f (l.length:Int)=some (.inr (.inl ()))) {M:Nat} (hM:l.length<M):qAs f M 0=some (if dupL l=true then .inr true else .inl ()):=by
 have h:=zKu hs hf l.length 0 M (by omega) hM
 rw[List.take_zero,jX] at h
 exact h
theorem zDk{α:Type}[DecidableEq α]{l:List α}{x:α}{f:Int→Option (Int⊕(Unit⊕Int))}(hs:∀(i:Nat) (hi:i<l.length),f (i:Int)=some (if x=l[i] then .inr (.inr (i:Int)) else .inl ((i+1:Nat):Int)))
  (hf:f (l.length:Int)=some (.inr (.inl ()))):∀(d i M:Nat),i+d=l.length→d<M→∃o,qAs f M (i:Int)=some o∧(match o with| .inl _=>x∉l.drop i| .inr j=>x∈l.drop i∧0≤j)
 |_,_,0,_,h=>absurd h (kL _)
 |0,i,M+1,hd,_=>by
  have:i=l.length:=by omega
  subst this
  simp only[qAs,hf,j0,hY]
  exact⟨.inl (),rfl,gG⟩
 |d+1,i,M+1,hd,hM=>by
  have hi:i<l.length:=by omega
  simp only[qAs,hs i hi,j0]
  rw[qKx hi]
  by_cases hx:x=l[i]
  ·rw[if_pos hx]
   exact⟨.inr (i:Int),rfl,by rw[hx];exact jH ..,by omega⟩
  ·rw[if_neg hx]
   simp only
   obtain⟨o,o1,o2⟩:=zDk hs hf d (i+1) M (by omega) (by omega)
   refine⟨o,o1,?_⟩
   cases o with
   |inl u=>exact fun h=>(jN.1 h).elim hx o2
   |inr j=>exact⟨jM _ o2.1,o2.2⟩
theorem qWz{N:Nat}{s:ByteArray}{l:List ByteArray}(hl:l.length<2000000)(hN:l.length<N):qDr N l s=some (decide (s∈l)):=by
 obtain⟨o,o1,o2⟩:=zDk (l:=l) (x:=s) (f:=qDq N l s) (fun i hi=>by
  simp only[qDq]
  rw[if_pos (by simp only[jA];omega),qCo hi]
  have ew:IntKind.wrap .i64 ((i:Int)+1)=((i+1:Nat):Int):=by rw[wi64 (by omega) (by omega)];omega
  simp only[j0,qDz,jA,ew]
  split<;>rfl) (by
  simp only[qDq]
  rw[if_neg (by simp)]) l.length 0 N (by omega) hN
 rw[show((0:Nat):Int)=0 from rfl] at o1
 rw[jX] at o2
 simp only[qDr,qHk,o1,j0]
 cases o with
 |inl u=>
  simp only at o2
  rw[jU o2];rfl
 |inr j=>
  simp only at o2 ⊢
  rw[jZ o2.1]
  simp[o2.2]
theorem zFg{N:Nat}{l:List ByteArray}(hl:l.length<2000000)(hN:l.length<N):qHu N l=some (dupL l):=by
 have h:=zGh (l:=l) (f:=qGb N l) (fun i hi=>by
  simp only[qGb]
  rw[if_pos (by simp only[jA];omega),qCo hi,qOr (by omega) (by omega) (by omega)]
  have ew:IntKind.wrap .i64 ((i:Int)+1)=((i+1:Nat):Int):=by rw[wi64 (by omega) (by omega)];omega
  simp only[j0,jR,gQ,jX,ew]
  rw[qWz (by rw[k0];omega) (by rw[k0];omega)]
  simp only[j0,jA]
  split<;>rfl) (by
  simp only[qGb]
  rw[if_neg (by simp)]) hN
 simp only[qHu,h,j0]
 cases dupL l<;>rfl
abbrev Nm2:=Int×ByteArray
instance decMemN(s:Nm2)(l:List Nm2):Decidable (s∈l):=@List.instDecidableMemOfLawfulBEq Nm2 instBEqOfDecidableEq inferInstance s l
theorem zEq{N:Nat}{s:Nm2}{l:List Nm2}(hl:l.length<2000000)(hN:l.length<N):qCv N l s=some (decide (s∈l)):=by
 obtain⟨o,o1,o2⟩:=zDk (l:=l) (x:=s) (f:=qCm N l s) (fun i hi=>by
  simp only[qCm]
  rw[if_pos (by simp only[jA];omega),qCo hi]
  have ew:IntKind.wrap .i64 ((i:Int)+1)=((i+1:Nat):Int):=by rw[wi64 (by omega) (by omega)];omega
  have ee:((s.1==l[i].1)&&((s.2.toList==l[i].2.toList)&&true))=decide (s=l[i]):=by
   rw[kM]
   simp only[qDz,jL,kJ,jA,and_true,Prod.ext_iff]
  simp only[j0,ee,jA,ew]
  split<;>rfl) (by
  simp only[qCm]
  rw[if_neg (by simp)]) l.length 0 N (by omega) hN
 rw[show((0:Nat):Int)=0 from rfl] at o1
 rw[jX] at o2
 simp only[qCv,qEb,o1,j0]
 cases o with
 |inl u=>
  simp only at o2
  rw[jU o2];rfl
 |inr j=>
  simp only at o2 ⊢
  rw[jZ o2.1]
  simp[o2.2]
theorem zNx{N:Nat}{l:List Nm2}(hl:l.length<2000000)(hN:l.length<N):qGp N l=some (dupL l):=by
 have h:=zGh (l:=l) (f:=qEa N l) (fun i hi=>by
  simp only[qEa]
  rw[if_pos (by simp only[jA];omega),qCo hi,qOr (by omega) (by omega) (by omega)]
  have ew:IntKind.wrap .i64 ((i:Int)+1)=((i+1:Nat):Int):=by rw[wi64 (by omega) (by omega)];omega
  simp only[j0,jR,gQ,jX,ew]
  rw[zEq (by rw[k0];omega) (by rw[k0];omega)]
  simp only[j0,jA]
  split<;>rfl) (by
  simp only[qEa]
  rw[if_neg (by simp)]) hN
 simp only[qGp,h,j0]
 cases dupL l<;>rfl
def qQa(d:Dl):Nm2:=(d.1,d.2.1)
def qSj(f:Sr):Bool:=f.2.2.any (fun d=>dupL d.2.2.1)||(decide (f.1∈f.2.1)||(dupL f.2.1||dupL (f.2.2.map qQa)))
theorem zQt{N:Nat}{f:Sr}(hf:SmSr f)(hN:3000000<N):qAs (qJb N f) N ([],0)=some (if f.2.2.any (fun d=>dupL d.2.2.1)=true then .inr true else .inl (f.2.2.map qQa)):=by
 obtain⟨h1,h2,h3⟩:=hf
 have h:=qGm (L:=f.2.2) (fun(t:List Nm2) (i:Nat)=>(t,(i:Int))) (f:=qJb N f)
  (fun t d=>if dupL d.2.2.1=true then .inr (.inr true) else .inl (t++[qQa d])) (fun t=>(.inl t:List Nm2⊕Bool)) (fun i t=>t.length≤i) (by
   intro t i hi hI
   obtain⟨-,k1,-,-⟩:=h3 _ (k9 hi)
   simp only[qJb]
   rw[if_pos (by simp only[jA];omega),qCo hi]
   have ew:IntKind.wrap .i64 ((i:Int)+1)=((i+1:Nat):Int):=by rw[wi64 (by omega) (by omega)];omega
   simp only[j0,zFg k1 (show(f.2.2[i]).2.2.1.length<N by omega),ew]
   rw[qDx (by simp only[jD,jF];omega) (by omega)]
   simp only[j0]
   split<;>rfl) (by
   intro t i hi t' hI h
   split at h
   ·cases h
   ·cases h
    simp only[jC,jD,jF];omega) (by
   intro t hI
   simp only[qJb]
   rw[if_neg (by simp)]) (M:=N) (t:=[]) (by omega) (jP _)
 rw[show((0:Nat):Int)=0 from rfl] at h
 rw[h]
 congr 1
 suffices g:∀(l:List Dl) (t:List Nm2),run (fun t d=>if dupL d.2.2.1=true then .inr (.inr true) else .inl (t++[qQa d])) (fun t=>(.inl t:List Nm2⊕Bool)) l t=if l.any (fun d=>dupL d.2.2.1)=true then .inr true else .inl (t++l.map qQa) by
  have:=g f.2.2 []
  rw[jO] at this
  exact this
 intro l
 induction l with
 |nil=>intro t;simp[run]
 |cons d l ih=>
  intro t
  simp only[run,gT,kI]
  cases hd:dupL d.2.2.1 with
  |true=>simp
  |false=>
   simp only[jB,jI,kU]
   rw[ih,jE];rfl
theorem zRg{N:Nat}{f:Sr}(hf:SmSr f)(hN:3000000<N):qMq N f=some (qSj f):=by
 obtain⟨h1,h2,h3⟩:=id hf
 unfold qMq
 rw[zQt hf hN]
 simp only[j0]
 unfold qSj
 cases ha:f.2.2.any (fun d=>dupL d.2.2.1) with
 |true=>rfl
 |false=>
  simp only[jB,jI,kU]
  rw[qWz h1 (by omega),zFg h1 (by omega),zNx (by rw[kZ];exact h2) (by rw[kZ];omega)]
  simp only[j0]
  cases decide (f.1∈f.2.1)<;>cases dupL f.2.1<;>rfl
end
section
open Go Go.Dc
def qZq:List Ex→List Rose→List Rose
 |[],fs=>fs
 |x::l,fs=>qZq l (fs.take (fs.length-x.2.2.2.2.length)++[Rose.mk (x.1,x.2.1,x.2.2.1,x.2.2.2.1) (fs.drop (fs.length-x.2.2.2.2.length))])
def zCr(l:List Ex):Option Rose:=match qZq l [] with
 |[t]=>some t
 |_=>none
theorem zJc:∀(l:List Ex) (fs:List Rose) {st:List Int},ordS l (qBo fs) (qDk 0 fs)=some st→qFm 0 (qZq l fs)=qFm 0 fs++l∧st=qDk 0 (qZq l fs)
 |[],fs,st,h=>⟨by simp[qZq],(kH h).symm⟩
 |x::l,fs,st,h=>by
  rw[qZr x _ _ _ x.2.2.2.2 rfl] at h
  split at h
  ·rename_i hc
   obtain⟨h1,h2⟩:=hc
   rw[qJh] at h1 h2 h
   obtain⟨e1,e2,e3⟩:=qZa (h:=(x.1,x.2.1,x.2.2.1,x.2.2.2.1)) h1 rfl h2
   rw[←e1,←e2] at h
   obtain⟨g1,g2⟩:=zJc l _ h
   exact⟨by rw[qZq,g1,e3,jE];rfl,g2⟩
  ·cases h
theorem qXr{l:List Ex}(h:oneP (ordS l 0 [])=true):∃t,zCr l=some t∧l=t.flat 0:=by
 cases ho:ordS l 0 [] with
 |none=>rw[ho] at h;cases h
 |some st=>
  rw[ho] at h
  obtain⟨g1,g2⟩:=zJc l [] ho
  have hl:st.length=1:=by
   match st,h with
   |[x],_=>rfl
  rw[g2,qJh] at hl
  obtain⟨t,ht⟩:=List.length_eq_one_iff.1 hl
  refine⟨t,by unfold zCr;rw[ht],?_⟩
  rw[ht] at g1
  simpa[qFm] using g1.symm
mutual
def Rose.deepen(d:Nat):Rose→Nat
 | .mk h ks=>max d (qKs (if h.1=4 then d else d+1) ks)
def qKs(d:Nat):List Rose→Nat
 |[]=>0
 |t::l=>max (t.deepen d) (qKs d l)
end
theorem qUv{d:Nat}:∀{l:List Rose},(32<qKs d l)↔∃t∈l,32<t.deepen d
 |[]=>by simp[qKs]
 |t::l=>by
  have ih:=qUv (d:=d) (l:=l)
  simp only[qKs,jN,exists_eq_or_imp,←ih]
  omega
def qSg(dp:List Int)(a:List Int)(v:Int):List Int:=a.foldl (fun dp a=>dp.set a.toNat v) dp
theorem zBc:∀(a:List Int) (dp:List Int) (v:Int),(qSg dp a v).length=dp.length
 |[],_,_=>rfl
 |x::a,dp,v=>by
  show(qSg (dp.set x.toNat v) a v).length=_
  rw[zBc a,gH]
theorem qZw{j:Nat}{v:Int}:∀(ks:List Rose) (b:Nat) (dp:List Int),j<b→(qSg dp (qDk b ks) v)[j]? =dp[j]?
 |[],_,_,_=>rfl
 |t::l,b,dp,h=>by
  have hp:=t.pos
  show(qSg (dp.set (((b+t.size-1:Nat):Int)).toNat v) (qDk (b+t.size) l) v)[j]? =_
  rw[qZw l (b+t.size) _ (by omega),jR,List.getElem?_set_ne (by omega)]
def DpOk(dp:List Int):Nat→List (Rose×Nat)→Prop
 |_,[]=>True
 |b,p::l=>(∃v:Int,dp[b+p.1.size-1]? =some v∧(v=(p.2:Int)∨v=0∧p.2=1))∧DpOk dp (b+p.1.size) l
theorem DpOk.app{dp:List Int}:∀{l k:List (Rose×Nat)} {b:Nat},DpOk dp b (l++k)↔DpOk dp b l∧DpOk dp (b+qBo (l.map (·.1))) k
 |[],k,b=>by simp[DpOk,qBo]
 |t::l,k,b=>by
  rw[jQ]
  simp only[DpOk,kI,qBo,DpOk.app (l:=l)]
  rw[and_assoc,gS]
theorem DpOk.congr{dp dp':List Int}:∀{l:List (Rose×Nat)} {b:Nat},DpOk dp b l→(∀j,j<b+qBo (l.map (·.1))→dp'[j]? =dp[j]?)→DpOk dp' b l
 |[],_,_,_=>trivial
 |t::l,b,h,hj=>by
  have hp:=t.1.pos
  simp only[kI,qBo] at hj
  refine⟨?_,h.2.congr fun j h=>hj j (by omega)⟩
  obtain⟨v,h1,h2⟩:=h.1
  exact⟨v,by rw[hj _ (by omega)];exact h1,h2⟩
theorem DpOk.kids{d:Nat}:∀{ks:List Rose} {b:Nat} {dp:List Int},b+qBo ks≤dp.length→DpOk (qSg dp (qDk b ks) (d:Int)) b (ks.map fun t=>(t,d))
 |[],_,_,_=>trivial
 |t::l,b,dp,h=>by
  have hp:=t.pos
  simp only[qBo] at h
  show DpOk (qSg (dp.set (((b+t.size-1:Nat):Int)).toNat d) (qDk (b+t.size) l) d) b ((t,d)::l.map fun t=>(t,d))
  refine⟨⟨d,?_,.inl rfl⟩,DpOk.kids (by rw[gH];omega)⟩
  rw[qZw l (b+t.size) _ (by show b+t.size-1<b+t.size;omega),jR,List.getElem?_set_self (by omega)]
theorem zHn{N i d:Nat}{x1:Dl}{x5:Ex}{so:List Int}(hx:x1.2.2.2[i]? =some x5)(ha:∀a∈x5.2.2.2.2,0≤a∧a<(i:Int))(hal:x5.2.2.2.2.length<2000000)(hd:d≤1000):∀(k j M:Nat) (dp:List Int),j+k=x5.2.2.2.2.length→k<M→i<dp.length→dp[i]? =some (d:Int)→
  qAs (qKz N x1 ((i:Int),so) x5) M ((j:Int),dp)=some (qSg dp (x5.2.2.2.2.drop j) (if x5.1=4 then(d:Int) else((d+1:Nat):Int)))
 |_,_,0,_,_,h,_,_=>absurd h (kL _)
 |0,j,M+1,dp,hj,_,_,_=>by
  have:j=x5.2.2.2.2.length:=by omega
  subst this
  simp only[qAs,qKz]
  rw[if_neg (by simp),hY]
  rfl
 |k+1,j,M+1,dp,hj,hM,hi,hdp=>by
  have hjl:j<x5.2.2.2.2.length:=by omega
  obtain⟨a0,a1⟩:=ha _ (k9 hjl)
  obtain⟨a,ea⟩:∃a:Nat,x5.2.2.2.2[j]=(a:Int):=⟨(x5.2.2.2.2[j]).toNat,by omega⟩
  have hal2:a<i:=by omega
  have ew:IntKind.wrap .i64 ((j:Int)+1)=((j+1:Nat):Int):=by rw[wi64 (by omega) (by omega)];omega
  have ed:IntKind.wrap .i64 ((d:Int)+1)=((d+1:Nat):Int):=by rw[wi64 (by omega) (by omega)];omega
  simp only[qAs,qKz]
  rw[if_pos (by simp only[jA];omega),qCo hjl,ea]
  have hax:idx dp (a:Int)=some dp[a]:=qCo (by omega)
  have hset:idx (dp.set a (d:Int)) (a:Int)=some (d:Int):=qWs (List.getElem?_set_self (by omega))
  simp only[j0,qWs hdp,hax,qWs hx,jR,hset,ed,ew]
  rw[qKx hjl,ea]
  have hstep:∀v:Int,qSg dp ((a:Int)::x5.2.2.2.2.drop (j+1)) v=qSg (dp.set a v) (x5.2.2.2.2.drop (j+1)) v:=fun v=>by
   show qSg (dp.set ((a:Int)).toNat v) _ v=_
   rw[jR]
  by_cases hk:x5.1=4
  ·have e:(x5.1 !=4)=false:=by simp[hk]
   simp only[e,jB,jI,j0]
   rw[zHn hx ha hal hd k (j+1) M _ (by omega) (by omega) (by rw[gH];exact hi) (by rw[List.getElem?_set_ne (by omega)];exact hdp),if_pos hk,hstep]
  ·have e:(x5.1 !=4)=true:=by simp[hk]
   simp only[e,jK,j0,List.set_set]
   rw[zHn hx ha hal hd k (j+1) M _ (by omega) (by omega) (by rw[gH];exact hi) (by rw[List.getElem?_set_ne (by omega)];exact hdp),if_neg hk,hstep]
theorem zKs:∀{ks:List Rose} {b:Nat},∀a∈qDk b ks,(b:Int)≤a∧a<((b+qBo ks:Nat):Int)
 |[],_,a,h=>by cases h
 |t::l,b,a,h=>by
  have hp:=t.pos
  simp only[qBo]
  rcases jN.1 h with rfl|h
  ·omega
  ·have:=zKs (ks:=l) (b:=b+t.size) a h
   omega
theorem zOp{N:Nat}{x1:Dl}(hlen:x1.2.2.2.length≤256)(hargs:∀x∈x1.2.2.2,x.2.2.2.2.length<2000000)(hN:3000000<N):∀(M:Nat) (F:List (Rose×Nat)) (dp:List Int),qFm 0 (F.map (·.1))=x1.2.2.2.take (qBo (F.map (·.1)))→qBo (F.map (·.1))≤x1.2.2.2.length→dp.length=x1.2.2.2.length→DpOk dp 0 F→(∀p∈F,1≤p.2∧p.2≤33)→qBo (F.map (·.1))<M→
  ∃o,qAs (qJw N x1) M (((qBo (F.map (·.1)):Nat):Int)-1,dp)=some o∧(match o with
   | .inl _=>¬∃p∈F,32<p.1.deepen p.2
   | .inr b=>b=true∧∃p∈F,32<p.1.deepen p.2)
 |0,_,_,_,_,_,_,_,h=>absurd h (kL _)
 |M+1,F,dp,hf,hle,hdl,hdp,hd1,hM=>by
  rcases fW F with rfl|⟨pre,⟨⟨h,ks⟩,d⟩,rfl⟩
  ·simp only[qAs,qJw]
   rw[if_neg (by simp[qBo])]
   exact⟨_,rfl,by simp⟩
  ·rw[List.concat_eq_append] at*
   obtain⟨g1,g2⟩:=hd1 (Rose.mk h ks,d) (by simp)
   simp only at g1 g2
   rw[gY,List.map_singleton] at hf hle hM ⊢
   have hsz:qBo (pre.map (·.1)++[Rose.mk h ks])=qBo (pre.map (·.1))+(qBo ks+1):=by rw[qMu];simp[qBo,Rose.size]
   generalize hb:qBo (pre.map (·.1))=b at hsz
   obtain⟨d1,d2,-⟩:=DpOk.app.1 hdp
   rw[kE,hb] at d2
   obtain⟨v,v1,v2⟩:=d2
   simp only[Rose.size] at v1
   rw[show b+(qBo ks+1)-1=b+qBo ks by omega] at v1
   rw[hsz] at hle hM ⊢
   have hi:b+qBo ks<dp.length:=by omega
   have ei:((b+(qBo ks+1):Nat):Int)-1=((b+qBo ks:Nat):Int):=by omega
   -- the node
   have hnode:x1.2.2.2[b+qBo ks]? =some (qLf h (qDk b ks)):=by
    have e:x1.2.2.2.take (b+(qBo ks+1))=qFm 0 (pre.map (·.1))++(qFm b ks++[qLf h (qDk b ks)]):=by
     rw[hsz] at hf
     rw[←hf,qQz,kE,hb]
     simp[qFm,Rose.flat]
    have e2:(x1.2.2.2.take (b+(qBo ks+1)))[b+qBo ks]? =some (qLf h (qDk b ks)):=by
     rw[e,List.getElem?_append_right (by rw[qJc,hb];omega),List.getElem?_append_right (by rw[qJc,qJc,hb];omega),qJc,qJc,hb,show b+qBo ks-b-qBo ks=0 by omega]
     rfl
    rw[List.getElem?_take_of_lt (by omega)] at e2
    exact e2
   have wi:IntKind.wrap .i64 (((b+qBo ks:Nat):Int)-1)=((b+qBo ks:Nat):Int)-1:=by rw[wi64 (by omega) (by omega)]
   -- the node's depth is laid
   have hset:(if(v==0)=true then some (dp.set (b+qBo ks) 1) else some dp:Option (List Int))=some (dp.set (b+qBo ks) (d:Int)):=by
    rcases v2 with rfl|⟨rfl,rfl⟩
    ·have:((d:Int)==0)=false:=by rw[beq_eq_false_iff_ne];omega
     rw[this,zKf v1];rfl
    ·rfl
   have hd':(dp.set (b+qBo ks) (d:Int))[b+qBo ks]? =some (d:Int):=List.getElem?_set_self hi
   simp only[qAs,qJw]
   rw[ei,if_pos (by simp only[jA];omega),qWs v1]
   simp only[j0,jR,hset,qWs hd',qWs hnode]
   have hdeep:(Rose.mk h ks).deepen d=max d (qKs (if h.1=4 then d else d+1) ks):=by simp only[Rose.deepen]
   by_cases h32:32<d
   ·rw[if_pos (by simp only[jA];omega)]
    refine⟨.inr true,rfl,rfl,(Rose.mk h ks,d),by simp,?_⟩
    simp only[hdeep];omega
   ·rw[if_neg (by simp only[jA];omega)]
    have hra:∀a∈qDk b ks,0≤a∧a<((b+qBo ks:Nat):Int):=fun a ha=>by
     have:=zKs a ha;omega
    have h3:=zHn (N:=N) (i:=b+qBo ks) (d:=d) (x1:=x1) (x5:=qLf h (qDk b ks)) (so:=dp) hnode hra (by
     have:=hargs _ (fI hnode);exact this) (by omega) (qDk b ks).length 0 N (dp.set (b+qBo ks) (d:Int)) (by show 0+_=(qDk b ks).length;omega) (by
     have:=hargs _ (fI hnode)
     have:(qDk b ks).length<2000000:=this
     omega) (by rw[gH];exact hi) hd'
    rw[jX] at h3
    rw[show(((0:Nat):Int))=0 from rfl] at h3
    rw[h3]
    simp only[j0,wi]
    have hv:(if(qLf h (qDk b ks)).1=4 then(d:Int) else((d+1:Nat):Int))=(((if h.1=4 then d else d+1:Nat)):Int):=by
     show(if h.1=4 then(d:Int) else((d+1:Nat):Int))=_
     split<;>rfl
    rw[hv]
    show ∃o,qAs (qJw N x1) M (((b+qBo ks:Nat):Int)-1,qSg (dp.set (b+qBo ks) (d:Int)) (qDk b ks) _)=some o∧_
    generalize hd2:(if h.1=4 then d else d+1:Nat)=d'
    rw[hd2] at hdeep
    have hd2':1≤d'∧d'≤33:=by rw[←hd2];split<;>omega
    have hmm:∀l:List Rose,(l.map fun t=>(t,d')).map (·.1)=l:=fun l=>by rw[List.map_map];exact List.map_id _
    have hszF:qBo ((pre++ks.map fun t=>(t,d')).map (·.1))=b+qBo ks:=by rw[gY,hmm,qMu,hb]
    have hfl:qFm 0 ((pre++ks.map fun t=>(t,d')).map (·.1))=x1.2.2.2.take (b+qBo ks):=by
     rw[gY,hmm,qQz,kE,hb]
     have e:x1.2.2.2.take (b+(qBo ks+1))=qFm 0 (pre.map (·.1))++(qFm b ks++[qLf h (qDk b ks)]):=by
      rw[hsz] at hf
      rw[←hf,qQz,kE,hb]
      simp[qFm,Rose.flat]
     have e3:=congrArg (List.take (b+qBo ks)) e
     rw[List.take_take,Nat.min_eq_left (by omega),←jE,kV (by rw[jC,qJc,qJc,hb];exact jP _),gW (show(qFm 0 (pre.map (·.1))++qFm b ks).length≤b+qBo ks by rw[jC,qJc,qJc,hb];exact jP _)] at e3
     exact e3.symm
    obtain⟨o,o1,o2⟩:=zOp hlen hargs hN M (pre++ks.map fun t=>(t,d')) (qSg (dp.set (b+qBo ks) (d:Int)) (qDk b ks) (d':Int)) (by rw[hszF];exact hfl) (by rw[hszF];omega) (by rw[zBc,gH];exact hdl) (DpOk.app.2 ⟨d1.congr fun j hj=>by
      rw[kE,hb] at hj
      rw[qZw ks b _ hj,List.getElem?_set_ne (by omega)],by
      rw[kE,hb]
      exact DpOk.kids (by rw[gH];omega)⟩) (fun p hp=>by
      rcases gF.1 hp with hp|hp
      ·exact hd1 p (kF _ hp)
      ·obtain⟨t,-,rfl⟩:=fG.1 hp
       exact hd2') (by rw[hszF];omega)
    rw[hszF] at o1
    refine⟨o,o1,?_⟩
    have hiff:(∃p∈pre++ks.map fun t=>(t,d'),32<p.1.deepen p.2)↔∃p∈pre++[(Rose.mk h ks,d)],32<p.1.deepen p.2:=by
     simp only[gF,fG,jS]
     constructor
     ·rintro⟨p,hp|⟨t,ht,rfl⟩,hq⟩
      ·exact⟨p,.inl hp,hq⟩
      ·refine⟨_,.inr rfl,?_⟩
       simp only[hdeep]
       have:32<qKs d' ks:=qUv.2 ⟨t,ht,hq⟩
       omega
     ·rintro⟨p,hp|rfl,hq⟩
      ·exact⟨p,.inl hp,hq⟩
      ·simp only[hdeep] at hq
       obtain⟨t,ht,hq⟩:=qUv.1 (show 32<qKs d' ks by omega)
       exact⟨_,.inr ⟨t,ht,rfl⟩,hq⟩
    cases o with
    |inl u=>exact fun hx=>o2 (hiff.2 hx)
    |inr u=>exact⟨o2.1,hiff.1 o2.2⟩
def qYi(l:List Ex):Bool:=match zCr l with
 |some t=>decide (32<t.deepen 1)
 |none=>false
def qXn(d:Dl):Bool:=decide (8<d.2.2.1.length)||(decide (256<d.2.2.2.length)||qYi d.2.2.2)
def zCw(f:Sr):Bool:=decide (8<f.2.1.length)||(decide (64<f.2.2.length)||f.2.2.any qXn)
def qLc(f:Sr):Int:=if synP f=true then if qSj f=true then 10 else if zCw f=true then 2 else 0 else 9
theorem zVj{N:Nat}{f:Sr}(hf:SmSr f)(hs:synP f=true)(hN:3000000<N):qOd N f=some (zCw f):=by
 obtain⟨h1,h2,h3⟩:=id hf
 have hbody:∀d∈f.2.2,oneP (ordS d.2.2.2 0 [])=true:=fun d hd=>by
  unfold synP qGr zFx at hs
  simp only[jL,kA] at hs
  exact(hs.2.2 d hd).2.2.2
 have hL:=qGm (L:=f.2.2) (fun(_:Unit) (i:Nat)=>(i:Int)) (f:=qLb N f)
  (fun _ d=>if qXn d=true then .inr (.inr true) else .inl ()) (fun _=>(.inl ():Unit⊕Bool)) (fun _ _=>True) (by
   intro t i hi _
   obtain⟨-,k1,k2,k3⟩:=h3 _ (k9 hi)
   have hb:=hbody _ (k9 hi)
   simp only[qLb]
   rw[if_pos (by simp only[jA];omega),qCo hi]
   generalize f.2.2[i]=d at k1 k2 k3 hb
   have ew:IntKind.wrap .i64 ((i:Int)+1)=((i+1:Nat):Int):=by rw[wi64 (by omega) (by omega)];omega
   have e8:decide ((d.2.2.1.length:Int)>8)=decide (8<d.2.2.1.length):=by congr 1;rw[eq_iff_iff];omega
   have e256:decide ((d.2.2.2.length:Int)>256)=decide (256<d.2.2.2.length):=by congr 1;rw[eq_iff_iff];omega
   simp only[j0,e8,e256,ew]
   unfold qXn
   cases c8:decide (8<d.2.2.1.length) with
   |true=>rfl
   |false=>
    simp only[jB,jI,j0,kU]
    cases c256:decide (256<d.2.2.2.length) with
    |true=>rfl
    |false=>
     have hl:=of_decide_eq_false c256
     have hmx:(maxLen:Int)=9223372036854775807:=rfl
     have hmk:qWf 8 (0:Int) (d.2.2.2.length:Int)=some (List.replicate d.2.2.2.length 0):=by
      unfold qWf;rw[if_pos (by omega),jR]
     obtain⟨t,ht1,ht2⟩:=qXr hb
     have htl:t.size=d.2.2.2.length:=by
      have:=qDc t 0
      rw[←ht2] at this;exact this.symm
     have hp:=t.pos
     simp only[jB,jI,hmk,j0,kU]
     have hsz:qBo ([(t,1)].map (·.1))=d.2.2.2.length:=by simp[qBo,htl]
     obtain⟨o,o1,o2⟩:=zOp (N:=N) (x1:=d) (by omega) (fun x hx=>(k3 x hx).2) hN N [(t,1)] (List.replicate d.2.2.2.length 0) (by
      rw[hsz,gO]
      simp only[kI,List.map_nil,qFm,jY]
      exact ht2.symm) (by rw[hsz];exact jP _) (by simp) ⟨⟨0,by rw[kE,htl,List.getElem?_replicate,if_pos (by omega)],.inr ⟨rfl,rfl⟩⟩,trivial⟩ (by simp) (by rw[hsz];omega)
     rw[hsz] at o1
     rw[wi64 (by omega) (by omega),o1]
     have hdb:qYi d.2.2.2=decide (32<t.deepen 1):=by unfold qYi;rw[ht1]
     simp only[j0]
     cases o with
     |inl u=>
      simp only[jS,exists_eq_left] at o2
      have e:qYi d.2.2.2=false:=by rw[hdb];exact jU o2
      rw[e]
      rfl
     |inr u=>
      simp only[jS,exists_eq_left] at o2
      obtain⟨rfl,o3⟩:=o2
      have e:qYi d.2.2.2=true:=by rw[hdb];exact jZ o3
      rw[e]
      rfl) (fun _ _ _ _ _ _=>trivial) (by
   intro t _
   simp only[qLb]
   rw[if_neg (by simp)]) (M:=N) (t:=()) (by omega) trivial
 rw[show((0:Nat):Int)=0 from rfl] at hL
 unfold qOd
 have e8:decide ((f.2.1.length:Int)>8)=decide (8<f.2.1.length):=by congr 1;rw[eq_iff_iff];omega
 have e64:decide ((f.2.2.length:Int)>64)=decide (64<f.2.2.length):=by congr 1;rw[eq_iff_iff];omega
 rw[e8,e64]
 unfold zCw
 cases c8:decide (8<f.2.1.length) with
 |true=>rfl
 |false=>
  simp only[jB,jI,j0,kU]
  cases c64:decide (64<f.2.2.length) with
  |true=>rfl
  |false=>
   simp only[jB,jI,kU]
   rw[hL,qQx (b:=(.inr true:Unit⊕Bool)) qXn (fun x=>rfl)]
   cases f.2.2.any qXn<;>rfl
theorem qVt{N:Nat}{f:Sr}(hf:SmSr f)(hN:3000000<N):qHg N f=some (qLc f):=by
 unfold qHg
 rw[show qLs N (f.1,f.2.1,f.2.2)=_ from zPp hf hN,show qMq N (f.1,f.2.1,f.2.2)=_ from zRg hf hN]
 simp only[j0]
 unfold qLc
 cases hs:synP f with
 |false=>rfl
 |true=>
  rw[show qOd N (f.1,f.2.1,f.2.2)=_ from zVj hf hs hN]
  simp only[kW,jB,jI,j0,jK]
  cases qSj f<;>cases zCw f<;>rfl
end
section
open Go Go.Dc Go.Proofs
def lvH(h:Hd):Int:=if h.1=5 then 0 else if h.1=4 then(if h.2.2.1=6∨h.2.2.1=7 then 1 else if h.2.2.1=1∨h.2.2.1=2 then 2 else 3) else 4
def qHs(h:Hd)(k:Nat):Int:=if h.1=4 then(if k=0 then(if lvH h=1 then 2 else lvH h) else lvH h+1) else 0
def zNa:List (Int×ByteArray):=[(1,⟨#[43]⟩),(2,⟨#[45]⟩),(3,⟨#[42]⟩),(4,⟨#[47]⟩),(5,⟨#[37]⟩),(6,⟨#[60]⟩),(7,⟨#[61,61]⟩)]
def qUs(op:Int):ByteArray:=(qPg (some zNa) op).getD ⟨#[]⟩
def zKh:List (Int×ByteArray):=[(7,⟨#[115,105,122,101]⟩),(8,⟨#[104,97,115]⟩),(9,⟨#[101,110,118]⟩)]
def qQt(k:Int):ByteArray:=(qPg (some zKh) k).getD ⟨#[]⟩
def tI:List UInt8:=[105,102,32]
def tThen:List UInt8:=[32,116,104,101,110,32]
def tElse:List UInt8:=[32,101,108,115,101,32]
def sepK(k:Nat):List UInt8:=if k=0 then[] else[44,32]
def qPa:Nat→List (List UInt8)→List UInt8
 |_,[]=>[]
 |k,w::ws=>sepK k++(w++qPa (k+1) ws)
def qJm(ps:List ByteArray)(h:Hd)(ws:List (List UInt8)):List UInt8:=
 if h.1=1 then(itB h.2.1).data.toList
 else if h.1=2 then(ps.getD h.2.1.toNat ⟨#[]⟩).data.toList
 else if h.1=4 then ws.getD 0 []++((((⟨#[32]⟩:ByteArray)++qUs h.2.2.1)++(⟨#[32]⟩:ByteArray)).data.toList++ws.getD 1 [])
 else if h.1=5 then tI++(ws.getD 0 []++(tThen++(ws.getD 1 []++(tElse++ws.getD 2 []))))
 else if h.1=3 then(h.2.2.2++(⟨#[40]⟩:ByteArray)).data.toList++(qPa 0 ws++[41])
 else if h.1=6 then(((⟨#[114,101,97,100,40,34]⟩:ByteArray)++h.2.2.2)++(⟨#[34,44,32]⟩:ByteArray)).data.toList++(ws.getD 0 []++[41])
 else if h.1=10 then(((⟨#[102,108,105,112,40]⟩:ByteArray)++itB h.2.1)++(⟨#[41]⟩:ByteArray)).data.toList
 else(((qQt h.1++(⟨#[40,34]⟩:ByteArray))++h.2.2.2)++(⟨#[34,41]⟩:ByteArray)).data.toList
mutual
def Rose.wr(ps:List ByteArray)(need:Int):Rose→List UInt8
 | .mk h ks=>if lvH h<need then 40::(qJm ps h (wrs ps h 0 ks)++[41]) else qJm ps h (wrs ps h 0 ks)
def wrs(ps:List ByteArray)(h:Hd)(k:Nat):List Rose→List (List UInt8)
 |[]=>[]
 |t::l=>t.wr ps (qHs h k)::wrs ps h (k+1) l
end
mutual
def Rose.dep(need:Int)(d:Nat):Rose→Nat
 | .mk h ks=>max (if lvH h<need then d+1 else d) (deps h 0 (if h.1=4 then(if lvH h<need then d+1 else d) else(if lvH h<need then d+1 else d)+1) ks)
def deps(h:Hd)(k d:Nat):List Rose→Nat
 |[]=>0
 |t::l=>max (t.dep (qHs h k) d) (deps h (k+1) d l)
end
theorem zIy{N:Nat}(x:Ex):qKg N x=some (lvH (x.1,x.2.1,x.2.2.1,x.2.2.2.1)):=by
 unfold qKg qOh lvH
 by_cases h5:x.1=5
 ·simp[h5]
 by_cases h4:x.1=4
 ·by_cases o6:x.2.2.1=6
  ·simp[h4,o6]
  by_cases o7:x.2.2.1=7
  ·simp[h4,o7]
  by_cases o1:x.2.2.1=1
  ·simp[h4,o1]
  by_cases o2:x.2.2.1=2
  ·simp[h4,o2]
  simp[h4,o6,o7,o1,o2]
 simp[h5,h4]
theorem zRu{N:Nat}:qQg N=some (some zNa):=by kernel_rfl
theorem app1{l k:List UInt8}(h:l.length+k.length≤1000000000):qCn 1 l k=some (l++k):=qDx (by omega) (by decide)
theorem catW{x y:ByteArray}(h:x.size+y.size≤1000000000):catB x y=some (x++y):=by
 unfold catB
 rw[if_pos (Nat.le_trans h (by decide))]
theorem szl(x:ByteArray):x.data.toList.length=x.size:=by simp
theorem qUj(m d:Nat):(if(d:Int)>(m:Int) then(d:Int) else(m:Int))=((max m d:Nat):Int):=by
 split<;>omega
section
variable (N:Nat) (l:List Ex) (ps:List ByteArray)
def WrOk(t:Rose):Prop:=∀(D b:Nat) (buf:List UInt8) (s:Bool) (m d:Nat) (need:Int),AtT l b t→(∀x∈t.flat b,qMb (ps.length:Int) x=true)→2*t.size≤D→buf.length+(t.wr ps need).length≤1000000000→d+2*t.size≤100000000→0≤need→
 qEj N D ((s,buf),l,ps,(m:Int)) ((b+t.size-1:Nat):Int) need (d:Int)=some ((true,buf++t.wr ps need),l,ps,((max m (t.dep need d):Nat):Int))
variable {N l ps}
theorem zGk{h:Hd}{x1:Ex}{D d:Nat}(hN:3000000<N)(hx:x1.2.2.2.2.length<2000000)(hd:d<100000000):∀(ks:List Rose) (k b M m:Nat) (buf:List UInt8),(∀t∈ks,WrOk N l ps t)→x1.2.2.2.2.drop k=qDk b ks→k≤x1.2.2.2.2.length→AtTs l b ks→(∀x∈qFm b ks,qMb (ps.length:Int) x=true)→2*qBo ks≤D→h.1≠4→
  buf.length+(qPa k (wrs ps h k ks)).length≤1000000000→d+1+2*qBo ks≤100000000→ks.length<M→
  qAs (qGn N (qEj N D) (d:Int) x1) M ((k:Int),true,buf,l,ps,(m:Int))=some (true,buf++qPa k (wrs ps h k ks),l,ps,((max m (deps h k (d+1) ks):Nat):Int))
 |_,_,_,0,_,_,_,_,_,_,_,_,_,_,_,hM=>absurd hM (kL _)
 |[],k,b,M+1,m,buf,_,hr,hk,_,_,_,_,_,_,_=>by
  have hl:k=x1.2.2.2.2.length:=by
   have:=congrArg List.length hr
   rw[gE] at this
   simp only[qDk,jF] at this
   omega
  simp only[qAs,qGn]
  rw[if_neg (by simp only[jA];omega)]
  simp only[j0,wrs,qPa,jY,deps,fE]
 |t::ks,k,b,M+1,m,buf,hks,hr,hk,hat,hv,hD,h4,hb,hdd,hM=>by
  have hpos:=t.pos
  simp only[qBo] at hD hdd
  have hkl:k<x1.2.2.2.2.length:=by
   by_cases hh:k<x1.2.2.2.2.length
   ·exact hh
   ·rw[jT (by omega)] at hr;cases hr
  rw[qKx hkl] at hr
  obtain⟨hr1,hr2⟩:=List.cons.inj hr
  obtain⟨at1,at2⟩:=hat.head
  have hn:qHs h k=0:=by unfold qHs;rw[if_neg h4]
  simp only[wrs,qPa,hn] at hb ⊢
  simp only[jC] at hb
  have ew:IntKind.wrap .i64 ((k:Int)+1)=((k+1:Nat):Int):=by rw[wi64 (by omega) (by omega)];omega
  have ed:IntKind.wrap .i64 ((d:Int)+1)=((d+1:Nat):Int):=by rw[wi64 (by omega) (by omega)];omega
  simp only[qAs,qGn]
  rw[if_pos (by simp only[jA];omega),qCo hkl,hr1]
  have hsep:(if(decide ((k:Int)>0))=true then((qCn 1 buf ((⟨#[44,32]⟩:ByteArray).data.toList)).bind fun l8=>some (true,l8)) else(some (true,buf)):Option (Bool×List (UInt8)))=some (true,buf++sepK k):=by
   unfold sepK at hb ⊢
   by_cases h0:k=0
   ·subst h0
    rw[if_neg (by decide),if_pos rfl,jY]
   ·rw[if_neg h0] at hb
    rw[if_pos (by simp only[jA];omega),if_neg h0,app1 (by show buf.length+2≤_;simp only[jD,jF] at hb;omega)]
    rfl
  simp only[j0,hsep,ew,ed]
  rw[hks t (jH ..) D b (buf++sepK k) true m (d+1) 0 at1 (fun x hx=>hv x (by unfold qFm;exact kF _ hx)) (by omega) (by rw[jC];omega) (by omega) (dE 0)]
  simp only[j0]
  rw[zGk hN hx hd ks (k+1) (b+t.size) M (max m (t.dep 0 (d+1))) ((buf++sepK k)++t.wr ps 0) (fun u hu=>hks u (jM _ hu)) hr2 (by omega) at2 (fun x hx=>hv x (by unfold qFm;exact kQ _ hx)) (by omega) h4 (by simp only[jC];omega) (by omega) (by simp only[jD] at hM;omega)]
  simp only[jE,deps,hn,dG]
theorem qSt{np:Int}{x:Ex}(h:qMb np x=true):
  (x.1=1∧x.2.2.2.2.length=0∧-9007199254740992≤x.2.1∧x.2.1≤9007199254740992∧x.2.2.1=0∧x.2.2.2.1=emB)∨(x.1=2∧x.2.2.2.2.length=0∧0≤x.2.1∧x.2.1<np∧x.2.2.1=0∧x.2.2.2.1=emB)∨(x.1=3∧qDf x.2.2.2.1=true∧x.2.1=0∧x.2.2.1=0)∨(x.1=4∧x.2.2.2.2.length=2∧1≤x.2.2.1∧x.2.2.1≤7∧x.2.1=0∧x.2.2.2.1=emB)∨
  (x.1=5∧x.2.2.2.2.length=3∧x.2.1=0∧x.2.2.1=0∧x.2.2.2.1=emB)∨(x.1=6∧x.2.2.2.2.length=1∧qMc x.2.2.2.1.data.toList=true∧x.2.1=0∧x.2.2.1=0)∨((x.1=7∨x.1=8)∧x.2.2.2.2.length=0∧qMc x.2.2.2.1.data.toList=true∧x.2.1=0∧x.2.2.1=0)∨(x.1=9∧x.2.2.2.2.length=0∧qOi x.2.2.2.1=true∧x.2.1=0∧x.2.2.1=0)∨
  (x.1=10∧x.2.2.2.2.length=0∧0≤x.2.1∧x.2.1<64∧x.2.2.1=0∧x.2.2.2.1=emB):=by
 unfold qMb argN at h
 by_cases h1:x.1=1
 ·simp only[if_pos h1,jL,jA,kJ] at h
  exact .inl ⟨h1,by omega,h.2.2.2.1,h.2.2.2.2,h.2.1,h.1⟩
 rw[if_neg h1] at h
 by_cases h2:x.1=2
 ·simp only[if_pos h2,jL,jA,kJ] at h
  exact .inr (.inl ⟨h2,by omega,h.2.2.2.1,h.2.2.2.2,h.2.1,h.1⟩)
 rw[if_neg h2] at h
 by_cases h3:x.1=3
 ·simp only[if_pos h3,jL,jA,kJ] at h
  exact .inr (.inr (.inl ⟨h3,h.2.2,h.1,h.2.1⟩))
 rw[if_neg h3] at h
 by_cases h4:x.1=4
 ·simp only[if_pos h4,jL,jA,kJ] at h
  exact .inr (.inr (.inr (.inl ⟨h4,by omega,h.2.2.2.1,h.2.2.2.2,h.1,h.2.1⟩)))
 rw[if_neg h4] at h
 by_cases h5:x.1=5
 ·simp only[if_pos h5,jL,jA,kJ] at h
  exact .inr (.inr (.inr (.inr (.inl ⟨h5,by omega,h.1,h.2.2.1,h.2.1⟩))))
 rw[if_neg h5] at h
 by_cases h6:x.1=6
 ·simp only[if_pos h6,jL,jA,kJ] at h
  exact .inr (.inr (.inr (.inr (.inr (.inl ⟨h6,by omega,h.2.2.2,h.1,h.2.1⟩)))))
 rw[if_neg h6] at h
 by_cases h7:x.1=7∨x.1=8
 ·simp only[if_pos h7,jL,jA,kJ] at h
  exact .inr (.inr (.inr (.inr (.inr (.inr (.inl ⟨h7,by omega,h.2.2.2,h.1,h.2.1⟩))))))
 rw[if_neg h7] at h
 by_cases h9:x.1=9
 ·simp only[if_pos h9,jL,jA,kJ] at h
  exact .inr (.inr (.inr (.inr (.inr (.inr (.inr (.inl ⟨h9,by omega,h.2.2.2,h.1,h.2.1⟩)))))))
 rw[if_neg h9] at h
 by_cases h10:x.1=10
 ·simp only[if_pos h10,jL,jA,kJ] at h
  exact .inr (.inr (.inr (.inr (.inr (.inr (.inr (.inr ⟨h10,by omega,h.2.2.2.1,h.2.2.2.2,h.2.1,h.1⟩)))))))
 rw[if_neg h10] at h
 cases h
end
end
section
open Go Go.Dc Go.Proofs
section
variable {N:Nat} {l:List Ex} {ps:List ByteArray}
theorem len0{b:Nat}{ks:List Rose}(h:(qDk b ks).length=0):ks=[]:=by
 rw[qJh] at h
 exact g9.1 h
theorem len1{b:Nat}{ks:List Rose}(h:(qDk b ks).length=1):∃t,ks=[t]:=by
 rw[qJh] at h
 exact List.length_eq_one_iff.1 h
theorem len2{b:Nat}{ks:List Rose}(h:(qDk b ks).length=2):∃t u,ks=[t,u]:=by
 rw[qJh] at h
 match ks,h with
 |[t,u],_=>exact⟨t,u,rfl⟩
theorem len3{b:Nat}{ks:List Rose}(h:(qDk b ks).length=3):∃t u v,ks=[t,u,v]:=by
 rw[qJh] at h
 match ks,h with
 |[t,u,v],_=>exact⟨t,u,v,rfl⟩
theorem zOo{N:Nat}{n:Int}(h0: -9007199254740992≤n)(h1:n≤9007199254740992):strconv_Itoa N n=some (itB n):=by
 unfold strconv_Itoa zSw
 rw[if_pos ⟨by omega,by omega⟩]
theorem wm1:qNa (some []:Option (List (Int×ByteArray))) 7 (⟨#[115,105,122,101]⟩:ByteArray)=some (some [(7,⟨#[115,105,122,101]⟩)]):=by kernel_rfl
theorem wm2:qNa (some [(7,⟨#[115,105,122,101]⟩)]:Option (List (Int×ByteArray))) 8 (⟨#[104,97,115]⟩:ByteArray)=some (some [(7,⟨#[115,105,122,101]⟩),(8,⟨#[104,97,115]⟩)]):=by kernel_rfl
theorem wm3:qNa (some [(7,⟨#[115,105,122,101]⟩),(8,⟨#[104,97,115]⟩)]:Option (List (Int×ByteArray))) 9 (⟨#[101,110,118]⟩:ByteArray)=some (some zKh):=by kernel_rfl
theorem zPq{h:Hd}{ks:List Rose}(hN:3000000<N)(hks:∀t∈ks,WrOk N l ps t){D b m d:Nat}{buf:List UInt8}{s:Bool}{need:Int}(hat:AtT l b (.mk h ks))(hv:∀x∈(Rose.mk h ks).flat b,qMb (ps.length:Int) x=true)(hD:2*qBo ks≤D)
  (hb:buf.length+(qJm ps h (wrs ps h 0 ks)).length≤1000000000) (hd:d+(2*qBo ks+1)≤100000000) (hl:¬lvH h<need) (hsz:ks.length<2000000):
  qEj N (D+1) ((s,buf),l,ps,(m:Int)) ((b+qBo ks:Nat):Int) need (d:Int)=some ((true,buf++qJm ps h (wrs ps h 0 ks)),l,ps,((max m (max d (deps h 0 (if h.1=4 then d else d+1) ks)):Nat):Int)):=by
 obtain⟨hn,hats⟩:=hat.args
 have hn:l[b+qBo ks]? =some (h.1,h.2.1,h.2.2.1,h.2.2.2,qDk b ks):=hn
 have hnode:qMb (ps.length:Int) (h.1,h.2.1,h.2.2.1,h.2.2.2,qDk b ks)=true:=hv (qLf h (qDk b ks)) (by unfold Rose.flat;exact kQ _ (jH ..))
 have hvk:∀x∈qFm b ks,qMb (ps.length:Int) x=true:=fun x hx=>hv x (by unfold Rose.flat;exact kF _ hx)
 have ed:IntKind.wrap .i64 ((d:Int)+1)=((d+1:Nat):Int):=by rw[wi64 (by omega) (by omega)];omega
 show qFo N (qEj N D) _ _ _ _=_
 unfold qFo
 dsimp only
 rw[qWs hn]
 simp only[j0]
 rw[show qKg N (h.1,h.2.1,h.2.2.1,h.2.2.2,qDk b ks)=some (lvH h) from zIy _]
 simp only[j0]
 rw[if_neg (by simpa using hl)]
 rcases qSt hnode with ⟨k,a,n0,n1,-,-⟩|⟨k,a,n0,n1,-,-⟩|⟨k,a,-,-⟩|⟨k,a,n0,n1,-,-⟩|⟨k,a,-,-,-⟩|⟨k,a,n0,-,-⟩|⟨k,a,n0,-,-⟩|⟨k,a,n0,-,-⟩|⟨k,a,n0,n1,-,-⟩
 all_goals dsimp only at k a
 ·obtain rfl:=len0 a
  have eb:qJm ps h (wrs ps h 0 [])=(itB h.2.1).data.toList:=by unfold qJm;rw[if_pos k]
  rw[eb] at hb ⊢
  dsimp only at n0 n1
  rw[if_pos (by simpa using k),zOo n0 n1]
  simp only[j0]
  rw[app1 hb]
  simp only[j0,qUj,deps,fE]
 ·obtain rfl:=len0 a
  dsimp only at n0 n1
  have k1:h.1≠1:=by omega
  have eb:qJm ps h (wrs ps h 0 [])=(ps.getD h.2.1.toNat ⟨#[]⟩).data.toList:=by unfold qJm;rw[if_neg k1,if_pos k]
  rw[eb] at hb ⊢
  have hlt:h.2.1.toNat<ps.length:=by omega
  rw[if_neg (by simpa using k1),if_pos (by simpa using k),qXq n0 hlt]
  simp only[j0]
  have e:ps.getD h.2.1.toNat ⟨#[]⟩=ps[h.2.1.toNat]:=by rw[kG,List.getElem?_eq_getElem hlt];rfl
  rw[e] at hb ⊢
  rw[app1 hb]
  simp only[j0,qUj,deps,fE]
 ·have k1:h.1≠1:=by omega
  have k2:h.1≠2:=by omega
  have k4:h.1≠4:=by omega
  have k5:h.1≠5:=by omega
  have eb:qJm ps h (wrs ps h 0 ks)=(h.2.2.2++(⟨#[40]⟩:ByteArray)).data.toList++(qPa 0 (wrs ps h 0 ks)++[41]):=by unfold qJm;rw[if_neg k1,if_neg k2,if_neg k4,if_neg k5,if_pos k]
  rw[eb] at hb ⊢
  rw[if_neg (by simpa using k1),if_neg (by simpa using k2),if_neg (by simpa using k4),if_neg (by simpa using k5),if_pos (by simpa using k)]
  simp only[jC,szl,ByteArray.size_append,jD,jF] at hb
  have hs1:(⟨#[40]⟩:ByteArray).size=1:=rfl
  rw[catW (by omega)]
  simp only[j0]
  rw[app1 (by rw[szl,ByteArray.size_append];omega)]
  simp only[j0,qUj]
  have hcl:=zGk (N:=N) (l:=l) (ps:=ps) (h:=h) (x1:=(h.1,h.2.1,h.2.2.1,h.2.2.2,qDk b ks)) (D:=D) (d:=d) hN (by show(qDk b ks).length<_;rw[qJh];exact hsz) (by omega) ks 0 b N (max m d) (buf++(h.2.2.2++(⟨#[40]⟩:ByteArray)).data.toList) hks rfl (kO _) hats hvk hD k4
   (by simp only[jC,szl,ByteArray.size_append];omega) (by omega) (by omega)
  rw[show((0:Nat):Int)=0 from rfl] at hcl
  rw[hcl]
  simp only[j0]
  rw[app1 (by simp only[jC,szl,ByteArray.size_append,jD,jF];omega)]
  simp only[j0,jE,if_neg k4,dG]
 ·obtain⟨t,u,rfl⟩:=len2 a
  have k1:h.1≠1:=by omega
  have k2:h.1≠2:=by omega
  simp only[qBo,gU] at hD hd hvk
  obtain⟨at1,atr⟩:=hats.head
  obtain⟨at2,-⟩:=atr.head
  have hl1:1≤lvH h∧lvH h≤3:=by
   unfold lvH
   rw[if_neg (show h.1≠5 by omega),if_pos k]
   split<;>(try split)<;>omega
  have hn0:qHs h 0=if lvH h=1 then 2 else lvH h:=by unfold qHs;rw[if_pos k,if_pos rfl]
  have hn1:qHs h 1=lvH h+1:=by unfold qHs;rw[if_pos k,if_neg (by decide)]
  have eb:qJm ps h (wrs ps h 0 [t,u])=t.wr ps (qHs h 0)++((((⟨#[32]⟩:ByteArray)++qUs h.2.2.1)++(⟨#[32]⟩:ByteArray)).data.toList++u.wr ps (qHs h 1)):=by unfold qJm;rw[if_neg k1,if_neg k2,if_pos k];rfl
  rw[eb] at hb ⊢
  rw[if_neg (by simpa using k1),if_neg (by simpa using k2),if_pos (by simpa using k)]
  have hneed:(if(lvH h==1)=true then(some (IntKind.wrap .i64 (lvH h+1))) else(some (lvH h)):Option (Int))=some (qHs h 0):=by
   rw[hn0]
   by_cases e:lvH h=1
   ·rw[if_pos (by simpa using e),if_pos e,wi64 (by omega) (by omega),e];rfl
   ·rw[if_neg (by simpa using e),if_neg e]
  have w1:IntKind.wrap .i64 (lvH h+1)=qHs h 1:=by rw[hn1,wi64 (by omega) (by omega)]
  have i0:idx (qDk b [t,u]) 0=some ((b+t.size-1:Nat):Int):=rfl
  have i1:idx (qDk b [t,u]) 1=some ((b+t.size+u.size-1:Nat):Int):=rfl
  simp only[j0,hneed,i0,i1,qUj]
  rw[w1]
  simp only[jC,szl,ByteArray.size_append] at hb
  have hs1:(⟨#[32]⟩:ByteArray).size=1:=rfl
  have hp1:=t.pos
  have hp2:=u.pos
  have q0:0≤qHs h 0:=by rw[hn0];split<;>omega
  have q1:0≤qHs h 1:=by rw[hn1];omega
  rw[hks t (jH ..) D b buf s (max m d) d (qHs h 0) at1 (fun x hx=>hvk x (by unfold qFm;exact kF _ hx)) (by omega) (by omega) (by omega) q0]
  simp only[j0,zRu]
  rw[show(qPg (some zNa) h.2.2.1).getD (⟨#[]⟩:ByteArray)=qUs h.2.2.1 from rfl,catW (by omega)]
  simp only[j0]
  rw[catW (by rw[ByteArray.size_append];omega)]
  simp only[j0]
  rw[app1 (by simp only[jC,szl,ByteArray.size_append];omega)]
  simp only[j0]
  rw[hks u (jM _ (jH ..)) D (b+t.size) _ true _ d (qHs h 1) at2 (fun x hx=>hvk x (by unfold qFm;refine kQ _ ?_;unfold qFm;exact kF _ hx)) (by omega) (by simp only[jC,szl,ByteArray.size_append];omega) (by omega) q1]
  simp only[j0,jE,if_pos k,deps,fE,dG]
 ·obtain⟨t,u,v,rfl⟩:=len3 a
  have k1:h.1≠1:=by omega
  have k2:h.1≠2:=by omega
  have k4:h.1≠4:=by omega
  simp only[qBo,gU] at hD hd hvk
  obtain⟨at1,atr⟩:=hats.head
  obtain⟨at2,atr⟩:=atr.head
  obtain⟨at3,-⟩:=atr.head
  have hnd:∀j,qHs h j=0:=fun j=>by unfold qHs;rw[if_neg k4]
  have eb:qJm ps h (wrs ps h 0 [t,u,v])=tI++(t.wr ps 0++(tThen++(u.wr ps 0++(tElse++v.wr ps 0)))):=by
   unfold qJm;rw[if_neg k1,if_neg k2,if_neg k4,if_pos k]
   simp only[wrs,hnd];rfl
  rw[eb] at hb ⊢
  rw[if_neg (by simpa using k1),if_neg (by simpa using k2),if_neg (by simpa using k4),if_pos (by simpa using k)]
  have hp1:=t.pos
  have hp2:=u.pos
  have hp3:=v.pos
  have l1:tI.length=3:=rfl
  have l2:tThen.length=6:=rfl
  have l3:tElse.length=6:=rfl
  simp only[jC] at hb
  obtain⟨M,rfl⟩:∃M,N=M+4:=⟨N-4,by omega⟩
  have i0:idx (qDk b [t,u,v]) 0=some ((b+t.size-1:Nat):Int):=rfl
  have i1:idx (qDk b [t,u,v]) 1=some ((b+t.size+u.size-1:Nat):Int):=rfl
  have i2:idx (qDk b [t,u,v]) 2=some ((b+t.size+u.size+v.size-1:Nat):Int):=rfl
  have a0:∀L:List UInt8,L.length+3≤1000000000→qCn 1 L [105,102,32]=some (L++tI):=fun L h=>app1 h
  have a1:∀L:List UInt8,L.length+6≤1000000000→qCn 1 L [32,116,104,101,110,32]=some (L++tThen):=fun L h=>app1 h
  have a2:∀L:List UInt8,L.length+6≤1000000000→qCn 1 L [32,101,108,115,101,32]=some (L++tElse):=fun L h=>app1 h
  have w0:IntKind.wrap .i64 ((0:Int)+1)=1:=by decide
  have w1:IntKind.wrap .i64 ((1:Int)+1)=2:=by decide
  have w2:IntKind.wrap .i64 ((2:Int)+1)=3:=by decide
  have s0:idx ([(⟨#[105,102,32]⟩:ByteArray),(⟨#[32,116,104,101,110,32]⟩:ByteArray),(⟨#[32,101,108,115,101,32]⟩:ByteArray)]) 0=some ⟨#[105,102,32]⟩:=rfl
  have s1:idx ([(⟨#[105,102,32]⟩:ByteArray),(⟨#[32,116,104,101,110,32]⟩:ByteArray),(⟨#[32,101,108,115,101,32]⟩:ByteArray)]) 1=some ⟨#[32,116,104,101,110,32]⟩:=rfl
  have s2:idx ([(⟨#[105,102,32]⟩:ByteArray),(⟨#[32,116,104,101,110,32]⟩:ByteArray),(⟨#[32,101,108,115,101,32]⟩:ByteArray)]) 2=some ⟨#[32,101,108,115,101,32]⟩:=rfl
  have c0:decide ((0:Int)<(List.length ([(⟨#[105,102,32]⟩:ByteArray),(⟨#[32,116,104,101,110,32]⟩:ByteArray),(⟨#[32,101,108,115,101,32]⟩:ByteArray)]):Int))=true:=by decide
  have c1:decide ((1:Int)<(List.length ([(⟨#[105,102,32]⟩:ByteArray),(⟨#[32,116,104,101,110,32]⟩:ByteArray),(⟨#[32,101,108,115,101,32]⟩:ByteArray)]):Int))=true:=by decide
  have c2:decide ((2:Int)<(List.length ([(⟨#[105,102,32]⟩:ByteArray),(⟨#[32,116,104,101,110,32]⟩:ByteArray),(⟨#[32,101,108,115,101,32]⟩:ByteArray)]):Int))=true:=by decide
  have c3:decide ((3:Int)<(List.length ([(⟨#[105,102,32]⟩:ByteArray),(⟨#[32,116,104,101,110,32]⟩:ByteArray),(⟨#[32,101,108,115,101,32]⟩:ByteArray)]):Int))=false:=by decide
  simp only[qAs,qJu,c0,jK,s0,j0,i0,ed,qUj]
  rw[a0 _ (by omega)]
  simp only[j0]
  rw[hks t (by simp) D b (buf++tI) true (max m d) (d+1) 0 at1 (fun x hx=>hvk x (by unfold qFm;exact kF _ hx)) (by omega) (by rw[jC];omega) (by omega) (dE 0)]
  simp only[j0,w0,c1,jK,s1,i1]
  rw[a1 _ (by simp only[jC];omega)]
  simp only[j0]
  rw[hks u (by simp) D (b+t.size) _ true _ (d+1) 0 at2 (fun x hx=>hvk x (by unfold qFm;refine kQ _ ?_;unfold qFm;exact kF _ hx)) (by omega) (by simp only[jC];omega) (by omega) (dE 0)]
  simp only[j0,w1,c2,jK,s2,i2]
  rw[a2 _ (by simp only[jC];omega)]
  simp only[j0]
  rw[hks v (by simp) D (b+t.size+u.size) _ true _ (d+1) 0 at3 (fun x hx=>hvk x (by unfold qFm;refine kQ _ ?_;unfold qFm;refine kQ _ ?_;unfold qFm;exact kF _ hx)) (by omega) (by simp only[jC];omega) (by omega) (dE 0)]
  simp only[j0,w2,c3,jB,jI,jE,if_neg k4,deps,hnd,fE,dG]
 ·obtain⟨t,rfl⟩:=len1 a
  have k1:h.1≠1:=by omega
  have k2:h.1≠2:=by omega
  have k4:h.1≠4:=by omega
  have k5:h.1≠5:=by omega
  have k3:h.1≠3:=by omega
  simp only[qBo,gU] at hD hd hvk
  obtain⟨at1,-⟩:=hats.head
  have hnd:∀j,qHs h j=0:=fun j=>by unfold qHs;rw[if_neg k4]
  have eb:qJm ps h (wrs ps h 0 [t])=(((⟨#[114,101,97,100,40,34]⟩:ByteArray)++h.2.2.2)++(⟨#[34,44,32]⟩:ByteArray)).data.toList++(t.wr ps 0++[41]):=by
   unfold qJm;rw[if_neg k1,if_neg k2,if_neg k4,if_neg k5,if_neg k3,if_pos k]
   simp only[wrs,hnd];rfl
  rw[eb] at hb ⊢
  rw[if_neg (by simpa using k1),if_neg (by simpa using k2),if_neg (by simpa using k4),if_neg (by simpa using k5),if_neg (by simpa using k3),if_pos (by simpa using k)]
  have hp1:=t.pos
  have i0:idx (qDk b [t]) 0=some ((b+t.size-1:Nat):Int):=rfl
  have z1:(⟨#[114,101,97,100,40,34]⟩:ByteArray).size=6:=rfl
  have z2:(⟨#[34,44,32]⟩:ByteArray).size=3:=rfl
  simp only[jC,szl,ByteArray.size_append,jD,jF] at hb
  rw[catW (by omega)]
  simp only[j0]
  rw[catW (by rw[ByteArray.size_append];omega)]
  simp only[j0]
  rw[app1 (by simp only[szl,ByteArray.size_append];omega)]
  simp only[j0,i0,ed,qUj]
  rw[hks t (by simp) D b _ true (max m d) (d+1) 0 at1 (fun x hx=>hvk x (by unfold qFm;exact kF _ hx)) (by omega) (by simp only[jC,szl,ByteArray.size_append];omega) (by omega) (dE 0)]
  simp only[j0]
  rw[app1 (by simp only[jC,szl,ByteArray.size_append,jD,jF];omega)]
  simp only[j0,jE,if_neg k4,deps,hnd,fE,dG]
 all_goals obtain rfl:=len0 a
 ·have k1:h.1≠1:=by omega
  have k2:h.1≠2:=by omega
  have k4:h.1≠4:=by omega
  have k5:h.1≠5:=by omega
  have k3:h.1≠3:=by omega
  have k6:h.1≠6:=by omega
  have k10:h.1≠10:=by omega
  have eb:qJm ps h (wrs ps h 0 [])=(((qQt h.1++(⟨#[40,34]⟩:ByteArray))++h.2.2.2)++(⟨#[34,41]⟩:ByteArray)).data.toList:=by
   unfold qJm;rw[if_neg k1,if_neg k2,if_neg k4,if_neg k5,if_neg k3,if_neg k6,if_neg k10]
  rw[eb] at hb ⊢
  rw[if_neg (by simpa using k1),if_neg (by simpa using k2),if_neg (by simpa using k4),if_neg (by simpa using k5),if_neg (by simpa using k3),if_neg (by simpa using k6),if_neg (by simpa using k10)]
  simp only[szl,ByteArray.size_append] at hb
  have z1:(⟨#[40,34]⟩:ByteArray).size=2:=rfl
  have z2:(⟨#[34,41]⟩:ByteArray).size=2:=rfl
  simp only[wm1,wm2,wm3,j0]
  rw[show(qPg (some zKh) h.1).getD (⟨#[]⟩:ByteArray)=qQt h.1 from rfl,catW (by omega)]
  simp only[j0]
  rw[catW (by rw[ByteArray.size_append];omega)]
  simp only[j0]
  rw[catW (by rw[ByteArray.size_append,ByteArray.size_append];omega)]
  simp only[j0]
  rw[app1 (by simp only[szl,ByteArray.size_append];omega)]
  simp only[j0,qUj,deps,fE]
 ·have k1:h.1≠1:=by omega
  have k2:h.1≠2:=by omega
  have k4:h.1≠4:=by omega
  have k5:h.1≠5:=by omega
  have k3:h.1≠3:=by omega
  have k6:h.1≠6:=by omega
  have k10:h.1≠10:=by omega
  have eb:qJm ps h (wrs ps h 0 [])=(((qQt h.1++(⟨#[40,34]⟩:ByteArray))++h.2.2.2)++(⟨#[34,41]⟩:ByteArray)).data.toList:=by
   unfold qJm;rw[if_neg k1,if_neg k2,if_neg k4,if_neg k5,if_neg k3,if_neg k6,if_neg k10]
  rw[eb] at hb ⊢
  rw[if_neg (by simpa using k1),if_neg (by simpa using k2),if_neg (by simpa using k4),if_neg (by simpa using k5),if_neg (by simpa using k3),if_neg (by simpa using k6),if_neg (by simpa using k10)]
  simp only[szl,ByteArray.size_append] at hb
  have z1:(⟨#[40,34]⟩:ByteArray).size=2:=rfl
  have z2:(⟨#[34,41]⟩:ByteArray).size=2:=rfl
  simp only[wm1,wm2,wm3,j0]
  rw[show(qPg (some zKh) h.1).getD (⟨#[]⟩:ByteArray)=qQt h.1 from rfl,catW (by omega)]
  simp only[j0]
  rw[catW (by rw[ByteArray.size_append];omega)]
  simp only[j0]
  rw[catW (by rw[ByteArray.size_append,ByteArray.size_append];omega)]
  simp only[j0]
  rw[app1 (by simp only[szl,ByteArray.size_append];omega)]
  simp only[j0,qUj,deps,fE]
 ·have k1:h.1≠1:=by omega
  have k2:h.1≠2:=by omega
  have k4:h.1≠4:=by omega
  have k5:h.1≠5:=by omega
  have k3:h.1≠3:=by omega
  have k6:h.1≠6:=by omega
  dsimp only at n0 n1
  have eb:qJm ps h (wrs ps h 0 [])=(((⟨#[102,108,105,112,40]⟩:ByteArray)++itB h.2.1)++(⟨#[41]⟩:ByteArray)).data.toList:=by
   unfold qJm;rw[if_neg k1,if_neg k2,if_neg k4,if_neg k5,if_neg k3,if_neg k6,if_pos k]
  rw[eb] at hb ⊢
  rw[if_neg (by simpa using k1),if_neg (by simpa using k2),if_neg (by simpa using k4),if_neg (by simpa using k5),if_neg (by simpa using k3),if_neg (by simpa using k6),if_pos (by simpa using k),zOo (by omega) (by omega)]
  simp only[szl,ByteArray.size_append] at hb
  simp only[j0]
  rw[catW (by omega)]
  simp only[j0]
  rw[catW (by rw[ByteArray.size_append];omega)]
  simp only[j0]
  rw[app1 (by simp only[szl,ByteArray.size_append];omega)]
  simp only[j0,qUj,deps,fE]
theorem zUr{h:Hd}{ks:List Rose}(hN:3000000<N)(hks:∀t∈ks,WrOk N l ps t)(hsz:ks.length<2000000):WrOk N l ps (.mk h ks):=by
 intro D b buf s m d need hat hv hD hb hd hneed
 simp only[Rose.size] at hD hd ⊢
 rw[show b+(qBo ks+1)-1=b+qBo ks by omega]
 simp only[Rose.wr,Rose.dep] at hb ⊢
 by_cases hl:lvH h<need
 ·rw[if_pos hl] at hb ⊢
  simp only[if_pos hl]
  simp only[jD,jC,jF] at hb
  obtain⟨D,rfl⟩:∃D',D=D'+2:=⟨D-2,by omega⟩
  have hlv:¬lvH h<0:=by
   unfold lvH
   split
   ·omega
   ·split
    ·split
     ·omega
     ·split<;>omega
    ·omega
  obtain⟨hn,-⟩:=hat.args
  have hn:l[b+qBo ks]? =some (h.1,h.2.1,h.2.2.1,h.2.2.2,qDk b ks):=hn
  have ed:IntKind.wrap .i64 ((d:Int)+1)=((d+1:Nat):Int):=by rw[wi64 (by omega) (by omega)];omega
  show qFo N (qEj N (D+1)) _ _ _ _=_
  unfold qFo
  dsimp only
  rw[qWs hn]
  simp only[j0]
  rw[show qKg N (h.1,h.2.1,h.2.2.1,h.2.2.2,qDk b ks)=some (lvH h) from zIy _]
  simp only[j0]
  rw[if_pos (by simpa using hl),app1 (by simp only[jD,jF];omega)]
  simp only[j0,ed]
  rw[zPq hN hks hat hv (by omega) (by simp only[jC,jD,jF];omega) (by omega) hlv hsz]
  simp only[j0]
  rw[app1 (by simp only[jC,jD,jF];omega)]
  simp only[j0,jE,jQ,jO]
 ·rw[if_neg hl] at hb ⊢
  simp only[if_neg hl]
  obtain⟨D,rfl⟩:∃D',D=D'+1:=⟨D-1,by omega⟩
  exact zPq hN hks hat hv (by omega) hb (by omega) hl hsz
end
mutual
theorem wr_ok{N:Nat}{l:List Ex}{ps:List ByteArray}(hN:3000000<N)(t:Rose)(hsz:t.size<2000000):WrOk N l ps t:=by
 match t with
 | .mk h ks=>
  have hs:qBo ks<2000000:=by simp only[Rose.size] at hsz;omega
  exact zUr hN (zTj hN ks hs) (by have:=qTg ks;omega)
theorem zTj{N:Nat}{l:List Ex}{ps:List ByteArray}(hN:3000000<N)(ks:List Rose)(hsz:qBo ks<2000000):∀t∈ks,WrOk N l ps t:=by
 match ks with
 |[]=>intro t h;cases h
 |t::ks=>
  have h1:t.size<2000000:=by simp only[qBo] at hsz;omega
  have h2:qBo ks<2000000:=by simp only[qBo] at hsz;omega
  have i1:=wr_ok (l:=l) (ps:=ps) hN t h1
  have i2:=zTj (l:=l) (ps:=ps) hN ks h2
  intro u hu
  rcases jN.1 hu with rfl|hu
  ·exact i1
  ·exact i2 u hu
end
end
section
open Go Go.Dc
abbrev Ct:=Int×List UInt8
def qLn(c:Ct):List UInt8:=if c.1=3 then 34::(c.2++[34]) else c.2
theorem qMd{k:Int}{l:List UInt8}(h:k≠3):qLn (k,l)=l:=by unfold qLn;rw[if_neg h]
def zNr:List (List UInt8):=[[59],[44],[40],[41],[43],[45],[42],[47],[37],[60],[61],[61,61]]
def okC(c:Ct):Prop:=(c.1=1∧(∃x l,c.2=x::l∧kd x=1)∧(∀x∈c.2,inK [1,2,3] x=true)∧c.2.length≤24)∨(c.1=2∧c.2≠[]∧(∀x∈c.2,inK [2] x=true)∧numL c.2≤9007199254740992)∨
 (c.1=3∧∀x∈c.2,qQs x=true)∨(c.1=4∧c.2∈zNr)
abbrev Core:=Int×ByteArray×Int
def qIn(c:Ct):Core:=(c.1,if c.1=2 then⟨#[]⟩ else⟨⟨c.2⟩⟩,if c.1=2 then numL c.2 else 0)
def qId(t:Tok):Core:=(t.1,t.2.1,t.2.2.1)
def zOq(c:Ct)(x:UInt8):Bool:=if c.1=1 then !inK [1,2,3] x else if c.1=2 then !inK [2] x else if c.2=[61] then x !=61 else true
abbrev Pc:=Ct×List UInt8
def qDb:List Pc→List UInt8
 |[]=>[]
 |p::l=>qLn p.1++(p.2++qDb l)
def qKm:List Pc→Prop
 |[]=>True
 |p::l=>okC p.1∧(∀x∈p.2,inK [5] x=true)∧(∀x r,p.2++qDb l=x::r→zOq p.1 x=true)∧qKm l
theorem qRk{p:UInt8→Bool}:∀{a r:List UInt8},(∀x∈a,p x=true)→(∀x q,r=x::q→p x=false)→(a++r).takeWhile p=a
 |[],[],_,_=>rfl
 |[],x::q,_,h=>by rw[jO,gV (by rw[h x q rfl];simp)]
 |x::a,r,h1,h2=>by rw[jQ,gN (h1 x (jH ..)),qRk (fun y hy=>h1 y (jM _ hy)) h2]
theorem zGq{p:UInt8→Bool}{pre a r:List UInt8}(h1:∀x∈a,p x=true)(h2:∀x q,r=x::q→p x=false):tw p (pre++(a++r)) pre.length=pre.length+a.length:=by
 unfold tw
 rw[List.drop_left,qRk h1 h2]
theorem qQq{pre:List UInt8}{x:UInt8}{r:List UInt8}:(pre++x::r).getD pre.length 0=x:=by
 rw[kG,List.getElem?_append_right (jP _),Nat.sub_self];rfl
theorem zHi{s:ByteArray}{pre a r:List UInt8}(h:s.data.toList=pre++(a++r)):s.extract pre.length (pre.length+a.length)=⟨⟨a⟩⟩:=
 ByteArray.ext (Array.ext' (by
  simp only[ByteArray.data_extract,hJ,fH]
  rw[h,List.drop_left,Nat.add_sub_cancel_left,hK]))
theorem zJy{l:List UInt8}(h:l∈zNr):(∃x,l=[x]∧kd x=8)∨l=[61,61]:=by
 simp only[zNr,jN,gG,dO] at h
 rcases h with rfl|rfl|rfl|rfl|rfl|rfl|rfl|rfl|rfl|rfl|rfl|rfl<;>first|exact .inr rfl|exact .inl ⟨_,rfl,by kernel_rfl⟩
theorem zHm{k:Int}{x:UInt8}:inK [k] x=true↔kd x=k:=by simp[inK]
theorem zNy{c:Ct}(h:okC c):∃x r,qLn c=x::r∧(kd x=1∨kd x=2∨kd x=7∨kd x=8):=by
 obtain⟨k,l⟩:=c
 rcases h with ⟨rfl,⟨x,r,h1,h2⟩,-,-⟩|⟨rfl,h1,h2,-⟩|⟨rfl,h1⟩|⟨rfl,h1⟩
 ·exact⟨x,r,by rw[qMd (by decide)];exact h1,.inl h2⟩
 ·cases l with
  |nil=>exact absurd rfl h1
  |cons x r=>exact⟨x,r,qMd (by decide),.inr (.inl (zHm.1 (h2 x (jH ..))))⟩
 ·exact⟨34,l++[34],by unfold qLn;rw[if_pos rfl],.inr (.inr (.inl (by kernel_rfl)))⟩
 ·rcases zJy h1 with ⟨x,h2,h3⟩|h2
  ·have h2:l=[x]:=h2
   subst h2
   exact⟨x,[],qMd (by decide),.inr (.inr (.inr h3))⟩
  ·have h2:l=[61,61]:=h2
   subst h2
   exact⟨61,[61],qMd (by decide),.inr (.inr (.inr (by kernel_rfl)))⟩
theorem zRs{s:ByteArray}{pre r:List UInt8}{c:Ct}(hc:okC c)(hs:s.data.toList=pre++(qLn c++r))(he:∀x q,r=x::q→zOq c x=true):
  tokP s pre.length=(((qIn c).1,(qIn c).2.1,(qIn c).2.2,0),((pre.length+(qLn c).length:Nat):Int),0):=by
 obtain⟨k,l⟩:=c
 rcases hc with ⟨rfl,⟨x,q,h1,h2⟩,h3,h4⟩|⟨rfl,h1,h2,h3⟩|⟨rfl,h1⟩|⟨rfl,h1⟩
 ·have eb:qLn (1,l)=l:=qMd (by decide)
  rw[eb] at hs ⊢
  have h1:l=x::q:=h1
  have e0:s.data.toList.getD pre.length 0=x:=by rw[hs,h1];exact qQq
  have e1:tw (inK [1,2,3]) s.data.toList pre.length=pre.length+l.length:=by
   rw[hs]
   exact zGq h3 fun y z hy=>by have:=he y z hy;simpa[zOq] using this
  have h4:l.length≤24:=h4
  unfold tokP
  rw[if_pos (by rw[e0];exact h2),e1,if_neg (by omega),zHi hs]
  rfl
 ·have eb:qLn (2,l)=l:=qMd (by decide)
  rw[eb] at hs ⊢
  have h1:l≠[]:=h1
  have h3:numL l≤9007199254740992:=h3
  obtain⟨x,q,e⟩:∃x q,l=x::q:=by cases l with
   |nil=>exact absurd rfl h1
   |cons x q=>exact⟨x,q,rfl⟩
  have e0:s.data.toList.getD pre.length 0=x:=by rw[hs,e];exact qQq
  have hk:kd x=2:=zHm.1 (h2 x (by show x∈l;rw[e];exact jH ..))
  have hn:∀y z,r=y::z→inK [2] y=false:=fun y z hy=>by have:=he y z hy;simpa[zOq] using this
  have e1:tw (inK [2]) s.data.toList pre.length=pre.length+l.length:=by
   rw[hs];exact zGq h2 hn
  have e2:(s.data.toList.drop pre.length).takeWhile (inK [2])=l:=by
   rw[hs,List.drop_left];exact qRk h2 hn
  unfold tokP
  rw[if_neg (by rw[e0,hk];decide),if_pos (by rw[e0];exact hk),e1,e2,if_neg (by omega)]
  rfl
 ·have eb:qLn (3,l)=34::(l++[34]):=by unfold qLn;rw[if_pos rfl]
  rw[eb] at hs ⊢
  have e0:s.data.toList.getD pre.length 0=34:=by rw[hs];exact qQq
  have hk:kd 34=7:=by kernel_rfl
  have hs2:s.data.toList=(pre++[34])++(l++(34::r)):=by rw[hs];simp
  have hpl:(pre++[34]).length=pre.length+1:=by simp
  have e1:tw qQs s.data.toList (pre.length+1)=pre.length+1+l.length:=by
   rw[hs2,←hpl]
   exact zGq h1 fun y z hy=>by cases hy;rfl
  have e2:s.data.toList.getD (pre.length+1+l.length) 0=34:=by
   rw[hs,show pre++(34::(l++[34])++r)=(pre++34::l)++34::r by simp,show pre.length+1+l.length=(pre++34::l).length by simp;omega]
   exact qQq
  have e3:=zHi hs2
  rw[hpl] at e3
  unfold tokP
  rw[if_neg (by rw[e0,hk];decide),if_neg (by rw[e0,hk];decide),if_pos (by rw[e0];exact hk),e1,if_pos e2,e3]
  unfold qIn
  simp only[jD,jC,jF]
  rw[show pre.length+1+l.length+1=pre.length+(l.length+(0+1)+1) by omega]
  rfl
 ·have eb:qLn (4,l)=l:=qMd (by decide)
  rw[eb] at hs ⊢
  have k8:∀{x:UInt8},kd x=8→kd x≠1∧kd x≠2∧kd x≠7:=fun h=>by rw[h];decide
  have key:∀x q,l=x::q→kd x=8→qZm s.data.toList pre.length=pre.length+l.length→tokP s pre.length=(((qIn (4,l)).1,(qIn (4,l)).2.1,(qIn (4,l)).2.2,0),((pre.length+l.length:Nat):Int),0):=fun x q e hk hE=>by
   have e0:s.data.toList.getD pre.length 0=x:=by rw[hs,e];exact qQq
   obtain⟨n1,n2,n3⟩:=k8 hk
   unfold tokP
   rw[if_neg (by rw[e0];exact n1),if_neg (by rw[e0];exact n2),if_neg (by rw[e0];exact n3),if_pos (by rw[e0];exact hk),hE,zHi hs]
   rfl
  rcases zJy h1 with ⟨x,h2,h3⟩|h2
  ·have h2:l=[x]:=h2
   refine key x [] h2 h3 ?_
   have e0:s.data.toList.getD pre.length 0=x:=by rw[hs,h2];exact qQq
   unfold qZm
   rw[if_neg,h2]
   ·rfl
   ·rw[e0]
    rintro⟨rfl,g⟩
    cases r with
    |nil=>
     rw[hs,h2,kG,List.getElem?_eq_none (by simp)] at g
     cases g
    |cons y z=>
     have e4:s.data.toList.getD (pre.length+1) 0=y:=by
      rw[hs,h2,show pre++([61]++y::z)=(pre++[61])++y::z by simp,show pre.length+1=(pre++[(61:UInt8)]).length by simp]
      exact qQq
     have:=he y z rfl
     simp only[zOq,h2] at this
     rw[e4] at g
     simp[g] at this
  ·have h2:l=[61,61]:=h2
   refine key 61 [61] h2 (by kernel_rfl) ?_
   have e0:s.data.toList.getD pre.length 0=61:=by rw[hs,h2];exact qQq
   have e4:s.data.toList.getD (pre.length+1) 0=61:=by
    rw[hs,h2,show pre++([61,61]++r)=(pre++[61])++61::r by simp,show pre.length+1=(pre++[(61:UInt8)]).length by simp]
    exact qQq
   unfold qZm
   rw[if_pos ⟨e0,e4⟩,h2]
   rfl
theorem qWr{s:ByteArray}:∀(ps:List Pc) (pre bl:List UInt8) (k:Nat),s.data.toList=pre++(bl++qDb ps)→(∀x∈bl,inK [5] x=true)→qKm ps→ps.length<k→
  ∃ts,tokG k s pre.length= .inr ts∧ts.map qId=ps.map (fun p=>qIn p.1)++[(5,⟨#[]⟩,0)]
 |_,_,_,0,_,_,_,h=>absurd h (kL _)
 |[],pre,bl,k+1,hs,hb,_,_=>by
  have hs':s.data.toList=pre++(bl++[]):=hs
  have e:tw (inK [5]) s.data.toList pre.length=s.data.toList.length:=by
   rw[hs',zGq hb fun x q h=>by cases h]
   simp
  refine⟨[(5,⟨#[]⟩,0,(s.data.toList.length:Int))],?_,rfl⟩
  unfold tokG
  rw[e,if_pos rfl]
 |p::ps,pre,bl,k+1,hs,hb,hg,hk=>by
  obtain⟨g1,g2,g3,g4⟩:=hg
  obtain⟨x,r,f1,f2⟩:=zNy g1
  have n5:inK [5] x=false:=by
   cases h:inK [5] x with
   |false=>rfl
   |true=>have:=zHm.1 h;rcases f2 with f|f|f|f<;>rw[f] at this<;>cases this
  have n6:kd x≠6:=by rcases f2 with f|f|f|f<;>rw[f]<;>decide
  have hs1:s.data.toList=pre++(bl++(qLn p.1++(p.2++qDb ps))):=hs
  have hs2:s.data.toList=(pre++bl)++(qLn p.1++(p.2++qDb ps)):=by rw[hs1];simp
  have hs3:s.data.toList=(pre++bl++qLn p.1)++(p.2++qDb ps):=by rw[hs1];simp
  have hpl:(pre++bl).length=pre.length+bl.length:=by simp
  have e1:tw (inK [5]) s.data.toList pre.length=pre.length+bl.length:=by
   rw[hs1]
   refine zGq hb fun y q h=> ?_
   rw[f1] at h
   cases h
   exact n5
  have e0:s.data.toList.getD (pre.length+bl.length) 0=x:=by
   rw[hs2,f1,←hpl];exact qQq
  have hlen:s.data.toList.length≠pre.length+bl.length:=by
   rw[hs2,f1];simp only[jC,jD];omega
  have ht:=zRs g1 hs2 g3
  rw[hpl] at ht
  obtain⟨ts,t1,t2⟩:=qWr ps (pre++bl++qLn p.1) p.2 k hs3 g2 g4 (by simp only[jD] at hk;omega)
  have hl2:(pre++bl++qLn p.1).length=pre.length+bl.length+(qLn p.1).length:=by simp;omega
  refine⟨((qIn p.1).1,(qIn p.1).2.1,(qIn p.1).2.2,((pre.length+bl.length:Nat):Int))::ts,?_,?_⟩
  ·unfold tokG
   rw[e1,if_neg (Ne.symm hlen),if_neg (by rw[e0];exact n6),ht]
   simp only[ne_eq,not_true_eq_false,jI,jR]
   rw[←hl2,t1]
  ·rw[kI,t2];rfl
end
section
open Go Go.Dc Go.Proofs
theorem zEh:∀i:Fin 10,inK [2] (UInt8.ofNat (48+i.val))=true∧(UInt8.ofNat (48+i.val)).toNat=48+i.val:=by decide+kernel
theorem zCi{n:Nat}(h:¬n<10):Lib.decDigits n=Lib.decDigits (n/10)++[UInt8.ofNat (48+n%10)]:=by rw[Lib.decDigits,dif_neg h]
theorem zNc(n:Nat):∀x∈Lib.decDigits n,inK [2] x=true:=by
 induction n using Nat.strongRecOn with
 |_ n ih=>
  intro x hx
  by_cases h:n<10
  ·rw[Lib.decDigits_one h,jS] at hx
   rw[hx];exact(zEh ⟨n,h⟩).1
  ·rw[zCi h] at hx
   rcases gF.1 hx with hx|hx
   ·exact ih (n/10) (by omega) x hx
   ·rw[jS] at hx
    rw[hx];exact(zEh ⟨n%10,by omega⟩).1
theorem zTa(n:Nat):Lib.decDigits n≠[]:=by
 intro h
 have:=Lib.decDigits_length n
 rw[h] at this
 have:=Lib.nDigits_pos n
 simp only[jF] at*;omega
theorem zKy(n:Nat)(hn:n≤9007199254740992):numL (Lib.decDigits n)=(n:Int):=by
 induction n using Nat.strongRecOn with
 |_ n ih=>
  by_cases h:n<10
  ·rw[Lib.decDigits_one h]
   have:=(zEh ⟨n,h⟩).2
   show numS 0 (UInt8.ofNat (48+n))=_
   unfold numS
   simp only at this
   rw[this,if_neg (by omega)];omega
  ·rw[zCi h,zEp,ih (n/10) (by omega) (by omega)]
   have:=(zEh ⟨n%10,by omega⟩).2
   simp only at this
   unfold numS
   rw[this,if_neg (by omega)];omega
theorem zIi:∀(k n:Nat),n<10^(k+1)→(Lib.decDigits n).length≤k+1
 |0,n,h=>by rw[Lib.decDigits_one (by simpa using h)];exact jP _
 |k+1,n,h=>by
  by_cases h10:n<10
  ·rw[Lib.decDigits_one h10];simp
  ·rw[Nat.pow_succ] at h
   have:=zIi k (n/10) (by omega)
   rw[zCi h10,jC,gZ];omega
theorem zSn(n:Nat):(itB (n:Int)).data.toList=Lib.decDigits n:=by
 unfold itB Lib.itoa
 rw[if_neg (by omega),jR]
theorem zPx{x y:ByteArray}(h:x.data.toList=y.data.toList):x=y:=ByteArray.ext (Array.ext' h)
theorem qHj(x y:ByteArray):(x++y).data.toList=x.data.toList++y.data.toList:=by
 rw[ByteArray.data_append,Array.toList_append]
end
section
open Go Go.Dc Go.Proofs
theorem qYv{s:ByteArray}(h:qOi s=true):s.size≤24:=by
 have:=(gL h).2.1
 rw[szl] at this;exact this
theorem qTp{s:ByteArray}(h:qMc s.data.toList=true):s.size≤80:=by
 have:s.data.toList.length≤80:=(gL h).1
 rw[szl] at this;exact this
theorem qKy{s:ByteArray}(h:qDf s=true):s.size≤24:=by
 unfold qDf at h
 rw[jL] at h
 exact qYv h.1
theorem zNu{op:Int}(h0:1≤op)(h1:op≤7):(qUs op).size≤2:=by
 rcases(by omega:op=1∨op=2∨op=3∨op=4∨op=5∨op=6∨op=7) with rfl|rfl|rfl|rfl|rfl|rfl|rfl<;>decide+kernel
theorem zEw{k:Int}(h:k=7∨k=8∨k=9):(qQt k).size≤4:=by
 rcases h with rfl|rfl|rfl<;>decide+kernel
theorem zOu{n:Int}(h0: -9007199254740992≤n)(h1:n≤9007199254740992):(itB n).size≤17:=by
 rw[←szl]
 show(Lib.itoa n).length≤17
 unfold Lib.itoa
 split
 ·have:=zIi 15 n.natAbs (by omega)
  simp only[jD];omega
 ·have:=zIi 15 n.toNat (by omega)
  omega
def lens(ws:List (List UInt8)):Nat:=(ws.map fun w=>w.length+2).sum
theorem zAi:∀(ws:List (List UInt8)) (k:Nat),(qPa k ws).length≤lens ws
 |[],_=>kO _
 |w::ws,k=>by
  have ih:=zAi ws (k+1)
  have hs:(sepK k).length≤2:=by unfold sepK;split<;>simp
  unfold lens at*
  simp only[qPa,jC,kI,dI];omega
theorem zRr{ps:List ByteArray}{h:Hd}{ks:List Rose}{b:Nat}(hps:∀s∈ps,s.size≤24)(hn:qMb (ps.length:Int) (qLf h (qDk b ks))=true):(qJm ps h (wrs ps h 0 ks)).length≤100+lens (wrs ps h 0 ks):=by
 rcases qSt hn with ⟨k,a,n0,n1,-,-⟩|⟨k,a,n0,n1,-,-⟩|⟨k,a,-,-⟩|⟨k,a,n0,n1,-,-⟩|⟨k,a,-,-,-⟩|⟨k,a,n0,-,-⟩|⟨k,a,n0,-,-⟩|⟨k,a,n0,-,-⟩|⟨k,a,n0,n1,-,-⟩
 all_goals (try simp only[qLf] at k)<;>(try simp only[qLf] at a)
 ·have:(itB h.2.1).size≤17:=zOu n0 n1
  unfold qJm
  rw[if_pos k,szl];omega
 ·have k1:h.1≠1:=by omega
  try simp only[qLf] at n0 n1
  have hlt:h.2.1.toNat<ps.length:=by omega
  have e:ps.getD h.2.1.toNat ⟨#[]⟩=ps[h.2.1.toNat]:=by rw[kG,List.getElem?_eq_getElem hlt];rfl
  have:=hps _ (k9 hlt)
  unfold qJm
  rw[if_neg k1,if_pos k,e,szl];omega
 ·have k1:h.1≠1:=by omega
  have k2:h.1≠2:=by omega
  have k4:h.1≠4:=by omega
  have k5:h.1≠5:=by omega
  have h1:=qKy a
  have h2:=zAi (wrs ps h 0 ks) 0
  have z1:(⟨#[40]⟩:ByteArray).size=1:=rfl
  unfold qJm
  rw[if_neg k1,if_neg k2,if_neg k4,if_neg k5,if_pos k]
  try simp only[qLf] at h1
  simp only[jC,szl,ByteArray.size_append,jD,jF];omega
 ·obtain⟨t,u,rfl⟩:=len2 a
  have k1:h.1≠1:=by omega
  have k2:h.1≠2:=by omega
  have h1:=zNu n0 n1
  have z1:(⟨#[32]⟩:ByteArray).size=1:=rfl
  try simp only[qLf] at h1
  unfold qJm
  rw[if_neg k1,if_neg k2,if_pos k]
  simp only[wrs,lens,kI,List.map_nil,dI,List.sum_nil,List.getD_cons_zero,List.getD_cons_succ,jC,szl,ByteArray.size_append];omega
 ·obtain⟨t,u,v,rfl⟩:=len3 a
  have k1:h.1≠1:=by omega
  have k2:h.1≠2:=by omega
  have k4:h.1≠4:=by omega
  have l1:tI.length=3:=rfl
  have l2:tThen.length=6:=rfl
  have l3:tElse.length=6:=rfl
  unfold qJm
  rw[if_neg k1,if_neg k2,if_neg k4,if_pos k]
  simp only[wrs,lens,kI,List.map_nil,dI,List.sum_nil,List.getD_cons_zero,List.getD_cons_succ,jC];omega
 ·obtain⟨t,rfl⟩:=len1 a
  have k1:h.1≠1:=by omega
  have k2:h.1≠2:=by omega
  have k4:h.1≠4:=by omega
  have k5:h.1≠5:=by omega
  have k3:h.1≠3:=by omega
  have h1:=qTp n0
  have z1:(⟨#[114,101,97,100,40,34]⟩:ByteArray).size=6:=rfl
  have z2:(⟨#[34,44,32]⟩:ByteArray).size=3:=rfl
  try simp only[qLf] at h1
  unfold qJm
  rw[if_neg k1,if_neg k2,if_neg k4,if_neg k5,if_neg k3,if_pos k]
  simp only[wrs,lens,kI,List.map_nil,dI,List.sum_nil,List.getD_cons_zero,jC,szl,ByteArray.size_append,jD,jF];omega
 all_goals obtain rfl:=len0 a
 all_goals have k1:h.1≠1:=by omega
 all_goals have k2:h.1≠2:=by omega
 all_goals have k4:h.1≠4:=by omega
 all_goals have k5:h.1≠5:=by omega
 all_goals have k3:h.1≠3:=by omega
 all_goals have k6:h.1≠6:=by omega
 ·have k10:h.1≠10:=by omega
  have h1:=qTp n0
  have h2:=zEw (k:=h.1) (by omega)
  have z1:(⟨#[40,34]⟩:ByteArray).size=2:=rfl
  have z2:(⟨#[34,41]⟩:ByteArray).size=2:=rfl
  try simp only[qLf] at h1
  unfold qJm
  rw[if_neg k1,if_neg k2,if_neg k4,if_neg k5,if_neg k3,if_neg k6,if_neg k10]
  simp only[szl,ByteArray.size_append];omega
 ·have k10:h.1≠10:=by omega
  have h1:=qYv n0
  have h2:=zEw (k:=h.1) (by omega)
  have z1:(⟨#[40,34]⟩:ByteArray).size=2:=rfl
  have z2:(⟨#[34,41]⟩:ByteArray).size=2:=rfl
  try simp only[qLf] at h1
  unfold qJm
  rw[if_neg k1,if_neg k2,if_neg k4,if_neg k5,if_neg k3,if_neg k6,if_neg k10]
  simp only[szl,ByteArray.size_append];omega
 ·try simp only[qLf] at n0 n1
  have h1:=zOu (n:=h.2.1) (by omega) (by omega)
  have z1:(⟨#[102,108,105,112,40]⟩:ByteArray).size=5:=rfl
  have z2:(⟨#[41]⟩:ByteArray).size=1:=rfl
  unfold qJm
  rw[if_neg k1,if_neg k2,if_neg k4,if_neg k5,if_neg k3,if_neg k6,if_pos k]
  simp only[szl,ByteArray.size_append];omega
mutual
theorem zTd{ps:List ByteArray}(hps:∀s∈ps,s.size≤24)(t:Rose)(b:Nat)(need:Int)(hv:∀x∈t.flat b,qMb (ps.length:Int) x=true):(t.wr ps need).length+2≤110*t.size:=by
 match t with
 | .mk h ks=>
  have h1:=zMk hps ks h 0 b (fun x hx=>hv x (by unfold Rose.flat;exact kF _ hx))
  have h2:=zRr (b:=b) hps (hv (qLf h (qDk b ks)) (by unfold Rose.flat;exact kQ _ (jH ..)))
  simp only[Rose.wr,Rose.size]
  split
  ·simp only[jD,jC,jF];omega
  ·omega
theorem zMk{ps:List ByteArray}(hps:∀s∈ps,s.size≤24)(l:List Rose)(h:Hd)(k b:Nat)(hv:∀x∈qFm b l,qMb (ps.length:Int) x=true):lens (wrs ps h k l)≤110*qBo l:=by
 match l with
 |[]=>exact kO _
 |t::l=>
  have h1:=zTd hps t b (qHs h k) (fun x hx=>hv x (by unfold qFm;exact kF _ hx))
  have h2:=zMk hps l h (k+1) (b+t.size) (fun x hx=>hv x (by unfold qFm;exact kQ _ hx))
  simp only[wrs,lens,kI,dI,qBo] at*
  omega
end
def wrD(d:Dl):List UInt8:=match zCr d.2.2.2 with
 |some t=>t.wr d.2.2.1 0
 |none=>[]
def depD(d:Dl):Nat:=match zCr d.2.2.2 with
 |some t=>t.dep 0 1
 |none=>0
structure GoodD(d:Dl):Prop where
 head:zDl d=true
 pars:∀s∈d.2.2.1,d.1=1∧qDf s=true
 nodes:∀x∈d.2.2.2,qMb (d.2.2.1.length:Int) x=true
 tree:oneP (ordS d.2.2.2 0 [])=true
theorem zJx{d:Dl}(h:qGr d=true):GoodD d:=by
 unfold qGr zEt zFx at h
 simp only[jL,kA,kJ] at h
 exact⟨h.1,h.2.1,h.2.2.1,h.2.2.2⟩
theorem zSo{ps:List ByteArray}{h:Hd}{ks:List Rose}{b:Nat}(hps:∀s∈ps,s.data.toList≠[])(hn:qMb (ps.length:Int) (qLf h (qDk b ks))=true):qJm ps h (wrs ps h 0 ks)≠[]:=by
 have ne:∀{x y:List UInt8},y≠[]→x++y≠[]:=fun h e=>h (dK.1 e).2
 have nel:∀{x y:List UInt8},x≠[]→x++y≠[]:=fun h e=>h (dK.1 e).1
 rcases qSt hn with ⟨k,a,n0,n1,-,-⟩|⟨k,a,n0,n1,-,-⟩|⟨k,a,-,-⟩|⟨k,a,n0,n1,-,-⟩|⟨k,a,-,-,-⟩|⟨k,a,n0,-,-⟩|⟨k,a,n0,-,-⟩|⟨k,a,n0,-,-⟩|⟨k,a,n0,n1,-,-⟩
 all_goals try simp only[qLf] at k
 ·unfold qJm
  rw[if_pos k]
  show Lib.itoa h.2.1≠[]
  unfold Lib.itoa
  split
  ·simp
  ·exact zTa _
 ·have k1:h.1≠1:=by omega
  try simp only[qLf] at n0 n1
  have hlt:h.2.1.toNat<ps.length:=by omega
  have e:ps.getD h.2.1.toNat ⟨#[]⟩=ps[h.2.1.toNat]:=by rw[kG,List.getElem?_eq_getElem hlt];rfl
  unfold qJm
  rw[if_neg k1,if_pos k,e]
  exact hps _ (k9 hlt)
 all_goals have k1:h.1≠1:=by omega
 all_goals have k2:h.1≠2:=by omega
 ·have k4:h.1≠4:=by omega
  have k5:h.1≠5:=by omega
  unfold qJm
  rw[if_neg k1,if_neg k2,if_neg k4,if_neg k5,if_pos k]
  exact ne (ne (by simp))
 ·unfold qJm
  rw[if_neg k1,if_neg k2,if_pos k]
  refine ne (nel ?_)
  rw[qHj,qHj]
  exact ne (by simp)
 all_goals have k4:h.1≠4:=by omega
 ·unfold qJm
  rw[if_neg k1,if_neg k2,if_neg k4,if_pos k]
  exact nel (by simp[tI])
 all_goals have k5:h.1≠5:=by omega
 all_goals have k3:h.1≠3:=by omega
 ·unfold qJm
  rw[if_neg k1,if_neg k2,if_neg k4,if_neg k5,if_neg k3,if_pos k]
  exact ne (ne (by simp))
 all_goals have k6:h.1≠6:=by omega
 ·have k10:h.1≠10:=by omega
  unfold qJm
  rw[if_neg k1,if_neg k2,if_neg k4,if_neg k5,if_neg k3,if_neg k6,if_neg k10,qHj]
  exact ne (by simp)
 ·have k10:h.1≠10:=by omega
  unfold qJm
  rw[if_neg k1,if_neg k2,if_neg k4,if_neg k5,if_neg k3,if_neg k6,if_neg k10,qHj]
  exact ne (by simp)
 ·unfold qJm
  rw[if_neg k1,if_neg k2,if_neg k4,if_neg k5,if_neg k3,if_neg k6,if_pos k,qHj]
  exact ne (by simp)
theorem wr_ne{ps:List ByteArray}(hps:∀s∈ps,s.data.toList≠[])(t:Rose)(b:Nat)(need:Int)(hv:∀x∈t.flat b,qMb (ps.length:Int) x=true):t.wr ps need≠[]:=by
 cases t with
 |mk h ks=>
  simp only[Rose.wr]
  split
  ·simp
  ·exact zSo (b:=b) hps (hv (qLf h (qDk b ks)) (by unfold Rose.flat;exact kQ _ (jH ..)))
theorem zSe{s:ByteArray}(h:qDf s=true):s.data.toList≠[]:=by
 unfold qDf at h
 rw[jL] at h
 have:=(gL h.1).1
 intro e
 rw[e] at this
 simp at this
theorem zDw{N:Nat}{d:Dl}(hd:GoodD d)(hb:d.2.2.2.length≤256)(hN:3000000<N):qLm N d.2.2.2 d.2.2.1=some (qKl (wrD d),(depD d:Int))∧(wrD d).length≤30000:=by
 obtain⟨t,h1,h2⟩:=qXr hd.tree
 have hsz:t.size=d.2.2.2.length:=by
  have:=qDc t 0
  rw[←h2] at this;exact this.symm
 have hp:=t.pos
 have hv:∀x∈t.flat 0,qMb (d.2.2.1.length:Int) x=true:=fun x hx=>hd.nodes x (by rw[h2];exact hx)
 have hwl:=zTd (ps:=d.2.2.1) (fun s hs=>qKy (hd.pars s hs).2) t 0 0 hv
 have hat:AtT d.2.2.2 0 t:=by
  have:=AtT.whole t
  rw[←h2] at this;exact this
 have hw:wrD d=t.wr d.2.2.1 0:=by unfold wrD;rw[h1]
 have hdp:depD d=t.dep 0 1:=by unfold depD;rw[h1]
 refine⟨?_,by rw[hw];omega⟩
 unfold qLm
 rw[wi64 (by omega) (by omega)]
 have hr:=wr_ok (l:=d.2.2.2) (ps:=d.2.2.1) hN t (by omega) N 0 [] false 0 1 0 hat hv (by omega) (by simp only[jF];omega) (by omega) (dE 0)
 rw[show(((0+t.size-1:Nat)):Int)=(d.2.2.2.length:Int)-1 by omega,show((0:Nat):Int)=0 from rfl,show((1:Nat):Int)=1 from rfl] at hr
 rw[show qMt N ((false,([]:List (UInt8))),d.2.2.2,d.2.2.1,0) ((d.2.2.2.length:Int)-1) 0 1=_ from hr]
 simp only[j0,jO]
 have hne:=wr_ne (ps:=d.2.2.1) (fun s hs=>zSe (hd.pars s hs).2) t 0 0 hv
 have hnn:nonE (t.wr d.2.2.1 0)=some ():=by
  cases hh:t.wr d.2.2.1 0 with
  |nil=>exact absurd hh hne
  |cons a l=>rfl
 rw[hnn,hw,hdp]
 simp only[j0,Nat.zero_max]
end
section
open Go Go.Dc Go.Proofs
def zDz(l:List ByteArray):ByteArray:=⟨⟨qPa 0 (l.map fun s=>s.data.toList)⟩⟩
def zDs(d:Dl):ByteArray:=
 if d.1=1 then((((⟨#[102,117,110,99,32]⟩:ByteArray)++d.2.1)++(⟨#[40]⟩:ByteArray))++zDz d.2.2.1)++(⟨#[41]⟩:ByteArray)
 else if d.1=2 then(⟨#[116,101,115,116,32]⟩:ByteArray)++d.2.1
 else((⟨#[103,101,110,32,34]⟩:ByteArray)++d.2.1)++(⟨#[34]⟩:ByteArray)
def zCz(d:Dl):List UInt8:=(zDs d).data.toList++(((⟨#[32,61,32]⟩:ByteArray)++qKl (wrD d))++(⟨#[59,10]⟩:ByteArray)).data.toList
def pkgT(s:ByteArray):List UInt8:=(((⟨#[112,97,99,107,97,103,101,32]⟩:ByteArray)++s)++(⟨#[59,10]⟩:ByteArray)).data.toList
def impT(s:ByteArray):List UInt8:=(((⟨#[105,109,112,111,114,116,32]⟩:ByteArray)++s)++(⟨#[59,10]⟩:ByteArray)).data.toList
def fmtT(f:Sr):List UInt8:=(pkgT f.1++f.2.1.flatMap impT)++f.2.2.flatMap zCz
theorem zCe{α:Type}(g:α→List UInt8):∀(l:List α) (t:List UInt8),l.foldl (fun t x=>t++g x) t=t++l.flatMap g
 |[],t=>by simp
 |x::l,t=>by rw[fV,zCe g l,kN,jE]
structure GoodS(f:Sr):Prop where
 pkg:qDf f.1=true
 imps:∀s∈f.2.1,qDf s=true
 impn:f.2.1.length≤8
 decn:f.2.2.length≤64
 decs:∀d∈f.2.2,GoodD d∧d.2.2.1.length≤8∧d.2.2.2.length≤256∧qYi d.2.2.2=false
 once:qSj f=false
theorem qSd{f:Sr}(h:qLc f=0):GoodS f:=by
 unfold qLc at h
 split at h
 ·rename_i hs
  split at h
  ·cases h
  ·rename_i ht
   split at h
   ·cases h
   ·rename_i hm
    have hm:zCw f=false:=by simpa using hm
    unfold synP at hs
    unfold zCw at hm
    simp only[jL,kA] at hs
    simp only[kS,decide_eq_false_iff_not,fY] at hm
    refine⟨hs.1,hs.2.1,by omega,by omega,fun d hd=> ?_,by simpa using ht⟩
    have h1:=hm.2.2 d hd
    unfold qXn at h1
    simp only[Bool.not_eq_true,kS,decide_eq_false_iff_not] at h1
    exact⟨zJx (hs.2.2 d hd),by omega,by omega,h1.2.2⟩
 ·cases h
theorem zDm{l:List ByteArray}(h:∀s∈l,s.size≤24):(zDz l).size≤26*l.length:=by
 have h1:=zAi (l.map fun s=>s.data.toList) 0
 have h2:lens (l.map fun s=>s.data.toList)≤26*l.length:=by
  clear h1
  induction l with
  |nil=>exact kO _
  |cons s l ih=>
   have i1:=h s (jH ..)
   have i2:=ih fun x hx=>h x (jM _ hx)
   unfold lens at*
   simp only[kI,dI,jD,szl] at*
   omega
 have h3:(zDz l).size=(qPa 0 (l.map fun s=>s.data.toList)).length:=by rw[←szl];rfl
 omega
theorem zCx{d:Dl}(h:GoodD d):d.2.1.size≤80:=by
 have:=h.head
 unfold zDl at this
 split at this
 ·have:=qKy this;omega
 ·split at this
  ·exact qTp this
  ·cases this
theorem zQu{d:Dl}(h:GoodD d)(hp:d.2.2.1.length≤8):(zDs d).size≤400:=by
 have h1:=zCx h
 have h2:=zDm (l:=d.2.2.1) fun s hs=>qKy (h.pars s hs).2
 have z1:(⟨#[102,117,110,99,32]⟩:ByteArray).size=5:=rfl
 have z2:(⟨#[40]⟩:ByteArray).size=1:=rfl
 have z3:(⟨#[41]⟩:ByteArray).size=1:=rfl
 have z4:(⟨#[116,101,115,116,32]⟩:ByteArray).size=5:=rfl
 have z5:(⟨#[103,101,110,32,34]⟩:ByteArray).size=5:=rfl
 have z6:(⟨#[34]⟩:ByteArray).size=1:=rfl
 unfold zDs
 split
 ·simp only[ByteArray.size_append];omega
 ·split
  ·simp only[ByteArray.size_append];omega
  ·simp only[ByteArray.size_append];omega
theorem qWi(l:List UInt8):(qKl l).data.toList=l:=rfl
theorem zBw(l:List UInt8):(qKl l).size=l.length:=by rw[←szl,qWi]
theorem zRy{N:Nat}{l:List ByteArray}(h:l.length≤1):qJt N l (⟨#[44,32]⟩:ByteArray)=some (zDz l):=by
 unfold qJt
 rw[if_neg (by omega)]
 unfold qPj
 match l,h with
 |[],_=>rfl
 |[x],_=>
  simp only[jD,jF]
  rw[if_neg (by decide),if_pos (by decide),show idx [x] 0=some x from rfl]
  simp only[j0]
  congr 1
  refine zPx ?_
  show x.data.toList=qPa 0 [x.data.toList]
  simp[qPa,sepK]
end
section
open Go Go.Dc Go.Proofs
section
variable {ts:List Tok} {params:List ByteArray} {E S:Ps→PM Nat} {B:Nat}
def BE(B:Nat)(l:List Ex):Prop:=∀x∈l,x.2.2.2.2.length≤B
def AdvB(B:Nat)(E:Ps→PM Nat):Prop:=∀(p q:Ps) (x:Nat),BE B p.2→E p= .inr (q,x)→BE B q.2
theorem qYz{t:Tok}{x:Ex}{p q:Ps}{i:Nat}(h1:BE B p.2)(h2:x.2.2.2.2.length≤B)(h:qLz t x p= .inr (q,i)):BE B q.2:=by
 obtain⟨rfl,-,-⟩:=qSb h
 intro y hy
 rcases gF.1 hy with hy|hy
 ·exact h1 y hy
 ·rw[jS.1 hy];exact h2
theorem zTr(hE:AdvB B E):∀(n:Nat) (l:List Int) (p q:Ps) (x:List Int),BE B p.2→qWa ts E n l p= .inr (q,x)→BE B q.2∧x.length≤l.length+n
 |0,_,_,_,_,_,h1=>by cases h1
 |n+1,l,p,q,x,hb,h1=>by
  obtain⟨a,ha,h2⟩:=qAx (show qBs (E p) _=_ from h1)
  have hb2:=hE p a.1 a.2 hb ha
  split at h2
  ·obtain⟨k1,k2⟩:=zTr hE n _ (a.1.1+1,a.1.2) q x hb2 h2
   exact⟨k1,by simp only[jC,jD,jF] at k2;omega⟩
  ·obtain⟨j,hj,h3⟩:=qAx h2
   obtain⟨rfl,rfl⟩:=Prod.mk.inj (Sum.inr.inj h3)
   exact⟨hb2,by simp only[jC,jD,jF];omega⟩
theorem zIo(hE:AdvB B E){p q:Ps}{x:List Int}(hb:BE B p.2)(h1:qMn ts E p= .inr (q,x)):BE B q.2∧x.length≤ts.length+1:=by
 obtain⟨i,hi,h2⟩:=qAx h1
 split at h2
 ·obtain⟨rfl,rfl⟩:=Prod.mk.inj (Sum.inr.inj h2)
  exact⟨hb,kO _⟩
 ·obtain⟨k1,k2⟩:=zTr hE _ _ (i,p.2) q x hb h2
  exact⟨k1,by simpa using k2⟩
theorem zOx(hB:3≤B)(hE:AdvB B E){t:Tok}{p q:Ps}{x:Nat}(hb:BE B p.2)(h1:qKo ts E t p= .inr (q,x)):BE B q.2:=by
 obtain⟨i,hi,h2⟩:=qAx h1
 obtain⟨a,ha,h3⟩:=qAx h2
 obtain⟨j,hj,h4⟩:=qAx h3
 have key:BE B a.1.2∧a.2.2.2.2.2.length≤B:=by
  split at ha
  ·obtain⟨b,hb1,hb2⟩:=qAx ha
   obtain⟨c,hc1,hc2⟩:=qAx hb2
   obtain⟨d,hd1,hd2⟩:=qAx hc2
   have:=hE (c,p.2) d.1 d.2 hb hd1
   obtain rfl:=Sum.inr.inj hd2
   exact⟨this,by show 1≤B;omega⟩
  ·split at ha
   ·obtain⟨b,hb1,hb2⟩:=qAx ha
    obtain rfl:=Sum.inr.inj hb2
    exact⟨hb,kO _⟩
   ·split at ha
    ·obtain⟨b,hb1,hb2⟩:=qAx ha
     obtain rfl:=Sum.inr.inj hb2
     exact⟨hb,kO _⟩
    ·split at ha
     ·obtain⟨b,hb1,hb2⟩:=qAx ha
      obtain rfl:=Sum.inr.inj hb2
      exact⟨hb,kO _⟩
     ·obtain⟨b,hb1,hb2⟩:=qAx ha
      split at hb2
      ·cases hb2
      ·obtain rfl:=Sum.inr.inj hb2
       exact⟨hb,kO _⟩
 exact qYz (p:=(j,a.1.2)) key.1 key.2 h4
theorem zRl(hB:ts.length+3≤B)(hE:AdvB B E):AdvB B (qIu ts params E):=by
 intro p q x hb h1
 unfold qIu at h1
 dsimp only at h1
 split at h1
 ·exact qYz (p:=(p.1+1,p.2)) hb (kO _) h1
 split at h1
 ·obtain⟨a,ha,h2⟩:=qAx h1
  exact qYz (p:=(a.1,p.2)) hb (kO _) h2
 split at h1
 ·obtain⟨a,ha,h2⟩:=qAx h1
  have:=hE (p.1+1,p.2) a.1 a.2 hb ha
  obtain⟨j,hj,h3⟩:=qAx h2
  obtain⟨rfl,rfl⟩:=Prod.mk.inj (Sum.inr.inj h3)
  exact this
 split at h1
 ·cases h1
 split at h1
 ·exact zOx (by omega) hE (p:=(p.1+1,p.2)) hb h1
 split at h1
 ·cases h1
 split at h1
 ·obtain⟨a,ha,h2⟩:=qAx h1
  obtain⟨k1,k2⟩:=zIo hE (p:=(p.1+1,p.2)) hb ha
  exact qYz (p:=a.1) k1 (by show a.2.length≤B;omega) h2
 split at h1
 ·exact qYz (p:=(p.1+1,p.2)) hb (kO _) h1
 ·cases h1
theorem zTe(hB:3≤B){level:Nat}(hS:AdvB B S):∀(n x:Nat) (p q:Ps) (y:Nat),BE B p.2→qOe ts level S n x p= .inr (q,y)→BE B q.2
 |0,_,_,_,_,_,h1=>by cases h1
 |n+1,x,p,q,y,hb,h1=>by
  unfold qOe at h1
  split at h1
  ·obtain⟨rfl,rfl⟩:=Prod.mk.inj (Sum.inr.inj h1)
   exact hb
  ·obtain⟨a,ha,h2⟩:=qAx h1
   have f:=hS (p.1+1,p.2) a.1 a.2 hb ha
   obtain⟨r,hr,h3⟩:=qAx h2
   have k:BE B r.1.2:=by
    refine qYz (p:=a.1) f ?_ hr
    show 2≤B
    omega
   split at h3
   ·obtain⟨rfl,rfl⟩:=Prod.mk.inj (Sum.inr.inj h3)
    exact k
   ·exact zTe hB hS n _ _ q y k h3
theorem zHb(hB:3≤B){level:Nat}(hS:AdvB B S):AdvB B (qNs ts level S):=by
 intro p q x hb h1
 obtain⟨a,ha,h2⟩:=qAx h1
 exact zTe hB hS _ _ _ q x (hS p a.1 a.2 hb ha) h2
theorem zGi(hB:ts.length+3≤B):∀k,AdvB B (qFa ts params k)
 |0=>fun _ _ _ _ h1=>by cases h1
 |k+1=>by
  intro p q x hb h1
  unfold qFa at h1
  split at h1
  ·obtain⟨a,ha,h2⟩:=qAx h1
   have a1:=zGi hB k (p.1+1,p.2) a.1 a.2 hb ha
   obtain⟨i,hi,h3⟩:=qAx h2
   obtain⟨b,hb1,h4⟩:=qAx h3
   have b1:=zGi hB k (i,a.1.2) b.1 b.2 a1 hb1
   obtain⟨j,hj,h5⟩:=qAx h4
   obtain⟨c,hc1,h6⟩:=qAx h5
   have c1:=zGi hB k (j,b.1.2) c.1 c.2 b1 hc1
   refine qYz (p:=c.1) c1 ?_ h6
   show 3≤B
   omega
  ·exact zHb (by omega) (zHb (by omega) (zHb (by omega) (zRl hB (zGi hB k)))) p q x hb h1
def okDl(d:Dl):Prop:=d.2.2.1.length≤8∧d.2.2.2.length≤256∧BE 20000 d.2.2.2
theorem decl_b(hok:OkT ts)(hts:ts.length≤16385){before:List Dl}{i:Nat}{a:Nat×Dl}(hi:i<ts.length)(h1:qRq ts before i= .inr a):okDl a.2:=by
 unfold qRq at h1
 dsimp only at h1
 split at h1
 ·cases h1
 rename_i k1
 split at h1
 ·cases h1
 have g:=hok.next hi (show(tkAt ts i).1≠5 by intro e;apply k1;left;rw[e];decide)
 obtain⟨x,hx,h2⟩:=qAx h1
 have gx:x.1<ts.length:=by
  split at hx
  ·obtain⟨rfl,g1,-⟩:=qQc hok g hx;exact g1
  ·obtain⟨rfl,g1,-⟩:=qPf hok g hx;exact g1
 split at h2
 ·cases h2
 obtain⟨y,hy,h3⟩:=qAx h2
 have gy:y.1<ts.length∧y.2.length≤8:=by
  split at hy
  ·obtain⟨-,g2,g3⟩:=qTm hok gx hy;exact⟨g2,g3⟩
  ·obtain rfl:=Sum.inr.inj hy;exact⟨gx,kO _⟩
 obtain⟨j,hj,h4⟩:=qAx h3
 obtain⟨rfl,g3,-⟩:=qHl hok gy.1 hj
 obtain⟨c,hc,h5⟩:=qAx h4
 obtain⟨⟨-,-,-,f4⟩,-⟩:=qOn hok 32 (y.1+1,[]) c.1 c.2 g3 (by simp) hc
 have f5:=zGi (B:=20000) (by omega) 32 (y.1+1,[]) c.1 c.2 (fun z hz=>by cases hz) hc
 obtain⟨m,hm,h6⟩:=qAx h5
 obtain rfl:=Sum.inr.inj h6
 exact⟨gy.2,f4,f5⟩
theorem zNw(hok:OkT ts)(hts:ts.length≤16385):∀(n:Nat) (l:List Dl) (i:Nat) {r:List Dl},(∀d∈l,okDl d)→i<ts.length→qQi ts n l i= .inr r→∀d∈r,okDl d
 |0,_,_,_,_,_,h1=>by cases h1
 |n+1,l,i,r,hl,hi,h1=>by
  unfold qQi at h1
  split at h1
  ·cases h1;exact hl
  obtain⟨x,hx,h2⟩:=qAx h1
  obtain⟨-,g2,-⟩:=qZy hok hi hx
  refine zNw hok hts n _ _ (fun d hd=> ?_) g2 h2
  rcases gF.1 hd with hd|hd
  ·exact hl d hd
  ·rw[jS.1 hd];exact decl_b hok hts hi hx
end
def okSr(f:Sr):Prop:=f.2.1.length≤8∧f.2.2.length≤64∧∀d∈f.2.2,okDl d
theorem zOg{ts:List Tok}(h:OkT ts):∀(n:Nat) (l:List Dl) (i:Nat) {r:List Dl},l.length≤64→i<ts.length→qQi ts n l i= .inr r→r.length≤64
 |0,_,_,_,_,_,h1=>by cases h1
 |n+1,l,i,r,hl,hi,h1=>by
  unfold qQi at h1
  split at h1
  ·cases h1;exact hl
  obtain⟨x,hx,h2⟩:=qAx h1
  obtain⟨-,g2,g3⟩:=qZy h hi hx
  exact zOg h n _ _ (by simp only[jC,jD,jF];omega) g2 h2
theorem zKp:okSr qXm:=⟨kO _,kO _,fun d hd=>by cases hd⟩
theorem zPs(s:ByteArray):okSr (qZt s).1:=by
 unfold qZt
 by_cases h0:(qKd s).2.2=0
 ·rw[if_neg (not_not_intro h0)]
  obtain⟨hok,hlen,hsz⟩:=zCa h0
  have hpos:0<(qKd s).1.length:=by
   cases h:(qKd s).1 with
   |nil=>exact absurd h hok.1
   |cons a l=>exact Nat.succ_pos _
  cases hf:zDo (qKd s).1 with
  |inl z=>exact zKp
  |inr f=>
   simp only
   unfold zDo at hf
   obtain⟨i,h1,hf⟩:=qAx hf
   obtain⟨rfl,g1,-⟩:=zEd hok hpos h1
   obtain⟨a,h2,hf⟩:=qAx hf
   obtain⟨rfl,g2,-⟩:=qPf hok g1 h2
   obtain⟨j,h3,hf⟩:=qAx hf
   obtain⟨rfl,g3,-⟩:=qHl hok g2 h3
   obtain⟨b,h4,hf⟩:=qAx hf
   obtain⟨-,k2,k3⟩:=qTa hok _ _ _ b g3 (by simp) h4
   obtain⟨l,h5,hf⟩:=qAx hf
   have e1:=zOg hok _ _ _ (by simp) k2 h5
   have e2:=zNw hok hlen _ _ _ (fun d hd=>by cases hd) k2 h5
   cases hf
   exact⟨k3,e1,e2⟩
 ·rw[if_pos h0];exact zKp
theorem zFs{β:Type}{b:β}{n:Nat}{f:Int→Option (Int⊕β)}(hs:∀i,i<n→f (i:Int)=some (.inl ((i+1:Nat):Int)))(hf:f (n:Int)=some (.inr b)):∀(d i M:Nat),i+d=n→d<M→qAs f M (i:Int)=some b
 |_,_,0,_,h=>absurd h (kL _)
 |0,i,M+1,h1,_=>by
  have:i=n:=by omega
  subst this
  simp only[qAs,hf,j0]
 |d+1,i,M+1,h1,h2=>by
  simp only[qAs,hs i (by omega),j0]
  exact zFs hs hf d (i+1) M (by omega) (by omega)
theorem each0{β:Type}{b:β}{n M:Nat}{f:Int→Option (Int⊕β)}(hs:∀i,i<n→f (i:Int)=some (.inl ((i+1:Nat):Int)))(hf:f (n:Int)=some (.inr b))(hM:n<M):qAs f M 0=some b:=
 zFs hs hf n 0 M (by omega) hM
end
section
open Go Go.Dc Go.Proofs
theorem zRm{P:Rose→Prop}(h:∀hd ks,(∀t∈ks,P t)→P (.mk hd ks))(t:Rose):P t:=by
 have key:∀(n:Nat) (t:Rose),t.size≤n→P t:=by
  intro n
  induction n with
  |zero=>intro t ht;have:=t.pos;omega
  |succ n ih=>
   intro t ht
   match t with
   | .mk hd ks=>
    refine h hd ks fun u hu=>ih u ?_
    have hs:u.size≤qBo ks:=by
     clear ht ih h
     induction ks with
     |nil=>cases hu
     |cons a l ihl=>
      rcases jN.1 hu with rfl|hu
      ·show _≤u.size+qBo l;omega
      ·have:=ihl hu
       show _≤a.size+qBo l;omega
    have:(Rose.mk hd ks).size=qBo ks+1:=rfl
    omega
 exact key t.size t (jP _)
inductive Fine(np:Nat):Rose→Prop
 |num (n:Int) (h0: -9007199254740992≤n) (h1:n≤9007199254740992):Fine np (.mk (1,n,0,emB) [])
 |par (i:Nat) (h:i<np):Fine np (.mk (2,(i:Int),0,emB) [])
 |call (s:ByteArray) (ks:List Rose) (h:qDf s=true) (hk:∀t∈ks,Fine np t):Fine np (.mk (3,0,0,s) ks)
 |bin (op:Int) (a b:Rose) (h0:1≤op) (h1:op≤7) (ha:Fine np a) (hb:Fine np b):Fine np (.mk (4,0,op,emB) [a,b])
 |ite (a b c:Rose) (ha:Fine np a) (hb:Fine np b) (hc:Fine np c):Fine np (.mk (5,0,0,emB) [a,b,c])
 |read (s:ByteArray) (a:Rose) (h:qMc s.data.toList=true) (ha:Fine np a):Fine np (.mk (6,0,0,s) [a])
 |look (k:Int) (s:ByteArray) (hk:k=7∨k=8) (h:qMc s.data.toList=true):Fine np (.mk (k,0,0,s) [])
 |env (s:ByteArray) (h:qOi s=true):Fine np (.mk (9,0,0,s) [])
 |flip (n:Nat) (h:n<64):Fine np (.mk (10,(n:Int),0,emB) [])
theorem zUz{np:Nat}(t:Rose):∀b,(∀x∈t.flat b,qMb (np:Int) x=true)→Fine np t:=by
 refine zRm (P:=fun t=>∀b,(∀x∈t.flat b,qMb (np:Int) x=true)→Fine np t) ?_ t
 intro hd ks ih b hv
 have hn:qMb (np:Int) (qLf hd (qDk b ks))=true:=hv _ (by unfold Rose.flat;exact kQ _ (jS.2 rfl))
 have hks:∀t∈ks,Fine np t:=by
  have hvs:∀x∈qFm b ks,qMb (np:Int) x=true:=fun x hx=>hv x (by unfold Rose.flat;exact kF _ hx)
  clear hv hn
  induction ks generalizing b with
  |nil=>intro t ht;cases ht
  |cons a l ihl=>
   intro t ht
   rcases jN.1 ht with rfl|ht
   ·exact ih t (jH ..) b fun x hx=>hvs x (by unfold qFm;exact kF _ hx)
   ·exact ihl (fun u hu=>ih u (jM _ hu)) (b+a.size) (fun x hx=>hvs x (by unfold qFm;exact kQ _ hx)) t ht
 obtain⟨k,n,o,s⟩:=hd
 have hlen:(qLf (k,n,o,s) (qDk b ks)).2.2.2.2.length=ks.length:=qJh ks b
 rcases qSt hn with ⟨h1,h2,h3,h4,h5,h6⟩|⟨h1,h2,h3,h4,h5,h6⟩|⟨h1,h2,h3,h4⟩|⟨h1,h2,h3,h4,h5,h6⟩|⟨h1,h2,h3,h4,h5⟩|⟨h1,h2,h3,h4,h5⟩|⟨h1,h2,h3,h4,h5⟩|⟨h1,h2,h3,h4,h5⟩|⟨h1,h2,h3,h4,h5,h6⟩
 ·have h1:k=1:=h1
  have h5:o=0:=h5
  have h6:s=emB:=h6
  rw[hlen] at h2
  obtain rfl:=g9.1 h2
  subst h1 h5 h6
  exact .num n h3 h4
 ·have h1:k=2:=h1
  have h5:o=0:=h5
  have h6:s=emB:=h6
  have h3:0≤n:=h3
  have h4:n<(np:Int):=h4
  rw[hlen] at h2
  obtain rfl:=g9.1 h2
  subst h1 h5 h6
  obtain⟨i,rfl⟩:∃i:Nat,n=(i:Int):=⟨n.toNat,by omega⟩
  exact .par i (by omega)
 ·have h1:k=3:=h1
  have h3:n=0:=h3
  have h4:o=0:=h4
  subst h1 h3 h4
  exact .call s ks h2 hks
 ·have h1:k=4:=h1
  have h5:n=0:=h5
  have h6:s=emB:=h6
  rw[hlen] at h2
  subst h1 h5 h6
  match ks,h2,hks with
  |[a,c],_,hks=>exact .bin o a c h3 h4 (hks a (by simp)) (hks c (by simp))
 ·have h1:k=5:=h1
  have h3:n=0:=h3
  have h4:o=0:=h4
  have h5:s=emB:=h5
  rw[hlen] at h2
  subst h1 h3 h4 h5
  match ks,h2,hks with
  |[a,c,d],_,hks=>exact .ite a c d (hks a (by simp)) (hks c (by simp)) (hks d (by simp))
 ·have h1:k=6:=h1
  have h4:n=0:=h4
  have h5:o=0:=h5
  rw[hlen] at h2
  subst h1 h4 h5
  match ks,h2,hks with
  |[a],_,hks=>exact .read s a h3 (hks a (by simp))
 ·have h1:k=7∨k=8:=h1
  have h4:n=0:=h4
  have h5:o=0:=h5
  rw[hlen] at h2
  obtain rfl:=g9.1 h2
  subst h4 h5
  exact .look k s h1 h3
 ·have h1:k=9:=h1
  have h4:n=0:=h4
  have h5:o=0:=h5
  rw[hlen] at h2
  obtain rfl:=g9.1 h2
  subst h1 h4 h5
  exact .env s h3
 ·have h1:k=10:=h1
  have h3:0≤n:=h3
  have h4:n<64:=h4
  have h5:o=0:=h5
  have h6:s=emB:=h6
  rw[hlen] at h2
  obtain rfl:=g9.1 h2
  subst h1 h5 h6
  obtain⟨i,rfl⟩:∃i:Nat,n=(i:Int):=⟨n.toNat,by omega⟩
  exact .flip i (by omega)
abbrev Pf:=List UInt8→List Pc
def sgP(l:List UInt8)(bl:List UInt8):Pc:=((4,l),bl)
def wdP(l:List UInt8)(bl:List UInt8):Pc:=((1,l),bl)
def txP(l:List UInt8)(bl:List UInt8):Pc:=((3,l),bl)
def qUo(n:Int)(bl:List UInt8):List Pc:=if n<0 then[sgP [45] [],((2,Lib.decDigits n.natAbs),bl)] else[((2,Lib.decDigits n.toNat),bl)]
def qJy:Nat→List Pf→List Pc
 |_,[]=>[]
 |k,w::ws=>(if k=0 then[] else[sgP [44] [32]])++(w []++qJy (k+1) ws)
def wIf:List UInt8:=[105,102]
def zLt:List UInt8:=[116,104,101,110]
def zLi:List UInt8:=[101,108,115,101]
def zKz:List UInt8:=[114,101,97,100]
def zEm:List UInt8:=[102,108,105,112]
def noF:Pf:=fun _=>[]
def qMx(ps:List ByteArray)(h:Hd)(ws:List Pf)(bl:List UInt8):List Pc:=
 if h.1=1 then qUo h.2.1 bl
 else if h.1=2 then[wdP (ps.getD h.2.1.toNat ⟨#[]⟩).data.toList bl]
 else if h.1=4 then(ws.getD 0 noF) [32]++(sgP (qUs h.2.2.1).data.toList [32]::(ws.getD 1 noF) bl)
 else if h.1=5 then wdP wIf [32]::((ws.getD 0 noF) [32]++(wdP zLt [32]::((ws.getD 1 noF) [32]++(wdP zLi [32]::(ws.getD 2 noF) bl))))
 else if h.1=3 then wdP h.2.2.2.data.toList []::sgP [40] []::(qJy 0 ws++[sgP [41] bl])
 else if h.1=6 then wdP zKz []::sgP [40] []::txP h.2.2.2.data.toList []::sgP [44] [32]::((ws.getD 0 noF) []++[sgP [41] bl])
 else if h.1=10 then wdP zEm []::sgP [40] []::(qUo h.2.1 []++[sgP [41] bl])
 else[wdP (qQt h.1).data.toList [],sgP [40] [],txP h.2.2.2.data.toList [],sgP [41] bl]
mutual
def Rose.pc(ps:List ByteArray)(need:Int)(bl:List UInt8):Rose→List Pc
 | .mk h ks=>if lvH h<need then sgP [40] []::(qMx ps h (pcs ps h 0 ks) []++[sgP [41] bl]) else qMx ps h (pcs ps h 0 ks) bl
def pcs(ps:List ByteArray)(h:Hd)(k:Nat):List Rose→List Pf
 |[]=>[]
 |t::l=>(fun bl=>t.pc ps (qHs h k) bl)::pcs ps h (k+1) l
end
theorem qIg:∀(a b:List Pc),qDb (a++b)=qDb a++qDb b
 |[],_=>rfl
 |p::a,b=>by simp only[jQ,qDb,qIg a b,jE]
theorem qEg(c:Ct)(bl:List UInt8)(l:List Pc):qDb ((c,bl)::l)=qLn c++(bl++qDb l):=rfl
theorem by1(l:List UInt8):qLn (1,l)=l:=qMd (by decide)
theorem by2(l:List UInt8):qLn (2,l)=l:=qMd (by decide)
theorem by4(l:List UInt8):qLn (4,l)=l:=qMd (by decide)
theorem by3(l:List UInt8):qLn (3,l)=34::(l++[34]):=if_pos rfl
theorem itB_l(n:Int):(itB n).data.toList=Lib.itoa n:=rfl
theorem zBy(n:Int)(bl:List UInt8):qDb (qUo n bl)=(itB n).data.toList++bl:=by
 rw[itB_l]
 unfold qUo Lib.itoa
 split
 ·simp only[sgP,qEg,qDb,by4,by2,jY,jO,jQ]
 ·simp only[qEg,qDb,by2,jY]
theorem qTd{a:Array UInt8}:(⟨a⟩:ByteArray).data.toList=a.toList:=rfl
theorem body_0(ps:List ByteArray)(h:Hd)(ks:List Rose)(need:Int):(Rose.mk h ks).wr ps need=if lvH h<need then 40::(qJm ps h (wrs ps h 0 ks)++[41]) else qJm ps h (wrs ps h 0 ks):=by unfold Rose.wr;rfl
theorem pc_0(ps:List ByteArray)(h:Hd)(ks:List Rose)(need:Int)(bl:List UInt8):(Rose.mk h ks).pc ps need bl=if lvH h<need then sgP [40] []::(qMx ps h (pcs ps h 0 ks) []++[sgP [41] bl]) else qMx ps h (pcs ps h 0 ks) bl:=by unfold Rose.pc;rfl
theorem qKn{ps:List ByteArray}{h:Hd}{ks:List Rose}(hb:∀bl,qDb (qMx ps h (pcs ps h 0 ks) bl)=qJm ps h (wrs ps h 0 ks)++bl)(need:Int)(bl:List UInt8):qDb ((Rose.mk h ks).pc ps need bl)=(Rose.mk h ks).wr ps need++bl:=by
 rw[body_0,pc_0]
 split
 ·simp only[sgP,qEg,qIg,hb,by4,qDb,jY,jO,jQ,jE]
 ·exact hb bl
theorem qZu(ps:List ByteArray)(h:Hd):∀(ks:List Rose) (k:Nat),(∀t∈ks,∀need bl,qDb (t.pc ps need bl)=t.wr ps need++bl)→qDb (qJy k (pcs ps h k ks))=qPa k (wrs ps h k ks)
 |[],_,_=>rfl
 |t::ks,k,hk=>by
  have ih:=qZu ps h ks (k+1) fun u hu=>hk u (jM _ hu)
  simp only[pcs,wrs,qJy,qPa,qIg,ih,hk t (jH ..),jY]
  congr 1
  unfold sepK
  split
  ·rfl
  ·rfl
theorem zOv{ps:List ByteArray}{np:Nat}{t:Rose}(hf:Fine np t):∀need bl,qDb (t.pc ps need bl)=t.wr ps need++bl:=by
 induction hf with
 |num n h0 h1=>exact qKn fun bl=>zBy n bl
 |par i h=>
  exact qKn fun bl=>by
   show qDb [wdP _ bl]=_++bl
   simp only[wdP,qEg,qDb,by1,jY]
   rfl
 |call s ks h hk ih=>
  exact qKn fun bl=>by
   show qDb (wdP s.data.toList []::sgP [40] []::(qJy 0 (pcs ps (3,0,0,s) 0 ks)++[sgP [41] bl]))=((s++(⟨#[40]⟩:ByteArray)).data.toList++(qPa 0 (wrs ps (3,0,0,s) 0 ks)++[41]))++bl
   simp only[wdP,sgP,qEg,qIg,qZu ps _ ks 0 ih,by1,by4,qDb,qHj,qTd,jY,jO,jE,jQ]
 |bin op a b h0 h1 ha hb iha ihb=>
  exact qKn fun bl=>by
   show qDb (a.pc ps (qHs (4,0,op,emB) 0) [32]++(sgP (qUs op).data.toList [32]::b.pc ps (qHs (4,0,op,emB) 1) bl))=(a.wr ps (qHs (4,0,op,emB) 0)++((((⟨#[32]⟩:ByteArray)++qUs op)++(⟨#[32]⟩:ByteArray)).data.toList++b.wr ps (qHs (4,0,op,emB) 1)))++bl
   simp only[sgP,qIg,qEg,iha,ihb,by4,qHj,qTd,jE,jQ,jO]
 |ite a b c ha hb hc iha ihb ihc=>
  exact qKn fun bl=>by
   show qDb (wdP wIf [32]::(a.pc ps 0 [32]++(wdP zLt [32]::(b.pc ps 0 [32]++(wdP zLi [32]::c.pc ps 0 bl)))))=(tI++(a.wr ps 0++(tThen++(b.wr ps 0++(tElse++c.wr ps 0)))))++bl
   simp only[wdP,qEg,qIg,iha,ihb,ihc,by1,wIf,zLt,zLi,tI,tThen,tElse,jE,jQ,jO]
 |read s a h ha iha=>
  exact qKn fun bl=>by
   show qDb (wdP zKz []::sgP [40] []::txP s.data.toList []::sgP [44] [32]::(a.pc ps 0 []++[sgP [41] bl]))=((((⟨#[114,101,97,100,40,34]⟩:ByteArray)++s)++(⟨#[34,44,32]⟩:ByteArray)).data.toList++(a.wr ps 0++[41]))++bl
   simp only[wdP,sgP,txP,qEg,qIg,iha,by1,by3,by4,zKz,qDb,qHj,qTd,jY,jO,jE,jQ]
 |look k s hk h=>
  exact qKn fun bl=>by
   rcases hk with rfl|rfl
   ·show qDb [wdP (qQt 7).data.toList [],sgP [40] [],txP s.data.toList [],sgP [41] bl]=((((qQt 7++(⟨#[40,34]⟩:ByteArray))++s)++(⟨#[34,41]⟩:ByteArray)).data.toList)++bl
    simp only[wdP,sgP,txP,qEg,by1,by3,by4,qDb,qHj,qTd,jY,jO,jE,jQ]
   ·show qDb [wdP (qQt 8).data.toList [],sgP [40] [],txP s.data.toList [],sgP [41] bl]=((((qQt 8++(⟨#[40,34]⟩:ByteArray))++s)++(⟨#[34,41]⟩:ByteArray)).data.toList)++bl
    simp only[wdP,sgP,txP,qEg,by1,by3,by4,qDb,qHj,qTd,jY,jO,jE,jQ]
 |env s h=>
  exact qKn fun bl=>by
   show qDb [wdP (qQt 9).data.toList [],sgP [40] [],txP s.data.toList [],sgP [41] bl]=((((qQt 9++(⟨#[40,34]⟩:ByteArray))++s)++(⟨#[34,41]⟩:ByteArray)).data.toList)++bl
   simp only[wdP,sgP,txP,qEg,by1,by3,by4,qDb,qHj,qTd,jY,jO,jE,jQ]
 |flip n h=>
  exact qKn fun bl=>by
   show qDb (wdP zEm []::sgP [40] []::(qUo (n:Int) []++[sgP [41] bl]))=((((⟨#[102,108,105,112,40]⟩:ByteArray)++itB (n:Int))++(⟨#[41]⟩:ByteArray)).data.toList)++bl
   simp only[wdP,sgP,qEg,qIg,zBy,by1,by4,zEm,qDb,qHj,qTd,jY,jO,jE,jQ]
end
section
open Go Go.Dc Go.Proofs
theorem zTg{p:UInt8→Bool}:∀{l:List UInt8} (x:UInt8),x∈l.takeWhile p→p x=true
 |[],_,h=>by cases h
 |y::l,x,h=>by
  rw[List.takeWhile_cons] at h
  split at h
  ·rename_i hy
   rcases jN.1 h with rfl|h
   ·exact hy
   ·exact zTg x h
  ·cases h
theorem zEi{s:ByteArray}(h:qOi s=true):(∃x l,s.data.toList=x::l∧kd x=1)∧(∀x∈s.data.toList,inK [1,2,3] x=true)∧s.data.toList.length≤24:=by
 unfold qOi at h
 obtain⟨h1,h2,h3,h4⟩:=gL h
 refine⟨?_,?_,h2⟩
 ·cases hs:s.data.toList with
  |nil=>rw[hs] at h1;cases h1
  |cons x l=>rw[hs] at h3;exact⟨x,l,rfl,h3⟩
 ·unfold tw at h4
  rw[jX,kE] at h4
  have h5:s.data.toList.takeWhile (inK [1,2,3])=s.data.toList:=(List.takeWhile_prefix _).eq_of_length h4
  intro x hx
  rw[←h5] at hx
  exact zTg x hx
theorem qRs{s:ByteArray}(h:qOi s=true):okC (1,s.data.toList):=by
 obtain⟨h1,h2,h3⟩:=zEi h
 exact .inl ⟨rfl,h1,h2,h3⟩
theorem qNy{s:ByteArray}(h:qDf s=true):qOi s=true:=by
 unfold qDf at h
 simp only[jL] at h
 exact h.1
theorem cls:(List.range 256).all (fun i=>(!inK [1,2,3,4] (UInt8.ofNat i)||(qQs (UInt8.ofNat i)&&decide (i≠61)))&&(decide (i≠47)||qQs (UInt8.ofNat i)))=true:=by kernel_rfl
theorem zHa{x:UInt8}(h:inK [1,2,3,4] x=true∨x=47):qQs x=true∧x≠61:=by
 have:=kA.1 cls x.toNat (fR.2 x.toNat_lt)
 have e:UInt8.ofNat x.toNat=x:=by simp
 rw[e] at this
 simp only[jL,f0,dM,jA] at this
 rcases h with h|rfl
 ·rcases this.1 with g|⟨g1,g2⟩
  ·rw[h] at g;cases g
  ·exact⟨g1,fun e=>g2 (by rw[e];rfl)⟩
 ·exact⟨by kernel_rfl,by decide⟩
theorem sp_mem:∀{l:List UInt8} {x:UInt8},x∈l→x=47∨∃p∈sp l,x∈p:=by
 intro l
 induction l with
 |nil=>intro x hx;cases hx
 |cons y l ih=>
  intro x hx
  by_cases hy:y=47
  ·rcases jN.1 hx with rfl|hx
   ·exact .inl hy
   ·rcases ih hx with g|⟨p,h1,h2⟩
    ·exact .inl g
    ·refine .inr ⟨p,?_,h2⟩
     unfold sp
     rw[if_pos hy]
     exact jM _ h1
  ·cases hs:sp l with
   |nil=>exact absurd hs (zIe l)
   |cons q r=>
    rcases jN.1 hx with rfl|hx
    ·refine .inr ⟨x::q,?_,jH ..⟩
     unfold sp
     rw[if_neg hy,hs]
     exact jH ..
    ·rcases ih hx with g|⟨p,h1,h2⟩
     ·exact .inl g
     ·rw[hs] at h1
      rcases jN.1 h1 with rfl|h1
      ·refine .inr ⟨y::p,?_,jM _ h2⟩
       unfold sp
       rw[if_neg hy,hs]
       exact jH ..
      ·refine .inr ⟨p,?_,h2⟩
       unfold sp
       rw[if_neg hy,hs]
       exact jM _ h1
theorem zCn{l:List UInt8}(h:qMc l=true):(∀x∈l,qQs x=true)∧l≠[61]:=by
 unfold qMc at h
 obtain⟨-,-,h3⟩:=gL h
 have key:∀x∈l,qQs x=true∧x≠61:=fun x hx=>by
  rcases sp_mem hx with g|⟨p,h1,h2⟩
  ·exact zHa (.inr g)
  ·exact zHa (.inl ((h3 p h1).2.2 x h2))
 exact⟨fun x hx=>(key x hx).1,fun e=>(key 61 (by rw[e];exact jH ..)).2 rfl⟩
theorem zSk{s:ByteArray}(h:qOi s=true):(∀x∈s.data.toList,qQs x=true)∧s.data.toList≠[61]:=by
 obtain⟨-,h2,-⟩:=zEi h
 have key:∀x∈s.data.toList,qQs x=true∧x≠61:=fun x hx=>by
  refine zHa (.inl ?_)
  have:=h2 x hx
  unfold inK at this ⊢
  simp only[gT,List.any_nil,dP,f0] at this ⊢
  rcases this with g|g|g
  ·exact .inl g
  ·exact .inr (.inl g)
  ·exact .inr (.inr (.inl g))
 exact⟨fun x hx=>(key x hx).1,fun e=>(key 61 (by rw[e];exact jH ..)).2 rfl⟩
def qUb(l:List UInt8):Bool:=match l with|[]=>true|x::_=> !inK [1,2,3] x
theorem zJo{l:List UInt8}(h:qUb l=true):∀x r,l=x::r→inK [1,2,3] x=false:=fun x r e=>by
 subst e
 simpa[qUb] using h
theorem zRp{l:List UInt8}(h:qUb l=true):∀x r,l=x::r→inK [2] x=false:=fun x r e=>by
 have:=zJo h x r e
 unfold inK at this ⊢
 simp only[gT,List.any_nil,dP,kS] at this ⊢
 exact this.2.1
def blP(bl:List UInt8):Prop:=∀x∈bl,inK [5] x=true
theorem blP0:blP []:=fun x h=>by cases h
theorem blP1:blP [32]:=fun x h=>by rw[jS.1 h];kernel_rfl
theorem gdW{l bl:List UInt8}{rest:List Pc}(hw:okC (1,l))(hb:blP bl)(hs:qUb (bl++qDb rest)=true)(hg:qKm rest):qKm (wdP l bl::rest):=
 ⟨hw,hb,fun x r h=>by
  have:=zJo hs x r h
  show(if(1:Int)=1 then !inK [1,2,3] x else _)=true
  rw[if_pos rfl,this];rfl,hg⟩
theorem gdN{n:Nat}{bl:List UInt8}{rest:List Pc}(hn:n≤9007199254740992)(hb:blP bl)(hs:qUb (bl++qDb rest)=true)(hg:qKm rest):qKm (((2,Lib.decDigits n),bl)::rest):=
 ⟨.inr (.inl ⟨rfl,zTa n,zNc n,by
  have:=zKy n hn
  show numL (Lib.decDigits n)≤_
  omega⟩),hb,fun x r h=>by
  have:=zRp hs x r h
  show(if(2:Int)=1 then _ else if(2:Int)=2 then !inK [2] x else _)=true
  rw[if_neg (by decide),if_pos rfl,this];rfl,hg⟩
theorem gdS{l bl:List UInt8}{rest:List Pc}(hl:l∈zNr)(h61:l≠[61])(hb:blP bl)(hg:qKm rest):qKm (sgP l bl::rest):=
 ⟨.inr (.inr (.inr ⟨rfl,hl⟩)),hb,fun x r _=>by
  show(if(4:Int)=1 then _ else if(4:Int)=2 then _ else if l=[61] then _ else true)=true
  rw[if_neg (by decide),if_neg (by decide),if_neg h61],hg⟩
theorem gdT{l bl:List UInt8}{rest:List Pc}(hl:∀x∈l,qQs x=true)(h61:l≠[61])(hb:blP bl)(hg:qKm rest):qKm (txP l bl::rest):=
 ⟨.inr (.inr (.inl ⟨rfl,hl⟩)),hb,fun x r _=>by
  show(if(3:Int)=1 then _ else if(3:Int)=2 then _ else if l=[61] then _ else true)=true
  rw[if_neg (by decide),if_neg (by decide),if_neg h61],hg⟩
theorem gdNum{n:Int}{bl:List UInt8}{rest:List Pc}(h0: -9007199254740992≤n)(h1:n≤9007199254740992)(hb:blP bl)(hs:qUb (bl++qDb rest)=true)(hg:qKm rest):qKm (qUo n bl++rest):=by
 unfold qUo
 split
 ·exact gdS (by decide) (by decide) blP0 (gdN (by omega) hb hs hg)
 ·exact gdN (by omega) hb hs hg
theorem zTx{op:Int}(h0:1≤op)(h1:op≤7):(qUs op).data.toList∈zNr∧(qUs op).data.toList≠[61]:=by
 rcases(by omega:op=1∨op=2∨op=3∨op=4∨op=5∨op=6∨op=7) with rfl|rfl|rfl|rfl|rfl|rfl|rfl<;>decide+kernel
def GdP(ps:List ByteArray)(t:Rose):Prop:=∀need bl rest,blP bl→qUb (bl++qDb rest)=true→qKm rest→qKm (t.pc ps need bl++rest)
theorem qQn{ps:List ByteArray}{h:Hd}{ks:List Rose}(hb:∀bl rest,blP bl→qUb (bl++qDb rest)=true→qKm rest→qKm (qMx ps h (pcs ps h 0 ks) bl++rest)):GdP ps (.mk h ks):=by
 intro need bl rest h1 h2 h3
 rw[pc_0]
 split
 ·rw[jQ,jE]
  exact gdS (by decide) (by decide) blP0 (hb [] _ blP0 (by kernel_rfl) (gdS (by decide) (by decide) h1 h3))
 ·exact hb bl rest h1 h2 h3
theorem zNi{ws:List Pf}{k:Nat}{rest:List Pc}(hs:qUb (qDb rest)=true):qUb (qDb (qJy (k+1) ws++rest))=true:=by
 cases ws with
 |nil=>exact hs
 |cons w ws=>
  show qUb (qDb (((if k+1=0 then[] else[sgP [44] [32]])++(w []++qJy (k+1+1) ws))++rest))=true
  rw[if_neg (by omega)]
  kernel_rfl
theorem zOw{ps:List ByteArray}{h:Hd}:∀(ks:List Rose) (k:Nat) (rest:List Pc),(∀t∈ks,GdP ps t)→qUb (qDb rest)=true→qKm rest→qKm (qJy k (pcs ps h k ks)++rest)
 |[],_,_,_,_,hg=>hg
 |t::ks,k,rest,hk,hs,hg=>by
  have ih:=zOw (h:=h) ks (k+1) rest (fun u hu=>hk u (jM _ hu)) hs hg
  show qKm (((if k=0 then[] else[sgP [44] [32]])++(t.pc ps (qHs h k) []++qJy (k+1) (pcs ps h (k+1) ks)))++rest)
  rw[jE,jE]
  have h1:=hk t (jH ..) (qHs h k) [] (qJy (k+1) (pcs ps h (k+1) ks)++rest) blP0 (zNi hs) ih
  split
  ·exact h1
  ·exact gdS (by decide) (by decide) blP1 h1
theorem okIf:okC (1,wIf):= .inl ⟨rfl,⟨105,_,rfl,by kernel_rfl⟩,by decide+kernel,by decide⟩
theorem okThen:okC (1,zLt):= .inl ⟨rfl,⟨116,_,rfl,by kernel_rfl⟩,by decide+kernel,by decide⟩
theorem okElse:okC (1,zLi):= .inl ⟨rfl,⟨101,_,rfl,by kernel_rfl⟩,by decide+kernel,by decide⟩
theorem okRead:okC (1,zKz):= .inl ⟨rfl,⟨114,_,rfl,by kernel_rfl⟩,by decide+kernel,by decide⟩
theorem okFlip:okC (1,zEm):= .inl ⟨rfl,⟨102,_,rfl,by kernel_rfl⟩,by decide+kernel,by decide⟩
theorem okSize:okC (1,(qQt 7).data.toList):= .inl ⟨rfl,⟨115,_,rfl,by kernel_rfl⟩,by decide+kernel,by decide⟩
theorem okHas:okC (1,(qQt 8).data.toList):= .inl ⟨rfl,⟨104,_,rfl,by kernel_rfl⟩,by decide+kernel,by decide⟩
theorem okEnv:okC (1,(qQt 9).data.toList):= .inl ⟨rfl,⟨101,_,rfl,by kernel_rfl⟩,by decide+kernel,by decide⟩
theorem zVt{ps:List ByteArray}(hps:∀s∈ps,qOi s=true){t:Rose}(hf:Fine ps.length t):GdP ps t:=by
 induction hf with
 |num n h0 h1=>exact qQn fun bl rest b1 b2 b3=>gdNum h0 h1 b1 b2 b3
 |par i h=>
  refine qQn fun bl rest b1 b2 b3=>gdW (qRs (hps _ ?_)) b1 b2 b3
  show ps.getD ((i:Int)).toNat ⟨#[]⟩∈ps
  rw[jR,kG,List.getElem?_eq_getElem h]
  exact k9 h
 |call s ks h hk ih=>
  refine qQn fun bl rest b1 b2 b3=> ?_
  show qKm (wdP s.data.toList []::sgP [40] []::((qJy 0 (pcs ps (3,0,0,s) 0 ks)++[sgP [41] bl])++rest))
  rw[jE]
  exact gdW (qRs (qNy h)) blP0 (by kernel_rfl) (gdS (by decide) (by decide) blP0 (zOw ks 0 _ ih (by kernel_rfl) (gdS (by decide) (by decide) b1 b3)))
 |bin op a b h0 h1 ha hb iha ihb=>
  refine qQn fun bl rest b1 b2 b3=> ?_
  show qKm ((a.pc ps (qHs (4,0,op,emB) 0) [32]++(sgP (qUs op).data.toList [32]::b.pc ps (qHs (4,0,op,emB) 1) bl))++rest)
  rw[jE,jQ]
  obtain⟨s1,s2⟩:=zTx h0 h1
  exact iha _ _ _ blP1 (by kernel_rfl) (gdS s1 s2 blP1 (ihb _ _ _ b1 b2 b3))
 |ite a b c ha hb hc iha ihb ihc=>
  refine qQn fun bl rest b1 b2 b3=> ?_
  show qKm (wdP wIf [32]::((a.pc ps 0 [32]++(wdP zLt [32]::(b.pc ps 0 [32]++(wdP zLi [32]::c.pc ps 0 bl))))++rest))
  rw[jE,jQ,jE,jQ]
  exact gdW okIf blP1 (by kernel_rfl) (iha _ _ _ blP1 (by kernel_rfl) (gdW okThen blP1 (by kernel_rfl) (ihb _ _ _ blP1 (by kernel_rfl) (gdW okElse blP1 (by kernel_rfl) (ihc _ _ _ b1 b2 b3)))))
 |read s a h ha iha=>
  refine qQn fun bl rest b1 b2 b3=> ?_
  show qKm (wdP zKz []::sgP [40] []::txP s.data.toList []::sgP [44] [32]::((a.pc ps 0 []++[sgP [41] bl])++rest))
  rw[jE]
  obtain⟨p1,p2⟩:=zCn h
  exact gdW okRead blP0 (by kernel_rfl) (gdS (by decide) (by decide) blP0 (gdT p1 p2 blP0 (gdS (by decide) (by decide) blP1 (iha _ _ _ blP0 (by kernel_rfl) (gdS (by decide) (by decide) b1 b3)))))
 |look k s hk h=>
  obtain⟨p1,p2⟩:=zCn h
  rcases hk with rfl|rfl
  ·exact qQn fun bl rest b1 b2 b3=>gdW okSize blP0 (by kernel_rfl) (gdS (by decide) (by decide) blP0 (gdT p1 p2 blP0 (gdS (by decide) (by decide) b1 b3)))
  ·exact qQn fun bl rest b1 b2 b3=>gdW okHas blP0 (by kernel_rfl) (gdS (by decide) (by decide) blP0 (gdT p1 p2 blP0 (gdS (by decide) (by decide) b1 b3)))
 |env s h=>
  obtain⟨p1,p2⟩:=zSk h
  exact qQn fun bl rest b1 b2 b3=>gdW okEnv blP0 (by kernel_rfl) (gdS (by decide) (by decide) blP0 (gdT p1 p2 blP0 (gdS (by decide) (by decide) b1 b3)))
 |flip n h=>
  refine qQn fun bl rest b1 b2 b3=> ?_
  show qKm (wdP zEm []::sgP [40] []::((qUo (n:Int) []++[sgP [41] bl])++rest))
  rw[jE]
  exact gdW okFlip blP0 (by kernel_rfl) (gdS (by decide) (by decide) blP0 (gdNum (by omega) (by omega) blP0 (by kernel_rfl) (gdS (by decide) (by decide) b1 b3)))
end
section
open Go Go.Dc Go.Proofs
def corP(l:List Pc):List Core:=l.map fun p=>qIn p.1
theorem qXw(a b:List Pc):corP (a++b)=corP a++corP b:=gY ..
def Seg(ts:List Tok):Nat→List Core→Prop
 |_,[]=>True
 |i,c::cs=>qId (tkAt ts i)=c∧Seg ts (i+1) cs
theorem qUq{ts:List Tok}:∀{a b:List Core} {i:Nat},Seg ts i (a++b)↔Seg ts i a∧Seg ts (i+a.length) b
 |[],b,i=>by simp[Seg]
 |c::a,b,i=>by
  have ih:=qUq (ts:=ts) (a:=a) (b:=b) (i:=i+1)
  simp only[jQ,Seg,ih,jD,and_assoc]
  rw[show i+1+a.length=i+(a.length+1) by omega]
theorem qQf{ts:List Tok}{a b:List Pc}{i:Nat}(h:Seg ts i (corP (a++b))):Seg ts i (corP a)∧Seg ts (i+a.length) (corP b):=by
 rw[qXw,qUq] at h
 have:(corP a).length=a.length:=kZ ..
 rw[this] at h
 exact h
section
variable {ts:List Tok} {ps:List ByteArray} {i:Nat}
theorem qPc{c:Core}(h:qId (tkAt ts i)=c)(k:Int)(s:ByteArray):isC ts k s i=(c.1==k&&decide (c.2.1=s)):=by
 subst h;rfl
theorem tk1{c:Core}(h:qId (tkAt ts i)=c):(tkAt ts i).1=c.1:=congrArg (fun x=>x.1) h
theorem tk2{c:Core}(h:qId (tkAt ts i)=c):(tkAt ts i).2.1=c.2.1:=congrArg (fun x=>x.2.1) h
theorem tk3{c:Core}(h:qId (tkAt ts i)=c):(tkAt ts i).2.2.1=c.2.2:=congrArg (fun x=>x.2.2) h
def opK(c:Core)(level:Nat):Int:=
 match opsC.find? (fun o=>(c.1==4&&decide (c.2.1=o.2))&&decide (levP o.1=level)) with
 |some o=>o.1
 |none=>0
theorem zTb{c:Core}(h:qId (tkAt ts i)=c)(level:Nat):opC ts level i=opK c level:=by
 subst h;rfl
theorem qVo{l:List UInt8}(h:qId (tkAt ts i)=qIn (4,l)):qId (tkAt ts i)=(4,⟨⟨l⟩⟩,0):=h
theorem qEu{l:List UInt8}(h:qId (tkAt ts i)=qIn (1,l)):qId (tkAt ts i)=(1,⟨⟨l⟩⟩,0):=h
theorem qPu{l:List UInt8}(h:qId (tkAt ts i)=qIn (3,l)):qId (tkAt ts i)=(3,⟨⟨l⟩⟩,0):=h
theorem qXy{n:Nat}(hn:n≤9007199254740992)(h:qId (tkAt ts i)=qIn (2,Lib.decDigits n)):qId (tkAt ts i)=(2,⟨#[]⟩,(n:Int)):=by
 rw[h]
 unfold qIn
 rw[if_pos rfl,if_pos rfl,zKy n hn]
theorem qIh{l:List UInt8}(h:qId (tkAt ts i)=qIn (4,l)){s:ByteArray}(hs:(⟨⟨l⟩⟩:ByteArray)=s):qGg ts s i= .inr (i+1):=by
 unfold qGg
 rw[qPc (qVo h),jZ hs]
 rfl
theorem zDx{l:List UInt8}(h:qId (tkAt ts i)=qIn (1,l)){s:ByteArray}(hs:(⟨⟨l⟩⟩:ByteArray)=s):zAp ts s i= .inr (i+1):=by
 unfold zAp
 rw[qPc (qEu h),jZ hs]
 rfl
theorem qSq{l:List UInt8}(h:qId (tkAt ts i)=qIn (4,l)){s:ByteArray}(hs:(⟨⟨l⟩⟩:ByteArray)≠s):isC ts 4 s i=false:=by
 rw[qPc (qVo h),jU hs];rfl
theorem qOc{l:List UInt8}(h:qId (tkAt ts i)=qIn (4,l)){s:ByteArray}(hs:(⟨⟨l⟩⟩:ByteArray)=s):isC ts 4 s i=true:=by
 rw[qPc (qVo h),jZ hs];rfl
def NextOk(n:Nat)(ts:List Tok)(i:Nat):Prop:=i<ts.length∧isC ts 4 qNk i=false∧∀L,n≤L→1≤L→L≤3→opC ts L i=0
theorem NextOk.up{n m:Nat}(h:NextOk n ts i)(hnm:n≤m):NextOk m ts i:=⟨h.1,h.2.1,fun L h1=>h.2.2 L (by omega)⟩
def endL:List Core:=[(4,⟨#[41]⟩,0),(4,⟨#[44]⟩,0),(4,⟨#[59]⟩,0),(1,⟨#[116,104,101,110]⟩,0),(1,⟨#[101,108,115,101]⟩,0)]
theorem qRt{c:Core}(hc:c∈endL)(h:qId (tkAt ts i)=c)(hi:i<ts.length)(n:Nat):NextOk n ts i:=by
 simp only[endL,jN,gG,dO] at hc
 refine⟨hi,?_,fun L _ h1 h3=> ?_⟩
 ·rw[qPc h]
  rcases hc with rfl|rfl|rfl|rfl|rfl<;>decide+kernel
 ·rw[zTb h]
  rcases(by omega:L=1∨L=2∨L=3) with rfl|rfl|rfl<;>rcases hc with rfl|rfl|rfl|rfl|rfl<;>decide+kernel
theorem zPl{op:Int}(h0:1≤op)(h1:op≤7)(h:qId (tkAt ts i)=qIn (4,(qUs op).data.toList)):isC ts 4 qNk i=false∧∀L,1≤L→L≤3→opC ts L i=if levP op=L then op else 0:=by
 rw[qPc h]
 refine⟨?_,fun L l1 l3=> ?_⟩
 ·rcases(by omega:op=1∨op=2∨op=3∨op=4∨op=5∨op=6∨op=7) with rfl|rfl|rfl|rfl|rfl|rfl|rfl<;>decide+kernel
 ·rw[zTb h]
  rcases(by omega:L=1∨L=2∨L=3) with rfl|rfl|rfl<;>rcases(by omega:op=1∨op=2∨op=3∨op=4∨op=5∨op=6∨op=7) with rfl|rfl|rfl|rfl|rfl|rfl|rfl<;>decide+kernel
def Res{α:Type}(x:Flt⊕α)(g:Prop)(v:α):Prop:=(g→x= .inr v)∧(¬g→∃z,x= .inl (z,2))
theorem Res.bind{α β:Type}{x:Flt⊕α}{g g' G:Prop}{v:α}{f:α→Flt⊕β}{v':β}(h:Res x g v)(h2:g→Res (f v) g' v')(hG:G↔g∧g'):Res (qBs x f) G v':=by
 constructor
 ·intro hg
  obtain⟨a,b⟩:=hG.1 hg
  rw[h.1 a]
  exact(h2 a).1 b
 ·intro hn
  by_cases a:g
  ·rw[h.1 a]
   exact(h2 a).2 fun b=>hn (hG.2 ⟨a,b⟩)
  ·obtain⟨z,hz⟩:=h.2 a
   exact⟨z,by rw[hz];rfl⟩
theorem Res.pure{α:Type}{x:Flt⊕α}{g:Prop}{v:α}(hg:g)(h:x= .inr v):Res x g v:=⟨fun _=>h,fun n=>absurd hg n⟩
theorem qKu{t:Tok}{x:Ex}{j:Nat}{l:List Ex}(h:l.length+1≤256):qLz t x (j,l)= .inr ((j,l++[x]),l.length):=by
 unfold qLz
 rw[if_neg (by show ¬l.length=256;omega)]
def PL(ts:List Tok)(ps:List ByteArray)(E:Ps→PM Nat):Nat→Ps→PM Nat
 |1=>qXz ts ps E
 |2=>sumC ts ps E
 |3=>zSr ts ps E
 |_=>qIu ts ps E
theorem zNf(E:Ps→PM Nat){n:Nat}(h1:1≤n)(h3:n≤3)(p:Ps):PL ts ps E n p=qNs ts n (PL ts ps E (n+1)) p:=by
 rcases(by omega:n=1∨n=2∨n=3) with rfl|rfl|rfl<;>rfl
def Fac(ts:List Tok)(ps:List ByteArray)(E:Ps→PM Nat)(n:Nat)(pf:Pf)(g:Prop)(t:Rose):Prop:=
 ∀i l bl,Seg ts i (corP (pf bl))→NextOk n ts (i+(pf bl).length)→l.length+t.size≤256→Res (PL ts ps E n (i,l)) g ((i+(pf bl).length,l++t.flat l.length),l.length+t.size-1)
def Spi(ts:List Tok)(ps:List ByteArray)(E:Ps→PM Nat)(L:Nat)(pf:Pf)(g:Prop)(t:Rose):Prop:=
 ∀i l bl,Seg ts i (corP (pf bl))→NextOk (L+1) ts (i+(pf bl).length)→l.length+t.size≤256→
  (g→∃n',ts.length+1≤n'+(pf bl).length∧qNs ts L (PL ts ps E (L+1)) (i,l)=qOe ts L (PL ts ps E (L+1)) n' (l.length+t.size-1) (i+(pf bl).length,l++t.flat l.length))∧
  (¬g→∃z,qNs ts L (PL ts ps E (L+1)) (i,l)= .inl (z,2))
variable {E:Ps→PM Nat} {pf:Pf} {g:Prop} {t:Rose}
theorem zKr{L n x:Nat}{S:Ps→PM Nat}{p:Ps}(h:opC ts L p.1=0):qOe ts L S (n+1) x p= .inr (p,x):=by
 unfold qOe
 rw[if_pos h]
theorem Fac.lift{n:Nat}(h1:1≤n)(h3:n≤3)(h:Fac ts ps E (n+1) pf g t):Fac ts ps E n pf g t:=by
 intro i l bl hs hn hl
 rw[zNf E h1 h3]
 unfold qNs
 exact(h i l bl hs (hn.up (by omega)) hl).bind (g':=True) (fun _=> .pure trivial (zKr (hn.2.2 n (jP n) h1 h3))) (by simp)
theorem Fac.lifts{n m:Nat}(h1:1≤m)(hm:m≤n)(h4:n≤4)(h:Fac ts ps E n pf g t):Fac ts ps E m pf g t:=by
 obtain⟨d,rfl⟩:∃d,n=m+d:=⟨n-m,by omega⟩
 induction d generalizing m with
 |zero=>exact h
 |succ d ih=>
  have:=ih (m:=m+1) (by omega) (by omega) (by omega) (by rw[show m+1+d=m+(d+1) by omega];exact h)
  exact Fac.lift h1 (by omega) this
theorem Fac.spi{L:Nat}(h:Fac ts ps E (L+1) pf g t):Spi ts ps E L pf g t:=by
 intro i l bl hs hn hl
 obtain⟨r1,r2⟩:=h i l bl hs hn hl
 constructor
 ·intro hg
  refine⟨ts.length+1,by omega,?_⟩
  unfold qNs
  rw[r1 hg]
  rfl
 ·intro hg
  obtain⟨z,hz⟩:=r2 hg
  exact⟨z,by unfold qNs;rw[hz];rfl⟩
theorem Spi.fac{L:Nat}(h1:1≤L)(h3:L≤3)(h:Spi ts ps E L pf g t):Fac ts ps E L pf g t:=by
 intro i l bl hs hn hl
 obtain⟨r1,r2⟩:=h i l bl hs (hn.up (by omega)) hl
 rw[zNf E h1 h3]
 constructor
 ·intro hg
  obtain⟨n',e1,e2⟩:=r1 hg
  have:=hn.1
  obtain⟨m,rfl⟩:∃m,n'=m+1:=⟨n'-1,by omega⟩
  rw[e2,zKr (hn.2.2 L (jP L) h1 h3)]
 ·exact r2
end
end
section
open Go Go.Dc Go.Proofs
theorem qZz:((4,⟨#[41]⟩,0):Core)∈endL:= .head _
theorem zPe:((4,⟨#[44]⟩,0):Core)∈endL:= .tail _ (.head _)
theorem zRi:((4,⟨#[59]⟩,0):Core)∈endL:= .tail _ (.tail _ (.head _))
theorem zRd:((1,⟨#[116,104,101,110]⟩,0):Core)∈endL:= .tail _ (.tail _ (.tail _ (.head _)))
theorem zRh:((1,⟨#[101,108,115,101]⟩,0):Core)∈endL:= .tail _ (.tail _ (.tail _ (.tail _ (.head _))))
theorem zIh(h:Hd):∃n:Nat,lvH h=(n:Int)∧n≤4:=by
 unfold lvH
 split
 ·exact⟨0,rfl,by decide⟩
 ·split
  ·split
   ·exact⟨1,rfl,by decide⟩
   ·split
    ·exact⟨2,rfl,by decide⟩
    ·exact⟨3,rfl,by decide⟩
  ·exact⟨4,rfl,by decide⟩
theorem dep_0(h:Hd)(ks:List Rose)(need:Int)(d:Nat):(Rose.mk h ks).dep need d=max (if lvH h<need then d+1 else d) (deps h 0 (if h.1=4 then(if lvH h<need then d+1 else d) else(if lvH h<need then d+1 else d)+1) ks):=by unfold Rose.dep;rfl
theorem qVp{h:Hd}{ks:List Rose}{need:Int}{d:Nat}(hn:¬lvH h<need):(Rose.mk h ks).dep need d=max d (deps h 0 (if h.1=4 then d else d+1) ks):=by
 rw[dep_0];simp only[if_neg hn]
theorem zIj{h:Hd}{ks:List Rose}{need:Int}{d:Nat}(hn:lvH h<need):(Rose.mk h ks).dep need d=(Rose.mk h ks).dep 0 (d+1):=by
 obtain⟨n,e,-⟩:=zIh h
 rw[dep_0,qVp (need:=0) (by omega)];simp only[if_pos hn]
section
variable (ts:List Tok) (ps:List ByteArray)
def Pos0(k d:Nat)(t:Rose):Prop:=∀i l bl,Seg ts i (corP (t.pc ps 0 bl))→NextOk 1 ts (i+(t.pc ps 0 bl).length)→l.length+t.size≤256→Res (qFa ts ps k (i,l)) (t.dep 0 d≤32) ((i+(t.pc ps 0 bl).length,l++t.flat l.length),l.length+t.size-1)
structure Pk(t:Rose):Prop where
 p0:∀k d,k+d=33→Pos0 ts ps k d t
 en:∀k d,k+d=32→∀n:Nat,2≤n→n≤4→Fac ts ps (qFa ts ps k) n (fun bl=>t.pc ps (n:Int) bl) (t.dep (n:Int) d≤32) t
 es:∀k d,k+d=32→∀L:Nat,2≤L→L≤3→Spi ts ps (qFa ts ps k) L (fun bl=>t.pc ps (L:Int) bl) (t.dep (L:Int) d≤32) t
end
section
variable {ts:List Tok} {ps:List ByteArray}
theorem zAq{h:Hd}{ks:List Rose}{need:Int}(hn:¬lvH h<need)(bl:List UInt8):(Rose.mk h ks).pc ps need bl=qMx ps h (pcs ps h 0 ks) bl:=by rw[pc_0,if_neg hn]
theorem zFw{h:Hd}{ks:List Rose}{need:Int}(hn:lvH h<need)(bl:List UInt8):(Rose.mk h ks).pc ps need bl=sgP [40] []::((Rose.mk h ks).pc ps 0 []++[sgP [41] bl]):=by
 obtain⟨n,e,-⟩:=zIh h
 rw[pc_0,if_pos hn,zAq (by omega)]
theorem zIc{t:Rose}{k d:Nat}(hk:k+d=32)(h0:Pos0 ts ps k (d+1) t):Fac ts ps (qFa ts ps k) 4 (fun bl=>sgP [40] []::(t.pc ps 0 []++[sgP [41] bl])) (t.dep 0 (d+1)≤32) t:=by
 intro i l bl hs hn hl
 simp only[jD,jC,jF] at hn ⊢
 obtain⟨s1,s2⟩:=hs
 obtain⟨s2,s3⟩:=qQf s2
 obtain⟨s3,-⟩:=s3
 have hb:=hn.1
 have hE:=h0 (i+1) l [] s2 (qRt qZz s3 (by omega) 1) hl
 have hf:PL ts ps (qFa ts ps k) 4 (i,l)=qBs (qFa ts ps k (i+1,l)) fun q=>qBs (qGg ts qFn q.1.1) fun j=> .inr ((j,q.1.2),q.2):=by
  show qIu ts ps (qFa ts ps k) (i,l)=_
  unfold qIu
  dsimp only
  rw[if_neg (by rw[tk1 s1];show ¬(4:Int)=2;decide),if_neg (by rw[qSq s1 (by decide+kernel)];decide),if_pos (qOc (s:=qNk) s1 rfl)]
 rw[hf]
 refine hE.bind (g':=True) (fun _=> .pure trivial ?_) (by simp)
 refine Eq.trans (congrArg (fun z=>qBs z _) (qIh (s:=qFn) s3 rfl)) ?_
 show Sum.inr _=Sum.inr _
 rw[show i+1+(t.pc ps 0 []).length+1=i+((t.pc ps 0 []).length+(0+1)+1) by omega]
theorem dep_ge(t:Rose)(d:Nat):d≤t.dep 0 d:=by
 cases t with
 |mk h ks=>
  obtain⟨n,e,-⟩:=zIh h
  rw[qVp (by omega)]
  exact Nat.le_max_left ..
theorem pos_0{t:Rose}{d:Nat}(hd:0+d=33):Pos0 ts ps 0 d t:=by
 intro i l bl _ _ _
 have:=dep_ge t d
 refine⟨fun g=>by omega,fun _=>⟨(tkAt ts i).2.2.2,?_⟩⟩
 rfl
theorem zMq{h:Hd}{ks:List Rose}{lv:Nat}(hlv:lvH h=(lv:Int))(l1:1≤lv)(l4:lv≤4)
  (hN:∀i bl,Seg ts i (corP ((Rose.mk h ks).pc ps 0 bl))→isC ts 1 sIf i=false)
  (hF:∀k d,k+d=32→Fac ts ps (qFa ts ps k) lv (fun bl=>(Rose.mk h ks).pc ps 0 bl) ((Rose.mk h ks).dep 0 d≤32) (.mk h ks))
  (hS:∀k d,k+d=32→lv=2∨lv=3→Spi ts ps (qFa ts ps k) lv (fun bl=>(Rose.mk h ks).pc ps 0 bl) ((Rose.mk h ks).dep 0 d≤32) (.mk h ks)):Pk ts ps (.mk h ks):=by
 have hp0:∀k d,k+d=33→Pos0 ts ps k d (.mk h ks):=by
  intro k d hk
  cases k with
  |zero=>exact pos_0 hk
  |succ k=>
   intro i l bl hs hn hl
   rw[qFa,if_neg (by rw[hN i bl hs];decide)]
   exact(hF k d (by omega)).lifts (jP 1) l1 l4 i l bl hs hn hl
 have un:∀{n:Nat},n≤lv→(fun bl=>(Rose.mk h ks).pc ps (n:Int) bl)=fun bl=>(Rose.mk h ks).pc ps 0 bl:=fun {n} hn=>by
  funext bl
  rw[zAq (by omega),zAq (by omega)]
 have und:∀{n d:Nat},n≤lv→(Rose.mk h ks).dep (n:Int) d=(Rose.mk h ks).dep 0 d:=fun {n d} hn=>by
  rw[qVp (by omega),qVp (by omega)]
 have pr:∀{n:Nat},lv<n→(fun bl=>(Rose.mk h ks).pc ps (n:Int) bl)=fun bl=>sgP [40] []::((Rose.mk h ks).pc ps 0 []++[sgP [41] bl]):=fun {n} hn=>by
  funext bl
  rw[zFw (by omega)]
 have fac4:∀k d,k+d=32→∀n:Nat,lv<n→Fac ts ps (qFa ts ps k) 4 (fun bl=>(Rose.mk h ks).pc ps (n:Int) bl) ((Rose.mk h ks).dep (n:Int) d≤32) (.mk h ks):=fun k d hk n hn=>by
  rw[pr hn,zIj (by omega)]
  exact zIc hk (hp0 k (d+1) (by omega))
 refine⟨hp0,fun k d hk n n2 n4=> ?_,fun k d hk L L2 L3=> ?_⟩
 ·by_cases hn:n≤lv
  ·rw[un hn,und hn]
   exact(hF k d hk).lifts (by omega) hn l4
  ·exact(fac4 k d hk n (by omega)).lifts (by omega) n4 (by omega)
 ·by_cases hn:L≤lv
  ·rw[un hn,und hn]
   by_cases e:L=lv
   ·subst e
    exact hS k d hk (by omega)
   ·exact((hF k d hk).lifts (m:=L+1) (by omega) (by omega) l4).spi
  ·exact((fac4 k d hk L (by omega)).lifts (m:=L+1) (by omega) (by omega) (by omega)).spi
theorem zCs{h:Hd}(hlv:lvH h=4)
  (hN:∀i bl,Seg ts i (corP (qMx ps h [] bl))→isC ts 1 sIf i=false)
  (hF:∀k i l bl,Seg ts i (corP (qMx ps h [] bl))→NextOk 4 ts (i+(qMx ps h [] bl).length)→l.length+1≤256→qIu ts ps (qFa ts ps k) (i,l)= .inr ((i+(qMx ps h [] bl).length,l++[qLf h []]),l.length)):Pk ts ps (.mk h []):=by
 have e:∀bl,(Rose.mk h []).pc ps 0 bl=qMx ps h [] bl:=fun bl=>zAq (by omega) bl
 refine zMq (lv:=4) hlv (by decide) (by decide) (fun i bl hs=>hN i bl (by rw[←e];exact hs)) (fun k d hk=> ?_) fun _ _ _ h=>by omega
 intro i l bl hs hn hl
 simp only[e] at hs hn ⊢
 have hs1:(Rose.mk h []).size=1:=rfl
 rw[hs1] at hl ⊢
 refine .pure ?_ (hF k i l bl hs hn hl)
 rw[qVp (by omega)]
 show max d 0≤32
 omega
theorem qSw{s:ByteArray}(h:qDf s=true):s∉[qVm,qVf,sHas,sEnv,qWb]∧resC s=false∧s≠sIf:=by
 unfold qDf at h
 simp only[jL,dM] at h
 have hr:¬s∈wordsR:=by
  have:=h.2
  unfold resC at this
  exact of_decide_eq_false this
 refine⟨fun g=>hr ?_,h.2,fun g=>hr ?_⟩
 ·simp only[jN,gG,dO] at g
  unfold wordsR
  simp only[jN,gG,dO]
  rcases g with g|g|g|g|g<;>simp[g]
 ·rw[g];unfold wordsR
  simp
section
variable {i:Nat} {l:List Ex} {E:Ps→PM Nat}
theorem qPb{w:List UInt8}(h:qId (tkAt ts i)=qIn (1,w))(hne:(⟨⟨w⟩⟩:ByteArray)≠sIf):isC ts 1 sIf i=false:=by
 rw[qPc (qEu h),jU hne];rfl
theorem zIb{w:List UInt8}(h:qId (tkAt ts i)=qIn (4,w)):isC ts 1 sIf i=false:=by
 rw[qPc (qVo h)];rfl
theorem zTn{w:List UInt8}(h:qId (tkAt ts i)=qIn (2,w)):isC ts 1 sIf i=false:=by
 rw[qPc h];rfl
theorem zUc{n:Nat}(hn:n≤9007199254740992)(h:qId (tkAt ts i)=qIn (2,Lib.decDigits n))(hl:l.length+1≤256):qIu ts ps E (i,l)= .inr ((i+1,l++[(1,(n:Int),0,⟨#[]⟩,[])]),l.length):=by
 unfold qIu
 dsimp only
 have hc:=qXy hn h
 rw[if_pos (tk1 hc),qKu hl,tk3 hc]
theorem zTz{n:Nat}(hn:n≤9007199254740992)(h:qId (tkAt ts i)=qIn (4,[45]))(h2:qId (tkAt ts (i+1))=qIn (2,Lib.decDigits n))(hl:l.length+1≤256):qIu ts ps E (i,l)= .inr ((i+1+1,l++[(1,-(n:Int),0,⟨#[]⟩,[])]),l.length):=by
 unfold qIu
 dsimp only
 have hc:=qXy hn h2
 rw[if_neg (by rw[tk1 h];show ¬(4:Int)=2;decide),if_pos (qOc (s:=zOh) h rfl)]
 unfold qPz
 rw[if_pos (tk1 hc)]
 show qLz (tkAt ts i) (1,IntKind.wrap .i64 (0-(tkAt ts (i+1)).2.2.1),0,⟨#[]⟩,[]) (i+1+1,l)=_
 have e3:(tkAt ts (i+1)).2.2.1=(n:Int):=tk3 hc
 rw[qKu hl,e3,wi64 (by omega) (by omega),Int.zero_sub]
theorem qVn{w:List UInt8}(h:qId (tkAt ts i)=qIn (1,w)):qIu ts ps E (i,l)=
  if(⟨⟨w⟩⟩:ByteArray)∈[qVm,qVf,sHas,sEnv,qWb] then qKo ts E (tkAt ts i) (i+1,l)
  else if resC ⟨⟨w⟩⟩ then qHh (tkAt ts i) 9
  else if isC ts 4 qNk (i+1) then qBs (qMn ts E (i+1,l)) fun q=>qLz (tkAt ts i) (3,0,0,⟨⟨w⟩⟩,q.2) q.1
  else match ps.findIdx? (fun x=>decide (x=⟨⟨w⟩⟩)) with
   |some j=>qLz (tkAt ts i) (2,(j:Int),0,⟨#[]⟩,[]) (i+1,l)
   |none=>qHh (tkAt ts i) 9:=by
 unfold qIu
 dsimp only
 have hc:=qEu h
 rw[if_neg (by rw[tk1 hc];show ¬(1:Int)=2;decide),if_neg (by rw[qPc hc];exact kD),if_neg (by rw[qPc hc];exact kD),if_neg (by rw[tk1 hc];exact fun h=>h rfl),tk2 hc]
 rfl
end
end
end
section
open Go Go.Dc Go.Proofs
section
variable {ts:List Tok} {ps:List ByteArray} {i:Nat} {l:List Ex} {E:Ps→PM Nat}
theorem qYc{c:Core}{k:Int}(h:qId (tkAt ts i)=c)(hk:c.1=k):qPz ts k i= .inr (i+1,tkAt ts i):=by
 unfold qPz
 rw[if_pos ((tk1 h).trans hk)]
theorem qXv{w:List UInt8}(h:qId (tkAt ts i)=qIn (3,w))(hp:qMc w=true):qTj ts i= .inr (i+1,tkAt ts i):=by
 unfold qTj
 rw[qYc (qPu h) rfl]
 simp only[qBs]
 have e:(tkAt ts i).2.1=⟨⟨w⟩⟩:=tk2 (qPu h)
 rw[e,if_pos hp]
theorem zMw{s:ByteArray}(h:qId (tkAt ts i)=qIn (3,s.data.toList))(hp:qOi s=true):qVw ts i= .inr (i+1,tkAt ts i):=by
 unfold qVw
 rw[qYc (qPu h) rfl]
 simp only[qBs]
 have e:(tkAt ts i).2.1=s:=tk2 (qPu h)
 rw[e,if_pos hp]
theorem zRn{w:List UInt8}{k:Int}{s:ByteArray}(hk:(⟨⟨w⟩⟩:ByteArray)=qVf∧k=7∧qMc s.data.toList=true∨(⟨⟨w⟩⟩:ByteArray)=sHas∧k=8∧qMc s.data.toList=true∨(⟨⟨w⟩⟩:ByteArray)=sEnv∧k=9∧qOi s=true)
  (h1:qId (tkAt ts i)=qIn (1,w)) (h2:qId (tkAt ts (i+1))=qIn (4,[40])) (h3:qId (tkAt ts (i+1+1))=qIn (3,s.data.toList)) (h4:qId (tkAt ts (i+1+1+1))=qIn (4,[41])) (hl:l.length+1≤256):
  qIu ts ps E (i,l)= .inr ((i+1+1+1+1,l++[(k,0,0,s,[])]),l.length):=by
 have e1:(tkAt ts i).2.1=⟨⟨w⟩⟩:=tk2 (qEu h1)
 have e3:(tkAt ts (i+1+1)).2.1=s:=tk2 (qPu h3)
 rw[qVn h1]
 rcases hk with ⟨hw,rfl,hp⟩|⟨hw,rfl,hp⟩|⟨hw,rfl,hp⟩
 ·rw[if_pos (by rw[hw];decide+kernel)]
  unfold qKo
  dsimp only
  rw[qIh (s:=qNk) h2 rfl]
  simp only[qBs]
  rw[e1,hw,if_neg (by decide+kernel),if_pos rfl,qXv h3 hp]
  simp only[qBs]
  rw[qIh (s:=qFn) h4 rfl]
  simp only[qBs]
  rw[qKu hl,e3]
 ·rw[if_pos (by rw[hw];decide+kernel)]
  unfold qKo
  dsimp only
  rw[qIh (s:=qNk) h2 rfl]
  simp only[qBs]
  rw[e1,hw,if_neg (by decide+kernel),if_neg (by decide+kernel),if_pos rfl,qXv h3 hp]
  simp only[qBs]
  rw[qIh (s:=qFn) h4 rfl]
  simp only[qBs]
  rw[qKu hl,e3]
 ·rw[if_pos (by rw[hw];decide+kernel)]
  unfold qKo
  dsimp only
  rw[qIh (s:=qNk) h2 rfl]
  simp only[qBs]
  rw[e1,hw,if_neg (by decide+kernel),if_neg (by decide+kernel),if_neg (by decide+kernel),if_pos rfl,zMw h3 hp]
  simp only[qBs]
  rw[qIh (s:=qFn) h4 rfl]
  simp only[qBs]
  rw[qKu hl,e3]
theorem zRc{n:Nat}(hn:n<64)(h1:qId (tkAt ts i)=qIn (1,zEm))(h2:qId (tkAt ts (i+1))=qIn (4,[40]))(h3:qId (tkAt ts (i+1+1))=qIn (2,Lib.decDigits n))(h4:qId (tkAt ts (i+1+1+1))=qIn (4,[41]))(hl:l.length+1≤256):
  qIu ts ps E (i,l)= .inr ((i+1+1+1+1,l++[(10,(n:Int),0,⟨#[]⟩,[])]),l.length):=by
 have e1:(tkAt ts i).2.1=qWb:=tk2 (qEu h1)
 have e3:(tkAt ts (i+1+1)).2.2.1=(n:Int):=tk3 (qXy (by omega) h3)
 rw[qVn h1,if_pos (by decide+kernel)]
 unfold qKo
 dsimp only
 rw[qIh (s:=qNk) h2 rfl]
 simp only[qBs]
 rw[e1,if_neg (by decide+kernel),if_neg (by decide+kernel),if_neg (by decide+kernel),if_neg (by decide+kernel),qYc (qXy (by omega) h3) rfl]
 simp only[qBs]
 rw[e3,if_neg (by omega)]
 simp only
 rw[qIh (s:=qFn) h4 rfl]
 simp only[qBs]
 rw[qKu hl]
theorem num_pk{n:Int}(h0: -9007199254740992≤n)(h1:n≤9007199254740992):Pk ts ps (.mk (1,n,0,emB) []):=by
 have e:∀bl,qMx ps (1,n,0,emB) [] bl=qUo n bl:=fun bl=>rfl
 refine zCs rfl (fun i bl hs=> ?_) fun k i l bl hs hn hl=> ?_
 ·rw[e] at hs
  unfold qUo at hs
  split at hs
  ·exact zIb hs.1
  ·exact zTn hs.1
 ·rw[e] at hs ⊢
  unfold qUo at hs ⊢
  split at hs
  ·rename_i hneg
   rw[if_pos hneg]
   obtain⟨s1,s2,-⟩:=hs
   rw[zTz (n:=n.natAbs) (by omega) s1 s2 hl,show-(n.natAbs:Int)=n by omega]
   rfl
  ·rename_i hneg
   rw[if_neg hneg]
   rw[zUc (n:=n.toNat) (by omega) hs.1 hl,show(n.toNat:Int)=n by omega]
   rfl
theorem par_pk{j:Nat}(hj:j<ps.length)(hps:∀s∈ps,qDf s=true)(hfi:ps.findIdx? (fun x=>decide (x=ps.getD j ⟨#[]⟩))=some j):Pk ts ps (.mk (2,(j:Int),0,emB) []):=by
 have e:∀bl,qMx ps (2,(j:Int),0,emB) [] bl=[wdP (ps.getD j ⟨#[]⟩).data.toList bl]:=fun bl=>rfl
 have hmem:ps.getD j ⟨#[]⟩∈ps:=by
  rw[kG,List.getElem?_eq_getElem hj]
  exact k9 hj
 obtain⟨n1,n2,n3⟩:=qSw (hps _ hmem)
 generalize ps.getD j ⟨#[]⟩=s at e n1 n2 n3 hfi
 refine zCs rfl (fun i bl hs=> ?_) fun k i l bl hs hn hl=> ?_
 ·rw[e] at hs
  exact qPb hs.1 n3
 ·rw[e] at hs hn ⊢
  have hn2:isC ts 4 qNk (i+1)=false:=hn.2.1
  rw[qVn hs.1,if_neg n1,if_neg (by rw[show resC (⟨⟨s.data.toList⟩⟩:ByteArray)=false from n2];exact kD),if_neg (by rw[hn2];exact kD)]
  rw[show ps.findIdx? (fun x=>decide (x=(⟨⟨s.data.toList⟩⟩:ByteArray)))=some j from hfi]
  simp only
  rw[qKu hl]
  rfl
theorem zMv{k:Int}{s:ByteArray}(hk:(k=7∨k=8)∧qMc s.data.toList=true∨k=9∧qOi s=true):Pk ts ps (.mk (k,0,0,s) []):=by
 have hk':k=7∨k=8∨k=9:=by
  rcases hk with ⟨h|h,-⟩|⟨h,-⟩
  ·exact .inl h
  ·exact .inr (.inl h)
  ·exact .inr (.inr h)
 have e:∀bl,qMx ps (k,0,0,s) [] bl=[wdP (qQt k).data.toList [],sgP [40] [],txP s.data.toList [],sgP [41] bl]:=fun bl=>by
  rcases hk' with rfl|rfl|rfl<;>rfl
 have hw:(⟨⟨(qQt k).data.toList⟩⟩:ByteArray)≠sIf:=by rcases hk' with rfl|rfl|rfl<;>decide+kernel
 refine zCs (by rcases hk' with rfl|rfl|rfl<;>rfl) (fun i bl hs=> ?_) fun k2 i l bl hs hn hl=> ?_
 ·rw[e] at hs
  exact qPb hs.1 hw
 ·rw[e] at hs ⊢
  obtain⟨s1,s2,s3,s4,-⟩:=hs
  refine Eq.trans (zRn (k:=k) (s:=s) ?_ s1 s2 s3 s4 hl) rfl
  rcases hk with ⟨rfl|rfl,hp⟩|⟨rfl,hp⟩
  ·exact .inl ⟨rfl,rfl,hp⟩
  ·exact .inr (.inl ⟨rfl,rfl,hp⟩)
  ·exact .inr (.inr ⟨rfl,rfl,hp⟩)
theorem zVp{n:Nat}(hn:n<64):Pk ts ps (.mk (10,(n:Int),0,emB) []):=by
 have e:∀bl,qMx ps (10,(n:Int),0,emB) [] bl=[wdP zEm [],sgP [40] [],((2,Lib.decDigits n),[]),sgP [41] bl]:=fun bl=>by
  show wdP zEm []::sgP [40] []::(qUo (n:Int) []++[sgP [41] bl])=_
  unfold qUo
  rw[if_neg (by omega),jR]
  rfl
 refine zCs rfl (fun i bl hs=> ?_) fun k2 i l bl hs _ hl=> ?_
 ·rw[e] at hs
  exact qPb hs.1 (by decide+kernel)
 ·rw[e] at hs ⊢
  obtain⟨s1,s2,s3,s4,-⟩:=hs
  exact Eq.trans (zRc hn s1 s2 s3 s4 hl) rfl
end
end
section
open Go Go.Dc Go.Proofs
section
variable {ts:List Tok} {ps:List ByteArray}
theorem deps2(h:Hd)(a b:Rose)(d:Nat):deps h 0 d [a,b]=max (a.dep (qHs h 0) d) (max (b.dep (qHs h 1) d) 0):=rfl
theorem lvOp{op:Int}(h0:1≤op)(h1:op≤7):lvH (4,0,op,emB)=(levP op:Int)∧1≤levP op∧levP op≤3:=by
 rcases(by omega:op=1∨op=2∨op=3∨op=4∨op=5∨op=6∨op=7) with rfl|rfl|rfl|rfl|rfl|rfl|rfl<;>decide+kernel
theorem flat2(h:Hd)(a b:Rose)(n:Nat):(Rose.mk h [a,b]).flat n=a.flat n++b.flat (n+a.size)++[qLf h [((n+a.size-1:Nat):Int),((n+a.size+b.size-1:Nat):Int)]]:=by
 show(a.flat n++(b.flat (n+a.size)++[]))++_=_
 rw[jY];rfl
theorem flat3(h:Hd)(a b c:Rose)(n:Nat):(Rose.mk h [a,b,c]).flat n=a.flat n++b.flat (n+a.size)++c.flat (n+a.size+b.size)++[qLf h [((n+a.size-1:Nat):Int),((n+a.size+b.size-1:Nat):Int),((n+a.size+b.size+c.size-1:Nat):Int)]]:=by
 show(a.flat n++(b.flat (n+a.size)++(c.flat (n+a.size+b.size)++[])))++_=_
 rw[jY,←jE];rfl
theorem flat1(h:Hd)(a:Rose)(n:Nat):(Rose.mk h [a]).flat n=a.flat n++[qLf h [((n+a.size-1:Nat):Int)]]:=by
 show(a.flat n++[])++_=_
 rw[jY];rfl
theorem zSj(h:Hd)(a b:Rose):(Rose.mk h [a,b]).size=a.size+b.size+1:=by show a.size+(b.size+0)+1=_;omega
theorem size3(h:Hd)(a b c:Rose):(Rose.mk h [a,b,c]).size=a.size+b.size+c.size+1:=by show a.size+(b.size+(c.size+0))+1=_;omega
theorem size1(h:Hd)(a:Rose):(Rose.mk h [a]).size=a.size+1:=by show a.size+0+1=_;omega
theorem bin_pk{op:Int}{a b:Rose}(h0:1≤op)(h1:op≤7)(ha:Pk ts ps a)(hb:Pk ts ps b)(hNa:∀n:Nat,1≤n→∀i bl,Seg ts i (corP (a.pc ps (n:Int) bl))→isC ts 1 sIf i=false):Pk ts ps (.mk (4,0,op,emB) [a,b]):=by
 obtain⟨e,l1,l3⟩:=lvOp h0 h1
 generalize hL:levP op=L at e l1 l3
 -- what the operands need
 obtain⟨nl,enl,nl2,nl3⟩:∃nl:Nat,qHs (4,0,op,emB) 0=(nl:Int)∧(L=1→nl=2)∧(L≠1→nl=L):=by
  unfold qHs
  rw[if_pos rfl,if_pos rfl,e]
  by_cases h:L=1
  ·exact⟨2,by rw[if_pos (by omega)];rfl,fun _=>rfl,fun g=>absurd h g⟩
  ·exact⟨L,by rw[if_neg (by omega)],fun g=>absurd g h,fun _=>rfl⟩
 have enr:qHs (4,0,op,emB) 1=((L+1:Nat):Int):=by
  unfold qHs
  rw[if_pos rfl,if_neg (by decide),e];rfl
 have hpc:∀bl,(Rose.mk (4,0,op,emB) [a,b]).pc ps 0 bl=a.pc ps (nl:Int) [32]++(sgP (qUs op).data.toList [32]::b.pc ps ((L+1:Nat):Int) bl):=fun bl=>by
  rw[zAq (by omega),←enl,←enr];rfl
 have hdep:∀d,d≤32→((Rose.mk (4,0,op,emB) [a,b]).dep 0 d≤32↔a.dep (nl:Int) d≤32∧b.dep ((L+1:Nat):Int) d≤32):=fun d hd=>by
  rw[qVp (by omega),if_pos rfl,deps2,enl,enr];omega
 -- the operator and the second operand
 have tail:∀k d,k+d=32→∀i l bl m,Seg ts i (corP (sgP (qUs op).data.toList [32]::b.pc ps ((L+1:Nat):Int) bl))→NextOk (L+1) ts (i+(1+(b.pc ps ((L+1:Nat):Int) bl).length))→a.size≤l.length→l.length+b.size+1≤256→
   ∀x:Nat,(b.dep ((L+1:Nat):Int) d≤32→qOe ts L (PL ts ps (qFa ts ps k) (L+1)) (m+1) x (i,l)=if L=1 then .inr ((i+(1+(b.pc ps ((L+1:Nat):Int) bl).length),l++b.flat l.length++[(4,0,op,⟨#[]⟩,[(x:Int),((l.length+b.size-1:Nat):Int)])]),l.length+b.size)
    else qOe ts L (PL ts ps (qFa ts ps k) (L+1)) m (l.length+b.size) (i+(1+(b.pc ps ((L+1:Nat):Int) bl).length),l++b.flat l.length++[(4,0,op,⟨#[]⟩,[(x:Int),((l.length+b.size-1:Nat):Int)])]))∧
   (¬b.dep ((L+1:Nat):Int) d≤32→∃z,qOe ts L (PL ts ps (qFa ts ps k) (L+1)) (m+1) x (i,l)= .inl (z,2)):=by
  intro k d hk i l bl m hs hn hal hl x
  obtain⟨s1,s2⟩:=hs
  obtain⟨-,o2⟩:=zPl h0 h1 s1
  have hop:opC ts L i=op:=by rw[o2 L l1 l3,if_pos hL]
  have hB:=hb.en k d hk (L+1) (by omega) (by omega) (i+1) l bl s2 (by rw[show i+1+(b.pc ps ((L+1:Nat):Int) bl).length=i+(1+(b.pc ps ((L+1:Nat):Int) bl).length) by omega];exact hn) (by omega)
  have hm:qOe ts L (PL ts ps (qFa ts ps k) (L+1)) (m+1) x (i,l)=qBs (PL ts ps (qFa ts ps k) (L+1) (i+1,l)) fun q=>qBs (qLz (tkAt ts i) (4,0,op,⟨#[]⟩,[(x:Int),(q.2:Int)]) q.1) fun r=>if L=1 then .inr r else qOe ts L (PL ts ps (qFa ts ps k) (L+1)) m r.2 r.1:=by
   conv=>lhs;unfold qOe
   dsimp only
   rw[hop,if_neg (by omega)]
  rw[hm]
  constructor
  ·intro hg
   rw[hB.1 hg]
   simp only[qBs]
   have fl:(b.flat l.length).length=b.size:=qDc ..
   rw[qKu (by rw[jC,fl];omega)]
   simp only[jC,fl]
   rw[show i+1+(b.pc ps ((L+1:Nat):Int) bl).length=i+(1+(b.pc ps ((L+1:Nat):Int) bl).length) by omega]
  ·intro hg
   obtain⟨z,hz⟩:=hB.2 hg
   exact⟨z,by rw[hz];rfl⟩
 have hla:∀n,(a.flat n).length=a.size:=fun n=>qDc ..
 have nxt:∀{i:Nat},qId (tkAt ts i)=qIn (4,(qUs op).data.toList)→i<ts.length→NextOk (L+1) ts i:=fun {i} hs hi=>by
  obtain⟨o1,o2⟩:=zPl h0 h1 hs
  exact⟨hi,o1,fun L' a1 a2 a3=>by rw[o2 L' a2 a3,if_neg (by omega)]⟩
 have hN:∀i bl,Seg ts i (corP ((Rose.mk (4,0,op,emB) [a,b]).pc ps 0 bl))→isC ts 1 sIf i=false:=fun i bl hs=>by
  rw[hpc] at hs
  refine hNa nl ?_ i [32] (qQf hs).1
  by_cases h:L=1
  ·rw[nl2 h];decide
  ·rw[nl3 h];omega
 have fin:∀(l:List Ex) (x:Nat),x=l.length+a.size-1→l++a.flat l.length++b.flat (l++a.flat l.length).length++[((4,0,op,⟨#[]⟩,[(x:Int),(((l++a.flat l.length).length+b.size-1:Nat):Int)]):Ex)]=l++(Rose.mk (4,0,op,emB) [a,b]).flat l.length:=fun l x hx=>by
  rw[flat2,jC,hla,hx]
  simp only[jE]
  rfl
 by_cases h1L:L=1
 ·-- a comparison
  subst h1L
  obtain rfl:=nl2 rfl
  refine zMq (lv:=1) e (by decide) (by decide) hN (fun k d hk=> ?_) fun _ _ _ h=>by omega
  intro i l bl hs hn hl
  simp only[hpc] at hs hn ⊢
  rw[zSj] at hl
  obtain⟨s1,s2⟩:=qQf hs
  simp only[jC,jD] at hn ⊢
  have hA:=ha.en k d hk 2 (by decide) (by decide) i l [32] s1 (nxt s2.1 (by have:=hn.1;show i+(a.pc ps ((2:Nat):Int) [32]).length<ts.length;omega)) (by omega)
  have hT:=tail k d hk (i+(a.pc ps ((2:Nat):Int) [32]).length) (l++a.flat l.length) bl ts.length s2 (by rw[show i+(a.pc ps ((2:Nat):Int) [32]).length+(1+(b.pc ps ((1+1:Nat):Int) bl).length)=i+((a.pc ps ((2:Nat):Int) [32]).length+((b.pc ps ((1+1:Nat):Int) bl).length+1)) by omega];exact hn.up (by decide)) (by rw[jC,hla];omega) (by rw[jC,hla];omega) (l.length+a.size-1)
  rw[zNf _ (by decide) (by decide)]
  unfold qNs
  refine hA.bind (g':=b.dep ((1+1:Nat):Int) d≤32) (fun _=> ?_) (hdep d (by omega))
  refine⟨fun hg=> ?_,hT.2⟩
  have:=hT.1 hg
  rw[if_pos rfl] at this
  refine Eq.trans this ?_
  rw[fin l _ rfl,zSj,jC,hla]
  show Sum.inr _=Sum.inr _
  have:=a.pos
  rw[show i+(a.pc ps ((2:Nat):Int) [32]).length+(1+(b.pc ps ((1+1:Nat):Int) bl).length)=i+((a.pc ps ((2:Nat):Int) [32]).length+((b.pc ps ((1+1:Nat):Int) bl).length+1)) by omega,show l.length+(a.size+b.size+1)-1=l.length+a.size+b.size by omega]
 ·-- a sum or a term
  obtain rfl:=nl3 h1L
  have spi:∀k d,k+d=32→Spi ts ps (qFa ts ps k) nl (fun bl=>(Rose.mk (4,0,op,emB) [a,b]).pc ps 0 bl) ((Rose.mk (4,0,op,emB) [a,b]).dep 0 d≤32) (.mk (4,0,op,emB) [a,b]):=by
   intro k d hk i l bl hs hn hl
   simp only[hpc] at hs hn ⊢
   rw[zSj] at hl
   obtain⟨s1,s2⟩:=qQf hs
   simp only[jC,jD] at hn ⊢
   obtain⟨r1,r2⟩:=ha.es k d hk nl (by omega) l3 i l [32] s1 (nxt s2.1 (by have:=hn.1;show i+(a.pc ps (nl:Int) [32]).length<ts.length;omega)) (by omega)
   dsimp only at r1 r2
   have hlen:=hn.1
   have hd:=hdep d (by omega)
   have hT:=fun m=>tail k d hk (i+(a.pc ps (nl:Int) [32]).length) (l++a.flat l.length) bl m s2 (by rw[show i+(a.pc ps (nl:Int) [32]).length+(1+(b.pc ps ((nl+1:Nat):Int) bl).length)=i+((a.pc ps (nl:Int) [32]).length+((b.pc ps ((nl+1:Nat):Int) bl).length+1)) by omega];exact hn) (by rw[jC,hla];omega) (by rw[jC,hla];omega) (l.length+a.size-1)
   constructor
   ·intro hg
    obtain⟨ga,gb⟩:=hd.1 hg
    obtain⟨n',e1,e2⟩:=r1 ga
    obtain⟨m,rfl⟩:∃m,n'=m+1:=⟨n'-1,by omega⟩
    refine⟨m,by omega,?_⟩
    rw[e2,(hT m).1 gb,if_neg h1L,fin l _ rfl,zSj,jC,hla]
    rw[show i+(a.pc ps (nl:Int) [32]).length+(1+(b.pc ps ((nl+1:Nat):Int) bl).length)=i+((a.pc ps (nl:Int) [32]).length+((b.pc ps ((nl+1:Nat):Int) bl).length+1)) by omega,show l.length+(a.size+b.size+1)-1=l.length+a.size+b.size by omega]
   ·intro hg
    by_cases ga:a.dep (nl:Int) d≤32
    ·obtain⟨n',e1,e2⟩:=r1 ga
     obtain⟨m,rfl⟩:∃m,n'=m+1:=⟨n'-1,by omega⟩
     obtain⟨z,hz⟩:=(hT m).2 fun gb=>hg (hd.2 ⟨ga,gb⟩)
     exact⟨z,by rw[e2,hz]⟩
    ·exact r2 ga
  exact zMq (lv:=nl) e l1 (by omega) hN (fun k d hk=>(spi k d hk).fac l1 l3) fun k d hk _=>spi k d hk
end
end
section
open Go Go.Dc Go.Proofs
section
variable {ts:List Tok} {ps:List ByteArray}
def Pn(ts:List Tok)(ps:List ByteArray)(t:Rose):Prop:=∀n:Nat,1≤n→∀i bl,Seg ts i (corP (t.pc ps (n:Int) bl))→isC ts 1 sIf i=false
theorem zDg{h:Hd}{ks:List Rose}(hN:1≤lvH h→∀i bl,Seg ts i (corP (qMx ps h (pcs ps h 0 ks) bl))→isC ts 1 sIf i=false):Pn ts ps (.mk h ks):=by
 intro n h1 i bl hs
 by_cases hl:lvH h<(n:Int)
 ·rw[zFw hl] at hs
  exact zIb hs.1
 ·rw[zAq hl] at hs
  exact hN (by omega) i bl hs
theorem Res.step{α β:Type}{x:Flt⊕α}{v:α}{f:α→Flt⊕β}{g:Prop}{w:β}(h:x= .inr v)(r:Res (f v) g w):Res (qBs x f) g w:=by
 rw[h];exact r
theorem ite_pk{a b c:Rose}(ha:Pk ts ps a)(hb:Pk ts ps b)(hc:Pk ts ps c):Pk ts ps (.mk (5,0,0,emB) [a,b,c]):=by
 have hlv:lvH (5,0,0,emB)=0:=rfl
 have hpc:∀bl,(Rose.mk (5,0,0,emB) [a,b,c]).pc ps 0 bl=wdP wIf [32]::(a.pc ps 0 [32]++(wdP zLt [32]::(b.pc ps 0 [32]++(wdP zLi [32]::c.pc ps 0 bl)))):=fun bl=>by
  rw[zAq (by omega)];rfl
 have hdep:∀d,d≤32→((Rose.mk (5,0,0,emB) [a,b,c]).dep 0 d≤32↔a.dep 0 (d+1)≤32∧(b.dep 0 (d+1)≤32∧(c.dep 0 (d+1)≤32∧True))):=fun d hd=>by
  have e:(Rose.mk (5,0,0,emB) [a,b,c]).dep 0 d=max d (max (a.dep 0 (d+1)) (max (b.dep 0 (d+1)) (max (c.dep 0 (d+1)) 0))):=by
   rw[qVp (by omega)];rfl
  rw[e];simp only[and_true];omega
 have hp0:∀k d,k+d=33→Pos0 ts ps k d (.mk (5,0,0,emB) [a,b,c]):=by
  intro k d hk
  cases k with
  |zero=>exact pos_0 hk
  |succ k=>
   intro i l bl hs hn hl
   rw[hpc] at hs hn ⊢
   simp only[jD,jC] at hn ⊢
   rw[size3] at hl ⊢
   obtain⟨s1,s2⟩:=hs
   obtain⟨sa,s2⟩:=qQf s2
   obtain⟨st,s2⟩:=s2
   obtain⟨sb,s2⟩:=qQf s2
   obtain⟨se,sc⟩:=s2
   have hlen:=hn.1
   have fa:(a.flat l.length).length=a.size:=qDc ..
   have hif:isC ts 1 sIf i=true:=by rw[qPc (qEu s1)];rfl
   rw[qFa,if_pos hif]
   have RA:=ha.p0 k (d+1) (by omega) (i+1) l [32] sa (qRt zRd st (by omega) 1) (by omega)
   refine RA.bind (fun _=> ?_) (hdep d (by omega))
   dsimp only
   refine Res.step (zDx (s:=zMz) st rfl) ?_
   have RB:=hb.p0 k (d+1) (by omega) (i+1+(a.pc ps 0 [32]).length+1) (l++a.flat l.length) [32] sb (qRt zRh se (by omega) 1) (by rw[jC,fa];omega)
   refine Res.bind (x:=qFa ts ps k (i+1+(a.pc ps 0 [32]).length+1,l++a.flat l.length)) RB (fun _=> ?_) Iff.rfl
   dsimp only
   refine Res.step (zDx (s:=zOk) se rfl) ?_
   have fb:(b.flat (l++a.flat l.length).length).length=b.size:=qDc ..
   have fc:∀n,(c.flat n).length=c.size:=fun n=>qDc ..
   have RC:=hc.p0 k (d+1) (by omega) (i+1+(a.pc ps 0 [32]).length+1+(b.pc ps 0 [32]).length+1) ((l++a.flat l.length)++b.flat (l++a.flat l.length).length) bl sc (by
    rw[show i+1+(a.pc ps 0 [32]).length+1+(b.pc ps 0 [32]).length+1+(c.pc ps 0 bl).length=i+((a.pc ps 0 [32]).length+((b.pc ps 0 [32]).length+((c.pc ps 0 bl).length+1)+1)+1) by omega]
    exact hn) (by rw[jC,fb,jC,fa];omega)
   refine Res.bind (x:=qFa ts ps k (i+1+(a.pc ps 0 [32]).length+1+(b.pc ps 0 [32]).length+1,(l++a.flat l.length)++b.flat (l++a.flat l.length).length)) RC (fun _=> .pure trivial ?_) Iff.rfl
   dsimp only
   have pa:=a.pos
   have pb:=b.pos
   have pc:=c.pos
   rw[qKu (by simp only[jC,fa,fb,fc];simp only[jC,fa] at fb;omega)]
   simp only[jC,fa,fc]
   rw[show(b.flat (l.length+a.size)).length=b.size from qDc ..]
   rw[flat3]
   have e1:i+1+(a.pc ps 0 [32]).length+1+(b.pc ps 0 [32]).length+1+(c.pc ps 0 bl).length=i+((a.pc ps 0 [32]).length+((b.pc ps 0 [32]).length+((c.pc ps 0 bl).length+1)+1)+1):=by omega
   rw[e1,show l.length+(a.size+b.size+c.size+1)-1=l.length+a.size+b.size+c.size by omega]
   simp only[jE]
   rfl
 refine⟨hp0,fun k d hk n n2 n4=> ?_,fun k d hk L L2 L3=> ?_⟩
 ·have e:(fun bl=>(Rose.mk (5,0,0,emB) [a,b,c]).pc ps (n:Int) bl)=fun bl=>sgP [40] []::((Rose.mk (5,0,0,emB) [a,b,c]).pc ps 0 []++[sgP [41] bl]):=by
   funext bl;rw[zFw (by omega)]
  rw[e,zIj (by omega)]
  exact(zIc hk (hp0 k (d+1) (by omega))).lifts (by omega) n4 (by omega)
 ·have e:(fun bl=>(Rose.mk (5,0,0,emB) [a,b,c]).pc ps (L:Int) bl)=fun bl=>sgP [40] []::((Rose.mk (5,0,0,emB) [a,b,c]).pc ps 0 []++[sgP [41] bl]):=by
   funext bl;rw[zFw (by omega)]
  rw[e,zIj (by omega)]
  exact((zIc hk (hp0 k (d+1) (by omega))).lifts (m:=L+1) (by omega) (by omega) (by omega)).spi
theorem zVb{s:ByteArray}{a:Rose}(hp:qMc s.data.toList=true)(ha:Pk ts ps a):Pk ts ps (.mk (6,0,0,s) [a]):=by
 have hlv:lvH (6,0,0,s)=4:=rfl
 have hpc:∀bl,(Rose.mk (6,0,0,s) [a]).pc ps 0 bl=wdP zKz []::sgP [40] []::txP s.data.toList []::sgP [44] [32]::(a.pc ps 0 []++[sgP [41] bl]):=fun bl=>by
  rw[zAq (by omega)];rfl
 refine zMq (lv:=4) hlv (by decide) (by decide) (fun i bl hs=>by rw[hpc] at hs;exact qPb hs.1 (by decide+kernel)) (fun k d hk=> ?_) fun _ _ _ h=>by omega
 have hdep:(Rose.mk (6,0,0,s) [a]).dep 0 d≤32↔a.dep 0 (d+1)≤32∧True:=by
  have e:(Rose.mk (6,0,0,s) [a]).dep 0 d=max d (max (a.dep 0 (d+1)) 0):=by
   rw[qVp (by omega)];rfl
  rw[e];simp only[and_true];omega
 intro i l bl hs hn hl
 simp only[hpc] at hs hn ⊢
 simp only[jD,jC,jF] at hn ⊢
 rw[size1] at hl ⊢
 obtain⟨s1,s2,s3,s4,s5⟩:=hs
 obtain⟨sa,sz,-⟩:=qQf s5
 have hlen:=hn.1
 have e1:(tkAt ts i).2.1=qVm:=tk2 (qEu s1)
 have e3:(tkAt ts (i+1+1)).2.1=s:=tk2 (qPu s3)
 have fa:(a.flat l.length).length=a.size:=qDc ..
 have hf:PL ts ps (qFa ts ps k) 4 (i,l)=qBs (qFa ts ps k (i+1+1+1+1,l)) fun q=>qBs (qGg ts qFn q.1.1) fun j=>qLz (tkAt ts i) (6,0,0,s,[(q.2:Int)]) (j,q.1.2):=by
  show qIu ts ps (qFa ts ps k) (i,l)=_
  rw[qVn s1,if_pos (by decide+kernel)]
  unfold qKo
  dsimp only
  rw[qIh (s:=qNk) s2 rfl]
  simp only[qBs]
  rw[e1,if_pos rfl,qXv s3 hp]
  simp only[qBs]
  rw[qIh (s:=qPd) s4 rfl]
  simp only[qBs]
  rw[e3]
  cases qFa ts ps k (i+1+1+1+1,l) with
  |inl z=>rfl
  |inr q=>rfl
 rw[hf]
 have RA:=ha.p0 k (d+1) (by omega) (i+1+1+1+1) l [] sa (qRt qZz sz (by omega) 1) (by omega)
 refine RA.bind (fun _=> .pure trivial ?_) hdep
 dsimp only
 refine Eq.trans (congrArg (fun z=>qBs z _) (qIh (s:=qFn) sz rfl)) ?_
 simp only[qBs]
 have pa:=a.pos
 rw[qKu (by rw[jC,fa];omega),flat1,jC,fa]
 rw[show i+1+1+1+1+(a.pc ps 0 []).length+1=i+((a.pc ps 0 []).length+(0+1)+1+1+1+1) by omega,show l.length+(a.size+1)-1=l.length+a.size by omega,←jE]
 rfl
end
end
section
open Go Go.Dc Go.Proofs
section
variable {ts:List Tok} {ps:List ByteArray}
def Pz(ts:List Tok)(ps:List ByteArray)(t:Rose):Prop:=∀(n:Nat) i bl,Seg ts i (corP (t.pc ps (n:Int) bl))→isC ts 4 qFn i=false
theorem zDv{h:Hd}{ks:List Rose}(hN:∀i bl,Seg ts i (corP (qMx ps h (pcs ps h 0 ks) bl))→isC ts 4 qFn i=false):Pz ts ps (.mk h ks):=by
 intro n i bl hs
 by_cases hl:lvH h<(n:Int)
 ·rw[zFw hl] at hs
  exact qSq hs.1 (by decide+kernel)
 ·rw[zAq hl] at hs
  exact hN i bl hs
theorem qTr{i:Nat}{w:List UInt8}(h:qId (tkAt ts i)=qIn (1,w)):isC ts 4 qFn i=false:=by
 rw[qPc (qEu h)];rfl
theorem num_cl{i:Nat}{w:List UInt8}(h:qId (tkAt ts i)=qIn (2,w)):isC ts 4 qFn i=false:=by
 rw[qPc h];rfl
theorem qYx{n:Int}{i:Nat}{bl:List UInt8}(hs:Seg ts i (corP (qUo n bl))):isC ts 1 sIf i=false∧isC ts 4 qFn i=false:=by
 unfold qUo at hs
 split at hs
 ·exact⟨zIb hs.1,qSq hs.1 (by decide+kernel)⟩
 ·exact⟨zTn hs.1,num_cl hs.1⟩
theorem zEz:∀(ws:List Pf) (j:Nat),ws.length≤(qJy (j+1) ws).length
 |[],_=>kO _
 |w::ws,j=>by
  have:=zEz ws (j+1)
  show ws.length+1≤((if j+1=0 then[] else[sgP [44] [32]])++(w []++qJy (j+1+1) ws)).length
  rw[if_neg (by omega)]
  simp only[jC,jD,jF]
  omega
theorem zKa(s:ByteArray){k d:Nat}(hk:k+(d+1)=33):∀(ks:List Rose) (t:Rose) (m j:Nat) (acc:List Int) (i:Nat) (l:List Ex) (bl:List UInt8),(∀u∈t::ks,Pk ts ps u)→
  Seg ts i (corP (t.pc ps 0 []++(qJy (j+1) (pcs ps (3,0,0,s) (j+1) ks)++[sgP [41] bl])))→i+((t.pc ps 0 []).length+((qJy (j+1) (pcs ps (3,0,0,s) (j+1) ks)).length+1))<ts.length→l.length+t.size+qBo ks≤256→ks.length<m→
  Res (qWa ts (qFa ts ps k) m acc (i,l)) (max (t.dep 0 (d+1)) (deps (3,0,0,s) (j+1) (d+1) ks)≤32) ((i+((t.pc ps 0 []).length+((qJy (j+1) (pcs ps (3,0,0,s) (j+1) ks)).length+1)),l++(t.flat l.length++qFm (l.length+t.size) ks)),acc++qDk l.length (t::ks))
 |_,_,0,_,_,_,_,_,_,_,_,_,h=>absurd h (kL _)
 |[],t,m+1,j,acc,i,l,bl,hp,hs,hlen,hl,_=>by
  obtain⟨s1,s2⟩:=qQf hs
  have s2:qId (tkAt ts (i+(t.pc ps 0 []).length))=qIn (4,[41]):=s2.1
  have hj:(qJy (j+1) (pcs ps (3,0,0,s) (j+1) [])).length=0:=rfl
  rw[hj] at hlen ⊢
  have hsz:qBo []=0:=rfl
  rw[hsz] at hl
  have RA:=(hp t (jH ..)).p0 k (d+1) hk i l [] s1 (qRt qZz s2 (by omega) 1) (by omega)
  unfold qWa
  refine RA.bind (g':=True) (fun _=> .pure trivial ?_) (by show max _ 0≤32↔_;simp only[and_true];omega)
  dsimp only
  rw[if_neg (by rw[qSq s2 (by decide+kernel)];exact kD)]
  refine Eq.trans (congrArg (fun z=>qBs z _) (qIh (s:=qFn) s2 rfl)) ?_
  simp only[qBs]
  show Sum.inr _=Sum.inr _
  rw[show qFm (l.length+t.size) []=[] from rfl,jY,kE,←gS]
  rfl
 |u::us,t,m+1,j,acc,i,l,bl,hp,hs,hlen,hl,hm=>by
  have hjp:qJy (j+1) (pcs ps (3,0,0,s) (j+1) (u::us))=sgP [44] [32]::(u.pc ps 0 []++qJy (j+1+1) (pcs ps (3,0,0,s) (j+1+1) us)):=by
   show(if j+1=0 then[] else[sgP [44] [32]])++(u.pc ps (qHs (3,0,0,s) (j+1)) []++qJy (j+1+1) (pcs ps (3,0,0,s) (j+1+1) us))=_
   rw[if_neg (by omega)];rfl
  rw[hjp] at hs hlen ⊢
  rw[jQ,jE] at hs
  simp only[jD,jC] at hlen ⊢
  have hsz:qBo (u::us)=u.size+qBo us:=rfl
  rw[hsz] at hl
  obtain⟨s1,s2⟩:=qQf hs
  obtain⟨s2,s3⟩:=s2
  have s2:qId (tkAt ts (i+(t.pc ps 0 []).length))=qIn (4,[44]):=s2
  have ft:(t.flat l.length).length=t.size:=qDc ..
  have RA:=(hp t (jH ..)).p0 k (d+1) hk i l [] s1 (qRt zPe s2 (by omega) 1) (by omega)
  have RB:=zKa s hk us u m (j+1) (acc++[((l.length+t.size-1:Nat):Int)]) (i+(t.pc ps 0 []).length+1) (l++t.flat l.length) bl (fun v hv=>hp v (jM _ hv)) s3 (by omega) (by rw[jC,ft];omega) (by simp only[jD] at hm;omega)
  unfold qWa
  refine RA.bind (fun _=> ?_) (g':=max (u.dep 0 (d+1)) (deps (3,0,0,s) (j+1+1) (d+1) us)≤32) (by show max _ (max (u.dep 0 (d+1)) _)≤32↔_;omega)
  dsimp only
  rw[if_pos (qOc (s:=qPd) s2 rfl)]
  rw[jC,ft] at RB
  have e1:i+(t.pc ps 0 []).length+1+((u.pc ps 0 []).length+((qJy (j+1+1) (pcs ps (3,0,0,s) (j+1+1) us)).length+1))=i+((t.pc ps 0 []).length+((u.pc ps 0 []).length+(qJy (j+1+1) (pcs ps (3,0,0,s) (j+1+1) us)).length+1+1)):=by omega
  rw[e1] at RB
  have e2:l++t.flat l.length++(u.flat (l.length+t.size)++qFm (l.length+t.size+u.size) us)=l++(t.flat l.length++qFm (l.length+t.size) (u::us)):=by
   rw[jE];rfl
  rw[e2] at RB
  have e3:acc++[((l.length+t.size-1:Nat):Int)]++qDk (l.length+t.size) (u::us)=acc++qDk l.length (t::u::us):=by
   rw[jE];rfl
  rw[e3] at RB
  exact RB
theorem zVn{s:ByteArray}{ks:List Rose}(h:qDf s=true)(hks:∀t∈ks,Pk ts ps t∧Pz ts ps t):Pk ts ps (.mk (3,0,0,s) ks):=by
 have hlv:lvH (3,0,0,s)=4:=rfl
 obtain⟨n1,n2,n3⟩:=qSw h
 have hpc:∀bl,(Rose.mk (3,0,0,s) ks).pc ps 0 bl=wdP s.data.toList []::sgP [40] []::(qJy 0 (pcs ps (3,0,0,s) 0 ks)++[sgP [41] bl]):=fun bl=>by
  rw[zAq (by omega)];rfl
 refine zMq (lv:=4) hlv (by decide) (by decide) (fun i bl hs=>by rw[hpc] at hs;exact qPb hs.1 n3) (fun k d hk=> ?_) fun _ _ _ h=>by omega
 intro i l bl hs hn hl
 have hflat:(Rose.mk (3,0,0,s) ks).flat l.length=qFm l.length ks++[qLf (3,0,0,s) (qDk l.length ks)]:=by unfold Rose.flat;rfl
 have hsize:(Rose.mk (3,0,0,s) ks).size=qBo ks+1:=rfl
 have hdep:(Rose.mk (3,0,0,s) ks).dep 0 d=max d (deps (3,0,0,s) 0 (d+1) ks):=by rw[qVp (by omega)];rfl
 simp only[hpc] at hs hn ⊢
 rw[hsize] at hl
 rw[hflat,hsize,hdep]
 simp only[jD,jC,jF] at hn ⊢
 obtain⟨s1,s2,s3⟩:=hs
 have hlen:=hn.1
 have hf:PL ts ps (qFa ts ps k) 4 (i,l)=qBs (qMn ts (qFa ts ps k) (i+1,l)) fun q=>qLz (tkAt ts i) (3,0,0,s,q.2) q.1:=by
  show qIu ts ps (qFa ts ps k) (i,l)=_
  rw[qVn s1,if_neg n1,if_neg (by rw[show resC (⟨⟨s.data.toList⟩⟩:ByteArray)=false from n2];exact kD),if_pos (qOc (s:=qNk) s2 rfl)]
 have ha:qMn ts (qFa ts ps k) (i+1,l)=if isC ts 4 qFn (i+1+1) then .inr ((i+1+1+1,l),[]) else qWa ts (qFa ts ps k) (ts.length+1) [] (i+1+1,l):=by
  unfold qMn
  dsimp only
  rw[qIh (s:=qNk) s2 rfl]
  rfl
 rw[hf,ha]
 cases ks with
 |nil=>
  have s3:qId (tkAt ts (i+1+1))=qIn (4,[41]):=s3.1
  have hj:(qJy 0 (pcs ps (3,0,0,s) 0 [])).length=0:=rfl
  rw[hj] at hn ⊢
  have hsz:qBo []=0:=rfl
  rw[hsz] at hl
  rw[if_pos (qOc (s:=qFn) s3 rfl)]
  refine .pure (by show max d 0≤32;omega) ?_
  simp only[qBs]
  rw[qKu (by omega),show i+1+1+1=i+(0+(0+1)+1+1) by omega]
  rfl
 |cons u us=>
  have hjp:qJy 0 (pcs ps (3,0,0,s) 0 (u::us))=u.pc ps 0 []++qJy (0+1) (pcs ps (3,0,0,s) (0+1) us):=rfl
  rw[hjp] at s3 hlen ⊢
  simp only[jC] at hlen ⊢
  rw[jE] at s3
  have hz:isC ts 4 qFn (i+1+1)=false:=(hks u (jH ..)).2 0 (i+1+1) [] (qQf s3).1
  rw[if_neg (by rw[hz];exact kD)]
  have hsz:qBo (u::us)=u.size+qBo us:=rfl
  rw[hsz] at hl
  have hjl:=zEz (pcs ps (3,0,0,s) (0+1) us) 0
  have hpl:(pcs ps (3,0,0,s) (0+1) us).length=us.length:=by
   clear hjl hlen s3 hjp hpc hks hflat hsize hdep hn hl hsz hf ha
   generalize 0+1=j
   induction us generalizing j with
   |nil=>rfl
   |cons a r ih=>show(pcs ps (3,0,0,s) (j+1) r).length+1=_;rw[ih];rfl
  rw[hpl] at hjl
  have RA:=zKa s (k:=k) (d:=d) (by omega) us u (ts.length+1) 0 [] (i+1+1) l bl (fun v hv=>(hks v hv).1) s3 (by omega) (by omega) (by omega)
  refine RA.bind (g':=True) (fun _=> .pure trivial ?_) (by show max d (max (u.dep 0 (d+1)) _)≤32↔_;simp only[and_true];omega)
  dsimp only
  have fl:(u.flat l.length++qFm (l.length+u.size) us).length=u.size+qBo us:=by
   rw[jC,qDc,qJc]
  rw[qKu (by rw[jC,fl];omega),jC,fl]
  have e1:i+1+1+((u.pc ps 0 []).length+((qJy (0+1) (pcs ps (3,0,0,s) (0+1) us)).length+1))=i+((u.pc ps 0 []).length+(qJy (0+1) (pcs ps (3,0,0,s) (0+1) us)).length+(0+1)+1+1):=by omega
  rw[e1,jE,hsz,show l.length+(u.size+qBo us+1)-1=l.length+(u.size+qBo us) by omega]
  rfl
theorem zUg(hps:∀s∈ps,qDf s=true)(hfi:∀j,j<ps.length→ps.findIdx? (fun x=>decide (x=ps.getD j ⟨#[]⟩))=some j){t:Rose}(hf:Fine ps.length t):Pk ts ps t∧Pn ts ps t∧Pz ts ps t:=by
 induction hf with
 |num n h0 h1=>exact⟨num_pk h0 h1,zDg fun _ i bl hs=>(qYx hs).1,zDv fun i bl hs=>(qYx hs).2⟩
 |par i h=>
  have hmem:ps.getD i ⟨#[]⟩∈ps:=by
   rw[kG,List.getElem?_eq_getElem h]
   exact k9 h
  exact⟨par_pk h hps (hfi i h),zDg fun _ j bl hs=>qPb hs.1 (qSw (hps _ hmem)).2.2,zDv fun j bl hs=>qTr hs.1⟩
 |call s ks h hk ih=>exact⟨zVn h fun t ht=>⟨(ih t ht).1,(ih t ht).2.2⟩,zDg fun _ j bl hs=>qPb hs.1 (qSw h).2.2,zDv fun j bl hs=>qTr hs.1⟩
 |bin op a b h0 h1 ha hb iha ihb=>
  obtain⟨e,l1,l3⟩:=lvOp h0 h1
  obtain⟨nl,enl,hnl⟩:∃nl:Nat,qHs (4,0,op,emB) 0=(nl:Int)∧1≤nl:=by
   unfold qHs
   rw[if_pos rfl,if_pos rfl,e]
   split
   ·exact⟨2,rfl,by decide⟩
   ·exact⟨levP op,rfl,l1⟩
  have hb:∀bl,qMx ps (4,0,op,emB) (pcs ps (4,0,op,emB) 0 [a,b]) bl=a.pc ps (nl:Int) [32]++(sgP (qUs op).data.toList [32]::b.pc ps (qHs (4,0,op,emB) 1) bl):=fun bl=>by
   rw[←enl];rfl
  exact⟨bin_pk h0 h1 iha.1 ihb.1 iha.2.1,zDg fun _ i bl hs=>by rw[hb] at hs;exact iha.2.1 nl hnl i [32] (qQf hs).1,zDv fun i bl hs=>by rw[hb] at hs;exact iha.2.2 nl i [32] (qQf hs).1⟩
 |ite a b c ha hb hc iha ihb ihc=>exact⟨ite_pk iha.1 ihb.1 ihc.1,zDg fun h=>absurd h (by decide),zDv fun i bl hs=>qTr hs.1⟩
 |read s a h ha iha=>exact⟨zVb h iha.1,zDg fun _ i bl hs=>qPb hs.1 (by decide+kernel),zDv fun i bl hs=>qTr hs.1⟩
 |look k s hk h=>
  refine⟨zMv (.inl ⟨hk,h⟩),zDg fun _ i bl hs=> ?_,zDv fun i bl hs=> ?_⟩
  ·rcases hk with rfl|rfl
   ·exact qPb (w:=(qQt 7).data.toList) hs.1 (by decide+kernel)
   ·exact qPb (w:=(qQt 8).data.toList) hs.1 (by decide+kernel)
  ·rcases hk with rfl|rfl<;>exact qTr hs.1
 |env s h=>exact⟨zMv (.inr ⟨rfl,h⟩),zDg fun _ i bl hs=>qPb (w:=(qQt 9).data.toList) hs.1 (by decide+kernel),zDv fun i bl hs=>qTr hs.1⟩
 |flip n h=>exact⟨zVp h,zDg fun _ i bl hs=>qPb hs.1 (by decide+kernel),zDv fun i bl hs=>qTr hs.1⟩
end
end
section
open Go Go.Dc Go.Proofs
theorem qTw{α:Type}[DecidableEq α]:∀{l seen:List α},dupG seen l=false→∀y∈l,y∉seen
 |[],_,_,y,hy=>by cases hy
 |x::l,seen,h,y,hy=>by
  unfold dupG at h
  simp only[kS,decide_eq_false_iff_not] at h
  rcases jN.1 hy with rfl|hy
  ·exact h.1
  ·exact fun g=>qTw h.2 y hy (kF _ g)
theorem zPm:∀{l seen:List ByteArray},dupG seen l=false→∀j,j<l.length→l.findIdx? (fun x=>decide (x=l.getD j ⟨#[]⟩))=some j
 |[],_,_,j,hj=>by cases hj
 |x::l,seen,h,0,_=>by
  rw[List.findIdx?_cons]
  have:decide (x=(x::l).getD 0 ⟨#[]⟩)=true:=jZ rfl
  rw[if_pos this]
 |x::l,seen,h,j+1,hj=>by
  have h2:=h
  unfold dupG at h2
  simp only[kS] at h2
  have hj:j<l.length:=by simpa using hj
  have e:(x::l).getD (j+1) ⟨#[]⟩=l.getD j ⟨#[]⟩:=rfl
  have hne:x≠l.getD j ⟨#[]⟩:=fun g=>by
   have hm:l.getD j ⟨#[]⟩∈l:=by
    rw[kG,List.getElem?_eq_getElem hj]
    exact k9 hj
   refine qTw h2.2 _ hm ?_
   rw[←g]
   exact kQ _ (jS.2 rfl)
  rw[List.findIdx?_cons,e,if_neg (by simpa using hne),zPm h2.2 j hj]
  rfl
def zLq:List UInt8:=[102,117,110,99]
def zPj:List UInt8:=[116,101,115,116]
def wGen:List UInt8:=[103,101,110]
def wPkg:List UInt8:=[112,97,99,107,97,103,101]
def wImp:List UInt8:=[105,109,112,111,114,116]
def qMr:Nat→List ByteArray→List Pc
 |_,[]=>[]
 |k,p::r=>(if k=0 then[] else[sgP [44] [32]])++(wdP p.data.toList []::qMr (k+1) r)
def qSh(d:Dl):List Pc:=
 if d.1=1 then wdP zLq [32]::wdP d.2.1.data.toList []::sgP [40] []::(qMr 0 d.2.2.1++[sgP [41] [32]])
 else if d.1=2 then[wdP zPj [32],wdP d.2.1.data.toList [32]]
 else[wdP wGen [32],txP d.2.1.data.toList [32]]
def qOo(d:Dl):List Pc:=match zCr d.2.2.2 with
 |some t=>t.pc d.2.2.1 0 []
 |none=>[]
def qLq(d:Dl):List Pc:=qSh d++(sgP [61] [32]::(qOo d++[sgP [59] [10]]))
def qUf(s:ByteArray):List Pc:=[wdP wImp [32],wdP s.data.toList [],sgP [59] [10]]
def qPe(f:Sr):List Pc:=wdP wPkg [32]::wdP f.1.data.toList []::sgP [59] [10]::(f.2.1.flatMap qUf++f.2.2.flatMap qLq)
structure OkD(d:Dl):Prop where
 good:GoodD d
 pars:d.2.2.1.length≤8
 body:d.2.2.2.length≤256
 dup:dupL d.2.2.1=false
theorem OkD.tree{d:Dl}(h:OkD d):∃t,zCr d.2.2.2=some t∧d.2.2.2=t.flat 0∧Fine d.2.2.1.length t:=by
 obtain⟨t,h1,h2⟩:=qXr h.good.tree
 exact⟨t,h1,h2,zUz t 0 fun x hx=>h.good.nodes x (by rw[h2];exact hx)⟩
theorem OkD.kind{d:Dl}(h:OkD d):(d.1=1∨d.1=2)∧qDf d.2.1=true∨d.1=3∧qMc d.2.1.data.toList=true:=by
 have:=h.good.head
 unfold zDl at this
 split at this
 ·rename_i g;exact .inl ⟨g,this⟩
 ·split at this
  ·rename_i g;exact .inr ⟨g,this⟩
  ·cases this
theorem OkD.nopars{d:Dl}(h:OkD d)(h1:d.1≠1):d.2.2.1=[]:=by
 cases hp:d.2.2.1 with
 |nil=>rfl
 |cons p r=>exact absurd (h.good.pars p (by rw[hp];exact jH ..)).1 h1
theorem OkD.names{d:Dl}(h:OkD d):∀s∈d.2.2.1,qDf s=true:=fun s hs=>(h.good.pars s hs).2
theorem zGy{d:Dl}(h:OkD d):qDb (qOo d)=wrD d:=by
 obtain⟨t,h1,-,h3⟩:=h.tree
 unfold qOo wrD
 rw[h1]
 simp only
 rw[zOv h3,jY]
theorem zBp:∀(l:List ByteArray) (k:Nat),qDb (qMr k l)=qPa k (l.map fun s=>s.data.toList)
 |[],_=>rfl
 |p::l,k=>by
  simp only[qMr,kI,qPa,qIg,wdP,qEg,by1,zBp l,jO]
  congr 1
  unfold sepK
  split
  ·rfl
  ·rfl
theorem zVf(l:List UInt8):(qKl l).data.toList=l:=rfl
theorem zHf{d:Dl}(h:OkD d):qDb (qLq d)=zCz d:=by
 unfold qLq zCz
 rw[qIg]
 have e:qDb (qSh d)=(zDs d).data.toList++[32]:=by
  unfold qSh zDs
  by_cases h1:d.1=1
  ·rw[if_pos h1,if_pos h1]
   simp only[wdP,sgP,qEg,qIg,zBp,by1,by4,qDb,qHj,qTd,zDz,zLq,jY,jO,jE,jQ]
  ·rw[if_neg h1,if_neg h1]
   by_cases h2:d.1=2
   ·rw[if_pos h2,if_pos h2]
    simp only[wdP,qEg,by1,qDb,qHj,qTd,zPj,jY,jO,jE,jQ]
   ·rw[if_neg h2,if_neg h2]
    simp only[wdP,txP,qEg,by1,by3,qDb,qHj,qTd,wGen,jY,jO,jE,jQ]
 rw[e]
 simp only[sgP,qEg,qIg,zGy h,by4,qDb,qHj,qTd,zVf,jY,jO,jE,jQ]
theorem zLb(s:ByteArray):qDb (qUf s)=impT s:=by
 unfold qUf impT
 simp only[wdP,sgP,qEg,by1,by4,qDb,qHj,qTd,wImp,jY,jO,jE,jQ]
theorem qUl{α:Type}(g:α→List Pc)(h:α→List UInt8):∀(l:List α),(∀x∈l,qDb (g x)=h x)→qDb (l.flatMap g)=l.flatMap h
 |[],_=>rfl
 |x::l,hl=>by
  rw[kN,kN,qIg,hl x (jH ..),qUl g h l fun y hy=>hl y (jM _ hy)]
theorem zKl{f:Sr}(h:GoodS f):∀d∈f.2.2,OkD d:=fun d hd=>by
 obtain⟨a,b,c,-⟩:=h.decs d hd
 refine⟨a,b,c,?_⟩
 have:=h.once
 unfold qSj at this
 simp only[kS,fY] at this
 exact(Bool.not_eq_true _).mp (this.1 d hd)
theorem qZx{f:Sr}(h:GoodS f):qDb (qPe f)=fmtT f:=by
 unfold qPe fmtT pkgT
 simp only[wdP,sgP,qEg,qIg,by1,by4,qHj,qTd,wPkg,jO,jE,jQ]
 rw[qUl qUf impT _ fun s _=>zLb s,qUl qLq zCz _ fun d hd=>zHf (zKl h d hd)]
theorem blP2:blP [10]:=fun x h=>by rw[jS.1 h];kernel_rfl
theorem gdE{rest:List Pc}(hg:qKm rest):qKm (sgP [61] [32]::rest):=
 ⟨.inr (.inr (.inr ⟨rfl,by decide⟩)),blP1,fun x r h=>by
  obtain⟨rfl,-⟩:=List.cons.inj (show 32::qDb rest=x::r from h)
  kernel_rfl,hg⟩
theorem okFunc:okC (1,zLq):= .inl ⟨rfl,⟨102,_,rfl,by kernel_rfl⟩,by decide+kernel,by decide⟩
theorem okTest:okC (1,zPj):= .inl ⟨rfl,⟨116,_,rfl,by kernel_rfl⟩,by decide+kernel,by decide⟩
theorem okGen:okC (1,wGen):= .inl ⟨rfl,⟨103,_,rfl,by kernel_rfl⟩,by decide+kernel,by decide⟩
theorem okPkg:okC (1,wPkg):= .inl ⟨rfl,⟨112,_,rfl,by kernel_rfl⟩,by decide+kernel,by decide⟩
theorem okImp:okC (1,wImp):= .inl ⟨rfl,⟨105,_,rfl,by kernel_rfl⟩,by decide+kernel,by decide⟩
theorem zRk{l:List ByteArray}{k:Nat}{rest:List Pc}(hs:qUb (qDb rest)=true):qUb (qDb (qMr (k+1) l++rest))=true:=by
 cases l with
 |nil=>exact hs
 |cons p r=>
  show qUb (qDb (((if k+1=0 then[] else[sgP [44] [32]])++(wdP p.data.toList []::qMr (k+1+1) r))++rest))=true
  rw[if_neg (by omega)]
  kernel_rfl
theorem zTs:∀(l:List ByteArray) (k:Nat) (rest:List Pc),(∀s∈l,qDf s=true)→qUb (qDb rest)=true→qKm rest→qKm (qMr k l++rest)
 |[],_,_,_,_,hg=>hg
 |p::l,k,rest,hl,hs,hg=>by
  have ih:=zTs l (k+1) rest (fun s hs=>hl s (jM _ hs)) hs hg
  have h1:qKm (wdP p.data.toList []::(qMr (k+1) l++rest)):=gdW (qRs (qNy (hl p (jH ..)))) blP0 (zRk hs) ih
  show qKm (((if k=0 then[] else[sgP [44] [32]])++(wdP p.data.toList []::qMr (k+1) l))++rest)
  rw[jE]
  split
  ·exact h1
  ·exact gdS (by decide) (by decide) blP1 h1
theorem zTy{d:Dl}(h:OkD d){rest:List Pc}(hg:qKm rest):qKm (qLq d++rest):=by
 obtain⟨t,h1,-,h3⟩:=h.tree
 have hps:∀s∈d.2.2.1,qOi s=true:=fun s hs=>qNy (h.names s hs)
 have hb:qKm (sgP [61] [32]::((qOo d++[sgP [59] [10]])++rest)):=by
  refine gdE ?_
  unfold qOo
  rw[h1,jE]
  exact zVt hps h3 0 [] _ blP0 (by kernel_rfl) (gdS (by decide) (by decide) blP2 hg)
 unfold qLq
 rw[jE,jQ]
 generalize hR:sgP [61] [32]::((qOo d++[sgP [59] [10]])++rest)=R at hb
 unfold qSh
 rcases h.kind with ⟨hk,hn⟩|⟨hk,hn⟩
 ·by_cases k1:d.1=1
  ·rw[if_pos k1]
   show qKm (wdP zLq [32]::wdP d.2.1.data.toList []::sgP [40] []::((qMr 0 d.2.2.1++[sgP [41] [32]])++R))
   rw[jE]
   exact gdW okFunc blP1 (by kernel_rfl) (gdW (qRs (qNy hn)) blP0 (by kernel_rfl) (gdS (by decide) (by decide) blP0 (zTs _ 0 _ h.names (by kernel_rfl) (gdS (by decide) (by decide) blP1 hb))))
  ·rw[if_neg k1,if_pos (hk.resolve_left k1)]
   exact gdW okTest blP1 (by kernel_rfl) (gdW (qRs (qNy hn)) blP1 (by kernel_rfl) hb)
 ·rw[if_neg (by omega),if_neg (by omega)]
  obtain⟨p1,p2⟩:=zCn hn
  exact gdW okGen blP1 (by kernel_rfl) (gdT p1 p2 blP1 hb)
theorem zHt{α:Type}(g:α→List Pc):∀(l:List α) (rest:List Pc),(∀x∈l,∀r,qKm r→qKm (g x++r))→qKm rest→qKm (l.flatMap g++rest)
 |[],_,_,hg=>hg
 |x::l,rest,hl,hg=>by
  rw[kN,jE]
  exact hl x (jH ..) _ (zHt g l rest (fun y hy=>hl y (jM _ hy)) hg)
theorem zPt{f:Sr}(h:GoodS f):qKm (qPe f):=by
 have hd:=zHt qLq f.2.2 [] (fun d hd r hr=>zTy (zKl h d hd) hr) trivial
 rw[jY] at hd
 have hi:=zHt qUf f.2.1 (f.2.2.flatMap qLq) (fun s hs r hr=>gdW okImp blP1 (by kernel_rfl) (gdW (qRs (qNy (h.imps s hs))) blP0 (by kernel_rfl) (gdS (by decide) (by decide) blP2 hr))) hd
 exact gdW okPkg blP1 (by kernel_rfl) (gdW (qRs (qNy h.pkg)) blP0 (by kernel_rfl) (gdS (by decide) (by decide) blP2 hi))
end
section
open Go Go.Dc Go.Proofs
section
variable {ts:List Tok} {i:Nat}
theorem qTy{s:ByteArray}(h:qId (tkAt ts i)=qIn (1,s.data.toList))(hn:qDf s=true):qQl ts i= .inr (i+1,tkAt ts i):=by
 unfold qQl
 rw[qYc (qEu h) rfl]
 simp only[qBs]
 have e:(tkAt ts i).2.1=s:=tk2 (qEu h)
 rw[e,if_neg (by rw[(qSw hn).2.1];exact kD)]
theorem zOm:∀(l:List ByteArray) (j:Nat),l.length≤(qMr (j+1) l).length
 |[],_=>kO _
 |p::l,j=>by
  have:=zOm l (j+1)
  show l.length+1≤((if j+1=0 then[] else[sgP [44] [32]])++(wdP p.data.toList []::qMr (j+1+1) l)).length
  rw[if_neg (by omega)]
  simp only[jC,jD,jF]
  omega
theorem zGv:∀(r:List ByteArray) (p:ByteArray) (n j:Nat) (acc:List ByteArray) (i:Nat) (bl:List UInt8),(∀s∈p::r,qDf s=true)→dupG acc (p::r)=false→acc.length+r.length+1≤8→Seg ts i (corP (wdP p.data.toList []::(qMr (j+1) r++[sgP [41] bl])))→r.length<n→
  qPn ts n acc i= .inr (i+(1+(qMr (j+1) r).length+1),acc++p::r)
 |_,_,0,_,_,_,_,_,_,_,_,h=>absurd h (kL _)
 |[],p,n+1,j,acc,i,bl,hn,hd,hl,hs,_=>by
  obtain⟨s1,s2,-⟩:=hs
  have e:(tkAt ts i).2.1=p:=tk2 (qEu s1)
  have hnot:=qTw hd p (jH ..)
  unfold qPn
  rw[qTy s1 (hn p (jH ..))]
  simp only[qBs]
  rw[if_neg (by simp only[jF] at hl;omega),e,if_neg hnot,if_neg (by rw[qSq s2 (by decide+kernel)];exact kD),qIh (s:=qFn) s2 rfl]
  rfl
 |q::r,p,n+1,j,acc,i,bl,hn,hd,hl,hs,hm=>by
  have hjp:qMr (j+1) (q::r)=sgP [44] [32]::(wdP q.data.toList []::qMr (j+1+1) r):=by
   show(if j+1=0 then[] else[sgP [44] [32]])++(wdP q.data.toList []::qMr (j+1+1) r)=_
   rw[if_neg (by omega)];rfl
  rw[hjp] at hs ⊢
  obtain⟨s1,s2,s3⟩:=hs
  have e:(tkAt ts i).2.1=p:=tk2 (qEu s1)
  have hnot:=qTw hd p (jH ..)
  unfold dupG at hd
  simp only[kS] at hd
  have ih:=zGv r q n (j+1) (acc++[p]) (i+1+1) bl (fun s hs=>hn s (jM _ hs)) hd.2 (by simp only[jC,jD,jF] at hl ⊢;omega) s3 (by simp only[jD] at hm;omega)
  unfold qPn
  rw[qTy s1 (hn p (jH ..))]
  simp only[qBs]
  rw[if_neg (by simp only[jD] at hl;omega),e,if_neg hnot,if_pos (qOc (s:=qPd) s2 rfl),ih]
  simp only[jD,jE,jQ,jO]
  show Sum.inr _=Sum.inr _
  rw[show i+1+1+(1+(qMr (j+1+1) r).length+1)=i+(1+((qMr (j+1+1) r).length+1+1)+1) by omega]
theorem zDt{l:List ByteArray}{bl:List UInt8}(hn:∀s∈l,qDf s=true)(hd:dupL l=false)(hl:l.length≤8)(hs:Seg ts i (corP (sgP [40] []::(qMr 0 l++[sgP [41] bl]))))(hlen:i+(qMr 0 l).length+2<ts.length):
  qKk ts i= .inr (i+(1+(qMr 0 l).length+1),l):=by
 obtain⟨s1,s2⟩:=hs
 unfold qKk
 rw[qIh (s:=qNk) s1 rfl]
 simp only[qBs]
 cases l with
 |nil=>
  have s2:qId (tkAt ts (i+1))=qIn (4,[41]):=s2.1
  rw[if_pos (qOc (s:=qFn) s2 rfl)]
  rfl
 |cons p r=>
  have hjp:qMr 0 (p::r)=wdP p.data.toList []::qMr (0+1) r:=rfl
  rw[hjp] at s2 hlen ⊢
  have hq:=zOm r 0
  simp only[jD] at hlen hl ⊢
  rw[if_neg (by rw[qTr s2.1];exact kD)]
  have:=zGv r p (ts.length+1) 0 [] (i+1) bl hn hd (by simp only[jF];omega) s2 (by omega)
  rw[this,jO,show i+1+(1+(qMr (0+1) r).length+1)=i+(1+((qMr (0+1) r).length+1)+1) by omega]
end
theorem Res.stepR{α β:Type}{x:Flt⊕α}{v:α}{f:α→Flt⊕β}{g:Prop}{w:β}(h:x= .inr v)(r:Res (f v) g w):Res (qBs x f) g w:=by
 rw[h];exact r
section
variable {ts:List Tok}
theorem zRw{d:Dl}(h:OkD d){i:Nat}{k:Int}{nm:ByteArray}(hs:Seg ts i (corP (sgP [61] [32]::(qOo d++[sgP [59] [10]]))))(hlen:i+((qOo d).length+1+1)<ts.length):
  Res (qBs (qGg ts sEq i) fun j=>qBs (qFa ts d.2.2.1 32 (j,[])) fun c=>qBs (qGg ts qUn c.1.1) fun m=>(.inr (m,(k,nm,d.2.2.1,c.1.2)):Flt⊕(Nat×Dl))) (depD d≤32) (i+((qOo d).length+1+1),(k,nm,d.2.2.1,d.2.2.2)):=by
 obtain⟨t,h1,h2,h3⟩:=h.tree
 have et:qOo d=t.pc d.2.2.1 0 []:=by unfold qOo;rw[h1]
 have ed:depD d=t.dep 0 1:=by unfold depD;rw[h1]
 rw[et] at hs hlen ⊢
 rw[ed]
 obtain⟨s1,s2⟩:=hs
 obtain⟨s2,s3⟩:=qQf s2
 have s3:qId (tkAt ts (i+1+(t.pc d.2.2.1 0 []).length))=qIn (4,[59]):=s3.1
 have hp:=(zUg (ts:=ts) h.names (zPm h.dup) h3).1
 have hsz:t.size=d.2.2.2.length:=by
  have:=qDc t 0
  rw[←h2] at this;exact this.symm
 have hbody:=h.body
 have RA:=hp.p0 32 1 (by decide) (i+1) [] [] s2 (qRt zRi s3 (by omega) 1) (by rw[hsz];simpa using h.body)
 refine Res.stepR (qIh (s:=sEq) s1 rfl) ?_
 refine RA.bind (g':=True) (fun _=> .pure trivial ?_) (by simp)
 dsimp only
 rw[qIh (s:=qUn) s3 rfl]
 simp only[qBs,jO,jF]
 rw[←h2,show i+1+(t.pc d.2.2.1 0 []).length+1=i+((t.pc d.2.2.1 0 []).length+1+1) by omega]
theorem zSl{d:Dl}(h:OkD d){i:Nat}{before:List Dl}(hb:before.length<64)(hnew:before.any (fun x=>x.1==d.1&&decide (x.2.1=d.2.1))=false)(hs:Seg ts i (corP (qLq d)))(hlen:i+(qLq d).length<ts.length):
  Res (qRq ts before i) (depD d≤32) (i+(qLq d).length,d):=by
 unfold qLq at hs hlen ⊢
 simp only[jC,jD,jF] at hlen ⊢
 obtain⟨s1,s2⟩:=qQf hs
 have hd4:((d.1,d.2.1,d.2.2.1,d.2.2.2):Dl)=d:=rfl
 have T:=fun(j:Nat) (hj:j=i+(qSh d).length)=>zRw (ts:=ts) h (i:=j) (k:=d.1) (nm:=d.2.1) (by rw[hj];exact s2) (by omega)
 unfold qRq
 dsimp only
 by_cases k1:d.1=1
 ·have eh:qSh d=wdP zLq [32]::wdP d.2.1.data.toList []::sgP [40] []::(qMr 0 d.2.2.1++[sgP [41] [32]]):=if_pos k1
  have hn:qDf d.2.1=true:=by
   rcases h.kind with ⟨-,g⟩|⟨g,-⟩
   ·exact g
   ·omega
  rw[eh] at s1 T hlen ⊢
  simp only[jC,jD,jF] at T hlen ⊢
  obtain⟨a1,a2,a3⟩:=s1
  have e1:(tkAt ts i).2.1=zNs:=tk2 (qEu a1)
  have e2:(tkAt ts (i+1)).2.1=d.2.1:=tk2 (qEu a2)
  have ek:zIp (tkAt ts i).2.1=1:=by rw[e1];decide+kernel
  rw[if_neg (by rw[ek,tk1 (qEu a1)];show ¬((1:Int)≠1∨(1:Int)=0);decide),if_neg (by omega),ek,if_neg (by decide),qTy a2 hn]
  simp only[qBs]
  rw[e2,if_neg (by rw[←k1,hnew];exact kD),if_pos trivial,zDt h.names h.dup h.pars a3 (by omega)]
  simp only
  rw[←k1]
  have:=T (i+1+1+(1+(qMr 0 d.2.2.1).length+1)) (by omega)
  rw[show i+1+1+(1+(qMr 0 d.2.2.1).length+1)+((qOo d).length+1+1)=i+((qMr 0 d.2.2.1).length+(0+1)+1+1+1+((qOo d).length+(0+1)+1)) by omega] at this
  exact this
 ·have hnp:=h.nopars k1
  rcases h.kind with ⟨k2,hn⟩|⟨k3,hn⟩
  ·have k2:d.1=2:=k2.resolve_left k1
   have eh:qSh d=[wdP zPj [32],wdP d.2.1.data.toList [32]]:=by unfold qSh;rw[if_neg k1,if_pos k2]
   rw[eh] at s1 T hlen ⊢
   simp only[jD,jF] at T hlen ⊢
   obtain⟨a1,a2,-⟩:=s1
   have e1:(tkAt ts i).2.1=zOn:=tk2 (qEu a1)
   have e2:(tkAt ts (i+1)).2.1=d.2.1:=tk2 (qEu a2)
   have ek:zIp (tkAt ts i).2.1=2:=by rw[e1];decide+kernel
   rw[if_neg (by rw[ek,tk1 (qEu a1)];show ¬((1:Int)≠1∨(2:Int)=0);decide),if_neg (by omega),ek,if_neg (by decide),qTy a2 hn]
   simp only[qBs]
   rw[e2,if_neg (by rw[←k2,hnew];exact kD),if_neg (by decide)]
   simp only
   have:=T (i+1+1) (by omega)
   rw[hnp,k2,show i+1+1+((qOo d).length+1+1)=i+(0+1+1+((qOo d).length+(0+1)+1)) by omega] at this
   refine Eq.mp (congrArg (Res _ _) ?_) this
   rw[←hd4,hnp,k2]
  ·have eh:qSh d=[wdP wGen [32],txP d.2.1.data.toList [32]]:=by unfold qSh;rw[if_neg k1,if_neg (by omega)]
   rw[eh] at s1 T hlen ⊢
   simp only[jD,jF] at T hlen ⊢
   obtain⟨a1,a2,-⟩:=s1
   have e1:(tkAt ts i).2.1=sGen:=tk2 (qEu a1)
   have e2:(tkAt ts (i+1)).2.1=d.2.1:=tk2 (qPu a2)
   have ek:zIp (tkAt ts i).2.1=3:=by rw[e1];decide+kernel
   rw[if_neg (by rw[ek,tk1 (qEu a1)];show ¬((1:Int)≠1∨(3:Int)=0);decide),if_neg (by omega),ek,if_pos rfl,qXv a2 hn]
   simp only[qBs]
   rw[e2,if_neg (by rw[←k3,hnew];exact kD),if_neg (by decide)]
   simp only
   have:=T (i+1+1) (by omega)
   rw[hnp,k3,show i+1+1+((qOo d).length+1+1)=i+(0+1+1+((qOo d).length+(0+1)+1)) by omega] at this
   refine Eq.mp (congrArg (Res _ _) ?_) this
   rw[←hd4,hnp,k3]
theorem zFi:∀(ds before:List Dl) (n i:Nat),(∀d∈ds,OkD d)→before.length+ds.length≤64→dupG (before.map qQa) (ds.map qQa)=false→Seg ts i (corP (ds.flatMap qLq)++[((5,⟨#[]⟩,0):Core)])→i+(ds.flatMap qLq).length<ts.length→ds.length<n→
  Res (qQi ts n before i) (∀d∈ds,depD d≤32) (before++ds)
 |_,_,0,_,_,_,_,_,_,h=>absurd h (kL _)
 |[],before,n+1,i,_,_,_,hs,_,_=>by
  have s1:qId (tkAt ts i)=(5,⟨#[]⟩,0):=hs.1
  unfold qQi
  rw[if_pos (tk1 s1),jY]
  exact .pure (fun d hd=>by cases hd) rfl
 |d::ds,before,n+1,i,hok,hl,hdup,hs,hlen,hm=>by
  rw[kN] at hs hlen
  rw[qXw,jE,qUq] at hs
  obtain⟨s1,s2⟩:=hs
  have hcl:(corP (qLq d)).length=(qLq d).length:=kZ ..
  rw[hcl] at s2
  rw[jC] at hlen
  simp only[jD] at hl hm
  have hfirst:(tkAt ts i).1≠5:=by
   have hc:∃w r,qLq d=wdP w [32]::r:=by
    unfold qLq qSh
    split
    ·exact⟨_,_,rfl⟩
    ·split
     ·exact⟨_,_,rfl⟩
     ·exact⟨_,_,rfl⟩
   obtain⟨w,r,hw⟩:=hc
   rw[hw] at s1
   rw[tk1 (qEu s1.1)]
   show(1:Int)≠5
   decide
  have hnew:before.any (fun x=>x.1==d.1&&decide (x.2.1=d.2.1))=false:=by
   have:=qTw hdup (qQa d) (jH ..)
   rw[fY]
   intro x hx
   simp only[jL,kJ,jA]
   rintro⟨g1,g2⟩
   exact this (fG.2 ⟨x,hx,Prod.ext g1 g2⟩)
  rw[kI] at hdup
  unfold dupG at hdup
  simp only[kS] at hdup
  have RA:=zSl (ts:=ts) (hok d (jH ..)) (i:=i) (before:=before) (by omega) hnew s1 (by omega)
  have RB:=zFi ds (before++[d]) n (i+(qLq d).length) (fun x hx=>hok x (jM _ hx)) (by simp only[jC,jD,jF];omega) (by rw[gY];exact hdup.2) s2 (by omega) (by omega)
  unfold qQi
  rw[if_neg hfirst]
  refine RA.bind (fun _=> ?_) (g':=∀x∈ds,depD x≤32) (by simp)
  rw[jE] at RB
  exact RB
theorem zBt{pkg:ByteArray}:∀(r acc:List ByteArray) (n i:Nat) (c:Core),(∀s∈r,qDf s=true)→acc.length+r.length≤8→dupG acc r=false→pkg∉r→Seg ts i (corP (r.flatMap qUf)++[c])→(c.1==1&&decide (c.2.1=qRw))=false→r.length<n→
  qLi ts pkg n acc i= .inr (i+(r.flatMap qUf).length,acc++r)
 |_,_,0,_,_,_,_,_,_,_,_,h=>absurd h (kL _)
 |[],acc,n+1,i,c,_,_,_,_,hs,hc,_=>by
  have s1:qId (tkAt ts i)=c:=hs.1
  unfold qLi
  rw[qPc s1,hc,if_neg kD,jY]
  rfl
 |s::r,acc,n+1,i,c,hn,hl,hd,hp,hs,hc,hm=>by
  rw[kN,qXw,jE,qUq] at hs
  obtain⟨⟨s1,s2,s3,-⟩,s4⟩:=hs
  have e2:(tkAt ts (i+1)).2.1=s:=tk2 (qEu s2)
  have hnot:=qTw hd s (jH ..)
  unfold dupG at hd
  simp only[kS] at hd
  simp only[jD] at hl hm
  have ih:=zBt (pkg:=pkg) r (acc++[s]) n (i+1+1+1) c (fun x hx=>hn x (jM _ hx)) (by simp only[jC,jD,jF];omega) hd.2 (fun g=>hp (jM _ g)) s4 hc (by omega)
  have hif:isC ts 1 qRw i=true:=by rw[qPc (qEu s1)];decide+kernel
  unfold qLi
  rw[if_pos hif,if_neg (by omega),qTy s2 (hn s (jH ..))]
  simp only[qBs]
  rw[e2,if_neg (by
   rintro(g|g)
   ·exact hp (by rw[g];exact jH ..)
   ·exact hnot g),qIh (s:=qUn) s3 rfl]
  simp only
  rw[ih,kN,jC,jE]
  show Sum.inr _=Sum.inr _
  rw[show i+1+1+1+(r.flatMap qUf).length=i+((qUf s).length+(r.flatMap qUf).length) by show _=i+(3+_);omega]
  rfl
end
end
section
open Go Go.Dc Go.Proofs
theorem zTl{ts:List Tok}:∀(cs:List Core) (j:Nat),(∀n,∀hn:n<cs.length,qId (tkAt ts (j+n))=cs[n])→Seg ts j cs
 |[],_,_=>trivial
 |c::cs,j,h=>⟨h 0 (by simp),zTl cs (j+1) fun n hn=>by
  have:=h (n+1) (by simpa using hn)
  rw[show j+1+n=j+(n+1) by omega,this]
  rfl⟩
theorem zNo{ts:List Tok}{cs:List Core}(h:ts.map qId=cs):Seg ts 0 cs:=by
 subst h
 refine zTl _ 0 fun n hn=> ?_
 have hn:n<ts.length:=by simpa using hn
 rw[kE,List.getElem_map]
 unfold tkAt
 rw[kG,List.getElem?_eq_getElem hn]
 rfl
theorem qZl{α:Type}(g:α→List Pc)(k:Nat):∀(l:List α),(∀x∈l,k≤(g x).length)→k*l.length≤(l.flatMap g).length
 |[],_=>by simp
 |x::l,h=>by
  have h1:=h x (jH ..)
  have h2:=qZl g k l fun y hy=>h y (jM _ hy)
  rw[kN,jC,jD,Nat.mul_add];omega
theorem qWy(d:Dl):∃w r,qLq d=wdP w [32]::r∧(w=zLq∨w=zPj∨w=wGen):=by
 unfold qLq qSh
 split
 ·exact⟨_,_,rfl,.inl rfl⟩
 ·split
  ·exact⟨_,_,rfl,.inr (.inl rfl)⟩
  ·exact⟨_,_,rfl,.inr (.inr rfl)⟩
theorem zJt{ts:List Tok}{f:Sr}(h:GoodS f)(hs:Seg ts 0 (corP (qPe f)++[((5,⟨#[]⟩,0):Core)]))(hlen:(qPe f).length<ts.length):Res (zDo ts) (∀d∈f.2.2,depD d≤32) f:=by
 have htw:=h.once
 unfold qSj at htw
 simp only[kS,decide_eq_false_iff_not] at htw
 obtain⟨-,t1,t2,t3⟩:=htw
 unfold qPe at hs hlen
 obtain⟨s1,s2,s3,s4⟩:=hs
 have s4:Seg ts 3 (corP (f.2.1.flatMap qUf++f.2.2.flatMap qLq)++[((5,⟨#[]⟩,0):Core)]):=s4
 rw[qXw,jE] at s4
 simp only[jD,jC] at hlen
 have e1:(tkAt ts (0+1)).2.1=f.1:=tk2 (qEu s2)
 have li:=qZl qUf 1 f.2.1 fun s _=>by show 1≤3;decide
 have ld:=qZl qLq 1 f.2.2 fun d _=>by
  obtain⟨w,r,hw,-⟩:=qWy d
  rw[hw];simp
 have hi:∃c,Seg ts 3 (corP (f.2.1.flatMap qUf)++[c])∧(c.1==1&&decide (c.2.1=qRw))=false:=by
  cases hd:f.2.2 with
  |nil=>
   rw[hd] at s4
   exact⟨(5,⟨#[]⟩,0),s4,rfl⟩
  |cons d ds=>
   rw[hd,kN] at s4
   obtain⟨w,r,hw,hk⟩:=qWy d
   rw[hw] at s4
   rw[qUq] at s4
   refine⟨qIn (1,w),qUq.2 ⟨s4.1,s4.2.1,trivial⟩,?_⟩
   rcases hk with rfl|rfl|rfl<;>decide+kernel
 obtain⟨c,hc1,hc2⟩:=hi
 have himp:=zBt (pkg:=f.1) f.2.1 [] (ts.length+1) 3 c h.imps (by simpa using h.impn) t2 t1 hc1 hc2 (by omega)
 rw[jO] at himp
 have hcl:(corP (f.2.1.flatMap qUf)).length=(f.2.1.flatMap qUf).length:=kZ ..
 rw[qUq,hcl] at s4
 have RD:=zFi f.2.2 [] (ts.length+1) (3+(f.2.1.flatMap qUf).length) (zKl h) (by simpa using h.decn) t3 s4.2 (by omega) (by omega)
 rw[jO] at RD
 unfold zDo
 refine Res.stepR (zDx (s:=qVs) s1 rfl) ?_
 refine Res.stepR (qTy s2 h.pkg) ?_
 refine Res.stepR (qIh (s:=qUn) s3 rfl) ?_
 dsimp only
 rw[e1]
 refine Res.stepR himp ?_
 refine RD.bind (g':=True) (fun _=> .pure trivial rfl) (by simp)
end
section
open Go Go.Dc Go.Proofs
theorem zBo:∀(ws:List (List UInt8)) (k:Nat),qPa (k+1) ws=Lib.joinTail [44,32] ws
 |[],_=>rfl
 |w::ws,k=>by
  have ih:=zBo ws (k+1)
  show sepK (k+1)++(w++qPa (k+1+1) ws)=_
  rw[ih]
  unfold sepK
  rw[if_neg (by omega)]
  simp[Lib.joinTail]
theorem zLh(ws:List (List UInt8)):qPa 0 ws=Lib.join ws [44,32]:=by
 cases ws with
 |nil=>rfl
 |cons w ws=>
  rw[Lib.join_cons,←zBo ws 0]
  rfl
theorem zUa(l:List ByteArray):zMa l (⟨#[44,32]⟩:ByteArray)=zDz l:=by
 refine zPx ?_
 show Lib.join (l.map (·.data.toList)) [44,32]=qPa 0 (l.map fun s=>s.data.toList)
 rw[zLh]
theorem zRf{N:Nat}{l:List ByteArray}(hl:l.length≤8)(hs:∀s∈l,s.size≤24):qJt N l (⟨#[44,32]⟩:ByteArray)=some (zDz l):=by
 by_cases h1:l.length≤1
 ·exact zRy h1
 ·have hlen:=zDm hs
  have hpos:0<(zDz l).size:=by
   match l,h1 with
   |x::y::r,_=>
    show 0<(qPa 0 (x.data.toList::y.data.toList::r.map fun s=>s.data.toList)).length
    simp only[qPa,jC]
    have:(sepK (0+1)).length=2:=rfl
    omega
   |[],h=>exact absurd (kO 1) h
   |[x],h=>exact absurd (jP 1) h
  unfold qJt
  rw[if_pos (by omega)]
  unfold zSv
  rw[zUa,if_pos ⟨hpos,by omega,by omega⟩]
end
section
open Go Go.Dc Go.Proofs
def blt(a b:ByteArray):Bool:=Op.bytesLess a.toList b.toList
theorem zLs{a b:ByteArray}(h:a.toList=b.toList):a=b:=by
 have h1:(a.toList==b.toList)=true:=by rw[h];exact gD _
 rw[qDz] at h1
 exact gL h1
theorem qYq:∀a:List UInt8,Op.bytesLess a a=false
 |[]=>rfl
 |x::a=>by simp[Op.bytesLess,qYq a]
theorem zBx:∀a b c:List UInt8,Op.bytesLess a b=true→Op.bytesLess b c=true→Op.bytesLess a c=true
 |_,_,[],_,h=>by simp[Op.bytesLess] at h
 |_,[],_::_,h,_=>by simp[Op.bytesLess] at h
 |[],_::_,_::_,_,_=>rfl
 |x::a,y::b,z::c,h1,h2=>by
  simp only[Op.bytesLess,f0,jA,jL,kJ] at h1 h2 ⊢
  rcases h1 with h1|⟨rfl,h1⟩<;>rcases h2 with h2|⟨rfl,h2⟩
  ·exact .inl (UInt8.lt_trans h1 h2)
  ·exact .inl h1
  ·exact .inl h2
  ·exact .inr ⟨rfl,zBx a b c h1 h2⟩
theorem zBn:∀a b:List UInt8,Op.bytesLess a b=true∨a=b∨Op.bytesLess b a=true
 |[],[]=> .inr (.inl rfl)
 |[],_::_=> .inl rfl
 |_::_,[]=> .inr (.inr rfl)
 |x::a,y::b=>by
  simp only[Op.bytesLess,f0,jA,jL,kJ,gA]
  rcases zBn a b with h|h|h
  ·rcases Nat.lt_trichotomy x.toNat y.toNat with g|g|g
   ·exact .inl (.inl (UInt8.lt_iff_toNat_lt.2 g))
   ·have g:=UInt8.toNat_inj.1 g;exact .inl (.inr ⟨g,h⟩)
   ·exact .inr (.inr (.inl (UInt8.lt_iff_toNat_lt.2 g)))
  ·rcases Nat.lt_trichotomy x.toNat y.toNat with g|g|g
   ·exact .inl (.inl (UInt8.lt_iff_toNat_lt.2 g))
   ·have g:=UInt8.toNat_inj.1 g;exact .inr (.inl ⟨g,h⟩)
   ·exact .inr (.inr (.inl (UInt8.lt_iff_toNat_lt.2 g)))
  ·rcases Nat.lt_trichotomy x.toNat y.toNat with g|g|g
   ·exact .inl (.inl (UInt8.lt_iff_toNat_lt.2 g))
   ·have g:=UInt8.toNat_inj.1 g;exact .inr (.inr (.inr ⟨g.symm,h⟩))
   ·exact .inr (.inr (.inl (UInt8.lt_iff_toNat_lt.2 g)))
theorem zLp(a:ByteArray):blt a a=false:=qYq _
theorem zFd{a b c:ByteArray}(h1:blt a b=true)(h2:blt b c=true):blt a c=true:=zBx _ _ _ h1 h2
theorem qZv(a b:ByteArray):blt a b=true∨a=b∨blt b a=true:=by
 rcases zBn a.toList b.toList with h|h|h
 ·exact .inl h
 ·exact .inr (.inl (zLs h))
 ·exact .inr (.inr h)
theorem zJd{α:Type}{lt:α→α→Prop}(irr:∀x,¬lt x x)(tr:∀x y z,lt x y→lt y z→lt x z):∀{l k:List α},l.Pairwise lt→k.Pairwise lt→(∀z,z∈l↔z∈k)→l=k
 |[],[],_,_,_=>rfl
 |[],y::k,_,_,h=>by have:=(h y).2 (jH ..);cases this
 |x::l,[],_,_,h=>by have:=(h x).1 (jH ..);cases this
 |x::l,y::k,h1,h2,h=>by
  obtain⟨a1,a2⟩:=gJ.1 h1
  obtain⟨b1,b2⟩:=gJ.1 h2
  have hxy:x=y:=by
   rcases jN.1 ((h x).1 (jH ..)) with e|e
   ·exact e
   ·rcases jN.1 ((h y).2 (jH ..)) with g|g
    ·exact g.symm
    ·exact absurd (tr _ _ _ (b1 x e) (a1 y g)) (irr y)
  subst hxy
  have:l=k:=zJd irr tr a2 b2 fun z=>by
   constructor
   ·intro hz
    rcases jN.1 ((h z).1 (jM _ hz)) with e|e
    ·rw[e] at hz;exact absurd (a1 x hz) (irr x)
    ·exact e
   ·intro hz
    rcases jN.1 ((h z).2 (jM _ hz)) with e|e
    ·rw[e] at hz;exact absurd (b1 x hz) (irr x)
    ·exact e
  rw[this]
def insU{α:Type}[DecidableEq α](b:α→α→Bool)(e:α):List α→List α
 |[]=>[e]
 |x::l=>if b x e=true then x::insU b e l else if x=e then x::l else e::x::l
theorem zDr{α:Type}[DecidableEq α]{b:α→α→Bool}{e z:α}:∀{l:List α},z∈insU b e l↔z=e∨z∈l
 |[]=>by simp[insU]
 |x::l=>by
  have ih:=zDr (b:=b) (e:=e) (z:=z) (l:=l)
  simp only[insU]
  split
  ·rw[jN,ih,jN]
   constructor
   ·rintro(h|h|h)
    ·exact .inr (.inl h)
    ·exact .inl h
    ·exact .inr (.inr h)
   ·rintro(h|h|h)
    ·exact .inr (.inl h)
    ·exact .inl h
    ·exact .inr (.inr h)
  ·split
   ·rename_i h
    constructor
    ·exact .inr
    ·rintro(g|g)
     ·rw[g,←h];exact jH ..
     ·exact g
   ·exact jN
theorem zGl{α:Type}[DecidableEq α]{b:α→α→Bool}(tr:∀x y z,b x y=true→b y z=true→b x z=true){e:α}:∀{l:List α},(∀x∈l,b x e=false→x≠e→b e x=true)→l.Pairwise (fun x y=>b x y=true)→(insU b e l).Pairwise fun x y=>b x y=true
 |[],_,_=>fM ..
 |x::l,ht,hp=>by
  obtain⟨h1,h2⟩:=gJ.1 hp
  simp only[insU]
  split
  ·rename_i h
   refine gJ.2 ⟨fun y hy=> ?_,zGl tr (fun y hy=>ht y (jM _ hy)) h2⟩
   rcases zDr.1 hy with rfl|hy
   ·exact h
   ·exact h1 y hy
  ·rename_i h
   split
   ·exact hp
   ·rename_i hne
    have hx:=ht x (jH ..) (by simpa using h) hne
    refine gJ.2 ⟨fun y hy=> ?_,hp⟩
    rcases jN.1 hy with rfl|hy
    ·exact hx
    ·exact tr _ _ _ hx (h1 y hy)
theorem bl_lt:∀a b:List UInt8,Op.bytesLess a b=true↔a<b
 |_,[]=>by simp[Op.bytesLess]
 |[],_::_=>by simp[Op.bytesLess]
 |x::a,y::b=>by
  have ih:=bl_lt a b
  simp only[Op.bytesLess,f0,jA,jL,kJ,List.cons_lt_cons_iff,ih]
theorem zVd{a b:ByteArray}:blt a b=true↔a.data.toList<b.data.toList:=by
 unfold blt
 rw[bl_lt,ByteArray.toList_eq,ByteArray.toList_eq]
theorem zVh{a b:ByteArray}:a.data.toList≤b.data.toList↔blt b a=false:=by
 rw[←List.not_lt,←zVd];simp
theorem qZn{l:List ByteArray}{z:ByteArray}:z∈qQw l↔z∈l:=by unfold qQw;exact List.mem_mergeSort
def addB(l:List ByteArray)(s:ByteArray):List ByteArray:=insU blt s l
theorem zGn:∀(K l:List ByteArray),l.Pairwise (fun x y=>blt x y=true)→(K.foldl addB l).Pairwise (fun x y=>blt x y=true)∧∀z,z∈K.foldl addB l↔z∈l∨z∈K
 |[],l,h=>⟨h,fun z=>by simp⟩
 |s::K,l,h=>by
  have h1:(addB l s).Pairwise fun x y=>blt x y=true:=zGl (b:=blt) (e:=s) (l:=l) (fun _ _ _ h1 h2=>zFd h1 h2) (fun x _ h2 h3=>by
   rcases qZv x s with g|g|g
   ·rw[g] at h2;cases h2
   ·exact absurd g h3
   ·exact g) h
  obtain⟨h2,h3⟩:=zGn K (addB l s) h1
  refine⟨h2,fun z=> ?_⟩
  rw[fV,h3 z]
  unfold addB
  rw[zDr,jN]
  constructor
  ·rintro((h|h)|h)
   ·exact .inr (.inl h)
   ·exact .inl h
   ·exact .inr (.inr h)
  ·rintro(h|h|h)
   ·exact .inl (.inr h)
   ·exact .inl (.inl h)
   ·exact .inr h
end
end Go.Proofs.YteajdekbpcmdaaaGreatDoor
