/- No condition but those of each theorem. -/
import Derived.Test.YtcdpbapbpcpflaaGreatDoorProg
import Derived.WalkKit
import Derived.Deep.LoopGhost
import Derived.KernelRfl
import Derived.OrdersHeld
import Derived.OrdersIn
import Derived.LoopNIn
import Derived.Sort.LoopGhostIn
import Derived.Laws.AppendOwn
import Derived.RangeFuncLeaves
import Derived.RangeFuncRecord
import Derived.MapKept
import Derived.Maps.RangeRun
import Derived.ChangeKeysEq
import Derived.HandedShaped
import Derived.ChangeStays
import Derived.ChangeSame
import Derived.OpenShut
import Derived.WideShapes
import Derived.JoinedOf
import Derived.ReadAgain
import Derived.ChangeAt
import Derived.RowKit
import Derived.Lib.Overlaps
import Derived.Shelf.SlSortCmp.NoneTotal
import Derived.Shelf.Sort.Plain
import Derived.Shelf.Slices.In.SortNone
import Derived.WalkSmall
import Derived.Recover
import Derived.Lib.Builder
import Derived.Lib.UnsafeStr
import Derived.Shelf.Strconv.Itoa3
import Derived.Lib.Bytealg
import Derived.Test.YtcdpbapbpcpflaaGreatDoorK4q2
namespace Go.Proofs.YtcdpbapbpcpflaaGreatDoor
section
open Go Go.Dc
section
variable {N:Nat} {ts:List Tok} {pr:List ByteArray}
abbrev RN:=List Tok×Int×Int×Int×List ByteArray×List Ex×List Int×ByteArray
def addN(st:RT)(l:ByteArray):RN:=(st.1,st.2.1,st.2.2.1,st.2.2.2.1,st.2.2.2.2.1,st.2.2.2.2.2.1,st.2.2.2.2.2.2,l)
theorem rdecl(hok:OkT ts)(hl:ts.length<1000000)(hN:1000005<N){f:Sr}(hf:f.2.2.length≤64)(i:Nat)(b:List Ex)(hi:i<ts.length):∃o,qFg N (gR ts pr (i,b)) f=some o∧relD ts (qRs ts f.2.2 i) o:=by
 have e0:((gR ts pr (i,b)).1,(gR ts pr (i,b)).2.1,(gR ts pr (i,b)).2.2.1,(gR ts pr (i,b)).2.2.2.1,([]:List ByteArray),([]:List Ex),(gR ts pr (i,b)).2.2.2.2.2.2)=gR ts [] (i,[]):=rfl
 have rest:∀(st:RT) (k:Int),(((if((List.length f.2.2:Int)==64)=true then((qAk N st (tkAt ts i).2.2.2 2).bind fun y6=>some y6) else(some st)):Option RT).bind fun o2=>(qAj N o2).bind fun y7=>((if(k==3)=true then((qBn N y7.1 true).bind fun y8=>some (addN y8.1 y8.2)) else((qAz N y7.1).bind fun y9=>some (addN y9.1 y9.2))):Option RN).bind fun o3=>((if(o3.2.2.2.1==0)=true then((qEj N f k o3.2.2.2.2.2.2.2).bind fun y10=>some y10) else(some false)):Option Bool).bind fun o4=>((if o4=true then((qAk N (o3.1,o3.2.1,o3.2.2.1,o3.2.2.2.1,o3.2.2.2.2.1,o3.2.2.2.2.2.1,o3.2.2.2.2.2.2.1) y7.2.2.2.2 10).bind fun y11=>some y11) else(some (o3.1,o3.2.1,o3.2.2.1,o3.2.2.2.1,o3.2.2.2.2.1,o3.2.2.2.2.2.1,o3.2.2.2.2.2.2.1))):Option RT).bind fun o5=>qOh N o5 k o3.2.2.2.2.2.2.2)=qSg N f (tkAt ts i) st k:=by
  intro st k
  unfold qSg
  simp only[obs]
  refine congrArg _ (funext fun o2=>congrArg _ (funext fun y7=> ?_))
  rcases qEg (k==3) with c|c<;>simp only[c,jH,jB,jG,gP,j0]<;>rfl
 have fin:∀(k:Int),k≠0→zKd (tkAt ts i).2.1=k→(tkAt ts i).1=1→∃o,qSg N f (tkAt ts i) (gR ts [] (i+1,[])) k=some o∧relD ts (qRs ts f.2.2 i) o:=by
  intro k hk0 hk h1
  have g:=hok.next hi (show(tkAt ts i).1≠5 by rw[h1];decide)
  obtain⟨o,ho,hr⟩:=zFw (N:=N) (pr:=[]) hok hl hN hf (tkAt ts i) (i+1) g k
  refine⟨o,ho,?_⟩
  unfold qRs
  dsimp only
  rw[hk,if_neg (by rintro(h|h);exact h h1;exact hk0 h)]
  exact hr
 simp only[qFg,e0,qIq (i,[]) hi,j0,Prod.eta,qKo (i,[]) hi hl]
 by_cases h1:(tkAt ts i).1=1
 ·have n:∀s,isC ts 1 s i=decide ((tkAt ts i).2.1=s):=fun s=>zDv h1
  simp only[n]
  by_cases w1:(tkAt ts i).2.1=(⟨#[102,117,110,99]⟩:ByteArray)
  ·simp only[jU w1,jH,j0]
   obtain⟨o,ho,hr⟩:=fin 1 (by decide) (by rw[w1];rfl) h1
   refine⟨o,Eq.trans ?_ ho,hr⟩
   refine Eq.trans ?_ (rest (gR ts [] (i+1,[])) 1)
   simp only[obs,qOh]
   rfl
  simp only[jQ w1,jB,jG,j0,qKo (i,[]) hi hl,n,Prod.eta]
  by_cases w2:(tkAt ts i).2.1=(⟨#[116,101,115,116]⟩:ByteArray)
  ·simp only[jU w2,jH,j0]
   obtain⟨o,ho,hr⟩:=fin 2 (by decide) (by rw[w2];rfl) h1
   refine⟨o,Eq.trans ?_ ho,hr⟩
   refine Eq.trans ?_ (rest (gR ts [] (i+1,[])) 2)
   simp only[obs,qOh]
   rfl
  simp only[jQ w2,jB,jG,j0,qKo (i,[]) hi hl,n,Prod.eta]
  by_cases w3:(tkAt ts i).2.1=(⟨#[103,101,110]⟩:ByteArray)
  ·simp only[jU w3,jH,j0]
   obtain⟨o,ho,hr⟩:=fin 3 (by decide) (by rw[w3];rfl) h1
   refine⟨o,Eq.trans ?_ ho,hr⟩
   refine Eq.trans ?_ (rest (gR ts [] (i+1,[])) 3)
   simp only[obs,qOh]
   rfl
  simp only[jQ w3,jB,jG,j0,qJi,Prod.eta]
  refine⟨_,rfl,?_⟩
  have hk:zKd (tkAt ts i).2.1=0:=by
   unfold zKd
   rw[if_neg (show ¬(tkAt ts i).2.1=zKw from w1),if_neg (show ¬(tkAt ts i).2.1=zLe from w2),if_neg (show ¬(tkAt ts i).2.1=sGen from w3)]
  unfold qRs
  dsimp only
  rw[if_pos (.inr hk)]
  exact⟨show(9:Int)≠0 by decide,i,[],[],hi,rfl⟩
 ·have n:∀s,isC ts 1 s i=false:=fun s=>zMa h1
  simp only[n,jB,jG,j0,qKo (i,[]) hi hl,qJi,Prod.eta]
  refine⟨_,rfl,?_⟩
  unfold qRs
  dsimp only
  rw[if_pos (.inl h1)]
  exact⟨show(9:Int)≠0 by decide,i,[],[],hi,rfl⟩
def relI(ts:List Tok)(pr:List ByteArray)(b:List Ex)(r:Flt⊕(Nat×List ByteArray))(o:RL):Prop:=
 match r with
 | .inl z=>∃st l,Bad ts z st∧o=addL st l
 | .inr q=>o=addL (gR ts pr (q.1,b)) q.2
theorem qTx{y5:RT×ByteArray}{z:Flt}{i:Nat}{pr':List ByteArray}{b:List Ex}(hz:z.2≠0)(M:Nat)(l:List ByteArray):qAq (qBt N y5) (M+1) (addL (bR ts z i pr' b) l)=some (addL (bR ts z i pr' b) l):=by
 have hz':((addL (bR ts z i pr' b) l).2.2.2.1==0)=false:=by simpa[bR,addL] using hz
 simp only[qAq,qBt,hz',jB,jG,j0]
theorem qSn(hok:OkT ts)(hl:ts.length<1000000)(hN:1000005<N){y5:RT×ByteArray}{b:List Ex}:∀(n M:Nat) (l:List ByteArray) (i:Nat),i<ts.length→l.length≤8→ts.length<i+n→ts.length+2<i+M→
  ∃o,qAq (qBt N y5) M (addL (gR ts pr (i,b)) l)=some o∧relI ts pr b (qLa ts y5.2 n l i) o
 |0,M,l,i,hi,_,h,_=>by omega
 |n+1,0,l,i,hi,_,_,h=>by omega
 |n+1,M+1,l,i,hi,hl8,hn,hM=>by
  have g0:((addL (gR ts pr (i,b)) l).2.2.2.1==0)=true:=rfl
  have e1:∀st:RT,∀l,((addL st l).1,(addL st l).2.1,(addL st l).2.2.1,(addL st l).2.2.2.1,(addL st l).2.2.2.2.1,(addL st l).2.2.2.2.2.1,(addL st l).2.2.2.2.2.2.1)=st:=fun _ _=>rfl
  have e2:∀st:RT,∀l,(addL st l).2.2.2.2.2.2.2=l:=fun _ _=>rfl
  have happ:∀s:ByteArray,qCm 16 l [s]=some (l++[s]):=fun s=>qDe (by simp only[jC,jE];omega) (by omega)
  have hhas:∀s,qCv N l s=some (decide (s∈l)):=fun s=>rhas (by omega) (by omega)
  have bad:∀(z:Flt) (i:Nat) (pr':List ByteArray) (b':List Ex) (l:List ByteArray),z.2≠0→i<ts.length→∃o,qAq (qBt N y5) M (addL (bR ts z i pr' b') l)=some o∧relI ts pr b (.inl z) o:=by
   intro z i pr' b' l hz hi
   obtain⟨M',rfl⟩:∃M',M=M'+1:=⟨M-1,by omega⟩
   exact⟨_,qTx hz M' l,_,_,⟨hz,i,pr',b',hi,rfl⟩,rfl⟩
  -- from the import's name on, behind an error
  have badn:∀(z:Flt) (i:Nat) (pr':List ByteArray) (b':List Ex),z.2≠0→i<ts.length→∃o,((qAj N (bR ts z i pr' b')).bind fun y11=>(qAz N y11.1).bind fun y12=>((if(y12.1.2.2.2.1==0)=true then(if(y12.2.toList==y5.2.toList)=true then(some true) else(qCv N l y12.2)) else(some false)):Option Bool).bind fun o5=>((if o5=true then qAk N y12.1 y11.2.2.2.2 10 else some y12.1):Option RT).bind fun o6=>(qAg N o6 (⟨#[59]⟩:ByteArray)).bind fun y15=>(qCm 16 l ([y12.2])).bind fun l1=>qAq (qBt N y5) M (addL y15 l1))=some o∧relI ts pr b (.inl z) o:=by
   intro z i pr' b' hz hi
   have hz':((bR ts z i pr' b').2.2.2.1==0)=false:=by simpa[bR] using hz
   simp only[qNz hi,qYo hz hi,j0,hz',jB,jG,qLi hz hi,happ]
   exact bad z i pr' b' _ hz hi
  -- the step
  have step:qAq (qBt N y5) (M+1) (addL (gR ts pr (i,b)) l)=(if isC ts 1 qTj i=true then
    ((if((l.length:Int)==8)=true then some (bR ts ((tkAt ts i).2.2.2,2) (i+1) pr b) else some (gR ts pr (i+1,b))):Option RT).bind fun st=>((qAj N st).bind fun y11=>(qAz N y11.1).bind fun y12=>((if(y12.1.2.2.2.1==0)=true then(if(y12.2.toList==y5.2.toList)=true then(some true) else(qCv N l y12.2)) else(some false)):Option Bool).bind fun o5=>((if o5=true then qAk N y12.1 y11.2.2.2.2 10 else some y12.1):Option RT).bind fun o6=>(qAg N o6 (⟨#[59]⟩:ByteArray)).bind fun y15=>(qCm 16 l ([y12.2])).bind fun l1=>qAq (qBt N y5) M (addL y15 l1))
    else some (addL (gR ts pr (i,b)) l)):=by
   have hk:isC ts 1 qTj i=((tkAt ts i).1==1&&decide ((tkAt ts i).2.1=(⟨#[105,109,112,111,114,116]⟩:ByteArray))):=rfl
   have hw:=qPo (show i<1000000 by omega)
   simp only[qAq,qBt,g0,jH,e1,e2,qIq (i,b) hi,j0,Prod.eta,qEr,hk]
   rcases qEg ((tkAt ts i).1==1) with c1|c1
   rotate_left
   ·simp only[c1,jB,jG,j0,Bool.false_and]
    rfl
   rcases qEg (decide ((tkAt ts i).2.1=(⟨#[105,109,112,111,114,116]⟩:ByteArray))) with c2|c2
   rotate_left
   ·simp only[c1,c2,jB,jG,jH,j0,Bool.and_false]
    rfl
   simp only[c1,c2,jH,j0,Bool.and_true]
   rcases qEg ((l.length:Int)==8) with c3|c3
   ·simp only[c3,jH,j0,qIq (i,b) hi,qJi,obs]
    have e3:((bR ts ((tkAt ts i).2.2.2,2) i pr b).1,IntKind.wrap .i64 ((bR ts ((tkAt ts i).2.2.2,2) i pr b).2.1+1),(bR ts ((tkAt ts i).2.2.2,2) i pr b).2.2.1,(bR ts ((tkAt ts i).2.2.2,2) i pr b).2.2.2.1,(bR ts ((tkAt ts i).2.2.2,2) i pr b).2.2.2.2.1,(bR ts ((tkAt ts i).2.2.2,2) i pr b).2.2.2.2.2.1,(bR ts ((tkAt ts i).2.2.2,2) i pr b).2.2.2.2.2.2)=bR ts ((tkAt ts i).2.2.2,2) (i+1) pr b:=by
     show(ts,IntKind.wrap .i64 ((i:Int)+1),(tkAt ts i).2.2.2,(2:Int),pr,b,([]:List Int))=_
     rw[hw];rfl
    rw[e3]
    simp only[gP,j0]
    rfl
   ·simp only[c3,jB,jG,j0,obs]
    have e3:((gR ts pr (i,b)).1,IntKind.wrap .i64 ((gR ts pr (i,b)).2.1+1),(gR ts pr (i,b)).2.2.1,(gR ts pr (i,b)).2.2.2.1,(gR ts pr (i,b)).2.2.2.2.1,(gR ts pr (i,b)).2.2.2.2.2.1,(gR ts pr (i,b)).2.2.2.2.2.2)=gR ts pr (i+1,b):=by
     show(ts,IntKind.wrap .i64 ((i:Int)+1),(0:Int),(0:Int),pr,b,([]:List Int))=_
     rw[hw];rfl
    rw[e3]
    simp only[gP,j0]
    rfl
  rw[step]
  simp only[qLa]
  rcases qEg (isC ts 1 qTj i) with c1|c1
  rotate_left
  ·simp only[c1,jB,jG]
   exact⟨_,rfl,rfl⟩
  have g:=qGm hok hi (by decide) c1
  simp only[c1,jH]
  by_cases k2:l.length=8
  ·have k2':((l.length:Int)==8)=true:=by simp;omega
   rw[if_pos k2]
   simp only[k2',jH,j0,qGv]
   exact badn _ _ _ _ (show(2:Int)≠0 by decide) g
  have k2':((l.length:Int)==8)=false:=by simp;omega
  rw[if_neg k2]
  simp only[k2',jB,jG,j0,qIq (i+1,b) g,qTg (i+1,b) g hl (by omega:100<N)]
  cases hx:qPj ts (i+1) with
  |inl z=>
   have hz:=qZb hx
   have hz':((bR ts z (i+1) pr b).2.2.2.1==0)=false:=by simpa[bR] using hz
   simp only[hz',jB,jG,j0,qLi hz g,happ,qCe]
   exact bad _ _ _ _ _ hz g
  |inr x=>
   obtain⟨rfl,g1,-⟩:=qNe hok g hx
   have g00:((gR ts pr (i+1+1,b)).2.2.2.1==0)=true:=rfl
   simp only[g00,jH,qEr,hhas,qCe]
   by_cases k3:(tkAt ts (i+1)).2.1=y5.2∨(tkAt ts (i+1)).2.1∈l
   ·rw[if_pos k3]
    have:((if decide ((tkAt ts (i+1)).2.1=y5.2)=true then some true else some (decide ((tkAt ts (i+1)).2.1∈l))):Option Bool)=some true:=by
     rcases k3 with h|h
     ·rw[if_pos (jU h)]
     ·rw[jU h];split<;>rfl
    rw[this]
    simp only[j0,jH,qJi,happ,qGv]
    have hz:(((tkAt ts (i+1)).2.2.2,(10:Int)):Flt).2≠0:=show(10:Int)≠0 by decide
    simp only[qLi hz g1,j0]
    exact bad _ _ _ _ _ hz g1
   rw[if_neg k3]
   have:((if decide ((tkAt ts (i+1)).2.1=y5.2)=true then some true else some (decide ((tkAt ts (i+1)).2.1∈l))):Option Bool)=some false:=by
    rw[if_neg (by simp only[jA];exact fun h=>k3 (.inl h)),jQ (fun h=>k3 (.inr h))]
   rw[this]
   simp only[j0,jB,jG,qMa (i+1+1,b) g1 hl,happ,qUy]
   cases hj:qGi ts ⟨#[59]⟩ (i+1+1) with
   |inl z=>exact bad _ _ _ _ _ (qKj hj) g1
   |inr j=>
    obtain⟨rfl,g2,-⟩:=qGk hok g1 hj
    exact qSn hok hl hN n M _ (i+1+1+1) g2 (by simp only[jD,jC,jE];omega) (by omega) (by omega)
end
end
section
open Go Go.Dc
section
variable {N:Nat} {ts:List Tok} {pr:List ByteArray}
abbrev RD:=List Tok×Int×Int×Int×List ByteArray×List Ex×List Int×List Dl
def addD(st:RT)(l:List Dl):RD:=(st.1,st.2.1,st.2.2.1,st.2.2.2.1,st.2.2.2.2.1,st.2.2.2.2.2.1,st.2.2.2.2.2.2,l)
def relS(ts:List Tok)(r:Flt⊕List Dl)(o:RD):Prop:=
 match r with
 | .inl z=>∃st l,Bad ts z st∧o=addD st l
 | .inr a=>∃pr p,o=addD (gR ts pr p) a
theorem qXu{y5:RT×ByteArray}{o2:RL}{z:Flt}{i:Nat}{pr':List ByteArray}{b:List Ex}(hz:z.2≠0)(M:Nat)(l:List Dl):qAq (qCb N y5 o2) (M+1) (addD (bR ts z i pr' b) l)=some (addD (bR ts z i pr' b) l):=by
 have hz':((addD (bR ts z i pr' b) l).2.2.2.1==0)=false:=by simpa[bR,addD] using hz
 simp only[qAq,qCb,hz',jB,jG,j0]
theorem qWo(hok:OkT ts)(hl:ts.length<1000000)(hN:1000005<N){y5:RT×ByteArray}{o2:RL}:∀(n M:Nat) (l:List Dl) (i:Nat) (pr:List ByteArray) (b:List Ex),i<ts.length→l.length≤64→ts.length<i+n→ts.length+2<i+M→
  ∃o,qAq (qCb N y5 o2) M (addD (gR ts pr (i,b)) l)=some o∧relS ts (qSe ts n l i) o
 |0,M,l,i,_,_,hi,_,h,_=>by omega
 |n+1,0,l,i,_,_,hi,_,_,h=>by omega
 |n+1,M+1,l,i,pr,b,hi,hl64,hn,hM=>by
  have g0:((addD (gR ts pr (i,b)) l).2.2.2.1==0)=true:=rfl
  have e1:∀st:RT,∀l,((addD st l).1,(addD st l).2.1,(addD st l).2.2.1,(addD st l).2.2.2.1,(addD st l).2.2.2.2.1,(addD st l).2.2.2.2.2.1,(addD st l).2.2.2.2.2.2.1)=st:=fun _ _=>rfl
  have e2:∀st:RT,∀l,(addD st l).2.2.2.2.2.2.2=l:=fun _ _=>rfl
  simp only[qAq,qCb,g0,jH,e1,e2,qIq (i,b) hi,j0,Prod.eta,qSe]
  by_cases k1:(tkAt ts i).1=5
  ·have k1':((tkAt ts i).1 !=5)=false:=by simp[k1]
   rw[if_pos k1]
   simp only[k1',jB,jG,j0]
   exact⟨_,rfl,pr,(i,b),rfl⟩
  have k1':((tkAt ts i).1 !=5)=true:=by simp[k1]
  rw[if_neg k1]
  simp only[k1',jH]
  obtain⟨o,ho,hr⟩:=rdecl (N:=N) (pr:=pr) (f:=(y5.2,o2.2.2.2.2.2.2.2,l)) hok hl hN hl64 i b hi
  simp only[ho,j0]
  rw[qDe (by simp only[jC,jE];omega) (by omega)]
  simp only[j0]
  cases hd:qRs ts l i with
  |inl z=>
   rw[show qRs ts (y5.2,o2.2.2.2.2.2.2.2,l).2.2 i=qRs ts l i from rfl,hd] at hr
   obtain⟨hz,j,pr',b',hj,ho1⟩:=hr
   obtain⟨M',rfl⟩:∃M',M=M'+1:=⟨M-1,by omega⟩
   rw[ho1]
   exact⟨_,qXu hz M' _,_,_,⟨hz,j,pr',b',hj,rfl⟩,rfl⟩
  |inr a=>
   rw[show qRs ts (y5.2,o2.2.2.2.2.2.2.2,l).2.2 i=qRs ts l i from rfl,hd] at hr
   obtain⟨g1,g2,g3⟩:=qVi hok hi hd
   have hr':o=(gR ts a.2.2.2.1 (a.1,a.2.2.2.2),a.2):=hr
   rw[hr']
   exact qWo hok hl hN n M (l++[a.2]) a.1 _ _ g2 (by simp only[jD,jC,jE];omega) (by omega) (by omega)
theorem rfile(hok:OkT ts)(hl:ts.length<1000000)(hN:1000005<N):
  ((qBd N (ts,0,0,0,[],[],[]) (⟨#[112,97,99,107,97,103,101]⟩:ByteArray)).bind fun y2=>((if(!y2.2)=true then((qAj N y2.1).bind fun y3=>qAk N y3.1 y3.2.2.2.2 9) else(some y2.1)):Option RT).bind fun o1=>(qAz N o1).bind fun y5=>(qAg N y5.1 (⟨#[59]⟩:ByteArray)).bind fun y6=>(qAq (qBt N y5) N (addL y6 [])).bind fun o2=>(qAq (qCb N y5 o2) N (o2.1,o2.2.1,o2.2.2.1,o2.2.2.2.1,o2.2.2.2.2.1,o2.2.2.2.2.2.1,o2.2.2.2.2.2.2.1,[])).bind fun o7=>if(o7.2.2.2.1 !=0)=true then(some (qVl,o7.2.2.1,o7.2.2.2.1)) else(some (((y5.2,o2.2.2.2.2.2.2.2,o7.2.2.2.2.2.2.2):Sr),(0:Int),(0:Int))))=some (match zGg ts with| .inl z=>(qVl,z.1,z.2)| .inr f=>(f,0,0)):=by
 have h0:0<ts.length:=fC.2 hok.1
 obtain⟨M,hM⟩:∃M,N=M+1:=⟨N-1,by omega⟩
 have e0:((ts,(0:Int),(0:Int),(0:Int),[],[],[]):RT)=gR ts [] (0,[]):=rfl
 -- the loops behind an error
 have badD:∀(y5:RT×ByteArray) (o2:RL) (z:Flt) (st:RT),Bad ts z st→((qAq (qCb N y5 o2) N (addD st [])).bind fun o7=>if(o7.2.2.2.1 !=0)=true then(some (qVl,o7.2.2.1,o7.2.2.2.1)) else(some (((y5.2,o2.2.2.2.2.2.2.2,o7.2.2.2.2.2.2.2):Sr),(0:Int),(0:Int))))=some (qVl,z.1,z.2):=by
  rintro y5 o2 z st ⟨hz,i,pr',b,hi,rfl⟩
  have hb:qAq (qCb N y5 o2) N (addD (bR ts z i pr' b) [])=some (addD (bR ts z i pr' b) []):=by
   have e:qAq (qCb N y5 o2) N (addD (bR ts z i pr' b) [])=qAq (qCb N y5 o2) (M+1) (addD (bR ts z i pr' b) []):=by rw[←hM]
   rw[e];exact qXu hz M []
  have hz':((addD (bR ts z i pr' b) []).2.2.2.1 !=0)=true:=by simpa[bR,addD] using hz
  rw[hb]
  simp only[j0,hz',jH]
  rfl
 have badI:∀(y5:RT×ByteArray) (z:Flt) (i:Nat) (pr':List ByteArray) (b:List Ex),z.2≠0→i<ts.length→((qAq (qBt N y5) N (addL (bR ts z i pr' b) [])).bind fun o2=>(qAq (qCb N y5 o2) N (o2.1,o2.2.1,o2.2.2.1,o2.2.2.2.1,o2.2.2.2.2.1,o2.2.2.2.2.2.1,o2.2.2.2.2.2.2.1,[])).bind fun o7=>if(o7.2.2.2.1 !=0)=true then(some (qVl,o7.2.2.1,o7.2.2.2.1)) else(some (((y5.2,o2.2.2.2.2.2.2.2,o7.2.2.2.2.2.2.2):Sr),(0:Int),(0:Int))))=some (qVl,z.1,z.2):=by
  intro y5 z i pr' b hz hi
  have hb:qAq (qBt N y5) N (addL (bR ts z i pr' b) [])=some (addL (bR ts z i pr' b) []):=by
   have e:qAq (qBt N y5) N (addL (bR ts z i pr' b) [])=qAq (qBt N y5) (M+1) (addL (bR ts z i pr' b) []):=by rw[←hM]
   rw[e];exact qTx hz M []
  rw[hb]
  simp only[j0]
  exact badD y5 (addL (bR ts z i pr' b) []) z (bR ts z i pr' b) ⟨hz,i,pr',b,hi,rfl⟩
 have bad:∀(z:Flt) (i:Nat) (pr':List ByteArray) (b:List Ex),z.2≠0→i<ts.length→((qAz N (bR ts z i pr' b)).bind fun y5=>(qAg N y5.1 (⟨#[59]⟩:ByteArray)).bind fun y6=>(qAq (qBt N y5) N (addL y6 [])).bind fun o2=>(qAq (qCb N y5 o2) N (o2.1,o2.2.1,o2.2.2.1,o2.2.2.2.1,o2.2.2.2.2.1,o2.2.2.2.2.2.1,o2.2.2.2.2.2.2.1,[])).bind fun o7=>if(o7.2.2.2.1 !=0)=true then(some (qVl,o7.2.2.1,o7.2.2.2.1)) else(some (((y5.2,o2.2.2.2.2.2.2.2,o7.2.2.2.2.2.2.2):Sr),(0:Int),(0:Int))))=some (qVl,z.1,z.2):=by
  intro z i pr' b hz hi
  simp only[qYo hz hi,qLi hz hi,j0]
  exact badI _ z i pr' b hz hi
 rw[e0]
 simp only[qKo (0,[]) h0 hl,j0,zGg,zAy,qUk]
 rcases qEg (isC ts 1 ⟨#[112,97,99,107,97,103,101]⟩ 0) with c1|c1
 rotate_left
 ·simp only[c1,jB,jG,kG,jH,qIq (0,[]) h0,qJi,j0,qGv,qCe]
  exact bad _ _ _ _ (show(9:Int)≠0 by decide) h0
 have g1:=qGm hok h0 (by decide) c1
 simp only[c1,jH,kQ,jB,jG,j0,qTg (0+1,[]) g1 hl (by omega:100<N),qCe]
 cases h2:qPj ts (0+1) with
 |inl z=>
  have hz:=qZb h2
  simp only[qLi hz g1,j0]
  exact badI _ z _ _ _ hz g1
 |inr x=>
  obtain⟨rfl,g2,-⟩:=qNe hok g1 h2
  simp only[qMa (0+1+1,[]) g2 hl,j0,qUy]
  cases h3:qGi ts ⟨#[59]⟩ (0+1+1) with
  |inl z=>exact badI _ z _ _ _ (qKj h3) g2
  |inr j=>
   obtain⟨rfl,g3,-⟩:=qGk hok g2 h3
   obtain⟨o,ho,hr⟩:=qSn (N:=N) (pr:=[]) (b:=[]) (y5:=(gR ts [] (0+1+1,[]),(tkAt ts (0+1)).2.1)) hok hl hN (ts.length+1) N [] (0+1+1+1) g3 (by simp) (by omega) (by omega)
   simp only[ho,j0]
   cases h4:qLa ts (tkAt ts (0+1)).2.1 (ts.length+1) [] (0+1+1+1) with
   |inl z=>
    rw[show qLa ts ((gR ts [] (0+1+1,[]),(tkAt ts (0+1)).2.1):RT×ByteArray).2 (ts.length+1) [] (0+1+1+1)=qLa ts (tkAt ts (0+1)).2.1 (ts.length+1) [] (0+1+1+1) from rfl,h4] at hr
    obtain⟨st,l,hbad,rfl⟩:=hr
    exact badD _ (addL st l) z st hbad
   |inr y=>
    rw[show qLa ts ((gR ts [] (0+1+1,[]),(tkAt ts (0+1)).2.1):RT×ByteArray).2 (ts.length+1) [] (0+1+1+1)=qLa ts (tkAt ts (0+1)).2.1 (ts.length+1) [] (0+1+1+1) from rfl,h4] at hr
    have hr':o=addL (gR ts [] (y.1,[])) y.2:=hr
    obtain⟨k1,k2,k3⟩:=qQr hok _ _ _ y g3 (by simp) h4
    obtain⟨o2,ho2,hr2⟩:=qWo (N:=N) (y5:=(gR ts [] (0+1+1,[]),(tkAt ts (0+1)).2.1)) (o2:=o) hok hl hN (ts.length+1) N [] y.1 [] [] k2 (by simp) (by omega) (by omega)
    have e3:(o.1,o.2.1,o.2.2.1,o.2.2.2.1,o.2.2.2.2.1,o.2.2.2.2.2.1,o.2.2.2.2.2.2.1,([]:List Dl))=addD (gR ts [] (y.1,[])) []:=by rw[hr'];rfl
    rw[e3,ho2]
    simp only[j0]
    cases h5:qSe ts (ts.length+1) [] y.1 with
    |inl z=>
     rw[h5] at hr2
     obtain⟨st,l,⟨hz,i,pr',b,hi,rfl⟩,rfl⟩:=hr2
     have hz':((addD (bR ts z i pr' b) l).2.2.2.1 !=0)=true:=by simpa[bR,addD] using hz
     simp only[hz',jH]
     rfl
    |inr l=>
     rw[h5] at hr2
     obtain⟨pr',p',rfl⟩:=hr2
     have hz':((addD (gR ts pr' p') l).2.2.2.1 !=0)=false:=rfl
     simp only[hz',jB,jG]
     rw[hr']
     rfl
end
theorem qWn{N:Nat}(s:ByteArray)(hN:1000005<N):qFk N s=some (qZt s):=by
 simp only[qFk,zAe (N:=N) (by omega),j0,qZt]
 by_cases h:(qIx s).2.2=0
 ·rw[if_neg (show ¬((qIx s).2.2 !=0)=true by simpa using h),if_neg (show ¬(qIx s).2.2≠0 by simpa using h)]
  obtain⟨h1,h2,h3⟩:=qXm h
  have hf:=rfile (N:=N) h1 (by omega) hN
  refine Eq.trans ?_ (Eq.trans hf ?_)
  ·simp only[Prod.eta,obs];rfl
  ·cases zGg (qIx s).1<;>rfl
 ·rw[if_pos (show((qIx s).2.2 !=0)=true by simpa using h),if_pos h];rfl
end
section
open Go Go.Dc
abbrev Hd:=Int×Int×Int×ByteArray
inductive Rose where
 |mk (h:Hd) (ks:List Rose)
def Rose.hd:Rose→Hd
 | .mk h _=>h
def Rose.ks:Rose→List Rose
 | .mk _ ks=>ks
mutual
def Rose.size:Rose→Nat
 | .mk _ ks=>qBq ks+1
def qBq:List Rose→Nat
 |[]=>0
 |t::l=>t.size+qBq l
end
def qDu:Nat→List Rose→List Int
 |_,[]=>[]
 |b,t::l=>((b+t.size-1:Nat):Int)::qDu (b+t.size) l
def qLt(h:Hd)(args:List Int):Ex:=(h.1,h.2.1,h.2.2.1,h.2.2.2,args)
mutual
def Rose.flat(b:Nat):Rose→List Ex
 | .mk h ks=>qHi b ks++[qLt h (qDu b ks)]
def qHi(b:Nat):List Rose→List Ex
 |[]=>[]
 |t::l=>t.flat b++qHi (b+t.size) l
end
theorem Rose.pos(t:Rose):0<t.size:=by cases t;unfold Rose.size;omega
mutual
theorem qGa(t:Rose)(b:Nat):(t.flat b).length=t.size:=by
 match t with
 | .mk h ks=>unfold Rose.flat Rose.size;rw[jD,qJb ks b];rfl
theorem qJb(l:List Rose)(b:Nat):(qHi b l).length=qBq l:=by
 match l with
 |[]=>rfl
 |t::l=>unfold qHi qBq;rw[jD,qGa t b,qJb l (b+t.size)]
end
theorem qJa:∀(l:List Rose) (b:Nat),(qDu b l).length=l.length
 |[],_=>rfl
 |t::l,b=>by simp only[qDu,jC,qJa l]
theorem qLf:∀(l k:List Rose),qBq (l++k)=qBq l+qBq k
 |[],k=>by rw[kK,show qBq []=0 from rfl,jW]
 |t::l,k=>by
  have ih:=qLf l k
  rw[gH,show qBq (t::(l++k))=t.size+qBq (l++k) from rfl,show qBq (t::l)=t.size+qBq l from rfl];omega
theorem qQg:∀(l k:List Rose) (b:Nat),qDu b (l++k)=qDu b l++qDu (b+qBq l) k
 |[],k,b=>by simp[qDu,qBq]
 |t::l,k,b=>by
  rw[gH]
  simp only[qDu,qBq,qQg l k,gH]
  rw[gL]
theorem qOr:∀(l k:List Rose) (b:Nat),qHi b (l++k)=qHi b l++qHi (b+qBq l) k
 |[],k,b=>by simp[qHi,qBq]
 |t::l,k,b=>by
  rw[gH]
  simp only[qHi,qBq,qOr l k,jS]
  rw[gL]
theorem qTr:∀l:List Rose,l.length≤qBq l
 |[]=>kM _
 |t::l=>by
  have:=qTr l
  have:=t.pos
  simp only[qBq,jC];omega
def ordS:List Ex→Nat→List Int→Option (List Int)
 |[],_,st=>some st
 |x::l,i,st=>if x.2.2.2.2.length≤st.length∧st.drop (st.length-x.2.2.2.2.length)=x.2.2.2.2 then ordS l (i+1) (st.take (st.length-x.2.2.2.2.length)++[(i:Int)]) else none
theorem qVu{fs:List Rose}{h:Hd}{args:List Int}{m:Nat}(h1:args.length≤fs.length)(hm:fs.length-args.length=m)(h2:(qDu 0 fs).drop m=args):
  qBq (fs.take m++[Rose.mk h (fs.drop m)])=qBq fs+1∧qDu 0 (fs.take m++[Rose.mk h (fs.drop m)])=(qDu 0 fs).take m++[((qBq fs:Nat):Int)]∧qHi 0 (fs.take m++[Rose.mk h (fs.drop m)])=qHi 0 fs++[qLt h args]:=by
 have hfs:fs=fs.take m++fs.drop m:=(gF m fs).symm
 have hml:(fs.take m).length=m:=by rw[kD];omega
 have hr:qDu 0 fs=qDu 0 (fs.take m)++qDu (qBq (fs.take m)) (fs.drop m):=by
  conv=>lhs;rw[hfs]
  rw[qQg,jW]
 have hf:qHi 0 fs=qHi 0 (fs.take m)++qHi (qBq (fs.take m)) (fs.drop m):=by
  conv=>lhs;rw[hfs]
  rw[qOr,jW]
 have hs:qBq fs=qBq (fs.take m)+qBq (fs.drop m):=by
  conv=>lhs;rw[hfs]
  rw[qLf]
 have hl1:(qDu 0 (fs.take m)).length=m:=by rw[qJa,hml]
 have ha:args=qDu (qBq (fs.take m)) (fs.drop m):=by
  rw[←h2,hr,kP (by omega),jR (by omega),kK]
 have ht:(qDu 0 fs).take m=qDu 0 (fs.take m):=by
  rw[hr,jZ (by omega),gB (by omega)]
 rw[ht]
 refine⟨?_,?_,?_⟩
 ·rw[qLf,hs];simp only[qBq,Rose.size];omega
 ·rw[qQg,jW]
  simp only[qDu,Rose.size]
  rw[hs,show qBq (fs.take m)+(qBq (fs.drop m)+1)-1=qBq (fs.take m)+qBq (fs.drop m) by omega]
 ·rw[qOr,jW,hf,jS]
  simp only[qHi,Rose.flat,f0,←ha]
theorem qVs(x:Ex)(l:List Ex)(i:Nat)(st a:List Int)(h:x.2.2.2.2=a):ordS (x::l) i st=if a.length≤st.length∧st.drop (st.length-a.length)=a then ordS l (i+1) (st.take (st.length-a.length)++[(i:Int)]) else none:=by
 subst h;rfl
def AtT(l:List Ex)(b:Nat)(t:Rose):Prop:=∃p q,l=p++t.flat b++q∧p.length=b
def AtTs(l:List Ex)(b:Nat)(ts:List Rose):Prop:=∃p q,l=p++qHi b ts++q∧p.length=b
theorem AtT.whole(t:Rose):AtT (t.flat 0) 0 t:=⟨[],[],by simp,rfl⟩
theorem AtT.args{l:List Ex}{b:Nat}{h:Hd}{ks:List Rose}(g:AtT l b (.mk h ks)):l[b+qBq ks]? =some (qLt h (qDu b ks))∧AtTs l b ks:=by
 obtain⟨p,q,rfl,rfl⟩:=g
 unfold Rose.flat
 constructor
 ·rw[jS,List.getElem?_append_right (by omega),jS,List.getElem?_append_right (by rw[qJb];omega),qJb]
  rw[show p.length+qBq ks-p.length-qBq ks=0 by omega]
  rfl
 ·exact⟨p,[qLt h (qDu p.length ks)]++q,by simp only[jS],rfl⟩
theorem AtTs.head{l:List Ex}{b:Nat}{t:Rose}{ts:List Rose}(g:AtTs l b (t::ts)):AtT l b t∧AtTs l (b+t.size) ts:=by
 obtain⟨p,q,rfl,rfl⟩:=g
 unfold qHi
 exact⟨⟨p,qHi (p.length+t.size) ts++q,by simp only[jS],rfl⟩,⟨p++t.flat p.length,q,by simp only[jS],by rw[jD,qGa]⟩⟩
theorem AtT.le{l:List Ex}{b:Nat}{t:Rose}(g:AtT l b t):b+t.size≤l.length:=by
 obtain⟨p,q,rfl,rfl⟩:=g
 rw[jD,jD,qGa];omega
end
section
open Go Go.Dc
def qIu(s:ByteArray):Bool:=qTl s&& !resC s
theorem qSp{N:Nat}{s:ByteArray}(hN:100<N):qHr N s=some (qIu s):=by
 simp only[qHr,zHm hN,zCq,j0]
 unfold qIu
 cases qTl s<;>rfl
def emB:ByteArray:=⟨#[]⟩
theorem and_if(a b:Bool):(if a=true then some b else some false:Option Bool)=some (a&&b):=by cases a<;>rfl
theorem eqE(s:ByteArray):(s.toList==(⟨#[]⟩:ByteArray).toList)=decide (s=emB):=qEr _ _
def argN(x:Ex):Int:=(x.2.2.2.2.length:Int)
def qMw(np:Int)(x:Ex):Bool:=
 if x.1=1 then decide (x.2.2.2.1=emB)&&(x.2.2.1==0&&(argN x==0&&(decide (x.2.1≥-9007199254740992)&&decide (x.2.1≤9007199254740992))))
 else if x.1=2 then decide (x.2.2.2.1=emB)&&(x.2.2.1==0&&(argN x==0&&(decide (x.2.1≥0)&&decide (x.2.1<np))))
 else if x.1=3 then x.2.1==0&&(x.2.2.1==0&&qIu x.2.2.2.1)
 else if x.1=4 then x.2.1==0&&(decide (x.2.2.2.1=emB)&&(argN x==2&&(decide (x.2.2.1≥1)&&decide (x.2.2.1≤7))))
 else if x.1=5 then x.2.1==0&&(decide (x.2.2.2.1=emB)&&(x.2.2.1==0&&argN x==3))
 else if x.1=6 then x.2.1==0&&(x.2.2.1==0&&(argN x==1&&qRb x.2.2.2.1.data.toList))
 else if x.1=7∨x.1=8 then x.2.1==0&&(x.2.2.1==0&&(argN x==0&&qRb x.2.2.2.1.data.toList))
 else if x.1=9 then x.2.1==0&&(x.2.2.1==0&&(argN x==0&&qTl x.2.2.2.1))
 else if x.1=10 then decide (x.2.2.2.1=emB)&&(x.2.2.1==0&&(argN x==0&&(decide (x.2.1≥0)&&decide (x.2.1<64))))
 else false
theorem zMw{N:Nat}{np:Int}{x:Ex}(hx:x.2.2.2.1.size≤1048576)(hN:3000000<N):qLv N x np=some (qMw np x):=by
 simp only[qLv,eqE,zHd (s:=x.2.2.2.1) (N:=N) (by omega) (by omega),zHm (s:=x.2.2.2.1) (show 100<N by omega),qSp (s:=x.2.2.2.1) (show 100<N by omega),j0,and_if]
 unfold qMw argN
 by_cases h1:x.1=1
 ·simp[h1]
 by_cases h2:x.1=2
 ·simp[h2]
 by_cases h3:x.1=3
 ·simp[h3]
 by_cases h4:x.1=4
 ·simp[h4]
 by_cases h5:x.1=5
 ·simp[h5]
 by_cases h6:x.1=6
 ·simp[h6]
 by_cases h7:x.1=7
 ·simp[h7]
 by_cases h8:x.1=8
 ·simp[h8]
 by_cases h9:x.1=9
 ·simp[h9]
 by_cases h10:x.1=10
 ·simp[h10]
 simp[h1,h2,h3,h4,h5,h6,h7,h8,h9,h10]
def StOk(st:List Int):Nat→List Rose→Prop
 |_,[]=>True
 |b,t::l=>st[b+t.size-1]? =some (b:Int)∧StOk st (b+t.size) l
theorem StOk.app{st:List Int}:∀{l k:List Rose} {b:Nat},StOk st b (l++k)↔StOk st b l∧StOk st (b+qBq l) k
 |[],k,b=>by simp[StOk,qBq]
 |t::l,k,b=>by
  rw[gH]
  simp only[StOk,qBq,StOk.app (l:=l)]
  rw[and_assoc,gL]
theorem StOk.set{st:List Int}{i:Nat}{v:Int}:∀{l:List Rose} {b:Nat},StOk st b l→b+qBq l≤i→StOk (st.set i v) b l
 |[],_,_,_=>trivial
 |t::l,b,h,hi=>by
  have hp:=t.pos
  simp only[qBq] at hi
  exact⟨by rw[List.getElem?_set_ne (by omega)];exact h.1,h.2.set (by omega)⟩
theorem qWk{α:Type}{l:List α}{i:Nat}{v:α}(h:l[i]? =some v):idx l (i:Int)=some v:=by
 have hi:i<l.length:=by
  by_cases hl:i<l.length
  ·exact hl
  ·rw[List.getElem?_eq_none (by omega)] at h;cases h
 rw[qDf hi]
 rw[List.getElem?_eq_getElem hi] at h
 exact h
theorem zDn{st:List Int}{i:Nat}{v:Int}(h:st[i]? =some v):st.set i v=st:=by
 refine gZ fun j=> ?_
 rw[List.getElem?_set]
 by_cases e:i=j
 ·subst e
  have hi:i<st.length:=by
   by_cases hl:i<st.length
   ·exact hl
   ·rw[List.getElem?_eq_none (by omega)] at h;cases h
  rw[if_pos rfl,if_pos hi,h]
 ·rw[if_neg e]
theorem zHa{N i:Nat}{x:Ex}{so:List Int}:∀(k M:Nat) (pre:List Rose) (st:List Int),k≤x.2.2.2.2.length→k<M→StOk st 0 pre→st[i]? =some ((qBq pre:Nat):Int)→qBq pre≤i→i<2000000→k<2000000→
  qAq (qHf N ((i:Int),so) x) M ((k:Int)-1,st)=some (if k≤pre.length∧(qDu 0 pre).drop (pre.length-k)=x.2.2.2.2.take k then .inl (st.set i ((qBq (pre.take (pre.length-k)):Nat):Int)) else .inr false)
 |_,0,_,_,_,h,_,_,_,_,_=>absurd h (kI _)
 |0,M+1,pre,st,_,_,_,hi,_,_,_=>by
  simp only[qAq,qHf]
  rw[if_neg (by simp),if_pos ⟨kM _,by rw[Nat.sub_zero,List.drop_of_length_le (by rw[qJa];exact jK _),d3]⟩]
  rw[Nat.sub_zero,gA,zDn hi]
  rfl
 |k+1,M+1,pre,st,hk,hM,hs,hi,hle,hb,hkb=>by
  have hkl:k<x.2.2.2.2.length:=by omega
  have ek:((k+1:Nat):Int)-1=(k:Int):=by omega
  have wk:IntKind.wrap .i64 ((k:Int)-1)=(k:Int)-1:=by rw[wi64 (by omega) (by omega)]
  simp only[qAq,qHf]
  rw[ek,if_pos (by simp),qDf hkl,qWk hi]
  simp only[j0]
  have wc:IntKind.wrap .i64 (((qBq pre:Nat):Int)-1)=((qBq pre:Nat):Int)-1:=by rw[wi64 (by omega) (by omega)]
  rw[wc]
  have ht:x.2.2.2.2.take (k+1)=x.2.2.2.2.take k++[x.2.2.2.2[k]]:=qUt hkl
  rcases fJ pre with rfl|⟨pre',t,rfl⟩
  ·have hneg:¬(k+1≤([]:List Rose).length∧(qDu 0 []).drop (([]:List Rose).length-(k+1))=x.2.2.2.2.take (k+1)):=by
    rintro⟨h,-⟩
    exact absurd h (by simp)
   rw[if_neg hneg]
   by_cases h1:x.2.2.2.2[k]=((qBq []:Nat):Int)-1
   ·have h2:x.2.2.2.2[k]<0:=by rw[h1];simp[qBq]
    rw[if_neg (by simpa using h1)]
    simp only[j0,jU h2,jH]
   ·rw[if_pos (by simpa using h1)]
    rfl
  ·rw[List.concat_eq_append] at hs hi hle ⊢
   have hsz:qBq (pre'++[t])=qBq pre'+t.size:=by rw[qLf];simp[qBq]
   have hp:=t.pos
   obtain⟨hs1,hs2,-⟩:=StOk.app.1 hs
   rw[jW] at hs2
   have hr:qDu 0 (pre'++[t])=qDu 0 pre'++[((qBq pre'+t.size-1:Nat):Int)]:=by
    rw[qQg,jW];rfl
   have hd:k≤pre'.length→(qDu 0 (pre'++[t])).drop ((pre'++[t]).length-(k+1))=(qDu 0 pre').drop (pre'.length-k)++[((qBq pre'+t.size-1:Nat):Int)]:=fun h=>by
    rw[hr,jD,gM,show pre'.length+1-(k+1)=pre'.length-k by omega,kP (by rw[qJa];omega)]
   rw[hsz] at hi hle ⊢
   by_cases h1:x.2.2.2.2[k]=((qBq pre'+t.size:Nat):Int)-1
   ·have h2:decide (x.2.2.2.2[k]<0)=false:=jQ (by omega)
    have h3:x.2.2.2.2[k]=((qBq pre'+t.size-1:Nat):Int):=by omega
    rw[if_neg (by simpa using h1)]
    simp only[j0,h2,jB,jG]
    rw[h3,qWk hs2]
    simp only[j0,jL,wk]
    have hil:i<st.length:=by
     by_cases hl:i<st.length
     ·exact hl
     ·rw[List.getElem?_eq_none (by omega)] at hi;cases hi
    rw[zHa k M pre' _ (by omega) (by omega) (hs1.set (by omega)) (by rw[List.getElem?_set_self hil]) (by omega) hb (by omega),List.set_set]
    congr 1
    by_cases hc:k≤pre'.length∧(qDu 0 pre').drop (pre'.length-k)=x.2.2.2.2.take k
    ·rw[if_pos hc,if_pos ⟨by simp only[jD,gM];omega,by rw[hd hc.1,ht,hc.2,h3]⟩]
     rw[jD,gM,show pre'.length+1-(k+1)=pre'.length-k by omega,jZ (by omega)]
    ·rw[if_neg hc,if_neg]
     rintro⟨g1,g2⟩
     simp only[jD,gM] at g1
     rw[hd (by omega),ht] at g2
     exact hc ⟨by omega,(List.append_inj' g2 rfl).1⟩
   ·rw[if_pos (by simpa using h1),if_neg]
    ·rfl
    ·rintro⟨g1,g2⟩
     simp only[jD,gM] at g1
     rw[hd (by omega),ht] at g2
     have:=(List.append_inj' g2 rfl).2
     simp only[kU,and_true] at this
     exact h1 (by omega)
theorem zJf{N:Nat}{d:Dl}(hlen:d.2.2.2.length<2000000)(hnm:∀x∈d.2.2.2,x.2.2.2.1.size≤1048576∧x.2.2.2.2.length<2000000)(hN:3000000<N):∀(M:Nat) (fs:List Rose) (st:List Int),qHi 0 fs=d.2.2.2.take (qBq fs)→qBq fs≤d.2.2.2.length→st.length=d.2.2.2.length→StOk st 0 fs→d.2.2.2.length-qBq fs<M→
  ∃out,qAq (qEv N d) M (((qBq fs:Nat):Int),st)=some out∧(match out with
   | .inl st'=>(∀x∈d.2.2.2.drop (qBq fs),qMw (d.2.2.1.length:Int) x=true)∧∃fs',ordS (d.2.2.2.drop (qBq fs)) (qBq fs) (qDu 0 fs)=some (qDu 0 fs')∧StOk st' 0 fs'∧st'.length=d.2.2.2.length∧qBq fs'=d.2.2.2.length
   | .inr b=>b=false∧¬((∀x∈d.2.2.2.drop (qBq fs),qMw (d.2.2.1.length:Int) x=true)∧∃r,ordS (d.2.2.2.drop (qBq fs)) (qBq fs) (qDu 0 fs)=some r))
 |0,_,_,_,_,_,_,h=>absurd h (kI _)
 |M+1,fs,st,hf,hle,hst,hs,hM=>by
  by_cases hi:qBq fs<d.2.2.2.length
  ·have hdr:d.2.2.2.drop (qBq fs)=d.2.2.2[qBq fs]::d.2.2.2.drop (qBq fs+1):=qNh hi
   obtain⟨n1,n2⟩:=hnm _ (kO hi)
   rw[hdr]
   generalize hx:d.2.2.2[qBq fs]=x at n1 n2
   have wi:IntKind.wrap .i64 (((qBq fs:Nat):Int)+1)=((qBq fs+1:Nat):Int):=by rw[wi64 (by omega) (by omega)];omega
   have wl:IntKind.wrap .i64 ((x.2.2.2.2.length:Int)-1)=(x.2.2.2.2.length:Int)-1:=by rw[wi64 (by omega) (by omega)]
   have hil:qBq fs<st.length:=by omega
   have e1:(qEv N d (((qBq fs:Nat):Int),st))=if qMw (d.2.2.1.length:Int) x=true then(if x.2.2.2.2.length≤fs.length∧(qDu 0 fs).drop (fs.length-x.2.2.2.2.length)=x.2.2.2.2 then some (.inl (((qBq fs+1:Nat):Int),(st.set (qBq fs) ((qBq fs:Nat):Int)).set (qBq fs) ((qBq (fs.take (fs.length-x.2.2.2.2.length)):Nat):Int))) else some (.inr (.inr false))) else some (.inr (.inr false)):=by
    simp only[qEv]
    rw[if_pos (by simp only[jA];omega),qDf hi]
    simp only[j0,hx]
    rw[show qLv N (x.1,x.2.1,x.2.2.1,x.2.2.2.1,x.2.2.2.2) (d.2.2.1.length:Int)=_ from zMw n1 hN]
    simp only[j0]
    by_cases hn:qMw (d.2.2.1.length:Int) x=true
    ·rw[if_pos hn,hn,if_neg (by decide),qDf hil]
     simp only[j0,jL,wi,wl]
     have h3:=zHa (N:=N) (i:=qBq fs) (x:=x) (so:=st) x.2.2.2.2.length N fs (st.set (qBq fs) ((qBq fs:Nat):Int)) (jK _) (by omega) (hs.set (by omega)) (List.getElem?_set_self hil) (jK _) (by omega) n2
     rw[gA] at h3
     rw[h3]
     simp only[j0]
     by_cases hc:x.2.2.2.2.length≤fs.length∧(qDu 0 fs).drop (fs.length-x.2.2.2.2.length)=x.2.2.2.2
     ·rw[if_pos hc,if_pos hc]
     ·rw[if_neg hc,if_neg hc]
    ·rw[if_neg hn,show qMw (d.2.2.1.length:Int) x=false by simpa using hn]
     rfl
   simp only[qAq,e1]
   by_cases hn:qMw (d.2.2.1.length:Int) x=true
   ·rw[if_pos hn]
    by_cases hc:x.2.2.2.2.length≤fs.length∧(qDu 0 fs).drop (fs.length-x.2.2.2.2.length)=x.2.2.2.2
    ·rw[if_pos hc]
     simp only[j0]
     obtain⟨g1,g2,g3⟩:=qVu (h:=(x.1,x.2.1,x.2.2.1,x.2.2.2.1)) hc.1 rfl hc.2
     have hx':qLt (x.1,x.2.1,x.2.2.1,x.2.2.2.1) x.2.2.2.2=x:=rfl
     rw[hx'] at g3
     rw[List.set_set]
     have hst2:StOk (st.set (qBq fs) ((qBq (fs.take (fs.length-x.2.2.2.2.length)):Nat):Int)) 0 (fs.take (fs.length-x.2.2.2.2.length)++[Rose.mk (x.1,x.2.1,x.2.2.1,x.2.2.2.1) (fs.drop (fs.length-x.2.2.2.2.length))]):=by
      refine StOk.app.2 ⟨?_,?_,trivial⟩
      ·have h0:=hs
       rw[←gF (fs.length-x.2.2.2.2.length) fs] at h0
       refine(StOk.app.1 h0).1.set ?_
       have:=qLf (fs.take (fs.length-x.2.2.2.2.length)) (fs.drop (fs.length-x.2.2.2.2.length))
       rw[gF] at this
       omega
      ·have:=qLf (fs.take (fs.length-x.2.2.2.2.length)) (fs.drop (fs.length-x.2.2.2.2.length))
       rw[gF] at this
       rw[jW,show qBq (fs.take (fs.length-x.2.2.2.2.length))+(Rose.mk (x.1,x.2.1,x.2.2.1,x.2.2.2.1) (fs.drop (fs.length-x.2.2.2.2.length))).size-1=qBq fs by simp only[Rose.size];omega]
       exact List.getElem?_set_self hil
     have ht:d.2.2.2.take (qBq fs+1)=d.2.2.2.take (qBq fs)++[x]:=by rw[qUt hi,hx]
     obtain⟨out,o1,o2⟩:=zJf hlen hnm hN M _ (st.set (qBq fs) ((qBq (fs.take (fs.length-x.2.2.2.2.length)):Nat):Int)) (by rw[g3,g1,ht,hf]) (by rw[g1];omega) (by rw[gC];exact hst) hst2 (by rw[g1];omega)
     rw[g1] at o1 o2
     refine⟨out,o1,?_⟩
     have hord:ordS (x::d.2.2.2.drop (qBq fs+1)) (qBq fs) (qDu 0 fs)=ordS (d.2.2.2.drop (qBq fs+1)) (qBq fs+1) (qDu 0 (fs.take (fs.length-x.2.2.2.2.length)++[Rose.mk (x.1,x.2.1,x.2.2.1,x.2.2.2.1) (fs.drop (fs.length-x.2.2.2.2.length))])):=by
      rw[qVs x _ _ _ x.2.2.2.2 rfl,qJa,if_pos hc,g2]
     rw[hord]
     cases out with
     |inl st'=>exact⟨fun y hy=>(jM.1 hy).elim (fun e=>e▸hn) (o2.1 y),o2.2⟩
     |inr b=>exact⟨o2.1,fun h=>o2.2 ⟨fun y hy=>h.1 y (jX _ hy),h.2⟩⟩
    ·rw[if_neg hc]
     refine⟨_,rfl,rfl,?_⟩
     rintro⟨-,r,hr⟩
     rw[qVs x _ _ _ x.2.2.2.2 rfl,qJa,if_neg hc] at hr
     cases hr
   ·rw[if_neg hn]
    exact⟨_,rfl,rfl,fun h=>hn (h.1 x (jN ..))⟩
  ·have he:qBq fs=d.2.2.2.length:=by omega
   have hd:d.2.2.2.drop (qBq fs)=[]:=jR (by omega)
   have e1:(qEv N d (((qBq fs:Nat):Int),st))=some (.inr (.inl st)):=by
    simp only[qEv]
    rw[if_neg (by simp only[jA];omega)]
   simp only[qAq,e1,j0]
   refine⟨.inl st,rfl,?_⟩
   dsimp only
   rw[hd]
   exact⟨fun x hx=>(by cases hx),fs,rfl,hs,hst,he⟩
end
section
open Go Go.Dc
def oneP:Option (List Int)→Bool
 |some [_]=>true
 |_=>false
def zJz(d:Dl):Bool:=d.2.2.2.all (qMw (d.2.2.1.length:Int))&&oneP (ordS d.2.2.2 0 [])
def zFu(d:Dl):Bool:=if d.1=1∨d.1=2 then qIu d.2.1 else if d.1=3 then qRb d.2.1.data.toList else false
def zFh(d:Dl):Bool:=d.2.2.1.all fun s=>d.1==1&&qIu s
def qKh(d:Dl):Bool:=zFu d&&(zFh d&&zJz d)
def SmD(d:Dl):Prop:=d.2.1.size≤1048576∧d.2.2.1.length<2000000∧d.2.2.2.length<2000000∧∀x∈d.2.2.2,x.2.2.2.1.size≤1048576∧x.2.2.2.2.length<2000000
theorem zJg{N:Nat}{d:Dl}(hd:SmD d)(hN:3000000<N):qAq (qFz N d) N 0=some (if zFh d=true then .inl () else .inr false):=by
 obtain⟨-,h1,-,-⟩:=hd
 have h:=qIz (L:=d.2.2.1) (fun(_:Unit) (i:Nat)=>(i:Int)) (f:=qFz N d)
  (fun _ s=>if(!(d.1==1&&qIu s))=true then .inr (.inr false) else .inl ()) (fun _=>(.inl ():Unit⊕Bool)) (fun _ _=>True) (by
   intro t i hi _
   simp only[qFz]
   rw[if_pos (by simp only[jA];omega),qDf hi]
   have ew:IntKind.wrap .i64 ((i:Int)+1)=((i+1:Nat):Int):=by rw[wi64 (by omega) (by omega)];omega
   simp only[j0,qSp (s:=d.2.2.1[i]) (show 100<N by omega),ew]
   by_cases hk:d.1=1
   ·have e1:(d.1 !=1)=false:=by simp[hk]
    have e2:(d.1==1)=true:=by simp[hk]
    simp only[e1,e2,jB,jG,j0,gO]
    cases qIu d.2.2.1[i]<;>rfl
   ·have e1:(d.1 !=1)=true:=by simp[hk]
    have e2:(d.1==1)=false:=by simp[hk]
    simp only[e1,e2,jH,j0,Bool.false_and,kG]) (fun _ _ _ _ _ _=>trivial) (by
   intro t _
   simp only[qFz]
   rw[if_neg (by simp)]) (M:=N) (t:=()) (by omega) trivial
 rw[show((0:Nat):Int)=0 from rfl] at h
 rw[h,qTi (b:=(.inr false:Unit⊕Bool)) (fun s=> !(d.1==1&&qIu s)) (fun x=>rfl)]
 unfold zFh
 rw[hK]
 cases(d.2.2.1.any fun s=> !(d.1==1&&qIu s))<;>rfl
theorem zCd{N:Nat}{d:Dl}(hd:SmD d)(hN:3000000<N):qIw N d=some (qKh d):=by
 obtain⟨hn1,h1,h2,h3⟩:=id hd
 unfold qIw
 have hhead:((if(d.1==1)=true then(some (d.1==1)) else(some (d.1==2)):Option (Bool)).bind fun o2=>if o2=true then((qHr N d.2.1).bind fun y1=>if(!y1)=true then(some (.inr false)) else(some (.inl ()))) else(if(d.1==3)=true then((qKt N d.2.1).bind fun y2=>if(!y2)=true then(some (.inr false)) else(some (.inl ()))) else(some (.inr false))):Option ((Unit)⊕(Bool)))=some (if zFu d=true then .inl () else .inr false):=by
  simp only[qSp (s:=d.2.1) (show 100<N by omega),zHd (s:=d.2.1) (N:=N) (by omega) (by omega),j0]
  unfold zFu
  by_cases k1:d.1=1
  ·simp only[k1,kS,jH,j0,true_or]
   cases qIu d.2.1<;>rfl
  have e1:(d.1==1)=false:=by simpa using k1
  by_cases k2:d.1=2
  ·simp only[e1,k2,kS,jB,jG,jH,j0,or_true]
   cases qIu d.2.1<;>rfl
  have e2:(d.1==2)=false:=by simpa using k2
  by_cases k3:d.1=3
  ·have e3:(d.1==3)=true:=by simpa using k3
   rw[if_neg (show ¬(d.1=1∨d.1=2) by omega),if_pos k3]
   simp only[e1,e2,e3,jB,jG,jH,j0]
   cases qRb d.2.1.data.toList<;>rfl
  ·have e3:(d.1==3)=false:=by simpa using k3
   rw[if_neg (show ¬(d.1=1∨d.1=2) by omega),if_neg k3]
   simp only[e1,e2,e3,jB,jG,j0]
 rw[hhead]
 simp only[j0]
 unfold qKh
 by_cases hh:zFu d=true
 ·rw[if_pos hh,hh,gO]
  simp only[zJg hd hN,j0]
  by_cases hp:zFh d=true
  ·rw[if_pos hp,hp,gO]
   have hmx:(maxLen:Int)=9223372036854775807:=rfl
   have hmk:qTf 8 (0:Int) (d.2.2.2.length:Int)=some (List.replicate d.2.2.2.length 0):=by
    unfold qTf;rw[if_pos (by omega),jL]
   simp only[hmk,j0]
   obtain⟨out,o1,o2⟩:=zJf (N:=N) h2 h3 hN N [] (List.replicate d.2.2.2.length 0) (by simp[qHi,qBq]) (kM _) (by simp) trivial (by omega)
   have e0:((qBq []:Nat):Int)=0:=rfl
   rw[e0] at o1
   rw[o1]
   simp only[j0]
   rw[show qBq []=0 from rfl,k7] at o2
   cases out with
   |inr b=>
    obtain⟨rfl,hno⟩:=o2
    dsimp only
    congr 1
    unfold zJz
    cases ha:d.2.2.2.all (qMw (d.2.2.1.length:Int)) with
    |false=>rfl
    |true=>
     rw[gO]
     cases ho:ordS d.2.2.2 0 [] with
     |none=>rfl
     |some r=>exact absurd ⟨k0.1 ha,r,ho⟩ hno
   |inl st=>
    obtain⟨ha,fs,ho,hs,hl,hz⟩:=o2
    dsimp only
    have ha':d.2.2.2.all (qMw (d.2.2.1.length:Int))=true:=k0.2 ha
    have ho':ordS d.2.2.2 0 []=some (qDu 0 fs):=ho
    unfold zJz
    rw[ha',ho',gO]
    rcases fJ fs with rfl|⟨pre,t,rfl⟩
    ·have hz0:d.2.2.2.length=0:=by rw[←hz];rfl
     rw[if_neg (by simp[hz0])]
     rfl
    ·rw[List.concat_eq_append] at*
     have hsz:qBq (pre++[t])=qBq pre+t.size:=by rw[qLf];simp[qBq]
     have hp:=t.pos
     obtain⟨-,hs2,-⟩:=StOk.app.1 hs
     rw[jW] at hs2
     have w:IntKind.wrap .i64 ((d.2.2.2.length:Int)-1)=((qBq pre+t.size-1:Nat):Int):=by rw[wi64 (by omega) (by omega)];omega
     rw[if_pos (by simp only[jA];omega),w,qWk hs2]
     simp only[j0]
     congr 1
     rw[qQg,jW]
     cases pre with
     |nil=>rfl
     |cons u pre=>
      have hu:=u.pos
      have e1:((((qBq (u::pre):Nat)):Int)==0)=false:=by
       simp only[qBq,beq_eq_false_iff_ne];omega
      rw[e1]
      cases pre<;>rfl
  ·rw[if_neg hp,show zFh d=false by simpa using hp]
   rfl
 ·rw[if_neg hh,show zFu d=false by simpa using hh]
  rfl
def SmSr(f:Sr):Prop:=f.2.1.length<2000000∧f.2.2.length<2000000∧∀d∈f.2.2,SmD d
def synP(f:Sr):Bool:=qIu f.1&&(f.2.1.all qIu&&f.2.2.all qKh)
theorem zHw{N:Nat}{f:Sr}(hf:SmSr f)(hN:3000000<N):qKd N f=some (synP f):=by
 obtain⟨h1,h2,h3⟩:=hf
 unfold qKd
 rw[qSp (by omega)]
 simp only[j0]
 unfold synP
 by_cases hn:qIu f.1=true
 ·rw[hn,if_neg (by decide),gO]
  have i1:=qIz (L:=f.2.1) (fun(_:Unit) (i:Nat)=>(i:Int)) (f:=qIh N f)
   (fun _ s=>if(!qIu s)=true then .inr (.inr false) else .inl ()) (fun _=>(.inl ():Unit⊕Bool)) (fun _ _=>True) (by
    intro t i hi _
    simp only[qIh]
    rw[if_pos (by simp only[jA];omega),qDf hi]
    have ew:IntKind.wrap .i64 ((i:Int)+1)=((i+1:Nat):Int):=by rw[wi64 (by omega) (by omega)];omega
    simp only[j0,qSp (s:=f.2.1[i]) (show 100<N by omega),ew]
    cases qIu f.2.1[i]<;>rfl) (fun _ _ _ _ _ _=>trivial) (by
    intro t _
    simp only[qIh]
    rw[if_neg (by simp)]) (M:=N) (t:=()) (by omega) trivial
  have i2:=qUx (L:=f.2.2) (fun(_:Unit) (i:Nat)=>(i:Int)) (f:=qIg N f)
   (fun _ d=>if(!qKh d)=true then .inr (.inr false) else .inl ()) (fun _=>(.inl ():Unit⊕Bool)) (fun _ _=>True) (by
    intro t i hi _
    simp only[qIg]
    rw[if_pos (by simp only[jA];omega),qDf hi]
    have ew:IntKind.wrap .i64 ((i:Int)+1)=((i+1:Nat):Int):=by rw[wi64 (by omega) (by omega)];omega
    simp only[j0,ew]
    rw[show qIw N (f.2.2[i].1,f.2.2[i].2.1,f.2.2[i].2.2.1,f.2.2[i].2.2.2)=_ from zCd (h3 _ (kO hi)) hN]
    simp only[j0]
    cases qKh f.2.2[i]<;>rfl) (fun _ _ _ _ _ _=>trivial) (by
    intro t _
    simp only[qIg]
    rw[if_neg (by simp)]) f.2.2.length 0 N () (by omega) (by omega) trivial
  rw[show((0:Nat):Int)=0 from rfl] at i1 i2
  rw[i1,qTi (b:=(.inr false:Unit⊕Bool)) (fun s=> !qIu s) (fun x=>rfl),hK]
  cases ha:(f.2.1.any fun s=> !qIu s) with
  |true=>rfl
  |false=>
   simp only[jB,jG,j0,kG,gO]
   rw[i2,k7,qTi (b:=(.inr false:Unit⊕Bool)) (fun s=> !qKh s) (fun x=>rfl),hK]
   cases(f.2.2.any fun s=> !qKh s)<;>rfl
 ·rw[show qIu f.1=false by simpa using hn]
  rfl
def dupG{α:Type}[DecidableEq α]:List α→List α→Bool
 |_,[]=>false
 |seen,x::l=>decide (x∈seen)||dupG (seen++[x]) l
def dupL{α:Type}[DecidableEq α](l:List α):Bool:=dupG [] l
theorem zEr{α:Type}[DecidableEq α]{l:List α}{f:Int→Option (Int⊕(Unit⊕Bool))}(hs:∀(i:Nat) (hi:i<l.length),f (i:Int)=some (if l[i]∈l.take i then .inr (.inr true) else .inl ((i+1:Nat):Int)))
  (hf:f (l.length:Int)=some (.inr (.inl ()))):∀(d i M:Nat),i+d=l.length→d<M→qAq f M (i:Int)=some (if dupG (l.take i) (l.drop i)=true then .inr true else .inl ())
 |_,_,0,_,h=>absurd h (kI _)
 |0,i,M+1,hd,_=>by
  have:i=l.length:=by omega
  subst this
  simp only[qAq,hf,j0,fF,dupG]
  rfl
 |d+1,i,M+1,hd,hM=>by
  have hi:i<l.length:=by omega
  simp only[qAq,hs i hi,j0]
  rw[qNh hi]
  by_cases hm:l[i]∈l.take i
  ·have e:dupG (l.take i) (l[i]::l.drop (i+1))=true:=by
    show(decide _||_)=true
    rw[jU hm,fZ]
   rw[if_pos hm,if_pos e]
  ·have e:dupG (l.take i) (l[i]::l.drop (i+1))=dupG (l.take (i+1)) (l.drop (i+1)):=by
    show(decide _||_)=_
    rw[jQ hm,kY,qUt hi]
   rw[if_neg hm,e]
   exact zEr hs hf d (i+1) M (by omega) (by omega)
theorem zBt{α:Type}[DecidableEq α]{l:List α}{f:Int→Option (Int⊕(Unit⊕Bool))}(hs:∀(i:Nat) (hi:i<l.length),f (i:Int)=some (if l[i]∈l.take i then .inr (.inr true) else .inl ((i+1:Nat):Int)))
  (hf:f (l.length:Int)=some (.inr (.inl ()))) {M:Nat} (hM:l.length<M):qAq f M 0=some (if dupL l=true then .inr true else .inl ()):=by
 have h:=zEr hs hf l.length 0 M (by omega) hM
 rw[d3,k7] at h
 exact h
theorem qYq{α:Type}[DecidableEq α]{l:List α}{x:α}{f:Int→Option (Int⊕(Unit⊕Int))}(hs:∀(i:Nat) (hi:i<l.length),f (i:Int)=some (if x=l[i] then .inr (.inr (i:Int)) else .inl ((i+1:Nat):Int)))
  (hf:f (l.length:Int)=some (.inr (.inl ()))):∀(d i M:Nat),i+d=l.length→d<M→∃o,qAq f M (i:Int)=some o∧(match o with| .inl _=>x∉l.drop i| .inr j=>x∈l.drop i∧0≤j)
 |_,_,0,_,h=>absurd h (kI _)
 |0,i,M+1,hd,_=>by
  have:i=l.length:=by omega
  subst this
  simp only[qAq,hf,j0,fF]
  exact⟨.inl (),rfl,gN⟩
 |d+1,i,M+1,hd,hM=>by
  have hi:i<l.length:=by omega
  simp only[qAq,hs i hi,j0]
  rw[qNh hi]
  by_cases hx:x=l[i]
  ·rw[if_pos hx]
   exact⟨.inr (i:Int),rfl,by rw[hx];exact jN ..,by omega⟩
  ·rw[if_neg hx]
   simp only
   obtain⟨o,o1,o2⟩:=qYq hs hf d (i+1) M (by omega) (by omega)
   refine⟨o,o1,?_⟩
   cases o with
   |inl u=>exact fun h=>(jM.1 h).elim hx o2
   |inr j=>exact⟨jX _ o2.1,o2.2⟩
theorem qTn{N:Nat}{s:ByteArray}{l:List ByteArray}(hl:l.length<2000000)(hN:l.length<N):qDj N l s=some (decide (s∈l)):=by
 obtain⟨o,o1,o2⟩:=qYq (l:=l) (x:=s) (f:=qDk N l s) (fun i hi=>by
  simp only[qDk]
  rw[if_pos (by simp only[jA];omega),qDf hi]
  have ew:IntKind.wrap .i64 ((i:Int)+1)=((i+1:Nat):Int):=by rw[wi64 (by omega) (by omega)];omega
  simp only[j0,qEr,jA,ew]
  split<;>rfl) (by
  simp only[qDk]
  rw[if_neg (by simp)]) l.length 0 N (by omega) hN
 rw[show((0:Nat):Int)=0 from rfl] at o1
 rw[k7] at o2
 simp only[qDj,qGl,o1,j0]
 cases o with
 |inl u=>
  simp only at o2
  rw[jQ o2];rfl
 |inr j=>
  simp only at o2 ⊢
  rw[jU o2.1]
  simp[o2.2]
theorem zAh{N:Nat}{l:List ByteArray}(hl:l.length<2000000)(hN:l.length<N):qGw N l=some (dupL l):=by
 have h:=zBt (l:=l) (f:=qFc N l) (fun i hi=>by
  simp only[qFc]
  rw[if_pos (by simp only[jA];omega),qDf hi,qSc (by omega) (by omega) (by omega)]
  have ew:IntKind.wrap .i64 ((i:Int)+1)=((i+1:Nat):Int):=by rw[wi64 (by omega) (by omega)];omega
  simp only[j0,jL,Int.toNat_zero,k7,ew]
  rw[qTn (by rw[kD];omega) (by rw[kD];omega)]
  simp only[j0,jA]
  split<;>rfl) (by
  simp only[qFc]
  rw[if_neg (by simp)]) hN
 simp only[qGw,h,j0]
 cases dupL l<;>rfl
abbrev Nm2:=Int×ByteArray
instance decMemN(s:Nm2)(l:List Nm2):Decidable (s∈l):=@List.instDecidableMemOfLawfulBEq Nm2 instBEqOfDecidableEq inferInstance s l
theorem zBk{N:Nat}{s:Nm2}{l:List Nm2}(hl:l.length<2000000)(hN:l.length<N):qCt N l s=some (decide (s∈l)):=by
 obtain⟨o,o1,o2⟩:=qYq (l:=l) (x:=s) (f:=qCj N l s) (fun i hi=>by
  simp only[qCj]
  rw[if_pos (by simp only[jA];omega),qDf hi]
  have ew:IntKind.wrap .i64 ((i:Int)+1)=((i+1:Nat):Int):=by rw[wi64 (by omega) (by omega)];omega
  have ee:((s.1==l[i].1)&&((s.2.toList==l[i].2.toList)&&true))=decide (s=l[i]):=by
   rw[kE]
   simp only[qEr,jJ,kA,jA,and_true,Prod.ext_iff]
  simp only[j0,ee,jA,ew]
  split<;>rfl) (by
  simp only[qCj]
  rw[if_neg (by simp)]) l.length 0 N (by omega) hN
 rw[show((0:Nat):Int)=0 from rfl] at o1
 rw[k7] at o2
 simp only[qCt,qDt,o1,j0]
 cases o with
 |inl u=>
  simp only at o2
  rw[jQ o2];rfl
 |inr j=>
  simp only at o2 ⊢
  rw[jU o2.1]
  simp[o2.2]
theorem zGx{N:Nat}{l:List Nm2}(hl:l.length<2000000)(hN:l.length<N):qFn N l=some (dupL l):=by
 have h:=zBt (l:=l) (f:=qDr N l) (fun i hi=>by
  simp only[qDr]
  rw[if_pos (by simp only[jA];omega),qDf hi,qSc (by omega) (by omega) (by omega)]
  have ew:IntKind.wrap .i64 ((i:Int)+1)=((i+1:Nat):Int):=by rw[wi64 (by omega) (by omega)];omega
  simp only[j0,jL,Int.toNat_zero,k7,ew]
  rw[zBk (by rw[kD];omega) (by rw[kD];omega)]
  simp only[j0,jA]
  split<;>rfl) (by
  simp only[qDr]
  rw[if_neg (by simp)]) hN
 simp only[qFn,h,j0]
 cases dupL l<;>rfl
def zHc(d:Dl):Nm2:=(d.1,d.2.1)
def zBr(f:Sr):Bool:=f.2.2.any (fun d=>dupL d.2.2.1)||(decide (f.1∈f.2.1)||(dupL f.2.1||dupL (f.2.2.map zHc)))
theorem zLk{N:Nat}{f:Sr}(hf:SmSr f)(hN:3000000<N):qAq (qHy N f) N ([],0)=some (if f.2.2.any (fun d=>dupL d.2.2.1)=true then .inr true else .inl (f.2.2.map zHc)):=by
 obtain⟨h1,h2,h3⟩:=hf
 have h:=qIz (L:=f.2.2) (fun(t:List Nm2) (i:Nat)=>(t,(i:Int))) (f:=qHy N f)
  (fun t d=>if dupL d.2.2.1=true then .inr (.inr true) else .inl (t++[zHc d])) (fun t=>(.inl t:List Nm2⊕Bool)) (fun i t=>t.length≤i) (by
   intro t i hi hI
   obtain⟨-,k1,-,-⟩:=h3 _ (kO hi)
   simp only[qHy]
   rw[if_pos (by simp only[jA];omega),qDf hi]
   have ew:IntKind.wrap .i64 ((i:Int)+1)=((i+1:Nat):Int):=by rw[wi64 (by omega) (by omega)];omega
   simp only[j0,zAh k1 (show(f.2.2[i]).2.2.1.length<N by omega),ew]
   rw[qDe (by simp only[jC,jE];omega) (by omega)]
   simp only[j0]
   split<;>rfl) (by
   intro t i hi t' hI h
   split at h
   ·cases h
   ·cases h
    simp only[jD,jC,jE];omega) (by
   intro t hI
   simp only[qHy]
   rw[if_neg (by simp)]) (M:=N) (t:=[]) (by omega) (jK _)
 rw[show((0:Nat):Int)=0 from rfl] at h
 rw[h]
 congr 1
 suffices g:∀(l:List Dl) (t:List Nm2),run (fun t d=>if dupL d.2.2.1=true then .inr (.inr true) else .inl (t++[zHc d])) (fun t=>(.inl t:List Nm2⊕Bool)) l t=if l.any (fun d=>dupL d.2.2.1)=true then .inr true else .inl (t++l.map zHc) by
  have:=g f.2.2 []
  rw[kK] at this
  exact this
 intro l
 induction l with
 |nil=>intro t;simp[run]
 |cons d l ih=>
  intro t
  simp only[run,gW,k9]
  cases hd:dupL d.2.2.1 with
  |true=>simp
  |false=>
   simp only[jB,jG,kY]
   rw[ih,jS];rfl
theorem zKv{N:Nat}{f:Sr}(hf:SmSr f)(hN:3000000<N):qKr N f=some (zBr f):=by
 obtain⟨h1,h2,h3⟩:=id hf
 unfold qKr
 rw[zLk hf hN]
 simp only[j0]
 unfold zBr
 cases ha:f.2.2.any (fun d=>dupL d.2.2.1) with
 |true=>rfl
 |false=>
  simp only[jB,jG,kY]
  rw[qTn h1 (by omega),zAh h1 (by omega),zGx (by rw[g9];exact h2) (by rw[g9];omega)]
  simp only[j0]
  cases decide (f.1∈f.2.1)<;>cases dupL f.2.1<;>rfl
end
section
open Go Go.Dc
def zGc:List Ex→List Rose→List Rose
 |[],fs=>fs
 |x::l,fs=>zGc l (fs.take (fs.length-x.2.2.2.2.length)++[Rose.mk (x.1,x.2.1,x.2.2.1,x.2.2.2.1) (fs.drop (fs.length-x.2.2.2.2.length))])
def zHi(l:List Ex):Option Rose:=match zGc l [] with
 |[t]=>some t
 |_=>none
theorem zEs:∀(l:List Ex) (fs:List Rose) {st:List Int},ordS l (qBq fs) (qDu 0 fs)=some st→qHi 0 (zGc l fs)=qHi 0 fs++l∧st=qDu 0 (zGc l fs)
 |[],fs,st,h=>⟨by simp[zGc],(jY h).symm⟩
 |x::l,fs,st,h=>by
  rw[qVs x _ _ _ x.2.2.2.2 rfl] at h
  split at h
  ·rename_i hc
   obtain⟨h1,h2⟩:=hc
   rw[qJa] at h1 h2 h
   obtain⟨e1,e2,e3⟩:=qVu (h:=(x.1,x.2.1,x.2.2.1,x.2.2.2.1)) h1 rfl h2
   rw[←e1,←e2] at h
   obtain⟨g1,g2⟩:=zEs l _ h
   exact⟨by rw[zGc,g1,e3,jS];rfl,g2⟩
  ·cases h
theorem zEx{l:List Ex}(h:oneP (ordS l 0 [])=true):∃t,zHi l=some t∧l=t.flat 0:=by
 cases ho:ordS l 0 [] with
 |none=>rw[ho] at h;cases h
 |some st=>
  rw[ho] at h
  obtain⟨g1,g2⟩:=zEs l [] ho
  have hl:st.length=1:=by
   match st,h with
   |[x],_=>rfl
  rw[g2,qJa] at hl
  obtain⟨t,ht⟩:=List.length_eq_one_iff.1 hl
  refine⟨t,by unfold zHi;rw[ht],?_⟩
  rw[ht] at g1
  simpa[qHi] using g1.symm
mutual
def Rose.deepen(d:Nat):Rose→Nat
 | .mk h ks=>max d (qQe (if h.1=4 then d else d+1) ks)
def qQe(d:Nat):List Rose→Nat
 |[]=>0
 |t::l=>max (t.deepen d) (qQe d l)
end
theorem qRo{d:Nat}:∀{l:List Rose},(32<qQe d l)↔∃t∈l,32<t.deepen d
 |[]=>by simp[qQe]
 |t::l=>by
  have ih:=qRo (d:=d) (l:=l)
  simp only[qQe,jM,exists_eq_or_imp,←ih]
  omega
def qPq(dp:List Int)(a:List Int)(v:Int):List Int:=a.foldl (fun dp a=>dp.set a.toNat v) dp
theorem qXo:∀(a:List Int) (dp:List Int) (v:Int),(qPq dp a v).length=dp.length
 |[],_,_=>rfl
 |x::a,dp,v=>by
  show(qPq (dp.set x.toNat v) a v).length=_
  rw[qXo a,gC]
theorem qVc{j:Nat}{v:Int}:∀(ks:List Rose) (b:Nat) (dp:List Int),j<b→(qPq dp (qDu b ks) v)[j]? =dp[j]?
 |[],_,_,_=>rfl
 |t::l,b,dp,h=>by
  have hp:=t.pos
  show(qPq (dp.set (((b+t.size-1:Nat):Int)).toNat v) (qDu (b+t.size) l) v)[j]? =_
  rw[qVc l (b+t.size) _ (by omega),jL,List.getElem?_set_ne (by omega)]
def DpOk(dp:List Int):Nat→List (Rose×Nat)→Prop
 |_,[]=>True
 |b,p::l=>(∃v:Int,dp[b+p.1.size-1]? =some v∧(v=(p.2:Int)∨v=0∧p.2=1))∧DpOk dp (b+p.1.size) l
theorem DpOk.app{dp:List Int}:∀{l k:List (Rose×Nat)} {b:Nat},DpOk dp b (l++k)↔DpOk dp b l∧DpOk dp (b+qBq (l.map (·.1))) k
 |[],k,b=>by simp[DpOk,qBq]
 |t::l,k,b=>by
  rw[gH]
  simp only[DpOk,k9,qBq,DpOk.app (l:=l)]
  rw[and_assoc,gL]
theorem DpOk.congr{dp dp':List Int}:∀{l:List (Rose×Nat)} {b:Nat},DpOk dp b l→(∀j,j<b+qBq (l.map (·.1))→dp'[j]? =dp[j]?)→DpOk dp' b l
 |[],_,_,_=>trivial
 |t::l,b,h,hj=>by
  have hp:=t.1.pos
  simp only[k9,qBq] at hj
  refine⟨?_,h.2.congr fun j h=>hj j (by omega)⟩
  obtain⟨v,h1,h2⟩:=h.1
  exact⟨v,by rw[hj _ (by omega)];exact h1,h2⟩
theorem DpOk.kids{d:Nat}:∀{ks:List Rose} {b:Nat} {dp:List Int},b+qBq ks≤dp.length→DpOk (qPq dp (qDu b ks) (d:Int)) b (ks.map fun t=>(t,d))
 |[],_,_,_=>trivial
 |t::l,b,dp,h=>by
  have hp:=t.pos
  simp only[qBq] at h
  show DpOk (qPq (dp.set (((b+t.size-1:Nat):Int)).toNat d) (qDu (b+t.size) l) d) b ((t,d)::l.map fun t=>(t,d))
  refine⟨⟨d,?_,.inl rfl⟩,DpOk.kids (by rw[gC];omega)⟩
  rw[qVc l (b+t.size) _ (by show b+t.size-1<b+t.size;omega),jL,List.getElem?_set_self (by omega)]
theorem zCb{N i d:Nat}{x1:Dl}{x5:Ex}{so:List Int}(hx:x1.2.2.2[i]? =some x5)(ha:∀a∈x5.2.2.2.2,0≤a∧a<(i:Int))(hal:x5.2.2.2.2.length<2000000)(hd:d≤1000):∀(k j M:Nat) (dp:List Int),j+k=x5.2.2.2.2.length→k<M→i<dp.length→dp[i]? =some (d:Int)→
  qAq (qJn N x1 ((i:Int),so) x5) M ((j:Int),dp)=some (qPq dp (x5.2.2.2.2.drop j) (if x5.1=4 then(d:Int) else((d+1:Nat):Int)))
 |_,_,0,_,_,h,_,_=>absurd h (kI _)
 |0,j,M+1,dp,hj,_,_,_=>by
  have:j=x5.2.2.2.2.length:=by omega
  subst this
  simp only[qAq,qJn]
  rw[if_neg (by simp),fF]
  rfl
 |k+1,j,M+1,dp,hj,hM,hi,hdp=>by
  have hjl:j<x5.2.2.2.2.length:=by omega
  obtain⟨a0,a1⟩:=ha _ (kO hjl)
  obtain⟨a,ea⟩:∃a:Nat,x5.2.2.2.2[j]=(a:Int):=⟨(x5.2.2.2.2[j]).toNat,by omega⟩
  have hal2:a<i:=by omega
  have ew:IntKind.wrap .i64 ((j:Int)+1)=((j+1:Nat):Int):=by rw[wi64 (by omega) (by omega)];omega
  have ed:IntKind.wrap .i64 ((d:Int)+1)=((d+1:Nat):Int):=by rw[wi64 (by omega) (by omega)];omega
  simp only[qAq,qJn]
  rw[if_pos (by simp only[jA];omega),qDf hjl,ea]
  have hax:idx dp (a:Int)=some dp[a]:=qDf (by omega)
  have hset:idx (dp.set a (d:Int)) (a:Int)=some (d:Int):=qWk (List.getElem?_set_self (by omega))
  simp only[j0,qWk hdp,hax,qWk hx,jL,hset,ed,ew]
  rw[qNh hjl,ea]
  have hstep:∀v:Int,qPq dp ((a:Int)::x5.2.2.2.2.drop (j+1)) v=qPq (dp.set a v) (x5.2.2.2.2.drop (j+1)) v:=fun v=>by
   show qPq (dp.set ((a:Int)).toNat v) _ v=_
   rw[jL]
  by_cases hk:x5.1=4
  ·have e:(x5.1 !=4)=false:=by simp[hk]
   simp only[e,jB,jG,j0]
   rw[zCb hx ha hal hd k (j+1) M _ (by omega) (by omega) (by rw[gC];exact hi) (by rw[List.getElem?_set_ne (by omega)];exact hdp),if_pos hk,hstep]
  ·have e:(x5.1 !=4)=true:=by simp[hk]
   simp only[e,jH,j0,List.set_set]
   rw[zCb hx ha hal hd k (j+1) M _ (by omega) (by omega) (by rw[gC];exact hi) (by rw[List.getElem?_set_ne (by omega)];exact hdp),if_neg hk,hstep]
theorem zEi:∀{ks:List Rose} {b:Nat},∀a∈qDu b ks,(b:Int)≤a∧a<((b+qBq ks:Nat):Int)
 |[],_,a,h=>by cases h
 |t::l,b,a,h=>by
  have hp:=t.pos
  simp only[qBq]
  rcases jM.1 h with rfl|h
  ·omega
  ·have:=zEi (ks:=l) (b:=b+t.size) a h
   omega
theorem zJp{N:Nat}{x1:Dl}(hlen:x1.2.2.2.length≤256)(hargs:∀x∈x1.2.2.2,x.2.2.2.2.length<2000000)(hN:3000000<N):∀(M:Nat) (F:List (Rose×Nat)) (dp:List Int),qHi 0 (F.map (·.1))=x1.2.2.2.take (qBq (F.map (·.1)))→qBq (F.map (·.1))≤x1.2.2.2.length→dp.length=x1.2.2.2.length→DpOk dp 0 F→(∀p∈F,1≤p.2∧p.2≤33)→qBq (F.map (·.1))<M→
  ∃o,qAq (qIp N x1) M (((qBq (F.map (·.1)):Nat):Int)-1,dp)=some o∧(match o with
   | .inl _=>¬∃p∈F,32<p.1.deepen p.2
   | .inr b=>b=true∧∃p∈F,32<p.1.deepen p.2)
 |0,_,_,_,_,_,_,_,h=>absurd h (kI _)
 |M+1,F,dp,hf,hle,hdl,hdp,hd1,hM=>by
  rcases fJ F with rfl|⟨pre,⟨⟨h,ks⟩,d⟩,rfl⟩
  ·simp only[qAq,qIp]
   rw[if_neg (by simp[qBq])]
   exact⟨_,rfl,by simp⟩
  ·rw[List.concat_eq_append] at*
   obtain⟨g1,g2⟩:=hd1 (Rose.mk h ks,d) (by simp)
   simp only at g1 g2
   rw[fH,List.map_singleton] at hf hle hM ⊢
   have hsz:qBq (pre.map (·.1)++[Rose.mk h ks])=qBq (pre.map (·.1))+(qBq ks+1):=by rw[qLf];simp[qBq,Rose.size]
   generalize hb:qBq (pre.map (·.1))=b at hsz
   obtain⟨d1,d2,-⟩:=DpOk.app.1 hdp
   rw[jW,hb] at d2
   obtain⟨v,v1,v2⟩:=d2
   simp only[Rose.size] at v1
   rw[show b+(qBq ks+1)-1=b+qBq ks by omega] at v1
   rw[hsz] at hle hM ⊢
   have hi:b+qBq ks<dp.length:=by omega
   have ei:((b+(qBq ks+1):Nat):Int)-1=((b+qBq ks:Nat):Int):=by omega
   -- the node
   have hnode:x1.2.2.2[b+qBq ks]? =some (qLt h (qDu b ks)):=by
    have e:x1.2.2.2.take (b+(qBq ks+1))=qHi 0 (pre.map (·.1))++(qHi b ks++[qLt h (qDu b ks)]):=by
     rw[hsz] at hf
     rw[←hf,qOr,jW,hb]
     simp[qHi,Rose.flat]
    have e2:(x1.2.2.2.take (b+(qBq ks+1)))[b+qBq ks]? =some (qLt h (qDu b ks)):=by
     rw[e,List.getElem?_append_right (by rw[qJb,hb];omega),List.getElem?_append_right (by rw[qJb,qJb,hb];omega),qJb,qJb,hb,show b+qBq ks-b-qBq ks=0 by omega]
     rfl
    rw[List.getElem?_take_of_lt (by omega)] at e2
    exact e2
   have wi:IntKind.wrap .i64 (((b+qBq ks:Nat):Int)-1)=((b+qBq ks:Nat):Int)-1:=by rw[wi64 (by omega) (by omega)]
   -- the node's depth is laid
   have hset:(if(v==0)=true then some (dp.set (b+qBq ks) 1) else some dp:Option (List Int))=some (dp.set (b+qBq ks) (d:Int)):=by
    rcases v2 with rfl|⟨rfl,rfl⟩
    ·have:((d:Int)==0)=false:=by rw[beq_eq_false_iff_ne];omega
     rw[this,zDn v1];rfl
    ·rfl
   have hd':(dp.set (b+qBq ks) (d:Int))[b+qBq ks]? =some (d:Int):=List.getElem?_set_self hi
   simp only[qAq,qIp]
   rw[ei,if_pos (by simp only[jA];omega),qWk v1]
   simp only[j0,jL,hset,qWk hd',qWk hnode]
   have hdeep:(Rose.mk h ks).deepen d=max d (qQe (if h.1=4 then d else d+1) ks):=by simp only[Rose.deepen]
   by_cases h32:32<d
   ·rw[if_pos (by simp only[jA];omega)]
    refine⟨.inr true,rfl,rfl,(Rose.mk h ks,d),by simp,?_⟩
    simp only[hdeep];omega
   ·rw[if_neg (by simp only[jA];omega)]
    have hra:∀a∈qDu b ks,0≤a∧a<((b+qBq ks:Nat):Int):=fun a ha=>by
     have:=zEi a ha;omega
    have h3:=zCb (N:=N) (i:=b+qBq ks) (d:=d) (x1:=x1) (x5:=qLt h (qDu b ks)) (so:=dp) hnode hra (by
     have:=hargs _ (fL hnode);exact this) (by omega) (qDu b ks).length 0 N (dp.set (b+qBq ks) (d:Int)) (by show 0+_=(qDu b ks).length;omega) (by
     have:=hargs _ (fL hnode)
     have:(qDu b ks).length<2000000:=this
     omega) (by rw[gC];exact hi) hd'
    rw[k7] at h3
    rw[show(((0:Nat):Int))=0 from rfl] at h3
    rw[h3]
    simp only[j0,wi]
    have hv:(if(qLt h (qDu b ks)).1=4 then(d:Int) else((d+1:Nat):Int))=(((if h.1=4 then d else d+1:Nat)):Int):=by
     show(if h.1=4 then(d:Int) else((d+1:Nat):Int))=_
     split<;>rfl
    rw[hv]
    show ∃o,qAq (qIp N x1) M (((b+qBq ks:Nat):Int)-1,qPq (dp.set (b+qBq ks) (d:Int)) (qDu b ks) _)=some o∧_
    generalize hd2:(if h.1=4 then d else d+1:Nat)=d'
    rw[hd2] at hdeep
    have hd2':1≤d'∧d'≤33:=by rw[←hd2];split<;>omega
    have hmm:∀l:List Rose,(l.map fun t=>(t,d')).map (·.1)=l:=fun l=>by rw[List.map_map];exact List.map_id _
    have hszF:qBq ((pre++ks.map fun t=>(t,d')).map (·.1))=b+qBq ks:=by rw[fH,hmm,qLf,hb]
    have hfl:qHi 0 ((pre++ks.map fun t=>(t,d')).map (·.1))=x1.2.2.2.take (b+qBq ks):=by
     rw[fH,hmm,qOr,jW,hb]
     have e:x1.2.2.2.take (b+(qBq ks+1))=qHi 0 (pre.map (·.1))++(qHi b ks++[qLt h (qDu b ks)]):=by
      rw[hsz] at hf
      rw[←hf,qOr,jW,hb]
      simp[qHi,Rose.flat]
     have e3:=congrArg (List.take (b+qBq ks)) e
     rw[List.take_take,Nat.min_eq_left (by omega),←jS,jZ (by rw[jD,qJb,qJb,hb];exact jK _),gB (show(qHi 0 (pre.map (·.1))++qHi b ks).length≤b+qBq ks by rw[jD,qJb,qJb,hb];exact jK _)] at e3
     exact e3.symm
    obtain⟨o,o1,o2⟩:=zJp hlen hargs hN M (pre++ks.map fun t=>(t,d')) (qPq (dp.set (b+qBq ks) (d:Int)) (qDu b ks) (d':Int)) (by rw[hszF];exact hfl) (by rw[hszF];omega) (by rw[qXo,gC];exact hdl) (DpOk.app.2 ⟨d1.congr fun j hj=>by
      rw[jW,hb] at hj
      rw[qVc ks b _ hj,List.getElem?_set_ne (by omega)],by
      rw[jW,hb]
      exact DpOk.kids (by rw[gC];omega)⟩) (fun p hp=>by
      rcases kZ.1 hp with hp|hp
      ·exact hd1 p (k8 _ hp)
      ·obtain⟨t,-,rfl⟩:=fG.1 hp
       exact hd2') (by rw[hszF];omega)
    rw[hszF] at o1
    refine⟨o,o1,?_⟩
    have hiff:(∃p∈pre++ks.map fun t=>(t,d'),32<p.1.deepen p.2)↔∃p∈pre++[(Rose.mk h ks,d)],32<p.1.deepen p.2:=by
     simp only[kZ,fG,kF]
     constructor
     ·rintro⟨p,hp|⟨t,ht,rfl⟩,hq⟩
      ·exact⟨p,.inl hp,hq⟩
      ·refine⟨_,.inr rfl,?_⟩
       simp only[hdeep]
       have:32<qQe d' ks:=qRo.2 ⟨t,ht,hq⟩
       omega
     ·rintro⟨p,hp|rfl,hq⟩
      ·exact⟨p,.inl hp,hq⟩
      ·simp only[hdeep] at hq
       obtain⟨t,ht,hq⟩:=qRo.1 (show 32<qQe d' ks by omega)
       exact⟨_,.inr ⟨t,ht,rfl⟩,hq⟩
    cases o with
    |inl u=>exact fun hx=>o2 (hiff.2 hx)
    |inr u=>exact⟨o2.1,hiff.1 o2.2⟩
def zFo(l:List Ex):Bool:=match zHi l with
 |some t=>decide (32<t.deepen 1)
 |none=>false
def zFs(d:Dl):Bool:=decide (8<d.2.2.1.length)||(decide (256<d.2.2.2.length)||zFo d.2.2.2)
def zFz(f:Sr):Bool:=decide (8<f.2.1.length)||(decide (64<f.2.2.length)||f.2.2.any zFs)
def qTd(f:Sr):Int:=if synP f=true then if zBr f=true then 10 else if zFz f=true then 2 else 0 else 9
theorem zNg{N:Nat}{f:Sr}(hf:SmSr f)(hs:synP f=true)(hN:3000000<N):qLz N f=some (zFz f):=by
 obtain⟨h1,h2,h3⟩:=id hf
 have hbody:∀d∈f.2.2,oneP (ordS d.2.2.2 0 [])=true:=fun d hd=>by
  unfold synP qKh zJz at hs
  simp only[jJ,k0] at hs
  exact(hs.2.2 d hd).2.2.2
 have hL:=qIz (L:=f.2.2) (fun(_:Unit) (i:Nat)=>(i:Int)) (f:=qJp N f)
  (fun _ d=>if zFs d=true then .inr (.inr true) else .inl ()) (fun _=>(.inl ():Unit⊕Bool)) (fun _ _=>True) (by
   intro t i hi _
   obtain⟨-,k1,k2,k3⟩:=h3 _ (kO hi)
   have hb:=hbody _ (kO hi)
   simp only[qJp]
   rw[if_pos (by simp only[jA];omega),qDf hi]
   generalize f.2.2[i]=d at k1 k2 k3 hb
   have ew:IntKind.wrap .i64 ((i:Int)+1)=((i+1:Nat):Int):=by rw[wi64 (by omega) (by omega)];omega
   have e8:decide ((d.2.2.1.length:Int)>8)=decide (8<d.2.2.1.length):=by congr 1;rw[eq_iff_iff];omega
   have e256:decide ((d.2.2.2.length:Int)>256)=decide (256<d.2.2.2.length):=by congr 1;rw[eq_iff_iff];omega
   simp only[j0,e8,e256,ew]
   unfold zFs
   cases c8:decide (8<d.2.2.1.length) with
   |true=>rfl
   |false=>
    simp only[jB,jG,j0,kY]
    cases c256:decide (256<d.2.2.2.length) with
    |true=>rfl
    |false=>
     have hl:=of_decide_eq_false c256
     have hmx:(maxLen:Int)=9223372036854775807:=rfl
     have hmk:qTf 8 (0:Int) (d.2.2.2.length:Int)=some (List.replicate d.2.2.2.length 0):=by
      unfold qTf;rw[if_pos (by omega),jL]
     obtain⟨t,ht1,ht2⟩:=zEx hb
     have htl:t.size=d.2.2.2.length:=by
      have:=qGa t 0
      rw[←ht2] at this;exact this.symm
     have hp:=t.pos
     simp only[jB,jG,hmk,j0,kY]
     have hsz:qBq ([(t,1)].map (·.1))=d.2.2.2.length:=by simp[qBq,htl]
     obtain⟨o,o1,o2⟩:=zJp (N:=N) (x1:=d) (by omega) (fun x hx=>(k3 x hx).2) hN N [(t,1)] (List.replicate d.2.2.2.length 0) (by
      rw[hsz,gA]
      simp only[k9,List.map_nil,qHi,f0]
      exact ht2.symm) (by rw[hsz];exact jK _) (by simp) ⟨⟨0,by rw[jW,htl,List.getElem?_replicate,if_pos (by omega)],.inr ⟨rfl,rfl⟩⟩,trivial⟩ (by simp) (by rw[hsz];omega)
     rw[hsz] at o1
     rw[wi64 (by omega) (by omega),o1]
     have hdb:zFo d.2.2.2=decide (32<t.deepen 1):=by unfold zFo;rw[ht1]
     simp only[j0]
     cases o with
     |inl u=>
      simp only[kF,exists_eq_left] at o2
      have e:zFo d.2.2.2=false:=by rw[hdb];exact jQ o2
      rw[e]
      rfl
     |inr u=>
      simp only[kF,exists_eq_left] at o2
      obtain⟨rfl,o3⟩:=o2
      have e:zFo d.2.2.2=true:=by rw[hdb];exact jU o3
      rw[e]
      rfl) (fun _ _ _ _ _ _=>trivial) (by
   intro t _
   simp only[qJp]
   rw[if_neg (by simp)]) (M:=N) (t:=()) (by omega) trivial
 rw[show((0:Nat):Int)=0 from rfl] at hL
 unfold qLz
 have e8:decide ((f.2.1.length:Int)>8)=decide (8<f.2.1.length):=by congr 1;rw[eq_iff_iff];omega
 have e64:decide ((f.2.2.length:Int)>64)=decide (64<f.2.2.length):=by congr 1;rw[eq_iff_iff];omega
 rw[e8,e64]
 unfold zFz
 cases c8:decide (8<f.2.1.length) with
 |true=>rfl
 |false=>
  simp only[jB,jG,j0,kY]
  cases c64:decide (64<f.2.2.length) with
  |true=>rfl
  |false=>
   simp only[jB,jG,kY]
   rw[hL,qTi (b:=(.inr true:Unit⊕Bool)) zFs (fun x=>rfl)]
   cases f.2.2.any zFs<;>rfl
theorem qZs{N:Nat}{f:Sr}(hf:SmSr f)(hN:3000000<N):qIn N f=some (qTd f):=by
 unfold qIn
 rw[show qKd N (f.1,f.2.1,f.2.2)=_ from zHw hf hN,show qKr N (f.1,f.2.1,f.2.2)=_ from zKv hf hN]
 simp only[j0]
 unfold qTd
 cases hs:synP f with
 |false=>rfl
 |true=>
  rw[show qLz N (f.1,f.2.1,f.2.2)=_ from zNg hf hs hN]
  simp only[kQ,jB,jG,j0,jH]
  cases zBr f<;>cases zFz f<;>rfl
end
section
open Go Go.Dc Go.Proofs
def lvH(h:Hd):Int:=if h.1=5 then 0 else if h.1=4 then(if h.2.2.1=6∨h.2.2.1=7 then 1 else if h.2.2.1=1∨h.2.2.1=2 then 2 else 3) else 4
def qOd(h:Hd)(k:Nat):Int:=if h.1=4 then(if k=0 then(if lvH h=1 then 2 else lvH h) else lvH h+1) else 0
def zHe:List (Int×ByteArray):=[(1,⟨#[43]⟩),(2,⟨#[45]⟩),(3,⟨#[42]⟩),(4,⟨#[47]⟩),(5,⟨#[37]⟩),(6,⟨#[60]⟩),(7,⟨#[61,61]⟩)]
def zKo(op:Int):ByteArray:=(qNa (some zHe) op).getD ⟨#[]⟩
def zEe:List (Int×ByteArray):=[(7,⟨#[115,105,122,101]⟩),(8,⟨#[104,97,115]⟩),(9,⟨#[101,110,118]⟩)]
def zGj(k:Int):ByteArray:=(qNa (some zEe) k).getD ⟨#[]⟩
def tI:List UInt8:=[105,102,32]
def tThen:List UInt8:=[32,116,104,101,110,32]
def tElse:List UInt8:=[32,101,108,115,101,32]
def sepK(k:Nat):List UInt8:=if k=0 then[] else[44,32]
def qWz:Nat→List (List UInt8)→List UInt8
 |_,[]=>[]
 |k,w::ws=>sepK k++(w++qWz (k+1) ws)
def qIs(ps:List ByteArray)(h:Hd)(ws:List (List UInt8)):List UInt8:=
 if h.1=1 then(itB h.2.1).data.toList
 else if h.1=2 then(ps.getD h.2.1.toNat ⟨#[]⟩).data.toList
 else if h.1=4 then ws.getD 0 []++((((⟨#[32]⟩:ByteArray)++zKo h.2.2.1)++(⟨#[32]⟩:ByteArray)).data.toList++ws.getD 1 [])
 else if h.1=5 then tI++(ws.getD 0 []++(tThen++(ws.getD 1 []++(tElse++ws.getD 2 []))))
 else if h.1=3 then(h.2.2.2++(⟨#[40]⟩:ByteArray)).data.toList++(qWz 0 ws++[41])
 else if h.1=6 then(((⟨#[114,101,97,100,40,34]⟩:ByteArray)++h.2.2.2)++(⟨#[34,44,32]⟩:ByteArray)).data.toList++(ws.getD 0 []++[41])
 else if h.1=10 then(((⟨#[102,108,105,112,40]⟩:ByteArray)++itB h.2.1)++(⟨#[41]⟩:ByteArray)).data.toList
 else(((zGj h.1++(⟨#[40,34]⟩:ByteArray))++h.2.2.2)++(⟨#[34,41]⟩:ByteArray)).data.toList
mutual
def Rose.wr(ps:List ByteArray)(need:Int):Rose→List UInt8
 | .mk h ks=>if lvH h<need then 40::(qIs ps h (wrs ps h 0 ks)++[41]) else qIs ps h (wrs ps h 0 ks)
def wrs(ps:List ByteArray)(h:Hd)(k:Nat):List Rose→List (List UInt8)
 |[]=>[]
 |t::l=>t.wr ps (qOd h k)::wrs ps h (k+1) l
end
mutual
def Rose.dep(need:Int)(d:Nat):Rose→Nat
 | .mk h ks=>max (if lvH h<need then d+1 else d) (deps h 0 (if h.1=4 then(if lvH h<need then d+1 else d) else(if lvH h<need then d+1 else d)+1) ks)
def deps(h:Hd)(k d:Nat):List Rose→Nat
 |[]=>0
 |t::l=>max (t.dep (qOd h k) d) (deps h (k+1) d l)
end
theorem zEw{N:Nat}(x:Ex):qJd N x=some (lvH (x.1,x.2.1,x.2.2.1,x.2.2.2.1)):=by
 unfold qJd qMb lvH
 by_cases h5:x.1=5
 ·simp[h5]
 by_cases h4:x.1=4
 ·by_cases o6:x.2.2.1=6
  ·simp[h4,o6]
  by_cases o7:x.2.2.1=7
  ·simp[h4,o7]
  by_cases o1:x.2.2.1=1
  ·simp[h4,o1]
  by_cases o2:x.2.2.1=2
  ·simp[h4,o2]
  simp[h4,o6,o7,o1,o2]
 simp[h5,h4]
theorem zKl{N:Nat}:qNy N=some (some zHe):=by kernel_rfl
theorem app1{l k:List UInt8}(h:l.length+k.length≤1000000000):qCm 1 l k=some (l++k):=qDe (by omega) (by decide)
theorem catW{x y:ByteArray}(h:x.size+y.size≤1000000000):catB x y=some (x++y):=by
 unfold catB
 rw[if_pos (Nat.le_trans h (by decide))]
theorem szl(x:ByteArray):x.data.toList.length=x.size:=by simp
theorem qSh(m d:Nat):(if(d:Int)>(m:Int) then(d:Int) else(m:Int))=((max m d:Nat):Int):=by
 split<;>omega
section
variable (N:Nat) (l:List Ex) (ps:List ByteArray)
def WrOk(t:Rose):Prop:=∀(D b:Nat) (buf:List UInt8) (s:Bool) (m d:Nat) (need:Int),AtT l b t→(∀x∈t.flat b,qMw (ps.length:Int) x=true)→2*t.size≤D→buf.length+(t.wr ps need).length≤1000000000→d+2*t.size≤100000000→0≤need→
 qEb N D ((s,buf),l,ps,(m:Int)) ((b+t.size-1:Nat):Int) need (d:Int)=some ((true,buf++t.wr ps need),l,ps,((max m (t.dep need d):Nat):Int))
variable {N l ps}
theorem qZx{h:Hd}{x1:Ex}{D d:Nat}(hN:3000000<N)(hx:x1.2.2.2.2.length<2000000)(hd:d<100000000):∀(ks:List Rose) (k b M m:Nat) (buf:List UInt8),(∀t∈ks,WrOk N l ps t)→x1.2.2.2.2.drop k=qDu b ks→k≤x1.2.2.2.2.length→AtTs l b ks→(∀x∈qHi b ks,qMw (ps.length:Int) x=true)→2*qBq ks≤D→h.1≠4→
  buf.length+(qWz k (wrs ps h k ks)).length≤1000000000→d+1+2*qBq ks≤100000000→ks.length<M→
  qAq (qFm N (qEb N D) (d:Int) x1) M ((k:Int),true,buf,l,ps,(m:Int))=some (true,buf++qWz k (wrs ps h k ks),l,ps,((max m (deps h k (d+1) ks):Nat):Int))
 |_,_,_,0,_,_,_,_,_,_,_,_,_,_,_,hM=>absurd hM (kI _)
 |[],k,b,M+1,m,buf,_,hr,hk,_,_,_,_,_,_,_=>by
  have hl:k=x1.2.2.2.2.length:=by
   have:=congrArg List.length hr
   rw[kH] at this
   simp only[qDu,jE] at this
   omega
  simp only[qAq,qFm]
  rw[if_neg (by simp only[jA];omega)]
  simp only[j0,wrs,qWz,f0,deps,fA]
 |t::ks,k,b,M+1,m,buf,hks,hr,hk,hat,hv,hD,h4,hb,hdd,hM=>by
  have hpos:=t.pos
  simp only[qBq] at hD hdd
  have hkl:k<x1.2.2.2.2.length:=by
   by_cases hh:k<x1.2.2.2.2.length
   ·exact hh
   ·rw[jR (by omega)] at hr;cases hr
  rw[qNh hkl] at hr
  obtain⟨hr1,hr2⟩:=List.cons.inj hr
  obtain⟨at1,at2⟩:=hat.head
  have hn:qOd h k=0:=by unfold qOd;rw[if_neg h4]
  simp only[wrs,qWz,hn] at hb ⊢
  simp only[jD] at hb
  have ew:IntKind.wrap .i64 ((k:Int)+1)=((k+1:Nat):Int):=by rw[wi64 (by omega) (by omega)];omega
  have ed:IntKind.wrap .i64 ((d:Int)+1)=((d+1:Nat):Int):=by rw[wi64 (by omega) (by omega)];omega
  simp only[qAq,qFm]
  rw[if_pos (by simp only[jA];omega),qDf hkl,hr1]
  have hsep:(if(decide ((k:Int)>0))=true then((qCm 1 buf ((⟨#[44,32]⟩:ByteArray).data.toList)).bind fun l8=>some (true,l8)) else(some (true,buf)):Option (Bool×List (UInt8)))=some (true,buf++sepK k):=by
   unfold sepK at hb ⊢
   by_cases h0:k=0
   ·subst h0
    rw[if_neg (by decide),if_pos rfl,f0]
   ·rw[if_neg h0] at hb
    rw[if_pos (by simp only[jA];omega),if_neg h0,app1 (by show buf.length+2≤_;simp only[jC,jE] at hb;omega)]
    rfl
  simp only[j0,hsep,ew,ed]
  rw[hks t (jN ..) D b (buf++sepK k) true m (d+1) 0 at1 (fun x hx=>hv x (by unfold qHi;exact k8 _ hx)) (by omega) (by rw[jD];omega) (by omega) (d8 0)]
  simp only[j0]
  rw[qZx hN hx hd ks (k+1) (b+t.size) M (max m (t.dep 0 (d+1))) ((buf++sepK k)++t.wr ps 0) (fun u hu=>hks u (jX _ hu)) hr2 (by omega) at2 (fun x hx=>hv x (by unfold qHi;exact kN _ hx)) (by omega) h4 (by simp only[jD];omega) (by omega) (by simp only[jC] at hM;omega)]
  simp only[jS,deps,hn,d6]
theorem qWy{np:Int}{x:Ex}(h:qMw np x=true):
  (x.1=1∧x.2.2.2.2.length=0∧-9007199254740992≤x.2.1∧x.2.1≤9007199254740992∧x.2.2.1=0∧x.2.2.2.1=emB)∨(x.1=2∧x.2.2.2.2.length=0∧0≤x.2.1∧x.2.1<np∧x.2.2.1=0∧x.2.2.2.1=emB)∨(x.1=3∧qIu x.2.2.2.1=true∧x.2.1=0∧x.2.2.1=0)∨(x.1=4∧x.2.2.2.2.length=2∧1≤x.2.2.1∧x.2.2.1≤7∧x.2.1=0∧x.2.2.2.1=emB)∨
  (x.1=5∧x.2.2.2.2.length=3∧x.2.1=0∧x.2.2.1=0∧x.2.2.2.1=emB)∨(x.1=6∧x.2.2.2.2.length=1∧qRb x.2.2.2.1.data.toList=true∧x.2.1=0∧x.2.2.1=0)∨((x.1=7∨x.1=8)∧x.2.2.2.2.length=0∧qRb x.2.2.2.1.data.toList=true∧x.2.1=0∧x.2.2.1=0)∨(x.1=9∧x.2.2.2.2.length=0∧qTl x.2.2.2.1=true∧x.2.1=0∧x.2.2.1=0)∨
  (x.1=10∧x.2.2.2.2.length=0∧0≤x.2.1∧x.2.1<64∧x.2.2.1=0∧x.2.2.2.1=emB):=by
 unfold qMw argN at h
 by_cases h1:x.1=1
 ·simp only[if_pos h1,jJ,jA,kA] at h
  exact .inl ⟨h1,by omega,h.2.2.2.1,h.2.2.2.2,h.2.1,h.1⟩
 rw[if_neg h1] at h
 by_cases h2:x.1=2
 ·simp only[if_pos h2,jJ,jA,kA] at h
  exact .inr (.inl ⟨h2,by omega,h.2.2.2.1,h.2.2.2.2,h.2.1,h.1⟩)
 rw[if_neg h2] at h
 by_cases h3:x.1=3
 ·simp only[if_pos h3,jJ,jA,kA] at h
  exact .inr (.inr (.inl ⟨h3,h.2.2,h.1,h.2.1⟩))
 rw[if_neg h3] at h
 by_cases h4:x.1=4
 ·simp only[if_pos h4,jJ,jA,kA] at h
  exact .inr (.inr (.inr (.inl ⟨h4,by omega,h.2.2.2.1,h.2.2.2.2,h.1,h.2.1⟩)))
 rw[if_neg h4] at h
 by_cases h5:x.1=5
 ·simp only[if_pos h5,jJ,jA,kA] at h
  exact .inr (.inr (.inr (.inr (.inl ⟨h5,by omega,h.1,h.2.2.1,h.2.1⟩))))
 rw[if_neg h5] at h
 by_cases h6:x.1=6
 ·simp only[if_pos h6,jJ,jA,kA] at h
  exact .inr (.inr (.inr (.inr (.inr (.inl ⟨h6,by omega,h.2.2.2,h.1,h.2.1⟩)))))
 rw[if_neg h6] at h
 by_cases h7:x.1=7∨x.1=8
 ·simp only[if_pos h7,jJ,jA,kA] at h
  exact .inr (.inr (.inr (.inr (.inr (.inr (.inl ⟨h7,by omega,h.2.2.2,h.1,h.2.1⟩))))))
 rw[if_neg h7] at h
 by_cases h9:x.1=9
 ·simp only[if_pos h9,jJ,jA,kA] at h
  exact .inr (.inr (.inr (.inr (.inr (.inr (.inr (.inl ⟨h9,by omega,h.2.2.2,h.1,h.2.1⟩)))))))
 rw[if_neg h9] at h
 by_cases h10:x.1=10
 ·simp only[if_pos h10,jJ,jA,kA] at h
  exact .inr (.inr (.inr (.inr (.inr (.inr (.inr (.inr ⟨h10,by omega,h.2.2.2.1,h.2.2.2.2,h.2.1,h.1⟩)))))))
 rw[if_neg h10] at h
 cases h
end
end
section
open Go Go.Dc Go.Proofs
section
variable {N:Nat} {l:List Ex} {ps:List ByteArray}
theorem len0{b:Nat}{ks:List Rose}(h:(qDu b ks).length=0):ks=[]:=by
 rw[qJa] at h
 exact fD.1 h
theorem len1{b:Nat}{ks:List Rose}(h:(qDu b ks).length=1):∃t,ks=[t]:=by
 rw[qJa] at h
 exact List.length_eq_one_iff.1 h
theorem len2{b:Nat}{ks:List Rose}(h:(qDu b ks).length=2):∃t u,ks=[t,u]:=by
 rw[qJa] at h
 match ks,h with
 |[t,u],_=>exact⟨t,u,rfl⟩
theorem len3{b:Nat}{ks:List Rose}(h:(qDu b ks).length=3):∃t u v,ks=[t,u,v]:=by
 rw[qJa] at h
 match ks,h with
 |[t,u,v],_=>exact⟨t,u,v,rfl⟩
theorem zGq{N:Nat}{n:Int}(h0: -9007199254740992≤n)(h1:n≤9007199254740992):strconv_Itoa N n=some (itB n):=by
 unfold strconv_Itoa zKp
 rw[if_pos ⟨by omega,by omega⟩]
theorem wm1:qKw (some []:Option (List (Int×ByteArray))) 7 (⟨#[115,105,122,101]⟩:ByteArray)=some (some [(7,⟨#[115,105,122,101]⟩)]):=by kernel_rfl
theorem wm2:qKw (some [(7,⟨#[115,105,122,101]⟩)]:Option (List (Int×ByteArray))) 8 (⟨#[104,97,115]⟩:ByteArray)=some (some [(7,⟨#[115,105,122,101]⟩),(8,⟨#[104,97,115]⟩)]):=by kernel_rfl
theorem wm3:qKw (some [(7,⟨#[115,105,122,101]⟩),(8,⟨#[104,97,115]⟩)]:Option (List (Int×ByteArray))) 9 (⟨#[101,110,118]⟩:ByteArray)=some (some zEe):=by kernel_rfl
theorem zHo{h:Hd}{ks:List Rose}(hN:3000000<N)(hks:∀t∈ks,WrOk N l ps t){D b m d:Nat}{buf:List UInt8}{s:Bool}{need:Int}(hat:AtT l b (.mk h ks))(hv:∀x∈(Rose.mk h ks).flat b,qMw (ps.length:Int) x=true)(hD:2*qBq ks≤D)
  (hb:buf.length+(qIs ps h (wrs ps h 0 ks)).length≤1000000000) (hd:d+(2*qBq ks+1)≤100000000) (hl:¬lvH h<need) (hsz:ks.length<2000000):
  qEb N (D+1) ((s,buf),l,ps,(m:Int)) ((b+qBq ks:Nat):Int) need (d:Int)=some ((true,buf++qIs ps h (wrs ps h 0 ks)),l,ps,((max m (max d (deps h 0 (if h.1=4 then d else d+1) ks)):Nat):Int)):=by
 obtain⟨hn,hats⟩:=hat.args
 have hn:l[b+qBq ks]? =some (h.1,h.2.1,h.2.2.1,h.2.2.2,qDu b ks):=hn
 have hnode:qMw (ps.length:Int) (h.1,h.2.1,h.2.2.1,h.2.2.2,qDu b ks)=true:=hv (qLt h (qDu b ks)) (by unfold Rose.flat;exact kN _ (jN ..))
 have hvk:∀x∈qHi b ks,qMw (ps.length:Int) x=true:=fun x hx=>hv x (by unfold Rose.flat;exact k8 _ hx)
 have ed:IntKind.wrap .i64 ((d:Int)+1)=((d+1:Nat):Int):=by rw[wi64 (by omega) (by omega)];omega
 show qEu N (qEb N D) _ _ _ _=_
 unfold qEu
 dsimp only
 rw[qWk hn]
 simp only[j0]
 rw[show qJd N (h.1,h.2.1,h.2.2.1,h.2.2.2,qDu b ks)=some (lvH h) from zEw _]
 simp only[j0]
 rw[if_neg (by simpa using hl)]
 rcases qWy hnode with ⟨k,a,n0,n1,-,-⟩|⟨k,a,n0,n1,-,-⟩|⟨k,a,-,-⟩|⟨k,a,n0,n1,-,-⟩|⟨k,a,-,-,-⟩|⟨k,a,n0,-,-⟩|⟨k,a,n0,-,-⟩|⟨k,a,n0,-,-⟩|⟨k,a,n0,n1,-,-⟩
 all_goals dsimp only at k a
 ·obtain rfl:=len0 a
  have eb:qIs ps h (wrs ps h 0 [])=(itB h.2.1).data.toList:=by unfold qIs;rw[if_pos k]
  rw[eb] at hb ⊢
  dsimp only at n0 n1
  rw[if_pos (by simpa using k),zGq n0 n1]
  simp only[j0]
  rw[app1 hb]
  simp only[j0,qSh,deps,fA]
 ·obtain rfl:=len0 a
  dsimp only at n0 n1
  have k1:h.1≠1:=by omega
  have eb:qIs ps h (wrs ps h 0 [])=(ps.getD h.2.1.toNat ⟨#[]⟩).data.toList:=by unfold qIs;rw[if_neg k1,if_pos k]
  rw[eb] at hb ⊢
  have hlt:h.2.1.toNat<ps.length:=by omega
  rw[if_neg (by simpa using k1),if_pos (by simpa using k),qUh n0 hlt]
  simp only[j0]
  have e:ps.getD h.2.1.toNat ⟨#[]⟩=ps[h.2.1.toNat]:=by rw[kV,List.getElem?_eq_getElem hlt];rfl
  rw[e] at hb ⊢
  rw[app1 hb]
  simp only[j0,qSh,deps,fA]
 ·have k1:h.1≠1:=by omega
  have k2:h.1≠2:=by omega
  have k4:h.1≠4:=by omega
  have k5:h.1≠5:=by omega
  have eb:qIs ps h (wrs ps h 0 ks)=(h.2.2.2++(⟨#[40]⟩:ByteArray)).data.toList++(qWz 0 (wrs ps h 0 ks)++[41]):=by unfold qIs;rw[if_neg k1,if_neg k2,if_neg k4,if_neg k5,if_pos k]
  rw[eb] at hb ⊢
  rw[if_neg (by simpa using k1),if_neg (by simpa using k2),if_neg (by simpa using k4),if_neg (by simpa using k5),if_pos (by simpa using k)]
  simp only[jD,szl,ByteArray.size_append,jC,jE] at hb
  have hs1:(⟨#[40]⟩:ByteArray).size=1:=rfl
  rw[catW (by omega)]
  simp only[j0]
  rw[app1 (by rw[szl,ByteArray.size_append];omega)]
  simp only[j0,qSh]
  have hcl:=qZx (N:=N) (l:=l) (ps:=ps) (h:=h) (x1:=(h.1,h.2.1,h.2.2.1,h.2.2.2,qDu b ks)) (D:=D) (d:=d) hN (by show(qDu b ks).length<_;rw[qJa];exact hsz) (by omega) ks 0 b N (max m d) (buf++(h.2.2.2++(⟨#[40]⟩:ByteArray)).data.toList) hks rfl (kM _) hats hvk hD k4
   (by simp only[jD,szl,ByteArray.size_append];omega) (by omega) (by omega)
  rw[show((0:Nat):Int)=0 from rfl] at hcl
  rw[hcl]
  simp only[j0]
  rw[app1 (by simp only[jD,szl,ByteArray.size_append,jC,jE];omega)]
  simp only[j0,jS,if_neg k4,d6]
 ·obtain⟨t,u,rfl⟩:=len2 a
  have k1:h.1≠1:=by omega
  have k2:h.1≠2:=by omega
  simp only[qBq,gE] at hD hd hvk
  obtain⟨at1,atr⟩:=hats.head
  obtain⟨at2,-⟩:=atr.head
  have hl1:1≤lvH h∧lvH h≤3:=by
   unfold lvH
   rw[if_neg (show h.1≠5 by omega),if_pos k]
   split<;>(try split)<;>omega
  have hn0:qOd h 0=if lvH h=1 then 2 else lvH h:=by unfold qOd;rw[if_pos k,if_pos rfl]
  have hn1:qOd h 1=lvH h+1:=by unfold qOd;rw[if_pos k,if_neg (by decide)]
  have eb:qIs ps h (wrs ps h 0 [t,u])=t.wr ps (qOd h 0)++((((⟨#[32]⟩:ByteArray)++zKo h.2.2.1)++(⟨#[32]⟩:ByteArray)).data.toList++u.wr ps (qOd h 1)):=by unfold qIs;rw[if_neg k1,if_neg k2,if_pos k];rfl
  rw[eb] at hb ⊢
  rw[if_neg (by simpa using k1),if_neg (by simpa using k2),if_pos (by simpa using k)]
  have hneed:(if(lvH h==1)=true then(some (IntKind.wrap .i64 (lvH h+1))) else(some (lvH h)):Option (Int))=some (qOd h 0):=by
   rw[hn0]
   by_cases e:lvH h=1
   ·rw[if_pos (by simpa using e),if_pos e,wi64 (by omega) (by omega),e];rfl
   ·rw[if_neg (by simpa using e),if_neg e]
  have w1:IntKind.wrap .i64 (lvH h+1)=qOd h 1:=by rw[hn1,wi64 (by omega) (by omega)]
  have i0:idx (qDu b [t,u]) 0=some ((b+t.size-1:Nat):Int):=rfl
  have i1:idx (qDu b [t,u]) 1=some ((b+t.size+u.size-1:Nat):Int):=rfl
  simp only[j0,hneed,i0,i1,qSh]
  rw[w1]
  simp only[jD,szl,ByteArray.size_append] at hb
  have hs1:(⟨#[32]⟩:ByteArray).size=1:=rfl
  have hp1:=t.pos
  have hp2:=u.pos
  have q0:0≤qOd h 0:=by rw[hn0];split<;>omega
  have q1:0≤qOd h 1:=by rw[hn1];omega
  rw[hks t (jN ..) D b buf s (max m d) d (qOd h 0) at1 (fun x hx=>hvk x (by unfold qHi;exact k8 _ hx)) (by omega) (by omega) (by omega) q0]
  simp only[j0,zKl]
  rw[show(qNa (some zHe) h.2.2.1).getD (⟨#[]⟩:ByteArray)=zKo h.2.2.1 from rfl,catW (by omega)]
  simp only[j0]
  rw[catW (by rw[ByteArray.size_append];omega)]
  simp only[j0]
  rw[app1 (by simp only[jD,szl,ByteArray.size_append];omega)]
  simp only[j0]
  rw[hks u (jX _ (jN ..)) D (b+t.size) _ true _ d (qOd h 1) at2 (fun x hx=>hvk x (by unfold qHi;refine kN _ ?_;unfold qHi;exact k8 _ hx)) (by omega) (by simp only[jD,szl,ByteArray.size_append];omega) (by omega) q1]
  simp only[j0,jS,if_pos k,deps,fA,d6]
 ·obtain⟨t,u,v,rfl⟩:=len3 a
  have k1:h.1≠1:=by omega
  have k2:h.1≠2:=by omega
  have k4:h.1≠4:=by omega
  simp only[qBq,gE] at hD hd hvk
  obtain⟨at1,atr⟩:=hats.head
  obtain⟨at2,atr⟩:=atr.head
  obtain⟨at3,-⟩:=atr.head
  have hnd:∀j,qOd h j=0:=fun j=>by unfold qOd;rw[if_neg k4]
  have eb:qIs ps h (wrs ps h 0 [t,u,v])=tI++(t.wr ps 0++(tThen++(u.wr ps 0++(tElse++v.wr ps 0)))):=by
   unfold qIs;rw[if_neg k1,if_neg k2,if_neg k4,if_pos k]
   simp only[wrs,hnd];rfl
  rw[eb] at hb ⊢
  rw[if_neg (by simpa using k1),if_neg (by simpa using k2),if_neg (by simpa using k4),if_pos (by simpa using k)]
  have hp1:=t.pos
  have hp2:=u.pos
  have hp3:=v.pos
  have l1:tI.length=3:=rfl
  have l2:tThen.length=6:=rfl
  have l3:tElse.length=6:=rfl
  simp only[jD] at hb
  obtain⟨M,rfl⟩:∃M,N=M+4:=⟨N-4,by omega⟩
  have i0:idx (qDu b [t,u,v]) 0=some ((b+t.size-1:Nat):Int):=rfl
  have i1:idx (qDu b [t,u,v]) 1=some ((b+t.size+u.size-1:Nat):Int):=rfl
  have i2:idx (qDu b [t,u,v]) 2=some ((b+t.size+u.size+v.size-1:Nat):Int):=rfl
  have a0:∀L:List UInt8,L.length+3≤1000000000→qCm 1 L [105,102,32]=some (L++tI):=fun L h=>app1 h
  have a1:∀L:List UInt8,L.length+6≤1000000000→qCm 1 L [32,116,104,101,110,32]=some (L++tThen):=fun L h=>app1 h
  have a2:∀L:List UInt8,L.length+6≤1000000000→qCm 1 L [32,101,108,115,101,32]=some (L++tElse):=fun L h=>app1 h
  have w0:IntKind.wrap .i64 ((0:Int)+1)=1:=by decide
  have w1:IntKind.wrap .i64 ((1:Int)+1)=2:=by decide
  have w2:IntKind.wrap .i64 ((2:Int)+1)=3:=by decide
  have s0:idx ([(⟨#[105,102,32]⟩:ByteArray),(⟨#[32,116,104,101,110,32]⟩:ByteArray),(⟨#[32,101,108,115,101,32]⟩:ByteArray)]) 0=some ⟨#[105,102,32]⟩:=rfl
  have s1:idx ([(⟨#[105,102,32]⟩:ByteArray),(⟨#[32,116,104,101,110,32]⟩:ByteArray),(⟨#[32,101,108,115,101,32]⟩:ByteArray)]) 1=some ⟨#[32,116,104,101,110,32]⟩:=rfl
  have s2:idx ([(⟨#[105,102,32]⟩:ByteArray),(⟨#[32,116,104,101,110,32]⟩:ByteArray),(⟨#[32,101,108,115,101,32]⟩:ByteArray)]) 2=some ⟨#[32,101,108,115,101,32]⟩:=rfl
  have c0:decide ((0:Int)<(List.length ([(⟨#[105,102,32]⟩:ByteArray),(⟨#[32,116,104,101,110,32]⟩:ByteArray),(⟨#[32,101,108,115,101,32]⟩:ByteArray)]):Int))=true:=by decide
  have c1:decide ((1:Int)<(List.length ([(⟨#[105,102,32]⟩:ByteArray),(⟨#[32,116,104,101,110,32]⟩:ByteArray),(⟨#[32,101,108,115,101,32]⟩:ByteArray)]):Int))=true:=by decide
  have c2:decide ((2:Int)<(List.length ([(⟨#[105,102,32]⟩:ByteArray),(⟨#[32,116,104,101,110,32]⟩:ByteArray),(⟨#[32,101,108,115,101,32]⟩:ByteArray)]):Int))=true:=by decide
  have c3:decide ((3:Int)<(List.length ([(⟨#[105,102,32]⟩:ByteArray),(⟨#[32,116,104,101,110,32]⟩:ByteArray),(⟨#[32,101,108,115,101,32]⟩:ByteArray)]):Int))=false:=by decide
  simp only[qAq,qIl,c0,jH,s0,j0,i0,ed,qSh]
  rw[a0 _ (by omega)]
  simp only[j0]
  rw[hks t (by simp) D b (buf++tI) true (max m d) (d+1) 0 at1 (fun x hx=>hvk x (by unfold qHi;exact k8 _ hx)) (by omega) (by rw[jD];omega) (by omega) (d8 0)]
  simp only[j0,w0,c1,jH,s1,i1]
  rw[a1 _ (by simp only[jD];omega)]
  simp only[j0]
  rw[hks u (by simp) D (b+t.size) _ true _ (d+1) 0 at2 (fun x hx=>hvk x (by unfold qHi;refine kN _ ?_;unfold qHi;exact k8 _ hx)) (by omega) (by simp only[jD];omega) (by omega) (d8 0)]
  simp only[j0,w1,c2,jH,s2,i2]
  rw[a2 _ (by simp only[jD];omega)]
  simp only[j0]
  rw[hks v (by simp) D (b+t.size+u.size) _ true _ (d+1) 0 at3 (fun x hx=>hvk x (by unfold qHi;refine kN _ ?_;unfold qHi;refine kN _ ?_;unfold qHi;exact k8 _ hx)) (by omega) (by simp only[jD];omega) (by omega) (d8 0)]
  simp only[j0,w2,c3,jB,jG,jS,if_neg k4,deps,hnd,fA,d6]
 ·obtain⟨t,rfl⟩:=len1 a
  have k1:h.1≠1:=by omega
  have k2:h.1≠2:=by omega
  have k4:h.1≠4:=by omega
  have k5:h.1≠5:=by omega
  have k3:h.1≠3:=by omega
  simp only[qBq,gE] at hD hd hvk
  obtain⟨at1,-⟩:=hats.head
  have hnd:∀j,qOd h j=0:=fun j=>by unfold qOd;rw[if_neg k4]
  have eb:qIs ps h (wrs ps h 0 [t])=(((⟨#[114,101,97,100,40,34]⟩:ByteArray)++h.2.2.2)++(⟨#[34,44,32]⟩:ByteArray)).data.toList++(t.wr ps 0++[41]):=by
   unfold qIs;rw[if_neg k1,if_neg k2,if_neg k4,if_neg k5,if_neg k3,if_pos k]
   simp only[wrs,hnd];rfl
  rw[eb] at hb ⊢
  rw[if_neg (by simpa using k1),if_neg (by simpa using k2),if_neg (by simpa using k4),if_neg (by simpa using k5),if_neg (by simpa using k3),if_pos (by simpa using k)]
  have hp1:=t.pos
  have i0:idx (qDu b [t]) 0=some ((b+t.size-1:Nat):Int):=rfl
  have z1:(⟨#[114,101,97,100,40,34]⟩:ByteArray).size=6:=rfl
  have z2:(⟨#[34,44,32]⟩:ByteArray).size=3:=rfl
  simp only[jD,szl,ByteArray.size_append,jC,jE] at hb
  rw[catW (by omega)]
  simp only[j0]
  rw[catW (by rw[ByteArray.size_append];omega)]
  simp only[j0]
  rw[app1 (by simp only[szl,ByteArray.size_append];omega)]
  simp only[j0,i0,ed,qSh]
  rw[hks t (by simp) D b _ true (max m d) (d+1) 0 at1 (fun x hx=>hvk x (by unfold qHi;exact k8 _ hx)) (by omega) (by simp only[jD,szl,ByteArray.size_append];omega) (by omega) (d8 0)]
  simp only[j0]
  rw[app1 (by simp only[jD,szl,ByteArray.size_append,jC,jE];omega)]
  simp only[j0,jS,if_neg k4,deps,hnd,fA,d6]
 all_goals obtain rfl:=len0 a
 ·have k1:h.1≠1:=by omega
  have k2:h.1≠2:=by omega
  have k4:h.1≠4:=by omega
  have k5:h.1≠5:=by omega
  have k3:h.1≠3:=by omega
  have k6:h.1≠6:=by omega
  have k10:h.1≠10:=by omega
  have eb:qIs ps h (wrs ps h 0 [])=(((zGj h.1++(⟨#[40,34]⟩:ByteArray))++h.2.2.2)++(⟨#[34,41]⟩:ByteArray)).data.toList:=by
   unfold qIs;rw[if_neg k1,if_neg k2,if_neg k4,if_neg k5,if_neg k3,if_neg k6,if_neg k10]
  rw[eb] at hb ⊢
  rw[if_neg (by simpa using k1),if_neg (by simpa using k2),if_neg (by simpa using k4),if_neg (by simpa using k5),if_neg (by simpa using k3),if_neg (by simpa using k6),if_neg (by simpa using k10)]
  simp only[szl,ByteArray.size_append] at hb
  have z1:(⟨#[40,34]⟩:ByteArray).size=2:=rfl
  have z2:(⟨#[34,41]⟩:ByteArray).size=2:=rfl
  simp only[wm1,wm2,wm3,j0]
  rw[show(qNa (some zEe) h.1).getD (⟨#[]⟩:ByteArray)=zGj h.1 from rfl,catW (by omega)]
  simp only[j0]
  rw[catW (by rw[ByteArray.size_append];omega)]
  simp only[j0]
  rw[catW (by rw[ByteArray.size_append,ByteArray.size_append];omega)]
  simp only[j0]
  rw[app1 (by simp only[szl,ByteArray.size_append];omega)]
  simp only[j0,qSh,deps,fA]
 ·have k1:h.1≠1:=by omega
  have k2:h.1≠2:=by omega
  have k4:h.1≠4:=by omega
  have k5:h.1≠5:=by omega
  have k3:h.1≠3:=by omega
  have k6:h.1≠6:=by omega
  have k10:h.1≠10:=by omega
  have eb:qIs ps h (wrs ps h 0 [])=(((zGj h.1++(⟨#[40,34]⟩:ByteArray))++h.2.2.2)++(⟨#[34,41]⟩:ByteArray)).data.toList:=by
   unfold qIs;rw[if_neg k1,if_neg k2,if_neg k4,if_neg k5,if_neg k3,if_neg k6,if_neg k10]
  rw[eb] at hb ⊢
  rw[if_neg (by simpa using k1),if_neg (by simpa using k2),if_neg (by simpa using k4),if_neg (by simpa using k5),if_neg (by simpa using k3),if_neg (by simpa using k6),if_neg (by simpa using k10)]
  simp only[szl,ByteArray.size_append] at hb
  have z1:(⟨#[40,34]⟩:ByteArray).size=2:=rfl
  have z2:(⟨#[34,41]⟩:ByteArray).size=2:=rfl
  simp only[wm1,wm2,wm3,j0]
  rw[show(qNa (some zEe) h.1).getD (⟨#[]⟩:ByteArray)=zGj h.1 from rfl,catW (by omega)]
  simp only[j0]
  rw[catW (by rw[ByteArray.size_append];omega)]
  simp only[j0]
  rw[catW (by rw[ByteArray.size_append,ByteArray.size_append];omega)]
  simp only[j0]
  rw[app1 (by simp only[szl,ByteArray.size_append];omega)]
  simp only[j0,qSh,deps,fA]
 ·have k1:h.1≠1:=by omega
  have k2:h.1≠2:=by omega
  have k4:h.1≠4:=by omega
  have k5:h.1≠5:=by omega
  have k3:h.1≠3:=by omega
  have k6:h.1≠6:=by omega
  dsimp only at n0 n1
  have eb:qIs ps h (wrs ps h 0 [])=(((⟨#[102,108,105,112,40]⟩:ByteArray)++itB h.2.1)++(⟨#[41]⟩:ByteArray)).data.toList:=by
   unfold qIs;rw[if_neg k1,if_neg k2,if_neg k4,if_neg k5,if_neg k3,if_neg k6,if_pos k]
  rw[eb] at hb ⊢
  rw[if_neg (by simpa using k1),if_neg (by simpa using k2),if_neg (by simpa using k4),if_neg (by simpa using k5),if_neg (by simpa using k3),if_neg (by simpa using k6),if_pos (by simpa using k),zGq (by omega) (by omega)]
  simp only[szl,ByteArray.size_append] at hb
  simp only[j0]
  rw[catW (by omega)]
  simp only[j0]
  rw[catW (by rw[ByteArray.size_append];omega)]
  simp only[j0]
  rw[app1 (by simp only[szl,ByteArray.size_append];omega)]
  simp only[j0,qSh,deps,fA]
theorem zNb{h:Hd}{ks:List Rose}(hN:3000000<N)(hks:∀t∈ks,WrOk N l ps t)(hsz:ks.length<2000000):WrOk N l ps (.mk h ks):=by
 intro D b buf s m d need hat hv hD hb hd hneed
 simp only[Rose.size] at hD hd ⊢
 rw[show b+(qBq ks+1)-1=b+qBq ks by omega]
 simp only[Rose.wr,Rose.dep] at hb ⊢
 by_cases hl:lvH h<need
 ·rw[if_pos hl] at hb ⊢
  simp only[if_pos hl]
  simp only[jC,jD,jE] at hb
  obtain⟨D,rfl⟩:∃D',D=D'+2:=⟨D-2,by omega⟩
  have hlv:¬lvH h<0:=by
   unfold lvH
   split
   ·omega
   ·split
    ·split
     ·omega
     ·split<;>omega
    ·omega
  obtain⟨hn,-⟩:=hat.args
  have hn:l[b+qBq ks]? =some (h.1,h.2.1,h.2.2.1,h.2.2.2,qDu b ks):=hn
  have ed:IntKind.wrap .i64 ((d:Int)+1)=((d+1:Nat):Int):=by rw[wi64 (by omega) (by omega)];omega
  show qEu N (qEb N (D+1)) _ _ _ _=_
  unfold qEu
  dsimp only
  rw[qWk hn]
  simp only[j0]
  rw[show qJd N (h.1,h.2.1,h.2.2.1,h.2.2.2,qDu b ks)=some (lvH h) from zEw _]
  simp only[j0]
  rw[if_pos (by simpa using hl),app1 (by simp only[jC,jE];omega)]
  simp only[j0,ed]
  rw[zHo hN hks hat hv (by omega) (by simp only[jD,jC,jE];omega) (by omega) hlv hsz]
  simp only[j0]
  rw[app1 (by simp only[jD,jC,jE];omega)]
  simp only[j0,jS,gH,kK]
 ·rw[if_neg hl] at hb ⊢
  simp only[if_neg hl]
  obtain⟨D,rfl⟩:∃D',D=D'+1:=⟨D-1,by omega⟩
  exact zHo hN hks hat hv (by omega) hb (by omega) hl hsz
end
mutual
theorem wr_ok{N:Nat}{l:List Ex}{ps:List ByteArray}(hN:3000000<N)(t:Rose)(hsz:t.size<2000000):WrOk N l ps t:=by
 match t with
 | .mk h ks=>
  have hs:qBq ks<2000000:=by simp only[Rose.size] at hsz;omega
  exact zNb hN (zLs hN ks hs) (by have:=qTr ks;omega)
theorem zLs{N:Nat}{l:List Ex}{ps:List ByteArray}(hN:3000000<N)(ks:List Rose)(hsz:qBq ks<2000000):∀t∈ks,WrOk N l ps t:=by
 match ks with
 |[]=>intro t h;cases h
 |t::ks=>
  have h1:t.size<2000000:=by simp only[qBq] at hsz;omega
  have h2:qBq ks<2000000:=by simp only[qBq] at hsz;omega
  have i1:=wr_ok (l:=l) (ps:=ps) hN t h1
  have i2:=zLs (l:=l) (ps:=ps) hN ks h2
  intro u hu
  rcases jM.1 hu with rfl|hu
  ·exact i1
  ·exact i2 u hu
end
end
section
open Go Go.Dc
end
section
open Go Go.Dc Go.Proofs
theorem zKm{n:Nat}(h:¬n<10):Lib.decDigits n=Lib.decDigits (n/10)++[UInt8.ofNat (48+n%10)]:=by rw[Lib.decDigits,dif_neg h]
theorem dec_ne(n:Nat):Lib.decDigits n≠[]:=by
 intro h
 have:=Lib.decDigits_length n
 rw[h] at this
 have:=Lib.nDigits_pos n
 simp only[jE] at*;omega
theorem zDl:∀(k n:Nat),n<10^(k+1)→(Lib.decDigits n).length≤k+1
 |0,n,h=>by rw[Lib.decDigits_one (by simpa using h)];exact jK _
 |k+1,n,h=>by
  by_cases h10:n<10
  ·rw[Lib.decDigits_one h10];simp
  ·rw[Nat.pow_succ] at h
   have:=zDl k (n/10) (by omega)
   rw[zKm h10,jD,gM];omega
theorem zLm(n:Nat):(itB (n:Int)).data.toList=Lib.decDigits n:=by
 unfold itB Lib.itoa
 rw[if_neg (by omega),jL]
theorem ba_ext{x y:ByteArray}(h:x.data.toList=y.data.toList):x=y:=ByteArray.ext (Array.ext' h)
theorem qSs(x y:ByteArray):(x++y).data.toList=x.data.toList++y.data.toList:=by
 rw[ByteArray.data_append,Array.toList_append]
end
section
open Go Go.Dc Go.Proofs
theorem zBc{s:ByteArray}(h:qTl s=true):s.size≤24:=by
 have:=(gJ h).2.1
 rw[szl] at this;exact this
theorem zBf{s:ByteArray}(h:qRb s.data.toList=true):s.size≤80:=by
 have:s.data.toList.length≤80:=(gJ h).1
 rw[szl] at this;exact this
theorem qQz{s:ByteArray}(h:qIu s=true):s.size≤24:=by
 unfold qIu at h
 rw[jJ] at h
 exact zBc h.1
theorem zJw{op:Int}(h0:1≤op)(h1:op≤7):(zKo op).size≤2:=by
 rcases(by omega:op=1∨op=2∨op=3∨op=4∨op=5∨op=6∨op=7) with rfl|rfl|rfl|rfl|rfl|rfl|rfl<;>decide+kernel
theorem zAq{k:Int}(h:k=7∨k=8∨k=9):(zGj k).size≤4:=by
 rcases h with rfl|rfl|rfl<;>decide+kernel
theorem zGo{n:Int}(h0: -9007199254740992≤n)(h1:n≤9007199254740992):(itB n).size≤17:=by
 rw[←szl]
 show(Lib.itoa n).length≤17
 unfold Lib.itoa
 split
 ·have:=zDl 15 n.natAbs (by omega)
  simp only[jC];omega
 ·have:=zDl 15 n.toNat (by omega)
  omega
def lens(ws:List (List UInt8)):Nat:=(ws.map fun w=>w.length+2).sum
theorem zAm:∀(ws:List (List UInt8)) (k:Nat),(qWz k ws).length≤lens ws
 |[],_=>kM _
 |w::ws,k=>by
  have ih:=zAm ws (k+1)
  have hs:(sepK k).length≤2:=by unfold sepK;split<;>simp
  unfold lens at*
  simp only[qWz,jD,k9,d7];omega
theorem zKg{ps:List ByteArray}{h:Hd}{ks:List Rose}{b:Nat}(hps:∀s∈ps,s.size≤24)(hn:qMw (ps.length:Int) (qLt h (qDu b ks))=true):(qIs ps h (wrs ps h 0 ks)).length≤100+lens (wrs ps h 0 ks):=by
 rcases qWy hn with ⟨k,a,n0,n1,-,-⟩|⟨k,a,n0,n1,-,-⟩|⟨k,a,-,-⟩|⟨k,a,n0,n1,-,-⟩|⟨k,a,-,-,-⟩|⟨k,a,n0,-,-⟩|⟨k,a,n0,-,-⟩|⟨k,a,n0,-,-⟩|⟨k,a,n0,n1,-,-⟩
 all_goals (try simp only[qLt] at k)<;>(try simp only[qLt] at a)
 ·have:(itB h.2.1).size≤17:=zGo n0 n1
  unfold qIs
  rw[if_pos k,szl];omega
 ·have k1:h.1≠1:=by omega
  try simp only[qLt] at n0 n1
  have hlt:h.2.1.toNat<ps.length:=by omega
  have e:ps.getD h.2.1.toNat ⟨#[]⟩=ps[h.2.1.toNat]:=by rw[kV,List.getElem?_eq_getElem hlt];rfl
  have:=hps _ (kO hlt)
  unfold qIs
  rw[if_neg k1,if_pos k,e,szl];omega
 ·have k1:h.1≠1:=by omega
  have k2:h.1≠2:=by omega
  have k4:h.1≠4:=by omega
  have k5:h.1≠5:=by omega
  have h1:=qQz a
  have h2:=zAm (wrs ps h 0 ks) 0
  have z1:(⟨#[40]⟩:ByteArray).size=1:=rfl
  unfold qIs
  rw[if_neg k1,if_neg k2,if_neg k4,if_neg k5,if_pos k]
  try simp only[qLt] at h1
  simp only[jD,szl,ByteArray.size_append,jC,jE];omega
 ·obtain⟨t,u,rfl⟩:=len2 a
  have k1:h.1≠1:=by omega
  have k2:h.1≠2:=by omega
  have h1:=zJw n0 n1
  have z1:(⟨#[32]⟩:ByteArray).size=1:=rfl
  try simp only[qLt] at h1
  unfold qIs
  rw[if_neg k1,if_neg k2,if_pos k]
  simp only[wrs,lens,k9,List.map_nil,d7,List.sum_nil,List.getD_cons_zero,List.getD_cons_succ,jD,szl,ByteArray.size_append];omega
 ·obtain⟨t,u,v,rfl⟩:=len3 a
  have k1:h.1≠1:=by omega
  have k2:h.1≠2:=by omega
  have k4:h.1≠4:=by omega
  have l1:tI.length=3:=rfl
  have l2:tThen.length=6:=rfl
  have l3:tElse.length=6:=rfl
  unfold qIs
  rw[if_neg k1,if_neg k2,if_neg k4,if_pos k]
  simp only[wrs,lens,k9,List.map_nil,d7,List.sum_nil,List.getD_cons_zero,List.getD_cons_succ,jD];omega
 ·obtain⟨t,rfl⟩:=len1 a
  have k1:h.1≠1:=by omega
  have k2:h.1≠2:=by omega
  have k4:h.1≠4:=by omega
  have k5:h.1≠5:=by omega
  have k3:h.1≠3:=by omega
  have h1:=zBf n0
  have z1:(⟨#[114,101,97,100,40,34]⟩:ByteArray).size=6:=rfl
  have z2:(⟨#[34,44,32]⟩:ByteArray).size=3:=rfl
  try simp only[qLt] at h1
  unfold qIs
  rw[if_neg k1,if_neg k2,if_neg k4,if_neg k5,if_neg k3,if_pos k]
  simp only[wrs,lens,k9,List.map_nil,d7,List.sum_nil,List.getD_cons_zero,jD,szl,ByteArray.size_append,jC,jE];omega
 all_goals obtain rfl:=len0 a
 all_goals have k1:h.1≠1:=by omega
 all_goals have k2:h.1≠2:=by omega
 all_goals have k4:h.1≠4:=by omega
 all_goals have k5:h.1≠5:=by omega
 all_goals have k3:h.1≠3:=by omega
 all_goals have k6:h.1≠6:=by omega
 ·have k10:h.1≠10:=by omega
  have h1:=zBf n0
  have h2:=zAq (k:=h.1) (by omega)
  have z1:(⟨#[40,34]⟩:ByteArray).size=2:=rfl
  have z2:(⟨#[34,41]⟩:ByteArray).size=2:=rfl
  try simp only[qLt] at h1
  unfold qIs
  rw[if_neg k1,if_neg k2,if_neg k4,if_neg k5,if_neg k3,if_neg k6,if_neg k10]
  simp only[szl,ByteArray.size_append];omega
 ·have k10:h.1≠10:=by omega
  have h1:=zBc n0
  have h2:=zAq (k:=h.1) (by omega)
  have z1:(⟨#[40,34]⟩:ByteArray).size=2:=rfl
  have z2:(⟨#[34,41]⟩:ByteArray).size=2:=rfl
  try simp only[qLt] at h1
  unfold qIs
  rw[if_neg k1,if_neg k2,if_neg k4,if_neg k5,if_neg k3,if_neg k6,if_neg k10]
  simp only[szl,ByteArray.size_append];omega
 ·try simp only[qLt] at n0 n1
  have h1:=zGo (n:=h.2.1) (by omega) (by omega)
  have z1:(⟨#[102,108,105,112,40]⟩:ByteArray).size=5:=rfl
  have z2:(⟨#[41]⟩:ByteArray).size=1:=rfl
  unfold qIs
  rw[if_neg k1,if_neg k2,if_neg k4,if_neg k5,if_neg k3,if_neg k6,if_pos k]
  simp only[szl,ByteArray.size_append];omega
mutual
theorem zLu{ps:List ByteArray}(hps:∀s∈ps,s.size≤24)(t:Rose)(b:Nat)(need:Int)(hv:∀x∈t.flat b,qMw (ps.length:Int) x=true):(t.wr ps need).length+2≤110*t.size:=by
 match t with
 | .mk h ks=>
  have h1:=zJx hps ks h 0 b (fun x hx=>hv x (by unfold Rose.flat;exact k8 _ hx))
  have h2:=zKg (b:=b) hps (hv (qLt h (qDu b ks)) (by unfold Rose.flat;exact kN _ (jN ..)))
  simp only[Rose.wr,Rose.size]
  split
  ·simp only[jC,jD,jE];omega
  ·omega
theorem zJx{ps:List ByteArray}(hps:∀s∈ps,s.size≤24)(l:List Rose)(h:Hd)(k b:Nat)(hv:∀x∈qHi b l,qMw (ps.length:Int) x=true):lens (wrs ps h k l)≤110*qBq l:=by
 match l with
 |[]=>exact kM _
 |t::l=>
  have h1:=zLu hps t b (qOd h k) (fun x hx=>hv x (by unfold qHi;exact k8 _ hx))
  have h2:=zJx hps l h (k+1) (b+t.size) (fun x hx=>hv x (by unfold qHi;exact kN _ hx))
  simp only[wrs,lens,k9,d7,qBq] at*
  omega
end
def wrD(d:Dl):List UInt8:=match zHi d.2.2.2 with
 |some t=>t.wr d.2.2.1 0
 |none=>[]
def depD(d:Dl):Nat:=match zHi d.2.2.2 with
 |some t=>t.dep 0 1
 |none=>0
structure GoodD(d:Dl):Prop where
 head:zFu d=true
 pars:∀s∈d.2.2.1,d.1=1∧qIu s=true
 nodes:∀x∈d.2.2.2,qMw (d.2.2.1.length:Int) x=true
 tree:oneP (ordS d.2.2.2 0 [])=true
theorem zLh{d:Dl}(h:qKh d=true):GoodD d:=by
 unfold qKh zFh zJz at h
 simp only[jJ,k0,kA] at h
 exact⟨h.1,h.2.1,h.2.2.1,h.2.2.2⟩
theorem zKf{ps:List ByteArray}{h:Hd}{ks:List Rose}{b:Nat}(hps:∀s∈ps,s.data.toList≠[])(hn:qMw (ps.length:Int) (qLt h (qDu b ks))=true):qIs ps h (wrs ps h 0 ks)≠[]:=by
 have ne:∀{x y:List UInt8},y≠[]→x++y≠[]:=fun h e=>h (hU.1 e).2
 have nel:∀{x y:List UInt8},x≠[]→x++y≠[]:=fun h e=>h (hU.1 e).1
 rcases qWy hn with ⟨k,a,n0,n1,-,-⟩|⟨k,a,n0,n1,-,-⟩|⟨k,a,-,-⟩|⟨k,a,n0,n1,-,-⟩|⟨k,a,-,-,-⟩|⟨k,a,n0,-,-⟩|⟨k,a,n0,-,-⟩|⟨k,a,n0,-,-⟩|⟨k,a,n0,n1,-,-⟩
 all_goals try simp only[qLt] at k
 ·unfold qIs
  rw[if_pos k]
  show Lib.itoa h.2.1≠[]
  unfold Lib.itoa
  split
  ·simp
  ·exact dec_ne _
 ·have k1:h.1≠1:=by omega
  try simp only[qLt] at n0 n1
  have hlt:h.2.1.toNat<ps.length:=by omega
  have e:ps.getD h.2.1.toNat ⟨#[]⟩=ps[h.2.1.toNat]:=by rw[kV,List.getElem?_eq_getElem hlt];rfl
  unfold qIs
  rw[if_neg k1,if_pos k,e]
  exact hps _ (kO hlt)
 all_goals have k1:h.1≠1:=by omega
 all_goals have k2:h.1≠2:=by omega
 ·have k4:h.1≠4:=by omega
  have k5:h.1≠5:=by omega
  unfold qIs
  rw[if_neg k1,if_neg k2,if_neg k4,if_neg k5,if_pos k]
  exact ne (ne (by simp))
 ·unfold qIs
  rw[if_neg k1,if_neg k2,if_pos k]
  refine ne (nel ?_)
  rw[qSs,qSs]
  exact ne (by simp)
 all_goals have k4:h.1≠4:=by omega
 ·unfold qIs
  rw[if_neg k1,if_neg k2,if_neg k4,if_pos k]
  exact nel (by simp[tI])
 all_goals have k5:h.1≠5:=by omega
 all_goals have k3:h.1≠3:=by omega
 ·unfold qIs
  rw[if_neg k1,if_neg k2,if_neg k4,if_neg k5,if_neg k3,if_pos k]
  exact ne (ne (by simp))
 all_goals have k6:h.1≠6:=by omega
 ·have k10:h.1≠10:=by omega
  unfold qIs
  rw[if_neg k1,if_neg k2,if_neg k4,if_neg k5,if_neg k3,if_neg k6,if_neg k10,qSs]
  exact ne (by simp)
 ·have k10:h.1≠10:=by omega
  unfold qIs
  rw[if_neg k1,if_neg k2,if_neg k4,if_neg k5,if_neg k3,if_neg k6,if_neg k10,qSs]
  exact ne (by simp)
 ·unfold qIs
  rw[if_neg k1,if_neg k2,if_neg k4,if_neg k5,if_neg k3,if_neg k6,if_pos k,qSs]
  exact ne (by simp)
theorem wr_ne{ps:List ByteArray}(hps:∀s∈ps,s.data.toList≠[])(t:Rose)(b:Nat)(need:Int)(hv:∀x∈t.flat b,qMw (ps.length:Int) x=true):t.wr ps need≠[]:=by
 cases t with
 |mk h ks=>
  simp only[Rose.wr]
  split
  ·simp
  ·exact zKf (b:=b) hps (hv (qLt h (qDu b ks)) (by unfold Rose.flat;exact kN _ (jN ..)))
theorem zKx{s:ByteArray}(h:qIu s=true):s.data.toList≠[]:=by
 unfold qIu at h
 rw[jJ] at h
 have:=(gJ h.1).1
 intro e
 rw[e] at this
 simp at this
theorem zLl{N:Nat}{d:Dl}(hd:GoodD d)(hb:d.2.2.2.length≤256)(hN:3000000<N):qKp N d.2.2.2 d.2.2.1=some (qMi (wrD d),(depD d:Int))∧(wrD d).length≤30000:=by
 obtain⟨t,h1,h2⟩:=zEx hd.tree
 have hsz:t.size=d.2.2.2.length:=by
  have:=qGa t 0
  rw[←h2] at this;exact this.symm
 have hp:=t.pos
 have hv:∀x∈t.flat 0,qMw (d.2.2.1.length:Int) x=true:=fun x hx=>hd.nodes x (by rw[h2];exact hx)
 have hwl:=zLu (ps:=d.2.2.1) (fun s hs=>qQz (hd.pars s hs).2) t 0 0 hv
 have hat:AtT d.2.2.2 0 t:=by
  have:=AtT.whole t
  rw[←h2] at this;exact this
 have hw:wrD d=t.wr d.2.2.1 0:=by unfold wrD;rw[h1]
 have hdp:depD d=t.dep 0 1:=by unfold depD;rw[h1]
 refine⟨?_,by rw[hw];omega⟩
 unfold qKp
 rw[wi64 (by omega) (by omega)]
 have hr:=wr_ok (l:=d.2.2.2) (ps:=d.2.2.1) hN t (by omega) N 0 [] false 0 1 0 hat hv (by omega) (by simp only[jE];omega) (by omega) (d8 0)
 rw[show(((0+t.size-1:Nat)):Int)=(d.2.2.2.length:Int)-1 by omega,show((0:Nat):Int)=0 from rfl,show((1:Nat):Int)=1 from rfl] at hr
 rw[show qLg N ((false,([]:List (UInt8))),d.2.2.2,d.2.2.1,0) ((d.2.2.2.length:Int)-1) 0 1=_ from hr]
 simp only[j0,kK]
 have hne:=wr_ne (ps:=d.2.2.1) (fun s hs=>zKx (hd.pars s hs).2) t 0 0 hv
 have hnn:nonE (t.wr d.2.2.1 0)=some ():=by
  cases hh:t.wr d.2.2.1 0 with
  |nil=>exact absurd hh hne
  |cons a l=>rfl
 rw[hnn,hw,hdp]
 simp only[j0,Nat.zero_max]
end
section
open Go Go.Dc Go.Proofs
def impT(s:ByteArray):List UInt8:=(((⟨#[105,109,112,111,114,116,32]⟩:ByteArray)++s)++(⟨#[59,10]⟩:ByteArray)).data.toList
theorem qXr{α:Type}(g:α→List UInt8):∀(l:List α) (t:List UInt8),l.foldl (fun t x=>t++g x) t=t++l.flatMap g
 |[],t=>by simp
 |x::l,t=>by rw[gY,qXr g l,kT,jS]
structure GoodS(f:Sr):Prop where
 pkg:qIu f.1=true
 imps:∀s∈f.2.1,qIu s=true
 impn:f.2.1.length≤8
 decn:f.2.2.length≤64
 decs:∀d∈f.2.2,GoodD d∧d.2.2.1.length≤8∧d.2.2.2.length≤256∧zFo d.2.2.2=false
 once:zBr f=false
theorem zDq{f:Sr}(h:qTd f=0):GoodS f:=by
 unfold qTd at h
 split at h
 ·rename_i hs
  split at h
  ·cases h
  ·rename_i ht
   split at h
   ·cases h
   ·rename_i hm
    have hm:zFz f=false:=by simpa using hm
    unfold synP at hs
    unfold zFz at hm
    simp only[jJ,k0] at hs
    simp only[Bool.or_eq_false_iff,decide_eq_false_iff_not,List.any_eq_false] at hm
    refine⟨hs.1,hs.2.1,by omega,by omega,fun d hd=> ?_,by simpa using ht⟩
    have h1:=hm.2.2 d hd
    unfold zFs at h1
    simp only[Bool.not_eq_true,Bool.or_eq_false_iff,decide_eq_false_iff_not] at h1
    exact⟨zLh (hs.2.2 d hd),by omega,by omega,h1.2.2⟩
 ·cases h
end
section
open Go Go.Dc Go.Proofs
section
variable {ts:List Tok} {params:List ByteArray} {E S:Ps→PM Nat} {B:Nat}
def BE(B:Nat)(l:List Ex):Prop:=∀x∈l,x.2.2.2.2.length≤B
def AdvB(B:Nat)(E:Ps→PM Nat):Prop:=∀(p q:Ps) (x:Nat),BE B p.2→E p= .inr (q,x)→BE B q.2
theorem qWs{t:Tok}{x:Ex}{p q:Ps}{i:Nat}(h1:BE B p.2)(h2:x.2.2.2.2.length≤B)(h:qNb t x p= .inr (q,i)):BE B q.2:=by
 obtain⟨rfl,-,-⟩:=zDr h
 intro y hy
 rcases kZ.1 hy with hy|hy
 ·exact h1 y hy
 ·rw[kF.1 hy];exact h2
theorem zLr(hE:AdvB B E):∀(n:Nat) (l:List Int) (p q:Ps) (x:List Int),BE B p.2→zBi ts E n l p= .inr (q,x)→BE B q.2∧x.length≤l.length+n
 |0,_,_,_,_,_,h1=>by cases h1
 |n+1,l,p,q,x,hb,h1=>by
  obtain⟨a,ha,h2⟩:=qBm (show qCe (E p) _=_ from h1)
  have hb2:=hE p a.1 a.2 hb ha
  split at h2
  ·obtain⟨k1,k2⟩:=zLr hE n _ (a.1.1+1,a.1.2) q x hb2 h2
   exact⟨k1,by simp only[jD,jC,jE] at k2;omega⟩
  ·obtain⟨j,hj,h3⟩:=qBm h2
   obtain⟨rfl,rfl⟩:=Prod.mk.inj (Sum.inr.inj h3)
   exact⟨hb2,by simp only[jD,jC,jE];omega⟩
theorem zBz(hE:AdvB B E){p q:Ps}{x:List Int}(hb:BE B p.2)(h1:qQy ts E p= .inr (q,x)):BE B q.2∧x.length≤ts.length+1:=by
 obtain⟨i,hi,h2⟩:=qBm h1
 split at h2
 ·obtain⟨rfl,rfl⟩:=Prod.mk.inj (Sum.inr.inj h2)
  exact⟨hb,kM _⟩
 ·obtain⟨k1,k2⟩:=zLr hE _ _ (i,p.2) q x hb h2
  exact⟨k1,by simpa using k2⟩
theorem zHq(hB:3≤B)(hE:AdvB B E){t:Tok}{p q:Ps}{x:Nat}(hb:BE B p.2)(h1:qOa ts E t p= .inr (q,x)):BE B q.2:=by
 obtain⟨i,hi,h2⟩:=qBm h1
 obtain⟨a,ha,h3⟩:=qBm h2
 obtain⟨j,hj,h4⟩:=qBm h3
 have key:BE B a.1.2∧a.2.2.2.2.2.length≤B:=by
  split at ha
  ·obtain⟨b,hb1,hb2⟩:=qBm ha
   obtain⟨c,hc1,hc2⟩:=qBm hb2
   obtain⟨d,hd1,hd2⟩:=qBm hc2
   have:=hE (c,p.2) d.1 d.2 hb hd1
   obtain rfl:=Sum.inr.inj hd2
   exact⟨this,by show 1≤B;omega⟩
  ·split at ha
   ·obtain⟨b,hb1,hb2⟩:=qBm ha
    obtain rfl:=Sum.inr.inj hb2
    exact⟨hb,kM _⟩
   ·split at ha
    ·obtain⟨b,hb1,hb2⟩:=qBm ha
     obtain rfl:=Sum.inr.inj hb2
     exact⟨hb,kM _⟩
    ·split at ha
     ·obtain⟨b,hb1,hb2⟩:=qBm ha
      obtain rfl:=Sum.inr.inj hb2
      exact⟨hb,kM _⟩
     ·obtain⟨b,hb1,hb2⟩:=qBm ha
      split at hb2
      ·cases hb2
      ·obtain rfl:=Sum.inr.inj hb2
       exact⟨hb,kM _⟩
 exact qWs (p:=(j,a.1.2)) key.1 key.2 h4
theorem zKi(hB:ts.length+3≤B)(hE:AdvB B E):AdvB B (qPx ts params E):=by
 intro p q x hb h1
 unfold qPx at h1
 dsimp only at h1
 split at h1
 ·exact qWs (p:=(p.1+1,p.2)) hb (kM _) h1
 split at h1
 ·obtain⟨a,ha,h2⟩:=qBm h1
  exact qWs (p:=(a.1,p.2)) hb (kM _) h2
 split at h1
 ·obtain⟨a,ha,h2⟩:=qBm h1
  have:=hE (p.1+1,p.2) a.1 a.2 hb ha
  obtain⟨j,hj,h3⟩:=qBm h2
  obtain⟨rfl,rfl⟩:=Prod.mk.inj (Sum.inr.inj h3)
  exact this
 split at h1
 ·cases h1
 split at h1
 ·exact zHq (by omega) hE (p:=(p.1+1,p.2)) hb h1
 split at h1
 ·cases h1
 split at h1
 ·obtain⟨a,ha,h2⟩:=qBm h1
  obtain⟨k1,k2⟩:=zBz hE (p:=(p.1+1,p.2)) hb ha
  exact qWs (p:=a.1) k1 (by show a.2.length≤B;omega) h2
 split at h1
 ·exact qWs (p:=(p.1+1,p.2)) hb (kM _) h1
 ·cases h1
theorem zLt(hB:3≤B){level:Nat}(hS:AdvB B S):∀(n x:Nat) (p q:Ps) (y:Nat),BE B p.2→qRg ts level S n x p= .inr (q,y)→BE B q.2
 |0,_,_,_,_,_,h1=>by cases h1
 |n+1,x,p,q,y,hb,h1=>by
  unfold qRg at h1
  split at h1
  ·obtain⟨rfl,rfl⟩:=Prod.mk.inj (Sum.inr.inj h1)
   exact hb
  ·obtain⟨a,ha,h2⟩:=qBm h1
   have f:=hS (p.1+1,p.2) a.1 a.2 hb ha
   obtain⟨r,hr,h3⟩:=qBm h2
   have k:BE B r.1.2:=by
    refine qWs (p:=a.1) f ?_ hr
    show 2≤B
    omega
   split at h3
   ·obtain⟨rfl,rfl⟩:=Prod.mk.inj (Sum.inr.inj h3)
    exact k
   ·exact zLt hB hS n _ _ q y k h3
theorem zCp(hB:3≤B){level:Nat}(hS:AdvB B S):AdvB B (qRk ts level S):=by
 intro p q x hb h1
 obtain⟨a,ha,h2⟩:=qBm h1
 exact zLt hB hS _ _ _ q x (hS p a.1 a.2 hb ha) h2
theorem zBo(hB:ts.length+3≤B):∀k,AdvB B (qJu ts params k)
 |0=>fun _ _ _ _ h1=>by cases h1
 |k+1=>by
  intro p q x hb h1
  unfold qJu at h1
  split at h1
  ·obtain⟨a,ha,h2⟩:=qBm h1
   have a1:=zBo hB k (p.1+1,p.2) a.1 a.2 hb ha
   obtain⟨i,hi,h3⟩:=qBm h2
   obtain⟨b,hb1,h4⟩:=qBm h3
   have b1:=zBo hB k (i,a.1.2) b.1 b.2 a1 hb1
   obtain⟨j,hj,h5⟩:=qBm h4
   obtain⟨c,hc1,h6⟩:=qBm h5
   have c1:=zBo hB k (j,b.1.2) c.1 c.2 b1 hc1
   refine qWs (p:=c.1) c1 ?_ h6
   show 3≤B
   omega
  ·exact zCp (by omega) (zCp (by omega) (zCp (by omega) (zKi hB (zBo hB k)))) p q x hb h1
def okDl(d:Dl):Prop:=d.2.2.1.length≤8∧d.2.2.2.length≤256∧BE 20000 d.2.2.2
theorem decl_b(hok:OkT ts)(hts:ts.length≤16385){before:List Dl}{i:Nat}{a:Nat×Dl}(hi:i<ts.length)(h1:qRs ts before i= .inr a):okDl a.2:=by
 unfold qRs at h1
 dsimp only at h1
 split at h1
 ·cases h1
 rename_i k1
 split at h1
 ·cases h1
 have g:=hok.next hi (show(tkAt ts i).1≠5 by intro e;apply k1;left;rw[e];decide)
 obtain⟨x,hx,h2⟩:=qBm h1
 have gx:x.1<ts.length:=by
  split at hx
  ·obtain⟨rfl,g1,-⟩:=qNu hok g hx;exact g1
  ·obtain⟨rfl,g1,-⟩:=qNe hok g hx;exact g1
 split at h2
 ·cases h2
 obtain⟨y,hy,h3⟩:=qBm h2
 have gy:y.1<ts.length∧y.2.length≤8:=by
  split at hy
  ·obtain⟨-,g2,g3⟩:=qQp hok gx hy;exact⟨g2,g3⟩
  ·obtain rfl:=Sum.inr.inj hy;exact⟨gx,kM _⟩
 obtain⟨j,hj,h4⟩:=qBm h3
 obtain⟨rfl,g3,-⟩:=qGk hok gy.1 hj
 obtain⟨c,hc,h5⟩:=qBm h4
 obtain⟨⟨-,-,-,f4⟩,-⟩:=qMf hok 32 (y.1+1,[]) c.1 c.2 g3 (by simp) hc
 have f5:=zBo (B:=20000) (by omega) 32 (y.1+1,[]) c.1 c.2 (fun z hz=>by cases hz) hc
 obtain⟨m,hm,h6⟩:=qBm h5
 obtain rfl:=Sum.inr.inj h6
 exact⟨gy.2,f4,f5⟩
theorem zKa(hok:OkT ts)(hts:ts.length≤16385):∀(n:Nat) (l:List Dl) (i:Nat) {r:List Dl},(∀d∈l,okDl d)→i<ts.length→qSe ts n l i= .inr r→∀d∈r,okDl d
 |0,_,_,_,_,_,h1=>by cases h1
 |n+1,l,i,r,hl,hi,h1=>by
  unfold qSe at h1
  split at h1
  ·cases h1;exact hl
  obtain⟨x,hx,h2⟩:=qBm h1
  obtain⟨-,g2,-⟩:=qVi hok hi hx
  refine zKa hok hts n _ _ (fun d hd=> ?_) g2 h2
  rcases kZ.1 hd with hd|hd
  ·exact hl d hd
  ·rw[kF.1 hd];exact decl_b hok hts hi hx
end
def okSr(f:Sr):Prop:=f.2.1.length≤8∧f.2.2.length≤64∧∀d∈f.2.2,okDl d
theorem zJr{ts:List Tok}(h:OkT ts):∀(n:Nat) (l:List Dl) (i:Nat) {r:List Dl},l.length≤64→i<ts.length→qSe ts n l i= .inr r→r.length≤64
 |0,_,_,_,_,_,h1=>by cases h1
 |n+1,l,i,r,hl,hi,h1=>by
  unfold qSe at h1
  split at h1
  ·cases h1;exact hl
  obtain⟨x,hx,h2⟩:=qBm h1
  obtain⟨-,g2,g3⟩:=qVi h hi hx
  exact zJr h n _ _ (by simp only[jD,jC,jE];omega) g2 h2
theorem zFb:okSr qVl:=⟨kM _,kM _,fun d hd=>by cases hd⟩
theorem zHf(s:ByteArray):okSr (qZt s).1:=by
 unfold qZt
 by_cases h0:(qIx s).2.2=0
 ·rw[if_neg (not_not_intro h0)]
  obtain⟨hok,hlen,hsz⟩:=qXm h0
  have hpos:0<(qIx s).1.length:=by
   cases h:(qIx s).1 with
   |nil=>exact absurd h hok.1
   |cons a l=>exact Nat.succ_pos _
  cases hf:zGg (qIx s).1 with
  |inl z=>exact zFb
  |inr f=>
   simp only
   unfold zGg at hf
   obtain⟨i,h1,hf⟩:=qBm hf
   obtain⟨rfl,g1,-⟩:=qYz hok hpos h1
   obtain⟨a,h2,hf⟩:=qBm hf
   obtain⟨rfl,g2,-⟩:=qNe hok g1 h2
   obtain⟨j,h3,hf⟩:=qBm hf
   obtain⟨rfl,g3,-⟩:=qGk hok g2 h3
   obtain⟨b,h4,hf⟩:=qBm hf
   obtain⟨-,k2,k3⟩:=qQr hok _ _ _ b g3 (by simp) h4
   obtain⟨l,h5,hf⟩:=qBm hf
   have e1:=zJr hok _ _ _ (by simp) k2 h5
   have e2:=zKa hok hlen _ _ _ (fun d hd=>by cases hd) k2 h5
   cases hf
   exact⟨k3,e1,e2⟩
 ·rw[if_pos h0];exact zFb
theorem zAc{β:Type}{b:β}{n:Nat}{f:Int→Option (Int⊕β)}(hs:∀i,i<n→f (i:Int)=some (.inl ((i+1:Nat):Int)))(hf:f (n:Int)=some (.inr b)):∀(d i M:Nat),i+d=n→d<M→qAq f M (i:Int)=some b
 |_,_,0,_,h=>absurd h (kI _)
 |0,i,M+1,h1,_=>by
  have:i=n:=by omega
  subst this
  simp only[qAq,hf,j0]
 |d+1,i,M+1,h1,h2=>by
  simp only[qAq,hs i (by omega),j0]
  exact zAc hs hf d (i+1) M (by omega) (by omega)
theorem each0{β:Type}{b:β}{n M:Nat}{f:Int→Option (Int⊕β)}(hs:∀i,i<n→f (i:Int)=some (.inl ((i+1:Nat):Int)))(hf:f (n:Int)=some (.inr b))(hM:n<M):qAq f M 0=some b:=
 zAc hs hf n 0 M (by omega) hM
end
section
open Go Go.Dc Go.Proofs
def blt(a b:ByteArray):Bool:=Op.bytesLess a.toList b.toList
theorem toList_inj{a b:ByteArray}(h:a.toList=b.toList):a=b:=by
 have h1:(a.toList==b.toList)=true:=by rw[h];exact kS _
 rw[qEr] at h1
 exact gJ h1
theorem qWx:∀a:List UInt8,Op.bytesLess a a=false
 |[]=>rfl
 |x::a=>by simp[Op.bytesLess,qWx a]
theorem qYe:∀a b c:List UInt8,Op.bytesLess a b=true→Op.bytesLess b c=true→Op.bytesLess a c=true
 |_,_,[],_,h=>by simp[Op.bytesLess] at h
 |_,[],_::_,h,_=>by simp[Op.bytesLess] at h
 |[],_::_,_::_,_,_=>rfl
 |x::a,y::b,z::c,h1,h2=>by
  simp only[Op.bytesLess,fK,jA,jJ,kA] at h1 h2 ⊢
  rcases h1 with h1|⟨rfl,h1⟩<;>rcases h2 with h2|⟨rfl,h2⟩
  ·exact .inl (UInt8.lt_trans h1 h2)
  ·exact .inl h1
  ·exact .inl h2
  ·exact .inr ⟨rfl,qYe a b c h1 h2⟩
theorem qXz:∀a b:List UInt8,Op.bytesLess a b=true∨a=b∨Op.bytesLess b a=true
 |[],[]=> .inr (.inl rfl)
 |[],_::_=> .inl rfl
 |_::_,[]=> .inr (.inr rfl)
 |x::a,y::b=>by
  simp only[Op.bytesLess,fK,jA,jJ,kA,kU]
  rcases qXz a b with h|h|h
  ·rcases Nat.lt_trichotomy x.toNat y.toNat with g|g|g
   ·exact .inl (.inl (UInt8.lt_iff_toNat_lt.2 g))
   ·have g:=UInt8.toNat_inj.1 g;exact .inl (.inr ⟨g,h⟩)
   ·exact .inr (.inr (.inl (UInt8.lt_iff_toNat_lt.2 g)))
  ·rcases Nat.lt_trichotomy x.toNat y.toNat with g|g|g
   ·exact .inl (.inl (UInt8.lt_iff_toNat_lt.2 g))
   ·have g:=UInt8.toNat_inj.1 g;exact .inr (.inl ⟨g,h⟩)
   ·exact .inr (.inr (.inl (UInt8.lt_iff_toNat_lt.2 g)))
  ·rcases Nat.lt_trichotomy x.toNat y.toNat with g|g|g
   ·exact .inl (.inl (UInt8.lt_iff_toNat_lt.2 g))
   ·have g:=UInt8.toNat_inj.1 g;exact .inr (.inr (.inr ⟨g.symm,h⟩))
   ·exact .inr (.inr (.inl (UInt8.lt_iff_toNat_lt.2 g)))
theorem zFm(a:ByteArray):blt a a=false:=qWx _
theorem zAv{a b c:ByteArray}(h1:blt a b=true)(h2:blt b c=true):blt a c=true:=qYe _ _ _ h1 h2
theorem qVh(a b:ByteArray):blt a b=true∨a=b∨blt b a=true:=by
 rcases qXz a.toList b.toList with h|h|h
 ·exact .inl h
 ·exact .inr (.inl (toList_inj h))
 ·exact .inr (.inr h)
theorem zDw{α:Type}{lt:α→α→Prop}(irr:∀x,¬lt x x)(tr:∀x y z,lt x y→lt y z→lt x z):∀{l k:List α},l.Pairwise lt→k.Pairwise lt→(∀z,z∈l↔z∈k)→l=k
 |[],[],_,_,_=>rfl
 |[],y::k,_,_,h=>by have:=(h y).2 (jN ..);cases this
 |x::l,[],_,_,h=>by have:=(h x).1 (jN ..);cases this
 |x::l,y::k,h1,h2,h=>by
  obtain⟨a1,a2⟩:=kX.1 h1
  obtain⟨b1,b2⟩:=kX.1 h2
  have hxy:x=y:=by
   rcases jM.1 ((h x).1 (jN ..)) with e|e
   ·exact e
   ·rcases jM.1 ((h y).2 (jN ..)) with g|g
    ·exact g.symm
    ·exact absurd (tr _ _ _ (b1 x e) (a1 y g)) (irr y)
  subst hxy
  have:l=k:=zDw irr tr a2 b2 fun z=>by
   constructor
   ·intro hz
    rcases jM.1 ((h z).1 (jX _ hz)) with e|e
    ·rw[e] at hz;exact absurd (a1 x hz) (irr x)
    ·exact e
   ·intro hz
    rcases jM.1 ((h z).2 (jX _ hz)) with e|e
    ·rw[e] at hz;exact absurd (b1 x hz) (irr x)
    ·exact e
  rw[this]
def insU{α:Type}[DecidableEq α](b:α→α→Bool)(e:α):List α→List α
 |[]=>[e]
 |x::l=>if b x e=true then x::insU b e l else if x=e then x::l else e::x::l
theorem qYm{α:Type}[DecidableEq α]{b:α→α→Bool}{e z:α}:∀{l:List α},z∈insU b e l↔z=e∨z∈l
 |[]=>by simp[insU]
 |x::l=>by
  have ih:=qYm (b:=b) (e:=e) (z:=z) (l:=l)
  simp only[insU]
  split
  ·rw[jM,ih,jM]
   constructor
   ·rintro(h|h|h)
    ·exact .inr (.inl h)
    ·exact .inl h
    ·exact .inr (.inr h)
   ·rintro(h|h|h)
    ·exact .inr (.inl h)
    ·exact .inl h
    ·exact .inr (.inr h)
  ·split
   ·rename_i h
    constructor
    ·exact .inr
    ·rintro(g|g)
     ·rw[g,←h];exact jN ..
     ·exact g
   ·exact jM
theorem qYu{α:Type}[DecidableEq α]{b:α→α→Bool}{e:α}:∀{l:List α},(insU b e l).length≤l.length+1
 |[]=>jK _
 |x::l=>by
  have ih:=qYu (b:=b) (e:=e) (l:=l)
  simp only[insU]
  split
  ·simp only[jC];omega
  ·split
   ·simp only[jC];omega
   ·simp only[jC];omega
theorem zAp{α:Type}[DecidableEq α]{b:α→α→Bool}(tr:∀x y z,b x y=true→b y z=true→b x z=true){e:α}:∀{l:List α},(∀x∈l,b x e=false→x≠e→b e x=true)→l.Pairwise (fun x y=>b x y=true)→(insU b e l).Pairwise fun x y=>b x y=true
 |[],_,_=>fB ..
 |x::l,ht,hp=>by
  obtain⟨h1,h2⟩:=kX.1 hp
  simp only[insU]
  split
  ·rename_i h
   refine kX.2 ⟨fun y hy=> ?_,zAp tr (fun y hy=>ht y (jX _ hy)) h2⟩
   rcases qYm.1 hy with rfl|hy
   ·exact h
   ·exact h1 y hy
  ·rename_i h
   split
   ·exact hp
   ·rename_i hne
    have hx:=ht x (jN ..) (by simpa using h) hne
    refine kX.2 ⟨fun y hy=> ?_,hp⟩
    rcases jM.1 hy with rfl|hy
    ·exact hx
    ·exact tr _ _ _ hx (h1 y hy)
theorem bl_lt:∀a b:List UInt8,Op.bytesLess a b=true↔a<b
 |_,[]=>by simp[Op.bytesLess]
 |[],_::_=>by simp[Op.bytesLess]
 |x::a,y::b=>by
  have ih:=bl_lt a b
  simp only[Op.bytesLess,fK,jA,jJ,kA,List.cons_lt_cons_iff,ih]
theorem zNa{a b:ByteArray}:blt a b=true↔a.data.toList<b.data.toList:=by
 unfold blt
 rw[bl_lt,ByteArray.toList_eq,ByteArray.toList_eq]
theorem zMh{a b:ByteArray}:a.data.toList≤b.data.toList↔blt b a=false:=by
 rw[←List.not_lt,←zNa];simp
theorem qWe{l:List ByteArray}{z:ByteArray}:z∈qOg l↔z∈l:=by unfold qOg;exact List.mem_mergeSort
def addB(l:List ByteArray)(s:ByteArray):List ByteArray:=insU blt s l
theorem qZz:∀(K l:List ByteArray),l.Pairwise (fun x y=>blt x y=true)→(K.foldl addB l).Pairwise (fun x y=>blt x y=true)∧∀z,z∈K.foldl addB l↔z∈l∨z∈K
 |[],l,h=>⟨h,fun z=>by simp⟩
 |s::K,l,h=>by
  have h1:(addB l s).Pairwise fun x y=>blt x y=true:=zAp (b:=blt) (e:=s) (l:=l) (fun _ _ _ h1 h2=>zAv h1 h2) (fun x _ h2 h3=>by
   rcases qVh x s with g|g|g
   ·rw[g] at h2;cases h2
   ·exact absurd g h3
   ·exact g) h
  obtain⟨h2,h3⟩:=qZz K (addB l s) h1
  refine⟨h2,fun z=> ?_⟩
  rw[gY,h3 z]
  unfold addB
  rw[qYm,jM]
  constructor
  ·rintro((h|h)|h)
   ·exact .inr (.inl h)
   ·exact .inl h
   ·exact .inr (.inr h)
  ·rintro(h|h|h)
   ·exact .inl (.inr h)
   ·exact .inl (.inl h)
   ·exact .inr h
def posU{α:Type}(b:α→α→Bool)(e:α):List α→Nat
 |[]=>0
 |x::l=>if b x e=true then posU b e l+1 else 0
theorem zGn{α:Type}{b:α→α→Bool}{e:α}:∀(l:List α),posU b e l≤l.length
 |[]=>jK _
 |x::l=>by
  have:=zGn (b:=b) (e:=e) l
  simp only[posU,jC]
  split<;>omega
theorem zDx{α:Type}[DecidableEq α]{b:α→α→Bool}{e:α}:∀(l:List α),insU b e l=if l[posU b e l]? =some e then l else l.take (posU b e l)++e::l.drop (posU b e l)
 |[]=>by simp[insU,posU]
 |x::l=>by
  simp only[insU,posU]
  by_cases h:b x e=true
  ·simp only[h,jH,List.getElem?_cons_succ,List.take_succ_cons,List.drop_succ_cons]
   rw[zDx l]
   split<;>rfl
  ·have h':b x e=false:=by simpa using h
   simp only[h',jB,jG,List.getElem?_cons_zero,jI,d3,k7,kK]
theorem zAl{α:Type}{b:α→α→Bool}{e:α}{L:List α}{f:Int→Option (Int⊕Int)}(hl:L.length<1000000)
  (h1:∀i,∀hi:i<L.length,f (i:Int)=some (if b L[i] e=true then .inl ((i+1:Nat):Int) else .inr (i:Int))) (h2:f (L.length:Int)=some (.inr (L.length:Int))):∀(d i M:Nat),i+d=L.length→d<M→qAq f M (i:Int)=some ((i+posU b e (L.drop i):Nat):Int)
 |_,_,0,_,h=>absurd h (kI _)
 |0,i,M+1,hd,_=>by
  have:i=L.length:=by omega
  subst this
  simp only[qAq,h2,j0,fF,posU,gE]
 |d+1,i,M+1,hd,hM=>by
  have hi:i<L.length:=by omega
  simp only[qAq,h1 i hi,j0]
  rw[qNh hi]
  simp only[posU]
  by_cases hb:b L[i] e=true
  ·rw[if_pos hb,if_pos hb]
   simp only
   rw[zAl hl h1 h2 d (i+1) M (by omega) (by omega)]
   congr 2;omega
  ·rw[if_neg hb,if_neg hb]
   rfl
theorem zHx{α:Type}{by_:Nat}{L:List α}{x z:α}{k:Nat}(hk:k≤L.length)(hb:0<by_)(hby:by_≤100)(hl:L.length<1000000):
  ((qCm by_ L [z]).bind fun l1=>(chkS l1 (IntKind.wrap .i64 ((k:Int)+1)) (List.length l1:Int)).bind fun _=>(chkS l1 (k:Int) (List.length l1:Int)).bind fun _=>(qZj l1 (IntKind.wrap .i64 ((k:Int)+1)) (k:Int)).bind fun l2=>(idx l2 (k:Int)).bind fun _=>some (List.set l2 (Int.toNat (k:Int)) x))=some (L.take k++x::L.drop k):=by
 have w:IntKind.wrap .i64 ((k:Int)+1)=((k+1:Nat):Int):=by rw[wi64 (by omega) (by omega)];omega
 have hm:(L.length+1)*by_≤(L.length+1)*100:=Nat.mul_le_mul_left _ hby
 rw[w,qDe (by simp only[jC,jE,jW];omega) hb]
 simp only[j0]
 have hlen:(L++[z]).length=L.length+1:=by simp
 have c1:chkS (L++[z]) ((k+1:Nat):Int) ((L++[z]).length:Int)=some ():=by unfold chkS;rw[if_pos (by rw[hlen];omega)]
 have c2:chkS (L++[z]) (k:Int) ((L++[z]).length:Int)=some ():=by unfold chkS;rw[if_pos (by rw[hlen];omega)]
 have c3:qZj (L++[z]) ((k+1:Nat):Int) (k:Int)=some (qSx (L++[z]) (k+1) k):=by unfold qZj;rw[if_pos (by rw[hlen];omega)];rfl
 simp only[c1,c2,c3,j0]
 have e:qSx (L++[z]) (k+1) k=(L++[z]).take (k+1)++L.drop k:=by
  have t1:((L++[z]).drop k).take (L.length-k)=L.drop k:=by
   rw[kP hk,jZ (by rw[kH];omega),gB (by rw[kH];omega)]
  have t2:(L++[z]).drop (L.length+1)=[]:=List.drop_of_length_le (by rw[hlen];omega)
  unfold qSx
  rw[hlen,show min (L.length+1-k) (L.length+1-(k+1))=L.length-k by omega,show k+1+(L.length-k)=L.length+1 by omega,t1,t2,f0]
 have hlt:k<(qSx (L++[z]) (k+1) k).length:=by rw[e];simp only[jD,kD,jC,jE,kH];omega
 rw[qDf hlt]
 simp only[j0,jL]
 congr 1
 rw[e]
 have e2:(L++[z]).take (k+1)=L.take k++[((L++[z])[k]'(by rw[hlen];omega))]:=by
  rw[kL (by rw[hlen];omega),jZ hk]
 rw[e2,jS,List.set_append_right _ _ (by simp only[kD];omega)]
 have e3:k-(L.take k).length=0:=by simp only[kD];omega
 rw[e3];rfl
end
section
open Go Go.Dc Go.Proofs
def kinC(ks:List Int)(x:Ex):Bool:=ks.any fun k=>x.1==k
def qRh(ks:List Int)(d:Dl):List ByteArray:=(d.2.2.2.filter (kinC ks)).map fun x=>x.2.2.2.1
def setK(ks:List Int)(d:Dl):List ByteArray:=(qRh ks d).foldl addB []
theorem w1{i:Nat}(h:i<1000000):IntKind.wrap .i64 ((i:Int)+1)=((i+1:Nat):Int):=by rw[wi64 (by omega) (by omega)];omega
theorem zAa(v:Int):∀(ks:List Int) (t:Nat),(match run (fun t k=>if(v==k)=true then(.inr (.inr ((t:Nat):Int)):Nat⊕(Unit⊕Int)) else .inl (t+1)) (fun _=>(.inl ():Unit⊕Int)) ks t with| .inl _=>some (-1)| .inr z=>some z:Option Int).bind (fun y=>some (decide (y≥0)))=some (ks.any fun k=>v==k)
 |[],t=>rfl
 |k::ks,t=>by
  simp only[run,gW]
  by_cases h:(v==k)=true
  ·rw[if_pos h,h]
   simp only[j0,fZ]
   rw[jU (by omega)]
  ·rw[if_neg h,show(v==k)=false by simpa using h,kY]
   exact zAa v ks (t+1)
theorem zBy{N:Nat}{ks:List Int}{v:Int}(hl:ks.length<1000)(hN:1000<N):qFw N ks v=some (ks.any fun k=>v==k):=by
 unfold qFw qIt
 have h:=qIz (L:=ks) (fun(_:Nat) (i:Nat)=>(i:Int)) (f:=qEo N ks v)
  (fun t k=>if(v==k)=true then .inr (.inr (t:Int)) else .inl (t+1)) (fun _=> .inl ()) (fun i t=>t=i) (by
   rintro t i hi rfl
   simp only[qEo]
   rw[if_pos (by simp only[jA];omega),qDf hi]
   simp only[j0,w1 (show t<1000000 by omega)]
   split<;>rfl) (by
   rintro t i hi t' rfl hh
   split at hh
   ·cases hh
   ·cases hh;rfl) (by
   rintro t rfl
   simp only[qEo]
   rw[if_neg (by simp)]) (M:=N) (t:=0) (by omega) rfl
 rw[show((0:Nat):Int)=0 from rfl] at h
 rw[h]
 simp only[j0]
 exact zAa v ks 0
theorem qTk(p:Ex→Bool):∀(l:List Ex) (t:List ByteArray),l.foldl (fun t x=>if p x=true then t++[x.2.2.2.1] else t) t=t++(l.filter p).map fun x=>x.2.2.2.1
 |[],t=>by simp
 |x::l,t=>by
  rw[gY,qTk p l,List.filter_cons]
  by_cases h:p x=true
  ·rw[if_pos h,if_pos h];simp
  ·rw[if_neg h,if_neg h]
theorem zKy{N:Nat}{d:Dl}{ks:List Int}(hk:ks.length<1000)(hd:d.2.2.2.length<1000)(hN:1000<N):qAq (qHh N d ks) N (([]:List ByteArray),0)=some (qRh ks d):=by
 have h:=qIz (L:=d.2.2.2) (fun(t:List ByteArray) (i:Nat)=>(t,(i:Int))) (f:=qHh N d ks)
  (fun t x=> .inl (if kinC ks x=true then t++[x.2.2.2.1] else t)) (fun t=>t) (fun i t=>t.length≤i) (by
   intro t i hi hI
   simp only[qHh]
   rw[if_pos (by simp only[jA];omega),qDf hi]
   simp only[j0]
   rw[zBy hk hN]
   simp only[j0,w1 (show i<1000000 by omega)]
   by_cases hc:kinC ks d.2.2.2[i]=true
   ·have hc':(ks.any fun k=>d.2.2.2[i].1==k)=true:=hc
    rw[if_pos hc',if_pos hc,qDe (by simp only[jC,jE];omega) (by decide)]
    rfl
   ·have hc':¬(ks.any fun k=>d.2.2.2[i].1==k)=true:=hc
    rw[if_neg hc',if_neg hc]
    rfl) (by
   intro t i hi t' hI hh
   cases hh
   split
   ·simp only[jD,jC,jE];omega
   ·omega) (by
   intro t hI
   simp only[qHh]
   rw[if_neg (by simp)]) (M:=N) (t:=[]) (by omega) (jK 0)
 rw[show((0:Nat):Int)=0 from rfl] at h
 rw[h,qSk (g:=fun t x=>if kinC ks x=true then t++[x.2.2.2.1] else t) fun _ _=>rfl,qTk,kK]
 rfl
def SAsc(l:List ByteArray):Prop:=l.Pairwise fun x y=>blt x y=true
def Srt(l:List ByteArray):Prop:=∀i j,∀hi:i<l.length,∀hj:j<l.length,i<j→blt l[j] l[i]=false
theorem zJc(l:List ByteArray):Srt (qOg l):=by
 have h1:(qOg l).Pairwise fun x y=>decide (x.data.toList≤y.data.toList)=true:=by
  unfold qOg
  refine List.pairwise_mergeSort (fun x y z h1 h2=> ?_) (fun x y=> ?_) l
  ·simp only[jA] at*;exact List.le_trans h1 h2
  ·simp only[fK,jA];exact List.le_total _ _
 intro i j hi hj hij
 exact zMh.1 (gJ (List.pairwise_iff_getElem.1 h1 i j hi hj hij))
theorem qSq{l:List ByteArray}{m:Nat}(hm:m<l.length)(z:ByteArray):z∈l.take (m+1)↔z∈l.take m∨z=l[m]:=by
 rw[kL hm,kZ,kF]
theorem zIo{l T:List ByteArray}{m:Nat}(hs:Srt l)(h1:1≤m)(hm:m<l.length)(hne:l[m]≠l[m-1])(ht:SAsc T)(hT:∀z,z∈T↔z∈l.take m):SAsc (T++[l[m]])∧∀z,z∈T++[l[m]]↔z∈l.take (m+1):=by
 constructor
 ·refine List.pairwise_append.2 ⟨ht,fB ..,fun x hx y hy=> ?_⟩
  rw[kF.1 hy]
  obtain⟨j,hj,rfl⟩:=fM.1 ((hT x).1 hx)
  have hj':j<m:=by rw[kD] at hj;omega
  rw[List.getElem_take]
  have hlast:blt l[m-1] l[m]=true:=by
   rcases qVh l[m-1] l[m] with g|g|g
   ·exact g
   ·exact absurd g.symm hne
   ·rw[hs (m-1) m (by omega) hm (by omega)] at g;cases g
  by_cases e:j=m-1
  ·subst e;exact hlast
  ·have g1:=hs j (m-1) (by omega) (by omega) (by omega)
   have g2:=hs j m (by omega) hm hj'
   rcases qVh (l[j]'(by omega)) l[m] with g|g|g
   ·exact g
   ·rw[g] at g1;rw[g1] at hlast;cases hlast
   ·rw[g2] at g;cases g
 ·intro z
  rw[kZ,kF,qSq hm,hT z]
theorem zEu{l T:List ByteArray}{m:Nat}(h1:1≤m)(hm:m<l.length)(he:l[m]=l[m-1])(hT:∀z,z∈T↔z∈l.take m):∀z,z∈T↔z∈l.take (m+1):=fun z=>by
 rw[qSq hm,hT z]
 constructor
 ·exact .inl
 ·rintro(g|g)
  ·exact g
  ·rw[g,he]
   exact fM.2 ⟨m-1,by rw[kD];omega,by rw[List.getElem_take]⟩
theorem beqL{a b:ByteArray}:(a.toList==b.toList)=decide (a=b):=qEr a b
theorem zJn{N K:Nat}{l:List ByteArray}(hs:Srt l)(hl:l.length<1000000):∀(d k i:Nat) (a:List ByteArray) (M:Nat),K+k+d=l.length→d<M→1≤k→K≤i→i≤K+k-1→a.length=l.length→(∀j,i≤j→a[j]? =l[j]?)→SAsc (a.take i)→(∀z,z∈a.take i↔z∈l.take (K+k))→
  ∃(i':Nat) (a':List ByteArray),qAq (qEn N l (K:Int)) M ((i:Int),(k:Int),a)=some ((i':Int),a')∧i'<l.length∧a'.length=l.length∧SAsc (a'.take i')∧∀z,z∈a'.take i'↔z∈l
 |_,_,_,_,0,_,h,_,_,_,_,_,_,_=>absurd h (kI _)
 |0,k,i,a,M+1,hd,_,h1,hi1,hi2,ha,_,hp,hm=>by
  refine⟨i,a,?_,by omega,ha,hp,fun z=> ?_⟩
  ·simp only[qAq,qEn]
   rw[if_neg (by simp only[jA];omega)]
   rfl
  ·rw[hm z,show K+k=l.length by omega,gA]
 |d+1,k,i,a,M+1,hd,hM,h1,hi1,hi2,ha,hj,hp,hm=>by
  have hwin:List.drop (Int.toNat (K:Int)) (List.take (Int.toNat (l.length:Int)) a)=a.drop K:=by
   rw[jL,jL,←ha,gA]
  have g0:K+k<l.length:=by omega
  have i0:idx (a.drop K) (k:Int)=some l[K+k]:=by
   rw[qDf (show k<(a.drop K).length by rw[kH];omega),List.getElem_drop]
   have:=hj (K+k) (by omega)
   rw[List.getElem?_eq_getElem (by omega),List.getElem?_eq_getElem g0] at this
   exact this
  have wk:IntKind.wrap .i64 ((k:Int)-1)=((k-1:Nat):Int):=by rw[wi64 (by omega) (by omega)];omega
  have i1:idx (a.drop K) ((k-1:Nat):Int)=some (l[K+k-1]'(by omega)):=by
   rw[qDf (show k-1<(a.drop K).length by rw[kH];omega),List.getElem_drop]
   have:=hj (K+k-1) (by omega)
   rw[List.getElem?_eq_getElem (by omega),List.getElem?_eq_getElem (show K+k-1<l.length by omega)] at this
   simp only[show K+(k-1)=K+k-1 by omega]
   exact this
  have step:∀(i2:Nat) (a2:List ByteArray),(qEn N l (K:Int) ((i:Int),(k:Int),a))=some (.inl ((i2:Int),((k+1:Nat):Int),a2))→K≤i2→i2≤K+k→a2.length=l.length→(∀j,i2≤j→a2[j]? =l[j]?)→SAsc (a2.take i2)→(∀z,z∈a2.take i2↔z∈l.take (K+k+1))→
    ∃(i':Nat) (a':List ByteArray),qAq (qEn N l (K:Int)) (M+1) ((i:Int),(k:Int),a)=some ((i':Int),a')∧i'<l.length∧a'.length=l.length∧SAsc (a'.take i')∧∀z,z∈a'.take i'↔z∈l:=fun i2 a2 e b1 b2 b3 b4 b5 b6=>by
   obtain⟨i',a',r1,r2⟩:=zJn hs hl d (k+1) i2 a2 M (by omega) (by omega) (by omega) b1 (by omega) b3 b4 b5 (by rw[show K+(k+1)=K+k+1 by omega];exact b6)
   refine⟨i',a',?_,r2⟩
   simp only[qAq,e,j0]
   exact r1
  by_cases he:l[K+k]=l[K+k-1]'(by omega)
  ·refine step i a ?_ hi1 (by omega) ha hj hp (zEu (by omega) g0 he hm)
   simp only[qEn]
   rw[if_pos (by simp only[jA,jL];omega),hwin,wk,i0,i1]
   simp only[j0,beqL]
   rw[if_neg (by simp[he])]
   simp only[j0,w1 (show k<1000000 by omega)]
  ·have hil:i<a.length:=by omega
   obtain⟨n1,n2⟩:=zIo (m:=K+k) hs (by omega) g0 he hp hm
   have htk:(a.set i l[K+k]).take (i+1)=a.take i++[l[K+k]]:=by
    rw[kL (by rw[gC];exact hil),List.getElem_set_self,List.take_set_of_le (jK i)]
   refine step (i+1) (a.set i l[K+k]) ?_ (by omega) (by omega) (by rw[gC];exact ha) (fun j hij=> ?_) (by rw[htk];exact n1) (by rw[htk];exact n2)
   ·simp only[qEn]
    rw[if_pos (by simp only[jA,jL];omega),hwin,wk,i0,i1,qDf hil]
    simp only[j0,beqL]
    rw[if_pos (by simp[he])]
    simp only[j0,w1 (show k<1000000 by omega),w1 (show i<1000000 by omega),jL]
   ·rw[List.getElem?_set_ne (by omega)]
    exact hj j (by omega)
theorem zHn{N:Nat}{o l:List ByteArray}(ho:o.length=l.length)(hs:Srt l)(hl:l.length<1000000)(hN:l.length<N):∀(d K M:Nat),K+d=l.length→d<M→1≤K→SAsc (l.take K)→
  ∃out:Unit⊕List ByteArray,qAq (qGg N o l) M (K:Int)=some out∧SAsc (match out with| .inl _=>l| .inr r=>r)∧∀z,z∈(match out with| .inl _=>l| .inr r=>r)↔z∈l
 |_,_,0,_,h,_,_=>absurd h (kI _)
 |0,K,M+1,hd,_,h1,hp=>by
  have:K=l.length:=by omega
  subst this
  refine⟨.inl (),?_,by rw[gA] at hp;exact hp,fun z=>Iff.rfl⟩
  simp only[qAq,qGg]
  rw[if_neg (by simp only[jA];omega)]
  rfl
 |d+1,K,M+1,hd,hM,h1,hp=>by
  have g0:K<l.length:=by omega
  have wk:IntKind.wrap .i64 ((K:Int)-1)=((K-1:Nat):Int):=by rw[wi64 (by omega) (by omega)];omega
  have i0:idx l (K:Int)=some l[K]:=qDf g0
  have i1:idx l ((K-1:Nat):Int)=some (l[K-1]'(by omega)):=qDf (by omega)
  by_cases he:l[K]=l[K-1]'(by omega)
  ·obtain⟨i',a',r1,r2,r3,r4,r5⟩:=zJn (N:=N) (K:=K) hs hl (l.length-K-1) 1 K l N (by omega) (by omega) (jK 1) (jK K) (by omega) rfl (fun _ _=>rfl) hp (zEu h1 g0 he fun z=>Iff.rfl)
   refine⟨.inr (a'.take i'),?_,r4,r5⟩
   have c1:chkS l (K:Int) (l.length:Int)=some ():=by unfold chkS;rw[if_pos (by omega)]
   have c2:chkS a' (i':Int) (a'.length:Int)=some ():=by unfold chkS;rw[if_pos (by omega)]
   have c3:qVa a' (i':Int) (⟨#[]⟩:ByteArray)=some (a'.take i'++List.replicate (a'.length-i') (⟨#[]⟩:ByteArray)):=by unfold qVa;rw[if_pos (by omega)];rfl
   have c4:chkS (a'.take i'++List.replicate (a'.length-i') (⟨#[]⟩:ByteArray)) 0 (i':Int)=some ():=by
    unfold chkS;rw[if_pos (by simp only[jD,kD,fI];omega)]
   have c5:(a'.take i'++List.replicate (a'.length-i') (⟨#[]⟩:ByteArray)).take i'=a'.take i':=by
    rw[jZ (by rw[kD];omega),List.take_take,Nat.min_self]
   simp only[qAq,qGg]
   rw[if_pos (by simp only[jA];omega),wk,i0,i1]
   simp only[j0,beqL]
   rw[if_pos (by simp[he]),c1]
   simp only[j0]
   rw[show qAq (qEn N l (K:Int)) N ((K:Int),1,l)=_ from r1]
   simp only[j0]
   rw[c2]
   simp only[j0]
   rw[c3]
   simp only[j0]
   rw[c4]
   simp only[j0,jL,c5]
  ·obtain⟨n1,n2⟩:=zIo (m:=K) hs h1 g0 he hp fun z=>Iff.rfl
   obtain⟨out,r1,r2⟩:=zHn ho hs hl hN d (K+1) M (by omega) (by omega) (by omega) (by rw[kL g0];exact n1)
   refine⟨out,?_,r2⟩
   simp only[qAq,qGg]
   rw[if_pos (by simp only[jA];omega),wk,i0,i1]
   simp only[j0,beqL]
   rw[if_neg (by simp[he])]
   simp only[w1 (show K<1000000 by omega)]
   exact r1
theorem qZh{l K:List ByteArray}(h:SAsc l)(hm:∀z,z∈l↔z∈K):l=K.foldl addB []:=by
 obtain⟨h1,h2⟩:=qZz K [] List.Pairwise.nil
 refine zDw (lt:=fun x y=>blt x y=true) (fun x h=>by rw[zFm] at h;cases h) (fun _ _ _ h1 h2=>zAv h1 h2) h h1 fun z=> ?_
 rw[h2 z,hm z];simp
theorem qRw{N:Nat}{d:Dl}{ks:List Int}(hk:ks.length<1000)(hd:d.2.2.2.length<1000)(hN:1000<N):qJj N d ks=some (setK ks d):=by
 unfold qJj
 rw[zKy hk hd hN]
 simp only[j0]
 have hlen:(qRh ks d).length<1000:=by
  unfold qRh;rw[g9]
  have:=List.length_filter_le (kinC ks) d.2.2.2
  omega
 unfold setK
 generalize qRh ks d=o at hlen
 have hsl:(qOg o).length=o.length:=by unfold qOg;exact List.length_mergeSort _
 have hso:qCs N o=some (qOg o):=by
  unfold qCs
  rw[if_pos (by omega)]
 rw[hso]
 simp only[j0]
 by_cases h2:o.length<2
 ·rw[if_pos (by simp only[jA];omega)]
  simp only[j0]
  congr 1
  refine qZh ?_ fun z=>qWe
  match hh:qOg o with
  |[]=>exact List.Pairwise.nil
  |[x]=>exact fB ..
  |x::y::q=>rw[hh] at hsl;simp only[jC] at hsl;omega
 ·rw[if_neg (by simp only[jA];omega)]
  obtain⟨out,r1,r2,r3⟩:=zHn (N:=N) hsl.symm (zJc o) (by omega) (by omega) ((qOg o).length-1) 1 N (by omega) (by omega) (jK 1) (by
   match hh:qOg o with
   |[]=>exact List.Pairwise.nil
   |x::q=>exact fB ..)
  rw[show qAq (qGg N o (qOg o)) N 1=_ from r1]
  simp only[j0]
  cases out with
  |inl u=>exact congrArg some (qZh (l:=qOg o) r2 fun z=>(r3 z).trans qWe)
  |inr r=>exact congrArg some (qZh (l:=r) r2 fun z=>(r3 z).trans qWe)
end
section
open Go Go.Dc Go.Proofs
theorem zIj{N:Nat}{d:Dl}{a b c:Int}(hd:d.2.2.2.length<1000)(hN:1000<N):qAq (qEd N d a b c) N (([]:List ByteArray),0)=some (qRh [a,b,c] d):=by
 have h:=qIz (L:=d.2.2.2) (fun(t:List ByteArray) (i:Nat)=>(t,(i:Int))) (f:=qEd N d a b c)
  (fun t x=> .inl (if kinC [a,b,c] x=true then t++[x.2.2.2.1] else t)) (fun t=>t) (fun i t=>t.length≤i) (by
   intro t i hi hI
   simp only[qEd]
   rw[if_pos (by simp only[jA];omega),qDf hi]
   simp only[j0,w1 (show i<1000000 by omega)]
   have e:(if(d.2.2.2[i].1==a)=true then some true else if(d.2.2.2[i].1==b)=true then some true else some (d.2.2.2[i].1==c):Option Bool)=some (kinC [a,b,c] d.2.2.2[i]):=by
    unfold kinC
    simp only[gW,List.any_nil,Bool.or_false]
    cases(d.2.2.2[i].1==a)<;>cases(d.2.2.2[i].1==b)<;>simp
   rw[e]
   simp only[j0]
   by_cases hc:kinC [a,b,c] d.2.2.2[i]=true
   ·rw[if_pos hc,if_pos hc,qDe (by simp only[jC,jE];omega) (by decide)]
    rfl
   ·rw[if_neg hc,if_neg hc]
    rfl) (by
   intro t i hi t' hI hh
   cases hh
   split
   ·simp only[jD,jC,jE];omega
   ·omega) (by
   intro t hI
   simp only[qEd]
   rw[if_neg (by simp)]) (M:=N) (t:=[]) (by omega) (jK 0)
 rw[show((0:Nat):Int)=0 from rfl] at h
 rw[h,qSk (g:=fun t x=>if kinC [a,b,c] x=true then t++[x.2.2.2.1] else t) fun _ _=>rfl,qTk,kK]
 rfl
theorem zKt{N i:Nat}{l:List ByteArray}{s:ByteArray}(hl:l.length<1000000)(hN:l.length<N):
  ((qAq (qEa N (l,(i:Int)) s) N 0).bind fun o3=>(if(decide (o3<((List.length l):Int)))=true then((idx l o3).bind fun x3=>some (x3.toList==s.toList)) else(some false):Option (Bool)).bind fun o5=>if o5=true then(some l) else((qCm 16 l ([(⟨#[]⟩:ByteArray)])).bind fun l1=>(chkS l1 (IntKind.wrap .i64 (o3+1)) (List.length l1:Int)).bind fun u5=>(chkS l1 o3 (List.length l1:Int)).bind fun u6=>(qZj l1 (IntKind.wrap .i64 (o3+1)) o3).bind fun l2=>(idx l2 o3).bind fun x4=>some (List.set l2 (Int.toNat o3) s)):Option (List (ByteArray)))=some (addB l s):=by
 have h1:=zAl (b:=blt) (e:=s) (L:=l) (f:=qEa N (l,(i:Int)) s) hl (by
  intro j hj
  simp only[qEa]
  rw[if_pos (by simp only[jA];omega),qDf hj]
  simp only[j0,w1 (show j<1000000 by omega)]
  rw[show Op.bytesLess (l[j]).toList s.toList=blt l[j] s from rfl]
  split<;>rfl) (by
  simp only[qEa]
  rw[if_neg (by simp)]
  rfl) l.length 0 N (by omega) hN
 rw[k7,jW] at h1
 have hp:=zGn (b:=blt) (e:=s) l
 unfold addB
 rw[zDx]
 refine Eq.trans (congrArg (fun z=>Option.bind z _) (show qAq (qEa N (l,(i:Int)) s) N 0=_ from h1)) ?_
 generalize posU blt s l=k at hp
 simp only[j0]
 by_cases hc:(k:Int)<(l.length:Int)
 ·have hi:k<l.length:=by omega
  rw[if_pos (by simpa using hi),qDf hi]
  simp only[j0,beqL,List.getElem?_eq_getElem hi,jI,jA]
  by_cases he:l[k]=s
  ·rw[if_pos he,if_pos he]
  ·rw[if_neg he,if_neg he]
   exact zHx hp (by decide) (by decide) hl
 ·rw[if_neg (by simpa using hc)]
  simp only[j0,jB,jG]
  rw[if_neg (by rw[List.getElem?_eq_none (by omega)];intro g;cases g)]
  exact zHx hp (by decide) (by decide) hl
theorem zMe{N:Nat}{l:List ByteArray}(hl:l.length<1000)(hN:1000<N):qIy N l=some (l.foldl addB []):=by
 have h:=qIz (L:=l) (fun(t:List ByteArray) (i:Nat)=>(t,(i:Int))) (f:=qGc N l)
  (fun t x=> .inl (addB t x)) (fun t=>t) (fun i t=>t.length≤i) (by
   intro t i hi hI
   simp only[qGc]
   rw[if_pos (by simp only[jA];omega),qDf hi]
   simp only[j0,w1 (show i<1000000 by omega)]
   exact Eq.trans (congrArg (fun z=>Option.bind z _) (zKt (N:=N) (i:=i) (l:=t) (s:=l[i]) (by omega) (by omega))) rfl) (by
   intro t i hi t' hI hh
   cases hh
   have:(addB t l[i]).length≤t.length+1:=qYu
   omega) (by
   intro t hI
   simp only[qGc]
   rw[if_neg (by simp)]) (M:=N) (t:=[]) (by omega) (jK 0)
 unfold qIy
 rw[show((0:Nat):Int)=0 from rfl] at h
 rw[h,qSk (g:=fun t x=>addB t x) fun _ _=>rfl]
 rfl
theorem qXi(ks:List Int)(d:Dl):(qRh ks d).length≤d.2.2.2.length:=by
 unfold qRh;rw[g9]
 exact List.length_filter_le ..
theorem qUs{N:Nat}{d:Dl}{a b c:Int}(hd:d.2.2.2.length<1000)(hN:1000<N):qFj N d a b c=some (setK [a,b,c] d):=by
 unfold qFj
 rw[zIj hd hN]
 simp only[j0]
 rw[zMe (by have:=qXi [a,b,c] d;omega) hN]
 rfl
theorem zLq(a:Int)(d:Dl):setK [a,a,a] d=setK [a] d:=by
 unfold setK qRh
 have e:kinC [a,a,a]=kinC [a]:=by
  funext x
  unfold kinC
  simp only[gW,List.any_nil,Bool.or_false,Bool.or_self]
 rw[e]
theorem zKj(ks:List Int)(d:Dl):(setK ks d).length≤d.2.2.2.length:=by
 have g:∀(K l:List ByteArray),(K.foldl addB l).length≤l.length+K.length:=by
  intro K
  induction K with
  |nil=>intro l;exact jK _
  |cons x K ih=>
   intro l
   have h1:=ih (addB l x)
   have h2:(addB l x).length≤l.length+1:=qYu
   simp only[gY,jC];omega
 have h1:=g (qRh ks d) []
 have h2:=qXi ks d
 unfold setK
 simp only[jE] at h1
 omega
def zIg(d:Dl):Bool:=d.2.2.2.any fun x=>x.1==10
theorem zFa:∀(l:List Ex) (t:Nat),(match run (fun t (x:Ex)=>if(x.1==10)=true then(.inr (.inr ((t:Nat):Int)):Nat⊕(Unit⊕Int)) else .inl (t+1)) (fun _=>(.inl ():Unit⊕Int)) l t with| .inl _=>some (-1)| .inr z=>some z:Option Int).bind (fun y=>some (decide (y≥0)))=some (l.any fun x=>x.1==10)
 |[],t=>rfl
 |x::l,t=>by
  simp only[run,gW]
  by_cases h:(x.1==10)=true
  ·rw[if_pos h,h]
   simp only[j0,fZ]
   rw[jU (by omega)]
  ·rw[if_neg h,show(x.1==10)=false by simpa using h,kY]
   exact zFa l (t+1)
theorem zEp{N:Nat}{d:Dl}(hd:d.2.2.2.length<1000)(hN:1000<N):qIj N d=some (zIg d):=by
 unfold qIj
 have h:=qIz (L:=d.2.2.2) (fun(_:Nat) (i:Nat)=>(i:Int)) (f:=qIf N d)
  (fun t (x:Ex)=>if(x.1==10)=true then .inr (.inr (t:Int)) else .inl (t+1)) (fun _=> .inl ()) (fun i t=>t=i) (by
   rintro t i hi rfl
   simp only[qIf,qLc]
   rw[if_pos (by simp only[jA];omega),qDf hi]
   simp only[j0,w1 (show t<1000000 by omega)]
   split<;>rfl) (by
   rintro t i hi t' rfl hh
   split at hh
   ·cases hh
   ·cases hh;rfl) (by
   rintro t rfl
   simp only[qIf]
   rw[if_neg (by simp)]) (M:=N) (t:=0) (by omega) rfl
 rw[show((0:Nat):Int)=0 from rfl] at h
 rw[h]
 simp only[j0]
 exact zFa d.2.2.2 0
theorem zHh{N:Nat}{d:Dl}(hd:d.2.2.2.length<1000)(hN:1000<N):qGs N d=some (zIg d):=by
 unfold qGs
 have h:=qIz (L:=d.2.2.2) (fun(_:Unit) (i:Nat)=>(i:Int)) (f:=qFe N d)
  (fun _ (x:Ex)=>if(x.1==10)=true then .inr (.inr true) else .inl ()) (fun _=> .inl ()) (fun _ _=>True) (by
   intro t i hi _
   simp only[qFe]
   rw[if_pos (by simp only[jA];omega),qDf hi]
   simp only[j0,w1 (show i<1000000 by omega)]
   split<;>rfl) (fun _ _ _ _ _ _=>trivial) (by
   intro t _
   simp only[qFe]
   rw[if_neg (by simp)]) (M:=N) (t:=()) (by omega) trivial
 rw[show((0:Nat):Int)=0 from rfl] at h
 rw[h,qTi (p:=fun x:Ex=>x.1==10) (b:= .inr true) (by intro x;rfl)]
 unfold zIg
 split
 ·rename_i hh;rw[hh];rfl
 ·rename_i hh;rw[(Bool.not_eq_true _).mp hh];rfl
end
section
open Go Go.Dc
def Ok{α:Type}(x:Option α)(Q:α→Prop):Prop:=∃a,x=some a∧Q a
section
variable {α β γ:Type} {Q:β→Prop}
theorem Ok.mk{a:β}(h:Q a):Ok (some a) Q:=⟨a,rfl,h⟩
theorem Ok.bind{x:Option α}{P:α→Prop}{f:α→Option β}(h:Ok x P)(k:∀a,P a→Ok (f a) Q):Ok (x.bind f) Q:=by
 obtain⟨a,rfl,ha⟩:=h
 exact k a ha
theorem Ok.mono{x:Option β}{P:β→Prop}(h:Ok x P)(k:∀a,P a→Q a):Ok x Q:=by
 obtain⟨a,e,ha⟩:=h
 exact⟨a,e,k a ha⟩
theorem Ok.assoc{x:Option α}{g:α→Option γ}{f:γ→Option β}(h:Ok (x.bind fun a=>(g a).bind f) Q):Ok ((x.bind g).bind f) Q:=by
 rw[gP];exact h
theorem Ok.ite{c:Prop}[Decidable c]{x y:Option β}(h1:c→Ok x Q)(h2:¬c→Ok y Q):Ok (if c then x else y) Q:=by
 by_cases h:c
 ·rw[if_pos h];exact h1 h
 ·rw[if_neg h];exact h2 h
theorem Ok.iteb{c:Prop}[Decidable c]{x y:Option α}{f:α→Option β}(h1:c→Ok (x.bind f) Q)(h2:¬c→Ok (y.bind f) Q):Ok ((if c then x else y).bind f) Q:=by
 by_cases h:c
 ·rw[if_pos h];exact h1 h
 ·rw[if_neg h];exact h2 h
theorem Ok.tt[Decidable (true=true)]{x y:Option β}(h:Ok x Q):Ok (if true=true then x else y) Q:=by rw[if_pos rfl];exact h
theorem Ok.ff[Decidable (false=true)]{x y:Option β}(h:Ok y Q):Ok (if false=true then x else y) Q:=by rw[if_neg gG];exact h
theorem Ok.ttb[Decidable (true=true)]{x y:Option α}{f:α→Option β}(h:Ok (x.bind f) Q):Ok ((if true=true then x else y).bind f) Q:=by rw[if_pos rfl];exact h
theorem Ok.ffb[Decidable (false=true)]{x y:Option α}{f:α→Option β}(h:Ok (y.bind f) Q):Ok ((if false=true then x else y).bind f) Q:=by rw[if_neg gG];exact h
theorem Ok.someb{a:α}{f:α→Option β}(h:Ok (f a) Q):Ok ((some a).bind f) Q:=h
theorem Ok.mapb{a:α}{g:α→γ}{f:γ→Option β}(h:Ok (f (g a)) Q):Ok (((some a).map g).bind f) Q:=h
theorem Ok.cat{x y:ByteArray}{f:ByteArray→Option β}(hs:x.size+y.size≤1000000000)(h:∀s:ByteArray,s.size=x.size+y.size→Ok (f s) Q):Ok ((catB x y).bind f) Q:=by
 unfold catB
 rw[if_pos (by simp only[maxLen];omega)]
 exact h _ (by simp)
theorem Ok.app{b:Nat}{l k:List α}{f:List α→Option β}(hs:(l.length+k.length)*b≤140737488355328)(hb:0<b)(h:Ok (f (l++k)) Q):Ok ((qCm b l k).bind f) Q:=by
 rw[qDe hs hb];exact h
theorem Ok.loop{σ:Type}{f:σ→Option (σ⊕α)}{g:α→Option β}{s:σ}{N:Nat}(I:σ→Prop)(μ:σ→Nat)(R:α→Prop)
  (h:∀s,I s→Ok (f s) fun r=>match r with| .inl s'=>I s'∧μ s'<μ s| .inr b=>R b) (hs:I s) (hN:μ s<N) (k:∀b,R b→Ok (g b) Q):Ok ((qAq f N s).bind g) Q:=by
 obtain⟨b,h1,h2⟩:=zEm I μ R (fun s hs=>by
  obtain⟨r,h1,h2⟩:=h s hs
  cases r with
  |inl s'=>exact .inr ⟨s',h1,h2.1,h2.2⟩
  |inr b=>exact .inl ⟨b,h1,h2⟩) N s hs hN
 rw[h1];exact k b h2
end
theorem qRr(a:Array UInt8):(⟨a⟩:ByteArray).size=a.size:=rfl
theorem zLg{N:Nat}{v n:Int}(hn:n≤9223372036854775807):∃r,qIv N v n=some r∧0≤r∧(1≤n→r<n):=by
 simp only[qIv]
 by_cases h:n≤1
 ·exact⟨0,by simp[h],by omega,by omega⟩
 ·have hne:n≠0:=by omega
  have h1:=Int.tmod_lt_of_pos v (show 0<n by omega)
  have h2:=Int.lt_tmod_of_pos v (show 0<n by omega)
  simp only[h,decide_false,jB,jG,remS,hne,j0]
  by_cases h3:Int.tmod v n<0
  ·refine⟨Int.tmod v n+n,?_,by omega,by omega⟩
   simp only[h3,decide_true,jH,j0]
   rw[wi64 (by omega) (by omega)]
  ·exact⟨Int.tmod v n,by simp only[h3,decide_false,jB,jG,j0],by omega,by omega⟩
theorem qUi{N:Nat}{l:List Int}{a n:Int}(h0:0≤a)(h1:a<4611686018427387904)(hn:n≤9223372036854775807):∃r,qCf N (l,a) n=some ((l,a+1),r)∧0≤r∧(1≤n→r<n):=by
 simp only[qCf]
 have hv:∃v,(if(decide (a<(List.length l:Int)))=true then((idx l a).bind fun x1=>some x1) else(some (Int.tmod (IntKind.wrap .i64 (a*7)) 11)):Option Int)=some v:=by
  by_cases h:a<(l.length:Int)
  ·exact⟨_,by simp only[h,decide_true,jH];rw[qUh h0 (by omega)];rfl⟩
  ·exact⟨_,by simp only[h,decide_false,jB,jG];rfl⟩
 obtain⟨v,hv⟩:=hv
 obtain⟨r,hr,h2,h3⟩:=zLg (N:=N) (v:=v) hn
 exact⟨r,by simp only[hv,j0,hr];rw[wi64 (by omega) (by omega)],h2,h3⟩
section
variable {β:Type} {Q:β→Prop} {N:Nat} {l:List Int} {a:Int}
theorem Ok.next{n:Int}{f:(List Int×Int)×Int→Option β}(h0:0≤a)(h1:a<4611686018427387904)(hn:1≤n)(hn2:n≤1000000)(h:∀r,0≤r→r<n→Ok (f ((l,a+1),r)) Q):Ok ((qCf N (l,a) n).bind f) Q:=by
 obtain⟨r,hr,g1,g2⟩:=qUi (N:=N) (l:=l) h0 h1 (show n≤9223372036854775807 by omega)
 rw[hr];exact h r g1 (g2 hn)
theorem Ok.chance{n m:Int}{f:(List Int×Int)×Bool→Option β}(h0:0≤a)(h1:a<4611686018427387904)(hn:1≤m)(hn2:m≤1000000)(h:∀r,Ok (f ((l,a+1),r)) Q):Ok ((qCq N (l,a) n m).bind f) Q:=by
 obtain⟨r,hr,g1,g2⟩:=qUi (N:=N) (l:=l) h0 h1 (show m≤9223372036854775807 by omega)
 simp only[qCq,hr,j0]
 exact h _
theorem Ok.one{L:List ByteArray}{f:(List Int×Int)×ByteArray→Option β}(h0:0≤a)(h1:a<4611686018427387904)(hL:0<L.length)(hL2:L.length<1000)(h:∀x∈L,Ok (f ((l,a+1),x)) Q):Ok ((qBp N (l,a) L).bind f) Q:=by
 obtain⟨r,hr,g1,g2⟩:=qUi (N:=N) (l:=l) h0 h1 (show(L.length:Int)≤9223372036854775807 by omega)
 have g2:=g2 (by omega)
 have hlt:r.toNat<L.length:=by omega
 simp only[qBp]
 rw[if_neg (by rw[kA];omega),hr]
 simp only[j0]
 rw[qUh g1 hlt]
 exact h _ (kO hlt)
theorem Ok.oneP{L:List ByteArray}{f:(List Int×Int)×ByteArray→Option β}(h0:0≤a)(h1:a<4611686018427387904)(hc:decide ((List.length L:Int)>0)=true)(hL2:L.length<1000)(hL3:∀x∈L,x.size≤12)(h:∀x:ByteArray,x.size≤12→Ok (f ((l,a+1),x)) Q):Ok ((qBp N (l,a) L).bind f) Q:=
 Ok.one h0 h1 (by have:=gJ hc;omega) hL2 fun x hx=>h x (hL3 x hx)
theorem Ok.oneS{L:List ByteArray}{f:(List Int×Int)×ByteArray→Option β}(h0:0≤a)(h1:a<4611686018427387904)(hL:(decide (0<L.length)&&decide (L.length<1000)&&L.all fun x=>decide (x.size≤12))=true)(h:∀x:ByteArray,x.size≤12→Ok (f ((l,a+1),x)) Q):Ok ((qBp N (l,a) L).bind f) Q:=by
 simp only[jJ,jA] at hL
 exact Ok.one h0 h1 hL.1.1 hL.1.2 fun x hx=>h x (by simpa using k0.1 hL.2 x hx)
theorem Ok.pick{L:List Int}{f:(List Int×Int)×Int→Option β}(h0:0≤a)(h1:a<4611686018427387904)(hL:0<L.length)(hL2:L.length<1000)(h:∀x∈L,Ok (f ((l,a+1),x)) Q):Ok ((qDd N (l,a) L).bind f) Q:=by
 obtain⟨r,hr,g1,g2⟩:=qUi (N:=N) (l:=l) h0 h1 (show(L.length:Int)≤9223372036854775807 by omega)
 have g2:=g2 (by omega)
 have hlt:r.toNat<L.length:=by omega
 simp only[qDd]
 rw[if_neg (by rw[kA];omega),hr]
 simp only[j0]
 rw[qUh g1 hlt]
 exact h _ (kO hlt)
theorem Ok.pickS{L:List Int}{f:(List Int×Int)×Int→Option β}(h0:0≤a)(h1:a<4611686018427387904)(hL:(decide (0<L.length)&&decide (L.length<1000)&&L.all fun x=>decide (0≤x∧x≤9007199254740992))=true)(h:∀x:Int,0≤x→x≤9007199254740992→Ok (f ((l,a+1),x)) Q):Ok ((qDd N (l,a) L).bind f) Q:=by
 simp only[jJ,jA] at hL
 exact Ok.pick h0 h1 hL.1.1 hL.1.2 fun x hx=>by
  have:=k0.1 hL.2 x hx
  simp only[jA] at this
  exact h x this.1 this.2
theorem qZc:∀(k D:Nat) (x:Int),k<D→k≤100→0≤x→x<10^(k+1)→x≤9223372036854775806→Ok (qHb N D x) fun s=>s.size≤k+1
 |_,0,_,h,_,_,_,_=>absurd h (kI _)
 |k,D+1,x,hk,hk9,h0,h1,h2=>by
  show Ok (qHc N (qHb N D) x) _
  unfold qHc
  have hsz:ByteArray.size (⟨#[48,49,50,51,52,53,54,55,56,57]⟩:ByteArray)=10:=rfl
  by_cases hx:x<10
  ·rw[if_pos (by simpa using hx),wi64 (by omega) (by omega),qUz h0 (by omega) (by omega)]
   refine Ok.mk ?_
   simp only[ByteArray.size_extract,hsz];omega
  ·rw[if_neg (by simpa using hx)]
   obtain⟨k,rfl⟩:∃k',k=k'+1:=by
    cases k with
    |zero=>simp at h1;omega
    |succ k=>exact⟨k,rfl⟩
   obtain⟨D,rfl⟩:∃D',D=D'+1:=⟨D-1,by omega⟩
   have e1:Int.tdiv x 10=x/10:=Int.tdiv_eq_ediv_of_nonneg h0
   have e2:Int.tmod x 10=x%10:=Int.tmod_eq_emod_of_nonneg h0
   have hp:(10:Int)^(k+1+1)=10*10^(k+1):=by rw[Int.pow_succ];omega
   rw[e1,e2,wi64 (by omega) (by omega)]
   refine Ok.bind (qZc k (D+1) (x/10) (by omega) (by omega) (by omega) (by omega) (by omega)) fun s hs=> ?_
   refine Ok.bind (qZc 0 (D+1) (x%10) (by omega) (by omega) (by omega) (by simp;omega) (by omega)) fun t ht=> ?_
   exact Ok.cat (by omega) fun u hu=>Ok.mk (by omega)
theorem zJm{x:Int}(h0:0≤x)(h1:x≤9007199254740992)(hN:100<N):Ok (qHw N x) fun s=>s.size≤16:=
 qZc 15 N x (by omega) (by omega) h0 (by rw[show(10:Int)^(15+1)=10000000000000000 from by kernel_rfl];omega) (by omega)
theorem Ok.digits{x:Int}{f:ByteArray→Option β}(h0:0≤x)(h1:x≤9007199254740992)(hN:100<N)(h:∀s:ByteArray,s.size≤16→Ok (f s) Q):Ok ((qHw N x).bind f) Q:=Ok.bind (zJm h0 h1 hN) h
end
def qOv:Nat→Nat
 |0=>8
 |d+1=>3*qOv d+8
def qSj:Nat→Nat
 |0=>22
 |d+1=>3*qSj d+20
theorem zDt:∀d,22≤qSj d
 |0=>jK _
 |d+1=>by have:=zDt d;simp only[qSj];omega
section
variable {N:Nat} {l:List Int}
def qWj(N:Nat)(l:List Int)(E:(List Int×Int)→Int→List ByteArray→Option ((List Int×Int)×ByteArray))(d:Nat)(ps:List ByteArray):Prop:=
 ∀a:Int,0≤a→a+qOv d<2000000000000000000→Ok (E (l,a) (d:Int) ps) fun y=>∃a' s,y=((l,a'),s)∧a≤a'∧a'≤a+qOv d∧s.size≤qSj d
theorem Ok.expr{β:Type}{Q:β→Prop}{E:(List Int×Int)→Int→List ByteArray→Option ((List Int×Int)×ByteArray)}{d:Nat}{ps:List ByteArray}(hE:qWj N l E d ps){a:Int}{f:(List Int×Int)×ByteArray→Option β}(h0:0≤a)(h1:a+qOv d<2000000000000000000)
  (h:∀(a':Int) (s:ByteArray),a≤a'→a'≤a+qOv d→s.size≤qSj d→Ok (f ((l,a'),s)) Q):Ok ((E (l,a) (d:Int) ps).bind f) Q:=
 Ok.bind (hE a h0 h1) fun y hy=>by
  obtain⟨a',s,rfl,g1,g2,g3⟩:=hy
  exact h a' s g1 g2 g3
theorem qYh(d:Nat)(hd:d≤5):qOv d≤10000∧qSj d≤20000:=by
 match d,hd with
 |0,_=>decide
 |1,_=>decide
 |2,_=>decide
 |3,_=>decide
 |4,_=>decide
 |5,_=>decide
set_option maxHeartbeats 4000000 in
theorem zIi{E:(List Int×Int)→Int→List ByteArray→Option ((List Int×Int)×ByteArray)}{d:Nat}{ps:List ByteArray}(hd:d=0)(hps:ps.length<1000)(hps2:∀x∈ps,x.size≤12)(hN:100<N):qWj N l (qFi N E) d ps:=by
 subst hd
 intro a h0 h1
 have hc:qOv 0=8:=rfl
 have hz:qSj 0=22:=rfl
 simp only[qFi,hc,hz,qEf,qGn]
 rw[if_pos (show decide (((0:Nat):Int)≤0)=true by decide)]
 repeat' first
  |with_reducible apply Ok.tt
  |with_reducible apply Ok.ff
  |with_reducible apply Ok.ttb
  |with_reducible apply Ok.ffb
  |with_reducible apply Ok.assoc
  |((with_reducible apply Ok.iteb)<;>intro _)
  |((with_reducible apply Ok.ite)<;>intro _)
  |with_reducible apply Ok.someb
  |with_reducible apply Ok.mapb
  |((with_reducible refine Ok.mk ⟨_,_,rfl,?_,?_,?_⟩)<;>omega)
  |((with_reducible refine Ok.next ?_ ?_ ?_ ?_ (fun _ _ _=> ?_))<;>try omega)
  |((with_reducible refine Ok.chance ?_ ?_ ?_ ?_ (fun _=> ?_))<;>try omega)
  |((with_reducible refine Ok.pickS ?_ ?_ (by decide) (fun _ _ _=> ?_))<;>try omega)
  |((with_reducible refine Ok.oneP ?_ ?_ (by assumption) hps hps2 (fun _ _=> ?_))<;>try omega)
  |((with_reducible refine Ok.oneS ?_ ?_ (by decide) (fun _ _=> ?_))<;>try omega)
  |((with_reducible refine Ok.digits ?_ ?_ hN (fun _ _=> ?_))<;>try omega)
  |((with_reducible refine Ok.cat ?_ (fun _ h=> ?_))<;>simp only[qRr,jV,jC,jE,Nat.reduceAdd] at* <;>try omega)
  |((with_reducible refine Ok.cat ?_ (fun _ _=> ?_))<;>try omega)
  |(apply Ok.iteb<;>intro _)
  |dsimp only
 all_goals omega
theorem Ok.pick01{β:Type}{Q:β→Prop}{a:Int}{f:(List Int×Int)×Int→Option β}(h0:0≤a)(h1:a<4611686018427387904)(h:∀x:Int,x=0∨x=1→Ok (f ((l,a+1),x)) Q):Ok ((qDd N (l,a) [0,0,0,1]).bind f) Q:=
 Ok.pick h0 h1 (by decide) (by decide) fun x hx=>h x (by simp at hx;omega)
theorem Ok.exprloop{β:Type}{Q:β→Prop}{E:(List Int×Int)→Int→List ByteArray→Option ((List Int×Int)×ByteArray)}{d:Nat}{ps:List ByteArray}(hE:qWj N l E d ps)(hd:d≤5){p1:Int}(hp:IntKind.wrap .i64 (p1-1)=(d:Int)){s:ByteArray}{n a:Int}{f:ByteArray×List Int×Int→Option β}
  (hn:n=0∨n=1) (h0:0≤a) (h1:a+qOv d<2000000000000000000) (hs:s.size≤100000000) (hN:100<N) (h:∀(s':ByteArray) (a':Int),a≤a'→a'≤a+qOv d→s'.size≤s.size+qSj d+2→Ok (f (s',l,a')) Q):Ok ((qAq (qHm N E p1 ps) N (s,n,l,a)).bind f) Q:=by
 have hsm:=qYh d hd
 refine Ok.loop (fun st=>∃s' n' a',st=(s',n',l,a')∧((n'=n∧a'=a∧s'=s)∨(n'=0∧a≤a'∧a'≤a+qOv d∧s'.size≤s.size+qSj d+2))) (fun st=>st.2.1.toNat) (fun b=>∃s' a',b=(s',l,a')∧a≤a'∧a'≤a+qOv d∧s'.size≤s.size+qSj d+2) ?_ ⟨s,n,a,rfl,.inl ⟨rfl,rfl,rfl⟩⟩ (by simp only;omega) ?_
 ·rintro _ ⟨s',n',a',rfl,hc⟩
  simp only[qHm]
  by_cases hn0:n'>0
  ·rw[if_pos (by simpa using hn0),hp]
   have hc:n'=n∧a'=a∧s'=s:=hc.resolve_right fun h=>by omega
   obtain⟨rfl,rfl,rfl⟩:=hc
   refine Ok.expr hE h0 h1 fun a2 t g1 g2 g3=> ?_
   refine Ok.cat (by simp only[qRr,jV,jC,jE,Nat.reduceAdd];omega) fun u hu=> ?_
   simp only[qRr,jV,jC,jE,Nat.reduceAdd] at hu
   refine Ok.cat (by omega) fun v hv=> ?_
   refine Ok.mk ⟨⟨v,_,a2,rfl,.inr ⟨by rw[wi64 (by omega) (by omega)];omega,g1,g2,by omega⟩⟩,?_⟩
   simp only
   rw[wi64 (by omega) (by omega)]
   omega
  ·rw[if_neg (by simpa using hn0)]
   refine Ok.mk ⟨s',a',rfl,?_⟩
   rcases hc with ⟨_,rfl,rfl⟩|⟨_,g1,g2,g3⟩
   ·omega
   ·exact⟨g1,g2,g3⟩
 ·rintro _ ⟨s',a',rfl,g1,g2,g3⟩
  exact h s' a' g1 g2 g3
set_option maxHeartbeats 8000000 in
theorem zJu{E:(List Int×Int)→Int→List ByteArray→Option ((List Int×Int)×ByteArray)}{d:Nat}{ps:List ByteArray}(hE:qWj N l E d ps)(hd:d≤4)(hps:ps.length<1000)(hps2:∀x∈ps,x.size≤12)(hN:100<N):qWj N l (qFi N E) (d+1) ps:=by
 intro a h0 h1
 have hc:qOv (d+1)=3*qOv d+8:=rfl
 have hz:qSj (d+1)=3*qSj d+20:=rfl
 have hge:=zDt d
 have hsm:=qYh d (by omega)
 have hw:IntKind.wrap .i64 (((d+1:Nat):Int)-1)=(d:Int):=by rw[wi64 (by omega) (by omega)];omega
 simp only[qFi,hc,hz,qEf,qGn,qEz,hw]
 repeat' first
  |with_reducible apply Ok.tt
  |with_reducible apply Ok.ff
  |with_reducible apply Ok.ttb
  |with_reducible apply Ok.ffb
  |with_reducible apply Ok.assoc
  |((with_reducible apply Ok.iteb)<;>intro _)
  |((with_reducible apply Ok.ite)<;>intro _)
  |with_reducible apply Ok.someb
  |with_reducible apply Ok.mapb
  |((with_reducible refine Ok.mk ⟨_,_,rfl,?_,?_,?_⟩)<;>omega)
  |((with_reducible refine Ok.next ?_ ?_ ?_ ?_ (fun _ _ _=> ?_))<;>try omega)
  |((with_reducible refine Ok.chance ?_ ?_ ?_ ?_ (fun _=> ?_))<;>try omega)
  |((with_reducible refine Ok.pick01 ?_ ?_ (fun _ _=> ?_))<;>try omega)
  |((with_reducible refine Ok.exprloop hE (by omega) hw (by assumption) ?_ ?_ ?_ hN (fun _ _ _ _ _=> ?_))<;>try omega)
  |((with_reducible refine Ok.expr hE ?_ ?_ (fun _ _ _ _ _=> ?_))<;>try omega)
  |((with_reducible refine Ok.pickS ?_ ?_ (by decide) (fun _ _ _=> ?_))<;>try omega)
  |((with_reducible refine Ok.oneP ?_ ?_ (by assumption) hps hps2 (fun _ _=> ?_))<;>try omega)
  |((with_reducible refine Ok.oneS ?_ ?_ (by decide) (fun _ _=> ?_))<;>try omega)
  |((with_reducible refine Ok.digits ?_ ?_ hN (fun _ _=> ?_))<;>try omega)
  |((with_reducible refine Ok.cat ?_ (fun _ h=> ?_))<;>simp only[qRr,jV,jC,jE,Nat.reduceAdd] at* <;>try omega)
  |((with_reducible refine Ok.cat ?_ (fun _ _=> ?_))<;>try omega)
  |(apply Ok.iteb<;>intro _)
  |dsimp only
 all_goals omega
theorem zLz:∀(d D:Nat) (ps:List ByteArray),d<D→d≤5→ps.length<1000→(∀x∈ps,x.size≤12)→100<N→qWj N l (qIa N D) d ps
 |_,0,_,h,_,_,_,_=>absurd h (kI _)
 |0,D+1,ps,_,_,h1,h2,hN=>zIi (E:=qIa N D) rfl h1 h2 hN
 |d+1,D+1,ps,h,hd,h1,h2,hN=>zJu (zLz d D ps (by omega) (by omega) h1 h2 hN) (by omega) h1 h2 hN
theorem zHs{d:Nat}{ps:List ByteArray}(hd:d≤5)(h1:ps.length<1000)(h2:∀x∈ps,x.size≤12)(hN:100<N):qWj N l (qGt N) d ps:=zLz d N ps (by omega) hd h1 h2 hN
theorem Ok.expr3{β:Type}{Q:β→Prop}{ps:List ByteArray}{a:Int}{f:(List Int×Int)×ByteArray→Option β}(hN:100<N)(h0:0≤a)(h1:a+10000<2000000000000000000)(hps:ps.length≤2∧∀x∈ps,x.size≤12)
  (h:∀(a':Int) (s:ByteArray),a≤a'→a'≤a+10000→s.size≤854→Ok (f ((l,a'),s)) Q):Ok ((qGt N (l,a) 3 ps).bind f) Q:=
 Ok.expr (d:=3) (zHs (by omega) (by omega) hps.2 hN) h0 (by have:qOv 3=320:=rfl;have:qOv 2=104:=rfl;omega) fun a' s g1 g2 g3=>h a' s g1 (by have:qOv 3=320:=rfl;omega) (by have:qSj 3=854:=rfl;omega)
theorem Ok.expr2{β:Type}{Q:β→Prop}{ps:List ByteArray}{a:Int}{f:(List Int×Int)×ByteArray→Option β}(hN:100<N)(h0:0≤a)(h1:a+10000<2000000000000000000)(hps:ps.length≤2∧∀x∈ps,x.size≤12)
  (h:∀(a':Int) (s:ByteArray),a≤a'→a'≤a+10000→s.size≤854→Ok (f ((l,a'),s)) Q):Ok ((qGt N (l,a) 2 ps).bind f) Q:=
 Ok.expr (d:=2) (zHs (by omega) (by omega) hps.2 hN) h0 (by have:qOv 3=320:=rfl;have:qOv 2=104:=rfl;omega) fun a' s g1 g2 g3=>h a' s g1 (by have:qOv 2=104:=rfl;omega) (by have:qSj 2=278:=rfl;omega)
set_option maxHeartbeats 8000000 in
theorem zNf{a:Int}(hN:100<N)(h0:0≤a)(h1:a<1000000000000000000):Ok (qHt N (l,a)) fun y=>∃a' s,y=((l,a'),s)∧a≤a'∧a'≤a+10010∧s.size≤890:=by
 simp only[qHt,qJt,qEf,qEz]
 repeat' first
  |with_reducible apply Ok.tt
  |with_reducible apply Ok.ff
  |with_reducible apply Ok.ttb
  |with_reducible apply Ok.ffb
  |with_reducible apply Ok.assoc
  |((with_reducible apply Ok.iteb)<;>intro _)
  |((with_reducible apply Ok.ite)<;>intro _)
  |with_reducible apply Ok.someb
  |with_reducible apply Ok.mapb
  |((with_reducible refine Ok.mk ⟨_,_,rfl,?_,?_,?_⟩)<;>omega)
  |((with_reducible refine Ok.next ?_ ?_ ?_ ?_ (fun _ _ _=> ?_))<;>try omega)
  |((with_reducible refine Ok.chance ?_ ?_ ?_ ?_ (fun _=> ?_))<;>try omega)
  |((with_reducible refine Ok.expr3 hN ?_ ?_ ?_ (fun _ _ _ _ _=> ?_))<;>first|omega|exact⟨by decide,by decide⟩|skip)
  |((with_reducible refine Ok.expr2 hN ?_ ?_ ?_ (fun _ _ _ _ _=> ?_))<;>first|omega|exact⟨by decide,by decide⟩|skip)
  |(with_reducible refine Ok.app (by simp) (by decide) ?_)
  |((with_reducible refine Ok.pickS ?_ ?_ (by decide) (fun _ _ _=> ?_))<;>try omega)
  |((with_reducible refine Ok.oneS ?_ ?_ (by decide) (fun _ _=> ?_))<;>try omega)
  |((with_reducible refine Ok.digits ?_ ?_ hN (fun _ _=> ?_))<;>try omega)
  |((with_reducible refine Ok.cat ?_ (fun _ h=> ?_))<;>simp only[qRr,jV,jC,jE,Nat.reduceAdd] at* <;>try omega)
  |((with_reducible refine Ok.cat ?_ (fun _ _=> ?_))<;>try omega)
  |(apply Ok.iteb<;>intro _)
  |dsimp only
 all_goals omega
theorem Has_ok{L:List ByteArray}{x:ByteArray}(hL:L.length<1000000)(hN:L.length<N):Ok (qHj N L x) fun _=>True:=by
 unfold qHj
 refine Ok.loop (fun st=>∃j:Nat,st=(j:Int)∧j≤L.length) (fun st=>L.length-st.toNat) (fun _=>True) ?_ ⟨0,rfl,kM _⟩ (by show L.length-(0:Int).toNat<N;omega) ?_
 ·rintro _ ⟨j,rfl,hj⟩
  simp only[qJh]
  by_cases h:j<L.length
  ·rw[if_pos (by simpa using h),qDf h]
   simp only[j0]
   refine Ok.ite (fun _=>Ok.mk trivial) fun _=>Ok.mk ⟨⟨j+1,by rw[wi64 (by omega) (by omega)];omega,by omega⟩,?_⟩
   rw[wi64 (by omega) (by omega)];omega
  ·rw[if_neg (by simpa using h)];exact Ok.mk trivial
 ·intro b _
  cases b<;>exact Ok.mk trivial
theorem Ok.has{β:Type}{Q:β→Prop}{L:List ByteArray}{x:ByteArray}{f:Bool→Option β}(hL:L.length<1000000)(hN:L.length<N)(h:∀b,Ok (f b) Q):Ok ((qHj N L x).bind f) Q:=Ok.bind (Has_ok hL hN) fun b _=>h b
theorem Ok.decl{β:Type}{Q:β→Prop}{a:Int}{f:(List Int×Int)×ByteArray→Option β}(hN:100<N)(h0:0≤a)(h1:a<1000000000000000000)
  (h:∀(a':Int) (s:ByteArray),a≤a'→a'≤a+10010→s.size≤890→Ok (f ((l,a'),s)) Q):Ok ((qHt N (l,a)).bind f) Q:=
 Ok.bind (zNf hN h0 h1) fun y hy=>by
  obtain⟨a',s,rfl,g1,g2,g3⟩:=hy
  exact h a' s g1 g2 g3
theorem zMd{β:Type}{Q:β→Prop}{y:(List Int×Int)×ByteArray}{f:ByteArray→Option β}(hs:y.2.size≤890)(hN:3000<N)(h:∀s:ByteArray,Ok (f s) Q):Ok ((qAq (qGr N y) N (y.2,0)).bind f) Q:=by
 refine Ok.loop (fun st=>∃j:Nat,st.2=(j:Int)∧j≤y.2.size) (fun st=>y.2.size-st.2.toNat) (fun _=>True) ?_ ⟨0,rfl,kM _⟩ (by simp only;omega) (fun b _=>h b)
 rintro⟨s,_⟩ ⟨j,rfl,hj⟩
 simp only[qGr]
 by_cases hlt:j<y.2.size
 ·rw[if_pos (by simpa using hlt),zEh hlt]
  simp only[j0]
  refine Ok.bind (P:=fun _=>True) (Ok.ite (fun _=>Ok.mk trivial) fun _=>Ok.mk trivial) fun b _=> ?_
  refine Ok.ite (fun _=> ?_) fun _=> ?_
  ·rw[qUz (by omega) (by omega) (by omega)];exact Ok.mk trivial
  ·refine Ok.mk ⟨⟨j+1,by simp only;rw[wi64 (by omega) (by omega)];omega,by omega⟩,?_⟩
   simp only;rw[wi64 (by omega) (by omega)];omega
 ·rw[if_neg (by simpa using hlt)];exact Ok.mk trivial
theorem zHg{a:Int}{pk:ByteArray}(hN:3000<N)(h0:0≤a)(h1:a<100000000000000000)(hp:pk.size≤12):Ok (qHx N (l,a) pk) fun y=>∃a' s,y=((l,a'),s)∧a≤a'∧a'≤a+100000∧s.size≤4700:=by
 simp only[qHx]
 refine Ok.cat (by simp only[qRr,jV,jC,jE,Nat.reduceAdd];omega) fun s1 e1=> ?_
 simp only[qRr,jV,jC,jE,Nat.reduceAdd] at e1
 refine Ok.cat (by simp only[qRr,jV,jC,jE,Nat.reduceAdd];omega) fun s2 e2=> ?_
 simp only[qRr,jV,jC,jE,Nat.reduceAdd] at e2
 refine Ok.chance h0 (by omega) (by omega) (by omega) fun c=> ?_
 refine Ok.bind (P:=fun s:ByteArray=>s.size≤60) (Ok.ite (fun _=>Ok.cat (by simp only[qRr,jV,jC,jE,Nat.reduceAdd];omega) fun s3 e3=>Ok.mk (by simp only[qRr,jV,jC,jE,Nat.reduceAdd] at e3;omega)) fun _=>Ok.mk (by omega)) fun o1 e3=> ?_
 dsimp only
 refine Ok.next (by omega) (by omega) (by omega) (by omega) fun r g1 g2=> ?_
 dsimp only
 -- imports
 refine Ok.loop (fun st=>∃s L n a',st=(s,L,n,l,a')∧0≤n∧n≤2∧(L.length:Int)+n≤2∧(s.size:Int)≤60+30*(2-n)∧a≤a'∧a'≤a+10+(2-n)) (fun st=>st.2.2.1.toNat) (fun b=>∃s a',b=(s,l,a')∧s.size≤120∧a≤a'∧a'≤a+20) ?_ ⟨o1,[],r,a+1+1,rfl,g1,by omega,by simp only[jE];omega,by omega,by omega,by omega⟩ (by simp only;omega) ?_
 ·rintro _ ⟨s,L,n,a',rfl,k1,k2,k3,k4,k5,k6⟩
  simp only[qIc,qFo]
  by_cases hn:n>0
  ·rw[if_pos (by simpa using hn)]
   refine Ok.assoc (Ok.someb ?_)
   refine Ok.assoc (Ok.oneS (by omega) (by omega) (by decide) fun x hx=> ?_)
   dsimp only
   refine Ok.assoc (Ok.bind (P:=fun _=>True) (Ok.ite (fun _=>Ok.has (by omega) (by omega) fun b=>Ok.mk trivial) fun _=>Ok.mk trivial) fun o4 _=> ?_)
   refine Ok.iteb (fun _=> ?_) fun _=> ?_
   ·refine Ok.assoc (Ok.app (by simp only[jC,jE];omega) (by decide) ?_)
    refine Ok.assoc (Ok.cat (by simp only[qRr,jV,jC,jE,Nat.reduceAdd];omega) fun t1 f1=> ?_)
    simp only[qRr,jV,jC,jE,Nat.reduceAdd] at f1
    refine Ok.assoc (Ok.cat (by simp only[qRr,jV,jC,jE,Nat.reduceAdd];omega) fun t2 f2=> ?_)
    simp only[qRr,jV,jC,jE,Nat.reduceAdd] at f2
    refine Ok.assoc (Ok.cat (by omega) fun t3 f3=>Ok.someb (Ok.mk ?_))
    dsimp only
    rw[wi64 (by omega) (by omega)]
    exact⟨⟨t3,_,_,_,rfl,by omega,by omega,by simp only[jD,jC,jE];omega,by omega,by omega,by omega⟩,by omega⟩
   ·refine Ok.someb (Ok.mk ?_)
    dsimp only
    rw[wi64 (by omega) (by omega)]
    exact⟨⟨s,_,_,_,rfl,by omega,by omega,by omega,by omega,by omega,by omega⟩,by omega⟩
  ·rw[if_neg (by simpa using hn)]
   exact Ok.mk ⟨s,a',rfl,by omega,k5,by omega⟩
 rintro _ ⟨s,b1,rfl,q1,q2,q3⟩
 dsimp only
 refine Ok.next (by omega) (by omega) (by omega) (by omega) fun r2 g3 g4=> ?_
 dsimp only
 -- declarations
 refine Ok.loop (fun st=>∃s L n a',st=(s,L,n,l,a')∧0≤n∧n≤5∧(L.length:Int)+n≤5∧(s.size:Int)≤120+890*(5-n)∧a≤a'∧a'≤a+100+10020*(5-n)) (fun st=>st.2.2.1.toNat) (fun b=>∃s a',b=(s,l,a')∧s.size≤4580∧a≤a'∧a'≤a+60000) ?_ ⟨s,[],_,b1+1,rfl,by rw[wi64 (by omega) (by omega)];omega,by rw[wi64 (by omega) (by omega)];omega,by rw[wi64 (by omega) (by omega)];simp only[jE];omega,by rw[wi64 (by omega) (by omega)];omega,by omega,by rw[wi64 (by omega) (by omega)];omega⟩ (by simp only;rw[wi64 (by omega) (by omega)];omega) ?_
 ·rintro _ ⟨s,L,n,a',rfl,k1,k2,k3,k4,k5,k6⟩
  simp only[qId]
  by_cases hn:n>0
  ·rw[if_pos (by simpa using hn)]
   refine Ok.assoc (Ok.decl (by omega) (by omega) (by omega) fun a2 d v1 v2 v3=> ?_)
   refine Ok.assoc (zMd (y:=((l,a2),d)) v3 hN fun hd=> ?_)
   dsimp only
   refine Ok.assoc (Ok.bind (P:=fun o:Bool×List Int×Int=>o.2.1=l∧a2≤o.2.2∧o.2.2≤a2+1) (Ok.has (by omega) (by omega) fun b=>Ok.ite (fun _=>Ok.mk ⟨rfl,by simp only;omega,by simp only;omega⟩) fun _=>Ok.chance (by omega) (by omega) (by omega) (by omega) fun c=>Ok.mk ⟨rfl,by simp only;omega,by simp only;omega⟩) fun o9 h9=> ?_)
   obtain⟨b9,l9,a9⟩:=o9
   obtain⟨rfl,w1,w2⟩:=h9
   dsimp only at w1 w2 ⊢
   refine Ok.iteb (fun _=> ?_) fun _=> ?_
   ·refine Ok.assoc (Ok.app (by simp only[jC,jE];omega) (by decide) ?_)
    refine Ok.assoc (Ok.cat (by omega) fun t3 f3=>Ok.someb (Ok.mk ?_))
    dsimp only
    rw[wi64 (by omega) (by omega)]
    exact⟨⟨t3,_,_,_,rfl,by omega,by omega,by simp only[jD,jC,jE];omega,by omega,by omega,by omega⟩,by omega⟩
   ·refine Ok.someb (Ok.mk ?_)
    dsimp only
    rw[wi64 (by omega) (by omega)]
    exact⟨⟨s,_,_,_,rfl,by omega,by omega,by omega,by omega,by omega,by omega⟩,by omega⟩
  ·rw[if_neg (by simpa using hn)]
   exact Ok.mk ⟨s,a',rfl,by omega,k5,by omega⟩
 rintro _ ⟨s,b2,rfl,u1,u2,u3⟩
 dsimp only
 refine Ok.chance (by omega) (by omega) (by omega) (by omega) fun c=> ?_
 dsimp only
 refine Ok.iteb (fun _=> ?_) fun _=> ?_
 ·refine Ok.assoc (Ok.oneS (by omega) (by omega) (by decide) fun x hx=> ?_)
  dsimp only
  refine Ok.assoc (Ok.cat (by omega) fun t f1=>Ok.someb (Ok.mk ?_))
  dsimp only
  refine⟨_,_,rfl,?_,?_,?_⟩<;>omega
 ·refine Ok.someb (Ok.mk ?_)
  dsimp only
  refine⟨_,_,rfl,?_,?_,?_⟩<;>omega
end
end
section
open Go Go.Dc Go.Proofs
def mnT:ByteArray:=⟨#[112,97,99,107,97,103,101,32,112,59,32,105,109,112,111,114,116,32,113,59,32,116,101,115,116,32,116,32,61,32,102,40,114,101,97,100,40,34,97,46,100,97,116,34,44,32,102,108,105,112,40,48,41,41,41,59]⟩
def mnS:ByteArray:=⟨#[112,97,99,107,97,103,101,32,112,59,10,105,109,112,111,114,116,32,113,59,10,116,101,115,116,32,116,32,61,32,102,40,114,101,97,100,40,34,97,46,100,97,116,34,44,32,102,108,105,112,40,48,41,41,41,59,10]⟩
def mnE(a:Int):List Ex:=[(10,a,0,emB,[]),(6,0,0,⟨#[97,46,100,97,116]⟩,[0]),(3,0,0,⟨#[102]⟩,[1])]
def mnD(a:Int):Dl:=(2,⟨#[116]⟩,[],mnE a)
def mnL:Sr:=(⟨#[112]⟩,[⟨#[113]⟩],[mnD 0])
def mnF:Sr:=(⟨#[112]⟩,[],[(1,⟨#[102]⟩,[],mnE 0)])
theorem mn_p:qZt mnT=(mnL,0,0):=by kernel_rfl
theorem zIv:qTd mnL=0:=by kernel_rfl
theorem zMn:qTd mnF=0:=by kernel_rfl
theorem zEk:∀e∈mnE 0,e.2.2.2.1.size≤1048576∧e.2.2.2.2.length<2000000:=fun e he=>by
 have he:e∈[((10,0,0,emB,[]):Ex),(6,0,0,⟨#[97,46,100,97,116]⟩,[0]),(3,0,0,⟨#[102]⟩,[1])]:=he
 simp only[jM,gN,or_false] at he
 rcases he with rfl|rfl|rfl
 ·exact⟨by show 0≤1048576;decide,by decide⟩
 ·exact⟨by show 5≤1048576;decide,by decide⟩
 ·exact⟨by show 1≤1048576;decide,by decide⟩
theorem mn_sm:SmSr mnL:=by
 refine⟨by show 1<2000000;decide,by show 1<2000000;decide,fun d hd=> ?_⟩
 have hd:d=mnD 0:=kF.1 hd
 subst hd
 exact⟨by show(1:Nat)≤1048576;decide,by show 0<2000000;decide,by show 3<2000000;decide,zEk⟩
theorem mn_smF:SmSr mnF:=by
 refine⟨by show 0<2000000;decide,by show 1<2000000;decide,fun d hd=> ?_⟩
 have hd:d=(1,⟨#[102]⟩,[],mnE 0):=kF.1 hd
 subst hd
 exact⟨by show(1:Nat)≤1048576;decide,by show 0<2000000;decide,by show 3<2000000;decide,zEk⟩
theorem it0:itB 0=⟨#[48]⟩:=ba_ext (by
 rw[show itB 0=itB ((0:Nat):Int) from rfl,zLm,Lib.decDigits_one (by decide)]
 rfl)
theorem mn_w(a:Int):wrD (mnD a)=((⟨#[102]⟩:ByteArray)++(⟨#[40]⟩:ByteArray)).data.toList++(qWz 0 [(((⟨#[114,101,97,100,40,34]⟩:ByteArray)++(⟨#[97,46,100,97,116]⟩:ByteArray))++(⟨#[34,44,32]⟩:ByteArray)).data.toList++((((⟨#[102,108,105,112,40]⟩:ByteArray)++itB a)++(⟨#[41]⟩:ByteArray)).data.toList++[41])]++[41]):=by kernel_rfl
def mnW:List UInt8:=[102,40,114,101,97,100,40,34,97,46,100,97,116,34,44,32,102,108,105,112,40,48,41,41,41]
theorem mn_w0:wrD (mnD 0)=mnW:=by
 rw[mn_w,it0]
 rfl
theorem qDx{α β:Type}{x:Option α}{v:α}{f:α→Option β}{r:Option β}(h:x=some v)(h2:f v=r):Option.bind x f=r:=by
 subst h;exact h2
theorem zMj{N:Nat}(hN:3000000<N):qNn N (mnE 0) []=some (qMi mnW,0):=by
 have hc:qIn N mnF=_:=qZs mn_smF hN
 rw[zMn] at hc
 obtain⟨g1,-,g3,-⟩:=(zDq zIv).decs (mnD 0) (kF.2 rfl)
 have hw:qKp N (mnE 0) []=some (qMi (wrD (mnD 0)),(depD (mnD 0):Int)):=(zLl g1 g3 hN).1
 unfold qNn
 refine qDx (show qIn N mnF=some 0 from hc) ?_
 refine Eq.trans (if_neg (by decide)) ?_
 refine qDx hw ?_
 rw[mn_w0]
theorem mtx_L1{N:Nat}{f:Sr}(h:GoodS f)(hN:3000000<N){t0:List UInt8}(ht:t0.length≤100):qAq (qIb N f) N (0,t0)=some (t0++f.2.1.flatMap impT)∧(t0++f.2.1.flatMap impT).length≤600:=by
 have hn:=h.impn
 have hlen:∀s∈f.2.1,(impT s).length≤40:=fun s hs=>by
  have:=qQz (h.imps s hs)
  have z1:(⟨#[105,109,112,111,114,116,32]⟩:ByteArray).size=7:=rfl
  have z2:(⟨#[59,10]⟩:ByteArray).size=2:=rfl
  unfold impT
  simp only[szl,ByteArray.size_append];omega
 constructor
 ·have hl:=qIz (L:=f.2.1) (fun(t:List UInt8) (i:Nat)=>((i:Int),t)) (f:=qIb N f)
   (fun t s=> .inl (t++impT s)) (fun t=>t) (fun i t=>t.length≤100+40*i) (by
    intro t i hi hI
    have h1:=qQz (h.imps _ (kO hi))
    simp only[qIb]
    rw[if_pos (by simp only[jA];omega),qDf hi]
    have ew:IntKind.wrap .i64 ((i:Int)+1)=((i+1:Nat):Int):=by rw[wi64 (by omega) (by omega)];omega
    have z1:(⟨#[105,109,112,111,114,116,32]⟩:ByteArray).size=7:=rfl
    have z2:(⟨#[59,10]⟩:ByteArray).size=2:=rfl
    simp only[j0]
    rw[catW (by omega)]
    simp only[j0]
    rw[catW (by rw[ByteArray.size_append];omega)]
    simp only[j0]
    rw[app1 (by simp only[szl,ByteArray.size_append];omega)]
    simp only[j0,ew]
    rfl) (by
    intro t i hi t' hI hh
    cases hh
    have:=hlen _ (kO hi)
    simp only[jD];omega) (by
    intro t hI
    simp only[qIb]
    rw[if_neg (by simp)]) (M:=N) (t:=t0) (by omega) (by omega)
  rw[show((0:Nat):Int)=0 from rfl] at hl
  rw[hl,qSk (fun t s=>t++impT s) (fun _ _=>rfl),qXr]
 ·have:∀l:List ByteArray,(∀s∈l,(impT s).length≤40)→(l.flatMap impT).length≤40*l.length:=fun l=>by
   induction l with
   |nil=>intro _;exact kM _
   |cons s l ih=>
    intro hl
    have i1:=hl s (jN ..)
    have i2:=ih fun x hx=>hl x (jX _ hx)
    simp only[kT,jD,jC];omega
  have:=this _ hlen
  rw[jD];omega
theorem zNk{N:Nat}(hN:3000000<N):qMg N mnL 0=some (mnS,0):=by
 have hc:qIn N mnL=_:=qZs mn_sm hN
 rw[zIv] at hc
 unfold qMg
 refine qDx hc ?_
 refine Eq.trans (if_neg (by decide)) ?_
 refine qDx (v:=false) rfl ?_
 refine Eq.trans (if_neg (by decide)) ?_
 refine qDx (v:=mnD 0) rfl ?_
 refine qDx (zMj hN) ?_
 refine Eq.trans (if_neg (by decide)) ?_
 refine qDx (v:=(⟨#[112,97,99,107,97,103,101,32,112]⟩:ByteArray)) rfl ?_
 refine qDx (v:=(⟨#[112,97,99,107,97,103,101,32,112,59,10]⟩:ByteArray)) rfl ?_
 refine qDx (v:=([112,97,99,107,97,103,101,32,112,59,10]:List UInt8)) rfl ?_
 refine qDx (v:=([112,97,99,107,97,103,101,32,112,59,10,105,109,112,111,114,116,32,113,59,10]:List UInt8)) ?_ ?_
 ·exact(mtx_L1 (zDq zIv) hN (t0:=([112,97,99,107,97,103,101,32,112,59,10]:List UInt8)) (by decide)).1
 refine qDx (v:=([112,97,99,107,97,103,101,32,112,59,10,105,109,112,111,114,116,32,113,59,10,116,101,115,116,32,116,32,61,32]:List UInt8)) rfl ?_
 rfl
theorem zKr{N:Nat}(hN:3000000<N):qHv N=some true:=by
 have h1:qFk N mnT=some (mnL,0,0):=by rw[qWn _ (by omega),mn_p]
 have hd:(mnD 0).2.2.2.length<1000:=by show 3<1000;decide
 have c1:qHq N (mnD 0)=some [⟨#[102]⟩]:=by
  unfold qHq
  rw[qRw (by decide) hd (by omega)]
  exact congrArg some (by kernel_rfl)
 have c2:qHn N (mnD 0)=some [⟨#[97,46,100,97,116]⟩]:=by
  unfold qHn
  rw[qRw (by decide) hd (by omega)]
  exact congrArg some (by kernel_rfl)
 have c3:qIj N (mnD 0)=some true:=by
  rw[zEp hd (by omega)]
  exact congrArg some (by kernel_rfl)
 unfold qHv
 refine qDx h1 ?_
 refine Eq.trans (if_neg (by decide)) ?_
 refine qDx (zNk hN) ?_
 refine qDx (v:=mnD 0) rfl ?_
 refine qDx (v:=mnD 0) rfl ?_
 refine qDx c1 ?_
 refine qDx c2 ?_
 refine qDx (v:=true) ?_ rfl
 refine Eq.trans (if_pos rfl) (Eq.trans (if_pos (kS mnS.toList)) (Eq.trans (if_pos rfl) ?_))
 refine qDx (v:=(⟨#[102]⟩:ByteArray)) rfl ?_
 refine Eq.trans (if_pos (kS (⟨#[102]⟩:ByteArray).toList)) (Eq.trans (if_pos rfl) ?_)
 refine qDx (v:=(⟨#[97,46,100,97,116]⟩:ByteArray)) rfl ?_
 refine Eq.trans (if_pos (kS (⟨#[97,46,100,97,116]⟩:ByteArray).toList)) ?_
 refine qDx (v:=mnD 0) rfl ?_
 refine qDx c3 ?_
 rfl
theorem zDc{N:Nat}{l:List ByteArray}(h:l.length<1000000)(hN:l.length<N):qCr N l l=some true:=by
 unfold qCr
 rw[if_neg (by simp),each0 (n:=l.length) (b:=(.inl ():Unit⊕Bool)) (fun i hi=>by
  simp only[qFf]
  rw[if_pos (by simp only[jA];omega),qDf hi]
  have ew:IntKind.wrap .i64 ((i:Int)+1)=((i+1:Nat):Int):=by rw[wi64 (by omega) (by omega)];omega
  simp only[j0,kS,kQ,jB,jG,ew]) (by
  simp only[qFf]
  rw[if_neg (by simp)]) hN]
 rfl
theorem zJo{N:Nat}{l:List Int}(hN:3000000<N):Ok (qHl N (l,0)) fun y=>okSr y.2:=by
 unfold qHl qFo
 refine Ok.someb ?_
 refine Ok.oneS (by omega) (by omega) (by decide) fun x hx=> ?_
 refine Ok.bind (zHg (by omega) (by omega) (by omega) hx) fun y hy=> ?_
 rw[qWn _ (by omega)]
 exact Ok.mk (zHf _)
theorem zFr{N:Nat}{d:Dl}(hd:d.2.2.2.length<1000)(hN:3000000<N):
  ((qHq N d).bind fun y2=>(qGu N d).bind fun y3=>(qCr N y2 y3).bind fun y4=>if(!y4)=true then(some true) else((qHn N d).bind fun y5=>(qGx N d).bind fun y6=>(qCr N y5 y6).bind fun y7=>if(!y7)=true then(some true) else((qHs N d).bind fun y8=>(qEp N d).bind fun y9=>(qCr N y8 y9).bind fun y10=>if(!y10)=true then(some true) else((qIj N d).bind fun y11=>(qGs N d).bind fun y12=>some (!(y11==y12))))):Option (Bool))=some false:=by
 have a1:qHq N d=some (setK [3] d):=by unfold qHq;rw[qRw (by decide) hd (by omega)];rfl
 have a2:qHn N d=some (setK [6,7,8] d):=by unfold qHn;rw[qRw (by decide) hd (by omega)];rfl
 have a3:qHs N d=some (setK [9] d):=by unfold qHs;rw[qRw (by decide) hd (by omega)];rfl
 have b1:qGu N d=some (setK [3] d):=by unfold qGu;rw[qUs hd (by omega),zLq];rfl
 have b2:qGx N d=some (setK [6,7,8] d):=by unfold qGx;rw[qUs hd (by omega)];rfl
 have b3:qEp N d=some (setK [9] d):=by unfold qEp;rw[qUs hd (by omega),zLq];rfl
 have s1:∀ks,qCr N (setK ks d) (setK ks d)=some true:=fun ks=>by
  have:=zKj ks d
  exact zDc (by omega) (by omega)
 refine qDx a1 (qDx b1 (qDx (s1 _) ?_))
 refine Eq.trans (if_neg (by decide)) ?_
 refine qDx a2 (qDx b2 (qDx (s1 _) ?_))
 refine Eq.trans (if_neg (by decide)) ?_
 refine qDx a3 (qDx b3 (qDx (s1 _) ?_))
 refine Eq.trans (if_neg (by decide)) ?_
 refine qDx (zEp hd (by omega)) (qDx (zHh hd (by omega)) ?_)
 simp
theorem zGa{N:Nat}{l:List Dl}(hl:l.length<1000)(hd:∀d∈l,d.2.2.2.length<1000)(hN:3000000<N):qAq (qCo N l) N 0=some (.inl ()):=
 each0 (n:=l.length) (fun i hi=>by
  simp only[qCo]
  rw[if_pos (by simp only[jA];omega),qDf hi]
  simp only[j0]
  rw[zFr (hd _ (kO hi)) hN]
  simp only[j0,jB,jG,w1 (show i<1000000 by omega)]) (by
  simp only[qCo]
  rw[if_neg (by simp)]) (by omega)
theorem qVr{N:Nat}(hN:3000000<N)(l:List Int)(d:Dl):qEs N l d=some true:=by
 obtain⟨y,hy,hok⟩:=zJo (N:=N) (l:=l) hN
 obtain⟨-,k2,k3⟩:=hok
 unfold qEs
 refine qDx hy ?_
 have ho:∃b:List Ex,(if(decide ((List.length d.2.2.2:Int)>40))=true then((subS d.2.2.2 0 40).bind fun l1=>some l1) else(some d.2.2.2):Option (List Ex))=some b∧b.length≤40:=by
  by_cases h:(List.length d.2.2.2:Int)>40
  ·refine⟨(d.2.2.2.take 40).drop 0,?_,by simp only[k7,kD];omega⟩
   rw[if_pos (by simpa using h),qSc (by decide) (by decide) (by omega)]
   rfl
  ·exact⟨d.2.2.2,if_neg (by simpa using h),by omega⟩
 obtain⟨b,hb,hbl⟩:=ho
 refine qDx hb ?_
 have hlen:y.2.2.2.length≤64:=k2
 refine qDx (v:=y.2.2.2) (by rw[qDe (by simp only[jE];omega) (by decide)];rfl) ?_
 refine qDx (v:=y.2.2.2++[(d.1,d.2.1,d.2.2.1,b)]) (qDe (by simp only[jC,jE];omega) (by decide)) ?_
 refine qDx (zGa (by simp only[jD,jC,jE];omega) (fun e he=>by
  rcases kZ.1 he with h|h
  ·have:=(k3 e h).2.1
   omega
  ·rw[kF.1 h]
   show b.length<1000
   omega) hN) ?_
 refine qDx (zKr hN) ?_
 rfl
theorem testgatelaw06_MentionLists_true(l:List Int){G:Prop}(_gl:G)(d:Dl){H:Prop}(_gd:H):∃N,qEs N l d=some true:=⟨3000001,qVr (by decide) l d⟩
end
end Go.Proofs.YtcdpbapbpcpflaaGreatDoor
