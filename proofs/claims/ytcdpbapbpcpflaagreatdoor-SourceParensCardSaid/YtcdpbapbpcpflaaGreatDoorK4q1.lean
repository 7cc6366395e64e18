/- No condition but those of each theorem. -/
import Derived.Test.YtcdpbapbpcpflaaGreatDoorProg
import Derived.WalkKit
import Derived.Deep.LoopGhost
import Derived.KernelRfl
import Derived.OrdersHeld
import Derived.OrdersIn
import Derived.LoopNIn
import Derived.Sort.LoopGhostIn
import Derived.Laws.AppendOwn
import Derived.RangeFuncLeaves
import Derived.RangeFuncRecord
import Derived.MapKept
import Derived.Maps.RangeRun
import Derived.ChangeKeysEq
import Derived.HandedShaped
import Derived.ChangeStays
import Derived.ChangeSame
import Derived.OpenShut
import Derived.WideShapes
import Derived.JoinedOf
import Derived.ReadAgain
import Derived.ChangeAt
import Derived.RowKit
import Derived.Lib.Overlaps
import Derived.WalkSmall
import Derived.Recover
import Derived.Lib.Builder
import Derived.Lib.UnsafeStr
import Derived.Shelf.Strconv.Itoa3
import Derived.Lib.Bytealg
import Derived.Test.YtcdpbapbpcpflaaGreatDoorK3q1
namespace Go.Proofs.YtcdpbapbpcpflaaGreatDoor
section
open Go Go.Dc
section
variable {N:Nat} {ts:List Tok} {pr:List ByteArray} {b:List Ex}
theorem zGc(hok:OkT ts)(hl:ts.length<1000000)(hN:1000001<N)(ht:∀j,(tkAt ts j).2.1.size<100000){before:List Dl}(hb:before.length≤64){i:Nat}(hi:i<ts.length):
  qGh N (ts,(i:Int),pr,b) before=some (Sum.map id (fun a:Nat×Dl=>((ts,(a.1:Int),a.2.2.2.1,a.2.2.2.2),a.2)) (qSg ts before i)):=by
 have hw:=qMg (show i<1000000 by omega)
 unfold qGh
 obtain⟨mp1,hm1,hm⟩:=jG.1 zDk
 obtain⟨mp2,hm2,hm3⟩:=jG.1 hm
 rw[hm1];simp only[j0]
 rw[hm2];simp only[j0]
 rw[hm3];simp only[j0,qIg hi,qYs,qBe,qSg]
 by_cases k1:(tkAt ts i).1≠1∨qKe (tkAt ts i).2.1=0
 ·rw[if_pos k1]
  have:((if((tkAt ts i).1 !=1)=true then some true else some (qKe (tkAt ts i).2.1==0)):Option Bool)=some true:=by
   rcases k1 with h|h
   ·simp[h]
   ·simp[h]
  rw[this];rfl
 rw[if_neg k1]
 have k1a:(tkAt ts i).1=1:=by
  apply Decidable.byContradiction
  intro h;exact k1 (.inl h)
 have k1b:¬qKe (tkAt ts i).2.1=0:=fun h=>k1 (.inr h)
 have:((if((tkAt ts i).1 !=1)=true then some true else some (qKe (tkAt ts i).2.1==0)):Option Bool)=some false:=by simp[k1a,k1b]
 rw[this]
 simp only[j0,jB,jK]
 by_cases k2:before.length=64
 ·rw[if_pos (show((before.length:Int)==64)=true by simp;omega),if_pos k2];rfl
 rw[if_neg (show ¬((before.length:Int)==64)=true by simp;omega),if_neg k2]
 have g:=hok.next hi (show(tkAt ts i).1≠5 by rw[k1a];decide)
 simp only[j0,hw]
 have hx:(if(qKe (tkAt ts i).2.1==3)=true then((qCv N (ts,((i+1:Nat):Int),pr,b)).bind fun y6=>(match y6 with| .inl z3=>some (.inr (.inl z3))| .inr y7=>some (.inl (y7.1.1,y7.1.2.1,y7.1.2.2.1,y7.1.2.2.2,y7.2.1,y7.2.2.1,y7.2.2.2.1,y7.2.2.2.2)))) else((qCu N (ts,((i+1:Nat):Int),pr,b)).bind fun y8=>(match y8 with| .inl z4=>some (.inr (.inl z4))| .inr y9=>some (.inl (y9.1.1,y9.1.2.1,y9.1.2.2.1,y9.1.2.2.2,y9.2.1,y9.2.2.1,y9.2.2.2.1,y9.2.2.2.2)))):Option ((List Tok×Int×List ByteArray×List Ex×Int×ByteArray×Int×Int)⊕(Flt⊕(StT×Dl))))=
   some (match(if qKe (tkAt ts i).2.1=3 then qPl ts (i+1) else qOr ts (i+1)) with| .inl z=> .inr (.inl z)| .inr a=> .inl (ts,(a.1:Int),pr,b,a.2.1,a.2.2.1,a.2.2.2.1,a.2.2.2.2)):=by
  by_cases k3:qKe (tkAt ts i).2.1=3
  ·rw[if_pos (show(qKe (tkAt ts i).2.1==3)=true by simpa using k3),if_pos k3,qUj g hl (by omega) ht]
   cases qPl ts (i+1)<;>rfl
  ·rw[if_neg (show ¬(qKe (tkAt ts i).2.1==3)=true by simpa using k3),if_neg k3,qTj g hl]
   cases qOr ts (i+1)<;>rfl
 refine Eq.trans (congrArg (fun z=>Option.bind z _) hx) ?_
 simp only[j0]
 cases hX:(if qKe (tkAt ts i).2.1=3 then qPl ts (i+1) else qOr ts (i+1)) with
 |inl z=>rfl
 |inr x=>
  have gx:x.1=i+1+1∧x.1<ts.length:=by
   split at hX
   ·obtain⟨rfl,g1,-⟩:=qKd hok g hX;exact⟨rfl,g1⟩
   ·obtain⟨rfl,g1,-⟩:=qJz hok g hX;exact⟨rfl,g1⟩
  simp only[qCy]
  have hT:=qTh (N:=N) (before:=before) (y1:=((ts,(i:Int),pr,b),tkAt ts i)) (o4:=(ts,(x.1:Int),pr,b,x.2.1,x.2.2.1,x.2.2.2.1,x.2.2.2.2)) hb before.length 0 N (by omega) (by omega)
  simp only[kG] at hT
  refine Eq.trans (congrArg (fun z=>Option.bind z _) hT) ?_
  simp only[j0,zFv]
  rcases qMl (before.any fun d=>d.1==qKe (tkAt ts i).2.1&&decide (d.2.1=x.2.2.1)) with k4|k4
  ·simp only[k4,jU];rfl
  simp only[k4,jB,jK,j0]
  have hp:(if(qKe (tkAt ts i).2.1==1)=true then((qCx N (ts,(x.1:Int),pr,b)).bind fun y12=>(match y12 with| .inl z6=>some (.inr (.inl z6))| .inr y13=>some (.inl (y13.2,y13.1.1,y13.1.2.1,y13.1.2.2.1,y13.1.2.2.2)))) else(some (.inl (([]:List (ByteArray)),ts,(x.1:Int),pr,b))):Option ((List ByteArray×StT)⊕(Flt⊕(StT×Dl))))=
    some (match(if qKe (tkAt ts i).2.1=1 then qIi ts x.1 else .inr (x.1,[])) with| .inl z=> .inr (.inl z)| .inr a=> .inl (a.2,ts,(a.1:Int),pr,b)):=by
   by_cases k5:qKe (tkAt ts i).2.1=1
   ·rw[if_pos (show(qKe (tkAt ts i).2.1==1)=true by simpa using k5),if_pos k5,qUi hok hl (by omega) gx.2]
    cases qIi ts x.1<;>rfl
   ·rw[if_neg (show ¬(qKe (tkAt ts i).2.1==1)=true by simpa using k5),if_neg k5]
  refine Eq.trans (congrArg (fun z=>Option.bind z _) hp) ?_
  simp only[j0]
  cases hY:(if qKe (tkAt ts i).2.1=1 then qIi ts x.1 else .inr (x.1,[]):Flt⊕(Nat×List ByteArray)) with
  |inl z=>rfl
  |inr y=>
   have gy:x.1≤y.1∧y.1<ts.length∧y.2.length≤8:=by
    split at hY
    ·obtain⟨g1,g2,g3⟩:=qKk hok gx.2 hY;exact⟨by omega,g2,g3⟩
    ·obtain rfl:=Sum.inr.inj hY;exact⟨jM _,gx.2,by simp⟩
   simp only[qJy gy.2.1 hl,j0,sEq]
   cases hj:qJb ts ⟨#[61]⟩ y.1 with
   |inl z=>rfl
   |inr j=>
    obtain⟨rfl,g3,-⟩:=qFj hok gy.2.1 hj
    have he:=zGq (N:=N) (pr:=y.2) hok hl (by omega) hN ht (y.1+1,[]) g3 (by simp)
    simp only at he
    simp only[jR,he,j0]
    cases hc:qId ts y.2 32 (y.1+1,[]) with
    |inl z=>rfl
    |inr c=>
     obtain⟨⟨f1,f2,f3,f4⟩,-⟩:=qJs hok 32 (y.1+1,[]) c.1 c.2 g3 (by simp) hc
     simp only[outP,jR,stP,qJy f2 hl,j0,zAh]
     cases qJb ts ⟨#[59]⟩ c.1.1<;>rfl
theorem qPq(hok:OkT ts)(hl:ts.length<1000000)(hN:1000000<N){y4:StT×Tok}:∀(n M:Nat) (l:List ByteArray) (i:Nat),i<ts.length→l.length≤8→ts.length<i+n→ts.length<i+M→
  qBa (qFc N y4) M (ts,(i:Int),pr,b,l)=some (match qLw ts y4.2.2.1 n l i with| .inl z=> .inr (.inl z)| .inr a=> .inl (ts,(a.1:Int),pr,b,a.2))
 |0,M,l,i,hi,_,h,_=>by omega
 |n+1,0,l,i,hi,_,_,h=>by omega
 |n+1,M+1,l,i,hi,hll,hn,hM=>by
  have hw:=qMg (show i<1000000 by omega)
  simp only[qBa,qFc,qLw,qZx hi,j0,qTu]
  rcases qMl (isC ts 1 ⟨#[105,109,112,111,114,116]⟩ i) with k1|k1
  rotate_left
  ·simp only[k1,jB,jK,j0]
  have g:=qGt hok hi (by decide) k1
  simp only[k1,jU]
  by_cases k2:l.length=8
  ·rw[if_pos (show((l.length:Int)==8)=true by simp;omega),if_pos k2]
   simp only[qIg hi,j0,qBe];rfl
  rw[if_neg (show ¬((l.length:Int)==8)=true by simp;omega),if_neg k2]
  simp only[j0,hw,qTj g hl]
  cases hx:qOr ts (i+1) with
  |inl z=>rfl
  |inr x=>
   obtain⟨rfl,g1,-⟩:=qJz hok g hx
   simp only[jR,qCy,qBe,j0,qGo,qRn (N:=N) (l:=l) (s:=(tkAt ts (i+1)).2.1) (by omega) (by omega)]
   by_cases k3:(tkAt ts (i+1)).2.1=y4.2.2.1∨(tkAt ts (i+1)).2.1∈l
   ·rw[if_pos k3]
    have:((if decide ((tkAt ts (i+1)).2.1=y4.2.2.1)=true then some true else some (decide ((tkAt ts (i+1)).2.1∈l))):Option Bool)=some true:=by
     rcases k3 with h|h
     ·rw[if_pos (kC h)]
     ·rw[kC h];split<;>rfl
    rw[this];rfl
   rw[if_neg k3]
   have:((if decide ((tkAt ts (i+1)).2.1=y4.2.2.1)=true then some true else some (decide ((tkAt ts (i+1)).2.1∈l))):Option Bool)=some false:=by
    rw[if_neg (by simp only[j9];exact fun h=>k3 (.inl h)),kK (fun h=>k3 (.inr h))]
   rw[this]
   simp only[j0,jB,jK]
   rw[qGm (by simp only[jC,jF];omega) (by omega)]
   simp only[j0,qJy g1 hl,zAh]
   cases hj:qJb ts ⟨#[59]⟩ (i+1+1) with
   |inl z=>rfl
   |inr j=>
    obtain⟨rfl,g2,-⟩:=qFj hok g1 hj
    exact qPq hok hl hN n M _ (i+1+1+1) g2 (by simp only[jA,jC,jF];omega) (by omega) (by omega)
theorem qMu(h:OkT ts){pkg:ByteArray}:∀(n:Nat) (l:List ByteArray) (i:Nat) (a:Nat×List ByteArray),i<ts.length→l.length≤8→qLw ts pkg n l i= .inr a→i≤a.1∧a.1<ts.length∧a.2.length≤8
 |0,_,_,_,_,_,h1=>by cases h1
 |n+1,l,i,a,hi,hl,h1=>by
  unfold qLw at h1
  split at h1
  ·rename_i k
   have g:=qGt h hi (by decide) k
   split at h1
   ·cases h1
   rename_i k2
   obtain⟨x,hx,h2⟩:=qAr h1
   obtain⟨rfl,g1,-⟩:=qJz h g hx
   split at h2
   ·cases h2
   obtain⟨j,hj,h3⟩:=qAr h2
   obtain⟨rfl,g2,-⟩:=qFj h g1 hj
   obtain⟨j1,j2,j3⟩:=qMu h n _ _ a g2 (by simp only[jA,jC,jF];omega) h3
   exact⟨by omega,j2,j3⟩
  ·obtain rfl:=Sum.inr.inj h1
   exact⟨jM _,hi,hl⟩
theorem qSo(hok:OkT ts)(hl:ts.length<1000000)(hN:1000001<N)(ht:∀j,(tkAt ts j).2.1.size<100000):∀(n M:Nat) (l:List Dl) (i:Nat) (pr:List ByteArray) (b:List Ex),i<ts.length→l.length≤64→ts.length<i+n→ts.length<i+M→
  match qOj ts n l i with
  | .inl z=>qBa (qCj N) M (ts,(i:Int),pr,b,l)=some (.inr (.inl z))
  | .inr a=>∃i' pr' b',qBa (qCj N) M (ts,(i:Int),pr,b,l)=some (.inl (ts,i',pr',b',a))
 |0,M,l,i,_,_,hi,_,h,_=>by omega
 |n+1,0,l,i,_,_,hi,_,_,h=>by omega
 |n+1,M+1,l,i,pr,b,hi,hll,hn,hM=>by
  have e1:qBa (qCj N) (M+1) (ts,(i:Int),pr,b,l)=(if(tkAt ts i).1=5 then some (.inl (ts,(i:Int),pr,b,l)) else
    match qSg ts l i with
    | .inl z=>some (.inr (.inl z))
    | .inr a=>qBa (qCj N) M (ts,(a.1:Int),a.2.2.2.1,a.2.2.2.2,l++[a.2])):=by
   simp only[qBa,qCj,qIg hi,j0,zGc hok hl hN ht hll hi]
   by_cases k1:(tkAt ts i).1=5
   ·rw[if_neg (show ¬((tkAt ts i).1 !=5)=true by simpa using k1),if_pos k1];rfl
   ·rw[if_pos (show((tkAt ts i).1 !=5)=true by simpa using k1),if_neg k1]
    cases hd:qSg ts l i with
    |inl z=>rfl
    |inr a=>
     obtain⟨g1,g2,g3⟩:=qOy hok hi hd
     simp only[jR]
     rw[qGm (by simp only[jC,jF];omega) (by omega)]
     rfl
  rw[e1]
  simp only[qOj]
  by_cases k1:(tkAt ts i).1=5
  ·simp only[if_pos k1];exact⟨_,_,_,rfl⟩
  ·simp only[if_neg k1]
   cases hd:qSg ts l i with
   |inl z=>rfl
   |inr a=>
    obtain⟨g1,g2,g3⟩:=qOy hok hi hd
    exact qSo hok hl hN ht n M (l++[a.2]) a.1 _ _ g2 (by simp only[jA,jC,jF];omega) (by omega) (by omega)
theorem zFw(hok:OkT ts)(hl:ts.length<1000000)(hN:1000001<N)(ht:∀j,(tkAt ts j).2.1.size<100000):
  match qSi ts with
  | .inl z=>qFi N (ts,0,pr,b)=some (.inl z)
  | .inr f=>∃i' pr' b',qFi N (ts,0,pr,b)=some (.inr ((ts,i',pr',b'),f)):=by
 have h0:0<ts.length:=List.length_pos_iff.2 hok.1
 simp only[qFi,qSi]
 rw[show(0:Int)=((0:Nat):Int) from rfl]
 simp only[qWt h0 hl,j0,qPx]
 cases h1:qSj ts ⟨#[112,97,99,107,97,103,101]⟩ 0 with
 |inl z=>rfl
 |inr i=>
  obtain⟨rfl,g1,-⟩:=qNn hok h0 h1
  simp only[jR,qCy,qTj g1 hl,j0]
  cases h2:qOr ts (0+1) with
  |inl z=>rfl
  |inr x=>
   obtain⟨rfl,g2,-⟩:=qJz hok g1 h2
   simp only[jR,qJy g2 hl,j0,zAh]
   cases h3:qJb ts ⟨#[59]⟩ (0+1+1) with
   |inl z=>rfl
   |inr j=>
    obtain⟨rfl,g3,-⟩:=qFj hok g2 h3
    simp only[jR,qPq hok hl (by omega:1000000<N) (ts.length+1) N [] (0+1+1+1) g3 (by simp) (by omega) (by omega),j0]
    cases h4:qLw ts (tkAt ts (0+1)).2.1 (ts.length+1) [] (0+1+1+1) with
    |inl z=>rfl
    |inr y=>
     obtain⟨k1,k2,k3⟩:=qMu hok _ _ _ y g3 (by simp) h4
     have hd:=qSo (N:=N) hok hl hN ht (ts.length+1) N [] y.1 pr b k2 (by simp) (by omega) (by omega)
     simp only[]
     cases h5:qOj ts (ts.length+1) [] y.1 with
     |inl z=>
      rw[h5] at hd
      simp only[hd,j0]
     |inr l=>
      rw[h5] at hd
      obtain⟨i',pr',b',hd⟩:=hd
      refine⟨i',pr',b',?_⟩
      simp only[hd,j0]
end
theorem qZn{s:ByteArray}:∀(l:List Tok) (e:Int),0≤e→zGk s e l→∀i,i<l.length→((tkAt l i).1=5↔i+1=l.length)∧((tkAt l i).2.1.size:Int)≤s.size∧0≤(tkAt l i).2.2.2
 |[],_,_,_,i,hi=>by simp at hi
 |t::r,e,he,h,i,hi=>by
  obtain⟨h1,h2,h3,h4,h5⟩:=h
  have hend:0≤endT t:=by unfold endT;split<;>omega
  cases i with
  |zero=>
   refine⟨?_,?_,?_⟩
   ·show t.1=5↔0+1=r.length+1
    rw[h3,←fL];omega
   ·show((t.2.1.size:Nat):Int)≤s.size
    omega
   ·show 0≤t.2.2.2
    omega
  |succ i=>
   have:=qZn r _ hend h5 i (by simpa using hi)
   have e:tkAt (t::r) (i+1)=tkAt r i:=by simp[tkAt]
   rw[e,jC]
   exact⟨⟨fun h=>by have:=this.1.1 h;omega,fun h=>this.1.2 (by omega)⟩,this.2⟩
theorem qTf{s:ByteArray}(h:(qGc s).2.2=0):OkT (qGc s).1∧(qGc s).1.length≤16385∧∀j,(tkAt (qGc s).1 j).2.1.size<100000:=by
 unfold qGc at h ⊢
 split at h
 ·simp at h
 rename_i hs
 rw[if_neg hs]
 cases hG:tokG (s.data.toList.length+1) s 0 with
 |inl x=>
  obtain⟨_,_,h3⟩:=qUa _ 0 x (by omega) (by omega) hG
  rw[hG] at h
  exact absurd h h3
 |inr r=>
  obtain⟨g1,g2,g3⟩:=qPe _ 0 0 r (by omega) (by omega) (by omega) hG
  simp only[zBf,jX]
  have hc:=qZn r 0 (by omega) g1
  refine⟨⟨g2,fun i hi=>(hc i hi).1⟩,by omega,fun j=> ?_⟩
  rcases fH j r.length with hj|hj
  ·have:=(hc j hj).2.1
   have hs2:=qCg s
   omega
  ·have e:tkAt r j=(5,⟨#[]⟩,0,0):=by simp[tkAt,jT,List.getElem?_eq_none hj]
   rw[e];decide
theorem qQe{N:Nat}(s:ByteArray)(hN:1000001<N):qEb N s=some (qJq s):=by
 simp only[qEb,zCx (N:=N) (by omega),j0,qJq]
 by_cases h:(qGc s).2.2=0
 ·rw[if_neg (show ¬((qGc s).2.2 !=0)=true by simpa using h),if_neg (show ¬(qGc s).2.2≠0 by simpa using h)]
  obtain⟨h1,h2,h3⟩:=qTf h
  have hf:=zFw (N:=N) (pr:=[]) (b:=[]) h1 (by omega) hN h3
  cases hF:qSi (qGc s).1 with
  |inl z=>
   rw[hF] at hf
   simp only[hf,j0];rfl
  |inr f=>
   rw[hF] at hf
   obtain⟨i',pr',b',hf⟩:=hf
   simp only[hf,j0]
 ·rw[if_pos (show((qGc s).2.2 !=0)=true by simpa using h),if_pos h];rfl
end
section
open Go Go.Dc
abbrev Hd:=Int×Int×Int×ByteArray
inductive Rose where
 |mk (h:Hd) (ks:List Rose)
def Rose.hd:Rose→Hd
 | .mk h _=>h
def Rose.ks:Rose→List Rose
 | .mk _ ks=>ks
mutual
def Rose.size:Rose→Nat
 | .mk _ ks=>qAu ks+1
def qAu:List Rose→Nat
 |[]=>0
 |t::l=>t.size+qAu l
end
def qCi:Nat→List Rose→List Int
 |_,[]=>[]
 |b,t::l=>((b+t.size-1:Nat):Int)::qCi (b+t.size) l
def qJk(h:Hd)(args:List Int):Ex:=(h.1,h.2.1,h.2.2.1,h.2.2.2,args)
mutual
def Rose.flat(b:Nat):Rose→List Ex
 | .mk h ks=>qFn b ks++[qJk h (qCi b ks)]
def qFn(b:Nat):List Rose→List Ex
 |[]=>[]
 |t::l=>t.flat b++qFn (b+t.size) l
end
theorem Rose.pos(t:Rose):0<t.size:=by cases t;unfold Rose.size;omega
mutual
theorem qLy(t:Rose)(b:Nat):(t.flat b).length=t.size:=by
 match t with
 | .mk h ks=>unfold Rose.flat Rose.size;rw[jA,qGy ks b];rfl
theorem qGy(l:List Rose)(b:Nat):(qFn b l).length=qAu l:=by
 match l with
 |[]=>rfl
 |t::l=>unfold qFn qAu;rw[jA,qLy t b,qGy l (b+t.size)]
end
theorem qGw:∀(l:List Rose) (b:Nat),(qCi b l).length=l.length
 |[],_=>rfl
 |t::l,b=>by simp only[qCi,jC,qGw l]
theorem qIy:∀(l k:List Rose),qAu (l++k)=qAu l+qAu k
 |[],k=>by rw[jX,show qAu []=0 from rfl,jY]
 |t::l,k=>by
  have ih:=qIy l k
  rw[k7,show qAu (t::(l++k))=t.size+qAu (l++k) from rfl,show qAu (t::l)=t.size+qAu l from rfl];omega
theorem qNb:∀(l k:List Rose) (b:Nat),qCi b (l++k)=qCi b l++qCi (b+qAu l) k
 |[],k,b=>by simp[qCi,qAu]
 |t::l,k,b=>by
  rw[k7]
  simp only[qCi,qAu,qNb l k,k7]
  rw[kW]
theorem qLo:∀(l k:List Rose) (b:Nat),qFn b (l++k)=qFn b l++qFn (b+qAu l) k
 |[],k,b=>by simp[qFn,qAu]
 |t::l,k,b=>by
  rw[k7]
  simp only[qFn,qAu,qLo l k,jJ]
  rw[kW]
theorem qPs:∀l:List Rose,l.length≤qAu l
 |[]=>kE _
 |t::l=>by
  have:=qPs l
  have:=t.pos
  simp only[qAu,jC];omega
def ordS:List Ex→Nat→List Int→Option (List Int)
 |[],_,st=>some st
 |x::l,i,st=>if x.2.2.2.2.length≤st.length∧st.drop (st.length-x.2.2.2.2.length)=x.2.2.2.2 then ordS l (i+1) (st.take (st.length-x.2.2.2.2.length)++[(i:Int)]) else none
theorem qQf{fs:List Rose}{h:Hd}{args:List Int}{m:Nat}(h1:args.length≤fs.length)(hm:fs.length-args.length=m)(h2:(qCi 0 fs).drop m=args):
  qAu (fs.take m++[Rose.mk h (fs.drop m)])=qAu fs+1∧qCi 0 (fs.take m++[Rose.mk h (fs.drop m)])=(qCi 0 fs).take m++[((qAu fs:Nat):Int)]∧qFn 0 (fs.take m++[Rose.mk h (fs.drop m)])=qFn 0 fs++[qJk h args]:=by
 have hfs:fs=fs.take m++fs.drop m:=(gJ m fs).symm
 have hml:(fs.take m).length=m:=by rw[fF];omega
 have hr:qCi 0 fs=qCi 0 (fs.take m)++qCi (qAu (fs.take m)) (fs.drop m):=by
  conv=>lhs;rw[hfs]
  rw[qNb,jY]
 have hf:qFn 0 fs=qFn 0 (fs.take m)++qFn (qAu (fs.take m)) (fs.drop m):=by
  conv=>lhs;rw[hfs]
  rw[qLo,jY]
 have hs:qAu fs=qAu (fs.take m)+qAu (fs.drop m):=by
  conv=>lhs;rw[hfs]
  rw[qIy]
 have hl1:(qCi 0 (fs.take m)).length=m:=by rw[qGw,hml]
 have ha:args=qCi (qAu (fs.take m)) (fs.drop m):=by
  rw[←h2,hr,gB (by omega),kA (by omega),jX]
 have ht:(qCi 0 fs).take m=qCi 0 (fs.take m):=by
  rw[hr,kN (by omega),gH (by omega)]
 rw[ht]
 refine⟨?_,?_,?_⟩
 ·rw[qIy,hs];simp only[qAu,Rose.size];omega
 ·rw[qNb,jY]
  simp only[qCi,Rose.size]
  rw[hs,show qAu (fs.take m)+(qAu (fs.drop m)+1)-1=qAu (fs.take m)+qAu (fs.drop m) by omega]
 ·rw[qLo,jY,hf,jJ]
  simp only[qFn,Rose.flat,kQ,←ha]
theorem qQp(x:Ex)(l:List Ex)(i:Nat)(st a:List Int)(h:x.2.2.2.2=a):ordS (x::l) i st=if a.length≤st.length∧st.drop (st.length-a.length)=a then ordS l (i+1) (st.take (st.length-a.length)++[(i:Int)]) else none:=by
 subst h;rfl
def AtT(l:List Ex)(b:Nat)(t:Rose):Prop:=∃p q,l=p++t.flat b++q∧p.length=b
def AtTs(l:List Ex)(b:Nat)(ts:List Rose):Prop:=∃p q,l=p++qFn b ts++q∧p.length=b
theorem AtT.whole(t:Rose):AtT (t.flat 0) 0 t:=⟨[],[],by simp,rfl⟩
theorem AtT.args{l:List Ex}{b:Nat}{h:Hd}{ks:List Rose}(g:AtT l b (.mk h ks)):l[b+qAu ks]? =some (qJk h (qCi b ks))∧AtTs l b ks:=by
 obtain⟨p,q,rfl,rfl⟩:=g
 unfold Rose.flat
 constructor
 ·rw[jJ,List.getElem?_append_right (by omega),jJ,List.getElem?_append_right (by rw[qGy];omega),qGy]
  rw[show p.length+qAu ks-p.length-qAu ks=0 by omega]
  rfl
 ·exact⟨p,[qJk h (qCi p.length ks)]++q,by simp only[jJ],rfl⟩
theorem AtTs.head{l:List Ex}{b:Nat}{t:Rose}{ts:List Rose}(g:AtTs l b (t::ts)):AtT l b t∧AtTs l (b+t.size) ts:=by
 obtain⟨p,q,rfl,rfl⟩:=g
 unfold qFn
 exact⟨⟨p,qFn (p.length+t.size) ts++q,by simp only[jJ],rfl⟩,⟨p++t.flat p.length,q,by simp only[jJ],by rw[jA,qLy]⟩⟩
theorem AtT.le{l:List Ex}{b:Nat}{t:Rose}(g:AtT l b t):b+t.size≤l.length:=by
 obtain⟨p,q,rfl,rfl⟩:=g
 rw[jA,jA,qLy];omega
end
section
open Go Go.Dc
def qGl(s:ByteArray):Bool:=qQy s&& !resC s
theorem qOo{N:Nat}{s:ByteArray}(hN:100<N):qFv N s=some (qGl s):=by
 simp only[qFv,qXm hN,qOa,j0]
 unfold qGl
 cases qQy s<;>rfl
def emB:ByteArray:=⟨#[]⟩
theorem and_if(a b:Bool):(if a=true then some b else some false:Option Bool)=some (a&&b):=by cases a<;>rfl
theorem eqE(s:ByteArray):(s.toList==(⟨#[]⟩:ByteArray).toList)=decide (s=emB):=qGo _ _
def argN(x:Ex):Int:=(x.2.2.2.2.length:Int)
def qIs(np:Int)(x:Ex):Bool:=
 if x.1=1 then decide (x.2.2.2.1=emB)&&(x.2.2.1==0&&(argN x==0&&(decide (x.2.1≥-9007199254740992)&&decide (x.2.1≤9007199254740992))))
 else if x.1=2 then decide (x.2.2.2.1=emB)&&(x.2.2.1==0&&(argN x==0&&(decide (x.2.1≥0)&&decide (x.2.1<np))))
 else if x.1=3 then x.2.1==0&&(x.2.2.1==0&&qGl x.2.2.2.1)
 else if x.1=4 then x.2.1==0&&(decide (x.2.2.2.1=emB)&&(argN x==2&&(decide (x.2.2.1≥1)&&decide (x.2.2.1≤7))))
 else if x.1=5 then x.2.1==0&&(decide (x.2.2.2.1=emB)&&(x.2.2.1==0&&argN x==3))
 else if x.1=6 then x.2.1==0&&(x.2.2.1==0&&(argN x==1&&qPd x.2.2.2.1.data.toList))
 else if x.1=7∨x.1=8 then x.2.1==0&&(x.2.2.1==0&&(argN x==0&&qPd x.2.2.2.1.data.toList))
 else if x.1=9 then x.2.1==0&&(x.2.2.1==0&&(argN x==0&&qQy x.2.2.2.1))
 else if x.1=10 then decide (x.2.2.2.1=emB)&&(x.2.2.1==0&&(argN x==0&&(decide (x.2.1≥0)&&decide (x.2.1<64))))
 else false
theorem zGp{N:Nat}{np:Int}{x:Ex}(hx:x.2.2.2.1.size≤1048576)(hN:3000000<N):qJm N x np=some (qIs np x):=by
 simp only[qJm,eqE,qWw (s:=x.2.2.2.1) (N:=N) (by omega) (by omega),qXm (s:=x.2.2.2.1) (show 100<N by omega),qOo (s:=x.2.2.2.1) (show 100<N by omega),j0,and_if]
 unfold qIs argN
 by_cases h1:x.1=1
 ·simp[h1]
 by_cases h2:x.1=2
 ·simp[h2]
 by_cases h3:x.1=3
 ·simp[h3]
 by_cases h4:x.1=4
 ·simp[h4]
 by_cases h5:x.1=5
 ·simp[h5]
 by_cases h6:x.1=6
 ·simp[h6]
 by_cases h7:x.1=7
 ·simp[h7]
 by_cases h8:x.1=8
 ·simp[h8]
 by_cases h9:x.1=9
 ·simp[h9]
 by_cases h10:x.1=10
 ·simp[h10]
 simp[h1,h2,h3,h4,h5,h6,h7,h8,h9,h10]
def StOk(st:List Int):Nat→List Rose→Prop
 |_,[]=>True
 |b,t::l=>st[b+t.size-1]? =some (b:Int)∧StOk st (b+t.size) l
theorem StOk.app{st:List Int}:∀{l k:List Rose} {b:Nat},StOk st b (l++k)↔StOk st b l∧StOk st (b+qAu l) k
 |[],k,b=>by simp[StOk,qAu]
 |t::l,k,b=>by
  rw[k7]
  simp only[StOk,qAu,StOk.app (l:=l)]
  rw[and_assoc,kW]
theorem StOk.set{st:List Int}{i:Nat}{v:Int}:∀{l:List Rose} {b:Nat},StOk st b l→b+qAu l≤i→StOk (st.set i v) b l
 |[],_,_,_=>trivial
 |t::l,b,h,hi=>by
  have hp:=t.pos
  simp only[qAu] at hi
  exact⟨by rw[List.getElem?_set_ne (by omega)];exact h.1,h.2.set (by omega)⟩
theorem qRw{α:Type}{l:List α}{i:Nat}{v:α}(h:l[i]? =some v):idx l (i:Int)=some v:=by
 have hi:i<l.length:=by
  by_cases hl:i<l.length
  ·exact hl
  ·rw[List.getElem?_eq_none (by omega)] at h;cases h
 rw[qDw hi]
 rw[List.getElem?_eq_getElem hi] at h
 exact h
theorem qYh{st:List Int}{i:Nat}{v:Int}(h:st[i]? =some v):st.set i v=st:=by
 refine List.ext_getElem? fun j=> ?_
 rw[List.getElem?_set]
 by_cases e:i=j
 ·subst e
  have hi:i<st.length:=by
   by_cases hl:i<st.length
   ·exact hl
   ·rw[List.getElem?_eq_none (by omega)] at h;cases h
  rw[if_pos rfl,if_pos hi,h]
 ·rw[if_neg e]
theorem zAz{N i:Nat}{x:Ex}{so:List Int}:∀(k M:Nat) (pre:List Rose) (st:List Int),k≤x.2.2.2.2.length→k<M→StOk st 0 pre→st[i]? =some ((qAu pre:Nat):Int)→qAu pre≤i→i<2000000→k<2000000→
  qBa (qFk N ((i:Int),so) x) M ((k:Int)-1,st)=some (if k≤pre.length∧(qCi 0 pre).drop (pre.length-k)=x.2.2.2.2.take k then .inl (st.set i ((qAu (pre.take (pre.length-k)):Nat):Int)) else .inr false)
 |_,0,_,_,_,h,_,_,_,_,_=>absurd h (kH _)
 |0,M+1,pre,st,_,_,_,hi,_,_,_=>by
  simp only[qBa,qFk]
  rw[if_neg (by simp),if_pos ⟨kE _,by rw[Nat.sub_zero,List.drop_of_length_le (by rw[qGw];exact jM _),List.take_zero]⟩]
  rw[Nat.sub_zero,gU,qYh hi]
  rfl
 |k+1,M+1,pre,st,hk,hM,hs,hi,hle,hb,hkb=>by
  have hkl:k<x.2.2.2.2.length:=by omega
  have ek:((k+1:Nat):Int)-1=(k:Int):=by omega
  have wk:IntKind.wrap .i64 ((k:Int)-1)=(k:Int)-1:=by rw[wi64 (by omega) (by omega)]
  simp only[qBa,qFk]
  rw[ek,if_pos (by simp),qDw hkl,qRw hi]
  simp only[j0]
  have wc:IntKind.wrap .i64 (((qAu pre:Nat):Int)-1)=((qAu pre:Nat):Int)-1:=by rw[wi64 (by omega) (by omega)]
  rw[wc]
  have ht:x.2.2.2.2.take (k+1)=x.2.2.2.2.take k++[x.2.2.2.2[k]]:=qRb hkl
  rcases List.eq_nil_or_concat pre with rfl|⟨pre',t,rfl⟩
  ·have hneg:¬(k+1≤([]:List Rose).length∧(qCi 0 []).drop (([]:List Rose).length-(k+1))=x.2.2.2.2.take (k+1)):=by
    rintro⟨h,-⟩
    exact absurd h (by simp)
   rw[if_neg hneg]
   by_cases h1:x.2.2.2.2[k]=((qAu []:Nat):Int)-1
   ·have h2:x.2.2.2.2[k]<0:=by rw[h1];simp[qAu]
    rw[if_neg (by simpa using h1)]
    simp only[j0,kC h2,jU]
   ·rw[if_pos (by simpa using h1)]
    rfl
  ·rw[List.concat_eq_append] at hs hi hle ⊢
   have hsz:qAu (pre'++[t])=qAu pre'+t.size:=by rw[qIy];simp[qAu]
   have hp:=t.pos
   obtain⟨hs1,hs2,-⟩:=StOk.app.1 hs
   rw[jY] at hs2
   have hr:qCi 0 (pre'++[t])=qCi 0 pre'++[((qAu pre'+t.size-1:Nat):Int)]:=by
    rw[qNb,jY];rfl
   have hd:k≤pre'.length→(qCi 0 (pre'++[t])).drop ((pre'++[t]).length-(k+1))=(qCi 0 pre').drop (pre'.length-k)++[((qAu pre'+t.size-1:Nat):Int)]:=fun h=>by
    rw[hr,jA,g9,show pre'.length+1-(k+1)=pre'.length-k by omega,gB (by rw[qGw];omega)]
   rw[hsz] at hi hle ⊢
   by_cases h1:x.2.2.2.2[k]=((qAu pre'+t.size:Nat):Int)-1
   ·have h2:decide (x.2.2.2.2[k]<0)=false:=kK (by omega)
    have h3:x.2.2.2.2[k]=((qAu pre'+t.size-1:Nat):Int):=by omega
    rw[if_neg (by simpa using h1)]
    simp only[j0,h2,jB,jK]
    rw[h3,qRw hs2]
    simp only[j0,jO,wk]
    have hil:i<st.length:=by
     by_cases hl:i<st.length
     ·exact hl
     ·rw[List.getElem?_eq_none (by omega)] at hi;cases hi
    rw[zAz k M pre' _ (by omega) (by omega) (hs1.set (by omega)) (by rw[List.getElem?_set_self hil]) (by omega) hb (by omega),List.set_set]
    congr 1
    by_cases hc:k≤pre'.length∧(qCi 0 pre').drop (pre'.length-k)=x.2.2.2.2.take k
    ·rw[if_pos hc,if_pos ⟨by simp only[jA,g9];omega,by rw[hd hc.1,ht,hc.2,h3]⟩]
     rw[jA,g9,show pre'.length+1-(k+1)=pre'.length-k by omega,kN (by omega)]
    ·rw[if_neg hc,if_neg]
     rintro⟨g1,g2⟩
     simp only[jA,g9] at g1
     rw[hd (by omega),ht] at g2
     exact hc ⟨by omega,(List.append_inj' g2 rfl).1⟩
   ·rw[if_pos (by simpa using h1),if_neg]
    ·rfl
    ·rintro⟨g1,g2⟩
     simp only[jA,g9] at g1
     rw[hd (by omega),ht] at g2
     have:=(List.append_inj' g2 rfl).2
     simp only[fB,and_true] at this
     exact h1 (by omega)
theorem zCm{N:Nat}{d:Dl}(hlen:d.2.2.2.length<2000000)(hnm:∀x∈d.2.2.2,x.2.2.2.1.size≤1048576∧x.2.2.2.2.length<2000000)(hN:3000000<N):∀(M:Nat) (fs:List Rose) (st:List Int),qFn 0 fs=d.2.2.2.take (qAu fs)→qAu fs≤d.2.2.2.length→st.length=d.2.2.2.length→StOk st 0 fs→d.2.2.2.length-qAu fs<M→
  ∃out,qBa (qDr N d) M (((qAu fs:Nat):Int),st)=some out∧(match out with
   | .inl st'=>(∀x∈d.2.2.2.drop (qAu fs),qIs (d.2.2.1.length:Int) x=true)∧∃fs',ordS (d.2.2.2.drop (qAu fs)) (qAu fs) (qCi 0 fs)=some (qCi 0 fs')∧StOk st' 0 fs'∧st'.length=d.2.2.2.length∧qAu fs'=d.2.2.2.length
   | .inr b=>b=false∧¬((∀x∈d.2.2.2.drop (qAu fs),qIs (d.2.2.1.length:Int) x=true)∧∃r,ordS (d.2.2.2.drop (qAu fs)) (qAu fs) (qCi 0 fs)=some r))
 |0,_,_,_,_,_,_,h=>absurd h (kH _)
 |M+1,fs,st,hf,hle,hst,hs,hM=>by
  by_cases hi:qAu fs<d.2.2.2.length
  ·have hdr:d.2.2.2.drop (qAu fs)=d.2.2.2[qAu fs]::d.2.2.2.drop (qAu fs+1):=qLn hi
   obtain⟨n1,n2⟩:=hnm _ (jV hi)
   rw[hdr]
   generalize hx:d.2.2.2[qAu fs]=x at n1 n2
   have wi:IntKind.wrap .i64 (((qAu fs:Nat):Int)+1)=((qAu fs+1:Nat):Int):=by rw[wi64 (by omega) (by omega)];omega
   have wl:IntKind.wrap .i64 ((x.2.2.2.2.length:Int)-1)=(x.2.2.2.2.length:Int)-1:=by rw[wi64 (by omega) (by omega)]
   have hil:qAu fs<st.length:=by omega
   have e1:(qDr N d (((qAu fs:Nat):Int),st))=if qIs (d.2.2.1.length:Int) x=true then(if x.2.2.2.2.length≤fs.length∧(qCi 0 fs).drop (fs.length-x.2.2.2.2.length)=x.2.2.2.2 then some (.inl (((qAu fs+1:Nat):Int),(st.set (qAu fs) ((qAu fs:Nat):Int)).set (qAu fs) ((qAu (fs.take (fs.length-x.2.2.2.2.length)):Nat):Int))) else some (.inr (.inr false))) else some (.inr (.inr false)):=by
    simp only[qDr]
    rw[if_pos (by simp only[j9];omega),qDw hi]
    simp only[j0,hx]
    rw[show qJm N (x.1,x.2.1,x.2.2.1,x.2.2.2.1,x.2.2.2.2) (d.2.2.1.length:Int)=_ from zGp n1 hN]
    simp only[j0]
    by_cases hn:qIs (d.2.2.1.length:Int) x=true
    ·rw[if_pos hn,hn,if_neg (by decide),qDw hil]
     simp only[j0,jO,wi,wl]
     have h3:=zAz (N:=N) (i:=qAu fs) (x:=x) (so:=st) x.2.2.2.2.length N fs (st.set (qAu fs) ((qAu fs:Nat):Int)) (jM _) (by omega) (hs.set (by omega)) (List.getElem?_set_self hil) (jM _) (by omega) n2
     rw[gU] at h3
     rw[h3]
     simp only[j0]
     by_cases hc:x.2.2.2.2.length≤fs.length∧(qCi 0 fs).drop (fs.length-x.2.2.2.2.length)=x.2.2.2.2
     ·rw[if_pos hc,if_pos hc]
     ·rw[if_neg hc,if_neg hc]
    ·rw[if_neg hn,show qIs (d.2.2.1.length:Int) x=false by simpa using hn]
     rfl
   simp only[qBa,e1]
   by_cases hn:qIs (d.2.2.1.length:Int) x=true
   ·rw[if_pos hn]
    by_cases hc:x.2.2.2.2.length≤fs.length∧(qCi 0 fs).drop (fs.length-x.2.2.2.2.length)=x.2.2.2.2
    ·rw[if_pos hc]
     simp only[j0]
     obtain⟨g1,g2,g3⟩:=qQf (h:=(x.1,x.2.1,x.2.2.1,x.2.2.2.1)) hc.1 rfl hc.2
     have hx':qJk (x.1,x.2.1,x.2.2.1,x.2.2.2.1) x.2.2.2.2=x:=rfl
     rw[hx'] at g3
     rw[List.set_set]
     have hst2:StOk (st.set (qAu fs) ((qAu (fs.take (fs.length-x.2.2.2.2.length)):Nat):Int)) 0 (fs.take (fs.length-x.2.2.2.2.length)++[Rose.mk (x.1,x.2.1,x.2.2.1,x.2.2.2.1) (fs.drop (fs.length-x.2.2.2.2.length))]):=by
      refine StOk.app.2 ⟨?_,?_,trivial⟩
      ·have h0:=hs
       rw[←gJ (fs.length-x.2.2.2.2.length) fs] at h0
       refine(StOk.app.1 h0).1.set ?_
       have:=qIy (fs.take (fs.length-x.2.2.2.2.length)) (fs.drop (fs.length-x.2.2.2.2.length))
       rw[gJ] at this
       omega
      ·have:=qIy (fs.take (fs.length-x.2.2.2.2.length)) (fs.drop (fs.length-x.2.2.2.2.length))
       rw[gJ] at this
       rw[jY,show qAu (fs.take (fs.length-x.2.2.2.2.length))+(Rose.mk (x.1,x.2.1,x.2.2.1,x.2.2.2.1) (fs.drop (fs.length-x.2.2.2.2.length))).size-1=qAu fs by simp only[Rose.size];omega]
       exact List.getElem?_set_self hil
     have ht:d.2.2.2.take (qAu fs+1)=d.2.2.2.take (qAu fs)++[x]:=by rw[qRb hi,hx]
     obtain⟨out,o1,o2⟩:=zCm hlen hnm hN M _ (st.set (qAu fs) ((qAu (fs.take (fs.length-x.2.2.2.2.length)):Nat):Int)) (by rw[g3,g1,ht,hf]) (by rw[g1];omega) (by rw[gA];exact hst) hst2 (by rw[g1];omega)
     rw[g1] at o1 o2
     refine⟨out,o1,?_⟩
     have hord:ordS (x::d.2.2.2.drop (qAu fs+1)) (qAu fs) (qCi 0 fs)=ordS (d.2.2.2.drop (qAu fs+1)) (qAu fs+1) (qCi 0 (fs.take (fs.length-x.2.2.2.2.length)++[Rose.mk (x.1,x.2.1,x.2.2.1,x.2.2.2.1) (fs.drop (fs.length-x.2.2.2.2.length))])):=by
      rw[qQp x _ _ _ x.2.2.2.2 rfl,qGw,if_pos hc,g2]
     rw[hord]
     cases out with
     |inl st'=>exact⟨fun y hy=>(jQ.1 hy).elim (fun e=>e▸hn) (o2.1 y),o2.2⟩
     |inr b=>exact⟨o2.1,fun h=>o2.2 ⟨fun y hy=>h.1 y (jZ _ hy),h.2⟩⟩
    ·rw[if_neg hc]
     refine⟨_,rfl,rfl,?_⟩
     rintro⟨-,r,hr⟩
     rw[qQp x _ _ _ x.2.2.2.2 rfl,qGw,if_neg hc] at hr
     cases hr
   ·rw[if_neg hn]
    exact⟨_,rfl,rfl,fun h=>hn (h.1 x (jL ..))⟩
  ·have he:qAu fs=d.2.2.2.length:=by omega
   have hd:d.2.2.2.drop (qAu fs)=[]:=kA (by omega)
   have e1:(qDr N d (((qAu fs:Nat):Int),st))=some (.inr (.inl st)):=by
    simp only[qDr]
    rw[if_neg (by simp only[j9];omega)]
   simp only[qBa,e1,j0]
   refine⟨.inl st,rfl,?_⟩
   dsimp only
   rw[hd]
   exact⟨fun x hx=>(by cases hx),fs,rfl,hs,hst,he⟩
end
section
open Go Go.Dc
def oneP:Option (List Int)→Bool
 |some [_]=>true
 |_=>false
def qZu(d:Dl):Bool:=d.2.2.2.all (qIs (d.2.2.1.length:Int))&&oneP (ordS d.2.2.2 0 [])
def qWm(d:Dl):Bool:=if d.1=1∨d.1=2 then qGl d.2.1 else if d.1=3 then qPd d.2.1.data.toList else false
def qXt(d:Dl):Bool:=d.2.2.1.all fun s=>d.1==1&&qGl s
def qHu(d:Dl):Bool:=qWm d&&(qXt d&&qZu d)
def SmD(d:Dl):Prop:=d.2.1.size≤1048576∧d.2.2.1.length<2000000∧d.2.2.2.length<2000000∧∀x∈d.2.2.2,x.2.2.2.1.size≤1048576∧x.2.2.2.2.length<2000000
theorem zDc{N:Nat}{d:Dl}(hd:SmD d)(hN:3000000<N):qBa (qEi N d) N 0=some (if qXt d=true then .inl () else .inr false):=by
 obtain⟨-,h1,-,-⟩:=hd
 have h:=qKg (L:=d.2.2.1) (fun(_:Unit) (i:Nat)=>(i:Int)) (f:=qEi N d)
  (fun _ s=>if(!(d.1==1&&qGl s))=true then .inr (.inr false) else .inl ()) (fun _=>(.inl ():Unit⊕Bool)) (fun _ _=>True) (by
   intro t i hi _
   simp only[qEi]
   rw[if_pos (by simp only[j9];omega),qDw hi]
   have ew:IntKind.wrap .i64 ((i:Int)+1)=((i+1:Nat):Int):=by rw[wi64 (by omega) (by omega)];omega
   simp only[j0,qOo (s:=d.2.2.1[i]) (show 100<N by omega),ew]
   by_cases hk:d.1=1
   ·have e1:(d.1 !=1)=false:=by simp[hk]
    have e2:(d.1==1)=true:=by simp[hk]
    simp only[e1,e2,jB,jK,j0,gC]
    cases qGl d.2.2.1[i]<;>rfl
   ·have e1:(d.1 !=1)=true:=by simp[hk]
    have e2:(d.1==1)=false:=by simp[hk]
    simp only[e1,e2,jU,j0,Bool.false_and,gY]) (fun _ _ _ _ _ _=>trivial) (by
   intro t _
   simp only[qEi]
   rw[if_neg (by simp)]) (M:=N) (t:=()) (by omega) trivial
 rw[show((0:Nat):Int)=0 from rfl] at h
 rw[h,qRh (b:=(.inr false:Unit⊕Bool)) (fun s=> !(d.1==1&&qGl s)) (fun x=>rfl)]
 unfold qXt
 rw[fN]
 cases(d.2.2.1.any fun s=> !(d.1==1&&qGl s))<;>rfl
theorem qXa{N:Nat}{d:Dl}(hd:SmD d)(hN:3000000<N):qGu N d=some (qHu d):=by
 obtain⟨hn1,h1,h2,h3⟩:=id hd
 unfold qGu
 have hhead:((if(d.1==1)=true then(some (d.1==1)) else(some (d.1==2)):Option (Bool)).bind fun o2=>if o2=true then((qFv N d.2.1).bind fun y1=>if(!y1)=true then(some (.inr false)) else(some (.inl ()))) else(if(d.1==3)=true then((qHx N d.2.1).bind fun y2=>if(!y2)=true then(some (.inr false)) else(some (.inl ()))) else(some (.inr false))):Option ((Unit)⊕(Bool)))=some (if qWm d=true then .inl () else .inr false):=by
  simp only[qOo (s:=d.2.1) (show 100<N by omega),qWw (s:=d.2.1) (N:=N) (by omega) (by omega),j0]
  unfold qWm
  by_cases k1:d.1=1
  ·simp only[k1,kS,jU,j0,true_or]
   cases qGl d.2.1<;>rfl
  have e1:(d.1==1)=false:=by simpa using k1
  by_cases k2:d.1=2
  ·simp only[e1,k2,kS,jB,jK,jU,j0,or_true]
   cases qGl d.2.1<;>rfl
  have e2:(d.1==2)=false:=by simpa using k2
  by_cases k3:d.1=3
  ·have e3:(d.1==3)=true:=by simpa using k3
   rw[if_neg (show ¬(d.1=1∨d.1=2) by omega),if_pos k3]
   simp only[e1,e2,e3,jB,jK,jU,j0]
   cases qPd d.2.1.data.toList<;>rfl
  ·have e3:(d.1==3)=false:=by simpa using k3
   rw[if_neg (show ¬(d.1=1∨d.1=2) by omega),if_neg k3]
   simp only[e1,e2,e3,jB,jK,j0]
 rw[hhead]
 simp only[j0]
 unfold qHu
 by_cases hh:qWm d=true
 ·rw[if_pos hh,hh,gC]
  simp only[zDc hd hN,j0]
  by_cases hp:qXt d=true
  ·rw[if_pos hp,hp,gC]
   have hmx:(maxLen:Int)=9223372036854775807:=rfl
   have hmk:qPc 8 (0:Int) (d.2.2.2.length:Int)=some (List.replicate d.2.2.2.length 0):=by
    unfold qPc;rw[if_pos (by omega),jO]
   simp only[hmk,j0]
   obtain⟨out,o1,o2⟩:=zCm (N:=N) h2 h3 hN N [] (List.replicate d.2.2.2.length 0) (by simp[qFn,qAu]) (kE _) (by simp) trivial (by omega)
   have e0:((qAu []:Nat):Int)=0:=rfl
   rw[e0] at o1
   rw[o1]
   simp only[j0]
   rw[show qAu []=0 from rfl,kG] at o2
   cases out with
   |inr b=>
    obtain⟨rfl,hno⟩:=o2
    dsimp only
    congr 1
    unfold qZu
    cases ha:d.2.2.2.all (qIs (d.2.2.1.length:Int)) with
    |false=>rfl
    |true=>
     rw[gC]
     cases ho:ordS d.2.2.2 0 [] with
     |none=>rfl
     |some r=>exact absurd ⟨jP.1 ha,r,ho⟩ hno
   |inl st=>
    obtain⟨ha,fs,ho,hs,hl,hz⟩:=o2
    dsimp only
    have ha':d.2.2.2.all (qIs (d.2.2.1.length:Int))=true:=jP.2 ha
    have ho':ordS d.2.2.2 0 []=some (qCi 0 fs):=ho
    unfold qZu
    rw[ha',ho',gC]
    rcases List.eq_nil_or_concat fs with rfl|⟨pre,t,rfl⟩
    ·have hz0:d.2.2.2.length=0:=by rw[←hz];rfl
     rw[if_neg (by simp[hz0])]
     rfl
    ·rw[List.concat_eq_append] at*
     have hsz:qAu (pre++[t])=qAu pre+t.size:=by rw[qIy];simp[qAu]
     have hp:=t.pos
     obtain⟨-,hs2,-⟩:=StOk.app.1 hs
     rw[jY] at hs2
     have w:IntKind.wrap .i64 ((d.2.2.2.length:Int)-1)=((qAu pre+t.size-1:Nat):Int):=by rw[wi64 (by omega) (by omega)];omega
     rw[if_pos (by simp only[j9];omega),w,qRw hs2]
     simp only[j0]
     congr 1
     rw[qNb,jY]
     cases pre with
     |nil=>rfl
     |cons u pre=>
      have hu:=u.pos
      have e1:((((qAu (u::pre):Nat)):Int)==0)=false:=by
       simp only[qAu,beq_eq_false_iff_ne];omega
      rw[e1]
      cases pre<;>rfl
  ·rw[if_neg hp,show qXt d=false by simpa using hp]
   rfl
 ·rw[if_neg hh,show qWm d=false by simpa using hh]
  rfl
def SmSr(f:Sr):Prop:=f.2.1.length<2000000∧f.2.2.length<2000000∧∀d∈f.2.2,SmD d
def synP(f:Sr):Bool:=qGl f.1&&(f.2.1.all qGl&&f.2.2.all qHu)
theorem zCd{N:Nat}{f:Sr}(hf:SmSr f)(hN:3000000<N):qHz N f=some (synP f):=by
 obtain⟨h1,h2,h3⟩:=hf
 unfold qHz
 rw[qOo (by omega)]
 simp only[j0]
 unfold synP
 by_cases hn:qGl f.1=true
 ·rw[hn,if_neg (by decide),gC]
  have i1:=qKg (L:=f.2.1) (fun(_:Unit) (i:Nat)=>(i:Int)) (f:=qGe N f)
   (fun _ s=>if(!qGl s)=true then .inr (.inr false) else .inl ()) (fun _=>(.inl ():Unit⊕Bool)) (fun _ _=>True) (by
    intro t i hi _
    simp only[qGe]
    rw[if_pos (by simp only[j9];omega),qDw hi]
    have ew:IntKind.wrap .i64 ((i:Int)+1)=((i+1:Nat):Int):=by rw[wi64 (by omega) (by omega)];omega
    simp only[j0,qOo (s:=f.2.1[i]) (show 100<N by omega),ew]
    cases qGl f.2.1[i]<;>rfl) (fun _ _ _ _ _ _=>trivial) (by
    intro t _
    simp only[qGe]
    rw[if_neg (by simp)]) (M:=N) (t:=()) (by omega) trivial
  have i2:=qQg (L:=f.2.2) (fun(_:Unit) (i:Nat)=>(i:Int)) (f:=qGf N f)
   (fun _ d=>if(!qHu d)=true then .inr (.inr false) else .inl ()) (fun _=>(.inl ():Unit⊕Bool)) (fun _ _=>True) (by
    intro t i hi _
    simp only[qGf]
    rw[if_pos (by simp only[j9];omega),qDw hi]
    have ew:IntKind.wrap .i64 ((i:Int)+1)=((i+1:Nat):Int):=by rw[wi64 (by omega) (by omega)];omega
    simp only[j0,ew]
    rw[show qGu N (f.2.2[i].1,f.2.2[i].2.1,f.2.2[i].2.2.1,f.2.2[i].2.2.2)=_ from qXa (h3 _ (jV hi)) hN]
    simp only[j0]
    cases qHu f.2.2[i]<;>rfl) (fun _ _ _ _ _ _=>trivial) (by
    intro t _
    simp only[qGf]
    rw[if_neg (by simp)]) f.2.2.length 0 N () (by omega) (by omega) trivial
  rw[show((0:Nat):Int)=0 from rfl] at i1 i2
  rw[i1,qRh (b:=(.inr false:Unit⊕Bool)) (fun s=> !qGl s) (fun x=>rfl),fN]
  cases ha:(f.2.1.any fun s=> !qGl s) with
  |true=>rfl
  |false=>
   simp only[jB,jK,j0,gY,gC]
   rw[i2,kG,qRh (b:=(.inr false:Unit⊕Bool)) (fun s=> !qHu s) (fun x=>rfl),fN]
   cases(f.2.2.any fun s=> !qHu s)<;>rfl
 ·rw[show qGl f.1=false by simpa using hn]
  rfl
def dupG{α:Type}[DecidableEq α]:List α→List α→Bool
 |_,[]=>false
 |seen,x::l=>decide (x∈seen)||dupG (seen++[x]) l
def dupL{α:Type}[DecidableEq α](l:List α):Bool:=dupG [] l
theorem qYz{α:Type}[DecidableEq α]{l:List α}{f:Int→Option (Int⊕(Unit⊕Bool))}(hs:∀(i:Nat) (hi:i<l.length),f (i:Int)=some (if l[i]∈l.take i then .inr (.inr true) else .inl ((i+1:Nat):Int)))
  (hf:f (l.length:Int)=some (.inr (.inl ()))):∀(d i M:Nat),i+d=l.length→d<M→qBa f M (i:Int)=some (if dupG (l.take i) (l.drop i)=true then .inr true else .inl ())
 |_,_,0,_,h=>absurd h (kH _)
 |0,i,M+1,hd,_=>by
  have:i=l.length:=by omega
  subst this
  simp only[qBa,hf,j0,fU,dupG]
  rfl
 |d+1,i,M+1,hd,hM=>by
  have hi:i<l.length:=by omega
  simp only[qBa,hs i hi,j0]
  rw[qLn hi]
  by_cases hm:l[i]∈l.take i
  ·have e:dupG (l.take i) (l[i]::l.drop (i+1))=true:=by
    show(decide _||_)=true
    rw[kC hm,Bool.true_or]
   rw[if_pos hm,if_pos e]
  ·have e:dupG (l.take i) (l[i]::l.drop (i+1))=dupG (l.take (i+1)) (l.drop (i+1)):=by
    show(decide _||_)=_
    rw[kK hm,kY,qRb hi]
   rw[if_neg hm,e]
   exact qYz hs hf d (i+1) M (by omega) (by omega)
theorem qWi{α:Type}[DecidableEq α]{l:List α}{f:Int→Option (Int⊕(Unit⊕Bool))}(hs:∀(i:Nat) (hi:i<l.length),f (i:Int)=some (if l[i]∈l.take i then .inr (.inr true) else .inl ((i+1:Nat):Int)))
  (hf:f (l.length:Int)=some (.inr (.inl ()))) {M:Nat} (hM:l.length<M):qBa f M 0=some (if dupL l=true then .inr true else .inl ()):=by
 have h:=qYz hs hf l.length 0 M (by omega) hM
 rw[List.take_zero,kG] at h
 exact h
theorem qTx{α:Type}[DecidableEq α]{l:List α}{x:α}{f:Int→Option (Int⊕(Unit⊕Int))}(hs:∀(i:Nat) (hi:i<l.length),f (i:Int)=some (if x=l[i] then .inr (.inr (i:Int)) else .inl ((i+1:Nat):Int)))
  (hf:f (l.length:Int)=some (.inr (.inl ()))):∀(d i M:Nat),i+d=l.length→d<M→∃o,qBa f M (i:Int)=some o∧(match o with| .inl _=>x∉l.drop i| .inr j=>x∈l.drop i∧0≤j)
 |_,_,0,_,h=>absurd h (kH _)
 |0,i,M+1,hd,_=>by
  have:i=l.length:=by omega
  subst this
  simp only[qBa,hf,j0,fU]
  exact⟨.inl (),rfl,kO⟩
 |d+1,i,M+1,hd,hM=>by
  have hi:i<l.length:=by omega
  simp only[qBa,hs i hi,j0]
  rw[qLn hi]
  by_cases hx:x=l[i]
  ·rw[if_pos hx]
   exact⟨.inr (i:Int),rfl,by rw[hx];exact jL ..,by omega⟩
  ·rw[if_neg hx]
   simp only
   obtain⟨o,o1,o2⟩:=qTx hs hf d (i+1) M (by omega) (by omega)
   refine⟨o,o1,?_⟩
   cases o with
   |inl u=>exact fun h=>(jQ.1 h).elim hx o2
   |inr j=>exact⟨jZ _ o2.1,o2.2⟩
theorem qPr{N:Nat}{s:ByteArray}{l:List ByteArray}(hl:l.length<2000000)(hN:l.length<N):qBc N l s=some (decide (s∈l)):=by
 obtain⟨o,o1,o2⟩:=qTx (l:=l) (x:=s) (f:=qBj N l s) (fun i hi=>by
  simp only[qBj]
  rw[if_pos (by simp only[j9];omega),qDw hi]
  have ew:IntKind.wrap .i64 ((i:Int)+1)=((i+1:Nat):Int):=by rw[wi64 (by omega) (by omega)];omega
  simp only[j0,qGo,j9,ew]
  split<;>rfl) (by
  simp only[qBj]
  rw[if_neg (by simp)]) l.length 0 N (by omega) hN
 rw[show((0:Nat):Int)=0 from rfl] at o1
 rw[kG] at o2
 simp only[qBc,qCb,o1,j0]
 cases o with
 |inl u=>
  simp only at o2
  rw[kK o2];rfl
 |inr j=>
  simp only at o2 ⊢
  rw[kC o2.1]
  simp[o2.2]
theorem qWo{N:Nat}{l:List ByteArray}(hl:l.length<2000000)(hN:l.length<N):qEw N l=some (dupL l):=by
 have h:=qWi (l:=l) (f:=qDs N l) (fun i hi=>by
  simp only[qDs]
  rw[if_pos (by simp only[j9];omega),qDw hi,qQo (by omega) (by omega) (by omega)]
  have ew:IntKind.wrap .i64 ((i:Int)+1)=((i+1:Nat):Int):=by rw[wi64 (by omega) (by omega)];omega
  simp only[j0,jO,Int.toNat_zero,kG,ew]
  rw[qPr (by rw[fF];omega) (by rw[fF];omega)]
  simp only[j0,j9]
  split<;>rfl) (by
  simp only[qDs]
  rw[if_neg (by simp)]) hN
 simp only[qEw,h,j0]
 cases dupL l<;>rfl
abbrev Nm2:=Int×ByteArray
instance decMemN(s:Nm2)(l:List Nm2):Decidable (s∈l):=@List.instDecidableMemOfLawfulBEq Nm2 instBEqOfDecidableEq inferInstance s l
theorem qVq{N:Nat}{s:Nm2}{l:List Nm2}(hl:l.length<2000000)(hN:l.length<N):qBv N l s=some (decide (s∈l)):=by
 obtain⟨o,o1,o2⟩:=qTx (l:=l) (x:=s) (f:=qBp N l s) (fun i hi=>by
  simp only[qBp]
  rw[if_pos (by simp only[j9];omega),qDw hi]
  have ew:IntKind.wrap .i64 ((i:Int)+1)=((i+1:Nat):Int):=by rw[wi64 (by omega) (by omega)];omega
  have ee:((s.1==l[i].1)&&((s.2.toList==l[i].2.toList)&&true))=decide (s=l[i]):=by
   rw[gE]
   simp only[qGo,jI,kI,j9,and_true,Prod.ext_iff]
  simp only[j0,ee,j9,ew]
  split<;>rfl) (by
  simp only[qBp]
  rw[if_neg (by simp)]) l.length 0 N (by omega) hN
 rw[show((0:Nat):Int)=0 from rfl] at o1
 rw[kG] at o2
 simp only[qBv,qCh,o1,j0]
 cases o with
 |inl u=>
  simp only at o2
  rw[kK o2];rfl
 |inr j=>
  simp only at o2 ⊢
  rw[kC o2.1]
  simp[o2.2]
theorem zCg{N:Nat}{l:List Nm2}(hl:l.length<2000000)(hN:l.length<N):qEa N l=some (dupL l):=by
 have h:=qWi (l:=l) (f:=qCf N l) (fun i hi=>by
  simp only[qCf]
  rw[if_pos (by simp only[j9];omega),qDw hi,qQo (by omega) (by omega) (by omega)]
  have ew:IntKind.wrap .i64 ((i:Int)+1)=((i+1:Nat):Int):=by rw[wi64 (by omega) (by omega)];omega
  simp only[j0,jO,Int.toNat_zero,kG,ew]
  rw[qVq (by rw[fF];omega) (by rw[fF];omega)]
  simp only[j0,j9]
  split<;>rfl) (by
  simp only[qCf]
  rw[if_neg (by simp)]) hN
 simp only[qEa,h,j0]
 cases dupL l<;>rfl
def zCk(d:Dl):Nm2:=(d.1,d.2.1)
def qTc(f:Sr):Bool:=f.2.2.any (fun d=>dupL d.2.2.1)||(decide (f.1∈f.2.1)||(dupL f.2.1||dupL (f.2.2.map zCk)))
theorem zEm{N:Nat}{f:Sr}(hf:SmSr f)(hN:3000000<N):qBa (qGb N f) N ([],0)=some (if f.2.2.any (fun d=>dupL d.2.2.1)=true then .inr true else .inl (f.2.2.map zCk)):=by
 obtain⟨h1,h2,h3⟩:=hf
 have h:=qKg (L:=f.2.2) (fun(t:List Nm2) (i:Nat)=>(t,(i:Int))) (f:=qGb N f)
  (fun t d=>if dupL d.2.2.1=true then .inr (.inr true) else .inl (t++[zCk d])) (fun t=>(.inl t:List Nm2⊕Bool)) (fun i t=>t.length≤i) (by
   intro t i hi hI
   obtain⟨-,k1,-,-⟩:=h3 _ (jV hi)
   simp only[qGb]
   rw[if_pos (by simp only[j9];omega),qDw hi]
   have ew:IntKind.wrap .i64 ((i:Int)+1)=((i+1:Nat):Int):=by rw[wi64 (by omega) (by omega)];omega
   simp only[j0,qWo k1 (show(f.2.2[i]).2.2.1.length<N by omega),ew]
   rw[qGm (by simp only[jC,jF];omega) (by omega)]
   simp only[j0]
   split<;>rfl) (by
   intro t i hi t' hI h
   split at h
   ·cases h
   ·cases h
    simp only[jA,jC,jF];omega) (by
   intro t hI
   simp only[qGb]
   rw[if_neg (by simp)]) (M:=N) (t:=[]) (by omega) (jM _)
 rw[show((0:Nat):Int)=0 from rfl] at h
 rw[h]
 congr 1
 suffices g:∀(l:List Dl) (t:List Nm2),run (fun t d=>if dupL d.2.2.1=true then .inr (.inr true) else .inl (t++[zCk d])) (fun t=>(.inl t:List Nm2⊕Bool)) l t=if l.any (fun d=>dupL d.2.2.1)=true then .inr true else .inl (t++l.map zCk) by
  have:=g f.2.2 []
  rw[jX] at this
  exact this
 intro l
 induction l with
 |nil=>intro t;simp[run]
 |cons d l ih=>
  intro t
  simp only[run,fM,jN]
  cases hd:dupL d.2.2.1 with
  |true=>simp
  |false=>
   simp only[jB,jK,kY]
   rw[ih,jJ];rfl
theorem zDv{N:Nat}{f:Sr}(hf:SmSr f)(hN:3000000<N):qIo N f=some (qTc f):=by
 obtain⟨h1,h2,h3⟩:=id hf
 unfold qIo
 rw[zEm hf hN]
 simp only[j0]
 unfold qTc
 cases ha:f.2.2.any (fun d=>dupL d.2.2.1) with
 |true=>rfl
 |false=>
  simp only[jB,jK,kY]
  rw[qPr h1 (by omega),qWo h1 (by omega),zCg (by rw[gO];exact h2) (by rw[gO];omega)]
  simp only[j0]
  cases decide (f.1∈f.2.1)<;>cases dupL f.2.1<;>rfl
end
section
open Go Go.Dc
def zAa:List Ex→List Rose→List Rose
 |[],fs=>fs
 |x::l,fs=>zAa l (fs.take (fs.length-x.2.2.2.2.length)++[Rose.mk (x.1,x.2.1,x.2.2.1,x.2.2.2.1) (fs.drop (fs.length-x.2.2.2.2.length))])
def zCj(l:List Ex):Option Rose:=match zAa l [] with
 |[t]=>some t
 |_=>none
theorem qYe:∀(l:List Ex) (fs:List Rose) {st:List Int},ordS l (qAu fs) (qCi 0 fs)=some st→qFn 0 (zAa l fs)=qFn 0 fs++l∧st=qCi 0 (zAa l fs)
 |[],fs,st,h=>⟨by simp[zAa],(jD h).symm⟩
 |x::l,fs,st,h=>by
  rw[qQp x _ _ _ x.2.2.2.2 rfl] at h
  split at h
  ·rename_i hc
   obtain⟨h1,h2⟩:=hc
   rw[qGw] at h1 h2 h
   obtain⟨e1,e2,e3⟩:=qQf (h:=(x.1,x.2.1,x.2.2.1,x.2.2.2.1)) h1 rfl h2
   rw[←e1,←e2] at h
   obtain⟨g1,g2⟩:=qYe l _ h
   exact⟨by rw[zAa,g1,e3,jJ];rfl,g2⟩
  ·cases h
theorem qZg{l:List Ex}(h:oneP (ordS l 0 [])=true):∃t,zCj l=some t∧l=t.flat 0:=by
 cases ho:ordS l 0 [] with
 |none=>rw[ho] at h;cases h
 |some st=>
  rw[ho] at h
  obtain⟨g1,g2⟩:=qYe l [] ho
  have hl:st.length=1:=by
   match st,h with
   |[x],_=>rfl
  rw[g2,qGw] at hl
  obtain⟨t,ht⟩:=List.length_eq_one_iff.1 hl
  refine⟨t,by unfold zCj;rw[ht],?_⟩
  rw[ht] at g1
  simpa[qFn] using g1.symm
mutual
def Rose.deepen(d:Nat):Rose→Nat
 | .mk h ks=>max d (qMt (if h.1=4 then d else d+1) ks)
def qMt(d:Nat):List Rose→Nat
 |[]=>0
 |t::l=>max (t.deepen d) (qMt d l)
end
theorem qOe{d:Nat}:∀{l:List Rose},(32<qMt d l)↔∃t∈l,32<t.deepen d
 |[]=>by simp[qMt]
 |t::l=>by
  have ih:=qOe (d:=d) (l:=l)
  simp only[qMt,jQ,exists_eq_or_imp,←ih]
  omega
def qMk(dp:List Int)(a:List Int)(v:Int):List Int:=a.foldl (fun dp a=>dp.set a.toNat v) dp
theorem qTe:∀(a:List Int) (dp:List Int) (v:Int),(qMk dp a v).length=dp.length
 |[],_,_=>rfl
 |x::a,dp,v=>by
  show(qMk (dp.set x.toNat v) a v).length=_
  rw[qTe a,gA]
theorem qQv{j:Nat}{v:Int}:∀(ks:List Rose) (b:Nat) (dp:List Int),j<b→(qMk dp (qCi b ks) v)[j]? =dp[j]?
 |[],_,_,_=>rfl
 |t::l,b,dp,h=>by
  have hp:=t.pos
  show(qMk (dp.set (((b+t.size-1:Nat):Int)).toNat v) (qCi (b+t.size) l) v)[j]? =_
  rw[qQv l (b+t.size) _ (by omega),jO,List.getElem?_set_ne (by omega)]
def DpOk(dp:List Int):Nat→List (Rose×Nat)→Prop
 |_,[]=>True
 |b,p::l=>(∃v:Int,dp[b+p.1.size-1]? =some v∧(v=(p.2:Int)∨v=0∧p.2=1))∧DpOk dp (b+p.1.size) l
theorem DpOk.app{dp:List Int}:∀{l k:List (Rose×Nat)} {b:Nat},DpOk dp b (l++k)↔DpOk dp b l∧DpOk dp (b+qAu (l.map (·.1))) k
 |[],k,b=>by simp[DpOk,qAu]
 |t::l,k,b=>by
  rw[k7]
  simp only[DpOk,jN,qAu,DpOk.app (l:=l)]
  rw[and_assoc,kW]
theorem DpOk.congr{dp dp':List Int}:∀{l:List (Rose×Nat)} {b:Nat},DpOk dp b l→(∀j,j<b+qAu (l.map (·.1))→dp'[j]? =dp[j]?)→DpOk dp' b l
 |[],_,_,_=>trivial
 |t::l,b,h,hj=>by
  have hp:=t.1.pos
  simp only[jN,qAu] at hj
  refine⟨?_,h.2.congr fun j h=>hj j (by omega)⟩
  obtain⟨v,h1,h2⟩:=h.1
  exact⟨v,by rw[hj _ (by omega)];exact h1,h2⟩
theorem DpOk.kids{d:Nat}:∀{ks:List Rose} {b:Nat} {dp:List Int},b+qAu ks≤dp.length→DpOk (qMk dp (qCi b ks) (d:Int)) b (ks.map fun t=>(t,d))
 |[],_,_,_=>trivial
 |t::l,b,dp,h=>by
  have hp:=t.pos
  simp only[qAu] at h
  show DpOk (qMk (dp.set (((b+t.size-1:Nat):Int)).toNat d) (qCi (b+t.size) l) d) b ((t,d)::l.map fun t=>(t,d))
  refine⟨⟨d,?_,.inl rfl⟩,DpOk.kids (by rw[gA];omega)⟩
  rw[qQv l (b+t.size) _ (by show b+t.size-1<b+t.size;omega),jO,List.getElem?_set_self (by omega)]
theorem qXs{N i d:Nat}{x1:Dl}{x5:Ex}{so:List Int}(hx:x1.2.2.2[i]? =some x5)(ha:∀a∈x5.2.2.2.2,0≤a∧a<(i:Int))(hal:x5.2.2.2.2.length<2000000)(hd:d≤1000):∀(k j M:Nat) (dp:List Int),j+k=x5.2.2.2.2.length→k<M→i<dp.length→dp[i]? =some (d:Int)→
  qBa (qHi N x1 ((i:Int),so) x5) M ((j:Int),dp)=some (qMk dp (x5.2.2.2.2.drop j) (if x5.1=4 then(d:Int) else((d+1:Nat):Int)))
 |_,_,0,_,_,h,_,_=>absurd h (kH _)
 |0,j,M+1,dp,hj,_,_,_=>by
  have:j=x5.2.2.2.2.length:=by omega
  subst this
  simp only[qBa,qHi]
  rw[if_neg (by simp),fU]
  rfl
 |k+1,j,M+1,dp,hj,hM,hi,hdp=>by
  have hjl:j<x5.2.2.2.2.length:=by omega
  obtain⟨a0,a1⟩:=ha _ (jV hjl)
  obtain⟨a,ea⟩:∃a:Nat,x5.2.2.2.2[j]=(a:Int):=⟨(x5.2.2.2.2[j]).toNat,by omega⟩
  have hal2:a<i:=by omega
  have ew:IntKind.wrap .i64 ((j:Int)+1)=((j+1:Nat):Int):=by rw[wi64 (by omega) (by omega)];omega
  have ed:IntKind.wrap .i64 ((d:Int)+1)=((d+1:Nat):Int):=by rw[wi64 (by omega) (by omega)];omega
  simp only[qBa,qHi]
  rw[if_pos (by simp only[j9];omega),qDw hjl,ea]
  have hax:idx dp (a:Int)=some dp[a]:=qDw (by omega)
  have hset:idx (dp.set a (d:Int)) (a:Int)=some (d:Int):=qRw (List.getElem?_set_self (by omega))
  simp only[j0,qRw hdp,hax,qRw hx,jO,hset,ed,ew]
  rw[qLn hjl,ea]
  have hstep:∀v:Int,qMk dp ((a:Int)::x5.2.2.2.2.drop (j+1)) v=qMk (dp.set a v) (x5.2.2.2.2.drop (j+1)) v:=fun v=>by
   show qMk (dp.set ((a:Int)).toNat v) _ v=_
   rw[jO]
  by_cases hk:x5.1=4
  ·have e:(x5.1 !=4)=false:=by simp[hk]
   simp only[e,jB,jK,j0]
   rw[qXs hx ha hal hd k (j+1) M _ (by omega) (by omega) (by rw[gA];exact hi) (by rw[List.getElem?_set_ne (by omega)];exact hdp),if_pos hk,hstep]
  ·have e:(x5.1 !=4)=true:=by simp[hk]
   simp only[e,jU,j0,List.set_set]
   rw[qXs hx ha hal hd k (j+1) M _ (by omega) (by omega) (by rw[gA];exact hi) (by rw[List.getElem?_set_ne (by omega)];exact hdp),if_neg hk,hstep]
theorem qZh:∀{ks:List Rose} {b:Nat},∀a∈qCi b ks,(b:Int)≤a∧a<((b+qAu ks:Nat):Int)
 |[],_,a,h=>by cases h
 |t::l,b,a,h=>by
  have hp:=t.pos
  simp only[qAu]
  rcases jQ.1 h with rfl|h
  ·omega
  ·have:=qZh (ks:=l) (b:=b+t.size) a h
   omega
theorem zAy{N:Nat}{x1:Dl}(hlen:x1.2.2.2.length≤256)(hargs:∀x∈x1.2.2.2,x.2.2.2.2.length<2000000)(hN:3000000<N):∀(M:Nat) (F:List (Rose×Nat)) (dp:List Int),qFn 0 (F.map (·.1))=x1.2.2.2.take (qAu (F.map (·.1)))→qAu (F.map (·.1))≤x1.2.2.2.length→dp.length=x1.2.2.2.length→DpOk dp 0 F→(∀p∈F,1≤p.2∧p.2≤33)→qAu (F.map (·.1))<M→
  ∃o,qBa (qGr N x1) M (((qAu (F.map (·.1)):Nat):Int)-1,dp)=some o∧(match o with
   | .inl _=>¬∃p∈F,32<p.1.deepen p.2
   | .inr b=>b=true∧∃p∈F,32<p.1.deepen p.2)
 |0,_,_,_,_,_,_,_,h=>absurd h (kH _)
 |M+1,F,dp,hf,hle,hdl,hdp,hd1,hM=>by
  rcases List.eq_nil_or_concat F with rfl|⟨pre,⟨⟨h,ks⟩,d⟩,rfl⟩
  ·simp only[qBa,qGr]
   rw[if_neg (by simp[qAu])]
   exact⟨_,rfl,by simp⟩
  ·rw[List.concat_eq_append] at*
   obtain⟨g1,g2⟩:=hd1 (Rose.mk h ks,d) (by simp)
   simp only at g1 g2
   rw[kZ,List.map_singleton] at hf hle hM ⊢
   have hsz:qAu (pre.map (·.1)++[Rose.mk h ks])=qAu (pre.map (·.1))+(qAu ks+1):=by rw[qIy];simp[qAu,Rose.size]
   generalize hb:qAu (pre.map (·.1))=b at hsz
   obtain⟨d1,d2,-⟩:=DpOk.app.1 hdp
   rw[jY,hb] at d2
   obtain⟨v,v1,v2⟩:=d2
   simp only[Rose.size] at v1
   rw[show b+(qAu ks+1)-1=b+qAu ks by omega] at v1
   rw[hsz] at hle hM ⊢
   have hi:b+qAu ks<dp.length:=by omega
   have ei:((b+(qAu ks+1):Nat):Int)-1=((b+qAu ks:Nat):Int):=by omega
   -- the node
   have hnode:x1.2.2.2[b+qAu ks]? =some (qJk h (qCi b ks)):=by
    have e:x1.2.2.2.take (b+(qAu ks+1))=qFn 0 (pre.map (·.1))++(qFn b ks++[qJk h (qCi b ks)]):=by
     rw[hsz] at hf
     rw[←hf,qLo,jY,hb]
     simp[qFn,Rose.flat]
    have e2:(x1.2.2.2.take (b+(qAu ks+1)))[b+qAu ks]? =some (qJk h (qCi b ks)):=by
     rw[e,List.getElem?_append_right (by rw[qGy,hb];omega),List.getElem?_append_right (by rw[qGy,qGy,hb];omega),qGy,qGy,hb,show b+qAu ks-b-qAu ks=0 by omega]
     rfl
    rw[List.getElem?_take_of_lt (by omega)] at e2
    exact e2
   have wi:IntKind.wrap .i64 (((b+qAu ks:Nat):Int)-1)=((b+qAu ks:Nat):Int)-1:=by rw[wi64 (by omega) (by omega)]
   -- the node's depth is laid
   have hset:(if(v==0)=true then some (dp.set (b+qAu ks) 1) else some dp:Option (List Int))=some (dp.set (b+qAu ks) (d:Int)):=by
    rcases v2 with rfl|⟨rfl,rfl⟩
    ·have:((d:Int)==0)=false:=by rw[beq_eq_false_iff_ne];omega
     rw[this,qYh v1];rfl
    ·rfl
   have hd':(dp.set (b+qAu ks) (d:Int))[b+qAu ks]? =some (d:Int):=List.getElem?_set_self hi
   simp only[qBa,qGr]
   rw[ei,if_pos (by simp only[j9];omega),qRw v1]
   simp only[j0,jO,hset,qRw hd',qRw hnode]
   have hdeep:(Rose.mk h ks).deepen d=max d (qMt (if h.1=4 then d else d+1) ks):=by simp only[Rose.deepen]
   by_cases h32:32<d
   ·rw[if_pos (by simp only[j9];omega)]
    refine⟨.inr true,rfl,rfl,(Rose.mk h ks,d),by simp,?_⟩
    simp only[hdeep];omega
   ·rw[if_neg (by simp only[j9];omega)]
    have hra:∀a∈qCi b ks,0≤a∧a<((b+qAu ks:Nat):Int):=fun a ha=>by
     have:=qZh a ha;omega
    have h3:=qXs (N:=N) (i:=b+qAu ks) (d:=d) (x1:=x1) (x5:=qJk h (qCi b ks)) (so:=dp) hnode hra (by
     have:=hargs _ (List.mem_of_getElem? hnode);exact this) (by omega) (qCi b ks).length 0 N (dp.set (b+qAu ks) (d:Int)) (by show 0+_=(qCi b ks).length;omega) (by
     have:=hargs _ (List.mem_of_getElem? hnode)
     have:(qCi b ks).length<2000000:=this
     omega) (by rw[gA];exact hi) hd'
    rw[kG] at h3
    rw[show(((0:Nat):Int))=0 from rfl] at h3
    rw[h3]
    simp only[j0,wi]
    have hv:(if(qJk h (qCi b ks)).1=4 then(d:Int) else((d+1:Nat):Int))=(((if h.1=4 then d else d+1:Nat)):Int):=by
     show(if h.1=4 then(d:Int) else((d+1:Nat):Int))=_
     split<;>rfl
    rw[hv]
    show ∃o,qBa (qGr N x1) M (((b+qAu ks:Nat):Int)-1,qMk (dp.set (b+qAu ks) (d:Int)) (qCi b ks) _)=some o∧_
    generalize hd2:(if h.1=4 then d else d+1:Nat)=d'
    rw[hd2] at hdeep
    have hd2':1≤d'∧d'≤33:=by rw[←hd2];split<;>omega
    have hmm:∀l:List Rose,(l.map fun t=>(t,d')).map (·.1)=l:=fun l=>by rw[List.map_map];exact List.map_id _
    have hszF:qAu ((pre++ks.map fun t=>(t,d')).map (·.1))=b+qAu ks:=by rw[kZ,hmm,qIy,hb]
    have hfl:qFn 0 ((pre++ks.map fun t=>(t,d')).map (·.1))=x1.2.2.2.take (b+qAu ks):=by
     rw[kZ,hmm,qLo,jY,hb]
     have e:x1.2.2.2.take (b+(qAu ks+1))=qFn 0 (pre.map (·.1))++(qFn b ks++[qJk h (qCi b ks)]):=by
      rw[hsz] at hf
      rw[←hf,qLo,jY,hb]
      simp[qFn,Rose.flat]
     have e3:=congrArg (List.take (b+qAu ks)) e
     rw[List.take_take,Nat.min_eq_left (by omega),←jJ,kN (by rw[jA,qGy,qGy,hb];exact jM _),gH (show(qFn 0 (pre.map (·.1))++qFn b ks).length≤b+qAu ks by rw[jA,qGy,qGy,hb];exact jM _)] at e3
     exact e3.symm
    obtain⟨o,o1,o2⟩:=zAy hlen hargs hN M (pre++ks.map fun t=>(t,d')) (qMk (dp.set (b+qAu ks) (d:Int)) (qCi b ks) (d':Int)) (by rw[hszF];exact hfl) (by rw[hszF];omega) (by rw[qTe,gA];exact hdl) (DpOk.app.2 ⟨d1.congr fun j hj=>by
      rw[jY,hb] at hj
      rw[qQv ks b _ hj,List.getElem?_set_ne (by omega)],by
      rw[jY,hb]
      exact DpOk.kids (by rw[gA];omega)⟩) (fun p hp=>by
      rcases kP.1 hp with hp|hp
      ·exact hd1 p (jS _ hp)
      ·obtain⟨t,-,rfl⟩:=fI.1 hp
       exact hd2') (by rw[hszF];omega)
    rw[hszF] at o1
    refine⟨o,o1,?_⟩
    have hiff:(∃p∈pre++ks.map fun t=>(t,d'),32<p.1.deepen p.2)↔∃p∈pre++[(Rose.mk h ks,d)],32<p.1.deepen p.2:=by
     simp only[kP,fI,jW]
     constructor
     ·rintro⟨p,hp|⟨t,ht,rfl⟩,hq⟩
      ·exact⟨p,.inl hp,hq⟩
      ·refine⟨_,.inr rfl,?_⟩
       simp only[hdeep]
       have:32<qMt d' ks:=qOe.2 ⟨t,ht,hq⟩
       omega
     ·rintro⟨p,hp|rfl,hq⟩
      ·exact⟨p,.inl hp,hq⟩
      ·simp only[hdeep] at hq
       obtain⟨t,ht,hq⟩:=qOe.1 (show 32<qMt d' ks by omega)
       exact⟨_,.inr ⟨t,ht,rfl⟩,hq⟩
    cases o with
    |inl u=>exact fun hx=>o2 (hiff.2 hx)
    |inr u=>exact⟨o2.1,hiff.1 o2.2⟩
def qXn(l:List Ex):Bool:=match zCj l with
 |some t=>decide (32<t.deepen 1)
 |none=>false
def qXk(d:Dl):Bool:=decide (8<d.2.2.1.length)||(decide (256<d.2.2.2.length)||qXn d.2.2.2)
def qUq(f:Sr):Bool:=decide (8<f.2.1.length)||(decide (64<f.2.2.length)||f.2.2.any qXk)
def qJx(f:Sr):Int:=if synP f=true then if qTc f=true then 10 else if qUq f=true then 2 else 0 else 9
theorem zGg{N:Nat}{f:Sr}(hf:SmSr f)(hs:synP f=true)(hN:3000000<N):qJi N f=some (qUq f):=by
 obtain⟨h1,h2,h3⟩:=id hf
 have hbody:∀d∈f.2.2,oneP (ordS d.2.2.2 0 [])=true:=fun d hd=>by
  unfold synP qHu qZu at hs
  simp only[jI,jP] at hs
  exact(hs.2.2 d hd).2.2.2
 have hL:=qKg (L:=f.2.2) (fun(_:Unit) (i:Nat)=>(i:Int)) (f:=qHh N f)
  (fun _ d=>if qXk d=true then .inr (.inr true) else .inl ()) (fun _=>(.inl ():Unit⊕Bool)) (fun _ _=>True) (by
   intro t i hi _
   obtain⟨-,k1,k2,k3⟩:=h3 _ (jV hi)
   have hb:=hbody _ (jV hi)
   simp only[qHh]
   rw[if_pos (by simp only[j9];omega),qDw hi]
   generalize f.2.2[i]=d at k1 k2 k3 hb
   have ew:IntKind.wrap .i64 ((i:Int)+1)=((i+1:Nat):Int):=by rw[wi64 (by omega) (by omega)];omega
   have e8:decide ((d.2.2.1.length:Int)>8)=decide (8<d.2.2.1.length):=by congr 1;rw[eq_iff_iff];omega
   have e256:decide ((d.2.2.2.length:Int)>256)=decide (256<d.2.2.2.length):=by congr 1;rw[eq_iff_iff];omega
   simp only[j0,e8,e256,ew]
   unfold qXk
   cases c8:decide (8<d.2.2.1.length) with
   |true=>rfl
   |false=>
    simp only[jB,jK,j0,kY]
    cases c256:decide (256<d.2.2.2.length) with
    |true=>rfl
    |false=>
     have hl:=of_decide_eq_false c256
     have hmx:(maxLen:Int)=9223372036854775807:=rfl
     have hmk:qPc 8 (0:Int) (d.2.2.2.length:Int)=some (List.replicate d.2.2.2.length 0):=by
      unfold qPc;rw[if_pos (by omega),jO]
     obtain⟨t,ht1,ht2⟩:=qZg hb
     have htl:t.size=d.2.2.2.length:=by
      have:=qLy t 0
      rw[←ht2] at this;exact this.symm
     have hp:=t.pos
     simp only[jB,jK,hmk,j0,kY]
     have hsz:qAu ([(t,1)].map (·.1))=d.2.2.2.length:=by simp[qAu,htl]
     obtain⟨o,o1,o2⟩:=zAy (N:=N) (x1:=d) (by omega) (fun x hx=>(k3 x hx).2) hN N [(t,1)] (List.replicate d.2.2.2.length 0) (by
      rw[hsz,gU]
      simp only[jN,fJ,qFn,kQ]
      exact ht2.symm) (by rw[hsz];exact jM _) (by simp) ⟨⟨0,by rw[jY,htl,List.getElem?_replicate,if_pos (by omega)],.inr ⟨rfl,rfl⟩⟩,trivial⟩ (by simp) (by rw[hsz];omega)
     rw[hsz] at o1
     rw[wi64 (by omega) (by omega),o1]
     have hdb:qXn d.2.2.2=decide (32<t.deepen 1):=by unfold qXn;rw[ht1]
     simp only[j0]
     cases o with
     |inl u=>
      simp only[jW,exists_eq_left] at o2
      have e:qXn d.2.2.2=false:=by rw[hdb];exact kK o2
      rw[e]
      rfl
     |inr u=>
      simp only[jW,exists_eq_left] at o2
      obtain⟨rfl,o3⟩:=o2
      have e:qXn d.2.2.2=true:=by rw[hdb];exact kC o3
      rw[e]
      rfl) (fun _ _ _ _ _ _=>trivial) (by
   intro t _
   simp only[qHh]
   rw[if_neg (by simp)]) (M:=N) (t:=()) (by omega) trivial
 rw[show((0:Nat):Int)=0 from rfl] at hL
 unfold qJi
 have e8:decide ((f.2.1.length:Int)>8)=decide (8<f.2.1.length):=by congr 1;rw[eq_iff_iff];omega
 have e64:decide ((f.2.2.length:Int)>64)=decide (64<f.2.2.length):=by congr 1;rw[eq_iff_iff];omega
 rw[e8,e64]
 unfold qUq
 cases c8:decide (8<f.2.1.length) with
 |true=>rfl
 |false=>
  simp only[jB,jK,j0,kY]
  cases c64:decide (64<f.2.2.length) with
  |true=>rfl
  |false=>
   simp only[jB,jK,kY]
   rw[hL,qRh (b:=(.inr true:Unit⊕Bool)) qXk (fun x=>rfl)]
   cases f.2.2.any qXk<;>rfl
theorem qVr{N:Nat}{f:Sr}(hf:SmSr f)(hN:3000000<N):qGg N f=some (qJx f):=by
 unfold qGg
 rw[show qHz N (f.1,f.2.1,f.2.2)=_ from zCd hf hN,show qIo N (f.1,f.2.1,f.2.2)=_ from zDv hf hN]
 simp only[j0]
 unfold qJx
 cases hs:synP f with
 |false=>rfl
 |true=>
  rw[show qJi N (f.1,f.2.1,f.2.2)=_ from zGg hf hs hN]
  simp only[kM,jB,jK,j0,jU]
  cases qTc f<;>cases qUq f<;>rfl
end
section
open Go Go.Dc Go.Proofs
def lvH(h:Hd):Int:=if h.1=5 then 0 else if h.1=4 then(if h.2.2.1=6∨h.2.2.1=7 then 1 else if h.2.2.1=1∨h.2.2.1=2 then 2 else 3) else 4
def qLf(h:Hd)(k:Nat):Int:=if h.1=4 then(if k=0 then(if lvH h=1 then 2 else lvH h) else lvH h+1) else 0
def zCe:List (Int×ByteArray):=[(1,⟨#[43]⟩),(2,⟨#[45]⟩),(3,⟨#[42]⟩),(4,⟨#[47]⟩),(5,⟨#[37]⟩),(6,⟨#[60]⟩),(7,⟨#[61,61]⟩)]
def zAp(op:Int):ByteArray:=(qDe (some zCe) op).getD ⟨#[]⟩
def qYq:List (Int×ByteArray):=[(7,⟨#[115,105,122,101]⟩),(8,⟨#[104,97,115]⟩),(9,⟨#[101,110,118]⟩)]
def zAg(k:Int):ByteArray:=(qDe (some qYq) k).getD ⟨#[]⟩
def tI:List UInt8:=[105,102,32]
def tThen:List UInt8:=[32,116,104,101,110,32]
def tElse:List UInt8:=[32,101,108,115,101,32]
def sepK(k:Nat):List UInt8:=if k=0 then[] else[44,32]
def qPh:Nat→List (List UInt8)→List UInt8
 |_,[]=>[]
 |k,w::ws=>sepK k++(w++qPh (k+1) ws)
def qGs(ps:List ByteArray)(h:Hd)(ws:List (List UInt8)):List UInt8:=
 if h.1=1 then(itB h.2.1).data.toList
 else if h.1=2 then(ps.getD h.2.1.toNat ⟨#[]⟩).data.toList
 else if h.1=4 then ws.getD 0 []++((((⟨#[32]⟩:ByteArray)++zAp h.2.2.1)++(⟨#[32]⟩:ByteArray)).data.toList++ws.getD 1 [])
 else if h.1=5 then tI++(ws.getD 0 []++(tThen++(ws.getD 1 []++(tElse++ws.getD 2 []))))
 else if h.1=3 then(h.2.2.2++(⟨#[40]⟩:ByteArray)).data.toList++(qPh 0 ws++[41])
 else if h.1=6 then(((⟨#[114,101,97,100,40,34]⟩:ByteArray)++h.2.2.2)++(⟨#[34,44,32]⟩:ByteArray)).data.toList++(ws.getD 0 []++[41])
 else if h.1=10 then(((⟨#[102,108,105,112,40]⟩:ByteArray)++itB h.2.1)++(⟨#[41]⟩:ByteArray)).data.toList
 else(((zAg h.1++(⟨#[40,34]⟩:ByteArray))++h.2.2.2)++(⟨#[34,41]⟩:ByteArray)).data.toList
mutual
def Rose.wr(ps:List ByteArray)(need:Int):Rose→List UInt8
 | .mk h ks=>if lvH h<need then 40::(qGs ps h (wrs ps h 0 ks)++[41]) else qGs ps h (wrs ps h 0 ks)
def wrs(ps:List ByteArray)(h:Hd)(k:Nat):List Rose→List (List UInt8)
 |[]=>[]
 |t::l=>t.wr ps (qLf h k)::wrs ps h (k+1) l
end
mutual
def Rose.dep(need:Int)(d:Nat):Rose→Nat
 | .mk h ks=>max (if lvH h<need then d+1 else d) (deps h 0 (if h.1=4 then(if lvH h<need then d+1 else d) else(if lvH h<need then d+1 else d)+1) ks)
def deps(h:Hd)(k d:Nat):List Rose→Nat
 |[]=>0
 |t::l=>max (t.dep (qLf h k) d) (deps h (k+1) d l)
end
theorem qZj{N:Nat}(x:Ex):qGz N x=some (lvH (x.1,x.2.1,x.2.2.1,x.2.2.2.1)):=by
 unfold qGz qGq lvH
 by_cases h5:x.1=5
 ·simp[h5]
 by_cases h4:x.1=4
 ·by_cases o6:x.2.2.1=6
  ·simp[h4,o6]
  by_cases o7:x.2.2.1=7
  ·simp[h4,o7]
  by_cases o1:x.2.2.1=1
  ·simp[h4,o1]
  by_cases o2:x.2.2.1=2
  ·simp[h4,o2]
  simp[h4,o6,o7,o1,o2]
 simp[h5,h4]
theorem zEl{N:Nat}:qIp N=some (some zCe):=by kernel_rfl
theorem app1{l k:List UInt8}(h:l.length+k.length≤1000000000):qCd 1 l k=some (l++k):=qGm (by omega) (by decide)
theorem catW{x y:ByteArray}(h:x.size+y.size≤1000000000):catB x y=some (x++y):=by
 unfold catB
 rw[if_pos (Nat.le_trans h (by decide))]
theorem szl(x:ByteArray):x.data.toList.length=x.size:=by simp
theorem qOv(m d:Nat):(if(d:Int)>(m:Int) then(d:Int) else(m:Int))=((max m d:Nat):Int):=by
 split<;>omega
section
variable (N:Nat) (l:List Ex) (ps:List ByteArray)
def WrOk(t:Rose):Prop:=∀(D b:Nat) (buf:List UInt8) (s:Bool) (m d:Nat) (need:Int),AtT l b t→(∀x∈t.flat b,qIs (ps.length:Int) x=true)→2*t.size≤D→buf.length+(t.wr ps need).length≤1000000000→d+2*t.size≤100000000→0≤need→
 qCq N D ((s,buf),l,ps,(m:Int)) ((b+t.size-1:Nat):Int) need (d:Int)=some ((true,buf++t.wr ps need),l,ps,((max m (t.dep need d):Nat):Int))
variable {N l ps}
theorem qWf{h:Hd}{x1:Ex}{D d:Nat}(hN:3000000<N)(hx:x1.2.2.2.2.length<2000000)(hd:d<100000000):∀(ks:List Rose) (k b M m:Nat) (buf:List UInt8),(∀t∈ks,WrOk N l ps t)→x1.2.2.2.2.drop k=qCi b ks→k≤x1.2.2.2.2.length→AtTs l b ks→(∀x∈qFn b ks,qIs (ps.length:Int) x=true)→2*qAu ks≤D→h.1≠4→
  buf.length+(qPh k (wrs ps h k ks)).length≤1000000000→d+1+2*qAu ks≤100000000→ks.length<M→
  qBa (qDy N (qCq N D) (d:Int) x1) M ((k:Int),true,buf,l,ps,(m:Int))=some (true,buf++qPh k (wrs ps h k ks),l,ps,((max m (deps h k (d+1) ks):Nat):Int))
 |_,_,_,0,_,_,_,_,_,_,_,_,_,_,_,hM=>absurd hM (kH _)
 |[],k,b,M+1,m,buf,_,hr,hk,_,_,_,_,_,_,_=>by
  have hl:k=x1.2.2.2.2.length:=by
   have:=congrArg List.length hr
   rw[gW] at this
   simp only[qCi,jF] at this
   omega
  simp only[qBa,qDy]
  rw[if_neg (by simp only[j9];omega)]
  simp only[j0,wrs,qPh,kQ,deps,gR]
 |t::ks,k,b,M+1,m,buf,hks,hr,hk,hat,hv,hD,h4,hb,hdd,hM=>by
  have hpos:=t.pos
  simp only[qAu] at hD hdd
  have hkl:k<x1.2.2.2.2.length:=by
   by_cases hh:k<x1.2.2.2.2.length
   ·exact hh
   ·rw[kA (by omega)] at hr;cases hr
  rw[qLn hkl] at hr
  obtain⟨hr1,hr2⟩:=List.cons.inj hr
  obtain⟨at1,at2⟩:=hat.head
  have hn:qLf h k=0:=by unfold qLf;rw[if_neg h4]
  simp only[wrs,qPh,hn] at hb ⊢
  simp only[jA] at hb
  have ew:IntKind.wrap .i64 ((k:Int)+1)=((k+1:Nat):Int):=by rw[wi64 (by omega) (by omega)];omega
  have ed:IntKind.wrap .i64 ((d:Int)+1)=((d+1:Nat):Int):=by rw[wi64 (by omega) (by omega)];omega
  simp only[qBa,qDy]
  rw[if_pos (by simp only[j9];omega),qDw hkl,hr1]
  have hsep:(if(decide ((k:Int)>0))=true then((qCd 1 buf ((⟨#[44,32]⟩:ByteArray).data.toList)).bind fun l8=>some (true,l8)) else(some (true,buf)):Option (Bool×List (UInt8)))=some (true,buf++sepK k):=by
   unfold sepK at hb ⊢
   by_cases h0:k=0
   ·subst h0
    rw[if_neg (by decide),if_pos rfl,kQ]
   ·rw[if_neg h0] at hb
    rw[if_pos (by simp only[j9];omega),if_neg h0,app1 (by show buf.length+2≤_;simp only[jC,jF] at hb;omega)]
    rfl
  simp only[j0,hsep,ew,ed]
  rw[hks t (jL ..) D b (buf++sepK k) true m (d+1) 0 at1 (fun x hx=>hv x (by unfold qFn;exact jS _ hx)) (by omega) (by rw[jA];omega) (by omega) (fW 0)]
  simp only[j0]
  rw[qWf hN hx hd ks (k+1) (b+t.size) M (max m (t.dep 0 (d+1))) ((buf++sepK k)++t.wr ps 0) (fun u hu=>hks u (jZ _ hu)) hr2 (by omega) at2 (fun x hx=>hv x (by unfold qFn;exact k9 _ hx)) (by omega) h4 (by simp only[jA];omega) (by omega) (by simp only[jC] at hM;omega)]
  simp only[jJ,deps,hn,fV]
theorem qRs{np:Int}{x:Ex}(h:qIs np x=true):
  (x.1=1∧x.2.2.2.2.length=0∧-9007199254740992≤x.2.1∧x.2.1≤9007199254740992∧x.2.2.1=0∧x.2.2.2.1=emB)∨(x.1=2∧x.2.2.2.2.length=0∧0≤x.2.1∧x.2.1<np∧x.2.2.1=0∧x.2.2.2.1=emB)∨(x.1=3∧qGl x.2.2.2.1=true∧x.2.1=0∧x.2.2.1=0)∨(x.1=4∧x.2.2.2.2.length=2∧1≤x.2.2.1∧x.2.2.1≤7∧x.2.1=0∧x.2.2.2.1=emB)∨
  (x.1=5∧x.2.2.2.2.length=3∧x.2.1=0∧x.2.2.1=0∧x.2.2.2.1=emB)∨(x.1=6∧x.2.2.2.2.length=1∧qPd x.2.2.2.1.data.toList=true∧x.2.1=0∧x.2.2.1=0)∨((x.1=7∨x.1=8)∧x.2.2.2.2.length=0∧qPd x.2.2.2.1.data.toList=true∧x.2.1=0∧x.2.2.1=0)∨(x.1=9∧x.2.2.2.2.length=0∧qQy x.2.2.2.1=true∧x.2.1=0∧x.2.2.1=0)∨
  (x.1=10∧x.2.2.2.2.length=0∧0≤x.2.1∧x.2.1<64∧x.2.2.1=0∧x.2.2.2.1=emB):=by
 unfold qIs argN at h
 by_cases h1:x.1=1
 ·simp only[if_pos h1,jI,j9,kI] at h
  exact .inl ⟨h1,by omega,h.2.2.2.1,h.2.2.2.2,h.2.1,h.1⟩
 rw[if_neg h1] at h
 by_cases h2:x.1=2
 ·simp only[if_pos h2,jI,j9,kI] at h
  exact .inr (.inl ⟨h2,by omega,h.2.2.2.1,h.2.2.2.2,h.2.1,h.1⟩)
 rw[if_neg h2] at h
 by_cases h3:x.1=3
 ·simp only[if_pos h3,jI,j9,kI] at h
  exact .inr (.inr (.inl ⟨h3,h.2.2,h.1,h.2.1⟩))
 rw[if_neg h3] at h
 by_cases h4:x.1=4
 ·simp only[if_pos h4,jI,j9,kI] at h
  exact .inr (.inr (.inr (.inl ⟨h4,by omega,h.2.2.2.1,h.2.2.2.2,h.1,h.2.1⟩)))
 rw[if_neg h4] at h
 by_cases h5:x.1=5
 ·simp only[if_pos h5,jI,j9,kI] at h
  exact .inr (.inr (.inr (.inr (.inl ⟨h5,by omega,h.1,h.2.2.1,h.2.1⟩))))
 rw[if_neg h5] at h
 by_cases h6:x.1=6
 ·simp only[if_pos h6,jI,j9,kI] at h
  exact .inr (.inr (.inr (.inr (.inr (.inl ⟨h6,by omega,h.2.2.2,h.1,h.2.1⟩)))))
 rw[if_neg h6] at h
 by_cases h7:x.1=7∨x.1=8
 ·simp only[if_pos h7,jI,j9,kI] at h
  exact .inr (.inr (.inr (.inr (.inr (.inr (.inl ⟨h7,by omega,h.2.2.2,h.1,h.2.1⟩))))))
 rw[if_neg h7] at h
 by_cases h9:x.1=9
 ·simp only[if_pos h9,jI,j9,kI] at h
  exact .inr (.inr (.inr (.inr (.inr (.inr (.inr (.inl ⟨h9,by omega,h.2.2.2,h.1,h.2.1⟩)))))))
 rw[if_neg h9] at h
 by_cases h10:x.1=10
 ·simp only[if_pos h10,jI,j9,kI] at h
  exact .inr (.inr (.inr (.inr (.inr (.inr (.inr (.inr ⟨h10,by omega,h.2.2.2.1,h.2.2.2.2,h.2.1,h.1⟩)))))))
 rw[if_neg h10] at h
 cases h
end
end
section
open Go Go.Dc Go.Proofs
section
variable {N:Nat} {l:List Ex} {ps:List ByteArray}
theorem len0{b:Nat}{ks:List Rose}(h:(qCi b ks).length=0):ks=[]:=by
 rw[qGw] at h
 exact fL.1 h
theorem len1{b:Nat}{ks:List Rose}(h:(qCi b ks).length=1):∃t,ks=[t]:=by
 rw[qGw] at h
 exact List.length_eq_one_iff.1 h
theorem len2{b:Nat}{ks:List Rose}(h:(qCi b ks).length=2):∃t u,ks=[t,u]:=by
 rw[qGw] at h
 match ks,h with
 |[t,u],_=>exact⟨t,u,rfl⟩
theorem len3{b:Nat}{ks:List Rose}(h:(qCi b ks).length=3):∃t u v,ks=[t,u,v]:=by
 rw[qGw] at h
 match ks,h with
 |[t,u,v],_=>exact⟨t,u,v,rfl⟩
theorem zDd{N:Nat}{n:Int}(h0: -9007199254740992≤n)(h1:n≤9007199254740992):strconv_Itoa N n=some (itB n):=by
 unfold strconv_Itoa zEe
 rw[if_pos ⟨by omega,by omega⟩]
theorem wm1:qHn (some []:Option (List (Int×ByteArray))) 7 (⟨#[115,105,122,101]⟩:ByteArray)=some (some [(7,⟨#[115,105,122,101]⟩)]):=by kernel_rfl
theorem wm2:qHn (some [(7,⟨#[115,105,122,101]⟩)]:Option (List (Int×ByteArray))) 8 (⟨#[104,97,115]⟩:ByteArray)=some (some [(7,⟨#[115,105,122,101]⟩),(8,⟨#[104,97,115]⟩)]):=by kernel_rfl
theorem wm3:qHn (some [(7,⟨#[115,105,122,101]⟩),(8,⟨#[104,97,115]⟩)]:Option (List (Int×ByteArray))) 9 (⟨#[101,110,118]⟩:ByteArray)=some (some qYq):=by kernel_rfl
theorem zCh{h:Hd}{ks:List Rose}(hN:3000000<N)(hks:∀t∈ks,WrOk N l ps t){D b m d:Nat}{buf:List UInt8}{s:Bool}{need:Int}(hat:AtT l b (.mk h ks))(hv:∀x∈(Rose.mk h ks).flat b,qIs (ps.length:Int) x=true)(hD:2*qAu ks≤D)
  (hb:buf.length+(qGs ps h (wrs ps h 0 ks)).length≤1000000000) (hd:d+(2*qAu ks+1)≤100000000) (hl:¬lvH h<need) (hsz:ks.length<2000000):
  qCq N (D+1) ((s,buf),l,ps,(m:Int)) ((b+qAu ks:Nat):Int) need (d:Int)=some ((true,buf++qGs ps h (wrs ps h 0 ks)),l,ps,((max m (max d (deps h 0 (if h.1=4 then d else d+1) ks)):Nat):Int)):=by
 obtain⟨hn,hats⟩:=hat.args
 have hn:l[b+qAu ks]? =some (h.1,h.2.1,h.2.2.1,h.2.2.2,qCi b ks):=hn
 have hnode:qIs (ps.length:Int) (h.1,h.2.1,h.2.2.1,h.2.2.2,qCi b ks)=true:=hv (qJk h (qCi b ks)) (by unfold Rose.flat;exact k9 _ (jL ..))
 have hvk:∀x∈qFn b ks,qIs (ps.length:Int) x=true:=fun x hx=>hv x (by unfold Rose.flat;exact jS _ hx)
 have ed:IntKind.wrap .i64 ((d:Int)+1)=((d+1:Nat):Int):=by rw[wi64 (by omega) (by omega)];omega
 show qDo N (qCq N D) _ _ _ _=_
 unfold qDo
 dsimp only
 rw[qRw hn]
 simp only[j0]
 rw[show qGz N (h.1,h.2.1,h.2.2.1,h.2.2.2,qCi b ks)=some (lvH h) from qZj _]
 simp only[j0]
 rw[if_neg (by simpa using hl)]
 rcases qRs hnode with ⟨k,a,n0,n1,-,-⟩|⟨k,a,n0,n1,-,-⟩|⟨k,a,-,-⟩|⟨k,a,n0,n1,-,-⟩|⟨k,a,-,-,-⟩|⟨k,a,n0,-,-⟩|⟨k,a,n0,-,-⟩|⟨k,a,n0,-,-⟩|⟨k,a,n0,n1,-,-⟩
 all_goals dsimp only at k a
 ·obtain rfl:=len0 a
  have eb:qGs ps h (wrs ps h 0 [])=(itB h.2.1).data.toList:=by unfold qGs;rw[if_pos k]
  rw[eb] at hb ⊢
  dsimp only at n0 n1
  rw[if_pos (by simpa using k),zDd n0 n1]
  simp only[j0]
  rw[app1 hb]
  simp only[j0,qOv,deps,gR]
 ·obtain rfl:=len0 a
  dsimp only at n0 n1
  have k1:h.1≠1:=by omega
  have eb:qGs ps h (wrs ps h 0 [])=(ps.getD h.2.1.toNat ⟨#[]⟩).data.toList:=by unfold qGs;rw[if_neg k1,if_pos k]
  rw[eb] at hb ⊢
  have hlt:h.2.1.toNat<ps.length:=by omega
  rw[if_neg (by simpa using k1),if_pos (by simpa using k),zEj n0 hlt]
  simp only[j0]
  have e:ps.getD h.2.1.toNat ⟨#[]⟩=ps[h.2.1.toNat]:=by rw[jT,List.getElem?_eq_getElem hlt];rfl
  rw[e] at hb ⊢
  rw[app1 hb]
  simp only[j0,qOv,deps,gR]
 ·have k1:h.1≠1:=by omega
  have k2:h.1≠2:=by omega
  have k4:h.1≠4:=by omega
  have k5:h.1≠5:=by omega
  have eb:qGs ps h (wrs ps h 0 ks)=(h.2.2.2++(⟨#[40]⟩:ByteArray)).data.toList++(qPh 0 (wrs ps h 0 ks)++[41]):=by unfold qGs;rw[if_neg k1,if_neg k2,if_neg k4,if_neg k5,if_pos k]
  rw[eb] at hb ⊢
  rw[if_neg (by simpa using k1),if_neg (by simpa using k2),if_neg (by simpa using k4),if_neg (by simpa using k5),if_pos (by simpa using k)]
  simp only[jA,szl,ByteArray.size_append,jC,jF] at hb
  have hs1:(⟨#[40]⟩:ByteArray).size=1:=rfl
  rw[catW (by omega)]
  simp only[j0]
  rw[app1 (by rw[szl,ByteArray.size_append];omega)]
  simp only[j0,qOv]
  have hcl:=qWf (N:=N) (l:=l) (ps:=ps) (h:=h) (x1:=(h.1,h.2.1,h.2.2.1,h.2.2.2,qCi b ks)) (D:=D) (d:=d) hN (by show(qCi b ks).length<_;rw[qGw];exact hsz) (by omega) ks 0 b N (max m d) (buf++(h.2.2.2++(⟨#[40]⟩:ByteArray)).data.toList) hks rfl (kE _) hats hvk hD k4
   (by simp only[jA,szl,ByteArray.size_append];omega) (by omega) (by omega)
  rw[show((0:Nat):Int)=0 from rfl] at hcl
  rw[hcl]
  simp only[j0]
  rw[app1 (by simp only[jA,szl,ByteArray.size_append,jC,jF];omega)]
  simp only[j0,jJ,if_neg k4,fV]
 ·obtain⟨t,u,rfl⟩:=len2 a
  have k1:h.1≠1:=by omega
  have k2:h.1≠2:=by omega
  simp only[qAu,gS] at hD hd hvk
  obtain⟨at1,atr⟩:=hats.head
  obtain⟨at2,-⟩:=atr.head
  have hl1:1≤lvH h∧lvH h≤3:=by
   unfold lvH
   rw[if_neg (show h.1≠5 by omega),if_pos k]
   split<;>(try split)<;>omega
  have hn0:qLf h 0=if lvH h=1 then 2 else lvH h:=by unfold qLf;rw[if_pos k,if_pos rfl]
  have hn1:qLf h 1=lvH h+1:=by unfold qLf;rw[if_pos k,if_neg (by decide)]
  have eb:qGs ps h (wrs ps h 0 [t,u])=t.wr ps (qLf h 0)++((((⟨#[32]⟩:ByteArray)++zAp h.2.2.1)++(⟨#[32]⟩:ByteArray)).data.toList++u.wr ps (qLf h 1)):=by unfold qGs;rw[if_neg k1,if_neg k2,if_pos k];rfl
  rw[eb] at hb ⊢
  rw[if_neg (by simpa using k1),if_neg (by simpa using k2),if_pos (by simpa using k)]
  have hneed:(if(lvH h==1)=true then(some (IntKind.wrap .i64 (lvH h+1))) else(some (lvH h)):Option (Int))=some (qLf h 0):=by
   rw[hn0]
   by_cases e:lvH h=1
   ·rw[if_pos (by simpa using e),if_pos e,wi64 (by omega) (by omega),e];rfl
   ·rw[if_neg (by simpa using e),if_neg e]
  have w1:IntKind.wrap .i64 (lvH h+1)=qLf h 1:=by rw[hn1,wi64 (by omega) (by omega)]
  have i0:idx (qCi b [t,u]) 0=some ((b+t.size-1:Nat):Int):=rfl
  have i1:idx (qCi b [t,u]) 1=some ((b+t.size+u.size-1:Nat):Int):=rfl
  simp only[j0,hneed,i0,i1,qOv]
  rw[w1]
  simp only[jA,szl,ByteArray.size_append] at hb
  have hs1:(⟨#[32]⟩:ByteArray).size=1:=rfl
  have hp1:=t.pos
  have hp2:=u.pos
  have q0:0≤qLf h 0:=by rw[hn0];split<;>omega
  have q1:0≤qLf h 1:=by rw[hn1];omega
  rw[hks t (jL ..) D b buf s (max m d) d (qLf h 0) at1 (fun x hx=>hvk x (by unfold qFn;exact jS _ hx)) (by omega) (by omega) (by omega) q0]
  simp only[j0,zEl]
  rw[show(qDe (some zCe) h.2.2.1).getD (⟨#[]⟩:ByteArray)=zAp h.2.2.1 from rfl,catW (by omega)]
  simp only[j0]
  rw[catW (by rw[ByteArray.size_append];omega)]
  simp only[j0]
  rw[app1 (by simp only[jA,szl,ByteArray.size_append];omega)]
  simp only[j0]
  rw[hks u (jZ _ (jL ..)) D (b+t.size) _ true _ d (qLf h 1) at2 (fun x hx=>hvk x (by unfold qFn;refine k9 _ ?_;unfold qFn;exact jS _ hx)) (by omega) (by simp only[jA,szl,ByteArray.size_append];omega) (by omega) q1]
  simp only[j0,jJ,if_pos k,deps,gR,fV]
 ·obtain⟨t,u,v,rfl⟩:=len3 a
  have k1:h.1≠1:=by omega
  have k2:h.1≠2:=by omega
  have k4:h.1≠4:=by omega
  simp only[qAu,gS] at hD hd hvk
  obtain⟨at1,atr⟩:=hats.head
  obtain⟨at2,atr⟩:=atr.head
  obtain⟨at3,-⟩:=atr.head
  have hnd:∀j,qLf h j=0:=fun j=>by unfold qLf;rw[if_neg k4]
  have eb:qGs ps h (wrs ps h 0 [t,u,v])=tI++(t.wr ps 0++(tThen++(u.wr ps 0++(tElse++v.wr ps 0)))):=by
   unfold qGs;rw[if_neg k1,if_neg k2,if_neg k4,if_pos k]
   simp only[wrs,hnd];rfl
  rw[eb] at hb ⊢
  rw[if_neg (by simpa using k1),if_neg (by simpa using k2),if_neg (by simpa using k4),if_pos (by simpa using k)]
  have hp1:=t.pos
  have hp2:=u.pos
  have hp3:=v.pos
  have l1:tI.length=3:=rfl
  have l2:tThen.length=6:=rfl
  have l3:tElse.length=6:=rfl
  simp only[jA] at hb
  obtain⟨M,rfl⟩:∃M,N=M+4:=⟨N-4,by omega⟩
  have i0:idx (qCi b [t,u,v]) 0=some ((b+t.size-1:Nat):Int):=rfl
  have i1:idx (qCi b [t,u,v]) 1=some ((b+t.size+u.size-1:Nat):Int):=rfl
  have i2:idx (qCi b [t,u,v]) 2=some ((b+t.size+u.size+v.size-1:Nat):Int):=rfl
  have a0:∀L:List UInt8,L.length+3≤1000000000→qCd 1 L [105,102,32]=some (L++tI):=fun L h=>app1 h
  have a1:∀L:List UInt8,L.length+6≤1000000000→qCd 1 L [32,116,104,101,110,32]=some (L++tThen):=fun L h=>app1 h
  have a2:∀L:List UInt8,L.length+6≤1000000000→qCd 1 L [32,101,108,115,101,32]=some (L++tElse):=fun L h=>app1 h
  have w0:IntKind.wrap .i64 ((0:Int)+1)=1:=by decide
  have w1:IntKind.wrap .i64 ((1:Int)+1)=2:=by decide
  have w2:IntKind.wrap .i64 ((2:Int)+1)=3:=by decide
  have s0:idx ([(⟨#[105,102,32]⟩:ByteArray),(⟨#[32,116,104,101,110,32]⟩:ByteArray),(⟨#[32,101,108,115,101,32]⟩:ByteArray)]) 0=some ⟨#[105,102,32]⟩:=rfl
  have s1:idx ([(⟨#[105,102,32]⟩:ByteArray),(⟨#[32,116,104,101,110,32]⟩:ByteArray),(⟨#[32,101,108,115,101,32]⟩:ByteArray)]) 1=some ⟨#[32,116,104,101,110,32]⟩:=rfl
  have s2:idx ([(⟨#[105,102,32]⟩:ByteArray),(⟨#[32,116,104,101,110,32]⟩:ByteArray),(⟨#[32,101,108,115,101,32]⟩:ByteArray)]) 2=some ⟨#[32,101,108,115,101,32]⟩:=rfl
  have c0:decide ((0:Int)<(List.length ([(⟨#[105,102,32]⟩:ByteArray),(⟨#[32,116,104,101,110,32]⟩:ByteArray),(⟨#[32,101,108,115,101,32]⟩:ByteArray)]):Int))=true:=by decide
  have c1:decide ((1:Int)<(List.length ([(⟨#[105,102,32]⟩:ByteArray),(⟨#[32,116,104,101,110,32]⟩:ByteArray),(⟨#[32,101,108,115,101,32]⟩:ByteArray)]):Int))=true:=by decide
  have c2:decide ((2:Int)<(List.length ([(⟨#[105,102,32]⟩:ByteArray),(⟨#[32,116,104,101,110,32]⟩:ByteArray),(⟨#[32,101,108,115,101,32]⟩:ByteArray)]):Int))=true:=by decide
  have c3:decide ((3:Int)<(List.length ([(⟨#[105,102,32]⟩:ByteArray),(⟨#[32,116,104,101,110,32]⟩:ByteArray),(⟨#[32,101,108,115,101,32]⟩:ByteArray)]):Int))=false:=by decide
  simp only[qBa,qGi,c0,jU,s0,j0,i0,ed,qOv]
  rw[a0 _ (by omega)]
  simp only[j0]
  rw[hks t (by simp) D b (buf++tI) true (max m d) (d+1) 0 at1 (fun x hx=>hvk x (by unfold qFn;exact jS _ hx)) (by omega) (by rw[jA];omega) (by omega) (fW 0)]
  simp only[j0,w0,c1,jU,s1,i1]
  rw[a1 _ (by simp only[jA];omega)]
  simp only[j0]
  rw[hks u (by simp) D (b+t.size) _ true _ (d+1) 0 at2 (fun x hx=>hvk x (by unfold qFn;refine k9 _ ?_;unfold qFn;exact jS _ hx)) (by omega) (by simp only[jA];omega) (by omega) (fW 0)]
  simp only[j0,w1,c2,jU,s2,i2]
  rw[a2 _ (by simp only[jA];omega)]
  simp only[j0]
  rw[hks v (by simp) D (b+t.size+u.size) _ true _ (d+1) 0 at3 (fun x hx=>hvk x (by unfold qFn;refine k9 _ ?_;unfold qFn;refine k9 _ ?_;unfold qFn;exact jS _ hx)) (by omega) (by simp only[jA];omega) (by omega) (fW 0)]
  simp only[j0,w2,c3,jB,jK,jJ,if_neg k4,deps,hnd,gR,fV]
 ·obtain⟨t,rfl⟩:=len1 a
  have k1:h.1≠1:=by omega
  have k2:h.1≠2:=by omega
  have k4:h.1≠4:=by omega
  have k5:h.1≠5:=by omega
  have k3:h.1≠3:=by omega
  simp only[qAu,gS] at hD hd hvk
  obtain⟨at1,-⟩:=hats.head
  have hnd:∀j,qLf h j=0:=fun j=>by unfold qLf;rw[if_neg k4]
  have eb:qGs ps h (wrs ps h 0 [t])=(((⟨#[114,101,97,100,40,34]⟩:ByteArray)++h.2.2.2)++(⟨#[34,44,32]⟩:ByteArray)).data.toList++(t.wr ps 0++[41]):=by
   unfold qGs;rw[if_neg k1,if_neg k2,if_neg k4,if_neg k5,if_neg k3,if_pos k]
   simp only[wrs,hnd];rfl
  rw[eb] at hb ⊢
  rw[if_neg (by simpa using k1),if_neg (by simpa using k2),if_neg (by simpa using k4),if_neg (by simpa using k5),if_neg (by simpa using k3),if_pos (by simpa using k)]
  have hp1:=t.pos
  have i0:idx (qCi b [t]) 0=some ((b+t.size-1:Nat):Int):=rfl
  have z1:(⟨#[114,101,97,100,40,34]⟩:ByteArray).size=6:=rfl
  have z2:(⟨#[34,44,32]⟩:ByteArray).size=3:=rfl
  simp only[jA,szl,ByteArray.size_append,jC,jF] at hb
  rw[catW (by omega)]
  simp only[j0]
  rw[catW (by rw[ByteArray.size_append];omega)]
  simp only[j0]
  rw[app1 (by simp only[szl,ByteArray.size_append];omega)]
  simp only[j0,i0,ed,qOv]
  rw[hks t (by simp) D b _ true (max m d) (d+1) 0 at1 (fun x hx=>hvk x (by unfold qFn;exact jS _ hx)) (by omega) (by simp only[jA,szl,ByteArray.size_append];omega) (by omega) (fW 0)]
  simp only[j0]
  rw[app1 (by simp only[jA,szl,ByteArray.size_append,jC,jF];omega)]
  simp only[j0,jJ,if_neg k4,deps,hnd,gR,fV]
 all_goals obtain rfl:=len0 a
 ·have k1:h.1≠1:=by omega
  have k2:h.1≠2:=by omega
  have k4:h.1≠4:=by omega
  have k5:h.1≠5:=by omega
  have k3:h.1≠3:=by omega
  have k6:h.1≠6:=by omega
  have k10:h.1≠10:=by omega
  have eb:qGs ps h (wrs ps h 0 [])=(((zAg h.1++(⟨#[40,34]⟩:ByteArray))++h.2.2.2)++(⟨#[34,41]⟩:ByteArray)).data.toList:=by
   unfold qGs;rw[if_neg k1,if_neg k2,if_neg k4,if_neg k5,if_neg k3,if_neg k6,if_neg k10]
  rw[eb] at hb ⊢
  rw[if_neg (by simpa using k1),if_neg (by simpa using k2),if_neg (by simpa using k4),if_neg (by simpa using k5),if_neg (by simpa using k3),if_neg (by simpa using k6),if_neg (by simpa using k10)]
  simp only[szl,ByteArray.size_append] at hb
  have z1:(⟨#[40,34]⟩:ByteArray).size=2:=rfl
  have z2:(⟨#[34,41]⟩:ByteArray).size=2:=rfl
  simp only[wm1,wm2,wm3,j0]
  rw[show(qDe (some qYq) h.1).getD (⟨#[]⟩:ByteArray)=zAg h.1 from rfl,catW (by omega)]
  simp only[j0]
  rw[catW (by rw[ByteArray.size_append];omega)]
  simp only[j0]
  rw[catW (by rw[ByteArray.size_append,ByteArray.size_append];omega)]
  simp only[j0]
  rw[app1 (by simp only[szl,ByteArray.size_append];omega)]
  simp only[j0,qOv,deps,gR]
 ·have k1:h.1≠1:=by omega
  have k2:h.1≠2:=by omega
  have k4:h.1≠4:=by omega
  have k5:h.1≠5:=by omega
  have k3:h.1≠3:=by omega
  have k6:h.1≠6:=by omega
  have k10:h.1≠10:=by omega
  have eb:qGs ps h (wrs ps h 0 [])=(((zAg h.1++(⟨#[40,34]⟩:ByteArray))++h.2.2.2)++(⟨#[34,41]⟩:ByteArray)).data.toList:=by
   unfold qGs;rw[if_neg k1,if_neg k2,if_neg k4,if_neg k5,if_neg k3,if_neg k6,if_neg k10]
  rw[eb] at hb ⊢
  rw[if_neg (by simpa using k1),if_neg (by simpa using k2),if_neg (by simpa using k4),if_neg (by simpa using k5),if_neg (by simpa using k3),if_neg (by simpa using k6),if_neg (by simpa using k10)]
  simp only[szl,ByteArray.size_append] at hb
  have z1:(⟨#[40,34]⟩:ByteArray).size=2:=rfl
  have z2:(⟨#[34,41]⟩:ByteArray).size=2:=rfl
  simp only[wm1,wm2,wm3,j0]
  rw[show(qDe (some qYq) h.1).getD (⟨#[]⟩:ByteArray)=zAg h.1 from rfl,catW (by omega)]
  simp only[j0]
  rw[catW (by rw[ByteArray.size_append];omega)]
  simp only[j0]
  rw[catW (by rw[ByteArray.size_append,ByteArray.size_append];omega)]
  simp only[j0]
  rw[app1 (by simp only[szl,ByteArray.size_append];omega)]
  simp only[j0,qOv,deps,gR]
 ·have k1:h.1≠1:=by omega
  have k2:h.1≠2:=by omega
  have k4:h.1≠4:=by omega
  have k5:h.1≠5:=by omega
  have k3:h.1≠3:=by omega
  have k6:h.1≠6:=by omega
  dsimp only at n0 n1
  have eb:qGs ps h (wrs ps h 0 [])=(((⟨#[102,108,105,112,40]⟩:ByteArray)++itB h.2.1)++(⟨#[41]⟩:ByteArray)).data.toList:=by
   unfold qGs;rw[if_neg k1,if_neg k2,if_neg k4,if_neg k5,if_neg k3,if_neg k6,if_pos k]
  rw[eb] at hb ⊢
  rw[if_neg (by simpa using k1),if_neg (by simpa using k2),if_neg (by simpa using k4),if_neg (by simpa using k5),if_neg (by simpa using k3),if_neg (by simpa using k6),if_pos (by simpa using k),zDd (by omega) (by omega)]
  simp only[szl,ByteArray.size_append] at hb
  simp only[j0]
  rw[catW (by omega)]
  simp only[j0]
  rw[catW (by rw[ByteArray.size_append];omega)]
  simp only[j0]
  rw[app1 (by simp only[szl,ByteArray.size_append];omega)]
  simp only[j0,qOv,deps,gR]
theorem zFp{h:Hd}{ks:List Rose}(hN:3000000<N)(hks:∀t∈ks,WrOk N l ps t)(hsz:ks.length<2000000):WrOk N l ps (.mk h ks):=by
 intro D b buf s m d need hat hv hD hb hd hneed
 simp only[Rose.size] at hD hd ⊢
 rw[show b+(qAu ks+1)-1=b+qAu ks by omega]
 simp only[Rose.wr,Rose.dep] at hb ⊢
 by_cases hl:lvH h<need
 ·rw[if_pos hl] at hb ⊢
  simp only[if_pos hl]
  simp only[jC,jA,jF] at hb
  obtain⟨D,rfl⟩:∃D',D=D'+2:=⟨D-2,by omega⟩
  have hlv:¬lvH h<0:=by
   unfold lvH
   split
   ·omega
   ·split
    ·split
     ·omega
     ·split<;>omega
    ·omega
  obtain⟨hn,-⟩:=hat.args
  have hn:l[b+qAu ks]? =some (h.1,h.2.1,h.2.2.1,h.2.2.2,qCi b ks):=hn
  have ed:IntKind.wrap .i64 ((d:Int)+1)=((d+1:Nat):Int):=by rw[wi64 (by omega) (by omega)];omega
  show qDo N (qCq N (D+1)) _ _ _ _=_
  unfold qDo
  dsimp only
  rw[qRw hn]
  simp only[j0]
  rw[show qGz N (h.1,h.2.1,h.2.2.1,h.2.2.2,qCi b ks)=some (lvH h) from qZj _]
  simp only[j0]
  rw[if_pos (by simpa using hl),app1 (by simp only[jC,jF];omega)]
  simp only[j0,ed]
  rw[zCh hN hks hat hv (by omega) (by simp only[jA,jC,jF];omega) (by omega) hlv hsz]
  simp only[j0]
  rw[app1 (by simp only[jA,jC,jF];omega)]
  simp only[j0,jJ,k7,jX]
 ·rw[if_neg hl] at hb ⊢
  simp only[if_neg hl]
  obtain⟨D,rfl⟩:∃D',D=D'+1:=⟨D-1,by omega⟩
  exact zCh hN hks hat hv (by omega) hb (by omega) hl hsz
end
mutual
theorem wr_ok{N:Nat}{l:List Ex}{ps:List ByteArray}(hN:3000000<N)(t:Rose)(hsz:t.size<2000000):WrOk N l ps t:=by
 match t with
 | .mk h ks=>
  have hs:qAu ks<2000000:=by simp only[Rose.size] at hsz;omega
  exact zFp hN (zFg hN ks hs) (by have:=qPs ks;omega)
theorem zFg{N:Nat}{l:List Ex}{ps:List ByteArray}(hN:3000000<N)(ks:List Rose)(hsz:qAu ks<2000000):∀t∈ks,WrOk N l ps t:=by
 match ks with
 |[]=>intro t h;cases h
 |t::ks=>
  have h1:t.size<2000000:=by simp only[qAu] at hsz;omega
  have h2:qAu ks<2000000:=by simp only[qAu] at hsz;omega
  have i1:=wr_ok (l:=l) (ps:=ps) hN t h1
  have i2:=zFg (l:=l) (ps:=ps) hN ks h2
  intro u hu
  rcases jQ.1 hu with rfl|hu
  ·exact i1
  ·exact i2 u hu
end
end
section
open Go Go.Dc
abbrev Ct:=Int×List UInt8
def qIw(c:Ct):List UInt8:=if c.1=3 then 34::(c.2++[34]) else c.2
theorem qFa{k:Int}{l:List UInt8}(h:k≠3):qIw (k,l)=l:=by unfold qIw;rw[if_neg h]
def zBj:List (List UInt8):=[[59],[44],[40],[41],[43],[45],[42],[47],[37],[60],[61],[61,61]]
def okC(c:Ct):Prop:=(c.1=1∧(∃x l,c.2=x::l∧kd x=1)∧(∀x∈c.2,inK [1,2,3] x=true)∧c.2.length≤24)∨(c.1=2∧c.2≠[]∧(∀x∈c.2,inK [2] x=true)∧numL c.2≤9007199254740992)∨
 (c.1=3∧∀x∈c.2,qPt x=true)∨(c.1=4∧c.2∈zBj)
abbrev Core:=Int×ByteArray×Int
def qMx(c:Ct):Core:=(c.1,if c.1=2 then⟨#[]⟩ else⟨⟨c.2⟩⟩,if c.1=2 then numL c.2 else 0)
def zCb(t:Tok):Core:=(t.1,t.2.1,t.2.2.1)
def zBl(c:Ct)(x:UInt8):Bool:=if c.1=1 then !inK [1,2,3] x else if c.1=2 then !inK [2] x else if c.2=[61] then x !=61 else true
abbrev Pc:=Ct×List UInt8
def qFu:List Pc→List UInt8
 |[]=>[]
 |p::l=>qIw p.1++(p.2++qFu l)
def qNv:List Pc→Prop
 |[]=>True
 |p::l=>okC p.1∧(∀x∈p.2,inK [5] x=true)∧(∀x r,p.2++qFu l=x::r→zBl p.1 x=true)∧qNv l
theorem qMf{p:UInt8→Bool}:∀{a r:List UInt8},(∀x∈a,p x=true)→(∀x q,r=x::q→p x=false)→(a++r).takeWhile p=a
 |[],[],_,_=>rfl
 |[],x::q,_,h=>by rw[jX,gI (by rw[h x q rfl];simp)]
 |x::a,r,h1,h2=>by rw[k7,kT (h1 x (jL ..)),qMf (fun y hy=>h1 y (jZ _ hy)) h2]
theorem qUy{p:UInt8→Bool}{pre a r:List UInt8}(h1:∀x∈a,p x=true)(h2:∀x q,r=x::q→p x=false):tw p (pre++(a++r)) pre.length=pre.length+a.length:=by
 unfold tw
 rw[List.drop_left,qMf h1 h2]
theorem qLe{pre:List UInt8}{x:UInt8}{r:List UInt8}:(pre++x::r).getD pre.length 0=x:=by
 rw[jT,List.getElem?_append_right (jM _),Nat.sub_self];rfl
theorem qXl{s:ByteArray}{pre a r:List UInt8}(h:s.data.toList=pre++(a++r)):s.extract pre.length (pre.length+a.length)=⟨⟨a⟩⟩:=
 ByteArray.ext (Array.ext' (by
  simp only[ByteArray.data_extract,gL,kX]
  rw[h,List.drop_left,Nat.add_sub_cancel_left,fT]))
theorem qZl{l:List UInt8}(h:l∈zBj):(∃x,l=[x]∧kd x=8)∨l=[61,61]:=by
 simp only[zBj,jQ,kO,fX] at h
 rcases h with rfl|rfl|rfl|rfl|rfl|rfl|rfl|rfl|rfl|rfl|rfl|rfl<;>first|exact .inr rfl|exact .inl ⟨_,rfl,by kernel_rfl⟩
theorem qWp{k:Int}{x:UInt8}:inK [k] x=true↔kd x=k:=by simp[inK]
theorem qVi{c:Ct}(h:okC c):∃x r,qIw c=x::r∧(kd x=1∨kd x=2∨kd x=7∨kd x=8):=by
 obtain⟨k,l⟩:=c
 rcases h with ⟨rfl,⟨x,r,h1,h2⟩,-,-⟩|⟨rfl,h1,h2,-⟩|⟨rfl,h1⟩|⟨rfl,h1⟩
 ·exact⟨x,r,by rw[qFa (by decide)];exact h1,.inl h2⟩
 ·cases l with
  |nil=>exact absurd rfl h1
  |cons x r=>exact⟨x,r,qFa (by decide),.inr (.inl (qWp.1 (h2 x (jL ..))))⟩
 ·exact⟨34,l++[34],by unfold qIw;rw[if_pos rfl],.inr (.inr (.inl (by kernel_rfl)))⟩
 ·rcases qZl h1 with ⟨x,h2,h3⟩|h2
  ·have h2:l=[x]:=h2
   subst h2
   exact⟨x,[],qFa (by decide),.inr (.inr (.inr h3))⟩
  ·have h2:l=[61,61]:=h2
   subst h2
   exact⟨61,[61],qFa (by decide),.inr (.inr (.inr (by kernel_rfl)))⟩
theorem zEo{s:ByteArray}{pre r:List UInt8}{c:Ct}(hc:okC c)(hs:s.data.toList=pre++(qIw c++r))(he:∀x q,r=x::q→zBl c x=true):
  tokP s pre.length=(((qMx c).1,(qMx c).2.1,(qMx c).2.2,0),((pre.length+(qIw c).length:Nat):Int),0):=by
 obtain⟨k,l⟩:=c
 rcases hc with ⟨rfl,⟨x,q,h1,h2⟩,h3,h4⟩|⟨rfl,h1,h2,h3⟩|⟨rfl,h1⟩|⟨rfl,h1⟩
 ·have eb:qIw (1,l)=l:=qFa (by decide)
  rw[eb] at hs ⊢
  have h1:l=x::q:=h1
  have e0:s.data.toList.getD pre.length 0=x:=by rw[hs,h1];exact qLe
  have e1:tw (inK [1,2,3]) s.data.toList pre.length=pre.length+l.length:=by
   rw[hs]
   exact qUy h3 fun y z hy=>by have:=he y z hy;simpa[zBl] using this
  have h4:l.length≤24:=h4
  unfold tokP
  rw[if_pos (by rw[e0];exact h2),e1,if_neg (by omega),qXl hs]
  rfl
 ·have eb:qIw (2,l)=l:=qFa (by decide)
  rw[eb] at hs ⊢
  have h1:l≠[]:=h1
  have h3:numL l≤9007199254740992:=h3
  obtain⟨x,q,e⟩:∃x q,l=x::q:=by cases l with
   |nil=>exact absurd rfl h1
   |cons x q=>exact⟨x,q,rfl⟩
  have e0:s.data.toList.getD pre.length 0=x:=by rw[hs,e];exact qLe
  have hk:kd x=2:=qWp.1 (h2 x (by show x∈l;rw[e];exact jL ..))
  have hn:∀y z,r=y::z→inK [2] y=false:=fun y z hy=>by have:=he y z hy;simpa[zBl] using this
  have e1:tw (inK [2]) s.data.toList pre.length=pre.length+l.length:=by
   rw[hs];exact qUy h2 hn
  have e2:(s.data.toList.drop pre.length).takeWhile (inK [2])=l:=by
   rw[hs,List.drop_left];exact qMf h2 hn
  unfold tokP
  rw[if_neg (by rw[e0,hk];decide),if_pos (by rw[e0];exact hk),e1,e2,if_neg (by omega)]
  rfl
 ·have eb:qIw (3,l)=34::(l++[34]):=by unfold qIw;rw[if_pos rfl]
  rw[eb] at hs ⊢
  have e0:s.data.toList.getD pre.length 0=34:=by rw[hs];exact qLe
  have hk:kd 34=7:=by kernel_rfl
  have hs2:s.data.toList=(pre++[34])++(l++(34::r)):=by rw[hs];simp
  have hpl:(pre++[34]).length=pre.length+1:=by simp
  have e1:tw qPt s.data.toList (pre.length+1)=pre.length+1+l.length:=by
   rw[hs2,←hpl]
   exact qUy h1 fun y z hy=>by cases hy;rfl
  have e2:s.data.toList.getD (pre.length+1+l.length) 0=34:=by
   rw[hs,show pre++(34::(l++[34])++r)=(pre++34::l)++34::r by simp,show pre.length+1+l.length=(pre++34::l).length by simp;omega]
   exact qLe
  have e3:=qXl hs2
  rw[hpl] at e3
  unfold tokP
  rw[if_neg (by rw[e0,hk];decide),if_neg (by rw[e0,hk];decide),if_pos (by rw[e0];exact hk),e1,if_pos e2,e3]
  unfold qMx
  simp only[jC,jA,jF]
  rw[show pre.length+1+l.length+1=pre.length+(l.length+(0+1)+1) by omega]
  rfl
 ·have eb:qIw (4,l)=l:=qFa (by decide)
  rw[eb] at hs ⊢
  have k8:∀{x:UInt8},kd x=8→kd x≠1∧kd x≠2∧kd x≠7:=fun h=>by rw[h];decide
  have key:∀x q,l=x::q→kd x=8→qRd s.data.toList pre.length=pre.length+l.length→tokP s pre.length=(((qMx (4,l)).1,(qMx (4,l)).2.1,(qMx (4,l)).2.2,0),((pre.length+l.length:Nat):Int),0):=fun x q e hk hE=>by
   have e0:s.data.toList.getD pre.length 0=x:=by rw[hs,e];exact qLe
   obtain⟨n1,n2,n3⟩:=k8 hk
   unfold tokP
   rw[if_neg (by rw[e0];exact n1),if_neg (by rw[e0];exact n2),if_neg (by rw[e0];exact n3),if_pos (by rw[e0];exact hk),hE,qXl hs]
   rfl
  rcases qZl h1 with ⟨x,h2,h3⟩|h2
  ·have h2:l=[x]:=h2
   refine key x [] h2 h3 ?_
   have e0:s.data.toList.getD pre.length 0=x:=by rw[hs,h2];exact qLe
   unfold qRd
   rw[if_neg,h2]
   ·rfl
   ·rw[e0]
    rintro⟨rfl,g⟩
    cases r with
    |nil=>
     rw[hs,h2,jT,List.getElem?_eq_none (by simp)] at g
     cases g
    |cons y z=>
     have e4:s.data.toList.getD (pre.length+1) 0=y:=by
      rw[hs,h2,show pre++([61]++y::z)=(pre++[61])++y::z by simp,show pre.length+1=(pre++[(61:UInt8)]).length by simp]
      exact qLe
     have:=he y z rfl
     simp only[zBl,h2] at this
     rw[e4] at g
     simp[g] at this
  ·have h2:l=[61,61]:=h2
   refine key 61 [61] h2 (by kernel_rfl) ?_
   have e0:s.data.toList.getD pre.length 0=61:=by rw[hs,h2];exact qLe
   have e4:s.data.toList.getD (pre.length+1) 0=61:=by
    rw[hs,h2,show pre++([61,61]++r)=(pre++[61])++61::r by simp,show pre.length+1=(pre++[(61:UInt8)]).length by simp]
    exact qLe
   unfold qRd
   rw[if_pos ⟨e0,e4⟩,h2]
   rfl
theorem qSv{s:ByteArray}:∀(ps:List Pc) (pre bl:List UInt8) (k:Nat),s.data.toList=pre++(bl++qFu ps)→(∀x∈bl,inK [5] x=true)→qNv ps→ps.length<k→
  ∃ts,tokG k s pre.length= .inr ts∧ts.map zCb=ps.map (fun p=>qMx p.1)++[(5,⟨#[]⟩,0)]
 |_,_,_,0,_,_,_,h=>absurd h (kH _)
 |[],pre,bl,k+1,hs,hb,_,_=>by
  have hs':s.data.toList=pre++(bl++[]):=hs
  have e:tw (inK [5]) s.data.toList pre.length=s.data.toList.length:=by
   rw[hs',qUy hb fun x q h=>by cases h]
   simp
  refine⟨[(5,⟨#[]⟩,0,(s.data.toList.length:Int))],?_,rfl⟩
  unfold tokG
  rw[e,if_pos rfl]
 |p::ps,pre,bl,k+1,hs,hb,hg,hk=>by
  obtain⟨g1,g2,g3,g4⟩:=hg
  obtain⟨x,r,f1,f2⟩:=qVi g1
  have n5:inK [5] x=false:=by
   cases h:inK [5] x with
   |false=>rfl
   |true=>have:=qWp.1 h;rcases f2 with f|f|f|f<;>rw[f] at this<;>cases this
  have n6:kd x≠6:=by rcases f2 with f|f|f|f<;>rw[f]<;>decide
  have hs1:s.data.toList=pre++(bl++(qIw p.1++(p.2++qFu ps))):=hs
  have hs2:s.data.toList=(pre++bl)++(qIw p.1++(p.2++qFu ps)):=by rw[hs1];simp
  have hs3:s.data.toList=(pre++bl++qIw p.1)++(p.2++qFu ps):=by rw[hs1];simp
  have hpl:(pre++bl).length=pre.length+bl.length:=by simp
  have e1:tw (inK [5]) s.data.toList pre.length=pre.length+bl.length:=by
   rw[hs1]
   refine qUy hb fun y q h=> ?_
   rw[f1] at h
   cases h
   exact n5
  have e0:s.data.toList.getD (pre.length+bl.length) 0=x:=by
   rw[hs2,f1,←hpl];exact qLe
  have hlen:s.data.toList.length≠pre.length+bl.length:=by
   rw[hs2,f1];simp only[jA,jC];omega
  have ht:=zEo g1 hs2 g3
  rw[hpl] at ht
  obtain⟨ts,t1,t2⟩:=qSv ps (pre++bl++qIw p.1) p.2 k hs3 g2 g4 (by simp only[jC] at hk;omega)
  have hl2:(pre++bl++qIw p.1).length=pre.length+bl.length+(qIw p.1).length:=by simp;omega
  refine⟨((qMx p.1).1,(qMx p.1).2.1,(qMx p.1).2.2,((pre.length+bl.length:Nat):Int))::ts,?_,?_⟩
  ·unfold tokG
   rw[e1,if_neg (Ne.symm hlen),if_neg (by rw[e0];exact n6),ht]
   simp only[ne_eq,not_true_eq_false,jK,jO]
   rw[←hl2,t1]
  ·rw[jN,t2];rfl
theorem qUd{ps:List Pc}(hl:(qFu ps).length≤16384)(hg:qNv ps):∃ts,qGc ⟨⟨qFu ps⟩⟩=(ts,0,0)∧ts.map zCb=ps.map (fun p=>qMx p.1)++[(5,⟨#[]⟩,0)]:=by
 have hn:ps.length≤(qFu ps).length:=by
  clear hl
  induction ps with
  |nil=>exact kE _
  |cons p ps ih=>
   obtain⟨g1,-,-,g4⟩:=hg
   obtain⟨x,r,f1,-⟩:=qVi g1
   have:=ih g4
   unfold qFu
   simp only[jA,jC,f1];omega
 obtain⟨ts,t1,t2⟩:=qSv (s:=⟨⟨qFu ps⟩⟩) ps [] [] ((qFu ps).length+1) rfl (fun x h=>by cases h) hg (by omega)
 refine⟨ts,?_,t2⟩
 have t1:tokG ((qFu ps).length+1) ⟨⟨qFu ps⟩⟩ 0= .inr ts:=t1
 unfold qGc
 rw[if_neg (by show ¬(qFu ps).length>16384;omega)]
 show zBf [] (tokG ((qFu ps).length+1) _ 0)=_
 rw[t1]
 rfl
end
section
open Go Go.Dc Go.Proofs
theorem qTo:∀i:Fin 10,inK [2] (UInt8.ofNat (48+i.val))=true∧(UInt8.ofNat (48+i.val)).toNat=48+i.val:=by decide+kernel
theorem qQd{n:Nat}(h:¬n<10):Lib.decDigits n=Lib.decDigits (n/10)++[UInt8.ofNat (48+n%10)]:=by rw[Lib.decDigits,dif_neg h]
theorem zBa(n:Nat):∀x∈Lib.decDigits n,inK [2] x=true:=by
 induction n using Nat.strongRecOn with
 |_ n ih=>
  intro x hx
  by_cases h:n<10
  ·rw[Lib.decDigits_one h,jW] at hx
   rw[hx];exact(qTo ⟨n,h⟩).1
  ·rw[qQd h] at hx
   rcases kP.1 hx with hx|hx
   ·exact ih (n/10) (by omega) x hx
   ·rw[jW] at hx
    rw[hx];exact(qTo ⟨n%10,by omega⟩).1
theorem zFd(n:Nat):Lib.decDigits n≠[]:=by
 intro h
 have:=Lib.decDigits_length n
 rw[h] at this
 have:=Lib.nDigits_pos n
 simp only[jF] at*;omega
theorem qYa(n:Nat)(hn:n≤9007199254740992):numL (Lib.decDigits n)=(n:Int):=by
 induction n using Nat.strongRecOn with
 |_ n ih=>
  by_cases h:n<10
  ·rw[Lib.decDigits_one h]
   have:=(qTo ⟨n,h⟩).2
   show numS 0 (UInt8.ofNat (48+n))=_
   unfold numS
   simp only at this
   rw[this,if_neg (by omega)];omega
  ·rw[qQd h,qQu,ih (n/10) (by omega) (by omega)]
   have:=(qTo ⟨n%10,by omega⟩).2
   simp only at this
   unfold numS
   rw[this,if_neg (by omega)];omega
theorem qPk:∀(k n:Nat),n<10^(k+1)→(Lib.decDigits n).length≤k+1
 |0,n,h=>by rw[Lib.decDigits_one (by simpa using h)];exact jM _
 |k+1,n,h=>by
  by_cases h10:n<10
  ·rw[Lib.decDigits_one h10];simp
  ·rw[Nat.pow_succ] at h
   have:=qPk k (n/10) (by omega)
   rw[qQd h10,jA,g9];omega
theorem qIh(n:Nat):(itB (n:Int)).data.toList=Lib.decDigits n:=by
 unfold itB Lib.itoa
 rw[if_neg (by omega),jO]
theorem qSk{x y:ByteArray}(h:x.data.toList=y.data.toList):x=y:=ByteArray.ext (Array.ext' h)
theorem qHm(x y:ByteArray):(x++y).data.toList=x.data.toList++y.data.toList:=by
 rw[ByteArray.data_append,Array.toList_append]
theorem zGj:∀i:Fin 10,((⟨#[48,49,50,51,52,53,54,55,56,57]⟩:ByteArray).extract i.val (i.val+1)).data.toList=[UInt8.ofNat (48+i.val)]:=by decide+kernel
theorem qUh{N:Nat}:∀(D k n:Nat),n<10^(k+1)→n<1000000000000000→k<D→qFd N D (n:Int)=some (itB (n:Int))
 |0,_,_,_,_,h=>absurd h (kH _)
 |D+1,k,n,h,hn,hD=>by
  show qFe N (qFd N D) (n:Int)=_
  unfold qFe
  by_cases h10:n<10
  ·have hsz:ByteArray.size (⟨#[48,49,50,51,52,53,54,55,56,57]⟩:ByteArray)=10:=rfl
   rw[if_pos (by simp only[j9];omega),wi64 (by omega) (by omega),qVj (by omega) (by omega) (by omega)]
   simp only[j0,jO]
   rw[show((n:Int)+1).toNat=n+1 by omega]
   congr 1
   refine qSk ?_
   rw[qIh,Lib.decDigits_one h10]
   exact zGj ⟨n,h10⟩
  ·rw[if_neg (by simp only[j9];omega)]
   obtain⟨k,rfl⟩:∃k',k=k'+1:=by
    cases k with
    |zero=>simp at h;omega
    |succ k=>exact⟨k,rfl⟩
   rw[Nat.pow_succ] at h
   have e1:IntKind.wrap .i64 (Int.tdiv (n:Int) 10)=((n/10:Nat):Int):=by
    rw[show(10:Int)=((10:Nat):Int) from rfl,←Int.ofNat_tdiv,wi64 (by omega) (by omega)]
   have e2:Int.tmod (n:Int) 10=((n%10:Nat):Int):=by
    rw[show(10:Int)=((10:Nat):Int) from rfl,←Int.ofNat_tmod]
   rw[e1,e2,qUh D k (n/10) (by omega) (by omega) (by omega),qUh D 0 (n%10) (by omega) (by omega) (by omega)]
   simp only[j0]
   have l1:=qPk 15 (n/10) (by omega)
   have l2:=qPk 15 (n%10) (by omega)
   have s1:(itB ((n/10:Nat):Int)).size=(Lib.decDigits (n/10)).length:=by rw[←qIh,szl]
   have s2:(itB ((n%10:Nat):Int)).size=(Lib.decDigits (n%10)).length:=by rw[←qIh,szl]
   rw[catW (by omega)]
   simp only[j0]
   congr 1
   refine qSk ?_
   rw[qHm,qIh,qIh,qIh,qQd h10,Lib.decDigits_one (show n%10<10 by omega)]
theorem qNu{N n:Nat}(hn:n<1000000000000000)(hN:100<N):qFz N (n:Int)=some (itB (n:Int)):=
 qUh N 14 n (by omega) hn (by omega)
end
section
open Go Go.Dc Go.Proofs
theorem qVd{s:ByteArray}(h:qQy s=true):s.size≤24:=by
 have:=(fC h).2.1
 rw[szl] at this;exact this
theorem qRl{s:ByteArray}(h:qPd s.data.toList=true):s.size≤80:=by
 have:s.data.toList.length≤80:=(fC h).1
 rw[szl] at this;exact this
theorem qIr{s:ByteArray}(h:qGl s=true):s.size≤24:=by
 unfold qGl at h
 rw[jI] at h
 exact qVd h.1
theorem zBo{op:Int}(h0:1≤op)(h1:op≤7):(zAp op).size≤2:=by
 rcases(by omega:op=1∨op=2∨op=3∨op=4∨op=5∨op=6∨op=7) with rfl|rfl|rfl|rfl|rfl|rfl|rfl<;>decide+kernel
theorem qVm{k:Int}(h:k=7∨k=8∨k=9):(zAg k).size≤4:=by
 rcases h with rfl|rfl|rfl<;>decide+kernel
theorem zCs{n:Int}(h0: -9007199254740992≤n)(h1:n≤9007199254740992):(itB n).size≤17:=by
 rw[←szl]
 show(Lib.itoa n).length≤17
 unfold Lib.itoa
 split
 ·have:=qPk 15 n.natAbs (by omega)
  simp only[jC];omega
 ·have:=qPk 15 n.toNat (by omega)
  omega
def lens(ws:List (List UInt8)):Nat:=(ws.map fun w=>w.length+2).sum
theorem qRa:∀(ws:List (List UInt8)) (k:Nat),(qPh k ws).length≤lens ws
 |[],_=>kE _
 |w::ws,k=>by
  have ih:=qRa ws (k+1)
  have hs:(sepK k).length≤2:=by unfold sepK;split<;>simp
  unfold lens at*
  simp only[qPh,jA,jN,fK];omega
theorem zEf{ps:List ByteArray}{h:Hd}{ks:List Rose}{b:Nat}(hps:∀s∈ps,s.size≤24)(hn:qIs (ps.length:Int) (qJk h (qCi b ks))=true):(qGs ps h (wrs ps h 0 ks)).length≤100+lens (wrs ps h 0 ks):=by
 rcases qRs hn with ⟨k,a,n0,n1,-,-⟩|⟨k,a,n0,n1,-,-⟩|⟨k,a,-,-⟩|⟨k,a,n0,n1,-,-⟩|⟨k,a,-,-,-⟩|⟨k,a,n0,-,-⟩|⟨k,a,n0,-,-⟩|⟨k,a,n0,-,-⟩|⟨k,a,n0,n1,-,-⟩
 all_goals (try simp only[qJk] at k)<;>(try simp only[qJk] at a)
 ·have:(itB h.2.1).size≤17:=zCs n0 n1
  unfold qGs
  rw[if_pos k,szl];omega
 ·have k1:h.1≠1:=by omega
  try simp only[qJk] at n0 n1
  have hlt:h.2.1.toNat<ps.length:=by omega
  have e:ps.getD h.2.1.toNat ⟨#[]⟩=ps[h.2.1.toNat]:=by rw[jT,List.getElem?_eq_getElem hlt];rfl
  have:=hps _ (jV hlt)
  unfold qGs
  rw[if_neg k1,if_pos k,e,szl];omega
 ·have k1:h.1≠1:=by omega
  have k2:h.1≠2:=by omega
  have k4:h.1≠4:=by omega
  have k5:h.1≠5:=by omega
  have h1:=qIr a
  have h2:=qRa (wrs ps h 0 ks) 0
  have z1:(⟨#[40]⟩:ByteArray).size=1:=rfl
  unfold qGs
  rw[if_neg k1,if_neg k2,if_neg k4,if_neg k5,if_pos k]
  try simp only[qJk] at h1
  simp only[jA,szl,ByteArray.size_append,jC,jF];omega
 ·obtain⟨t,u,rfl⟩:=len2 a
  have k1:h.1≠1:=by omega
  have k2:h.1≠2:=by omega
  have h1:=zBo n0 n1
  have z1:(⟨#[32]⟩:ByteArray).size=1:=rfl
  try simp only[qJk] at h1
  unfold qGs
  rw[if_neg k1,if_neg k2,if_pos k]
  simp only[wrs,lens,jN,fJ,fK,List.sum_nil,List.getD_cons_zero,List.getD_cons_succ,jA,szl,ByteArray.size_append];omega
 ·obtain⟨t,u,v,rfl⟩:=len3 a
  have k1:h.1≠1:=by omega
  have k2:h.1≠2:=by omega
  have k4:h.1≠4:=by omega
  have l1:tI.length=3:=rfl
  have l2:tThen.length=6:=rfl
  have l3:tElse.length=6:=rfl
  unfold qGs
  rw[if_neg k1,if_neg k2,if_neg k4,if_pos k]
  simp only[wrs,lens,jN,fJ,fK,List.sum_nil,List.getD_cons_zero,List.getD_cons_succ,jA];omega
 ·obtain⟨t,rfl⟩:=len1 a
  have k1:h.1≠1:=by omega
  have k2:h.1≠2:=by omega
  have k4:h.1≠4:=by omega
  have k5:h.1≠5:=by omega
  have k3:h.1≠3:=by omega
  have h1:=qRl n0
  have z1:(⟨#[114,101,97,100,40,34]⟩:ByteArray).size=6:=rfl
  have z2:(⟨#[34,44,32]⟩:ByteArray).size=3:=rfl
  try simp only[qJk] at h1
  unfold qGs
  rw[if_neg k1,if_neg k2,if_neg k4,if_neg k5,if_neg k3,if_pos k]
  simp only[wrs,lens,jN,fJ,fK,List.sum_nil,List.getD_cons_zero,jA,szl,ByteArray.size_append,jC,jF];omega
 all_goals obtain rfl:=len0 a
 all_goals have k1:h.1≠1:=by omega
 all_goals have k2:h.1≠2:=by omega
 all_goals have k4:h.1≠4:=by omega
 all_goals have k5:h.1≠5:=by omega
 all_goals have k3:h.1≠3:=by omega
 all_goals have k6:h.1≠6:=by omega
 ·have k10:h.1≠10:=by omega
  have h1:=qRl n0
  have h2:=qVm (k:=h.1) (by omega)
  have z1:(⟨#[40,34]⟩:ByteArray).size=2:=rfl
  have z2:(⟨#[34,41]⟩:ByteArray).size=2:=rfl
  try simp only[qJk] at h1
  unfold qGs
  rw[if_neg k1,if_neg k2,if_neg k4,if_neg k5,if_neg k3,if_neg k6,if_neg k10]
  simp only[szl,ByteArray.size_append];omega
 ·have k10:h.1≠10:=by omega
  have h1:=qVd n0
  have h2:=qVm (k:=h.1) (by omega)
  have z1:(⟨#[40,34]⟩:ByteArray).size=2:=rfl
  have z2:(⟨#[34,41]⟩:ByteArray).size=2:=rfl
  try simp only[qJk] at h1
  unfold qGs
  rw[if_neg k1,if_neg k2,if_neg k4,if_neg k5,if_neg k3,if_neg k6,if_neg k10]
  simp only[szl,ByteArray.size_append];omega
 ·try simp only[qJk] at n0 n1
  have h1:=zCs (n:=h.2.1) (by omega) (by omega)
  have z1:(⟨#[102,108,105,112,40]⟩:ByteArray).size=5:=rfl
  have z2:(⟨#[41]⟩:ByteArray).size=1:=rfl
  unfold qGs
  rw[if_neg k1,if_neg k2,if_neg k4,if_neg k5,if_neg k3,if_neg k6,if_pos k]
  simp only[szl,ByteArray.size_append];omega
mutual
theorem zEv{ps:List ByteArray}(hps:∀s∈ps,s.size≤24)(t:Rose)(b:Nat)(need:Int)(hv:∀x∈t.flat b,qIs (ps.length:Int) x=true):(t.wr ps need).length+2≤110*t.size:=by
 match t with
 | .mk h ks=>
  have h1:=zCu hps ks h 0 b (fun x hx=>hv x (by unfold Rose.flat;exact jS _ hx))
  have h2:=zEf (b:=b) hps (hv (qJk h (qCi b ks)) (by unfold Rose.flat;exact k9 _ (jL ..)))
  simp only[Rose.wr,Rose.size]
  split
  ·simp only[jC,jA,jF];omega
  ·omega
theorem zCu{ps:List ByteArray}(hps:∀s∈ps,s.size≤24)(l:List Rose)(h:Hd)(k b:Nat)(hv:∀x∈qFn b l,qIs (ps.length:Int) x=true):lens (wrs ps h k l)≤110*qAu l:=by
 match l with
 |[]=>exact kE _
 |t::l=>
  have h1:=zEv hps t b (qLf h k) (fun x hx=>hv x (by unfold qFn;exact jS _ hx))
  have h2:=zCu hps l h (k+1) (b+t.size) (fun x hx=>hv x (by unfold qFn;exact k9 _ hx))
  simp only[wrs,lens,jN,fK,qAu] at*
  omega
end
def wrD(d:Dl):List UInt8:=match zCj d.2.2.2 with
 |some t=>t.wr d.2.2.1 0
 |none=>[]
def depD(d:Dl):Nat:=match zCj d.2.2.2 with
 |some t=>t.dep 0 1
 |none=>0
structure GoodD(d:Dl):Prop where
 head:qWm d=true
 pars:∀s∈d.2.2.1,d.1=1∧qGl s=true
 nodes:∀x∈d.2.2.2,qIs (d.2.2.1.length:Int) x=true
 tree:oneP (ordS d.2.2.2 0 [])=true
theorem zDf{d:Dl}(h:qHu d=true):GoodD d:=by
 unfold qHu qXt qZu at h
 simp only[jI,jP,kI] at h
 exact⟨h.1,h.2.1,h.2.2.1,h.2.2.2⟩
theorem zEb{ps:List ByteArray}{h:Hd}{ks:List Rose}{b:Nat}(hps:∀s∈ps,s.data.toList≠[])(hn:qIs (ps.length:Int) (qJk h (qCi b ks))=true):qGs ps h (wrs ps h 0 ks)≠[]:=by
 have ne:∀{x y:List UInt8},y≠[]→x++y≠[]:=fun h e=>h (kU.1 e).2
 have nel:∀{x y:List UInt8},x≠[]→x++y≠[]:=fun h e=>h (kU.1 e).1
 rcases qRs hn with ⟨k,a,n0,n1,-,-⟩|⟨k,a,n0,n1,-,-⟩|⟨k,a,-,-⟩|⟨k,a,n0,n1,-,-⟩|⟨k,a,-,-,-⟩|⟨k,a,n0,-,-⟩|⟨k,a,n0,-,-⟩|⟨k,a,n0,-,-⟩|⟨k,a,n0,n1,-,-⟩
 all_goals try simp only[qJk] at k
 ·unfold qGs
  rw[if_pos k]
  show Lib.itoa h.2.1≠[]
  unfold Lib.itoa
  split
  ·simp
  ·exact zFd _
 ·have k1:h.1≠1:=by omega
  try simp only[qJk] at n0 n1
  have hlt:h.2.1.toNat<ps.length:=by omega
  have e:ps.getD h.2.1.toNat ⟨#[]⟩=ps[h.2.1.toNat]:=by rw[jT,List.getElem?_eq_getElem hlt];rfl
  unfold qGs
  rw[if_neg k1,if_pos k,e]
  exact hps _ (jV hlt)
 all_goals have k1:h.1≠1:=by omega
 all_goals have k2:h.1≠2:=by omega
 ·have k4:h.1≠4:=by omega
  have k5:h.1≠5:=by omega
  unfold qGs
  rw[if_neg k1,if_neg k2,if_neg k4,if_neg k5,if_pos k]
  exact ne (ne (by simp))
 ·unfold qGs
  rw[if_neg k1,if_neg k2,if_pos k]
  refine ne (nel ?_)
  rw[qHm,qHm]
  exact ne (by simp)
 all_goals have k4:h.1≠4:=by omega
 ·unfold qGs
  rw[if_neg k1,if_neg k2,if_neg k4,if_pos k]
  exact nel (by simp[tI])
 all_goals have k5:h.1≠5:=by omega
 all_goals have k3:h.1≠3:=by omega
 ·unfold qGs
  rw[if_neg k1,if_neg k2,if_neg k4,if_neg k5,if_neg k3,if_pos k]
  exact ne (ne (by simp))
 all_goals have k6:h.1≠6:=by omega
 ·have k10:h.1≠10:=by omega
  unfold qGs
  rw[if_neg k1,if_neg k2,if_neg k4,if_neg k5,if_neg k3,if_neg k6,if_neg k10,qHm]
  exact ne (by simp)
 ·have k10:h.1≠10:=by omega
  unfold qGs
  rw[if_neg k1,if_neg k2,if_neg k4,if_neg k5,if_neg k3,if_neg k6,if_neg k10,qHm]
  exact ne (by simp)
 ·unfold qGs
  rw[if_neg k1,if_neg k2,if_neg k4,if_neg k5,if_neg k3,if_neg k6,if_pos k,qHm]
  exact ne (by simp)
theorem wr_ne{ps:List ByteArray}(hps:∀s∈ps,s.data.toList≠[])(t:Rose)(b:Nat)(need:Int)(hv:∀x∈t.flat b,qIs (ps.length:Int) x=true):t.wr ps need≠[]:=by
 cases t with
 |mk h ks=>
  simp only[Rose.wr]
  split
  ·simp
  ·exact zEb (b:=b) hps (hv (qJk h (qCi b ks)) (by unfold Rose.flat;exact k9 _ (jL ..)))
theorem zEc{s:ByteArray}(h:qGl s=true):s.data.toList≠[]:=by
 unfold qGl at h
 rw[jI] at h
 have:=(fC h.1).1
 intro e
 rw[e] at this
 simp at this
theorem qYd{N:Nat}{d:Dl}(hd:GoodD d)(hb:d.2.2.2.length≤256)(hN:3000000<N):qJo N d.2.2.2 d.2.2.1=some (qIx (wrD d),(depD d:Int))∧(wrD d).length≤30000:=by
 obtain⟨t,h1,h2⟩:=qZg hd.tree
 have hsz:t.size=d.2.2.2.length:=by
  have:=qLy t 0
  rw[←h2] at this;exact this.symm
 have hp:=t.pos
 have hv:∀x∈t.flat 0,qIs (d.2.2.1.length:Int) x=true:=fun x hx=>hd.nodes x (by rw[h2];exact hx)
 have hwl:=zEv (ps:=d.2.2.1) (fun s hs=>qIr (hd.pars s hs).2) t 0 0 hv
 have hat:AtT d.2.2.2 0 t:=by
  have:=AtT.whole t
  rw[←h2] at this;exact this
 have hw:wrD d=t.wr d.2.2.1 0:=by unfold wrD;rw[h1]
 have hdp:depD d=t.dep 0 1:=by unfold depD;rw[h1]
 refine⟨?_,by rw[hw];omega⟩
 unfold qJo
 rw[wi64 (by omega) (by omega)]
 have hr:=wr_ok (l:=d.2.2.2) (ps:=d.2.2.1) hN t (by omega) N 0 [] false 0 1 0 hat hv (by omega) (by simp only[jF];omega) (by omega) (fW 0)
 rw[show(((0+t.size-1:Nat)):Int)=(d.2.2.2.length:Int)-1 by omega,show((0:Nat):Int)=0 from rfl,show((1:Nat):Int)=1 from rfl] at hr
 rw[show qIu N ((false,([]:List (UInt8))),d.2.2.2,d.2.2.1,0) ((d.2.2.2.length:Int)-1) 0 1=_ from hr]
 simp only[j0,jX]
 have hne:=wr_ne (ps:=d.2.2.1) (fun s hs=>zEc (hd.pars s hs).2) t 0 0 hv
 have hnn:nonE (t.wr d.2.2.1 0)=some ():=by
  cases hh:t.wr d.2.2.1 0 with
  |nil=>exact absurd hh hne
  |cons a l=>rfl
 rw[hnn,hw,hdp]
 simp only[j0,Nat.zero_max]
end
section
open Go Go.Dc Go.Proofs
def qVu(l:List ByteArray):ByteArray:=⟨⟨qPh 0 (l.map fun s=>s.data.toList)⟩⟩
def qXd(d:Dl):ByteArray:=
 if d.1=1 then((((⟨#[102,117,110,99,32]⟩:ByteArray)++d.2.1)++(⟨#[40]⟩:ByteArray))++qVu d.2.2.1)++(⟨#[41]⟩:ByteArray)
 else if d.1=2 then(⟨#[116,101,115,116,32]⟩:ByteArray)++d.2.1
 else((⟨#[103,101,110,32,34]⟩:ByteArray)++d.2.1)++(⟨#[34]⟩:ByteArray)
def qNr(d:Dl):List UInt8:=(qXd d).data.toList++(((⟨#[32,61,32]⟩:ByteArray)++qIx (wrD d))++(⟨#[59,10]⟩:ByteArray)).data.toList
def pkgT(s:ByteArray):List UInt8:=(((⟨#[112,97,99,107,97,103,101,32]⟩:ByteArray)++s)++(⟨#[59,10]⟩:ByteArray)).data.toList
def impT(s:ByteArray):List UInt8:=(((⟨#[105,109,112,111,114,116,32]⟩:ByteArray)++s)++(⟨#[59,10]⟩:ByteArray)).data.toList
def fmtT(f:Sr):List UInt8:=(pkgT f.1++f.2.1.flatMap impT)++f.2.2.flatMap qNr
def qOc(f:Sr):ByteArray×Int:=
 if f.2.2.any (fun d=>decide (32<depD d))=true then(⟨#[]⟩,2) else if 16384<(fmtT f).length then(⟨#[]⟩,2) else(qIx (fmtT f),0)
theorem qTi{α:Type}(g:α→List UInt8):∀(l:List α) (t:List UInt8),l.foldl (fun t x=>t++g x) t=t++l.flatMap g
 |[],t=>by simp
 |x::l,t=>by rw[List.foldl_cons,qTi g l,gP,jJ]
structure GoodS(f:Sr):Prop where
 pkg:qGl f.1=true
 imps:∀s∈f.2.1,qGl s=true
 impn:f.2.1.length≤8
 decn:f.2.2.length≤64
 decs:∀d∈f.2.2,GoodD d∧d.2.2.1.length≤8∧d.2.2.2.length≤256∧qXn d.2.2.2=false
 once:qTc f=false
theorem zDo{f:Sr}(h:qJx f=0):GoodS f:=by
 unfold qJx at h
 split at h
 ·rename_i hs
  split at h
  ·cases h
  ·rename_i ht
   split at h
   ·cases h
   ·rename_i hm
    have hm:qUq f=false:=by simpa using hm
    unfold synP at hs
    unfold qUq at hm
    simp only[jI,jP] at hs
    simp only[Bool.or_eq_false_iff,decide_eq_false_iff_not,List.any_eq_false] at hm
    refine⟨hs.1,hs.2.1,by omega,by omega,fun d hd=> ?_,by simpa using ht⟩
    have h1:=hm.2.2 d hd
    unfold qXk at h1
    simp only[Bool.not_eq_true,Bool.or_eq_false_iff,decide_eq_false_iff_not] at h1
    exact⟨zDf (hs.2.2 d hd),by omega,by omega,h1.2.2⟩
 ·cases h
theorem qZo{l:List ByteArray}(h:∀s∈l,s.size≤24):(qVu l).size≤26*l.length:=by
 have h1:=qRa (l.map fun s=>s.data.toList) 0
 have h2:lens (l.map fun s=>s.data.toList)≤26*l.length:=by
  clear h1
  induction l with
  |nil=>exact kE _
  |cons s l ih=>
   have i1:=h s (jL ..)
   have i2:=ih fun x hx=>h x (jZ _ hx)
   unfold lens at*
   simp only[jN,fK,jC,szl] at*
   omega
 have h3:(qVu l).size=(qPh 0 (l.map fun s=>s.data.toList)).length:=by rw[←szl];rfl
 omega
theorem qZe{d:Dl}(h:GoodD d):d.2.1.size≤80:=by
 have:=h.head
 unfold qWm at this
 split at this
 ·have:=qIr this;omega
 ·split at this
  ·exact qRl this
  ·cases this
theorem qYi{d:Dl}(h:GoodD d)(hp:d.2.2.1.length≤8):(qXd d).size≤400:=by
 have h1:=qZe h
 have h2:=qZo (l:=d.2.2.1) fun s hs=>qIr (h.pars s hs).2
 have z1:(⟨#[102,117,110,99,32]⟩:ByteArray).size=5:=rfl
 have z2:(⟨#[40]⟩:ByteArray).size=1:=rfl
 have z3:(⟨#[41]⟩:ByteArray).size=1:=rfl
 have z4:(⟨#[116,101,115,116,32]⟩:ByteArray).size=5:=rfl
 have z5:(⟨#[103,101,110,32,34]⟩:ByteArray).size=5:=rfl
 have z6:(⟨#[34]⟩:ByteArray).size=1:=rfl
 unfold qXd
 split
 ·simp only[ByteArray.size_append];omega
 ·split
  ·simp only[ByteArray.size_append];omega
  ·simp only[ByteArray.size_append];omega
theorem qZv(l:List UInt8):(qIx l).data.toList=l:=rfl
theorem qNl(l:List UInt8):(qIx l).size=l.length:=by rw[←szl,qZv]
theorem zDz{N:Nat}{d:Dl}(h:GoodD d)(hp:d.2.2.1.length≤8)(hb:d.2.2.2.length≤256)(hN:3000000<N):(qNr d).length≤31000:=by
 have h1:=qYi h hp
 have h2:=(qYd h hb hN).2
 have z1:(⟨#[32,61,32]⟩:ByteArray).size=3:=rfl
 have z2:(⟨#[59,10]⟩:ByteArray).size=2:=rfl
 unfold qNr
 simp only[jA,szl,ByteArray.size_append,qNl];omega
theorem fmt_L1{N:Nat}{f:Sr}(h:GoodS f)(hN:3000000<N){t0:List UInt8}(ht:t0.length≤100):qBa (qFo N f) N (0,t0)=some (t0++f.2.1.flatMap impT)∧(t0++f.2.1.flatMap impT).length≤600:=by
 have hn:=h.impn
 have hlen:∀s∈f.2.1,(impT s).length≤40:=fun s hs=>by
  have:=qIr (h.imps s hs)
  have z1:(⟨#[105,109,112,111,114,116,32]⟩:ByteArray).size=7:=rfl
  have z2:(⟨#[59,10]⟩:ByteArray).size=2:=rfl
  unfold impT
  simp only[szl,ByteArray.size_append];omega
 constructor
 ·have hl:=qKg (L:=f.2.1) (fun(t:List UInt8) (i:Nat)=>((i:Int),t)) (f:=qFo N f)
   (fun t s=> .inl (t++impT s)) (fun t=>t) (fun i t=>t.length≤100+40*i) (by
    intro t i hi hI
    have h1:=qIr (h.imps _ (jV hi))
    simp only[qFo]
    rw[if_pos (by simp only[j9];omega),qDw hi]
    have ew:IntKind.wrap .i64 ((i:Int)+1)=((i+1:Nat):Int):=by rw[wi64 (by omega) (by omega)];omega
    have z1:(⟨#[105,109,112,111,114,116,32]⟩:ByteArray).size=7:=rfl
    have z2:(⟨#[59,10]⟩:ByteArray).size=2:=rfl
    simp only[j0]
    rw[catW (by omega)]
    simp only[j0]
    rw[catW (by rw[ByteArray.size_append];omega)]
    simp only[j0]
    rw[app1 (by simp only[szl,ByteArray.size_append];omega)]
    simp only[j0,ew]
    rfl) (by
    intro t i hi t' hI hh
    cases hh
    have:=hlen _ (jV hi)
    simp only[jA];omega) (by
    intro t hI
    simp only[qFo]
    rw[if_neg (by simp)]) (M:=N) (t:=t0) (by omega) (by omega)
  rw[show((0:Nat):Int)=0 from rfl] at hl
  rw[hl,qZk (fun t s=>t++impT s) (fun _ _=>rfl),qTi]
 ·have:∀l:List ByteArray,(∀s∈l,(impT s).length≤40)→(l.flatMap impT).length≤40*l.length:=fun l=>by
   induction l with
   |nil=>intro _;exact kE _
   |cons s l ih=>
    intro hl
    have i1:=hl s (jL ..)
    have i2:=ih fun x hx=>hl x (jZ _ hx)
    simp only[gP,jA,jC];omega
  have:=this _ hlen
  rw[jA];omega
theorem fmt_L2{N:Nat}{f:Sr}(h:GoodS f)(hj:∀d∈f.2.2,d.1=1→qFw N d.2.2.1 (⟨#[44,32]⟩:ByteArray)=some (qVu d.2.2.1))(hN:3000000<N){t0:List UInt8}(ht:t0.length≤600):
  qBa (qFm N f) N (0,t0)=some (if f.2.2.any (fun d=>decide (32<depD d))=true then .inr ((⟨#[]⟩:ByteArray),2) else .inl (t0++f.2.2.flatMap qNr)):=by
 have hn:=h.decn
 have hl:=qKg (L:=f.2.2) (fun(t:List UInt8) (i:Nat)=>((i:Int),t)) (f:=qFm N f)
  (fun t d=>if(decide (32<depD d))=true then .inr (.inr ((⟨#[]⟩:ByteArray),2)) else .inl (t++qNr d)) (fun t=>(.inl t:List UInt8⊕(ByteArray×Int))) (fun i t=>t.length≤600+31000*i) (by
   intro t i hi hI
   obtain⟨g1,g2,g3,-⟩:=h.decs _ (jV hi)
   obtain⟨w1,w2⟩:=qYd g1 g3 hN
   have hh:=qYi g1 g2
   have hnl:=qZe g1
   have hjn:=qZo (l:=(f.2.2[i]).2.2.1) fun s hs=>qIr (g1.pars s hs).2
   have hje:=hj _ (jV hi)
   simp only[qFm]
   rw[if_pos (by simp only[j9];omega),qDw hi]
   generalize f.2.2[i]=d at g1 g2 g3 w1 w2 hh hnl hjn hje
   have ew:IntKind.wrap .i64 ((i:Int)+1)=((i+1:Nat):Int):=by rw[wi64 (by omega) (by omega)];omega
   simp only[j0,w1]
   have e32:decide ((depD d:Int)>32)=decide (32<depD d):=by congr 1;rw[eq_iff_iff];omega
   rw[e32]
   cases c:decide (32<depD d) with
   |true=>rfl
   |false=>
    have z1:(⟨#[102,117,110,99,32]⟩:ByteArray).size=5:=rfl
    have z2:(⟨#[40]⟩:ByteArray).size=1:=rfl
    have z3:(⟨#[41]⟩:ByteArray).size=1:=rfl
    have z4:(⟨#[116,101,115,116,32]⟩:ByteArray).size=5:=rfl
    have z5:(⟨#[103,101,110,32,34]⟩:ByteArray).size=5:=rfl
    have z6:(⟨#[34]⟩:ByteArray).size=1:=rfl
    have z7:(⟨#[32,61,32]⟩:ByteArray).size=3:=rfl
    have z8:(⟨#[59,10]⟩:ByteArray).size=2:=rfl
    have hhead:(if(d.1==1)=true then((catB (⟨#[102,117,110,99,32]⟩:ByteArray) d.2.1).bind fun s7=>(catB s7 (⟨#[40]⟩:ByteArray)).bind fun s8=>(qFw N d.2.2.1 (⟨#[44,32]⟩:ByteArray)).bind fun y3=>(catB s8 y3).bind fun s9=>(catB s9 (⟨#[41]⟩:ByteArray)).bind fun s10=>(qCd 1 t s10.data.toList).bind fun l3=>some l3) else(if(d.1==2)=true then((catB (⟨#[116,101,115,116,32]⟩:ByteArray) d.2.1).bind fun s11=>(qCd 1 t s11.data.toList).bind fun l4=>some l4) else((catB (⟨#[103,101,110,32,34]⟩:ByteArray) d.2.1).bind fun s12=>(catB s12 (⟨#[34]⟩:ByteArray)).bind fun s13=>(qCd 1 t s13.data.toList).bind fun l5=>some l5)):Option (List (UInt8)))=some (t++(qXd d).data.toList):=by
     unfold qXd at hh ⊢
     by_cases k1:d.1=1
     ·rw[if_pos k1] at hh
      simp only[ByteArray.size_append] at hh
      rw[if_pos (by simpa using k1),if_pos k1,catW (by omega)]
      simp only[j0]
      rw[catW (by rw[ByteArray.size_append];omega),hje k1]
      simp only[j0]
      rw[catW (by simp only[ByteArray.size_append];omega)]
      simp only[j0]
      rw[catW (by simp only[ByteArray.size_append];omega)]
      simp only[j0]
      rw[app1 (by simp only[szl,ByteArray.size_append];omega)]
      rfl
     ·rw[if_neg k1] at hh
      rw[if_neg (by simpa using k1),if_neg k1]
      by_cases k2:d.1=2
      ·rw[if_pos k2] at hh
       simp only[ByteArray.size_append] at hh
       rw[if_pos (by simpa using k2),if_pos k2,catW (by omega)]
       simp only[j0]
       rw[app1 (by simp only[szl,ByteArray.size_append];omega)]
       rfl
      ·rw[if_neg k2] at hh
       simp only[ByteArray.size_append] at hh
       rw[if_neg (by simpa using k2),if_neg k2,catW (by omega)]
       simp only[j0]
       rw[catW (by rw[ByteArray.size_append];omega)]
       simp only[j0]
       rw[app1 (by simp only[szl,ByteArray.size_append];omega)]
       rfl
    simp only[jB,jK]
    refine Eq.trans (congrArg (fun z=>Option.bind z _) hhead) ?_
    simp only[j0]
    rw[catW (by rw[qNl];omega)]
    simp only[j0]
    rw[catW (by rw[ByteArray.size_append,qNl];omega)]
    simp only[j0]
    rw[app1 (by simp only[jA,szl,ByteArray.size_append,qNl];omega)]
    simp only[j0,ew,qNr,jJ]) (by
   intro t i hi t' hI hh
   split at hh
   ·cases hh
   ·cases hh
    obtain⟨g1,g2,g3,-⟩:=h.decs _ (jV hi)
    have:=zDz (N:=N) g1 g2 g3 hN
    rw[jA];omega) (by
   intro t hI
   simp only[qFm]
   rw[if_neg (by simp)]) (M:=N) (t:=t0) (by omega) (by omega)
 rw[show((0:Nat):Int)=0 from rfl] at hl
 rw[hl]
 congr 1
 suffices g:∀(l:List Dl) (t:List UInt8),run (fun t d=>if(decide (32<depD d))=true then .inr (.inr ((⟨#[]⟩:ByteArray),2)) else .inl (t++qNr d)) (fun t=>(.inl t:List UInt8⊕(ByteArray×Int))) l t=if l.any (fun d=>decide (32<depD d))=true then .inr ((⟨#[]⟩:ByteArray),2) else .inl (t++l.flatMap qNr) from g _ _
 intro l
 induction l with
 |nil=>intro t;simp[run]
 |cons d l ih=>
  intro t
  simp only[run,fM,gP]
  cases hd:decide (32<depD d) with
  |true=>simp
  |false=>
   simp only[jB,jK,kY]
   rw[ih,jJ]
theorem qSy{N:Nat}{f:Sr}(hf:SmSr f)(hj:qJx f=0→∀d∈f.2.2,d.1=1→qFw N d.2.2.1 (⟨#[44,32]⟩:ByteArray)=some (qVu d.2.2.1))(hN:3000000<N):
  qEg N f=some (if qJx f=0 then qOc f else(⟨#[]⟩,qJx f)):=by
 unfold qEg
 rw[show qGg N f=_ from qVr hf hN]
 simp only[j0]
 by_cases hc:qJx f=0
 ·have hg:=zDo hc
  have hpk:=qIr hg.pkg
  have z1:(⟨#[112,97,99,107,97,103,101,32]⟩:ByteArray).size=8:=rfl
  have z2:(⟨#[59,10]⟩:ByteArray).size=2:=rfl
  have hpl:(pkgT f.1).length≤100:=by unfold pkgT;simp only[szl,ByteArray.size_append];omega
  rw[if_neg (by simp[hc]),if_pos hc,catW (by omega)]
  simp only[j0]
  rw[catW (by rw[ByteArray.size_append];omega)]
  simp only[j0]
  rw[app1 (by simp only[jF,szl,ByteArray.size_append];omega),jX]
  simp only[j0]
  rw[show(((⟨#[112,97,99,107,97,103,101,32]⟩:ByteArray)++f.1)++(⟨#[59,10]⟩:ByteArray)).data.toList=pkgT f.1 from rfl]
  obtain⟨l1,l2⟩:=fmt_L1 hg hN hpl
  rw[l1]
  simp only[j0]
  rw[fmt_L2 hg (hj hc) hN l2]
  simp only[j0]
  unfold qOc
  by_cases ha:f.2.2.any (fun d=>decide (32<depD d))=true
  ·rw[if_pos ha,if_pos ha]
  ·rw[if_neg ha,if_neg ha]
   simp only
   have e:decide (((pkgT f.1++f.2.1.flatMap impT++f.2.2.flatMap qNr).length:Int)>16384)=decide (16384<(fmtT f).length):=by
    congr 1;rw[eq_iff_iff];unfold fmtT;omega
   rw[e]
   by_cases hl:16384<(fmtT f).length
   ·rw[if_pos (by simpa using hl),if_pos hl]
   ·rw[if_neg (by simpa using hl),if_neg hl]
    have hnn:nonE (pkgT f.1++f.2.1.flatMap impT++f.2.2.flatMap qNr)=some ():=by
     cases hh:(pkgT f.1++f.2.1.flatMap impT++f.2.2.flatMap qNr) with
     |nil=>
      have h1:=(kU.1 (kU.1 hh).1).1
      unfold pkgT at h1
      rw[qHm,qHm] at h1
      have:=(kU.1 h1).2
      simp at this
     |cons a l=>rfl
    rw[hnn]
    rfl
 ·rw[if_pos (by simp[hc]),if_neg hc]
theorem zDx{N:Nat}{l:List ByteArray}(h:l.length≤1):qFw N l (⟨#[44,32]⟩:ByteArray)=some (qVu l):=by
 unfold qFw
 match l,h with
 |[],_=>rfl
 |[x],_=>
  simp only[jC,jF]
  rw[if_neg (by decide),if_pos (by decide),show idx [x] 0=some x from rfl]
  simp only[j0]
  congr 1
  refine qSk ?_
  show x.data.toList=qPh 0 [x.data.toList]
  simp[qPh,sepK]
end
section
open Go Go.Dc Go.Proofs
section
variable {ts:List Tok} {params:List ByteArray} {E S:Ps→PM Nat} {B:Nat}
def BE(B:Nat)(l:List Ex):Prop:=∀x∈l,x.2.2.2.2.length≤B
def AdvB(B:Nat)(E:Ps→PM Nat):Prop:=∀(p q:Ps) (x:Nat),BE B p.2→E p= .inr (q,x)→BE B q.2
theorem qRx{t:Tok}{x:Ex}{p q:Ps}{i:Nat}(h1:BE B p.2)(h2:x.2.2.2.2.length≤B)(h:qKz t x p= .inr (q,i)):BE B q.2:=by
 obtain⟨rfl,-,-⟩:=qYt h
 intro y hy
 rcases kP.1 hy with hy|hy
 ·exact h1 y hy
 ·rw[jW.1 hy];exact h2
theorem zEy(hE:AdvB B E):∀(n:Nat) (l:List Int) (p q:Ps) (x:List Int),BE B p.2→zAf ts E n l p= .inr (q,x)→BE B q.2∧x.length≤l.length+n
 |0,_,_,_,_,_,h1=>by cases h1
 |n+1,l,p,q,x,hb,h1=>by
  obtain⟨a,ha,h2⟩:=qAr (show qCy (E p) _=_ from h1)
  have hb2:=hE p a.1 a.2 hb ha
  split at h2
  ·obtain⟨k1,k2⟩:=zEy hE n _ (a.1.1+1,a.1.2) q x hb2 h2
   exact⟨k1,by simp only[jA,jC,jF] at k2;omega⟩
  ·obtain⟨j,hj,h3⟩:=qAr h2
   obtain⟨rfl,rfl⟩:=Prod.mk.inj (Sum.inr.inj h3)
   exact⟨hb2,by simp only[jA,jC,jF];omega⟩
theorem qWr(hE:AdvB B E){p q:Ps}{x:List Int}(hb:BE B p.2)(h1:qIn ts E p= .inr (q,x)):BE B q.2∧x.length≤ts.length+1:=by
 obtain⟨i,hi,h2⟩:=qAr h1
 split at h2
 ·obtain⟨rfl,rfl⟩:=Prod.mk.inj (Sum.inr.inj h2)
  exact⟨hb,kE _⟩
 ·obtain⟨k1,k2⟩:=zEy hE _ _ (i,p.2) q x hb h2
  exact⟨k1,by simpa using k2⟩
theorem zCr(hB:3≤B)(hE:AdvB B E){t:Tok}{p q:Ps}{x:Nat}(hb:BE B p.2)(h1:qKu ts E t p= .inr (q,x)):BE B q.2:=by
 obtain⟨i,hi,h2⟩:=qAr h1
 obtain⟨a,ha,h3⟩:=qAr h2
 obtain⟨j,hj,h4⟩:=qAr h3
 have key:BE B a.1.2∧a.2.2.2.2.2.length≤B:=by
  split at ha
  ·obtain⟨b,hb1,hb2⟩:=qAr ha
   obtain⟨c,hc1,hc2⟩:=qAr hb2
   obtain⟨d,hd1,hd2⟩:=qAr hc2
   have:=hE (c,p.2) d.1 d.2 hb hd1
   obtain rfl:=Sum.inr.inj hd2
   exact⟨this,by show 1≤B;omega⟩
  ·split at ha
   ·obtain⟨b,hb1,hb2⟩:=qAr ha
    obtain rfl:=Sum.inr.inj hb2
    exact⟨hb,kE _⟩
   ·split at ha
    ·obtain⟨b,hb1,hb2⟩:=qAr ha
     obtain rfl:=Sum.inr.inj hb2
     exact⟨hb,kE _⟩
    ·split at ha
     ·obtain⟨b,hb1,hb2⟩:=qAr ha
      obtain rfl:=Sum.inr.inj hb2
      exact⟨hb,kE _⟩
     ·obtain⟨b,hb1,hb2⟩:=qAr ha
      split at hb2
      ·cases hb2
      ·obtain rfl:=Sum.inr.inj hb2
       exact⟨hb,kE _⟩
 exact qRx (p:=(j,a.1.2)) key.1 key.2 h4
theorem zEq(hB:ts.length+3≤B)(hE:AdvB B E):AdvB B (qMc ts params E):=by
 intro p q x hb h1
 unfold qMc at h1
 dsimp only at h1
 split at h1
 ·exact qRx (p:=(p.1+1,p.2)) hb (kE _) h1
 split at h1
 ·obtain⟨a,ha,h2⟩:=qAr h1
  exact qRx (p:=(a.1,p.2)) hb (kE _) h2
 split at h1
 ·obtain⟨a,ha,h2⟩:=qAr h1
  have:=hE (p.1+1,p.2) a.1 a.2 hb ha
  obtain⟨j,hj,h3⟩:=qAr h2
  obtain⟨rfl,rfl⟩:=Prod.mk.inj (Sum.inr.inj h3)
  exact this
 split at h1
 ·cases h1
 split at h1
 ·exact zCr (by omega) hE (p:=(p.1+1,p.2)) hb h1
 split at h1
 ·cases h1
 split at h1
 ·obtain⟨a,ha,h2⟩:=qAr h1
  obtain⟨k1,k2⟩:=qWr hE (p:=(p.1+1,p.2)) hb ha
  exact qRx (p:=a.1) k1 (by show a.2.length≤B;omega) h2
 split at h1
 ·exact qRx (p:=(p.1+1,p.2)) hb (kE _) h1
 ·cases h1
theorem zFf(hB:3≤B){level:Nat}(hS:AdvB B S):∀(n x:Nat) (p q:Ps) (y:Nat),BE B p.2→qVe ts level S n x p= .inr (q,y)→BE B q.2
 |0,_,_,_,_,_,h1=>by cases h1
 |n+1,x,p,q,y,hb,h1=>by
  unfold qVe at h1
  split at h1
  ·obtain⟨rfl,rfl⟩:=Prod.mk.inj (Sum.inr.inj h1)
   exact hb
  ·obtain⟨a,ha,h2⟩:=qAr h1
   have f:=hS (p.1+1,p.2) a.1 a.2 hb ha
   obtain⟨r,hr,h3⟩:=qAr h2
   have k:BE B r.1.2:=by
    refine qRx (p:=a.1) f ?_ hr
    show 2≤B
    omega
   split at h3
   ·obtain⟨rfl,rfl⟩:=Prod.mk.inj (Sum.inr.inj h3)
    exact k
   ·exact zFf hB hS n _ _ q y k h3
theorem qXg(hB:3≤B){level:Nat}(hS:AdvB B S):AdvB B (qQz ts level S):=by
 intro p q x hb h1
 obtain⟨a,ha,h2⟩:=qAr h1
 exact zFf hB hS _ _ _ q x (hS p a.1 a.2 hb ha) h2
theorem qVa(hB:ts.length+3≤B):∀k,AdvB B (qId ts params k)
 |0=>fun _ _ _ _ h1=>by cases h1
 |k+1=>by
  intro p q x hb h1
  unfold qId at h1
  split at h1
  ·obtain⟨a,ha,h2⟩:=qAr h1
   have a1:=qVa hB k (p.1+1,p.2) a.1 a.2 hb ha
   obtain⟨i,hi,h3⟩:=qAr h2
   obtain⟨b,hb1,h4⟩:=qAr h3
   have b1:=qVa hB k (i,a.1.2) b.1 b.2 a1 hb1
   obtain⟨j,hj,h5⟩:=qAr h4
   obtain⟨c,hc1,h6⟩:=qAr h5
   have c1:=qVa hB k (j,b.1.2) c.1 c.2 b1 hc1
   refine qRx (p:=c.1) c1 ?_ h6
   show 3≤B
   omega
  ·exact qXg (by omega) (qXg (by omega) (qXg (by omega) (zEq hB (qVa hB k)))) p q x hb h1
def okDl(d:Dl):Prop:=d.2.2.1.length≤8∧d.2.2.2.length≤256∧BE 20000 d.2.2.2
theorem decl_b(hok:OkT ts)(hts:ts.length≤16385){before:List Dl}{i:Nat}{a:Nat×Dl}(hi:i<ts.length)(h1:qSg ts before i= .inr a):okDl a.2:=by
 unfold qSg at h1
 dsimp only at h1
 split at h1
 ·cases h1
 rename_i k1
 split at h1
 ·cases h1
 have g:=hok.next hi (show(tkAt ts i).1≠5 by intro e;apply k1;left;rw[e];decide)
 obtain⟨x,hx,h2⟩:=qAr h1
 have gx:x.1<ts.length:=by
  split at hx
  ·obtain⟨rfl,g1,-⟩:=qKd hok g hx;exact g1
  ·obtain⟨rfl,g1,-⟩:=qJz hok g hx;exact g1
 split at h2
 ·cases h2
 obtain⟨y,hy,h3⟩:=qAr h2
 have gy:y.1<ts.length∧y.2.length≤8:=by
  split at hy
  ·obtain⟨-,g2,g3⟩:=qKk hok gx hy;exact⟨g2,g3⟩
  ·obtain rfl:=Sum.inr.inj hy;exact⟨gx,kE _⟩
 obtain⟨j,hj,h4⟩:=qAr h3
 obtain⟨rfl,g3,-⟩:=qFj hok gy.1 hj
 obtain⟨c,hc,h5⟩:=qAr h4
 obtain⟨⟨-,-,-,f4⟩,-⟩:=qJs hok 32 (y.1+1,[]) c.1 c.2 g3 (by simp) hc
 have f5:=qVa (B:=20000) (by omega) 32 (y.1+1,[]) c.1 c.2 (fun z hz=>by cases hz) hc
 obtain⟨m,hm,h6⟩:=qAr h5
 obtain rfl:=Sum.inr.inj h6
 exact⟨gy.2,f4,f5⟩
theorem zAr(hok:OkT ts)(hts:ts.length≤16385):∀(n:Nat) (l:List Dl) (i:Nat) {r:List Dl},(∀d∈l,okDl d)→i<ts.length→qOj ts n l i= .inr r→∀d∈r,okDl d
 |0,_,_,_,_,_,h1=>by cases h1
 |n+1,l,i,r,hl,hi,h1=>by
  unfold qOj at h1
  split at h1
  ·cases h1;exact hl
  obtain⟨x,hx,h2⟩:=qAr h1
  obtain⟨-,g2,-⟩:=qOy hok hi hx
  refine zAr hok hts n _ _ (fun d hd=> ?_) g2 h2
  rcases kP.1 hd with hd|hd
  ·exact hl d hd
  ·rw[jW.1 hd];exact decl_b hok hts hi hx
end
def okSr(f:Sr):Prop:=f.2.1.length≤8∧f.2.2.length≤64∧∀d∈f.2.2,okDl d
theorem zCv{ts:List Tok}(h:OkT ts):∀(n:Nat) (l:List Dl) (i:Nat) {r:List Dl},l.length≤64→i<ts.length→qOj ts n l i= .inr r→r.length≤64
 |0,_,_,_,_,_,h1=>by cases h1
 |n+1,l,i,r,hl,hi,h1=>by
  unfold qOj at h1
  split at h1
  ·cases h1;exact hl
  obtain⟨x,hx,h2⟩:=qAr h1
  obtain⟨-,g2,g3⟩:=qOy h hi hx
  exact zCv h n _ _ (by simp only[jA,jC,jF];omega) g2 h2
theorem qYc:okSr zFr:=⟨kE _,kE _,fun d hd=>by cases hd⟩
theorem zCf(s:ByteArray):okSr (qJq s).1:=by
 unfold qJq
 by_cases h0:(qGc s).2.2=0
 ·rw[if_neg (not_not_intro h0)]
  obtain⟨hok,hlen,hsz⟩:=qTf h0
  have hpos:0<(qGc s).1.length:=by
   cases h:(qGc s).1 with
   |nil=>exact absurd h hok.1
   |cons a l=>exact Nat.succ_pos _
  cases hf:qSi (qGc s).1 with
  |inl z=>exact qYc
  |inr f=>
   simp only
   unfold qSi at hf
   obtain⟨i,h1,hf⟩:=qAr hf
   obtain⟨rfl,g1,-⟩:=qNn hok hpos h1
   obtain⟨a,h2,hf⟩:=qAr hf
   obtain⟨rfl,g2,-⟩:=qJz hok g1 h2
   obtain⟨j,h3,hf⟩:=qAr hf
   obtain⟨rfl,g3,-⟩:=qFj hok g2 h3
   obtain⟨b,h4,hf⟩:=qAr hf
   obtain⟨-,k2,k3⟩:=qMu hok _ _ _ b g3 (by simp) h4
   obtain⟨l,h5,hf⟩:=qAr hf
   have e1:=zCv hok _ _ _ (by simp) k2 h5
   have e2:=zAr hok hlen _ _ _ (fun d hd=>by cases hd) k2 h5
   cases hf
   exact⟨k3,e1,e2⟩
 ·rw[if_pos h0];exact qYc
theorem qVw{β:Type}{b:β}{n:Nat}{f:Int→Option (Int⊕β)}(hs:∀i,i<n→f (i:Int)=some (.inl ((i+1:Nat):Int)))(hf:f (n:Int)=some (.inr b)):∀(d i M:Nat),i+d=n→d<M→qBa f M (i:Int)=some b
 |_,_,0,_,h=>absurd h (kH _)
 |0,i,M+1,h1,_=>by
  have:i=n:=by omega
  subst this
  simp only[qBa,hf,j0]
 |d+1,i,M+1,h1,h2=>by
  simp only[qBa,hs i (by omega),j0]
  exact qVw hs hf d (i+1) M (by omega) (by omega)
theorem zEp{β:Type}{b:β}{n M:Nat}{f:Int→Option (Int⊕β)}(hs:∀i,i<n→f (i:Int)=some (.inl ((i+1:Nat):Int)))(hf:f (n:Int)=some (.inr b))(hM:n<M):qBa f M 0=some b:=
 qVw hs hf n 0 M (by omega) hM
theorem qOz{N:Nat}{l:List ByteArray}(h:l.length<1000000)(hN:l.length<N):qDh N l l=some true:=by
 unfold qDh
 rw[if_neg (by simp),zEp (n:=l.length) (b:=(.inl ():Unit⊕Bool)) (fun i hi=>by
  simp only[qDj]
  rw[if_pos (by simp only[j9];omega),qDw hi]
  have ew:IntKind.wrap .i64 ((i:Int)+1)=((i+1:Nat):Int):=by rw[wi64 (by omega) (by omega)];omega
  simp only[j0,kS,kM,jB,jK,ew]) (by
  simp only[qDj]
  rw[if_neg (by simp)]) hN]
 rfl
theorem qWk{N:Nat}{x:Ex}(h:x.2.2.2.2.length<1000000)(hN:x.2.2.2.2.length<N):qEt N x x=some true:=by
 unfold qEt
 have hl:=zEp (n:=x.2.2.2.2.length) (M:=N) (b:=(.inl ():Unit⊕Bool)) (f:=qCo N x x) (fun i hi=>by
  simp only[qCo]
  rw[if_pos (by simp only[j9];omega),qDw hi]
  have ew:IntKind.wrap .i64 ((i:Int)+1)=((i+1:Nat):Int):=by rw[wi64 (by omega) (by omega)];omega
  simp only[j0,fR,jB,jK,ew]) (by
  simp only[qCo]
  rw[if_neg (by simp)]) hN
 simp only[fR,jB,jK,kS,kM,j0,hl]
theorem qUs{N:Nat}{d:Dl}(h:okDl d)(hN:100000<N):qEu N d d=some true:=by
 obtain⟨h1,h2,h3⟩:=h
 unfold qEu
 have hl:=zEp (n:=d.2.2.2.length) (M:=N) (b:=(.inl ():Unit⊕Bool)) (f:=qCp N d d) (fun i hi=>by
  simp only[qCp]
  rw[if_pos (by simp only[j9];omega),qDw hi]
  have ew:IntKind.wrap .i64 ((i:Int)+1)=((i+1:Nat):Int):=by rw[wi64 (by omega) (by omega)];omega
  have hx:=h3 _ (jV hi)
  simp only[j0]
  rw[qWk (by omega) (by omega)]
  simp only[j0,kM,jB,jK,ew]) (by
  simp only[qCp]
  rw[if_neg (by simp)]) (by omega)
 rw[qOz (l:=d.2.2.1) (by omega) (by omega)]
 simp only[fR,jB,jK,kS,kM,j0,hl]
theorem qVh{N:Nat}{f:Sr}(h:okSr f)(hN:100000<N):qFl N f f=some true:=by
 obtain⟨h1,h2,h3⟩:=h
 unfold qFl
 have hl:=zEp (n:=f.2.2.length) (M:=N) (b:=(.inl ():Unit⊕Bool)) (f:=qEc N f f) (fun i hi=>by
  simp only[qEc]
  rw[if_pos (by simp only[j9];omega),qDw hi]
  have ew:IntKind.wrap .i64 ((i:Int)+1)=((i+1:Nat):Int):=by rw[wi64 (by omega) (by omega)];omega
  simp only[j0]
  rw[qUs (h3 _ (jV hi)) hN]
  simp only[j0,kM,jB,jK,ew]) (by
  simp only[qEc]
  rw[if_neg (by simp)]) (by omega)
 rw[qOz (l:=f.2.1) (by omega) (by omega)]
 simp only[fR,jB,jK,kS,kM,j0,hl]
end
section
open Go Go.Dc Go.Proofs
def opsQ:List ByteArray:=[(⟨#[43]⟩:ByteArray),(⟨#[45]⟩:ByteArray),(⟨#[42]⟩:ByteArray),(⟨#[47]⟩:ByteArray),(⟨#[37]⟩:ByteArray),(⟨#[60]⟩:ByteArray),(⟨#[61,61]⟩:ByteArray)]
def opQ(i:Nat):ByteArray:=opsQ.getD i ⟨#[]⟩
def levsQ:List Int:=[(2:Int),2,3,3,3,1,1]
def levQ(i:Nat):Int:=levsQ.getD i 0
theorem zBy{i:Nat}(h:i<7):idx opsQ (i:Int)=some (opQ i):=by
 rcases(by omega:i=0∨i=1∨i=2∨i=3∨i=4∨i=5∨i=6) with rfl|rfl|rfl|rfl|rfl|rfl|rfl<;>rfl
theorem qYu{i:Nat}(h:i<7):idx levsQ (i:Int)=some (levQ i):=by
 rcases(by omega:i=0∨i=1∨i=2∨i=3∨i=4∨i=5∨i=6) with rfl|rfl|rfl|rfl|rfl|rfl|rfl<;>rfl
theorem qQc:∀i:Fin 7,(opQ i.val).data.toList∈zBj∧(opQ i.val).data.toList≠[61]∧(match(opQ i.val).data.toList with|[]=>false|x::_=> !inK [2] x)=true∧(opQ i.val).size≤2:=by decide+kernel
def bodQ(i k:Nat)(x y z:Int):List Ex:=if levQ k≤levQ i then[(1,x,0,emB,[]),(1,y,0,emB,[]),(4,0,((i+1:Nat):Int),emB,[0,1]),(1,z,0,emB,[]),(4,0,((k+1:Nat):Int),emB,[2,3])]
 else[(1,x,0,emB,[]),(1,y,0,emB,[]),(1,z,0,emB,[]),(4,0,((k+1:Nat):Int),emB,[1,2]),(4,0,((i+1:Nat):Int),emB,[0,3])]
def decQ(i k:Nat)(x y z:Int):Dl:=(2,⟨#[116]⟩,[],bodQ i k x y z)
def srcQ(i k:Nat)(x y z:Int):Sr:=(⟨#[112]⟩,[],[decQ i k x y z])
theorem qZt{np x:Int}(h0:0≤x)(h1:x≤9007199254740992):qIs np (1,x,0,emB,[])=true:=by
 unfold qIs argN
 have a:x≥-9007199254740992:=by omega
 simp[a,h1]
theorem binP{np:Int}{i:Nat}{a b:Int}(h:i<7):qIs np (4,0,((i+1:Nat):Int),emB,[a,b])=true:=by
 unfold qIs argN
 have h0:((i+1:Nat):Int)≥1:=by omega
 have h1:((i+1:Nat):Int)≤7:=by omega
 rw[if_neg (by show ¬(4:Int)=1;decide),if_neg (by show ¬(4:Int)=2;decide),if_neg (by show ¬(4:Int)=3;decide),if_pos rfl]
 simp only[kC h0,kC h1]
 rfl
theorem qZs{i k:Nat}{x y z:Int}(hi:i<7)(hk:k<7)(hx:0≤x∧x≤65535)(hy:0≤y∧y≤65535)(hz:0≤z∧z≤65535):qJx (srcQ i k x y z)=0∧SmSr (srcQ i k x y z):=by
 have key:∀l:List Ex,(l=bodQ i k x y z)→l.all (qIs 0)=true∧oneP (ordS l 0 [])=true∧qXn l=false∧l.length<100∧∀e∈l,e.2.2.2.1.size≤1048576∧e.2.2.2.2.length<2000000:=by
  intro l hl
  unfold bodQ at hl
  split at hl
  ·subst hl
   refine⟨?_,by kernel_rfl,by kernel_rfl,by show(5:Nat)<100;decide,fun e he=> ?_⟩
   ·simp only[List.all_cons,List.all_nil,qZt (np:=0) hx.1 (show x≤9007199254740992 by omega),qZt (np:=0) hy.1 (show y≤9007199254740992 by omega),qZt (np:=0) hz.1 (show z≤9007199254740992 by omega),binP (np:=0) hi,binP (np:=0) hk,Bool.and_self]
   ·have z0:emB.size=0:=rfl
    simp only[jQ,kO,fX] at he
    rcases he with rfl|rfl|rfl|rfl|rfl<;>refine⟨?_,?_⟩<;>simp[z0]
  ·subst hl
   refine⟨?_,by kernel_rfl,by kernel_rfl,by show(5:Nat)<100;decide,fun e he=> ?_⟩
   ·simp only[List.all_cons,List.all_nil,qZt (np:=0) hx.1 (show x≤9007199254740992 by omega),qZt (np:=0) hy.1 (show y≤9007199254740992 by omega),qZt (np:=0) hz.1 (show z≤9007199254740992 by omega),binP (np:=0) hi,binP (np:=0) hk,Bool.and_self]
   ·have z0:emB.size=0:=rfl
    simp only[jQ,kO,fX] at he
    rcases he with rfl|rfl|rfl|rfl|rfl<;>refine⟨?_,?_⟩<;>simp[z0]
 obtain⟨k1,k2,k3,k4,k5⟩:=key _ rfl
 have n1:qGl ⟨#[112]⟩=true:=by kernel_rfl
 have n2:qGl ⟨#[116]⟩=true:=by kernel_rfl
 constructor
 ·have hs:synP (srcQ i k x y z)=true:=by
   unfold synP srcQ qHu qWm qXt qZu decQ
   simp only[n1,n2,List.all_cons,List.all_nil,gC,Bool.and_true]
   simp only[jU,gC,true_or,or_true]
   rw[show((([]:List ByteArray).length:Nat):Int)=0 from rfl,k1,k2]
   rfl
  have ht:qTc (srcQ i k x y z)=false:=by kernel_rfl
  have hm:qUq (srcQ i k x y z)=false:=by
   unfold qUq srcQ qXk decQ
   simp only[fM,List.any_nil,k3,Bool.or_false]
   rw[kK (show ¬256<(bodQ i k x y z).length by omega)]
   rfl
  unfold qJx
  rw[if_pos hs,ht,hm]
  rfl
 ·refine⟨by show 0<2000000;decide,by show 1<2000000;decide,fun d hd=> ?_⟩
  have hd:d=decQ i k x y z:=jW.1 hd
  subst hd
  exact⟨by show(1:Nat)≤1048576;decide,by show 0<2000000;decide,by show(bodQ i k x y z).length<2000000;omega,k5⟩
def sgT(i:Nat):List UInt8:=(((⟨#[32]⟩:ByteArray)++zAp ((i+1:Nat):Int))++(⟨#[32]⟩:ByteArray)).data.toList
theorem assoc5(a b c d e:List UInt8):(a++(b++c))++(d++e)=a++(b++(c++(d++e))):=by simp only[jJ]
def txtQ(i k:Nat)(x y z:Int):List UInt8:=Lib.itoa x++(sgT i++(Lib.itoa y++(sgT k++Lib.itoa z)))
theorem wrQA{i k:Nat}(hi:i<7)(hk:k<7)(hl:¬(5≤i∧5≤k))(h:levQ k≤levQ i)(x y z:Int):wrD (decQ i k x y z)=txtQ i k x y z∧depD (decQ i k x y z)=1:=by
 rcases(by omega:i=0∨i=1∨i=2∨i=3∨i=4∨i=5∨i=6) with rfl|rfl|rfl|rfl|rfl|rfl|rfl<;>
 rcases(by omega:k=0∨k=1∨k=2∨k=3∨k=4∨k=5∨k=6) with rfl|rfl|rfl|rfl|rfl|rfl|rfl<;>
 first
 |exact absurd h (by decide)
 |exact absurd ⟨by decide,by decide⟩ hl
 |exact⟨Eq.trans (b:=(Lib.itoa x++(sgT _++Lib.itoa y))++(sgT _++Lib.itoa z)) (by kernel_rfl) (assoc5 _ _ _ _ _),by kernel_rfl⟩
theorem wrQB{i k:Nat}(hi:i<7)(hk:k<7)(h:¬levQ k≤levQ i)(x y z:Int):wrD (decQ i k x y z)=txtQ i k x y z∧depD (decQ i k x y z)=1:=by
 rcases(by omega:i=0∨i=1∨i=2∨i=3∨i=4∨i=5∨i=6) with rfl|rfl|rfl|rfl|rfl|rfl|rfl<;>
 rcases(by omega:k=0∨k=1∨k=2∨k=3∨k=4∨k=5∨k=6) with rfl|rfl|rfl|rfl|rfl|rfl|rfl<;>
 first
 |exact absurd (by decide) h
 |exact⟨by kernel_rfl,by kernel_rfl⟩
theorem wrQ{i k:Nat}(hi:i<7)(hk:k<7)(hl:¬(5≤i∧5≤k))(x y z:Int):wrD (decQ i k x y z)=txtQ i k x y z∧depD (decQ i k x y z)=1:=by
 by_cases h:levQ k≤levQ i
 ·exact wrQA hi hk hl h x y z
 ·exact wrQB hi hk h x y z
end
section
open Go Go.Dc Go.Proofs
def mkT:List Core→Nat→(Nat→Int)→List Tok
 |[],_,_=>[]
 |c::cs,j,o=>(c.1,c.2.1,c.2.2,o j)::mkT cs (j+1) o
theorem zFb:∀(ts:List Tok) (cs:List Core) (j:Nat) (o:Nat→Int),ts.map zCb=cs→(∀i,i<ts.length→o (j+i)=(tkAt ts i).2.2.2)→ts=mkT cs j o
 |[],cs,j,o,h,_=>by
  obtain rfl:cs=[]:=h.symm
  rfl
 |t::ts,cs,j,o,h,ho=>by
  subst h
  simp only[jN,mkT]
  have h0:o j=t.2.2.2:=ho 0 (by simp)
  rw[h0,←zFb ts (ts.map zCb) (j+1) o rfl fun i hi=>by
   rw[show j+1+i=j+(i+1) by omega,ho (i+1) (by simp;omega)];rfl]
  rfl
theorem mkT_ex{ts:List Tok}{cs:List Core}(h:ts.map zCb=cs):∃o,ts=mkT cs 0 o:=
 ⟨fun i=>(tkAt ts i).2.2.2,zFb ts cs 0 _ h fun i _=>by rw[jY]⟩
def hdP:List Pc:=[((1,[112,97,99,107,97,103,101]),[32]),((1,[112]),[]),((4,[59]),[32]),((1,[116,101,115,116]),[32]),((1,[116]),[32]),((4,[61]),[32])]
def nmC(x:Nat):Ct:=(2,Lib.decDigits x)
def opC'(i:Nat):Ct:=(4,(opQ i).data.toList)
def pcs1(i k x y z:Nat):List Pc:=[(nmC x,[32]),(opC' i,[32]),(nmC y,[32]),(opC' k,[32]),(nmC z,[]),((4,[59]),[])]
def pcsA(i k x y z:Nat):List Pc:=[((4,[40]),[]),((4,[40]),[]),((4,[40]),[]),(nmC x,[]),(opC' i,[]),(nmC y,[]),((4,[41]),[]),(opC' k,[]),(nmC z,[]),((4,[41]),[]),((4,[41]),[]),((4,[59]),[])]
def pcsB(i k x y z:Nat):List Pc:=[((4,[40]),[]),((4,[40]),[]),(nmC x,[]),(opC' i,[]),((4,[40]),[]),(nmC y,[]),(opC' k,[]),(nmC z,[]),((4,[41]),[]),((4,[41]),[]),((4,[41]),[]),((4,[59]),[])]
def nb2(l:List UInt8):Bool:=match l with|[]=>true|x::_=> !inK [2] x
theorem gNum{n:Nat}(hn:n≤65535){bl:List UInt8}{l:List Pc}(hb:∀x∈bl,inK [5] x=true)(hf:nb2 (bl++qFu l)=true)(hg:qNv l):qNv ((nmC n,bl)::l):=by
 refine⟨.inr (.inl ⟨rfl,zFd n,zBa n,?_⟩),hb,fun x r h=> ?_,hg⟩
 ·have:=qYa n (by omega)
  show numL (Lib.decDigits n)≤_
  omega
 ·have h:bl++qFu l=x::r:=h
  rw[h] at hf
  exact hf
theorem qMq{s:List UInt8}(hs:s∈zBj)(h61:s≠[61]){bl:List UInt8}{l:List Pc}(hb:∀x∈bl,inK [5] x=true)(hg:qNv l):qNv (((4,s),bl)::l):=by
 refine⟨.inr (.inr (.inr ⟨rfl,hs⟩)),hb,fun x r _=> ?_,hg⟩
 show(if(4:Int)=1 then _ else if(4:Int)=2 then _ else if s=[61] then _ else true)=true
 rw[if_neg (by decide),if_neg (by decide),if_neg h61]
theorem bl0:∀x∈([]:List UInt8),inK [5] x=true:=fun x h=>by cases h
theorem bl1:∀x∈([32]:List UInt8),inK [5] x=true:=fun x h=>by rw[jW.1 h];kernel_rfl
theorem gOp{i:Nat}(hi:i<7){bl:List UInt8}{l:List Pc}(hb:∀x∈bl,inK [5] x=true)(hg:qNv l):qNv ((opC' i,bl)::l):=by
 obtain⟨h1,h2,-,-⟩:=qQc ⟨i,hi⟩
 exact qMq h1 h2 hb hg
theorem zBi{i:Nat}(hi:i<7)(r:List UInt8):nb2 ((opQ i).data.toList++r)=true:=by
 rcases(by omega:i=0∨i=1∨i=2∨i=3∨i=4∨i=5∨i=6) with rfl|rfl|rfl|rfl|rfl|rfl|rfl<;>kernel_rfl
theorem gHd{l:List Pc}(hg:qNv l):qNv (hdP++l):=by
 have w1:okC (1,[112,97,99,107,97,103,101]):= .inl ⟨rfl,⟨112,_,rfl,by kernel_rfl⟩,by decide+kernel,by decide⟩
 have w2:okC (1,[112]):= .inl ⟨rfl,⟨112,_,rfl,by kernel_rfl⟩,by decide+kernel,by decide⟩
 have w3:okC (1,[116,101,115,116]):= .inl ⟨rfl,⟨116,_,rfl,by kernel_rfl⟩,by decide+kernel,by decide⟩
 have w4:okC (1,[116]):= .inl ⟨rfl,⟨116,_,rfl,by kernel_rfl⟩,by decide+kernel,by decide⟩
 refine⟨w1,bl1,fun x r h=> ?_,w2,bl0,fun x r h=> ?_,?_⟩
 ·obtain⟨rfl,-⟩:=List.cons.inj h;kernel_rfl
 ·obtain⟨rfl,-⟩:=List.cons.inj h;kernel_rfl
 refine qMq (by decide) (by decide) bl1 ⟨w3,bl1,fun x r h=> ?_,w4,bl1,fun x r h=> ?_,.inr (.inr (.inr ⟨rfl,by decide⟩)),bl1,fun x r h=> ?_,hg⟩
 ·obtain⟨rfl,-⟩:=List.cons.inj h;kernel_rfl
 ·obtain⟨rfl,-⟩:=List.cons.inj h;kernel_rfl
 ·obtain⟨rfl,-⟩:=List.cons.inj h;kernel_rfl
section
variable {i k x y z:Nat} (hi:i<7) (hk:k<7) (hx:x≤65535) (hy:y≤65535) (hz:z≤65535)
include hi hk hx hy hz
theorem good1:qNv (hdP++pcs1 i k x y z):=
 gHd (gNum hx bl1 (by kernel_rfl) (gOp hi bl1 (gNum hy bl1 (by kernel_rfl) (gOp hk bl1 (gNum hz bl0 (by kernel_rfl) (qMq (by decide) (by decide) bl0 trivial))))))
theorem goodA:qNv (hdP++pcsA i k x y z):=
 gHd (qMq (by decide) (by decide) bl0 (qMq (by decide) (by decide) bl0 (qMq (by decide) (by decide) bl0 (gNum hx bl0 (zBi hi _) (gOp hi bl0 (gNum hy bl0 (by kernel_rfl) (qMq (by decide) (by decide) bl0 (gOp hk bl0 (gNum hz bl0 (by kernel_rfl) (qMq (by decide) (by decide) bl0 (qMq (by decide) (by decide) bl0 (qMq (by decide) (by decide) bl0 trivial))))))))))))
theorem goodB:qNv (hdP++pcsB i k x y z):=
 gHd (qMq (by decide) (by decide) bl0 (qMq (by decide) (by decide) bl0 (gNum hx bl0 (zBi hi _) (gOp hi bl0 (qMq (by decide) (by decide) bl0 (gNum hy bl0 (zBi hk _) (gOp hk bl0 (gNum hz bl0 (by kernel_rfl) (qMq (by decide) (by decide) bl0 (qMq (by decide) (by decide) bl0 (qMq (by decide) (by decide) bl0 (qMq (by decide) (by decide) bl0 trivial))))))))))))
end
def qRi(x:Int):Core:=(2,⟨#[]⟩,x)
def qXy(i:Nat):Core:=(4,opQ i,0)
def hdC:List Core:=hdP.map fun p=>qMx p.1
def csS(s:List UInt8):Core:=(4,⟨⟨s⟩⟩,0)
def cs1(i k:Nat)(x y z:Int):List Core:=hdC++[qRi x,qXy i,qRi y,qXy k,qRi z,csS [59],(5,⟨#[]⟩,0)]
def csA(i k:Nat)(x y z:Int):List Core:=hdC++[csS [40],csS [40],csS [40],qRi x,qXy i,qRi y,csS [41],qXy k,qRi z,csS [41],csS [41],csS [59],(5,⟨#[]⟩,0)]
def csB(i k:Nat)(x y z:Int):List Core:=hdC++[csS [40],csS [40],qRi x,qXy i,csS [40],qRi y,qXy k,qRi z,csS [41],csS [41],csS [41],csS [59],(5,⟨#[]⟩,0)]
theorem qOl{n:Nat}(hn:n≤65535):qMx (nmC n)=qRi (n:Int):=by
 unfold qMx nmC qRi
 rw[if_pos rfl,if_pos rfl,qYa n (by omega)]
theorem qTg{i:Nat}(hi:i<7):qMx (opC' i)=qXy i:=by
 rcases(by omega:i=0∨i=1∨i=2∨i=3∨i=4∨i=5∨i=6) with rfl|rfl|rfl|rfl|rfl|rfl|rfl<;>kernel_rfl
theorem file1{i k:Nat}(hi:i<7)(hk:k<7)(hl:¬(5≤i∧5≤k))(x y z:Int)(o:Nat→Int):qSi (mkT (cs1 i k x y z) 0 o)= .inr (srcQ i k x y z):=by
 rcases(by omega:i=0∨i=1∨i=2∨i=3∨i=4∨i=5∨i=6) with rfl|rfl|rfl|rfl|rfl|rfl|rfl<;>
 rcases(by omega:k=0∨k=1∨k=2∨k=3∨k=4∨k=5∨k=6) with rfl|rfl|rfl|rfl|rfl|rfl|rfl<;>
 first
 |exact absurd ⟨by decide,by decide⟩ hl
 |kernel_rfl
theorem fileA{i k:Nat}(hi:i<7)(hk:k<7)(hl:¬(5≤i∧5≤k))(h:levQ k≤levQ i)(x y z:Int)(o:Nat→Int):qSi (mkT (csA i k x y z) 0 o)= .inr (srcQ i k x y z):=by
 rcases(by omega:i=0∨i=1∨i=2∨i=3∨i=4∨i=5∨i=6) with rfl|rfl|rfl|rfl|rfl|rfl|rfl<;>
 rcases(by omega:k=0∨k=1∨k=2∨k=3∨k=4∨k=5∨k=6) with rfl|rfl|rfl|rfl|rfl|rfl|rfl<;>
 first
 |exact absurd h (by decide)
 |exact absurd ⟨by decide,by decide⟩ hl
 |kernel_rfl
theorem fileB{i k:Nat}(hi:i<7)(hk:k<7)(h:¬levQ k≤levQ i)(x y z:Int)(o:Nat→Int):qSi (mkT (csB i k x y z) 0 o)= .inr (srcQ i k x y z):=by
 rcases(by omega:i=0∨i=1∨i=2∨i=3∨i=4∨i=5∨i=6) with rfl|rfl|rfl|rfl|rfl|rfl|rfl<;>
 rcases(by omega:k=0∨k=1∨k=2∨k=3∨k=4∨k=5∨k=6) with rfl|rfl|rfl|rfl|rfl|rfl|rfl<;>
 first
 |exact absurd (by decide) h
 |kernel_rfl
theorem qLl{n:Nat}(h:n≤65535):(Lib.decDigits n).length≤5:=qPk 4 n (by omega)
theorem qVz{i:Nat}(h:i<7):(opQ i).data.toList.length≤2:=by
 have:=(qQc ⟨i,h⟩).2.2.2
 simpa using this
theorem qUc{ps:List Pc}{cs:List Core}{f:Sr}(hl:(qFu ps).length≤16384)(hg:qNv ps)(hc:ps.map (fun p=>qMx p.1)++[(5,⟨#[]⟩,0)]=cs)(hf:∀o,qSi (mkT cs 0 o)= .inr f):qJq ⟨⟨qFu ps⟩⟩=(f,0,0):=by
 obtain⟨ts,t1,t2⟩:=qUd hl hg
 obtain⟨o,ho⟩:=mkT_ex (t2.trans hc)
 unfold qJq
 rw[t1]
 simp only
 rw[if_neg (by decide),ho,hf]
section
variable {i k x y z:Nat} (hi:i<7) (hk:k<7) (hx:x≤65535) (hy:y≤65535) (hz:z≤65535) (hl:¬(5≤i∧5≤k))
include hi hk hx hy hz
theorem lenQ1:(qFu (hdP++pcs1 i k x y z)).length≤16384:=by
 have:=qLl hx;have:=qLl hy;have:=qLl hz;have:=qVz hi;have:=qVz hk
 simp only[hdP,pcs1,nmC,opC',k7,jX,qFu,qFa (show(1:Int)≠3 by decide),qFa (show(2:Int)≠3 by decide),qFa (show(4:Int)≠3 by decide),jA,jC,jF]
 omega
theorem lenA:(qFu (hdP++pcsA i k x y z)).length≤16384:=by
 have:=qLl hx;have:=qLl hy;have:=qLl hz;have:=qVz hi;have:=qVz hk
 simp only[hdP,pcsA,nmC,opC',k7,jX,qFu,qFa (show(1:Int)≠3 by decide),qFa (show(2:Int)≠3 by decide),qFa (show(4:Int)≠3 by decide),jA,jC,jF]
 omega
theorem lenB:(qFu (hdP++pcsB i k x y z)).length≤16384:=by
 have:=qLl hx;have:=qLl hy;have:=qLl hz;have:=qVz hi;have:=qVz hk
 simp only[hdP,pcsB,nmC,opC',k7,jX,qFu,qFa (show(1:Int)≠3 by decide),qFa (show(2:Int)≠3 by decide),qFa (show(4:Int)≠3 by decide),jA,jC,jF]
 omega
include hl
theorem parse1:qJq ⟨⟨qFu (hdP++pcs1 i k x y z)⟩⟩=(srcQ i k x y z,0,0):=
 qUc (lenQ1 hi hk hx hy hz) (good1 hi hk hx hy hz) (cs:=cs1 i k x y z) (by
  simp only[pcs1,kZ,jN,fJ,qOl hx,qOl hy,qOl hz,qTg hi,qTg hk];rfl) fun o=>file1 hi hk hl _ _ _ o
theorem parseA(h:levQ k≤levQ i):qJq ⟨⟨qFu (hdP++pcsA i k x y z)⟩⟩=(srcQ i k x y z,0,0):=
 qUc (lenA hi hk hx hy hz) (goodA hi hk hx hy hz) (cs:=csA i k x y z) (by
  simp only[pcsA,kZ,jN,fJ,qOl hx,qOl hy,qOl hz,qTg hi,qTg hk];rfl) fun o=>fileA hi hk hl h _ _ _ o
omit hl
theorem parseB(h:¬levQ k≤levQ i):qJq ⟨⟨qFu (hdP++pcsB i k x y z)⟩⟩=(srcQ i k x y z,0,0):=
 qUc (lenB hi hk hx hy hz) (goodB hi hk hx hy hz) (cs:=csB i k x y z) (by
  simp only[pcsB,kZ,jN,fJ,qOl hx,qOl hy,qOl hz,qTg hi,qTg hk];rfl) fun o=>fileB hi hk h _ _ _ o
end
def badT(i k:Nat):ByteArray:=((((⟨#[112,97,99,107,97,103,101,32,112,59,32,116,101,115,116,32,116,32,61,32,49,32]⟩:ByteArray)++opQ i)++(⟨#[32,50,32]⟩:ByteArray))++opQ k)++(⟨#[32,51,59]⟩:ByteArray)
theorem zCo{i k:Nat}(hi:i<7)(hk:k<7)(hl:5≤i∧5≤k):(qJq (badT i k)).2.2=9:=by
 rcases(by omega:i=5∨i=6) with rfl|rfl<;>rcases(by omega:k=5∨k=6) with rfl|rfl<;>kernel_rfl
end
section
open Go Go.Dc Go.Proofs
def awT:ByteArray:=⟨#[112,97,99,107,97,103,101,32,112,59,32,102,117,110,99,32,102,40,120,41,32,61,32,120,32,43,32,50,32,42,32,51,59]⟩
def awS:ByteArray:=⟨#[112,97,99,107,97,103,101,32,112,59,10,102,117,110,99,32,102,40,120,41,32,61,32,120,32,43,32,50,32,42,32,51,59,10]⟩
def awD(a b:Int):Dl:=(1,⟨#[102]⟩,[⟨#[120]⟩],[(2,0,0,emB,[]),(1,a,0,emB,[]),(1,b,0,emB,[]),(4,0,3,emB,[1,2]),(4,0,1,emB,[0,3])])
def awL:Sr:=(⟨#[112]⟩,[],[awD 2 3])
theorem aw_p:qJq awT=(awL,0,0):=by kernel_rfl
theorem zEt:qJx awL=0:=by kernel_rfl
theorem aw_sm:SmSr awL:=by
 refine⟨by show 0<2000000;decide,by show 1<2000000;decide,fun d hd=> ?_⟩
 have hd:d=awD 2 3:=jW.1 hd
 subst hd
 refine⟨by show(1:Nat)≤1048576;decide,by show 1<2000000;decide,by show 5<2000000;decide,fun e he=> ?_⟩
 have he:e∈[((2,0,0,emB,[]):Ex),(1,2,0,emB,[]),(1,3,0,emB,[]),(4,0,3,emB,[1,2]),(4,0,1,emB,[0,3])]:=he
 simp only[jQ,kO,fX] at he
 rcases he with rfl|rfl|rfl|rfl|rfl<;>exact⟨by show 0≤1048576;decide,by decide⟩
theorem aw_w(a b:Int):wrD (awD a b)=[120]++([32,43,32]++(Lib.itoa a++([32,42,32]++Lib.itoa b)))∧depD (awD a b)=1:=⟨by kernel_rfl,by kernel_rfl⟩
theorem qYv{n:Nat}(h:n<10):Lib.itoa (n:Int)=[UInt8.ofNat (48+n)]:=by
 rw[←Lib.decDigits_one h,←qIh]
 rfl
theorem aw_f:qOc awL=(awS,0):=by
 have e2:Lib.itoa 2=[50]:=qYv (n:=2) (by decide)
 have e3:Lib.itoa 3=[51]:=qYv (n:=3) (by decide)
 have hd:(awL.2.2.any fun d=>decide (32<depD d))=false:=by
  show(decide (32<depD (awD 2 3))||false)=false
  rw[(aw_w 2 3).2];rfl
 have ht:fmtT awL=awS.data.toList:=by
  have h1:wrD (awD 2 3)=[120,32,43,32,50,32,42,32,51]:=by rw[(aw_w 2 3).1,e2,e3];rfl
  have h4:qNr (awD 2 3)=[102,117,110,99,32,102,40,120,41,32,61,32,120,32,43,32,50,32,42,32,51,59,10]:=by
   unfold qNr
   rw[h1]
   rfl
  show(pkgT ⟨#[112]⟩++([]:List ByteArray).flatMap impT)++[awD 2 3].flatMap qNr=_
  simp only[gP,List.flatMap_nil,kQ,h4]
  rfl
 unfold qOc
 rw[if_neg (by rw[hd];decide),ht,if_neg (by show ¬16384<34;decide)]
 rfl
theorem aw_i0:idx awL.2.2 0=some (awD 2 3):=rfl
theorem aw_i1:idx (awD 2 3).2.2.2 4=some ((4,0,1,⟨#[]⟩,[0,3]):Ex):=rfl
theorem qBu{α β:Type}{x:Option α}{v:α}{f:α→Option β}{r:Option β}(h:x=some v)(h2:f v=r):Option.bind x f=r:=by
 subst h;exact h2
theorem aw_true{N:Nat}(hN:3000000<N):qDv N=some true:=by
 have h1:qEb N awT=some (awL,0,0):=by rw[qQe _ (by omega),aw_p]
 have h2:qEg N awL=some (awS,0):=by
  have h:qEg N awL=_:=qSy aw_sm (fun _ d hd _=>by
   have hd:d=awD 2 3:=jW.1 hd
   subst hd
   exact zDx (jM 1)) hN
  rw[h,if_pos zEt,aw_f]
 have h3:qGg N awL=some 0:=by
  have h:qGg N awL=_:=qVr aw_sm hN
  rw[h,zEt]
 unfold qDv
 refine qBu h1 ?_
 refine qBu h2 ?_
 refine qBu (v:=true) ?_ rfl
 refine Eq.trans (if_pos rfl) (Eq.trans (if_pos rfl) (Eq.trans (if_pos rfl) (Eq.trans (if_pos rfl) ?_)))
 refine qBu aw_i0 ?_
 refine Eq.trans (if_pos rfl) ?_
 refine qBu aw_i0 ?_
 refine qBu aw_i1 ?_
 refine Eq.trans (if_pos rfl) ?_
 refine Eq.trans (if_pos (kS awS.toList)) ?_
 refine qBu h3 ?_
 rfl
def outB(x:ByteArray):ByteArray:=((⟨#[112,97,99,107,97,103,101,32,112,59,10,116,101,115,116,32,116,32,61,32]⟩:ByteArray)++x)++(⟨#[59,10]⟩:ByteArray)
theorem fmtQ{i k x y z:Nat}(hi:i<7)(hk:k<7)(hl:¬(5≤i∧5≤k))(hx:x≤65535)(hy:y≤65535)(hz:z≤65535){p:ByteArray}(hp:p.data.toList=txtQ i k x y z):qOc (srcQ i k x y z)=(outB p,0):=by
 obtain⟨w1,w2⟩:=wrQ hi hk hl x y z
 have hd:((srcQ i k x y z).2.2.any fun d=>decide (32<depD d))=false:=by
  show(decide (32<depD (decQ i k x y z))||false)=false
  rw[w2];rfl
 have hs:∀l:List UInt8,(qIx l).data.toList=l:=fun l=>rfl
 have ht:fmtT (srcQ i k x y z)=(outB p).data.toList:=by
  show(pkgT ⟨#[112]⟩++([]:List ByteArray).flatMap impT)++[decQ i k x y z].flatMap qNr=_
  simp only[gP,List.flatMap_nil,kQ]
  unfold qNr
  rw[w1,←hp]
  have hh:qXd (decQ i k x y z)=⟨#[116,101,115,116,32,116]⟩:=by
   unfold qXd
   rw[if_neg (by show ¬(2:Int)=1;decide),if_pos (by show(2:Int)=2;rfl)]
   rfl
  rw[hh]
  unfold outB pkgT
  simp only[qHm,hs]
  rfl
 have hlen:p.data.toList.length≤100:=by
  have:=qLl hx;have:=qLl hy;have:=qLl hz;have:=qVz hi;have:=qVz hk
  have ei:∀n:Nat,Lib.itoa (n:Int)=Lib.decDigits n:=fun n=>by rw[←qIh];rfl
  have es:∀j,j<7→(sgT j).length≤4:=fun j hj=>by
   rcases(by omega:j=0∨j=1∨j=2∨j=3∨j=4∨j=5∨j=6) with rfl|rfl|rfl|rfl|rfl|rfl|rfl<;>decide+kernel
  have:=es i hi;have:=es k hk
  rw[hp];unfold txtQ
  simp only[ei,jA]
  omega
 unfold qOc
 rw[if_neg (by rw[hd];decide),ht,if_neg (by
  unfold outB
  simp only[qHm,jA]
  show ¬16384<20+p.data.toList.length+2
  omega)]
 rfl
end
section
open Go Go.Dc Go.Proofs
def hdB:ByteArray:=⟨#[112,97,99,107,97,103,101,32,112,59,32,116,101,115,116,32,116,32,61,32]⟩
def hd2:ByteArray:=⟨#[112,97,99,107,97,103,101,32,112,59,32,116,101,115,116,32,116,32,61,32,40,40]⟩
def inB(x:ByteArray):ByteArray:=(hdB++x)++(⟨#[59]⟩:ByteArray)
def in2(x:ByteArray):ByteArray:=(hd2++x)++(⟨#[41,41,59]⟩:ByteArray)
theorem qRc{N:Nat}{s12 o3:ByteArray}{f:Sr}(hN:3000000<N)(h1:s12.size≤100)(h2:o3.size≤100)(p1:qJq (inB s12)=(f,0,0))(p2:qJq (in2 o3)=(f,0,0))(hc:qJx f=0)(hm:SmSr f)(hj:∀d∈f.2.2,d.1=1→qFw N d.2.2.1 (⟨#[44,32]⟩:ByteArray)=some (qVu d.2.2.1))(hf:qOc f=(outB s12,0)):
  ((catB (⟨#[112,97,99,107,97,103,101,32,112,59,32,116,101,115,116,32,116,32,61,32]⟩:ByteArray) s12).bind fun s25=>(catB s25 (⟨#[59]⟩:ByteArray)).bind fun s26=>(qEb N s26).bind fun y6=>(catB (⟨#[112,97,99,107,97,103,101,32,112,59,32,116,101,115,116,32,116,32,61,32,40,40]⟩:ByteArray) o3).bind fun s27=>(catB s27 (⟨#[41,41,59]⟩:ByteArray)).bind fun s28=>(qEb N s28).bind fun y7=>(qEg N y7.1).bind fun y8=>(if(y6.2.2==0)=true then(if(y7.2.2==0)=true then(if(y8.2==0)=true then((qFl N y6.1 y7.1).bind fun y9=>if y9=true then((catB (⟨#[112,97,99,107,97,103,101,32,112,59,10,116,101,115,116,32,116,32,61,32]⟩:ByteArray) s12).bind fun s29=>(catB s29 (⟨#[59,10]⟩:ByteArray)).bind fun s30=>if(y8.1.toList==s30.toList)=true then((qDv N).bind fun y10=>some y10) else(some false)) else(some false)) else(some false)) else(some false)) else(some false):Option (Bool)).bind fun o4=>some o4)=some true:=by
 have z1:hdB.size=20:=rfl
 have z2:hd2.size=22:=rfl
 have z3:(⟨#[59]⟩:ByteArray).size=1:=rfl
 have z4:(⟨#[41,41,59]⟩:ByteArray).size=3:=rfl
 have z5:(⟨#[112,97,99,107,97,103,101,32,112,59,10,116,101,115,116,32,116,32,61,32]⟩:ByteArray).size=20:=rfl
 have z6:(⟨#[59,10]⟩:ByteArray).size=2:=rfl
 have q1:qEb N (inB s12)=some (f,0,0):=by rw[qQe _ (by omega),p1]
 have q2:qEb N (in2 o3)=some (f,0,0):=by rw[qQe _ (by omega),p2]
 have q3:qEg N f=some (outB s12,0):=by
  have h:qEg N f=_:=qSy hm (fun _=>hj) hN
  rw[h,if_pos hc,hf]
 have hok:okSr f:=by have:=zCf (inB s12);rw[p1] at this;exact this
 refine qBu (v:=hdB++s12) (catW (x:=hdB) (by omega)) ?_
 refine qBu (v:=inB s12) (catW (by rw[ByteArray.size_append];omega)) ?_
 refine qBu q1 ?_
 refine qBu (v:=hd2++o3) (catW (x:=hd2) (by omega)) ?_
 refine qBu (v:=in2 o3) (catW (by rw[ByteArray.size_append];omega)) ?_
 refine qBu q2 ?_
 refine qBu q3 ?_
 refine qBu (v:=true) ?_ rfl
 refine Eq.trans (if_pos rfl) (Eq.trans (if_pos rfl) (Eq.trans (if_pos rfl) ?_))
 refine qBu (qVh hok (by omega)) ?_
 refine Eq.trans (if_pos rfl) ?_
 refine qBu (catW (by omega)) ?_
 refine qBu (v:=outB s12) (catW (by rw[ByteArray.size_append];omega)) ?_
 refine Eq.trans (if_pos (kS (outB s12).toList)) ?_
 refine qBu (aw_true hN) ?_
 rfl
theorem qXx{p:Int}(h:(Lit.int .u16 p).wf=true):∃n:Nat,p=(n:Int)∧n≤65535:=by
 simp[Lit.wf,IntKind.min,IntKind.max,IntKind.signed,IntKind.bits] at h
 exact⟨p.toNat,by omega,by omega⟩
theorem zFe{p:Int}(h:(Lit.int .u8 p).wf=true):∃i:Nat,IntKind.wrap .i64 (Int.tmod p 7)=(i:Int)∧i<7:=by
 simp[Lit.wf,IntKind.min,IntKind.max,IntKind.signed,IntKind.bits] at h
 refine⟨(p%7).toNat,?_,by omega⟩
 rw[Int.tmod_eq_emod_of_nonneg (by omega),wi64 (by omega) (by omega)];omega
theorem qZi{i:Nat}(h:i<7):(levQ i==1)=decide (5≤i):=by
 rcases(by omega:i=0∨i=1∨i=2∨i=3∨i=4∨i=5∨i=6) with rfl|rfl|rfl|rfl|rfl|rfl|rfl<;>rfl
theorem qOq(c:Int)(l:List UInt8)(h:c≠3):qIw (c,l)=l:=qFa h
theorem zBe{N:Nat}(hN:3000000<N){p0 p1:Int}{i k x y z:Nat}(wi:IntKind.wrap .i64 (Int.tmod p0 7)=(i:Int))(hi:i<7)(wk:IntKind.wrap .i64 (Int.tmod p1 7)=(k:Int))(hk:k<7)(hx:x≤65535)(hy:y≤65535)(hz:z≤65535):qDk N p0 p1 (x:Int) (y:Int) (z:Int)=some true:=by
 have l1:idx [(2:Int),2,3,3,3,1,1] (i:Int)=some (levQ i):=qYu hi
 have l2:idx [(2:Int),2,3,3,3,1,1] (k:Int)=some (levQ k):=qYu hk
 have o1:idx [(⟨#[43]⟩:ByteArray),(⟨#[45]⟩:ByteArray),(⟨#[42]⟩:ByteArray),(⟨#[47]⟩:ByteArray),(⟨#[37]⟩:ByteArray),(⟨#[60]⟩:ByteArray),(⟨#[61,61]⟩:ByteArray)] (i:Int)=some (opQ i):=zBy hi
 have o2:idx [(⟨#[43]⟩:ByteArray),(⟨#[45]⟩:ByteArray),(⟨#[42]⟩:ByteArray),(⟨#[47]⟩:ByteArray),(⟨#[37]⟩:ByteArray),(⟨#[60]⟩:ByteArray),(⟨#[61,61]⟩:ByteArray)] (k:Int)=some (opQ k):=zBy hk
 have si:(opQ i).size≤2:=(qQc ⟨i,hi⟩).2.2.2
 have sk:(opQ k).size≤2:=(qQc ⟨k,hk⟩).2.2.2
 have zd:∀{n:Nat},n≤65535→(itB (n:Int)).size≤5:=fun {n} h=>by
  have:=qLl h
  rw[←qIh] at this
  simpa using this
 have sx:=zd hx
 have sy:=zd hy
 have sz:=zd hz
 have a1:(⟨#[112,97,99,107,97,103,101,32,112,59,32,116,101,115,116,32,116,32,61,32,49,32]⟩:ByteArray).size=22:=rfl
 have a2:(⟨#[32,50,32]⟩:ByteArray).size=3:=rfl
 have a3:(⟨#[32,51,59]⟩:ByteArray).size=3:=rfl
 have a4:(⟨#[32]⟩:ByteArray).size=1:=rfl
 have a5:(⟨#[40]⟩:ByteArray).size=1:=rfl
 have a6:(⟨#[41]⟩:ByteArray).size=1:=rfl
 unfold qDk
 rw[wi,wk,l1,l2,o1,o2]
 simp only[j0,qZi hi,qZi hk]
 by_cases hl:5≤i∧5≤k
 ·refine qBu (v:=true) ?_ ?_
  ·rw[if_pos (by simpa using hl.1),kC hl.2]
  refine Eq.trans (if_pos rfl) ?_
  refine qBu (catW (by omega)) ?_
  refine qBu (catW (by rw[ByteArray.size_append];omega)) ?_
  refine qBu (catW (by rw[ByteArray.size_append,ByteArray.size_append];omega)) ?_
  refine qBu (v:=badT i k) (catW (by simp only[ByteArray.size_append];omega)) ?_
  refine qBu (qQe _ (by omega)) ?_
  refine qBu (v:=true) ?_ rfl
  refine Eq.trans (if_pos (by rw[zCo hi hk hl];rfl)) ?_
  refine qBu (aw_true hN) ?_
  rfl
 ·refine qBu (v:=false) ?_ ?_
  ·by_cases h5:5≤i
   ·rw[if_pos (by simpa using h5),kK (fun h=>hl ⟨h5,h⟩)]
   ·rw[if_neg (by simpa using h5)]
  refine Eq.trans (if_neg (by decide)) ?_
  rw[wi64 (by omega) (by omega),wi64 (by omega) (by omega),wi64 (by omega) (by omega)]
  refine qBu (qNu (by omega) (by omega)) ?_
  refine qBu (qNu (by omega) (by omega)) ?_
  refine qBu (qNu (by omega) (by omega)) ?_
  refine qBu (catW (by omega)) ?_
  refine qBu (catW (by simp only[ByteArray.size_append];omega)) ?_
  refine qBu (catW (by simp only[ByteArray.size_append];omega)) ?_
  refine qBu (catW (by simp only[ByteArray.size_append];omega)) ?_
  refine qBu (catW (by simp only[ByteArray.size_append];omega)) ?_
  refine qBu (catW (by simp only[ByteArray.size_append];omega)) ?_
  refine qBu (catW (by simp only[ByteArray.size_append];omega)) ?_
  refine qBu (catW (by simp only[ByteArray.size_append];omega)) ?_
  refine qBu (catW (by omega)) ?_
  refine qBu (catW (by simp only[ByteArray.size_append];omega)) ?_
  refine qBu (catW (by simp only[ByteArray.size_append];omega)) ?_
  refine qBu (catW (by simp only[ByteArray.size_append];omega)) ?_
  refine qBu (catW (by simp only[ByteArray.size_append];omega)) ?_
  refine qBu (catW (by simp only[ByteArray.size_append];omega)) ?_
  obtain⟨hc,hm⟩:=qZs hi hk (x:=(x:Int)) (y:=(y:Int)) (z:=(z:Int)) ⟨by omega,by omega⟩ ⟨by omega,by omega⟩ ⟨by omega,by omega⟩
  have hj:∀d∈(srcQ i k x y z).2.2,d.1=1→qFw N d.2.2.1 (⟨#[44,32]⟩:ByteArray)=some (qVu d.2.2.1):=fun d hd h1=>by
   have hd:d=decQ i k x y z:=jW.1 hd
   rw[hd] at h1
   exact absurd h1 (by show ¬(2:Int)=1;decide)
  have ei:∀n:Nat,(itB (n:Int)).data.toList=Lib.itoa (n:Int):=fun n=>rfl
  have pp:qJq (inB ((((((((itB (x:Int)++(⟨#[32]⟩:ByteArray))++opQ i)++(⟨#[32]⟩:ByteArray))++itB (y:Int))++(⟨#[32]⟩:ByteArray))++opQ k)++(⟨#[32]⟩:ByteArray))++itB (z:Int)))=(srcQ i k x y z,0,0):=by
   refine Eq.trans (congrArg qJq (qSk ?_)) (parse1 hi hk hx hy hz hl)
   simp only[inB,qHm,qIh]
   simp only[hdP,pcs1,nmC,opC',k7,jX,qFu,qOq 1 _ (by decide),qOq 2 _ (by decide),qOq 4 _ (by decide),jJ,kQ]
   rfl
  have pt:((((((((itB (x:Int)++(⟨#[32]⟩:ByteArray))++opQ i)++(⟨#[32]⟩:ByteArray))++itB (y:Int))++(⟨#[32]⟩:ByteArray))++opQ k)++(⟨#[32]⟩:ByteArray))++itB (z:Int)).data.toList=txtQ i k x y z:=by
   have es:∀{j:Nat},j<7→sgT j=[32]++((opQ j).data.toList++[32]):=fun {j} hj=>by
    rcases(by omega:j=0∨j=1∨j=2∨j=3∨j=4∨j=5∨j=6) with rfl|rfl|rfl|rfl|rfl|rfl|rfl<;>kernel_rfl
   unfold txtQ
   rw[es hi,es hk]
   simp only[qHm,ei,jJ]
  by_cases h:levQ k≤levQ i
  ·refine qBu (v:=((((((⟨#[40]⟩:ByteArray)++itB (x:Int))++opQ i)++itB (y:Int))++(⟨#[41]⟩:ByteArray))++opQ k)++itB (z:Int)) (if_neg (by simp only[j9];omega)) ?_
   refine qRc hN (by simp only[ByteArray.size_append];omega) (by simp only[ByteArray.size_append];omega) pp ?_ hc hm hj (fmtQ hi hk hl hx hy hz pt)
   refine Eq.trans (congrArg qJq (qSk ?_)) (parseA hi hk hx hy hz hl h)
   simp only[in2,qHm,qIh]
   simp only[hdP,pcsA,nmC,opC',k7,jX,qFu,qOq 1 _ (by decide),qOq 2 _ (by decide),qOq 4 _ (by decide),jJ,kQ]
   rfl
  ·refine qBu (v:=((((((itB (x:Int)++opQ i)++(⟨#[40]⟩:ByteArray))++itB (y:Int))++opQ k)++itB (z:Int))++(⟨#[41]⟩:ByteArray))) ?_ ?_
   ·refine Eq.trans (if_pos (by simp only[j9];omega)) ?_
    refine qBu (catW (by omega)) ?_
    refine qBu (catW (by simp only[ByteArray.size_append];omega)) ?_
    refine qBu (catW (by simp only[ByteArray.size_append];omega)) ?_
    refine qBu (catW (by simp only[ByteArray.size_append];omega)) ?_
    refine qBu (catW (by simp only[ByteArray.size_append];omega)) ?_
    refine qBu (catW (by simp only[ByteArray.size_append];omega)) ?_
    rfl
   refine qRc hN (by simp only[ByteArray.size_append];omega) (by simp only[ByteArray.size_append];omega) pp ?_ hc hm hj (fmtQ hi hk hl hx hy hz pt)
   refine Eq.trans (congrArg qJq (qSk ?_)) (parseB hi hk hx hy hz h)
   simp only[in2,qHm,qIh]
   simp only[hdP,pcsB,nmC,opC',k7,jX,qFu,qOq 1 _ (by decide),qOq 2 _ (by decide),qOq 4 _ (by decide),jJ,kQ]
   rfl
theorem testgatelaw05_SourceParens_true(p0:Int)(g0:(Lit.int .u8 p0).wf=true)(p1:Int)(g1:(Lit.int .u8 p1).wf=true)(p2:Int)(g2:(Lit.int .u16 p2).wf=true)(p3:Int)(g3:(Lit.int .u16 p3).wf=true)(p4:Int)(g4:(Lit.int .u16 p4).wf=true):∃N,qDk N p0 p1 p2 p3 p4=some true:=by
 obtain⟨i,wi,hi⟩:=zFe g0
 obtain⟨k,wk,hk⟩:=zFe g1
 obtain⟨x,rfl,hx⟩:=qXx g2
 obtain⟨y,rfl,hy⟩:=qXx g3
 obtain⟨z,rfl,hz⟩:=qXx g4
 exact⟨3000001,zBe (by decide) wi hi wk hk hx hy hz⟩
end
end Go.Proofs.YtcdpbapbpcpflaaGreatDoor
