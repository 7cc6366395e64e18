/- No condition but those of each theorem. -/
import Derived.Test.YtiblcebedkllpaaGreatDoorProg
import Derived.WalkKit
import Derived.Deep.LoopGhost
import Derived.KernelRfl
import Derived.OrdersHeld
import Derived.OrdersIn
import Derived.LoopNIn
import Derived.Sort.LoopGhostIn
import Derived.Laws.AppendOwn
import Derived.RangeFuncLeaves
import Derived.RangeFuncRecord
import Derived.MapKept
import Derived.Maps.RangeRun
import Derived.ChangeKeysEq
import Derived.HandedShaped
import Derived.ChangeStays
import Derived.ChangeSame
import Derived.OpenShut
import Derived.WideShapes
import Derived.JoinedOf
import Derived.ReadAgain
import Derived.ChangeAt
import Derived.RowKit
import Derived.Lib.Overlaps
import Derived.Shelf.SlSortCmp.NoneTotal
import Derived.WalkSmall
import Derived.Recover
import Derived.Test.YtiblcebedkllpaaGreatDoorRows
import Derived.Lib.Bytealg
import Derived.Test.YtiblcebedkllpaaGreatDoorK3i1
namespace Go.Proofs.YtiblcebedkllpaaGreatDoor
section
open Go Go.Dc Go.Sort Go.Proofs
def addP(x:Ixx)(c:Rcd):Ixx×Int:=if qFo x=true then(if x.2=512 then(qGv,2) else if qJs c=true then(qEh x c,0) else(qGv,1)) else(qGv,1)
theorem zDp{N:Nat}(hN:3000000<N){x:Ixx}{c:Rcd}(hx:SmallX x)(hc:BigR c):
  qHu N (x.1,x.2) ((c.1.1,c.1.2),c.2.1,c.2.2.1,c.2.2.2.1,(c.2.2.2.2.1.1,c.2.2.2.2.1.2.1,c.2.2.2.2.1.2.2),c.2.2.2.2.2.1,c.2.2.2.2.2.2)=some (addP x c):=by
 have h1:=qMm hN hx
 simp only[qHu]
 rw[show qDd N (x.1,x.2)=some (qFo x) from h1]
 unfold addP
 cases hck:qFo x with
 |false=>rfl
 |true=>
  have hw:=qFf.1 hck
  have hcl:=hc.1
  simp only[j0,jQ,j7,jC,jH]
  by_cases h5:x.2=512
  ·rw[if_pos (by simp[h5]),if_pos h5];rfl
  ·rw[if_neg (by simpa using h5),if_neg h5]
   rw[show qHe N ((c.1.1,c.1.2),c.2.1,c.2.2.1,c.2.2.2.1,(c.2.2.2.2.1.1,c.2.2.2.2.1.2.1,c.2.2.2.2.1.2.2),c.2.2.2.2.2.1,c.2.2.2.2.2.2)=some (qJs c) from qVs hN hc]
   simp only[j0]
   by_cases hwc:qJs c=true
   ·rw[if_neg (by simp[hwc]),if_pos hwc]
    rw[show qGw N (x.1,x.2) ((c.1.1,c.1.2),c.2.1,c.2.2.1,c.2.2.2.1,(c.2.2.2.2.1.1,c.2.2.2.2.1.2.1,c.2.2.2.2.1.2.2),c.2.2.2.2.2.1,c.2.2.2.2.2.2)=some (qEh x c) from
     qXy (x:=x) (c:=c) hN (by omega) (by have:=hx.1;omega) (fun p hp=>by have:=(hx.2 p hp).2;omega) hw.1]
    rfl
   ·rw[if_pos (by simpa using hwc),if_neg hwc];rfl
theorem qRd{N:Nat}{x:Ixx}(hx:x.1.length≤1048576):∀(d i M:Nat) (S:List Ky),i+d=x.1.length→d<M→S.length≤i→qAl (qDu N x) M (S,(i:Int))=some (S++(x.1.drop i).map (·.1))
 |_,_,0,_,_,h,_=>absurd h (jN _)
 |d,i,M+1,S,h1,h2,h3=>by
  simp only[qAl,qDu]
  cases d with
  |zero=>
   have hc:¬((i:Int)<(x.1.length:Int)):=by omega
   simp only[hc,decide_false,j7,jC,j0]
   rw[jJ (by omega)];simp
  |succ d=>
   have hi:i<x.1.length:=by omega
   have hc:((i:Int)<(x.1.length:Int)):=by omega
   have w2:IntKind.wrap .i64 ((i:Int)+1)=((i+1:Nat):Int):=by rw[wi64 (by omega) (by omega)];omega
   have hdrop:x.1.drop i=x.1[i]::x.1.drop (i+1):=(jI hi).symm
   simp only[hc,decide_true,jH,qBn hi,j0]
   rw[qBo (by simp only[j8,jB];omega) (by decide)]
   simp only[j0,w2]
   rw[qRd hx d (i+1) M _ (by omega) (by omega) (by simp only[jG,j8,jB];omega),hdrop,jR,jY];rfl
def addF(x:Ixx)(c:Rcd)(k:Ky):List Int:=qBx x.1 k++(if k∈qBg c then[x.2] else[])
theorem qRm{N:Nat}(hN:3000000<N){x:Ixx}(hx:SmallX x)(hck:qFo x=true){c:Rcd}(hc:BigR c){K:List Ky}(hK:K.length≤2900000):∀(d i M:Nat) (S:List Pst),i+d=K.length→d<M→S.length≤i→
  qAl (qDt N x c K) M ((i:Int),S)=some (S++qNf (addF x c) (K.drop i))
 |_,_,0,_,_,h,_=>absurd h (jN _)
 |d,i,M+1,S,h1,h2,h3=>by
  simp only[qAl,qDt]
  cases d with
  |zero=>
   have hc:¬((i:Int)<(K.length:Int)):=by omega
   simp only[hc,decide_false,j7,jC,j0]
   rw[jJ (by omega)];simp[qNf]
  |succ d=>
   have hi:i<K.length:=by omega
   have hc':((i:Int)<(K.length:Int)):=by omega
   have hcl:=hc.1
   have w2:IntKind.wrap .i64 ((i:Int)+1)=((i+1:Nat):Int):=by rw[wi64 (by omega) (by omega)];omega
   have hdrop:K.drop i=K[i]::K.drop (i+1):=(jI hi).symm
   have hf:=qSs (N:=N) hN (x:=x) (k:=K[i]) hx
   rw[hck,if_pos rfl] at hf
   have hlen:(qBx x.1 K[i]).length≤1048576:=qNr x.1 fun p hp=>(hx.2 p hp).2
   have ha:qAl (qFp N c K[i]) N (false,0)=some (false||decide (K[i]∈(c.2.2.2.2.2.2.drop 0).map (·.1))):=qSu (N:=N) hcl (fun _=>rfl) c.2.2.2.2.2.2.length 0 N false (by omega) (by omega)
   rw[jT,fP] at ha
   change _=some (decide (K[i]∈qBg c)) at ha
   simp only[hc',decide_true,jH,qBn hi,j0,hf]
   rw[qBo (by simp only[jB];omega) (by decide)]
   simp only[j0,jW,ha]
   have ho:(if decide (K[i]∈qBg c)=true then((qDe 8 (qBx x.1 K[i]) ([x.2])).bind fun l3=>some l3) else(some (qBx x.1 K[i])):Option (List Int))=some (addF x c K[i]):=by
    unfold addF
    by_cases hm:K[i]∈qBg c
    ·rw[if_pos (f0 hm),if_pos hm,qBo (by simp only[j8,jB];omega) (by decide)]
     rfl
    ·rw[if_neg (by simpa using hm),if_neg hm,gO]
   rw[ho]
   simp only[j0]
   rw[qBo (by simp only[j8,jB];omega) (by decide)]
   simp only[j0,w2]
   rw[qRm hN hx hck hc hK d (i+1) M _ (by omega) (by omega) (by simp only[jG,j8,jB];omega),hdrop,jR]
   rfl
theorem qNg:∀(L S:List Ky),(L.foldl insK S).length≤S.length+L.length
 |[],S=>jP _
 |k::L,S=>by
  have h1:=qNg L (insK S k);have h2:=qPe S k
  rw[kI,j8];omega
theorem qUf(c:Rcd):(c.2.2.2.2.2.2.all fun f=>qDo f.1)=qJs c:=rfl
theorem zCs{N:Nat}(hN:3000000<N){x:Ixx}{c:Rcd}(hx:SmallX x)(hc:BigR c):
  qEs N (x.1,x.2) ((c.1.1,c.1.2),c.2.1,c.2.2.1,c.2.2.2.1,(c.2.2.2.2.1.1,c.2.2.2.2.1.2.1,c.2.2.2.2.1.2.2),c.2.2.2.2.2.1,c.2.2.2.2.2.2)=some (addP x c):=by
 show qEs N x c=_
 simp only[qEs]
 rw[show qBl N (x.1,x.2)=some (qFo x) from qMn hN hx]
 unfold addP
 cases hck:qFo x with
 |false=>rfl
 |true=>
  have hw:=qFf.1 hck
  have hcl:=hc.1
  have hxl:=hx.1
  simp only[j0,jQ,j7,jC,jH]
  by_cases h5:x.2=512
  ·rw[if_pos (by simp[h5]),if_pos h5];rfl
  ·rw[if_neg (by simpa using h5),if_neg h5]
   have e1:qAl (qDu N x) N (([]:List Ky),0)=some ([]++(x.1.drop 0).map (·.1)):=qRd hxl x.1.length 0 N [] (by omega) (by omega) (jP _)
   rw[jT,jW] at e1
   have hkl:(x.1.map (·.1)).length=x.1.length:=kM ..
   have e2:=qTa (f:=qFq N c) hN hcl (fun _=>rfl) c.2.2.2.2.2.2.length 0 N (x.1.map (·.1)) (by omega) (by omega) (by omega) (by omega)
   rw[show((0:Nat):Int)=0 from rfl,jT,qPc,qUf] at e2
   simp only[e1,j0]
   rw[e2]
   by_cases hwc:qJs c=true
   ·simp only[hwc,jH,j0]
    have hfl:=qNg (qBg c) (x.1.map (·.1))
    have hrl:(qBg c).length=c.2.2.2.2.2.2.length:=kM ..
    have e3:qAl (qDt N x c ((qBg c).foldl insK (x.1.map (·.1)))) N (0,([]:List Pst))=some ([]++qNf (addF x c) (((qBg c).foldl insK (x.1.map (·.1))).drop 0)):=qRm hN hx hck hc (by omega) _ 0 N [] (kD _) (by omega) (jP _)
    rw[jT,jW] at e3
    rw[show List.map (fun x=>x.1) c.2.2.2.2.2.2=qBg c from rfl,e3]
    simp only[j0]
    have hs:qJe cK (x.1.map (·.1)):=by unfold qJe;rw[List.pairwise_map];exact hw.2.2
    have hse:=qKf (qBg c) _ hs
    have hfull:∀p∈x.1,p.2≠[]:=fun p hp=>(hw.2.1 p hp).2.1
    have key:qNf (addF x c) ((qBg c).foldl insK (x.1.map (·.1)))=(qEh x c).1:=by
     refine qWq (qXb _ hse) (qVd hw.2.2) (fun p hp=> ?_) (qRv hfull) fun k=> ?_
     ·unfold qNf at hp
      obtain⟨k,hk,rfl⟩:=kF.1 hp
      show addF x c k≠[]
      unfold addF
      rcases qKw.1 hk with hk|hk
      ·rw[if_pos hk];simp
      ·obtain⟨q,hq,rfl⟩:=kF.1 hk
       have hfp:qBx x.1 q.1=q.2:=by
        obtain⟨j,hj,hj2⟩:=List.getElem_of_mem hq
        subst hj2
        exact qSm hw.2.2 hj rfl
       rw[hfp]
       intro e
       exact hfull q hq (List.append_eq_nil_iff.1 e).1
     ·rw[qQb,qRz hw.2.2]
      by_cases hk:k∈(qBg c).foldl insK (x.1.map (·.1))
      ·rw[if_pos hk];rfl
      ·rw[if_neg hk]
       have h1:k∉qBg c:=fun h=>hk (qKw.2 (.inl h))
       have h2:qBx x.1 k=[]:=qMk fun p hp e=>hk (qKw.2 (.inr (kF.2 ⟨p,hp,e⟩)))
       rw[h2,if_neg h1];rfl
    have hxx:=hw.1
    rw[key,wi64 (by omega) (by omega)]
    rfl
   ·simp only[hwc,j7,jC,j0]
    rfl
def insA(S:List Ky):List Rcd→List Ky⊕Unit
 |[]=> .inl S
 |c::l=>match insR S c.2.2.2.2.2.2 with
  | .inl K=>insA K l
  | .inr _=> .inr ()
theorem qXw:∀(l:List Rcd) (S:List Ky),insA S l=if l.all qJs=true then .inl (l.foldl (fun S c=>(qBg c).foldl insK S) S) else .inr ()
 |[],_=>rfl
 |c::l,S=>by
  simp only[insA,qPc,qUf,kY,kI]
  by_cases h:qJs c=true
  ·simp only[h,jH,kA];exact qXw l _
  ·simp only[gQ.2 h,kO,j7,jC]
theorem qOg{N:Nat}(hN:3000000<N){l:List Rcd}(hl:l.length≤512)(hL:∀c∈l,SmallR c):∀(d i M:Nat) (S:List Ky),i+d=l.length→d<M→S.length≤1000*i→
  qAl (qCz N l) M (S,(i:Int))=some (match insA S (l.drop i) with| .inl K=> .inl K| .inr _=> .inr (([],0),1))
 |_,_,0,_,_,h,_=>absurd h (jN _)
 |d,i,M+1,S,h1,h2,h3=>by
  simp only[qAl,qCz]
  cases d with
  |zero=>
   have hc:¬((i:Int)<(l.length:Int)):=by omega
   simp only[hc,decide_false,j7,jC,j0]
   rw[jJ (by omega)];rfl
  |succ d=>
   have hi:i<l.length:=by omega
   have hc:((i:Int)<(l.length:Int)):=by omega
   have w2:IntKind.wrap .i64 ((i:Int)+1)=((i+1:Nat):Int):=by rw[wi64 (by omega) (by omega)];omega
   have hdrop:l.drop i=l[i]::l.drop (i+1):=(jI hi).symm
   have hs:=hL _ (jV hi)
   have hsl:=hs.1
   have e2:qAl (qEw N l[i]) N (S,0)=_:=qTa hN hs.big.1 (fun _=>rfl) l[i].2.2.2.2.2.2.length 0 N S (by omega) (by omega) (by omega) (by omega)
   rw[jT] at e2
   simp only[hc,decide_true,jH,qBn hi,j0]
   rw[e2,hdrop]
   simp only[insA,j0]
   have hall:=qPc l[i].2.2.2.2.2.2 S
   cases hq:insR S l[i].2.2.2.2.2.2 with
   |inr u=>rfl
   |inl K=>
    rw[hq] at hall
    have hK:K.length≤S.length+1000:=by
     split at hall
     ·simp only[Sum.inl.injEq] at hall
      subst hall
      have:=qNg (qBg l[i]) S
      have hrl:(qBg l[i]).length=l[i].2.2.2.2.2.2.length:=kM ..
      show((qBg l[i]).foldl insK S).length≤_
      omega
     ·cases hall
    simp only[w2]
    exact qOg hN hl hL d (i+1) M K (by omega) (by omega) (by omega)
theorem qMg{N:Nat}(hN:3000000<N){l:List Rcd}(hl:l.length≤512)(hL:∀c∈l,SmallR c){k:Ky}:∀(d i M:Nat) (S:List Int),i+d=l.length→d<M→S.length≤i→
  qAl (qCx N l k) M ((i:Int),S)=some (S++idxL k i (l.drop i))
 |_,_,0,_,_,h,_=>absurd h (jN _)
 |d,i,M+1,S,h1,h2,h3=>by
  simp only[qAl,qCx]
  cases d with
  |zero=>
   have hc:¬((i:Int)<(l.length:Int)):=by omega
   simp only[hc,decide_false,j7,jC,j0]
   rw[jJ (by omega)];simp[idxL]
  |succ d=>
   have hi:i<l.length:=by omega
   have hc:((i:Int)<(l.length:Int)):=by omega
   have w2:IntKind.wrap .i64 ((i:Int)+1)=((i+1:Nat):Int):=by rw[wi64 (by omega) (by omega)];omega
   have hdrop:l.drop i=l[i]::l.drop (i+1):=(jI hi).symm
   have hs:=hL _ (jV hi)
   have hsl:=hs.1
   have ha:qAl (qEy N k l[i]) N (false,0)=some (false||decide (k∈(l[i].2.2.2.2.2.2.drop 0).map (·.1))):=qSu (N:=N) hs.big.1 (fun _=>rfl) l[i].2.2.2.2.2.2.length 0 N false (by omega) (by omega)
   rw[jT,fP] at ha
   change _=some (decide (k∈qBg l[i])) at ha
   simp only[hc,decide_true,jH,qBn hi,j0,ha]
   rw[hdrop]
   simp only[idxL]
   by_cases hm:k∈qBg l[i]
   ·rw[if_pos (f0 hm),if_pos hm,qBo (by simp only[j8,jB];omega) (by decide)]
    simp only[j0,w2]
    rw[qMg hN hl hL d (i+1) M _ (by omega) (by omega) (by simp only[jG,j8,jB];omega),jR]
    rfl
   ·rw[if_neg (by simpa using hm),if_neg hm]
    simp only[j0,w2]
    exact qMg hN hl hL d (i+1) M _ (by omega) (by omega) (by omega)
theorem qOr{N:Nat}(hN:3000000<N){l:List Rcd}(hl:l.length≤512)(hL:∀c∈l,SmallR c){K:List Ky}(hK:K.length≤2900000):∀(d i M:Nat) (S:List Pst),i+d=K.length→d<M→S.length≤i→
  qAl (qCy N l K) M ((i:Int),S)=some (S++qNf (fun k=>idxL k 0 l) (K.drop i))
 |_,_,0,_,_,h,_=>absurd h (jN _)
 |d,i,M+1,S,h1,h2,h3=>by
  simp only[qAl,qCy]
  cases d with
  |zero=>
   have hc:¬((i:Int)<(K.length:Int)):=by omega
   simp only[hc,decide_false,j7,jC,j0]
   rw[jJ (by omega)];simp[qNf]
  |succ d=>
   have hi:i<K.length:=by omega
   have hc:((i:Int)<(K.length:Int)):=by omega
   have w2:IntKind.wrap .i64 ((i:Int)+1)=((i+1:Nat):Int):=by rw[wi64 (by omega) (by omega)];omega
   have hdrop:K.drop i=K[i]::K.drop (i+1):=(jI hi).symm
   have h4:qAl (qCx N l K[i]) N (0,([]:List Int))=some ([]++idxL K[i] 0 (l.drop 0)):=qMg hN hl hL l.length 0 N [] (by omega) (by omega) (jP _)
   rw[jT,jW] at h4
   simp only[hc,decide_true,jH,qBn hi,j0,h4]
   rw[qBo (by simp only[j8,jB];omega) (by decide)]
   simp only[j0,w2]
   rw[qOr hN hl hL hK d (i+1) M _ (by omega) (by omega) (by simp only[jG,j8,jB];omega),hdrop,jR]
   rfl
theorem qQm{z:Ky}:∀{l:List Rcd} {S:List Ky},z∈l.foldl (fun S c=>(qBg c).foldl insK S) S↔(∃c∈l,z∈qBg c)∨z∈S
 |[],S=>by simp
 |c::l,S=>by
  rw[kI,qQm,qKw]
  constructor
  ·rintro(⟨d,hd,h⟩|h|h)
   ·exact .inl ⟨d,jM _ hd,h⟩
   ·exact .inl ⟨c,jE ..,h⟩
   ·exact .inr h
  ·rintro(⟨d,hd,h⟩|h)
   ·rcases jD.1 hd with rfl|hd
    ·exact .inr (.inl h)
    ·exact .inl ⟨d,hd,h⟩
   ·exact .inr (.inr h)
theorem qOt:∀(l:List Rcd) (S:List Ky),qJe cK S→qJe cK (l.foldl (fun S c=>(qBg c).foldl insK S) S)
 |[],S,h=>h
 |c::l,S,h=>qOt l _ (qKf _ _ h)
theorem qUi:∀(l:List Rcd) (S:List Ky),(∀c∈l,SmallR c)→(l.foldl (fun S c=>(qBg c).foldl insK S) S).length≤S.length+1000*l.length
 |[],S,_=>by simp
 |c::l,S,h=>by
  have h1:=qUi l ((qBg c).foldl insK S) fun d hd=>h d (jM _ hd)
  have h2:=qNg (qBg c) S
  have hrl:(qBg c).length=c.2.2.2.2.2.2.length:=kM ..
  have h3:=(h c (jE ..)).1
  rw[kI,j8]
  omega
theorem qVv{k:Ky}:∀{l:List Rcd} {i:Nat},(∃c∈l,k∈qBg c)↔idxL k i l≠[]
 |[],i=>by simp[idxL]
 |c::l,i=>by
  have ih:=qVv (k:=k) (l:=l) (i:=i+1)
  simp only[idxL]
  by_cases h:k∈qBg c
  ·rw[if_pos h];exact⟨fun _=>by simp,fun _=>⟨c,jE ..,h⟩⟩
  ·rw[if_neg h,←ih]
   constructor
   ·rintro⟨d,hd,g⟩
    rcases jD.1 hd with rfl|hd
    ·exact absurd g h
    ·exact⟨d,hd,g⟩
   ·rintro⟨d,hd,g⟩;exact⟨d,jM _ hd,g⟩
def qPt(l:List Rcd):Ixx×Int:=if l.all qJs=true then(l.foldl qEh qGv,0) else(qGv,1)
theorem zAh{N:Nat}(hN:3000000<N){l:List Rcd}(hl:l.length≤512)(hL:∀c∈l,SmallR c):qEt N l=some (qPt l):=by
 have hc:¬((l.length:Int)>512):=by omega
 have e1:qAl (qCz N l) N (([]:List Ky),0)=_:=qOg hN hl hL l.length 0 N [] (by omega) (by omega) (jP _)
 rw[jT,qXw] at e1
 simp only[qEt,hc,decide_false,j7,jC]
 rw[e1]
 unfold qPt
 by_cases hall:l.all qJs=true
 ·have hkl:(l.foldl (fun S c=>(qBg c).foldl insK S) []).length≤1000*l.length:=by simpa using qUi l [] hL
  have e3:qAl (qCy N l (l.foldl (fun S c=>(qBg c).foldl insK S) [])) N (0,([]:List Pst))=some ([]++qNf (fun k=>idxL k 0 l) ((l.foldl (fun S c=>(qBg c).foldl insK S) []).drop 0)):=qOr (K:=l.foldl (fun S c=>(qBg c).foldl insK S) []) hN hl hL (Nat.le_trans hkl (by omega)) (l.foldl (fun S c=>(qBg c).foldl insK S) []).length 0 N [] (kD _) (Nat.lt_of_le_of_lt hkl (by omega)) (jP _)
  rw[jT,jW] at e3
  simp only[hall,jH,j0,e3]
  have key:qNf (fun k=>idxL k 0 l) (l.foldl (fun S c=>(qBg c).foldl insK S) [])=(l.foldl qEh qGv).1:=by
   obtain⟨g1,g2,-,-⟩:=qNk (0,e0,e0) l 0 qGv rfl List.Pairwise.nil (fun p hp=>by cases hp)
   refine qWq (qXb _ (qOt l [] List.Pairwise.nil)) g1 (fun p hp=> ?_) g2 fun k=> ?_
   ·unfold qNf at hp
    obtain⟨k,hk,rfl⟩:=kF.1 hp
    rcases qQm.1 hk with hk|hk
    ·exact qVv.1 hk
    ·cases hk
   ·obtain⟨-,-,g3,-⟩:=qNk k l 0 qGv rfl List.Pairwise.nil (fun p hp=>by cases hp)
    rw[qQb,g3,show qBx qGv.1 k=[] from rfl,jW]
    by_cases hk:k∈l.foldl (fun S c=>(qBg c).foldl insK S) []
    ·rw[if_pos hk]
    ·rw[if_neg hk]
     by_cases h0:idxL k 0 l=[]
     ·exact h0.symm
     ·exact absurd (qQm.2 (.inl (qVv.2 h0))) hk
  obtain⟨-,-,-,g4⟩:=qNk (0,e0,e0) l 0 qGv rfl List.Pairwise.nil (fun p hp=>by cases hp)
  rw[key,←kD l.length,←g4]
 ·simp only[hall,j7,jC,j0]
  rfl
end
section
open Go Go.Dc Go.Sort Go.Proofs
def MidX(x:Ixx):Prop:=x.1.length≤2500000∧∀p∈x.1,p.2.length≤1500000
theorem SmallX.mid{x:Ixx}(h:SmallX x):MidX x:=⟨by have:=h.1;omega,fun p hp=>by have:=(h.2 p hp).2;omega⟩
theorem qQw{N:Nat}(hN:3000000<N){x:Ixx}(hx:MidX x):∀(d i M:Nat),i+d=x.1.length→d<M→qAl (qDk N x x) M (i:Int)=some (.inl ())
 |_,_,0,_,h=>absurd h (jN _)
 |d,i,M+1,h1,h2=>by
  have hl:=hx.1
  simp only[qAl,qDk]
  cases d with
  |zero=>
   have hc:¬((i:Int)<(x.1.length:Int)):=by omega
   simp only[hc,decide_false,j7,jC,j0]
  |succ d=>
   have hi:i<x.1.length:=by omega
   have hc:((i:Int)<(x.1.length:Int)):=by omega
   have w2:IntKind.wrap .i64 ((i:Int)+1)=((i+1:Nat):Int):=by rw[wi64 (by omega) (by omega)];omega
   have hs:=hx.2 x.1[i] (jV hi)
   have hr:qEj N x.1[i].2 x.1[i].2=some true:=zAi (by omega) (by omega)
   simp only[hc,decide_true,jH,qBn hi,j0,qWz,jQ,j7,jC,hr,w2]
   exact qQw hN hx d (i+1) M (by omega) (by omega)
theorem qRl{N:Nat}(hN:3000000<N){x:Ixx}(hx:MidX x):qEi N (x.1,x.2) (x.1,x.2)=some true:=by
 have hl:=hx.1
 have h1:qAl (qDk N (x.1,x.2) (x.1,x.2)) N 0=some (.inl ()):=qQw hN hx x.1.length 0 N (by omega) (by omega)
 simp only[qEi,gA,j7,jC,h1,j0]
theorem zDm{x:Ixx}{c:Rcd}(hx:SmallX x)(hc:BigR c):MidX (addP x c).1:=by
 unfold addP
 split
 ·split
  ·exact⟨kK _,fun p hp=>by cases hp⟩
  ·split
   ·refine⟨?_,?_⟩
    ·have h1:=qIf (n:=x.2) (x.1.length+(qJg (qBg c)).length) x.1 (qJg (qBg c))
     have h2:=qNu (qBg c)
     have hrl:(qBg c).length=c.2.2.2.2.2.2.length:=kM ..
     have:=hx.1;have:=hc.1
     show(qDw _ _ _ _).length≤_
     omega
    ·exact qGm (P:=fun p=>p.2.length≤1048576) (Q:=fun p=>p.2.length≤1500000) (R:=fun _=>True) (fun p h=>by omega) (fun p h _=>by simp only[jG,j8,jB];omega) (fun k _=>by simp) _ _ _ (fun p hp=>(hx.2 p hp).2) (fun _ _=>trivial)
   ·exact⟨kK _,fun p hp=>by cases hp⟩
 ·exact⟨kK _,fun p hp=>by cases hp⟩
theorem qQe{x:Ixx}{keys:List Ky}{b:Bool}:(qGo x keys b).1.length≤512:=by
 unfold qGo
 split
 ·rename_i h
  have h1:=(qFf.1 h.1).1
  have h2:=qXr 0 (qLp x.1 keys (List.replicate x.2.toNat false))
  rw[qMo,gC] at h2
  cases b<;>(first|omega|(simp only;omega))
 ·exact kK _
theorem qQx{N:Nat}(hN:3000000<N){x:Ixx}(hx:SmallX x){keys:List Ky}(hk:keys.length≤1000000):∀(d i M:Nat),i+d=keys.length→d<M→qAl (qBw N x keys) M (i:Int)=some (.inl ())
 |_,_,0,_,h=>absurd h (jN _)
 |d,i,M+1,h1,h2=>by
  simp only[qAl,qBw]
  cases d with
  |zero=>
   have hc:¬((i:Int)<(keys.length:Int)):=by omega
   simp only[hc,decide_false,j7,jC,j0]
  |succ d=>
   have hi:i<keys.length:=by omega
   have hc:((i:Int)<(keys.length:Int)):=by omega
   have w2:IntKind.wrap .i64 ((i:Int)+1)=((i+1:Nat):Int):=by rw[wi64 (by omega) (by omega)];omega
   have h3:=qVy (N:=N) hN (x:=x) (k:=keys[i]) hx
   have h4:=qSs (N:=N) hN (x:=x) (k:=keys[i]) hx
   have hlen:(if qFo x=true then qBx x.1 keys[i] else[]).length≤1048576:=by
    split
    ·exact qNr x.1 fun p hp=>(hx.2 p hp).2
    ·exact kK _
   have h5:qBd N (if qFo x=true then qBx x.1 keys[i] else[]) (if qFo x=true then qBx x.1 keys[i] else[])=some true:=qKv (by omega) (by omega)
   simp only[hc,decide_true,jH,qBn hi,j0]
   rw[h3,h4]
   simp only[j0,h5,jQ,j7,jC,w2]
   exact qQx hN hx hk d (i+1) M (by omega) (by omega)
theorem qQj{L:List Pst}{n n':Int}{i:Nat}{u:Pst}(h:SmallX (L,n))(hu:u.1.2.1.size≤1048576∧u.2.length≤1048576):SmallX (L.set i u,n'):=
 ⟨by show(L.set i u).length≤_;rw[List.length_set];exact h.1,fun p hp=>by
  rcases List.mem_or_eq_of_mem_set hp with hp|rfl
  ·exact h.2 p hp
  ·exact hu⟩
theorem qYw{N:Nat}(hN:3000000<N){l:List Int}{p1:Ixx}{p2:Rcd}{o2:Ixx×(List Int×Int)}(h1:SmallX p1)(h2:BigR p2)(h3:SmallX o2.1)(i:Nat)(hi:i≤2){a:Int}(a0:0≤a)(a1:a≤500000):
  Ok (qCk N p1 p2 o2 ((i:Int),l,a)) fun r=>match r with
   | .inl s=>i<2∧∃a',s=(((i+1:Nat):Int),l,a')∧a≤a'∧a'≤a+300
   | .inr b=>∃t,b= .inl t:=by
 unfold qCk
 refine Ok.ite (fun hc=> ?_) fun hc=>Ok.mk ⟨_,rfl⟩
 have hi2:i<2:=by
  have:=g9 hc
  simp only[j8,jB] at this
  omega
 obtain⟨x,hx,hs⟩:∃x:Ixx,idx ([(o2.1.1,o2.1.2),(p1.1,p1.2)]:List Ixx) (i:Int)=some x∧SmallX x:=by
  rcases(by omega:i=0∨i=1) with rfl|rfl
  ·exact⟨o2.1,rfl,h3⟩
  ·exact⟨p1,rfl,h1⟩
 rw[show idx ([(o2.1.1,o2.1.2),(p1.1,p1.2)]:List ((List ((Int×ByteArray×ByteArray)×List Int))×Int)) (i:Int)=some x from hx]
 simp only[j0]
 rw[show qDd N (x.1,x.2)=some (qFo x) from qMm hN hs,show qBl N (x.1,x.2)=some (qFo x) from qMn hN hs]
 simp only[j0,beq_self_eq_true,jQ,j7,jC]
 refine Ok.bind (qXs (l:=l) (a:=a) (by omega) (by omega)) ?_
 rintro _ ⟨b1,k1,rfl,b2,b3,b4⟩
 refine Ok.bind (qXs (l:=l) (a:=b1) (by omega) (by omega)) ?_
 rintro _ ⟨c1,k2,rfl,c2,c3,c4⟩
 refine Ok.chance (by omega) (by omega) (by decide) (by decide) fun ch=> ?_
 have hk1:=(qJp b4).1
 have hk2:=(qJp c4).1
 refine Ok.bind (P:=fun K:List Ky=>K.length≤3∧∀k∈K,k.2.1.size≤1048576) ?_ fun K hK=> ?_
 ·refine Ok.ite (fun _=> ?_) fun _=>Ok.mk ⟨by simp,fun k hk=> ?_⟩
  ·refine Ok.app (by simp only[j8,jB];omega) (by decide) (Ok.mk ⟨by simp,fun k hk=> ?_⟩)
   simp only[fC,jW,jD,jU,gH] at hk
   rcases hk with h|h|h<;>rw[h]
   ·show k1.2.1.size≤_;omega
   ·show k2.2.1.size≤_;omega
   ·exact kK _
  ·simp only[jD,jU,gH] at hk
   rcases hk with h|h<;>rw[h]
   ·show k1.2.1.size≤_;omega
   ·show k2.2.1.size≤_;omega
 obtain⟨hK1,hK2⟩:=hK
 rw[show qAl (qBw N x K) N 0=some (.inl ()) from qQx hN hs (by omega) K.length 0 N (by omega) (by omega)]
 simp only[j0]
 have hd:∀b,qBd N (qGo x K b).1 (qGo x K b).1=some true:=fun b=>qKv (by have:=qQe (x:=x) (keys:=K) (b:=b);omega) (by have:=qQe (x:=x) (keys:=K) (b:=b);omega)
 rw[qQc hN hs (by omega) hK2,qVa hN hs (by omega)]
 simp only[j0,gA,j7,jC,hd,jQ]
 rw[qNm hN hs (by omega) hK2,qQs hN hs (by omega)]
 simp only[j0,gA,j7,jC,hd,jQ]
 refine Ok.bind (qSf hN (l:=l) (a:=c1+1) (by omega) (by omega)) ?_
 rintro _ ⟨d1,R,rfl,d2,d3,d4,d5⟩
 refine Ok.app (by simp only[j8,jB];omega) (by decide) ?_
 obtain⟨c,hc0,hcb⟩:∃c:Rcd,idx (R++[p2]) 0=some c∧BigR c:=by
  cases R with
  |nil=>exact⟨p2,rfl,h2⟩
  |cons c R=>exact⟨c,rfl,(d5 c (jE ..)).big⟩
 rw[show idx (R++[((p2.1.1,p2.1.2),p2.2.1,p2.2.2.1,p2.2.2.2.1,(p2.2.2.2.2.1.1,p2.2.2.2.2.1.2.1,p2.2.2.2.2.1.2.2),p2.2.2.2.2.2.1,p2.2.2.2.2.2.2)]) 0=some c from hc0]
 simp only[j0]
 rw[zDp hN hs hcb,zCs hN hs hcb]
 simp only[j0,gA,j7,jC]
 rw[qRl hN (zDm hs hcb)]
 simp only[j0,jQ,j7,jC]
 have w2:IntKind.wrap .i64 ((i:Int)+1)=((i+1:Nat):Int):=by rw[wi64 (by omega) (by omega)];omega
 exact Ok.mk ⟨hi2,d1,by rw[w2],by omega,by omega⟩
theorem qWu{L:List Rcd}(hl:L.length≤512)(hL:∀c∈L,SmallR c):SmallX (qPt L).1∧(qPt L).1.1.length≤512000:=by
 unfold qPt
 split
 ·rename_i hall
  obtain⟨i1,i2⟩:=qSy L 0 qGv qNj qSi (by omega) hL hall
  rw[kD] at i1
  exact⟨qJt hl i1,by have:=i1.2.1;show(L.foldl qEh qGv).1.length≤_;omega⟩
 ·exact⟨qJt (i:=0) (by omega) qNj,kK _⟩
theorem qTj{N:Nat}(hN:3000000<N)(p0:List Int)(p1:Ixx)(p2:Rcd)(h1:SmallX p1)(h2:BigR p2):Ok (qDm N p0 p1 p2) fun b=>b=true:=by
 unfold qDm
 refine Ok.bind (qSf hN (Int.le_refl 0) (by decide)) ?_
 rintro _ ⟨a',L,rfl,u1,u2,u3,u4⟩
 dsimp only
 rw[show qGr N L=some (qPt L) from qYb hN (show L.length≤512 by omega) u4,zAh hN (by omega) u4]
 obtain⟨hB,hBl⟩:=qWu (by omega) u4
 generalize qPt L=B at hB hBl
 simp only[j0,gA,j7,jC]
 rw[qRl hN hB.mid]
 simp only[j0,jQ,j7,jC]
 have hap:appM 64 B.1.1=some B.1.1:=by
  unfold appM;rw[if_pos ⟨by omega,by have hmx:(maxLen:Nat)=9223372036854775807:=rfl;omega⟩]
 rw[hap]
 simp only[j0]
 refine Ok.bind (P:=fun o:Ixx×(List Int×Int)=>SmallX o.1∧∃a,o.2=(p0,a)∧0≤a∧a≤1000) ?_ fun o ho=> ?_
 ·refine Ok.ite (fun hc=> ?_) fun _=>Ok.mk ⟨hB,a',rfl,by omega,by omega⟩
  have hc:=g9 hc
  refine Ok.next (by omega) (by omega) (by omega) (by omega) fun r r0 r1=> ?_
  refine Ok.next (by omega) (by omega) (by decide) (by decide) fun q q0 q1=> ?_
  have hrl:r.toNat<B.1.1.length:=by omega
  have hx:idx B.1.1 r=some (B.1.1[r.toNat]):=by
   have:idx B.1.1 ((r.toNat:Nat):Int)=some (B.1.1[r.toNat]):=qBn hrl
   rwa[Int.toNat_of_nonneg r0] at this
  have hm:=hB.2 _ (jV hrl)
  refine Ok.ite (fun _=> ?_) fun _=>Ok.ite (fun _=> ?_) fun _=>Ok.ite (fun _=> ?_) fun _=>Ok.ite (fun _=> ?_) fun _=>Ok.mk ⟨hB,a'+1+1,rfl,by omega,by omega⟩
  ·refine Ok.pick (by omega) (by omega) (by decide) (by decide) fun z _=>Ok.mk ⟨⟨hB.1,hB.2⟩,a'+1+1+1,rfl,by omega,by omega⟩
  ·rw[hx]
   exact Ok.mk ⟨qQj (n:=B.1.2) hB ⟨hm.1,kK _⟩,a'+1+1,rfl,by omega,by omega⟩
  ·rw[hx]
   exact Ok.mk ⟨qQj (n:=B.1.2) hB ⟨hm.1,by show 2≤1048576;decide⟩,a'+1+1,rfl,by omega,by omega⟩
  ·refine Ok.bind (qXs (l:=p0) (a:=a'+1+1) (by omega) (by omega)) ?_
   rintro _ ⟨b1,k,rfl,b2,b3,b4⟩
   have hk:=(qJp b4).1
   dsimp only
   rw[hx]
   exact Ok.mk ⟨qQj (n:=B.1.2) hB ⟨by show k.2.1.size≤_;omega,hm.2⟩,b1,rfl,by omega,by omega⟩
 ·obtain⟨ho1,a,ho2,ho3,ho4⟩:=ho
  refine Ok.loop (fun s=>∃(i:Nat) (a':Int),s=((i:Int),p0,a')∧i≤2∧0≤a'∧a'≤1000+300*i) (fun s=>2-s.1.toNat) (fun b=>∃t,b= .inl t) (fun s hs=> ?_) ⟨0,a,by rw[ho2];rfl,by omega,ho3,by omega⟩ (by first|omega|(simp only;omega)) fun b hb=> ?_
  ·obtain⟨i,b,rfl,s1,s2,s3⟩:=hs
   refine(qYw hN (l:=p0) h1 h2 ho1 i s1 s2 (by omega)).mono fun r hr=> ?_
   cases r with
   |inl s=>
    obtain⟨g1,a2,rfl,g2,g3⟩:=hr
    exact⟨⟨i+1,a2,rfl,by omega,by omega,by omega⟩,by simp only[k0];omega⟩
   |inr b=>exact hr
  ·obtain⟨t,rfl⟩:=hb
   simp only
   rw[qWt hN]
   exact Ok.mk rfl
theorem testgatelaw18_IndexCalls_true(l:List Int)(_gl:l.length≤1048576∧∀x∈l,(Lit.int .i64 x).wf=true)
  (x:Ixx) (gx:(x.1.length≤1048576∧∀p∈x.1,((Lit.int .i64 p.1.1).wf=true∧p.1.2.1.size≤1048576∧p.1.2.2.size≤1048576)∧p.2.length≤1048576∧∀r∈p.2,(Lit.int .i64 r).wf=true)∧(Lit.int .i64 x.2).wf=true)
  (c:Rcd) (gc:(c.1.1.size≤1048576∧c.1.2.size≤1048576)∧(Lit.int .i64 c.2.1).wf=true∧(Lit.int .i64 c.2.2.1).wf=true∧(Lit.int .i64 c.2.2.2.1).wf=true∧((Lit.int .i64 c.2.2.2.2.1.1).wf=true∧(Lit.int .i64 c.2.2.2.2.1.2.1).wf=true∧(Lit.int .i64 c.2.2.2.2.1.2.2).wf=true)∧True∧
   c.2.2.2.2.2.2.length≤1048576∧∀f∈c.2.2.2.2.2.2,((Lit.int .i64 f.1.1).wf=true∧f.1.2.1.size≤1048576∧f.1.2.2.size≤1048576)∧(Lit.int .i64 f.2).wf=true):∃N,qDm N l x c=some true:=by
 refine⟨4000000,?_⟩
 have hx:SmallX x:=⟨gx.1.1,fun p hp=>⟨(gx.1.2 p hp).1.2.1,(gx.1.2 p hp).2.1⟩⟩
 have hc:BigR c:=⟨gc.2.2.2.2.2.2.1,fun k hk=>by
  obtain⟨f,hf,rfl⟩:=kF.1 hk
  exact(gc.2.2.2.2.2.2.2 f hf).1.2.1⟩
 obtain⟨b,h1,rfl⟩:=qTj (N:=4000000) (by decide) l x c hx hc
 exact h1
end
end Go.Proofs.YtiblcebedkllpaaGreatDoor
