/- No condition but those of each theorem. -/
import Derived.Test.YteajdekbpcmdaaaGreatDoorProg
import Derived.WalkKit
import Derived.Deep.LoopGhost
import Derived.KernelRfl
import Derived.OrdersHeld
import Derived.OrdersIn
import Derived.LoopNIn
import Derived.Sort.LoopGhostIn
import Derived.Laws.AppendOwn
import Derived.RangeFuncLeaves
import Derived.RangeFuncRecord
import Derived.MapKept
import Derived.Maps.RangeRun
import Derived.ChangeKeysEq
import Derived.HandedShaped
import Derived.ChangeStays
import Derived.ChangeSame
import Derived.OpenShut
import Derived.WideShapes
import Derived.JoinedOf
import Derived.ReadAgain
import Derived.ChangeAt
import Derived.RowKit
import Derived.Lib.Overlaps
import Derived.Shelf.Sort.Plain
import Derived.Shelf.Slices.In.SortNone
import Derived.WalkSmall
import Derived.Recover
import Derived.Lib.Builder
import Derived.Lib.UnsafeStr
import Derived.Shelf.Strconv.Itoa3
import Derived.Room.Shelf.Join48
import Derived.Lib.Bytealg
import Derived.Test.YteajdekbpcmdaaaGreatDoorK5m1
namespace Go.Proofs.YteajdekbpcmdaaaGreatDoor
section
open Go Go.Dc Go.Proofs
def kinC(ks:List Int)(x:Ex):Bool:=ks.any fun k=>x.1==k
def zFy(ks:List Int)(d:Dl):List ByteArray:=(d.2.2.2.filter (kinC ks)).map fun x=>x.2.2.2.1
def setK(ks:List Int)(d:Dl):List ByteArray:=(zFy ks d).foldl addB []
theorem w1{i:Nat}(h:i<1000000):IntKind.wrap .i64 ((i:Int)+1)=((i+1:Nat):Int):=by rw[wi64 (by omega) (by omega)];omega
theorem zGt(v:Int):∀(ks:List Int) (t:Nat),(match run (fun t k=>if(v==k)=true then(.inr (.inr ((t:Nat):Int)):Nat⊕(Unit⊕Int)) else .inl (t+1)) (fun _=>(.inl ():Unit⊕Int)) ks t with| .inl _=>some (-1)| .inr z=>some z:Option Int).bind (fun y=>some (decide (y≥0)))=some (ks.any fun k=>v==k)
 |[],t=>rfl
 |k::ks,t=>by
  simp only[run,gT]
  by_cases h:(v==k)=true
  ·rw[if_pos h,h]
   simp only[j0,dF]
   rw[jZ (by omega)]
  ·rw[if_neg h,show(v==k)=false by simpa using h,kU]
   exact zGt v ks (t+1)
theorem zGz{N:Nat}{ks:List Int}{v:Int}(hl:ks.length<1000)(hN:1000<N):qGy N ks v=some (ks.any fun k=>v==k):=by
 unfold qGy qKc
 have h:=qGm (L:=ks) (fun(_:Nat) (i:Nat)=>(i:Int)) (f:=qFj N ks v)
  (fun t k=>if(v==k)=true then .inr (.inr (t:Int)) else .inl (t+1)) (fun _=> .inl ()) (fun i t=>t=i) (by
   rintro t i hi rfl
   simp only[qFj]
   rw[if_pos (by simp only[jA];omega),qCo hi]
   simp only[j0,w1 (show t<1000000 by omega)]
   split<;>rfl) (by
   rintro t i hi t' rfl hh
   split at hh
   ·cases hh
   ·cases hh;rfl) (by
   rintro t rfl
   simp only[qFj]
   rw[if_neg (by simp)]) (M:=N) (t:=0) (by omega) rfl
 rw[show((0:Nat):Int)=0 from rfl] at h
 rw[h]
 simp only[j0]
 exact zGt v ks 0
theorem zCf(p:Ex→Bool):∀(l:List Ex) (t:List ByteArray),l.foldl (fun t x=>if p x=true then t++[x.2.2.2.1] else t) t=t++(l.filter p).map fun x=>x.2.2.2.1
 |[],t=>by simp
 |x::l,t=>by
  rw[fV,zCf p l,List.filter_cons]
  by_cases h:p x=true
  ·rw[if_pos h,if_pos h];simp
  ·rw[if_neg h,if_neg h]
theorem zRv{N:Nat}{d:Dl}{ks:List Int}(hk:ks.length<1000)(hd:d.2.2.2.length<1000)(hN:1000<N):qAs (qIl N d ks) N (([]:List ByteArray),0)=some (zFy ks d):=by
 have h:=qGm (L:=d.2.2.2) (fun(t:List ByteArray) (i:Nat)=>(t,(i:Int))) (f:=qIl N d ks)
  (fun t x=> .inl (if kinC ks x=true then t++[x.2.2.2.1] else t)) (fun t=>t) (fun i t=>t.length≤i) (by
   intro t i hi hI
   simp only[qIl]
   rw[if_pos (by simp only[jA];omega),qCo hi]
   simp only[j0]
   rw[zGz hk hN]
   simp only[j0,w1 (show i<1000000 by omega)]
   by_cases hc:kinC ks d.2.2.2[i]=true
   ·have hc':(ks.any fun k=>d.2.2.2[i].1==k)=true:=hc
    rw[if_pos hc',if_pos hc,qDx (by simp only[jD,jF];omega) (by decide)]
    rfl
   ·have hc':¬(ks.any fun k=>d.2.2.2[i].1==k)=true:=hc
    rw[if_neg hc',if_neg hc]
    rfl) (by
   intro t i hi t' hI hh
   cases hh
   split
   ·simp only[jC,jD,jF];omega
   ·omega) (by
   intro t hI
   simp only[qIl]
   rw[if_neg (by simp)]) (M:=N) (t:=[]) (by omega) (jP 0)
 rw[show((0:Nat):Int)=0 from rfl] at h
 rw[h,zEb (g:=fun t x=>if kinC ks x=true then t++[x.2.2.2.1] else t) fun _ _=>rfl,zCf,jO]
 rfl
def SAsc(l:List ByteArray):Prop:=l.Pairwise fun x y=>blt x y=true
def Srt(l:List ByteArray):Prop:=∀i j,∀hi:i<l.length,∀hj:j<l.length,i<j→blt l[j] l[i]=false
theorem zPv(l:List ByteArray):Srt (qQw l):=by
 have h1:(qQw l).Pairwise fun x y=>decide (x.data.toList≤y.data.toList)=true:=by
  unfold qQw
  refine List.pairwise_mergeSort (fun x y z h1 h2=> ?_) (fun x y=> ?_) l
  ·simp only[jA] at*;exact List.le_trans h1 h2
  ·simp only[f0,jA];exact List.le_total _ _
 intro i j hi hj hij
 exact zVh.1 (gL (List.pairwise_iff_getElem.1 h1 i j hi hj hij))
theorem qUw{l:List ByteArray}{m:Nat}(hm:m<l.length)(z:ByteArray):z∈l.take (m+1)↔z∈l.take m∨z=l[m]:=by
 rw[gB hm,gF,jS]
theorem zMy{l T:List ByteArray}{m:Nat}(hs:Srt l)(h1:1≤m)(hm:m<l.length)(hne:l[m]≠l[m-1])(ht:SAsc T)(hT:∀z,z∈T↔z∈l.take m):SAsc (T++[l[m]])∧∀z,z∈T++[l[m]]↔z∈l.take (m+1):=by
 constructor
 ·refine List.pairwise_append.2 ⟨ht,fM ..,fun x hx y hy=> ?_⟩
  rw[jS.1 hy]
  obtain⟨j,hj,rfl⟩:=fZ.1 ((hT x).1 hx)
  have hj':j<m:=by rw[k0] at hj;omega
  rw[List.getElem_take]
  have hlast:blt l[m-1] l[m]=true:=by
   rcases qZv l[m-1] l[m] with g|g|g
   ·exact g
   ·exact absurd g.symm hne
   ·rw[hs (m-1) m (by omega) hm (by omega)] at g;cases g
  by_cases e:j=m-1
  ·subst e;exact hlast
  ·have g1:=hs j (m-1) (by omega) (by omega) (by omega)
   have g2:=hs j m (by omega) hm hj'
   rcases qZv (l[j]'(by omega)) l[m] with g|g|g
   ·exact g
   ·rw[g] at g1;rw[g1] at hlast;cases hlast
   ·rw[g2] at g;cases g
 ·intro z
  rw[gF,jS,qUw hm,hT z]
theorem zJv{l T:List ByteArray}{m:Nat}(h1:1≤m)(hm:m<l.length)(he:l[m]=l[m-1])(hT:∀z,z∈T↔z∈l.take m):∀z,z∈T↔z∈l.take (m+1):=fun z=>by
 rw[qUw hm,hT z]
 constructor
 ·exact .inl
 ·rintro(g|g)
  ·exact g
  ·rw[g,he]
   exact fZ.2 ⟨m-1,by rw[k0];omega,by rw[List.getElem_take]⟩
theorem beqL{a b:ByteArray}:(a.toList==b.toList)=decide (a=b):=qDz a b
theorem zOi{N K:Nat}{l:List ByteArray}(hs:Srt l)(hl:l.length<1000000):∀(d k i:Nat) (a:List ByteArray) (M:Nat),K+k+d=l.length→d<M→1≤k→K≤i→i≤K+k-1→a.length=l.length→(∀j,i≤j→a[j]? =l[j]?)→SAsc (a.take i)→(∀z,z∈a.take i↔z∈l.take (K+k))→
  ∃(i':Nat) (a':List ByteArray),qAs (qFf N l (K:Int)) M ((i:Int),(k:Int),a)=some ((i':Int),a')∧i'<l.length∧a'.length=l.length∧SAsc (a'.take i')∧∀z,z∈a'.take i'↔z∈l
 |_,_,_,_,0,_,h,_,_,_,_,_,_,_=>absurd h (kL _)
 |0,k,i,a,M+1,hd,_,h1,hi1,hi2,ha,_,hp,hm=>by
  refine⟨i,a,?_,by omega,ha,hp,fun z=> ?_⟩
  ·simp only[qAs,qFf]
   rw[if_neg (by simp only[jA];omega)]
   rfl
  ·rw[hm z,show K+k=l.length by omega,gO]
 |d+1,k,i,a,M+1,hd,hM,h1,hi1,hi2,ha,hj,hp,hm=>by
  have hwin:List.drop (Int.toNat (K:Int)) (List.take (Int.toNat (l.length:Int)) a)=a.drop K:=by
   rw[jR,jR,←ha,gO]
  have g0:K+k<l.length:=by omega
  have i0:idx (a.drop K) (k:Int)=some l[K+k]:=by
   rw[qCo (show k<(a.drop K).length by rw[gE];omega),List.getElem_drop]
   have:=hj (K+k) (by omega)
   rw[List.getElem?_eq_getElem (by omega),List.getElem?_eq_getElem g0] at this
   exact this
  have wk:IntKind.wrap .i64 ((k:Int)-1)=((k-1:Nat):Int):=by rw[wi64 (by omega) (by omega)];omega
  have i1:idx (a.drop K) ((k-1:Nat):Int)=some (l[K+k-1]'(by omega)):=by
   rw[qCo (show k-1<(a.drop K).length by rw[gE];omega),List.getElem_drop]
   have:=hj (K+k-1) (by omega)
   rw[List.getElem?_eq_getElem (by omega),List.getElem?_eq_getElem (show K+k-1<l.length by omega)] at this
   simp only[show K+(k-1)=K+k-1 by omega]
   exact this
  have step:∀(i2:Nat) (a2:List ByteArray),(qFf N l (K:Int) ((i:Int),(k:Int),a))=some (.inl ((i2:Int),((k+1:Nat):Int),a2))→K≤i2→i2≤K+k→a2.length=l.length→(∀j,i2≤j→a2[j]? =l[j]?)→SAsc (a2.take i2)→(∀z,z∈a2.take i2↔z∈l.take (K+k+1))→
    ∃(i':Nat) (a':List ByteArray),qAs (qFf N l (K:Int)) (M+1) ((i:Int),(k:Int),a)=some ((i':Int),a')∧i'<l.length∧a'.length=l.length∧SAsc (a'.take i')∧∀z,z∈a'.take i'↔z∈l:=fun i2 a2 e b1 b2 b3 b4 b5 b6=>by
   obtain⟨i',a',r1,r2⟩:=zOi hs hl d (k+1) i2 a2 M (by omega) (by omega) (by omega) b1 (by omega) b3 b4 b5 (by rw[show K+(k+1)=K+k+1 by omega];exact b6)
   refine⟨i',a',?_,r2⟩
   simp only[qAs,e,j0]
   exact r1
  by_cases he:l[K+k]=l[K+k-1]'(by omega)
  ·refine step i a ?_ hi1 (by omega) ha hj hp (zJv (by omega) g0 he hm)
   simp only[qFf]
   rw[if_pos (by simp only[jA,jR];omega),hwin,wk,i0,i1]
   simp only[j0,beqL]
   rw[if_neg (by simp[he])]
   simp only[j0,w1 (show k<1000000 by omega)]
  ·have hil:i<a.length:=by omega
   obtain⟨n1,n2⟩:=zMy (m:=K+k) hs (by omega) g0 he hp hm
   have htk:(a.set i l[K+k]).take (i+1)=a.take i++[l[K+k]]:=by
    rw[gB (by rw[gH];exact hil),List.getElem_set_self,List.take_set_of_le (jP i)]
   refine step (i+1) (a.set i l[K+k]) ?_ (by omega) (by omega) (by rw[gH];exact ha) (fun j hij=> ?_) (by rw[htk];exact n1) (by rw[htk];exact n2)
   ·simp only[qFf]
    rw[if_pos (by simp only[jA,jR];omega),hwin,wk,i0,i1,qCo hil]
    simp only[j0,beqL]
    rw[if_pos (by simp[he])]
    simp only[j0,w1 (show k<1000000 by omega),w1 (show i<1000000 by omega),jR]
   ·rw[List.getElem?_set_ne (by omega)]
    exact hj j (by omega)
theorem zOt{N:Nat}{o l:List ByteArray}(ho:o.length=l.length)(hs:Srt l)(hl:l.length<1000000)(hN:l.length<N):∀(d K M:Nat),K+d=l.length→d<M→1≤K→SAsc (l.take K)→
  ∃out:Unit⊕List ByteArray,qAs (qHf N o l) M (K:Int)=some out∧SAsc (match out with| .inl _=>l| .inr r=>r)∧∀z,z∈(match out with| .inl _=>l| .inr r=>r)↔z∈l
 |_,_,0,_,h,_,_=>absurd h (kL _)
 |0,K,M+1,hd,_,h1,hp=>by
  have:K=l.length:=by omega
  subst this
  refine⟨.inl (),?_,by rw[gO] at hp;exact hp,fun z=>Iff.rfl⟩
  simp only[qAs,qHf]
  rw[if_neg (by simp only[jA];omega)]
  rfl
 |d+1,K,M+1,hd,hM,h1,hp=>by
  have g0:K<l.length:=by omega
  have wk:IntKind.wrap .i64 ((K:Int)-1)=((K-1:Nat):Int):=by rw[wi64 (by omega) (by omega)];omega
  have i0:idx l (K:Int)=some l[K]:=qCo g0
  have i1:idx l ((K-1:Nat):Int)=some (l[K-1]'(by omega)):=qCo (by omega)
  by_cases he:l[K]=l[K-1]'(by omega)
  ·obtain⟨i',a',r1,r2,r3,r4,r5⟩:=zOi (N:=N) (K:=K) hs hl (l.length-K-1) 1 K l N (by omega) (by omega) (jP 1) (jP K) (by omega) rfl (fun _ _=>rfl) hp (zJv h1 g0 he fun z=>Iff.rfl)
   refine⟨.inr (a'.take i'),?_,r4,r5⟩
   have c1:chkS l (K:Int) (l.length:Int)=some ():=by unfold chkS;rw[if_pos (by omega)]
   have c2:chkS a' (i':Int) (a'.length:Int)=some ():=by unfold chkS;rw[if_pos (by omega)]
   have c3:zAd a' (i':Int) (⟨#[]⟩:ByteArray)=some (a'.take i'++List.replicate (a'.length-i') (⟨#[]⟩:ByteArray)):=by unfold zAd;rw[if_pos (by omega)];rfl
   have c4:chkS (a'.take i'++List.replicate (a'.length-i') (⟨#[]⟩:ByteArray)) 0 (i':Int)=some ():=by
    unfold chkS;rw[if_pos (by simp only[jC,k0,fU];omega)]
   have c5:(a'.take i'++List.replicate (a'.length-i') (⟨#[]⟩:ByteArray)).take i'=a'.take i':=by
    rw[kV (by rw[k0];omega),List.take_take,Nat.min_self]
   simp only[qAs,qHf]
   rw[if_pos (by simp only[jA];omega),wk,i0,i1]
   simp only[j0,beqL]
   rw[if_pos (by simp[he]),c1]
   simp only[j0]
   rw[show qAs (qFf N l (K:Int)) N ((K:Int),1,l)=_ from r1]
   simp only[j0]
   rw[c2]
   simp only[j0]
   rw[c3]
   simp only[j0]
   rw[c4]
   simp only[j0,jR,c5]
  ·obtain⟨n1,n2⟩:=zMy (m:=K) hs h1 g0 he hp fun z=>Iff.rfl
   obtain⟨out,r1,r2⟩:=zOt ho hs hl hN d (K+1) M (by omega) (by omega) (by omega) (by rw[gB g0];exact n1)
   refine⟨out,?_,r2⟩
   simp only[qAs,qHf]
   rw[if_pos (by simp only[jA];omega),wk,i0,i1]
   simp only[j0,beqL]
   rw[if_neg (by simp[he])]
   simp only[w1 (show K<1000000 by omega)]
   exact r1
theorem zEf{l K:List ByteArray}(h:SAsc l)(hm:∀z,z∈l↔z∈K):l=K.foldl addB []:=by
 obtain⟨h1,h2⟩:=zGn K [] List.Pairwise.nil
 refine zJd (lt:=fun x y=>blt x y=true) (fun x h=>by rw[zLp] at h;cases h) (fun _ _ _ h1 h2=>zFd h1 h2) h h1 fun z=> ?_
 rw[h2 z,hm z];simp
theorem zKq{N:Nat}{d:Dl}{ks:List Int}(hk:ks.length<1000)(hd:d.2.2.2.length<1000)(hN:1000<N):qLv N d ks=some (setK ks d):=by
 unfold qLv
 rw[zRv hk hd hN]
 simp only[j0]
 have hlen:(zFy ks d).length<1000:=by
  unfold zFy;rw[kZ]
  have:=List.length_filter_le (kinC ks) d.2.2.2
  omega
 unfold setK
 generalize zFy ks d=o at hlen
 have hsl:(qQw o).length=o.length:=by unfold qQw;exact List.length_mergeSort _
 have hso:qCs N o=some (qQw o):=by
  unfold qCs
  rw[if_pos (by omega)]
 rw[hso]
 simp only[j0]
 by_cases h2:o.length<2
 ·rw[if_pos (by simp only[jA];omega)]
  simp only[j0]
  congr 1
  refine zEf ?_ fun z=>qZn
  match hh:qQw o with
  |[]=>exact List.Pairwise.nil
  |[x]=>exact fM ..
  |x::y::q=>rw[hh] at hsl;simp only[jD] at hsl;omega
 ·rw[if_neg (by simp only[jA];omega)]
  obtain⟨out,r1,r2,r3⟩:=zOt (N:=N) hsl.symm (zPv o) (by omega) (by omega) ((qQw o).length-1) 1 N (by omega) (by omega) (jP 1) (by
   match hh:qQw o with
   |[]=>exact List.Pairwise.nil
   |x::q=>exact fM ..)
  rw[show qAs (qHf N o (qQw o)) N 1=_ from r1]
  simp only[j0]
  cases out with
  |inl u=>exact congrArg some (zEf (l:=qQw o) r2 fun z=>(r3 z).trans qZn)
  |inr r=>exact congrArg some (zEf (l:=r) r2 fun z=>(r3 z).trans qZn)
end
section
open Go Go.Dc Go.Proofs
def flipsP(d:Dl):Bool:=d.2.2.2.any fun x=>x.1==10
theorem zJg:∀(l:List Ex) (t:Nat),(match run (fun t (x:Ex)=>if(x.1==10)=true then(.inr (.inr ((t:Nat):Int)):Nat⊕(Unit⊕Int)) else .inl (t+1)) (fun _=>(.inl ():Unit⊕Int)) l t with| .inl _=>some (-1)| .inr z=>some z:Option Int).bind (fun y=>some (decide (y≥0)))=some (l.any fun x=>x.1==10)
 |[],t=>rfl
 |x::l,t=>by
  simp only[run,gT]
  by_cases h:(x.1==10)=true
  ·rw[if_pos h,h]
   simp only[j0,dF]
   rw[jZ (by omega)]
  ·rw[if_neg h,show(x.1==10)=false by simpa using h,kU]
   exact zJg l (t+1)
theorem zQz{N:Nat}{d:Dl}(hd:d.2.2.2.length<1000)(hN:1000<N):qLx N d=some (flipsP d):=by
 unfold qLx
 have h:=qGm (L:=d.2.2.2) (fun(_:Nat) (i:Nat)=>(i:Int)) (f:=qJp N d)
  (fun t (x:Ex)=>if(x.1==10)=true then .inr (.inr (t:Int)) else .inl (t+1)) (fun _=> .inl ()) (fun i t=>t=i) (by
   rintro t i hi rfl
   simp only[qJp,qNh]
   rw[if_pos (by simp only[jA];omega),qCo hi]
   simp only[j0,w1 (show t<1000000 by omega)]
   split<;>rfl) (by
   rintro t i hi t' rfl hh
   split at hh
   ·cases hh
   ·cases hh;rfl) (by
   rintro t rfl
   simp only[qJp]
   rw[if_neg (by simp)]) (M:=N) (t:=0) (by omega) rfl
 rw[show((0:Nat):Int)=0 from rfl] at h
 rw[h]
 simp only[j0]
 exact zJg d.2.2.2 0
end
section
open Go Go.Dc
def Ok{α:Type}(x:Option α)(Q:α→Prop):Prop:=∃a,x=some a∧Q a
section
variable {α β γ:Type} {Q:β→Prop}
theorem Ok.mk{a:β}(h:Q a):Ok (some a) Q:=⟨a,rfl,h⟩
theorem Ok.bind{x:Option α}{P:α→Prop}{f:α→Option β}(h:Ok x P)(k:∀a,P a→Ok (f a) Q):Ok (x.bind f) Q:=by
 obtain⟨a,rfl,ha⟩:=h
 exact k a ha
theorem Ok.mono{x:Option β}{P:β→Prop}(h:Ok x P)(k:∀a,P a→Q a):Ok x Q:=by
 obtain⟨a,e,ha⟩:=h
 exact⟨a,e,k a ha⟩
theorem Ok.assoc{x:Option α}{g:α→Option γ}{f:γ→Option β}(h:Ok (x.bind fun a=>(g a).bind f) Q):Ok ((x.bind g).bind f) Q:=by
 rw[f9];exact h
theorem Ok.ite{c:Prop}[Decidable c]{x y:Option β}(h1:c→Ok x Q)(h2:¬c→Ok y Q):Ok (if c then x else y) Q:=by
 by_cases h:c
 ·rw[if_pos h];exact h1 h
 ·rw[if_neg h];exact h2 h
theorem Ok.iteb{c:Prop}[Decidable c]{x y:Option α}{f:α→Option β}(h1:c→Ok (x.bind f) Q)(h2:¬c→Ok (y.bind f) Q):Ok ((if c then x else y).bind f) Q:=by
 by_cases h:c
 ·rw[if_pos h];exact h1 h
 ·rw[if_neg h];exact h2 h
theorem Ok.tt[Decidable (true=true)]{x y:Option β}(h:Ok x Q):Ok (if true=true then x else y) Q:=by rw[if_pos rfl];exact h
theorem Ok.ff[Decidable (false=true)]{x y:Option β}(h:Ok y Q):Ok (if false=true then x else y) Q:=by rw[if_neg kD];exact h
theorem Ok.ttb[Decidable (true=true)]{x y:Option α}{f:α→Option β}(h:Ok (x.bind f) Q):Ok ((if true=true then x else y).bind f) Q:=by rw[if_pos rfl];exact h
theorem Ok.ffb[Decidable (false=true)]{x y:Option α}{f:α→Option β}(h:Ok (y.bind f) Q):Ok ((if false=true then x else y).bind f) Q:=by rw[if_neg kD];exact h
theorem Ok.someb{a:α}{f:α→Option β}(h:Ok (f a) Q):Ok ((some a).bind f) Q:=h
theorem Ok.mapb{a:α}{g:α→γ}{f:γ→Option β}(h:Ok (f (g a)) Q):Ok (((some a).map g).bind f) Q:=h
theorem Ok.cat{x y:ByteArray}{f:ByteArray→Option β}(hs:x.size+y.size≤1000000000)(h:∀s:ByteArray,s.size=x.size+y.size→Ok (f s) Q):Ok ((catB x y).bind f) Q:=by
 unfold catB
 rw[if_pos (by simp only[maxLen];omega)]
 exact h _ (by simp)
theorem Ok.app{b:Nat}{l k:List α}{f:List α→Option β}(hs:(l.length+k.length)*b≤140737488355328)(hb:0<b)(h:Ok (f (l++k)) Q):Ok ((qCn b l k).bind f) Q:=by
 rw[qDx hs hb];exact h
theorem Ok.loop{σ:Type}{f:σ→Option (σ⊕α)}{g:α→Option β}{s:σ}{N:Nat}(I:σ→Prop)(μ:σ→Nat)(R:α→Prop)
  (h:∀s,I s→Ok (f s) fun r=>match r with| .inl s'=>I s'∧μ s'<μ s| .inr b=>R b) (hs:I s) (hN:μ s<N) (k:∀b,R b→Ok (g b) Q):Ok ((qAs f N s).bind g) Q:=by
 obtain⟨b,h1,h2⟩:=zJf I μ R (fun s hs=>by
  obtain⟨r,h1,h2⟩:=h s hs
  cases r with
  |inl s'=>exact .inr ⟨s',h1,h2.1,h2.2⟩
  |inr b=>exact .inl ⟨b,h1,h2⟩) N s hs hN
 rw[h1];exact k b h2
end
theorem qUp(a:Array UInt8):(⟨a⟩:ByteArray).size=a.size:=rfl
theorem zQv{N:Nat}{v n:Int}(hn:n≤9223372036854775807):∃r,qKf N v n=some r∧0≤r∧(1≤n→r<n):=by
 simp only[qKf]
 by_cases h:n≤1
 ·exact⟨0,by simp[h],by omega,by omega⟩
 ·have hne:n≠0:=by omega
  have h1:=Int.tmod_lt_of_pos v (show 0<n by omega)
  have h2:=Int.lt_tmod_of_pos v (show 0<n by omega)
  simp only[h,decide_false,jB,jI,remS,hne,j0]
  by_cases h3:Int.tmod v n<0
  ·refine⟨Int.tmod v n+n,?_,by omega,by omega⟩
   simp only[h3,decide_true,jK,j0]
   rw[wi64 (by omega) (by omega)]
  ·exact⟨Int.tmod v n,by simp only[h3,decide_false,jB,jI,j0],by omega,by omega⟩
theorem qYb{N:Nat}{l:List Int}{a n:Int}(h0:0≤a)(h1:a<4611686018427387904)(hn:n≤9223372036854775807):∃r,qCe N (l,a) n=some ((l,a+1),r)∧0≤r∧(1≤n→r<n):=by
 simp only[qCe]
 have hv:∃v,(if(decide (a<(List.length l:Int)))=true then((idx l a).bind fun x1=>some x1) else(some (Int.tmod (IntKind.wrap .i64 (a*7)) 11)):Option Int)=some v:=by
  by_cases h:a<(l.length:Int)
  ·exact⟨_,by simp only[h,decide_true,jK];rw[qXq h0 (by omega)];rfl⟩
  ·exact⟨_,by simp only[h,decide_false,jB,jI];rfl⟩
 obtain⟨v,hv⟩:=hv
 obtain⟨r,hr,h2,h3⟩:=zQv (N:=N) (v:=v) hn
 exact⟨r,by simp only[hv,j0,hr];rw[wi64 (by omega) (by omega)],h2,h3⟩
section
variable {β:Type} {Q:β→Prop} {N:Nat} {l:List Int} {a:Int}
theorem Ok.next{n:Int}{f:(List Int×Int)×Int→Option β}(h0:0≤a)(h1:a<4611686018427387904)(hn:1≤n)(hn2:n≤1000000)(h:∀r,0≤r→r<n→Ok (f ((l,a+1),r)) Q):Ok ((qCe N (l,a) n).bind f) Q:=by
 obtain⟨r,hr,g1,g2⟩:=qYb (N:=N) (l:=l) h0 h1 (show n≤9223372036854775807 by omega)
 rw[hr];exact h r g1 (g2 hn)
theorem Ok.chance{n m:Int}{f:(List Int×Int)×Bool→Option β}(h0:0≤a)(h1:a<4611686018427387904)(hn:1≤m)(hn2:m≤1000000)(h:∀r,Ok (f ((l,a+1),r)) Q):Ok ((qCr N (l,a) n m).bind f) Q:=by
 obtain⟨r,hr,g1,g2⟩:=qYb (N:=N) (l:=l) h0 h1 (show m≤9223372036854775807 by omega)
 simp only[qCr,hr,j0]
 exact h _
theorem Ok.one{L:List ByteArray}{f:(List Int×Int)×ByteArray→Option β}(h0:0≤a)(h1:a<4611686018427387904)(hL:0<L.length)(hL2:L.length<1000)(h:∀x∈L,Ok (f ((l,a+1),x)) Q):Ok ((qBt N (l,a) L).bind f) Q:=by
 obtain⟨r,hr,g1,g2⟩:=qYb (N:=N) (l:=l) h0 h1 (show(L.length:Int)≤9223372036854775807 by omega)
 have g2:=g2 (by omega)
 have hlt:r.toNat<L.length:=by omega
 simp only[qBt]
 rw[if_neg (by rw[kJ];omega),hr]
 simp only[j0]
 rw[qXq g1 hlt]
 exact h _ (k9 hlt)
theorem Ok.oneP{L:List ByteArray}{f:(List Int×Int)×ByteArray→Option β}(h0:0≤a)(h1:a<4611686018427387904)(hc:decide ((List.length L:Int)>0)=true)(hL2:L.length<1000)(hL3:∀x∈L,x.size≤12)(h:∀x:ByteArray,x.size≤12→Ok (f ((l,a+1),x)) Q):Ok ((qBt N (l,a) L).bind f) Q:=
 Ok.one h0 h1 (by have:=gL hc;omega) hL2 fun x hx=>h x (hL3 x hx)
theorem Ok.oneS{L:List ByteArray}{f:(List Int×Int)×ByteArray→Option β}(h0:0≤a)(h1:a<4611686018427387904)(hL:(decide (0<L.length)&&decide (L.length<1000)&&L.all fun x=>decide (x.size≤12))=true)(h:∀x:ByteArray,x.size≤12→Ok (f ((l,a+1),x)) Q):Ok ((qBt N (l,a) L).bind f) Q:=by
 simp only[jL,jA] at hL
 exact Ok.one h0 h1 hL.1.1 hL.1.2 fun x hx=>h x (by simpa using kA.1 hL.2 x hx)
theorem Ok.pick{L:List Int}{f:(List Int×Int)×Int→Option β}(h0:0≤a)(h1:a<4611686018427387904)(hL:0<L.length)(hL2:L.length<1000)(h:∀x∈L,Ok (f ((l,a+1),x)) Q):Ok ((qDl N (l,a) L).bind f) Q:=by
 obtain⟨r,hr,g1,g2⟩:=qYb (N:=N) (l:=l) h0 h1 (show(L.length:Int)≤9223372036854775807 by omega)
 have g2:=g2 (by omega)
 have hlt:r.toNat<L.length:=by omega
 simp only[qDl]
 rw[if_neg (by rw[kJ];omega),hr]
 simp only[j0]
 rw[qXq g1 hlt]
 exact h _ (k9 hlt)
theorem Ok.pickS{L:List Int}{f:(List Int×Int)×Int→Option β}(h0:0≤a)(h1:a<4611686018427387904)(hL:(decide (0<L.length)&&decide (L.length<1000)&&L.all fun x=>decide (0≤x∧x≤9007199254740992))=true)(h:∀x:Int,0≤x→x≤9007199254740992→Ok (f ((l,a+1),x)) Q):Ok ((qDl N (l,a) L).bind f) Q:=by
 simp only[jL,jA] at hL
 exact Ok.pick h0 h1 hL.1.1 hL.1.2 fun x hx=>by
  have:=kA.1 hL.2 x hx
  simp only[jA] at this
  exact h x this.1 this.2
theorem zCv:∀(k D:Nat) (x:Int),k<D→k≤100→0≤x→x<10^(k+1)→x≤9223372036854775806→Ok (qIc N D x) fun s=>s.size≤k+1
 |_,0,_,h,_,_,_,_=>absurd h (kL _)
 |k,D+1,x,hk,hk9,h0,h1,h2=>by
  show Ok (qIa N (qIc N D) x) _
  unfold qIa
  have hsz:ByteArray.size (⟨#[48,49,50,51,52,53,54,55,56,57]⟩:ByteArray)=10:=rfl
  by_cases hx:x<10
  ·rw[if_pos (by simpa using hx),wi64 (by omega) (by omega),qYw h0 (by omega) (by omega)]
   refine Ok.mk ?_
   simp only[ByteArray.size_extract,hsz];omega
  ·rw[if_neg (by simpa using hx)]
   obtain⟨k,rfl⟩:∃k',k=k'+1:=by
    cases k with
    |zero=>simp at h1;omega
    |succ k=>exact⟨k,rfl⟩
   obtain⟨D,rfl⟩:∃D',D=D'+1:=⟨D-1,by omega⟩
   have e1:Int.tdiv x 10=x/10:=Int.tdiv_eq_ediv_of_nonneg h0
   have e2:Int.tmod x 10=x%10:=Int.tmod_eq_emod_of_nonneg h0
   have hp:(10:Int)^(k+1+1)=10*10^(k+1):=by rw[Int.pow_succ];omega
   rw[e1,e2,wi64 (by omega) (by omega)]
   refine Ok.bind (zCv k (D+1) (x/10) (by omega) (by omega) (by omega) (by omega) (by omega)) fun s hs=> ?_
   refine Ok.bind (zCv 0 (D+1) (x%10) (by omega) (by omega) (by omega) (by simp;omega) (by omega)) fun t ht=> ?_
   exact Ok.cat (by omega) fun u hu=>Ok.mk (by omega)
theorem zPz{x:Int}(h0:0≤x)(h1:x≤9007199254740992)(hN:100<N):Ok (qJi N x) fun s=>s.size≤16:=
 zCv 15 N x (by omega) (by omega) h0 (by rw[show(10:Int)^(15+1)=10000000000000000 from by kernel_rfl];omega) (by omega)
theorem Ok.digits{x:Int}{f:ByteArray→Option β}(h0:0≤x)(h1:x≤9007199254740992)(hN:100<N)(h:∀s:ByteArray,s.size≤16→Ok (f s) Q):Ok ((qJi N x).bind f) Q:=Ok.bind (zPz h0 h1 hN) h
end
def qRr:Nat→Nat
 |0=>8
 |d+1=>3*qRr d+8
def qUx:Nat→Nat
 |0=>22
 |d+1=>3*qUx d+20
theorem zJm:∀d,22≤qUx d
 |0=>jP _
 |d+1=>by have:=zJm d;simp only[qUx];omega
section
variable {N:Nat} {l:List Int}
def zAf(N:Nat)(l:List Int)(E:(List Int×Int)→Int→List ByteArray→Option ((List Int×Int)×ByteArray))(d:Nat)(ps:List ByteArray):Prop:=
 ∀a:Int,0≤a→a+qRr d<2000000000000000000→Ok (E (l,a) (d:Int) ps) fun y=>∃a' s,y=((l,a'),s)∧a≤a'∧a'≤a+qRr d∧s.size≤qUx d
theorem Ok.expr{β:Type}{Q:β→Prop}{E:(List Int×Int)→Int→List ByteArray→Option ((List Int×Int)×ByteArray)}{d:Nat}{ps:List ByteArray}(hE:zAf N l E d ps){a:Int}{f:(List Int×Int)×ByteArray→Option β}(h0:0≤a)(h1:a+qRr d<2000000000000000000)
  (h:∀(a':Int) (s:ByteArray),a≤a'→a'≤a+qRr d→s.size≤qUx d→Ok (f ((l,a'),s)) Q):Ok ((E (l,a) (d:Int) ps).bind f) Q:=
 Ok.bind (hE a h0 h1) fun y hy=>by
  obtain⟨a',s,rfl,g1,g2,g3⟩:=hy
  exact h a' s g1 g2 g3
theorem zBu(d:Nat)(hd:d≤5):qRr d≤10000∧qUx d≤20000:=by
 match d,hd with
 |0,_=>decide
 |1,_=>decide
 |2,_=>decide
 |3,_=>decide
 |4,_=>decide
 |5,_=>decide
set_option maxHeartbeats 4000000 in
theorem zOz{E:(List Int×Int)→Int→List ByteArray→Option ((List Int×Int)×ByteArray)}{d:Nat}{ps:List ByteArray}(hd:d=0)(hps:ps.length<1000)(hps2:∀x∈ps,x.size≤12)(hN:100<N):zAf N l (qGh N E) d ps:=by
 subst hd
 intro a h0 h1
 have hc:qRr 0=8:=rfl
 have hz:qUx 0=22:=rfl
 simp only[qGh,hc,hz,qEv,qHp]
 rw[if_pos (show decide (((0:Nat):Int)≤0)=true by decide)]
 repeat' first
  |with_reducible apply Ok.tt
  |with_reducible apply Ok.ff
  |with_reducible apply Ok.ttb
  |with_reducible apply Ok.ffb
  |with_reducible apply Ok.assoc
  |((with_reducible apply Ok.iteb)<;>intro _)
  |((with_reducible apply Ok.ite)<;>intro _)
  |with_reducible apply Ok.someb
  |with_reducible apply Ok.mapb
  |((with_reducible refine Ok.mk ⟨_,_,rfl,?_,?_,?_⟩)<;>omega)
  |((with_reducible refine Ok.next ?_ ?_ ?_ ?_ (fun _ _ _=> ?_))<;>try omega)
  |((with_reducible refine Ok.chance ?_ ?_ ?_ ?_ (fun _=> ?_))<;>try omega)
  |((with_reducible refine Ok.pickS ?_ ?_ (by decide) (fun _ _ _=> ?_))<;>try omega)
  |((with_reducible refine Ok.oneP ?_ ?_ (by assumption) hps hps2 (fun _ _=> ?_))<;>try omega)
  |((with_reducible refine Ok.oneS ?_ ?_ (by decide) (fun _ _=> ?_))<;>try omega)
  |((with_reducible refine Ok.digits ?_ ?_ hN (fun _ _=> ?_))<;>try omega)
  |((with_reducible refine Ok.cat ?_ (fun _ h=> ?_))<;>simp only[qUp,kK,jD,jF,Nat.reduceAdd] at* <;>try omega)
  |((with_reducible refine Ok.cat ?_ (fun _ _=> ?_))<;>try omega)
  |(apply Ok.iteb<;>intro _)
  |dsimp only
 all_goals omega
theorem Ok.pick01{β:Type}{Q:β→Prop}{a:Int}{f:(List Int×Int)×Int→Option β}(h0:0≤a)(h1:a<4611686018427387904)(h:∀x:Int,x=0∨x=1→Ok (f ((l,a+1),x)) Q):Ok ((qDl N (l,a) [0,0,0,1]).bind f) Q:=
 Ok.pick h0 h1 (by decide) (by decide) fun x hx=>h x (by simp at hx;omega)
theorem Ok.exprloop{β:Type}{Q:β→Prop}{E:(List Int×Int)→Int→List ByteArray→Option ((List Int×Int)×ByteArray)}{d:Nat}{ps:List ByteArray}(hE:zAf N l E d ps)(hd:d≤5){p1:Int}(hp:IntKind.wrap .i64 (p1-1)=(d:Int)){s:ByteArray}{n a:Int}{f:ByteArray×List Int×Int→Option β}
  (hn:n=0∨n=1) (h0:0≤a) (h1:a+qRr d<2000000000000000000) (hs:s.size≤100000000) (hN:100<N) (h:∀(s':ByteArray) (a':Int),a≤a'→a'≤a+qRr d→s'.size≤s.size+qUx d+2→Ok (f (s',l,a')) Q):Ok ((qAs (qIp N E p1 ps) N (s,n,l,a)).bind f) Q:=by
 have hsm:=zBu d hd
 refine Ok.loop (fun st=>∃s' n' a',st=(s',n',l,a')∧((n'=n∧a'=a∧s'=s)∨(n'=0∧a≤a'∧a'≤a+qRr d∧s'.size≤s.size+qUx d+2))) (fun st=>st.2.1.toNat) (fun b=>∃s' a',b=(s',l,a')∧a≤a'∧a'≤a+qRr d∧s'.size≤s.size+qUx d+2) ?_ ⟨s,n,a,rfl,.inl ⟨rfl,rfl,rfl⟩⟩ (by simp only;omega) ?_
 ·rintro _ ⟨s',n',a',rfl,hc⟩
  simp only[qIp]
  by_cases hn0:n'>0
  ·rw[if_pos (by simpa using hn0),hp]
   have hc:n'=n∧a'=a∧s'=s:=hc.resolve_right fun h=>by omega
   obtain⟨rfl,rfl,rfl⟩:=hc
   refine Ok.expr hE h0 h1 fun a2 t g1 g2 g3=> ?_
   refine Ok.cat (by simp only[qUp,kK,jD,jF,Nat.reduceAdd];omega) fun u hu=> ?_
   simp only[qUp,kK,jD,jF,Nat.reduceAdd] at hu
   refine Ok.cat (by omega) fun v hv=> ?_
   refine Ok.mk ⟨⟨v,_,a2,rfl,.inr ⟨by rw[wi64 (by omega) (by omega)];omega,g1,g2,by omega⟩⟩,?_⟩
   simp only
   rw[wi64 (by omega) (by omega)]
   omega
  ·rw[if_neg (by simpa using hn0)]
   refine Ok.mk ⟨s',a',rfl,?_⟩
   rcases hc with ⟨_,rfl,rfl⟩|⟨_,g1,g2,g3⟩
   ·omega
   ·exact⟨g1,g2,g3⟩
 ·rintro _ ⟨s',a',rfl,g1,g2,g3⟩
  exact h s' a' g1 g2 g3
set_option maxHeartbeats 8000000 in
theorem zQc{E:(List Int×Int)→Int→List ByteArray→Option ((List Int×Int)×ByteArray)}{d:Nat}{ps:List ByteArray}(hE:zAf N l E d ps)(hd:d≤4)(hps:ps.length<1000)(hps2:∀x∈ps,x.size≤12)(hN:100<N):zAf N l (qGh N E) (d+1) ps:=by
 intro a h0 h1
 have hc:qRr (d+1)=3*qRr d+8:=rfl
 have hz:qUx (d+1)=3*qUx d+20:=rfl
 have hge:=zJm d
 have hsm:=zBu d (by omega)
 have hw:IntKind.wrap .i64 (((d+1:Nat):Int)-1)=(d:Int):=by rw[wi64 (by omega) (by omega)];omega
 simp only[qGh,hc,hz,qEv,qHp,qGc,hw]
 repeat' first
  |with_reducible apply Ok.tt
  |with_reducible apply Ok.ff
  |with_reducible apply Ok.ttb
  |with_reducible apply Ok.ffb
  |with_reducible apply Ok.assoc
  |((with_reducible apply Ok.iteb)<;>intro _)
  |((with_reducible apply Ok.ite)<;>intro _)
  |with_reducible apply Ok.someb
  |with_reducible apply Ok.mapb
  |((with_reducible refine Ok.mk ⟨_,_,rfl,?_,?_,?_⟩)<;>omega)
  |((with_reducible refine Ok.next ?_ ?_ ?_ ?_ (fun _ _ _=> ?_))<;>try omega)
  |((with_reducible refine Ok.chance ?_ ?_ ?_ ?_ (fun _=> ?_))<;>try omega)
  |((with_reducible refine Ok.pick01 ?_ ?_ (fun _ _=> ?_))<;>try omega)
  |((with_reducible refine Ok.exprloop hE (by omega) hw (by assumption) ?_ ?_ ?_ hN (fun _ _ _ _ _=> ?_))<;>try omega)
  |((with_reducible refine Ok.expr hE ?_ ?_ (fun _ _ _ _ _=> ?_))<;>try omega)
  |((with_reducible refine Ok.pickS ?_ ?_ (by decide) (fun _ _ _=> ?_))<;>try omega)
  |((with_reducible refine Ok.oneP ?_ ?_ (by assumption) hps hps2 (fun _ _=> ?_))<;>try omega)
  |((with_reducible refine Ok.oneS ?_ ?_ (by decide) (fun _ _=> ?_))<;>try omega)
  |((with_reducible refine Ok.digits ?_ ?_ hN (fun _ _=> ?_))<;>try omega)
  |((with_reducible refine Ok.cat ?_ (fun _ h=> ?_))<;>simp only[qUp,kK,jD,jF,Nat.reduceAdd] at* <;>try omega)
  |((with_reducible refine Ok.cat ?_ (fun _ _=> ?_))<;>try omega)
  |(apply Ok.iteb<;>intro _)
  |dsimp only
 all_goals omega
theorem zSz:∀(d D:Nat) (ps:List ByteArray),d<D→d≤5→ps.length<1000→(∀x∈ps,x.size≤12)→100<N→zAf N l (qJd N D) d ps
 |_,0,_,h,_,_,_,_=>absurd h (kL _)
 |0,D+1,ps,_,_,h1,h2,hN=>zOz (E:=qJd N D) rfl h1 h2 hN
 |d+1,D+1,ps,h,hd,h1,h2,hN=>zQc (zSz d D ps (by omega) (by omega) h1 h2 hN) (by omega) h1 h2 hN
theorem zNz{d:Nat}{ps:List ByteArray}(hd:d≤5)(h1:ps.length<1000)(h2:∀x∈ps,x.size≤12)(hN:100<N):zAf N l (qHt N) d ps:=zSz d N ps (by omega) hd h1 h2 hN
theorem Ok.expr3{β:Type}{Q:β→Prop}{ps:List ByteArray}{a:Int}{f:(List Int×Int)×ByteArray→Option β}(hN:100<N)(h0:0≤a)(h1:a+10000<2000000000000000000)(hps:ps.length≤2∧∀x∈ps,x.size≤12)
  (h:∀(a':Int) (s:ByteArray),a≤a'→a'≤a+10000→s.size≤854→Ok (f ((l,a'),s)) Q):Ok ((qHt N (l,a) 3 ps).bind f) Q:=
 Ok.expr (d:=3) (zNz (by omega) (by omega) hps.2 hN) h0 (by have:qRr 3=320:=rfl;have:qRr 2=104:=rfl;omega) fun a' s g1 g2 g3=>h a' s g1 (by have:qRr 3=320:=rfl;omega) (by have:qUx 3=854:=rfl;omega)
theorem Ok.expr2{β:Type}{Q:β→Prop}{ps:List ByteArray}{a:Int}{f:(List Int×Int)×ByteArray→Option β}(hN:100<N)(h0:0≤a)(h1:a+10000<2000000000000000000)(hps:ps.length≤2∧∀x∈ps,x.size≤12)
  (h:∀(a':Int) (s:ByteArray),a≤a'→a'≤a+10000→s.size≤854→Ok (f ((l,a'),s)) Q):Ok ((qHt N (l,a) 2 ps).bind f) Q:=
 Ok.expr (d:=2) (zNz (by omega) (by omega) hps.2 hN) h0 (by have:qRr 3=320:=rfl;have:qRr 2=104:=rfl;omega) fun a' s g1 g2 g3=>h a' s g1 (by have:qRr 2=104:=rfl;omega) (by have:qUx 2=278:=rfl;omega)
set_option maxHeartbeats 8000000 in
theorem zUx{a:Int}(hN:100<N)(h0:0≤a)(h1:a<1000000000000000000):Ok (qIw N (l,a)) fun y=>∃a' s,y=((l,a'),s)∧a≤a'∧a'≤a+10010∧s.size≤890:=by
 simp only[qIw,qLg,qEv,qGc]
 repeat' first
  |with_reducible apply Ok.tt
  |with_reducible apply Ok.ff
  |with_reducible apply Ok.ttb
  |with_reducible apply Ok.ffb
  |with_reducible apply Ok.assoc
  |((with_reducible apply Ok.iteb)<;>intro _)
  |((with_reducible apply Ok.ite)<;>intro _)
  |with_reducible apply Ok.someb
  |with_reducible apply Ok.mapb
  |((with_reducible refine Ok.mk ⟨_,_,rfl,?_,?_,?_⟩)<;>omega)
  |((with_reducible refine Ok.next ?_ ?_ ?_ ?_ (fun _ _ _=> ?_))<;>try omega)
  |((with_reducible refine Ok.chance ?_ ?_ ?_ ?_ (fun _=> ?_))<;>try omega)
  |((with_reducible refine Ok.expr3 hN ?_ ?_ ?_ (fun _ _ _ _ _=> ?_))<;>first|omega|exact⟨by decide,by decide⟩|skip)
  |((with_reducible refine Ok.expr2 hN ?_ ?_ ?_ (fun _ _ _ _ _=> ?_))<;>first|omega|exact⟨by decide,by decide⟩|skip)
  |(with_reducible refine Ok.app (by simp) (by decide) ?_)
  |((with_reducible refine Ok.pickS ?_ ?_ (by decide) (fun _ _ _=> ?_))<;>try omega)
  |((with_reducible refine Ok.oneS ?_ ?_ (by decide) (fun _ _=> ?_))<;>try omega)
  |((with_reducible refine Ok.digits ?_ ?_ hN (fun _ _=> ?_))<;>try omega)
  |((with_reducible refine Ok.cat ?_ (fun _ h=> ?_))<;>simp only[qUp,kK,jD,jF,Nat.reduceAdd] at* <;>try omega)
  |((with_reducible refine Ok.cat ?_ (fun _ _=> ?_))<;>try omega)
  |(apply Ok.iteb<;>intro _)
  |dsimp only
 all_goals omega
theorem Has_ok{L:List ByteArray}{x:ByteArray}(hL:L.length<1000000)(hN:L.length<N):Ok (qIk N L x) fun _=>True:=by
 unfold qIk
 refine Ok.loop (fun st=>∃j:Nat,st=(j:Int)∧j≤L.length) (fun st=>L.length-st.toNat) (fun _=>True) ?_ ⟨0,rfl,kO _⟩ (by show L.length-(0:Int).toNat<N;omega) ?_
 ·rintro _ ⟨j,rfl,hj⟩
  simp only[qKr]
  by_cases h:j<L.length
  ·rw[if_pos (by simpa using h),qCo h]
   simp only[j0]
   refine Ok.ite (fun _=>Ok.mk trivial) fun _=>Ok.mk ⟨⟨j+1,by rw[wi64 (by omega) (by omega)];omega,by omega⟩,?_⟩
   rw[wi64 (by omega) (by omega)];omega
  ·rw[if_neg (by simpa using h)];exact Ok.mk trivial
 ·intro b _
  cases b<;>exact Ok.mk trivial
theorem Ok.has{β:Type}{Q:β→Prop}{L:List ByteArray}{x:ByteArray}{f:Bool→Option β}(hL:L.length<1000000)(hN:L.length<N)(h:∀b,Ok (f b) Q):Ok ((qIk N L x).bind f) Q:=Ok.bind (Has_ok hL hN) fun b _=>h b
theorem Ok.decl{β:Type}{Q:β→Prop}{a:Int}{f:(List Int×Int)×ByteArray→Option β}(hN:100<N)(h0:0≤a)(h1:a<1000000000000000000)
  (h:∀(a':Int) (s:ByteArray),a≤a'→a'≤a+10010→s.size≤890→Ok (f ((l,a'),s)) Q):Ok ((qIw N (l,a)).bind f) Q:=
 Ok.bind (zUx hN h0 h1) fun y hy=>by
  obtain⟨a',s,rfl,g1,g2,g3⟩:=hy
  exact h a' s g1 g2 g3
theorem zUb{β:Type}{Q:β→Prop}{y:(List Int×Int)×ByteArray}{f:ByteArray→Option β}(hs:y.2.size≤890)(hN:3000<N)(h:∀s:ByteArray,Ok (f s) Q):Ok ((qAs (qHq N y) N (y.2,0)).bind f) Q:=by
 refine Ok.loop (fun st=>∃j:Nat,st.2=(j:Int)∧j≤y.2.size) (fun st=>y.2.size-st.2.toNat) (fun _=>True) ?_ ⟨0,rfl,kO _⟩ (by simp only;omega) (fun b _=>h b)
 rintro⟨s,_⟩ ⟨j,rfl,hj⟩
 simp only[qHq]
 by_cases hlt:j<y.2.size
 ·rw[if_pos (by simpa using hlt),zJn hlt]
  simp only[j0]
  refine Ok.bind (P:=fun _=>True) (Ok.ite (fun _=>Ok.mk trivial) fun _=>Ok.mk trivial) fun b _=> ?_
  refine Ok.ite (fun _=> ?_) fun _=> ?_
  ·rw[qYw (by omega) (by omega) (by omega)];exact Ok.mk trivial
  ·refine Ok.mk ⟨⟨j+1,by simp only;rw[wi64 (by omega) (by omega)];omega,by omega⟩,?_⟩
   simp only;rw[wi64 (by omega) (by omega)];omega
 ·rw[if_neg (by simpa using hlt)];exact Ok.mk trivial
theorem zQl{a:Int}{pk:ByteArray}(hN:3000<N)(h0:0≤a)(h1:a<100000000000000000)(hp:pk.size≤12):Ok (qIz N (l,a) pk) fun y=>∃a' s,y=((l,a'),s)∧a≤a'∧a'≤a+100000∧s.size≤4700:=by
 simp only[qIz]
 refine Ok.cat (by simp only[qUp,kK,jD,jF,Nat.reduceAdd];omega) fun s1 e1=> ?_
 simp only[qUp,kK,jD,jF,Nat.reduceAdd] at e1
 refine Ok.cat (by simp only[qUp,kK,jD,jF,Nat.reduceAdd];omega) fun s2 e2=> ?_
 simp only[qUp,kK,jD,jF,Nat.reduceAdd] at e2
 refine Ok.chance h0 (by omega) (by omega) (by omega) fun c=> ?_
 refine Ok.bind (P:=fun s:ByteArray=>s.size≤60) (Ok.ite (fun _=>Ok.cat (by simp only[qUp,kK,jD,jF,Nat.reduceAdd];omega) fun s3 e3=>Ok.mk (by simp only[qUp,kK,jD,jF,Nat.reduceAdd] at e3;omega)) fun _=>Ok.mk (by omega)) fun o1 e3=> ?_
 dsimp only
 refine Ok.next (by omega) (by omega) (by omega) (by omega) fun r g1 g2=> ?_
 dsimp only
 -- imports
 refine Ok.loop (fun st=>∃s L n a',st=(s,L,n,l,a')∧0≤n∧n≤2∧(L.length:Int)+n≤2∧(s.size:Int)≤60+30*(2-n)∧a≤a'∧a'≤a+10+(2-n)) (fun st=>st.2.2.1.toNat) (fun b=>∃s a',b=(s,l,a')∧s.size≤120∧a≤a'∧a'≤a+20) ?_ ⟨o1,[],r,a+1+1,rfl,g1,by omega,by simp only[jF];omega,by omega,by omega,by omega⟩ (by simp only;omega) ?_
 ·rintro _ ⟨s,L,n,a',rfl,k1,k2,k3,k4,k5,k6⟩
  simp only[qJk,qGl]
  by_cases hn:n>0
  ·rw[if_pos (by simpa using hn)]
   refine Ok.assoc (Ok.someb ?_)
   refine Ok.assoc (Ok.oneS (by omega) (by omega) (by decide) fun x hx=> ?_)
   dsimp only
   refine Ok.assoc (Ok.bind (P:=fun _=>True) (Ok.ite (fun _=>Ok.has (by omega) (by omega) fun b=>Ok.mk trivial) fun _=>Ok.mk trivial) fun o4 _=> ?_)
   refine Ok.iteb (fun _=> ?_) fun _=> ?_
   ·refine Ok.assoc (Ok.app (by simp only[jD,jF];omega) (by decide) ?_)
    refine Ok.assoc (Ok.cat (by simp only[qUp,kK,jD,jF,Nat.reduceAdd];omega) fun t1 f1=> ?_)
    simp only[qUp,kK,jD,jF,Nat.reduceAdd] at f1
    refine Ok.assoc (Ok.cat (by simp only[qUp,kK,jD,jF,Nat.reduceAdd];omega) fun t2 f2=> ?_)
    simp only[qUp,kK,jD,jF,Nat.reduceAdd] at f2
    refine Ok.assoc (Ok.cat (by omega) fun t3 f3=>Ok.someb (Ok.mk ?_))
    dsimp only
    rw[wi64 (by omega) (by omega)]
    exact⟨⟨t3,_,_,_,rfl,by omega,by omega,by simp only[jC,jD,jF];omega,by omega,by omega,by omega⟩,by omega⟩
   ·refine Ok.someb (Ok.mk ?_)
    dsimp only
    rw[wi64 (by omega) (by omega)]
    exact⟨⟨s,_,_,_,rfl,by omega,by omega,by omega,by omega,by omega,by omega⟩,by omega⟩
  ·rw[if_neg (by simpa using hn)]
   exact Ok.mk ⟨s,a',rfl,by omega,k5,by omega⟩
 rintro _ ⟨s,b1,rfl,q1,q2,q3⟩
 dsimp only
 refine Ok.next (by omega) (by omega) (by omega) (by omega) fun r2 g3 g4=> ?_
 dsimp only
 -- declarations
 refine Ok.loop (fun st=>∃s L n a',st=(s,L,n,l,a')∧0≤n∧n≤5∧(L.length:Int)+n≤5∧(s.size:Int)≤120+890*(5-n)∧a≤a'∧a'≤a+100+10020*(5-n)) (fun st=>st.2.2.1.toNat) (fun b=>∃s a',b=(s,l,a')∧s.size≤4580∧a≤a'∧a'≤a+60000) ?_ ⟨s,[],_,b1+1,rfl,by rw[wi64 (by omega) (by omega)];omega,by rw[wi64 (by omega) (by omega)];omega,by rw[wi64 (by omega) (by omega)];simp only[jF];omega,by rw[wi64 (by omega) (by omega)];omega,by omega,by rw[wi64 (by omega) (by omega)];omega⟩ (by simp only;rw[wi64 (by omega) (by omega)];omega) ?_
 ·rintro _ ⟨s,L,n,a',rfl,k1,k2,k3,k4,k5,k6⟩
  simp only[qJj]
  by_cases hn:n>0
  ·rw[if_pos (by simpa using hn)]
   refine Ok.assoc (Ok.decl (by omega) (by omega) (by omega) fun a2 d v1 v2 v3=> ?_)
   refine Ok.assoc (zUb (y:=((l,a2),d)) v3 hN fun hd=> ?_)
   dsimp only
   refine Ok.assoc (Ok.bind (P:=fun o:Bool×List Int×Int=>o.2.1=l∧a2≤o.2.2∧o.2.2≤a2+1) (Ok.has (by omega) (by omega) fun b=>Ok.ite (fun _=>Ok.mk ⟨rfl,by simp only;omega,by simp only;omega⟩) fun _=>Ok.chance (by omega) (by omega) (by omega) (by omega) fun c=>Ok.mk ⟨rfl,by simp only;omega,by simp only;omega⟩) fun o9 h9=> ?_)
   obtain⟨b9,l9,a9⟩:=o9
   obtain⟨rfl,w1,w2⟩:=h9
   dsimp only at w1 w2 ⊢
   refine Ok.iteb (fun _=> ?_) fun _=> ?_
   ·refine Ok.assoc (Ok.app (by simp only[jD,jF];omega) (by decide) ?_)
    refine Ok.assoc (Ok.cat (by omega) fun t3 f3=>Ok.someb (Ok.mk ?_))
    dsimp only
    rw[wi64 (by omega) (by omega)]
    exact⟨⟨t3,_,_,_,rfl,by omega,by omega,by simp only[jC,jD,jF];omega,by omega,by omega,by omega⟩,by omega⟩
   ·refine Ok.someb (Ok.mk ?_)
    dsimp only
    rw[wi64 (by omega) (by omega)]
    exact⟨⟨s,_,_,_,rfl,by omega,by omega,by omega,by omega,by omega,by omega⟩,by omega⟩
  ·rw[if_neg (by simpa using hn)]
   exact Ok.mk ⟨s,a',rfl,by omega,k5,by omega⟩
 rintro _ ⟨s,b2,rfl,u1,u2,u3⟩
 dsimp only
 refine Ok.chance (by omega) (by omega) (by omega) (by omega) fun c=> ?_
 dsimp only
 refine Ok.iteb (fun _=> ?_) fun _=> ?_
 ·refine Ok.assoc (Ok.oneS (by omega) (by omega) (by decide) fun x hx=> ?_)
  dsimp only
  refine Ok.assoc (Ok.cat (by omega) fun t f1=>Ok.someb (Ok.mk ?_))
  dsimp only
  refine⟨_,_,rfl,?_,?_,?_⟩<;>omega
 ·refine Ok.someb (Ok.mk ?_)
  dsimp only
  refine⟨_,_,rfl,?_,?_,?_⟩<;>omega
end
end
section
open Go Go.Dc Go.Proofs
def mnT:ByteArray:=⟨#[112,97,99,107,97,103,101,32,112,59,32,105,109,112,111,114,116,32,113,59,32,116,101,115,116,32,116,32,61,32,102,40,114,101,97,100,40,34,97,46,100,97,116,34,44,32,102,108,105,112,40,48,41,41,41,59]⟩
def mnS:ByteArray:=⟨#[112,97,99,107,97,103,101,32,112,59,10,105,109,112,111,114,116,32,113,59,10,116,101,115,116,32,116,32,61,32,102,40,114,101,97,100,40,34,97,46,100,97,116,34,44,32,102,108,105,112,40,48,41,41,41,59,10]⟩
def mnE(a:Int):List Ex:=[(10,a,0,emB,[]),(6,0,0,⟨#[97,46,100,97,116]⟩,[0]),(3,0,0,⟨#[102]⟩,[1])]
def mnD(a:Int):Dl:=(2,⟨#[116]⟩,[],mnE a)
def mnL:Sr:=(⟨#[112]⟩,[⟨#[113]⟩],[mnD 0])
def mnF:Sr:=(⟨#[112]⟩,[],[(1,⟨#[102]⟩,[],mnE 0)])
theorem mn_p:qZt mnT=(mnL,0,0):=by kernel_rfl
theorem zMj:qLc mnL=0:=by kernel_rfl
theorem zUw:qLc mnF=0:=by kernel_rfl
theorem zKj:∀e∈mnE 0,e.2.2.2.1.size≤1048576∧e.2.2.2.2.length<2000000:=fun e he=>by
 have he:e∈[((10,0,0,emB,[]):Ex),(6,0,0,⟨#[97,46,100,97,116]⟩,[0]),(3,0,0,⟨#[102]⟩,[1])]:=he
 simp only[jN,gG,dO] at he
 rcases he with rfl|rfl|rfl
 ·exact⟨by show 0≤1048576;decide,by decide⟩
 ·exact⟨by show 5≤1048576;decide,by decide⟩
 ·exact⟨by show 1≤1048576;decide,by decide⟩
theorem mn_sm:SmSr mnL:=by
 refine⟨by show 1<2000000;decide,by show 1<2000000;decide,fun d hd=> ?_⟩
 have hd:d=mnD 0:=jS.1 hd
 subst hd
 exact⟨by show(1:Nat)≤1048576;decide,by show 0<2000000;decide,by show 3<2000000;decide,zKj⟩
theorem mn_smF:SmSr mnF:=by
 refine⟨by show 0<2000000;decide,by show 1<2000000;decide,fun d hd=> ?_⟩
 have hd:d=(1,⟨#[102]⟩,[],mnE 0):=jS.1 hd
 subst hd
 exact⟨by show(1:Nat)≤1048576;decide,by show 0<2000000;decide,by show 3<2000000;decide,zKj⟩
theorem it0:itB 0=⟨#[48]⟩:=zPx (by
 rw[show itB 0=itB ((0:Nat):Int) from rfl,zSn,Lib.decDigits_one (by decide)]
 rfl)
theorem mn_w(a:Int):wrD (mnD a)=((⟨#[102]⟩:ByteArray)++(⟨#[40]⟩:ByteArray)).data.toList++(qPa 0 [(((⟨#[114,101,97,100,40,34]⟩:ByteArray)++(⟨#[97,46,100,97,116]⟩:ByteArray))++(⟨#[34,44,32]⟩:ByteArray)).data.toList++((((⟨#[102,108,105,112,40]⟩:ByteArray)++itB a)++(⟨#[41]⟩:ByteArray)).data.toList++[41])]++[41]):=by kernel_rfl
def mnW:List UInt8:=[102,40,114,101,97,100,40,34,97,46,100,97,116,34,44,32,102,108,105,112,40,48,41,41,41]
theorem mn_w0:wrD (mnD 0)=mnW:=by
 rw[mn_w,it0]
 rfl
theorem qJl{α β:Type}{x:Option α}{v:α}{f:α→Option β}{r:Option β}(h:x=some v)(h2:f v=r):Option.bind x f=r:=by
 subst h;exact h2
theorem zVc{N:Nat}(hN:3000000<N):qMk N (mnE 0) []=some (qKl mnW,0):=by
 have hc:qHg N mnF=_:=qVt mn_smF hN
 rw[zUw] at hc
 obtain⟨g1,-,g3,-⟩:=(qSd zMj).decs (mnD 0) (jS.2 rfl)
 have hw:qLm N (mnE 0) []=some (qKl (wrD (mnD 0)),(depD (mnD 0):Int)):=(zDw g1 g3 hN).1
 unfold qMk
 refine qJl (show qHg N mnF=some 0 from hc) ?_
 refine Eq.trans (if_neg (by decide)) ?_
 refine qJl hw ?_
 rw[mn_w0]
theorem zTm{N:Nat}{f:Sr}(h:GoodS f)(hN:3000000<N){t0:List UInt8}(ht:t0.length≤100):qAs (qJe N f) N (0,t0)=some (t0++f.2.1.flatMap impT)∧(t0++f.2.1.flatMap impT).length≤600:=by
 have hn:=h.impn
 have hlen:∀s∈f.2.1,(impT s).length≤40:=fun s hs=>by
  have:=qKy (h.imps s hs)
  have z1:(⟨#[105,109,112,111,114,116,32]⟩:ByteArray).size=7:=rfl
  have z2:(⟨#[59,10]⟩:ByteArray).size=2:=rfl
  unfold impT
  simp only[szl,ByteArray.size_append];omega
 constructor
 ·have hl:=qGm (L:=f.2.1) (fun(t:List UInt8) (i:Nat)=>((i:Int),t)) (f:=qJe N f)
   (fun t s=> .inl (t++impT s)) (fun t=>t) (fun i t=>t.length≤100+40*i) (by
    intro t i hi hI
    have h1:=qKy (h.imps _ (k9 hi))
    simp only[qJe]
    rw[if_pos (by simp only[jA];omega),qCo hi]
    have ew:IntKind.wrap .i64 ((i:Int)+1)=((i+1:Nat):Int):=by rw[wi64 (by omega) (by omega)];omega
    have z1:(⟨#[105,109,112,111,114,116,32]⟩:ByteArray).size=7:=rfl
    have z2:(⟨#[59,10]⟩:ByteArray).size=2:=rfl
    simp only[j0]
    rw[catW (by omega)]
    simp only[j0]
    rw[catW (by rw[ByteArray.size_append];omega)]
    simp only[j0]
    rw[app1 (by simp only[szl,ByteArray.size_append];omega)]
    simp only[j0,ew]
    rfl) (by
    intro t i hi t' hI hh
    cases hh
    have:=hlen _ (k9 hi)
    simp only[jC];omega) (by
    intro t hI
    simp only[qJe]
    rw[if_neg (by simp)]) (M:=N) (t:=t0) (by omega) (by omega)
  rw[show((0:Nat):Int)=0 from rfl] at hl
  rw[hl,zEb (fun t s=>t++impT s) (fun _ _=>rfl),zCe]
 ·have:∀l:List ByteArray,(∀s∈l,(impT s).length≤40)→(l.flatMap impT).length≤40*l.length:=fun l=>by
   induction l with
   |nil=>intro _;exact kO _
   |cons s l ih=>
    intro hl
    have i1:=hl s (jH ..)
    have i2:=ih fun x hx=>hl x (jM _ hx)
    simp only[kN,jC,jD];omega
  have:=this _ hlen
  rw[jC];omega
theorem zVq{N:Nat}(hN:3000000<N):qJq N mnL 0=some (mnS,0):=by
 have hc:qHg N mnL=_:=qVt mn_sm hN
 rw[zMj] at hc
 unfold qJq
 refine qJl hc ?_
 refine Eq.trans (if_neg (by decide)) ?_
 refine qJl (v:=false) rfl ?_
 refine Eq.trans (if_neg (by decide)) ?_
 refine qJl (v:=mnD 0) rfl ?_
 refine qJl (zVc hN) ?_
 refine Eq.trans (if_neg (by decide)) ?_
 refine qJl (v:=(⟨#[112,97,99,107,97,103,101,32,112]⟩:ByteArray)) rfl ?_
 refine qJl (v:=(⟨#[112,97,99,107,97,103,101,32,112,59,10]⟩:ByteArray)) rfl ?_
 refine qJl (v:=([112,97,99,107,97,103,101,32,112,59,10]:List UInt8)) rfl ?_
 refine qJl (v:=([112,97,99,107,97,103,101,32,112,59,10,105,109,112,111,114,116,32,113,59,10]:List UInt8)) ?_ ?_
 ·exact(zTm (qSd zMj) hN (t0:=([112,97,99,107,97,103,101,32,112,59,10]:List UInt8)) (by decide)).1
 refine qJl (v:=([112,97,99,107,97,103,101,32,112,59,10,105,109,112,111,114,116,32,113,59,10,116,101,115,116,32,116,32,61,32]:List UInt8)) rfl ?_
 rfl
theorem zJs{N:Nat}(hN:3000000<N):qHv N=some true:=by
 have h1:qGi N mnT=some (mnL,0,0):=by rw[zAe _ (by omega),mn_p]
 have hd:(mnD 0).2.2.2.length<1000:=by show 3<1000;decide
 have c1:qMv N (mnD 0)=some [⟨#[102]⟩]:=by
  unfold qMv
  rw[zKq (by decide) hd (by omega)]
  exact congrArg some (by kernel_rfl)
 have c2:qMz N (mnD 0)=some [⟨#[97,46,100,97,116]⟩]:=by
  unfold qMz
  rw[zKq (by decide) hd (by omega)]
  exact congrArg some (by kernel_rfl)
 have c3:qLx N (mnD 0)=some true:=by
  rw[zQz hd (by omega)]
  exact congrArg some (by kernel_rfl)
 unfold qHv
 refine qJl h1 ?_
 refine Eq.trans (if_neg (by decide)) ?_
 refine qJl (zVq hN) ?_
 refine qJl (v:=mnD 0) rfl ?_
 refine qJl (v:=mnD 0) rfl ?_
 refine qJl c1 ?_
 refine qJl c2 ?_
 refine qJl (v:=true) ?_ rfl
 refine Eq.trans (if_pos rfl) (Eq.trans (if_pos (gD mnS.toList)) (Eq.trans (if_pos rfl) ?_))
 refine qJl (v:=(⟨#[102]⟩:ByteArray)) rfl ?_
 refine Eq.trans (if_pos (gD (⟨#[102]⟩:ByteArray).toList)) (Eq.trans (if_pos rfl) ?_)
 refine qJl (v:=(⟨#[97,46,100,97,116]⟩:ByteArray)) rfl ?_
 refine Eq.trans (if_pos (gD (⟨#[97,46,100,97,116]⟩:ByteArray).toList)) ?_
 refine qJl (v:=mnD 0) rfl ?_
 refine qJl c3 ?_
 rfl
end
section
open Go Go.Dc Go.Proofs
theorem qVb{N:Nat}{s:ByteArray}(hN:100<N):qDh N s=some (qDf s):=by
 simp only[qDh,qWo hN,rres hN,j0]
 unfold qDf
 cases qOi s<;>rfl
def arN(k:Int):Int:=if k=3 then-1 else if k=4 then 2 else if k=5 then 3 else if k=6 then 1 else 0
def arP(x:Ex):Bool:=(x.1==3)||(argN x==arN x.1)
def qRf(np:Int)(x:Ex):Bool:=
 if x.1=1 then decide (x.2.2.2.1=emB)&&(x.2.2.1==0&&(decide (x.2.1≥-9007199254740992)&&decide (x.2.1≤9007199254740992)))
 else if x.1=2 then decide (x.2.2.2.1=emB)&&(x.2.2.1==0&&(decide (x.2.1≥0)&&decide (x.2.1<np)))
 else if x.1=3 then x.2.1==0&&(x.2.2.1==0&&qDf x.2.2.2.1)
 else if x.1=4 then x.2.1==0&&(decide (x.2.2.2.1=emB)&&(decide (x.2.2.1≥1)&&decide (x.2.2.1≤7)))
 else if x.1=5 then x.2.1==0&&(decide (x.2.2.2.1=emB)&&x.2.2.1==0)
 else if x.1=6 then x.2.1==0&&(x.2.2.1==0&&qMc x.2.2.2.1.data.toList)
 else if x.1=7∨x.1=8 then x.2.1==0&&(x.2.2.1==0&&qMc x.2.2.2.1.data.toList)
 else if x.1=9 then x.2.1==0&&(x.2.2.1==0&&qOi x.2.2.2.1)
 else if x.1=10 then decide (x.2.2.2.1=emB)&&(x.2.2.1==0&&(decide (x.2.1≥0)&&decide (x.2.1<64)))
 else false
theorem zLv(np:Int)(x:Ex):qMb np x=(qRf np x&&arP x):=by
 unfold qMb qRf arP arN
 by_cases h1:x.1=1
 ·simp[h1];ac_rfl
 by_cases h2:x.1=2
 ·simp[h2];ac_rfl
 by_cases h3:x.1=3
 ·simp[h3]
 by_cases h4:x.1=4
 ·simp[h4];ac_rfl
 by_cases h5:x.1=5
 ·simp[h5];ac_rfl
 by_cases h6:x.1=6
 ·simp[h6];ac_rfl
 by_cases h7:x.1=7
 ·simp[h7];ac_rfl
 by_cases h8:x.1=8
 ·simp[h8];ac_rfl
 by_cases h9:x.1=9
 ·simp[h9];ac_rfl
 by_cases h10:x.1=10
 ·simp[h10];ac_rfl
 simp[h1,h2,h3,h4,h5,h6,h7,h8,h9,h10]
theorem zRz{N:Nat}{np:Int}{x:Ex}(hN:100<N):qJf N x np=some (qRf np x):=by
 simp only[qJf,eqE,qWm (s:=x.2.2.2.1) hN,qWo (s:=x.2.2.2.1) hN,qVb (s:=x.2.2.2.1) hN,j0,zTp]
 unfold qRf
 by_cases h1:x.1=1
 ·by_cases a:x.2.2.2.1=emB<;>by_cases b:x.2.2.1=0<;>simp[h1,a,b]
 by_cases h2:x.1=2
 ·by_cases a:x.2.2.2.1=emB<;>by_cases b:x.2.2.1=0<;>simp[h2,a,b]
 by_cases h3:x.1=3
 ·by_cases a:x.2.1=0<;>by_cases b:x.2.2.1=0<;>simp[h3,a,b]
 by_cases h4:x.1=4
 ·by_cases a:x.2.1=0<;>by_cases b:x.2.2.2.1=emB<;>simp[h4,a,b]
 by_cases h5:x.1=5
 ·by_cases a:x.2.1=0<;>by_cases b:x.2.2.2.1=emB<;>by_cases c:x.2.2.1=0<;>simp[h5,a,b,c]
 by_cases h6:x.1=6
 ·by_cases a:x.2.1=0<;>by_cases b:x.2.2.1=0<;>simp[h6,a,b]
 by_cases h7:x.1=7
 ·by_cases a:x.2.1=0<;>by_cases b:x.2.2.1=0<;>simp[h7,a,b]
 by_cases h8:x.1=8
 ·by_cases a:x.2.1=0<;>by_cases b:x.2.2.1=0<;>simp[h8,a,b]
 by_cases h9:x.1=9
 ·by_cases a:x.2.1=0<;>by_cases b:x.2.2.1=0<;>simp[h9,a,b]
 by_cases h10:x.1=10
 ·by_cases a:x.2.2.2.1=emB<;>by_cases b:x.2.2.1=0<;>simp[h10,a,b]
 by_cases c:x.1<1
 ·simp[h1,h2,h3,h4,h5,h6,h7,h8,h9,h10,c]
 ·have c2:x.1>10:=by omega
  simp[h1,h2,h3,h4,h5,h6,h7,h8,h9,h10,c,c2]
theorem zRe{N:Nat}(k:Int):qIx N k=some (arN k):=by
 unfold qIx arN
 by_cases h3:k=3
 ·simp[h3]
 by_cases h4:k=4
 ·simp[h4]
 by_cases h5:k=5
 ·simp[h5]
 by_cases h6:k=6
 ·simp[h6]
 simp[h3,h4,h5,h6]
theorem zTf{N m n:Nat}{st args:List Int}{x:Ex}{i:Int}(ha:x.2.2.2.2=args)(hn:args.length=n)(hs:st.length=m+n)(hb:st.length<4000000):∀(d k M:Nat),k+d=n→d<M→
  qAs (qEz N (st,i) x (n:Int)) M (k:Int)=some (if st.drop (m+k)=args.drop k then .inl () else .inr false)
 |_,_,0,_,h=>absurd h (kL _)
 |0,k,M+1,hd,_=>by
  simp only[qAs,qEz]
  rw[if_neg (by simp only[jA];omega),if_pos (by rw[jT (by omega),jT (by omega)])]
  rfl
 |d+1,k,M+1,hd,hM=>by
  subst ha
  have hk:k<x.2.2.2.2.length:=by omega
  have hmk:m+k<st.length:=by omega
  have ew:IntKind.wrap .i64 ((k:Int)+1)=((k+1:Nat):Int):=by rw[wi64 (by omega) (by omega)];omega
  have e0:IntKind.wrap .i64 ((st.length:Int)-(n:Int))=(m:Int):=by rw[wi64 (by omega) (by omega)];omega
  have e1:IntKind.wrap .i64 ((m:Int)+(k:Int))=((m+k:Nat):Int):=by rw[wi64 (by omega) (by omega)];omega
  simp only[qAs,qEz]
  rw[if_pos (by simp only[jA];omega),qCo hk,e0,e1,qCo hmk]
  simp only[j0,ew]
  rw[qKx hk,qKx hmk]
  by_cases e:x.2.2.2.2[k]=st[m+k]
  ·rw[if_neg (by simpa using e)]
   simp only[j0]
   rw[zTf rfl hn hs hb d (k+1) M (by omega) (by omega),e]
   simp only[gA,true_and]
   rfl
  ·rw[if_pos (by simpa using e),if_neg (fun g=>e (List.cons.inj g).1.symm)]
   rfl
def ordR(l:List Ex)(k:Nat)(st:List Int):Option (List Int):=if l.all arP=true then ordS l k st else none
theorem zLn{N:Nat}{l:List Ex}(hl:l.length<2000000)(ha:∀x∈l,x.2.2.2.2.length<2000000)(hN:3000000<N):qIe N l=some (oneP (ordR l 0 [])):=by
 have hL:=qGm (L:=l) (fun(t:List Int×Nat) (i:Nat)=>(t.1,(i:Int))) (f:=qEy N l)
  (fun t x=>if arP x=true∧x.2.2.2.2.length≤t.1.length∧t.1.drop (t.1.length-x.2.2.2.2.length)=x.2.2.2.2 then .inl (t.1.take (t.1.length-x.2.2.2.2.length)++[(t.2:Int)],t.2+1) else .inr (.inr false)) (fun t=>(.inl t.1:List Int⊕Bool)) (fun i t=>t.2=i∧t.1.length≤i) (by
   rintro⟨st,k⟩ i hi ⟨rfl,hI⟩
   simp only at hI hi ⊢
   have hxa:=ha _ (k9 hi)
   simp only[qEy]
   rw[if_pos (by simp only[jA];omega),qCo hi]
   generalize l[k]=x at hxa
   simp only[j0,zRe]
   have ew:IntKind.wrap .i64 ((k:Int)+1)=((k+1:Nat):Int):=by rw[wi64 (by omega) (by omega)];omega
   have e0:IntKind.wrap .i64 ((st.length:Int)-(x.2.2.2.2.length:Int))=(st.length:Int)-(x.2.2.2.2.length:Int):=by
    rw[wi64 (by omega) (by omega)]
   by_cases h1:arP x=true
   ·have e2:(if decide (arN x.1<0)=true then some (x.2.2.2.2.length:Int) else some (arN x.1):Option Int)=some (x.2.2.2.2.length:Int):=by
     unfold arP argN at h1
     simp only[f0,kJ] at h1
     rcases h1 with h1|h1
     ·rw[h1];rfl
     ·rw[←h1,if_neg (by simp)]
    rw[e2]
    simp only[j0]
    rw[if_neg (by simp)]
    simp only[j0]
    by_cases h2:x.2.2.2.2.length≤st.length
    ·rw[if_neg (by simp only[jA];omega)]
     have hlp:=zTf (N:=N) (m:=st.length-x.2.2.2.2.length) (st:=st) (x:=x) (i:=(k:Int)) rfl rfl (by omega) (by omega) x.2.2.2.2.length 0 N (by omega) (by omega)
     rw[show((0:Nat):Int)=0 from rfl,gU,jX] at hlp
     rw[hlp]
     simp only[j0]
     by_cases h3:st.drop (st.length-x.2.2.2.2.length)=x.2.2.2.2
     ·rw[if_pos h3,if_pos ⟨h1,h2,h3⟩]
      simp only
      rw[e0,qOr (by omega) (by omega) (by omega)]
      simp only[j0,gQ,jX]
      rw[show((st.length:Int)-(x.2.2.2.2.length:Int)).toNat=st.length-x.2.2.2.2.length by omega,qDx (by simp only[k0,jD,jF];omega) (by omega)]
      simp only[j0,ew]
     ·rw[if_neg h3,if_neg (fun g=>h3 g.2.2)]
    ·rw[if_pos (by simp only[jA];omega),if_neg (fun g=>h2 g.2.1)]
   ·have hneg:¬(arP x=true∧x.2.2.2.2.length≤st.length∧st.drop (st.length-x.2.2.2.2.length)=x.2.2.2.2):=fun g=>h1 g.1
    rw[if_neg hneg]
    have hne:x.1≠3:=fun g=>h1 (by unfold arP;rw[g];rfl)
    have hnn:¬arN x.1<0:=by
     unfold arN
     rw[if_neg hne]
     split
     ·decide
     ·split
      ·decide
      ·split<;>decide
    have hne2:(x.2.2.2.2.length:Int)≠arN x.1:=fun g=>h1 (by unfold arP argN;rw[g,gD,Bool.or_true])
    rw[if_neg (by simpa using hnn)]
    simp only[j0]
    rw[if_pos (by simpa using hne2)]
    rfl) (by
   rintro⟨st,k⟩ i hi t' ⟨rfl,hI⟩ h
   simp only at hI h
   split at h
   ·rename_i g
    obtain rfl:=(Sum.inl.inj h).symm
    refine⟨rfl,?_⟩
    simp only[jC,k0,jD,jF]
    omega
   ·cases h) (by
   rintro⟨st,k⟩ ⟨rfl,hI⟩
   simp only[qEy]
   rw[if_neg (by simp)]) (M:=N) (t:=([],0)) (by omega) ⟨rfl,jP _⟩
 unfold qIe
 rw[show((([]:List Int),(0:Int)))=((([]:List Int),0).1,(((0:Nat)):Int)) from rfl]
 rw[hL]
 have key:∀(l:List Ex) (st:List Int) (k:Nat),run (fun(t:List Int×Nat) (x:Ex)=>if arP x=true∧x.2.2.2.2.length≤t.1.length∧t.1.drop (t.1.length-x.2.2.2.2.length)=x.2.2.2.2 then(.inl (t.1.take (t.1.length-x.2.2.2.2.length)++[(t.2:Int)],t.2+1):(List Int×Nat)⊕(List Int⊕Bool)) else .inr (.inr false)) (fun t=>(.inl t.1:List Int⊕Bool)) l (st,k)=match ordR l k st with
   |some r=> .inl r
   |none=> .inr false:=by
  intro l
  induction l with
  |nil=>intro st k;rfl
  |cons x l ih=>
   intro st k
   simp only[run]
   unfold ordR at ih ⊢
   rw[List.all_cons]
   by_cases h1:arP x=true
   ·rw[h1,gC]
    by_cases h2:x.2.2.2.2.length≤st.length∧st.drop (st.length-x.2.2.2.2.length)=x.2.2.2.2
    ·rw[if_pos ⟨rfl,h2⟩]
     simp only
     rw[ih]
     simp only[ordS]
     rw[if_pos h2]
    ·rw[if_neg (fun g=>h2 g.2)]
     simp only[ordS]
     rw[if_neg h2,ite_self]
   ·rw[if_neg (fun g=>h1 g.1),show arP x=false by simpa using h1,Bool.false_and]
    rfl
 rw[key]
 cases ordR l 0 [] with
 |none=>rfl
 |some r=>
  simp only[j0]
  congr 1
  match r with
  |[]=>rfl
  |[_]=>rfl
  |_::_::r=>
   show(((r.length+1+1:Nat):Int)==1)=false
   rw[beq_eq_false_iff_ne];omega
mutual
theorem zGo(t:Rose)(d:Nat):t.deepen (d+1)=t.deepen d+1:=by
 match t with
 | .mk h ks=>
  simp only[Rose.deepen]
  by_cases h4:h.1=4
  ·rw[if_pos h4,if_pos h4]
   by_cases hk:ks=[]
   ·rw[hk];simp[qKs]
   ·rw[qWk ks d hk];omega
  ·rw[if_neg h4,if_neg h4]
   by_cases hk:ks=[]
   ·rw[hk];simp[qKs]
   ·rw[qWk ks (d+1) hk];omega
theorem qWk(l:List Rose)(d:Nat)(hl:l≠[]):qKs (d+1) l=qKs d l+1:=by
 match l with
 |[]=>exact absurd rfl hl
 |t::l=>
  have i1:=zGo t d
  simp only[qKs]
  by_cases hk:l=[]
  ·rw[hk];simp only[qKs];omega
  ·rw[qWk l d hk];omega
end
theorem zNl{d:Nat}:∀(n:Nat) (t:Rose),t.size≤n→t.deepen d≤d+t.size∧d≤t.deepen d:=by
 intro n
 induction n generalizing d with
 |zero=>intro t h;have:=t.pos;omega
 |succ n ih=>
  intro t ht
  match t with
  | .mk h ks=>
   have key:∀(e:Nat) (l:List Rose),qBo l≤n→qKs e l≤e+qBo l:=by
    intro e l
    induction l with
    |nil=>intro _;exact kO _
    |cons u l ihl=>
     intro hl
     have hu:=u.pos
     simp only[qBo] at hl
     have a:=(ih (d:=e) u (by omega)).1
     have b:=ihl (by omega)
     simp only[qKs,qBo];omega
   simp only[Rose.size] at ht ⊢
   simp only[Rose.deepen]
   by_cases h4:h.1=4
   ·have:=key d ks (by omega)
    rw[if_pos h4];omega
   ·have:=key (d+1) ks (by omega)
    rw[if_neg h4];omega
theorem zOr{N D:Nat}{l:List Ex}{x:Ex}{i:Nat}(hx:l[i]? =some x)(hxa:x.2.2.2.2.length<2000000):∀(ks:List Rose) (k b M m:Nat),(∀t∈ks,∀b,AtT l b t→qFr N D l ((b+t.size-1:Nat):Int)=some ((t.deepen 1:Nat):Int))→x.2.2.2.2.drop k=qDk b ks→k≤x.2.2.2.2.length→AtTs l b ks→qBo ks≤300→ks.length<M→
  qAs (qGj N (qFr N D) l (i:Int) x) M ((m:Int),(k:Int))=some ((max m (qKs (if x.1=4 then 1 else 2) ks):Nat):Int)
 |_,_,_,0,_,_,_,_,_,_,h=>absurd h (kL _)
 |[],k,b,M+1,m,_,hr,hk,_,_,_=>by
  have hl:k=x.2.2.2.2.length:=by
   have:=congrArg List.length hr
   rw[gE] at this
   simp only[qDk,jF] at this
   omega
  simp only[qAs,qGj]
  rw[if_neg (by simp only[jA];omega)]
  simp only[j0,qKs,fE]
 |t::ks,k,b,M+1,m,hks,hr,hk,hat,hsz,hM=>by
  have hpos:=t.pos
  simp only[qBo] at hsz
  have hkl:k<x.2.2.2.2.length:=by
   by_cases hh:k<x.2.2.2.2.length
   ·exact hh
   ·rw[jT (by omega)] at hr;cases hr
  rw[qKx hkl] at hr
  obtain⟨hr1,hr2⟩:=List.cons.inj hr
  obtain⟨at1,at2⟩:=hat.head
  have hdl:=(zNl (d:=1) t.size t (jP _)).1
  have ew:IntKind.wrap .i64 ((k:Int)+1)=((k+1:Nat):Int):=by rw[wi64 (by omega) (by omega)];omega
  have ed:IntKind.wrap .i64 (((t.deepen 1:Nat):Int)+1)=((t.deepen 2:Nat):Int):=by
   have:=zGo t 1
   rw[wi64 (by omega) (by omega),show t.deepen 2=t.deepen 1+1 from this];omega
  simp only[qAs,qGj]
  rw[if_pos (by simp only[jA];omega),qCo hkl,hr1]
  simp only[j0]
  rw[hks t (jH ..) b at1,qWs hx]
  simp only[j0,ed,ew]
  have e4:(if(x.1 !=4)=true then some ((t.deepen 2:Nat):Int) else some ((t.deepen 1:Nat):Int):Option Int)=some ((t.deepen (if x.1=4 then 1 else 2):Nat):Int):=by
   by_cases h4:x.1=4
   ·rw[if_neg (by simp[h4]),if_pos h4]
   ·rw[if_pos (by simpa using h4),if_neg h4]
  rw[e4]
  simp only[j0,qUj]
  rw[zOr hx hxa ks (k+1) (b+t.size) M _ (fun u hu=>hks u (jM _ hu)) hr2 (by omega) at2 (by omega) (by simp only[jD] at hM;omega)]
  simp only[qKs,dG]
theorem zQg{N:Nat}{l:List Ex}(ha:∀x∈l,x.2.2.2.2.length<2000000)(hN:3000000<N):∀(n:Nat) (t:Rose) (b D:Nat),t.size≤n→n≤300→n≤D→AtT l b t→qFr N D l ((b+t.size-1:Nat):Int)=some ((t.deepen 1:Nat):Int)
 |0,t,_,_,h,_,_,_=>by have:=t.pos;omega
 |n+1,.mk h ks,b,D,hsz,hn,hD,hat=>by
  simp only[Rose.size] at hsz ⊢
  obtain⟨D,rfl⟩:∃D',D=D'+1:=⟨D-1,by omega⟩
  rw[show b+(qBo ks+1)-1=b+qBo ks by omega]
  obtain⟨hx,hats⟩:=hat.args
  have hxa:=ha _ (fI hx)
  have hll:=qTg ks
  have hsub:∀t∈ks,t.size≤qBo ks:=by
   intro t ht
   clear hats hx hxa hll hsz hat
   induction ks with
   |nil=>cases ht
   |cons u l ih=>
    simp only[qBo]
    rcases jN.1 ht with rfl|ht
    ·omega
    ·have:=ih ht;omega
  have hl:=zOr (N:=N) (D:=D) hx hxa ks 0 b N 1 (fun t ht b' hat'=>zQg ha hN n t b' D (by have:=hsub t ht;omega) (by omega) (by omega) hat') (by rw[jX];rfl) (kO _) hats (by omega) (by omega)
  show qIm N (qFr N D) l _=_
  unfold qIm
  rw[qWs hx]
  simp only[j0]
  rw[show((1:Int),(0:Int))=(((1:Nat):Int),((0:Nat):Int)) from rfl,hl]
  simp only[j0,Rose.deepen]
  rfl
theorem zUu{N:Nat}{l:List Ex}(ho:oneP (ordS l 0 [])=true)(hl:l.length≤256)(ha:∀x∈l,x.2.2.2.2.length<2000000)(hN:3000000<N):∃v:Int,qLh N l (IntKind.wrap .i64 ((l.length:Int)-1))=some v∧(decide (v>32))=qYi l:=by
 obtain⟨t,h1,h2⟩:=qXr ho
 have hsz:t.size=l.length:=by
  have:=qDc t 0
  rw[←h2] at this;exact this.symm
 have hp:=t.pos
 have hat:AtT l 0 t:=by
  have:=AtT.whole t
  rw[←h2] at this;exact this
 refine⟨((t.deepen 1:Nat):Int),?_,?_⟩
 ·unfold qLh
  have:=zQg ha hN t.size t 0 N (jP _) (by omega) (by omega) hat
  rw[wi64 (by omega) (by omega),show(l.length:Int)-1=((0+t.size-1:Nat):Int) by omega]
  exact this
 ·unfold qYi
  rw[h1]
  simp only
  congr 1
  rw[eq_iff_iff];omega
end
section
open Go Go.Dc Go.Proofs
def SmE(d:Dl):Prop:=d.2.2.1.length<2000000∧d.2.2.2.length<2000000∧∀x∈d.2.2.2,x.2.2.2.2.length<2000000
def SmR(f:Sr):Prop:=f.2.1.length<2000000∧f.2.2.length<2000000∧∀d∈f.2.2,SmE d
theorem SmSr.r{f:Sr}(h:SmSr f):SmR f:=⟨h.1,h.2.1,fun d hd=>⟨(h.2.2 d hd).2.1,(h.2.2 d hd).2.2.1,fun x hx=>((h.2.2 d hd).2.2.2 x hx).2⟩⟩
theorem rc_L1{N:Nat}{f:Sr}(hf:SmR f)(hN:3000000<N):qAs (qEl N f) N 0=some (if f.2.1.all qDf=true then .inl () else .inr 9):=by
 obtain⟨h1,-,-⟩:=hf
 have h:=qGm (L:=f.2.1) (fun(_:Unit) (i:Nat)=>(i:Int)) (f:=qEl N f)
  (fun _ s=>if(!qDf s)=true then .inr (.inr 9) else .inl ()) (fun _=>(.inl ():Unit⊕Int)) (fun _ _=>True) (by
   intro t i hi _
   simp only[qEl]
   rw[if_pos (by simp only[jA];omega),qCo hi]
   have ew:IntKind.wrap .i64 ((i:Int)+1)=((i+1:Nat):Int):=by rw[wi64 (by omega) (by omega)];omega
   simp only[j0,qVb (s:=f.2.1[i]) (show 100<N by omega),ew]
   cases qDf f.2.1[i]<;>rfl) (fun _ _ _ _ _ _=>trivial) (by
   intro t _
   simp only[qEl]
   rw[if_neg (by simp)]) (M:=N) (t:=()) (by omega) trivial
 rw[show((0:Nat):Int)=0 from rfl] at h
 rw[h,qQx (b:=(.inr 9:Unit⊕Int)) (fun s=> !qDf s) (fun x=>rfl),gM]
 cases(f.2.1.any fun s=> !qDf s)<;>rfl
theorem rc_L3{N:Nat}{d:Dl}(hd:SmE d)(hN:3000000<N):qAs (qEs N d) N 0=some (if d.2.2.1.all qDf=true then .inl () else .inr 9):=by
 obtain⟨h1,-,-⟩:=hd
 have h:=qGm (L:=d.2.2.1) (fun(_:Unit) (i:Nat)=>(i:Int)) (f:=qEs N d)
  (fun _ s=>if(!qDf s)=true then .inr (.inr 9) else .inl ()) (fun _=>(.inl ():Unit⊕Int)) (fun _ _=>True) (by
   intro t i hi _
   simp only[qEs]
   rw[if_pos (by simp only[jA];omega),qCo hi]
   have ew:IntKind.wrap .i64 ((i:Int)+1)=((i+1:Nat):Int):=by rw[wi64 (by omega) (by omega)];omega
   simp only[j0,qVb (s:=d.2.2.1[i]) (show 100<N by omega),ew]
   cases qDf d.2.2.1[i]<;>rfl) (fun _ _ _ _ _ _=>trivial) (by
   intro t _
   simp only[qEs]
   rw[if_neg (by simp)]) (M:=N) (t:=()) (by omega) trivial
 rw[show((0:Nat):Int)=0 from rfl] at h
 rw[h,qQx (b:=(.inr 9:Unit⊕Int)) (fun s=> !qDf s) (fun x=>rfl),gM]
 cases(d.2.2.1.any fun s=> !qDf s)<;>rfl
theorem rc_L4{N:Nat}{d:Dl}(hd:SmE d)(hN:3000000<N):qAs (qEq N d) N 0=some (if d.2.2.2.all (qRf (d.2.2.1.length:Int))=true then .inl () else .inr 9):=by
 obtain⟨-,h1,-⟩:=hd
 have h:=qGm (L:=d.2.2.2) (fun(_:Unit) (i:Nat)=>(i:Int)) (f:=qEq N d)
  (fun _ x=>if(!qRf (d.2.2.1.length:Int) x)=true then .inr (.inr 9) else .inl ()) (fun _=>(.inl ():Unit⊕Int)) (fun _ _=>True) (by
   intro t i hi _
   simp only[qEq]
   rw[if_pos (by simp only[jA];omega),qCo hi]
   have ew:IntKind.wrap .i64 ((i:Int)+1)=((i+1:Nat):Int):=by rw[wi64 (by omega) (by omega)];omega
   simp only[j0,zRz (x:=d.2.2.2[i]) (np:=(d.2.2.1.length:Int)) (show 100<N by omega),ew]
   cases qRf (d.2.2.1.length:Int) d.2.2.2[i]<;>rfl) (fun _ _ _ _ _ _=>trivial) (by
   intro t _
   simp only[qEq]
   rw[if_neg (by simp)]) (M:=N) (t:=()) (by omega) trivial
 rw[show((0:Nat):Int)=0 from rfl] at h
 rw[h,qQx (b:=(.inr 9:Unit⊕Int)) (fun x=> !qRf (d.2.2.1.length:Int) x) (fun x=>rfl),gM]
 cases(d.2.2.2.any fun x=> !qRf (d.2.2.1.length:Int) x)<;>rfl
def zOs(d:Dl):Bool:=(d.1==1||(d.2.2.1.isEmpty&&(d.1==2||d.1==3)))&&(if d.1=3 then qMc d.2.1.data.toList else qDf d.2.1)
theorem zAu(d:Dl):qGr d=(zOs d&&(d.2.2.1.all qDf&&(d.2.2.2.all (qRf (d.2.2.1.length:Int))&&oneP (ordR d.2.2.2 0 [])))):=by
 have hb:zFx d=(d.2.2.2.all (qRf (d.2.2.1.length:Int))&&oneP (ordR d.2.2.2 0 [])):=by
  unfold zFx ordR
  have e:d.2.2.2.all (qMb (d.2.2.1.length:Int))=(d.2.2.2.all (qRf (d.2.2.1.length:Int))&&d.2.2.2.all arP):=by
   rw[kM]
   simp only[kA,jL,zLv]
   exact⟨fun h=>⟨fun x hx=>(h x hx).1,fun x hx=>(h x hx).2⟩,fun h x hx=>⟨h.1 x hx,h.2 x hx⟩⟩
  rw[e]
  cases d.2.2.2.all arP with
  |true=>simp
  |false=>simp[oneP]
 unfold qGr
 rw[hb]
 unfold zDl zEt zOs
 by_cases k1:d.1=1
 ·simp[k1]
 by_cases k2:d.1=2
 ·cases hp:d.2.2.1 with
  |nil=>simp[k2]
  |cons a l=>simp[k2]
 by_cases k3:d.1=3
 ·cases hp:d.2.2.1 with
  |nil=>simp[k3]
  |cons a l=>simp[k3]
 simp[k1,k2,k3]
theorem rc_L2{N:Nat}{f:Sr}(hf:SmR f)(hN:3000000<N):qAs (qEo N f) N 0=some (if f.2.2.all qGr=true then .inl () else .inr 9):=by
 obtain⟨-,h1,h2⟩:=hf
 have h:=qGm (L:=f.2.2) (fun(_:Unit) (i:Nat)=>(i:Int)) (f:=qEo N f)
  (fun _ d=>if(!qGr d)=true then .inr (.inr 9) else .inl ()) (fun _=>(.inl ():Unit⊕Int)) (fun _ _=>True) (by
   intro t i hi _
   have hd:=h2 _ (k9 hi)
   obtain⟨-,q1,q2⟩:=id hd
   simp only[qEo]
   rw[if_pos (by simp only[jA];omega),qCo hi]
   generalize f.2.2[i]=d at hd q1 q2
   have ew:IntKind.wrap .i64 ((i:Int)+1)=((i+1:Nat):Int):=by rw[wi64 (by omega) (by omega)];omega
   simp only[j0,qVb (s:=d.2.1) (show 100<N by omega),qWm (s:=d.2.1) (show 100<N by omega),rc_L3 hd hN,rc_L4 hd hN,zLn q1 q2 hN,ew]
   rw[zAu]
   have hk:(if decide (d.1<1)=true then some true else if decide (d.1>3)=true then some true else if(d.1 !=1)=true then(if decide ((d.2.2.1.length:Int)>0)=true then some true else if(d.1==3)=true then(if(!qMc d.2.1.data.toList)=true then some true else if(d.1 !=3)=true then some (!qDf d.2.1) else some false) else if(d.1 !=3)=true then some (!qDf d.2.1) else some false) else if(d.1==3)=true then(if(!qMc d.2.1.data.toList)=true then some true else if(d.1 !=3)=true then some (!qDf d.2.1) else some false) else if(d.1 !=3)=true then some (!qDf d.2.1) else some false:Option Bool)=some (!zOs d):=by
    unfold zOs
    by_cases k1:d.1=1
    ·simp[k1]
    by_cases k2:d.1=2
    ·cases hp:d.2.2.1 with
     |nil=>simp[k2]
     |cons a l=>simp[k2]
    by_cases k3:d.1=3
    ·cases hp:d.2.2.1 with
     |nil=>simp[k3];cases qMc d.2.1.data.toList<;>rfl
     |cons a l=>simp[k3]
    by_cases k4:d.1<1
    ·simp[k1,k2,k3,k4]
    ·have k5:d.1>3:=by omega
     simp[k1,k2,k3,k4,k5]
   refine Eq.trans (congrArg (fun z=>Option.bind z _) hk) ?_
   simp only[j0]
   cases zOs d with
   |false=>rfl
   |true=>
    rw[if_neg (by decide),gC]
    cases d.2.2.1.all qDf with
    |false=>rfl
    |true=>
     rw[if_pos rfl,gC]
     simp only
     cases d.2.2.2.all (qRf (d.2.2.1.length:Int)) with
     |false=>rfl
     |true=>
      rw[if_pos rfl,gC]
      simp only
      cases oneP (ordR d.2.2.2 0 [])<;>rfl) (fun _ _ _ _ _ _=>trivial) (by
   intro t _
   simp only[qEo]
   rw[if_neg (by simp)]) (M:=N) (t:=()) (by omega) trivial
 rw[show((0:Nat):Int)=0 from rfl] at h
 rw[h,qQx (b:=(.inr 9:Unit⊕Int)) (fun d=> !qGr d) (fun x=>rfl),gM]
 cases(f.2.2.any fun d=> !qGr d)<;>rfl
theorem rc_L5{N:Nat}{f:Sr}(hf:SmR f)(hN:3000000<N):qAs (qEm N f) N 0=some (if(decide (f.1∈f.2.1)||dupL f.2.1)=true then .inr 10 else .inl ()):=by
 obtain⟨h1,-,-⟩:=hf
 have h:=qGm (L:=f.2.1) (fun(_:List ByteArray) (i:Nat)=>(i:Int)) (f:=qEm N f)
  (fun t s=>if(decide (s=f.1)||decide (s∈t))=true then .inr (.inr 10) else .inl (t++[s])) (fun _=>(.inl ():Unit⊕Int)) (fun i t=>t=f.2.1.take i) (by
   rintro t i hi rfl
   simp only[qEm]
   rw[if_pos (by simp only[jA];omega),qCo hi]
   have ew:IntKind.wrap .i64 ((i:Int)+1)=((i+1:Nat):Int):=by rw[wi64 (by omega) (by omega)];omega
   simp only[j0]
   rw[qOr (by omega) (by omega) (by omega)]
   simp only[j0,jR,gQ,jX,qDz,ew]
   rw[rhas (by rw[k0];omega) (by rw[k0];omega)]
   simp only[j0]
   cases decide (f.2.1[i]=f.1)<;>cases decide (f.2.1[i]∈f.2.1.take i)<;>rfl) (by
   rintro t i hi t' rfl hh
   split at hh
   ·cases hh
   ·obtain rfl:=(Sum.inl.inj hh).symm
    rw[qRc hi]) (by
   intro t _
   simp only[qEm]
   rw[if_neg (by simp)]) (M:=N) (t:=[]) (by omega) (by simp)
 rw[show((0:Nat):Int)=0 from rfl] at h
 rw[h]
 congr 1
 have key:∀(l t:List ByteArray),run (fun t s=>if(decide (s=f.1)||decide (s∈t))=true then(.inr (.inr 10):List ByteArray⊕(Unit⊕Int)) else .inl (t++[s])) (fun _=>(.inl ():Unit⊕Int)) l t=if(decide (f.1∈l)||dupG t l)=true then .inr 10 else .inl ():=by
  intro l
  induction l with
  |nil=>intro t;rfl
  |cons s l ih=>
   intro t
   simp only[run,dupG,jN]
   by_cases e1:s=f.1
   ·simp[e1]
   ·by_cases e2:s∈t
    ·simp[e2]
    ·rw[jU e1,jU e2]
     simp only[Bool.or_self,jB,jI,kU]
     rw[ih]
     have e3:decide (f.1=s∨f.1∈l)=decide (f.1∈l):=by
      rw[decide_eq_decide]
      exact⟨fun h=>h.resolve_left (fun g=>e1 g.symm),.inr⟩
     rw[e3]
 exact key _ _
theorem rc_L7{N:Nat}{d:Dl}(hd:SmE d)(hN:3000000<N):qAs (qEt N d) N 0=some (if dupL d.2.2.1=true then .inr 10 else .inl ()):=by
 obtain⟨h1,-,-⟩:=hd
 have h:=qGm (L:=d.2.2.1) (fun(_:List ByteArray) (i:Nat)=>(i:Int)) (f:=qEt N d)
  (fun t s=>if decide (s∈t)=true then .inr (.inr 10) else .inl (t++[s])) (fun _=>(.inl ():Unit⊕Int)) (fun i t=>t=d.2.2.1.take i) (by
   rintro t i hi rfl
   simp only[qEt]
   rw[if_pos (by simp only[jA];omega),qCo hi]
   have ew:IntKind.wrap .i64 ((i:Int)+1)=((i+1:Nat):Int):=by rw[wi64 (by omega) (by omega)];omega
   simp only[j0]
   rw[qOr (by omega) (by omega) (by omega)]
   simp only[j0,jR,gQ,jX,ew]
   rw[rhas (by rw[k0];omega) (by rw[k0];omega)]
   simp only[j0]
   cases decide (d.2.2.1[i]∈d.2.2.1.take i)<;>rfl) (by
   rintro t i hi t' rfl hh
   split at hh
   ·cases hh
   ·obtain rfl:=(Sum.inl.inj hh).symm
    rw[qRc hi]) (by
   intro t _
   simp only[qEt]
   rw[if_neg (by simp)]) (M:=N) (t:=[]) (by omega) (by simp)
 rw[show((0:Nat):Int)=0 from rfl] at h
 rw[h]
 congr 1
 have key:∀(l t:List ByteArray),run (fun t s=>if decide (s∈t)=true then(.inr (.inr 10):List ByteArray⊕(Unit⊕Int)) else .inl (t++[s])) (fun _=>(.inl ():Unit⊕Int)) l t=if dupG t l=true then .inr 10 else .inl ():=by
  intro l
  induction l with
  |nil=>intro t;rfl
  |cons s l ih=>
   intro t
   simp only[run]
   rw[show dupG t (s::l)=(decide (s∈t)||dupG (t++[s]) l) from rfl]
   by_cases e2:s∈t
   ·simp[e2]
   ·rw[jU e2]
    simp only[jB,jI,kU]
    rw[ih]
 exact key _ _
theorem zLu(l:List Dl)(d:Dl):(l.any fun x=>x.1==d.1&&decide (x.2.1=d.2.1))=decide (qQa d∈l.map qQa):=by
 rw[kM]
 simp only[fQ,jL,kJ,jA,fG]
 constructor
 ·rintro⟨x,hx,h1,h2⟩
  exact⟨x,hx,Prod.ext h1 h2⟩
 ·rintro⟨x,hx,h⟩
  exact⟨x,hx,congrArg (fun z:Nm2=>z.1) h,congrArg (fun z:Nm2=>z.2) h⟩
theorem rc_L6{N:Nat}{f:Sr}(hf:SmR f)(hN:3000000<N):qAs (qEp N f) N 0=some (if(dupL (f.2.2.map qQa)||f.2.2.any (fun d=>dupL d.2.2.1))=true then .inr 10 else .inl ()):=by
 obtain⟨-,h1,h2⟩:=hf
 have h:=qGm (L:=f.2.2) (fun(_:List Dl) (i:Nat)=>(i:Int)) (f:=qEp N f)
  (fun t d=>if(decide (qQa d∈t.map qQa)||dupL d.2.2.1)=true then .inr (.inr 10) else .inl (t++[d])) (fun _=>(.inl ():Unit⊕Int)) (fun i t=>t=f.2.2.take i) (by
   rintro t i hi rfl
   have hd:=h2 _ (k9 hi)
   simp only[qEp]
   rw[if_pos (by simp only[jA];omega),qCo hi]
   have ew:IntKind.wrap .i64 ((i:Int)+1)=((i+1:Nat):Int):=by rw[wi64 (by omega) (by omega)];omega
   simp only[j0]
   rw[qOr (by omega) (by omega) (by omega)]
   simp only[j0,jR,gQ,jX,ew]
   rw[zTi (by show(f.2.2.take i).length<_;rw[k0];omega) (by show(f.2.2.take i).length<_;rw[k0];omega)]
   simp only[j0]
   rw[show((((⟨#[]⟩:ByteArray),([]:List ByteArray),f.2.2.take i):Sr).2.2.any fun x=>x.1==f.2.2[i].1&&decide (x.2.1=f.2.2[i].2.1))=_ from zLu (f.2.2.take i) f.2.2[i],rc_L7 hd hN]
   cases decide (qQa f.2.2[i]∈(f.2.2.take i).map qQa)<;>cases dupL f.2.2[i].2.2.1<;>rfl) (by
   rintro t i hi t' rfl hh
   split at hh
   ·cases hh
   ·obtain rfl:=(Sum.inl.inj hh).symm
    rw[qRc hi]) (by
   intro t _
   simp only[qEp]
   rw[if_neg (by simp)]) (M:=N) (t:=[]) (by omega) (by simp)
 rw[show((0:Nat):Int)=0 from rfl] at h
 rw[h]
 congr 1
 have key:∀(l t:List Dl),run (fun t d=>if(decide (qQa d∈t.map qQa)||dupL d.2.2.1)=true then(.inr (.inr 10):List Dl⊕(Unit⊕Int)) else .inl (t++[d])) (fun _=>(.inl ():Unit⊕Int)) l t=if(dupG (t.map qQa) (l.map qQa)||l.any (fun d=>dupL d.2.2.1))=true then .inr 10 else .inl ():=by
  intro l
  induction l with
  |nil=>intro t;rfl
  |cons d l ih=>
   intro t
   simp only[run,kI,dupG,gT]
   by_cases e1:qQa d∈t.map qQa
   ·simp[e1]
   ·rw[jU e1]
    cases e2:dupL d.2.2.1 with
    |true=>simp
    |false=>
     simp only[Bool.or_self,jB,jI,kU]
     rw[ih,gY,List.map_singleton]
 exact key _ _
theorem rc_L8{N:Nat}{f:Sr}(hf:SmR f)(hs:f.2.2.all qGr=true)(hN:3000000<N):qAs (qEr N f) N 0=some (if f.2.2.any qXn=true then .inr 2 else .inl ()):=by
 obtain⟨-,h1,h2⟩:=hf
 have h:=qGm (L:=f.2.2) (fun(_:Unit) (i:Nat)=>(i:Int)) (f:=qEr N f)
  (fun _ d=>if qXn d=true then .inr (.inr 2) else .inl ()) (fun _=>(.inl ():Unit⊕Int)) (fun _ _=>True) (by
   intro t i hi _
   obtain⟨q1,q2,q3⟩:=h2 _ (k9 hi)
   have ho:=(zJx (kA.1 hs _ (k9 hi))).tree
   simp only[qEr]
   rw[if_pos (by simp only[jA];omega),qCo hi]
   generalize f.2.2[i]=d at q1 q2 q3 ho
   have ew:IntKind.wrap .i64 ((i:Int)+1)=((i+1:Nat):Int):=by rw[wi64 (by omega) (by omega)];omega
   have e8:decide ((d.2.2.1.length:Int)>8)=decide (8<d.2.2.1.length):=by congr 1;rw[eq_iff_iff];omega
   have e256:decide ((d.2.2.2.length:Int)>256)=decide (256<d.2.2.2.length):=by congr 1;rw[eq_iff_iff];omega
   simp only[j0,e8,e256,ew]
   unfold qXn
   cases c8:decide (8<d.2.2.1.length) with
   |true=>rfl
   |false=>
    simp only[jB,jI,kU]
    cases c256:decide (256<d.2.2.2.length) with
    |true=>rfl
    |false=>
     have hl:=of_decide_eq_false c256
     obtain⟨v,v1,v2⟩:=zUu ho (by omega) q3 hN
     simp only[jB,jI,kU,v1,j0,v2]
     cases qYi d.2.2.2<;>rfl) (fun _ _ _ _ _ _=>trivial) (by
   intro t _
   simp only[qEr]
   rw[if_neg (by simp)]) (M:=N) (t:=()) (by omega) trivial
 rw[show((0:Nat):Int)=0 from rfl] at h
 rw[h,qQx (b:=(.inr 2:Unit⊕Int)) qXn (fun x=>rfl)]
theorem zFt{N:Nat}{f:Sr}(hf:SmR f)(hN:3000000<N):qFd N f=some (qLc f):=by
 unfold qFd qLc synP
 rw[qVb (by omega),rc_L1 hf hN,rc_L2 hf hN,rc_L5 hf hN,rc_L6 hf hN]
 simp only[j0]
 cases qDf f.1 with
 |false=>rfl
 |true=>
  rw[if_neg (by decide),gC]
  cases f.2.1.all qDf with
  |false=>rfl
  |true=>
   rw[if_pos rfl,gC]
   simp only
   cases hs:f.2.2.all qGr with
   |false=>rfl
   |true=>
    rw[if_pos rfl,if_pos rfl,rc_L8 hf hs hN]
    simp only
    unfold qSj zCw
    have e8:decide ((f.2.1.length:Int)>8)=decide (8<f.2.1.length):=by congr 1;rw[eq_iff_iff];omega
    have e64:decide ((f.2.2.length:Int)>64)=decide (64<f.2.2.length):=by congr 1;rw[eq_iff_iff];omega
    rw[e8,e64]
    cases decide (f.1∈f.2.1)<;>cases dupL f.2.1<;>cases dupL (f.2.2.map qQa)<;>cases f.2.2.any (fun d=>dupL d.2.2.1)<;>(try rfl)
    cases decide (8<f.2.1.length)<;>cases decide (64<f.2.2.length)<;>cases f.2.2.any qXn<;>rfl
end
section
open Go Go.Dc Go.Proofs
theorem zOd{np:Int}{x:Ex}(h:qMb np x=true):x.2.2.2.1.size≤80:=by
 have z:emB.size=0:=rfl
 rcases qSt h with ⟨-,-,-,-,-,e⟩|⟨-,-,-,-,-,e⟩|⟨-,e,-,-⟩|⟨-,-,-,-,-,e⟩|⟨-,-,-,-,e⟩|⟨-,-,e,-,-⟩|⟨-,-,e,-,-⟩|⟨-,-,e,-,-⟩|⟨-,-,-,-,-,e⟩
 ·rw[e];omega
 ·rw[e];omega
 ·have:=qKy e;omega
 ·rw[e];omega
 ·rw[e];omega
 ·exact qTp e
 ·exact qTp e
 ·have:=qYv e;omega
 ·rw[e];omega
theorem zSp{d:Dl}(h:GoodD d)(hr:SmE d):SmD d:=by
 have:=zCx h
 exact⟨by omega,hr.1,hr.2.1,fun x hx=>⟨by have:=zOd (h.nodes x hx);omega,hr.2.2 x hx⟩⟩
theorem zPn{f:Sr}(h:GoodS f)(hr:SmR f):SmSr f:=⟨hr.1,hr.2.1,fun d hd=>zSp (h.decs d hd).1 (hr.2.2 d hd)⟩
def zEa(d:Dl):Sr:=(⟨#[112]⟩,[],[(1,⟨#[102]⟩,d.2.2.1,d.2.2.2)])
theorem zQx{d:Dl}(h:GoodD d)(h8:d.2.2.1.length≤8)(h256:d.2.2.2.length≤256)(hdp:qYi d.2.2.2=false)(hdup:dupL d.2.2.1=false):qLc (zEa d)=0:=by
 have hd:qGr (1,⟨#[102]⟩,d.2.2.1,d.2.2.2)=true:=by
  unfold qGr zEt zFx
  simp only[jL,kA,kJ]
  exact⟨by kernel_rfl,fun s hs=>⟨trivial,(h.pars s hs).2⟩,h.nodes,h.tree⟩
 have s1:synP (zEa d)=true:=by
  unfold synP zEa
  simp only[List.all_nil,List.all_cons,Bool.and_true,gC,hd]
  kernel_rfl
 have s2:qSj (zEa d)=false:=by
  unfold qSj zEa
  simp only[gT,List.any_nil,dP,hdup,kU]
  kernel_rfl
 have s3:zCw (zEa d)=false:=by
  unfold zCw zEa qXn
  simp only[gT,List.any_nil,dP,hdp]
  simp only[kS,decide_eq_false_iff_not]
  exact⟨by simp,by simp,by omega,by omega⟩
 unfold qLc
 rw[if_pos s1,s2,s3]
 rfl
theorem zRb{N:Nat}{d:Dl}(h:GoodD d)(hr:SmE d)(h8:d.2.2.1.length≤8)(h256:d.2.2.2.length≤256)(hdp:qYi d.2.2.2=false)(hdup:dupL d.2.2.1=false)(hN:3000000<N):
  qMk N d.2.2.2 d.2.2.1=some (qKl (wrD d),0):=by
 have hc:=zQx h h8 h256 hdp hdup
 have hg:=(qSd hc).decs (1,⟨#[102]⟩,d.2.2.1,d.2.2.2) (jS.2 rfl)
 have hs:SmSr (zEa d):=zPn (qSd hc) ⟨by show 0<2000000;decide,by show 1<2000000;decide,fun e he=>by
  rw[jS.1 he];exact hr⟩
 have h1:qHg N (zEa d)=_:=qVt hs hN
 rw[hc] at h1
 have h2:qLm N d.2.2.2 d.2.2.1=some (qKl (wrD d),(depD d:Int)):=(zDw (d:=(1,⟨#[102]⟩,d.2.2.1,d.2.2.2)) hg.1 h256 hN).1
 unfold qMk
 rw[show qHg N ((⟨#[112]⟩:ByteArray),([]:List (ByteArray)),[(1,(⟨#[102]⟩:ByteArray),d.2.2.1,d.2.2.2)])=_ from h1]
 simp only[j0]
 rw[if_neg (by decide),h2]
 rfl
def zCj(f:Sr)(d:Dl):List UInt8:=(pkgT f.1++f.2.1.flatMap impT)++zCz d
theorem zKx{N:Nat}{f:Sr}(hf:SmR f)(hc:qLc f=0)(hN:3000000<N){i:Nat}(hi:i<f.2.2.length):qJq N f (i:Int)=some (qKl (zCj f f.2.2[i]),0):=by
 have hg:=qSd hc
 have hm:=k9 hi
 obtain⟨g1,g2,g3,g4⟩:=hg.decs _ hm
 have gdup:dupL f.2.2[i].2.2.1=false:=(zKl hg _ hm).dup
 have hse:=hf.2.2 _ hm
 have hcs:qHg N f=some (qLc f):=qVt (zPn hg hf) hN
 have hpk:=qKy hg.pkg
 have z1:(⟨#[112,97,99,107,97,103,101,32]⟩:ByteArray).size=8:=rfl
 have z2:(⟨#[59,10]⟩:ByteArray).size=2:=rfl
 have hpl:(pkgT f.1).length≤100:=by unfold pkgT;simp only[szl,ByteArray.size_append];omega
 unfold qJq
 rw[hcs,hc]
 simp only[j0]
 rw[if_neg (by decide),if_neg (by simp only[jA];omega)]
 simp only[j0]
 rw[if_neg (by simp only[jA];omega),qCo hi]
 simp only[j0]
 unfold zCj
 generalize f.2.2[i]=d at g1 g2 g3 g4 gdup hse
 rw[zRb g1 hse g2 g3 g4 gdup hN]
 simp only[j0]
 rw[if_neg (by decide),catW (by omega)]
 simp only[j0]
 rw[catW (by rw[ByteArray.size_append];omega)]
 simp only[j0]
 rw[app1 (by simp only[jF,szl,ByteArray.size_append];omega),jO]
 simp only[j0]
 rw[show(((⟨#[112,97,99,107,97,103,101,32]⟩:ByteArray)++f.1)++(⟨#[59,10]⟩:ByteArray)).data.toList=pkgT f.1 from rfl]
 obtain⟨l1,l2⟩:=zTm hg hN hpl
 rw[l1]
 simp only[j0]
 generalize pkgT f.1++f.2.1.flatMap impT=t at l2
 have hw:=(zDw g1 g3 hN).2
 have hh:=zQu g1 g2
 have hnl:=zCx g1
 have hjn:=zDm (l:=d.2.2.1) fun s hs=>qKy (g1.pars s hs).2
 have hje:qJt N d.2.2.1 (⟨#[44,32]⟩:ByteArray)=some (zDz d.2.2.1):=zRf g2 fun s hs=>qKy (g1.pars s hs).2
 have y1:(⟨#[102,117,110,99,32]⟩:ByteArray).size=5:=rfl
 have y2:(⟨#[40]⟩:ByteArray).size=1:=rfl
 have y3:(⟨#[41,32,61,32]⟩:ByteArray).size=4:=rfl
 have y4:(⟨#[116,101,115,116,32]⟩:ByteArray).size=5:=rfl
 have y5:(⟨#[103,101,110,32,34]⟩:ByteArray).size=5:=rfl
 have y6:(⟨#[34,32,61,32]⟩:ByteArray).size=4:=rfl
 have y7:(⟨#[32,61,32]⟩:ByteArray).size=3:=rfl
 have hhead:(if(d.1==1)=true then((catB (⟨#[102,117,110,99,32]⟩:ByteArray) d.2.1).bind fun s6=>(catB s6 (⟨#[40]⟩:ByteArray)).bind fun s7=>(qJt N d.2.2.1 (⟨#[44,32]⟩:ByteArray)).bind fun y3=>(catB s7 y3).bind fun s8=>(catB s8 (⟨#[41,32,61,32]⟩:ByteArray)).bind fun s9=>(qCn 1 t s9.data.toList).bind fun l3=>some l3) else(if(d.1==2)=true then((catB (⟨#[116,101,115,116,32]⟩:ByteArray) d.2.1).bind fun s10=>(catB s10 (⟨#[32,61,32]⟩:ByteArray)).bind fun s11=>(qCn 1 t s11.data.toList).bind fun l4=>some l4) else((catB (⟨#[103,101,110,32,34]⟩:ByteArray) d.2.1).bind fun s12=>(catB s12 (⟨#[34,32,61,32]⟩:ByteArray)).bind fun s13=>(qCn 1 t s13.data.toList).bind fun l5=>some l5)):Option (List (UInt8)))=some (t++((zDs d).data.toList++[32,61,32])):=by
  unfold zDs at hh ⊢
  by_cases k1:d.1=1
  ·rw[if_pos k1] at hh
   simp only[ByteArray.size_append] at hh
   rw[if_pos (by simpa using k1),if_pos k1,catW (by omega)]
   simp only[j0]
   rw[catW (by rw[ByteArray.size_append];omega),hje]
   simp only[j0]
   rw[catW (by simp only[ByteArray.size_append];omega)]
   simp only[j0]
   rw[catW (by simp only[ByteArray.size_append];omega)]
   simp only[j0]
   rw[app1 (by simp only[szl,ByteArray.size_append];omega)]
   simp only[j0,qHj,qTd,jE,jQ,jO]
  ·rw[if_neg k1] at hh
   rw[if_neg (by simpa using k1),if_neg k1]
   by_cases k2:d.1=2
   ·rw[if_pos k2] at hh
    simp only[ByteArray.size_append] at hh
    rw[if_pos (by simpa using k2),if_pos k2,catW (by omega)]
    simp only[j0]
    rw[catW (by rw[ByteArray.size_append];omega)]
    simp only[j0]
    rw[app1 (by simp only[szl,ByteArray.size_append];omega)]
    simp only[j0,qHj,qTd,jE,jQ,jO]
   ·rw[if_neg k2] at hh
    simp only[ByteArray.size_append] at hh
    rw[if_neg (by simpa using k2),if_neg k2,catW (by omega)]
    simp only[j0]
    rw[catW (by rw[ByteArray.size_append];omega)]
    simp only[j0]
    rw[app1 (by simp only[szl,ByteArray.size_append];omega)]
    simp only[j0,qHj,qTd,jE,jQ,jO]
 refine Eq.trans (congrArg (fun z=>Option.bind z _) hhead) ?_
 simp only[j0]
 rw[catW (by rw[zBw];omega)]
 simp only[j0]
 rw[app1 (by simp only[jC,szl,ByteArray.size_append,zBw,jD,jF];omega)]
 simp only[j0]
 have hfin:(t++((zDs d).data.toList++[32,61,32]))++(qKl (wrD d)++(⟨#[59,10]⟩:ByteArray)).data.toList=t++zCz d:=by
  unfold zCz
  simp only[qHj,qTd,jE]
 rw[hfin]
 have hne:nonE (t++zCz d)=some ():=by
  unfold zCz
  cases hh2:t++((zDs d).data.toList++(((⟨#[32,61,32]⟩:ByteArray)++qKl (wrD d))++(⟨#[59,10]⟩:ByteArray)).data.toList) with
  |nil=>
   have:=congrArg List.length hh2
   simp only[jC,szl,ByteArray.size_append,jF] at this
   omega
  |cons a l=>rfl
 rw[hne]
 rfl
end
section
open Go Go.Dc Go.Proofs
theorem lvH_nn(h:Hd):0≤lvH h:=by
 unfold lvH
 split
 ·decide
 ·split
  ·split
   ·decide
   ·split<;>decide
  ·decide
mutual
theorem zRo(t:Rose)(n:Int){d e:Nat}(hde:d≤e):t.dep n d≤t.dep n e:=by
 match t with
 | .mk h ks=>
  have i1:=qOq ks h 0 hde
  have i2:=qOq ks h 0 (Nat.add_le_add_right hde 1)
  have i3:=qOq ks h 0 (Nat.add_le_add_right hde 2)
  simp only[Rose.dep]
  by_cases h1:lvH h<n
  ·by_cases h4:h.1=4
   ·simp only[if_pos h1,if_pos h4];omega
   ·simp only[if_pos h1,if_neg h4]
    rw[show d+1+1=d+2 by omega,show e+1+1=e+2 by omega];omega
  ·by_cases h4:h.1=4
   ·simp only[if_neg h1,if_pos h4];omega
   ·simp only[if_neg h1,if_neg h4];omega
theorem qOq(l:List Rose)(h:Hd)(k:Nat){d e:Nat}(hde:d≤e):deps h k d l≤deps h k e l:=by
 match l with
 |[]=>exact jP _
 |t::l=>
  have i1:=zRo t (qHs h k) hde
  have i2:=qOq l h (k+1) hde
  simp only[deps];omega
end
theorem zSd(t:Rose){a b:Int}(hab:a≤b)(d:Nat):t.dep a d≤t.dep b d:=by
 cases t with
 |mk h ks=>
  have i1:=qOq ks h 0 (show d≤d+1 by omega)
  have i2:=qOq ks h 0 (show d+1≤d+1+1 by omega)
  simp only[Rose.dep]
  by_cases h1:lvH h<a
  ·simp only[if_pos h1,if_pos (show lvH h<b by omega)];exact jP _
  ·by_cases h2:lvH h<b
   ·by_cases h4:h.1=4
    ·simp only[if_neg h1,if_pos h2,if_pos h4];omega
    ·simp only[if_neg h1,if_pos h2,if_neg h4];omega
   ·simp only[if_neg h1,if_neg h2];exact jP _
theorem depPar(t:Rose)(n:Int)(d:Nat):t.dep n d≤t.dep 0 (d+1):=by
 cases t with
 |mk h ks=>
  have i1:=qOq ks h 0 (show d≤d+1 by omega)
  have i2:=qOq ks h 0 (show d+1≤d+1+1 by omega)
  have:=lvH_nn h
  simp only[Rose.dep,if_neg (show ¬lvH h<0 by omega)]
  by_cases h1:lvH h<n
  ·simp only[if_pos h1];exact jP _
  ·by_cases h4:h.1=4
   ·simp only[if_neg h1,if_pos h4];omega
   ·simp only[if_neg h1,if_neg h4];omega
def Snd(n:Int)(d:Nat)(l:List Ex)(r:Ps×Nat):Prop:=∃t:Rose,r.1.2=l++t.flat l.length∧r.2+1=l.length+t.size∧t.dep n d≤32
def Sok(n:Int)(d:Nat)(E:Ps→PM Nat):Prop:=∀p r,E p= .inr r→Snd n d p.2 r
theorem Snd.less{n m:Int}{d:Nat}{l:List Ex}{r:Ps×Nat}(h:Snd n d l r)(hm:m≤n):Snd m d l r:=by
 obtain⟨t,h1,h2,h3⟩:=h
 have:=zSd t hm d
 exact⟨t,h1,h2,by omega⟩
section
variable {ts:List Tok} {ps:List ByteArray} {E S:Ps→PM Nat} {d:Nat}
theorem qRp(h:Hd){l:List Ex}{j:Nat}{tok:Tok}{r:Ps×Nat}(hn:qLz tok (h.1,h.2.1,h.2.2.1,h.2.2.2,[]) (j,l)= .inr r)(hl:lvH h=4)(hd:d≤32):Snd 4 d l r:=by
 obtain⟨q,i⟩:=r
 obtain⟨rfl,rfl,-⟩:=qSb hn
 refine⟨.mk h [],rfl,rfl,?_⟩
 simp only[Rose.dep,deps]
 rw[if_neg (by omega)]
 omega
theorem zVr{h:Hd}(h4:h.1≠4)(k:Nat):qHs h k=0:=by unfold qHs;rw[if_neg h4]
theorem zKt(hE:Sok 0 (d+1) E){h:Hd}(h4:h.1≠4):∀(n:Nat) (k:Nat) (l:List Int) (p q:Ps) (x:List Int),qWa ts E n l p= .inr (q,x)→
  ∃ks,q.2=p.2++qFm p.2.length ks∧x=l++qDk p.2.length ks∧deps h k (d+1) ks≤32
 |0,_,_,_,_,_,h1=>by cases h1
 |n+1,k,l,p,q,x,h1=>by
  obtain⟨a,ha,h2⟩:=qAx (show qBs (E p) _=_ from h1)
  obtain⟨t,t2,t3,t6⟩:=hE p a ha
  have hp:=t.pos
  have e2:((a.2:Nat):Int)=((p.2.length+t.size-1:Nat):Int):=by omega
  have hl:a.1.2.length=p.2.length+t.size:=by rw[t2,jC,qDc]
  split at h2
  ·obtain⟨ks,k2,k3,k6⟩:=zKt hE h4 n (k+1) _ (a.1.1+1,a.1.2) q x h2
   simp only at k2 k3
   rw[hl] at k2 k3
   refine⟨t::ks,?_,?_,?_⟩
   ·rw[k2,t2,jE];rfl
   ·rw[k3,jE,e2];rfl
   ·show max (t.dep (qHs h k) (d+1)) (deps h (k+1) (d+1) ks)≤32
    rw[zVr h4];omega
  ·obtain⟨j,hj,h3⟩:=qAx h2
   obtain⟨rfl,rfl⟩:=Prod.mk.inj (Sum.inr.inj h3)
   refine⟨[t],?_,?_,?_⟩
   ·rw[t2];simp[qFm]
   ·rw[e2];rfl
   ·show max (t.dep (qHs h k) (d+1)) 0≤32
    rw[zVr h4];omega
theorem zMg(hE:Sok 0 (d+1) E)(hd:d≤32):Sok 4 d (qIu ts ps E):=by
 rintro⟨i,l⟩ r h1
 unfold qIu at h1
 simp only at h1 ⊢
 split at h1
 ·exact qRp (1,(tkAt ts i).2.2.1,0,emB) h1 rfl hd
 split at h1
 ·obtain⟨a,-,h2⟩:=qAx h1
  exact qRp (1,_,0,emB) h2 rfl hd
 split at h1
 ·obtain⟨a,ha,h2⟩:=qAx h1
  obtain⟨j,-,h3⟩:=qAx h2
  obtain rfl:=(Sum.inr.inj h3).symm
  obtain⟨t,t2,t3,t6⟩:=hE _ a ha
  have u:=depPar t 4 d
  exact⟨t,t2,t3,by omega⟩
 split at h1
 ·cases h1
 split at h1
 ·unfold qKo at h1
  obtain⟨j,-,h2⟩:=qAx h1
  obtain⟨q,hq,h3⟩:=qAx h2
  obtain⟨j2,-,h4⟩:=qAx h3
  split at hq
  ·obtain⟨a,-,hq⟩:=qAx hq
   obtain⟨i3,-,hq⟩:=qAx hq
   obtain⟨b,hb2,hq⟩:=qAx hq
   obtain⟨t,t2,t3,t6⟩:=hE _ b hb2
   obtain rfl:=(Sum.inr.inj hq).symm
   have hp:=t.pos
   simp only at t2 t3 h4
   obtain⟨q,i⟩:=r
   obtain⟨rfl,rfl,-⟩:=qSb h4
   have hl:b.1.2.length=l.length+t.size:=by rw[t2,jC,qDc]
   have e2:((b.2:Nat):Int)=((l.length+t.size-1:Nat):Int):=by omega
   refine⟨.mk (6,0,0,a.2.2.1) [t],?_,?_,?_⟩
   ·show b.1.2++_=l++_
    rw[t2,flat1,jE,e2]
    rfl
   ·show b.1.2.length+1=l.length+((t.size+0)+1)
    omega
   ·show max (if(4:Int)<4 then d+1 else d) (max (t.dep 0 ((if(4:Int)<4 then d+1 else d)+1)) 0)≤32
    rw[if_neg (by decide)];omega
  ·split at hq
   ·obtain⟨a,-,hq⟩:=qAx hq
    obtain rfl:=(Sum.inr.inj hq).symm
    exact qRp (7,0,0,_) h4 rfl hd
   ·split at hq
    ·obtain⟨a,-,hq⟩:=qAx hq
     obtain rfl:=(Sum.inr.inj hq).symm
     exact qRp (8,0,0,_) h4 rfl hd
    ·split at hq
     ·obtain⟨a,-,hq⟩:=qAx hq
      obtain rfl:=(Sum.inr.inj hq).symm
      exact qRp (9,0,0,_) h4 rfl hd
     ·obtain⟨a,-,hq⟩:=qAx hq
      split at hq
      ·cases hq
      ·obtain rfl:=(Sum.inr.inj hq).symm
       exact qRp (10,_,0,emB) h4 rfl hd
 split at h1
 ·cases h1
 split at h1
 ·obtain⟨a,ha,h2⟩:=qAx h1
  obtain⟨j,-,ha⟩:=qAx ha
  have key:∃ks,a.1.2=l++qFm l.length ks∧a.2=qDk l.length ks∧deps (3,0,0,(tkAt ts i).2.1) 0 (d+1) ks≤32:=by
   split at ha
   ·obtain rfl:=(Sum.inr.inj ha).symm
    exact⟨[],by simp[qFm],rfl,kO _⟩
   ·obtain⟨ks,k1,k2,k3⟩:=zKt (h:=(3,0,0,(tkAt ts i).2.1)) hE (by show(3:Int)≠4;decide) _ 0 [] _ a.1 a.2 ha
    exact⟨ks,k1,by rw[k2,jO],k3⟩
  obtain⟨ks,k2,k3,k6⟩:=key
  obtain⟨q,x⟩:=r
  obtain⟨rfl,rfl,-⟩:=qSb h2
  have hl:a.1.2.length=l.length+qBo ks:=by rw[k2,jC,qJc]
  refine⟨.mk (3,0,0,(tkAt ts i).2.1) ks,?_,?_,?_⟩
  ·show a.1.2++_=l++(qFm l.length ks++_)
   rw[k2,jE,k3];rfl
  ·show a.1.2.length+1=l.length+(qBo ks+1)
   omega
  ·show max (if(4:Int)<4 then d+1 else d) (deps (3,0,0,(tkAt ts i).2.1) 0 ((if(4:Int)<4 then d+1 else d)+1) ks)≤32
   rw[if_neg (by decide)];omega
 ·split at h1
  ·exact qRp (2,_,0,emB) h1 rfl hd
  ·cases h1
def zHc(level:Nat):Int:=if level=1 then 2 else level
theorem opC_ok{level i:Nat}(h:opC ts level i≠0):1≤opC ts level i∧opC ts level i≤7∧levP (opC ts level i)=level:=by
 have e:opC ts level i=match opsC.find? (isOp ts level i) with
  |some o=>o.1
  |none=>0:=rfl
 cases ho:opsC.find? (isOp ts level i) with
 |none=>
  rw[ho] at e
  exact absurd e h
 |some o=>
  rw[ho] at e
  have e:opC ts level i=o.1:=e
  have h1:=List.find?_some ho
  have h2:=List.mem_of_find?_eq_some ho
  simp only[isOp,jL,jA] at h1
  have h3:1≤o.1∧o.1≤7:=by
   simp only[opsC,jN,gG,dO] at h2
   rcases h2 with rfl|rfl|rfl|rfl|rfl|rfl|rfl<;>decide
  rw[e]
  exact⟨h3.1,h3.2,h1.2⟩
theorem zJi{level:Nat}(hS:Sok ((level:Int)+1) d S)(hd:d≤32){l0:List Ex}:∀(n x:Nat) (p:Ps) (r:Ps×Nat),Snd (zHc level) d l0 (p,x)→qOe ts level S n x p= .inr r→Snd level d l0 r
 |0,_,_,_,_,h1=>by cases h1
 |n+1,x,p,r,hx,h1=>by
  unfold qOe at h1
  have hle:(level:Int)≤zHc level:=by unfold zHc;split<;>omega
  split at h1
  ·obtain rfl:=Sum.inr.inj h1
   exact hx.less hle
  ·rename_i hop
   obtain⟨o1,o2,o3⟩:=opC_ok hop
   generalize opC ts level p.1=op at h1 o1 o2 o3
   obtain⟨e,-,-⟩:=lvOp o1 o2
   rw[o3] at e
   obtain⟨a,ha,h2⟩:=qAx h1
   obtain⟨b,hb,h3⟩:=qAx h2
   obtain⟨t,t2,t3,t6⟩:=hx
   simp only at t2 t3
   have hl:p.2.length=l0.length+t.size:=by rw[t2,jC,qDc]
   obtain⟨u,u2,u3,u6⟩:=hS (p.1+1,p.2) a ha
   simp only at u2 u3
   rw[hl] at u2 u3
   have hl2:a.1.2.length=l0.length+t.size+u.size:=by rw[u2,t2];simp only[jC,qDc]
   obtain⟨q,y⟩:=b
   obtain⟨rfl,rfl,-⟩:=qSb hb
   have hp1:=t.pos
   have hp2:=u.pos
   have n0:qHs (4,0,op,emB) 0=zHc level:=by
    unfold qHs zHc
    rw[if_pos rfl,if_pos rfl,e]
    by_cases h:level=1
    ·rw[if_pos h,if_pos (by omega)]
    ·rw[if_neg h,if_neg (by omega)]
   have n1:qHs (4,0,op,emB) 1=(level:Int)+1:=by
    unfold qHs
    rw[if_pos rfl,if_neg (by decide),e]
   have key:∀m:Int,m≤level→Snd m d l0 ((a.1.1,a.1.2++[((4,0,op,⟨#[]⟩,[(x:Int),(a.2:Int)]):Ex)]),a.1.2.length):=by
    intro m hm
    refine⟨.mk (4,0,op,emB) [t,u],?_,?_,?_⟩
    ·show a.1.2++_=l0++_
     rw[u2,t2,flat2,show(x:Int)=((l0.length+t.size-1:Nat):Int) by omega,show(a.2:Int)=((l0.length+t.size+u.size-1:Nat):Int) by omega]
     simp only[jE]
     rfl
    ·show a.1.2.length+1=l0.length+(t.size+(u.size+0)+1)
     omega
    ·show max (if lvH (4,0,op,emB)<m then d+1 else d) (max (t.dep (qHs (4,0,op,emB) 0) (if lvH (4,0,op,emB)<m then d+1 else d)) (max (u.dep (qHs (4,0,op,emB) 1) (if lvH (4,0,op,emB)<m then d+1 else d)) 0))≤32
     rw[if_neg (by rw[e];omega),n0,n1]
     omega
   simp only at h3
   split at h3
   ·obtain rfl:=Sum.inr.inj h3
    exact key _ (dE _)
   ·rename_i hne
    refine zJi hS hd n _ _ r ?_ h3
    refine key _ ?_
    unfold zHc
    rw[if_neg hne];exact dE _
theorem qZg{level:Nat}(hS:Sok ((level:Int)+1) d S)(h1l:1≤level)(hd:d≤32):Sok level d (qNs ts level S):=by
 intro p r h1
 obtain⟨a,ha,h2⟩:=qAx h1
 have:=hS p a ha
 refine zJi hS hd _ a.2 a.1 r (this.less ?_) h2
 unfold zHc
 split<;>omega
theorem zHz(hE:Sok 0 (d+1) E)(hd:d≤32):Sok 1 d (qXz ts ps E):=
 qZg (level:=1) (qZg (level:=2) (qZg (level:=3) (zMg hE hd) (by decide) hd) (by decide) hd) (by decide) hd
end
theorem zKg{ts:List Tok}{ps:List ByteArray}:∀(k d:Nat),d+k=33→Sok 0 d (qFa ts ps k)
 |0,_,_=>fun p r h=>by cases h
 |k+1,d,hk=>by
  have ih:=zKg (ts:=ts) (ps:=ps) k (d+1) (by omega)
  intro p r h1
  unfold qFa at h1
  split at h1
  ·obtain⟨a,ha,h2⟩:=qAx h1
   obtain⟨i,hi,h2⟩:=qAx h2
   obtain⟨b,hb2,h2⟩:=qAx h2
   obtain⟨j,hj,h2⟩:=qAx h2
   obtain⟨c,hc,h2⟩:=qAx h2
   obtain⟨t,t2,t3,t6⟩:=ih _ a ha
   simp only at t2 t3
   have l1:a.1.2.length=p.2.length+t.size:=by rw[t2,jC,qDc]
   obtain⟨u,u2,u3,u6⟩:=ih _ b hb2
   simp only at u2 u3
   rw[l1] at u2 u3
   have l2:b.1.2.length=p.2.length+t.size+u.size:=by rw[u2,t2];simp only[jC,qDc]
   obtain⟨v,v2,v3,v6⟩:=ih _ c hc
   simp only at v2 v3
   rw[l2] at v2 v3
   have l3:c.1.2.length=p.2.length+t.size+u.size+v.size:=by rw[v2,u2,t2];simp only[jC,qDc]
   obtain⟨q,y⟩:=r
   obtain⟨rfl,rfl,-⟩:=qSb h2
   have hp1:=t.pos
   have hp2:=u.pos
   have hp3:=v.pos
   have nd:∀k,qHs (5,0,0,emB) k=0:=zVr (by show(5:Int)≠4;decide)
   refine⟨.mk (5,0,0,emB) [t,u,v],?_,?_,?_⟩
   ·show c.1.2++_=p.2++_
    rw[v2,u2,t2,flat3,show(a.2:Int)=((p.2.length+t.size-1:Nat):Int) by omega,show(b.2:Int)=((p.2.length+t.size+u.size-1:Nat):Int) by omega,show(c.2:Int)=((p.2.length+t.size+u.size+v.size-1:Nat):Int) by omega]
    simp only[jE]
    rfl
   ·show c.1.2.length+1=p.2.length+(t.size+(u.size+(v.size+0))+1)
    omega
   ·show max (if(0:Int)<0 then d+1 else d) (max (t.dep (qHs (5,0,0,emB) 0) ((if(0:Int)<0 then d+1 else d)+1)) (max (u.dep (qHs (5,0,0,emB) 1) ((if(0:Int)<0 then d+1 else d)+1)) (max (v.dep (qHs (5,0,0,emB) 2) ((if(0:Int)<0 then d+1 else d)+1)) 0)))≤32
    rw[if_neg (by decide),nd,nd,nd]
    omega
  ·exact(zHz ih (by omega) p r h1).less (by decide)
mutual
theorem zBv(t:Rose)(b:Nat)(rest:List Ex)(fs:List Rose):qZq (t.flat b++rest) fs=qZq rest (fs++[t]):=by
 match t with
 | .mk h ks=>
  unfold Rose.flat
  rw[jE,qYf ks b,List.singleton_append]
  have e:(qLf h (qDk b ks)).2.2.2.2.length=ks.length:=qJh ks b
  have e2:(fs++ks).length-ks.length=fs.length:=by rw[jC];omega
  show qZq rest ((fs++ks).take ((fs++ks).length-(qLf h (qDk b ks)).2.2.2.2.length)++[Rose.mk h ((fs++ks).drop ((fs++ks).length-(qLf h (qDk b ks)).2.2.2.2.length))])=_
  rw[e,e2,hK,List.drop_left]
theorem qYf(l:List Rose)(b:Nat)(rest:List Ex)(fs:List Rose):qZq (qFm b l++rest) fs=qZq rest (fs++l):=by
 match l with
 |[]=>simp[qFm]
 |t::l=>
  unfold qFm
  rw[jE,zBv t b,qYf l (b+t.size),jE]
  rfl
end
theorem zMf(t:Rose):zCr (t.flat 0)=some t:=by
 have:=zBv t 0 [] []
 rw[jY] at this
 unfold zCr
 rw[this]
 rfl
theorem zQy{ts:List Tok}{before:List Dl}{i:Nat}{r:Nat×Dl}(h:qRq ts before i= .inr r):depD r.2≤32:=by
 unfold qRq at h
 simp only at h
 split at h
 ·cases h
 split at h
 ·cases h
 obtain⟨a,-,h⟩:=qAx h
 split at h
 ·cases h
 obtain⟨b,-,h⟩:=qAx h
 obtain⟨j,-,h⟩:=qAx h
 obtain⟨c,hc,h⟩:=qAx h
 obtain⟨m,-,h⟩:=qAx h
 obtain rfl:=(Sum.inr.inj h).symm
 obtain⟨t,t2,-,t6⟩:=zKg (ts:=ts) (ps:=b.2) 32 1 rfl _ c hc
 have t2:c.1.2=t.flat 0:=t2
 unfold depD
 simp only[t2,zMf]
 exact t6
theorem zEn{ts:List Tok}:∀(n:Nat) (l:List Dl) (i:Nat) (r:List Dl),(∀d∈l,depD d≤32)→qQi ts n l i= .inr r→∀d∈r,depD d≤32
 |0,_,_,_,_,h=>by cases h
 |n+1,l,i,r,h1,h=>by
  unfold qQi at h
  split at h
  ·obtain rfl:=(Sum.inr.inj h).symm
   exact h1
  ·obtain⟨a,ha,h⟩:=qAx h
   exact zEn n _ _ r (fun d hd=>by
    rcases gF.1 hd with hd|hd
    ·exact h1 d hd
    ·rw[jS.1 hd];exact zQy ha) h
theorem zOb(s:ByteArray):∀d∈(qZt s).1.2.2,depD d≤32:=by
 have h0:∀d∈qXm.2.2,depD d≤32:=fun d hd=>by cases hd
 unfold qZt
 split
 ·exact h0
 ·split
  ·exact h0
  ·rename_i f hf
   unfold zDo at hf
   obtain⟨i,-,hf⟩:=qAx hf
   obtain⟨a,-,hf⟩:=qAx hf
   obtain⟨j,-,hf⟩:=qAx hf
   obtain⟨b,-,hf⟩:=qAx hf
   obtain⟨l,hl,hf⟩:=qAx hf
   obtain rfl:=(Sum.inr.inj hf).symm
   exact zEn _ [] _ l (fun d hd=>by cases hd) hl
end
section
open Go Go.Dc Go.Proofs
def oneF(f:Sr)(d:Dl):Sr:=(f.1,f.2.1,[d])
theorem zJa{f:Sr}(h:GoodS f){d:Dl}(hd:d∈f.2.2):GoodS (oneF f d):=by
 have hon:=h.once
 unfold qSj at hon
 simp only[kS,fY] at hon
 refine⟨h.pkg,h.imps,h.impn,by show 1≤64;decide,fun e he=> ?_,?_⟩
 ·rw[jS.1 he];exact h.decs d hd
 ·unfold qSj oneF
  simp only[kS,fY]
  refine⟨fun e he=> ?_,hon.2.1,hon.2.2.1,rfl⟩
  rw[jS.1 he]
  exact hon.1 d hd
theorem zIz(f:Sr)(d:Dl):fmtT (oneF f d)=zCj f d:=by
 unfold fmtT oneF zCj
 simp
theorem apart{f g:Sr}(hf:GoodS f)(hg:GoodS g){d e:Dl}(hd:d∈f.2.2)(he:e∈g.2.2)(pd:depD d≤32)(pe:depD e≤32)(h:zCj f d=zCj g e):f.1=g.1∧f.2.1=g.2.1∧d=e:=by
 have gf:=zJa hf hd
 have gg:=zJa hg he
 have hr:qDb (qPe (oneF f d))=qDb (qPe (oneF g e)):=by rw[qZx gf,qZx gg,zIz,zIz,h]
 obtain⟨ts,t1,t2⟩:=qWr (s:=⟨⟨qDb (qPe (oneF f d))⟩⟩) (qPe (oneF f d)) [] [] ((qPe (oneF f d)).length+(qPe (oneF g e)).length+1) rfl (fun x h=>by cases h) (zPt gf) (by omega)
 obtain⟨us,u1,u2⟩:=qWr (s:=⟨⟨qDb (qPe (oneF f d))⟩⟩) (qPe (oneF g e)) [] [] ((qPe (oneF f d)).length+(qPe (oneF g e)).length+1) hr (fun x h=>by cases h) (zPt gg) (by omega)
 rw[t1] at u1
 obtain rfl:=Sum.inr.inj u1
 have hlen:∀p:List Pc,ts.map qId=p.map (fun p=>qIn p.1)++[(5,⟨#[]⟩,0)]→p.length<ts.length:=fun p hp=>by
  have:=congrArg List.length hp
  simp only[kZ,jC,jD,jF] at this
  omega
 have R1:=(zJt gf (zNo t2) (hlen _ t2)).1 (fun x hx=>by rw[jS.1 hx];exact pd)
 have R2:=(zJt gg (zNo u2) (hlen _ u2)).1 (fun x hx=>by rw[jS.1 hx];exact pe)
 rw[R1] at R2
 have e0:oneF f d=oneF g e:=Sum.inr.inj R2
 exact⟨congrArg (fun x=>x.1) e0,congrArg (fun x=>x.2.1) e0,(List.cons.inj (congrArg (fun x=>x.2.2) e0)).1⟩
theorem zFz{α:Type}{a b:List α}(hl:a.length=b.length){f:Int→Option (Int⊕(Unit⊕Bool))}(hs:∀(i:Nat) (h1:i<a.length) (h2:i<b.length),∃r:Bool,(r=true↔a[i]=b[i])∧f (i:Int)=some (if r=true then .inl ((i+1:Nat):Int) else .inr (.inr false)))
  (hf:f (a.length:Int)=some (.inr (.inl ()))):∀(d i M:Nat),i+d=a.length→d<M→∃r:Bool,(r=true↔a.drop i=b.drop i)∧qAs f M (i:Int)=some (if r=true then .inl () else .inr false)
 |_,_,0,_,h=>absurd h (kL _)
 |0,i,M+1,hd,_=>by
  have hi:i=a.length:=by omega
  subst hi
  refine⟨true,⟨fun _=> ?_,fun _=>rfl⟩,by simp only[qAs,hf,j0];rfl⟩
  rw[jT (jP _),jT (by omega)]
 |d+1,i,M+1,hd,hM=>by
  have h1:i<a.length:=by omega
  have h2:i<b.length:=by omega
  obtain⟨r,r1,r2⟩:=hs i h1 h2
  rw[qKx h1,qKx h2]
  cases r with
  |true=>
   obtain⟨q,q1,q2⟩:=zFz hl hs hf d (i+1) M (by omega) (by omega)
   refine⟨q,?_,by simp only[qAs,r2,jK,j0];exact q2⟩
   rw[q1,r1.1 rfl]
   exact⟨fun h=>by rw[h],fun h=>(List.cons.inj h).2⟩
  |false=>
   refine⟨false,⟨fun h=>(by cases h),fun h=> ?_⟩,by simp only[qAs,r2,j0];rfl⟩
   exact absurd (r1.2 (List.cons.inj h).1) (by decide)
theorem qWh{α:Type}{a b:List α}(hl:a.length=b.length){f:Int→Option (Int⊕(Unit⊕Bool))}(hs:∀(i:Nat) (h1:i<a.length) (h2:i<b.length),∃r:Bool,(r=true↔a[i]=b[i])∧f (i:Int)=some (if r=true then .inl ((i+1:Nat):Int) else .inr (.inr false)))
  (hf:f (a.length:Int)=some (.inr (.inl ()))) {M:Nat} (hM:a.length<M):∃r:Bool,(r=true↔a=b)∧qAs f M 0=some (if r=true then .inl () else .inr false):=by
 have:=zFz hl hs hf a.length 0 M (by omega) hM
 rw[jX,jX] at this
 exact this
section
variable {N:Nat}
theorem zGw{a b:List ByteArray}(ha:a.length<1000000)(hN:1000000<N):∃r:Bool,(r=true↔a=b)∧qEn N a b=some r:=by
 unfold qEn
 by_cases hl:a.length=b.length
 ·obtain⟨r,r1,r2⟩:=qWh hl (f:=qDe N a b) (fun i h1 h2=>by
   refine⟨decide (a[i]=b[i]),decide_eq_true_iff,?_⟩
   simp only[qDe]
   rw[if_pos (by simp only[jA];omega),qCo h1]
   simp only[j0]
   rw[qCo h2]
   have ew:IntKind.wrap .i64 ((i:Int)+1)=((i+1:Nat):Int):=by rw[wi64 (by omega) (by omega)];omega
   simp only[j0,qDz,ew]
   cases decide (a[i]=b[i])<;>rfl) (by
   simp only[qDe]
   rw[if_neg (by simp)]) (M:=N) (by omega)
  refine⟨r,r1,?_⟩
  rw[if_neg (by simp[hl]),r2]
  cases r<;>rfl
 ·exact⟨false,⟨fun h=>(by cases h),fun h=>absurd (congrArg List.length h) hl⟩,by rw[if_pos (by rw[fX];omega)]⟩
theorem zMr{a b:List ByteArray}(ha:a.length<1000000)(hN:1000000<N):∃r:Bool,(r=true↔a=b)∧qFi N a b=some r:=by
 have e:qFi N a b=qEn N a b:=by
  unfold qFi qEn
  have:qFk N a b=qDe N a b:=by
   funext s
   simp only[qFk,qDe]
  rw[this]
 rw[e]
 exact zGw ha hN
theorem zQw{a b:Ex}(ha:a.2.2.2.2.length<1000000)(hN:1000000<N):∃r:Bool,(r=true↔a=b)∧qHo N a b=some r:=by
 obtain⟨k,n,o,s,l⟩:=a
 obtain⟨k',n',o',s',l'⟩:=b
 have no:∀{r:Bool},(k,n,o,s,l)≠(k',n',o',s',l')→r=false→(r=true↔(k,n,o,s,l)=(k',n',o',s',l')):=fun h1 h2=>⟨fun h=>(by rw[h2] at h;cases h),fun h=>absurd h h1⟩
 unfold qHo
 simp only[qDz] at ha ⊢
 by_cases h1:k=k'
 ·by_cases h2:n=n'
  ·by_cases h3:o=o'
   ·by_cases h4:s=s'
    ·by_cases h5:l.length=l'.length
     ·subst h1 h2 h3 h4
      obtain⟨r,r1,r2⟩:=qWh h5 (f:=qEh N (k,n,o,s,l) (k,n,o,s,l')) (fun i g1 g2=>by
       refine⟨decide (l[i]=l'[i]),decide_eq_true_iff,?_⟩
       simp only[qEh]
       rw[if_pos (by simp only[jA];omega),qCo g1]
       simp only[j0]
       rw[qCo g2]
       have ew:IntKind.wrap .i64 ((i:Int)+1)=((i+1:Nat):Int):=by rw[wi64 (by omega) (by omega)];omega
       simp only[j0,ew]
       by_cases e:l[i]=l'[i]<;>simp[e]) (by
       simp only[qEh]
       rw[if_neg (by simp)]) (M:=N) (by omega)
      refine⟨r,r1.trans ⟨fun h=>by rw[h],fun h=>congrArg (fun x:Ex=>x.2.2.2.2) h⟩,?_⟩
      simp only[fJ,h5,decide_true,kW,jB,jI,j0]
      rw[r2]
      cases r<;>rfl
     ·exact⟨false,no (fun h=>h5 (congrArg (fun x:Ex=>x.2.2.2.2.length) h)) rfl,by simp[h1,h2,h3,h4];omega⟩
    ·exact⟨false,no (fun h=>h4 (congrArg (fun x:Ex=>x.2.2.2.1) h)) rfl,by simp[h1,h2,h3,h4]⟩
   ·exact⟨false,no (fun h=>h3 (congrArg (fun x:Ex=>x.2.2.1) h)) rfl,by simp[h1,h2,h3]⟩
  ·exact⟨false,no (fun h=>h2 (congrArg (fun x:Ex=>x.2.1) h)) rfl,by simp[h1,h2]⟩
 ·exact⟨false,no (fun h=>h1 (congrArg (fun x:Ex=>x.1) h)) rfl,by simp[h1]⟩
theorem zSt{a b:Dl}(h8:a.2.2.1.length<1000000)(ha:a.2.2.2.length<1000000)(hx:∀x∈a.2.2.2,x.2.2.2.2.length<1000000)(hN:1000000<N):∃r:Bool,(r=true↔a=b)∧qHn N a b=some r:=by
 obtain⟨k,s,ps,l⟩:=a
 obtain⟨k',s',ps',l'⟩:=b
 have no:∀{r:Bool},(k,s,ps,l)≠(k',s',ps',l')→r=false→(r=true↔(k,s,ps,l)=(k',s',ps',l')):=fun h1 h2=>⟨fun h=>(by rw[h2] at h;cases h),fun h=>absurd h h1⟩
 obtain⟨q,q1,q2⟩:=zMr (N:=N) (a:=ps) (b:=ps') h8 hN
 unfold qHn
 simp only[qDz,q2,j0] at ha hx ⊢
 by_cases h1:k=k'
 ·by_cases h2:s=s'
  ·cases q with
   |false=>exact⟨false,no (fun h=>absurd (q1.2 (congrArg (fun x:Dl=>x.2.2.1) h)) (by decide)) rfl,by simp[h1,h2]⟩
   |true=>
    have h3:=q1.1 rfl
    by_cases h5:l.length=l'.length
    ·subst h1 h2 h3
     obtain⟨r,r1,r2⟩:=qWh h5 (f:=qEi N (k,s,ps,l) (k,s,ps,l')) (fun i g1 g2=>by
      obtain⟨v,v1,v2⟩:=zQw (N:=N) (a:=l[i]) (b:=l'[i]) (hx _ (k9 g1)) hN
      refine⟨v,v1,?_⟩
      simp only[qEi]
      rw[if_pos (by simp only[jA];omega),qCo g1]
      simp only[j0]
      rw[qCo g2]
      have ew:IntKind.wrap .i64 ((i:Int)+1)=((i+1:Nat):Int):=by rw[wi64 (by omega) (by omega)];omega
      simp only[j0,v2,ew]
      cases v<;>rfl) (by
      simp only[qEi]
      rw[if_neg (by simp)]) (M:=N) (by omega)
     refine⟨r,r1.trans ⟨fun h=>by rw[h],fun h=>congrArg (fun x:Dl=>x.2.2.2) h⟩,?_⟩
     simp only[fJ,h5,decide_true,kW,jB,jI,j0]
     rw[r2]
     cases r<;>rfl
    ·exact⟨false,no (fun h=>h5 (congrArg (fun x:Dl=>x.2.2.2.length) h)) rfl,by simp[h1,h2];omega⟩
  ·exact⟨false,no (fun h=>h2 (congrArg (fun x:Dl=>x.2.1) h)) rfl,by simp[h1,h2]⟩
 ·exact⟨false,no (fun h=>h1 (congrArg (fun x:Dl=>x.1) h)) rfl,by simp[h1]⟩
end
end
section
open Go Go.Dc Go.Proofs
def PF(f:Sr):Prop:=f.2.1.length≤8∧f.2.2.length≤128∧∀d∈f.2.2,okDl d∧depD d≤32
theorem PF.r{f:Sr}(h:PF f):SmR f:=⟨by have:=h.1;omega,by have:=h.2.1;omega,fun d hd=>by
 obtain⟨⟨a,b,c⟩,-⟩:=h.2.2 d hd
 exact⟨by omega,by omega,fun x hx=>by have:=c x hx;omega⟩⟩
theorem qTs{N:Nat}{l:List Int}{a:Int}(hN:3000000<N)(h0:0≤a)(h1:a<1000000000000000):Ok (qFp N (l,a)) fun y=>(∃a',y.1=(l,a')∧0≤a'∧a'<a+1000000)∧okSr y.2∧∀d∈y.2.2.2,depD d≤32:=by
 unfold qFp qGl
 refine Ok.someb ?_
 refine Ok.oneS (by omega) (by omega) (by decide) fun x hx=> ?_
 refine Ok.bind (zQl (by omega) (by omega) (by omega) hx) fun y hy=> ?_
 obtain⟨a',s,rfl,h2,h3,-⟩:=hy
 rw[zAe _ (by omega)]
 exact Ok.mk ⟨⟨a',rfl,by omega,by omega⟩,zPs _,zOb _⟩
theorem PF.of{f:Sr}(h:okSr f)(hd:∀d∈f.2.2,depD d≤32):PF f:=⟨h.1,by have:=h.2.1;omega,fun d hm=>⟨h.2.2 d hm,hd d hm⟩⟩
theorem zMs{a b:List UInt8}:qKl a=qKl b↔a=b:=⟨fun h=>by rw[←qWi a,←qWi b,h],fun h=>by rw[h]⟩
theorem zSg{N:Nat}{y1:(List Int×Int)×Sr}{o1:List Int×Int×Sr}{i:Nat}(hN:3000000<N)(hf:PF y1.2)(hg:PF o1.2.2)(cf:qLc y1.2=0)(cg:qLc o1.2.2=0)(hi:i<y1.2.2.2.length):qAs (qDp N y1 o1 (i:Int)) N 0=some (.inl ()):=by
 have hlen:=hg.2.1
 refine each0 (n:=o1.2.2.2.2.length) (b:=(.inl ():Unit⊕Bool)) (fun k hk=> ?_) ?_ (by omega)
 ·have mi:=k9 hi
  have mk:=k9 hk
  obtain⟨⟨p1,p2,p3⟩,p4⟩:=hf.2.2 _ mi
  obtain⟨-,p5⟩:=hg.2.2 _ mk
  obtain⟨q,q1,q2⟩:=zGw (N:=N) (a:=y1.2.2.1) (b:=o1.2.2.2.1) (by have:=hf.1;omega) (by omega)
  obtain⟨v,v1,v2⟩:=zSt (N:=N) (a:=y1.2.2.2[i]) (b:=o1.2.2.2.2[k]) (by omega) (by omega) (fun x hx=>by have:=p3 x hx;omega) (by omega)
  have hap:decide (qKl (zCj y1.2 y1.2.2.2[i])=qKl (zCj o1.2.2 o1.2.2.2.2[k]))=(decide (y1.2.1=o1.2.2.1)&&(q&&v)):=by
   rw[kM]
   simp only[jA,jL,q1,v1,zMs]
   constructor
   ·exact apart (qSd cf) (qSd cg) mi mk p4 p5
   ·rintro⟨h1,h2,h3⟩
    unfold zCj
    rw[h1,h2,h3]
  have ew:IntKind.wrap .i64 ((k:Int)+1)=((k+1:Nat):Int):=by rw[wi64 (by omega) (by omega)];omega
  simp only[qDp]
  rw[if_pos (by simp only[jA];omega),zKx hf.r cf hN hi]
  simp only[j0]
  rw[zKx hg.r cg hN hk,qCo hi,qCo hk,q2]
  simp only[j0,v2,qDz,hap,ew]
  generalize decide (y1.2.1=o1.2.2.1)=b
  cases b<;>cases q<;>cases v<;>rfl
 ·simp only[qDp]
  rw[if_neg (by simp)]
theorem zRj{N:Nat}{y1:(List Int×Int)×Sr}{o1:List Int×Int×Sr}(hN:3000000<N)(hf:PF y1.2)(hg:PF o1.2.2)(cf:qLc y1.2=0)(cg:qLc o1.2.2=0):qAs (qDs N y1 o1) N 0=some (.inl ()):=by
 have hlen:=hf.2.1
 refine each0 (n:=y1.2.2.2.length) (b:=(.inl ():Unit⊕Bool)) (fun i hi=> ?_) ?_ (by omega)
 ·have ew:IntKind.wrap .i64 ((i:Int)+1)=((i+1:Nat):Int):=by rw[wi64 (by omega) (by omega)];omega
  simp only[qDs]
  rw[if_pos (by simp only[jA];omega),zSg hN hf hg cf cg hi]
  simp only[j0,ew]
 ·simp only[qDs]
  rw[if_neg (by simp)]
theorem qYr{N:Nat}(hN:3000000<N)(l:List Int):Ok (qFl N l) fun b=>b=true:=by
 unfold qFl
 refine Ok.bind (qTs hN (by decide) (by decide)) fun y1 h1=> ?_
 obtain⟨⟨⟨ts,a⟩,f⟩,rfl⟩:∃z,z=y1:=⟨y1,rfl⟩
 obtain⟨⟨a1,e1,b1,b2⟩,k1,k2⟩:=h1
 obtain⟨rfl,rfl⟩:=Prod.mk.inj e1
 have hf:PF f:=PF.of k1 k2
 have n64:f.2.2.length≤64:=k1.2.1
 refine Ok.bind (P:=fun l1=>l1=f.2.2) (Ok.mono (Q:=fun l1=>l1=f.2.2) (P:=fun l1=>l1=f.2.2) ?_ fun _ h=>h) fun l1 hl1=> ?_
 ·unfold appM
  rw[if_pos ⟨by show f.2.2.length*72≤_;omega,by show f.2.2.length≤_;have:(maxLen:Nat)=9223372036854775807:=rfl;omega⟩]
  exact Ok.mk rfl
 subst hl1
 refine Ok.next b1 (by omega) (by decide) (by decide) fun r r0 r1=> ?_
 have hd:=hf.2.2
 refine Ok.bind (P:=fun o1:List Int×Int×Sr=>PF o1.2.2) ?_ fun o1 ho=> ?_
 ·refine Ok.ite (fun _=> ?_) fun _=>Ok.ite (fun _=> ?_) fun _=>Ok.ite (fun _=> ?_) fun _=>Ok.ite (fun _=> ?_) fun _=> ?_
  ·refine Ok.bind (qTs hN (by omega) (by omega)) fun y3 h3=> ?_
   exact Ok.mk (PF.of h3.2.1 h3.2.2)
  ·refine Ok.ite (fun h=> ?_) fun _=>Ok.mk hf
   have h:1<f.2.1.length:=by simp only[jA] at h;omega
   rw[show(1:Int)=((1:Nat):Int) from rfl,qCo h,show(0:Int)=((0:Nat):Int) from rfl,qCo (show 0<f.2.1.length by omega)]
   exact Ok.mk ⟨by show 2≤8;decide,hf.2.1,hd⟩
  ·exact Ok.mk ⟨kO _,hf.2.1,hd⟩
  ·refine Ok.ite (fun h=> ?_) fun _=>Ok.mk hf
   have h:0<f.2.2.length:=by simp only[jA] at h;omega
   refine Ok.bind (qTs hN (by omega) (by omega)) fun y4 h4=> ?_
   obtain⟨-,h4,h5⟩:=h4
   have n4:y4.2.2.2.length≤64:=h4.2.1
   rw[wi64 (by omega) (by omega),qOr (by omega) (by omega) (by omega)]
   refine Ok.someb ?_
   simp only[gQ,jX]
   rw[qDx (by simp only[k0];omega) (by decide)]
   refine Ok.mk ⟨hf.1,?_,fun d hm=> ?_⟩
   ·show(f.2.2.take _++y4.2.2.2).length≤128
    rw[jC,k0];omega
   ·rcases gF.1 hm with hm|hm
    ·exact hd d (List.mem_of_mem_take hm)
    ·exact⟨h4.2.2 d hm,h5 d hm⟩
  ·exact Ok.mk hf
 refine Ok.bind (P:=fun b=>b=false→qLc f=0∧qLc o1.2.2=0) ?_ fun o2 h2=> ?_
 ·rw[show qFd N o1.2.2=_ from zFt ho.r hN]
  refine Ok.someb (Ok.ite (fun _=>Ok.mk fun h=>by cases h) fun hg=> ?_)
  rw[show qFd N f=_ from zFt hf.r hN]
  refine Ok.mk fun h=>⟨by simpa using h,by simpa using hg⟩
 refine Ok.ite (fun _=> ?_) fun hn=> ?_
 ·rw[zJs hN]
  exact Ok.mk rfl
 ·obtain⟨c1,c2⟩:=h2 (by simpa using hn)
  rw[zRj (y1:=((ts,a),f)) hN hf ho c1 c2]
  refine Ok.someb ?_
  simp only
  rw[zJs hN]
  exact Ok.mk rfl
theorem testgatelaw06_MentionApart_true(l:List Int){G:Prop}(_gl:G):∃N,qFl N l=some true:=by
 obtain⟨b,h1,h2⟩:=qYr (N:=3000001) (by decide) l
 exact⟨3000001,by rw[h1,h2]⟩
end
end Go.Proofs.YteajdekbpcmdaaaGreatDoor
