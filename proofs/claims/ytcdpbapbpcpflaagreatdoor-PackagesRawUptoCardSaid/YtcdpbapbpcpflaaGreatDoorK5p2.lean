/- No condition but those of each theorem. -/
import Derived.Test.YtcdpbapbpcpflaaGreatDoorProg
import Derived.WalkKit
import Derived.Deep.LoopGhost
import Derived.KernelRfl
import Derived.OrdersHeld
import Derived.OrdersIn
import Derived.LoopNIn
import Derived.Sort.LoopGhostIn
import Derived.Laws.AppendOwn
import Derived.RangeFuncLeaves
import Derived.RangeFuncRecord
import Derived.MapKept
import Derived.Maps.RangeRun
import Derived.ChangeKeysEq
import Derived.HandedShaped
import Derived.ChangeStays
import Derived.ChangeSame
import Derived.OpenShut
import Derived.WideShapes
import Derived.JoinedOf
import Derived.ReadAgain
import Derived.ChangeAt
import Derived.RowKit
import Derived.Lib.Overlaps
import Derived.Shelf.SlSortCmp.NoneTotal
import Derived.Shelf.Sort.Plain
import Derived.Shelf.Slices.In.SortNone
import Derived.WalkSmall
import Derived.Recover
import Derived.Test.YtcdpbapbpcpflaaGreatDoorRows
import Derived.Lib.Bytealg
import Derived.Test.YtcdpbapbpcpflaaGreatDoorK4p2
namespace Go.Proofs.YtcdpbapbpcpflaaGreatDoor
section
open Go Go.Dc
theorem zNr(c:UInt8):(qAx (some kdL) (c.toNat:Int)).getD 0=kd c:=rfl
theorem qIx{l:List UInt8}{i:Nat}(h:i<l.length):l.getD i 0=l[i]:=by simp[kK,h]
theorem zLb{β:Type}{p:UInt8→Bool}{l:List UInt8}{a0:Nat}{f:Int→Option (Int⊕β)}(out:Nat→β)(go:∀i:Nat,∀h:i<l.length,p l[i]=true→f (i:Int)=some (.inl ((i:Int)+1)))
  (no:∀i:Nat,∀h:i<l.length,a0≤i→p l[i]=false→f (i:Int)=some (.inr (out i))) (en:f (l.length:Int)=some (.inr (out l.length))):
  ∀(d a N:Nat),a0≤a→a+d=l.length→d<N→qAw f N (a:Int)=some (out (tw p l a))
 |d,a,0,_,_,h=>by omega
 |0,a,N+1,_,hd,h=>by
  have:a=l.length:=by omega
  subst this
  rw[zDg (jP _)];simp[qAw,en]
 |d+1,a,N+1,h0,hd,h=>by
  have ha:a<l.length:=by omega
  cases hb:p l[a] with
  |true=>
   have:=zLb out go no en d (a+1) N (by omega) (by omega) (by omega)
   rw[qTt ha hb] at this
   simpa[qAw,go a ha hb] using this
  |false=>
   rw[qUh ha hb];simp[qAw,no a ha h0 hb]
def numS(n:Int)(c:UInt8):Int:=if 9007199254740993<10*n+((c.toNat:Int)-48) then 9007199254740993 else 10*n+((c.toNat:Int)-48)
def numL(ds:List UInt8):Int:=ds.foldl numS 0
def qVb(c:UInt8):Bool:=decide (32≤c.toNat)&&decide (c.toNat≤126)&&c !=34
def zGi:Int×ByteArray×Int×Int:=(0,⟨#[]⟩,0,0)
def qYy(l:List UInt8)(i:Nat):Nat:=if l.getD i 0=61∧l.getD (i+1) 0=61 then i+2 else i+1
def tokP(s:ByteArray)(i:Nat):(Int×ByteArray×Int×Int)×Int×Int:=
 if kd (s.data.toList.getD i 0)=1 then
  if tw (inK [1,2,3]) s.data.toList i-i>24 then(zGi,0,2) else((1,s.extract i (tw (inK [1,2,3]) s.data.toList i),0,0),((tw (inK [1,2,3]) s.data.toList i:Nat):Int),0)
 else if kd (s.data.toList.getD i 0)=2 then
  if numL ((s.data.toList.drop i).takeWhile (inK [2]))>9007199254740992 then(zGi,0,3) else((2,⟨#[]⟩,numL ((s.data.toList.drop i).takeWhile (inK [2])),0),((tw (inK [2]) s.data.toList i:Nat):Int),0)
 else if kd (s.data.toList.getD i 0)=7 then
  if s.data.toList.getD (tw qVb s.data.toList (i+1)) 0=34 then((3,s.extract (i+1) (tw qVb s.data.toList (i+1)),0,0),((tw qVb s.data.toList (i+1)+1:Nat):Int),0) else(zGi,0,9)
 else if kd (s.data.toList.getD i 0)=8 then
  ((4,s.extract i (qYy s.data.toList i),0,0),((qYy s.data.toList i:Nat):Int),0)
 else(zGi,0,9)
theorem zDx:∀c:UInt8,kd c=2→48≤c.toNat∧c.toNat≤57:=by
 have h:((List.range 256).all fun n=> !(decide (kd (UInt8.ofNat n)=2))||(decide (48≤n)&&decide (n≤57)))=true:=by kernel_rfl
 intro c hc
 have:=k7.1 h c.toNat (fH.2 c.toNat_lt)
 simpa[hc] using this
theorem zEh{s:ByteArray}{p:UInt8→Bool}{i:Nat}:(s.extract i (tw p s.data.toList i)).data.toList=(s.data.toList.drop i).takeWhile p:=by
 simp only[ByteArray.data_extract,gW]
 have h:=List.prefix_iff_eq_take.1 (List.takeWhile_prefix p (l:=s.data.toList.drop i))
 rw[gE,show tw p s.data.toList i-i=((s.data.toList.drop i).takeWhile p).length by unfold tw;omega]
 exact h.symm
theorem zAg(l:List UInt8)(c:UInt8):numL (l++[c])=numS (numL l) c:=by simp[numL]
theorem zLo{p:UInt8→Bool}:∀{l:List UInt8} {c:UInt8},c∈l.takeWhile p→p c=true
 |[],_,h=>by simp at h
 |x::l,c,h=>by
  cases hx:p x with
  |true=>
   rw[gA hx] at h
   rcases jL.1 h with rfl|h
   ·exact hx
   ·exact zLo h
  |false=>rw[gN (by simp[hx])] at h;cases h
theorem zRd{N:Nat}{ds:List UInt8}(hd:∀c∈ds,kd c=2)(hl:ds.length<1000000)(hN:ds.length<N):qAw (qKq N ds) N (0,0)=some (numL ds):=by
 have hb:∀j,j≤ds.length→0≤numL (ds.take j)∧numL (ds.take j)≤9007199254740993:=by
  intro j
  induction j with
  |zero=>intro _;simp[numL]
  |succ j ih=>
   intro hj
   have:=ih (by omega)
   rw[kT (by omega)]
   have hc:=zDx _ (hd _ (kA (show j<ds.length by omega)))
   rw[zAg]
   unfold numS
   split<;>omega
 have key:=zEy (f:=qKq N ds) (fun j=>(numL (ds.take j),(j:Int))) ds.length (numL ds) (fun j hj=> ?_) ?_ (N:=N) (by omega)
 ·exact key
 ·have hc:=zDx _ (hd _ (kA hj))
  have h0:=hb j (by omega)
  simp only[qKq]
  rw[if_pos (by simpa using hj),qDu hj]
  simp only[j0]
  rw[wu8 (by omega) (by omega),wi64 (x:=10*numL (ds.take j)) (by omega) (by omega),wi64 (x:=((ds[j]).toNat:Int)-48) (by omega) (by omega),wi64 (x:=(j:Int)+1) (by omega) (by omega),wi64 (by omega) (by omega),kT hj,zAg]
  rfl
 ·simp only[qKq]
  rw[if_neg (by simp),fE]
theorem qOa{s:ByteArray}{i e:Nat}(h1:i≤e)(h2:e≤s.data.toList.length):subB s (i:Int) (e:Int)=some (s.extract i e):=by
 have:=qCr s
 rw[zAs (by omega) (by omega) (by omega)]
 simp
theorem zTe{N:Nat}{s:ByteArray}{i j:Nat}(hj:j<s.data.toList.length)(hl:s.data.toList.length<1000000)(hb:qVb (s.data.toList[j])=true):qIy N s (i:Int) (j:Int)=some (.inl ((j:Int)+1)):=by
 have hs:=qCr s
 simp only[qVb,jX,jA,gX,ne_eq] at hb
 obtain⟨⟨h1,h2⟩,h3⟩:=hb
 have h3':¬((s.data.toList[j]).toNat:Int)=34:=fun e=>h3 (UInt8.toNat_inj.1 (by show _=34;omega))
 simp only[qIy,qFo hj,j0]
 rw[if_pos (by simp only[jA];omega),if_pos (by simp only[jA];omega)]
 simp only[j0]
 rw[if_pos (by simp only[jA];omega),if_neg (by simpa using h3'),wi64 (by omega) (by omega)]
theorem zTf{N:Nat}{s:ByteArray}{i j:Nat}(hi:i<s.data.toList.length)(hj:j<s.data.toList.length)(hl:s.data.toList.length<1000000)(hij:i+1≤j)(hb:qVb (s.data.toList[j])=false):
  qIy N s (i:Int) (j:Int)=some (.inr (if s.data.toList.getD j 0=34 then(.inr ((3,s.extract (i+1) j,0,0),((j+1:Nat):Int),0)) else(.inl ()))):=by
 have hs:=qCr s
 simp only[qIy,qFo hj,j0,qIx hj]
 rw[if_pos (by simp only[jA];omega)]
 by_cases h34:s.data.toList[j]=34
 ·rw[h34]
  simp only[show((34:UInt8).toNat:Int)=34 from rfl]
  rw[wi64 (x:=(i:Int)+1) (by omega) (by omega),wi64 (by omega) (by omega),←kX,qOa hij (by omega)]
  rfl
 ·have h3':¬((s.data.toList[j]).toNat:Int)=34:=fun e=>h34 (UInt8.toNat_inj.1 (by show _=34;omega))
  rw[if_neg h34]
  simp only[qVb,Bool.and_eq_false_iff,decide_eq_false_iff_not,bne_eq_false_iff_eq,h34,d7] at hb
  by_cases h1:32≤(s.data.toList[j]).toNat
  ·rw[if_pos (by simp only[jA];omega)]
   simp only[j0]
   rw[if_neg (by simp only[jA];omega)]
  ·rw[if_neg (by simp only[jA];omega)]
   simp
theorem qZx{s:ByteArray}{i:Nat}(h1:i≤s.data.toList.length):subB s (i:Int) (s.size:Int)=some (s.extract i s.data.toList.length):=by
 have hs:=qCr s
 rw[←qOa h1 (jP _),hs]
theorem qEj(x y:ByteArray):(x.toList==y.toList)=decide (x=y):=by
 rw[jY]
 simp only[k9,jA]
 constructor
 ·intro h
  rw[ByteArray.toList_eq,ByteArray.toList_eq] at h
  exact Go.WideShapes.bytes_inj h
 ·rintro rfl;rfl
theorem zQd{N:Nat}{s:ByteArray}{i:Nat}(hi:i<s.data.toList.length):qKx N (s.extract i s.data.toList.length) (⟨#[61,61]⟩:ByteArray)=some (decide (s.data.toList.getD i 0=61∧s.data.toList.getD (i+1) 0=61)):=by
 have hs:=qCr s
 have hsz:(s.extract i s.data.toList.length).size=s.data.toList.length-i:=by rw[ByteArray.size_extract];omega
 simp only[qKx,qGm,hsz,show(⟨#[61,61]⟩:ByteArray).size=2 from rfl]
 by_cases h:i+1<s.data.toList.length
 ·have hd:((s.extract i s.data.toList.length).extract 0 2).data.toList=[s.data.toList[i],s.data.toList[i+1]]:=by
   simp only[ByteArray.data_extract,gW,gE,jZ]
   rw[List.take_take,jM hi,jM h]
   have:min (2-0) (s.data.toList.length-i)=2:=by omega
   rw[this];rfl
  have hsub:subB (s.extract i s.data.toList.length) 0 ((2:Nat):Int)=some ((s.extract i s.data.toList.length).extract 0 2):=by
   have:=qOa (s:=s.extract i s.data.toList.length) (i:=0) (e:=2) (by omega) (by rw[qCr,hsz];omega)
   simpa only[Int.natCast_zero] using this
  rw[if_pos (by simp only[jA];omega),hsub]
  simp only[j0,qEj]
  rw[qIx hi,qIx h]
  generalize (s.extract i s.data.toList.length).extract 0 2=X at hd
  refine congrArg some (decide_eq_decide.2 ?_)
  constructor
  ·intro e
   rw[e] at hd
   have hd':[(61:UInt8),61]=[s.data.toList[i],s.data.toList[i+1]]:=hd
   simp only[kJ,and_true] at hd'
   exact⟨hd'.1.symm,hd'.2.symm⟩
  ·rintro⟨e1,e2⟩
   apply Go.WideShapes.bytes_inj
   rw[hd,e1,e2]
 ·rw[if_neg (by simp only[jA];omega)]
  have h0:s.data.toList.getD (i+1) 0=0:=by rw[kK,List.getElem?_eq_none (by omega)];rfl
  rw[h0]
  simp
theorem zQu{N:Nat}{s:ByteArray}{i:Nat}(hi:i<s.data.toList.length)(hl:s.data.toList.length<1000000)(hN:s.data.toList.length+20<N):qQv N s (i:Int) (some kdL)=some (tokP s i):=by
 have hs:=qCr s
 simp only[qQv,qFo hi,j0,zNr,tokP,qIx hi,k9]
 by_cases h1:kd (s.data.toList[i])=1
 ·simp only[h1,jH]
  have hb:=qSp (p:=inK [1,2,3]) (l:=s.data.toList) (a:=i) (by omega)
  rw[zBs (by omega) hl (by simp) (by omega)]
  simp only[j0]
  rw[wi64 (by omega) (by omega),qOa hb.1 hb.2]
  by_cases h:tw (inK [1,2,3]) s.data.toList i-i>24
  ·rw[if_pos (by simp only[jA];omega),if_pos h];rfl
  ·rw[if_neg (by simp only[jA];omega),if_neg h];rfl
 simp only[h1,jE]
 by_cases h2:kd (s.data.toList[i])=2
 ·simp only[h2,jH]
  have hb:=qSp (p:=inK [2]) (l:=s.data.toList) (a:=i) (by omega)
  have hx:=qCr (s.extract i (tw (inK [2]) s.data.toList i))
  have he:=zEh (s:=s) (p:=inK [2]) (i:=i)
  have hlen:((s.data.toList.drop i).takeWhile (inK [2])).length≤s.data.toList.length:=by
   have:=(hZ (inK [2]) (l:=s.data.toList.drop i)).length_le
   simp only[kM] at this;omega
  rw[zBs (by omega) hl (by simp) (by omega)]
  simp only[j0]
  rw[qOa hb.1 hb.2]
  simp only[j0]
  have hbo:qTp (s.extract i (tw (inK [2]) s.data.toList i))=some ((s.data.toList.drop i).takeWhile (inK [2])):=by
   unfold qTp;rw[←he,if_pos];rw[←hx,he];simp only[maxLen];omega
  rw[hbo]
  simp only[j0]
  rw[zRd (fun c hc=> ?_) (by omega) (by omega)]
  ·simp only[j0,jA]
   split<;>rfl
  ·have:=zLo hc
   simpa[inK] using this
 simp only[h2,jE]
 by_cases h7:kd (s.data.toList[i])=7
 ·simp only[h7,jH]
  have key:=zLb (a0:=i+1) (f:=qIy N s (i:Int)) (l:=s.data.toList) (p:=qVb) (fun e=>if s.data.toList.getD e 0=34 then(.inr ((3,s.extract (i+1) e,0,0),((e+1:Nat):Int),0)) else(.inl ()))
   (fun j hj hb=>zTe hj hl hb) (fun j hj h0 hb=>zTf hi hj hl h0 hb) (by
    simp only[qIy]
    rw[if_neg (by simp only[jA];omega),if_neg (by simp)]
    rfl) (s.data.toList.length-(i+1)) (i+1) N (jP _) (by omega) (by omega)
  rw[wi64 (x:=(i:Int)+1) (by omega) (by omega),←kX,key]
  simp only[j0]
  split
  ·rename_i h;split at h<;>simp_all [zGi]
  ·rename_i h;split at h<;>simp_all
 simp only[h7,jE]
 by_cases h8:kd (s.data.toList[i])=8
 ·simp only[h8,jH]
  rw[qZx (by omega),wi64 (x:=(i:Int)+1) (by omega) (by omega)]
  simp only[j0]
  rw[zQd hi]
  simp only[j0,jA]
  by_cases h:s.data.toList.getD i 0=61∧s.data.toList.getD (i+1) 0=61
  ·have hlt:i+1<s.data.toList.length:=by
    rcases fA (i+1) s.data.toList.length with h'|h'
    ·exact h'
    ·have h0:s.data.toList.getD (i+1) 0=0:=by rw[kK,List.getElem?_eq_none h'];rfl
     rw[h0] at h;exact absurd h.2 (by decide)
   have hE:qYy s.data.toList i=i+2:=by rw[qYy,if_pos h]
   rw[if_pos h,wi64 (by omega) (by omega),hE]
   simp only[j0]
   rw[show((i:Int)+1+1)=((i+2:Nat):Int) by omega,qOa (by omega) (by omega)]
   rfl
  ·have hE:qYy s.data.toList i=i+1:=by rw[qYy,if_neg h]
   rw[if_neg h,hE]
   simp only[j0]
   rw[←kX,qOa (by omega) (by omega)]
   rfl
 simp only[h8,jE]
 rfl
end
section
open Go Go.Dc
theorem zSf{p:UInt8→Bool}{l:List UInt8}(h:∀c∈l,p c=true):tw p l 0=l.length:=by
 unfold tw
 have:l.takeWhile p=l:=by
  induction l with
  |nil=>rfl
  |cons c l ih=>rw[gA (h c (jN ..)),ih fun d hd=>h d (jS _ hd)]
 simp[this]
end
section
open Go Go.Dc
abbrev Tok:=Int×ByteArray×Int×Int
theorem zKm{ks:List Int}{k:Int}{c:UInt8}(hk:k∈ks)(h:kd c=k):inK ks c=true:=by
 unfold inK;exact fG.2 ⟨k,hk,by simp[h]⟩
theorem zAr{p:UInt8→Bool}{l:List UInt8}{a:Nat}(h:a<l.length)(hp:p l[a]=true):a<tw p l a:=by
 rw[←qTt h hp];have:=(qSp (p:=p) (l:=l) (a:=a+1) (by omega)).1;omega
theorem qWv{l:List UInt8}{i:Nat}(h:l.getD i 0≠0):i<l.length:=by
 rcases fA i l.length with h'|h'
 ·exact h'
 ·exfalso;apply h;rw[kK,List.getElem?_eq_none h'];rfl
theorem zEd{s:ByteArray}{i:Nat}(hi:i<s.data.toList.length)(h:(tokP s i).2.2=0):∃e:Nat,(tokP s i).2.1=(e:Int)∧i<e∧e≤s.data.toList.length∧
  (((tokP s i).1.1=1∨(tokP s i).1.1=4)∧(tokP s i).1.2.1=s.extract i e∨(tokP s i).1.1=2∧(tokP s i).1.2.1=⟨#[]⟩∨(tokP s i).1.1=3∧(tokP s i).1.2.1.size+i<e):=by
 have hs:=qCr s
 unfold tokP at h ⊢
 rw[qIx hi] at h ⊢
 by_cases h1:kd (s.data.toList[i])=1
 ·rw[if_pos h1] at h ⊢
  split at h
  ·cases h
  ·rename_i h24
   rw[if_neg h24]
   have hb:=qSp (p:=inK [1,2,3]) (l:=s.data.toList) (a:=i) (by omega)
   exact⟨_,rfl,zAr hi (zKm (by simp) h1),hb.2,.inl ⟨.inl rfl,rfl⟩⟩
 rw[if_neg h1] at h ⊢
 by_cases h2:kd (s.data.toList[i])=2
 ·rw[if_pos h2] at h ⊢
  split at h
  ·cases h
  ·rename_i h24
   rw[if_neg h24]
   have hb:=qSp (p:=inK [2]) (l:=s.data.toList) (a:=i) (by omega)
   exact⟨_,rfl,zAr hi (zKm (by simp) h2),hb.2,.inr (.inl ⟨rfl,rfl⟩)⟩
 rw[if_neg h2] at h ⊢
 by_cases h7:kd (s.data.toList[i])=7
 ·rw[if_pos h7] at h ⊢
  split at h
  ·rename_i h24
   rw[if_pos h24]
   have hb:=qSp (p:=qVb) (l:=s.data.toList) (a:=i+1) (by omega)
   have hlt:tw qVb s.data.toList (i+1)<s.data.toList.length:=qWv (by rw[h24];decide)
   refine⟨_,rfl,by omega,by omega,.inr (.inr ⟨rfl,?_⟩)⟩
   simp only[ByteArray.size_extract]
   omega
  ·cases h
 rw[if_neg h7] at h ⊢
 by_cases h8:kd (s.data.toList[i])=8
 ·rw[if_pos h8] at h ⊢
  refine⟨_,rfl,?_,?_,.inl ⟨.inr rfl,rfl⟩⟩
  ·unfold qYy;split<;>omega
  ·unfold qYy
   split
   ·rename_i hh
    have:i+1<s.data.toList.length:=qWv (by rw[hh.2];decide)
    omega
   ·omega
 rw[if_neg h8] at h
 cases h
def qJr(c:UInt8):Bool:=c !=10
def tokG:Nat→ByteArray→Nat→(Int×Int)⊕List Tok
 |0,_,_=> .inr []
 |k+1,s,i=>
  if tw (inK [5]) s.data.toList i=s.data.toList.length then .inr [(5,⟨#[]⟩,0,(s.data.toList.length:Int))]
  else if kd (s.data.toList.getD (tw (inK [5]) s.data.toList i) 0)=6 then tokG k s (tw qJr s.data.toList (tw (inK [5]) s.data.toList i))
  else if(tokP s (tw (inK [5]) s.data.toList i)).2.2≠0 then .inl ((tw (inK [5]) s.data.toList i:Nat),(tokP s (tw (inK [5]) s.data.toList i)).2.2)
  else match tokG k s (tokP s (tw (inK [5]) s.data.toList i)).2.1.toNat with
   | .inl x=> .inl x
   | .inr r=> .inr (((tokP s (tw (inK [5]) s.data.toList i)).1.1,(tokP s (tw (inK [5]) s.data.toList i)).1.2.1,(tokP s (tw (inK [5]) s.data.toList i)).1.2.2.1,((tw (inK [5]) s.data.toList i:Nat):Int))::r)
def zFb(acc:List Tok):(Int×Int)⊕List Tok→List Tok×Int×Int
 | .inl x=>([],x.1,x.2)
 | .inr r=>(acc++r,0,0)
def qHf(s:ByteArray):List Tok×Int×Int:=if s.data.toList.length>16384 then([],0,2) else zFb [] (tokG (s.data.toList.length+1) s 0)
theorem zTk{s:ByteArray}{i:Nat}(hi:i≤s.data.toList.length):
  (if ixB (s.extract i s.data.toList.length) 10<0 then((s.data.toList.length-i:Nat):Int) else ixB (s.extract i s.data.toList.length) 10)=((tw qJr s.data.toList i-i:Nat):Int):=by
 have hs:=qCr s
 have hsz:(s.extract i s.data.toList.length).size=s.data.toList.length-i:=by rw[ByteArray.size_extract];omega
 have hb:=qSp (p:=qJr) (l:=s.data.toList) (a:=i) hi
 have hget:∀j,j<s.data.toList.length-i→(s.extract i s.data.toList.length)[j]! =s.data.toList.getD (i+j) 0:=by
  intro j hj
  have hj':i+j<s.data.toList.length:=by omega
  rw[qIx hj',getElem!_pos _ _ (by rw[hsz];exact hj),ByteArray.getElem_extract]
  simp[ByteArray.getElem_eq_getElem_data]
 have hin:∀d a,a+d=s.data.toList.length→∀j,a≤j→j<tw qJr s.data.toList a→s.data.toList.getD j 0≠10:=by
  intro d
  induction d with
  |zero=>intro a ha j h1 h2;rw[zDg (by omega)] at h2;omega
  |succ d ih=>
   intro a ha j h1 h2
   have hlt:a<s.data.toList.length:=by omega
   cases hc:qJr (s.data.toList[a]) with
   |true=>
    rw[←qTt hlt hc] at h2
    rcases Nat.eq_or_lt_of_le h1 with rfl|h1
    ·rw[qIx hlt];simpa[qJr] using hc
    ·exact ih (a+1) (by omega) j h1 h2
   |false=>rw[qUh hlt hc] at h2;omega
 have hin:=hin (s.data.toList.length-i) i (by omega)
 unfold ixB
 rw[hsz]
 cases hf:(List.range (s.data.toList.length-i)).find? (fun j=>(s.extract i s.data.toList.length)[j]! ==(10:Int).toNat.toUInt8) with
 |none=>
  rw[List.find?_eq_none] at hf
  simp only
  rw[if_pos (by omega)]
  have:¬tw qJr s.data.toList i<s.data.toList.length:=by
   intro hlt
   have h1:=zOt (p:=qJr) (l:=s.data.toList) (s.data.toList.length-i) i (by omega) hlt
   have h2:=hf (tw qJr s.data.toList i-i) (fH.2 (by omega))
   rw[hget _ (by omega),show i+(tw qJr s.data.toList i-i)=tw qJr s.data.toList i by omega,qIx hlt] at h2
   simp only[qJr,bne_eq_false_iff_eq] at h1
   rw[h1] at h2
   exact h2 (by decide)
  omega
 |some k=>
  have h1:=List.find?_some hf
  have hk:k<s.data.toList.length-i:=fH.1 (gU hf)
  simp only
  rw[if_neg (by omega)]
  rw[hget k hk] at h1
  have h1:s.data.toList.getD (i+k) 0=10:=by simpa using h1
  have h2:¬i+k<tw qJr s.data.toList i:=fun h=>hin (i+k) (by omega) h h1
  have h3:¬tw qJr s.data.toList i<i+k:=by
   intro hlt
   have hlt':tw qJr s.data.toList i<s.data.toList.length:=by omega
   have h4:=zOt (p:=qJr) (l:=s.data.toList) (s.data.toList.length-i) i (by omega) hlt'
   have h5:=List.not_of_lt_findIdx (xs:=List.range (s.data.toList.length-i)) (p:=fun j=>(s.extract i s.data.toList.length)[j]! ==(10:Int).toNat.toUInt8) (i:=tw qJr s.data.toList i-i)
   have h6:=(List.find?_range_eq_some.1 hf).2.2 (tw qJr s.data.toList i-i) (by omega)
   rw[hget _ (by omega),show i+(tw qJr s.data.toList i-i)=tw qJr s.data.toList i by omega,qIx hlt'] at h6
   simp only[qJr,bne_eq_false_iff_eq] at h4
   rw[h4] at h6
   simp at h6
  omega
end
section
open Go Go.Dc
theorem qVw{N:Nat}{s:ByteArray}(hl:s.data.toList.length≤16384)(hN:s.data.toList.length+40<N):∀(k M i:Nat) (acc:List Tok),i≤s.data.toList.length→s.data.toList.length<i+k→k≤M→acc.length≤i→
  qAw (qLe N s (some kdL)) M (acc,(i:Int))=some (zFb acc (tokG k s i))
 |0,_,i,_,h1,h2,_,_=>by omega
 |k+1,0,_,_,_,_,h3,_=>by omega
 |k+1,M+1,i,acc,h1,h2,h3,h4=>by
  have hs:=qCr s
  have hb:=qSp (p:=inK [5]) (l:=s.data.toList) (a:=i) h1
  simp only[qAw,tokG]
  have hstep:qLe N s (some kdL) (acc,(i:Int))=if tw (inK [5]) s.data.toList i=s.data.toList.length then some (.inr (acc++[(5,⟨#[]⟩,0,(s.data.toList.length:Int))],0,0))
    else if kd (s.data.toList.getD (tw (inK [5]) s.data.toList i) 0)=6 then some (.inl (acc,((tw qJr s.data.toList (tw (inK [5]) s.data.toList i):Nat):Int)))
    else if(tokP s (tw (inK [5]) s.data.toList i)).2.2≠0 then some (.inr ([],(tw (inK [5]) s.data.toList i:Nat),(tokP s (tw (inK [5]) s.data.toList i)).2.2))
    else some (.inl (acc++[((tokP s (tw (inK [5]) s.data.toList i)).1.1,(tokP s (tw (inK [5]) s.data.toList i)).1.2.1,(tokP s (tw (inK [5]) s.data.toList i)).1.2.2.1,((tw (inK [5]) s.data.toList i:Nat):Int))],(tokP s (tw (inK [5]) s.data.toList i)).2.1)):=by
   simp only[qLe]
   rw[zBs h1 (by omega) (by simp) (by omega)]
   simp only[j0]
   generalize hE:tw (inK [5]) s.data.toList i=e at hb ⊢
   by_cases he:e=s.data.toList.length
   ·rw[if_pos he,if_pos (by rw[k9];omega),qCv (by simp only[jC,jG];omega) (by omega),he]
    rfl
   ·have hlt:e<s.data.toList.length:=by omega
    rw[if_neg he,if_neg (by rw[k9];omega),qFo hlt]
    simp only[j0,zNr,k9,qIx hlt]
    by_cases h6:kd (s.data.toList[e])=6
    ·rw[if_pos h6,if_pos h6,qZx (by omega)]
     have hle:=zTk (s:=s) (i:=e) (by omega)
     have hb2:=qSp (p:=qJr) (l:=s.data.toList) (a:=e) (by omega)
     have hx:(if(decide (ixB (s.extract e s.data.toList.length) 10<0))=true then(some (IntKind.wrap .i64 ((ByteArray.size s:Int)-(e:Int)))) else(some (ixB (s.extract e s.data.toList.length) 10)):Option Int)=some ((tw qJr s.data.toList e-e:Nat):Int):=by
      rw[←hle,wi64 (by omega) (by omega)]
      by_cases hi:ixB (s.extract e s.data.toList.length) 10<0
      ·rw[if_pos (by simpa using hi),if_pos hi];congr 1;omega
      ·rw[if_neg (by simpa using hi),if_neg hi]
     simp only[j0,qMq,qDw]
     rw[hx]
     simp only[j0]
     rw[wi64 (by omega) (by omega)]
     congr 3;omega
    ·rw[if_neg h6,if_neg h6,zQu hlt (by omega) (by omega)]
     simp only[j0,gX]
     by_cases h0:(tokP s e).2.2≠0
     ·rw[if_pos h0,if_pos h0]
     ·rw[if_neg h0,if_neg h0,qCv (by simp only[jC,jG];omega) (by omega)]
      rfl
  rw[hstep]
  by_cases he:tw (inK [5]) s.data.toList i=s.data.toList.length
  ·rw[if_pos he,if_pos he];rfl
  rw[if_neg he,if_neg he]
  have hlt:tw (inK [5]) s.data.toList i<s.data.toList.length:=by omega
  by_cases h6:kd (s.data.toList.getD (tw (inK [5]) s.data.toList i) 0)=6
  ·rw[if_pos h6,if_pos h6]
   have hb2:=qSp (p:=qJr) (l:=s.data.toList) (a:=tw (inK [5]) s.data.toList i) (by omega)
   have hpos:=zAr (p:=qJr) hlt (by
    rw[qIx hlt] at h6
    simp only[qJr,gX,ne_eq]
    intro e;rw[e] at h6;exact absurd h6 (by decide))
   exact qVw hl hN k M _ acc hb2.2 (by omega) (by omega) (by omega)
  rw[if_neg h6,if_neg h6]
  by_cases h0:(tokP s (tw (inK [5]) s.data.toList i)).2.2≠0
  ·rw[if_pos h0,if_pos h0];rfl
  rw[if_neg h0,if_neg h0]
  obtain⟨e,he1,he2,he3,_⟩:=zEd hlt (by simpa using h0)
  rw[he1]
  simp only[j0,kH]
  rw[qVw hl hN k M e _ he3 (by omega) (by omega) (by simp;omega)]
  cases tokG k s e with
  |inl x=>rfl
  |inr r=>simp[zFb]
theorem zOw{N:Nat}{s:ByteArray}(hN:20000<N):qPk N s=some (qHf s):=by
 have hs:=qCr s
 unfold qPk qHf
 by_cases h:s.data.toList.length>16384
 ·rw[if_pos (by simp only[jA];omega),if_pos h]
 ·rw[if_neg (by simp only[jA];omega),if_neg h,zFo (by omega)]
  have:=qVw (N:=N) (s:=s) (by omega) (by omega) (s.data.toList.length+1) N 0 [] (by omega) (by omega) (by omega) (by simp)
  simp only[j0]
  rw[show((0:Nat):Int)=0 from rfl] at this
  rw[this]
  rfl
def endT(t:Tok):Int:=t.2.2.2+(t.2.1.size:Int)+(if t.1=2 then 1 else 0)
def zTr(s:ByteArray):Int→List Tok→Prop
 |_,[]=>True
 |e,t::r=>e≤t.2.2.2∧t.2.2.2+(t.2.1.size:Int)≤s.size∧(t.1=5↔r=[])∧(t.1=1∨t.1=4→s.extract t.2.2.2.toNat (t.2.2.2+(t.2.1.size:Int)).toNat=t.2.1∧0<t.2.1.size)∧zTr s (endT t) r
theorem qXx{s:ByteArray}:∀(k i:Nat) (e:Int) (r:List Tok),i≤s.data.toList.length→s.data.toList.length<i+k→e≤i→tokG k s i= .inr r→zTr s e r∧r≠[]∧r.length≤s.data.toList.length+1-i
 |0,i,e,r,h1,h2,h3,h4=>by omega
 |k+1,i,e,r,h1,h2,h3,h4=>by
  have hs:=qCr s
  have hb:=qSp (p:=inK [5]) (l:=s.data.toList) (a:=i) h1
  simp only[tokG] at h4
  generalize hE:tw (inK [5]) s.data.toList i=a at hb h4
  split at h4
  ·obtain rfl:=(Sum.inr.inj h4).symm
   refine⟨⟨by show e≤(s.data.toList.length:Int);omega,by show(s.data.toList.length:Int)+((0:Nat):Int)≤_;omega,by simp,fun h=>by simp at h,trivial⟩,by simp,by simp;omega⟩
  ·rename_i he
   have hlt:a<s.data.toList.length:=by omega
   split at h4
   ·rename_i h6
    have hb2:=qSp (p:=qJr) (l:=s.data.toList) (a:=a) (by omega)
    have hpos:=zAr (p:=qJr) hlt (by
     rw[qIx hlt] at h6
     simp only[qJr,gX,ne_eq]
     intro e;rw[e] at h6;exact absurd h6 (by decide))
    obtain⟨g1,g2,g3⟩:=qXx k _ e r hb2.2 (by omega) (by omega) h4
    exact⟨g1,g2,by omega⟩
   ·split at h4
    ·cases h4
    ·rename_i h0
     obtain⟨b,hb1,hb2,hb3,hk⟩:=zEd hlt (by simpa using h0)
     rw[hb1,kH] at h4
     generalize (tokP s a).1=t at h4 hk
     cases hG:tokG k s b with
     |inl x=>rw[hG] at h4;cases h4
     |inr q=>
      rw[hG] at h4
      obtain rfl:=(Sum.inr.inj h4).symm
      have hext:(s.extract a b).size=b-a:=by rw[ByteArray.size_extract];omega
      have hend:endT (t.1,t.2.1,t.2.2.1,(a:Int))≤b∧(a:Int)+(t.2.1.size:Int)≤b∧t.1≠5∧(t.1=1∨t.1=4→t.2.1=s.extract a b):=by
       rcases hk with ⟨hk1,hk2⟩|⟨hk1,hk2⟩|⟨hk1,hk2⟩
       ·refine⟨?_,?_,by omega,fun _=>hk2⟩
        ·simp only[endT,hk2,hext];rw[if_neg (by omega)];omega
        ·rw[hk2,hext];omega
       ·have:(⟨#[]⟩:ByteArray).size=0:=rfl
        refine⟨?_,?_,by omega,fun h=>by omega⟩
        ·simp only[endT,hk2,this];rw[if_pos hk1];omega
        ·rw[hk2,this];omega
       ·refine⟨?_,by omega,by omega,fun h=>by omega⟩
        simp only[endT];rw[if_neg (by omega)];omega
      obtain⟨g1,g2,g3⟩:=qXx k b (endT (t.1,t.2.1,t.2.2.1,(a:Int))) q hb3 (by omega) hend.1 hG
      refine⟨⟨by show e≤(a:Int);omega,?_,?_,?_,g1⟩,by simp,by simp only[jC];omega⟩
      ·show(a:Int)+(t.2.1.size:Int)≤_;omega
      ·exact⟨fun h=>absurd h hend.2.2.1,fun h=>absurd h g2⟩
      ·intro h
       have:=hend.2.2.2 h
       show s.extract (Int.toNat (a:Int)) ((a:Int)+(t.2.1.size:Int)).toNat=t.2.1∧0<t.2.1.size
       rw[this,hext,kH,show((a:Int)+((b-a:Nat):Int)).toNat=b by omega]
       exact⟨rfl,by omega⟩
theorem zFc{s:ByteArray}:∀(k i:Nat) (x:Int×Int),i≤s.data.toList.length→s.data.toList.length<i+k→tokG k s i= .inl x→0≤x.1∧x.1≤s.size∧x.2≠0
 |0,i,x,h1,h2,h4=>by omega
 |k+1,i,x,h1,h2,h4=>by
  have hs:=qCr s
  have hb:=qSp (p:=inK [5]) (l:=s.data.toList) (a:=i) h1
  simp only[tokG] at h4
  generalize hE:tw (inK [5]) s.data.toList i=a at hb h4
  split at h4
  ·cases h4
  ·rename_i he
   have hlt:a<s.data.toList.length:=by omega
   split at h4
   ·rename_i h6
    have hb2:=qSp (p:=qJr) (l:=s.data.toList) (a:=a) (by omega)
    have hpos:=zAr (p:=qJr) hlt (by
     rw[qIx hlt] at h6
     simp only[qJr,gX,ne_eq]
     intro e;rw[e] at h6;exact absurd h6 (by decide))
    exact zFc k _ x hb2.2 (by omega) h4
   ·split at h4
    ·rename_i h0
     obtain rfl:=Sum.inl.inj h4
     exact⟨by simp only;omega,by simp only;omega,h0⟩
    ·rename_i h0
     obtain⟨b,hb1,hb2,hb3,hk⟩:=zEd hlt (by simpa using h0)
     rw[hb1,kH] at h4
     cases hG:tokG k s b with
     |inl y=>rw[hG] at h4;obtain rfl:=Sum.inl.inj h4;exact zFc k b y hb3 (by omega) hG
     |inr q=>rw[hG] at h4;cases h4
end
section
open Go Go.Dc
theorem qYh{p:UInt8→Bool}(h:((List.range 256).all fun n=>p (UInt8.ofNat n))=true)(c:UInt8):p c=true:=by
 have:=k7.1 h c.toNat (fH.2 c.toNat_lt)
 simpa using this
theorem zBr{N:Nat}(c:UInt8):qGi N (c.toNat:Int)=some (kd c==1):=by
 have h:=qYh (p:=fun c=>(decide (97≤c.toNat)&&decide (c.toNat≤122))==(kd c==1)) (by kernel_rfl) c
 rw[k9] at h
 rw[←h]
 unfold qGi
 by_cases h1:97≤c.toNat
 ·rw[if_pos (by simp only[jA];omega)]
  simp only[h1,decide_true,gF,j0]
  congr 1
  exact decide_eq_decide.2 (by omega)
 ·rw[if_neg (by simp only[jA];omega)]
  simp[h1]
theorem qWi{N:Nat}(c:UInt8):qFn N (c.toNat:Int)=some (inK [1,2,3] c):=by
 have h:=qYh (p:=fun c=>(kd c==1||(decide (48≤c.toNat)&&decide (c.toNat≤57)||decide (c.toNat=95)))==inK [1,2,3] c) (by kernel_rfl) c
 rw[k9] at h
 rw[←h]
 unfold qFn
 rw[zBr]
 simp only[j0]
 cases kd c==1
 ·have e95:((c.toNat:Int)==95)=decide (c.toNat=95):=by rw[jY,k9,jA];omega
  simp only[jB,jE,d8,e95]
  by_cases h1:48≤c.toNat
  ·by_cases h2:c.toNat≤57
   ·rw[if_pos (by simp only[jA];omega),if_pos (by simp only[jA];omega)];simp[h1,h2]
   ·rw[if_pos (by simp only[jA];omega),if_neg (by simp only[jA];omega)];simp[h2]
  ·rw[if_neg (by simp only[jA];omega)];simp[h1]
 ·rfl
theorem qZr(c:UInt8):kd c=2↔48≤c.toNat∧c.toNat≤57:=by
 have h:=qYh (p:=fun c=>(kd c==2)==(decide (48≤c.toNat)&&decide (c.toNat≤57))) (by kernel_rfl) c
 rw[k9,jY] at h
 simpa using h
theorem zHc(c:UInt8):kd c=7↔c=34:=by
 have h:=qYh (p:=fun c=>(kd c==7)==(c==34)) (by kernel_rfl) c
 rw[k9,jY] at h
 simpa using h
def signs:List UInt8:=[59,44,40,41,43,45,42,47,37,60,61]
theorem zLg(c:UInt8):kd c=8↔signs.contains c=true:=by
 have h:=qYh (p:=fun c=>(kd c==8)==signs.contains c) (by kernel_rfl) c
 rw[k9,jY] at h
 simpa using h
theorem zNt(c:UInt8):inK [5] c=true↔c.toNat=32∨c.toNat=9∨c.toNat=10∨c.toNat=13:=by
 have h:=qYh (p:=fun c=>inK [5] c==(decide (c.toNat=32)||(decide (c.toNat=9)||(decide (c.toNat=10)||decide (c.toNat=13))))) (by kernel_rfl) c
 rw[k9,jY] at h
 simpa using h
theorem zJk(c:UInt8):kd c=6↔c.toNat=35:=by
 have h:=qYh (p:=fun c=>(kd c==6)==decide (c.toNat=35)) (by kernel_rfl) c
 rw[k9,jY] at h
 simpa using h
def numR(n:Int)(c:UInt8):Int:=if n≤9007199254740992 then n*10+((c.toNat:Int)-48) else n
theorem zPb(l:List UInt8)(c:UInt8):(l++[c]).foldl numR 0=numR (l.foldl numR 0) c:=by simp
theorem zPy:∀(n:Nat) (ds:List UInt8),ds.length=n→(∀c∈ds,kd c=2)→0≤ds.foldl numR 0∧ds.foldl numR 0≤90071992547409930∧numL ds=if ds.foldl numR 0>9007199254740992 then 9007199254740993 else ds.foldl numR 0
 |0,ds,h,_=>by obtain rfl:=h9.1 h;simp[numL]
 |n+1,ds,h,hd=>by
  obtain⟨l,c,rfl⟩:∃l c,ds=l++[c]:=by
   rcases List.eq_nil_or_concat ds with e|⟨l,c,e⟩
   ·rw[e] at h;cases h
   ·exact⟨l,c,by simpa using e⟩
  obtain⟨h1,h2,h3⟩:=zPy n l (by simpa using h) (fun c hc=>hd c (gV _ hc))
  have hc:=zDx c (hd c (by simp))
  rw[zPb,zAg]
  by_cases hu:l.foldl numR 0≤9007199254740992
  ·rw[if_neg (by omega)] at h3
   rw[h3]
   generalize l.foldl numR 0=u at h1 h2 hu
   have e1:numR u c=u*10+((c.toNat:Int)-48):=if_pos hu
   rw[e1]
   unfold numS
   refine⟨by omega,by omega,?_⟩
   by_cases h4:9007199254740993<10*u+((c.toNat:Int)-48)
   ·rw[if_pos h4,if_pos (by omega)]
   ·rw[if_neg h4]
    by_cases h5:u*10+((c.toNat:Int)-48)>9007199254740992
    ·rw[if_pos h5];omega
    ·rw[if_neg h5];omega
  ·rw[if_pos (by omega)] at h3
   rw[h3]
   generalize l.foldl numR 0=u at h1 h2 hu
   have e1:numR u c=u:=if_neg hu
   have e2:numS 9007199254740993 c=9007199254740993:=if_pos (by omega)
   rw[e1,e2,if_pos (by omega)]
   exact⟨h1,h2,rfl⟩
theorem inK2(c:UInt8):inK [2] c=decide (48≤c.toNat∧c.toNat≤57):=by
 rw[jY,jA,←qZr];simp[inK]
theorem zBb{N:Nat}{s:ByteArray}:∀(d i M:Nat) (n:Int),i+d=s.data.toList.length→s.data.toList.length<1000000→d<M→0≤n→n≤90071992547409930→
  qAw (qGu N s) M ((i:Int),n)=some (((tw (inK [2]) s.data.toList i:Nat):Int),((s.data.toList.drop i).takeWhile (inK [2])).foldl numR n)
 |d,i,0,n,_,_,h,_,_=>by omega
 |0,i,M+1,n,h1,hl,h2,h3,h4=>by
  have hs:=qCr s
  rw[zDg (by omega),jV (by omega)]
  simp only[qAw,qGu]
  rw[if_neg (by simp only[jA];omega)]
  rfl
 |d+1,i,M+1,n,h1,hl,h2,h3,h4=>by
  have hs:=qCr s
  have hi:i<s.data.toList.length:=by omega
  simp only[qAw,qGu]
  rw[if_pos (by simp only[jA];omega),qFo hi]
  simp only[j0]
  have hc:(if decide (((s.data.toList[i]).toNat:Int)≥48)=true then some (decide (((s.data.toList[i]).toNat:Int)≤57)) else some false)=some (inK [2] (s.data.toList[i])):=by
   rw[inK2]
   by_cases h48:48≤(s.data.toList[i]).toNat
   ·rw[if_pos (by simp only[jA];omega)];congr 1;exact decide_eq_decide.2 (by omega)
   ·rw[if_neg (by simp only[jA];omega)];congr 1;exact(jU (by omega)).symm
  rw[hc]
  simp only[j0]
  rw[jM hi]
  cases hb:inK [2] (s.data.toList[i]) with
  |false=>
   rw[qUh hi hb,gN (by rw[hb];exact gT)]
   rfl
  |true=>
   have hd:48≤(s.data.toList[i]).toNat∧(s.data.toList[i]).toNat≤57:=by rw[inK2] at hb;simpa using hb
   rw[←qTt hi hb,gA hb,jQ,if_pos rfl]
   have hn:(if decide (n≤9007199254740992)=true then some (IntKind.wrap .i64 (IntKind.wrap .i64 (n*10)+IntKind.wrap .i64 (IntKind.wrap .u8 (((s.data.toList[i]).toNat:Int)-48)))) else some n)=some (numR n (s.data.toList[i])):=by
    unfold numR
    by_cases hn:n≤9007199254740992
    ·rw[if_pos (by simpa using hn),if_pos hn,wu8 (by omega) (by omega),wi64 (x:=n*10) (by omega) (by omega),wi64 (x:=((s.data.toList[i]).toNat:Int)-48) (by omega) (by omega),wi64 (by omega) (by omega)]
    ·rw[if_neg (by simpa using hn),if_neg hn]
   rw[hn]
   simp only[j0]
   rw[wi64 (by omega) (by omega),←kX]
   exact zBb d (i+1) M _ (by omega) hl (by omega) (by unfold numR;split<;>omega) (by unfold numR;split<;>omega)
theorem zKj(c:UInt8):(if decide ((c.toNat:Int)≥32)=true then(if decide ((c.toNat:Int)≤126)=true then some ((c.toNat:Int) !=34) else some false) else some false)=some (qVb c):=by
 unfold qVb
 by_cases h1:32≤c.toNat
 ·rw[if_pos (by simp only[jA];omega)]
  by_cases h2:c.toNat≤126
  ·rw[if_pos (by simp only[jA];omega)]
   simp only[h1,h2,decide_true,gF]
   congr 1
   rw[jY,gX,gX]
   exact⟨fun h e=>h (by rw[e];rfl),fun h e=>h (UInt8.toNat_inj.1 (by show _=34;omega))⟩
  ·rw[if_neg (by simp only[jA];omega)];simp[h2]
 ·rw[if_neg (by simp only[jA];omega)];simp[h1]
theorem zGm{N:Nat}{s:ByteArray}(d i M:Nat)(h1:i+d=s.data.toList.length)(hl:s.data.toList.length<1000000)(h2:d<M):qAw (qEi N s) M (i:Int)=some ((tw qVb s.data.toList i:Nat):Int):=by
 have hs:=qCr s
 refine qXt (f:=qEi N s) (l:=s.data.toList) (p:=qVb) (fun e=>(e:Int)) (fun j hj hb=> ?_) (fun j hj hb=> ?_) ?_ d i M h1 h2
 ·simp only[qEi]
  rw[if_pos (by simp only[jA];omega),qFo hj]
  simp only[j0,zKj,hb]
  rw[if_pos trivial,wi64 (by omega) (by omega)]
 ·simp only[qEi]
  rw[if_pos (by simp only[jA];omega),qFo hj]
  simp only[j0,zKj,hb]
  rfl
 ·simp only[qEi]
  rw[if_neg (by simp only[jA];omega)]
  rfl
theorem zSe{N:Nat}{s:ByteArray}{p1 s6:Int}:qIr N s p1 s6=if(decide (s6<(signs.length:Int)))=true then((idx signs s6).bind fun x12=>(idxB s p1).bind fun x13=>if((x13.toNat:Int)==(x12.toNat:Int))=true then((subB s p1 (IntKind.wrap .i64 (p1+1))).bind fun s7=>some (.inr (.inr (((4,s7,0,p1),IntKind.wrap .i64 (p1+1),0))))) else(some (.inl (IntKind.wrap .i64 (s6+1))))) else(some (.inr (.inl ()))):=rfl
theorem qYn{N:Nat}{s:ByteArray}{i:Nat}(hi:i<s.data.toList.length)(hl:s.data.toList.length<1000000):∀(d j M:Nat),j+d=signs.length→d<M→
  qAw (qIr N s (i:Int)) M (j:Int)=some (if(signs.drop j).contains (s.data.toList[i])=true then .inr ((4,s.extract i (i+1),0,(i:Int)),((i+1:Nat):Int),0) else .inl ())
 |d,j,0,_,h=>by omega
 |0,j,M+1,h1,h2=>by
  simp only[qAw,zSe]
  rw[if_neg (by simp only[jA];omega),jV (by omega)]
  rfl
 |d+1,j,M+1,h1,h2=>by
  have hj:j<signs.length:=by omega
  have hls:signs.length=11:=rfl
  simp only[qAw,zSe]
  rw[if_pos (by simp only[jA];omega),qDu hj,qFo hi,jM hj]
  simp only[j0,List.contains_cons]
  by_cases he:s.data.toList[i]=signs[j]
  ·rw[if_pos (by rw[he];exact kI _),wi64 (x:=(i:Int)+1) (by omega) (by omega),←kX,qOa (by omega) (by omega)]
   simp only[j0]
   rw[if_pos (by rw[he];simp)]
  ·have hne:¬((s.data.toList[i]).toNat:Int)=((signs[j]).toNat:Int):=fun h=>he (UInt8.toNat_inj.1 (by omega))
   have hne2:(s.data.toList[i]==signs[j])=false:=beq_eq_false_iff_ne.2 he
   rw[if_neg (by simpa using hne),wi64 (by omega) (by omega),←kX]
   simp only[j0,hne2,d8]
   exact qYn hi hl d (j+1) M (by omega) (by omega)
def refP(s:ByteArray)(i:Nat):(Int×ByteArray×Int×Int)×Int×Int:=
 if(tokP s i).2.2=0 then(((tokP s i).1.1,(tokP s i).1.2.1,(tokP s i).1.2.2.1,(i:Int)),(tokP s i).2.1,0) else tokP s i
theorem zIf{N:Nat}{s:ByteArray}{i:Nat}(hi:i<s.data.toList.length)(hl:s.data.toList.length<1000000)(hN:s.data.toList.length+20<N):qJy N s (i:Int)=some (refP s i):=by
 have hs:=qCr s
 simp only[qJy,qFo hi,j0,zBr,refP,tokP,qIx hi,k9]
 by_cases h1:kd (s.data.toList[i])=1
 ·simp only[h1,jH]
  have hb:=qSp (p:=inK [1,2,3]) (l:=s.data.toList) (a:=i) (by omega)
  have key:=qXt (f:=qFb N s) (l:=s.data.toList) (p:=inK [1,2,3]) (fun e=>(e:Int)) (fun j hj hb=>by
   simp only[qFb]
   rw[if_pos (by simp only[jA];omega),qFo hj]
   simp only[j0,qWi,hb]
   rw[if_pos trivial,wi64 (by omega) (by omega)]) (fun j hj hb=>by
   simp only[qFb]
   rw[if_pos (by simp only[jA];omega),qFo hj]
   simp only[j0,qWi,hb]
   rfl) (by
   simp only[qFb]
   rw[if_neg (by simp only[jA];omega)]
   rfl) (s.data.toList.length-i) i N (by omega) (by omega)
  rw[key]
  simp only[j0]
  rw[wi64 (by omega) (by omega),qOa hb.1 hb.2]
  by_cases h:tw (inK [1,2,3]) s.data.toList i-i>24
  ·rw[if_pos (by simp only[jA];omega),if_pos h];rfl
  ·rw[if_neg (by simp only[jA];omega),if_neg h];rfl
 simp only[h1,jE]
 by_cases h2:kd (s.data.toList[i])=2
 ·simp only[h2,jH]
  have hd:=(qZr _).1 h2
  rw[if_pos (by simp only[jA];omega)]
  simp only[j0]
  obtain⟨n1,n2,n3⟩:=zPy _ _ rfl (fun c (hc:c∈(s.data.toList.drop i).takeWhile (inK [2]))=>by simpa[inK] using zLo hc)
  rw[if_pos (by simp only[jA];omega),zBb (s.data.toList.length-i) i N 0 (by omega) hl (by omega) (by omega) (by omega),n3]
  simp only[j0,jA]
  generalize ((s.data.toList.drop i).takeWhile (inK [2])).foldl numR 0=u at n1 n2
  by_cases h4:u>9007199254740992
  ·simp[h4,zGi]
  ·simp[h4]
 simp only[h2,jE]
 have hnd:¬(48≤(s.data.toList[i]).toNat∧(s.data.toList[i]).toNat≤57):=fun h=>h2 ((qZr _).2 h)
 have hdig:(if decide (((s.data.toList[i]).toNat:Int)≥48)=true then some (decide (((s.data.toList[i]).toNat:Int)≤57)) else some false)=some false:=by
  by_cases h48:48≤(s.data.toList[i]).toNat
  ·rw[if_pos (by simp only[jA];omega)];congr 1;rw[decide_eq_false_iff_not];omega
  ·rw[if_neg (by simp only[jA];omega)]
 rw[hdig]
 simp only[j0,jB,jE]
 by_cases h7:kd (s.data.toList[i])=7
 ·have hc:s.data.toList[i]=34:=(zHc _).1 h7
  simp only[h7,jH]
  rw[if_pos (by rw[hc];rfl),wi64 (x:=(i:Int)+1) (by omega) (by omega),←kX]
  have hb:=qSp (p:=qVb) (l:=s.data.toList) (a:=i+1) (by omega)
  rw[zGm (s.data.toList.length-(i+1)) (i+1) N (by omega) hl (by omega)]
  simp only[j0]
  generalize tw qVb s.data.toList (i+1)=e at hb
  by_cases he:e=s.data.toList.length
  ·rw[if_pos (by omega)]
   have:¬s.data.toList.getD e 0=34:=fun h=>by have:=qWv (l:=s.data.toList) (i:=e) (by rw[h];decide);omega
   rw[if_neg this]
   rfl
  ·have hlt:e<s.data.toList.length:=by omega
   rw[if_neg (by omega),qFo hlt,qIx hlt]
   simp only[j0]
   by_cases h34:s.data.toList[e]=34
   ·rw[if_pos h34,if_neg (by rw[h34];decide),qOa hb.1 hb.2]
    simp only[j0,jH]
    rw[wi64 (by omega) (by omega),←kX]
   ·have h34':¬((s.data.toList[e]).toNat:Int)=34:=fun h=>h34 (UInt8.toNat_inj.1 (by show _=34;omega))
    rw[if_neg h34,if_pos (by simpa using h34')]
    simp[zGi]
 have h34':¬((s.data.toList[i]).toNat:Int)=34:=fun h=>h7 ((zHc _).2 (UInt8.toNat_inj.1 (by show _=34;omega)))
 simp only[h7,jE,h34']
 have ho:(if((s.data.toList[i]).toNat:Int)=61 then(if decide (IntKind.wrap .i64 ((i:Int)+1)<(s.size:Int))=true then((idxB s (IntKind.wrap .i64 ((i:Int)+1))).bind fun x11=>some ((x11.toNat:Int)==61)) else some false) else some false)=some (decide (s.data.toList.getD i 0=61∧s.data.toList.getD (i+1) 0=61)):=by
  rw[qIx hi]
  by_cases h61:s.data.toList[i]=61
  ·rw[if_pos (by rw[h61];rfl),wi64 (by omega) (by omega),←kX]
   by_cases hlt:i+1<s.data.toList.length
   ·rw[if_pos (by simp only[jA];omega),qFo hlt,qIx hlt]
    simp only[j0]
    congr 1
    rw[jY,k9,jA]
    exact⟨fun h=>⟨h61,UInt8.toNat_inj.1 (by show _=61;omega)⟩,fun h=>by rw[h.2];rfl⟩
   ·rw[if_neg (by simp only[jA];omega)]
    congr 1
    refine(jU fun h=> ?_).symm
    have:=qWv (l:=s.data.toList) (i:=i+1) (by rw[h.2];decide)
    omega
  ·rw[if_neg (fun h=>h61 (UInt8.toNat_inj.1 (by show _=61;omega)))]
   congr 1
   exact(jU fun h=>h61 h.1).symm
 rw[ho]
 simp only[j0,jA]
 by_cases h61:s.data.toList.getD i 0=61∧s.data.toList.getD (i+1) 0=61
 ·have hlt:i+1<s.data.toList.length:=qWv (by rw[h61.2];decide)
  have h8:kd (s.data.toList[i])=8:=by rw[←qIx hi,h61.1];kernel_rfl
  have hE:qYy s.data.toList i=i+2:=by rw[qYy,if_pos h61]
  have hx:s.extract i (i+2)=(⟨#[61,61]⟩:ByteArray):=by
   apply Go.WideShapes.bytes_inj
   simp only[ByteArray.data_extract,gW,gE]
   rw[jM hi,jM hlt,←qIx hi,←qIx hlt,h61.1,h61.2,show i+2-i=2 by omega]
   rfl
  simp only[h61,and_self,jH,h8,hE,hx]
  rw[wi64 (by omega) (by omega)]
  simp
 ·have hE:qYy s.data.toList i=i+1:=by rw[qYy,if_neg h61]
  have key:=qYn (N:=N) hi hl 11 0 N rfl (by omega)
  rw[show((0:Nat):Int)=0 from rfl] at key
  rw[if_neg h61,key]
  by_cases h8:kd (s.data.toList[i])=8
  ·have:=(zLg _).1 h8
   simp only[h8,jH,jZ,this,j0,hE]
  ·have:¬signs.contains (s.data.toList[i])=true:=fun h=>h8 ((zLg _).2 h)
   simp only[h8,jE,jZ,this,j0]
   simp[zGi]
end
section
open Go Go.Dc
def qOo:Nat→List UInt8→Nat→Nat
 |0,_,i=>i
 |k+1,l,i=>
  if tw (inK [5]) l i=l.length then l.length
  else if kd (l.getD (tw (inK [5]) l i) 0)=6 then qOo k l (tw qJr l (tw (inK [5]) l i))
  else tw (inK [5]) l i
theorem zMk{N:Nat}{s:ByteArray}{i:Nat}(hi:i≤s.data.toList.length)(hl:s.data.toList.length<1000000)(hN:s.data.toList.length+10<N):qAw (qEm N s) N (i:Int)=some ((tw qJr s.data.toList i:Nat):Int):=by
 have hs:=qCr s
 have hn:∀c:UInt8,((c.toNat:Int) !=10)=qJr c:=fun c=>by
  rw[jY,gX,qJr,gX]
  exact⟨fun h e=>h (by rw[e];rfl),fun h e=>h (UInt8.toNat_inj.1 (by show _=10;omega))⟩
 refine qXt (f:=qEm N s) (l:=s.data.toList) (p:=qJr) (fun e=>(e:Int)) (fun j hj hb=> ?_) (fun j hj hb=> ?_) ?_ (s.data.toList.length-i) i N (by omega) (by omega)
 ·simp only[qEm]
  rw[if_pos (by simp only[jA];omega),qFo hj]
  simp only[j0,hn,hb]
  rw[if_pos trivial,wi64 (by omega) (by omega)]
 ·simp only[qEm]
  rw[if_pos (by simp only[jA];omega),qFo hj]
  simp only[j0,hn,hb]
  rfl
 ·simp only[qEm]
  rw[if_neg (by simp only[jA];omega)]
  rfl
theorem zMd{s:ByteArray}{i:Nat}(hi:i<s.data.toList.length):((idxB s (i:Int)).bind fun x1=>if((x1.toNat:Int)==32)=true then(some true) else((idxB s (i:Int)).bind fun x2=>if((x2.toNat:Int)==9)=true then(some true) else((idxB s (i:Int)).bind fun x3=>if((x3.toNat:Int)==10)=true then(some true) else((idxB s (i:Int)).bind fun x4=>some ((x4.toNat:Int)==13)))))=some (inK [5] (s.data.toList[i])):=by
 simp only[qFo hi,j0,k9]
 generalize s.data.toList[i]=c
 have hb:=zNt c
 by_cases h1:(c.toNat:Int)=32
 ·rw[if_pos h1,hb.2 (by omega)]
 rw[if_neg h1]
 by_cases h2:(c.toNat:Int)=9
 ·rw[if_pos h2,hb.2 (by omega)]
 rw[if_neg h2]
 by_cases h3:(c.toNat:Int)=10
 ·rw[if_pos h3,hb.2 (by omega)]
 rw[if_neg h3]
 congr 1
 rw[jY,k9,hb]
 omega
theorem zLq{N:Nat}{s:ByteArray}{i:Nat}(hi:i<s.data.toList.length)(hl:s.data.toList.length<1000000)(hN:s.data.toList.length+10<N):
  qFq N s (i:Int)=some (if inK [5] (s.data.toList[i])=true then .inl (((i+1:Nat)):Int) else if kd (s.data.toList[i])=6 then .inl ((tw qJr s.data.toList i:Nat):Int) else .inr (.inr (i:Int))):=by
 have hs:=qCr s
 simp only[qFq]
 rw[if_pos (by simp only[jA];omega),zMd hi]
 simp only[j0]
 by_cases h5:inK [5] (s.data.toList[i])=true
 ·rw[if_pos h5,if_pos h5,wi64 (by omega) (by omega),←kX]
 ·rw[if_neg h5,if_neg h5,qFo hi]
  simp only[j0,k9]
  have hc:=zJk (s.data.toList[i])
  by_cases h6:kd (s.data.toList[i])=6
  ·rw[if_pos (by have:=hc.1 h6;omega),if_pos h6,zMk (by omega) hl hN]
   rfl
  ·rw[if_neg (fun h=>h6 (hc.2 (by omega))),if_neg h6]
theorem qZz{N:Nat}{s:ByteArray}(hl:s.data.toList.length<1000000)(hN:s.data.toList.length+10<N):∀(d i k M:Nat),i+d=s.data.toList.length→d<k→d<M→∃z,qAw (qFq N s) M (i:Int)=some z∧(z= .inl ((qOo k s.data.toList i:Nat):Int)∨z= .inr ((qOo k s.data.toList i:Nat):Int))
 |d,i,k,0,_,_,h=>by omega
 |d,i,0,M,_,h,_=>by omega
 |0,i,k+1,M+1,h1,h2,h3=>by
  have hs:=qCr s
  refine⟨.inl ((s.data.toList.length:Nat):Int),?_,.inl ?_⟩
  ·simp only[qAw,qFq]
   rw[if_neg (by simp only[jA];omega)]
   simp only[j0]
   congr 2;omega
  ·simp only[qOo]
   rw[zDg (by omega),if_pos (by omega)]
 |d+1,i,k+1,M+1,h1,h2,h3=>by
  have hs:=qCr s
  have hi:i<s.data.toList.length:=by omega
  simp only[qAw]
  rw[zLq hi hl hN]
  simp only[j0]
  cases h5:inK [5] (s.data.toList[i]) with
  |true=>
   rw[if_pos rfl]
   have:=qZz hl hN d (i+1) (k+1) M (by omega) (by omega) (by omega)
   simp only[qOo,qTt hi h5] at this ⊢
   exact this
  |false=>
   rw[if_neg gT]
   by_cases h6:kd (s.data.toList[i])=6
   ·have hsk:qOo (k+1) s.data.toList i=qOo k s.data.toList (tw qJr s.data.toList i):=by
     simp only[qOo,qUh hi h5,qIx hi,h6,jH]
     rw[if_neg (by omega)]
    rw[hsk,if_pos h6]
    have hb2:=qSp (p:=qJr) (l:=s.data.toList) (a:=i) (by omega)
    have hpos:=zAr (p:=qJr) hi (by
     simp only[qJr,gX,ne_eq]
     intro e;rw[e] at h6;exact absurd h6 (by decide))
    exact qZz hl hN (s.data.toList.length-tw qJr s.data.toList i) _ k M (by omega) (by omega) (by omega)
   ·have hsk:qOo (k+1) s.data.toList i=i:=by
     simp only[qOo,qUh hi h5,qIx hi,h6,jE]
     rw[if_neg (by omega)]
    rw[hsk,if_neg h6]
    exact⟨_,rfl,.inr rfl⟩
theorem zNh{N:Nat}{s:ByteArray}{i k:Nat}(hi:i≤s.data.toList.length)(hl:s.data.toList.length<1000000)(hN:s.data.toList.length+10<N)(hk:s.data.toList.length<i+k):qJh N s (i:Int)=some ((qOo k s.data.toList i:Nat):Int):=by
 obtain⟨z,h1,h2⟩:=qZz hl hN (s.data.toList.length-i) i k N (by omega) (by omega) (by omega)
 unfold qJh
 rw[h1]
 rcases h2 with rfl|rfl<;>rfl
theorem zIb{s:ByteArray}:∀(k i:Nat),i≤s.data.toList.length→s.data.toList.length<i+k→i≤qOo k s.data.toList i∧qOo k s.data.toList i≤s.data.toList.length∧
  (qOo k s.data.toList i=s.data.toList.length→tokG k s i= .inr [(5,⟨#[]⟩,0,(s.data.toList.length:Int))])∧
  (qOo k s.data.toList i<s.data.toList.length→∃k',(∀b,qOo k s.data.toList i<b→s.data.toList.length<b+k')∧tokG k s i=
   if(tokP s (qOo k s.data.toList i)).2.2≠0 then .inl ((qOo k s.data.toList i:Nat),(tokP s (qOo k s.data.toList i)).2.2)
   else match tokG k' s (tokP s (qOo k s.data.toList i)).2.1.toNat with
    | .inl x=> .inl x
    | .inr r=> .inr (((tokP s (qOo k s.data.toList i)).1.1,(tokP s (qOo k s.data.toList i)).1.2.1,(tokP s (qOo k s.data.toList i)).1.2.2.1,((qOo k s.data.toList i:Nat):Int))::r))
 |0,i,h1,h2=>by omega
 |k+1,i,h1,h2=>by
  have hb:=qSp (p:=inK [5]) (l:=s.data.toList) (a:=i) h1
  simp only[qOo,tokG]
  by_cases he:tw (inK [5]) s.data.toList i=s.data.toList.length
  ·simp only[he,jH]
   exact⟨h1,jP _,fun _=>trivial,fun h=>absurd h (Nat.lt_irrefl _)⟩
  simp only[he,jE]
  have hlt:tw (inK [5]) s.data.toList i<s.data.toList.length:=by omega
  by_cases h6:kd (s.data.toList.getD (tw (inK [5]) s.data.toList i) 0)=6
  ·simp only[h6,jH]
   have hb2:=qSp (p:=qJr) (l:=s.data.toList) (a:=tw (inK [5]) s.data.toList i) (by omega)
   have hpos:=zAr (p:=qJr) hlt (by
    rw[qIx hlt] at h6
    simp only[qJr,gX,ne_eq]
    intro e;rw[e] at h6;exact absurd h6 (by decide))
   obtain⟨g1,g2,g3,g4⟩:=zIb k (tw qJr s.data.toList (tw (inK [5]) s.data.toList i)) hb2.2 (by omega)
   exact⟨by omega,g2,g3,g4⟩
  ·simp only[h6,jE]
   exact⟨hb.1,hb.2,fun h=>absurd h he,fun _=>⟨k,fun b hb'=>by omega,rfl⟩⟩
theorem qVi{N:Nat}{s:ByteArray}(hl:s.data.toList.length≤16384)(hN:s.data.toList.length+40<N):∀(d i k M:Nat) (acc:List Tok),i+d=s.data.toList.length→d<M→s.data.toList.length<i+k→acc.length≤i→
  ∃z,qAw (qHv N s) M (acc,((qOo k s.data.toList i:Nat):Int))=some z∧((∃o,z= .inl o∧o.length≤s.data.toList.length∧zFb acc (tokG k s i)=(o++[(5,⟨#[]⟩,0,(s.size:Int))],0,0))∨z= .inr (zFb acc (tokG k s i)))
 |d,i,k,0,acc,_,h,_,_=>by omega
 |d,i,k,M+1,acc,h1,h2,h3,h4=>by
  have hs:=qCr s
  obtain⟨g1,g2,g3,g4⟩:=zIb (s:=s) k i (by omega) h3
  generalize hA:qOo k s.data.toList i=a at g1 g2 g3 g4
  simp only[qAw,qHv]
  by_cases he:a=s.data.toList.length
  ·refine⟨.inl acc,?_,.inl ⟨acc,rfl,by omega,?_⟩⟩
   ·rw[if_neg (by simp only[jA];omega)]
    rfl
   ·rw[g3 he,←hs];rfl
  ·have hlt:a<s.data.toList.length:=by omega
   obtain⟨k',g5,g6⟩:=g4 hlt
   rw[if_pos (by simp only[jA];omega),zIf hlt (by omega) (by omega)]
   simp only[j0,refP]
   by_cases h0:(tokP s a).2.2=0
   ·obtain⟨e,he1,he2,he3,_⟩:=zEd hlt h0
    rw[if_pos h0]
    simp only[gB,jB,jE]
    rw[qCv (by simp only[jC,jG];omega) (by omega),he1]
    simp only[j0]
    rw[zNh (k:=k') he3 (by omega) (by omega) (g5 e he2)]
    simp only[j0]
    obtain⟨z,hz1,hz2⟩:=qVi hl hN (s.data.toList.length-e) e k' M (acc++[((tokP s a).1.1,(tokP s a).1.2.1,(tokP s a).1.2.2.1,(a:Int))]) (by omega) (by omega) (g5 e he2) (by simp;omega)
    have hj:zFb acc (tokG k s i)=zFb (acc++[((tokP s a).1.1,(tokP s a).1.2.1,(tokP s a).1.2.2.1,(a:Int))]) (tokG k' s e):=by
     rw[g6,if_neg (by simp[h0]),he1,kH]
     cases tokG k' s e with
     |inl x=>rfl
     |inr r=>simp[zFb]
    rw[hj]
    exact⟨z,hz1,hz2⟩
   ·rw[if_neg h0]
    have hb:((tokP s a).2.2 !=0)=true:=by simpa using h0
    simp only[hb,jH,j0]
    refine⟨_,rfl,.inr ?_⟩
    rw[g6,if_pos h0]
    rfl
theorem zGs{N:Nat}{s:ByteArray}(hN:20000<N):qJl N s=some (qHf s):=by
 have hs:=qCr s
 unfold qJl qHf
 by_cases h:s.data.toList.length>16384
 ·rw[if_pos (by simp only[jA];omega),if_pos h]
 ·rw[if_neg (by simp only[jA];omega),if_neg h]
  have h1:=zNh (N:=N) (s:=s) (i:=0) (k:=s.data.toList.length+1) (by omega) (by omega) (by omega) (by omega)
  rw[show((0:Nat):Int)=0 from rfl] at h1
  rw[h1]
  simp only[j0]
  obtain⟨z,hz1,hz2⟩:=qVi (N:=N) (s:=s) (by omega) (by omega) s.data.toList.length 0 (s.data.toList.length+1) N [] (by omega) (by omega) (by omega) (by simp)
  rw[hz1]
  rcases hz2 with ⟨o,rfl,ho,hj⟩|rfl
  ·simp only[j0]
   rw[qCv (by simp only[jC,jG];omega) (by omega),hj]
   rfl
  ·rfl
end
section
open Go Go.Dc
def zEr(s:ByteArray):Bool:=decide (1≤s.data.toList.length∧s.data.toList.length≤24∧kd (s.data.toList.getD 0 0)=1∧tw (inK [1,2,3]) s.data.toList 0=s.data.toList.length)
theorem qSl{s:ByteArray}(h:¬(1≤s.data.toList.length∧s.data.toList.length≤24∧kd (s.data.toList.getD 0 0)=1∧tw (inK [1,2,3]) s.data.toList 0=s.data.toList.length)):false=zEr s:=(jU h).symm
theorem zPf{s:ByteArray}(h:1≤s.data.toList.length∧s.data.toList.length≤24∧kd (s.data.toList.getD 0 0)=1∧tw (inK [1,2,3]) s.data.toList 0=s.data.toList.length):true=zEr s:=(jO h).symm
theorem zTh{N:Nat}{s:ByteArray}(hN:100<N):qRz N s=some (zEr s):=by
 have hs:=qCr s
 simp only[qRz,zFo (show 30<N by omega),j0]
 by_cases h1:1≤s.data.toList.length
 ·by_cases h2:s.data.toList.length≤24
  ·rw[if_pos (by simp only[jA];omega),if_pos (by simp only[jA];omega)]
   have hi:=qFo (s:=s) (i:=0) (by omega)
   rw[show((0:Nat):Int)=0 from rfl] at hi
   rw[hi]
   simp only[j0,zNr,k9]
   have hsp:=zBs (N:=N) (s:=s) (ks:=[1,2,3]) (i:=0) (by omega) (by omega) (by simp) (by omega)
   rw[show((0:Nat):Int)=0 from rfl] at hsp
   by_cases h3:kd (s.data.toList[0])=1
   ·rw[if_pos h3,hsp]
    simp only[j0]
    congr 1
    rw[jY,k9,zEr,jA,qIx (by omega)]
    exact⟨fun h=>⟨h1,h2,h3,by omega⟩,fun h=>by have:=h.2.2.2;omega⟩
   ·rw[if_neg h3]
    refine congrArg some (qSl fun h=> ?_)
    rw[qIx (by omega)] at h
    exact h3 h.2.2.1
  ·rw[if_pos (by simp only[jA];omega),if_neg (by simp only[jA];omega)]
   exact congrArg some (qSl fun h=>h2 h.2.1)
 ·rw[if_neg (by simp only[jA];omega)]
  exact congrArg some (qSl fun h=>h1 h.1)
theorem zLr{N:Nat}{s:ByteArray}(hN:100<N):qJf N s=some (zEr s):=by
 have hs:=qCr s
 simp only[qJf]
 by_cases h1:1≤s.data.toList.length
 ·by_cases h2:s.data.toList.length≤24
  ·rw[if_neg (by simp only[jA];omega),if_neg (by simp only[jA];omega)]
   have hi:=qFo (s:=s) (i:=0) (by omega)
   rw[show((0:Nat):Int)=0 from rfl] at hi
   rw[hi]
   simp only[j0,zBr]
   by_cases h3:kd (s.data.toList[0])=1
   ·rw[h3,if_neg (by simp)]
    have key:=qXt (f:=qFt N s) (l:=s.data.toList) (p:=inK [1,2,3]) (fun e=>if e=s.data.toList.length then .inl () else .inr false) (fun j hj hb=>by
     simp only[qFt]
     rw[if_pos (by simp only[jA];omega),qFo hj]
     simp only[j0,qWi,hb]
     rw[wi64 (by omega) (by omega)]
     rfl) (fun j hj hb=>by
     simp only[qFt]
     rw[if_pos (by simp only[jA];omega),qFo hj]
     simp only[j0,qWi,hb]
     rw[if_neg (show ¬j=s.data.toList.length by omega)]
     rfl) (by
     simp only[qFt]
     rw[if_neg (by simp only[jA];omega)]
     simp) s.data.toList.length 0 N (by omega) (by omega)
    rw[show((0:Nat):Int)=0 from rfl] at key
    rw[key]
    simp only[j0]
    by_cases h4:tw (inK [1,2,3]) s.data.toList 0=s.data.toList.length
    ·rw[if_pos h4]
     exact congrArg some (zPf ⟨h1,h2,by rw[qIx (by omega)];exact h3,h4⟩)
    ·rw[if_neg h4]
     exact congrArg some (qSl fun h=>h4 h.2.2.2)
   ·rw[if_pos (by rw[fM,beq_eq_false_iff_ne];exact h3)]
    refine congrArg some (qSl fun h=> ?_)
    rw[qIx (by omega)] at h
    exact h3 h.2.2.1
  ·rw[if_neg (by simp only[jA];omega),if_pos (by simp only[jA];omega)]
   simp only[j0,jH]
   exact congrArg some (qSl fun h=>h2 h.2.1)
 ·rw[if_pos (by simp only[jA];omega)]
  simp only[j0,jH]
  exact congrArg some (qSl fun h=>h1 h.1)
end
section
open Go Go.Dc
def sp:List UInt8→List (List UInt8)
 |[]=>[[]]
 |c::l=>if c=47 then[]::sp l else match sp l with
  |[]=>[[c]]
  |p::q=>(c::p)::q
theorem zMn:∀l:List UInt8,sp l≠[]
 |[]=>by simp[sp]
 |c::l=>by
  simp only[sp]
  split
  ·simp
  ·split<;>simp
theorem zOf:∀l:List UInt8,(sp l).length=l.count 47+1
 |[]=>rfl
 |c::l=>by
  simp only[sp]
  split
  ·rename_i h;subst h;simp[zOf l]
  ·rename_i h
   have:=zOf l
   split
   ·rename_i e;exact absurd e (zMn l)
   ·rename_i e
    rw[e] at this
    simp only[jC] at this ⊢
    rw[List.count_cons_of_ne h,←this]
def qPu(c:UInt8):Bool:=c !=47
theorem zPw:∀l:List UInt8,sp l=if(l.takeWhile qPu).length=l.length then[l] else l.takeWhile qPu::sp (l.drop ((l.takeWhile qPu).length+1))
 |[]=>rfl
 |c::l=>by
  have ih:=zPw l
  by_cases h:c=47
  ·subst h
   rw[gN (by decide)]
   simp[sp]
  ·have hc:qPu c=true:=by simpa[qPu] using h
   rw[gA hc]
   simp only[sp,h,jE,ih,jC,Nat.add_right_cancel_iff,List.drop_succ_cons]
   by_cases he:(l.takeWhile qPu).length=l.length
   ·simp[he]
   ·simp[he]
def zBy:Nat→Nat→List UInt8→Option (Nat×Nat)
 |a,b,[]=>some (a,b)
 |a,b,c::l=>if c=47 then(if b=0 then none else zBy (a+1) 0 l) else if inK [1,2,3,4] c=true then(if b+1>24 then none else zBy a (b+1) l) else none
def partOk(p:List UInt8):Prop:=1≤p.length∧p.length≤24∧∀c∈p,inK [1,2,3,4] c=true
theorem zAh:∀(l:List UInt8) (a b:Nat),b≤24→((∃x y,zBy a b l=some (x,y)∧0<y∧x≤8)↔
  ∃p q,sp l=p::q∧1≤b+p.length∧b+p.length≤24∧(∀c∈p,inK [1,2,3,4] c=true)∧(∀r∈q,partOk r)∧a+q.length≤8)
 |[],a,b,hb=>by
  constructor
  ·rintro⟨x,y,h,h1,h2⟩
   simp only[zBy,jJ,Prod.mk.injEq] at h
   exact⟨[],[],rfl,by simp;omega,by simpa using hb,by simp,by simp,by simp;omega⟩
  ·rintro⟨p,q,h,h1,h2,_,_,h3⟩
   simp only[sp,kJ] at h
   obtain⟨rfl,rfl⟩:=h
   simp only[jG] at h1 h3
   exact⟨a,b,rfl,by omega,by omega⟩
 |c::l,a,b,hb=>by
  by_cases hc:c=47
  ·have hsp:sp (c::l)=[]::sp l:=by simp[sp,hc]
   rw[hsp]
   simp only[zBy,hc,jH]
   by_cases h0:b=0
   ·subst h0
    simp only[jH]
    constructor
    ·rintro⟨x,y,h,_⟩;cases h
    ·rintro⟨p,q,h,h1,_⟩
     simp only[kJ] at h
     rw[←h.1] at h1;simp at h1
   ·rw[if_neg h0]
    rw[zAh l (a+1) 0 (by omega)]
    constructor
    ·rintro⟨p,q,h,h1,h2,h3,h4,h5⟩
     refine⟨[],sp l,rfl,by simp;omega,by simpa using hb,by simp,?_,by rw[h];simp only[jC];omega⟩
     intro r hr
     rw[h] at hr
     rcases jL.1 hr with rfl|hr
     ·exact⟨by omega,by omega,h3⟩
     ·exact h4 r hr
    ·rintro⟨p,q,h,h1,h2,h3,h4,h5⟩
     simp only[kJ] at h
     obtain⟨rfl,rfl⟩:=h
     obtain⟨p,q,hpq⟩:∃p q,sp l=p::q:=by
      cases he:sp l with
      |nil=>exact absurd he (zMn l)
      |cons p q=>exact⟨p,q,rfl⟩
     rw[hpq] at h4 h5
     obtain⟨g1,g2,g3⟩:=h4 p (jN ..)
     exact⟨p,q,hpq,by omega,by omega,g3,fun r hr=>h4 r (jS _ hr),by simp only[jC] at h5;omega⟩
  ·obtain⟨p0,q0,hpq⟩:∃p q,sp l=p::q:=by
    cases he:sp l with
    |nil=>exact absurd he (zMn l)
    |cons p q=>exact⟨p,q,rfl⟩
   have hsp:sp (c::l)=(c::p0)::q0:=by simp only[sp,hc,jE,hpq]
   rw[hsp]
   simp only[zBy,hc,jE]
   by_cases hk:inK [1,2,3,4] c=true
   ·rw[if_pos hk]
    by_cases h24:b+1>24
    ·rw[if_pos h24]
     constructor
     ·rintro⟨x,y,h,_⟩;cases h
     ·rintro⟨p,q,h,h1,h2,_⟩
      simp only[kJ] at h
      rw[←h.1] at h2
      simp only[jC] at h2
      omega
    ·rw[if_neg h24,zAh l a (b+1) (by omega)]
     constructor
     ·rintro⟨p,q,h,h1,h2,h3,h4,h5⟩
      rw[hpq] at h
      simp only[kJ] at h
      obtain⟨rfl,rfl⟩:=h
      refine⟨_,_,rfl,by simp only[jC];omega,by simp only[jC];omega,?_,h4,h5⟩
      intro d hd
      rcases jL.1 hd with rfl|hd
      ·exact hk
      ·exact h3 d hd
     ·rintro⟨p,q,h,h1,h2,h3,h4,h5⟩
      simp only[kJ] at h
      obtain⟨rfl,rfl⟩:=h
      simp only[jC] at h1 h2
      exact⟨p0,q0,hpq,by omega,by omega,fun d hd=>h3 d (jS _ hd),h4,h5⟩
   ·rw[if_neg hk]
    constructor
    ·rintro⟨x,y,h,_⟩;cases h
    ·rintro⟨p,q,h,h1,h2,h3,_⟩
     simp only[kJ] at h
     rw[←h.1] at h3
     exact absurd (h3 c (jN ..)) hk
theorem inK4{N:Nat}(c:UInt8):((qFn N (c.toNat:Int)).bind fun y1=>if y1=true then(some true) else(some ((c.toNat:Int)==46)))=some (inK [1,2,3,4] c):=by
 have h:=qYh (p:=fun c=>(inK [1,2,3] c||decide (c.toNat=46))==inK [1,2,3,4] c) (by kernel_rfl) c
 rw[k9] at h
 rw[←h,qWi]
 simp only[j0]
 have e:((c.toNat:Int)==46)=decide (c.toNat=46):=by rw[jY,k9,jA];omega
 rw[e]
 cases inK [1,2,3] c<;>simp
theorem qTw{N:Nat}{s:ByteArray}(hl:s.data.toList.length<1000000):∀(d i M a b:Nat),i+d=s.data.toList.length→d<M→a≤i+1→b≤24→
  qAw (qHi N s) M ((a:Int),(b:Int),(i:Int))=some (match zBy a b (s.data.toList.drop i) with|some z=> .inl ((z.1:Int),(z.2:Int))|none=> .inr false)
 |d,i,0,_,_,_,h,_,_=>by omega
 |0,i,M+1,a,b,h1,h2,h3,h4=>by
  have hs:=qCr s
  simp only[qAw,qHi]
  rw[if_neg (by simp only[jA];omega),jV (by omega)]
  rfl
 |d+1,i,M+1,a,b,h1,h2,h3,h4=>by
  have hs:=qCr s
  have hi:i<s.data.toList.length:=by omega
  simp only[qAw,qHi]
  rw[if_pos (by simp only[jA];omega),jM hi,qFo hi]
  simp only[j0,inK4,k9,zBy]
  by_cases hc:s.data.toList[i]=47
  ·rw[if_pos (show((s.data.toList[i]).toNat:Int)=47 by rw[hc];rfl),if_pos hc]
   by_cases hb:b=0
   ·rw[if_pos (show(b:Int)=0 by omega),if_pos hb]
    rfl
   ·rw[if_neg (show ¬(b:Int)=0 by omega),if_neg hb,wi64 (x:=(a:Int)+1) (by omega) (by omega)]
    simp only[j0]
    rw[if_neg (by simp),wi64 (by omega) (by omega)]
    have:=qTw (N:=N) hl d (i+1) M (a+1) 0 (by omega) (by omega) (by omega) (by omega)
    exact this
  ·have hc':¬((s.data.toList[i]).toNat:Int)=47:=fun h=>hc (UInt8.toNat_inj.1 (by show _=47;omega))
   rw[if_neg hc',if_neg hc]
   by_cases hk:inK [1,2,3,4] (s.data.toList[i])=true
   ·rw[if_pos hk,if_pos hk,wi64 (x:=(b:Int)+1) (by omega) (by omega)]
    simp only[j0]
    by_cases h24:b+1>24
    ·rw[if_pos (by simp only[jA];omega),if_pos h24]
     rfl
    ·rw[if_neg (by simp only[jA];omega),if_neg h24,wi64 (by omega) (by omega)]
     have:=qTw (N:=N) hl d (i+1) M a (b+1) (by omega) (by omega) (by omega) (by omega)
     exact this
   ·rw[if_neg hk,if_neg hk]
    rfl
def qNn(l:List UInt8):Bool:=decide (l.length≤80∧(sp l).length≤8∧∀p∈sp l,1≤p.length∧p.length≤24∧∀c∈p,inK [1,2,3,4] c=true)
theorem zHo(l:List UInt8):qNn l=true↔l.length≤80∧∃x y,zBy 1 0 l=some (x,y)∧0<y∧x≤8:=by
 rw[zAh l 1 0 (by omega)]
 simp only[qNn,jA]
 obtain⟨p,q,hpq⟩:∃p q,sp l=p::q:=by
  cases he:sp l with
  |nil=>exact absurd he (zMn l)
  |cons p q=>exact⟨p,q,rfl⟩
 constructor
 ·rintro⟨h1,h2,h3⟩
  rw[hpq] at h2 h3
  obtain⟨g1,g2,g3⟩:=h3 p (jN ..)
  exact⟨h1,p,q,hpq,by omega,by omega,g3,fun r hr=>h3 r (jS _ hr),by simp only[jC] at h2;omega⟩
 ·rintro⟨h1,p',q',h,h2,h3,h4,h5,h6⟩
  refine⟨h1,by rw[h];simp only[jC];omega,?_⟩
  intro r hr
  rw[h] at hr
  rcases jL.1 hr with rfl|hr
  ·exact⟨by omega,by omega,h4⟩
  ·exact h5 r hr
theorem qXk{N:Nat}{s:ByteArray}(hN:100<N):qGk N s=some (qNn s.data.toList):=by
 have hs:=qCr s
 simp only[qGk]
 by_cases h80:s.data.toList.length≤80
 ·rw[if_neg (by simp only[jA];omega)]
  have key:=qTw (N:=N) (s:=s) (by omega) s.data.toList.length 0 N 1 0 (by omega) (by omega) (by omega) (by omega)
  rw[show((0:Nat):Int)=0 from rfl,show((1:Nat):Int)=1 from rfl,jZ] at key
  rw[key]
  have hp:=zHo s.data.toList
  cases hR:zBy 1 0 s.data.toList with
  |none=>
   simp only[j0]
   refine congrArg some ?_
   rw[jY,hp]
   constructor
   ·intro h;cases h
   ·rintro⟨_,x,y,h,_⟩;rw[hR] at h;cases h
  |some z=>
   obtain⟨x,y⟩:=z
   simp only[j0]
   by_cases hy:0<y
   ·rw[if_pos (by simp only[jA];omega)]
    simp only[j0]
    refine congrArg some ?_
    rw[jY,hp,jA]
    constructor
    ·intro h;exact⟨h80,x,y,hR,hy,by omega⟩
    ·rintro⟨_,x',y',h,_,h2⟩;rw[hR] at h;simp only[jJ,Prod.mk.injEq] at h;omega
   ·rw[if_neg (by simp only[jA];omega)]
    simp only[j0]
    refine congrArg some ?_
    rw[jY,hp]
    constructor
    ·intro h;cases h
    ·rintro⟨_,x',y',h,h1,_⟩;rw[hR] at h;simp only[jJ,Prod.mk.injEq] at h;omega
 ·rw[if_pos (by simp only[jA];omega)]
  refine congrArg some ?_
  rw[jY,zHo]
  exact⟨fun h=>(by cases h),fun h=>absurd h.1 h80⟩
end
section
open Go Go.Dc
theorem tw_is{p:UInt8→Bool}{l:List UInt8}{k:Nat}(hk:k<l.length)(h1:∀j,∀h:j<l.length,j<k→p l[j]=true)(h2:p l[k]=false):tw p l 0=k:=by
 have key:∀d j,j+d=k→tw p l j=k:=by
  intro d
  induction d with
  |zero=>
   intro j h
   have:j=k:=by omega
   subst this
   exact qUh hk h2
  |succ d ih=>intro j h;rw[←qTt (by omega) (h1 j (by omega) (by omega))];exact ih (j+1) (by omega)
 exact key k 0 (by omega)
theorem ix_eq(x:ByteArray):ixB x 47=if(x.data.toList.takeWhile qPu).length=x.data.toList.length then-1 else((x.data.toList.takeWhile qPu).length:Int):=by
 have hs:=qCr x
 have htw:tw qPu x.data.toList 0=(x.data.toList.takeWhile qPu).length:=by simp[tw]
 have hget:∀j,∀h:j<x.data.toList.length,x[j]! =x.data.toList[j]:=by
  intro j hj
  rw[getElem!_pos x j (by omega)]
  simp[ByteArray.getElem_eq_getElem_data]
 have h47:(47:Int).toNat.toUInt8=47:=rfl
 rw[←htw]
 unfold ixB
 rw[h47,←hs]
 cases hf:(List.range x.data.toList.length).find? (fun j=>x[j]! ==47) with
 |none=>
  rw[List.find?_eq_none] at hf
  simp only
  rw[if_pos]
  refine zSf fun c hc=> ?_
  obtain⟨j,hj,rfl⟩:=List.getElem_of_mem hc
  have:=hf j (fH.2 hj)
  rw[hget j hj] at this
  simpa[qPu] using this
 |some k=>
  have h1:=List.find?_some hf
  have hk:k<x.data.toList.length:=fH.1 (gU hf)
  rw[hget k hk] at h1
  have e:tw qPu x.data.toList 0=k:=by
   refine tw_is hk (fun j h hj=> ?_) (by simpa[qPu] using h1)
   have:=(List.find?_range_eq_some.1 hf).2.2 j hj
   rw[hget j h] at this
   simpa[qPu] using this
  simp only
  rw[e,if_neg (by omega)]
theorem zQr{N:Nat}(x:ByteArray):qMr N x (⟨#[47]⟩:ByteArray)=some (ixB x 47):=by
 have h1:idxB (⟨#[47]⟩:ByteArray) 0=some 47:=by kernel_rfl
 simp only[qMr,qIk,qDw,show(⟨#[47]⟩:ByteArray).size=1 from rfl,qEj]
 rw[if_neg (by decide)]
 simp only[j0,jA]
 by_cases h:(⟨#[47]⟩:ByteArray)=x
 ·have h0:ixB (⟨#[47]⟩:ByteArray) 47=0:=by kernel_rfl
  rw[if_pos h,←h,h0]
  rfl
 ·rw[if_neg h,if_pos (by decide),h1]
  rfl
theorem cnt_eq(x:ByteArray):cntB x 47=((x.data.toList.count 47:Nat):Int):=by
 unfold cntB
 rw[Go.Lib.foldl_data]
 have key:∀(l:List UInt8) (n:Int),l.foldl (fun n x=>if x==(47:Int).toNat.toUInt8 then n+1 else n) n=n+((l.count 47:Nat):Int):=by
  intro l
  induction l with
  |nil=>intro n;simp
  |cons c l ih=>
   intro n
   rw[jQ,ih,List.count_cons]
   have h47:(47:Int).toNat.toUInt8=47:=rfl
   rw[h47]
   by_cases h:(c==47)=true
   ·simp only[h,jH];omega
   ·simp only[h,jB,jE];omega
 rw[key]
 omega
theorem zSq{α:Type}(l:List α)(k:Nat)(a b:α):(l++List.replicate (k+1) a).set l.length b=(l++[b])++List.replicate k a:=by
 rw[List.set_append_right _ _ (jP _)]
 simp[List.replicate_succ]
theorem zDd{N n:Nat}{s:ByteArray}(hn:n<1000000000)(hns:n≤s.size+1)(hs:s.size<1000000000):∀(r M:Nat) (x:ByteArray) (done:List ByteArray),(sp x.data.toList).length=r→done.length+r=n→r<M→x.size<1000000000→
  ∃y D,qAw (qJz N s (⟨#[47]⟩:ByteArray) 0 (n:Int)) M (x,(done.length:Int),done++List.replicate r (⟨#[]⟩:ByteArray))=some (y,((n-1:Nat):Int),D++[(⟨#[]⟩:ByteArray)])∧D.length=n-1∧D++[y]=done++(sp x.data.toList).map zAc
 |_,0,_,_,_,_,h,_=>by omega
 |0,_,x,_,h,_,_,_=>by exact absurd (h9.1 h) (zMn _)
 |r+1,M+1,x,done,h1,h2,h3,h4=>by
  have hxs:=qCr x
  have hmin:(if IntKind.wrap .i64 ((s.size:Int)+1)<(n:Int) then IntKind.wrap .i64 ((s.size:Int)+1) else(n:Int))=(n:Int):=by
   rw[wi64 (by omega) (by omega)];split<;>omega
  have hstep:=zPw x.data.toList
  simp only[qAw,qJz]
  rw[hmin,wi64 (x:=(n:Int)-1) (by omega) (by omega)]
  by_cases hlast:(x.data.toList.takeWhile qPu).length=x.data.toList.length
  ·rw[if_pos hlast] at hstep
   rw[hstep] at h1
   simp only[jC,jG] at h1
   have hr:r=0:=by omega
   subst hr
   rw[if_neg (by simp only[jA];omega)]
   refine⟨x,done,?_,by omega,?_⟩
   ·simp only[j0]
    rw[show(n-1:Nat)=done.length by omega]
    rfl
   ·rw[hstep];simp[zAc]
  ·rw[if_neg hlast] at hstep
   rw[hstep] at h1
   simp only[jC] at h1
   have hpos:0<(sp (x.data.toList.drop ((x.data.toList.takeWhile qPu).length+1))).length:=fC.2 (zMn _)
   have hle:(x.data.toList.takeWhile qPu).length≤x.data.toList.length:=(hZ _).length_le
   have hix:=ix_eq x
   rw[if_neg hlast] at hix
   rw[if_pos (by simp only[jA];omega),zQr,hix]
   simp only[j0,show(⟨#[47]⟩:ByteArray).size=1 from rfl]
   have he:(x.data.toList.takeWhile qPu)=x.data.toList.take (x.data.toList.takeWhile qPu).length:=List.prefix_iff_eq_take.1 (List.takeWhile_prefix _)
   have hx1:x.extract 0 (x.data.toList.takeWhile qPu).length=zAc (x.data.toList.takeWhile qPu):=by
    apply Go.WideShapes.bytes_inj
    simp only[ByteArray.data_extract,gW,gE,zAc,jZ,Nat.sub_zero]
    exact he.symm
   have hx2:(x.extract ((x.data.toList.takeWhile qPu).length+1) x.data.toList.length).data.toList=x.data.toList.drop ((x.data.toList.takeWhile qPu).length+1):=by
    simp only[ByteArray.data_extract,gW,gE]
    exact gM (by simp only[kM];omega)
   generalize hk:(x.data.toList.takeWhile qPu).length=k at*
   rw[if_neg (by simp only[jA];omega),wi64 (x:=(k:Int)+0) (by omega) (by omega),Int.add_zero]
   have hsub0:subB x 0 (k:Int)=some (x.extract 0 k):=by
    have:=qOa (s:=x) (i:=0) (e:=k) (by omega) (by omega)
    simpa only[Int.natCast_zero] using this
   rw[hsub0]
   simp only[j0]
   rw[qDu (by simp),wi64 (x:=(k:Int)+((1:Nat):Int)) (by omega) (by omega),show((k:Int)+((1:Nat):Int))=((k+1:Nat):Int) by omega,qZx (by omega)]
   simp only[j0,kH]
   rw[zSq,hx1,wi64 (by omega) (by omega)]
   have hxs2:=qCr (x.extract (k+1) x.data.toList.length)
   rw[hx2,kM] at hxs2
   obtain⟨y,D,g1,g2,g3⟩:=zDd (N:=N) hn hns hs r M (x.extract (k+1) x.data.toList.length) (done++[zAc (x.data.toList.takeWhile qPu)]) (by rw[hx2];omega) (by simp;omega) (by omega) (by omega)
   refine⟨y,D,?_,g2,?_⟩
   ·rw[←g1];simp
   ·rw[g3,hx2,hstep];simp
termination_by r=>r
theorem zRx{N:Nat}{s:ByteArray}(hl:s.size<100000000)(hN:2*s.size+1000<N):qNw N s (⟨#[47]⟩:ByteArray)=some ((sp s.data.toList).map zAc):=by
 have hs:=qCr s
 have hlen:=zOf s.data.toList
 have hc:s.data.toList.count 47≤s.data.toList.length:=List.count_le_length
 have h1:idxB (⟨#[47]⟩:ByteArray) 0=some 47:=by kernel_rfl
 have hcount:qOc N s (⟨#[47]⟩:ByteArray)=some ((s.data.toList.count 47:Nat):Int):=by
  simp only[qOc,show(⟨#[47]⟩:ByteArray).size=1 from rfl]
  rw[if_neg (by decide),if_pos (by decide),h1]
  simp only[j0]
  rw[←cnt_eq];rfl
 simp only[qNw,qNh,qEj,hcount,j0]
 rw[if_neg (by decide),if_neg (by decide),if_pos (by decide)]
 simp only[j0]
 rw[wi64 (x:=((s.data.toList.count 47:Nat):Int)+1) (by omega) (by omega),show((s.data.toList.count 47:Nat):Int)+1=(((sp s.data.toList).length:Nat):Int) by omega]
 generalize hn:(sp s.data.toList).length=n at*
 have hmin:(if IntKind.wrap .i64 ((s.size:Int)+1)<(n:Int) then IntKind.wrap .i64 ((s.size:Int)+1) else(n:Int))=(n:Int):=by
  rw[wi64 (by omega) (by omega)];split<;>omega
 rw[hmin]
 have hm:zIt 16 (⟨#[]⟩:ByteArray) (n:Int)=some (List.replicate n (⟨#[]⟩:ByteArray)):=by
  unfold zIt
  rw[if_pos (by simp only[maxLen];omega),kH]
 rw[hm]
 simp only[j0]
 obtain⟨y,D,g1,g2,g3⟩:=zDd (N:=N) (n:=n) (s:=s) (by omega) (by omega) (by omega) n N s [] hn (by simp) (by omega) (by omega)
 simp only[jG,kS] at g1 g3
 rw[show((0:Nat):Int)=0 from rfl] at g1
 rw[g1]
 simp only[j0]
 rw[qDu (by simp;omega)]
 simp only[j0,kH]
 have hset:(D++[(⟨#[]⟩:ByteArray)]).set (n-1) y=D++[y]:=by
  rw[←g2,List.set_append_right _ _ (jP _)];simp
 rw[hset,g3,wi64 (by omega) (by omega),show((n-1:Nat):Int)+1=(n:Int) by omega,zGx (by omega) (by omega) (by rw[kP,hn];omega)]
 simp only[j0,kH,Int.toNat_zero,jZ]
 rw[gM (by rw[kP,hn];exact jP _)]
theorem zSh{p:UInt8→Bool}{l:List UInt8}:tw p l 0=l.length↔∀c∈l,p c=true:=by
 constructor
 ·intro h c hc
  have h1:(l.takeWhile p).length=l.length:=by simpa[tw] using h
  have h2:=(List.takeWhile_prefix p (l:=l)).eq_of_length h1
  rw[←h2] at hc
  exact zLo hc
 ·exact zSf
def zJe(x:ByteArray):Bool:=decide (1≤x.data.toList.length∧x.data.toList.length≤24∧∀c∈x.data.toList,inK [1,2,3,4] c=true)
theorem zGc(x:ByteArray):zJe x=true↔1≤x.data.toList.length∧x.data.toList.length≤24∧∀c∈x.data.toList,inK [1,2,3,4] c=true:=decide_eq_true_iff
theorem zTy{N:Nat}{x:ByteArray}(hN:100<N):(if(decide ((x.size:Int)<1))=true then(some true) else(if(decide ((x.size:Int)>24))=true then(some true) else((qLr N x 0 (some kdL) ([1,2,3,4])).bind fun y3=>some (y3 !=(x.size:Int)))))=some (!zJe x):=by
 have hs:=qCr x
 have hno:∀h:¬(1≤x.data.toList.length∧x.data.toList.length≤24∧∀c∈x.data.toList,inK [1,2,3,4] c=true),zJe x=false:=fun h=>jU h
 by_cases h1:1≤x.data.toList.length
 ·rw[if_neg (by simp only[jA];omega)]
  by_cases h2:x.data.toList.length≤24
  ·rw[if_neg (by simp only[jA];omega)]
   have hsp:=zBs (N:=N) (s:=x) (ks:=[1,2,3,4]) (i:=0) (by omega) (by omega) (by simp) (by omega)
   rw[show((0:Nat):Int)=0 from rfl] at hsp
   rw[hsp]
   simp only[j0]
   refine congrArg some ?_
   by_cases h3:tw (inK [1,2,3,4]) x.data.toList 0=x.data.toList.length
   ·have:zJe x=true:=jO ⟨h1,h2,zSh.1 h3⟩
    rw[this,h3,hs]
    simp
   ·rw[hno fun h=>h3 (zSh.2 h.2.2)]
    simp only[kC,gX,ne_eq]
    omega
  ·rw[if_pos (by simp only[jA];omega),hno fun h=>h2 h.2.1]
   rfl
 ·rw[if_pos (by simp only[jA];omega),hno fun h=>h1 h.1]
  rfl
theorem zHl{N:Nat}{L:List ByteArray}(hL:L.length<1000)(hN:100<N):∀(d j M:Nat),j+d=L.length→d<M→qAw (qMs N L (some kdL)) M (j:Int)=some (if(L.drop j).all zJe=true then .inl () else .inr false)
 |d,j,0,_,h=>by omega
 |0,j,M+1,h1,h2=>by
  simp only[qAw,qMs]
  rw[if_neg (by simp only[jA];omega),jV (by omega)]
  rfl
 |d+1,j,M+1,h1,h2=>by
  have hj:j<L.length:=by omega
  simp only[qAw,qMs]
  rw[if_pos (by simp only[jA];omega),qDu hj]
  simp only[j0,zTy hN]
  rw[jM hj,List.all_cons]
  cases hp:zJe L[j] with
  |true=>
   rw[if_neg (by simp),wi64 (by omega) (by omega)]
   simp only[j0,gF]
   exact zHl hL hN d (j+1) M (by omega) (by omega)
  |false=>simp
theorem zQb{N:Nat}{s:ByteArray}(hl:s.size<100000000)(hN:2*s.size+1000<N):qLa N s=some (qNn s.data.toList):=by
 have hs:=qCr s
 have hno:∀h:¬(s.data.toList.length≤80∧(sp s.data.toList).length≤8∧∀p∈sp s.data.toList,1≤p.length∧p.length≤24∧∀c∈p,inK [1,2,3,4] c=true),qNn s.data.toList=false:=fun h=>jU h
 simp only[qLa,zRx hl hN,j0,kP]
 by_cases h80:s.data.toList.length≤80
 ·rw[if_neg (by simp only[jA];omega)]
  by_cases h8:(sp s.data.toList).length≤8
  ·have e8:decide (((sp s.data.toList).length:Int)>8)=false:=jU (by omega)
   simp only[j0,e8,jB,jE,zFo (show 30<N by omega)]
   have key:=zHl (N:=N) (L:=(sp s.data.toList).map zAc) (by rw[kP];omega) (by omega) _ 0 N (kN _) (by rw[kP];omega)
   rw[show((0:Nat):Int)=0 from rfl,jZ] at key
   rw[key]
   simp only[j0]
   by_cases hp:((sp s.data.toList).map zAc).all zJe=true
   ·have:qNn s.data.toList=true:=jO ⟨h80,h8,fun p hp'=>by
     have:=(zGc _).1 (k7.1 hp (zAc p) (gC hp'))
     simpa[zAc] using this⟩
    rw[if_pos hp,this]
   ·rw[if_neg hp,hno fun h=>hp (k7.2 fun x hx=>by
     obtain⟨p,hp',rfl⟩:=gS.1 hx
     exact(zGc _).2 (by simpa[zAc] using h.2.2 p hp'))]
  ·have e8:decide (((sp s.data.toList).length:Int)>8)=true:=jO (by omega)
   simp only[j0,e8,jH]
   rw[hno fun h=>h8 h.2.1]
 ·rw[if_pos (by simp only[jA];omega)]
  simp only[j0,jH]
  rw[hno fun h=>h80 h.1]
end
section
open Go Go.Dc
def run{α τ β:Type}(step:τ→α→τ⊕β)(fin:τ→β):List α→τ→β
 |[],t=>fin t
 |x::l,t=>match step t x with
  | .inl t'=>run step fin l t'
  | .inr b=>b
theorem zGh{α τ σ β:Type}{L:List α}(enc:τ→Nat→σ){f:σ→Option (σ⊕β)}(step:τ→α→τ⊕β)(fin:τ→β)(I:Nat→τ→Prop)
  (hstep:∀t i,∀hi:i<L.length,I i t→f (enc t i)=some (match step t L[i] with| .inl t'=> .inl (enc t' (i+1))| .inr b=> .inr b))
  (hinv:∀t i,∀hi:i<L.length,∀t',I i t→step t L[i]= .inl t'→I (i+1) t')
  (hfin:∀t,I L.length t→f (enc t L.length)=some (.inr (fin t))):∀(d i M:Nat) (t:τ),i+d=L.length→d<M→I i t→qAw f M (enc t i)=some (run step fin (L.drop i) t)
 |_,_,0,_,_,h,_=>absurd h (kZ _)
 |d,i,M+1,t,h1,h2,h3=>by
  cases d with
  |zero=>
   have hi:i=L.length:=by omega
   subst hi
   simp only[qAw,hfin t h3,j0,fN,run]
  |succ d=>
   have hi:i<L.length:=by omega
   have hd:L.drop i=L[i]::L.drop (i+1):=(d2 hi).symm
   simp only[qAw,hstep t i hi h3,j0]
   rw[hd]
   simp only[run]
   cases hs:step t L[i] with
   |inl t'=>
    simp only
    exact zGh enc step fin I hstep hinv hfin d (i+1) M t' (by omega) (by omega) (hinv t i hi t' h3 hs)
   |inr b=>rfl
theorem qMi{α τ σ β:Type}{L:List α}(enc:τ→Nat→σ){f:σ→Option (σ⊕β)}(step:τ→α→τ⊕β)(fin:τ→β)(I:Nat→τ→Prop)
  (hstep:∀t i,∀hi:i<L.length,I i t→f (enc t i)=some (match step t L[i] with| .inl t'=> .inl (enc t' (i+1))| .inr b=> .inr b))
  (hinv:∀t i,∀hi:i<L.length,∀t',I i t→step t L[i]= .inl t'→I (i+1) t')
  (hfin:∀t,I L.length t→f (enc t L.length)=some (.inr (fin t))) {M:Nat} {t:τ} (hM:L.length<M) (h0:I 0 t):qAw f M (enc t 0)=some (run step fin L t):=by
 have:=zGh enc step fin I hstep hinv hfin L.length 0 M t (by omega) hM h0
 rw[jZ] at this;exact this
theorem qPc{α τ β:Type}{step:τ→α→τ⊕β}{fin:τ→β}(g:τ→α→τ)(h:∀t x,step t x= .inl (g t x)):∀(l:List α) (t:τ),run step fin l t=fin (l.foldl g t)
 |[],_=>rfl
 |x::l,t=>by simp only[run,h,jQ];exact qPc g h l _
theorem qXl{α:Type}{l:List α}{i:Nat}(h:i<l.length):l.drop i=l[i]::l.drop (i+1):=(d2 h).symm
end
section
open Go Go.Dc
abbrev File:=ByteArray×ByteArray
def blt(a b:ByteArray):Bool:=Op.bytesLess a.toList b.toList
theorem toList_inj{a b:ByteArray}(h:a.toList=b.toList):a=b:=by
 have h1:(a.toList==b.toList)=true:=by rw[h];exact kI _
 rw[qEj] at h1
 exact kY h1
theorem zAa:∀a:List UInt8,Op.bytesLess a a=false
 |[]=>rfl
 |x::a=>by simp[Op.bytesLess,zAa a]
theorem zCd:∀a b c:List UInt8,Op.bytesLess a b=true→Op.bytesLess b c=true→Op.bytesLess a c=true
 |_,_,[],_,h=>by simp[Op.bytesLess] at h
 |_,[],_::_,h,_=>by simp[Op.bytesLess] at h
 |[],_::_,_::_,_,_=>rfl
 |x::a,y::b,z::c,h1,h2=>by
  simp only[Op.bytesLess,gZ,jA,jX,k9] at h1 h2 ⊢
  rcases h1 with h1|⟨rfl,h1⟩<;>rcases h2 with h2|⟨rfl,h2⟩
  ·exact .inl (UInt8.lt_trans h1 h2)
  ·exact .inl h1
  ·exact .inl h2
  ·exact .inr ⟨rfl,zCd a b c h1 h2⟩
theorem zCx:∀a b:List UInt8,Op.bytesLess a b=true∨a=b∨Op.bytesLess b a=true
 |[],[]=> .inr (.inl rfl)
 |[],_::_=> .inl rfl
 |_::_,[]=> .inr (.inr rfl)
 |x::a,y::b=>by
  simp only[Op.bytesLess,gZ,jA,jX,k9,kJ]
  rcases zCx a b with h|h|h
  ·rcases Nat.lt_trichotomy x.toNat y.toNat with g|g|g
   ·exact .inl (.inl (UInt8.lt_iff_toNat_lt.2 g))
   ·have g:=UInt8.toNat_inj.1 g;exact .inl (.inr ⟨g,h⟩)
   ·exact .inr (.inr (.inl (UInt8.lt_iff_toNat_lt.2 g)))
  ·rcases Nat.lt_trichotomy x.toNat y.toNat with g|g|g
   ·exact .inl (.inl (UInt8.lt_iff_toNat_lt.2 g))
   ·have g:=UInt8.toNat_inj.1 g;exact .inr (.inl ⟨g,h⟩)
   ·exact .inr (.inr (.inl (UInt8.lt_iff_toNat_lt.2 g)))
  ·rcases Nat.lt_trichotomy x.toNat y.toNat with g|g|g
   ·exact .inl (.inl (UInt8.lt_iff_toNat_lt.2 g))
   ·have g:=UInt8.toNat_inj.1 g;exact .inr (.inr (.inr ⟨g.symm,h⟩))
   ·exact .inr (.inr (.inl (UInt8.lt_iff_toNat_lt.2 g)))
theorem qSd(a:ByteArray):blt a a=false:=zAa _
theorem qOe{a b c:ByteArray}(h1:blt a b=true)(h2:blt b c=true):blt a c=true:=zCd _ _ _ h1 h2
theorem qSb(a b:ByteArray):blt a b=true∨a=b∨blt b a=true:=by
 rcases zCx a.toList b.toList with h|h|h
 ·exact .inl h
 ·exact .inr (.inl (toList_inj h))
 ·exact .inr (.inr h)
theorem zOx{a b:ByteArray}(h:blt a b=true):blt b a=false:=by
 cases h2:blt b a with
 |false=>rfl
 |true=>have:=qOe h h2;rw[qSd] at this;cases this
theorem zOm{a b:ByteArray}(h:blt a b=true):a≠b:=by rintro rfl;rw[qSd] at h;cases h
def Asc(L:List File):Prop:=L.Pairwise fun f g=>blt f.1 g.1=true
def fget:List File→ByteArray→Option ByteArray
 |[],_=>none
 |f::L,p=>if f.1=p then some f.2 else fget L p
def fput:List File→ByteArray→ByteArray→List File
 |[],p,b=>[(p,b)]
 |f::L,p,b=>if blt p f.1=true then(p,b)::f::L else if f.1=p then(p,b)::L else f::fput L p b
theorem qPm{L:List File}{p:ByteArray}(h:∀f∈L,blt p f.1=true):fget L p=none:=by
 induction L with
 |nil=>rfl
 |cons f L ih=>
  have h1:=h f (jN ..)
  simp only[fget]
  rw[if_neg (fun e=>by rw[e,qSd] at h1;cases h1)]
  exact ih fun g hg=>h g (jS _ hg)
theorem zQo{L:List File}{p b:ByteArray}(h:fget L p=some b):(p,b)∈L:=by
 induction L with
 |nil=>simp[fget] at h
 |cons f L ih=>
  simp only[fget] at h
  split at h
  ·rename_i e;simp only[jJ] at h;subst h;subst e;exact jN ..
  ·exact jS _ (ih h)
theorem qVs{L:List File}(ha:Asc L){f:File}(h:f∈L):fget L f.1=some f.2:=by
 induction L with
 |nil=>cases h
 |cons g L ih=>
  have h2:=jW.1 ha
  rcases jL.1 h with rfl|h
  ·simp[fget]
  ·simp only[fget]
   rw[if_neg (zOm (h2.1 f h)),ih h2.2 h]
theorem Asc.ext:∀{L K:List File},Asc L→Asc K→(∀p,fget L p=fget K p)→L=K
 |[],[],_,_,_=>rfl
 |[],f::K,_,_,h=>by have:=h f.1;simp[fget] at this
 |f::L,[],_,_,h=>by have:=h f.1;simp[fget] at this
 |f::L,g::K,hL,hK,h=>by
  have hL':=jW.1 hL
  have hK':=jW.1 hK
  have e:f.1=g.1:=by
   rcases qSb f.1 g.1 with hl|hl|hl
   ·have h1:=h f.1
    rw[qPm (L:=g::K) (fun x hx=>by
     rcases jL.1 hx with rfl|hx
     ·exact hl
     ·exact qOe hl (hK'.1 x hx))] at h1
    simp[fget] at h1
   ·exact hl
   ·have h1:=h g.1
    rw[qPm (L:=f::L) (fun x hx=>by
     rcases jL.1 hx with rfl|hx
     ·exact hl
     ·exact qOe hl (hL'.1 x hx))] at h1
    simp[fget] at h1
  have e2:f.2=g.2:=by have:=h f.1;rw[e] at this;simpa[fget,e] using this
  have e3:f=g:=Prod.ext e e2
  subst e3
  congr 1
  refine Asc.ext hL'.2 hK'.2 fun p=> ?_
  by_cases hp:f.1=p
  ·subst hp
   rw[qPm hL'.1,qPm hK'.1]
  ·have:=h p
   simpa[fget,hp] using this
theorem qZm{L:List File}{p b:ByteArray}{f:File}(h:f∈fput L p b):f=(p,b)∨f∈L:=by
 induction L with
 |nil=>simp[fput] at h;exact .inl h
 |cons g L ih=>
  simp only[fput] at h
  split at h
  ·rcases jL.1 h with h|h
   ·exact .inl h
   ·exact .inr h
  ·split at h
   ·rcases jL.1 h with h|h
    ·exact .inl h
    ·exact .inr (jS _ h)
   ·rcases jL.1 h with h|h
    ·exact .inr (h▸jN ..)
    ·rcases ih h with h|h
     ·exact .inl h
     ·exact .inr (jS _ h)
theorem Asc.put{L:List File}(h:Asc L)(p b:ByteArray):Asc (fput L p b):=by
 induction L with
 |nil=>exact List.pairwise_singleton _ _
 |cons g L ih=>
  have h':=jW.1 h
  simp only[fput]
  split
  ·rename_i h1
   refine jW.2 ⟨fun x hx=> ?_,h⟩
   rcases jL.1 hx with rfl|hx
   ·exact h1
   ·exact qOe h1 (h'.1 x hx)
  ·rename_i h1
   split
   ·rename_i h2
    exact jW.2 ⟨fun x hx=>by have:=h'.1 x hx;rw[h2] at this;exact this,h'.2⟩
   ·rename_i h2
    refine jW.2 ⟨fun x hx=> ?_,ih h'.2⟩
    rcases qZm hx with rfl|hx
    ·rcases qSb g.1 p with h3|h3|h3
     ·exact h3
     ·exact absurd h3 h2
     ·exact absurd h3 h1
    ·exact h'.1 x hx
def zSj(f:File):Prop:=qNn f.1.data.toList=true∧f.2.size≤16384
def WF(L:List File):Prop:=L.length≤64∧Asc L∧∀f∈L,zSj f
theorem WF.put{L:List File}(h:WF L){p b:ByteArray}(hp:qNn p.data.toList=true)(hb:b.size≤16384)(hl:(fput L p b).length≤64):WF (fput L p b):=
 ⟨hl,h.2.1.put p b,fun f hf=>by
  rcases qZm hf with rfl|hf
  ·exact⟨hp,hb⟩
  ·exact h.2.2 f hf⟩
def zJh(q:Option ByteArray)(p:ByteArray):Bool:=match q with
 |some x=>blt p x
 |none=>false
def qWn:Option ByteArray→List File→Int
 |_,[]=>0
 |q,f::L=>
  if qNn f.1.data.toList=false then 6
  else if q=some f.1 then 10
  else if zJh q f.1=true then 6
  else if 16384<f.2.size then 2
  else qWn (some f.1) L
def qIg(L:List File):Int:=if 64<L.length then 2 else qWn none L
theorem zFs:∀{L:List File} {q:Option ByteArray},qWn q L=0↔Asc L∧(∀f∈L,zSj f)∧∀x,q=some x→∀f∈L,blt x f.1=true
 |[],q=>by simp[qWn,Asc]
 |f::L,q=>by
  have ih:=zFs (L:=L) (q:=some f.1)
  simp only[qWn]
  by_cases h1:qNn f.1.data.toList=false
  ·rw[if_pos h1]
   refine⟨fun h=>by omega,fun h=> ?_⟩
   have:=(h.2.1 f (jN ..)).1;rw[h1] at this;cases this
  rw[if_neg h1]
  have h1:qNn f.1.data.toList=true:=by simpa using h1
  by_cases h2:q=some f.1
  ·rw[if_pos h2]
   refine⟨fun h=>by omega,fun h=> ?_⟩
   have:=h.2.2 _ h2 f (jN ..);rw[qSd] at this;cases this
  rw[if_neg h2]
  by_cases h3:zJh q f.1=true
  ·rw[if_pos h3]
   refine⟨fun h=>by omega,fun h=> ?_⟩
   cases q with
   |none=>cases h3
   |some x=>have:=h.2.2 x rfl f (jN ..);rw[show zJh (some x) f.1=blt f.1 x from rfl,zOx this] at h3;cases h3
  rw[if_neg h3]
  by_cases h4:16384<f.2.size
  ·rw[if_pos h4]
   refine⟨fun h=>by omega,fun h=> ?_⟩
   have:=(h.2.1 f (jN ..)).2;omega
  rw[if_neg h4,ih]
  have hq:∀x,q=some x→blt x f.1=true:=fun x hx=>by
   subst hx
   rcases qSb x f.1 with g|g|g
   ·exact g
   ·exact absurd (by rw[g]) h2
   ·exact absurd g h3
  constructor
  ·rintro⟨a1,a2,a3⟩
   refine⟨jW.2 ⟨a3 f.1 rfl,a1⟩,fun g hg=> ?_,fun x hx g hg=> ?_⟩
   ·rcases jL.1 hg with rfl|hg
    ·exact⟨h1,by omega⟩
    ·exact a2 g hg
   ·rcases jL.1 hg with rfl|hg
    ·exact hq x hx
    ·exact qOe (hq x hx) (a3 f.1 rfl g hg)
  ·rintro⟨a1,a2,a3⟩
   have a1:=jW.1 a1
   exact⟨a1.2,fun g hg=>a2 g (jS _ hg),fun x hx=>by cases hx;exact a1.1⟩
theorem qIa{L:List File}:qIg L=0↔WF L:=by
 unfold qIg WF
 by_cases h:64<L.length
 ·rw[if_pos h];exact⟨fun h=>by omega,fun g=>by omega⟩
 ·rw[if_neg h,zFs]
  exact⟨fun g=>⟨by omega,g.1,g.2.1⟩,fun g=>⟨g.2.1,g.2.2,fun x hx=>by cases hx⟩⟩
def resK(c:Int):Unit⊕Int:=if c=0 then .inl () else .inr c
def qAt(L:List File)(i:Nat):Option ByteArray:=if i=0 then none else(L[i-1]?).map (·.1)
theorem zCg{L:List File}{f:Int→Option (Int⊕(Unit⊕Int))}
  (step:∀i:Nat,∀h:i<L.length,f (i:Int)=if qNn L[i].1.data.toList=false then some (.inr (.inr 6)) else if qAt L i=some L[i].1 then some (.inr (.inr 10)) else if zJh (qAt L i) L[i].1=true then some (.inr (.inr 6)) else if 16384<L[i].2.size then some (.inr (.inr 2)) else some (.inl ((i:Int)+1)))
  (stop:f (L.length:Int)=some (.inr (.inl ()))):∀(d i M:Nat),i+d=L.length→d<M→qAw f M (i:Int)=some (resK (qWn (qAt L i) (L.drop i)))
 |_,_,0,_,h=>by omega
 |0,i,M+1,hd,_=>by
  have:i=L.length:=by omega
  subst this
  simp[qAw,stop,qWn,resK]
 |d+1,i,M+1,hd,hM=>by
  have hi:i<L.length:=by omega
  have ih:=zCg step stop d (i+1) M (by omega) (by omega)
  have e1:(i:Int)+1=((i+1:Nat):Int):=by omega
  have e2:qAt L (i+1)=some L[i].1:=by simp[qAt,hi]
  simp only[qAw,step i hi]
  rw[jM hi]
  simp only[qWn]
  by_cases h1:qNn L[i].1.data.toList=false
  ·rw[if_pos h1,if_pos h1];rfl
  rw[if_neg h1,if_neg h1]
  by_cases h2:qAt L i=some L[i].1
  ·rw[if_pos h2,if_pos h2];rfl
  rw[if_neg h2,if_neg h2]
  by_cases h3:zJh (qAt L i) L[i].1=true
  ·rw[if_pos h3,if_pos h3];rfl
  rw[if_neg h3,if_neg h3]
  by_cases h4:16384<L[i].2.size
  ·rw[if_pos h4,if_pos h4];rfl
  rw[if_neg h4,if_neg h4,e1]
  simp only[j0]
  rw[ih,e2]
theorem eqB(x y:ByteArray):(x.toList==y.toList)=decide (x=y):=qEj x y
theorem zLj{N:Nat}{L:List File}{P:ByteArray→Option Bool}{f:Int→Option (Int⊕(Unit⊕Int))}(hP:∀g∈L,P g.1=some (qNn g.1.data.toList))
  (hf:∀s1,f s1=if(decide (s1<(List.length L:Int)))=true then((idx L s1).bind fun x1=>(P x1.1).bind fun y1=>if(!y1)=true then(some (.inr (.inr (6)))) else((if(decide (s1>0))=true then((idx L (IntKind.wrap .i64 (s1-1))).bind fun x2=>some (x1.1.toList==x2.1.toList)) else(some false):Option (Bool)).bind fun o2=>if o2=true then(some (.inr (.inr (10)))) else((if(decide (s1>0))=true then((idx L (IntKind.wrap .i64 (s1-1))).bind fun x3=>some (Op.bytesLess x1.1.toList x3.1.toList)) else(some false):Option (Bool)).bind fun o3=>if o3=true then(some (.inr (.inr (6)))) else(if(decide ((ByteArray.size x1.2:Int)>16384))=true then(some (.inr (.inr (2)))) else(some (.inl (IntKind.wrap .i64 (s1+1)))))))) else(some (.inr (.inl ()))))
  (hN:100<N):(if(decide ((List.length L:Int)>64))=true then(some 2) else((qAw f N 0).bind fun out1=>(match out1 with| .inl _=>some 0| .inr z=>some z)):Option Int)=some (qIg L):=by
 unfold qIg
 by_cases h:64<L.length
 ·rw[if_pos h,if_pos (by simp only[jA];omega)]
 ·rw[if_neg h,if_neg (by simp only[jA];omega)]
  have key:=zCg (L:=L) (f:=f) (fun i hi=>by
   rw[hf,if_pos (by simp only[jA];omega),qDu hi]
   simp only[j0,hP _ (kA hi)]
   by_cases h1:qNn L[i].1.data.toList=false
   ·rw[if_pos (by rw[h1];rfl),if_pos h1]
   have h1':qNn L[i].1.data.toList=true:=by simpa using h1
   rw[if_neg (by rw[h1'];simp),if_neg h1]
   by_cases h0:0<i
   ·have hi1:i-1<L.length:=by omega
    have ew:IntKind.wrap .i64 ((i:Int)-1)=((i-1:Nat):Int):=by rw[wi64 (by omega) (by omega)];omega
    have eq:qAt L i=some (L[i-1]).1:=by simp[qAt,hi1];omega
    rw[ew,qDu hi1,eq]
    have ed:decide ((i:Int)>0)=true:=by simp only[jA];omega
    simp only[j0,eqB,ed,jH,jA,jJ]
    by_cases h2:L[i].1=(L[i-1]).1
    ·rw[if_pos h2,if_pos h2.symm]
    rw[if_neg h2,if_neg (show ¬(L[i-1]).1=L[i].1 from fun e=>h2 e.symm)]
    have el:zJh (some (L[i-1]).1) L[i].1=Op.bytesLess L[i].1.toList (L[i-1]).1.toList:=rfl
    rw[el]
    by_cases h3:Op.bytesLess L[i].1.toList (L[i-1]).1.toList=true
    ·rw[if_pos h3,if_pos h3]
    rw[if_neg h3,if_neg h3]
    by_cases h4:16384<L[i].2.size
    ·rw[if_pos (by omega),if_pos h4]
    ·rw[if_neg (by omega),if_neg h4,wi64 (by omega) (by omega)]
   ·have h0:i=0:=by omega
    subst h0
    have ed:decide (((0:Nat):Int)>0)=false:=by decide
    have eq:qAt L 0=none:=rfl
    have el:zJh none (L[0]).1=false:=rfl
    simp only[ed,jB,jE,j0,eq,jA,reduceCtorEq,el]
    by_cases h4:16384<L[0].2.size
    ·rw[if_pos (by omega),if_pos h4]
    ·rw[if_neg (by omega),if_neg h4,wi64 (by omega) (by omega)]) (by rw[hf,if_neg (by simp)]) L.length 0 N (by omega) (by omega)
  rw[show((0:Nat):Int)=0 from rfl] at key
  rw[key,jZ]
  have eq:qAt L 0=none:=rfl
  rw[eq]
  simp only[j0,resK]
  by_cases hc:qWn none L=0
  ·rw[if_pos hc,hc]
  ·rw[if_neg hc]
theorem zLi{N:Nat}{L:List File}(hP:∀g∈L,qLa N g.1=some (qNn g.1.data.toList))(hN:100<N):qNf N L=some (qIg L):=
 zLj (f:=qMo N L) (P:=qLa N) hP (fun _=>rfl) hN
theorem qNm{N:Nat}{L:List File}(hN:100<N):qEg N L=some (qIg L):=
 zLj (f:=qKe N L) (P:=qGk N) (fun _ _=>qXk hN) (fun _=>rfl) hN
end
section
open Go Go.Dc Go.Proofs
def qWp:ByteArray:=⟨#[]⟩
def zTq(o:Option ByteArray):ByteArray×Bool:=match o with
 |some b=>(b,true)
 |none=>(qWp,false)
def zLv(L:List File)(p:ByteArray):ByteArray×Bool:=if qIg L=0 then zTq (fget L p) else(qWp,false)
abbrev qMu(N:Nat)(L:List File):Prop:=∀g∈L,qLa N g.1=some (qNn g.1.data.toList)
theorem qYc{N:Nat}{L:List File}{p:ByteArray}(hl:L.length<1000000):∀(d i M:Nat),i+d=L.length→d<M→qAw (qHl N L p) M (i:Int)=some (match fget (L.drop i) p with|some b=> .inr (b,true)|none=> .inl ())
 |_,_,0,_,h=>by omega
 |0,i,M+1,hd,_=>by
  simp only[qAw,qHl]
  rw[if_neg (by simp only[jA];omega),jV (by omega)]
  rfl
 |d+1,i,M+1,hd,hM=>by
  have hi:i<L.length:=by omega
  simp only[qAw,qHl]
  rw[if_pos (by simp only[jA];omega),qDu hi,jM hi]
  simp only[j0,eqB,jA,fget]
  by_cases he:(L[i]).1=p
  ·rw[if_pos he,if_pos he];rfl
  ·rw[if_neg he,if_neg he,wi64 (by omega) (by omega)]
   have e1:(i:Int)+1=((i+1:Nat):Int):=by omega
   simp only[j0]
   rw[e1,qYc hl d (i+1) M (by omega) (by omega)]
theorem zMz{N:Nat}{L:List File}(p:ByteArray)(hN:100<N):qKm N L p=some (zLv L p):=by
 simp only[qKm,qNm hN,j0]
 unfold zLv
 by_cases hc:qIg L=0
 ·rw[if_neg (by simp[hc]),if_pos hc]
  have hw:=(qIa.1 hc).1
  have:=qYc (N:=N) (L:=L) (p:=p) (by omega) L.length 0 N (by omega) (by omega)
  rw[show((0:Nat):Int)=0 from rfl,jZ] at this
  rw[this]
  cases fget L p<;>rfl
 ·rw[if_pos (by simpa using hc),if_neg hc];rfl
def qGy(s:ByteArray):Bool:=qNn s.data.toList&&decide (4<s.size)&&decide (s.extract (s.size-4) s.size=(⟨#[46,115,114,99]⟩:ByteArray))
theorem zAy{N:Nat}{s:ByteArray}(hp:qLa N s=some (qNn s.data.toList)):qJs N s=some (qGy s):=by
 simp only[qJs,hp,j0]
 unfold qGy
 cases hb:qNn s.data.toList with
 |false=>simp
 |true=>
  have h80:s.size≤80:=by
   have:s.data.toList.length≤80:=(kY hb).1
   have e:=qCr s
   omega
  rw[if_pos rfl]
  by_cases h4:4<s.size
  ·rw[if_pos (by simp only[jA];omega)]
   have e4:ByteArray.size (⟨#[46,115,114,99]⟩:ByteArray)=4:=rfl
   simp only[qMj,qGo,e4]
   rw[if_pos (by simp only[jA];omega),show IntKind.wrap .i64 ((s.size:Int)-((4:Nat):Int))=((s.size-4:Nat):Int) by rw[wi64 (by omega) (by omega)];omega,zAs (by omega) (by omega) (by omega)]
   simp only[j0,kH,eqB,jO h4,gF]
  ·rw[if_neg (by simp only[jA];omega),jU h4];rfl
theorem qVj{N:Nat}{s:ByteArray}(hN:100<N):qGp N s=some (qGy s):=by
 simp only[qGp,qXk hN,j0]
 unfold qGy
 cases hb:qNn s.data.toList with
 |false=>simp
 |true=>
  have h80:s.size≤80:=by
   have:s.data.toList.length≤80:=(kY hb).1
   have e:=qCr s
   omega
  rw[if_pos rfl]
  by_cases h4:4<s.size
  ·rw[if_pos (by simp only[jA];omega),show IntKind.wrap .i64 ((s.size:Int)-4)=((s.size-4:Nat):Int) by rw[wi64 (by omega) (by omega)];omega,zAs (by omega) (by omega) (by omega)]
   simp only[j0,kH,eqB,jO h4,gF]
  ·rw[if_neg (by simp only[jA];omega),jU h4];rfl
section
variable {κ ν:Type} [DecidableEq κ]
theorem zDo:∀(l:List (κ×ν)) (k:κ) (v:ν) (c:κ),mget (qQz l k v) c=if c=k then some v else mget l c
 |[],k,v,c=>by simp[qQz,mget]
 |p::l,k,v,c=>by
  simp only[qQz]
  by_cases h:k=p.1
  ·rw[if_pos h]
   simp only[mget]
   by_cases h2:c=k
   ·rw[if_pos h2,if_pos h2]
   ·rw[if_neg h2,if_neg h2,if_neg (by rw[←h];exact h2)]
  ·rw[if_neg h]
   simp only[mget]
   rw[zDo l k v c]
   by_cases h2:c=p.1
   ·rw[if_pos h2,if_neg (fun e=>h (by rw[←e,h2])),if_pos h2]
   ·rw[if_neg h2,if_neg h2]
theorem qSk[KOrd κ]{l:List (κ×ν)}(hn:(l.map (·.1)).Nodup)(k:κ)(v:ν)(c:κ):mget (mset l k v) c=if c=k then some v else mget l c:=by
 rw[←zBf (qQp (.refl l) hn k v) (qOz hn k v) c,zDo]
theorem qOx[KOrd κ]{l:List (κ×ν)}(hn:(l.map (·.1)).Nodup)(k:κ)(v:ν):((mset l k v).map (·.1)).Nodup:=
 ((qQp (.refl l) hn k v).map _).nodup_iff.1 (qOz hn k v)
end
end
section
open Go Go.Dc
instance decMemB(s:ByteArray)(l:List ByteArray):Decidable (s∈l):=@List.instDecidableMemOfLawfulBEq ByteArray instBEqOfDecidableEq inferInstance s l
abbrev Ex:=Int×Int×Int×ByteArray×List Int
abbrev Dl:=Int×ByteArray×List ByteArray×List Ex
abbrev Sr:=ByteArray×List ByteArray×List Dl
abbrev Flt:=Int×Int
abbrev Ps:=Nat×List Ex
abbrev PM(α:Type):=Flt⊕(Ps×α)
def tkAt(ts:List Tok)(i:Nat):Tok:=ts.getD i (5,⟨#[]⟩,0,0)
def qHp{α:Type}(t:Tok)(e:Int):Flt⊕α:= .inl (t.2.2.2,e)
def qCj{α β:Type}(x:Flt⊕α)(f:α→Flt⊕β):Flt⊕β:=
 match x with
 | .inl z=> .inl z
 | .inr a=>f a
def isC(ts:List Tok)(k:Int)(s:ByteArray)(i:Nat):Bool:=(tkAt ts i).1==k&&decide ((tkAt ts i).2.1=s)
def qFj(ts:List Tok)(s:ByteArray)(i:Nat):Flt⊕Nat:=if isC ts 4 s i then .inr (i+1) else qHp (tkAt ts i) 9
def qXc(ts:List Tok)(s:ByteArray)(i:Nat):Flt⊕Nat:=if isC ts 1 s i then .inr (i+1) else qHp (tkAt ts i) 9
def qOv(ts:List Tok)(k:Int)(i:Nat):Flt⊕(Nat×Tok):=if(tkAt ts i).1=k then .inr (i+1,tkAt ts i) else qHp (tkAt ts i) 9
def qWg:ByteArray:=⟨#[112,97,99,107,97,103,101]⟩
def qVx:ByteArray:=⟨#[105,109,112,111,114,116]⟩
def zPv:ByteArray:=⟨#[102,117,110,99]⟩
def zQg:ByteArray:=⟨#[116,101,115,116]⟩
def sGen:ByteArray:=⟨#[103,101,110]⟩
def sIf:ByteArray:=⟨#[105,102]⟩
def zNw:ByteArray:=⟨#[116,104,101,110]⟩
def zPi:ByteArray:=⟨#[101,108,115,101]⟩
def qTy:ByteArray:=⟨#[114,101,97,100]⟩
def qUo:ByteArray:=⟨#[115,105,122,101]⟩
def sHas:ByteArray:=⟨#[104,97,115]⟩
def sEnv:ByteArray:=⟨#[101,110,118]⟩
def qVq:ByteArray:=⟨#[102,108,105,112]⟩
def qSg:ByteArray:=⟨#[40]⟩
def qJk:ByteArray:=⟨#[41]⟩
def qPy:ByteArray:=⟨#[44]⟩
def qWr:ByteArray:=⟨#[59]⟩
def sEq:ByteArray:=⟨#[61]⟩
def zPd:ByteArray:=⟨#[45]⟩
def wordsR:List ByteArray:=[qWg,qVx,zPv,zQg,sGen,sIf,zNw,zPi,qTy,qUo,sHas,sEnv,qVq]
def resC(s:ByteArray):Bool:=decide (s∈wordsR)
def qOu(ts:List Tok)(i:Nat):Flt⊕(Nat×Tok):=qCj (qOv ts 1 i) fun p=>if resC p.2.2.1 then qHp p.2 9 else .inr p
def qQq(ts:List Tok)(i:Nat):Flt⊕(Nat×Tok):=qCj (qOv ts 3 i) fun p=>if qNn p.2.2.1.data.toList then .inr p else qHp p.2 9
def qYj(ts:List Tok)(i:Nat):Flt⊕(Nat×Tok):=qCj (qOv ts 3 i) fun p=>if zEr p.2.2.1 then .inr p else qHp p.2 9
def qMh(t:Tok)(x:Ex)(p:Ps):PM Nat:=if p.2.length=256 then qHp t 2 else .inr ((p.1,p.2++[x]),p.2.length)
def opsC:List (Int×ByteArray):=[(1,⟨#[43]⟩),(2,⟨#[45]⟩),(3,⟨#[42]⟩),(4,⟨#[47]⟩),(5,⟨#[37]⟩),(6,⟨#[60]⟩),(7,⟨#[61,61]⟩)]
def levP(op:Int):Nat:=if op=6∨op=7 then 1 else if op=1∨op=2 then 2 else 3
def isOp(ts:List Tok)(level:Nat)(i:Nat)(o:Int×ByteArray):Bool:=isC ts 4 o.2 i&&decide (levP o.1=level)
def opC(ts:List Tok)(level:Nat)(i:Nat):Int:=
 match opsC.find? (isOp ts level i) with
 |some o=>o.1
 |none=>0
section
variable (ts:List Tok) (params:List ByteArray) (E:Ps→PM Nat)
def zBu:Nat→List Int→Ps→PM (List Int)
 |0,_,p=>qHp (tkAt ts p.1) 9
 |n+1,l,p=>qCj (E p) fun q=>
  if isC ts 4 qPy q.1.1 then zBu n (l++[(q.2:Int)]) (q.1.1+1,q.1.2)
  else qCj (qFj ts qJk q.1.1) fun i=> .inr ((i,q.1.2),l++[(q.2:Int)])
def qMn(p:Ps):PM (List Int):=
 qCj (qFj ts qSg p.1) fun i=>if isC ts 4 qJk i then .inr ((i+1,p.2),[]) else zBu ts E (ts.length+1) [] (i,p.2)
def qMp(t:Tok)(p:Ps):PM Nat:=
 qCj (qFj ts qSg p.1) fun i=>
 qCj (if t.2.1=qTy then
   qCj (qQq ts i) fun a=>qCj (qFj ts qPy a.1) fun i=>qCj (E (i,p.2)) fun q=> .inr (q.1,((6,0,0,a.2.2.1,[(q.2:Int)]):Ex))
  else if t.2.1=qUo then qCj (qQq ts i) fun a=> .inr ((a.1,p.2),((7,0,0,a.2.2.1,[]):Ex))
  else if t.2.1=sHas then qCj (qQq ts i) fun a=> .inr ((a.1,p.2),((8,0,0,a.2.2.1,[]):Ex))
  else if t.2.1=sEnv then qCj (qYj ts i) fun a=> .inr ((a.1,p.2),((9,0,0,a.2.2.1,[]):Ex))
  else qCj (qOv ts 2 i) fun a=>if a.2.2.2.1≥64 then qHp a.2 9 else .inr ((a.1,p.2),((10,a.2.2.2.1,0,⟨#[]⟩,[]):Ex))) fun q=>
 qCj (qFj ts qJk q.1.1) fun i=>qMh t q.2 (i,q.1.2)
def qPt(p:Ps):PM Nat:=
 let t:=tkAt ts p.1
 if t.1=2 then qMh t (1,t.2.2.1,0,⟨#[]⟩,[]) (p.1+1,p.2)
 else if isC ts 4 zPd p.1 then qCj (qOv ts 2 (p.1+1)) fun a=>qMh t (1,IntKind.wrap .i64 (0-a.2.2.2.1),0,⟨#[]⟩,[]) (a.1,p.2)
 else if isC ts 4 qSg p.1 then qCj (E (p.1+1,p.2)) fun q=>qCj (qFj ts qJk q.1.1) fun i=> .inr ((i,q.1.2),q.2)
 else if t.1≠1 then qHp t 9
 else if t.2.1∈[qTy,qUo,sHas,sEnv,qVq] then qMp ts E t (p.1+1,p.2)
 else if resC t.2.1 then qHp t 9
 else if isC ts 4 qSg (p.1+1) then qCj (qMn ts E (p.1+1,p.2)) fun q=>qMh t (3,0,0,t.2.1,q.2) q.1
 else match params.findIdx? (fun x=>decide (x=t.2.1)) with
  |some i=>qMh t (2,(i:Int),0,⟨#[]⟩,[]) (p.1+1,p.2)
  |none=>qHp t 9
def qTh(level:Nat)(S:Ps→PM Nat):Nat→Nat→Ps→PM Nat
 |0,_,p=>qHp (tkAt ts p.1) 9
 |n+1,x,p=>
  if opC ts level p.1=0 then .inr (p,x)
  else qCj (S (p.1+1,p.2)) fun q=>qCj (qMh (tkAt ts p.1) (4,0,opC ts level p.1,⟨#[]⟩,[(x:Int),(q.2:Int)]) q.1) fun r=>
   if level=1 then .inr r else qTh level S n r.2 r.1
def qTa(level:Nat)(S:Ps→PM Nat)(p:Ps):PM Nat:=qCj (S p) fun q=>qTh ts level S (ts.length+1) q.2 q.1
def zPr:Ps→PM Nat:=qTa ts 3 (qPt ts params E)
def sumC:Ps→PM Nat:=qTa ts 2 (zPr ts params E)
def qWw:Ps→PM Nat:=qTa ts 1 (sumC ts params E)
end
def qHq(ts:List Tok)(params:List ByteArray):Nat→Ps→PM Nat
 |0,p=>qHp (tkAt ts p.1) 2
 |k+1,p=>
  if isC ts 1 sIf p.1 then
   qCj (qHq ts params k (p.1+1,p.2)) fun a=>qCj (qXc ts zNw a.1.1) fun i=>
   qCj (qHq ts params k (i,a.1.2)) fun b=>qCj (qXc ts zPi b.1.1) fun j=>
   qCj (qHq ts params k (j,b.1.2)) fun c=>qMh (tkAt ts p.1) (5,0,0,⟨#[]⟩,[(a.2:Int),(b.2:Int),(c.2:Int)]) c.1
  else qWw ts params (qHq ts params k) p
def qRx(ts:List Tok):Nat→List ByteArray→Nat→Flt⊕(Nat×List ByteArray)
 |0,_,i=>qHp (tkAt ts i) 9
 |n+1,l,i=>qCj (qOu ts i) fun a=>
  if l.length=8 then qHp a.2 2
  else if a.2.2.1∈l then qHp a.2 10
  else if isC ts 4 qPy a.1 then qRx ts n (l++[a.2.2.1]) (a.1+1)
  else qCj (qFj ts qJk a.1) fun j=> .inr (j,l++[a.2.2.1])
def qJj(ts:List Tok)(i:Nat):Flt⊕(Nat×List ByteArray):=
 qCj (qFj ts qSg i) fun j=>if isC ts 4 qJk j then .inr (j+1,[]) else qRx ts (ts.length+1) [] j
def qOq(s:ByteArray):Int:=if s=zPv then 1 else if s=zQg then 2 else if s=sGen then 3 else 0
def qSe(ts:List Tok)(before:List Dl)(i:Nat):Flt⊕(Nat×Dl):=
 let t:=tkAt ts i
 let k:=qOq t.2.1
 if t.1≠1∨k=0 then qHp t 9
 else if before.length=64 then qHp t 2
 else qCj (if k=3 then qQq ts (i+1) else qOu ts (i+1)) fun a=>
  if before.any (fun d=>d.1==k&&decide (d.2.1=a.2.2.1)) then qHp a.2 10
  else qCj (if k=1 then qJj ts a.1 else .inr (a.1,[])) fun b=>
   qCj (qFj ts sEq b.1) fun j=>qCj (qHq ts b.2 32 (j,[])) fun c=>
   qCj (qFj ts qWr c.1.1) fun m=> .inr (m,(k,a.2.2.1,b.2,c.1.2))
def qLz(ts:List Tok)(pkg:ByteArray):Nat→List ByteArray→Nat→Flt⊕(Nat×List ByteArray)
 |0,_,i=>qHp (tkAt ts i) 9
 |n+1,l,i=>
  if isC ts 1 qVx i then
   if l.length=8 then qHp (tkAt ts i) 2
   else qCj (qOu ts (i+1)) fun a=>
    if a.2.2.1=pkg∨a.2.2.1∈l then qHp a.2 10
    else qCj (qFj ts qWr a.1) fun j=>qLz ts pkg n (l++[a.2.2.1]) j
  else .inr (i,l)
def qRd(ts:List Tok):Nat→List Dl→Nat→Flt⊕List Dl
 |0,_,i=>qHp (tkAt ts i) 9
 |n+1,l,i=>if(tkAt ts i).1=5 then .inr l else qCj (qSe ts l i) fun a=>qRd ts n (l++[a.2]) a.1
def zAw(ts:List Tok):Flt⊕Sr:=
 qCj (qXc ts qWg 0) fun i=>qCj (qOu ts i) fun a=>qCj (qFj ts qWr a.1) fun j=>
 qCj (qLz ts a.2.2.1 (ts.length+1) [] j) fun b=>qCj (qRd ts (ts.length+1) [] b.1) fun l=> .inr (a.2.2.1,b.2,l)
def qWk:Sr:=(⟨#[]⟩,[],[])
def qIh(s:ByteArray):Sr×Int×Int:=
 if(qHf s).2.2≠0 then(qWk,(qHf s).2.1,(qHf s).2.2)
 else match zAw (qHf s).1 with
  | .inl z=>(qWk,z.1,z.2)
  | .inr f=>(f,0,0)
end
section
open Go Go.Dc
def OkT(ts:List Tok):Prop:=ts≠[]∧∀i,i<ts.length→((tkAt ts i).1=5↔i+1=ts.length)
theorem qBx{α β:Type}{x:Flt⊕α}{f:α→Flt⊕β}{b:β}(h:qCj x f= .inr b):∃a,x= .inr a∧f a= .inr b:=by
 cases x with
 |inl z=>cases h
 |inr a=>exact⟨a,rfl,h⟩
section
variable {ts:List Tok} {params:List ByteArray} {E S:Ps→PM Nat}
theorem OkT.next(h:OkT ts){i:Nat}(hi:i<ts.length)(hk:(tkAt ts i).1≠5):i+1<ts.length:=by
 have h3:¬i+1=ts.length:=fun e=>hk ((h.2 i hi).2 e)
 omega
theorem qZe{k:Int}{s:ByteArray}{i:Nat}(h:isC ts k s i=true):(tkAt ts i).1=k:=by
 simp only[isC,jX,k9] at h;exact h.1
theorem qFk(h:OkT ts){k:Int}{s:ByteArray}{i:Nat}(hi:i<ts.length)(hk:k≠5)(h1:isC ts k s i=true):i+1<ts.length:=h.next hi (by rw[qZe h1];exact hk)
theorem qEv(h:OkT ts){s:ByteArray}{i j:Nat}(hi:i<ts.length)(h1:qFj ts s i= .inr j):j=i+1∧j<ts.length∧isC ts 4 s i=true:=by
 unfold qFj at h1
 split at h1
 ·rename_i h2
  obtain rfl:=Sum.inr.inj h1
  exact⟨rfl,qFk h hi (by decide) h2,h2⟩
 ·cases h1
theorem qSn(h:OkT ts){s:ByteArray}{i j:Nat}(hi:i<ts.length)(h1:qXc ts s i= .inr j):j=i+1∧j<ts.length∧isC ts 1 s i=true:=by
 unfold qXc at h1
 split at h1
 ·rename_i h2
  obtain rfl:=Sum.inr.inj h1
  exact⟨rfl,qFk h hi (by decide) h2,h2⟩
 ·cases h1
theorem qQb(h:OkT ts){k:Int}(hk:k≠5){i:Nat}{a:Nat×Tok}(hi:i<ts.length)(h1:qOv ts k i= .inr a):a=(i+1,tkAt ts i)∧i+1<ts.length∧(tkAt ts i).1=k:=by
 unfold qOv at h1
 split at h1
 ·rename_i h2
  obtain rfl:=Sum.inr.inj h1
  exact⟨rfl,h.next hi (by rw[h2];exact hk),h2⟩
 ·cases h1
theorem qLy(h:OkT ts){i:Nat}{a:Nat×Tok}(hi:i<ts.length)(h1:qOu ts i= .inr a):a=(i+1,tkAt ts i)∧i+1<ts.length∧(tkAt ts i).1=1∧resC (tkAt ts i).2.1=false:=by
 obtain⟨b,hb,h2⟩:=qBx h1
 obtain⟨rfl,g1,g2⟩:=qQb h (by decide) hi hb
 split at h2
 ·cases h2
 ·rename_i g3
  obtain rfl:=Sum.inr.inj h2
  exact⟨rfl,g1,g2,by simpa using g3⟩
theorem qNk(h:OkT ts){i:Nat}{a:Nat×Tok}(hi:i<ts.length)(h1:qQq ts i= .inr a):a=(i+1,tkAt ts i)∧i+1<ts.length∧(tkAt ts i).1=3∧qNn (tkAt ts i).2.1.data.toList=true:=by
 obtain⟨b,hb,h2⟩:=qBx h1
 obtain⟨rfl,g1,g2⟩:=qQb h (by decide) hi hb
 split at h2
 ·rename_i g3
  obtain rfl:=Sum.inr.inj h2
  exact⟨rfl,g1,g2,g3⟩
 ·cases h2
theorem zIa(h:OkT ts){i:Nat}{a:Nat×Tok}(hi:i<ts.length)(h1:qYj ts i= .inr a):a=(i+1,tkAt ts i)∧i+1<ts.length∧(tkAt ts i).1=3∧zEr (tkAt ts i).2.1=true:=by
 obtain⟨b,hb,h2⟩:=qBx h1
 obtain⟨rfl,g1,g2⟩:=qQb h (by decide) hi hb
 split at h2
 ·rename_i g3
  obtain rfl:=Sum.inr.inj h2
  exact⟨rfl,g1,g2,g3⟩
 ·cases h2
theorem zKf{t:Tok}{x:Ex}{p q:Ps}{i:Nat}(h:qMh t x p= .inr (q,i)):q=(p.1,p.2++[x])∧i=p.2.length∧p.2.length≠256:=by
 unfold qMh at h
 split at h
 ·cases h
 ·rename_i h1
  obtain⟨rfl,rfl⟩:=Prod.mk.inj (Sum.inr.inj h)
  exact⟨rfl,rfl,h1⟩
def Fwd(ts:List Tok)(p q:Ps):Prop:=p.1<q.1∧q.1<ts.length∧p.2.length≤q.2.length∧q.2.length≤256
def Adv(ts:List Tok)(S:Ps→PM Nat):Prop:=∀(p q:Ps) (x:Nat),p.1<ts.length→p.2.length≤256→S p= .inr (q,x)→Fwd ts p q∧x<q.2.length
theorem qQf{t:Tok}{x:Ex}{p r q:Ps}{i:Nat}(hp:p.1<r.1)(hr:r.1<ts.length)(hl:p.2.length≤r.2.length)(h256:r.2.length≤256)(h:qMh t x r= .inr (q,i)):Fwd ts p q∧i<q.2.length:=by
 obtain⟨rfl,rfl,g⟩:=zKf h
 refine⟨⟨hp,hr,?_,?_⟩,?_⟩<;>simp only[jI,jC,jG]<;>omega
theorem zAl(h:OkT ts)(hE:Adv ts E):∀(n:Nat) (l:List Int) (p q:Ps) (x:List Int),p.1<ts.length→p.2.length≤256→zBu ts E n l p= .inr (q,x)→Fwd ts p q
 |0,_,_,_,_,_,_,h1=>by cases h1
 |n+1,l,p,q,x,hp,hb,h1=>by
  obtain⟨a,ha,h2⟩:=qBx (show qCj (E p) _=_ from h1)
  obtain⟨⟨f1,f2,f3,f4⟩,f5⟩:=hE p a.1 a.2 hp hb ha
  split at h2
  ·rename_i hc
   have g:=qFk h f2 (by decide) hc
   obtain⟨k1,k2,k3,k4⟩:=zAl h hE n _ (a.1.1+1,a.1.2) q x g f4 h2
   exact⟨by simp only at k1;omega,k2,by simp only at k3;omega,k4⟩
  ·obtain⟨j,hj,h3⟩:=qBx h2
   obtain⟨rfl,g1,-⟩:=qEv h f2 hj
   obtain⟨rfl,-⟩:=Prod.mk.inj (Sum.inr.inj h3)
   exact⟨by simp only;omega,g1,f3,f4⟩
theorem qVh(h:OkT ts)(hE:Adv ts E){p q:Ps}{x:List Int}(hp:p.1<ts.length)(hb:p.2.length≤256)(h1:qMn ts E p= .inr (q,x)):Fwd ts p q:=by
 obtain⟨i,hi,h2⟩:=qBx h1
 obtain⟨rfl,g1,-⟩:=qEv h hp hi
 split at h2
 ·rename_i hc
  obtain⟨rfl,-⟩:=Prod.mk.inj (Sum.inr.inj h2)
  exact⟨by simp only;omega,qFk h g1 (by decide) hc,jP _,hb⟩
 ·obtain⟨k1,k2,k3,k4⟩:=zAl h hE _ _ (p.1+1,p.2) q x g1 hb h2
  exact⟨by simp only at k1;omega,k2,k3,k4⟩
theorem zGv(h:OkT ts)(hE:Adv ts E){t:Tok}{p q:Ps}{x:Nat}(hp:p.1<ts.length)(hb:p.2.length≤256)(h1:qMp ts E t p= .inr (q,x)):Fwd ts p q∧x<q.2.length:=by
 obtain⟨i,hi,h2⟩:=qBx h1
 obtain⟨rfl,g1,-⟩:=qEv h hp hi
 obtain⟨a,ha,h3⟩:=qBx h2
 obtain⟨j,hj,h4⟩:=qBx h3
 have key:Fwd ts (p.1+1,p.2) a.1:=by
  split at ha
  ·obtain⟨b,hb1,hb2⟩:=qBx ha
   obtain⟨rfl,k1,-⟩:=qNk h g1 hb1
   obtain⟨c,hc1,hc2⟩:=qBx hb2
   obtain⟨rfl,k2,-⟩:=qEv h k1 hc1
   obtain⟨d,hd1,hd2⟩:=qBx hc2
   obtain⟨⟨f1,f2,f3,f4⟩,-⟩:=hE (p.1+1+1+1,p.2) d.1 d.2 k2 hb hd1
   obtain rfl:=Sum.inr.inj hd2
   exact⟨by simp only at f1 ⊢;omega,f2,f3,f4⟩
  ·split at ha
   ·obtain⟨b,hb1,hb2⟩:=qBx ha
    obtain⟨rfl,k1,-⟩:=qNk h g1 hb1
    obtain rfl:=Sum.inr.inj hb2
    exact⟨by simp only;omega,k1,jP _,hb⟩
   ·split at ha
    ·obtain⟨b,hb1,hb2⟩:=qBx ha
     obtain⟨rfl,k1,-⟩:=qNk h g1 hb1
     obtain rfl:=Sum.inr.inj hb2
     exact⟨by simp only;omega,k1,jP _,hb⟩
    ·split at ha
     ·obtain⟨b,hb1,hb2⟩:=qBx ha
      obtain⟨rfl,k1,-⟩:=zIa h g1 hb1
      obtain rfl:=Sum.inr.inj hb2
      exact⟨by simp only;omega,k1,jP _,hb⟩
     ·obtain⟨b,hb1,hb2⟩:=qBx ha
      obtain⟨rfl,k1,-⟩:=qQb h (by decide) g1 hb1
      split at hb2
      ·cases hb2
      ·obtain rfl:=Sum.inr.inj hb2
       exact⟨by simp only;omega,k1,jP _,hb⟩
 obtain⟨f1,f2,f3,f4⟩:=key
 obtain⟨rfl,g2,-⟩:=qEv h f2 hj
 exact qQf (r:=(a.1.1+1,a.1.2)) (by simp only at f1 ⊢;omega) g2 f3 f4 h4
theorem qVr(h:OkT ts)(hE:Adv ts E):Adv ts (qPt ts params E):=by
 intro p q x hp hb h1
 unfold qPt at h1
 dsimp only at h1
 split at h1
 ·rename_i hk
  exact qQf (r:=(p.1+1,p.2)) (by simp only;omega) (h.next hp (by rw[hk];decide)) (jP _) hb h1
 split at h1
 ·rename_i hc
  have g:=qFk h hp (by decide) hc
  obtain⟨a,ha,h2⟩:=qBx h1
  obtain⟨rfl,g1,-⟩:=qQb h (by decide) g ha
  exact qQf (r:=(p.1+1+1,p.2)) (by simp only;omega) g1 (jP _) hb h2
 split at h1
 ·rename_i hc
  have g:=qFk h hp (by decide) hc
  obtain⟨a,ha,h2⟩:=qBx h1
  obtain⟨⟨f1,f2,f3,f4⟩,f5⟩:=hE (p.1+1,p.2) a.1 a.2 g hb ha
  obtain⟨j,hj,h3⟩:=qBx h2
  obtain⟨rfl,g1,-⟩:=qEv h f2 hj
  obtain⟨rfl,rfl⟩:=Prod.mk.inj (Sum.inr.inj h3)
  exact⟨⟨by simp only at f1 ⊢;omega,g1,f3,f4⟩,f5⟩
 split at h1
 ·cases h1
 rename_i hk
 have g:=h.next hp (show(tkAt ts p.1).1≠5 by simp only[ne_eq,Decidable.not_not] at hk;rw[hk];decide)
 split at h1
 ·obtain⟨⟨f1,f2,f3,f4⟩,f5⟩:=zGv h hE (p:=(p.1+1,p.2)) g hb h1
  exact⟨⟨by simp only at f1;omega,f2,f3,f4⟩,f5⟩
 split at h1
 ·cases h1
 split at h1
 ·obtain⟨a,ha,h2⟩:=qBx h1
  obtain⟨f1,f2,f3,f4⟩:=qVh h hE (p:=(p.1+1,p.2)) g hb ha
  exact qQf (by simp only at f1;omega) f2 f3 f4 h2
 split at h1
 ·exact qQf (r:=(p.1+1,p.2)) (by simp only;omega) g (jP _) hb h1
 ·cases h1
theorem zIc(h:OkT ts){level:Nat}(hS:Adv ts S):∀(n x:Nat) (p q:Ps) (y:Nat),p.1<ts.length→p.2.length≤256→x<p.2.length→qTh ts level S n x p= .inr (q,y)→p.1≤q.1∧q.1<ts.length∧p.2.length≤q.2.length∧q.2.length≤256∧y<q.2.length
 |0,_,_,_,_,_,_,_,h1=>by cases h1
 |n+1,x,p,q,y,hp,hb,hx,h1=>by
  unfold qTh at h1
  split at h1
  ·obtain⟨rfl,rfl⟩:=Prod.mk.inj (Sum.inr.inj h1)
   exact⟨jP _,hp,jP _,hb,hx⟩
  ·rename_i hop
   have hk:(tkAt ts p.1).1≠5:=by
    intro hk
    apply hop
    unfold opC
    have:opsC.find? (isOp ts level p.1)=none:=by
     rw[List.find?_eq_none]
     intro o _ ho
     simp only[isOp,jX] at ho
     have:=qZe ho.1
     omega
    rw[this]
   have g:=h.next hp hk
   obtain⟨a,ha,h2⟩:=qBx h1
   obtain⟨⟨f1,f2,f3,f4⟩,f5⟩:=hS (p.1+1,p.2) a.1 a.2 g hb ha
   obtain⟨r,hr,h3⟩:=qBx h2
   obtain⟨⟨k1,k2,k3,k4⟩,k5⟩:=qQf (ts:=ts) (p:=p) (by simp only at f1;omega) f2 f3 f4 hr
   split at h3
   ·obtain⟨rfl,rfl⟩:=Prod.mk.inj (Sum.inr.inj h3)
    exact⟨by omega,k2,k3,k4,k5⟩
   ·obtain⟨j1,j2,j3,j4,j5⟩:=zIc h hS n _ _ q y k2 k4 k5 h3
    exact⟨by omega,j2,by omega,j4,j5⟩
theorem qOy(h:OkT ts){level:Nat}(hS:Adv ts S):Adv ts (qTa ts level S):=by
 intro p q x hp hb h1
 obtain⟨a,ha,h2⟩:=qBx h1
 obtain⟨⟨f1,f2,f3,f4⟩,f5⟩:=hS p a.1 a.2 hp hb ha
 obtain⟨j1,j2,j3,j4,j5⟩:=zIc h hS _ _ _ q x f2 f4 f5 h2
 exact⟨⟨by omega,j2,by omega,j4⟩,j5⟩
theorem qNe(h:OkT ts):∀k,Adv ts (qHq ts params k)
 |0=>fun _ _ _ _ _ h1=>by cases h1
 |k+1=>by
  intro p q x hp hb h1
  unfold qHq at h1
  split at h1
  ·rename_i hc
   have g:=qFk h hp (by decide) hc
   obtain⟨a,ha,h2⟩:=qBx h1
   obtain⟨⟨a1,a2,a3,a4⟩,-⟩:=qNe h k (p.1+1,p.2) a.1 a.2 g hb ha
   obtain⟨i,hi,h3⟩:=qBx h2
   obtain⟨rfl,g1,-⟩:=qSn h a2 hi
   obtain⟨b,hb1,h4⟩:=qBx h3
   obtain⟨⟨b1,b2,b3,b4⟩,-⟩:=qNe h k (a.1.1+1,a.1.2) b.1 b.2 g1 a4 hb1
   obtain⟨j,hj,h5⟩:=qBx h4
   obtain⟨rfl,g2,-⟩:=qSn h b2 hj
   obtain⟨c,hc1,h6⟩:=qBx h5
   obtain⟨⟨c1,c2,c3,c4⟩,-⟩:=qNe h k (b.1.1+1,b.1.2) c.1 c.2 g2 b4 hc1
   simp only at a1 a3 b1 b3 c1 c3
   exact qQf (by omega) c2 (by omega) c4 h6
  ·exact qOy h (qOy h (qOy h (qVr h (qNe h k)))) p q x hp hb h1
end
end
section
open Go Go.Dc
theorem zSi{ts:List Tok}{i:Nat}(hi:i<ts.length):idx ts (i:Int)=some (tkAt ts i):=by
 rw[qDu hi]
 simp[tkAt,kK,hi]
theorem qMa{i:Nat}(h:i<1000000):IntKind.wrap .i64 ((i:Int)+1)=((i+1:Nat):Int):=by rw[wi64 (by omega) (by omega)];omega
section
variable {N:Nat} {ts:List Tok} {pr:List ByteArray} {b:List Ex} {i:Nat}
theorem qNi(hi:i<ts.length):qDa N (ts,(i:Int),pr,b)=some ((ts,(i:Int),pr,b),tkAt ts i):=by
 simp only[qDa,zSi hi,j0]
theorem zLz(hi:i<ts.length)(k:Int)(s:ByteArray):qFu N (ts,(i:Int),pr,b) k s=some ((ts,(i:Int),pr,b),isC ts k s i):=by
 simp only[qFu,qNi hi,j0,qEj,isC]
 cases h:(tkAt ts i).1==k<;>simp[h]
theorem zIl(hi:i<ts.length)(hl:ts.length<1000000)(s:ByteArray):qIc N (ts,(i:Int),pr,b) s=some (Sum.map id (fun j:Nat=>(ts,(j:Int),pr,b)) (qXc ts s i)):=by
 simp only[qIc,zLz hi,qNi hi,j0,qCs,qXc]
 cases h:isC ts 1 s i
 ·simp[qHp]
 ·simp[qMa (show i<1000000 by omega)]
theorem qPo(hi:i<ts.length)(hl:ts.length<1000000)(s:ByteArray):qCl N (ts,(i:Int),pr,b) s=some (Sum.map id (fun j:Nat=>(ts,(j:Int),pr,b)) (qFj ts s i)):=by
 simp only[qCl,zLz hi,qNi hi,j0,qCs,qFj]
 cases h:isC ts 4 s i
 ·simp[qHp]
 ·simp[qMa (show i<1000000 by omega)]
theorem qSf(hi:i<ts.length)(hl:ts.length<1000000)(s:ByteArray):qDy N (ts,(i:Int),pr,b) s=some (if isC ts 4 s i then((ts,((i+1:Nat):Int),pr,b),true) else((ts,(i:Int),pr,b),false)):=by
 simp only[qDy,zLz hi,j0]
 cases h:isC ts 4 s i
 ·simp
 ·simp[qMa (show i<1000000 by omega)]
theorem zAz(hi:i<ts.length)(hl:ts.length<1000000){k:Int}(hk:k≠5):qFh N (ts,(i:Int),pr,b) k=some (Sum.map id (fun a:Nat×Tok=>((ts,(a.1:Int),pr,b),a.2)) (qOv ts k i)):=by
 simp only[qFh,qNi hi,j0,qCs,qOv]
 have h5:(k !=5)=true:=by simpa using hk
 by_cases h:(tkAt ts i).1=k
 ·have h1:((tkAt ts i).1 !=k)=false:=by simp[h]
  simp only[h1,h5,jB,jE,jH,j0,if_pos h,qMa (show i<1000000 by omega),k8]
 ·have h1:((tkAt ts i).1 !=k)=true:=by simp[h]
  simp only[h1,jH,j0,if_neg h,qHp,Sum.map_inl,id]
theorem orS(a b:Bool):(if a=true then some a else some b)=some (a||b):=by
 cases a<;>simp
theorem someB(b:Bool):(if b=true then some true else some false)=some b:=by cases b<;>simp
theorem zBc(s:ByteArray):qKv N s=some (resC s):=by
 simp only[qKv,qEj,resC,wordsR,qWg,qVx,zPv,zQg,sGen,sIf,zNw,zPi,qTy,qUo,sHas,sEnv,qVq,jL,kV,d7]
 simp only[orS,j0,someB,jJ]
 simp only[Bool.decide_or]
theorem zEs(hi:i<ts.length)(hl:ts.length<1000000):qFf N (ts,(i:Int),pr,b)=some (Sum.map id (fun a:Nat×Tok=>((ts,(a.1:Int),pr,b),a.2)) (qOu ts i)):=by
 simp only[qFf,zAz hi hl (show(1:Int)≠5 by decide),j0,qCs,qOu]
 cases h:qOv ts 1 i with
 |inl z=>simp[qCj]
 |inr a=>
  simp only[k8,zBc,j0,qCj]
  cases h2:resC a.2.2.1<;>simp[qHp]
theorem zFa(hi:i<ts.length)(hl:ts.length<1000000)(hN:300000<N)(ht:∀j,(tkAt ts j).2.1.size<100000):qFg N (ts,(i:Int),pr,b)=some (Sum.map id (fun a:Nat×Tok=>((ts,(a.1:Int),pr,b),a.2)) (qQq ts i)):=by
 simp only[qFg,zAz hi hl (show(3:Int)≠5 by decide),j0,qCs,qQq]
 cases h:qOv ts 3 i with
 |inl z=>simp[qCj]
 |inr a=>
  have h3:a.2=tkAt ts i:=by
   unfold qOv at h
   split at h
   ·rw[←Sum.inr.inj h]
   ·cases h
  have hs:=ht i
  rw[←h3] at hs
  simp only[k8,zQb (N:=N) (s:=a.2.2.1) (by omega) (by omega),j0,qCj]
  cases h2:qNn a.2.2.1.data.toList<;>simp[qHp]
theorem qVm(t:Tok)(x:Ex)(hb:b.length≤256)(n:Nat):qDs N (ts,(n:Int),pr,b) t x=some (Sum.map id (fun q:Ps×Nat=>((ts,(q.1.1:Int),pr,q.1.2),(q.2:Int))) (qMh t x (n,b))):=by
 simp only[qDs,qCs,j0,qMh]
 by_cases h:b.length=256
 ·simp[h,qHp]
 ·have h1:((b.length:Int)==256)=false:=by simp;omega
  have hw:IntKind.wrap .i64 (((b.length+1:Nat):Int)-1)=(b.length:Int):=by rw[wi64 (by omega) (by omega)];omega
  simp only[h1,jB,jE,j0,if_neg h,k8]
  rw[qCv (by simp only[jC,jG];omega) (by omega)]
  simp only[j0,jI,jC,jG,kN,hw]
end
end
section
open Go Go.Dc
theorem zCo{N:Nat}{s:ByteArray}{l:List ByteArray}(hl:l.length<1000000):∀(d i M:Nat),i+d=l.length→d<M→
  qAw (qEe N l s) M (i:Int)=some (match(l.drop i).findIdx? (fun x=>decide (x=s)) with|some j=> .inr (((i+j:Nat):Int))|none=> .inl ())
 |d,i,0,_,h=>by omega
 |0,i,M+1,h,_=>by
  have:l.drop i=[]:=jV (by omega)
  simp only[qAw,qEe,this,List.findIdx?_nil]
  rw[if_neg (by simp only[jA];omega)]
  rfl
 |d+1,i,M+1,h,hM=>by
  have hi:i<l.length:=by omega
  have ih:=zCo (N:=N) (s:=s) hl d (i+1) M (by omega) (by omega)
  simp only[qAw,qEe]
  rw[if_pos (by simp only[jA];omega),qDu hi,jM hi,List.findIdx?_cons]
  simp only[j0,qEj,jA]
  by_cases hs:l[i]=s
  ·rw[if_pos hs.symm,if_pos hs];simp
  ·rw[if_neg (fun e=>hs e.symm),if_neg hs]
   simp only[j0,qMa (show i<1000000 by omega),ih]
   cases(l.drop (i+1)).findIdx? (fun x=>decide (x=s)) with
   |none=>rfl
   |some j=>simp only[kE];congr 2;omega
theorem zKs{N:Nat}{s:ByteArray}{l:List ByteArray}(hl:l.length<1000000)(hN:l.length<N):
  qEo N l s=some (match l.findIdx? (fun x=>decide (x=s)) with|some j=>(j:Int)|none=> -1):=by
 have h:=zCo (N:=N) (s:=s) hl l.length 0 N (by omega) hN
 simp only[jZ,kN] at h
 simp only[qEo]
 rw[show(0:Int)=((0:Nat):Int) from rfl,h]
 simp only[j0]
 cases l.findIdx? (fun x=>decide (x=s))<;>rfl
theorem zJq{s:ByteArray}{l:List ByteArray}:(l.findIdx? (fun x=>decide (x=s))).isSome=decide (s∈l):=by
 rw[List.findIdx?_isSome]
 rw[jY]
 simp only[fG,jA]
 exact⟨fun⟨x,h1,h2⟩=>h2▸h1,fun h=>⟨s,h,rfl⟩⟩
theorem qZu{N:Nat}{s:ByteArray}{l:List ByteArray}(hl:l.length<1000000)(hN:l.length<N):
  qEd N l s=some (decide (s∈l)):=by
 simp only[qEd,zKs hl hN,j0,←zJq]
 cases l.findIdx? (fun x=>decide (x=s)) with
 |none=>rfl
 |some j=>simp only[fW];rw[jO (show(j:Int)≥0 by omega)]
theorem zPu{α:Type}{g:α→Bool}{l k:List α}(hu:∀a∈l,∀b∈l,g a=true→g b=true→a=b)(hp:k.Perm l):k.find? g=l.find? g:=by
 cases h:l.find? g with
 |none=>
  rw[List.find?_eq_none] at h ⊢
  exact fun x hx=>h x (hp.mem_iff.1 hx)
 |some a=>
  have ha:=gU h
  have hg:=List.find?_some h
  cases h2:k.find? g with
  |none=>exact absurd hg (by simpa using List.find?_eq_none.1 h2 a (hp.mem_iff.2 ha))
  |some b=>rw[hu b (hp.mem_iff.1 (gU h2)) a ha (List.find?_some h2) hg]
theorem zQs:∀a∈opsC,∀b∈opsC,a.2=b.2→a=b:=by
 have h:(opsC.all fun a=>opsC.all fun b=> !(decide (a.2=b.2))||decide (a=b))=true:=by kernel_rfl
 intro a ha b hb e
 have:=k7.1 (k7.1 h a ha) b hb
 simpa[e] using this
section
variable {N:Nat} {ts:List Tok} {pr:List ByteArray} {b:List Ex} {i:Nat}
theorem zQq(op:Int):qNd N op=some ((levP op:Nat):Int):=by
 by_cases h1:op=6
 ·subst h1;rfl
 by_cases h2:op=7
 ·subst h2;rfl
 by_cases h3:op=1
 ·subst h3;rfl
 by_cases h4:op=2
 ·subst h4;rfl
 simp[qNd,levP,h1,h2,h3,h4]
theorem zPp(level:Nat){t:Tok}(ht:t=tkAt ts i):∀k:List (Int×ByteArray),qNu (qDp N (level:Int) ((ts,(i:Int),pr,b),t)) k ()=
  some (match k.find? (isOp ts level i) with|some o=> .inr ((ts,(i:Int),pr,b),o.1)|none=> .inl ())
 |[]=>rfl
 |o::k=>by
  have key:qDp N (level:Int) ((ts,(i:Int),pr,b),t) (some o) ()=some (if isOp ts level i o then .inr (.inr ((ts,(i:Int),pr,b),o.1)) else .inl ()):=by
   subst ht
   simp only[qDp,zQq,j0,qEj,isOp,isC]
   have hc:(((levP o.1:Nat):Int)==(level:Int))=decide (levP o.1=level):=by
    rw[jY];simp only[k9,jA];omega
   rw[hc]
   by_cases h1:(tkAt ts i).1=4<;>by_cases h2:(tkAt ts i).2.1=o.2<;>by_cases h3:levP o.1=level<;>simp[h1,h2,h3]
  simp only[qNu,key,j0,List.find?_cons]
  cases h:isOp ts level i o with
  |true=>rfl
  |false=>exact zPp level ht k
theorem zQy:qRl N=some (some opsC):=by kernel_rfl
theorem zKa(hi:i<ts.length)(level:Nat):qIl N (ts,(i:Int),pr,b) (level:Int)=some ((ts,(i:Int),pr,b),opC ts level i):=by
 simp only[qIl,qNi hi,zQy,j0,isQ,kE,gO]
 have hu:∀a∈opsC,∀b∈opsC,isOp ts level i a=true→isOp ts level i b=true→a=b:=by
  intro a ha b hb h1 h2
  simp only[isOp,isC,jX,jA] at h1 h2
  exact zQs a ha b hb (h1.1.2.symm.trans h2.1.2)
 have key:=zFv (f:=qDp N (level:Int) ((ts,(i:Int),pr,b),tkAt ts i)) (l:=opsC) (s:=()) fun k hk=>by
  rw[zPp level rfl k,zPu hu hk]
 rw[key]
 unfold opC
 cases opsC.find? (isOp ts level i)<;>rfl
end
end
section
open Go Go.Dc
abbrev StT:=List Tok×Int×List ByteArray×List Ex
def stP(ts:List Tok)(pr:List ByteArray)(p:Ps):StT:=(ts,(p.1:Int),pr,p.2)
def outP(ts:List Tok)(pr:List ByteArray):PM Nat→Flt⊕(StT×Int):=Sum.map id fun q=>(stP ts pr q.1,(q.2:Int))
def outL(ts:List Tok)(pr:List ByteArray):PM (List Int)→Flt⊕(StT×List Int):=Sum.map id fun q=>(stP ts pr q.1,q.2)
section
variable {N:Nat} {ts:List Tok} {pr:List ByteArray} {E S:Ps→PM Nat} {d:Int}
variable {r1:StT→Tok→Int→Option (Flt⊕(StT×Int))} {r2:StT→Int→Option (Flt⊕(StT×List Int))} {r3:StT→Int→Option (Flt⊕(StT×Int))} {r4:StT→Int→Int→Option (Flt⊕(StT×Int))} {r5:StT→Int→Option (Flt⊕(StT×Int))}
theorem zFq(hok:OkT ts)(hl:ts.length<1000000)(hA:Adv ts E)(hE:∀p:Ps,p.1<ts.length→p.2.length≤256→r5 (stP ts pr p) (IntKind.wrap .i64 (d+1))=some (outP ts pr (E p))):
  ∀(n M:Nat) (l:List Int) (p:Ps),p.1<ts.length→p.2.length≤256→l.length≤p.1→ts.length<p.1+n→ts.length<p.1+M→
  ((qAw (qGe N r5 d) M (l,ts,(p.1:Int),pr,p.2)).bind fun out1=>(match out1 with| .inl o1=>(qCl N (o1.2.1,o1.2.2.1,o1.2.2.2.1,o1.2.2.2.2) (⟨#[41]⟩:ByteArray)).bind fun y7=>(match y7 with| .inl z3=>some (.inl z3)| .inr y8=>some (.inr ((y8.1,y8.2.1,y8.2.2.1,y8.2.2.2),o1.1)))| .inr (z)=>some z))=some (outL ts pr (zBu ts E n l p))
 |0,M,l,p,hp,_,_,h,_=>by omega
 |n+1,0,l,p,hp,_,_,_,h=>by omega
 |n+1,M+1,l,p,hp,hb,hll,hn,hM=>by
  have hEp:=hE p hp hb
  simp only[stP] at hEp
  simp only[qAw,qGe,zBu,hEp,j0]
  cases hq:E p with
  |inl z=>simp only[outP,Sum.map_inl,id,qCj,outL,j0]
  |inr q=>
   obtain⟨⟨f1,f2,f3,f4⟩,f5⟩:=hA p q.1 q.2 hp hb hq
   simp only[outP,k8,qCj,stP]
   rw[qCv (by simp only[jC,jG];omega) (by omega)]
   simp only[j0,qSf f2 hl,qPy]
   rcases qDj (isC ts 4 ⟨#[44]⟩ q.1.1) with hc|hc
   ·have g:=qFk hok f2 (by decide) hc
    have ih:=zFq hok hl hA hE n M (l++[(q.2:Int)]) (q.1.1+1,q.1.2) g f4 (by simp only[jI,jC,jG];omega) (by simp only;omega) (by simp only;omega)
    simp only[hc,jH,jR,jB,jE,j0]
    exact ih
   ·simp only[hc,jB,jE,kC,jH,j0,qPo f2 hl,qJk]
    cases qFj ts ⟨#[41]⟩ q.1.1 with
    |inl z=>rfl
    |inr j=>rfl
theorem zJp(hok:OkT ts)(hl:ts.length<1000000)(hN:ts.length<N)(hA:Adv ts E)(hE:∀p:Ps,p.1<ts.length→p.2.length≤256→r5 (stP ts pr p) (IntKind.wrap .i64 (d+1))=some (outP ts pr (E p)))
  (p:Ps) (hp:p.1<ts.length) (hb:p.2.length≤256):qHa N r1 r2 r3 r4 r5 (stP ts pr p) d=some (outL ts pr (qMn ts E p)):=by
 simp only[qHa,stP,qPo hp hl,j0,qMn,qSg]
 cases h:qFj ts ⟨#[40]⟩ p.1 with
 |inl z=>rfl
 |inr i=>
  obtain⟨rfl,g,-⟩:=qEv hok hp h
  simp only[k8,qCj,qSf g hl,j0,qJk]
  rcases qDj (isC ts 4 ⟨#[41]⟩ (p.1+1)) with hc|hc
  ·simp only[hc,jH];rfl
  ·simp only[hc,jB,jE]
   exact zFq hok hl hA hE (ts.length+1) N [] (p.1+1,p.2) g hb (by simp) (by simp only;omega) (by simp only;omega)
theorem zOg(hok:OkT ts)(hl:ts.length<1000000)(hN:300000<N)(ht:∀j,(tkAt ts j).2.1.size<100000)(hA:Adv ts E)(hE:∀p:Ps,p.1<ts.length→p.2.length≤256→r5 (stP ts pr p) (IntKind.wrap .i64 (d+1))=some (outP ts pr (E p)))
  (t:Tok) (p:Ps) (hp:p.1<ts.length) (hb:p.2.length≤256):qHw N r1 r2 r3 r4 r5 (stP ts pr p) t d=some (outP ts pr (qMp ts E t p)):=by
 have fin:∀(o1:Int×Int×ByteArray×List Int×StT) (q:Ps) (x:Ex),o1.2.2.2.2=stP ts pr q→x=(o1.1,o1.2.1,0,o1.2.2.1,o1.2.2.2.1)→q.1<ts.length→q.2.length≤256→
   ((qCl N (o1.2.2.2.2.1,o1.2.2.2.2.2.1,o1.2.2.2.2.2.2.1,o1.2.2.2.2.2.2.2) (⟨#[41]⟩:ByteArray)).bind fun y22=>(match y22 with| .inl z11=>some (.inl z11)| .inr y23=>(qDs N (y23.1,y23.2.1,y23.2.2.1,y23.2.2.2) (t.1,t.2.1,t.2.2.1,t.2.2.2) (o1.1,o1.2.1,0,o1.2.2.1,o1.2.2.2.1)).bind fun y24=>(match y24 with| .inl z12=>some (.inl z12)| .inr y25=>some (.inr ((y25.1.1,y25.1.2.1,y25.1.2.2.1,y25.1.2.2.2),y25.2)))))=
   some (outP ts pr (qCj (qFj ts qJk q.1) fun i=>qMh t x (i,q.2))):=by
  intro o1 q x ho hx hq hqb
  subst hx
  rw[ho]
  simp only[stP,qPo hq hl,j0,qJk]
  cases hj:qFj ts ⟨#[41]⟩ q.1 with
  |inl z=>rfl
  |inr j=>
   simp only[k8,qCj,qVm _ _ hqb,j0]
   cases qMh t (o1.1,o1.2.1,0,o1.2.2.1,o1.2.2.2.1) (j,q.2)<;>rfl
 simp only[qHw,stP,qPo hp hl,j0,qMp,qSg]
 cases h:qFj ts ⟨#[40]⟩ p.1 with
 |inl z=>rfl
 |inr i=>
  obtain⟨rfl,g,-⟩:=qEv hok hp h
  simp only[k8,qCj,qEj,jA]
  by_cases k1:t.2.1=qTy
  ·rw[if_pos (show t.2.1=(⟨#[114,101,97,100]⟩:ByteArray) from k1),if_pos k1]
   simp only[zFa g hl hN ht,j0]
   cases h1:qQq ts (p.1+1) with
   |inl z=>rfl
   |inr a=>
    obtain⟨rfl,g1,-⟩:=qNk hok g h1
    simp only[k8,qPo g1 hl,j0,qPy]
    cases h2:qFj ts ⟨#[44]⟩ (p.1+1+1) with
    |inl z=>rfl
    |inr j=>
     obtain⟨rfl,g2,-⟩:=qEv hok g1 h2
     have hEp:=hE (p.1+1+1+1,p.2) g2 hb
     simp only[stP] at hEp
     simp only[k8,hEp,j0]
     cases h3:E (p.1+1+1+1,p.2) with
     |inl z=>rfl
     |inr q=>
      obtain⟨⟨f1,f2,f3,f4⟩,f5⟩:=hA (p.1+1+1+1,p.2) q.1 q.2 g2 hb h3
      exact fin (6,0,(tkAt ts (p.1+1)).2.1,[(q.2:Int)],ts,(q.1.1:Int),pr,q.1.2) q.1 _ rfl rfl f2 f4
  rw[if_neg (show ¬t.2.1=(⟨#[114,101,97,100]⟩:ByteArray) from k1),if_neg k1]
  by_cases k2:t.2.1=qUo
  ·rw[if_pos (show t.2.1=(⟨#[115,105,122,101]⟩:ByteArray) from k2),if_pos k2]
   simp only[zFa g hl hN ht,j0]
   cases h1:qQq ts (p.1+1) with
   |inl z=>rfl
   |inr a=>
    obtain⟨rfl,g1,-⟩:=qNk hok g h1
    exact fin (7,0,(tkAt ts (p.1+1)).2.1,[],ts,((p.1+1+1:Nat):Int),pr,p.2) (p.1+1+1,p.2) _ rfl rfl g1 hb
  rw[if_neg (show ¬t.2.1=(⟨#[115,105,122,101]⟩:ByteArray) from k2),if_neg k2]
  by_cases k3:t.2.1=sHas
  ·rw[if_pos (show t.2.1=(⟨#[104,97,115]⟩:ByteArray) from k3),if_pos k3]
   simp only[zFa g hl hN ht,j0]
   cases h1:qQq ts (p.1+1) with
   |inl z=>rfl
   |inr a=>
    obtain⟨rfl,g1,-⟩:=qNk hok g h1
    exact fin (8,0,(tkAt ts (p.1+1)).2.1,[],ts,((p.1+1+1:Nat):Int),pr,p.2) (p.1+1+1,p.2) _ rfl rfl g1 hb
  rw[if_neg (show ¬t.2.1=(⟨#[104,97,115]⟩:ByteArray) from k3),if_neg k3]
  by_cases k4:t.2.1=sEnv
  ·rw[if_pos (show t.2.1=(⟨#[101,110,118]⟩:ByteArray) from k4),if_pos k4]
   simp only[zAz g hl (show(3:Int)≠5 by decide),j0,qYj]
   cases h1:qOv ts 3 (p.1+1) with
   |inl z=>rfl
   |inr a=>
    obtain⟨rfl,g1,-⟩:=qQb hok (by decide) g h1
    simp only[k8,zTh (N:=N) (by omega),j0,qCj,qCs]
    cases h2:zEr (tkAt ts (p.1+1)).2.1 with
    |false=>rfl
    |true=>exact fin (9,0,(tkAt ts (p.1+1)).2.1,[],ts,((p.1+1+1:Nat):Int),pr,p.2) (p.1+1+1,p.2) _ rfl rfl g1 hb
  ·rw[if_neg (show ¬t.2.1=(⟨#[101,110,118]⟩:ByteArray) from k4),if_neg k4]
   simp only[zAz g hl (show(2:Int)≠5 by decide),j0]
   cases h1:qOv ts 2 (p.1+1) with
   |inl z=>rfl
   |inr a=>
    obtain⟨rfl,g1,-⟩:=qQb hok (by decide) g h1
    simp only[k8,qCs,j0]
    by_cases h2:(tkAt ts (p.1+1)).2.2.1≥64
    ·simp only[if_pos h2,j0];rfl
    ·simp only[if_neg h2,j0]
     exact fin (10,(tkAt ts (p.1+1)).2.2.1,⟨#[]⟩,[],ts,((p.1+1+1:Nat):Int),pr,p.2) (p.1+1+1,p.2) _ rfl rfl g1 hb
end
end
section
open Go Go.Dc
section
variable {N:Nat} {ts:List Tok} {pr:List ByteArray} {E S:Ps→PM Nat} {d:Int}
variable {r1:StT→Tok→Int→Option (Flt⊕(StT×Int))} {r2:StT→Int→Option (Flt⊕(StT×List Int))} {r3:StT→Int→Option (Flt⊕(StT×Int))} {r4:StT→Int→Int→Option (Flt⊕(StT×Int))} {r5:StT→Int→Option (Flt⊕(StT×Int))}
theorem kw_mem(x:ByteArray):(decide (x=(⟨#[114,101,97,100]⟩:ByteArray))||(decide (x=(⟨#[115,105,122,101]⟩:ByteArray))||(decide (x=(⟨#[104,97,115]⟩:ByteArray))||(decide (x=(⟨#[101,110,118]⟩:ByteArray))||decide (x=(⟨#[102,108,105,112]⟩:ByteArray))))))=decide (x∈[qTy,qUo,sHas,sEnv,qVq]):=by
 simp only[qTy,qUo,sHas,sEnv,qVq,jL,kV,d7,Bool.decide_or]
theorem zRk(hok:OkT ts)(hl:ts.length<1000000)(hpr:pr.length<1000)(hN:300000<N)(hA:Adv ts E)(hE:∀p:Ps,p.1<ts.length→p.2.length≤256→r5 (stP ts pr p) (IntKind.wrap .i64 (d+1))=some (outP ts pr (E p)))
  (h1:∀(t:Tok) (p:Ps),p.1<ts.length→p.2.length≤256→r1 (stP ts pr p) t d=some (outP ts pr (qMp ts E t p)))
  (h2:∀p:Ps,p.1<ts.length→p.2.length≤256→r2 (stP ts pr p) d=some (outL ts pr (qMn ts E p)))
  (p:Ps) (hp:p.1<ts.length) (hb:p.2.length≤256):qIm N r1 r2 r3 r4 r5 (stP ts pr p) d=some (outP ts pr (qPt ts pr E p)):=by
 have hw:=qMa (show p.1<1000000 by omega)
 simp only[qIm,stP,qNi hp,j0,qPt]
 by_cases k1:(tkAt ts p.1).1=2
 ·rw[if_pos (show((tkAt ts p.1).1==2)=true by simpa using k1),if_pos k1,hw]
  simp only[qVm _ _ hb,j0]
  cases qMh (tkAt ts p.1) (1,(tkAt ts p.1).2.2.1,0,⟨#[]⟩,[]) (p.1+1,p.2)<;>rfl
 rw[if_neg (show ¬((tkAt ts p.1).1==2)=true by simpa using k1),if_neg k1]
 simp only[qSf hp hl,j0]
 rcases qDj (isC ts 4 zPd p.1) with c1|c1
 ·have c1':isC ts 4 ⟨#[45]⟩ p.1=true:=c1
  have g:=qFk hok hp (by decide) c1
  simp only[c1,c1',jH,zAz g hl (show(2:Int)≠5 by decide),j0]
  cases h:qOv ts 2 (p.1+1) with
  |inl z=>rfl
  |inr a=>
   simp only[k8,qCj,qVm _ _ hb,j0]
   cases qMh (tkAt ts p.1) (1,IntKind.wrap .i64 (0-a.2.2.2.1),0,⟨#[]⟩,[]) (a.1,p.2)<;>rfl
 have c1':isC ts 4 ⟨#[45]⟩ p.1=false:=c1
 simp only[c1,c1',jB,jE,qSf hp hl,j0]
 rcases qDj (isC ts 4 qSg p.1) with c2|c2
 ·have c2':isC ts 4 ⟨#[40]⟩ p.1=true:=c2
  have g:=qFk hok hp (by decide) c2
  have hEp:=hE (p.1+1,p.2) g hb
  simp only[stP] at hEp
  simp only[c2,c2',jH,hEp,j0]
  cases h:E (p.1+1,p.2) with
  |inl z=>rfl
  |inr q=>
   obtain⟨⟨f1,f2,f3,f4⟩,f5⟩:=hA (p.1+1,p.2) q.1 q.2 g hb h
   simp only[outP,k8,qCj,stP,qPo f2 hl,j0,qJk]
   cases qFj ts ⟨#[41]⟩ q.1.1<;>rfl
 have c2':isC ts 4 ⟨#[40]⟩ p.1=false:=c2
 simp only[c2,c2',jB,jE,qCs,j0]
 by_cases k2:(tkAt ts p.1).1=1
 rotate_left
 ·rw[if_pos (show((tkAt ts p.1).1 !=1)=true by simpa using k2),if_pos k2];rfl
 rw[if_neg (show ¬((tkAt ts p.1).1 !=1)=true by simpa using k2),if_neg (show ¬(tkAt ts p.1).1≠1 by simpa using k2)]
 have g:=hok.next hp (show(tkAt ts p.1).1≠5 by rw[k2];decide)
 simp only[j0,qEj,orS,kw_mem,hw]
 by_cases k3:(tkAt ts p.1).2.1∈[qTy,qUo,sHas,sEnv,qVq]
 ·rw[if_pos (show decide ((tkAt ts p.1).2.1∈[qTy,qUo,sHas,sEnv,qVq])=true from jO k3),if_pos k3]
  have h1p:=h1 (tkAt ts p.1) (p.1+1,p.2) g hb
  simp only[stP] at h1p
  simp only[h1p,j0]
  cases qMp ts E (tkAt ts p.1) (p.1+1,p.2)<;>rfl
 rw[if_neg (show ¬decide ((tkAt ts p.1).2.1∈[qTy,qUo,sHas,sEnv,qVq])=true by simpa using k3),if_neg k3]
 simp only[zBc,j0]
 rcases qDj (resC (tkAt ts p.1).2.1) with c3|c3
 ·simp only[c3,jH,j0];rfl
 simp only[c3,jB,jE,j0,zLz g]
 rcases qDj (isC ts 4 qSg (p.1+1)) with c4|c4
 ·have c4':isC ts 4 ⟨#[40]⟩ (p.1+1)=true:=c4
  have h2p:=h2 (p.1+1,p.2) g hb
  simp only[stP] at h2p
  simp only[c4,c4',jH,h2p,j0]
  cases h:qMn ts E (p.1+1,p.2) with
  |inl z=>rfl
  |inr q=>
   obtain⟨f1,f2,f3,f4⟩:=qVh hok hA (p:=(p.1+1,p.2)) g hb h
   simp only[outL,k8,qCj,stP,qVm _ _ f4,j0]
   cases qMh (tkAt ts p.1) (3,0,0,(tkAt ts p.1).2.1,q.2) (q.1.1,q.1.2)<;>rfl
 have c4':isC ts 4 ⟨#[40]⟩ (p.1+1)=false:=c4
 simp only[c4,c4',jB,jE,zKs (N:=N) (l:=pr) (s:=(tkAt ts p.1).2.1) (by omega) (by omega),j0]
 cases pr.findIdx? (fun x=>decide (x=(tkAt ts p.1).2.1)) with
 |none=>rfl
 |some j=>
  simp only[jA]
  rw[if_neg (by omega)]
  simp only[j0,qVm _ _ hb]
  cases qMh (tkAt ts p.1) (2,(j:Int),0,⟨#[]⟩,[]) (p.1+1,p.2)<;>rfl
theorem zQj(h3:∀p:Ps,p.1<ts.length→p.2.length≤256→r3 (stP ts pr p) d=some (outP ts pr (S p)))(p:Ps)(hp:p.1<ts.length)(hb:p.2.length≤256):
  qFc N r1 r2 r3 r4 r5 (stP ts pr p) 4 d=some (outP ts pr (S p)):=by
 have h3p:=h3 p hp hb
 simp only[stP] at h3p
 simp only[qFc,stP,h3p,j0]
 cases S p<;>rfl
theorem zHd(hok:OkT ts)(hl:ts.length<1000000)(hS:Adv ts S){L:Nat}(hL:L<4)(h4:∀p:Ps,p.1<ts.length→p.2.length≤256→r4 (stP ts pr p) ((L:Int)+1) d=some (outP ts pr (S p))):
  ∀(n M x:Nat) (p:Ps),p.1<ts.length→p.2.length≤256→x<p.2.length→ts.length<p.1+n→ts.length<p.1+M→
  qAw (qHt N r4 (L:Int) d) M ((x:Int),ts,(p.1:Int),pr,p.2)=some (outP ts pr (qTh ts L S n x p))
 |0,M,x,p,hp,_,_,h,_=>by omega
 |n+1,0,x,p,hp,_,_,_,h=>by omega
 |n+1,M+1,x,p,hp,hb,hx,hn,hM=>by
  have hw:=qMa (show p.1<1000000 by omega)
  have hwL:IntKind.wrap .i64 ((L:Int)+1)=(L:Int)+1:=wi64 (by omega) (by omega)
  simp only[qAw,qHt,qTh,zKa hp,j0]
  by_cases k1:opC ts L p.1=0
  ·rw[if_pos (show(opC ts L p.1==0)=true by simpa using k1),if_pos k1];rfl
  rw[if_neg (show ¬(opC ts L p.1==0)=true by simpa using k1),if_neg k1]
  have hk:(tkAt ts p.1).1≠5:=by
   intro hk
   apply k1
   unfold opC
   have:opsC.find? (isOp ts L p.1)=none:=by
    rw[List.find?_eq_none]
    intro o _ ho
    simp only[isOp,jX] at ho
    have:=qZe ho.1
    omega
   rw[this]
  have g:=hok.next hp hk
  have h4p:=h4 (p.1+1,p.2) g hb
  simp only[stP] at h4p
  simp only[qNi hp,j0,hw,hwL,h4p]
  cases h:S (p.1+1,p.2) with
  |inl z=>rfl
  |inr q=>
   obtain⟨⟨f1,f2,f3,f4⟩,f5⟩:=hS (p.1+1,p.2) q.1 q.2 g hb h
   simp only[outP,k8,qCj,stP,qVm _ _ f4,j0]
   cases hn2:qMh (tkAt ts p.1) (4,0,opC ts L p.1,⟨#[]⟩,[(x:Int),(q.2:Int)]) (q.1.1,q.1.2) with
   |inl z=>rfl
   |inr r=>
    obtain⟨⟨k1,k2,k3,k4⟩,k5⟩:=qQf (ts:=ts) (p:=p) (r:=(q.1.1,q.1.2)) (by simp only at f1 ⊢;omega) f2 f3 f4 hn2
    simp only[k8]
    by_cases k6:L=1
    ·subst k6
     rfl
    ·rw[if_neg (show ¬((L:Int)==1)=true by simp;omega),if_neg k6]
     simp only[j0]
     exact zHd hok hl hS hL h4 n M r.2 r.1 k2 k4 k5 (by omega) (by omega)
theorem zEv(hok:OkT ts)(hl:ts.length<1000000)(hN:1000001<N)(hS:Adv ts S){L:Nat}(hL:L<4)(h4:∀p:Ps,p.1<ts.length→p.2.length≤256→r4 (stP ts pr p) ((L:Int)+1) d=some (outP ts pr (S p)))
  (p:Ps) (hp:p.1<ts.length) (hb:p.2.length≤256):qFc N r1 r2 r3 r4 r5 (stP ts pr p) (L:Int) d=some (outP ts pr (qTa ts L S p)):=by
 have hwL:IntKind.wrap .i64 ((L:Int)+1)=(L:Int)+1:=wi64 (by omega) (by omega)
 have h4p:=h4 p hp hb
 simp only[stP] at h4p
 simp only[qFc,stP,qTa,hwL,h4p,j0]
 rw[if_neg (show ¬((L:Int)==4)=true by simp;omega)]
 cases h:S p with
 |inl z=>rfl
 |inr q=>
  obtain⟨⟨f1,f2,f3,f4⟩,f5⟩:=hS p q.1 q.2 hp hb h
  simp only[outP,k8,qCj,stP]
  rw[zHd hok hl hS hL h4 (ts.length+1) N q.2 q.1 f2 f4 f5 (by omega) (by omega)]
  rfl
theorem expr_B{k:Nat}(hok:OkT ts)(hl:ts.length<1000000)(hd:d+k=32)(hk:k<33)(hA:Adv ts (qHq ts pr k))(hE:∀p:Ps,p.1<ts.length→p.2.length≤256→r5 (stP ts pr p) (IntKind.wrap .i64 (d+1))=some (outP ts pr (qHq ts pr k p)))
  (h4:∀p:Ps,p.1<ts.length→p.2.length≤256→r4 (stP ts pr p) 1 d=some (outP ts pr (qWw ts pr (qHq ts pr k) p)))
  (p:Ps) (hp:p.1<ts.length) (hb:p.2.length≤256):qGh N r1 r2 r3 r4 r5 (stP ts pr p) d=some (outP ts pr (qHq ts pr (k+1) p)):=by
 have hw:=qMa (show p.1<1000000 by omega)
 simp only[qGh,stP,qNi hp,j0,qHq]
 rw[if_neg (show ¬decide (d>32)=true by simp only[jA];omega)]
 simp only[j0,zLz hp]
 rcases qDj (isC ts 1 sIf p.1) with c1|c1
 rotate_left
 ·have c1':isC ts 1 ⟨#[105,102]⟩ p.1=false:=c1
  have h4p:=h4 p hp hb
  simp only[stP] at h4p
  simp only[c1,c1',kC,jH,jB,jE,h4p,j0]
  cases qWw ts pr (qHq ts pr k) p<;>rfl
 have c1':isC ts 1 ⟨#[105,102]⟩ p.1=true:=c1
 have g:=qFk hok hp (by decide) c1
 have hEa:=hE (p.1+1,p.2) g hb
 simp only[stP] at hEa
 simp only[c1,c1',jR,jH,jB,jE,hw,hEa,j0]
 cases ha:qHq ts pr k (p.1+1,p.2) with
 |inl z=>rfl
 |inr a=>
  obtain⟨⟨a1,a2,a3,a4⟩,a5⟩:=hA (p.1+1,p.2) a.1 a.2 g hb ha
  simp only[outP,k8,qCj,stP,zIl a2 hl,j0,zNw]
  cases hi:qXc ts ⟨#[116,104,101,110]⟩ a.1.1 with
  |inl z=>rfl
  |inr i=>
   obtain⟨rfl,g1,-⟩:=qSn hok a2 hi
   have hEb:=hE (a.1.1+1,a.1.2) g1 a4
   simp only[stP] at hEb
   simp only[k8,hEb,j0]
   cases hb1:qHq ts pr k (a.1.1+1,a.1.2) with
   |inl z=>rfl
   |inr b=>
    obtain⟨⟨b1,b2,b3,b4⟩,b5⟩:=hA (a.1.1+1,a.1.2) b.1 b.2 g1 a4 hb1
    simp only[outP,k8,qCj,stP,zIl b2 hl,j0,zPi]
    cases hj:qXc ts ⟨#[101,108,115,101]⟩ b.1.1 with
    |inl z=>rfl
    |inr j=>
     obtain⟨rfl,g2,-⟩:=qSn hok b2 hj
     have hEc:=hE (b.1.1+1,b.1.2) g2 b4
     simp only[stP] at hEc
     simp only[k8,hEc,j0]
     cases hc1:qHq ts pr k (b.1.1+1,b.1.2) with
     |inl z=>rfl
     |inr c=>
      obtain⟨⟨c1,c2,c3,c4⟩,c5⟩:=hA (b.1.1+1,b.1.2) c.1 c.2 g2 b4 hc1
      simp only[outP,k8,qCj,stP,qVm _ _ c4,j0]
      cases qMh (tkAt ts p.1) (5,0,0,⟨#[]⟩,[(a.2:Int),(b.2:Int),(c.2:Int)]) (c.1.1,c.1.2)<;>rfl
theorem zTz(hd:d>32)(p:Ps)(hp:p.1<ts.length):qGh N r1 r2 r3 r4 r5 (stP ts pr p) d=some (outP ts pr (qHq ts pr 0 p)):=by
 simp only[qGh,stP,qNi hp,j0,qHq]
 rw[if_pos (show decide (d>32)=true by simpa using hd)]
 rfl
theorem zPc(hok:OkT ts)(hl:ts.length<1000000)(hpr:pr.length<1000)(hN:1000001<N)(ht:∀j,(tkAt ts j).2.1.size<100000):∀(k D:Nat),k≤32→7*k+1≤D→∀p:Ps,p.1<ts.length→p.2.length≤256→
  (qAi N D).2.2.2.2 (stP ts pr p) (33-(k:Int))=some (outP ts pr (qHq ts pr k p))
 |0,0,_,h,_,_,_=>by omega
 |0,D+1,_,_,p,hp,_=>by simp only[qAi];exact zTz (by omega) p hp
 |k+1,D,hk,hD,p,hp,hb=>by
  have hA:=qNe (ts:=ts) (params:=pr) hok k
  have hF:=qVr (params:=pr) hok hA
  have hT:Adv ts (zPr ts pr (qHq ts pr k)):=qOy hok hF
  have hS:Adv ts (sumC ts pr (qHq ts pr k)):=qOy hok hT
  have hE:∀D,7*k+1≤D→∀p:Ps,p.1<ts.length→p.2.length≤256→(qAi N D).2.2.2.2 (stP ts pr p) (IntKind.wrap .i64 (32-(k:Int)+1))=some (outP ts pr (qHq ts pr k p)):=by
   intro D hD p hp hb
   rw[wi64 (by omega) (by omega),show 32-(k:Int)+1=33-(k:Int) by omega]
   exact zPc hok hl hpr hN ht k D (by omega) hD p hp hb
  have h1:∀D,7*k+2≤D→∀(t:Tok) (p:Ps),p.1<ts.length→p.2.length≤256→(qAi N D).1 (stP ts pr p) t (32-(k:Int))=some (outP ts pr (qMp ts (qHq ts pr k) t p)):=by
   intro D hD t p hp hb
   obtain⟨D',rfl⟩:∃D',D=D'+1:=⟨D-1,by omega⟩
   simp only[qAi]
   exact zOg hok hl (by omega) ht hA (hE D' (by omega)) t p hp hb
  have h2:∀D,7*k+2≤D→∀p:Ps,p.1<ts.length→p.2.length≤256→(qAi N D).2.1 (stP ts pr p) (32-(k:Int))=some (outL ts pr (qMn ts (qHq ts pr k) p)):=by
   intro D hD p hp hb
   obtain⟨D',rfl⟩:∃D',D=D'+1:=⟨D-1,by omega⟩
   simp only[qAi]
   exact zJp hok hl (by omega) hA (hE D' (by omega)) p hp hb
  have h3:∀D,7*k+3≤D→∀p:Ps,p.1<ts.length→p.2.length≤256→(qAi N D).2.2.1 (stP ts pr p) (32-(k:Int))=some (outP ts pr (qPt ts pr (qHq ts pr k) p)):=by
   intro D hD p hp hb
   obtain⟨D',rfl⟩:∃D',D=D'+1:=⟨D-1,by omega⟩
   simp only[qAi]
   exact zRk hok hl hpr (by omega) hA (hE D' (by omega)) (h1 D' (by omega)) (h2 D' (by omega)) p hp hb
  have b4:∀D,7*k+4≤D→∀p:Ps,p.1<ts.length→p.2.length≤256→(qAi N D).2.2.2.1 (stP ts pr p) 4 (32-(k:Int))=some (outP ts pr (qPt ts pr (qHq ts pr k) p)):=by
   intro D hD p hp hb
   obtain⟨D',rfl⟩:∃D',D=D'+1:=⟨D-1,by omega⟩
   simp only[qAi]
   exact zQj (h3 D' (by omega)) p hp hb
  have b3:∀D,7*k+5≤D→∀p:Ps,p.1<ts.length→p.2.length≤256→(qAi N D).2.2.2.1 (stP ts pr p) 3 (32-(k:Int))=some (outP ts pr (zPr ts pr (qHq ts pr k) p)):=by
   intro D hD p hp hb
   obtain⟨D',rfl⟩:∃D',D=D'+1:=⟨D-1,by omega⟩
   simp only[qAi]
   exact zEv hok hl hN hF (L:=3) (by omega) (b4 D' (by omega)) p hp hb
  have b2:∀D,7*k+6≤D→∀p:Ps,p.1<ts.length→p.2.length≤256→(qAi N D).2.2.2.1 (stP ts pr p) 2 (32-(k:Int))=some (outP ts pr (sumC ts pr (qHq ts pr k) p)):=by
   intro D hD p hp hb
   obtain⟨D',rfl⟩:∃D',D=D'+1:=⟨D-1,by omega⟩
   simp only[qAi]
   exact zEv hok hl hN hT (L:=2) (by omega) (b3 D' (by omega)) p hp hb
  have b1:∀D,7*k+7≤D→∀p:Ps,p.1<ts.length→p.2.length≤256→(qAi N D).2.2.2.1 (stP ts pr p) 1 (32-(k:Int))=some (outP ts pr (qWw ts pr (qHq ts pr k) p)):=by
   intro D hD p hp hb
   obtain⟨D',rfl⟩:∃D',D=D'+1:=⟨D-1,by omega⟩
   simp only[qAi]
   exact zEv hok hl hN hS (L:=1) (by omega) (b2 D' (by omega)) p hp hb
  obtain⟨D',rfl⟩:∃D',D=D'+1:=⟨D-1,by omega⟩
  rw[show(33:Int)-((k+1:Nat):Int)=32-(k:Int) by omega]
  simp only[qAi]
  exact expr_B hok hl (by omega) (by omega) hA (hE D' (by omega)) (b1 D' (by omega)) p hp hb
theorem zTg(hok:OkT ts)(hl:ts.length<1000000)(hpr:pr.length<1000)(hN:1000001<N)(ht:∀j,(tkAt ts j).2.1.size<100000)(p:Ps)(hp:p.1<ts.length)(hb:p.2.length≤256):
  qOl N (ts,(p.1:Int),pr,p.2) 1=some (outP ts pr (qHq ts pr 32 p)):=by
 have:=zPc hok hl hpr hN ht 32 N (by omega) (by omega) p hp hb
 exact this
end
end
section
open Go Go.Dc
section
variable {N:Nat} {ts:List Tok} {pr:List ByteArray} {b:List Ex}
theorem qWa(h:OkT ts):∀(n:Nat) (l:List ByteArray) (i:Nat) (a:Nat×List ByteArray),i<ts.length→l.length≤8→qRx ts n l i= .inr a→i<a.1∧a.1<ts.length∧a.2.length≤8
 |0,_,_,_,_,_,h1=>by cases h1
 |n+1,l,i,a,hi,hl,h1=>by
  obtain⟨x,hx,h2⟩:=qBx (show qCj (qOu ts i) _=_ from h1)
  obtain⟨rfl,g1,-⟩:=qLy h hi hx
  split at h2
  ·cases h2
  rename_i k1
  split at h2
  ·cases h2
  split at h2
  ·rename_i k3
   have g2:=qFk h g1 (by decide) k3
   obtain⟨j1,j2,j3⟩:=qWa h n _ _ a g2 (by simp only[jI,jC,jG];omega) h2
   exact⟨by omega,j2,j3⟩
  ·obtain⟨j,hj,h3⟩:=qBx h2
   obtain⟨rfl,g2,-⟩:=qEv h g1 hj
   obtain rfl:=Sum.inr.inj h3
   exact⟨by simp only;omega,g2,by simp only[jI,jC,jG];omega⟩
theorem qQm(h:OkT ts){i:Nat}{a:Nat×List ByteArray}(hi:i<ts.length)(h1:qJj ts i= .inr a):i<a.1∧a.1<ts.length∧a.2.length≤8:=by
 obtain⟨j,hj,h2⟩:=qBx h1
 obtain⟨rfl,g,-⟩:=qEv h hi hj
 split at h2
 ·rename_i k
  obtain rfl:=Sum.inr.inj h2
  exact⟨by simp only;omega,qFk h g (by decide) k,by simp⟩
 ·obtain⟨j1,j2,j3⟩:=qWa h _ _ _ a g (by simp) h2
  exact⟨by omega,j2,j3⟩
theorem zAk(hok:OkT ts)(hl:ts.length<1000000)(hN:1000000<N):∀(n M:Nat) (l:List ByteArray) (i:Nat),i<ts.length→l.length≤8→ts.length<i+n→ts.length<i+M→
  ((qAw (qFl N) M (l,ts,(i:Int),pr,b)).bind fun out1=>(match out1 with| .inl o1=>(qCl N (o1.2.1,o1.2.2.1,o1.2.2.2.1,o1.2.2.2.2) (⟨#[41]⟩:ByteArray)).bind fun y12=>(match y12 with| .inl z5=>some (.inl z5)| .inr y13=>some (.inr ((y13.1,y13.2.1,y13.2.2.1,y13.2.2.2),o1.1)))| .inr (z)=>some z))=some (Sum.map id (fun a:Nat×List ByteArray=>((ts,(a.1:Int),pr,b),a.2)) (qRx ts n l i))
 |0,M,l,i,hi,_,h,_=>by omega
 |n+1,0,l,i,hi,_,_,h=>by omega
 |n+1,M+1,l,i,hi,hll,hn,hM=>by
  simp only[qAw,qFl,qRx,zEs hi hl,j0]
  cases hx:qOu ts i with
  |inl z=>rfl
  |inr x=>
   obtain⟨rfl,g1,-⟩:=qLy hok hi hx
   simp only[k8,qCj,qCs,j0]
   by_cases k1:l.length=8
   ·rw[if_pos (show((l.length:Int)==8)=true by simp;omega),if_pos k1];rfl
   rw[if_neg (show ¬((l.length:Int)==8)=true by simp;omega),if_neg k1]
   simp only[j0,qZu (N:=N) (l:=l) (s:=(tkAt ts i).2.1) (by omega) (by omega)]
   by_cases k2:(tkAt ts i).2.1∈l
   ·rw[if_pos (jO k2),if_pos k2];rfl
   rw[if_neg (show ¬decide ((tkAt ts i).2.1∈l)=true by simpa using k2),if_neg k2]
   simp only[j0]
   rw[qCv (by simp only[jC,jG];omega) (by omega)]
   simp only[j0,qSf g1 hl,qPy]
   rcases qDj (isC ts 4 ⟨#[44]⟩ (i+1)) with hc|hc
   ·have g:=qFk hok g1 (by decide) hc
    simp only[hc,jH,jR,jB,jE,j0]
    exact zAk hok hl hN n M _ (i+1+1) g (by simp only[jI,jC,jG];omega) (by omega) (by omega)
   ·simp only[hc,jB,jE,kC,jH,j0,qPo g1 hl,qJk]
    cases qFj ts ⟨#[41]⟩ (i+1)<;>rfl
theorem zEq(hok:OkT ts)(hl:ts.length<1000000)(hN:1000000<N){i:Nat}(hi:i<ts.length):
  qFi N (ts,(i:Int),pr,b)=some (Sum.map id (fun a:Nat×List ByteArray=>((ts,(a.1:Int),pr,b),a.2)) (qJj ts i)):=by
 simp only[qFi,qPo hi hl,j0,qJj,qSg]
 cases h:qFj ts ⟨#[40]⟩ i with
 |inl z=>rfl
 |inr j=>
  obtain⟨rfl,g,-⟩:=qEv hok hi h
  simp only[k8,qCj,qSf g hl,j0,qJk]
  rcases qDj (isC ts 4 ⟨#[41]⟩ (i+1)) with hc|hc
  ·simp only[hc,jH];rfl
  ·simp only[hc,jB,jE]
   exact zAk hok hl hN (ts.length+1) N [] (i+1) g (by simp) (by omega) (by omega)
def zKq:List (ByteArray×Int):=[(⟨#[102,117,110,99]⟩,1),(⟨#[103,101,110]⟩,3),(⟨#[116,101,115,116]⟩,2)]
theorem zRy:((qMe (some []:Option (List (ByteArray×Int))) (⟨#[102,117,110,99]⟩:ByteArray) 1).bind fun mp1=>(qMe mp1 (⟨#[116,101,115,116]⟩:ByteArray) 2).bind fun mp2=>qMe mp2 (⟨#[103,101,110]⟩:ByteArray) 3)=some (some zKq):=by kernel_rfl
theorem zLm(s:ByteArray):((qAx (some zKq) s).getD 0)=qOq s:=by
 simp only[qAx,zKq,j0,mget,qOq,zPv,zQg,sGen]
 by_cases h1:s=⟨#[102,117,110,99]⟩
 ·simp[h1]
 by_cases h2:s=⟨#[116,101,115,116]⟩
 ·subst h2;rfl
 by_cases h3:s=⟨#[103,101,110]⟩
 ·subst h3;rfl
 simp[h1,h2,h3]
theorem zCe{before:List Dl}{y1:StT×Tok}{o4:List Tok×Int×List ByteArray×List Ex×Int×ByteArray×Int×Int}(hl:before.length≤64):∀(d i M:Nat),i+d=before.length→d<M→
  ((qAw (qHh N before (some zKq) y1 o4) M (i:Int)).bind fun out1=>(match out1 with| .inl o6=>some (-1)| .inr (z)=>some z):Option Int)=some (match(before.drop i).findIdx? (fun d=>d.1==qOq y1.2.2.1&&decide (d.2.1=o4.2.2.2.2.2.1)) with|some j=>((i+j:Nat):Int)|none=> -1)
 |d,i,0,_,h=>by omega
 |0,i,M+1,h,_=>by
  have:before.drop i=[]:=jV (by omega)
  simp only[qAw,qHh,this,List.findIdx?_nil]
  rw[if_neg (by simp only[jA];omega)]
  rfl
 |d+1,i,M+1,h,hM=>by
  have hi:i<before.length:=by omega
  have ih:=zCe (y1:=y1) (o4:=o4) hl d (i+1) M (by omega) (by omega)
  simp only[qAw,qHh]
  rw[if_pos (by simp only[jA];omega),qDu hi,jM hi,List.findIdx?_cons]
  simp only[j0,qEj,zLm]
  by_cases k1:(before[i].1==qOq y1.2.2.1)=true
  ·by_cases k2:before[i].2.1=o4.2.2.2.2.2.1
   ·simp[k1,k2]
   ·simp only[k1,k2,jH,decide_false,j0,jB,jE,qMa (show i<1000000 by omega),Bool.and_false]
    rw[ih]
    cases(before.drop (i+1)).findIdx? (fun d=>d.1==qOq y1.2.2.1&&decide (d.2.1=o4.2.2.2.2.2.1)) with
    |none=>rfl
    |some j=>simp only[kE];rw[show i+1+j=i+(j+1) by omega]
  ·simp only[k1,jB,jE,j0,qMa (show i<1000000 by omega),d5]
   rw[ih]
   cases(before.drop (i+1)).findIdx? (fun d=>d.1==qOq y1.2.2.1&&decide (d.2.1=o4.2.2.2.2.2.1)) with
   |none=>rfl
   |some j=>simp only[kE];rw[show i+1+j=i+(j+1) by omega]
theorem qSc(h:OkT ts){before:List Dl}{i:Nat}{a:Nat×Dl}(hi:i<ts.length)(h1:qSe ts before i= .inr a):i<a.1∧a.1<ts.length∧before.length≠64:=by
 unfold qSe at h1
 dsimp only at h1
 split at h1
 ·cases h1
 rename_i k1
 split at h1
 ·cases h1
 rename_i k2
 have g:=h.next hi (show(tkAt ts i).1≠5 by intro e;apply k1;left;rw[e];decide)
 obtain⟨x,hx,h2⟩:=qBx h1
 have gx:x.1=i+1+1∧x.1<ts.length:=by
  split at hx
  ·obtain⟨rfl,g1,-⟩:=qNk h g hx;exact⟨rfl,g1⟩
  ·obtain⟨rfl,g1,-⟩:=qLy h g hx;exact⟨rfl,g1⟩
 split at h2
 ·cases h2
 obtain⟨y,hy,h3⟩:=qBx h2
 have gy:x.1≤y.1∧y.1<ts.length:=by
  split at hy
  ·obtain⟨g1,g2,-⟩:=qQm h gx.2 hy;exact⟨by omega,g2⟩
  ·obtain rfl:=Sum.inr.inj hy;exact⟨jP _,gx.2⟩
 obtain⟨j,hj,h4⟩:=qBx h3
 obtain⟨rfl,g3,-⟩:=qEv h gy.2 hj
 obtain⟨c,hc,h5⟩:=qBx h4
 obtain⟨⟨f1,f2,f3,f4⟩,-⟩:=qNe h 32 (y.1+1,[]) c.1 c.2 g3 (by simp) hc
 obtain⟨m,hm,h6⟩:=qBx h5
 obtain⟨rfl,g4,-⟩:=qEv h f2 hm
 obtain rfl:=Sum.inr.inj h6
 exact⟨by simp only at f1 ⊢;omega,g4,k2⟩
theorem zTj{before:List Dl}{f:Dl→Bool}:(decide ((match before.findIdx? f with|some j=>((0+j:Nat):Int)|none=> -1)≥0))=before.any f:=by
 have:=List.findIdx?_isSome (xs:=before) (p:=f)
 rw[←this]
 cases before.findIdx? f with
 |none=>rfl
 |some j=>simp only[fW];exact jO (by omega)
end
end
section
open Go Go.Dc
section
variable {N:Nat} {ts:List Tok} {pr:List ByteArray} {b:List Ex}
theorem zTi(hok:OkT ts)(hl:ts.length<1000000)(hN:1000001<N)(ht:∀j,(tkAt ts j).2.1.size<100000){before:List Dl}(hb:before.length≤64){i:Nat}(hi:i<ts.length):
  qKo N (ts,(i:Int),pr,b) before=some (Sum.map id (fun a:Nat×Dl=>((ts,(a.1:Int),a.2.2.2.1,a.2.2.2.2),a.2)) (qSe ts before i)):=by
 have hw:=qMa (show i<1000000 by omega)
 unfold qKo
 obtain⟨mp1,hm1,hm⟩:=jK.1 zRy
 obtain⟨mp2,hm2,hm3⟩:=jK.1 hm
 rw[hm1];simp only[j0]
 rw[hm2];simp only[j0]
 rw[hm3];simp only[j0,qNi hi,zLm,qCs,qSe]
 by_cases k1:(tkAt ts i).1≠1∨qOq (tkAt ts i).2.1=0
 ·rw[if_pos k1]
  have:((if((tkAt ts i).1 !=1)=true then some true else some (qOq (tkAt ts i).2.1==0)):Option Bool)=some true:=by
   rcases k1 with h|h
   ·simp[h]
   ·simp[h]
  rw[this];rfl
 rw[if_neg k1]
 have k1a:(tkAt ts i).1=1:=by
  apply Decidable.byContradiction
  intro h;exact k1 (.inl h)
 have k1b:¬qOq (tkAt ts i).2.1=0:=fun h=>k1 (.inr h)
 have:((if((tkAt ts i).1 !=1)=true then some true else some (qOq (tkAt ts i).2.1==0)):Option Bool)=some false:=by simp[k1a,k1b]
 rw[this]
 simp only[j0,jB,jE]
 by_cases k2:before.length=64
 ·rw[if_pos (show((before.length:Int)==64)=true by simp;omega),if_pos k2];rfl
 rw[if_neg (show ¬((before.length:Int)==64)=true by simp;omega),if_neg k2]
 have g:=hok.next hi (show(tkAt ts i).1≠5 by rw[k1a];decide)
 simp only[j0,hw]
 have hx:(if(qOq (tkAt ts i).2.1==3)=true then((qFg N (ts,((i+1:Nat):Int),pr,b)).bind fun y6=>(match y6 with| .inl z3=>some (.inr (.inl z3))| .inr y7=>some (.inl (y7.1.1,y7.1.2.1,y7.1.2.2.1,y7.1.2.2.2,y7.2.1,y7.2.2.1,y7.2.2.2.1,y7.2.2.2.2)))) else((qFf N (ts,((i+1:Nat):Int),pr,b)).bind fun y8=>(match y8 with| .inl z4=>some (.inr (.inl z4))| .inr y9=>some (.inl (y9.1.1,y9.1.2.1,y9.1.2.2.1,y9.1.2.2.2,y9.2.1,y9.2.2.1,y9.2.2.2.1,y9.2.2.2.2)))):Option ((List Tok×Int×List ByteArray×List Ex×Int×ByteArray×Int×Int)⊕(Flt⊕(StT×Dl))))=
   some (match(if qOq (tkAt ts i).2.1=3 then qQq ts (i+1) else qOu ts (i+1)) with| .inl z=> .inr (.inl z)| .inr a=> .inl (ts,(a.1:Int),pr,b,a.2.1,a.2.2.1,a.2.2.2.1,a.2.2.2.2)):=by
  by_cases k3:qOq (tkAt ts i).2.1=3
  ·rw[if_pos (show(qOq (tkAt ts i).2.1==3)=true by simpa using k3),if_pos k3,zFa g hl (by omega) ht]
   cases qQq ts (i+1)<;>rfl
  ·rw[if_neg (show ¬(qOq (tkAt ts i).2.1==3)=true by simpa using k3),if_neg k3,zEs g hl]
   cases qOu ts (i+1)<;>rfl
 refine Eq.trans (congrArg (fun z=>Option.bind z _) hx) ?_
 simp only[j0]
 cases hX:(if qOq (tkAt ts i).2.1=3 then qQq ts (i+1) else qOu ts (i+1)) with
 |inl z=>rfl
 |inr x=>
  have gx:x.1=i+1+1∧x.1<ts.length:=by
   split at hX
   ·obtain⟨rfl,g1,-⟩:=qNk hok g hX;exact⟨rfl,g1⟩
   ·obtain⟨rfl,g1,-⟩:=qLy hok g hX;exact⟨rfl,g1⟩
  simp only[qCj]
  have hT:=zCe (N:=N) (before:=before) (y1:=((ts,(i:Int),pr,b),tkAt ts i)) (o4:=(ts,(x.1:Int),pr,b,x.2.1,x.2.2.1,x.2.2.2.1,x.2.2.2.2)) hb before.length 0 N (by omega) (by omega)
  simp only[jZ] at hT
  refine Eq.trans (congrArg (fun z=>Option.bind z _) hT) ?_
  simp only[j0,zTj]
  rcases qDj (before.any fun d=>d.1==qOq (tkAt ts i).2.1&&decide (d.2.1=x.2.2.1)) with k4|k4
  ·simp only[k4,jH];rfl
  simp only[k4,jB,jE,j0]
  have hp:(if(qOq (tkAt ts i).2.1==1)=true then((qFi N (ts,(x.1:Int),pr,b)).bind fun y12=>(match y12 with| .inl z6=>some (.inr (.inl z6))| .inr y13=>some (.inl (y13.2,y13.1.1,y13.1.2.1,y13.1.2.2.1,y13.1.2.2.2)))) else(some (.inl (([]:List (ByteArray)),ts,(x.1:Int),pr,b))):Option ((List ByteArray×StT)⊕(Flt⊕(StT×Dl))))=
    some (match(if qOq (tkAt ts i).2.1=1 then qJj ts x.1 else .inr (x.1,[])) with| .inl z=> .inr (.inl z)| .inr a=> .inl (a.2,ts,(a.1:Int),pr,b)):=by
   by_cases k5:qOq (tkAt ts i).2.1=1
   ·rw[if_pos (show(qOq (tkAt ts i).2.1==1)=true by simpa using k5),if_pos k5,zEq hok hl (by omega) gx.2]
    cases qJj ts x.1<;>rfl
   ·rw[if_neg (show ¬(qOq (tkAt ts i).2.1==1)=true by simpa using k5),if_neg k5]
  refine Eq.trans (congrArg (fun z=>Option.bind z _) hp) ?_
  simp only[j0]
  cases hY:(if qOq (tkAt ts i).2.1=1 then qJj ts x.1 else .inr (x.1,[]):Flt⊕(Nat×List ByteArray)) with
  |inl z=>rfl
  |inr y=>
   have gy:x.1≤y.1∧y.1<ts.length∧y.2.length≤8:=by
    split at hY
    ·obtain⟨g1,g2,g3⟩:=qQm hok gx.2 hY;exact⟨by omega,g2,g3⟩
    ·obtain rfl:=Sum.inr.inj hY;exact⟨jP _,gx.2,by simp⟩
   simp only[qPo gy.2.1 hl,j0,sEq]
   cases hj:qFj ts ⟨#[61]⟩ y.1 with
   |inl z=>rfl
   |inr j=>
    obtain⟨rfl,g3,-⟩:=qEv hok gy.2.1 hj
    have he:=zTg (N:=N) (pr:=y.2) hok hl (by omega) hN ht (y.1+1,[]) g3 (by simp)
    simp only at he
    simp only[k8,he,j0]
    cases hc:qHq ts y.2 32 (y.1+1,[]) with
    |inl z=>rfl
    |inr c=>
     obtain⟨⟨f1,f2,f3,f4⟩,-⟩:=qNe hok 32 (y.1+1,[]) c.1 c.2 g3 (by simp) hc
     simp only[outP,k8,stP,qPo f2 hl,j0,qWr]
     cases qFj ts ⟨#[59]⟩ c.1.1<;>rfl
theorem qYb(hok:OkT ts)(hl:ts.length<1000000)(hN:1000000<N){y4:StT×Tok}:∀(n M:Nat) (l:List ByteArray) (i:Nat),i<ts.length→l.length≤8→ts.length<i+n→ts.length<i+M→
  qAw (qJc N y4) M (ts,(i:Int),pr,b,l)=some (match qLz ts y4.2.2.1 n l i with| .inl z=> .inr (.inl z)| .inr a=> .inl (ts,(a.1:Int),pr,b,a.2))
 |0,M,l,i,hi,_,h,_=>by omega
 |n+1,0,l,i,hi,_,_,h=>by omega
 |n+1,M+1,l,i,hi,hll,hn,hM=>by
  have hw:=qMa (show i<1000000 by omega)
  simp only[qAw,qJc,qLz,zLz hi,j0,qVx]
  rcases qDj (isC ts 1 ⟨#[105,109,112,111,114,116]⟩ i) with k1|k1
  rotate_left
  ·simp only[k1,jB,jE,j0]
  have g:=qFk hok hi (by decide) k1
  simp only[k1,jH]
  by_cases k2:l.length=8
  ·rw[if_pos (show((l.length:Int)==8)=true by simp;omega),if_pos k2]
   simp only[qNi hi,j0,qCs];rfl
  rw[if_neg (show ¬((l.length:Int)==8)=true by simp;omega),if_neg k2]
  simp only[j0,hw,zEs g hl]
  cases hx:qOu ts (i+1) with
  |inl z=>rfl
  |inr x=>
   obtain⟨rfl,g1,-⟩:=qLy hok g hx
   simp only[k8,qCj,qCs,j0,qEj,qZu (N:=N) (l:=l) (s:=(tkAt ts (i+1)).2.1) (by omega) (by omega)]
   by_cases k3:(tkAt ts (i+1)).2.1=y4.2.2.1∨(tkAt ts (i+1)).2.1∈l
   ·rw[if_pos k3]
    have:((if decide ((tkAt ts (i+1)).2.1=y4.2.2.1)=true then some true else some (decide ((tkAt ts (i+1)).2.1∈l))):Option Bool)=some true:=by
     rcases k3 with h|h
     ·rw[if_pos (jO h)]
     ·rw[jO h];split<;>rfl
    rw[this];rfl
   rw[if_neg k3]
   have:((if decide ((tkAt ts (i+1)).2.1=y4.2.2.1)=true then some true else some (decide ((tkAt ts (i+1)).2.1∈l))):Option Bool)=some false:=by
    rw[if_neg (by simp only[jA];exact fun h=>k3 (.inl h)),jU (fun h=>k3 (.inr h))]
   rw[this]
   simp only[j0,jB,jE]
   rw[qCv (by simp only[jC,jG];omega) (by omega)]
   simp only[j0,qPo g1 hl,qWr]
   cases hj:qFj ts ⟨#[59]⟩ (i+1+1) with
   |inl z=>rfl
   |inr j=>
    obtain⟨rfl,g2,-⟩:=qEv hok g1 hj
    exact qYb hok hl hN n M _ (i+1+1+1) g2 (by simp only[jI,jC,jG];omega) (by omega) (by omega)
theorem qPj(h:OkT ts){pkg:ByteArray}:∀(n:Nat) (l:List ByteArray) (i:Nat) (a:Nat×List ByteArray),i<ts.length→l.length≤8→qLz ts pkg n l i= .inr a→i≤a.1∧a.1<ts.length∧a.2.length≤8
 |0,_,_,_,_,_,h1=>by cases h1
 |n+1,l,i,a,hi,hl,h1=>by
  unfold qLz at h1
  split at h1
  ·rename_i k
   have g:=qFk h hi (by decide) k
   split at h1
   ·cases h1
   rename_i k2
   obtain⟨x,hx,h2⟩:=qBx h1
   obtain⟨rfl,g1,-⟩:=qLy h g hx
   split at h2
   ·cases h2
   obtain⟨j,hj,h3⟩:=qBx h2
   obtain⟨rfl,g2,-⟩:=qEv h g1 hj
   obtain⟨j1,j2,j3⟩:=qPj h n _ _ a g2 (by simp only[jI,jC,jG];omega) h3
   exact⟨by omega,j2,j3⟩
  ·obtain rfl:=Sum.inr.inj h1
   exact⟨jP _,hi,hl⟩
theorem zCn(hok:OkT ts)(hl:ts.length<1000000)(hN:1000001<N)(ht:∀j,(tkAt ts j).2.1.size<100000):∀(n M:Nat) (l:List Dl) (i:Nat) (pr:List ByteArray) (b:List Ex),i<ts.length→l.length≤64→ts.length<i+n→ts.length<i+M→
  match qRd ts n l i with
  | .inl z=>qAw (qEl N) M (ts,(i:Int),pr,b,l)=some (.inr (.inl z))
  | .inr a=>∃i' pr' b',qAw (qEl N) M (ts,(i:Int),pr,b,l)=some (.inl (ts,i',pr',b',a))
 |0,M,l,i,_,_,hi,_,h,_=>by omega
 |n+1,0,l,i,_,_,hi,_,_,h=>by omega
 |n+1,M+1,l,i,pr,b,hi,hll,hn,hM=>by
  have e1:qAw (qEl N) (M+1) (ts,(i:Int),pr,b,l)=(if(tkAt ts i).1=5 then some (.inl (ts,(i:Int),pr,b,l)) else
    match qSe ts l i with
    | .inl z=>some (.inr (.inl z))
    | .inr a=>qAw (qEl N) M (ts,(a.1:Int),a.2.2.2.1,a.2.2.2.2,l++[a.2])):=by
   simp only[qAw,qEl,qNi hi,j0,zTi hok hl hN ht hll hi]
   by_cases k1:(tkAt ts i).1=5
   ·rw[if_neg (show ¬((tkAt ts i).1 !=5)=true by simpa using k1),if_pos k1];rfl
   ·rw[if_pos (show((tkAt ts i).1 !=5)=true by simpa using k1),if_neg k1]
    cases hd:qSe ts l i with
    |inl z=>rfl
    |inr a=>
     obtain⟨g1,g2,g3⟩:=qSc hok hi hd
     simp only[k8]
     rw[qCv (by simp only[jC,jG];omega) (by omega)]
     rfl
  rw[e1]
  simp only[qRd]
  by_cases k1:(tkAt ts i).1=5
  ·simp only[if_pos k1];exact⟨_,_,_,rfl⟩
  ·simp only[if_neg k1]
   cases hd:qSe ts l i with
   |inl z=>rfl
   |inr a=>
    obtain⟨g1,g2,g3⟩:=qSc hok hi hd
    exact zCn hok hl hN ht n M (l++[a.2]) a.1 _ _ g2 (by simp only[jI,jC,jG];omega) (by omega) (by omega)
theorem zTu(hok:OkT ts)(hl:ts.length<1000000)(hN:1000001<N)(ht:∀j,(tkAt ts j).2.1.size<100000):
  match zAw ts with
  | .inl z=>qJi N (ts,0,pr,b)=some (.inl z)
  | .inr f=>∃i' pr' b',qJi N (ts,0,pr,b)=some (.inr ((ts,i',pr',b'),f)):=by
 have h0:0<ts.length:=fC.2 hok.1
 simp only[qJi,zAw]
 rw[show(0:Int)=((0:Nat):Int) from rfl]
 simp only[zIl h0 hl,j0,qWg]
 cases h1:qXc ts ⟨#[112,97,99,107,97,103,101]⟩ 0 with
 |inl z=>rfl
 |inr i=>
  obtain⟨rfl,g1,-⟩:=qSn hok h0 h1
  simp only[k8,qCj,zEs g1 hl,j0]
  cases h2:qOu ts (0+1) with
  |inl z=>rfl
  |inr x=>
   obtain⟨rfl,g2,-⟩:=qLy hok g1 h2
   simp only[k8,qPo g2 hl,j0,qWr]
   cases h3:qFj ts ⟨#[59]⟩ (0+1+1) with
   |inl z=>rfl
   |inr j=>
    obtain⟨rfl,g3,-⟩:=qEv hok g2 h3
    simp only[k8,qYb hok hl (by omega:1000000<N) (ts.length+1) N [] (0+1+1+1) g3 (by simp) (by omega) (by omega),j0]
    cases h4:qLz ts (tkAt ts (0+1)).2.1 (ts.length+1) [] (0+1+1+1) with
    |inl z=>rfl
    |inr y=>
     obtain⟨k1,k2,k3⟩:=qPj hok _ _ _ y g3 (by simp) h4
     have hd:=zCn (N:=N) hok hl hN ht (ts.length+1) N [] y.1 pr b k2 (by simp) (by omega) (by omega)
     simp only[]
     cases h5:qRd ts (ts.length+1) [] y.1 with
     |inl z=>
      rw[h5] at hd
      simp only[hd,j0]
     |inr l=>
      rw[h5] at hd
      obtain⟨i',pr',b',hd⟩:=hd
      refine⟨i',pr',b',?_⟩
      simp only[hd,j0]
end
theorem zLe{s:ByteArray}:∀(l:List Tok) (e:Int),0≤e→zTr s e l→∀i,i<l.length→((tkAt l i).1=5↔i+1=l.length)∧((tkAt l i).2.1.size:Int)≤s.size∧0≤(tkAt l i).2.2.2
 |[],_,_,_,i,hi=>by simp at hi
 |t::r,e,he,h,i,hi=>by
  obtain⟨h1,h2,h3,h4,h5⟩:=h
  have hend:0≤endT t:=by unfold endT;split<;>omega
  cases i with
  |zero=>
   refine⟨?_,?_,?_⟩
   ·show t.1=5↔0+1=r.length+1
    rw[h3,←h9];omega
   ·show((t.2.1.size:Nat):Int)≤s.size
    omega
   ·show 0≤t.2.2.2
    omega
  |succ i=>
   have:=zLe r _ hend h5 i (by simpa using hi)
   have e:tkAt (t::r) (i+1)=tkAt r i:=by simp[tkAt]
   rw[e,jC]
   exact⟨⟨fun h=>by have:=this.1.1 h;omega,fun h=>this.1.2 (by omega)⟩,this.2⟩
theorem qUw{s:ByteArray}(h:(qHf s).2.2=0):OkT (qHf s).1∧(qHf s).1.length≤16385∧∀j,(tkAt (qHf s).1 j).2.1.size<100000:=by
 unfold qHf at h ⊢
 split at h
 ·simp at h
 rename_i hs
 rw[if_neg hs]
 cases hG:tokG (s.data.toList.length+1) s 0 with
 |inl x=>
  obtain⟨_,_,h3⟩:=zFc _ 0 x (by omega) (by omega) hG
  rw[hG] at h
  exact absurd h h3
 |inr r=>
  obtain⟨g1,g2,g3⟩:=qXx _ 0 0 r (by omega) (by omega) (by omega) hG
  simp only[zFb,kS]
  have hc:=zLe r 0 (by omega) g1
  refine⟨⟨g2,fun i hi=>(hc i hi).1⟩,by omega,fun j=> ?_⟩
  rcases fA j r.length with hj|hj
  ·have:=(hc j hj).2.1
   have hs2:=qCr s
   omega
  ·have e:tkAt r j=(5,⟨#[]⟩,0,0):=by simp[tkAt,kK,List.getElem?_eq_none hj]
   rw[e];decide
theorem zKk{N:Nat}(s:ByteArray)(hN:1000001<N):qNr N s=some (qIh s):=by
 simp only[qNr,zOw (N:=N) (by omega),j0,qIh]
 by_cases h:(qHf s).2.2=0
 ·rw[if_neg (show ¬((qHf s).2.2 !=0)=true by simpa using h),if_neg (show ¬(qHf s).2.2≠0 by simpa using h)]
  obtain⟨h1,h2,h3⟩:=qUw h
  have hf:=zTu (N:=N) (pr:=[]) (b:=[]) h1 (by omega) hN h3
  cases hF:zAw (qHf s).1 with
  |inl z=>
   rw[hF] at hf
   simp only[hf,j0];rfl
  |inr f=>
   rw[hF] at hf
   obtain⟨i',pr',b',hf⟩:=hf
   simp only[hf,j0]
 ·rw[if_pos (show((qHf s).2.2 !=0)=true by simpa using h),if_pos h];rfl
end
section
open Go Go.Dc
abbrev RT:=List Tok×Int×Int×Int×List ByteArray×List Ex×List Int
def gR(ts:List Tok)(pr:List ByteArray)(p:Ps):RT:=(ts,(p.1:Int),0,0,pr,p.2,[])
def bR(ts:List Tok)(z:Flt)(i:Nat)(pr:List ByteArray)(b:List Ex):RT:=(ts,(i:Int),z.1,z.2,pr,b,[])
section
variable {N:Nat} {ts:List Tok} {pr:List ByteArray} {b:List Ex} {i:Nat} {z:Flt}
theorem rnow{st:Int×Int×List ByteArray×List Ex×List Int}(hi:i<ts.length):qAl N (ts,(i:Int),st.1,st.2.1,st.2.2.1,st.2.2.2.1,st.2.2.2.2)=some ((ts,(i:Int),st.1,st.2.1,st.2.2.1,st.2.2.2.1,st.2.2.2.2),tkAt ts i):=by
 simp only[qAl,zSi hi,j0]
theorem qKs(p:Ps)(hi:p.1<ts.length):qAl N (gR ts pr p)=some (gR ts pr p,tkAt ts p.1):=rnow (st:=(0,0,pr,p.2,[])) hi
theorem qRc(hi:i<ts.length):qAl N (bR ts z i pr b)=some (bR ts z i pr b,tkAt ts i):=rnow (st:=(z.1,z.2,pr,b,[])) hi
theorem qNl(p:Ps)(hi:p.1<ts.length)(hl:ts.length<1000000)(s:ByteArray):qBt N (gR ts pr p) s=some (if isC ts 1 s p.1 then(gR ts pr (p.1+1,p.2),true) else(gR ts pr p,false)):=by
 have h0:qAl N (ts,(p.1:Int),0,0,pr,p.2,[])=some ((ts,(p.1:Int),0,0,pr,p.2,[]),tkAt ts p.1):=qKs p hi
 simp only[qBt,gR,h0,j0,qEj,isC,kI,jH]
 by_cases h1:(tkAt ts p.1).1=1<;>by_cases h2:(tkAt ts p.1).2.1=s<;>simp[h1,h2,qMa (show p.1<1000000 by omega)]
theorem zJc(hz:z.2≠0)(s:ByteArray):qBt N (bR ts z i pr b) s=some (bR ts z i pr b,false):=by
 simp[qBt,bR,hz]
theorem qLt(p:Ps)(hi:p.1<ts.length)(hl:ts.length<1000000)(s:ByteArray):qBu N (gR ts pr p) s=some (if isC ts 4 s p.1 then(gR ts pr (p.1+1,p.2),true) else(gR ts pr p,false)):=by
 have h0:qAl N (ts,(p.1:Int),0,0,pr,p.2,[])=some ((ts,(p.1:Int),0,0,pr,p.2,[]),tkAt ts p.1):=qKs p hi
 simp only[qBu,gR,h0,j0,qEj,isC,kI,jH]
 by_cases h1:(tkAt ts p.1).1=4<;>by_cases h2:(tkAt ts p.1).2.1=s<;>simp[h1,h2,qMa (show p.1<1000000 by omega)]
theorem zFn(hz:z.2≠0)(s:ByteArray):qBu N (bR ts z i pr b) s=some (bR ts z i pr b,false):=by
 simp[qBu,bR,hz]
theorem qLk(p:Ps)(a e:Int):qAm N (gR ts pr p) a e=some (bR ts (a,e) p.1 pr p.2):=by
 simp[qAm,gR,bR]
theorem qOs(hz:z.2≠0)(a e:Int):qAm N (bR ts z i pr b) a e=some (bR ts z i pr b):=by
 simp[qAm,bR,hz]
theorem qPb(p:Ps)(hi:p.1<ts.length)(hl:ts.length<1000000)(s:ByteArray):qAj N (gR ts pr p) s=some (match qFj ts s p.1 with| .inl z=>bR ts z p.1 pr p.2| .inr j=>gR ts pr (j,p.2)):=by
 have h1:=qLt (N:=N) (pr:=pr) p hi hl s
 have h2:=qKs (N:=N) (pr:=pr) p hi
 have h3:=qLk (N:=N) (ts:=ts) (pr:=pr) p (tkAt ts p.1).2.2.2 9
 simp only[gR] at h1 h2 h3
 simp only[qAj,gR,h1,j0,qFj]
 rcases qDj (isC ts 4 s p.1) with h|h
 ·simp only[h,jH,jR,jB,jE]
 ·simp only[h,jH,kC,jB,jE,h2,j0,h3,qHp]
theorem qOb(hz:z.2≠0)(hi:i<ts.length)(s:ByteArray):qAj N (bR ts z i pr b) s=some (bR ts z i pr b):=by
 have h1:=zFn (N:=N) (ts:=ts) (i:=i) (pr:=pr) (b:=b) hz s
 have h2:=qRc (N:=N) (ts:=ts) (i:=i) (pr:=pr) (b:=b) (z:=z) hi
 have h3:=qOs (N:=N) (ts:=ts) (i:=i) (pr:=pr) (b:=b) hz (tkAt ts i).2.2.2 9
 simp only[bR] at h1 h2 h3
 simp only[qAj,bR,h1,j0,kC,jH,h2,h3]
theorem zGa{s:ByteArray}:∀(d k M:Nat),k+d=wordsR.length→d<M→qAw (qEf N s) M (k:Int)=some (if s∈wordsR.drop k then .inr true else .inl ())
 |d,k,0,_,h=>by omega
 |0,k,M+1,h,_=>by
  have:wordsR.drop k=[]:=jV (by omega)
  simp only[qAw,qEf,this]
  rw[if_neg (by simp only[jA];have:wordsR.length=13:=rfl;simp only[jC,jG];omega)]
  rfl
 |d+1,k,M+1,h,hM=>by
  have hk:k<wordsR.length:=by omega
  have ih:=zGa (s:=s) d (k+1) M (by omega) (by omega)
  simp only[qAw]
  have e:qEf N s (k:Int)=some (if s=wordsR[k] then .inr (.inr true) else .inl (((k+1:Nat):Int))):=by
   have h13:wordsR.length=13:=rfl
   have hx:idx ([(⟨#[112,97,99,107,97,103,101]⟩:ByteArray),(⟨#[105,109,112,111,114,116]⟩:ByteArray),(⟨#[102,117,110,99]⟩:ByteArray),(⟨#[116,101,115,116]⟩:ByteArray),(⟨#[103,101,110]⟩:ByteArray),(⟨#[105,102]⟩:ByteArray),(⟨#[116,104,101,110]⟩:ByteArray),(⟨#[101,108,115,101]⟩:ByteArray),(⟨#[114,101,97,100]⟩:ByteArray),(⟨#[115,105,122,101]⟩:ByteArray),(⟨#[104,97,115]⟩:ByteArray),(⟨#[101,110,118]⟩:ByteArray),(⟨#[102,108,105,112]⟩:ByteArray)]) (k:Int)=some wordsR[k]:=qDu (l:=wordsR) hk
   simp only[qEf]
   rw[if_pos (by simp only[jA,jC,jG];omega),hx]
   simp only[j0,qEj,jA,qMa (show k<1000000 by omega)]
   split<;>rfl
  rw[e,jM hk]
  simp only[j0,jL]
  by_cases hs:s=wordsR[k]
  ·rw[if_pos hs,if_pos (.inl hs)]
  ·rw[if_neg hs]
   simp only[ih]
   by_cases h2:s∈wordsR.drop (k+1)
   ·rw[if_pos h2,if_pos (.inr h2)]
   ·rw[if_neg h2,if_neg (fun h=>h.elim hs h2)]
theorem rres(hN:100<N)(s:ByteArray):qIp N s=some (resC s):=by
 have h:=zGa (N:=N) (s:=s) 13 0 N rfl (by omega)
 simp only[jZ] at h
 simp only[qIp]
 rw[show(0:Int)=((0:Nat):Int) from rfl,h]
 simp only[resC,j0]
 by_cases h2:s∈wordsR
 ·rw[if_pos h2,jO h2]
 ·rw[if_neg h2,jU h2]
theorem qXm(p:Ps)(hi:p.1<ts.length)(hl:ts.length<1000000)(hN:100<N):qBi N (gR ts pr p)=some (match qOu ts p.1 with| .inl z=>(bR ts z p.1 pr p.2,⟨#[]⟩)| .inr a=>(gR ts pr (a.1,p.2),a.2.2.1)):=by
 have h2:=qKs (N:=N) (pr:=pr) p hi
 have h3:=qLk (N:=N) (ts:=ts) (pr:=pr) p (tkAt ts p.1).2.2.2 9
 simp only[gR] at h2 h3
 simp only[qBi,gR,h2,j0,rres hN,qOu,qOv,gB,jB,jE]
 by_cases k1:(tkAt ts p.1).1=1
 ·have k1':((tkAt ts p.1).1 !=1)=false:=by simp[k1]
  simp only[k1',jB,jE,j0,if_pos k1,qCj]
  rcases qDj (resC (tkAt ts p.1).2.1) with k2|k2
  ·simp only[k2,jH,h3,j0,qHp]
  ·simp only[k2,jB,jE,qMa (show p.1<1000000 by omega)]
 ·have k1':((tkAt ts p.1).1 !=1)=true:=by simp[k1]
  simp only[k1',jH,j0,if_neg k1,qCj,h3,qHp]
theorem zFj(hz:z.2≠0)(hi:i<ts.length):qBi N (bR ts z i pr b)=some (bR ts z i pr b,⟨#[]⟩):=by
 have h2:=qRc (N:=N) (ts:=ts) (i:=i) (pr:=pr) (b:=b) (z:=z) hi
 have h3:=qOs (N:=N) (ts:=ts) (i:=i) (pr:=pr) (b:=b) hz (tkAt ts i).2.2.2 9
 have hz':(z.2 !=0)=true:=by simpa using hz
 simp only[bR] at h2 h3
 simp only[qBi,bR,h2,j0,hz',jH,h3]
theorem zBd(p:Ps)(hi:p.1<ts.length)(hl:ts.length<1000000):qCy N (gR ts pr p)=some (match qOv ts 2 p.1 with| .inl z=>(bR ts z p.1 pr p.2,0)| .inr a=>(gR ts pr (a.1,p.2),a.2.2.2.1)):=by
 have h2:=qKs (N:=N) (pr:=pr) p hi
 have h3:=qLk (N:=N) (ts:=ts) (pr:=pr) p (tkAt ts p.1).2.2.2 9
 simp only[gR] at h2 h3
 simp only[qCy,gR,h2,j0,qOv,gB,jB,jE]
 by_cases k1:(tkAt ts p.1).1=2
 ·have k1':((tkAt ts p.1).1 !=2)=false:=by simp[k1]
  simp only[k1',jB,jE,if_pos k1,qMa (show p.1<1000000 by omega)]
 ·have k1':((tkAt ts p.1).1 !=2)=true:=by simp[k1]
  simp only[k1',jH,if_neg k1,h3,j0,qHp]
theorem zNk(hz:z.2≠0)(hi:i<ts.length):qCy N (bR ts z i pr b)=some (bR ts z i pr b,0):=by
 have h2:=qRc (N:=N) (ts:=ts) (i:=i) (pr:=pr) (b:=b) (z:=z) hi
 have h3:=qOs (N:=N) (ts:=ts) (i:=i) (pr:=pr) (b:=b) hz (tkAt ts i).2.2.2 9
 have hz':(z.2 !=0)=true:=by simpa using hz
 simp only[bR] at h2 h3
 simp only[qCy,bR,h2,j0,hz',jH,h3]
theorem zNc(t:Tok)(x:Ex)(p:Ps)(hb:p.2.length≤256):∃v,qAq N (gR ts pr p) x t.2.2.2=some (match qMh t x p with| .inl z=>(bR ts z p.1 pr p.2,v)| .inr q=>(gR ts pr q.1,(q.2:Int))):=by
 refine⟨IntKind.wrap .i64 ((p.2.length:Int)-1),?_⟩
 have h3:=qLk (N:=N) (ts:=ts) (pr:=pr) p t.2.2.2 2
 simp only[gR] at h3
 simp only[qAq,gR,kI,jH,j0,qMh]
 by_cases k1:p.2.length=256
 ·have k1':((p.2.length:Int)==256)=true:=by simp;omega
  simp only[k1',jH,h3,j0,bR]
  simp[k1,qHp]
 ·have k1':((p.2.length:Int)==256)=false:=by simp;omega
  have hw:IntKind.wrap .i64 (((p.2.length+1:Nat):Int)-1)=(p.2.length:Int):=by rw[wi64 (by omega) (by omega)];omega
  simp only[k1',jB,jE,j0,if_neg k1,kI,jH]
  rw[qCv (by simp only[jC,jG];omega) (by omega)]
  simp only[j0,jI,jC,jG,kN,hw]
theorem zOu(hz:z.2≠0)(x:Ex)(a:Int):∃v,qAq N (bR ts z i pr b) x a=some (bR ts z i pr b,v):=by
 refine⟨IntKind.wrap .i64 ((b.length:Int)-1),?_⟩
 have hz':(z.2==0)=false:=by simpa using hz
 simp only[qAq,bR,hz',jB,jE,j0]
end
end
section
open Go Go.Dc
section
variable {N:Nat} {ts:List Tok} {pr:List ByteArray} {b:List Ex} {i:Nat} {z:Flt}
theorem zJs(p:Ps)(hi:p.1<ts.length)(hl:ts.length<1000000)(hN:100<N)(pth:Bool):qCa N (gR ts pr p) pth=some (match(if pth=true then qQq ts p.1 else qYj ts p.1) with| .inl z=>(bR ts z p.1 pr p.2,⟨#[]⟩)| .inr a=>(gR ts pr (a.1,p.2),a.2.2.1)):=by
 have h2:=qKs (N:=N) (pr:=pr) p hi
 have h3:=qLk (N:=N) (ts:=ts) (pr:=pr) p (tkAt ts p.1).2.2.2 9
 simp only[gR] at h2 h3
 simp only[qCa,gR,h2,j0,qXk hN,zLr hN,qQq,qYj,qOv,gB,jB,jE]
 by_cases k1:(tkAt ts p.1).1=3
 ·have k1':((tkAt ts p.1).1 !=3)=false:=by simp[k1]
  simp only[k1',jB,jE,j0,if_pos k1,qCj]
  cases pth with
  |true=>
   simp only[jH,jR,jB,jE]
   rcases qDj (qNn (tkAt ts p.1).2.1.data.toList) with k2|k2
   ·simp only[k2,jR,jB,jE,j0,jH,qMa (show p.1<1000000 by omega)]
   ·simp only[k2,kC,jB,jE,j0,jH,h3,qHp]
  |false=>
   simp only[jH,kC,jB,jE]
   rcases qDj (zEr (tkAt ts p.1).2.1) with k2|k2
   ·simp only[k2,jR,jB,jE,j0,jH,qMa (show p.1<1000000 by omega)]
   ·simp only[k2,kC,jB,jE,j0,jH,h3,qHp]
 ·have k1':((tkAt ts p.1).1 !=3)=true:=by simp[k1]
  simp only[k1',jH,j0,if_neg k1,qCj,h3,qHp]
  cases pth<;>rfl
theorem zKb(hz:z.2≠0)(hi:i<ts.length)(pth:Bool):qCa N (bR ts z i pr b) pth=some (bR ts z i pr b,⟨#[]⟩):=by
 have h2:=qRc (N:=N) (ts:=ts) (i:=i) (pr:=pr) (b:=b) (z:=z) hi
 have h3:=qOs (N:=N) (ts:=ts) (i:=i) (pr:=pr) (b:=b) hz (tkAt ts i).2.2.2 9
 have hz':(z.2 !=0)=true:=by simpa using hz
 simp only[bR] at h2 h3
 simp only[qCa,bR,h2,j0,hz',jH,h3]
theorem zFz{s:ByteArray}{l:List ByteArray}(hl:l.length<1000000):∀(d i M:Nat),i+d=l.length→d<M→
  qAw (qIf N l s) M (i:Int)=some (if s∈l.drop i then .inr true else .inl ())
 |d,i,0,_,h=>by omega
 |0,i,M+1,h,_=>by
  have:l.drop i=[]:=jV (by omega)
  simp only[qAw,qIf,this]
  rw[if_neg (by simp only[jA];omega)]
  rfl
 |d+1,i,M+1,h,hM=>by
  have hi:i<l.length:=by omega
  have ih:=zFz (s:=s) hl d (i+1) M (by omega) (by omega)
  simp only[qAw,qIf]
  rw[if_pos (by simp only[jA];omega),qDu hi,jM hi]
  simp only[j0,qEj,jA,jL]
  by_cases hs:l[i]=s
  ·rw[if_pos hs,if_pos (.inl hs.symm)];rfl
  ·rw[if_neg hs]
   simp only[j0,qMa (show i<1000000 by omega),ih]
   by_cases h2:s∈l.drop (i+1)
   ·rw[if_pos h2,if_pos (.inr h2)]
   ·rw[if_neg h2,if_neg (fun h=>h.elim (fun e=>hs e.symm) h2)]
theorem rhas{s:ByteArray}{l:List ByteArray}(hl:l.length<1000000)(hN:l.length<N):qDi N l s=some (decide (s∈l)):=by
 have h:=zFz (N:=N) (s:=s) hl l.length 0 N (by omega) hN
 simp only[jZ] at h
 simp only[qDi]
 rw[show(0:Int)=((0:Nat):Int) from rfl,h]
 simp only[j0]
 by_cases h2:s∈l
 ·rw[if_pos h2,jO h2]
 ·rw[if_neg h2,jU h2]
theorem andS(a b:Bool):(if a=true then some b else some false)=some (a&&b):=by cases a<;>rfl
theorem zBl{s:ByteArray}{k:Int}{f:Sr}(hl:f.2.2.length<1000000):∀(d i M:Nat),i+d=f.2.2.length→d<M→
  qAw (qGv N f k s) M (i:Int)=some (if(f.2.2.drop i).any (fun d=>d.1==k&&decide (d.2.1=s))=true then .inr true else .inl ())
 |d,i,0,_,h=>by omega
 |0,i,M+1,h,_=>by
  have:f.2.2.drop i=[]:=jV (by omega)
  simp only[qAw,qGv,this]
  rw[if_neg (by simp only[jA];omega)]
  rfl
 |d+1,i,M+1,h,hM=>by
  have hi:i<f.2.2.length:=by omega
  have ih:=zBl (s:=s) (k:=k) hl d (i+1) M (by omega) (by omega)
  simp only[qAw,qGv]
  rw[if_pos (by simp only[jA];omega),qDu hi,jM hi,List.any_cons]
  simp only[j0,qEj,qMa (show i<1000000 by omega),andS]
  rcases qDj (f.2.2[i].1==k&&decide (f.2.2[i].2.1=s)) with h1|h1
  ·simp only[h1,jH,j0,Bool.true_or]
  ·simp only[h1,jB,jE,j0,ih,d8]
theorem rtaken{s:ByteArray}{k:Int}{f:Sr}(hl:f.2.2.length<1000000)(hN:f.2.2.length<N):qFm N f k s=some (f.2.2.any fun d=>d.1==k&&decide (d.2.1=s)):=by
 have h:=zBl (N:=N) (s:=s) (k:=k) hl f.2.2.length 0 N (by omega) hN
 simp only[jZ] at h
 simp only[qFm]
 rw[show(0:Int)=((0:Nat):Int) from rfl,h]
 simp only[j0]
 rcases qDj (f.2.2.any fun d=>d.1==k&&decide (d.2.1=s)) with h2|h2
 ·rw[if_pos h2,h2]
 ·rw[if_neg (by rw[h2];decide),h2]
theorem op_3:opC ts 3 i=if isC ts 4 ⟨#[42]⟩ i=true then 3 else if isC ts 4 ⟨#[47]⟩ i=true then 4 else if isC ts 4 ⟨#[37]⟩ i=true then 5 else 0:=by
 unfold opC opsC
 simp only[List.find?,isOp,levP]
 rcases qDj (isC ts 4 ⟨#[42]⟩ i) with h1|h1<;>rcases qDj (isC ts 4 ⟨#[47]⟩ i) with h2|h2<;>rcases qDj (isC ts 4 ⟨#[37]⟩ i) with h3|h3<;>simp[h1,h2,h3]
theorem op_2:opC ts 2 i=if isC ts 4 ⟨#[43]⟩ i=true then 1 else if isC ts 4 ⟨#[45]⟩ i=true then 2 else 0:=by
 unfold opC opsC
 simp only[List.find?,isOp,levP]
 rcases qDj (isC ts 4 ⟨#[43]⟩ i) with h1|h1<;>rcases qDj (isC ts 4 ⟨#[45]⟩ i) with h2|h2<;>simp[h1,h2]
theorem op_1:opC ts 1 i=if isC ts 4 ⟨#[60]⟩ i=true then 6 else if isC ts 4 ⟨#[61,61]⟩ i=true then 7 else 0:=by
 unfold opC opsC
 simp only[List.find?,isOp,levP]
 rcases qDj (isC ts 4 ⟨#[60]⟩ i) with h1|h1<;>rcases qDj (isC ts 4 ⟨#[61,61]⟩ i) with h2|h2<;>simp[h1,h2]
theorem qXp{α:Type}{t:Tok}{e:Int}(he:e≠0)(h:(qHp t e:Flt⊕α)= .inl z):z.2≠0:=by
 obtain rfl:=Sum.inl.inj h;exact he
theorem qNo{s:ByteArray}(h:qFj ts s i= .inl z):z.2≠0:=by
 unfold qFj at h;split at h
 ·cases h
 ·exact qXp (by decide) h
theorem zAq{k:Int}(h:qOv ts k i= .inl z):z.2≠0:=by
 unfold qOv at h;split at h
 ·cases h
 ·exact qXp (by decide) h
theorem zIx{α β:Type}{x:Flt⊕α}{f:α→Flt⊕β}(h:qCj x f= .inl z):x= .inl z∨∃a,x= .inr a∧f a= .inl z:=by
 cases x with
 |inl y=>obtain rfl:=Sum.inl.inj h;exact .inl rfl
 |inr a=>exact .inr ⟨a,rfl,h⟩
theorem zFm(h:qOu ts i= .inl z):z.2≠0:=by
 rcases zIx h with h|⟨a,_,h⟩
 ·exact zAq h
 ·split at h
  ·exact qXp (by decide) h
  ·cases h
theorem zEo(h:qQq ts i= .inl z):z.2≠0:=by
 rcases zIx h with h|⟨a,_,h⟩
 ·exact zAq h
 ·split at h
  ·cases h
  ·exact qXp (by decide) h
theorem zRw(h:qYj ts i= .inl z):z.2≠0:=by
 rcases zIx h with h|⟨a,_,h⟩
 ·exact zAq h
 ·split at h
  ·cases h
  ·exact qXp (by decide) h
theorem zJy{t:Tok}{x:Ex}{p:Ps}(h:qMh t x p= .inl z):z.2≠0:=by
 unfold qMh at h;split at h
 ·exact qXp (by decide) h
 ·cases h
end
end
section
open Go Go.Dc
def Bad(ts:List Tok)(z:Flt)(st:RT):Prop:=z.2≠0∧∃(i:Nat) (pr:List ByteArray) (b:List Ex),i<ts.length∧st=bR ts z i pr b
def relR(ts:List Tok)(pr:List ByteArray)(r:PM Nat)(o:RT×Int):Prop:=
 match r with
 | .inl z=>Bad ts z o.1
 | .inr q=>o=(gR ts pr q.1,(q.2:Int))
section
variable {N:Nat} {ts:List Tok} {pr:List ByteArray} {E S:Ps→PM Nat} {d:Int}
variable {r1 r2 r3 r4:RT→Int→Option (RT×Int)}
theorem qOr{z:Flt}{i:Nat}{pr':List ByteArray}{b:List Ex}{v:Int}(hz:z.2≠0)(hi:i<ts.length):relR ts pr (.inl z) (bR ts z i pr' b,v):=⟨hz,i,pr',b,hi,rfl⟩
theorem qSt(t:Tok)(x:Ex)(p:Ps)(hp:p.1<ts.length)(hb:p.2.length≤256):∃o,qAq N (gR ts pr p) x t.2.2.2=some o∧relR ts pr (qMh t x p) o:=by
 obtain⟨v,h⟩:=zNc (N:=N) (ts:=ts) (pr:=pr) t x p hb
 cases hn:qMh t x p with
 |inl z=>rw[hn] at h;exact⟨_,h,qOr (zJy hn) hp⟩
 |inr q=>rw[hn] at h;exact⟨_,h,rfl⟩
theorem qUt{z:Flt}{i:Nat}{pr':List ByteArray}{b:List Ex}(hz:z.2≠0)(hi:i<ts.length)(x:Ex)(a:Int):∃o,qAq N (bR ts z i pr' b) x a=some o∧relR ts pr (.inl z) o:=by
 obtain⟨v,h⟩:=zOu (N:=N) (ts:=ts) (pr:=pr') (b:=b) (i:=i) hz x a
 exact⟨_,h,qOr hz hi⟩
theorem zBk(t:Tok)(x:Ex)(p:Ps)(hok:OkT ts)(hl:ts.length<1000000)(hp:p.1<ts.length)(hb:p.2.length≤256):∃o,
  ((qAj N (gR ts pr p) (⟨#[41]⟩:ByteArray)).bind fun y=>qAq N y x t.2.2.2)=some o∧relR ts pr (qCj (qFj ts qJk p.1) fun i=>qMh t x (i,p.2)) o:=by
 have e:=qPb (N:=N) (pr:=pr) p hp hl ⟨#[41]⟩
 simp only[e,j0,qJk]
 cases h:qFj ts ⟨#[41]⟩ p.1 with
 |inl z=>exact qUt (qNo h) hp x _
 |inr j=>
  obtain⟨rfl,g,-⟩:=qEv hok hp h
  exact qSt t x (p.1+1,p.2) g hb
theorem qQt{z:Flt}{i:Nat}{pr':List ByteArray}{b:List Ex}(hz:z.2≠0)(hi:i<ts.length)(x:Ex)(a:Int):∃o,
  ((qAj N (bR ts z i pr' b) (⟨#[41]⟩:ByteArray)).bind fun y=>qAq N y x a)=some o∧relR ts pr (.inl z) o:=by
 simp only[qOb hz hi,j0]
 exact qUt hz hi x a
variable (hEg:∀p:Ps,p.1<ts.length→p.2.length≤256→∃o,r4 (gR ts pr p) (IntKind.wrap .i64 (d+1))=some o∧relR ts pr (E p) o)
variable (hEb:∀(z:Flt) (i:Nat) (pr':List ByteArray) (b:List Ex),z.2≠0→i<ts.length→∃v,r4 (bR ts z i pr' b) (IntKind.wrap .i64 (d+1))=some (bR ts z i pr' b,v))
def zLl(ts:List Tok)(E:Ps→PM Nat)(n:Nat)(l:List Int)(p:Ps):PM (List Int):=
 if isC ts 4 qPy p.1 then zBu ts E n l (p.1+1,p.2) else qCj (qFj ts qJk p.1) fun i=> .inr ((i,p.2),l)
theorem qZn(n:Nat)(l:List Int)(p:Ps):zBu ts E (n+1) l p=qCj (E p) fun q=>zLl ts E n (l++[(q.2:Int)]) q.1:=rfl
def relL(ts:List Tok)(pr:List ByteArray)(r:PM (List Int))(o:List Int×RT):Prop:=
 match r with
 | .inl z=>Bad ts z o.2
 | .inr q=>o=(q.2,gR ts pr q.1)
theorem zAn{z:Flt}{i:Nat}{pr':List ByteArray}{b:List Ex}(hz:z.2≠0)(M:Nat)(l:List Int):qAw (qCu N r4 d) (M+1) (l,bR ts z i pr' b)=some (l,bR ts z i pr' b):=by
 have hz':(z.2==0)=false:=by simpa using hz
 simp only[qAw,qCu,bR,hz',jB,jE,j0]
include hEg hEb in
theorem zCz(hok:OkT ts)(hl:ts.length<1000000)(hA:Adv ts E):∀(n M:Nat) (l:List Int) (p:Ps),l≠[]→p.1<ts.length→p.2.length≤256→l.length≤p.1→ts.length<p.1+n→ts.length+2<p.1+M→
  ∃o,qAw (qCu N r4 d) M (l,gR ts pr p)=some o∧relL ts pr (zLl ts E n l p) o
 |0,M,l,p,_,hp,_,_,h,_=>by omega
 |n+1,0,l,p,_,hp,_,_,_,h=>by omega
 |n+1,M+1,l,p,hne,hp,hb,hll,hn,hM=>by
  have hs:=qLt (N:=N) (pr:=pr) p hp hl ⟨#[41]⟩
  have hpos:decide ((l.length:Int)>0)=true:=by
   have:=fC.2 hne
   exact jO (by omega)
  have g0:((gR ts pr p).2.2.2.1==0)=true:=rfl
  simp only[qAw,qCu,Prod.eta,g0,jH,hs,j0]
  rcases qDj (isC ts 4 ⟨#[41]⟩ p.1) with c1|c1
  ·simp only[c1,jH,jR,jB,jE]
   refine⟨_,rfl,?_⟩
   have c2:isC ts 4 qPy p.1=false:=by
    simp only[isC,jX,jA] at c1
    simp[isC,c1.2,qPy]
   have c3:qFj ts qJk p.1= .inr (p.1+1):=by simp[qFj,qJk,c1]
   simp only[zLl,c2,jB,jE,c3,qCj]
   rfl
  ·simp only[c1,jB,jE,kC,jH,hpos,Prod.eta,qPb p hp hl,j0]
   have hcc:isC ts 4 qPy p.1=isC ts 4 ⟨#[44]⟩ p.1:=rfl
   simp only[zLl,hcc,qFj]
   rcases qDj (isC ts 4 ⟨#[44]⟩ p.1) with c2|c2
   ·have g:=qFk hok hp (by decide) c2
    simp only[c2,jH]
    obtain⟨o,ho,hr⟩:=hEg (p.1+1,p.2) g hb
    simp only[ho,j0]
    cases hE:E (p.1+1,p.2) with
    |inl z=>
     rw[hE] at hr
     obtain⟨hz,i,pr',b,hi,ho1⟩:=hr
     rw[qCv (by simp only[jC,jG];omega) (by omega)]
     simp only[j0,ho1]
     cases M with
     |zero=>omega
     |succ M=>
      refine⟨_,zAn hz M _,?_⟩
      rw[qZn,hE]
      exact⟨hz,i,pr',b,hi,rfl⟩
    |inr q=>
     rw[hE] at hr
     obtain⟨⟨f1,f2,f3,f4⟩,f5⟩:=hA (p.1+1,p.2) q.1 q.2 g hb hE
     simp only at f1
     rw[qCv (by simp only[jC,jG];omega) (by omega)]
     have hr':o=(gR ts pr q.1,(q.2:Int)):=hr
     simp only[j0,hr']
     rw[qZn,hE]
     exact zCz hok hl hA n M (l++[(q.2:Int)]) q.1 (by simp) f2 f4 (by simp only[jI,jC,jG];omega) (by omega) (by omega)
   ·simp only[c2,jB,jE]
    have c3:isC ts 4 qJk p.1=false:=c1
    simp only[c3,jB,jE,qHp,qCj]
    obtain⟨v,hv⟩:=hEb ((tkAt ts p.1).2.2.2,9) p.1 pr p.2 (show(9:Int)≠0 by decide) hp
    simp only[hv,j0]
    rw[qCv (by simp only[jC,jG];omega) (by omega)]
    simp only[j0]
    cases M with
    |zero=>omega
    |succ M=>exact⟨_,zAn (z:=((tkAt ts p.1).2.2.2,9)) (show(9:Int)≠0 by decide) M _,show(9:Int)≠0 by decide,p.1,pr,p.2,hp,rfl⟩
include hEg hEb in
theorem rargs(hok:OkT ts)(hl:ts.length<1000000)(hN:1000002<N)(hA:Adv ts E)(p:Ps)(hp:p.1<ts.length)(hb:p.2.length≤256):
  ∃o,qAw (qCu N r4 d) N ([],gR ts pr p)=some o∧relL ts pr (if isC ts 4 qJk p.1 then .inr ((p.1+1,p.2),[]) else zBu ts E (ts.length+1) [] p) o:=by
 obtain⟨M,rfl⟩:∃M,N=M+1:=⟨N-1,by omega⟩
 have hs:=qLt (N:=M+1) (pr:=pr) p hp hl ⟨#[41]⟩
 have g0:((gR ts pr p).2.2.2.1==0)=true:=rfl
 have hnil:decide ((([]:List Int).length:Int)>0)=false:=rfl
 simp only[qAw,qCu,Prod.eta,g0,jH,hs,j0,qJk]
 rcases qDj (isC ts 4 ⟨#[41]⟩ p.1) with c1|c1
 ·simp only[c1,jH,jR,jB,jE]
  exact⟨_,rfl,rfl⟩
 ·simp only[c1,jB,jE,kC,jH,hnil,Prod.eta,j0]
  obtain⟨o,ho,hr⟩:=hEg p hp hb
  simp only[ho,j0]
  cases hE:E p with
  |inl z=>
   rw[hE] at hr
   obtain⟨hz,i,pr',b,hi,ho1⟩:=hr
   rw[qCv (by simp) (by omega)]
   simp only[j0,ho1]
   cases M with
   |zero=>omega
   |succ M=>
    refine⟨_,zAn hz M _,?_⟩
    rw[qZn,hE]
    exact⟨hz,i,pr',b,hi,rfl⟩
  |inr q=>
   rw[hE] at hr
   obtain⟨⟨f1,f2,f3,f4⟩,f5⟩:=hA p q.1 q.2 hp hb hE
   rw[qCv (by simp) (by omega)]
   have hr':o=(gR ts pr q.1,(q.2:Int)):=hr
   simp only[j0,hr']
   rw[qZn,hE]
   exact zCz hEg hEb hok hl hA ts.length M ([]++[(q.2:Int)]) q.1 (by simp) f2 f4 (by simp only[jI,jC,jG];omega) (by omega) (by omega)
end
end
section
open Go Go.Dc
section
variable {N:Nat} {ts:List Tok} {pr:List ByteArray} {E S:Ps→PM Nat} {d:Int}
variable {r1 r2 r3 r4:RT→Int→Option (RT×Int)}
theorem zKw{y1:RT×Tok}{y31:RT×ByteArray}{p:Ps}(hpr:pr.length<1000):∀(k i M:Nat),i+k=pr.length→k<M→
  qAw (qCw N y1 y31 (gR ts pr p,false)) M (i:Int)=(match(pr.drop i).findIdx? (fun x=>decide (x=y31.2)) with
   |some j=>(qAq N (gR ts pr p) (2,((i+j:Nat):Int),0,⟨#[]⟩,[]) y1.2.2.2.2).bind fun y=>some (.inr y)
   |none=>some (.inl ()))
 |k,i,0,_,h=>by omega
 |0,i,M+1,h,_=>by
  have:pr.drop i=[]:=jV (by omega)
  have c:decide ((i:Int)<((gR ts pr p).2.2.2.2.1.length:Int))=false:=jU (by simp only[gR];omega)
  simp only[qAw,qCw,this,List.findIdx?_nil,c,jB,jE,j0]
 |k+1,i,M+1,h,hM=>by
  have hi:i<pr.length:=by omega
  have ih:=zKw (y1:=y1) (y31:=y31) (p:=p) hpr k (i+1) M (by omega) (by omega)
  have c:decide ((i:Int)<((gR ts pr p).2.2.2.2.1.length:Int))=true:=jO (by simp only[gR];omega)
  have x:idx (gR ts pr p).2.2.2.2.1 (i:Int)=some pr[i]:=qDu hi
  have g0:((gR ts pr p).2.2.2.1==0)=true:=rfl
  rw[jM hi,List.findIdx?_cons]
  simp only[qAw,qCw,g0,Prod.eta,c,x,jH,j0,qEj,jA]
  by_cases hs:pr[i]=y31.2
  ·simp only[if_pos hs,jH,j0,gQ]
   cases qAq N (gR ts pr p) (2,(i:Int),0,⟨#[]⟩,[]) y1.2.2.2.2<;>rfl
  ·simp only[if_neg hs,j0,jB,jE,qMa (show i<1000000 by omega),ih]
   cases(pr.drop (i+1)).findIdx? (fun x=>decide (x=y31.2)) with
   |none=>rfl
   |some j=>simp only[kE];rw[show i+1+j=i+(j+1) by omega]
theorem zFg{y1:RT×Tok}{y31:RT×ByteArray}{z:Flt}{j:Nat}{pr':List ByteArray}{b:List Ex}(hz:z.2≠0)(hpr:pr'.length<1000):∀(k i M:Nat),i+k=pr'.length→k<M→
  qAw (qCw N y1 y31 (bR ts z j pr' b,false)) M (i:Int)=some (.inl ())
 |k,i,0,_,h=>by omega
 |0,i,M+1,h,_=>by
  have c:decide ((i:Int)<((bR ts z j pr' b).2.2.2.2.1.length:Int))=false:=jU (by simp only[bR];omega)
  simp only[qAw,qCw,c,jB,jE,j0]
 |k+1,i,M+1,h,hM=>by
  have hi:i<pr'.length:=by omega
  have ih:=zFg (y1:=y1) (y31:=y31) (j:=j) (b:=b) hz hpr k (i+1) M (by omega) (by omega)
  have c:decide ((i:Int)<((bR ts z j pr' b).2.2.2.2.1.length:Int))=true:=jO (by simp only[bR];omega)
  have x:idx (bR ts z j pr' b).2.2.2.2.1 (i:Int)=some pr'[i]:=qDu hi
  have g0:((bR ts z j pr' b).2.2.2.1==0)=false:=by simpa[bR] using hz
  simp only[qAw,qCw,g0,Prod.eta,c,x,jH,j0,qEj,jA]
  have:((if pr'[i]=y31.2 then some false else some false):Option Bool)=some false:=by split<;>rfl
  simp only[this,j0,jB,jE,qMa (show i<1000000 by omega),ih]
variable (hEg:∀p:Ps,p.1<ts.length→p.2.length≤256→∃o,r4 (gR ts pr p) (IntKind.wrap .i64 (d+1))=some o∧relR ts pr (E p) o)
variable (hEb:∀(z:Flt) (i:Nat) (pr':List ByteArray) (b:List Ex),z.2≠0→i<ts.length→∃v,r4 (bR ts z i pr' b) (IntKind.wrap .i64 (d+1))=some (bR ts z i pr' b,v))
include hEg hEb in
theorem zUd(hok:OkT ts)(hl:ts.length<1000000)(hN:100<N)(hA:Adv ts E)(t:Tok)(p:Ps)(hp:p.1<ts.length)(hb:p.2.length≤256):∃o,
  ((qAj N (gR ts pr p) (⟨#[40]⟩:ByteArray)).bind fun y11=>(qCa N y11 true).bind fun y12=>(qAj N y12.1 (⟨#[44]⟩:ByteArray)).bind fun y13=>(r4 y13 (IntKind.wrap .i64 (d+1))).bind fun y14=>(qAj N y14.1 (⟨#[41]⟩:ByteArray)).bind fun y15=>qAq N y15 (6,0,0,y12.2,[y14.2]) t.2.2.2)=some o∧
  relR ts pr (qCj (qFj ts qSg p.1) fun i=>qCj (qCj (qQq ts i) fun a=>qCj (qFj ts qPy a.1) fun i=>qCj (E (i,p.2)) fun q=>(.inr (q.1,((6,0,0,a.2.2.1,[(q.2:Int)]):Ex)):Flt⊕(Ps×Ex))) fun q=>qCj (qFj ts qJk q.1.1) fun i=>qMh t q.2 (i,q.1.2)) o:=by
 have bad:∀{z:Flt} {i:Nat} {pr':List ByteArray} {b:List Ex} (x:ByteArray),z.2≠0→i<ts.length→∃o,((r4 (bR ts z i pr' b) (IntKind.wrap .i64 (d+1))).bind fun y14=>(qAj N y14.1 (⟨#[41]⟩:ByteArray)).bind fun y15=>qAq N y15 (6,0,0,x,[y14.2]) t.2.2.2)=some o∧relR ts pr (.inl z) o:=by
  intro z i pr' b x hz hi
  obtain⟨v,hv⟩:=hEb z i pr' b hz hi
  simp only[hv,j0]
  exact qQt hz hi _ _
 simp only[qPb p hp hl,j0,qSg]
 cases h1:qFj ts ⟨#[40]⟩ p.1 with
 |inl z=>
  simp only[zKb (qNo h1) hp,qOb (qNo h1) hp,j0]
  exact bad _ (qNo h1) hp
 |inr i=>
  obtain⟨rfl,g1,-⟩:=qEv hok hp h1
  simp only[zJs (p.1+1,p.2) g1 hl hN,j0,jH,qCj]
  cases h2:qQq ts (p.1+1) with
  |inl z=>
   simp only[qOb (zEo h2) g1,j0]
   exact bad _ (zEo h2) g1
  |inr a=>
   obtain⟨rfl,g2,-⟩:=qNk hok g1 h2
   simp only[qPb (p.1+1+1,p.2) g2 hl,j0,qPy]
   cases h3:qFj ts ⟨#[44]⟩ (p.1+1+1) with
   |inl z=>exact bad _ (qNo h3) g2
   |inr j=>
    obtain⟨rfl,g3,-⟩:=qEv hok g2 h3
    obtain⟨o,ho,hr⟩:=hEg (p.1+1+1+1,p.2) g3 hb
    simp only[ho,j0]
    cases h4:E (p.1+1+1+1,p.2) with
    |inl z=>
     rw[h4] at hr
     obtain⟨hz,i,pr',b,hi,ho1⟩:=hr
     simp only[ho1]
     exact qQt hz hi _ _
    |inr q=>
     rw[h4] at hr
     obtain⟨⟨f1,f2,f3,f4⟩,f5⟩:=hA (p.1+1+1+1,p.2) q.1 q.2 g3 hb h4
     have hr':o=(gR ts pr q.1,(q.2:Int)):=hr
     simp only[hr']
     exact zBk t _ q.1 hok hl f2 f4
theorem zOb(hok:OkT ts)(hl:ts.length<1000000)(hN:100<N)(k:Int)(pth:Bool)(t:Tok)(p:Ps)(hp:p.1<ts.length)(hb:p.2.length≤256):∃o,
  ((qAj N (gR ts pr p) (⟨#[40]⟩:ByteArray)).bind fun y20=>(qCa N y20 pth).bind fun y21=>(qAj N y21.1 (⟨#[41]⟩:ByteArray)).bind fun y22=>qAq N y22 (k,0,0,y21.2,[]) t.2.2.2)=some o∧
  relR ts pr (qCj (qFj ts qSg p.1) fun i=>qCj (qCj (if pth=true then qQq ts i else qYj ts i) fun a=>(.inr ((a.1,p.2),((k,0,0,a.2.2.1,[]):Ex)):Flt⊕(Ps×Ex))) fun q=>qCj (qFj ts qJk q.1.1) fun i=>qMh t q.2 (i,q.1.2)) o:=by
 simp only[qPb p hp hl,j0,qSg]
 cases h1:qFj ts ⟨#[40]⟩ p.1 with
 |inl z=>
  simp only[zKb (qNo h1) hp,j0]
  exact qQt (qNo h1) hp _ _
 |inr i=>
  obtain⟨rfl,g1,-⟩:=qEv hok hp h1
  simp only[zJs (p.1+1,p.2) g1 hl hN,j0,qCj]
  cases h2:(if pth=true then qQq ts (p.1+1) else qYj ts (p.1+1)) with
  |inl z=>
   have hz:z.2≠0:=by
    split at h2
    ·exact zEo h2
    ·exact zRw h2
   exact qQt hz g1 _ _
  |inr a=>
   have g2:a=(p.1+1+1,tkAt ts (p.1+1))∧p.1+1+1<ts.length:=by
    split at h2
    ·obtain⟨e,g2,-⟩:=qNk hok g1 h2;exact⟨e,g2⟩
    ·obtain⟨e,g2,-⟩:=zIa hok g1 h2;exact⟨e,g2⟩
   obtain⟨rfl,g2⟩:=g2
   exact zBk t _ (p.1+1+1,p.2) hok hl g2 hb
theorem zSy(hok:OkT ts)(hl:ts.length<1000000)(t:Tok)(p:Ps)(hp:p.1<ts.length)(hb:p.2.length≤256):∃o,
  ((qAj N (gR ts pr p) (⟨#[40]⟩:ByteArray)).bind fun y25=>(qAl N y25).bind fun y26=>(qCy N y26.1).bind fun y27=>(if(decide (y27.2≥64))=true then((qAm N y27.1 y26.2.2.2.2 9).bind fun y28=>some y28) else(some y27.1):Option RT).bind fun o3=>(qAj N o3 (⟨#[41]⟩:ByteArray)).bind fun y29=>qAq N y29 (10,y27.2,0,⟨#[]⟩,[]) t.2.2.2)=some o∧
  relR ts pr (qCj (qFj ts qSg p.1) fun i=>qCj (qCj (qOv ts 2 i) fun a=>if a.2.2.2.1≥64 then qHp a.2 9 else(.inr ((a.1,p.2),((10,a.2.2.2.1,0,⟨#[]⟩,[]):Ex)):Flt⊕(Ps×Ex))) fun q=>qCj (qFj ts qJk q.1.1) fun i=>qMh t q.2 (i,q.1.2)) o:=by
 have h64:¬decide ((0:Int)≥64)=true:=by decide
 simp only[qPb p hp hl,j0,qSg]
 cases h1:qFj ts ⟨#[40]⟩ p.1 with
 |inl z=>
  simp only[qRc hp,zNk (qNo h1) hp,j0,if_neg h64]
  exact qQt (qNo h1) hp _ _
 |inr i=>
  obtain⟨rfl,g1,-⟩:=qEv hok hp h1
  simp only[qKs (p.1+1,p.2) g1,zBd (p.1+1,p.2) g1 hl,j0,qCj]
  cases h2:qOv ts 2 (p.1+1) with
  |inl z=>
   simp only[if_neg h64,j0]
   exact qQt (zAq h2) g1 _ _
  |inr a=>
   obtain⟨rfl,g2,-⟩:=qQb hok (by decide) g1 h2
   by_cases k:(tkAt ts (p.1+1)).2.2.1≥64
   ·simp only[if_pos k,jA,jH,qLk,j0]
    exact qQt (show(9:Int)≠0 by decide) g2 _ _
   ·simp only[if_neg k,jA,j0]
    exact zBk t _ (p.1+1+1,p.2) hok hl g2 hb
end
end
section
open Go Go.Dc
section
variable {N:Nat} {ts:List Tok} {pr:List ByteArray} {E S:Ps→PM Nat} {d:Int}
variable {r1 r2 r3 r4:RT→Int→Option (RT×Int)}
theorem zKl{s:ByteArray}{i:Nat}(h:(tkAt ts i).1=1):isC ts 1 s i=decide ((tkAt ts i).2.1=s):=by simp[isC,h]
theorem zSk{k:Int}{s:ByteArray}{i:Nat}(h:(tkAt ts i).1≠k):isC ts k s i=false:=by simp[isC,h]
theorem obs{α:Type}(x:Option α):(x.bind fun y=>some y)=x:=by cases x<;>rfl
theorem zNy{z:Flt}{i:Nat}{pr':List ByteArray}{b:List Ex}(hz:z.2≠0)(hi:i<ts.length):qDm N r1 r2 r3 r4 (bR ts z i pr' b) d=some (bR ts z i pr' b,0):=by
 have g0:((bR ts z i pr' b).2.2.2.1 !=0)=true:=by simpa[bR] using hz
 simp only[qDm,Prod.eta,qRc hi,j0,g0,jH]
variable (hEg:∀p:Ps,p.1<ts.length→p.2.length≤256→∃o,r4 (gR ts pr p) (IntKind.wrap .i64 (d+1))=some o∧relR ts pr (E p) o)
variable (hEb:∀(z:Flt) (i:Nat) (pr':List ByteArray) (b:List Ex),z.2≠0→i<ts.length→∃v,r4 (bR ts z i pr' b) (IntKind.wrap .i64 (d+1))=some (bR ts z i pr' b,v))
include hEg hEb in
theorem zTp(hok:OkT ts)(hl:ts.length<1000000)(hpr:pr.length<1000)(hN:1000002<N)(hA:Adv ts E)(p:Ps)(hp:p.1<ts.length)(hb:p.2.length≤256):
  ∃o,qDm N r1 r2 r3 r4 (gR ts pr p) d=some o∧relR ts pr (qPt ts pr E p) o:=by
 have g0:((gR ts pr p).2.2.2.1 !=0)=false:=rfl
 simp only[qDm,Prod.eta,qKs p hp,j0,g0,jB,jE]
 unfold qPt
 dsimp only
 by_cases k1:(tkAt ts p.1).1=2
 ·have k1':((tkAt ts p.1).1==2)=true:=by simpa using k1
  have g:=hok.next hp (show(tkAt ts p.1).1≠5 by rw[k1];decide)
  rw[if_pos k1]
  simp only[k1',jH,zBd p hp hl,qOv,if_pos k1,j0]
  obtain⟨o,ho,hr⟩:=qSt (N:=N) (pr:=pr) (tkAt ts p.1) (1,(tkAt ts p.1).2.2.1,0,⟨#[]⟩,[]) (p.1+1,p.2) g hb
  simp only[ho,j0]
  exact⟨_,rfl,hr⟩
 have k1':((tkAt ts p.1).1==2)=false:=by simpa using k1
 rw[if_neg k1]
 simp only[k1',jB,jE,qLt p hp hl,j0]
 rcases qDj (isC ts 4 zPd p.1) with c1|c1
 ·have c1':isC ts 4 ⟨#[45]⟩ p.1=true:=c1
  have g:=qFk hok hp (by decide) c1
  simp only[c1,c1',jH,zBd (p.1+1,p.2) g hl,j0]
  cases h:qOv ts 2 (p.1+1) with
  |inl z=>
   obtain⟨o,ho,hr⟩:=qUt (N:=N) (pr:=pr) (pr':=pr) (b:=p.2) (zAq h) g (1,IntKind.wrap .i64 (0-0),0,⟨#[]⟩,[]) (tkAt ts p.1).2.2.2
   simp only[ho,j0]
   exact⟨_,rfl,hr⟩
  |inr a=>
   obtain⟨rfl,g2,-⟩:=qQb hok (by decide) g h
   obtain⟨o,ho,hr⟩:=qSt (N:=N) (pr:=pr) (tkAt ts p.1) (1,IntKind.wrap .i64 (0-(tkAt ts (p.1+1)).2.2.1),0,⟨#[]⟩,[]) (p.1+1+1,p.2) g2 hb
   simp only[ho,j0,qCj]
   exact⟨_,rfl,hr⟩
 have c1':isC ts 4 ⟨#[45]⟩ p.1=false:=c1
 simp only[c1,c1',jB,jE,qLt p hp hl,j0]
 rcases qDj (isC ts 4 qSg p.1) with c2|c2
 ·have c2':isC ts 4 ⟨#[40]⟩ p.1=true:=c2
  have g:=qFk hok hp (by decide) c2
  obtain⟨o,ho,hr⟩:=hEg (p.1+1,p.2) g hb
  simp only[c2,c2',jH,ho,j0]
  cases h:E (p.1+1,p.2) with
  |inl z=>
   rw[h] at hr
   obtain⟨hz,i,pr',b,hi,ho1⟩:=hr
   simp only[ho1,qOb hz hi,j0,qCj]
   exact⟨_,rfl,qOr hz hi⟩
  |inr q=>
   rw[h] at hr
   obtain⟨⟨f1,f2,f3,f4⟩,f5⟩:=hA (p.1+1,p.2) q.1 q.2 g hb h
   have hr':o=(gR ts pr q.1,(q.2:Int)):=hr
   simp only[hr',qPb q.1 f2 hl,j0,qCj,qJk]
   cases hj:qFj ts ⟨#[41]⟩ q.1.1 with
   |inl z=>exact⟨_,rfl,qOr (qNo hj) f2⟩
   |inr j=>exact⟨_,rfl,rfl⟩
 have c2':isC ts 4 ⟨#[40]⟩ p.1=false:=c2
 simp only[c2,c2',jB,jE,qNl p hp hl,j0]
 by_cases k2:(tkAt ts p.1).1=1
 rotate_left
 ·-- no name
  rw[if_pos k2]
  have n:∀s,isC ts 1 s p.1=false:=fun s=>zSk k2
  have hname:qOu ts p.1= .inl ((tkAt ts p.1).2.2.2,9):=by simp[qOu,qOv,k2,qCj,qHp]
  simp only[n,jB,jE,qNl p hp hl,j0,qXm p hp hl (by omega:100<N),hname]
  have hz:(((tkAt ts p.1).2.2.2,(9:Int)):Flt).2≠0:=show(9:Int)≠0 by decide
  have hp0:=zFg (N:=N) (ts:=ts) (y1:=(gR ts pr p,tkAt ts p.1)) (y31:=(bR ts ((tkAt ts p.1).2.2.2,9) p.1 pr p.2,(⟨#[]⟩:ByteArray))) (j:=p.1) (pr':=pr) (b:=p.2) hz hpr pr.length 0 N (by omega) (by omega)
  rw[show((0:Nat):Int)=0 from rfl] at hp0
  simp only[zFn hz,j0,kC,jH,hp0,qOs hz]
  exact⟨_,rfl,qOr hz hp⟩
 rw[if_neg (show ¬(tkAt ts p.1).1≠1 by simpa using k2)]
 have g:=hok.next hp (show(tkAt ts p.1).1≠5 by rw[k2];decide)
 have n:∀s,isC ts 1 s p.1=decide ((tkAt ts p.1).2.1=s):=fun s=>zKl k2
 simp only[n,qNl p hp hl,j0]
 by_cases w1:(tkAt ts p.1).2.1=qTy
 ·rw[if_pos (show(tkAt ts p.1).2.1∈[qTy,qUo,sHas,sEnv,qVq] by rw[w1];simp)]
  have w1':decide ((tkAt ts p.1).2.1=(⟨#[114,101,97,100]⟩:ByteArray))=true:=jO w1
  simp only[w1',jH]
  obtain⟨o,ho,hr⟩:=zUd (N:=N) hEg hEb hok hl (by omega) hA (tkAt ts p.1) (p.1+1,p.2) g hb
  refine⟨o,Eq.trans ?_ ho,?_⟩
  ·simp only[obs]
  ·simp only[qMp,if_pos w1]
   exact hr
 have w1':decide ((tkAt ts p.1).2.1=(⟨#[114,101,97,100]⟩:ByteArray))=false:=jU w1
 simp only[w1',jB,jE,qNl p hp hl,j0,n]
 by_cases w2:(tkAt ts p.1).2.1=qUo
 ·rw[if_pos (show(tkAt ts p.1).2.1∈[qTy,qUo,sHas,sEnv,qVq] by rw[w2];simp)]
  have w2':decide ((tkAt ts p.1).2.1=(⟨#[115,105,122,101]⟩:ByteArray))=true:=jO w2
  have wx:((tkAt ts p.1).2.1.toList==(⟨#[104,97,115]⟩:ByteArray).toList)=false:=by rw[qEj,w2];decide
  have wy:((tkAt ts p.1).2.1.toList==(⟨#[101,110,118]⟩:ByteArray).toList)=false:=by rw[qEj,w2];decide
  simp only[w2',jH,j0,wx,wy,jB,jE]
  obtain⟨o,ho,hr⟩:=zOb (N:=N) (pr:=pr) hok hl (by omega) 7 true (tkAt ts p.1) (p.1+1,p.2) g hb
  refine⟨o,Eq.trans ?_ ho,?_⟩
  ·simp only[obs];rfl
  ·simp only[qMp,if_neg w1,if_pos w2]
   exact hr
 have w2':decide ((tkAt ts p.1).2.1=(⟨#[115,105,122,101]⟩:ByteArray))=false:=jU w2
 simp only[w2',jB,jE,qNl p hp hl,j0,n]
 by_cases w3:(tkAt ts p.1).2.1=sHas
 ·rw[if_pos (show(tkAt ts p.1).2.1∈[qTy,qUo,sHas,sEnv,qVq] by rw[w3];simp)]
  have w3':decide ((tkAt ts p.1).2.1=(⟨#[104,97,115]⟩:ByteArray))=true:=jO w3
  have wx:((tkAt ts p.1).2.1.toList==(⟨#[104,97,115]⟩:ByteArray).toList)=true:=by rw[qEj,w3']
  simp only[w3',jH,j0,wx]
  obtain⟨o,ho,hr⟩:=zOb (N:=N) (pr:=pr) hok hl (by omega) 8 true (tkAt ts p.1) (p.1+1,p.2) g hb
  refine⟨o,Eq.trans ?_ ho,?_⟩
  ·simp only[obs];rfl
  ·simp only[qMp,if_neg w1,if_neg w2,if_pos w3]
   exact hr
 have w3':decide ((tkAt ts p.1).2.1=(⟨#[104,97,115]⟩:ByteArray))=false:=jU w3
 simp only[w3',jB,jE,qNl p hp hl,j0,n]
 by_cases w4:(tkAt ts p.1).2.1=sEnv
 ·rw[if_pos (show(tkAt ts p.1).2.1∈[qTy,qUo,sHas,sEnv,qVq] by rw[w4];simp)]
  have w4':decide ((tkAt ts p.1).2.1=(⟨#[101,110,118]⟩:ByteArray))=true:=jO w4
  have wx:((tkAt ts p.1).2.1.toList==(⟨#[104,97,115]⟩:ByteArray).toList)=false:=by rw[qEj,w4];decide
  have wy:((tkAt ts p.1).2.1.toList==(⟨#[101,110,118]⟩:ByteArray).toList)=true:=by rw[qEj,w4']
  simp only[w4',jH,j0,wx,wy,jB,jE]
  obtain⟨o,ho,hr⟩:=zOb (N:=N) (pr:=pr) hok hl (by omega) 9 false (tkAt ts p.1) (p.1+1,p.2) g hb
  refine⟨o,Eq.trans ?_ ho,?_⟩
  ·simp only[obs];rfl
  ·simp only[qMp,if_neg w1,if_neg w2,if_neg w3,if_pos w4]
   exact hr
 have w4':decide ((tkAt ts p.1).2.1=(⟨#[101,110,118]⟩:ByteArray))=false:=jU w4
 simp only[w4',jB,jE,qNl p hp hl,j0,n]
 by_cases w5:(tkAt ts p.1).2.1=qVq
 ·rw[if_pos (show(tkAt ts p.1).2.1∈[qTy,qUo,sHas,sEnv,qVq] by rw[w5];simp)]
  have w5':decide ((tkAt ts p.1).2.1=(⟨#[102,108,105,112]⟩:ByteArray))=true:=jO w5
  simp only[w5',jH]
  obtain⟨o,ho,hr⟩:=zSy (N:=N) (pr:=pr) hok hl (tkAt ts p.1) (p.1+1,p.2) g hb
  refine⟨o,Eq.trans ?_ ho,?_⟩
  ·simp only[obs]
  ·simp only[qMp,if_neg w1,if_neg w2,if_neg w3,if_neg w4]
   exact hr
 have w5':decide ((tkAt ts p.1).2.1=(⟨#[102,108,105,112]⟩:ByteArray))=false:=jU w5
 rw[if_neg (show ¬(tkAt ts p.1).2.1∈[qTy,qUo,sHas,sEnv,qVq] by simp[w1,w2,w3,w4,w5])]
 simp only[w5',jB,jE,qXm p hp hl (by omega:100<N),j0,qOu,qOv,if_pos k2,qCj]
 rcases qDj (resC (tkAt ts p.1).2.1) with c3|c3
 ·simp only[c3,jH,qHp]
  have hz:(((tkAt ts p.1).2.2.2,(9:Int)):Flt).2≠0:=show(9:Int)≠0 by decide
  have hp0:=zFg (N:=N) (ts:=ts) (y1:=(gR ts pr p,tkAt ts p.1)) (y31:=(bR ts ((tkAt ts p.1).2.2.2,9) p.1 pr p.2,(⟨#[]⟩:ByteArray))) (j:=p.1) (pr':=pr) (b:=p.2) hz hpr pr.length 0 N (by omega) (by omega)
  rw[show((0:Nat):Int)=0 from rfl] at hp0
  simp only[zFn hz,j0,kC,jH,hp0,qOs hz]
  exact⟨_,rfl,qOr hz hp⟩
 simp only[c3,jB,jE,qLt (p.1+1,p.2) g hl,j0]
 rcases qDj (isC ts 4 qSg (p.1+1)) with c4|c4
 ·have c4':isC ts 4 ⟨#[40]⟩ (p.1+1)=true:=c4
  have g2:=qFk hok g (by decide) c4
  simp only[c4,c4',jH,jR,jB,jE]
  have hs:qFj ts qSg (p.1+1)= .inr (p.1+1+1):=by simp[qFj,c4]
  simp only[qMn,hs,qCj]
  obtain⟨o,ho,hr⟩:=rargs (N:=N) hEg hEb hok hl (by omega) hA (p.1+1+1,p.2) g2 hb
  simp only[ho,j0]
  cases ha:(if isC ts 4 qJk (p.1+1+1)=true then .inr ((p.1+1+1+1,p.2),[]) else zBu ts E (ts.length+1) [] (p.1+1+1,p.2):PM (List Int)) with
  |inl z=>
   rw[ha] at hr
   obtain⟨hz,i,pr',b,hi,ho1⟩:=hr
   simp only[ho1]
   obtain⟨o2,ho2,hr2⟩:=qUt (N:=N) (pr:=pr) (pr':=pr') (b:=b) hz hi (3,0,0,(tkAt ts p.1).2.1,o.1) (tkAt ts p.1).2.2.2
   simp only[ho2,j0]
   exact⟨_,rfl,hr2⟩
  |inr q=>
   rw[ha] at hr
   have hr':o=(q.2,gR ts pr q.1):=hr
   have hq:q.1.1<ts.length∧q.1.2.length≤256:=by
    split at ha
    ·rename_i hc
     obtain rfl:=Sum.inr.inj ha
     exact⟨qFk hok g2 (by decide) hc,hb⟩
    ·obtain⟨f1,f2,f3,f4⟩:=zAl hok hA _ _ (p.1+1+1,p.2) q.1 q.2 g2 hb ha
     exact⟨f2,f4⟩
   simp only[hr']
   obtain⟨o2,ho2,hr2⟩:=qSt (N:=N) (pr:=pr) (tkAt ts p.1) (3,0,0,(tkAt ts p.1).2.1,q.2) q.1 hq.1 hq.2
   simp only[ho2,j0]
   exact⟨_,rfl,hr2⟩
 have c4':isC ts 4 ⟨#[40]⟩ (p.1+1)=false:=c4
 simp only[c4,c4',jB,jE,kC,jH]
 have hp0:=zKw (N:=N) (ts:=ts) (pr:=pr) (y1:=(gR ts pr p,tkAt ts p.1)) (y31:=(gR ts pr (p.1+1,p.2),(tkAt ts p.1).2.1)) (p:=(p.1+1,p.2)) hpr pr.length 0 N (by omega) (by omega)
 rw[show((0:Nat):Int)=0 from rfl] at hp0
 simp only[hp0,jZ,kN]
 cases hi:pr.findIdx? (fun x=>decide (x=(tkAt ts p.1).2.1)) with
 |none=>
  simp only[j0,qLk]
  exact⟨_,rfl,qOr (show(9:Int)≠0 by decide) g⟩
 |some j=>
  obtain⟨o2,ho2,hr2⟩:=qSt (N:=N) (pr:=pr) (tkAt ts p.1) (2,(j:Int),0,⟨#[]⟩,[]) (p.1+1,p.2) g hb
  simp only[ho2,j0]
  exact⟨_,rfl,hr2⟩
end
end
section
open Go Go.Dc
section
variable {N:Nat} {ts:List Tok} {pr:List ByteArray} {E S:Ps→PM Nat} {d:Int}
variable {r r1 r2 r3 r4:RT→Int→Option (RT×Int)}
theorem zOe{L i:Nat}(h:opC ts L i≠0):(tkAt ts i).1=4:=by
 apply Decidable.byContradiction
 intro hk
 apply h
 unfold opC
 have:opsC.find? (isOp ts L i)=none:=by
  rw[List.find?_eq_none]
  intro o _ ho
  simp only[isOp,jX] at ho
  exact hk (qZe ho.1)
 rw[this]
theorem rmore{f:Int×RT→Option ((Int×RT)⊕(Int×RT))}{L:Nat}(hok:OkT ts)(hS:Adv ts S)
  (hSg:∀p:Ps,p.1<ts.length→p.2.length≤256→∃o,r (gR ts pr p) d=some o∧relR ts pr (S p) o)
  (hSb:∀(z:Flt) (i:Nat) (pr':List ByteArray) (b:List Ex),z.2≠0→i<ts.length→∃v,r (bR ts z i pr' b) d=some (bR ts z i pr' b,v))
  (hfb:∀(z:Flt) (i:Nat) (pr':List ByteArray) (b:List Ex) (v:Int),z.2≠0→f (v,bR ts z i pr' b)=some (.inr (v,bR ts z i pr' b)))
  {n M x:Nat} {p:Ps} (hp:p.1<ts.length) (hb:p.2.length≤256) (hM:0<M) (hL:L≠1) (hop:opC ts L p.1≠0)
  (ih:∀(x:Nat) (q:Ps),q.1<ts.length→p.1<q.1→q.2.length≤256→x<q.2.length→∃o,qAw f M ((x:Int),gR ts pr q)=some o∧relR ts pr (qTh ts L S n x q) (o.2,o.1)):
  ∃o,((r (gR ts pr (p.1+1,p.2)) d).bind fun y6=>(qAq N y6.1 (4,0,opC ts L p.1,⟨#[]⟩,[(x:Int),y6.2]) (tkAt ts p.1).2.2.2).bind fun y7=>qAw f M (y7.2,y7.1))=some o∧relR ts pr (qTh ts L S (n+1) x p) (o.2,o.1):=by
 have g:=hok.next hp (show(tkAt ts p.1).1≠5 by rw[zOe hop];decide)
 obtain⟨o,ho,hr⟩:=hSg (p.1+1,p.2) g hb
 obtain⟨M',rfl⟩:∃M',M=M'+1:=⟨M-1,by omega⟩
 have bad:∀(z:Flt) (i:Nat) (pr':List ByteArray) (b:List Ex) (v:Int),z.2≠0→qAw f (M'+1) (v,bR ts z i pr' b)=some (v,bR ts z i pr' b):=by
  intro z i pr' b v hz
  simp only[qAw,hfb z i pr' b v hz,j0]
 simp only[ho,j0,qTh]
 rw[if_neg hop]
 cases h:S (p.1+1,p.2) with
 |inl z=>
  rw[h] at hr
  obtain⟨hz,i,pr',b,hi,ho1⟩:=hr
  simp only[ho1,qCj]
  obtain⟨v,hv⟩:=zOu (N:=N) (ts:=ts) (pr:=pr') (b:=b) (i:=i) hz (4,0,opC ts L p.1,⟨#[]⟩,[(x:Int),o.2]) (tkAt ts p.1).2.2.2
  simp only[hv,j0,bad _ _ _ _ _ hz]
  exact⟨_,rfl,qOr hz hi⟩
 |inr q=>
  rw[h] at hr
  obtain⟨⟨f1,f2,f3,f4⟩,f5⟩:=hS (p.1+1,p.2) q.1 q.2 g hb h
  have hr':o=(gR ts pr q.1,(q.2:Int)):=hr
  simp only[hr',qCj]
  obtain⟨v,hv⟩:=zNc (N:=N) (ts:=ts) (pr:=pr) (tkAt ts p.1) (4,0,opC ts L p.1,⟨#[]⟩,[(x:Int),(q.2:Int)]) q.1 f4
  simp only[hv,j0]
  cases hn:qMh (tkAt ts p.1) (4,0,opC ts L p.1,⟨#[]⟩,[(x:Int),(q.2:Int)]) q.1 with
  |inl z=>
   simp only[bad _ _ _ _ _ (zJy hn)]
   exact⟨_,rfl,qOr (zJy hn) f2⟩
  |inr s=>
   obtain⟨⟨k1,k2,k3,k4⟩,k5⟩:=qQf (ts:=ts) (p:=p) (r:=q.1) (by simp only at f1;omega) f2 f3 f4 hn
   simp only[if_neg hL]
   exact ih s.2 s.1 k2 k1 k4 k5
theorem rstop{L n x:Nat}{p:Ps}(hop:opC ts L p.1=0):relR ts pr (qTh ts L S (n+1) x p) (gR ts pr p,(x:Int)):=by
 simp only[qTh]
 rw[if_pos hop]
 rfl
theorem zEw(z:Flt)(i:Nat)(pr':List ByteArray)(b:List Ex)(v:Int)(hz:z.2≠0):qCm N r d (v,bR ts z i pr' b)=some (.inr (v,bR ts z i pr' b)):=by
 have g0:((bR ts z i pr' b).2.2.2.1==0)=false:=by simpa[bR] using hz
 simp only[qCm,g0,jB,jE,Prod.eta]
theorem zJb(z:Flt)(i:Nat)(pr':List ByteArray)(b:List Ex)(v:Int)(hz:z.2≠0):qCz N r d (v,bR ts z i pr' b)=some (.inr (v,bR ts z i pr' b)):=by
 have g0:((bR ts z i pr' b).2.2.2.1==0)=false:=by simpa[bR] using hz
 simp only[qCz,g0,jB,jE,Prod.eta]
theorem zCh(hok:OkT ts)(hl:ts.length<1000000)(hS:Adv ts S)
  (hSg:∀p:Ps,p.1<ts.length→p.2.length≤256→∃o,r (gR ts pr p) d=some o∧relR ts pr (S p) o)
  (hSb:∀(z:Flt) (i:Nat) (pr':List ByteArray) (b:List Ex),z.2≠0→i<ts.length→∃v,r (bR ts z i pr' b) d=some (bR ts z i pr' b,v)):
  ∀(n M x:Nat) (p:Ps),p.1<ts.length→p.2.length≤256→x<p.2.length→ts.length<p.1+n→ts.length+1<p.1+M→
  ∃o,qAw (qCm N r d) M ((x:Int),gR ts pr p)=some o∧relR ts pr (qTh ts 3 S n x p) (o.2,o.1)
 |0,M,x,p,hp,_,_,h,_=>by omega
 |n+1,0,x,p,hp,_,_,_,h=>by omega
 |n+1,M+1,x,p,hp,hb,hx,hn,hM=>by
  have g0:((gR ts pr p).2.2.2.1==0)=true:=rfl
  have ih:∀(x:Nat) (q:Ps),q.1<ts.length→p.1<q.1→q.2.length≤256→x<q.2.length→∃o,qAw (qCm N r d) M ((x:Int),gR ts pr q)=some o∧relR ts pr (qTh ts 3 S n x q) (o.2,o.1):=
   fun x q h1 h2 h3 h4=>zCh hok hl hS hSg hSb n M x q h1 h3 h4 (by omega) (by omega)
  have go:=fun hop=>rmore (N:=N) (n:=n) (x:=x) hok hS hSg hSb (zEw (N:=N) (r:=r) (d:=d)) hp hb (show 0<M by omega) (show 3≠1 by decide) hop ih
  have h3:=op_3 (ts:=ts) (i:=p.1)
  rcases qDj (isC ts 4 ⟨#[42]⟩ p.1) with c1|c1
  ·simp only[c1,jH] at h3
   obtain⟨o,ho,hr⟩:=go (by rw[h3];decide)
   refine⟨o,Eq.trans ?_ ho,hr⟩
   simp only[qAw,qCm,Prod.eta,g0,jH,qKs p hp,qLt p hp hl,j0,c1,h3]
   cases r (gR ts pr (p.1+1,p.2)) d with
   |none=>rfl
   |some y=>simp only[j0];cases qAq N y.1 (4,0,3,⟨#[]⟩,[(x:Int),y.2]) (tkAt ts p.1).2.2.2<;>rfl
  rcases qDj (isC ts 4 ⟨#[47]⟩ p.1) with c2|c2
  ·simp only[c1,c2,jH,jB,jE] at h3
   obtain⟨o,ho,hr⟩:=go (by rw[h3];decide)
   refine⟨o,Eq.trans ?_ ho,hr⟩
   simp only[qAw,qCm,Prod.eta,g0,jH,qKs p hp,qLt p hp hl,j0,c1,c2,h3,jB,jE]
   cases r (gR ts pr (p.1+1,p.2)) d with
   |none=>rfl
   |some y=>simp only[j0];cases qAq N y.1 (4,0,4,⟨#[]⟩,[(x:Int),y.2]) (tkAt ts p.1).2.2.2<;>rfl
  rcases qDj (isC ts 4 ⟨#[37]⟩ p.1) with c3|c3
  ·simp only[c1,c2,c3,jH,jB,jE] at h3
   obtain⟨o,ho,hr⟩:=go (by rw[h3];decide)
   refine⟨o,Eq.trans ?_ ho,hr⟩
   simp only[qAw,qCm,Prod.eta,g0,jH,qKs p hp,qLt p hp hl,j0,c1,c2,c3,h3,jB,jE]
   cases r (gR ts pr (p.1+1,p.2)) d with
   |none=>rfl
   |some y=>simp only[j0];cases qAq N y.1 (4,0,5,⟨#[]⟩,[(x:Int),y.2]) (tkAt ts p.1).2.2.2<;>rfl
  simp only[c1,c2,c3,jB,jE] at h3
  simp only[qAw,qCm,Prod.eta,g0,jH,qKs p hp,qLt p hp hl,j0,c1,c2,c3,jB,jE]
  exact⟨_,rfl,rstop h3⟩
theorem zFy(hok:OkT ts)(hl:ts.length<1000000)(hS:Adv ts S)
  (hSg:∀p:Ps,p.1<ts.length→p.2.length≤256→∃o,r (gR ts pr p) d=some o∧relR ts pr (S p) o)
  (hSb:∀(z:Flt) (i:Nat) (pr':List ByteArray) (b:List Ex),z.2≠0→i<ts.length→∃v,r (bR ts z i pr' b) d=some (bR ts z i pr' b,v)):
  ∀(n M x:Nat) (p:Ps),p.1<ts.length→p.2.length≤256→x<p.2.length→ts.length<p.1+n→ts.length+1<p.1+M→
  ∃o,qAw (qCz N r d) M ((x:Int),gR ts pr p)=some o∧relR ts pr (qTh ts 2 S n x p) (o.2,o.1)
 |0,M,x,p,hp,_,_,h,_=>by omega
 |n+1,0,x,p,hp,_,_,_,h=>by omega
 |n+1,M+1,x,p,hp,hb,hx,hn,hM=>by
  have g0:((gR ts pr p).2.2.2.1==0)=true:=rfl
  have ih:∀(x:Nat) (q:Ps),q.1<ts.length→p.1<q.1→q.2.length≤256→x<q.2.length→∃o,qAw (qCz N r d) M ((x:Int),gR ts pr q)=some o∧relR ts pr (qTh ts 2 S n x q) (o.2,o.1):=
   fun x q h1 h2 h3 h4=>zFy hok hl hS hSg hSb n M x q h1 h3 h4 (by omega) (by omega)
  have go:=fun hop=>rmore (N:=N) (n:=n) (x:=x) hok hS hSg hSb (zJb (N:=N) (r:=r) (d:=d)) hp hb (show 0<M by omega) (show 2≠1 by decide) hop ih
  have h3:=op_2 (ts:=ts) (i:=p.1)
  rcases qDj (isC ts 4 ⟨#[43]⟩ p.1) with c1|c1
  ·simp only[c1,jH] at h3
   obtain⟨o,ho,hr⟩:=go (by rw[h3];decide)
   refine⟨o,Eq.trans ?_ ho,hr⟩
   simp only[qAw,qCz,Prod.eta,g0,jH,qKs p hp,qLt p hp hl,j0,c1,h3]
   cases r (gR ts pr (p.1+1,p.2)) d with
   |none=>rfl
   |some y=>simp only[j0];cases qAq N y.1 (4,0,1,⟨#[]⟩,[(x:Int),y.2]) (tkAt ts p.1).2.2.2<;>rfl
  rcases qDj (isC ts 4 ⟨#[45]⟩ p.1) with c2|c2
  ·simp only[c1,c2,jH,jB,jE] at h3
   obtain⟨o,ho,hr⟩:=go (by rw[h3];decide)
   refine⟨o,Eq.trans ?_ ho,hr⟩
   simp only[qAw,qCz,Prod.eta,g0,jH,qKs p hp,qLt p hp hl,j0,c1,c2,h3,jB,jE]
   cases r (gR ts pr (p.1+1,p.2)) d with
   |none=>rfl
   |some y=>simp only[j0];cases qAq N y.1 (4,0,2,⟨#[]⟩,[(x:Int),y.2]) (tkAt ts p.1).2.2.2<;>rfl
  simp only[c1,c2,jB,jE] at h3
  simp only[qAw,qCz,Prod.eta,g0,jH,qKs p hp,qLt p hp hl,j0,c1,c2,jB,jE]
  exact⟨_,rfl,rstop h3⟩
theorem rterm(hok:OkT ts)(hl:ts.length<1000000)(hN:1000002<N)(hS:Adv ts S)
  (h1:∀p:Ps,p.1<ts.length→p.2.length≤256→∃o,r1 (gR ts pr p) d=some o∧relR ts pr (S p) o)
  (h1b:∀(z:Flt) (i:Nat) (pr':List ByteArray) (b:List Ex),z.2≠0→i<ts.length→∃v,r1 (bR ts z i pr' b) d=some (bR ts z i pr' b,v))
  (p:Ps) (hp:p.1<ts.length) (hb:p.2.length≤256):∃o,qDt N r1 r2 r3 r4 (gR ts pr p) d=some o∧relR ts pr (qTa ts 3 S p) o:=by
 obtain⟨o,ho,hr⟩:=h1 p hp hb
 simp only[qDt,Prod.eta,ho,j0,qTa]
 cases h:S p with
 |inl z=>
  rw[h] at hr
  obtain⟨hz,i,pr',b,hi,ho1⟩:=hr
  obtain⟨M,rfl⟩:∃M,N=M+1:=⟨N-1,by omega⟩
  simp only[ho1,qCj,qAw,zEw z i pr' b _ hz,j0]
  exact⟨_,rfl,qOr hz hi⟩
 |inr q=>
  rw[h] at hr
  obtain⟨⟨f1,f2,f3,f4⟩,f5⟩:=hS p q.1 q.2 hp hb h
  have hr':o=(gR ts pr q.1,(q.2:Int)):=hr
  obtain⟨o2,ho2,hr2⟩:=zCh (N:=N) hok hl hS h1 h1b (ts.length+1) N q.2 q.1 f2 f4 f5 (by omega) (by omega)
  simp only[hr',qCj,ho2,j0]
  exact⟨_,rfl,hr2⟩
theorem zTd(h1b:∀(z:Flt) (i:Nat) (pr':List ByteArray) (b:List Ex),z.2≠0→i<ts.length→∃v,r1 (bR ts z i pr' b) d=some (bR ts z i pr' b,v))(hN:0<N)
  (z:Flt) (i:Nat) (pr':List ByteArray) (b:List Ex) (hz:z.2≠0) (hi:i<ts.length):∃v,qDt N r1 r2 r3 r4 (bR ts z i pr' b) d=some (bR ts z i pr' b,v):=by
 obtain⟨v,hv⟩:=h1b z i pr' b hz hi
 obtain⟨M,rfl⟩:∃M,N=M+1:=⟨N-1,by omega⟩
 simp only[qDt,Prod.eta,hv,j0,qAw,zEw z i pr' b _ hz]
 exact⟨_,rfl⟩
theorem rsum(hok:OkT ts)(hl:ts.length<1000000)(hN:1000002<N)(hS:Adv ts S)
  (h2:∀p:Ps,p.1<ts.length→p.2.length≤256→∃o,r2 (gR ts pr p) d=some o∧relR ts pr (S p) o)
  (h2b:∀(z:Flt) (i:Nat) (pr':List ByteArray) (b:List Ex),z.2≠0→i<ts.length→∃v,r2 (bR ts z i pr' b) d=some (bR ts z i pr' b,v))
  (p:Ps) (hp:p.1<ts.length) (hb:p.2.length≤256):∃o,qEb N r1 r2 r3 r4 (gR ts pr p) d=some o∧relR ts pr (qTa ts 2 S p) o:=by
 obtain⟨o,ho,hr⟩:=h2 p hp hb
 simp only[qEb,Prod.eta,ho,j0,qTa]
 cases h:S p with
 |inl z=>
  rw[h] at hr
  obtain⟨hz,i,pr',b,hi,ho1⟩:=hr
  obtain⟨M,rfl⟩:∃M,N=M+1:=⟨N-1,by omega⟩
  simp only[ho1,qCj,qAw,zJb z i pr' b _ hz,j0]
  exact⟨_,rfl,qOr hz hi⟩
 |inr q=>
  rw[h] at hr
  obtain⟨⟨f1,f2,f3,f4⟩,f5⟩:=hS p q.1 q.2 hp hb h
  have hr':o=(gR ts pr q.1,(q.2:Int)):=hr
  obtain⟨o2,ho2,hr2⟩:=zFy (N:=N) hok hl hS h2 h2b (ts.length+1) N q.2 q.1 f2 f4 f5 (by omega) (by omega)
  simp only[hr',qCj,ho2,j0]
  exact⟨_,rfl,hr2⟩
theorem rsum_b(h2b:∀(z:Flt) (i:Nat) (pr':List ByteArray) (b:List Ex),z.2≠0→i<ts.length→∃v,r2 (bR ts z i pr' b) d=some (bR ts z i pr' b,v))(hN:0<N)
  (z:Flt) (i:Nat) (pr':List ByteArray) (b:List Ex) (hz:z.2≠0) (hi:i<ts.length):∃v,qEb N r1 r2 r3 r4 (bR ts z i pr' b) d=some (bR ts z i pr' b,v):=by
 obtain⟨v,hv⟩:=h2b z i pr' b hz hi
 obtain⟨M,rfl⟩:∃M,N=M+1:=⟨N-1,by omega⟩
 simp only[qEb,Prod.eta,hv,j0,qAw,zJb z i pr' b _ hz]
 exact⟨_,rfl⟩
theorem zTv(z:Flt)(i:Nat)(pr':List ByteArray)(b:List Ex)(hz:z.2≠0)(hi:i<ts.length):qDc N r1 r2 r3 r4 (bR ts z i pr' b) d=some (bR ts z i pr' b,0):=by
 have g0:((bR ts z i pr' b).2.2.2.1 !=0)=true:=by simpa[bR] using hz
 simp only[qDc,Prod.eta,qRc hi,j0,qOs hz]
 have:((if decide (d>32)=true then some (bR ts z i pr' b) else some (bR ts z i pr' b)):Option RT)=some (bR ts z i pr' b):=by split<;>rfl
 simp only[this,j0,g0,jH]
theorem zSt(hd:d>32)(p:Ps)(hp:p.1<ts.length):∃o,qDc N r1 r2 r3 r4 (gR ts pr p) d=some o∧relR ts pr (qHq ts pr 0 p) o:=by
 have hd':decide (d>32)=true:=by simpa using hd
 simp only[qDc,Prod.eta,qKs p hp,j0,hd',jH,qLk]
 have g0:((bR ts ((tkAt ts p.1).2.2.2,2) p.1 pr p.2).2.2.2.1 !=0)=true:=by rfl
 simp only[g0,jH]
 exact⟨_,rfl,qOr (show(2:Int)≠0 by decide) hp⟩
theorem rexpr{k:Nat}(hok:OkT ts)(hl:ts.length<1000000)(hd:d+k=32)(hA:Adv ts (qHq ts pr k))(hS:Adv ts (sumC ts pr (qHq ts pr k)))
  (hEg:∀p:Ps,p.1<ts.length→p.2.length≤256→∃o,r4 (gR ts pr p) (IntKind.wrap .i64 (d+1))=some o∧relR ts pr (qHq ts pr k p) o)
  (hEb:∀(z:Flt) (i:Nat) (pr':List ByteArray) (b:List Ex),z.2≠0→i<ts.length→∃v,r4 (bR ts z i pr' b) (IntKind.wrap .i64 (d+1))=some (bR ts z i pr' b,v))
  (h3:∀p:Ps,p.1<ts.length→p.2.length≤256→∃o,r3 (gR ts pr p) d=some o∧relR ts pr (sumC ts pr (qHq ts pr k) p) o)
  (h3b:∀(z:Flt) (i:Nat) (pr':List ByteArray) (b:List Ex),z.2≠0→i<ts.length→∃v,r3 (bR ts z i pr' b) d=some (bR ts z i pr' b,v))
  (p:Ps) (hp:p.1<ts.length) (hb:p.2.length≤256):∃o,qDc N r1 r2 r3 r4 (gR ts pr p) d=some o∧relR ts pr (qHq ts pr (k+1) p) o:=by
 have hd':decide (d>32)=false:=jU (by omega)
 have g0:((gR ts pr p).2.2.2.1 !=0)=false:=rfl
 simp only[qDc,Prod.eta,qKs p hp,j0,hd',jB,jE,g0,qNl p hp hl,qHq]
 rcases qDj (isC ts 1 sIf p.1) with c1|c1
 rotate_left
 ·have c1':isC ts 1 ⟨#[105,102]⟩ p.1=false:=c1
  simp only[c1,c1',jB,jE]
  obtain⟨o,ho,hr⟩:=h3 p hp hb
  simp only[ho,j0,qWw,qTa]
  cases h:sumC ts pr (qHq ts pr k) p with
  |inl z=>
   rw[h] at hr
   obtain⟨hz,i,pr',b,hi,ho1⟩:=hr
   simp only[ho1,qRc hi,zFn hz,j0,jB,jE,qCj]
   exact⟨_,rfl,qOr hz hi⟩
  |inr q=>
   rw[h] at hr
   obtain⟨⟨f1,f2,f3,f4⟩,f5⟩:=hS p q.1 q.2 hp hb h
   have hr':o=(gR ts pr q.1,(q.2:Int)):=hr
   simp only[hr',qKs q.1 f2,qLt q.1 f2 hl,j0,qCj,qTh]
   have go:∀op,op≠0→opC ts 1 q.1.1=op→∃o,((r3 (gR ts pr (q.1.1+1,q.1.2)) d).bind fun y18=>(qAq N y18.1 (4,0,op,⟨#[]⟩,[(q.2:Int),y18.2]) (tkAt ts q.1.1).2.2.2).bind fun y19=>some y19)=some o∧
     relR ts pr (if opC ts 1 q.1.1=0 then .inr (q.1,q.2) else qCj (sumC ts pr (qHq ts pr k) (q.1.1+1,q.1.2)) fun a=>qCj (qMh (tkAt ts q.1.1) (4,0,opC ts 1 q.1.1,⟨#[]⟩,[(q.2:Int),(a.2:Int)]) a.1) fun r=> .inr r) o:=by
    intro op hne hop
    have g:=hok.next f2 (show(tkAt ts q.1.1).1≠5 by rw[zOe (L:=1) (by rw[hop];exact hne)];decide)
    obtain⟨o2,ho2,hr2⟩:=h3 (q.1.1+1,q.1.2) g f4
    rw[hop,if_neg hne]
    simp only[ho2,j0,obs]
    cases h2:sumC ts pr (qHq ts pr k) (q.1.1+1,q.1.2) with
    |inl z=>
     rw[h2] at hr2
     obtain⟨hz,i,pr',b,hi,ho1⟩:=hr2
     simp only[ho1,qCj]
     exact qUt hz hi _ _
    |inr a=>
     rw[h2] at hr2
     obtain⟨⟨j1,j2,j3,j4⟩,j5⟩:=hS (q.1.1+1,q.1.2) a.1 a.2 g f4 h2
     have hr2':o2=(gR ts pr a.1,(a.2:Int)):=hr2
     simp only[hr2',qCj]
     obtain⟨o3,ho3,hr3⟩:=qSt (N:=N) (pr:=pr) (tkAt ts q.1.1) (4,0,op,⟨#[]⟩,[(q.2:Int),(a.2:Int)]) a.1 j2 j4
     refine⟨o3,ho3,?_⟩
     cases hn:qMh (tkAt ts q.1.1) (4,0,op,⟨#[]⟩,[(q.2:Int),(a.2:Int)]) a.1<;>rw[hn] at hr3<;>exact hr3
   have h1:=op_1 (ts:=ts) (i:=q.1.1)
   rcases qDj (isC ts 4 ⟨#[60]⟩ q.1.1) with c2|c2
   ·simp only[c2,jH] at h1
    obtain⟨o4,ho4,hr4⟩:=go 6 (by decide) h1
    simp only[c2,jH,j0]
    exact⟨o4,ho4,by simpa only[qCj] using hr4⟩
   rcases qDj (isC ts 4 ⟨#[61,61]⟩ q.1.1) with c3|c3
   ·simp only[c2,c3,jH,jB,jE] at h1
    obtain⟨o4,ho4,hr4⟩:=go 7 (by decide) h1
    simp only[c2,c3,jH,j0,jB,jE,qLt q.1 f2 hl]
    exact⟨o4,ho4,by simpa only[qCj] using hr4⟩
   ·simp only[c2,c3,jB,jE] at h1
    simp only[c2,c3,j0,jB,jE,qLt q.1 f2 hl]
    rw[if_pos h1]
    exact⟨_,rfl,rfl⟩
 have c1':isC ts 1 ⟨#[105,102]⟩ p.1=true:=c1
 have g:=qFk hok hp (by decide) c1
 simp only[c1,c1',jH]
 -- behind an error
 have badN:∀{z:Flt} {i:Nat} {pr':List ByteArray} {b:List Ex} (x y w:Int),z.2≠0→i<ts.length→∃o,((qAq N (bR ts z i pr' b) (5,0,0,⟨#[]⟩,[x,y,w]) (tkAt ts p.1).2.2.2).bind fun y13=>some y13)=some o∧relR ts pr (.inl z) o:=by
  intro z i pr' b x y w hz hi
  simp only[obs]
  exact qUt hz hi _ _
 have nf:∀b:Bool,(if(!b)=true then(0:Nat) else 1)=if b=true then 1 else 0:=by intro b;cases b<;>rfl
 obtain⟨oa,hoa,hra⟩:=hEg (p.1+1,p.2) g hb
 simp only[hoa,j0]
 cases ha:qHq ts pr k (p.1+1,p.2) with
 |inl z=>
  rw[ha] at hra
  obtain⟨hz,i,pr',b,hi,ho1⟩:=hra
  obtain⟨v,hv⟩:=hEb z i pr' b hz hi
  simp only[ho1,zJc hz,j0,kC,jH,qRc hi,qOs hz,hv,qCj]
  exact badN _ _ _ hz hi
 |inr a=>
  rw[ha] at hra
  obtain⟨⟨a1,a2,a3,a4⟩,a5⟩:=hA (p.1+1,p.2) a.1 a.2 g hb ha
  have hra':oa=(gR ts pr a.1,(a.2:Int)):=hra
  have hth:qXc ts zNw a.1.1=if isC ts 1 ⟨#[116,104,101,110]⟩ a.1.1=true then .inr (a.1.1+1) else qHp (tkAt ts a.1.1) 9:=rfl
  simp only[hra',qNl a.1 a2 hl,j0,qCj,hth]
  rcases qDj (isC ts 1 ⟨#[116,104,101,110]⟩ a.1.1) with c2|c2
  rotate_left
  ·have hz:(((tkAt ts a.1.1).2.2.2,(9:Int)):Flt).2≠0:=show(9:Int)≠0 by decide
   obtain⟨v,hv⟩:=hEb ((tkAt ts a.1.1).2.2.2,9) a.1.1 pr a.1.2 hz a2
   simp only[c2,jB,jE,kC,jH,qKs a.1 a2,qLk,j0,hv,zJc hz,qRc a2,qOs hz,qHp]
   exact badN _ _ _ hz a2
  have g1:=qFk hok a2 (by decide) c2
  obtain⟨ob,hob,hrb⟩:=hEg (a.1.1+1,a.1.2) g1 a4
  simp only[c2,jH,jR,jB,jE,j0,hob]
  cases hb1:qHq ts pr k (a.1.1+1,a.1.2) with
  |inl z=>
   rw[hb1] at hrb
   obtain⟨hz,i,pr',b,hi,ho1⟩:=hrb
   obtain⟨v,hv⟩:=hEb z i pr' b hz hi
   simp only[ho1,zJc hz,j0,kC,jH,qRc hi,qOs hz,hv]
   exact badN _ _ _ hz hi
  |inr b=>
   rw[hb1] at hrb
   obtain⟨⟨b1,b2,b3,b4⟩,b5⟩:=hA (a.1.1+1,a.1.2) b.1 b.2 g1 a4 hb1
   have hrb':ob=(gR ts pr b.1,(b.2:Int)):=hrb
   have hel:qXc ts zPi b.1.1=if isC ts 1 ⟨#[101,108,115,101]⟩ b.1.1=true then .inr (b.1.1+1) else qHp (tkAt ts b.1.1) 9:=rfl
   simp only[hrb',qNl b.1 b2 hl,j0,hel]
   rcases qDj (isC ts 1 ⟨#[101,108,115,101]⟩ b.1.1) with c3|c3
   rotate_left
   ·have hz:(((tkAt ts b.1.1).2.2.2,(9:Int)):Flt).2≠0:=show(9:Int)≠0 by decide
    obtain⟨v,hv⟩:=hEb ((tkAt ts b.1.1).2.2.2,9) b.1.1 pr b.1.2 hz b2
    simp only[c3,jB,jE,kC,jH,qKs b.1 b2,qLk,j0,hv,qHp]
    exact badN _ _ _ hz b2
   have g2:=qFk hok b2 (by decide) c3
   obtain⟨oc,hoc,hrc⟩:=hEg (b.1.1+1,b.1.2) g2 b4
   simp only[c3,jH,jR,jB,jE,j0,hoc]
   cases hc1:qHq ts pr k (b.1.1+1,b.1.2) with
   |inl z=>
    rw[hc1] at hrc
    obtain⟨hz,i,pr',b',hi,ho1⟩:=hrc
    simp only[ho1]
    exact badN _ _ _ hz hi
   |inr c=>
    rw[hc1] at hrc
    obtain⟨⟨c1,c2,c3,c4⟩,c5⟩:=hA (b.1.1+1,b.1.2) c.1 c.2 g2 b4 hc1
    have hrc':oc=(gR ts pr c.1,(c.2:Int)):=hrc
    simp only[hrc',obs]
    exact qSt (N:=N) (pr:=pr) (tkAt ts p.1) (5,0,0,⟨#[]⟩,[(a.2:Int),(b.2:Int),(c.2:Int)]) c.1 c2 c4
end
end
section
open Go Go.Dc
section
variable {N:Nat} {ts:List Tok} {pr:List ByteArray}
theorem zEi(D:Nat)(hD:1≤D)(d:Int)(z:Flt)(i:Nat)(pr':List ByteArray)(b:List Ex)(hz:z.2≠0)(hi:i<ts.length):∃v,(qAg N D).2.2.2 (bR ts z i pr' b) d=some (bR ts z i pr' b,v):=by
 obtain⟨D',rfl⟩:∃D',D=D'+1:=⟨D-1,by omega⟩
 simp only[qAg]
 exact⟨_,zTv z i pr' b hz hi⟩
theorem zCf(D:Nat)(hD:1≤D)(d:Int)(z:Flt)(i:Nat)(pr':List ByteArray)(b:List Ex)(hz:z.2≠0)(hi:i<ts.length):∃v,(qAg N D).1 (bR ts z i pr' b) d=some (bR ts z i pr' b,v):=by
 obtain⟨D',rfl⟩:∃D',D=D'+1:=⟨D-1,by omega⟩
 simp only[qAg]
 exact⟨_,zNy hz hi⟩
theorem zKo(hN:0<N)(D:Nat)(hD:2≤D)(d:Int)(z:Flt)(i:Nat)(pr':List ByteArray)(b:List Ex)(hz:z.2≠0)(hi:i<ts.length):∃v,(qAg N D).2.1 (bR ts z i pr' b) d=some (bR ts z i pr' b,v):=by
 obtain⟨D',rfl⟩:∃D',D=D'+1:=⟨D-1,by omega⟩
 simp only[qAg]
 exact zTd (fun z i pr' b hz hi=>zCf D' (by omega) d z i pr' b hz hi) hN z i pr' b hz hi
theorem zTa(hN:0<N)(D:Nat)(hD:3≤D)(d:Int)(z:Flt)(i:Nat)(pr':List ByteArray)(b:List Ex)(hz:z.2≠0)(hi:i<ts.length):∃v,(qAg N D).2.2.1 (bR ts z i pr' b) d=some (bR ts z i pr' b,v):=by
 obtain⟨D',rfl⟩:∃D',D=D'+1:=⟨D-1,by omega⟩
 simp only[qAg]
 exact rsum_b (fun z i pr' b hz hi=>zKo hN D' (by omega) d z i pr' b hz hi) hN z i pr' b hz hi
theorem zNs(hok:OkT ts)(hl:ts.length<1000000)(hpr:pr.length<1000)(hN:1000002<N):∀(k D:Nat),k≤32→4*k+1≤D→∀p:Ps,p.1<ts.length→p.2.length≤256→
  ∃o,(qAg N D).2.2.2 (gR ts pr p) (33-(k:Int))=some o∧relR ts pr (qHq ts pr k p) o
 |0,0,_,h,_,_,_=>by omega
 |0,D+1,_,_,p,hp,_=>by simp only[qAg];exact zSt (by omega) p hp
 |k+1,D,hk,hD,p,hp,hb=>by
  have hA:=qNe (ts:=ts) (params:=pr) hok k
  have hF:=qVr (params:=pr) hok hA
  have hT:Adv ts (zPr ts pr (qHq ts pr k)):=qOy hok hF
  have hS:Adv ts (sumC ts pr (qHq ts pr k)):=qOy hok hT
  have hE:∀D,4*k+1≤D→∀p:Ps,p.1<ts.length→p.2.length≤256→∃o,(qAg N D).2.2.2 (gR ts pr p) (IntKind.wrap .i64 (32-(k:Int)+1))=some o∧relR ts pr (qHq ts pr k p) o:=by
   intro D hD p hp hb
   rw[wi64 (by omega) (by omega),show 32-(k:Int)+1=33-(k:Int) by omega]
   exact zNs hok hl hpr hN k D (by omega) hD p hp hb
  have h1:∀D,4*k+2≤D→∀p:Ps,p.1<ts.length→p.2.length≤256→∃o,(qAg N D).1 (gR ts pr p) (32-(k:Int))=some o∧relR ts pr (qPt ts pr (qHq ts pr k) p) o:=by
   intro D hD p hp hb
   obtain⟨D',rfl⟩:∃D',D=D'+1:=⟨D-1,by omega⟩
   simp only[qAg]
   exact zTp (hE D' (by omega)) (fun z i pr' b hz hi=>zEi D' (by omega) _ z i pr' b hz hi) hok hl hpr hN hA p hp hb
  have h2:∀D,4*k+3≤D→∀p:Ps,p.1<ts.length→p.2.length≤256→∃o,(qAg N D).2.1 (gR ts pr p) (32-(k:Int))=some o∧relR ts pr (zPr ts pr (qHq ts pr k) p) o:=by
   intro D hD p hp hb
   obtain⟨D',rfl⟩:∃D',D=D'+1:=⟨D-1,by omega⟩
   simp only[qAg]
   exact rterm hok hl hN hF (h1 D' (by omega)) (fun z i pr' b hz hi=>zCf D' (by omega) _ z i pr' b hz hi) p hp hb
  have h3:∀D,4*k+4≤D→∀p:Ps,p.1<ts.length→p.2.length≤256→∃o,(qAg N D).2.2.1 (gR ts pr p) (32-(k:Int))=some o∧relR ts pr (sumC ts pr (qHq ts pr k) p) o:=by
   intro D hD p hp hb
   obtain⟨D',rfl⟩:∃D',D=D'+1:=⟨D-1,by omega⟩
   simp only[qAg]
   exact rsum hok hl hN hT (h2 D' (by omega)) (fun z i pr' b hz hi=>zKo (by omega) D' (by omega) _ z i pr' b hz hi) p hp hb
  obtain⟨D',rfl⟩:∃D',D=D'+1:=⟨D-1,by omega⟩
  rw[show(33:Int)-((k+1:Nat):Int)=32-(k:Int) by omega]
  simp only[qAg]
  exact rexpr hok hl (by omega) hA hS (hE D' (by omega)) (fun z i pr' b hz hi=>zEi D' (by omega) _ z i pr' b hz hi) (h3 D' (by omega)) (fun z i pr' b hz hi=>zTa (by omega) D' (by omega) _ z i pr' b hz hi) p hp hb
theorem zRf(hok:OkT ts)(hl:ts.length<1000000)(hpr:pr.length<1000)(hN:1000002<N)(p:Ps)(hp:p.1<ts.length)(hb:p.2.length≤256):
 ∃o,qDo N (gR ts pr p) 1=some o∧relR ts pr (qHq ts pr 32 p) o:=zNs hok hl hpr hN 32 N (by omega) (by omega) p hp hb
theorem zBn(hN:1≤N)(z:Flt)(i:Nat)(pr':List ByteArray)(b:List Ex)(hz:z.2≠0)(hi:i<ts.length):∃v,qDo N (bR ts z i pr' b) 1=some (bR ts z i pr' b,v):=zEi N hN 1 z i pr' b hz hi
abbrev RL:=List Tok×Int×Int×Int×List ByteArray×List Ex×List Int×List ByteArray
def addL(st:RT)(l:List ByteArray):RL:=(st.1,st.2.1,st.2.2.1,st.2.2.2.1,st.2.2.2.2.1,st.2.2.2.2.2.1,st.2.2.2.2.2.2,l)
def zGo(ts:List Tok)(n:Nat)(l:List ByteArray)(i:Nat):Flt⊕(Nat×List ByteArray):=
 if isC ts 4 qPy i then qRx ts n l (i+1) else qCj (qFj ts qJk i) fun j=> .inr (j,l)
theorem zMh(n:Nat)(l:List ByteArray)(i:Nat):qRx ts (n+1) l i=qCj (qOu ts i) fun a=>if l.length=8 then qHp a.2 2 else if a.2.2.1∈l then qHp a.2 10 else zGo ts n (l++[a.2.2.1]) a.1:=rfl
def relP(ts:List Tok)(pr:List ByteArray)(b:List Ex)(r:Flt⊕(Nat×List ByteArray))(o:RL):Prop:=
 match r with
 | .inl z=>∃st l,Bad ts z st∧o=addL st l
 | .inr q=>o=addL (gR ts pr (q.1,b)) q.2
theorem qQk{z:Flt}{i:Nat}{pr':List ByteArray}{b:List Ex}(hz:z.2≠0)(M:Nat)(l:List ByteArray):qAw (qBf N) (M+1) (addL (bR ts z i pr' b) l)=some (addL (bR ts z i pr' b) l):=by
 have hz':((addL (bR ts z i pr' b) l).2.2.2.1==0)=false:=by simpa[bR,addL] using hz
 simp only[qAw,qBf,hz',jB,jE,j0]
theorem zDt(hl:ts.length<1000000)(hN:1000002<N){i:Nat}{b:List Ex}{l:List ByteArray}(hi:i<ts.length)(hl8:l.length≤8){G:RL→Option RL}{n:Nat}
  (hbad:∀(z:Flt) (i:Nat) (pr':List ByteArray) (b:List Ex) (l:List ByteArray),z.2≠0→G (addL (bR ts z i pr' b) l)=some (addL (bR ts z i pr' b) l))
  (hok:OkT ts)
  (ih:∀(s:ByteArray),i+1<ts.length→l.length<8→∃o,G (addL (gR ts pr (i+1,b)) (l++[s]))=some o∧relP ts pr b (zGo ts n (l++[s]) (i+1)) o):
  ∃o,((qAl N (gR ts pr (i,b))).bind fun y15=>(qBi N y15.1).bind fun y16=>(if((l.length:Int)==8)=true then((qAm N y16.1 y15.2.2.2.2 2).bind fun y17=>some y17) else(some y16.1):Option RT).bind fun o10=>(qDi N l y16.2).bind fun y18=>(if y18=true then((qAm N o10 y15.2.2.2.2 10).bind fun y19=>some y19) else(some o10):Option RT).bind fun o11=>(qEc 16 l ([y16.2])).bind fun l1=>G (addL o11 l1))=some o∧
   relP ts pr b (qRx ts (n+1) l i) o:=by
 rw[zMh]
 simp only[qKs (i,b) hi,j0,qXm (i,b) hi hl (by omega:100<N),obs]
 have happ:∀s:ByteArray,qEc 16 l [s]=some (l++[s]):=fun s=>qCv (by simp only[jC,jG];omega) (by omega)
 have hhas:∀s,qDi N l s=some (decide (s∈l)):=fun s=>rhas (by omega) (by omega)
 -- behind an error
 have hb2:∀(z:Flt) (i:Nat) (pr':List ByteArray) (b':List Ex) (s:ByteArray) (a:Int),z.2≠0→i<ts.length→∃o,((qDi N l s).bind fun y18=>(if y18=true then qAm N (bR ts z i pr' b') a 10 else(some (bR ts z i pr' b')):Option RT).bind fun o11=>(qEc 16 l ([s])).bind fun l1=>G (addL o11 l1))=some o∧relP ts pr b (.inl z) o:=by
  intro z i pr' b' s a hz hi
  simp only[hhas,j0,qOs hz]
  have:((if decide (s∈l)=true then some (bR ts z i pr' b') else some (bR ts z i pr' b')):Option RT)=some (bR ts z i pr' b'):=by split<;>rfl
  simp only[this,j0,happ,hbad _ _ _ _ _ hz]
  exact⟨_,rfl,bR ts z i pr' b',_,⟨hz,i,pr',b',hi,rfl⟩,rfl⟩
 cases hx:qOu ts i with
 |inl z=>
  have hz:=zFm hx
  have:((if((l.length:Int)==8)=true then qAm N (bR ts z i pr b) (tkAt ts i).2.2.2 2 else some (bR ts z i pr b)):Option RT)=some (bR ts z i pr b):=by
   rw[qOs hz];split<;>rfl
  simp only[this,j0,qCj]
  exact hb2 z i pr b _ _ hz hi
 |inr x=>
  obtain⟨rfl,g1,-⟩:=qLy hok hi hx
  simp only[qCj]
  by_cases k1:l.length=8
  ·have k1':((l.length:Int)==8)=true:=by simp;omega
   rw[if_pos k1]
   simp only[k1',jH,qLk,j0,qHp]
   exact hb2 _ _ _ _ _ _ (show(2:Int)≠0 by decide) g1
  have k1':((l.length:Int)==8)=false:=by simp;omega
  rw[if_neg k1]
  simp only[k1',jB,jE,j0,hhas]
  by_cases k2:(tkAt ts i).2.1∈l
  ·rw[if_pos k2]
   simp only[jO k2,jH,qLk,j0,happ,qHp]
   refine⟨_,hbad _ _ _ _ _ (show(10:Int)≠0 by decide),bR ts ((tkAt ts i).2.2.2,10) (i+1) pr b,_,⟨show(10:Int)≠0 by decide,i+1,pr,b,g1,rfl⟩,rfl⟩
  ·rw[if_neg k2]
   simp only[jU k2,jB,jE,j0,happ]
   exact ih _ g1 (by omega)
theorem zJa(hN:1000002<N){b:List Ex}{l:List ByteArray}(hl8:l.length≤8){G:RL→Option RL}
  (hbad:∀(z:Flt) (i:Nat) (pr':List ByteArray) (b:List Ex) (l:List ByteArray),z.2≠0→G (addL (bR ts z i pr' b) l)=some (addL (bR ts z i pr' b) l))
  {z:Flt} {i:Nat} {pr':List ByteArray} {b':List Ex} (hz:z.2≠0) (hi:i<ts.length):
  ∃o,((qAl N (bR ts z i pr' b')).bind fun y15=>(qBi N y15.1).bind fun y16=>(if((l.length:Int)==8)=true then((qAm N y16.1 y15.2.2.2.2 2).bind fun y17=>some y17) else(some y16.1):Option RT).bind fun o10=>(qDi N l y16.2).bind fun y18=>(if y18=true then((qAm N o10 y15.2.2.2.2 10).bind fun y19=>some y19) else(some o10):Option RT).bind fun o11=>(qEc 16 l ([y16.2])).bind fun l1=>G (addL o11 l1))=some o∧
   relP ts pr b (.inl z) o:=by
 have happ:∀s:ByteArray,qEc 16 l [s]=some (l++[s]):=fun s=>qCv (by simp only[jC,jG];omega) (by omega)
 have hhas:∀s,qDi N l s=some (decide (s∈l)):=fun s=>rhas (by omega) (by omega)
 have e3:((if((l.length:Int)==8)=true then some (bR ts z i pr' b') else some (bR ts z i pr' b')):Option RT)=some (bR ts z i pr' b'):=by split<;>rfl
 have e4:((if decide ((⟨#[]⟩:ByteArray)∈l)=true then some (bR ts z i pr' b') else some (bR ts z i pr' b')):Option RT)=some (bR ts z i pr' b'):=by split<;>rfl
 simp only[qRc hi,j0,zFj hz hi,obs,qOs hz,e3,hhas,e4,happ,hbad _ _ _ _ _ hz]
 exact⟨_,rfl,bR ts z i pr' b',_,⟨hz,i,pr',b',hi,rfl⟩,rfl⟩
theorem qYl(hok:OkT ts)(hl:ts.length<1000000)(hN:1000002<N){b:List Ex}:∀(n M:Nat) (l:List ByteArray) (i:Nat),l≠[]→i<ts.length→l.length≤8→ts.length<i+n→ts.length+2<i+M→
  ∃o,qAw (qBf N) M (addL (gR ts pr (i,b)) l)=some o∧relP ts pr b (zGo ts n l i) o
 |0,M,l,i,_,hi,_,h,_=>by omega
 |n+1,0,l,i,_,hi,_,_,h=>by omega
 |n+1,M+1,l,i,hne,hi,hl8,hn,hM=>by
  have hs:=qLt (N:=N) (pr:=pr) (i,b) hi hl ⟨#[41]⟩
  have hpos:decide ((l.length:Int)>0)=true:=by
   have:=fC.2 hne
   exact jO (by omega)
  have g0:((addL (gR ts pr (i,b)) l).2.2.2.1==0)=true:=rfl
  have e1:∀st:RT,∀l,((addL st l).1,(addL st l).2.1,(addL st l).2.2.1,(addL st l).2.2.2.1,(addL st l).2.2.2.2.1,(addL st l).2.2.2.2.2.1,(addL st l).2.2.2.2.2.2.1)=st:=fun _ _=>rfl
  have e2:∀st:RT,∀l,(addL st l).2.2.2.2.2.2.2=l:=fun _ _=>rfl
  simp only[qAw,qBf,g0,jH,e1,e2,hs,j0,hpos]
  rcases qDj (isC ts 4 ⟨#[41]⟩ i) with c1|c1
  ·simp only[c1,jH,jR,jB,jE]
   refine⟨_,rfl,?_⟩
   have c2:isC ts 4 qPy i=false:=by
    simp only[isC,jX,jA] at c1
    simp[isC,c1.2,qPy]
   have c3:qFj ts qJk i= .inr (i+1):=by simp[qFj,qJk,c1]
   simp only[zGo,c2,jB,jE,c3,qCj]
   rfl
  ·have hcc:isC ts 4 qPy i=isC ts 4 ⟨#[44]⟩ i:=rfl
   simp only[c1,jB,jE,kC,jH,Prod.eta,qPb (i,b) hi hl,j0,zGo,hcc,qFj]
   rcases qDj (isC ts 4 ⟨#[44]⟩ i) with c2|c2
   ·have g:=qFk hok hi (by decide) c2
    simp only[c2,jH]
    obtain⟨o,ho,hr⟩:=zDt (N:=N) (pr:=pr) (b:=b) (l:=l) (n:=n) (G:=qAw (qBf N) M) hl hN g hl8 (fun z i pr' b l hz=>by
     obtain⟨M',rfl⟩:∃M',M=M'+1:=⟨M-1,by omega⟩
     exact qQk hz M' l) hok (fun s g2 g3=>qYl hok hl hN n M (l++[s]) (i+1+1) (by simp) g2 (by simp only[jI,jC,jG];omega) (by omega) (by omega))
    refine⟨o,Eq.trans ?_ ho,hr⟩
    simp only[gG,j0]
    rfl
   ·have c1':isC ts 4 qJk i=false:=c1
    simp only[c2,c1',jB,jE,qHp,qCj]
    obtain⟨o,ho,hr⟩:=zJa (N:=N) (pr:=pr) (b:=b) (l:=l) (z:=((tkAt ts i).2.2.2,9)) (i:=i) (pr':=pr) (b':=b) (G:=qAw (qBf N) M) hN hl8 (fun z i pr' b l hz=>by
     obtain⟨M',rfl⟩:∃M',M=M'+1:=⟨M-1,by omega⟩
     exact qQk hz M' l) (show(9:Int)≠0 by decide) hi
    refine⟨o,Eq.trans ?_ ho,hr⟩
    simp only[gG,j0]
    rfl
theorem zTc(hok:OkT ts)(hl:ts.length<1000000)(hN:1000005<N){b:List Ex}(i:Nat)(hi:i<ts.length):
  ∃o,qAw (qBf N) N (addL (gR ts pr (i,b)) [])=some o∧relP ts pr b (if isC ts 4 qJk i then .inr (i+1,[]) else qRx ts (ts.length+1) [] i) o:=by
 obtain⟨M,hM⟩:∃M,N=M+1:=⟨N-1,by omega⟩
 have hs:=qLt (N:=N) (pr:=pr) (i,b) hi hl ⟨#[41]⟩
 have g0:((addL (gR ts pr (i,b)) []).2.2.2.1==0)=true:=rfl
 have hnil:decide ((([]:List ByteArray).length:Int)>0)=false:=rfl
 have e1:∀st:RT,∀l,((addL st l).1,(addL st l).2.1,(addL st l).2.2.1,(addL st l).2.2.2.1,(addL st l).2.2.2.2.1,(addL st l).2.2.2.2.2.1,(addL st l).2.2.2.2.2.2.1)=st:=fun _ _=>rfl
 have e2:∀st:RT,∀l,(addL st l).2.2.2.2.2.2.2=l:=fun _ _=>rfl
 have e0:qAw (qBf N) N (addL (gR ts pr (i,b)) [])=qAw (qBf N) (M+1) (addL (gR ts pr (i,b)) []):=by rw[←hM]
 rw[e0]
 simp only[qAw,qBf,g0,jH,e1,e2,hs,j0,hnil,qJk]
 rcases qDj (isC ts 4 ⟨#[41]⟩ i) with c1|c1
 ·simp only[c1,jH,jR,jB,jE]
  exact⟨_,rfl,rfl⟩
 ·simp only[c1,jB,jE,kC,jH,Prod.eta,j0]
  obtain⟨o,ho,hr⟩:=zDt (N:=N) (pr:=pr) (b:=b) (l:=[]) (n:=ts.length) (G:=qAw (qBf N) M) hl (by omega) hi (by simp) (fun z i pr' b l hz=>by
   obtain⟨M',rfl⟩:∃M',M=M'+1:=⟨M-1,by omega⟩
   exact qQk hz M' l) hok (fun s g2 g3=>qYl hok hl (by omega) ts.length M ([]++[s]) (i+1) (by simp) g2 (by simp) (by omega) (by omega))
  refine⟨o,Eq.trans ?_ ho,hr⟩
  simp only[gG,j0]
  rfl
end
end
section
open Go Go.Dc
section
variable {N:Nat} {ts:List Tok} {pr:List ByteArray}
def relD(ts:List Tok)(r:Flt⊕(Nat×Dl))(o:RT×Dl):Prop:=
 match r with
 | .inl z=>Bad ts z o.1
 | .inr a=>o=(gR ts a.2.2.2.1 (a.1,a.2.2.2.2),a.2)
def qRs(N:Nat)(st:RT)(k:Int)(nm:ByteArray):Option (RT×Dl):=
 ((if(k==1)=true then((qAj N st (⟨#[40]⟩:ByteArray)).bind fun y12=>qAw (qBf N) N (addL y12 [])) else(some (addL st [])):Option RL)).bind fun o6=>
 (qAj N (o6.1,o6.2.1,o6.2.2.1,o6.2.2.2.1,o6.2.2.2.2.2.2.2,o6.2.2.2.2.2.1,o6.2.2.2.2.2.2.1) (⟨#[61]⟩:ByteArray)).bind fun y20=>
 (qDo N y20 1).bind fun y21=>(qAj N y21.1 (⟨#[59]⟩:ByteArray)).bind fun y22=>some (y22,(k,nm,o6.2.2.2.2.2.2.2,y22.2.2.2.2.2.1))
theorem zAt(hN:1000005<N){z:Flt}{i:Nat}{b:List Ex}(hz:z.2≠0)(hi:i<ts.length)(k:Int)(nm:ByteArray):∃o,qRs N (bR ts z i pr b) k nm=some o∧Bad ts z o.1:=by
 have tail:∀(i:Nat) (pr:List ByteArray) (b:List Ex) (l:List ByteArray),i<ts.length→∃o,((qAj N ((addL (bR ts z i pr b) l).1,(addL (bR ts z i pr b) l).2.1,(addL (bR ts z i pr b) l).2.2.1,(addL (bR ts z i pr b) l).2.2.2.1,(addL (bR ts z i pr b) l).2.2.2.2.2.2.2,(addL (bR ts z i pr b) l).2.2.2.2.2.1,(addL (bR ts z i pr b) l).2.2.2.2.2.2.1) (⟨#[61]⟩:ByteArray)).bind fun y20=>
   (qDo N y20 1).bind fun y21=>(qAj N y21.1 (⟨#[59]⟩:ByteArray)).bind fun y22=>some (y22,(k,nm,(addL (bR ts z i pr b) l).2.2.2.2.2.2.2,y22.2.2.2.2.2.1)))=some o∧Bad ts z o.1:=by
  intro i pr b l hi
  have e:((addL (bR ts z i pr b) l).1,(addL (bR ts z i pr b) l).2.1,(addL (bR ts z i pr b) l).2.2.1,(addL (bR ts z i pr b) l).2.2.2.1,(addL (bR ts z i pr b) l).2.2.2.2.2.2.2,(addL (bR ts z i pr b) l).2.2.2.2.2.1,(addL (bR ts z i pr b) l).2.2.2.2.2.2.1)=bR ts z i l b:=rfl
  obtain⟨v,hv⟩:=zBn (N:=N) (by omega) z i l b hz hi
  simp only[e,qOb hz hi,j0,hv]
  exact⟨_,rfl,hz,i,l,b,hi,rfl⟩
 obtain⟨M,hM⟩:∃M,N=M+1:=⟨N-1,by omega⟩
 have hb:qAw (qBf N) N (addL (bR ts z i pr b) [])=some (addL (bR ts z i pr b) []):=by
  have e0:qAw (qBf N) N (addL (bR ts z i pr b) [])=qAw (qBf N) (M+1) (addL (bR ts z i pr b) []):=by rw[←hM]
  rw[e0];exact qQk hz M []
 unfold qRs
 rcases qDj (k==1) with c|c
 ·simp only[c,jH,qOb hz hi,j0,hb]
  exact tail i pr b [] hi
 ·simp only[c,jB,jE,j0]
  exact tail i pr b [] hi
theorem zNj(hok:OkT ts)(hl:ts.length<1000000)(hN:1000005<N)(i:Nat)(hi:i<ts.length)(k:Int)(nm:ByteArray):∃o,qRs N (gR ts pr (i,[])) k nm=some o∧
  relD ts (qCj (if k=1 then qJj ts i else .inr (i,[])) fun bq=>qCj (qFj ts sEq bq.1) fun j=>qCj (qHq ts bq.2 32 (j,[])) fun c=>qCj (qFj ts qWr c.1.1) fun m=> .inr (m,(k,nm,bq.2,c.1.2))) o:=by
 have badt:∀(z:Flt) (st:RT) (l:List ByteArray),Bad ts z st→∃o,((qAj N ((addL st l).1,(addL st l).2.1,(addL st l).2.2.1,(addL st l).2.2.2.1,(addL st l).2.2.2.2.2.2.2,(addL st l).2.2.2.2.2.1,(addL st l).2.2.2.2.2.2.1) (⟨#[61]⟩:ByteArray)).bind fun y20=>
   (qDo N y20 1).bind fun y21=>(qAj N y21.1 (⟨#[59]⟩:ByteArray)).bind fun y22=>some (y22,(k,nm,(addL st l).2.2.2.2.2.2.2,y22.2.2.2.2.2.1)))=some o∧Bad ts z o.1:=by
  rintro z st l ⟨hz,i,pr,b,hi,rfl⟩
  have e:((addL (bR ts z i pr b) l).1,(addL (bR ts z i pr b) l).2.1,(addL (bR ts z i pr b) l).2.2.1,(addL (bR ts z i pr b) l).2.2.2.1,(addL (bR ts z i pr b) l).2.2.2.2.2.2.2,(addL (bR ts z i pr b) l).2.2.2.2.2.1,(addL (bR ts z i pr b) l).2.2.2.2.2.2.1)=bR ts z i l b:=rfl
  obtain⟨v,hv⟩:=zBn (N:=N) (by omega) z i l b hz hi
  simp only[e,qOb hz hi,j0,hv]
  exact⟨_,rfl,hz,i,l,b,hi,rfl⟩
 have goodt:∀(q:Nat×List ByteArray),q.1<ts.length→q.2.length≤8→∃o,((qAj N ((addL (gR ts pr (q.1,[])) q.2).1,(addL (gR ts pr (q.1,[])) q.2).2.1,(addL (gR ts pr (q.1,[])) q.2).2.2.1,(addL (gR ts pr (q.1,[])) q.2).2.2.2.1,(addL (gR ts pr (q.1,[])) q.2).2.2.2.2.2.2.2,(addL (gR ts pr (q.1,[])) q.2).2.2.2.2.2.1,(addL (gR ts pr (q.1,[])) q.2).2.2.2.2.2.2.1) (⟨#[61]⟩:ByteArray)).bind fun y20=>
   (qDo N y20 1).bind fun y21=>(qAj N y21.1 (⟨#[59]⟩:ByteArray)).bind fun y22=>some (y22,(k,nm,(addL (gR ts pr (q.1,[])) q.2).2.2.2.2.2.2.2,y22.2.2.2.2.2.1)))=some o∧
   relD ts (qCj (qFj ts sEq q.1) fun j=>qCj (qHq ts q.2 32 (j,[])) fun c=>qCj (qFj ts qWr c.1.1) fun m=> .inr (m,(k,nm,q.2,c.1.2))) o:=by
  intro q hq hq8
  have e:((addL (gR ts pr (q.1,[])) q.2).1,(addL (gR ts pr (q.1,[])) q.2).2.1,(addL (gR ts pr (q.1,[])) q.2).2.2.1,(addL (gR ts pr (q.1,[])) q.2).2.2.2.1,(addL (gR ts pr (q.1,[])) q.2).2.2.2.2.2.2.2,(addL (gR ts pr (q.1,[])) q.2).2.2.2.2.2.1,(addL (gR ts pr (q.1,[])) q.2).2.2.2.2.2.2.1)=gR ts q.2 (q.1,[]):=rfl
  have e2:(addL (gR ts pr (q.1,[])) q.2).2.2.2.2.2.2.2=q.2:=rfl
  rw[e]
  simp only[e2,qPb (q.1,[]) hq hl,j0,sEq]
  cases hj:qFj ts ⟨#[61]⟩ q.1 with
  |inl z=>
   have hz:=qNo hj
   obtain⟨v,hv⟩:=zBn (N:=N) (by omega) z q.1 q.2 [] hz hq
   simp only[hv,j0,qOb hz hq,qCj]
   exact⟨_,rfl,hz,q.1,q.2,[],hq,rfl⟩
  |inr j=>
   obtain⟨rfl,g3,-⟩:=qEv hok hq hj
   obtain⟨o,ho,hr⟩:=zRf (N:=N) (pr:=q.2) hok hl (by omega) (by omega) (q.1+1,[]) g3 (by simp)
   simp only[ho,j0,qCj]
   cases hc:qHq ts q.2 32 (q.1+1,[]) with
   |inl z=>
    rw[hc] at hr
    obtain⟨hz,i,pr',b,hi,ho1⟩:=hr
    simp only[ho1,qOb hz hi,j0]
    exact⟨_,rfl,hz,i,pr',b,hi,rfl⟩
   |inr c=>
    rw[hc] at hr
    obtain⟨⟨f1,f2,f3,f4⟩,-⟩:=qNe hok 32 (q.1+1,[]) c.1 c.2 g3 (by simp) hc
    have hr':o=(gR ts q.2 c.1,(c.2:Int)):=hr
    simp only[hr',qPb c.1 f2 hl,j0,qWr]
    cases hm:qFj ts ⟨#[59]⟩ c.1.1 with
    |inl z=>exact⟨_,rfl,qNo hm,c.1.1,q.2,c.1.2,f2,rfl⟩
    |inr m=>exact⟨_,rfl,rfl⟩
 unfold qRs
 by_cases c:k=1
 ·have c':(k==1)=true:=by simpa using c
  simp only[c',jH,qPb (i,[]) hi hl,j0,if_pos c,qJj,qSg]
  cases h1:qFj ts ⟨#[40]⟩ i with
  |inl z=>
   have hz:=qNo h1
   obtain⟨M,hM⟩:∃M,N=M+1:=⟨N-1,by omega⟩
   have hb:qAw (qBf N) N (addL (bR ts z i pr []) [])=some (addL (bR ts z i pr []) []):=by
    have e0:qAw (qBf N) N (addL (bR ts z i pr []) [])=qAw (qBf N) (M+1) (addL (bR ts z i pr []) []):=by rw[←hM]
    rw[e0];exact qQk hz M []
   simp only[hb,j0,qCj]
   exact badt z _ [] ⟨hz,i,pr,[],hi,rfl⟩
  |inr j=>
   obtain⟨rfl,g1,-⟩:=qEv hok hi h1
   obtain⟨o,ho,hr⟩:=zTc (N:=N) (pr:=pr) (b:=[]) hok hl hN (i+1) g1
   simp only[ho,j0,qCj]
   cases hP:(if isC ts 4 qJk (i+1)=true then .inr (i+1+1,[]) else qRx ts (ts.length+1) [] (i+1):Flt⊕(Nat×List ByteArray)) with
   |inl z=>
    rw[hP] at hr
    obtain⟨st,l,hbad,rfl⟩:=hr
    exact badt z st l hbad
   |inr q=>
    rw[hP] at hr
    have hr':o=addL (gR ts pr (q.1,[])) q.2:=hr
    have hq:q.1<ts.length∧q.2.length≤8:=by
     split at hP
     ·rename_i hc
      obtain rfl:=Sum.inr.inj hP
      exact⟨qFk hok g1 (by decide) hc,by simp⟩
     ·obtain⟨_,f2,f3⟩:=qWa hok _ _ _ q g1 (by simp) hP
      exact⟨f2,f3⟩
    rw[hr']
    exact goodt q hq.1 hq.2
 ·have c':(k==1)=false:=by simpa using c
  simp only[c',jB,jE,j0,if_neg c]
  exact goodt (i,[]) hi (by simp)
def qWt(N:Nat)(f:Sr)(t:Tok)(st:RT)(k:Int):Option (RT×Dl):=
 ((if((List.length f.2.2:Int)==64)=true then qAm N st t.2.2.2 2 else some st):Option RT).bind fun o2=>(qAl N o2).bind fun y7=>
 ((if(k==3)=true then qCa N y7.1 true else qBi N y7.1):Option (RT×ByteArray)).bind fun o3=>
 ((if(o3.1.2.2.2.1==0)=true then qFm N f k o3.2 else some false):Option Bool).bind fun o4=>
 ((if o4=true then qAm N o3.1 y7.2.2.2.2 10 else some o3.1):Option RT).bind fun o5=>qRs N o5 k o3.2
theorem zMy(hN:1000005<N){f:Sr}{t:Tok}{z:Flt}{i:Nat}{b:List Ex}(hz:z.2≠0)(hi:i<ts.length)(k:Int):∃o,
  ((qAl N (bR ts z i pr b)).bind fun y7=>((if(k==3)=true then qCa N y7.1 true else qBi N y7.1):Option (RT×ByteArray)).bind fun o3=>
   ((if(o3.1.2.2.2.1==0)=true then qFm N f k o3.2 else some false):Option Bool).bind fun o4=>
   ((if o4=true then qAm N o3.1 y7.2.2.2.2 10 else some o3.1):Option RT).bind fun o5=>qRs N o5 k o3.2)=some o∧Bad ts z o.1:=by
 have hz':((bR ts z i pr b).2.2.2.1==0)=false:=by simpa[bR] using hz
 have e:((if(k==3)=true then qCa N (bR ts z i pr b) true else qBi N (bR ts z i pr b)):Option (RT×ByteArray))=some (bR ts z i pr b,⟨#[]⟩):=by
  rw[zKb hz hi,zFj hz hi];split<;>rfl
 simp only[qRc hi,j0,e,hz',jB,jE]
 exact zAt hN hz hi k _
theorem zMm(hok:OkT ts)(hl:ts.length<1000000)(hN:1000005<N){f:Sr}(hf:f.2.2.length≤64)(t:Tok)(i:Nat)(hi:i<ts.length)(k:Int):∃o,qWt N f t (gR ts pr (i,[])) k=some o∧
  relD ts (if f.2.2.length=64 then qHp t 2 else qCj (if k=3 then qQq ts i else qOu ts i) fun a=>
   if f.2.2.any (fun d=>d.1==k&&decide (d.2.1=a.2.2.1)) then qHp a.2 10
   else qCj (if k=1 then qJj ts a.1 else .inr (a.1,[])) fun b=>
    qCj (qFj ts sEq b.1) fun j=>qCj (qHq ts b.2 32 (j,[])) fun c=>
    qCj (qFj ts qWr c.1.1) fun m=> .inr (m,(k,a.2.2.1,b.2,c.1.2))) o:=by
 unfold qWt
 by_cases k1:f.2.2.length=64
 ·have k1':((f.2.2.length:Int)==64)=true:=by simp;omega
  rw[if_pos k1]
  simp only[k1',jH,qLk,j0,qHp]
  exact zMy (t:=t) hN (show(2:Int)≠0 by decide) hi k
 have k1':((f.2.2.length:Int)==64)=false:=by simp;omega
 rw[if_neg k1]
 simp only[k1',jB,jE,j0,qKs (i,[]) hi]
 have e:((if(k==3)=true then qCa N (gR ts pr (i,[])) true else qBi N (gR ts pr (i,[]))):Option (RT×ByteArray))=
   some (match(if k=3 then qQq ts i else qOu ts i) with| .inl z=>(bR ts z i pr [],⟨#[]⟩)| .inr a=>(gR ts pr (a.1,[]),a.2.2.1)):=by
  by_cases k3:k=3
  ·have k3':(k==3)=true:=by simpa using k3
   rw[if_pos k3',if_pos k3,zJs (i,[]) hi hl (by omega)]<;>rfl
  ·have k3':(k==3)=false:=by simpa using k3
   rw[if_neg (by rw[k3'];decide),if_neg k3,qXm (i,[]) hi hl (by omega)]<;>rfl
 rw[e]
 simp only[j0]
 cases hX:(if k=3 then qQq ts i else qOu ts i) with
 |inl z=>
  have hz:z.2≠0:=by
   split at hX
   ·exact zEo hX
   ·exact zFm hX
  have hz':((bR ts z i pr []).2.2.2.1==0)=false:=by simpa[bR] using hz
  simp only[hz',jB,jE,j0,qCj]
  exact zAt hN hz hi k _
 |inr a=>
  have ga:a=(i+1,tkAt ts i)∧i+1<ts.length:=by
   split at hX
   ·obtain⟨e,g1,-⟩:=qNk hok hi hX;exact⟨e,g1⟩
   ·obtain⟨e,g1,-⟩:=qLy hok hi hX;exact⟨e,g1⟩
  obtain⟨rfl,g1⟩:=ga
  have g0:((gR ts pr (i+1,[])).2.2.2.1==0)=true:=rfl
  simp only[g0,jH,rtaken (N:=N) (f:=f) (k:=k) (s:=(tkAt ts i).2.1) (by omega) (by omega),j0]
  rw[show qCj (Sum.inr (i+1,tkAt ts i)) (fun a:Nat×Tok=>if f.2.2.any (fun d=>d.1==k&&decide (d.2.1=a.2.2.1))=true then qHp a.2 10
   else qCj (if k=1 then qJj ts a.1 else .inr (a.1,[])) fun b=>
    qCj (qFj ts sEq b.1) fun j=>qCj (qHq ts b.2 32 (j,[])) fun c=>
    qCj (qFj ts qWr c.1.1) fun m=>(.inr (m,(k,a.2.2.1,b.2,c.1.2)):Flt⊕(Nat×Dl)))=(if f.2.2.any (fun d=>d.1==k&&decide (d.2.1=(tkAt ts i).2.1))=true then qHp (tkAt ts i) 10
   else qCj (if k=1 then qJj ts (i+1) else .inr (i+1,[])) fun b=>
    qCj (qFj ts sEq b.1) fun j=>qCj (qHq ts b.2 32 (j,[])) fun c=>
    qCj (qFj ts qWr c.1.1) fun m=>(.inr (m,(k,(tkAt ts i).2.1,b.2,c.1.2)):Flt⊕(Nat×Dl))) from rfl]
  rcases qDj (f.2.2.any fun d=>d.1==k&&decide (d.2.1=(tkAt ts i).2.1)) with k4|k4
  ·rw[if_pos k4]
   simp only[k4,jH,qLk,j0,qHp]
   exact zAt hN (show(10:Int)≠0 by decide) g1 k _
  ·rw[if_neg (by rw[k4];decide)]
   simp only[k4,jB,jE,j0]
   exact zNj hok hl hN (i+1) g1 k _
end
end
section
open Go Go.Dc
section
variable {N:Nat} {ts:List Tok} {pr:List ByteArray}
abbrev RN:=List Tok×Int×Int×Int×List ByteArray×List Ex×List Int×ByteArray
def addN(st:RT)(l:ByteArray):RN:=(st.1,st.2.1,st.2.2.1,st.2.2.2.1,st.2.2.2.2.1,st.2.2.2.2.2.1,st.2.2.2.2.2.2,l)
theorem rdecl(hok:OkT ts)(hl:ts.length<1000000)(hN:1000005<N){f:Sr}(hf:f.2.2.length≤64)(i:Nat)(b:List Ex)(hi:i<ts.length):∃o,qHb N (gR ts pr (i,b)) f=some o∧relD ts (qSe ts f.2.2 i) o:=by
 have e0:((gR ts pr (i,b)).1,(gR ts pr (i,b)).2.1,(gR ts pr (i,b)).2.2.1,(gR ts pr (i,b)).2.2.2.1,([]:List ByteArray),([]:List Ex),(gR ts pr (i,b)).2.2.2.2.2.2)=gR ts [] (i,[]):=rfl
 have rest:∀(st:RT) (k:Int),(((if((List.length f.2.2:Int)==64)=true then((qAm N st (tkAt ts i).2.2.2 2).bind fun y6=>some y6) else(some st)):Option RT).bind fun o2=>(qAl N o2).bind fun y7=>((if(k==3)=true then((qCa N y7.1 true).bind fun y8=>some (addN y8.1 y8.2)) else((qBi N y7.1).bind fun y9=>some (addN y9.1 y9.2))):Option RN).bind fun o3=>((if(o3.2.2.2.1==0)=true then((qFm N f k o3.2.2.2.2.2.2.2).bind fun y10=>some y10) else(some false)):Option Bool).bind fun o4=>((if o4=true then((qAm N (o3.1,o3.2.1,o3.2.2.1,o3.2.2.2.1,o3.2.2.2.2.1,o3.2.2.2.2.2.1,o3.2.2.2.2.2.2.1) y7.2.2.2.2 10).bind fun y11=>some y11) else(some (o3.1,o3.2.1,o3.2.2.1,o3.2.2.2.1,o3.2.2.2.2.1,o3.2.2.2.2.2.1,o3.2.2.2.2.2.2.1))):Option RT).bind fun o5=>qRs N o5 k o3.2.2.2.2.2.2.2)=qWt N f (tkAt ts i) st k:=by
  intro st k
  unfold qWt
  simp only[obs]
  refine congrArg _ (funext fun o2=>congrArg _ (funext fun y7=> ?_))
  rcases qDj (k==3) with c|c<;>simp only[c,jH,jB,jE,gG,j0]<;>rfl
 have fin:∀(k:Int),k≠0→qOq (tkAt ts i).2.1=k→(tkAt ts i).1=1→∃o,qWt N f (tkAt ts i) (gR ts [] (i+1,[])) k=some o∧relD ts (qSe ts f.2.2 i) o:=by
  intro k hk0 hk h1
  have g:=hok.next hi (show(tkAt ts i).1≠5 by rw[h1];decide)
  obtain⟨o,ho,hr⟩:=zMm (N:=N) (pr:=[]) hok hl hN hf (tkAt ts i) (i+1) g k
  refine⟨o,ho,?_⟩
  unfold qSe
  dsimp only
  rw[hk,if_neg (by rintro(h|h);exact h h1;exact hk0 h)]
  exact hr
 simp only[qHb,e0,qKs (i,[]) hi,j0,Prod.eta,qNl (i,[]) hi hl]
 by_cases h1:(tkAt ts i).1=1
 ·have n:∀s,isC ts 1 s i=decide ((tkAt ts i).2.1=s):=fun s=>zKl h1
  simp only[n]
  by_cases w1:(tkAt ts i).2.1=(⟨#[102,117,110,99]⟩:ByteArray)
  ·simp only[jO w1,jH,j0]
   obtain⟨o,ho,hr⟩:=fin 1 (by decide) (by rw[w1];rfl) h1
   refine⟨o,Eq.trans ?_ ho,hr⟩
   refine Eq.trans ?_ (rest (gR ts [] (i+1,[])) 1)
   simp only[obs,qRs]
   rfl
  simp only[jU w1,jB,jE,j0,qNl (i,[]) hi hl,n,Prod.eta]
  by_cases w2:(tkAt ts i).2.1=(⟨#[116,101,115,116]⟩:ByteArray)
  ·simp only[jO w2,jH,j0]
   obtain⟨o,ho,hr⟩:=fin 2 (by decide) (by rw[w2];rfl) h1
   refine⟨o,Eq.trans ?_ ho,hr⟩
   refine Eq.trans ?_ (rest (gR ts [] (i+1,[])) 2)
   simp only[obs,qRs]
   rfl
  simp only[jU w2,jB,jE,j0,qNl (i,[]) hi hl,n,Prod.eta]
  by_cases w3:(tkAt ts i).2.1=(⟨#[103,101,110]⟩:ByteArray)
  ·simp only[jO w3,jH,j0]
   obtain⟨o,ho,hr⟩:=fin 3 (by decide) (by rw[w3];rfl) h1
   refine⟨o,Eq.trans ?_ ho,hr⟩
   refine Eq.trans ?_ (rest (gR ts [] (i+1,[])) 3)
   simp only[obs,qRs]
   rfl
  simp only[jU w3,jB,jE,j0,qLk,Prod.eta]
  refine⟨_,rfl,?_⟩
  have hk:qOq (tkAt ts i).2.1=0:=by
   unfold qOq
   rw[if_neg (show ¬(tkAt ts i).2.1=zPv from w1),if_neg (show ¬(tkAt ts i).2.1=zQg from w2),if_neg (show ¬(tkAt ts i).2.1=sGen from w3)]
  unfold qSe
  dsimp only
  rw[if_pos (.inr hk)]
  exact⟨show(9:Int)≠0 by decide,i,[],[],hi,rfl⟩
 ·have n:∀s,isC ts 1 s i=false:=fun s=>zSk h1
  simp only[n,jB,jE,j0,qNl (i,[]) hi hl,qLk,Prod.eta]
  refine⟨_,rfl,?_⟩
  unfold qSe
  dsimp only
  rw[if_pos (.inl h1)]
  exact⟨show(9:Int)≠0 by decide,i,[],[],hi,rfl⟩
def relI(ts:List Tok)(pr:List ByteArray)(b:List Ex)(r:Flt⊕(Nat×List ByteArray))(o:RL):Prop:=
 match r with
 | .inl z=>∃st l,Bad ts z st∧o=addL st l
 | .inr q=>o=addL (gR ts pr (q.1,b)) q.2
theorem qYw{y5:RT×ByteArray}{z:Flt}{i:Nat}{pr':List ByteArray}{b:List Ex}(hz:z.2≠0)(M:Nat)(l:List ByteArray):qAw (qCf N y5) (M+1) (addL (bR ts z i pr' b) l)=some (addL (bR ts z i pr' b) l):=by
 have hz':((addL (bR ts z i pr' b) l).2.2.2.1==0)=false:=by simpa[bR,addL] using hz
 simp only[qAw,qCf,hz',jB,jE,j0]
theorem qWj(hok:OkT ts)(hl:ts.length<1000000)(hN:1000005<N){y5:RT×ByteArray}{b:List Ex}:∀(n M:Nat) (l:List ByteArray) (i:Nat),i<ts.length→l.length≤8→ts.length<i+n→ts.length+2<i+M→
  ∃o,qAw (qCf N y5) M (addL (gR ts pr (i,b)) l)=some o∧relI ts pr b (qLz ts y5.2 n l i) o
 |0,M,l,i,hi,_,h,_=>by omega
 |n+1,0,l,i,hi,_,_,h=>by omega
 |n+1,M+1,l,i,hi,hl8,hn,hM=>by
  have g0:((addL (gR ts pr (i,b)) l).2.2.2.1==0)=true:=rfl
  have e1:∀st:RT,∀l,((addL st l).1,(addL st l).2.1,(addL st l).2.2.1,(addL st l).2.2.2.1,(addL st l).2.2.2.2.1,(addL st l).2.2.2.2.2.1,(addL st l).2.2.2.2.2.2.1)=st:=fun _ _=>rfl
  have e2:∀st:RT,∀l,(addL st l).2.2.2.2.2.2.2=l:=fun _ _=>rfl
  have happ:∀s:ByteArray,qEc 16 l [s]=some (l++[s]):=fun s=>qCv (by simp only[jC,jG];omega) (by omega)
  have hhas:∀s,qDi N l s=some (decide (s∈l)):=fun s=>rhas (by omega) (by omega)
  have bad:∀(z:Flt) (i:Nat) (pr':List ByteArray) (b':List Ex) (l:List ByteArray),z.2≠0→i<ts.length→∃o,qAw (qCf N y5) M (addL (bR ts z i pr' b') l)=some o∧relI ts pr b (.inl z) o:=by
   intro z i pr' b' l hz hi
   obtain⟨M',rfl⟩:∃M',M=M'+1:=⟨M-1,by omega⟩
   exact⟨_,qYw hz M' l,_,_,⟨hz,i,pr',b',hi,rfl⟩,rfl⟩
  -- from the import's name on, behind an error
  have badn:∀(z:Flt) (i:Nat) (pr':List ByteArray) (b':List Ex),z.2≠0→i<ts.length→∃o,((qAl N (bR ts z i pr' b')).bind fun y11=>(qBi N y11.1).bind fun y12=>((if(y12.1.2.2.2.1==0)=true then(if(y12.2.toList==y5.2.toList)=true then(some true) else(qDi N l y12.2)) else(some false)):Option Bool).bind fun o5=>((if o5=true then qAm N y12.1 y11.2.2.2.2 10 else some y12.1):Option RT).bind fun o6=>(qAj N o6 (⟨#[59]⟩:ByteArray)).bind fun y15=>(qEc 16 l ([y12.2])).bind fun l1=>qAw (qCf N y5) M (addL y15 l1))=some o∧relI ts pr b (.inl z) o:=by
   intro z i pr' b' hz hi
   have hz':((bR ts z i pr' b').2.2.2.1==0)=false:=by simpa[bR] using hz
   simp only[qRc hi,zFj hz hi,j0,hz',jB,jE,qOb hz hi,happ]
   exact bad z i pr' b' _ hz hi
  -- the step
  have step:qAw (qCf N y5) (M+1) (addL (gR ts pr (i,b)) l)=(if isC ts 1 qVx i=true then
    ((if((l.length:Int)==8)=true then some (bR ts ((tkAt ts i).2.2.2,2) (i+1) pr b) else some (gR ts pr (i+1,b))):Option RT).bind fun st=>((qAl N st).bind fun y11=>(qBi N y11.1).bind fun y12=>((if(y12.1.2.2.2.1==0)=true then(if(y12.2.toList==y5.2.toList)=true then(some true) else(qDi N l y12.2)) else(some false)):Option Bool).bind fun o5=>((if o5=true then qAm N y12.1 y11.2.2.2.2 10 else some y12.1):Option RT).bind fun o6=>(qAj N o6 (⟨#[59]⟩:ByteArray)).bind fun y15=>(qEc 16 l ([y12.2])).bind fun l1=>qAw (qCf N y5) M (addL y15 l1))
    else some (addL (gR ts pr (i,b)) l)):=by
   have hk:isC ts 1 qVx i=((tkAt ts i).1==1&&decide ((tkAt ts i).2.1=(⟨#[105,109,112,111,114,116]⟩:ByteArray))):=rfl
   have hw:=qMa (show i<1000000 by omega)
   simp only[qAw,qCf,g0,jH,e1,e2,qKs (i,b) hi,j0,Prod.eta,qEj,hk]
   rcases qDj ((tkAt ts i).1==1) with c1|c1
   rotate_left
   ·simp only[c1,jB,jE,j0,d5]
    rfl
   rcases qDj (decide ((tkAt ts i).2.1=(⟨#[105,109,112,111,114,116]⟩:ByteArray))) with c2|c2
   rotate_left
   ·simp only[c1,c2,jB,jE,jH,j0,Bool.and_false]
    rfl
   simp only[c1,c2,jH,j0,d9]
   rcases qDj ((l.length:Int)==8) with c3|c3
   ·simp only[c3,jH,j0,qKs (i,b) hi,qLk,obs]
    have e3:((bR ts ((tkAt ts i).2.2.2,2) i pr b).1,IntKind.wrap .i64 ((bR ts ((tkAt ts i).2.2.2,2) i pr b).2.1+1),(bR ts ((tkAt ts i).2.2.2,2) i pr b).2.2.1,(bR ts ((tkAt ts i).2.2.2,2) i pr b).2.2.2.1,(bR ts ((tkAt ts i).2.2.2,2) i pr b).2.2.2.2.1,(bR ts ((tkAt ts i).2.2.2,2) i pr b).2.2.2.2.2.1,(bR ts ((tkAt ts i).2.2.2,2) i pr b).2.2.2.2.2.2)=bR ts ((tkAt ts i).2.2.2,2) (i+1) pr b:=by
     show(ts,IntKind.wrap .i64 ((i:Int)+1),(tkAt ts i).2.2.2,(2:Int),pr,b,([]:List Int))=_
     rw[hw];rfl
    rw[e3]
    simp only[gG,j0]
    rfl
   ·simp only[c3,jB,jE,j0,obs]
    have e3:((gR ts pr (i,b)).1,IntKind.wrap .i64 ((gR ts pr (i,b)).2.1+1),(gR ts pr (i,b)).2.2.1,(gR ts pr (i,b)).2.2.2.1,(gR ts pr (i,b)).2.2.2.2.1,(gR ts pr (i,b)).2.2.2.2.2.1,(gR ts pr (i,b)).2.2.2.2.2.2)=gR ts pr (i+1,b):=by
     show(ts,IntKind.wrap .i64 ((i:Int)+1),(0:Int),(0:Int),pr,b,([]:List Int))=_
     rw[hw];rfl
    rw[e3]
    simp only[gG,j0]
    rfl
  rw[step]
  simp only[qLz]
  rcases qDj (isC ts 1 qVx i) with c1|c1
  rotate_left
  ·simp only[c1,jB,jE]
   exact⟨_,rfl,rfl⟩
  have g:=qFk hok hi (by decide) c1
  simp only[c1,jH]
  by_cases k2:l.length=8
  ·have k2':((l.length:Int)==8)=true:=by simp;omega
   rw[if_pos k2]
   simp only[k2',jH,j0,qHp]
   exact badn _ _ _ _ (show(2:Int)≠0 by decide) g
  have k2':((l.length:Int)==8)=false:=by simp;omega
  rw[if_neg k2]
  simp only[k2',jB,jE,j0,qKs (i+1,b) g,qXm (i+1,b) g hl (by omega:100<N)]
  cases hx:qOu ts (i+1) with
  |inl z=>
   have hz:=zFm hx
   have hz':((bR ts z (i+1) pr b).2.2.2.1==0)=false:=by simpa[bR] using hz
   simp only[hz',jB,jE,j0,qOb hz g,happ,qCj]
   exact bad _ _ _ _ _ hz g
  |inr x=>
   obtain⟨rfl,g1,-⟩:=qLy hok g hx
   have g00:((gR ts pr (i+1+1,b)).2.2.2.1==0)=true:=rfl
   simp only[g00,jH,qEj,hhas,qCj]
   by_cases k3:(tkAt ts (i+1)).2.1=y5.2∨(tkAt ts (i+1)).2.1∈l
   ·rw[if_pos k3]
    have:((if decide ((tkAt ts (i+1)).2.1=y5.2)=true then some true else some (decide ((tkAt ts (i+1)).2.1∈l))):Option Bool)=some true:=by
     rcases k3 with h|h
     ·rw[if_pos (jO h)]
     ·rw[jO h];split<;>rfl
    rw[this]
    simp only[j0,jH,qLk,happ,qHp]
    have hz:(((tkAt ts (i+1)).2.2.2,(10:Int)):Flt).2≠0:=show(10:Int)≠0 by decide
    simp only[qOb hz g1,j0]
    exact bad _ _ _ _ _ hz g1
   rw[if_neg k3]
   have:((if decide ((tkAt ts (i+1)).2.1=y5.2)=true then some true else some (decide ((tkAt ts (i+1)).2.1∈l))):Option Bool)=some false:=by
    rw[if_neg (by simp only[jA];exact fun h=>k3 (.inl h)),jU (fun h=>k3 (.inr h))]
   rw[this]
   simp only[j0,jB,jE,qPb (i+1+1,b) g1 hl,happ,qWr]
   cases hj:qFj ts ⟨#[59]⟩ (i+1+1) with
   |inl z=>exact bad _ _ _ _ _ (qNo hj) g1
   |inr j=>
    obtain⟨rfl,g2,-⟩:=qEv hok g1 hj
    exact qWj hok hl hN n M _ (i+1+1+1) g2 (by simp only[jI,jC,jG];omega) (by omega) (by omega)
end
end
section
open Go Go.Dc
section
variable {N:Nat} {ts:List Tok} {pr:List ByteArray}
abbrev RD:=List Tok×Int×Int×Int×List ByteArray×List Ex×List Int×List Dl
def addD(st:RT)(l:List Dl):RD:=(st.1,st.2.1,st.2.2.1,st.2.2.2.1,st.2.2.2.2.1,st.2.2.2.2.2.1,st.2.2.2.2.2.2,l)
def relS(ts:List Tok)(r:Flt⊕List Dl)(o:RD):Prop:=
 match r with
 | .inl z=>∃st l,Bad ts z st∧o=addD st l
 | .inr a=>∃pr p,o=addD (gR ts pr p) a
theorem zCv{y5:RT×ByteArray}{o2:RL}{z:Flt}{i:Nat}{pr':List ByteArray}{b:List Ex}(hz:z.2≠0)(M:Nat)(l:List Dl):qAw (qCp N y5 o2) (M+1) (addD (bR ts z i pr' b) l)=some (addD (bR ts z i pr' b) l):=by
 have hz':((addD (bR ts z i pr' b) l).2.2.2.1==0)=false:=by simpa[bR,addD] using hz
 simp only[qAw,qCp,hz',jB,jE,j0]
theorem qZw(hok:OkT ts)(hl:ts.length<1000000)(hN:1000005<N){y5:RT×ByteArray}{o2:RL}:∀(n M:Nat) (l:List Dl) (i:Nat) (pr:List ByteArray) (b:List Ex),i<ts.length→l.length≤64→ts.length<i+n→ts.length+2<i+M→
  ∃o,qAw (qCp N y5 o2) M (addD (gR ts pr (i,b)) l)=some o∧relS ts (qRd ts n l i) o
 |0,M,l,i,_,_,hi,_,h,_=>by omega
 |n+1,0,l,i,_,_,hi,_,_,h=>by omega
 |n+1,M+1,l,i,pr,b,hi,hl64,hn,hM=>by
  have g0:((addD (gR ts pr (i,b)) l).2.2.2.1==0)=true:=rfl
  have e1:∀st:RT,∀l,((addD st l).1,(addD st l).2.1,(addD st l).2.2.1,(addD st l).2.2.2.1,(addD st l).2.2.2.2.1,(addD st l).2.2.2.2.2.1,(addD st l).2.2.2.2.2.2.1)=st:=fun _ _=>rfl
  have e2:∀st:RT,∀l,(addD st l).2.2.2.2.2.2.2=l:=fun _ _=>rfl
  simp only[qAw,qCp,g0,jH,e1,e2,qKs (i,b) hi,j0,Prod.eta,qRd]
  by_cases k1:(tkAt ts i).1=5
  ·have k1':((tkAt ts i).1 !=5)=false:=by simp[k1]
   rw[if_pos k1]
   simp only[k1',jB,jE,j0]
   exact⟨_,rfl,pr,(i,b),rfl⟩
  have k1':((tkAt ts i).1 !=5)=true:=by simp[k1]
  rw[if_neg k1]
  simp only[k1',jH]
  obtain⟨o,ho,hr⟩:=rdecl (N:=N) (pr:=pr) (f:=(y5.2,o2.2.2.2.2.2.2.2,l)) hok hl hN hl64 i b hi
  simp only[ho,j0]
  rw[qCv (by simp only[jC,jG];omega) (by omega)]
  simp only[j0]
  cases hd:qSe ts l i with
  |inl z=>
   rw[show qSe ts (y5.2,o2.2.2.2.2.2.2.2,l).2.2 i=qSe ts l i from rfl,hd] at hr
   obtain⟨hz,j,pr',b',hj,ho1⟩:=hr
   obtain⟨M',rfl⟩:∃M',M=M'+1:=⟨M-1,by omega⟩
   rw[ho1]
   exact⟨_,zCv hz M' _,_,_,⟨hz,j,pr',b',hj,rfl⟩,rfl⟩
  |inr a=>
   rw[show qSe ts (y5.2,o2.2.2.2.2.2.2.2,l).2.2 i=qSe ts l i from rfl,hd] at hr
   obtain⟨g1,g2,g3⟩:=qSc hok hi hd
   have hr':o=(gR ts a.2.2.2.1 (a.1,a.2.2.2.2),a.2):=hr
   rw[hr']
   exact qZw hok hl hN n M (l++[a.2]) a.1 _ _ g2 (by simp only[jI,jC,jG];omega) (by omega) (by omega)
theorem rfile(hok:OkT ts)(hl:ts.length<1000000)(hN:1000005<N):
  ((qBt N (ts,0,0,0,[],[],[]) (⟨#[112,97,99,107,97,103,101]⟩:ByteArray)).bind fun y2=>((if(!y2.2)=true then((qAl N y2.1).bind fun y3=>qAm N y3.1 y3.2.2.2.2 9) else(some y2.1)):Option RT).bind fun o1=>(qBi N o1).bind fun y5=>(qAj N y5.1 (⟨#[59]⟩:ByteArray)).bind fun y6=>(qAw (qCf N y5) N (addL y6 [])).bind fun o2=>(qAw (qCp N y5 o2) N (o2.1,o2.2.1,o2.2.2.1,o2.2.2.2.1,o2.2.2.2.2.1,o2.2.2.2.2.2.1,o2.2.2.2.2.2.2.1,[])).bind fun o7=>if(o7.2.2.2.1 !=0)=true then(some (qWk,o7.2.2.1,o7.2.2.2.1)) else(some (((y5.2,o2.2.2.2.2.2.2.2,o7.2.2.2.2.2.2.2):Sr),(0:Int),(0:Int))))=some (match zAw ts with| .inl z=>(qWk,z.1,z.2)| .inr f=>(f,0,0)):=by
 have h0:0<ts.length:=fC.2 hok.1
 obtain⟨M,hM⟩:∃M,N=M+1:=⟨N-1,by omega⟩
 have e0:((ts,(0:Int),(0:Int),(0:Int),[],[],[]):RT)=gR ts [] (0,[]):=rfl
 -- the loops behind an error
 have badD:∀(y5:RT×ByteArray) (o2:RL) (z:Flt) (st:RT),Bad ts z st→((qAw (qCp N y5 o2) N (addD st [])).bind fun o7=>if(o7.2.2.2.1 !=0)=true then(some (qWk,o7.2.2.1,o7.2.2.2.1)) else(some (((y5.2,o2.2.2.2.2.2.2.2,o7.2.2.2.2.2.2.2):Sr),(0:Int),(0:Int))))=some (qWk,z.1,z.2):=by
  rintro y5 o2 z st ⟨hz,i,pr',b,hi,rfl⟩
  have hb:qAw (qCp N y5 o2) N (addD (bR ts z i pr' b) [])=some (addD (bR ts z i pr' b) []):=by
   have e:qAw (qCp N y5 o2) N (addD (bR ts z i pr' b) [])=qAw (qCp N y5 o2) (M+1) (addD (bR ts z i pr' b) []):=by rw[←hM]
   rw[e];exact zCv hz M []
  have hz':((addD (bR ts z i pr' b) []).2.2.2.1 !=0)=true:=by simpa[bR,addD] using hz
  rw[hb]
  simp only[j0,hz',jH]
  rfl
 have badI:∀(y5:RT×ByteArray) (z:Flt) (i:Nat) (pr':List ByteArray) (b:List Ex),z.2≠0→i<ts.length→((qAw (qCf N y5) N (addL (bR ts z i pr' b) [])).bind fun o2=>(qAw (qCp N y5 o2) N (o2.1,o2.2.1,o2.2.2.1,o2.2.2.2.1,o2.2.2.2.2.1,o2.2.2.2.2.2.1,o2.2.2.2.2.2.2.1,[])).bind fun o7=>if(o7.2.2.2.1 !=0)=true then(some (qWk,o7.2.2.1,o7.2.2.2.1)) else(some (((y5.2,o2.2.2.2.2.2.2.2,o7.2.2.2.2.2.2.2):Sr),(0:Int),(0:Int))))=some (qWk,z.1,z.2):=by
  intro y5 z i pr' b hz hi
  have hb:qAw (qCf N y5) N (addL (bR ts z i pr' b) [])=some (addL (bR ts z i pr' b) []):=by
   have e:qAw (qCf N y5) N (addL (bR ts z i pr' b) [])=qAw (qCf N y5) (M+1) (addL (bR ts z i pr' b) []):=by rw[←hM]
   rw[e];exact qYw hz M []
  rw[hb]
  simp only[j0]
  exact badD y5 (addL (bR ts z i pr' b) []) z (bR ts z i pr' b) ⟨hz,i,pr',b,hi,rfl⟩
 have bad:∀(z:Flt) (i:Nat) (pr':List ByteArray) (b:List Ex),z.2≠0→i<ts.length→((qBi N (bR ts z i pr' b)).bind fun y5=>(qAj N y5.1 (⟨#[59]⟩:ByteArray)).bind fun y6=>(qAw (qCf N y5) N (addL y6 [])).bind fun o2=>(qAw (qCp N y5 o2) N (o2.1,o2.2.1,o2.2.2.1,o2.2.2.2.1,o2.2.2.2.2.1,o2.2.2.2.2.2.1,o2.2.2.2.2.2.2.1,[])).bind fun o7=>if(o7.2.2.2.1 !=0)=true then(some (qWk,o7.2.2.1,o7.2.2.2.1)) else(some (((y5.2,o2.2.2.2.2.2.2.2,o7.2.2.2.2.2.2.2):Sr),(0:Int),(0:Int))))=some (qWk,z.1,z.2):=by
  intro z i pr' b hz hi
  simp only[zFj hz hi,qOb hz hi,j0]
  exact badI _ z i pr' b hz hi
 rw[e0]
 simp only[qNl (0,[]) h0 hl,j0,zAw,qXc,qWg]
 rcases qDj (isC ts 1 ⟨#[112,97,99,107,97,103,101]⟩ 0) with c1|c1
 rotate_left
 ·simp only[c1,jB,jE,kC,jH,qKs (0,[]) h0,qLk,j0,qHp,qCj]
  exact bad _ _ _ _ (show(9:Int)≠0 by decide) h0
 have g1:=qFk hok h0 (by decide) c1
 simp only[c1,jH,jR,jB,jE,j0,qXm (0+1,[]) g1 hl (by omega:100<N),qCj]
 cases h2:qOu ts (0+1) with
 |inl z=>
  have hz:=zFm h2
  simp only[qOb hz g1,j0]
  exact badI _ z _ _ _ hz g1
 |inr x=>
  obtain⟨rfl,g2,-⟩:=qLy hok g1 h2
  simp only[qPb (0+1+1,[]) g2 hl,j0,qWr]
  cases h3:qFj ts ⟨#[59]⟩ (0+1+1) with
  |inl z=>exact badI _ z _ _ _ (qNo h3) g2
  |inr j=>
   obtain⟨rfl,g3,-⟩:=qEv hok g2 h3
   obtain⟨o,ho,hr⟩:=qWj (N:=N) (pr:=[]) (b:=[]) (y5:=(gR ts [] (0+1+1,[]),(tkAt ts (0+1)).2.1)) hok hl hN (ts.length+1) N [] (0+1+1+1) g3 (by simp) (by omega) (by omega)
   simp only[ho,j0]
   cases h4:qLz ts (tkAt ts (0+1)).2.1 (ts.length+1) [] (0+1+1+1) with
   |inl z=>
    rw[show qLz ts ((gR ts [] (0+1+1,[]),(tkAt ts (0+1)).2.1):RT×ByteArray).2 (ts.length+1) [] (0+1+1+1)=qLz ts (tkAt ts (0+1)).2.1 (ts.length+1) [] (0+1+1+1) from rfl,h4] at hr
    obtain⟨st,l,hbad,rfl⟩:=hr
    exact badD _ (addL st l) z st hbad
   |inr y=>
    rw[show qLz ts ((gR ts [] (0+1+1,[]),(tkAt ts (0+1)).2.1):RT×ByteArray).2 (ts.length+1) [] (0+1+1+1)=qLz ts (tkAt ts (0+1)).2.1 (ts.length+1) [] (0+1+1+1) from rfl,h4] at hr
    have hr':o=addL (gR ts [] (y.1,[])) y.2:=hr
    obtain⟨k1,k2,k3⟩:=qPj hok _ _ _ y g3 (by simp) h4
    obtain⟨o2,ho2,hr2⟩:=qZw (N:=N) (y5:=(gR ts [] (0+1+1,[]),(tkAt ts (0+1)).2.1)) (o2:=o) hok hl hN (ts.length+1) N [] y.1 [] [] k2 (by simp) (by omega) (by omega)
    have e3:(o.1,o.2.1,o.2.2.1,o.2.2.2.1,o.2.2.2.2.1,o.2.2.2.2.2.1,o.2.2.2.2.2.2.1,([]:List Dl))=addD (gR ts [] (y.1,[])) []:=by rw[hr'];rfl
    rw[e3,ho2]
    simp only[j0]
    cases h5:qRd ts (ts.length+1) [] y.1 with
    |inl z=>
     rw[h5] at hr2
     obtain⟨st,l,⟨hz,i,pr',b,hi,rfl⟩,rfl⟩:=hr2
     have hz':((addD (bR ts z i pr' b) l).2.2.2.1 !=0)=true:=by simpa[bR,addD] using hz
     simp only[hz',jH]
     rfl
    |inr l=>
     rw[h5] at hr2
     obtain⟨pr',p',rfl⟩:=hr2
     have hz':((addD (gR ts pr' p') l).2.2.2.1 !=0)=false:=rfl
     simp only[hz',jB,jE]
     rw[hr']
     rfl
end
theorem zJw{N:Nat}(s:ByteArray)(hN:1000005<N):qKb N s=some (qIh s):=by
 simp only[qKb,zGs (N:=N) (by omega),j0,qIh]
 by_cases h:(qHf s).2.2=0
 ·rw[if_neg (show ¬((qHf s).2.2 !=0)=true by simpa using h),if_neg (show ¬(qHf s).2.2≠0 by simpa using h)]
  obtain⟨h1,h2,h3⟩:=qUw h
  have hf:=rfile (N:=N) h1 (by omega) hN
  refine Eq.trans ?_ (Eq.trans hf ?_)
  ·simp only[Prod.eta,obs];rfl
  ·cases zAw (qHf s).1<;>rfl
 ·rw[if_pos (show((qHf s).2.2 !=0)=true by simpa using h),if_pos h];rfl
end
section
open Go Go.Dc Go.Proofs
def qZc{α τ:Type}(g:Nat→τ→α→τ):Nat→τ→List α→τ
 |_,t,[]=>t
 |i,t,x::l=>qZc g (i+1) (g i t x) l
theorem zDu{α τ σ β:Type}{L:List α}(enc:τ→Nat→σ){f:σ→Option (σ⊕β)}(g:Nat→τ→α→τ)(fin:τ→β)
  (hstep:∀t i,∀hi:i<L.length,f (enc t i)=some (.inl (enc (g i t L[i]) (i+1))))
  (hfin:∀t,f (enc t L.length)=some (.inr (fin t))):∀(d i M:Nat) (t:τ),i+d=L.length→d<M→qAw f M (enc t i)=some (fin (qZc g i t (L.drop i)))
 |_,_,0,_,_,h=>absurd h (kZ _)
 |0,i,M+1,t,h1,h2=>by
  have hi:i=L.length:=by omega
  subst hi
  simp only[qAw,hfin t,j0,fN,qZc]
 |d+1,i,M+1,t,h1,h2=>by
  have hi:i<L.length:=by omega
  simp only[qAw,hstep t i hi,j0]
  rw[qXl hi]
  exact zDu enc g fin hstep hfin d (i+1) M _ (by omega) (by omega)
abbrev Ent:=ByteArray×ByteArray×Int×ByteArray×Int×Int
abbrev K3:=Int×ByteArray×ByteArray
abbrev Occ:=ByteArray×ByteArray×Int×ByteArray×Int
def keyC(kind:Int)(pkg name:ByteArray):K3:=(kind,if kind=3 then qWp else pkg,name)
def okey(o:Occ):K3:=keyC o.2.2.1 o.1 o.2.1
def qLo(M:List (K3×Ent))(o:Occ):List (K3×Ent):=
 mset M (okey o) (match mget M (okey o) with
  |some x=>(x.1,x.2.1,x.2.2.1,x.2.2.2.1,x.2.2.2.2.1,IntKind.wrap .i64 (x.2.2.2.2.2+1))
  |none=>(o.1,o.2.1,o.2.2.1,o.2.2.2.1,o.2.2.2.2,1))
def qQx(path pkg:ByteArray):Nat→List Dl→List Occ
 |_,[]=>[]
 |i,d::l=>(pkg,d.2.1,d.1,path,(i:Int))::qQx path pkg (i+1) l
def qPa(f:File):Bool:=qGy f.1&&decide ((qIh f.2).2.2=0)
def qHr(L:List File):List (ByteArray×Sr):=(L.filter qPa).map fun f=>(f.1,(qIh f.2).1)
def qMv(L:List File):List ByteArray:=(L.filter fun f=>qGy f.1&& !decide ((qIh f.2).2.2=0)).map (·.1)
def qLv(l:List (ByteArray×Sr)):List Occ:=l.flatMap fun x=>qQx x.1 x.2.1 0 x.2.2.2
abbrev Wld:=List File×Bool×Option (List (ByteArray×Sr))×List ByteArray×Option (List (K3×Ent))
def qYt(L:List File):Wld:=
 if qIg L=0 then(L,true,some ((qHr L).foldl (fun S x=>mset S x.1 x.2) []),qMv L,some ((qLv (qHr L)).foldl qLo [])) else(L,false,some [],[],some [])
theorem zDq(path pkg:ByteArray):∀(l:List Dl) (i:Nat) (M:List (K3×Ent)),
  qZc (fun i M (d:Dl)=>qLo M (pkg,d.2.1,d.1,path,(i:Int))) i M l=(qQx path pkg i l).foldl qLo M
 |[],_,_=>rfl
 |d::l,i,M=>by simp only[qZc,qQx,jQ];exact zDq path pkg l (i+1) _
theorem qYd{N:Nat}(a:Int)(b c:ByteArray):qSh N a b c=some (keyC a b c):=by
 unfold qSh keyC
 by_cases h:a=3
 ·rw[if_pos (by simp[h]),if_pos h];rfl
 ·rw[if_neg (by simp[h]),if_neg h];rfl
theorem zMw{N:Nat}{x:File}{y:Sr×Int×Int}(hl:y.1.2.2.length<1000)(hN:1000<N)(M:List (K3×Ent)):
  qAw (qMb N x y) N (0,some M)=some (some ((qQx x.1 y.1.1 0 y.1.2.2).foldl qLo M)):=by
 have:=zDu (L:=y.1.2.2) (fun(M:List (K3×Ent)) i=>((i:Int),some M)) (f:=qMb N x y)
  (fun i M (d:Dl)=>qLo M (y.1.1,d.2.1,d.1,x.1,(i:Int))) (fun M=>some M) (by
   intro M i hi
   simp only[qMb]
   rw[if_pos (by simp only[jA];omega),qDu hi]
   simp only[j0,qYd]
   have ew:IntKind.wrap .i64 ((i:Int)+1)=((i+1:Nat):Int):=by rw[wi64 (by omega) (by omega)];omega
   simp only[ew]
   by_cases h:(qAx (some M) (keyC (y.1.2.2[i]).1 y.1.1 (y.1.2.2[i]).2.1)).isSome=true
   ·rw[if_pos h]
    unfold qLo okey
    simp only[qAx,qMe,j0,kE] at h ⊢
    obtain⟨v,hv⟩:=fU.1 h
    rw[hv];rfl
   ·rw[if_neg h]
    unfold qLo okey
    simp only[qAx,qMe,j0,kE] at h ⊢
    rw[show mget M (keyC (y.1.2.2[i]).1 y.1.1 (y.1.2.2[i]).2.1)=none by simpa using h]) (by
   intro M
   simp only[qMb]
   rw[if_neg (by simp)]) y.1.2.2.length 0 N M (by omega) (by omega)
 rw[jZ,zDq] at this
 exact this
theorem zDa{ts:List Tok}(h:OkT ts):∀(n:Nat) (l:List Dl) (i:Nat) {r:List Dl},l.length≤64→i<ts.length→qRd ts n l i= .inr r→r.length≤64
 |0,_,_,_,_,_,h1=>by cases h1
 |n+1,l,i,r,hl,hi,h1=>by
  unfold qRd at h1
  split at h1
  ·cases h1;exact hl
  obtain⟨x,hx,h2⟩:=qBx h1
  obtain⟨-,g2,g3⟩:=qSc h hi hx
  exact zDa h n _ _ (by simp;omega) g2 h2
theorem qXy{s:ByteArray}:(qIh s).1.2.2.length≤64:=by
 unfold qIh
 by_cases h0:(qHf s).2.2=0
 ·rw[if_neg (not_not_intro h0)]
  obtain⟨hok,hlen,hsz⟩:=qUw h0
  have hpos:0<(qHf s).1.length:=by
   cases h:(qHf s).1 with
   |nil=>exact absurd h hok.1
   |cons a l=>exact Nat.succ_pos _
  cases hf:zAw (qHf s).1 with
  |inl z=>exact k0 _
  |inr f=>
   simp only
   unfold zAw at hf
   obtain⟨i,h1,hf⟩:=qBx hf
   obtain⟨rfl,g1,-⟩:=qSn hok hpos h1
   obtain⟨a,h2,hf⟩:=qBx hf
   obtain⟨rfl,g2,-⟩:=qLy hok g1 h2
   obtain⟨j,h3,hf⟩:=qBx hf
   obtain⟨rfl,g3,-⟩:=qEv hok g2 h3
   obtain⟨b,h4,hf⟩:=qBx hf
   obtain⟨-,k2,-⟩:=qPj hok _ _ _ b g3 (by simp) h4
   obtain⟨l,h5,hf⟩:=qBx hf
   have:=zDa hok _ _ _ (by simp) k2 h5
   cases hf
   exact this
 ·rw[if_pos h0];exact k0 _
def newF(t:List ByteArray×List (ByteArray×Sr)×List (K3×Ent))(f:File):List ByteArray×List (ByteArray×Sr)×List (K3×Ent):=
 if qGy f.1=false then t
 else if(qIh f.2).2.2=0 then(t.1,mset t.2.1 f.1 (qIh f.2).1,(qQx f.1 (qIh f.2).1.1 0 (qIh f.2).1.2.2).foldl qLo t.2.2)
 else(t.1++[f.1],t.2)
theorem qXa:∀(L:List File) (B:List ByteArray) (S:List (ByteArray×Sr)) (M:List (K3×Ent)),
  L.foldl newF (B,S,M)=(B++qMv L,(qHr L).foldl (fun S x=>mset S x.1 x.2) S,(qLv (qHr L)).foldl qLo M)
 |[],B,S,M=>by simp[qMv,qHr,qLv]
 |f::L,B,S,M=>by
  rw[jQ]
  by_cases h1:qGy f.1=true
  ·by_cases h2:(qIh f.2).2.2=0
   ·have e:newF (B,S,M) f=(B,mset S f.1 (qIh f.2).1,(qQx f.1 (qIh f.2).1.1 0 (qIh f.2).1.2.2).foldl qLo M):=by
     unfold newF;rw[if_neg (by simp[h1]),if_pos h2]
    have el:qHr (f::L)=(f.1,(qIh f.2).1)::qHr L:=by
     unfold qHr;rw[kU,if_pos (show qPa f=true by simp[qPa,h1,h2])];rfl
    have eb:qMv (f::L)=qMv L:=by
     unfold qMv;rw[kU,if_neg (by simp[h2])]
    rw[e,qXa L,el,eb]
    simp only[jQ,qLv,kG,fK]
   ·have e:newF (B,S,M) f=(B++[f.1],S,M):=by
     unfold newF;rw[if_neg (by simp[h1]),if_neg h2]
    have el:qHr (f::L)=qHr L:=by
     unfold qHr;rw[kU,if_neg (by simp[qPa,h2])]
    have eb:qMv (f::L)=f.1::qMv L:=by
     unfold qMv;rw[kU,if_pos (by simp[h1,h2])];rfl
    rw[e,qXa L,el,eb]
    simp
  ·have h1:qGy f.1=false:=by simpa using h1
   have e:newF (B,S,M) f=(B,S,M):=by unfold newF;rw[if_pos h1]
   have el:qHr (f::L)=qHr L:=by
    unfold qHr;rw[kU,if_neg (by simp[qPa,h1])]
   have eb:qMv (f::L)=qMv L:=by
    unfold qMv;rw[kU,if_neg (by simp[h1])]
   rw[e,qXa L,el,eb]
theorem zLy{N:Nat}{L:List File}(hP:qMu N L)(hl:L.length≤64)(hN:1000001<N):
  qAw (qMc N L) N (0,[],some [],some [])=some (qMv L,some ((qHr L).foldl (fun S x=>mset S x.1 x.2) []),some ((qLv (qHr L)).foldl qLo [])):=by
 have h:=qMi (L:=L) (fun(t:List ByteArray×List (ByteArray×Sr)×List (K3×Ent)) (i:Nat)=>((i:Int),t.1,some t.2.1,some t.2.2)) (f:=qMc N L)
  (fun t f=> .inl (newF t f)) (fun t=>(t.1,some t.2.1,some t.2.2)) (fun i t=>t.1.length≤i) (by
   intro t i hi hI
   simp only[qMc]
   rw[if_pos (by simp only[jA];omega),qDu hi]
   have ew:IntKind.wrap .i64 ((i:Int)+1)=((i+1:Nat):Int):=by rw[wi64 (by omega) (by omega)];omega
   have hs:=zAy (N:=N) (hP _ (kA hi))
   simp only[j0,hs,zKk _ hN,ew]
   unfold newF
   by_cases h1:qGy (L[i]).1=true
   ·by_cases h2:(qIh (L[i]).2).2.2=0
    ·rw[if_neg (by simp[h1]),if_neg (by simp[h2]),if_neg (by simp[h1]),if_pos h2,zMw (by have:=qXy (s:=(L[i]).2);omega) (by omega)]
     simp only[qMe,kE,j0]
    ·rw[if_neg (by simp[h1]),if_pos (by simpa using h2),if_neg (by simp[h1]),if_neg h2,qCv (by simp only[jC,jG];omega) (by omega)]
     simp only[j0]
   ·have h1:qGy (L[i]).1=false:=by simpa using h1
    rw[if_pos (by simp[h1]),if_pos h1]
    simp only[j0]) (by
   intro t i hi t' hI h
   cases h
   unfold newF
   split
   ·omega
   ·split
    ·exact Nat.le_succ_of_le hI
    ·simp only[jI,jC,jG];omega) (by
   intro t hI
   simp only[qMc]
   rw[if_neg (by simp)]) (M:=N) (t:=([],[],[])) (by omega) (k0 _)
 rw[show((0:Nat):Int)=0 from rfl] at h
 rw[h,qPc newF (fun _ _=>rfl),qXa]
 simp only[kS]
theorem zGz{N:Nat}{L:List File}(hP:qMu N L)(hN:1000001<N):qOk N L=some (qYt L):=by
 simp only[qOk,zLi hP (show 100<N by omega),j0]
 unfold qYt
 by_cases hc:qIg L=0
 ·rw[if_neg (by simp[hc]),if_pos hc,zLy hP (qIa.1 hc).1 hN]
  simp only[j0,hc];rfl
 ·rw[if_pos (by simpa using hc),if_neg hc]
  simp only[show(qIg L==0)=false by simpa using hc]
def seeE(kind:Int)(pkg name:ByteArray)(e:Ent)(o:Occ):Ent:=
 if okey o=keyC kind pkg name then(if e.2.2.2.2.2=0 then(o.1,name,kind,o.2.2.2.1,o.2.2.2.2,1) else(e.1,e.2.1,e.2.2.1,e.2.2.2.1,e.2.2.2.2.1,e.2.2.2.2.2+1)) else e
def noE(kind:Int)(pkg name:ByteArray):Ent:=(if kind=3 then qWp else pkg,name,kind,qWp,0,0)
def entE(O:List Occ)(kind:Int)(pkg name:ByteArray):Ent:=O.foldl (seeE kind pkg name) (noE kind pkg name)
theorem qUs{k k':Int}{p p' n n':ByteArray}(h:keyC k p n=keyC k' p' n'):k=k'∧n=n'∧(k=3∨p=p'):=by
 simp only[keyC,Prod.mk.injEq] at h
 obtain⟨rfl,h2,h3⟩:=h
 refine⟨rfl,h3,?_⟩
 by_cases h:k=3
 ·exact .inl h
 ·rw[if_neg h,if_neg h] at h2;exact .inr h2
def MapE(M:List (K3×Ent))(O:List Occ):Prop:=
 (M.map (·.1)).Nodup∧∀kind pkg name,mget M (keyC kind pkg name)=if(entE O kind pkg name).2.2.2.2.2=0 then none else some (entE O kind pkg name)
theorem zCj(kind:Int)(pkg name:ByteArray):∀(O:List Occ),0≤(entE O kind pkg name).2.2.2.2.2∧(entE O kind pkg name).2.2.2.2.2≤O.length∧((entE O kind pkg name).2.2.2.2.2=0→entE O kind pkg name=noE kind pkg name):=by
 suffices h:∀(O:List Occ) (e:Ent) (b:Nat),0≤e.2.2.2.2.2∧e.2.2.2.2.2≤b∧(e.2.2.2.2.2=0→e=noE kind pkg name)→
   0≤(O.foldl (seeE kind pkg name) e).2.2.2.2.2∧(O.foldl (seeE kind pkg name) e).2.2.2.2.2≤(b+O.length:Nat)∧((O.foldl (seeE kind pkg name) e).2.2.2.2.2=0→O.foldl (seeE kind pkg name) e=noE kind pkg name) by
  intro O
  have:=h O (noE kind pkg name) 0 ⟨Int.le_refl _,Int.le_refl _,fun _=>rfl⟩
  rw[kN] at this
  exact this
 intro O
 induction O with
 |nil=>intro e b h;exact h
 |cons o O ih=>
  intro e b h
  rw[jQ]
  have:=ih (seeE kind pkg name e o) (b+1) (by
   unfold seeE
   split
   ·split
    ·exact⟨(by show(0:Int)≤1;decide),by show(1:Int)≤_;omega,fun h=>by simp at h⟩
    ·rename_i hc
     refine⟨by show(0:Int)≤e.2.2.2.2.2+1;omega,by show e.2.2.2.2.2+1≤_;omega,fun h1=> ?_⟩
     have h1:e.2.2.2.2.2+1=0:=h1
     omega
   ·exact⟨h.1,by omega,h.2.2⟩)
  rw[jC,show b+(O.length+1)=b+1+O.length by omega]
  exact this
theorem MapE.step{M:List (K3×Ent)}{O:List Occ}(h:MapE M O)(hO:O.length<1000000)(o:Occ):MapE (qLo M o) (O++[o]):=by
 refine⟨qOx h.1 _ _,fun kind pkg name=> ?_⟩
 have hb:=zCj kind pkg name O
 have hE:entE (O++[o]) kind pkg name=seeE kind pkg name (entE O kind pkg name) o:=by
  unfold entE;rw[fK];rfl
 unfold qLo
 rw[qSk h.1,hE]
 by_cases hk:keyC kind pkg name=okey o
 ·rw[if_pos hk,←hk,h.2 kind pkg name]
  unfold seeE
  rw[if_pos hk.symm]
  obtain⟨e1,e2,e3⟩:=qUs hk
  by_cases hc:(entE O kind pkg name).2.2.2.2.2=0
  ·rw[if_pos hc,if_pos hc,if_neg (show ¬(1:Int)=0 by decide),←e1,←e2]
  ·rw[if_neg hc,if_neg hc,if_neg (show ¬(entE O kind pkg name).2.2.2.2.2+1=0 by omega)]
   simp only[wi64 (show-9223372036854775808≤(entE O kind pkg name).2.2.2.2.2+1 by omega) (by omega)]
 ·have hs:seeE kind pkg name (entE O kind pkg name) o=entE O kind pkg name:=by unfold seeE;rw[if_neg (fun e=>hk e.symm)]
  rw[if_neg hk,h.2 kind pkg name,hs]
theorem MapE.fold{O:List Occ}(hO:O.length<1000000):MapE (O.foldl qLo []) O:=by
 suffices h:∀(K:List Occ) (M:List (K3×Ent)) (J:List Occ),J.length+K.length<1000000→MapE M J→MapE (K.foldl qLo M) (J++K) by
  have:=h O [] [] (by simpa using hO) ⟨gD,fun kind pkg name=>by rw[show(entE [] kind pkg name).2.2.2.2.2=0 from rfl,if_pos rfl];rfl⟩
  exact this
 intro K
 induction K with
 |nil=>intro M J _ h;rw[hU];exact h
 |cons o K ih=>
  intro M J hl h
  rw[jQ,show J++o::K=(J++[o])++K by simp]
  simp only[jC] at hl
  exact ih _ _ (by simp;omega) (h.step (by omega) o)
theorem zGj(path pkg:ByteArray):∀(l:List Dl) (i:Nat),(qQx path pkg i l).length=l.length
 |[],_=>rfl
 |_::l,i=>by simp only[qQx,jC,zGj path pkg l]
theorem zBg{L:List File}{x:ByteArray×Sr}(h:x∈qHr L):∃f∈L,qPa f=true∧x=(f.1,(qIh f.2).1):=by
 unfold qHr at h
 obtain⟨f,hf,rfl⟩:=gS.1 h
 exact⟨f,(fZ.1 hf).1,(fZ.1 hf).2,rfl⟩
theorem qWm(L:List File):(qHr L).length≤L.length:=by
 unfold qHr;rw[kP];exact fJ _ _
theorem zIe:∀(l:List (ByteArray×Sr)),(∀x∈l,x.2.2.2.length≤64)→(qLv l).length≤64*l.length
 |[],_=>jP _
 |x::l,h=>by
  have:=zIe l fun y hy=>h y (jS _ hy)
  have:=h x (jN ..)
  unfold qLv at*
  rw[kG,jI,zGj,jC]
  omega
theorem zBh{L:List File}(hl:L.length≤64):(qLv (qHr L)).length<1000000:=by
 have:=zIe (qHr L) fun x hx=>by
  obtain⟨f,_,_,rfl⟩:=zBg hx
  exact qXy
 have:=qWm L
 omega
def zeroE:Ent:=(qWp,qWp,0,qWp,0,0)
def zLu(L:List File)(kind:Int)(pkg name:ByteArray):Ent:=if qIg L=0 then entE (qLv (qHr L)) kind pkg name else zeroE
theorem zQv{N:Nat}{L:List File}(kind:Int)(pkg name:ByteArray):qLp N (qYt L) kind pkg name=some (zLu L kind pkg name):=by
 unfold qLp qYt zLu
 by_cases hc:qIg L=0
 ·simp only[if_pos hc]
  rw[if_neg (by simp)]
  simp only[qYd,j0]
  have hM:=(MapE.fold (zBh (qIa.1 hc).1)).2 kind pkg name
  have hb:=zCj kind pkg name (qLv (qHr L))
  generalize hq:qAx (some ((qLv (qHr L)).foldl qLo [])) (keyC kind pkg name)=q
  have hq:q=if(entE (qLv (qHr L)) kind pkg name).2.2.2.2.2=0 then none else some (entE (qLv (qHr L)) kind pkg name):=hq.symm.trans hM
  by_cases h0:(entE (qLv (qHr L)) kind pkg name).2.2.2.2.2=0
  ·rw[if_pos h0] at hq
   subst hq
   rw[if_neg (by simp),hb.2.2 h0];rfl
  ·rw[if_neg h0] at hq
   subst hq
   rw[if_pos (show(some (entE (qLv (qHr L)) kind pkg name)).isSome=true from rfl)];rfl
 ·simp only[if_neg hc]
  rw[if_pos (show(!false)=true from rfl)];rfl
end
section
open Go Go.Dc Go.Proofs
theorem qVn{α τ σ β:Type}{L:List α}(enc:τ→Nat→σ){f:σ→Option (σ⊕β)}(g:Nat→τ→α→τ)(fin:τ→β)(I:Nat→τ→Prop)
  (hstep:∀t i,∀hi:i<L.length,I i t→f (enc t i)=some (.inl (enc (g i t L[i]) (i+1)))∧I (i+1) (g i t L[i]))
  (hfin:∀t,I L.length t→f (enc t L.length)=some (.inr (fin t))):∀(d i M:Nat) (t:τ),i+d=L.length→d<M→I i t→qAw f M (enc t i)=some (fin (qZc g i t (L.drop i)))∧I L.length (qZc g i t (L.drop i))
 |_,_,0,_,_,h,_=>absurd h (kZ _)
 |0,i,M+1,t,h1,h2,h3=>by
  have hi:i=L.length:=by omega
  subst hi
  simp only[qAw,hfin t h3,j0,fN,qZc]
  exact⟨trivial,h3⟩
 |d+1,i,M+1,t,h1,h2,h3=>by
  have hi:i<L.length:=by omega
  obtain⟨k1,k2⟩:=hstep t i hi h3
  simp only[qAw,k1,j0]
  rw[qXl hi]
  exact qVn enc g fin I hstep hfin d (i+1) M _ (by omega) (by omega) k2
def srcP(L:List File)(p:ByteArray):Sr×Bool:=match(if qIg L=0 then fget L p else none) with
 |some b=>if qGy p=true then((qIh b).1,decide ((qIh b).2.2=0)) else(qWk,false)
 |none=>(qWk,false)
theorem qNt{N:Nat}{L:List File}{p:ByteArray}(hN:1000005<N):qDx N L p=some (srcP L p):=by
 simp only[qDx,zMz p (show 100<N by omega),j0,qVj (show 100<N by omega),zJw _ hN]
 unfold srcP zLv
 by_cases hc:qIg L=0
 ·rw[if_pos hc,if_pos hc]
  cases hg:fget L p with
  |none=>rfl
  |some b=>
   simp only[zTq]
   by_cases hs:qGy p=true
   ·rw[if_pos hs,hs]
    simp only[jR,jB,jE,j0]
    congr 2
   ·have hs':qGy p=false:=by simpa using hs
    rw[if_neg hs,hs']
    rfl
 ·rw[if_neg hc,if_neg hc];rfl
theorem qZl{L:List File}(hc:qIg L=0){f:File}(hf:f∈L):(srcP L f.1).2=qPa f∧(qPa f=true→(srcP L f.1).1=(qIh f.2).1):=by
 unfold srcP
 rw[if_pos hc,qVs (qIa.1 hc).2.1 hf]
 simp only[qPa]
 by_cases hs:qGy f.1=true
 ·rw[if_pos hs,hs];exact⟨by simp,fun _=>rfl⟩
 ·rw[if_neg hs]
  have hs':qGy f.1=false:=by simpa using hs
  rw[hs'];exact⟨rfl,fun h=>by simp at h⟩
def zEl(t:List ByteArray×List Sr)(f:File):List ByteArray×List Sr:=if qPa f=true then(t.1++[f.1],t.2++[(qIh f.2).1]) else t
theorem qXd:∀(L:List File) (P:List ByteArray) (S:List Sr),L.foldl zEl (P,S)=(P++(qHr L).map (·.1),S++(qHr L).map (·.2))
 |[],P,S=>by simp[qHr]
 |f::L,P,S=>by
  rw[jQ]
  by_cases h:qPa f=true
  ·have el:qHr (f::L)=(f.1,(qIh f.2).1)::qHr L:=by unfold qHr;rw[kU,if_pos h];rfl
   rw[show zEl (P,S) f=(P++[f.1],S++[(qIh f.2).1]) by unfold zEl;rw[if_pos h],qXd L,el]
   simp
  ·have el:qHr (f::L)=qHr L:=by unfold qHr;rw[kU,if_neg h]
   rw[show zEl (P,S) f=(P,S) by unfold zEl;rw[if_neg h],qXd L,el]
def zBv(L:List File):List (ByteArray×Sr):=if qIg L=0 then qHr L else[]
theorem zDs{N:Nat}{L:List File}(hN:1000005<N):qJe N L=some ((zBv L).map (·.1),(zBv L).map (·.2)):=by
 simp only[qJe,qNm (show 100<N by omega),j0]
 unfold zBv
 by_cases hc:qIg L=0
 ·rw[if_neg (by simp[hc]),if_pos hc]
  have hl:=(qIa.1 hc).1
  have h:=qMi (L:=L) (fun(t:List ByteArray×List Sr) (i:Nat)=>((i:Int),t.1,t.2)) (f:=qHm N L)
   (fun t f=> .inl (zEl t f)) (fun t=>(t.1,t.2)) (fun i t=>t.1.length≤i∧t.2.length≤i) (by
    intro t i hi hI
    simp only[qHm]
    rw[if_pos (by simp only[jA];omega),qDu hi]
    have ew:IntKind.wrap .i64 ((i:Int)+1)=((i+1:Nat):Int):=by rw[wi64 (by omega) (by omega)];omega
    have hs:=qZl hc (kA hi)
    simp only[j0,qNt hN,ew,hs.1]
    unfold zEl
    by_cases h1:qPa L[i]=true
    ·rw[if_pos h1,if_pos h1,qCv (by simp only[jC,jG];omega) (by omega)]
     simp only[j0]
     rw[qCv (by simp only[jC,jG];omega) (by omega)]
     simp only[j0,hs.2 h1]
    ·rw[if_neg h1,if_neg h1];rfl) (by
    intro t i hi t' hI h
    cases h
    unfold zEl
    split
    ·simp only[jI,jC,jG];omega
    ·omega) (by
    intro t hI
    simp only[qHm]
    rw[if_neg (by simp)]) (M:=N) (t:=([],[])) (by omega) ⟨k0 _,k0 _⟩
  rw[show((0:Nat):Int)=0 from rfl] at h
  rw[h,qPc zEl (fun _ _=>rfl),qXd]
  simp only[kS,j0]
 ·rw[if_pos (by simpa using hc),if_neg hc];rfl
theorem zCw(kind:Int)(pkg name path p:ByteArray):∀(l:List Dl) (i:Nat) (e:Ent),
  qZc (fun i e (d:Dl)=>seeE kind pkg name e (p,d.2.1,d.1,path,(i:Int))) i e l=(qQx path p i l).foldl (seeE kind pkg name) e
 |[],_,_=>rfl
 |d::l,i,e=>by simp only[qZc,qQx,jQ];exact zCw kind pkg name path p l (i+1) _
theorem skipE{kind:Int}{pkg name path p:ByteArray}(hk:kind≠3)(hp:p≠pkg):∀(l:List Dl) (i:Nat) (e:Ent),(qQx path p i l).foldl (seeE kind pkg name) e=e
 |[],_,_=>rfl
 |d::l,i,e=>by
  have:seeE kind pkg name e (p,d.2.1,d.1,path,(i:Int))=e:=by
   unfold seeE
   rw[if_neg]
   intro h
   obtain⟨e1,e2,e3⟩:=qUs h
   rcases e3 with e3|e3
   ·exact hk (by rw[←e1];exact e3)
   ·exact hp e3
  simp only[qQx,jQ,this]
  exact skipE hk hp l (i+1) e
def EntI(kind:Int)(name:ByteArray)(b:Nat)(e:Ent):Prop:=e.2.1=name∧e.2.2.1=kind∧0≤e.2.2.2.2.2∧e.2.2.2.2.2≤(b:Int)
theorem EntI.see{kind:Int}{pkg name:ByteArray}{b:Nat}{e:Ent}(h:EntI kind name b e)(o:Occ):EntI kind name (b+1) (seeE kind pkg name e o):=by
 obtain⟨h1,h2,h3,h4⟩:=h
 unfold seeE
 split
 ·split
  ·exact⟨rfl,rfl,(by show(0:Int)≤1;decide),(by show(1:Int)≤_;omega)⟩
  ·exact⟨h1,h2,(by show(0:Int)≤e.2.2.2.2.2+1;omega),(by show e.2.2.2.2.2+1≤_;omega)⟩
 ·exact⟨h1,h2,h3,by omega⟩
theorem zJm{N:Nat}{P:List ByteArray×List Sr}{kind:Int}{pkg name path:ByteArray}{s1:Int×ByteArray×ByteArray×Int×Int}{x:Sr}(hx:idx P.1 s1.1=some path)(hpk:kind=3∨x.1=pkg)
  (hl:x.2.2.length≤64) (hN:1000<N) {b:Nat} (hb:b<1000000) {e:Ent} (hI:EntI kind name b e):
  qAw (qEr N P kind name s1 x) N (0,e.1,e.2.2.2.1,e.2.2.2.2.1,e.2.2.2.2.2)=some (((qQx path x.1 0 x.2.2).foldl (seeE kind pkg name) e).1,((qQx path x.1 0 x.2.2).foldl (seeE kind pkg name) e).2.2.2.1,((qQx path x.1 0 x.2.2).foldl (seeE kind pkg name) e).2.2.2.2.1,((qQx path x.1 0 x.2.2).foldl (seeE kind pkg name) e).2.2.2.2.2)
  ∧EntI kind name (b+64) ((qQx path x.1 0 x.2.2).foldl (seeE kind pkg name) e):=by
 have:=qVn (L:=x.2.2) (fun(e:Ent) (i:Nat)=>((i:Int),e.1,e.2.2.2.1,e.2.2.2.2.1,e.2.2.2.2.2)) (f:=qEr N P kind name s1 x)
  (fun i e (d:Dl)=>seeE kind pkg name e (x.1,d.2.1,d.1,path,(i:Int))) (fun e=>(e.1,e.2.2.2.1,e.2.2.2.2.1,e.2.2.2.2.2)) (fun i e=>EntI kind name (b+i) e) (by
   intro e i hi hI
   refine⟨?_,hI.see _⟩
   obtain⟨h1,h2,h3,h4⟩:=hI
   simp only[qEr]
   rw[if_pos (by simp only[jA];omega),qDu hi]
   have ew:IntKind.wrap .i64 ((i:Int)+1)=((i+1:Nat):Int):=by rw[wi64 (by omega) (by omega)];omega
   have ec:IntKind.wrap .i64 (e.2.2.2.2.2+1)=e.2.2.2.2.2+1:=wi64 (by omega) (by omega)
   simp only[j0,ew,ec,eqB,hx]
   have hkey:okey (x.1,(x.2.2[i]).2.1,(x.2.2[i]).1,path,(i:Int))=keyC kind pkg name↔(x.2.2[i]).1=kind∧(x.2.2[i]).2.1=name:=by
    constructor
    ·intro h;obtain⟨e1,e2,-⟩:=qUs h;exact⟨e1,e2⟩
    ·rintro⟨e1,e2⟩
     unfold okey keyC
     simp only[e1,e2]
     rcases hpk with rfl|rfl
     ·rfl
     ·rfl
   unfold seeE
   by_cases hk:(x.2.2[i]).1=kind
   ·rw[if_pos (show((x.2.2[i]).1==kind)=true by simp[hk])]
    simp only[j0,jA]
    by_cases hn:(x.2.2[i]).2.1=name
    ·rw[if_pos hn,if_pos (hkey.2 ⟨hk,hn⟩)]
     by_cases hc:e.2.2.2.2.2=0
     ·rw[if_pos (by simp[hc]),if_pos hc,hc];rfl
     ·rw[if_neg (show ¬(e.2.2.2.2.2+1==1)=true by rw[k9];omega),if_neg hc];rfl
    ·rw[if_neg hn,if_neg (fun h=>hn (hkey.1 h).2)];rfl
   ·rw[if_neg (show ¬((x.2.2[i]).1==kind)=true by simp[hk])]
    simp only[j0,jB,jE]
    rw[if_neg (fun h=>hk (hkey.1 h).1)]) (by
   intro e _
   simp only[qEr]
   rw[if_neg (by simp)]) x.2.2.length 0 N e (by omega) (by omega) hI
 rw[jZ,zCw] at this
 refine⟨this.1,?_⟩
 obtain⟨h1,h2,h3,h4⟩:=this.2
 exact⟨h1,h2,h3,by omega⟩
theorem zBi(kind:Int)(pkg name:ByteArray):∀(l:List (ByteArray×Sr)) (i:Nat) (e:Ent),
  qZc (fun _ e (x:ByteArray×Sr)=>(qQx x.1 x.2.1 0 x.2.2.2).foldl (seeE kind pkg name) e) i e l=(qLv l).foldl (seeE kind pkg name) e
 |[],_,_=>rfl
 |x::l,i,e=>by
  simp only[qZc,qLv,kG,fK]
  exact zBi kind pkg name l (i+1) _
theorem zGk{N:Nat}{l:List (ByteArray×Sr)}(kind:Int)(pkg name:ByteArray)(hl:l.length≤64)(hd:∀x∈l,x.2.2.2.length≤64)(hN:1000<N):
  qId N (l.map (·.1),l.map (·.2)) kind pkg name=some (entE (qLv l) kind pkg name):=by
 unfold qId
 have h:=qVn (L:=l) (fun(e:Ent) (i:Nat)=>((i:Int),e.1,e.2.2.2.1,e.2.2.2.2.1,e.2.2.2.2.2)) (f:=qEp N (l.map (·.1),l.map (·.2)) kind pkg name)
  (fun _ e (x:ByteArray×Sr)=>(qQx x.1 x.2.1 0 x.2.2.2).foldl (seeE kind pkg name) e) (fun e=>(e.1,e.2.2.2.1,e.2.2.2.2.1,e.2.2.2.2.2)) (fun i e=>EntI kind name (64*i) e) (by
   intro e i hi hI
   have hi1:i<(l.map (·.1)).length:=by simpa using hi
   have hi2:i<(l.map (·.2)).length:=by simpa using hi
   have ew:IntKind.wrap .i64 ((i:Int)+1)=((i+1:Nat):Int):=by rw[wi64 (by omega) (by omega)];omega
   have ex:idx (l.map (·.1)) (i:Int)=some (l[i]).1:=by rw[qDu hi1];simp
   simp only[qEp]
   rw[if_pos (by simp only[jA];omega),qDu hi2]
   simp only[j0,ew,d6,eqB]
   by_cases hs:kind≠3∧(l[i]).2.1≠pkg
   ·rw[if_pos (show(kind !=3)=true by simp[hs.1])]
    simp only[j0]
    rw[if_pos (by simp[hs.2]),skipE hs.1 hs.2]
    refine⟨rfl,?_⟩
    obtain⟨h1,h2,h3,h4⟩:=hI
    exact⟨h1,h2,h3,by omega⟩
   ·have hpk:kind=3∨(l[i]).2.1=pkg:=by
     by_cases h:kind=3
     ·exact .inl h
     ·exact .inr (Decidable.byContradiction fun h2=>hs ⟨h,h2⟩)
    have hloop:=zJm (N:=N) (P:=(l.map (·.1),l.map (·.2))) (s1:=((i:Int),e.1,e.2.2.2.1,e.2.2.2.2.1,e.2.2.2.2.2)) (x:=(l[i]).2) (path:=(l[i]).1) (pkg:=pkg) ex hpk (hd _ (kA hi)) hN (b:=64*i) (by omega) hI
    have hsk:(if(kind !=3)=true then some (!decide ((l[i]).2.1=pkg)) else some false:Option Bool)=some false:=by
     rcases hpk with h|h
     ·rw[if_neg (by simp[h])]
     ·by_cases hk:kind=3
      ·rw[if_neg (by simp[hk])]
      ·rw[if_pos (by simp[hk]),jO h];rfl
    rw[hsk]
    simp only[j0,jB,jE,hloop.1]
    refine⟨trivial,?_⟩
    rw[show 64*(i+1)=64*i+64 by omega]
    exact hloop.2) (by
   intro e _
   simp only[qEp]
   rw[if_neg (by simp)]) l.length 0 N (noE kind pkg name) (by omega) (by omega) ⟨rfl,rfl,Int.le_refl _,Int.le_refl _⟩
 rw[jZ,zBi] at h
 have e0:(if(kind==3)=true then some (⟨#[]⟩:ByteArray) else some pkg)=some (noE kind pkg name).1:=by
  unfold noE
  by_cases h:kind=3
  ·rw[if_pos (by simp[h]),if_pos h];rfl
  ·rw[if_neg (by simp[h]),if_neg h]
 rw[e0]
 simp only[j0]
 refine Eq.trans (congrArg (fun z=>Option.bind z _) (show qAw (qEp N (l.map (·.1),l.map (·.2)) kind pkg name) N (0,(noE kind pkg name).1,(⟨#[]⟩:ByteArray),0,0)=_ from h.1)) ?_
 have h1:=h.2.1
 have h2:=h.2.2.1
 unfold entE
 simp only[j0]
 exact congrArg some (Prod.ext rfl (Prod.ext h1.symm (Prod.ext h2.symm rfl)))
theorem zEj(L:List File):(zBv L).length≤64∧∀x∈zBv L,x.2.2.2.length≤64:=by
 unfold zBv
 by_cases hc:qIg L=0
 ·rw[if_pos hc]
  refine⟨fV (qWm L) (qIa.1 hc).1,fun x hx=> ?_⟩
  obtain⟨f,_,_,rfl⟩:=zBg hx
  exact qXy
 ·rw[if_neg hc];exact⟨k0 _,fun x hx=>by cases hx⟩
theorem zIg{N:Nat}{L:List File}(kind:Int)(pkg name:ByteArray)(hN:1000005<N):qKl N L kind pkg name=some (zLu L kind pkg name):=by
 simp only[qKl,qNm (show 100<N by omega),j0]
 unfold zLu
 by_cases hc:qIg L=0
 ·rw[if_neg (by simp[hc]),if_pos hc,zDs hN]
  simp only[j0]
  rw[zGk kind pkg name (zEj L).1 (zEj L).2 (by omega)]
  simp only[j0]
  rw[show zBv L=qHr L by unfold zBv;rw[if_pos hc]]
 ·rw[if_pos (by simpa using hc),if_neg hc];rfl
end
end Go.Proofs.YtcdpbapbpcpflaaGreatDoor
