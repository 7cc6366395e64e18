/- No condition but those of each theorem. -/
import Derived.Test.YtcdpbapbpcpflaaGreatDoorProg
import Derived.WalkKit
import Derived.Deep.LoopGhost
import Derived.KernelRfl
import Derived.OrdersHeld
import Derived.OrdersIn
import Derived.LoopNIn
import Derived.Sort.LoopGhostIn
import Derived.Laws.AppendOwn
import Derived.RangeFuncLeaves
import Derived.RangeFuncRecord
import Derived.MapKept
import Derived.Maps.RangeRun
import Derived.ChangeKeysEq
import Derived.HandedShaped
import Derived.ChangeStays
import Derived.ChangeSame
import Derived.OpenShut
import Derived.WideShapes
import Derived.JoinedOf
import Derived.ReadAgain
import Derived.ChangeAt
import Derived.RowKit
import Derived.Lib.Overlaps
import Derived.Shelf.SlSortCmp.NoneTotal
import Derived.Shelf.Sort.Plain
import Derived.Shelf.Slices.In.SortNone
import Derived.WalkSmall
import Derived.Recover
import Derived.Lib.Bytealg
import Derived.Test.YtcdpbapbpcpflaaGreatDoorK3p4
namespace Go.Proofs.YtcdpbapbpcpflaaGreatDoor
section
open Go Go.Dc
theorem qQr{N:Nat}{s:ByteArray}(hl:s.data.toList.length≤16384)(hN:s.data.toList.length+40<N):∀(k M i:Nat) (acc:List Tok),i≤s.data.toList.length→s.data.toList.length<i+k→k≤M→acc.length≤i→
  qBf (qGz N s (some kdL)) M (acc,(i:Int))=some (zHk acc (tokG k s i))
 |0,_,i,_,h1,h2,_,_=>by omega
 |k+1,0,_,_,_,_,h3,_=>by omega
 |k+1,M+1,i,acc,h1,h2,h3,h4=>by
  have hs:=qCc s
  have hb:=qRf (p:=inK [5]) (l:=s.data.toList) (a:=i) h1
  simp only[qBf,tokG]
  have hstep:qGz N s (some kdL) (acc,(i:Int))=if tw (inK [5]) s.data.toList i=s.data.toList.length then some (.inr (acc++[(5,⟨#[]⟩,0,(s.data.toList.length:Int))],0,0))
    else if kd (s.data.toList.getD (tw (inK [5]) s.data.toList i) 0)=6 then some (.inl (acc,((tw qIt s.data.toList (tw (inK [5]) s.data.toList i):Nat):Int)))
    else if(tokP s (tw (inK [5]) s.data.toList i)).2.2≠0 then some (.inr ([],(tw (inK [5]) s.data.toList i:Nat),(tokP s (tw (inK [5]) s.data.toList i)).2.2))
    else some (.inl (acc++[((tokP s (tw (inK [5]) s.data.toList i)).1.1,(tokP s (tw (inK [5]) s.data.toList i)).1.2.1,(tokP s (tw (inK [5]) s.data.toList i)).1.2.2.1,((tw (inK [5]) s.data.toList i:Nat):Int))],(tokP s (tw (inK [5]) s.data.toList i)).2.1)):=by
   simp only[qGz]
   rw[qTv h1 (by omega) (by simp) (by omega)]
   simp only[j0]
   generalize hE:tw (inK [5]) s.data.toList i=e at hb ⊢
   by_cases he:e=s.data.toList.length
   ·rw[if_pos he,if_pos (by rw[kC];omega),qCq (by simp only[jA,jB];omega) (by omega),he]
    rfl
   ·have hlt:e<s.data.toList.length:=by omega
    rw[if_neg he,if_neg (by rw[kC];omega),qLz hlt]
    simp only[j0,zHd,kC,qJj hlt]
    by_cases h6:kd (s.data.toList[e])=6
    ·rw[if_pos h6,if_pos h6,qUh (by omega)]
     have hle:=zKy (s:=s) (i:=e) (by omega)
     have hb2:=qRf (p:=qIt) (l:=s.data.toList) (a:=e) (by omega)
     have hx:(if(decide (ixB (s.extract e s.data.toList.length) 10<0))=true then(some (IntKind.wrap .i64 ((ByteArray.size s:Int)-(e:Int)))) else(some (ixB (s.extract e s.data.toList.length) 10)):Option Int)=some ((tw qIt s.data.toList e-e:Nat):Int):=by
      rw[←hle,wi64 (by omega) (by omega)]
      by_cases hi:ixB (s.extract e s.data.toList.length) 10<0
      ·rw[if_pos (by simpa using hi),if_pos hi];congr 1;omega
      ·rw[if_neg (by simpa using hi),if_neg hi]
     simp only[j0,qIm,qCj]
     rw[hx]
     simp only[j0]
     rw[wi64 (by omega) (by omega)]
     congr 3;omega
    ·rw[if_neg h6,if_neg h6,zIw hlt (by omega) (by omega)]
     simp only[j0,bne_iff_ne]
     by_cases h0:(tokP s e).2.2≠0
     ·rw[if_pos h0,if_pos h0]
     ·rw[if_neg h0,if_neg h0,qCq (by simp only[jA,jB];omega) (by omega)]
      rfl
  rw[hstep]
  by_cases he:tw (inK [5]) s.data.toList i=s.data.toList.length
  ·rw[if_pos he,if_pos he];rfl
  rw[if_neg he,if_neg he]
  have hlt:tw (inK [5]) s.data.toList i<s.data.toList.length:=by omega
  by_cases h6:kd (s.data.toList.getD (tw (inK [5]) s.data.toList i) 0)=6
  ·rw[if_pos h6,if_pos h6]
   have hb2:=qRf (p:=qIt) (l:=s.data.toList) (a:=tw (inK [5]) s.data.toList i) (by omega)
   have hpos:=qZh (p:=qIt) hlt (by
    rw[qJj hlt] at h6
    simp only[qIt,bne_iff_ne,ne_eq]
    intro e;rw[e] at h6;exact absurd h6 (by decide))
   exact qQr hl hN k M _ acc hb2.2 (by omega) (by omega) (by omega)
  rw[if_neg h6,if_neg h6]
  by_cases h0:(tokP s (tw (inK [5]) s.data.toList i)).2.2≠0
  ·rw[if_pos h0,if_pos h0];rfl
  rw[if_neg h0,if_neg h0]
  obtain⟨e,he1,he2,he3,_⟩:=zBq hlt (by simpa using h0)
  rw[he1]
  simp only[j0,kD]
  rw[qQr hl hN k M e _ he3 (by omega) (by omega) (by simp;omega)]
  cases tokG k s e with
  |inl x=>rfl
  |inr r=>simp[zHk]
theorem zEv{N:Nat}{s:ByteArray}(hN:20000<N):qKv N s=some (qGy s):=by
 have hs:=qCc s
 unfold qKv qGy
 by_cases h:s.data.toList.length>16384
 ·rw[if_pos (by simp only[j9];omega),if_pos h]
 ·rw[if_neg (by simp only[j9];omega),if_neg h,qXj (by omega)]
  have:=qQr (N:=N) (s:=s) (by omega) (by omega) (s.data.toList.length+1) N 0 [] (by omega) (by omega) (by omega) (by simp)
  simp only[j0]
  rw[show((0:Nat):Int)=0 from rfl] at this
  rw[this]
  rfl
def endT(t:Tok):Int:=t.2.2.2+(t.2.1.size:Int)+(if t.1=2 then 1 else 0)
def zJt(s:ByteArray):Int→List Tok→Prop
 |_,[]=>True
 |e,t::r=>e≤t.2.2.2∧t.2.2.2+(t.2.1.size:Int)≤s.size∧(t.1=5↔r=[])∧(t.1=1∨t.1=4→s.extract t.2.2.2.toNat (t.2.2.2+(t.2.1.size:Int)).toNat=t.2.1∧0<t.2.1.size)∧zJt s (endT t) r
theorem qSa{s:ByteArray}:∀(k i:Nat) (e:Int) (r:List Tok),i≤s.data.toList.length→s.data.toList.length<i+k→e≤i→tokG k s i= .inr r→zJt s e r∧r≠[]∧r.length≤s.data.toList.length+1-i
 |0,i,e,r,h1,h2,h3,h4=>by omega
 |k+1,i,e,r,h1,h2,h3,h4=>by
  have hs:=qCc s
  have hb:=qRf (p:=inK [5]) (l:=s.data.toList) (a:=i) h1
  simp only[tokG] at h4
  generalize hE:tw (inK [5]) s.data.toList i=a at hb h4
  split at h4
  ·obtain rfl:=(Sum.inr.inj h4).symm
   refine⟨⟨by show e≤(s.data.toList.length:Int);omega,by show(s.data.toList.length:Int)+((0:Nat):Int)≤_;omega,by simp,fun h=>by simp at h,trivial⟩,by simp,by simp;omega⟩
  ·rename_i he
   have hlt:a<s.data.toList.length:=by omega
   split at h4
   ·rename_i h6
    have hb2:=qRf (p:=qIt) (l:=s.data.toList) (a:=a) (by omega)
    have hpos:=qZh (p:=qIt) hlt (by
     rw[qJj hlt] at h6
     simp only[qIt,bne_iff_ne,ne_eq]
     intro e;rw[e] at h6;exact absurd h6 (by decide))
    obtain⟨g1,g2,g3⟩:=qSa k _ e r hb2.2 (by omega) (by omega) h4
    exact⟨g1,g2,by omega⟩
   ·split at h4
    ·cases h4
    ·rename_i h0
     obtain⟨b,hb1,hb2,hb3,hk⟩:=zBq hlt (by simpa using h0)
     rw[hb1,kD] at h4
     generalize (tokP s a).1=t at h4 hk
     cases hG:tokG k s b with
     |inl x=>rw[hG] at h4;cases h4
     |inr q=>
      rw[hG] at h4
      obtain rfl:=(Sum.inr.inj h4).symm
      have hext:(s.extract a b).size=b-a:=by rw[ByteArray.size_extract];omega
      have hend:endT (t.1,t.2.1,t.2.2.1,(a:Int))≤b∧(a:Int)+(t.2.1.size:Int)≤b∧t.1≠5∧(t.1=1∨t.1=4→t.2.1=s.extract a b):=by
       rcases hk with ⟨hk1,hk2⟩|⟨hk1,hk2⟩|⟨hk1,hk2⟩
       ·refine⟨?_,?_,by omega,fun _=>hk2⟩
        ·simp only[endT,hk2,hext];rw[if_neg (by omega)];omega
        ·rw[hk2,hext];omega
       ·have:(⟨#[]⟩:ByteArray).size=0:=rfl
        refine⟨?_,?_,by omega,fun h=>by omega⟩
        ·simp only[endT,hk2,this];rw[if_pos hk1];omega
        ·rw[hk2,this];omega
       ·refine⟨?_,by omega,by omega,fun h=>by omega⟩
        simp only[endT];rw[if_neg (by omega)];omega
      obtain⟨g1,g2,g3⟩:=qSa k b (endT (t.1,t.2.1,t.2.2.1,(a:Int))) q hb3 (by omega) hend.1 hG
      refine⟨⟨by show e≤(a:Int);omega,?_,?_,?_,g1⟩,by simp,by simp only[jA];omega⟩
      ·show(a:Int)+(t.2.1.size:Int)≤_;omega
      ·exact⟨fun h=>absurd h hend.2.2.1,fun h=>absurd h g2⟩
      ·intro h
       have:=hend.2.2.2 h
       show s.extract (Int.toNat (a:Int)) ((a:Int)+(t.2.1.size:Int)).toNat=t.2.1∧0<t.2.1.size
       rw[this,hext,kD,show((a:Int)+((b-a:Nat):Int)).toNat=b by omega]
       exact⟨rfl,by omega⟩
theorem qXf{s:ByteArray}:∀(k i:Nat) (x:Int×Int),i≤s.data.toList.length→s.data.toList.length<i+k→tokG k s i= .inl x→0≤x.1∧x.1≤s.size∧x.2≠0
 |0,i,x,h1,h2,h4=>by omega
 |k+1,i,x,h1,h2,h4=>by
  have hs:=qCc s
  have hb:=qRf (p:=inK [5]) (l:=s.data.toList) (a:=i) h1
  simp only[tokG] at h4
  generalize hE:tw (inK [5]) s.data.toList i=a at hb h4
  split at h4
  ·cases h4
  ·rename_i he
   have hlt:a<s.data.toList.length:=by omega
   split at h4
   ·rename_i h6
    have hb2:=qRf (p:=qIt) (l:=s.data.toList) (a:=a) (by omega)
    have hpos:=qZh (p:=qIt) hlt (by
     rw[qJj hlt] at h6
     simp only[qIt,bne_iff_ne,ne_eq]
     intro e;rw[e] at h6;exact absurd h6 (by decide))
    exact qXf k _ x hb2.2 (by omega) h4
   ·split at h4
    ·rename_i h0
     obtain rfl:=Sum.inl.inj h4
     exact⟨by simp only;omega,by simp only;omega,h0⟩
    ·rename_i h0
     obtain⟨b,hb1,hb2,hb3,hk⟩:=zBq hlt (by simpa using h0)
     rw[hb1,kD] at h4
     cases hG:tokG k s b with
     |inl y=>rw[hG] at h4;obtain rfl:=Sum.inl.inj h4;exact qXf k b y hb3 (by omega) hG
     |inr q=>rw[hG] at h4;cases h4
end
section
open Go Go.Dc
theorem zFb{p:UInt8→Bool}(h:((List.range 256).all fun n=>p (UInt8.ofNat n))=true)(c:UInt8):p c=true:=by
 have:=jN.1 h c.toNat (kV.2 c.toNat_lt)
 simpa using this
theorem zFg{N:Nat}(c:UInt8):qFx N (c.toNat:Int)=some (kd c==1):=by
 have h:=zFb (p:=fun c=>(decide (97≤c.toNat)&&decide (c.toNat≤122))==(kd c==1)) (by kernel_rfl) c
 rw[kC] at h
 rw[←h]
 unfold qFx
 by_cases h1:97≤c.toNat
 ·rw[if_pos (by simp only[j9];omega)]
  simp only[h1,decide_true,fV,j0]
  congr 1
  exact decide_eq_decide.2 (by omega)
 ·rw[if_neg (by simp only[j9];omega)]
  simp[h1]
theorem zIa{N:Nat}(c:UInt8):qFh N (c.toNat:Int)=some (inK [1,2,3] c):=by
 have h:=zFb (p:=fun c=>(kd c==1||(decide (48≤c.toNat)&&decide (c.toNat≤57)||decide (c.toNat=95)))==inK [1,2,3] c) (by kernel_rfl) c
 rw[kC] at h
 rw[←h]
 unfold qFh
 rw[zFg]
 simp only[j0]
 cases kd c==1
 ·have e95:((c.toNat:Int)==95)=decide (c.toNat=95):=by rw[kE,kC,j9];omega
  simp only[jD,jS,Bool.false_or,e95]
  by_cases h1:48≤c.toNat
  ·by_cases h2:c.toNat≤57
   ·rw[if_pos (by simp only[j9];omega),if_pos (by simp only[j9];omega)];simp[h1,h2]
   ·rw[if_pos (by simp only[j9];omega),if_neg (by simp only[j9];omega)];simp[h2]
  ·rw[if_neg (by simp only[j9];omega)];simp[h1]
 ·rfl
end
section
open Go Go.Dc
end
section
open Go Go.Dc
def zDe(s:ByteArray):Bool:=decide (1≤s.data.toList.length∧s.data.toList.length≤24∧kd (s.data.toList.getD 0 0)=1∧tw (inK [1,2,3]) s.data.toList 0=s.data.toList.length)
theorem qWq{s:ByteArray}(h:¬(1≤s.data.toList.length∧s.data.toList.length≤24∧kd (s.data.toList.getD 0 0)=1∧tw (inK [1,2,3]) s.data.toList 0=s.data.toList.length)):false=zDe s:=(gE h).symm
theorem zKt{N:Nat}{s:ByteArray}(hN:100<N):qNp N s=some (zDe s):=by
 have hs:=qCc s
 simp only[qNp,qXj (show 30<N by omega),j0]
 by_cases h1:1≤s.data.toList.length
 ·by_cases h2:s.data.toList.length≤24
  ·rw[if_pos (by simp only[j9];omega),if_pos (by simp only[j9];omega)]
   have hi:=qLz (s:=s) (i:=0) (by omega)
   rw[show((0:Nat):Int)=0 from rfl] at hi
   rw[hi]
   simp only[j0,zHd,kC]
   have hsp:=qTv (N:=N) (s:=s) (ks:=[1,2,3]) (i:=0) (by omega) (by omega) (by simp) (by omega)
   rw[show((0:Nat):Int)=0 from rfl] at hsp
   by_cases h3:kd (s.data.toList[0])=1
   ·rw[if_pos h3,hsp]
    simp only[j0]
    congr 1
    rw[kE,kC,zDe,j9,qJj (by omega)]
    exact⟨fun h=>⟨h1,h2,h3,by omega⟩,fun h=>by have:=h.2.2.2;omega⟩
   ·rw[if_neg h3]
    refine congrArg some (qWq fun h=> ?_)
    rw[qJj (by omega)] at h
    exact h3 h.2.2.1
  ·rw[if_pos (by simp only[j9];omega),if_neg (by simp only[j9];omega)]
   exact congrArg some (qWq fun h=>h2 h.2.1)
 ·rw[if_neg (by simp only[j9];omega)]
  exact congrArg some (qWq fun h=>h1 h.1)
end
section
open Go Go.Dc
def sp:List UInt8→List (List UInt8)
 |[]=>[[]]
 |c::l=>if c=47 then[]::sp l else match sp l with
  |[]=>[[c]]
  |p::q=>(c::p)::q
theorem zDx:∀l:List UInt8,sp l≠[]
 |[]=>by simp[sp]
 |c::l=>by
  simp only[sp]
  split
  ·simp
  ·split<;>simp
theorem zFe:∀l:List UInt8,(sp l).length=l.count 47+1
 |[]=>rfl
 |c::l=>by
  simp only[sp]
  split
  ·rename_i h;subst h;simp[zFe l]
  ·rename_i h
   have:=zFe l
   split
   ·rename_i e;exact absurd e (zDx l)
   ·rename_i e
    rw[e] at this
    simp only[jA] at this ⊢
    rw[List.count_cons_of_ne h,←this]
def qLa(c:UInt8):Bool:=c !=47
theorem zEk:∀l:List UInt8,sp l=if(l.takeWhile qLa).length=l.length then[l] else l.takeWhile qLa::sp (l.drop ((l.takeWhile qLa).length+1))
 |[]=>rfl
 |c::l=>by
  have ih:=zEk l
  by_cases h:c=47
  ·subst h
   rw[f0 (by decide)]
   simp[sp]
  ·have hc:qLa c=true:=by simpa[qLa] using h
   rw[gH hc]
   simp only[sp,h,jS,ih,jA,Nat.add_right_cancel_iff,List.drop_succ_cons]
   by_cases he:(l.takeWhile qLa).length=l.length
   ·simp[he]
   ·simp[he]
def qUw:Nat→Nat→List UInt8→Option (Nat×Nat)
 |a,b,[]=>some (a,b)
 |a,b,c::l=>if c=47 then(if b=0 then none else qUw (a+1) 0 l) else if inK [1,2,3,4] c=true then(if b+1>24 then none else qUw a (b+1) l) else none
def partOk(p:List UInt8):Prop:=1≤p.length∧p.length≤24∧∀c∈p,inK [1,2,3,4] c=true
theorem qTo:∀(l:List UInt8) (a b:Nat),b≤24→((∃x y,qUw a b l=some (x,y)∧0<y∧x≤8)↔
  ∃p q,sp l=p::q∧1≤b+p.length∧b+p.length≤24∧(∀c∈p,inK [1,2,3,4] c=true)∧(∀r∈q,partOk r)∧a+q.length≤8)
 |[],a,b,hb=>by
  constructor
  ·rintro⟨x,y,h,h1,h2⟩
   simp only[qUw,jF,Prod.mk.injEq] at h
   exact⟨[],[],rfl,by simp;omega,by simpa using hb,by simp,by simp,by simp;omega⟩
  ·rintro⟨p,q,h,h1,h2,_,_,h3⟩
   simp only[sp,k8] at h
   obtain⟨rfl,rfl⟩:=h
   simp only[jB] at h1 h3
   exact⟨a,b,rfl,by omega,by omega⟩
 |c::l,a,b,hb=>by
  by_cases hc:c=47
  ·have hsp:sp (c::l)=[]::sp l:=by simp[sp,hc]
   rw[hsp]
   simp only[qUw,hc,jU]
   by_cases h0:b=0
   ·subst h0
    simp only[jU]
    constructor
    ·rintro⟨x,y,h,_⟩;cases h
    ·rintro⟨p,q,h,h1,_⟩
     simp only[k8] at h
     rw[←h.1] at h1;simp at h1
   ·rw[if_neg h0]
    rw[qTo l (a+1) 0 (by omega)]
    constructor
    ·rintro⟨p,q,h,h1,h2,h3,h4,h5⟩
     refine⟨[],sp l,rfl,by simp;omega,by simpa using hb,by simp,?_,by rw[h];simp only[jA];omega⟩
     intro r hr
     rw[h] at hr
     rcases jH.1 hr with rfl|hr
     ·exact⟨by omega,by omega,h3⟩
     ·exact h4 r hr
    ·rintro⟨p,q,h,h1,h2,h3,h4,h5⟩
     simp only[k8] at h
     obtain⟨rfl,rfl⟩:=h
     obtain⟨p,q,hpq⟩:∃p q,sp l=p::q:=by
      cases he:sp l with
      |nil=>exact absurd he (zDx l)
      |cons p q=>exact⟨p,q,rfl⟩
     rw[hpq] at h4 h5
     obtain⟨g1,g2,g3⟩:=h4 p (jJ ..)
     exact⟨p,q,hpq,by omega,by omega,g3,fun r hr=>h4 r (jK _ hr),by simp only[jA] at h5;omega⟩
  ·obtain⟨p0,q0,hpq⟩:∃p q,sp l=p::q:=by
    cases he:sp l with
    |nil=>exact absurd he (zDx l)
    |cons p q=>exact⟨p,q,rfl⟩
   have hsp:sp (c::l)=(c::p0)::q0:=by simp only[sp,hc,jS,hpq]
   rw[hsp]
   simp only[qUw,hc,jS]
   by_cases hk:inK [1,2,3,4] c=true
   ·rw[if_pos hk]
    by_cases h24:b+1>24
    ·rw[if_pos h24]
     constructor
     ·rintro⟨x,y,h,_⟩;cases h
     ·rintro⟨p,q,h,h1,h2,_⟩
      simp only[k8] at h
      rw[←h.1] at h2
      simp only[jA] at h2
      omega
    ·rw[if_neg h24,qTo l a (b+1) (by omega)]
     constructor
     ·rintro⟨p,q,h,h1,h2,h3,h4,h5⟩
      rw[hpq] at h
      simp only[k8] at h
      obtain⟨rfl,rfl⟩:=h
      refine⟨_,_,rfl,by simp only[jA];omega,by simp only[jA];omega,?_,h4,h5⟩
      intro d hd
      rcases jH.1 hd with rfl|hd
      ·exact hk
      ·exact h3 d hd
     ·rintro⟨p,q,h,h1,h2,h3,h4,h5⟩
      simp only[k8] at h
      obtain⟨rfl,rfl⟩:=h
      simp only[jA] at h1 h2
      exact⟨p0,q0,hpq,by omega,by omega,fun d hd=>h3 d (jK _ hd),h4,h5⟩
   ·rw[if_neg hk]
    constructor
    ·rintro⟨x,y,h,_⟩;cases h
    ·rintro⟨p,q,h,h1,h2,h3,_⟩
     simp only[k8] at h
     rw[←h.1] at h3
     exact absurd (h3 c (jJ ..)) hk
theorem inK4{N:Nat}(c:UInt8):((qFh N (c.toNat:Int)).bind fun y1=>if y1=true then(some true) else(some ((c.toNat:Int)==46)))=some (inK [1,2,3,4] c):=by
 have h:=zFb (p:=fun c=>(inK [1,2,3] c||decide (c.toNat=46))==inK [1,2,3,4] c) (by kernel_rfl) c
 rw[kC] at h
 rw[←h,zIa]
 simp only[j0]
 have e:((c.toNat:Int)==46)=decide (c.toNat=46):=by rw[kE,kC,j9];omega
 rw[e]
 cases inK [1,2,3] c<;>simp
theorem qOy{N:Nat}{s:ByteArray}(hl:s.data.toList.length<1000000):∀(d i M a b:Nat),i+d=s.data.toList.length→d<M→a≤i+1→b≤24→
  qBf (qEi N s) M ((a:Int),(b:Int),(i:Int))=some (match qUw a b (s.data.toList.drop i) with|some z=> .inl ((z.1:Int),(z.2:Int))|none=> .inr false)
 |d,i,0,_,_,_,h,_,_=>by omega
 |0,i,M+1,a,b,h1,h2,h3,h4=>by
  have hs:=qCc s
  simp only[qBf,qEi]
  rw[if_neg (by simp only[j9];omega),k0 (by omega)]
  rfl
 |d+1,i,M+1,a,b,h1,h2,h3,h4=>by
  have hs:=qCc s
  have hi:i<s.data.toList.length:=by omega
  simp only[qBf,qEi]
  rw[if_pos (by simp only[j9];omega),jT hi,qLz hi]
  simp only[j0,inK4,kC,qUw]
  by_cases hc:s.data.toList[i]=47
  ·rw[if_pos (show((s.data.toList[i]).toNat:Int)=47 by rw[hc];rfl),if_pos hc]
   by_cases hb:b=0
   ·rw[if_pos (show(b:Int)=0 by omega),if_pos hb]
    rfl
   ·rw[if_neg (show ¬(b:Int)=0 by omega),if_neg hb,wi64 (x:=(a:Int)+1) (by omega) (by omega)]
    simp only[j0]
    rw[if_neg (by simp),wi64 (by omega) (by omega)]
    have:=qOy (N:=N) hl d (i+1) M (a+1) 0 (by omega) (by omega) (by omega) (by omega)
    exact this
  ·have hc':¬((s.data.toList[i]).toNat:Int)=47:=fun h=>hc (UInt8.toNat_inj.1 (by show _=47;omega))
   rw[if_neg hc',if_neg hc]
   by_cases hk:inK [1,2,3,4] (s.data.toList[i])=true
   ·rw[if_pos hk,if_pos hk,wi64 (x:=(b:Int)+1) (by omega) (by omega)]
    simp only[j0]
    by_cases h24:b+1>24
    ·rw[if_pos (by simp only[j9];omega),if_pos h24]
     rfl
    ·rw[if_neg (by simp only[j9];omega),if_neg h24,wi64 (by omega) (by omega)]
     have:=qOy (N:=N) hl d (i+1) M a (b+1) (by omega) (by omega) (by omega) (by omega)
     exact this
   ·rw[if_neg hk,if_neg hk]
    rfl
def qIx(l:List UInt8):Bool:=decide (l.length≤80∧(sp l).length≤8∧∀p∈sp l,1≤p.length∧p.length≤24∧∀c∈p,inK [1,2,3,4] c=true)
theorem zAf(l:List UInt8):qIx l=true↔l.length≤80∧∃x y,qUw 1 0 l=some (x,y)∧0<y∧x≤8:=by
 rw[qTo l 1 0 (by omega)]
 simp only[qIx,j9]
 obtain⟨p,q,hpq⟩:∃p q,sp l=p::q:=by
  cases he:sp l with
  |nil=>exact absurd he (zDx l)
  |cons p q=>exact⟨p,q,rfl⟩
 constructor
 ·rintro⟨h1,h2,h3⟩
  rw[hpq] at h2 h3
  obtain⟨g1,g2,g3⟩:=h3 p (jJ ..)
  exact⟨h1,p,q,hpq,by omega,by omega,g3,fun r hr=>h3 r (jK _ hr),by simp only[jA] at h2;omega⟩
 ·rintro⟨h1,p',q',h,h2,h3,h4,h5,h6⟩
  refine⟨h1,by rw[h];simp only[jA];omega,?_⟩
  intro r hr
  rw[h] at hr
  rcases jH.1 hr with rfl|hr
  ·exact⟨by omega,by omega,h4⟩
  ·exact h5 r hr
theorem zDs{N:Nat}{s:ByteArray}(hN:100<N):qGm N s=some (qIx s.data.toList):=by
 have hs:=qCc s
 simp only[qGm]
 by_cases h80:s.data.toList.length≤80
 ·rw[if_neg (by simp only[j9];omega)]
  have key:=qOy (N:=N) (s:=s) (by omega) s.data.toList.length 0 N 1 0 (by omega) (by omega) (by omega) (by omega)
  rw[show((0:Nat):Int)=0 from rfl,show((1:Nat):Int)=1 from rfl,kJ] at key
  rw[key]
  have hp:=zAf s.data.toList
  cases hR:qUw 1 0 s.data.toList with
  |none=>
   simp only[j0]
   refine congrArg some ?_
   rw[kE,hp]
   constructor
   ·intro h;cases h
   ·rintro⟨_,x,y,h,_⟩;rw[hR] at h;cases h
  |some z=>
   obtain⟨x,y⟩:=z
   simp only[j0]
   by_cases hy:0<y
   ·rw[if_pos (by simp only[j9];omega)]
    simp only[j0]
    refine congrArg some ?_
    rw[kE,hp,j9]
    constructor
    ·intro h;exact⟨h80,x,y,hR,hy,by omega⟩
    ·rintro⟨_,x',y',h,_,h2⟩;rw[hR] at h;simp only[jF,Prod.mk.injEq] at h;omega
   ·rw[if_neg (by simp only[j9];omega)]
    simp only[j0]
    refine congrArg some ?_
    rw[kE,hp]
    constructor
    ·intro h;cases h
    ·rintro⟨_,x',y',h,h1,_⟩;rw[hR] at h;simp only[jF,Prod.mk.injEq] at h;omega
 ·rw[if_pos (by simp only[j9];omega)]
  refine congrArg some ?_
  rw[kE,zAf]
  exact⟨fun h=>(by cases h),fun h=>absurd h.1 h80⟩
end
section
open Go Go.Dc
theorem tw_is{p:UInt8→Bool}{l:List UInt8}{k:Nat}(hk:k<l.length)(h1:∀j,∀h:j<l.length,j<k→p l[j]=true)(h2:p l[k]=false):tw p l 0=k:=by
 have key:∀d j,j+d=k→tw p l j=k:=by
  intro d
  induction d with
  |zero=>
   intro j h
   have:j=k:=by omega
   subst this
   exact qUk hk h2
  |succ d ih=>intro j h;rw[←qRr (by omega) (h1 j (by omega) (by omega))];exact ih (j+1) (by omega)
 exact key k 0 (by omega)
theorem ix_eq(x:ByteArray):ixB x 47=if(x.data.toList.takeWhile qLa).length=x.data.toList.length then-1 else((x.data.toList.takeWhile qLa).length:Int):=by
 have hs:=qCc x
 have htw:tw qLa x.data.toList 0=(x.data.toList.takeWhile qLa).length:=by simp[tw]
 have hget:∀j,∀h:j<x.data.toList.length,x[j]! =x.data.toList[j]:=by
  intro j hj
  rw[getElem!_pos x j (by omega)]
  simp[ByteArray.getElem_eq_getElem_data]
 have h47:(47:Int).toNat.toUInt8=47:=rfl
 rw[←htw]
 unfold ixB
 rw[h47,←hs]
 cases hf:(List.range x.data.toList.length).find? (fun j=>x[j]! ==47) with
 |none=>
  rw[List.find?_eq_none] at hf
  simp only
  rw[if_pos]
  refine zJm fun c hc=> ?_
  obtain⟨j,hj,rfl⟩:=List.getElem_of_mem hc
  have:=hf j (kV.2 hj)
  rw[hget j hj] at this
  simpa[qLa] using this
 |some k=>
  have h1:=List.find?_some hf
  have hk:k<x.data.toList.length:=kV.1 (gK hf)
  rw[hget k hk] at h1
  have e:tw qLa x.data.toList 0=k:=by
   refine tw_is hk (fun j h hj=> ?_) (by simpa[qLa] using h1)
   have:=(List.find?_range_eq_some.1 hf).2.2 j hj
   rw[hget j h] at this
   simpa[qLa] using this
  simp only
  rw[e,if_neg (by omega)]
theorem zHj{N:Nat}(x:ByteArray):qIl N x (⟨#[47]⟩:ByteArray)=some (ixB x 47):=by
 have h1:idxB (⟨#[47]⟩:ByteArray) 0=some 47:=by kernel_rfl
 simp only[qIl,qEv,qCj,show(⟨#[47]⟩:ByteArray).size=1 from rfl,qHc]
 rw[if_neg (by decide)]
 simp only[j0,j9]
 by_cases h:(⟨#[47]⟩:ByteArray)=x
 ·have h0:ixB (⟨#[47]⟩:ByteArray) 47=0:=by kernel_rfl
  rw[if_pos h,←h,h0]
  rfl
 ·rw[if_neg h,if_pos (by decide),h1]
  rfl
theorem cnt_eq(x:ByteArray):cntB x 47=((x.data.toList.count 47:Nat):Int):=by
 unfold cntB
 rw[Go.Lib.foldl_data]
 have key:∀(l:List UInt8) (n:Int),l.foldl (fun n x=>if x==(47:Int).toNat.toUInt8 then n+1 else n) n=n+((l.count 47:Nat):Int):=by
  intro l
  induction l with
  |nil=>intro n;simp
  |cons c l ih=>
   intro n
   rw[jP,ih,List.count_cons]
   have h47:(47:Int).toNat.toUInt8=47:=rfl
   rw[h47]
   by_cases h:(c==47)=true
   ·simp only[h,jU];omega
   ·simp only[h,jD,jS];omega
 rw[key]
 omega
theorem zKu{α:Type}(l:List α)(k:Nat)(a b:α):(l++List.replicate (k+1) a).set l.length b=(l++[b])++List.replicate k a:=by
 rw[List.set_append_right _ _ (jL _)]
 simp[List.replicate_succ]
theorem qWg{N n:Nat}{s:ByteArray}(hn:n<1000000000)(hns:n≤s.size+1)(hs:s.size<1000000000):∀(r M:Nat) (x:ByteArray) (done:List ByteArray),(sp x.data.toList).length=r→done.length+r=n→r<M→x.size<1000000000→
  ∃y D,qBf (qGe N s (⟨#[47]⟩:ByteArray) 0 (n:Int)) M (x,(done.length:Int),done++List.replicate r (⟨#[]⟩:ByteArray))=some (y,((n-1:Nat):Int),D++[(⟨#[]⟩:ByteArray)])∧D.length=n-1∧D++[y]=done++(sp x.data.toList).map qOb
 |_,0,_,_,_,_,h,_=>by omega
 |0,_,x,_,h,_,_,_=>by exact absurd (List.length_eq_zero_iff.1 h) (zDx _)
 |r+1,M+1,x,done,h1,h2,h3,h4=>by
  have hxs:=qCc x
  have hmin:(if IntKind.wrap .i64 ((s.size:Int)+1)<(n:Int) then IntKind.wrap .i64 ((s.size:Int)+1) else(n:Int))=(n:Int):=by
   rw[wi64 (by omega) (by omega)];split<;>omega
  have hstep:=zEk x.data.toList
  simp only[qBf,qGe]
  rw[hmin,wi64 (x:=(n:Int)-1) (by omega) (by omega)]
  by_cases hlast:(x.data.toList.takeWhile qLa).length=x.data.toList.length
  ·rw[if_pos hlast] at hstep
   rw[hstep] at h1
   simp only[jA,jB] at h1
   have hr:r=0:=by omega
   subst hr
   rw[if_neg (by simp only[j9];omega)]
   refine⟨x,done,?_,by omega,?_⟩
   ·simp only[j0]
    rw[show(n-1:Nat)=done.length by omega]
    rfl
   ·rw[hstep];simp[qOb]
  ·rw[if_neg hlast] at hstep
   rw[hstep] at h1
   simp only[jA] at h1
   have hpos:0<(sp (x.data.toList.drop ((x.data.toList.takeWhile qLa).length+1))).length:=List.length_pos_iff.2 (zDx _)
   have hle:(x.data.toList.takeWhile qLa).length≤x.data.toList.length:=(fO _).length_le
   have hix:=ix_eq x
   rw[if_neg hlast] at hix
   rw[if_pos (by simp only[j9];omega),zHj,hix]
   simp only[j0,show(⟨#[47]⟩:ByteArray).size=1 from rfl]
   have he:(x.data.toList.takeWhile qLa)=x.data.toList.take (x.data.toList.takeWhile qLa).length:=List.prefix_iff_eq_take.1 (List.takeWhile_prefix _)
   have hx1:x.extract 0 (x.data.toList.takeWhile qLa).length=qOb (x.data.toList.takeWhile qLa):=by
    apply Go.WideShapes.bytes_inj
    simp only[ByteArray.data_extract,fA,gL,qOb,kJ,Nat.sub_zero]
    exact he.symm
   have hx2:(x.extract ((x.data.toList.takeWhile qLa).length+1) x.data.toList.length).data.toList=x.data.toList.drop ((x.data.toList.takeWhile qLa).length+1):=by
    simp only[ByteArray.data_extract,fA,gL]
    exact gU (by simp only[gA];omega)
   generalize hk:(x.data.toList.takeWhile qLa).length=k at*
   rw[if_neg (by simp only[j9];omega),wi64 (x:=(k:Int)+0) (by omega) (by omega),Int.add_zero]
   have hsub0:subB x 0 (k:Int)=some (x.extract 0 k):=by
    have:=qMi (s:=x) (i:=0) (e:=k) (by omega) (by omega)
    simpa only[Int.natCast_zero] using this
   rw[hsub0]
   simp only[j0]
   rw[qFw (by simp),wi64 (x:=(k:Int)+((1:Nat):Int)) (by omega) (by omega),show((k:Int)+((1:Nat):Int))=((k+1:Nat):Int) by omega,qUh (by omega)]
   simp only[j0,kD]
   rw[zKu,hx1,wi64 (by omega) (by omega)]
   have hxs2:=qCc (x.extract (k+1) x.data.toList.length)
   rw[hx2,gA] at hxs2
   obtain⟨y,D,g1,g2,g3⟩:=qWg (N:=N) hn hns hs r M (x.extract (k+1) x.data.toList.length) (done++[qOb (x.data.toList.takeWhile qLa)]) (by rw[hx2];omega) (by simp;omega) (by omega) (by omega)
   refine⟨y,D,?_,g2,?_⟩
   ·rw[←g1];simp
   ·rw[g3,hx2,hstep];simp
termination_by r=>r
theorem zHq{N:Nat}{s:ByteArray}(hl:s.size<100000000)(hN:2*s.size+1000<N):qKi N s (⟨#[47]⟩:ByteArray)=some ((sp s.data.toList).map qOb):=by
 have hs:=qCc s
 have hlen:=zFe s.data.toList
 have hc:s.data.toList.count 47≤s.data.toList.length:=List.count_le_length
 have h1:idxB (⟨#[47]⟩:ByteArray) 0=some 47:=by kernel_rfl
 have hcount:qKg N s (⟨#[47]⟩:ByteArray)=some ((s.data.toList.count 47:Nat):Int):=by
  simp only[qKg,show(⟨#[47]⟩:ByteArray).size=1 from rfl]
  rw[if_neg (by decide),if_pos (by decide),h1]
  simp only[j0]
  rw[←cnt_eq];rfl
 simp only[qKi,qJc,qHc,hcount,j0]
 rw[if_neg (by decide),if_neg (by decide),if_pos (by decide)]
 simp only[j0]
 rw[wi64 (x:=((s.data.toList.count 47:Nat):Int)+1) (by omega) (by omega),show((s.data.toList.count 47:Nat):Int)+1=(((sp s.data.toList).length:Nat):Int) by omega]
 generalize hn:(sp s.data.toList).length=n at*
 have hmin:(if IntKind.wrap .i64 ((s.size:Int)+1)<(n:Int) then IntKind.wrap .i64 ((s.size:Int)+1) else(n:Int))=(n:Int):=by
  rw[wi64 (by omega) (by omega)];split<;>omega
 rw[hmin]
 have hm:zAq 16 (⟨#[]⟩:ByteArray) (n:Int)=some (List.replicate n (⟨#[]⟩:ByteArray)):=by
  unfold zAq
  rw[if_pos (by simp only[maxLen];omega),kD]
 rw[hm]
 simp only[j0]
 obtain⟨y,D,g1,g2,g3⟩:=qWg (N:=N) (n:=n) (s:=s) (by omega) (by omega) (by omega) n N s [] hn (by simp) (by omega) (by omega)
 simp only[jB,jZ] at g1 g3
 rw[show((0:Nat):Int)=0 from rfl] at g1
 rw[g1]
 simp only[j0]
 rw[qFw (by simp;omega)]
 simp only[j0,kD]
 have hset:(D++[(⟨#[]⟩:ByteArray)]).set (n-1) y=D++[y]:=by
  rw[←g2,List.set_append_right _ _ (jL _)];simp
 rw[hset,g3,wi64 (by omega) (by omega),show((n-1:Nat):Int)+1=(n:Int) by omega,zGf (by omega) (by omega) (by rw[kH,hn];omega)]
 simp only[j0,kD,Int.toNat_zero,kJ]
 rw[gU (by rw[kH,hn];exact jL _)]
theorem zJl{p:UInt8→Bool}{l:List UInt8}:tw p l 0=l.length↔∀c∈l,p c=true:=by
 constructor
 ·intro h c hc
  have h1:(l.takeWhile p).length=l.length:=by simpa[tw] using h
  have h2:=(List.takeWhile_prefix p (l:=l)).eq_of_length h1
  rw[←h2] at hc
  exact zFj hc
 ·exact zJm
def zAx(x:ByteArray):Bool:=decide (1≤x.data.toList.length∧x.data.toList.length≤24∧∀c∈x.data.toList,inK [1,2,3,4] c=true)
theorem qYk(x:ByteArray):zAx x=true↔1≤x.data.toList.length∧x.data.toList.length≤24∧∀c∈x.data.toList,inK [1,2,3,4] c=true:=decide_eq_true_iff
theorem zJz{N:Nat}{x:ByteArray}(hN:100<N):(if(decide ((x.size:Int)<1))=true then(some true) else(if(decide ((x.size:Int)>24))=true then(some true) else((qHu N x 0 (some kdL) ([1,2,3,4])).bind fun y3=>some (y3 !=(x.size:Int)))))=some (!zAx x):=by
 have hs:=qCc x
 have hno:∀h:¬(1≤x.data.toList.length∧x.data.toList.length≤24∧∀c∈x.data.toList,inK [1,2,3,4] c=true),zAx x=false:=fun h=>gE h
 by_cases h1:1≤x.data.toList.length
 ·rw[if_neg (by simp only[j9];omega)]
  by_cases h2:x.data.toList.length≤24
  ·rw[if_neg (by simp only[j9];omega)]
   have hsp:=qTv (N:=N) (s:=x) (ks:=[1,2,3,4]) (i:=0) (by omega) (by omega) (by simp) (by omega)
   rw[show((0:Nat):Int)=0 from rfl] at hsp
   rw[hsp]
   simp only[j0]
   refine congrArg some ?_
   by_cases h3:tw (inK [1,2,3,4]) x.data.toList 0=x.data.toList.length
   ·have:zAx x=true:=kF ⟨h1,h2,zJl.1 h3⟩
    rw[this,h3,hs]
    simp
   ·rw[hno fun h=>h3 (zJl.2 h.2.2)]
    simp only[gT,bne_iff_ne,ne_eq]
    omega
  ·rw[if_pos (by simp only[j9];omega),hno fun h=>h2 h.2.1]
   rfl
 ·rw[if_pos (by simp only[j9];omega),hno fun h=>h1 h.1]
  rfl
theorem qZk{N:Nat}{L:List ByteArray}(hL:L.length<1000)(hN:100<N):∀(d j M:Nat),j+d=L.length→d<M→qBf (qIo N L (some kdL)) M (j:Int)=some (if(L.drop j).all zAx=true then .inl () else .inr false)
 |d,j,0,_,h=>by omega
 |0,j,M+1,h1,h2=>by
  simp only[qBf,qIo]
  rw[if_neg (by simp only[j9];omega),k0 (by omega)]
  rfl
 |d+1,j,M+1,h1,h2=>by
  have hj:j<L.length:=by omega
  simp only[qBf,qIo]
  rw[if_pos (by simp only[j9];omega),qFw hj]
  simp only[j0,zJz hN]
  rw[jT hj,List.all_cons]
  cases hp:zAx L[j] with
  |true=>
   rw[if_neg (by simp),wi64 (by omega) (by omega)]
   simp only[j0,fV]
   exact qZk hL hN d (j+1) M (by omega) (by omega)
  |false=>simp
theorem zBf{N:Nat}{s:ByteArray}(hl:s.size<100000000)(hN:2*s.size+1000<N):qHe N s=some (qIx s.data.toList):=by
 have hs:=qCc s
 have hno:∀h:¬(s.data.toList.length≤80∧(sp s.data.toList).length≤8∧∀p∈sp s.data.toList,1≤p.length∧p.length≤24∧∀c∈p,inK [1,2,3,4] c=true),qIx s.data.toList=false:=fun h=>gE h
 simp only[qHe,zHq hl hN,j0,kH]
 by_cases h80:s.data.toList.length≤80
 ·rw[if_neg (by simp only[j9];omega)]
  by_cases h8:(sp s.data.toList).length≤8
  ·have e8:decide (((sp s.data.toList).length:Int)>8)=false:=gE (by omega)
   simp only[j0,e8,jD,jS,qXj (show 30<N by omega)]
   have key:=qZk (N:=N) (L:=(sp s.data.toList).map qOb) (by rw[kH];omega) (by omega) _ 0 N (kM _) (by rw[kH];omega)
   rw[show((0:Nat):Int)=0 from rfl,kJ] at key
   rw[key]
   simp only[j0]
   by_cases hp:((sp s.data.toList).map qOb).all zAx=true
   ·have:qIx s.data.toList=true:=kF ⟨h80,h8,fun p hp'=>by
     have:=(qYk _).1 (jN.1 hp (qOb p) (kT hp'))
     simpa[qOb] using this⟩
    rw[if_pos hp,this]
   ·rw[if_neg hp,hno fun h=>hp (jN.2 fun x hx=>by
     obtain⟨p,hp',rfl⟩:=kX.1 hx
     exact(qYk _).2 (by simpa[qOb] using h.2.2 p hp'))]
  ·have e8:decide (((sp s.data.toList).length:Int)>8)=true:=kF (by omega)
   simp only[j0,e8,jU]
   rw[hno fun h=>h8 h.2.1]
 ·rw[if_pos (by simp only[j9];omega)]
  simp only[j0,jU]
  rw[hno fun h=>h80 h.1]
end
section
open Go Go.Dc
def run{α τ β:Type}(step:τ→α→τ⊕β)(fin:τ→β):List α→τ→β
 |[],t=>fin t
 |x::l,t=>match step t x with
  | .inl t'=>run step fin l t'
  | .inr b=>b
theorem qZi{α τ σ β:Type}{L:List α}(enc:τ→Nat→σ){f:σ→Option (σ⊕β)}(step:τ→α→τ⊕β)(fin:τ→β)(I:Nat→τ→Prop)
  (hstep:∀t i,∀hi:i<L.length,I i t→f (enc t i)=some (match step t L[i] with| .inl t'=> .inl (enc t' (i+1))| .inr b=> .inr b))
  (hinv:∀t i,∀hi:i<L.length,∀t',I i t→step t L[i]= .inl t'→I (i+1) t')
  (hfin:∀t,I L.length t→f (enc t L.length)=some (.inr (fin t))):∀(d i M:Nat) (t:τ),i+d=L.length→d<M→I i t→qBf f M (enc t i)=some (run step fin (L.drop i) t)
 |_,_,0,_,_,h,_=>absurd h (kN _)
 |d,i,M+1,t,h1,h2,h3=>by
  cases d with
  |zero=>
   have hi:i=L.length:=by omega
   subst hi
   simp only[qBf,hfin t h3,j0,fU,run]
  |succ d=>
   have hi:i<L.length:=by omega
   have hd:L.drop i=L[i]::L.drop (i+1):=(fP hi).symm
   simp only[qBf,hstep t i hi h3,j0]
   rw[hd]
   simp only[run]
   cases hs:step t L[i] with
   |inl t'=>
    simp only
    exact qZi enc step fin I hstep hinv hfin d (i+1) M t' (by omega) (by omega) (hinv t i hi t' h3 hs)
   |inr b=>rfl
theorem qWm{α τ σ β:Type}{L:List α}(enc:τ→Nat→σ){f:σ→Option (σ⊕β)}(step:τ→α→τ⊕β)(fin:τ→β)(I:Nat→τ→Prop)
  (hstep:∀t i,∀hi:i<L.length,I i t→f (enc t i)=some (match step t L[i] with| .inl t'=> .inl (enc t' (i+1))| .inr b=> .inr b))
  (hinv:∀t i,∀hi:i<L.length,∀t',I i t→step t L[i]= .inl t'→I (i+1) t')
  (hfin:∀t,I L.length t→f (enc t L.length)=some (.inr (fin t))) {M:Nat} {t:τ} (hM:L.length<M) (h0:I 0 t):qBf f M (enc t 0)=some (run step fin L t):=by
 have:=qZi enc step fin I hstep hinv hfin L.length 0 M t (by omega) hM h0
 rw[kJ] at this;exact this
theorem qXo{α τ β:Type}{step:τ→α→τ⊕β}{fin:τ→β}(g:τ→α→τ)(h:∀t x,step t x= .inl (g t x)):∀(l:List α) (t:τ),run step fin l t=fin (l.foldl g t)
 |[],_=>rfl
 |x::l,t=>by simp only[run,h,jP];exact qXo g h l _
theorem qVo{α:Type}{l:List α}{i:Nat}(h:i<l.length):l.drop i=l[i]::l.drop (i+1):=(fP h).symm
end
section
open Go Go.Dc
abbrev File:=ByteArray×ByteArray
def blt(a b:ByteArray):Bool:=Op.bytesLess a.toList b.toList
theorem zDi{a b:ByteArray}(h:a.toList=b.toList):a=b:=by
 have h1:(a.toList==b.toList)=true:=by rw[h];exact fB _
 rw[qHc] at h1
 exact kL h1
theorem qTm:∀a:List UInt8,Op.bytesLess a a=false
 |[]=>rfl
 |x::a=>by simp[Op.bytesLess,qTm a]
theorem qVs:∀a b c:List UInt8,Op.bytesLess a b=true→Op.bytesLess b c=true→Op.bytesLess a c=true
 |_,_,[],_,h=>by simp[Op.bytesLess] at h
 |_,[],_::_,h,_=>by simp[Op.bytesLess] at h
 |[],_::_,_::_,_,_=>rfl
 |x::a,y::b,z::c,h1,h2=>by
  simp only[Op.bytesLess,gM,j9,jO,kC] at h1 h2 ⊢
  rcases h1 with h1|⟨rfl,h1⟩<;>rcases h2 with h2|⟨rfl,h2⟩
  ·exact .inl (UInt8.lt_trans h1 h2)
  ·exact .inl h1
  ·exact .inl h2
  ·exact .inr ⟨rfl,qVs a b c h1 h2⟩
theorem qVr:∀a b:List UInt8,Op.bytesLess a b=true∨a=b∨Op.bytesLess b a=true
 |[],[]=> .inr (.inl rfl)
 |[],_::_=> .inl rfl
 |_::_,[]=> .inr (.inr rfl)
 |x::a,y::b=>by
  simp only[Op.bytesLess,gM,j9,jO,kC,k8]
  rcases qVr a b with h|h|h
  ·rcases Nat.lt_trichotomy x.toNat y.toNat with g|g|g
   ·exact .inl (.inl (UInt8.lt_iff_toNat_lt.2 g))
   ·have g:=UInt8.toNat_inj.1 g;exact .inl (.inr ⟨g,h⟩)
   ·exact .inr (.inr (.inl (UInt8.lt_iff_toNat_lt.2 g)))
  ·rcases Nat.lt_trichotomy x.toNat y.toNat with g|g|g
   ·exact .inl (.inl (UInt8.lt_iff_toNat_lt.2 g))
   ·have g:=UInt8.toNat_inj.1 g;exact .inr (.inl ⟨g,h⟩)
   ·exact .inr (.inr (.inl (UInt8.lt_iff_toNat_lt.2 g)))
  ·rcases Nat.lt_trichotomy x.toNat y.toNat with g|g|g
   ·exact .inl (.inl (UInt8.lt_iff_toNat_lt.2 g))
   ·have g:=UInt8.toNat_inj.1 g;exact .inr (.inr (.inr ⟨g.symm,h⟩))
   ·exact .inr (.inr (.inl (UInt8.lt_iff_toNat_lt.2 g)))
theorem qIp(a:ByteArray):blt a a=false:=qTm _
theorem qKh{a b c:ByteArray}(h1:blt a b=true)(h2:blt b c=true):blt a c=true:=qVs _ _ _ h1 h2
theorem qNa(a b:ByteArray):blt a b=true∨a=b∨blt b a=true:=by
 rcases qVr a.toList b.toList with h|h|h
 ·exact .inl h
 ·exact .inr (.inl (zDi h))
 ·exact .inr (.inr h)
theorem qZj{a b:ByteArray}(h:blt a b=true):blt b a=false:=by
 cases h2:blt b a with
 |false=>rfl
 |true=>have:=qKh h h2;rw[qIp] at this;cases this
theorem zFd{a b:ByteArray}(h:blt a b=true):a≠b:=by rintro rfl;rw[qIp] at h;cases h
def Asc(L:List File):Prop:=L.Pairwise fun f g=>blt f.1 g.1=true
def fget:List File→ByteArray→Option ByteArray
 |[],_=>none
 |f::L,p=>if f.1=p then some f.2 else fget L p
def fput:List File→ByteArray→ByteArray→List File
 |[],p,b=>[(p,b)]
 |f::L,p,b=>if blt p f.1=true then(p,b)::f::L else if f.1=p then(p,b)::L else f::fput L p b
theorem qMd{L:List File}{p:ByteArray}(h:∀f∈L,blt p f.1=true):fget L p=none:=by
 induction L with
 |nil=>rfl
 |cons f L ih=>
  have h1:=h f (jJ ..)
  simp only[fget]
  rw[if_neg (fun e=>by rw[e,qIp] at h1;cases h1)]
  exact ih fun g hg=>h g (jK _ hg)
theorem Asc.ext:∀{L K:List File},Asc L→Asc K→(∀p,fget L p=fget K p)→L=K
 |[],[],_,_,_=>rfl
 |[],f::K,_,_,h=>by have:=h f.1;simp[fget] at this
 |f::L,[],_,_,h=>by have:=h f.1;simp[fget] at this
 |f::L,g::K,hL,hK,h=>by
  have hL':=jQ.1 hL
  have hK':=jQ.1 hK
  have e:f.1=g.1:=by
   rcases qNa f.1 g.1 with hl|hl|hl
   ·have h1:=h f.1
    rw[qMd (L:=g::K) (fun x hx=>by
     rcases jH.1 hx with rfl|hx
     ·exact hl
     ·exact qKh hl (hK'.1 x hx))] at h1
    simp[fget] at h1
   ·exact hl
   ·have h1:=h g.1
    rw[qMd (L:=f::L) (fun x hx=>by
     rcases jH.1 hx with rfl|hx
     ·exact hl
     ·exact qKh hl (hL'.1 x hx))] at h1
    simp[fget] at h1
  have e2:f.2=g.2:=by have:=h f.1;rw[e] at this;simpa[fget,e] using this
  have e3:f=g:=Prod.ext e e2
  subst e3
  congr 1
  refine Asc.ext hL'.2 hK'.2 fun p=> ?_
  by_cases hp:f.1=p
  ·subst hp
   rw[qMd hL'.1,qMd hK'.1]
  ·have:=h p
   simpa[fget,hp] using this
theorem qSy{L:List File}{p b:ByteArray}{f:File}(h:f∈fput L p b):f=(p,b)∨f∈L:=by
 induction L with
 |nil=>simp[fput] at h;exact .inl h
 |cons g L ih=>
  simp only[fput] at h
  split at h
  ·rcases jH.1 h with h|h
   ·exact .inl h
   ·exact .inr h
  ·split at h
   ·rcases jH.1 h with h|h
    ·exact .inl h
    ·exact .inr (jK _ h)
   ·rcases jH.1 h with h|h
    ·exact .inr (h▸jJ ..)
    ·rcases ih h with h|h
     ·exact .inl h
     ·exact .inr (jK _ h)
theorem Asc.put{L:List File}(h:Asc L)(p b:ByteArray):Asc (fput L p b):=by
 induction L with
 |nil=>exact List.pairwise_singleton _ _
 |cons g L ih=>
  have h':=jQ.1 h
  simp only[fput]
  split
  ·rename_i h1
   refine jQ.2 ⟨fun x hx=> ?_,h⟩
   rcases jH.1 hx with rfl|hx
   ·exact h1
   ·exact qKh h1 (h'.1 x hx)
  ·rename_i h1
   split
   ·rename_i h2
    exact jQ.2 ⟨fun x hx=>by have:=h'.1 x hx;rw[h2] at this;exact this,h'.2⟩
   ·rename_i h2
    refine jQ.2 ⟨fun x hx=> ?_,ih h'.2⟩
    rcases qSy hx with rfl|hx
    ·rcases qNa g.1 p with h3|h3|h3
     ·exact h3
     ·exact absurd h3 h2
     ·exact absurd h3 h1
    ·exact h'.1 x hx
theorem qUo(L:List File)(p b:ByteArray):(fput L p b).length≤L.length+1:=by
 induction L with
 |nil=>simp[fput]
 |cons g L ih=>
  simp only[fput]
  split
  ·simp
  ·split
   ·simp
   ·simp only[jA];omega
def zJp(f:File):Prop:=qIx f.1.data.toList=true∧f.2.size≤16384
def WF(L:List File):Prop:=L.length≤64∧Asc L∧∀f∈L,zJp f
theorem WF.put{L:List File}(h:WF L){p b:ByteArray}(hp:qIx p.data.toList=true)(hb:b.size≤16384)(hl:(fput L p b).length≤64):WF (fput L p b):=
 ⟨hl,h.2.1.put p b,fun f hf=>by
  rcases qSy hf with rfl|hf
  ·exact⟨hp,hb⟩
  ·exact h.2.2 f hf⟩
def zBc(q:Option ByteArray)(p:ByteArray):Bool:=match q with
 |some x=>blt p x
 |none=>false
def qRb:Option ByteArray→List File→Int
 |_,[]=>0
 |q,f::L=>
  if qIx f.1.data.toList=false then 6
  else if q=some f.1 then 10
  else if zBc q f.1=true then 6
  else if 16384<f.2.size then 2
  else qRb (some f.1) L
def qHr(L:List File):Int:=if 64<L.length then 2 else qRb none L
theorem qYi:∀{L:List File} {q:Option ByteArray},qRb q L=0↔Asc L∧(∀f∈L,zJp f)∧∀x,q=some x→∀f∈L,blt x f.1=true
 |[],q=>by simp[qRb,Asc]
 |f::L,q=>by
  have ih:=qYi (L:=L) (q:=some f.1)
  simp only[qRb]
  by_cases h1:qIx f.1.data.toList=false
  ·rw[if_pos h1]
   refine⟨fun h=>by omega,fun h=> ?_⟩
   have:=(h.2.1 f (jJ ..)).1;rw[h1] at this;cases this
  rw[if_neg h1]
  have h1:qIx f.1.data.toList=true:=by simpa using h1
  by_cases h2:q=some f.1
  ·rw[if_pos h2]
   refine⟨fun h=>by omega,fun h=> ?_⟩
   have:=h.2.2 _ h2 f (jJ ..);rw[qIp] at this;cases this
  rw[if_neg h2]
  by_cases h3:zBc q f.1=true
  ·rw[if_pos h3]
   refine⟨fun h=>by omega,fun h=> ?_⟩
   cases q with
   |none=>cases h3
   |some x=>have:=h.2.2 x rfl f (jJ ..);rw[show zBc (some x) f.1=blt f.1 x from rfl,qZj this] at h3;cases h3
  rw[if_neg h3]
  by_cases h4:16384<f.2.size
  ·rw[if_pos h4]
   refine⟨fun h=>by omega,fun h=> ?_⟩
   have:=(h.2.1 f (jJ ..)).2;omega
  rw[if_neg h4,ih]
  have hq:∀x,q=some x→blt x f.1=true:=fun x hx=>by
   subst hx
   rcases qNa x f.1 with g|g|g
   ·exact g
   ·exact absurd (by rw[g]) h2
   ·exact absurd g h3
  constructor
  ·rintro⟨a1,a2,a3⟩
   refine⟨jQ.2 ⟨a3 f.1 rfl,a1⟩,fun g hg=> ?_,fun x hx g hg=> ?_⟩
   ·rcases jH.1 hg with rfl|hg
    ·exact⟨h1,by omega⟩
    ·exact a2 g hg
   ·rcases jH.1 hg with rfl|hg
    ·exact hq x hx
    ·exact qKh (hq x hx) (a3 f.1 rfl g hg)
  ·rintro⟨a1,a2,a3⟩
   have a1:=jQ.1 a1
   exact⟨a1.2,fun g hg=>a2 g (jK _ hg),fun x hx=>by cases hx;exact a1.1⟩
theorem qJu{L:List File}:qHr L=0↔WF L:=by
 unfold qHr WF
 by_cases h:64<L.length
 ·rw[if_pos h];exact⟨fun h=>by omega,fun g=>by omega⟩
 ·rw[if_neg h,qYi]
  exact⟨fun g=>⟨by omega,g.1,g.2.1⟩,fun g=>⟨g.2.1,g.2.2,fun x hx=>by cases hx⟩⟩
def resK(c:Int):Unit⊕Int:=if c=0 then .inl () else .inr c
def qAt(L:List File)(i:Nat):Option ByteArray:=if i=0 then none else(L[i-1]?).map (·.1)
theorem qWc{L:List File}{f:Int→Option (Int⊕(Unit⊕Int))}
  (step:∀i:Nat,∀h:i<L.length,f (i:Int)=if qIx L[i].1.data.toList=false then some (.inr (.inr 6)) else if qAt L i=some L[i].1 then some (.inr (.inr 10)) else if zBc (qAt L i) L[i].1=true then some (.inr (.inr 6)) else if 16384<L[i].2.size then some (.inr (.inr 2)) else some (.inl ((i:Int)+1)))
  (stop:f (L.length:Int)=some (.inr (.inl ()))):∀(d i M:Nat),i+d=L.length→d<M→qBf f M (i:Int)=some (resK (qRb (qAt L i) (L.drop i)))
 |_,_,0,_,h=>by omega
 |0,i,M+1,hd,_=>by
  have:i=L.length:=by omega
  subst this
  simp[qBf,stop,qRb,resK]
 |d+1,i,M+1,hd,hM=>by
  have hi:i<L.length:=by omega
  have ih:=qWc step stop d (i+1) M (by omega) (by omega)
  have e1:(i:Int)+1=((i+1:Nat):Int):=by omega
  have e2:qAt L (i+1)=some L[i].1:=by simp[qAt,hi]
  simp only[qBf,step i hi]
  rw[jT hi]
  simp only[qRb]
  by_cases h1:qIx L[i].1.data.toList=false
  ·rw[if_pos h1,if_pos h1];rfl
  rw[if_neg h1,if_neg h1]
  by_cases h2:qAt L i=some L[i].1
  ·rw[if_pos h2,if_pos h2];rfl
  rw[if_neg h2,if_neg h2]
  by_cases h3:zBc (qAt L i) L[i].1=true
  ·rw[if_pos h3,if_pos h3];rfl
  rw[if_neg h3,if_neg h3]
  by_cases h4:16384<L[i].2.size
  ·rw[if_pos h4,if_pos h4];rfl
  rw[if_neg h4,if_neg h4,e1]
  simp only[j0]
  rw[ih,e2]
theorem eqB(x y:ByteArray):(x.toList==y.toList)=decide (x=y):=qHc x y
theorem zIb{N:Nat}{L:List File}{P:ByteArray→Option Bool}{f:Int→Option (Int⊕(Unit⊕Int))}(hP:∀g∈L,P g.1=some (qIx g.1.data.toList))
  (hf:∀s1,f s1=if(decide (s1<(List.length L:Int)))=true then((idx L s1).bind fun x1=>(P x1.1).bind fun y1=>if(!y1)=true then(some (.inr (.inr (6)))) else((if(decide (s1>0))=true then((idx L (IntKind.wrap .i64 (s1-1))).bind fun x2=>some (x1.1.toList==x2.1.toList)) else(some false):Option (Bool)).bind fun o2=>if o2=true then(some (.inr (.inr (10)))) else((if(decide (s1>0))=true then((idx L (IntKind.wrap .i64 (s1-1))).bind fun x3=>some (Op.bytesLess x1.1.toList x3.1.toList)) else(some false):Option (Bool)).bind fun o3=>if o3=true then(some (.inr (.inr (6)))) else(if(decide ((ByteArray.size x1.2:Int)>16384))=true then(some (.inr (.inr (2)))) else(some (.inl (IntKind.wrap .i64 (s1+1)))))))) else(some (.inr (.inl ()))))
  (hN:100<N):(if(decide ((List.length L:Int)>64))=true then(some 2) else((qBf f N 0).bind fun out1=>(match out1 with| .inl _=>some 0| .inr z=>some z)):Option Int)=some (qHr L):=by
 unfold qHr
 by_cases h:64<L.length
 ·rw[if_pos h,if_pos (by simp only[j9];omega)]
 ·rw[if_neg h,if_neg (by simp only[j9];omega)]
  have key:=qWc (L:=L) (f:=f) (fun i hi=>by
   rw[hf,if_pos (by simp only[j9];omega),qFw hi]
   simp only[j0,hP _ (kI hi)]
   by_cases h1:qIx L[i].1.data.toList=false
   ·rw[if_pos (by rw[h1];rfl),if_pos h1]
   have h1':qIx L[i].1.data.toList=true:=by simpa using h1
   rw[if_neg (by rw[h1'];simp),if_neg h1]
   by_cases h0:0<i
   ·have hi1:i-1<L.length:=by omega
    have ew:IntKind.wrap .i64 ((i:Int)-1)=((i-1:Nat):Int):=by rw[wi64 (by omega) (by omega)];omega
    have eq:qAt L i=some (L[i-1]).1:=by simp[qAt,hi1];omega
    rw[ew,qFw hi1,eq]
    have ed:decide ((i:Int)>0)=true:=by simp only[j9];omega
    simp only[j0,eqB,ed,jU,j9,jF]
    by_cases h2:L[i].1=(L[i-1]).1
    ·rw[if_pos h2,if_pos h2.symm]
    rw[if_neg h2,if_neg (show ¬(L[i-1]).1=L[i].1 from fun e=>h2 e.symm)]
    have el:zBc (some (L[i-1]).1) L[i].1=Op.bytesLess L[i].1.toList (L[i-1]).1.toList:=rfl
    rw[el]
    by_cases h3:Op.bytesLess L[i].1.toList (L[i-1]).1.toList=true
    ·rw[if_pos h3,if_pos h3]
    rw[if_neg h3,if_neg h3]
    by_cases h4:16384<L[i].2.size
    ·rw[if_pos (by omega),if_pos h4]
    ·rw[if_neg (by omega),if_neg h4,wi64 (by omega) (by omega)]
   ·have h0:i=0:=by omega
    subst h0
    have ed:decide (((0:Nat):Int)>0)=false:=by decide
    have eq:qAt L 0=none:=rfl
    have el:zBc none (L[0]).1=false:=rfl
    simp only[ed,jD,jS,j0,eq,j9,reduceCtorEq,el]
    by_cases h4:16384<L[0].2.size
    ·rw[if_pos (by omega),if_pos h4]
    ·rw[if_neg (by omega),if_neg h4,wi64 (by omega) (by omega)]) (by rw[hf,if_neg (by simp)]) L.length 0 N (by omega) (by omega)
  rw[show((0:Nat):Int)=0 from rfl] at key
  rw[key,kJ]
  have eq:qAt L 0=none:=rfl
  rw[eq]
  simp only[j0,resK]
  by_cases hc:qRb none L=0
  ·rw[if_pos hc,hc]
  ·rw[if_neg hc]
theorem zIo{N:Nat}{L:List File}(hP:∀g∈L,qHe N g.1=some (qIx g.1.data.toList))(hN:100<N):qKt N L=some (qHr L):=
 zIb (f:=qIs N L) (P:=qHe N) hP (fun _=>rfl) hN
end
section
open Go Go.Dc Go.Proofs
def qRi:ByteArray:=⟨#[]⟩
abbrev qLc(N:Nat)(L:List File):Prop:=∀g∈L,qHe N g.1=some (qIx g.1.data.toList)
def qDi(s:ByteArray):Bool:=qIx s.data.toList&&decide (4<s.size)&&decide (s.extract (s.size-4) s.size=(⟨#[46,115,114,99]⟩:ByteArray))
theorem zAz{N:Nat}{s:ByteArray}(hp:qHe N s=some (qIx s.data.toList)):qHb N s=some (qDi s):=by
 simp only[qHb,hp,j0]
 unfold qDi
 cases hb:qIx s.data.toList with
 |false=>simp
 |true=>
  have h80:s.size≤80:=by
   have:s.data.toList.length≤80:=(kL hb).1
   have e:=qCc s
   omega
  rw[if_pos rfl]
  by_cases h4:4<s.size
  ·rw[if_pos (by simp only[j9];omega)]
   have e4:ByteArray.size (⟨#[46,115,114,99]⟩:ByteArray)=4:=rfl
   simp only[qIr,qDt,e4]
   rw[if_pos (by simp only[j9];omega),show IntKind.wrap .i64 ((s.size:Int)-((4:Nat):Int))=((s.size-4:Nat):Int) by rw[wi64 (by omega) (by omega)];omega,qNi (by omega) (by omega) (by omega)]
   simp only[j0,kD,eqB,kF h4,fV]
  ·rw[if_neg (by simp only[j9];omega),gE h4];rfl
theorem qUs{N:Nat}{s:ByteArray}(hN:100<N):qEw N s=some (qDi s):=by
 simp only[qEw,zDs hN,j0]
 unfold qDi
 cases hb:qIx s.data.toList with
 |false=>simp
 |true=>
  have h80:s.size≤80:=by
   have:s.data.toList.length≤80:=(kL hb).1
   have e:=qCc s
   omega
  rw[if_pos rfl]
  by_cases h4:4<s.size
  ·rw[if_pos (by simp only[j9];omega),show IntKind.wrap .i64 ((s.size:Int)-4)=((s.size-4:Nat):Int) by rw[wi64 (by omega) (by omega)];omega,qNi (by omega) (by omega) (by omega)]
   simp only[j0,kD,eqB,kF h4,fV]
  ·rw[if_neg (by simp only[j9];omega),gE h4];rfl
section
variable {κ ν:Type} [DecidableEq κ]
theorem qVc:∀(l:List (κ×ν)) (k:κ) (v:ν) (c:κ),mget (qMa l k v) c=if c=k then some v else mget l c
 |[],k,v,c=>by simp[qMa,mget]
 |p::l,k,v,c=>by
  simp only[qMa]
  by_cases h:k=p.1
  ·rw[if_pos h]
   simp only[mget]
   by_cases h2:c=k
   ·rw[if_pos h2,if_pos h2]
   ·rw[if_neg h2,if_neg h2,if_neg (by rw[←h];exact h2)]
  ·rw[if_neg h]
   simp only[mget]
   rw[qVc l k v c]
   by_cases h2:c=p.1
   ·rw[if_pos h2,if_neg (fun e=>h (by rw[←e,h2])),if_pos h2]
   ·rw[if_neg h2,if_neg h2]
theorem qNb[KOrd κ]{l:List (κ×ν)}(hn:(l.map (·.1)).Nodup)(k:κ)(v:ν)(c:κ):mget (mset l k v) c=if c=k then some v else mget l c:=by
 rw[←qTr (qLo (.refl l) hn k v) (qKo hn k v) c,qVc]
theorem qKr[KOrd κ]{l:List (κ×ν)}(hn:(l.map (·.1)).Nodup)(k:κ)(v:ν):((mset l k v).map (·.1)).Nodup:=
 ((qLo (.refl l) hn k v).map _).nodup_iff.1 (qKo hn k v)
end
end
section
open Go Go.Dc
instance decMemB(s:ByteArray)(l:List ByteArray):Decidable (s∈l):=@List.instDecidableMemOfLawfulBEq ByteArray instBEqOfDecidableEq inferInstance s l
abbrev Ex:=Int×Int×Int×ByteArray×List Int
abbrev Dl:=Int×ByteArray×List ByteArray×List Ex
abbrev Sr:=ByteArray×List ByteArray×List Dl
abbrev Flt:=Int×Int
abbrev Ps:=Nat×List Ex
abbrev PM(α:Type):=Flt⊕(Ps×α)
def tkAt(ts:List Tok)(i:Nat):Tok:=ts.getD i (5,⟨#[]⟩,0,0)
def qJs{α:Type}(t:Tok)(e:Int):Flt⊕α:= .inl (t.2.2.2,e)
def qDh{α β:Type}(x:Flt⊕α)(f:α→Flt⊕β):Flt⊕β:=
 match x with
 | .inl z=> .inl z
 | .inr a=>f a
def isC(ts:List Tok)(k:Int)(s:ByteArray)(i:Nat):Bool:=(tkAt ts i).1==k&&decide ((tkAt ts i).2.1=s)
def qJv(ts:List Tok)(s:ByteArray)(i:Nat):Flt⊕Nat:=if isC ts 4 s i then .inr (i+1) else qJs (tkAt ts i) 9
def qUu(ts:List Tok)(s:ByteArray)(i:Nat):Flt⊕Nat:=if isC ts 1 s i then .inr (i+1) else qJs (tkAt ts i) 9
def qQo(ts:List Tok)(k:Int)(i:Nat):Flt⊕(Nat×Tok):=if(tkAt ts i).1=k then .inr (i+1,tkAt ts i) else qJs (tkAt ts i) 9
def qSv:ByteArray:=⟨#[112,97,99,107,97,103,101]⟩
def qWu:ByteArray:=⟨#[105,109,112,111,114,116]⟩
def zHw:ByteArray:=⟨#[102,117,110,99]⟩
def zIl:ByteArray:=⟨#[116,101,115,116]⟩
def sGen:ByteArray:=⟨#[103,101,110]⟩
def sIf:ByteArray:=⟨#[105,102]⟩
def zHi:ByteArray:=⟨#[116,104,101,110]⟩
def zId:ByteArray:=⟨#[101,108,115,101]⟩
def qVb:ByteArray:=⟨#[114,101,97,100]⟩
def qUy:ByteArray:=⟨#[115,105,122,101]⟩
def sHas:ByteArray:=⟨#[104,97,115]⟩
def sEnv:ByteArray:=⟨#[101,110,118]⟩
def qZl:ByteArray:=⟨#[102,108,105,112]⟩
def qUv:ByteArray:=⟨#[40]⟩
def qNe:ByteArray:=⟨#[41]⟩
def qVl:ByteArray:=⟨#[44]⟩
def zDz:ByteArray:=⟨#[59]⟩
def sEq:ByteArray:=⟨#[61]⟩
def zJr:ByteArray:=⟨#[45]⟩
def zJq:List ByteArray:=[qSv,qWu,zHw,zIl,sGen,sIf,zHi,zId,qVb,qUy,sHas,sEnv,qZl]
def resC(s:ByteArray):Bool:=decide (s∈zJq)
def qRk(ts:List Tok)(i:Nat):Flt⊕(Nat×Tok):=qDh (qQo ts 1 i) fun p=>if resC p.2.2.1 then qJs p.2 9 else .inr p
def qSc(ts:List Tok)(i:Nat):Flt⊕(Nat×Tok):=qDh (qQo ts 3 i) fun p=>if qIx p.2.2.1.data.toList then .inr p else qJs p.2 9
def zEy(ts:List Tok)(i:Nat):Flt⊕(Nat×Tok):=qDh (qQo ts 3 i) fun p=>if zDe p.2.2.1 then .inr p else qJs p.2 9
def qNf(t:Tok)(x:Ex)(p:Ps):PM Nat:=if p.2.length=256 then qJs t 2 else .inr ((p.1,p.2++[x]),p.2.length)
def opsC:List (Int×ByteArray):=[(1,⟨#[43]⟩),(2,⟨#[45]⟩),(3,⟨#[42]⟩),(4,⟨#[47]⟩),(5,⟨#[37]⟩),(6,⟨#[60]⟩),(7,⟨#[61,61]⟩)]
def levP(op:Int):Nat:=if op=6∨op=7 then 1 else if op=1∨op=2 then 2 else 3
def isOp(ts:List Tok)(level:Nat)(i:Nat)(o:Int×ByteArray):Bool:=isC ts 4 o.2 i&&decide (levP o.1=level)
def opC(ts:List Tok)(level:Nat)(i:Nat):Int:=
 match opsC.find? (isOp ts level i) with
 |some o=>o.1
 |none=>0
section
variable (ts:List Tok) (params:List ByteArray) (E:Ps→PM Nat)
def zFm:Nat→List Int→Ps→PM (List Int)
 |0,_,p=>qJs (tkAt ts p.1) 9
 |n+1,l,p=>qDh (E p) fun q=>
  if isC ts 4 qVl q.1.1 then zFm n (l++[(q.2:Int)]) (q.1.1+1,q.1.2)
  else qDh (qJv ts qNe q.1.1) fun i=> .inr ((i,q.1.2),l++[(q.2:Int)])
def qKq(p:Ps):PM (List Int):=
 qDh (qJv ts qUv p.1) fun i=>if isC ts 4 qNe i then .inr ((i+1,p.2),[]) else zFm ts E (ts.length+1) [] (i,p.2)
def qOa(t:Tok)(p:Ps):PM Nat:=
 qDh (qJv ts qUv p.1) fun i=>
 qDh (if t.2.1=qVb then
   qDh (qSc ts i) fun a=>qDh (qJv ts qVl a.1) fun i=>qDh (E (i,p.2)) fun q=> .inr (q.1,((6,0,0,a.2.2.1,[(q.2:Int)]):Ex))
  else if t.2.1=qUy then qDh (qSc ts i) fun a=> .inr ((a.1,p.2),((7,0,0,a.2.2.1,[]):Ex))
  else if t.2.1=sHas then qDh (qSc ts i) fun a=> .inr ((a.1,p.2),((8,0,0,a.2.2.1,[]):Ex))
  else if t.2.1=sEnv then qDh (zEy ts i) fun a=> .inr ((a.1,p.2),((9,0,0,a.2.2.1,[]):Ex))
  else qDh (qQo ts 2 i) fun a=>if a.2.2.2.1≥64 then qJs a.2 9 else .inr ((a.1,p.2),((10,a.2.2.2.1,0,⟨#[]⟩,[]):Ex))) fun q=>
 qDh (qJv ts qNe q.1.1) fun i=>qNf t q.2 (i,q.1.2)
def qQh(p:Ps):PM Nat:=
 let t:=tkAt ts p.1
 if t.1=2 then qNf t (1,t.2.2.1,0,⟨#[]⟩,[]) (p.1+1,p.2)
 else if isC ts 4 zJr p.1 then qDh (qQo ts 2 (p.1+1)) fun a=>qNf t (1,IntKind.wrap .i64 (0-a.2.2.2.1),0,⟨#[]⟩,[]) (a.1,p.2)
 else if isC ts 4 qUv p.1 then qDh (E (p.1+1,p.2)) fun q=>qDh (qJv ts qNe q.1.1) fun i=> .inr ((i,q.1.2),q.2)
 else if t.1≠1 then qJs t 9
 else if t.2.1∈[qVb,qUy,sHas,sEnv,qZl] then qOa ts E t (p.1+1,p.2)
 else if resC t.2.1 then qJs t 9
 else if isC ts 4 qUv (p.1+1) then qDh (qKq ts E (p.1+1,p.2)) fun q=>qNf t (3,0,0,t.2.1,q.2) q.1
 else match params.findIdx? (fun x=>decide (x=t.2.1)) with
  |some i=>qNf t (2,(i:Int),0,⟨#[]⟩,[]) (p.1+1,p.2)
  |none=>qJs t 9
def zDp(level:Nat)(S:Ps→PM Nat):Nat→Nat→Ps→PM Nat
 |0,_,p=>qJs (tkAt ts p.1) 9
 |n+1,x,p=>
  if opC ts level p.1=0 then .inr (p,x)
  else qDh (S (p.1+1,p.2)) fun q=>qDh (qNf (tkAt ts p.1) (4,0,opC ts level p.1,⟨#[]⟩,[(x:Int),(q.2:Int)]) q.1) fun r=>
   if level=1 then .inr r else zDp level S n r.2 r.1
def qVk(level:Nat)(S:Ps→PM Nat)(p:Ps):PM Nat:=qDh (S p) fun q=>zDp ts level S (ts.length+1) q.2 q.1
def zKp:Ps→PM Nat:=qVk ts 3 (qQh ts params E)
def sumC:Ps→PM Nat:=qVk ts 2 (zKp ts params E)
def qTa:Ps→PM Nat:=qVk ts 1 (sumC ts params E)
end
def qJf(ts:List Tok)(params:List ByteArray):Nat→Ps→PM Nat
 |0,p=>qJs (tkAt ts p.1) 2
 |k+1,p=>
  if isC ts 1 sIf p.1 then
   qDh (qJf ts params k (p.1+1,p.2)) fun a=>qDh (qUu ts zHi a.1.1) fun i=>
   qDh (qJf ts params k (i,a.1.2)) fun b=>qDh (qUu ts zId b.1.1) fun j=>
   qDh (qJf ts params k (j,b.1.2)) fun c=>qNf (tkAt ts p.1) (5,0,0,⟨#[]⟩,[(a.2:Int),(b.2:Int),(c.2:Int)]) c.1
  else qTa ts params (qJf ts params k) p
def qUg(ts:List Tok):Nat→List ByteArray→Nat→Flt⊕(Nat×List ByteArray)
 |0,_,i=>qJs (tkAt ts i) 9
 |n+1,l,i=>qDh (qRk ts i) fun a=>
  if l.length=8 then qJs a.2 2
  else if a.2.2.1∈l then qJs a.2 10
  else if isC ts 4 qVl a.1 then qUg ts n (l++[a.2.2.1]) (a.1+1)
  else qDh (qJv ts qNe a.1) fun j=> .inr (j,l++[a.2.2.1])
def qJi(ts:List Tok)(i:Nat):Flt⊕(Nat×List ByteArray):=
 qDh (qJv ts qUv i) fun j=>if isC ts 4 qNe j then .inr (j+1,[]) else qUg ts (ts.length+1) [] j
def qLh(s:ByteArray):Int:=if s=zHw then 1 else if s=zIl then 2 else if s=sGen then 3 else 0
def qZd(ts:List Tok)(before:List Dl)(i:Nat):Flt⊕(Nat×Dl):=
 let t:=tkAt ts i
 let k:=qLh t.2.1
 if t.1≠1∨k=0 then qJs t 9
 else if before.length=64 then qJs t 2
 else qDh (if k=3 then qSc ts (i+1) else qRk ts (i+1)) fun a=>
  if before.any (fun d=>d.1==k&&decide (d.2.1=a.2.2.1)) then qJs a.2 10
  else qDh (if k=1 then qJi ts a.1 else .inr (a.1,[])) fun b=>
   qDh (qJv ts sEq b.1) fun j=>qDh (qJf ts b.2 32 (j,[])) fun c=>
   qDh (qJv ts zDz c.1.1) fun m=> .inr (m,(k,a.2.2.1,b.2,c.1.2))
def qNr(ts:List Tok)(pkg:ByteArray):Nat→List ByteArray→Nat→Flt⊕(Nat×List ByteArray)
 |0,_,i=>qJs (tkAt ts i) 9
 |n+1,l,i=>
  if isC ts 1 qWu i then
   if l.length=8 then qJs (tkAt ts i) 2
   else qDh (qRk ts (i+1)) fun a=>
    if a.2.2.1=pkg∨a.2.2.1∈l then qJs a.2 10
    else qDh (qJv ts zDz a.1) fun j=>qNr ts pkg n (l++[a.2.2.1]) j
  else .inr (i,l)
def qTk(ts:List Tok):Nat→List Dl→Nat→Flt⊕List Dl
 |0,_,i=>qJs (tkAt ts i) 9
 |n+1,l,i=>if(tkAt ts i).1=5 then .inr l else qDh (qZd ts l i) fun a=>qTk ts n (l++[a.2]) a.1
def zEc(ts:List Tok):Flt⊕Sr:=
 qDh (qUu ts qSv 0) fun i=>qDh (qRk ts i) fun a=>qDh (qJv ts zDz a.1) fun j=>
 qDh (qNr ts a.2.2.1 (ts.length+1) [] j) fun b=>qDh (qTk ts (ts.length+1) [] b.1) fun l=> .inr (a.2.2.1,b.2,l)
def noSrc:Sr:=(⟨#[]⟩,[],[])
def qKd(s:ByteArray):Sr×Int×Int:=
 if(qGy s).2.2≠0 then(noSrc,(qGy s).2.1,(qGy s).2.2)
 else match zEc (qGy s).1 with
  | .inl z=>(noSrc,z.1,z.2)
  | .inr f=>(f,0,0)
end
section
open Go Go.Dc
def OkT(ts:List Tok):Prop:=ts≠[]∧∀i,i<ts.length→((tkAt ts i).1=5↔i+1=ts.length)
theorem qBy{α β:Type}{x:Flt⊕α}{f:α→Flt⊕β}{b:β}(h:qDh x f= .inr b):∃a,x= .inr a∧f a= .inr b:=by
 cases x with
 |inl z=>cases h
 |inr a=>exact⟨a,rfl,h⟩
section
variable {ts:List Tok} {params:List ByteArray} {E S:Ps→PM Nat}
theorem OkT.next(h:OkT ts){i:Nat}(hi:i<ts.length)(hk:(tkAt ts i).1≠5):i+1<ts.length:=by
 have h3:¬i+1=ts.length:=fun e=>hk ((h.2 i hi).2 e)
 omega
theorem qXu{k:Int}{s:ByteArray}{i:Nat}(h:isC ts k s i=true):(tkAt ts i).1=k:=by
 simp only[isC,jO,kC] at h;exact h.1
theorem qGv(h:OkT ts){k:Int}{s:ByteArray}{i:Nat}(hi:i<ts.length)(hk:k≠5)(h1:isC ts k s i=true):i+1<ts.length:=h.next hi (by rw[qXu h1];exact hk)
theorem qFz(h:OkT ts){s:ByteArray}{i j:Nat}(hi:i<ts.length)(h1:qJv ts s i= .inr j):j=i+1∧j<ts.length∧isC ts 4 s i=true:=by
 unfold qJv at h1
 split at h1
 ·rename_i h2
  obtain rfl:=Sum.inr.inj h1
  exact⟨rfl,qGv h hi (by decide) h2,h2⟩
 ·cases h1
theorem qPr(h:OkT ts){s:ByteArray}{i j:Nat}(hi:i<ts.length)(h1:qUu ts s i= .inr j):j=i+1∧j<ts.length∧isC ts 1 s i=true:=by
 unfold qUu at h1
 split at h1
 ·rename_i h2
  obtain rfl:=Sum.inr.inj h1
  exact⟨rfl,qGv h hi (by decide) h2,h2⟩
 ·cases h1
theorem qNq(h:OkT ts){k:Int}(hk:k≠5){i:Nat}{a:Nat×Tok}(hi:i<ts.length)(h1:qQo ts k i= .inr a):a=(i+1,tkAt ts i)∧i+1<ts.length∧(tkAt ts i).1=k:=by
 unfold qQo at h1
 split at h1
 ·rename_i h2
  obtain rfl:=Sum.inr.inj h1
  exact⟨rfl,h.next hi (by rw[h2];exact hk),h2⟩
 ·cases h1
theorem qMc(h:OkT ts){i:Nat}{a:Nat×Tok}(hi:i<ts.length)(h1:qRk ts i= .inr a):a=(i+1,tkAt ts i)∧i+1<ts.length∧(tkAt ts i).1=1∧resC (tkAt ts i).2.1=false:=by
 obtain⟨b,hb,h2⟩:=qBy h1
 obtain⟨rfl,g1,g2⟩:=qNq h (by decide) hi hb
 split at h2
 ·cases h2
 ·rename_i g3
  obtain rfl:=Sum.inr.inj h2
  exact⟨rfl,g1,g2,by simpa using g3⟩
theorem qMj(h:OkT ts){i:Nat}{a:Nat×Tok}(hi:i<ts.length)(h1:qSc ts i= .inr a):a=(i+1,tkAt ts i)∧i+1<ts.length∧(tkAt ts i).1=3∧qIx (tkAt ts i).2.1.data.toList=true:=by
 obtain⟨b,hb,h2⟩:=qBy h1
 obtain⟨rfl,g1,g2⟩:=qNq h (by decide) hi hb
 split at h2
 ·rename_i g3
  obtain rfl:=Sum.inr.inj h2
  exact⟨rfl,g1,g2,g3⟩
 ·cases h2
theorem zGd(h:OkT ts){i:Nat}{a:Nat×Tok}(hi:i<ts.length)(h1:zEy ts i= .inr a):a=(i+1,tkAt ts i)∧i+1<ts.length∧(tkAt ts i).1=3∧zDe (tkAt ts i).2.1=true:=by
 obtain⟨b,hb,h2⟩:=qBy h1
 obtain⟨rfl,g1,g2⟩:=qNq h (by decide) hi hb
 split at h2
 ·rename_i g3
  obtain rfl:=Sum.inr.inj h2
  exact⟨rfl,g1,g2,g3⟩
 ·cases h2
theorem zHo{t:Tok}{x:Ex}{p q:Ps}{i:Nat}(h:qNf t x p= .inr (q,i)):q=(p.1,p.2++[x])∧i=p.2.length∧p.2.length≠256:=by
 unfold qNf at h
 split at h
 ·cases h
 ·rename_i h1
  obtain⟨rfl,rfl⟩:=Prod.mk.inj (Sum.inr.inj h)
  exact⟨rfl,rfl,h1⟩
def Fwd(ts:List Tok)(p q:Ps):Prop:=p.1<q.1∧q.1<ts.length∧p.2.length≤q.2.length∧q.2.length≤256
def Adv(ts:List Tok)(S:Ps→PM Nat):Prop:=∀(p q:Ps) (x:Nat),p.1<ts.length→p.2.length≤256→S p= .inr (q,x)→Fwd ts p q∧x<q.2.length
theorem qMl{t:Tok}{x:Ex}{p r q:Ps}{i:Nat}(hp:p.1<r.1)(hr:r.1<ts.length)(hl:p.2.length≤r.2.length)(h256:r.2.length≤256)(h:qNf t x r= .inr (q,i)):Fwd ts p q∧i<q.2.length:=by
 obtain⟨rfl,rfl,g⟩:=zHo h
 refine⟨⟨hp,hr,?_,?_⟩,?_⟩<;>simp only[jI,jA,jB]<;>omega
theorem qZy(h:OkT ts)(hE:Adv ts E):∀(n:Nat) (l:List Int) (p q:Ps) (x:List Int),p.1<ts.length→p.2.length≤256→zFm ts E n l p= .inr (q,x)→Fwd ts p q
 |0,_,_,_,_,_,_,h1=>by cases h1
 |n+1,l,p,q,x,hp,hb,h1=>by
  obtain⟨a,ha,h2⟩:=qBy (show qDh (E p) _=_ from h1)
  obtain⟨⟨f1,f2,f3,f4⟩,f5⟩:=hE p a.1 a.2 hp hb ha
  split at h2
  ·rename_i hc
   have g:=qGv h f2 (by decide) hc
   obtain⟨k1,k2,k3,k4⟩:=qZy h hE n _ (a.1.1+1,a.1.2) q x g f4 h2
   exact⟨by simp only at k1;omega,k2,by simp only at k3;omega,k4⟩
  ·obtain⟨j,hj,h3⟩:=qBy h2
   obtain⟨rfl,g1,-⟩:=qFz h f2 hj
   obtain⟨rfl,-⟩:=Prod.mk.inj (Sum.inr.inj h3)
   exact⟨by simp only;omega,g1,f3,f4⟩
theorem qQc(h:OkT ts)(hE:Adv ts E){p q:Ps}{x:List Int}(hp:p.1<ts.length)(hb:p.2.length≤256)(h1:qKq ts E p= .inr (q,x)):Fwd ts p q:=by
 obtain⟨i,hi,h2⟩:=qBy h1
 obtain⟨rfl,g1,-⟩:=qFz h hp hi
 split at h2
 ·rename_i hc
  obtain⟨rfl,-⟩:=Prod.mk.inj (Sum.inr.inj h2)
  exact⟨by simp only;omega,qGv h g1 (by decide) hc,jL _,hb⟩
 ·obtain⟨k1,k2,k3,k4⟩:=qZy h hE _ _ (p.1+1,p.2) q x g1 hb h2
  exact⟨by simp only at k1;omega,k2,k3,k4⟩
theorem qZz(h:OkT ts)(hE:Adv ts E){t:Tok}{p q:Ps}{x:Nat}(hp:p.1<ts.length)(hb:p.2.length≤256)(h1:qOa ts E t p= .inr (q,x)):Fwd ts p q∧x<q.2.length:=by
 obtain⟨i,hi,h2⟩:=qBy h1
 obtain⟨rfl,g1,-⟩:=qFz h hp hi
 obtain⟨a,ha,h3⟩:=qBy h2
 obtain⟨j,hj,h4⟩:=qBy h3
 have key:Fwd ts (p.1+1,p.2) a.1:=by
  split at ha
  ·obtain⟨b,hb1,hb2⟩:=qBy ha
   obtain⟨rfl,k1,-⟩:=qMj h g1 hb1
   obtain⟨c,hc1,hc2⟩:=qBy hb2
   obtain⟨rfl,k2,-⟩:=qFz h k1 hc1
   obtain⟨d,hd1,hd2⟩:=qBy hc2
   obtain⟨⟨f1,f2,f3,f4⟩,-⟩:=hE (p.1+1+1+1,p.2) d.1 d.2 k2 hb hd1
   obtain rfl:=Sum.inr.inj hd2
   exact⟨by simp only at f1 ⊢;omega,f2,f3,f4⟩
  ·split at ha
   ·obtain⟨b,hb1,hb2⟩:=qBy ha
    obtain⟨rfl,k1,-⟩:=qMj h g1 hb1
    obtain rfl:=Sum.inr.inj hb2
    exact⟨by simp only;omega,k1,jL _,hb⟩
   ·split at ha
    ·obtain⟨b,hb1,hb2⟩:=qBy ha
     obtain⟨rfl,k1,-⟩:=qMj h g1 hb1
     obtain rfl:=Sum.inr.inj hb2
     exact⟨by simp only;omega,k1,jL _,hb⟩
    ·split at ha
     ·obtain⟨b,hb1,hb2⟩:=qBy ha
      obtain⟨rfl,k1,-⟩:=zGd h g1 hb1
      obtain rfl:=Sum.inr.inj hb2
      exact⟨by simp only;omega,k1,jL _,hb⟩
     ·obtain⟨b,hb1,hb2⟩:=qBy ha
      obtain⟨rfl,k1,-⟩:=qNq h (by decide) g1 hb1
      split at hb2
      ·cases hb2
      ·obtain rfl:=Sum.inr.inj hb2
       exact⟨by simp only;omega,k1,jL _,hb⟩
 obtain⟨f1,f2,f3,f4⟩:=key
 obtain⟨rfl,g2,-⟩:=qFz h f2 hj
 exact qMl (r:=(a.1.1+1,a.1.2)) (by simp only at f1 ⊢;omega) g2 f3 f4 h4
theorem qTw(h:OkT ts)(hE:Adv ts E):Adv ts (qQh ts params E):=by
 intro p q x hp hb h1
 unfold qQh at h1
 dsimp only at h1
 split at h1
 ·rename_i hk
  exact qMl (r:=(p.1+1,p.2)) (by simp only;omega) (h.next hp (by rw[hk];decide)) (jL _) hb h1
 split at h1
 ·rename_i hc
  have g:=qGv h hp (by decide) hc
  obtain⟨a,ha,h2⟩:=qBy h1
  obtain⟨rfl,g1,-⟩:=qNq h (by decide) g ha
  exact qMl (r:=(p.1+1+1,p.2)) (by simp only;omega) g1 (jL _) hb h2
 split at h1
 ·rename_i hc
  have g:=qGv h hp (by decide) hc
  obtain⟨a,ha,h2⟩:=qBy h1
  obtain⟨⟨f1,f2,f3,f4⟩,f5⟩:=hE (p.1+1,p.2) a.1 a.2 g hb ha
  obtain⟨j,hj,h3⟩:=qBy h2
  obtain⟨rfl,g1,-⟩:=qFz h f2 hj
  obtain⟨rfl,rfl⟩:=Prod.mk.inj (Sum.inr.inj h3)
  exact⟨⟨by simp only at f1 ⊢;omega,g1,f3,f4⟩,f5⟩
 split at h1
 ·cases h1
 rename_i hk
 have g:=h.next hp (show(tkAt ts p.1).1≠5 by simp only[ne_eq,Decidable.not_not] at hk;rw[hk];decide)
 split at h1
 ·obtain⟨⟨f1,f2,f3,f4⟩,f5⟩:=qZz h hE (p:=(p.1+1,p.2)) g hb h1
  exact⟨⟨by simp only at f1;omega,f2,f3,f4⟩,f5⟩
 split at h1
 ·cases h1
 split at h1
 ·obtain⟨a,ha,h2⟩:=qBy h1
  obtain⟨f1,f2,f3,f4⟩:=qQc h hE (p:=(p.1+1,p.2)) g hb ha
  exact qMl (by simp only at f1;omega) f2 f3 f4 h2
 split at h1
 ·exact qMl (r:=(p.1+1,p.2)) (by simp only;omega) g (jL _) hb h1
 ·cases h1
theorem qYm(h:OkT ts){level:Nat}(hS:Adv ts S):∀(n x:Nat) (p q:Ps) (y:Nat),p.1<ts.length→p.2.length≤256→x<p.2.length→zDp ts level S n x p= .inr (q,y)→p.1≤q.1∧q.1<ts.length∧p.2.length≤q.2.length∧q.2.length≤256∧y<q.2.length
 |0,_,_,_,_,_,_,_,h1=>by cases h1
 |n+1,x,p,q,y,hp,hb,hx,h1=>by
  unfold zDp at h1
  split at h1
  ·obtain⟨rfl,rfl⟩:=Prod.mk.inj (Sum.inr.inj h1)
   exact⟨jL _,hp,jL _,hb,hx⟩
  ·rename_i hop
   have hk:(tkAt ts p.1).1≠5:=by
    intro hk
    apply hop
    unfold opC
    have:opsC.find? (isOp ts level p.1)=none:=by
     rw[List.find?_eq_none]
     intro o _ ho
     simp only[isOp,jO] at ho
     have:=qXu ho.1
     omega
    rw[this]
   have g:=h.next hp hk
   obtain⟨a,ha,h2⟩:=qBy h1
   obtain⟨⟨f1,f2,f3,f4⟩,f5⟩:=hS (p.1+1,p.2) a.1 a.2 g hb ha
   obtain⟨r,hr,h3⟩:=qBy h2
   obtain⟨⟨k1,k2,k3,k4⟩,k5⟩:=qMl (ts:=ts) (p:=p) (by simp only at f1;omega) f2 f3 f4 hr
   split at h3
   ·obtain⟨rfl,rfl⟩:=Prod.mk.inj (Sum.inr.inj h3)
    exact⟨by omega,k2,k3,k4,k5⟩
   ·obtain⟨j1,j2,j3,j4,j5⟩:=qYm h hS n _ _ q y k2 k4 k5 h3
    exact⟨by omega,j2,by omega,j4,j5⟩
theorem qNj(h:OkT ts){level:Nat}(hS:Adv ts S):Adv ts (qVk ts level S):=by
 intro p q x hp hb h1
 obtain⟨a,ha,h2⟩:=qBy h1
 obtain⟨⟨f1,f2,f3,f4⟩,f5⟩:=hS p a.1 a.2 hp hb ha
 obtain⟨j1,j2,j3,j4,j5⟩:=qYm h hS _ _ _ q x f2 f4 f5 h2
 exact⟨⟨by omega,j2,by omega,j4⟩,j5⟩
theorem qLu(h:OkT ts):∀k,Adv ts (qJf ts params k)
 |0=>fun _ _ _ _ _ h1=>by cases h1
 |k+1=>by
  intro p q x hp hb h1
  unfold qJf at h1
  split at h1
  ·rename_i hc
   have g:=qGv h hp (by decide) hc
   obtain⟨a,ha,h2⟩:=qBy h1
   obtain⟨⟨a1,a2,a3,a4⟩,-⟩:=qLu h k (p.1+1,p.2) a.1 a.2 g hb ha
   obtain⟨i,hi,h3⟩:=qBy h2
   obtain⟨rfl,g1,-⟩:=qPr h a2 hi
   obtain⟨b,hb1,h4⟩:=qBy h3
   obtain⟨⟨b1,b2,b3,b4⟩,-⟩:=qLu h k (a.1.1+1,a.1.2) b.1 b.2 g1 a4 hb1
   obtain⟨j,hj,h5⟩:=qBy h4
   obtain⟨rfl,g2,-⟩:=qPr h b2 hj
   obtain⟨c,hc1,h6⟩:=qBy h5
   obtain⟨⟨c1,c2,c3,c4⟩,-⟩:=qLu h k (b.1.1+1,b.1.2) c.1 c.2 g2 b4 hc1
   simp only at a1 a3 b1 b3 c1 c3
   exact qMl (by omega) c2 (by omega) c4 h6
  ·exact qNj h (qNj h (qNj h (qTw h (qLu h k)))) p q x hp hb h1
end
end
section
open Go Go.Dc
theorem idx_tk{ts:List Tok}{i:Nat}(hi:i<ts.length):idx ts (i:Int)=some (tkAt ts i):=by
 rw[qFw hi]
 simp[tkAt,k9,hi]
theorem qOf{i:Nat}(h:i<1000000):IntKind.wrap .i64 ((i:Int)+1)=((i+1:Nat):Int):=by rw[wi64 (by omega) (by omega)];omega
section
variable {N:Nat} {ts:List Tok} {pr:List ByteArray} {b:List Ex} {i:Nat}
theorem qJd(hi:i<ts.length):qBp N (ts,(i:Int),pr,b)=some ((ts,(i:Int),pr,b),tkAt ts i):=by
 simp only[qBp,idx_tk hi,j0]
theorem zEe(hi:i<ts.length)(k:Int)(s:ByteArray):qDl N (ts,(i:Int),pr,b) k s=some ((ts,(i:Int),pr,b),isC ts k s i):=by
 simp only[qDl,qJd hi,j0,qHc,isC]
 cases h:(tkAt ts i).1==k<;>simp[h]
theorem zBh(hi:i<ts.length)(hl:ts.length<1000000)(s:ByteArray):qEs N (ts,(i:Int),pr,b) s=some (Sum.map id (fun j:Nat=>(ts,(j:Int),pr,b)) (qUu ts s i)):=by
 simp only[qEs,zEe hi,qJd hi,j0,qBl,qUu]
 cases h:isC ts 1 s i
 ·simp[qJs]
 ·simp[qOf (show i<1000000 by omega)]
theorem qLb(hi:i<ts.length)(hl:ts.length<1000000)(s:ByteArray):qBi N (ts,(i:Int),pr,b) s=some (Sum.map id (fun j:Nat=>(ts,(j:Int),pr,b)) (qJv ts s i)):=by
 simp only[qBi,zEe hi,qJd hi,j0,qBl,qJv]
 cases h:isC ts 4 s i
 ·simp[qJs]
 ·simp[qOf (show i<1000000 by omega)]
theorem qNl(hi:i<ts.length)(hl:ts.length<1000000)(s:ByteArray):qCl N (ts,(i:Int),pr,b) s=some (if isC ts 4 s i then((ts,((i+1:Nat):Int),pr,b),true) else((ts,(i:Int),pr,b),false)):=by
 simp only[qCl,zEe hi,j0]
 cases h:isC ts 4 s i
 ·simp
 ·simp[qOf (show i<1000000 by omega)]
theorem qTc(hi:i<ts.length)(hl:ts.length<1000000){k:Int}(hk:k≠5):qCz N (ts,(i:Int),pr,b) k=some (Sum.map id (fun a:Nat×Tok=>((ts,(a.1:Int),pr,b),a.2)) (qQo ts k i)):=by
 simp only[qCz,qJd hi,j0,qBl,qQo]
 have h5:(k !=5)=true:=by simpa using hk
 by_cases h:(tkAt ts i).1=k
 ·have h1:((tkAt ts i).1 !=k)=false:=by simp[h]
  simp only[h1,h5,jD,jS,jU,j0,if_pos h,qOf (show i<1000000 by omega),jV]
 ·have h1:((tkAt ts i).1 !=k)=true:=by simp[h]
  simp only[h1,jU,j0,if_neg h,qJs,Sum.map_inl,id]
theorem orS(a b:Bool):(if a=true then some a else some b)=some (a||b):=by
 cases a<;>simp
theorem someB(b:Bool):(if b=true then some true else some false)=some b:=by cases b<;>simp
theorem qUf(s:ByteArray):qHa N s=some (resC s):=by
 simp only[qHa,qHc,resC,zJq,qSv,qWu,zHw,zIl,sGen,sIf,zHi,zId,qVb,qUy,sHas,sEnv,qZl,jH,g9,or_false]
 simp only[orS,j0,someB,jF]
 simp only[Bool.decide_or]
theorem qXe(hi:i<ts.length)(hl:ts.length<1000000):qDa N (ts,(i:Int),pr,b)=some (Sum.map id (fun a:Nat×Tok=>((ts,(a.1:Int),pr,b),a.2)) (qRk ts i)):=by
 simp only[qDa,qTc hi hl (show(1:Int)≠5 by decide),j0,qBl,qRk]
 cases h:qQo ts 1 i with
 |inl z=>simp[qDh]
 |inr a=>
  simp only[jV,qUf,j0,qDh]
  cases h2:resC a.2.2.1<;>simp[qJs]
theorem qXi(hi:i<ts.length)(hl:ts.length<1000000)(hN:300000<N)(ht:∀j,(tkAt ts j).2.1.size<100000):qCy N (ts,(i:Int),pr,b)=some (Sum.map id (fun a:Nat×Tok=>((ts,(a.1:Int),pr,b),a.2)) (qSc ts i)):=by
 simp only[qCy,qTc hi hl (show(3:Int)≠5 by decide),j0,qBl,qSc]
 cases h:qQo ts 3 i with
 |inl z=>simp[qDh]
 |inr a=>
  have h3:a.2=tkAt ts i:=by
   unfold qQo at h
   split at h
   ·rw[←Sum.inr.inj h]
   ·cases h
  have hs:=ht i
  rw[←h3] at hs
  simp only[jV,zBf (N:=N) (s:=a.2.2.1) (by omega) (by omega),j0,qDh]
  cases h2:qIx a.2.2.1.data.toList<;>simp[qJs]
theorem qQl(t:Tok)(x:Ex)(hb:b.length≤256)(n:Nat):qCf N (ts,(n:Int),pr,b) t x=some (Sum.map id (fun q:Ps×Nat=>((ts,(q.1.1:Int),pr,q.1.2),(q.2:Int))) (qNf t x (n,b))):=by
 simp only[qCf,qBl,j0,qNf]
 by_cases h:b.length=256
 ·simp[h,qJs]
 ·have h1:((b.length:Int)==256)=false:=by simp;omega
  have hw:IntKind.wrap .i64 (((b.length+1:Nat):Int)-1)=(b.length:Int):=by rw[wi64 (by omega) (by omega)];omega
  simp only[h1,jD,jS,j0,if_neg h,jV]
  rw[qCq (by simp only[jA,jB];omega) (by omega)]
  simp only[j0,jI,jA,jB,kM,hw]
end
end
section
open Go Go.Dc
theorem qVe{N:Nat}{s:ByteArray}{l:List ByteArray}(hl:l.length<1000000):∀(d i M:Nat),i+d=l.length→d<M→
  qBf (qCo N l s) M (i:Int)=some (match(l.drop i).findIdx? (fun x=>decide (x=s)) with|some j=> .inr (((i+j:Nat):Int))|none=> .inl ())
 |d,i,0,_,h=>by omega
 |0,i,M+1,h,_=>by
  have:l.drop i=[]:=k0 (by omega)
  simp only[qBf,qCo,this,List.findIdx?_nil]
  rw[if_neg (by simp only[j9];omega)]
  rfl
 |d+1,i,M+1,h,hM=>by
  have hi:i<l.length:=by omega
  have ih:=qVe (N:=N) (s:=s) hl d (i+1) M (by omega) (by omega)
  simp only[qBf,qCo]
  rw[if_pos (by simp only[j9];omega),qFw hi,jT hi,List.findIdx?_cons]
  simp only[j0,qHc,j9]
  by_cases hs:l[i]=s
  ·rw[if_pos hs.symm,if_pos hs];simp
  ·rw[if_neg (fun e=>hs e.symm),if_neg hs]
   simp only[j0,qOf (show i<1000000 by omega),ih]
   cases(l.drop (i+1)).findIdx? (fun x=>decide (x=s)) with
   |none=>rfl
   |some j=>simp only[jX];congr 2;omega
theorem zBz{N:Nat}{s:ByteArray}{l:List ByteArray}(hl:l.length<1000000)(hN:l.length<N):
  qCv N l s=some (match l.findIdx? (fun x=>decide (x=s)) with|some j=>(j:Int)|none=> -1):=by
 have h:=qVe (N:=N) (s:=s) hl l.length 0 N (by omega) hN
 simp only[kJ,kM] at h
 simp only[qCv]
 rw[show(0:Int)=((0:Nat):Int) from rfl,h]
 simp only[j0]
 cases l.findIdx? (fun x=>decide (x=s))<;>rfl
theorem zBg{s:ByteArray}{l:List ByteArray}:(l.findIdx? (fun x=>decide (x=s))).isSome=decide (s∈l):=by
 rw[List.findIdx?_isSome]
 rw[kE]
 simp only[gS,j9]
 exact⟨fun⟨x,h1,h2⟩=>h2▸h1,fun h=>⟨s,h,rfl⟩⟩
theorem qTh{N:Nat}{s:ByteArray}{l:List ByteArray}(hl:l.length<1000000)(hN:l.length<N):
  qCp N l s=some (decide (s∈l)):=by
 simp only[qCp,zBz hl hN,j0,←zBg]
 cases l.findIdx? (fun x=>decide (x=s)) with
 |none=>rfl
 |some j=>simp only[Option.isSome_some];rw[kF (show(j:Int)≥0 by omega)]
theorem zEu{α:Type}{g:α→Bool}{l k:List α}(hu:∀a∈l,∀b∈l,g a=true→g b=true→a=b)(hp:k.Perm l):k.find? g=l.find? g:=by
 cases h:l.find? g with
 |none=>
  rw[List.find?_eq_none] at h ⊢
  exact fun x hx=>h x (hp.mem_iff.1 hx)
 |some a=>
  have ha:=gK h
  have hg:=List.find?_some h
  cases h2:k.find? g with
  |none=>exact absurd hg (by simpa using List.find?_eq_none.1 h2 a (hp.mem_iff.2 ha))
  |some b=>rw[hu b (hp.mem_iff.1 (gK h2)) a ha (List.find?_some h2) hg]
theorem zIv:∀a∈opsC,∀b∈opsC,a.2=b.2→a=b:=by
 have h:(opsC.all fun a=>opsC.all fun b=> !(decide (a.2=b.2))||decide (a=b))=true:=by kernel_rfl
 intro a ha b hb e
 have:=jN.1 (jN.1 h a ha) b hb
 simpa[e] using this
section
variable {N:Nat} {ts:List Tok} {pr:List ByteArray} {b:List Ex} {i:Nat}
theorem zHm(op:Int):qIy N op=some ((levP op:Nat):Int):=by
 by_cases h1:op=6
 ·subst h1;rfl
 by_cases h2:op=7
 ·subst h2;rfl
 by_cases h3:op=1
 ·subst h3;rfl
 by_cases h4:op=2
 ·subst h4;rfl
 simp[qIy,levP,h1,h2,h3,h4]
theorem zGp(level:Nat){t:Tok}(ht:t=tkAt ts i):∀k:List (Int×ByteArray),qJr (qCe N (level:Int) ((ts,(i:Int),pr,b),t)) k ()=
  some (match k.find? (isOp ts level i) with|some o=> .inr ((ts,(i:Int),pr,b),o.1)|none=> .inl ())
 |[]=>rfl
 |o::k=>by
  have key:qCe N (level:Int) ((ts,(i:Int),pr,b),t) (some o) ()=some (if isOp ts level i o then .inr (.inr ((ts,(i:Int),pr,b),o.1)) else .inl ()):=by
   subst ht
   simp only[qCe,zHm,j0,qHc,isOp,isC]
   have hc:(((levP o.1:Nat):Int)==(level:Int))=decide (levP o.1=level):=by
    rw[kE];simp only[kC,j9];omega
   rw[hc]
   by_cases h1:(tkAt ts i).1=4<;>by_cases h2:(tkAt ts i).2.1=o.2<;>by_cases h3:levP o.1=level<;>simp[h1,h2,h3]
  simp only[qJr,key,j0,List.find?_cons]
  cases h:isOp ts level i o with
  |true=>rfl
  |false=>exact zGp level ht k
theorem zIr:qMk N=some (some opsC):=by kernel_rfl
theorem zBe(hi:i<ts.length)(level:Nat):qEz N (ts,(i:Int),pr,b) (level:Int)=some ((ts,(i:Int),pr,b),opC ts level i):=by
 simp only[qEz,qJd hi,zIr,j0,isQ,jX,gQ]
 have hu:∀a∈opsC,∀b∈opsC,isOp ts level i a=true→isOp ts level i b=true→a=b:=by
  intro a ha b hb h1 h2
  simp only[isOp,isC,jO,j9] at h1 h2
  exact zIv a ha b hb (h1.1.2.symm.trans h2.1.2)
 have key:=zAi (f:=qCe N (level:Int) ((ts,(i:Int),pr,b),tkAt ts i)) (l:=opsC) (s:=()) fun k hk=>by
  rw[zGp level rfl k,zEu hu hk]
 rw[key]
 unfold opC
 cases opsC.find? (isOp ts level i)<;>rfl
end
end
section
open Go Go.Dc
abbrev StT:=List Tok×Int×List ByteArray×List Ex
def stP(ts:List Tok)(pr:List ByteArray)(p:Ps):StT:=(ts,(p.1:Int),pr,p.2)
def outP(ts:List Tok)(pr:List ByteArray):PM Nat→Flt⊕(StT×Int):=Sum.map id fun q=>(stP ts pr q.1,(q.2:Int))
def outL(ts:List Tok)(pr:List ByteArray):PM (List Int)→Flt⊕(StT×List Int):=Sum.map id fun q=>(stP ts pr q.1,q.2)
section
variable {N:Nat} {ts:List Tok} {pr:List ByteArray} {E S:Ps→PM Nat} {d:Int}
variable {r1:StT→Tok→Int→Option (Flt⊕(StT×Int))} {r2:StT→Int→Option (Flt⊕(StT×List Int))} {r3:StT→Int→Option (Flt⊕(StT×Int))} {r4:StT→Int→Int→Option (Flt⊕(StT×Int))} {r5:StT→Int→Option (Flt⊕(StT×Int))}
theorem qYh(hok:OkT ts)(hl:ts.length<1000000)(hA:Adv ts E)(hE:∀p:Ps,p.1<ts.length→p.2.length≤256→r5 (stP ts pr p) (IntKind.wrap .i64 (d+1))=some (outP ts pr (E p))):
  ∀(n M:Nat) (l:List Int) (p:Ps),p.1<ts.length→p.2.length≤256→l.length≤p.1→ts.length<p.1+n→ts.length<p.1+M→
  ((qBf (qDo N r5 d) M (l,ts,(p.1:Int),pr,p.2)).bind fun out1=>(match out1 with| .inl o1=>(qBi N (o1.2.1,o1.2.2.1,o1.2.2.2.1,o1.2.2.2.2) (⟨#[41]⟩:ByteArray)).bind fun y7=>(match y7 with| .inl z3=>some (.inl z3)| .inr y8=>some (.inr ((y8.1,y8.2.1,y8.2.2.1,y8.2.2.2),o1.1)))| .inr (z)=>some z))=some (outL ts pr (zFm ts E n l p))
 |0,M,l,p,hp,_,_,h,_=>by omega
 |n+1,0,l,p,hp,_,_,_,h=>by omega
 |n+1,M+1,l,p,hp,hb,hll,hn,hM=>by
  have hEp:=hE p hp hb
  simp only[stP] at hEp
  simp only[qBf,qDo,zFm,hEp,j0]
  cases hq:E p with
  |inl z=>simp only[outP,Sum.map_inl,id,qDh,outL,j0]
  |inr q=>
   obtain⟨⟨f1,f2,f3,f4⟩,f5⟩:=hA p q.1 q.2 hp hb hq
   simp only[outP,jV,qDh,stP]
   rw[qCq (by simp only[jA,jB];omega) (by omega)]
   simp only[j0,qNl f2 hl,qVl]
   rcases qLp (isC ts 4 ⟨#[44]⟩ q.1.1) with hc|hc
   ·have g:=qGv hok f2 (by decide) hc
    have ih:=qYh hok hl hA hE n M (l++[(q.2:Int)]) (q.1.1+1,q.1.2) g f4 (by simp only[jI,jA,jB];omega) (by simp only;omega) (by simp only;omega)
    simp only[hc,jU,kW,jD,jS,j0]
    exact ih
   ·simp only[hc,jD,jS,gT,jU,j0,qLb f2 hl,qNe]
    cases qJv ts ⟨#[41]⟩ q.1.1 with
    |inl z=>rfl
    |inr j=>rfl
theorem zBl(hok:OkT ts)(hl:ts.length<1000000)(hN:ts.length<N)(hA:Adv ts E)(hE:∀p:Ps,p.1<ts.length→p.2.length≤256→r5 (stP ts pr p) (IntKind.wrap .i64 (d+1))=some (outP ts pr (E p)))
  (p:Ps) (hp:p.1<ts.length) (hb:p.2.length≤256):qEa N r1 r2 r3 r4 r5 (stP ts pr p) d=some (outL ts pr (qKq ts E p)):=by
 simp only[qEa,stP,qLb hp hl,j0,qKq,qUv]
 cases h:qJv ts ⟨#[40]⟩ p.1 with
 |inl z=>rfl
 |inr i=>
  obtain⟨rfl,g,-⟩:=qFz hok hp h
  simp only[jV,qDh,qNl g hl,j0,qNe]
  rcases qLp (isC ts 4 ⟨#[41]⟩ (p.1+1)) with hc|hc
  ·simp only[hc,jU];rfl
  ·simp only[hc,jD,jS]
   exact qYh hok hl hA hE (ts.length+1) N [] (p.1+1,p.2) g hb (by simp) (by simp only;omega) (by simp only;omega)
theorem zEm(hok:OkT ts)(hl:ts.length<1000000)(hN:300000<N)(ht:∀j,(tkAt ts j).2.1.size<100000)(hA:Adv ts E)(hE:∀p:Ps,p.1<ts.length→p.2.length≤256→r5 (stP ts pr p) (IntKind.wrap .i64 (d+1))=some (outP ts pr (E p)))
  (t:Tok) (p:Ps) (hp:p.1<ts.length) (hb:p.2.length≤256):qEp N r1 r2 r3 r4 r5 (stP ts pr p) t d=some (outP ts pr (qOa ts E t p)):=by
 have fin:∀(o1:Int×Int×ByteArray×List Int×StT) (q:Ps) (x:Ex),o1.2.2.2.2=stP ts pr q→x=(o1.1,o1.2.1,0,o1.2.2.1,o1.2.2.2.1)→q.1<ts.length→q.2.length≤256→
   ((qBi N (o1.2.2.2.2.1,o1.2.2.2.2.2.1,o1.2.2.2.2.2.2.1,o1.2.2.2.2.2.2.2) (⟨#[41]⟩:ByteArray)).bind fun y22=>(match y22 with| .inl z11=>some (.inl z11)| .inr y23=>(qCf N (y23.1,y23.2.1,y23.2.2.1,y23.2.2.2) (t.1,t.2.1,t.2.2.1,t.2.2.2) (o1.1,o1.2.1,0,o1.2.2.1,o1.2.2.2.1)).bind fun y24=>(match y24 with| .inl z12=>some (.inl z12)| .inr y25=>some (.inr ((y25.1.1,y25.1.2.1,y25.1.2.2.1,y25.1.2.2.2),y25.2)))))=
   some (outP ts pr (qDh (qJv ts qNe q.1) fun i=>qNf t x (i,q.2))):=by
  intro o1 q x ho hx hq hqb
  subst hx
  rw[ho]
  simp only[stP,qLb hq hl,j0,qNe]
  cases hj:qJv ts ⟨#[41]⟩ q.1 with
  |inl z=>rfl
  |inr j=>
   simp only[jV,qDh,qQl _ _ hqb,j0]
   cases qNf t (o1.1,o1.2.1,0,o1.2.2.1,o1.2.2.2.1) (j,q.2)<;>rfl
 simp only[qEp,stP,qLb hp hl,j0,qOa,qUv]
 cases h:qJv ts ⟨#[40]⟩ p.1 with
 |inl z=>rfl
 |inr i=>
  obtain⟨rfl,g,-⟩:=qFz hok hp h
  simp only[jV,qDh,qHc,j9]
  by_cases k1:t.2.1=qVb
  ·rw[if_pos (show t.2.1=(⟨#[114,101,97,100]⟩:ByteArray) from k1),if_pos k1]
   simp only[qXi g hl hN ht,j0]
   cases h1:qSc ts (p.1+1) with
   |inl z=>rfl
   |inr a=>
    obtain⟨rfl,g1,-⟩:=qMj hok g h1
    simp only[jV,qLb g1 hl,j0,qVl]
    cases h2:qJv ts ⟨#[44]⟩ (p.1+1+1) with
    |inl z=>rfl
    |inr j=>
     obtain⟨rfl,g2,-⟩:=qFz hok g1 h2
     have hEp:=hE (p.1+1+1+1,p.2) g2 hb
     simp only[stP] at hEp
     simp only[jV,hEp,j0]
     cases h3:E (p.1+1+1+1,p.2) with
     |inl z=>rfl
     |inr q=>
      obtain⟨⟨f1,f2,f3,f4⟩,f5⟩:=hA (p.1+1+1+1,p.2) q.1 q.2 g2 hb h3
      exact fin (6,0,(tkAt ts (p.1+1)).2.1,[(q.2:Int)],ts,(q.1.1:Int),pr,q.1.2) q.1 _ rfl rfl f2 f4
  rw[if_neg (show ¬t.2.1=(⟨#[114,101,97,100]⟩:ByteArray) from k1),if_neg k1]
  by_cases k2:t.2.1=qUy
  ·rw[if_pos (show t.2.1=(⟨#[115,105,122,101]⟩:ByteArray) from k2),if_pos k2]
   simp only[qXi g hl hN ht,j0]
   cases h1:qSc ts (p.1+1) with
   |inl z=>rfl
   |inr a=>
    obtain⟨rfl,g1,-⟩:=qMj hok g h1
    exact fin (7,0,(tkAt ts (p.1+1)).2.1,[],ts,((p.1+1+1:Nat):Int),pr,p.2) (p.1+1+1,p.2) _ rfl rfl g1 hb
  rw[if_neg (show ¬t.2.1=(⟨#[115,105,122,101]⟩:ByteArray) from k2),if_neg k2]
  by_cases k3:t.2.1=sHas
  ·rw[if_pos (show t.2.1=(⟨#[104,97,115]⟩:ByteArray) from k3),if_pos k3]
   simp only[qXi g hl hN ht,j0]
   cases h1:qSc ts (p.1+1) with
   |inl z=>rfl
   |inr a=>
    obtain⟨rfl,g1,-⟩:=qMj hok g h1
    exact fin (8,0,(tkAt ts (p.1+1)).2.1,[],ts,((p.1+1+1:Nat):Int),pr,p.2) (p.1+1+1,p.2) _ rfl rfl g1 hb
  rw[if_neg (show ¬t.2.1=(⟨#[104,97,115]⟩:ByteArray) from k3),if_neg k3]
  by_cases k4:t.2.1=sEnv
  ·rw[if_pos (show t.2.1=(⟨#[101,110,118]⟩:ByteArray) from k4),if_pos k4]
   simp only[qTc g hl (show(3:Int)≠5 by decide),j0,zEy]
   cases h1:qQo ts 3 (p.1+1) with
   |inl z=>rfl
   |inr a=>
    obtain⟨rfl,g1,-⟩:=qNq hok (by decide) g h1
    simp only[jV,zKt (N:=N) (by omega),j0,qDh,qBl]
    cases h2:zDe (tkAt ts (p.1+1)).2.1 with
    |false=>rfl
    |true=>exact fin (9,0,(tkAt ts (p.1+1)).2.1,[],ts,((p.1+1+1:Nat):Int),pr,p.2) (p.1+1+1,p.2) _ rfl rfl g1 hb
  ·rw[if_neg (show ¬t.2.1=(⟨#[101,110,118]⟩:ByteArray) from k4),if_neg k4]
   simp only[qTc g hl (show(2:Int)≠5 by decide),j0]
   cases h1:qQo ts 2 (p.1+1) with
   |inl z=>rfl
   |inr a=>
    obtain⟨rfl,g1,-⟩:=qNq hok (by decide) g h1
    simp only[jV,qBl,j0]
    by_cases h2:(tkAt ts (p.1+1)).2.2.1≥64
    ·simp only[if_pos h2,j0];rfl
    ·simp only[if_neg h2,j0]
     exact fin (10,(tkAt ts (p.1+1)).2.2.1,⟨#[]⟩,[],ts,((p.1+1+1:Nat):Int),pr,p.2) (p.1+1+1,p.2) _ rfl rfl g1 hb
end
end
section
open Go Go.Dc
section
variable {N:Nat} {ts:List Tok} {pr:List ByteArray} {E S:Ps→PM Nat} {d:Int}
variable {r1:StT→Tok→Int→Option (Flt⊕(StT×Int))} {r2:StT→Int→Option (Flt⊕(StT×List Int))} {r3:StT→Int→Option (Flt⊕(StT×Int))} {r4:StT→Int→Int→Option (Flt⊕(StT×Int))} {r5:StT→Int→Option (Flt⊕(StT×Int))}
theorem kw_mem(x:ByteArray):(decide (x=(⟨#[114,101,97,100]⟩:ByteArray))||(decide (x=(⟨#[115,105,122,101]⟩:ByteArray))||(decide (x=(⟨#[104,97,115]⟩:ByteArray))||(decide (x=(⟨#[101,110,118]⟩:ByteArray))||decide (x=(⟨#[102,108,105,112]⟩:ByteArray))))))=decide (x∈[qVb,qUy,sHas,sEnv,qZl]):=by
 simp only[qVb,qUy,sHas,sEnv,qZl,jH,g9,or_false,Bool.decide_or]
theorem zHh(hok:OkT ts)(hl:ts.length<1000000)(hpr:pr.length<1000)(hN:300000<N)(hA:Adv ts E)(hE:∀p:Ps,p.1<ts.length→p.2.length≤256→r5 (stP ts pr p) (IntKind.wrap .i64 (d+1))=some (outP ts pr (E p)))
  (h1:∀(t:Tok) (p:Ps),p.1<ts.length→p.2.length≤256→r1 (stP ts pr p) t d=some (outP ts pr (qOa ts E t p)))
  (h2:∀p:Ps,p.1<ts.length→p.2.length≤256→r2 (stP ts pr p) d=some (outL ts pr (qKq ts E p)))
  (p:Ps) (hp:p.1<ts.length) (hb:p.2.length≤256):qFc N r1 r2 r3 r4 r5 (stP ts pr p) d=some (outP ts pr (qQh ts pr E p)):=by
 have hw:=qOf (show p.1<1000000 by omega)
 simp only[qFc,stP,qJd hp,j0,qQh]
 by_cases k1:(tkAt ts p.1).1=2
 ·rw[if_pos (show((tkAt ts p.1).1==2)=true by simpa using k1),if_pos k1,hw]
  simp only[qQl _ _ hb,j0]
  cases qNf (tkAt ts p.1) (1,(tkAt ts p.1).2.2.1,0,⟨#[]⟩,[]) (p.1+1,p.2)<;>rfl
 rw[if_neg (show ¬((tkAt ts p.1).1==2)=true by simpa using k1),if_neg k1]
 simp only[qNl hp hl,j0]
 rcases qLp (isC ts 4 zJr p.1) with c1|c1
 ·have c1':isC ts 4 ⟨#[45]⟩ p.1=true:=c1
  have g:=qGv hok hp (by decide) c1
  simp only[c1,c1',jU,qTc g hl (show(2:Int)≠5 by decide),j0]
  cases h:qQo ts 2 (p.1+1) with
  |inl z=>rfl
  |inr a=>
   simp only[jV,qDh,qQl _ _ hb,j0]
   cases qNf (tkAt ts p.1) (1,IntKind.wrap .i64 (0-a.2.2.2.1),0,⟨#[]⟩,[]) (a.1,p.2)<;>rfl
 have c1':isC ts 4 ⟨#[45]⟩ p.1=false:=c1
 simp only[c1,c1',jD,jS,qNl hp hl,j0]
 rcases qLp (isC ts 4 qUv p.1) with c2|c2
 ·have c2':isC ts 4 ⟨#[40]⟩ p.1=true:=c2
  have g:=qGv hok hp (by decide) c2
  have hEp:=hE (p.1+1,p.2) g hb
  simp only[stP] at hEp
  simp only[c2,c2',jU,hEp,j0]
  cases h:E (p.1+1,p.2) with
  |inl z=>rfl
  |inr q=>
   obtain⟨⟨f1,f2,f3,f4⟩,f5⟩:=hA (p.1+1,p.2) q.1 q.2 g hb h
   simp only[outP,jV,qDh,stP,qLb f2 hl,j0,qNe]
   cases qJv ts ⟨#[41]⟩ q.1.1<;>rfl
 have c2':isC ts 4 ⟨#[40]⟩ p.1=false:=c2
 simp only[c2,c2',jD,jS,qBl,j0]
 by_cases k2:(tkAt ts p.1).1=1
 rotate_left
 ·rw[if_pos (show((tkAt ts p.1).1 !=1)=true by simpa using k2),if_pos k2];rfl
 rw[if_neg (show ¬((tkAt ts p.1).1 !=1)=true by simpa using k2),if_neg (show ¬(tkAt ts p.1).1≠1 by simpa using k2)]
 have g:=hok.next hp (show(tkAt ts p.1).1≠5 by rw[k2];decide)
 simp only[j0,qHc,orS,kw_mem,hw]
 by_cases k3:(tkAt ts p.1).2.1∈[qVb,qUy,sHas,sEnv,qZl]
 ·rw[if_pos (show decide ((tkAt ts p.1).2.1∈[qVb,qUy,sHas,sEnv,qZl])=true from kF k3),if_pos k3]
  have h1p:=h1 (tkAt ts p.1) (p.1+1,p.2) g hb
  simp only[stP] at h1p
  simp only[h1p,j0]
  cases qOa ts E (tkAt ts p.1) (p.1+1,p.2)<;>rfl
 rw[if_neg (show ¬decide ((tkAt ts p.1).2.1∈[qVb,qUy,sHas,sEnv,qZl])=true by simpa using k3),if_neg k3]
 simp only[qUf,j0]
 rcases qLp (resC (tkAt ts p.1).2.1) with c3|c3
 ·simp only[c3,jU,j0];rfl
 simp only[c3,jD,jS,j0,zEe g]
 rcases qLp (isC ts 4 qUv (p.1+1)) with c4|c4
 ·have c4':isC ts 4 ⟨#[40]⟩ (p.1+1)=true:=c4
  have h2p:=h2 (p.1+1,p.2) g hb
  simp only[stP] at h2p
  simp only[c4,c4',jU,h2p,j0]
  cases h:qKq ts E (p.1+1,p.2) with
  |inl z=>rfl
  |inr q=>
   obtain⟨f1,f2,f3,f4⟩:=qQc hok hA (p:=(p.1+1,p.2)) g hb h
   simp only[outL,jV,qDh,stP,qQl _ _ f4,j0]
   cases qNf (tkAt ts p.1) (3,0,0,(tkAt ts p.1).2.1,q.2) (q.1.1,q.1.2)<;>rfl
 have c4':isC ts 4 ⟨#[40]⟩ (p.1+1)=false:=c4
 simp only[c4,c4',jD,jS,zBz (N:=N) (l:=pr) (s:=(tkAt ts p.1).2.1) (by omega) (by omega),j0]
 cases pr.findIdx? (fun x=>decide (x=(tkAt ts p.1).2.1)) with
 |none=>rfl
 |some j=>
  simp only[j9]
  rw[if_neg (by omega)]
  simp only[j0,qQl _ _ hb]
  cases qNf (tkAt ts p.1) (2,(j:Int),0,⟨#[]⟩,[]) (p.1+1,p.2)<;>rfl
theorem zIh(h3:∀p:Ps,p.1<ts.length→p.2.length≤256→r3 (stP ts pr p) d=some (outP ts pr (S p)))(p:Ps)(hp:p.1<ts.length)(hb:p.2.length≤256):
  qCx N r1 r2 r3 r4 r5 (stP ts pr p) 4 d=some (outP ts pr (S p)):=by
 have h3p:=h3 p hp hb
 simp only[stP] at h3p
 simp only[qCx,stP,h3p,j0]
 cases S p<;>rfl
theorem qYr(hok:OkT ts)(hl:ts.length<1000000)(hS:Adv ts S){L:Nat}(hL:L<4)(h4:∀p:Ps,p.1<ts.length→p.2.length≤256→r4 (stP ts pr p) ((L:Int)+1) d=some (outP ts pr (S p))):
  ∀(n M x:Nat) (p:Ps),p.1<ts.length→p.2.length≤256→x<p.2.length→ts.length<p.1+n→ts.length<p.1+M→
  qBf (qEq N r4 (L:Int) d) M ((x:Int),ts,(p.1:Int),pr,p.2)=some (outP ts pr (zDp ts L S n x p))
 |0,M,x,p,hp,_,_,h,_=>by omega
 |n+1,0,x,p,hp,_,_,_,h=>by omega
 |n+1,M+1,x,p,hp,hb,hx,hn,hM=>by
  have hw:=qOf (show p.1<1000000 by omega)
  have hwL:IntKind.wrap .i64 ((L:Int)+1)=(L:Int)+1:=wi64 (by omega) (by omega)
  simp only[qBf,qEq,zDp,zBe hp,j0]
  by_cases k1:opC ts L p.1=0
  ·rw[if_pos (show(opC ts L p.1==0)=true by simpa using k1),if_pos k1];rfl
  rw[if_neg (show ¬(opC ts L p.1==0)=true by simpa using k1),if_neg k1]
  have hk:(tkAt ts p.1).1≠5:=by
   intro hk
   apply k1
   unfold opC
   have:opsC.find? (isOp ts L p.1)=none:=by
    rw[List.find?_eq_none]
    intro o _ ho
    simp only[isOp,jO] at ho
    have:=qXu ho.1
    omega
   rw[this]
  have g:=hok.next hp hk
  have h4p:=h4 (p.1+1,p.2) g hb
  simp only[stP] at h4p
  simp only[qJd hp,j0,hw,hwL,h4p]
  cases h:S (p.1+1,p.2) with
  |inl z=>rfl
  |inr q=>
   obtain⟨⟨f1,f2,f3,f4⟩,f5⟩:=hS (p.1+1,p.2) q.1 q.2 g hb h
   simp only[outP,jV,qDh,stP,qQl _ _ f4,j0]
   cases hn2:qNf (tkAt ts p.1) (4,0,opC ts L p.1,⟨#[]⟩,[(x:Int),(q.2:Int)]) (q.1.1,q.1.2) with
   |inl z=>rfl
   |inr r=>
    obtain⟨⟨k1,k2,k3,k4⟩,k5⟩:=qMl (ts:=ts) (p:=p) (r:=(q.1.1,q.1.2)) (by simp only at f1 ⊢;omega) f2 f3 f4 hn2
    simp only[jV]
    by_cases k6:L=1
    ·subst k6
     rfl
    ·rw[if_neg (show ¬((L:Int)==1)=true by simp;omega),if_neg k6]
     simp only[j0]
     exact qYr hok hl hS hL h4 n M r.2 r.1 k2 k4 k5 (by omega) (by omega)
theorem qXg(hok:OkT ts)(hl:ts.length<1000000)(hN:1000001<N)(hS:Adv ts S){L:Nat}(hL:L<4)(h4:∀p:Ps,p.1<ts.length→p.2.length≤256→r4 (stP ts pr p) ((L:Int)+1) d=some (outP ts pr (S p)))
  (p:Ps) (hp:p.1<ts.length) (hb:p.2.length≤256):qCx N r1 r2 r3 r4 r5 (stP ts pr p) (L:Int) d=some (outP ts pr (qVk ts L S p)):=by
 have hwL:IntKind.wrap .i64 ((L:Int)+1)=(L:Int)+1:=wi64 (by omega) (by omega)
 have h4p:=h4 p hp hb
 simp only[stP] at h4p
 simp only[qCx,stP,qVk,hwL,h4p,j0]
 rw[if_neg (show ¬((L:Int)==4)=true by simp;omega)]
 cases h:S p with
 |inl z=>rfl
 |inr q=>
  obtain⟨⟨f1,f2,f3,f4⟩,f5⟩:=hS p q.1 q.2 hp hb h
  simp only[outP,jV,qDh,stP]
  rw[qYr hok hl hS hL h4 (ts.length+1) N q.2 q.1 f2 f4 f5 (by omega) (by omega)]
  rfl
theorem expr_B{k:Nat}(hok:OkT ts)(hl:ts.length<1000000)(hd:d+k=32)(hk:k<33)(hA:Adv ts (qJf ts pr k))(hE:∀p:Ps,p.1<ts.length→p.2.length≤256→r5 (stP ts pr p) (IntKind.wrap .i64 (d+1))=some (outP ts pr (qJf ts pr k p)))
  (h4:∀p:Ps,p.1<ts.length→p.2.length≤256→r4 (stP ts pr p) 1 d=some (outP ts pr (qTa ts pr (qJf ts pr k) p)))
  (p:Ps) (hp:p.1<ts.length) (hb:p.2.length≤256):qDq N r1 r2 r3 r4 r5 (stP ts pr p) d=some (outP ts pr (qJf ts pr (k+1) p)):=by
 have hw:=qOf (show p.1<1000000 by omega)
 simp only[qDq,stP,qJd hp,j0,qJf]
 rw[if_neg (show ¬decide (d>32)=true by simp only[j9];omega)]
 simp only[j0,zEe hp]
 rcases qLp (isC ts 1 sIf p.1) with c1|c1
 rotate_left
 ·have c1':isC ts 1 ⟨#[105,102]⟩ p.1=false:=c1
  have h4p:=h4 p hp hb
  simp only[stP] at h4p
  simp only[c1,c1',gT,jU,jD,jS,h4p,j0]
  cases qTa ts pr (qJf ts pr k) p<;>rfl
 have c1':isC ts 1 ⟨#[105,102]⟩ p.1=true:=c1
 have g:=qGv hok hp (by decide) c1
 have hEa:=hE (p.1+1,p.2) g hb
 simp only[stP] at hEa
 simp only[c1,c1',kW,jU,jD,jS,hw,hEa,j0]
 cases ha:qJf ts pr k (p.1+1,p.2) with
 |inl z=>rfl
 |inr a=>
  obtain⟨⟨a1,a2,a3,a4⟩,a5⟩:=hA (p.1+1,p.2) a.1 a.2 g hb ha
  simp only[outP,jV,qDh,stP,zBh a2 hl,j0,zHi]
  cases hi:qUu ts ⟨#[116,104,101,110]⟩ a.1.1 with
  |inl z=>rfl
  |inr i=>
   obtain⟨rfl,g1,-⟩:=qPr hok a2 hi
   have hEb:=hE (a.1.1+1,a.1.2) g1 a4
   simp only[stP] at hEb
   simp only[jV,hEb,j0]
   cases hb1:qJf ts pr k (a.1.1+1,a.1.2) with
   |inl z=>rfl
   |inr b=>
    obtain⟨⟨b1,b2,b3,b4⟩,b5⟩:=hA (a.1.1+1,a.1.2) b.1 b.2 g1 a4 hb1
    simp only[outP,jV,qDh,stP,zBh b2 hl,j0,zId]
    cases hj:qUu ts ⟨#[101,108,115,101]⟩ b.1.1 with
    |inl z=>rfl
    |inr j=>
     obtain⟨rfl,g2,-⟩:=qPr hok b2 hj
     have hEc:=hE (b.1.1+1,b.1.2) g2 b4
     simp only[stP] at hEc
     simp only[jV,hEc,j0]
     cases hc1:qJf ts pr k (b.1.1+1,b.1.2) with
     |inl z=>rfl
     |inr c=>
      obtain⟨⟨c1,c2,c3,c4⟩,c5⟩:=hA (b.1.1+1,b.1.2) c.1 c.2 g2 b4 hc1
      simp only[outP,jV,qDh,stP,qQl _ _ c4,j0]
      cases qNf (tkAt ts p.1) (5,0,0,⟨#[]⟩,[(a.2:Int),(b.2:Int),(c.2:Int)]) (c.1.1,c.1.2)<;>rfl
theorem zKk(hd:d>32)(p:Ps)(hp:p.1<ts.length):qDq N r1 r2 r3 r4 r5 (stP ts pr p) d=some (outP ts pr (qJf ts pr 0 p)):=by
 simp only[qDq,stP,qJd hp,j0,qJf]
 rw[if_pos (show decide (d>32)=true by simpa using hd)]
 rfl
theorem zFa(hok:OkT ts)(hl:ts.length<1000000)(hpr:pr.length<1000)(hN:1000001<N)(ht:∀j,(tkAt ts j).2.1.size<100000):∀(k D:Nat),k≤32→7*k+1≤D→∀p:Ps,p.1<ts.length→p.2.length≤256→
  (qAc N D).2.2.2.2 (stP ts pr p) (33-(k:Int))=some (outP ts pr (qJf ts pr k p))
 |0,0,_,h,_,_,_=>by omega
 |0,D+1,_,_,p,hp,_=>by simp only[qAc];exact zKk (by omega) p hp
 |k+1,D,hk,hD,p,hp,hb=>by
  have hA:=qLu (ts:=ts) (params:=pr) hok k
  have hF:=qTw (params:=pr) hok hA
  have hT:Adv ts (zKp ts pr (qJf ts pr k)):=qNj hok hF
  have hS:Adv ts (sumC ts pr (qJf ts pr k)):=qNj hok hT
  have hE:∀D,7*k+1≤D→∀p:Ps,p.1<ts.length→p.2.length≤256→(qAc N D).2.2.2.2 (stP ts pr p) (IntKind.wrap .i64 (32-(k:Int)+1))=some (outP ts pr (qJf ts pr k p)):=by
   intro D hD p hp hb
   rw[wi64 (by omega) (by omega),show 32-(k:Int)+1=33-(k:Int) by omega]
   exact zFa hok hl hpr hN ht k D (by omega) hD p hp hb
  have h1:∀D,7*k+2≤D→∀(t:Tok) (p:Ps),p.1<ts.length→p.2.length≤256→(qAc N D).1 (stP ts pr p) t (32-(k:Int))=some (outP ts pr (qOa ts (qJf ts pr k) t p)):=by
   intro D hD t p hp hb
   obtain⟨D',rfl⟩:∃D',D=D'+1:=⟨D-1,by omega⟩
   simp only[qAc]
   exact zEm hok hl (by omega) ht hA (hE D' (by omega)) t p hp hb
  have h2:∀D,7*k+2≤D→∀p:Ps,p.1<ts.length→p.2.length≤256→(qAc N D).2.1 (stP ts pr p) (32-(k:Int))=some (outL ts pr (qKq ts (qJf ts pr k) p)):=by
   intro D hD p hp hb
   obtain⟨D',rfl⟩:∃D',D=D'+1:=⟨D-1,by omega⟩
   simp only[qAc]
   exact zBl hok hl (by omega) hA (hE D' (by omega)) p hp hb
  have h3:∀D,7*k+3≤D→∀p:Ps,p.1<ts.length→p.2.length≤256→(qAc N D).2.2.1 (stP ts pr p) (32-(k:Int))=some (outP ts pr (qQh ts pr (qJf ts pr k) p)):=by
   intro D hD p hp hb
   obtain⟨D',rfl⟩:∃D',D=D'+1:=⟨D-1,by omega⟩
   simp only[qAc]
   exact zHh hok hl hpr (by omega) hA (hE D' (by omega)) (h1 D' (by omega)) (h2 D' (by omega)) p hp hb
  have b4:∀D,7*k+4≤D→∀p:Ps,p.1<ts.length→p.2.length≤256→(qAc N D).2.2.2.1 (stP ts pr p) 4 (32-(k:Int))=some (outP ts pr (qQh ts pr (qJf ts pr k) p)):=by
   intro D hD p hp hb
   obtain⟨D',rfl⟩:∃D',D=D'+1:=⟨D-1,by omega⟩
   simp only[qAc]
   exact zIh (h3 D' (by omega)) p hp hb
  have b3:∀D,7*k+5≤D→∀p:Ps,p.1<ts.length→p.2.length≤256→(qAc N D).2.2.2.1 (stP ts pr p) 3 (32-(k:Int))=some (outP ts pr (zKp ts pr (qJf ts pr k) p)):=by
   intro D hD p hp hb
   obtain⟨D',rfl⟩:∃D',D=D'+1:=⟨D-1,by omega⟩
   simp only[qAc]
   exact qXg hok hl hN hF (L:=3) (by omega) (b4 D' (by omega)) p hp hb
  have b2:∀D,7*k+6≤D→∀p:Ps,p.1<ts.length→p.2.length≤256→(qAc N D).2.2.2.1 (stP ts pr p) 2 (32-(k:Int))=some (outP ts pr (sumC ts pr (qJf ts pr k) p)):=by
   intro D hD p hp hb
   obtain⟨D',rfl⟩:∃D',D=D'+1:=⟨D-1,by omega⟩
   simp only[qAc]
   exact qXg hok hl hN hT (L:=2) (by omega) (b3 D' (by omega)) p hp hb
  have b1:∀D,7*k+7≤D→∀p:Ps,p.1<ts.length→p.2.length≤256→(qAc N D).2.2.2.1 (stP ts pr p) 1 (32-(k:Int))=some (outP ts pr (qTa ts pr (qJf ts pr k) p)):=by
   intro D hD p hp hb
   obtain⟨D',rfl⟩:∃D',D=D'+1:=⟨D-1,by omega⟩
   simp only[qAc]
   exact qXg hok hl hN hS (L:=1) (by omega) (b2 D' (by omega)) p hp hb
  obtain⟨D',rfl⟩:∃D',D=D'+1:=⟨D-1,by omega⟩
  rw[show(33:Int)-((k+1:Nat):Int)=32-(k:Int) by omega]
  simp only[qAc]
  exact expr_B hok hl (by omega) (by omega) hA (hE D' (by omega)) (b1 D' (by omega)) p hp hb
theorem zKq(hok:OkT ts)(hl:ts.length<1000000)(hpr:pr.length<1000)(hN:1000001<N)(ht:∀j,(tkAt ts j).2.1.size<100000)(p:Ps)(hp:p.1<ts.length)(hb:p.2.length≤256):
  qKk N (ts,(p.1:Int),pr,p.2) 1=some (outP ts pr (qJf ts pr 32 p)):=by
 have:=zFa hok hl hpr hN ht 32 N (by omega) (by omega) p hp hb
 exact this
end
end
section
open Go Go.Dc
section
variable {N:Nat} {ts:List Tok} {pr:List ByteArray} {b:List Ex}
theorem qTu(h:OkT ts):∀(n:Nat) (l:List ByteArray) (i:Nat) (a:Nat×List ByteArray),i<ts.length→l.length≤8→qUg ts n l i= .inr a→i<a.1∧a.1<ts.length∧a.2.length≤8
 |0,_,_,_,_,_,h1=>by cases h1
 |n+1,l,i,a,hi,hl,h1=>by
  obtain⟨x,hx,h2⟩:=qBy (show qDh (qRk ts i) _=_ from h1)
  obtain⟨rfl,g1,-⟩:=qMc h hi hx
  split at h2
  ·cases h2
  rename_i k1
  split at h2
  ·cases h2
  split at h2
  ·rename_i k3
   have g2:=qGv h g1 (by decide) k3
   obtain⟨j1,j2,j3⟩:=qTu h n _ _ a g2 (by simp only[jI,jA,jB];omega) h2
   exact⟨by omega,j2,j3⟩
  ·obtain⟨j,hj,h3⟩:=qBy h2
   obtain⟨rfl,g2,-⟩:=qFz h g1 hj
   obtain rfl:=Sum.inr.inj h3
   exact⟨by simp only;omega,g2,by simp only[jI,jA,jB];omega⟩
theorem qPj(h:OkT ts){i:Nat}{a:Nat×List ByteArray}(hi:i<ts.length)(h1:qJi ts i= .inr a):i<a.1∧a.1<ts.length∧a.2.length≤8:=by
 obtain⟨j,hj,h2⟩:=qBy h1
 obtain⟨rfl,g,-⟩:=qFz h hi hj
 split at h2
 ·rename_i k
  obtain rfl:=Sum.inr.inj h2
  exact⟨by simp only;omega,qGv h g (by decide) k,by simp⟩
 ·obtain⟨j1,j2,j3⟩:=qTu h _ _ _ a g (by simp) h2
  exact⟨by omega,j2,j3⟩
theorem qTi(hok:OkT ts)(hl:ts.length<1000000)(hN:1000000<N):∀(n M:Nat) (l:List ByteArray) (i:Nat),i<ts.length→l.length≤8→ts.length<i+n→ts.length<i+M→
  ((qBf (qDj N) M (l,ts,(i:Int),pr,b)).bind fun out1=>(match out1 with| .inl o1=>(qBi N (o1.2.1,o1.2.2.1,o1.2.2.2.1,o1.2.2.2.2) (⟨#[41]⟩:ByteArray)).bind fun y12=>(match y12 with| .inl z5=>some (.inl z5)| .inr y13=>some (.inr ((y13.1,y13.2.1,y13.2.2.1,y13.2.2.2),o1.1)))| .inr (z)=>some z))=some (Sum.map id (fun a:Nat×List ByteArray=>((ts,(a.1:Int),pr,b),a.2)) (qUg ts n l i))
 |0,M,l,i,hi,_,h,_=>by omega
 |n+1,0,l,i,hi,_,_,h=>by omega
 |n+1,M+1,l,i,hi,hll,hn,hM=>by
  simp only[qBf,qDj,qUg,qXe hi hl,j0]
  cases hx:qRk ts i with
  |inl z=>rfl
  |inr x=>
   obtain⟨rfl,g1,-⟩:=qMc hok hi hx
   simp only[jV,qDh,qBl,j0]
   by_cases k1:l.length=8
   ·rw[if_pos (show((l.length:Int)==8)=true by simp;omega),if_pos k1];rfl
   rw[if_neg (show ¬((l.length:Int)==8)=true by simp;omega),if_neg k1]
   simp only[j0,qTh (N:=N) (l:=l) (s:=(tkAt ts i).2.1) (by omega) (by omega)]
   by_cases k2:(tkAt ts i).2.1∈l
   ·rw[if_pos (kF k2),if_pos k2];rfl
   rw[if_neg (show ¬decide ((tkAt ts i).2.1∈l)=true by simpa using k2),if_neg k2]
   simp only[j0]
   rw[qCq (by simp only[jA,jB];omega) (by omega)]
   simp only[j0,qNl g1 hl,qVl]
   rcases qLp (isC ts 4 ⟨#[44]⟩ (i+1)) with hc|hc
   ·have g:=qGv hok g1 (by decide) hc
    simp only[hc,jU,kW,jD,jS,j0]
    exact qTi hok hl hN n M _ (i+1+1) g (by simp only[jI,jA,jB];omega) (by omega) (by omega)
   ·simp only[hc,jD,jS,gT,jU,j0,qLb g1 hl,qNe]
    cases qJv ts ⟨#[41]⟩ (i+1)<;>rfl
theorem qXd(hok:OkT ts)(hl:ts.length<1000000)(hN:1000000<N){i:Nat}(hi:i<ts.length):
  qDd N (ts,(i:Int),pr,b)=some (Sum.map id (fun a:Nat×List ByteArray=>((ts,(a.1:Int),pr,b),a.2)) (qJi ts i)):=by
 simp only[qDd,qLb hi hl,j0,qJi,qUv]
 cases h:qJv ts ⟨#[40]⟩ i with
 |inl z=>rfl
 |inr j=>
  obtain⟨rfl,g,-⟩:=qFz hok hi h
  simp only[jV,qDh,qNl g hl,j0,qNe]
  rcases qLp (isC ts 4 ⟨#[41]⟩ (i+1)) with hc|hc
  ·simp only[hc,jU];rfl
  ·simp only[hc,jD,jS]
   exact qTi hok hl hN (ts.length+1) N [] (i+1) g (by simp) (by omega) (by omega)
def zCh:List (ByteArray×Int):=[(⟨#[102,117,110,99]⟩,1),(⟨#[103,101,110]⟩,3),(⟨#[116,101,115,116]⟩,2)]
theorem zIq:((qIi (some []:Option (List (ByteArray×Int))) (⟨#[102,117,110,99]⟩:ByteArray) 1).bind fun mp1=>(qIi mp1 (⟨#[116,101,115,116]⟩:ByteArray) 2).bind fun mp2=>qIi mp2 (⟨#[103,101,110]⟩:ByteArray) 3)=some (some zCh):=by kernel_rfl
theorem zBx(s:ByteArray):((qAl (some zCh) s).getD 0)=qLh s:=by
 simp only[qAl,zCh,j0,mget,qLh,zHw,zIl,sGen]
 by_cases h1:s=⟨#[102,117,110,99]⟩
 ·simp[h1]
 by_cases h2:s=⟨#[116,101,115,116]⟩
 ·subst h2;rfl
 by_cases h3:s=⟨#[103,101,110]⟩
 ·subst h3;rfl
 simp[h1,h2,h3]
theorem qVd{before:List Dl}{y1:StT×Tok}{o4:List Tok×Int×List ByteArray×List Ex×Int×ByteArray×Int×Int}(hl:before.length≤64):∀(d i M:Nat),i+d=before.length→d<M→
  ((qBf (qEe N before (some zCh) y1 o4) M (i:Int)).bind fun out1=>(match out1 with| .inl o6=>some (-1)| .inr (z)=>some z):Option Int)=some (match(before.drop i).findIdx? (fun d=>d.1==qLh y1.2.2.1&&decide (d.2.1=o4.2.2.2.2.2.1)) with|some j=>((i+j:Nat):Int)|none=> -1)
 |d,i,0,_,h=>by omega
 |0,i,M+1,h,_=>by
  have:before.drop i=[]:=k0 (by omega)
  simp only[qBf,qEe,this,List.findIdx?_nil]
  rw[if_neg (by simp only[j9];omega)]
  rfl
 |d+1,i,M+1,h,hM=>by
  have hi:i<before.length:=by omega
  have ih:=qVd (y1:=y1) (o4:=o4) hl d (i+1) M (by omega) (by omega)
  simp only[qBf,qEe]
  rw[if_pos (by simp only[j9];omega),qFw hi,jT hi,List.findIdx?_cons]
  simp only[j0,qHc,zBx]
  by_cases k1:(before[i].1==qLh y1.2.2.1)=true
  ·by_cases k2:before[i].2.1=o4.2.2.2.2.2.1
   ·simp[k1,k2]
   ·simp only[k1,k2,jU,decide_false,j0,jD,jS,qOf (show i<1000000 by omega),Bool.and_false]
    rw[ih]
    cases(before.drop (i+1)).findIdx? (fun d=>d.1==qLh y1.2.2.1&&decide (d.2.1=o4.2.2.2.2.2.1)) with
    |none=>rfl
    |some j=>simp only[jX];rw[show i+1+j=i+(j+1) by omega]
  ·simp only[k1,jD,jS,j0,qOf (show i<1000000 by omega),Bool.false_and]
   rw[ih]
   cases(before.drop (i+1)).findIdx? (fun d=>d.1==qLh y1.2.2.1&&decide (d.2.1=o4.2.2.2.2.2.1)) with
   |none=>rfl
   |some j=>simp only[jX];rw[show i+1+j=i+(j+1) by omega]
theorem qUi(h:OkT ts){before:List Dl}{i:Nat}{a:Nat×Dl}(hi:i<ts.length)(h1:qZd ts before i= .inr a):i<a.1∧a.1<ts.length∧before.length≠64:=by
 unfold qZd at h1
 dsimp only at h1
 split at h1
 ·cases h1
 rename_i k1
 split at h1
 ·cases h1
 rename_i k2
 have g:=h.next hi (show(tkAt ts i).1≠5 by intro e;apply k1;left;rw[e];decide)
 obtain⟨x,hx,h2⟩:=qBy h1
 have gx:x.1=i+1+1∧x.1<ts.length:=by
  split at hx
  ·obtain⟨rfl,g1,-⟩:=qMj h g hx;exact⟨rfl,g1⟩
  ·obtain⟨rfl,g1,-⟩:=qMc h g hx;exact⟨rfl,g1⟩
 split at h2
 ·cases h2
 obtain⟨y,hy,h3⟩:=qBy h2
 have gy:x.1≤y.1∧y.1<ts.length:=by
  split at hy
  ·obtain⟨g1,g2,-⟩:=qPj h gx.2 hy;exact⟨by omega,g2⟩
  ·obtain rfl:=Sum.inr.inj hy;exact⟨jL _,gx.2⟩
 obtain⟨j,hj,h4⟩:=qBy h3
 obtain⟨rfl,g3,-⟩:=qFz h gy.2 hj
 obtain⟨c,hc,h5⟩:=qBy h4
 obtain⟨⟨f1,f2,f3,f4⟩,-⟩:=qLu h 32 (y.1+1,[]) c.1 c.2 g3 (by simp) hc
 obtain⟨m,hm,h6⟩:=qBy h5
 obtain⟨rfl,g4,-⟩:=qFz h f2 hm
 obtain rfl:=Sum.inr.inj h6
 exact⟨by simp only at f1 ⊢;omega,g4,k2⟩
theorem zLc{before:List Dl}{f:Dl→Bool}:(decide ((match before.findIdx? f with|some j=>((0+j:Nat):Int)|none=> -1)≥0))=before.any f:=by
 have:=List.findIdx?_isSome (xs:=before) (p:=f)
 rw[←this]
 cases before.findIdx? f with
 |none=>rfl
 |some j=>simp only[Option.isSome_some];exact kF (by omega)
end
end
section
open Go Go.Dc
section
variable {N:Nat} {ts:List Tok} {pr:List ByteArray} {b:List Ex}
theorem zKg(hok:OkT ts)(hl:ts.length<1000000)(hN:1000001<N)(ht:∀j,(tkAt ts j).2.1.size<100000){before:List Dl}(hb:before.length≤64){i:Nat}(hi:i<ts.length):
  qGn N (ts,(i:Int),pr,b) before=some (Sum.map id (fun a:Nat×Dl=>((ts,(a.1:Int),a.2.2.2.1,a.2.2.2.2),a.2)) (qZd ts before i)):=by
 have hw:=qOf (show i<1000000 by omega)
 unfold qGn
 obtain⟨mp1,hm1,hm⟩:=jG.1 zIq
 obtain⟨mp2,hm2,hm3⟩:=jG.1 hm
 rw[hm1];simp only[j0]
 rw[hm2];simp only[j0]
 rw[hm3];simp only[j0,qJd hi,zBx,qBl,qZd]
 by_cases k1:(tkAt ts i).1≠1∨qLh (tkAt ts i).2.1=0
 ·rw[if_pos k1]
  have:((if((tkAt ts i).1 !=1)=true then some true else some (qLh (tkAt ts i).2.1==0)):Option Bool)=some true:=by
   rcases k1 with h|h
   ·simp[h]
   ·simp[h]
  rw[this];rfl
 rw[if_neg k1]
 have k1a:(tkAt ts i).1=1:=by
  apply Decidable.byContradiction
  intro h;exact k1 (.inl h)
 have k1b:¬qLh (tkAt ts i).2.1=0:=fun h=>k1 (.inr h)
 have:((if((tkAt ts i).1 !=1)=true then some true else some (qLh (tkAt ts i).2.1==0)):Option Bool)=some false:=by simp[k1a,k1b]
 rw[this]
 simp only[j0,jD,jS]
 by_cases k2:before.length=64
 ·rw[if_pos (show((before.length:Int)==64)=true by simp;omega),if_pos k2];rfl
 rw[if_neg (show ¬((before.length:Int)==64)=true by simp;omega),if_neg k2]
 have g:=hok.next hi (show(tkAt ts i).1≠5 by rw[k1a];decide)
 simp only[j0,hw]
 have hx:(if(qLh (tkAt ts i).2.1==3)=true then((qCy N (ts,((i+1:Nat):Int),pr,b)).bind fun y6=>(match y6 with| .inl z3=>some (.inr (.inl z3))| .inr y7=>some (.inl (y7.1.1,y7.1.2.1,y7.1.2.2.1,y7.1.2.2.2,y7.2.1,y7.2.2.1,y7.2.2.2.1,y7.2.2.2.2)))) else((qDa N (ts,((i+1:Nat):Int),pr,b)).bind fun y8=>(match y8 with| .inl z4=>some (.inr (.inl z4))| .inr y9=>some (.inl (y9.1.1,y9.1.2.1,y9.1.2.2.1,y9.1.2.2.2,y9.2.1,y9.2.2.1,y9.2.2.2.1,y9.2.2.2.2)))):Option ((List Tok×Int×List ByteArray×List Ex×Int×ByteArray×Int×Int)⊕(Flt⊕(StT×Dl))))=
   some (match(if qLh (tkAt ts i).2.1=3 then qSc ts (i+1) else qRk ts (i+1)) with| .inl z=> .inr (.inl z)| .inr a=> .inl (ts,(a.1:Int),pr,b,a.2.1,a.2.2.1,a.2.2.2.1,a.2.2.2.2)):=by
  by_cases k3:qLh (tkAt ts i).2.1=3
  ·rw[if_pos (show(qLh (tkAt ts i).2.1==3)=true by simpa using k3),if_pos k3,qXi g hl (by omega) ht]
   cases qSc ts (i+1)<;>rfl
  ·rw[if_neg (show ¬(qLh (tkAt ts i).2.1==3)=true by simpa using k3),if_neg k3,qXe g hl]
   cases qRk ts (i+1)<;>rfl
 refine Eq.trans (congrArg (fun z=>Option.bind z _) hx) ?_
 simp only[j0]
 cases hX:(if qLh (tkAt ts i).2.1=3 then qSc ts (i+1) else qRk ts (i+1)) with
 |inl z=>rfl
 |inr x=>
  have gx:x.1=i+1+1∧x.1<ts.length:=by
   split at hX
   ·obtain⟨rfl,g1,-⟩:=qMj hok g hX;exact⟨rfl,g1⟩
   ·obtain⟨rfl,g1,-⟩:=qMc hok g hX;exact⟨rfl,g1⟩
  simp only[qDh]
  have hT:=qVd (N:=N) (before:=before) (y1:=((ts,(i:Int),pr,b),tkAt ts i)) (o4:=(ts,(x.1:Int),pr,b,x.2.1,x.2.2.1,x.2.2.2.1,x.2.2.2.2)) hb before.length 0 N (by omega) (by omega)
  simp only[kJ] at hT
  refine Eq.trans (congrArg (fun z=>Option.bind z _) hT) ?_
  simp only[j0,zLc]
  rcases qLp (before.any fun d=>d.1==qLh (tkAt ts i).2.1&&decide (d.2.1=x.2.2.1)) with k4|k4
  ·simp only[k4,jU];rfl
  simp only[k4,jD,jS,j0]
  have hp:(if(qLh (tkAt ts i).2.1==1)=true then((qDd N (ts,(x.1:Int),pr,b)).bind fun y12=>(match y12 with| .inl z6=>some (.inr (.inl z6))| .inr y13=>some (.inl (y13.2,y13.1.1,y13.1.2.1,y13.1.2.2.1,y13.1.2.2.2)))) else(some (.inl (([]:List (ByteArray)),ts,(x.1:Int),pr,b))):Option ((List ByteArray×StT)⊕(Flt⊕(StT×Dl))))=
    some (match(if qLh (tkAt ts i).2.1=1 then qJi ts x.1 else .inr (x.1,[])) with| .inl z=> .inr (.inl z)| .inr a=> .inl (a.2,ts,(a.1:Int),pr,b)):=by
   by_cases k5:qLh (tkAt ts i).2.1=1
   ·rw[if_pos (show(qLh (tkAt ts i).2.1==1)=true by simpa using k5),if_pos k5,qXd hok hl (by omega) gx.2]
    cases qJi ts x.1<;>rfl
   ·rw[if_neg (show ¬(qLh (tkAt ts i).2.1==1)=true by simpa using k5),if_neg k5]
  refine Eq.trans (congrArg (fun z=>Option.bind z _) hp) ?_
  simp only[j0]
  cases hY:(if qLh (tkAt ts i).2.1=1 then qJi ts x.1 else .inr (x.1,[]):Flt⊕(Nat×List ByteArray)) with
  |inl z=>rfl
  |inr y=>
   have gy:x.1≤y.1∧y.1<ts.length∧y.2.length≤8:=by
    split at hY
    ·obtain⟨g1,g2,g3⟩:=qPj hok gx.2 hY;exact⟨by omega,g2,g3⟩
    ·obtain rfl:=Sum.inr.inj hY;exact⟨jL _,gx.2,by simp⟩
   simp only[qLb gy.2.1 hl,j0,sEq]
   cases hj:qJv ts ⟨#[61]⟩ y.1 with
   |inl z=>rfl
   |inr j=>
    obtain⟨rfl,g3,-⟩:=qFz hok gy.2.1 hj
    have he:=zKq (N:=N) (pr:=y.2) hok hl (by omega) hN ht (y.1+1,[]) g3 (by simp)
    simp only at he
    simp only[jV,he,j0]
    cases hc:qJf ts y.2 32 (y.1+1,[]) with
    |inl z=>rfl
    |inr c=>
     obtain⟨⟨f1,f2,f3,f4⟩,-⟩:=qLu hok 32 (y.1+1,[]) c.1 c.2 g3 (by simp) hc
     simp only[outP,jV,stP,qLb f2 hl,j0,zDz]
     cases qJv ts ⟨#[59]⟩ c.1.1<;>rfl
theorem qSe(hok:OkT ts)(hl:ts.length<1000000)(hN:1000000<N){y4:StT×Tok}:∀(n M:Nat) (l:List ByteArray) (i:Nat),i<ts.length→l.length≤8→ts.length<i+n→ts.length<i+M→
  qBf (qFs N y4) M (ts,(i:Int),pr,b,l)=some (match qNr ts y4.2.2.1 n l i with| .inl z=> .inr (.inl z)| .inr a=> .inl (ts,(a.1:Int),pr,b,a.2))
 |0,M,l,i,hi,_,h,_=>by omega
 |n+1,0,l,i,hi,_,_,h=>by omega
 |n+1,M+1,l,i,hi,hll,hn,hM=>by
  have hw:=qOf (show i<1000000 by omega)
  simp only[qBf,qFs,qNr,zEe hi,j0,qWu]
  rcases qLp (isC ts 1 ⟨#[105,109,112,111,114,116]⟩ i) with k1|k1
  rotate_left
  ·simp only[k1,jD,jS,j0]
  have g:=qGv hok hi (by decide) k1
  simp only[k1,jU]
  by_cases k2:l.length=8
  ·rw[if_pos (show((l.length:Int)==8)=true by simp;omega),if_pos k2]
   simp only[qJd hi,j0,qBl];rfl
  rw[if_neg (show ¬((l.length:Int)==8)=true by simp;omega),if_neg k2]
  simp only[j0,hw,qXe g hl]
  cases hx:qRk ts (i+1) with
  |inl z=>rfl
  |inr x=>
   obtain⟨rfl,g1,-⟩:=qMc hok g hx
   simp only[jV,qDh,qBl,j0,qHc,qTh (N:=N) (l:=l) (s:=(tkAt ts (i+1)).2.1) (by omega) (by omega)]
   by_cases k3:(tkAt ts (i+1)).2.1=y4.2.2.1∨(tkAt ts (i+1)).2.1∈l
   ·rw[if_pos k3]
    have:((if decide ((tkAt ts (i+1)).2.1=y4.2.2.1)=true then some true else some (decide ((tkAt ts (i+1)).2.1∈l))):Option Bool)=some true:=by
     rcases k3 with h|h
     ·rw[if_pos (kF h)]
     ·rw[kF h];split<;>rfl
    rw[this];rfl
   rw[if_neg k3]
   have:((if decide ((tkAt ts (i+1)).2.1=y4.2.2.1)=true then some true else some (decide ((tkAt ts (i+1)).2.1∈l))):Option Bool)=some false:=by
    rw[if_neg (by simp only[j9];exact fun h=>k3 (.inl h)),gE (fun h=>k3 (.inr h))]
   rw[this]
   simp only[j0,jD,jS]
   rw[qCq (by simp only[jA,jB];omega) (by omega)]
   simp only[j0,qLb g1 hl,zDz]
   cases hj:qJv ts ⟨#[59]⟩ (i+1+1) with
   |inl z=>rfl
   |inr j=>
    obtain⟨rfl,g2,-⟩:=qFz hok g1 hj
    exact qSe hok hl hN n M _ (i+1+1+1) g2 (by simp only[jI,jA,jB];omega) (by omega) (by omega)
theorem qPh(h:OkT ts){pkg:ByteArray}:∀(n:Nat) (l:List ByteArray) (i:Nat) (a:Nat×List ByteArray),i<ts.length→l.length≤8→qNr ts pkg n l i= .inr a→i≤a.1∧a.1<ts.length∧a.2.length≤8
 |0,_,_,_,_,_,h1=>by cases h1
 |n+1,l,i,a,hi,hl,h1=>by
  unfold qNr at h1
  split at h1
  ·rename_i k
   have g:=qGv h hi (by decide) k
   split at h1
   ·cases h1
   rename_i k2
   obtain⟨x,hx,h2⟩:=qBy h1
   obtain⟨rfl,g1,-⟩:=qMc h g hx
   split at h2
   ·cases h2
   obtain⟨j,hj,h3⟩:=qBy h2
   obtain⟨rfl,g2,-⟩:=qFz h g1 hj
   obtain⟨j1,j2,j3⟩:=qPh h n _ _ a g2 (by simp only[jI,jA,jB];omega) h3
   exact⟨by omega,j2,j3⟩
  ·obtain rfl:=Sum.inr.inj h1
   exact⟨jL _,hi,hl⟩
theorem qVf(hok:OkT ts)(hl:ts.length<1000000)(hN:1000001<N)(ht:∀j,(tkAt ts j).2.1.size<100000):∀(n M:Nat) (l:List Dl) (i:Nat) (pr:List ByteArray) (b:List Ex),i<ts.length→l.length≤64→ts.length<i+n→ts.length<i+M→
  match qTk ts n l i with
  | .inl z=>qBf (qCu N) M (ts,(i:Int),pr,b,l)=some (.inr (.inl z))
  | .inr a=>∃i' pr' b',qBf (qCu N) M (ts,(i:Int),pr,b,l)=some (.inl (ts,i',pr',b',a))
 |0,M,l,i,_,_,hi,_,h,_=>by omega
 |n+1,0,l,i,_,_,hi,_,_,h=>by omega
 |n+1,M+1,l,i,pr,b,hi,hll,hn,hM=>by
  have e1:qBf (qCu N) (M+1) (ts,(i:Int),pr,b,l)=(if(tkAt ts i).1=5 then some (.inl (ts,(i:Int),pr,b,l)) else
    match qZd ts l i with
    | .inl z=>some (.inr (.inl z))
    | .inr a=>qBf (qCu N) M (ts,(a.1:Int),a.2.2.2.1,a.2.2.2.2,l++[a.2])):=by
   simp only[qBf,qCu,qJd hi,j0,zKg hok hl hN ht hll hi]
   by_cases k1:(tkAt ts i).1=5
   ·rw[if_neg (show ¬((tkAt ts i).1 !=5)=true by simpa using k1),if_pos k1];rfl
   ·rw[if_pos (show((tkAt ts i).1 !=5)=true by simpa using k1),if_neg k1]
    cases hd:qZd ts l i with
    |inl z=>rfl
    |inr a=>
     obtain⟨g1,g2,g3⟩:=qUi hok hi hd
     simp only[jV]
     rw[qCq (by simp only[jA,jB];omega) (by omega)]
     rfl
  rw[e1]
  simp only[qTk]
  by_cases k1:(tkAt ts i).1=5
  ·simp only[if_pos k1];exact⟨_,_,_,rfl⟩
  ·simp only[if_neg k1]
   cases hd:qZd ts l i with
   |inl z=>rfl
   |inr a=>
    obtain⟨g1,g2,g3⟩:=qUi hok hi hd
    exact qVf hok hl hN ht n M (l++[a.2]) a.1 _ _ g2 (by simp only[jI,jA,jB];omega) (by omega) (by omega)
theorem zLd(hok:OkT ts)(hl:ts.length<1000000)(hN:1000001<N)(ht:∀j,(tkAt ts j).2.1.size<100000):
  match zEc ts with
  | .inl z=>qFu N (ts,0,pr,b)=some (.inl z)
  | .inr f=>∃i' pr' b',qFu N (ts,0,pr,b)=some (.inr ((ts,i',pr',b'),f)):=by
 have h0:0<ts.length:=List.length_pos_iff.2 hok.1
 simp only[qFu,zEc]
 rw[show(0:Int)=((0:Nat):Int) from rfl]
 simp only[zBh h0 hl,j0,qSv]
 cases h1:qUu ts ⟨#[112,97,99,107,97,103,101]⟩ 0 with
 |inl z=>rfl
 |inr i=>
  obtain⟨rfl,g1,-⟩:=qPr hok h0 h1
  simp only[jV,qDh,qXe g1 hl,j0]
  cases h2:qRk ts (0+1) with
  |inl z=>rfl
  |inr x=>
   obtain⟨rfl,g2,-⟩:=qMc hok g1 h2
   simp only[jV,qLb g2 hl,j0,zDz]
   cases h3:qJv ts ⟨#[59]⟩ (0+1+1) with
   |inl z=>rfl
   |inr j=>
    obtain⟨rfl,g3,-⟩:=qFz hok g2 h3
    simp only[jV,qSe hok hl (by omega:1000000<N) (ts.length+1) N [] (0+1+1+1) g3 (by simp) (by omega) (by omega),j0]
    cases h4:qNr ts (tkAt ts (0+1)).2.1 (ts.length+1) [] (0+1+1+1) with
    |inl z=>rfl
    |inr y=>
     obtain⟨k1,k2,k3⟩:=qPh hok _ _ _ y g3 (by simp) h4
     have hd:=qVf (N:=N) hok hl hN ht (ts.length+1) N [] y.1 pr b k2 (by simp) (by omega) (by omega)
     simp only[]
     cases h5:qTk ts (ts.length+1) [] y.1 with
     |inl z=>
      rw[h5] at hd
      simp only[hd,j0]
     |inr l=>
      rw[h5] at hd
      obtain⟨i',pr',b',hd⟩:=hd
      refine⟨i',pr',b',?_⟩
      simp only[hd,j0]
end
theorem zCb{s:ByteArray}:∀(l:List Tok) (e:Int),0≤e→zJt s e l→∀i,i<l.length→((tkAt l i).1=5↔i+1=l.length)∧((tkAt l i).2.1.size:Int)≤s.size∧0≤(tkAt l i).2.2.2
 |[],_,_,_,i,hi=>by simp at hi
 |t::r,e,he,h,i,hi=>by
  obtain⟨h1,h2,h3,h4,h5⟩:=h
  have hend:0≤endT t:=by unfold endT;split<;>omega
  cases i with
  |zero=>
   refine⟨?_,?_,?_⟩
   ·show t.1=5↔0+1=r.length+1
    rw[h3,←List.length_eq_zero_iff];omega
   ·show((t.2.1.size:Nat):Int)≤s.size
    omega
   ·show 0≤t.2.2.2
    omega
  |succ i=>
   have:=zCb r _ hend h5 i (by simpa using hi)
   have e:tkAt (t::r) (i+1)=tkAt r i:=by simp[tkAt]
   rw[e,jA]
   exact⟨⟨fun h=>by have:=this.1.1 h;omega,fun h=>this.1.2 (by omega)⟩,this.2⟩
theorem qWe{s:ByteArray}(h:(qGy s).2.2=0):OkT (qGy s).1∧(qGy s).1.length≤16385∧∀j,(tkAt (qGy s).1 j).2.1.size<100000:=by
 unfold qGy at h ⊢
 split at h
 ·simp at h
 rename_i hs
 rw[if_neg hs]
 cases hG:tokG (s.data.toList.length+1) s 0 with
 |inl x=>
  obtain⟨_,_,h3⟩:=qXf _ 0 x (by omega) (by omega) hG
  rw[hG] at h
  exact absurd h h3
 |inr r=>
  obtain⟨g1,g2,g3⟩:=qSa _ 0 0 r (by omega) (by omega) (by omega) hG
  simp only[zHk,jZ]
  have hc:=zCb r 0 (by omega) g1
  refine⟨⟨g2,fun i hi=>(hc i hi).1⟩,by omega,fun j=> ?_⟩
  rcases fJ j r.length with hj|hj
  ·have:=(hc j hj).2.1
   have hs2:=qCc s
   omega
  ·have e:tkAt r j=(5,⟨#[]⟩,0,0):=by simp[tkAt,k9,List.getElem?_eq_none hj]
   rw[e];decide
theorem zIj{N:Nat}(s:ByteArray)(hN:1000001<N):qKy N s=some (qKd s):=by
 simp only[qKy,zEv (N:=N) (by omega),j0,qKd]
 by_cases h:(qGy s).2.2=0
 ·rw[if_neg (show ¬((qGy s).2.2 !=0)=true by simpa using h),if_neg (show ¬(qGy s).2.2≠0 by simpa using h)]
  obtain⟨h1,h2,h3⟩:=qWe h
  have hf:=zLd (N:=N) (pr:=[]) (b:=[]) h1 (by omega) hN h3
  cases hF:zEc (qGy s).1 with
  |inl z=>
   rw[hF] at hf
   simp only[hf,j0];rfl
  |inr f=>
   rw[hF] at hf
   obtain⟨i',pr',b',hf⟩:=hf
   simp only[hf,j0]
 ·rw[if_pos (show((qGy s).2.2 !=0)=true by simpa using h),if_pos h];rfl
end
section
open Go Go.Dc Go.Proofs
def qTx{α τ:Type}(g:Nat→τ→α→τ):Nat→τ→List α→τ
 |_,t,[]=>t
 |i,t,x::l=>qTx g (i+1) (g i t x) l
theorem qVq{α τ σ β:Type}{L:List α}(enc:τ→Nat→σ){f:σ→Option (σ⊕β)}(g:Nat→τ→α→τ)(fin:τ→β)
  (hstep:∀t i,∀hi:i<L.length,f (enc t i)=some (.inl (enc (g i t L[i]) (i+1))))
  (hfin:∀t,f (enc t L.length)=some (.inr (fin t))):∀(d i M:Nat) (t:τ),i+d=L.length→d<M→qBf f M (enc t i)=some (fin (qTx g i t (L.drop i)))
 |_,_,0,_,_,h=>absurd h (kN _)
 |0,i,M+1,t,h1,h2=>by
  have hi:i=L.length:=by omega
  subst hi
  simp only[qBf,hfin t,j0,fU,qTx]
 |d+1,i,M+1,t,h1,h2=>by
  have hi:i<L.length:=by omega
  simp only[qBf,hstep t i hi,j0]
  rw[qVo hi]
  exact qVq enc g fin hstep hfin d (i+1) M _ (by omega) (by omega)
abbrev Ent:=ByteArray×ByteArray×Int×ByteArray×Int×Int
abbrev K3:=Int×ByteArray×ByteArray
abbrev Occ:=ByteArray×ByteArray×Int×ByteArray×Int
def keyC(kind:Int)(pkg name:ByteArray):K3:=(kind,if kind=3 then qRi else pkg,name)
def okey(o:Occ):K3:=keyC o.2.2.1 o.1 o.2.1
def qIc(M:List (K3×Ent))(o:Occ):List (K3×Ent):=
 mset M (okey o) (match mget M (okey o) with
  |some x=>(x.1,x.2.1,x.2.2.1,x.2.2.2.1,x.2.2.2.2.1,IntKind.wrap .i64 (x.2.2.2.2.2+1))
  |none=>(o.1,o.2.1,o.2.2.1,o.2.2.2.1,o.2.2.2.2,1))
def qRm(path pkg:ByteArray):Nat→List Dl→List Occ
 |_,[]=>[]
 |i,d::l=>(pkg,d.2.1,d.1,path,(i:Int))::qRm path pkg (i+1) l
def qSt(f:File):Bool:=qDi f.1&&decide ((qKd f.2).2.2=0)
def qFi(L:List File):List (ByteArray×Sr):=(L.filter qSt).map fun f=>(f.1,(qKd f.2).1)
def qHy(L:List File):List ByteArray:=(L.filter fun f=>qDi f.1&& !decide ((qKd f.2).2.2=0)).map (·.1)
def qKu(l:List (ByteArray×Sr)):List Occ:=l.flatMap fun x=>qRm x.1 x.2.1 0 x.2.2.2
abbrev Wld:=List File×Bool×Option (List (ByteArray×Sr))×List ByteArray×Option (List (K3×Ent))
def qUn(L:List File):Wld:=
 if qHr L=0 then(L,true,some ((qFi L).foldl (fun S x=>mset S x.1 x.2) []),qHy L,some ((qKu (qFi L)).foldl qIc [])) else(L,false,some [],[],some [])
theorem qWa(path pkg:ByteArray):∀(l:List Dl) (i:Nat) (M:List (K3×Ent)),
  qTx (fun i M (d:Dl)=>qIc M (pkg,d.2.1,d.1,path,(i:Int))) i M l=(qRm path pkg i l).foldl qIc M
 |[],_,_=>rfl
 |d::l,i,M=>by simp only[qTx,qRm,jP];exact qWa path pkg l (i+1) _
theorem qSl{N:Nat}(a:Int)(b c:ByteArray):qNn N a b c=some (keyC a b c):=by
 unfold qNn keyC
 by_cases h:a=3
 ·rw[if_pos (by simp[h]),if_pos h];rfl
 ·rw[if_neg (by simp[h]),if_neg h];rfl
theorem zDf{N:Nat}{x:File}{y:Sr×Int×Int}(hl:y.1.2.2.length<1000)(hN:1000<N)(M:List (K3×Ent)):
  qBf (qIg N x y) N (0,some M)=some (some ((qRm x.1 y.1.1 0 y.1.2.2).foldl qIc M)):=by
 have:=qVq (L:=y.1.2.2) (fun(M:List (K3×Ent)) i=>((i:Int),some M)) (f:=qIg N x y)
  (fun i M (d:Dl)=>qIc M (y.1.1,d.2.1,d.1,x.1,(i:Int))) (fun M=>some M) (by
   intro M i hi
   simp only[qIg]
   rw[if_pos (by simp only[j9];omega),qFw hi]
   simp only[j0,qSl]
   have ew:IntKind.wrap .i64 ((i:Int)+1)=((i+1:Nat):Int):=by rw[wi64 (by omega) (by omega)];omega
   simp only[ew]
   by_cases h:(qAl (some M) (keyC (y.1.2.2[i]).1 y.1.1 (y.1.2.2[i]).2.1)).isSome=true
   ·rw[if_pos h]
    unfold qIc okey
    simp only[qAl,qIi,j0,jX] at h ⊢
    obtain⟨v,hv⟩:=fI.1 h
    rw[hv];rfl
   ·rw[if_neg h]
    unfold qIc okey
    simp only[qAl,qIi,j0,jX] at h ⊢
    rw[show mget M (keyC (y.1.2.2[i]).1 y.1.1 (y.1.2.2[i]).2.1)=none by simpa using h]) (by
   intro M
   simp only[qIg]
   rw[if_neg (by simp)]) y.1.2.2.length 0 N M (by omega) (by omega)
 rw[kJ,qWa] at this
 exact this
theorem qVp{ts:List Tok}(h:OkT ts):∀(n:Nat) (l:List Dl) (i:Nat) {r:List Dl},l.length≤64→i<ts.length→qTk ts n l i= .inr r→r.length≤64
 |0,_,_,_,_,_,h1=>by cases h1
 |n+1,l,i,r,hl,hi,h1=>by
  unfold qTk at h1
  split at h1
  ·cases h1;exact hl
  obtain⟨x,hx,h2⟩:=qBy h1
  obtain⟨-,g2,g3⟩:=qUi h hi hx
  exact qVp h n _ _ (by simp;omega) g2 h2
theorem qVw{s:ByteArray}:(qKd s).1.2.2.length≤64:=by
 unfold qKd
 by_cases h0:(qGy s).2.2=0
 ·rw[if_neg (not_not_intro h0)]
  obtain⟨hok,hlen,hsz⟩:=qWe h0
  have hpos:0<(qGy s).1.length:=by
   cases h:(qGy s).1 with
   |nil=>exact absurd h hok.1
   |cons a l=>exact Nat.succ_pos _
  cases hf:zEc (qGy s).1 with
  |inl z=>exact kY _
  |inr f=>
   simp only
   unfold zEc at hf
   obtain⟨i,h1,hf⟩:=qBy hf
   obtain⟨rfl,g1,-⟩:=qPr hok hpos h1
   obtain⟨a,h2,hf⟩:=qBy hf
   obtain⟨rfl,g2,-⟩:=qMc hok g1 h2
   obtain⟨j,h3,hf⟩:=qBy hf
   obtain⟨rfl,g3,-⟩:=qFz hok g2 h3
   obtain⟨b,h4,hf⟩:=qBy hf
   obtain⟨-,k2,-⟩:=qPh hok _ _ _ b g3 (by simp) h4
   obtain⟨l,h5,hf⟩:=qBy hf
   have:=qVp hok _ _ _ (by simp) k2 h5
   cases hf
   exact this
 ·rw[if_pos h0];exact kY _
def newF(t:List ByteArray×List (ByteArray×Sr)×List (K3×Ent))(f:File):List ByteArray×List (ByteArray×Sr)×List (K3×Ent):=
 if qDi f.1=false then t
 else if(qKd f.2).2.2=0 then(t.1,mset t.2.1 f.1 (qKd f.2).1,(qRm f.1 (qKd f.2).1.1 0 (qKd f.2).1.2.2).foldl qIc t.2.2)
 else(t.1++[f.1],t.2)
theorem qRe:∀(L:List File) (B:List ByteArray) (S:List (ByteArray×Sr)) (M:List (K3×Ent)),
  L.foldl newF (B,S,M)=(B++qHy L,(qFi L).foldl (fun S x=>mset S x.1 x.2) S,(qKu (qFi L)).foldl qIc M)
 |[],B,S,M=>by simp[qHy,qFi,qKu]
 |f::L,B,S,M=>by
  rw[jP]
  by_cases h1:qDi f.1=true
  ·by_cases h2:(qKd f.2).2.2=0
   ·have e:newF (B,S,M) f=(B,mset S f.1 (qKd f.2).1,(qRm f.1 (qKd f.2).1.1 0 (qKd f.2).1.2.2).foldl qIc M):=by
     unfold newF;rw[if_neg (by simp[h1]),if_pos h2]
    have el:qFi (f::L)=(f.1,(qKd f.2).1)::qFi L:=by
     unfold qFi;rw[kA,if_pos (show qSt f=true by simp[qSt,h1,h2])];rfl
    have eb:qHy (f::L)=qHy L:=by
     unfold qHy;rw[kA,if_neg (by simp[h2])]
    rw[e,qRe L,el,eb]
    simp only[jP,qKu,k7,List.foldl_append]
   ·have e:newF (B,S,M) f=(B++[f.1],S,M):=by
     unfold newF;rw[if_neg (by simp[h1]),if_neg h2]
    have el:qFi (f::L)=qFi L:=by
     unfold qFi;rw[kA,if_neg (by simp[qSt,h2])]
    have eb:qHy (f::L)=f.1::qHy L:=by
     unfold qHy;rw[kA,if_pos (by simp[h1,h2])];rfl
    rw[e,qRe L,el,eb]
    simp
  ·have h1:qDi f.1=false:=by simpa using h1
   have e:newF (B,S,M) f=(B,S,M):=by unfold newF;rw[if_pos h1]
   have el:qFi (f::L)=qFi L:=by
    unfold qFi;rw[kA,if_neg (by simp[qSt,h1])]
   have eb:qHy (f::L)=qHy L:=by
    unfold qHy;rw[kA,if_neg (by simp[h1])]
   rw[e,qRe L,el,eb]
theorem zDq{N:Nat}{L:List File}(hP:qLc N L)(hl:L.length≤64)(hN:1000001<N):
  qBf (qIe N L) N (0,[],some [],some [])=some (qHy L,some ((qFi L).foldl (fun S x=>mset S x.1 x.2) []),some ((qKu (qFi L)).foldl qIc [])):=by
 have h:=qWm (L:=L) (fun(t:List ByteArray×List (ByteArray×Sr)×List (K3×Ent)) (i:Nat)=>((i:Int),t.1,some t.2.1,some t.2.2)) (f:=qIe N L)
  (fun t f=> .inl (newF t f)) (fun t=>(t.1,some t.2.1,some t.2.2)) (fun i t=>t.1.length≤i) (by
   intro t i hi hI
   simp only[qIe]
   rw[if_pos (by simp only[j9];omega),qFw hi]
   have ew:IntKind.wrap .i64 ((i:Int)+1)=((i+1:Nat):Int):=by rw[wi64 (by omega) (by omega)];omega
   have hs:=zAz (N:=N) (hP _ (kI hi))
   simp only[j0,hs,zIj _ hN,ew]
   unfold newF
   by_cases h1:qDi (L[i]).1=true
   ·by_cases h2:(qKd (L[i]).2).2.2=0
    ·rw[if_neg (by simp[h1]),if_neg (by simp[h2]),if_neg (by simp[h1]),if_pos h2,zDf (by have:=qVw (s:=(L[i]).2);omega) (by omega)]
     simp only[qIi,jX,j0]
    ·rw[if_neg (by simp[h1]),if_pos (by simpa using h2),if_neg (by simp[h1]),if_neg h2,qCq (by simp only[jA,jB];omega) (by omega)]
     simp only[j0]
   ·have h1:qDi (L[i]).1=false:=by simpa using h1
    rw[if_pos (by simp[h1]),if_pos h1]
    simp only[j0]) (by
   intro t i hi t' hI h
   cases h
   unfold newF
   split
   ·omega
   ·split
    ·exact Nat.le_succ_of_le hI
    ·simp only[jI,jA,jB];omega) (by
   intro t hI
   simp only[qIe]
   rw[if_neg (by simp)]) (M:=N) (t:=([],[],[])) (by omega) (kY _)
 rw[show((0:Nat):Int)=0 from rfl] at h
 rw[h,qXo newF (fun _ _=>rfl),qRe]
 simp only[jZ]
theorem zBy{N:Nat}{L:List File}(hP:qLc N L)(hN:1000001<N):qKw N L=some (qUn L):=by
 simp only[qKw,zIo hP (show 100<N by omega),j0]
 unfold qUn
 by_cases hc:qHr L=0
 ·rw[if_neg (by simp[hc]),if_pos hc,zDq hP (qJu.1 hc).1 hN]
  simp only[j0,hc];rfl
 ·rw[if_pos (by simpa using hc),if_neg hc]
  simp only[show(qHr L==0)=false by simpa using hc]
def seeE(kind:Int)(pkg name:ByteArray)(e:Ent)(o:Occ):Ent:=
 if okey o=keyC kind pkg name then(if e.2.2.2.2.2=0 then(o.1,name,kind,o.2.2.2.1,o.2.2.2.2,1) else(e.1,e.2.1,e.2.2.1,e.2.2.2.1,e.2.2.2.2.1,e.2.2.2.2.2+1)) else e
def noE(kind:Int)(pkg name:ByteArray):Ent:=(if kind=3 then qRi else pkg,name,kind,qRi,0,0)
def entE(O:List Occ)(kind:Int)(pkg name:ByteArray):Ent:=O.foldl (seeE kind pkg name) (noE kind pkg name)
theorem qPp{k k':Int}{p p' n n':ByteArray}(h:keyC k p n=keyC k' p' n'):k=k'∧n=n'∧(k=3∨p=p'):=by
 simp only[keyC,Prod.mk.injEq] at h
 obtain⟨rfl,h2,h3⟩:=h
 refine⟨rfl,h3,?_⟩
 by_cases h:k=3
 ·exact .inl h
 ·rw[if_neg h,if_neg h] at h2;exact .inr h2
def MapE(M:List (K3×Ent))(O:List Occ):Prop:=
 (M.map (·.1)).Nodup∧∀kind pkg name,mget M (keyC kind pkg name)=if(entE O kind pkg name).2.2.2.2.2=0 then none else some (entE O kind pkg name)
theorem qWi(kind:Int)(pkg name:ByteArray):∀(O:List Occ),0≤(entE O kind pkg name).2.2.2.2.2∧(entE O kind pkg name).2.2.2.2.2≤O.length∧((entE O kind pkg name).2.2.2.2.2=0→entE O kind pkg name=noE kind pkg name):=by
 suffices h:∀(O:List Occ) (e:Ent) (b:Nat),0≤e.2.2.2.2.2∧e.2.2.2.2.2≤b∧(e.2.2.2.2.2=0→e=noE kind pkg name)→
   0≤(O.foldl (seeE kind pkg name) e).2.2.2.2.2∧(O.foldl (seeE kind pkg name) e).2.2.2.2.2≤(b+O.length:Nat)∧((O.foldl (seeE kind pkg name) e).2.2.2.2.2=0→O.foldl (seeE kind pkg name) e=noE kind pkg name) by
  intro O
  have:=h O (noE kind pkg name) 0 ⟨Int.le_refl _,Int.le_refl _,fun _=>rfl⟩
  rw[kM] at this
  exact this
 intro O
 induction O with
 |nil=>intro e b h;exact h
 |cons o O ih=>
  intro e b h
  rw[jP]
  have:=ih (seeE kind pkg name e o) (b+1) (by
   unfold seeE
   split
   ·split
    ·exact⟨(by show(0:Int)≤1;decide),by show(1:Int)≤_;omega,fun h=>by simp at h⟩
    ·rename_i hc
     refine⟨by show(0:Int)≤e.2.2.2.2.2+1;omega,by show e.2.2.2.2.2+1≤_;omega,fun h1=> ?_⟩
     have h1:e.2.2.2.2.2+1=0:=h1
     omega
   ·exact⟨h.1,by omega,h.2.2⟩)
  rw[jA,show b+(O.length+1)=b+1+O.length by omega]
  exact this
theorem MapE.step{M:List (K3×Ent)}{O:List Occ}(h:MapE M O)(hO:O.length<1000000)(o:Occ):MapE (qIc M o) (O++[o]):=by
 refine⟨qKr h.1 _ _,fun kind pkg name=> ?_⟩
 have hb:=qWi kind pkg name O
 have hE:entE (O++[o]) kind pkg name=seeE kind pkg name (entE O kind pkg name) o:=by
  unfold entE;rw[List.foldl_append];rfl
 unfold qIc
 rw[qNb h.1,hE]
 by_cases hk:keyC kind pkg name=okey o
 ·rw[if_pos hk,←hk,h.2 kind pkg name]
  unfold seeE
  rw[if_pos hk.symm]
  obtain⟨e1,e2,e3⟩:=qPp hk
  by_cases hc:(entE O kind pkg name).2.2.2.2.2=0
  ·rw[if_pos hc,if_pos hc,if_neg (show ¬(1:Int)=0 by decide),←e1,←e2]
  ·rw[if_neg hc,if_neg hc,if_neg (show ¬(entE O kind pkg name).2.2.2.2.2+1=0 by omega)]
   simp only[wi64 (show-9223372036854775808≤(entE O kind pkg name).2.2.2.2.2+1 by omega) (by omega)]
 ·have hs:seeE kind pkg name (entE O kind pkg name) o=entE O kind pkg name:=by unfold seeE;rw[if_neg (fun e=>hk e.symm)]
  rw[if_neg hk,h.2 kind pkg name,hs]
theorem MapE.fold{O:List Occ}(hO:O.length<1000000):MapE (O.foldl qIc []) O:=by
 suffices h:∀(K:List Occ) (M:List (K3×Ent)) (J:List Occ),J.length+K.length<1000000→MapE M J→MapE (K.foldl qIc M) (J++K) by
  have:=h O [] [] (by simpa using hO) ⟨gC,fun kind pkg name=>by rw[show(entE [] kind pkg name).2.2.2.2.2=0 from rfl,if_pos rfl];rfl⟩
  exact this
 intro K
 induction K with
 |nil=>intro M J _ h;rw[List.append_nil];exact h
 |cons o K ih=>
  intro M J hl h
  rw[jP,show J++o::K=(J++[o])++K by simp]
  simp only[jA] at hl
  exact ih _ _ (by simp;omega) (h.step (by omega) o)
theorem qYo(path pkg:ByteArray):∀(l:List Dl) (i:Nat),(qRm path pkg i l).length=l.length
 |[],_=>rfl
 |_::l,i=>by simp only[qRm,jA,qYo path pkg l]
theorem zFw{L:List File}{x:ByteArray×Sr}(h:x∈qFi L):∃f∈L,qSt f=true∧x=(f.1,(qKd f.2).1):=by
 unfold qFi at h
 obtain⟨f,hf,rfl⟩:=kX.1 h
 exact⟨f,(gX.1 hf).1,(gX.1 hf).2,rfl⟩
theorem qTj(L:List File):(qFi L).length≤L.length:=by
 unfold qFi;rw[kH];exact List.length_filter_le _ _
theorem qZs:∀(l:List (ByteArray×Sr)),(∀x∈l,x.2.2.2.length≤64)→(qKu l).length≤64*l.length
 |[],_=>jL _
 |x::l,h=>by
  have:=qZs l fun y hy=>h y (jK _ hy)
  have:=h x (jJ ..)
  unfold qKu at*
  rw[k7,jI,qYo,jA]
  omega
theorem qTp{L:List File}(hl:L.length≤64):(qKu (qFi L)).length<1000000:=by
 have:=qZs (qFi L) fun x hx=>by
  obtain⟨f,_,_,rfl⟩:=zFw hx
  exact qVw
 have:=qTj L
 omega
def zeroE:Ent:=(qRi,qRi,0,qRi,0,0)
def zIn(L:List File)(kind:Int)(pkg name:ByteArray):Ent:=if qHr L=0 then entE (qKu (qFi L)) kind pkg name else zeroE
theorem zJi{N:Nat}{L:List File}(kind:Int)(pkg name:ByteArray):qHt N (qUn L) kind pkg name=some (zIn L kind pkg name):=by
 unfold qHt qUn zIn
 by_cases hc:qHr L=0
 ·simp only[if_pos hc]
  rw[if_neg (by simp)]
  simp only[qSl,j0]
  have hM:=(MapE.fold (qTp (qJu.1 hc).1)).2 kind pkg name
  have hb:=qWi kind pkg name (qKu (qFi L))
  generalize hq:qAl (some ((qKu (qFi L)).foldl qIc [])) (keyC kind pkg name)=q
  have hq:q=if(entE (qKu (qFi L)) kind pkg name).2.2.2.2.2=0 then none else some (entE (qKu (qFi L)) kind pkg name):=hq.symm.trans hM
  by_cases h0:(entE (qKu (qFi L)) kind pkg name).2.2.2.2.2=0
  ·rw[if_pos h0] at hq
   subst hq
   rw[if_neg (by simp),hb.2.2 h0];rfl
  ·rw[if_neg h0] at hq
   subst hq
   rw[if_pos (show(some (entE (qKu (qFi L)) kind pkg name)).isSome=true from rfl)];rfl
 ·simp only[if_neg hc]
  rw[if_pos (show(!false)=true from rfl)];rfl
end
section
open Go Go.Dc Go.Proofs
theorem qUm{α τ σ β:Type}{L:List α}(enc:τ→Nat→σ){f:σ→Option (σ⊕β)}(g:Nat→τ→α→τ)(fin:τ→β)(I:Nat→τ→Prop)
  (hstep:∀t i,∀hi:i<L.length,I i t→f (enc t i)=some (.inl (enc (g i t L[i]) (i+1)))∧I (i+1) (g i t L[i]))
  (hfin:∀t,I L.length t→f (enc t L.length)=some (.inr (fin t))):∀(d i M:Nat) (t:τ),i+d=L.length→d<M→I i t→qBf f M (enc t i)=some (fin (qTx g i t (L.drop i)))∧I L.length (qTx g i t (L.drop i))
 |_,_,0,_,_,h,_=>absurd h (kN _)
 |0,i,M+1,t,h1,h2,h3=>by
  have hi:i=L.length:=by omega
  subst hi
  simp only[qBf,hfin t h3,j0,fU,qTx]
  exact⟨trivial,h3⟩
 |d+1,i,M+1,t,h1,h2,h3=>by
  have hi:i<L.length:=by omega
  obtain⟨k1,k2⟩:=hstep t i hi h3
  simp only[qBf,k1,j0]
  rw[qVo hi]
  exact qUm enc g fin I hstep hfin d (i+1) M _ (by omega) (by omega) k2
end
section
open Go Go.Dc
def Ok{α:Type}(x:Option α)(Q:α→Prop):Prop:=∃a,x=some a∧Q a
section
variable {α β γ:Type} {Q:β→Prop}
theorem Ok.mk{a:β}(h:Q a):Ok (some a) Q:=⟨a,rfl,h⟩
theorem Ok.bind{x:Option α}{P:α→Prop}{f:α→Option β}(h:Ok x P)(k:∀a,P a→Ok (f a) Q):Ok (x.bind f) Q:=by
 obtain⟨a,rfl,ha⟩:=h
 exact k a ha
theorem Ok.mono{x:Option β}{P:β→Prop}(h:Ok x P)(k:∀a,P a→Q a):Ok x Q:=by
 obtain⟨a,e,ha⟩:=h
 exact⟨a,e,k a ha⟩
theorem Ok.assoc{x:Option α}{g:α→Option γ}{f:γ→Option β}(h:Ok (x.bind fun a=>(g a).bind f) Q):Ok ((x.bind g).bind f) Q:=by
 rw[Option.bind_assoc];exact h
theorem Ok.ite{c:Prop}[Decidable c]{x y:Option β}(h1:c→Ok x Q)(h2:¬c→Ok y Q):Ok (if c then x else y) Q:=by
 by_cases h:c
 ·rw[if_pos h];exact h1 h
 ·rw[if_neg h];exact h2 h
theorem Ok.iteb{c:Prop}[Decidable c]{x y:Option α}{f:α→Option β}(h1:c→Ok (x.bind f) Q)(h2:¬c→Ok (y.bind f) Q):Ok ((if c then x else y).bind f) Q:=by
 by_cases h:c
 ·rw[if_pos h];exact h1 h
 ·rw[if_neg h];exact h2 h
theorem Ok.tt[Decidable (true=true)]{x y:Option β}(h:Ok x Q):Ok (if true=true then x else y) Q:=by rw[if_pos rfl];exact h
theorem Ok.ff[Decidable (false=true)]{x y:Option β}(h:Ok y Q):Ok (if false=true then x else y) Q:=by rw[if_neg gJ];exact h
theorem Ok.ttb[Decidable (true=true)]{x y:Option α}{f:α→Option β}(h:Ok (x.bind f) Q):Ok ((if true=true then x else y).bind f) Q:=by rw[if_pos rfl];exact h
theorem Ok.ffb[Decidable (false=true)]{x y:Option α}{f:α→Option β}(h:Ok (y.bind f) Q):Ok ((if false=true then x else y).bind f) Q:=by rw[if_neg gJ];exact h
theorem Ok.someb{a:α}{f:α→Option β}(h:Ok (f a) Q):Ok ((some a).bind f) Q:=h
theorem Ok.mapb{a:α}{g:α→γ}{f:γ→Option β}(h:Ok (f (g a)) Q):Ok (((some a).map g).bind f) Q:=h
theorem Ok.cat{x y:ByteArray}{f:ByteArray→Option β}(hs:x.size+y.size≤1000000000)(h:∀s:ByteArray,s.size=x.size+y.size→Ok (f s) Q):Ok ((catB x y).bind f) Q:=by
 unfold catB
 rw[if_pos (by simp only[maxLen];omega)]
 exact h _ (by simp)
theorem Ok.app{b:Nat}{l k:List α}{f:List α→Option β}(hs:(l.length+k.length)*b≤140737488355328)(hb:0<b)(h:Ok (f (l++k)) Q):Ok ((qEo b l k).bind f) Q:=by
 rw[qCq hs hb];exact h
theorem Ok.loop{σ:Type}{f:σ→Option (σ⊕α)}{g:α→Option β}{s:σ}{N:Nat}(I:σ→Prop)(μ:σ→Nat)(R:α→Prop)
  (h:∀s,I s→Ok (f s) fun r=>match r with| .inl s'=>I s'∧μ s'<μ s| .inr b=>R b) (hs:I s) (hN:μ s<N) (k:∀b,R b→Ok (g b) Q):Ok ((qBf f N s).bind g) Q:=by
 obtain⟨b,h1,h2⟩:=zCi I μ R (fun s hs=>by
  obtain⟨r,h1,h2⟩:=h s hs
  cases r with
  |inl s'=>exact .inr ⟨s',h1,h2.1,h2.2⟩
  |inr b=>exact .inl ⟨b,h1,h2⟩) N s hs hN
 rw[h1];exact k b h2
end
theorem qQk(a:Array UInt8):(⟨a⟩:ByteArray).size=a.size:=rfl
theorem zHn{N:Nat}{v n:Int}(hn:n≤9223372036854775807):∃r,qHd N v n=some r∧0≤r∧(1≤n→r<n):=by
 simp only[qHd]
 by_cases h:n≤1
 ·exact⟨0,by simp[h],by omega,by omega⟩
 ·have hne:n≠0:=by omega
  have h1:=Int.tmod_lt_of_pos v (show 0<n by omega)
  have h2:=Int.lt_tmod_of_pos v (show 0<n by omega)
  simp only[h,decide_false,jD,jS,remS,hne,j0]
  by_cases h3:Int.tmod v n<0
  ·refine⟨Int.tmod v n+n,?_,by omega,by omega⟩
   simp only[h3,decide_true,jU,j0]
   rw[wi64 (by omega) (by omega)]
  ·exact⟨Int.tmod v n,by simp only[h3,decide_false,jD,jS,j0],by omega,by omega⟩
theorem qSx{N:Nat}{l:List Int}{a n:Int}(h0:0≤a)(h1:a<4611686018427387904)(hn:n≤9223372036854775807):∃r,qBg N (l,a) n=some ((l,a+1),r)∧0≤r∧(1≤n→r<n):=by
 simp only[qBg]
 have hv:∃v,(if(decide (a<(List.length l:Int)))=true then((idx l a).bind fun x1=>some x1) else(some (Int.tmod (IntKind.wrap .i64 (a*7)) 11)):Option Int)=some v:=by
  by_cases h:a<(l.length:Int)
  ·exact⟨_,by simp only[h,decide_true,jU];rw[qXm h0 (by omega)];rfl⟩
  ·exact⟨_,by simp only[h,decide_false,jD,jS];rfl⟩
 obtain⟨v,hv⟩:=hv
 obtain⟨r,hr,h2,h3⟩:=zHn (N:=N) (v:=v) hn
 exact⟨r,by simp only[hv,j0,hr];rw[wi64 (by omega) (by omega)],h2,h3⟩
section
variable {β:Type} {Q:β→Prop} {N:Nat} {l:List Int} {a:Int}
theorem Ok.next{n:Int}{f:(List Int×Int)×Int→Option β}(h0:0≤a)(h1:a<4611686018427387904)(hn:1≤n)(hn2:n≤1000000)(h:∀r,0≤r→r<n→Ok (f ((l,a+1),r)) Q):Ok ((qBg N (l,a) n).bind f) Q:=by
 obtain⟨r,hr,g1,g2⟩:=qSx (N:=N) (l:=l) h0 h1 (show n≤9223372036854775807 by omega)
 rw[hr];exact h r g1 (g2 hn)
theorem Ok.chance{n m:Int}{f:(List Int×Int)×Bool→Option β}(h0:0≤a)(h1:a<4611686018427387904)(hn:1≤m)(hn2:m≤1000000)(h:∀r,Ok (f ((l,a+1),r)) Q):Ok ((qBe N (l,a) n m).bind f) Q:=by
 obtain⟨r,hr,g1,g2⟩:=qSx (N:=N) (l:=l) h0 h1 (show m≤9223372036854775807 by omega)
 simp only[qBe,hr,j0]
 exact h _
theorem Ok.one{L:List ByteArray}{f:(List Int×Int)×ByteArray→Option β}(h0:0≤a)(h1:a<4611686018427387904)(hL:0<L.length)(hL2:L.length<1000)(h:∀x∈L,Ok (f ((l,a+1),x)) Q):Ok ((qBa N (l,a) L).bind f) Q:=by
 obtain⟨r,hr,g1,g2⟩:=qSx (N:=N) (l:=l) h0 h1 (show(L.length:Int)≤9223372036854775807 by omega)
 have g2:=g2 (by omega)
 have hlt:r.toNat<L.length:=by omega
 simp only[qBa]
 rw[if_neg (by rw[kC];omega),hr]
 simp only[j0]
 rw[qXm g1 hlt]
 exact h _ (kI hlt)
theorem Ok.oneP{L:List ByteArray}{f:(List Int×Int)×ByteArray→Option β}(h0:0≤a)(h1:a<4611686018427387904)(hc:decide ((List.length L:Int)>0)=true)(hL2:L.length<1000)(hL3:∀x∈L,x.size≤12)(h:∀x:ByteArray,x.size≤12→Ok (f ((l,a+1),x)) Q):Ok ((qBa N (l,a) L).bind f) Q:=
 Ok.one h0 h1 (by have:=kL hc;omega) hL2 fun x hx=>h x (hL3 x hx)
theorem Ok.oneS{L:List ByteArray}{f:(List Int×Int)×ByteArray→Option β}(h0:0≤a)(h1:a<4611686018427387904)(hL:(decide (0<L.length)&&decide (L.length<1000)&&L.all fun x=>decide (x.size≤12))=true)(h:∀x:ByteArray,x.size≤12→Ok (f ((l,a+1),x)) Q):Ok ((qBa N (l,a) L).bind f) Q:=by
 simp only[jO,j9] at hL
 exact Ok.one h0 h1 hL.1.1 hL.1.2 fun x hx=>h x (by simpa using jN.1 hL.2 x hx)
theorem Ok.pick{L:List Int}{f:(List Int×Int)×Int→Option β}(h0:0≤a)(h1:a<4611686018427387904)(hL:0<L.length)(hL2:L.length<1000)(h:∀x∈L,Ok (f ((l,a+1),x)) Q):Ok ((qCh N (l,a) L).bind f) Q:=by
 obtain⟨r,hr,g1,g2⟩:=qSx (N:=N) (l:=l) h0 h1 (show(L.length:Int)≤9223372036854775807 by omega)
 have g2:=g2 (by omega)
 have hlt:r.toNat<L.length:=by omega
 simp only[qCh]
 rw[if_neg (by rw[kC];omega),hr]
 simp only[j0]
 rw[qXm g1 hlt]
 exact h _ (kI hlt)
theorem Ok.pickS{L:List Int}{f:(List Int×Int)×Int→Option β}(h0:0≤a)(h1:a<4611686018427387904)(hL:(decide (0<L.length)&&decide (L.length<1000)&&L.all fun x=>decide (0≤x∧x≤9007199254740992))=true)(h:∀x:Int,0≤x→x≤9007199254740992→Ok (f ((l,a+1),x)) Q):Ok ((qCh N (l,a) L).bind f) Q:=by
 simp only[jO,j9] at hL
 exact Ok.pick h0 h1 hL.1.1 hL.1.2 fun x hx=>by
  have:=jN.1 hL.2 x hx
  simp only[j9] at this
  exact h x this.1 this.2
theorem qXn:∀(k D:Nat) (x:Int),k<D→k≤100→0≤x→x<10^(k+1)→x≤9223372036854775806→Ok (qEj N D x) fun s=>s.size≤k+1
 |_,0,_,h,_,_,_,_=>absurd h (kN _)
 |k,D+1,x,hk,hk9,h0,h1,h2=>by
  show Ok (qDf N (qEj N D) x) _
  unfold qDf
  have hsz:ByteArray.size (⟨#[48,49,50,51,52,53,54,55,56,57]⟩:ByteArray)=10:=rfl
  by_cases hx:x<10
  ·rw[if_pos (by simpa using hx),wi64 (by omega) (by omega),qNi h0 (by omega) (by omega)]
   refine Ok.mk ?_
   simp only[ByteArray.size_extract,hsz];omega
  ·rw[if_neg (by simpa using hx)]
   obtain⟨k,rfl⟩:∃k',k=k'+1:=by
    cases k with
    |zero=>simp at h1;omega
    |succ k=>exact⟨k,rfl⟩
   obtain⟨D,rfl⟩:∃D',D=D'+1:=⟨D-1,by omega⟩
   have e1:Int.tdiv x 10=x/10:=Int.tdiv_eq_ediv_of_nonneg h0
   have e2:Int.tmod x 10=x%10:=Int.tmod_eq_emod_of_nonneg h0
   have hp:(10:Int)^(k+1+1)=10*10^(k+1):=by rw[Int.pow_succ];omega
   rw[e1,e2,wi64 (by omega) (by omega)]
   refine Ok.bind (qXn k (D+1) (x/10) (by omega) (by omega) (by omega) (by omega) (by omega)) fun s hs=> ?_
   refine Ok.bind (qXn 0 (D+1) (x%10) (by omega) (by omega) (by omega) (by simp;omega) (by omega)) fun t ht=> ?_
   exact Ok.cat (by omega) fun u hu=>Ok.mk (by omega)
theorem zGh{x:Int}(h0:0≤x)(h1:x≤9007199254740992)(hN:100<N):Ok (qEc N x) fun s=>s.size≤16:=
 qXn 15 N x (by omega) (by omega) h0 (by rw[show(10:Int)^(15+1)=10000000000000000 from by kernel_rfl];omega) (by omega)
theorem Ok.digits{x:Int}{f:ByteArray→Option β}(h0:0≤x)(h1:x≤9007199254740992)(hN:100<N)(h:∀s:ByteArray,s.size≤16→Ok (f s) Q):Ok ((qEc N x).bind f) Q:=Ok.bind (zGh h0 h1 hN) h
end
def qOd:Nat→Nat
 |0=>8
 |d+1=>3*qOd d+8
def qQv:Nat→Nat
 |0=>22
 |d+1=>3*qQv d+20
theorem zCa:∀d,22≤qQv d
 |0=>jL _
 |d+1=>by have:=zCa d;simp only[qQv];omega
section
variable {N:Nat} {l:List Int}
def qUc(N:Nat)(l:List Int)(E:(List Int×Int)→Int→List ByteArray→Option ((List Int×Int)×ByteArray))(d:Nat)(ps:List ByteArray):Prop:=
 ∀a:Int,0≤a→a+qOd d<2000000000000000000→Ok (E (l,a) (d:Int) ps) fun y=>∃a' s,y=((l,a'),s)∧a≤a'∧a'≤a+qOd d∧s.size≤qQv d
theorem Ok.expr{β:Type}{Q:β→Prop}{E:(List Int×Int)→Int→List ByteArray→Option ((List Int×Int)×ByteArray)}{d:Nat}{ps:List ByteArray}(hE:qUc N l E d ps){a:Int}{f:(List Int×Int)×ByteArray→Option β}(h0:0≤a)(h1:a+qOd d<2000000000000000000)
  (h:∀(a':Int) (s:ByteArray),a≤a'→a'≤a+qOd d→s.size≤qQv d→Ok (f ((l,a'),s)) Q):Ok ((E (l,a) (d:Int) ps).bind f) Q:=
 Ok.bind (hE a h0 h1) fun y hy=>by
  obtain⟨a',s,rfl,g1,g2,g3⟩:=hy
  exact h a' s g1 g2 g3
theorem qWo(d:Nat)(hd:d≤5):qOd d≤10000∧qQv d≤20000:=by
 match d,hd with
 |0,_=>decide
 |1,_=>decide
 |2,_=>decide
 |3,_=>decide
 |4,_=>decide
 |5,_=>decide
set_option maxHeartbeats 4000000 in
theorem zEt{E:(List Int×Int)→Int→List ByteArray→Option ((List Int×Int)×ByteArray)}{d:Nat}{ps:List ByteArray}(hd:d=0)(hps:ps.length<1000)(hps2:∀x∈ps,x.size≤12)(hN:100<N):qUc N l (qEb N E) d ps:=by
 subst hd
 intro a h0 h1
 have hc:qOd 0=8:=rfl
 have hz:qQv 0=22:=rfl
 simp only[qEb,hc,hz,qDb,qFb]
 rw[if_pos (show decide (((0:Nat):Int)≤0)=true by decide)]
 repeat' first
  |with_reducible apply Ok.tt
  |with_reducible apply Ok.ff
  |with_reducible apply Ok.ttb
  |with_reducible apply Ok.ffb
  |with_reducible apply Ok.assoc
  |((with_reducible apply Ok.iteb)<;>intro _)
  |((with_reducible apply Ok.ite)<;>intro _)
  |with_reducible apply Ok.someb
  |with_reducible apply Ok.mapb
  |((with_reducible refine Ok.mk ⟨_,_,rfl,?_,?_,?_⟩)<;>omega)
  |((with_reducible refine Ok.next ?_ ?_ ?_ ?_ (fun _ _ _=> ?_))<;>try omega)
  |((with_reducible refine Ok.chance ?_ ?_ ?_ ?_ (fun _=> ?_))<;>try omega)
  |((with_reducible refine Ok.pickS ?_ ?_ (by decide) (fun _ _ _=> ?_))<;>try omega)
  |((with_reducible refine Ok.oneP ?_ ?_ (by assumption) hps hps2 (fun _ _=> ?_))<;>try omega)
  |((with_reducible refine Ok.oneS ?_ ?_ (by decide) (fun _ _=> ?_))<;>try omega)
  |((with_reducible refine Ok.digits ?_ ?_ hN (fun _ _=> ?_))<;>try omega)
  |((with_reducible refine Ok.cat ?_ (fun _ h=> ?_))<;>simp only[qQk,jR,jA,jB,Nat.reduceAdd] at* <;>try omega)
  |((with_reducible refine Ok.cat ?_ (fun _ _=> ?_))<;>try omega)
  |(apply Ok.iteb<;>intro _)
  |dsimp only
 all_goals omega
theorem Ok.pick01{β:Type}{Q:β→Prop}{a:Int}{f:(List Int×Int)×Int→Option β}(h0:0≤a)(h1:a<4611686018427387904)(h:∀x:Int,x=0∨x=1→Ok (f ((l,a+1),x)) Q):Ok ((qCh N (l,a) [0,0,0,1]).bind f) Q:=
 Ok.pick h0 h1 (by decide) (by decide) fun x hx=>h x (by simp at hx;omega)
theorem Ok.exprloop{β:Type}{Q:β→Prop}{E:(List Int×Int)→Int→List ByteArray→Option ((List Int×Int)×ByteArray)}{d:Nat}{ps:List ByteArray}(hE:qUc N l E d ps)(hd:d≤5){p1:Int}(hp:IntKind.wrap .i64 (p1-1)=(d:Int)){s:ByteArray}{n a:Int}{f:ByteArray×List Int×Int→Option β}
  (hn:n=0∨n=1) (h0:0≤a) (h1:a+qOd d<2000000000000000000) (hs:s.size≤100000000) (hN:100<N) (h:∀(s':ByteArray) (a':Int),a≤a'→a'≤a+qOd d→s'.size≤s.size+qQv d+2→Ok (f (s',l,a')) Q):Ok ((qBf (qFy N E p1 ps) N (s,n,l,a)).bind f) Q:=by
 have hsm:=qWo d hd
 refine Ok.loop (fun st=>∃s' n' a',st=(s',n',l,a')∧((n'=n∧a'=a∧s'=s)∨(n'=0∧a≤a'∧a'≤a+qOd d∧s'.size≤s.size+qQv d+2))) (fun st=>st.2.1.toNat) (fun b=>∃s' a',b=(s',l,a')∧a≤a'∧a'≤a+qOd d∧s'.size≤s.size+qQv d+2) ?_ ⟨s,n,a,rfl,.inl ⟨rfl,rfl,rfl⟩⟩ (by simp only;omega) ?_
 ·rintro _ ⟨s',n',a',rfl,hc⟩
  simp only[qFy]
  by_cases hn0:n'>0
  ·rw[if_pos (by simpa using hn0),hp]
   have hc:n'=n∧a'=a∧s'=s:=hc.resolve_right fun h=>by omega
   obtain⟨rfl,rfl,rfl⟩:=hc
   refine Ok.expr hE h0 h1 fun a2 t g1 g2 g3=> ?_
   refine Ok.cat (by simp only[qQk,jR,jA,jB,Nat.reduceAdd];omega) fun u hu=> ?_
   simp only[qQk,jR,jA,jB,Nat.reduceAdd] at hu
   refine Ok.cat (by omega) fun v hv=> ?_
   refine Ok.mk ⟨⟨v,_,a2,rfl,.inr ⟨by rw[wi64 (by omega) (by omega)];omega,g1,g2,by omega⟩⟩,?_⟩
   simp only
   rw[wi64 (by omega) (by omega)]
   omega
  ·rw[if_neg (by simpa using hn0)]
   refine Ok.mk ⟨s',a',rfl,?_⟩
   rcases hc with ⟨_,rfl,rfl⟩|⟨_,g1,g2,g3⟩
   ·omega
   ·exact⟨g1,g2,g3⟩
 ·rintro _ ⟨s',a',rfl,g1,g2,g3⟩
  exact h s' a' g1 g2 g3
set_option maxHeartbeats 8000000 in
theorem zFz{E:(List Int×Int)→Int→List ByteArray→Option ((List Int×Int)×ByteArray)}{d:Nat}{ps:List ByteArray}(hE:qUc N l E d ps)(hd:d≤4)(hps:ps.length<1000)(hps2:∀x∈ps,x.size≤12)(hN:100<N):qUc N l (qEb N E) (d+1) ps:=by
 intro a h0 h1
 have hc:qOd (d+1)=3*qOd d+8:=rfl
 have hz:qQv (d+1)=3*qQv d+20:=rfl
 have hge:=zCa d
 have hsm:=qWo d (by omega)
 have hw:IntKind.wrap .i64 (((d+1:Nat):Int)-1)=(d:Int):=by rw[wi64 (by omega) (by omega)];omega
 simp only[qEb,hc,hz,qDb,qFb,qDx,hw]
 repeat' first
  |with_reducible apply Ok.tt
  |with_reducible apply Ok.ff
  |with_reducible apply Ok.ttb
  |with_reducible apply Ok.ffb
  |with_reducible apply Ok.assoc
  |((with_reducible apply Ok.iteb)<;>intro _)
  |((with_reducible apply Ok.ite)<;>intro _)
  |with_reducible apply Ok.someb
  |with_reducible apply Ok.mapb
  |((with_reducible refine Ok.mk ⟨_,_,rfl,?_,?_,?_⟩)<;>omega)
  |((with_reducible refine Ok.next ?_ ?_ ?_ ?_ (fun _ _ _=> ?_))<;>try omega)
  |((with_reducible refine Ok.chance ?_ ?_ ?_ ?_ (fun _=> ?_))<;>try omega)
  |((with_reducible refine Ok.pick01 ?_ ?_ (fun _ _=> ?_))<;>try omega)
  |((with_reducible refine Ok.exprloop hE (by omega) hw (by assumption) ?_ ?_ ?_ hN (fun _ _ _ _ _=> ?_))<;>try omega)
  |((with_reducible refine Ok.expr hE ?_ ?_ (fun _ _ _ _ _=> ?_))<;>try omega)
  |((with_reducible refine Ok.pickS ?_ ?_ (by decide) (fun _ _ _=> ?_))<;>try omega)
  |((with_reducible refine Ok.oneP ?_ ?_ (by assumption) hps hps2 (fun _ _=> ?_))<;>try omega)
  |((with_reducible refine Ok.oneS ?_ ?_ (by decide) (fun _ _=> ?_))<;>try omega)
  |((with_reducible refine Ok.digits ?_ ?_ hN (fun _ _=> ?_))<;>try omega)
  |((with_reducible refine Ok.cat ?_ (fun _ h=> ?_))<;>simp only[qQk,jR,jA,jB,Nat.reduceAdd] at* <;>try omega)
  |((with_reducible refine Ok.cat ?_ (fun _ _=> ?_))<;>try omega)
  |(apply Ok.iteb<;>intro _)
  |dsimp only
 all_goals omega
theorem zJo:∀(d D:Nat) (ps:List ByteArray),d<D→d≤5→ps.length<1000→(∀x∈ps,x.size≤12)→100<N→qUc N l (qGd N D) d ps
 |_,0,_,h,_,_,_,_=>absurd h (kN _)
 |0,D+1,ps,_,_,h1,h2,hN=>zEt (E:=qGd N D) rfl h1 h2 hN
 |d+1,D+1,ps,h,hd,h1,h2,hN=>zFz (zJo d D ps (by omega) (by omega) h1 h2 hN) (by omega) h1 h2 hN
theorem zHb{d:Nat}{ps:List ByteArray}(hd:d≤5)(h1:ps.length<1000)(h2:∀x∈ps,x.size≤12)(hN:100<N):qUc N l (qFd N) d ps:=zJo d N ps (by omega) hd h1 h2 hN
theorem Ok.expr3{β:Type}{Q:β→Prop}{ps:List ByteArray}{a:Int}{f:(List Int×Int)×ByteArray→Option β}(hN:100<N)(h0:0≤a)(h1:a+10000<2000000000000000000)(hps:ps.length≤2∧∀x∈ps,x.size≤12)
  (h:∀(a':Int) (s:ByteArray),a≤a'→a'≤a+10000→s.size≤854→Ok (f ((l,a'),s)) Q):Ok ((qFd N (l,a) 3 ps).bind f) Q:=
 Ok.expr (d:=3) (zHb (by omega) (by omega) hps.2 hN) h0 (by have:qOd 3=320:=rfl;have:qOd 2=104:=rfl;omega) fun a' s g1 g2 g3=>h a' s g1 (by have:qOd 3=320:=rfl;omega) (by have:qQv 3=854:=rfl;omega)
theorem Ok.expr2{β:Type}{Q:β→Prop}{ps:List ByteArray}{a:Int}{f:(List Int×Int)×ByteArray→Option β}(hN:100<N)(h0:0≤a)(h1:a+10000<2000000000000000000)(hps:ps.length≤2∧∀x∈ps,x.size≤12)
  (h:∀(a':Int) (s:ByteArray),a≤a'→a'≤a+10000→s.size≤854→Ok (f ((l,a'),s)) Q):Ok ((qFd N (l,a) 2 ps).bind f) Q:=
 Ok.expr (d:=2) (zHb (by omega) (by omega) hps.2 hN) h0 (by have:qOd 3=320:=rfl;have:qOd 2=104:=rfl;omega) fun a' s g1 g2 g3=>h a' s g1 (by have:qOd 2=104:=rfl;omega) (by have:qQv 2=278:=rfl;omega)
set_option maxHeartbeats 8000000 in
theorem zKx{a:Int}(hN:100<N)(h0:0≤a)(h1:a<1000000000000000000):Ok (qGa N (l,a)) fun y=>∃a' s,y=((l,a'),s)∧a≤a'∧a'≤a+10010∧s.size≤890:=by
 simp only[qGa,qIa,qDb,qDx]
 repeat' first
  |with_reducible apply Ok.tt
  |with_reducible apply Ok.ff
  |with_reducible apply Ok.ttb
  |with_reducible apply Ok.ffb
  |with_reducible apply Ok.assoc
  |((with_reducible apply Ok.iteb)<;>intro _)
  |((with_reducible apply Ok.ite)<;>intro _)
  |with_reducible apply Ok.someb
  |with_reducible apply Ok.mapb
  |((with_reducible refine Ok.mk ⟨_,_,rfl,?_,?_,?_⟩)<;>omega)
  |((with_reducible refine Ok.next ?_ ?_ ?_ ?_ (fun _ _ _=> ?_))<;>try omega)
  |((with_reducible refine Ok.chance ?_ ?_ ?_ ?_ (fun _=> ?_))<;>try omega)
  |((with_reducible refine Ok.expr3 hN ?_ ?_ ?_ (fun _ _ _ _ _=> ?_))<;>first|omega|exact⟨by decide,by decide⟩|skip)
  |((with_reducible refine Ok.expr2 hN ?_ ?_ ?_ (fun _ _ _ _ _=> ?_))<;>first|omega|exact⟨by decide,by decide⟩|skip)
  |(with_reducible refine Ok.app (by simp) (by decide) ?_)
  |((with_reducible refine Ok.pickS ?_ ?_ (by decide) (fun _ _ _=> ?_))<;>try omega)
  |((with_reducible refine Ok.oneS ?_ ?_ (by decide) (fun _ _=> ?_))<;>try omega)
  |((with_reducible refine Ok.digits ?_ ?_ hN (fun _ _=> ?_))<;>try omega)
  |((with_reducible refine Ok.cat ?_ (fun _ h=> ?_))<;>simp only[qQk,jR,jA,jB,Nat.reduceAdd] at* <;>try omega)
  |((with_reducible refine Ok.cat ?_ (fun _ _=> ?_))<;>try omega)
  |(apply Ok.iteb<;>intro _)
  |dsimp only
 all_goals omega
theorem Has_ok{L:List ByteArray}{x:ByteArray}(hL:L.length<1000000)(hN:L.length<N):Ok (qFv N L x) fun _=>True:=by
 unfold qFv
 refine Ok.loop (fun st=>∃j:Nat,st=(j:Int)∧j≤L.length) (fun st=>L.length-st.toNat) (fun _=>True) ?_ ⟨0,rfl,kY _⟩ (by show L.length-(0:Int).toNat<N;omega) ?_
 ·rintro _ ⟨j,rfl,hj⟩
  simp only[qHn]
  by_cases h:j<L.length
  ·rw[if_pos (by simpa using h),qFw h]
   simp only[j0]
   refine Ok.ite (fun _=>Ok.mk trivial) fun _=>Ok.mk ⟨⟨j+1,by rw[wi64 (by omega) (by omega)];omega,by omega⟩,?_⟩
   rw[wi64 (by omega) (by omega)];omega
  ·rw[if_neg (by simpa using h)];exact Ok.mk trivial
 ·intro b _
  cases b<;>exact Ok.mk trivial
theorem Ok.has{β:Type}{Q:β→Prop}{L:List ByteArray}{x:ByteArray}{f:Bool→Option β}(hL:L.length<1000000)(hN:L.length<N)(h:∀b,Ok (f b) Q):Ok ((qFv N L x).bind f) Q:=Ok.bind (Has_ok hL hN) fun b _=>h b
theorem Ok.decl{β:Type}{Q:β→Prop}{a:Int}{f:(List Int×Int)×ByteArray→Option β}(hN:100<N)(h0:0≤a)(h1:a<1000000000000000000)
  (h:∀(a':Int) (s:ByteArray),a≤a'→a'≤a+10010→s.size≤890→Ok (f ((l,a'),s)) Q):Ok ((qGa N (l,a)).bind f) Q:=
 Ok.bind (zKx hN h0 h1) fun y hy=>by
  obtain⟨a',s,rfl,g1,g2,g3⟩:=hy
  exact h a' s g1 g2 g3
theorem zKh{β:Type}{Q:β→Prop}{y:(List Int×Int)×ByteArray}{f:ByteArray→Option β}(hs:y.2.size≤890)(hN:3000<N)(h:∀s:ByteArray,Ok (f s) Q):Ok ((qBf (qEy N y) N (y.2,0)).bind f) Q:=by
 refine Ok.loop (fun st=>∃j:Nat,st.2=(j:Int)∧j≤y.2.size) (fun st=>y.2.size-st.2.toNat) (fun _=>True) ?_ ⟨0,rfl,kY _⟩ (by simp only;omega) (fun b _=>h b)
 rintro⟨s,_⟩ ⟨j,rfl,hj⟩
 simp only[qEy]
 by_cases hlt:j<y.2.size
 ·rw[if_pos (by simpa using hlt),qXb hlt]
  simp only[j0]
  refine Ok.bind (P:=fun _=>True) (Ok.ite (fun _=>Ok.mk trivial) fun _=>Ok.mk trivial) fun b _=> ?_
  refine Ok.ite (fun _=> ?_) fun _=> ?_
  ·rw[qNi (by omega) (by omega) (by omega)];exact Ok.mk trivial
  ·refine Ok.mk ⟨⟨j+1,by simp only;rw[wi64 (by omega) (by omega)];omega,by omega⟩,?_⟩
   simp only;rw[wi64 (by omega) (by omega)];omega
 ·rw[if_neg (by simpa using hlt)];exact Ok.mk trivial
theorem zGa{a:Int}{pk:ByteArray}(hN:3000<N)(h0:0≤a)(h1:a<100000000000000000)(hp:pk.size≤12):Ok (qFg N (l,a) pk) fun y=>∃a' s,y=((l,a'),s)∧a≤a'∧a'≤a+100000∧s.size≤4700:=by
 simp only[qFg]
 refine Ok.cat (by simp only[qQk,jR,jA,jB,Nat.reduceAdd];omega) fun s1 e1=> ?_
 simp only[qQk,jR,jA,jB,Nat.reduceAdd] at e1
 refine Ok.cat (by simp only[qQk,jR,jA,jB,Nat.reduceAdd];omega) fun s2 e2=> ?_
 simp only[qQk,jR,jA,jB,Nat.reduceAdd] at e2
 refine Ok.chance h0 (by omega) (by omega) (by omega) fun c=> ?_
 refine Ok.bind (P:=fun s:ByteArray=>s.size≤60) (Ok.ite (fun _=>Ok.cat (by simp only[qQk,jR,jA,jB,Nat.reduceAdd];omega) fun s3 e3=>Ok.mk (by simp only[qQk,jR,jA,jB,Nat.reduceAdd] at e3;omega)) fun _=>Ok.mk (by omega)) fun o1 e3=> ?_
 dsimp only
 refine Ok.next (by omega) (by omega) (by omega) (by omega) fun r g1 g2=> ?_
 dsimp only
 -- imports
 refine Ok.loop (fun st=>∃s L n a',st=(s,L,n,l,a')∧0≤n∧n≤2∧(L.length:Int)+n≤2∧(s.size:Int)≤60+30*(2-n)∧a≤a'∧a'≤a+10+(2-n)) (fun st=>st.2.2.1.toNat) (fun b=>∃s a',b=(s,l,a')∧s.size≤120∧a≤a'∧a'≤a+20) ?_ ⟨o1,[],r,a+1+1,rfl,g1,by omega,by simp only[jB];omega,by omega,by omega,by omega⟩ (by simp only;omega) ?_
 ·rintro _ ⟨s,L,n,a',rfl,k1,k2,k3,k4,k5,k6⟩
  simp only[qGf,qEf]
  by_cases hn:n>0
  ·rw[if_pos (by simpa using hn)]
   refine Ok.assoc (Ok.someb ?_)
   refine Ok.assoc (Ok.oneS (by omega) (by omega) (by decide) fun x hx=> ?_)
   dsimp only
   refine Ok.assoc (Ok.bind (P:=fun _=>True) (Ok.ite (fun _=>Ok.has (by omega) (by omega) fun b=>Ok.mk trivial) fun _=>Ok.mk trivial) fun o4 _=> ?_)
   refine Ok.iteb (fun _=> ?_) fun _=> ?_
   ·refine Ok.assoc (Ok.app (by simp only[jA,jB];omega) (by decide) ?_)
    refine Ok.assoc (Ok.cat (by simp only[qQk,jR,jA,jB,Nat.reduceAdd];omega) fun t1 f1=> ?_)
    simp only[qQk,jR,jA,jB,Nat.reduceAdd] at f1
    refine Ok.assoc (Ok.cat (by simp only[qQk,jR,jA,jB,Nat.reduceAdd];omega) fun t2 f2=> ?_)
    simp only[qQk,jR,jA,jB,Nat.reduceAdd] at f2
    refine Ok.assoc (Ok.cat (by omega) fun t3 f3=>Ok.someb (Ok.mk ?_))
    dsimp only
    rw[wi64 (by omega) (by omega)]
    exact⟨⟨t3,_,_,_,rfl,by omega,by omega,by simp only[jI,jA,jB];omega,by omega,by omega,by omega⟩,by omega⟩
   ·refine Ok.someb (Ok.mk ?_)
    dsimp only
    rw[wi64 (by omega) (by omega)]
    exact⟨⟨s,_,_,_,rfl,by omega,by omega,by omega,by omega,by omega,by omega⟩,by omega⟩
  ·rw[if_neg (by simpa using hn)]
   exact Ok.mk ⟨s,a',rfl,by omega,k5,by omega⟩
 rintro _ ⟨s,b1,rfl,q1,q2,q3⟩
 dsimp only
 refine Ok.next (by omega) (by omega) (by omega) (by omega) fun r2 g3 g4=> ?_
 dsimp only
 -- declarations
 refine Ok.loop (fun st=>∃s L n a',st=(s,L,n,l,a')∧0≤n∧n≤5∧(L.length:Int)+n≤5∧(s.size:Int)≤120+890*(5-n)∧a≤a'∧a'≤a+100+10020*(5-n)) (fun st=>st.2.2.1.toNat) (fun b=>∃s a',b=(s,l,a')∧s.size≤4580∧a≤a'∧a'≤a+60000) ?_ ⟨s,[],_,b1+1,rfl,by rw[wi64 (by omega) (by omega)];omega,by rw[wi64 (by omega) (by omega)];omega,by rw[wi64 (by omega) (by omega)];simp only[jB];omega,by rw[wi64 (by omega) (by omega)];omega,by omega,by rw[wi64 (by omega) (by omega)];omega⟩ (by simp only;rw[wi64 (by omega) (by omega)];omega) ?_
 ·rintro _ ⟨s,L,n,a',rfl,k1,k2,k3,k4,k5,k6⟩
  simp only[qGh]
  by_cases hn:n>0
  ·rw[if_pos (by simpa using hn)]
   refine Ok.assoc (Ok.decl (by omega) (by omega) (by omega) fun a2 d v1 v2 v3=> ?_)
   refine Ok.assoc (zKh (y:=((l,a2),d)) v3 hN fun hd=> ?_)
   dsimp only
   refine Ok.assoc (Ok.bind (P:=fun o:Bool×List Int×Int=>o.2.1=l∧a2≤o.2.2∧o.2.2≤a2+1) (Ok.has (by omega) (by omega) fun b=>Ok.ite (fun _=>Ok.mk ⟨rfl,by simp only;omega,by simp only;omega⟩) fun _=>Ok.chance (by omega) (by omega) (by omega) (by omega) fun c=>Ok.mk ⟨rfl,by simp only;omega,by simp only;omega⟩) fun o9 h9=> ?_)
   obtain⟨b9,l9,a9⟩:=o9
   obtain⟨rfl,w1,w2⟩:=h9
   dsimp only at w1 w2 ⊢
   refine Ok.iteb (fun _=> ?_) fun _=> ?_
   ·refine Ok.assoc (Ok.app (by simp only[jA,jB];omega) (by decide) ?_)
    refine Ok.assoc (Ok.cat (by omega) fun t3 f3=>Ok.someb (Ok.mk ?_))
    dsimp only
    rw[wi64 (by omega) (by omega)]
    exact⟨⟨t3,_,_,_,rfl,by omega,by omega,by simp only[jI,jA,jB];omega,by omega,by omega,by omega⟩,by omega⟩
   ·refine Ok.someb (Ok.mk ?_)
    dsimp only
    rw[wi64 (by omega) (by omega)]
    exact⟨⟨s,_,_,_,rfl,by omega,by omega,by omega,by omega,by omega,by omega⟩,by omega⟩
  ·rw[if_neg (by simpa using hn)]
   exact Ok.mk ⟨s,a',rfl,by omega,k5,by omega⟩
 rintro _ ⟨s,b2,rfl,u1,u2,u3⟩
 dsimp only
 refine Ok.chance (by omega) (by omega) (by omega) (by omega) fun c=> ?_
 dsimp only
 refine Ok.iteb (fun _=> ?_) fun _=> ?_
 ·refine Ok.assoc (Ok.oneS (by omega) (by omega) (by decide) fun x hx=> ?_)
  dsimp only
  refine Ok.assoc (Ok.cat (by omega) fun t f1=>Ok.someb (Ok.mk ?_))
  dsimp only
  refine⟨_,_,rfl,?_,?_,?_⟩<;>omega
 ·refine Ok.someb (Ok.mk ?_)
  dsimp only
  refine⟨_,_,rfl,?_,?_,?_⟩<;>omega
end
end
section
open Go Go.Dc
theorem qLr{N:Nat}{L:List File}{p b:ByteArray}(hl:L.length<1000000)(ha:Asc L):∀(d i M:Nat) (done:Bool) (acc:List File),i+d=L.length→d<M→acc.length≤i+done.toNat→(done=true→∀f∈L.drop i,f.1≠p)→
  Ok (qBf (qDw N L (p,b)) M (done,(i:Int),acc)) fun o=>o.2.length≤L.length+1∧(if o.1=true then o.2 else o.2++[(p,b)])=acc++(if done=true then L.drop i else fput (L.drop i) p b)
 |_,_,0,_,_,_,h,_,_=>by omega
 |0,i,M+1,done,acc,hd,_,hacc,_=>by
  refine⟨(done,acc),?_,by simp only;cases done<;>simp only[Bool.toNat_true,Bool.toNat_false] at hacc<;>omega,?_⟩
  ·simp only[qBf,qDw]
   rw[if_neg (by simp only[j9];omega)]
   rfl
  ·rw[k0 (by omega)]
   cases done<;>simp[fput]
 |d+1,i,M+1,done,acc,hd,hM,hacc,hno=>by
  have hi:i<L.length:=by omega
  have e1:(i:Int)+1=((i+1:Nat):Int):=by omega
  have hgt:∀f∈L.drop (i+1),blt (L[i]).1 f.1=true:=by
   have:=(jQ.1 (by rw[←jT hi];exact List.Pairwise.sublist (List.drop_sublist _ _) ha:Asc (L[i]::L.drop (i+1)))).1
   exact this
  simp only[qBf,qDw]
  rw[if_pos (by simp only[j9];omega),qFw hi,wi64 (by omega) (by omega),e1]
  rw[jT hi] at hno ⊢
  simp only[j0,eqB]
  cases done with
  |true=>
   simp only[Bool.toNat_true] at hacc
   have hne:=hno rfl _ (jJ ..)
   have ih:=qLr (N:=N) (p:=p) (b:=b) hl ha d (i+1) M true (acc++[((L[i]).1,(L[i]).2)]) (by omega) (by omega) (by simp;omega) (fun h f hf=>hno rfl f (jK _ hf))
   simp only[kW,jD,jS,j0]
   rw[if_pos (by simp[hne]),qCq (by simp only[jA,jB];omega) (by omega)]
   simp only[j0]
   refine ih.mono fun o ho=>⟨ho.1,?_⟩
   rw[ho.2];simp only[jU,kU,gR,jZ]
  |false=>
   simp only[Bool.toNat_false] at hacc
   simp only[gT,jU,j0]
   rcases qNa p (L[i]).1 with h|h|h
   ·have h':Op.bytesLess p.toList (L[i]).1.toList=true:=h
    have hne:(L[i]).1≠p:=fun e=>zFd h e.symm
    have ih:=qLr (N:=N) (p:=p) (b:=b) hl ha d (i+1) M true ((acc++[(p,b)])++[((L[i]).1,(L[i]).2)]) (by omega) (by omega) (by simp;omega) (fun _ f hf e=>by
     have:=qKh h (hgt f hf);rw[e,qIp] at this;cases this)
    rw[h',Bool.true_or,if_pos rfl,qCq (by simp only[jA,jB];omega) (by omega)]
    simp only[j0]
    rw[if_pos (by simp[hne]),qCq (by simp only[jI,jA,jB];omega) (by omega)]
    simp only[j0]
    refine ih.mono fun o ho=>⟨ho.1,?_⟩
    have g3:fput (L[i]::L.drop (i+1)) p b=(p,b)::L[i]::L.drop (i+1):=by rw[fput,if_pos h]
    rw[ho.2,g3];simp only[jU,kU,gR,jZ,jD,jS]
   ·have ih:=qLr (N:=N) (p:=p) (b:=b) hl ha d (i+1) M true (acc++[(p,b)]) (by omega) (by omega) (by simp;omega) (fun _ f hf e=>by
     have:=hgt f hf;rw[←h,e,qIp] at this;cases this)
    rw[kF h,Bool.or_true,if_pos rfl,qCq (by simp only[jA,jB];omega) (by omega)]
    simp only[j0]
    rw[if_neg (by simp[h])]
    simp only[j0]
    refine ih.mono fun o ho=>⟨ho.1,?_⟩
    have g3:fput (L[i]::L.drop (i+1)) p b=(p,b)::L.drop (i+1):=by rw[fput,if_neg (by rw[h,qIp];simp),if_pos h.symm]
    rw[ho.2,g3];simp only[jU,kU,gR,jZ,jD,jS]
   ·have hne:(L[i]).1≠p:=zFd h
    have h':Op.bytesLess p.toList (L[i]).1.toList=false:=qZj h
    have ih:=qLr (N:=N) (p:=p) (b:=b) hl ha d (i+1) M false (acc++[((L[i]).1,(L[i]).2)]) (by omega) (by omega) (by simp;omega) (fun h=>by cases h)
    rw[h',gE (fun e=>hne e.symm),Bool.or_false,if_neg (by simp)]
    simp only[j0]
    rw[if_pos (by simp[hne]),qCq (by simp only[jA,jB];omega) (by omega)]
    simp only[j0]
    refine ih.mono fun o ho=>⟨ho.1,?_⟩
    have g3:fput (L[i]::L.drop (i+1)) p b=L[i]::fput (L.drop (i+1)) p b:=by rw[fput,if_neg (by rw[show blt p (L[i]).1=false from h'];simp),if_neg hne]
    rw[ho.2,g3];simp only[kU,gR,jZ,jD,jS]
theorem qZx{N:Nat}{L:List File}(p b:ByteArray)(hl:L.length<1000000)(ha:Asc L)(hN:L.length<N):qDg N L (p,b)=some (fput L p b):=by
 obtain⟨o,h1,h2,h3⟩:=qLr (N:=N) (p:=p) (b:=b) hl ha L.length 0 N false [] (by omega) hN (by simp) (fun h=>by cases h)
 simp only[qDg]
 rw[show((0:Nat):Int)=0 from rfl] at h1
 rw[h1]
 simp only[kJ,jZ,jD,jS] at h3
 simp only[j0]
 cases ho:o.1 with
 |true=>rw[ho] at h3;simp only[jU] at h3;simp[h3]
 |false=>
  rw[ho] at h3
  simp only[jD,jS] at h3
  simp only[gT,jU]
  rw[qCq (by simp only[jA,jB];omega) (by omega),h3]
  rfl
def srcL:List ByteArray:=[(⟨#[97,46,115,114,99]⟩:ByteArray),(⟨#[98,46,115,114,99]⟩:ByteArray),(⟨#[100,47,99,46,115,114,99]⟩:ByteArray),(⟨#[120,46,115,114,99]⟩:ByteArray)]
def datL:List ByteArray:=[(⟨#[97,46,100,97,116]⟩:ByteArray),(⟨#[100,47,98,46,100,97,116]⟩:ByteArray),(⟨#[99]⟩:ByteArray)]
theorem zJy:(srcL.all fun p=>qIx p.data.toList)=true:=by kernel_rfl
theorem zLb:(datL.all fun p=>qIx p.data.toList)=true:=by kernel_rfl
def Made(L:List File):Prop:=Asc L∧∀f∈L,f.1∈srcL++datL∧f.2.size≤4700
theorem Made.put{L:List File}(h:Made L){p b:ByteArray}(hp:p∈srcL++datL)(hb:b.size≤4700):Made (fput L p b):=
 ⟨h.1.put p b,fun f hf=>by
  rcases qSy hf with rfl|hf
  ·exact⟨hp,hb⟩
  ·exact h.2 f hf⟩
theorem Made.path{L:List File}(h:Made L){f:File}(hf:f∈L):qIx f.1.data.toList=true:=by
 rcases gY.1 (h.2 f hf).1 with h|h
 ·exact jN.1 zJy _ h
 ·exact jN.1 zLb _ h
theorem zIz{N:Nat}{y1:List ByteArray}{s1:Int×(List (ByteArray×ByteArray))×List (Int)×Int}:qEk N y1 s1=
 if(decide (s1.1<(List.length y1:Int)))=true then(((idx y1 s1.1).bind fun x1=>(qBe N (s1.2.2.1,s1.2.2.2) 3 4).bind fun y2=>if y2.2=true then((qEf N).bind fun y3=>(qBa N (y2.1.1,y2.1.2) y3).bind fun y4=>(qFg N (y4.1.1,y4.1.2) y4.2).bind fun y5=>(qDg N s1.2.1 (x1,y5.2)).bind fun y6=>some (y6,y5.1.1,y5.1.2)) else(some (s1.2.1,y2.1.1,y2.1.2)):Option ((List (ByteArray×ByteArray))×List (Int)×Int)).bind fun o2=>some (.inl (IntKind.wrap .i64 (s1.1+1),o2.1,o2.2.1,o2.2.2))) else(some (.inr (s1.2.1,s1.2.2.1,s1.2.2.2))):=rfl
theorem zJc{N:Nat}{s2:Int×(List (ByteArray×ByteArray))×List (Int)×Int}:qFt N s2=
 if(decide (s2.1<(List.length datL:Int)))=true then(((idx datL s2.1).bind fun x2=>(qBe N (s2.2.2.1,s2.2.2.2) 1 3).bind fun y7=>if y7.2=true then((qGc N (y7.1.1,y7.1.2)).bind fun y8=>(qDg N s2.2.1 (x2,y8.2)).bind fun y9=>some (y9,y8.1.1,y8.1.2)) else(some (s2.2.1,y7.1.1,y7.1.2)):Option ((List (ByteArray×ByteArray))×List (Int)×Int)).bind fun o4=>some (.inl (IntKind.wrap .i64 (s2.1+1),o4.1,o4.2.1,o4.2.2))) else(some (.inr (s2.2.1,s2.2.2.1,s2.2.2.2))):=rfl
theorem zDn(l:List UInt8):(qOb l).size=l.length:=by simp[qOb,ByteArray.size]
theorem zKe{N:Nat}{l:List Int}{a:Int}(hN:100<N)(h0:0≤a)(h1:a<1000000000000000000):Ok (qGc N (l,a)) fun y=>∃a' s,y=((l,a'),s)∧a≤a'∧a'≤a+10∧s.size≤10:=by
 simp only[qGc]
 refine Ok.next (by omega) (by omega) (by omega) (by omega) fun r g1 g2=> ?_
 dsimp only
 simp only[qGg]
 refine Ok.assoc ?_
 refine Ok.loop (fun st=>∃L n a',st=(L,n,l,a')∧0≤n∧n≤r∧(L.length:Int)=n∧a≤a'∧a'≤a+1+n) (fun st=>(r-st.2.1).toNat) (fun b=>∃L a',b=(L,l,a')∧L.length≤4∧a≤a'∧a'≤a+5) ?_ ⟨[],0,a+1,rfl,by omega,by omega,rfl,by omega,by omega⟩ (by dsimp only;omega) ?_
 ·rintro _ ⟨L,n,a',rfl,k1,k2,k3,k4,k5⟩
  have h5:ByteArray.size (⟨#[97,98,0,255,48]⟩:ByteArray)=5:=rfl
  simp only[qFn,h5]
  by_cases hn:n<r
  ·rw[if_pos (by simpa using hn)]
   refine Ok.next (by omega) (by omega) (by omega) (by omega) fun q v1 v2=> ?_
   dsimp only
   have hq:q.toNat<ByteArray.size (⟨#[97,98,0,255,48]⟩:ByteArray):=by rw[h5];omega
   have hx:idxB (⟨#[97,98,0,255,48]⟩:ByteArray) q=some ((⟨#[97,98,0,255,48]⟩:ByteArray)[q.toNat]):=by
    have:=qXb hq
    rw[Int.toNat_of_nonneg v1] at this
    exact this
   rw[hx]
   refine Ok.someb (Ok.app (by simp only[jA,jB];omega) (by decide) (Ok.mk ?_))
   dsimp only
   rw[wi64 (by omega) (by omega)]
   exact⟨⟨_,_,_,rfl,by omega,by omega,by simp only[jI,jA,jB];omega,by omega,by omega⟩,by omega⟩
  ·rw[if_neg (by simpa using hn)]
   exact Ok.mk ⟨L,a',rfl,by omega,by omega,by omega⟩
 ·rintro _ ⟨L,a',rfl,v1,v2,v3⟩
  refine Ok.someb (Ok.mk ?_)
  dsimp only
  refine⟨_,_,rfl,?_,?_,?_⟩
  ·omega
  ·omega
  ·rw[zDn];omega
theorem zBa{N:Nat}{l:List Int}{a:Int}(hN:3000<N)(h0:0≤a)(h1:a<10000000000000000):Ok (qFr N (l,a)) fun y=>∃a' L,y=((l,a'),L)∧a≤a'∧a'≤a+1000000∧Made L∧L.length≤7:=by
 simp only[qFr,qGw]
 refine Ok.someb ?_
 show Ok ((qBf (qEk N srcL) N (0,[],l,a)).bind _) _
 refine Ok.loop (fun st=>∃(n:Nat) (L:List File) (a':Int),st=((n:Int),L,l,a')∧n≤4∧L.length≤n∧Made L∧a≤a'∧a'≤a+100010*n) (fun st=>4-st.1.toNat) (fun b=>∃L a',b=(L,l,a')∧L.length≤4∧Made L∧a≤a'∧a'≤a+500000) ?_ ⟨0,[],a,rfl,by omega,by simp,⟨List.Pairwise.nil,by simp⟩,by omega,by omega⟩ (by dsimp only;omega) ?_
 ·rintro _ ⟨n,L,a',rfl,k1,k2,k3,k4,k5⟩
  rw[zIz]
  have hlen:srcL.length=4:=rfl
  dsimp only
  by_cases hn:n<4
  ·rw[if_pos (by simp only[j9,hlen];omega),qFw (l:=srcL) (by omega)]
   refine Ok.assoc (Ok.someb ?_)
   refine Ok.assoc (Ok.chance (by omega) (by omega) (by omega) (by omega) fun c=> ?_)
   dsimp only
   refine Ok.iteb (fun _=> ?_) fun _=> ?_
   ·refine Ok.assoc (Ok.someb ?_)
    refine Ok.assoc (Ok.oneS (by omega) (by omega) (by decide) fun x hx=> ?_)
    dsimp only
    refine Ok.assoc (Ok.bind (zGa hN (by omega) (by omega) hx) ?_)
    rintro _ ⟨a2,s,rfl,v1,v2,v3⟩
    dsimp only
    rw[qZx _ _ (by omega) k3.1 (by omega)]
    refine Ok.assoc (Ok.someb (Ok.someb (Ok.mk ?_)))
    dsimp only
    have hf:=qUo L (srcL[n]) s
    refine⟨⟨n+1,_,_,by rw[wi64 (by omega) (by omega)];rfl,by omega,by omega,k3.put (kO _ (kI _)) v3,by omega,by omega⟩,?_⟩
    rw[wi64 (by omega) (by omega)];omega
   ·refine Ok.someb (Ok.mk ?_)
    dsimp only
    refine⟨⟨n+1,_,_,by rw[wi64 (by omega) (by omega)];rfl,by omega,by omega,k3,by omega,by omega⟩,?_⟩
    rw[wi64 (by omega) (by omega)];omega
  ·rw[if_neg (by simp only[j9,hlen];omega)]
   exact Ok.mk ⟨L,a',rfl,by omega,k3,by omega,by omega⟩
 rintro _ ⟨L1,a1,rfl,u1,u2,u3,u4⟩
 dsimp only
 refine Ok.loop (fun st=>∃(n:Nat) (L:List File) (a':Int),st=((n:Int),L,l,a')∧n≤3∧L.length≤4+n∧Made L∧a≤a'∧a'≤a+500000+20*n) (fun st=>3-st.1.toNat) (fun b=>∃L a',b=(L,l,a')∧L.length≤7∧Made L∧a≤a'∧a'≤a+600000) ?_ ⟨0,L1,a1,rfl,by omega,by omega,u2,by omega,by omega⟩ (by dsimp only;omega) ?_
 ·rintro _ ⟨n,L,a',rfl,k1,k2,k3,k4,k5⟩
  rw[zJc]
  have hlen:datL.length=3:=rfl
  dsimp only
  by_cases hn:n<3
  ·rw[if_pos (by simp only[j9,hlen];omega),qFw (l:=datL) (by omega)]
   refine Ok.assoc (Ok.someb ?_)
   refine Ok.assoc (Ok.chance (by omega) (by omega) (by omega) (by omega) fun c=> ?_)
   dsimp only
   refine Ok.iteb (fun _=> ?_) fun _=> ?_
   ·refine Ok.assoc (Ok.bind (zKe (by omega) (by omega) (by omega)) ?_)
    rintro _ ⟨a2,s,rfl,v1,v2,v3⟩
    dsimp only
    rw[qZx _ _ (by omega) k3.1 (by omega)]
    refine Ok.assoc (Ok.someb (Ok.someb (Ok.mk ?_)))
    dsimp only
    have hf:=qUo L (datL[n]) s
    refine⟨⟨n+1,_,_,by rw[wi64 (by omega) (by omega)];rfl,by omega,by omega,k3.put (List.mem_append_right _ (kI _)) (by omega),by omega,by omega⟩,?_⟩
    rw[wi64 (by omega) (by omega)];omega
   ·refine Ok.someb (Ok.mk ?_)
    dsimp only
    refine⟨⟨n+1,_,_,by rw[wi64 (by omega) (by omega)];rfl,by omega,by omega,k3,by omega,by omega⟩,?_⟩
    rw[wi64 (by omega) (by omega)];omega
  ·rw[if_neg (by simp only[j9,hlen];omega)]
   exact Ok.mk ⟨L,a',rfl,by omega,k3,by omega,by omega⟩
 rintro _ ⟨L2,a2,rfl,w1,w2,w3,w4⟩
 refine Ok.mk ?_
 exact⟨a2,L2,rfl,by omega,by omega,w2,w1⟩
theorem Made.wf{L:List File}(h:Made L)(hl:L.length≤64):WF L:=⟨hl,h.1,fun f hf=>⟨h.path hf,fK (h.2 f hf).2 (by decide)⟩⟩
end
section
open Go Go.Dc
def MadeE(K:Nat)(L:List File):Prop:=Asc L∧∀f∈L,qIx f.1.data.toList=true∧f.2.size≤K
theorem Made.e{L:List File}(h:Made L):MadeE 4700 L:=⟨h.1,fun f hf=>⟨h.path hf,(h.2 f hf).2⟩⟩
theorem MadeE.put{K:Nat}{L:List File}(h:MadeE K L){p b:ByteArray}(hp:qIx p.data.toList=true)(hb:b.size≤K):MadeE K (fput L p b):=
 ⟨h.1.put p b,fun f hf=>by
  rcases qSy hf with rfl|hf
  ·exact⟨hp,hb⟩
  ·exact h.2 f hf⟩
theorem MadeE.more{K K':Nat}{L:List File}(h:MadeE K L)(hk:K≤K'):MadeE K' L:=⟨h.1,fun f hf=>⟨(h.2 f hf).1,fK (h.2 f hf).2 hk⟩⟩
theorem MadeE.wf{K:Nat}{L:List File}(h:MadeE K L)(hk:K≤16384)(hl:L.length≤64):WF L:=⟨hl,h.1,fun f hf=>⟨(h.2 f hf).1,fK (h.2 f hf).2 hk⟩⟩
section
variable {N:Nat} {l:List Int} {a:Int} {K:Nat} {L:List File}
end
end
section
open Go Go.Dc Go.Proofs
end
section
open Go Go.Dc Go.Proofs
theorem qQs{α:Type}{lt:α→α→Prop}(irr:∀x,¬lt x x)(tr:∀x y z,lt x y→lt y z→lt x z):∀{l k:List α},l.Pairwise lt→k.Pairwise lt→(∀z,z∈l↔z∈k)→l=k
 |[],[],_,_,_=>rfl
 |[],y::k,_,_,h=>by have:=(h y).2 (jJ ..);cases this
 |x::l,[],_,_,h=>by have:=(h x).1 (jJ ..);cases this
 |x::l,y::k,h1,h2,h=>by
  obtain⟨a1,a2⟩:=jQ.1 h1
  obtain⟨b1,b2⟩:=jQ.1 h2
  have hxy:x=y:=by
   rcases jH.1 ((h x).1 (jJ ..)) with e|e
   ·exact e
   ·rcases jH.1 ((h y).2 (jJ ..)) with g|g
    ·exact g.symm
    ·exact absurd (tr _ _ _ (b1 x e) (a1 y g)) (irr y)
  subst hxy
  have:l=k:=qQs irr tr a2 b2 fun z=>by
   constructor
   ·intro hz
    rcases jH.1 ((h z).1 (jK _ hz)) with e|e
    ·rw[e] at hz;exact absurd (a1 x hz) (irr x)
    ·exact e
   ·intro hz
    rcases jH.1 ((h z).2 (jK _ hz)) with e|e
    ·rw[e] at hz;exact absurd (b1 x hz) (irr x)
    ·exact e
  rw[this]
def insU{α:Type}[DecidableEq α](b:α→α→Bool)(e:α):List α→List α
 |[]=>[e]
 |x::l=>if b x e=true then x::insU b e l else if x=e then x::l else e::x::l
theorem qTb{α:Type}[DecidableEq α]{b:α→α→Bool}{e z:α}:∀{l:List α},z∈insU b e l↔z=e∨z∈l
 |[]=>by simp[insU]
 |x::l=>by
  have ih:=qTb (b:=b) (e:=e) (z:=z) (l:=l)
  simp only[insU]
  split
  ·rw[jH,ih,jH]
   constructor
   ·rintro(h|h|h)
    ·exact .inr (.inl h)
    ·exact .inl h
    ·exact .inr (.inr h)
   ·rintro(h|h|h)
    ·exact .inr (.inl h)
    ·exact .inl h
    ·exact .inr (.inr h)
  ·split
   ·rename_i h
    constructor
    ·exact .inr
    ·rintro(g|g)
     ·rw[g,←h];exact jJ ..
     ·exact g
   ·exact jH
theorem qXw{α:Type}[DecidableEq α]{b:α→α→Bool}{e:α}:∀{l:List α},(insU b e l).length≤l.length+1
 |[]=>jL _
 |x::l=>by
  have ih:=qXw (b:=b) (e:=e) (l:=l)
  simp only[insU]
  split
  ·simp only[jA];omega
  ·split
   ·simp only[jA];omega
   ·simp only[jA];omega
theorem qTy{α:Type}[DecidableEq α]{b:α→α→Bool}(tr:∀x y z,b x y=true→b y z=true→b x z=true){e:α}:∀{l:List α},(∀x∈l,b x e=false→x≠e→b e x=true)→l.Pairwise (fun x y=>b x y=true)→(insU b e l).Pairwise fun x y=>b x y=true
 |[],_,_=>List.pairwise_singleton ..
 |x::l,ht,hp=>by
  obtain⟨h1,h2⟩:=jQ.1 hp
  simp only[insU]
  split
  ·rename_i h
   refine jQ.2 ⟨fun y hy=> ?_,qTy tr (fun y hy=>ht y (jK _ hy)) h2⟩
   rcases qTb.1 hy with rfl|hy
   ·exact h
   ·exact h1 y hy
  ·rename_i h
   split
   ·exact hp
   ·rename_i hne
    have hx:=ht x (jJ ..) (by simpa using h) hne
    refine jQ.2 ⟨fun y hy=> ?_,hp⟩
    rcases jH.1 hy with rfl|hy
    ·exact hx
    ·exact tr _ _ _ hx (h1 y hy)
theorem bl_lt:∀a b:List UInt8,Op.bytesLess a b=true↔a<b
 |_,[]=>by simp[Op.bytesLess]
 |[],_::_=>by simp[Op.bytesLess]
 |x::a,y::b=>by
  have ih:=bl_lt a b
  simp only[Op.bytesLess,gM,j9,jO,kC,List.cons_lt_cons_iff,ih]
theorem zKo{a b:ByteArray}:blt a b=true↔a.data.toList<b.data.toList:=by
 unfold blt
 rw[bl_lt,ByteArray.toList_eq,ByteArray.toList_eq]
theorem zKc{a b:ByteArray}:a.data.toList≤b.data.toList↔blt b a=false:=by
 rw[←List.not_lt,←zKo];simp
theorem zEg{l:List ByteArray}(hn:l.Nodup):(qOm l).Pairwise fun x y=>blt x y=true:=by
 have h1:(qOm l).Pairwise fun x y=>decide (x.data.toList≤y.data.toList)=true:=by
  unfold qOm
  refine List.pairwise_mergeSort (fun x y z h1 h2=> ?_) (fun x y=> ?_) l
  ·simp only[j9] at*;exact List.le_trans h1 h2
  ·simp only[gM,j9];exact List.le_total _ _
 have h2:(qOm l).Pairwise fun x y=>x≠y:=by
  have:(qOm l).Nodup:=by unfold qOm;exact((List.mergeSort_perm l _).nodup_iff).2 hn
  exact this
 refine(h1.and h2).imp fun {x y} h=> ?_
 have h3:=zKc.1 (kL h.1)
 rcases qNa x y with g|g|g
 ·exact g
 ·exact absurd g h.2
 ·rw[g] at h3;cases h3
theorem zGv{l:List ByteArray}{z:ByteArray}:z∈qOm l↔z∈l:=by unfold qOm;exact List.mem_mergeSort
def addB(l:List ByteArray)(s:ByteArray):List ByteArray:=insU blt s l
theorem qUa:∀(K l:List ByteArray),l.Pairwise (fun x y=>blt x y=true)→(K.foldl addB l).Pairwise (fun x y=>blt x y=true)∧∀z,z∈K.foldl addB l↔z∈l∨z∈K
 |[],l,h=>⟨h,fun z=>by simp⟩
 |s::K,l,h=>by
  have h1:(addB l s).Pairwise fun x y=>blt x y=true:=qTy (b:=blt) (e:=s) (l:=l) (fun _ _ _ h1 h2=>qKh h1 h2) (fun x _ h2 h3=>by
   rcases qNa x s with g|g|g
   ·rw[g] at h2;cases h2
   ·exact absurd g h3
   ·exact g) h
  obtain⟨h2,h3⟩:=qUa K (addB l s) h1
  refine⟨h2,fun z=> ?_⟩
  rw[jP,h3 z]
  unfold addB
  rw[qTb,jH]
  constructor
  ·rintro((h|h)|h)
   ·exact .inr (.inl h)
   ·exact .inl h
   ·exact .inr (.inr h)
  ·rintro(h|h|h)
   ·exact .inl (.inr h)
   ·exact .inl (.inl h)
   ·exact .inr h
theorem zHa{l K:List ByteArray}(hn:l.Nodup)(hm:∀z,z∈l↔z∈K):qOm l=K.foldl addB []:=by
 obtain⟨h1,h2⟩:=qUa K [] List.Pairwise.nil
 refine qQs (lt:=fun x y=>blt x y=true) (fun x h=>by rw[qIp] at h;cases h) (fun _ _ _ h1 h2=>qKh h1 h2) (zEg hn) h1 fun z=> ?_
 rw[zGv,h2 z,hm z];simp
theorem zDc{O:List Occ}{k k':Int}{p p' n n':ByteArray}(h:keyC k p n=keyC k' p' n'):entE O k p n=entE O k' p' n':=by
 have e:noE k p n=noE k' p' n':=by
  obtain⟨rfl,rfl,h3⟩:=qPp h
  unfold noE
  rcases h3 with rfl|rfl
  ·simp
  ·rfl
 have e2:seeE k p n=seeE k' p' n':=by
  obtain⟨rfl,rfl,-⟩:=qPp h
  funext x o
  unfold seeE
  rw[h]
 unfold entE
 rw[e,e2]
def seeI(k:Int)(p n:ByteArray)(e:Ent):Prop:=e.2.1=n∧e.2.2.1=k∧(k=3∨e.1=p)
theorem zAr(O:List Occ)(k:Int)(p n:ByteArray):seeI k p n (entE O k p n):=by
 suffices h:∀(O:List Occ) (e:Ent),seeI k p n e→seeI k p n (O.foldl (seeE k p n) e) from h O _ ⟨rfl,rfl,by
  unfold noE
  by_cases h:k=3
  ·exact .inl h
  ·exact .inr (if_neg h)⟩
 intro O
 induction O with
 |nil=>intro e h;exact h
 |cons o O ih=>
  intro e h
  rw[jP]
  refine ih _ ?_
  unfold seeE
  split
  ·rename_i hk
   obtain⟨e1,e2,e3⟩:=qPp (show keyC o.2.2.1 o.1 o.2.1=keyC k p n from hk)
   split
   ·exact⟨rfl,rfl,by rw[←e1];rcases e3 with e3|e3;exact .inl e3;exact .inr e3⟩
   ·exact h
  ·exact h
theorem zIu(O:List Occ)(k:Int)(p n:ByteArray):keyC (entE O k p n).2.2.1 (entE O k p n).1 (entE O k p n).2.1=keyC k p n:=by
 obtain⟨h1,h2,h3⟩:=zAr O k p n
 rw[h1,h2]
 unfold keyC
 rcases h3 with h3|h3
 ·simp[h3]
 ·rw[h3]
theorem qRw(O:List Occ)(k:Int)(p n:ByteArray):(entE O k p n).2.2.2.2.2=(O.countP fun o=>decide (okey o=keyC k p n):Nat):=by
 suffices h:∀(O:List Occ) (e:Ent),(O.foldl (seeE k p n) e).2.2.2.2.2=e.2.2.2.2.2+(O.countP fun o=>decide (okey o=keyC k p n):Nat) by
  have:=h O (noE k p n)
  unfold entE
  rw[this]
  show(0:Int)+_=_
  omega
 intro O
 induction O with
 |nil=>intro e;simp
 |cons o O ih=>
  intro e
  rw[jP,ih,List.countP_cons]
  unfold seeE
  by_cases hk:okey o=keyC k p n
  ·simp only[if_pos hk,hk,decide_true,jU]
   split
   ·rename_i h0
    simp only[h0];omega
   ·simp only[];omega
  ·simp only[if_neg hk,hk,decide_false]
   simp
theorem zJb{O:List Occ}{k:Int}{p n:ByteArray}:(entE O k p n).2.2.2.2.2≠0↔∃o∈O,okey o=keyC k p n:=by
 rw[qRw]
 constructor
 ·intro h
  have:0<O.countP fun o=>decide (okey o=keyC k p n):=by omega
  obtain⟨o,h1,h2⟩:=List.countP_pos_iff.1 this
  exact⟨o,h1,kL h2⟩
 ·rintro⟨o,h1,h2⟩
  have:0<O.countP fun o=>decide (okey o=keyC k p n):=List.countP_pos_iff.2 ⟨o,h1,kF h2⟩
  omega
def entO(O:List Occ)(o:Occ):Ent:=entE O o.2.2.1 o.1 o.2.1
def keyV(v:Ent):K3:=keyC v.2.2.1 v.1 v.2.1
theorem qLx(O:List Occ)(o:Occ):keyV (entO O o)=okey o:=zIu ..
theorem zBp{O:List Occ}{o o':Occ}(h:okey o=okey o'):entO O o=entO O o':=zDc h
theorem zCu{O:List Occ}{o o':Occ}(h:keyV (entO O o)=keyV (entO O o')):entO O o=entO O o':=zBp (by rw[←qLx O o,←qLx O o',h])
def mapO(O:List Occ):List (K3×Ent):=O.foldl qIc []
theorem zAg:∀(O:List Occ) (M:List (K3×Ent)) (J:List Occ),(M.map (·.1)).Nodup→(∀c v,mget M c=some v→∃o∈J,c=okey o)→((O.foldl qIc M).map (·.1)).Nodup∧∀c v,mget (O.foldl qIc M) c=some v→∃o∈J++O,c=okey o
 |[],M,J,hn,h=>⟨hn,by rw[List.append_nil];exact h⟩
 |o::O,M,J,hn,h=>by
  rw[jP,show J++o::O=(J++[o])++O by simp]
  refine zAg O _ _ (qKr hn _ _) fun c v hc=> ?_
  unfold qIc at hc
  rw[qNb hn] at hc
  by_cases e:c=okey o
  ·exact⟨o,by simp,e⟩
  ·rw[if_neg e] at hc
   obtain⟨o',h1,h2⟩:=h c v hc
   exact⟨o',by simp[h1],h2⟩
theorem zDl{O:List Occ}(hO:O.length<1000000){c:K3}{v:Ent}:(c,v)∈mapO O↔∃o∈O,c=okey o∧v=entO O o:=by
 have hM:=MapE.fold hO
 obtain⟨hn,hk⟩:=zAg O [] [] gC (fun c v h=>by simp[mget] at h)
 unfold mapO
 rw[←qRg hM.1]
 constructor
 ·intro h
  obtain⟨o,h1,h2⟩:=hk c v h
  rw[jZ] at h1
  refine⟨o,h1,h2,?_⟩
  rw[h2,show okey o=keyC o.2.2.1 o.1 o.2.1 from rfl,hM.2] at h
  split at h
  ·cases h
  ·exact(jC h).symm
 ·rintro⟨o,h1,rfl,rfl⟩
  rw[show okey o=keyC o.2.2.1 o.1 o.2.1 from rfl,hM.2,if_neg]
  ·rfl
  ·exact zJb.2 ⟨o,h1,rfl⟩
theorem zDg{O:List Occ}(hO:O.length<1000000):((mapO O).map (·.1)).Nodup:=(MapE.fold hO).1
end
section
open Go Go.Dc Go.Proofs
theorem qTe{α β:Type}(p:α→Bool)(g:α→β):∀(L:List α) (acc:List β),L.foldl (fun t x=>if p x=true then t++[g x] else t) acc=acc++(L.filter p).map g
 |[],acc=>by simp
 |x::L,acc=>by
  rw[jP,qTe p g L,kA]
  by_cases h:p x=true
  ·rw[if_pos h,if_pos h];simp
  ·rw[if_neg h,if_neg h]
theorem qPq{α σ β:Type}{f:Option α→σ→Option (σ⊕β)}(g:σ→α→σ)(fin:σ→β)(I:Nat→σ→Prop)(h1:∀n x s,I (n+1) s→f (some x) s=some (.inl (g s x))∧I n (g s x))(h2:∀s,f none s=some (.inr (fin s))):∀(k:List α) (s:σ),I k.length s→qJr f k s=some (fin (k.foldl g s))
 |[],s,_=>by simp only[qJr,h2,j0,List.foldl_nil]
 |x::k,s,hI=>by
  obtain⟨e1,e2⟩:=h1 k.length x s (by simpa using hI)
  simp only[qJr,e1,j0,jP]
  exact qPq g fin I h1 h2 k _ e2
def qRy(L:List File):List ByteArray:=if qHr L=0 then qHy L else[]
theorem qRn{N:Nat}{L:List File}(hP:qLc N L)(hN:1000001<N):qFp N L=some (qRy L):=by
 simp only[qFp,zBy hP hN,j0]
 unfold qUn qRy
 by_cases hc:qHr L=0
 ·rw[if_pos hc,if_pos hc]
 ·rw[if_neg hc,if_neg hc]
theorem qXz:∀(l:List (ByteArray×Sr)) (S:List (ByteArray×Sr)) (c:ByteArray),(S.map (·.1)).Nodup→(l.map (·.1)).Nodup→
  ((l.foldl (fun S x=>mset S x.1 x.2) S).map (·.1)).Nodup∧(∀v,(c,v)∈l→mget (l.foldl (fun S x=>mset S x.1 x.2) S) c=some v)∧((∀v,(c,v)∉l)→mget (l.foldl (fun S x=>mset S x.1 x.2) S) c=mget S c)
 |[],S,c,h1,_=>⟨h1,(fun v h=>by cases h),fun _=>rfl⟩
 |x::l,S,c,h1,h2=>by
  rw[jW,gF] at h2
  obtain⟨g1,g2,g3⟩:=qXz l (mset S x.1 x.2) c (qKr h1 _ _) h2.2
  rw[jP]
  refine⟨g1,fun v hv=> ?_,fun hv=> ?_⟩
  ·rcases jH.1 hv with e|hv
   ·subst e
    rw[g3 fun v' h'=>h2.1 (kX.2 ⟨_,h',rfl⟩),qNb h1,if_pos rfl]
   ·exact g2 v hv
  ·rw[g3 fun v h=>hv v (jK _ h),qNb h1,if_neg]
   rintro rfl
   exact hv x.2 (jJ ..)
theorem qTz{L:List File}(ha:Asc L):((qFi L).map (·.1)).Nodup:=by
 unfold qFi
 rw[List.map_map]
 exact List.pairwise_map.2 ((List.Pairwise.filter _ ha).imp fun h=>zFd h)
def zDv(L:List File):List (ByteArray×Sr):=(qFi L).foldl (fun S x=>mset S x.1 x.2) []
theorem zAk{L:List File}(ha:Asc L):((zDv L).map (·.1)).Nodup:=(qXz (qFi L) [] qRi gC (qTz ha)).1
theorem qVj{L:List File}(ha:Asc L){x:ByteArray×Sr}:x∈zDv L↔x∈qFi L:=by
 have h:=fun c=>qXz (qFi L) [] c gC (qTz ha)
 obtain⟨c,v⟩:=x
 rw[←qRg (zAk ha)]
 by_cases hx:∃v',(c,v')∈qFi L
 ·obtain⟨v',hv'⟩:=hx
  have e:mget (zDv L) c=some v':=(h c).2.1 v' hv'
  rw[e]
  constructor
  ·intro g;rw[←jC g];exact hv'
  ·intro g
   have:=(h c).2.1 v g
   exact e.symm.trans this
 ·have e:mget (zDv L) c=none:=(h c).2.2 fun v' hv'=>hx ⟨v',hv'⟩
  rw[e]
  exact⟨(fun g=>by cases g),fun g=>absurd ⟨v,g⟩ hx⟩
end
section
open Go Go.Dc Go.Proofs
section
variable {κ ν:Type} [DecidableEq κ]
theorem qYz:∀(l:List (κ×ν)) (k:κ) (v:ν),(qMa l k v).length≤l.length+1
 |[],k,v=>by simp[qMa]
 |p::l,k,v=>by
  have:=qYz l k v
  simp only[qMa]
  split
  ·simp
  ·simp only[jA];omega
theorem qXl[KOrd κ]{l:List (κ×ν)}(hn:(l.map (·.1)).Nodup)(k:κ)(v:ν):(mset l k v).length≤l.length+1:=by
 have h1:=(qLo (.refl l) hn k v).length_eq
 have h2:=qYz l k v
 omega
theorem zEz[KOrd κ]{l:List (κ×ν)}(hn:(l.map (·.1)).Nodup)(k:κ)(v:ν)(c:κ):c∈(mset l k v).map (·.1)↔c=k∨c∈l.map (·.1):=by
 have h:=qNb hn k v c
 have a1:mget (mset l k v) c=none↔c∉(mset l k v).map (·.1):=qPd
 have a2:mget l c=none↔c∉l.map (·.1):=qPd
 by_cases e:c=k
 ·rw[if_pos e] at h
  refine⟨fun _=> .inl e,fun _=> ?_⟩
  by_cases g:c∈(mset l k v).map (·.1)
  ·exact g
  ·rw[a1.2 g] at h;cases h
 ·rw[if_neg e] at h
  rw[h,a2] at a1
  constructor
  ·intro g;exact .inr (Decidable.byContradiction fun q=>a1.1 q g)
  ·rintro(g|g)
   ·exact absurd g e
   ·exact Decidable.byContradiction fun q=>a1.2 q g
end
def zBd(L:List File):List ByteArray:=(qFi L).map fun x=>x.2.1
def qRc(L:List File):List ByteArray:=if qHr L=0 then(zBd L).foldl addB [] else[]
abbrev HasM:=List (ByteArray×Bool)
def hasF(M:HasM)(x:ByteArray×Sr):HasM:=mset M x.2.1 true
theorem qYf:∀(k:List (ByteArray×Sr)) (M:HasM),(M.map (·.1)).Nodup→((k.foldl hasF M).map (·.1)).Nodup∧(k.foldl hasF M).length≤M.length+k.length∧∀c,c∈(k.foldl hasF M).map (·.1)↔c∈M.map (·.1)∨c∈k.map fun x=>x.2.1
 |[],M,h=>⟨h,jL _,fun c=>by simp⟩
 |x::k,M,h=>by
  obtain⟨h1,h2,h3⟩:=qYf k (hasF M x) (qKr h _ _)
  have h4:(hasF M x).length≤M.length+1:=qXl h _ _
  refine⟨h1,by simp only[jP,jA];omega,fun c=> ?_⟩
  rw[jP,h3 c,show c∈(hasF M x).map (·.1)↔c=x.2.1∨c∈M.map (·.1) from zEz h _ _ c,jW,jH]
  constructor
  ·rintro((g|g)|g)
   ·exact .inr (.inl g)
   ·exact .inl g
   ·exact .inr (.inr g)
  ·rintro(g|g|g)
   ·exact .inl (.inr g)
   ·exact .inl (.inl g)
   ·exact .inr g
theorem zIy{N:Nat}(k:List (ByteArray×Sr)):qJr (qFk N) k (some [])=some (some (k.foldl hasF [])):=by
 have h:=qPq (f:=qFk N) (fun s x=>some (hasF (s.getD []) x)) (fun s=>s) (fun _ s=>s.isSome=true) (fun n x s hs=>by
  obtain⟨M,rfl⟩:=fI.1 hs
  exact⟨rfl,rfl⟩) (fun s=>rfl) k (some []) rfl
 rw[h]
 congr 1
 suffices g:∀(k:List (ByteArray×Sr)) (M:HasM),k.foldl (fun s x=>some (hasF (s.getD []) x)) (some M)=some (k.foldl hasF M) from g k []
 intro k
 induction k with
 |nil=>intro M;rfl
 |cons x k ih=>intro M;rw[jP,jP];exact ih _
theorem zIx{N:Nat}(k:HasM)(hk:k.length<1000000):qJr (qEh N) k []=some (k.map (·.1)):=by
 have h:=qPq (f:=qEh N) (fun s x=>s++[x.1]) (fun s=>s) (fun n s=>s.length+n<1000000) (fun n x s hs=>by
  refine⟨?_,by simp only[jI,jA,jB];omega⟩
  simp only[qEh]
  rw[qCq (by simp only[jA,jB];omega) (by omega)]
  rfl) (fun s=>rfl) k [] (by simpa using hk)
 rw[h]
 congr 1
 suffices g:∀(k:HasM) (s:List ByteArray),k.foldl (fun s x=>s++[x.1]) s=s++k.map (·.1) from g k []
 intro k
 induction k with
 |nil=>intro s;simp
 |cons x k ih=>intro s;rw[jP,ih];simp
theorem zJe{N:Nat}{l:List ByteArray}(hl:l.length<1000000):qBt N l=some (qOm l):=by
 unfold qBt
 rw[if_pos (by omega)]
theorem qZc{N:Nat}{L:List File}(hP:qLc N L)(hN:1000001<N):qHx N L=some (qRc L):=by
 simp only[qHx,zBy hP hN,j0]
 have key:∀(S:List (ByteArray×Sr)) (K:List ByteArray),S.length<100000→(∀z,z∈S.map (fun x=>x.2.1)↔z∈K)→
   qLw (qFk N) S (some []:Option HasM) (fun o1=>qLw (qEh N) (Option.getD o1 []) ([]:List ByteArray) (fun o2=>(qBt N o2).bind fun y2=>some y2))=some (K.foldl addB []):=by
  intro S K hS hK
  refine qRt fun k hk=> ?_
  rw[zIy]
  simp only[j0,gQ]
  obtain⟨h1,h2,h3⟩:=qYf k [] gC
  have hkl:=hk.length_eq
  refine qRt fun k2 hk2=> ?_
  have hkl2:=hk2.length_eq
  simp only[jB] at h2
  rw[zIx k2 (by omega)]
  simp only[j0]
  rw[zJe (by rw[kH];omega)]
  simp only[j0]
  congr 1
  refine zHa ((hk2.map _).nodup_iff.2 h1) fun z=> ?_
  rw[(hk2.map _).mem_iff,h3 z,←hK z,(hk.map _).mem_iff]
  simp
 unfold qUn qRc
 by_cases hc:qHr L=0
 ·have ha:=(qJu.1 hc).2.1
  have hl:=(qJu.1 hc).1
  simp only[if_pos hc]
  refine Eq.trans (congrArg (fun z=>Option.bind z _) (show isQ (some ((qFi L).foldl (fun S x=>mset S x.1 x.2) []))=some () from rfl)) ?_
  simp only[j0,gQ]
  refine key (zDv L) (zBd L) ?_ fun z=> ?_
  ·have g:∀(l:List (ByteArray×Sr)) (S:List (ByteArray×Sr)),(S.map (·.1)).Nodup→(l.foldl (fun S x=>mset S x.1 x.2) S).length≤S.length+l.length:=by
    intro l
    induction l with
    |nil=>intro S _;exact jL _
    |cons x l ih=>
     intro S hS
     have:=ih (mset S x.1 x.2) (qKr hS _ _)
     have:=qXl hS x.1 x.2
     simp only[jP,jA];omega
   have:=g (qFi L) [] gC
   have:=qTj L
   unfold zDv
   simp only[jB] at*
   omega
  ·unfold zBd
   simp only[kX]
   constructor
   ·rintro⟨x,h1,h2⟩;exact⟨x,(qVj ha).1 h1,h2⟩
   ·rintro⟨x,h1,h2⟩;exact⟨x,(qVj ha).2 h1,h2⟩
 ·simp only[if_neg hc]
  refine Eq.trans (congrArg (fun z=>Option.bind z _) (show isQ (some ([]:List (ByteArray×Sr)))=some () from rfl)) ?_
  simp only[j0,gQ]
  exact key [] [] (by decide) fun z=>by simp
end
section
open Go Go.Dc Go.Proofs
def bE(x y:Ent):Bool:=decide (qJo x y<0)
theorem qRx{x y:Ent}:qJo x y=0↔keyV x=keyV y:=by
 unfold qJo
 rw[cmpPl_lin.zero]
 unfold keyV keyC qLy
 simp only[Prod.mk.injEq]
 constructor
 ·rintro⟨_,h2,h3,h4⟩;exact⟨h3,h2,h4⟩
 ·rintro⟨h3,h2,h4⟩;exact⟨by rw[h3],h2,h3,h4⟩
theorem qYd{x y z:Ent}:qJo x y<0→qJo y z<0→qJo x z<0:=cmpPl_lin.trans _ _ _
theorem bE_irr(x:Ent):¬bE x x=true:=by
 unfold bE
 have:qJo x x=0:=qRx.2 rfl
 simp[this]
theorem zCq(x y z:Ent)(h1:bE x y=true)(h2:bE y z=true):bE x z=true:=by
 unfold bE at*
 simp only[j9] at*
 exact qYd h1 h2
theorem zBw{x y:Ent}(h1:bE x y=false)(h2:keyV x≠keyV y):bE y x=true:=by
 unfold bE at*
 simp only[j9,decide_eq_false_iff_not] at*
 have h3:qJo x y≠0:=fun e=>h2 (qRx.1 e)
 exact(qNw y x).2 (by omega)
def OfO(O:List Occ)(l:List Ent):Prop:=∀x∈l,∃o∈O,x=entO O o
def insE(O:List Occ)(out:List Ent)(o:Occ):List Ent:=insU bE (entO O o) out
def qKp(O:List Occ):List Ent:=O.foldl (insE O) []
theorem qZf{O:List Occ}:∀(J:List Occ) (l:List Ent),(∀o∈J,o∈O)→OfO O l→l.Pairwise (fun x y=>bE x y=true)→OfO O (J.foldl (insE O) l)∧(J.foldl (insE O) l).Pairwise (fun x y=>bE x y=true)∧(∀z,z∈J.foldl (insE O) l↔z∈l∨∃o∈J,z=entO O o)∧(J.foldl (insE O) l).length≤l.length+J.length
 |[],l,_,h1,h2=>⟨h1,h2,(fun z=>by simp),jL _⟩
 |o::J,l,hJ,h1,h2=>by
  have hm:∀z,z∈insE O l o↔z=entO O o∨z∈l:=fun z=>qTb
  have a1:OfO O (insE O l o):=fun x hx=>by
   rcases(hm x).1 hx with rfl|hx
   ·exact⟨o,hJ o (jJ ..),rfl⟩
   ·exact h1 x hx
  have a2:(insE O l o).Pairwise fun x y=>bE x y=true:=qTy zCq (fun x hx h3 h4=>by
   refine zBw h3 fun e=>h4 ?_
   obtain⟨o',_,rfl⟩:=h1 x hx
   exact zCu e) h2
  have a3:(insE O l o).length≤l.length+1:=qXw
  obtain⟨g1,g2,g3,g4⟩:=qZf J (insE O l o) (fun o' ho'=>hJ o' (jK _ ho')) a1 a2
  rw[jP]
  refine⟨g1,g2,fun z=> ?_,by simp only[jA];omega⟩
  rw[g3 z,hm z]
  constructor
  ·rintro((h|h)|⟨o',h,h'⟩)
   ·exact .inr ⟨o,jJ ..,h⟩
   ·exact .inl h
   ·exact .inr ⟨o',jK _ h,h'⟩
  ·rintro(h|⟨o',h,h'⟩)
   ·exact .inl (.inr h)
   ·rcases jH.1 h with rfl|h
    ·exact .inl (.inl h')
    ·exact .inr ⟨o',h,h'⟩
theorem qNd(O:List Occ):OfO O (qKp O)∧(qKp O).Pairwise (fun x y=>bE x y=true)∧(∀z,z∈qKp O↔∃o∈O,z=entO O o)∧(qKp O).length≤O.length:=by
 obtain⟨h1,h2,h3,h4⟩:=qZf (O:=O) O [] (fun _ h=>h) (fun x hx=>by cases hx) List.Pairwise.nil
 exact⟨h1,h2,(fun z=>by rw[show qKp O=O.foldl (insE O) [] from rfl,h3 z];simp),by rw[jB,kM] at h4;exact h4⟩
theorem zFp{O:List Occ}{l:List Ent}(hn:(l.map keyV).Nodup)(hm:∀z,z∈l↔∃o∈O,z=entO O o):(l.mergeSort fun x y=> !(Go.Proofs.ltOf qJo y x))=qKp O:=by
 have h1:=List.pairwise_mergeSort (le:=fun x y=> !(Go.Proofs.ltOf qJo) y x) (fun x y z h1 h2=>by
  simp only[fQ,ltOf,decide_eq_false_iff_not] at*
  intro h3
  have s:=cmpEnt_swo.ntrans z y x (by simpa[ltOf] using h2) (by simpa[ltOf] using h1)
  simp[ltOf] at s;omega) (fun x y=>by
  simp only[gM,fQ,ltOf,decide_eq_false_iff_not]
  have:=qNw x y;omega) l
 have hp:=List.mergeSort_perm l (fun x y=> !(Go.Proofs.ltOf qJo y x))
 have h2:(l.mergeSort fun x y=> !(Go.Proofs.ltOf qJo y x)).Pairwise fun x y=>keyV x≠keyV y:=List.pairwise_map.1 ((hp.map keyV).nodup_iff.2 hn)
 obtain⟨-,g2,g3,-⟩:=qNd O
 refine qQs (lt:=fun x y=>bE x y=true) bE_irr zCq ((h1.and h2).imp fun {x y} h=> ?_) g2 fun z=> ?_
 ·have h3:bE y x=false:=by
   have:=h.1
   simp only[fQ,ltOf] at this
   exact this
  exact zBw h3 (Ne.symm h.2)
 ·rw[List.mem_mergeSort,hm z,g3 z]
theorem zIc{N:Nat}{O:List Occ}{l:List Ent}(hn:(l.map keyV).Nodup)(hm:∀z,z∈l↔∃o∈O,z=entO O o)(hl:l.length<1000000)(hN:10≤N):qAo N l=some (qKp O):=by
 unfold qAo
 rw[if_pos ⟨hN,by omega,fun x hx y hy h=>by
  obtain⟨o,_,rfl⟩:=(hm x).1 hx
  obtain⟨o',_,rfl⟩:=(hm y).1 hy
  exact zCu (qRx.1 h)⟩,zFp hn hm]
def qUr(L:List File):List Ent:=if qHr L=0 then qKp (qKu (qFi L)) else[]
theorem zCm:∀(O:List Occ) (M:List (K3×Ent)),(M.map (·.1)).Nodup→(O.foldl qIc M).length≤M.length+O.length
 |[],M,_=>jL _
 |o::O,M,h=>by
  have h1:=zCm O (qIc M o) (qKr h _ _)
  have h2:(qIc M o).length≤M.length+1:=qXl h _ _
  simp only[jP,jA];omega
theorem zJu{N:Nat}(k:List (K3×Ent))(hk:k.length<1000000):qJr (qCw N) k []=some (k.map (·.2)):=by
 have h:=qPq (f:=qCw N) (fun s x=>s++[x.2]) (fun s=>s) (fun n s=>s.length+n<1000000) (fun n x s hs=>by
  refine⟨?_,by simp only[jI,jA,jB];omega⟩
  simp only[qCw]
  rw[qCq (by simp only[jA,jB];omega) (by omega)]
  rfl) (fun s=>rfl) k [] (by simpa using hk)
 rw[h]
 congr 1
 suffices g:∀(k:List (K3×Ent)) (s:List Ent),k.foldl (fun s x=>s++[x.2]) s=s++k.map (·.2) from g k []
 intro k
 induction k with
 |nil=>intro s;simp
 |cons x k ih=>intro s;rw[jP,ih];simp
theorem qOz{N:Nat}{L:List File}(hP:qLc N L)(hN:1000001<N):qFe N L=some (qUr L):=by
 simp only[qFe,zBy hP hN,j0]
 have key:∀(M:List (K3×Ent)) (O:List Occ),M.length<1000000→(M.map (·.1)).Nodup→(∀c v,(c,v)∈M↔∃o∈O,c=okey o∧v=entO O o)→
   qLw (qCw N) M ([]:List Ent) (fun o1=>(qAo N o1).bind fun y2=>some y2)=some (qKp O):=by
  intro M O hM hn hO
  refine qRt fun k hk=> ?_
  have hkl:=hk.length_eq
  rw[zJu k (by omega)]
  simp only[j0]
  have e:(k.map (·.2)).map keyV=k.map (·.1):=by
   rw[List.map_map]
   refine fG fun x hx=> ?_
   obtain⟨o,_,h1,h2⟩:=(hO x.1 x.2).1 (hk.mem_iff.1 hx)
   simp only[Function.comp]
   rw[h2,qLx,h1]
  rw[zIc (O:=O) (by rw[e];exact(hk.map _).nodup_iff.2 hn) (fun z=>by
   simp only[kX]
   constructor
   ·rintro⟨x,hx,rfl⟩
    obtain⟨o,h1,_,h2⟩:=(hO x.1 x.2).1 (hk.mem_iff.1 hx)
    exact⟨o,h1,h2⟩
   ·rintro⟨o,h1,rfl⟩
    exact⟨(okey o,entO O o),hk.mem_iff.2 ((hO _ _).2 ⟨o,h1,rfl,rfl⟩),rfl⟩) (by rw[kH];omega) (by omega)]
  rfl
 unfold qUn qUr
 by_cases hc:qHr L=0
 ·have hl:=(qJu.1 hc).1
  have hO:=qTp hl
  simp only[if_pos hc]
  refine Eq.trans (congrArg (fun z=>Option.bind z _) (show isQ (some ((qKu (qFi L)).foldl qIc []))=some () from rfl)) ?_
  simp only[j0,gQ]
  refine key (mapO (qKu (qFi L))) _ ?_ (zDg hO) fun c v=>zDl hO
  have:=zCm (qKu (qFi L)) [] gC
  unfold mapO
  simp only[jB] at this
  omega
 ·simp only[if_neg hc]
  refine Eq.trans (congrArg (fun z=>Option.bind z _) (show isQ (some ([]:List (K3×Ent)))=some () from rfl)) ?_
  simp only[j0,gQ]
  exact key [] [] (by decide) gC fun c v=>by simp
end
section
open Go Go.Dc Go.Proofs
section
variable {ts:List Tok} {params:List ByteArray} {E S:Ps→PM Nat} {B:Nat}
end
theorem qYx{β:Type}{b:β}{n:Nat}{f:Int→Option (Int⊕β)}(hs:∀i,i<n→f (i:Int)=some (.inl ((i+1:Nat):Int)))(hf:f (n:Int)=some (.inr b)):∀(d i M:Nat),i+d=n→d<M→qBf f M (i:Int)=some b
 |_,_,0,_,h=>absurd h (kN _)
 |0,i,M+1,h1,_=>by
  have:i=n:=by omega
  subst this
  simp only[qBf,hf,j0]
 |d+1,i,M+1,h1,h2=>by
  simp only[qBf,hs i (by omega),j0]
  exact qYx hs hf d (i+1) M (by omega) (by omega)
theorem each0{β:Type}{b:β}{n M:Nat}{f:Int→Option (Int⊕β)}(hs:∀i,i<n→f (i:Int)=some (.inl ((i+1:Nat):Int)))(hf:f (n:Int)=some (.inr b))(hM:n<M):qBf f M 0=some b:=
 qYx hs hf n 0 M (by omega) hM
end
section
open Go Go.Dc Go.Proofs
theorem zBv:∀(K l:List ByteArray),(K.foldl addB l).length≤l.length+K.length
 |[],l=>jL _
 |x::K,l=>by
  have h1:=zBv K (addB l x)
  have h2:(addB l x).length≤l.length+1:=qXw
  simp only[jP,jA];omega
theorem zDa(L:List File):(qRc L).length≤64:=by
 unfold qRc
 by_cases hc:qHr L=0
 ·rw[if_pos hc]
  have h1:=zBv (zBd L) []
  have h2:=qTj L
  have h3:=(qJu.1 hc).1
  unfold zBd at*
  rw[kH,jB] at h1
  omega
 ·rw[if_neg hc];exact kY _
theorem qZr(L:List File):(qUr L).length<1000000:=by
 unfold qUr
 by_cases hc:qHr L=0
 ·rw[if_pos hc]
  have h1:=(qNd (qKu (qFi L))).2.2.2
  have h2:=qTp (qJu.1 hc).1
  omega
 ·rw[if_neg hc];exact(by decide)
theorem zDh{N:Nat}{l:List ByteArray}(h:l.length<1000000)(hN:l.length<N):qEx N l l=some true:=by
 unfold qEx
 rw[if_neg (by simp),each0 (n:=l.length) (b:=(.inl ():Unit⊕Bool)) (fun i hi=>by
  simp only[qDz]
  rw[if_pos (by simp only[j9];omega),qFw hi]
  have ew:IntKind.wrap .i64 ((i:Int)+1)=((i+1:Nat):Int):=by rw[wi64 (by omega) (by omega)];omega
  simp only[j0,fB,kW,jD,jS,ew]) (by
  simp only[qDz]
  rw[if_neg (by simp)]) hN]
 rfl
def qVz(x:Ent):Bool:=x.2.2.1==2&&x.2.2.2.2.2==1
abbrev Nm:=ByteArray×ByteArray
def zJn(L:List File):List Nm:=((qUr L).filter qVz).map fun x=>(x.1,x.2.1)
theorem zDw{N:Nat}{E:List Ent}{f:List Nm×Int→Option ((List Nm×Int)⊕List Nm)}(hE:E.length<1000000)(hN:1000000<N)
  (hf:∀s1:List Nm×Int,f s1=if(decide (s1.2<(List.length E:Int)))=true then(((idx E s1.2).bind fun x1=>(if(x1.2.2.1==2)=true then(some (x1.2.2.2.2.2==1)) else(some false):Option (Bool)).bind fun o3=>if o3=true then((qEo 32 s1.1 ([(x1.1,x1.2.1)])).bind fun l1=>some l1) else(some s1.1):Option ((List (ByteArray×ByteArray)))).bind fun o2=>some (.inl (o2,IntKind.wrap .i64 (s1.2+1)))) else(some (.inr s1.1))):
  qBf f N ([],0)=some ((E.filter qVz).map fun x=>(x.1,x.2.1)):=by
 have h:=qWm (L:=E) (fun(t:List Nm) (i:Nat)=>(t,(i:Int))) (f:=f)
  (fun t x=> .inl (if qVz x=true then t++[(x.1,x.2.1)] else t)) (fun t=>t) (fun i t=>t.length≤i) (by
   intro t i hi hI
   rw[hf]
   simp only
   rw[if_pos (by simp only[j9];omega),qFw hi]
   have ew:IntKind.wrap .i64 ((i:Int)+1)=((i+1:Nat):Int):=by rw[wi64 (by omega) (by omega)];omega
   simp only[j0,ew]
   unfold qVz
   by_cases h1:((E[i]).2.2.1==2)=true
   ·rw[if_pos h1,h1]
    simp only[j0,fV]
    by_cases h2:((E[i]).2.2.2.2.2==1)=true
    ·rw[if_pos h2,if_pos h2,qCq (by simp only[jA,jB];omega) (by omega)]
     rfl
    ·rw[if_neg h2,if_neg h2];rfl
   ·have h1':((E[i]).2.2.1==2)=false:=by simpa using h1
    rw[if_neg h1,h1']
    simp only[j0,Bool.false_and,jD,jS]) (by
   intro t i hi t' hI h
   cases h
   split
   ·simp only[jI,jA,jB];omega
   ·omega) (by
   intro t hI
   rw[hf]
   simp only
   rw[if_neg (by simp)]) (M:=N) (t:=[]) (by omega) (kY _)
 rw[show((0:Nat):Int)=0 from rfl] at h
 rw[h,qXo (fun t (x:Ent)=>if qVz x=true then t++[(x.1,x.2.1)] else t) (fun _ _=>rfl),qTe qVz (fun x=>(x.1,x.2.1))]
 simp
theorem zGb{N:Nat}{L:List File}(hP:qLc N L)(hN:1000001<N):qHw N L=some (zJn L):=by
 unfold qHw
 rw[qOz hP hN]
 simp only[j0]
 rw[zDw (f:=qIj N (qUr L)) (qZr L) (by omega) (fun _=>rfl)]
 rfl
theorem zIm{N:Nat}{L:List File}(kind:Int)(pkg name:ByteArray)(hP:qLc N L)(hN:1000001<N):qIn N L kind pkg name=some (zIn L kind pkg name):=by
 unfold qIn
 rw[zBy hP hN]
 simp only[j0]
 rw[zJi]
 rfl
theorem qZn{N:Nat}{L:List File}(h:∀f∈L,f.1.size≤1048576)(hN:3000000<N):qLc N L:=fun g hg=>zBf (by have:=h g hg;omega) (by have:=h g hg;omega)
theorem zEd{p:ByteArray}(h:qIx p.data.toList=true):p.size≤80:=by
 have:p.data.toList.length≤80:=(kL h).1
 have e:=qCc p
 omega
theorem qTs{N K:Nat}{L:List File}(h:MadeE K L)(hN:10000<N):qLc N L:=fun g hg=>by
 have:=zEd (h.2 g hg).1
 exact zBf (by omega) (by omega)
def wA:List File:=[((⟨#[97,46,115,114,99]⟩:ByteArray),(⟨#[112,97,99,107,97,103,101,32,112,59,32,102,117,110,99,32,102,40,41,32,61,32,49,59,32,116,101,115,116,32,116,32,61,32,102,40,41,59]⟩:ByteArray)),((⟨#[98,46,115,114,99]⟩:ByteArray),(⟨#[112,97,99,107,97,103,101,32,112,59,32,102,117,110,99,32,102,40,41,32,61,32,50,59]⟩:ByteArray)),((⟨#[99,46,115,114,99]⟩:ByteArray),(⟨#[102,117,110,99]⟩:ByteArray))]
theorem zKm:zIn wA 1 (⟨#[112]⟩:ByteArray) (⟨#[102]⟩:ByteArray)=((⟨#[112]⟩:ByteArray),(⟨#[102]⟩:ByteArray),1,(⟨#[97,46,115,114,99]⟩:ByteArray),0,2):=by kernel_rfl
theorem zIg:zJn wA=[((⟨#[112]⟩:ByteArray),(⟨#[116]⟩:ByteArray))]:=by kernel_rfl
theorem zEh:qRy wA=[(⟨#[99,46,115,114,99]⟩:ByteArray)]:=by kernel_rfl
theorem zJw{N:Nat}(h1:qIn N wA 1 (⟨#[112]⟩:ByteArray) (⟨#[102]⟩:ByteArray)=some ((⟨#[112]⟩:ByteArray),(⟨#[102]⟩:ByteArray),1,(⟨#[97,46,115,114,99]⟩:ByteArray),0,2))(h2:qHw N wA=some [((⟨#[112]⟩:ByteArray),(⟨#[116]⟩:ByteArray))])(h3:qFp N wA=some [(⟨#[99,46,115,114,99]⟩:ByteArray)]):qFj N=some true:=by
 unfold qFj
 refine Eq.trans (congrArg (fun z=>Option.bind z _) h1) ?_
 simp only[j0]
 refine Eq.trans (congrArg (fun z=>Option.bind z _) h2) ?_
 simp only[j0]
 refine Eq.trans (congrArg (fun z=>Option.bind z _) h3) ?_
 simp only[j0]
 refine Eq.trans (b:=some true) ?_ rfl
 kernel_rfl
theorem zHl{N:Nat}(hN:3000000<N):qFj N=some true:=by
 have hP:qLc N wA:=qZn (fun f hf=>by
  simp only[wA,jH,g9,or_false] at hf
  rcases hf with rfl|rfl|rfl<;>decide) hN
 exact zJw (by rw[zIm _ _ _ hP (by omega),zKm]) (by rw[zGb hP (by omega),zIg]) (by rw[qRn hP (by omega),zEh])
end
section
open Go Go.Dc Go.Proofs
def occE(e:Ent):Occ:=(e.1,e.2.1,e.2.2.1,e.2.2.2.1,e.2.2.2.2.1)
theorem zGm{O:List Occ}{k:Int}{p n:ByteArray}(h:(entE O k p n).2.2.2.2.2≠0):∃o∈O,okey o=keyC k p n∧occE (entE O k p n)=o:=by
 suffices g:∀(O J:List Occ) (e:Ent),(0≤e.2.2.2.2.2)→(e.2.2.2.2.2≠0→∃o∈J,okey o=keyC k p n∧occE e=o)→(O.foldl (seeE k p n) e).2.2.2.2.2≠0→∃o∈J++O,okey o=keyC k p n∧occE (O.foldl (seeE k p n) e)=o by
  have:=g O [] (noE k p n) (Int.le_refl 0) (fun h=>absurd rfl h) h
  rwa[jZ] at this
 intro O
 induction O with
 |nil=>intro J e _ h0 h1;rw[List.append_nil];exact h0 h1
 |cons o O ih=>
  intro J e hp h0 h1
  rw[show J++o::O=(J++[o])++O by simp,jP]
  rw[jP] at h1
  refine ih (J++[o]) (seeE k p n e o) ?_ ?_ h1
  ·unfold seeE
   split
   ·split
    ·exact(show(0:Int)≤1 by decide)
    ·simp only[];omega
   ·exact hp
  ·unfold seeE
   by_cases hk:okey o=keyC k p n
   ·rw[if_pos hk]
    by_cases hz:e.2.2.2.2.2=0
    ·rw[if_pos hz]
     intro _
     obtain⟨e1,e2,-⟩:=qPp (show keyC o.2.2.1 o.1 o.2.1=keyC k p n from hk)
     refine⟨o,by simp,hk,?_⟩
     unfold occE
     simp only
     rw[←e1,←e2]
    ·rw[if_neg hz]
     intro _
     obtain⟨o',m1,m2,m3⟩:=h0 hz
     exact⟨o',kO _ m1,m2,m3⟩
   ·rw[if_neg hk]
    intro hz
    obtain⟨o',m1,m2,m3⟩:=h0 hz
    exact⟨o',kO _ m1,m2,m3⟩
end
section
open Go Go.Dc Go.Proofs
abbrev OccS:=ByteArray×ByteArray×Int×Int
def qJn(o:Occ):OccS:=(o.1,o.2.1,o.2.2.1,o.2.2.2.2)
def keyS(s:OccS):K3:=keyC s.2.2.1 s.1 s.2.1
theorem qVx(o:Occ):okey o=keyS (qJn o):=rfl
theorem qUe(path path' pkg:ByteArray):∀(l:List Dl) (i:Nat),(qRm path pkg i l).map qJn=(qRm path' pkg i l).map qJn
 |[],_=>rfl
 |d::l,i=>by
  simp only[qRm,jW,qUe path path' pkg l (i+1)]
  rfl
def occS(s:Sr):List OccS:=(qRm qRi s.1 0 s.2.2).map qJn
theorem qQf:∀(l:List (ByteArray×Sr)),(qKu l).map qJn=(l.map (·.2)).flatMap occS
 |[]=>rfl
 |x::l=>by
  have ih:=qQf l
  unfold qKu at*
  rw[k7,List.map_append,jW,k7,ih]
  unfold occS
  rw[qUe x.1 qRi]
def zCf(c:K3):Int×ByteArray×Int×ByteArray:=(if c.1=3 then 1 else 0,c.2.1,c.1,c.2.2)
def ltK(c d:K3):Prop:=qZu (zCf c) (zCf d)<0
theorem zDb{O O':List Occ}(h:(O.map qJn).Perm (O'.map qJn)):(qKp O).map keyV=(qKp O').map keyV:=by
 have key:∀O:List Occ,((qKp O).map keyV).Pairwise ltK∧∀c,c∈(qKp O).map keyV↔∃s∈O.map qJn,c=keyS s:=fun O=>by
  obtain⟨-,h2,h3,-⟩:=qNd O
  refine⟨List.pairwise_map.2 (h2.imp fun {x y} h=>kL h),fun c=> ?_⟩
  simp only[kX]
  constructor
  ·rintro⟨e,he,rfl⟩
   obtain⟨o,ho,rfl⟩:=(h3 e).1 he
   exact⟨qJn o,⟨o,ho,rfl⟩,qLx ..⟩
  ·rintro⟨s,⟨o,ho,rfl⟩,rfl⟩
   exact⟨entO O o,(h3 _).2 ⟨o,ho,rfl⟩,qLx ..⟩
 obtain⟨a1,a2⟩:=key O
 obtain⟨b1,b2⟩:=key O'
 refine qQs (lt:=ltK) (fun c h=> ?_) (fun x y z h1 h2=>cmpPl_lin.trans _ _ _ h1 h2) a1 b1 fun c=> ?_
 ·have:qZu (zCf c) (zCf c)=0:=(cmpPl_lin.zero _ _).2 rfl
  unfold ltK at h;omega
 ·rw[a2,b2]
  constructor
  ·rintro⟨s,hs,e⟩;exact⟨s,h.mem_iff.1 hs,e⟩
  ·rintro⟨s,hs,e⟩;exact⟨s,h.mem_iff.2 hs,e⟩
theorem zAn(O:List Occ)(c:K3):(O.countP fun o=>decide (okey o=c))=(O.map qJn).countP fun s=>decide (keyS s=c):=by
 rw[List.countP_map];rfl
theorem qYt{α:Type}{p:α→Bool}{l:List α}(h:l.countP p=1){x y:α}(hx:x∈l)(hy:y∈l)(px:p x=true)(py:p y=true):x=y:=by
 rw[List.countP_eq_length_filter] at h
 obtain⟨z,hz⟩:=List.length_eq_one_iff.1 h
 have h1:x∈l.filter p:=gX.2 ⟨hx,px⟩
 have h2:y∈l.filter p:=gX.2 ⟨hy,py⟩
 rw[hz] at h1 h2
 rw[fM.1 h1,fM.1 h2]
def zFq(x y:Ent):Prop:=x.2.2.2.2.2=y.2.2.2.2.2∧x.2.1=y.2.1∧x.2.2.1=y.2.2.1∧(x.2.2.2.2.2=1→x.1=y.1∧x.2.2.2.2.1=y.2.2.2.2.1)
theorem zJa{O O':List Occ}(h:(O.map qJn).Perm (O'.map qJn)){x y:Ent}(hx:x∈qKp O)(hy:y∈qKp O')(hk:keyV x=keyV y):zFq x y:=by
 obtain⟨o,ho,rfl⟩:=((qNd O).2.2.1 x).1 hx
 obtain⟨o',ho',rfl⟩:=((qNd O').2.2.1 y).1 hy
 have kx:keyV (entO O o)=okey o:=qLx ..
 have ky:keyV (entO O' o')=okey o':=qLx ..
 have cx:(entO O o).2.2.2.2.2=(O.countP fun z=>decide (okey z=okey o):Nat):=qRw ..
 have cy:(entO O' o').2.2.2.2.2=(O'.countP fun z=>decide (okey z=okey o'):Nat):=qRw ..
 rw[zAn] at cx cy
 have hko:okey o=okey o':=by rw[←kx,←ky,hk]
 rw[←hko,←h.countP_eq] at cy
 obtain⟨k1,k2,-⟩:=qPp (show keyC (entO O o).2.2.1 (entO O o).1 (entO O o).2.1=keyC (entO O' o').2.2.1 (entO O' o').1 (entO O' o').2.1 from hk)
 refine⟨by rw[cx,cy],k2,k1,fun h1=> ?_⟩
 have hc:(O.map qJn).countP (fun s=>decide (keyS s=okey o))=1:=by omega
 obtain⟨z,m1,m2,m3⟩:=zGm (show(entO O o).2.2.2.2.2≠0 by omega)
 obtain⟨z',m1',m2',m3'⟩:=zGm (show(entO O' o').2.2.2.2.2≠0 by omega)
 have e:qJn z=qJn z':=qYt hc (kX.2 ⟨z,m1,rfl⟩) (h.mem_iff.2 (kX.2 ⟨z',m1',rfl⟩)) (kF (by rw[←qVx];exact m2)) (kF (by rw[←qVx,hko];exact m2'))
 have f1:occE (entO O o)=z:=m3
 have f2:occE (entO O' o')=z':=m3'
 rw[←f1,←f2] at e
 simp only[qJn,occE,Prod.mk.injEq] at e
 exact⟨e.1,e.2.2.2⟩
theorem zDk{O O':List Occ}(h:(O.map qJn).Perm (O'.map qJn)):(qKp O).length=(qKp O').length∧∀(i:Nat) (h1:i<(qKp O).length) (h2:i<(qKp O').length),zFq (qKp O)[i] (qKp O')[i]:=by
 have e:=zDb h
 have hl:(qKp O).length=(qKp O').length:=by
  have:=congrArg List.length e
  simpa using this
 refine⟨hl,fun i h1 h2=>zJa h (kI h1) (kI h2) ?_⟩
 have h3:((qKp O).map keyV)[i]? =((qKp O').map keyV)[i]? :=by rw[e]
 rw[List.getElem?_map,List.getElem?_map,List.getElem?_eq_getElem h1,List.getElem?_eq_getElem h2] at h3
 exact jC h3
def digM(n:Nat):ByteArray:=(⟨#[48,49,50,51,52,53,54,55,56,57]⟩:ByteArray).extract n (n+1)
def qOo(i:Nat):ByteArray:=(⟨#[109]⟩:ByteArray)++digM (9-i)++(⟨#[46,115,114,99]⟩:ByteArray)
def movF:Nat→List File→List File
 |_,[]=>[]
 |i,f::L=>if qDi f.1=true then(qOo i,f.2)::movF (i+1) L else movF (i+1) L
theorem zHv:((List.range 10).all fun i=>qIx (qOo i).data.toList&&qDi (qOo i)&&decide ((qOo i).size=6))=true:=by kernel_rfl
theorem zIk:((List.range 10).all fun i=>(List.range 10).all fun k=> !decide (i<k)||blt (qOo k) (qOo i))=true:=by kernel_rfl
theorem qWv{i:Nat}(h:i<10):qIx (qOo i).data.toList=true∧qDi (qOo i)=true∧(qOo i).size=6:=by
 have:=jN.1 zHv i (kV.2 h)
 simp only[jO,j9] at this
 exact⟨this.1.1,this.1.2,this.2⟩
theorem zDy{i k:Nat}(h:i<k)(hk:k<10):blt (qOo k) (qOo i)=true:=by
 have:=jN.1 (jN.1 zIk i (kV.2 (by omega))) k (kV.2 hk)
 simpa[h] using this
theorem qXc:∀{L:List File} {i:Nat} {f:File},f∈movF i L→∃j g,i≤j∧j<i+L.length∧g∈L∧f=(qOo j,g.2)
 |[],_,_,h=>by cases h
 |g::L,i,f,h=>by
  unfold movF at h
  have rec_:f∈movF (i+1) L→∃j g',i≤j∧j<i+(g::L).length∧g'∈g::L∧f=(qOo j,g'.2):=fun h=>by
   obtain⟨j,g',h1,h2,h3,h4⟩:=qXc h
   exact⟨j,g',by omega,by simp only[jA];omega,jK _ h3,h4⟩
  split at h
  ·rcases jH.1 h with rfl|h
   ·exact⟨i,g,jL _,by simp only[jA];omega,jJ ..,rfl⟩
   ·exact rec_ h
  ·exact rec_ h
theorem qZa:∀{L:List File} {i:Nat},i+L.length≤10→(movF i L).Pairwise fun x y=>blt y.1 x.1=true
 |[],_,_=>List.Pairwise.nil
 |g::L,i,h=>by
  simp only[jA] at h
  have ih:=qZa (L:=L) (i:=i+1) (by omega)
  unfold movF
  split
  ·refine jQ.2 ⟨fun y hy=> ?_,ih⟩
   obtain⟨j,g',h1,h2,-,rfl⟩:=qXc hy
   exact zDy (by omega) (by omega)
  ·exact ih
theorem qYa:∀(L:List File) (i:Nat),(movF i L).length≤L.length
 |[],_=>jL _
 |g::L,i=>by
  have ih:=qYa L (i+1)
  unfold movF
  split
  ·simp only[jA];omega
  ·simp only[jA];omega
theorem zEj{g:File}{i:Nat}(hi:i<10)(hs:qDi g.1=true):qSt (qOo i,g.2)=qSt g:=by
 unfold qSt
 rw[(qWv hi).2.1,hs]
theorem qZg:∀{L:List File} {i:Nat},i+L.length≤10→(qFi (movF i L)).map (·.2)=(qFi L).map (·.2)
 |[],_,_=>rfl
 |g::L,i,h=>by
  simp only[jA] at h
  have ih:=qZg (L:=L) (i:=i+1) (by omega)
  unfold qFi at*
  unfold movF
  by_cases hs:qDi g.1=true
  ·rw[if_pos hs,kA,kA,zEj (by omega) hs]
   by_cases hg:qSt g=true
   ·rw[if_pos hg,if_pos hg]
    simp only[jW,ih]
   ·rw[if_neg hg,if_neg hg,ih]
  ·have hg:¬qSt g=true:=by unfold qSt;simp[hs]
   rw[if_neg hs,kA,if_neg hg,ih]
theorem zGu:∀{L:List File} {i:Nat},i+L.length≤10→(qHy (movF i L)).length=(qHy L).length
 |[],_,_=>rfl
 |g::L,i,h=>by
  simp only[jA] at h
  have ih:=zGu (L:=L) (i:=i+1) (by omega)
  unfold qHy at*
  unfold movF
  simp only[kH] at*
  by_cases hs:qDi g.1=true
  ·rw[if_pos hs,kA,kA,(qWv (show i<10 by omega)).2.1,hs]
   by_cases hg:(qKd g.2).2.2=0
   ·simp[hg,ih]
   ·simp[hg,ih]
  ·rw[if_neg hs,kA]
   simp[hs,ih]
def movR(L:List File):List File:=(movF 0 L).reverse
theorem zFc{K:Nat}{L:List File}(h:MadeE K L)(hl:L.length≤7):MadeE K (movR L)∧(movR L).length≤7:=by
 refine⟨⟨?_,fun f hf=> ?_⟩,?_⟩
 ·exact List.pairwise_reverse.2 (qZa (by omega))
 ·obtain⟨j,g,h1,h2,h3,rfl⟩:=qXc (List.mem_reverse.1 hf)
  exact⟨(qWv (by omega)).1,(h.2 g h3).2⟩
 ·unfold movR
  rw[List.length_reverse]
  exact fK (qYa ..) hl
theorem qZp{L:List File}(hl:L.length≤7):(qFi (movR L)).map (·.2)=((qFi L).map (·.2)).reverse:=by
 unfold movR
 rw[←qZg (L:=L) (i:=0) (by omega)]
 unfold qFi
 rw[List.filter_reverse,fT,fT]
theorem zFo{L:List File}(hl:L.length≤7):((qKu (qFi L)).map qJn).Perm ((qKu (qFi (movR L))).map qJn):=by
 rw[qQf,qQf,qZp hl]
 exact List.Perm.flatMap_right _ (List.reverse_perm _).symm
theorem zDr{L:List File}(h1:qHr L=0)(h2:qHr (movR L)=0)(hl:L.length≤7):qRc (movR L)=qRc L:=by
 have key:∀L:List File,qHr L=0→(qRc L).Pairwise (fun x y=>blt x y=true)∧∀z,z∈qRc L↔z∈((qFi L).map (·.2)).map (·.1):=fun L hc=>by
  unfold qRc
  rw[if_pos hc]
  obtain⟨h1,h2⟩:=qUa (zBd L) [] List.Pairwise.nil
  exact⟨h1,fun z=>by rw[h2 z,List.map_map];unfold zBd;simp⟩
 obtain⟨a1,a2⟩:=key L h1
 obtain⟨b1,b2⟩:=key _ h2
 refine qQs (lt:=fun x y=>blt x y=true) (fun x h=>by rw[qIp] at h;cases h) (fun _ _ _ h1 h2=>qKh h1 h2) b1 a1 fun z=> ?_
 rw[a2,b2,qZp hl,fT,List.mem_reverse]
theorem zBj{L:List File}(h1:qHr L=0)(h2:qHr (movR L)=0)(hl:L.length≤7):(qRy (movR L)).length=(qRy L).length:=by
 unfold qRy
 rw[if_pos h1,if_pos h2,←zGu (L:=L) (i:=0) (by omega)]
 unfold movR qHy
 rw[List.filter_reverse,fT,List.length_reverse]
end
section
open Go Go.Dc Go.Proofs
theorem zDt{N i:Nat}(hi:i<10)(hN:0<N):qEc N (i:Int)=some (digM i):=by
 obtain⟨M,rfl⟩:∃M,N=M+1:=⟨N-1,by omega⟩
 show qDf (M+1) (qEj (M+1) M) (i:Int)=_
 unfold qDf
 have hsz:ByteArray.size (⟨#[48,49,50,51,52,53,54,55,56,57]⟩:ByteArray)=10:=rfl
 rw[if_pos (by simp only[j9];omega),wi64 (by omega) (by omega),qNi (by omega) (by omega) (by omega)]
 unfold digM
 simp only[j0,kD]
 rw[show((i:Int)+1).toNat=i+1 by omega]
theorem zFk(i:Nat)(f:File)(L:List File):movF i (f::L)=if qDi f.1=true then(qOo i,f.2)::movF (i+1) L else movF (i+1) L:=rfl
theorem qWf:∀(L:List File) (i:Nat) (t:List File),qTx (fun i t (f:File)=>if qDi f.1=true then t++[(qOo i,f.2)] else t) i t L=t++movF i L
 |[],i,t=>by simp[qTx,movF]
 |f::L,i,t=>by
  rw[qTx,qWf L (i+1),zFk]
  by_cases h:qDi f.1=true
  ·simp only[if_pos h,kU];rfl
  ·simp only[if_neg h]
theorem qWj{x y:ByteArray}(h:x.size+y.size≤1000000):catB x y=some (x++y):=by
 unfold catB
 rw[if_pos (fK h (by decide))]
theorem zJd{N:Nat}{L:List File}{tp:List Int×Int}(hl:L.length≤7)(hN:3000000<N):qBf (qCa N (tp,L)) N (0,[])=some (movF 0 L):=by
 have h:=qUm (L:=L) (fun(t:List File) (i:Nat)=>((i:Int),t)) (f:=qCa N (tp,L)) (fun i t f=>if qDi f.1=true then t++[(qOo i,f.2)] else t) (fun t=>t) (fun i t=>t.length≤i) (by
  intro t i hi hI
  have hlen:(if qDi L[i].1=true then t++[(qOo i,L[i].2)] else t).length≤i+1:=by
   split
   ·simp only[jI,jA,jB];omega
   ·omega
  refine⟨?_,hlen⟩
  simp only[qCa]
  rw[if_pos (by simp only[j9];omega),qFw hi]
  have ew:IntKind.wrap .i64 ((i:Int)+1)=((i+1:Nat):Int):=by rw[wi64 (by omega) (by omega)];omega
  have ew2:IntKind.wrap .i64 (9-(i:Int))=((9-i:Nat):Int):=by rw[wi64 (by omega) (by omega)];omega
  have hd:(digM (9-i)).size≤10:=by unfold digM;rw[ByteArray.size_extract];omega
  simp only[j0,qUs (show 100<N by omega),ew,ew2,zDt (show 9-i<10 by omega) (show 0<N by omega)]
  rw[qWj (by show 1+_≤_;omega)]
  simp only[j0]
  rw[qWj (by rw[ByteArray.size_append];show(1+_)+4≤_;omega)]
  simp only[j0]
  by_cases hs:qDi L[i].1=true
  ·rw[if_pos hs,if_pos hs,qCq (by simp only[jA,jB];omega) (by omega)]
   rfl
  ·rw[if_neg hs,if_neg hs];rfl) (by
  intro t hI
  simp only[qCa]
  rw[if_neg (by simp)]) L.length 0 N [] (by omega) (by omega) (jL _)
 have h:=h.1
 rw[kJ,qWf,jZ] at h
 exact h
def revI(o l:List File)(j:Nat):Prop:=l.length=o.length∧∀x,x<o.length→l[x]? =if x<j∨o.length≤x+j then o[o.length-1-x]? else o[x]?
theorem zCj{N:Nat}{o:List File}(ho:o.length<1000000):∀(M j:Nat) (l:List File),revI o l j→j≤o.length→o.length-j<M→qBf (qCi N) M ((j:Int),(o.length:Int)-1-j,l)=some o.reverse
 |0,_,_,_,_,h=>absurd h (kN _)
 |M+1,j,l,hI,hj,hM=>by
  obtain⟨hlen,hI⟩:=hI
  simp only[qBf,qCi]
  by_cases hlt:j+j+1<o.length
  ·have hk:(o.length:Int)-1-j=((o.length-1-j:Nat):Int):=by omega
   generalize hkk:o.length-1-j=k at hk
   rw[hk]
   have hkl:k<l.length:=by omega
   have hjl:j<l.length:=by omega
   have w1:IntKind.wrap .i64 ((j:Int)+1)=((j+1:Nat):Int):=by rw[wi64 (by omega) (by omega)];omega
   have w2:IntKind.wrap .i64 ((k:Int)-1)=(o.length:Int)-1-((j+1:Nat):Int):=by rw[wi64 (by omega) (by omega)];omega
   rw[if_pos (by simp only[j9];omega),qFw hkl,qFw hjl]
   simp only[j0,kD]
   rw[qFw (show k<(l.set j l[k]).length by rw[fN];exact hkl)]
   simp only[j0,w1,w2]
   have ek:o[k]? =some l[k]:=by
    have:=hI k (by omega)
    rw[if_neg (by omega),List.getElem?_eq_getElem hkl] at this
    exact this.symm
   have ej:o[j]? =some l[j]:=by
    have:=hI j (by omega)
    rw[if_neg (by omega),List.getElem?_eq_getElem hjl] at this
    exact this.symm
   refine zCj ho M (j+1) _ ⟨by rw[fN,fN];exact hlen,fun x hx=> ?_⟩ (by omega) (by omega)
   rw[List.getElem?_set,List.getElem?_set]
   by_cases c1:k=x
   ·subst c1
    rw[if_pos rfl,if_pos (by rw[fN];exact hkl),if_pos (by omega),show o.length-1-k=j by omega,ej]
   ·rw[if_neg c1]
    by_cases c2:j=x
    ·subst c2
     rw[if_pos rfl,if_pos hjl,if_pos (by omega),hkk,ek]
    ·rw[if_neg c2,hI x hx]
     by_cases c3:x<j∨o.length≤x+j
     ·rw[if_pos c3,if_pos (by omega)]
     ·rw[if_neg c3,if_neg (by omega)]
  ·rw[if_neg (by simp only[j9];omega)]
   simp only[j0,jF]
   refine gZ fun x=> ?_
   by_cases hx:x<o.length
   ·rw[List.getElem?_reverse hx,hI x hx]
    by_cases c3:x<j∨o.length≤x+j
    ·rw[if_pos c3]
    ·rw[if_neg c3,show o.length-1-x=x by omega]
   ·rw[List.getElem?_eq_none (by omega),List.getElem?_eq_none (by rw[List.length_reverse];omega)]
theorem zEn{N:Nat}{o:List File}(ho:o.length<1000000)(hN:1000000<N):qBf (qCi N) N (0,(o.length:Int)-1,o)=some o.reverse:=by
 have h:=zCj (N:=N) ho N 0 o ⟨rfl,fun x hx=>by rw[if_neg (by omega)]⟩ (kY _) (by omega)
 rw[show((0:Nat):Int)=0 from rfl,Int.sub_zero] at h
 exact h
theorem zHx{N:Nat}{E F:List Ent}(hl:E.length=F.length)(hlen:E.length<1000000)(hN:1000000<N)(h:∀(i:Nat) (h1:i<E.length) (h2:i<F.length),zFq E[i] F[i]):
  qBf (qCk N E F) N 0=some (.inl ()):=
 each0 (n:=E.length) (b:=(.inl ():Unit⊕Bool)) (fun i hi=>by
  have hj:i<F.length:=by omega
  obtain⟨a1,a2,a3,a4⟩:=h i hi hj
  simp only[qCk]
  rw[if_pos (by simp only[j9];omega),qFw hi,qFw hj]
  have ew:IntKind.wrap .i64 ((i:Int)+1)=((i+1:Nat):Int):=by rw[wi64 (by omega) (by omega)];omega
  simp only[j0,ew]
  by_cases hc:E[i].2.2.2.2.2=1
  ·obtain⟨b1,b2⟩:=a4 hc
   have hc':F[i].2.2.2.2.2=1:=by rw[←a1];exact hc
   simp only[hc,hc',a2,a3,b1,b2,fB,bne_self_eq_false,kW,jD,jS,jU,j0]
  ·have hc':(E[i].2.2.2.2.2==1)=false:=by simpa using hc
   rw[a1] at hc'
   simp only[a1,hc',a2,a3,fB,bne_self_eq_false,kW,jD,jS,j0]) (by
  simp only[qCk]
  rw[if_neg (by simp)]) (by omega)
theorem testgatelaw08_PackagesMoves_true(l:List Int)(_gl:l.length*8≤reachBytes∧∀x∈l,(Lit.int .i64 x).wf=true):∃N,qDk N l=some true:=by
 refine⟨4000000,?_⟩
 have key:∀{N:Nat},3000000<N→Ok (qDk N l) fun b=>b=true:=fun {N} hN=>by
  unfold qDk
  refine Ok.bind (zBa (l:=l) (a:=0) (by omega) (by decide) (by decide)) ?_
  rintro _ ⟨a1,L,rfl,u1,u2,u3,u4⟩
  dsimp only
  have mL:=u3.e
  obtain⟨mK,hK⟩:=zFc mL u4
  have pL:qLc N L:=qTs mL (by omega)
  have pK:qLc N (movR L):=qTs mK (by omega)
  have hc:qHr L=0:=qJu.2 (mL.wf (by decide) (by omega))
  have hk:qHr (movR L)=0:=qJu.2 (mK.wf (by decide) (by omega))
  have hml:=qYa L 0
  rw[zJd u4 hN]
  simp only[j0]
  rw[wi64 (by omega) (by omega),zEn (by omega) (by omega)]
  simp only[j0]
  rw[show(movF 0 L).reverse=movR L from rfl,qOz pL (by omega),qOz pK (by omega)]
  obtain⟨e1,e2⟩:=zDk (zFo u4)
  have eL:qUr L=qKp (qKu (qFi L)):=by unfold qUr;rw[if_pos hc]
  have eK:qUr (movR L)=qKp (qKu (qFi (movR L))):=by unfold qUr;rw[if_pos hk]
  have hlen:=qZr L
  rw[eL] at hlen
  rw[eL,eK]
  simp only[j0]
  rw[if_neg (by simp[e1]),zHx e1 hlen (by omega) e2]
  simp only[j0]
  have hn:=zDa L
  rw[qZc pL (by omega),qZc pK (by omega),zDr hc hk u4]
  simp only[j0]
  rw[zDh (by omega) (by omega)]
  simp only[j0,jU]
  rw[qRn pL (by omega),qRn pK (by omega)]
  simp only[j0]
  rw[if_pos (by simp[zBj hc hk u4]),zHl hN]
  exact Ok.mk rfl
 obtain⟨b,h1,rfl⟩:=key (show 3000000<4000000 by decide)
 exact h1
end
end Go.Proofs.YtcdpbapbpcpflaaGreatDoor
