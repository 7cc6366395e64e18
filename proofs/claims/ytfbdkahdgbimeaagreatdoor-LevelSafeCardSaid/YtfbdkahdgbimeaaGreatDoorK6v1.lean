/- No condition but those of each theorem. -/
import Derived.Test.YtfbdkahdgbimeaaGreatDoorProg
import Derived.WalkKit
import Derived.Deep.LoopGhost
import Derived.KernelRfl
import Derived.OrdersHeld
import Derived.OrdersIn
import Derived.LoopNIn
import Derived.Sort.LoopGhostIn
import Derived.Laws.AppendOwn
import Derived.RangeFuncLeaves
import Derived.RangeFuncRecord
import Derived.MapKept
import Derived.Maps.RangeRun
import Derived.ChangeKeysEq
import Derived.HandedShaped
import Derived.ChangeStays
import Derived.ChangeSame
import Derived.OpenShut
import Derived.WideShapes
import Derived.JoinedOf
import Derived.ReadAgain
import Derived.ChangeAt
import Derived.RowKit
import Derived.Lib.Overlaps
import Derived.Shelf.SlSortCmp.NoneTotal
import Derived.WalkSmall
import Derived.Recover
import Derived.Lib.Bytealg
import Derived.Lib.ItoaNum
import Derived.Test.YtfbdkahdgbimeaaGreatDoorK5v1
namespace Go.Proofs.YtfbdkahdgbimeaaGreatDoor
section
open Go Go.Dc Go.Sort Go.Proofs
def e0:ByteArray:=⟨#[]⟩
def pkgL:List ByteArray:=[⟨#[112]⟩,⟨#[113]⟩,⟨#[115]⟩]
def fnL:List ByteArray:=[⟨#[102]⟩,⟨#[103]⟩,⟨#[104]⟩,⟨#[107]⟩]
def tsL:List ByteArray:=[⟨#[116]⟩,⟨#[117]⟩,⟨#[118]⟩]
def paL:List ByteArray:=[⟨#[97,46,100,97,116]⟩,⟨#[100,47,98,46,100,97,116]⟩,⟨#[99]⟩,⟨#[97,46,115,114,99]⟩,⟨#[120,46,115,114,99]⟩]
def vaL:List ByteArray:=[⟨#[110]⟩,⟨#[109]⟩]
def madeL:List Ky:=
 (pkgL.flatMap fun p=>fnL.map fun f=>(1,p,f))++(pkgL.flatMap fun p=>tsL.map fun f=>(2,p,f))++paL.map (fun p=>(3,p,e0))++paL.map (fun p=>(4,p,e0))++vaL.map (fun p=>(5,p,e0))++pkgL.map (fun p=>(6,p,e0))++pkgL.map (fun p=>(7,p,e0))
def zBq(k:Ky):Bool:=
 if k.1=1∨k.1=2 then qNl k.2.1&&qNl k.2.2 else if k.1=3∨k.1=4 then qJi k.2.1.data.toList&&decide (k.2.2=e0) else if k.1=5∨k.1=6∨k.1=7 then qNl k.2.1&&decide (k.2.2=e0) else false
theorem zSt(s:ByteArray):(s.toList==(⟨#[]⟩:ByteArray).toList)=decide (s=e0):=by
 rw[kE]
 simp only[kC,jB]
 constructor
 ·intro h
  rw[ByteArray.toList_eq,ByteArray.toList_eq] at h
  exact Go.WideShapes.bytes_inj h
 ·rintro rfl;rfl
theorem zDf{N:Nat}{k:Ky}(h1:k.2.1.size<100000000)(hN:2*k.2.1.size+1000<N):qOd N k=some (zBq k):=by
 obtain⟨q,x,y⟩:=k
 try simp only at h1 hN
 simp only[qOd,zBq,zNk (N:=N) (s:=x) (by omega),zNk (N:=N) (s:=y) (by omega),zUe h1 hN,jA,zSt]
 by_cases g1:q=1
 ·subst g1;simp;cases qNl x<;>rfl
 by_cases g2:q=2
 ·subst g2;simp;cases qNl x<;>rfl
 by_cases g3:q=3
 ·subst g3;simp;cases qJi x.data.toList<;>rfl
 by_cases g4:q=4
 ·subst g4;simp;cases qJi x.data.toList<;>rfl
 by_cases g5:q=5
 ·subst g5;simp;cases qNl x<;>rfl
 by_cases g6:q=6
 ·subst g6;simp;cases qNl x<;>rfl
 by_cases g7:q=7
 ·subst g7;simp;cases qNl x<;>rfl
 simp[g1,g2,g3,g4,g5,g6,g7]
theorem qZr:(madeL.all fun k=>zBq k&&decide (k.2.1.size<100))=true:=by kernel_rfl
theorem zLu{N:Nat}(hN:2000≤N){k:Ky}(hk:k∈madeL):qOd N k=some true:=by
 have h:=jT.1 qZr k hk
 simp only[jN,jB] at h
 rw[zDf (by omega) (by omega),h.1]
theorem zEl:(madeL.all fun k=>decide (1≤k.1∧k.1≤7))=true:=by kernel_rfl
section
variable {N:Nat} {l:List Int} {a:Int}
theorem Key_ok(h0:0≤a)(h1:a<1000000000000000000):Ok (qLo N (l,a)) fun y=>∃a' k,y=((l,a'),k)∧a≤a'∧a'≤a+3∧k∈madeL:=by
 unfold qLo qDq qEe qJg qEa qFe
 refine Ok.next h0 (by omega) (by decide) (by decide) fun r r0 r1=> ?_
 simp only[jA]
 refine Ok.one (by omega) (by omega) (by decide) (by decide) fun p hp=> ?_
 have hp:p∈pkgL:=hp
 have hr:r=0∨r=1∨r=2∨r=3∨r=4∨r=5∨r=6:=by omega
 have w:∀z:Int,0≤z→z≤6→IntKind.wrap .i64 (1+z)=1+z:=fun z h0 h1=>wi64 (by omega) (by omega)
 rw[w r r0 (by omega)]
 have mem:∀{k:Ky} {A B:List Ky},k∈A∨k∈B→k∈A++B:=fun h=>kL.2 h
 rcases hr with rfl|rfl|rfl|rfl|rfl|rfl|rfl
 ·refine Ok.assoc (Ok.one (by first|omega|(simp only;omega)) (by first|omega|(simp only;omega)) (by decide) (by decide) fun f hf=>Ok.someb (Ok.mk ⟨_,_,rfl,by first|omega|(simp only;omega),by first|omega|(simp only;omega),?_⟩))
  have hf:f∈fnL:=hf
  simp only[madeL,kL,gB,kU]
  exact .inl (.inl (.inl (.inl (.inl (.inl ⟨p,hp,f,hf,rfl⟩)))))
 ·refine Ok.assoc (Ok.one (by first|omega|(simp only;omega)) (by first|omega|(simp only;omega)) (by decide) (by decide) fun f hf=>Ok.someb (Ok.mk ⟨_,_,rfl,by first|omega|(simp only;omega),by first|omega|(simp only;omega),?_⟩))
  have hf:f∈tsL:=hf
  simp only[madeL,kL,gB,kU]
  exact .inl (.inl (.inl (.inl (.inl (.inr ⟨p,hp,f,hf,rfl⟩)))))
 ·refine Ok.assoc (Ok.one (by first|omega|(simp only;omega)) (by first|omega|(simp only;omega)) (by decide) (by decide) fun f hf=>Ok.someb (Ok.mk ⟨_,_,rfl,by first|omega|(simp only;omega),by first|omega|(simp only;omega),?_⟩))
  have hf:f∈paL:=hf
  simp only[madeL,kL,gB,kU]
  exact .inl (.inl (.inl (.inl (.inr ⟨f,hf,rfl⟩))))
 ·refine Ok.assoc (Ok.one (by first|omega|(simp only;omega)) (by first|omega|(simp only;omega)) (by decide) (by decide) fun f hf=>Ok.someb (Ok.mk ⟨_,_,rfl,by first|omega|(simp only;omega),by first|omega|(simp only;omega),?_⟩))
  have hf:f∈paL:=hf
  simp only[madeL,kL,gB,kU]
  exact .inl (.inl (.inl (.inr ⟨f,hf,rfl⟩)))
 ·refine Ok.assoc (Ok.one (by first|omega|(simp only;omega)) (by first|omega|(simp only;omega)) (by decide) (by decide) fun f hf=>Ok.someb (Ok.mk ⟨_,_,rfl,by first|omega|(simp only;omega),by first|omega|(simp only;omega),?_⟩))
  have hf:f∈vaL:=hf
  simp only[madeL,kL,gB,kU]
  exact .inl (.inl (.inr ⟨f,hf,rfl⟩))
 ·refine Ok.someb (Ok.mk ⟨_,_,rfl,by first|omega|(simp only;omega),by first|omega|(simp only;omega),?_⟩)
  simp only[madeL,kL,gB,kU]
  exact .inl (.inr ⟨p,hp,rfl⟩)
 ·refine Ok.someb (Ok.mk ⟨_,_,rfl,by first|omega|(simp only;omega),by first|omega|(simp only;omega),?_⟩)
  simp only[madeL,kL,gB,kU]
  exact .inr ⟨p,hp,rfl⟩
end
def keyP(n:Int)(k:Ky):Ky:=if n=2∧(k.1=1∨k.1=2) then(6,k.2.1,e0) else if n=3∧(k.1=1∨k.1=2∨k.1=6) then(7,k.2.1,e0) else k
theorem zPc:([1,2,3].all fun n=>madeL.all fun k=>madeL.any fun k'=>decide (k'=keyP n k))=true:=by kernel_rfl
theorem qZk{n:Int}(h0:1≤n)(h3:n≤3){k:Ky}(hk:k∈madeL):keyP n k∈madeL:=by
 have hn:n=1∨n=2∨n=3:=by omega
 have h1:=jT.1 zPc n (by rcases hn with rfl|rfl|rfl<;>simp)
 have h2:=jT.1 h1 k hk
 obtain⟨k',h4,h5⟩:=gV.1 h2
 rw[←gC h5];exact h4
theorem zKj{N:Nat}{n:Int}(h0:1≤n)(h3:n≤3):qLz N n=some true:=by
 simp only[qLz,ge_iff_le,h0,decide_true,jI,h3,jA]
theorem qVr{N:Nat}(hN:2000≤N){n:Int}(h0:1≤n)(h3:n≤3){k:Ky}(hk:k∈madeL):qRa N k n=some (keyP n k,0):=by
 have h1:=zLu hN hk
 have h2:=gC (jT.1 zEl k hk)
 simp only[qRa,zKj h0 h3,jA,kM,jC,jH]
 rw[show qOd N (k.1,k.2.1,k.2.2)=some true from h1]
 simp only[jA,kM,jC,jH]
 have hn:n=1∨n=2∨n=3:=by omega
 obtain⟨q,x,y⟩:=k
 try simp only at h2
 have hq:q=1∨q=2∨q=3∨q=4∨q=5∨q=6∨q=7:=by omega
 rcases hq with rfl|rfl|rfl|rfl|rfl|rfl|rfl<;>rcases hn with rfl|rfl|rfl<;>rfl
theorem zFi{N:Nat}(hN:2000≤N){n:Int}(h0:1≤n)(h3:n≤3){L:List Ky}(hl:L.length<1000000)(hL:∀k∈L,k∈madeL):∀(d i M:Nat),i+d=L.length→d<M→
  qAs (qMe N L n) M ((L.take i).map (keyP n),(i:Int))=some (.inl (L.map (keyP n)))
 |_,_,0,_,h=>absurd h (kV _)
 |d,i,M+1,h1,h2=>by
  simp only[qAs,qMe]
  cases d with
  |zero=>
   have hc:¬((i:Int)<(L.length:Int)):=by omega
   simp only[hc,decide_false,jC,jH,jA]
   rw[kW (by omega)]
  |succ d=>
   have hi:i<L.length:=by omega
   have hc:((i:Int)<(L.length:Int)):=by omega
   have w2:IntKind.wrap .i64 ((i:Int)+1)=((i+1:Nat):Int):=by rw[wi64 (by omega) (by omega)];omega
   have hkey:=qVr hN h0 h3 (hL L[i] (jP hi))
   simp only[hc,decide_true,jI,qCg hi,jA,hkey,gK,jC,jH]
   rw[qCr (by simp only[gF,kN,jD,jE];omega) (by decide)]
   simp only[jA,w2]
   have:=zFi hN h0 h3 hl hL d (i+1) M (by omega) (by omega)
   rw[kO hi,dF] at this
   exact this
theorem zNf{N:Nat}{n:Int}(h0:1≤n)(h3:n≤3){L:List Ky}(hl:L.length<1000000)(hN:L.length+2000<N)(hL:∀k∈L,k∈madeL):qPj N L n=some (qQv (L.map (keyP n)),0):=by
 have h1:=zFi (N:=N) (by omega) h0 h3 hl hL L.length 0 N (by omega) (by omega)
 have h1':qAs (qMe N L n) N (([]:List (Int×ByteArray×ByteArray)),0)=some (.inl (L.map (keyP n))):=h1
 simp only[qPj,zKj h0 h3,jA,kM,jC,jH,h1']
 rw[zEn (by simp only[gF];omega) (by simp only[gF];omega)]
 rfl
theorem zKw{n:Int}(h0:1≤n)(h3:n≤3){L:List Ky}(hL:∀k∈L,k∈madeL):∀k∈qQv (L.map (keyP n)),k∈madeL:=fun k hk=>by
 rw[qTk,kU] at hk
 obtain⟨k',h1,rfl⟩:=hk
 exact qZk h0 h3 (hL k' h1)
theorem zNc{k:Ky}(h:(madeL.any fun k'=>decide (k'=k))=true):k∈madeL:=by
 obtain⟨k',h4,h5⟩:=gV.1 h
 rw[←gC h5];exact h4
theorem zId{N:Nat}(hN:3000<N):qJu N=some true:=by
 have p1:((1,(⟨#[112]⟩:ByteArray),(⟨#[102]⟩:ByteArray)):Ky)∈madeL:=zNc (by kernel_rfl)
 have p2:((2,(⟨#[112]⟩:ByteArray),(⟨#[116]⟩:ByteArray)):Ky)∈madeL:=zNc (by kernel_rfl)
 have hk:=qVr (N:=N) (by omega) (n:=2) (by decide) (by decide) p1
 have hK:=zNf (N:=N) (n:=3) (by decide) (by decide) (L:=[((1,(⟨#[112]⟩:ByteArray),(⟨#[102]⟩:ByteArray)):Ky),(2,(⟨#[112]⟩:ByteArray),(⟨#[116]⟩:ByteArray))]) (by simp) (by simp only[jD,jE];omega) (fun k hk=>by
  simp only[jM,fD,or_false] at hk
  rcases hk with rfl|rfl
  ·exact p1
  ·exact p2)
 have e1:qQv ([((1,(⟨#[112]⟩:ByteArray),(⟨#[102]⟩:ByteArray)):Ky),(2,(⟨#[112]⟩:ByteArray),(⟨#[116]⟩:ByteArray))].map (keyP 3))=[(7,(⟨#[112]⟩:ByteArray),e0)]:=by
  have h1:qQv [((7,(⟨#[112]⟩:ByteArray),e0):Ky)]=[(7,(⟨#[112]⟩:ByteArray),e0)]:=by simp[qQv,qOe]
  rw[←h1]
  exact zNa fun z=>by simp[keyP]
 rw[e1] at hK
 have hf:qSi N 1 2=some true:=by kernel_rfl
 simp only[qJu,hk,hK,hf,jA]
 have x:idx [((7,(⟨#[112]⟩:ByteArray),e0):Ky)] 0=some (7,(⟨#[112]⟩:ByteArray),e0):=rfl
 simp only[x,jA]
 refine Eq.trans (b:=some true) ?_ rfl
 kernel_rfl
end
section
open Go Go.Dc Go.Sort Go.Proofs
theorem zFs{α:Type}{a b:List α}(hl:a.length=b.length){f:Int→Option (Int⊕(Unit⊕Bool))}(hs:∀(i:Nat) (h1:i<a.length) (h2:i<b.length),∃r:Bool,(r=true↔a[i]=b[i])∧f (i:Int)=some (if r=true then .inl ((i+1:Nat):Int) else .inr (.inr false)))
  (hf:f (a.length:Int)=some (.inr (.inl ()))):∀(d i M:Nat),i+d=a.length→d<M→∃r:Bool,(r=true↔a.drop i=b.drop i)∧qAs f M (i:Int)=some (if r=true then .inl () else .inr false)
 |_,_,0,_,h=>absurd h (kV _)
 |0,i,M+1,hd,_=>by
  have hi:i=a.length:=by omega
  subst hi
  refine⟨true,⟨fun _=> ?_,fun _=>rfl⟩,by simp only[qAs,hf,jA];rfl⟩
  rw[jQ (jU _),jQ (by omega)]
 |d+1,i,M+1,hd,hM=>by
  have h1:i<a.length:=by omega
  have h2:i<b.length:=by omega
  obtain⟨r,r1,r2⟩:=hs i h1 h2
  rw[qOg h1,qOg h2]
  cases r with
  |true=>
   obtain⟨q,q1,q2⟩:=zFs hl hs hf d (i+1) M (by omega) (by omega)
   refine⟨q,?_,by simp only[qAs,r2,jI,jA];exact q2⟩
   rw[q1,r1.1 rfl]
   exact⟨fun h=>by rw[h],fun h=>(List.cons.inj h).2⟩
  |false=>
   refine⟨false,⟨fun h=>(by cases h),fun h=> ?_⟩,by simp only[qAs,r2,jA];rfl⟩
   exact absurd (r1.2 (List.cons.inj h).1) (by decide)
theorem zLk{α:Type}{a b:List α}(hl:a.length=b.length){f:Int→Option (Int⊕(Unit⊕Bool))}(hs:∀(i:Nat) (h1:i<a.length) (h2:i<b.length),∃r:Bool,(r=true↔a[i]=b[i])∧f (i:Int)=some (if r=true then .inl ((i+1:Nat):Int) else .inr (.inr false)))
  (hf:f (a.length:Int)=some (.inr (.inl ()))) {M:Nat} (hM:a.length<M):∃r:Bool,(r=true↔a=b)∧qAs f M 0=some (if r=true then .inl () else .inr false):=by
 have:=zFs hl hs hf a.length 0 M (by omega) hM
 rw[kA,kA] at this
 exact this
section
variable {N:Nat}
theorem zMo{a b:List ByteArray}(ha:a.length<1000000)(hN:1000000<N):∃r:Bool,(r=true↔a=b)∧qIb N a b=some r:=by
 unfold qIb
 by_cases hl:a.length=b.length
 ·obtain⟨r,r1,r2⟩:=zLk hl (f:=qEt N a b) (fun i h1 h2=>by
   refine⟨decide (a[i]=b[i]),decide_eq_true_iff,?_⟩
   simp only[qEt]
   rw[if_pos (by simp only[jB];omega),qCg h1]
   simp only[jA]
   rw[qCg h2]
   have ew:IntKind.wrap .i64 ((i:Int)+1)=((i+1:Nat):Int):=by rw[wi64 (by omega) (by omega)];omega
   simp only[jA,qFj,ew]
   cases decide (a[i]=b[i])<;>rfl) (by
   simp only[qEt]
   rw[if_neg (by simp)]) (M:=N) (by omega)
  refine⟨r,r1,?_⟩
  rw[if_neg (by simp[hl]),r2]
  cases r<;>rfl
 ·exact⟨false,⟨fun h=>(by cases h),fun h=>absurd (congrArg List.length h) hl⟩,by rw[if_pos (by rw[fR];omega)]⟩
theorem zOr{k:Ky}(hN:100<N):qKb N k=some (zBq k):=by
 obtain⟨q,x,y⟩:=k
 simp only[qKb,zBq,qPk (N:=N) (s:=x) hN,qPk (N:=N) (s:=y) hN,qPl (N:=N) (s:=x) hN,jA,zSt]
 by_cases g1:q=1
 ·subst g1;simp;cases qNl x<;>rfl
 by_cases g2:q=2
 ·subst g2;simp;cases qNl x<;>rfl
 by_cases g3:q=3
 ·subst g3;simp;cases qJi x.data.toList<;>rfl
 by_cases g4:q=4
 ·subst g4;simp;cases qJi x.data.toList<;>rfl
 by_cases g5:q=5
 ·subst g5;simp;cases qNl x<;>rfl
 by_cases g6:q=6
 ·subst g6;simp;cases qNl x<;>rfl
 by_cases g7:q=7
 ·subst g7;simp;cases qNl x<;>rfl
 simp[g1,g2,g3,g4,g5,g6,g7]
theorem zDz{k:Ky}(hk:k∈madeL):zBq k=true∧k.2.1.size<100∧1≤k.1∧k.1≤7:=by
 have h:=jT.1 qZr k hk
 have h2:=gC (jT.1 zEl k hk)
 simp only[jN,jB] at h
 exact⟨h.1,h.2,h2.1,h2.2⟩
theorem qVa{l:List Int}{a:Int}(hN:100<N)(h0:0≤a)(h1:a<1000000000000000000):Ok (qFm N (l,a)) fun y=>∃a' e,y=((l,a'),e)∧a≤a'∧a'≤a+4∧zHs e:=by
 unfold qFm
 refine Ok.loop (fun s=>∃(i:Nat) (e:Envt) (b:Int),s=((i:Int),e,l,b)∧i≤2∧e.length≤i∧a≤b∧b≤a+2*i∧∀v∈e,-9007199254740992≤v.2∧v.2≤9007199254740992) (fun s=>2-s.1.toNat)
  (fun o=>∃(e:Envt) (b:Int),o=(e,l,b)∧a≤b∧b≤a+4∧zHs e) (fun s hs=> ?_) ⟨0,[],a,rfl,by omega,by simp,by omega,by omega,fun v hv=>by cases hv⟩ (by simp only;omega) ?_
 ·obtain⟨i,e,b,rfl,hi,he,hb,hb2,hv⟩:=hs
  unfold qHc
  refine Ok.ite (fun hc=> ?_) fun hc=>Ok.mk ?_
  ·have hc:i<2:=by simp only[jB,jD,jE] at hc;omega
   have ew:IntKind.wrap .i64 ((i:Int)+1)=((i+1:Nat):Int):=by rw[wi64 (by omega) (by omega)];omega
   dsimp only
   rw[qCg (show i<[(⟨#[109]⟩:ByteArray),(⟨#[110]⟩:ByteArray)].length from hc)]
   simp only[jA,ew]
   refine Ok.assoc (Ok.chance (by omega) (by omega) (by decide) (by decide) fun r=> ?_)
   cases r with
   |true=>
    refine Ok.ttb (Ok.assoc (Ok.pick (by omega) (by omega) (by decide) (by decide) fun z hz=> ?_))
    refine Ok.assoc (Ok.app (by simp only[jD,jE];omega) (by decide) ?_)
    refine Ok.someb (Ok.mk ⟨⟨i+1,_,b+1+1,rfl,by omega,by simp only[jF,jD,jE];omega,by omega,by omega,fun v h=> ?_⟩,by simp only;omega⟩)
    rcases kL.1 h with h|h
    ·exact hv v h
    ·rw[kY.1 h]
     simp only[jM,fD,or_false] at hz
     show-9007199254740992≤z∧z≤9007199254740992
     omega
   |false=>
    refine Ok.ffb (Ok.someb (Ok.mk ⟨⟨i+1,e,b+1,rfl,by omega,by omega,by omega,by omega,hv⟩,by simp only;omega⟩))
  ·exact⟨e,b,rfl,hb,by omega,by omega,hv⟩
 ·rintro _ ⟨e,b,rfl,g1,g2,g3⟩
  exact Ok.mk ⟨b,e,rfl,g1,g2,g3⟩
theorem zGh{α β:Type}(V:α→β):∀(x:List α) (b:List β),x.foldl (fun b k=>b++[V k]) b=b++x.map V
 |[],b=>by simp
 |k::x,b=>by rw[kZ,zGh V x,k9,jO];rfl
theorem qZb{L:List File}{env:Envt}(h:SmF L)(he:zHs env)(hN:3000000<N):∃(ok:Bool) (V:Ky→ByteArray),(∀k∈madeL,qBs N L (pdOf (qJl L)) env k=some (V k))∧
  ∀x:List Ky,(∀k∈x,k∈madeL)→x.length<1000000→qGg N L env x=some (if ok=true then(x.map V,0) else([],1)):=by
 obtain⟨c,hc,-⟩:=zJa (N:=N) (env:=env) (by omega)
 have hV:∀k∈madeL,qBs N L (pdOf (qJl L)) env k=some ((qBs N L (pdOf (qJl L)) env k).getD e0):=fun k hk=>by
  obtain⟨-,k2,k3,k4⟩:=zDz hk
  obtain⟨v,hv⟩:=in_ok (N:=N) (env:=env) (k:=k) h he hN (by omega) k3 k4
  rw[hv];rfl
 refine⟨decide (qPt L=0)&&c,fun k=>(qBs N L (pdOf (qJl L)) env k).getD e0,hV,fun x hx hl=> ?_⟩
 unfold qGg
 rw[qVd (by omega),hc]
 by_cases hz:qPt L=0
 ·rw[hz]
  cases c with
  |false=>simp
  |true=>
   have hlp:=qGo (L:=x) (fun(b:List ByteArray) (i:Nat)=>(b,(i:Int))) (f:=qEu N L env x (pdOf (qJl L)))
    (fun b k=> .inl (b++[(qBs N L (pdOf (qJl L)) env k).getD e0])) (fun b=> .inl b) (fun i b=>b.length≤i) (by
     intro b i hi hI
     have ew:IntKind.wrap .i64 ((i:Int)+1)=((i+1:Nat):Int):=by rw[wi64 (by omega) (by omega)];omega
     have hk:=hx _ (jP hi)
     simp only[qEu]
     rw[if_pos (by simp only[jB];omega),qCg hi]
     simp only[jA,ew]
     rw[zOr (by omega),(zDz hk).1]
     simp only[jA,kM,jC,jH]
     rw[hV _ hk]
     simp only[jA]
     rw[qCr (by simp only[jD,jE];omega) (by decide)]
     rfl) (by
     intro b i hi b' hI hh
     obtain rfl:=(Sum.inl.inj hh).symm
     simp only[jF,jD,jE];omega) (by
     intro b _
     simp only[qEu]
     rw[if_neg (by simp)]) (M:=N) (t:=[]) (by omega) (by simp)
   rw[show((0:Nat):Int)=0 from rfl] at hlp
   rw[zLy (by omega)]
   simp only[jA,gK,jC,jH,kM]
   rw[show((qJl L).map (·.1),(qJl L).map (·.2))=pdOf (qJl L) from rfl,hlp,qSj (fun b k=>b++[(qBs N L (pdOf (qJl L)) env k).getD e0]) (fun _ _=>rfl),zGh]
   rfl
 ·simp[hz]
end
section
variable {N:Nat} {L L':List File} {env env':Envt} {V V':Ky→ByteArray} {ok ok':Bool} {K:List Ky}
def qUz(ok ok':Bool)(V V':Ky→ByteArray)(K:List Ky)(n:Int):Prop:=
 (if ok=true then((qQv (K.map (keyP n))).map V,(0:Int)) else([],1)).1=(if ok'=true then((qQv (K.map (keyP n))).map V',(0:Int)) else([],1)).1
theorem zQl{n:Int}(hb:ok=true∧ok'=true):qUz ok ok' V V' K n↔∀k∈K,V (keyP n k)=V' (keyP n k):=by
 obtain⟨rfl,rfl⟩:=hb
 simp only[qUz,jI,fS,qTk,kU]
 exact⟨fun h k hk=>h _ ⟨k,hk,rfl⟩,fun h z ⟨k,hk,e⟩=>by rw[←e];exact h k hk⟩
theorem zGo{n:Int}(h:qQv (K.map (keyP n))=[]):K=[]:=by
 cases K with
 |nil=>rfl
 |cons k K=>
  have:keyP n k∈qQv ((k::K).map (keyP n)):=qTk.2 (kU.2 ⟨k,jJ ..,rfl⟩)
  rw[h] at this
  cases this
theorem zRj{n m:Int}(hb:¬(ok=true∧ok'=true))(h:qUz ok ok' V V' K n):qUz ok ok' V V' K m:=by
 have e:K=[]→qUz ok ok' V V' K m:=by
  rintro rfl
  have:qQv (([]:List Ky).map (keyP m))=[]:=kT.1 (Nat.le_zero.1 (zFg _))
  unfold qUz
  rw[this]
  cases ok<;>cases ok'<;>rfl
 cases ok with
 |false=>
  cases ok' with
  |false=>rfl
  |true=>exact e (zGo (n:=n) (List.map_eq_nil_iff.1 h.symm))
 |true=>
  cases ok' with
  |false=>exact e (zGo (n:=n) (List.map_eq_nil_iff.1 h))
  |true=>exact absurd ⟨rfl,rfl⟩ hb
theorem zLa(h:SmF L)(h':SmF L')(hN:3000000<N)(hV:∀k∈madeL,qBs N L (pdOf (qJl L)) env k=some (V k))(hV':∀k∈madeL,qBs N L' (pdOf (qJl L')) env' k=some (V' k))
  (hK:∀k∈K,k∈madeL∧k.1≠7∧k.1≠6) {n:Int} (h0:1≤n) (h3:n<3) (hs:qUz ok ok' V V' K (n+1)):qUz ok ok' V V' K n:=by
 by_cases hb:ok=true∧ok'=true
 ·rw[zQl hb] at hs ⊢
  intro k hk
  obtain⟨m1,m7,m6⟩:=hK k hk
  have hz:=(zDz m1).2.1
  have hs:=hs k hk
  have a1:=qZk (n:=n) (by omega) (by omega) m1
  have a2:=qZk (n:=n+1) (by omega) (by omega) m1
  refine jZ ?_
  rw[←hV _ a1,←hV' _ a1]
  have hs:qBs N L (pdOf (qJl L)) env (keyP (n+1) k)=qBs N L' (pdOf (qJl L')) env' (keyP (n+1) k):=by rw[hV _ a2,hV' _ a2,hs]
  obtain⟨q,x,y⟩:=k
  simp only at m7 m6 hz
  by_cases hq:q=1∨q=2
  ·have hn:n=1∨n=2:=by omega
   rcases hn with rfl|rfl
   ·have e1:keyP 1 (q,x,y)=(q,x,y):=by simp[keyP]
    have e2:keyP (1+1) (q,x,y)=(6,x,e0):=by simp[keyP,hq]
    rw[e2] at hs
    rw[e1]
    exact zLx h h' hN hq hs
   ·have e1:keyP 2 (q,x,y)=(6,x,e0):=by simp[keyP,hq]
    have hq':q=1∨q=2∨q=6:=by omega
    have e2:keyP (2+1) (q,x,y)=(7,x,e0):=by simp[keyP,hq']
    rw[e2] at hs
    rw[e1]
    exact zLh h h' hN (by omega) hs
  ·have hq':¬(q=1∨q=2∨q=6):=by omega
   have e:∀j,keyP j (q,x,y)=(q,x,y):=fun j=>by simp[keyP,hq,hq']
   rw[e] at hs ⊢
   exact hs
 ·exact zRj hb hs
theorem zIf{y1 y2:(List Int×Int)×List File}{y3 y4:(List Int×Int)×Envt}{o1:List Ky×List Int×Int}(h:SmF y1.2)(h':SmF y2.2)(he:zHs y3.2)(he':zHs y4.2)(hN:3000000<N)
  (hK:∀k∈o1.1,k∈madeL∧k.1≠7∧k.1≠6) (hl:o1.1.length<1000):qAs (qDy N y1 y2 y3 y4 o1) N (true,3)=some (.inl ()):=by
 obtain⟨ok,V,v1,v2⟩:=qZb h he hN
 obtain⟨ok',V',u1,u2⟩:=qZb h' he' hN
 have main:∀(n M:Nat) (now:Bool),n≤3→n<M→(n<3→now=true→qUz ok ok' V V' o1.1 ((n:Int)+1))→qAs (qDy N y1 y2 y3 y4 o1) M (now,(n:Int))=some (.inl ()):=by
  intro n
  induction n with
  |zero=>
   intro M now _ hM _
   cases M with
   |zero=>omega
   |succ M=>
    simp only[qAs,qDy]
    rw[if_neg (by simp)]
    rfl
  |succ n ih=>
   intro M now hn hM hs
   cases M with
   |zero=>omega
   |succ M=>
    have n1:1≤((n+1:Nat):Int):=by omega
    have n3:((n+1:Nat):Int)≤3:=by omega
    have hm:∀k∈o1.1,k∈madeL:=fun k hk=>(hK k hk).1
    have hcl:=zFg (o1.1.map (keyP ((n+1:Nat):Int)))
    rw[gF] at hcl
    have hcm:=zKw n1 n3 hm
    have ew:IntKind.wrap .i64 (((n+1:Nat):Int)-1)=(n:Int):=by rw[wi64 (by omega) (by omega)];omega
    obtain⟨r,r1,r2⟩:=zMo (N:=N) (a:=(if ok=true then((qQv (o1.1.map (keyP ((n+1:Nat):Int)))).map V,(0:Int)) else([],1)).1) (b:=(if ok'=true then((qQv (o1.1.map (keyP ((n+1:Nat):Int)))).map V',(0:Int)) else([],1)).1) (by
     cases ok with
     |true=>simp only[jI,gF];omega
     |false=>simp) (by omega)
    have r1:r=true↔qUz ok ok' V V' o1.1 ((n+1:Nat):Int):=r1
    have ih:=ih M r (by omega) (by omega) fun _ hr=>by
     have:=r1.1 hr
     rwa[show((n+1:Nat):Int)=(n:Int)+1 by omega] at this
    simp only[qAs,qDy]
    rw[if_pos (by simp only[jB];omega),zNf n1 n3 (by omega) (by omega) hm]
    simp only[jA,gK,jC,jH]
    rw[v2 _ hcm (by omega)]
    simp only[jA]
    rw[u2 _ hcm (by omega)]
    simp only[jA]
    rw[r2]
    simp only[jA,ew]
    have e:(if decide (((n+1:Nat):Int)<3)=true then(if now=true then some (!r) else some false) else some false:Option Bool)=some false:=by
     by_cases g:((n+1:Nat):Int)<3
     ·rw[if_pos (kG g)]
      cases now with
      |false=>rfl
      |true=>
       have:=r1.2 (zLa h h' hN v1 u1 hK n1 g (hs (by omega) rfl))
       rw[this];rfl
     ·rw[if_neg (by simpa using g)]
    rw[e]
    simp only[jA,jC,jH]
    exact ih
 exact main 3 N true (by omega) (by omega) (fun h=>absurd h (by decide))
theorem zOp{l:List Int}{a r:Int}(h0:0≤a)(h1:a<100000000000000000)(g0:0≤r)(g1:r<6)(hN:100<N){β:Type}{Q:β→Prop}{g:List Ky×List Int×Int→Option β}
  (k:∀(K:List Ky) (b:Int),(∀k∈K,k∈madeL∧k.1≠7∧k.1≠6)→K.length≤6→Ok (g (K,l,b)) Q):Ok ((qAs (qFx N) N (([]:List Ky),r,l,a)).bind g) Q:=by
 refine Ok.loop (fun s=>∃(K:List Ky) (i b:Int),s=(K,i,l,b)∧-1≤i∧i<6∧(K.length:Int)+i≤5∧0≤b∧b≤a+3*(5-i)∧∀k∈K,k∈madeL∧k.1≠7∧k.1≠6) (fun s=>(s.2.1+1).toNat)
  (fun o=>∃(K:List Ky) (b:Int),o=(K,l,b)∧(∀k∈K,k∈madeL∧k.1≠7∧k.1≠6)∧K.length≤6) (fun s hs=> ?_) ⟨[],r,a,rfl,by omega,by omega,by simp only[jE];omega,by omega,by omega,fun k hk=>by cases hk⟩ (by simp only;omega) ?_
 ·obtain⟨K,i,b,rfl,i0,i1,hl,b0,b1,hK⟩:=hs
  unfold qFx
  refine Ok.ite (fun hc=> ?_) fun hc=>Ok.mk ⟨K,b,rfl,hK,by simp only[jB] at hc;omega⟩
  have hc:0≤i:=by simpa using hc
  have ew:IntKind.wrap .i64 (i-1)=i-1:=wi64 (by omega) (by omega)
  dsimp only
  simp only[ew]
  refine Ok.assoc (Ok.bind (Key_ok b0 (by omega)) ?_)
  rintro _ ⟨b',z,rfl,c1,c2,c3⟩
  dsimp only
  by_cases h7:z.1=7
  ·simp only[h7,gK,jC,jH,jA]
   exact Ok.mk ⟨⟨K,i-1,b',rfl,by omega,by omega,by omega,by omega,by omega,hK⟩,by simp only;omega⟩
  ·by_cases h6:z.1=6
   ·simp only[h6,gK,jC,jH,ite_self,jA]
    exact Ok.mk ⟨⟨K,i-1,b',rfl,by omega,by omega,by omega,by omega,by omega,hK⟩,by simp only;omega⟩
   ·have n7:(z.1 !=7)=true:=by simpa using h7
    have n6:(z.1 !=6)=true:=by simpa using h6
    simp only[n7,n6,jI,jA]
    refine Ok.assoc (Ok.app (by simp only[jD,jE];omega) (by decide) (Ok.someb (Ok.mk ⟨⟨K++[z],i-1,b',rfl,by omega,by omega,by simp only[jF,jD,jE];omega,by omega,by omega,fun k hk=> ?_⟩,by simp only;omega⟩)))
    rcases kL.1 hk with hk|hk
    ·exact hK k hk
    ·rw[kY.1 hk];exact⟨c3,h7,h6⟩
 ·rintro _ ⟨K,b,rfl,g2,g3⟩
  exact k K b g2 g3
theorem Made.sm{L:List File}(h:Made L)(hl:L.length≤7):SmF L:=⟨h.1,by omega,fun f hf=>⟨h.path hf,fL (h.2 f hf).2 (by decide)⟩⟩
theorem MadeE.sm{J:Nat}{L:List File}(h:MadeE J L)(hJ:J≤10000)(hl:L.length≤20):SmF L:=⟨h.1,hl,fun f hf=>⟨(h.2 f hf).1,fL (h.2 f hf).2 hJ⟩⟩
end
theorem zGl{N:Nat}(hN:3000000<N)(l:List Int):Ok (qHj N l) fun z=>z=true:=by
 unfold qHj
 refine Ok.bind (zJf (by omega) (by decide) (by decide)) ?_
 rintro _ ⟨a1,L,rfl,p1,p2,hL,hl⟩
 dsimp only
 refine Ok.bind (zTj (K:=4700) (by omega) (by omega) (by omega) hL.e (by decide) (by decide) (by omega)) ?_
 rintro _ ⟨a2,L',rfl,q1,q2,hL',hl'⟩
 dsimp only
 refine Ok.bind (qVa (by omega) (by omega) (by omega)) ?_
 rintro _ ⟨a3,env,rfl,s1,s2,he⟩
 dsimp only
 refine Ok.bind (qVa (by omega) (by omega) (by omega)) ?_
 rintro _ ⟨a4,env',rfl,t1,t2,he'⟩
 dsimp only
 refine Ok.next (by omega) (by omega) (by decide) (by decide) fun r r0 r1=> ?_
 dsimp only
 refine zOp (by omega) (by omega) r0 r1 (by omega) fun K b hK hk=> ?_
 rw[zIf (hL.sm hl) (hL'.sm (by decide) (by omega)) he he' hN hK (by dsimp only;omega)]
 simp only[jA]
 rw[zId (by omega)]
 exact Ok.mk rfl
theorem testgatelaw12_LevelSafe_true(l:List Int){G:Prop}(_gl:G):∃N,qHj N l=some true:=by
 obtain⟨z,h1,rfl⟩:=zGl (N:=3000001) (by decide) l
 exact⟨_,h1⟩
end
end Go.Proofs.YtfbdkahdgbimeaaGreatDoor
