/- No condition but those of each theorem. -/
import Derived.Test.YtcdpbapbpcpflaaGreatDoorProg
import Derived.WalkKit
import Derived.Deep.LoopGhost
import Derived.KernelRfl
import Derived.OrdersHeld
import Derived.OrdersIn
import Derived.LoopNIn
import Derived.Sort.LoopGhostIn
import Derived.Laws.AppendOwn
import Derived.RangeFuncLeaves
import Derived.RangeFuncRecord
import Derived.MapKept
import Derived.Maps.RangeRun
import Derived.ChangeKeysEq
import Derived.HandedShaped
import Derived.ChangeStays
import Derived.ChangeSame
import Derived.OpenShut
import Derived.WideShapes
import Derived.JoinedOf
import Derived.ReadAgain
import Derived.ChangeAt
import Derived.RowKit
import Derived.Lib.Overlaps
import Derived.Shelf.SlSortCmp.NoneTotal
import Derived.Shelf.Sort.Plain
import Derived.Shelf.Slices.In.SortNone
import Derived.WalkSmall
import Derived.Recover
import Derived.Test.YtcdpbapbpcpflaaGreatDoorRows
import Derived.Lib.Bytealg
import Derived.Test.YtcdpbapbpcpflaaGreatDoorK5p2
namespace Go.Proofs.YtcdpbapbpcpflaaGreatDoor
section
open Go Go.Dc
def Ok{α:Type}(x:Option α)(Q:α→Prop):Prop:=∃a,x=some a∧Q a
section
variable {α β γ:Type} {Q:β→Prop}
theorem Ok.mk{a:β}(h:Q a):Ok (some a) Q:=⟨a,rfl,h⟩
theorem Ok.bind{x:Option α}{P:α→Prop}{f:α→Option β}(h:Ok x P)(k:∀a,P a→Ok (f a) Q):Ok (x.bind f) Q:=by
 obtain⟨a,rfl,ha⟩:=h
 exact k a ha
theorem Ok.mono{x:Option β}{P:β→Prop}(h:Ok x P)(k:∀a,P a→Q a):Ok x Q:=by
 obtain⟨a,e,ha⟩:=h
 exact⟨a,e,k a ha⟩
theorem Ok.assoc{x:Option α}{g:α→Option γ}{f:γ→Option β}(h:Ok (x.bind fun a=>(g a).bind f) Q):Ok ((x.bind g).bind f) Q:=by
 rw[gG];exact h
theorem Ok.ite{c:Prop}[Decidable c]{x y:Option β}(h1:c→Ok x Q)(h2:¬c→Ok y Q):Ok (if c then x else y) Q:=by
 by_cases h:c
 ·rw[if_pos h];exact h1 h
 ·rw[if_neg h];exact h2 h
theorem Ok.loop{σ:Type}{f:σ→Option (σ⊕α)}{g:α→Option β}{s:σ}{N:Nat}(I:σ→Prop)(μ:σ→Nat)(R:α→Prop)
  (h:∀s,I s→Ok (f s) fun r=>match r with| .inl s'=>I s'∧μ s'<μ s| .inr b=>R b) (hs:I s) (hN:μ s<N) (k:∀b,R b→Ok (g b) Q):Ok ((qAw f N s).bind g) Q:=by
 obtain⟨b,h1,h2⟩:=zEm I μ R (fun s hs=>by
  obtain⟨r,h1,h2⟩:=h s hs
  cases r with
  |inl s'=>exact .inr ⟨s',h1,h2.1,h2.2⟩
  |inr b=>exact .inl ⟨b,h1,h2⟩) N s hs hN
 rw[h1];exact k b h2
end
theorem zRp{N:Nat}{v n:Int}(hn:n≤9223372036854775807):∃r,qLb N v n=some r∧0≤r∧(1≤n→r<n):=by
 simp only[qLb]
 by_cases h:n≤1
 ·exact⟨0,by simp[h],by omega,by omega⟩
 ·have hne:n≠0:=by omega
  have h1:=Int.tmod_lt_of_pos v (show 0<n by omega)
  have h2:=Int.lt_tmod_of_pos v (show 0<n by omega)
  simp only[h,decide_false,jB,jE,remS,hne,j0]
  by_cases h3:Int.tmod v n<0
  ·refine⟨Int.tmod v n+n,?_,by omega,by omega⟩
   simp only[h3,decide_true,jH,j0]
   rw[wi64 (by omega) (by omega)]
  ·exact⟨Int.tmod v n,by simp only[h3,decide_false,jB,jE,j0],by omega,by omega⟩
theorem zEp{N:Nat}{l:List Int}{a n:Int}(h0:0≤a)(h1:a<4611686018427387904)(hn:n≤9223372036854775807):∃r,qDl N (l,a) n=some ((l,a+1),r)∧0≤r∧(1≤n→r<n):=by
 simp only[qDl]
 have hv:∃v,(if(decide (a<(List.length l:Int)))=true then((idx l a).bind fun x1=>some x1) else(some (Int.tmod (IntKind.wrap .i64 (a*7)) 11)):Option Int)=some v:=by
  by_cases h:a<(l.length:Int)
  ·exact⟨_,by simp only[h,decide_true,jH];rw[qZq h0 (by omega)];rfl⟩
  ·exact⟨_,by simp only[h,decide_false,jB,jE];rfl⟩
 obtain⟨v,hv⟩:=hv
 obtain⟨r,hr,h2,h3⟩:=zRp (N:=N) (v:=v) hn
 exact⟨r,by simp only[hv,j0,hr];rw[wi64 (by omega) (by omega)],h2,h3⟩
section
variable {β:Type} {Q:β→Prop} {N:Nat} {l:List Int} {a:Int}
theorem Ok.next{n:Int}{f:(List Int×Int)×Int→Option β}(h0:0≤a)(h1:a<4611686018427387904)(hn:1≤n)(hn2:n≤1000000)(h:∀r,0≤r→r<n→Ok (f ((l,a+1),r)) Q):Ok ((qDl N (l,a) n).bind f) Q:=by
 obtain⟨r,hr,g1,g2⟩:=zEp (N:=N) (l:=l) h0 h1 (show n≤9223372036854775807 by omega)
 rw[hr];exact h r g1 (g2 hn)
theorem Ok.one{L:List ByteArray}{f:(List Int×Int)×ByteArray→Option β}(h0:0≤a)(h1:a<4611686018427387904)(hL:0<L.length)(hL2:L.length<1000)(h:∀x∈L,Ok (f ((l,a+1),x)) Q):Ok ((qFr N (l,a) L).bind f) Q:=by
 obtain⟨r,hr,g1,g2⟩:=zEp (N:=N) (l:=l) h0 h1 (show(L.length:Int)≤9223372036854775807 by omega)
 have g2:=g2 (by omega)
 have hlt:r.toNat<L.length:=by omega
 simp only[qFr]
 rw[if_neg (by rw[k9];omega),hr]
 simp only[j0]
 rw[qZq g1 hlt]
 exact h _ (kA hlt)
theorem Ok.pick{L:List Int}{f:(List Int×Int)×Int→Option β}(h0:0≤a)(h1:a<4611686018427387904)(hL:0<L.length)(hL2:L.length<1000)(h:∀x∈L,Ok (f ((l,a+1),x)) Q):Ok ((qIn N (l,a) L).bind f) Q:=by
 obtain⟨r,hr,g1,g2⟩:=zEp (N:=N) (l:=l) h0 h1 (show(L.length:Int)≤9223372036854775807 by omega)
 have g2:=g2 (by omega)
 have hlt:r.toNat<L.length:=by omega
 simp only[qIn]
 rw[if_neg (by rw[k9];omega),hr]
 simp only[j0]
 rw[qZq g1 hlt]
 exact h _ (kA hlt)
end
section
variable {N:Nat} {l:List Int}
end
end
section
open Go Go.Dc
def srcL:List ByteArray:=[(⟨#[97,46,115,114,99]⟩:ByteArray),(⟨#[98,46,115,114,99]⟩:ByteArray),(⟨#[100,47,99,46,115,114,99]⟩:ByteArray),(⟨#[120,46,115,114,99]⟩:ByteArray)]
def datL:List ByteArray:=[(⟨#[97,46,100,97,116]⟩:ByteArray),(⟨#[100,47,98,46,100,97,116]⟩:ByteArray),(⟨#[99]⟩:ByteArray)]
theorem zTm:(srcL.all fun p=>qNn p.data.toList)=true:=by kernel_rfl
theorem zTs:(datL.all fun p=>qNn p.data.toList)=true:=by kernel_rfl
def Made(L:List File):Prop:=Asc L∧∀f∈L,f.1∈srcL++datL∧f.2.size≤4700
theorem Made.put{L:List File}(h:Made L){p b:ByteArray}(hp:p∈srcL++datL)(hb:b.size≤4700):Made (fput L p b):=
 ⟨h.1.put p b,fun f hf=>by
  rcases qZm hf with rfl|hf
  ·exact⟨hp,hb⟩
  ·exact h.2 f hf⟩
theorem Made.path{L:List File}(h:Made L){f:File}(hf:f∈L):qNn f.1.data.toList=true:=by
 rcases gJ.1 (h.2 f hf).1 with h|h
 ·exact k7.1 zTm _ h
 ·exact k7.1 zTs _ h
theorem Made.wf{L:List File}(h:Made L)(hl:L.length≤64):WF L:=⟨hl,h.1,fun f hf=>⟨h.path hf,fV (h.2 f hf).2 (by decide)⟩⟩
end
section
open Go Go.Dc
def MadeE(K:Nat)(L:List File):Prop:=Asc L∧∀f∈L,qNn f.1.data.toList=true∧f.2.size≤K
theorem Made.e{L:List File}(h:Made L):MadeE 4700 L:=⟨h.1,fun f hf=>⟨h.path hf,(h.2 f hf).2⟩⟩
theorem MadeE.put{K:Nat}{L:List File}(h:MadeE K L){p b:ByteArray}(hp:qNn p.data.toList=true)(hb:b.size≤K):MadeE K (fput L p b):=
 ⟨h.1.put p b,fun f hf=>by
  rcases qZm hf with rfl|hf
  ·exact⟨hp,hb⟩
  ·exact h.2 f hf⟩
theorem MadeE.more{K K':Nat}{L:List File}(h:MadeE K L)(hk:K≤K'):MadeE K' L:=⟨h.1,fun f hf=>⟨(h.2 f hf).1,fV (h.2 f hf).2 hk⟩⟩
theorem MadeE.wf{K:Nat}{L:List File}(h:MadeE K L)(hk:K≤16384)(hl:L.length≤64):WF L:=⟨hl,h.1,fun f hf=>⟨(h.2 f hf).1,fV (h.2 f hf).2 hk⟩⟩
section
variable {N:Nat} {l:List Int} {a:Int} {K:Nat} {L:List File}
end
end
section
open Go Go.Dc Go.Proofs
def lowK:List File→ByteArray→Nat
 |[],_=>0
 |f::L,p=>if blt f.1 p=true then lowK L p+1 else 0
theorem zSz(L:List File)(p:ByteArray):lowK L p≤L.length:=by
 induction L with
 |nil=>exact jP _
 |cons f L ih=>simp only[lowK];split<;>simp only[jC]<;>omega
theorem zNe{L:List File}(ha:Asc L)(p:ByteArray):∀h,∀hh:h<L.length,(blt (L[h]).1 p=true↔h<lowK L p):=by
 induction L with
 |nil=>intro h hh;cases hh
 |cons f L ih=>
  have ha':=jW.1 ha
  intro h hh
  simp only[lowK]
  by_cases hf:blt f.1 p=true
  ·rw[if_pos hf]
   cases h with
   |zero=>simp[hf]
   |succ h=>simpa using ih ha'.2 h (by simpa using hh)
  ·rw[if_neg hf]
   cases h with
   |zero=>simpa using hf
   |succ h=>
    simp only[List.getElem_cons_succ,kZ,iff_false]
    intro h2
    exact hf (qOe (ha'.1 _ (kA (by simpa using hh))) h2)
def zRi(p:ByteArray)(f:File):Option ByteArray:=if f.1=p then some f.2 else none
theorem zLf{L:List File}(ha:Asc L)(p:ByteArray):fget L p=(L[lowK L p]?).bind (zRi p):=by
 induction L with
 |nil=>rfl
 |cons f L ih=>
  have ha':=jW.1 ha
  simp only[lowK,fget]
  by_cases hf:blt f.1 p=true
  ·rw[if_pos hf,if_neg (zOm hf),List.getElem?_cons_succ,ih ha'.2]
  ·rw[if_neg hf,List.getElem?_cons_zero]
   simp only[j0,zRi]
   by_cases he:f.1=p
   ·rw[if_pos he,if_pos he]
   ·rw[if_neg he,if_neg he]
    have hp:blt p f.1=true:=by
     rcases qSb f.1 p with h|h|h
     ·exact absurd h hf
     ·exact absurd h he
     ·exact h
    exact qPm fun g hg=>qOe hp (ha'.1 g hg)
theorem at_eq{N:Nat}{L:List File}(ha:Asc L)(p:ByteArray)(hl:L.length<1000000)(hN:L.length<N):qQw N L p=some ((lowK L p:Int),(fget L p).isSome):=by
 have hk:=zSz L p
 have hloop:=zLk (f:=qMw N L p) (fun s=>∃i j:Nat,s=((i:Int),(j:Int))∧i≤lowK L p∧lowK L p≤j∧j≤L.length) (fun s=>s.2.toNat-s.1.toNat) (fun _=>(lowK L p:Int)) (by
  rintro _ ⟨i,j,rfl,h1,h2,h3⟩
  simp only[qMw]
  by_cases hij:i<j
  ·right
   rw[if_pos (by simpa using hij)]
   have eh:IntKind.wrap .i64 (Int.fdiv (IntKind.wrap .u64 (IntKind.wrap .i64 ((i:Int)+(j:Int)))) (2^1))=(((i+j)/2:Nat):Int):=by
    rw[wi64 (x:=(i:Int)+(j:Int)) (by omega) (by omega),wu64 (by omega) (by omega),Int.fdiv_eq_ediv_of_nonneg _ (by decide),wi64 (by omega) (by omega)]
    omega
   have hh:(i+j)/2<L.length:=by omega
   have hsp:=zNe ha p _ hh
   rw[eh,qDu hh]
   simp only[j0]
   by_cases hb:blt (L[(i+j)/2]).1 p=true
   ·have hlt:=hsp.1 hb
    have hb':Op.bytesLess (L[(i+j)/2]).1.toList p.toList=true:=hb
    rw[hb',if_pos (by rfl),wi64 (by omega) (by omega)]
    exact⟨_,rfl,⟨(i+j)/2+1,j,by simp,by omega,h2,h3⟩,by simp only;omega,trivial⟩
   ·have hge:¬(i+j)/2<lowK L p:=fun h=>hb (hsp.2 h)
    have hb':Op.bytesLess (L[(i+j)/2]).1.toList p.toList=false:=by
     cases hq:Op.bytesLess (L[(i+j)/2]).1.toList p.toList with
     |false=>rfl
     |true=>exact absurd hq hb
    rw[hb',if_neg (by simp)]
    exact⟨_,rfl,⟨i,(i+j)/2,rfl,h1,by omega,by omega⟩,by simp only;omega,trivial⟩
  ·left
   have e1:i=lowK L p:=by omega
   rw[if_neg (by simpa using hij)]
   simp only[e1]) N (0,(L.length:Int)) ⟨0,L.length,rfl,k0 _,hk,jP _⟩ (by simp only;omega)
 simp only[qQw]
 rw[hloop]
 simp only[j0]
 rw[zLf ha]
 rcases fA (lowK L p) L.length with hlt|hge
 ·rw[if_pos (by simp only[jA];omega),qDu hlt,List.getElem?_eq_getElem hlt]
  simp only[j0,eqB,zRi]
  by_cases he:(L[lowK L p]).1=p
  ·rw[if_pos he,jO he];rfl
  ·rw[if_neg he,jU he];rfl
 ·rw[if_neg (by simp only[jA];omega),List.getElem?_eq_none hge]
  rfl
theorem zUa{N:Nat}{L:List File}(p:ByteArray)(hP:qMu N L)(hN:100<N):qOd N L p=some (zLv L p):=by
 simp only[qOd,zLi hP hN,j0]
 unfold zLv
 by_cases hc:qIg L=0
 ·rw[if_neg (by simp[hc]),if_pos hc]
  have hw:=qIa.1 hc
  rw[at_eq hw.2.1 p (by have:=hw.1;omega) (by have:=hw.1;omega)]
  simp only[j0]
  have hfl:=zLf hw.2.1 p
  rcases fA (lowK L p) L.length with hlt|hge
  ·rw[List.getElem?_eq_getElem hlt] at hfl
   rw[qDu hlt]
   simp only[j0,zRi] at hfl
   by_cases he:(L[lowK L p]).1=p
   ·rw[if_pos he] at hfl;rw[hfl];rfl
   ·rw[if_neg he] at hfl;rw[hfl];rfl
  ·rw[List.getElem?_eq_none hge] at hfl;rw[hfl];rfl
 ·rw[if_pos (by simpa using hc),if_neg hc];rfl
end
section
open Go Go.Dc Go.Proofs
theorem zFp{α:Type}{lt:α→α→Prop}(irr:∀x,¬lt x x)(tr:∀x y z,lt x y→lt y z→lt x z):∀{l k:List α},l.Pairwise lt→k.Pairwise lt→(∀z,z∈l↔z∈k)→l=k
 |[],[],_,_,_=>rfl
 |[],y::k,_,_,h=>by have:=(h y).2 (jN ..);cases this
 |x::l,[],_,_,h=>by have:=(h x).1 (jN ..);cases this
 |x::l,y::k,h1,h2,h=>by
  obtain⟨a1,a2⟩:=jW.1 h1
  obtain⟨b1,b2⟩:=jW.1 h2
  have hxy:x=y:=by
   rcases jL.1 ((h x).1 (jN ..)) with e|e
   ·exact e
   ·rcases jL.1 ((h y).2 (jN ..)) with g|g
    ·exact g.symm
    ·exact absurd (tr _ _ _ (b1 x e) (a1 y g)) (irr y)
  subst hxy
  have:l=k:=zFp irr tr a2 b2 fun z=>by
   constructor
   ·intro hz
    rcases jL.1 ((h z).1 (jS _ hz)) with e|e
    ·rw[e] at hz;exact absurd (a1 x hz) (irr x)
    ·exact e
   ·intro hz
    rcases jL.1 ((h z).2 (jS _ hz)) with e|e
    ·rw[e] at hz;exact absurd (b1 x hz) (irr x)
    ·exact e
  rw[this]
def insU{α:Type}[DecidableEq α](b:α→α→Bool)(e:α):List α→List α
 |[]=>[e]
 |x::l=>if b x e=true then x::insU b e l else if x=e then x::l else e::x::l
theorem qZo{α:Type}[DecidableEq α]{b:α→α→Bool}{e z:α}:∀{l:List α},z∈insU b e l↔z=e∨z∈l
 |[]=>by simp[insU]
 |x::l=>by
  have ih:=qZo (b:=b) (e:=e) (z:=z) (l:=l)
  simp only[insU]
  split
  ·rw[jL,ih,jL]
   constructor
   ·rintro(h|h|h)
    ·exact .inr (.inl h)
    ·exact .inl h
    ·exact .inr (.inr h)
   ·rintro(h|h|h)
    ·exact .inr (.inl h)
    ·exact .inl h
    ·exact .inr (.inr h)
  ·split
   ·rename_i h
    constructor
    ·exact .inr
    ·rintro(g|g)
     ·rw[g,←h];exact jN ..
     ·exact g
   ·exact jL
theorem qUu{α:Type}[DecidableEq α]{b:α→α→Bool}{e:α}:∀{l:List α},(insU b e l).length≤l.length+1
 |[]=>jP _
 |x::l=>by
  have ih:=qUu (b:=b) (e:=e) (l:=l)
  simp only[insU]
  split
  ·simp only[jC];omega
  ·split
   ·simp only[jC];omega
   ·simp only[jC];omega
theorem qZy{α:Type}[DecidableEq α]{b:α→α→Bool}(tr:∀x y z,b x y=true→b y z=true→b x z=true){e:α}:∀{l:List α},(∀x∈l,b x e=false→x≠e→b e x=true)→l.Pairwise (fun x y=>b x y=true)→(insU b e l).Pairwise fun x y=>b x y=true
 |[],_,_=>List.pairwise_singleton ..
 |x::l,ht,hp=>by
  obtain⟨h1,h2⟩:=jW.1 hp
  simp only[insU]
  split
  ·rename_i h
   refine jW.2 ⟨fun y hy=> ?_,qZy tr (fun y hy=>ht y (jS _ hy)) h2⟩
   rcases qZo.1 hy with rfl|hy
   ·exact h
   ·exact h1 y hy
  ·rename_i h
   split
   ·exact hp
   ·rename_i hne
    have hx:=ht x (jN ..) (by simpa using h) hne
    refine jW.2 ⟨fun y hy=> ?_,hp⟩
    rcases jL.1 hy with rfl|hy
    ·exact hx
    ·exact tr _ _ _ hx (h1 y hy)
theorem bl_lt:∀a b:List UInt8,Op.bytesLess a b=true↔a<b
 |_,[]=>by simp[Op.bytesLess]
 |[],_::_=>by simp[Op.bytesLess]
 |x::a,y::b=>by
  have ih:=bl_lt a b
  simp only[Op.bytesLess,gZ,jA,jX,k9,List.cons_lt_cons_iff,ih]
theorem zTw{a b:ByteArray}:blt a b=true↔a.data.toList<b.data.toList:=by
 unfold blt
 rw[bl_lt,ByteArray.toList_eq,ByteArray.toList_eq]
theorem zUb{a b:ByteArray}:a.data.toList≤b.data.toList↔blt b a=false:=by
 rw[←List.not_lt,←zTw];simp
theorem zMe{l:List ByteArray}(hn:l.Nodup):(qTl l).Pairwise fun x y=>blt x y=true:=by
 have h1:(qTl l).Pairwise fun x y=>decide (x.data.toList≤y.data.toList)=true:=by
  unfold qTl
  refine List.pairwise_mergeSort (fun x y z h1 h2=> ?_) (fun x y=> ?_) l
  ·simp only[jA] at*;exact List.le_trans h1 h2
  ·simp only[gZ,jA];exact List.le_total _ _
 have h2:(qTl l).Pairwise fun x y=>x≠y:=by
  have:(qTl l).Nodup:=by unfold qTl;exact((List.mergeSort_perm l _).nodup_iff).2 hn
  exact this
 refine(h1.and h2).imp fun {x y} h=> ?_
 have h3:=zUb.1 (kY h.1)
 rcases qSb x y with g|g|g
 ·exact g
 ·exact absurd g h.2
 ·rw[g] at h3;cases h3
theorem zPe{l:List ByteArray}{z:ByteArray}:z∈qTl l↔z∈l:=by unfold qTl;exact List.mem_mergeSort
def addB(l:List ByteArray)(s:ByteArray):List ByteArray:=insU blt s l
theorem zHq:∀(K l:List ByteArray),l.Pairwise (fun x y=>blt x y=true)→(K.foldl addB l).Pairwise (fun x y=>blt x y=true)∧∀z,z∈K.foldl addB l↔z∈l∨z∈K
 |[],l,h=>⟨h,fun z=>by simp⟩
 |s::K,l,h=>by
  have h1:(addB l s).Pairwise fun x y=>blt x y=true:=qZy (b:=blt) (e:=s) (l:=l) (fun _ _ _ h1 h2=>qOe h1 h2) (fun x _ h2 h3=>by
   rcases qSb x s with g|g|g
   ·rw[g] at h2;cases h2
   ·exact absurd g h3
   ·exact g) h
  obtain⟨h2,h3⟩:=zHq K (addB l s) h1
  refine⟨h2,fun z=> ?_⟩
  rw[jQ,h3 z]
  unfold addB
  rw[qZo,jL]
  constructor
  ·rintro((h|h)|h)
   ·exact .inr (.inl h)
   ·exact .inl h
   ·exact .inr (.inr h)
  ·rintro(h|h|h)
   ·exact .inl (.inr h)
   ·exact .inl (.inl h)
   ·exact .inr h
theorem zPx{l K:List ByteArray}(hn:l.Nodup)(hm:∀z,z∈l↔z∈K):qTl l=K.foldl addB []:=by
 obtain⟨h1,h2⟩:=zHq K [] List.Pairwise.nil
 refine zFp (lt:=fun x y=>blt x y=true) (fun x h=>by rw[qSd] at h;cases h) (fun _ _ _ h1 h2=>qOe h1 h2) (zMe hn) h1 fun z=> ?_
 rw[zPe,h2 z,hm z];simp
theorem zMs{O:List Occ}{k k':Int}{p p' n n':ByteArray}(h:keyC k p n=keyC k' p' n'):entE O k p n=entE O k' p' n':=by
 have e:noE k p n=noE k' p' n':=by
  obtain⟨rfl,rfl,h3⟩:=qUs h
  unfold noE
  rcases h3 with rfl|rfl
  ·simp
  ·rfl
 have e2:seeE k p n=seeE k' p' n':=by
  obtain⟨rfl,rfl,-⟩:=qUs h
  funext x o
  unfold seeE
  rw[h]
 unfold entE
 rw[e,e2]
def seeI(k:Int)(p n:ByteArray)(e:Ent):Prop:=e.2.1=n∧e.2.2.1=k∧(k=3∨e.1=p)
theorem zIv(O:List Occ)(k:Int)(p n:ByteArray):seeI k p n (entE O k p n):=by
 suffices h:∀(O:List Occ) (e:Ent),seeI k p n e→seeI k p n (O.foldl (seeE k p n) e) from h O _ ⟨rfl,rfl,by
  unfold noE
  by_cases h:k=3
  ·exact .inl h
  ·exact .inr (if_neg h)⟩
 intro O
 induction O with
 |nil=>intro e h;exact h
 |cons o O ih=>
  intro e h
  rw[jQ]
  refine ih _ ?_
  unfold seeE
  split
  ·rename_i hk
   obtain⟨e1,e2,e3⟩:=qUs (show keyC o.2.2.1 o.1 o.2.1=keyC k p n from hk)
   split
   ·exact⟨rfl,rfl,by rw[←e1];rcases e3 with e3|e3;exact .inl e3;exact .inr e3⟩
   ·exact h
  ·exact h
theorem zQl(O:List Occ)(k:Int)(p n:ByteArray):keyC (entE O k p n).2.2.1 (entE O k p n).1 (entE O k p n).2.1=keyC k p n:=by
 obtain⟨h1,h2,h3⟩:=zIv O k p n
 rw[h1,h2]
 unfold keyC
 rcases h3 with h3|h3
 ·simp[h3]
 ·rw[h3]
theorem zLx(O:List Occ)(k:Int)(p n:ByteArray):(entE O k p n).2.2.2.2.2=(O.countP fun o=>decide (okey o=keyC k p n):Nat):=by
 suffices h:∀(O:List Occ) (e:Ent),(O.foldl (seeE k p n) e).2.2.2.2.2=e.2.2.2.2.2+(O.countP fun o=>decide (okey o=keyC k p n):Nat) by
  have:=h O (noE k p n)
  unfold entE
  rw[this]
  show(0:Int)+_=_
  omega
 intro O
 induction O with
 |nil=>intro e;simp
 |cons o O ih=>
  intro e
  rw[jQ,ih,List.countP_cons]
  unfold seeE
  by_cases hk:okey o=keyC k p n
  ·simp only[if_pos hk,hk,decide_true,jH]
   split
   ·rename_i h0
    simp only[h0];omega
   ·simp only[];omega
  ·simp only[if_neg hk,hk,decide_false]
   simp
theorem zRm{O:List Occ}{k:Int}{p n:ByteArray}:(entE O k p n).2.2.2.2.2≠0↔∃o∈O,okey o=keyC k p n:=by
 rw[zLx]
 constructor
 ·intro h
  have:0<O.countP fun o=>decide (okey o=keyC k p n):=by omega
  obtain⟨o,h1,h2⟩:=List.countP_pos_iff.1 this
  exact⟨o,h1,kY h2⟩
 ·rintro⟨o,h1,h2⟩
  have:0<O.countP fun o=>decide (okey o=keyC k p n):=List.countP_pos_iff.2 ⟨o,h1,jO h2⟩
  omega
def entO(O:List Occ)(o:Occ):Ent:=entE O o.2.2.1 o.1 o.2.1
def keyV(v:Ent):K3:=keyC v.2.2.1 v.1 v.2.1
theorem zAe(O:List Occ)(o:Occ):keyV (entO O o)=okey o:=zQl ..
theorem zJx{O:List Occ}{o o':Occ}(h:okey o=okey o'):entO O o=entO O o':=zMs h
theorem zKr{O:List Occ}{o o':Occ}(h:keyV (entO O o)=keyV (entO O o')):entO O o=entO O o':=zJx (by rw[←zAe O o,←zAe O o',h])
def mapO(O:List Occ):List (K3×Ent):=O.foldl qLo []
theorem zHu:∀(O:List Occ) (M:List (K3×Ent)) (J:List Occ),(M.map (·.1)).Nodup→(∀c v,mget M c=some v→∃o∈J,c=okey o)→((O.foldl qLo M).map (·.1)).Nodup∧∀c v,mget (O.foldl qLo M) c=some v→∃o∈J++O,c=okey o
 |[],M,J,hn,h=>⟨hn,by rw[hU];exact h⟩
 |o::O,M,J,hn,h=>by
  rw[jQ,show J++o::O=(J++[o])++O by simp]
  refine zHu O _ _ (qOx hn _ _) fun c v hc=> ?_
  unfold qLo at hc
  rw[qSk hn] at hc
  by_cases e:c=okey o
  ·exact⟨o,by simp,e⟩
  ·rw[if_neg e] at hc
   obtain⟨o',h1,h2⟩:=h c v hc
   exact⟨o',by simp[h1],h2⟩
theorem zMi{O:List Occ}(hO:O.length<1000000){c:K3}{v:Ent}:(c,v)∈mapO O↔∃o∈O,c=okey o∧v=entO O o:=by
 have hM:=MapE.fold hO
 obtain⟨hn,hk⟩:=zHu O [] [] gD (fun c v h=>by simp[mget] at h)
 unfold mapO
 rw[←qWh hM.1]
 constructor
 ·intro h
  obtain⟨o,h1,h2⟩:=hk c v h
  rw[kS] at h1
  refine⟨o,h1,h2,?_⟩
  rw[h2,show okey o=keyC o.2.2.1 o.1 o.2.1 from rfl,hM.2] at h
  split at h
  ·cases h
  ·exact(jF h).symm
 ·rintro⟨o,h1,rfl,rfl⟩
  rw[show okey o=keyC o.2.2.1 o.1 o.2.1 from rfl,hM.2,if_neg]
  ·rfl
  ·exact zRm.2 ⟨o,h1,rfl⟩
theorem zMu{O:List Occ}(hO:O.length<1000000):((mapO O).map (·.1)).Nodup:=(MapE.fold hO).1
end
section
open Go Go.Dc Go.Proofs
theorem qQs{α β:Type}(p:α→Bool)(g:α→β):∀(L:List α) (acc:List β),L.foldl (fun t x=>if p x=true then t++[g x] else t) acc=acc++(L.filter p).map g
 |[],acc=>by simp
 |x::L,acc=>by
  rw[jQ,qQs p g L,kU]
  by_cases h:p x=true
  ·rw[if_pos h,if_pos h];simp
  ·rw[if_neg h,if_neg h]
theorem qUr{α σ β:Type}{f:Option α→σ→Option (σ⊕β)}(g:σ→α→σ)(fin:σ→β)(I:Nat→σ→Prop)(h1:∀n x s,I (n+1) s→f (some x) s=some (.inl (g s x))∧I n (g s x))(h2:∀s,f none s=some (.inr (fin s))):∀(k:List α) (s:σ),I k.length s→qNu f k s=some (fin (k.foldl g s))
 |[],s,_=>by simp only[qNu,h2,j0,List.foldl_nil]
 |x::k,s,hI=>by
  obtain⟨e1,e2⟩:=h1 k.length x s (by simpa using hI)
  simp only[qNu,e1,j0,jQ]
  exact qUr g fin I h1 h2 k _ e2
theorem zCp{N:Nat}{L:List File}{p:ByteArray}(hP:qMu N L)(hN:1000001<N):qKz N L p=some (srcP L p):=by
 simp only[qKz,zUa p hP (show 100<N by omega),j0,zKk _ hN]
 unfold srcP zLv
 by_cases hc:qIg L=0
 ·rw[if_pos hc,if_pos hc]
  cases hg:fget L p with
  |none=>rfl
  |some b=>
   have hp:=hP _ (zQo hg)
   simp only[zTq,zAy hp]
   by_cases hs:qGy p=true
   ·rw[if_pos hs,hs]
    simp only[jR,jB,jE,j0]
    congr 2
   ·have hs':qGy p=false:=by simpa using hs
    rw[if_neg hs,hs']
    rfl
 ·rw[if_neg hc,if_neg hc];rfl
def qVt(L:List File):List ByteArray:=if qIg L=0 then qMv L else[]
theorem zDi{N:Nat}{L:List File}(hP:qMu N L)(hN:1000001<N):qJw N L=some (qVt L):=by
 simp only[qJw,zGz hP hN,j0]
 unfold qYt qVt
 by_cases hc:qIg L=0
 ·rw[if_pos hc,if_pos hc]
 ·rw[if_neg hc,if_neg hc]
def badF(f:File):Bool:=qGy f.1&& !decide ((qIh f.2).2.2=0)
theorem zSs(f:File):(if(!qPa f)=true then qGy f.1 else false)=badF f:=by
 unfold badF qPa
 cases qGy f.1<;>cases decide ((qIh f.2).2.2=0)<;>rfl
theorem zHv{N:Nat}{L:List File}(hN:1000005<N):qJo N L=some (qVt L):=by
 simp only[qJo,qNm (show 100<N by omega),j0]
 unfold qVt
 by_cases hc:qIg L=0
 ·rw[if_neg (by simp[hc]),if_pos hc]
  have hl:=(qIa.1 hc).1
  have h:=qMi (L:=L) (fun(t:List ByteArray) (i:Nat)=>(t,(i:Int))) (f:=qFv N L)
   (fun t f=> .inl (if badF f=true then t++[f.1] else t)) (fun t=>t) (fun i t=>t.length≤i) (by
    intro t i hi hI
    simp only[qFv]
    rw[if_pos (by simp only[jA];omega),qDu hi]
    have ew:IntKind.wrap .i64 ((i:Int)+1)=((i+1:Nat):Int):=by rw[wi64 (by omega) (by omega)];omega
    have hs:=qZl hc (kA hi)
    simp only[j0,qNt hN,ew,hs.1,qVj (show 100<N by omega)]
    have hb:=zSs L[i]
    by_cases hg:(!qPa L[i])=true
    ·rw[if_pos hg] at hb ⊢
     simp only[j0,hb]
     by_cases h1:badF L[i]=true
     ·rw[if_pos h1,if_pos h1,qCv (by simp only[jC,jG];omega) (by omega)]
      simp only[j0]
     ·rw[if_neg h1,if_neg h1];rfl
    ·rw[if_neg hg] at hb ⊢
     rw[←hb];rfl) (by
    intro t i hi t' hI h
    cases h
    split
    ·simp only[jI,jC,jG];omega
    ·omega) (by
    intro t hI
    simp only[qFv]
    rw[if_neg (by simp)]) (M:=N) (t:=[]) (by omega) (k0 _)
  rw[show((0:Nat):Int)=0 from rfl] at h
  rw[h,qPc (fun t f=>if badF f=true then t++[f.1] else t) (fun _ _=>rfl),qQs badF (fun f=>f.1)]
  rfl
 ·rw[if_pos (by simpa using hc),if_neg hc]
def zFi(pkg:ByteArray)(f:File):Bool:=qPa f&&decide ((qIh f.2).1.1=pkg)
def zCq(L:List File)(pkg:ByteArray):List File:=if qIg L=0 then L.filter (zFi pkg) else[]
theorem qZj:∀(l:List (ByteArray×Sr)) (S:List (ByteArray×Sr)) (c:ByteArray),(S.map (·.1)).Nodup→(l.map (·.1)).Nodup→
  ((l.foldl (fun S x=>mset S x.1 x.2) S).map (·.1)).Nodup∧(∀v,(c,v)∈l→mget (l.foldl (fun S x=>mset S x.1 x.2) S) c=some v)∧((∀v,(c,v)∉l)→mget (l.foldl (fun S x=>mset S x.1 x.2) S) c=mget S c)
 |[],S,c,h1,_=>⟨h1,(fun v h=>by cases h),fun _=>rfl⟩
 |x::l,S,c,h1,h2=>by
  rw[kF,gI] at h2
  obtain⟨g1,g2,g3⟩:=qZj l (mset S x.1 x.2) c (qOx h1 _ _) h2.2
  rw[jQ]
  refine⟨g1,fun v hv=> ?_,fun hv=> ?_⟩
  ·rcases jL.1 hv with e|hv
   ·subst e
    rw[g3 fun v' h'=>h2.1 (gS.2 ⟨_,h',rfl⟩),qSk h1,if_pos rfl]
   ·exact g2 v hv
  ·rw[g3 fun v h=>hv v (jS _ h),qSk h1,if_neg]
   rintro rfl
   exact hv x.2 (jN ..)
theorem qVp{L:List File}(ha:Asc L):((qHr L).map (·.1)).Nodup:=by
 unfold qHr
 rw[List.map_map]
 exact List.pairwise_map.2 ((List.Pairwise.filter _ ha).imp fun h=>zOm h)
def zFk(L:List File):List (ByteArray×Sr):=(qHr L).foldl (fun S x=>mset S x.1 x.2) []
theorem zIm{L:List File}(ha:Asc L):((zFk L).map (·.1)).Nodup:=(qZj (qHr L) [] qWp gD (qVp ha)).1
theorem zMt{L:List File}(ha:Asc L){f:File}(hf:f∈L):mget (zFk L) f.1=if qPa f=true then some (qIh f.2).1 else none:=by
 have h:=qZj (qHr L) [] f.1 gD (qVp ha)
 unfold zFk
 by_cases hg:qPa f=true
 ·rw[if_pos hg]
  exact h.2.1 _ (gS.2 ⟨f,fZ.2 ⟨hf,hg⟩,rfl⟩)
 ·rw[if_neg hg,h.2.2 (fun v hv=> ?_)]
  ·rfl
  ·obtain⟨f',h1,h2,h3⟩:=zBg hv
   have e:f'.1=f.1:=(congrArg Prod.fst h3).symm
   have e2:f'=f:=by
    have a1:=qVs ha h1
    have a2:=qVs ha hf
    rw[e,a2] at a1
    exact Prod.ext e (jF a1).symm
   rw[e2] at h2;exact hg h2
theorem zCy{L:List File}(ha:Asc L){x:ByteArray×Sr}:x∈zFk L↔x∈qHr L:=by
 have h:=fun c=>qZj (qHr L) [] c gD (qVp ha)
 obtain⟨c,v⟩:=x
 rw[←qWh (zIm ha)]
 by_cases hx:∃v',(c,v')∈qHr L
 ·obtain⟨v',hv'⟩:=hx
  have e:mget (zFk L) c=some v':=(h c).2.1 v' hv'
  rw[e]
  constructor
  ·intro g;rw[←jF g];exact hv'
  ·intro g
   have:=(h c).2.1 v g
   exact e.symm.trans this
 ·have e:mget (zFk L) c=none:=(h c).2.2 fun v' hv'=>hx ⟨v',hv'⟩
  rw[e]
  exact⟨(fun g=>by cases g),fun g=>absurd ⟨v,g⟩ hx⟩
theorem zPs{N:Nat}{L:List File}{pkg:ByteArray}(hP:qMu N L)(hN:1000001<N):qNa N L pkg=some (zCq L pkg):=by
 simp only[qNa,zGz hP hN,j0]
 unfold qYt zCq
 by_cases hc:qIg L=0
 ·have ha:=(qIa.1 hc).2.1
  have hl:=(qIa.1 hc).1
  simp only[if_pos hc]
  rw[if_neg (by simp)]
  unfold qMl
  have h:=qMi (L:=L) (fun(t:List File) (i:Nat)=>(t,(i:Int))) (f:=qIe N (L,true,some (zFk L),qMv L,some ((qLv (qHr L)).foldl qLo [])) pkg)
   (fun t f=> .inl (if zFi pkg f=true then t++[f] else t)) (fun t=>t) (fun i t=>t.length≤i) (by
    intro t i hi hI
    simp only[qIe]
    rw[if_pos (by simp only[jA];omega),qDu hi]
    have ew:IntKind.wrap .i64 ((i:Int)+1)=((i+1:Nat):Int):=by rw[wi64 (by omega) (by omega)];omega
    simp only[j0,ew,qAx,zMt ha (kA hi),eqB]
    unfold zFi
    by_cases hg:qPa L[i]=true
    ·simp only[if_pos hg,hg,fW,jH,j0,gO,gF,jA]
     by_cases h1:(qIh (L[i]).2).1.1=pkg
     ·rw[if_pos h1,if_pos h1,qCv (by simp only[jC,jG];omega) (by omega)]
      simp only[j0]
     ·rw[if_neg h1,if_neg h1];rfl
    ·have hg':qPa L[i]=false:=by simpa using hg
     simp only[hg',jB,jE,Option.isSome_none,j0,d5]) (by
    intro t i hi t' hI h
    cases h
    split
    ·simp only[jI,jC,jG];omega
    ·omega) (by
    intro t hI
    simp only[qIe]
    rw[if_neg (by simp)]) (M:=N) (t:=[]) (by omega) (k0 _)
  rw[show((0:Nat):Int)=0 from rfl] at h
  refine Eq.trans (congrArg (fun z=>Option.bind (Option.bind z _) _) h) ?_
  rw[qPc (fun t f=>if zFi pkg f=true then t++[f] else t) (fun _ _=>rfl),qQs (zFi pkg) (fun f=>f)]
  simp[hc]
 ·simp only[if_neg hc]
  rw[if_pos (by rfl)]
theorem zIq{N:Nat}{L:List File}{pkg:ByteArray}(hN:1000005<N):qKc N L pkg=some (zCq L pkg):=by
 simp only[qKc,qNm (show 100<N by omega),j0]
 unfold zCq
 by_cases hc:qIg L=0
 ·rw[if_neg (by simp[hc]),if_pos hc]
  have hl:=(qIa.1 hc).1
  have h:=qMi (L:=L) (fun(t:List File) (i:Nat)=>(t,(i:Int))) (f:=qGt N L pkg)
   (fun t f=> .inl (if zFi pkg f=true then t++[f] else t)) (fun t=>t) (fun i t=>t.length≤i) (by
    intro t i hi hI
    simp only[qGt]
    rw[if_pos (by simp only[jA];omega),qDu hi]
    have ew:IntKind.wrap .i64 ((i:Int)+1)=((i+1:Nat):Int):=by rw[wi64 (by omega) (by omega)];omega
    have hs:=qZl hc (kA hi)
    simp only[j0,qNt hN,ew,hs.1,eqB]
    unfold zFi
    by_cases hg:qPa L[i]=true
    ·simp only[hg,jH,hs.2 hg,j0,gF,jA]
     by_cases h1:(qIh (L[i]).2).1.1=pkg
     ·rw[if_pos h1,if_pos h1,qCv (by simp only[jC,jG];omega) (by omega)]
      simp only[j0]
     ·rw[if_neg h1,if_neg h1];rfl
    ·have hg':qPa L[i]=false:=by simpa using hg
     simp only[hg',jB,jE,j0,d5]) (by
    intro t i hi t' hI h
    cases h
    split
    ·simp only[jI,jC,jG];omega
    ·omega) (by
    intro t hI
    simp only[qGt]
    rw[if_neg (by simp)]) (M:=N) (t:=[]) (by omega) (k0 _)
  rw[show((0:Nat):Int)=0 from rfl] at h
  rw[h,qPc (fun t f=>if zFi pkg f=true then t++[f] else t) (fun _ _=>rfl),qQs (zFi pkg) (fun f=>f)]
  simp
 ·rw[if_pos (by simpa using hc),if_neg hc]
end
section
open Go Go.Dc Go.Proofs
section
variable {κ ν:Type} [DecidableEq κ]
theorem zHn:∀(l:List (κ×ν)) (k:κ) (v:ν),(qQz l k v).length≤l.length+1
 |[],k,v=>by simp[qQz]
 |p::l,k,v=>by
  have:=zHn l k v
  simp only[qQz]
  split
  ·simp
  ·simp only[jC];omega
theorem zDw[KOrd κ]{l:List (κ×ν)}(hn:(l.map (·.1)).Nodup)(k:κ)(v:ν):(mset l k v).length≤l.length+1:=by
 have h1:=(qQp (.refl l) hn k v).length_eq
 have h2:=zHn l k v
 omega
theorem zQi[KOrd κ]{l:List (κ×ν)}(hn:(l.map (·.1)).Nodup)(k:κ)(v:ν)(c:κ):c∈(mset l k v).map (·.1)↔c=k∨c∈l.map (·.1):=by
 have h:=qSk hn k v c
 have a1:mget (mset l k v) c=none↔c∉(mset l k v).map (·.1):=qUa
 have a2:mget l c=none↔c∉l.map (·.1):=qUa
 by_cases e:c=k
 ·rw[if_pos e] at h
  refine⟨fun _=> .inl e,fun _=> ?_⟩
  by_cases g:c∈(mset l k v).map (·.1)
  ·exact g
  ·rw[a1.2 g] at h;cases h
 ·rw[if_neg e] at h
  rw[h,a2] at a1
  constructor
  ·intro g;exact .inr (Decidable.byContradiction fun q=>a1.1 q g)
  ·rintro(g|g)
   ·exact absurd g e
   ·exact Decidable.byContradiction fun q=>a1.2 q g
end
def zIy(L:List File):List ByteArray:=(qHr L).map fun x=>x.2.1
def zDc(L:List File):List ByteArray:=if qIg L=0 then(zIy L).foldl addB [] else[]
abbrev HasM:=List (ByteArray×Bool)
def hasF(M:HasM)(x:ByteArray×Sr):HasM:=mset M x.2.1 true
theorem zGt:∀(k:List (ByteArray×Sr)) (M:HasM),(M.map (·.1)).Nodup→((k.foldl hasF M).map (·.1)).Nodup∧(k.foldl hasF M).length≤M.length+k.length∧∀c,c∈(k.foldl hasF M).map (·.1)↔c∈M.map (·.1)∨c∈k.map fun x=>x.2.1
 |[],M,h=>⟨h,jP _,fun c=>by simp⟩
 |x::k,M,h=>by
  obtain⟨h1,h2,h3⟩:=zGt k (hasF M x) (qOx h _ _)
  have h4:(hasF M x).length≤M.length+1:=zDw h _ _
  refine⟨h1,by simp only[jQ,jC];omega,fun c=> ?_⟩
  rw[jQ,h3 c,show c∈(hasF M x).map (·.1)↔c=x.2.1∨c∈M.map (·.1) from zQi h _ _ c,kF,jL]
  constructor
  ·rintro((g|g)|g)
   ·exact .inr (.inl g)
   ·exact .inl g
   ·exact .inr (.inr g)
  ·rintro(g|g|g)
   ·exact .inl (.inr g)
   ·exact .inl (.inl g)
   ·exact .inr g
theorem zRz{N:Nat}(k:List (ByteArray×Sr)):qNu (qIt N) k (some [])=some (some (k.foldl hasF [])):=by
 have h:=qUr (f:=qIt N) (fun s x=>some (hasF (s.getD []) x)) (fun s=>s) (fun _ s=>s.isSome=true) (fun n x s hs=>by
  obtain⟨M,rfl⟩:=fU.1 hs
  exact⟨rfl,rfl⟩) (fun s=>rfl) k (some []) rfl
 rw[h]
 congr 1
 suffices g:∀(k:List (ByteArray×Sr)) (M:HasM),k.foldl (fun s x=>some (hasF (s.getD []) x)) (some M)=some (k.foldl hasF M) from g k []
 intro k
 induction k with
 |nil=>intro M;rfl
 |cons x k ih=>intro M;rw[jQ,jQ];exact ih _
theorem zRv{N:Nat}(k:HasM)(hk:k.length<1000000):qNu (qHg N) k []=some (k.map (·.1)):=by
 have h:=qUr (f:=qHg N) (fun s x=>s++[x.1]) (fun s=>s) (fun n s=>s.length+n<1000000) (fun n x s hs=>by
  refine⟨?_,by simp only[jI,jC,jG];omega⟩
  simp only[qHg]
  rw[qCv (by simp only[jC,jG];omega) (by omega)]
  rfl) (fun s=>rfl) k [] (by simpa using hk)
 rw[h]
 congr 1
 suffices g:∀(k:HasM) (s:List ByteArray),k.foldl (fun s x=>s++[x.1]) s=s++k.map (·.1) from g k []
 intro k
 induction k with
 |nil=>intro s;simp
 |cons x k ih=>intro s;rw[jQ,ih];simp
theorem zRa{N:Nat}{l:List ByteArray}(hl:l.length<1000000):qDb N l=some (qTl l):=by
 unfold qDb
 rw[if_pos (by omega)]
theorem zNo{N:Nat}{L:List File}(hP:qMu N L)(hN:1000001<N):qNb N L=some (zDc L):=by
 simp only[qNb,zGz hP hN,j0]
 have key:∀(S:List (ByteArray×Sr)) (K:List ByteArray),S.length<100000→(∀z,z∈S.map (fun x=>x.2.1)↔z∈K)→
   qQn (qIt N) S (some []:Option HasM) (fun o1=>qQn (qHg N) (Option.getD o1 []) ([]:List ByteArray) (fun o2=>(qDb N o2).bind fun y2=>some y2))=some (K.foldl addB []):=by
  intro S K hS hK
  refine qXv fun k hk=> ?_
  rw[zRz]
  simp only[j0,gO]
  obtain⟨h1,h2,h3⟩:=zGt k [] gD
  have hkl:=hk.length_eq
  refine qXv fun k2 hk2=> ?_
  have hkl2:=hk2.length_eq
  simp only[jG] at h2
  rw[zRv k2 (by omega)]
  simp only[j0]
  rw[zRa (by rw[kP];omega)]
  simp only[j0]
  congr 1
  refine zPx ((hk2.map _).nodup_iff.2 h1) fun z=> ?_
  rw[(hk2.map _).mem_iff,h3 z,←hK z,(hk.map _).mem_iff]
  simp
 unfold qYt zDc
 by_cases hc:qIg L=0
 ·have ha:=(qIa.1 hc).2.1
  have hl:=(qIa.1 hc).1
  simp only[if_pos hc]
  refine Eq.trans (congrArg (fun z=>Option.bind z _) (show isQ (some ((qHr L).foldl (fun S x=>mset S x.1 x.2) []))=some () from rfl)) ?_
  simp only[j0,gO]
  refine key (zFk L) (zIy L) ?_ fun z=> ?_
  ·have g:∀(l:List (ByteArray×Sr)) (S:List (ByteArray×Sr)),(S.map (·.1)).Nodup→(l.foldl (fun S x=>mset S x.1 x.2) S).length≤S.length+l.length:=by
    intro l
    induction l with
    |nil=>intro S _;exact jP _
    |cons x l ih=>
     intro S hS
     have:=ih (mset S x.1 x.2) (qOx hS _ _)
     have:=zDw hS x.1 x.2
     simp only[jQ,jC];omega
   have:=g (qHr L) [] gD
   have:=qWm L
   unfold zFk
   simp only[jG] at*
   omega
  ·unfold zIy
   simp only[gS]
   constructor
   ·rintro⟨x,h1,h2⟩;exact⟨x,(zCy ha).1 h1,h2⟩
   ·rintro⟨x,h1,h2⟩;exact⟨x,(zCy ha).2 h1,h2⟩
 ·simp only[if_neg hc]
  refine Eq.trans (congrArg (fun z=>Option.bind z _) (show isQ (some ([]:List (ByteArray×Sr)))=some () from rfl)) ?_
  simp only[j0,gO]
  exact key [] [] (by decide) fun z=>by simp
def posU{α:Type}(b:α→α→Bool)(e:α):List α→Nat
 |[]=>0
 |x::l=>if b x e=true then posU b e l+1 else 0
theorem zIk{α:Type}{b:α→α→Bool}{e:α}:∀(l:List α),posU b e l≤l.length
 |[]=>jP _
 |x::l=>by
  have:=zIk (b:=b) (e:=e) l
  simp only[posU,jC]
  split<;>omega
theorem zEz{α:Type}[DecidableEq α]{b:α→α→Bool}{e:α}:∀(l:List α),insU b e l=if l[posU b e l]? =some e then l else l.take (posU b e l)++e::l.drop (posU b e l)
 |[]=>by simp[insU,posU]
 |x::l=>by
  simp only[insU,posU]
  by_cases h:b x e=true
  ·simp only[h,jH,List.getElem?_cons_succ,List.take_succ_cons,List.drop_succ_cons]
   rw[zEz l]
   split<;>rfl
  ·have h':b x e=false:=by simpa using h
   simp only[h',jB,jE,List.getElem?_cons_zero,jJ,List.take_zero,jZ,kS]
theorem zAp{α:Type}{b:α→α→Bool}{e:α}{L:List α}{f:Int→Option (Int⊕Int)}(hl:L.length<1000000)
  (h1:∀i,∀hi:i<L.length,f (i:Int)=some (if b L[i] e=true then .inl ((i+1:Nat):Int) else .inr (i:Int))) (h2:f (L.length:Int)=some (.inr (L.length:Int))):∀(d i M:Nat),i+d=L.length→d<M→qAw f M (i:Int)=some ((i+posU b e (L.drop i):Nat):Int)
 |_,_,0,_,h=>absurd h (kZ _)
 |0,i,M+1,hd,_=>by
  have:i=L.length:=by omega
  subst this
  simp only[qAw,h2,j0,fN,posU,gQ]
 |d+1,i,M+1,hd,hM=>by
  have hi:i<L.length:=by omega
  simp only[qAw,h1 i hi,j0]
  rw[qXl hi]
  simp only[posU]
  by_cases hb:b L[i] e=true
  ·rw[if_pos hb,if_pos hb]
   simp only
   rw[zAp hl h1 h2 d (i+1) M (by omega) (by omega)]
   congr 2;omega
  ·rw[if_neg hb,if_neg hb]
   rfl
theorem zDz{α:Type}{by_:Nat}{L:List α}{x z:α}{k:Nat}(hk:k≤L.length)(hb:0<by_)(hby:by_≤100)(hl:L.length<1000000):
  ((qEc by_ L [z]).bind fun l1=>(chkS l1 (IntKind.wrap .i64 ((k:Int)+1)) (List.length l1:Int)).bind fun _=>(chkS l1 (k:Int) (List.length l1:Int)).bind fun _=>(zBx l1 (IntKind.wrap .i64 ((k:Int)+1)) (k:Int)).bind fun l2=>(idx l2 (k:Int)).bind fun _=>some (List.set l2 (Int.toNat (k:Int)) x))=some (L.take k++x::L.drop k):=by
 have w:IntKind.wrap .i64 ((k:Int)+1)=((k+1:Nat):Int):=by rw[wi64 (by omega) (by omega)];omega
 have hm:(L.length+1)*by_≤(L.length+1)*100:=Nat.mul_le_mul_left _ hby
 rw[w,qCv (by simp only[jC,jG,kN];omega) hb]
 simp only[j0]
 have hlen:(L++[z]).length=L.length+1:=by simp
 have c1:chkS (L++[z]) ((k+1:Nat):Int) ((L++[z]).length:Int)=some ():=by unfold chkS;rw[if_pos (by rw[hlen];omega)]
 have c2:chkS (L++[z]) (k:Int) ((L++[z]).length:Int)=some ():=by unfold chkS;rw[if_pos (by rw[hlen];omega)]
 have c3:zBx (L++[z]) ((k+1:Nat):Int) (k:Int)=some (qXs (L++[z]) (k+1) k):=by unfold zBx;rw[if_pos (by rw[hlen];omega)];rfl
 simp only[c1,c2,c3,j0]
 have e:qXs (L++[z]) (k+1) k=(L++[z]).take (k+1)++L.drop k:=by
  have t1:((L++[z]).drop k).take (L.length-k)=L.drop k:=by
   rw[kW hk,kL (by rw[kM];omega),gM (by rw[kM];omega)]
  have t2:(L++[z]).drop (L.length+1)=[]:=List.drop_of_length_le (by rw[hlen];omega)
  unfold qXs
  rw[hlen,show min (L.length+1-k) (L.length+1-(k+1))=L.length-k by omega,show k+1+(L.length-k)=L.length+1 by omega,t1,t2,hU]
 have hlt:k<(qXs (L++[z]) (k+1) k).length:=by rw[e];simp only[jI,fF,jC,jG,kM];omega
 rw[qDu hlt]
 simp only[j0,kH]
 congr 1
 rw[e]
 have e2:(L++[z]).take (k+1)=L.take k++[((L++[z])[k]'(by rw[hlen];omega))]:=by
  rw[kT (by rw[hlen];omega),kL hk]
 rw[e2,fL,List.set_append_right _ _ (by simp only[fF];omega)]
 have e3:k-(L.take k).length=0:=by simp only[fF];omega
 rw[e3];rfl
theorem add_eq{N:Nat}{l:List ByteArray}{s:ByteArray}(hl:l.length<1000000)(hN:l.length<N):qKw N l s=some (addB l s):=by
 have h1:=zAp (b:=blt) (e:=s) (L:=l) (f:=qGf N l s) hl (by
  intro i hi
  simp only[qGf]
  rw[if_pos (by simp only[jA];omega),qDu hi]
  have w:IntKind.wrap .i64 ((i:Int)+1)=((i+1:Nat):Int):=by rw[wi64 (by omega) (by omega)];omega
  simp only[j0,w]
  rw[show Op.bytesLess (l[i]).toList s.toList=blt l[i] s from rfl]
  split<;>rfl) (by
  simp only[qGf]
  rw[if_neg (by simp)]
  rfl) l.length 0 N (by omega) hN
 rw[jZ,kN] at h1
 have hp:=zIk (b:=blt) (e:=s) l
 unfold qKw addB
 rw[zEz]
 refine Eq.trans (congrArg (fun z=>Option.bind z _) (show qAw (qGf N l s) N 0=_ from h1)) ?_
 generalize posU blt s l=k at hp
 simp only[j0]
 by_cases hc:(k:Int)<(l.length:Int)
 ·have hi:k<l.length:=by omega
  rw[if_pos (by simpa using hi),qDu hi]
  simp only[j0,eqB,List.getElem?_eq_getElem hi,jJ,jA]
  by_cases he:l[k]=s
  ·rw[if_pos he,if_pos he]
  ·rw[if_neg he,if_neg he]
   exact zDz hp (by decide) (by decide) hl
 ·rw[if_neg (by simpa using hc)]
  simp only[j0,jB,jE]
  rw[if_neg (by rw[List.getElem?_eq_none (by omega)];intro g;cases g)]
  exact zDz hp (by decide) (by decide) hl
theorem zJu{N:Nat}{L:List File}(hN:1000005<N):qJx N L=some (zDc L):=by
 simp only[qJx,qNm (show 100<N by omega),j0]
 unfold zDc
 by_cases hc:qIg L=0
 ·rw[if_neg (by simp[hc]),if_pos hc]
  have hl:=(qIa.1 hc).1
  have h:=qMi (L:=L) (fun(t:List ByteArray) (i:Nat)=>(t,(i:Int))) (f:=qGr N L)
   (fun t f=> .inl (if qPa f=true then addB t (qIh f.2).1.1 else t)) (fun t=>t) (fun i t=>t.length≤i) (by
    intro t i hi hI
    simp only[qGr]
    rw[if_pos (by simp only[jA];omega),qDu hi]
    have ew:IntKind.wrap .i64 ((i:Int)+1)=((i+1:Nat):Int):=by rw[wi64 (by omega) (by omega)];omega
    have hs:=qZl hc (kA hi)
    simp only[j0,qNt hN,ew,hs.1]
    by_cases hg:qPa L[i]=true
    ·rw[if_pos hg,if_pos hg,hs.2 hg,add_eq (by omega) (by omega)]
     rfl
    ·rw[if_neg hg,if_neg hg];rfl) (by
    intro t i hi t' hI h
    cases h
    split
    ·have:=qUu (b:=blt) (e:=(qIh (L[i]).2).1.1) (l:=t)
     unfold addB
     omega
    ·omega) (by
    intro t hI
    simp only[qGr]
    rw[if_neg (by simp)]) (M:=N) (t:=[]) (by omega) (k0 _)
  rw[show((0:Nat):Int)=0 from rfl] at h
  rw[h,qPc (fun t f=>if qPa f=true then addB t (qIh f.2).1.1 else t) (fun _ _=>rfl)]
  simp only[j0]
  congr 1
  suffices g:∀(L:List File) (t:List ByteArray),L.foldl (fun t f=>if qPa f=true then addB t (qIh f.2).1.1 else t) t=(zIy L).foldl addB t from g L []
  intro L
  induction L with
  |nil=>intro t;rfl
  |cons f L ih=>
   intro t
   rw[jQ,ih]
   unfold zIy qHr
   rw[kU]
   by_cases hg:qPa f=true
   ·rw[if_pos hg,if_pos hg];rfl
   ·rw[if_neg hg,if_neg hg]
 ·rw[if_pos (by simpa using hc),if_neg hc]
end
section
open Go Go.Dc Go.Proofs
def bE(x y:Ent):Bool:=decide (qMz x y<0)
theorem qXg{x y:Ent}:qMz x y=0↔keyV x=keyV y:=by
 unfold qMz
 rw[cmpPl_lin.zero]
 unfold keyV keyC qPw
 simp only[Prod.mk.injEq]
 constructor
 ·rintro⟨_,h2,h3,h4⟩;exact⟨h3,h2,h4⟩
 ·rintro⟨h3,h2,h4⟩;exact⟨by rw[h3],h2,h3,h4⟩
theorem zFx{x y z:Ent}:qMz x y<0→qMz y z<0→qMz x z<0:=cmpPl_lin.trans _ _ _
theorem bE_irr(x:Ent):¬bE x x=true:=by
 unfold bE
 have:qMz x x=0:=qXg.2 rfl
 simp[this]
theorem zKy(x y z:Ent)(h1:bE x y=true)(h2:bE y z=true):bE x z=true:=by
 unfold bE at*
 simp only[jA] at*
 exact zFx h1 h2
theorem zKx{x y:Ent}(h1:bE x y=false)(h2:keyV x≠keyV y):bE y x=true:=by
 unfold bE at*
 simp only[jA,decide_eq_false_iff_not] at*
 have h3:qMz x y≠0:=fun e=>h2 (qXg.1 e)
 exact(qSw y x).2 (by omega)
def OfO(O:List Occ)(l:List Ent):Prop:=∀x∈l,∃o∈O,x=entO O o
def insE(O:List Occ)(out:List Ent)(o:Occ):List Ent:=insU bE (entO O o) out
def zCc(O:List Occ):List Ent:=O.foldl (insE O) []
theorem zHt{O:List Occ}:∀(J:List Occ) (l:List Ent),(∀o∈J,o∈O)→OfO O l→l.Pairwise (fun x y=>bE x y=true)→OfO O (J.foldl (insE O) l)∧(J.foldl (insE O) l).Pairwise (fun x y=>bE x y=true)∧(∀z,z∈J.foldl (insE O) l↔z∈l∨∃o∈J,z=entO O o)∧(J.foldl (insE O) l).length≤l.length+J.length
 |[],l,_,h1,h2=>⟨h1,h2,(fun z=>by simp),jP _⟩
 |o::J,l,hJ,h1,h2=>by
  have hm:∀z,z∈insE O l o↔z=entO O o∨z∈l:=fun z=>qZo
  have a1:OfO O (insE O l o):=fun x hx=>by
   rcases(hm x).1 hx with rfl|hx
   ·exact⟨o,hJ o (jN ..),rfl⟩
   ·exact h1 x hx
  have a2:(insE O l o).Pairwise fun x y=>bE x y=true:=qZy zKy (fun x hx h3 h4=>by
   refine zKx h3 fun e=>h4 ?_
   obtain⟨o',_,rfl⟩:=h1 x hx
   exact zKr e) h2
  have a3:(insE O l o).length≤l.length+1:=qUu
  obtain⟨g1,g2,g3,g4⟩:=zHt J (insE O l o) (fun o' ho'=>hJ o' (jS _ ho')) a1 a2
  rw[jQ]
  refine⟨g1,g2,fun z=> ?_,by simp only[jC];omega⟩
  rw[g3 z,hm z]
  constructor
  ·rintro((h|h)|⟨o',h,h'⟩)
   ·exact .inr ⟨o,jN ..,h⟩
   ·exact .inl h
   ·exact .inr ⟨o',jS _ h,h'⟩
  ·rintro(h|⟨o',h,h'⟩)
   ·exact .inl (.inr h)
   ·rcases jL.1 h with rfl|h
    ·exact .inl (.inl h')
    ·exact .inr ⟨o',h,h'⟩
theorem zCr(O:List Occ):OfO O (zCc O)∧(zCc O).Pairwise (fun x y=>bE x y=true)∧(∀z,z∈zCc O↔∃o∈O,z=entO O o)∧(zCc O).length≤O.length:=by
 obtain⟨h1,h2,h3,h4⟩:=zHt (O:=O) O [] (fun _ h=>h) (fun x hx=>by cases hx) List.Pairwise.nil
 exact⟨h1,h2,(fun z=>by rw[show zCc O=O.foldl (insE O) [] from rfl,h3 z];simp),by rw[jG,kN] at h4;exact h4⟩
theorem zOk{O:List Occ}{l:List Ent}(hn:(l.map keyV).Nodup)(hm:∀z,z∈l↔∃o∈O,z=entO O o):(l.mergeSort fun x y=> !(Go.Proofs.ltOf qMz y x))=zCc O:=by
 have h1:=List.pairwise_mergeSort (le:=fun x y=> !(Go.Proofs.ltOf qMz) y x) (fun x y z h1 h2=>by
  simp only[fM,ltOf,decide_eq_false_iff_not] at*
  intro h3
  have s:=cmpEnt_swo.ntrans z y x (by simpa[ltOf] using h2) (by simpa[ltOf] using h1)
  simp[ltOf] at s;omega) (fun x y=>by
  simp only[gZ,fM,ltOf,decide_eq_false_iff_not]
  have:=qSw x y;omega) l
 have hp:=List.mergeSort_perm l (fun x y=> !(Go.Proofs.ltOf qMz y x))
 have h2:(l.mergeSort fun x y=> !(Go.Proofs.ltOf qMz y x)).Pairwise fun x y=>keyV x≠keyV y:=List.pairwise_map.1 ((hp.map keyV).nodup_iff.2 hn)
 obtain⟨-,g2,g3,-⟩:=zCr O
 refine zFp (lt:=fun x y=>bE x y=true) bE_irr zKy ((h1.and h2).imp fun {x y} h=> ?_) g2 fun z=> ?_
 ·have h3:bE y x=false:=by
   have:=h.1
   simp only[fM,ltOf] at this
   exact this
  exact zKx h3 (Ne.symm h.2)
 ·rw[List.mem_mergeSort,hm z,g3 z]
theorem zRu{N:Nat}{O:List Occ}{l:List Ent}(hn:(l.map keyV).Nodup)(hm:∀z,z∈l↔∃o∈O,z=entO O o)(hl:l.length<1000000)(hN:10≤N):qBj N l=some (zCc O):=by
 unfold qBj
 rw[if_pos ⟨hN,by omega,fun x hx y hy h=>by
  obtain⟨o,_,rfl⟩:=(hm x).1 hx
  obtain⟨o',_,rfl⟩:=(hm y).1 hy
  exact zKr (qXg.1 h)⟩,zOk hn hm]
def zBz(L:List File):List Ent:=if qIg L=0 then zCc (qLv (qHr L)) else[]
theorem zLa:∀(O:List Occ) (M:List (K3×Ent)),(M.map (·.1)).Nodup→(O.foldl qLo M).length≤M.length+O.length
 |[],M,_=>jP _
 |o::O,M,h=>by
  have h1:=zLa O (qLo M o) (qOx h _ _)
  have h2:(qLo M o).length≤M.length+1:=zDw h _ _
  simp only[jQ,jC];omega
theorem zTl{N:Nat}(k:List (K3×Ent))(hk:k.length<1000000):qNu (qEz N) k []=some (k.map (·.2)):=by
 have h:=qUr (f:=qEz N) (fun s x=>s++[x.2]) (fun s=>s) (fun n s=>s.length+n<1000000) (fun n x s hs=>by
  refine⟨?_,by simp only[jI,jC,jG];omega⟩
  simp only[qEz]
  rw[qCv (by simp only[jC,jG];omega) (by omega)]
  rfl) (fun s=>rfl) k [] (by simpa using hk)
 rw[h]
 congr 1
 suffices g:∀(k:List (K3×Ent)) (s:List Ent),k.foldl (fun s x=>s++[x.2]) s=s++k.map (·.2) from g k []
 intro k
 induction k with
 |nil=>intro s;simp
 |cons x k ih=>intro s;rw[jQ,ih];simp
theorem qYm{N:Nat}{L:List File}(hP:qMu N L)(hN:1000001<N):qJt N L=some (zBz L):=by
 simp only[qJt,zGz hP hN,j0]
 have key:∀(M:List (K3×Ent)) (O:List Occ),M.length<1000000→(M.map (·.1)).Nodup→(∀c v,(c,v)∈M↔∃o∈O,c=okey o∧v=entO O o)→
   qQn (qEz N) M ([]:List Ent) (fun o1=>(qBj N o1).bind fun y2=>some y2)=some (zCc O):=by
  intro M O hM hn hO
  refine qXv fun k hk=> ?_
  have hkl:=hk.length_eq
  rw[zTl k (by omega)]
  simp only[j0]
  have e:(k.map (·.2)).map keyV=k.map (·.1):=by
   rw[List.map_map]
   refine fR fun x hx=> ?_
   obtain⟨o,_,h1,h2⟩:=(hO x.1 x.2).1 (hk.mem_iff.1 hx)
   simp only[Function.comp]
   rw[h2,zAe,h1]
  rw[zRu (O:=O) (by rw[e];exact(hk.map _).nodup_iff.2 hn) (fun z=>by
   simp only[gS]
   constructor
   ·rintro⟨x,hx,rfl⟩
    obtain⟨o,h1,_,h2⟩:=(hO x.1 x.2).1 (hk.mem_iff.1 hx)
    exact⟨o,h1,h2⟩
   ·rintro⟨o,h1,rfl⟩
    exact⟨(okey o,entO O o),hk.mem_iff.2 ((hO _ _).2 ⟨o,h1,rfl,rfl⟩),rfl⟩) (by rw[kP];omega) (by omega)]
  rfl
 unfold qYt zBz
 by_cases hc:qIg L=0
 ·have hl:=(qIa.1 hc).1
  have hO:=zBh hl
  simp only[if_pos hc]
  refine Eq.trans (congrArg (fun z=>Option.bind z _) (show isQ (some ((qLv (qHr L)).foldl qLo []))=some () from rfl)) ?_
  simp only[j0,gO]
  refine key (mapO (qLv (qHr L))) _ ?_ (zMu hO) fun c v=>zMi hO
  have:=zLa (qLv (qHr L)) [] gD
  unfold mapO
  simp only[jG] at this
  omega
 ·simp only[if_neg hc]
  refine Eq.trans (congrArg (fun z=>Option.bind z _) (show isQ (some ([]:List (K3×Ent)))=some () from rfl)) ?_
  simp only[j0,gO]
  exact key [] [] (by decide) gD fun c v=>by simp
theorem zPh:∀a b:List UInt8,Op.bytesLess a b=decide (cmpL a b<0)
 |[],[]=>rfl
 |[],_::_=>rfl
 |_::_,[]=>rfl
 |x::a,y::b=>by
  rw[show Op.bytesLess (x::a) (y::b)=(decide (x<y)||((x==y)&&Op.bytesLess a b)) from rfl,zPh a b]
  by_cases h:x=y
  ·subst h
   have h0:¬x<x:=by simp only[zUf];omega
   have e:cmpL (x::a) (x::b)=cmpL a b:=by simp[cmpL]
   simp[h0,e]
  ·have h2:(x==y)=false:=by simpa using h
   by_cases h3:x<y
   ·have e:cmpL (x::a) (y::b)= -1:=by simp[cmpL,h,h3]
    simp[h3,e]
   ·have e:cmpL (x::a) (y::b)=1:=by simp[cmpL,h,h3]
    simp[h2,h3,e]
theorem zTb(a b:ByteArray):Op.bytesLess a.toList b.toList=decide (cmpS a b<0):=by
 rw[zPh,zAv,ByteArray.toList_eq,ByteArray.toList_eq]
theorem cI_neg{x y:Int}(h:x≠y):cmpI x y<0↔x<y:=by
 unfold cmpI;split<;>(try split)<;>omega
theorem zNl{N:Nat}(x y:Ent):qJn N x y=some (bE x y):=by
 have hS:=cmpS_lin.zero
 have hE:cmpS (⟨#[]⟩:ByteArray) ⟨#[]⟩=0:=(hS _ _).2 rfl
 have hI:∀z:Int,cmpI z z=0:=fun z=>(cmpI_lin.zero z z).2 rfl
 simp only[qJn,eqB,zTb]
 unfold bE qMz zJr qPw
 by_cases hx:x.2.2.1=3
 ·have hx':(x.2.2.1==3)=true:=by simpa using hx
  by_cases hy:y.2.2.1=3
  ·have hy':(y.2.2.1==3)=true:=by simpa using hy
   simp only[hx',hy',if_pos hx,if_pos hy,lexC,hE,hI,hx,hy]
   simp[hE]
  ·have hy':(y.2.2.1==3)=false:=by simpa using hy
   simp only[hx',hy',if_pos hx,if_neg hy,lexC]
   have:cmpI 1 0=1:=rfl
   simp[this]
 ·have hx':(x.2.2.1==3)=false:=by simpa using hx
  by_cases hy:y.2.2.1=3
  ·have hy':(y.2.2.1==3)=true:=by simpa using hy
   simp only[hx',hy',if_neg hx,if_pos hy,lexC]
   have:cmpI 0 1= -1:=rfl
   simp[this]
  ·have hy':(y.2.2.1==3)=false:=by simpa using hy
   simp only[hx',hy',if_neg hx,if_neg hy,lexC,hI]
   by_cases hp:x.1=y.1
   ·have e1:cmpS x.1 y.1=0:=(hS _ _).2 hp
    by_cases hk:x.2.2.1=y.2.2.1
    ·have e2:cmpI x.2.2.1 y.2.2.1=0:=(cmpI_lin.zero _ _).2 hk
     have e3:(x.2.2.1 !=y.2.2.1)=false:=by simp[hk]
     have e5:cmpS y.1 y.1=0:=(hS _ _).2 rfl
     simp[hp,e2,e3,e5]
    ·have e2:cmpI x.2.2.1 y.2.2.1≠0:=fun g=>hk ((cmpI_lin.zero _ _).1 g)
     have e3:(x.2.2.1 !=y.2.2.1)=true:=by simp[hk]
     have e4:=cI_neg hk
     simp[e1,e2,e3,jO hp,e4]
   ·have e1:cmpS x.1 y.1≠0:=fun g=>hp ((hS _ _).1 g)
    simp[hp,e1]
theorem entEq(x y:Ent):((x.1.toList==y.1.toList)&&((x.2.1.toList==y.2.1.toList)&&((x.2.2.1==y.2.2.1)&&((x.2.2.2.1.toList==y.2.2.2.1.toList)&&((x.2.2.2.2.1==y.2.2.2.2.1)&&((x.2.2.2.2.2==y.2.2.2.2.2)&&true))))))=decide (x=y):=by
 obtain⟨a,b,c,d,e,f⟩:=x
 obtain⟨a',b',c',d',e',f'⟩:=y
 rw[jY]
 simp only[eqB,jX,jA,k9,and_true,Prod.mk.injEq]
theorem zSr{N:Nat}{s2:List Ent×Int}{y:Ent}(hl:s2.1.length<1000000)(hN:s2.1.length<N):qAw (qDn N s2 y) N 0=some ((posU bE y s2.1:Nat):Int):=by
 have h1:=zAp (b:=bE) (e:=y) (L:=s2.1) (f:=qDn N s2 y) hl (by
  intro i hi
  simp only[qDn]
  rw[if_pos (by simp only[jA];omega),qDu hi]
  have w:IntKind.wrap .i64 ((i:Int)+1)=((i+1:Nat):Int):=by rw[wi64 (by omega) (by omega)];omega
  simp only[j0,w,zNl]
  split<;>rfl) (by
  simp only[qDn]
  rw[if_neg (by simp)]
  rfl) s2.1.length 0 N (by omega) hN
 rw[jZ,kN] at h1
 exact h1
theorem zNg{N:Nat}{out:List Ent}{i:Int}{y:Ent}(hl:out.length<1000000)(hN:out.length<N):
  ((qAw (qDn N (out,i) y) N 0).bind fun o4=>(if(decide (o4<((List.length out):Int)))=true then((idx out o4).bind fun x4=>some ((x4.1.toList==y.1.toList)&&((x4.2.1.toList==y.2.1.toList)&&((x4.2.2.1==y.2.2.1)&&((x4.2.2.2.1.toList==y.2.2.2.1.toList)&&((x4.2.2.2.2.1==y.2.2.2.2.1)&&((x4.2.2.2.2.2==y.2.2.2.2.2)&&true))))))) else(some false):Option (Bool)).bind fun o6=>if o6=true then(some out) else((qEc 72 out ([y])).bind fun l1=>(chkS l1 (IntKind.wrap .i64 (o4+1)) (List.length l1:Int)).bind fun _=>(chkS l1 o4 (List.length l1:Int)).bind fun _=>(zBx l1 (IntKind.wrap .i64 (o4+1)) o4).bind fun l2=>(idx l2 o4).bind fun _=>some (List.set l2 (Int.toNat o4) y)):Option (List Ent))=some (insU bE y out):=by
 rw[zSr (s2:=(out,i)) hl hN,zEz]
 have hp:=zIk (b:=bE) (e:=y) out
 show((some ((posU bE y out:Nat):Int)).bind _)=_
 generalize posU bE y out=k at hp
 simp only[j0,entEq]
 by_cases hc:(k:Int)<(out.length:Int)
 ·have hi:k<out.length:=by omega
  rw[if_pos (by simpa using hi),qDu hi]
  simp only[j0,List.getElem?_eq_getElem hi,jJ,jA]
  by_cases he:out[k]=y
  ·rw[if_pos he,if_pos he]
  ·rw[if_neg he,if_neg he]
   exact zDz hp (by decide) (by decide) hl
 ·rw[if_neg (by simpa using hc)]
  simp only[j0,jB,jE]
  rw[if_neg (by rw[List.getElem?_eq_none (by omega)];intro g;cases g)]
  exact zDz hp (by decide) (by decide) hl
def insD(O:List Occ)(pkg:ByteArray)(out:List Ent)(d:Dl):List Ent:=insU bE (entE O d.1 pkg d.2.1) out
theorem zGb(O:List Occ)(path pkg:ByteArray):∀(l:List Dl) (i:Nat) (out:List Ent),(qQx path pkg i l).foldl (insE O) out=l.foldl (insD O pkg) out
 |[],_,_=>rfl
 |d::l,i,out=>by
  simp only[qQx,jQ]
  rw[zGb O path pkg l (i+1)]
  rfl
theorem zOn{N:Nat}{l:List (ByteArray×Sr)}{x:Sr}{acc:List Ent}(hl:l.length≤64)(hd:∀x∈l,x.2.2.2.length≤64)(hx:x.2.2.length≤64)(hN:1000000<N)(hacc:acc.length≤100000):
  qAw (qEh N (l.map (·.1),l.map (·.2)) x) N (acc,0)=some (x.2.2.foldl (insD (qLv l) x.1) acc)∧(x.2.2.foldl (insD (qLv l) x.1) acc).length≤acc.length+64:=by
 have hlen:∀(ds:List Dl) (t:List Ent),(ds.foldl (insD (qLv l) x.1) t).length≤t.length+ds.length:=by
  intro ds
  induction ds with
  |nil=>intro t;exact jP _
  |cons d ds ih=>
   intro t
   have h1:=ih (insD (qLv l) x.1 t d)
   have h2:(insD (qLv l) x.1 t d).length≤t.length+1:=qUu
   simp only[jQ,jC];omega
 refine⟨?_,by have:=hlen x.2.2 acc;omega⟩
 have h:=qMi (L:=x.2.2) (fun(t:List Ent) (i:Nat)=>(t,(i:Int))) (f:=qEh N (l.map (·.1),l.map (·.2)) x)
  (fun t d=> .inl (insD (qLv l) x.1 t d)) (fun t=>t) (fun i t=>t.length≤acc.length+i) (by
   intro t i hi hI
   simp only[qEh]
   rw[if_pos (by simp only[jA];omega),qDu hi]
   have ew:IntKind.wrap .i64 ((i:Int)+1)=((i+1:Nat):Int):=by rw[wi64 (by omega) (by omega)];omega
   have hF:=zGk (N:=N) (l:=l) (x.2.2[i]).1 x.1 (x.2.2[i]).2.1 hl hd (by omega)
   simp only[j0,ew]
   refine Eq.trans (congrArg (fun z=>Option.bind (Option.bind z _) _) hF) ?_
   simp only[j0]
   refine Eq.trans (congrArg (fun z=>Option.bind z _) (zNg (i:=(i:Int)) (y:=entE (qLv l) (x.2.2[i]).1 x.1 (x.2.2[i]).2.1) (show t.length<1000000 by omega) (show t.length<N by omega))) ?_
   rfl) (by
   intro t i hi t' hI h
   cases h
   have h2:(insD (qLv l) x.1 t x.2.2[i]).length≤t.length+1:=qUu
   omega) (by
   intro t hI
   simp only[qEh]
   rw[if_neg (by simp)]) (M:=N) (t:=acc) (by omega) (jP _)
 rw[show((0:Nat):Int)=0 from rfl] at h
 rw[h,qPc (insD (qLv l) x.1) (fun _ _=>rfl)]
theorem qVl{N:Nat}{L:List File}(hN:1000005<N):qGw N L=some (zBz L):=by
 simp only[qGw,qNm (show 100<N by omega),j0]
 unfold zBz
 by_cases hc:qIg L=0
 ·rw[if_neg (by simp[hc]),if_pos hc,zDs hN]
  obtain⟨k1,k2⟩:=zEj L
  rw[show zBv L=qHr L by unfold zBv;rw[if_pos hc]] at k1 k2 ⊢
  generalize qHr L=l at k1 k2
  simp only[j0]
  have h:=qMi (L:=l) (fun(t:List Ent) (i:Nat)=>(t,(i:Int))) (f:=qEy N (l.map (·.1),l.map (·.2)))
   (fun t x=> .inl (x.2.2.2.foldl (insD (qLv l) x.2.1) t)) (fun t=>t) (fun i t=>t.length≤64*i) (by
    intro t i hi hI
    simp only[qEy]
    have hi2:i<(l.map (·.2)).length:=by simpa using hi
    rw[if_pos (by simp only[jA];omega),qDu hi2]
    have ew:IntKind.wrap .i64 ((i:Int)+1)=((i+1:Nat):Int):=by rw[wi64 (by omega) (by omega)];omega
    simp only[j0,ew,d6]
    rw[(zOn (x:=(l[i]).2) (acc:=t) k1 k2 (k2 _ (kA hi)) (by omega) (by omega)).1]
    rfl) (by
    intro t i hi t' hI h
    cases h
    have:=(zOn (N:=N) (x:=(l[i]).2) (acc:=t) k1 k2 (k2 _ (kA hi)) (by omega) (by omega)).2
    omega) (by
    intro t hI
    simp only[qEy]
    rw[if_neg (by simp)]) (M:=N) (t:=[]) (by omega) (k0 _)
  rw[show((0:Nat):Int)=0 from rfl] at h
  refine Eq.trans (congrArg (fun z=>Option.bind z _) h) ?_
  rw[qPc (fun t (x:ByteArray×Sr)=>x.2.2.2.foldl (insD (qLv l) x.2.1) t) (fun _ _=>rfl)]
  simp only[j0]
  congr 1
  unfold zCc
  suffices g:∀(O:List Occ) (l:List (ByteArray×Sr)) (t:List Ent),l.foldl (fun t x=>x.2.2.2.foldl (insD O x.2.1) t) t=(qLv l).foldl (insE O) t from g _ l []
  intro O l
  induction l with
  |nil=>intro t;rfl
  |cons x l ih=>
   intro t
   rw[jQ,ih]
   unfold qLv
   rw[kG,fK,zGb]
 ·rw[if_pos (by simpa using hc),if_neg hc]
end
section
open Go Go.Dc Go.Proofs
section
variable {ts:List Tok} {params:List ByteArray} {E S:Ps→PM Nat} {B:Nat}
def BE(B:Nat)(l:List Ex):Prop:=∀x∈l,x.2.2.2.2.length≤B
def AdvB(B:Nat)(E:Ps→PM Nat):Prop:=∀(p q:Ps) (x:Nat),BE B p.2→E p= .inr (q,x)→BE B q.2
theorem qZs{t:Tok}{x:Ex}{p q:Ps}{i:Nat}(h1:BE B p.2)(h2:x.2.2.2.2.length≤B)(h:qMh t x p= .inr (q,i)):BE B q.2:=by
 obtain⟨rfl,-,-⟩:=zKf h
 intro y hy
 rcases gJ.1 hy with hy|hy
 ·exact h1 y hy
 ·rw[fY.1 hy];exact h2
theorem zSb(hE:AdvB B E):∀(n:Nat) (l:List Int) (p q:Ps) (x:List Int),BE B p.2→zBu ts E n l p= .inr (q,x)→BE B q.2∧x.length≤l.length+n
 |0,_,_,_,_,_,h1=>by cases h1
 |n+1,l,p,q,x,hb,h1=>by
  obtain⟨a,ha,h2⟩:=qBx (show qCj (E p) _=_ from h1)
  have hb2:=hE p a.1 a.2 hb ha
  split at h2
  ·obtain⟨k1,k2⟩:=zSb hE n _ (a.1.1+1,a.1.2) q x hb2 h2
   exact⟨k1,by simp only[jI,jC,jG] at k2;omega⟩
  ·obtain⟨j,hj,h3⟩:=qBx h2
   obtain⟨rfl,rfl⟩:=Prod.mk.inj (Sum.inr.inj h3)
   exact⟨hb2,by simp only[jI,jC,jG];omega⟩
theorem zIs(hE:AdvB B E){p q:Ps}{x:List Int}(hb:BE B p.2)(h1:qMn ts E p= .inr (q,x)):BE B q.2∧x.length≤ts.length+1:=by
 obtain⟨i,hi,h2⟩:=qBx h1
 split at h2
 ·obtain⟨rfl,rfl⟩:=Prod.mk.inj (Sum.inr.inj h2)
  exact⟨hb,k0 _⟩
 ·obtain⟨k1,k2⟩:=zSb hE _ _ (i,p.2) q x hb h2
  exact⟨k1,by simpa using k2⟩
theorem zNb(hB:3≤B)(hE:AdvB B E){t:Tok}{p q:Ps}{x:Nat}(hb:BE B p.2)(h1:qMp ts E t p= .inr (q,x)):BE B q.2:=by
 obtain⟨i,hi,h2⟩:=qBx h1
 obtain⟨a,ha,h3⟩:=qBx h2
 obtain⟨j,hj,h4⟩:=qBx h3
 have key:BE B a.1.2∧a.2.2.2.2.2.length≤B:=by
  split at ha
  ·obtain⟨b,hb1,hb2⟩:=qBx ha
   obtain⟨c,hc1,hc2⟩:=qBx hb2
   obtain⟨d,hd1,hd2⟩:=qBx hc2
   have:=hE (c,p.2) d.1 d.2 hb hd1
   obtain rfl:=Sum.inr.inj hd2
   exact⟨this,by show 1≤B;omega⟩
  ·split at ha
   ·obtain⟨b,hb1,hb2⟩:=qBx ha
    obtain rfl:=Sum.inr.inj hb2
    exact⟨hb,k0 _⟩
   ·split at ha
    ·obtain⟨b,hb1,hb2⟩:=qBx ha
     obtain rfl:=Sum.inr.inj hb2
     exact⟨hb,k0 _⟩
    ·split at ha
     ·obtain⟨b,hb1,hb2⟩:=qBx ha
      obtain rfl:=Sum.inr.inj hb2
      exact⟨hb,k0 _⟩
     ·obtain⟨b,hb1,hb2⟩:=qBx ha
      split at hb2
      ·cases hb2
      ·obtain rfl:=Sum.inr.inj hb2
       exact⟨hb,k0 _⟩
 exact qZs (p:=(j,a.1.2)) key.1 key.2 h4
theorem zQk(hB:ts.length+3≤B)(hE:AdvB B E):AdvB B (qPt ts params E):=by
 intro p q x hb h1
 unfold qPt at h1
 dsimp only at h1
 split at h1
 ·exact qZs (p:=(p.1+1,p.2)) hb (k0 _) h1
 split at h1
 ·obtain⟨a,ha,h2⟩:=qBx h1
  exact qZs (p:=(a.1,p.2)) hb (k0 _) h2
 split at h1
 ·obtain⟨a,ha,h2⟩:=qBx h1
  have:=hE (p.1+1,p.2) a.1 a.2 hb ha
  obtain⟨j,hj,h3⟩:=qBx h2
  obtain⟨rfl,rfl⟩:=Prod.mk.inj (Sum.inr.inj h3)
  exact this
 split at h1
 ·cases h1
 split at h1
 ·exact zNb (by omega) hE (p:=(p.1+1,p.2)) hb h1
 split at h1
 ·cases h1
 split at h1
 ·obtain⟨a,ha,h2⟩:=qBx h1
  obtain⟨k1,k2⟩:=zIs hE (p:=(p.1+1,p.2)) hb ha
  exact qZs (p:=a.1) k1 (by show a.2.length≤B;omega) h2
 split at h1
 ·exact qZs (p:=(p.1+1,p.2)) hb (k0 _) h1
 ·cases h1
theorem zSc(hB:3≤B){level:Nat}(hS:AdvB B S):∀(n x:Nat) (p q:Ps) (y:Nat),BE B p.2→qTh ts level S n x p= .inr (q,y)→BE B q.2
 |0,_,_,_,_,_,h1=>by cases h1
 |n+1,x,p,q,y,hb,h1=>by
  unfold qTh at h1
  split at h1
  ·obtain⟨rfl,rfl⟩:=Prod.mk.inj (Sum.inr.inj h1)
   exact hb
  ·obtain⟨a,ha,h2⟩:=qBx h1
   have f:=hS (p.1+1,p.2) a.1 a.2 hb ha
   obtain⟨r,hr,h3⟩:=qBx h2
   have k:BE B r.1.2:=by
    refine qZs (p:=a.1) f ?_ hr
    show 2≤B
    omega
   split at h3
   ·obtain⟨rfl,rfl⟩:=Prod.mk.inj (Sum.inr.inj h3)
    exact k
   ·exact zSc hB hS n _ _ q y k h3
theorem zJg(hB:3≤B){level:Nat}(hS:AdvB B S):AdvB B (qTa ts level S):=by
 intro p q x hb h1
 obtain⟨a,ha,h2⟩:=qBx h1
 exact zSc hB hS _ _ _ q x (hS p a.1 a.2 hb ha) h2
theorem zFu(hB:ts.length+3≤B):∀k,AdvB B (qHq ts params k)
 |0=>fun _ _ _ _ h1=>by cases h1
 |k+1=>by
  intro p q x hb h1
  unfold qHq at h1
  split at h1
  ·obtain⟨a,ha,h2⟩:=qBx h1
   have a1:=zFu hB k (p.1+1,p.2) a.1 a.2 hb ha
   obtain⟨i,hi,h3⟩:=qBx h2
   obtain⟨b,hb1,h4⟩:=qBx h3
   have b1:=zFu hB k (i,a.1.2) b.1 b.2 a1 hb1
   obtain⟨j,hj,h5⟩:=qBx h4
   obtain⟨c,hc1,h6⟩:=qBx h5
   have c1:=zFu hB k (j,b.1.2) c.1 c.2 b1 hc1
   refine qZs (p:=c.1) c1 ?_ h6
   show 3≤B
   omega
  ·exact zJg (by omega) (zJg (by omega) (zJg (by omega) (zQk hB (zFu hB k)))) p q x hb h1
def okDl(d:Dl):Prop:=d.2.2.1.length≤8∧d.2.2.2.length≤256∧BE 20000 d.2.2.2
theorem decl_b(hok:OkT ts)(hts:ts.length≤16385){before:List Dl}{i:Nat}{a:Nat×Dl}(hi:i<ts.length)(h1:qSe ts before i= .inr a):okDl a.2:=by
 unfold qSe at h1
 dsimp only at h1
 split at h1
 ·cases h1
 rename_i k1
 split at h1
 ·cases h1
 have g:=hok.next hi (show(tkAt ts i).1≠5 by intro e;apply k1;left;rw[e];decide)
 obtain⟨x,hx,h2⟩:=qBx h1
 have gx:x.1<ts.length:=by
  split at hx
  ·obtain⟨rfl,g1,-⟩:=qNk hok g hx;exact g1
  ·obtain⟨rfl,g1,-⟩:=qLy hok g hx;exact g1
 split at h2
 ·cases h2
 obtain⟨y,hy,h3⟩:=qBx h2
 have gy:y.1<ts.length∧y.2.length≤8:=by
  split at hy
  ·obtain⟨-,g2,g3⟩:=qQm hok gx hy;exact⟨g2,g3⟩
  ·obtain rfl:=Sum.inr.inj hy;exact⟨gx,k0 _⟩
 obtain⟨j,hj,h4⟩:=qBx h3
 obtain⟨rfl,g3,-⟩:=qEv hok gy.1 hj
 obtain⟨c,hc,h5⟩:=qBx h4
 obtain⟨⟨-,-,-,f4⟩,-⟩:=qNe hok 32 (y.1+1,[]) c.1 c.2 g3 (by simp) hc
 have f5:=zFu (B:=20000) (by omega) 32 (y.1+1,[]) c.1 c.2 (fun z hz=>by cases hz) hc
 obtain⟨m,hm,h6⟩:=qBx h5
 obtain rfl:=Sum.inr.inj h6
 exact⟨gy.2,f4,f5⟩
theorem zPj(hok:OkT ts)(hts:ts.length≤16385):∀(n:Nat) (l:List Dl) (i:Nat) {r:List Dl},(∀d∈l,okDl d)→i<ts.length→qRd ts n l i= .inr r→∀d∈r,okDl d
 |0,_,_,_,_,_,h1=>by cases h1
 |n+1,l,i,r,hl,hi,h1=>by
  unfold qRd at h1
  split at h1
  ·cases h1;exact hl
  obtain⟨x,hx,h2⟩:=qBx h1
  obtain⟨-,g2,-⟩:=qSc hok hi hx
  refine zPj hok hts n _ _ (fun d hd=> ?_) g2 h2
  rcases gJ.1 hd with hd|hd
  ·exact hl d hd
  ·rw[fY.1 hd];exact decl_b hok hts hi hx
end
def okSr(f:Sr):Prop:=f.2.1.length≤8∧f.2.2.length≤64∧∀d∈f.2.2,okDl d
theorem zQe{ts:List Tok}(h:OkT ts):∀(n:Nat) (l:List Dl) (i:Nat) {r:List Dl},l.length≤64→i<ts.length→qRd ts n l i= .inr r→r.length≤64
 |0,_,_,_,_,_,h1=>by cases h1
 |n+1,l,i,r,hl,hi,h1=>by
  unfold qRd at h1
  split at h1
  ·cases h1;exact hl
  obtain⟨x,hx,h2⟩:=qBx h1
  obtain⟨-,g2,g3⟩:=qSc h hi hx
  exact zQe h n _ _ (by simp only[jI,jC,jG];omega) g2 h2
theorem qWs:okSr qWk:=⟨k0 _,k0 _,fun d hd=>by cases hd⟩
theorem zNa(s:ByteArray):okSr (qIh s).1:=by
 unfold qIh
 by_cases h0:(qHf s).2.2=0
 ·rw[if_neg (not_not_intro h0)]
  obtain⟨hok,hlen,hsz⟩:=qUw h0
  have hpos:0<(qHf s).1.length:=by
   cases h:(qHf s).1 with
   |nil=>exact absurd h hok.1
   |cons a l=>exact Nat.succ_pos _
  cases hf:zAw (qHf s).1 with
  |inl z=>exact qWs
  |inr f=>
   simp only
   unfold zAw at hf
   obtain⟨i,h1,hf⟩:=qBx hf
   obtain⟨rfl,g1,-⟩:=qSn hok hpos h1
   obtain⟨a,h2,hf⟩:=qBx hf
   obtain⟨rfl,g2,-⟩:=qLy hok g1 h2
   obtain⟨j,h3,hf⟩:=qBx hf
   obtain⟨rfl,g3,-⟩:=qEv hok g2 h3
   obtain⟨b,h4,hf⟩:=qBx hf
   obtain⟨-,k2,k3⟩:=qPj hok _ _ _ b g3 (by simp) h4
   obtain⟨l,h5,hf⟩:=qBx hf
   have e1:=zQe hok _ _ _ (by simp) k2 h5
   have e2:=zPj hok hlen _ _ _ (fun d hd=>by cases hd) k2 h5
   cases hf
   exact⟨k3,e1,e2⟩
 ·rw[if_pos h0];exact qWs
theorem zHf{β:Type}{b:β}{n:Nat}{f:Int→Option (Int⊕β)}(hs:∀i,i<n→f (i:Int)=some (.inl ((i+1:Nat):Int)))(hf:f (n:Int)=some (.inr b)):∀(d i M:Nat),i+d=n→d<M→qAw f M (i:Int)=some b
 |_,_,0,_,h=>absurd h (kZ _)
 |0,i,M+1,h1,_=>by
  have:i=n:=by omega
  subst this
  simp only[qAw,hf,j0]
 |d+1,i,M+1,h1,h2=>by
  simp only[qAw,hs i (by omega),j0]
  exact zHf hs hf d (i+1) M (by omega) (by omega)
theorem zGr{β:Type}{b:β}{n M:Nat}{f:Int→Option (Int⊕β)}(hs:∀i,i<n→f (i:Int)=some (.inl ((i+1:Nat):Int)))(hf:f (n:Int)=some (.inr b))(hM:n<M):qAw f M 0=some b:=
 zHf hs hf n 0 M (by omega) hM
theorem qWf{N:Nat}{l:List ByteArray}(h:l.length<1000000)(hN:l.length<N):qGa N l l=some true:=by
 unfold qGa
 rw[if_neg (by simp),zGr (n:=l.length) (b:=(.inl ():Unit⊕Bool)) (fun i hi=>by
  simp only[qGd]
  rw[if_pos (by simp only[jA];omega),qDu hi]
  have ew:IntKind.wrap .i64 ((i:Int)+1)=((i+1:Nat):Int):=by rw[wi64 (by omega) (by omega)];omega
  simp only[j0,kI,jR,jB,jE,ew]) (by
  simp only[qGd]
  rw[if_neg (by simp)]) hN]
 rfl
theorem zHs{N:Nat}{x:Ex}(h:x.2.2.2.2.length<1000000)(hN:x.2.2.2.2.length<N):qIo N x x=some true:=by
 unfold qIo
 have hl:=zGr (n:=x.2.2.2.2.length) (M:=N) (b:=(.inl ():Unit⊕Bool)) (f:=qEx N x x) (fun i hi=>by
  simp only[qEx]
  rw[if_pos (by simp only[jA];omega),qDu hi]
  have ew:IntKind.wrap .i64 ((i:Int)+1)=((i+1:Nat):Int):=by rw[wi64 (by omega) (by omega)];omega
  simp only[j0,gB,jB,jE,ew]) (by
  simp only[qEx]
  rw[if_neg (by simp)]) hN
 simp only[gB,jB,jE,kI,jR,j0,hl]
theorem zHg{N:Nat}{d:Dl}(h:okDl d)(hN:100000<N):qIq N d d=some true:=by
 obtain⟨h1,h2,h3⟩:=h
 unfold qIq
 have hl:=zGr (n:=d.2.2.2.length) (M:=N) (b:=(.inl ():Unit⊕Bool)) (f:=qEw N d d) (fun i hi=>by
  simp only[qEw]
  rw[if_pos (by simp only[jA];omega),qDu hi]
  have ew:IntKind.wrap .i64 ((i:Int)+1)=((i+1:Nat):Int):=by rw[wi64 (by omega) (by omega)];omega
  have hx:=h3 _ (kA hi)
  simp only[j0]
  rw[zHs (by omega) (by omega)]
  simp only[j0,jR,jB,jE,ew]) (by
  simp only[qEw]
  rw[if_neg (by simp)]) (by omega)
 rw[qWf (l:=d.2.2.1) (by omega) (by omega)]
 simp only[gB,jB,jE,kI,jR,j0,hl]
theorem qXz{N:Nat}{f:Sr}(h:okSr f)(hN:100000<N):qJg N f f=some true:=by
 obtain⟨h1,h2,h3⟩:=h
 unfold qJg
 have hl:=zGr (n:=f.2.2.length) (M:=N) (b:=(.inl ():Unit⊕Bool)) (f:=qHj N f f) (fun i hi=>by
  simp only[qHj]
  rw[if_pos (by simp only[jA];omega),qDu hi]
  have ew:IntKind.wrap .i64 ((i:Int)+1)=((i+1:Nat):Int):=by rw[wi64 (by omega) (by omega)];omega
  simp only[j0]
  rw[zHg (h3 _ (kA hi)) hN]
  simp only[j0,jR,jB,jE,ew]) (by
  simp only[qHj]
  rw[if_neg (by simp)]) (by omega)
 rw[qWf (l:=f.2.1) (by omega) (by omega)]
 simp only[gB,jB,jE,kI,jR,j0,hl]
end
section
open Go Go.Dc Go.Proofs
theorem zIw(L:List File):(qVt L).length≤64:=by
 unfold qVt
 by_cases hc:qIg L=0
 ·rw[if_pos hc]
  unfold qMv
  rw[kP]
  exact fV (fJ _ _) (qIa.1 hc).1
 ·rw[if_neg hc];exact k0 _
theorem zMb(L:List File)(pkg:ByteArray):(zCq L pkg).length≤64:=by
 unfold zCq
 by_cases hc:qIg L=0
 ·rw[if_pos hc]
  exact fV (fJ _ _) (qIa.1 hc).1
 ·rw[if_neg hc];exact k0 _
theorem zKu:∀(K l:List ByteArray),(K.foldl addB l).length≤l.length+K.length
 |[],l=>jP _
 |x::K,l=>by
  have h1:=zKu K (addB l x)
  have h2:(addB l x).length≤l.length+1:=qUu
  simp only[jQ,jC];omega
theorem zLp(L:List File):(zDc L).length≤64:=by
 unfold zDc
 by_cases hc:qIg L=0
 ·rw[if_pos hc]
  have h1:=zKu (zIy L) []
  have h2:=qWm L
  have h3:=(qIa.1 hc).1
  unfold zIy at*
  rw[kP,jG] at h1
  omega
 ·rw[if_neg hc];exact k0 _
theorem qWd(L:List File):(zBz L).length<1000000:=by
 unfold zBz
 by_cases hc:qIg L=0
 ·rw[if_pos hc]
  have h1:=(zCr (qLv (qHr L))).2.2.2
  have h2:=zBh (qIa.1 hc).1
  omega
 ·rw[if_neg hc];exact(by decide)
theorem zDj{N:Nat}{l:List ByteArray}(h:l.length<1000000)(hN:l.length<N):qGq N l l=some true:=by
 unfold qGq
 rw[if_neg (by simp),zGr (n:=l.length) (b:=(.inl ():Unit⊕Bool)) (fun i hi=>by
  simp only[qHd]
  rw[if_pos (by simp only[jA];omega),qDu hi]
  have ew:IntKind.wrap .i64 ((i:Int)+1)=((i+1:Nat):Int):=by rw[wi64 (by omega) (by omega)];omega
  simp only[j0,kI,jR,jB,jE,ew]) (by
  simp only[qHd]
  rw[if_neg (by simp)]) hN]
 rfl
theorem zOq{N:Nat}{l:List Ent}(h:l.length<1000000)(hN:l.length<N):qGb N l l=some true:=by
 unfold qGb
 rw[if_neg (by simp),zGr (n:=l.length) (b:=(.inl ():Unit⊕Bool)) (fun i hi=>by
  simp only[qEt]
  rw[if_pos (by simp only[jA];omega),qDu hi]
  have ew:IntKind.wrap .i64 ((i:Int)+1)=((i+1:Nat):Int):=by rw[wi64 (by omega) (by omega)];omega
  simp only[j0,kI,d9,jR,jB,jE,ew]) (by
  simp only[qEt]
  rw[if_neg (by simp)]) hN]
 rfl
theorem zMf{N:Nat}{l:List File}(h:l.length<1000000)(hN:l.length<N):qHy N l l=some true:=by
 unfold qHy qLx
 rw[if_neg (by simp),zGr (n:=l.length) (b:=(.inl ():Unit⊕Bool)) (fun i hi=>by
  simp only[qJb]
  rw[if_pos (by simp only[jA];omega),qDu hi]
  have ew:IntKind.wrap .i64 ((i:Int)+1)=((i+1:Nat):Int):=by rw[wi64 (by omega) (by omega)];omega
  simp only[j0,kI,d9,jR,jB,jE,ew]) (by
  simp only[qJb]
  rw[if_neg (by simp)]) hN]
 rfl
def zAf(x:Ent):Bool:=x.2.2.1==2&&x.2.2.2.2.2==1
abbrev Nm:=ByteArray×ByteArray
def zCl(L:List File):List Nm:=((zBz L).filter zAf).map fun x=>(x.1,x.2.1)
theorem zCk{N:Nat}{E:List Ent}{f:List Nm×Int→Option ((List Nm×Int)⊕List Nm)}(hE:E.length<1000000)(hN:1000000<N)
  (hf:∀s1:List Nm×Int,f s1=if(decide (s1.2<(List.length E:Int)))=true then(((idx E s1.2).bind fun x1=>(if(x1.2.2.1==2)=true then(some (x1.2.2.2.2.2==1)) else(some false):Option (Bool)).bind fun o3=>if o3=true then((qEc 32 s1.1 ([(x1.1,x1.2.1)])).bind fun l1=>some l1) else(some s1.1):Option ((List (ByteArray×ByteArray)))).bind fun o2=>some (.inl (o2,IntKind.wrap .i64 (s1.2+1)))) else(some (.inr s1.1))):
  qAw f N ([],0)=some ((E.filter zAf).map fun x=>(x.1,x.2.1)):=by
 have h:=qMi (L:=E) (fun(t:List Nm) (i:Nat)=>(t,(i:Int))) (f:=f)
  (fun t x=> .inl (if zAf x=true then t++[(x.1,x.2.1)] else t)) (fun t=>t) (fun i t=>t.length≤i) (by
   intro t i hi hI
   rw[hf]
   simp only
   rw[if_pos (by simp only[jA];omega),qDu hi]
   have ew:IntKind.wrap .i64 ((i:Int)+1)=((i+1:Nat):Int):=by rw[wi64 (by omega) (by omega)];omega
   simp only[j0,ew]
   unfold zAf
   by_cases h1:((E[i]).2.2.1==2)=true
   ·rw[if_pos h1,h1]
    simp only[j0,gF]
    by_cases h2:((E[i]).2.2.2.2.2==1)=true
    ·rw[if_pos h2,if_pos h2,qCv (by simp only[jC,jG];omega) (by omega)]
     rfl
    ·rw[if_neg h2,if_neg h2];rfl
   ·have h1':((E[i]).2.2.1==2)=false:=by simpa using h1
    rw[if_neg h1,h1']
    simp only[j0,d5,jB,jE]) (by
   intro t i hi t' hI h
   cases h
   split
   ·simp only[jI,jC,jG];omega
   ·omega) (by
   intro t hI
   rw[hf]
   simp only
   rw[if_neg (by simp)]) (M:=N) (t:=[]) (by omega) (k0 _)
 rw[show((0:Nat):Int)=0 from rfl] at h
 rw[h,qPc (fun t (x:Ent)=>if zAf x=true then t++[(x.1,x.2.1)] else t) (fun _ _=>rfl),qQs zAf (fun x=>(x.1,x.2.1))]
 simp
theorem zHm{N:Nat}{L:List File}(hP:qMu N L)(hN:1000001<N):qKr N L=some (zCl L):=by
 unfold qKr
 rw[qYm hP hN]
 simp only[j0]
 rw[zCk (f:=qMm N (zBz L)) (qWd L) (by omega) (fun _=>rfl)]
 rfl
theorem zJz{N:Nat}{L:List File}(hN:1000005<N):qKa N L=some (zCl L):=by
 unfold qKa
 rw[qVl hN]
 simp only[j0]
 rw[zCk (f:=qKd N (zBz L)) (qWd L) (by omega) (fun _=>rfl)]
 rfl
theorem zMj(L:List File):(zCl L).length<1000000:=by
 unfold zCl
 rw[kP]
 have:=fJ zAf (zBz L)
 have:=qWd L
 omega
def zHp(y:Sr×Bool)(e:Ent):Bool:=y.2&&(decide (0≤e.2.2.2.2.1)&&(match y.1.2.2[e.2.2.2.2.1.toNat]? with|some d=>decide (d.1=e.2.2.1)&&decide (d.2.1=e.2.1)|none=>false))
def zLs(L:List File)(e:Ent):Sr×Int×Bool:=if zHp (srcP L e.2.2.2.1) e=true then((srcP L e.2.2.2.1).1,e.2.2.2.2.1,true) else(qWk,0,false)
theorem zKt(y1:Sr×Bool)(p1:Ent):(if(!y1.2)=true then(some true) else(if(decide (p1.2.2.2.2.1<0))=true then(some true) else(if(decide (p1.2.2.2.2.1≥(List.length y1.1.2.2:Int)))=true then(some true) else((idx y1.1.2.2 p1.2.2.2.2.1).bind fun x1=>if(x1.1 !=p1.2.2.1)=true then(some true) else((idx y1.1.2.2 p1.2.2.2.2.1).bind fun x2=>some (!(x2.2.1.toList==p1.2.1.toList)))))):Option (Bool))=some (!zHp y1 p1):=by
 unfold zHp
 cases hy:y1.2 with
 |false=>rfl
 |true=>
  rw[if_neg (by simp)]
  by_cases h0:p1.2.2.2.2.1<0
  ·rw[if_pos (by simpa using h0),jU (by omega)];rfl
  ·rw[if_neg (by simpa using h0),jO (show 0≤p1.2.2.2.2.1 by omega)]
   by_cases h1:p1.2.2.2.2.1≥(List.length y1.1.2.2:Int)
   ·rw[if_pos (by simpa using h1),List.getElem?_eq_none (by omega)];rfl
   ·have hlt:p1.2.2.2.2.1.toNat<y1.1.2.2.length:=by omega
    rw[if_neg (by simpa using h1),qZq (by omega) hlt,List.getElem?_eq_getElem hlt]
    simp only[j0,gF,eqB]
    by_cases h2:(y1.1.2.2[p1.2.2.2.2.1.toNat]).1=p1.2.2.1
    ·rw[if_neg (by simpa using h2),jO h2,gF]
    ·rw[if_pos (by simpa using h2),jU h2];rfl
theorem zQt{N:Nat}{L:List File}{e:Ent}(hP:qMu N L)(hN:1000001<N):qOg N L e=some (zLs L e):=by
 unfold qOg
 rw[zCp hP hN]
 simp only[j0]
 refine Eq.trans (congrArg (fun z=>Option.bind z _) (zKt (srcP L e.2.2.2.1) e)) ?_
 simp only[j0]
 unfold zLs
 cases zHp (srcP L e.2.2.2.1) e<;>rfl
theorem zLt{N:Nat}{L:List File}{e:Ent}(hN:1000005<N):qKp N L e=some (zLs L e):=by
 unfold qKp
 rw[qNt hN]
 simp only[j0]
 refine Eq.trans (congrArg (fun z=>Option.bind z _) (zKt (srcP L e.2.2.2.1) e)) ?_
 simp only[j0]
 unfold zLs
 cases zHp (srcP L e.2.2.2.1) e<;>rfl
theorem zPl(L:List File)(p:ByteArray):okSr (srcP L p).1:=by
 unfold srcP
 split
 ·split
  ·exact zNa _
  ·exact qWs
 ·exact qWs
theorem zRg(L:List File)(e:Ent):okSr (zLs L e).1:=by
 unfold zLs
 split
 ·exact zPl _ _
 ·exact qWs
theorem zKg{N:Nat}{L:List File}(kind:Int)(pkg name:ByteArray)(hP:qMu N L)(hN:1000001<N):qLi N L kind pkg name=some (zLu L kind pkg name):=by
 unfold qLi
 rw[zGz hP hN]
 simp only[j0]
 rw[zQv]
 rfl
theorem zNm{N:Nat}{L:List File}{l:List Int}{a:Int}(hP:qMu N L)(hN:3000000<N)(h0:0≤a)(h1:a<100000000000000000):
  Ok (qAw (qEs N L) N (0,l,a)) fun o=>∃z,o= .inl z:=by
 have key:=zEm (f:=qEs N L) (fun s=>∃(j:Nat) (a':Int),s=((j:Int),l,a')∧j≤8∧a≤a'∧a'≤a+100*j) (fun s=>8-s.1.toNat) (fun o=>∃z,o= .inl z) (fun s hs=>by
  obtain⟨j,a',rfl,hj,g1,g2⟩:=hs
  have main:Ok (qEs N L ((j:Int),l,a')) fun r=>(match r with
    | .inl s'=>(∃(j:Nat) (a':Int),s'=((j:Int),l,a')∧j≤8∧a≤a'∧a'≤a+100*j)∧8-s'.1.toNat<8-j
    | .inr b=>∃z,b= .inl z):=by
   unfold qEs
   dsimp only
   by_cases hlt:j<8
   ·rw[if_pos (by simp only[jA];omega)]
    refine Ok.one (by omega) (by omega) (by decide) (by decide) fun p _=> ?_
    dsimp only
    rw[zCp hP (by omega),qNt (by omega)]
    simp only[j0]
    rw[if_neg (by simp),qXz (zPl L p) (by omega)]
    simp only[j0,jR,jB,jE]
    refine Ok.one (by omega) (by omega) (by decide) (by decide) fun pkg _=> ?_
    dsimp only
    rw[zPs hP (by omega),zIq (by omega)]
    simp only[j0]
    have hfl:=zMb L pkg
    rw[zMf (by omega) (by omega)]
    simp only[j0,jR,jB,jE]
    refine Ok.pick (by omega) (by omega) (by decide) (by decide) fun kind _=> ?_
    dsimp only
    refine Ok.one (by omega) (by omega) (by decide) (by decide) fun name _=> ?_
    dsimp only
    rw[zKg _ _ _ hP (by omega),zIg _ _ _ (by omega)]
    simp only[j0]
    rw[if_neg (by simp)]
    refine Ok.next (by omega) (by omega) (by decide) (by decide) fun n n0 n1=> ?_
    dsimp only
    refine Ok.bind (P:=fun o=>∃a2 k q i,o=(l,a2,k,q,i)∧a'≤a2∧a2≤a'+50) ?_ ?_
    ·refine Ok.ite (fun _=> ?_) fun _=>Ok.ite (fun _=> ?_) fun _=>Ok.ite (fun _=> ?_) fun _=> ?_
     ·refine Ok.next (by omega) (by omega) (by decide) (by decide) fun _ _ _=>Ok.mk ⟨_,_,_,_,rfl,(by dsimp only;omega),(by dsimp only;omega)⟩
     ·exact Ok.mk ⟨_,_,_,_,rfl,by omega,by omega⟩
     ·refine Ok.next (by omega) (by omega) (by decide) (by decide) fun _ _ _=>Ok.mk ⟨_,_,_,_,rfl,(by dsimp only;omega),(by dsimp only;omega)⟩
     ·exact Ok.mk ⟨_,_,_,_,rfl,by omega,by omega⟩
    ·rintro _ ⟨a2,k,q,i,rfl,v1,v2⟩
     dsimp only
     rw[zQt hP (by omega),zLt (by omega)]
     simp only[j0]
     rw[if_neg (by simp),if_neg (by simp),qXz (zRg L _) (by omega)]
     have w:IntKind.wrap .i64 ((j:Int)+1)=((j+1:Nat):Int):=by rw[wi64 (by omega) (by omega)];omega
     simp only[j0,jR,jB,jE,w]
     exact Ok.mk ⟨⟨j+1,_,rfl,by omega,by omega,by omega⟩,by simp only[kH];omega⟩
   ·rw[if_neg (by simp only[jA];omega)]
    exact Ok.mk ⟨_,rfl⟩
  obtain⟨r,m1,m2⟩:=main
  cases r with
  |inl s'=>exact .inr ⟨s',m1,m2.1,by simpa using m2.2⟩
  |inr b=>exact .inl ⟨b,m1,m2⟩) N (0,l,a) ⟨0,a,rfl,by decide,Int.le_refl _,by omega⟩ (by show 8-0<N;omega)
 obtain⟨b,m1,m2⟩:=key
 exact⟨b,m1,m2⟩
theorem zOi{N:Nat}{L:List File}{l:List Int}{a:Int}(hP:qMu N L)(hN:3000000<N)(h0:0≤a)(h1:a<100000000000000000):
  Ok (qJm N L (l,a)) fun y=>y.2=true:=by
 have b1:=zIw L
 have b2:=zLp L
 have b3:=qWd L
 have b4:=zMj L
 unfold qJm
 rw[zDi hP (by omega),zHv (by omega)]
 simp only[j0]
 rw[zDj (by omega) (by omega)]
 simp only[j0,jR,jB,jE]
 rw[zNo hP (by omega),zJu (by omega)]
 simp only[j0]
 rw[zDj (by omega) (by omega)]
 simp only[j0,jR,jB,jE]
 rw[qYm hP (by omega),qVl (by omega)]
 simp only[j0]
 rw[zOq (by omega) (by omega)]
 simp only[j0,jR,jB,jE]
 rw[zHm hP (by omega),zJz (by omega)]
 simp only[j0]
 rw[if_neg (by simp),zGr (n:=(zCl L).length) (b:=(.inl ():Unit⊕((List Int×Int)×Bool))) (fun i hi=>by
  simp only[qIb]
  rw[if_pos (by simp only[jA];omega),qDu hi]
  have ew:IntKind.wrap .i64 ((i:Int)+1)=((i+1:Nat):Int):=by rw[wi64 (by omega) (by omega)];omega
  simp only[j0,kI,d9,jR,jB,jE,ew]) (by
  simp only[qIb]
  rw[if_neg (by simp)]) (by omega)]
 simp only[j0]
 refine Ok.bind (zNm (l:=l) hP hN h0 h1) ?_
 rintro _ ⟨z,rfl⟩
 exact Ok.mk rfl
theorem qYr{N:Nat}{L:List File}(h:∀f∈L,f.1.size≤1048576)(hN:3000000<N):qMu N L:=fun g hg=>zQb (by have:=h g hg;omega) (by have:=h g hg;omega)
def wA:List File:=[((⟨#[97,46,115,114,99]⟩:ByteArray),(⟨#[112,97,99,107,97,103,101,32,112,59,32,102,117,110,99,32,102,40,41,32,61,32,49,59,32,116,101,115,116,32,116,32,61,32,102,40,41,59]⟩:ByteArray)),((⟨#[98,46,115,114,99]⟩:ByteArray),(⟨#[112,97,99,107,97,103,101,32,112,59,32,102,117,110,99,32,102,40,41,32,61,32,50,59]⟩:ByteArray)),((⟨#[99,46,115,114,99]⟩:ByteArray),(⟨#[102,117,110,99]⟩:ByteArray))]
theorem zSx:zLu wA 1 (⟨#[112]⟩:ByteArray) (⟨#[102]⟩:ByteArray)=((⟨#[112]⟩:ByteArray),(⟨#[102]⟩:ByteArray),1,(⟨#[97,46,115,114,99]⟩:ByteArray),0,2):=by kernel_rfl
theorem zRo:zCl wA=[((⟨#[112]⟩:ByteArray),(⟨#[116]⟩:ByteArray))]:=by kernel_rfl
theorem zOc:qVt wA=[(⟨#[99,46,115,114,99]⟩:ByteArray)]:=by kernel_rfl
theorem zTt{N:Nat}(h1:qLi N wA 1 (⟨#[112]⟩:ByteArray) (⟨#[102]⟩:ByteArray)=some ((⟨#[112]⟩:ByteArray),(⟨#[102]⟩:ByteArray),1,(⟨#[97,46,115,114,99]⟩:ByteArray),0,2))(h2:qKr N wA=some [((⟨#[112]⟩:ByteArray),(⟨#[116]⟩:ByteArray))])(h3:qJw N wA=some [(⟨#[99,46,115,114,99]⟩:ByteArray)]):qIv N=some true:=by
 unfold qIv
 refine Eq.trans (congrArg (fun z=>Option.bind z _) h1) ?_
 simp only[j0]
 refine Eq.trans (congrArg (fun z=>Option.bind z _) h2) ?_
 simp only[j0]
 refine Eq.trans (congrArg (fun z=>Option.bind z _) h3) ?_
 simp only[j0]
 refine Eq.trans (b:=some true) ?_ rfl
 kernel_rfl
theorem zRn{N:Nat}(hN:3000000<N):qIv N=some true:=by
 have hP:qMu N wA:=qYr (fun f hf=>by
  simp only[wA,jL,kV,d7] at hf
  rcases hf with rfl|rfl|rfl<;>decide) hN
 exact zTt (by rw[zKg _ _ _ hP (by omega),zSx]) (by rw[zHm hP (by omega),zRo]) (by rw[zDi hP (by omega),zOc])
end
section
open Go Go.Dc Go.Proofs
theorem testgatelaw08_PackagesRaw_true(raw:List File)(graw:raw.length≤1048576∧∀f∈raw,f.1.size≤1048576∧f.2.size≤1048576)(l:List Int)(_gl:l.length≤1048576∧∀x∈l,(Lit.int .i64 x).wf=true):∃N,qGz N raw l=some true:=by
 refine⟨4000000,?_⟩
 have key:Ok (qGz 4000000 raw l) fun b=>b=true:=by
  unfold qGz
  refine Ok.bind (P:=fun o=>∀f∈o,f∈raw) ?_ fun o1 ho1=> ?_
  ·split
   ·rename_i h
    have h:=kY h
    rw[show(8:Int)=((8:Nat):Int) from rfl,zGx (by omega) (by omega) (by omega)]
    exact Ok.mk fun f hf=>List.mem_of_mem_take (List.mem_of_mem_drop hf)
   ·exact Ok.mk fun f hf=>hf
  have pR:qMu 4000000 o1:=qYr (fun f hf=>(graw.2 f (ho1 f hf)).1) (by decide)
  refine Ok.assoc (Ok.bind (zOi (l:=l) (a:=0) pR (by decide) (by decide) (by decide)) fun y hy=> ?_)
  rw[if_pos hy,zRn (by decide)]
  exact Ok.mk rfl
 obtain⟨b,h1,rfl⟩:=key
 exact h1
end
end Go.Proofs.YtcdpbapbpcpflaaGreatDoor
