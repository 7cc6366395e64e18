/- No condition but those of each theorem. -/
import Derived.Test.YthiiggmmmoolbaaGreatDoorProg
import Derived.WalkKit
import Derived.Deep.LoopGhost
import Derived.KernelRfl
import Derived.OrdersHeld
import Derived.OrdersIn
import Derived.LoopNIn
import Derived.Sort.LoopGhostIn
import Derived.Laws.AppendOwn
import Derived.RangeFuncLeaves
import Derived.RangeFuncRecord
import Derived.MapKept
import Derived.Maps.RangeRun
import Derived.ChangeKeysEq
import Derived.HandedShaped
import Derived.ChangeStays
import Derived.ChangeSame
import Derived.OpenShut
import Derived.WideShapes
import Derived.JoinedOf
import Derived.ReadAgain
import Derived.ChangeAt
import Derived.RowKit
import Derived.Lib.Overlaps
import Derived.Shelf.Sort.Plain
import Derived.Shelf.Slices.In.SortNone
import Derived.WalkSmall
import Derived.Recover
import Derived.Lib.Builder
import Derived.Lib.UnsafeStr
import Derived.Shelf.Strconv.Itoa3
import Derived.Room.Shelf.Join48
import Derived.Test.YthiiggmmmoolbaaGreatDoorRows
import Derived.Lib.Bytealg
import Derived.Test.YthiiggmmmoolbaaGreatDoorK5t1
namespace Go.Proofs.YthiiggmmmoolbaaGreatDoor
section
open Go Go.Dc Go.Proofs
theorem GI{N:Nat}{s:BA}(a:100<N):qT N s=some (dZ s):=by
 simp only[qT,NF a,qAe a,j0]
 unfold dZ
 cases oA s<;>rfl
def uR(k:Int):Int:=if k=3 then-1 else if k=4 then 2 else if k=5 then 3 else if k=6 then 1 else 0
def pT(x:Ex):Bool:=(x.1==3)||(qM x==uR x.1)
def qI(np:Int)(x:Ex):Bool:=
 if x.1=1 then decide (x.2.2.2.1=emB)&&(x.2.2.1==0&&(decide (x.2.1>=-9007199254740992)&&decide (x.2.1<=9007199254740992)))
 else if x.1=2 then decide (x.2.2.2.1=emB)&&(x.2.2.1==0&&(decide (x.2.1>=0)&&decide (x.2.1<np)))
 else if x.1=3 then x.2.1==0&&(x.2.2.1==0&&dZ x.2.2.2.1)
 else if x.1=4 then x.2.1==0&&(decide (x.2.2.2.1=emB)&&(decide (x.2.2.1>=1)&&decide (x.2.2.1<=7)))
 else if x.1=5 then x.2.1==0&&(decide (x.2.2.2.1=emB)&&x.2.2.1==0)
 else if x.1=6 then x.2.1==0&&(x.2.2.1==0&&lM x.2.2.2.1.data.toList)
 else if x.1=7\/x.1=8 then x.2.1==0&&(x.2.2.1==0&&lM x.2.2.2.1.data.toList)
 else if x.1=9 then x.2.1==0&&(x.2.2.1==0&&oA x.2.2.2.1)
 else if x.1=10 then decide (x.2.2.2.1=emB)&&(x.2.2.1==0&&(decide (x.2.1>=0)&&decide (x.2.1<64)))
 else false
theorem qGo(np:Int)(x:Ex):iJ np x=(qI np x&&pT x):=by
 unfold iJ qI pT uR
 by_cases h1:x.1=1
 .simp[h1];ac_rfl
 by_cases h2:x.1=2
 .simp[h2];ac_rfl
 by_cases h3:x.1=3
 .simp[h3]
 by_cases h4:x.1=4
 .simp[h4];ac_rfl
 by_cases h5:x.1=5
 .simp[h5];ac_rfl
 by_cases h6:x.1=6
 .simp[h6];ac_rfl
 by_cases h7:x.1=7
 .simp[h7];ac_rfl
 by_cases h8:x.1=8
 .simp[h8];ac_rfl
 by_cases h9:x.1=9
 .simp[h9];ac_rfl
 by_cases h10:x.1=10
 .simp[h10];ac_rfl
 simp[h1,h2,h3,h4,h5,h6,h7,h8,h9,h10]
theorem qJg{N:Nat}{np:Int}{x:Ex}(d:100<N):FB N x np=some (qI np x):=by
 simp only[FB,eqE,NB (s:=x.2.2.2.1) d,NF (s:=x.2.2.2.1) d,GI (s:=x.2.2.2.1) d,j0,YT]
 unfold qI
 by_cases h1:x.1=1
 .by_cases a:x.2.2.2.1=emB<;>by_cases b:x.2.2.1=0<;>simp[h1,a,b]
 by_cases h2:x.1=2
 .by_cases a:x.2.2.2.1=emB<;>by_cases b:x.2.2.1=0<;>simp[h2,a,b]
 by_cases h3:x.1=3
 .by_cases a:x.2.1=0<;>by_cases b:x.2.2.1=0<;>simp[h3,a,b]
 by_cases h4:x.1=4
 .by_cases a:x.2.1=0<;>by_cases b:x.2.2.2.1=emB<;>simp[h4,a,b]
 by_cases h5:x.1=5
 .by_cases a:x.2.1=0<;>by_cases b:x.2.2.2.1=emB<;>by_cases c:x.2.2.1=0<;>simp[h5,a,b,c]
 by_cases h6:x.1=6
 .by_cases a:x.2.1=0<;>by_cases b:x.2.2.1=0<;>simp[h6,a,b]
 by_cases h7:x.1=7
 .by_cases a:x.2.1=0<;>by_cases b:x.2.2.1=0<;>simp[h7,a,b]
 by_cases h8:x.1=8
 .by_cases a:x.2.1=0<;>by_cases b:x.2.2.1=0<;>simp[h8,a,b]
 by_cases h9:x.1=9
 .by_cases a:x.2.1=0<;>by_cases b:x.2.2.1=0<;>simp[h9,a,b]
 by_cases h10:x.1=10
 .by_cases a:x.2.2.2.1=emB<;>by_cases b:x.2.2.1=0<;>simp[h10,a,b]
 by_cases c:x.1<1
 .simp[h1,h2,h3,h4,h5,h6,h7,h8,h9,h10,c]
 have e:x.1>10:=by omega
 simp[h1,h2,h3,h4,h5,h6,h7,h8,h9,h10,c,e]
theorem qIz{N:Nat}(k:Int):FE N k=some (uR k):=by
 unfold FE uR
 by_cases h3:k=3
 .simp[h3]
 by_cases h4:k=4
 .simp[h4]
 by_cases h5:k=5
 .simp[h5]
 by_cases h6:k=6
 .simp[h6]
 simp[h3,h4,h5,h6]
theorem ZE{N m n:Nat}{st args:List Int}{x:Ex}{i:Int}(l:x.2.2.2.2=args)(q:args.length=n)(r:st.length=m+n)(o:st.length<4000000):∀(d k M:Nat),k+d=n->d<M->
  aI (zV N (st,i) x (n:Int)) M (k:Int)=some (if st.drop (m+k)=args.drop k then .inl () else .inr false)
 |_,_,0,_,h=>absurd h (kQ _)
 |0,k,M+1,p,_=>by
  simp only[aI,zV]
  rw[if_neg (by simp only[jA];omega),if_pos (by rw[jM (by omega),jM (by omega)])]
  rfl
 |d+1,k,M+1,p,s=>by
  subst l
  have b:k<x.2.2.2.2.length:=by omega
  have a:m+k<st.length:=by omega
  have ew:IntKind.wrap .i64 ((k:Int)+1)=((k+1:Nat):Int):=by rw[bQ (by omega) (by omega)];omega
  have c:IntKind.wrap .i64 ((st.length:Int)-(n:Int))=(m:Int):=by rw[bQ (by omega) (by omega)];omega
  have f:IntKind.wrap .i64 ((m:Int)+(k:Int))=((m+k:Nat):Int):=by rw[bQ (by omega) (by omega)];omega
  simp only[aI,zV]
  rw[if_pos (by simp only[jA];omega),dX b,c,f,dX a]
  simp only[j0,ew]
  rw[tU b,tU a]
  by_cases e:x.2.2.2.2[k]=st[m+k]
  .rw[if_neg (by simpa using e)]
   simp only[j0]
   rw[ZE rfl q r o d (k+1) M (by omega) (by omega),e]
   simp only[kV,true_and]
   rfl
  rw[if_pos (by simpa using e),if_neg (fun g=>e (List.cons.inj g).1.symm)]
  rfl
def wM(l:List Ex)(k:Nat)(st:List Int):Option (List Int):=if l.all pT=true then nI l k st else none
theorem qGf{N:Nat}{l:List Ex}(y:l.length<2000000)(u:∀x∈l,x.2.2.2.2.length<2000000)(v:3000000<N):ET N l=some (oneP (wM l 0 [])):=by
 have s:=oK (L:=l) (fun(t:List Int×Nat) (i:Nat)=>(t.1,(i:Int))) (f:=zX N l)
  (fun t x=>if pT x=true/\x.2.2.2.2.length<=t.1.length/\t.1.drop (t.1.length-x.2.2.2.2.length)=x.2.2.2.2 then .inl (t.1.take (t.1.length-x.2.2.2.2.length)++[(t.2:Int)],t.2+1) else .inr (.inr false)) (fun t=>(.inl t.1:List Int⊕Bool)) (fun i t=>t.2=i/\t.1.length<=i) (by
   rintro⟨st,k⟩ i hi ⟨rfl,d⟩
   simp only at d hi ⊢
   have p:=u _ (jR hi)
   simp only[zX]
   rw[if_pos (by simp only[jA];omega),dX hi]
   generalize l[k]=x at p
   simp only[j0,qIz]
   have ew:IntKind.wrap .i64 ((k:Int)+1)=((k+1:Nat):Int):=by rw[bQ (by omega) (by omega)];omega
   have q:IntKind.wrap .i64 ((st.length:Int)-(x.2.2.2.2.length:Int))=(st.length:Int)-(x.2.2.2.2.length:Int):=by
    rw[bQ (by omega) (by omega)]
   by_cases a:pT x=true
   .have n:(if decide (uR x.1<0)=true then some (x.2.2.2.2.length:Int) else some (uR x.1):Option Int)=some (x.2.2.2.2.length:Int):=by
     unfold pT qM at a
     simp only[Bool.or_eq_true,kD] at a
     rcases a with a|a
     .rw[a];rfl
     rw[<-a,if_neg (by simp)]
    rw[n]
    simp only[j0]
    rw[if_neg (by simp)]
    simp only[j0]
    by_cases b:x.2.2.2.2.length<=st.length
    .rw[if_neg (by simp only[jA];omega)]
     have e:=ZE (N:=N) (m:=st.length-x.2.2.2.2.length) (st:=st) (x:=x) (i:=(k:Int)) rfl rfl (by omega) (by omega) x.2.2.2.2.length 0 N (by omega) (by omega)
     rw[show((0:Nat):Int)=0 from rfl,gP,jT] at e
     rw[e]
     simp only[j0]
     by_cases c:st.drop (st.length-x.2.2.2.2.length)=x.2.2.2.2
     .rw[if_pos c,if_pos ⟨a,b,c⟩]
      simp only
      rw[q,vO (by omega) (by omega) (by omega)]
      simp only[j0,gX,jT]
      rw[show((st.length:Int)-(x.2.2.2.2.length:Int)).toNat=st.length-x.2.2.2.2.length by omega,lU (by simp only[kG,jD,jE];omega) (by omega)]
      simp only[j0,ew]
     rw[if_neg c,if_neg (fun g=>c g.2.2)]
    rw[if_pos (by simp only[jA];omega),if_neg (fun g=>b g.2.1)]
   .have e:¬(pT x=true/\x.2.2.2.2.length<=st.length/\st.drop (st.length-x.2.2.2.2.length)=x.2.2.2.2):=fun g=>a g.1
    rw[if_neg e]
    have n:x.1≠3:=fun g=>a (by unfold pT;rw[g];rfl)
    have o:¬uR x.1<0:=by
     unfold uR
     rw[if_neg n]
     split
     .decide
     split
     .decide
     split<;>decide
    have c:(x.2.2.2.2.length:Int)≠uR x.1:=fun g=>a (by unfold pT qM;rw[g,kS,Bool.or_true])
    rw[if_neg (by simpa using o)]
    simp only[j0]
    rw[if_pos (by simpa using c)]
    rfl) (by
   rintro⟨st,k⟩ i hi t' ⟨rfl,d⟩ h
   simp only at d h
   split at h
   .rename_i g
    obtain rfl:=(Sum.inl.inj h).symm
    refine⟨rfl,?_⟩
    simp only[jC,kG,jD,jE]
    omega
   .cases h) (by
   rintro⟨st,k⟩ ⟨rfl,d⟩
   simp only[zX]
   rw[if_neg (by simp)]) (M:=N) (t:=([],0)) (by omega) ⟨rfl,jP _⟩
 unfold ET
 rw[show((([]:List Int),(0:Int)))=((([]:List Int),0).1,(((0:Nat)):Int)) from rfl]
 rw[s]
 have key:∀(l:List Ex) (st:List Int) (k:Nat),run (fun(t:List Int×Nat) (x:Ex)=>if pT x=true/\x.2.2.2.2.length<=t.1.length/\t.1.drop (t.1.length-x.2.2.2.2.length)=x.2.2.2.2 then(.inl (t.1.take (t.1.length-x.2.2.2.2.length)++[(t.2:Int)],t.2+1):(List Int×Nat)⊕(List Int⊕Bool)) else .inr (.inr false)) (fun t=>(.inl t.1:List Int⊕Bool)) l (st,k)=match wM l k st with
   |some r=> .inl r
   |none=> .inr false:=by
  intro l
  induction l with
  |nil=>intro st k;rfl
  |cons x l c=>
   intro st k
   simp only[run]
   unfold wM at c ⊢
   rw[List.all_cons]
   by_cases a:pT x=true
   .rw[a,gC]
    by_cases b:x.2.2.2.2.length<=st.length/\st.drop (st.length-x.2.2.2.2.length)=x.2.2.2.2
    .rw[if_pos ⟨rfl,b⟩]
     simp only
     rw[c]
     simp only[nI]
     rw[if_pos b]
    rw[if_neg (fun g=>b g.2)]
    simp only[nI]
    rw[if_neg b,ite_self]
   rw[if_neg (fun g=>a g.1),show pT x=false by simpa using a,Bool.false_and]
   rfl
 rw[key]
 cases wM l 0 [] with
 |none=>rfl
 |some r=>
  simp only[j0]
  congr 1
  match r with
  |[]=>rfl
  |[_]=>rfl
  |_::_::r=>
   show(((r.length+1+1:Nat):Int)==1)=false
   rw[beq_eq_false_iff_ne];omega
mutual
theorem UP(t:Rose)(d:Nat):t.deepen (d+1)=t.deepen d+1:=by
 match t with
 | .mk h ks=>
  simp only[Rose.deepen]
  by_cases h4:h.1=4
  .rw[if_pos h4,if_pos h4]
   by_cases hk:ks=[]
   .rw[hk];simp[nD]
   rw[NC ks d hk];omega
  rw[if_neg h4,if_neg h4]
  by_cases hk:ks=[]
  .rw[hk];simp[nD]
  rw[NC ks (d+1) hk];omega
theorem NC(l:List Rose)(d:Nat)(a:l≠[]):nD (d+1) l=nD d l+1:=by
 match l with
 |[]=>exact absurd rfl a
 |t::l=>
  have b:=UP t d
  simp only[nD]
  by_cases hk:l=[]
  .rw[hk];simp only[nD];omega
  rw[NC l d hk];omega
end
theorem qGs{d:Nat}:∀(n:Nat) (t:Rose),t.size<=n->t.deepen d<=d+t.size/\d<=t.deepen d:=by
 intro n
 induction n generalizing d with
 |zero=>intro t h;have:=t.pos;omega
 |succ n k=>
  intro t g
  match t with
  | .mk h ks=>
   have key:∀(e:Nat) (l:List Rose),aY l<=n->nD e l<=e+aY l:=by
    intro e l
    induction l with
    |nil=>intro _;exact kK _
    |cons u l c=>
     intro f
     have o:=u.pos
     simp only[aY] at f
     have a:=(k (d:=e) u (by omega)).1
     have b:=c (by omega)
     simp only[nD,aY];omega
   simp only[Rose.size] at g ⊢
   simp only[Rose.deepen]
   by_cases h4:h.1=4
   .have:=key d ks (by omega)
    rw[if_pos h4];omega
   have:=key (d+1) ks (by omega)
   rw[if_neg h4];omega
theorem XO{N D:Nat}{l:List Ex}{x:Ex}{i:Nat}(r:l[i]? =some x)(s:x.2.2.2.2.length<2000000):∀(ks:List Rose) (k b M m:Nat),(∀t∈ks,∀b,AtT l b t->xO N D l ((b+t.size-1:Nat):Int)=some ((t.deepen 1:Nat):Int))->x.2.2.2.2.drop k=bY b ks->k<=x.2.2.2.2.length->AtTs l b ks->aY ks<=300->ks.length<M->
  aI (AJ N (xO N D) l (i:Int) x) M ((m:Int),(k:Int))=some ((max m (nD (if x.1=4 then 1 else 2) ks):Nat):Int)
 |_,_,_,0,_,_,_,_,_,_,h=>absurd h (kQ _)
 |[],k,b,M+1,m,_,a,z,_,_,_=>by
  have F:k=x.2.2.2.2.length:=by
   have:=congrArg List.length a
   rw[kY] at this
   simp only[bY,jE] at this
   omega
  simp only[aI,AJ]
  rw[if_neg (by simp only[jA];omega)]
  simp only[j0,nD,fI]
 |t::ks,k,b,M+1,m,e,a,z,n,q,y=>by
  have A:=t.pos
  simp only[aY] at q
  have c:k<x.2.2.2.2.length:=by
   by_cases hh:k<x.2.2.2.2.length
   .exact hh
   rw[jM (by omega)] at a;cases a
  rw[tU c] at a
  obtain⟨o,p⟩:=List.cons.inj a
  obtain⟨f,g⟩:=n.head
  have E:=(qGs (d:=1) t.size t (jP _)).1
  have ew:IntKind.wrap .i64 ((k:Int)+1)=((k+1:Nat):Int):=by rw[bQ (by omega) (by omega)];omega
  have ed:IntKind.wrap .i64 (((t.deepen 1:Nat):Int)+1)=((t.deepen 2:Nat):Int):=by
   have:=UP t 1
   rw[bQ (by omega) (by omega),show t.deepen 2=t.deepen 1+1 from this];omega
  simp only[aI,AJ]
  rw[if_pos (by simp only[jA];omega),dX c,o]
  simp only[j0]
  rw[e t (jS ..) b f,mD r]
  simp only[j0,ed,ew]
  have v:(if(x.1 !=4)=true then some ((t.deepen 2:Nat):Int) else some ((t.deepen 1:Nat):Int):Option Int)=some ((t.deepen (if x.1=4 then 1 else 2):Nat):Int):=by
   by_cases h4:x.1=4
   .rw[if_neg (by simp[h4]),if_pos h4]
   rw[if_pos (by simpa using h4),if_neg h4]
  rw[v]
  simp only[j0,sQ]
  rw[XO r s ks (k+1) (b+t.size) M _ (fun u B=>e u (jX _ B)) p (by omega) g (by omega) (by simp only[jD] at y;omega)]
  simp only[nD,dC]
theorem XI{N:Nat}{l:List Ex}(o:∀x∈l,x.2.2.2.2.length<2000000)(q:3000000<N):∀(n:Nat) (t:Rose) (b D:Nat),t.size<=n->n<=300->n<=D->AtT l b t->xO N D l ((b+t.size-1:Nat):Int)=some ((t.deepen 1:Nat):Int)
 |0,t,_,_,h,_,_,_=>by have:=t.pos;omega
 |n+1,.mk h ks,b,D,f,v,s,e=>by
  simp only[Rose.size] at f ⊢
  obtain⟨D,rfl⟩:∃D',D=D'+1:=⟨D-1,by omega⟩
  rw[show b+(aY ks+1)-1=b+aY ks by omega]
  obtain⟨d,c⟩:=e.args
  have g:=o _ (fM d)
  have p:=JR ks
  have k:∀t∈ks,t.size<=aY ks:=by
   intro t a
   clear c d g p f e
   induction ks with
   |nil=>cases a
   |cons u l r=>
    simp only[aY]
    rcases jV.1 a with rfl|a
    .omega
    have:=r a;omega
  have r:=XO (N:=N) (D:=D) d g ks 0 b N 1 (fun t a b' hat'=>XI o q n t b' D (by have:=k t a;omega) (by omega) (by omega) hat') (by rw[jT];rfl) (kK _) c (by omega) (by omega)
  show EY N (xO N D) l _=_
  unfold EY
  rw[mD d]
  simp only[j0]
  rw[show((1:Int),(0:Int))=(((1:Nat):Int),((0:Nat):Int)) from rfl,r]
  simp only[j0,Rose.deepen]
  rfl
theorem qLd{N:Nat}{l:List Ex}(f:oneP (nI l 0 [])=true)(h:l.length<=256)(e:∀x∈l,x.2.2.2.2.length<2000000)(d:3000000<N):∃v:Int,JH N l (IntKind.wrap .i64 ((l.length:Int)-1))=some v/\(decide (v>32))=rV l:=by
 obtain⟨t,c,a⟩:=GL f
 have g:t.size=l.length:=by
  have:=lS t 0
  rw[<-a] at this;exact this.symm
 have k:=t.pos
 have b:AtT l 0 t:=by
  have:=AtT.whole t
  rw[<-a] at this;exact this
 refine⟨((t.deepen 1:Nat):Int),?_,?_⟩
 .unfold JH
  have:=XI e d t.size t 0 N (jP _) (by omega) (by omega) b
  rw[bQ (by omega) (by omega),show(l.length:Int)-1=((0+t.size-1:Nat):Int) by omega]
  exact this
 unfold rV
 rw[c]
 simp only
 congr 1
 rw[eq_iff_iff];omega
def DK(d:Dl):Prop:=d.2.2.1.length<2000000/\d.2.2.2.length<2000000/\∀x∈d.2.2.2,x.2.2.2.2.length<2000000
def rZ(f:Sr):Prop:=f.2.1.length<2000000/\f.2.2.length<2000000/\∀d∈f.2.2,DK d
theorem SmSr.r{f:Sr}(h:SmSr f):rZ f:=⟨h.1,h.2.1,fun d a=>⟨(h.2.2 d a).2.1,(h.2.2 d a).2.2.1,fun x b=>((h.2.2 d a).2.2.2 x b).2⟩⟩
theorem qNj{N:Nat}{f:Sr}(a:rZ f)(d:3000000<N):aI (xA N f) N 0=some (if f.2.1.all dZ=true then .inl () else .inr 9):=by
 obtain⟨c,-,-⟩:=a
 have h:=oK (L:=f.2.1) (fun(_:Unit) (i:Nat)=>(i:Int)) (f:=xA N f)
  (fun _ s=>if(!dZ s)=true then .inr (.inr 9) else .inl ()) (fun _=>(.inl ():Unit⊕Int)) (fun _ _=>True) (by
   intro t i hi _
   simp only[xA]
   rw[if_pos (by simp only[jA];omega),dX hi]
   have ew:IntKind.wrap .i64 ((i:Int)+1)=((i+1:Nat):Int):=by rw[bQ (by omega) (by omega)];omega
   simp only[j0,GI (s:=f.2.1[i]) (show 100<N by omega),ew]
   cases dZ f.2.1[i]<;>rfl) (fun _ _ _ _ _ _=>trivial) (by
   intro t _
   simp only[xA]
   rw[if_neg (by simp)]) (M:=N) (t:=()) (by omega) trivial
 rw[show((0:Nat):Int)=0 from rfl] at h
 rw[h,sN (b:=(.inr 9:Unit⊕Int)) (fun s=> !dZ s) (fun x=>rfl),gI]
 cases(f.2.1.any fun s=> !dZ s)<;>rfl
theorem qOn{N:Nat}{d:Dl}(a:DK d)(e:3000000<N):aI (wX N d) N 0=some (if d.2.2.1.all dZ=true then .inl () else .inr 9):=by
 obtain⟨c,-,-⟩:=a
 have h:=oK (L:=d.2.2.1) (fun(_:Unit) (i:Nat)=>(i:Int)) (f:=wX N d)
  (fun _ s=>if(!dZ s)=true then .inr (.inr 9) else .inl ()) (fun _=>(.inl ():Unit⊕Int)) (fun _ _=>True) (by
   intro t i hi _
   simp only[wX]
   rw[if_pos (by simp only[jA];omega),dX hi]
   have ew:IntKind.wrap .i64 ((i:Int)+1)=((i+1:Nat):Int):=by rw[bQ (by omega) (by omega)];omega
   simp only[j0,GI (s:=d.2.2.1[i]) (show 100<N by omega),ew]
   cases dZ d.2.2.1[i]<;>rfl) (fun _ _ _ _ _ _=>trivial) (by
   intro t _
   simp only[wX]
   rw[if_neg (by simp)]) (M:=N) (t:=()) (by omega) trivial
 rw[show((0:Nat):Int)=0 from rfl] at h
 rw[h,sN (b:=(.inr 9:Unit⊕Int)) (fun s=> !dZ s) (fun x=>rfl),gI]
 cases(d.2.2.1.any fun s=> !dZ s)<;>rfl
theorem qNh{N:Nat}{d:Dl}(a:DK d)(e:3000000<N):aI (xB N d) N 0=some (if d.2.2.2.all (qI (d.2.2.1.length:Int))=true then .inl () else .inr 9):=by
 obtain⟨-,c,-⟩:=a
 have h:=oK (L:=d.2.2.2) (fun(_:Unit) (i:Nat)=>(i:Int)) (f:=xB N d)
  (fun _ x=>if(!qI (d.2.2.1.length:Int) x)=true then .inr (.inr 9) else .inl ()) (fun _=>(.inl ():Unit⊕Int)) (fun _ _=>True) (by
   intro t i hi _
   simp only[xB]
   rw[if_pos (by simp only[jA];omega),dX hi]
   have ew:IntKind.wrap .i64 ((i:Int)+1)=((i+1:Nat):Int):=by rw[bQ (by omega) (by omega)];omega
   simp only[j0,qJg (x:=d.2.2.2[i]) (np:=(d.2.2.1.length:Int)) (show 100<N by omega),ew]
   cases qI (d.2.2.1.length:Int) d.2.2.2[i]<;>rfl) (fun _ _ _ _ _ _=>trivial) (by
   intro t _
   simp only[xB]
   rw[if_neg (by simp)]) (M:=N) (t:=()) (by omega) trivial
 rw[show((0:Nat):Int)=0 from rfl] at h
 rw[h,sN (b:=(.inr 9:Unit⊕Int)) (fun x=> !qI (d.2.2.1.length:Int) x) (fun x=>rfl),gI]
 cases(d.2.2.2.any fun x=> !qI (d.2.2.1.length:Int) x)<;>rfl
def HF(d:Dl):Bool:=(d.1==1||(d.2.2.1.isEmpty&&(d.1==2||d.1==3)))&&(if d.1=3 then lM d.2.1.data.toList else dZ d.2.1)
theorem qDq(d:Dl):mN d=(HF d&&(d.2.2.1.all dZ&&(d.2.2.2.all (qI (d.2.2.1.length:Int))&&oneP (wM d.2.2.2 0 [])))):=by
 have f:wI d=(d.2.2.2.all (qI (d.2.2.1.length:Int))&&oneP (wM d.2.2.2 0 [])):=by
  unfold wI wM
  have e:d.2.2.2.all (iJ (d.2.2.1.length:Int))=(d.2.2.2.all (qI (d.2.2.1.length:Int))&&d.2.2.2.all pT):=by
   rw[kC]
   simp only[jW,jK,qGo]
   exact⟨fun h=>⟨fun x b=>(h x b).1,fun x b=>(h x b).2⟩,fun h x b=>⟨h.1 x b,h.2 x b⟩⟩
  rw[e]
  cases d.2.2.2.all pT with
  |true=>simp
  |false=>simp[oneP]
 unfold mN
 rw[f]
 unfold uK wH HF
 by_cases k1:d.1=1
 .simp[k1]
 by_cases b:d.1=2
 .cases hp:d.2.2.1 with
  |nil=>simp[b]
  |cons a l=>simp[b]
 by_cases c:d.1=3
 .cases hp:d.2.2.1 with
  |nil=>simp[c]
  |cons a l=>simp[c]
 simp[k1,b,c]
theorem qNv{N:Nat}{f:Sr}(q:rZ f)(k:3000000<N):aI (xG N f) N 0=some (if f.2.2.all mN=true then .inl () else .inr 9):=by
 obtain⟨-,v,p⟩:=q
 have h:=oK (L:=f.2.2) (fun(_:Unit) (i:Nat)=>(i:Int)) (f:=xG N f)
  (fun _ d=>if(!mN d)=true then .inr (.inr 9) else .inl ()) (fun _=>(.inl ():Unit⊕Int)) (fun _ _=>True) (by
   intro t i hi _
   have c:=p _ (jR hi)
   obtain⟨-,n,o⟩:=id c
   simp only[xG]
   rw[if_pos (by simp only[jA];omega),dX hi]
   generalize f.2.2[i]=d at c n o
   have ew:IntKind.wrap .i64 ((i:Int)+1)=((i+1:Nat):Int):=by rw[bQ (by omega) (by omega)];omega
   simp only[j0,GI (s:=d.2.1) (show 100<N by omega),NB (s:=d.2.1) (show 100<N by omega),qOn c k,qNh c k,qGf n o k,ew]
   rw[qDq]
   have r:(if decide (d.1<1)=true then some true else if decide (d.1>3)=true then some true else if(d.1 !=1)=true then(if decide ((d.2.2.1.length:Int)>0)=true then some true else if(d.1==3)=true then(if(!lM d.2.1.data.toList)=true then some true else if(d.1 !=3)=true then some (!dZ d.2.1) else some false) else if(d.1 !=3)=true then some (!dZ d.2.1) else some false) else if(d.1==3)=true then(if(!lM d.2.1.data.toList)=true then some true else if(d.1 !=3)=true then some (!dZ d.2.1) else some false) else if(d.1 !=3)=true then some (!dZ d.2.1) else some false:Option Bool)=some (!HF d):=by
    unfold HF
    by_cases k1:d.1=1
    .simp[k1]
    by_cases e:d.1=2
    .cases hp:d.2.2.1 with
     |nil=>simp[e]
     |cons a l=>simp[e]
    by_cases g:d.1=3
    .cases hp:d.2.2.1 with
     |nil=>simp[g];cases lM d.2.1.data.toList<;>rfl
     |cons a l=>simp[g]
    by_cases k4:d.1<1
    .simp[k1,e,g,k4]
    have u:d.1>3:=by omega
    simp[k1,e,g,k4,u]
   refine Eq.trans (congrArg (fun z=>Option.bind z _) r) ?_
   simp only[j0]
   cases HF d with
   |false=>rfl
   |true=>
    rw[if_neg (by decide),gC]
    cases d.2.2.1.all dZ with
    |false=>rfl
    |true=>
     rw[if_pos rfl,gC]
     simp only
     cases d.2.2.2.all (qI (d.2.2.1.length:Int)) with
     |false=>rfl
     |true=>
      rw[if_pos rfl,gC]
      simp only
      cases oneP (wM d.2.2.2 0 [])<;>rfl) (fun _ _ _ _ _ _=>trivial) (by
   intro t _
   simp only[xG]
   rw[if_neg (by simp)]) (M:=N) (t:=()) (by omega) trivial
 rw[show((0:Nat):Int)=0 from rfl] at h
 rw[h,sN (b:=(.inr 9:Unit⊕Int)) (fun d=> !mN d) (fun x=>rfl),gI]
 cases(f.2.2.any fun d=> !mN d)<;>rfl
theorem qOi{N:Nat}{f:Sr}(b:rZ f)(e:3000000<N):aI (xH N f) N 0=some (if(decide (f.1∈f.2.1)||iO f.2.1)=true then .inr 10 else .inl ()):=by
 obtain⟨d,-,-⟩:=b
 have h:=oK (L:=f.2.1) (fun(_:List BA) (i:Nat)=>(i:Int)) (f:=xH N f)
  (fun t s=>if(decide (s=f.1)||decide (s∈t))=true then .inr (.inr 10) else .inl (t++[s])) (fun _=>(.inl ():Unit⊕Int)) (fun i t=>t=f.2.1.take i) (by
   rintro t i hi rfl
   simp only[xH]
   rw[if_pos (by simp only[jA];omega),dX hi]
   have ew:IntKind.wrap .i64 ((i:Int)+1)=((i+1:Nat):Int):=by rw[bQ (by omega) (by omega)];omega
   simp only[j0]
   rw[vO (by omega) (by omega) (by omega)]
   simp only[j0,jO,gX,jT,iQ,ew]
   rw[HL (by rw[kG];omega) (by rw[kG];omega)]
   simp only[j0]
   cases decide (f.2.1[i]=f.1)<;>cases decide (f.2.1[i]∈f.2.1.take i)<;>rfl) (by
   rintro t i hi t' rfl a
   split at a
   .cases a
   .obtain rfl:=(Sum.inl.inj a).symm
    rw[BZ hi]) (by
   intro t _
   simp only[xH]
   rw[if_neg (by simp)]) (M:=N) (t:=[]) (by omega) (by simp)
 rw[show((0:Nat):Int)=0 from rfl] at h
 rw[h]
 congr 1
 have key:∀(l t:List BA),run (fun t s=>if(decide (s=f.1)||decide (s∈t))=true then(.inr (.inr 10):List BA⊕(Unit⊕Int)) else .inl (t++[s])) (fun _=>(.inl ():Unit⊕Int)) l t=if(decide (f.1∈l)||pQ t l)=true then .inr 10 else .inl ():=by
  intro l
  induction l with
  |nil=>intro t;rfl
  |cons s l c=>
   intro t
   simp only[run,pQ,jV]
   by_cases e1:s=f.1
   .simp[e1]
   by_cases e2:s∈t
   .simp[e2]
   rw[jQ e1,jQ e2]
   simp only[Bool.or_self,jB,jF,kW]
   rw[c]
   have a:decide (f.1=s\/f.1∈l)=decide (f.1∈l):=by
    rw[decide_eq_decide]
    exact⟨fun h=>h.resolve_left (fun g=>e1 g.symm),.inr⟩
   rw[a]
 exact key _ _
theorem qNy{N:Nat}{d:Dl}(b:DK d)(e:3000000<N):aI (wY N d) N 0=some (if iO d.2.2.1=true then .inr 10 else .inl ()):=by
 obtain⟨c,-,-⟩:=b
 have h:=oK (L:=d.2.2.1) (fun(_:List BA) (i:Nat)=>(i:Int)) (f:=wY N d)
  (fun t s=>if decide (s∈t)=true then .inr (.inr 10) else .inl (t++[s])) (fun _=>(.inl ():Unit⊕Int)) (fun i t=>t=d.2.2.1.take i) (by
   rintro t i hi rfl
   simp only[wY]
   rw[if_pos (by simp only[jA];omega),dX hi]
   have ew:IntKind.wrap .i64 ((i:Int)+1)=((i+1:Nat):Int):=by rw[bQ (by omega) (by omega)];omega
   simp only[j0]
   rw[vO (by omega) (by omega) (by omega)]
   simp only[j0,jO,gX,jT,ew]
   rw[HL (by rw[kG];omega) (by rw[kG];omega)]
   simp only[j0]
   cases decide (d.2.2.1[i]∈d.2.2.1.take i)<;>rfl) (by
   rintro t i hi t' rfl a
   split at a
   .cases a
   .obtain rfl:=(Sum.inl.inj a).symm
    rw[BZ hi]) (by
   intro t _
   simp only[wY]
   rw[if_neg (by simp)]) (M:=N) (t:=[]) (by omega) (by simp)
 rw[show((0:Nat):Int)=0 from rfl] at h
 rw[h]
 congr 1
 have key:∀(l t:List BA),run (fun t s=>if decide (s∈t)=true then(.inr (.inr 10):List BA⊕(Unit⊕Int)) else .inl (t++[s])) (fun _=>(.inl ():Unit⊕Int)) l t=if pQ t l=true then .inr 10 else .inl ():=by
  intro l
  induction l with
  |nil=>intro t;rfl
  |cons s l a=>
   intro t
   simp only[run]
   rw[show pQ t (s::l)=(decide (s∈t)||pQ (t++[s]) l) from rfl]
   by_cases e2:s∈t
   .simp[e2]
   rw[jQ e2]
   simp only[jB,jF,kW]
   rw[a]
 exact key _ _
theorem qGc(l:List Dl)(d:Dl):(l.any fun x=>x.1==d.1&&decide (x.2.1=d.2.1))=decide (nE d∈l.map nE):=by
 rw[kC]
 simp only[fH,jK,kD,jA,fX]
 constructor
 .rintro⟨x,a,b,c⟩
  exact⟨x,a,Prod.ext b c⟩
 rintro⟨x,a,h⟩
 exact⟨x,a,congrArg (fun z:qQ=>z.1) h,congrArg (fun z:qQ=>z.2) h⟩
theorem qNu{N:Nat}{f:Sr}(g:rZ f)(c:3000000<N):aI (xC N f) N 0=some (if(iO (f.2.2.map nE)||f.2.2.any (fun d=>iO d.2.2.1))=true then .inr 10 else .inl ()):=by
 obtain⟨-,k,b⟩:=g
 have h:=oK (L:=f.2.2) (fun(_:List Dl) (i:Nat)=>(i:Int)) (f:=xC N f)
  (fun t d=>if(decide (nE d∈t.map nE)||iO d.2.2.1)=true then .inr (.inr 10) else .inl (t++[d])) (fun _=>(.inl ():Unit⊕Int)) (fun i t=>t=f.2.2.take i) (by
   rintro t i hi rfl
   have e:=b _ (jR hi)
   simp only[xC]
   rw[if_pos (by simp only[jA];omega),dX hi]
   have ew:IntKind.wrap .i64 ((i:Int)+1)=((i+1:Nat):Int):=by rw[bQ (by omega) (by omega)];omega
   simp only[j0]
   rw[vO (by omega) (by omega) (by omega)]
   simp only[j0,jO,gX,jT,ew]
   rw[ZB (by show(f.2.2.take i).length<_;rw[kG];omega) (by show(f.2.2.take i).length<_;rw[kG];omega)]
   simp only[j0]
   rw[show((((⟨#[]⟩:BA),([]:List BA),f.2.2.take i):Sr).2.2.any fun x=>x.1==f.2.2[i].1&&decide (x.2.1=f.2.2[i].2.1))=_ from qGc (f.2.2.take i) f.2.2[i],qNy e c]
   cases decide (nE f.2.2[i]∈(f.2.2.take i).map nE)<;>cases iO f.2.2[i].2.2.1<;>rfl) (by
   rintro t i hi t' rfl a
   split at a
   .cases a
   .obtain rfl:=(Sum.inl.inj a).symm
    rw[BZ hi]) (by
   intro t _
   simp only[xC]
   rw[if_neg (by simp)]) (M:=N) (t:=[]) (by omega) (by simp)
 rw[show((0:Nat):Int)=0 from rfl] at h
 rw[h]
 congr 1
 have key:∀(l t:List Dl),run (fun t d=>if(decide (nE d∈t.map nE)||iO d.2.2.1)=true then(.inr (.inr 10):List Dl⊕(Unit⊕Int)) else .inl (t++[d])) (fun _=>(.inl ():Unit⊕Int)) l t=if(pQ (t.map nE) (l.map nE)||l.any (fun d=>iO d.2.2.1))=true then .inr 10 else .inl ():=by
  intro l
  induction l with
  |nil=>intro t;rfl
  |cons d l a=>
   intro t
   simp only[run,jZ,pQ,fZ]
   by_cases e1:nE d∈t.map nE
   .simp[e1]
   rw[jQ e1]
   cases e2:iO d.2.2.1 with
   |true=>simp
   |false=>
    simp only[Bool.or_self,jB,jF,kW]
    rw[a,fT,List.map_singleton]
 exact key _ _
theorem qOl{N:Nat}{f:Sr}(n:rZ f)(o:f.2.2.all mN=true)(l:3000000<N):aI (xD N f) N 0=some (if f.2.2.any rD=true then .inr 2 else .inl ()):=by
 obtain⟨-,s,k⟩:=n
 have h:=oK (L:=f.2.2) (fun(_:Unit) (i:Nat)=>(i:Int)) (f:=xD N f)
  (fun _ d=>if rD d=true then .inr (.inr 2) else .inl ()) (fun _=>(.inl ():Unit⊕Int)) (fun _ _=>True) (by
   intro t i hi _
   obtain⟨p,q,e⟩:=k _ (jR hi)
   have c:=(XB (jW.1 o _ (jR hi))).tree
   simp only[xD]
   rw[if_pos (by simp only[jA];omega),dX hi]
   generalize f.2.2[i]=d at p q e c
   have ew:IntKind.wrap .i64 ((i:Int)+1)=((i+1:Nat):Int):=by rw[bQ (by omega) (by omega)];omega
   have g:decide ((d.2.2.1.length:Int)>8)=decide (8<d.2.2.1.length):=by congr 1;rw[eq_iff_iff];omega
   have a:decide ((d.2.2.2.length:Int)>256)=decide (256<d.2.2.2.length):=by congr 1;rw[eq_iff_iff];omega
   simp only[j0,g,a,ew]
   unfold rD
   cases c8:decide (8<d.2.2.1.length) with
   |true=>rfl
   |false=>
    simp only[jB,jF,kW]
    cases c256:decide (256<d.2.2.2.length) with
    |true=>rfl
    |false=>
     have u:=of_decide_eq_false c256
     obtain⟨v,v1,r⟩:=qLd c (by omega) e l
     simp only[jB,jF,kW,v1,j0,r]
     cases rV d.2.2.2<;>rfl) (fun _ _ _ _ _ _=>trivial) (by
   intro t _
   simp only[xD]
   rw[if_neg (by simp)]) (M:=N) (t:=()) (by omega) trivial
 rw[show((0:Nat):Int)=0 from rfl] at h
 rw[h,sN (b:=(.inr 2:Unit⊕Int)) rD (fun x=>rfl)]
theorem VR{N:Nat}{f:Sr}(b:rZ f)(a:3000000<N):xR N f=some (oL f):=by
 unfold xR oL sT
 rw[GI (by omega),qNj b a,qNv b a,qOi b a,qNu b a]
 simp only[j0]
 cases dZ f.1 with
 |false=>rfl
 |true=>
  rw[if_neg (by decide),gC]
  cases f.2.1.all dZ with
  |false=>rfl
  |true=>
   rw[if_pos rfl,gC]
   simp only
   cases hs:f.2.2.all mN with
   |false=>rfl
   |true=>
    rw[if_pos rfl,if_pos rfl,qOl b hs a]
    simp only
    unfold uH uN
    have e:decide ((f.2.1.length:Int)>8)=decide (8<f.2.1.length):=by congr 1;rw[eq_iff_iff];omega
    have c:decide ((f.2.2.length:Int)>64)=decide (64<f.2.2.length):=by congr 1;rw[eq_iff_iff];omega
    rw[e,c]
    cases decide (f.1∈f.2.1)<;>cases iO f.2.1<;>cases iO (f.2.2.map nE)<;>cases f.2.2.any (fun d=>iO d.2.2.1)<;>(try rfl)
    cases decide (8<f.2.1.length)<;>cases decide (64<f.2.2.length)<;>cases f.2.2.any rD<;>rfl
theorem LG{N:Nat}:∀(D k n:Nat),n<10^(k+1)->n<10000000000000000->k<D->EJ N D (n:Int)=some (nK (n:Int))
 |0,_,_,_,_,h=>absurd h (kQ _)
 |D+1,k,n,h,e,d=>by
  show EO N (EJ N D) (n:Int)=_
  unfold EO
  by_cases h10:n<10
  .have c:ByteArray.size (⟨#[48,49,50,51,52,53,54,55,56,57]⟩:BA)=10:=rfl
   rw[if_pos (by simp only[jA];omega),HM (by omega) (by omega),FV (by omega) (by omega) (by omega)]
   simp only[j0,jO]
   rw[show((n:Int)+1).toNat=n+1 by omega]
   congr 1
   refine oX ?_
   rw[tZ,Lib.decDigits_one h10]
   exact qKl ⟨n,h10⟩
  rw[if_neg (by simp only[jA];omega)]
  obtain⟨k,rfl⟩:∃k',k=k'+1:=by
   cases k with
   |zero=>simp at h;omega
   |succ k=>exact⟨k,rfl⟩
  rw[Nat.pow_succ] at h
  have a:IntKind.wrap .u64 (Int.tdiv (n:Int) 10)=((n/10:Nat):Int):=by
   rw[show(10:Int)=((10:Nat):Int) from rfl,<-Int.ofNat_tdiv,HM (by omega) (by omega)]
  have b:Int.tmod (n:Int) 10=((n%10:Nat):Int):=by
   rw[show(10:Int)=((10:Nat):Int) from rfl,<-Int.ofNat_tmod]
  rw[a,b,LG D k (n/10) (by omega) (by omega) (by omega),LG D 0 (n%10) (by omega) (by omega) (by omega)]
  simp only[j0]
  have f:=CM 15 (n/10) (by omega)
  have g:=CM 15 (n%10) (by omega)
  have l:(nK ((n/10:Nat):Int)).size=(Lib.decDigits (n/10)).length:=by rw[<-tZ,eD]
  have o:(nK ((n%10:Nat):Int)).size=(Lib.decDigits (n%10)).length:=by rw[<-tZ,eD]
  rw[cR (by omega)]
  simp only[j0]
  congr 1
  refine oX ?_
  rw[nP,tZ,tZ,tZ,XD h10,Lib.decDigits_one (show n%10<10 by omega)]
theorem VK{N:Nat}{n:Int}(a: -9007199254740992<=n)(b:n<=9007199254740992)(c:100<N):xN N n=some (nK n):=by
 unfold xN JD
 by_cases h:n<0
 .rw[if_pos (by simpa using h),bQ (show-9223372036854775808<=n+1 by omega) (by omega),bQ (by omega) (by omega),HM (show 0<=0-(n+1) by omega) (by omega),HM (by omega) (by omega)]
  obtain⟨m,rfl⟩:∃m:Nat,n= -(m:Int):=⟨n.natAbs,by omega⟩
  rw[show(0-(-(m:Int)+1)+1)=(m:Int) by omega,LG N 15 m (by omega) (by omega) (by omega)]
  have d:=CM 15 m (by omega)
  have e:(nK (m:Int)).size=(Lib.decDigits m).length:=by rw[<-tZ,eD]
  have z:(⟨#[45]⟩:BA).size=1:=rfl
  simp only[j0]
  rw[cR (by omega)]
  simp only[j0]
  congr 1
  refine oX ?_
  rw[nP,tZ]
  show[45]++Lib.decDigits m=Lib.itoa (-(m:Int))
  unfold Lib.itoa
  rw[if_pos (by omega),show(-(m:Int)).natAbs=m by omega]
  rfl
 rw[if_neg (by simpa using h),HM (by omega) (by omega)]
 obtain⟨m,rfl⟩:∃m:Nat,n=(m:Int):=⟨n.toNat,by omega⟩
 rw[LG N 15 m (by omega) (by omega) (by omega)]
 rfl
theorem UN{N:Nat}(x:Ex):tK N x=some (eO (x.1,x.2.1,x.2.2.1,x.2.2.2.1)):=by
 unfold tK eO
 by_cases h5:x.1=5
 .simp[h5]
 by_cases h4:x.1=4
 .by_cases o1:x.2.2.1=1
  .simp[h4,o1]
  by_cases o2:x.2.2.1=2
  .simp[h4,o2]
  by_cases o6:x.2.2.1=6
  .simp[h4,o6]
  by_cases o7:x.2.2.1=7
  .simp[h4,o7]
  simp[h4,o6,o7,o1,o2]
 simp[h5,h4]
theorem uB{N:Nat}{h:Hd}{args:List Int}{need:Int}{B:List UInt8}(e:B.length<=100000):(Option.bind (some (cN B)) fun a=>(tK N (eM h args)).bind fun d=>if(decide (d<need))=true then((bH (⟨#[40]⟩:BA) a).bind fun b=>(bH b (⟨#[41]⟩:BA)).bind fun c=>some c) else(some a))=some (cN (if eO h<need then 40::(B++[41]) else B)):=by
 have f:(⟨#[40]⟩:BA).size=1:=rfl
 have g:(⟨#[41]⟩:BA).size=1:=rfl
 rw[show tK N (eM h args)=some (eO h) from UN _]
 simp only[j0]
 by_cases h:eO h<need
 .rw[if_pos (by simpa using h),if_pos h,cR (by rw[iW];omega)]
  simp only[j0]
  rw[cR (by rw[ByteArray.size_append,iW];omega)]
  rfl
 rw[if_neg (by simpa using h),if_neg h]
theorem qJk{op:Int}(a:1<=op)(b:op<=7):idx ([(⟨#[]⟩:BA),(⟨#[43]⟩:BA),(⟨#[45]⟩:BA),(⟨#[42]⟩:BA),(⟨#[47]⟩:BA),(⟨#[37]⟩:BA),(⟨#[60]⟩:BA),(⟨#[61,61]⟩:BA)]) op=some (zD op):=by
 rcases(by omega:op=1\/op=2\/op=3\/op=4\/op=5\/op=6\/op=7) with rfl|rfl|rfl|rfl|rfl|rfl|rfl<;>rfl
section
variable {N:Nat} {l:List Ex} {ps:List BA}
def ZR(N:Nat)(l:List Ex)(ps:List BA)(t:Rose):Prop:=∀(b D:Nat) (need:Int),AtT l b t->t.size<=300->t.size<=D->0<=need->xI N D l ((b+t.size-1:Nat):Int) ps need=some (cN (t.wr ps need))/\(t.wr ps need).length+2<=110*t.size
theorem nd0{h:Hd}(a:h.1≠4)(k:Nat):eU h k=0:=by unfold eU;rw[if_neg a]
theorem ZK{D:Nat}{h:Hd}{x:Ex}(y:3000000<N)(p:h.1≠4)(G:x.2.2.2.2.length<2000000):∀(ks:List Rose) (k b M:Nat) (s:List UInt8),(∀t∈ks,ZR N l ps t/\t.size<=300/\t.size<=D)->x.2.2.2.2.drop k=bY b ks->k<=x.2.2.2.2.length->AtTs l b ks->s.length+110*aY ks<=100000->ks.length<M->
  aI (AD N (xI N D) l ps x) M (cN s,(k:Int))=some (cN (s++lH k (eG ps h k ks)))
 |_,_,_,0,_,_,_,_,_,_,e=>absurd e (kQ _)
 |[],k,b,M+1,s,_,a,A,_,_,_=>by
  have U:k=x.2.2.2.2.length:=by
   have:=congrArg List.length a
   rw[kY] at this
   simp only[bY,jE] at this
   omega
  simp only[aI,AD]
  rw[if_neg (by simp only[jA];omega)]
  simp only[j0,eG,lH,gZ]
 |t::ks,k,b,M+1,s,d,a,A,q,E,e=>by
  have B:=t.pos
  simp only[aY] at E
  have c:k<x.2.2.2.2.length:=by
   by_cases hh:k<x.2.2.2.2.length
   .exact hh
   rw[jM (by omega)] at a;cases a
  rw[tU c] at a
  obtain⟨r,v⟩:=List.cons.inj a
  obtain⟨n,o⟩:=q.head
  obtain⟨t1,t2,K⟩:=d t (jS ..)
  obtain⟨R,V⟩:=t1 b D 0 n t2 K (fE 0)
  have ew:IntKind.wrap .i64 ((k:Int)+1)=((k+1:Nat):Int):=by rw[bQ (by omega) (by omega)];omega
  have z:(⟨#[44,32]⟩:BA).size=2:=rfl
  simp only[aI,AD]
  rw[if_pos (by simp only[jA];omega),dX c,r]
  have g:(if(decide ((k:Int)>0))=true then((bH (cN s) (⟨#[44,32]⟩:BA)).bind fun H=>some H) else(some (cN s)):Option BA)=some (cN (s++lJ k)):=by
   unfold lJ
   by_cases h0:k=0
   .subst h0
    rw[if_neg (by decide),if_pos rfl,gZ]
   rw[if_pos (by simp only[jA];omega),if_neg h0,cR (by rw[iW];omega)]
   rfl
  have S:(s++lJ k).length<=s.length+2:=by
   unfold lJ
   split<;>simp
  simp only[j0,g,R]
  rw[cR (by rw[iW,iW];omega)]
  simp only[j0,ew]
  have f:cN (s++lJ k)++cN (t.wr ps 0)=cN ((s++lJ k)++t.wr ps 0):=by
   refine oX ?_
   rw[nP,oR,oR,oR]
  rw[f,ZK y p G ks (k+1) (b+t.size) M _ (fun u F=>d u (jX _ F)) v (by omega) o (by rw[jC];omega) (by simp only[jD] at e;omega)]
  simp only[eG,lH,nd0 p,jL]
theorem qLs(hN:3000000<N)(a3:∀s∈ps,s.size<=24)(hl:∀x∈l,iJ (ps.length:Int) x=true){t:Rose}(hf:Fine ps.length t):ZR N l ps t:=by
 have F:∀(t:Rose) (b:Nat) (need:Int),AtT l b t->(t.wr ps need).length+2<=110*t.size:=fun t b need f=>by
  obtain⟨p,q,rfl,-⟩:=f
  exact KW a3 t b need fun x g=>hl x (jY _ (kM _ g))
 -- a node, from what its body is
 have node:∀(h:Hd) (ks:List Rose) (b D:Nat) (need:Int),AtT l b (.mk h ks)->(Rose.mk h ks).size<=300->(∀D',D=D'+1->(eL ps h (eG ps h 0 ks)).length<=100000->qA N (xI N D') l ((b+aY ks:Nat):Int) ps need=some (cN (if eO h<need then 40::(eL ps h (eG ps h 0 ks)++[41]) else eL ps h (eG ps h 0 ks))))->(Rose.mk h ks).size<=D->
   xI N D l ((b+(Rose.mk h ks).size-1:Nat):Int) ps need=some (cN ((Rose.mk h ks).wr ps need))/\((Rose.mk h ks).wr ps need).length+2<=110*(Rose.mk h ks).size:=by
  intro h ks b D need f g y r
  have v:=F _ b need f
  refine⟨?_,v⟩
  simp only[Rose.size] at g r v ⊢
  obtain⟨D,rfl⟩:∃D',D=D'+1:=⟨D-1,by omega⟩
  have E:(eL ps h (eG ps h 0 ks)).length<=100000:=by
   have o:=F _ b 0 f
   simp only[Rose.wr,Rose.size] at o
   split at o
   .simp only[jD,jC] at o;omega
   omega
  rw[show b+(aY ks+1)-1=b+aY ks by omega]
  simp only[Rose.wr]
  exact y D rfl E
 have sub:∀{t:Rose} {ks:List Rose},t∈ks->t.size<=aY ks:=by
  intro t ks v
  induction ks with
  |nil=>cases v
  |cons u l Z=>
   simp only[aY]
   rcases jV.1 v with rfl|v
   .omega
   have:=Z v;omega
 have z0:(⟨#[32]⟩:BA).size=1:=rfl
 have z1:(⟨#[40]⟩:BA).size=1:=rfl
 have z2:(⟨#[41]⟩:BA).size=1:=rfl
 have z3:(⟨#[105,102,32]⟩:BA).size=3:=rfl
 have z4:(⟨#[32,116,104,101,110,32]⟩:BA).size=6:=rfl
 have z5:(⟨#[32,101,108,115,101,32]⟩:BA).size=6:=rfl
 have z6:(⟨#[114,101,97,100,40,34]⟩:BA).size=6:=rfl
 have z7:(⟨#[34,44,32]⟩:BA).size=3:=rfl
 have z8:(⟨#[115,105,122,101,40,34]⟩:BA).size=6:=rfl
 have z9:(⟨#[104,97,115,40,34]⟩:BA).size=5:=rfl
 have za:(⟨#[101,110,118,40,34]⟩:BA).size=5:=rfl
 have zb:(⟨#[34,41]⟩:BA).size=2:=rfl
 have zc:(⟨#[102,108,105,112,40]⟩:BA).size=5:=rfl
 induction hf with
 |num n R S=>
  intro b D need f g r B
  refine node _ _ b D need f g (fun D' _ o=> ?_) r
  unfold qA
  rw[mD f.args.1]
  simp only[j0]
  refine Eq.trans (congrArg (fun z=>Option.bind z _) (?_:_=some (cN _))) (uB o)
  refine Eq.trans (if_pos rfl) ?_
  show(xN N n).bind _=_
  rw[VK R S (by omega)]
  rfl
 |par i h=>
  intro b D need f g r B
  refine node _ _ b D need f g (fun D' _ o=> ?_) r
  unfold qA
  rw[mD f.args.1]
  simp only[j0]
  refine Eq.trans (congrArg (fun z=>Option.bind z _) (?_:_=some (cN _))) (uB o)
  refine Eq.trans (if_neg (by show ¬((2:Int)==1)=true;decide)) ?_
  refine Eq.trans (if_pos rfl) ?_
  show(idx ps (i:Int)).bind _=_
  have e:ps.getD i ⟨#[]⟩=ps[i]:=by rw[kO,List.getElem?_eq_getElem h];rfl
  rw[dX h]
  show some ps[i]=some (cN (ps.getD (Int.toNat (i:Int)) ⟨#[]⟩).data.toList)
  rw[jO,e]
  rfl
 |call s ks h hk Z=>
  intro b D need f g r B
  refine node _ _ b D need f g (fun D' hD' o=> ?_) r
  subst hD'
  simp only[Rose.size] at g r
  have V:=nA h
  unfold qA
  rw[mD f.args.1]
  simp only[j0]
  refine Eq.trans (congrArg (fun z=>Option.bind z _) (?_:_=some (cN _))) (uB o)
  have G:=JR ks
  refine Eq.trans (if_neg (by show ¬((3:Int)==1)=true;decide)) ?_
  refine Eq.trans (if_neg (by show ¬((3:Int)==2)=true;decide)) ?_
  refine Eq.trans (if_pos rfl) ?_
  show(bH s (⟨#[40]⟩:BA)).bind _=_
  rw[cR (by omega)]
  simp only[j0]
  have A:=ZK (D:=D') (h:=(3,0,0,s)) (x:=eM (3,0,0,s) (bY b ks)) hN (by show(3:Int)≠4;decide) (by show(bY b ks).length<_;rw[oS];omega) ks 0 b N (s++(⟨#[40]⟩:BA)).data.toList (fun t v=>⟨Z t v,by have:=sub v;omega,by have:=sub v;omega⟩) (by rw[jT];rfl) (kK _) f.args.2 (by rw[eD,ByteArray.size_append];omega) (by omega)
  rw[show cN (s++(⟨#[40]⟩:BA)).data.toList=s++(⟨#[40]⟩:BA) from oX (oR _),show((0:Nat):Int)=0 from rfl] at A
  rw[A]
  simp only[j0]
  have y:=F _ b 0 f
  simp only[Rose.wr,Rose.size] at y
  rw[if_neg (by show ¬(4:Int)<0;decide)] at y
  have E:eL ps (3,0,0,s) (eG ps (3,0,0,s) 0 ks)=(s++(⟨#[40]⟩:BA)).data.toList++(lH 0 (eG ps (3,0,0,s) 0 ks)++[41]):=rfl
  rw[E] at y ⊢
  simp only[jC,jD,jE] at y
  rw[cR (by rw[iW];simp only[jC];omega)]
  simp only[j0]
  congr 1
  refine oX ?_
  rw[nP,oR,oR,jL]
 |bin op a c R S ha hc E M=>
  intro b D need f g r B
  refine node _ _ b D need f g (fun D' hD' o=> ?_) r
  subst hD'
  obtain⟨v,y⟩:=f.args
  obtain⟨A,atr⟩:=y.head
  obtain⟨G,-⟩:=atr.head
  simp only[Rose.size,aY] at g r
  have U:=a.pos
  have a2:=c.pos
  obtain⟨e,-,l3⟩:(eO (4,0,op,emB)=1\/eO (4,0,op,emB)=2\/eO (4,0,op,emB)=3)/\True/\True:=by
   rcases(by omega:op=1\/op=2\/op=3\/op=4\/op=5\/op=6\/op=7) with rfl|rfl|rfl|rfl|rfl|rfl|rfl<;>decide
  have n0:eU (4,0,op,emB) 0=if eO (4,0,op,emB)=1 then 2 else eO (4,0,op,emB):=by unfold eU;rw[if_pos rfl,if_pos rfl]
  have n1:eU (4,0,op,emB) 1=eO (4,0,op,emB)+1:=by unfold eU;rw[if_pos rfl,if_neg (by decide)]
  obtain⟨wa,la⟩:=E b D' (eU (4,0,op,emB) 0) A (by omega) (by omega) (by rw[n0];split<;>omega)
  obtain⟨wc,lc⟩:=M (b+a.size) D' (eU (4,0,op,emB) 1) G (by omega) (by omega) (by rw[n1];omega)
  have a1:=VP R S
  unfold qA
  rw[mD v]
  simp only[j0]
  refine Eq.trans (congrArg (fun z=>Option.bind z _) (?_:_=some (cN _))) (uB o)
  refine Eq.trans (if_neg (by show ¬((4:Int)==1)=true;decide)) ?_
  refine Eq.trans (if_neg (by show ¬((4:Int)==2)=true;decide)) ?_
  refine Eq.trans (if_neg (by show ¬((4:Int)==3)=true;decide)) ?_
  refine Eq.trans (if_pos rfl) ?_
  rw[show tK N (eM (4,0,op,emB) (bY b [a,c]))=some (eO (4,0,op,emB)) from UN _]
  simp only[j0]
  have H:(if(eO (4,0,op,emB)==1)=true then some 2 else some (eO (4,0,op,emB)):Option Int)=some (eU (4,0,op,emB) 0):=by
   rw[n0]
   by_cases e:eO (4,0,op,emB)=1
   .rw[if_pos (by simpa using e),if_pos e]
   rw[if_neg (by simpa using e),if_neg e]
  have K:idx (eM (4,0,op,emB) (bY b [a,c])).2.2.2.2 0=some ((b+a.size-1:Nat):Int):=rfl
  have Y:idx (eM (4,0,op,emB) (bY b [a,c])).2.2.2.2 1=some ((b+a.size+c.size-1:Nat):Int):=rfl
  have ew:IntKind.wrap .i64 (eO (4,0,op,emB)+1)=eU (4,0,op,emB) 1:=by rw[n1,bQ (by omega) (by omega)]
  rw[H,K,Y]
  simp only[j0,wa,ew,wc]
  rw[cR (by rw[iW];omega)]
  simp only[j0]
  rw[show(eM (4,0,op,emB) (bY b [a,c])).2.2.1=op from rfl,qJk R S]
  simp only[j0]
  rw[cR (by rw[ByteArray.size_append,iW];omega)]
  simp only[j0]
  rw[cR (by simp only[ByteArray.size_append,iW];omega)]
  simp only[j0]
  rw[cR (by simp only[ByteArray.size_append,iW];omega)]
  simp only[j0]
  congr 1
  refine oX ?_
  show _=a.wr ps (eU (4,0,op,emB) 0)++((((⟨#[32]⟩:BA)++zD op)++(⟨#[32]⟩:BA)).data.toList++c.wr ps (eU (4,0,op,emB) 1))
  simp only[nP,oR,jL]
 |ite a c d ha hc hd E M a4=>
  intro b D need f g r B
  refine node _ _ b D need f g (fun D' hD' o=> ?_) r
  subst hD'
  obtain⟨v,y⟩:=f.args
  obtain⟨A,atr⟩:=y.head
  obtain⟨G,atr⟩:=atr.head
  obtain⟨a1,-⟩:=atr.head
  simp only[Rose.size,aY] at g r
  have U:=a.pos
  have a2:=c.pos
  have a5:=d.pos
  have H:∀k,eU (5,0,0,emB) k=0:=nd0 (by show(5:Int)≠4;decide)
  obtain⟨wa,la⟩:=E b D' 0 A (by omega) (by omega) (fE 0)
  obtain⟨wc,lc⟩:=M (b+a.size) D' 0 G (by omega) (by omega) (fE 0)
  obtain⟨wd,ld⟩:=a4 (b+a.size+c.size) D' 0 a1 (by omega) (by omega) (fE 0)
  unfold qA
  rw[mD v]
  simp only[j0]
  refine Eq.trans (congrArg (fun z=>Option.bind z _) (?_:_=some (cN _))) (uB o)
  refine Eq.trans (if_neg (by show ¬((5:Int)==1)=true;decide)) ?_
  refine Eq.trans (if_neg (by show ¬((5:Int)==2)=true;decide)) ?_
  refine Eq.trans (if_neg (by show ¬((5:Int)==3)=true;decide)) ?_
  refine Eq.trans (if_neg (by show ¬((5:Int)==4)=true;decide)) ?_
  refine Eq.trans (if_pos rfl) ?_
  have K:idx (eM (5,0,0,emB) (bY b [a,c,d])).2.2.2.2 0=some ((b+a.size-1:Nat):Int):=rfl
  have Y:idx (eM (5,0,0,emB) (bY b [a,c,d])).2.2.2.2 1=some ((b+a.size+c.size-1:Nat):Int):=rfl
  have i2:idx (eM (5,0,0,emB) (bY b [a,c,d])).2.2.2.2 2=some ((b+a.size+c.size+d.size-1:Nat):Int):=rfl
  rw[K,Y,i2]
  simp only[j0,wa]
  rw[cR (by rw[iW];omega)]
  simp only[j0]
  rw[cR (by simp only[ByteArray.size_append,iW];omega)]
  simp only[j0,wc]
  rw[cR (by simp only[ByteArray.size_append,iW];omega)]
  simp only[j0]
  rw[cR (by simp only[ByteArray.size_append,iW];omega)]
  simp only[j0,wd]
  rw[cR (by simp only[ByteArray.size_append,iW];omega)]
  simp only[j0]
  congr 1
  refine oX ?_
  show _=tI++(a.wr ps (eU (5,0,0,emB) 0)++(tThen++(c.wr ps (eU (5,0,0,emB) 1)++(tElse++d.wr ps (eU (5,0,0,emB) 2)))))
  simp only[nP,oR,jL,H]
  rfl
 |read s a h ha E=>
  intro b D need f g r B
  refine node _ _ b D need f g (fun D' hD' o=> ?_) r
  subst hD'
  obtain⟨v,y⟩:=f.args
  obtain⟨A,-⟩:=y.head
  simp only[Rose.size,aY] at g r
  have U:=a.pos
  have V:=yO h
  have H:∀k,eU (6,0,0,s) k=0:=nd0 (by show(6:Int)≠4;decide)
  obtain⟨wa,la⟩:=E b D' 0 A (by omega) (by omega) (fE 0)
  unfold qA
  rw[mD v]
  simp only[j0]
  refine Eq.trans (congrArg (fun z=>Option.bind z _) (?_:_=some (cN _))) (uB o)
  refine Eq.trans (if_neg (by show ¬((6:Int)==1)=true;decide)) ?_
  refine Eq.trans (if_neg (by show ¬((6:Int)==2)=true;decide)) ?_
  refine Eq.trans (if_neg (by show ¬((6:Int)==3)=true;decide)) ?_
  refine Eq.trans (if_neg (by show ¬((6:Int)==4)=true;decide)) ?_
  refine Eq.trans (if_neg (by show ¬((6:Int)==5)=true;decide)) ?_
  refine Eq.trans (if_pos rfl) ?_
  have K:idx (eM (6,0,0,s) (bY b [a])).2.2.2.2 0=some ((b+a.size-1:Nat):Int):=rfl
  rw[show(eM (6,0,0,s) (bY b [a])).2.2.2.1=s from rfl,K,cR (by omega)]
  simp only[j0]
  rw[cR (by rw[ByteArray.size_append];omega)]
  simp only[j0,wa]
  rw[cR (by simp only[ByteArray.size_append,iW];omega)]
  simp only[j0]
  rw[cR (by simp only[ByteArray.size_append,iW];omega)]
  simp only[j0]
  congr 1
  refine oX ?_
  show _=(((⟨#[114,101,97,100,40,34]⟩:BA)++s)++(⟨#[34,44,32]⟩:BA)).data.toList++(a.wr ps (eU (6,0,0,s) 0)++[41])
  simp only[nP,oR,jL,H]
 |look k s hk h=>
  intro b D need f g r B
  refine node _ _ b D need f g (fun D' _ o=> ?_) r
  have V:=yO h
  unfold qA
  rw[mD f.args.1]
  simp only[j0]
  refine Eq.trans (congrArg (fun z=>Option.bind z _) (?_:_=some (cN _))) (uB o)
  rcases hk with rfl|rfl
  .refine Eq.trans (if_neg (by show ¬((7:Int)==1)=true;decide)) ?_
   refine Eq.trans (if_neg (by show ¬((7:Int)==2)=true;decide)) ?_
   refine Eq.trans (if_neg (by show ¬((7:Int)==3)=true;decide)) ?_
   refine Eq.trans (if_neg (by show ¬((7:Int)==4)=true;decide)) ?_
   refine Eq.trans (if_neg (by show ¬((7:Int)==5)=true;decide)) ?_
   refine Eq.trans (if_neg (by show ¬((7:Int)==6)=true;decide)) ?_
   refine Eq.trans (if_pos rfl) ?_
   rw[show(eM (7,0,0,s) (bY b [])).2.2.2.1=s from rfl,cR (by omega)]
   simp only[j0]
   rw[cR (by rw[ByteArray.size_append];omega)]
   simp only[j0]
   congr 1
  refine Eq.trans (if_neg (by show ¬((8:Int)==1)=true;decide)) ?_
  refine Eq.trans (if_neg (by show ¬((8:Int)==2)=true;decide)) ?_
  refine Eq.trans (if_neg (by show ¬((8:Int)==3)=true;decide)) ?_
  refine Eq.trans (if_neg (by show ¬((8:Int)==4)=true;decide)) ?_
  refine Eq.trans (if_neg (by show ¬((8:Int)==5)=true;decide)) ?_
  refine Eq.trans (if_neg (by show ¬((8:Int)==6)=true;decide)) ?_
  refine Eq.trans (if_neg (by show ¬((8:Int)==7)=true;decide)) ?_
  refine Eq.trans (if_pos rfl) ?_
  rw[show(eM (8,0,0,s) (bY b [])).2.2.2.1=s from rfl,cR (by omega)]
  simp only[j0]
  rw[cR (by rw[ByteArray.size_append];omega)]
  simp only[j0]
  congr 1
 |env s h=>
  intro b D need f g r B
  refine node _ _ b D need f g (fun D' _ o=> ?_) r
  have V:=KA h
  unfold qA
  rw[mD f.args.1]
  simp only[j0]
  refine Eq.trans (congrArg (fun z=>Option.bind z _) (?_:_=some (cN _))) (uB o)
  refine Eq.trans (if_neg (by show ¬((9:Int)==1)=true;decide)) ?_
  refine Eq.trans (if_neg (by show ¬((9:Int)==2)=true;decide)) ?_
  refine Eq.trans (if_neg (by show ¬((9:Int)==3)=true;decide)) ?_
  refine Eq.trans (if_neg (by show ¬((9:Int)==4)=true;decide)) ?_
  refine Eq.trans (if_neg (by show ¬((9:Int)==5)=true;decide)) ?_
  refine Eq.trans (if_neg (by show ¬((9:Int)==6)=true;decide)) ?_
  refine Eq.trans (if_neg (by show ¬((9:Int)==7)=true;decide)) ?_
  refine Eq.trans (if_neg (by show ¬((9:Int)==8)=true;decide)) ?_
  refine Eq.trans (if_pos rfl) ?_
  rw[show(eM (9,0,0,s) (bY b [])).2.2.2.1=s from rfl,cR (by omega)]
  simp only[j0]
  rw[cR (by rw[ByteArray.size_append];omega)]
  simp only[j0]
  congr 1
 |flip n h=>
  intro b D need f g r B
  refine node _ _ b D need f g (fun D' _ o=> ?_) r
  unfold qA
  rw[mD f.args.1]
  simp only[j0]
  refine Eq.trans (congrArg (fun z=>Option.bind z _) (?_:_=some (cN _))) (uB o)
  have hi:=PP (n:=(n:Int)) (by omega) (by omega)
  refine Eq.trans (if_neg (by show ¬((10:Int)==1)=true;decide)) ?_
  refine Eq.trans (if_neg (by show ¬((10:Int)==2)=true;decide)) ?_
  refine Eq.trans (if_neg (by show ¬((10:Int)==3)=true;decide)) ?_
  refine Eq.trans (if_neg (by show ¬((10:Int)==4)=true;decide)) ?_
  refine Eq.trans (if_neg (by show ¬((10:Int)==5)=true;decide)) ?_
  refine Eq.trans (if_neg (by show ¬((10:Int)==6)=true;decide)) ?_
  refine Eq.trans (if_neg (by show ¬((10:Int)==7)=true;decide)) ?_
  refine Eq.trans (if_neg (by show ¬((10:Int)==8)=true;decide)) ?_
  refine Eq.trans (if_neg (by show ¬((10:Int)==9)=true;decide)) ?_
  refine Eq.trans (if_pos rfl) ?_
  rw[show(eM (10,(n:Int),0,emB) (bY b [])).2.1=(n:Int) from rfl,VK (by omega) (by omega) (by omega)]
  simp only[j0]
  rw[cR (by omega)]
  simp only[j0]
  rw[cR (by rw[ByteArray.size_append];omega)]
  simp only[j0]
  congr 1
end
theorem qHl{N:Nat}{d:Dl}(h:OkD d)(f:3000000<N):JE N d.2.2.2 (IntKind.wrap .i64 ((d.2.2.2.length:Int)-1)) d.2.2.1 0=some (cN (nV d)):=by
 obtain⟨t,c,a,e⟩:=h.tree
 have n:t.size=d.2.2.2.length:=by
  have:=lS t 0
  rw[<-a] at this;exact this.symm
 have p:=t.pos
 have o:=h.body
 have b:AtT d.2.2.2 0 t:=by
  have:=AtT.whole t
  rw[<-a] at this;exact this
 have l:nV d=t.wr d.2.2.1 0:=by unfold nV;rw[c]
 have g:=(qLs f (fun s k=>nA (h.names s k)) h.good.nodes e 0 N 0 b (by omega) (by omega) (fE 0)).1
 unfold JE
 rw[bQ (by omega) (by omega),l,show(d.2.2.2.length:Int)-1=((0+t.size-1:Nat):Int) by omega]
 exact g
theorem KQ(a b:List UInt8):cN a++cN b=cN (a++b):=oX (by rw[nP,oR,oR,oR])
theorem GZ(s:BA):cN s.data.toList=s:=oX (oR _)
theorem YI{d:Dl}(a:GoodD d)(n:d.2.2.2.length<=256):(nV d).length<=30000:=by
 obtain⟨t,c,b⟩:=GL a.tree
 have k:t.size=d.2.2.2.length:=by
  have:=lS t 0
  rw[<-b] at this;exact this.symm
 have f:∀x∈t.flat 0,iJ (d.2.2.1.length:Int) x=true:=fun x h=>a.nodes x (by rw[b];exact h)
 have l:=KW (ps:=d.2.2.1) (fun s e=>nA (a.pars s e).2) t 0 0 f
 have g:nV d=t.wr d.2.2.1 0:=by unfold nV;rw[c]
 rw[g];omega
theorem VQ{d:Dl}(h:OkD d):(sS d).length<=31000:=by
 have a:=OE h.good h.pars
 have b:=YI h.good h.body
 have c:(⟨#[32,61,32]⟩:BA).size=3:=rfl
 have e:(⟨#[59,10]⟩:BA).size=2:=rfl
 unfold sS
 simp only[jC,eD,ByteArray.size_append,iW];omega
theorem qIn{l:List BA}(h:∀s∈l,dZ s=true):(l.flatMap mS).length<=40*l.length:=by
 induction l with
 |nil=>exact kK _
 |cons s l b=>
  have c:=nA (h s (jS ..))
  have d:=b fun x a=>h x (jX _ a)
  have f:(⟨#[105,109,112,111,114,116,32]⟩:BA).size=7:=rfl
  have g:(⟨#[59,10]⟩:BA).size=2:=rfl
  have e:(mS s).length<=40:=by unfold mS;simp only[eD,ByteArray.size_append];omega
  simp only[kZ,jC,jD];omega
theorem XE{N:Nat}{f:Sr}(h:GoodS f)(n:3000000<N):AU N f=some (cN (rW f.1++f.2.1.flatMap mS))/\(rW f.1++f.2.1.flatMap mS).length<=600:=by
 have o:=h.impn
 have g:=nA h.pkg
 have p:(⟨#[112,97,99,107,97,103,101,32]⟩:BA).size=8:=rfl
 have q:(⟨#[59,10]⟩:BA).size=2:=rfl
 have r:(⟨#[105,109,112,111,114,116,32]⟩:BA).size=7:=rfl
 have k:(rW f.1).length<=100:=by unfold rW;simp only[eD,ByteArray.size_append];omega
 refine⟨?_,by have:=qIn h.imps;rw[jC];omega⟩
 have a:∀s∈f.2.1,(mS s).length<=40:=fun s e=>by
  have:=nA (h.imps s e)
  unfold mS
  simp only[eD,ByteArray.size_append];omega
 have d:=oK (L:=f.2.1) (fun(t:List UInt8) (i:Nat)=>(cN t,(i:Int))) (f:=AG N f)
  (fun t s=> .inl (t++mS s)) (fun t=>cN t) (fun i t=>t.length<=100+40*i) (by
   intro t i hi b
   have l:=nA (h.imps _ (jR hi))
   simp only[AG]
   rw[if_pos (by simp only[jA];omega),dX hi]
   have ew:IntKind.wrap .i64 ((i:Int)+1)=((i+1:Nat):Int):=by rw[bQ (by omega) (by omega)];omega
   simp only[j0]
   rw[cR (by omega)]
   simp only[j0]
   rw[cR (by rw[ByteArray.size_append];omega)]
   simp only[j0]
   rw[cR (by simp only[ByteArray.size_append,iW];omega)]
   simp only[j0,ew]
   rw[<-KQ,show cN (mS f.2.1[i])=_ from GZ _]) (by
   intro t i hi t' b c
   cases c
   have:=a _ (jR hi)
   simp only[jC];omega) (by
   intro t b
   simp only[AG]
   rw[if_neg (by simp)]) (M:=N) (t:=rW f.1) (by omega) (by omega)
 unfold AU
 rw[cR (by omega)]
 simp only[j0]
 rw[cR (by rw[ByteArray.size_append];omega)]
 simp only[j0]
 rw[show((⟨#[112,97,99,107,97,103,101,32]⟩:BA)++f.1)++(⟨#[59,10]⟩:BA)=cN (rW f.1) from(GZ _).symm,show(0:Int)=((0:Nat):Int) from rfl,d]
 simp only[j0]
 rw[OQ (fun t s=>t++mS s) (fun _ _=>rfl),NG]
theorem qNb{N:Nat}{d:Dl}(h:OkD d)(p:3000000<N){s:BA}(r:s.size<=200):aI (vD N d) N (s,0)=some (s++uL d.2.2.1):=by
 have q:=h.pars
 have c:=oK (L:=d.2.2.1) (fun(t:List UInt8×Nat) (i:Nat)=>(cN t.1,(i:Int))) (f:=vD N d)
  (fun t x=> .inl ((t.1++lJ t.2)++x.data.toList,t.2+1)) (fun t=>cN t.1) (fun i t=>t.2=i/\t.1.length<=200+40*i) (by
   rintro⟨t,k⟩ i hi ⟨rfl,a⟩
   simp only at a hi ⊢
   have g:=nA (h.names _ (jR hi))
   have z:(⟨#[44,32]⟩:BA).size=2:=rfl
   simp only[vD]
   rw[if_pos (by simp only[jA];omega),dX hi]
   have ew:IntKind.wrap .i64 ((k:Int)+1)=((k+1:Nat):Int):=by rw[bQ (by omega) (by omega)];omega
   have b:(if(decide ((k:Int)>0))=true then((bH (cN t) (⟨#[44,32]⟩:BA)).bind fun o=>some o) else(some (cN t)):Option BA)=some (cN (t++lJ k)):=by
    unfold lJ
    by_cases h0:k=0
    .subst h0
     rw[if_neg (by decide),if_pos rfl,gZ]
    rw[if_pos (by simp only[jA];omega),if_neg h0,cR (by rw[iW];omega)]
    rfl
   have e:(t++lJ k).length<=t.length+2:=by
    unfold lJ
    split<;>simp
   simp only[j0,b]
   rw[cR (by rw[iW];omega)]
   simp only[j0,ew]
   rw[<-KQ (t++lJ k),GZ]) (by
   rintro⟨t,k⟩ i hi t' ⟨rfl,a⟩ n
   obtain rfl:=(Sum.inl.inj n).symm
   have g:(d.2.2.1[k]).size<=24:=nA (h.names _ (jR hi))
   have e:(lJ k).length<=2:=by
    unfold lJ
    split<;>simp
   refine⟨rfl,?_⟩
   show((t++lJ k)++(d.2.2.1[k]).data.toList).length<=200+40*(k+1)
   simp only at a
   simp only[jC,eD]
   omega) (by
   rintro⟨t,k⟩ ⟨rfl,a⟩
   simp only[vD]
   rw[if_neg (by simp)]) (M:=N) (t:=(s.data.toList,0)) (by omega) ⟨rfl,by rw[eD];omega⟩
 rw[show cN (s.data.toList,0).1=s from GZ s,show((0:Nat):Int)=0 from rfl] at c
 rw[c]
 have key:∀(l:List BA) (t:List UInt8) (k:Nat),run (fun(t:List UInt8×Nat) (x:BA)=>(.inl ((t.1++lJ t.2)++x.data.toList,t.2+1):(List UInt8×Nat)⊕BA)) (fun t=>cN t.1) l (t,k)=cN (t++lH k (l.map fun s=>s.data.toList)):=by
  intro l
  induction l with
  |nil=>intro t k;simp[run,lH]
  |cons x l a=>
   intro t k
   simp only[run,jZ,lH]
   rw[a]
   simp only[jL]
 rw[key,<-KQ,GZ]
 rfl
theorem qJb{N:Nat}{d:Dl}(h:OkD d)(e:3000000<N):AR N d=some (cN (sS d)):=by
 have c:=OE h.good h.pars
 have q:=KI h.good
 have r:=YI h.good h.body
 have y1:(⟨#[102,117,110,99,32]⟩:BA).size=5:=rfl
 have s:(⟨#[40]⟩:BA).size=1:=rfl
 have t:(⟨#[41]⟩:BA).size=1:=rfl
 have u:(⟨#[116,101,115,116,32]⟩:BA).size=5:=rfl
 have y5:(⟨#[103,101,110,32,34]⟩:BA).size=5:=rfl
 have v:(⟨#[34]⟩:BA).size=1:=rfl
 have x:(⟨#[32,61,32]⟩:BA).size=3:=rfl
 have y:(⟨#[59,10]⟩:BA).size=2:=rfl
 have a:(if(d.1==1)=true then((bH (⟨#[102,117,110,99,32]⟩:BA) d.2.1).bind fun g=>(bH g (⟨#[40]⟩:BA)).bind fun k=>(aI (vD N d) N (k,0)).bind fun o2=>(bH o2 (⟨#[41]⟩:BA)).bind fun l=>some l) else(if(d.1==2)=true then((bH (⟨#[116,101,115,116,32]⟩:BA) d.2.1).bind fun n=>some n) else(if(d.1==3)=true then((bH (⟨#[103,101,110,32,34]⟩:BA) d.2.1).bind fun o=>(bH o (⟨#[34]⟩:BA)).bind fun p=>some p) else(some (⟨#[]⟩:BA)))):Option (BA))=some (uM d):=by
  unfold uM at c ⊢
  by_cases k1:d.1=1
  .rw[if_pos k1] at c
   simp only[ByteArray.size_append] at c
   rw[if_pos (by simpa using k1),if_pos k1,cR (by omega)]
   simp only[j0]
   rw[cR (by rw[ByteArray.size_append];omega)]
   simp only[j0]
   rw[qNb h e (by simp only[ByteArray.size_append];omega)]
   simp only[j0]
   rw[cR (by simp only[ByteArray.size_append];omega)]
   rfl
  rw[if_neg (by simpa using k1),if_neg k1]
  by_cases b:d.1=2
  .rw[if_pos (by simpa using b),if_pos b,cR (by omega)]
   rfl
  have f:d.1=3:=by
   rcases h.kind with ⟨h,-⟩|⟨h,-⟩<;>omega
  rw[if_neg (by simpa using b),if_neg b,if_pos (by simpa using f),cR (by omega)]
  simp only[j0]
  rw[cR (by rw[ByteArray.size_append];omega)]
  rfl
 unfold AR
 refine Eq.trans (congrArg (fun z=>Option.bind z _) a) ?_
 simp only[j0]
 rw[cR (by omega)]
 simp only[j0]
 rw[qHl h e]
 simp only[j0]
 rw[cR (by rw[ByteArray.size_append,iW];omega)]
 simp only[j0]
 rw[cR (by simp only[ByteArray.size_append,iW];omega)]
 simp only[j0]
 congr 1
 refine oX ?_
 unfold sS
 simp only[nP,oR,jL]
theorem qIc{np:Int}{x:Ex}(h:iJ np x=true):x.2.2.2.1.size<=80:=by
 have z:emB.size=0:=rfl
 rcases GC h with ⟨-,-,-,-,-,e⟩|⟨-,-,-,-,-,e⟩|⟨-,e,-,-⟩|⟨-,-,-,-,-,e⟩|⟨-,-,-,-,e⟩|⟨-,-,e,-,-⟩|⟨-,-,e,-,-⟩|⟨-,-,e,-,-⟩|⟨-,-,-,-,-,e⟩
 .rw[e];omega
 .rw[e];omega
 .have:=nA e;omega
 .rw[e];omega
 .rw[e];omega
 .exact yO e
 .exact yO e
 .have:=KA e;omega
 rw[e];omega
theorem qIf{d:Dl}(h:GoodD d)(a:DK d):SmD d:=by
 have:=KI h
 exact⟨by omega,a.1,a.2.1,fun x b=>⟨by have:=qIc (h.nodes x b);omega,a.2.2 x b⟩⟩
theorem XR{f:Sr}(h:GoodS f)(a:rZ f):SmSr f:=⟨a.1,a.2.1,fun d b=>qIf (h.decs d b).1 (a.2.2 d b)⟩
def uJ(d:Dl):Sr:=(⟨#[112]⟩,[],[(1,⟨#[102]⟩,d.2.2.1,d.2.2.2)])
theorem qJs{d:Dl}(h:GoodD d)(l:d.2.2.1.length<=8)(c:d.2.2.2.length<=256)(b:rV d.2.2.2=false)(a:iO d.2.2.1=false):oL (uJ d)=0:=by
 have e:mN (1,⟨#[102]⟩,d.2.2.1,d.2.2.2)=true:=by
  unfold mN wH wI
  simp only[jK,jW,kD]
  exact⟨by kernel_rfl,fun s f=>⟨trivial,(h.pars s f).2⟩,h.nodes,h.tree⟩
 have f:sT (uJ d)=true:=by
  unfold sT uJ
  simp only[List.all_nil,List.all_cons,Bool.and_true,gC,e]
  kernel_rfl
 have g:uH (uJ d)=false:=by
  unfold uH uJ
  simp only[fZ,List.any_nil,Bool.or_false,a,kW]
  kernel_rfl
 have k:uN (uJ d)=false:=by
  unfold uN uJ rD
  simp only[fZ,List.any_nil,Bool.or_false,b]
  simp only[fN,decide_eq_false_iff_not]
  exact⟨by simp,by simp,by omega,by omega⟩
 unfold oL
 rw[if_pos f,g,k]
 rfl
theorem qIs{N:Nat}{d:Dl}(h:GoodD d)(q:DK d)(n:d.2.2.1.length<=8)(a:d.2.2.2.length<=256)(k:rV d.2.2.2=false)(c:iO d.2.2.1=false)(g:3000000<N):
  yI N d.2.2.2 d.2.2.1=some (cN (nV d),0):=by
 have b:=qJs h n a k c
 have p:=(yT b).decs (1,⟨#[102]⟩,d.2.2.1,d.2.2.2) (kL.2 rfl)
 have r:SmSr (uJ d):=XR (yT b) ⟨by show 0<2000000;decide,by show 1<2000000;decide,fun e o=>by
  rw[kL.1 o];exact q⟩
 have f:qC N (uJ d)=_:=GD r g
 rw[b] at f
 have l:yG N d.2.2.2 d.2.2.1=some (cN (nV d),(HI d:Int)):=(OM (d:=(1,⟨#[102]⟩,d.2.2.1,d.2.2.2)) p.1 a g).1
 unfold yI
 rw[show qC N ((⟨#[112]⟩:BA),([]:List (BA)),[(1,(⟨#[102]⟩:BA),d.2.2.1,d.2.2.2)])=_ from f]
 simp only[j0]
 rw[if_neg (by decide),l]
 rfl
def HA(f:Sr)(d:Dl):List UInt8:=(rW f.1++f.2.1.flatMap mS)++sS d
theorem qJq{N:Nat}{f:Sr}(y:rZ f)(v:oL f=0)(h:3000000<N){i:Nat}(hi:i<f.2.2.length):oJ N f (i:Int)=some (cN (HA f f.2.2[i]),0):=by
 have e:=yT v
 have q:=jR hi
 obtain⟨c,g,o,u⟩:=e.decs _ q
 have gdup:iO f.2.2[i].2.2.1=false:=(PW e _ q).dup
 have n:=y.2.2 _ q
 have x:qC N f=some (oL f):=GD (XR e y) h
 have a3:=nA e.pkg
 have z1:(⟨#[112,97,99,107,97,103,101,32]⟩:BA).size=8:=rfl
 have z2:(⟨#[59,10]⟩:BA).size=2:=rfl
 have D:(rW f.1).length<=100:=by unfold rW;simp only[eD,ByteArray.size_append];omega
 unfold oJ
 rw[x,v]
 simp only[j0]
 rw[if_neg (by decide),if_neg (by simp only[jA];omega)]
 simp only[j0]
 rw[if_neg (by simp only[jA];omega),dX hi]
 simp only[j0]
 unfold HA
 generalize f.2.2[i]=d at c g o u gdup n
 rw[qIs c n g o u gdup h]
 simp only[j0]
 rw[if_neg (by decide),cR (by omega)]
 simp only[j0]
 rw[cR (by rw[ByteArray.size_append];omega)]
 simp only[j0]
 rw[mG (by simp only[jE,eD,ByteArray.size_append];omega),kT]
 simp only[j0]
 rw[show(((⟨#[112,97,99,107,97,103,101,32]⟩:BA)++f.1)++(⟨#[59,10]⟩:BA)).data.toList=rW f.1 from rfl]
 obtain⟨M,R⟩:=ZC e h D
 rw[M]
 simp only[j0]
 generalize rW f.1++f.2.1.flatMap mS=t at R
 have hw:=(OM c o h).2
 have b:=OE c g
 have a2:=KI c
 have a1:=OL (l:=d.2.2.1) fun s r=>nA (c.pars s r).2
 have A:tR N d.2.2.1 (⟨#[44,32]⟩:BA)=some (uL d.2.2.1):=qIr g fun s r=>nA (c.pars s r).2
 have y1:(⟨#[102,117,110,99,32]⟩:BA).size=5:=rfl
 have y2:(⟨#[40]⟩:BA).size=1:=rfl
 have K:(⟨#[41,32,61,32]⟩:BA).size=4:=rfl
 have y4:(⟨#[116,101,115,116,32]⟩:BA).size=5:=rfl
 have y5:(⟨#[103,101,110,32,34]⟩:BA).size=5:=rfl
 have y6:(⟨#[34,32,61,32]⟩:BA).size=4:=rfl
 have y7:(⟨#[32,61,32]⟩:BA).size=3:=rfl
 have k:(if(d.1==1)=true then((bH (⟨#[102,117,110,99,32]⟩:BA) d.2.1).bind fun Y=>(bH Y (⟨#[40]⟩:BA)).bind fun Z=>(tR N d.2.2.1 (⟨#[44,32]⟩:BA)).bind fun K=>(bH Z K).bind fun s8=>(bH s8 (⟨#[41,32,61,32]⟩:BA)).bind fun s9=>(cW 1 t s9.data.toList).bind fun S=>some S) else(if(d.1==2)=true then((bH (⟨#[116,101,115,116,32]⟩:BA) d.2.1).bind fun E=>(bH E (⟨#[32,61,32]⟩:BA)).bind fun F=>(cW 1 t F.data.toList).bind fun U=>some U) else((bH (⟨#[103,101,110,32,34]⟩:BA) d.2.1).bind fun G=>(bH G (⟨#[34,32,61,32]⟩:BA)).bind fun H=>(cW 1 t H.data.toList).bind fun V=>some V)):Option (List (UInt8)))=some (t++((uM d).data.toList++[32,61,32])):=by
  unfold uM at b ⊢
  by_cases k1:d.1=1
  .rw[if_pos k1] at b
   simp only[ByteArray.size_append] at b
   rw[if_pos (by simpa using k1),if_pos k1,cR (by omega)]
   simp only[j0]
   rw[cR (by rw[ByteArray.size_append];omega),A]
   simp only[j0]
   rw[cR (by simp only[ByteArray.size_append];omega)]
   simp only[j0]
   rw[cR (by simp only[ByteArray.size_append];omega)]
   simp only[j0]
   rw[mG (by simp only[eD,ByteArray.size_append];omega)]
   simp only[j0,nP,LJ,jL,gF,kT]
  rw[if_neg k1] at b
  rw[if_neg (by simpa using k1),if_neg k1]
  by_cases k2:d.1=2
  .rw[if_pos k2] at b
   simp only[ByteArray.size_append] at b
   rw[if_pos (by simpa using k2),if_pos k2,cR (by omega)]
   simp only[j0]
   rw[cR (by rw[ByteArray.size_append];omega)]
   simp only[j0]
   rw[mG (by simp only[eD,ByteArray.size_append];omega)]
   simp only[j0,nP,LJ,jL,gF,kT]
  rw[if_neg k2] at b
  simp only[ByteArray.size_append] at b
  rw[if_neg (by simpa using k2),if_neg k2,cR (by omega)]
  simp only[j0]
  rw[cR (by rw[ByteArray.size_append];omega)]
  simp only[j0]
  rw[mG (by simp only[eD,ByteArray.size_append];omega)]
  simp only[j0,nP,LJ,jL,gF,kT]
 refine Eq.trans (congrArg (fun z=>Option.bind z _) k) ?_
 simp only[j0]
 rw[cR (by rw[iW];omega)]
 simp only[j0]
 rw[mG (by simp only[jC,eD,ByteArray.size_append,iW,jD,jE];omega)]
 simp only[j0]
 have p:(t++((uM d).data.toList++[32,61,32]))++(cN (nV d)++(⟨#[59,10]⟩:BA)).data.toList=t++sS d:=by
  unfold sS
  simp only[nP,LJ,jL]
 rw[p]
 have B:HO (t++sS d)=some ():=by
  unfold sS
  cases hh2:t++((uM d).data.toList++(((⟨#[32,61,32]⟩:BA)++cN (nV d))++(⟨#[59,10]⟩:BA)).data.toList) with
  |nil=>
   have:=congrArg List.length hh2
   simp only[jC,eD,ByteArray.size_append,jE] at this
   omega
  |cons a l=>rfl
 rw[B]
 rfl
theorem okSr.r{f:Sr}(h:okSr f):rZ f:=⟨by have:=h.1;omega,by have:=h.2.1;omega,fun d e=>by
 obtain⟨a,b,c⟩:=h.2.2 d e
 exact⟨by omega,by omega,fun x g=>by have:=c x g;omega⟩⟩
theorem WT(s:BA):SmSr (rO s).1:=by
 obtain⟨g,h,k⟩:=(VT s).r
 refine⟨g,h,fun d e=> ?_⟩
 obtain⟨a,b,c⟩:=k d e
 obtain⟨n,l⟩:=qIy s d e
 exact⟨by omega,a,b,fun x f=>⟨by have:=l x f;omega,c x f⟩⟩
section
variable {N:Nat}
theorem qIg{f:Sr}(h:rZ f)(b:oL f=0)(a:3000000<N){i:Nat}(hi:i<f.2.2.length):qB N f (i:Int)=some (cN (HA f f.2.2[i]),0):=by
 have d:=yT b
 have c:=PW d _ (jR hi)
 obtain⟨g,k⟩:=XE d a
 have l:=VQ c
 unfold qB
 rw[show xR N (f.1,f.2.1,f.2.2)=_ from VR h a,b]
 simp only[j0]
 rw[if_neg (by decide)]
 have e:(if(decide ((i:Int)<0))=true then(some true) else(some (decide ((i:Int)>=(List.length f.2.2:Int)))):Option (Bool))=some false:=by
  rw[if_neg (by simp only[jA];omega),jQ (by omega)]
 rw[e]
 simp only[j0]
 rw[if_neg (by decide),dX hi]
 simp only[j0]
 rw[show AU N (f.1,f.2.1,f.2.2)=_ from g]
 simp only[j0]
 rw[show AR N (f.2.2[i].1,f.2.2[i].2.1,f.2.2[i].2.2.1,f.2.2[i].2.2.2)=some (cN (sS f.2.2[i])) from qJb c a]
 simp only[j0]
 rw[cR (by rw[iW,iW];omega),KQ]
 rfl
theorem qHd{f:Sr}(c:oL f=0){d:Dl}(e:d∈f.2.2)(b:3000000<N):(HA f d).length<=40000:=by
 have a:=yT c
 obtain⟨-,g⟩:=XE a b
 have h:=VQ (PW a d e)
 unfold HA
 rw[jC]
 omega
theorem OB{f:Sr}(b:SmSr f)(k:Int)(a:3000000<N):∃v,oJ N f k=some v/\qB N f k=some v/\v.1.size<=40000:=by
 have c:qC N (f.1,f.2.1,f.2.2)=_:=GD b a
 have d:xR N (f.1,f.2.1,f.2.2)=_:=VR b.r a
 by_cases hc:oL f=0
 .by_cases hk:0<=k/\k<(f.2.2.length:Int)
  .obtain⟨i,rfl⟩:=Int.eq_ofNat_of_zero_le hk.1
   have hi:i<f.2.2.length:=by omega
   exact⟨_,qJq b.r hc a hi,qIg b.r hc a hi,by
    rw[iW];exact qHd hc (jR hi) a⟩
  have e:(if(decide (k<0))=true then(some true) else(some (decide (k>=(List.length f.2.2:Int)))):Option (Bool))=some true:=by
   by_cases h0:k<0
   .rw[if_pos (by simpa using h0)]
   rw[if_neg (by simpa using h0),jU (by omega)]
  refine⟨(⟨#[]⟩,3),?_,?_,by decide⟩
  .unfold oJ
   rw[c,hc]
   simp only[j0]
   rw[if_neg (by decide),e]
   rfl
  unfold qB
  rw[d,hc]
  simp only[j0]
  rw[if_neg (by decide),e]
  rfl
 refine⟨(⟨#[]⟩,oL f),?_,?_,by show 0<=40000;decide⟩
 .unfold oJ
  rw[c]
  simp only[j0]
  rw[if_pos (by simpa using hc)]
 unfold qB
 rw[d]
 simp only[j0]
 rw[if_pos (by simpa using hc)]
theorem qHa(s:BA)(c:3000000<N):∃v,FP N s=some v/\FH N s=some v/\okSr v.1:=by
 have p1:=qJd s (N:=N) (by omega)
 have p2:=MZ s (N:=N) (by omega)
 have b:=WT s
 have a:=VT s
 obtain⟨v,t1,t2,-⟩:=OB (N:=N) b 0 c
 generalize rO s=y at p1 p2 b a t1 t2
 have t1:oJ N (y.1.1,y.1.2.1,y.1.2.2) 0=some v:=t1
 have t2:qB N (y.1.1,y.1.2.1,y.1.2.2) 0=some v:=t2
 unfold FP FH
 rw[p1,p2]
 simp only[j0]
 by_cases h1:(y.2.2 !=0)=true
 .rw[if_pos h1,if_pos h1]
  exact⟨_,rfl,rfl,GF⟩
 rw[if_neg h1,if_neg h1]
 by_cases h2:((List.length y.1.2.2:Int) !=1)=true
 .rw[if_pos h2,if_pos h2]
  exact⟨_,rfl,rfl,GF⟩
 rw[if_neg h2,if_neg h2,t1,t2]
 simp only[j0]
 by_cases h3:(!(v.1.toList==s.toList))=true
 .rw[if_pos h3]
  exact⟨_,rfl,rfl,GF⟩
 rw[if_neg h3]
 exact⟨_,rfl,rfl,a⟩
theorem reads_true(s:BA)(d:3000000<N):tJ N s=some true:=by
 obtain⟨v,a,b,c⟩:=qHa s d
 unfold tJ
 rw[a,b]
 simp only[j0]
 rw[if_pos (kS v.2),show AW N (v.1.1,v.1.2.1,v.1.2.2) (v.1.1,v.1.2.1,v.1.2.2)=_ from qEo c (by omega)]
 rfl
end
theorem YJ{β:Type}{f:Int->Option (Int⊕β)}{b:β}:∀(n M:Nat) (lo:Int),(∀i:Nat,i<n->f (lo+i)=some (.inl (lo+i+1)))->f (lo+n)=some (.inr b)->n<M->aI f M lo=some b
 |_,0,_,_,_,h=>absurd h (kQ _)
 |0,M+1,lo,_,a,_=>by
  have a:f lo=some (.inr b):=by rw[<-a];congr 1;omega
  simp only[aI,a,j0]
 |n+1,M+1,lo,c,a,g=>by
  have d:f lo=some (.inl (lo+1)):=by
   have:=c 0 (Nat.succ_pos _)
   rw[show lo+((0:Nat):Int)=lo by omega] at this
   exact this
  have e:=YJ n M (lo+1) (fun i hi=>by
   have:=c (i+1) (by omega)
   rw[show lo+((i+1:Nat):Int)=lo+1+(i:Int) by omega] at this
   exact this) (by rw[<-a];congr 1;omega) (by omega)
  simp only[aI,d,j0]
  exact e
section
variable {N:Nat}
theorem qKc{x:Sr}(d:SmSr x)(c:3000000<N):aI (zP N x) N (-1)=some (.inl ()):=by
 have f:=d.2.1
 refine YJ (x.2.2.length+2) N (-1) (fun i hi=> ?_) ?_ (by omega)
 .obtain⟨v,a,b,e⟩:=OB d (-1+(i:Int)) c
  have a:oJ N (x.1,x.2.1,x.2.2) (-1+(i:Int))=some v:=a
  have b:qB N (x.1,x.2.1,x.2.2) (-1+(i:Int))=some v:=b
  have z:(⟨#[35,32,99,10]⟩:BA).size=4:=rfl
  simp only[zP]
  rw[if_pos (by simp only[jA];omega),a,b]
  simp only[j0]
  rw[if_neg (by simp),if_neg (by simp),reads_true _ c]
  simp only[j0]
  rw[if_neg (by simp),cR (by omega)]
  simp only[j0]
  rw[reads_true _ c]
  simp only[j0]
  rw[if_neg (by simp),bQ (by omega) (by omega)]
 simp only[zP]
 rw[if_neg (by simp only[jA];omega)]
theorem qIw{k:Int}{p2:Sr}{y1:(List Int×Int)×Sr}{c:List Dl}(e:SmSr y1.2)(f:SmSr (p2.1,p2.2.1,c))(d:3000000<N):aI (zQ N k p2 y1 c) N 0=some (.inl ()):=by
 refine HH (n:=2) (fun i hi=> ?_) ?_ (by omega)
 .obtain⟨x,hx,hs⟩:∃x,idx ([(y1.2.1,y1.2.2.1,y1.2.2.2),(p2.1,p2.2.1,c)]:List Sr) (i:Int)=some x/\SmSr x:=by
   rcases(by omega:i=0\/i=1) with rfl|rfl
   .exact⟨_,rfl,e⟩
   exact⟨_,rfl,f⟩
  obtain⟨v,a,b,g⟩:=OB hs k d
  have a:oJ N (x.1,x.2.1,x.2.2) k=some v:=a
  have b:qB N (x.1,x.2.1,x.2.2) k=some v:=b
  simp only[zQ]
  rw[if_pos (by simp only[jA,jD,jE];omega),hx]
  simp only[j0]
  rw[qKc hs d]
  simp only[j0]
  rw[a,b]
  simp only[j0]
  rw[if_neg (by simp)]
  simp only[j0]
  rw[if_neg (by simp),bQ (by omega) (by omega)]
  rfl
 simp only[zQ]
 rw[if_neg (by simp)]
theorem qEr{l:List Int}(f:3000000<N):Ok (EX N (l,0)) fun y=>(∃a,y.1=(l,a)/\0<=a/\a<1000000)/\SmSr y.2:=by
 unfold EX AL
 refine Ok.someb ?_
 refine Ok.oneS (by omega) (by omega) (by decide) fun x b=> ?_
 refine Ok.bind (UV (by omega) (by omega) (by omega) b) fun y c=> ?_
 obtain⟨a',s,rfl,d,e,-⟩:=c
 rw[MZ _ (by omega)]
 exact Ok.mk ⟨⟨a',rfl,by omega,by omega⟩,WT _⟩
theorem qDi(l:List Int)(k:Int){g:Sr}(e:SmSr g)(raw:BA)(c:3000000<N):Ok (DU N l k g raw) fun b=>b=true:=by
 unfold DU
 refine Ok.bind (qEr c) fun y1 q=> ?_
 obtain⟨⟨⟨ts,a⟩,f⟩,rfl⟩:∃z,z=y1:=⟨y1,rfl⟩
 obtain⟨⟨v,p,n,x⟩,t⟩:=q
 obtain⟨rfl,rfl⟩:=Prod.mk.inj p
 refine Ok.bind (P:=fun o:List Dl=>SmSr (g.1,g.2.1,o)) ?_ fun B u=> ?_
 .refine Ok.ite (fun h=> ?_) fun _=>Ok.mk e
  simp only[jA] at h
  rw[vO (by decide) (by decide) (by omega)]
  refine Ok.mk ⟨e.1,?_,fun d r=>e.2.2 d ?_⟩
  .have:0<=g.2.2.length:=kK _
   have:=e.2.1
   show((g.2.2.take _).drop _).length<2000000
   rw[kY,kG];omega
  exact List.mem_of_mem_take (List.mem_of_mem_drop r)
 rw[qIw (y1:=((ts,a),f)) t u c]
 refine Ok.someb ?_
 refine Ok.bind (P:=fun s:BA=>s.size<=300) ?_ fun s r=> ?_
 .refine Ok.ite (fun h=> ?_) fun h=>Ok.mk (by simp only[jA] at h;omega)
  simp only[jA] at h
  rw[FV (by decide) (by decide) (by omega)]
  refine Ok.mk ?_
  rw[ByteArray.size_extract]
  show min 300 raw.size-0<=300
  omega
 refine Ok.bind (P:=fun o:Bool×List Int×Int=>o.1=true) ?_ fun o h=>Ok.mk h
 have D:(⟨#[112,97,99,107,97,103,101,32,112,59,10,116,101,115,116,32,116,32,61,32]⟩:BA).size=20:=rfl
 have E:(⟨#[59,10]⟩:BA).size=2:=rfl
 rw[reads_true _ c]
 refine Ok.someb (Ok.tt ?_)
 rw[cR (by omega)]
 refine Ok.someb ?_
 rw[cR (by rw[ByteArray.size_append];omega)]
 refine Ok.someb ?_
 rw[reads_true _ c]
 refine Ok.someb (Ok.tt ?_)
 refine Ok.bind (UV (by omega) n (by omega) (by decide)) fun y A=> ?_
 rw[reads_true _ c]
 refine Ok.someb (Ok.tt ?_)
 rw[qIm c]
 exact Ok.mk rfl
end
theorem testgatelaw06_MentionTexts_true(l:List Int){G:Prop}(_gl:G)(k:Int){H:Prop}(_gk:H)(f:Sr)(g:f.1.size<=1048576/\(f.2.1.length<=1048576/\∀s∈f.2.1,s.size<=1048576)/\(f.2.2.length<=1048576/\∀d∈f.2.2,(Lit.int .i64 d.1).wf=true/\d.2.1.size<=1048576/\(d.2.2.1.length<=1048576/\∀s∈d.2.2.1,s.size<=1048576)/\(d.2.2.2.length<=1048576/\∀x∈d.2.2.2,(Lit.int .i64 x.1).wf=true/\(Lit.int .i64 x.2.1).wf=true/\(Lit.int .i64 x.2.2.1).wf=true/\x.2.2.2.1.size<=1048576/\(x.2.2.2.2.length<=1048576/\∀a∈x.2.2.2.2,(Lit.int .i64 a).wf=true))))(raw:BA){K:Prop}(_gr:K):∃N,DU N l k f raw=some true:=by
 obtain⟨-,⟨r,-⟩,t,c⟩:=g
 obtain⟨b,e,rfl⟩:=qDi (N:=3000001) l k (g:=f) ⟨by omega,by omega,fun d h=>by
  obtain⟨-,o,⟨u,-⟩,v,p⟩:=c d h
  refine⟨o,by omega,by omega,fun x n=> ?_⟩
  obtain⟨-,-,-,q,y,-⟩:=p x n
  exact⟨q,by omega⟩⟩ raw (by decide)
 exact⟨3000001,e⟩
end
end Go.Proofs.YthiiggmmmoolbaaGreatDoor
