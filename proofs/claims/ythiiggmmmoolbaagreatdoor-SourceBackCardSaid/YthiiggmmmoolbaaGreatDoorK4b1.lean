/- No condition but those of each theorem. -/
import Derived.Test.YthiiggmmmoolbaaGreatDoorProg
import Derived.WalkKit
import Derived.Deep.LoopGhost
import Derived.KernelRfl
import Derived.OrdersHeld
import Derived.OrdersIn
import Derived.LoopNIn
import Derived.Sort.LoopGhostIn
import Derived.Laws.AppendOwn
import Derived.RangeFuncLeaves
import Derived.RangeFuncRecord
import Derived.MapKept
import Derived.Maps.RangeRun
import Derived.ChangeKeysEq
import Derived.HandedShaped
import Derived.ChangeStays
import Derived.ChangeSame
import Derived.OpenShut
import Derived.WideShapes
import Derived.JoinedOf
import Derived.ReadAgain
import Derived.ChangeAt
import Derived.RowKit
import Derived.Lib.Overlaps
import Derived.Shelf.Sort.Plain
import Derived.Shelf.Slices.In.SortNone
import Derived.WalkSmall
import Derived.Recover
import Derived.Lib.Builder
import Derived.Lib.UnsafeStr
import Derived.Shelf.Strconv.Itoa3
import Derived.Room.Shelf.Join48
import Derived.Lib.Bytealg
import Derived.Test.YthiiggmmmoolbaaGreatDoorK3b1
namespace Go.Proofs.YthiiggmmmoolbaaGreatDoor
section
open Go Go.Dc
def sp:List UInt8->List (List UInt8)
 |[]=>[[]]
 |c::l=>if c=47 then[]::sp l else match sp l with
  |[]=>[[c]]
  |p::q=>(c::p)::q
theorem HJ:∀l:List UInt8,sp l≠[]
 |[]=>by simp[sp]
 |c::l=>by
  simp only[sp]
  split
  .simp
  split<;>simp
theorem LL:∀l:List UInt8,(sp l).length=l.count 47+1
 |[]=>rfl
 |c::l=>by
  simp only[sp]
  split
  .rename_i h;subst h;simp[LL l]
  rename_i h
  have:=LL l
  split
  .rename_i e;exact absurd e (HJ l)
  rename_i e
  rw[e] at this
  simp only[jB] at this ⊢
  rw[List.count_cons_of_ne h,<-this]
def lF(c:UInt8):Bool:=c !=47
theorem SW:∀l:List UInt8,sp l=if(l.takeWhile lF).length=l.length then[l] else l.takeWhile lF::sp (l.drop ((l.takeWhile lF).length+1))
 |[]=>rfl
 |c::l=>by
  have b:=SW l
  by_cases h:c=47
  .subst h
   rw[fC (by decide)]
   simp[sp]
  have a:lF c=true:=by simpa[lF] using h
  rw[gL a]
  simp only[sp,h,kA,b,jB,Nat.add_right_cancel_iff,List.drop_succ_cons]
  by_cases he:(l.takeWhile lF).length=l.length
  .simp[he]
  simp[he]
def lL(l:List UInt8):Bool:=decide (l.length<=80/\(sp l).length<=8/\∀p∈sp l,1<=p.length/\p.length<=24/\∀c∈p,bI [1,2,3,4] c=true)
theorem qIy{p:UInt8->Bool}{l:List UInt8}{k:Nat}(c:k<l.length)(a:∀j,∀h:j<l.length,j<k->p l[j]=true)(b:p l[k]=false):tw p l 0=k:=by
 have key:∀d j,j+d=k->tw p l j=k:=by
  intro d
  induction d with
  |zero=>
   intro j h
   have:j=k:=by omega
   subst this
   exact DK c b
  |succ d e=>intro j h;rw[<-zL (by omega) (a j (by omega) (by omega))];exact e (j+1) (by omega)
 exact key k 0 (by omega)
theorem qIz(x:BA):oR x 47=if(x.data.toList.takeWhile lF).length=x.data.toList.length then-1 else((x.data.toList.takeWhile lF).length:Int):=by
 have n:=lB x
 have l:tw lF x.data.toList 0=(x.data.toList.takeWhile lF).length:=by simp[tw]
 have a:∀j,∀h:j<x.data.toList.length,x[j]! =x.data.toList[j]:=by
  intro j b
  rw[getElem!_pos x j (by omega)]
  simp[ByteArray.getElem_eq_getElem_data]
 have f:(47:Int).toNat.toUInt8=47:=rfl
 rw[<-l]
 unfold oR
 rw[f,<-n]
 cases hf:(List.range x.data.toList.length).find? (fun j=>x[j]! ==47) with
 |none=>
  rw[List.find?_eq_none] at hf
  simp only
  rw[if_pos]
  refine UH fun c d=> ?_
  obtain⟨j,b,rfl⟩:=List.getElem_of_mem d
  have:=hf j (fQ.2 b)
  rw[a j b] at this
  simpa[lF] using this
 |some k=>
  have d:=List.find?_some hf
  have g:k<x.data.toList.length:=fQ.1 (gU hf)
  rw[a k g] at d
  have e:tw lF x.data.toList 0=k:=by
   refine qIy g (fun j h b=> ?_) (by simpa[lF] using d)
   have:=(List.find?_range_eq_some.1 hf).2.2 j b
   rw[a j h] at this
   simpa[lF] using this
  simp only
  rw[e,if_neg (by omega)]
theorem qDx{N:Nat}(x:BA):yN N x (⟨#[47]⟩:BA)=some (oR x 47):=by
 have b:nF (⟨#[47]⟩:BA) 0=some 47:=by kernel_rfl
 simp only[yN,EX,xP,show(⟨#[47]⟩:BA).size=1 from rfl,oZ]
 rw[if_neg (by decide)]
 simp only[j0,jA]
 by_cases h:(⟨#[47]⟩:BA)=x
 .have a:oR (⟨#[47]⟩:BA) 47=0:=by kernel_rfl
  rw[if_pos h,<-h,a]
  rfl
 rw[if_neg h,if_pos (by decide),b]
 rfl
theorem qHw(x:BA):xJ x 47=((x.data.toList.count 47:Nat):Int):=by
 unfold xJ
 rw[Go.Lib.foldl_data]
 have key:∀(l:List UInt8) (n:Int),l.foldl (fun n x=>if x==(47:Int).toNat.toUInt8 then n+1 else n) n=n+((l.count 47:Nat):Int):=by
  intro l
  induction l with
  |nil=>intro n;simp
  |cons c l b=>
   intro n
   rw[List.foldl_cons,b,List.count_cons]
   have a:(47:Int).toNat.toUInt8=47:=rfl
   rw[a]
   by_cases h:(c==47)=true
   .simp only[h,kI];omega
   simp only[h,jE,kA];omega
 rw[key]
 omega
theorem qFy{α:Type}(l:List α)(k:Nat)(a b:α):(l++List.replicate (k+1) a).set l.length b=(l++[b])++List.replicate k a:=by
 rw[List.set_append_right _ _ (jJ _)]
 simp[List.replicate_succ]
theorem OJ{N n:Nat}{s:BA}(v:n<1000000000)(l:n<=s.size+1)(A:s.size<1000000000):∀(r M:Nat) (x:BA) (done:List BA),(sp x.data.toList).length=r->done.length+r=n->r<M->x.size<1000000000->
  ∃y D,aS (BX N s (⟨#[47]⟩:BA) 0 (n:Int)) M (x,(done.length:Int),done++List.replicate r (⟨#[]⟩:BA))=some (y,((n-1:Nat):Int),D++[(⟨#[]⟩:BA)])/\D.length=n-1/\D++[y]=done++(sp x.data.toList).map eW
 |_,0,_,_,_,_,h,_=>by omega
 |0,_,x,_,h,_,_,_=>by exact absurd (gC.1 h) (HJ _)
 |r+1,M+1,x,done,c,F,G,H=>by
  have E:=lB x
  have f:(if IntKind.wrap .i64 ((s.size:Int)+1)<(n:Int) then IntKind.wrap .i64 ((s.size:Int)+1) else(n:Int))=(n:Int):=by
   rw[bT (by omega) (by omega)];split<;>omega
  have a:=SW x.data.toList
  simp only[aS,BX]
  rw[f,bT (x:=(n:Int)-1) (by omega) (by omega)]
  by_cases hlast:(x.data.toList.takeWhile lF).length=x.data.toList.length
  .rw[if_pos hlast] at a
   rw[a] at c
   simp only[jB,jD] at c
   have b:r=0:=by omega
   subst b
   rw[if_neg (by simp only[jA];omega)]
   refine⟨x,done,?_,by omega,?_⟩
   .simp only[j0]
    rw[show(n-1:Nat)=done.length by omega]
    rfl
   rw[a];simp[eW]
  rw[if_neg hlast] at a
  rw[a] at c
  simp only[jB] at c
  have z:0<(sp (x.data.toList.drop ((x.data.toList.takeWhile lF).length+1))).length:=List.length_pos_iff.2 (HJ _)
  have B:(x.data.toList.takeWhile lF).length<=x.data.toList.length:=(hS _).length_le
  have hix:=qIz x
  rw[if_neg hlast] at hix
  rw[if_pos (by simp only[jA];omega),qDx,hix]
  simp only[j0,show(⟨#[47]⟩:BA).size=1 from rfl]
  have u:(x.data.toList.takeWhile lF)=x.data.toList.take (x.data.toList.takeWhile lF).length:=List.prefix_iff_eq_take.1 (fV _)
  have o:x.extract 0 (x.data.toList.takeWhile lF).length=eW (x.data.toList.takeWhile lF):=by
   apply Go.WideShapes.bytes_inj
   simp only[ByteArray.data_extract,fE,gV,eW,kJ,Nat.sub_zero]
   exact u.symm
  have b:(x.extract ((x.data.toList.takeWhile lF).length+1) x.data.toList.length).data.toList=x.data.toList.drop ((x.data.toList.takeWhile lF).length+1):=by
   simp only[ByteArray.data_extract,fE,gV]
   exact gF (by simp only[kZ];omega)
  generalize hk:(x.data.toList.takeWhile lF).length=k at*
  rw[if_neg (by simp only[jA];omega),bT (x:=(k:Int)+0) (by omega) (by omega),Int.add_zero]
  have d:mO x 0 (k:Int)=some (x.extract 0 k):=by
   have:=uG (s:=x) (i:=0) (e:=k) (by omega) (by omega)
   simpa only[Int.natCast_zero] using this
  rw[d]
  simp only[j0]
  rw[eZ (by simp),bT (x:=(k:Int)+((1:Nat):Int)) (by omega) (by omega),show((k:Int)+((1:Nat):Int))=((k+1:Nat):Int) by omega,JG (by omega)]
  simp only[j0,jU]
  rw[qFy,o,bT (by omega) (by omega)]
  have g:=lB (x.extract (k+1) x.data.toList.length)
  rw[b,kZ] at g
  obtain⟨y,D,p,q,t⟩:=OJ (N:=N) v l A r M (x.extract (k+1) x.data.toList.length) (done++[eW (x.data.toList.takeWhile lF)]) (by rw[b];omega) (by simp;omega) (by omega) (by omega)
  refine⟨y,D,?_,q,?_⟩
  .rw[<-p];simp
  rw[t,b,a];simp
termination_by r=>r
theorem qDw{N:Nat}{s:BA}(p:s.size<100000000)(l:2*s.size+1000<N):CH N s (⟨#[47]⟩:BA)=some ((sp s.data.toList).map eW):=by
 have q:=lB s
 have h:=LL s.data.toList
 have o:s.data.toList.count 47<=s.data.toList.length:=List.count_le_length
 have g:nF (⟨#[47]⟩:BA) 0=some 47:=by kernel_rfl
 have a:CG N s (⟨#[47]⟩:BA)=some ((s.data.toList.count 47:Nat):Int):=by
  simp only[CG,show(⟨#[47]⟩:BA).size=1 from rfl]
  rw[if_neg (by decide),if_pos (by decide),g]
  simp only[j0]
  rw[<-qHw];rfl
 simp only[CH,FJ,oZ,a,j0]
 rw[if_neg (by decide),if_neg (by decide),if_pos (by decide)]
 simp only[j0]
 rw[bT (x:=((s.data.toList.count 47:Nat):Int)+1) (by omega) (by omega),show((s.data.toList.count 47:Nat):Int)+1=(((sp s.data.toList).length:Nat):Int) by omega]
 generalize hn:(sp s.data.toList).length=n at*
 have c:(if IntKind.wrap .i64 ((s.size:Int)+1)<(n:Int) then IntKind.wrap .i64 ((s.size:Int)+1) else(n:Int))=(n:Int):=by
  rw[bT (by omega) (by omega)];split<;>omega
 rw[c]
 have k:pN 16 (⟨#[]⟩:BA) (n:Int)=some (List.replicate n (⟨#[]⟩:BA)):=by
  unfold pN
  rw[if_pos (by simp only[maxLen];omega),jU]
 rw[k]
 simp only[j0]
 obtain⟨y,D,b,f,e⟩:=OJ (N:=N) (n:=n) (s:=s) (by omega) (by omega) (by omega) n N s [] hn (by simp) (by omega) (by omega)
 simp only[jD,jL] at b e
 rw[show((0:Nat):Int)=0 from rfl] at b
 rw[b]
 simp only[j0]
 rw[eZ (by simp;omega)]
 simp only[j0,jU]
 have d:(D++[(⟨#[]⟩:BA)]).set (n-1) y=D++[y]:=by
  rw[<-f,List.set_append_right _ _ (jJ _)];simp
 rw[d,e,bT (by omega) (by omega),show((n-1:Nat):Int)+1=(n:Int) by omega,GC (by omega) (by omega) (by rw[gJ,hn];omega)]
 simp only[j0,jU,fR,kJ]
 rw[gF (by rw[gJ,hn];exact jJ _)]
theorem UB{p:UInt8->Bool}{l:List UInt8}:tw p l 0=l.length↔∀c∈l,p c=true:=by
 constructor
 .intro h c a
  have b:(l.takeWhile p).length=l.length:=by simpa[tw] using h
  have d:=(fV p (l:=l)).eq_of_length b
  rw[<-d] at a
  exact LE a
 exact UH
def xF(x:BA):Bool:=decide (1<=x.data.toList.length/\x.data.toList.length<=24/\∀c∈x.data.toList,bI [1,2,3,4] c=true)
theorem QL(x:BA):xF x=true↔1<=x.data.toList.length/\x.data.toList.length<=24/\∀c∈x.data.toList,bI [1,2,3,4] c=true:=decide_eq_true_iff
theorem qFp{N:Nat}{x:BA}(f:100<N):(if(decide ((x.size:Int)<1))=true then(some true) else(if(decide ((x.size:Int)>24))=true then(some true) else((rZ N x 0 (some kdL) ([1,2,3,4])).bind fun e=>some (e !=(x.size:Int)))))=some (!xF x):=by
 have d:=lB x
 have a:∀h:¬(1<=x.data.toList.length/\x.data.toList.length<=24/\∀c∈x.data.toList,bI [1,2,3,4] c=true),xF x=false:=fun h=>gD h
 by_cases h1:1<=x.data.toList.length
 .rw[if_neg (by simp only[jA];omega)]
  by_cases h2:x.data.toList.length<=24
  .rw[if_neg (by simp only[jA];omega)]
   have b:=DH (N:=N) (s:=x) (ks:=[1,2,3,4]) (i:=0) (by omega) (by omega) (by simp) (by omega)
   rw[show((0:Nat):Int)=0 from rfl] at b
   rw[b]
   simp only[j0]
   refine congrArg some ?_
   by_cases h3:tw (bI [1,2,3,4]) x.data.toList 0=x.data.toList.length
   .have:xF x=true:=kS ⟨h1,h2,UB.1 h3⟩
    rw[this,h3,d]
    simp
   rw[a fun h=>h3 (UB.2 h.2.2)]
   simp only[fS,dF,ne_eq]
   omega
  rw[if_pos (by simp only[jA];omega),a fun h=>h2 h.2.1]
  rfl
 rw[if_pos (by simp only[jA];omega),a fun h=>h1 h.1]
 rfl
theorem PI{N:Nat}{L:List BA}(f:L.length<1000)(a:100<N):∀(d j M:Nat),j+d=L.length->d<M->aS (yP N L (some kdL)) M (j:Int)=some (if(L.drop j).all xF=true then .inl () else .inr false)
 |d,j,0,_,h=>by omega
 |0,j,M+1,c,e=>by
  simp only[aS,yP]
  rw[if_neg (by simp only[jA];omega),kN (by omega)]
  rfl
 |d+1,j,M+1,c,e=>by
  have b:j<L.length:=by omega
  simp only[aS,yP]
  rw[if_pos (by simp only[jA];omega),eZ b]
  simp only[j0,qFp a]
  rw[kO b,List.all_cons]
  cases hp:xF L[j] with
  |true=>
   rw[if_neg (by simp),bT (by omega) (by omega)]
   simp only[j0,fM]
   exact PI f a d (j+1) M (by omega) (by omega)
  |false=>simp
theorem KT{N:Nat}{s:BA}(e:s.size<100000000)(d:2*s.size+1000<N):sY N s=some (lL s.data.toList):=by
 have g:=lB s
 have a:∀h:¬(s.data.toList.length<=80/\(sp s.data.toList).length<=8/\∀p∈sp s.data.toList,1<=p.length/\p.length<=24/\∀c∈p,bI [1,2,3,4] c=true),lL s.data.toList=false:=fun h=>gD h
 simp only[sY,qDw e d,j0,gJ]
 by_cases h80:s.data.toList.length<=80
 .rw[if_neg (by simp only[jA];omega)]
  by_cases h8:(sp s.data.toList).length<=8
  .have b:decide (((sp s.data.toList).length:Int)>8)=false:=gD (by omega)
   simp only[j0,b,jE,kA,KC (show 30<N by omega)]
   have key:=PI (N:=N) (L:=(sp s.data.toList).map eW) (by rw[gJ];omega) (by omega) _ 0 N (kG _) (by rw[gJ];omega)
   rw[show((0:Nat):Int)=0 from rfl,kJ] at key
   rw[key]
   simp only[j0]
   by_cases hp:((sp s.data.toList).map eW).all xF=true
   .have:lL s.data.toList=true:=kS ⟨h80,h8,fun p hp'=>by
     have:=(QL _).1 (jV.1 hp (eW p) (gT hp'))
     simpa[eW] using this⟩
    rw[if_pos hp,this]
   rw[if_neg hp,a fun h=>hp (jV.2 fun x f=>by
    obtain⟨p,hp',rfl⟩:=fJ.1 f
    exact(QL _).2 (by simpa[eW] using h.2.2 p hp'))]
  have b:decide (((sp s.data.toList).length:Int)>8)=true:=kS (by omega)
  simp only[j0,b,kI]
  rw[a fun h=>h8 h.2.1]
 rw[if_pos (by simp only[jA];omega)]
 simp only[j0,kI]
 rw[a fun h=>h80 h.1]
def run{α τ β:Type}(step:τ->α->τ⊕β)(fin:τ->β):List α->τ->β
 |[],t=>fin t
 |x::l,t=>match step t x with
  | .inl t'=>run step fin l t'
  | .inr b=>b
theorem JJ{α τ σ β:Type}{L:List α}(enc:τ->Nat->σ){f:σ->Option (σ⊕β)}(step:τ->α->τ⊕β)(fin:τ->β)(I:Nat->τ->Prop)
  (a:∀t i,∀hi:i<L.length,I i t->f (enc t i)=some (match step t L[i] with| .inl t'=> .inl (enc t' (i+1))| .inr b=> .inr b))
  (e:∀t i,∀hi:i<L.length,∀t',I i t->step t L[i]= .inl t'->I (i+1) t')
  (c:∀t,I L.length t->f (enc t L.length)=some (.inr (fin t))):∀(d i M:Nat) (t:τ),i+d=L.length->d<M->I i t->aS f M (enc t i)=some (run step fin (L.drop i) t)
 |_,_,0,_,_,h,_=>absurd h (kQ _)
 |d,i,M+1,t,l,n,g=>by
  cases d with
  |zero=>
   have hi:i=L.length:=by omega
   subst hi
   simp only[aS,c t g,j0,fO,run]
  |succ d=>
   have hi:i<L.length:=by omega
   have k:L.drop i=L[i]::L.drop (i+1):=(hU hi).symm
   simp only[aS,a t i hi g,j0]
   rw[k]
   simp only[run]
   cases hs:step t L[i] with
   |inl t'=>
    simp only
    exact JJ enc step fin I a e c d (i+1) M t' (by omega) (by omega) (e t i hi t' g hs)
   |inr b=>rfl
theorem yX{α τ σ β:Type}{L:List α}(enc:τ->Nat->σ){f:σ->Option (σ⊕β)}(step:τ->α->τ⊕β)(fin:τ->β)(I:Nat->τ->Prop)
  (a:∀t i,∀hi:i<L.length,I i t->f (enc t i)=some (match step t L[i] with| .inl t'=> .inl (enc t' (i+1))| .inr b=> .inr b))
  (d:∀t i,∀hi:i<L.length,∀t',I i t->step t L[i]= .inl t'->I (i+1) t')
  (c:∀t,I L.length t->f (enc t L.length)=some (.inr (fin t))) {M:Nat} {t:τ} (g:L.length<M) (e:I 0 t):aS f M (enc t 0)=some (run step fin L t):=by
 have:=JJ enc step fin I a d c L.length 0 M t (by omega) g e
 rw[kJ] at this;exact this
theorem QT{α τ β:Type}{step:τ->α->τ⊕β}{fin:τ->β}(g:τ->α->τ)(h:∀t x,step t x= .inl (g t x)):∀(l:List α) (t:τ),run step fin l t=fin (l.foldl g t)
 |[],_=>rfl
 |x::l,t=>by simp only[run,h,List.foldl_cons];exact QT g h l _
theorem DJ{α β:Type}{step:Unit->α->Unit⊕β}{fin:Unit->β}{b:β}(p:α->Bool)(h:∀x,step () x=if p x=true then .inr b else .inl ()):∀l:List α,run step fin l ()=if l.any p=true then b else fin ()
 |[]=>rfl
 |x::l=>by
  have a:=DJ (fin:=fin) p h l
  rw[hB]
  by_cases hp:p x=true
  .have e:step () x= .inr b:=by rw[h,if_pos hp]
   simp only[run,e]
   rw[hp,Bool.true_or,if_pos rfl]
  have e:step () x= .inl ():=by rw[h,if_neg hp]
  simp only[run,e]
  rw[a,show p x=false by simpa using hp,gP]
theorem yY{α:Type}{l:List α}{i:Nat}(h:i<l.length):l.drop i=l[i]::l.drop (i+1):=(hU h).symm
theorem FY{α:Type}{l:List α}{i:Nat}(h:i<l.length):l.take (i+1)=l.take i++[l[i]]:=gH h
instance decMemB(s:BA)(l:List BA):Decidable (s∈l):=@List.instDecidableMemOfLawfulBEq BA instBEqOfDecidableEq inferInstance s l
abbrev Ex:=Int×Int×Int×BA×List Int
abbrev Dl:=Int×BA×List BA×List Ex
abbrev Sr:=BA×List BA×List Dl
abbrev dL:=Int×Int
abbrev Ps:=Nat×List Ex
abbrev PM(α:Type):=dL⊕(Ps×α)
def aC(ts:List bH)(i:Nat):bH:=ts.getD i (5,⟨#[]⟩,0,0)
def eX{α:Type}(t:bH)(e:Int):dL⊕α:= .inl (t.2.2.2,e)
def bF{α β:Type}(x:dL⊕α)(f:α->dL⊕β):dL⊕β:=
 match x with
 | .inl z=> .inl z
 | .inr a=>f a
def cD(ts:List bH)(k:Int)(s:BA)(i:Nat):Bool:=(aC ts i).1==k&&decide ((aC ts i).2.1=s)
def eK(ts:List bH)(s:BA)(i:Nat):dL⊕Nat:=if cD ts 4 s i then .inr (i+1) else eX (aC ts i) 9
def oL(ts:List bH)(s:BA)(i:Nat):dL⊕Nat:=if cD ts 1 s i then .inr (i+1) else eX (aC ts i) 9
def mC(ts:List bH)(k:Int)(i:Nat):dL⊕(Nat×bH):=if(aC ts i).1=k then .inr (i+1,aC ts i) else eX (aC ts i) 9
def sPackage:BA:=⟨#[112,97,99,107,97,103,101]⟩
def wN:BA:=⟨#[105,109,112,111,114,116]⟩
def zW:BA:=⟨#[102,117,110,99]⟩
def zP:BA:=⟨#[116,101,115,116]⟩
def AD:BA:=⟨#[103,101,110]⟩
def nL:BA:=⟨#[105,102]⟩
def sThen:BA:=⟨#[116,104,101,110]⟩
def sElse:BA:=⟨#[101,108,115,101]⟩
def sRead:BA:=⟨#[114,101,97,100]⟩
def sSize:BA:=⟨#[115,105,122,101]⟩
def sHas:BA:=⟨#[104,97,115]⟩
def sEnv:BA:=⟨#[101,110,118]⟩
def sFlip:BA:=⟨#[102,108,105,112]⟩
def sOpen:BA:=⟨#[40]⟩
def sClose:BA:=⟨#[41]⟩
def sComma:BA:=⟨#[44]⟩
def sSemi:BA:=⟨#[59]⟩
def sEq:BA:=⟨#[61]⟩
def sMinus:BA:=⟨#[45]⟩
def DS:List BA:=[sPackage,wN,zW,zP,AD,nL,sThen,sElse,sRead,sSize,sHas,sEnv,sFlip]
def oQ(s:BA):Bool:=decide (s∈DS)
def nI(ts:List bH)(i:Nat):dL⊕(Nat×bH):=bF (mC ts 1 i) fun p=>if oQ p.2.2.1 then eX p.2 9 else .inr p
def nT(ts:List bH)(i:Nat):dL⊕(Nat×bH):=bF (mC ts 3 i) fun p=>if lL p.2.2.1.data.toList then .inr p else eX p.2 9
def wZ(ts:List bH)(i:Nat):dL⊕(Nat×bH):=bF (mC ts 3 i) fun p=>if iT p.2.2.1 then .inr p else eX p.2 9
def iB(t:bH)(x:Ex)(p:Ps):PM Nat:=if p.2.length=256 then eX t 2 else .inr ((p.1,p.2++[x]),p.2.length)
def opsC:List (Int×BA):=[(1,⟨#[43]⟩),(2,⟨#[45]⟩),(3,⟨#[42]⟩),(4,⟨#[47]⟩),(5,⟨#[37]⟩),(6,⟨#[60]⟩),(7,⟨#[61,61]⟩)]
def pH(op:Int):Nat:=if op=6\/op=7 then 1 else if op=1\/op=2 then 2 else 3
def oG(ts:List bH)(level:Nat)(i:Nat)(o:Int×BA):Bool:=cD ts 4 o.2 i&&decide (pH o.1=level)
def lS(ts:List bH)(level:Nat)(i:Nat):Int:=
 match opsC.find? (oG ts level i) with
 |some o=>o.1
 |none=>0
section
variable (ts:List bH) (params:List BA) (E:Ps->PM Nat)
def qT:Nat->List Int->Ps->PM (List Int)
 |0,_,p=>eX (aC ts p.1) 9
 |n+1,l,p=>bF (E p) fun q=>
  if cD ts 4 sComma q.1.1 then qT n (l++[(q.2:Int)]) (q.1.1+1,q.1.2)
  else bF (eK ts sClose q.1.1) fun i=> .inr ((i,q.1.2),l++[(q.2:Int)])
def oY(p:Ps):PM (List Int):=
 bF (eK ts sOpen p.1) fun i=>if cD ts 4 sClose i then .inr ((i+1,p.2),[]) else qT ts E (ts.length+1) [] (i,p.2)
def nP(t:bH)(p:Ps):PM Nat:=
 bF (eK ts sOpen p.1) fun i=>
 bF (if t.2.1=sRead then
   bF (nT ts i) fun a=>bF (eK ts sComma a.1) fun i=>bF (E (i,p.2)) fun q=> .inr (q.1,((6,0,0,a.2.2.1,[(q.2:Int)]):Ex))
  else if t.2.1=sSize then bF (nT ts i) fun a=> .inr ((a.1,p.2),((7,0,0,a.2.2.1,[]):Ex))
  else if t.2.1=sHas then bF (nT ts i) fun a=> .inr ((a.1,p.2),((8,0,0,a.2.2.1,[]):Ex))
  else if t.2.1=sEnv then bF (wZ ts i) fun a=> .inr ((a.1,p.2),((9,0,0,a.2.2.1,[]):Ex))
  else bF (mC ts 2 i) fun a=>if a.2.2.2.1>=64 then eX a.2 9 else .inr ((a.1,p.2),((10,a.2.2.2.1,0,⟨#[]⟩,[]):Ex))) fun q=>
 bF (eK ts sClose q.1.1) fun i=>iB t q.2 (i,q.1.2)
def iP(p:Ps):PM Nat:=
 let t:=aC ts p.1
 if t.1=2 then iB t (1,t.2.2.1,0,⟨#[]⟩,[]) (p.1+1,p.2)
 else if cD ts 4 sMinus p.1 then bF (mC ts 2 (p.1+1)) fun a=>iB t (1,IntKind.wrap .i64 (0-a.2.2.2.1),0,⟨#[]⟩,[]) (a.1,p.2)
 else if cD ts 4 sOpen p.1 then bF (E (p.1+1,p.2)) fun q=>bF (eK ts sClose q.1.1) fun i=> .inr ((i,q.1.2),q.2)
 else if t.1≠1 then eX t 9
 else if t.2.1∈[sRead,sSize,sHas,sEnv,sFlip] then nP ts E t (p.1+1,p.2)
 else if oQ t.2.1 then eX t 9
 else if cD ts 4 sOpen (p.1+1) then bF (oY ts E (p.1+1,p.2)) fun q=>iB t (3,0,0,t.2.1,q.2) q.1
 else match params.findIdx? (fun x=>decide (x=t.2.1)) with
  |some i=>iB t (2,(i:Int),0,⟨#[]⟩,[]) (p.1+1,p.2)
  |none=>eX t 9
def mN(level:Nat)(S:Ps->PM Nat):Nat->Nat->Ps->PM Nat
 |0,_,p=>eX (aC ts p.1) 9
 |n+1,x,p=>
  if lS ts level p.1=0 then .inr (p,x)
  else bF (S (p.1+1,p.2)) fun q=>bF (iB (aC ts p.1) (4,0,lS ts level p.1,⟨#[]⟩,[(x:Int),(q.2:Int)]) q.1) fun r=>
   if level=1 then .inr r else mN level S n r.2 r.1
def oA(level:Nat)(S:Ps->PM Nat)(p:Ps):PM Nat:=bF (S p) fun q=>mN ts level S (ts.length+1) q.2 q.1
def HI:Ps->PM Nat:=oA ts 3 (iP ts params E)
def HP:Ps->PM Nat:=oA ts 2 (HI ts params E)
def zF:Ps->PM Nat:=oA ts 1 (HP ts params E)
end
def cG(ts:List bH)(params:List BA):Nat->Ps->PM Nat
 |0,p=>eX (aC ts p.1) 2
 |k+1,p=>
  if cD ts 1 nL p.1 then
   bF (cG ts params k (p.1+1,p.2)) fun a=>bF (oL ts sThen a.1.1) fun i=>
   bF (cG ts params k (i,a.1.2)) fun b=>bF (oL ts sElse b.1.1) fun j=>
   bF (cG ts params k (j,b.1.2)) fun c=>iB (aC ts p.1) (5,0,0,⟨#[]⟩,[(a.2:Int),(b.2:Int),(c.2:Int)]) c.1
  else zF ts params (cG ts params k) p
def sJ(ts:List bH):Nat->List BA->Nat->dL⊕(Nat×List BA)
 |0,_,i=>eX (aC ts i) 9
 |n+1,l,i=>bF (nI ts i) fun a=>
  if l.length=8 then eX a.2 2
  else if a.2.2.1∈l then eX a.2 10
  else if cD ts 4 sComma a.1 then sJ ts n (l++[a.2.2.1]) (a.1+1)
  else bF (eK ts sClose a.1) fun j=> .inr (j,l++[a.2.2.1])
def rY(ts:List bH)(i:Nat):dL⊕(Nat×List BA):=
 bF (eK ts sOpen i) fun j=>if cD ts 4 sClose j then .inr (j+1,[]) else sJ ts (ts.length+1) [] j
def eV(s:BA):Int:=if s=zW then 1 else if s=zP then 2 else if s=AD then 3 else 0
def oD(ts:List bH)(before:List Dl)(i:Nat):dL⊕(Nat×Dl):=
 let t:=aC ts i
 let k:=eV t.2.1
 if t.1≠1\/k=0 then eX t 9
 else if before.length=64 then eX t 2
 else bF (if k=3 then nT ts (i+1) else nI ts (i+1)) fun a=>
  if before.any (fun d=>d.1==k&&decide (d.2.1=a.2.2.1)) then eX a.2 10
  else bF (if k=1 then rY ts a.1 else .inr (a.1,[])) fun b=>
   bF (eK ts sEq b.1) fun j=>bF (cG ts b.2 32 (j,[])) fun c=>
   bF (eK ts sSemi c.1.1) fun m=> .inr (m,(k,a.2.2.1,b.2,c.1.2))
def pK(ts:List bH)(pkg:BA):Nat->List BA->Nat->dL⊕(Nat×List BA)
 |0,_,i=>eX (aC ts i) 9
 |n+1,l,i=>
  if cD ts 1 wN i then
   if l.length=8 then eX (aC ts i) 2
   else bF (nI ts (i+1)) fun a=>
    if a.2.2.1=pkg\/a.2.2.1∈l then eX a.2 10
    else bF (eK ts sSemi a.1) fun j=>pK ts pkg n (l++[a.2.2.1]) j
  else .inr (i,l)
def oK(ts:List bH):Nat->List Dl->Nat->dL⊕List Dl
 |0,_,i=>eX (aC ts i) 9
 |n+1,l,i=>if(aC ts i).1=5 then .inr l else bF (oD ts l i) fun a=>oK ts n (l++[a.2]) a.1
def rG(ts:List bH):dL⊕Sr:=
 bF (oL ts sPackage 0) fun i=>bF (nI ts i) fun a=>bF (eK ts sSemi a.1) fun j=>
 bF (pK ts a.2.2.1 (ts.length+1) [] j) fun b=>bF (oK ts (ts.length+1) [] b.1) fun l=> .inr (a.2.2.1,b.2,l)
def HO:Sr:=(⟨#[]⟩,[],[])
def iR(s:BA):Sr×Int×Int:=
 if(iQ s).2.2≠0 then(HO,(iQ s).2.1,(iQ s).2.2)
 else match rG (iQ s).1 with
  | .inl z=>(HO,z.1,z.2)
  | .inr f=>(f,0,0)
def OkT(ts:List bH):Prop:=ts≠[]/\∀i,i<ts.length->((aC ts i).1=5↔i+1=ts.length)
theorem bG{α β:Type}{x:dL⊕α}{f:α->dL⊕β}{b:β}(h:bF x f= .inr b):∃a,x= .inr a/\f a= .inr b:=by
 cases x with
 |inl z=>cases h
 |inr a=>exact⟨a,rfl,h⟩
section
variable {ts:List bH} {params:List BA} {E S:Ps->PM Nat}
theorem OkT.next(h:OkT ts){i:Nat}(hi:i<ts.length)(a:(aC ts i).1≠5):i+1<ts.length:=by
 have b:¬i+1=ts.length:=fun e=>a ((h.2 i hi).2 e)
 omega
theorem KF{k:Int}{s:BA}{i:Nat}(h:cD ts k s i=true):(aC ts i).1=k:=by
 simp only[cD,jI,kY] at h;exact h.1
theorem nX(h:OkT ts){k:Int}{s:BA}{i:Nat}(hi:i<ts.length)(b:k≠5)(a:cD ts k s i=true):i+1<ts.length:=h.next hi (by rw[KF a];exact b)
theorem mJ(h:OkT ts){s:BA}{i j:Nat}(hi:i<ts.length)(a:eK ts s i= .inr j):j=i+1/\j<ts.length/\cD ts 4 s i=true:=by
 unfold eK at a
 split at a
 .rename_i h2
  obtain rfl:=Sum.inr.inj a
  exact⟨rfl,nX h hi (by decide) h2,h2⟩
 cases a
theorem zE(h:OkT ts){s:BA}{i j:Nat}(hi:i<ts.length)(a:oL ts s i= .inr j):j=i+1/\j<ts.length/\cD ts 1 s i=true:=by
 unfold oL at a
 split at a
 .rename_i h2
  obtain rfl:=Sum.inr.inj a
  exact⟨rfl,nX h hi (by decide) h2,h2⟩
 cases a
theorem wH(h:OkT ts){k:Int}(c:k≠5){i:Nat}{a:Nat×bH}(hi:i<ts.length)(b:mC ts k i= .inr a):a=(i+1,aC ts i)/\i+1<ts.length/\(aC ts i).1=k:=by
 unfold mC at b
 split at b
 .rename_i h2
  obtain rfl:=Sum.inr.inj b
  exact⟨rfl,h.next hi (by rw[h2];exact c),h2⟩
 cases b
theorem tC(h:OkT ts){i:Nat}{a:Nat×bH}(hi:i<ts.length)(f:nI ts i= .inr a):a=(i+1,aC ts i)/\i+1<ts.length/\(aC ts i).1=1/\oQ (aC ts i).2.1=false:=by
 obtain⟨b,g,c⟩:=bG f
 obtain⟨rfl,d,e⟩:=wH h (by decide) hi g
 split at c
 .cases c
 rename_i g3
 obtain rfl:=Sum.inr.inj c
 exact⟨rfl,d,e,by simpa using g3⟩
theorem tB(h:OkT ts){i:Nat}{a:Nat×bH}(hi:i<ts.length)(f:nT ts i= .inr a):a=(i+1,aC ts i)/\i+1<ts.length/\(aC ts i).1=3/\lL (aC ts i).2.1.data.toList=true:=by
 obtain⟨b,g,c⟩:=bG f
 obtain⟨rfl,d,e⟩:=wH h (by decide) hi g
 split at c
 .rename_i g3
  obtain rfl:=Sum.inr.inj c
  exact⟨rfl,d,e,g3⟩
 cases c
theorem qAk(h:OkT ts){i:Nat}{a:Nat×bH}(hi:i<ts.length)(f:wZ ts i= .inr a):a=(i+1,aC ts i)/\i+1<ts.length/\(aC ts i).1=3/\iT (aC ts i).2.1=true:=by
 obtain⟨b,g,c⟩:=bG f
 obtain⟨rfl,d,e⟩:=wH h (by decide) hi g
 split at c
 .rename_i g3
  obtain rfl:=Sum.inr.inj c
  exact⟨rfl,d,e,g3⟩
 cases c
theorem wI{t:bH}{x:Ex}{p q:Ps}{i:Nat}(h:iB t x p= .inr (q,i)):q=(p.1,p.2++[x])/\i=p.2.length/\p.2.length≠256:=by
 unfold iB at h
 split at h
 .cases h
 rename_i h1
 obtain⟨rfl,rfl⟩:=Prod.mk.inj (Sum.inr.inj h)
 exact⟨rfl,rfl,h1⟩
def AH(ts:List bH)(p q:Ps):Prop:=p.1<q.1/\q.1<ts.length/\p.2.length<=q.2.length/\q.2.length<=256
def nO(ts:List bH)(S:Ps->PM Nat):Prop:=∀(p q:Ps) (x:Nat),p.1<ts.length->p.2.length<=256->S p= .inr (q,x)->AH ts p q/\x<q.2.length
theorem uF{t:bH}{x:Ex}{p r q:Ps}{i:Nat}(b:p.1<r.1)(c:r.1<ts.length)(d:p.2.length<=r.2.length)(a:r.2.length<=256)(h:iB t x r= .inr (q,i)):AH ts p q/\i<q.2.length:=by
 obtain⟨rfl,rfl,g⟩:=wI h
 refine⟨⟨b,c,?_,?_⟩,?_⟩<;>simp only[j9,jB,jD]<;>omega
theorem PU(h:OkT ts)(f:nO ts E):∀(n:Nat) (l:List Int) (p q:Ps) (x:List Int),p.1<ts.length->p.2.length<=256->qT ts E n l p= .inr (q,x)->AH ts p q
 |0,_,_,_,_,_,_,b=>by cases b
 |n+1,l,p,q,x,v,t,b=>by
  obtain⟨a,s,c⟩:=bG (show bF (E p) _=_ from b)
  obtain⟨⟨B,d,k,e⟩,D⟩:=f p a.1 a.2 v t s
  split at c
  .rename_i hc
   have g:=nX h d (by decide) hc
   obtain⟨y,z,k3,A⟩:=PU h f n _ (a.1.1+1,a.1.2) q x g e c
   exact⟨by simp only at y;omega,z,by simp only at k3;omega,A⟩
  obtain⟨j,u,r⟩:=bG c
  obtain⟨rfl,o,-⟩:=mJ h d u
  obtain⟨rfl,-⟩:=Prod.mk.inj (Sum.inr.inj r)
  exact⟨by simp only;omega,o,k,e⟩
theorem MW(h:OkT ts)(e:nO ts E){p q:Ps}{x:List Int}(f:p.1<ts.length)(c:p.2.length<=256)(d:oY ts E p= .inr (q,x)):AH ts p q:=by
 obtain⟨i,hi,a⟩:=bG d
 obtain⟨rfl,b,-⟩:=mJ h f hi
 split at a
 .rename_i hc
  obtain⟨rfl,-⟩:=Prod.mk.inj (Sum.inr.inj a)
  exact⟨by simp only;omega,nX h b (by decide) hc,jJ _,c⟩
 obtain⟨g,k,k3,l⟩:=PU h e _ _ (p.1+1,p.2) q x b c a
 exact⟨by simp only at g;omega,k,k3,l⟩
theorem YA(h:OkT ts)(K:nO ts E){t:bH}{p q:Ps}{x:Nat}(R:p.1<ts.length)(n:p.2.length<=256)(D:nP ts E t p= .inr (q,x)):AH ts p q/\x<q.2.length:=by
 obtain⟨i,hi,F⟩:=bG D
 obtain⟨rfl,l,-⟩:=mJ h R hi
 obtain⟨a,g,G⟩:=bG F
 obtain⟨j,M,H⟩:=bG G
 have key:AH ts (p.1+1,p.2) a.1:=by
  split at g
  .obtain⟨b,f,e⟩:=bG g
   obtain⟨rfl,k,-⟩:=tB h l f
   obtain⟨c,y,z⟩:=bG e
   obtain⟨rfl,S,-⟩:=mJ h k y
   obtain⟨d,A,B⟩:=bG z
   obtain⟨⟨o,s,u,v⟩,-⟩:=K (p.1+1+1+1,p.2) d.1 d.2 S n A
   obtain rfl:=Sum.inr.inj B
   exact⟨by simp only at o ⊢;omega,s,u,v⟩
  split at g
  .obtain⟨b,f,e⟩:=bG g
   obtain⟨rfl,k,-⟩:=tB h l f
   obtain rfl:=Sum.inr.inj e
   exact⟨by simp only;omega,k,jJ _,n⟩
  split at g
  .obtain⟨b,f,e⟩:=bG g
   obtain⟨rfl,k,-⟩:=tB h l f
   obtain rfl:=Sum.inr.inj e
   exact⟨by simp only;omega,k,jJ _,n⟩
  split at g
  .obtain⟨b,f,e⟩:=bG g
   obtain⟨rfl,k,-⟩:=qAk h l f
   obtain rfl:=Sum.inr.inj e
   exact⟨by simp only;omega,k,jJ _,n⟩
  obtain⟨b,f,e⟩:=bG g
  obtain⟨rfl,k,-⟩:=wH h (by decide) l f
  split at e
  .cases e
  obtain rfl:=Sum.inr.inj e
  exact⟨by simp only;omega,k,jJ _,n⟩
 obtain⟨o,s,u,v⟩:=key
 obtain⟨rfl,e,-⟩:=mJ h s M
 exact uF (r:=(a.1.1+1,a.1.2)) (by simp only at o ⊢;omega) e u v H
theorem NM(h:OkT ts)(u:nO ts E):nO ts (iP ts params E):=by
 intro p q x o c b
 unfold iP at b
 dsimp only at b
 split at b
 .rename_i hk
  exact uF (r:=(p.1+1,p.2)) (by simp only;omega) (h.next o (by rw[hk];decide)) (jJ _) c b
 split at b
 .rename_i hc
  have g:=nX h o (by decide) hc
  obtain⟨a,n,l⟩:=bG b
  obtain⟨rfl,t,-⟩:=wH h (by decide) g n
  exact uF (r:=(p.1+1+1,p.2)) (by simp only;omega) t (jJ _) c l
 split at b
 .rename_i hc
  have g:=nX h o (by decide) hc
  obtain⟨a,n,l⟩:=bG b
  obtain⟨⟨d,e,f,k⟩,s⟩:=u (p.1+1,p.2) a.1 a.2 g c n
  obtain⟨j,y,v⟩:=bG l
  obtain⟨rfl,t,-⟩:=mJ h e y
  obtain⟨rfl,rfl⟩:=Prod.mk.inj (Sum.inr.inj v)
  exact⟨⟨by simp only at d ⊢;omega,t,f,k⟩,s⟩
 split at b
 .cases b
 rename_i hk
 have g:=h.next o (show(aC ts p.1).1≠5 by simp only[ne_eq,Decidable.not_not] at hk;rw[hk];decide)
 split at b
 .obtain⟨⟨d,e,f,k⟩,s⟩:=YA h u (p:=(p.1+1,p.2)) g c b
  exact⟨⟨by simp only at d;omega,e,f,k⟩,s⟩
 split at b
 .cases b
 split at b
 .obtain⟨a,n,l⟩:=bG b
  obtain⟨d,e,f,k⟩:=MW h u (p:=(p.1+1,p.2)) g c n
  exact uF (by simp only at d;omega) e f k l
 split at b
 .exact uF (r:=(p.1+1,p.2)) (by simp only;omega) g (jJ _) c b
 cases b
theorem PH(h:OkT ts){level:Nat}(d:nO ts S):∀(n x:Nat) (p q:Ps) (y:Nat),p.1<ts.length->p.2.length<=256->x<p.2.length->mN ts level S n x p= .inr (q,y)->p.1<=q.1/\q.1<ts.length/\p.2.length<=q.2.length/\q.2.length<=256/\y<q.2.length
 |0,_,_,_,_,_,_,_,b=>by cases b
 |n+1,x,p,q,y,k,e,F,b=>by
  unfold mN at b
  split at b
  .obtain⟨rfl,rfl⟩:=Prod.mk.inj (Sum.inr.inj b)
   exact⟨jJ _,k,jJ _,e,F⟩
  rename_i hop
  have f:(aC ts p.1).1≠5:=by
   intro f
   apply hop
   unfold lS
   have:opsC.find? (oG ts level p.1)=none:=by
    rw[List.find?_eq_none]
    intro o _ c
    simp only[oG,jI] at c
    have:=KF c.1
    omega
   rw[this]
  have g:=h.next k f
  obtain⟨a,D,B⟩:=bG b
  obtain⟨⟨u,v,z,A⟩,M⟩:=d (p.1+1,p.2) a.1 a.2 g e D
  obtain⟨r,E,c⟩:=bG B
  obtain⟨⟨V,l,k3,s⟩,t⟩:=uF (ts:=ts) (p:=p) (by simp only at u;omega) v z A E
  split at c
  .obtain⟨rfl,rfl⟩:=Prod.mk.inj (Sum.inr.inj c)
   exact⟨by omega,l,k3,s,t⟩
  obtain⟨R,G,U,H,K⟩:=PH h d n _ _ q y l s t c
  exact⟨by omega,G,by omega,H,K⟩
theorem CP(h:OkT ts){level:Nat}(b:nO ts S):nO ts (oA ts level S):=by
 intro p q x n l f
 obtain⟨a,k,g⟩:=bG f
 obtain⟨⟨t,c,u,d⟩,e⟩:=b p a.1 a.2 n l k
 obtain⟨v,o,y,r,s⟩:=PH h b _ _ _ q x c d e g
 exact⟨⟨by omega,o,by omega,r⟩,s⟩
theorem uE(h:OkT ts):∀k,nO ts (cG ts params k)
 |0=>fun _ _ _ _ _ d=>by cases d
 |k+1=>by
  intro p q x n e d
  unfold cG at d
  split at d
  .rename_i hc
   have g:=nX h n (by decide) hc
   obtain⟨a,U,H⟩:=bG d
   obtain⟨⟨o,r,s,t⟩,-⟩:=uE h k (p.1+1,p.2) a.1 a.2 g e U
   obtain⟨i,hi,K⟩:=bG H
   obtain⟨rfl,F,-⟩:=zE h r hi
   obtain⟨b,f,M⟩:=bG K
   obtain⟨⟨u,v,y,z⟩,-⟩:=uE h k (a.1.1+1,a.1.2) b.1 b.2 F t f
   obtain⟨j,V,R⟩:=bG M
   obtain⟨rfl,G,-⟩:=zE h v V
   obtain⟨c,l,S⟩:=bG R
   obtain⟨⟨A,B,D,E⟩,-⟩:=uE h k (b.1.1+1,b.1.2) c.1 c.2 G z l
   simp only at o s u y A D
   exact uF (by omega) B (by omega) E S
  exact CP h (CP h (CP h (NM h (uE h k)))) p q x n e d
end
theorem qHc{ts:List bH}{i:Nat}(hi:i<ts.length):idx ts (i:Int)=some (aC ts i):=by
 rw[eZ hi]
 simp[aC,jP,hi]
theorem qL{i:Nat}(h:i<1000000):IntKind.wrap .i64 ((i:Int)+1)=((i+1:Nat):Int):=by rw[bT (by omega) (by omega)];omega
section
variable {N:Nat} {ts:List bH} {pr:List BA} {b:List Ex} {i:Nat}
theorem qI(hi:i<ts.length):oH N (ts,(i:Int),pr,b)=some ((ts,(i:Int),pr,b),aC ts i):=by
 simp only[oH,qHc hi,j0]
theorem zS(hi:i<ts.length)(k:Int)(s:BA):rS N (ts,(i:Int),pr,b) k s=some ((ts,(i:Int),pr,b),cD ts k s i):=by
 simp only[rS,qI hi,j0,oZ,cD]
 cases h:(aC ts i).1==k<;>simp[h]
theorem KU(hi:i<ts.length)(a:ts.length<1000000)(s:BA):vF N (ts,(i:Int),pr,b) s=some (Sum.map id (fun j:Nat=>(ts,(j:Int),pr,b)) (oL ts s i)):=by
 simp only[vF,zS hi,qI hi,j0,eT,oL]
 cases h:cD ts 1 s i
 .simp[eX]
 simp[qL (show i<1000000 by omega)]
theorem qJ(hi:i<ts.length)(a:ts.length<1000000)(s:BA):mW N (ts,(i:Int),pr,b) s=some (Sum.map id (fun j:Nat=>(ts,(j:Int),pr,b)) (eK ts s i)):=by
 simp only[mW,zS hi,qI hi,j0,eT,eK]
 cases h:cD ts 4 s i
 .simp[eX]
 simp[qL (show i<1000000 by omega)]
theorem zB(hi:i<ts.length)(a:ts.length<1000000)(s:BA):rR N (ts,(i:Int),pr,b) s=some (if cD ts 4 s i then((ts,((i+1:Nat):Int),pr,b),true) else((ts,(i:Int),pr,b),false)):=by
 simp only[rR,zS hi,j0]
 cases h:cD ts 4 s i
 .simp
 simp[qL (show i<1000000 by omega)]
theorem DL(hi:i<ts.length)(f:ts.length<1000000){k:Int}(e:k≠5):sT N (ts,(i:Int),pr,b) k=some (Sum.map id (fun a:Nat×bH=>((ts,(a.1:Int),pr,b),a.2)) (mC ts k i)):=by
 simp only[sT,qI hi,j0,eT,mC]
 have d:(k !=5)=true:=by simpa using e
 by_cases h:(aC ts i).1=k
 .have c:((aC ts i).1 !=k)=false:=by simp[h]
  simp only[c,d,jE,kA,kI,j0,if_pos h,qL (show i<1000000 by omega),kK]
 have c:((aC ts i).1 !=k)=true:=by simp[h]
 simp only[c,kI,j0,if_neg h,eX,Sum.map_inl,id]
theorem orS(a b:Bool):(if a=true then some a else some b)=some (a||b):=by
 cases a<;>simp
theorem qIp(b:Bool):(if b=true then some true else some false)=some b:=by cases b<;>simp
theorem IN(s:BA):vN N s=some (oQ s):=by
 simp only[vN,oZ,oQ,DS,sPackage,wN,zW,zP,AD,nL,sThen,sElse,sRead,sSize,sHas,sEnv,sFlip,jT,kW,hH]
 simp only[orS,j0,qIp,jH]
 simp only[Bool.decide_or]
theorem GU(hi:i<ts.length)(c:ts.length<1000000):sU N (ts,(i:Int),pr,b)=some (Sum.map id (fun a:Nat×bH=>((ts,(a.1:Int),pr,b),a.2)) (nI ts i)):=by
 simp only[sU,DL hi c (show(1:Int)≠5 by decide),j0,eT,nI]
 cases h:mC ts 1 i with
 |inl z=>simp[bF]
 |inr a=>
  simp only[kK,IN,j0,bF]
  cases h2:oQ a.2.2.1<;>simp[eX]
theorem GT(hi:i<ts.length)(d:ts.length<1000000)(g:300000<N)(f:∀j,(aC ts j).2.1.size<100000):sS N (ts,(i:Int),pr,b)=some (Sum.map id (fun a:Nat×bH=>((ts,(a.1:Int),pr,b),a.2)) (nT ts i)):=by
 simp only[sS,DL hi d (show(3:Int)≠5 by decide),j0,eT,nT]
 cases h:mC ts 3 i with
 |inl z=>simp[bF]
 |inr a=>
  have c:a.2=aC ts i:=by
   unfold mC at h
   split at h
   .rw[<-Sum.inr.inj h]
   cases h
  have e:=f i
  rw[<-c] at e
  simp only[kK,KT (N:=N) (s:=a.2.2.1) (by omega) (by omega),j0,bF]
  cases h2:lL a.2.2.1.data.toList<;>simp[eX]
theorem wO(t:bH)(x:Ex)(d:b.length<=256)(n:Nat):qC N (ts,(n:Int),pr,b) t x=some (Sum.map id (fun q:Ps×Nat=>((ts,(q.1.1:Int),pr,q.1.2),(q.2:Int))) (iB t x (n,b))):=by
 simp only[qC,eT,j0,iB]
 by_cases h:b.length=256
 .simp[h,eX]
 have a:((b.length:Int)==256)=false:=by simp;omega
 have c:IntKind.wrap .i64 (((b.length+1:Nat):Int)-1)=(b.length:Int):=by rw[bT (by omega) (by omega)];omega
 simp only[a,jE,kA,j0,if_neg h,kK]
 rw[rU (by simp only[jB,jD];omega) (by omega)]
 simp only[j0,j9,jB,jD,kG,c]
end
theorem PA{N:Nat}{s:BA}{l:List BA}(a:l.length<1000000):∀(d i M:Nat),i+d=l.length->d<M->
  aS (sQ N l s) M (i:Int)=some (match(l.drop i).findIdx? (fun x=>decide (x=s)) with|some j=> .inr (((i+j:Nat):Int))|none=> .inl ())
 |d,i,0,_,h=>by omega
 |0,i,M+1,h,_=>by
  have:l.drop i=[]:=kN (by omega)
  simp only[aS,sQ,this,List.findIdx?_nil]
  rw[if_neg (by simp only[jA];omega)]
  rfl
 |d+1,i,M+1,h,c=>by
  have hi:i<l.length:=by omega
  have b:=PA (N:=N) (s:=s) a d (i+1) M (by omega) (by omega)
  simp only[aS,sQ]
  rw[if_pos (by simp only[jA];omega),eZ hi,kO hi,List.findIdx?_cons]
  simp only[j0,oZ,jA]
  by_cases hs:l[i]=s
  .rw[if_pos hs.symm,if_pos hs];simp
  rw[if_neg (fun e=>hs e.symm),if_neg hs]
  simp only[j0,qL (show i<1000000 by omega),b]
  cases(l.drop (i+1)).findIdx? (fun x=>decide (x=s)) with
  |none=>rfl
  |some j=>simp only[kP];congr 2;omega
theorem RI{N:Nat}{s:BA}{l:List BA}(b:l.length<1000000)(a:l.length<N):
  uX N l s=some (match l.findIdx? (fun x=>decide (x=s)) with|some j=>(j:Int)|none=> -1):=by
 have h:=PA (N:=N) (s:=s) b l.length 0 N (by omega) a
 simp only[kJ,kG] at h
 simp only[uX]
 rw[show(0:Int)=((0:Nat):Int) from rfl,h]
 simp only[j0]
 cases l.findIdx? (fun x=>decide (x=s))<;>rfl
theorem YK{s:BA}{l:List BA}:(l.findIdx? (fun x=>decide (x=s))).isSome=decide (s∈l):=by
 rw[List.findIdx?_isSome]
 rw[fA]
 simp only[gR,jA]
 exact⟨fun⟨x,a,b⟩=>b▸a,fun h=>⟨s,h,rfl⟩⟩
theorem NO{N:Nat}{s:BA}{l:List BA}(b:l.length<1000000)(a:l.length<N):
  rQ N l s=some (decide (s∈l)):=by
 simp only[rQ,RI b a,j0,<-YK]
 cases l.findIdx? (fun x=>decide (x=s)) with
 |none=>rfl
 |some j=>simp only[Option.isSome_some];rw[kS (show(j:Int)>=0 by omega)]
theorem qBl{α:Type}{g:α->Bool}{l k:List α}(n:∀a∈l,∀b∈l,g a=true->g b=true->a=b)(d:k.Perm l):k.find? g=l.find? g:=by
 cases h:l.find? g with
 |none=>
  rw[List.find?_eq_none] at h ⊢
  exact fun x c=>h x (d.mem_iff.1 c)
 |some a=>
  have e:=gU h
  have f:=List.find?_some h
  cases c:k.find? g with
  |none=>exact absurd f (by simpa using List.find?_eq_none.1 c a (d.mem_iff.2 e))
  |some b=>rw[n b (d.mem_iff.1 (gU c)) a e (List.find?_some c) f]
theorem qCp:∀a∈opsC,∀b∈opsC,a.2=b.2->a=b:=by
 have h:(opsC.all fun a=>opsC.all fun b=> !(decide (a.2=b.2))||decide (a=b))=true:=by kernel_rfl
 intro a c b d e
 have:=jV.1 (jV.1 h a c) b d
 simpa[e] using this
section
variable {N:Nat} {ts:List bH} {pr:List BA} {b:List Ex} {i:Nat}
theorem qCf(op:Int):vQ N op=some ((pH op:Nat):Int):=by
 by_cases h1:op=6
 .subst h1;rfl
 by_cases h2:op=7
 .subst h2;rfl
 by_cases h3:op=1
 .subst h3;rfl
 by_cases h4:op=2
 .subst h4;rfl
 simp[vQ,pH,h1,h2,h3,h4]
theorem SX(level:Nat){t:bH}(a:t=aC ts i):∀k:List (Int×BA),lR (tY N (level:Int) ((ts,(i:Int),pr,b),t)) k ()=
  some (match k.find? (oG ts level i) with|some o=> .inr ((ts,(i:Int),pr,b),o.1)|none=> .inl ())
 |[]=>rfl
 |o::k=>by
  have key:tY N (level:Int) ((ts,(i:Int),pr,b),t) (some o) ()=some (if oG ts level i o then .inr (.inr ((ts,(i:Int),pr,b),o.1)) else .inl ()):=by
   subst a
   simp only[tY,qCf,j0,oZ,oG,cD]
   have c:(((pH o.1:Nat):Int)==(level:Int))=decide (pH o.1=level):=by
    rw[fA];simp only[kY,jA];omega
   rw[c]
   by_cases h1:(aC ts i).1=4<;>by_cases h2:(aC ts i).2.1=o.2<;>by_cases h3:pH o.1=level<;>simp[h1,h2,h3]
  simp only[lR,key,j0,List.find?_cons]
  cases h:oG ts level i o with
  |true=>rfl
  |false=>exact SX level a k
theorem qDd:yR N=some (some opsC):=by kernel_rfl
theorem ZG(hi:i<ts.length)(level:Nat):BJ N (ts,(i:Int),pr,b) (level:Int)=some ((ts,(i:Int),pr,b),lS ts level i):=by
 simp only[BJ,qI hi,qDd,j0,isQ,kP,Option.getD_some]
 have h:∀a∈opsC,∀b∈opsC,oG ts level i a=true->oG ts level i b=true->a=b:=by
  intro a e b g c d
  simp only[oG,cD,jI,jA] at c d
  exact qCp a e b g (c.1.2.symm.trans d.1.2)
 have key:=QB (f:=tY N (level:Int) ((ts,(i:Int),pr,b),aC ts i)) (l:=opsC) (s:=()) fun k c=>by
  rw[SX level rfl k,qBl h c]
 rw[key]
 unfold lS
 cases opsC.find? (oG ts level i)<;>rfl
end
abbrev iH:=List bH×Int×List BA×List Ex
def cR(ts:List bH)(pr:List BA)(p:Ps):iH:=(ts,(p.1:Int),pr,p.2)
def eN(ts:List bH)(pr:List BA):PM Nat->dL⊕(iH×Int):=Sum.map id fun q=>(cR ts pr q.1,(q.2:Int))
def AE(ts:List bH)(pr:List BA):PM (List Int)->dL⊕(iH×List Int):=Sum.map id fun q=>(cR ts pr q.1,q.2)
section
variable {N:Nat} {ts:List bH} {pr:List BA} {E S:Ps->PM Nat} {d:Int}
variable {r1:iH->bH->Int->Option (dL⊕(iH×Int))} {r2:iH->Int->Option (dL⊕(iH×List Int))} {r3:iH->Int->Option (dL⊕(iH×Int))} {r4:iH->Int->Int->Option (dL⊕(iH×Int))} {r5:iH->Int->Option (dL⊕(iH×Int))}
theorem QD(k:OkT ts)(r:ts.length<1000000)(t:nO ts E)(u:∀p:Ps,p.1<ts.length->p.2.length<=256->r5 (cR ts pr p) (IntKind.wrap .i64 (d+1))=some (eN ts pr (E p))):
  ∀(n M:Nat) (l:List Int) (p:Ps),p.1<ts.length->p.2.length<=256->l.length<=p.1->ts.length<p.1+n->ts.length<p.1+M->
  ((aS (AR N r5 d) M (l,ts,(p.1:Int),pr,p.2)).bind fun s=>(match s with| .inl a=>(mW N (a.2.1,a.2.2.1,a.2.2.2.1,a.2.2.2.2) (⟨#[41]⟩:BA)).bind fun A=>(match A with| .inl B=>some (.inl B)| .inr e=>some (.inr ((e.1,e.2.1,e.2.2.1,e.2.2.2),a.1)))| .inr (z)=>some z))=some (AE ts pr (qT ts E n l p))
 |0,M,l,p,c,_,_,h,_=>by omega
 |n+1,0,l,p,c,_,_,_,h=>by omega
 |n+1,M+1,l,p,c,v,D,R,K=>by
  have f:=u p c v
  simp only[cR] at f
  simp only[aS,AR,qT,f,j0]
  cases hq:E p with
  |inl z=>simp only[eN,Sum.map_inl,id,bF,AE,j0]
  |inr q=>
   obtain⟨⟨F,o,G,x⟩,H⟩:=t p q.1 q.2 c v hq
   simp only[eN,kK,bF,cR]
   rw[rU (by simp only[jB,jD];omega) (by omega)]
   simp only[j0,zB o r,sComma]
   rcases qO (cD ts 4 ⟨#[44]⟩ q.1.1) with b|b
   .have g:=nX k o (by decide) b
    have y:=QD k r t u n M (l++[(q.2:Int)]) (q.1.1+1,q.1.2) g x (by simp only[j9,jB,jD];omega) (by simp only;omega) (by simp only;omega)
    simp only[b,kI,fN,jE,kA,j0]
    exact y
   simp only[b,jE,kA,fS,kI,j0,qJ o r,sClose]
   cases eK ts ⟨#[41]⟩ q.1.1 with
   |inl z=>rfl
   |inr j=>rfl
theorem YU(a:OkT ts)(c:ts.length<1000000)(n:ts.length<N)(f:nO ts E)(k:∀p:Ps,p.1<ts.length->p.2.length<=256->r5 (cR ts pr p) (IntKind.wrap .i64 (d+1))=some (eN ts pr (E p)))
  (p:Ps) (e:p.1<ts.length) (l:p.2.length<=256):AV N r1 r2 r3 r4 r5 (cR ts pr p) d=some (AE ts pr (oY ts E p)):=by
 simp only[AV,cR,qJ e c,j0,oY,sOpen]
 cases h:eK ts ⟨#[40]⟩ p.1 with
 |inl z=>rfl
 |inr i=>
  obtain⟨rfl,g,-⟩:=mJ a e h
  simp only[kK,bF,zB g c,j0,sClose]
  rcases qO (cD ts 4 ⟨#[41]⟩ (p.1+1)) with b|b
  .simp only[b,kI];rfl
  simp only[b,jE,kA]
  exact QD a c f k (ts.length+1) N [] (p.1+1,p.2) g l (by simp) (by simp only;omega) (by simp only;omega)
theorem qBk(c:OkT ts)(f:ts.length<1000000)(n:300000<N)(o:∀j,(aC ts j).2.1.size<100000)(A:nO ts E)(B:∀p:Ps,p.1<ts.length->p.2.length<=256->r5 (cR ts pr p) (IntKind.wrap .i64 (d+1))=some (eN ts pr (E p)))
  (t:bH) (p:Ps) (s:p.1<ts.length) (l:p.2.length<=256):BD N r1 r2 r3 r4 r5 (cR ts pr p) t d=some (eN ts pr (nP ts E t p)):=by
 have fin:∀(b:Int×Int×BA×List Int×iH) (q:Ps) (x:Ex),b.2.2.2.2=cR ts pr q->x=(b.1,b.2.1,0,b.2.2.1,b.2.2.2.1)->q.1<ts.length->q.2.length<=256->
   ((mW N (b.2.2.2.2.1,b.2.2.2.2.2.1,b.2.2.2.2.2.2.1,b.2.2.2.2.2.2.2) (⟨#[41]⟩:BA)).bind fun r=>(match r with| .inl v=>some (.inl v)| .inr k=>(qC N (k.1,k.2.1,k.2.2.1,k.2.2.2) (t.1,t.2.1,t.2.2.1,t.2.2.2) (b.1,b.2.1,0,b.2.2.1,b.2.2.2.1)).bind fun u=>(match u with| .inl y=>some (.inl y)| .inr e=>some (.inr ((e.1.1,e.1.2.1,e.1.2.2.1,e.1.2.2.2),e.2)))))=
   some (eN ts pr (bF (eK ts sClose q.1) fun i=>iB t x (i,q.2))):=by
  intro b q x k u r e
  subst u
  rw[k]
  simp only[cR,qJ r f,j0,sClose]
  cases hj:eK ts ⟨#[41]⟩ q.1 with
  |inl z=>rfl
  |inr j=>
   simp only[kK,bF,wO _ _ e,j0]
   cases iB t (b.1,b.2.1,0,b.2.2.1,b.2.2.2.1) (j,q.2)<;>rfl
 simp only[BD,cR,qJ s f,j0,nP,sOpen]
 cases h:eK ts ⟨#[40]⟩ p.1 with
 |inl z=>rfl
 |inr i=>
  obtain⟨rfl,g,-⟩:=mJ c s h
  simp only[kK,bF,oZ,jA]
  by_cases k1:t.2.1=sRead
  .rw[if_pos (show t.2.1=(⟨#[114,101,97,100]⟩:BA) from k1),if_pos k1]
   simp only[GT g f n o,j0]
   cases h1:nT ts (p.1+1) with
   |inl z=>rfl
   |inr a=>
    obtain⟨rfl,e,-⟩:=tB c g h1
    simp only[kK,qJ e f,j0,sComma]
    cases h2:eK ts ⟨#[44]⟩ (p.1+1+1) with
    |inl z=>rfl
    |inr j=>
     obtain⟨rfl,r,-⟩:=mJ c e h2
     have k:=B (p.1+1+1+1,p.2) r l
     simp only[cR] at k
     simp only[kK,k,j0]
     cases h3:E (p.1+1+1+1,p.2) with
     |inl z=>rfl
     |inr q=>
      obtain⟨⟨y,u,D,v⟩,F⟩:=A (p.1+1+1+1,p.2) q.1 q.2 r l h3
      exact fin (6,0,(aC ts (p.1+1)).2.1,[(q.2:Int)],ts,(q.1.1:Int),pr,q.1.2) q.1 _ rfl rfl u v
  rw[if_neg (show ¬t.2.1=(⟨#[114,101,97,100]⟩:BA) from k1),if_neg k1]
  by_cases k2:t.2.1=sSize
  .rw[if_pos (show t.2.1=(⟨#[115,105,122,101]⟩:BA) from k2),if_pos k2]
   simp only[GT g f n o,j0]
   cases h1:nT ts (p.1+1) with
   |inl z=>rfl
   |inr a=>
    obtain⟨rfl,e,-⟩:=tB c g h1
    exact fin (7,0,(aC ts (p.1+1)).2.1,[],ts,((p.1+1+1:Nat):Int),pr,p.2) (p.1+1+1,p.2) _ rfl rfl e l
  rw[if_neg (show ¬t.2.1=(⟨#[115,105,122,101]⟩:BA) from k2),if_neg k2]
  by_cases k3:t.2.1=sHas
  .rw[if_pos (show t.2.1=(⟨#[104,97,115]⟩:BA) from k3),if_pos k3]
   simp only[GT g f n o,j0]
   cases h1:nT ts (p.1+1) with
   |inl z=>rfl
   |inr a=>
    obtain⟨rfl,e,-⟩:=tB c g h1
    exact fin (8,0,(aC ts (p.1+1)).2.1,[],ts,((p.1+1+1:Nat):Int),pr,p.2) (p.1+1+1,p.2) _ rfl rfl e l
  rw[if_neg (show ¬t.2.1=(⟨#[104,97,115]⟩:BA) from k3),if_neg k3]
  by_cases k4:t.2.1=sEnv
  .rw[if_pos (show t.2.1=(⟨#[101,110,118]⟩:BA) from k4),if_pos k4]
   simp only[DL g f (show(3:Int)≠5 by decide),j0,wZ]
   cases h1:mC ts 3 (p.1+1) with
   |inl z=>rfl
   |inr a=>
    obtain⟨rfl,e,-⟩:=wH c (by decide) g h1
    simp only[kK,KZ (N:=N) (by omega),j0,bF,eT]
    cases h2:iT (aC ts (p.1+1)).2.1 with
    |false=>rfl
    |true=>exact fin (9,0,(aC ts (p.1+1)).2.1,[],ts,((p.1+1+1:Nat):Int),pr,p.2) (p.1+1+1,p.2) _ rfl rfl e l
  rw[if_neg (show ¬t.2.1=(⟨#[101,110,118]⟩:BA) from k4),if_neg k4]
  simp only[DL g f (show(2:Int)≠5 by decide),j0]
  cases h1:mC ts 2 (p.1+1) with
  |inl z=>rfl
  |inr a=>
   obtain⟨rfl,e,-⟩:=wH c (by decide) g h1
   simp only[kK,eT,j0]
   by_cases h2:(aC ts (p.1+1)).2.2.1>=64
   .simp only[if_pos h2,j0];rfl
   simp only[if_neg h2,j0]
   exact fin (10,(aC ts (p.1+1)).2.2.1,⟨#[]⟩,[],ts,((p.1+1+1:Nat):Int),pr,p.2) (p.1+1+1,p.2) _ rfl rfl e l
end
section
variable {N:Nat} {ts:List bH} {pr:List BA} {E S:Ps->PM Nat} {d:Int}
variable {r1:iH->bH->Int->Option (dL⊕(iH×Int))} {r2:iH->Int->Option (dL⊕(iH×List Int))} {r3:iH->Int->Option (dL⊕(iH×Int))} {r4:iH->Int->Int->Option (dL⊕(iH×Int))} {r5:iH->Int->Option (dL⊕(iH×Int))}
theorem qHt(x:BA):(decide (x=(⟨#[114,101,97,100]⟩:BA))||(decide (x=(⟨#[115,105,122,101]⟩:BA))||(decide (x=(⟨#[104,97,115]⟩:BA))||(decide (x=(⟨#[101,110,118]⟩:BA))||decide (x=(⟨#[102,108,105,112]⟩:BA))))))=decide (x∈[sRead,sSize,sHas,sEnv,sFlip]):=by
 simp only[sRead,sSize,sHas,sEnv,sFlip,jT,kW,hH,Bool.decide_or]
theorem qEd(c:OkT ts)(o:ts.length<1000000)(K:pr.length<1000)(M:300000<N)(y:nO ts E)(H:∀p:Ps,p.1<ts.length->p.2.length<=256->r5 (cR ts pr p) (IntKind.wrap .i64 (d+1))=some (eN ts pr (E p)))
  (F:∀(t:bH) (p:Ps),p.1<ts.length->p.2.length<=256->r1 (cR ts pr p) t d=some (eN ts pr (nP ts E t p)))
  (G:∀p:Ps,p.1<ts.length->p.2.length<=256->r2 (cR ts pr p) d=some (AE ts pr (oY ts E p)))
  (p:Ps) (k:p.1<ts.length) (b:p.2.length<=256):BH N r1 r2 r3 r4 r5 (cR ts pr p) d=some (eN ts pr (iP ts pr E p)):=by
 have A:=qL (show p.1<1000000 by omega)
 simp only[BH,cR,qI k,j0,iP]
 by_cases k1:(aC ts p.1).1=2
 .rw[if_pos (show((aC ts p.1).1==2)=true by simpa using k1),if_pos k1,A]
  simp only[wO _ _ b,j0]
  cases iB (aC ts p.1) (1,(aC ts p.1).2.2.1,0,⟨#[]⟩,[]) (p.1+1,p.2)<;>rfl
 rw[if_neg (show ¬((aC ts p.1).1==2)=true by simpa using k1),if_neg k1]
 simp only[zB k o,j0]
 rcases qO (cD ts 4 sMinus p.1) with e|e
 .have c1':cD ts 4 ⟨#[45]⟩ p.1=true:=e
  have g:=nX c k (by decide) e
  simp only[e,c1',kI,DL g o (show(2:Int)≠5 by decide),j0]
  cases h:mC ts 2 (p.1+1) with
  |inl z=>rfl
  |inr a=>
   simp only[kK,bF,wO _ _ b,j0]
   cases iB (aC ts p.1) (1,IntKind.wrap .i64 (0-a.2.2.2.1),0,⟨#[]⟩,[]) (a.1,p.2)<;>rfl
 have c1':cD ts 4 ⟨#[45]⟩ p.1=false:=e
 simp only[e,c1',jE,kA,zB k o,j0]
 rcases qO (cD ts 4 sOpen p.1) with f|f
 .have c2':cD ts 4 ⟨#[40]⟩ p.1=true:=f
  have g:=nX c k (by decide) f
  have n:=H (p.1+1,p.2) g b
  simp only[cR] at n
  simp only[f,c2',kI,n,j0]
  cases h:E (p.1+1,p.2) with
  |inl z=>rfl
  |inr q=>
   obtain⟨⟨B,u,D,v⟩,r⟩:=y (p.1+1,p.2) q.1 q.2 g b h
   simp only[eN,kK,bF,cR,qJ u o,j0,sClose]
   cases eK ts ⟨#[41]⟩ q.1.1<;>rfl
 have c2':cD ts 4 ⟨#[40]⟩ p.1=false:=f
 simp only[f,c2',jE,kA,eT,j0]
 by_cases k2:(aC ts p.1).1=1
 rotate_left
 .rw[if_pos (show((aC ts p.1).1 !=1)=true by simpa using k2),if_pos k2];rfl
 rw[if_neg (show ¬((aC ts p.1).1 !=1)=true by simpa using k2),if_neg (show ¬(aC ts p.1).1≠1 by simpa using k2)]
 have g:=c.next k (show(aC ts p.1).1≠5 by rw[k2];decide)
 simp only[j0,oZ,orS,qHt,A]
 by_cases k3:(aC ts p.1).2.1∈[sRead,sSize,sHas,sEnv,sFlip]
 .rw[if_pos (show decide ((aC ts p.1).2.1∈[sRead,sSize,sHas,sEnv,sFlip])=true from kS k3),if_pos k3]
  have h1p:=F (aC ts p.1) (p.1+1,p.2) g b
  simp only[cR] at h1p
  simp only[h1p,j0]
  cases nP ts E (aC ts p.1) (p.1+1,p.2)<;>rfl
 rw[if_neg (show ¬decide ((aC ts p.1).2.1∈[sRead,sSize,sHas,sEnv,sFlip])=true by simpa using k3),if_neg k3]
 simp only[IN,j0]
 rcases qO (oQ (aC ts p.1).2.1) with r|r
 .simp only[r,kI,j0];rfl
 simp only[r,jE,kA,j0,zS g]
 rcases qO (cD ts 4 sOpen (p.1+1)) with n|n
 .have c4':cD ts 4 ⟨#[40]⟩ (p.1+1)=true:=n
  have h2p:=G (p.1+1,p.2) g b
  simp only[cR] at h2p
  simp only[n,c4',kI,h2p,j0]
  cases h:oY ts E (p.1+1,p.2) with
  |inl z=>rfl
  |inr q=>
   obtain⟨B,u,D,v⟩:=MW c y (p:=(p.1+1,p.2)) g b h
   simp only[AE,kK,bF,cR,wO _ _ v,j0]
   cases iB (aC ts p.1) (3,0,0,(aC ts p.1).2.1,q.2) (q.1.1,q.1.2)<;>rfl
 have c4':cD ts 4 ⟨#[40]⟩ (p.1+1)=false:=n
 simp only[n,c4',jE,kA,RI (N:=N) (l:=pr) (s:=(aC ts p.1).2.1) (by omega) (by omega),j0]
 cases pr.findIdx? (fun x=>decide (x=(aC ts p.1).2.1)) with
 |none=>rfl
 |some j=>
  simp only[jA]
  rw[if_neg (by omega)]
  simp only[j0,wO _ _ b]
  cases iB (aC ts p.1) (2,(j:Int),0,⟨#[]⟩,[]) (p.1+1,p.2)<;>rfl
theorem qCd(a:∀p:Ps,p.1<ts.length->p.2.length<=256->r3 (cR ts pr p) d=some (eN ts pr (S p)))(p:Ps)(c:p.1<ts.length)(b:p.2.length<=256):
  uY N r1 r2 r3 r4 r5 (cR ts pr p) 4 d=some (eN ts pr (S p)):=by
 have h3p:=a p c b
 simp only[cR] at h3p
 simp only[uY,cR,h3p,j0]
 cases S p<;>rfl
theorem QM(c:OkT ts)(B:ts.length<1000000)(k:nO ts S){L:Nat}(A:L<4)(f:∀p:Ps,p.1<ts.length->p.2.length<=256->r4 (cR ts pr p) ((L:Int)+1) d=some (eN ts pr (S p))):
  ∀(n M x:Nat) (p:Ps),p.1<ts.length->p.2.length<=256->x<p.2.length->ts.length<p.1+n->ts.length<p.1+M->
  aS (BF N r4 (L:Int) d) M ((x:Int),ts,(p.1:Int),pr,p.2)=some (eN ts pr (mN ts L S n x p))
 |0,M,x,p,b,_,_,h,_=>by omega
 |n+1,0,x,p,b,_,_,_,h=>by omega
 |n+1,M+1,x,p,b,l,U,R,K=>by
  have D:=qL (show p.1<1000000 by omega)
  have t:IntKind.wrap .i64 ((L:Int)+1)=(L:Int)+1:=bT (by omega) (by omega)
  simp only[aS,BF,mN,ZG b,j0]
  by_cases a:lS ts L p.1=0
  .rw[if_pos (show(lS ts L p.1==0)=true by simpa using a),if_pos a];rfl
  rw[if_neg (show ¬(lS ts L p.1==0)=true by simpa using a),if_neg a]
  have s:(aC ts p.1).1≠5:=by
   intro s
   apply a
   unfold lS
   have:opsC.find? (oG ts L p.1)=none:=by
    rw[List.find?_eq_none]
    intro o _ e
    simp only[oG,jI] at e
    have:=KF e.1
    omega
   rw[this]
  have g:=c.next b s
  have h4p:=f (p.1+1,p.2) g l
  simp only[cR] at h4p
  simp only[qI b,j0,D,t,h4p]
  cases h:S (p.1+1,p.2) with
  |inl z=>rfl
  |inr q=>
   obtain⟨⟨u,v,y,e⟩,H⟩:=k (p.1+1,p.2) q.1 q.2 g l h
   simp only[eN,kK,bF,cR,wO _ _ e,j0]
   cases hn2:iB (aC ts p.1) (4,0,lS ts L p.1,⟨#[]⟩,[(x:Int),(q.2:Int)]) (q.1.1,q.1.2) with
   |inl z=>rfl
   |inr r=>
    obtain⟨⟨a,E,k3,F⟩,G⟩:=uF (ts:=ts) (p:=p) (r:=(q.1.1,q.1.2)) (by simp only at u ⊢;omega) v y e hn2
    simp only[kK]
    by_cases k6:L=1
    .subst k6
     rfl
    rw[if_neg (show ¬((L:Int)==1)=true by simp;omega),if_neg k6]
    simp only[j0]
    exact QM c B k A f n M r.2 r.1 E F G (by omega) (by omega)
theorem JP(e:OkT ts)(r:ts.length<1000000)(u:1000001<N)(b:nO ts S){L:Nat}(o:L<4)(a:∀p:Ps,p.1<ts.length->p.2.length<=256->r4 (cR ts pr p) ((L:Int)+1) d=some (eN ts pr (S p)))
  (p:Ps) (f:p.1<ts.length) (c:p.2.length<=256):uY N r1 r2 r3 r4 r5 (cR ts pr p) (L:Int) d=some (eN ts pr (oA ts L S p)):=by
 have g:IntKind.wrap .i64 ((L:Int)+1)=(L:Int)+1:=bT (by omega) (by omega)
 have h4p:=a p f c
 simp only[cR] at h4p
 simp only[uY,cR,oA,g,h4p,j0]
 rw[if_neg (show ¬((L:Int)==4)=true by simp;omega)]
 cases h:S p with
 |inl z=>rfl
 |inr q=>
  obtain⟨⟨s,k,t,l⟩,n⟩:=b p q.1 q.2 f c h
  simp only[eN,kK,bF,cR]
  rw[QM e r b o a (ts.length+1) N q.2 q.1 k l n (by omega) (by omega)]
  rfl
theorem qIf{k:Nat}(f:OkT ts)(B:ts.length<1000000)(Z:d+k=32)(hk:k<33)(q:nO ts (cG ts pr k))(r:∀p:Ps,p.1<ts.length->p.2.length<=256->r5 (cR ts pr p) (IntKind.wrap .i64 (d+1))=some (eN ts pr (cG ts pr k p)))
  (E:∀p:Ps,p.1<ts.length->p.2.length<=256->r4 (cR ts pr p) 1 d=some (eN ts pr (zF ts pr (cG ts pr k) p)))
  (p:Ps) (h:p.1<ts.length) (s:p.2.length<=256):vC N r1 r2 r3 r4 r5 (cR ts pr p) d=some (eN ts pr (cG ts pr (k+1) p)):=by
 have F:=qL (show p.1<1000000 by omega)
 simp only[vC,cR,qI h,j0,cG]
 rw[if_neg (show ¬decide (d>32)=true by simp only[jA];omega)]
 simp only[j0,zS h]
 rcases qO (cD ts 1 nL p.1) with e|e
 rotate_left
 .have c1':cD ts 1 ⟨#[105,102]⟩ p.1=false:=e
  have h4p:=E p h s
  simp only[cR] at h4p
  simp only[e,c1',fS,kI,jE,kA,h4p,j0]
  cases zF ts pr (cG ts pr k) p<;>rfl
 have c1':cD ts 1 ⟨#[105,102]⟩ p.1=true:=e
 have g:=nX f h (by decide) e
 have l:=r (p.1+1,p.2) g s
 simp only[cR] at l
 simp only[e,c1',fN,kI,jE,kA,F,l,j0]
 cases ha:cG ts pr k (p.1+1,p.2) with
 |inl z=>rfl
 |inr a=>
  obtain⟨⟨G,t,H,u⟩,K⟩:=q (p.1+1,p.2) a.1 a.2 g s ha
  simp only[eN,kK,bF,cR,KU t B,j0,sThen]
  cases hi:oL ts ⟨#[116,104,101,110]⟩ a.1.1 with
  |inl z=>rfl
  |inr i=>
   obtain⟨rfl,y,-⟩:=zE f t hi
   have n:=r (a.1.1+1,a.1.2) y u
   simp only[cR] at n
   simp only[kK,n,j0]
   cases hb1:cG ts pr k (a.1.1+1,a.1.2) with
   |inl z=>rfl
   |inr b=>
    obtain⟨⟨M,v,R,x⟩,S⟩:=q (a.1.1+1,a.1.2) b.1 b.2 y u hb1
    simp only[eN,kK,bF,cR,KU v B,j0,sElse]
    cases hj:oL ts ⟨#[101,108,115,101]⟩ b.1.1 with
    |inl z=>rfl
    |inr j=>
     obtain⟨rfl,A,-⟩:=zE f v hj
     have o:=r (b.1.1+1,b.1.2) A x
     simp only[cR] at o
     simp only[kK,o,j0]
     cases hc1:cG ts pr k (b.1.1+1,b.1.2) with
     |inl z=>rfl
     |inr c=>
      obtain⟨⟨e,U,V,D⟩,Y⟩:=q (b.1.1+1,b.1.2) c.1 c.2 A x hc1
      simp only[eN,kK,bF,cR,wO _ _ D,j0]
      cases iB (aC ts p.1) (5,0,0,⟨#[]⟩,[(a.2:Int),(b.2:Int),(c.2:Int)]) (c.1.1,c.1.2)<;>rfl
theorem qGn(a:d>32)(p:Ps)(b:p.1<ts.length):vC N r1 r2 r3 r4 r5 (cR ts pr p) d=some (eN ts pr (cG ts pr 0 p)):=by
 simp only[vC,cR,qI b,j0,cG]
 rw[if_pos (show decide (d>32)=true by simpa using a)]
 rfl
theorem SV(b:OkT ts)(e:ts.length<1000000)(n:pr.length<1000)(l:1000001<N)(r:∀j,(aC ts j).2.1.size<100000):∀(k D:Nat),k<=32->7*k+1<=D->∀p:Ps,p.1<ts.length->p.2.length<=256->
  (dM N D).2.2.2.2 (cR ts pr p) (33-(k:Int))=some (eN ts pr (cG ts pr k p))
 |0,0,_,h,_,_,_=>by omega
 |0,D+1,_,_,p,a,_=>by simp only[dM];exact qGn (by omega) p a
 |k+1,D,E,d,p,a,c=>by
  have f:=uE (ts:=ts) (params:=pr) b k
  have o:=NM (params:=pr) b f
  have q:nO ts (HI ts pr (cG ts pr k)):=CP b o
  have B:nO ts (HP ts pr (cG ts pr k)):=CP b q
  have g:∀D,7*k+1<=D->∀p:Ps,p.1<ts.length->p.2.length<=256->(dM N D).2.2.2.2 (cR ts pr p) (IntKind.wrap .i64 (32-(k:Int)+1))=some (eN ts pr (cG ts pr k p)):=by
   intro D d p a c
   rw[bT (by omega) (by omega),show 32-(k:Int)+1=33-(k:Int) by omega]
   exact SV b e n l r k D (by omega) d p a c
  have y:∀D,7*k+2<=D->∀(t:bH) (p:Ps),p.1<ts.length->p.2.length<=256->(dM N D).1 (cR ts pr p) t (32-(k:Int))=some (eN ts pr (nP ts (cG ts pr k) t p)):=by
   intro D d t p a c
   obtain⟨D',rfl⟩:∃D',D=D'+1:=⟨D-1,by omega⟩
   simp only[dM]
   exact qBk b e (by omega) r f (g D' (by omega)) t p a c
  have z:∀D,7*k+2<=D->∀p:Ps,p.1<ts.length->p.2.length<=256->(dM N D).2.1 (cR ts pr p) (32-(k:Int))=some (AE ts pr (oY ts (cG ts pr k) p)):=by
   intro D d p a c
   obtain⟨D',rfl⟩:∃D',D=D'+1:=⟨D-1,by omega⟩
   simp only[dM]
   exact YU b e (by omega) f (g D' (by omega)) p a c
  have A:∀D,7*k+3<=D->∀p:Ps,p.1<ts.length->p.2.length<=256->(dM N D).2.2.1 (cR ts pr p) (32-(k:Int))=some (eN ts pr (iP ts pr (cG ts pr k) p)):=by
   intro D d p a c
   obtain⟨D',rfl⟩:∃D',D=D'+1:=⟨D-1,by omega⟩
   simp only[dM]
   exact qEd b e n (by omega) f (g D' (by omega)) (y D' (by omega)) (z D' (by omega)) p a c
  have x:∀D,7*k+4<=D->∀p:Ps,p.1<ts.length->p.2.length<=256->(dM N D).2.2.2.1 (cR ts pr p) 4 (32-(k:Int))=some (eN ts pr (iP ts pr (cG ts pr k) p)):=by
   intro D d p a c
   obtain⟨D',rfl⟩:∃D',D=D'+1:=⟨D-1,by omega⟩
   simp only[dM]
   exact qCd (A D' (by omega)) p a c
  have v:∀D,7*k+5<=D->∀p:Ps,p.1<ts.length->p.2.length<=256->(dM N D).2.2.2.1 (cR ts pr p) 3 (32-(k:Int))=some (eN ts pr (HI ts pr (cG ts pr k) p)):=by
   intro D d p a c
   obtain⟨D',rfl⟩:∃D',D=D'+1:=⟨D-1,by omega⟩
   simp only[dM]
   exact JP b e l o (L:=3) (by omega) (x D' (by omega)) p a c
  have u:∀D,7*k+6<=D->∀p:Ps,p.1<ts.length->p.2.length<=256->(dM N D).2.2.2.1 (cR ts pr p) 2 (32-(k:Int))=some (eN ts pr (HP ts pr (cG ts pr k) p)):=by
   intro D d p a c
   obtain⟨D',rfl⟩:∃D',D=D'+1:=⟨D-1,by omega⟩
   simp only[dM]
   exact JP b e l q (L:=2) (by omega) (v D' (by omega)) p a c
  have s:∀D,7*k+7<=D->∀p:Ps,p.1<ts.length->p.2.length<=256->(dM N D).2.2.2.1 (cR ts pr p) 1 (32-(k:Int))=some (eN ts pr (zF ts pr (cG ts pr k) p)):=by
   intro D d p a c
   obtain⟨D',rfl⟩:∃D',D=D'+1:=⟨D-1,by omega⟩
   simp only[dM]
   exact JP b e l B (L:=1) (by omega) (u D' (by omega)) p a c
  obtain⟨D',rfl⟩:∃D',D=D'+1:=⟨D-1,by omega⟩
  rw[show(33:Int)-((k+1:Nat):Int)=32-(k:Int) by omega]
  simp only[dM]
  exact qIf b e (by omega) (by omega) f (g D' (by omega)) (s D' (by omega)) p a c
theorem qGc(a:OkT ts)(e:ts.length<1000000)(b:pr.length<1000)(c:1000001<N)(g:∀j,(aC ts j).2.1.size<100000)(p:Ps)(f:p.1<ts.length)(d:p.2.length<=256):
  HW N (ts,(p.1:Int),pr,p.2) 1=some (eN ts pr (cG ts pr 32 p)):=by
 have:=SV a e b c g 32 N (by omega) (by omega) p f d
 exact this
end
section
variable {N:Nat} {ts:List bH} {pr:List BA} {b:List Ex}
theorem NL(h:OkT ts):∀(n:Nat) (l:List BA) (i:Nat) (a:Nat×List BA),i<ts.length->l.length<=8->sJ ts n l i= .inr a->i<a.1/\a.1<ts.length/\a.2.length<=8
 |0,_,_,_,_,_,d=>by cases d
 |n+1,l,i,a,hi,q,d=>by
  obtain⟨x,k,b⟩:=bG (show bF (nI ts i) _=_ from d)
  obtain⟨rfl,e,-⟩:=tC h hi k
  split at b
  .cases b
  rename_i k1
  split at b
  .cases b
  split at b
  .rename_i k3
   have c:=nX h e (by decide) k3
   obtain⟨r,o,p⟩:=NL h n _ _ a c (by simp only[j9,jB,jD];omega) b
   exact⟨by omega,o,p⟩
  obtain⟨j,g,f⟩:=bG b
  obtain⟨rfl,c,-⟩:=mJ h e g
  obtain rfl:=Sum.inr.inj f
  exact⟨by simp only;omega,c,by simp only[j9,jB,jD];omega⟩
theorem IB(h:OkT ts){i:Nat}{a:Nat×List BA}(hi:i<ts.length)(c:rY ts i= .inr a):i<a.1/\a.1<ts.length/\a.2.length<=8:=by
 obtain⟨j,d,b⟩:=bG c
 obtain⟨rfl,g,-⟩:=mJ h hi d
 split at b
 .rename_i k
  obtain rfl:=Sum.inr.inj b
  exact⟨by simp only;omega,nX h g (by decide) k,by simp⟩
 obtain⟨l,e,f⟩:=NL h _ _ _ a g (by simp) b
 exact⟨by omega,e,f⟩
theorem NW(d:OkT ts)(k:ts.length<1000000)(r:1000000<N):∀(n M:Nat) (l:List BA) (i:Nat),i<ts.length->l.length<=8->ts.length<i+n->ts.length<i+M->
  ((aS (AP N) M (l,ts,(i:Int),pr,b)).bind fun p=>(match p with| .inl e=>(mW N (e.2.1,e.2.2.1,e.2.2.2.1,e.2.2.2.2) (⟨#[41]⟩:BA)).bind fun q=>(match q with| .inl t=>some (.inl t)| .inr c=>some (.inr ((c.1,c.2.1,c.2.2.1,c.2.2.2),e.1)))| .inr (z)=>some z))=some (Sum.map id (fun a:Nat×List BA=>((ts,(a.1:Int),pr,b),a.2)) (sJ ts n l i))
 |0,M,l,i,hi,_,h,_=>by omega
 |n+1,0,l,i,hi,_,_,h=>by omega
 |n+1,M+1,l,i,hi,u,y,v=>by
  simp only[aS,AP,sJ,GU hi k,j0]
  cases hx:nI ts i with
  |inl z=>rfl
  |inr x=>
   obtain⟨rfl,o,-⟩:=tC d hi hx
   simp only[kK,bF,eT,j0]
   by_cases k1:l.length=8
   .rw[if_pos (show((l.length:Int)==8)=true by simp;omega),if_pos k1];rfl
   rw[if_neg (show ¬((l.length:Int)==8)=true by simp;omega),if_neg k1]
   simp only[j0,NO (N:=N) (l:=l) (s:=(aC ts i).2.1) (by omega) (by omega)]
   by_cases k2:(aC ts i).2.1∈l
   .rw[if_pos (kS k2),if_pos k2];rfl
   rw[if_neg (show ¬decide ((aC ts i).2.1∈l)=true by simpa using k2),if_neg k2]
   simp only[j0]
   rw[rU (by simp only[jB,jD];omega) (by omega)]
   simp only[j0,zB o k,sComma]
   rcases qO (cD ts 4 ⟨#[44]⟩ (i+1)) with f|f
   .have g:=nX d o (by decide) f
    simp only[f,kI,fN,jE,kA,j0]
    exact NW d k r n M _ (i+1+1) g (by simp only[j9,jB,jD];omega) (by omega) (by omega)
   simp only[f,jE,kA,fS,kI,j0,qJ o k,sClose]
   cases eK ts ⟨#[41]⟩ (i+1)<;>rfl
theorem XR(c:OkT ts)(e:ts.length<1000000)(f:1000000<N){i:Nat}(hi:i<ts.length):
  xR N (ts,(i:Int),pr,b)=some (Sum.map id (fun a:Nat×List BA=>((ts,(a.1:Int),pr,b),a.2)) (rY ts i)):=by
 simp only[xR,qJ hi e,j0,rY,sOpen]
 cases h:eK ts ⟨#[40]⟩ i with
 |inl z=>rfl
 |inr j=>
  obtain⟨rfl,g,-⟩:=mJ c hi h
  simp only[kK,bF,zB g e,j0,sClose]
  rcases qO (cD ts 4 ⟨#[41]⟩ (i+1)) with d|d
  .simp only[d,kI];rfl
  simp only[d,jE,kA]
  exact NW c e f (ts.length+1) N [] (i+1) g (by simp) (by omega) (by omega)
def GY:List (BA×Int):=[(⟨#[102,117,110,99]⟩,1),(⟨#[103,101,110]⟩,3),(⟨#[116,101,115,116]⟩,2)]
theorem qDm:((eQ (some []:Option (List (BA×Int))) (⟨#[102,117,110,99]⟩:BA) 1).bind fun a=>(eQ a (⟨#[116,101,115,116]⟩:BA) 2).bind fun b=>eQ b (⟨#[103,101,110]⟩:BA) 3)=some (some GY):=by kernel_rfl
theorem RX(s:BA):((cH (some GY) s).getD 0)=eV s:=by
 simp only[cH,GY,j0,cL,eV,zW,zP,AD]
 by_cases h1:s=⟨#[102,117,110,99]⟩
 .simp[h1]
 by_cases h2:s=⟨#[116,101,115,116]⟩
 .subst h2;rfl
 by_cases h3:s=⟨#[103,101,110]⟩
 .subst h3;rfl
 simp[h1,h2,h3]
theorem OT{before:List Dl}{y1:iH×bH}{o4:List bH×Int×List BA×List Ex×Int×BA×Int×Int}(c:before.length<=64):∀(d i M:Nat),i+d=before.length->d<M->
  ((aS (xY N before (some GY) y1 o4) M (i:Int)).bind fun a=>(match a with| .inl f=>some (-1)| .inr (z)=>some z):Option Int)=some (match(before.drop i).findIdx? (fun d=>d.1==eV y1.2.2.1&&decide (d.2.1=o4.2.2.2.2.2.1)) with|some j=>((i+j:Nat):Int)|none=> -1)
 |d,i,0,_,h=>by omega
 |0,i,M+1,h,_=>by
  have:before.drop i=[]:=kN (by omega)
  simp only[aS,xY,this,List.findIdx?_nil]
  rw[if_neg (by simp only[jA];omega)]
  rfl
 |d+1,i,M+1,h,e=>by
  have hi:i<before.length:=by omega
  have b:=OT (y1:=y1) (o4:=o4) c d (i+1) M (by omega) (by omega)
  simp only[aS,xY]
  rw[if_pos (by simp only[jA];omega),eZ hi,kO hi,List.findIdx?_cons]
  simp only[j0,oZ,RX]
  by_cases k1:(before[i].1==eV y1.2.2.1)=true
  .by_cases k2:before[i].2.1=o4.2.2.2.2.2.1
   .simp[k1,k2]
   simp only[k1,k2,kI,decide_false,j0,jE,kA,qL (show i<1000000 by omega),Bool.and_false]
   rw[b]
   cases(before.drop (i+1)).findIdx? (fun d=>d.1==eV y1.2.2.1&&decide (d.2.1=o4.2.2.2.2.2.1)) with
   |none=>rfl
   |some j=>simp only[kP];rw[show i+1+j=i+(j+1) by omega]
  simp only[k1,jE,kA,j0,qL (show i<1000000 by omega),Bool.false_and]
  rw[b]
  cases(before.drop (i+1)).findIdx? (fun d=>d.1==eV y1.2.2.1&&decide (d.2.1=o4.2.2.2.2.2.1)) with
  |none=>rfl
  |some j=>simp only[kP];rw[show i+1+j=i+(j+1) by omega]
theorem FT(h:OkT ts){before:List Dl}{i:Nat}{a:Nat×Dl}(hi:i<ts.length)(b:oD ts before i= .inr a):i<a.1/\a.1<ts.length/\before.length≠64:=by
 unfold oD at b
 dsimp only at b
 split at b
 .cases b
 rename_i k1
 split at b
 .cases b
 rename_i k2
 have g:=h.next hi (show(aC ts i).1≠5 by intro e;apply k1;left;rw[e];decide)
 obtain⟨x,k,f⟩:=bG b
 have gx:x.1=i+1+1/\x.1<ts.length:=by
  split at k
  .obtain⟨rfl,d,-⟩:=tB h g k;exact⟨rfl,d⟩
  obtain⟨rfl,d,-⟩:=tC h g k;exact⟨rfl,d⟩
 split at f
 .cases f
 obtain⟨y,l,q⟩:=bG f
 have gy:x.1<=y.1/\y.1<ts.length:=by
  split at l
  .obtain⟨d,n,-⟩:=IB h gx.2 l;exact⟨by omega,n⟩
  obtain rfl:=Sum.inr.inj l;exact⟨jJ _,gx.2⟩
 obtain⟨j,v,r⟩:=bG q
 obtain⟨rfl,o,-⟩:=mJ h gy.2 v
 obtain⟨c,u,s⟩:=bG r
 obtain⟨⟨d,n,A,B⟩,-⟩:=uE h 32 (y.1+1,[]) c.1 c.2 o (by simp) u
 obtain⟨m,z,t⟩:=bG s
 obtain⟨rfl,p,-⟩:=mJ h n z
 obtain rfl:=Sum.inr.inj t
 exact⟨by simp only at d ⊢;omega,p,k2⟩
theorem qFr{before:List Dl}{f:Dl->Bool}:(decide ((match before.findIdx? f with|some j=>((0+j:Nat):Int)|none=> -1)>=0))=before.any f:=by
 have:=List.findIdx?_isSome (xs:=before) (p:=f)
 rw[<-this]
 cases before.findIdx? f with
 |none=>rfl
 |some j=>simp only[Option.isSome_some];exact kS (by omega)
end
section
variable {N:Nat} {ts:List bH} {pr:List BA} {b:List Ex}
theorem qFu(e:OkT ts)(n:ts.length<1000000)(E:1000001<N)(A:∀j,(aC ts j).2.1.size<100000){before:List Dl}(F:before.length<=64){i:Nat}(hi:i<ts.length):
  CA N (ts,(i:Int),pr,b) before=some (Sum.map id (fun a:Nat×Dl=>((ts,(a.1:Int),a.2.2.2.1,a.2.2.2.2),a.2)) (oD ts before i)):=by
 have K:=qL (show i<1000000 by omega)
 unfold CA
 obtain⟨Z,t,G⟩:=jM.1 qDm
 obtain⟨a1,u,v⟩:=jM.1 G
 rw[t];simp only[j0]
 rw[u];simp only[j0]
 rw[v];simp only[j0,qI hi,RX,eT,oD]
 by_cases o:(aC ts i).1≠1\/eV (aC ts i).2.1=0
 .rw[if_pos o]
  have:((if((aC ts i).1 !=1)=true then some true else some (eV (aC ts i).2.1==0)):Option Bool)=some true:=by
   rcases o with h|h
   .simp[h]
   simp[h]
  rw[this];rfl
 rw[if_neg o]
 have k1a:(aC ts i).1=1:=by
  apply Decidable.byContradiction
  intro h;exact o (.inl h)
 have k1b:¬eV (aC ts i).2.1=0:=fun h=>o (.inr h)
 have:((if((aC ts i).1 !=1)=true then some true else some (eV (aC ts i).2.1==0)):Option Bool)=some false:=by simp[k1a,k1b]
 rw[this]
 simp only[j0,jE,kA]
 by_cases k2:before.length=64
 .rw[if_pos (show((before.length:Int)==64)=true by simp;omega),if_pos k2];rfl
 rw[if_neg (show ¬((before.length:Int)==64)=true by simp;omega),if_neg k2]
 have g:=e.next hi (show(aC ts i).1≠5 by rw[k1a];decide)
 simp only[j0,K]
 have M:(if(eV (aC ts i).2.1==3)=true then((sS N (ts,((i+1:Nat):Int),pr,b)).bind fun R=>(match R with| .inl U=>some (.inr (.inl U))| .inr k=>some (.inl (k.1.1,k.1.2.1,k.1.2.2.1,k.1.2.2.2,k.2.1,k.2.2.1,k.2.2.2.1,k.2.2.2.2)))) else((sU N (ts,((i+1:Nat):Int),pr,b)).bind fun S=>(match S with| .inl V=>some (.inr (.inl V))| .inr l=>some (.inl (l.1.1,l.1.2.1,l.1.2.2.1,l.1.2.2.2,l.2.1,l.2.2.1,l.2.2.2.1,l.2.2.2.2)))):Option ((List bH×Int×List BA×List Ex×Int×BA×Int×Int)⊕(dL⊕(iH×Dl))))=
   some (match(if eV (aC ts i).2.1=3 then nT ts (i+1) else nI ts (i+1)) with| .inl z=> .inr (.inl z)| .inr a=> .inl (ts,(a.1:Int),pr,b,a.2.1,a.2.2.1,a.2.2.2.1,a.2.2.2.2)):=by
  by_cases k3:eV (aC ts i).2.1=3
  .rw[if_pos (show(eV (aC ts i).2.1==3)=true by simpa using k3),if_pos k3,GT g n (by omega) A]
   cases nT ts (i+1)<;>rfl
  rw[if_neg (show ¬(eV (aC ts i).2.1==3)=true by simpa using k3),if_neg k3,GU g n]
  cases nI ts (i+1)<;>rfl
 refine Eq.trans (congrArg (fun z=>Option.bind z _) M) ?_
 simp only[j0]
 cases hX:(if eV (aC ts i).2.1=3 then nT ts (i+1) else nI ts (i+1)) with
 |inl z=>rfl
 |inr x=>
  have gx:x.1=i+1+1/\x.1<ts.length:=by
   split at hX
   .obtain⟨rfl,p,-⟩:=tB e g hX;exact⟨rfl,p⟩
   obtain⟨rfl,p,-⟩:=tC e g hX;exact⟨rfl,p⟩
  simp only[bF]
  have s:=OT (N:=N) (before:=before) (y1:=((ts,(i:Int),pr,b),aC ts i)) (o4:=(ts,(x.1:Int),pr,b,x.2.1,x.2.2.1,x.2.2.2.1,x.2.2.2.2)) F before.length 0 N (by omega) (by omega)
  simp only[kJ] at s
  refine Eq.trans (congrArg (fun z=>Option.bind z _) s) ?_
  simp only[j0,qFr]
  rcases qO (before.any fun d=>d.1==eV (aC ts i).2.1&&decide (d.2.1=x.2.2.1)) with r|r
  .simp only[r,kI];rfl
  simp only[r,jE,kA,j0]
  have H:(if(eV (aC ts i).2.1==1)=true then((xR N (ts,(x.1:Int),pr,b)).bind fun B=>(match B with| .inl Y=>some (.inr (.inl Y))| .inr f=>some (.inl (f.2,f.1.1,f.1.2.1,f.1.2.2.1,f.1.2.2.2)))) else(some (.inl (([]:List (BA)),ts,(x.1:Int),pr,b))):Option ((List BA×iH)⊕(dL⊕(iH×Dl))))=
    some (match(if eV (aC ts i).2.1=1 then rY ts x.1 else .inr (x.1,[])) with| .inl z=> .inr (.inl z)| .inr a=> .inl (a.2,ts,(a.1:Int),pr,b)):=by
   by_cases k5:eV (aC ts i).2.1=1
   .rw[if_pos (show(eV (aC ts i).2.1==1)=true by simpa using k5),if_pos k5,XR e n (by omega) gx.2]
    cases rY ts x.1<;>rfl
   rw[if_neg (show ¬(eV (aC ts i).2.1==1)=true by simpa using k5),if_neg k5]
  refine Eq.trans (congrArg (fun z=>Option.bind z _) H) ?_
  simp only[j0]
  cases hY:(if eV (aC ts i).2.1=1 then rY ts x.1 else .inr (x.1,[]):dL⊕(Nat×List BA)) with
  |inl z=>rfl
  |inr y=>
   have gy:x.1<=y.1/\y.1<ts.length/\y.2.length<=8:=by
    split at hY
    .obtain⟨p,D,q⟩:=IB e gx.2 hY;exact⟨by omega,D,q⟩
    obtain rfl:=Sum.inr.inj hY;exact⟨jJ _,gx.2,by simp⟩
   simp only[qJ gy.2.1 n,j0,sEq]
   cases hj:eK ts ⟨#[61]⟩ y.1 with
   |inl z=>rfl
   |inr j=>
    obtain⟨rfl,q,-⟩:=mJ e gy.2.1 hj
    have p:=qGc (N:=N) (pr:=y.2) e n (by omega) E A (y.1+1,[]) q (by simp)
    simp only at p
    simp only[kK,p,j0]
    cases hc:cG ts y.2 32 (y.1+1,[]) with
    |inl z=>rfl
    |inr c=>
     obtain⟨⟨f1,D,f3,f4⟩,-⟩:=uE e 32 (y.1+1,[]) c.1 c.2 q (by simp) hc
     simp only[eN,kK,cR,qJ D n,j0,sSemi]
     cases eK ts ⟨#[59]⟩ c.1.1<;>rfl
theorem NF(c:OkT ts)(f:ts.length<1000000)(p:1000000<N){d:iH×bH}:∀(n M:Nat) (l:List BA) (i:Nat),i<ts.length->l.length<=8->ts.length<i+n->ts.length<i+M->
  aS (BN N d) M (ts,(i:Int),pr,b,l)=some (match pK ts d.2.2.1 n l i with| .inl z=> .inr (.inl z)| .inr a=> .inl (ts,(a.1:Int),pr,b,a.2))
 |0,M,l,i,hi,_,h,_=>by omega
 |n+1,0,l,i,hi,_,_,h=>by omega
 |n+1,M+1,l,i,hi,r,u,t=>by
  have q:=qL (show i<1000000 by omega)
  simp only[aS,BN,pK,zS hi,j0,wN]
  rcases qO (cD ts 1 ⟨#[105,109,112,111,114,116]⟩ i) with e|e
  rotate_left
  .simp only[e,jE,kA,j0]
  have g:=nX c hi (by decide) e
  simp only[e,kI]
  by_cases k2:l.length=8
  .rw[if_pos (show((l.length:Int)==8)=true by simp;omega),if_pos k2]
   simp only[qI hi,j0,eT];rfl
  rw[if_neg (show ¬((l.length:Int)==8)=true by simp;omega),if_neg k2]
  simp only[j0,q,GU g f]
  cases hx:nI ts (i+1) with
  |inl z=>rfl
  |inr x=>
   obtain⟨rfl,k,-⟩:=tC c g hx
   simp only[kK,bF,eT,j0,oZ,NO (N:=N) (l:=l) (s:=(aC ts (i+1)).2.1) (by omega) (by omega)]
   by_cases k3:(aC ts (i+1)).2.1=d.2.2.1\/(aC ts (i+1)).2.1∈l
   .rw[if_pos k3]
    have:((if decide ((aC ts (i+1)).2.1=d.2.2.1)=true then some true else some (decide ((aC ts (i+1)).2.1∈l))):Option Bool)=some true:=by
     rcases k3 with h|h
     .rw[if_pos (kS h)]
     rw[kS h];split<;>rfl
    rw[this];rfl
   rw[if_neg k3]
   have:((if decide ((aC ts (i+1)).2.1=d.2.2.1)=true then some true else some (decide ((aC ts (i+1)).2.1∈l))):Option Bool)=some false:=by
    rw[if_neg (by simp only[jA];exact fun h=>k3 (.inl h)),gD (fun h=>k3 (.inr h))]
   rw[this]
   simp only[j0,jE,kA]
   rw[rU (by simp only[jB,jD];omega) (by omega)]
   simp only[j0,qJ k f,sSemi]
   cases hj:eK ts ⟨#[59]⟩ (i+1+1) with
   |inl z=>rfl
   |inr j=>
    obtain⟨rfl,o,-⟩:=mJ c k hj
    exact NF c f p n M _ (i+1+1+1) o (by simp only[j9,jB,jD];omega) (by omega) (by omega)
theorem IH(h:OkT ts){pkg:BA}:∀(n:Nat) (l:List BA) (i:Nat) (a:Nat×List BA),i<ts.length->l.length<=8->pK ts pkg n l i= .inr a->i<=a.1/\a.1<ts.length/\a.2.length<=8
 |0,_,_,_,_,_,b=>by cases b
 |n+1,l,i,a,hi,p,b=>by
  unfold pK at b
  split at b
  .rename_i k
   have g:=nX h hi (by decide) k
   split at b
   .cases b
   rename_i k2
   obtain⟨x,q,c⟩:=bG b
   obtain⟨rfl,d,-⟩:=tC h g q
   split at c
   .cases c
   obtain⟨j,o,f⟩:=bG c
   obtain⟨rfl,e,-⟩:=mJ h d o
   obtain⟨t,r,s⟩:=IH h n _ _ a e (by simp only[j9,jB,jD];omega) f
   exact⟨by omega,r,s⟩
  obtain rfl:=Sum.inr.inj b
  exact⟨jJ _,hi,p⟩
theorem PC(c:OkT ts)(f:ts.length<1000000)(e:1000001<N)(k:∀j,(aC ts j).2.1.size<100000):∀(n M:Nat) (l:List Dl) (i:Nat) (pr:List BA) (b:List Ex),i<ts.length->l.length<=64->ts.length<i+n->ts.length<i+M->
  match oK ts n l i with
  | .inl z=>aS (tZ N) M (ts,(i:Int),pr,b,l)=some (.inr (.inl z))
  | .inr a=>∃i' pr' b',aS (tZ N) M (ts,(i:Int),pr,b,l)=some (.inl (ts,i',pr',b',a))
 |0,M,l,i,_,_,hi,_,h,_=>by omega
 |n+1,0,l,i,_,_,hi,_,_,h=>by omega
 |n+1,M+1,l,i,pr,b,hi,g,s,r=>by
  have o:aS (tZ N) (M+1) (ts,(i:Int),pr,b,l)=(if(aC ts i).1=5 then some (.inl (ts,(i:Int),pr,b,l)) else
    match oD ts l i with
    | .inl z=>some (.inr (.inl z))
    | .inr a=>aS (tZ N) M (ts,(a.1:Int),a.2.2.2.1,a.2.2.2.2,l++[a.2])):=by
   simp only[aS,tZ,qI hi,j0,qFu c f e k g hi]
   by_cases k1:(aC ts i).1=5
   .rw[if_neg (show ¬((aC ts i).1 !=5)=true by simpa using k1),if_pos k1];rfl
   rw[if_pos (show((aC ts i).1 !=5)=true by simpa using k1),if_neg k1]
   cases hd:oD ts l i with
   |inl z=>rfl
   |inr a=>
    obtain⟨p,d,q⟩:=FT c hi hd
    simp only[kK]
    rw[rU (by simp only[jB,jD];omega) (by omega)]
    rfl
  rw[o]
  simp only[oK]
  by_cases k1:(aC ts i).1=5
  .simp only[if_pos k1];exact⟨_,_,_,rfl⟩
  simp only[if_neg k1]
  cases hd:oD ts l i with
  |inl z=>rfl
  |inr a=>
   obtain⟨p,d,q⟩:=FT c hi hd
   exact PC c f e k n M (l++[a.2]) a.1 _ _ d (by simp only[j9,jB,jD];omega) (by omega) (by omega)
theorem qFb(a:OkT ts)(d:ts.length<1000000)(n:1000001<N)(o:∀j,(aC ts j).2.1.size<100000):
  match rG ts with
  | .inl z=>yD N (ts,0,pr,b)=some (.inl z)
  | .inr f=>∃i' pr' b',yD N (ts,0,pr,b)=some (.inr ((ts,i',pr',b'),f)):=by
 have k:0<ts.length:=List.length_pos_iff.2 a.1
 simp only[yD,rG]
 rw[show(0:Int)=((0:Nat):Int) from rfl]
 simp only[KU k d,j0,sPackage]
 cases h1:oL ts ⟨#[112,97,99,107,97,103,101]⟩ 0 with
 |inl z=>rfl
 |inr i=>
  obtain⟨rfl,e,-⟩:=zE a k h1
  simp only[kK,bF,GU e d,j0]
  cases h2:nI ts (0+1) with
  |inl z=>rfl
  |inr x=>
   obtain⟨rfl,g,-⟩:=tC a e h2
   simp only[kK,qJ g d,j0,sSemi]
   cases h3:eK ts ⟨#[59]⟩ (0+1+1) with
   |inl z=>rfl
   |inr j=>
    obtain⟨rfl,h,-⟩:=mJ a g h3
    simp only[kK,NF a d (by omega:1000000<N) (ts.length+1) N [] (0+1+1+1) h (by simp) (by omega) (by omega),j0]
    cases h4:pK ts (aC ts (0+1)).2.1 (ts.length+1) [] (0+1+1+1) with
    |inl z=>rfl
    |inr y=>
     obtain⟨q,p,k3⟩:=IH a _ _ _ y h (by simp) h4
     have c:=PC (N:=N) a d n o (ts.length+1) N [] y.1 pr b p (by simp) (by omega) (by omega)
     simp only[]
     cases h5:oK ts (ts.length+1) [] y.1 with
     |inl z=>
      rw[h5] at c
      simp only[c,j0]
     |inr l=>
      rw[h5] at c
      obtain⟨i',pr',b',c⟩:=c
      refine⟨i',pr',b',?_⟩
      simp only[c,j0]
end
theorem RM{s:BA}:∀(l:List bH) (e:Int),0<=e->LS s e l->∀i,i<l.length->((aC l i).1=5↔i+1=l.length)/\((aC l i).2.1.size:Int)<=s.size/\0<=(aC l i).2.2.2
 |[],_,_,_,i,hi=>by simp at hi
 |t::r,e,k,h,i,hi=>by
  obtain⟨d,f,b,g,c⟩:=h
  have a:0<=uT t:=by unfold uT;split<;>omega
  cases i with
  |zero=>
   refine⟨?_,?_,?_⟩
   .show t.1=5↔0+1=r.length+1
    rw[b,<-gC];omega
   .show((t.2.1.size:Nat):Int)<=s.size
    omega
   show 0<=t.2.2.2
   omega
  |succ i=>
   have:=RM r _ a c i (by simpa using hi)
   have e:aC (t::r) (i+1)=aC r i:=by simp[aC]
   rw[e,jB]
   exact⟨⟨fun h=>by have:=this.1.1 h;omega,fun h=>this.1.2 (by omega)⟩,this.2⟩
theorem OV{s:BA}(h:(iQ s).2.2=0):OkT (iQ s).1/\(iQ s).1.length<=16385/\∀j,(aC (iQ s).1 j).2.1.size<100000:=by
 unfold iQ at h ⊢
 split at h
 .simp at h
 rename_i hs
 rw[if_neg hs]
 cases hG:lW (s.data.toList.length+1) s 0 with
 |inl x=>
  obtain⟨_,_,a⟩:=GH _ 0 x (by omega) (by omega) hG
  rw[hG] at h
  exact absurd h a
 |inr r=>
  obtain⟨c,d,g⟩:=IS _ 0 0 r (by omega) (by omega) (by omega) hG
  simp only[EB,jL]
  have b:=RM r 0 (by omega) c
  refine⟨⟨d,fun i hi=>(b i hi).1⟩,by omega,fun j=> ?_⟩
  rcases gW j r.length with a|a
  .have:=(b j a).2.1
   have f:=lB s
   omega
  have e:aC r j=(5,⟨#[]⟩,0,0):=by simp[aC,jP,List.getElem?_eq_none a]
  rw[e];decide
theorem RL{N:Nat}(s:BA)(e:1000001<N):rV N s=some (iR s):=by
 simp only[rV,qBv (N:=N) (by omega),j0,iR]
 by_cases h:(iQ s).2.2=0
 .rw[if_neg (show ¬((iQ s).2.2 !=0)=true by simpa using h),if_neg (show ¬(iQ s).2.2≠0 by simpa using h)]
  obtain⟨c,g,d⟩:=OV h
  have a:=qFb (N:=N) (pr:=[]) (b:=[]) c (by omega) e d
  cases hF:rG (iQ s).1 with
  |inl z=>
   rw[hF] at a
   simp only[a,j0];rfl
  |inr f=>
   rw[hF] at a
   obtain⟨i',pr',b',a⟩:=a
   simp only[a,j0]
 rw[if_pos (show((iQ s).2.2 !=0)=true by simpa using h),if_pos h];rfl
abbrev Hd:=Int×Int×Int×BA
inductive Rose where
 |mk (h:Hd) (ks:List Rose)
def Rose.hd:Rose->Hd
 | .mk h _=>h
def Rose.ks:Rose->List Rose
 | .mk _ ks=>ks
mutual
def Rose.size:Rose->Nat
 | .mk _ ks=>aL ks+1
def aL:List Rose->Nat
 |[]=>0
 |t::l=>t.size+aL l
end
def bQ:Nat->List Rose->List Int
 |_,[]=>[]
 |b,t::l=>((b+t.size-1:Nat):Int)::bQ (b+t.size) l
def dK(h:Hd)(args:List Int):Ex:=(h.1,h.2.1,h.2.2.1,h.2.2.2,args)
mutual
def Rose.flat(b:Nat):Rose->List Ex
 | .mk h ks=>cC b ks++[dK h (bQ b ks)]
def cC(b:Nat):List Rose->List Ex
 |[]=>[]
 |t::l=>t.flat b++cC (b+t.size) l
end
theorem Rose.pos(t:Rose):0<t.size:=by cases t;unfold Rose.size;omega
mutual
theorem eF(t:Rose)(b:Nat):(t.flat b).length=t.size:=by
 match t with
 | .mk h ks=>unfold Rose.flat Rose.size;rw[j9,oI ks b];rfl
theorem oI(l:List Rose)(b:Nat):(cC b l).length=aL l:=by
 match l with
 |[]=>rfl
 |t::l=>unfold cC aL;rw[j9,eF t b,oI l (b+t.size)]
end
theorem oJ:∀(l:List Rose) (b:Nat),(bQ b l).length=l.length
 |[],_=>rfl
 |t::l,b=>by simp only[bQ,jB,oJ l]
theorem sZ:∀(l k:List Rose),aL (l++k)=aL l+aL k
 |[],k=>by rw[jL,show aL []=0 from rfl,kG]
 |t::l,k=>by
  have a:=sZ l k
  rw[jR,show aL (t::(l++k))=t.size+aL (l++k) from rfl,show aL (t::l)=t.size+aL l from rfl];omega
theorem CS:∀(l k:List Rose) (b:Nat),bQ b (l++k)=bQ b l++bQ (b+aL l) k
 |[],k,b=>by simp[bQ,aL]
 |t::l,k,b=>by
  rw[jR]
  simp only[bQ,aL,CS l k,jR]
  rw[gG]
theorem zA:∀(l k:List Rose) (b:Nat),cC b (l++k)=cC b l++cC (b+aL l) k
 |[],k,b=>by simp[cC,aL]
 |t::l,k,b=>by
  rw[jR]
  simp only[cC,aL,zA l k,jC]
  rw[gG]
theorem NJ:∀l:List Rose,l.length<=aL l
 |[]=>kE _
 |t::l=>by
  have:=NJ l
  have:=t.pos
  simp only[aL,jB];omega
def mQ:List Ex->Nat->List Int->Option (List Int)
 |[],_,st=>some st
 |x::l,i,st=>if x.2.2.2.2.length<=st.length/\st.drop (st.length-x.2.2.2.2.length)=x.2.2.2.2 then mQ l (i+1) (st.take (st.length-x.2.2.2.2.length)++[(i:Int)]) else none
theorem NP{fs:List Rose}{h:Hd}{args:List Int}{m:Nat}(n:args.length<=fs.length)(o:fs.length-args.length=m)(e:(bQ 0 fs).drop m=args):
  aL (fs.take m++[Rose.mk h (fs.drop m)])=aL fs+1/\bQ 0 (fs.take m++[Rose.mk h (fs.drop m)])=(bQ 0 fs).take m++[((aL fs:Nat):Int)]/\cC 0 (fs.take m++[Rose.mk h (fs.drop m)])=cC 0 fs++[dK h args]:=by
 have a:fs=fs.take m++fs.drop m:=(gI m fs).symm
 have b:(fs.take m).length=m:=by rw[kX];omega
 have c:bQ 0 fs=bQ 0 (fs.take m)++bQ (aL (fs.take m)) (fs.drop m):=by
  conv=>lhs;rw[a]
  rw[CS,kG]
 have g:cC 0 fs=cC 0 (fs.take m)++cC (aL (fs.take m)) (fs.drop m):=by
  conv=>lhs;rw[a]
  rw[zA,kG]
 have d:aL fs=aL (fs.take m)+aL (fs.drop m):=by
  conv=>lhs;rw[a]
  rw[sZ]
 have l:(bQ 0 (fs.take m)).length=m:=by rw[oJ,b]
 have f:args=bQ (aL (fs.take m)) (fs.drop m):=by
  rw[<-e,c,gE (by omega),kN (by omega),jL]
 have k:(bQ 0 fs).take m=bQ 0 (fs.take m):=by
  rw[c,kU (by omega),gF (by omega)]
 rw[k]
 refine⟨?_,?_,?_⟩
 .rw[sZ,d];simp only[aL,Rose.size];omega
 .rw[CS,kG]
  simp only[bQ,Rose.size]
  rw[d,show aL (fs.take m)+(aL (fs.drop m)+1)-1=aL (fs.take m)+aL (fs.drop m) by omega]
 rw[zA,kG,g,jC]
 simp only[cC,Rose.flat,jS,<-f]
theorem GD(x:Ex)(l:List Ex)(i:Nat)(st a:List Int)(h:x.2.2.2.2=a):mQ (x::l) i st=if a.length<=st.length/\st.drop (st.length-a.length)=a then mQ l (i+1) (st.take (st.length-a.length)++[(i:Int)]) else none:=by
 subst h;rfl
mutual
theorem PX(t:Rose)(b:Nat)(rest:List Ex)(st:List Int):mQ (t.flat b++rest) b st=mQ rest (b+t.size) (st++[((b+t.size-1:Nat):Int)]):=by
 match t with
 | .mk h ks=>
  unfold Rose.flat
  rw[jC,OP ks b,List.singleton_append]
  have a:(st++bQ b ks).length-(bQ b ks).length=st.length:=by rw[j9];omega
  rw[GD (dK h (bQ b ks)) rest (b+aL ks) (st++bQ b ks) (bQ b ks) rfl,if_pos ⟨by rw[j9];omega,by rw[a,dA]⟩,a,fP]
  unfold Rose.size
  rw[show b+(aL ks+1)-1=b+aL ks by omega,<-gG]
theorem OP(l:List Rose)(b:Nat)(rest:List Ex)(st:List Int):mQ (cC b l++rest) b st=mQ rest (b+aL l) (st++bQ b l):=by
 match l with
 |[]=>simp[cC,aL,bQ]
 |t::l=>
  unfold cC
  rw[jC,PX t b,OP l (b+t.size)]
  simp only[aL,bQ,jC,List.singleton_append]
  rw[gG]
end
def AtT(l:List Ex)(b:Nat)(t:Rose):Prop:=∃p q,l=p++t.flat b++q/\p.length=b
def AtTs(l:List Ex)(b:Nat)(ts:List Rose):Prop:=∃p q,l=p++cC b ts++q/\p.length=b
theorem AtT.whole(t:Rose):AtT (t.flat 0) 0 t:=⟨[],[],by simp,rfl⟩
theorem AtT.args{l:List Ex}{b:Nat}{h:Hd}{ks:List Rose}(g:AtT l b (.mk h ks)):l[b+aL ks]? =some (dK h (bQ b ks))/\AtTs l b ks:=by
 obtain⟨p,q,rfl,rfl⟩:=g
 unfold Rose.flat
 constructor
 .rw[jC,List.getElem?_append_right (by omega),jC,List.getElem?_append_right (by rw[oI];omega),oI]
  rw[show p.length+aL ks-p.length-aL ks=0 by omega]
  rfl
 exact⟨p,[dK h (bQ p.length ks)]++q,by simp only[jC],rfl⟩
theorem AtTs.head{l:List Ex}{b:Nat}{t:Rose}{ts:List Rose}(g:AtTs l b (t::ts)):AtT l b t/\AtTs l (b+t.size) ts:=by
 obtain⟨p,q,rfl,rfl⟩:=g
 unfold cC
 exact⟨⟨p,cC (p.length+t.size) ts++q,by simp only[jC],rfl⟩,⟨p++t.flat p.length,q,by simp only[jC],by rw[j9,eF]⟩⟩
theorem AtT.le{l:List Ex}{b:Nat}{t:Rose}(g:AtT l b t):b+t.size<=l.length:=by
 obtain⟨p,q,rfl,rfl⟩:=g
 rw[j9,j9,eF];omega
def cP(s:BA):Bool:=iT s&& !oQ s
theorem DE{N:Nat}{s:BA}(a:100<N):rW N s=some (cP s):=by
 simp only[rW,KZ a,IN,j0]
 unfold cP
 cases iT s<;>rfl
def emB:BA:=⟨#[]⟩
theorem qHy(a b:Bool):(if a=true then some b else some false:Option Bool)=some (a&&b):=by cases a<;>rfl
theorem eqE(s:BA):(s.toList==(⟨#[]⟩:BA).toList)=decide (s=emB):=oZ _ _
def nK(x:Ex):Int:=(x.2.2.2.2.length:Int)
def eC(np:Int)(x:Ex):Bool:=
 if x.1=1 then decide (x.2.2.2.1=emB)&&(x.2.2.1==0&&(nK x==0&&(decide (x.2.1>=-9007199254740992)&&decide (x.2.1<=9007199254740992))))
 else if x.1=2 then decide (x.2.2.2.1=emB)&&(x.2.2.1==0&&(nK x==0&&(decide (x.2.1>=0)&&decide (x.2.1<np))))
 else if x.1=3 then x.2.1==0&&(x.2.2.1==0&&cP x.2.2.2.1)
 else if x.1=4 then x.2.1==0&&(decide (x.2.2.2.1=emB)&&(nK x==2&&(decide (x.2.2.1>=1)&&decide (x.2.2.1<=7))))
 else if x.1=5 then x.2.1==0&&(decide (x.2.2.2.1=emB)&&(x.2.2.1==0&&nK x==3))
 else if x.1=6 then x.2.1==0&&(x.2.2.1==0&&(nK x==1&&lL x.2.2.2.1.data.toList))
 else if x.1=7\/x.1=8 then x.2.1==0&&(x.2.2.1==0&&(nK x==0&&lL x.2.2.2.1.data.toList))
 else if x.1=9 then x.2.1==0&&(x.2.2.1==0&&(nK x==0&&iT x.2.2.2.1))
 else if x.1=10 then decide (x.2.2.2.1=emB)&&(x.2.2.1==0&&(nK x==0&&(decide (x.2.1>=0)&&decide (x.2.1<64))))
 else false
theorem qGi{N:Nat}{np:Int}{x:Ex}(b:x.2.2.2.1.size<=1048576)(a:3000000<N):yT N x np=some (eC np x):=by
 simp only[yT,eqE,KT (s:=x.2.2.2.1) (N:=N) (by omega) (by omega),KZ (s:=x.2.2.2.1) (show 100<N by omega),DE (s:=x.2.2.2.1) (show 100<N by omega),j0,qHy]
 unfold eC nK
 by_cases h1:x.1=1
 .simp[h1]
 by_cases h2:x.1=2
 .simp[h2]
 by_cases h3:x.1=3
 .simp[h3]
 by_cases h4:x.1=4
 .simp[h4]
 by_cases h5:x.1=5
 .simp[h5]
 by_cases h6:x.1=6
 .simp[h6]
 by_cases h7:x.1=7
 .simp[h7]
 by_cases h8:x.1=8
 .simp[h8]
 by_cases h9:x.1=9
 .simp[h9]
 by_cases h10:x.1=10
 .simp[h10]
 simp[h1,h2,h3,h4,h5,h6,h7,h8,h9,h10]
def StOk(st:List Int):Nat->List Rose->Prop
 |_,[]=>True
 |b,t::l=>st[b+t.size-1]? =some (b:Int)/\StOk st (b+t.size) l
theorem StOk.app{st:List Int}:∀{l k:List Rose} {b:Nat},StOk st b (l++k)↔StOk st b l/\StOk st (b+aL l) k
 |[],k,b=>by simp[StOk,aL]
 |t::l,k,b=>by
  rw[jR]
  simp only[StOk,aL,StOk.app (l:=l)]
  rw[and_assoc,gG]
theorem StOk.set{st:List Int}{i:Nat}{v:Int}:∀{l:List Rose} {b:Nat},StOk st b l->b+aL l<=i->StOk (st.set i v) b l
 |[],_,_,_=>trivial
 |t::l,b,h,hi=>by
  have a:=t.pos
  simp only[aL] at hi
  exact⟨by rw[List.getElem?_set_ne (by omega)];exact h.1,h.2.set (by omega)⟩
theorem rF{α:Type}{l:List α}{i:Nat}{v:α}(h:l[i]? =some v):idx l (i:Int)=some v:=by
 have hi:i<l.length:=by
  by_cases hl:i<l.length
  .exact hl
  rw[List.getElem?_eq_none (by omega)] at h;cases h
 rw[eZ hi]
 rw[List.getElem?_eq_getElem hi] at h
 exact h
theorem SD{st:List Int}{i:Nat}{v:Int}(h:st[i]? =some v):st.set i v=st:=by
 refine gY fun j=> ?_
 rw[List.getElem?_set]
 by_cases e:i=j
 .subst e
  have hi:i<st.length:=by
   by_cases hl:i<st.length
   .exact hl
   rw[List.getElem?_eq_none (by omega)] at h;cases h
  rw[if_pos rfl,if_pos hi,h]
 rw[if_neg e]
theorem SO{N i:Nat}{x:Ex}{so:List Int}:∀(k M:Nat) (pre:List Rose) (st:List Int),k<=x.2.2.2.2.length->k<M->StOk st 0 pre->st[i]? =some ((aL pre:Nat):Int)->aL pre<=i->i<2000000->k<2000000->
  aS (yC N ((i:Int),so) x) M ((k:Int)-1,st)=some (if k<=pre.length/\(bQ 0 pre).drop (pre.length-k)=x.2.2.2.2.take k then .inl (st.set i ((aL (pre.take (pre.length-k)):Nat):Int)) else .inr false)
 |_,0,_,_,_,h,_,_,_,_,_=>absurd h (kQ _)
 |0,M+1,pre,st,_,_,_,hi,_,_,_=>by
  simp only[aS,yC]
  rw[if_neg (by simp),if_pos ⟨kE _,by rw[Nat.sub_zero,List.drop_of_length_le (by rw[oJ];exact jJ _),List.take_zero]⟩]
  rw[Nat.sub_zero,gK,SD hi]
  rfl
 |k+1,M+1,pre,st,A,z,q,hi,d,u,y=>by
  have c:k<x.2.2.2.2.length:=by omega
  have ek:((k+1:Nat):Int)-1=(k:Int):=by omega
  have wk:IntKind.wrap .i64 ((k:Int)-1)=(k:Int)-1:=by rw[bT (by omega) (by omega)]
  simp only[aS,yC]
  rw[ek,if_pos (by simp),eZ c,rF hi]
  simp only[j0]
  have wc:IntKind.wrap .i64 (((aL pre:Nat):Int)-1)=((aL pre:Nat):Int)-1:=by rw[bT (by omega) (by omega)]
  rw[wc]
  have n:x.2.2.2.2.take (k+1)=x.2.2.2.2.take k++[x.2.2.2.2[k]]:=FY c
  rcases fW pre with rfl|⟨pre',t,rfl⟩
  .have b:¬(k+1<=([]:List Rose).length/\(bQ 0 []).drop (([]:List Rose).length-(k+1))=x.2.2.2.2.take (k+1)):=by
    rintro⟨h,-⟩
    exact absurd h (by simp)
   rw[if_neg b]
   by_cases a:x.2.2.2.2[k]=((aL []:Nat):Int)-1
   .have g:x.2.2.2.2[k]<0:=by rw[a];simp[aL]
    rw[if_neg (by simpa using a)]
    simp only[j0,kS g,kI]
   rw[if_pos (by simpa using a)]
   rfl
  rw[fX] at q hi d ⊢
  have s:aL (pre'++[t])=aL pre'+t.size:=by rw[sZ];simp[aL]
  have B:=t.pos
  obtain⟨r,e,-⟩:=StOk.app.1 q
  rw[kG] at e
  have v:bQ 0 (pre'++[t])=bQ 0 pre'++[((aL pre'+t.size-1:Nat):Int)]:=by
   rw[CS,kG];rfl
  have l:k<=pre'.length->(bQ 0 (pre'++[t])).drop ((pre'++[t]).length-(k+1))=(bQ 0 pre').drop (pre'.length-k)++[((aL pre'+t.size-1:Nat):Int)]:=fun h=>by
   rw[v,j9,jO,show pre'.length+1-(k+1)=pre'.length-k by omega,gE (by rw[oJ];omega)]
  rw[s] at hi d ⊢
  by_cases a:x.2.2.2.2[k]=((aL pre'+t.size:Nat):Int)-1
  .have g:decide (x.2.2.2.2[k]<0)=false:=gD (by omega)
   have o:x.2.2.2.2[k]=((aL pre'+t.size-1:Nat):Int):=by omega
   rw[if_neg (by simpa using a)]
   simp only[j0,g,jE,kA]
   rw[o,rF e]
   simp only[j0,jU,wk]
   have p:i<st.length:=by
    by_cases hl:i<st.length
    .exact hl
    rw[List.getElem?_eq_none (by omega)] at hi;cases hi
   rw[SO k M pre' _ (by omega) (by omega) (r.set (by omega)) (by rw[List.getElem?_set_self p]) (by omega) u (by omega),List.set_set]
   congr 1
   by_cases hc:k<=pre'.length/\(bQ 0 pre').drop (pre'.length-k)=x.2.2.2.2.take k
   .rw[if_pos hc,if_pos ⟨by simp only[j9,jO];omega,by rw[l hc.1,n,hc.2,o]⟩]
    rw[j9,jO,show pre'.length+1-(k+1)=pre'.length-k by omega,kU (by omega)]
   rw[if_neg hc,if_neg]
   rintro⟨f,b⟩
   simp only[j9,jO] at f
   rw[l (by omega),n] at b
   exact hc ⟨by omega,(List.append_inj' b rfl).1⟩
  rw[if_pos (by simpa using a),if_neg]
  .rfl
  rintro⟨f,b⟩
  simp only[j9,jO] at f
  rw[l (by omega),n] at b
  have:=(List.append_inj' b rfl).2
  simp only[gO,dH] at this
  exact a (by omega)
theorem TM{N:Nat}{d:Dl}(p:d.2.2.2.length<2000000)(l:∀x∈d.2.2.2,x.2.2.2.1.size<=1048576/\x.2.2.2.2.length<2000000)(z:3000000<N):∀(M:Nat) (fs:List Rose) (st:List Int),cC 0 fs=d.2.2.2.take (aL fs)->aL fs<=d.2.2.2.length->st.length=d.2.2.2.length->StOk st 0 fs->d.2.2.2.length-aL fs<M->
  ∃out,aS (uC N d) M (((aL fs:Nat):Int),st)=some out/\(match out with
   | .inl st'=>(∀x∈d.2.2.2.drop (aL fs),eC (d.2.2.1.length:Int) x=true)/\∃fs',mQ (d.2.2.2.drop (aL fs)) (aL fs) (bQ 0 fs)=some (bQ 0 fs')/\StOk st' 0 fs'/\st'.length=d.2.2.2.length/\aL fs'=d.2.2.2.length
   | .inr b=>b=false/\¬((∀x∈d.2.2.2.drop (aL fs),eC (d.2.2.1.length:Int) x=true)/\∃r,mQ (d.2.2.2.drop (aL fs)) (aL fs) (bQ 0 fs)=some r))
 |0,_,_,_,_,_,_,h=>absurd h (kQ _)
 |M+1,fs,st,G,K,n,s,R=>by
  by_cases hi:aL fs<d.2.2.2.length
  .have A:d.2.2.2.drop (aL fs)=d.2.2.2[aL fs]::d.2.2.2.drop (aL fs+1):=yY hi
   obtain⟨B,D⟩:=l _ (jX hi)
   rw[A]
   generalize k:d.2.2.2[aL fs]=x at B D
   have wi:IntKind.wrap .i64 (((aL fs:Nat):Int)+1)=((aL fs+1:Nat):Int):=by rw[bT (by omega) (by omega)];omega
   have wl:IntKind.wrap .i64 ((x.2.2.2.2.length:Int)-1)=(x.2.2.2.2.length:Int)-1:=by rw[bT (by omega) (by omega)]
   have c:aL fs<st.length:=by omega
   have o:(uC N d (((aL fs:Nat):Int),st))=if eC (d.2.2.1.length:Int) x=true then(if x.2.2.2.2.length<=fs.length/\(bQ 0 fs).drop (fs.length-x.2.2.2.2.length)=x.2.2.2.2 then some (.inl (((aL fs+1:Nat):Int),(st.set (aL fs) ((aL fs:Nat):Int)).set (aL fs) ((aL (fs.take (fs.length-x.2.2.2.2.length)):Nat):Int))) else some (.inr (.inr false))) else some (.inr (.inr false)):=by
    simp only[uC]
    rw[if_pos (by simp only[jA];omega),eZ hi]
    simp only[j0,k]
    rw[show yT N (x.1,x.2.1,x.2.2.1,x.2.2.2.1,x.2.2.2.2) (d.2.2.1.length:Int)=_ from qGi B z]
    simp only[j0]
    by_cases a:eC (d.2.2.1.length:Int) x=true
    .rw[if_pos a,a,if_neg (by decide),eZ c]
     simp only[j0,jU,wi,wl]
     have f:=SO (N:=N) (i:=aL fs) (x:=x) (so:=st) x.2.2.2.2.length N fs (st.set (aL fs) ((aL fs:Nat):Int)) (jJ _) (by omega) (s.set (by omega)) (List.getElem?_set_self c) (jJ _) (by omega) D
     rw[gK] at f
     rw[f]
     simp only[j0]
     by_cases hc:x.2.2.2.2.length<=fs.length/\(bQ 0 fs).drop (fs.length-x.2.2.2.2.length)=x.2.2.2.2
     .rw[if_pos hc,if_pos hc]
     rw[if_neg hc,if_neg hc]
    rw[if_neg a,show eC (d.2.2.1.length:Int) x=false by simpa using a]
    rfl
   simp only[aS,o]
   by_cases a:eC (d.2.2.1.length:Int) x=true
   .rw[if_pos a]
    by_cases hc:x.2.2.2.2.length<=fs.length/\(bQ 0 fs).drop (fs.length-x.2.2.2.2.length)=x.2.2.2.2
    .rw[if_pos hc]
     simp only[j0]
     obtain⟨g,F,v⟩:=NP (h:=(x.1,x.2.1,x.2.2.1,x.2.2.2.1)) hc.1 rfl hc.2
     have hx':dK (x.1,x.2.1,x.2.2.1,x.2.2.2.1) x.2.2.2.2=x:=rfl
     rw[hx'] at v
     rw[List.set_set]
     have t:StOk (st.set (aL fs) ((aL (fs.take (fs.length-x.2.2.2.2.length)):Nat):Int)) 0 (fs.take (fs.length-x.2.2.2.2.length)++[Rose.mk (x.1,x.2.1,x.2.2.1,x.2.2.2.1) (fs.drop (fs.length-x.2.2.2.2.length))]):=by
      refine StOk.app.2 ⟨?_,?_,trivial⟩
      .have f:=s
       rw[<-gI (fs.length-x.2.2.2.2.length) fs] at f
       refine(StOk.app.1 f).1.set ?_
       have:=sZ (fs.take (fs.length-x.2.2.2.2.length)) (fs.drop (fs.length-x.2.2.2.2.length))
       rw[gI] at this
       omega
      have:=sZ (fs.take (fs.length-x.2.2.2.2.length)) (fs.drop (fs.length-x.2.2.2.2.length))
      rw[gI] at this
      rw[kG,show aL (fs.take (fs.length-x.2.2.2.2.length))+(Rose.mk (x.1,x.2.1,x.2.2.1,x.2.2.2.1) (fs.drop (fs.length-x.2.2.2.2.length))).size-1=aL fs by simp only[Rose.size];omega]
      exact List.getElem?_set_self c
     have H:d.2.2.2.take (aL fs+1)=d.2.2.2.take (aL fs)++[x]:=by rw[FY hi,k]
     obtain⟨out,E,f⟩:=TM p l z M _ (st.set (aL fs) ((aL (fs.take (fs.length-x.2.2.2.2.length)):Nat):Int)) (by rw[v,g,H,G]) (by rw[g];omega) (by rw[gB];exact n) t (by rw[g];omega)
     rw[g] at E f
     refine⟨out,E,?_⟩
     have q:mQ (x::d.2.2.2.drop (aL fs+1)) (aL fs) (bQ 0 fs)=mQ (d.2.2.2.drop (aL fs+1)) (aL fs+1) (bQ 0 (fs.take (fs.length-x.2.2.2.2.length)++[Rose.mk (x.1,x.2.1,x.2.2.1,x.2.2.2.1) (fs.drop (fs.length-x.2.2.2.2.length))])):=by
      rw[GD x _ _ _ x.2.2.2.2 rfl,oJ,if_pos hc,F]
     rw[q]
     cases out with
     |inl st'=>exact⟨fun y u=>(jT.1 u).elim (fun e=>e▸a) (f.1 y),f.2⟩
     |inr b=>exact⟨f.1,fun h=>f.2 ⟨fun y u=>h.1 y (jK _ u),h.2⟩⟩
    rw[if_neg hc]
    refine⟨_,rfl,rfl,?_⟩
    rintro⟨-,r,f⟩
    rw[GD x _ _ _ x.2.2.2.2 rfl,oJ,if_neg hc] at f
    cases f
   rw[if_neg a]
   exact⟨_,rfl,rfl,fun h=>a (h.1 x (jG ..))⟩
  have c:aL fs=d.2.2.2.length:=by omega
  have a:d.2.2.2.drop (aL fs)=[]:=kN (by omega)
  have o:(uC N d (((aL fs:Nat):Int),st))=some (.inr (.inl st)):=by
   simp only[uC]
   rw[if_neg (by simp only[jA];omega)]
  simp only[aS,o,j0]
  refine⟨.inl st,rfl,?_⟩
  dsimp only
  rw[a]
  exact⟨fun x k=>(by cases k),fs,rfl,s,n,c⟩
def oneP:Option (List Int)->Bool
 |some [_]=>true
 |_=>false
def zV(d:Dl):Bool:=d.2.2.2.all (eC (d.2.2.1.length:Int))&&oneP (mQ d.2.2.2 0 [])
def rE(d:Dl):Bool:=if d.1=1\/d.1=2 then cP d.2.1 else if d.1=3 then lL d.2.1.data.toList else false
def xA(d:Dl):Bool:=d.2.2.1.all fun s=>d.1==1&&cP s
def qG(d:Dl):Bool:=rE d&&(xA d&&zV d)
def EI(d:Dl):Prop:=d.2.1.size<=1048576/\d.2.2.1.length<2000000/\d.2.2.2.length<2000000/\∀x∈d.2.2.2,x.2.2.2.1.size<=1048576/\x.2.2.2.2.length<2000000
theorem qAl{N:Nat}{d:Dl}(e:EI d)(k:3000000<N):aS (vG N d) N 0=some (if xA d=true then .inl () else .inr false):=by
 obtain⟨-,g,-,-⟩:=e
 have h:=yX (L:=d.2.2.1) (fun(_:Unit) (i:Nat)=>(i:Int)) (f:=vG N d)
  (fun _ s=>if(!(d.1==1&&cP s))=true then .inr (.inr false) else .inl ()) (fun _=>(.inl ():Unit⊕Bool)) (fun _ _=>True) (by
   intro t i hi _
   simp only[vG]
   rw[if_pos (by simp only[jA];omega),eZ hi]
   have ew:IntKind.wrap .i64 ((i:Int)+1)=((i+1:Nat):Int):=by rw[bT (by omega) (by omega)];omega
   simp only[j0,DE (s:=d.2.2.1[i]) (show 100<N by omega),ew]
   by_cases hk:d.1=1
   .have a:(d.1 !=1)=false:=by simp[hk]
    have c:(d.1==1)=true:=by simp[hk]
    simp only[a,c,jE,kA,j0,fM]
    cases cP d.2.2.1[i]<;>rfl
   .have a:(d.1 !=1)=true:=by simp[hk]
    have c:(d.1==1)=false:=by simp[hk]
    simp only[a,c,kI,j0,Bool.false_and,fS]) (fun _ _ _ _ _ _=>trivial) (by
   intro t _
   simp only[vG]
   rw[if_neg (by simp)]) (M:=N) (t:=()) (by omega) trivial
 rw[show((0:Nat):Int)=0 from rfl] at h
 rw[h,DJ (b:=(.inr false:Unit⊕Bool)) (fun s=> !(d.1==1&&cP s)) (fun x=>rfl)]
 unfold xA
 rw[hQ]
 cases(d.2.2.1.any fun s=> !(d.1==1&&cP s))<;>rfl
theorem ZC{N:Nat}{d:Dl}(n:EI d)(l:3000000<N):yI N d=some (qG d):=by
 obtain⟨D,F,v,x⟩:=id n
 unfold yI
 have f:((if(d.1==1)=true then(some (d.1==1)) else(some (d.1==2)):Option (Bool)).bind fun e=>if e=true then((rW N d.2.1).bind fun y1=>if(!y1)=true then(some (.inr false)) else(some (.inl ()))) else(if(d.1==3)=true then((sY N d.2.1).bind fun A=>if(!A)=true then(some (.inr false)) else(some (.inl ()))) else(some (.inr false))):Option ((Unit)⊕(Bool)))=some (if rE d=true then .inl () else .inr false):=by
  simp only[DE (s:=d.2.1) (show 100<N by omega),KT (s:=d.2.1) (N:=N) (by omega) (by omega),j0]
  unfold rE
  by_cases k1:d.1=1
  .simp only[k1,dB,kI,j0,true_or]
   cases cP d.2.1<;>rfl
  have a:(d.1==1)=false:=by simpa using k1
  by_cases k2:d.1=2
  .simp only[a,k2,dB,jE,kA,kI,j0,or_true]
   cases cP d.2.1<;>rfl
  have c:(d.1==2)=false:=by simpa using k2
  by_cases k3:d.1=3
  .have e3:(d.1==3)=true:=by simpa using k3
   rw[if_neg (show ¬(d.1=1\/d.1=2) by omega),if_pos k3]
   simp only[a,c,e3,jE,kA,kI,j0]
   cases lL d.2.1.data.toList<;>rfl
  have e3:(d.1==3)=false:=by simpa using k3
  rw[if_neg (show ¬(d.1=1\/d.1=2) by omega),if_neg k3]
  simp only[a,c,e3,jE,kA,j0]
 rw[f]
 simp only[j0]
 unfold qG
 by_cases hh:rE d=true
 .rw[if_pos hh,hh,fM]
  simp only[qAl n l,j0]
  by_cases c:xA d=true
  .rw[if_pos c,c,fM]
   have B:(maxLen:Int)=9223372036854775807:=rfl
   have o:pN 8 (0:Int) (d.2.2.2.length:Int)=some (List.replicate d.2.2.2.length 0):=by
    unfold pN;rw[if_pos (by omega),jU]
   simp only[o,j0]
   obtain⟨out,p,e⟩:=TM (N:=N) v x l N [] (List.replicate d.2.2.2.length 0) (by simp[cC,aL]) (kE _) (by simp) trivial (by omega)
   have q:((aL []:Nat):Int)=0:=rfl
   rw[q] at p
   rw[p]
   simp only[j0]
   rw[show aL []=0 from rfl,kJ] at e
   cases out with
   |inr b=>
    obtain⟨rfl,g⟩:=e
    dsimp only
    congr 1
    unfold zV
    cases h:d.2.2.2.all (eC (d.2.2.1.length:Int)) with
    |false=>rfl
    |true=>
     rw[fM]
     cases k:mQ d.2.2.2 0 [] with
     |none=>rfl
     |some r=>exact absurd ⟨jV.1 h,r,k⟩ g
   |inl st=>
    obtain⟨h,fs,k,y,G,z⟩:=e
    dsimp only
    have ha':d.2.2.2.all (eC (d.2.2.1.length:Int))=true:=jV.2 h
    have ho':mQ d.2.2.2 0 []=some (bQ 0 fs):=k
    unfold zV
    rw[ha',ho',fM]
    rcases fW fs with rfl|⟨pre,t,rfl⟩
    .have g:d.2.2.2.length=0:=by rw[<-z];rfl
     rw[if_neg (by simp[g])]
     rfl
    rw[fX] at*
    have E:aL (pre++[t])=aL pre+t.size:=by rw[sZ];simp[aL]
    have c:=t.pos
    obtain⟨-,g,-⟩:=StOk.app.1 y
    rw[kG] at g
    have w:IntKind.wrap .i64 ((d.2.2.2.length:Int)-1)=((aL pre+t.size-1:Nat):Int):=by rw[bT (by omega) (by omega)];omega
    rw[if_pos (by simp only[jA];omega),w,rF g]
    simp only[j0]
    congr 1
    rw[CS,kG]
    cases pre with
    |nil=>rfl
    |cons u pre=>
     have H:=u.pos
     have a:((((aL (u::pre):Nat)):Int)==0)=false:=by
      simp only[aL,beq_eq_false_iff_ne];omega
     rw[a]
     cases pre<;>rfl
  rw[if_neg c,show xA d=false by simpa using c]
  rfl
 rw[if_neg hh,show rE d=false by simpa using hh]
 rfl
def SmSr(f:Sr):Prop:=f.2.1.length<2000000/\f.2.2.length<2000000/\∀d∈f.2.2,EI d
def tQ(f:Sr):Bool:=cP f.1&&(f.2.1.all cP&&f.2.2.all qG)
theorem qBb{N:Nat}{f:Sr}(h:SmSr f)(g:3000000<N):yO N f=some (tQ f):=by
 obtain⟨k,l,e⟩:=h
 unfold yO
 rw[DE (by omega)]
 simp only[j0]
 unfold tQ
 by_cases hn:cP f.1=true
 .rw[hn,if_neg (by decide),fM]
  have a:=yX (L:=f.2.1) (fun(_:Unit) (i:Nat)=>(i:Int)) (f:=yF N f)
   (fun _ s=>if(!cP s)=true then .inr (.inr false) else .inl ()) (fun _=>(.inl ():Unit⊕Bool)) (fun _ _=>True) (by
    intro t i hi _
    simp only[yF]
    rw[if_pos (by simp only[jA];omega),eZ hi]
    have ew:IntKind.wrap .i64 ((i:Int)+1)=((i+1:Nat):Int):=by rw[bT (by omega) (by omega)];omega
    simp only[j0,DE (s:=f.2.1[i]) (show 100<N by omega),ew]
    cases cP f.2.1[i]<;>rfl) (fun _ _ _ _ _ _=>trivial) (by
    intro t _
    simp only[yF]
    rw[if_neg (by simp)]) (M:=N) (t:=()) (by omega) trivial
  have c:=JJ (L:=f.2.2) (fun(_:Unit) (i:Nat)=>(i:Int)) (f:=yG N f)
   (fun _ d=>if(!qG d)=true then .inr (.inr false) else .inl ()) (fun _=>(.inl ():Unit⊕Bool)) (fun _ _=>True) (by
    intro t i hi _
    simp only[yG]
    rw[if_pos (by simp only[jA];omega),eZ hi]
    have ew:IntKind.wrap .i64 ((i:Int)+1)=((i+1:Nat):Int):=by rw[bT (by omega) (by omega)];omega
    simp only[j0,ew]
    rw[show yI N (f.2.2[i].1,f.2.2[i].2.1,f.2.2[i].2.2.1,f.2.2[i].2.2.2)=_ from ZC (e _ (jX hi)) g]
    simp only[j0]
    cases qG f.2.2[i]<;>rfl) (fun _ _ _ _ _ _=>trivial) (by
    intro t _
    simp only[yG]
    rw[if_neg (by simp)]) f.2.2.length 0 N () (by omega) (by omega) trivial
  rw[show((0:Nat):Int)=0 from rfl] at a c
  rw[a,DJ (b:=(.inr false:Unit⊕Bool)) (fun s=> !cP s) (fun x=>rfl),hQ]
  cases ha:(f.2.1.any fun s=> !cP s) with
  |true=>rfl
  |false=>
   simp only[jE,kA,j0,fS,fM]
   rw[c,kJ,DJ (b:=(.inr false:Unit⊕Bool)) (fun s=> !qG s) (fun x=>rfl),hQ]
   cases(f.2.2.any fun s=> !qG s)<;>rfl
 rw[show cP f.1=false by simpa using hn]
 rfl
def mD{α:Type}[DecidableEq α]:List α->List α->Bool
 |_,[]=>false
 |seen,x::l=>decide (x∈seen)||mD (seen++[x]) l
def iK{α:Type}[DecidableEq α](l:List α):Bool:=mD [] l
theorem RR{α:Type}[DecidableEq α]{l:List α}{f:Int->Option (Int⊕(Unit⊕Bool))}(b:∀(i:Nat) (hi:i<l.length),f (i:Int)=some (if l[i]∈l.take i then .inr (.inr true) else .inl ((i+1:Nat):Int)))
  (a:f (l.length:Int)=some (.inr (.inl ()))):∀(d i M:Nat),i+d=l.length->d<M->aS f M (i:Int)=some (if mD (l.take i) (l.drop i)=true then .inr true else .inl ())
 |_,_,0,_,h=>absurd h (kQ _)
 |0,i,M+1,c,_=>by
  have:i=l.length:=by omega
  subst this
  simp only[aS,a,j0,fO,mD]
  rfl
 |d+1,i,M+1,c,g=>by
  have hi:i<l.length:=by omega
  simp only[aS,b i hi,j0]
  rw[yY hi]
  by_cases hm:l[i]∈l.take i
  .have e:mD (l.take i) (l[i]::l.drop (i+1))=true:=by
    show(decide _||_)=true
    rw[kS hm,Bool.true_or]
   rw[if_pos hm,if_pos e]
  have e:mD (l.take i) (l[i]::l.drop (i+1))=mD (l.take (i+1)) (l.drop (i+1)):=by
   show(decide _||_)=_
   rw[gD hm,gP,FY hi]
  rw[if_neg hm,e]
  exact RR b a d (i+1) M (by omega) (by omega)
theorem QG{α:Type}[DecidableEq α]{l:List α}{f:Int->Option (Int⊕(Unit⊕Bool))}(c:∀(i:Nat) (hi:i<l.length),f (i:Int)=some (if l[i]∈l.take i then .inr (.inr true) else .inl ((i+1:Nat):Int)))
  (b:f (l.length:Int)=some (.inr (.inl ()))) {M:Nat} (a:l.length<M):aS f M 0=some (if iK l=true then .inr true else .inl ()):=by
 have h:=RR c b l.length 0 M (by omega) a
 rw[List.take_zero,kJ] at h
 exact h
theorem JK{α:Type}[DecidableEq α]{l:List α}{x:α}{f:Int->Option (Int⊕(Unit⊕Int))}(e:∀(i:Nat) (hi:i<l.length),f (i:Int)=some (if x=l[i] then .inr (.inr (i:Int)) else .inl ((i+1:Nat):Int)))
  (c:f (l.length:Int)=some (.inr (.inl ()))):∀(d i M:Nat),i+d=l.length->d<M->∃o,aS f M (i:Int)=some o/\(match o with| .inl _=>x∉l.drop i| .inr j=>x∈l.drop i/\0<=j)
 |_,_,0,_,h=>absurd h (kQ _)
 |0,i,M+1,g,_=>by
  have:i=l.length:=by omega
  subst this
  simp only[aS,c,j0,fO]
  exact⟨.inl (),rfl,kW⟩
 |d+1,i,M+1,g,n=>by
  have hi:i<l.length:=by omega
  simp only[aS,e i hi,j0]
  rw[yY hi]
  by_cases a:x=l[i]
  .rw[if_pos a]
   exact⟨.inr (i:Int),rfl,by rw[a];exact jG ..,by omega⟩
  rw[if_neg a]
  simp only
  obtain⟨o,k,b⟩:=JK e c d (i+1) M (by omega) (by omega)
  refine⟨o,k,?_⟩
  cases o with
  |inl u=>exact fun h=>(jT.1 h).elim a b
  |inr j=>exact⟨jK _ b.1,b.2⟩
theorem NG{N:Nat}{s:BA}{l:List BA}(d:l.length<2000000)(c:l.length<N):rQ N l s=some (decide (s∈l)):=by
 obtain⟨o,b,a⟩:=JK (l:=l) (x:=s) (f:=sQ N l s) (fun i hi=>by
  simp only[sQ]
  rw[if_pos (by simp only[jA];omega),eZ hi]
  have ew:IntKind.wrap .i64 ((i:Int)+1)=((i+1:Nat):Int):=by rw[bT (by omega) (by omega)];omega
  simp only[j0,oZ,jA,ew]
  split<;>rfl) (by
  simp only[sQ]
  rw[if_neg (by simp)]) l.length 0 N (by omega) c
 rw[show((0:Nat):Int)=0 from rfl] at b
 rw[kJ] at a
 simp only[rQ,uX,b,j0]
 cases o with
 |inl u=>
  simp only at a
  rw[gD a];rfl
 |inr j=>
  simp only at a ⊢
  rw[kS a.1]
  simp[a.2]
theorem PO{N:Nat}{l:List BA}(b:l.length<2000000)(a:l.length<N):yA N l=some (iK l):=by
 have h:=QG (l:=l) (f:=xV N l) (fun i hi=>by
  simp only[xV]
  rw[if_pos (by simp only[jA];omega),eZ hi,GC (by omega) (by omega) (by omega)]
  have ew:IntKind.wrap .i64 ((i:Int)+1)=((i+1:Nat):Int):=by rw[bT (by omega) (by omega)];omega
  simp only[j0,jU,fR,kJ,ew]
  rw[NG (by rw[kX];omega) (by rw[kX];omega)]
  simp only[j0,jA]
  split<;>rfl) (by
  simp only[xV]
  rw[if_neg (by simp)]) a
 simp only[yA,h,j0]
 cases iK l<;>rfl
abbrev rP:=Int×BA
instance decMemN(s:rP)(l:List rP):Decidable (s∈l):=@List.instDecidableMemOfLawfulBEq rP instBEqOfDecidableEq inferInstance s l
theorem YG{N:Nat}{s:rP}{l:List rP}(d:l.length<2000000)(c:l.length<N):AO N l s=some (decide (s∈l)):=by
 obtain⟨o,b,a⟩:=JK (l:=l) (x:=s) (f:=xO N l s) (fun i hi=>by
  simp only[xO]
  rw[if_pos (by simp only[jA];omega),eZ hi]
  have ew:IntKind.wrap .i64 ((i:Int)+1)=((i+1:Nat):Int):=by rw[bT (by omega) (by omega)];omega
  have ee:((s.1==l[i].1)&&((s.2.toList==l[i].2.toList)&&true))=decide (s=l[i]):=by
   rw[fA]
   simp only[oZ,jI,kY,jA,dH,Prod.ext_iff]
  simp only[j0,ee,jA,ew]
  split<;>rfl) (by
  simp only[xO]
  rw[if_neg (by simp)]) l.length 0 N (by omega) c
 rw[show((0:Nat):Int)=0 from rfl] at b
 rw[kJ] at a
 simp only[AO,EU,b,j0]
 cases o with
 |inl u=>
  simp only at a
  rw[gD a];rfl
 |inr j=>
  simp only at a ⊢
  rw[kS a.1]
  simp[a.2]
theorem qBx{N:Nat}{l:List rP}(b:l.length<2000000)(a:l.length<N):AW N l=some (iK l):=by
 have h:=QG (l:=l) (f:=xQ N l) (fun i hi=>by
  simp only[xQ]
  rw[if_pos (by simp only[jA];omega),eZ hi,GC (by omega) (by omega) (by omega)]
  have ew:IntKind.wrap .i64 ((i:Int)+1)=((i+1:Nat):Int):=by rw[bT (by omega) (by omega)];omega
  simp only[j0,jU,fR,kJ,ew]
  rw[YG (by rw[kX];omega) (by rw[kX];omega)]
  simp only[j0,jA]
  split<;>rfl) (by
  simp only[xQ]
  rw[if_neg (by simp)]) a
 simp only[AW,h,j0]
 cases iK l<;>rfl
def qR(d:Dl):rP:=(d.1,d.2.1)
def tF(f:Sr):Bool:=f.2.2.any (fun d=>iK d.2.2.1)||(decide (f.1∈f.2.1)||(iK f.2.1||iK (f.2.2.map qR)))
theorem qDa{N:Nat}{f:Sr}(c:SmSr f)(o:3000000<N):aS (vM N f) N ([],0)=some (if f.2.2.any (fun d=>iK d.2.2.1)=true then .inr true else .inl (f.2.2.map qR)):=by
 obtain⟨k,n,b⟩:=c
 have h:=yX (L:=f.2.2) (fun(t:List rP) (i:Nat)=>(t,(i:Int))) (f:=vM N f)
  (fun t d=>if iK d.2.2.1=true then .inr (.inr true) else .inl (t++[qR d])) (fun t=>(.inl t:List rP⊕Bool)) (fun i t=>t.length<=i) (by
   intro t i hi a
   obtain⟨-,e,-,-⟩:=b _ (jX hi)
   simp only[vM]
   rw[if_pos (by simp only[jA];omega),eZ hi]
   have ew:IntKind.wrap .i64 ((i:Int)+1)=((i+1:Nat):Int):=by rw[bT (by omega) (by omega)];omega
   simp only[j0,PO e (show(f.2.2[i]).2.2.1.length<N by omega),ew]
   rw[rU (by simp only[jB,jD];omega) (by omega)]
   simp only[j0]
   split<;>rfl) (by
   intro t i hi t' a h
   split at h
   .cases h
   .cases h
    simp only[j9,jB,jD];omega) (by
   intro t a
   simp only[vM]
   rw[if_neg (by simp)]) (M:=N) (t:=[]) (by omega) (jJ _)
 rw[show((0:Nat):Int)=0 from rfl] at h
 rw[h]
 congr 1
 suffices g:∀(l:List Dl) (t:List rP),run (fun t d=>if iK d.2.2.1=true then .inr (.inr true) else .inl (t++[qR d])) (fun t=>(.inl t:List rP⊕Bool)) l t=if l.any (fun d=>iK d.2.2.1)=true then .inr true else .inl (t++l.map qR) by
  have:=g f.2.2 []
  rw[jL] at this
  exact this
 intro l
 induction l with
 |nil=>intro t;simp[run]
 |cons d l a=>
  intro t
  simp only[run,hB,jZ]
  cases hd:iK d.2.2.1 with
  |true=>simp
  |false=>
   simp only[jE,kA,gP]
   rw[a,jC];rfl
theorem qCi{N:Nat}{f:Sr}(b:SmSr f)(e:3000000<N):yS N f=some (tF f):=by
 obtain⟨a,c,g⟩:=id b
 unfold yS
 rw[qDa b e]
 simp only[j0]
 unfold tF
 cases ha:f.2.2.any (fun d=>iK d.2.2.1) with
 |true=>rfl
 |false=>
  simp only[jE,kA,gP]
  rw[NG a (by omega),PO a (by omega),qBx (by rw[gJ];exact c) (by rw[gJ];omega)]
  simp only[j0]
  cases decide (f.1∈f.2.1)<;>cases iK f.2.1<;>rfl
def rJ:List Ex->List Rose->List Rose
 |[],fs=>fs
 |x::l,fs=>rJ l (fs.take (fs.length-x.2.2.2.2.length)++[Rose.mk (x.1,x.2.1,x.2.2.1,x.2.2.2.1) (fs.drop (fs.length-x.2.2.2.2.length))])
def sL(l:List Ex):Option Rose:=match rJ l [] with
 |[t]=>some t
 |_=>none
theorem RT:∀(l:List Ex) (fs:List Rose) {st:List Int},mQ l (aL fs) (bQ 0 fs)=some st->cC 0 (rJ l fs)=cC 0 fs++l/\st=bQ 0 (rJ l fs)
 |[],fs,st,h=>⟨by simp[rJ],(jF h).symm⟩
 |x::l,fs,st,h=>by
  rw[GD x _ _ _ x.2.2.2.2 rfl] at h
  split at h
  .rename_i hc
   obtain⟨a,b⟩:=hc
   rw[oJ] at a b h
   obtain⟨c,d,e3⟩:=NP (h:=(x.1,x.2.1,x.2.2.1,x.2.2.2.1)) a rfl b
   rw[<-c,<-d] at h
   obtain⟨e,f⟩:=RT l _ h
   exact⟨by rw[rJ,e,e3,jC];rfl,f⟩
  cases h
theorem JU{l:List Ex}(h:oneP (mQ l 0 [])=true):∃t,sL l=some t/\l=t.flat 0:=by
 cases a:mQ l 0 [] with
 |none=>rw[a] at h;cases h
 |some st=>
  rw[a] at h
  obtain⟨b,e⟩:=RT l [] a
  have c:st.length=1:=by
   match st,h with
   |[x],_=>rfl
  rw[e,oJ] at c
  obtain⟨t,d⟩:=List.length_eq_one_iff.1 c
  refine⟨t,by unfold sL;rw[d],?_⟩
  rw[d] at b
  simpa[cC] using b.symm
mutual
def Rose.deepen(d:Nat):Rose->Nat
 | .mk h ks=>max d (sG (if h.1=4 then d else d+1) ks)
def sG(d:Nat):List Rose->Nat
 |[]=>0
 |t::l=>max (t.deepen d) (sG d l)
end
theorem IP{d:Nat}:∀{l:List Rose},(32<sG d l)↔∃t∈l,32<t.deepen d
 |[]=>by simp[sG]
 |t::l=>by
  have a:=IP (d:=d) (l:=l)
  simp only[sG,jT,exists_eq_or_imp,<-a]
  omega
def qM(dp:List Int)(a:List Int)(v:Int):List Int:=a.foldl (fun dp a=>dp.set a.toNat v) dp
theorem OX:∀(a:List Int) (dp:List Int) (v:Int),(qM dp a v).length=dp.length
 |[],_,_=>rfl
 |x::a,dp,v=>by
  show(qM (dp.set x.toNat v) a v).length=_
  rw[OX a,gB]
theorem IV{j:Nat}{v:Int}:∀(ks:List Rose) (b:Nat) (dp:List Int),j<b->(qM dp (bQ b ks) v)[j]? =dp[j]?
 |[],_,_,_=>rfl
 |t::l,b,dp,h=>by
  have a:=t.pos
  show(qM (dp.set (((b+t.size-1:Nat):Int)).toNat v) (bQ (b+t.size) l) v)[j]? =_
  rw[IV l (b+t.size) _ (by omega),jU,List.getElem?_set_ne (by omega)]
def DpOk(dp:List Int):Nat->List (Rose×Nat)->Prop
 |_,[]=>True
 |b,p::l=>(∃v:Int,dp[b+p.1.size-1]? =some v/\(v=(p.2:Int)\/v=0/\p.2=1))/\DpOk dp (b+p.1.size) l
theorem DpOk.app{dp:List Int}:∀{l k:List (Rose×Nat)} {b:Nat},DpOk dp b (l++k)↔DpOk dp b l/\DpOk dp (b+aL (l.map (·.1))) k
 |[],k,b=>by simp[DpOk,aL]
 |t::l,k,b=>by
  rw[jR]
  simp only[DpOk,jZ,aL,DpOk.app (l:=l)]
  rw[and_assoc,gG]
theorem DpOk.congr{dp dp':List Int}:∀{l:List (Rose×Nat)} {b:Nat},DpOk dp b l->(∀j,j<b+aL (l.map (·.1))->dp'[j]? =dp[j]?)->DpOk dp' b l
 |[],_,_,_=>trivial
 |t::l,b,h,a=>by
  have e:=t.1.pos
  simp only[jZ,aL] at a
  refine⟨?_,h.2.congr fun j h=>a j (by omega)⟩
  obtain⟨v,c,d⟩:=h.1
  exact⟨v,by rw[a _ (by omega)];exact c,d⟩
theorem DpOk.kids{d:Nat}:∀{ks:List Rose} {b:Nat} {dp:List Int},b+aL ks<=dp.length->DpOk (qM dp (bQ b ks) (d:Int)) b (ks.map fun t=>(t,d))
 |[],_,_,_=>trivial
 |t::l,b,dp,h=>by
  have a:=t.pos
  simp only[aL] at h
  show DpOk (qM (dp.set (((b+t.size-1:Nat):Int)).toNat d) (bQ (b+t.size) l) d) b ((t,d)::l.map fun t=>(t,d))
  refine⟨⟨d,?_,.inl rfl⟩,DpOk.kids (by rw[gB];omega)⟩
  rw[IV l (b+t.size) _ (by show b+t.size-1<b+t.size;omega),jU,List.getElem?_set_self (by omega)]
theorem KI{N i d:Nat}{x1:Dl}{x5:Ex}{so:List Int}(o:x1.2.2.2[i]? =some x5)(l:∀a∈x5.2.2.2.2,0<=a/\a<(i:Int))(g:x5.2.2.2.2.length<2000000)(q:d<=1000):∀(k j M:Nat) (dp:List Int),j+k=x5.2.2.2.2.length->k<M->i<dp.length->dp[i]? =some (d:Int)->
  aS (yK N x1 ((i:Int),so) x5) M ((j:Int),dp)=some (qM dp (x5.2.2.2.2.drop j) (if x5.1=4 then(d:Int) else((d+1:Nat):Int)))
 |_,_,0,_,_,h,_,_=>absurd h (kQ _)
 |0,j,M+1,dp,s,_,_,_=>by
  have:j=x5.2.2.2.2.length:=by omega
  subst this
  simp only[aS,yK]
  rw[if_neg (by simp),fO]
  rfl
 |k+1,j,M+1,dp,s,u,hi,c=>by
  have f:j<x5.2.2.2.2.length:=by omega
  obtain⟨a0,t⟩:=l _ (jX f)
  obtain⟨a,ea⟩:∃a:Nat,x5.2.2.2.2[j]=(a:Int):=⟨(x5.2.2.2.2[j]).toNat,by omega⟩
  have r:a<i:=by omega
  have ew:IntKind.wrap .i64 ((j:Int)+1)=((j+1:Nat):Int):=by rw[bT (by omega) (by omega)];omega
  have ed:IntKind.wrap .i64 ((d:Int)+1)=((d+1:Nat):Int):=by rw[bT (by omega) (by omega)];omega
  simp only[aS,yK]
  rw[if_pos (by simp only[jA];omega),eZ f,ea]
  have p:idx dp (a:Int)=some dp[a]:=eZ (by omega)
  have n:idx (dp.set a (d:Int)) (a:Int)=some (d:Int):=rF (List.getElem?_set_self (by omega))
  simp only[j0,rF c,p,rF o,jU,n,ed,ew]
  rw[yY f,ea]
  have b:∀v:Int,qM dp ((a:Int)::x5.2.2.2.2.drop (j+1)) v=qM (dp.set a v) (x5.2.2.2.2.drop (j+1)) v:=fun v=>by
   show qM (dp.set ((a:Int)).toNat v) _ v=_
   rw[jU]
  by_cases hk:x5.1=4
  .have e:(x5.1 !=4)=false:=by simp[hk]
   simp only[e,jE,kA,j0]
   rw[KI o l g q k (j+1) M _ (by omega) (by omega) (by rw[gB];exact hi) (by rw[List.getElem?_set_ne (by omega)];exact c),if_pos hk,b]
  have e:(x5.1 !=4)=true:=by simp[hk]
  simp only[e,kI,j0,List.set_set]
  rw[KI o l g q k (j+1) M _ (by omega) (by omega) (by rw[gB];exact hi) (by rw[List.getElem?_set_ne (by omega)];exact c),if_neg hk,b]
theorem SG:∀{ks:List Rose} {b:Nat},∀a∈bQ b ks,(b:Int)<=a/\a<((b+aL ks:Nat):Int)
 |[],_,a,h=>by cases h
 |t::l,b,a,h=>by
  have c:=t.pos
  simp only[aL]
  rcases jT.1 h with rfl|h
  .omega
  have:=SG (ks:=l) (b:=b+t.size) a h
  omega
theorem SZ{N:Nat}{x1:Dl}(G:x1.2.2.2.length<=256)(g:∀x∈x1.2.2.2,x.2.2.2.2.length<2000000)(hN:3000000<N):∀(M:Nat) (F:List (Rose×Nat)) (dp:List Int),cC 0 (F.map (·.1))=x1.2.2.2.take (aL (F.map (·.1)))->aL (F.map (·.1))<=x1.2.2.2.length->dp.length=x1.2.2.2.length->DpOk dp 0 F->(∀p∈F,1<=p.2/\p.2<=33)->aL (F.map (·.1))<M->
  ∃o,aS (vR N x1) M (((aL (F.map (·.1)):Nat):Int)-1,dp)=some o/\(match o with
   | .inl _=>¬∃p∈F,32<p.1.deepen p.2
   | .inr b=>b=true/\∃p∈F,32<p.1.deepen p.2)
 |0,_,_,_,_,_,_,_,h=>absurd h (kQ _)
 |M+1,F,dp,s,B,V,Y,A,U=>by
  rcases fW F with rfl|⟨pre,⟨⟨h,ks⟩,d⟩,rfl⟩
  .simp only[aS,vR]
   rw[if_neg (by simp[aL])]
   exact⟨_,rfl,by simp⟩
  rw[fX] at*
  obtain⟨g1,g2⟩:=A (Rose.mk h ks,d) (by simp)
  simp only at g1 g2
  rw[gM,List.map_singleton] at s B U ⊢
  have r:aL (pre.map (·.1)++[Rose.mk h ks])=aL (pre.map (·.1))+(aL ks+1):=by rw[sZ];simp[aL,Rose.size]
  generalize hb:aL (pre.map (·.1))=b at r
  obtain⟨d1,S,-⟩:=DpOk.app.1 Y
  rw[kG,hb] at S
  obtain⟨v,z,v2⟩:=S
  simp only[Rose.size] at z
  rw[show b+(aL ks+1)-1=b+aL ks by omega] at z
  rw[r] at B U ⊢
  have hi:b+aL ks<dp.length:=by omega
  have ei:((b+(aL ks+1):Nat):Int)-1=((b+aL ks:Nat):Int):=by omega
  -- the node
  have f:x1.2.2.2[b+aL ks]? =some (dK h (bQ b ks)):=by
   have e:x1.2.2.2.take (b+(aL ks+1))=cC 0 (pre.map (·.1))++(cC b ks++[dK h (bQ b ks)]):=by
    rw[r] at s
    rw[<-s,zA,kG,hb]
    simp[cC,Rose.flat]
   have c:(x1.2.2.2.take (b+(aL ks+1)))[b+aL ks]? =some (dK h (bQ b ks)):=by
    rw[e,List.getElem?_append_right (by rw[oI,hb];omega),List.getElem?_append_right (by rw[oI,oI,hb];omega),oI,oI,hb,show b+aL ks-b-aL ks=0 by omega]
    rfl
   rw[List.getElem?_take_of_lt (by omega)] at c
   exact c
  have wi:IntKind.wrap .i64 (((b+aL ks:Nat):Int)-1)=((b+aL ks:Nat):Int)-1:=by rw[bT (by omega) (by omega)]
  -- the node's depth is laid
  have H:(if(v==0)=true then some (dp.set (b+aL ks) 1) else some dp:Option (List Int))=some (dp.set (b+aL ks) (d:Int)):=by
   rcases v2 with rfl|⟨rfl,rfl⟩
   .have:((d:Int)==0)=false:=by rw[beq_eq_false_iff_ne];omega
    rw[this,SD z];rfl
   rfl
  have hd':(dp.set (b+aL ks) (d:Int))[b+aL ks]? =some (d:Int):=List.getElem?_set_self hi
  simp only[aS,vR]
  rw[ei,if_pos (by simp only[jA];omega),rF z]
  simp only[j0,jU,H,rF hd',rF f]
  have c:(Rose.mk h ks).deepen d=max d (sG (if h.1=4 then d else d+1) ks):=by simp only[Rose.deepen]
  by_cases a2:32<d
  .rw[if_pos (by simp only[jA];omega)]
   refine⟨.inr true,rfl,rfl,(Rose.mk h ks,d),by simp,?_⟩
   simp only[c];omega
  rw[if_neg (by simp only[jA];omega)]
  have a1:∀a∈bQ b ks,0<=a/\a<((b+aL ks:Nat):Int):=fun a ha=>by
   have:=SG a ha;omega
  have E:=KI (N:=N) (i:=b+aL ks) (d:=d) (x1:=x1) (x5:=dK h (bQ b ks)) (so:=dp) f a1 (by
   have:=g _ (hD f);exact this) (by omega) (bQ b ks).length 0 N (dp.set (b+aL ks) (d:Int)) (by show 0+_=(bQ b ks).length;omega) (by
   have:=g _ (hD f)
   have:(bQ b ks).length<2000000:=this
   omega) (by rw[gB];exact hi) hd'
  rw[kJ] at E
  rw[show(((0:Nat):Int))=0 from rfl] at E
  rw[E]
  simp only[j0,wi]
  have hv:(if(dK h (bQ b ks)).1=4 then(d:Int) else((d+1:Nat):Int))=(((if h.1=4 then d else d+1:Nat)):Int):=by
   show(if h.1=4 then(d:Int) else((d+1:Nat):Int))=_
   split<;>rfl
  rw[hv]
  show ∃o,aS (vR N x1) M (((b+aL ks:Nat):Int)-1,qM (dp.set (b+aL ks) (d:Int)) (bQ b ks) _)=some o/\_
  generalize hd2:(if h.1=4 then d else d+1:Nat)=d'
  rw[hd2] at c
  have hd2':1<=d'/\d'<=33:=by rw[<-hd2];split<;>omega
  have D:∀l:List Rose,(l.map fun t=>(t,d')).map (·.1)=l:=fun l=>by rw[List.map_map];exact List.map_id _
  have n:aL ((pre++ks.map fun t=>(t,d')).map (·.1))=b+aL ks:=by rw[gM,D,sZ,hb]
  have Z:cC 0 ((pre++ks.map fun t=>(t,d')).map (·.1))=x1.2.2.2.take (b+aL ks):=by
   rw[gM,D,zA,kG,hb]
   have e:x1.2.2.2.take (b+(aL ks+1))=cC 0 (pre.map (·.1))++(cC b ks++[dK h (bQ b ks)]):=by
    rw[r] at s
    rw[<-s,zA,kG,hb]
    simp[cC,Rose.flat]
   have e3:=congrArg (List.take (b+aL ks)) e
   rw[List.take_take,Nat.min_eq_left (by omega),<-jC,kU (by rw[j9,oI,oI,hb];exact jJ _),gF (show(cC 0 (pre.map (·.1))++cC b ks).length<=b+aL ks by rw[j9,oI,oI,hb];exact jJ _)] at e3
   exact e3.symm
  obtain⟨o,o1,R⟩:=SZ G g hN M (pre++ks.map fun t=>(t,d')) (qM (dp.set (b+aL ks) (d:Int)) (bQ b ks) (d':Int)) (by rw[n];exact Z) (by rw[n];omega) (by rw[OX,gB];exact V) (DpOk.app.2 ⟨d1.congr fun j hj=>by
    rw[kG,hb] at hj
    rw[IV ks b _ hj,List.getElem?_set_ne (by omega)],by
    rw[kG,hb]
    exact DpOk.kids (by rw[gB];omega)⟩) (fun p k=>by
    rcases kC.1 k with k|k
    .exact A p (jW _ k)
    obtain⟨t,-,rfl⟩:=fJ.1 k
    exact hd2') (by rw[n];omega)
  rw[n] at o1
  refine⟨o,o1,?_⟩
  have y:(∃p∈pre++ks.map fun t=>(t,d'),32<p.1.deepen p.2)↔∃p∈pre++[(Rose.mk h ks,d)],32<p.1.deepen p.2:=by
   simp only[kC,fJ,jN]
   constructor
   .rintro⟨p,k|⟨t,K,rfl⟩,q⟩
    .exact⟨p,.inl k,q⟩
    refine⟨_,.inr rfl,?_⟩
    simp only[c]
    have:32<sG d' ks:=IP.2 ⟨t,K,q⟩
    omega
   rintro⟨p,k|rfl,q⟩
   .exact⟨p,.inl k,q⟩
   simp only[c] at q
   obtain⟨t,K,q⟩:=IP.1 (show 32<sG d' ks by omega)
   exact⟨_,.inr ⟨t,K,rfl⟩,q⟩
  cases o with
  |inl u=>exact fun k=>R (y.2 k)
  |inr u=>exact⟨R.1,y.1 R.2⟩
def xD(l:List Ex):Bool:=match sL l with
 |some t=>decide (32<t.deepen 1)
 |none=>false
def uO(d:Dl):Bool:=decide (8<d.2.2.1.length)||(decide (256<d.2.2.2.length)||xD d.2.2.2)
def uR(f:Sr):Bool:=decide (8<f.2.1.length)||(decide (64<f.2.2.length)||f.2.2.any uO)
def mK(f:Sr):Int:=if tQ f=true then if tF f=true then 10 else if uR f=true then 2 else 0 else 9
theorem qEo{N:Nat}{f:Sr}(E:SmSr f)(q:tQ f=true)(B:3000000<N):yU N f=some (uR f):=by
 obtain⟨S,U,A⟩:=id E
 have c:∀d∈f.2.2,oneP (mQ d.2.2.2 0 [])=true:=fun d D=>by
  unfold tQ qG zV at q
  simp only[jI,jV] at q
  exact(q.2.2 d D).2.2.2
 have r:=yX (L:=f.2.2) (fun(_:Unit) (i:Nat)=>(i:Int)) (f:=yJ N f)
  (fun _ d=>if uO d=true then .inr (.inr true) else .inl ()) (fun _=>(.inl ():Unit⊕Bool)) (fun _ _=>True) (by
   intro t i hi _
   obtain⟨-,G,H,k3⟩:=A _ (jX hi)
   have s:=c _ (jX hi)
   simp only[yJ]
   rw[if_pos (by simp only[jA];omega),eZ hi]
   generalize f.2.2[i]=d at G H k3 s
   have ew:IntKind.wrap .i64 ((i:Int)+1)=((i+1:Nat):Int):=by rw[bT (by omega) (by omega)];omega
   have p:decide ((d.2.2.1.length:Int)>8)=decide (8<d.2.2.1.length):=by congr 1;rw[eq_iff_iff];omega
   have n:decide ((d.2.2.2.length:Int)>256)=decide (256<d.2.2.2.length):=by congr 1;rw[eq_iff_iff];omega
   simp only[j0,p,n,ew]
   unfold uO
   cases c8:decide (8<d.2.2.1.length) with
   |true=>rfl
   |false=>
    simp only[jE,kA,j0,gP]
    cases c256:decide (256<d.2.2.2.length) with
    |true=>rfl
    |false=>
     have V:=of_decide_eq_false c256
     have R:(maxLen:Int)=9223372036854775807:=rfl
     have v:pN 8 (0:Int) (d.2.2.2.length:Int)=some (List.replicate d.2.2.2.length 0):=by
      unfold pN;rw[if_pos (by omega),jU]
     obtain⟨t,y,k⟩:=JU s
     have l:t.size=d.2.2.2.length:=by
      have:=eF t 0
      rw[<-k] at this;exact this.symm
     have Y:=t.pos
     simp only[jE,kA,v,j0,gP]
     have a:aL ([(t,1)].map (·.1))=d.2.2.2.length:=by simp[aL,l]
     obtain⟨o,z,g⟩:=SZ (N:=N) (x1:=d) (by omega) (fun x F=>(k3 x F).2) B N [(t,1)] (List.replicate d.2.2.2.length 0) (by
      rw[a,gK]
      simp only[jZ,List.map_nil,cC,jS]
      exact k.symm) (by rw[a];exact jJ _) (by simp) ⟨⟨0,by rw[kG,l,List.getElem?_replicate,if_pos (by omega)],.inr ⟨rfl,rfl⟩⟩,trivial⟩ (by simp) (by rw[a];omega)
     rw[a] at z
     rw[bT (by omega) (by omega),z]
     have h:xD d.2.2.2=decide (32<t.deepen 1):=by unfold xD;rw[y]
     simp only[j0]
     cases o with
     |inl u=>
      simp only[jN,exists_eq_left] at g
      have e:xD d.2.2.2=false:=by rw[h];exact gD g
      rw[e]
      rfl
     |inr u=>
      simp only[jN,exists_eq_left] at g
      obtain⟨rfl,K⟩:=g
      have e:xD d.2.2.2=true:=by rw[h];exact kS K
      rw[e]
      rfl) (fun _ _ _ _ _ _=>trivial) (by
   intro t _
   simp only[yJ]
   rw[if_neg (by simp)]) (M:=N) (t:=()) (by omega) trivial
 rw[show((0:Nat):Int)=0 from rfl] at r
 unfold yU
 have p:decide ((f.2.1.length:Int)>8)=decide (8<f.2.1.length):=by congr 1;rw[eq_iff_iff];omega
 have a:decide ((f.2.2.length:Int)>64)=decide (64<f.2.2.length):=by congr 1;rw[eq_iff_iff];omega
 rw[p,a]
 unfold uR
 cases c8:decide (8<f.2.1.length) with
 |true=>rfl
 |false=>
  simp only[jE,kA,j0,gP]
  cases c64:decide (64<f.2.2.length) with
  |true=>rfl
  |false=>
   simp only[jE,kA,gP]
   rw[r,DJ (b:=(.inr true:Unit⊕Bool)) uO (fun x=>rfl)]
   cases f.2.2.any uO<;>rfl
theorem PE{N:Nat}{f:Sr}(b:SmSr f)(a:3000000<N):sW N f=some (mK f):=by
 unfold sW
 rw[show yO N (f.1,f.2.1,f.2.2)=_ from qBb b a,show yS N (f.1,f.2.1,f.2.2)=_ from qCi b a]
 simp only[j0]
 unfold mK
 cases hs:tQ f with
 |false=>rfl
 |true=>
  rw[show yU N (f.1,f.2.1,f.2.2)=_ from qEo b hs a]
  simp only[fN,jE,kA,j0,kI]
  cases tF f<;>cases uR f<;>rfl
end
section
open Go Go.Dc Go.Proofs
def cJ(h:Hd):Int:=if h.1=5 then 0 else if h.1=4 then(if h.2.2.1=6\/h.2.2.1=7 then 1 else if h.2.2.1=1\/h.2.2.1=2 then 2 else 3) else 4
def cN(h:Hd)(k:Nat):Int:=if h.1=4 then(if k=0 then(if cJ h=1 then 2 else cJ h) else cJ h+1) else 0
def LD:List (Int×BA):=[(1,⟨#[43]⟩),(2,⟨#[45]⟩),(3,⟨#[42]⟩),(4,⟨#[47]⟩),(5,⟨#[37]⟩),(6,⟨#[60]⟩),(7,⟨#[61,61]⟩)]
def mM(op:Int):BA:=(cH (some LD) op).getD ⟨#[]⟩
def HH:List (Int×BA):=[(7,⟨#[115,105,122,101]⟩),(8,⟨#[104,97,115]⟩),(9,⟨#[101,110,118]⟩)]
def iS(k:Int):BA:=(cH (some HH) k).getD ⟨#[]⟩
def tI:List UInt8:=[105,102,32]
def tThen:List UInt8:=[32,116,104,101,110,32]
def tElse:List UInt8:=[32,101,108,115,101,32]
def pO(k:Nat):List UInt8:=if k=0 then[] else[44,32]
def lG:Nat->List (List UInt8)->List UInt8
 |_,[]=>[]
 |k,w::ws=>pO k++(w++lG (k+1) ws)
def dR(ps:List BA)(h:Hd)(ws:List (List UInt8)):List UInt8:=
 if h.1=1 then(nM h.2.1).data.toList
 else if h.1=2 then(ps.getD h.2.1.toNat ⟨#[]⟩).data.toList
 else if h.1=4 then ws.getD 0 []++((((⟨#[32]⟩:BA)++mM h.2.2.1)++(⟨#[32]⟩:BA)).data.toList++ws.getD 1 [])
 else if h.1=5 then tI++(ws.getD 0 []++(tThen++(ws.getD 1 []++(tElse++ws.getD 2 []))))
 else if h.1=3 then(h.2.2.2++(⟨#[40]⟩:BA)).data.toList++(lG 0 ws++[41])
 else if h.1=6 then(((⟨#[114,101,97,100,40,34]⟩:BA)++h.2.2.2)++(⟨#[34,44,32]⟩:BA)).data.toList++(ws.getD 0 []++[41])
 else if h.1=10 then(((⟨#[102,108,105,112,40]⟩:BA)++nM h.2.1)++(⟨#[41]⟩:BA)).data.toList
 else(((iS h.1++(⟨#[40,34]⟩:BA))++h.2.2.2)++(⟨#[34,41]⟩:BA)).data.toList
mutual
def Rose.wr(ps:List BA)(need:Int):Rose->List UInt8
 | .mk h ks=>if cJ h<need then 40::(dR ps h (cO ps h 0 ks)++[41]) else dR ps h (cO ps h 0 ks)
def cO(ps:List BA)(h:Hd)(k:Nat):List Rose->List (List UInt8)
 |[]=>[]
 |t::l=>t.wr ps (cN h k)::cO ps h (k+1) l
end
mutual
def Rose.dep(need:Int)(d:Nat):Rose->Nat
 | .mk h ks=>max (if cJ h<need then d+1 else d) (iF h 0 (if h.1=4 then(if cJ h<need then d+1 else d) else(if cJ h<need then d+1 else d)+1) ks)
def iF(h:Hd)(k d:Nat):List Rose->Nat
 |[]=>0
 |t::l=>max (t.dep (cN h k) d) (iF h (k+1) d l)
end
theorem RW{N:Nat}(x:Ex):uD N x=some (cJ (x.1,x.2.1,x.2.2.1,x.2.2.2.1)):=by
 unfold uD vQ cJ
 by_cases h5:x.1=5
 .simp[h5]
 by_cases h4:x.1=4
 .by_cases o6:x.2.2.1=6
  .simp[h4,o6]
  by_cases o7:x.2.2.1=7
  .simp[h4,o7]
  by_cases o1:x.2.2.1=1
  .simp[h4,o1]
  by_cases o2:x.2.2.1=2
  .simp[h4,o2]
  simp[h4,o6,o7,o1,o2]
 simp[h5,h4]
theorem qCy{N:Nat}:yR N=some (some LD):=by kernel_rfl
theorem lX{l k:List UInt8}(h:l.length+k.length<=1000000000):cF 1 l k=some (l++k):=rU (by omega) (by decide)
theorem iX{x y:BA}(h:x.size+y.size<=1000000000):bR x y=some (x++y):=by
 unfold bR
 rw[if_pos (Nat.le_trans h (by decide))]
theorem cV(x:BA):x.data.toList.length=x.size:=by simp
theorem tH(m d:Nat):(if(d:Int)>(m:Int) then(d:Int) else(m:Int))=((max m d:Nat):Int):=by
 split<;>omega
section
variable (N:Nat) (l:List Ex) (ps:List BA)
def AB(t:Rose):Prop:=∀(D b:Nat) (buf:List UInt8) (s:Bool) (m d:Nat) (need:Int),AtT l b t->(∀x∈t.flat b,eC (ps.length:Int) x=true)->2*t.size<=D->buf.length+(t.wr ps need).length<=1000000000->d+2*t.size<=100000000->0<=need->
 uA N D ((s,buf),l,ps,(m:Int)) ((b+t.size-1:Nat):Int) need (d:Int)=some ((true,buf++t.wr ps need),l,ps,((max m (t.dep need d):Nat):Int))
variable {N l ps}
theorem QN{h:Hd}{x1:Ex}{D d:Nat}(F:3000000<N)(e:x1.2.2.2.2.length<2000000)(G:d<100000000):∀(ks:List Rose) (k b M m:Nat) (buf:List UInt8),(∀t∈ks,AB N l ps t)->x1.2.2.2.2.drop k=bQ b ks->k<=x1.2.2.2.2.length->AtTs l b ks->(∀x∈cC b ks,eC (ps.length:Int) x=true)->2*aL ks<=D->h.1≠4->
  buf.length+(lG k (cO ps h k ks)).length<=1000000000->d+1+2*aL ks<=100000000->ks.length<M->
  aS (xZ N (uA N D) (d:Int) x1) M ((k:Int),true,buf,l,ps,(m:Int))=some (true,buf++lG k (cO ps h k ks),l,ps,((max m (iF h k (d+1) ks):Nat):Int))
 |_,_,_,0,_,_,_,_,_,_,_,_,_,_,_,n=>absurd n (kQ _)
 |[],k,b,M+1,m,buf,_,a,H,_,_,_,_,_,_,_=>by
  have U:k=x1.2.2.2.2.length:=by
   have:=congrArg List.length a
   rw[kZ] at this
   simp only[bQ,jD] at this
   omega
  simp only[aS,xZ]
  rw[if_neg (by simp only[jA];omega)]
  simp only[j0,cO,lG,jS,iF,fI]
 |t::ks,k,b,M+1,m,buf,g,a,H,s,B,E,r,c,v,n=>by
  have K:=t.pos
  simp only[aL] at E v
  have f:k<x1.2.2.2.2.length:=by
   by_cases hh:k<x1.2.2.2.2.length
   .exact hh
   rw[kN (by omega)] at a;cases a
  rw[yY f] at a
  obtain⟨z,A⟩:=List.cons.inj a
  obtain⟨p,q⟩:=s.head
  have y:cN h k=0:=by unfold cN;rw[if_neg r]
  simp only[cO,lG,y] at c ⊢
  simp only[j9] at c
  have ew:IntKind.wrap .i64 ((k:Int)+1)=((k+1:Nat):Int):=by rw[bT (by omega) (by omega)];omega
  have ed:IntKind.wrap .i64 ((d:Int)+1)=((d+1:Nat):Int):=by rw[bT (by omega) (by omega)];omega
  simp only[aS,xZ]
  rw[if_pos (by simp only[jA];omega),eZ f,z]
  have o:(if(decide ((k:Int)>0))=true then((cF 1 buf ((⟨#[44,32]⟩:BA).data.toList)).bind fun S=>some (true,S)) else(some (true,buf)):Option (Bool×List (UInt8)))=some (true,buf++pO k):=by
   unfold pO at c ⊢
   by_cases h0:k=0
   .subst h0
    rw[if_neg (by decide),if_pos rfl,jS]
   rw[if_neg h0] at c
   rw[if_pos (by simp only[jA];omega),if_neg h0,lX (by show buf.length+2<=_;simp only[jB,jD] at c;omega)]
   rfl
  simp only[j0,o,ew,ed]
  rw[g t (jG ..) D b (buf++pO k) true m (d+1) 0 p (fun x e=>B x (by unfold cC;exact jW _ e)) (by omega) (by rw[j9];omega) (by omega) (gZ 0)]
  simp only[j0]
  rw[QN F e G ks (k+1) (b+t.size) M (max m (t.dep 0 (d+1))) ((buf++pO k)++t.wr ps 0) (fun u R=>g u (jK _ R)) A (by omega) q (fun x e=>B x (by unfold cC;exact kH _ e)) (by omega) r (by simp only[j9];omega) (by omega) (by simp only[jB] at n;omega)]
  simp only[jC,iF,y,dE]
theorem CU{np:Int}{x:Ex}(h:eC np x=true):
  (x.1=1/\x.2.2.2.2.length=0/\-9007199254740992<=x.2.1/\x.2.1<=9007199254740992/\x.2.2.1=0/\x.2.2.2.1=emB)\/(x.1=2/\x.2.2.2.2.length=0/\0<=x.2.1/\x.2.1<np/\x.2.2.1=0/\x.2.2.2.1=emB)\/(x.1=3/\cP x.2.2.2.1=true/\x.2.1=0/\x.2.2.1=0)\/(x.1=4/\x.2.2.2.2.length=2/\1<=x.2.2.1/\x.2.2.1<=7/\x.2.1=0/\x.2.2.2.1=emB)\/
  (x.1=5/\x.2.2.2.2.length=3/\x.2.1=0/\x.2.2.1=0/\x.2.2.2.1=emB)\/(x.1=6/\x.2.2.2.2.length=1/\lL x.2.2.2.1.data.toList=true/\x.2.1=0/\x.2.2.1=0)\/((x.1=7\/x.1=8)/\x.2.2.2.2.length=0/\lL x.2.2.2.1.data.toList=true/\x.2.1=0/\x.2.2.1=0)\/(x.1=9/\x.2.2.2.2.length=0/\iT x.2.2.2.1=true/\x.2.1=0/\x.2.2.1=0)\/
  (x.1=10/\x.2.2.2.2.length=0/\0<=x.2.1/\x.2.1<64/\x.2.2.1=0/\x.2.2.2.1=emB):=by
 unfold eC nK at h
 by_cases h1:x.1=1
 .simp only[if_pos h1,jI,jA,kY] at h
  exact .inl ⟨h1,by omega,h.2.2.2.1,h.2.2.2.2,h.2.1,h.1⟩
 rw[if_neg h1] at h
 by_cases h2:x.1=2
 .simp only[if_pos h2,jI,jA,kY] at h
  exact .inr (.inl ⟨h2,by omega,h.2.2.2.1,h.2.2.2.2,h.2.1,h.1⟩)
 rw[if_neg h2] at h
 by_cases h3:x.1=3
 .simp only[if_pos h3,jI,jA,kY] at h
  exact .inr (.inr (.inl ⟨h3,h.2.2,h.1,h.2.1⟩))
 rw[if_neg h3] at h
 by_cases h4:x.1=4
 .simp only[if_pos h4,jI,jA,kY] at h
  exact .inr (.inr (.inr (.inl ⟨h4,by omega,h.2.2.2.1,h.2.2.2.2,h.1,h.2.1⟩)))
 rw[if_neg h4] at h
 by_cases h5:x.1=5
 .simp only[if_pos h5,jI,jA,kY] at h
  exact .inr (.inr (.inr (.inr (.inl ⟨h5,by omega,h.1,h.2.2.1,h.2.1⟩))))
 rw[if_neg h5] at h
 by_cases h6:x.1=6
 .simp only[if_pos h6,jI,jA,kY] at h
  exact .inr (.inr (.inr (.inr (.inr (.inl ⟨h6,by omega,h.2.2.2,h.1,h.2.1⟩)))))
 rw[if_neg h6] at h
 by_cases h7:x.1=7\/x.1=8
 .simp only[if_pos h7,jI,jA,kY] at h
  exact .inr (.inr (.inr (.inr (.inr (.inr (.inl ⟨h7,by omega,h.2.2.2,h.1,h.2.1⟩))))))
 rw[if_neg h7] at h
 by_cases h9:x.1=9
 .simp only[if_pos h9,jI,jA,kY] at h
  exact .inr (.inr (.inr (.inr (.inr (.inr (.inr (.inl ⟨h9,by omega,h.2.2.2,h.1,h.2.1⟩)))))))
 rw[if_neg h9] at h
 by_cases h10:x.1=10
 .simp only[if_pos h10,jI,jA,kY] at h
  exact .inr (.inr (.inr (.inr (.inr (.inr (.inr (.inr ⟨h10,by omega,h.2.2.2.1,h.2.2.2.2,h.2.1,h.1⟩)))))))
 rw[if_neg h10] at h
 cases h
end
section
variable {N:Nat} {l:List Ex} {ps:List BA}
theorem HQ{b:Nat}{ks:List Rose}(h:(bQ b ks).length=0):ks=[]:=by
 rw[oJ] at h
 exact gC.1 h
theorem VB{b:Nat}{ks:List Rose}(h:(bQ b ks).length=1):∃t,ks=[t]:=by
 rw[oJ] at h
 exact List.length_eq_one_iff.1 h
theorem UZ{b:Nat}{ks:List Rose}(h:(bQ b ks).length=2):∃t u,ks=[t,u]:=by
 rw[oJ] at h
 match ks,h with
 |[t,u],_=>exact⟨t,u,rfl⟩
theorem UW{b:Nat}{ks:List Rose}(h:(bQ b ks).length=3):∃t u v,ks=[t,u,v]:=by
 rw[oJ] at h
 match ks,h with
 |[t,u,v],_=>exact⟨t,u,v,rfl⟩
theorem TB{N:Nat}{n:Int}(a: -9007199254740992<=n)(b:n<=9007199254740992):strconv_Itoa N n=some (nM n):=by
 unfold strconv_Itoa HN
 rw[if_pos ⟨by omega,by omega⟩]
theorem wm1:eQ (some []:Option (List (Int×BA))) 7 (⟨#[115,105,122,101]⟩:BA)=some (some [(7,⟨#[115,105,122,101]⟩)]):=by kernel_rfl
theorem wm2:eQ (some [(7,⟨#[115,105,122,101]⟩)]:Option (List (Int×BA))) 8 (⟨#[104,97,115]⟩:BA)=some (some [(7,⟨#[115,105,122,101]⟩),(8,⟨#[104,97,115]⟩)]):=by kernel_rfl
theorem wm3:eQ (some [(7,⟨#[115,105,122,101]⟩),(8,⟨#[104,97,115]⟩)]:Option (List (Int×BA))) 9 (⟨#[101,110,118]⟩:BA)=some (some HH):=by kernel_rfl
theorem TL{h:Hd}{ks:List Rose}(hN:3000000<N)(r:∀t∈ks,AB N l ps t){D b m d:Nat}{buf:List UInt8}{s:Bool}{need:Int}(a3:AtT l b (.mk h ks))(hv:∀x∈(Rose.mk h ks).flat b,eC (ps.length:Int) x=true)(H:2*aL ks<=D)
  (n:buf.length+(dR ps h (cO ps h 0 ks)).length<=1000000000) (V:d+(2*aL ks+1)<=100000000) (hl:¬cJ h<need) (a6:ks.length<2000000):
  uA N (D+1) ((s,buf),l,ps,(m:Int)) ((b+aL ks:Nat):Int) need (d:Int)=some ((true,buf++dR ps h (cO ps h 0 ks)),l,ps,((max m (max d (iF h 0 (if h.1=4 then d else d+1) ks)):Nat):Int)):=by
 obtain⟨Y,z⟩:=a3.args
 have Y:l[b+aL ks]? =some (h.1,h.2.1,h.2.2.1,h.2.2.2,bQ b ks):=Y
 have K:eC (ps.length:Int) (h.1,h.2.1,h.2.2.1,h.2.2.2,bQ b ks)=true:=hv (dK h (bQ b ks)) (by unfold Rose.flat;exact kH _ (jG ..))
 have o:∀x∈cC b ks,eC (ps.length:Int) x=true:=fun x q=>hv x (by unfold Rose.flat;exact jW _ q)
 have ed:IntKind.wrap .i64 ((d:Int)+1)=((d+1:Nat):Int):=by rw[bT (by omega) (by omega)];omega
 show vA N (uA N D) _ _ _ _=_
 unfold vA
 dsimp only
 rw[rF Y]
 simp only[j0]
 rw[show uD N (h.1,h.2.1,h.2.2.1,h.2.2.2,bQ b ks)=some (cJ h) from RW _]
 simp only[j0]
 rw[if_neg (by simpa using hl)]
 rcases CU K with ⟨k,a,y,E,-,-⟩|⟨k,a,y,E,-,-⟩|⟨k,a,-,-⟩|⟨k,a,y,E,-,-⟩|⟨k,a,-,-,-⟩|⟨k,a,y,-,-⟩|⟨k,a,y,-,-⟩|⟨k,a,y,-,-⟩|⟨k,a,y,E,-,-⟩
 all_goals dsimp only at k a
 .obtain rfl:=HQ a
  have eb:dR ps h (cO ps h 0 [])=(nM h.2.1).data.toList:=by unfold dR;rw[if_pos k]
  rw[eb] at n ⊢
  dsimp only at y E
  rw[if_pos (by simpa using k),TB y E]
  simp only[j0]
  rw[lX n]
  simp only[j0,tH,iF,fI]
 .obtain rfl:=HQ a
  dsimp only at y E
  have c:h.1≠1:=by omega
  have eb:dR ps h (cO ps h 0 [])=(ps.getD h.2.1.toNat ⟨#[]⟩).data.toList:=by unfold dR;rw[if_neg c,if_pos k]
  rw[eb] at n ⊢
  have f:h.2.1.toNat<ps.length:=by omega
  rw[if_neg (by simpa using c),if_pos (by simpa using k),DF y f]
  simp only[j0]
  have e:ps.getD h.2.1.toNat ⟨#[]⟩=ps[h.2.1.toNat]:=by rw[jP,List.getElem?_eq_getElem f];rfl
  rw[e] at n ⊢
  rw[lX n]
  simp only[j0,tH,iF,fI]
 .have c:h.1≠1:=by omega
  have g:h.1≠2:=by omega
  have f:h.1≠4:=by omega
  have p:h.1≠5:=by omega
  have eb:dR ps h (cO ps h 0 ks)=(h.2.2.2++(⟨#[40]⟩:BA)).data.toList++(lG 0 (cO ps h 0 ks)++[41]):=by unfold dR;rw[if_neg c,if_neg g,if_neg f,if_neg p,if_pos k]
  rw[eb] at n ⊢
  rw[if_neg (by simpa using c),if_neg (by simpa using g),if_neg (by simpa using f),if_neg (by simpa using p),if_pos (by simpa using k)]
  simp only[j9,cV,ByteArray.size_append,jB,jD] at n
  have a5:(⟨#[40]⟩:BA).size=1:=rfl
  rw[iX (by omega)]
  simp only[j0]
  rw[lX (by rw[cV,ByteArray.size_append];omega)]
  simp only[j0,tH]
  have A:=QN (N:=N) (l:=l) (ps:=ps) (h:=h) (x1:=(h.1,h.2.1,h.2.2.1,h.2.2.2,bQ b ks)) (D:=D) (d:=d) hN (by show(bQ b ks).length<_;rw[oJ];exact a6) (by omega) ks 0 b N (max m d) (buf++(h.2.2.2++(⟨#[40]⟩:BA)).data.toList) r rfl (kE _) z o H f
   (by simp only[j9,cV,ByteArray.size_append];omega) (by omega) (by omega)
  rw[show((0:Nat):Int)=0 from rfl] at A
  rw[A]
  simp only[j0]
  rw[lX (by simp only[j9,cV,ByteArray.size_append,jB,jD];omega)]
  simp only[j0,jC,if_neg f,dE]
 .obtain⟨t,u,rfl⟩:=UZ a
  have c:h.1≠1:=by omega
  have g:h.1≠2:=by omega
  simp only[aL,gX] at H V o
  obtain⟨A,atr⟩:=z.head
  obtain⟨F,-⟩:=atr.head
  have a7:1<=cJ h/\cJ h<=3:=by
   unfold cJ
   rw[if_neg (show h.1≠5 by omega),if_pos k]
   split<;>(try split)<;>omega
  have R:cN h 0=if cJ h=1 then 2 else cJ h:=by unfold cN;rw[if_pos k,if_pos rfl]
  have S:cN h 1=cJ h+1:=by unfold cN;rw[if_pos k,if_neg (by decide)]
  have eb:dR ps h (cO ps h 0 [t,u])=t.wr ps (cN h 0)++((((⟨#[32]⟩:BA)++mM h.2.2.1)++(⟨#[32]⟩:BA)).data.toList++u.wr ps (cN h 1)):=by unfold dR;rw[if_neg c,if_neg g,if_pos k];rfl
  rw[eb] at n ⊢
  rw[if_neg (by simpa using c),if_neg (by simpa using g),if_pos (by simpa using k)]
  have B:(if(cJ h==1)=true then(some (IntKind.wrap .i64 (cJ h+1))) else(some (cJ h)):Option (Int))=some (cN h 0):=by
   rw[R]
   by_cases e:cJ h=1
   .rw[if_pos (by simpa using e),if_pos e,bT (by omega) (by omega),e];rfl
   rw[if_neg (by simpa using e),if_neg e]
  have w1:IntKind.wrap .i64 (cJ h+1)=cN h 1:=by rw[S,bT (by omega) (by omega)]
  have G:idx (bQ b [t,u]) 0=some ((b+t.size-1:Nat):Int):=rfl
  have Z:idx (bQ b [t,u]) 1=some ((b+t.size+u.size-1:Nat):Int):=rfl
  simp only[j0,B,G,Z,tH]
  rw[w1]
  simp only[j9,cV,ByteArray.size_append] at n
  have a5:(⟨#[32]⟩:BA).size=1:=rfl
  have U:=t.pos
  have a4:=u.pos
  have q0:0<=cN h 0:=by rw[R];split<;>omega
  have q1:0<=cN h 1:=by rw[S];omega
  rw[r t (jG ..) D b buf s (max m d) d (cN h 0) A (fun x q=>o x (by unfold cC;exact jW _ q)) (by omega) (by omega) (by omega) q0]
  simp only[j0,qCy]
  rw[show(cH (some LD) h.2.2.1).getD (⟨#[]⟩:BA)=mM h.2.2.1 from rfl,iX (by omega)]
  simp only[j0]
  rw[iX (by rw[ByteArray.size_append];omega)]
  simp only[j0]
  rw[lX (by simp only[j9,cV,ByteArray.size_append];omega)]
  simp only[j0]
  rw[r u (jK _ (jG ..)) D (b+t.size) _ true _ d (cN h 1) F (fun x q=>o x (by unfold cC;refine kH _ ?_;unfold cC;exact jW _ q)) (by omega) (by simp only[j9,cV,ByteArray.size_append];omega) (by omega) q1]
  simp only[j0,jC,if_pos k,iF,fI,dE]
 .obtain⟨t,u,v,rfl⟩:=UW a
  have c:h.1≠1:=by omega
  have g:h.1≠2:=by omega
  have f:h.1≠4:=by omega
  simp only[aL,gX] at H V o
  obtain⟨A,atr⟩:=z.head
  obtain⟨F,atr⟩:=atr.head
  obtain⟨R,-⟩:=atr.head
  have B:∀j,cN h j=0:=fun j=>by unfold cN;rw[if_neg f]
  have eb:dR ps h (cO ps h 0 [t,u,v])=tI++(t.wr ps 0++(tThen++(u.wr ps 0++(tElse++v.wr ps 0)))):=by
   unfold dR;rw[if_neg c,if_neg g,if_neg f,if_pos k]
   simp only[cO,B];rfl
  rw[eb] at n ⊢
  rw[if_neg (by simpa using c),if_neg (by simpa using g),if_neg (by simpa using f),if_pos (by simpa using k)]
  have U:=t.pos
  have a4:=u.pos
  have a5:=v.pos
  have l1:tI.length=3:=rfl
  have l2:tThen.length=6:=rfl
  have l3:tElse.length=6:=rfl
  simp only[j9] at n
  obtain⟨M,rfl⟩:∃M,N=M+4:=⟨N-4,by omega⟩
  have G:idx (bQ b [t,u,v]) 0=some ((b+t.size-1:Nat):Int):=rfl
  have Z:idx (bQ b [t,u,v]) 1=some ((b+t.size+u.size-1:Nat):Int):=rfl
  have i2:idx (bQ b [t,u,v]) 2=some ((b+t.size+u.size+v.size-1:Nat):Int):=rfl
  have a0:∀L:List UInt8,L.length+3<=1000000000->cF 1 L [105,102,32]=some (L++tI):=fun L h=>lX h
  have S:∀L:List UInt8,L.length+6<=1000000000->cF 1 L [32,116,104,101,110,32]=some (L++tThen):=fun L h=>lX h
  have a2:∀L:List UInt8,L.length+6<=1000000000->cF 1 L [32,101,108,115,101,32]=some (L++tElse):=fun L h=>lX h
  have w0:IntKind.wrap .i64 ((0:Int)+1)=1:=by decide
  have w1:IntKind.wrap .i64 ((1:Int)+1)=2:=by decide
  have w2:IntKind.wrap .i64 ((2:Int)+1)=3:=by decide
  have s0:idx ([(⟨#[105,102,32]⟩:BA),(⟨#[32,116,104,101,110,32]⟩:BA),(⟨#[32,101,108,115,101,32]⟩:BA)]) 0=some ⟨#[105,102,32]⟩:=rfl
  have s1:idx ([(⟨#[105,102,32]⟩:BA),(⟨#[32,116,104,101,110,32]⟩:BA),(⟨#[32,101,108,115,101,32]⟩:BA)]) 1=some ⟨#[32,116,104,101,110,32]⟩:=rfl
  have s2:idx ([(⟨#[105,102,32]⟩:BA),(⟨#[32,116,104,101,110,32]⟩:BA),(⟨#[32,101,108,115,101,32]⟩:BA)]) 2=some ⟨#[32,101,108,115,101,32]⟩:=rfl
  have c0:decide ((0:Int)<(List.length ([(⟨#[105,102,32]⟩:BA),(⟨#[32,116,104,101,110,32]⟩:BA),(⟨#[32,101,108,115,101,32]⟩:BA)]):Int))=true:=by decide
  have c1:decide ((1:Int)<(List.length ([(⟨#[105,102,32]⟩:BA),(⟨#[32,116,104,101,110,32]⟩:BA),(⟨#[32,101,108,115,101,32]⟩:BA)]):Int))=true:=by decide
  have c2:decide ((2:Int)<(List.length ([(⟨#[105,102,32]⟩:BA),(⟨#[32,116,104,101,110,32]⟩:BA),(⟨#[32,101,108,115,101,32]⟩:BA)]):Int))=true:=by decide
  have c3:decide ((3:Int)<(List.length ([(⟨#[105,102,32]⟩:BA),(⟨#[32,116,104,101,110,32]⟩:BA),(⟨#[32,101,108,115,101,32]⟩:BA)]):Int))=false:=by decide
  simp only[aS,FE,c0,kI,s0,j0,G,ed,tH]
  rw[a0 _ (by omega)]
  simp only[j0]
  rw[r t (by simp) D b (buf++tI) true (max m d) (d+1) 0 A (fun x q=>o x (by unfold cC;exact jW _ q)) (by omega) (by rw[j9];omega) (by omega) (gZ 0)]
  simp only[j0,w0,c1,kI,s1,Z]
  rw[S _ (by simp only[j9];omega)]
  simp only[j0]
  rw[r u (by simp) D (b+t.size) _ true _ (d+1) 0 F (fun x q=>o x (by unfold cC;refine kH _ ?_;unfold cC;exact jW _ q)) (by omega) (by simp only[j9];omega) (by omega) (gZ 0)]
  simp only[j0,w1,c2,kI,s2,i2]
  rw[a2 _ (by simp only[j9];omega)]
  simp only[j0]
  rw[r v (by simp) D (b+t.size+u.size) _ true _ (d+1) 0 R (fun x q=>o x (by unfold cC;refine kH _ ?_;unfold cC;refine kH _ ?_;unfold cC;exact jW _ q)) (by omega) (by simp only[j9];omega) (by omega) (gZ 0)]
  simp only[j0,w2,c3,jE,kA,jC,if_neg f,iF,B,fI,dE]
 .obtain⟨t,rfl⟩:=VB a
  have c:h.1≠1:=by omega
  have g:h.1≠2:=by omega
  have f:h.1≠4:=by omega
  have p:h.1≠5:=by omega
  have k3:h.1≠3:=by omega
  simp only[aL,gX] at H V o
  obtain⟨A,-⟩:=z.head
  have B:∀j,cN h j=0:=fun j=>by unfold cN;rw[if_neg f]
  have eb:dR ps h (cO ps h 0 [t])=(((⟨#[114,101,97,100,40,34]⟩:BA)++h.2.2.2)++(⟨#[34,44,32]⟩:BA)).data.toList++(t.wr ps 0++[41]):=by
   unfold dR;rw[if_neg c,if_neg g,if_neg f,if_neg p,if_neg k3,if_pos k]
   simp only[cO,B];rfl
  rw[eb] at n ⊢
  rw[if_neg (by simpa using c),if_neg (by simpa using g),if_neg (by simpa using f),if_neg (by simpa using p),if_neg (by simpa using k3),if_pos (by simpa using k)]
  have U:=t.pos
  have G:idx (bQ b [t]) 0=some ((b+t.size-1:Nat):Int):=rfl
  have F:(⟨#[114,101,97,100,40,34]⟩:BA).size=6:=rfl
  have R:(⟨#[34,44,32]⟩:BA).size=3:=rfl
  simp only[j9,cV,ByteArray.size_append,jB,jD] at n
  rw[iX (by omega)]
  simp only[j0]
  rw[iX (by rw[ByteArray.size_append];omega)]
  simp only[j0]
  rw[lX (by simp only[cV,ByteArray.size_append];omega)]
  simp only[j0,G,ed,tH]
  rw[r t (by simp) D b _ true (max m d) (d+1) 0 A (fun x q=>o x (by unfold cC;exact jW _ q)) (by omega) (by simp only[j9,cV,ByteArray.size_append];omega) (by omega) (gZ 0)]
  simp only[j0]
  rw[lX (by simp only[j9,cV,ByteArray.size_append,jB,jD];omega)]
  simp only[j0,jC,if_neg f,iF,B,fI,dE]
 all_goals obtain rfl:=HQ a
 .have c:h.1≠1:=by omega
  have g:h.1≠2:=by omega
  have f:h.1≠4:=by omega
  have p:h.1≠5:=by omega
  have k3:h.1≠3:=by omega
  have B:h.1≠6:=by omega
  have A:h.1≠10:=by omega
  have eb:dR ps h (cO ps h 0 [])=(((iS h.1++(⟨#[40,34]⟩:BA))++h.2.2.2)++(⟨#[34,41]⟩:BA)).data.toList:=by
   unfold dR;rw[if_neg c,if_neg g,if_neg f,if_neg p,if_neg k3,if_neg B,if_neg A]
  rw[eb] at n ⊢
  rw[if_neg (by simpa using c),if_neg (by simpa using g),if_neg (by simpa using f),if_neg (by simpa using p),if_neg (by simpa using k3),if_neg (by simpa using B),if_neg (by simpa using A)]
  simp only[cV,ByteArray.size_append] at n
  have F:(⟨#[40,34]⟩:BA).size=2:=rfl
  have R:(⟨#[34,41]⟩:BA).size=2:=rfl
  simp only[wm1,wm2,wm3,j0]
  rw[show(cH (some HH) h.1).getD (⟨#[]⟩:BA)=iS h.1 from rfl,iX (by omega)]
  simp only[j0]
  rw[iX (by rw[ByteArray.size_append];omega)]
  simp only[j0]
  rw[iX (by rw[ByteArray.size_append,ByteArray.size_append];omega)]
  simp only[j0]
  rw[lX (by simp only[cV,ByteArray.size_append];omega)]
  simp only[j0,tH,iF,fI]
 .have c:h.1≠1:=by omega
  have g:h.1≠2:=by omega
  have f:h.1≠4:=by omega
  have p:h.1≠5:=by omega
  have k3:h.1≠3:=by omega
  have B:h.1≠6:=by omega
  have A:h.1≠10:=by omega
  have eb:dR ps h (cO ps h 0 [])=(((iS h.1++(⟨#[40,34]⟩:BA))++h.2.2.2)++(⟨#[34,41]⟩:BA)).data.toList:=by
   unfold dR;rw[if_neg c,if_neg g,if_neg f,if_neg p,if_neg k3,if_neg B,if_neg A]
  rw[eb] at n ⊢
  rw[if_neg (by simpa using c),if_neg (by simpa using g),if_neg (by simpa using f),if_neg (by simpa using p),if_neg (by simpa using k3),if_neg (by simpa using B),if_neg (by simpa using A)]
  simp only[cV,ByteArray.size_append] at n
  have F:(⟨#[40,34]⟩:BA).size=2:=rfl
  have R:(⟨#[34,41]⟩:BA).size=2:=rfl
  simp only[wm1,wm2,wm3,j0]
  rw[show(cH (some HH) h.1).getD (⟨#[]⟩:BA)=iS h.1 from rfl,iX (by omega)]
  simp only[j0]
  rw[iX (by rw[ByteArray.size_append];omega)]
  simp only[j0]
  rw[iX (by rw[ByteArray.size_append,ByteArray.size_append];omega)]
  simp only[j0]
  rw[lX (by simp only[cV,ByteArray.size_append];omega)]
  simp only[j0,tH,iF,fI]
 have c:h.1≠1:=by omega
 have g:h.1≠2:=by omega
 have f:h.1≠4:=by omega
 have p:h.1≠5:=by omega
 have k3:h.1≠3:=by omega
 have B:h.1≠6:=by omega
 dsimp only at y E
 have eb:dR ps h (cO ps h 0 [])=(((⟨#[102,108,105,112,40]⟩:BA)++nM h.2.1)++(⟨#[41]⟩:BA)).data.toList:=by
  unfold dR;rw[if_neg c,if_neg g,if_neg f,if_neg p,if_neg k3,if_neg B,if_pos k]
 rw[eb] at n ⊢
 rw[if_neg (by simpa using c),if_neg (by simpa using g),if_neg (by simpa using f),if_neg (by simpa using p),if_neg (by simpa using k3),if_neg (by simpa using B),if_pos (by simpa using k),TB (by omega) (by omega)]
 simp only[cV,ByteArray.size_append] at n
 simp only[j0]
 rw[iX (by omega)]
 simp only[j0]
 rw[iX (by rw[ByteArray.size_append];omega)]
 simp only[j0]
 rw[lX (by simp only[cV,ByteArray.size_append];omega)]
 simp only[j0,tH,iF,fI]
theorem qFm{h:Hd}{ks:List Rose}(k:3000000<N)(e:∀t∈ks,AB N l ps t)(f:ks.length<2000000):AB N l ps (.mk h ks):=by
 intro D b buf s m d need a o q c r p
 simp only[Rose.size] at q r ⊢
 rw[show b+(aL ks+1)-1=b+aL ks by omega]
 simp only[Rose.wr,Rose.dep] at c ⊢
 by_cases hl:cJ h<need
 .rw[if_pos hl] at c ⊢
  simp only[if_pos hl]
  simp only[jB,j9,jD] at c
  obtain⟨D,rfl⟩:∃D',D=D'+2:=⟨D-2,by omega⟩
  have n:¬cJ h<0:=by
   unfold cJ
   split
   .omega
   split
   .split
    .omega
    split<;>omega
   omega
  obtain⟨g,-⟩:=a.args
  have g:l[b+aL ks]? =some (h.1,h.2.1,h.2.2.1,h.2.2.2,bQ b ks):=g
  have ed:IntKind.wrap .i64 ((d:Int)+1)=((d+1:Nat):Int):=by rw[bT (by omega) (by omega)];omega
  show vA N (uA N (D+1)) _ _ _ _=_
  unfold vA
  dsimp only
  rw[rF g]
  simp only[j0]
  rw[show uD N (h.1,h.2.1,h.2.2.1,h.2.2.2,bQ b ks)=some (cJ h) from RW _]
  simp only[j0]
  rw[if_pos (by simpa using hl),lX (by simp only[jB,jD];omega)]
  simp only[j0,ed]
  rw[TL k e a o (by omega) (by simp only[j9,jB,jD];omega) (by omega) n f]
  simp only[j0]
  rw[lX (by simp only[j9,jB,jD];omega)]
  simp only[j0,jC,jR,jL]
 rw[if_neg hl] at c ⊢
 simp only[if_neg hl]
 obtain⟨D,rfl⟩:∃D',D=D'+1:=⟨D-1,by omega⟩
 exact TL k e a o (by omega) c (by omega) hl f
end
mutual
theorem US{N:Nat}{l:List Ex}{ps:List BA}(a:3000000<N)(t:Rose)(b:t.size<2000000):AB N l ps t:=by
 match t with
 | .mk h ks=>
  have c:aL ks<2000000:=by simp only[Rose.size] at b;omega
  exact qFm a (UI a ks c) (by have:=NJ ks;omega)
theorem UI{N:Nat}{l:List Ex}{ps:List BA}(c:3000000<N)(ks:List Rose)(a:aL ks<2000000):∀t∈ks,AB N l ps t:=by
 match ks with
 |[]=>intro t h;cases h
 |t::ks=>
  have d:t.size<2000000:=by simp only[aL] at a;omega
  have e:aL ks<2000000:=by simp only[aL] at a;omega
  have f:=US (l:=l) (ps:=ps) c t d
  have g:=UI (l:=l) (ps:=ps) c ks e
  intro u b
  rcases jT.1 b with rfl|b
  .exact f
  exact g u b
end
end
section
open Go Go.Dc
abbrev Ct:=Int×List UInt8
def lP(c:Ct):List UInt8:=if c.1=3 then 34::(c.2++[34]) else c.2
theorem sC{k:Int}{l:List UInt8}(h:k≠3):lP (k,l)=l:=by unfold lP;rw[if_neg h]
def EC:List (List UInt8):=[[59],[44],[40],[41],[43],[45],[42],[47],[37],[60],[61],[61,61]]
def nN(c:Ct):Prop:=(c.1=1/\(∃x l,c.2=x::l/\kd x=1)/\(∀x∈c.2,bI [1,2,3] x=true)/\c.2.length<=24)\/(c.1=2/\c.2≠[]/\(∀x∈c.2,bI [2] x=true)/\lU c.2<=9007199254740992)\/
 (c.1=3/\∀x∈c.2,lK x=true)\/(c.1=4/\c.2∈EC)
abbrev lI:=Int×BA×Int
def dJ(c:Ct):lI:=(c.1,if c.1=2 then⟨#[]⟩ else⟨⟨c.2⟩⟩,if c.1=2 then lU c.2 else 0)
def cW(t:bH):lI:=(t.1,t.2.1,t.2.2.1)
def EA(c:Ct)(x:UInt8):Bool:=if c.1=1 then !bI [1,2,3] x else if c.1=2 then !bI [2] x else if c.2=[61] then x !=61 else true
abbrev Pc:=Ct×List UInt8
def cB:List Pc->List UInt8
 |[]=>[]
 |p::l=>lP p.1++(p.2++cB l)
def eE:List Pc->Prop
 |[]=>True
 |p::l=>nN p.1/\(∀x∈p.2,bI [5] x=true)/\(∀x r,p.2++cB l=x::r->EA p.1 x=true)/\eE l
theorem FM{p:UInt8->Bool}:∀{a r:List UInt8},(∀x∈a,p x=true)->(∀x q,r=x::q->p x=false)->(a++r).takeWhile p=a
 |[],[],_,_=>rfl
 |[],x::q,_,h=>by rw[jL,fC (by rw[h x q rfl];simp)]
 |x::a,r,b,c=>by rw[jR,gL (b x (jG ..)),FM (fun y d=>b y (jK _ d)) c]
theorem DP{p:UInt8->Bool}{pre a r:List UInt8}(b:∀x∈a,p x=true)(c:∀x q,r=x::q->p x=false):tw p (pre++(a++r)) pre.length=pre.length+a.length:=by
 unfold tw
 rw[dA,FM b c]
theorem sE{pre:List UInt8}{x:UInt8}{r:List UInt8}:(pre++x::r).getD pre.length 0=x:=by
 rw[jP,List.getElem?_append_right (jJ _),Nat.sub_self];rfl
theorem KM{s:BA}{pre a r:List UInt8}(h:s.data.toList=pre++(a++r)):s.extract pre.length (pre.length+a.length)=⟨⟨a⟩⟩:=
 ByteArray.ext (Array.ext' (by
  simp only[ByteArray.data_extract,fE,gV]
  rw[h,dA,Nat.add_sub_cancel_left,fP]))
theorem SB{l:List UInt8}(h:l∈EC):(∃x,l=[x]/\kd x=8)\/l=[61,61]:=by
 simp only[EC,jT,kW,hH] at h
 rcases h with rfl|rfl|rfl|rfl|rfl|rfl|rfl|rfl|rfl|rfl|rfl|rfl<;>first|exact .inr rfl|exact .inl ⟨_,rfl,by kernel_rfl⟩
theorem GQ{k:Int}{x:UInt8}:bI [k] x=true↔kd x=k:=by simp[bI]
theorem QI{c:Ct}(h:nN c):∃x r,lP c=x::r/\(kd x=1\/kd x=2\/kd x=7\/kd x=8):=by
 obtain⟨k,l⟩:=c
 rcases h with ⟨rfl,⟨x,r,b,a⟩,-,-⟩|⟨rfl,b,a,-⟩|⟨rfl,b⟩|⟨rfl,b⟩
 .exact⟨x,r,by rw[sC (by decide)];exact b,.inl a⟩
 .cases l with
  |nil=>exact absurd rfl b
  |cons x r=>exact⟨x,r,sC (by decide),.inr (.inl (GQ.1 (a x (jG ..))))⟩
 .exact⟨34,l++[34],by unfold lP;rw[if_pos rfl],.inr (.inr (.inl (by kernel_rfl)))⟩
 rcases SB b with ⟨x,a,d⟩|a
 .have a:l=[x]:=a
  subst a
  exact⟨x,[],sC (by decide),.inr (.inr (.inr d))⟩
 have a:l=[61,61]:=a
 subst a
 exact⟨61,[61],sC (by decide),.inr (.inr (.inr (by kernel_rfl)))⟩
theorem qCm{s:BA}{pre r:List UInt8}{c:Ct}(E:nN c)(b:s.data.toList=pre++(lP c++r))(B:∀x q,r=x::q->EA c x=true):
  dZ s pre.length=(((dJ c).1,(dJ c).2.1,(dJ c).2.2,0),((pre.length+(lP c).length:Nat):Int),0):=by
 obtain⟨k,l⟩:=c
 rcases E with ⟨rfl,⟨x,q,f,a⟩,o,D⟩|⟨rfl,f,a,o⟩|⟨rfl,f⟩|⟨rfl,f⟩
 .have eb:lP (1,l)=l:=sC (by decide)
  rw[eb] at b ⊢
  have f:l=x::q:=f
  have d:s.data.toList.getD pre.length 0=x:=by rw[b,f];exact sE
  have p:tw (bI [1,2,3]) s.data.toList pre.length=pre.length+l.length:=by
   rw[b]
   exact DP o fun y z t=>by have:=B y z t;simpa[EA] using this
  have D:l.length<=24:=D
  unfold dZ
  rw[if_pos (by rw[d];exact a),p,if_neg (by omega),KM b]
  rfl
 .have eb:lP (2,l)=l:=sC (by decide)
  rw[eb] at b ⊢
  have f:l≠[]:=f
  have o:lU l<=9007199254740992:=o
  obtain⟨x,q,e⟩:∃x q,l=x::q:=by cases l with
   |nil=>exact absurd rfl f
   |cons x q=>exact⟨x,q,rfl⟩
  have d:s.data.toList.getD pre.length 0=x:=by rw[b,e];exact sE
  have n:kd x=2:=GQ.1 (a x (by show x∈l;rw[e];exact jG ..))
  have u:∀y z,r=y::z->bI [2] y=false:=fun y z t=>by have:=B y z t;simpa[EA] using this
  have p:tw (bI [2]) s.data.toList pre.length=pre.length+l.length:=by
   rw[b];exact DP a u
  have A:(s.data.toList.drop pre.length).takeWhile (bI [2])=l:=by
   rw[b,dA];exact FM a u
  unfold dZ
  rw[if_neg (by rw[d,n];decide),if_pos (by rw[d];exact n),p,A,if_neg (by omega)]
  rfl
 .have eb:lP (3,l)=34::(l++[34]):=by unfold lP;rw[if_pos rfl]
  rw[eb] at b ⊢
  have d:s.data.toList.getD pre.length 0=34:=by rw[b];exact sE
  have n:kd 34=7:=by kernel_rfl
  have v:s.data.toList=(pre++[34])++(l++(34::r)):=by rw[b];simp
  have u:(pre++[34]).length=pre.length+1:=by simp
  have p:tw lK s.data.toList (pre.length+1)=pre.length+1+l.length:=by
   rw[v,<-u]
   exact DP f fun y z t=>by cases t;rfl
  have A:s.data.toList.getD (pre.length+1+l.length) 0=34:=by
   rw[b,show pre++(34::(l++[34])++r)=(pre++34::l)++34::r by simp,show pre.length+1+l.length=(pre++34::l).length by simp;omega]
   exact sE
  have e3:=KM v
  rw[u] at e3
  unfold dZ
  rw[if_neg (by rw[d,n];decide),if_neg (by rw[d,n];decide),if_pos (by rw[d];exact n),p,if_pos A,e3]
  unfold dJ
  simp only[jB,j9,jD]
  rw[show pre.length+1+l.length+1=pre.length+(l.length+(0+1)+1) by omega]
  rfl
 have eb:lP (4,l)=l:=sC (by decide)
 rw[eb] at b ⊢
 have u:∀{x:UInt8},kd x=8->kd x≠1/\kd x≠2/\kd x≠7:=fun h=>by rw[h];decide
 have key:∀x q,l=x::q->kd x=8->oM s.data.toList pre.length=pre.length+l.length->dZ s pre.length=(((dJ (4,l)).1,(dJ (4,l)).2.1,(dJ (4,l)).2.2,0),((pre.length+l.length:Nat):Int),0):=fun x q e n t=>by
  have d:s.data.toList.getD pre.length 0=x:=by rw[b,e];exact sE
  obtain⟨p,v,A⟩:=u n
  unfold dZ
  rw[if_neg (by rw[d];exact p),if_neg (by rw[d];exact v),if_neg (by rw[d];exact A),if_pos (by rw[d];exact n),t,KM b]
  rfl
 rcases SB f with ⟨x,a,o⟩|a
 .have a:l=[x]:=a
  refine key x [] a o ?_
  have d:s.data.toList.getD pre.length 0=x:=by rw[b,a];exact sE
  unfold oM
  rw[if_neg,a]
  .rfl
  rw[d]
  rintro⟨rfl,g⟩
  cases r with
  |nil=>
   rw[b,a,jP,List.getElem?_eq_none (by simp)] at g
   cases g
  |cons y z=>
   have p:s.data.toList.getD (pre.length+1) 0=y:=by
    rw[b,a,show pre++([61]++y::z)=(pre++[61])++y::z by simp,show pre.length+1=(pre++[(61:UInt8)]).length by simp]
    exact sE
   have:=B y z rfl
   simp only[EA,a] at this
   rw[p] at g
   simp[g] at this
 have a:l=[61,61]:=a
 refine key 61 [61] a (by kernel_rfl) ?_
 have d:s.data.toList.getD pre.length 0=61:=by rw[b,a];exact sE
 have p:s.data.toList.getD (pre.length+1) 0=61:=by
  rw[b,a,show pre++([61,61]++r)=(pre++[61])++61::r by simp,show pre.length+1=(pre++[(61:UInt8)]).length by simp]
  exact sE
 unfold oM
 rw[if_pos ⟨d,p⟩,a]
 rfl
theorem NY{s:BA}:∀(ps:List Pc) (pre bl:List UInt8) (k:Nat),s.data.toList=pre++(bl++cB ps)->(∀x∈bl,bI [5] x=true)->eE ps->ps.length<k->
  ∃ts,lW k s pre.length= .inr ts/\ts.map cW=ps.map (fun p=>dJ p.1)++[(5,⟨#[]⟩,0)]
 |_,_,_,0,_,_,_,h=>absurd h (kQ _)
 |[],pre,bl,k+1,n,g,_,_=>by
  have hs':s.data.toList=pre++(bl++[]):=n
  have e:tw (bI [5]) s.data.toList pre.length=s.data.toList.length:=by
   rw[hs',DP g fun x q h=>by cases h]
   simp
  refine⟨[(5,⟨#[]⟩,0,(s.data.toList.length:Int))],?_,rfl⟩
  unfold lW
  rw[e,if_pos rfl]
 |p::ps,pre,bl,k+1,n,g,G,H=>by
  obtain⟨t,D,E,F⟩:=G
  obtain⟨x,r,d,o⟩:=QI t
  have K:bI [5] x=false:=by
   cases h:bI [5] x with
   |false=>rfl
   |true=>have:=GQ.1 h;rcases o with f|f|f|f<;>rw[f] at this<;>cases this
  have M:kd x≠6:=by rcases o with f|f|f|f<;>rw[f]<;>decide
  have a:s.data.toList=pre++(bl++(lP p.1++(p.2++cB ps))):=n
  have b:s.data.toList=(pre++bl)++(lP p.1++(p.2++cB ps)):=by rw[a];simp
  have v:s.data.toList=(pre++bl++lP p.1)++(p.2++cB ps):=by rw[a];simp
  have c:(pre++bl).length=pre.length+bl.length:=by simp
  have B:tw (bI [5]) s.data.toList pre.length=pre.length+bl.length:=by
   rw[a]
   refine DP g fun y q h=> ?_
   rw[d] at h
   cases h
   exact K
  have A:s.data.toList.getD (pre.length+bl.length) 0=x:=by
   rw[b,d,<-c];exact sE
  have l:s.data.toList.length≠pre.length+bl.length:=by
   rw[b,d];simp only[j9,jB];omega
  have z:=qCm t b E
  rw[c] at z
  obtain⟨ts,t1,t2⟩:=NY ps (pre++bl++lP p.1) p.2 k v D F (by simp only[jB] at H;omega)
  have u:(pre++bl++lP p.1).length=pre.length+bl.length+(lP p.1).length:=by simp;omega
  refine⟨((dJ p.1).1,(dJ p.1).2.1,(dJ p.1).2.2,((pre.length+bl.length:Nat):Int))::ts,?_,?_⟩
  .unfold lW
   rw[B,if_neg (Ne.symm l),if_neg (by rw[A];exact M),z]
   simp only[ne_eq,not_true_eq_false,kA,jU]
   rw[<-u,t1]
  rw[jZ,t2];rfl
theorem XU{ps:List Pc}(e:(cB ps).length<=16384)(a:eE ps):∃ts,iQ ⟨⟨cB ps⟩⟩=(ts,0,0)/\ts.map cW=ps.map (fun p=>dJ p.1)++[(5,⟨#[]⟩,0)]:=by
 have g:ps.length<=(cB ps).length:=by
  clear e
  induction ps with
  |nil=>exact kE _
  |cons p ps f=>
   obtain⟨c,-,-,d⟩:=a
   obtain⟨x,r,b,-⟩:=QI c
   have:=f d
   unfold cB
   simp only[j9,jB,b];omega
 obtain⟨ts,t1,t2⟩:=NY (s:=⟨⟨cB ps⟩⟩) ps [] [] ((cB ps).length+1) rfl (fun x h=>by cases h) a (by omega)
 refine⟨ts,?_,t2⟩
 have t1:lW ((cB ps).length+1) ⟨⟨cB ps⟩⟩ 0= .inr ts:=t1
 unfold iQ
 rw[if_neg (by show ¬(cB ps).length>16384;omega)]
 show EB [] (lW ((cB ps).length+1) _ 0)=_
 rw[t1]
 rfl
end
section
open Go Go.Dc Go.Proofs
theorem GS:∀i:Fin 10,bI [2] (UInt8.ofNat (48+i.val))=true/\(UInt8.ofNat (48+i.val)).toNat=48+i.val:=by decide+kernel
theorem JT{n:Nat}(h:¬n<10):Lib.decDigits n=Lib.decDigits (n/10)++[UInt8.ofNat (48+n%10)]:=by rw[Lib.decDigits,dif_neg h]
theorem qAt(n:Nat):∀x∈Lib.decDigits n,bI [2] x=true:=by
 induction n using Nat.strongRecOn with
 |_ n b=>
  intro x a
  by_cases h:n<10
  .rw[Lib.decDigits_one h,jN] at a
   rw[a];exact(GS ⟨n,h⟩).1
  rw[JT h] at a
  rcases kC.1 a with a|a
  .exact b (n/10) (by omega) x a
  rw[jN] at a
  rw[a];exact(GS ⟨n%10,by omega⟩).1
theorem TZ(n:Nat):Lib.decDigits n≠[]:=by
 intro h
 have:=Lib.decDigits_length n
 rw[h] at this
 have:=Lib.nDigits_pos n
 simp only[jD] at*;omega
theorem QV(n:Nat)(b:n<=9007199254740992):lU (Lib.decDigits n)=(n:Int):=by
 induction n using Nat.strongRecOn with
 |_ n a=>
  by_cases h:n<10
  .rw[Lib.decDigits_one h]
   have:=(GS ⟨n,h⟩).2
   show xH 0 (UInt8.ofNat (48+n))=_
   unfold xH
   simp only at this
   rw[this,if_neg (by omega)];omega
  rw[JT h,FW,a (n/10) (by omega) (by omega)]
  have:=(GS ⟨n%10,by omega⟩).2
  simp only at this
  unfold xH
  rw[this,if_neg (by omega)];omega
theorem GW:∀(k n:Nat),n<10^(k+1)->(Lib.decDigits n).length<=k+1
 |0,n,h=>by rw[Lib.decDigits_one (by simpa using h)];exact jJ _
 |k+1,n,h=>by
  by_cases h10:n<10
  .rw[Lib.decDigits_one h10];simp
  rw[Nat.pow_succ] at h
  have:=GW k (n/10) (by omega)
  rw[JT h10,j9,jO];omega
theorem qDk(n:Nat):(nM (n:Int)).data.toList=Lib.decDigits n:=by
 unfold nM Lib.itoa
 rw[if_neg (by omega),jU]
theorem TU{x y:BA}(h:x.data.toList=y.data.toList):x=y:=ByteArray.ext (Array.ext' h)
theorem mH(x y:BA):(x++y).data.toList=x.data.toList++y.data.toList:=by
 rw[ByteArray.data_append,Array.toList_append]
theorem JA{s:BA}(h:iT s=true):s.size<=24:=by
 have:=(gN h).2.1
 rw[cV] at this;exact this
theorem CV{s:BA}(h:lL s.data.toList=true):s.size<=80:=by
 have:s.data.toList.length<=80:=(gN h).1
 rw[cV] at this;exact this
theorem sA{s:BA}(h:cP s=true):s.size<=24:=by
 unfold cP at h
 rw[jI] at h
 exact JA h.1
theorem qBy{op:Int}(a:1<=op)(b:op<=7):(mM op).size<=2:=by
 rcases(by omega:op=1\/op=2\/op=3\/op=4\/op=5\/op=6\/op=7) with rfl|rfl|rfl|rfl|rfl|rfl|rfl<;>decide+kernel
theorem PQ{k:Int}(h:k=7\/k=8\/k=9):(iS k).size<=4:=by
 rcases h with rfl|rfl|rfl<;>decide+kernel
theorem SP{n:Int}(a: -9007199254740992<=n)(b:n<=9007199254740992):(nM n).size<=17:=by
 rw[<-cV]
 show(Lib.itoa n).length<=17
 unfold Lib.itoa
 split
 .have:=GW 15 n.natAbs (by omega)
  simp only[jB];omega
 have:=GW 15 n.toNat (by omega)
 omega
def mS(ws:List (List UInt8)):Nat:=(ws.map fun w=>w.length+2).sum
theorem CX:∀(ws:List (List UInt8)) (k:Nat),(lG k ws).length<=mS ws
 |[],_=>kE _
 |w::ws,k=>by
  have b:=CX ws (k+1)
  have a:(pO k).length<=2:=by unfold pO;split<;>simp
  unfold mS at*
  simp only[lG,j9,jZ,fY];omega
theorem qCb{ps:List BA}{h:Hd}{ks:List Rose}{b:Nat}(A:∀s∈ps,s.size<=24)(B:eC (ps.length:Int) (dK h (bQ b ks))=true):(dR ps h (cO ps h 0 ks)).length<=100+mS (cO ps h 0 ks):=by
 rcases CU B with ⟨k,a,d,p,-,-⟩|⟨k,a,d,p,-,-⟩|⟨k,a,-,-⟩|⟨k,a,d,p,-,-⟩|⟨k,a,-,-,-⟩|⟨k,a,d,-,-⟩|⟨k,a,d,-,-⟩|⟨k,a,d,-,-⟩|⟨k,a,d,p,-,-⟩
 all_goals (try simp only[dK] at k)<;>(try simp only[dK] at a)
 .have:(nM h.2.1).size<=17:=SP d p
  unfold dR
  rw[if_pos k,cV];omega
 .have c:h.1≠1:=by omega
  try simp only[dK] at d p
  have f:h.2.1.toNat<ps.length:=by omega
  have e:ps.getD h.2.1.toNat ⟨#[]⟩=ps[h.2.1.toNat]:=by rw[jP,List.getElem?_eq_getElem f];rfl
  have:=A _ (jX f)
  unfold dR
  rw[if_neg c,if_pos k,e,cV];omega
 .have c:h.1≠1:=by omega
  have f:h.1≠2:=by omega
  have l:h.1≠4:=by omega
  have o:h.1≠5:=by omega
  have g:=sA a
  have z:=CX (cO ps h 0 ks) 0
  have r:(⟨#[40]⟩:BA).size=1:=rfl
  unfold dR
  rw[if_neg c,if_neg f,if_neg l,if_neg o,if_pos k]
  try simp only[dK] at g
  simp only[j9,cV,ByteArray.size_append,jB,jD];omega
 .obtain⟨t,u,rfl⟩:=UZ a
  have c:h.1≠1:=by omega
  have f:h.1≠2:=by omega
  have g:=qBy d p
  have r:(⟨#[32]⟩:BA).size=1:=rfl
  try simp only[dK] at g
  unfold dR
  rw[if_neg c,if_neg f,if_pos k]
  simp only[cO,mS,jZ,List.map_nil,fY,List.sum_nil,List.getD_cons_zero,List.getD_cons_succ,j9,cV,ByteArray.size_append];omega
 .obtain⟨t,u,v,rfl⟩:=UW a
  have c:h.1≠1:=by omega
  have f:h.1≠2:=by omega
  have l:h.1≠4:=by omega
  have q:tI.length=3:=rfl
  have x:tThen.length=6:=rfl
  have y:tElse.length=6:=rfl
  unfold dR
  rw[if_neg c,if_neg f,if_neg l,if_pos k]
  simp only[cO,mS,jZ,List.map_nil,fY,List.sum_nil,List.getD_cons_zero,List.getD_cons_succ,j9];omega
 .obtain⟨t,rfl⟩:=VB a
  have c:h.1≠1:=by omega
  have f:h.1≠2:=by omega
  have l:h.1≠4:=by omega
  have o:h.1≠5:=by omega
  have k3:h.1≠3:=by omega
  have g:=CV d
  have r:(⟨#[114,101,97,100,40,34]⟩:BA).size=6:=rfl
  have y:(⟨#[34,44,32]⟩:BA).size=3:=rfl
  try simp only[dK] at g
  unfold dR
  rw[if_neg c,if_neg f,if_neg l,if_neg o,if_neg k3,if_pos k]
  simp only[cO,mS,jZ,List.map_nil,fY,List.sum_nil,List.getD_cons_zero,j9,cV,ByteArray.size_append,jB,jD];omega
 all_goals obtain rfl:=HQ a
 all_goals have c:h.1≠1:=by omega
 all_goals have f:h.1≠2:=by omega
 all_goals have l:h.1≠4:=by omega
 all_goals have o:h.1≠5:=by omega
 all_goals have k3:h.1≠3:=by omega
 all_goals have x:h.1≠6:=by omega
 .have q:h.1≠10:=by omega
  have g:=CV d
  have z:=PQ (k:=h.1) (by omega)
  have r:(⟨#[40,34]⟩:BA).size=2:=rfl
  have y:(⟨#[34,41]⟩:BA).size=2:=rfl
  try simp only[dK] at g
  unfold dR
  rw[if_neg c,if_neg f,if_neg l,if_neg o,if_neg k3,if_neg x,if_neg q]
  simp only[cV,ByteArray.size_append];omega
 .have q:h.1≠10:=by omega
  have g:=JA d
  have z:=PQ (k:=h.1) (by omega)
  have r:(⟨#[40,34]⟩:BA).size=2:=rfl
  have y:(⟨#[34,41]⟩:BA).size=2:=rfl
  try simp only[dK] at g
  unfold dR
  rw[if_neg c,if_neg f,if_neg l,if_neg o,if_neg k3,if_neg x,if_neg q]
  simp only[cV,ByteArray.size_append];omega
 try simp only[dK] at d p
 have g:=SP (n:=h.2.1) (by omega) (by omega)
 have r:(⟨#[102,108,105,112,40]⟩:BA).size=5:=rfl
 have y:(⟨#[41]⟩:BA).size=1:=rfl
 unfold dR
 rw[if_neg c,if_neg f,if_neg l,if_neg o,if_neg k3,if_neg x,if_pos k]
 simp only[cV,ByteArray.size_append];omega
mutual
theorem UF{ps:List BA}(a:∀s∈ps,s.size<=24)(t:Rose)(b:Nat)(need:Int)(c:∀x∈t.flat b,eC (ps.length:Int) x=true):(t.wr ps need).length+2<=110*t.size:=by
 match t with
 | .mk h ks=>
  have e:=TJ a ks h 0 b (fun x d=>c x (by unfold Rose.flat;exact jW _ d))
  have f:=qCb (b:=b) a (c (dK h (bQ b ks)) (by unfold Rose.flat;exact kH _ (jG ..)))
  simp only[Rose.wr,Rose.size]
  split
  .simp only[jB,j9,jD];omega
  omega
theorem TJ{ps:List BA}(a:∀s∈ps,s.size<=24)(l:List Rose)(h:Hd)(k b:Nat)(d:∀x∈cC b l,eC (ps.length:Int) x=true):mS (cO ps h k l)<=110*aL l:=by
 match l with
 |[]=>exact kE _
 |t::l=>
  have e:=UF a t b (cN h k) (fun x c=>d x (by unfold cC;exact jW _ c))
  have f:=TJ a l h (k+1) (b+t.size) (fun x c=>d x (by unfold cC;exact kH _ c))
  simp only[cO,mS,jZ,fY,aL] at*
  omega
end
def rO(d:Dl):List UInt8:=match sL d.2.2.2 with
 |some t=>t.wr d.2.2.1 0
 |none=>[]
def iE(d:Dl):Nat:=match sL d.2.2.2 with
 |some t=>t.dep 0 1
 |none=>0
structure GoodD(d:Dl):Prop where
 head:rE d=true
 pars:∀s∈d.2.2.1,d.1=1/\cP s=true
 nodes:∀x∈d.2.2.2,eC (d.2.2.1.length:Int) x=true
 tree:oneP (mQ d.2.2.2 0 [])=true
theorem qDc{d:Dl}(h:qG d=true):GoodD d:=by
 unfold qG xA zV at h
 simp only[jI,jV,kY] at h
 exact⟨h.1,h.2.1,h.2.2.1,h.2.2.2⟩
theorem qCg{ps:List BA}{h:Hd}{ks:List Rose}{b:Nat}(q:∀s∈ps,s.data.toList≠[])(r:eC (ps.length:Int) (dK h (bQ b ks))=true):dR ps h (cO ps h 0 ks)≠[]:=by
 have ne:∀{x y:List UInt8},y≠[]->x++y≠[]:=fun h e=>h (gS.1 e).2
 have nel:∀{x y:List UInt8},x≠[]->x++y≠[]:=fun h e=>h (gS.1 e).1
 rcases CU r with ⟨k,a,g,o,-,-⟩|⟨k,a,g,o,-,-⟩|⟨k,a,-,-⟩|⟨k,a,g,o,-,-⟩|⟨k,a,-,-,-⟩|⟨k,a,g,-,-⟩|⟨k,a,g,-,-⟩|⟨k,a,g,-,-⟩|⟨k,a,g,o,-,-⟩
 all_goals try simp only[dK] at k
 .unfold dR
  rw[if_pos k]
  show Lib.itoa h.2.1≠[]
  unfold Lib.itoa
  split
  .simp
  exact TZ _
 .have c:h.1≠1:=by omega
  try simp only[dK] at g o
  have d:h.2.1.toNat<ps.length:=by omega
  have e:ps.getD h.2.1.toNat ⟨#[]⟩=ps[h.2.1.toNat]:=by rw[jP,List.getElem?_eq_getElem d];rfl
  unfold dR
  rw[if_neg c,if_pos k,e]
  exact q _ (jX d)
 all_goals have c:h.1≠1:=by omega
 all_goals have d:h.1≠2:=by omega
 .have f:h.1≠4:=by omega
  have l:h.1≠5:=by omega
  unfold dR
  rw[if_neg c,if_neg d,if_neg f,if_neg l,if_pos k]
  exact ne (ne (by simp))
 .unfold dR
  rw[if_neg c,if_neg d,if_pos k]
  refine ne (nel ?_)
  rw[mH,mH]
  exact ne (by simp)
 all_goals have f:h.1≠4:=by omega
 .unfold dR
  rw[if_neg c,if_neg d,if_neg f,if_pos k]
  exact nel (by simp[tI])
 all_goals have l:h.1≠5:=by omega
 all_goals have k3:h.1≠3:=by omega
 .unfold dR
  rw[if_neg c,if_neg d,if_neg f,if_neg l,if_neg k3,if_pos k]
  exact ne (ne (by simp))
 all_goals have p:h.1≠6:=by omega
 .have n:h.1≠10:=by omega
  unfold dR
  rw[if_neg c,if_neg d,if_neg f,if_neg l,if_neg k3,if_neg p,if_neg n,mH]
  exact ne (by simp)
 .have n:h.1≠10:=by omega
  unfold dR
  rw[if_neg c,if_neg d,if_neg f,if_neg l,if_neg k3,if_neg p,if_neg n,mH]
  exact ne (by simp)
 unfold dR
 rw[if_neg c,if_neg d,if_neg f,if_neg l,if_neg k3,if_neg p,if_pos k,mH]
 exact ne (by simp)
theorem qJb{ps:List BA}(a:∀s∈ps,s.data.toList≠[])(t:Rose)(b:Nat)(need:Int)(c:∀x∈t.flat b,eC (ps.length:Int) x=true):t.wr ps need≠[]:=by
 cases t with
 |mk h ks=>
  simp only[Rose.wr]
  split
  .simp
  exact qCg (b:=b) a (c (dK h (bQ b ks)) (by unfold Rose.flat;exact kH _ (jG ..)))
theorem qDv{s:BA}(h:cP s=true):s.data.toList≠[]:=by
 unfold cP at h
 rw[jI] at h
 have:=(gN h.1).1
 intro e
 rw[e] at this
 simp at this
theorem SC{N:Nat}{d:Dl}(b:GoodD d)(A:d.2.2.2.length<=256)(r:3000000<N):CL N d.2.2.2 d.2.2.1=some (eW (rO d),(iE d:Int))/\(rO d).length<=30000:=by
 obtain⟨t,g,c⟩:=JU b.tree
 have y:t.size=d.2.2.2.length:=by
  have:=eF t 0
  rw[<-c] at this;exact this.symm
 have B:=t.pos
 have f:∀x∈t.flat 0,eC (d.2.2.1.length:Int) x=true:=fun x v=>b.nodes x (by rw[c];exact v)
 have z:=UF (ps:=d.2.2.1) (fun s e=>sA (b.pars s e).2) t 0 0 f
 have h:AtT d.2.2.2 0 t:=by
  have:=AtT.whole t
  rw[<-c] at this;exact this
 have q:rO d=t.wr d.2.2.1 0:=by unfold rO;rw[g]
 have k:iE d=t.dep 0 1:=by unfold iE;rw[g]
 refine⟨?_,by rw[q];omega⟩
 unfold CL
 rw[bT (by omega) (by omega)]
 have p:=US (l:=d.2.2.2) (ps:=d.2.2.1) r t (by omega) N 0 [] false 0 1 0 h f (by omega) (by simp only[jD];omega) (by omega) (gZ 0)
 rw[show(((0+t.size-1:Nat)):Int)=(d.2.2.2.length:Int)-1 by omega,show((0:Nat):Int)=0 from rfl,show((1:Nat):Int)=1 from rfl] at p
 rw[show HX N ((false,([]:List (UInt8))),d.2.2.2,d.2.2.1,0) ((d.2.2.2.length:Int)-1) 0 1=_ from p]
 simp only[j0,jL]
 have n:=qJb (ps:=d.2.2.1) (fun s e=>qDv (b.pars s e).2) t 0 0 f
 have o:EG (t.wr d.2.2.1 0)=some ():=by
  cases u:t.wr d.2.2.1 0 with
  |nil=>exact absurd u n
  |cons a l=>rfl
 rw[o,q,k]
 simp only[j0,Nat.zero_max]
def rH(l:List BA):BA:=⟨⟨lG 0 (l.map fun s=>s.data.toList)⟩⟩
def tK(d:Dl):BA:=
 if d.1=1 then((((⟨#[102,117,110,99,32]⟩:BA)++d.2.1)++(⟨#[40]⟩:BA))++rH d.2.2.1)++(⟨#[41]⟩:BA)
 else if d.1=2 then(⟨#[116,101,115,116,32]⟩:BA)++d.2.1
 else((⟨#[103,101,110,32,34]⟩:BA)++d.2.1)++(⟨#[34]⟩:BA)
def lH(d:Dl):List UInt8:=(tK d).data.toList++(((⟨#[32,61,32]⟩:BA)++eW (rO d))++(⟨#[59,10]⟩:BA)).data.toList
def rK(s:BA):List UInt8:=(((⟨#[112,97,99,107,97,103,101,32]⟩:BA)++s)++(⟨#[59,10]⟩:BA)).data.toList
def lV(s:BA):List UInt8:=(((⟨#[105,109,112,111,114,116,32]⟩:BA)++s)++(⟨#[59,10]⟩:BA)).data.toList
def nD(f:Sr):List UInt8:=(rK f.1++f.2.1.flatMap lV)++f.2.2.flatMap lH
def uJ(f:Sr):BA×Int:=
 if f.2.2.any (fun d=>decide (32<iE d))=true then(⟨#[]⟩,2) else if 16384<(nD f).length then(⟨#[]⟩,2) else(eW (nD f),0)
theorem OS{α:Type}(g:α->List UInt8):∀(l:List α) (t:List UInt8),l.foldl (fun t x=>t++g x) t=t++l.flatMap g
 |[],t=>by simp
 |x::l,t=>by rw[List.foldl_cons,OS g l,kD,jC]
structure GoodS(f:Sr):Prop where
 pkg:cP f.1=true
 imps:∀s∈f.2.1,cP s=true
 impn:f.2.1.length<=8
 decn:f.2.2.length<=64
 decs:∀d∈f.2.2,GoodD d/\d.2.2.1.length<=8/\d.2.2.2.length<=256/\xD d.2.2.2=false
 once:tF f=false
theorem GK{f:Sr}(h:mK f=0):GoodS f:=by
 unfold mK at h
 split at h
 .rename_i hs
  split at h
  .cases h
  rename_i ht
  split at h
  .cases h
  rename_i a
  have a:uR f=false:=by simpa using a
  unfold tQ at hs
  unfold uR at a
  simp only[jI,jV] at hs
  simp only[kL,decide_eq_false_iff_not,fZ] at a
  refine⟨hs.1,hs.2.1,by omega,by omega,fun d c=> ?_,by simpa using ht⟩
  have b:=a.2.2 d c
  unfold uO at b
  simp only[Bool.not_eq_true,kL,decide_eq_false_iff_not] at b
  exact⟨qDc (hs.2.2 d c),by omega,by omega,b.2.2⟩
 cases h
theorem JR{l:List BA}(h:∀s∈l,s.size<=24):(rH l).size<=26*l.length:=by
 have a:=CX (l.map fun s=>s.data.toList) 0
 have d:mS (l.map fun s=>s.data.toList)<=26*l.length:=by
  clear a
  induction l with
  |nil=>exact kE _
  |cons s l c=>
   have e:=h s (jG ..)
   have f:=c fun x b=>h x (jK _ b)
   unfold mS at*
   simp only[jZ,fY,jB,cV] at*
   omega
 have b:(rH l).size=(lG 0 (l.map fun s=>s.data.toList)).length:=by rw[<-cV];rfl
 omega
theorem KD{d:Dl}(h:GoodD d):d.2.1.size<=80:=by
 have:=h.head
 unfold rE at this
 split at this
 .have:=sA this;omega
 split at this
 .exact CV this
 cases this
theorem RQ{d:Dl}(h:GoodD d)(e:d.2.2.1.length<=8):(tK d).size<=400:=by
 have b:=KD h
 have c:=JR (l:=d.2.2.1) fun s a=>sA (h.pars s a).2
 have f:(⟨#[102,117,110,99,32]⟩:BA).size=5:=rfl
 have g:(⟨#[40]⟩:BA).size=1:=rfl
 have k:(⟨#[41]⟩:BA).size=1:=rfl
 have n:(⟨#[116,101,115,116,32]⟩:BA).size=5:=rfl
 have o:(⟨#[103,101,110,32,34]⟩:BA).size=5:=rfl
 have p:(⟨#[34]⟩:BA).size=1:=rfl
 unfold tK
 split
 .simp only[ByteArray.size_append];omega
 split
 .simp only[ByteArray.size_append];omega
 simp only[ByteArray.size_append];omega
theorem qAg(l:List UInt8):(eW l).data.toList=l:=rfl
theorem CQ(l:List UInt8):(eW l).size=l.length:=by rw[<-cV,qAg]
theorem qCw{N:Nat}{d:Dl}(h:GoodD d)(c:d.2.2.1.length<=8)(b:d.2.2.2.length<=256)(a:3000000<N):(lH d).length<=31000:=by
 have e:=RQ h c
 have f:=(SC h b a).2
 have g:(⟨#[32,61,32]⟩:BA).size=3:=rfl
 have k:(⟨#[59,10]⟩:BA).size=2:=rfl
 unfold lH
 simp only[j9,cV,ByteArray.size_append,CQ];omega
theorem qGs{N:Nat}{f:Sr}(h:GoodS f)(p:3000000<N){c:List UInt8}(r:c.length<=100):aS (vK N f) N (0,c)=some (c++f.2.1.flatMap lV)/\(c++f.2.1.flatMap lV).length<=600:=by
 have q:=h.impn
 have b:∀s∈f.2.1,(lV s).length<=40:=fun s g=>by
  have:=sA (h.imps s g)
  have k:(⟨#[105,109,112,111,114,116,32]⟩:BA).size=7:=rfl
  have n:(⟨#[59,10]⟩:BA).size=2:=rfl
  unfold lV
  simp only[cV,ByteArray.size_append];omega
 constructor
 .have a:=yX (L:=f.2.1) (fun(t:List UInt8) (i:Nat)=>((i:Int),t)) (f:=vK N f)
   (fun t s=> .inl (t++lV s)) (fun t=>t) (fun i t=>t.length<=100+40*i) (by
    intro t i hi d
    have o:=sA (h.imps _ (jX hi))
    simp only[vK]
    rw[if_pos (by simp only[jA];omega),eZ hi]
    have ew:IntKind.wrap .i64 ((i:Int)+1)=((i+1:Nat):Int):=by rw[bT (by omega) (by omega)];omega
    have k:(⟨#[105,109,112,111,114,116,32]⟩:BA).size=7:=rfl
    have n:(⟨#[59,10]⟩:BA).size=2:=rfl
    simp only[j0]
    rw[iX (by omega)]
    simp only[j0]
    rw[iX (by rw[ByteArray.size_append];omega)]
    simp only[j0]
    rw[lX (by simp only[cV,ByteArray.size_append];omega)]
    simp only[j0,ew]
    rfl) (by
    intro t i hi t' d e
    cases e
    have:=b _ (jX hi)
    simp only[j9];omega) (by
    intro t d
    simp only[vK]
    rw[if_neg (by simp)]) (M:=N) (t:=c) (by omega) (by omega)
  rw[show((0:Nat):Int)=0 from rfl] at a
  rw[a,QT (fun t s=>t++lV s) (fun _ _=>rfl),OS]
 have:∀l:List BA,(∀s∈l,(lV s).length<=40)->(l.flatMap lV).length<=40*l.length:=fun l=>by
  induction l with
  |nil=>intro _;exact kE _
  |cons s l e=>
   intro a
   have k:=a s (jG ..)
   have n:=e fun x d=>a x (jK _ d)
   simp only[kD,j9,jB];omega
 have:=this _ b
 rw[j9];omega
theorem qHh{N:Nat}{f:Sr}(h:GoodS f)(G:∀d∈f.2.2,d.1=1->rX N d.2.2.1 (⟨#[44,32]⟩:BA)=some (rH d.2.2.1))(u:3000000<N){o:List UInt8}(ht:o.length<=600):
  aS (vL N f) N (0,o)=some (if f.2.2.any (fun d=>decide (32<iE d))=true then .inr ((⟨#[]⟩:BA),2) else .inl (o++f.2.2.flatMap lH)):=by
 have hn:=h.decn
 have x:=yX (L:=f.2.2) (fun(t:List UInt8) (i:Nat)=>((i:Int),t)) (f:=vL N f)
  (fun t d=>if(decide (32<iE d))=true then .inr (.inr ((⟨#[]⟩:BA),2)) else .inl (t++lH d)) (fun t=>(.inl t:List UInt8⊕(BA×Int))) (fun i t=>t.length<=600+31000*i) (by
   intro t i hi r
   obtain⟨b,e,k,-⟩:=h.decs _ (jX hi)
   obtain⟨F,Z⟩:=SC b k u
   have a:=RQ b e
   have y:=KD b
   have v:=JR (l:=(f.2.2[i]).2.2.1) fun s H=>sA (b.pars s H).2
   have p:=G _ (jX hi)
   simp only[vL]
   rw[if_pos (by simp only[jA];omega),eZ hi]
   generalize f.2.2[i]=d at b e k F Z a y v p
   have ew:IntKind.wrap .i64 ((i:Int)+1)=((i+1:Nat):Int):=by rw[bT (by omega) (by omega)];omega
   simp only[j0,F]
   have q:decide ((iE d:Int)>32)=decide (32<iE d):=by congr 1;rw[eq_iff_iff];omega
   rw[q]
   cases c:decide (32<iE d) with
   |true=>rfl
   |false=>
    have z1:(⟨#[102,117,110,99,32]⟩:BA).size=5:=rfl
    have z2:(⟨#[40]⟩:BA).size=1:=rfl
    have z3:(⟨#[41]⟩:BA).size=1:=rfl
    have z4:(⟨#[116,101,115,116,32]⟩:BA).size=5:=rfl
    have z5:(⟨#[103,101,110,32,34]⟩:BA).size=5:=rfl
    have z6:(⟨#[34]⟩:BA).size=1:=rfl
    have z7:(⟨#[32,61,32]⟩:BA).size=3:=rfl
    have z8:(⟨#[59,10]⟩:BA).size=2:=rfl
    have n:(if(d.1==1)=true then((bR (⟨#[102,117,110,99,32]⟩:BA) d.2.1).bind fun U=>(bR U (⟨#[40]⟩:BA)).bind fun V=>(rX N d.2.2.1 (⟨#[44,32]⟩:BA)).bind fun y3=>(bR V y3).bind fun Y=>(bR Y (⟨#[41]⟩:BA)).bind fun A=>(cF 1 t A.data.toList).bind fun K=>some K) else(if(d.1==2)=true then((bR (⟨#[116,101,115,116,32]⟩:BA) d.2.1).bind fun B=>(cF 1 t B.data.toList).bind fun R=>some R) else((bR (⟨#[103,101,110,32,34]⟩:BA) d.2.1).bind fun D=>(bR D (⟨#[34]⟩:BA)).bind fun E=>(cF 1 t E.data.toList).bind fun S=>some S)):Option (List (UInt8)))=some (t++(tK d).data.toList):=by
     unfold tK at a ⊢
     by_cases k1:d.1=1
     .rw[if_pos k1] at a
      simp only[ByteArray.size_append] at a
      rw[if_pos (by simpa using k1),if_pos k1,iX (by omega)]
      simp only[j0]
      rw[iX (by rw[ByteArray.size_append];omega),p k1]
      simp only[j0]
      rw[iX (by simp only[ByteArray.size_append];omega)]
      simp only[j0]
      rw[iX (by simp only[ByteArray.size_append];omega)]
      simp only[j0]
      rw[lX (by simp only[cV,ByteArray.size_append];omega)]
      rfl
     rw[if_neg k1] at a
     rw[if_neg (by simpa using k1),if_neg k1]
     by_cases k2:d.1=2
     .rw[if_pos k2] at a
      simp only[ByteArray.size_append] at a
      rw[if_pos (by simpa using k2),if_pos k2,iX (by omega)]
      simp only[j0]
      rw[lX (by simp only[cV,ByteArray.size_append];omega)]
      rfl
     rw[if_neg k2] at a
     simp only[ByteArray.size_append] at a
     rw[if_neg (by simpa using k2),if_neg k2,iX (by omega)]
     simp only[j0]
     rw[iX (by rw[ByteArray.size_append];omega)]
     simp only[j0]
     rw[lX (by simp only[cV,ByteArray.size_append];omega)]
     rfl
    simp only[jE,kA]
    refine Eq.trans (congrArg (fun z=>Option.bind z _) n) ?_
    simp only[j0]
    rw[iX (by rw[CQ];omega)]
    simp only[j0]
    rw[iX (by rw[ByteArray.size_append,CQ];omega)]
    simp only[j0]
    rw[lX (by simp only[j9,cV,ByteArray.size_append,CQ];omega)]
    simp only[j0,ew,lH,jC]) (by
   intro t i hi t' r a
   split at a
   .cases a
   .cases a
    obtain⟨b,e,k,-⟩:=h.decs _ (jX hi)
    have:=qCw (N:=N) b e k u
    rw[j9];omega) (by
   intro t r
   simp only[vL]
   rw[if_neg (by simp)]) (M:=N) (t:=o) (by omega) (by omega)
 rw[show((0:Nat):Int)=0 from rfl] at x
 rw[x]
 congr 1
 suffices g:∀(l:List Dl) (t:List UInt8),run (fun t d=>if(decide (32<iE d))=true then .inr (.inr ((⟨#[]⟩:BA),2)) else .inl (t++lH d)) (fun t=>(.inl t:List UInt8⊕(BA×Int))) l t=if l.any (fun d=>decide (32<iE d))=true then .inr ((⟨#[]⟩:BA),2) else .inl (t++l.flatMap lH) from g _ _
 intro l
 induction l with
 |nil=>intro t;simp[run]
 |cons d l a=>
  intro t
  simp only[run,hB,kD]
  cases hd:decide (32<iE d) with
  |true=>simp
  |false=>
   simp only[jE,kA,gP]
   rw[a,jC]
theorem ZZ{N:Nat}{f:Sr}(n:SmSr f)(o:mK f=0->∀d∈f.2.2,d.1=1->rX N d.2.2.1 (⟨#[44,32]⟩:BA)=some (rH d.2.2.1))(c:3000000<N):
  qD N f=some (if mK f=0 then uJ f else(⟨#[]⟩,mK f)):=by
 unfold qD
 rw[show sW N f=_ from PE n c]
 simp only[j0]
 by_cases hc:mK f=0
 .have g:=GK hc
  have r:=sA g.pkg
  have s:(⟨#[112,97,99,107,97,103,101,32]⟩:BA).size=8:=rfl
  have t:(⟨#[59,10]⟩:BA).size=2:=rfl
  have k:(rK f.1).length<=100:=by unfold rK;simp only[cV,ByteArray.size_append];omega
  rw[if_neg (by simp[hc]),if_pos hc,iX (by omega)]
  simp only[j0]
  rw[iX (by rw[ByteArray.size_append];omega)]
  simp only[j0]
  rw[lX (by simp only[jD,cV,ByteArray.size_append];omega),jL]
  simp only[j0]
  rw[show(((⟨#[112,97,99,107,97,103,101,32]⟩:BA)++f.1)++(⟨#[59,10]⟩:BA)).data.toList=rK f.1 from rfl]
  obtain⟨p,q⟩:=qGs g c k
  rw[p]
  simp only[j0]
  rw[qHh g (o hc) c q]
  simp only[j0]
  unfold uJ
  by_cases ha:f.2.2.any (fun d=>decide (32<iE d))=true
  .rw[if_pos ha,if_pos ha]
  rw[if_neg ha,if_neg ha]
  simp only
  have e:decide (((rK f.1++f.2.1.flatMap lV++f.2.2.flatMap lH).length:Int)>16384)=decide (16384<(nD f).length):=by
   congr 1;rw[eq_iff_iff];unfold nD;omega
  rw[e]
  by_cases hl:16384<(nD f).length
  .rw[if_pos (by simpa using hl),if_pos hl]
  rw[if_neg (by simpa using hl),if_neg hl]
  have h:EG (rK f.1++f.2.1.flatMap lV++f.2.2.flatMap lH)=some ():=by
   cases hh:(rK f.1++f.2.1.flatMap lV++f.2.2.flatMap lH) with
   |nil=>
    have b:=(gS.1 (gS.1 hh).1).1
    unfold rK at b
    rw[mH,mH] at b
    have:=(gS.1 b).2
    simp at this
   |cons a l=>rfl
  rw[h]
  rfl
 rw[if_pos (by simp[hc]),if_neg hc]
theorem qEj{N:Nat}{l:List BA}(h:l.length<=1):rX N l (⟨#[44,32]⟩:BA)=some (rH l):=by
 unfold rX
 rw[if_neg (by omega)]
 unfold FO
 match l,h with
 |[],_=>rfl
 |[x],_=>
  simp only[jB,jD]
  rw[if_neg (by decide),if_pos (by decide),show idx [x] 0=some x from rfl]
  simp only[j0]
  congr 1
  refine TU ?_
  show x.data.toList=lG 0 [x.data.toList]
  simp[lG,pO]
section
variable {ts:List bH} {params:List BA} {E S:Ps->PM Nat} {B:Nat}
def BE(B:Nat)(l:List Ex):Prop:=∀x∈l,x.2.2.2.2.length<=B
def tP(B:Nat)(E:Ps->PM Nat):Prop:=∀(p q:Ps) (x:Nat),BE B p.2->E p= .inr (q,x)->BE B q.2
theorem wV{t:bH}{x:Ex}{p q:Ps}{i:Nat}(b:BE B p.2)(c:x.2.2.2.2.length<=B)(h:iB t x p= .inr (q,i)):BE B q.2:=by
 obtain⟨rfl,-,-⟩:=wI h
 intro y a
 rcases kC.1 a with a|a
 .exact b y a
 rw[jN.1 a];exact c
theorem UK(e:tP B E):∀(n:Nat) (l:List Int) (p q:Ps) (x:List Int),BE B p.2->qT ts E n l p= .inr (q,x)->BE B q.2/\x.length<=l.length+n
 |0,_,_,_,_,_,c=>by cases c
 |n+1,l,p,q,x,h,c=>by
  obtain⟨a,g,d⟩:=bG (show bF (E p) _=_ from c)
  have b:=e p a.1 a.2 h g
  split at d
  .obtain⟨k,o⟩:=UK e n _ (a.1.1+1,a.1.2) q x b d
   exact⟨k,by simp only[j9,jB,jD] at o;omega⟩
  obtain⟨j,r,f⟩:=bG d
  obtain⟨rfl,rfl⟩:=Prod.mk.inj (Sum.inr.inj f)
  exact⟨b,by simp only[j9,jB,jD];omega⟩
theorem YR(d:tP B E){p q:Ps}{x:List Int}(b:BE B p.2)(c:oY ts E p= .inr (q,x)):BE B q.2/\x.length<=ts.length+1:=by
 obtain⟨i,hi,a⟩:=bG c
 split at a
 .obtain⟨rfl,rfl⟩:=Prod.mk.inj (Sum.inr.inj a)
  exact⟨b,kE _⟩
 obtain⟨e,f⟩:=UK d _ _ (i,p.2) q x b a
 exact⟨e,by simpa using f⟩
theorem qBw(z:3<=B)(v:tP B E){t:bH}{p q:Ps}{x:Nat}(h:BE B p.2)(o:nP ts E t p= .inr (q,x)):BE B q.2:=by
 obtain⟨i,hi,r⟩:=bG o
 obtain⟨a,f,s⟩:=bG r
 obtain⟨j,A,u⟩:=bG s
 have key:BE B a.1.2/\a.2.2.2.2.2.length<=B:=by
  split at f
  .obtain⟨b,g,e⟩:=bG f
   obtain⟨c,y,k⟩:=bG e
   obtain⟨d,l,n⟩:=bG k
   have:=v (c,p.2) d.1 d.2 h l
   obtain rfl:=Sum.inr.inj n
   exact⟨this,by show 1<=B;omega⟩
  split at f
  .obtain⟨b,g,e⟩:=bG f
   obtain rfl:=Sum.inr.inj e
   exact⟨h,kE _⟩
  split at f
  .obtain⟨b,g,e⟩:=bG f
   obtain rfl:=Sum.inr.inj e
   exact⟨h,kE _⟩
  split at f
  .obtain⟨b,g,e⟩:=bG f
   obtain rfl:=Sum.inr.inj e
   exact⟨h,kE _⟩
  obtain⟨b,g,e⟩:=bG f
  split at e
  .cases e
  obtain rfl:=Sum.inr.inj e
  exact⟨h,kE _⟩
 exact wV (p:=(j,a.1.2)) key.1 key.2 u
theorem qCq(h:ts.length+3<=B)(f:tP B E):tP B (iP ts params E):=by
 intro p q x c b
 unfold iP at b
 dsimp only at b
 split at b
 .exact wV (p:=(p.1+1,p.2)) c (kE _) b
 split at b
 .obtain⟨a,e,d⟩:=bG b
  exact wV (p:=(a.1,p.2)) c (kE _) d
 split at b
 .obtain⟨a,e,d⟩:=bG b
  have:=f (p.1+1,p.2) a.1 a.2 c e
  obtain⟨j,k,g⟩:=bG d
  obtain⟨rfl,rfl⟩:=Prod.mk.inj (Sum.inr.inj g)
  exact this
 split at b
 .cases b
 split at b
 .exact qBw (by omega) f (p:=(p.1+1,p.2)) c b
 split at b
 .cases b
 split at b
 .obtain⟨a,e,d⟩:=bG b
  obtain⟨g,k⟩:=YR f (p:=(p.1+1,p.2)) c e
  exact wV (p:=a.1) g (by show a.2.length<=B;omega) d
 split at b
 .exact wV (p:=(p.1+1,p.2)) c (kE _) b
 cases b
theorem TT(h:3<=B){level:Nat}(d:tP B S):∀(n x:Nat) (p q:Ps) (y:Nat),BE B p.2->mN ts level S n x p= .inr (q,y)->BE B q.2
 |0,_,_,_,_,_,b=>by cases b
 |n+1,x,p,q,y,e,b=>by
  unfold mN at b
  split at b
  .obtain⟨rfl,rfl⟩:=Prod.mk.inj (Sum.inr.inj b)
   exact e
  obtain⟨a,l,g⟩:=bG b
  have f:=d (p.1+1,p.2) a.1 a.2 e l
  obtain⟨r,o,c⟩:=bG g
  have k:BE B r.1.2:=by
   refine wV (p:=a.1) f ?_ o
   show 2<=B
   omega
  split at c
  .obtain⟨rfl,rfl⟩:=Prod.mk.inj (Sum.inr.inj c)
   exact k
  exact TT h d n _ _ q y k c
theorem KW(e:3<=B){level:Nat}(b:tP B S):tP B (oA ts level S):=by
 intro p q x g c
 obtain⟨a,f,d⟩:=bG c
 exact TT e b _ _ _ q x (b p a.1 a.2 g f) d
theorem DU(e:ts.length+3<=B):∀k,tP B (cG ts params k)
 |0=>fun _ _ _ _ d=>by cases d
 |k+1=>by
  intro p q x f d
  unfold cG at d
  split at d
  .obtain⟨a,y,r⟩:=bG d
   have l:=DU e k (p.1+1,p.2) a.1 a.2 f y
   obtain⟨i,hi,s⟩:=bG r
   obtain⟨b,g,t⟩:=bG s
   have n:=DU e k (i,a.1.2) b.1 b.2 l g
   obtain⟨j,z,u⟩:=bG t
   obtain⟨c,h,v⟩:=bG u
   have o:=DU e k (j,b.1.2) c.1 c.2 n h
   refine wV (p:=c.1) o ?_ v
   show 3<=B
   omega
  exact KW (by omega) (KW (by omega) (KW (by omega) (qCq e (DU e k)))) p q x f d
def HS(d:Dl):Prop:=d.2.2.1.length<=8/\d.2.2.2.length<=256/\BE 20000 d.2.2.2
theorem qHe(b:OkT ts)(A:ts.length<=16385){before:List Dl}{i:Nat}{a:Nat×Dl}(hi:i<ts.length)(d:oD ts before i= .inr a):HS a.2:=by
 unfold oD at d
 dsimp only at d
 split at d
 .cases d
 rename_i k1
 split at d
 .cases d
 have g:=b.next hi (show(aC ts i).1≠5 by intro e;apply k1;left;rw[e];decide)
 obtain⟨x,k,h⟩:=bG d
 have gx:x.1<ts.length:=by
  split at k
  .obtain⟨rfl,f,-⟩:=tB b g k;exact f
  obtain⟨rfl,f,-⟩:=tC b g k;exact f
 split at h
 .cases h
 obtain⟨y,l,q⟩:=bG h
 have gy:y.1<ts.length/\y.2.length<=8:=by
  split at l
  .obtain⟨-,n,f⟩:=IB b gx l;exact⟨n,f⟩
  obtain rfl:=Sum.inr.inj l;exact⟨gx,kE _⟩
 obtain⟨j,u,r⟩:=bG q
 obtain⟨rfl,f,-⟩:=mJ b gy.1 u
 obtain⟨c,n,s⟩:=bG r
 obtain⟨⟨-,-,-,o⟩,-⟩:=uE b 32 (y.1+1,[]) c.1 c.2 f (by simp) n
 have p:=DU (B:=20000) (by omega) 32 (y.1+1,[]) c.1 c.2 (fun z v=>by cases v) n
 obtain⟨m,D,t⟩:=bG s
 obtain rfl:=Sum.inr.inj t
 exact⟨gy.2,o,p⟩
theorem TD(c:OkT ts)(e:ts.length<=16385):∀(n:Nat) (l:List Dl) (i:Nat) {r:List Dl},(∀d∈l,HS d)->i<ts.length->oK ts n l i= .inr r->∀d∈r,HS d
 |0,_,_,_,_,_,a=>by cases a
 |n+1,l,i,r,f,hi,a=>by
  unfold oK at a
  split at a
  .cases a;exact f
  obtain⟨x,g,k⟩:=bG a
  obtain⟨-,h,-⟩:=FT c hi g
  refine TD c e n _ _ (fun d b=> ?_) h k
  rcases kC.1 b with b|b
  .exact f d b
  rw[jN.1 b];exact qHe c e hi g
end
def VA(f:Sr):Prop:=f.2.1.length<=8/\f.2.2.length<=64/\∀d∈f.2.2,HS d
theorem SY{ts:List bH}(h:OkT ts):∀(n:Nat) (l:List Dl) (i:Nat) {r:List Dl},l.length<=64->i<ts.length->oK ts n l i= .inr r->r.length<=64
 |0,_,_,_,_,_,a=>by cases a
 |n+1,l,i,r,d,hi,a=>by
  unfold oK at a
  split at a
  .cases a;exact d
  obtain⟨x,e,c⟩:=bG a
  obtain⟨-,b,f⟩:=FT h hi e
  exact SY h n _ _ (by simp only[j9,jB,jD];omega) b c
theorem QZ:VA HO:=⟨kE _,kE _,fun d a=>by cases a⟩
theorem qAo(s:BA):VA (iR s).1:=by
 unfold iR
 by_cases h0:(iQ s).2.2=0
 .rw[if_neg (not_not_intro h0)]
  obtain⟨e,g,D⟩:=OV h0
  have k:0<(iQ s).1.length:=by
   cases h:(iQ s).1 with
   |nil=>exact absurd h e.1
   |cons a l=>exact Nat.succ_pos _
  cases c:rG (iQ s).1 with
  |inl z=>exact QZ
  |inr f=>
   simp only
   unfold rG at c
   obtain⟨i,v,c⟩:=bG c
   obtain⟨rfl,r,-⟩:=zE e k v
   obtain⟨a,x,c⟩:=bG c
   obtain⟨rfl,t,-⟩:=tC e r x
   obtain⟨j,y,c⟩:=bG c
   obtain⟨rfl,u,-⟩:=mJ e t y
   obtain⟨b,A,c⟩:=bG c
   obtain⟨-,o,k3⟩:=IH e _ _ _ b u (by simp) A
   obtain⟨l,n,c⟩:=bG c
   have p:=SY e _ _ _ (by simp) o n
   have q:=TD e g _ _ _ (fun d B=>by cases B) o n
   cases c
   exact⟨k3,p,q⟩
 rw[if_pos h0];exact QZ
theorem qDr{P:Rose->Prop}(h:∀b ks,(∀t∈ks,P t)->P (.mk b ks))(t:Rose):P t:=by
 have key:∀(n:Nat) (t:Rose),t.size<=n->P t:=by
  intro n
  induction n with
  |zero=>intro t d;have:=t.pos;omega
  |succ n e=>
   intro t d
   match t with
   | .mk b ks=>
    refine h b ks fun u c=>e u ?_
    have g:u.size<=aL ks:=by
     clear d e h
     induction ks with
     |nil=>cases c
     |cons a l f=>
      rcases jT.1 c with rfl|c
      .show _<=u.size+aL l;omega
      have:=f c
      show _<=a.size+aL l;omega
    have:(Rose.mk b ks).size=aL ks+1:=rfl
    omega
 exact key t.size t (jJ _)
inductive Fine(np:Nat):Rose->Prop
 |num (n:Int) (h0: -9007199254740992<=n) (h1:n<=9007199254740992):Fine np (.mk (1,n,0,emB) [])
 |par (i:Nat) (h:i<np):Fine np (.mk (2,(i:Int),0,emB) [])
 |call (s:BA) (ks:List Rose) (h:cP s=true) (hk:∀t∈ks,Fine np t):Fine np (.mk (3,0,0,s) ks)
 |bin (op:Int) (a b:Rose) (h0:1<=op) (h1:op<=7) (ha:Fine np a) (hb:Fine np b):Fine np (.mk (4,0,op,emB) [a,b])
 |ite (a b c:Rose) (ha:Fine np a) (hb:Fine np b) (hc:Fine np c):Fine np (.mk (5,0,0,emB) [a,b,c])
 |read (s:BA) (a:Rose) (h:lL s.data.toList=true) (ha:Fine np a):Fine np (.mk (6,0,0,s) [a])
 |look (k:Int) (s:BA) (hk:k=7\/k=8) (h:lL s.data.toList=true):Fine np (.mk (k,0,0,s) [])
 |env (s:BA) (h:iT s=true):Fine np (.mk (9,0,0,s) [])
 |flip (n:Nat) (h:n<64):Fine np (.mk (10,(n:Int),0,emB) [])
theorem qGm{np:Nat}(t:Rose):∀b,(∀x∈t.flat b,eC (np:Int) x=true)->Fine np t:=by
 refine qDr (P:=fun t=>∀b,(∀x∈t.flat b,eC (np:Int) x=true)->Fine np t) ?_ t
 intro z ks B b y
 have A:eC (np:Int) (dK z (bQ b ks))=true:=y _ (by unfold Rose.flat;exact kH _ (jN.2 rfl))
 have q:∀t∈ks,Fine np t:=by
  have g:∀x∈cC b ks,eC (np:Int) x=true:=fun x f=>y x (by unfold Rose.flat;exact jW _ f)
  clear y A
  induction ks generalizing b with
  |nil=>intro t e;cases e
  |cons a l h=>
   intro t e
   rcases jT.1 e with rfl|e
   .exact B t (jG ..) b fun x f=>g x (by unfold cC;exact jW _ f)
   exact h (fun u p=>B u (jK _ p)) (b+a.size) (fun x f=>g x (by unfold cC;exact kH _ f)) t e
 obtain⟨k,n,o,s⟩:=z
 have r:(dK (k,n,o,s) (bQ b ks)).2.2.2.2.length=ks.length:=oJ ks b
 rcases CU A with ⟨e,h,p,g,f,v⟩|⟨e,h,p,g,f,v⟩|⟨e,h,p,g⟩|⟨e,h,p,g,f,v⟩|⟨e,h,p,g,f⟩|⟨e,h,p,g,f⟩|⟨e,h,p,g,f⟩|⟨e,h,p,g,f⟩|⟨e,h,p,g,f,v⟩
 .have e:k=1:=e
  have f:o=0:=f
  have v:s=emB:=v
  rw[r] at h
  obtain rfl:=gC.1 h
  subst e f v
  exact .num n p g
 .have e:k=2:=e
  have f:o=0:=f
  have v:s=emB:=v
  have p:0<=n:=p
  have g:n<(np:Int):=g
  rw[r] at h
  obtain rfl:=gC.1 h
  subst e f v
  obtain⟨i,rfl⟩:∃i:Nat,n=(i:Int):=⟨n.toNat,by omega⟩
  exact .par i (by omega)
 .have e:k=3:=e
  have p:n=0:=p
  have g:o=0:=g
  subst e p g
  exact .call s ks h q
 .have e:k=4:=e
  have f:n=0:=f
  have v:s=emB:=v
  rw[r] at h
  subst e f v
  match ks,h,q with
  |[a,c],_,q=>exact .bin o a c p g (q a (by simp)) (q c (by simp))
 .have e:k=5:=e
  have p:n=0:=p
  have g:o=0:=g
  have f:s=emB:=f
  rw[r] at h
  subst e p g f
  match ks,h,q with
  |[a,c,d],_,q=>exact .ite a c d (q a (by simp)) (q c (by simp)) (q d (by simp))
 .have e:k=6:=e
  have g:n=0:=g
  have f:o=0:=f
  rw[r] at h
  subst e g f
  match ks,h,q with
  |[a],_,q=>exact .read s a p (q a (by simp))
 .have e:k=7\/k=8:=e
  have g:n=0:=g
  have f:o=0:=f
  rw[r] at h
  obtain rfl:=gC.1 h
  subst g f
  exact .look k s e p
 .have e:k=9:=e
  have g:n=0:=g
  have f:o=0:=f
  rw[r] at h
  obtain rfl:=gC.1 h
  subst e g f
  exact .env s p
 have e:k=10:=e
 have p:0<=n:=p
 have g:n<64:=g
 have f:o=0:=f
 have v:s=emB:=v
 rw[r] at h
 obtain rfl:=gC.1 h
 subst e f v
 obtain⟨i,rfl⟩:∃i:Nat,n=(i:Int):=⟨n.toNat,by omega⟩
 exact .flip i (by omega)
abbrev Pf:=List UInt8->List Pc
def bL(l:List UInt8)(bl:List UInt8):Pc:=((4,l),bl)
def cA(l:List UInt8)(bl:List UInt8):Pc:=((1,l),bl)
def nU(l:List UInt8)(bl:List UInt8):Pc:=((3,l),bl)
def oN(n:Int)(bl:List UInt8):List Pc:=if n<0 then[bL [45] [],((2,Lib.decDigits n.natAbs),bl)] else[((2,Lib.decDigits n.toNat),bl)]
def iI:Nat->List Pf->List Pc
 |_,[]=>[]
 |k,w::ws=>(if k=0 then[] else[bL [44] [32]])++(w []++iI (k+1) ws)
def AM:List UInt8:=[105,102]
def zZ:List UInt8:=[116,104,101,110]
def zQ:List UInt8:=[101,108,115,101]
def zO:List UInt8:=[114,101,97,100]
def uQ:List UInt8:=[102,108,105,112]
def AK:Pf:=fun _=>[]
def nA(ps:List BA)(h:Hd)(ws:List Pf)(bl:List UInt8):List Pc:=
 if h.1=1 then oN h.2.1 bl
 else if h.1=2 then[cA (ps.getD h.2.1.toNat ⟨#[]⟩).data.toList bl]
 else if h.1=4 then(ws.getD 0 AK) [32]++(bL (mM h.2.2.1).data.toList [32]::(ws.getD 1 AK) bl)
 else if h.1=5 then cA AM [32]::((ws.getD 0 AK) [32]++(cA zZ [32]::((ws.getD 1 AK) [32]++(cA zQ [32]::(ws.getD 2 AK) bl))))
 else if h.1=3 then cA h.2.2.2.data.toList []::bL [40] []::(iI 0 ws++[bL [41] bl])
 else if h.1=6 then cA zO []::bL [40] []::nU h.2.2.2.data.toList []::bL [44] [32]::((ws.getD 0 AK) []++[bL [41] bl])
 else if h.1=10 then cA uQ []::bL [40] []::(oN h.2.1 []++[bL [41] bl])
 else[cA (iS h.1).data.toList [],bL [40] [],nU h.2.2.2.data.toList [],bL [41] bl]
mutual
def Rose.pc(ps:List BA)(need:Int)(bl:List UInt8):Rose->List Pc
 | .mk h ks=>if cJ h<need then bL [40] []::(nA ps h (eO ps h 0 ks) []++[bL [41] bl]) else nA ps h (eO ps h 0 ks) bl
def eO(ps:List BA)(h:Hd)(k:Nat):List Rose->List Pf
 |[]=>[]
 |t::l=>(fun bl=>t.pc ps (cN h k) bl)::eO ps h (k+1) l
end
theorem oX:∀(a b:List Pc),cB (a++b)=cB a++cB b
 |[],_=>rfl
 |p::a,b=>by simp only[jR,cB,oX a b,jC]
theorem mY(c:Ct)(bl:List UInt8)(l:List Pc):cB ((c,bl)::l)=lP c++(bl++cB l):=rfl
theorem pI(l:List UInt8):lP (1,l)=l:=sC (by decide)
theorem by2(l:List UInt8):lP (2,l)=l:=sC (by decide)
theorem pS(l:List UInt8):lP (4,l)=l:=sC (by decide)
theorem EJ(l:List UInt8):lP (3,l)=34::(l++[34]):=if_pos rfl
theorem qIq(n:Int):(nM n).data.toList=Lib.itoa n:=rfl
theorem OI(n:Int)(bl:List UInt8):cB (oN n bl)=(nM n).data.toList++bl:=by
 rw[qIq]
 unfold oN Lib.itoa
 split
 .simp only[bL,mY,cB,pS,by2,jS,jL,jR]
 simp only[mY,cB,by2,jS]
theorem pM{a:Array UInt8}:(⟨a⟩:BA).data.toList=a.toList:=rfl
theorem qIg(ps:List BA)(h:Hd)(ks:List Rose)(need:Int):(Rose.mk h ks).wr ps need=if cJ h<need then 40::(dR ps h (cO ps h 0 ks)++[41]) else dR ps h (cO ps h 0 ks):=by unfold Rose.wr;rfl
theorem HT(ps:List BA)(h:Hd)(ks:List Rose)(need:Int)(bl:List UInt8):(Rose.mk h ks).pc ps need bl=if cJ h<need then bL [40] []::(nA ps h (eO ps h 0 ks) []++[bL [41] bl]) else nA ps h (eO ps h 0 ks) bl:=by unfold Rose.pc;rfl
theorem sX{ps:List BA}{h:Hd}{ks:List Rose}(a:∀bl,cB (nA ps h (eO ps h 0 ks) bl)=dR ps h (cO ps h 0 ks)++bl)(need:Int)(bl:List UInt8):cB ((Rose.mk h ks).pc ps need bl)=(Rose.mk h ks).wr ps need++bl:=by
 rw[qIg,HT]
 split
 .simp only[bL,mY,oX,a,pS,cB,jS,jL,jR,jC]
 exact a bl
theorem NX(ps:List BA)(h:Hd):∀(ks:List Rose) (k:Nat),(∀t∈ks,∀need bl,cB (t.pc ps need bl)=t.wr ps need++bl)->cB (iI k (eO ps h k ks))=lG k (cO ps h k ks)
 |[],_,_=>rfl
 |t::ks,k,a=>by
  have c:=NX ps h ks (k+1) fun u b=>a u (jK _ b)
  simp only[eO,cO,iI,lG,oX,c,a t (jG ..),jS]
  congr 1
  unfold pO
  split
  .rfl
  rfl
theorem qAq{ps:List BA}{np:Nat}{t:Rose}(r:Fine np t):∀need bl,cB (t.pc ps need bl)=t.wr ps need++bl:=by
 induction r with
 |num n o p=>exact sX fun bl=>OI n bl
 |par i h=>
  exact sX fun bl=>by
   show cB [cA _ bl]=_++bl
   simp only[cA,mY,cB,pI,jS]
   rfl
 |call s ks h g u=>
  exact sX fun bl=>by
   show cB (cA s.data.toList []::bL [40] []::(iI 0 (eO ps (3,0,0,s) 0 ks)++[bL [41] bl]))=((s++(⟨#[40]⟩:BA)).data.toList++(lG 0 (cO ps (3,0,0,s) 0 ks)++[41]))++bl
   simp only[cA,bL,mY,oX,NX ps _ ks 0 u,pI,pS,cB,mH,pM,jS,jL,jC,jR]
 |bin op a b o p f q d e=>
  exact sX fun bl=>by
   show cB (a.pc ps (cN (4,0,op,emB) 0) [32]++(bL (mM op).data.toList [32]::b.pc ps (cN (4,0,op,emB) 1) bl))=(a.wr ps (cN (4,0,op,emB) 0)++((((⟨#[32]⟩:BA)++mM op)++(⟨#[32]⟩:BA)).data.toList++b.wr ps (cN (4,0,op,emB) 1)))++bl
   simp only[bL,oX,mY,d,e,pS,mH,pM,jC,jR,jL]
 |ite a b c f q v d e l=>
  exact sX fun bl=>by
   show cB (cA AM [32]::(a.pc ps 0 [32]++(cA zZ [32]::(b.pc ps 0 [32]++(cA zQ [32]::c.pc ps 0 bl)))))=(tI++(a.wr ps 0++(tThen++(b.wr ps 0++(tElse++c.wr ps 0)))))++bl
   simp only[cA,mY,oX,d,e,l,pI,AM,zZ,zQ,tI,tThen,tElse,jC,jR,jL]
 |read s a h f d=>
  exact sX fun bl=>by
   show cB (cA zO []::bL [40] []::nU s.data.toList []::bL [44] [32]::(a.pc ps 0 []++[bL [41] bl]))=((((⟨#[114,101,97,100,40,34]⟩:BA)++s)++(⟨#[34,44,32]⟩:BA)).data.toList++(a.wr ps 0++[41]))++bl
   simp only[cA,bL,nU,mY,oX,d,pI,EJ,pS,zO,cB,mH,pM,jS,jL,jC,jR]
 |look k s g h=>
  exact sX fun bl=>by
   rcases g with rfl|rfl
   .show cB [cA (iS 7).data.toList [],bL [40] [],nU s.data.toList [],bL [41] bl]=((((iS 7++(⟨#[40,34]⟩:BA))++s)++(⟨#[34,41]⟩:BA)).data.toList)++bl
    simp only[cA,bL,nU,mY,pI,EJ,pS,cB,mH,pM,jS,jL,jC,jR]
   show cB [cA (iS 8).data.toList [],bL [40] [],nU s.data.toList [],bL [41] bl]=((((iS 8++(⟨#[40,34]⟩:BA))++s)++(⟨#[34,41]⟩:BA)).data.toList)++bl
   simp only[cA,bL,nU,mY,pI,EJ,pS,cB,mH,pM,jS,jL,jC,jR]
 |env s h=>
  exact sX fun bl=>by
   show cB [cA (iS 9).data.toList [],bL [40] [],nU s.data.toList [],bL [41] bl]=((((iS 9++(⟨#[40,34]⟩:BA))++s)++(⟨#[34,41]⟩:BA)).data.toList)++bl
   simp only[cA,bL,nU,mY,pI,EJ,pS,cB,mH,pM,jS,jL,jC,jR]
 |flip n h=>
  exact sX fun bl=>by
   show cB (cA uQ []::bL [40] []::(oN (n:Int) []++[bL [41] bl]))=((((⟨#[102,108,105,112,40]⟩:BA)++nM (n:Int))++(⟨#[41]⟩:BA)).data.toList)++bl
   simp only[cA,bL,mY,oX,OI,pI,pS,uQ,cB,mH,pM,jS,jL,jC,jR]
theorem LK{p:UInt8->Bool}:∀{l:List UInt8} (x:UInt8),x∈l.takeWhile p->p x=true
 |[],_,h=>by cases h
 |y::l,x,h=>by
  rw[List.takeWhile_cons] at h
  split at h
  .rename_i hy
   rcases jT.1 h with rfl|h
   .exact hy
   exact LK x h
  cases h
theorem PZ{s:BA}(h:iT s=true):(∃x l,s.data.toList=x::l/\kd x=1)/\(∀x∈s.data.toList,bI [1,2,3] x=true)/\s.data.toList.length<=24:=by
 unfold iT at h
 obtain⟨b,e,c,a⟩:=gN h
 refine⟨?_,?_,e⟩
 .cases d:s.data.toList with
  |nil=>rw[d] at b;cases b
  |cons x l=>rw[d] at c;exact⟨x,l,rfl,c⟩
 unfold tw at a
 rw[kJ,kG] at a
 have f:s.data.toList.takeWhile (bI [1,2,3])=s.data.toList:=(fV _).eq_of_length a
 intro x d
 rw[<-f] at d
 exact LK x d
theorem wM{s:BA}(h:iT s=true):nN (1,s.data.toList):=by
 obtain⟨a,b,c⟩:=PZ h
 exact .inl ⟨rfl,a,b,c⟩
theorem wA{s:BA}(h:cP s=true):iT s=true:=by
 unfold cP at h
 simp only[jI] at h
 exact h.1
theorem cls:(List.range 256).all (fun i=>(!bI [1,2,3,4] (UInt8.ofNat i)||(lK (UInt8.ofNat i)&&decide (i≠61)))&&(decide (i≠47)||lK (UInt8.ofNat i)))=true:=by kernel_rfl
theorem KJ{x:UInt8}(h:bI [1,2,3,4] x=true\/x=47):lK x=true/\x≠61:=by
 have:=jV.1 cls x.toNat (fQ.2 x.toNat_lt)
 have e:UInt8.ofNat x.toNat=x:=by simp
 rw[e] at this
 simp only[jI,Bool.or_eq_true,Bool.not_eq_true',jA] at this
 rcases h with h|rfl
 .rcases this.1 with g|⟨a,b⟩
  .rw[h] at g;cases g
  exact⟨a,fun e=>b (by rw[e];rfl)⟩
 exact⟨by kernel_rfl,by decide⟩
theorem qIb:∀{l:List UInt8} {x:UInt8},x∈l->x=47\/∃p∈sp l,x∈p:=by
 intro l
 induction l with
 |nil=>intro x a;cases a
 |cons y l e=>
  intro x a
  by_cases hy:y=47
  .rcases jT.1 a with rfl|a
   .exact .inl hy
   rcases e a with g|⟨p,b,d⟩
   .exact .inl g
   refine .inr ⟨p,?_,d⟩
   unfold sp
   rw[if_pos hy]
   exact jK _ b
  cases c:sp l with
  |nil=>exact absurd c (HJ l)
  |cons q r=>
   rcases jT.1 a with rfl|a
   .refine .inr ⟨x::q,?_,jG ..⟩
    unfold sp
    rw[if_neg hy,c]
    exact jG ..
   rcases e a with g|⟨p,b,d⟩
   .exact .inl g
   rw[c] at b
   rcases jT.1 b with rfl|b
   .refine .inr ⟨y::p,?_,jK _ d⟩
    unfold sp
    rw[if_neg hy,c]
    exact jG ..
   refine .inr ⟨p,?_,d⟩
   unfold sp
   rw[if_neg hy,c]
   exact jK _ b
theorem JQ{l:List UInt8}(h:lL l=true):(∀x∈l,lK x=true)/\l≠[61]:=by
 unfold lL at h
 obtain⟨-,-,d⟩:=gN h
 have key:∀x∈l,lK x=true/\x≠61:=fun x a=>by
  rcases qIb a with g|⟨p,b,c⟩
  .exact KJ (.inr g)
  exact KJ (.inl ((d p b).2.2 x c))
 exact⟨fun x a=>(key x a).1,fun e=>(key 61 (by rw[e];exact jG ..)).2 rfl⟩
theorem qEa{s:BA}(h:iT s=true):(∀x∈s.data.toList,lK x=true)/\s.data.toList≠[61]:=by
 obtain⟨-,b,-⟩:=PZ h
 have key:∀x∈s.data.toList,lK x=true/\x≠61:=fun x a=>by
  refine KJ (.inl ?_)
  have:=b x a
  unfold bI at this ⊢
  simp only[hB,List.any_nil,Bool.or_false,Bool.or_eq_true] at this ⊢
  rcases this with g|g|g
  .exact .inl g
  .exact .inr (.inl g)
  exact .inr (.inr (.inl g))
 exact⟨fun x a=>(key x a).1,fun e=>(key 61 (by rw[e];exact jG ..)).2 rfl⟩
def oC(l:List UInt8):Bool:=match l with|[]=>true|x::_=> !bI [1,2,3] x
theorem RP{l:List UInt8}(h:oC l=true):∀x r,l=x::r->bI [1,2,3] x=false:=fun x r e=>by
 subst e
 simpa[oC] using h
theorem qDo{l:List UInt8}(h:oC l=true):∀x r,l=x::r->bI [2] x=false:=fun x r e=>by
 have:=RP h x r e
 unfold bI at this ⊢
 simp only[hB,List.any_nil,Bool.or_false,kL] at this ⊢
 exact this.2.1
def sM(bl:List UInt8):Prop:=∀x∈bl,bI [5] x=true
theorem iJ:sM []:=fun x h=>by cases h
theorem nE:sM [32]:=fun x h=>by rw[jN.1 h];kernel_rfl
theorem mU{l bl:List UInt8}{rest:List Pc}(d:nN (1,l))(a:sM bl)(c:oC (bl++cB rest)=true)(b:eE rest):eE (cA l bl::rest):=
 ⟨d,a,fun x r h=>by
  have:=RP c x r h
  show(if(1:Int)=1 then !bI [1,2,3] x else _)=true
  rw[if_pos rfl,this];rfl,b⟩
theorem gdN{n:Nat}{bl:List UInt8}{rest:List Pc}(c:n<=9007199254740992)(a:sM bl)(d:oC (bl++cB rest)=true)(b:eE rest):eE (((2,Lib.decDigits n),bl)::rest):=
 ⟨.inr (.inl ⟨rfl,TZ n,qAt n,by
  have:=QV n c
  show lU (Lib.decDigits n)<=_
  omega⟩),a,fun x r h=>by
  have:=qDo d x r h
  show(if(2:Int)=1 then _ else if(2:Int)=2 then !bI [2] x else _)=true
  rw[if_neg (by decide),if_pos rfl,this];rfl,b⟩
theorem lN{l bl:List UInt8}{rest:List Pc}(d:l∈EC)(a:l≠[61])(b:sM bl)(c:eE rest):eE (bL l bl::rest):=
 ⟨.inr (.inr (.inr ⟨rfl,d⟩)),b,fun x r _=>by
  show(if(4:Int)=1 then _ else if(4:Int)=2 then _ else if l=[61] then _ else true)=true
  rw[if_neg (by decide),if_neg (by decide),if_neg a],c⟩
theorem EK{l bl:List UInt8}{rest:List Pc}(d:∀x∈l,lK x=true)(a:l≠[61])(b:sM bl)(c:eE rest):eE (nU l bl::rest):=
 ⟨.inr (.inr (.inl ⟨rfl,d⟩)),b,fun x r _=>by
  show(if(3:Int)=1 then _ else if(3:Int)=2 then _ else if l=[61] then _ else true)=true
  rw[if_neg (by decide),if_neg (by decide),if_neg a],c⟩
theorem UT{n:Int}{bl:List UInt8}{rest:List Pc}(d: -9007199254740992<=n)(e:n<=9007199254740992)(a:sM bl)(c:oC (bl++cB rest)=true)(b:eE rest):eE (oN n bl++rest):=by
 unfold oN
 split
 .exact lN (by decide) (by decide) iJ (gdN (by omega) a c b)
 exact gdN (by omega) a c b
theorem qGb{op:Int}(a:1<=op)(b:op<=7):(mM op).data.toList∈EC/\(mM op).data.toList≠[61]:=by
 rcases(by omega:op=1\/op=2\/op=3\/op=4\/op=5\/op=6\/op=7) with rfl|rfl|rfl|rfl|rfl|rfl|rfl<;>decide+kernel
def GdP(ps:List BA)(t:Rose):Prop:=∀need bl rest,sM bl->oC (bl++cB rest)=true->eE rest->eE (t.pc ps need bl++rest)
theorem sH{ps:List BA}{h:Hd}{ks:List Rose}(c:∀bl rest,sM bl->oC (bl++cB rest)=true->eE rest->eE (nA ps h (eO ps h 0 ks) bl++rest)):GdP ps (.mk h ks):=by
 intro need bl rest a d b
 rw[HT]
 split
 .rw[jR,jC]
  exact lN (by decide) (by decide) iJ (c [] _ iJ (by kernel_rfl) (lN (by decide) (by decide) a b))
 exact c bl rest a d b
theorem qBo{ws:List Pf}{k:Nat}{rest:List Pc}(a:oC (cB rest)=true):oC (cB (iI (k+1) ws++rest))=true:=by
 cases ws with
 |nil=>exact a
 |cons w ws=>
  show oC (cB (((if k+1=0 then[] else[bL [44] [32]])++(w []++iI (k+1+1) ws))++rest))=true
  rw[if_neg (by omega)]
  kernel_rfl
theorem TK{ps:List BA}{h:Hd}:∀(ks:List Rose) (k:Nat) (rest:List Pc),(∀t∈ks,GdP ps t)->oC (cB rest)=true->eE rest->eE (iI k (eO ps h k ks)++rest)
 |[],_,_,_,_,a=>a
 |t::ks,k,rest,c,d,a=>by
  have f:=TK (h:=h) ks (k+1) rest (fun u e=>c u (jK _ e)) d a
  show eE (((if k=0 then[] else[bL [44] [32]])++(t.pc ps (cN h k) []++iI (k+1) (eO ps h (k+1) ks)))++rest)
  rw[jC,jC]
  have b:=c t (jG ..) (cN h k) [] (iI (k+1) (eO ps h (k+1) ks)++rest) iJ (qBo d) f
  split
  .exact b
  exact lN (by decide) (by decide) nE b
theorem okIf:nN (1,AM):= .inl ⟨rfl,⟨105,_,rfl,by kernel_rfl⟩,by decide+kernel,by decide⟩
theorem qHk:nN (1,zZ):= .inl ⟨rfl,⟨116,_,rfl,by kernel_rfl⟩,by decide+kernel,by decide⟩
theorem qGy:nN (1,zQ):= .inl ⟨rfl,⟨101,_,rfl,by kernel_rfl⟩,by decide+kernel,by decide⟩
theorem qHs:nN (1,zO):= .inl ⟨rfl,⟨114,_,rfl,by kernel_rfl⟩,by decide+kernel,by decide⟩
theorem qIc:nN (1,uQ):= .inl ⟨rfl,⟨102,_,rfl,by kernel_rfl⟩,by decide+kernel,by decide⟩
theorem qHz:nN (1,(iS 7).data.toList):= .inl ⟨rfl,⟨115,_,rfl,by kernel_rfl⟩,by decide+kernel,by decide⟩
theorem qIs:nN (1,(iS 8).data.toList):= .inl ⟨rfl,⟨104,_,rfl,by kernel_rfl⟩,by decide+kernel,by decide⟩
theorem qIr:nN (1,(iS 9).data.toList):= .inl ⟨rfl,⟨101,_,rfl,by kernel_rfl⟩,by decide+kernel,by decide⟩
theorem qFz{ps:List BA}(u:∀s∈ps,iT s=true){t:Rose}(y:Fine ps.length t):GdP ps t:=by
 induction y with
 |num n o p=>exact sH fun bl rest d f e=>UT o p d f e
 |par i h=>
  refine sH fun bl rest d f e=>mU (wM (u _ ?_)) d f e
  show ps.getD ((i:Int)).toNat ⟨#[]⟩∈ps
  rw[jU,jP,List.getElem?_eq_getElem h]
  exact jX h
 |call s ks h r z=>
  refine sH fun bl rest d f e=> ?_
  show eE (cA s.data.toList []::bL [40] []::((iI 0 (eO ps (3,0,0,s) 0 ks)++[bL [41] bl])++rest))
  rw[jC]
  exact mU (wM (wA h)) iJ (by kernel_rfl) (lN (by decide) (by decide) iJ (TK ks 0 _ z (by kernel_rfl) (lN (by decide) (by decide) d e)))
 |bin op a b o p q x g l=>
  refine sH fun bl rest d f e=> ?_
  show eE ((a.pc ps (cN (4,0,op,emB) 0) [32]++(bL (mM op).data.toList [32]::b.pc ps (cN (4,0,op,emB) 1) bl))++rest)
  rw[jC,jR]
  obtain⟨v,A⟩:=qGb o p
  exact g _ _ _ nE (by kernel_rfl) (lN v A nE (l _ _ _ d f e))
 |ite a b c q x A g l v=>
  refine sH fun bl rest d f e=> ?_
  show eE (cA AM [32]::((a.pc ps 0 [32]++(cA zZ [32]::(b.pc ps 0 [32]++(cA zQ [32]::c.pc ps 0 bl))))++rest))
  rw[jC,jR,jC,jR]
  exact mU okIf nE (by kernel_rfl) (g _ _ _ nE (by kernel_rfl) (mU qHk nE (by kernel_rfl) (l _ _ _ nE (by kernel_rfl) (mU qGy nE (by kernel_rfl) (v _ _ _ d f e)))))
 |read s a h q g=>
  refine sH fun bl rest d f e=> ?_
  show eE (cA zO []::bL [40] []::nU s.data.toList []::bL [44] [32]::((a.pc ps 0 []++[bL [41] bl])++rest))
  rw[jC]
  obtain⟨p1,p2⟩:=JQ h
  exact mU qHs iJ (by kernel_rfl) (lN (by decide) (by decide) iJ (EK p1 p2 iJ (lN (by decide) (by decide) nE (g _ _ _ iJ (by kernel_rfl) (lN (by decide) (by decide) d e)))))
 |look k s r h=>
  obtain⟨p1,p2⟩:=JQ h
  rcases r with rfl|rfl
  .exact sH fun bl rest d f e=>mU qHz iJ (by kernel_rfl) (lN (by decide) (by decide) iJ (EK p1 p2 iJ (lN (by decide) (by decide) d e)))
  exact sH fun bl rest d f e=>mU qIs iJ (by kernel_rfl) (lN (by decide) (by decide) iJ (EK p1 p2 iJ (lN (by decide) (by decide) d e)))
 |env s h=>
  obtain⟨p1,p2⟩:=qEa h
  exact sH fun bl rest d f e=>mU qIr iJ (by kernel_rfl) (lN (by decide) (by decide) iJ (EK p1 p2 iJ (lN (by decide) (by decide) d e)))
 |flip n h=>
  refine sH fun bl rest d f e=> ?_
  show eE (cA uQ []::bL [40] []::((oN (n:Int) []++[bL [41] bl])++rest))
  rw[jC]
  exact mU qIc iJ (by kernel_rfl) (lN (by decide) (by decide) iJ (UT (by omega) (by omega) iJ (by kernel_rfl) (lN (by decide) (by decide) d e)))
def eY(l:List Pc):List lI:=l.map fun p=>dJ p.1
theorem GI(a b:List Pc):eY (a++b)=eY a++eY b:=gM ..
def eS(ts:List bH):Nat->List lI->Prop
 |_,[]=>True
 |i,c::cs=>cW (aC ts i)=c/\eS ts (i+1) cs
theorem wP{ts:List bH}:∀{a b:List lI} {i:Nat},eS ts i (a++b)↔eS ts i a/\eS ts (i+a.length) b
 |[],b,i=>by simp[eS]
 |c::a,b,i=>by
  have d:=wP (ts:=ts) (a:=a) (b:=b) (i:=i+1)
  simp only[jR,eS,d,jB,and_assoc]
  rw[show i+1+a.length=i+(a.length+1) by omega]
theorem pF{ts:List bH}{a b:List Pc}{i:Nat}(h:eS ts i (eY (a++b))):eS ts i (eY a)/\eS ts (i+a.length) (eY b):=by
 rw[GI,wP] at h
 have:(eY a).length=a.length:=gJ ..
 rw[this] at h
 exact h
section
variable {ts:List bH} {ps:List BA} {i:Nat}
theorem nZ{c:lI}(h:cW (aC ts i)=c)(k:Int)(s:BA):cD ts k s i=(c.1==k&&decide (c.2.1=s)):=by
 subst h;rfl
theorem qW{c:lI}(h:cW (aC ts i)=c):(aC ts i).1=c.1:=congrArg (fun x=>x.1) h
theorem nH{c:lI}(h:cW (aC ts i)=c):(aC ts i).2.1=c.2.1:=congrArg (fun x=>x.2.1) h
theorem tk3{c:lI}(h:cW (aC ts i)=c):(aC ts i).2.2.1=c.2.2:=congrArg (fun x=>x.2.2) h
def opK(c:lI)(level:Nat):Int:=
 match opsC.find? (fun o=>(c.1==4&&decide (c.2.1=o.2))&&decide (pH o.1=level)) with
 |some o=>o.1
 |none=>0
theorem TP{c:lI}(h:cW (aC ts i)=c)(level:Nat):lS ts level i=opK c level:=by
 subst h;rfl
theorem GB{l:List UInt8}(h:cW (aC ts i)=dJ (4,l)):cW (aC ts i)=(4,⟨⟨l⟩⟩,0):=h
theorem lJ{l:List UInt8}(h:cW (aC ts i)=dJ (1,l)):cW (aC ts i)=(1,⟨⟨l⟩⟩,0):=h
theorem wE{l:List UInt8}(h:cW (aC ts i)=dJ (3,l)):cW (aC ts i)=(3,⟨⟨l⟩⟩,0):=h
theorem GG{n:Nat}(a:n<=9007199254740992)(h:cW (aC ts i)=dJ (2,Lib.decDigits n)):cW (aC ts i)=(2,⟨#[]⟩,(n:Int)):=by
 rw[h]
 unfold dJ
 rw[if_pos rfl,if_pos rfl,QV n a]
theorem mI{l:List UInt8}(h:cW (aC ts i)=dJ (4,l)){s:BA}(a:(⟨⟨l⟩⟩:BA)=s):eK ts s i= .inr (i+1):=by
 unfold eK
 rw[nZ (GB h),kS a]
 rfl
theorem JO{l:List UInt8}(h:cW (aC ts i)=dJ (1,l)){s:BA}(a:(⟨⟨l⟩⟩:BA)=s):oL ts s i= .inr (i+1):=by
 unfold oL
 rw[nZ (lJ h),kS a]
 rfl
theorem CY{l:List UInt8}(h:cW (aC ts i)=dJ (4,l)){s:BA}(a:(⟨⟨l⟩⟩:BA)≠s):cD ts 4 s i=false:=by
 rw[nZ (GB h),gD a];rfl
theorem wD{l:List UInt8}(h:cW (aC ts i)=dJ (4,l)){s:BA}(a:(⟨⟨l⟩⟩:BA)=s):cD ts 4 s i=true:=by
 rw[nZ (GB h),kS a];rfl
def NextOk(n:Nat)(ts:List bH)(i:Nat):Prop:=i<ts.length/\cD ts 4 sOpen i=false/\∀L,n<=L->1<=L->L<=3->lS ts L i=0
theorem NextOk.up{n m:Nat}(h:NextOk n ts i)(a:n<=m):NextOk m ts i:=⟨h.1,h.2.1,fun L b=>h.2.2 L (by omega)⟩
def xI:List lI:=[(4,⟨#[41]⟩,0),(4,⟨#[44]⟩,0),(4,⟨#[59]⟩,0),(1,⟨#[116,104,101,110]⟩,0),(1,⟨#[101,108,115,101]⟩,0)]
theorem wG{c:lI}(a:c∈xI)(h:cW (aC ts i)=c)(hi:i<ts.length)(n:Nat):NextOk n ts i:=by
 simp only[xI,jT,kW,hH] at a
 refine⟨hi,?_,fun L _ b d=> ?_⟩
 .rw[nZ h]
  rcases a with rfl|rfl|rfl|rfl|rfl<;>decide+kernel
 rw[TP h]
 rcases(by omega:L=1\/L=2\/L=3) with rfl|rfl|rfl<;>rcases a with rfl|rfl|rfl|rfl|rfl<;>decide+kernel
theorem TA{op:Int}(a:1<=op)(b:op<=7)(h:cW (aC ts i)=dJ (4,(mM op).data.toList)):cD ts 4 sOpen i=false/\∀L,1<=L->L<=3->lS ts L i=if pH op=L then op else 0:=by
 rw[nZ h]
 refine⟨?_,fun L c d=> ?_⟩
 .rcases(by omega:op=1\/op=2\/op=3\/op=4\/op=5\/op=6\/op=7) with rfl|rfl|rfl|rfl|rfl|rfl|rfl<;>decide+kernel
 rw[TP h]
 rcases(by omega:L=1\/L=2\/L=3) with rfl|rfl|rfl<;>rcases(by omega:op=1\/op=2\/op=3\/op=4\/op=5\/op=6\/op=7) with rfl|rfl|rfl|rfl|rfl|rfl|rfl<;>decide+kernel
def Res{α:Type}(x:dL⊕α)(g:Prop)(v:α):Prop:=(g->x= .inr v)/\(¬g->∃z,x= .inl (z,2))
theorem Res.bind{α β:Type}{x:dL⊕α}{g g' G:Prop}{v:α}{f:α->dL⊕β}{v':β}(h:Res x g v)(c:g->Res (f v) g' v')(d:G↔g/\g'):Res (bF x f) G v':=by
 constructor
 .intro e
  obtain⟨a,b⟩:=d.1 e
  rw[h.1 a]
  exact(c a).1 b
 intro e
 by_cases a:g
 .rw[h.1 a]
  exact(c a).2 fun b=>e (d.2 ⟨a,b⟩)
 obtain⟨z,k⟩:=h.2 a
 exact⟨z,by rw[k];rfl⟩
theorem Res.pure{α:Type}{x:dL⊕α}{g:Prop}{v:α}(a:g)(h:x= .inr v):Res x g v:=⟨fun _=>h,fun n=>absurd a n⟩
theorem qF{t:bH}{x:Ex}{j:Nat}{l:List Ex}(h:l.length+1<=256):iB t x (j,l)= .inr ((j,l++[x]),l.length):=by
 unfold iB
 rw[if_neg (by show ¬l.length=256;omega)]
def PL(ts:List bH)(ps:List BA)(E:Ps->PM Nat):Nat->Ps->PM Nat
 |1=>zF ts ps E
 |2=>HP ts ps E
 |3=>HI ts ps E
 |_=>iP ts ps E
theorem LI(E:Ps->PM Nat){n:Nat}(a:1<=n)(b:n<=3)(p:Ps):PL ts ps E n p=oA ts n (PL ts ps E (n+1)) p:=by
 rcases(by omega:n=1\/n=2\/n=3) with rfl|rfl|rfl<;>rfl
def Fac(ts:List bH)(ps:List BA)(E:Ps->PM Nat)(n:Nat)(pf:Pf)(g:Prop)(t:Rose):Prop:=
 ∀i l bl,eS ts i (eY (pf bl))->NextOk n ts (i+(pf bl).length)->l.length+t.size<=256->Res (PL ts ps E n (i,l)) g ((i+(pf bl).length,l++t.flat l.length),l.length+t.size-1)
def Spi(ts:List bH)(ps:List BA)(E:Ps->PM Nat)(L:Nat)(pf:Pf)(g:Prop)(t:Rose):Prop:=
 ∀i l bl,eS ts i (eY (pf bl))->NextOk (L+1) ts (i+(pf bl).length)->l.length+t.size<=256->
  (g->∃n',ts.length+1<=n'+(pf bl).length/\oA ts L (PL ts ps E (L+1)) (i,l)=mN ts L (PL ts ps E (L+1)) n' (l.length+t.size-1) (i+(pf bl).length,l++t.flat l.length))/\
  (¬g->∃z,oA ts L (PL ts ps E (L+1)) (i,l)= .inl (z,2))
variable {E:Ps->PM Nat} {pf:Pf} {g:Prop} {t:Rose}
theorem RJ{L n x:Nat}{S:Ps->PM Nat}{p:Ps}(h:lS ts L p.1=0):mN ts L S (n+1) x p= .inr (p,x):=by
 unfold mN
 rw[if_pos h]
theorem Fac.lift{n:Nat}(a:1<=n)(b:n<=3)(h:Fac ts ps E (n+1) pf g t):Fac ts ps E n pf g t:=by
 intro i l bl e c d
 rw[LI E a b]
 unfold oA
 exact(h i l bl e (c.up (by omega)) d).bind (g':=True) (fun _=> .pure trivial (RJ (c.2.2 n (jJ n) a b))) (by simp)
theorem Fac.lifts{n m:Nat}(a:1<=m)(e:m<=n)(c:n<=4)(h:Fac ts ps E n pf g t):Fac ts ps E m pf g t:=by
 obtain⟨d,rfl⟩:∃d,n=m+d:=⟨n-m,by omega⟩
 induction d generalizing m with
 |zero=>exact h
 |succ d b=>
  have:=b (m:=m+1) (by omega) (by omega) (by omega) (by rw[show m+1+d=m+(d+1) by omega];exact h)
  exact Fac.lift a (by omega) this
theorem Fac.spi{L:Nat}(h:Fac ts ps E (L+1) pf g t):Spi ts ps E L pf g t:=by
 intro i l bl d c b
 obtain⟨f,k⟩:=h i l bl d c b
 constructor
 .intro a
  refine⟨ts.length+1,by omega,?_⟩
  unfold oA
  rw[f a]
  rfl
 intro a
 obtain⟨z,e⟩:=k a
 exact⟨z,by unfold oA;rw[e];rfl⟩
theorem Spi.fac{L:Nat}(b:1<=L)(c:L<=3)(h:Spi ts ps E L pf g t):Fac ts ps E L pf g t:=by
 intro i l bl k a f
 obtain⟨n,o⟩:=h i l bl k (a.up (by omega)) f
 rw[LI E b c]
 constructor
 .intro e
  obtain⟨n',p,d⟩:=n e
  have:=a.1
  obtain⟨m,rfl⟩:∃m,n'=m+1:=⟨n'-1,by omega⟩
  rw[d,RJ (a.2.2 L (jJ L) b c)]
 exact o
end
theorem IZ:((4,⟨#[41]⟩,0):lI)∈xI:= .head _
theorem qBc:((4,⟨#[44]⟩,0):lI)∈xI:= .tail _ (.head _)
theorem qDe:((4,⟨#[59]⟩,0):lI)∈xI:= .tail _ (.tail _ (.head _))
theorem qEb:((1,⟨#[116,104,101,110]⟩,0):lI)∈xI:= .tail _ (.tail _ (.tail _ (.head _)))
theorem qCu:((1,⟨#[101,108,115,101]⟩,0):lI)∈xI:= .tail _ (.tail _ (.tail _ (.tail _ (.head _))))
theorem KL(h:Hd):∃n:Nat,cJ h=(n:Int)/\n<=4:=by
 unfold cJ
 split
 .exact⟨0,rfl,by decide⟩
 split
 .split
  .exact⟨1,rfl,by decide⟩
  split
  .exact⟨2,rfl,by decide⟩
  exact⟨3,rfl,by decide⟩
 exact⟨4,rfl,by decide⟩
theorem UV(h:Hd)(ks:List Rose)(need:Int)(d:Nat):(Rose.mk h ks).dep need d=max (if cJ h<need then d+1 else d) (iF h 0 (if h.1=4 then(if cJ h<need then d+1 else d) else(if cJ h<need then d+1 else d)+1) ks):=by unfold Rose.dep;rfl
theorem tG{h:Hd}{ks:List Rose}{need:Int}{d:Nat}(a:¬cJ h<need):(Rose.mk h ks).dep need d=max d (iF h 0 (if h.1=4 then d else d+1) ks):=by
 rw[UV];simp only[if_neg a]
theorem KK{h:Hd}{ks:List Rose}{need:Int}{d:Nat}(a:cJ h<need):(Rose.mk h ks).dep need d=(Rose.mk h ks).dep 0 (d+1):=by
 obtain⟨n,e,-⟩:=KL h
 rw[UV,tG (need:=0) (by omega)];simp only[if_pos a]
section
variable (ts:List bH) (ps:List BA)
def EF(k d:Nat)(t:Rose):Prop:=∀i l bl,eS ts i (eY (t.pc ps 0 bl))->NextOk 1 ts (i+(t.pc ps 0 bl).length)->l.length+t.size<=256->Res (cG ts ps k (i,l)) (t.dep 0 d<=32) ((i+(t.pc ps 0 bl).length,l++t.flat l.length),l.length+t.size-1)
structure Pk(t:Rose):Prop where
 p0:∀k d,k+d=33->EF ts ps k d t
 en:∀k d,k+d=32->∀n:Nat,2<=n->n<=4->Fac ts ps (cG ts ps k) n (fun bl=>t.pc ps (n:Int) bl) (t.dep (n:Int) d<=32) t
 es:∀k d,k+d=32->∀L:Nat,2<=L->L<=3->Spi ts ps (cG ts ps k) L (fun bl=>t.pc ps (L:Int) bl) (t.dep (L:Int) d<=32) t
end
section
variable {ts:List bH} {ps:List BA}
theorem sK{h:Hd}{ks:List Rose}{need:Int}(a:¬cJ h<need)(bl:List UInt8):(Rose.mk h ks).pc ps need bl=nA ps h (eO ps h 0 ks) bl:=by rw[HT,if_neg a]
theorem DR{h:Hd}{ks:List Rose}{need:Int}(a:cJ h<need)(bl:List UInt8):(Rose.mk h ks).pc ps need bl=bL [40] []::((Rose.mk h ks).pc ps 0 []++[bL [41] bl]):=by
 obtain⟨n,e,-⟩:=KL h
 rw[HT,if_pos a,sK (by omega)]
theorem KP{t:Rose}{k d:Nat}(r:k+d=32)(f:EF ts ps k (d+1) t):Fac ts ps (cG ts ps k) 4 (fun bl=>bL [40] []::(t.pc ps 0 []++[bL [41] bl])) (t.dep 0 (d+1)<=32) t:=by
 intro i l bl o e n
 simp only[jB,j9,jD] at e ⊢
 obtain⟨b,c⟩:=o
 obtain⟨c,a⟩:=pF c
 obtain⟨a,-⟩:=a
 have p:=e.1
 have g:=f (i+1) l [] c (wG IZ a (by omega) 1) n
 have h:PL ts ps (cG ts ps k) 4 (i,l)=bF (cG ts ps k (i+1,l)) fun q=>bF (eK ts sClose q.1.1) fun j=> .inr ((j,q.1.2),q.2):=by
  show iP ts ps (cG ts ps k) (i,l)=_
  unfold iP
  dsimp only
  rw[if_neg (by rw[qW b];show ¬(4:Int)=2;decide),if_neg (by rw[CY b (by decide+kernel)];decide),if_pos (wD (s:=sOpen) b rfl)]
 rw[h]
 refine g.bind (g':=True) (fun _=> .pure trivial ?_) (by simp)
 refine Eq.trans (congrArg (fun z=>bF z _) (mI (s:=sClose) a rfl)) ?_
 show Sum.inr _=Sum.inr _
 rw[show i+1+(t.pc ps 0 []).length+1=i+((t.pc ps 0 []).length+(0+1)+1) by omega]
theorem qHd(t:Rose)(d:Nat):d<=t.dep 0 d:=by
 cases t with
 |mk h ks=>
  obtain⟨n,e,-⟩:=KL h
  rw[tG (by omega)]
  exact Nat.le_max_left ..
theorem UM{t:Rose}{d:Nat}(a:0+d=33):EF ts ps 0 d t:=by
 intro i l bl _ _ _
 have:=qHd t d
 refine⟨fun g=>by omega,fun _=>⟨(aC ts i).2.2.2,?_⟩⟩
 rfl
theorem DY{h:Hd}{ks:List Rose}{lv:Nat}(t:cJ h=(lv:Int))(s:1<=lv)(o:lv<=4)
  (p:∀i bl,eS ts i (eY ((Rose.mk h ks).pc ps 0 bl))->cD ts 1 nL i=false)
  (g:∀k d,k+d=32->Fac ts ps (cG ts ps k) lv (fun bl=>(Rose.mk h ks).pc ps 0 bl) ((Rose.mk h ks).dep 0 d<=32) (.mk h ks))
  (q:∀k d,k+d=32->lv=2\/lv=3->Spi ts ps (cG ts ps k) lv (fun bl=>(Rose.mk h ks).pc ps 0 bl) ((Rose.mk h ks).dep 0 d<=32) (.mk h ks)):Pk ts ps (.mk h ks):=by
 have f:∀k d,k+d=33->EF ts ps k d (.mk h ks):=by
  intro k d b
  cases k with
  |zero=>exact UM b
  |succ k=>
   intro i l bl c a r
   rw[cG,if_neg (by rw[p i bl c];decide)]
   exact(g k d (by omega)).lifts (jJ 1) s o i l bl c a r
 have un:∀{n:Nat},n<=lv->(fun bl=>(Rose.mk h ks).pc ps (n:Int) bl)=fun bl=>(Rose.mk h ks).pc ps 0 bl:=fun {n} a=>by
  funext bl
  rw[sK (by omega),sK (by omega)]
 have und:∀{n d:Nat},n<=lv->(Rose.mk h ks).dep (n:Int) d=(Rose.mk h ks).dep 0 d:=fun {n d} a=>by
  rw[tG (by omega),tG (by omega)]
 have pr:∀{n:Nat},lv<n->(fun bl=>(Rose.mk h ks).pc ps (n:Int) bl)=fun bl=>bL [40] []::((Rose.mk h ks).pc ps 0 []++[bL [41] bl]):=fun {n} a=>by
  funext bl
  rw[DR (by omega)]
 have c:∀k d,k+d=32->∀n:Nat,lv<n->Fac ts ps (cG ts ps k) 4 (fun bl=>(Rose.mk h ks).pc ps (n:Int) bl) ((Rose.mk h ks).dep (n:Int) d<=32) (.mk h ks):=fun k d b n a=>by
  rw[pr a,KK (by omega)]
  exact KP b (f k (d+1) (by omega))
 refine⟨f,fun k d b n u r=> ?_,fun k d b L L2 L3=> ?_⟩
 .by_cases a:n<=lv
  .rw[un a,und a]
   exact(g k d b).lifts (by omega) a o
  exact(c k d b n (by omega)).lifts (by omega) r (by omega)
 by_cases a:L<=lv
 .rw[un a,und a]
  by_cases e:L=lv
  .subst e
   exact q k d b (by omega)
  exact((g k d b).lifts (m:=L+1) (by omega) (by omega) o).spi
 exact((c k d b L (by omega)).lifts (m:=L+1) (by omega) (by omega) (by omega)).spi
theorem GR{h:Hd}(c:cJ h=4)
  (o:∀i bl,eS ts i (eY (nA ps h [] bl))->cD ts 1 nL i=false)
  (n:∀k i l bl,eS ts i (eY (nA ps h [] bl))->NextOk 4 ts (i+(nA ps h [] bl).length)->l.length+1<=256->iP ts ps (cG ts ps k) (i,l)= .inr ((i+(nA ps h [] bl).length,l++[dK h []]),l.length)):Pk ts ps (.mk h []):=by
 have e:∀bl,(Rose.mk h []).pc ps 0 bl=nA ps h [] bl:=fun bl=>sK (by omega) bl
 refine DY (lv:=4) c (by decide) (by decide) (fun i bl a=>o i bl (by rw[<-e];exact a)) (fun k d p=> ?_) fun _ _ _ h=>by omega
 intro i l bl a f b
 simp only[e] at a f ⊢
 have g:(Rose.mk h []).size=1:=rfl
 rw[g] at b ⊢
 refine .pure ?_ (n k i l bl a f b)
 rw[tG (by omega)]
 show max d 0<=32
 omega
theorem CZ{s:BA}(h:cP s=true):s∉[sRead,sSize,sHas,sEnv,sFlip]/\oQ s=false/\s≠nL:=by
 unfold cP at h
 simp only[jI,Bool.not_eq_true'] at h
 have a:¬s∈DS:=by
  have:=h.2
  unfold oQ at this
  exact of_decide_eq_false this
 refine⟨fun g=>a ?_,h.2,fun g=>a ?_⟩
 .simp only[jT,kW,hH] at g
  unfold DS
  simp only[jT,kW,hH]
  rcases g with g|g|g|g|g<;>simp[g]
 rw[g];unfold DS
 simp
section
variable {i:Nat} {l:List Ex} {E:Ps->PM Nat}
theorem qK{w:List UInt8}(h:cW (aC ts i)=dJ (1,w))(a:(⟨⟨w⟩⟩:BA)≠nL):cD ts 1 nL i=false:=by
 rw[nZ (lJ h),gD a];rfl
theorem KN{w:List UInt8}(h:cW (aC ts i)=dJ (4,w)):cD ts 1 nL i=false:=by
 rw[nZ (GB h)];rfl
theorem TW{w:List UInt8}(h:cW (aC ts i)=dJ (2,w)):cD ts 1 nL i=false:=by
 rw[nZ h];rfl
theorem qEw{n:Nat}(c:n<=9007199254740992)(h:cW (aC ts i)=dJ (2,Lib.decDigits n))(b:l.length+1<=256):iP ts ps E (i,l)= .inr ((i+1,l++[(1,(n:Int),0,⟨#[]⟩,[])]),l.length):=by
 unfold iP
 dsimp only
 have a:=GG c h
 rw[if_pos (qW a),qF b,tk3 a]
theorem qEs{n:Nat}(d:n<=9007199254740992)(h:cW (aC ts i)=dJ (4,[45]))(b:cW (aC ts (i+1))=dJ (2,Lib.decDigits n))(c:l.length+1<=256):iP ts ps E (i,l)= .inr ((i+1+1,l++[(1,-(n:Int),0,⟨#[]⟩,[])]),l.length):=by
 unfold iP
 dsimp only
 have a:=GG d b
 rw[if_neg (by rw[qW h];show ¬(4:Int)=2;decide),if_pos (wD (s:=sMinus) h rfl)]
 unfold mC
 rw[if_pos (qW a)]
 show iB (aC ts i) (1,IntKind.wrap .i64 (0-(aC ts (i+1)).2.2.1),0,⟨#[]⟩,[]) (i+1+1,l)=_
 have e3:(aC ts (i+1)).2.2.1=(n:Int):=tk3 a
 rw[qF c,e3,bT (by omega) (by omega),Int.zero_sub]
theorem DC{w:List UInt8}(h:cW (aC ts i)=dJ (1,w)):iP ts ps E (i,l)=
  if(⟨⟨w⟩⟩:BA)∈[sRead,sSize,sHas,sEnv,sFlip] then nP ts E (aC ts i) (i+1,l)
  else if oQ ⟨⟨w⟩⟩ then eX (aC ts i) 9
  else if cD ts 4 sOpen (i+1) then bF (oY ts E (i+1,l)) fun q=>iB (aC ts i) (3,0,0,⟨⟨w⟩⟩,q.2) q.1
  else match ps.findIdx? (fun x=>decide (x=⟨⟨w⟩⟩)) with
   |some j=>iB (aC ts i) (2,(j:Int),0,⟨#[]⟩,[]) (i+1,l)
   |none=>eX (aC ts i) 9:=by
 unfold iP
 dsimp only
 have a:=lJ h
 rw[if_neg (by rw[qW a];show ¬(1:Int)=2;decide),if_neg (by rw[nZ a];exact jY),if_neg (by rw[nZ a];exact jY),if_neg (by rw[qW a];exact fun h=>h rfl),nH a]
 first
 |done
 |rfl
end
end
section
variable {ts:List bH} {ps:List BA} {i:Nat} {l:List Ex} {E:Ps->PM Nat}
theorem GL{c:lI}{k:Int}(h:cW (aC ts i)=c)(a:c.1=k):mC ts k i= .inr (i+1,aC ts i):=by
 unfold mC
 rw[if_pos ((qW h).trans a)]
theorem GJ{w:List UInt8}(h:cW (aC ts i)=dJ (3,w))(a:lL w=true):nT ts i= .inr (i+1,aC ts i):=by
 unfold nT
 rw[GL (wE h) rfl]
 simp only[bF]
 have e:(aC ts i).2.1=⟨⟨w⟩⟩:=nH (wE h)
 rw[e,if_pos a]
theorem qBi{s:BA}(h:cW (aC ts i)=dJ (3,s.data.toList))(a:iT s=true):wZ ts i= .inr (i+1,aC ts i):=by
 unfold wZ
 rw[GL (wE h) rfl]
 simp only[bF]
 have e:(aC ts i).2.1=s:=nH (wE h)
 rw[e,if_pos a]
theorem qCh{w:List UInt8}{k:Int}{s:BA}(n:(⟨⟨w⟩⟩:BA)=sSize/\k=7/\lL s.data.toList=true\/(⟨⟨w⟩⟩:BA)=sHas/\k=8/\lL s.data.toList=true\/(⟨⟨w⟩⟩:BA)=sEnv/\k=9/\iT s=true)
  (h:cW (aC ts i)=dJ (1,w)) (e:cW (aC ts (i+1))=dJ (4,[40])) (c:cW (aC ts (i+1+1))=dJ (3,s.data.toList)) (f:cW (aC ts (i+1+1+1))=dJ (4,[41])) (g:l.length+1<=256):
  iP ts ps E (i,l)= .inr ((i+1+1+1+1,l++[(k,0,0,s,[])]),l.length):=by
 have d:(aC ts i).2.1=⟨⟨w⟩⟩:=nH (lJ h)
 have e3:(aC ts (i+1+1)).2.1=s:=nH (wE c)
 rw[DC h]
 rcases n with ⟨a,rfl,b⟩|⟨a,rfl,b⟩|⟨a,rfl,b⟩
 .rw[if_pos (by rw[a];decide+kernel)]
  unfold nP
  dsimp only
  rw[mI (s:=sOpen) e rfl]
  simp only[bF]
  rw[d,a,if_neg (by decide+kernel),if_pos rfl,GJ c b]
  simp only[bF]
  rw[mI (s:=sClose) f rfl]
  simp only[bF]
  rw[qF g,e3]
 .rw[if_pos (by rw[a];decide+kernel)]
  unfold nP
  dsimp only
  rw[mI (s:=sOpen) e rfl]
  simp only[bF]
  rw[d,a,if_neg (by decide+kernel),if_neg (by decide+kernel),if_pos rfl,GJ c b]
  simp only[bF]
  rw[mI (s:=sClose) f rfl]
  simp only[bF]
  rw[qF g,e3]
 rw[if_pos (by rw[a];decide+kernel)]
 unfold nP
 dsimp only
 rw[mI (s:=sOpen) e rfl]
 simp only[bF]
 rw[d,a,if_neg (by decide+kernel),if_neg (by decide+kernel),if_neg (by decide+kernel),if_pos rfl,qBi c b]
 simp only[bF]
 rw[mI (s:=sClose) f rfl]
 simp only[bF]
 rw[qF g,e3]
theorem qDh{n:Nat}(g:n<64)(a:cW (aC ts i)=dJ (1,uQ))(d:cW (aC ts (i+1))=dJ (4,[40]))(b:cW (aC ts (i+1+1))=dJ (2,Lib.decDigits n))(e:cW (aC ts (i+1+1+1))=dJ (4,[41]))(f:l.length+1<=256):
  iP ts ps E (i,l)= .inr ((i+1+1+1+1,l++[(10,(n:Int),0,⟨#[]⟩,[])]),l.length):=by
 have c:(aC ts i).2.1=sFlip:=nH (lJ a)
 have e3:(aC ts (i+1+1)).2.2.1=(n:Int):=tk3 (GG (by omega) b)
 rw[DC a,if_pos (by decide+kernel)]
 unfold nP
 dsimp only
 rw[mI (s:=sOpen) d rfl]
 simp only[bF]
 rw[c,if_neg (by decide+kernel),if_neg (by decide+kernel),if_neg (by decide+kernel),if_neg (by decide+kernel),GL (GG (by omega) b) rfl]
 simp only[bF]
 rw[e3,if_neg (by omega)]
 simp only
 rw[mI (s:=sClose) e rfl]
 simp only[bF]
 rw[qF f]
theorem qHf{n:Int}(f: -9007199254740992<=n)(g:n<=9007199254740992):Pk ts ps (.mk (1,n,0,emB) []):=by
 have e:∀bl,nA ps (1,n,0,emB) [] bl=oN n bl:=fun bl=>rfl
 refine GR rfl (fun i bl a=> ?_) fun k i l bl a h b=> ?_
 .rw[e] at a
  unfold oN at a
  split at a
  .exact KN a.1
  exact TW a.1
 rw[e] at a ⊢
 unfold oN at a ⊢
 split at a
 .rename_i hneg
  rw[if_pos hneg]
  obtain⟨c,d,-⟩:=a
  rw[qEs (n:=n.natAbs) (by omega) c d b,show-(n.natAbs:Int)=n by omega]
  rfl
 rename_i hneg
 rw[if_neg hneg]
 rw[qEw (n:=n.toNat) (by omega) a.1 b,show(n.toNat:Int)=n by omega]
 rfl
theorem qGx{j:Nat}(d:j<ps.length)(h:∀s∈ps,cP s=true)(b:ps.findIdx? (fun x=>decide (x=ps.getD j ⟨#[]⟩))=some j):Pk ts ps (.mk (2,(j:Int),0,emB) []):=by
 have e:∀bl,nA ps (2,(j:Int),0,emB) [] bl=[cA (ps.getD j ⟨#[]⟩).data.toList bl]:=fun bl=>rfl
 have c:ps.getD j ⟨#[]⟩∈ps:=by
  rw[jP,List.getElem?_eq_getElem d]
  exact jX d
 obtain⟨n,o,p⟩:=CZ (h _ c)
 generalize ps.getD j ⟨#[]⟩=s at e n o p b
 refine GR rfl (fun i bl a=> ?_) fun k i l bl a f q=> ?_
 .rw[e] at a
  exact qK a.1 p
 rw[e] at a f ⊢
 have g:cD ts 4 sOpen (i+1)=false:=f.2.1
 rw[DC a.1,if_neg n,if_neg (by rw[show oQ (⟨⟨s.data.toList⟩⟩:BA)=false from o];exact jY),if_neg (by rw[g];exact jY)]
 rw[show ps.findIdx? (fun x=>decide (x=(⟨⟨s.data.toList⟩⟩:BA)))=some j from b]
 simp only
 rw[qF q]
 rfl
theorem TI{k:Int}{s:BA}(c:(k=7\/k=8)/\lL s.data.toList=true\/k=9/\iT s=true):Pk ts ps (.mk (k,0,0,s) []):=by
 have hk':k=7\/k=8\/k=9:=by
  rcases c with ⟨h|h,-⟩|⟨h,-⟩
  .exact .inl h
  .exact .inr (.inl h)
  exact .inr (.inr h)
 have e:∀bl,nA ps (k,0,0,s) [] bl=[cA (iS k).data.toList [],bL [40] [],nU s.data.toList [],bL [41] bl]:=fun bl=>by
  rcases hk' with rfl|rfl|rfl<;>rfl
 have f:(⟨⟨(iS k).data.toList⟩⟩:BA)≠nL:=by rcases hk' with rfl|rfl|rfl<;>decide+kernel
 refine GR (by rcases hk' with rfl|rfl|rfl<;>rfl) (fun i bl a=> ?_) fun r i l bl a q d=> ?_
 .rw[e] at a
  exact qK a.1 f
 rw[e] at a ⊢
 obtain⟨g,n,o,p,-⟩:=a
 refine Eq.trans (qCh (k:=k) (s:=s) ?_ g n o p d) rfl
 rcases c with ⟨rfl|rfl,b⟩|⟨rfl,b⟩
 .exact .inl ⟨rfl,rfl,b⟩
 .exact .inr (.inl ⟨rfl,rfl,b⟩)
 exact .inr (.inr ⟨rfl,rfl,b⟩)
theorem qFq{n:Nat}(c:n<64):Pk ts ps (.mk (10,(n:Int),0,emB) []):=by
 have e:∀bl,nA ps (10,(n:Int),0,emB) [] bl=[cA uQ [],bL [40] [],((2,Lib.decDigits n),[]),bL [41] bl]:=fun bl=>by
  show cA uQ []::bL [40] []::(oN (n:Int) []++[bL [41] bl])=_
  unfold oN
  rw[if_neg (by omega),jU]
  rfl
 refine GR rfl (fun i bl a=> ?_) fun k i l bl a _ b=> ?_
 .rw[e] at a
  exact qK a.1 (by decide+kernel)
 rw[e] at a ⊢
 obtain⟨d,f,g,h,-⟩:=a
 exact Eq.trans (qDh c d f g h b) rfl
end
section
variable {ts:List bH} {ps:List BA}
theorem qJa(h:Hd)(a b:Rose)(d:Nat):iF h 0 d [a,b]=max (a.dep (cN h 0) d) (max (b.dep (cN h 1) d) 0):=rfl
theorem LW{op:Int}(a:1<=op)(b:op<=7):cJ (4,0,op,emB)=(pH op:Int)/\1<=pH op/\pH op<=3:=by
 rcases(by omega:op=1\/op=2\/op=3\/op=4\/op=5\/op=6\/op=7) with rfl|rfl|rfl|rfl|rfl|rfl|rfl<;>decide+kernel
theorem LT(h:Hd)(a b:Rose)(n:Nat):(Rose.mk h [a,b]).flat n=a.flat n++b.flat (n+a.size)++[dK h [((n+a.size-1:Nat):Int),((n+a.size+b.size-1:Nat):Int)]]:=by
 show(a.flat n++(b.flat (n+a.size)++[]))++_=_
 rw[jS];rfl
theorem LP(h:Hd)(a b c:Rose)(n:Nat):(Rose.mk h [a,b,c]).flat n=a.flat n++b.flat (n+a.size)++c.flat (n+a.size+b.size)++[dK h [((n+a.size-1:Nat):Int),((n+a.size+b.size-1:Nat):Int),((n+a.size+b.size+c.size-1:Nat):Int)]]:=by
 show(a.flat n++(b.flat (n+a.size)++(c.flat (n+a.size+b.size)++[])))++_=_
 rw[jS,<-jC];rfl
theorem LR(h:Hd)(a:Rose)(n:Nat):(Rose.mk h [a]).flat n=a.flat n++[dK h [((n+a.size-1:Nat):Int)]]:=by
 show(a.flat n++[])++_=_
 rw[jS];rfl
theorem HL(h:Hd)(a b:Rose):(Rose.mk h [a,b]).size=a.size+b.size+1:=by show a.size+(b.size+0)+1=_;omega
theorem qIk(h:Hd)(a b c:Rose):(Rose.mk h [a,b,c]).size=a.size+b.size+c.size+1:=by show a.size+(b.size+(c.size+0))+1=_;omega
theorem qIh(h:Hd)(a:Rose):(Rose.mk h [a]).size=a.size+1:=by show a.size+0+1=_;omega
theorem qGv{op:Int}{a b:Rose}(G:1<=op)(H:op<=7)(V:Pk ts ps a)(hb:Pk ts ps b)(U:∀n:Nat,1<=n->∀i bl,eS ts i (eY (a.pc ps (n:Int) bl))->cD ts 1 nL i=false):Pk ts ps (.mk (4,0,op,emB) [a,b]):=by
 obtain⟨e,D,E⟩:=LW G H
 generalize hL:pH op=L at e D E
 -- what the operands need
 obtain⟨nl,enl,nl2,nl3⟩:∃nl:Nat,cN (4,0,op,emB) 0=(nl:Int)/\(L=1->nl=2)/\(L≠1->nl=L):=by
  unfold cN
  rw[if_pos rfl,if_pos rfl,e]
  by_cases h:L=1
  .exact⟨2,by rw[if_pos (by omega)];rfl,fun _=>rfl,fun g=>absurd h g⟩
  exact⟨L,by rw[if_neg (by omega)],fun g=>absurd g h,fun _=>rfl⟩
 have enr:cN (4,0,op,emB) 1=((L+1:Nat):Int):=by
  unfold cN
  rw[if_pos rfl,if_neg (by decide),e];rfl
 have y:∀bl,(Rose.mk (4,0,op,emB) [a,b]).pc ps 0 bl=a.pc ps (nl:Int) [32]++(bL (mM op).data.toList [32]::b.pc ps ((L+1:Nat):Int) bl):=fun bl=>by
  rw[sK (by omega),<-enl,<-enr];rfl
 have v:∀d,d<=32->((Rose.mk (4,0,op,emB) [a,b]).dep 0 d<=32↔a.dep (nl:Int) d<=32/\b.dep ((L+1:Nat):Int) d<=32):=fun d K=>by
  rw[tG (by omega),if_pos rfl,qJa,enl,enr];omega
 -- the operator and the second operand
 have tail:∀k d,k+d=32->∀i l bl m,eS ts i (eY (bL (mM op).data.toList [32]::b.pc ps ((L+1:Nat):Int) bl))->NextOk (L+1) ts (i+(1+(b.pc ps ((L+1:Nat):Int) bl).length))->a.size<=l.length->l.length+b.size+1<=256->
   ∀x:Nat,(b.dep ((L+1:Nat):Int) d<=32->mN ts L (PL ts ps (cG ts ps k) (L+1)) (m+1) x (i,l)=if L=1 then .inr ((i+(1+(b.pc ps ((L+1:Nat):Int) bl).length),l++b.flat l.length++[(4,0,op,⟨#[]⟩,[(x:Int),((l.length+b.size-1:Nat):Int)])]),l.length+b.size)
    else mN ts L (PL ts ps (cG ts ps k) (L+1)) m (l.length+b.size) (i+(1+(b.pc ps ((L+1:Nat):Int) bl).length),l++b.flat l.length++[(4,0,op,⟨#[]⟩,[(x:Int),((l.length+b.size-1:Nat):Int)])]))/\
   (¬b.dep ((L+1:Nat):Int) d<=32->∃z,mN ts L (PL ts ps (cG ts ps k) (L+1)) (m+1) x (i,l)= .inl (z,2)):=by
  intro k d o i l bl m f c S B x
  obtain⟨A,t⟩:=f
  obtain⟨-,u⟩:=TA G H A
  have F:lS ts L i=op:=by rw[u L D E,if_pos hL]
  have p:=hb.en k d o (L+1) (by omega) (by omega) (i+1) l bl t (by rw[show i+1+(b.pc ps ((L+1:Nat):Int) bl).length=i+(1+(b.pc ps ((L+1:Nat):Int) bl).length) by omega];exact c) (by omega)
  have R:mN ts L (PL ts ps (cG ts ps k) (L+1)) (m+1) x (i,l)=bF (PL ts ps (cG ts ps k) (L+1) (i+1,l)) fun q=>bF (iB (aC ts i) (4,0,op,⟨#[]⟩,[(x:Int),(q.2:Int)]) q.1) fun r=>if L=1 then .inr r else mN ts L (PL ts ps (cG ts ps k) (L+1)) m r.2 r.1:=by
   conv=>lhs;unfold mN
   dsimp only
   rw[F,if_neg (by omega)]
  rw[R]
  constructor
  .intro s
   rw[p.1 s]
   simp only[bF]
   have fl:(b.flat l.length).length=b.size:=eF ..
   rw[qF (by rw[j9,fl];omega)]
   simp only[j9,fl]
   rw[show i+1+(b.pc ps ((L+1:Nat):Int) bl).length=i+(1+(b.pc ps ((L+1:Nat):Int) bl).length) by omega]
  intro s
  obtain⟨z,M⟩:=p.2 s
  exact⟨z,by rw[M];rfl⟩
 have p:∀n,(a.flat n).length=a.size:=fun n=>eF ..
 have nxt:∀{i:Nat},cW (aC ts i)=dJ (4,(mM op).data.toList)->i<ts.length->NextOk (L+1) ts i:=fun {i} f hi=>by
  obtain⟨S,u⟩:=TA G H f
  exact⟨hi,S,fun L' Y F R=>by rw[u L' F R,if_neg (by omega)]⟩
 have S:∀i bl,eS ts i (eY ((Rose.mk (4,0,op,emB) [a,b]).pc ps 0 bl))->cD ts 1 nL i=false:=fun i bl f=>by
  rw[y] at f
  refine U nl ?_ i [32] (pF f).1
  by_cases h:L=1
  .rw[nl2 h];decide
  rw[nl3 h];omega
 have fin:∀(l:List Ex) (x:Nat),x=l.length+a.size-1->l++a.flat l.length++b.flat (l++a.flat l.length).length++[((4,0,op,⟨#[]⟩,[(x:Int),(((l++a.flat l.length).length+b.size-1:Nat):Int)]):Ex)]=l++(Rose.mk (4,0,op,emB) [a,b]).flat l.length:=fun l x hx=>by
  rw[LT,j9,p,hx]
  simp only[jC]
  rfl
 by_cases h1L:L=1
 .-- a comparison
  subst h1L
  obtain rfl:=nl2 rfl
  refine DY (lv:=1) e (by decide) (by decide) S (fun k d o=> ?_) fun _ _ _ h=>by omega
  intro i l bl f c B
  simp only[y] at f c ⊢
  rw[HL] at B
  obtain⟨A,t⟩:=pF f
  simp only[j9,jB] at c ⊢
  have F:=V.en k d o 2 (by decide) (by decide) i l [32] A (nxt t.1 (by have:=c.1;show i+(a.pc ps ((2:Nat):Int) [32]).length<ts.length;omega)) (by omega)
  have u:=tail k d o (i+(a.pc ps ((2:Nat):Int) [32]).length) (l++a.flat l.length) bl ts.length t (by rw[show i+(a.pc ps ((2:Nat):Int) [32]).length+(1+(b.pc ps ((1+1:Nat):Int) bl).length)=i+((a.pc ps ((2:Nat):Int) [32]).length+((b.pc ps ((1+1:Nat):Int) bl).length+1)) by omega];exact c.up (by decide)) (by rw[j9,p];omega) (by rw[j9,p];omega) (l.length+a.size-1)
  rw[LI _ (by decide) (by decide)]
  unfold oA
  refine F.bind (g':=b.dep ((1+1:Nat):Int) d<=32) (fun _=> ?_) (v d (by omega))
  refine⟨fun s=> ?_,u.2⟩
  have:=u.1 s
  rw[if_pos rfl] at this
  refine Eq.trans this ?_
  rw[fin l _ rfl,HL,j9,p]
  show Sum.inr _=Sum.inr _
  have:=a.pos
  rw[show i+(a.pc ps ((2:Nat):Int) [32]).length+(1+(b.pc ps ((1+1:Nat):Int) bl).length)=i+((a.pc ps ((2:Nat):Int) [32]).length+((b.pc ps ((1+1:Nat):Int) bl).length+1)) by omega,show l.length+(a.size+b.size+1)-1=l.length+a.size+b.size by omega]
 -- a sum or a term
 obtain rfl:=nl3 h1L
 have spi:∀k d,k+d=32->Spi ts ps (cG ts ps k) nl (fun bl=>(Rose.mk (4,0,op,emB) [a,b]).pc ps 0 bl) ((Rose.mk (4,0,op,emB) [a,b]).dep 0 d<=32) (.mk (4,0,op,emB) [a,b]):=by
  intro k d o i l bl f c B
  simp only[y] at f c ⊢
  rw[HL] at B
  obtain⟨A,t⟩:=pF f
  simp only[j9,jB] at c ⊢
  obtain⟨R,Y⟩:=V.es k d o nl (by omega) E i l [32] A (nxt t.1 (by have:=c.1;show i+(a.pc ps (nl:Int) [32]).length<ts.length;omega)) (by omega)
  dsimp only at R Y
  have a4:=c.1
  have K:=v d (by omega)
  have u:=fun m=>tail k d o (i+(a.pc ps (nl:Int) [32]).length) (l++a.flat l.length) bl m t (by rw[show i+(a.pc ps (nl:Int) [32]).length+(1+(b.pc ps ((nl+1:Nat):Int) bl).length)=i+((a.pc ps (nl:Int) [32]).length+((b.pc ps ((nl+1:Nat):Int) bl).length+1)) by omega];exact c) (by rw[j9,p];omega) (by rw[j9,p];omega) (l.length+a.size-1)
  constructor
  .intro s
   obtain⟨ga,gb⟩:=K.1 s
   obtain⟨n',Z,F⟩:=R ga
   obtain⟨m,rfl⟩:∃m,n'=m+1:=⟨n'-1,by omega⟩
   refine⟨m,by omega,?_⟩
   rw[F,(u m).1 gb,if_neg h1L,fin l _ rfl,HL,j9,p]
   rw[show i+(a.pc ps (nl:Int) [32]).length+(1+(b.pc ps ((nl+1:Nat):Int) bl).length)=i+((a.pc ps (nl:Int) [32]).length+((b.pc ps ((nl+1:Nat):Int) bl).length+1)) by omega,show l.length+(a.size+b.size+1)-1=l.length+a.size+b.size by omega]
  intro s
  by_cases ga:a.dep (nl:Int) d<=32
  .obtain⟨n',Z,F⟩:=R ga
   obtain⟨m,rfl⟩:∃m,n'=m+1:=⟨n'-1,by omega⟩
   obtain⟨z,M⟩:=(u m).2 fun gb=>s (K.2 ⟨ga,gb⟩)
   exact⟨z,by rw[F,M]⟩
  exact Y ga
 exact DY (lv:=nl) e D (by omega) S (fun k d o=>(spi k d o).fac D E) fun k d o _=>spi k d o
end
section
variable {ts:List bH} {ps:List BA}
def Pn(ts:List bH)(ps:List BA)(t:Rose):Prop:=∀n:Nat,1<=n->∀i bl,eS ts i (eY (t.pc ps (n:Int) bl))->cD ts 1 nL i=false
theorem tM{h:Hd}{ks:List Rose}(b:1<=cJ h->∀i bl,eS ts i (eY (nA ps h (eO ps h 0 ks) bl))->cD ts 1 nL i=false):Pn ts ps (.mk h ks):=by
 intro n c i bl a
 by_cases hl:cJ h<(n:Int)
 .rw[DR hl] at a
  exact KN a.1
 rw[sK hl] at a
 exact b (by omega) i bl a
theorem Res.step{α β:Type}{x:dL⊕α}{v:α}{f:α->dL⊕β}{g:Prop}{w:β}(h:x= .inr v)(r:Res (f v) g w):Res (bF x f) g w:=by
 rw[h];exact r
theorem qGz{a b c:Rose}(v:Pk ts ps a)(y:Pk ts ps b)(z:Pk ts ps c):Pk ts ps (.mk (5,0,0,emB) [a,b,c]):=by
 have E:cJ (5,0,0,emB)=0:=rfl
 have r:∀bl,(Rose.mk (5,0,0,emB) [a,b,c]).pc ps 0 bl=cA AM [32]::(a.pc ps 0 [32]++(cA zZ [32]::(b.pc ps 0 [32]++(cA zQ [32]::c.pc ps 0 bl)))):=fun bl=>by
  rw[sK (by omega)];rfl
 have p:∀d,d<=32->((Rose.mk (5,0,0,emB) [a,b,c]).dep 0 d<=32↔a.dep 0 (d+1)<=32/\(b.dep 0 (d+1)<=32/\(c.dep 0 (d+1)<=32/\True))):=fun d F=>by
  have e:(Rose.mk (5,0,0,emB) [a,b,c]).dep 0 d=max d (max (a.dep 0 (d+1)) (max (b.dep 0 (d+1)) (max (c.dep 0 (d+1)) 0))):=by
   rw[tG (by omega)];rfl
  rw[e];simp only[dH];omega
 have h:∀k d,k+d=33->EF ts ps k d (.mk (5,0,0,emB) [a,b,c]):=by
  intro k d g
  cases k with
  |zero=>exact UM g
  |succ k=>
   intro i l bl t o A
   rw[r] at t o ⊢
   simp only[jB,j9] at o ⊢
   rw[qIk] at A ⊢
   obtain⟨D,f⟩:=t
   obtain⟨sa,f⟩:=pF f
   obtain⟨st,f⟩:=f
   obtain⟨sb,f⟩:=pF f
   obtain⟨se,sc⟩:=f
   have B:=o.1
   have fa:(a.flat l.length).length=a.size:=eF ..
   have q:cD ts 1 nL i=true:=by rw[nZ (lJ D)];rfl
   rw[cG,if_pos q]
   have RA:=v.p0 k (d+1) (by omega) (i+1) l [32] sa (wG qEb st (by omega) 1) (by omega)
   refine RA.bind (fun _=> ?_) (p d (by omega))
   dsimp only
   refine Res.step (JO (s:=sThen) st rfl) ?_
   have RB:=y.p0 k (d+1) (by omega) (i+1+(a.pc ps 0 [32]).length+1) (l++a.flat l.length) [32] sb (wG qCu se (by omega) 1) (by rw[j9,fa];omega)
   refine Res.bind (x:=cG ts ps k (i+1+(a.pc ps 0 [32]).length+1,l++a.flat l.length)) RB (fun _=> ?_) Iff.rfl
   dsimp only
   refine Res.step (JO (s:=sElse) se rfl) ?_
   have fb:(b.flat (l++a.flat l.length).length).length=b.size:=eF ..
   have fc:∀n,(c.flat n).length=c.size:=fun n=>eF ..
   have RC:=z.p0 k (d+1) (by omega) (i+1+(a.pc ps 0 [32]).length+1+(b.pc ps 0 [32]).length+1) ((l++a.flat l.length)++b.flat (l++a.flat l.length).length) bl sc (by
    rw[show i+1+(a.pc ps 0 [32]).length+1+(b.pc ps 0 [32]).length+1+(c.pc ps 0 bl).length=i+((a.pc ps 0 [32]).length+((b.pc ps 0 [32]).length+((c.pc ps 0 bl).length+1)+1)+1) by omega]
    exact o) (by rw[j9,fb,j9,fa];omega)
   refine Res.bind (x:=cG ts ps k (i+1+(a.pc ps 0 [32]).length+1+(b.pc ps 0 [32]).length+1,(l++a.flat l.length)++b.flat (l++a.flat l.length).length)) RC (fun _=> .pure trivial ?_) Iff.rfl
   dsimp only
   have pa:=a.pos
   have pb:=b.pos
   have pc:=c.pos
   rw[qF (by simp only[j9,fa,fb,fc];simp only[j9,fa] at fb;omega)]
   simp only[j9,fa,fc]
   rw[show(b.flat (l.length+a.size)).length=b.size from eF ..]
   rw[LP]
   have u:i+1+(a.pc ps 0 [32]).length+1+(b.pc ps 0 [32]).length+1+(c.pc ps 0 bl).length=i+((a.pc ps 0 [32]).length+((b.pc ps 0 [32]).length+((c.pc ps 0 bl).length+1)+1)+1):=by omega
   rw[u,show l.length+(a.size+b.size+c.size+1)-1=l.length+a.size+b.size+c.size by omega]
   simp only[jC]
   rfl
 refine⟨h,fun k d g n o f=> ?_,fun k d g L L2 L3=> ?_⟩
 .have e:(fun bl=>(Rose.mk (5,0,0,emB) [a,b,c]).pc ps (n:Int) bl)=fun bl=>bL [40] []::((Rose.mk (5,0,0,emB) [a,b,c]).pc ps 0 []++[bL [41] bl]):=by
   funext bl;rw[DR (by omega)]
  rw[e,KK (by omega)]
  exact(KP g (h k (d+1) (by omega))).lifts (by omega) f (by omega)
 have e:(fun bl=>(Rose.mk (5,0,0,emB) [a,b,c]).pc ps (L:Int) bl)=fun bl=>bL [40] []::((Rose.mk (5,0,0,emB) [a,b,c]).pc ps 0 []++[bL [41] bl]):=by
  funext bl;rw[DR (by omega)]
 rw[e,KK (by omega)]
 exact((KP g (h k (d+1) (by omega))).lifts (m:=L+1) (by omega) (by omega) (by omega)).spi
theorem qFx{s:BA}{a:Rose}(y:lL s.data.toList=true)(t:Pk ts ps a):Pk ts ps (.mk (6,0,0,s) [a]):=by
 have n:cJ (6,0,0,s)=4:=rfl
 have c:∀bl,(Rose.mk (6,0,0,s) [a]).pc ps 0 bl=cA zO []::bL [40] []::nU s.data.toList []::bL [44] [32]::(a.pc ps 0 []++[bL [41] bl]):=fun bl=>by
  rw[sK (by omega)];rfl
 refine DY (lv:=4) n (by decide) (by decide) (fun i bl b=>by rw[c] at b;exact qK b.1 (by decide+kernel)) (fun k d E=> ?_) fun _ _ _ h=>by omega
 have f:(Rose.mk (6,0,0,s) [a]).dep 0 d<=32↔a.dep 0 (d+1)<=32/\True:=by
  have e:(Rose.mk (6,0,0,s) [a]).dep 0 d=max d (max (a.dep 0 (d+1)) 0):=by
   rw[tG (by omega)];rfl
  rw[e];simp only[dH];omega
 intro i l bl b g v
 simp only[c] at b g ⊢
 simp only[jB,j9,jD] at g ⊢
 rw[qIh] at v ⊢
 obtain⟨o,A,p,B,D⟩:=b
 obtain⟨sa,sz,-⟩:=pF D
 have x:=g.1
 have r:(aC ts i).2.1=sRead:=nH (lJ o)
 have e3:(aC ts (i+1+1)).2.1=s:=nH (wE p)
 have fa:(a.flat l.length).length=a.size:=eF ..
 have u:PL ts ps (cG ts ps k) 4 (i,l)=bF (cG ts ps k (i+1+1+1+1,l)) fun q=>bF (eK ts sClose q.1.1) fun j=>iB (aC ts i) (6,0,0,s,[(q.2:Int)]) (j,q.1.2):=by
  show iP ts ps (cG ts ps k) (i,l)=_
  rw[DC o,if_pos (by decide+kernel)]
  unfold nP
  dsimp only
  rw[mI (s:=sOpen) A rfl]
  simp only[bF]
  rw[r,if_pos rfl,GJ p y]
  simp only[bF]
  rw[mI (s:=sComma) B rfl]
  simp only[bF]
  rw[e3]
  cases cG ts ps k (i+1+1+1+1,l) with
  |inl z=>rfl
  |inr q=>rfl
 rw[u]
 have RA:=t.p0 k (d+1) (by omega) (i+1+1+1+1) l [] sa (wG IZ sz (by omega) 1) (by omega)
 refine RA.bind (fun _=> .pure trivial ?_) f
 dsimp only
 refine Eq.trans (congrArg (fun z=>bF z _) (mI (s:=sClose) sz rfl)) ?_
 simp only[bF]
 have pa:=a.pos
 rw[qF (by rw[j9,fa];omega),LR,j9,fa]
 rw[show i+1+1+1+1+(a.pc ps 0 []).length+1=i+((a.pc ps 0 []).length+(0+1)+1+1+1+1) by omega,show l.length+(a.size+1)-1=l.length+a.size by omega,<-jC]
 rfl
end
section
variable {ts:List bH} {ps:List BA}
def Pz(ts:List bH)(ps:List BA)(t:Rose):Prop:=∀(n:Nat) i bl,eS ts i (eY (t.pc ps (n:Int) bl))->cD ts 4 sClose i=false
theorem tN{h:Hd}{ks:List Rose}(b:∀i bl,eS ts i (eY (nA ps h (eO ps h 0 ks) bl))->cD ts 4 sClose i=false):Pz ts ps (.mk h ks):=by
 intro n i bl a
 by_cases hl:cJ h<(n:Int)
 .rw[DR hl] at a
  exact CY a.1 (by decide+kernel)
 rw[sK hl] at a
 exact b i bl a
theorem uL{i:Nat}{w:List UInt8}(h:cW (aC ts i)=dJ (1,w)):cD ts 4 sClose i=false:=by
 rw[nZ (lJ h)];rfl
theorem qHo{i:Nat}{w:List UInt8}(h:cW (aC ts i)=dJ (2,w)):cD ts 4 sClose i=false:=by
 rw[nZ h];rfl
theorem NS{n:Int}{i:Nat}{bl:List UInt8}(a:eS ts i (eY (oN n bl))):cD ts 1 nL i=false/\cD ts 4 sClose i=false:=by
 unfold oN at a
 split at a
 .exact⟨KN a.1,CY a.1 (by decide+kernel)⟩
 exact⟨TW a.1,qHo a.1⟩
theorem PW:∀(ws:List Pf) (j:Nat),ws.length<=(iI (j+1) ws).length
 |[],_=>kE _
 |w::ws,j=>by
  have:=PW ws (j+1)
  show ws.length+1<=((if j+1=0 then[] else[bL [44] [32]])++(w []++iI (j+1+1) ws)).length
  rw[if_neg (by omega)]
  simp only[j9,jB,jD]
  omega
theorem RZ(s:BA){k d:Nat}(g:k+(d+1)=33):∀(ks:List Rose) (t:Rose) (m j:Nat) (acc:List Int) (i:Nat) (l:List Ex) (bl:List UInt8),(∀u∈t::ks,Pk ts ps u)->
  eS ts i (eY (t.pc ps 0 []++(iI (j+1) (eO ps (3,0,0,s) (j+1) ks)++[bL [41] bl])))->i+((t.pc ps 0 []).length+((iI (j+1) (eO ps (3,0,0,s) (j+1) ks)).length+1))<ts.length->l.length+t.size+aL ks<=256->ks.length<m->
  Res (qT ts (cG ts ps k) m acc (i,l)) (max (t.dep 0 (d+1)) (iF (3,0,0,s) (j+1) (d+1) ks)<=32) ((i+((t.pc ps 0 []).length+((iI (j+1) (eO ps (3,0,0,s) (j+1) ks)).length+1)),l++(t.flat l.length++cC (l.length+t.size) ks)),acc++bQ l.length (t::ks))
 |_,_,0,_,_,_,_,_,_,_,_,_,h=>absurd h (kQ _)
 |[],t,m+1,j,acc,i,l,bl,f,c,b,n,_=>by
  obtain⟨o,a⟩:=pF c
  have a:cW (aC ts (i+(t.pc ps 0 []).length))=dJ (4,[41]):=a.1
  have x:(iI (j+1) (eO ps (3,0,0,s) (j+1) [])).length=0:=rfl
  rw[x] at b ⊢
  have e:aL []=0:=rfl
  rw[e] at n
  have RA:=(f t (jG ..)).p0 k (d+1) g i l [] o (wG IZ a (by omega) 1) (by omega)
  unfold qT
  refine RA.bind (g':=True) (fun _=> .pure trivial ?_) (by show max _ 0<=32↔_;simp only[dH];omega)
  dsimp only
  rw[if_neg (by rw[CY a (by decide+kernel)];exact jY)]
  refine Eq.trans (congrArg (fun z=>bF z _) (mI (s:=sClose) a rfl)) ?_
  simp only[bF]
  show Sum.inr _=Sum.inr _
  rw[show cC (l.length+t.size) []=[] from rfl,jS,kG,<-gG]
  rfl
 |u::us,t,m+1,j,acc,i,l,bl,f,c,b,n,y=>by
  have p:iI (j+1) (eO ps (3,0,0,s) (j+1) (u::us))=bL [44] [32]::(u.pc ps 0 []++iI (j+1+1) (eO ps (3,0,0,s) (j+1+1) us)):=by
   show(if j+1=0 then[] else[bL [44] [32]])++(u.pc ps (cN (3,0,0,s) (j+1)) []++iI (j+1+1) (eO ps (3,0,0,s) (j+1+1) us))=_
   rw[if_neg (by omega)];rfl
  rw[p] at c b ⊢
  rw[jR,jC] at c
  simp only[jB,j9] at b ⊢
  have e:aL (u::us)=u.size+aL us:=rfl
  rw[e] at n
  obtain⟨o,a⟩:=pF c
  obtain⟨a,B⟩:=a
  have a:cW (aC ts (i+(t.pc ps 0 []).length))=dJ (4,[44]):=a
  have ft:(t.flat l.length).length=t.size:=eF ..
  have RA:=(f t (jG ..)).p0 k (d+1) g i l [] o (wG qBc a (by omega) 1) (by omega)
  have RB:=RZ s g us u m (j+1) (acc++[((l.length+t.size-1:Nat):Int)]) (i+(t.pc ps 0 []).length+1) (l++t.flat l.length) bl (fun v A=>f v (jK _ A)) B (by omega) (by rw[j9,ft];omega) (by simp only[jB] at y;omega)
  unfold qT
  refine RA.bind (fun _=> ?_) (g':=max (u.dep 0 (d+1)) (iF (3,0,0,s) (j+1+1) (d+1) us)<=32) (by show max _ (max (u.dep 0 (d+1)) _)<=32↔_;omega)
  dsimp only
  rw[if_pos (wD (s:=sComma) a rfl)]
  rw[j9,ft] at RB
  have q:i+(t.pc ps 0 []).length+1+((u.pc ps 0 []).length+((iI (j+1+1) (eO ps (3,0,0,s) (j+1+1) us)).length+1))=i+((t.pc ps 0 []).length+((u.pc ps 0 []).length+(iI (j+1+1) (eO ps (3,0,0,s) (j+1+1) us)).length+1+1)):=by omega
  rw[q] at RB
  have r:l++t.flat l.length++(u.flat (l.length+t.size)++cC (l.length+t.size+u.size) us)=l++(t.flat l.length++cC (l.length+t.size) (u::us)):=by
   rw[jC];rfl
  rw[r] at RB
  have e3:acc++[((l.length+t.size-1:Nat):Int)]++bQ (l.length+t.size) (u::us)=acc++bQ l.length (t::u::us):=by
   rw[jC];rfl
  rw[e3] at RB
  exact RB
theorem qEn{s:BA}{ks:List Rose}(h:cP s=true)(o:∀t∈ks,Pk ts ps t/\Pz ts ps t):Pk ts ps (.mk (3,0,0,s) ks):=by
 have F:cJ (3,0,0,s)=4:=rfl
 obtain⟨S,U,V⟩:=CZ h
 have x:∀bl,(Rose.mk (3,0,0,s) ks).pc ps 0 bl=cA s.data.toList []::bL [40] []::(iI 0 (eO ps (3,0,0,s) 0 ks)++[bL [41] bl]):=fun bl=>by
  rw[sK (by omega)];rfl
 refine DY (lv:=4) F (by decide) (by decide) (fun i bl y=>by rw[x] at y;exact qK y.1 V) (fun k d Z=> ?_) fun _ _ _ h=>by omega
 intro i l bl y p z
 have g:(Rose.mk (3,0,0,s) ks).flat l.length=cC l.length ks++[dK (3,0,0,s) (bQ l.length ks)]:=by unfold Rose.flat;rfl
 have b:(Rose.mk (3,0,0,s) ks).size=aL ks+1:=rfl
 have n:(Rose.mk (3,0,0,s) ks).dep 0 d=max d (iF (3,0,0,s) 0 (d+1) ks):=by rw[tG (by omega)];rfl
 simp only[x] at y p ⊢
 rw[b] at z
 rw[g,b,n]
 simp only[jB,j9,jD] at p ⊢
 obtain⟨Y,H,e⟩:=y
 have f:=p.1
 have E:PL ts ps (cG ts ps k) 4 (i,l)=bF (oY ts (cG ts ps k) (i+1,l)) fun q=>iB (aC ts i) (3,0,0,s,q.2) q.1:=by
  show iP ts ps (cG ts ps k) (i,l)=_
  rw[DC Y,if_neg S,if_neg (by rw[show oQ (⟨⟨s.data.toList⟩⟩:BA)=false from U];exact jY),if_pos (wD (s:=sOpen) H rfl)]
 have D:oY ts (cG ts ps k) (i+1,l)=if cD ts 4 sClose (i+1+1) then .inr ((i+1+1+1,l),[]) else qT ts (cG ts ps k) (ts.length+1) [] (i+1+1,l):=by
  unfold oY
  dsimp only
  rw[mI (s:=sOpen) H rfl]
  rfl
 rw[E,D]
 cases ks with
 |nil=>
  have e:cW (aC ts (i+1+1))=dJ (4,[41]):=e.1
  have A:(iI 0 (eO ps (3,0,0,s) 0 [])).length=0:=rfl
  rw[A] at p ⊢
  have c:aL []=0:=rfl
  rw[c] at z
  rw[if_pos (wD (s:=sClose) e rfl)]
  refine .pure (by show max d 0<=32;omega) ?_
  simp only[bF]
  rw[qF (by omega),show i+1+1+1=i+(0+(0+1)+1+1) by omega]
  rfl
 |cons u us=>
  have B:iI 0 (eO ps (3,0,0,s) 0 (u::us))=u.pc ps 0 []++iI (0+1) (eO ps (3,0,0,s) (0+1) us):=rfl
  rw[B] at e f ⊢
  simp only[j9] at f ⊢
  rw[jC] at e
  have R:cD ts 4 sClose (i+1+1)=false:=(o u (jG ..)).2 0 (i+1+1) [] (pF e).1
  rw[if_neg (by rw[R];exact jY)]
  have c:aL (u::us)=u.size+aL us:=rfl
  rw[c] at z
  have A:=PW (eO ps (3,0,0,s) (0+1) us) 0
  have G:(eO ps (3,0,0,s) (0+1) us).length=us.length:=by
   clear A f e B x o g b n p z c E D
   generalize 0+1=j
   induction us generalizing j with
   |nil=>rfl
   |cons a r K=>show(eO ps (3,0,0,s) (j+1) r).length+1=_;rw[K];rfl
  rw[G] at A
  have RA:=RZ s (k:=k) (d:=d) (by omega) us u (ts.length+1) 0 [] (i+1+1) l bl (fun v M=>(o v M).1) e (by omega) (by omega) (by omega)
  refine RA.bind (g':=True) (fun _=> .pure trivial ?_) (by show max d (max (u.dep 0 (d+1)) _)<=32↔_;simp only[dH];omega)
  dsimp only
  have fl:(u.flat l.length++cC (l.length+u.size) us).length=u.size+aL us:=by
   rw[j9,eF,oI]
  rw[qF (by rw[j9,fl];omega),j9,fl]
  have K:i+1+1+((u.pc ps 0 []).length+((iI (0+1) (eO ps (3,0,0,s) (0+1) us)).length+1))=i+((u.pc ps 0 []).length+(iI (0+1) (eO ps (3,0,0,s) (0+1) us)).length+(0+1)+1+1):=by omega
  rw[K,jC,c,show l.length+(u.size+aL us+1)-1=l.length+(u.size+aL us) by omega]
  rfl
theorem qFi(r:∀s∈ps,cP s=true)(v:∀j,j<ps.length->ps.findIdx? (fun x=>decide (x=ps.getD j ⟨#[]⟩))=some j){t:Rose}(B:Fine ps.length t):Pk ts ps t/\Pn ts ps t/\Pz ts ps t:=by
 induction B with
 |num n l o=>exact⟨qHf l o,tM fun _ i bl d=>(NS d).1,tN fun i bl d=>(NS d).2⟩
 |par i h=>
  have f:ps.getD i ⟨#[]⟩∈ps:=by
   rw[jP,List.getElem?_eq_getElem h]
   exact jX h
  exact⟨qGx h r (v i h),tM fun _ j bl d=>qK d.1 (CZ (r _ f)).2.2,tN fun j bl d=>uL d.1⟩
 |call s ks h q z=>exact⟨qEn h fun t y=>⟨(z t y).1,(z t y).2.2⟩,tM fun _ j bl d=>qK d.1 (CZ h).2.2,tN fun j bl d=>uL d.1⟩
 |bin op a b l o u p f g=>
  obtain⟨e,A,D⟩:=LW l o
  obtain⟨nl,enl,hnl⟩:∃nl:Nat,cN (4,0,op,emB) 0=(nl:Int)/\1<=nl:=by
   unfold cN
   rw[if_pos rfl,if_pos rfl,e]
   split
   .exact⟨2,rfl,by decide⟩
   exact⟨pH op,rfl,A⟩
  have p:∀bl,nA ps (4,0,op,emB) (eO ps (4,0,op,emB) 0 [a,b]) bl=a.pc ps (nl:Int) [32]++(bL (mM op).data.toList [32]::b.pc ps (cN (4,0,op,emB) 1) bl):=fun bl=>by
   rw[<-enl];rfl
  exact⟨qGv l o f.1 g.1 f.2.1,tM fun _ i bl d=>by rw[p] at d;exact f.2.1 nl hnl i [32] (pF d).1,tN fun i bl d=>by rw[p] at d;exact f.2.2 nl i [32] (pF d).1⟩
 |ite a b c u p D f g A=>exact⟨qGz f.1 g.1 A.1,tM fun h=>absurd h (by decide),tN fun i bl d=>uL d.1⟩
 |read s a h u f=>exact⟨qFx h f.1,tM fun _ i bl d=>qK d.1 (by decide+kernel),tN fun i bl d=>uL d.1⟩
 |look k s q h=>
  refine⟨TI (.inl ⟨q,h⟩),tM fun _ i bl d=> ?_,tN fun i bl d=> ?_⟩
  .rcases q with rfl|rfl
   .exact qK (w:=(iS 7).data.toList) d.1 (by decide+kernel)
   exact qK (w:=(iS 8).data.toList) d.1 (by decide+kernel)
  rcases q with rfl|rfl<;>exact uL d.1
 |env s h=>exact⟨TI (.inr ⟨rfl,h⟩),tM fun _ i bl d=>qK (w:=(iS 9).data.toList) d.1 (by decide+kernel),tN fun i bl d=>uL d.1⟩
 |flip n h=>exact⟨qFq h,tM fun _ i bl d=>qK d.1 (by decide+kernel),tN fun i bl d=>uL d.1⟩
end
theorem zG{α:Type}[DecidableEq α]:∀{l seen:List α},mD seen l=false->∀y∈l,y∉seen
 |[],_,_,y,a=>by cases a
 |x::l,seen,h,y,a=>by
  unfold mD at h
  simp only[kL,decide_eq_false_iff_not] at h
  rcases jT.1 a with rfl|a
  .exact h.1
  exact fun g=>zG h.2 y a (jW _ g)
theorem TN:∀{l seen:List BA},mD seen l=false->∀j,j<l.length->l.findIdx? (fun x=>decide (x=l.getD j ⟨#[]⟩))=some j
 |[],_,_,j,a=>by cases a
 |x::l,seen,h,0,_=>by
  rw[List.findIdx?_cons]
  have:decide (x=(x::l).getD 0 ⟨#[]⟩)=true:=kS rfl
  rw[if_pos this]
 |x::l,seen,h,j+1,a=>by
  have b:=h
  unfold mD at b
  simp only[kL] at b
  have a:j<l.length:=by simpa using a
  have e:(x::l).getD (j+1) ⟨#[]⟩=l.getD j ⟨#[]⟩:=rfl
  have c:x≠l.getD j ⟨#[]⟩:=fun g=>by
   have d:l.getD j ⟨#[]⟩∈l:=by
    rw[jP,List.getElem?_eq_getElem a]
    exact jX a
   refine zG b.2 _ d ?_
   rw[<-g]
   exact kH _ (jN.2 rfl)
  rw[List.findIdx?_cons,e,if_neg (by simpa using c),TN b.2 j a]
  rfl
def zU:List UInt8:=[102,117,110,99]
def DW:List UInt8:=[116,101,115,116]
def EE:List UInt8:=[103,101,110]
def LX:List UInt8:=[112,97,99,107,97,103,101]
def MB:List UInt8:=[105,109,112,111,114,116]
def iC:Nat->List BA->List Pc
 |_,[]=>[]
 |k,p::r=>(if k=0 then[] else[bL [44] [32]])++(cA p.data.toList []::iC (k+1) r)
def qN(d:Dl):List Pc:=
 if d.1=1 then cA zU [32]::cA d.2.1.data.toList []::bL [40] []::(iC 0 d.2.2.1++[bL [41] [32]])
 else if d.1=2 then[cA DW [32],cA d.2.1.data.toList [32]]
 else[cA EE [32],nU d.2.1.data.toList [32]]
def nR(d:Dl):List Pc:=match sL d.2.2.2 with
 |some t=>t.pc d.2.2.1 0 []
 |none=>[]
def lQ(d:Dl):List Pc:=qN d++(bL [61] [32]::(nR d++[bL [59] [10]]))
def oB(s:BA):List Pc:=[cA MB [32],cA s.data.toList [],bL [59] [10]]
def wU(f:Sr):List Pc:=cA LX [32]::cA f.1.data.toList []::bL [59] [10]::(f.2.1.flatMap oB++f.2.2.flatMap lQ)
structure OkD(d:Dl):Prop where
 good:GoodD d
 pars:d.2.2.1.length<=8
 body:d.2.2.2.length<=256
 dup:iK d.2.2.1=false
theorem OkD.tree{d:Dl}(h:OkD d):∃t,sL d.2.2.2=some t/\d.2.2.2=t.flat 0/\Fine d.2.2.1.length t:=by
 obtain⟨t,b,a⟩:=JU h.good.tree
 exact⟨t,b,a,qGm t 0 fun x c=>h.good.nodes x (by rw[a];exact c)⟩
theorem OkD.kind{d:Dl}(h:OkD d):(d.1=1\/d.1=2)/\cP d.2.1=true\/d.1=3/\lL d.2.1.data.toList=true:=by
 have:=h.good.head
 unfold rE at this
 split at this
 .rename_i g;exact .inl ⟨g,this⟩
 split at this
 .rename_i g;exact .inr ⟨g,this⟩
 cases this
theorem OkD.nopars{d:Dl}(h:OkD d)(a:d.1≠1):d.2.2.1=[]:=by
 cases hp:d.2.2.1 with
 |nil=>rfl
 |cons p r=>exact absurd (h.good.pars p (by rw[hp];exact jG ..)).1 a
theorem OkD.names{d:Dl}(h:OkD d):∀s∈d.2.2.1,cP s=true:=fun s a=>(h.good.pars s a).2
theorem YZ{d:Dl}(h:OkD d):cB (nR d)=rO d:=by
 obtain⟨t,a,-,b⟩:=h.tree
 unfold nR rO
 rw[a]
 simp only
 rw[qAq b,jS]
theorem OM:∀(l:List BA) (k:Nat),cB (iC k l)=lG k (l.map fun s=>s.data.toList)
 |[],_=>rfl
 |p::l,k=>by
  simp only[iC,jZ,lG,oX,cA,mY,pI,OM l,jL]
  congr 1
  unfold pO
  split
  .rfl
  rfl
theorem qGk(l:List UInt8):(eW l).data.toList=l:=rfl
theorem ZD{d:Dl}(h:OkD d):cB (lQ d)=lH d:=by
 unfold lQ lH
 rw[oX]
 have e:cB (qN d)=(tK d).data.toList++[32]:=by
  unfold qN tK
  by_cases h1:d.1=1
  .rw[if_pos h1,if_pos h1]
   simp only[cA,bL,mY,oX,OM,pI,pS,cB,mH,pM,rH,zU,jS,jL,jC,jR]
  rw[if_neg h1,if_neg h1]
  by_cases h2:d.1=2
  .rw[if_pos h2,if_pos h2]
   simp only[cA,mY,pI,cB,mH,pM,DW,jS,jL,jC,jR]
  rw[if_neg h2,if_neg h2]
  simp only[cA,nU,mY,pI,EJ,cB,mH,pM,EE,jS,jL,jC,jR]
 rw[e]
 simp only[bL,mY,oX,YZ h,pS,cB,mH,pM,qGk,jS,jL,jC,jR]
theorem qAd(s:BA):cB (oB s)=lV s:=by
 unfold oB lV
 simp only[cA,bL,mY,pI,pS,cB,mH,pM,MB,jS,jL,jC,jR]
theorem IQ{α:Type}(g:α->List Pc)(h:α->List UInt8):∀(l:List α),(∀x∈l,cB (g x)=h x)->cB (l.flatMap g)=l.flatMap h
 |[],_=>rfl
 |x::l,a=>by
  rw[kD,kD,oX,a x (jG ..),IQ g h l fun y b=>a y (jK _ b)]
theorem LO{f:Sr}(h:GoodS f):∀d∈f.2.2,OkD d:=fun d e=>by
 obtain⟨a,b,c,-⟩:=h.decs d e
 refine⟨a,b,c,?_⟩
 have:=h.once
 unfold tF at this
 simp only[kL,fZ] at this
 exact(Bool.not_eq_true _).mp (this.1 d e)
theorem YT{f:Sr}(h:GoodS f):cB (wU f)=nD f:=by
 unfold wU nD rK
 simp only[cA,bL,mY,oX,pI,pS,mH,pM,LX,jL,jC,jR]
 rw[IQ oB lV _ fun s _=>qAd s,IQ lQ lH _ fun d a=>ZD (LO h d a)]
theorem LY:sM [10]:=fun x h=>by rw[jN.1 h];kernel_rfl
theorem gdE{rest:List Pc}(a:eE rest):eE (bL [61] [32]::rest):=
 ⟨.inr (.inr (.inr ⟨rfl,by decide⟩)),nE,fun x r h=>by
  obtain⟨rfl,-⟩:=List.cons.inj (show 32::cB rest=x::r from h)
  kernel_rfl,a⟩
theorem qHj:nN (1,zU):= .inl ⟨rfl,⟨102,_,rfl,by kernel_rfl⟩,by decide+kernel,by decide⟩
theorem qHv:nN (1,DW):= .inl ⟨rfl,⟨116,_,rfl,by kernel_rfl⟩,by decide+kernel,by decide⟩
theorem qIv:nN (1,EE):= .inl ⟨rfl,⟨103,_,rfl,by kernel_rfl⟩,by decide+kernel,by decide⟩
theorem qIi:nN (1,LX):= .inl ⟨rfl,⟨112,_,rfl,by kernel_rfl⟩,by decide+kernel,by decide⟩
theorem qIo:nN (1,MB):= .inl ⟨rfl,⟨105,_,rfl,by kernel_rfl⟩,by decide+kernel,by decide⟩
theorem qCz{l:List BA}{k:Nat}{rest:List Pc}(a:oC (cB rest)=true):oC (cB (iC (k+1) l++rest))=true:=by
 cases l with
 |nil=>exact a
 |cons p r=>
  show oC (cB (((if k+1=0 then[] else[bL [44] [32]])++(cA p.data.toList []::iC (k+1+1) r))++rest))=true
  rw[if_neg (by omega)]
  kernel_rfl
theorem UD:∀(l:List BA) (k:Nat) (rest:List Pc),(∀s∈l,cP s=true)->oC (cB rest)=true->eE rest->eE (iC k l++rest)
 |[],_,_,_,_,b=>b
 |p::l,k,rest,d,a,b=>by
  have e:=UD l (k+1) rest (fun s a=>d s (jK _ a)) a b
  have c:eE (cA p.data.toList []::(iC (k+1) l++rest)):=mU (wM (wA (d p (jG ..)))) iJ (qCz a) e
  show eE (((if k=0 then[] else[bL [44] [32]])++(cA p.data.toList []::iC (k+1) l))++rest)
  rw[jC]
  split
  .exact c
  exact lN (by decide) (by decide) nE c
theorem qFf{d:Dl}(h:OkD d){rest:List Pc}(k:eE rest):eE (lQ d++rest):=by
 obtain⟨t,f,-,g⟩:=h.tree
 have e:∀s∈d.2.2.1,iT s=true:=fun s l=>wA (h.names s l)
 have a:eE (bL [61] [32]::((nR d++[bL [59] [10]])++rest)):=by
  refine gdE ?_
  unfold nR
  rw[f,jC]
  exact qFz e g 0 [] _ iJ (by kernel_rfl) (lN (by decide) (by decide) LY k)
 unfold lQ
 rw[jC,jR]
 generalize hR:bL [61] [32]::((nR d++[bL [59] [10]])++rest)=R at a
 unfold qN
 rcases h.kind with ⟨c,b⟩|⟨c,b⟩
 .by_cases k1:d.1=1
  .rw[if_pos k1]
   show eE (cA zU [32]::cA d.2.1.data.toList []::bL [40] []::((iC 0 d.2.2.1++[bL [41] [32]])++R))
   rw[jC]
   exact mU qHj nE (by kernel_rfl) (mU (wM (wA b)) iJ (by kernel_rfl) (lN (by decide) (by decide) iJ (UD _ 0 _ h.names (by kernel_rfl) (lN (by decide) (by decide) nE a))))
  rw[if_neg k1,if_pos (c.resolve_left k1)]
  exact mU qHv nE (by kernel_rfl) (mU (wM (wA b)) nE (by kernel_rfl) a)
 rw[if_neg (by omega),if_neg (by omega)]
 obtain⟨p1,p2⟩:=JQ b
 exact mU qIv nE (by kernel_rfl) (EK p1 p2 nE a)
theorem KQ{α:Type}(g:α->List Pc):∀(l:List α) (rest:List Pc),(∀x∈l,∀r,eE r->eE (g x++r))->eE rest->eE (l.flatMap g++rest)
 |[],_,_,a=>a
 |x::l,rest,b,a=>by
  rw[kD,jC]
  exact b x (jG ..) _ (KQ g l rest (fun y c=>b y (jK _ c)) a)
theorem qGr{f:Sr}(h:GoodS f):eE (wU f):=by
 have a:=KQ lQ f.2.2 [] (fun d a r b=>qFf (LO h d a) b) trivial
 rw[jS] at a
 have hi:=KQ oB f.2.1 (f.2.2.flatMap lQ) (fun s c r b=>mU qIo nE (by kernel_rfl) (mU (wM (wA (h.imps s c))) iJ (by kernel_rfl) (lN (by decide) (by decide) LY b))) a
 exact mU qIi nE (by kernel_rfl) (mU (wM (wA h.pkg)) iJ (by kernel_rfl) (lN (by decide) (by decide) LY hi))
section
variable {ts:List bH} {i:Nat}
theorem zD{s:BA}(h:cW (aC ts i)=dJ (1,s.data.toList))(a:cP s=true):nI ts i= .inr (i+1,aC ts i):=by
 unfold nI
 rw[GL (lJ h) rfl]
 simp only[bF]
 have e:(aC ts i).2.1=s:=nH (lJ h)
 rw[e,if_neg (by rw[(CZ a).2.1];exact jY)]
theorem TG:∀(l:List BA) (j:Nat),l.length<=(iC (j+1) l).length
 |[],_=>kE _
 |p::l,j=>by
  have:=TG l (j+1)
  show l.length+1<=((if j+1=0 then[] else[bL [44] [32]])++(cA p.data.toList []::iC (j+1+1) l)).length
  rw[if_neg (by omega)]
  simp only[j9,jB,jD]
  omega
theorem QK:∀(r:List BA) (p:BA) (n j:Nat) (acc:List BA) (i:Nat) (bl:List UInt8),(∀s∈p::r,cP s=true)->mD acc (p::r)=false->acc.length+r.length+1<=8->eS ts i (eY (cA p.data.toList []::(iC (j+1) r++[bL [41] bl])))->r.length<n->
  sJ ts n acc i= .inr (i+(1+(iC (j+1) r).length+1),acc++p::r)
 |_,_,0,_,_,_,_,_,_,_,_,h=>absurd h (kQ _)
 |[],p,n+1,j,acc,i,bl,g,b,f,c,_=>by
  obtain⟨d,k,-⟩:=c
  have e:(aC ts i).2.1=p:=nH (lJ d)
  have a:=zG b p (jG ..)
  unfold sJ
  rw[zD d (g p (jG ..))]
  simp only[bF]
  rw[if_neg (by simp only[jD] at f;omega),e,if_neg a,if_neg (by rw[CY k (by decide+kernel)];exact jY),mI (s:=sClose) k rfl]
  rfl
 |q::r,p,n+1,j,acc,i,bl,g,b,f,c,o=>by
  have l:iC (j+1) (q::r)=bL [44] [32]::(cA q.data.toList []::iC (j+1+1) r):=by
   show(if j+1=0 then[] else[bL [44] [32]])++(cA q.data.toList []::iC (j+1+1) r)=_
   rw[if_neg (by omega)];rfl
  rw[l] at c ⊢
  obtain⟨d,k,u⟩:=c
  have e:(aC ts i).2.1=p:=nH (lJ d)
  have a:=zG b p (jG ..)
  unfold mD at b
  simp only[kL] at b
  have t:=QK r q n (j+1) (acc++[p]) (i+1+1) bl (fun s c=>g s (jK _ c)) b.2 (by simp only[j9,jB,jD] at f ⊢;omega) u (by simp only[jB] at o;omega)
  unfold sJ
  rw[zD d (g p (jG ..))]
  simp only[bF]
  rw[if_neg (by simp only[jB] at f;omega),e,if_neg a,if_pos (wD (s:=sComma) k rfl),t]
  simp only[jB,jC,jR,jL]
  show Sum.inr _=Sum.inr _
  rw[show i+1+1+(1+(iC (j+1+1) r).length+1)=i+(1+((iC (j+1+1) r).length+1+1)+1) by omega]
theorem XM{l:List BA}{bl:List UInt8}(f:∀s∈l,cP s=true)(d:iK l=false)(e:l.length<=8)(g:eS ts i (eY (bL [40] []::(iC 0 l++[bL [41] bl]))))(b:i+(iC 0 l).length+2<ts.length):
  rY ts i= .inr (i+(1+(iC 0 l).length+1),l):=by
 obtain⟨h,a⟩:=g
 unfold rY
 rw[mI (s:=sOpen) h rfl]
 simp only[bF]
 cases l with
 |nil=>
  have a:cW (aC ts (i+1))=dJ (4,[41]):=a.1
  rw[if_pos (wD (s:=sClose) a rfl)]
  rfl
 |cons p r=>
  have c:iC 0 (p::r)=cA p.data.toList []::iC (0+1) r:=rfl
  rw[c] at a b ⊢
  have k:=TG r 0
  simp only[jB] at b e ⊢
  rw[if_neg (by rw[uL a.1];exact jY)]
  have:=QK r p (ts.length+1) 0 [] (i+1) bl f d (by simp only[jD];omega) a (by omega)
  rw[this,jL,show i+1+(1+(iC (0+1) r).length+1)=i+(1+((iC (0+1) r).length+1)+1) by omega]
end
theorem Res.stepR{α β:Type}{x:dL⊕α}{v:α}{f:α->dL⊕β}{g:Prop}{w:β}(h:x= .inr v)(r:Res (f v) g w):Res (bF x f) g w:=by
 rw[h];exact r
section
variable {ts:List bH}
theorem qDz{d:Dl}(h:OkD d){i:Nat}{k:Int}{nm:BA}(l:eS ts i (eY (bL [61] [32]::(nR d++[bL [59] [10]]))))(b:i+((nR d).length+1+1)<ts.length):
  Res (bF (eK ts sEq i) fun j=>bF (cG ts d.2.2.1 32 (j,[])) fun c=>bF (eK ts sSemi c.1.1) fun m=>(.inr (m,(k,nm,d.2.2.1,c.1.2)):dL⊕(Nat×Dl))) (iE d<=32) (i+((nR d).length+1+1),(k,nm,d.2.2.1,d.2.2.2)):=by
 obtain⟨t,f,g,p⟩:=h.tree
 have et:nR d=t.pc d.2.2.1 0 []:=by unfold nR;rw[f]
 have ed:iE d=t.dep 0 1:=by unfold iE;rw[f]
 rw[et] at l b ⊢
 rw[ed]
 obtain⟨r,e⟩:=l
 obtain⟨e,a⟩:=pF e
 have a:cW (aC ts (i+1+(t.pc d.2.2.1 0 []).length))=dJ (4,[59]):=a.1
 have q:=(qFi (ts:=ts) h.names (TN h.dup) p).1
 have n:t.size=d.2.2.2.length:=by
  have:=eF t 0
  rw[<-g] at this;exact this.symm
 have o:=h.body
 have RA:=q.p0 32 1 (by decide) (i+1) [] [] e (wG qDe a (by omega) 1) (by rw[n];simpa using h.body)
 refine Res.stepR (mI (s:=sEq) r rfl) ?_
 refine RA.bind (g':=True) (fun _=> .pure trivial ?_) (by simp)
 dsimp only
 rw[mI (s:=sSemi) a rfl]
 simp only[bF,jL,jD]
 rw[<-g,show i+1+(t.pc d.2.2.1 0 []).length+1=i+((t.pc d.2.2.1 0 []).length+1+1) by omega]
theorem qCe{d:Dl}(h:OkD d){i:Nat}{before:List Dl}(v:before.length<64)(e:before.any (fun x=>x.1==d.1&&decide (x.2.1=d.2.1))=false)(s:eS ts i (eY (lQ d)))(a:i+(lQ d).length<ts.length):
  Res (oD ts before i) (iE d<=32) (i+(lQ d).length,d):=by
 unfold lQ at s a ⊢
 simp only[j9,jB,jD] at a ⊢
 obtain⟨n,u⟩:=pF s
 have r:((d.1,d.2.1,d.2.2.1,d.2.2.2):Dl)=d:=rfl
 have T:=fun(j:Nat) (t:j=i+(qN d).length)=>qDz (ts:=ts) h (i:=j) (k:=d.1) (nm:=d.2.1) (by rw[t];exact u) (by omega)
 unfold oD
 dsimp only
 by_cases k1:d.1=1
 .have eh:qN d=cA zU [32]::cA d.2.1.data.toList []::bL [40] []::(iC 0 d.2.2.1++[bL [41] [32]]):=if_pos k1
  have q:cP d.2.1=true:=by
   rcases h.kind with ⟨-,g⟩|⟨g,-⟩
   .exact g
   omega
  rw[eh] at n T a ⊢
  simp only[j9,jB,jD] at T a ⊢
  obtain⟨b,c,f⟩:=n
  have o:(aC ts i).2.1=zW:=nH (lJ b)
  have p:(aC ts (i+1)).2.1=d.2.1:=nH (lJ c)
  have ek:eV (aC ts i).2.1=1:=by rw[o];decide+kernel
  rw[if_neg (by rw[ek,qW (lJ b)];show ¬((1:Int)≠1\/(1:Int)=0);decide),if_neg (by omega),ek,if_neg (by decide),zD c q]
  simp only[bF]
  rw[p,if_neg (by rw[<-k1,e];exact jY),if_pos trivial,XM h.names h.dup h.pars f (by omega)]
  simp only
  rw[<-k1]
  have:=T (i+1+1+(1+(iC 0 d.2.2.1).length+1)) (by omega)
  rw[show i+1+1+(1+(iC 0 d.2.2.1).length+1)+((nR d).length+1+1)=i+((iC 0 d.2.2.1).length+(0+1)+1+1+1+((nR d).length+(0+1)+1)) by omega] at this
  exact this
 have f:=h.nopars k1
 rcases h.kind with ⟨l,q⟩|⟨k3,q⟩
 .have l:d.1=2:=l.resolve_left k1
  have eh:qN d=[cA DW [32],cA d.2.1.data.toList [32]]:=by unfold qN;rw[if_neg k1,if_pos l]
  rw[eh] at n T a ⊢
  simp only[jB,jD] at T a ⊢
  obtain⟨b,c,-⟩:=n
  have o:(aC ts i).2.1=zP:=nH (lJ b)
  have p:(aC ts (i+1)).2.1=d.2.1:=nH (lJ c)
  have ek:eV (aC ts i).2.1=2:=by rw[o];decide+kernel
  rw[if_neg (by rw[ek,qW (lJ b)];show ¬((1:Int)≠1\/(2:Int)=0);decide),if_neg (by omega),ek,if_neg (by decide),zD c q]
  simp only[bF]
  rw[p,if_neg (by rw[<-l,e];exact jY),if_neg (by decide)]
  simp only
  have:=T (i+1+1) (by omega)
  rw[f,l,show i+1+1+((nR d).length+1+1)=i+(0+1+1+((nR d).length+(0+1)+1)) by omega] at this
  refine Eq.mp (congrArg (Res _ _) ?_) this
  rw[<-r,f,l]
 have eh:qN d=[cA EE [32],nU d.2.1.data.toList [32]]:=by unfold qN;rw[if_neg k1,if_neg (by omega)]
 rw[eh] at n T a ⊢
 simp only[jB,jD] at T a ⊢
 obtain⟨b,c,-⟩:=n
 have o:(aC ts i).2.1=AD:=nH (lJ b)
 have p:(aC ts (i+1)).2.1=d.2.1:=nH (wE c)
 have ek:eV (aC ts i).2.1=3:=by rw[o];decide+kernel
 rw[if_neg (by rw[ek,qW (lJ b)];show ¬((1:Int)≠1\/(3:Int)=0);decide),if_neg (by omega),ek,if_pos rfl,GJ c q]
 simp only[bF]
 rw[p,if_neg (by rw[<-k3,e];exact jY),if_neg (by decide)]
 simp only
 have:=T (i+1+1) (by omega)
 rw[f,k3,show i+1+1+((nR d).length+1+1)=i+(0+1+1+((nR d).length+(0+1)+1)) by omega] at this
 refine Eq.mp (congrArg (Res _ _) ?_) this
 rw[<-r,f,k3]
theorem PF:∀(ds before:List Dl) (n i:Nat),(∀d∈ds,OkD d)->before.length+ds.length<=64->mD (before.map qR) (ds.map qR)=false->eS ts i (eY (ds.flatMap lQ)++[((5,⟨#[]⟩,0):lI)])->i+(ds.flatMap lQ).length<ts.length->ds.length<n->
  Res (oK ts n before i) (∀d∈ds,iE d<=32) (before++ds)
 |_,_,0,_,_,_,_,_,_,h=>absurd h (kQ _)
 |[],before,n+1,i,_,_,_,e,_,_=>by
  have f:cW (aC ts i)=(5,⟨#[]⟩,0):=e.1
  unfold oK
  rw[if_pos (qW f),jS]
  exact .pure (fun d t=>by cases t) rfl
 |d::ds,before,n+1,i,g,u,a,e,c,v=>by
  rw[kD] at e c
  rw[GI,jC,wP] at e
  obtain⟨f,p⟩:=e
  have o:(eY (lQ d)).length=(lQ d).length:=gJ ..
  rw[o] at p
  rw[j9] at c
  simp only[jB] at u v
  have b:(aC ts i).1≠5:=by
   have k:∃w r,lQ d=cA w [32]::r:=by
    unfold lQ qN
    split
    .exact⟨_,_,rfl⟩
    split
    .exact⟨_,_,rfl⟩
    exact⟨_,_,rfl⟩
   obtain⟨w,r,l⟩:=k
   rw[l] at f
   rw[qW (lJ f.1)]
   show(1:Int)≠5
   decide
  have k:before.any (fun x=>x.1==d.1&&decide (x.2.1=d.2.1))=false:=by
   have:=zG a (qR d) (jG ..)
   rw[fZ]
   intro x l
   simp only[jI,kY,jA]
   rintro⟨q,s⟩
   exact this (fJ.2 ⟨x,l,Prod.ext q s⟩)
  rw[jZ] at a
  unfold mD at a
  simp only[kL] at a
  have RA:=qCe (ts:=ts) (g d (jG ..)) (i:=i) (before:=before) (by omega) k f (by omega)
  have RB:=PF ds (before++[d]) n (i+(lQ d).length) (fun x l=>g x (jK _ l)) (by simp only[j9,jB,jD];omega) (by rw[gM];exact a.2) p (by omega) (by omega)
  unfold oK
  rw[if_neg b]
  refine RA.bind (fun _=> ?_) (g':=∀x∈ds,iE x<=32) (by simp)
  rw[jC] at RB
  exact RB
theorem OA{pkg:BA}:∀(r acc:List BA) (n i:Nat) (c:lI),(∀s∈r,cP s=true)->acc.length+r.length<=8->mD acc r=false->pkg∉r->eS ts i (eY (r.flatMap oB)++[c])->(c.1==1&&decide (c.2.1=wN))=false->r.length<n->
  pK ts pkg n acc i= .inr (i+(r.flatMap oB).length,acc++r)
 |_,_,0,_,_,_,_,_,_,_,_,h=>absurd h (kQ _)
 |[],acc,n+1,i,c,_,_,_,_,b,d,_=>by
  have f:cW (aC ts i)=c:=b.1
  unfold pK
  rw[nZ f,d,if_neg jY,jS]
  rfl
 |s::r,acc,n+1,i,c,l,t,a,o,b,d,u=>by
  rw[kD,GI,jC,wP] at b
  obtain⟨⟨f,p,z,-⟩,A⟩:=b
  have q:(aC ts (i+1)).2.1=s:=nH (lJ p)
  have e:=zG a s (jG ..)
  unfold mD at a
  simp only[kL] at a
  simp only[jB] at t u
  have y:=OA (pkg:=pkg) r (acc++[s]) n (i+1+1+1) c (fun x v=>l x (jK _ v)) (by simp only[j9,jB,jD];omega) a.2 (fun g=>o (jK _ g)) A d (by omega)
  have k:cD ts 1 wN i=true:=by rw[nZ (lJ f)];decide+kernel
  unfold pK
  rw[if_pos k,if_neg (by omega),zD p (l s (jG ..))]
  simp only[bF]
  rw[q,if_neg (by
   rintro(g|g)
   .exact o (by rw[g];exact jG ..)
   exact e g),mI (s:=sSemi) z rfl]
  simp only
  rw[y,kD,j9,jC]
  show Sum.inr _=Sum.inr _
  rw[show i+1+1+1+(r.flatMap oB).length=i+((oB s).length+(r.flatMap oB).length) by show _=i+(3+_);omega]
  rfl
end
theorem UC{ts:List bH}:∀(cs:List lI) (j:Nat),(∀n,∀a:n<cs.length,cW (aC ts (j+n))=cs[n])->eS ts j cs
 |[],_,_=>trivial
 |c::cs,j,h=>⟨h 0 (by simp),UC cs (j+1) fun n a=>by
  have:=h (n+1) (by simpa using a)
  rw[show j+1+n=j+(n+1) by omega,this]
  rfl⟩
theorem qEl{ts:List bH}{cs:List lI}(h:ts.map cW=cs):eS ts 0 cs:=by
 subst h
 refine UC _ 0 fun n a=> ?_
 have a:n<ts.length:=by simpa using a
 rw[kG,List.getElem_map]
 unfold aC
 rw[jP,List.getElem?_eq_getElem a]
 rfl
theorem IX{α:Type}(g:α->List Pc)(k:Nat):∀(l:List α),(∀x∈l,k<=(g x).length)->k*l.length<=(l.flatMap g).length
 |[],_=>by simp
 |x::l,h=>by
  have b:=h x (jG ..)
  have c:=IX g k l fun y a=>h y (jK _ a)
  rw[kD,j9,jB,Nat.mul_add];omega
theorem NK(d:Dl):∃w r,lQ d=cA w [32]::r/\(w=zU\/w=DW\/w=EE):=by
 unfold lQ qN
 split
 .exact⟨_,_,rfl,.inl rfl⟩
 split
 .exact⟨_,_,rfl,.inr (.inl rfl)⟩
 exact⟨_,_,rfl,.inr (.inr rfl)⟩
theorem qDp{ts:List bH}{f:Sr}(h:GoodS f)(o:eS ts 0 (eY (wU f)++[((5,⟨#[]⟩,0):lI)]))(e:(wU f).length<ts.length):Res (rG ts) (∀d∈f.2.2,iE d<=32) f:=by
 have g:=h.once
 unfold tF at g
 simp only[kL,decide_eq_false_iff_not] at g
 obtain⟨-,t1,t2,v⟩:=g
 unfold wU at o e
 obtain⟨t,p,u,a⟩:=o
 have a:eS ts 3 (eY (f.2.1.flatMap oB++f.2.2.flatMap lQ)++[((5,⟨#[]⟩,0):lI)]):=a
 rw[GI,jC] at a
 simp only[jB,j9] at e
 have q:(aC ts (0+1)).2.1=f.1:=nH (lJ p)
 have li:=IX oB 1 f.2.1 fun s _=>by show 1<=3;decide
 have ld:=IX lQ 1 f.2.2 fun d _=>by
  obtain⟨w,r,b,-⟩:=NK d
  rw[b];simp
 have hi:∃c,eS ts 3 (eY (f.2.1.flatMap oB)++[c])/\(c.1==1&&decide (c.2.1=wN))=false:=by
  cases hd:f.2.2 with
  |nil=>
   rw[hd] at a
   exact⟨(5,⟨#[]⟩,0),a,rfl⟩
  |cons d ds=>
   rw[hd,kD] at a
   obtain⟨w,r,b,k⟩:=NK d
   rw[b] at a
   rw[wP] at a
   refine⟨dJ (1,w),wP.2 ⟨a.1,a.2.1,trivial⟩,?_⟩
   rcases k with rfl|rfl|rfl<;>decide+kernel
 obtain⟨c,k,l⟩:=hi
 have b:=OA (pkg:=f.1) f.2.1 [] (ts.length+1) 3 c h.imps (by simpa using h.impn) t2 t1 k l (by omega)
 rw[jL] at b
 have n:(eY (f.2.1.flatMap oB)).length=(f.2.1.flatMap oB).length:=gJ ..
 rw[wP,n] at a
 have RD:=PF f.2.2 [] (ts.length+1) (3+(f.2.1.flatMap oB).length) (LO h) (by simpa using h.decn) v a.2 (by omega) (by omega)
 rw[jL] at RD
 unfold rG
 refine Res.stepR (JO (s:=sPackage) t rfl) ?_
 refine Res.stepR (zD p h.pkg) ?_
 refine Res.stepR (mI (s:=sSemi) u rfl) ?_
 dsimp only
 rw[q]
 refine Res.stepR b ?_
 refine RD.bind (g':=True) (fun _=> .pure trivial rfl) (by simp)
theorem YV{f:Sr}(e:mK f=0)(c:(nD f).length<=16384):
  ((∀d∈f.2.2,iE d<=32)->iR ⟨⟨nD f⟩⟩=(f,0,0))/\(¬(∀d∈f.2.2,iE d<=32)->∃z,iR ⟨⟨nD f⟩⟩=(HO,z,2)):=by
 have a:=GK e
 rw[<-YT a] at c ⊢
 obtain⟨ts,t1,t2⟩:=XU c (qGr a)
 have b:(wU f).length<ts.length:=by
  have:=congrArg List.length t2
  simp only[gJ,j9,jB,jD] at this
  omega
 have R:=qDp a (qEl t2) b
 unfold iR
 rw[t1]
 simp only[ne_eq,not_true_eq_false,kA]
 constructor
 .intro h
  rw[R.1 h]
 intro h
 obtain⟨z,g⟩:=R.2 h
 exact⟨z,by rw[g]⟩
theorem OE:∀(ws:List (List UInt8)) (k:Nat),lG (k+1) ws=Lib.joinTail [44,32] ws
 |[],_=>rfl
 |w::ws,k=>by
  have a:=OE ws (k+1)
  show pO (k+1)++(w++lG (k+1+1) ws)=_
  rw[a]
  unfold pO
  rw[if_neg (by omega)]
  simp[Lib.joinTail]
theorem ZW(ws:List (List UInt8)):lG 0 ws=Lib.join ws [44,32]:=by
 cases ws with
 |nil=>rfl
 |cons w ws=>
  rw[Lib.join_cons,<-OE ws 0]
  rfl
theorem qEq(l:List BA):zT l (⟨#[44,32]⟩:BA)=rH l:=by
 refine TU ?_
 show Lib.join (l.map (·.data.toList)) [44,32]=lG 0 (l.map fun s=>s.data.toList)
 rw[ZW]
theorem qEf{N:Nat}{l:List BA}(d:l.length<=8)(c:∀s∈l,s.size<=24):rX N l (⟨#[44,32]⟩:BA)=some (rH l):=by
 by_cases h1:l.length<=1
 .exact qEj h1
 have b:=JR c
 have a:0<(rH l).size:=by
  match l,h1 with
  |x::y::r,_=>
   show 0<(lG 0 (x.data.toList::y.data.toList::r.map fun s=>s.data.toList)).length
   simp only[lG,j9]
   have:(pO (0+1)).length=2:=rfl
   omega
  |[],h=>exact absurd (kE 1) h
  |[x],h=>exact absurd (jJ 1) h
 unfold rX
 rw[if_pos (by omega)]
 unfold HK
 rw[qEq,if_pos ⟨a,by omega,by omega⟩]
theorem NU{N:Nat}{f:Sr}(h:SmSr f)(b:3000000<N):qD N f=some (if mK f=0 then uJ f else(⟨#[]⟩,mK f)):=
 ZZ h (fun c d e _=>by
  obtain⟨g,a,-,-⟩:=(GK c).decs d e
  exact qEf a fun s k=>sA (g.pars s k).2) b
def awT:BA:=⟨#[112,97,99,107,97,103,101,32,112,59,32,102,117,110,99,32,102,40,120,41,32,61,32,120,32,43,32,50,32,42,32,51,59]⟩
def awS:BA:=⟨#[112,97,99,107,97,103,101,32,112,59,10,102,117,110,99,32,102,40,120,41,32,61,32,120,32,43,32,50,32,42,32,51,59,10]⟩
def sO(a b:Int):Dl:=(1,⟨#[102]⟩,[⟨#[120]⟩],[(2,0,0,emB,[]),(1,a,0,emB,[]),(1,b,0,emB,[]),(4,0,3,emB,[1,2]),(4,0,1,emB,[0,3])])
def qV:Sr:=(⟨#[112]⟩,[],[sO 2 3])
theorem aw_p:iR awT=(qV,0,0):=by kernel_rfl
theorem TV:mK qV=0:=by kernel_rfl
theorem UU:SmSr qV:=by
 refine⟨by show 0<2000000;decide,by show 1<2000000;decide,fun d b=> ?_⟩
 have b:d=sO 2 3:=jN.1 b
 subst b
 refine⟨by show(1:Nat)<=1048576;decide,by show 1<2000000;decide,by show 5<2000000;decide,fun e a=> ?_⟩
 have a:e∈[((2,0,0,emB,[]):Ex),(1,2,0,emB,[]),(1,3,0,emB,[]),(4,0,3,emB,[1,2]),(4,0,1,emB,[0,3])]:=a
 simp only[jT,kW,hH] at a
 rcases a with rfl|rfl|rfl|rfl|rfl<;>exact⟨by show 0<=1048576;decide,by decide⟩
theorem VC(a b:Int):rO (sO a b)=[120]++([32,43,32]++(Lib.itoa a++([32,42,32]++Lib.itoa b)))/\iE (sO a b)=1:=⟨by kernel_rfl,by kernel_rfl⟩
theorem SA{n:Nat}(h:n<10):Lib.itoa (n:Int)=[UInt8.ofNat (48+n)]:=by
 rw[<-Lib.decDigits_one h,<-qDk]
 rfl
theorem aw_f:uJ qV=(awS,0):=by
 have a:Lib.itoa 2=[50]:=SA (n:=2) (by decide)
 have e3:Lib.itoa 3=[51]:=SA (n:=3) (by decide)
 have e:(qV.2.2.any fun d=>decide (32<iE d))=false:=by
  show(decide (32<iE (sO 2 3))||false)=false
  rw[(VC 2 3).2];rfl
 have f:nD qV=awS.data.toList:=by
  have b:rO (sO 2 3)=[120,32,43,32,50,32,42,32,51]:=by rw[(VC 2 3).1,a,e3];rfl
  have c:lH (sO 2 3)=[102,117,110,99,32,102,40,120,41,32,61,32,120,32,43,32,50,32,42,32,51,59,10]:=by
   unfold lH
   rw[b]
   rfl
  show(rK ⟨#[112]⟩++([]:List BA).flatMap lV)++[sO 2 3].flatMap lH=_
  simp only[kD,dD,jS,c]
  rfl
 unfold uJ
 rw[if_neg (by rw[e];decide),f,if_neg (by show ¬16384<34;decide)]
 rfl
theorem UR:idx qV.2.2 0=some (sO 2 3):=rfl
theorem qIt:idx (sO 2 3).2.2.2 4=some ((4,0,1,⟨#[]⟩,[0,3]):Ex):=rfl
theorem wR{α β:Type}{x:Option α}{v:α}{f:α->Option β}{r:Option β}(h:x=some v)(a:f v=r):Option.bind x f=r:=by
 subst h;exact a
theorem aw_true{N:Nat}(a:3000000<N):vD N=some true:=by
 have b:rV N awT=some (qV,0,0):=by rw[RL _ (by omega),aw_p]
 have c:qD N qV=some (awS,0):=by
  have h:qD N qV=_:=NU UU a
  rw[h,if_pos TV,aw_f]
 have d:sW N qV=some 0:=by
  have h:sW N qV=_:=PE UU a
  rw[h,TV]
 unfold vD
 refine wR b ?_
 refine wR c ?_
 refine wR (v:=true) ?_ rfl
 refine Eq.trans (if_pos rfl) (Eq.trans (if_pos rfl) (Eq.trans (if_pos rfl) (Eq.trans (if_pos rfl) ?_)))
 refine wR UR ?_
 refine Eq.trans (if_pos rfl) ?_
 refine wR UR ?_
 refine wR qIt ?_
 refine Eq.trans (if_pos rfl) ?_
 refine Eq.trans (if_pos (dB awS.toList)) ?_
 refine wR d ?_
 rfl
end
section
open Go Go.Dc Go.Proofs
end
section
open Go Go.Dc Go.Proofs
def SmE(d:Dl):Prop:=d.2.2.1.length<2000000/\d.2.2.2.length<2000000/\∀x∈d.2.2.2,x.2.2.2.2.length<2000000
def SmR(f:Sr):Prop:=f.2.1.length<2000000/\f.2.2.length<2000000/\∀d∈f.2.2,SmE d
theorem SmSr.r{f:Sr}(h:SmSr f):SmR f:=⟨h.1,h.2.1,fun d a=>⟨(h.2.2 d a).2.1,(h.2.2 d a).2.2.1,fun x b=>((h.2.2 d a).2.2.2 x b).2⟩⟩
theorem qAw{np:Int}{x:Ex}(h:eC np x=true):x.2.2.2.1.size<=80:=by
 have z:emB.size=0:=rfl
 rcases CU h with ⟨-,-,-,-,-,e⟩|⟨-,-,-,-,-,e⟩|⟨-,e,-,-⟩|⟨-,-,-,-,-,e⟩|⟨-,-,-,-,e⟩|⟨-,-,e,-,-⟩|⟨-,-,e,-,-⟩|⟨-,-,e,-,-⟩|⟨-,-,-,-,-,e⟩
 .rw[e];omega
 .rw[e];omega
 .have:=sA e;omega
 .rw[e];omega
 .rw[e];omega
 .exact CV e
 .exact CV e
 .have:=JA e;omega
 rw[e];omega
theorem qCo{d:Dl}(h:GoodD d)(a:SmE d):EI d:=by
 have:=KD h
 exact⟨by omega,a.1,a.2.1,fun x b=>⟨by have:=qAw (h.nodes x b);omega,a.2.2 x b⟩⟩
theorem qFs{f:Sr}(h:GoodS f)(a:SmR f):SmSr f:=⟨a.1,a.2.1,fun d b=>qCo (h.decs d b).1 (a.2.2 d b)⟩
end
section
open Go Go.Dc
def Ok{α:Type}(x:Option α)(Q:α->Prop):Prop:=∃a,x=some a/\Q a
section
variable {α β γ:Type} {Q:β->Prop}
theorem Ok.mk{a:β}(h:Q a):Ok (some a) Q:=⟨a,rfl,h⟩
theorem Ok.bind{x:Option α}{P:α->Prop}{f:α->Option β}(h:Ok x P)(k:∀a,P a->Ok (f a) Q):Ok (x.bind f) Q:=by
 obtain⟨a,rfl,b⟩:=h
 exact k a b
theorem Ok.mono{x:Option β}{P:β->Prop}(h:Ok x P)(k:∀a,P a->Q a):Ok x Q:=by
 obtain⟨a,e,b⟩:=h
 exact⟨a,e,k a b⟩
theorem Ok.assoc{x:Option α}{g:α->Option γ}{f:γ->Option β}(h:Ok (x.bind fun a=>(g a).bind f) Q):Ok ((x.bind g).bind f) Q:=by
 rw[Option.bind_assoc];exact h
theorem Ok.ite{c:Prop}[Decidable c]{x y:Option β}(a:c->Ok x Q)(b:¬c->Ok y Q):Ok (if c then x else y) Q:=by
 by_cases h:c
 .rw[if_pos h];exact a h
 rw[if_neg h];exact b h
theorem Ok.iteb{c:Prop}[Decidable c]{x y:Option α}{f:α->Option β}(a:c->Ok (x.bind f) Q)(b:¬c->Ok (y.bind f) Q):Ok ((if c then x else y).bind f) Q:=by
 by_cases h:c
 .rw[if_pos h];exact a h
 rw[if_neg h];exact b h
theorem Ok.tt[Decidable (true=true)]{x y:Option β}(h:Ok x Q):Ok (if true=true then x else y) Q:=by rw[if_pos rfl];exact h
theorem Ok.ff[Decidable (false=true)]{x y:Option β}(h:Ok y Q):Ok (if false=true then x else y) Q:=by rw[if_neg jY];exact h
theorem Ok.ttb[Decidable (true=true)]{x y:Option α}{f:α->Option β}(h:Ok (x.bind f) Q):Ok ((if true=true then x else y).bind f) Q:=by rw[if_pos rfl];exact h
theorem Ok.ffb[Decidable (false=true)]{x y:Option α}{f:α->Option β}(h:Ok (y.bind f) Q):Ok ((if false=true then x else y).bind f) Q:=by rw[if_neg jY];exact h
theorem Ok.someb{a:α}{f:α->Option β}(h:Ok (f a) Q):Ok ((some a).bind f) Q:=h
theorem Ok.mapb{a:α}{g:α->γ}{f:γ->Option β}(h:Ok (f (g a)) Q):Ok (((some a).map g).bind f) Q:=h
theorem Ok.cat{x y:BA}{f:BA->Option β}(a:x.size+y.size<=1000000000)(h:∀s:BA,s.size=x.size+y.size->Ok (f s) Q):Ok ((bR x y).bind f) Q:=by
 unfold bR
 rw[if_pos (by simp only[maxLen];omega)]
 exact h _ (by simp)
theorem Ok.app{b:Nat}{l k:List α}{f:List α->Option β}(c:(l.length+k.length)*b<=140737488355328)(a:0<b)(h:Ok (f (l++k)) Q):Ok ((cF b l k).bind f) Q:=by
 rw[rU c a];exact h
theorem Ok.loop{σ:Type}{f:σ->Option (σ⊕α)}{g:α->Option β}{s:σ}{N:Nat}(I:σ->Prop)(μ:σ->Nat)(R:α->Prop)
  (h:∀s,I s->Ok (f s) fun r=>match r with| .inl s'=>I s'/\μ s'<μ s| .inr b=>R b) (d:I s) (e:μ s<N) (k:∀b,R b->Ok (g b) Q):Ok ((aS f N s).bind g) Q:=by
 obtain⟨b,c,a⟩:=JV I μ R (fun s d=>by
  obtain⟨r,c,a⟩:=h s d
  cases r with
  |inl s'=>exact .inr ⟨s',c,a.1,a.2⟩
  |inr b=>exact .inl ⟨b,c,a⟩) N s d e
 rw[c];exact k b a
end
theorem oO(a:Array UInt8):(⟨a⟩:BA).size=a.size:=rfl
theorem qCr{N:Nat}{v n:Int}(d:n<=9223372036854775807):∃r,CE N v n=some r/\0<=r/\(1<=n->r<n):=by
 simp only[CE]
 by_cases h:n<=1
 .exact⟨0,by simp[h],by omega,by omega⟩
 have a:n≠0:=by omega
 have b:=Int.tmod_lt_of_pos v (show 0<n by omega)
 have c:=Int.lt_tmod_of_pos v (show 0<n by omega)
 simp only[h,decide_false,jE,kA,HR,a,j0]
 by_cases h3:Int.tmod v n<0
 .refine⟨Int.tmod v n+n,?_,by omega,by omega⟩
  simp only[h3,decide_true,kI,j0]
  rw[bT (by omega) (by omega)]
 exact⟨Int.tmod v n,by simp only[h3,decide_false,jE,kA,j0],by omega,by omega⟩
theorem GE{N:Nat}{l:List Int}{a n:Int}(c:0<=a)(k:a<4611686018427387904)(f:n<=9223372036854775807):∃r,iM N (l,a) n=some ((l,a+1),r)/\0<=r/\(1<=n->r<n):=by
 simp only[iM]
 have b:∃v,(if(decide (a<(List.length l:Int)))=true then((idx l a).bind fun x1=>some x1) else(some (Int.tmod (IntKind.wrap .i64 (a*7)) 11)):Option Int)=some v:=by
  by_cases h:a<(l.length:Int)
  .exact⟨_,by simp only[h,decide_true,kI];rw[DF c (by omega)];rfl⟩
  exact⟨_,by simp only[h,decide_false,jE,kA];rfl⟩
 obtain⟨v,b⟩:=b
 obtain⟨r,g,d,e⟩:=qCr (N:=N) (v:=v) f
 exact⟨r,by simp only[b,j0,g];rw[bT (by omega) (by omega)],d,e⟩
section
variable {β:Type} {Q:β->Prop} {N:Nat} {l:List Int} {a:Int}
theorem Ok.next{n:Int}{f:(List Int×Int)×Int->Option β}(d:0<=a)(e:a<4611686018427387904)(g:1<=n)(o:n<=1000000)(h:∀r,0<=r->r<n->Ok (f ((l,a+1),r)) Q):Ok ((iM N (l,a) n).bind f) Q:=by
 obtain⟨r,k,b,c⟩:=GE (N:=N) (l:=l) d e (show n<=9223372036854775807 by omega)
 rw[k];exact h r b (c g)
theorem Ok.chance{n m:Int}{f:(List Int×Int)×Bool->Option β}(b:0<=a)(c:a<4611686018427387904)(o:1<=m)(e:m<=1000000)(h:∀r,Ok (f ((l,a+1),r)) Q):Ok ((qA N (l,a) n m).bind f) Q:=by
 obtain⟨r,d,g,k⟩:=GE (N:=N) (l:=l) b c (show m<=9223372036854775807 by omega)
 simp only[qA,d,j0]
 exact h _
theorem Ok.one{L:List BA}{f:(List Int×Int)×BA->Option β}(e:0<=a)(g:a<4611686018427387904)(o:0<L.length)(n:L.length<1000)(h:∀x∈L,Ok (f ((l,a+1),x)) Q):Ok ((lA N (l,a) L).bind f) Q:=by
 obtain⟨r,k,d,c⟩:=GE (N:=N) (l:=l) e g (show(L.length:Int)<=9223372036854775807 by omega)
 have c:=c (by omega)
 have b:r.toNat<L.length:=by omega
 simp only[lA]
 rw[if_neg (by rw[kY];omega),k]
 simp only[j0]
 rw[DF d b]
 exact h _ (jX b)
theorem Ok.oneP{L:List BA}{f:(List Int×Int)×BA->Option β}(d:0<=a)(e:a<4611686018427387904)(g:decide ((List.length L:Int)>0)=true)(b:L.length<1000)(c:∀x∈L,x.size<=12)(h:∀x:BA,x.size<=12->Ok (f ((l,a+1),x)) Q):Ok ((lA N (l,a) L).bind f) Q:=
 Ok.one d e (by have:=gN g;omega) b fun x k=>h x (c x k)
theorem Ok.oneS{L:List BA}{f:(List Int×Int)×BA->Option β}(c:0<=a)(d:a<4611686018427387904)(b:(decide (0<L.length)&&decide (L.length<1000)&&L.all fun x=>decide (x.size<=12))=true)(h:∀x:BA,x.size<=12->Ok (f ((l,a+1),x)) Q):Ok ((lA N (l,a) L).bind f) Q:=by
 simp only[jI,jA] at b
 exact Ok.one c d b.1.1 b.1.2 fun x e=>h x (by simpa using jV.1 b.2 x e)
theorem Ok.pick{L:List Int}{f:(List Int×Int)×Int->Option β}(e:0<=a)(g:a<4611686018427387904)(o:0<L.length)(n:L.length<1000)(h:∀x∈L,Ok (f ((l,a+1),x)) Q):Ok ((oV N (l,a) L).bind f) Q:=by
 obtain⟨r,k,d,c⟩:=GE (N:=N) (l:=l) e g (show(L.length:Int)<=9223372036854775807 by omega)
 have c:=c (by omega)
 have b:r.toNat<L.length:=by omega
 simp only[oV]
 rw[if_neg (by rw[kY];omega),k]
 simp only[j0]
 rw[DF d b]
 exact h _ (jX b)
theorem Ok.pickS{L:List Int}{f:(List Int×Int)×Int->Option β}(c:0<=a)(d:a<4611686018427387904)(b:(decide (0<L.length)&&decide (L.length<1000)&&L.all fun x=>decide (0<=x/\x<=9007199254740992))=true)(h:∀x:Int,0<=x->x<=9007199254740992->Ok (f ((l,a+1),x)) Q):Ok ((oV N (l,a) L).bind f) Q:=by
 simp only[jI,jA] at b
 exact Ok.pick c d b.1.1 b.1.2 fun x e=>by
  have:=jV.1 b.2 x e
  simp only[jA] at this
  exact h x this.1 this.2
theorem JN:∀(k D:Nat) (x:Int),k<D->k<=100->0<=x->x<10^(k+1)->x<=9223372036854775806->Ok (BT N D x) fun s=>s.size<=k+1
 |_,0,_,h,_,_,_,_=>absurd h (kQ _)
 |k,D+1,x,l,f,a,e,g=>by
  show Ok (BK N (BT N D) x) _
  unfold BK
  have b:ByteArray.size (⟨#[48,49,50,51,52,53,54,55,56,57]⟩:BA)=10:=rfl
  by_cases hx:x<10
  .rw[if_pos (by simpa using hx),bT (by omega) (by omega),JH a (by omega) (by omega)]
   refine Ok.mk ?_
   simp only[ByteArray.size_extract,b];omega
  rw[if_neg (by simpa using hx)]
  obtain⟨k,rfl⟩:∃k',k=k'+1:=by
   cases k with
   |zero=>simp at e;omega
   |succ k=>exact⟨k,rfl⟩
  obtain⟨D,rfl⟩:∃D',D=D'+1:=⟨D-1,by omega⟩
  have c:Int.tdiv x 10=x/10:=Int.tdiv_eq_ediv_of_nonneg a
  have d:Int.tmod x 10=x%10:=Int.tmod_eq_emod_of_nonneg a
  have n:(10:Int)^(k+1+1)=10*10^(k+1):=by rw[Int.pow_succ];omega
  rw[c,d,bT (by omega) (by omega)]
  refine Ok.bind (JN k (D+1) (x/10) (by omega) (by omega) (by omega) (by omega) (by omega)) fun s o=> ?_
  refine Ok.bind (JN 0 (D+1) (x%10) (by omega) (by omega) (by omega) (by simp;omega) (by omega)) fun t p=> ?_
  exact Ok.cat (by omega) fun u q=>Ok.mk (by omega)
theorem qAr{x:Int}(a:0<=x)(b:x<=9007199254740992)(c:100<N):Ok (BW N x) fun s=>s.size<=16:=
 JN 15 N x (by omega) (by omega) a (by rw[show(10:Int)^(15+1)=10000000000000000 from by kernel_rfl];omega) (by omega)
theorem Ok.digits{x:Int}{f:BA->Option β}(a:0<=x)(b:x<=9007199254740992)(c:100<N)(h:∀s:BA,s.size<=16->Ok (f s) Q):Ok ((BW N x).bind f) Q:=Ok.bind (qAr a b c) h
end
def nC:Nat->Nat
 |0=>8
 |d+1=>3*nC d+8
def pG:Nat->Nat
 |0=>22
 |d+1=>3*pG d+20
theorem RG:∀d,22<=pG d
 |0=>jJ _
 |d+1=>by have:=RG d;simp only[pG];omega
section
variable {N:Nat} {l:List Int}
def wX(N:Nat)(l:List Int)(E:(List Int×Int)->Int->List BA->Option ((List Int×Int)×BA))(d:Nat)(ps:List BA):Prop:=
 ∀a:Int,0<=a->a+nC d<2000000000000000000->Ok (E (l,a) (d:Int) ps) fun y=>∃a' s,y=((l,a'),s)/\a<=a'/\a'<=a+nC d/\s.size<=pG d
theorem Ok.expr{β:Type}{Q:β->Prop}{E:(List Int×Int)->Int->List BA->Option ((List Int×Int)×BA)}{d:Nat}{ps:List BA}(n:wX N l E d ps){a:Int}{f:(List Int×Int)×BA->Option β}(g:0<=a)(k:a+nC d<2000000000000000000)
  (h:∀(a':Int) (s:BA),a<=a'->a'<=a+nC d->s.size<=pG d->Ok (f ((l,a'),s)) Q):Ok ((E (l,a) (d:Int) ps).bind f) Q:=
 Ok.bind (n a g k) fun y o=>by
  obtain⟨a',s,rfl,b,c,e⟩:=o
  exact h a' s b c e
theorem OU(d:Nat)(a:d<=5):nC d<=10000/\pG d<=20000:=by
 match d,a with
 |0,_=>decide
 |1,_=>decide
 |2,_=>decide
 |3,_=>decide
 |4,_=>decide
 |5,_=>decide
set_option maxHeartbeats 4000000 in
theorem qBn{E:(List Int×Int)->Int->List BA->Option ((List Int×Int)×BA)}{d:Nat}{ps:List BA}(g:d=0)(c:ps.length<1000)(b:∀x∈ps,x.size<=12)(e:100<N):wX N l (vE N E) d ps:=by
 subst g
 intro a n o
 have f:nC 0=8:=rfl
 have k:pG 0=22:=rfl
 simp only[vE,f,k,sR,BI]
 rw[if_pos (show decide (((0:Nat):Int)<=0)=true by decide)]
 repeat' first
  |with_reducible apply Ok.tt
  |with_reducible apply Ok.ff
  |with_reducible apply Ok.ttb
  |with_reducible apply Ok.ffb
  |with_reducible apply Ok.assoc
  |((with_reducible apply Ok.iteb)<;>intro _)
  |((with_reducible apply Ok.ite)<;>intro _)
  |with_reducible apply Ok.someb
  |with_reducible apply Ok.mapb
  |((with_reducible refine Ok.mk ⟨_,_,rfl,?_,?_,?_⟩)<;>omega)
  |((with_reducible refine Ok.next ?_ ?_ ?_ ?_ (fun _ _ _=> ?_))<;>try omega)
  |((with_reducible refine Ok.chance ?_ ?_ ?_ ?_ (fun _=> ?_))<;>try omega)
  |((with_reducible refine Ok.pickS ?_ ?_ (by decide) (fun _ _ _=> ?_))<;>try omega)
  |((with_reducible refine Ok.oneP ?_ ?_ (by assumption) c b (fun _ _=> ?_))<;>try omega)
  |((with_reducible refine Ok.oneS ?_ ?_ (by decide) (fun _ _=> ?_))<;>try omega)
  |((with_reducible refine Ok.digits ?_ ?_ e (fun _ _=> ?_))<;>try omega)
  |((with_reducible refine Ok.cat ?_ (fun _ h=> ?_))<;>simp only[oO,kF,jB,jD,Nat.reduceAdd] at* <;>try omega)
  |((with_reducible refine Ok.cat ?_ (fun _ _=> ?_))<;>try omega)
  |(apply Ok.iteb<;>intro _)
  |dsimp only
 all_goals omega
theorem Ok.pick01{β:Type}{Q:β->Prop}{a:Int}{f:(List Int×Int)×Int->Option β}(b:0<=a)(c:a<4611686018427387904)(h:∀x:Int,x=0\/x=1->Ok (f ((l,a+1),x)) Q):Ok ((oV N (l,a) [0,0,0,1]).bind f) Q:=
 Ok.pick b c (by decide) (by decide) fun x d=>h x (by simp at d;omega)
theorem Ok.exprloop{β:Type}{Q:β->Prop}{E:(List Int×Int)->Int->List BA->Option ((List Int×Int)×BA)}{d:Nat}{ps:List BA}(r:wX N l E d ps)(x:d<=5){p1:Int}(y:IntKind.wrap .i64 (p1-1)=(d:Int)){s:BA}{n a:Int}{f:BA×List Int×Int->Option β}
  (D:n=0\/n=1) (p:0<=a) (q:a+nC d<2000000000000000000) (F:s.size<=100000000) (B:100<N) (h:∀(s':BA) (a':Int),a<=a'->a'<=a+nC d->s'.size<=s.size+pG d+2->Ok (f (s',l,a')) Q):Ok ((aS (BU N E p1 ps) N (s,n,l,a)).bind f) Q:=by
 have A:=OU d x
 refine Ok.loop (fun st=>∃s' n' a',st=(s',n',l,a')/\((n'=n/\a'=a/\s'=s)\/(n'=0/\a<=a'/\a'<=a+nC d/\s'.size<=s.size+pG d+2))) (fun st=>st.2.1.toNat) (fun b=>∃s' a',b=(s',l,a')/\a<=a'/\a'<=a+nC d/\s'.size<=s.size+pG d+2) ?_ ⟨s,n,a,rfl,.inl ⟨rfl,rfl,rfl⟩⟩ (by simp only;omega) ?_
 .rintro _ ⟨s',n',a',rfl,k⟩
  simp only[BU]
  by_cases hn0:n'>0
  .rw[if_pos (by simpa using hn0),y]
   have k:n'=n/\a'=a/\s'=s:=k.resolve_right fun h=>by omega
   obtain⟨rfl,rfl,rfl⟩:=k
   refine Ok.expr r p q fun o t c e g=> ?_
   refine Ok.cat (by simp only[oO,kF,jB,jD,Nat.reduceAdd];omega) fun u z=> ?_
   simp only[oO,kF,jB,jD,Nat.reduceAdd] at z
   refine Ok.cat (by omega) fun v G=> ?_
   refine Ok.mk ⟨⟨v,_,o,rfl,.inr ⟨by rw[bT (by omega) (by omega)];omega,c,e,by omega⟩⟩,?_⟩
   simp only
   rw[bT (by omega) (by omega)]
   omega
  rw[if_neg (by simpa using hn0)]
  refine Ok.mk ⟨s',a',rfl,?_⟩
  rcases k with ⟨_,rfl,rfl⟩|⟨_,c,e,g⟩
  .omega
  exact⟨c,e,g⟩
 rintro _ ⟨s',a',rfl,c,e,g⟩
 exact h s' a' c e g
set_option maxHeartbeats 8000000 in
theorem qAy{E:(List Int×Int)->Int->List BA->Option ((List Int×Int)×BA)}{d:Nat}{ps:List BA}(c:wX N l E d ps)(s:d<=4)(f:ps.length<1000)(b:∀x∈ps,x.size<=12)(e:100<N):wX N l (vE N E) (d+1) ps:=by
 intro a q r
 have k:nC (d+1)=3*nC d+8:=rfl
 have n:pG (d+1)=3*pG d+20:=rfl
 have o:=RG d
 have p:=OU d (by omega)
 have g:IntKind.wrap .i64 (((d+1:Nat):Int)-1)=(d:Int):=by rw[bT (by omega) (by omega)];omega
 simp only[vE,k,n,sR,BI,xX,g]
 repeat' first
  |with_reducible apply Ok.tt
  |with_reducible apply Ok.ff
  |with_reducible apply Ok.ttb
  |with_reducible apply Ok.ffb
  |with_reducible apply Ok.assoc
  |((with_reducible apply Ok.iteb)<;>intro _)
  |((with_reducible apply Ok.ite)<;>intro _)
  |with_reducible apply Ok.someb
  |with_reducible apply Ok.mapb
  |((with_reducible refine Ok.mk ⟨_,_,rfl,?_,?_,?_⟩)<;>omega)
  |((with_reducible refine Ok.next ?_ ?_ ?_ ?_ (fun _ _ _=> ?_))<;>try omega)
  |((with_reducible refine Ok.chance ?_ ?_ ?_ ?_ (fun _=> ?_))<;>try omega)
  |((with_reducible refine Ok.pick01 ?_ ?_ (fun _ _=> ?_))<;>try omega)
  |((with_reducible refine Ok.exprloop c (by omega) g (by assumption) ?_ ?_ ?_ e (fun _ _ _ _ _=> ?_))<;>try omega)
  |((with_reducible refine Ok.expr c ?_ ?_ (fun _ _ _ _ _=> ?_))<;>try omega)
  |((with_reducible refine Ok.pickS ?_ ?_ (by decide) (fun _ _ _=> ?_))<;>try omega)
  |((with_reducible refine Ok.oneP ?_ ?_ (by assumption) f b (fun _ _=> ?_))<;>try omega)
  |((with_reducible refine Ok.oneS ?_ ?_ (by decide) (fun _ _=> ?_))<;>try omega)
  |((with_reducible refine Ok.digits ?_ ?_ e (fun _ _=> ?_))<;>try omega)
  |((with_reducible refine Ok.cat ?_ (fun _ h=> ?_))<;>simp only[oO,kF,jB,jD,Nat.reduceAdd] at* <;>try omega)
  |((with_reducible refine Ok.cat ?_ (fun _ _=> ?_))<;>try omega)
  |(apply Ok.iteb<;>intro _)
  |dsimp only
 all_goals omega
theorem TR:∀(d D:Nat) (ps:List BA),d<D->d<=5->ps.length<1000->(∀x∈ps,x.size<=12)->100<N->wX N l (BV N D) d ps
 |_,0,_,h,_,_,_,_=>absurd h (kQ _)
 |0,D+1,ps,_,_,a,b,c=>qBn (E:=BV N D) rfl a b c
 |d+1,D+1,ps,h,e,a,b,c=>qAy (TR d D ps (by omega) (by omega) a b c) (by omega) a b c
theorem TC{d:Nat}{ps:List BA}(e:d<=5)(a:ps.length<1000)(b:∀x∈ps,x.size<=12)(c:100<N):wX N l (vH N) d ps:=TR d N ps (by omega) e a b c
theorem Ok.expr3{β:Type}{Q:β->Prop}{ps:List BA}{a:Int}{f:(List Int×Int)×BA->Option β}(g:100<N)(e:0<=a)(o:a+10000<2000000000000000000)(b:ps.length<=2/\∀x∈ps,x.size<=12)
  (h:∀(a':Int) (s:BA),a<=a'->a'<=a+10000->s.size<=854->Ok (f ((l,a'),s)) Q):Ok ((vH N (l,a) 3 ps).bind f) Q:=
 Ok.expr (d:=3) (TC (by omega) (by omega) b.2 g) e (by have:nC 3=320:=rfl;have:nC 2=104:=rfl;omega) fun a' s c k n=>h a' s c (by have:nC 3=320:=rfl;omega) (by have:pG 3=854:=rfl;omega)
theorem Ok.expr2{β:Type}{Q:β->Prop}{ps:List BA}{a:Int}{f:(List Int×Int)×BA->Option β}(g:100<N)(e:0<=a)(o:a+10000<2000000000000000000)(b:ps.length<=2/\∀x∈ps,x.size<=12)
  (h:∀(a':Int) (s:BA),a<=a'->a'<=a+10000->s.size<=854->Ok (f ((l,a'),s)) Q):Ok ((vH N (l,a) 2 ps).bind f) Q:=
 Ok.expr (d:=2) (TC (by omega) (by omega) b.2 g) e (by have:nC 3=320:=rfl;have:nC 2=104:=rfl;omega) fun a' s c k n=>h a' s c (by have:nC 2=104:=rfl;omega) (by have:pG 2=278:=rfl;omega)
set_option maxHeartbeats 8000000 in
theorem qGe{a:Int}(b:100<N)(c:0<=a)(d:a<1000000000000000000):Ok (yE N (l,a)) fun y=>∃a' s,y=((l,a'),s)/\a<=a'/\a'<=a+10010/\s.size<=890:=by
 simp only[yE,FG,sR,xX]
 repeat' first
  |with_reducible apply Ok.tt
  |with_reducible apply Ok.ff
  |with_reducible apply Ok.ttb
  |with_reducible apply Ok.ffb
  |with_reducible apply Ok.assoc
  |((with_reducible apply Ok.iteb)<;>intro _)
  |((with_reducible apply Ok.ite)<;>intro _)
  |with_reducible apply Ok.someb
  |with_reducible apply Ok.mapb
  |((with_reducible refine Ok.mk ⟨_,_,rfl,?_,?_,?_⟩)<;>omega)
  |((with_reducible refine Ok.next ?_ ?_ ?_ ?_ (fun _ _ _=> ?_))<;>try omega)
  |((with_reducible refine Ok.chance ?_ ?_ ?_ ?_ (fun _=> ?_))<;>try omega)
  |((with_reducible refine Ok.expr3 b ?_ ?_ ?_ (fun _ _ _ _ _=> ?_))<;>first|omega|exact⟨by decide,by decide⟩|skip)
  |((with_reducible refine Ok.expr2 b ?_ ?_ ?_ (fun _ _ _ _ _=> ?_))<;>first|omega|exact⟨by decide,by decide⟩|skip)
  |(with_reducible refine Ok.app (by simp) (by decide) ?_)
  |((with_reducible refine Ok.pickS ?_ ?_ (by decide) (fun _ _ _=> ?_))<;>try omega)
  |((with_reducible refine Ok.oneS ?_ ?_ (by decide) (fun _ _=> ?_))<;>try omega)
  |((with_reducible refine Ok.digits ?_ ?_ b (fun _ _=> ?_))<;>try omega)
  |((with_reducible refine Ok.cat ?_ (fun _ h=> ?_))<;>simp only[oO,kF,jB,jD,Nat.reduceAdd] at* <;>try omega)
  |((with_reducible refine Ok.cat ?_ (fun _ _=> ?_))<;>try omega)
  |(apply Ok.iteb<;>intro _)
  |dsimp only
 all_goals omega
theorem qGt{L:List BA}{x:BA}(a:L.length<1000000)(c:L.length<N):Ok (vJ N L x) fun _=>True:=by
 unfold vJ
 refine Ok.loop (fun st=>∃j:Nat,st=(j:Int)/\j<=L.length) (fun st=>L.length-st.toNat) (fun _=>True) ?_ ⟨0,rfl,kE _⟩ (by show L.length-(0:Int).toNat<N;omega) ?_
 .rintro _ ⟨j,rfl,d⟩
  simp only[FF]
  by_cases h:j<L.length
  .rw[if_pos (by simpa using h),eZ h]
   simp only[j0]
   refine Ok.ite (fun _=>Ok.mk trivial) fun _=>Ok.mk ⟨⟨j+1,by rw[bT (by omega) (by omega)];omega,by omega⟩,?_⟩
   rw[bT (by omega) (by omega)];omega
  rw[if_neg (by simpa using h)];exact Ok.mk trivial
 intro b _
 cases b<;>exact Ok.mk trivial
theorem Ok.has{β:Type}{Q:β->Prop}{L:List BA}{x:BA}{f:Bool->Option β}(a:L.length<1000000)(c:L.length<N)(h:∀b,Ok (f b) Q):Ok ((vJ N L x).bind f) Q:=Ok.bind (qGt a c) fun b _=>h b
theorem Ok.decl{β:Type}{Q:β->Prop}{a:Int}{f:(List Int×Int)×BA->Option β}(k:100<N)(e:0<=a)(g:a<1000000000000000000)
  (h:∀(a':Int) (s:BA),a<=a'->a'<=a+10010->s.size<=890->Ok (f ((l,a'),s)) Q):Ok ((yE N (l,a)).bind f) Q:=
 Ok.bind (qGe k e g) fun y n=>by
  obtain⟨a',s,rfl,b,c,d⟩:=n
  exact h a' s b c d
theorem qFa{β:Type}{Q:β->Prop}{y:(List Int×Int)×BA}{f:BA->Option β}(d:y.2.size<=890)(a:3000<N)(h:∀s:BA,Ok (f s) Q):Ok ((aS (BG N y) N (y.2,0)).bind f) Q:=by
 refine Ok.loop (fun st=>∃j:Nat,st.2=(j:Int)/\j<=y.2.size) (fun st=>y.2.size-st.2.toNat) (fun _=>True) ?_ ⟨0,rfl,kE _⟩ (by simp only;omega) (fun b _=>h b)
 rintro⟨s,_⟩ ⟨j,rfl,c⟩
 simp only[BG]
 by_cases hlt:j<y.2.size
 .rw[if_pos (by simpa using hlt),RF hlt]
  simp only[j0]
  refine Ok.bind (P:=fun _=>True) (Ok.ite (fun _=>Ok.mk trivial) fun _=>Ok.mk trivial) fun b _=> ?_
  refine Ok.ite (fun _=> ?_) fun _=> ?_
  .rw[JH (by omega) (by omega) (by omega)];exact Ok.mk trivial
  refine Ok.mk ⟨⟨j+1,by simp only;rw[bT (by omega) (by omega)];omega,by omega⟩,?_⟩
  simp only;rw[bT (by omega) (by omega)];omega
 rw[if_neg (by simpa using hlt)];exact Ok.mk trivial
theorem qAx{a:Int}{pk:BA}(B:3000<N)(z:0<=a)(h1:a<100000000000000000)(hp:pk.size<=12):Ok (BZ N (l,a) pk) fun y=>∃a' s,y=((l,a'),s)/\a<=a'/\a'<=a+100000/\s.size<=4700:=by
 simp only[BZ]
 refine Ok.cat (by simp only[oO,kF,jB,jD,Nat.reduceAdd];omega) fun s1 p=> ?_
 simp only[oO,kF,jB,jD,Nat.reduceAdd] at p
 refine Ok.cat (by simp only[oO,kF,jB,jD,Nat.reduceAdd];omega) fun s2 q=> ?_
 simp only[oO,kF,jB,jD,Nat.reduceAdd] at q
 refine Ok.chance z (by omega) (by omega) (by omega) fun c=> ?_
 refine Ok.bind (P:=fun s:BA=>s.size<=60) (Ok.ite (fun _=>Ok.cat (by simp only[oO,kF,jB,jD,Nat.reduceAdd];omega) fun s3 e3=>Ok.mk (by simp only[oO,kF,jB,jD,Nat.reduceAdd] at e3;omega)) fun _=>Ok.mk (by omega)) fun K e3=> ?_
 dsimp only
 refine Ok.next (by omega) (by omega) (by omega) (by omega) fun r v Z=> ?_
 dsimp only
 -- imports
 refine Ok.loop (fun st=>∃s L n a',st=(s,L,n,l,a')/\0<=n/\n<=2/\(L.length:Int)+n<=2/\(s.size:Int)<=60+30*(2-n)/\a<=a'/\a'<=a+10+(2-n)) (fun st=>st.2.2.1.toNat) (fun b=>∃s a',b=(s,l,a')/\s.size<=120/\a<=a'/\a'<=a+20) ?_ ⟨K,[],r,a+1+1,rfl,v,by omega,by simp only[jD];omega,by omega,by omega,by omega⟩ (by simp only;omega) ?_
 .rintro _ ⟨s,L,n,a',rfl,E,F,k3,G,f,H⟩
  simp only[EZ,FC]
  by_cases hn:n>0
  .rw[if_pos (by simpa using hn)]
   refine Ok.assoc (Ok.someb ?_)
   refine Ok.assoc (Ok.oneS (by omega) (by omega) (by decide) fun x D=> ?_)
   dsimp only
   refine Ok.assoc (Ok.bind (P:=fun _=>True) (Ok.ite (fun _=>Ok.has (by omega) (by omega) fun b=>Ok.mk trivial) fun _=>Ok.mk trivial) fun o4 _=> ?_)
   refine Ok.iteb (fun _=> ?_) fun _=> ?_
   .refine Ok.assoc (Ok.app (by simp only[jB,jD];omega) (by decide) ?_)
    refine Ok.assoc (Ok.cat (by simp only[oO,kF,jB,jD,Nat.reduceAdd];omega) fun t1 h=> ?_)
    simp only[oO,kF,jB,jD,Nat.reduceAdd] at h
    refine Ok.assoc (Ok.cat (by simp only[oO,kF,jB,jD,Nat.reduceAdd];omega) fun t2 e=> ?_)
    simp only[oO,kF,jB,jD,Nat.reduceAdd] at e
    refine Ok.assoc (Ok.cat (by omega) fun g u=>Ok.someb (Ok.mk ?_))
    dsimp only
    rw[bT (by omega) (by omega)]
    exact⟨⟨g,_,_,_,rfl,by omega,by omega,by simp only[j9,jB,jD];omega,by omega,by omega,by omega⟩,by omega⟩
   refine Ok.someb (Ok.mk ?_)
   dsimp only
   rw[bT (by omega) (by omega)]
   exact⟨⟨s,_,_,_,rfl,by omega,by omega,by omega,by omega,by omega,by omega⟩,by omega⟩
  rw[if_neg (by simpa using hn)]
  exact Ok.mk ⟨s,a',rfl,by omega,f,by omega⟩
 rintro _ ⟨s,k,rfl,q1,q2,q3⟩
 dsimp only
 refine Ok.next (by omega) (by omega) (by omega) (by omega) fun r2 g3 g4=> ?_
 dsimp only
 -- declarations
 refine Ok.loop (fun st=>∃s L n a',st=(s,L,n,l,a')/\0<=n/\n<=5/\(L.length:Int)+n<=5/\(s.size:Int)<=120+890*(5-n)/\a<=a'/\a'<=a+100+10020*(5-n)) (fun st=>st.2.2.1.toNat) (fun b=>∃s a',b=(s,l,a')/\s.size<=4580/\a<=a'/\a'<=a+60000) ?_ ⟨s,[],_,k+1,rfl,by rw[bT (by omega) (by omega)];omega,by rw[bT (by omega) (by omega)];omega,by rw[bT (by omega) (by omega)];simp only[jD];omega,by rw[bT (by omega) (by omega)];omega,by omega,by rw[bT (by omega) (by omega)];omega⟩ (by simp only;rw[bT (by omega) (by omega)];omega) ?_
 .rintro _ ⟨s,L,n,a',rfl,E,F,k3,G,f,H⟩
  simp only[EY]
  by_cases hn:n>0
  .rw[if_pos (by simpa using hn)]
   refine Ok.assoc (Ok.decl (by omega) (by omega) (by omega) fun e d v1 v2 R=> ?_)
   refine Ok.assoc (qFa (y:=((l,e),d)) R B fun hd=> ?_)
   dsimp only
   refine Ok.assoc (Ok.bind (P:=fun o:Bool×List Int×Int=>o.2.1=l/\e<=o.2.2/\o.2.2<=e+1) (Ok.has (by omega) (by omega) fun b=>Ok.ite (fun _=>Ok.mk ⟨rfl,by simp only;omega,by simp only;omega⟩) fun _=>Ok.chance (by omega) (by omega) (by omega) (by omega) fun c=>Ok.mk ⟨rfl,by simp only;omega,by simp only;omega⟩) fun M A=> ?_)
   obtain⟨Y,l9,V⟩:=M
   obtain⟨rfl,S,U⟩:=A
   dsimp only at S U ⊢
   refine Ok.iteb (fun _=> ?_) fun _=> ?_
   .refine Ok.assoc (Ok.app (by simp only[jB,jD];omega) (by decide) ?_)
    refine Ok.assoc (Ok.cat (by omega) fun g u=>Ok.someb (Ok.mk ?_))
    dsimp only
    rw[bT (by omega) (by omega)]
    exact⟨⟨g,_,_,_,rfl,by omega,by omega,by simp only[j9,jB,jD];omega,by omega,by omega,by omega⟩,by omega⟩
   refine Ok.someb (Ok.mk ?_)
   dsimp only
   rw[bT (by omega) (by omega)]
   exact⟨⟨s,_,_,_,rfl,by omega,by omega,by omega,by omega,by omega,by omega⟩,by omega⟩
  rw[if_neg (by simpa using hn)]
  exact Ok.mk ⟨s,a',rfl,by omega,f,by omega⟩
 rintro _ ⟨s,e,rfl,f,g,u⟩
 dsimp only
 refine Ok.chance (by omega) (by omega) (by omega) (by omega) fun c=> ?_
 dsimp only
 refine Ok.iteb (fun _=> ?_) fun _=> ?_
 .refine Ok.assoc (Ok.oneS (by omega) (by omega) (by decide) fun x D=> ?_)
  dsimp only
  refine Ok.assoc (Ok.cat (by omega) fun t h=>Ok.someb (Ok.mk ?_))
  dsimp only
  refine⟨_,_,rfl,?_,?_,?_⟩<;>omega
 refine Ok.someb (Ok.mk ?_)
 dsimp only
 refine⟨_,_,rfl,?_,?_,?_⟩<;>omega
end
end
end Go.Proofs.YthiiggmmmoolbaaGreatDoor
