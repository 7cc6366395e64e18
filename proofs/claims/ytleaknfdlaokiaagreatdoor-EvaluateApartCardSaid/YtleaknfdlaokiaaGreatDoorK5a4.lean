/- No condition but those of each theorem. -/
import Derived.Test.YtleaknfdlaokiaaGreatDoorProg
import Derived.WalkKit
import Derived.Deep.LoopGhost
import Derived.KernelRfl
import Derived.OrdersHeld
import Derived.OrdersIn
import Derived.LoopNIn
import Derived.Sort.LoopGhostIn
import Derived.Laws.AppendOwn
import Derived.RangeFuncLeaves
import Derived.RangeFuncRecord
import Derived.MapKept
import Derived.Maps.RangeRun
import Derived.ChangeKeysEq
import Derived.HandedShaped
import Derived.ChangeStays
import Derived.ChangeSame
import Derived.OpenShut
import Derived.WideShapes
import Derived.JoinedOf
import Derived.ReadAgain
import Derived.ChangeAt
import Derived.RowKit
import Derived.Lib.Overlaps
import Derived.Shelf.SlSortCmp.NoneTotal
import Derived.WalkSmall
import Derived.Recover
import Derived.Lib.Bytealg
import Derived.Test.YtleaknfdlaokiaaGreatDoorK4a4
namespace Go.Proofs.YtleaknfdlaokiaaGreatDoor
section
open Go Go.Dc
theorem qVo{p:UInt8->Bool}{l:List UInt8}{k:Nat}(c:k<l.length)(a:∀j,∀h:j<l.length,j<k->p l[j]=true)(b:p l[k]=false):tw p l 0=k:=by
 have key:∀d j,j+d=k->tw p l j=k:=by
  intro d
  induction d with
  |zero=>
   intro j h
   have:j=k:=by omega
   subst this
   exact xO c b
  |succ d e=>intro j h;rw[<-xM aa (a j aa aa)];exact e (j+1) aa
 exact key k 0 aa
theorem qVp(x:BA):rD x 47=if(x.data.toList.takeWhile nA).length=x.data.toList.length then-1 else((x.data.toList.takeWhile nA).length:Int):=by
 have n:=iV x
 have l:tw nA x.data.toList 0=(x.data.toList.takeWhile nA).length:=by simp[tw]
 have a:∀j,∀h:j<x.data.toList.length,x[j]! =x.data.toList[j]:=by
  intro j b
  rw[getElem!_pos x j aa]
  simp[ByteArray.getElem_eq_getElem_data]
 have f:(47:Int).toNat.toUInt8=47:=rfl
 rw[<-l]
 unfold rD
 rw[f,<-n]
 cases hf:(List.range x.data.toList.length).find? (fun j=>x[j]! ==47) with
 |none=>
  rw[List.find?_eq_none] at hf
  simp only
  rw[if_pos]
  refine qFf fun c d=> ?_
  obtain⟨j,b,rfl⟩:=List.getElem_of_mem d
  have:=hf j (gV.2 b)
  rw[a j b] at this
  simpa[nA] using this
 |some k=>
  have d:=List.find?_some hf
  have g:k<x.data.toList.length:=gV.1 (gO hf)
  rw[a k g] at d
  have e:tw nA x.data.toList 0=k:=by
   refine qVo g (fun j h b=> ?_) (by simpa[nA] using d)
   have:=(List.find?_range_eq_some.1 hf).2.2 j b
   rw[a j h] at this
   simpa[nA] using this
  simp only
  rw[e,if_neg aa]
theorem qQt{N:Nat}(x:BA):HF N x (⟨#[47]⟩:BA)=some (rD x 47):=by
 have b:iC (⟨#[47]⟩:BA) 0=some 47:=by kernel_rfl
 simp only[HF,PD,EZ,show(⟨#[47]⟩:BA).size=1 from rfl,mI]
 rw[if_neg ac]
 simp only[j0,j6]
 by_cases h:(⟨#[47]⟩:BA)=x
 .have a:rD (⟨#[47]⟩:BA) 47=0:=by kernel_rfl
  rw[if_pos h,<-h,a]
  rfl
 rw[if_neg h,if_pos ac,b]
 rfl
theorem qTw(x:BA):zX x 47=((x.data.toList.count 47:Nat):Int):=by
 unfold zX
 rw[Go.Lib.foldl_data]
 have key:∀(l:List UInt8) (n:Int),l.foldl (fun n x=>if x==(47:Int).toNat.toUInt8 then n+1 else n) n=n+((l.count 47:Nat):Int):=by
  intro l
  induction l with
  |nil=>intro n;simp
  |cons c l b=>
   intro n
   rw[kC,b,List.count_cons]
   have a:(47:Int).toNat.toUInt8=47:=rfl
   rw[a]
   by_cases h:(c==47)=true
   .simp only[h,jE];omega
   simp only[h,j9,jC];omega
 rw[key]
 omega
theorem qSk{α:Type}(l:List α)(k:Nat)(a b:α):(l++List.replicate (k+1) a).set l.length b=(l++[b])++List.replicate k a:=by
 rw[List.set_append_right _ _ (jP _)]
 simp[List.replicate_succ]
theorem ZF{N n:Nat}{s:BA}(v:n<1000000000)(l:n<=s.size+1)(A:s.size<1000000000):∀(r M:Nat) (x:BA) (done:List BA),(sp x.data.toList).length=r->done.length+r=n->r<M->x.size<1000000000->
  ∃y D,aK (LX N s (⟨#[47]⟩:BA) 0 (n:Int)) M (x,(done.length:Int),done++List.replicate r (⟨#[]⟩:BA))=some (y,((n-1:Nat):Int),D++[(⟨#[]⟩:BA)])/\D.length=n-1/\D++[y]=done++(sp x.data.toList).map oV
 |_,0,_,_,_,_,h,_=>by omega
 |0,_,x,_,h,_,_,_=>by exact absurd (hZ.1 h) (DW _)
 |r+1,M+1,x,done,c,F,G,H=>by
  have E:=iV x
  have f:(if IntKind.wrap .i64 ((s.size:Int)+1)<(n:Int) then IntKind.wrap .i64 ((s.size:Int)+1) else(n:Int))=(n:Int):=by
   rw[bZ aa aa];split<;>omega
  have a:=qEa x.data.toList
  simp only[aK,LX]
  rw[f,bZ (x:=(n:Int)-1) aa aa]
  by_cases hlast:(x.data.toList.takeWhile nA).length=x.data.toList.length
  .rw[if_pos hlast] at a
   rw[a] at c
   simp only[jA,jB] at c
   have b:r=0:=by omega
   subst b
   rw[if_neg ad]
   refine⟨x,done,?_,by omega,?_⟩
   .simp only[j0]
    rw[show(n-1:Nat)=done.length by omega]
    rfl
   rw[a];simp[oV]
  rw[if_neg hlast] at a
  rw[a] at c
  simp only[jA] at c
  have z:0<(sp (x.data.toList.drop ((x.data.toList.takeWhile nA).length+1))).length:=fL.2 (DW _)
  have B:(x.data.toList.takeWhile nA).length<=x.data.toList.length:=(dB _).length_le
  have hix:=qVp x
  rw[if_neg hlast] at hix
  rw[if_pos ad,qQt,hix]
  simp only[j0,show(⟨#[47]⟩:BA).size=1 from rfl]
  have u:(x.data.toList.takeWhile nA)=x.data.toList.take (x.data.toList.takeWhile nA).length:=List.prefix_iff_eq_take.1 (List.takeWhile_prefix _)
  have o:x.extract 0 (x.data.toList.takeWhile nA).length=oV (x.data.toList.takeWhile nA):=by
   apply Go.WideShapes.bytes_inj
   simp only[ByteArray.data_extract,gT,kY,oV,jS,Nat.sub_zero]
   exact u.symm
  have b:(x.extract ((x.data.toList.takeWhile nA).length+1) x.data.toList.length).data.toList=x.data.toList.drop ((x.data.toList.takeWhile nA).length+1):=by
   simp only[ByteArray.data_extract,gT,kY]
   exact fA (by simp only[kP];omega)
  generalize hk:(x.data.toList.takeWhile nA).length=k at*
  rw[if_neg ad,bZ (x:=(k:Int)+0) aa aa,Int.add_zero]
  have d:nD x 0 (k:Int)=some (x.extract 0 k):=by
   have:=tM (s:=x) (i:=0) (e:=k) aa aa
   simpa only[Int.natCast_zero] using this
  rw[d]
  simp only[j0]
  rw[eR ae,bZ (x:=(k:Int)+((1:Nat):Int)) aa aa,show((k:Int)+((1:Nat):Int))=((k+1:Nat):Int) by omega,RV aa]
  simp only[j0,kD]
  rw[qSk,o,bZ aa aa]
  have g:=iV (x.extract (k+1) x.data.toList.length)
  rw[b,kP] at g
  obtain⟨y,D,p,q,t⟩:=ZF (N:=N) v l A r M (x.extract (k+1) x.data.toList.length) (done++[oV (x.data.toList.takeWhile nA)]) (by rw[b];omega) ai aa aa
  refine⟨y,D,?_,q,?_⟩
  .rw[<-p];simp
  rw[t,b,a];simp
termination_by r=>r
theorem qRf{N:Nat}{s:BA}(p:s.size<100000000)(l:2*s.size+1000<N):MK N s (⟨#[47]⟩:BA)=some ((sp s.data.toList).map oV):=by
 have q:=iV s
 have h:=UO s.data.toList
 have o:s.data.toList.count 47<=s.data.toList.length:=List.count_le_length
 have g:iC (⟨#[47]⟩:BA) 0=some 47:=by kernel_rfl
 have a:ML N s (⟨#[47]⟩:BA)=some ((s.data.toList.count 47:Nat):Int):=by
  simp only[ML,show(⟨#[47]⟩:BA).size=1 from rfl]
  rw[if_neg ac,if_pos ac,g]
  simp only[j0]
  rw[<-qTw];rfl
 simp only[MK,QF,mI,a,j0]
 rw[if_neg ac,if_neg ac,if_pos ac]
 simp only[j0]
 rw[bZ (x:=((s.data.toList.count 47:Nat):Int)+1) aa aa,show((s.data.toList.count 47:Nat):Int)+1=(((sp s.data.toList).length:Nat):Int) by omega]
 generalize hn:(sp s.data.toList).length=n at*
 have c:(if IntKind.wrap .i64 ((s.size:Int)+1)<(n:Int) then IntKind.wrap .i64 ((s.size:Int)+1) else(n:Int))=(n:Int):=by
  rw[bZ aa aa];split<;>omega
 rw[c]
 have k:zT 16 (⟨#[]⟩:BA) (n:Int)=some (List.replicate n (⟨#[]⟩:BA)):=by
  unfold zT
  rw[if_pos (by simp only[maxLen];omega),kD]
 rw[k]
 simp only[j0]
 obtain⟨y,D,b,f,e⟩:=ZF (N:=N) (n:=n) (s:=s) aa aa aa n N s [] hn ae aa aa
 simp only[jB,jW] at b e
 rw[show((0:Nat):Int)=0 from rfl] at b
 rw[b]
 simp only[j0]
 rw[eR ai]
 simp only[j0,kD]
 have d:(D++[(⟨#[]⟩:BA)]).set (n-1) y=D++[y]:=by
  rw[<-f,List.set_append_right _ _ (jP _)];simp
 rw[d,e,bZ aa aa,show((n-1:Nat):Int)+1=(n:Int) by omega,qOy aa aa (by rw[gJ,hn];omega)]
 simp only[j0,kD,Int.toNat_zero,jS]
 rw[fA (by rw[gJ,hn];exact jP _)]
theorem qEw{p:UInt8->Bool}{l:List UInt8}:tw p l 0=l.length↔∀c∈l,p c=true:=by
 constructor
 .intro h c a
  have b:(l.takeWhile p).length=l.length:=by simpa[tw] using h
  have d:=(List.takeWhile_prefix p (l:=l)).eq_of_length b
  rw[<-d] at a
  exact IK a
 exact qFf
def zU(x:BA):Bool:=decide (1<=x.data.toList.length/\x.data.toList.length<=24/\∀c∈x.data.toList,cD [1,2,3,4] c=true)
theorem qBc(x:BA):zU x=true↔1<=x.data.toList.length/\x.data.toList.length<=24/\∀c∈x.data.toList,cD [1,2,3,4] c=true:=decide_eq_true_iff
theorem qSf{N:Nat}{x:BA}(f:100<N):(if(decide ((x.size:Int)<1))then(some true) else(if(decide ((x.size:Int)>24))then(some true) else((vW N x 0 (some kdL) ([1,2,3,4])).bind fun e=>some (e !=(x.size:Int)))))=some (!zU x):=by
 have d:=iV x
 have a:∀h:¬(1<=x.data.toList.length/\x.data.toList.length<=24/\∀c∈x.data.toList,cD [1,2,3,4] c=true),zU x=false:=fun h=>jR h
 by_cases h1:1<=x.data.toList.length
 .rw[if_neg ad]
  by_cases h2:x.data.toList.length<=24
  .rw[if_neg ad]
   have b:=IB (N:=N) (s:=x) (ks:=[1,2,3,4]) (i:=0) aa aa ae aa
   rw[show((0:Nat):Int)=0 from rfl] at b
   rw[b]
   simp only[j0]
   refine congrArg some ?_
   by_cases h3:tw (cD [1,2,3,4]) x.data.toList 0=x.data.toList.length
   .have:zU x=true:=jM ⟨h1,h2,qEw.1 h3⟩
    rw[this,h3,d]
    simp
   rw[a fun h=>h3 (qEw.2 h.2.2)]
   simp only[jZ,fH,ne_eq]
   omega
  rw[if_pos ad,a fun h=>h2 h.2.1]
  rfl
 rw[if_pos ad,a fun h=>h1 h.1]
 rfl
theorem qBd{N:Nat}{L:List BA}(f:L.length<1000)(a:100<N):∀(d j M:Nat),j+d=L.length->d<M->aK (HI N L (some kdL)) M (j:Int)=some (if(L.drop j).all zU then .inl () else .inr false)
 |d,j,0,_,h=>by omega
 |0,j,M+1,c,e=>by
  simp only[aK,HI]
  rw[if_neg ad,jQ aa]
  rfl
 |d+1,j,M+1,c,e=>by
  have b:j<L.length:=by omega
  simp only[aK,HI]
  rw[if_pos ad,eR b]
  simp only[j0,qSf a]
  rw[jH b,List.all_cons]
  cases hp:zU L[j] with
  |true=>
   rw[if_neg ae,bZ aa aa]
   simp only[j0,dA]
   exact qBd f a d (j+1) M aa aa
  |false=>simp
theorem UA{N:Nat}{s:BA}(e:s.size<100000000)(d:2*s.size+1000<N):uJ N s=some (iY s.data.toList):=by
 have g:=iV s
 have a:∀h:¬(s.data.toList.length<=80/\(sp s.data.toList).length<=8/\∀p∈sp s.data.toList,1<=p.length/\p.length<=24/\∀c∈p,cD [1,2,3,4] c=true),iY s.data.toList=false:=fun h=>jR h
 simp only[uJ,qRf e d,j0,gJ]
 by_cases h80:s.data.toList.length<=80
 .rw[if_neg ad]
  by_cases h8:(sp s.data.toList).length<=8
  .have b:decide (((sp s.data.toList).length:Int)>8)=false:=jR aa
   simp only[j0,b,j9,jC,TG (show 30<N by omega)]
   have key:=qBd (N:=N) (L:=(sp s.data.toList).map oV) (by rw[gJ];omega) aa _ 0 N (kW _) (by rw[gJ];omega)
   rw[show((0:Nat):Int)=0 from rfl,jS] at key
   rw[key]
   simp only[j0]
   by_cases hp:((sp s.data.toList).map oV).all zU=true
   .have:iY s.data.toList=true:=jM ⟨h80,h8,fun p hp'=>by
     have:=(qBc _).1 (jN.1 hp (oV p) (gN hp'))
     simpa[oV] using this⟩
    rw[if_pos hp,this]
   rw[if_neg hp,a fun h=>hp (jN.2 fun x f=>by
    obtain⟨p,hp',rfl⟩:=fE.1 f
    exact(qBc _).2 (by simpa[oV] using h.2.2 p hp'))]
  have b:decide (((sp s.data.toList).length:Int)>8)=true:=jM aa
  simp only[j0,b,jE]
  rw[a fun h=>h8 h.2.1]
 rw[if_pos ad]
 simp only[j0,jE]
 rw[a fun h=>h80 h.1]
def run{α τ β:Type}(step:τ->α->τ⊕β)(fin:τ->β):List α->τ->β
 |[],t=>fin t
 |x::l,t=>match step t x with
  | .inl t'=>run step fin l t'
  | .inr b=>b
theorem qBj{α τ σ β:Type}{L:List α}(enc:τ->Nat->σ){f:σ->Option (σ⊕β)}(step:τ->α->τ⊕β)(fin:τ->β)(I:Nat->τ->Prop)
  (a:∀t i,∀hi:i<L.length,I i t->f (enc t i)=some (match step t L[i] with| .inl t'=> .inl (enc t' (i+1))| .inr b=> .inr b))
  (e:∀t i,∀hi:i<L.length,∀t',I i t->step t L[i]= .inl t'->I (i+1) t')
  (c:∀t,I L.length t->f (enc t L.length)=some (.inr (fin t))):∀(d i M:Nat) (t:τ),i+d=L.length->d<M->I i t->aK f M (enc t i)=some (run step fin (L.drop i) t)
 |_,_,0,_,_,h,_=>absurd h (gG _)
 |d,i,M+1,t,l,n,g=>by
  cases d with
  |zero=>
   have hi:i=L.length:=by omega
   subst hi
   simp only[aK,c t g,j0,fY,run]
  |succ d=>
   have hi:i<L.length:=by omega
   have k:L.drop i=L[i]::L.drop (i+1):=(fR hi).symm
   simp only[aK,a t i hi g,j0]
   rw[k]
   simp only[run]
   cases hs:step t L[i] with
   |inl t'=>
    simp only
    exact qBj enc step fin I a e c d (i+1) M t' aa aa (e t i hi t' g hs)
   |inr b=>rfl
theorem yX{α τ σ β:Type}{L:List α}(enc:τ->Nat->σ){f:σ->Option (σ⊕β)}(step:τ->α->τ⊕β)(fin:τ->β)(I:Nat->τ->Prop)
  (a:∀t i,∀hi:i<L.length,I i t->f (enc t i)=some (match step t L[i] with| .inl t'=> .inl (enc t' (i+1))| .inr b=> .inr b))
  (d:∀t i,∀hi:i<L.length,∀t',I i t->step t L[i]= .inl t'->I (i+1) t')
  (c:∀t,I L.length t->f (enc t L.length)=some (.inr (fin t))) {M:Nat} {t:τ} (g:L.length<M) (e:I 0 t):aK f M (enc t 0)=some (run step fin L t):=by
 have:=qBj enc step fin I a d c L.length 0 M t aa g e
 rw[jS] at this;exact this
theorem zF{α τ β:Type}{step:τ->α->τ⊕β}{fin:τ->β}(g:τ->α->τ)(h:∀t x,step t x= .inl (g t x)):∀(l:List α) (t:τ),run step fin l t=fin (l.foldl g t)
 |[],_=>rfl
 |x::l,t=>by simp only[run,h,kC];exact zF g h l _
theorem HN{α:Type}{l:List α}{i:Nat}(h:i<l.length):l.drop i=l[i]::l.drop (i+1):=(fR h).symm
abbrev bM:=BA×BA
def blt(a b:BA):Bool:=Op.bytesLess a.toList b.toList
theorem qMb{a b:BA}(h:a.toList=b.toList):a=b:=by
 have c:(a.toList==b.toList)=true:=by rw[h];exact fC _
 rw[mI] at c
 exact kV c
theorem YD:∀a:List UInt8,Op.bytesLess a a=false
 |[]=>rfl
 |x::a=>by simp[Op.bytesLess,YD a]
theorem ZK:∀a b c:List UInt8,Op.bytesLess a b=true->Op.bytesLess b c=true->Op.bytesLess a c=true
 |_,_,[],_,h=>by simp[Op.bytesLess] at h
 |_,[],_::_,h,_=>by simp[Op.bytesLess] at h
 |[],_::_,_::_,_,_=>rfl
 |x::a,y::b,z::c,d,e=>by
  simp only[Op.bytesLess,fI,j6,jJ,kF] at d e ⊢
  rcases d with d|⟨rfl,d⟩<;>rcases e with e|⟨rfl,e⟩
  .exact .inl (UInt8.lt_trans d e)
  .exact .inl d
  .exact .inl e
  exact .inr ⟨rfl,ZK a b c d e⟩
theorem YS:∀a b:List UInt8,Op.bytesLess a b=true\/a=b\/Op.bytesLess b a=true
 |[],[]=> .inr (.inl rfl)
 |[],_::_=> .inl rfl
 |_::_,[]=> .inr (.inr rfl)
 |x::a,y::b=>by
  simp only[Op.bytesLess,fI,j6,jJ,kF,kL]
  rcases YS a b with h|h|h
  .rcases Nat.lt_trichotomy x.toNat y.toNat with g|g|g
   .exact .inl (.inl (UInt8.lt_iff_toNat_lt.2 g))
   .have g:=UInt8.toNat_inj.1 g;exact .inl (.inr ⟨g,h⟩)
   exact .inr (.inr (.inl (UInt8.lt_iff_toNat_lt.2 g)))
  .rcases Nat.lt_trichotomy x.toNat y.toNat with g|g|g
   .exact .inl (.inl (UInt8.lt_iff_toNat_lt.2 g))
   .have g:=UInt8.toNat_inj.1 g;exact .inr (.inl ⟨g,h⟩)
   exact .inr (.inr (.inl (UInt8.lt_iff_toNat_lt.2 g)))
  rcases Nat.lt_trichotomy x.toNat y.toNat with g|g|g
  .exact .inl (.inl (UInt8.lt_iff_toNat_lt.2 g))
  .have g:=UInt8.toNat_inj.1 g;exact .inr (.inr (.inr ⟨g.symm,h⟩))
  exact .inr (.inr (.inl (UInt8.lt_iff_toNat_lt.2 g)))
theorem yV(a:BA):blt a a=false:=YD _
theorem CZ{a b c:BA}(d:blt a b=true)(e:blt b c=true):blt a c=true:=ZK _ _ _ d e
theorem NG(a b:BA):blt a b=true\/a=b\/blt b a=true:=by
 rcases YS a.toList b.toList with h|h|h
 .exact .inl h
 .exact .inr (.inl (qMb h))
 exact .inr (.inr h)
theorem qAw{a b:BA}(h:blt a b=true):blt b a=false:=by
 cases h2:blt b a with
 |false=>rfl
 |true=>have:=CZ h h2;rw[yV] at this;cases this
theorem OH{a b:BA}(h:blt a b=true):a≠b:=by rintro rfl;rw[yV] at h;cases h
def Asc(L:List bM):Prop:=L.Pairwise fun f g=>blt f.1 g.1=true
def iD:List bM->BA->Option BA
 |[],_=>none
 |f::L,p=>if f.1=p then some f.2 else iD L p
def iQ:List bM->BA->BA->List bM
 |[],p,b=>[(p,b)]
 |f::L,p,b=>if blt p f.1 then(p,b)::f::L else if f.1=p then(p,b)::L else f::iQ L p b
def oE(L:List bM)(p:BA):List bM:=L.filter fun f=>decide (f.1≠p)
theorem MO{L:List bM}{p:BA}(h:∀f∈L,blt p f.1=true):iD L p=none:=by
 induction L with
 |nil=>rfl
 |cons f L c=>
  have a:=h f (jL ..)
  simp only[iD]
  rw[if_neg (fun e=>by rw[e,yV] at a;cases a)]
  exact c fun g b=>h g (jO _ b)
theorem qRc{L:List bM}{p b:BA}(h:iD L p=some b):(p,b)∈L:=by
 induction L with
 |nil=>simp[iD] at h
 |cons f L a=>
  simp only[iD] at h
  split at h
  .rename_i e;simp only[jG] at h;subst h;subst e;exact jL ..
  exact jO _ (a h)
theorem QY{L:List bM}(b:Asc L){f:bM}(h:f∈L):iD L f.1=some f.2:=by
 induction L with
 |nil=>cases h
 |cons g L c=>
  have a:=jV.1 b
  rcases jI.1 h with rfl|h
  .simp[iD]
  simp only[iD]
  rw[if_neg (OH (a.1 f h)),c a.2 h]
theorem Asc.ext:∀{L K:List bM},Asc L->Asc K->(∀p,iD L p=iD K p)->L=K
 |[],[],_,_,_=>rfl
 |[],f::K,_,_,h=>by have:=h f.1;simp[iD] at this
 |f::L,[],_,_,h=>by have:=h f.1;simp[iD] at this
 |f::L,g::K,k,d,h=>by
  have hL':=jV.1 k
  have hK':=jV.1 d
  have e:f.1=g.1:=by
   rcases NG f.1 g.1 with a|a|a
   .have c:=h f.1
    rw[MO (L:=g::K) (fun x b=>by
     rcases jI.1 b with rfl|b
     .exact a
     exact CZ a (hK'.1 x b))] at c
    simp[iD] at c
   .exact a
   have c:=h g.1
   rw[MO (L:=f::L) (fun x b=>by
    rcases jI.1 b with rfl|b
    .exact a
    exact CZ a (hL'.1 x b))] at c
   simp[iD] at c
  have a:f.2=g.2:=by have:=h f.1;rw[e] at this;simpa[iD,e] using this
  have b:f=g:=Prod.ext e a
  subst b
  congr 1
  refine Asc.ext hL'.2 hK'.2 fun p=> ?_
  by_cases hp:f.1=p
  .subst hp
   rw[MO hL'.1,MO hK'.1]
  have:=h p
  simpa[iD,hp] using this
theorem zG{L:List bM}{p b:BA}{f:bM}(h:f∈iQ L p b):f=(p,b)\/f∈L:=by
 induction L with
 |nil=>simp[iQ] at h;exact .inl h
 |cons g L a=>
  simp only[iQ] at h
  split at h
  .rcases jI.1 h with h|h
   .exact .inl h
   exact .inr h
  split at h
  .rcases jI.1 h with h|h
   .exact .inl h
   exact .inr (jO _ h)
  rcases jI.1 h with h|h
  .exact .inr (h▸jL ..)
  rcases a h with h|h
  .exact .inl h
  exact .inr (jO _ h)
theorem Asc.put{L:List bM}(h:Asc L)(p b:BA):Asc (iQ L p b):=by
 induction L with
 |nil=>exact List.pairwise_singleton _ _
 |cons g L f=>
  have h':=jV.1 h
  simp only[iQ]
  split
  .rename_i d
   refine jV.2 ⟨fun x a=> ?_,h⟩
   rcases jI.1 a with rfl|a
   .exact d
   exact CZ d (h'.1 x a)
  rename_i d
  split
  .rename_i e
   exact jV.2 ⟨fun x a=>by have:=h'.1 x a;rw[e] at this;exact this,h'.2⟩
  rename_i e
  refine jV.2 ⟨fun x a=> ?_,f h'.2⟩
  rcases zG a with rfl|a
  .rcases NG g.1 p with c|c|c
   .exact c
   .exact absurd c e
   exact absurd c d
  exact h'.1 x a
theorem TH{L:List bM}(h:Asc L)(p b q:BA):iD (iQ L p b) q=if p=q then some b else iD L q:=by
 induction L with
 |nil=>simp[iQ,iD]
 |cons g L a=>
  have h':=jV.1 h
  simp only[iQ]
  split
  .simp[iD]
  rename_i h1
  split
  .rename_i h2
   subst h2
   simp only[iD]
   split<;>simp
  rename_i h2
  simp only[iD,a h'.2]
  by_cases hq:p=q
  .subst hq;simp[h2]
  simp[hq]
theorem Asc.del{L:List bM}(h:Asc L)(p:BA):Asc (oE L p):=List.Pairwise.filter _ h
theorem qCg(L:List bM)(p q:BA):iD (oE L p) q=if p=q then none else iD L q:=by
 induction L with
 |nil=>simp[oE,iD]
 |cons g L a=>
  unfold oE at a ⊢
  rw[kU]
  by_cases hg:g.1=p
  .rw[if_neg (by simp[hg]),a]
   by_cases hq:p=q
   .simp[hq]
   simp only[iD,if_neg hq]
   rw[if_neg (fun e=>hq (hg.symm.trans e))]
  rw[if_pos (by simp[hg])]
  simp only[iD,a]
  by_cases hq:g.1=q
  .rw[if_pos hq,if_pos hq,if_neg (fun e=>hg (hq.trans e.symm))]
  rw[if_neg hq,if_neg hq]
theorem HL(L:List bM)(p b:BA):(iQ L p b).length<=L.length+1:=by
 induction L with
 |nil=>simp[iQ]
 |cons g L a=>
  simp only[iQ]
  split
  .simp
  split
  .simp
  simp only[jA];omega
def qEj(f:bM):Prop:=iY f.1.data.toList=true/\f.2.size<=16384
def WF(L:List bM):Prop:=L.length<=64/\Asc L/\∀f∈L,qEj f
theorem WF.put{L:List bM}(h:WF L){p b:BA}(e:iY p.data.toList=true)(c:b.size<=16384)(d:(iQ L p b).length<=64):WF (iQ L p b):=
 ⟨d,h.2.1.put p b,fun f a=>by
  rcases zG a with rfl|a
  .exact⟨e,c⟩
  exact h.2.2 f a⟩
theorem WF.del{L:List bM}(h:WF L)(p:BA):WF (oE L p):=
 ⟨kX (fF _ _) h.1,h.2.1.del p,fun f a=>h.2.2 f ((gP.1 a).1)⟩
def zS(q:Option BA)(p:BA):Bool:=match q with
 |some x=>blt p x
 |none=>false
def wI:Option BA->List bM->Int
 |_,[]=>0
 |q,f::L=>
  if iY f.1.data.toList=false then 6
  else if q=some f.1 then 10
  else if zS q f.1 then 6
  else if 16384<f.2.size then 2
  else wI (some f.1) L
def lK(L:List bM):Int:=if 64<L.length then 2 else wI none L
theorem ZZ:∀{L:List bM} {q:Option BA},wI q L=0↔Asc L/\(∀f∈L,qEj f)/\∀x,q=some x->∀f∈L,blt x f.1=true
 |[],q=>by simp[wI,Asc]
 |f::L,q=>by
  have p:=ZZ (L:=L) (q:=some f.1)
  simp only[wI]
  by_cases c:iY f.1.data.toList=false
  .rw[if_pos c]
   refine⟨fun h=>by omega,fun h=> ?_⟩
   have:=(h.2.1 f (jL ..)).1;rw[c] at this;cases this
  rw[if_neg c]
  have c:iY f.1.data.toList=true:=by simpa using c
  by_cases k:q=some f.1
  .rw[if_pos k]
   refine⟨fun h=>by omega,fun h=> ?_⟩
   have:=h.2.2 _ k f (jL ..);rw[yV] at this;cases this
  rw[if_neg k]
  by_cases d:zS q f.1=true
  .rw[if_pos d]
   refine⟨fun h=>by omega,fun h=> ?_⟩
   cases q with
   |none=>cases d
   |some x=>have:=h.2.2 x rfl f (jL ..);rw[show zS (some x) f.1=blt f.1 x from rfl,qAw this] at d;cases d
  rw[if_neg d]
  by_cases h4:16384<f.2.size
  .rw[if_pos h4]
   refine⟨fun h=>by omega,fun h=> ?_⟩
   have:=(h.2.1 f (jL ..)).2;omega
  rw[if_neg h4,p]
  have o:∀x,q=some x->blt x f.1=true:=fun x e=>by
   subst e
   rcases NG x f.1 with g|g|g
   .exact g
   .exact absurd (by rw[g]) k
   exact absurd g d
  constructor
  .rintro⟨b,l,n⟩
   refine⟨jV.2 ⟨n f.1 rfl,b⟩,fun g a=> ?_,fun x e g a=> ?_⟩
   .rcases jI.1 a with rfl|a
    .exact⟨c,by omega⟩
    exact l g a
   rcases jI.1 a with rfl|a
   .exact o x e
   exact CZ (o x e) (n f.1 rfl g a)
  rintro⟨b,l,n⟩
  have b:=jV.1 b
  exact⟨b.2,fun g a=>l g (jO _ a),fun x e=>by cases e;exact b.1⟩
theorem rI{L:List bM}:lK L=0↔WF L:=by
 unfold lK WF
 by_cases h:64<L.length
 .rw[if_pos h];exact⟨fun h=>by omega,fun g=>by omega⟩
 rw[if_neg h,ZZ]
 exact⟨fun g=>⟨by omega,g.1,g.2.1⟩,fun g=>⟨g.2.1,g.2.2,fun x a=>by cases a⟩⟩
def VF(c:Int):Unit⊕Int:=if c=0 then .inl () else .inr c
def uF(L:List bM)(i:Nat):Option BA:=if i=0 then none else(L[i-1]?).map (·.1)
theorem ZA{L:List bM}{f:Int->Option (Int⊕(Unit⊕Int))}
  (step:∀i:Nat,∀h:i<L.length,f (i:Int)=if iY L[i].1.data.toList=false then some (.inr (.inr 6)) else if uF L i=some L[i].1 then some (.inr (.inr 10)) else if zS (uF L i) L[i].1 then some (.inr (.inr 6)) else if 16384<L[i].2.size then some (.inr (.inr 2)) else some (.inl ((i:Int)+1)))
  (stop:f (L.length:Int)=some (.inr (.inl ()))):∀(d i M:Nat),i+d=L.length->d<M->aK f M (i:Int)=some (VF (wI (uF L i) (L.drop i)))
 |_,_,0,_,h=>by omega
 |0,i,M+1,c,_=>by
  have:i=L.length:=by omega
  subst this
  simp[aK,stop,wI,VF]
 |d+1,i,M+1,c,g=>by
  have hi:i<L.length:=by omega
  have e:=ZA step stop d (i+1) M aa aa
  have a:(i:Int)+1=((i+1:Nat):Int):=by omega
  have b:uF L (i+1)=some L[i].1:=by simp[uF,hi]
  simp only[aK,step i hi]
  rw[jH hi]
  simp only[wI]
  by_cases h1:iY L[i].1.data.toList=false
  .rw[if_pos h1,if_pos h1];rfl
  rw[if_neg h1,if_neg h1]
  by_cases h2:uF L i=some L[i].1
  .rw[if_pos h2,if_pos h2];rfl
  rw[if_neg h2,if_neg h2]
  by_cases h3:zS (uF L i) L[i].1=true
  .rw[if_pos h3,if_pos h3];rfl
  rw[if_neg h3,if_neg h3]
  by_cases h4:16384<L[i].2.size
  .rw[if_pos h4,if_pos h4];rfl
  rw[if_neg h4,if_neg h4,a]
  simp only[j0]
  rw[e,b]
theorem oY(x y:BA):(x.toList==y.toList)=decide (x=y):=mI x y
theorem qBt{N:Nat}{L:List bM}{P:BA->Option Bool}{f:Int->Option (Int⊕(Unit⊕Int))}(l:∀g∈L,P g.1=some (iY g.1.data.toList))
  (k:∀s1,f s1=if(decide (s1<(List.length L:Int)))then((bS L s1).bind fun a=>(P a.1).bind fun y1=>if(!y1)then(some (.inr (.inr (6)))) else((if(decide (s1>0))then((bS L (IntKind.wrap .i64 (s1-1))).bind fun o=>some (a.1.toList==o.1.toList)) else(some false):Option (Bool)).bind fun o2=>if o2 then(some (.inr (.inr (10)))) else((if(decide (s1>0))then((bS L (IntKind.wrap .i64 (s1-1))).bind fun p=>some (Op.bytesLess a.1.toList p.1.toList)) else(some false):Option (Bool)).bind fun n=>if n then(some (.inr (.inr (6)))) else(if(decide ((ByteArray.size a.2:Int)>16384))then(some (.inr (.inr (2)))) else(some (.inl (IntKind.wrap .i64 (s1+1)))))))) else(some (.inr (.inl ()))))
  (q:100<N):(if(decide ((List.length L:Int)>64))then(some 2) else((aK f N 0).bind fun c=>(match c with| .inl _=>some 0| .inr z=>some z)):Option Int)=some (lK L):=by
 unfold lK
 by_cases h:64<L.length
 .rw[if_pos h,if_pos ad]
 rw[if_neg h,if_neg ad]
 have key:=ZA (L:=L) (f:=f) (fun i hi=>by
  rw[k,if_pos ad,eR hi]
  simp only[j0,l _ (jT hi)]
  by_cases h1:iY L[i].1.data.toList=false
  .rw[if_pos (by rw[h1];rfl),if_pos h1]
  have h1':iY L[i].1.data.toList=true:=by simpa using h1
  rw[if_neg (by rw[h1'];simp),if_neg h1]
  by_cases d:0<i
  .have b:i-1<L.length:=by omega
   have ew:IntKind.wrap .i64 ((i:Int)-1)=((i-1:Nat):Int):=by rw[bZ aa aa];omega
   have eq:uF L i=some (L[i-1]).1:=by simp[uF,b];omega
   rw[ew,eR b,eq]
   have ed:decide ((i:Int)>0)=true:=by simp only[j6];omega
   simp only[j0,oY,ed,jE,j6,jG]
   by_cases h2:L[i].1=(L[i-1]).1
   .rw[if_pos h2,if_pos h2.symm]
   rw[if_neg h2,if_neg (show ¬(L[i-1]).1=L[i].1 from fun e=>h2 e.symm)]
   have el:zS (some (L[i-1]).1) L[i].1=Op.bytesLess L[i].1.toList (L[i-1]).1.toList:=rfl
   rw[el]
   by_cases h3:Op.bytesLess L[i].1.toList (L[i-1]).1.toList=true
   .rw[if_pos h3,if_pos h3]
   rw[if_neg h3,if_neg h3]
   by_cases h4:16384<L[i].2.size
   .rw[if_pos aa,if_pos h4]
   rw[if_neg aa,if_neg h4,bZ aa aa]
  have d:i=0:=by omega
  subst d
  have ed:decide (((0:Nat):Int)>0)=false:=by decide
  have eq:uF L 0=none:=rfl
  have el:zS none (L[0]).1=false:=rfl
  simp only[ed,j9,jC,j0,eq,j6,reduceCtorEq,el]
  by_cases h4:16384<L[0].2.size
  .rw[if_pos aa,if_pos h4]
  rw[if_neg aa,if_neg h4,bZ aa aa]) (by rw[k,if_neg ae]) L.length 0 N aa aa
 rw[show((0:Nat):Int)=0 from rfl] at key
 rw[key,jS]
 have eq:uF L 0=none:=rfl
 rw[eq]
 simp only[j0,VF]
 by_cases hc:wI none L=0
 .rw[if_pos hc,hc]
 rw[if_neg hc]
theorem qQn{N:Nat}{L:List bM}(b:∀g∈L,uJ N g.1=some (iY g.1.data.toList))(a:100<N):QI N L=some (lK L):=
 qBt (f:=QD N L) (P:=uJ N) b (fun _=>rfl) a
theorem MS{N:Nat}{L:List bM}(a:100<N):CC N L=some (lK L):=
 qBt (f:=PP N L) (P:=xC N) (fun _ _=>MV a) (fun _=>rfl) a
end
section
open Go Go.Dc Go.Proofs
def eY:BA:=⟨#[]⟩
def DX(o:Option BA):BA×Bool:=match o with
 |some b=>(b,true)
 |none=>(eY,false)
def UX(L:List bM)(p:BA):BA×Bool:=if lK L=0 then DX (iD L p) else(eY,false)
abbrev xK(N:Nat)(L:List bM):Prop:=∀g∈L,uJ N g.1=some (iY g.1.data.toList)
theorem XR{N:Nat}{L:List bM}{p:BA}(e:L.length<1000000):∀(d i M:Nat),i+d=L.length->d<M->aK (FW N L p) M (i:Int)=some (match iD (L.drop i) p with|some b=> .inr (b,true)|none=> .inl ())
 |_,_,0,_,h=>by omega
 |0,i,M+1,c,_=>by
  simp only[aK,FW]
  rw[if_neg ad,jQ aa]
  rfl
 |d+1,i,M+1,c,f=>by
  have hi:i<L.length:=by omega
  simp only[aK,FW]
  rw[if_pos ad,eR hi,jH hi]
  simp only[j0,oY,j6,iD]
  by_cases he:(L[i]).1=p
  .rw[if_pos he,if_pos he];rfl
  rw[if_neg he,if_neg he,bZ aa aa]
  have a:(i:Int)+1=((i+1:Nat):Int):=by omega
  simp only[j0]
  rw[a,XR e d (i+1) M aa aa]
theorem qMh{N:Nat}{L:List bM}(p:BA)(a:100<N):MB N L p=some (UX L p):=by
 simp only[MB,MS a,j0]
 unfold UX
 by_cases hc:lK L=0
 .rw[if_neg (by simp[hc]),if_pos hc]
  have b:=(rI.1 hc).1
  have:=XR (N:=N) (L:=L) (p:=p) aa L.length 0 N aa aa
  rw[show((0:Nat):Int)=0 from rfl,jS] at this
  rw[this]
  cases iD L p<;>rfl
 rw[if_pos (by simpa using hc),if_neg hc];rfl
def nH(s:BA):Bool:=iY s.data.toList&&decide (4<s.size)&&decide (s.extract (s.size-4) s.size=(⟨#[46,115,114,99]⟩:BA))
theorem qMa{N:Nat}{s:BA}(b:uJ N s=some (iY s.data.toList)):MC N s=some (nH s):=by
 simp only[MC,b,j0]
 unfold nH
 cases hb:iY s.data.toList with
 |false=>simp
 |true=>
  have c:s.size<=80:=by
   have:s.data.toList.length<=80:=(kV hb).1
   have e:=iV s
   omega
  rw[if_pos rfl]
  by_cases h4:4<s.size
  .rw[if_pos ad]
   have a:ByteArray.size (⟨#[46,115,114,99]⟩:BA)=4:=rfl
   simp only[QB,OY,a]
   rw[if_pos ad,show IntKind.wrap .i64 ((s.size:Int)-((4:Nat):Int))=((s.size-4:Nat):Int) by rw[bZ aa aa];omega,MZ aa aa aa]
   simp only[j0,kD,oY,jM h4,dA]
  rw[if_neg ad,jR h4];rfl
theorem qJt{N:Nat}{s:BA}(a:100<N):KX N s=some (nH s):=by
 simp only[KX,MV a,j0]
 unfold nH
 cases hb:iY s.data.toList with
 |false=>simp
 |true=>
  have b:s.size<=80:=by
   have:s.data.toList.length<=80:=(kV hb).1
   have e:=iV s
   omega
  rw[if_pos rfl]
  by_cases h4:4<s.size
  .rw[if_pos ad,show IntKind.wrap .i64 ((s.size:Int)-4)=((s.size-4:Nat):Int) by rw[bZ aa aa];omega,MZ aa aa aa]
   simp only[j0,kD,oY,jM h4,dA]
  rw[if_neg ad,jR h4];rfl
section
variable {κ ν:Type} [DecidableEq κ]
theorem YR:∀(l:List (κ×ν)) (k:κ) (v:ν) (c:κ),dP (nS l k v) c=if c=k then some v else dP l c
 |[],k,v,c=>by simp[nS,dP]
 |p::l,k,v,c=>by
  simp only[nS]
  by_cases h:k=p.1
  .rw[if_pos h]
   simp only[dP]
   by_cases h2:c=k
   .rw[if_pos h2,if_pos h2]
   rw[if_neg h2,if_neg h2,if_neg (by rw[<-h];exact h2)]
  rw[if_neg h]
  simp only[dP]
  rw[YR l k v c]
  by_cases h2:c=p.1
  .rw[if_pos h2,if_neg (fun e=>h (by rw[<-e,h2])),if_pos h2]
  rw[if_neg h2,if_neg h2]
theorem RP[KOrd κ]{l:List (κ×ν)}(a:(l.map (·.1)).Nodup)(k:κ)(v:ν)(c:κ):dP (mset l k v) c=if c=k then some v else dP l c:=by
 rw[<-SH (yY (.refl l) a k v) (CR a k v) c,YR]
theorem RB[KOrd κ]{l:List (κ×ν)}(a:(l.map (·.1)).Nodup)(k:κ)(v:ν):((mset l k v).map (·.1)).Nodup:=
 ((yY (.refl l) a k v).map _).nodup_iff.1 (CR a k v)
end
end
section
open Go Go.Dc
instance decMemB(s:BA)(l:List BA):Decidable (s∈l):=@List.instDecidableMemOfLawfulBEq BA instBEqOfDecidableEq inferInstance s l
abbrev Ex:=Int×Int×Int×BA×List Int
abbrev Dl:=Int×BA×List BA×List Ex
abbrev Sr:=BA×List BA×List Dl
abbrev cH:=Int×Int
abbrev Ps:=Nat×List Ex
abbrev PM(α:Type):=cH⊕(Ps×α)
def aO(ts:List cB)(i:Nat):cB:=ts.getD i (5,⟨#[]⟩,0,0)
def eG{α:Type}(t:cB)(e:Int):cH⊕α:= .inl (t.2.2.2,e)
def bI{α β:Type}(x:cH⊕α)(f:α->cH⊕β):cH⊕β:=
 match x with
 | .inl z=> .inl z
 | .inr a=>f a
def cC(ts:List cB)(k:Int)(s:BA)(i:Nat):Bool:=(aO ts i).1==k&&decide ((aO ts i).2.1=s)
def dU(ts:List cB)(s:BA)(i:Nat):cH⊕Nat:=if cC ts 4 s i then .inr (i+1) else eG (aO ts i) 9
def sM(ts:List cB)(s:BA)(i:Nat):cH⊕Nat:=if cC ts 1 s i then .inr (i+1) else eG (aO ts i) 9
def mG(ts:List cB)(k:Int)(i:Nat):cH⊕(Nat×cB):=if(aO ts i).1=k then .inr (i+1,aO ts i) else eG (aO ts i) 9
def HV:BA:=⟨#[112,97,99,107,97,103,101]⟩
def zH:BA:=⟨#[105,109,112,111,114,116]⟩
def IS:BA:=⟨#[102,117,110,99]⟩
def IV:BA:=⟨#[116,101,115,116]⟩
def IZ:BA:=⟨#[103,101,110]⟩
def JS:BA:=⟨#[105,102]⟩
def IY:BA:=⟨#[116,104,101,110]⟩
def IX:BA:=⟨#[101,108,115,101]⟩
def pX:BA:=⟨#[114,101,97,100]⟩
def pZ:BA:=⟨#[115,105,122,101]⟩
def qB:BA:=⟨#[104,97,115]⟩
def qC:BA:=⟨#[101,110,118]⟩
def rB:BA:=⟨#[102,108,105,112]⟩
def oL:BA:=⟨#[40]⟩
def lU:BA:=⟨#[41]⟩
def qK:BA:=⟨#[44]⟩
def rN:BA:=⟨#[59]⟩
def yC:BA:=⟨#[61]⟩
def UL:BA:=⟨#[45]⟩
def wordsR:List BA:=[HV,zH,IS,IV,IZ,JS,IY,IX,pX,pZ,qB,qC,rB]
def tW(s:BA):Bool:=decide (s∈wordsR)
def mF(ts:List cB)(i:Nat):cH⊕(Nat×cB):=bI (mG ts 1 i) fun p=>if tW p.2.2.1 then eG p.2 9 else .inr p
def nK(ts:List cB)(i:Nat):cH⊕(Nat×cB):=bI (mG ts 3 i) fun p=>if iY p.2.2.1.data.toList then .inr p else eG p.2 9
def wH(ts:List cB)(i:Nat):cH⊕(Nat×cB):=bI (mG ts 3 i) fun p=>if uW p.2.2.1 then .inr p else eG p.2 9
def lQ(t:cB)(x:Ex)(p:Ps):PM Nat:=if p.2.length=256 then eG t 2 else .inr ((p.1,p.2++[x]),p.2.length)
def opsC:List (Int×BA):=[(1,⟨#[43]⟩),(2,⟨#[45]⟩),(3,⟨#[42]⟩),(4,⟨#[47]⟩),(5,⟨#[37]⟩),(6,⟨#[60]⟩),(7,⟨#[61,61]⟩)]
def wN(op:Int):Nat:=if op=6\/op=7 then 1 else if op=1\/op=2 then 2 else 3
def pL(ts:List cB)(level:Nat)(i:Nat)(o:Int×BA):Bool:=cC ts 4 o.2 i&&decide (wN o.1=level)
def mO(ts:List cB)(level:Nat)(i:Nat):Int:=
 match opsC.find? (pL ts level i) with
 |some o=>o.1
 |none=>0
section
variable (ts:List cB) (params:List BA) (E:Ps->PM Nat)
def uX:Nat->List Int->Ps->PM (List Int)
 |0,_,p=>eG (aO ts p.1) 9
 |n+1,l,p=>bI (E p) fun q=>
  if cC ts 4 qK q.1.1 then uX n (l++[(q.2:Int)]) (q.1.1+1,q.1.2)
  else bI (dU ts lU q.1.1) fun i=> .inr ((i,q.1.2),l++[(q.2:Int)])
def vV(p:Ps):PM (List Int):=
 bI (dU ts oL p.1) fun i=>if cC ts 4 lU i then .inr ((i+1,p.2),[]) else uX ts E (ts.length+1) [] (i,p.2)
def sC(t:cB)(p:Ps):PM Nat:=
 bI (dU ts oL p.1) fun i=>
 bI (if t.2.1=pX then
   bI (nK ts i) fun a=>bI (dU ts qK a.1) fun i=>bI (E (i,p.2)) fun q=> .inr (q.1,((6,0,0,a.2.2.1,[(q.2:Int)]):Ex))
  else if t.2.1=pZ then bI (nK ts i) fun a=> .inr ((a.1,p.2),((7,0,0,a.2.2.1,[]):Ex))
  else if t.2.1=qB then bI (nK ts i) fun a=> .inr ((a.1,p.2),((8,0,0,a.2.2.1,[]):Ex))
  else if t.2.1=qC then bI (wH ts i) fun a=> .inr ((a.1,p.2),((9,0,0,a.2.2.1,[]):Ex))
  else bI (mG ts 2 i) fun a=>if a.2.2.2.1>=64 then eG a.2 9 else .inr ((a.1,p.2),((10,a.2.2.2.1,0,⟨#[]⟩,[]):Ex))) fun q=>
 bI (dU ts lU q.1.1) fun i=>lQ t q.2 (i,q.1.2)
def sV(p:Ps):PM Nat:=
 let t:=aO ts p.1
 if t.1=2 then lQ t (1,t.2.2.1,0,⟨#[]⟩,[]) (p.1+1,p.2)
 else if cC ts 4 UL p.1 then bI (mG ts 2 (p.1+1)) fun a=>lQ t (1,IntKind.wrap .i64 (0-a.2.2.2.1),0,⟨#[]⟩,[]) (a.1,p.2)
 else if cC ts 4 oL p.1 then bI (E (p.1+1,p.2)) fun q=>bI (dU ts lU q.1.1) fun i=> .inr ((i,q.1.2),q.2)
 else if t.1≠1 then eG t 9
 else if t.2.1∈[pX,pZ,qB,qC,rB] then sC ts E t (p.1+1,p.2)
 else if tW t.2.1 then eG t 9
 else if cC ts 4 oL (p.1+1) then bI (vV ts E (p.1+1,p.2)) fun q=>lQ t (3,0,0,t.2.1,q.2) q.1
 else match params.findIdx? (fun x=>decide (x=t.2.1)) with
  |some i=>lQ t (2,(i:Int),0,⟨#[]⟩,[]) (p.1+1,p.2)
  |none=>eG t 9
def qA(level:Nat)(S:Ps->PM Nat):Nat->Nat->Ps->PM Nat
 |0,_,p=>eG (aO ts p.1) 9
 |n+1,x,p=>
  if mO ts level p.1=0 then .inr (p,x)
  else bI (S (p.1+1,p.2)) fun q=>bI (lQ (aO ts p.1) (4,0,mO ts level p.1,⟨#[]⟩,[(x:Int),(q.2:Int)]) q.1) fun r=>
   if level=1 then .inr r else qA level S n r.2 r.1
def sX(level:Nat)(S:Ps->PM Nat)(p:Ps):PM Nat:=bI (S p) fun q=>qA ts level S (ts.length+1) q.2 q.1
def IW:Ps->PM Nat:=sX ts 3 (sV ts params E)
def uY:Ps->PM Nat:=sX ts 2 (IW ts params E)
def HW:Ps->PM Nat:=sX ts 1 (uY ts params E)
end
def eN(ts:List cB)(params:List BA):Nat->Ps->PM Nat
 |0,p=>eG (aO ts p.1) 2
 |k+1,p=>
  if cC ts 1 JS p.1 then
   bI (eN ts params k (p.1+1,p.2)) fun a=>bI (sM ts IY a.1.1) fun i=>
   bI (eN ts params k (i,a.1.2)) fun b=>bI (sM ts IX b.1.1) fun j=>
   bI (eN ts params k (j,b.1.2)) fun c=>lQ (aO ts p.1) (5,0,0,⟨#[]⟩,[(a.2:Int),(b.2:Int),(c.2:Int)]) c.1
  else HW ts params (eN ts params k) p
def tO(ts:List cB):Nat->List BA->Nat->cH⊕(Nat×List BA)
 |0,_,i=>eG (aO ts i) 9
 |n+1,l,i=>bI (mF ts i) fun a=>
  if l.length=8 then eG a.2 2
  else if a.2.2.1∈l then eG a.2 10
  else if cC ts 4 qK a.1 then tO ts n (l++[a.2.2.1]) (a.1+1)
  else bI (dU ts lU a.1) fun j=> .inr (j,l++[a.2.2.1])
def sB(ts:List cB)(i:Nat):cH⊕(Nat×List BA):=
 bI (dU ts oL i) fun j=>if cC ts 4 lU j then .inr (j+1,[]) else tO ts (ts.length+1) [] j
def mH(s:BA):Int:=if s=IS then 1 else if s=IV then 2 else if s=IZ then 3 else 0
def oK(ts:List cB)(before:List Dl)(i:Nat):cH⊕(Nat×Dl):=
 let t:=aO ts i
 let k:=mH t.2.1
 if t.1≠1\/k=0 then eG t 9
 else if before.length=64 then eG t 2
 else bI (if k=3 then nK ts (i+1) else mF ts (i+1)) fun a=>
  if before.any (fun d=>d.1==k&&decide (d.2.1=a.2.2.1)) then eG a.2 10
  else bI (if k=1 then sB ts a.1 else .inr (a.1,[])) fun b=>
   bI (dU ts yC b.1) fun j=>bI (eN ts b.2 32 (j,[])) fun c=>
   bI (dU ts rN c.1.1) fun m=> .inr (m,(k,a.2.2.1,b.2,c.1.2))
def qV(ts:List cB)(pkg:BA):Nat->List BA->Nat->cH⊕(Nat×List BA)
 |0,_,i=>eG (aO ts i) 9
 |n+1,l,i=>
  if cC ts 1 zH i then
   if l.length=8 then eG (aO ts i) 2
   else bI (mF ts (i+1)) fun a=>
    if a.2.2.1=pkg\/a.2.2.1∈l then eG a.2 10
    else bI (dU ts rN a.1) fun j=>qV ts pkg n (l++[a.2.2.1]) j
  else .inr (i,l)
def tQ(ts:List cB):Nat->List Dl->Nat->cH⊕List Dl
 |0,_,i=>eG (aO ts i) 9
 |n+1,l,i=>if(aO ts i).1=5 then .inr l else bI (oK ts l i) fun a=>tQ ts n (l++[a.2]) a.1
def tS(ts:List cB):cH⊕Sr:=
 bI (sM ts HV 0) fun i=>bI (mF ts i) fun a=>bI (dU ts rN a.1) fun j=>
 bI (qV ts a.2.2.1 (ts.length+1) [] j) fun b=>bI (tQ ts (ts.length+1) [] b.1) fun l=> .inr (a.2.2.1,b.2,l)
def sL:Sr:=(⟨#[]⟩,[],[])
def lJ(s:BA):Sr×Int×Int:=
 if(lD s).2.2≠0 then(sL,(lD s).2.1,(lD s).2.2)
 else match tS (lD s).1 with
  | .inl z=>(sL,z.1,z.2)
  | .inr f=>(f,0,0)
def OkT(ts:List cB):Prop:=ts≠[]/\∀i,i<ts.length->((aO ts i).1=5↔i+1=ts.length)
theorem iP{α β:Type}{x:cH⊕α}{f:α->cH⊕β}{b:β}(h:bI x f= .inr b):∃a,x= .inr a/\f a= .inr b:=by
 cases x with
 |inl z=>cases h
 |inr a=>exact⟨a,rfl,h⟩
section
variable {ts:List cB} {params:List BA} {E S:Ps->PM Nat}
theorem OkT.next(h:OkT ts){i:Nat}(hi:i<ts.length)(a:(aO ts i).1≠5):i+1<ts.length:=by
 have b:¬i+1=ts.length:=fun e=>a ((h.2 i hi).2 e)
 omega
theorem NJ{k:Int}{s:BA}{i:Nat}(h:cC ts k s i=true):(aO ts i).1=k:=by
 simp only[cC,jJ,kF] at h;exact h.1
theorem mD(h:OkT ts){k:Int}{s:BA}{i:Nat}(hi:i<ts.length)(b:k≠5)(a:cC ts k s i=true):i+1<ts.length:=h.next hi (by rw[NJ a];exact b)
theorem mC(h:OkT ts){s:BA}{i j:Nat}(hi:i<ts.length)(a:dU ts s i= .inr j):j=i+1/\j<ts.length/\cC ts 4 s i=true:=by
 unfold dU at a
 split at a
 .rename_i h2
  obtain rfl:=Sum.inr.inj a
  exact⟨rfl,mD h hi ac h2,h2⟩
 cases a
theorem DA(h:OkT ts){s:BA}{i j:Nat}(hi:i<ts.length)(a:sM ts s i= .inr j):j=i+1/\j<ts.length/\cC ts 1 s i=true:=by
 unfold sM at a
 split at a
 .rename_i h2
  obtain rfl:=Sum.inr.inj a
  exact⟨rfl,mD h hi ac h2,h2⟩
 cases a
theorem wC(h:OkT ts){k:Int}(c:k≠5){i:Nat}{a:Nat×cB}(hi:i<ts.length)(b:mG ts k i= .inr a):a=(i+1,aO ts i)/\i+1<ts.length/\(aO ts i).1=k:=by
 unfold mG at b
 split at b
 .rename_i h2
  obtain rfl:=Sum.inr.inj b
  exact⟨rfl,h.next hi (by rw[h2];exact c),h2⟩
 cases b
theorem sS(h:OkT ts){i:Nat}{a:Nat×cB}(hi:i<ts.length)(f:mF ts i= .inr a):a=(i+1,aO ts i)/\i+1<ts.length/\(aO ts i).1=1/\tW (aO ts i).2.1=false:=by
 obtain⟨b,g,c⟩:=iP f
 obtain⟨rfl,d,e⟩:=wC h ac hi g
 split at c
 .cases c
 rename_i g3
 obtain rfl:=Sum.inr.inj c
 exact⟨rfl,d,e,by simpa using g3⟩
theorem tN(h:OkT ts){i:Nat}{a:Nat×cB}(hi:i<ts.length)(f:nK ts i= .inr a):a=(i+1,aO ts i)/\i+1<ts.length/\(aO ts i).1=3/\iY (aO ts i).2.1.data.toList=true:=by
 obtain⟨b,g,c⟩:=iP f
 obtain⟨rfl,d,e⟩:=wC h ac hi g
 split at c
 .rename_i g3
  obtain rfl:=Sum.inr.inj c
  exact⟨rfl,d,e,g3⟩
 cases c
theorem qAo(h:OkT ts){i:Nat}{a:Nat×cB}(hi:i<ts.length)(f:wH ts i= .inr a):a=(i+1,aO ts i)/\i+1<ts.length/\(aO ts i).1=3/\uW (aO ts i).2.1=true:=by
 obtain⟨b,g,c⟩:=iP f
 obtain⟨rfl,d,e⟩:=wC h ac hi g
 split at c
 .rename_i g3
  obtain rfl:=Sum.inr.inj c
  exact⟨rfl,d,e,g3⟩
 cases c
theorem qPw{t:cB}{x:Ex}{p q:Ps}{i:Nat}(h:lQ t x p= .inr (q,i)):q=(p.1,p.2++[x])/\i=p.2.length/\p.2.length≠256:=by
 unfold lQ at h
 split at h
 .cases h
 rename_i h1
 obtain⟨rfl,rfl⟩:=Prod.mk.inj (Sum.inr.inj h)
 exact⟨rfl,rfl,h1⟩
def ET(ts:List cB)(p q:Ps):Prop:=p.1<q.1/\q.1<ts.length/\p.2.length<=q.2.length/\q.2.length<=256
def lY(ts:List cB)(S:Ps->PM Nat):Prop:=∀(p q:Ps) (x:Nat),p.1<ts.length->p.2.length<=256->S p= .inr (q,x)->ET ts p q/\x<q.2.length
theorem wD{t:cB}{x:Ex}{p r q:Ps}{i:Nat}(b:p.1<r.1)(c:r.1<ts.length)(d:p.2.length<=r.2.length)(a:r.2.length<=256)(h:lQ t x r= .inr (q,i)):ET ts p q/\i<q.2.length:=by
 obtain⟨rfl,rfl,g⟩:=qPw h
 refine⟨⟨b,c,?_,?_⟩,?_⟩<;>simp only[jF,jA,jB]<;>omega
theorem SQ(h:OkT ts)(f:lY ts E):∀(n:Nat) (l:List Int) (p q:Ps) (x:List Int),p.1<ts.length->p.2.length<=256->uX ts E n l p= .inr (q,x)->ET ts p q
 |0,_,_,_,_,_,_,b=>by cases b
 |n+1,l,p,q,x,v,t,b=>by
  obtain⟨a,s,c⟩:=iP (show bI (E p) _=_ from b)
  obtain⟨⟨D,d,k,e⟩,F⟩:=f p a.1 a.2 v t s
  split at c
  .rename_i hc
   have g:=mD h d ac hc
   obtain⟨y,z,A,B⟩:=SQ h f n _ (a.1.1+1,a.1.2) q x g e c
   exact⟨by simp only at y;omega,z,by simp only at A;omega,B⟩
  obtain⟨j,u,r⟩:=iP c
  obtain⟨rfl,o,-⟩:=mC h d u
  obtain⟨rfl,-⟩:=Prod.mk.inj (Sum.inr.inj r)
  exact⟨by simp only;omega,o,k,e⟩
theorem XB(h:OkT ts)(e:lY ts E){p q:Ps}{x:List Int}(f:p.1<ts.length)(c:p.2.length<=256)(d:vV ts E p= .inr (q,x)):ET ts p q:=by
 obtain⟨i,hi,a⟩:=iP d
 obtain⟨rfl,b,-⟩:=mC h f hi
 split at a
 .rename_i hc
  obtain⟨rfl,-⟩:=Prod.mk.inj (Sum.inr.inj a)
  exact⟨by simp only;omega,mD h b ac hc,jP _,c⟩
 obtain⟨g,k,l,n⟩:=SQ h e _ _ (p.1+1,p.2) q x b c a
 exact⟨by simp only at g;omega,k,l,n⟩
theorem qKw(h:OkT ts)(K:lY ts E){t:cB}{p q:Ps}{x:Nat}(R:p.1<ts.length)(n:p.2.length<=256)(D:sC ts E t p= .inr (q,x)):ET ts p q/\x<q.2.length:=by
 obtain⟨i,hi,F⟩:=iP D
 obtain⟨rfl,l,-⟩:=mC h R hi
 obtain⟨a,g,G⟩:=iP F
 obtain⟨j,M,H⟩:=iP G
 have key:ET ts (p.1+1,p.2) a.1:=by
  split at g
  .obtain⟨b,f,e⟩:=iP g
   obtain⟨rfl,k,-⟩:=tN h l f
   obtain⟨c,y,z⟩:=iP e
   obtain⟨rfl,S,-⟩:=mC h k y
   obtain⟨d,A,B⟩:=iP z
   obtain⟨⟨o,s,u,v⟩,-⟩:=K (p.1+1+1+1,p.2) d.1 d.2 S n A
   obtain rfl:=Sum.inr.inj B
   exact⟨by simp only at o ⊢;omega,s,u,v⟩
  split at g
  .obtain⟨b,f,e⟩:=iP g
   obtain⟨rfl,k,-⟩:=tN h l f
   obtain rfl:=Sum.inr.inj e
   exact⟨by simp only;omega,k,jP _,n⟩
  split at g
  .obtain⟨b,f,e⟩:=iP g
   obtain⟨rfl,k,-⟩:=tN h l f
   obtain rfl:=Sum.inr.inj e
   exact⟨by simp only;omega,k,jP _,n⟩
  split at g
  .obtain⟨b,f,e⟩:=iP g
   obtain⟨rfl,k,-⟩:=qAo h l f
   obtain rfl:=Sum.inr.inj e
   exact⟨by simp only;omega,k,jP _,n⟩
  obtain⟨b,f,e⟩:=iP g
  obtain⟨rfl,k,-⟩:=wC h ac l f
  split at e
  .cases e
  obtain rfl:=Sum.inr.inj e
  exact⟨by simp only;omega,k,jP _,n⟩
 obtain⟨o,s,u,v⟩:=key
 obtain⟨rfl,e,-⟩:=mC h s M
 exact wD (r:=(a.1.1+1,a.1.2)) (by simp only at o ⊢;omega) e u v H
theorem RF(h:OkT ts)(u:lY ts E):lY ts (sV ts params E):=by
 intro p q x o c b
 unfold sV at b
 dsimp only at b
 split at b
 .rename_i hk
  exact wD (r:=(p.1+1,p.2)) al (h.next o (by rw[hk];decide)) (jP _) c b
 split at b
 .rename_i hc
  have g:=mD h o ac hc
  obtain⟨a,n,l⟩:=iP b
  obtain⟨rfl,t,-⟩:=wC h ac g n
  exact wD (r:=(p.1+1+1,p.2)) al t (jP _) c l
 split at b
 .rename_i hc
  have g:=mD h o ac hc
  obtain⟨a,n,l⟩:=iP b
  obtain⟨⟨d,e,f,k⟩,s⟩:=u (p.1+1,p.2) a.1 a.2 g c n
  obtain⟨j,y,v⟩:=iP l
  obtain⟨rfl,t,-⟩:=mC h e y
  obtain⟨rfl,rfl⟩:=Prod.mk.inj (Sum.inr.inj v)
  exact⟨⟨by simp only at d ⊢;omega,t,f,k⟩,s⟩
 split at b
 .cases b
 rename_i hk
 have g:=h.next o (show(aO ts p.1).1≠5 by simp only[ne_eq,Decidable.not_not] at hk;rw[hk];decide)
 split at b
 .obtain⟨⟨d,e,f,k⟩,s⟩:=qKw h u (p:=(p.1+1,p.2)) g c b
  exact⟨⟨by simp only at d;omega,e,f,k⟩,s⟩
 split at b
 .cases b
 split at b
 .obtain⟨a,n,l⟩:=iP b
  obtain⟨d,e,f,k⟩:=XB h u (p:=(p.1+1,p.2)) g c n
  exact wD (by simp only at d;omega) e f k l
 split at b
 .exact wD (r:=(p.1+1,p.2)) al g (jP _) c b
 cases b
theorem qBg(h:OkT ts){level:Nat}(d:lY ts S):∀(n x:Nat) (p q:Ps) (y:Nat),p.1<ts.length->p.2.length<=256->x<p.2.length->qA ts level S n x p= .inr (q,y)->p.1<=q.1/\q.1<ts.length/\p.2.length<=q.2.length/\q.2.length<=256/\y<q.2.length
 |0,_,_,_,_,_,_,_,b=>by cases b
 |n+1,x,p,q,y,k,e,F,b=>by
  unfold qA at b
  split at b
  .obtain⟨rfl,rfl⟩:=Prod.mk.inj (Sum.inr.inj b)
   exact⟨jP _,k,jP _,e,F⟩
  rename_i hop
  have f:(aO ts p.1).1≠5:=by
   intro f
   apply hop
   unfold mO
   have:opsC.find? (pL ts level p.1)=none:=by
    rw[List.find?_eq_none]
    intro o _ c
    simp only[pL,jJ] at c
    have:=NJ c.1
    omega
   rw[this]
  have g:=h.next k f
  obtain⟨a,D,B⟩:=iP b
  obtain⟨⟨u,v,z,A⟩,R⟩:=d (p.1+1,p.2) a.1 a.2 g e D
  obtain⟨r,E,c⟩:=iP B
  obtain⟨⟨Y,l,M,s⟩,t⟩:=wD (ts:=ts) (p:=p) (by simp only at u;omega) v z A E
  split at c
  .obtain⟨rfl,rfl⟩:=Prod.mk.inj (Sum.inr.inj c)
   exact⟨by omega,l,M,s,t⟩
  obtain⟨U,G,V,H,K⟩:=qBg h d n _ _ q y l s t c
  exact⟨by omega,G,by omega,H,K⟩
theorem yW(h:OkT ts){level:Nat}(b:lY ts S):lY ts (sX ts level S):=by
 intro p q x n l f
 obtain⟨a,k,g⟩:=iP f
 obtain⟨⟨t,c,u,d⟩,e⟩:=b p a.1 a.2 n l k
 obtain⟨v,o,y,r,s⟩:=qBg h b _ _ _ q x c d e g
 exact⟨⟨by omega,o,by omega,r⟩,s⟩
theorem vX(h:OkT ts):∀k,lY ts (eN ts params k)
 |0=>fun _ _ _ _ _ d=>by cases d
 |k+1=>by
  intro p q x n e d
  unfold eN at d
  split at d
  .rename_i hc
   have g:=mD h n ac hc
   obtain⟨a,U,H⟩:=iP d
   obtain⟨⟨o,r,s,t⟩,-⟩:=vX h k (p.1+1,p.2) a.1 a.2 g e U
   obtain⟨i,hi,K⟩:=iP H
   obtain⟨rfl,F,-⟩:=DA h r hi
   obtain⟨b,f,M⟩:=iP K
   obtain⟨⟨u,v,y,z⟩,-⟩:=vX h k (a.1.1+1,a.1.2) b.1 b.2 F t f
   obtain⟨j,V,R⟩:=iP M
   obtain⟨rfl,G,-⟩:=DA h v V
   obtain⟨c,l,S⟩:=iP R
   obtain⟨⟨A,B,D,E⟩,-⟩:=vX h k (b.1.1+1,b.1.2) c.1 c.2 G z l
   simp only at o s u y A D
   exact wD aa B aa E S
  exact yW h (yW h (yW h (RF h (vX h k)))) p q x n e d
end
theorem qEp{ts:List cB}{i:Nat}(hi:i<ts.length):bS ts (i:Int)=some (aO ts i):=by
 rw[eR hi]
 simp[aO,jU,hi]
theorem nQ{i:Nat}(h:i<1000000):IntKind.wrap .i64 ((i:Int)+1)=((i+1:Nat):Int):=by rw[bZ aa aa];omega
section
variable {N:Nat} {ts:List cB} {pr:List BA} {b:List Ex} {i:Nat}
theorem sT(hi:i<ts.length):rG N (ts,(i:Int),pr,b)=some ((ts,(i:Int),pr,b),aO ts i):=by
 simp only[rG,qEp hi,j0]
theorem DU(hi:i<ts.length)(k:Int)(s:BA):vR N (ts,(i:Int),pr,b) k s=some ((ts,(i:Int),pr,b),cC ts k s i):=by
 simp only[vR,sT hi,j0,mI,cC]
 cases h:(aO ts i).1==k<;>simp[h]
theorem TU(hi:i<ts.length)(a:ts.length<1000000)(s:BA):CD N (ts,(i:Int),pr,b) s=some (Sum.map id (fun j:Nat=>(ts,(j:Int),pr,b)) (sM ts s i)):=by
 simp only[CD,DU hi,sT hi,j0,lS,sM]
 cases h:cC ts 1 s i
 .simp[eG]
 simp[nQ (show i<1000000 by omega)]
theorem sW(hi:i<ts.length)(a:ts.length<1000000)(s:BA):pE N (ts,(i:Int),pr,b) s=some (Sum.map id (fun j:Nat=>(ts,(j:Int),pr,b)) (dU ts s i)):=by
 simp only[pE,DU hi,sT hi,j0,lS,dU]
 cases h:cC ts 4 s i
 .simp[eG]
 simp[nQ (show i<1000000 by omega)]
theorem CX(hi:i<ts.length)(a:ts.length<1000000)(s:BA):vN N (ts,(i:Int),pr,b) s=some (if cC ts 4 s i then((ts,((i+1:Nat):Int),pr,b),true) else((ts,(i:Int),pr,b),false)):=by
 simp only[vN,DU hi,j0]
 cases h:cC ts 4 s i
 .simp
 simp[nQ (show i<1000000 by omega)]
theorem IF(hi:i<ts.length)(f:ts.length<1000000){k:Int}(e:k≠5):xB N (ts,(i:Int),pr,b) k=some (Sum.map id (fun a:Nat×cB=>((ts,(a.1:Int),pr,b),a.2)) (mG ts k i)):=by
 simp only[xB,sT hi,j0,lS,mG]
 have d:(k !=5)=true:=by simpa using e
 by_cases h:(aO ts i).1=k
 .have c:((aO ts i).1 !=k)=false:=by simp[h]
  simp only[c,d,j9,jC,jE,j0,if_pos h,nQ (show i<1000000 by omega),kE]
 have c:((aO ts i).1 !=k)=true:=by simp[h]
 simp only[c,jE,j0,if_neg h,eG,Sum.map_inl,id]
theorem orS(a b:Bool):(if a then some a else some b)=some (a||b):=by
 cases a<;>simp
theorem qVq(b:Bool):(if b then some true else some false)=some b:=by cases b<;>simp
theorem XY(s:BA):GZ N s=some (tW s):=by
 simp only[GZ,mI,tW,wordsR,HV,zH,IS,IV,IZ,JS,IY,IX,pX,pZ,qB,qC,rB,jI,gS,or_false]
 simp only[orS,j0,qVq,jG]
 simp only[Bool.decide_or]
theorem NS(hi:i<ts.length)(c:ts.length<1000000):wZ N (ts,(i:Int),pr,b)=some (Sum.map id (fun a:Nat×cB=>((ts,(a.1:Int),pr,b),a.2)) (mF ts i)):=by
 simp only[wZ,IF hi c (show(1:Int)≠5 by decide),j0,lS,mF]
 cases h:mG ts 1 i with
 |inl z=>simp[bI]
 |inr a=>
  simp only[kE,XY,j0,bI]
  cases h2:tW a.2.2.1<;>simp[eG]
theorem NV(hi:i<ts.length)(d:ts.length<1000000)(g:300000<N)(f:∀j,(aO ts j).2.1.size<100000):wY N (ts,(i:Int),pr,b)=some (Sum.map id (fun a:Nat×cB=>((ts,(a.1:Int),pr,b),a.2)) (nK ts i)):=by
 simp only[wY,IF hi d (show(3:Int)≠5 by decide),j0,lS,nK]
 cases h:mG ts 3 i with
 |inl z=>simp[bI]
 |inr a=>
  have c:a.2=aO ts i:=by
   unfold mG at h
   split at h
   .rw[<-Sum.inr.inj h]
   cases h
  have e:=f i
  rw[<-c] at e
  simp only[kE,UA (N:=N) (s:=a.2.2.1) aa aa,j0,bI]
  cases h2:iY a.2.2.1.data.toList<;>simp[eG]
theorem zI(t:cB)(x:Ex)(d:b.length<=256)(n:Nat):tK N (ts,(n:Int),pr,b) t x=some (Sum.map id (fun q:Ps×Nat=>((ts,(q.1.1:Int),pr,q.1.2),(q.2:Int))) (lQ t x (n,b))):=by
 simp only[tK,lS,j0,lQ]
 by_cases h:b.length=256
 .simp[h,eG]
 have a:((b.length:Int)==256)=false:=by simp;omega
 have c:IntKind.wrap .i64 (((b.length+1:Nat):Int)-1)=(b.length:Int):=by rw[bZ aa aa];omega
 simp only[a,j9,jC,j0,if_neg h,kE]
 rw[iS ag aa]
 simp only[j0,jF,jA,jB,kW,c]
end
theorem ZP{N:Nat}{s:BA}{l:List BA}(a:l.length<1000000):∀(d i M:Nat),i+d=l.length->d<M->
  aK (FA N l s) M (i:Int)=some (match(l.drop i).findIdx? (fun x=>decide (x=s)) with|some j=> .inr (((i+j:Nat):Int))|none=> .inl ())
 |d,i,0,_,h=>by omega
 |0,i,M+1,h,_=>by
  have:l.drop i=[]:=jQ aa
  simp only[aK,FA,this,List.findIdx?_nil]
  rw[if_neg ad]
  rfl
 |d+1,i,M+1,h,c=>by
  have hi:i<l.length:=by omega
  have b:=ZP (N:=N) (s:=s) a d (i+1) M aa aa
  simp only[aK,FA]
  rw[if_pos ad,eR hi,jH hi,List.findIdx?_cons]
  simp only[j0,mI,j6]
  by_cases hs:l[i]=s
  .rw[if_pos hs.symm,if_pos hs];simp
  rw[if_neg (fun e=>hs e.symm),if_neg hs]
  simp only[j0,nQ (show i<1000000 by omega),b]
  cases(l.drop (i+1)).findIdx? (fun x=>decide (x=s)) with
  |none=>rfl
  |some j=>simp only[kK];congr 2;omega
theorem qBu{N:Nat}{s:BA}{l:List BA}(b:l.length<1000000)(a:l.length<N):
  FE N l s=some (match l.findIdx? (fun x=>decide (x=s)) with|some j=>(j:Int)|none=> -1):=by
 have h:=ZP (N:=N) (s:=s) b l.length 0 N aa a
 simp only[jS,kW] at h
 simp only[FE]
 rw[show(0:Int)=((0:Nat):Int) from rfl,h]
 simp only[j0]
 cases l.findIdx? (fun x=>decide (x=s))<;>rfl
theorem qLx{s:BA}{l:List BA}:(l.findIdx? (fun x=>decide (x=s))).isSome=decide (s∈l):=by
 rw[List.findIdx?_isSome]
 rw[jY]
 simp only[fQ,j6]
 exact⟨fun⟨x,a,b⟩=>b▸a,fun h=>⟨s,h,rfl⟩⟩
theorem YB{N:Nat}{s:BA}{l:List BA}(b:l.length<1000000)(a:l.length<N):
  FB N l s=some (decide (s∈l)):=by
 simp only[FB,qBu b a,j0,<-qLx]
 cases l.findIdx? (fun x=>decide (x=s)) with
 |none=>rfl
 |some j=>simp only[Option.isSome_some];rw[jM (show(j:Int)>=0 by omega)]
theorem qNr{α:Type}{g:α->Bool}{l k:List α}(n:∀a∈l,∀b∈l,g a=true->g b=true->a=b)(d:k.Perm l):k.find? g=l.find? g:=by
 cases h:l.find? g with
 |none=>
  rw[List.find?_eq_none] at h ⊢
  exact fun x c=>h x (d.mem_iff.1 c)
 |some a=>
  have e:=gO h
  have f:=List.find?_some h
  cases c:k.find? g with
  |none=>exact absurd f (by simpa using List.find?_eq_none.1 c a (d.mem_iff.2 e))
  |some b=>rw[n b (d.mem_iff.1 (gO c)) a e (List.find?_some c) f]
theorem qQo:∀a∈opsC,∀b∈opsC,a.2=b.2->a=b:=by
 have h:(opsC.all fun a=>opsC.all fun b=> !(decide (a.2=b.2))||decide (a=b))=true:=by kernel_rfl
 intro a c b d e
 have:=jN.1 (jN.1 h a c) b d
 simpa[e] using this
section
variable {N:Nat} {ts:List cB} {pr:List BA} {b:List Ex} {i:Nat}
theorem qQm(op:Int):MJ N op=some ((wN op:Nat):Int):=by
 by_cases h1:op=6
 .subst h1;rfl
 by_cases h2:op=7
 .subst h2;rfl
 by_cases h3:op=1
 .subst h3;rfl
 by_cases h4:op=2
 .subst h4;rfl
 simp[MJ,wN,h1,h2,h3,h4]
theorem qDr(level:Nat){t:cB}(a:t=aO ts i):∀k:List (Int×BA),lM (AU N (level:Int) ((ts,(i:Int),pr,b),t)) k ()=
  some (match k.find? (pL ts level i) with|some o=> .inr ((ts,(i:Int),pr,b),o.1)|none=> .inl ())
 |[]=>rfl
 |o::k=>by
  have key:AU N (level:Int) ((ts,(i:Int),pr,b),t) (some o) ()=some (if pL ts level i o then .inr (.inr ((ts,(i:Int),pr,b),o.1)) else .inl ()):=by
   subst a
   simp only[AU,qQm,j0,mI,pL,cC]
   have c:(((wN o.1:Nat):Int)==(level:Int))=decide (wN o.1=level):=by
    rw[jY];simp only[kF,j6];omega
   rw[c]
   by_cases h1:(aO ts i).1=4<;>by_cases h2:(aO ts i).2.1=o.2<;>by_cases h3:wN o.1=level<;>simp[h1,h2,h3]
  simp only[lM,key,j0,List.find?_cons]
  cases h:pL ts level i o with
  |true=>rfl
  |false=>exact qDr level a k
theorem qPm:QO N=some (some opsC):=by kernel_rfl
theorem qLz(hi:i<ts.length)(level:Nat):LE N (ts,(i:Int),pr,b) (level:Int)=some ((ts,(i:Int),pr,b),mO ts level i):=by
 simp only[LE,sT hi,qPm,j0,JX,kK,Option.getD_some]
 have h:∀a∈opsC,∀b∈opsC,pL ts level i a=true->pL ts level i b=true->a=b:=by
  intro a e b g c d
  simp only[pL,cC,jJ,j6] at c d
  exact qQo a e b g (c.1.2.symm.trans d.1.2)
 have key:=qAz (f:=AU N (level:Int) ((ts,(i:Int),pr,b),aO ts i)) (l:=opsC) (s:=()) fun k c=>by
  rw[qDr level rfl k,qNr h c]
 rw[key]
 unfold mO
 cases opsC.find? (pL ts level i)<;>rfl
end
abbrev mB:=List cB×Int×List BA×List Ex
def eQ(ts:List cB)(pr:List BA)(p:Ps):mB:=(ts,(p.1:Int),pr,p.2)
def lN(ts:List cB)(pr:List BA):PM Nat->cH⊕(mB×Int):=Sum.map id fun q=>(eQ ts pr q.1,(q.2:Int))
def EE(ts:List cB)(pr:List BA):PM (List Int)->cH⊕(mB×List Int):=Sum.map id fun q=>(eQ ts pr q.1,q.2)
section
variable {N:Nat} {ts:List cB} {pr:List BA} {E S:Ps->PM Nat} {d:Int}
variable {r1:mB->cB->Int->Option (cH⊕(mB×Int))} {r2:mB->Int->Option (cH⊕(mB×List Int))} {r3:mB->Int->Option (cH⊕(mB×Int))} {r4:mB->Int->Int->Option (cH⊕(mB×Int))} {r5:mB->Int->Option (cH⊕(mB×Int))}
theorem qAc(k:OkT ts)(r:ts.length<1000000)(t:lY ts E)(u:∀p:Ps,p.1<ts.length->p.2.length<=256->r5 (eQ ts pr p) (IntKind.wrap .i64 (d+1))=some (lN ts pr (E p))):
  ∀(n M:Nat) (l:List Int) (p:Ps),p.1<ts.length->p.2.length<=256->l.length<=p.1->ts.length<p.1+n->ts.length<p.1+M->
  ((aK (KK N r5 d) M (l,ts,(p.1:Int),pr,p.2)).bind fun s=>(match s with| .inl a=>(pE N (a.2.1,a.2.2.1,a.2.2.2.1,a.2.2.2.2) (⟨#[41]⟩:BA)).bind fun A=>(match A with| .inl B=>some (.inl B)| .inr e=>some (.inr ((e.1,e.2.1,e.2.2.1,e.2.2.2),a.1)))| .inr (z)=>some z))=some (EE ts pr (uX ts E n l p))
 |0,M,l,p,c,_,_,h,_=>by omega
 |n+1,0,l,p,c,_,_,_,h=>by omega
 |n+1,M+1,l,p,c,v,D,R,K=>by
  have f:=u p c v
  simp only[eQ] at f
  simp only[aK,KK,uX,f,j0]
  cases hq:E p with
  |inl z=>simp only[lN,Sum.map_inl,id,bI,EE,j0]
  |inr q=>
   obtain⟨⟨F,o,G,x⟩,H⟩:=t p q.1 q.2 c v hq
   simp only[lN,kE,bI,eQ]
   rw[iS ag aa]
   simp only[j0,CX o r,qK]
   rcases eK (cC ts 4 ⟨#[44]⟩ q.1.1) with b|b
   .have g:=mD k o ac b
    have y:=qAc k r t u n M (l++[(q.2:Int)]) (q.1.1+1,q.1.2) g x aj al al
    simp only[b,jE,kI,j9,jC,j0]
    exact y
   simp only[b,j9,jC,jZ,jE,j0,sW o r,lU]
   cases dU ts ⟨#[41]⟩ q.1.1 with
   |inl z=>rfl
   |inr j=>rfl
theorem qLv(a:OkT ts)(c:ts.length<1000000)(n:ts.length<N)(f:lY ts E)(k:∀p:Ps,p.1<ts.length->p.2.length<=256->r5 (eQ ts pr p) (IntKind.wrap .i64 (d+1))=some (lN ts pr (E p)))
  (p:Ps) (e:p.1<ts.length) (l:p.2.length<=256):KM N r1 r2 r3 r4 r5 (eQ ts pr p) d=some (EE ts pr (vV ts E p)):=by
 simp only[KM,eQ,sW e c,j0,vV,oL]
 cases h:dU ts ⟨#[40]⟩ p.1 with
 |inl z=>rfl
 |inr i=>
  obtain⟨rfl,g,-⟩:=mC a e h
  simp only[kE,bI,CX g c,j0,lU]
  rcases eK (cC ts 4 ⟨#[41]⟩ (p.1+1)) with b|b
  .simp only[b,jE];rfl
  simp only[b,j9,jC]
  exact qAc a c f k (ts.length+1) N [] (p.1+1,p.2) g l ae al al
theorem qNs(c:OkT ts)(f:ts.length<1000000)(n:300000<N)(o:∀j,(aO ts j).2.1.size<100000)(A:lY ts E)(B:∀p:Ps,p.1<ts.length->p.2.length<=256->r5 (eQ ts pr p) (IntKind.wrap .i64 (d+1))=some (lN ts pr (E p)))
  (t:cB) (p:Ps) (s:p.1<ts.length) (l:p.2.length<=256):KS N r1 r2 r3 r4 r5 (eQ ts pr p) t d=some (lN ts pr (sC ts E t p)):=by
 have fin:∀(b:Int×Int×BA×List Int×mB) (q:Ps) (x:Ex),b.2.2.2.2=eQ ts pr q->x=(b.1,b.2.1,0,b.2.2.1,b.2.2.2.1)->q.1<ts.length->q.2.length<=256->
   ((pE N (b.2.2.2.2.1,b.2.2.2.2.2.1,b.2.2.2.2.2.2.1,b.2.2.2.2.2.2.2) (⟨#[41]⟩:BA)).bind fun r=>(match r with| .inl v=>some (.inl v)| .inr k=>(tK N (k.1,k.2.1,k.2.2.1,k.2.2.2) (t.1,t.2.1,t.2.2.1,t.2.2.2) (b.1,b.2.1,0,b.2.2.1,b.2.2.2.1)).bind fun u=>(match u with| .inl y=>some (.inl y)| .inr e=>some (.inr ((e.1.1,e.1.2.1,e.1.2.2.1,e.1.2.2.2),e.2)))))=
   some (lN ts pr (bI (dU ts lU q.1) fun i=>lQ t x (i,q.2))):=by
  intro b q x k u r e
  subst u
  rw[k]
  simp only[eQ,sW r f,j0,lU]
  cases hj:dU ts ⟨#[41]⟩ q.1 with
  |inl z=>rfl
  |inr j=>
   simp only[kE,bI,zI _ _ e,j0]
   cases lQ t (b.1,b.2.1,0,b.2.2.1,b.2.2.2.1) (j,q.2)<;>rfl
 simp only[KS,eQ,sW s f,j0,sC,oL]
 cases h:dU ts ⟨#[40]⟩ p.1 with
 |inl z=>rfl
 |inr i=>
  obtain⟨rfl,g,-⟩:=mC c s h
  simp only[kE,bI,mI,j6]
  by_cases k1:t.2.1=pX
  .rw[if_pos (show t.2.1=(⟨#[114,101,97,100]⟩:BA) from k1),if_pos k1]
   simp only[NV g f n o,j0]
   cases h1:nK ts (p.1+1) with
   |inl z=>rfl
   |inr a=>
    obtain⟨rfl,e,-⟩:=tN c g h1
    simp only[kE,sW e f,j0,qK]
    cases h2:dU ts ⟨#[44]⟩ (p.1+1+1) with
    |inl z=>rfl
    |inr j=>
     obtain⟨rfl,r,-⟩:=mC c e h2
     have k:=B (p.1+1+1+1,p.2) r l
     simp only[eQ] at k
     simp only[kE,k,j0]
     cases h3:E (p.1+1+1+1,p.2) with
     |inl z=>rfl
     |inr q=>
      obtain⟨⟨y,u,D,v⟩,F⟩:=A (p.1+1+1+1,p.2) q.1 q.2 r l h3
      exact fin (6,0,(aO ts (p.1+1)).2.1,[(q.2:Int)],ts,(q.1.1:Int),pr,q.1.2) q.1 _ rfl rfl u v
  rw[if_neg (show ¬t.2.1=(⟨#[114,101,97,100]⟩:BA) from k1),if_neg k1]
  by_cases k2:t.2.1=pZ
  .rw[if_pos (show t.2.1=(⟨#[115,105,122,101]⟩:BA) from k2),if_pos k2]
   simp only[NV g f n o,j0]
   cases h1:nK ts (p.1+1) with
   |inl z=>rfl
   |inr a=>
    obtain⟨rfl,e,-⟩:=tN c g h1
    exact fin (7,0,(aO ts (p.1+1)).2.1,[],ts,((p.1+1+1:Nat):Int),pr,p.2) (p.1+1+1,p.2) _ rfl rfl e l
  rw[if_neg (show ¬t.2.1=(⟨#[115,105,122,101]⟩:BA) from k2),if_neg k2]
  by_cases k3:t.2.1=qB
  .rw[if_pos (show t.2.1=(⟨#[104,97,115]⟩:BA) from k3),if_pos k3]
   simp only[NV g f n o,j0]
   cases h1:nK ts (p.1+1) with
   |inl z=>rfl
   |inr a=>
    obtain⟨rfl,e,-⟩:=tN c g h1
    exact fin (8,0,(aO ts (p.1+1)).2.1,[],ts,((p.1+1+1:Nat):Int),pr,p.2) (p.1+1+1,p.2) _ rfl rfl e l
  rw[if_neg (show ¬t.2.1=(⟨#[104,97,115]⟩:BA) from k3),if_neg k3]
  by_cases k4:t.2.1=qC
  .rw[if_pos (show t.2.1=(⟨#[101,110,118]⟩:BA) from k4),if_pos k4]
   simp only[IF g f (show(3:Int)≠5 by decide),j0,wH]
   cases h1:mG ts 3 (p.1+1) with
   |inl z=>rfl
   |inr a=>
    obtain⟨rfl,e,-⟩:=wC c ac g h1
    simp only[kE,qRx (N:=N) aa,j0,bI,lS]
    cases h2:uW (aO ts (p.1+1)).2.1 with
    |false=>rfl
    |true=>exact fin (9,0,(aO ts (p.1+1)).2.1,[],ts,((p.1+1+1:Nat):Int),pr,p.2) (p.1+1+1,p.2) _ rfl rfl e l
  rw[if_neg (show ¬t.2.1=(⟨#[101,110,118]⟩:BA) from k4),if_neg k4]
  simp only[IF g f (show(2:Int)≠5 by decide),j0]
  cases h1:mG ts 2 (p.1+1) with
  |inl z=>rfl
  |inr a=>
   obtain⟨rfl,e,-⟩:=wC c ac g h1
   simp only[kE,lS,j0]
   by_cases h2:(aO ts (p.1+1)).2.2.1>=64
   .simp only[if_pos h2,j0];rfl
   simp only[if_neg h2,j0]
   exact fin (10,(aO ts (p.1+1)).2.2.1,⟨#[]⟩,[],ts,((p.1+1+1:Nat):Int),pr,p.2) (p.1+1+1,p.2) _ rfl rfl e l
end
section
variable {N:Nat} {ts:List cB} {pr:List BA} {E S:Ps->PM Nat} {d:Int}
variable {r1:mB->cB->Int->Option (cH⊕(mB×Int))} {r2:mB->Int->Option (cH⊕(mB×List Int))} {r3:mB->Int->Option (cH⊕(mB×Int))} {r4:mB->Int->Int->Option (cH⊕(mB×Int))} {r5:mB->Int->Option (cH⊕(mB×Int))}
theorem qUs(x:BA):(decide (x=(⟨#[114,101,97,100]⟩:BA))||(decide (x=(⟨#[115,105,122,101]⟩:BA))||(decide (x=(⟨#[104,97,115]⟩:BA))||(decide (x=(⟨#[101,110,118]⟩:BA))||decide (x=(⟨#[102,108,105,112]⟩:BA))))))=decide (x∈[pX,pZ,qB,qC,rB]):=by
 simp only[pX,pZ,qB,qC,rB,jI,gS,or_false,Bool.decide_or]
theorem qRd(c:OkT ts)(o:ts.length<1000000)(K:pr.length<1000)(M:300000<N)(y:lY ts E)(H:∀p:Ps,p.1<ts.length->p.2.length<=256->r5 (eQ ts pr p) (IntKind.wrap .i64 (d+1))=some (lN ts pr (E p)))
  (F:∀(t:cB) (p:Ps),p.1<ts.length->p.2.length<=256->r1 (eQ ts pr p) t d=some (lN ts pr (sC ts E t p)))
  (G:∀p:Ps,p.1<ts.length->p.2.length<=256->r2 (eQ ts pr p) d=some (EE ts pr (vV ts E p)))
  (p:Ps) (k:p.1<ts.length) (b:p.2.length<=256):LC N r1 r2 r3 r4 r5 (eQ ts pr p) d=some (lN ts pr (sV ts pr E p)):=by
 have A:=nQ (show p.1<1000000 by omega)
 simp only[LC,eQ,sT k,j0,sV]
 by_cases k1:(aO ts p.1).1=2
 .rw[if_pos (show((aO ts p.1).1==2)=true by simpa using k1),if_pos k1,A]
  simp only[zI _ _ b,j0]
  cases lQ (aO ts p.1) (1,(aO ts p.1).2.2.1,0,⟨#[]⟩,[]) (p.1+1,p.2)<;>rfl
 rw[if_neg (show ¬((aO ts p.1).1==2)=true by simpa using k1),if_neg k1]
 simp only[CX k o,j0]
 rcases eK (cC ts 4 UL p.1) with e|e
 .have c1':cC ts 4 ⟨#[45]⟩ p.1=true:=e
  have g:=mD c k ac e
  simp only[e,c1',jE,IF g o (show(2:Int)≠5 by decide),j0]
  cases h:mG ts 2 (p.1+1) with
  |inl z=>rfl
  |inr a=>
   simp only[kE,bI,zI _ _ b,j0]
   cases lQ (aO ts p.1) (1,IntKind.wrap .i64 (0-a.2.2.2.1),0,⟨#[]⟩,[]) (a.1,p.2)<;>rfl
 have c1':cC ts 4 ⟨#[45]⟩ p.1=false:=e
 simp only[e,c1',j9,jC,CX k o,j0]
 rcases eK (cC ts 4 oL p.1) with f|f
 .have c2':cC ts 4 ⟨#[40]⟩ p.1=true:=f
  have g:=mD c k ac f
  have n:=H (p.1+1,p.2) g b
  simp only[eQ] at n
  simp only[f,c2',jE,n,j0]
  cases h:E (p.1+1,p.2) with
  |inl z=>rfl
  |inr q=>
   obtain⟨⟨B,u,D,v⟩,r⟩:=y (p.1+1,p.2) q.1 q.2 g b h
   simp only[lN,kE,bI,eQ,sW u o,j0,lU]
   cases dU ts ⟨#[41]⟩ q.1.1<;>rfl
 have c2':cC ts 4 ⟨#[40]⟩ p.1=false:=f
 simp only[f,c2',j9,jC,lS,j0]
 by_cases k2:(aO ts p.1).1=1
 rotate_left
 .rw[if_pos (show((aO ts p.1).1 !=1)=true by simpa using k2),if_pos k2];rfl
 rw[if_neg (show ¬((aO ts p.1).1 !=1)=true by simpa using k2),if_neg (show ¬(aO ts p.1).1≠1 by simpa using k2)]
 have g:=c.next k (show(aO ts p.1).1≠5 by rw[k2];decide)
 simp only[j0,mI,orS,qUs,A]
 by_cases k3:(aO ts p.1).2.1∈[pX,pZ,qB,qC,rB]
 .rw[if_pos (show decide ((aO ts p.1).2.1∈[pX,pZ,qB,qC,rB])=true from jM k3),if_pos k3]
  have h1p:=F (aO ts p.1) (p.1+1,p.2) g b
  simp only[eQ] at h1p
  simp only[h1p,j0]
  cases sC ts E (aO ts p.1) (p.1+1,p.2)<;>rfl
 rw[if_neg (show ¬decide ((aO ts p.1).2.1∈[pX,pZ,qB,qC,rB])=true by simpa using k3),if_neg k3]
 simp only[XY,j0]
 rcases eK (tW (aO ts p.1).2.1) with r|r
 .simp only[r,jE,j0];rfl
 simp only[r,j9,jC,j0,DU g]
 rcases eK (cC ts 4 oL (p.1+1)) with n|n
 .have c4':cC ts 4 ⟨#[40]⟩ (p.1+1)=true:=n
  have h2p:=G (p.1+1,p.2) g b
  simp only[eQ] at h2p
  simp only[n,c4',jE,h2p,j0]
  cases h:vV ts E (p.1+1,p.2) with
  |inl z=>rfl
  |inr q=>
   obtain⟨B,u,D,v⟩:=XB c y (p:=(p.1+1,p.2)) g b h
   simp only[EE,kE,bI,eQ,zI _ _ v,j0]
   cases lQ (aO ts p.1) (3,0,0,(aO ts p.1).2.1,q.2) (q.1.1,q.1.2)<;>rfl
 have c4':cC ts 4 ⟨#[40]⟩ (p.1+1)=false:=n
 simp only[n,c4',j9,jC,qBu (N:=N) (l:=pr) (s:=(aO ts p.1).2.1) aa aa,j0]
 cases pr.findIdx? (fun x=>decide (x=(aO ts p.1).2.1)) with
 |none=>rfl
 |some j=>
  simp only[j6]
  rw[if_neg aa]
  simp only[j0,zI _ _ b]
  cases lQ (aO ts p.1) (2,(j:Int),0,⟨#[]⟩,[]) (p.1+1,p.2)<;>rfl
theorem qPe(a:∀p:Ps,p.1<ts.length->p.2.length<=256->r3 (eQ ts pr p) d=some (lN ts pr (S p)))(p:Ps)(c:p.1<ts.length)(b:p.2.length<=256):
  BP N r1 r2 r3 r4 r5 (eQ ts pr p) 4 d=some (lN ts pr (S p)):=by
 have h3p:=a p c b
 simp only[eQ] at h3p
 simp only[BP,eQ,h3p,j0]
 cases S p<;>rfl
theorem qBh(c:OkT ts)(B:ts.length<1000000)(k:lY ts S){L:Nat}(A:L<4)(f:∀p:Ps,p.1<ts.length->p.2.length<=256->r4 (eQ ts pr p) ((L:Int)+1) d=some (lN ts pr (S p))):
  ∀(n M x:Nat) (p:Ps),p.1<ts.length->p.2.length<=256->x<p.2.length->ts.length<p.1+n->ts.length<p.1+M->
  aK (KQ N r4 (L:Int) d) M ((x:Int),ts,(p.1:Int),pr,p.2)=some (lN ts pr (qA ts L S n x p))
 |0,M,x,p,b,_,_,h,_=>by omega
 |n+1,0,x,p,b,_,_,_,h=>by omega
 |n+1,M+1,x,p,b,l,U,R,K=>by
  have D:=nQ (show p.1<1000000 by omega)
  have t:IntKind.wrap .i64 ((L:Int)+1)=(L:Int)+1:=bZ aa aa
  simp only[aK,KQ,qA,qLz b,j0]
  by_cases a:mO ts L p.1=0
  .rw[if_pos (show(mO ts L p.1==0)=true by simpa using a),if_pos a];rfl
  rw[if_neg (show ¬(mO ts L p.1==0)=true by simpa using a),if_neg a]
  have s:(aO ts p.1).1≠5:=by
   intro s
   apply a
   unfold mO
   have:opsC.find? (pL ts L p.1)=none:=by
    rw[List.find?_eq_none]
    intro o _ e
    simp only[pL,jJ] at e
    have:=NJ e.1
    omega
   rw[this]
  have g:=c.next b s
  have h4p:=f (p.1+1,p.2) g l
  simp only[eQ] at h4p
  simp only[sT b,j0,D,t,h4p]
  cases h:S (p.1+1,p.2) with
  |inl z=>rfl
  |inr q=>
   obtain⟨⟨u,v,y,e⟩,H⟩:=k (p.1+1,p.2) q.1 q.2 g l h
   simp only[lN,kE,bI,eQ,zI _ _ e,j0]
   cases hn2:lQ (aO ts p.1) (4,0,mO ts L p.1,⟨#[]⟩,[(x:Int),(q.2:Int)]) (q.1.1,q.1.2) with
   |inl z=>rfl
   |inr r=>
    obtain⟨⟨a,E,V,F⟩,G⟩:=wD (ts:=ts) (p:=p) (r:=(q.1.1,q.1.2)) (by simp only at u ⊢;omega) v y e hn2
    simp only[kE]
    by_cases k6:L=1
    .subst k6
     rfl
    rw[if_neg (show ¬((L:Int)==1)=true by simp;omega),if_neg k6]
    simp only[j0]
    exact qBh c B k A f n M r.2 r.1 E F G aa aa
theorem TI(e:OkT ts)(r:ts.length<1000000)(u:1000001<N)(b:lY ts S){L:Nat}(o:L<4)(a:∀p:Ps,p.1<ts.length->p.2.length<=256->r4 (eQ ts pr p) ((L:Int)+1) d=some (lN ts pr (S p)))
  (p:Ps) (f:p.1<ts.length) (c:p.2.length<=256):BP N r1 r2 r3 r4 r5 (eQ ts pr p) (L:Int) d=some (lN ts pr (sX ts L S p)):=by
 have g:IntKind.wrap .i64 ((L:Int)+1)=(L:Int)+1:=bZ aa aa
 have h4p:=a p f c
 simp only[eQ] at h4p
 simp only[BP,eQ,sX,g,h4p,j0]
 rw[if_neg (show ¬((L:Int)==4)=true by simp;omega)]
 cases h:S p with
 |inl z=>rfl
 |inr q=>
  obtain⟨⟨s,k,t,l⟩,n⟩:=b p q.1 q.2 f c h
  simp only[lN,kE,bI,eQ]
  rw[qBh e r b o a (ts.length+1) N q.2 q.1 k l n aa aa]
  rfl
theorem qUv{k:Nat}(f:OkT ts)(B:ts.length<1000000)(Z:d+k=32)(hk:k<33)(q:lY ts (eN ts pr k))(r:∀p:Ps,p.1<ts.length->p.2.length<=256->r5 (eQ ts pr p) (IntKind.wrap .i64 (d+1))=some (lN ts pr (eN ts pr k p)))
  (E:∀p:Ps,p.1<ts.length->p.2.length<=256->r4 (eQ ts pr p) 1 d=some (lN ts pr (HW ts pr (eN ts pr k) p)))
  (p:Ps) (h:p.1<ts.length) (s:p.2.length<=256):BX N r1 r2 r3 r4 r5 (eQ ts pr p) d=some (lN ts pr (eN ts pr (k+1) p)):=by
 have F:=nQ (show p.1<1000000 by omega)
 simp only[BX,eQ,sT h,j0,eN]
 rw[if_neg (show ¬decide (d>32)=true by simp only[j6];omega)]
 simp only[j0,DU h]
 rcases eK (cC ts 1 JS p.1) with e|e
 rotate_left
 .have c1':cC ts 1 ⟨#[105,102]⟩ p.1=false:=e
  have h4p:=E p h s
  simp only[eQ] at h4p
  simp only[e,c1',jZ,jE,j9,jC,h4p,j0]
  cases HW ts pr (eN ts pr k) p<;>rfl
 have c1':cC ts 1 ⟨#[105,102]⟩ p.1=true:=e
 have g:=mD f h ac e
 have l:=r (p.1+1,p.2) g s
 simp only[eQ] at l
 simp only[e,c1',kI,jE,j9,jC,F,l,j0]
 cases ha:eN ts pr k (p.1+1,p.2) with
 |inl z=>rfl
 |inr a=>
  obtain⟨⟨G,t,H,u⟩,K⟩:=q (p.1+1,p.2) a.1 a.2 g s ha
  simp only[lN,kE,bI,eQ,TU t B,j0,IY]
  cases hi:sM ts ⟨#[116,104,101,110]⟩ a.1.1 with
  |inl z=>rfl
  |inr i=>
   obtain⟨rfl,y,-⟩:=DA f t hi
   have n:=r (a.1.1+1,a.1.2) y u
   simp only[eQ] at n
   simp only[kE,n,j0]
   cases hb1:eN ts pr k (a.1.1+1,a.1.2) with
   |inl z=>rfl
   |inr b=>
    obtain⟨⟨M,v,R,x⟩,S⟩:=q (a.1.1+1,a.1.2) b.1 b.2 y u hb1
    simp only[lN,kE,bI,eQ,TU v B,j0,IX]
    cases hj:sM ts ⟨#[101,108,115,101]⟩ b.1.1 with
    |inl z=>rfl
    |inr j=>
     obtain⟨rfl,A,-⟩:=DA f v hj
     have o:=r (b.1.1+1,b.1.2) A x
     simp only[eQ] at o
     simp only[kE,o,j0]
     cases hc1:eN ts pr k (b.1.1+1,b.1.2) with
     |inl z=>rfl
     |inr c=>
      obtain⟨⟨e,U,V,D⟩,Y⟩:=q (b.1.1+1,b.1.2) c.1 c.2 A x hc1
      simp only[lN,kE,bI,eQ,zI _ _ D,j0]
      cases lQ (aO ts p.1) (5,0,0,⟨#[]⟩,[(a.2:Int),(b.2:Int),(c.2:Int)]) (c.1.1,c.1.2)<;>rfl
theorem qTh(a:d>32)(p:Ps)(b:p.1<ts.length):BX N r1 r2 r3 r4 r5 (eQ ts pr p) d=some (lN ts pr (eN ts pr 0 p)):=by
 simp only[BX,eQ,sT b,j0,eN]
 rw[if_pos (show decide (d>32)=true by simpa using a)]
 rfl
theorem qDy(b:OkT ts)(e:ts.length<1000000)(n:pr.length<1000)(l:1000001<N)(r:∀j,(aO ts j).2.1.size<100000):∀(k D:Nat),k<=32->7*k+1<=D->∀p:Ps,p.1<ts.length->p.2.length<=256->
  (iI N D).2.2.2.2 (eQ ts pr p) (33-(k:Int))=some (lN ts pr (eN ts pr k p))
 |0,0,_,h,_,_,_=>by omega
 |0,D+1,_,_,p,a,_=>by simp only[iI];exact qTh aa p a
 |k+1,D,E,d,p,a,c=>by
  have f:=vX (ts:=ts) (params:=pr) b k
  have o:=RF (params:=pr) b f
  have q:lY ts (IW ts pr (eN ts pr k)):=yW b o
  have B:lY ts (uY ts pr (eN ts pr k)):=yW b q
  have g:∀D,7*k+1<=D->∀p:Ps,p.1<ts.length->p.2.length<=256->(iI N D).2.2.2.2 (eQ ts pr p) (IntKind.wrap .i64 (32-(k:Int)+1))=some (lN ts pr (eN ts pr k p)):=by
   intro D d p a c
   rw[bZ aa aa,show 32-(k:Int)+1=33-(k:Int) by omega]
   exact qDy b e n l r k D aa d p a c
  have y:∀D,7*k+2<=D->∀(t:cB) (p:Ps),p.1<ts.length->p.2.length<=256->(iI N D).1 (eQ ts pr p) t (32-(k:Int))=some (lN ts pr (sC ts (eN ts pr k) t p)):=by
   intro D d t p a c
   obtain⟨D',rfl⟩:∃D',D=D'+1:=⟨D-1,by omega⟩
   simp only[iI]
   exact qNs b e aa r f (g D' aa) t p a c
  have z:∀D,7*k+2<=D->∀p:Ps,p.1<ts.length->p.2.length<=256->(iI N D).2.1 (eQ ts pr p) (32-(k:Int))=some (EE ts pr (vV ts (eN ts pr k) p)):=by
   intro D d p a c
   obtain⟨D',rfl⟩:∃D',D=D'+1:=⟨D-1,by omega⟩
   simp only[iI]
   exact qLv b e aa f (g D' aa) p a c
  have A:∀D,7*k+3<=D->∀p:Ps,p.1<ts.length->p.2.length<=256->(iI N D).2.2.1 (eQ ts pr p) (32-(k:Int))=some (lN ts pr (sV ts pr (eN ts pr k) p)):=by
   intro D d p a c
   obtain⟨D',rfl⟩:∃D',D=D'+1:=⟨D-1,by omega⟩
   simp only[iI]
   exact qRd b e n aa f (g D' aa) (y D' aa) (z D' aa) p a c
  have x:∀D,7*k+4<=D->∀p:Ps,p.1<ts.length->p.2.length<=256->(iI N D).2.2.2.1 (eQ ts pr p) 4 (32-(k:Int))=some (lN ts pr (sV ts pr (eN ts pr k) p)):=by
   intro D d p a c
   obtain⟨D',rfl⟩:∃D',D=D'+1:=⟨D-1,by omega⟩
   simp only[iI]
   exact qPe (A D' aa) p a c
  have v:∀D,7*k+5<=D->∀p:Ps,p.1<ts.length->p.2.length<=256->(iI N D).2.2.2.1 (eQ ts pr p) 3 (32-(k:Int))=some (lN ts pr (IW ts pr (eN ts pr k) p)):=by
   intro D d p a c
   obtain⟨D',rfl⟩:∃D',D=D'+1:=⟨D-1,by omega⟩
   simp only[iI]
   exact TI b e l o (L:=3) aa (x D' aa) p a c
  have u:∀D,7*k+6<=D->∀p:Ps,p.1<ts.length->p.2.length<=256->(iI N D).2.2.2.1 (eQ ts pr p) 2 (32-(k:Int))=some (lN ts pr (uY ts pr (eN ts pr k) p)):=by
   intro D d p a c
   obtain⟨D',rfl⟩:∃D',D=D'+1:=⟨D-1,by omega⟩
   simp only[iI]
   exact TI b e l q (L:=2) aa (v D' aa) p a c
  have s:∀D,7*k+7<=D->∀p:Ps,p.1<ts.length->p.2.length<=256->(iI N D).2.2.2.1 (eQ ts pr p) 1 (32-(k:Int))=some (lN ts pr (HW ts pr (eN ts pr k) p)):=by
   intro D d p a c
   obtain⟨D',rfl⟩:∃D',D=D'+1:=⟨D-1,by omega⟩
   simp only[iI]
   exact TI b e l B (L:=1) aa (u D' aa) p a c
  obtain⟨D',rfl⟩:∃D',D=D'+1:=⟨D-1,by omega⟩
  rw[show(33:Int)-((k+1:Nat):Int)=32-(k:Int) by omega]
  simp only[iI]
  exact qUv b e aa aa f (g D' aa) (s D' aa) p a c
theorem qSb(a:OkT ts)(e:ts.length<1000000)(b:pr.length<1000)(c:1000001<N)(g:∀j,(aO ts j).2.1.size<100000)(p:Ps)(f:p.1<ts.length)(d:p.2.length<=256):
  PX N (ts,(p.1:Int),pr,p.2) 1=some (lN ts pr (eN ts pr 32 p)):=by
 have:=qDy a e b c g 32 N aa aa p f d
 exact this
end
section
variable {N:Nat} {ts:List cB} {pr:List BA} {b:List Ex}
theorem QZ(h:OkT ts):∀(n:Nat) (l:List BA) (i:Nat) (a:Nat×List BA),i<ts.length->l.length<=8->tO ts n l i= .inr a->i<a.1/\a.1<ts.length/\a.2.length<=8
 |0,_,_,_,_,_,d=>by cases d
 |n+1,l,i,a,hi,q,d=>by
  obtain⟨x,k,b⟩:=iP (show bI (mF ts i) _=_ from d)
  obtain⟨rfl,e,-⟩:=sS h hi k
  split at b
  .cases b
  rename_i k1
  split at b
  .cases b
  split at b
  .rename_i k3
   have c:=mD h e ac k3
   obtain⟨r,o,p⟩:=QZ h n _ _ a c aj b
   exact⟨by omega,o,p⟩
  obtain⟨j,g,f⟩:=iP b
  obtain⟨rfl,c,-⟩:=mC h e g
  obtain rfl:=Sum.inr.inj f
  exact⟨by simp only;omega,c,by simp only[jF,jA,jB];omega⟩
theorem WX(h:OkT ts){i:Nat}{a:Nat×List BA}(hi:i<ts.length)(c:sB ts i= .inr a):i<a.1/\a.1<ts.length/\a.2.length<=8:=by
 obtain⟨j,d,b⟩:=iP c
 obtain⟨rfl,g,-⟩:=mC h hi d
 split at b
 .rename_i k
  obtain rfl:=Sum.inr.inj b
  exact⟨by simp only;omega,mD h g ac k,by simp⟩
 obtain⟨l,e,f⟩:=QZ h _ _ _ a g ae b
 exact⟨by omega,e,f⟩
theorem YJ(d:OkT ts)(k:ts.length<1000000)(r:1000000<N):∀(n M:Nat) (l:List BA) (i:Nat),i<ts.length->l.length<=8->ts.length<i+n->ts.length<i+M->
  ((aK (KH N) M (l,ts,(i:Int),pr,b)).bind fun p=>(match p with| .inl e=>(pE N (e.2.1,e.2.2.1,e.2.2.2.1,e.2.2.2.2) (⟨#[41]⟩:BA)).bind fun q=>(match q with| .inl t=>some (.inl t)| .inr c=>some (.inr ((c.1,c.2.1,c.2.2.1,c.2.2.2),e.1)))| .inr (z)=>some z))=some (Sum.map id (fun a:Nat×List BA=>((ts,(a.1:Int),pr,b),a.2)) (tO ts n l i))
 |0,M,l,i,hi,_,h,_=>by omega
 |n+1,0,l,i,hi,_,_,h=>by omega
 |n+1,M+1,l,i,hi,u,y,v=>by
  simp only[aK,KH,tO,NS hi k,j0]
  cases hx:mF ts i with
  |inl z=>rfl
  |inr x=>
   obtain⟨rfl,o,-⟩:=sS d hi hx
   simp only[kE,bI,lS,j0]
   by_cases k1:l.length=8
   .rw[if_pos (show((l.length:Int)==8)=true by simp;omega),if_pos k1];rfl
   rw[if_neg (show ¬((l.length:Int)==8)=true by simp;omega),if_neg k1]
   simp only[j0,YB (N:=N) (l:=l) (s:=(aO ts i).2.1) aa aa]
   by_cases k2:(aO ts i).2.1∈l
   .rw[if_pos (jM k2),if_pos k2];rfl
   rw[if_neg (show ¬decide ((aO ts i).2.1∈l)=true by simpa using k2),if_neg k2]
   simp only[j0]
   rw[iS ag aa]
   simp only[j0,CX o k,qK]
   rcases eK (cC ts 4 ⟨#[44]⟩ (i+1)) with f|f
   .have g:=mD d o ac f
    simp only[f,jE,kI,j9,jC,j0]
    exact YJ d k r n M _ (i+1+1) g aj aa aa
   simp only[f,j9,jC,jZ,jE,j0,sW o k,lU]
   cases dU ts ⟨#[41]⟩ (i+1)<;>rfl
theorem qKe(c:OkT ts)(e:ts.length<1000000)(f:1000000<N){i:Nat}(hi:i<ts.length):
  FJ N (ts,(i:Int),pr,b)=some (Sum.map id (fun a:Nat×List BA=>((ts,(a.1:Int),pr,b),a.2)) (sB ts i)):=by
 simp only[FJ,sW hi e,j0,sB,oL]
 cases h:dU ts ⟨#[40]⟩ i with
 |inl z=>rfl
 |inr j=>
  obtain⟨rfl,g,-⟩:=mC c hi h
  simp only[kE,bI,CX g e,j0,lU]
  rcases eK (cC ts 4 ⟨#[41]⟩ (i+1)) with d|d
  .simp only[d,jE];rfl
  simp only[d,j9,jC]
  exact YJ c e f (ts.length+1) N [] (i+1) g ae aa aa
def OI:List (BA×Int):=[(⟨#[102,117,110,99]⟩,1),(⟨#[103,101,110]⟩,3),(⟨#[116,101,115,116]⟩,2)]
theorem qQg:((eA (some []:Option (List (BA×Int))) (⟨#[102,117,110,99]⟩:BA) 1).bind fun a=>(eA a (⟨#[116,101,115,116]⟩:BA) 2).bind fun b=>eA b (⟨#[103,101,110]⟩:BA) 3)=some (some OI):=by kernel_rfl
theorem qCp(s:BA):((bC (some OI) s).getD 0)=mH s:=by
 simp only[bC,OI,j0,dP,mH,IS,IV,IZ]
 by_cases h1:s=⟨#[102,117,110,99]⟩
 .simp[h1]
 by_cases h2:s=⟨#[116,101,115,116]⟩
 .subst h2;rfl
 by_cases h3:s=⟨#[103,101,110]⟩
 .subst h3;rfl
 simp[h1,h2,h3]
theorem ZL{before:List Dl}{y1:mB×cB}{o4:List cB×Int×List BA×List Ex×Int×BA×Int×Int}(c:before.length<=64):∀(d i M:Nat),i+d=before.length->d<M->
  ((aK (FZ N before (some OI) y1 o4) M (i:Int)).bind fun a=>(match a with| .inl f=>some (-1)| .inr (z)=>some z):Option Int)=some (match(before.drop i).findIdx? (fun d=>d.1==mH y1.2.2.1&&decide (d.2.1=o4.2.2.2.2.2.1)) with|some j=>((i+j:Nat):Int)|none=> -1)
 |d,i,0,_,h=>by omega
 |0,i,M+1,h,_=>by
  have:before.drop i=[]:=jQ aa
  simp only[aK,FZ,this,List.findIdx?_nil]
  rw[if_neg ad]
  rfl
 |d+1,i,M+1,h,e=>by
  have hi:i<before.length:=by omega
  have b:=ZL (y1:=y1) (o4:=o4) c d (i+1) M aa aa
  simp only[aK,FZ]
  rw[if_pos ad,eR hi,jH hi,List.findIdx?_cons]
  simp only[j0,mI,qCp]
  by_cases k1:(before[i].1==mH y1.2.2.1)=true
  .by_cases k2:before[i].2.1=o4.2.2.2.2.2.1
   .simp[k1,k2]
   simp only[k1,k2,jE,decide_false,j0,j9,jC,nQ (show i<1000000 by omega),Bool.and_false]
   rw[b]
   cases(before.drop (i+1)).findIdx? (fun d=>d.1==mH y1.2.2.1&&decide (d.2.1=o4.2.2.2.2.2.1)) with
   |none=>rfl
   |some j=>simp only[kK];rw[show i+1+j=i+(j+1) by omega]
  simp only[k1,j9,jC,j0,nQ (show i<1000000 by omega),Bool.false_and]
  rw[b]
  cases(before.drop (i+1)).findIdx? (fun d=>d.1==mH y1.2.2.1&&decide (d.2.1=o4.2.2.2.2.2.1)) with
  |none=>rfl
  |some j=>simp only[kK];rw[show i+1+j=i+(j+1) by omega]
theorem NC(h:OkT ts){before:List Dl}{i:Nat}{a:Nat×Dl}(hi:i<ts.length)(b:oK ts before i= .inr a):i<a.1/\a.1<ts.length/\before.length≠64:=by
 unfold oK at b
 dsimp only at b
 split at b
 .cases b
 rename_i k1
 split at b
 .cases b
 rename_i k2
 have g:=h.next hi (show(aO ts i).1≠5 by intro e;apply k1;left;rw[e];decide)
 obtain⟨x,k,f⟩:=iP b
 have gx:x.1=i+1+1/\x.1<ts.length:=by
  split at k
  .obtain⟨rfl,d,-⟩:=tN h g k;exact⟨rfl,d⟩
  obtain⟨rfl,d,-⟩:=sS h g k;exact⟨rfl,d⟩
 split at f
 .cases f
 obtain⟨y,l,q⟩:=iP f
 have gy:x.1<=y.1/\y.1<ts.length:=by
  split at l
  .obtain⟨d,n,-⟩:=WX h gx.2 l;exact⟨by omega,n⟩
  obtain rfl:=Sum.inr.inj l;exact⟨jP _,gx.2⟩
 obtain⟨j,v,r⟩:=iP q
 obtain⟨rfl,o,-⟩:=mC h gy.2 v
 obtain⟨c,u,s⟩:=iP r
 obtain⟨⟨d,n,A,B⟩,-⟩:=vX h 32 (y.1+1,[]) c.1 c.2 o ae u
 obtain⟨m,z,t⟩:=iP s
 obtain⟨rfl,p,-⟩:=mC h n z
 obtain rfl:=Sum.inr.inj t
 exact⟨by simp only at d ⊢;omega,p,k2⟩
theorem qSw{before:List Dl}{f:Dl->Bool}:(decide ((match before.findIdx? f with|some j=>((0+j:Nat):Int)|none=> -1)>=0))=before.any f:=by
 have:=List.findIdx?_isSome (xs:=before) (p:=f)
 rw[<-this]
 cases before.findIdx? f with
 |none=>rfl
 |some j=>simp only[Option.isSome_some];exact jM aa
end
section
variable {N:Nat} {ts:List cB} {pr:List BA} {b:List Ex}
theorem qTj(e:OkT ts)(n:ts.length<1000000)(E:1000001<N)(A:∀j,(aO ts j).2.1.size<100000){before:List Dl}(F:before.length<=64){i:Nat}(hi:i<ts.length):
  LY N (ts,(i:Int),pr,b) before=some (Sum.map id (fun a:Nat×Dl=>((ts,(a.1:Int),a.2.2.2.1,a.2.2.2.2),a.2)) (oK ts before i)):=by
 have K:=nQ (show i<1000000 by omega)
 unfold LY
 obtain⟨Z,t,G⟩:=jK.1 qQg
 obtain⟨a1,u,v⟩:=jK.1 G
 rw[t];simp only[j0]
 rw[u];simp only[j0]
 rw[v];simp only[j0,sT hi,qCp,lS,oK]
 by_cases o:(aO ts i).1≠1\/mH (aO ts i).2.1=0
 .rw[if_pos o]
  have:((if((aO ts i).1 !=1)then some true else some (mH (aO ts i).2.1==0)):Option Bool)=some true:=by
   rcases o with h|h
   .simp[h]
   simp[h]
  rw[this];rfl
 rw[if_neg o]
 have k1a:(aO ts i).1=1:=by
  apply Decidable.byContradiction
  intro h;exact o (.inl h)
 have k1b:¬mH (aO ts i).2.1=0:=fun h=>o (.inr h)
 have:((if((aO ts i).1 !=1)then some true else some (mH (aO ts i).2.1==0)):Option Bool)=some false:=by simp[k1a,k1b]
 rw[this]
 simp only[j0,j9,jC]
 by_cases k2:before.length=64
 .rw[if_pos (show((before.length:Int)==64)=true by simp;omega),if_pos k2];rfl
 rw[if_neg (show ¬((before.length:Int)==64)=true by simp;omega),if_neg k2]
 have g:=e.next hi (show(aO ts i).1≠5 by rw[k1a];decide)
 simp only[j0,K]
 have M:(if(mH (aO ts i).2.1==3)then((wY N (ts,((i+1:Nat):Int),pr,b)).bind fun R=>(match R with| .inl U=>some (.inr (.inl U))| .inr k=>some (.inl (k.1.1,k.1.2.1,k.1.2.2.1,k.1.2.2.2,k.2.1,k.2.2.1,k.2.2.2.1,k.2.2.2.2)))) else((wZ N (ts,((i+1:Nat):Int),pr,b)).bind fun S=>(match S with| .inl V=>some (.inr (.inl V))| .inr l=>some (.inl (l.1.1,l.1.2.1,l.1.2.2.1,l.1.2.2.2,l.2.1,l.2.2.1,l.2.2.2.1,l.2.2.2.2)))):Option ((List cB×Int×List BA×List Ex×Int×BA×Int×Int)⊕(cH⊕(mB×Dl))))=
   some (match(if mH (aO ts i).2.1=3 then nK ts (i+1) else mF ts (i+1)) with| .inl z=> .inr (.inl z)| .inr a=> .inl (ts,(a.1:Int),pr,b,a.2.1,a.2.2.1,a.2.2.2.1,a.2.2.2.2)):=by
  by_cases k3:mH (aO ts i).2.1=3
  .rw[if_pos (show(mH (aO ts i).2.1==3)=true by simpa using k3),if_pos k3,NV g n aa A]
   cases nK ts (i+1)<;>rfl
  rw[if_neg (show ¬(mH (aO ts i).2.1==3)=true by simpa using k3),if_neg k3,NS g n]
  cases mF ts (i+1)<;>rfl
 refine Eq.trans (congrArg (fun z=>Option.bind z _) M) ?_
 simp only[j0]
 cases hX:(if mH (aO ts i).2.1=3 then nK ts (i+1) else mF ts (i+1)) with
 |inl z=>rfl
 |inr x=>
  have gx:x.1=i+1+1/\x.1<ts.length:=by
   split at hX
   .obtain⟨rfl,p,-⟩:=tN e g hX;exact⟨rfl,p⟩
   obtain⟨rfl,p,-⟩:=sS e g hX;exact⟨rfl,p⟩
  simp only[bI]
  have s:=ZL (N:=N) (before:=before) (y1:=((ts,(i:Int),pr,b),aO ts i)) (o4:=(ts,(x.1:Int),pr,b,x.2.1,x.2.2.1,x.2.2.2.1,x.2.2.2.2)) F before.length 0 N aa aa
  simp only[jS] at s
  refine Eq.trans (congrArg (fun z=>Option.bind z _) s) ?_
  simp only[j0,qSw]
  rcases eK (before.any fun d=>d.1==mH (aO ts i).2.1&&decide (d.2.1=x.2.2.1)) with r|r
  .simp only[r,jE];rfl
  simp only[r,j9,jC,j0]
  have H:(if(mH (aO ts i).2.1==1)then((FJ N (ts,(x.1:Int),pr,b)).bind fun B=>(match B with| .inl Y=>some (.inr (.inl Y))| .inr f=>some (.inl (f.2,f.1.1,f.1.2.1,f.1.2.2.1,f.1.2.2.2)))) else(some (.inl (([]:List (BA)),ts,(x.1:Int),pr,b))):Option ((List BA×mB)⊕(cH⊕(mB×Dl))))=
    some (match(if mH (aO ts i).2.1=1 then sB ts x.1 else .inr (x.1,[])) with| .inl z=> .inr (.inl z)| .inr a=> .inl (a.2,ts,(a.1:Int),pr,b)):=by
   by_cases k5:mH (aO ts i).2.1=1
   .rw[if_pos (show(mH (aO ts i).2.1==1)=true by simpa using k5),if_pos k5,qKe e n aa gx.2]
    cases sB ts x.1<;>rfl
   rw[if_neg (show ¬(mH (aO ts i).2.1==1)=true by simpa using k5),if_neg k5]
  refine Eq.trans (congrArg (fun z=>Option.bind z _) H) ?_
  simp only[j0]
  cases hY:(if mH (aO ts i).2.1=1 then sB ts x.1 else .inr (x.1,[]):cH⊕(Nat×List BA)) with
  |inl z=>rfl
  |inr y=>
   have gy:x.1<=y.1/\y.1<ts.length/\y.2.length<=8:=by
    split at hY
    .obtain⟨p,D,q⟩:=WX e gx.2 hY;exact⟨by omega,D,q⟩
    obtain rfl:=Sum.inr.inj hY;exact⟨jP _,gx.2,by simp⟩
   simp only[sW gy.2.1 n,j0,yC]
   cases hj:dU ts ⟨#[61]⟩ y.1 with
   |inl z=>rfl
   |inr j=>
    obtain⟨rfl,q,-⟩:=mC e gy.2.1 hj
    have p:=qSb (N:=N) (pr:=y.2) e n aa E A (y.1+1,[]) q ae
    simp only at p
    simp only[kE,p,j0]
    cases hc:eN ts y.2 32 (y.1+1,[]) with
    |inl z=>rfl
    |inr c=>
     obtain⟨⟨f1,D,f3,f4⟩,-⟩:=vX e 32 (y.1+1,[]) c.1 c.2 q ae hc
     simp only[lN,kE,eQ,sW D n,j0,rN]
     cases dU ts ⟨#[59]⟩ c.1.1<;>rfl
theorem XP(c:OkT ts)(k:ts.length<1000000)(q:1000000<N){e:mB×cB}:∀(n M:Nat) (l:List BA) (i:Nat),i<ts.length->l.length<=8->ts.length<i+n->ts.length<i+M->
  aK (LL N e) M (ts,(i:Int),pr,b,l)=some (match qV ts e.2.2.1 n l i with| .inl z=> .inr (.inl z)| .inr a=> .inl (ts,(a.1:Int),pr,b,a.2))
 |0,M,l,i,hi,_,h,_=>by omega
 |n+1,0,l,i,hi,_,_,h=>by omega
 |n+1,M+1,l,i,hi,t,v,u=>by
  have r:=nQ (show i<1000000 by omega)
  simp only[aK,LL,qV,DU hi,j0,zH]
  rcases eK (cC ts 1 ⟨#[105,109,112,111,114,116]⟩ i) with f|f
  rotate_left
  .simp only[f,j9,jC,j0]
  have g:=mD c hi ac f
  simp only[f,jE]
  by_cases k2:l.length=8
  .rw[if_pos (show((l.length:Int)==8)=true by simp;omega),if_pos k2]
   simp only[sT hi,j0,lS];rfl
  rw[if_neg (show ¬((l.length:Int)==8)=true by simp;omega),if_neg k2]
  simp only[j0,r,NS g k]
  cases hx:mF ts (i+1) with
  |inl z=>rfl
  |inr x=>
   obtain⟨rfl,o,-⟩:=sS c g hx
   simp only[kE,bI,lS,j0,mI,YB (N:=N) (l:=l) (s:=(aO ts (i+1)).2.1) aa aa]
   by_cases d:(aO ts (i+1)).2.1=e.2.2.1\/(aO ts (i+1)).2.1∈l
   .rw[if_pos d]
    have:((if decide ((aO ts (i+1)).2.1=e.2.2.1)then some true else some (decide ((aO ts (i+1)).2.1∈l))):Option Bool)=some true:=by
     rcases d with h|h
     .rw[if_pos (jM h)]
     rw[jM h];split<;>rfl
    rw[this];rfl
   rw[if_neg d]
   have:((if decide ((aO ts (i+1)).2.1=e.2.2.1)then some true else some (decide ((aO ts (i+1)).2.1∈l))):Option Bool)=some false:=by
    rw[if_neg (by simp only[j6];exact fun h=>d (.inl h)),jR (fun h=>d (.inr h))]
   rw[this]
   simp only[j0,j9,jC]
   rw[iS ag aa]
   simp only[j0,sW o k,rN]
   cases hj:dU ts ⟨#[59]⟩ (i+1+1) with
   |inl z=>rfl
   |inr j=>
    obtain⟨rfl,p,-⟩:=mC c o hj
    exact XP c k q n M _ (i+1+1+1) p aj aa aa
theorem MM(h:OkT ts){pkg:BA}:∀(n:Nat) (l:List BA) (i:Nat) (a:Nat×List BA),i<ts.length->l.length<=8->qV ts pkg n l i= .inr a->i<=a.1/\a.1<ts.length/\a.2.length<=8
 |0,_,_,_,_,_,b=>by cases b
 |n+1,l,i,a,hi,p,b=>by
  unfold qV at b
  split at b
  .rename_i k
   have g:=mD h hi ac k
   split at b
   .cases b
   rename_i k2
   obtain⟨x,q,c⟩:=iP b
   obtain⟨rfl,d,-⟩:=sS h g q
   split at c
   .cases c
   obtain⟨j,o,f⟩:=iP c
   obtain⟨rfl,e,-⟩:=mC h d o
   obtain⟨t,r,s⟩:=MM h n _ _ a e aj f
   exact⟨by omega,r,s⟩
  obtain rfl:=Sum.inr.inj b
  exact⟨jP _,hi,p⟩
theorem YY(c:OkT ts)(f:ts.length<1000000)(e:1000001<N)(k:∀j,(aO ts j).2.1.size<100000):∀(n M:Nat) (l:List Dl) (i:Nat) (pr:List BA) (b:List Ex),i<ts.length->l.length<=64->ts.length<i+n->ts.length<i+M->
  match tQ ts n l i with
  | .inl z=>aK (yP N) M (ts,(i:Int),pr,b,l)=some (.inr (.inl z))
  | .inr a=>∃i' pr' b',aK (yP N) M (ts,(i:Int),pr,b,l)=some (.inl (ts,i',pr',b',a))
 |0,M,l,i,_,_,hi,_,h,_=>by omega
 |n+1,0,l,i,_,_,hi,_,_,h=>by omega
 |n+1,M+1,l,i,pr,b,hi,g,s,r=>by
  have o:aK (yP N) (M+1) (ts,(i:Int),pr,b,l)=(if(aO ts i).1=5 then some (.inl (ts,(i:Int),pr,b,l)) else
    match oK ts l i with
    | .inl z=>some (.inr (.inl z))
    | .inr a=>aK (yP N) M (ts,(a.1:Int),a.2.2.2.1,a.2.2.2.2,l++[a.2])):=by
   simp only[aK,yP,sT hi,j0,qTj c f e k g hi]
   by_cases k1:(aO ts i).1=5
   .rw[if_neg (show ¬((aO ts i).1 !=5)=true by simpa using k1),if_pos k1];rfl
   rw[if_pos (show((aO ts i).1 !=5)=true by simpa using k1),if_neg k1]
   cases hd:oK ts l i with
   |inl z=>rfl
   |inr a=>
    obtain⟨p,d,q⟩:=NC c hi hd
    simp only[kE]
    rw[iS ag aa]
    rfl
  rw[o]
  simp only[tQ]
  by_cases k1:(aO ts i).1=5
  .simp only[if_pos k1];exact⟨_,_,_,rfl⟩
  simp only[if_neg k1]
  cases hd:oK ts l i with
  |inl z=>rfl
  |inr a=>
   obtain⟨p,d,q⟩:=NC c hi hd
   exact YY c f e k n M (l++[a.2]) a.1 _ _ d aj aa aa
theorem qSy(a:OkT ts)(d:ts.length<1000000)(n:1000001<N)(o:∀j,(aO ts j).2.1.size<100000):
  match tS ts with
  | .inl z=>GT N (ts,0,pr,b)=some (.inl z)
  | .inr f=>∃i' pr' b',GT N (ts,0,pr,b)=some (.inr ((ts,i',pr',b'),f)):=by
 have k:0<ts.length:=fL.2 a.1
 simp only[GT,tS]
 rw[show(0:Int)=((0:Nat):Int) from rfl]
 simp only[TU k d,j0,HV]
 cases h1:sM ts ⟨#[112,97,99,107,97,103,101]⟩ 0 with
 |inl z=>rfl
 |inr i=>
  obtain⟨rfl,e,-⟩:=DA a k h1
  simp only[kE,bI,NS e d,j0]
  cases h2:mF ts (0+1) with
  |inl z=>rfl
  |inr x=>
   obtain⟨rfl,g,-⟩:=sS a e h2
   simp only[kE,sW g d,j0,rN]
   cases h3:dU ts ⟨#[59]⟩ (0+1+1) with
   |inl z=>rfl
   |inr j=>
    obtain⟨rfl,h,-⟩:=mC a g h3
    simp only[kE,XP a d (by omega:1000000<N) (ts.length+1) N [] (0+1+1+1) h ae aa aa,j0]
    cases h4:qV ts (aO ts (0+1)).2.1 (ts.length+1) [] (0+1+1+1) with
    |inl z=>rfl
    |inr y=>
     obtain⟨q,p,r⟩:=MM a _ _ _ y h ae h4
     have c:=YY (N:=N) a d n o (ts.length+1) N [] y.1 pr b p ae aa aa
     simp only[]
     cases h5:tQ ts (ts.length+1) [] y.1 with
     |inl z=>
      rw[h5] at c
      simp only[c,j0]
     |inr l=>
      rw[h5] at c
      obtain⟨i',pr',b',c⟩:=c
      refine⟨i',pr',b',?_⟩
      simp only[c,j0]
end
theorem qCn{s:BA}:∀(l:List cB) (e:Int),0<=e->UY s e l->∀i,i<l.length->((aO l i).1=5↔i+1=l.length)/\((aO l i).2.1.size:Int)<=s.size/\0<=(aO l i).2.2.2
 |[],_,_,_,i,hi=>by simp at hi
 |t::r,e,k,h,i,hi=>by
  obtain⟨d,f,b,g,c⟩:=h
  have a:0<=xY t:=by unfold xY;split<;>omega
  cases i with
  |zero=>
   refine⟨?_,?_,?_⟩
   .show t.1=5↔0+1=r.length+1
    rw[b,<-hZ];omega
   .show((t.2.1.size:Nat):Int)<=s.size
    omega
   show 0<=t.2.2.2
   omega
  |succ i=>
   have:=qCn r _ a c i (by simpa using hi)
   have e:aO (t::r) (i+1)=aO r i:=by simp[aO]
   rw[e,jA]
   exact⟨⟨fun h=>by have:=this.1.1 h;omega,fun h=>this.1.2 aa⟩,this.2⟩
theorem MW{s:BA}(h:(lD s).2.2=0):OkT (lD s).1/\(lD s).1.length<=16385/\∀j,(aO (lD s).1 j).2.1.size<100000:=by
 unfold lD at h ⊢
 split at h
 .simp at h
 rename_i hs
 rw[if_neg hs]
 cases hG:nC (s.data.toList.length+1) s 0 with
 |inl x=>
  obtain⟨_,_,a⟩:=SY _ 0 x aa aa hG
  rw[hG] at h
  exact absurd h a
 |inr r=>
  obtain⟨c,d,g⟩:=RO _ 0 0 r aa aa aa hG
  simp only[uU,jW]
  have b:=qCn r 0 aa c
  refine⟨⟨d,fun i hi=>(b i hi).1⟩,by omega,fun j=> ?_⟩
  rcases hQ j r.length with a|a
  .have:=(b j a).2.1
   have f:=iV s
   omega
  have e:aO r j=(5,⟨#[]⟩,0,0):=by simp[aO,jU,List.getElem?_eq_none a]
  rw[e];decide
theorem qPu{N:Nat}(s:BA)(e:1000001<N):MP N s=some (lJ s):=by
 simp only[MP,qOw (N:=N) aa,j0,lJ]
 by_cases h:(lD s).2.2=0
 .rw[if_neg (show ¬((lD s).2.2 !=0)=true by simpa using h),if_neg (show ¬(lD s).2.2≠0 by simpa using h)]
  obtain⟨c,g,d⟩:=MW h
  have a:=qSy (N:=N) (pr:=[]) (b:=[]) c aa e d
  cases hF:tS (lD s).1 with
  |inl z=>
   rw[hF] at a
   simp only[a,j0];rfl
  |inr f=>
   rw[hF] at a
   obtain⟨i',pr',b',a⟩:=a
   simp only[a,j0]
 rw[if_pos (show((lD s).2.2 !=0)=true by simpa using h),if_pos h];rfl
abbrev RT:=List cB×Int×Int×Int×List BA×List Ex×List Int
def gR(ts:List cB)(pr:List BA)(p:Ps):RT:=(ts,(p.1:Int),0,0,pr,p.2,[])
def bR(ts:List cB)(z:cH)(i:Nat)(pr:List BA)(b:List Ex):RT:=(ts,(i:Int),z.1,z.2,pr,b,[])
section
variable {N:Nat} {ts:List cB} {pr:List BA} {b:List Ex} {i:Nat} {z:cH}
theorem qFy{st:Int×Int×List BA×List Ex×List Int}(hi:i<ts.length):iT N (ts,(i:Int),st.1,st.2.1,st.2.2.1,st.2.2.2.1,st.2.2.2.2)=some ((ts,(i:Int),st.1,st.2.1,st.2.2.1,st.2.2.2.1,st.2.2.2.2),aO ts i):=by
 simp only[iT,qEp hi,j0]
theorem mE(p:Ps)(hi:p.1<ts.length):iT N (gR ts pr p)=some (gR ts pr p,aO ts p.1):=qFy (st:=(0,0,pr,p.2,[])) hi
theorem rM(hi:i<ts.length):iT N (bR ts z i pr b)=some (bR ts z i pr b,aO ts i):=qFy (st:=(z.1,z.2,pr,b,[])) hi
theorem qW(p:Ps)(hi:p.1<ts.length)(b:ts.length<1000000)(s:BA):pC N (gR ts pr p) s=some (if cC ts 1 s p.1 then(gR ts pr (p.1+1,p.2),true) else(gR ts pr p,false)):=by
 have a:iT N (ts,(p.1:Int),0,0,pr,p.2,[])=some ((ts,(p.1:Int),0,0,pr,p.2,[]),aO ts p.1):=mE p hi
 simp only[pC,gR,a,j0,mI,cC,fC,jE]
 by_cases h1:(aO ts p.1).1=1<;>by_cases h2:(aO ts p.1).2.1=s<;>simp[h1,h2,nQ (show p.1<1000000 by omega)]
theorem UC(a:z.2≠0)(s:BA):pC N (bR ts z i pr b) s=some (bR ts z i pr b,false):=by
 simp[pC,bR,a]
theorem pG(p:Ps)(hi:p.1<ts.length)(b:ts.length<1000000)(s:BA):pD N (gR ts pr p) s=some (if cC ts 4 s p.1 then(gR ts pr (p.1+1,p.2),true) else(gR ts pr p,false)):=by
 have a:iT N (ts,(p.1:Int),0,0,pr,p.2,[])=some ((ts,(p.1:Int),0,0,pr,p.2,[]),aO ts p.1):=mE p hi
 simp only[pD,gR,a,j0,mI,cC,fC,jE]
 by_cases h1:(aO ts p.1).1=4<;>by_cases h2:(aO ts p.1).2.1=s<;>simp[h1,h2,nQ (show p.1<1000000 by omega)]
theorem NW(a:z.2≠0)(s:BA):pD N (bR ts z i pr b) s=some (bR ts z i pr b,false):=by
 simp[pD,bR,a]
theorem oR(p:Ps)(a e:Int):lB N (gR ts pr p) a e=some (bR ts (a,e) p.1 pr p.2):=by
 simp[lB,gR,bR]
theorem sH(c:z.2≠0)(a e:Int):lB N (bR ts z i pr b) a e=some (bR ts z i pr b):=by
 simp[lB,bR,c]
theorem sG(p:Ps)(hi:p.1<ts.length)(d:ts.length<1000000)(s:BA):iR N (gR ts pr p) s=some (match dU ts s p.1 with| .inl z=>bR ts z p.1 pr p.2| .inr j=>gR ts pr (j,p.2)):=by
 have a:=pG (N:=N) (pr:=pr) p hi d s
 have b:=mE (N:=N) (pr:=pr) p hi
 have c:=oR (N:=N) (ts:=ts) (pr:=pr) p (aO ts p.1).2.2.2 9
 simp only[gR] at a b c
 simp only[iR,gR,a,j0,dU]
 rcases eK (cC ts 4 s p.1) with h|h
 .simp only[h,jE,kI,j9,jC]
 simp only[h,jE,jZ,j9,jC,b,j0,c,eG]
theorem rK(e:z.2≠0)(hi:i<ts.length)(s:BA):iR N (bR ts z i pr b) s=some (bR ts z i pr b):=by
 have a:=NW (N:=N) (ts:=ts) (i:=i) (pr:=pr) (b:=b) e s
 have c:=rM (N:=N) (ts:=ts) (i:=i) (pr:=pr) (b:=b) (z:=z) hi
 have d:=sH (N:=N) (ts:=ts) (i:=i) (pr:=pr) (b:=b) e (aO ts i).2.2.2 9
 simp only[bR] at a c d
 simp only[iR,bR,a,j0,jZ,jE,c,d]
theorem qAv{s:BA}:∀(d k M:Nat),k+d=wordsR.length->d<M->aK (BD N s) M (k:Int)=some (if s∈wordsR.drop k then .inr true else .inl ())
 |d,k,0,_,h=>by omega
 |0,k,M+1,h,_=>by
  have:wordsR.drop k=[]:=jQ aa
  simp only[aK,BD,this]
  rw[if_neg (by simp only[j6];have:wordsR.length=13:=rfl;simp only[jA,jB];omega)]
  rfl
 |d+1,k,M+1,h,g=>by
  have a:k<wordsR.length:=by omega
  have c:=qAv (s:=s) d (k+1) M aa aa
  simp only[aK]
  have e:BD N s (k:Int)=some (if s=wordsR[k] then .inr (.inr true) else .inl (((k+1:Nat):Int))):=by
   have f:wordsR.length=13:=rfl
   have b:bS ([(⟨#[112,97,99,107,97,103,101]⟩:BA),(⟨#[105,109,112,111,114,116]⟩:BA),(⟨#[102,117,110,99]⟩:BA),(⟨#[116,101,115,116]⟩:BA),(⟨#[103,101,110]⟩:BA),(⟨#[105,102]⟩:BA),(⟨#[116,104,101,110]⟩:BA),(⟨#[101,108,115,101]⟩:BA),(⟨#[114,101,97,100]⟩:BA),(⟨#[115,105,122,101]⟩:BA),(⟨#[104,97,115]⟩:BA),(⟨#[101,110,118]⟩:BA),(⟨#[102,108,105,112]⟩:BA)]) (k:Int)=some wordsR[k]:=eR (l:=wordsR) a
   simp only[BD]
   rw[if_pos (by simp only[j6,jA,jB];omega),b]
   simp only[j0,mI,j6,nQ (show k<1000000 by omega)]
   split<;>rfl
  rw[e,jH a]
  simp only[j0,jI]
  by_cases hs:s=wordsR[k]
  .rw[if_pos hs,if_pos (.inl hs)]
  rw[if_neg hs]
  simp only[c]
  by_cases h2:s∈wordsR.drop (k+1)
  .rw[if_pos h2,if_pos (.inr h2)]
  rw[if_neg h2,if_neg (fun h=>h.elim hs h2)]
theorem rres(a:100<N)(s:BA):LF N s=some (tW s):=by
 have h:=qAv (N:=N) (s:=s) 13 0 N rfl aa
 simp only[jS] at h
 simp only[LF]
 rw[show(0:Int)=((0:Nat):Int) from rfl,h]
 simp only[tW,j0]
 by_cases h2:s∈wordsR
 .rw[if_pos h2,jM h2]
 rw[if_neg h2,jR h2]
theorem DJ(p:Ps)(hi:p.1<ts.length)(f:ts.length<1000000)(e:100<N):nZ N (gR ts pr p)=some (match mF ts p.1 with| .inl z=>(bR ts z p.1 pr p.2,⟨#[]⟩)| .inr a=>(gR ts pr (a.1,p.2),a.2.2.1)):=by
 have d:=mE (N:=N) (pr:=pr) p hi
 have b:=oR (N:=N) (ts:=ts) (pr:=pr) p (aO ts p.1).2.2.2 9
 simp only[gR] at d b
 simp only[nZ,gR,d,j0,rres e,mF,mG,fU,j9,jC]
 by_cases k1:(aO ts p.1).1=1
 .have k1':((aO ts p.1).1 !=1)=false:=by simp[k1]
  simp only[k1',j9,jC,j0,if_pos k1,bI]
  rcases eK (tW (aO ts p.1).2.1) with c|c
  .simp only[c,jE,b,j0,eG]
  simp only[c,j9,jC,nQ (show p.1<1000000 by omega)]
 have k1':((aO ts p.1).1 !=1)=true:=by simp[k1]
 simp only[k1',jE,j0,if_neg k1,bI,b,eG]
theorem NT(d:z.2≠0)(hi:i<ts.length):nZ N (bR ts z i pr b)=some (bR ts z i pr b,⟨#[]⟩):=by
 have a:=rM (N:=N) (ts:=ts) (i:=i) (pr:=pr) (b:=b) (z:=z) hi
 have c:=sH (N:=N) (ts:=ts) (i:=i) (pr:=pr) (b:=b) d (aO ts i).2.2.2 9
 have hz':(z.2 !=0)=true:=by simpa using d
 simp only[bR] at a c
 simp only[nZ,bR,a,j0,hz',jE,c]
theorem RW(p:Ps)(hi:p.1<ts.length)(d:ts.length<1000000):vH N (gR ts pr p)=some (match mG ts 2 p.1 with| .inl z=>(bR ts z p.1 pr p.2,0)| .inr a=>(gR ts pr (a.1,p.2),a.2.2.2.1)):=by
 have b:=mE (N:=N) (pr:=pr) p hi
 have c:=oR (N:=N) (ts:=ts) (pr:=pr) p (aO ts p.1).2.2.2 9
 simp only[gR] at b c
 simp only[vH,gR,b,j0,mG,fU,j9,jC]
 by_cases k1:(aO ts p.1).1=2
 .have k1':((aO ts p.1).1 !=2)=false:=by simp[k1]
  simp only[k1',j9,jC,if_pos k1,nQ (show p.1<1000000 by omega)]
 have k1':((aO ts p.1).1 !=2)=true:=by simp[k1]
 simp only[k1',jE,if_neg k1,c,j0,eG]
theorem qPd(d:z.2≠0)(hi:i<ts.length):vH N (bR ts z i pr b)=some (bR ts z i pr b,0):=by
 have a:=rM (N:=N) (ts:=ts) (i:=i) (pr:=pr) (b:=b) (z:=z) hi
 have c:=sH (N:=N) (ts:=ts) (i:=i) (pr:=pr) (b:=b) d (aO ts i).2.2.2 9
 have hz':(z.2 !=0)=true:=by simpa using d
 simp only[bR] at a c
 simp only[vH,bR,a,j0,hz',jE,c]
theorem qDg(t:cB)(x:Ex)(p:Ps)(c:p.2.length<=256):∃v,lP N (gR ts pr p) x t.2.2.2=some (match lQ t x p with| .inl z=>(bR ts z p.1 pr p.2,v)| .inr q=>(gR ts pr q.1,(q.2:Int))):=by
 refine⟨IntKind.wrap .i64 ((p.2.length:Int)-1),?_⟩
 have a:=oR (N:=N) (ts:=ts) (pr:=pr) p t.2.2.2 2
 simp only[gR] at a
 simp only[lP,gR,fC,jE,j0,lQ]
 by_cases k1:p.2.length=256
 .have k1':((p.2.length:Int)==256)=true:=by simp;omega
  simp only[k1',jE,a,j0,bR]
  simp[k1,eG]
 have k1':((p.2.length:Int)==256)=false:=by simp;omega
 have b:IntKind.wrap .i64 (((p.2.length+1:Nat):Int)-1)=(p.2.length:Int):=by rw[bZ aa aa];omega
 simp only[k1',j9,jC,j0,if_neg k1,fC,jE]
 rw[iS ag aa]
 simp only[j0,jF,jA,jB,kW,b]
theorem qEg(c:z.2≠0)(x:Ex)(a:Int):∃v,lP N (bR ts z i pr b) x a=some (bR ts z i pr b,v):=by
 refine⟨IntKind.wrap .i64 ((b.length:Int)-1),?_⟩
 have hz':(z.2==0)=false:=by simpa using c
 simp only[lP,bR,hz',j9,jC,j0]
end
section
variable {N:Nat} {ts:List cB} {pr:List BA} {b:List Ex} {i:Nat} {z:cH}
theorem UE(p:Ps)(hi:p.1<ts.length)(f:ts.length<1000000)(e:100<N)(pth:Bool):qR N (gR ts pr p) pth=some (match(if pth then nK ts p.1 else wH ts p.1) with| .inl z=>(bR ts z p.1 pr p.2,⟨#[]⟩)| .inr a=>(gR ts pr (a.1,p.2),a.2.2.1)):=by
 have d:=mE (N:=N) (pr:=pr) p hi
 have c:=oR (N:=N) (ts:=ts) (pr:=pr) p (aO ts p.1).2.2.2 9
 simp only[gR] at d c
 simp only[qR,gR,d,j0,MV e,qMm e,nK,wH,mG,fU,j9,jC]
 by_cases k1:(aO ts p.1).1=3
 .have k1':((aO ts p.1).1 !=3)=false:=by simp[k1]
  simp only[k1',j9,jC,j0,if_pos k1,bI]
  cases pth with
  |true=>
   simp only[jE,kI,j9,jC]
   rcases eK (iY (aO ts p.1).2.1.data.toList) with b|b
   .simp only[b,kI,j9,jC,j0,jE,nQ (show p.1<1000000 by omega)]
   simp only[b,jZ,j9,jC,j0,jE,c,eG]
  |false=>
   simp only[jE,jZ,j9,jC]
   rcases eK (uW (aO ts p.1).2.1) with b|b
   .simp only[b,kI,j9,jC,j0,jE,nQ (show p.1<1000000 by omega)]
   simp only[b,jZ,j9,jC,j0,jE,c,eG]
 have k1':((aO ts p.1).1 !=3)=true:=by simp[k1]
 simp only[k1',jE,j0,if_neg k1,bI,c,eG]
 cases pth<;>rfl
theorem UD(d:z.2≠0)(hi:i<ts.length)(pth:Bool):qR N (bR ts z i pr b) pth=some (bR ts z i pr b,⟨#[]⟩):=by
 have a:=rM (N:=N) (ts:=ts) (i:=i) (pr:=pr) (b:=b) (z:=z) hi
 have c:=sH (N:=N) (ts:=ts) (i:=i) (pr:=pr) (b:=b) d (aO ts i).2.2.2 9
 have hz':(z.2 !=0)=true:=by simpa using d
 simp only[bR] at a c
 simp only[qR,bR,a,j0,hz',jE,c]
theorem qDo{i:Nat}(h:i<2000000):IntKind.wrap .i64 ((i:Int)+1)=((i+1:Nat):Int):=by rw[bZ aa aa];omega
theorem qAi{s:BA}{l:List BA}(a:l.length<2000000):∀(d i M:Nat),i+d=l.length->d<M->
  aK (GF N l s) M (i:Int)=some (if s∈l.drop i then .inr true else .inl ())
 |d,i,0,_,h=>by omega
 |0,i,M+1,h,_=>by
  have:l.drop i=[]:=jQ aa
  simp only[aK,GF,this]
  rw[if_neg ad]
  rfl
 |d+1,i,M+1,h,c=>by
  have hi:i<l.length:=by omega
  have b:=qAi (s:=s) a d (i+1) M aa aa
  simp only[aK,GF]
  rw[if_pos ad,eR hi,jH hi]
  simp only[j0,mI,j6,jI]
  by_cases hs:l[i]=s
  .rw[if_pos hs,if_pos (.inl hs.symm)];rfl
  rw[if_neg hs]
  simp only[j0,qDo (show i<2000000 by omega),b]
  by_cases h2:s∈l.drop (i+1)
  .rw[if_pos h2,if_pos (.inr h2)]
  rw[if_neg h2,if_neg (fun h=>h.elim (fun e=>hs e.symm) h2)]
theorem VQ{s:BA}{l:List BA}(b:l.length<2000000)(a:l.length<N):sA N l s=some (decide (s∈l)):=by
 have h:=qAi (N:=N) (s:=s) b l.length 0 N aa a
 simp only[jS] at h
 simp only[sA]
 rw[show(0:Int)=((0:Nat):Int) from rfl,h]
 simp only[j0]
 by_cases h2:s∈l
 .rw[if_pos h2,jM h2]
 rw[if_neg h2,jR h2]
theorem andS(a b:Bool):(if a then some b else some false)=some (a&&b):=by cases a<;>rfl
theorem YH{s:BA}{k:Int}{f:Sr}(b:f.2.2.length<2000000):∀(d i M:Nat),i+d=f.2.2.length->d<M->
  aK (FP N f k s) M (i:Int)=some (if(f.2.2.drop i).any (fun d=>d.1==k&&decide (d.2.1=s))then .inr true else .inl ())
 |d,i,0,_,h=>by omega
 |0,i,M+1,h,_=>by
  have:f.2.2.drop i=[]:=jQ aa
  simp only[aK,FP,this]
  rw[if_neg ad]
  rfl
 |d+1,i,M+1,h,e=>by
  have hi:i<f.2.2.length:=by omega
  have c:=YH (s:=s) (k:=k) b d (i+1) M aa aa
  simp only[aK,FP]
  rw[if_pos ad,eR hi,jH hi,List.any_cons]
  simp only[j0,mI,qDo (show i<2000000 by omega),andS]
  rcases eK (f.2.2[i].1==k&&decide (f.2.2[i].2.1=s)) with a|a
  .simp only[a,jE,j0,Bool.true_or]
  simp only[a,j9,jC,j0,c,dH]
theorem qUq{s:BA}{k:Int}{f:Sr}(c:f.2.2.length<2000000)(b:f.2.2.length<N):yT N f k s=some (f.2.2.any fun d=>d.1==k&&decide (d.2.1=s)):=by
 have h:=YH (N:=N) (s:=s) (k:=k) c f.2.2.length 0 N aa b
 simp only[jS] at h
 simp only[yT]
 rw[show(0:Int)=((0:Nat):Int) from rfl,h]
 simp only[j0]
 rcases eK (f.2.2.any fun d=>d.1==k&&decide (d.2.1=s)) with a|a
 .rw[if_pos a,a]
 rw[if_neg (by rw[a];decide),a]
theorem op_3:mO ts 3 i=if cC ts 4 ⟨#[42]⟩ i then 3 else if cC ts 4 ⟨#[47]⟩ i then 4 else if cC ts 4 ⟨#[37]⟩ i then 5 else 0:=by
 unfold mO opsC
 simp only[List.find?,pL,wN]
 rcases eK (cC ts 4 ⟨#[42]⟩ i) with a|a<;>rcases eK (cC ts 4 ⟨#[47]⟩ i) with b|b<;>rcases eK (cC ts 4 ⟨#[37]⟩ i) with c|c<;>simp[a,b,c]
theorem op_2:mO ts 2 i=if cC ts 4 ⟨#[43]⟩ i then 1 else if cC ts 4 ⟨#[45]⟩ i then 2 else 0:=by
 unfold mO opsC
 simp only[List.find?,pL,wN]
 rcases eK (cC ts 4 ⟨#[43]⟩ i) with a|a<;>rcases eK (cC ts 4 ⟨#[45]⟩ i) with b|b<;>simp[a,b]
theorem op_1:mO ts 1 i=if cC ts 4 ⟨#[60]⟩ i then 6 else if cC ts 4 ⟨#[61,61]⟩ i then 7 else 0:=by
 unfold mO opsC
 simp only[List.find?,pL,wN]
 rcases eK (cC ts 4 ⟨#[60]⟩ i) with a|a<;>rcases eK (cC ts 4 ⟨#[61,61]⟩ i) with b|b<;>simp[a,b]
theorem DL{α:Type}{t:cB}{e:Int}(a:e≠0)(h:(eG t e:cH⊕α)= .inl z):z.2≠0:=by
 obtain rfl:=Sum.inl.inj h;exact a
theorem qY{s:BA}(h:dU ts s i= .inl z):z.2≠0:=by
 unfold dU at h;split at h
 .cases h
 exact DL ac h
theorem IE{k:Int}(h:mG ts k i= .inl z):z.2≠0:=by
 unfold mG at h;split at h
 .cases h
 exact DL ac h
theorem TY{α β:Type}{x:cH⊕α}{f:α->cH⊕β}(h:bI x f= .inl z):x= .inl z\/∃a,x= .inr a/\f a= .inl z:=by
 cases x with
 |inl y=>obtain rfl:=Sum.inl.inj h;exact .inl rfl
 |inr a=>exact .inr ⟨a,rfl,h⟩
theorem NZ(h:mF ts i= .inl z):z.2≠0:=by
 rcases TY h with h|⟨a,_,h⟩
 .exact IE h
 split at h
 .exact DL ac h
 cases h
theorem NR(h:nK ts i= .inl z):z.2≠0:=by
 rcases TY h with h|⟨a,_,h⟩
 .exact IE h
 split at h
 .cases h
 exact DL ac h
theorem qQx(h:wH ts i= .inl z):z.2≠0:=by
 rcases TY h with h|⟨a,_,h⟩
 .exact IE h
 split at h
 .cases h
 exact DL ac h
theorem TT{t:cB}{x:Ex}{p:Ps}(h:lQ t x p= .inl z):z.2≠0:=by
 unfold lQ at h;split at h
 .exact DL ac h
 cases h
end
def tC(ts:List cB)(z:cH)(st:RT):Prop:=z.2≠0/\∃(i:Nat) (pr:List BA) (b:List Ex),i<ts.length/\st=bR ts z i pr b
def iZ(ts:List cB)(pr:List BA)(r:PM Nat)(o:RT×Int):Prop:=
 match r with
 | .inl z=>tC ts z o.1
 | .inr q=>o=(gR ts pr q.1,(q.2:Int))
section
variable {N:Nat} {ts:List cB} {pr:List BA} {E S:Ps->PM Nat} {d:Int}
variable {r1 r2 r3 r4:RT->Int->Option (RT×Int)}
theorem sF{z:cH}{i:Nat}{pr':List BA}{b:List Ex}{v:Int}(a:z.2≠0)(hi:i<ts.length):iZ ts pr (.inl z) (bR ts z i pr' b,v):=⟨a,i,pr',b,hi,rfl⟩
theorem zB(t:cB)(x:Ex)(p:Ps)(c:p.1<ts.length)(b:p.2.length<=256):∃o,lP N (gR ts pr p) x t.2.2.2=some o/\iZ ts pr (lQ t x p) o:=by
 obtain⟨v,h⟩:=qDg (N:=N) (ts:=ts) (pr:=pr) t x p b
 cases a:lQ t x p with
 |inl z=>rw[a] at h;exact⟨_,h,sF (TT a) c⟩
 |inr q=>rw[a] at h;exact⟨_,h,rfl⟩
theorem DD{z:cH}{i:Nat}{pr':List BA}{b:List Ex}(c:z.2≠0)(hi:i<ts.length)(x:Ex)(a:Int):∃o,lP N (bR ts z i pr' b) x a=some o/\iZ ts pr (.inl z) o:=by
 obtain⟨v,h⟩:=qEg (N:=N) (ts:=ts) (pr:=pr') (b:=b) (i:=i) c x a
 exact⟨_,h,sF c hi⟩
theorem SI(t:cB)(x:Ex)(p:Ps)(b:OkT ts)(d:ts.length<1000000)(a:p.1<ts.length)(c:p.2.length<=256):∃o,
  ((iR N (gR ts pr p) (⟨#[41]⟩:BA)).bind fun y=>lP N y x t.2.2.2)=some o/\iZ ts pr (bI (dU ts lU p.1) fun i=>lQ t x (i,p.2)) o:=by
 have e:=sG (N:=N) (pr:=pr) p a d ⟨#[41]⟩
 simp only[e,j0,lU]
 cases h:dU ts ⟨#[41]⟩ p.1 with
 |inl z=>exact DD (qY h) a x _
 |inr j=>
  obtain⟨rfl,g,-⟩:=mC b a h
  exact zB t x (p.1+1,p.2) g c
theorem yZ{z:cH}{i:Nat}{pr':List BA}{b:List Ex}(c:z.2≠0)(hi:i<ts.length)(x:Ex)(a:Int):∃o,
  ((iR N (bR ts z i pr' b) (⟨#[41]⟩:BA)).bind fun y=>lP N y x a)=some o/\iZ ts pr (.inl z) o:=by
 simp only[rK c hi,j0]
 exact DD c hi x a
variable (hEg:∀p:Ps,p.1<ts.length->p.2.length<=256->∃o,r4 (gR ts pr p) (IntKind.wrap .i64 (d+1))=some o/\iZ ts pr (E p) o)
variable (hEb:∀(z:cH) (i:Nat) (pr':List BA) (b:List Ex),z.2≠0->i<ts.length->∃v,r4 (bR ts z i pr' b) (IntKind.wrap .i64 (d+1))=some (bR ts z i pr' b,v))
def OC(ts:List cB)(E:Ps->PM Nat)(n:Nat)(l:List Int)(p:Ps):PM (List Int):=
 if cC ts 4 qK p.1 then uX ts E n l (p.1+1,p.2) else bI (dU ts lU p.1) fun i=> .inr ((i,p.2),l)
theorem NM(n:Nat)(l:List Int)(p:Ps):uX ts E (n+1) l p=bI (E p) fun q=>OC ts E n (l++[(q.2:Int)]) q.1:=rfl
def qFx(ts:List cB)(pr:List BA)(r:PM (List Int))(o:List Int×RT):Prop:=
 match r with
 | .inl z=>tC ts z o.2
 | .inr q=>o=(q.2,gR ts pr q.1)
theorem RZ{z:cH}{i:Nat}{pr':List BA}{b:List Ex}(a:z.2≠0)(M:Nat)(l:List Int):aK (wT N r4 d) (M+1) (l,bR ts z i pr' b)=some (l,bR ts z i pr' b):=by
 have hz':(z.2==0)=false:=by simpa using a
 simp only[aK,wT,bR,hz',j9,jC,j0]
include hEg hEb in
theorem ZH(k:OkT ts)(s:ts.length<1000000)(u:lY ts E):∀(n M:Nat) (l:List Int) (p:Ps),l≠[]->p.1<ts.length->p.2.length<=256->l.length<=p.1->ts.length<p.1+n->ts.length+2<p.1+M->
  ∃o,aK (wT N r4 d) M (l,gR ts pr p)=some o/\qFx ts pr (OC ts E n l p) o
 |0,M,l,p,_,c,_,_,h,_=>by omega
 |n+1,0,l,p,_,c,_,_,_,h=>by omega
 |n+1,M+1,l,p,A,c,x,R,Y,V=>by
  have K:=pG (N:=N) (pr:=pr) p c s ⟨#[41]⟩
  have t:decide ((l.length:Int)>0)=true:=by
   have:=fL.2 A
   exact jM aa
  have G:((gR ts pr p).2.2.2.1==0)=true:=rfl
  simp only[aK,wT,Prod.eta,G,jE,K,j0]
  rcases eK (cC ts 4 ⟨#[41]⟩ p.1) with a|a
  .simp only[a,jE,kI,j9,jC]
   refine⟨_,rfl,?_⟩
   have e:cC ts 4 qK p.1=false:=by
    simp only[cC,jJ,j6] at a
    simp[cC,a.2,qK]
   have r:dU ts lU p.1= .inr (p.1+1):=by simp[dU,lU,a]
   simp only[OC,e,j9,jC,r,bI]
   rfl
  simp only[a,j9,jC,jZ,jE,t,Prod.eta,sG p c s,j0]
  have y:cC ts 4 qK p.1=cC ts 4 ⟨#[44]⟩ p.1:=rfl
  simp only[OC,y,dU]
  rcases eK (cC ts 4 ⟨#[44]⟩ p.1) with e|e
  .have g:=mD k c ac e
   simp only[e,jE]
   obtain⟨o,H,f⟩:=hEg (p.1+1,p.2) g x
   simp only[H,j0]
   cases hE:E (p.1+1,p.2) with
   |inl z=>
    rw[hE] at f
    obtain⟨D,i,pr',b,hi,B⟩:=f
    rw[iS ag aa]
    simp only[j0,B]
    cases M with
    |zero=>omega
    |succ M=>
     refine⟨_,RZ D M _,?_⟩
     rw[NM,hE]
     exact⟨D,i,pr',b,hi,rfl⟩
   |inr q=>
    rw[hE] at f
    obtain⟨⟨B,D,S,F⟩,U⟩:=u (p.1+1,p.2) q.1 q.2 g x hE
    simp only at B
    rw[iS ag aa]
    have hr':o=(gR ts pr q.1,(q.2:Int)):=f
    simp only[j0,hr']
    rw[NM,hE]
    exact ZH k s u n M (l++[(q.2:Int)]) q.1 ae D F aj aa aa
  simp only[e,j9,jC]
  have r:cC ts 4 lU p.1=false:=a
  simp only[r,j9,jC,eG,bI]
  obtain⟨v,f⟩:=hEb ((aO ts p.1).2.2.2,9) p.1 pr p.2 (show(9:Int)≠0 by decide) c
  simp only[f,j0]
  rw[iS ag aa]
  simp only[j0]
  cases M with
  |zero=>omega
  |succ M=>exact⟨_,RZ (z:=((aO ts p.1).2.2.2,9)) (show(9:Int)≠0 by decide) M _,show(9:Int)≠0 by decide,p.1,pr,p.2,c,rfl⟩
include hEg hEb in
theorem qVc(n:OkT ts)(k:ts.length<1000000)(A:1000002<N)(g:lY ts E)(p:Ps)(f:p.1<ts.length)(h:p.2.length<=256):
  ∃o,aK (wT N r4 d) N ([],gR ts pr p)=some o/\qFx ts pr (if cC ts 4 lU p.1 then .inr ((p.1+1,p.2),[]) else uX ts E (ts.length+1) [] p) o:=by
 obtain⟨M,rfl⟩:∃M,N=M+1:=⟨N-1,by omega⟩
 have u:=pG (N:=M+1) (pr:=pr) p f k ⟨#[41]⟩
 have s:((gR ts pr p).2.2.2.1==0)=true:=rfl
 have e:decide ((([]:List Int).length:Int)>0)=false:=rfl
 simp only[aK,wT,Prod.eta,s,jE,u,j0,lU]
 rcases eK (cC ts 4 ⟨#[41]⟩ p.1) with c|c
 .simp only[c,jE,kI,j9,jC]
  exact⟨_,rfl,rfl⟩
 simp only[c,j9,jC,jZ,jE,e,Prod.eta,j0]
 obtain⟨o,t,a⟩:=hEg p f h
 simp only[t,j0]
 cases hE:E p with
 |inl z=>
  rw[hE] at a
  obtain⟨r,i,pr',b,hi,l⟩:=a
  rw[iS ae aa]
  simp only[j0,l]
  cases M with
  |zero=>omega
  |succ M=>
   refine⟨_,RZ r M _,?_⟩
   rw[NM,hE]
   exact⟨r,i,pr',b,hi,rfl⟩
 |inr q=>
  rw[hE] at a
  obtain⟨⟨v,l,x,r⟩,y⟩:=g p q.1 q.2 f h hE
  rw[iS ae aa]
  have hr':o=(gR ts pr q.1,(q.2:Int)):=a
  simp only[j0,hr']
  rw[NM,hE]
  exact ZH hEg hEb n k g ts.length M ([]++[(q.2:Int)]) q.1 ae l r aj aa aa
end
section
variable {N:Nat} {ts:List cB} {pr:List BA} {E S:Ps->PM Nat} {d:Int}
variable {r1 r2 r3 r4:RT->Int->Option (RT×Int)}
theorem qCt{y1:RT×cB}{y31:RT×BA}{p:Ps}(a:pr.length<1000):∀(k i M:Nat),i+k=pr.length->k<M->
  aK (wU N y1 y31 (gR ts pr p,false)) M (i:Int)=(match(pr.drop i).findIdx? (fun x=>decide (x=y31.2)) with
   |some j=>(lP N (gR ts pr p) (2,((i+j:Nat):Int),0,⟨#[]⟩,[]) y1.2.2.2.2).bind fun y=>some (.inr y)
   |none=>some (.inl ()))
 |k,i,0,_,h=>by omega
 |0,i,M+1,h,_=>by
  have:pr.drop i=[]:=jQ aa
  have c:decide ((i:Int)<((gR ts pr p).2.2.2.2.1.length:Int))=false:=jR (by simp only[gR];omega)
  simp only[aK,wU,this,List.findIdx?_nil,c,j9,jC,j0]
 |k+1,i,M+1,h,e=>by
  have hi:i<pr.length:=by omega
  have d:=qCt (y1:=y1) (y31:=y31) (p:=p) a k (i+1) M aa aa
  have c:decide ((i:Int)<((gR ts pr p).2.2.2.2.1.length:Int))=true:=jM (by simp only[gR];omega)
  have x:bS (gR ts pr p).2.2.2.2.1 (i:Int)=some pr[i]:=eR hi
  have b:((gR ts pr p).2.2.2.1==0)=true:=rfl
  rw[jH hi,List.findIdx?_cons]
  simp only[aK,wU,b,Prod.eta,c,x,jE,j0,mI,j6]
  by_cases hs:pr[i]=y31.2
  .simp only[if_pos hs,jE,j0,gU]
   cases lP N (gR ts pr p) (2,(i:Int),0,⟨#[]⟩,[]) y1.2.2.2.2<;>rfl
  simp only[if_neg hs,j0,j9,jC,nQ (show i<1000000 by omega),d]
  cases(pr.drop (i+1)).findIdx? (fun x=>decide (x=y31.2)) with
  |none=>rfl
  |some j=>simp only[kK];rw[show i+1+j=i+(j+1) by omega]
theorem TB{y1:RT×cB}{y31:RT×BA}{z:cH}{j:Nat}{pr':List BA}{b:List Ex}(d:z.2≠0)(a:pr'.length<1000):∀(k i M:Nat),i+k=pr'.length->k<M->
  aK (wU N y1 y31 (bR ts z j pr' b,false)) M (i:Int)=some (.inl ())
 |k,i,0,_,h=>by omega
 |0,i,M+1,h,_=>by
  have c:decide ((i:Int)<((bR ts z j pr' b).2.2.2.2.1.length:Int))=false:=jR (by simp only[bR];omega)
  simp only[aK,wU,c,j9,jC,j0]
 |k+1,i,M+1,h,g=>by
  have hi:i<pr'.length:=by omega
  have f:=TB (y1:=y1) (y31:=y31) (j:=j) (b:=b) d a k (i+1) M aa aa
  have c:decide ((i:Int)<((bR ts z j pr' b).2.2.2.2.1.length:Int))=true:=jM (by simp only[bR];omega)
  have x:bS (bR ts z j pr' b).2.2.2.2.1 (i:Int)=some pr'[i]:=eR hi
  have e:((bR ts z j pr' b).2.2.2.1==0)=false:=by simpa[bR] using d
  simp only[aK,wU,e,Prod.eta,c,x,jE,j0,mI,j6]
  have:((if pr'[i]=y31.2 then some false else some false):Option Bool)=some false:=by split<;>rfl
  simp only[this,j0,j9,jC,nQ (show i<1000000 by omega),f]
variable (hEg:∀p:Ps,p.1<ts.length->p.2.length<=256->∃o,r4 (gR ts pr p) (IntKind.wrap .i64 (d+1))=some o/\iZ ts pr (E p) o)
variable (hEb:∀(z:cH) (i:Nat) (pr':List BA) (b:List Ex),z.2≠0->i<ts.length->∃v,r4 (bR ts z i pr' b) (IntKind.wrap .i64 (d+1))=some (bR ts z i pr' b,v))
include hEg hEb in
theorem qSg(e:OkT ts)(k:ts.length<1000000)(H:100<N)(G:lY ts E)(t:cB)(p:Ps)(f:p.1<ts.length)(A:p.2.length<=256):∃o,
  ((iR N (gR ts pr p) (⟨#[40]⟩:BA)).bind fun D=>(qR N D true).bind fun r=>(iR N r.1 (⟨#[44]⟩:BA)).bind fun F=>(r4 F (IntKind.wrap .i64 (d+1))).bind fun c=>(iR N c.1 (⟨#[41]⟩:BA)).bind fun g=>lP N g (6,0,0,r.2,[c.2]) t.2.2.2)=some o/\
  iZ ts pr (bI (dU ts oL p.1) fun i=>bI (bI (nK ts i) fun a=>bI (dU ts qK a.1) fun i=>bI (E (i,p.2)) fun q=>(.inr (q.1,((6,0,0,a.2.2.1,[(q.2:Int)]):Ex)):cH⊕(Ps×Ex))) fun q=>bI (dU ts lU q.1.1) fun i=>lQ t q.2 (i,q.1.2)) o:=by
 have bad:∀{z:cH} {i:Nat} {pr':List BA} {b:List Ex} (x:BA),z.2≠0->i<ts.length->∃o,((r4 (bR ts z i pr' b) (IntKind.wrap .i64 (d+1))).bind fun c=>(iR N c.1 (⟨#[41]⟩:BA)).bind fun g=>lP N g (6,0,0,x,[c.2]) t.2.2.2)=some o/\iZ ts pr (.inl z) o:=by
  intro z i pr' b x n hi
  obtain⟨v,h⟩:=hEb z i pr' b n hi
  simp only[h,j0]
  exact yZ n hi _ _
 simp only[sG p f k,j0,oL]
 cases h1:dU ts ⟨#[40]⟩ p.1 with
 |inl z=>
  simp only[UD (qY h1) f,rK (qY h1) f,j0]
  exact bad _ (qY h1) f
 |inr i=>
  obtain⟨rfl,h,-⟩:=mC e f h1
  simp only[UE (p.1+1,p.2) h k H,j0,jE,bI]
  cases h2:nK ts (p.1+1) with
  |inl z=>
   simp only[rK (NR h2) h,j0]
   exact bad _ (NR h2) h
  |inr a=>
   obtain⟨rfl,s,-⟩:=tN e h h2
   simp only[sG (p.1+1+1,p.2) s k,j0,qK]
   cases y:dU ts ⟨#[44]⟩ (p.1+1+1) with
   |inl z=>exact bad _ (qY y) s
   |inr j=>
    obtain⟨rfl,u,-⟩:=mC e s y
    obtain⟨o,K,l⟩:=hEg (p.1+1+1+1,p.2) u A
    simp only[K,j0]
    cases h4:E (p.1+1+1+1,p.2) with
    |inl z=>
     rw[h4] at l
     obtain⟨n,i,pr',b,hi,B⟩:=l
     simp only[B]
     exact yZ n hi _ _
    |inr q=>
     rw[h4] at l
     obtain⟨⟨M,n,R,B⟩,S⟩:=G (p.1+1+1+1,p.2) q.1 q.2 u A h4
     have hr':o=(gR ts pr q.1,(q.2:Int)):=l
     simp only[hr']
     exact SI t _ q.1 e k n B
theorem UM(c:OkT ts)(h:ts.length<1000000)(r:100<N)(k:Int)(pth:Bool)(t:cB)(p:Ps)(f:p.1<ts.length)(s:p.2.length<=256):∃o,
  ((iR N (gR ts pr p) (⟨#[40]⟩:BA)).bind fun l=>(qR N l pth).bind fun g=>(iR N g.1 (⟨#[41]⟩:BA)).bind fun n=>lP N n (k,0,0,g.2,[]) t.2.2.2)=some o/\
  iZ ts pr (bI (dU ts oL p.1) fun i=>bI (bI (if pth then nK ts i else wH ts i) fun a=>(.inr ((a.1,p.2),((k,0,0,a.2.2.1,[]):Ex)):cH⊕(Ps×Ex))) fun q=>bI (dU ts lU q.1.1) fun i=>lQ t q.2 (i,q.1.2)) o:=by
 simp only[sG p f h,j0,oL]
 cases h1:dU ts ⟨#[40]⟩ p.1 with
 |inl z=>
  simp only[UD (qY h1) f,j0]
  exact yZ (qY h1) f _ _
 |inr i=>
  obtain⟨rfl,d,-⟩:=mC c f h1
  simp only[UE (p.1+1,p.2) d h r,j0,bI]
  cases h2:(if pth then nK ts (p.1+1) else wH ts (p.1+1)) with
  |inl z=>
   have b:z.2≠0:=by
    split at h2
    .exact NR h2
    exact qQx h2
   exact yZ b d _ _
  |inr a=>
   have b:a=(p.1+1+1,aO ts (p.1+1))/\p.1+1+1<ts.length:=by
    split at h2
    .obtain⟨e,b,-⟩:=tN c d h2;exact⟨e,b⟩
    obtain⟨e,b,-⟩:=qAo c d h2;exact⟨e,b⟩
   obtain⟨rfl,b⟩:=b
   exact SI t _ (p.1+1+1,p.2) c h b s
theorem qSi(c:OkT ts)(h:ts.length<1000000)(t:cB)(p:Ps)(d:p.1<ts.length)(u:p.2.length<=256):∃o,
  ((iR N (gR ts pr p) (⟨#[40]⟩:BA)).bind fun n=>(iT N n).bind fun g=>(vH N g.1).bind fun b=>(if(decide (b.2>=64))then((lB N b.1 g.2.2.2.2 9).bind fun r=>some r) else(some b.1):Option RT).bind fun v=>(iR N v (⟨#[41]⟩:BA)).bind fun s=>lP N s (10,b.2,0,⟨#[]⟩,[]) t.2.2.2)=some o/\
  iZ ts pr (bI (dU ts oL p.1) fun i=>bI (bI (mG ts 2 i) fun a=>if a.2.2.2.1>=64 then eG a.2 9 else(.inr ((a.1,p.2),((10,a.2.2.2.1,0,⟨#[]⟩,[]):Ex)):cH⊕(Ps×Ex))) fun q=>bI (dU ts lU q.1.1) fun i=>lQ t q.2 (i,q.1.2)) o:=by
 have f:¬decide ((0:Int)>=64)=true:=by decide
 simp only[sG p d h,j0,oL]
 cases h1:dU ts ⟨#[40]⟩ p.1 with
 |inl z=>
  simp only[rM d,qPd (qY h1) d,j0,if_neg f]
  exact yZ (qY h1) d _ _
 |inr i=>
  obtain⟨rfl,e,-⟩:=mC c d h1
  simp only[mE (p.1+1,p.2) e,RW (p.1+1,p.2) e h,j0,bI]
  cases h2:mG ts 2 (p.1+1) with
  |inl z=>
   simp only[if_neg f,j0]
   exact yZ (IE h2) e _ _
  |inr a=>
   obtain⟨rfl,l,-⟩:=wC c ac e h2
   by_cases k:(aO ts (p.1+1)).2.2.1>=64
   .simp only[if_pos k,j6,jE,oR,j0]
    exact yZ (show(9:Int)≠0 by decide) l _ _
   simp only[if_neg k,j6,j0]
   exact SI t _ (p.1+1+1,p.2) c h l u
end
section
variable {N:Nat} {ts:List cB} {pr:List BA} {E S:Ps->PM Nat} {d:Int}
variable {r1 r2 r3 r4:RT->Int->Option (RT×Int)}
theorem qCw{s:BA}{i:Nat}(h:(aO ts i).1=1):cC ts 1 s i=decide ((aO ts i).2.1=s):=by simp[cC,h]
theorem qFd{k:Int}{s:BA}{i:Nat}(h:(aO ts i).1≠k):cC ts k s i=false:=by simp[cC,h]
theorem qE{α:Type}(x:Option α):(x.bind fun y=>some y)=x:=by cases x<;>rfl
theorem qOo{z:cH}{i:Nat}{pr':List BA}{b:List Ex}(c:z.2≠0)(hi:i<ts.length):AP N r1 r2 r3 r4 (bR ts z i pr' b) d=some (bR ts z i pr' b,0):=by
 have a:((bR ts z i pr' b).2.2.2.1 !=0)=true:=by simpa[bR] using c
 simp only[AP,Prod.eta,rM hi,j0,a,jE]
variable (hEg:∀p:Ps,p.1<ts.length->p.2.length<=256->∃o,r4 (gR ts pr p) (IntKind.wrap .i64 (d+1))=some o/\iZ ts pr (E p) o)
variable (hEb:∀(z:cH) (i:Nat) (pr':List BA) (b:List Ex),z.2≠0->i<ts.length->∃v,r4 (bR ts z i pr' b) (IntKind.wrap .i64 (d+1))=some (bR ts z i pr' b,v))
include hEg hEb in
theorem qSu(e:OkT ts)(f:ts.length<1000000)(H:pr.length<1000)(hN:1000002<N)(M:lY ts E)(p:Ps)(l:p.1<ts.length)(t:p.2.length<=256):
  ∃o,AP N r1 r2 r3 r4 (gR ts pr p) d=some o/\iZ ts pr (sV ts pr E p) o:=by
 have Y:((gR ts pr p).2.2.2.1 !=0)=false:=rfl
 simp only[AP,Prod.eta,mE p l,j0,Y,j9,jC]
 unfold sV
 dsimp only
 by_cases k1:(aO ts p.1).1=2
 .have k1':((aO ts p.1).1==2)=true:=by simpa using k1
  have g:=e.next l (show(aO ts p.1).1≠5 by rw[k1];decide)
  rw[if_pos k1]
  simp only[k1',jE,RW p l f,mG,if_pos k1,j0]
  obtain⟨o,k,c⟩:=zB (N:=N) (pr:=pr) (aO ts p.1) (1,(aO ts p.1).2.2.1,0,⟨#[]⟩,[]) (p.1+1,p.2) g t
  simp only[k,j0]
  exact⟨_,rfl,c⟩
 have k1':((aO ts p.1).1==2)=false:=by simpa using k1
 rw[if_neg k1]
 simp only[k1',j9,jC,pG p l f,j0]
 rcases eK (cC ts 4 UL p.1) with B|B
 .have c1':cC ts 4 ⟨#[45]⟩ p.1=true:=B
  have g:=mD e l ac B
  simp only[B,c1',jE,RW (p.1+1,p.2) g f,j0]
  cases h:mG ts 2 (p.1+1) with
  |inl z=>
   obtain⟨o,k,c⟩:=DD (N:=N) (pr:=pr) (pr':=pr) (b:=p.2) (IE h) g (1,IntKind.wrap .i64 (0-0),0,⟨#[]⟩,[]) (aO ts p.1).2.2.2
   simp only[k,j0]
   exact⟨_,rfl,c⟩
  |inr a=>
   obtain⟨rfl,F,-⟩:=wC e ac g h
   obtain⟨o,k,c⟩:=zB (N:=N) (pr:=pr) (aO ts p.1) (1,IntKind.wrap .i64 (0-(aO ts (p.1+1)).2.2.1),0,⟨#[]⟩,[]) (p.1+1+1,p.2) F t
   simp only[k,j0,bI]
   exact⟨_,rfl,c⟩
 have c1':cC ts 4 ⟨#[45]⟩ p.1=false:=B
 simp only[B,c1',j9,jC,pG p l f,j0]
 rcases eK (cC ts 4 oL p.1) with D|D
 .have c2':cC ts 4 ⟨#[40]⟩ p.1=true:=D
  have g:=mD e l ac D
  obtain⟨o,k,c⟩:=hEg (p.1+1,p.2) g t
  simp only[D,c2',jE,k,j0]
  cases h:E (p.1+1,p.2) with
  |inl z=>
   rw[h] at c
   obtain⟨r,i,pr',b,hi,G⟩:=c
   simp only[G,rK r hi,j0,bI]
   exact⟨_,rfl,sF r hi⟩
  |inr q=>
   rw[h] at c
   obtain⟨⟨U,K,V,S⟩,v⟩:=M (p.1+1,p.2) q.1 q.2 g t h
   have hr':o=(gR ts pr q.1,(q.2:Int)):=c
   simp only[hr',sG q.1 K f,j0,bI,lU]
   cases u:dU ts ⟨#[41]⟩ q.1.1 with
   |inl z=>exact⟨_,rfl,sF (qY u) K⟩
   |inr j=>exact⟨_,rfl,rfl⟩
 have c2':cC ts 4 ⟨#[40]⟩ p.1=false:=D
 simp only[D,c2',j9,jC,qW p l f,j0]
 by_cases k2:(aO ts p.1).1=1
 rotate_left
 .-- no name
  rw[if_pos k2]
  have n:∀s,cC ts 1 s p.1=false:=fun s=>qFd k2
  have v:mF ts p.1= .inl ((aO ts p.1).2.2.2,9):=by simp[mF,mG,k2,bI,eG]
  simp only[n,j9,jC,qW p l f,j0,DJ p l f (by omega:100<N),v]
  have r:(((aO ts p.1).2.2.2,(9:Int)):cH).2≠0:=show(9:Int)≠0 by decide
  have u:=TB (N:=N) (ts:=ts) (y1:=(gR ts pr p,aO ts p.1)) (y31:=(bR ts ((aO ts p.1).2.2.2,9) p.1 pr p.2,(⟨#[]⟩:BA))) (j:=p.1) (pr':=pr) (b:=p.2) r H pr.length 0 N aa aa
  rw[show((0:Nat):Int)=0 from rfl] at u
  simp only[NW r,j0,jZ,jE,u,sH r]
  exact⟨_,rfl,sF r l⟩
 rw[if_neg (show ¬(aO ts p.1).1≠1 by simpa using k2)]
 have g:=e.next l (show(aO ts p.1).1≠5 by rw[k2];decide)
 have n:∀s,cC ts 1 s p.1=decide ((aO ts p.1).2.1=s):=fun s=>qCw k2
 simp only[n,qW p l f,j0]
 by_cases w1:(aO ts p.1).2.1=pX
 .rw[if_pos (show(aO ts p.1).2.1∈[pX,pZ,qB,qC,rB] by rw[w1];simp)]
  have w1':decide ((aO ts p.1).2.1=(⟨#[114,101,97,100]⟩:BA))=true:=jM w1
  simp only[w1',jE]
  obtain⟨o,k,c⟩:=qSg (N:=N) hEg hEb e f aa M (aO ts p.1) (p.1+1,p.2) g t
  refine⟨o,Eq.trans ?_ k,?_⟩
  .simp only[qE]
  simp only[sC,if_pos w1]
  exact c
 have w1':decide ((aO ts p.1).2.1=(⟨#[114,101,97,100]⟩:BA))=false:=jR w1
 simp only[w1',j9,jC,qW p l f,j0,n]
 by_cases w2:(aO ts p.1).2.1=pZ
 .rw[if_pos (show(aO ts p.1).2.1∈[pX,pZ,qB,qC,rB] by rw[w2];simp)]
  have w2':decide ((aO ts p.1).2.1=(⟨#[115,105,122,101]⟩:BA))=true:=jM w2
  have wx:((aO ts p.1).2.1.toList==(⟨#[104,97,115]⟩:BA).toList)=false:=by rw[mI,w2];decide
  have wy:((aO ts p.1).2.1.toList==(⟨#[101,110,118]⟩:BA).toList)=false:=by rw[mI,w2];decide
  simp only[w2',jE,j0,wx,wy,j9,jC]
  obtain⟨o,k,c⟩:=UM (N:=N) (pr:=pr) e f aa 7 true (aO ts p.1) (p.1+1,p.2) g t
  refine⟨o,Eq.trans ?_ k,?_⟩
  .simp only[qE];rfl
  simp only[sC,if_neg w1,if_pos w2]
  exact c
 have w2':decide ((aO ts p.1).2.1=(⟨#[115,105,122,101]⟩:BA))=false:=jR w2
 simp only[w2',j9,jC,qW p l f,j0,n]
 by_cases w3:(aO ts p.1).2.1=qB
 .rw[if_pos (show(aO ts p.1).2.1∈[pX,pZ,qB,qC,rB] by rw[w3];simp)]
  have w3':decide ((aO ts p.1).2.1=(⟨#[104,97,115]⟩:BA))=true:=jM w3
  have wx:((aO ts p.1).2.1.toList==(⟨#[104,97,115]⟩:BA).toList)=true:=by rw[mI,w3']
  simp only[w3',jE,j0,wx]
  obtain⟨o,k,c⟩:=UM (N:=N) (pr:=pr) e f aa 8 true (aO ts p.1) (p.1+1,p.2) g t
  refine⟨o,Eq.trans ?_ k,?_⟩
  .simp only[qE];rfl
  simp only[sC,if_neg w1,if_neg w2,if_pos w3]
  exact c
 have w3':decide ((aO ts p.1).2.1=(⟨#[104,97,115]⟩:BA))=false:=jR w3
 simp only[w3',j9,jC,qW p l f,j0,n]
 by_cases w4:(aO ts p.1).2.1=qC
 .rw[if_pos (show(aO ts p.1).2.1∈[pX,pZ,qB,qC,rB] by rw[w4];simp)]
  have w4':decide ((aO ts p.1).2.1=(⟨#[101,110,118]⟩:BA))=true:=jM w4
  have wx:((aO ts p.1).2.1.toList==(⟨#[104,97,115]⟩:BA).toList)=false:=by rw[mI,w4];decide
  have wy:((aO ts p.1).2.1.toList==(⟨#[101,110,118]⟩:BA).toList)=true:=by rw[mI,w4']
  simp only[w4',jE,j0,wx,wy,j9,jC]
  obtain⟨o,k,c⟩:=UM (N:=N) (pr:=pr) e f aa 9 false (aO ts p.1) (p.1+1,p.2) g t
  refine⟨o,Eq.trans ?_ k,?_⟩
  .simp only[qE];rfl
  simp only[sC,if_neg w1,if_neg w2,if_neg w3,if_pos w4]
  exact c
 have w4':decide ((aO ts p.1).2.1=(⟨#[101,110,118]⟩:BA))=false:=jR w4
 simp only[w4',j9,jC,qW p l f,j0,n]
 by_cases w5:(aO ts p.1).2.1=rB
 .rw[if_pos (show(aO ts p.1).2.1∈[pX,pZ,qB,qC,rB] by rw[w5];simp)]
  have w5':decide ((aO ts p.1).2.1=(⟨#[102,108,105,112]⟩:BA))=true:=jM w5
  simp only[w5',jE]
  obtain⟨o,k,c⟩:=qSi (N:=N) (pr:=pr) e f (aO ts p.1) (p.1+1,p.2) g t
  refine⟨o,Eq.trans ?_ k,?_⟩
  .simp only[qE]
  simp only[sC,if_neg w1,if_neg w2,if_neg w3,if_neg w4]
  exact c
 have w5':decide ((aO ts p.1).2.1=(⟨#[102,108,105,112]⟩:BA))=false:=jR w5
 rw[if_neg (show ¬(aO ts p.1).2.1∈[pX,pZ,qB,qC,rB] by simp[w1,w2,w3,w4,w5])]
 simp only[w5',j9,jC,DJ p l f (by omega:100<N),j0,mF,mG,if_pos k2,bI]
 rcases eK (tW (aO ts p.1).2.1) with R|R
 .simp only[R,jE,eG]
  have r:(((aO ts p.1).2.2.2,(9:Int)):cH).2≠0:=show(9:Int)≠0 by decide
  have u:=TB (N:=N) (ts:=ts) (y1:=(gR ts pr p,aO ts p.1)) (y31:=(bR ts ((aO ts p.1).2.2.2,9) p.1 pr p.2,(⟨#[]⟩:BA))) (j:=p.1) (pr':=pr) (b:=p.2) r H pr.length 0 N aa aa
  rw[show((0:Nat):Int)=0 from rfl] at u
  simp only[NW r,j0,jZ,jE,u,sH r]
  exact⟨_,rfl,sF r l⟩
 simp only[R,j9,jC,pG (p.1+1,p.2) g f,j0]
 rcases eK (cC ts 4 oL (p.1+1)) with A|A
 .have c4':cC ts 4 ⟨#[40]⟩ (p.1+1)=true:=A
  have F:=mD e g ac A
  simp only[A,c4',jE,kI,j9,jC]
  have Z:dU ts oL (p.1+1)= .inr (p.1+1+1):=by simp[dU,A]
  simp only[vV,Z,bI]
  obtain⟨o,k,c⟩:=qVc (N:=N) hEg hEb e f aa M (p.1+1+1,p.2) F t
  simp only[k,j0]
  cases ha:(if cC ts 4 lU (p.1+1+1)then .inr ((p.1+1+1+1,p.2),[]) else uX ts E (ts.length+1) [] (p.1+1+1,p.2):PM (List Int)) with
  |inl z=>
   rw[ha] at c
   obtain⟨r,i,pr',b,hi,G⟩:=c
   simp only[G]
   obtain⟨o2,v,y⟩:=DD (N:=N) (pr:=pr) (pr':=pr') (b:=b) r hi (3,0,0,(aO ts p.1).2.1,o.1) (aO ts p.1).2.2.2
   simp only[v,j0]
   exact⟨_,rfl,y⟩
  |inr q=>
   rw[ha] at c
   have hr':o=(q.2,gR ts pr q.1):=c
   have r:q.1.1<ts.length/\q.1.2.length<=256:=by
    split at ha
    .rename_i hc
     obtain rfl:=Sum.inr.inj ha
     exact⟨mD e F ac hc,t⟩
    obtain⟨U,K,V,S⟩:=SQ e M _ _ (p.1+1+1,p.2) q.1 q.2 F t ha
    exact⟨K,S⟩
   simp only[hr']
   obtain⟨o2,v,y⟩:=zB (N:=N) (pr:=pr) (aO ts p.1) (3,0,0,(aO ts p.1).2.1,q.2) q.1 r.1 r.2
   simp only[v,j0]
   exact⟨_,rfl,y⟩
 have c4':cC ts 4 ⟨#[40]⟩ (p.1+1)=false:=A
 simp only[A,c4',j9,jC,jZ,jE]
 have u:=qCt (N:=N) (ts:=ts) (pr:=pr) (y1:=(gR ts pr p,aO ts p.1)) (y31:=(gR ts pr (p.1+1,p.2),(aO ts p.1).2.1)) (p:=(p.1+1,p.2)) H pr.length 0 N aa aa
 rw[show((0:Nat):Int)=0 from rfl] at u
 simp only[u,jS,kW]
 cases hi:pr.findIdx? (fun x=>decide (x=(aO ts p.1).2.1)) with
 |none=>
  simp only[j0,oR]
  exact⟨_,rfl,sF (show(9:Int)≠0 by decide) g⟩
 |some j=>
  obtain⟨o2,v,y⟩:=zB (N:=N) (pr:=pr) (aO ts p.1) (2,(j:Int),0,⟨#[]⟩,[]) (p.1+1,p.2) g t
  simp only[v,j0]
  exact⟨_,rfl,y⟩
end
section
variable {N:Nat} {ts:List cB} {pr:List BA} {E S:Ps->PM Nat} {d:Int}
variable {r r1 r2 r3 r4:RT->Int->Option (RT×Int)}
theorem qDb{L i:Nat}(h:mO ts L i≠0):(aO ts i).1=4:=by
 apply Decidable.byContradiction
 intro b
 apply h
 unfold mO
 have:opsC.find? (pL ts L i)=none:=by
  rw[List.find?_eq_none]
  intro o _ a
  simp only[pL,jJ] at a
  exact b (NJ a.1)
 rw[this]
theorem qFq{f:Int×RT->Option ((Int×RT)⊕(Int×RT))}{L:Nat}(A:OkT ts)(H:lY ts S)
  (t:∀p:Ps,p.1<ts.length->p.2.length<=256->∃o,r (gR ts pr p) d=some o/\iZ ts pr (S p) o)
  (a1:∀(z:cH) (i:Nat) (pr':List BA) (b:List Ex),z.2≠0->i<ts.length->∃v,r (bR ts z i pr' b) d=some (bR ts z i pr' b,v))
  (y:∀(z:cH) (i:Nat) (pr':List BA) (b:List Ex) (v:Int),z.2≠0->f (v,bR ts z i pr' b)=some (.inr (v,bR ts z i pr' b)))
  {n M x:Nat} {p:Ps} (R:p.1<ts.length) (u:p.2.length<=256) (hM:0<M) (G:L≠1) (e:mO ts L p.1≠0)
  (U:∀(x:Nat) (q:Ps),q.1<ts.length->p.1<q.1->q.2.length<=256->x<q.2.length->∃o,aK f M ((x:Int),gR ts pr q)=some o/\iZ ts pr (qA ts L S n x q) (o.2,o.1)):
  ∃o,((r (gR ts pr (p.1+1,p.2)) d).bind fun B=>(lP N B.1 (4,0,mO ts L p.1,⟨#[]⟩,[(x:Int),B.2]) (aO ts p.1).2.2.2).bind fun D=>aK f M (D.2,D.1))=some o/\iZ ts pr (qA ts L S (n+1) x p) (o.2,o.1):=by
 have g:=A.next R (show(aO ts p.1).1≠5 by rw[qDb e];decide)
 obtain⟨o,K,c⟩:=t (p.1+1,p.2) g u
 obtain⟨M',rfl⟩:∃M',M=M'+1:=⟨M-1,by omega⟩
 have bad:∀(z:cH) (i:Nat) (pr':List BA) (b:List Ex) (v:Int),z.2≠0->aK f (M'+1) (v,bR ts z i pr' b)=some (v,bR ts z i pr' b):=by
  intro z i pr' b v a
  simp only[aK,y z i pr' b v a,j0]
 simp only[K,j0,qA]
 rw[if_neg e]
 cases h:S (p.1+1,p.2) with
 |inl z=>
  rw[h] at c
  obtain⟨a,i,pr',b,hi,l⟩:=c
  simp only[l,bI]
  obtain⟨v,k⟩:=qEg (N:=N) (ts:=ts) (pr:=pr') (b:=b) (i:=i) a (4,0,mO ts L p.1,⟨#[]⟩,[(x:Int),o.2]) (aO ts p.1).2.2.2
  simp only[k,j0,bad _ _ _ _ _ a]
  exact⟨_,rfl,sF a hi⟩
 |inr q=>
  rw[h] at c
  obtain⟨⟨E,a,F,l⟩,f5⟩:=H (p.1+1,p.2) q.1 q.2 g u h
  have hr':o=(gR ts pr q.1,(q.2:Int)):=c
  simp only[hr',bI]
  obtain⟨v,k⟩:=qDg (N:=N) (ts:=ts) (pr:=pr) (aO ts p.1) (4,0,mO ts L p.1,⟨#[]⟩,[(x:Int),(q.2:Int)]) q.1 l
  simp only[k,j0]
  cases hn:lQ (aO ts p.1) (4,0,mO ts L p.1,⟨#[]⟩,[(x:Int),(q.2:Int)]) q.1 with
  |inl z=>
   simp only[bad _ _ _ _ _ (TT hn)]
   exact⟨_,rfl,sF (TT hn) a⟩
  |inr s=>
   obtain⟨⟨V,Y,k3,Z⟩,k5⟩:=wD (ts:=ts) (p:=p) (r:=q.1) (by simp only at E;omega) a F l hn
   simp only[if_neg G]
   exact U s.2 s.1 Y V Z k5
theorem qFo{L n x:Nat}{p:Ps}(a:mO ts L p.1=0):iZ ts pr (qA ts L S (n+1) x p) (gR ts pr p,(x:Int)):=by
 simp only[qA]
 rw[if_pos a]
 rfl
theorem TK(z:cH)(i:Nat)(pr':List BA)(b:List Ex)(v:Int)(c:z.2≠0):uG N r d (v,bR ts z i pr' b)=some (.inr (v,bR ts z i pr' b)):=by
 have a:((bR ts z i pr' b).2.2.2.1==0)=false:=by simpa[bR] using c
 simp only[uG,a,j9,jC,Prod.eta]
theorem TN(z:cH)(i:Nat)(pr':List BA)(b:List Ex)(v:Int)(c:z.2≠0):vK N r d (v,bR ts z i pr' b)=some (.inr (v,bR ts z i pr' b)):=by
 have a:((bR ts z i pr' b).2.2.2.1==0)=false:=by simpa[bR] using c
 simp only[vK,a,j9,jC,Prod.eta]
theorem ZB(B:OkT ts)(k:ts.length<1000000)(D:lY ts S)
  (A:∀p:Ps,p.1<ts.length->p.2.length<=256->∃o,r (gR ts pr p) d=some o/\iZ ts pr (S p) o)
  (u:∀(z:cH) (i:Nat) (pr':List BA) (b:List Ex),z.2≠0->i<ts.length->∃v,r (bR ts z i pr' b) d=some (bR ts z i pr' b,v)):
  ∀(n M x:Nat) (p:Ps),p.1<ts.length->p.2.length<=256->x<p.2.length->ts.length<p.1+n->ts.length+1<p.1+M->
  ∃o,aK (uG N r d) M ((x:Int),gR ts pr p)=some o/\iZ ts pr (qA ts 3 S n x p) (o.2,o.1)
 |0,M,x,p,c,_,_,h,_=>by omega
 |n+1,0,x,p,c,_,_,_,h=>by omega
 |n+1,M+1,x,p,c,H,Y,V,U=>by
  have t:((gR ts pr p).2.2.2.1==0)=true:=rfl
  have K:∀(x:Nat) (q:Ps),q.1<ts.length->p.1<q.1->q.2.length<=256->x<q.2.length->∃o,aK (uG N r d) M ((x:Int),gR ts pr q)=some o/\iZ ts pr (qA ts 3 S n x q) (o.2,o.1):=
   fun x q F R a G=>ZB B k D A u n M x q F a G aa aa
  have go:=fun E=>qFq (N:=N) (n:=n) (x:=x) B D A u (TK (N:=N) (r:=r) (d:=d)) c H (show 0<M by omega) (show 3≠1 by decide) E K
  have a:=op_3 (ts:=ts) (i:=p.1)
  rcases eK (cC ts 4 ⟨#[42]⟩ p.1) with e|e
  .simp only[e,jE] at a
   obtain⟨o,l,s⟩:=go (by rw[a];decide)
   refine⟨o,Eq.trans ?_ l,s⟩
   simp only[aK,uG,Prod.eta,t,jE,mE p c,pG p c k,j0,e,a]
   cases r (gR ts pr (p.1+1,p.2)) d with
   |none=>rfl
   |some y=>simp only[j0];cases lP N y.1 (4,0,3,⟨#[]⟩,[(x:Int),y.2]) (aO ts p.1).2.2.2<;>rfl
  rcases eK (cC ts 4 ⟨#[47]⟩ p.1) with f|f
  .simp only[e,f,jE,j9,jC] at a
   obtain⟨o,l,s⟩:=go (by rw[a];decide)
   refine⟨o,Eq.trans ?_ l,s⟩
   simp only[aK,uG,Prod.eta,t,jE,mE p c,pG p c k,j0,e,f,a,j9,jC]
   cases r (gR ts pr (p.1+1,p.2)) d with
   |none=>rfl
   |some y=>simp only[j0];cases lP N y.1 (4,0,4,⟨#[]⟩,[(x:Int),y.2]) (aO ts p.1).2.2.2<;>rfl
  rcases eK (cC ts 4 ⟨#[37]⟩ p.1) with g|g
  .simp only[e,f,g,jE,j9,jC] at a
   obtain⟨o,l,s⟩:=go (by rw[a];decide)
   refine⟨o,Eq.trans ?_ l,s⟩
   simp only[aK,uG,Prod.eta,t,jE,mE p c,pG p c k,j0,e,f,g,a,j9,jC]
   cases r (gR ts pr (p.1+1,p.2)) d with
   |none=>rfl
   |some y=>simp only[j0];cases lP N y.1 (4,0,5,⟨#[]⟩,[(x:Int),y.2]) (aO ts p.1).2.2.2<;>rfl
  simp only[e,f,g,j9,jC] at a
  simp only[aK,uG,Prod.eta,t,jE,mE p c,pG p c k,j0,e,f,g,j9,jC]
  exact⟨_,rfl,qFo a⟩
theorem qAa(s:OkT ts)(g:ts.length<1000000)(B:lY ts S)
  (l:∀p:Ps,p.1<ts.length->p.2.length<=256->∃o,r (gR ts pr p) d=some o/\iZ ts pr (S p) o)
  (k:∀(z:cH) (i:Nat) (pr':List BA) (b:List Ex),z.2≠0->i<ts.length->∃v,r (bR ts z i pr' b) d=some (bR ts z i pr' b,v)):
  ∀(n M x:Nat) (p:Ps),p.1<ts.length->p.2.length<=256->x<p.2.length->ts.length<p.1+n->ts.length+1<p.1+M->
  ∃o,aK (vK N r d) M ((x:Int),gR ts pr p)=some o/\iZ ts pr (qA ts 2 S n x p) (o.2,o.1)
 |0,M,x,p,c,_,_,h,_=>by omega
 |n+1,0,x,p,c,_,_,_,h=>by omega
 |n+1,M+1,x,p,c,G,V,U,R=>by
  have t:((gR ts pr p).2.2.2.1==0)=true:=rfl
  have H:∀(x:Nat) (q:Ps),q.1<ts.length->p.1<q.1->q.2.length<=256->x<q.2.length->∃o,aK (vK N r d) M ((x:Int),gR ts pr q)=some o/\iZ ts pr (qA ts 2 S n x q) (o.2,o.1):=
   fun x q E K a F=>qAa s g B l k n M x q E a F aa aa
  have go:=fun D=>qFq (N:=N) (n:=n) (x:=x) s B l k (TN (N:=N) (r:=r) (d:=d)) c G (show 0<M by omega) (show 2≠1 by decide) D H
  have a:=op_2 (ts:=ts) (i:=p.1)
  rcases eK (cC ts 4 ⟨#[43]⟩ p.1) with e|e
  .simp only[e,jE] at a
   obtain⟨o,u,A⟩:=go (by rw[a];decide)
   refine⟨o,Eq.trans ?_ u,A⟩
   simp only[aK,vK,Prod.eta,t,jE,mE p c,pG p c g,j0,e,a]
   cases r (gR ts pr (p.1+1,p.2)) d with
   |none=>rfl
   |some y=>simp only[j0];cases lP N y.1 (4,0,1,⟨#[]⟩,[(x:Int),y.2]) (aO ts p.1).2.2.2<;>rfl
  rcases eK (cC ts 4 ⟨#[45]⟩ p.1) with f|f
  .simp only[e,f,jE,j9,jC] at a
   obtain⟨o,u,A⟩:=go (by rw[a];decide)
   refine⟨o,Eq.trans ?_ u,A⟩
   simp only[aK,vK,Prod.eta,t,jE,mE p c,pG p c g,j0,e,f,a,j9,jC]
   cases r (gR ts pr (p.1+1,p.2)) d with
   |none=>rfl
   |some y=>simp only[j0];cases lP N y.1 (4,0,2,⟨#[]⟩,[(x:Int),y.2]) (aO ts p.1).2.2.2<;>rfl
  simp only[e,f,j9,jC] at a
  simp only[aK,vK,Prod.eta,t,jE,mE p c,pG p c g,j0,e,f,j9,jC]
  exact⟨_,rfl,qFo a⟩
theorem qVf(k:OkT ts)(u:ts.length<1000000)(B:1000002<N)(e:lY ts S)
  (c:∀p:Ps,p.1<ts.length->p.2.length<=256->∃o,r1 (gR ts pr p) d=some o/\iZ ts pr (S p) o)
  (h1b:∀(z:cH) (i:Nat) (pr':List BA) (b:List Ex),z.2≠0->i<ts.length->∃v,r1 (bR ts z i pr' b) d=some (bR ts z i pr' b,v))
  (p:Ps) (l:p.1<ts.length) (f:p.2.length<=256):∃o,AQ N r1 r2 r3 r4 (gR ts pr p) d=some o/\iZ ts pr (sX ts 3 S p) o:=by
 obtain⟨o,x,a⟩:=c p l f
 simp only[AQ,Prod.eta,x,j0,sX]
 cases h:S p with
 |inl z=>
  rw[h] at a
  obtain⟨n,i,pr',b,hi,g⟩:=a
  obtain⟨M,rfl⟩:∃M,N=M+1:=⟨N-1,by omega⟩
  simp only[g,bI,aK,TK z i pr' b _ n,j0]
  exact⟨_,rfl,sF n hi⟩
 |inr q=>
  rw[h] at a
  obtain⟨⟨y,r,A,s⟩,t⟩:=e p q.1 q.2 l f h
  have hr':o=(gR ts pr q.1,(q.2:Int)):=a
  obtain⟨o2,g,n⟩:=ZB (N:=N) k u e c h1b (ts.length+1) N q.2 q.1 r s t aa aa
  simp only[hr',bI,g,j0]
  exact⟨_,rfl,n⟩
theorem qRi(h1b:∀(z:cH) (i:Nat) (pr':List BA) (b:List Ex),z.2≠0->i<ts.length->∃v,r1 (bR ts z i pr' b) d=some (bR ts z i pr' b,v))(e:0<N)
  (z:cH) (i:Nat) (pr':List BA) (b:List Ex) (a:z.2≠0) (hi:i<ts.length):∃v,AQ N r1 r2 r3 r4 (bR ts z i pr' b) d=some (bR ts z i pr' b,v):=by
 obtain⟨v,c⟩:=h1b z i pr' b a hi
 obtain⟨M,rfl⟩:∃M,N=M+1:=⟨N-1,by omega⟩
 simp only[AQ,Prod.eta,c,j0,aK,TK z i pr' b _ a]
 exact⟨_,rfl⟩
theorem rsum(k:OkT ts)(u:ts.length<1000000)(B:1000002<N)(e:lY ts S)
  (c:∀p:Ps,p.1<ts.length->p.2.length<=256->∃o,r2 (gR ts pr p) d=some o/\iZ ts pr (S p) o)
  (h2b:∀(z:cH) (i:Nat) (pr':List BA) (b:List Ex),z.2≠0->i<ts.length->∃v,r2 (bR ts z i pr' b) d=some (bR ts z i pr' b,v))
  (p:Ps) (l:p.1<ts.length) (f:p.2.length<=256):∃o,AS N r1 r2 r3 r4 (gR ts pr p) d=some o/\iZ ts pr (sX ts 2 S p) o:=by
 obtain⟨o,x,a⟩:=c p l f
 simp only[AS,Prod.eta,x,j0,sX]
 cases h:S p with
 |inl z=>
  rw[h] at a
  obtain⟨n,i,pr',b,hi,g⟩:=a
  obtain⟨M,rfl⟩:∃M,N=M+1:=⟨N-1,by omega⟩
  simp only[g,bI,aK,TN z i pr' b _ n,j0]
  exact⟨_,rfl,sF n hi⟩
 |inr q=>
  rw[h] at a
  obtain⟨⟨y,r,A,s⟩,t⟩:=e p q.1 q.2 l f h
  have hr':o=(gR ts pr q.1,(q.2:Int)):=a
  obtain⟨o2,g,n⟩:=qAa (N:=N) k u e c h2b (ts.length+1) N q.2 q.1 r s t aa aa
  simp only[hr',bI,g,j0]
  exact⟨_,rfl,n⟩
theorem qUc(h2b:∀(z:cH) (i:Nat) (pr':List BA) (b:List Ex),z.2≠0->i<ts.length->∃v,r2 (bR ts z i pr' b) d=some (bR ts z i pr' b,v))(e:0<N)
  (z:cH) (i:Nat) (pr':List BA) (b:List Ex) (a:z.2≠0) (hi:i<ts.length):∃v,AS N r1 r2 r3 r4 (bR ts z i pr' b) d=some (bR ts z i pr' b,v):=by
 obtain⟨v,c⟩:=h2b z i pr' b a hi
 obtain⟨M,rfl⟩:∃M,N=M+1:=⟨N-1,by omega⟩
 simp only[AS,Prod.eta,c,j0,aK,TN z i pr' b _ a]
 exact⟨_,rfl⟩
theorem qTa(z:cH)(i:Nat)(pr':List BA)(b:List Ex)(a:z.2≠0)(hi:i<ts.length):wV N r1 r2 r3 r4 (bR ts z i pr' b) d=some (bR ts z i pr' b,0):=by
 have c:((bR ts z i pr' b).2.2.2.1 !=0)=true:=by simpa[bR] using a
 simp only[wV,Prod.eta,rM hi,j0,sH a]
 have:((if decide (d>32)then some (bR ts z i pr' b) else some (bR ts z i pr' b)):Option RT)=some (bR ts z i pr' b):=by split<;>rfl
 simp only[this,j0,c,jE]
theorem qSn(c:d>32)(p:Ps)(a:p.1<ts.length):∃o,wV N r1 r2 r3 r4 (gR ts pr p) d=some o/\iZ ts pr (eN ts pr 0 p) o:=by
 have hd':decide (d>32)=true:=by simpa using c
 simp only[wV,Prod.eta,mE p a,j0,hd',jE,oR]
 have b:((bR ts ((aO ts p.1).2.2.2,2) p.1 pr p.2).2.2.2.1 !=0)=true:=by rfl
 simp only[b,jE]
 exact⟨_,rfl,sF (show(2:Int)≠0 by decide) a⟩
theorem qVe{k:Nat}(A:OkT ts)(F:ts.length<1000000)(hd:d+k=32)(S:lY ts (eN ts pr k))(hS:lY ts (uY ts pr (eN ts pr k)))
  (H:∀p:Ps,p.1<ts.length->p.2.length<=256->∃o,r4 (gR ts pr p) (IntKind.wrap .i64 (d+1))=some o/\iZ ts pr (eN ts pr k p) o)
  (u:∀(z:cH) (i:Nat) (pr':List BA) (b:List Ex),z.2≠0->i<ts.length->∃v,r4 (bR ts z i pr' b) (IntKind.wrap .i64 (d+1))=some (bR ts z i pr' b,v))
  (Z:∀p:Ps,p.1<ts.length->p.2.length<=256->∃o,r3 (gR ts pr p) d=some o/\iZ ts pr (uY ts pr (eN ts pr k) p) o)
  (h3b:∀(z:cH) (i:Nat) (pr':List BA) (b:List Ex),z.2≠0->i<ts.length->∃v,r3 (bR ts z i pr' b) d=some (bR ts z i pr' b,v))
  (p:Ps) (K:p.1<ts.length) (M:p.2.length<=256):∃o,wV N r1 r2 r3 r4 (gR ts pr p) d=some o/\iZ ts pr (eN ts pr (k+1) p) o:=by
 have hd':decide (d>32)=false:=jR aa
 have g0:((gR ts pr p).2.2.2.1 !=0)=false:=rfl
 simp only[wV,Prod.eta,mE p K,j0,hd',j9,jC,g0,qW p K F,eN]
 rcases eK (cC ts 1 JS p.1) with s|s
 rotate_left
 .have c1':cC ts 1 ⟨#[105,102]⟩ p.1=false:=s
  simp only[s,c1',j9,jC]
  obtain⟨o,ho,G⟩:=Z p K M
  simp only[ho,j0,HW,sX]
  cases h:uY ts pr (eN ts pr k) p with
  |inl z=>
   rw[h] at G
   obtain⟨e,i,pr',b,hi,l⟩:=G
   simp only[l,rM hi,NW e,j0,j9,jC,bI]
   exact⟨_,rfl,sF e hi⟩
  |inr q=>
   rw[h] at G
   obtain⟨⟨f1,B,f3,U⟩,f5⟩:=hS p q.1 q.2 K M h
   have hr':o=(gR ts pr q.1,(q.2:Int)):=G
   simp only[hr',mE q.1 B,pG q.1 B F,j0,bI,qA]
   have go:∀op,op≠0->mO ts 1 q.1.1=op->∃o,((r3 (gR ts pr (q.1.1+1,q.1.2)) d).bind fun R=>(lP N R.1 (4,0,op,⟨#[]⟩,[(q.2:Int),R.2]) (aO ts q.1.1).2.2.2).bind fun Y=>some Y)=some o/\
     iZ ts pr (if mO ts 1 q.1.1=0 then .inr (q.1,q.2) else bI (uY ts pr (eN ts pr k) (q.1.1+1,q.1.2)) fun a=>bI (lQ (aO ts q.1.1) (4,0,mO ts 1 q.1.1,⟨#[]⟩,[(q.2:Int),(a.2:Int)]) a.1) fun r=> .inr r) o:=by
    intro op n t
    have g:=A.next B (show(aO ts q.1.1).1≠5 by rw[qDb (L:=1) (by rw[t];exact n)];decide)
    obtain⟨o2,E,f⟩:=Z (q.1.1+1,q.1.2) g U
    rw[t,if_neg n]
    simp only[E,j0,qE]
    cases h2:uY ts pr (eN ts pr k) (q.1.1+1,q.1.2) with
    |inl z=>
     rw[h2] at f
     obtain⟨e,i,pr',b,hi,l⟩:=f
     simp only[l,bI]
     exact DD e hi _ _
    |inr a=>
     rw[h2] at f
     obtain⟨⟨j1,j2,j3,j4⟩,j5⟩:=hS (q.1.1+1,q.1.2) a.1 a.2 g U h2
     have hr2':o2=(gR ts pr a.1,(a.2:Int)):=f
     simp only[hr2',bI]
     obtain⟨o3,V,D⟩:=zB (N:=N) (pr:=pr) (aO ts q.1.1) (4,0,op,⟨#[]⟩,[(q.2:Int),(a.2:Int)]) a.1 j2 j4
     refine⟨o3,V,?_⟩
     cases hn:lQ (aO ts q.1.1) (4,0,op,⟨#[]⟩,[(q.2:Int),(a.2:Int)]) a.1<;>rw[hn] at D<;>exact D
   have t:=op_1 (ts:=ts) (i:=q.1.1)
   rcases eK (cC ts 4 ⟨#[60]⟩ q.1.1) with f|f
   .simp only[f,jE] at t
    obtain⟨o4,D,E⟩:=go 6 ac t
    simp only[f,jE,j0]
    exact⟨o4,D,by simpa only[bI] using E⟩
   rcases eK (cC ts 4 ⟨#[61,61]⟩ q.1.1) with n|n
   .simp only[f,n,jE,j9,jC] at t
    obtain⟨o4,D,E⟩:=go 7 ac t
    simp only[f,n,jE,j0,j9,jC,pG q.1 B F]
    exact⟨o4,D,by simpa only[bI] using E⟩
   simp only[f,n,j9,jC] at t
   simp only[f,n,j0,j9,jC,pG q.1 B F]
   rw[if_pos t]
   exact⟨_,rfl,rfl⟩
 have c1':cC ts 1 ⟨#[105,102]⟩ p.1=true:=s
 have g:=mD A K ac s
 simp only[s,c1',jE]
 -- behind an error
 have badN:∀{z:cH} {i:Nat} {pr':List BA} {b:List Ex} (x y w:Int),z.2≠0->i<ts.length->∃o,((lP N (bR ts z i pr' b) (5,0,0,⟨#[]⟩,[x,y,w]) (aO ts p.1).2.2.2).bind fun b6=>some b6)=some o/\iZ ts pr (.inl z) o:=by
  intro z i pr' b x y w e hi
  simp only[qE]
  exact DD e hi _ _
 have nf:∀b:Bool,(if(!b)then(0:Nat) else 1)=if b then 1 else 0:=by intro b;cases b<;>rfl
 obtain⟨oa,a7,B⟩:=H (p.1+1,p.2) g M
 simp only[a7,j0]
 cases ha:eN ts pr k (p.1+1,p.2) with
 |inl z=>
  rw[ha] at B
  obtain⟨e,i,pr',b,hi,l⟩:=B
  obtain⟨v,t⟩:=u z i pr' b e hi
  simp only[l,UC e,j0,jZ,jE,rM hi,sH e,t,bI]
  exact badN _ _ _ e hi
 |inr a=>
  rw[ha] at B
  obtain⟨⟨a1,E,a3,R⟩,a5⟩:=S (p.1+1,p.2) a.1 a.2 g M ha
  have hra':oa=(gR ts pr a.1,(a.2:Int)):=B
  have b0:sM ts IY a.1.1=if cC ts 1 ⟨#[116,104,101,110]⟩ a.1.1 then .inr (a.1.1+1) else eG (aO ts a.1.1) 9:=rfl
  simp only[hra',qW a.1 E F,j0,bI,b0]
  rcases eK (cC ts 1 ⟨#[116,104,101,110]⟩ a.1.1) with f|f
  rotate_left
  .have e:(((aO ts a.1.1).2.2.2,(9:Int)):cH).2≠0:=show(9:Int)≠0 by decide
   obtain⟨v,t⟩:=u ((aO ts a.1.1).2.2.2,9) a.1.1 pr a.1.2 e E
   simp only[f,j9,jC,jZ,jE,mE a.1 E,oR,j0,t,UC e,rM E,sH e,eG]
   exact badN _ _ _ e E
  have V:=mD A E ac f
  obtain⟨ob,a8,D⟩:=H (a.1.1+1,a.1.2) V R
  simp only[f,jE,kI,j9,jC,j0,a8]
  cases hb1:eN ts pr k (a.1.1+1,a.1.2) with
  |inl z=>
   rw[hb1] at D
   obtain⟨e,i,pr',b,hi,l⟩:=D
   obtain⟨v,t⟩:=u z i pr' b e hi
   simp only[l,UC e,j0,jZ,jE,rM hi,sH e,t]
   exact badN _ _ _ e hi
  |inr b=>
   rw[hb1] at D
   obtain⟨⟨b1,G,b3,U⟩,b5⟩:=S (a.1.1+1,a.1.2) b.1 b.2 V R hb1
   have hrb':ob=(gR ts pr b.1,(b.2:Int)):=D
   have a6:sM ts IX b.1.1=if cC ts 1 ⟨#[101,108,115,101]⟩ b.1.1 then .inr (b.1.1+1) else eG (aO ts b.1.1) 9:=rfl
   simp only[hrb',qW b.1 G F,j0,a6]
   rcases eK (cC ts 1 ⟨#[101,108,115,101]⟩ b.1.1) with n|n
   rotate_left
   .have e:(((aO ts b.1.1).2.2.2,(9:Int)):cH).2≠0:=show(9:Int)≠0 by decide
    obtain⟨v,t⟩:=u ((aO ts b.1.1).2.2.2,9) b.1.1 pr b.1.2 e G
    simp only[n,j9,jC,jZ,jE,mE b.1 G,oR,j0,t,eG]
    exact badN _ _ _ e G
   have Y:=mD A G ac n
   obtain⟨oc,a9,t⟩:=H (b.1.1+1,b.1.2) Y U
   simp only[n,jE,kI,j9,jC,j0,a9]
   cases hc1:eN ts pr k (b.1.1+1,b.1.2) with
   |inl z=>
    rw[hc1] at t
    obtain⟨e,i,pr',b',hi,l⟩:=t
    simp only[l]
    exact badN _ _ _ e hi
   |inr c=>
    rw[hc1] at t
    obtain⟨⟨s,f,n,e⟩,l⟩:=S (b.1.1+1,b.1.2) c.1 c.2 Y U hc1
    have hrc':oc=(gR ts pr c.1,(c.2:Int)):=t
    simp only[hrc',qE]
    exact zB (N:=N) (pr:=pr) (aO ts p.1) (5,0,0,⟨#[]⟩,[(a.2:Int),(b.2:Int),(c.2:Int)]) c.1 f e
end
section
variable {N:Nat} {ts:List cB} {pr:List BA}
theorem TD(D:Nat)(c:1<=D)(d:Int)(z:cH)(i:Nat)(pr':List BA)(b:List Ex)(a:z.2≠0)(hi:i<ts.length):∃v,(iW N D).2.2.2 (bR ts z i pr' b) d=some (bR ts z i pr' b,v):=by
 obtain⟨D',rfl⟩:∃D',D=D'+1:=⟨D-1,by omega⟩
 simp only[iW]
 exact⟨_,qTa z i pr' b a hi⟩
theorem YZ(D:Nat)(c:1<=D)(d:Int)(z:cH)(i:Nat)(pr':List BA)(b:List Ex)(a:z.2≠0)(hi:i<ts.length):∃v,(iW N D).1 (bR ts z i pr' b) d=some (bR ts z i pr' b,v):=by
 obtain⟨D',rfl⟩:∃D',D=D'+1:=⟨D-1,by omega⟩
 simp only[iW]
 exact⟨_,qOo a hi⟩
theorem qCq(c:0<N)(D:Nat)(e:2<=D)(d:Int)(z:cH)(i:Nat)(pr':List BA)(b:List Ex)(a:z.2≠0)(hi:i<ts.length):∃v,(iW N D).2.1 (bR ts z i pr' b) d=some (bR ts z i pr' b,v):=by
 obtain⟨D',rfl⟩:∃D',D=D'+1:=⟨D-1,by omega⟩
 simp only[iW]
 exact qRi (fun z i pr' b a hi=>YZ D' aa d z i pr' b a hi) c z i pr' b a hi
theorem qRt(c:0<N)(D:Nat)(e:3<=D)(d:Int)(z:cH)(i:Nat)(pr':List BA)(b:List Ex)(a:z.2≠0)(hi:i<ts.length):∃v,(iW N D).2.2.1 (bR ts z i pr' b) d=some (bR ts z i pr' b,v):=by
 obtain⟨D',rfl⟩:∃D',D=D'+1:=⟨D-1,by omega⟩
 simp only[iW]
 exact qUc (fun z i pr' b a hi=>qCq c D' aa d z i pr' b a hi) c z i pr' b a hi
theorem qEf(a:OkT ts)(g:ts.length<1000000)(n:pr.length<1000)(l:1000002<N):∀(k D:Nat),k<=32->4*k+1<=D->∀p:Ps,p.1<ts.length->p.2.length<=256->
  ∃o,(iW N D).2.2.2 (gR ts pr p) (33-(k:Int))=some o/\iZ ts pr (eN ts pr k p) o
 |0,0,_,h,_,_,_=>by omega
 |0,D+1,_,_,p,c,_=>by simp only[iW];exact qSn aa p c
 |k+1,D,A,f,p,c,d=>by
  have q:=vX (ts:=ts) (params:=pr) a k
  have s:=RF (params:=pr) a q
  have t:lY ts (IW ts pr (eN ts pr k)):=yW a s
  have y:lY ts (uY ts pr (eN ts pr k)):=yW a t
  have r:∀D,4*k+1<=D->∀p:Ps,p.1<ts.length->p.2.length<=256->∃o,(iW N D).2.2.2 (gR ts pr p) (IntKind.wrap .i64 (32-(k:Int)+1))=some o/\iZ ts pr (eN ts pr k p) o:=by
   intro D f p c d
   rw[bZ aa aa,show 32-(k:Int)+1=33-(k:Int) by omega]
   exact qEf a g n l k D aa f p c d
  have u:∀D,4*k+2<=D->∀p:Ps,p.1<ts.length->p.2.length<=256->∃o,(iW N D).1 (gR ts pr p) (32-(k:Int))=some o/\iZ ts pr (sV ts pr (eN ts pr k) p) o:=by
   intro D f p c d
   obtain⟨D',rfl⟩:∃D',D=D'+1:=⟨D-1,by omega⟩
   simp only[iW]
   exact qSu (r D' aa) (fun z i pr' b e hi=>TD D' aa _ z i pr' b e hi) a g n l q p c d
  have v:∀D,4*k+3<=D->∀p:Ps,p.1<ts.length->p.2.length<=256->∃o,(iW N D).2.1 (gR ts pr p) (32-(k:Int))=some o/\iZ ts pr (IW ts pr (eN ts pr k) p) o:=by
   intro D f p c d
   obtain⟨D',rfl⟩:∃D',D=D'+1:=⟨D-1,by omega⟩
   simp only[iW]
   exact qVf a g l s (u D' aa) (fun z i pr' b e hi=>YZ D' aa _ z i pr' b e hi) p c d
  have x:∀D,4*k+4<=D->∀p:Ps,p.1<ts.length->p.2.length<=256->∃o,(iW N D).2.2.1 (gR ts pr p) (32-(k:Int))=some o/\iZ ts pr (uY ts pr (eN ts pr k) p) o:=by
   intro D f p c d
   obtain⟨D',rfl⟩:∃D',D=D'+1:=⟨D-1,by omega⟩
   simp only[iW]
   exact rsum a g l t (v D' aa) (fun z i pr' b e hi=>qCq aa D' aa _ z i pr' b e hi) p c d
  obtain⟨D',rfl⟩:∃D',D=D'+1:=⟨D-1,by omega⟩
  rw[show(33:Int)-((k+1:Nat):Int)=32-(k:Int) by omega]
  simp only[iW]
  exact qVe a g aa q y (r D' aa) (fun z i pr' b e hi=>TD D' aa _ z i pr' b e hi) (x D' aa) (fun z i pr' b e hi=>qRt aa D' aa _ z i pr' b e hi) p c d
theorem qQw(a:OkT ts)(e:ts.length<1000000)(b:pr.length<1000)(c:1000002<N)(p:Ps)(f:p.1<ts.length)(d:p.2.length<=256):
 ∃o,wX N (gR ts pr p) 1=some o/\iZ ts pr (eN ts pr 32 p) o:=qEf a e b c 32 N aa aa p f d
theorem SJ(a:1<=N)(z:cH)(i:Nat)(pr':List BA)(b:List Ex)(c:z.2≠0)(hi:i<ts.length):∃v,wX N (bR ts z i pr' b) 1=some (bR ts z i pr' b,v):=TD N a 1 z i pr' b c hi
abbrev RL:=List cB×Int×Int×Int×List BA×List Ex×List Int×List BA
def bY(st:RT)(l:List BA):RL:=(st.1,st.2.1,st.2.2.1,st.2.2.2.1,st.2.2.2.2.1,st.2.2.2.2.2.1,st.2.2.2.2.2.2,l)
def IL(ts:List cB)(n:Nat)(l:List BA)(i:Nat):cH⊕(Nat×List BA):=
 if cC ts 4 qK i then tO ts n l (i+1) else bI (dU ts lU i) fun j=> .inr (j,l)
theorem qMn(n:Nat)(l:List BA)(i:Nat):tO ts (n+1) l i=bI (mF ts i) fun a=>if l.length=8 then eG a.2 2 else if a.2.2.1∈l then eG a.2 10 else IL ts n (l++[a.2.2.1]) a.1:=rfl
def EI(ts:List cB)(pr:List BA)(b:List Ex)(r:cH⊕(Nat×List BA))(o:RL):Prop:=
 match r with
 | .inl z=>∃st l,tC ts z st/\o=bY st l
 | .inr q=>o=bY (gR ts pr (q.1,b)) q.2
theorem HJ{z:cH}{i:Nat}{pr':List BA}{b:List Ex}(a:z.2≠0)(M:Nat)(l:List BA):aK (oH N) (M+1) (bY (bR ts z i pr' b) l)=some (bY (bR ts z i pr' b) l):=by
 have hz':((bY (bR ts z i pr' b) l).2.2.2.1==0)=false:=by simpa[bR,bY] using a
 simp only[aK,oH,hz',j9,jC,j0]
theorem YU(A:ts.length<1000000)(E:1000002<N){i:Nat}{b:List Ex}{l:List BA}(hi:i<ts.length)(D:l.length<=8){G:RL->Option RL}{n:Nat}
  (f:∀(z:cH) (i:Nat) (pr':List BA) (b:List Ex) (l:List BA),z.2≠0->G (bY (bR ts z i pr' b) l)=some (bY (bR ts z i pr' b) l))
  (u:OkT ts)
  (B:∀(s:BA),i+1<ts.length->l.length<8->∃o,G (bY (gR ts pr (i+1,b)) (l++[s]))=some o/\EI ts pr b (IL ts n (l++[s]) (i+1)) o):
  ∃o,((iT N (gR ts pr (i,b))).bind fun k=>(nZ N k.1).bind fun d=>(if((l.length:Int)==8)then((lB N d.1 k.2.2.2.2 2).bind fun v=>some v) else(some d.1):Option RT).bind fun r=>(sA N l d.2).bind fun p=>(if p then((lB N r k.2.2.2.2 10).bind fun y=>some y) else(some r):Option RT).bind fun h=>(eM 16 l ([d.2])).bind fun t=>G (bY h t))=some o/\
   EI ts pr b (tO ts (n+1) l i) o:=by
 rw[qMn]
 simp only[mE (i,b) hi,j0,DJ (i,b) hi A (by omega:100<N),qE]
 have c:∀s:BA,eM 16 l [s]=some (l++[s]):=fun s=>iS ag aa
 have g:∀s,sA N l s=some (decide (s∈l)):=fun s=>VQ aa aa
 -- behind an error
 have q:∀(z:cH) (i:Nat) (pr':List BA) (b':List Ex) (s:BA) (a:Int),z.2≠0->i<ts.length->∃o,((sA N l s).bind fun p=>(if p then lB N (bR ts z i pr' b') a 10 else(some (bR ts z i pr' b')):Option RT).bind fun h=>(eM 16 l ([s])).bind fun t=>G (bY h t))=some o/\EI ts pr b (.inl z) o:=by
  intro z i pr' b' s a e hi
  simp only[g,j0,sH e]
  have:((if decide (s∈l)then some (bR ts z i pr' b') else some (bR ts z i pr' b')):Option RT)=some (bR ts z i pr' b'):=by split<;>rfl
  simp only[this,j0,c,f _ _ _ _ _ e]
  exact⟨_,rfl,bR ts z i pr' b',_,⟨e,i,pr',b',hi,rfl⟩,rfl⟩
 cases hx:mF ts i with
 |inl z=>
  have e:=NZ hx
  have:((if((l.length:Int)==8)then lB N (bR ts z i pr b) (aO ts i).2.2.2 2 else some (bR ts z i pr b)):Option RT)=some (bR ts z i pr b):=by
   rw[sH e];split<;>rfl
  simp only[this,j0,bI]
  exact q z i pr b _ _ e hi
 |inr x=>
  obtain⟨rfl,e,-⟩:=sS u hi hx
  simp only[bI]
  by_cases k1:l.length=8
  .have k1':((l.length:Int)==8)=true:=by simp;omega
   rw[if_pos k1]
   simp only[k1',jE,oR,j0,eG]
   exact q _ _ _ _ _ _ (show(2:Int)≠0 by decide) e
  have k1':((l.length:Int)==8)=false:=by simp;omega
  rw[if_neg k1]
  simp only[k1',j9,jC,j0,g]
  by_cases k2:(aO ts i).2.1∈l
  .rw[if_pos k2]
   simp only[jM k2,jE,oR,j0,c,eG]
   refine⟨_,f _ _ _ _ _ (show(10:Int)≠0 by decide),bR ts ((aO ts i).2.2.2,10) (i+1) pr b,_,⟨show(10:Int)≠0 by decide,i+1,pr,b,e,rfl⟩,rfl⟩
  rw[if_neg k2]
  simp only[jR k2,j9,jC,j0,c]
  exact B _ e aa
theorem qLl(x:1000002<N){b:List Ex}{l:List BA}(v:l.length<=8){G:RL->Option RL}
  (g:∀(z:cH) (i:Nat) (pr':List BA) (b:List Ex) (l:List BA),z.2≠0->G (bY (bR ts z i pr' b) l)=some (bY (bR ts z i pr' b) l))
  {z:cH} {i:Nat} {pr':List BA} {b':List Ex} (d:z.2≠0) (hi:i<ts.length):
  ∃o,((iT N (bR ts z i pr' b')).bind fun c=>(nZ N c.1).bind fun a=>(if((l.length:Int)==8)then((lB N a.1 c.2.2.2.2 2).bind fun n=>some n) else(some a.1):Option RT).bind fun e=>(sA N l a.2).bind fun p=>(if p then((lB N e c.2.2.2.2 10).bind fun q=>some q) else(some e):Option RT).bind fun k=>(eM 16 l ([a.2])).bind fun u=>G (bY k u))=some o/\
   EI ts pr b (.inl z) o:=by
 have f:∀s:BA,eM 16 l [s]=some (l++[s]):=fun s=>iS ag aa
 have h:∀s,sA N l s=some (decide (s∈l)):=fun s=>VQ aa aa
 have r:((if((l.length:Int)==8)then some (bR ts z i pr' b') else some (bR ts z i pr' b')):Option RT)=some (bR ts z i pr' b'):=by split<;>rfl
 have t:((if decide ((⟨#[]⟩:BA)∈l)then some (bR ts z i pr' b') else some (bR ts z i pr' b')):Option RT)=some (bR ts z i pr' b'):=by split<;>rfl
 simp only[rM hi,j0,NT d hi,qE,sH d,r,h,t,f,g _ _ _ _ _ d]
 exact⟨_,rfl,bR ts z i pr' b',_,⟨d,i,pr',b',hi,rfl⟩,rfl⟩
theorem XN(d:OkT ts)(e:ts.length<1000000)(k:1000002<N){b:List Ex}:∀(n M:Nat) (l:List BA) (i:Nat),l≠[]->i<ts.length->l.length<=8->ts.length<i+n->ts.length+2<i+M->
  ∃o,aK (oH N) M (bY (gR ts pr (i,b)) l)=some o/\EI ts pr b (IL ts n l i) o
 |0,M,l,i,_,hi,_,h,_=>by omega
 |n+1,0,l,i,_,hi,_,_,h=>by omega
 |n+1,M+1,l,i,v,hi,f,H,F=>by
  have D:=pG (N:=N) (pr:=pr) (i,b) hi e ⟨#[41]⟩
  have q:decide ((l.length:Int)>0)=true:=by
   have:=fL.2 v
   exact jM aa
  have A:((bY (gR ts pr (i,b)) l).2.2.2.1==0)=true:=rfl
  have x:∀st:RT,∀l,((bY st l).1,(bY st l).2.1,(bY st l).2.2.1,(bY st l).2.2.2.1,(bY st l).2.2.2.2.1,(bY st l).2.2.2.2.2.1,(bY st l).2.2.2.2.2.2.1)=st:=fun _ _=>rfl
  have y:∀st:RT,∀l,(bY st l).2.2.2.2.2.2.2=l:=fun _ _=>rfl
  simp only[aK,oH,A,jE,x,y,D,j0,q]
  rcases eK (cC ts 4 ⟨#[41]⟩ i) with a|a
  .simp only[a,jE,kI,j9,jC]
   refine⟨_,rfl,?_⟩
   have c:cC ts 4 qK i=false:=by
    simp only[cC,jJ,j6] at a
    simp[cC,a.2,qK]
   have p:dU ts lU i= .inr (i+1):=by simp[dU,lU,a]
   simp only[IL,c,j9,jC,p,bI]
   rfl
  have u:cC ts 4 qK i=cC ts 4 ⟨#[44]⟩ i:=rfl
  simp only[a,j9,jC,jZ,jE,Prod.eta,sG (i,b) hi e,j0,IL,u,dU]
  rcases eK (cC ts 4 ⟨#[44]⟩ i) with c|c
  .have g:=mD d hi ac c
   simp only[c,jE]
   obtain⟨o,p,r⟩:=YU (N:=N) (pr:=pr) (b:=b) (l:=l) (n:=n) (G:=aK (oH N) M) e k g f (fun z i pr' b l t=>by
    obtain⟨M',rfl⟩:∃M',M=M'+1:=⟨M-1,by omega⟩
    exact HJ t M' l) d (fun s B E=>XN d e k n M (l++[s]) (i+1+1) ae B aj aa aa)
   refine⟨o,Eq.trans ?_ p,r⟩
   simp only[gW,j0]
   rfl
  have c1':cC ts 4 lU i=false:=a
  simp only[c,c1',j9,jC,eG,bI]
  obtain⟨o,p,r⟩:=qLl (N:=N) (pr:=pr) (b:=b) (l:=l) (z:=((aO ts i).2.2.2,9)) (i:=i) (pr':=pr) (b':=b) (G:=aK (oH N) M) k f (fun z i pr' b l t=>by
   obtain⟨M',rfl⟩:∃M',M=M'+1:=⟨M-1,by omega⟩
   exact HJ t M' l) (show(9:Int)≠0 by decide) hi
  refine⟨o,Eq.trans ?_ p,r⟩
  simp only[gW,j0]
  rfl
theorem qSh(a:OkT ts)(d:ts.length<1000000)(x:1000005<N){b:List Ex}(i:Nat)(hi:i<ts.length):
  ∃o,aK (oH N) N (bY (gR ts pr (i,b)) [])=some o/\EI ts pr b (if cC ts 4 lU i then .inr (i+1,[]) else tO ts (ts.length+1) [] i) o:=by
 obtain⟨M,hM⟩:∃M,N=M+1:=⟨N-1,by omega⟩
 have t:=pG (N:=N) (pr:=pr) (i,b) hi d ⟨#[41]⟩
 have k:((bY (gR ts pr (i,b)) []).2.2.2.1==0)=true:=rfl
 have e:decide ((([]:List BA).length:Int)>0)=false:=rfl
 have g:∀st:RT,∀l,((bY st l).1,(bY st l).2.1,(bY st l).2.2.1,(bY st l).2.2.2.1,(bY st l).2.2.2.2.1,(bY st l).2.2.2.2.2.1,(bY st l).2.2.2.2.2.2.1)=st:=fun _ _=>rfl
 have h:∀st:RT,∀l,(bY st l).2.2.2.2.2.2.2=l:=fun _ _=>rfl
 have f:aK (oH N) N (bY (gR ts pr (i,b)) [])=aK (oH N) (M+1) (bY (gR ts pr (i,b)) []):=by rw[<-hM]
 rw[f]
 simp only[aK,oH,k,jE,g,h,t,j0,e,lU]
 rcases eK (cC ts 4 ⟨#[41]⟩ i) with c|c
 .simp only[c,jE,kI,j9,jC]
  exact⟨_,rfl,rfl⟩
 simp only[c,j9,jC,jZ,jE,Prod.eta,j0]
 obtain⟨o,q,r⟩:=YU (N:=N) (pr:=pr) (b:=b) (l:=[]) (n:=ts.length) (G:=aK (oH N) M) d aa hi ae (fun z i pr' b l u=>by
  obtain⟨M',rfl⟩:∃M',M=M'+1:=⟨M-1,by omega⟩
  exact HJ u M' l) a (fun s p v=>XN a d aa ts.length M ([]++[s]) (i+1) ae p ae aa aa)
 refine⟨o,Eq.trans ?_ q,r⟩
 simp only[gW,j0]
 rfl
end
section
variable {N:Nat} {ts:List cB} {pr:List BA}
def JE(ts:List cB)(r:cH⊕(Nat×Dl))(o:RT×Dl):Prop:=
 match r with
 | .inl z=>tC ts z o.1
 | .inr a=>o=(gR ts a.2.2.2.1 (a.1,a.2.2.2.2),a.2)
def uP(N:Nat)(st:RT)(k:Int)(nm:BA):Option (RT×Dl):=
 ((if(k==1)then((iR N st (⟨#[40]⟩:BA)).bind fun a=>aK (oH N) N (bY a [])) else(some (bY st [])):Option RL)).bind fun a=>
 (iR N (a.1,a.2.1,a.2.2.1,a.2.2.2.1,a.2.2.2.2.2.2.2,a.2.2.2.2.2.1,a.2.2.2.2.2.2.1) (⟨#[61]⟩:BA)).bind fun b=>
 (wX N b 1).bind fun b=>(iR N b.1 (⟨#[59]⟩:BA)).bind fun b=>some (b,(k,nm,a.2.2.2.2.2.2.2,b.2.2.2.2.2.1))
theorem ST(h:1000005<N){z:cH}{i:Nat}{b:List Ex}(a:z.2≠0)(hi:i<ts.length)(k:Int)(nm:BA):∃o,uP N (bR ts z i pr b) k nm=some o/\tC ts z o.1:=by
 have tail:∀(i:Nat) (pr:List BA) (b:List Ex) (l:List BA),i<ts.length->∃o,((iR N ((bY (bR ts z i pr b) l).1,(bY (bR ts z i pr b) l).2.1,(bY (bR ts z i pr b) l).2.2.1,(bY (bR ts z i pr b) l).2.2.2.1,(bY (bR ts z i pr b) l).2.2.2.2.2.2.2,(bY (bR ts z i pr b) l).2.2.2.2.2.1,(bY (bR ts z i pr b) l).2.2.2.2.2.2.1) (⟨#[61]⟩:BA)).bind fun f=>
   (wX N f 1).bind fun g=>(iR N g.1 (⟨#[59]⟩:BA)).bind fun d=>some (d,(k,nm,(bY (bR ts z i pr b) l).2.2.2.2.2.2.2,d.2.2.2.2.2.1)))=some o/\tC ts z o.1:=by
  intro i pr b l hi
  have e:((bY (bR ts z i pr b) l).1,(bY (bR ts z i pr b) l).2.1,(bY (bR ts z i pr b) l).2.2.1,(bY (bR ts z i pr b) l).2.2.2.1,(bY (bR ts z i pr b) l).2.2.2.2.2.2.2,(bY (bR ts z i pr b) l).2.2.2.2.2.1,(bY (bR ts z i pr b) l).2.2.2.2.2.2.1)=bR ts z i l b:=rfl
  obtain⟨v,d⟩:=SJ (N:=N) aa z i l b a hi
  simp only[e,rK a hi,j0,d]
  exact⟨_,rfl,a,i,l,b,hi,rfl⟩
 obtain⟨M,hM⟩:∃M,N=M+1:=⟨N-1,by omega⟩
 have g:aK (oH N) N (bY (bR ts z i pr b) [])=some (bY (bR ts z i pr b) []):=by
  have d:aK (oH N) N (bY (bR ts z i pr b) [])=aK (oH N) (M+1) (bY (bR ts z i pr b) []):=by rw[<-hM]
  rw[d];exact HJ a M []
 unfold uP
 rcases eK (k==1) with c|c
 .simp only[c,jE,rK a hi,j0,g]
  exact tail i pr b [] hi
 simp only[c,j9,jC,j0]
 exact tail i pr b [] hi
theorem qOi(d:OkT ts)(h:ts.length<1000000)(x:1000005<N)(i:Nat)(hi:i<ts.length)(k:Int)(nm:BA):∃o,uP N (gR ts pr (i,[])) k nm=some o/\
  JE ts (bI (if k=1 then sB ts i else .inr (i,[])) fun bq=>bI (dU ts yC bq.1) fun j=>bI (eN ts bq.2 32 (j,[])) fun c=>bI (dU ts rN c.1.1) fun m=> .inr (m,(k,nm,bq.2,c.1.2))) o:=by
 have badt:∀(z:cH) (st:RT) (l:List BA),tC ts z st->∃o,((iR N ((bY st l).1,(bY st l).2.1,(bY st l).2.2.1,(bY st l).2.2.2.1,(bY st l).2.2.2.2.2.2.2,(bY st l).2.2.2.2.2.1,(bY st l).2.2.2.2.2.2.1) (⟨#[61]⟩:BA)).bind fun n=>
   (wX N n 1).bind fun g=>(iR N g.1 (⟨#[59]⟩:BA)).bind fun f=>some (f,(k,nm,(bY st l).2.2.2.2.2.2.2,f.2.2.2.2.2.1)))=some o/\tC ts z o.1:=by
  rintro z st l ⟨a,i,pr,b,hi,rfl⟩
  have e:((bY (bR ts z i pr b) l).1,(bY (bR ts z i pr b) l).2.1,(bY (bR ts z i pr b) l).2.2.1,(bY (bR ts z i pr b) l).2.2.2.1,(bY (bR ts z i pr b) l).2.2.2.2.2.2.2,(bY (bR ts z i pr b) l).2.2.2.2.2.1,(bY (bR ts z i pr b) l).2.2.2.2.2.2.1)=bR ts z i l b:=rfl
  obtain⟨v,p⟩:=SJ (N:=N) aa z i l b a hi
  simp only[e,rK a hi,j0,p]
  exact⟨_,rfl,a,i,l,b,hi,rfl⟩
 have goodt:∀(q:Nat×List BA),q.1<ts.length->q.2.length<=8->∃o,((iR N ((bY (gR ts pr (q.1,[])) q.2).1,(bY (gR ts pr (q.1,[])) q.2).2.1,(bY (gR ts pr (q.1,[])) q.2).2.2.1,(bY (gR ts pr (q.1,[])) q.2).2.2.2.1,(bY (gR ts pr (q.1,[])) q.2).2.2.2.2.2.2.2,(bY (gR ts pr (q.1,[])) q.2).2.2.2.2.2.1,(bY (gR ts pr (q.1,[])) q.2).2.2.2.2.2.2.1) (⟨#[61]⟩:BA)).bind fun n=>
   (wX N n 1).bind fun g=>(iR N g.1 (⟨#[59]⟩:BA)).bind fun f=>some (f,(k,nm,(bY (gR ts pr (q.1,[])) q.2).2.2.2.2.2.2.2,f.2.2.2.2.2.1)))=some o/\
   JE ts (bI (dU ts yC q.1) fun j=>bI (eN ts q.2 32 (j,[])) fun c=>bI (dU ts rN c.1.1) fun m=> .inr (m,(k,nm,q.2,c.1.2))) o:=by
  intro q g A
  have e:((bY (gR ts pr (q.1,[])) q.2).1,(bY (gR ts pr (q.1,[])) q.2).2.1,(bY (gR ts pr (q.1,[])) q.2).2.2.1,(bY (gR ts pr (q.1,[])) q.2).2.2.2.1,(bY (gR ts pr (q.1,[])) q.2).2.2.2.2.2.2.2,(bY (gR ts pr (q.1,[])) q.2).2.2.2.2.2.1,(bY (gR ts pr (q.1,[])) q.2).2.2.2.2.2.2.1)=gR ts q.2 (q.1,[]):=rfl
  have u:(bY (gR ts pr (q.1,[])) q.2).2.2.2.2.2.2.2=q.2:=rfl
  rw[e]
  simp only[u,sG (q.1,[]) g h,j0,yC]
  cases hj:dU ts ⟨#[61]⟩ q.1 with
  |inl z=>
   have a:=qY hj
   obtain⟨v,p⟩:=SJ (N:=N) aa z q.1 q.2 [] a g
   simp only[p,j0,rK a g,bI]
   exact⟨_,rfl,a,q.1,q.2,[],g,rfl⟩
  |inr j=>
   obtain⟨rfl,r,-⟩:=mC d g hj
   obtain⟨o,s,f⟩:=qQw (N:=N) (pr:=q.2) d h aa aa (q.1+1,[]) r ae
   simp only[s,j0,bI]
   cases hc:eN ts q.2 32 (q.1+1,[]) with
   |inl z=>
    rw[hc] at f
    obtain⟨a,i,pr',b,hi,p⟩:=f
    simp only[p,rK a hi,j0]
    exact⟨_,rfl,a,i,pr',b,hi,rfl⟩
   |inr c=>
    rw[hc] at f
    obtain⟨⟨B,p,t,D⟩,-⟩:=vX d 32 (q.1+1,[]) c.1 c.2 r ae hc
    have hr':o=(gR ts q.2 c.1,(c.2:Int)):=f
    simp only[hr',sG c.1 p h,j0,rN]
    cases y:dU ts ⟨#[59]⟩ c.1.1 with
    |inl z=>exact⟨_,rfl,qY y,c.1.1,q.2,c.1.2,p,rfl⟩
    |inr m=>exact⟨_,rfl,rfl⟩
 unfold uP
 by_cases c:k=1
 .have c':(k==1)=true:=by simpa using c
  simp only[c',jE,sG (i,[]) hi h,j0,if_pos c,sB,oL]
  cases h1:dU ts ⟨#[40]⟩ i with
  |inl z=>
   have a:=qY h1
   obtain⟨M,hM⟩:∃M,N=M+1:=⟨N-1,by omega⟩
   have u:aK (oH N) N (bY (bR ts z i pr []) [])=some (bY (bR ts z i pr []) []):=by
    have r:aK (oH N) N (bY (bR ts z i pr []) [])=aK (oH N) (M+1) (bY (bR ts z i pr []) []):=by rw[<-hM]
    rw[r];exact HJ a M []
   simp only[u,j0,bI]
   exact badt z _ [] ⟨a,i,pr,[],hi,rfl⟩
  |inr j=>
   obtain⟨rfl,a,-⟩:=mC d hi h1
   obtain⟨o,s,f⟩:=qSh (N:=N) (pr:=pr) (b:=[]) d h x (i+1) a
   simp only[s,j0,bI]
   cases hP:(if cC ts 4 lU (i+1)then .inr (i+1+1,[]) else tO ts (ts.length+1) [] (i+1):cH⊕(Nat×List BA)) with
   |inl z=>
    rw[hP] at f
    obtain⟨st,l,r,rfl⟩:=f
    exact badt z st l r
   |inr q=>
    rw[hP] at f
    have hr':o=bY (gR ts pr (q.1,[])) q.2:=f
    have g:q.1<ts.length/\q.2.length<=8:=by
     split at hP
     .rename_i hc
      obtain rfl:=Sum.inr.inj hP
      exact⟨mD d a ac hc,by simp⟩
     obtain⟨_,p,t⟩:=QZ d _ _ _ q a ae hP
     exact⟨p,t⟩
    rw[hr']
    exact goodt q g.1 g.2
 have c':(k==1)=false:=by simpa using c
 simp only[c',j9,jC,j0,if_neg c]
 exact goodt (i,[]) hi ae
def HU(N:Nat)(f:Sr)(t:cB)(st:RT)(k:Int):Option (RT×Dl):=
 ((if((List.length f.2.2:Int)==64)then lB N st t.2.2.2 2 else some st):Option RT).bind fun o2=>(iT N o2).bind fun b=>
 ((if(k==3)then qR N b.1 true else nZ N b.1):Option (RT×BA)).bind fun a=>
 ((if(a.1.2.2.2.1==0)then yT N f k a.2 else some false):Option Bool).bind fun o4=>
 ((if o4 then lB N a.1 b.2.2.2.2 10 else some a.1):Option RT).bind fun b=>uP N b k a.2
theorem qMe(g:1000005<N){f:Sr}{t:cB}{z:cH}{i:Nat}{b:List Ex}(c:z.2≠0)(hi:i<ts.length)(k:Int):∃o,
  ((iT N (bR ts z i pr b)).bind fun d=>((if(k==3)then qR N d.1 true else nZ N d.1):Option (RT×BA)).bind fun a=>
   ((if(a.1.2.2.2.1==0)then yT N f k a.2 else some false):Option Bool).bind fun o4=>
   ((if o4 then lB N a.1 d.2.2.2.2 10 else some a.1):Option RT).bind fun h=>uP N h k a.2)=some o/\tC ts z o.1:=by
 have hz':((bR ts z i pr b).2.2.2.1==0)=false:=by simpa[bR] using c
 have e:((if(k==3)then qR N (bR ts z i pr b) true else nZ N (bR ts z i pr b)):Option (RT×BA))=some (bR ts z i pr b,⟨#[]⟩):=by
  rw[UD c hi,NT c hi];split<;>rfl
 simp only[rM hi,j0,e,hz',j9,jC]
 exact ST g c hi k _
theorem qNf(h:OkT ts)(p:ts.length<1000000)(n:1000005<N){f:Sr}(r:f.2.2.length<=64)(t:cB)(i:Nat)(hi:i<ts.length)(k:Int):∃o,HU N f t (gR ts pr (i,[])) k=some o/\
  JE ts (if f.2.2.length=64 then eG t 2 else bI (if k=3 then nK ts i else mF ts i) fun a=>
   if f.2.2.any (fun d=>d.1==k&&decide (d.2.1=a.2.2.1)) then eG a.2 10
   else bI (if k=1 then sB ts a.1 else .inr (a.1,[])) fun b=>
    bI (dU ts yC b.1) fun j=>bI (eN ts b.2 32 (j,[])) fun c=>
    bI (dU ts rN c.1.1) fun m=> .inr (m,(k,a.2.2.1,b.2,c.1.2))) o:=by
 unfold HU
 by_cases k1:f.2.2.length=64
 .have k1':((f.2.2.length:Int)==64)=true:=by simp;omega
  rw[if_pos k1]
  simp only[k1',jE,oR,j0,eG]
  exact qMe (t:=t) n (show(2:Int)≠0 by decide) hi k
 have k1':((f.2.2.length:Int)==64)=false:=by simp;omega
 rw[if_neg k1]
 simp only[k1',j9,jC,j0,mE (i,[]) hi]
 have e:((if(k==3)then qR N (gR ts pr (i,[])) true else nZ N (gR ts pr (i,[]))):Option (RT×BA))=
   some (match(if k=3 then nK ts i else mF ts i) with| .inl z=>(bR ts z i pr [],⟨#[]⟩)| .inr a=>(gR ts pr (a.1,[]),a.2.2.1)):=by
  by_cases k3:k=3
  .have k3':(k==3)=true:=by simpa using k3
   rw[if_pos k3',if_pos k3,UE (i,[]) hi p aa]<;>rfl
  have k3':(k==3)=false:=by simpa using k3
  rw[if_neg (by rw[k3'];decide),if_neg k3,DJ (i,[]) hi p aa]<;>rfl
 rw[e]
 simp only[j0]
 cases hX:(if k=3 then nK ts i else mF ts i) with
 |inl z=>
  have g:z.2≠0:=by
   split at hX
   .exact NR hX
   exact NZ hX
  have hz':((bR ts z i pr []).2.2.2.1==0)=false:=by simpa[bR] using g
  simp only[hz',j9,jC,j0,bI]
  exact ST n g hi k _
 |inr a=>
  have ga:a=(i+1,aO ts i)/\i+1<ts.length:=by
   split at hX
   .obtain⟨e,g,-⟩:=tN h hi hX;exact⟨e,g⟩
   obtain⟨e,g,-⟩:=sS h hi hX;exact⟨e,g⟩
  obtain⟨rfl,g⟩:=ga
  have q:((gR ts pr (i+1,[])).2.2.2.1==0)=true:=rfl
  simp only[q,jE,qUq (N:=N) (f:=f) (k:=k) (s:=(aO ts i).2.1) aa aa,j0]
  rw[show bI (Sum.inr (i+1,aO ts i)) (fun a:Nat×cB=>if f.2.2.any (fun d=>d.1==k&&decide (d.2.1=a.2.2.1))then eG a.2 10
   else bI (if k=1 then sB ts a.1 else .inr (a.1,[])) fun b=>
    bI (dU ts yC b.1) fun j=>bI (eN ts b.2 32 (j,[])) fun c=>
    bI (dU ts rN c.1.1) fun m=>(.inr (m,(k,a.2.2.1,b.2,c.1.2)):cH⊕(Nat×Dl)))=(if f.2.2.any (fun d=>d.1==k&&decide (d.2.1=(aO ts i).2.1))then eG (aO ts i) 10
   else bI (if k=1 then sB ts (i+1) else .inr (i+1,[])) fun b=>
    bI (dU ts yC b.1) fun j=>bI (eN ts b.2 32 (j,[])) fun c=>
    bI (dU ts rN c.1.1) fun m=>(.inr (m,(k,(aO ts i).2.1,b.2,c.1.2)):cH⊕(Nat×Dl))) from rfl]
  rcases eK (f.2.2.any fun d=>d.1==k&&decide (d.2.1=(aO ts i).2.1)) with l|l
  .rw[if_pos l]
   simp only[l,jE,oR,j0,eG]
   exact ST n (show(10:Int)≠0 by decide) g k _
  rw[if_neg (by rw[l];decide)]
  simp only[l,j9,jC,j0]
  exact qOi h p n (i+1) g k _
end
section
variable {N:Nat} {ts:List cB} {pr:List BA}
abbrev RN:=List cB×Int×Int×Int×List BA×List Ex×List Int×BA
def qGc(st:RT)(l:BA):RN:=(st.1,st.2.1,st.2.2.1,st.2.2.2.1,st.2.2.2.2.1,st.2.2.2.2.2.1,st.2.2.2.2.2.2,l)
theorem qVj(r:OkT ts)(p:ts.length<1000000)(B:1000005<N){f:Sr}(D:f.2.2.length<=64)(i:Nat)(b:List Ex)(hi:i<ts.length):∃o,KL N (gR ts pr (i,b)) f=some o/\JE ts (oK ts f.2.2 i) o:=by
 have A:((gR ts pr (i,b)).1,(gR ts pr (i,b)).2.1,(gR ts pr (i,b)).2.2.1,(gR ts pr (i,b)).2.2.2.1,([]:List BA),([]:List Ex),(gR ts pr (i,b)).2.2.2.2.2.2)=gR ts [] (i,[]):=rfl
 have rest:∀(st:RT) (k:Int),(((if((List.length f.2.2:Int)==64)then((lB N st (aO ts i).2.2.2 2).bind fun F=>some F) else(some st)):Option RT).bind fun o2=>(iT N o2).bind fun q=>((if(k==3)then((qR N q.1 true).bind fun y=>some (qGc y.1 y.2)) else((nZ N q.1).bind fun z=>some (qGc z.1 z.2))):Option RN).bind fun a=>((if(a.2.2.2.1==0)then((yT N f k a.2.2.2.2.2.2.2).bind fun v=>some v) else(some false)):Option Bool).bind fun o4=>((if o4 then((lB N (a.1,a.2.1,a.2.2.1,a.2.2.2.1,a.2.2.2.2.1,a.2.2.2.2.2.1,a.2.2.2.2.2.2.1) q.2.2.2.2 10).bind fun x=>some x) else(some (a.1,a.2.1,a.2.2.1,a.2.2.2.1,a.2.2.2.2.1,a.2.2.2.2.2.1,a.2.2.2.2.2.2.1))):Option RT).bind fun E=>uP N E k a.2.2.2.2.2.2.2)=HU N f (aO ts i) st k:=by
  intro st k
  unfold HU
  simp only[qE]
  refine congrArg _ (funext fun o2=>congrArg _ (funext fun q=> ?_))
  rcases eK (k==3) with c|c<;>simp only[c,jE,j9,jC,gW,j0]<;>rfl
 have fin:∀(k:Int),k≠0->mH (aO ts i).2.1=k->(aO ts i).1=1->∃o,HU N f (aO ts i) (gR ts [] (i+1,[])) k=some o/\JE ts (oK ts f.2.2 i) o:=by
  intro k u t d
  have g:=r.next hi (show(aO ts i).1≠5 by rw[d];decide)
  obtain⟨o,e,l⟩:=qNf (N:=N) (pr:=[]) r p B D (aO ts i) (i+1) g k
  refine⟨o,e,?_⟩
  unfold oK
  dsimp only
  rw[t,if_neg (by rintro(h|h);exact h d;exact u h)]
  exact l
 simp only[KL,A,mE (i,[]) hi,j0,Prod.eta,qW (i,[]) hi p]
 by_cases d:(aO ts i).1=1
 .have n:∀s,cC ts 1 s i=decide ((aO ts i).2.1=s):=fun s=>qCw d
  simp only[n]
  by_cases w1:(aO ts i).2.1=(⟨#[102,117,110,99]⟩:BA)
  .simp only[jM w1,jE,j0]
   obtain⟨o,e,l⟩:=fin 1 ac (by rw[w1];rfl) d
   refine⟨o,Eq.trans ?_ e,l⟩
   refine Eq.trans ?_ (rest (gR ts [] (i+1,[])) 1)
   simp only[qE,uP]
   rfl
  simp only[jR w1,j9,jC,j0,qW (i,[]) hi p,n,Prod.eta]
  by_cases w2:(aO ts i).2.1=(⟨#[116,101,115,116]⟩:BA)
  .simp only[jM w2,jE,j0]
   obtain⟨o,e,l⟩:=fin 2 ac (by rw[w2];rfl) d
   refine⟨o,Eq.trans ?_ e,l⟩
   refine Eq.trans ?_ (rest (gR ts [] (i+1,[])) 2)
   simp only[qE,uP]
   rfl
  simp only[jR w2,j9,jC,j0,qW (i,[]) hi p,n,Prod.eta]
  by_cases w3:(aO ts i).2.1=(⟨#[103,101,110]⟩:BA)
  .simp only[jM w3,jE,j0]
   obtain⟨o,e,l⟩:=fin 3 ac (by rw[w3];rfl) d
   refine⟨o,Eq.trans ?_ e,l⟩
   refine Eq.trans ?_ (rest (gR ts [] (i+1,[])) 3)
   simp only[qE,uP]
   rfl
  simp only[jR w3,j9,jC,j0,oR,Prod.eta]
  refine⟨_,rfl,?_⟩
  have t:mH (aO ts i).2.1=0:=by
   unfold mH
   rw[if_neg (show ¬(aO ts i).2.1=IS from w1),if_neg (show ¬(aO ts i).2.1=IV from w2),if_neg (show ¬(aO ts i).2.1=IZ from w3)]
  unfold oK
  dsimp only
  rw[if_pos (.inr t)]
  exact⟨show(9:Int)≠0 by decide,i,[],[],hi,rfl⟩
 have n:∀s,cC ts 1 s i=false:=fun s=>qFd d
 simp only[n,j9,jC,j0,qW (i,[]) hi p,oR,Prod.eta]
 refine⟨_,rfl,?_⟩
 unfold oK
 dsimp only
 rw[if_pos (.inl d)]
 exact⟨show(9:Int)≠0 by decide,i,[],[],hi,rfl⟩
def VJ(ts:List cB)(pr:List BA)(b:List Ex)(r:cH⊕(Nat×List BA))(o:RL):Prop:=
 match r with
 | .inl z=>∃st l,tC ts z st/\o=bY st l
 | .inr q=>o=bY (gR ts pr (q.1,b)) q.2
theorem XV{y5:RT×BA}{z:cH}{i:Nat}{pr':List BA}{b:List Ex}(a:z.2≠0)(M:Nat)(l:List BA):aK (qG N y5) (M+1) (bY (bR ts z i pr' b) l)=some (bY (bR ts z i pr' b) l):=by
 have hz':((bY (bR ts z i pr' b) l).2.2.2.1==0)=false:=by simpa[bR,bY] using a
 simp only[aK,qG,hz',j9,jC,j0]
theorem XD(k:OkT ts)(v:ts.length<1000000)(H:1000005<N){y5:RT×BA}{b:List Ex}:∀(n M:Nat) (l:List BA) (i:Nat),i<ts.length->l.length<=8->ts.length<i+n->ts.length+2<i+M->
  ∃o,aK (qG N y5) M (bY (gR ts pr (i,b)) l)=some o/\VJ ts pr b (qV ts y5.2 n l i) o
 |0,M,l,i,hi,_,h,_=>by omega
 |n+1,0,l,i,hi,_,_,h=>by omega
 |n+1,M+1,l,i,hi,R,U,S=>by
  have G:((bY (gR ts pr (i,b)) l).2.2.2.1==0)=true:=rfl
  have E:∀st:RT,∀l,((bY st l).1,(bY st l).2.1,(bY st l).2.2.1,(bY st l).2.2.2.1,(bY st l).2.2.2.2.1,(bY st l).2.2.2.2.2.1,(bY st l).2.2.2.2.2.2.1)=st:=fun _ _=>rfl
  have F:∀st:RT,∀l,(bY st l).2.2.2.2.2.2.2=l:=fun _ _=>rfl
  have e:∀s:BA,eM 16 l [s]=some (l++[s]):=fun s=>iS ag aa
  have u:∀s,sA N l s=some (decide (s∈l)):=fun s=>VQ aa aa
  have bad:∀(z:cH) (i:Nat) (pr':List BA) (b':List Ex) (l:List BA),z.2≠0->i<ts.length->∃o,aK (qG N y5) M (bY (bR ts z i pr' b') l)=some o/\VJ ts pr b (.inl z) o:=by
   intro z i pr' b' l c hi
   obtain⟨M',rfl⟩:∃M',M=M'+1:=⟨M-1,by omega⟩
   exact⟨_,XV c M' l,_,_,⟨c,i,pr',b',hi,rfl⟩,rfl⟩
  -- from the import's name on, behind an error
  have badn:∀(z:cH) (i:Nat) (pr':List BA) (b':List Ex),z.2≠0->i<ts.length->∃o,((iT N (bR ts z i pr' b')).bind fun f=>(nZ N f.1).bind fun a=>((if(a.1.2.2.2.1==0)then(if(a.2.toList==y5.2.toList)then(some true) else(sA N l a.2)) else(some false)):Option Bool).bind fun A=>((if A then lB N a.1 f.2.2.2.2 10 else some a.1):Option RT).bind fun B=>(iR N B (⟨#[59]⟩:BA)).bind fun r=>(eM 16 l ([a.2])).bind fun y=>aK (qG N y5) M (bY r y))=some o/\VJ ts pr b (.inl z) o:=by
   intro z i pr' b' c hi
   have hz':((bR ts z i pr' b').2.2.2.1==0)=false:=by simpa[bR] using c
   simp only[rM hi,NT c hi,j0,hz',j9,jC,rK c hi,e]
   exact bad z i pr' b' _ c hi
  -- the step
  have step:aK (qG N y5) (M+1) (bY (gR ts pr (i,b)) l)=(if cC ts 1 zH i then
    ((if((l.length:Int)==8)then some (bR ts ((aO ts i).2.2.2,2) (i+1) pr b) else some (gR ts pr (i+1,b))):Option RT).bind fun st=>((iT N st).bind fun f=>(nZ N f.1).bind fun a=>((if(a.1.2.2.2.1==0)then(if(a.2.toList==y5.2.toList)then(some true) else(sA N l a.2)) else(some false)):Option Bool).bind fun A=>((if A then lB N a.1 f.2.2.2.2 10 else some a.1):Option RT).bind fun B=>(iR N B (⟨#[59]⟩:BA)).bind fun r=>(eM 16 l ([a.2])).bind fun y=>aK (qG N y5) M (bY r y))
    else some (bY (gR ts pr (i,b)) l)):=by
   have K:cC ts 1 zH i=((aO ts i).1==1&&decide ((aO ts i).2.1=(⟨#[105,109,112,111,114,116]⟩:BA))):=rfl
   have D:=nQ (show i<1000000 by omega)
   simp only[aK,qG,G,jE,E,F,mE (i,b) hi,j0,Prod.eta,mI,K]
   rcases eK ((aO ts i).1==1) with d|d
   rotate_left
   .simp only[d,j9,jC,j0,Bool.false_and]
    rfl
   rcases eK (decide ((aO ts i).2.1=(⟨#[105,109,112,111,114,116]⟩:BA))) with p|p
   rotate_left
   .simp only[d,p,j9,jC,jE,j0,Bool.and_false]
    rfl
   simp only[d,p,jE,j0,Bool.and_true]
   rcases eK ((l.length:Int)==8) with q|q
   .simp only[q,jE,j0,mE (i,b) hi,oR,qE]
    have t:((bR ts ((aO ts i).2.2.2,2) i pr b).1,IntKind.wrap .i64 ((bR ts ((aO ts i).2.2.2,2) i pr b).2.1+1),(bR ts ((aO ts i).2.2.2,2) i pr b).2.2.1,(bR ts ((aO ts i).2.2.2,2) i pr b).2.2.2.1,(bR ts ((aO ts i).2.2.2,2) i pr b).2.2.2.2.1,(bR ts ((aO ts i).2.2.2,2) i pr b).2.2.2.2.2.1,(bR ts ((aO ts i).2.2.2,2) i pr b).2.2.2.2.2.2)=bR ts ((aO ts i).2.2.2,2) (i+1) pr b:=by
     show(ts,IntKind.wrap .i64 ((i:Int)+1),(aO ts i).2.2.2,(2:Int),pr,b,([]:List Int))=_
     rw[D];rfl
    rw[t]
    simp only[gW,j0]
    rfl
   simp only[q,j9,jC,j0,qE]
   have t:((gR ts pr (i,b)).1,IntKind.wrap .i64 ((gR ts pr (i,b)).2.1+1),(gR ts pr (i,b)).2.2.1,(gR ts pr (i,b)).2.2.2.1,(gR ts pr (i,b)).2.2.2.2.1,(gR ts pr (i,b)).2.2.2.2.2.1,(gR ts pr (i,b)).2.2.2.2.2.2)=gR ts pr (i+1,b):=by
    show(ts,IntKind.wrap .i64 ((i:Int)+1),(0:Int),(0:Int),pr,b,([]:List Int))=_
    rw[D];rfl
   rw[t]
   simp only[gW,j0]
   rfl
  rw[step]
  simp only[qV]
  rcases eK (cC ts 1 zH i) with d|d
  rotate_left
  .simp only[d,j9,jC]
   exact⟨_,rfl,rfl⟩
  have g:=mD k hi ac d
  simp only[d,jE]
  by_cases k2:l.length=8
  .have k2':((l.length:Int)==8)=true:=by simp;omega
   rw[if_pos k2]
   simp only[k2',jE,j0,eG]
   exact badn _ _ _ _ (show(2:Int)≠0 by decide) g
  have k2':((l.length:Int)==8)=false:=by simp;omega
  rw[if_neg k2]
  simp only[k2',j9,jC,j0,mE (i+1,b) g,DJ (i+1,b) g v (by omega:100<N)]
  cases hx:mF ts (i+1) with
  |inl z=>
   have c:=NZ hx
   have hz':((bR ts z (i+1) pr b).2.2.2.1==0)=false:=by simpa[bR] using c
   simp only[hz',j9,jC,j0,rK c g,e,bI]
   exact bad _ _ _ _ _ c g
  |inr x=>
   obtain⟨rfl,p,-⟩:=sS k g hx
   have t:((gR ts pr (i+1+1,b)).2.2.2.1==0)=true:=rfl
   simp only[t,jE,mI,u,bI]
   by_cases q:(aO ts (i+1)).2.1=y5.2\/(aO ts (i+1)).2.1∈l
   .rw[if_pos q]
    have:((if decide ((aO ts (i+1)).2.1=y5.2)then some true else some (decide ((aO ts (i+1)).2.1∈l))):Option Bool)=some true:=by
     rcases q with h|h
     .rw[if_pos (jM h)]
     rw[jM h];split<;>rfl
    rw[this]
    simp only[j0,jE,oR,e,eG]
    have c:(((aO ts (i+1)).2.2.2,(10:Int)):cH).2≠0:=show(10:Int)≠0 by decide
    simp only[rK c p,j0]
    exact bad _ _ _ _ _ c p
   rw[if_neg q]
   have:((if decide ((aO ts (i+1)).2.1=y5.2)then some true else some (decide ((aO ts (i+1)).2.1∈l))):Option Bool)=some false:=by
    rw[if_neg (by simp only[j6];exact fun h=>q (.inl h)),jR (fun h=>q (.inr h))]
   rw[this]
   simp only[j0,j9,jC,sG (i+1+1,b) p v,e,rN]
   cases c:dU ts ⟨#[59]⟩ (i+1+1) with
   |inl z=>exact bad _ _ _ _ _ (qY c) p
   |inr j=>
    obtain⟨rfl,D,-⟩:=mC k p c
    exact XD k v H n M _ (i+1+1+1) D aj aa aa
end
section
variable {N:Nat} {ts:List cB} {pr:List BA}
abbrev RD:=List cB×Int×Int×Int×List BA×List Ex×List Int×List Dl
def mN(st:RT)(l:List Dl):RD:=(st.1,st.2.1,st.2.2.1,st.2.2.2.1,st.2.2.2.2.1,st.2.2.2.2.2.1,st.2.2.2.2.2.2,l)
def relS(ts:List cB)(r:cH⊕List Dl)(o:RD):Prop:=
 match r with
 | .inl z=>∃st l,tC ts z st/\o=mN st l
 | .inr a=>∃pr p,o=mN (gR ts pr p) a
theorem ZC{y5:RT×BA}{o2:RL}{z:cH}{i:Nat}{pr':List BA}{b:List Ex}(a:z.2≠0)(M:Nat)(l:List Dl):aK (rY N y5 o2) (M+1) (mN (bR ts z i pr' b) l)=some (mN (bR ts z i pr' b) l):=by
 have hz':((mN (bR ts z i pr' b) l).2.2.2.1==0)=false:=by simpa[bR,mN] using a
 simp only[aK,rY,hz',j9,jC,j0]
theorem XZ(c:OkT ts)(k:ts.length<1000000)(g:1000005<N){y5:RT×BA}{o2:RL}:∀(n M:Nat) (l:List Dl) (i:Nat) (pr:List BA) (b:List Ex),i<ts.length->l.length<=64->ts.length<i+n->ts.length+2<i+M->
  ∃o,aK (rY N y5 o2) M (mN (gR ts pr (i,b)) l)=some o/\relS ts (tQ ts n l i) o
 |0,M,l,i,_,_,hi,_,h,_=>by omega
 |n+1,0,l,i,_,_,hi,_,_,h=>by omega
 |n+1,M+1,l,i,pr,b,hi,e,y,x=>by
  have t:((mN (gR ts pr (i,b)) l).2.2.2.1==0)=true:=rfl
  have r:∀st:RT,∀l,((mN st l).1,(mN st l).2.1,(mN st l).2.2.1,(mN st l).2.2.2.1,(mN st l).2.2.2.2.1,(mN st l).2.2.2.2.2.1,(mN st l).2.2.2.2.2.2.1)=st:=fun _ _=>rfl
  have s:∀st:RT,∀l,(mN st l).2.2.2.2.2.2.2=l:=fun _ _=>rfl
  simp only[aK,rY,t,jE,r,s,mE (i,b) hi,j0,Prod.eta,tQ]
  by_cases k1:(aO ts i).1=5
  .have k1':((aO ts i).1 !=5)=false:=by simp[k1]
   rw[if_pos k1]
   simp only[k1',j9,jC,j0]
   exact⟨_,rfl,pr,(i,b),rfl⟩
  have k1':((aO ts i).1 !=5)=true:=by simp[k1]
  rw[if_neg k1]
  simp only[k1',jE]
  obtain⟨o,v,d⟩:=qVj (N:=N) (pr:=pr) (f:=(y5.2,o2.2.2.2.2.2.2.2,l)) c k g e i b hi
  simp only[v,j0]
  rw[iS ag aa]
  simp only[j0]
  cases hd:oK ts l i with
  |inl z=>
   rw[show oK ts (y5.2,o2.2.2.2.2.2.2.2,l).2.2 i=oK ts l i from rfl,hd] at d
   obtain⟨q,j,pr',b',u,p⟩:=d
   obtain⟨M',rfl⟩:∃M',M=M'+1:=⟨M-1,by omega⟩
   rw[p]
   exact⟨_,ZC q M' _,_,_,⟨q,j,pr',b',u,rfl⟩,rfl⟩
  |inr a=>
   rw[show oK ts (y5.2,o2.2.2.2.2.2.2.2,l).2.2 i=oK ts l i from rfl,hd] at d
   obtain⟨q,p,u⟩:=NC c hi hd
   have hr':o=(gR ts a.2.2.2.1 (a.1,a.2.2.2.2),a.2):=d
   rw[hr']
   exact XZ c k g n M (l++[a.2]) a.1 _ _ p aj aa aa
theorem qVm(d:OkT ts)(h:ts.length<1000000)(A:1000005<N):
  ((pC N (ts,0,0,0,[],[],[]) (⟨#[112,97,99,107,97,103,101]⟩:BA)).bind fun s=>((if(!s.2)then((iT N s.1).bind fun D=>lB N D.1 D.2.2.2.2 9) else(some s.1)):Option RT).bind fun K=>(nZ N K).bind fun y5=>(iR N y5.1 (⟨#[59]⟩:BA)).bind fun t=>(aK (qG N y5) N (bY t [])).bind fun o2=>(aK (rY N y5 o2) N (o2.1,o2.2.1,o2.2.2.1,o2.2.2.2.1,o2.2.2.2.2.1,o2.2.2.2.2.2.1,o2.2.2.2.2.2.2.1,[])).bind fun a=>if(a.2.2.2.1 !=0)then(some (sL,a.2.2.1,a.2.2.2.1)) else(some (((y5.2,o2.2.2.2.2.2.2.2,a.2.2.2.2.2.2.2):Sr),(0:Int),(0:Int))))=some (match tS ts with| .inl z=>(sL,z.1,z.2)| .inr f=>(f,0,0)):=by
 have p:0<ts.length:=fL.2 d.1
 obtain⟨M,hM⟩:∃M,N=M+1:=⟨N-1,by omega⟩
 have E:((ts,(0:Int),(0:Int),(0:Int),[],[],[]):RT)=gR ts [] (0,[]):=rfl
 -- the loops behind an error
 have badD:∀(y5:RT×BA) (o2:RL) (z:cH) (st:RT),tC ts z st->((aK (rY N y5 o2) N (mN st [])).bind fun a=>if(a.2.2.2.1 !=0)then(some (sL,a.2.2.1,a.2.2.2.1)) else(some (((y5.2,o2.2.2.2.2.2.2.2,a.2.2.2.2.2.2.2):Sr),(0:Int),(0:Int))))=some (sL,z.1,z.2):=by
  rintro y5 o2 z st ⟨c,i,pr',b,hi,rfl⟩
  have g:aK (rY N y5 o2) N (mN (bR ts z i pr' b) [])=some (mN (bR ts z i pr' b) []):=by
   have e:aK (rY N y5 o2) N (mN (bR ts z i pr' b) [])=aK (rY N y5 o2) (M+1) (mN (bR ts z i pr' b) []):=by rw[<-hM]
   rw[e];exact ZC c M []
  have hz':((mN (bR ts z i pr' b) []).2.2.2.1 !=0)=true:=by simpa[bR,mN] using c
  rw[g]
  simp only[j0,hz',jE]
  rfl
 have badI:∀(y5:RT×BA) (z:cH) (i:Nat) (pr':List BA) (b:List Ex),z.2≠0->i<ts.length->((aK (qG N y5) N (bY (bR ts z i pr' b) [])).bind fun o2=>(aK (rY N y5 o2) N (o2.1,o2.2.1,o2.2.2.1,o2.2.2.2.1,o2.2.2.2.2.1,o2.2.2.2.2.2.1,o2.2.2.2.2.2.2.1,[])).bind fun a=>if(a.2.2.2.1 !=0)then(some (sL,a.2.2.1,a.2.2.2.1)) else(some (((y5.2,o2.2.2.2.2.2.2.2,a.2.2.2.2.2.2.2):Sr),(0:Int),(0:Int))))=some (sL,z.1,z.2):=by
  intro y5 z i pr' b c hi
  have g:aK (qG N y5) N (bY (bR ts z i pr' b) [])=some (bY (bR ts z i pr' b) []):=by
   have e:aK (qG N y5) N (bY (bR ts z i pr' b) [])=aK (qG N y5) (M+1) (bY (bR ts z i pr' b) []):=by rw[<-hM]
   rw[e];exact XV c M []
  rw[g]
  simp only[j0]
  exact badD y5 (bY (bR ts z i pr' b) []) z (bR ts z i pr' b) ⟨c,i,pr',b,hi,rfl⟩
 have bad:∀(z:cH) (i:Nat) (pr':List BA) (b:List Ex),z.2≠0->i<ts.length->((nZ N (bR ts z i pr' b)).bind fun y5=>(iR N y5.1 (⟨#[59]⟩:BA)).bind fun t=>(aK (qG N y5) N (bY t [])).bind fun o2=>(aK (rY N y5 o2) N (o2.1,o2.2.1,o2.2.2.1,o2.2.2.2.1,o2.2.2.2.2.1,o2.2.2.2.2.2.1,o2.2.2.2.2.2.2.1,[])).bind fun a=>if(a.2.2.2.1 !=0)then(some (sL,a.2.2.1,a.2.2.2.1)) else(some (((y5.2,o2.2.2.2.2.2.2.2,a.2.2.2.2.2.2.2):Sr),(0:Int),(0:Int))))=some (sL,z.1,z.2):=by
  intro z i pr' b c hi
  simp only[NT c hi,rK c hi,j0]
  exact badI _ z i pr' b c hi
 rw[E]
 simp only[qW (0,[]) p h,j0,tS,sM,HV]
 rcases eK (cC ts 1 ⟨#[112,97,99,107,97,103,101]⟩ 0) with k|k
 rotate_left
 .simp only[k,j9,jC,jZ,jE,mE (0,[]) p,oR,j0,eG,bI]
  exact bad _ _ _ _ (show(9:Int)≠0 by decide) p
 have n:=mD d p ac k
 simp only[k,jE,kI,j9,jC,j0,DJ (0+1,[]) n h (by omega:100<N),bI]
 cases h2:mF ts (0+1) with
 |inl z=>
  have c:=NZ h2
  simp only[rK c n,j0]
  exact badI _ z _ _ _ c n
 |inr x=>
  obtain⟨rfl,r,-⟩:=sS d n h2
  simp only[sG (0+1+1,[]) r h,j0,rN]
  cases v:dU ts ⟨#[59]⟩ (0+1+1) with
  |inl z=>exact badI _ z _ _ _ (qY v) r
  |inr j=>
   obtain⟨rfl,u,-⟩:=mC d r v
   obtain⟨o,G,q⟩:=XD (N:=N) (pr:=[]) (b:=[]) (y5:=(gR ts [] (0+1+1,[]),(aO ts (0+1)).2.1)) d h A (ts.length+1) N [] (0+1+1+1) u ae aa aa
   simp only[G,j0]
   cases h4:qV ts (aO ts (0+1)).2.1 (ts.length+1) [] (0+1+1+1) with
   |inl z=>
    rw[show qV ts ((gR ts [] (0+1+1,[]),(aO ts (0+1)).2.1):RT×BA).2 (ts.length+1) [] (0+1+1+1)=qV ts (aO ts (0+1)).2.1 (ts.length+1) [] (0+1+1+1) from rfl,h4] at q
    obtain⟨st,l,g,rfl⟩:=q
    exact badD _ (bY st l) z st g
   |inr y=>
    rw[show qV ts ((gR ts [] (0+1+1,[]),(aO ts (0+1)).2.1):RT×BA).2 (ts.length+1) [] (0+1+1+1)=qV ts (aO ts (0+1)).2.1 (ts.length+1) [] (0+1+1+1) from rfl,h4] at q
    have hr':o=bY (gR ts [] (y.1,[])) y.2:=q
    obtain⟨R,H,S⟩:=MM d _ _ _ y u ae h4
    obtain⟨o2,B,g⟩:=XZ (N:=N) (y5:=(gR ts [] (0+1+1,[]),(aO ts (0+1)).2.1)) (o2:=o) d h A (ts.length+1) N [] y.1 [] [] H ae aa aa
    have F:(o.1,o.2.1,o.2.2.1,o.2.2.2.1,o.2.2.2.2.1,o.2.2.2.2.2.1,o.2.2.2.2.2.2.1,([]:List Dl))=mN (gR ts [] (y.1,[])) []:=by rw[hr'];rfl
    rw[F,B]
    simp only[j0]
    cases h5:tQ ts (ts.length+1) [] y.1 with
    |inl z=>
     rw[h5] at g
     obtain⟨st,l,⟨c,i,pr',b,hi,rfl⟩,rfl⟩:=g
     have hz':((mN (bR ts z i pr' b) l).2.2.2.1 !=0)=true:=by simpa[bR,mN] using c
     simp only[hz',jE]
     rfl
    |inr l=>
     rw[h5] at g
     obtain⟨pr',p',rfl⟩:=g
     have hz':((mN (gR ts pr' p') l).2.2.2.1 !=0)=false:=rfl
     simp only[hz',j9,jC]
     rw[hr']
     rfl
end
theorem qLh{N:Nat}(s:BA)(b:1000005<N):LW N s=some (lJ s):=by
 simp only[LW,qKv (N:=N) aa,j0,lJ]
 by_cases h:(lD s).2.2=0
 .rw[if_neg (show ¬((lD s).2.2 !=0)=true by simpa using h),if_neg (show ¬(lD s).2.2≠0 by simpa using h)]
  obtain⟨a,d,e⟩:=MW h
  have c:=qVm (N:=N) a aa b
  refine Eq.trans ?_ (Eq.trans c ?_)
  .simp only[Prod.eta,qE];rfl
  cases tS (lD s).1<;>rfl
 rw[if_pos (show((lD s).2.2 !=0)=true by simpa using h),if_pos h];rfl
end
section
open Go Go.Dc Go.Proofs
def sY{α τ:Type}(g:Nat->τ->α->τ):Nat->τ->List α->τ
 |_,t,[]=>t
 |i,t,x::l=>sY g (i+1) (g i t x) l
theorem ZO{α τ σ β:Type}{L:List α}(enc:τ->Nat->σ){f:σ->Option (σ⊕β)}(g:Nat->τ->α->τ)(fin:τ->β)
  (a:∀t i,∀hi:i<L.length,f (enc t i)=some (.inl (enc (g i t L[i]) (i+1))))
  (b:∀t,f (enc t L.length)=some (.inr (fin t))):∀(d i M:Nat) (t:τ),i+d=L.length->d<M->aK f M (enc t i)=some (fin (sY g i t (L.drop i)))
 |_,_,0,_,_,h=>absurd h (gG _)
 |0,i,M+1,t,c,e=>by
  have hi:i=L.length:=by omega
  subst hi
  simp only[aK,b t,j0,fY,sY]
 |d+1,i,M+1,t,c,e=>by
  have hi:i<L.length:=by omega
  simp only[aK,a t i hi,j0]
  rw[HN hi]
  exact ZO enc g fin a b d (i+1) M _ aa aa
abbrev dQ:=BA×BA×Int×BA×Int×Int
abbrev K3:=Int×BA×BA
abbrev mU:=BA×BA×Int×BA×Int
def nL(kind:Int)(pkg name:BA):K3:=(kind,if kind=3 then eY else pkg,name)
def rP(o:mU):K3:=nL o.2.2.1 o.1 o.2.1
def qJ(M:List (K3×dQ))(o:mU):List (K3×dQ):=
 mset M (rP o) (match dP M (rP o) with
  |some x=>(x.1,x.2.1,x.2.2.1,x.2.2.2.1,x.2.2.2.2.1,IntKind.wrap .i64 (x.2.2.2.2.2+1))
  |none=>(o.1,o.2.1,o.2.2.1,o.2.2.2.1,o.2.2.2.2,1))
def oD(path pkg:BA):Nat->List Dl->List mU
 |_,[]=>[]
 |i,d::l=>(pkg,d.2.1,d.1,path,(i:Int))::oD path pkg (i+1) l
def oU(f:bM):Bool:=nH f.1&&decide ((lJ f.2).2.2=0)
def eS(L:List bM):List (BA×Sr):=(L.filter oU).map fun f=>(f.1,(lJ f.2).1)
def sD(L:List bM):List BA:=(L.filter fun f=>nH f.1&& !decide ((lJ f.2).2.2=0)).map (·.1)
def iF(l:List (BA×Sr)):List mU:=l.flatMap fun x=>oD x.1 x.2.1 0 x.2.2.2
abbrev Wld:=List bM×Bool×Option (List (BA×Sr))×List BA×Option (List (K3×dQ))
def eZ(L:List bM):Wld:=
 if lK L=0 then(L,true,some ((eS L).foldl (fun S x=>mset S x.1 x.2) []),sD L,some ((iF (eS L)).foldl qJ [])) else(L,false,some [],[],some [])
theorem ZG(path pkg:BA):∀(l:List Dl) (i:Nat) (M:List (K3×dQ)),
  sY (fun i M (d:Dl)=>qJ M (pkg,d.2.1,d.1,path,(i:Int))) i M l=(oD path pkg i l).foldl qJ M
 |[],_,_=>rfl
 |d::l,i,M=>by simp only[sY,oD,kC];exact ZG path pkg l (i+1) _
theorem XG{N:Nat}(a:Int)(b c:BA):HS N a b c=some (nL a b c):=by
 unfold HS nL
 by_cases h:a=3
 .rw[if_pos (by simp[h]),if_pos h];rfl
 rw[if_neg (by simp[h]),if_neg h];rfl
theorem qNc{N:Nat}{x:bM}{y:Sr×Int×Int}(c:y.1.2.2.length<1000)(b:1000<N)(M:List (K3×dQ)):
  aK (CO N x y) N (0,some M)=some (some ((oD x.1 y.1.1 0 y.1.2.2).foldl qJ M)):=by
 have:=ZO (L:=y.1.2.2) (fun(M:List (K3×dQ)) i=>((i:Int),some M)) (f:=CO N x y)
  (fun i M (d:Dl)=>qJ M (y.1.1,d.2.1,d.1,x.1,(i:Int))) (fun M=>some M) (by
   intro M i hi
   simp only[CO]
   rw[if_pos ad,eR hi]
   simp only[j0,XG]
   have ew:IntKind.wrap .i64 ((i:Int)+1)=((i+1:Nat):Int):=by rw[bZ aa aa];omega
   simp only[ew]
   by_cases h:(bC (some M) (nL (y.1.2.2[i]).1 y.1.1 (y.1.2.2[i]).2.1)).isSome=true
   .rw[if_pos h]
    unfold qJ rP
    simp only[bC,eA,j0,kK] at h ⊢
    obtain⟨v,a⟩:=Option.isSome_iff_exists.1 h
    rw[a];rfl
   .rw[if_neg h]
    unfold qJ rP
    simp only[bC,eA,j0,kK] at h ⊢
    rw[show dP M (nL (y.1.2.2[i]).1 y.1.1 (y.1.2.2[i]).2.1)=none by simpa using h]) (by
   intro M
   simp only[CO]
   rw[if_neg ae]) y.1.2.2.length 0 N M aa aa
 rw[jS,ZG] at this
 exact this
theorem YN{ts:List cB}(h:OkT ts):∀(n:Nat) (l:List Dl) (i:Nat) {r:List Dl},l.length<=64->i<ts.length->tQ ts n l i= .inr r->r.length<=64
 |0,_,_,_,_,_,a=>by cases a
 |n+1,l,i,r,d,hi,a=>by
  unfold tQ at a
  split at a
  .cases a;exact d
  obtain⟨x,e,c⟩:=iP a
  obtain⟨-,b,f⟩:=NC h hi e
  exact YN h n _ _ ai b c
theorem MU{s:BA}:(lJ s).1.2.2.length<=64:=by
 unfold lJ
 by_cases h0:(lD s).2.2=0
 .rw[if_neg (not_not_intro h0)]
  obtain⟨d,u,x⟩:=MW h0
  have e:0<(lD s).1.length:=by
   cases h:(lD s).1 with
   |nil=>exact absurd h d.1
   |cons a l=>exact Nat.succ_pos _
  cases c:tS (lD s).1 with
  |inl z=>exact kG _
  |inr f=>
   simp only
   unfold tS at c
   obtain⟨i,o,c⟩:=iP c
   obtain⟨rfl,g,-⟩:=DA d e o
   obtain⟨a,p,c⟩:=iP c
   obtain⟨rfl,k,-⟩:=sS d g p
   obtain⟨j,q,c⟩:=iP c
   obtain⟨rfl,n,-⟩:=mC d k q
   obtain⟨b,r,c⟩:=iP c
   obtain⟨-,v,-⟩:=MM d _ _ _ b n ae r
   obtain⟨l,t,c⟩:=iP c
   have:=YN d _ _ _ ae v t
   cases c
   exact this
 rw[if_pos h0];exact kG _
def tU(t:List BA×List (BA×Sr)×List (K3×dQ))(f:bM):List BA×List (BA×Sr)×List (K3×dQ):=
 if nH f.1=false then t
 else if(lJ f.2).2.2=0 then(t.1,mset t.2.1 f.1 (lJ f.2).1,(oD f.1 (lJ f.2).1.1 0 (lJ f.2).1.2.2).foldl qJ t.2.2)
 else(t.1++[f.1],t.2)
theorem NE:∀(L:List bM) (B:List BA) (S:List (BA×Sr)) (M:List (K3×dQ)),
  L.foldl tU (B,S,M)=(B++sD L,(eS L).foldl (fun S x=>mset S x.1 x.2) S,(iF (eS L)).foldl qJ M)
 |[],B,S,M=>by simp[sD,eS,iF]
 |f::L,B,S,M=>by
  rw[kC]
  by_cases a:nH f.1=true
  .by_cases h2:(lJ f.2).2.2=0
   .have e:tU (B,S,M) f=(B,mset S f.1 (lJ f.2).1,(oD f.1 (lJ f.2).1.1 0 (lJ f.2).1.2.2).foldl qJ M):=by
     unfold tU;rw[if_neg (by simp[a]),if_pos h2]
    have el:eS (f::L)=(f.1,(lJ f.2).1)::eS L:=by
     unfold eS;rw[kU,if_pos (show oU f=true by simp[oU,a,h2])];rfl
    have eb:sD (f::L)=sD L:=by
     unfold sD;rw[kU,if_neg (by simp[h2])]
    rw[e,NE L,el,eb]
    simp only[kC,iF,kQ,gF]
   have e:tU (B,S,M) f=(B++[f.1],S,M):=by
    unfold tU;rw[if_neg (by simp[a]),if_neg h2]
   have el:eS (f::L)=eS L:=by
    unfold eS;rw[kU,if_neg (by simp[oU,h2])]
   have eb:sD (f::L)=f.1::sD L:=by
    unfold sD;rw[kU,if_pos (by simp[a,h2])];rfl
   rw[e,NE L,el,eb]
   simp
  have a:nH f.1=false:=by simpa using a
  have e:tU (B,S,M) f=(B,S,M):=by unfold tU;rw[if_pos a]
  have el:eS (f::L)=eS L:=by
   unfold eS;rw[kU,if_neg (by simp[oU,a])]
  have eb:sD (f::L)=sD L:=by
   unfold sD;rw[kU,if_neg (by simp[a])]
  rw[e,NE L,el,eb]
theorem qMv{N:Nat}{L:List bM}(d:xK N L)(g:L.length<=64)(c:1000001<N):
  aK (CN N L) N (0,[],some [],some [])=some (sD L,some ((eS L).foldl (fun S x=>mset S x.1 x.2) []),some ((iF (eS L)).foldl qJ [])):=by
 have h:=yX (L:=L) (fun(t:List BA×List (BA×Sr)×List (K3×dQ)) (i:Nat)=>((i:Int),t.1,some t.2.1,some t.2.2)) (f:=CN N L)
  (fun t f=> .inl (tU t f)) (fun t=>(t.1,some t.2.1,some t.2.2)) (fun i t=>t.1.length<=i) (by
   intro t i hi b
   simp only[CN]
   rw[if_pos ad,eR hi]
   have ew:IntKind.wrap .i64 ((i:Int)+1)=((i+1:Nat):Int):=by rw[bZ aa aa];omega
   have e:=qMa (N:=N) (d _ (jT hi))
   simp only[j0,e,qPu _ c,ew]
   unfold tU
   by_cases a:nH (L[i]).1=true
   .by_cases h2:(lJ (L[i]).2).2.2=0
    .rw[if_neg (by simp[a]),if_neg (by simp[h2]),if_neg (by simp[a]),if_pos h2,qNc (by have:=MU (s:=(L[i]).2);omega) aa]
     simp only[eA,kK,j0]
    rw[if_neg (by simp[a]),if_pos (by simpa using h2),if_neg (by simp[a]),if_neg h2,iS ag aa]
    simp only[j0]
   .have a:nH (L[i]).1=false:=by simpa using a
    rw[if_pos (by simp[a]),if_pos a]
    simp only[j0]) (by
   intro t i hi t' b h
   cases h
   unfold tU
   split
   .omega
   .split
    .exact Nat.le_succ_of_le b
    simp only[jF,jA,jB];omega) (by
   intro t b
   simp only[CN]
   rw[if_neg ae]) (M:=N) (t:=([],[],[])) aa (kG _)
 rw[show((0:Nat):Int)=0 from rfl] at h
 rw[h,zF tU (fun _ _=>rfl),NE]
 simp only[jW]
theorem qUk{N:Nat}{L:List bM}(a:xK N L)(b:1000001<N):HT N L=some (eZ L):=by
 simp only[HT,qQn a (show 100<N by omega),j0]
 unfold eZ
 by_cases hc:lK L=0
 .rw[if_neg (by simp[hc]),if_pos hc,qMv a (rI.1 hc).1 b]
  simp only[j0,hc];rfl
 rw[if_pos (by simpa using hc),if_neg hc]
 simp only[show(lK L==0)=false by simpa using hc]
def lG(kind:Int)(pkg name:BA)(e:dQ)(o:mU):dQ:=
 if rP o=nL kind pkg name then(if e.2.2.2.2.2=0 then(o.1,name,kind,o.2.2.2.1,o.2.2.2.2,1) else(e.1,e.2.1,e.2.2.1,e.2.2.2.1,e.2.2.2.2.1,e.2.2.2.2.2+1)) else e
def uE(kind:Int)(pkg name:BA):dQ:=(if kind=3 then eY else pkg,name,kind,eY,0,0)
def lW(O:List mU)(kind:Int)(pkg name:BA):dQ:=O.foldl (lG kind pkg name) (uE kind pkg name)
theorem zC{k k':Int}{p p' n n':BA}(h:nL k p n=nL k' p' n'):k=k'/\n=n'/\(k=3\/p=p'):=by
 simp only[nL,Prod.mk.injEq] at h
 obtain⟨rfl,a,b⟩:=h
 refine⟨rfl,b,?_⟩
 by_cases h:k=3
 .exact .inl h
 rw[if_neg h,if_neg h] at a;exact .inr a
def MapE(M:List (K3×dQ))(O:List mU):Prop:=
 (M.map (·.1)).Nodup/\∀kind pkg name,dP M (nL kind pkg name)=if(lW O kind pkg name).2.2.2.2.2=0 then none else some (lW O kind pkg name)
theorem RQ(kind:Int)(pkg name:BA):∀(O:List mU),0<=(lW O kind pkg name).2.2.2.2.2/\(lW O kind pkg name).2.2.2.2.2<=O.length/\((lW O kind pkg name).2.2.2.2.2=0->lW O kind pkg name=uE kind pkg name):=by
 suffices h:∀(O:List mU) (e:dQ) (b:Nat),0<=e.2.2.2.2.2/\e.2.2.2.2.2<=b/\(e.2.2.2.2.2=0->e=uE kind pkg name)->
   0<=(O.foldl (lG kind pkg name) e).2.2.2.2.2/\(O.foldl (lG kind pkg name) e).2.2.2.2.2<=(b+O.length:Nat)/\((O.foldl (lG kind pkg name) e).2.2.2.2.2=0->O.foldl (lG kind pkg name) e=uE kind pkg name) by
  intro O
  have:=h O (uE kind pkg name) 0 ⟨dD _,dD _,fun _=>rfl⟩
  rw[kW] at this
  exact this
 intro O
 induction O with
 |nil=>intro e b h;exact h
 |cons o O c=>
  intro e b h
  rw[kC]
  have:=c (lG kind pkg name e o) (b+1) (by
   unfold lG
   split
   .split
    .exact⟨(by show(0:Int)<=1;decide),by show(1:Int)<=_;omega,fun h=>by simp at h⟩
    rename_i hc
    refine⟨by show(0:Int)<=e.2.2.2.2.2+1;omega,by show e.2.2.2.2.2+1<=_;omega,fun a=> ?_⟩
    have a:e.2.2.2.2.2+1=0:=a
    omega
   exact⟨h.1,by omega,h.2.2⟩)
  rw[jA,show b+(O.length+1)=b+1+O.length by omega]
  exact this
theorem MapE.step{M:List (K3×dQ)}{O:List mU}(h:MapE M O)(f:O.length<1000000)(o:mU):MapE (qJ M o) (O++[o]):=by
 refine⟨RB h.1 _ _,fun kind pkg name=> ?_⟩
 have g:=RQ kind pkg name O
 have c:lW (O++[o]) kind pkg name=lG kind pkg name (lW O kind pkg name) o:=by
  unfold lW;rw[gF];rfl
 unfold qJ
 rw[RP h.1,c]
 by_cases hk:nL kind pkg name=rP o
 .rw[if_pos hk,<-hk,h.2 kind pkg name]
  unfold lG
  rw[if_pos hk.symm]
  obtain⟨a,b,d⟩:=zC hk
  by_cases hc:(lW O kind pkg name).2.2.2.2.2=0
  .rw[if_pos hc,if_pos hc,if_neg (show ¬(1:Int)=0 by decide),<-a,<-b]
  rw[if_neg hc,if_neg hc,if_neg (show ¬(lW O kind pkg name).2.2.2.2.2+1=0 by omega)]
  simp only[bZ (show-9223372036854775808<=(lW O kind pkg name).2.2.2.2.2+1 by omega) aa]
 have a:lG kind pkg name (lW O kind pkg name) o=lW O kind pkg name:=by unfold lG;rw[if_neg (fun e=>hk e.symm)]
 rw[if_neg hk,h.2 kind pkg name,a]
theorem MapE.fold{O:List mU}(a:O.length<1000000):MapE (O.foldl qJ []) O:=by
 suffices h:∀(K:List mU) (M:List (K3×dQ)) (J:List mU),J.length+K.length<1000000->MapE M J->MapE (K.foldl qJ M) (J++K) by
  have:=h O [] [] (by simpa using a) ⟨List.nodup_nil,fun kind pkg name=>by rw[show(lW [] kind pkg name).2.2.2.2.2=0 from rfl,if_pos rfl];rfl⟩
  exact this
 intro K
 induction K with
 |nil=>intro M J _ h;rw[gQ];exact h
 |cons o K c=>
  intro M J b h
  rw[kC,show J++o::K=(J++[o])++K by simp]
  simp only[jA] at b
  exact c _ _ ai (h.step aa o)
theorem qAb(path pkg:BA):∀(l:List Dl) (i:Nat),(oD path pkg i l).length=l.length
 |[],_=>rfl
 |_::l,i=>by simp only[oD,jA,qAb path pkg l]
theorem MY{L:List bM}{x:BA×Sr}(h:x∈eS L):∃f∈L,oU f=true/\x=(f.1,(lJ f.2).1):=by
 unfold eS at h
 obtain⟨f,a,rfl⟩:=fE.1 h
 exact⟨f,(gP.1 a).1,(gP.1 a).2,rfl⟩
theorem qAf(L:List bM):(eS L).length<=L.length:=by
 unfold eS;rw[gJ];exact fF _ _
theorem qBi:∀(l:List (BA×Sr)),(∀x∈l,x.2.2.2.length<=64)->(iF l).length<=64*l.length
 |[],_=>jP _
 |x::l,h=>by
  have:=qBi l fun y a=>h y (jO _ a)
  have:=h x (jL ..)
  unfold iF at*
  rw[kQ,jF,qAb,jA]
  omega
theorem qNq{L:List bM}(b:L.length<=64):(iF (eS L)).length<1000000:=by
 have:=qBi (eS L) fun x a=>by
  obtain⟨f,_,_,rfl⟩:=MY a
  exact MU
 have:=qAf L
 omega
def qL:dQ:=(eY,eY,0,eY,0,0)
def cG(L:List bM)(kind:Int)(pkg name:BA):dQ:=if lK L=0 then lW (iF (eS L)) kind pkg name else qL
theorem NO{N:Nat}{L:List bM}(kind:Int)(pkg name:BA):vQ N (eZ L) kind pkg name=some (cG L kind pkg name):=by
 unfold vQ eZ cG
 by_cases hc:lK L=0
 .simp only[if_pos hc]
  rw[if_neg ae]
  simp only[XG,j0]
  have b:=(MapE.fold (qNq (rI.1 hc).1)).2 kind pkg name
  have c:=RQ kind pkg name (iF (eS L))
  generalize a:bC (some ((iF (eS L)).foldl qJ [])) (nL kind pkg name)=q
  have a:q=if(lW (iF (eS L)) kind pkg name).2.2.2.2.2=0 then none else some (lW (iF (eS L)) kind pkg name):=a.symm.trans b
  by_cases h0:(lW (iF (eS L)) kind pkg name).2.2.2.2.2=0
  .rw[if_pos h0] at a
   subst a
   rw[if_neg ae,c.2.2 h0];rfl
  rw[if_neg h0] at a
  subst a
  rw[if_pos (show(some (lW (iF (eS L)) kind pkg name)).isSome=true from rfl)];rfl
 simp only[if_neg hc]
 rw[if_pos (show(!false)=true from rfl)];rfl
theorem RE{α τ σ β:Type}{L:List α}(enc:τ->Nat->σ){f:σ->Option (σ⊕β)}(g:Nat->τ->α->τ)(fin:τ->β)(I:Nat->τ->Prop)
  (a:∀t i,∀hi:i<L.length,I i t->f (enc t i)=some (.inl (enc (g i t L[i]) (i+1)))/\I (i+1) (g i t L[i]))
  (b:∀t,I L.length t->f (enc t L.length)=some (.inr (fin t))):∀(d i M:Nat) (t:τ),i+d=L.length->d<M->I i t->aK f M (enc t i)=some (fin (sY g i t (L.drop i)))/\I L.length (sY g i t (L.drop i))
 |_,_,0,_,_,h,_=>absurd h (gG _)
 |0,i,M+1,t,e,k,c=>by
  have hi:i=L.length:=by omega
  subst hi
  simp only[aK,b t c,j0,fY,sY]
  exact⟨trivial,c⟩
 |d+1,i,M+1,t,e,k,c=>by
  have hi:i<L.length:=by omega
  obtain⟨l,n⟩:=a t i hi c
  simp only[aK,l,j0]
  rw[HN hi]
  exact RE enc g fin I a b d (i+1) M _ aa aa n
def JA(L:List bM)(p:BA):Sr×Bool:=match(if lK L=0 then iD L p else none) with
 |some b=>if nH p then((lJ b).1,decide ((lJ b).2.2=0)) else(sL,false)
 |none=>(sL,false)
theorem qKt{N:Nat}{L:List bM}{p:BA}(a:1000005<N):LQ N L p=some (JA L p):=by
 simp only[LQ,qMh p (show 100<N by omega),j0,qJt (show 100<N by omega),qLh _ a]
 unfold JA UX
 by_cases hc:lK L=0
 .rw[if_pos hc,if_pos hc]
  cases hg:iD L p with
  |none=>rfl
  |some b=>
   simp only[DX]
   by_cases hs:nH p=true
   .rw[if_pos hs,hs]
    simp only[kI,j9,jC,j0]
    congr 2
   have hs':nH p=false:=by simpa using hs
   rw[if_neg hs,hs']
   rfl
 rw[if_neg hc,if_neg hc];rfl
theorem qQq{L:List bM}(a:lK L=0){f:bM}(b:f∈L):(JA L f.1).2=oU f/\(oU f=true->(JA L f.1).1=(lJ f.2).1):=by
 unfold JA
 rw[if_pos a,QY (rI.1 a).2.1 b]
 simp only[oU]
 by_cases hs:nH f.1=true
 .rw[if_pos hs,hs];exact⟨by simp,fun _=>rfl⟩
 rw[if_neg hs]
 have hs':nH f.1=false:=by simpa using hs
 rw[hs'];exact⟨rfl,fun h=>by simp at h⟩
def wL(t:List BA×List Sr)(f:bM):List BA×List Sr:=if oU f then(t.1++[f.1],t.2++[(lJ f.2).1]) else t
theorem RJ:∀(L:List bM) (P:List BA) (S:List Sr),L.foldl wL (P,S)=(P++(eS L).map (·.1),S++(eS L).map (·.2))
 |[],P,S=>by simp[eS]
 |f::L,P,S=>by
  rw[kC]
  by_cases h:oU f=true
  .have el:eS (f::L)=(f.1,(lJ f.2).1)::eS L:=by unfold eS;rw[kU,if_pos h];rfl
   rw[show wL (P,S) f=(P++[f.1],S++[(lJ f.2).1]) by unfold wL;rw[if_pos h],RJ L,el]
   simp
  have el:eS (f::L)=eS L:=by unfold eS;rw[kU,if_neg h]
  rw[show wL (P,S) f=(P,S) by unfold wL;rw[if_neg h],RJ L,el]
def xT(L:List bM):List (BA×Sr):=if lK L=0 then eS L else[]
theorem qMc{N:Nat}{L:List bM}(c:1000005<N):LZ N L=some ((xT L).map (·.1),(xT L).map (·.2)):=by
 simp only[LZ,MS (show 100<N by omega),j0]
 unfold xT
 by_cases hc:lK L=0
 .rw[if_neg (by simp[hc]),if_pos hc]
  have d:=(rI.1 hc).1
  have h:=yX (L:=L) (fun(t:List BA×List Sr) (i:Nat)=>((i:Int),t.1,t.2)) (f:=GD N L)
   (fun t f=> .inl (wL t f)) (fun t=>(t.1,t.2)) (fun i t=>t.1.length<=i/\t.2.length<=i) (by
    intro t i hi a
    simp only[GD]
    rw[if_pos ad,eR hi]
    have ew:IntKind.wrap .i64 ((i:Int)+1)=((i+1:Nat):Int):=by rw[bZ aa aa];omega
    have b:=qQq hc (jT hi)
    simp only[j0,qKt c,ew,b.1]
    unfold wL
    by_cases h1:oU L[i]=true
    .rw[if_pos h1,if_pos h1,iS ag aa]
     simp only[j0]
     rw[iS ag aa]
     simp only[j0,b.2 h1]
    .rw[if_neg h1,if_neg h1];rfl) (by
    intro t i hi t' a h
    cases h
    unfold wL
    split
    .simp only[jF,jA,jB];omega
    .omega) (by
    intro t a
    simp only[GD]
    rw[if_neg ae]) (M:=N) (t:=([],[])) aa ⟨kG _,kG _⟩
  rw[show((0:Nat):Int)=0 from rfl] at h
  rw[h,zF wL (fun _ _=>rfl),RJ]
  simp only[jW,j0]
 rw[if_pos (by simpa using hc),if_neg hc];rfl
theorem YW(kind:Int)(pkg name path p:BA):∀(l:List Dl) (i:Nat) (e:dQ),
  sY (fun i e (d:Dl)=>lG kind pkg name e (p,d.2.1,d.1,path,(i:Int))) i e l=(oD path p i l).foldl (lG kind pkg name) e
 |[],_,_=>rfl
 |d::l,i,e=>by simp only[sY,oD,kC];exact YW kind pkg name path p l (i+1) _
theorem qFi{kind:Int}{pkg name path p:BA}(b:kind≠3)(c:p≠pkg):∀(l:List Dl) (i:Nat) (e:dQ),(oD path p i l).foldl (lG kind pkg name) e=e
 |[],_,_=>rfl
 |d::l,i,e=>by
  have:lG kind pkg name e (p,d.2.1,d.1,path,(i:Int))=e:=by
   unfold lG
   rw[if_neg]
   intro h
   obtain⟨f,g,a⟩:=zC h
   rcases a with a|a
   .exact b (by rw[<-f];exact a)
   exact c a
  simp only[oD,kC,this]
  exact qFi b c l (i+1) e
def EntI(kind:Int)(name:BA)(b:Nat)(e:dQ):Prop:=e.2.1=name/\e.2.2.1=kind/\0<=e.2.2.2.2.2/\e.2.2.2.2.2<=(b:Int)
theorem EntI.see{kind:Int}{pkg name:BA}{b:Nat}{e:dQ}(h:EntI kind name b e)(o:mU):EntI kind name (b+1) (lG kind pkg name e o):=by
 obtain⟨a,c,d,f⟩:=h
 unfold lG
 split
 .split
  .exact⟨rfl,rfl,(by show(0:Int)<=1;decide),(by show(1:Int)<=_;omega)⟩
  exact⟨a,c,(by show(0:Int)<=e.2.2.2.2.2+1;omega),(by show e.2.2.2.2.2+1<=_;omega)⟩
 exact⟨a,c,d,by omega⟩
theorem qLd{N:Nat}{P:List BA×List Sr}{kind:Int}{pkg name path:BA}{s1:Int×BA×BA×Int×Int}{x:Sr}(s:bS P.1 s1.1=some path)(q:kind=3\/x.1=pkg)
  (v:x.2.2.length<=64) (t:1000<N) {b:Nat} (u:b<1000000) {e:dQ} (c:EntI kind name b e):
  aK (BK N P kind name s1 x) N (0,e.1,e.2.2.2.1,e.2.2.2.2.1,e.2.2.2.2.2)=some (((oD path x.1 0 x.2.2).foldl (lG kind pkg name) e).1,((oD path x.1 0 x.2.2).foldl (lG kind pkg name) e).2.2.2.1,((oD path x.1 0 x.2.2).foldl (lG kind pkg name) e).2.2.2.2.1,((oD path x.1 0 x.2.2).foldl (lG kind pkg name) e).2.2.2.2.2)
  /\EntI kind name (b+64) ((oD path x.1 0 x.2.2).foldl (lG kind pkg name) e):=by
 have:=RE (L:=x.2.2) (fun(e:dQ) (i:Nat)=>((i:Int),e.1,e.2.2.2.1,e.2.2.2.2.1,e.2.2.2.2.2)) (f:=BK N P kind name s1 x)
  (fun i e (d:Dl)=>lG kind pkg name e (x.1,d.2.1,d.1,path,(i:Int))) (fun e=>(e.1,e.2.2.2.1,e.2.2.2.2.1,e.2.2.2.2.2)) (fun i e=>EntI kind name (b+i) e) (by
   intro e i hi c
   refine⟨?_,c.see _⟩
   obtain⟨n,o,p,r⟩:=c
   simp only[BK]
   rw[if_pos ad,eR hi]
   have ew:IntKind.wrap .i64 ((i:Int)+1)=((i+1:Nat):Int):=by rw[bZ aa aa];omega
   have ec:IntKind.wrap .i64 (e.2.2.2.2.2+1)=e.2.2.2.2.2+1:=bZ aa aa
   simp only[j0,ew,ec,oY,s]
   have a:rP (x.1,(x.2.2[i]).2.1,(x.2.2[i]).1,path,(i:Int))=nL kind pkg name↔(x.2.2[i]).1=kind/\(x.2.2[i]).2.1=name:=by
    constructor
    .intro h;obtain⟨g,k,-⟩:=zC h;exact⟨g,k⟩
    rintro⟨g,k⟩
    unfold rP nL
    simp only[g,k]
    rcases q with rfl|rfl
    .rfl
    rfl
   unfold lG
   by_cases k:(x.2.2[i]).1=kind
   .rw[if_pos (show((x.2.2[i]).1==kind)=true by simp[k])]
    simp only[j0,j6]
    by_cases l:(x.2.2[i]).2.1=name
    .rw[if_pos l,if_pos (a.2 ⟨k,l⟩)]
     by_cases g:e.2.2.2.2.2=0
     .rw[if_pos (by simp[g]),if_pos g,g];rfl
     rw[if_neg (show ¬(e.2.2.2.2.2+1==1)=true by rw[kF];omega),if_neg g];rfl
    rw[if_neg l,if_neg (fun h=>l (a.1 h).2)];rfl
   .rw[if_neg (show ¬((x.2.2[i]).1==kind)=true by simp[k])]
    simp only[j0,j9,jC]
    rw[if_neg (fun h=>k (a.1 h).1)]) (by
   intro e _
   simp only[BK]
   rw[if_neg ae]) x.2.2.length 0 N e aa aa c
 rw[jS,YW] at this
 refine⟨this.1,?_⟩
 obtain⟨n,o,p,r⟩:=this.2
 exact⟨n,o,p,by omega⟩
theorem YE(kind:Int)(pkg name:BA):∀(l:List (BA×Sr)) (i:Nat) (e:dQ),
  sY (fun _ e (x:BA×Sr)=>(oD x.1 x.2.1 0 x.2.2.2).foldl (lG kind pkg name) e) i e l=(iF l).foldl (lG kind pkg name) e
 |[],_,_=>rfl
 |x::l,i,e=>by
  simp only[sY,iF,kQ,gF]
  exact YE kind pkg name l (i+1) _
theorem qNn{N:Nat}{l:List (BA×Sr)}(kind:Int)(pkg name:BA)(t:l.length<=64)(s:∀x∈l,x.2.2.2.length<=64)(r:1000<N):
  LR N (l.map (·.1),l.map (·.2)) kind pkg name=some (lW (iF l) kind pkg name):=by
 unfold LR
 have h:=RE (L:=l) (fun(e:dQ) (i:Nat)=>((i:Int),e.1,e.2.2.2.1,e.2.2.2.2.1,e.2.2.2.2.2)) (f:=BL N (l.map (·.1),l.map (·.2)) kind pkg name)
  (fun _ e (x:BA×Sr)=>(oD x.1 x.2.1 0 x.2.2.2).foldl (lG kind pkg name) e) (fun e=>(e.1,e.2.2.2.1,e.2.2.2.2.1,e.2.2.2.2.2)) (fun i e=>EntI kind name (64*i) e) (by
   intro e i hi k
   have n:i<(l.map (·.1)).length:=by simpa using hi
   have o:i<(l.map (·.2)).length:=by simpa using hi
   have ew:IntKind.wrap .i64 ((i:Int)+1)=((i+1:Nat):Int):=by rw[bZ aa aa];omega
   have ex:bS (l.map (·.1)) (i:Int)=some (l[i]).1:=by rw[eR n];simp
   simp only[BL]
   rw[if_pos ad,eR o]
   simp only[j0,ew,dF,oY]
   by_cases hs:kind≠3/\(l[i]).2.1≠pkg
   .rw[if_pos (show(kind !=3)=true by simp[hs.1])]
    simp only[j0]
    rw[if_pos (by simp[hs.2]),qFi hs.1 hs.2]
    refine⟨rfl,?_⟩
    obtain⟨g,c,a,d⟩:=k
    exact⟨g,c,a,by omega⟩
   .have d:kind=3\/(l[i]).2.1=pkg:=by
     by_cases h:kind=3
     .exact .inl h
     exact .inr (Decidable.byContradiction fun c=>hs ⟨h,c⟩)
    have a:=qLd (N:=N) (P:=(l.map (·.1),l.map (·.2))) (s1:=((i:Int),e.1,e.2.2.2.1,e.2.2.2.2.1,e.2.2.2.2.2)) (x:=(l[i]).2) (path:=(l[i]).1) (pkg:=pkg) ex d (s _ (jT hi)) r (b:=64*i) aa k
    have q:(if(kind !=3)then some (!decide ((l[i]).2.1=pkg)) else some false:Option Bool)=some false:=by
     rcases d with h|h
     .rw[if_neg (by simp[h])]
     by_cases p:kind=3
     .rw[if_neg (by simp[p])]
     rw[if_pos (by simp[p]),jM h];rfl
    rw[q]
    simp only[j0,j9,jC,a.1]
    refine⟨trivial,?_⟩
    rw[show 64*(i+1)=64*i+64 by omega]
    exact a.2) (by
   intro e _
   simp only[BL]
   rw[if_neg ae]) l.length 0 N (uE kind pkg name) aa aa ⟨rfl,rfl,dD _,dD _⟩
 rw[jS,YE] at h
 have a:(if(kind==3)then some (⟨#[]⟩:BA) else some pkg)=some (uE kind pkg name).1:=by
  unfold uE
  by_cases h:kind=3
  .rw[if_pos (by simp[h]),if_pos h];rfl
  rw[if_neg (by simp[h]),if_neg h]
 rw[a]
 simp only[j0]
 refine Eq.trans (congrArg (fun z=>Option.bind z _) (show aK (BL N (l.map (·.1),l.map (·.2)) kind pkg name) N (0,(uE kind pkg name).1,(⟨#[]⟩:BA),0,0)=_ from h.1)) ?_
 have g:=h.2.1
 have c:=h.2.2.1
 unfold lW
 simp only[j0]
 exact congrArg some (Prod.ext rfl (Prod.ext g.symm (Prod.ext c.symm rfl)))
theorem qQl(L:List bM):(xT L).length<=64/\∀x∈xT L,x.2.2.2.length<=64:=by
 unfold xT
 by_cases hc:lK L=0
 .rw[if_pos hc]
  refine⟨kX (qAf L) (rI.1 hc).1,fun x a=> ?_⟩
  obtain⟨f,_,_,rfl⟩:=MY a
  exact MU
 rw[if_neg hc];exact⟨kG _,fun x a=>by cases a⟩
def mZ(E:BA->dQ)(name:BA):List BA->List K3->dQ×List K3×Int
 |[],acc=>(qL,acc,11)
 |p::l,acc=>
  if(E p).2.2.2.2.2=0 then mZ E name l (acc++[(1,p,name)])
  else if 1<(E p).2.2.2.2.2 then(qL,acc++[(1,p,name)],12)
  else(E p,acc++[(1,p,name)],0)
theorem CT(L:List bM)(kind:Int)(pkg name:BA):0<=(cG L kind pkg name).2.2.2.2.2:=by
 unfold cG
 split
 .exact(RQ kind pkg name _).1
 exact dD _
def nB(E:BA->dQ)(name:BA)(x:dQ)(acc:List K3):List BA->dQ×List K3×Nat
 |[]=>(x,acc,0)
 |p::l=>if(E p).2.2.2.2.2>0 then(E p,acc++[(1,p,name)],1) else nB E name (E p) (acc++[(1,p,name)]) l
def EK(r:dQ×List K3×Nat):dQ×List K3×Int:=
 if r.1.2.2.2.2.2=0 then(qL,r.2.1,11) else if 1<r.1.2.2.2.2.2 then(qL,r.2.1,12) else(r.1,r.2.1,0)
theorem qCl{E:BA->dQ}(a:∀p,0<=(E p).2.2.2.2.2)(name:BA):∀(l:List BA) (x:dQ) (acc:List K3),x.2.2.2.2.2=0->EK (nB E name x acc l)=mZ E name l acc
 |[],x,acc,b=>by unfold nB EK mZ;rw[if_pos b]
 |p::l,x,acc,b=>by
  unfold nB mZ
  have h:=a p
  by_cases h0:(E p).2.2.2.2.2=0
  .rw[if_neg aa,if_pos h0];exact qCl a name l _ _ h0
  rw[if_pos aa,if_neg h0]
  unfold EK
  simp only
  rw[if_neg h0]
theorem qAe{E:BA->dQ}(name:BA):∀(l:List BA) (x:dQ) (acc:List K3),(nB E name x acc l).2.2=0\/(nB E name x acc l).2.2=1
 |[],x,acc=> .inl rfl
 |p::l,x,acc=>by
  unfold nB
  split
  .exact .inr rfl
  exact qAe name l _ _
theorem ZD{N:Nat}{L:List bM}{f:Sr}{name:BA}(e:f.2.1.length<1000):∀(d i M:Nat) (x:dQ) (acc:List K3),i+d=f.2.1.length->d<M->acc.length<=i+1->
  aK (GV N (eZ L) f name) M ((i:Int),x.1,x.2.1,x.2.2.1,x.2.2.2.1,x.2.2.2.2.1,x.2.2.2.2.2,acc)=
  some (match(nB (fun p=>cG L 1 p name) name x acc (f.2.1.drop i)).2.2 with
   |0=> .inl ((nB (fun p=>cG L 1 p name) name x acc (f.2.1.drop i)).1.1,(nB (fun p=>cG L 1 p name) name x acc (f.2.1.drop i)).1.2.1,(nB (fun p=>cG L 1 p name) name x acc (f.2.1.drop i)).1.2.2.1,(nB (fun p=>cG L 1 p name) name x acc (f.2.1.drop i)).1.2.2.2.1,(nB (fun p=>cG L 1 p name) name x acc (f.2.1.drop i)).1.2.2.2.2.1,(nB (fun p=>cG L 1 p name) name x acc (f.2.1.drop i)).1.2.2.2.2.2,(nB (fun p=>cG L 1 p name) name x acc (f.2.1.drop i)).2.1)
   |n+1=> .inr ((nB (fun p=>cG L 1 p name) name x acc (f.2.1.drop i)).1.1,(nB (fun p=>cG L 1 p name) name x acc (f.2.1.drop i)).1.2.1,(nB (fun p=>cG L 1 p name) name x acc (f.2.1.drop i)).1.2.2.1,(nB (fun p=>cG L 1 p name) name x acc (f.2.1.drop i)).1.2.2.2.1,(nB (fun p=>cG L 1 p name) name x acc (f.2.1.drop i)).1.2.2.2.2.1,(nB (fun p=>cG L 1 p name) name x acc (f.2.1.drop i)).1.2.2.2.2.2,(nB (fun p=>cG L 1 p name) name x acc (f.2.1.drop i)).2.1,n+1))
 |_,_,0,_,_,_,h,_=>absurd h (gG _)
 |0,i,M+1,x,acc,a,b,c=>by
  simp only[aK,GV]
  rw[if_neg ad,jQ aa]
  rfl
 |d+1,i,M+1,x,acc,a,b,c=>by
  have hi:i<f.2.1.length:=by omega
  simp only[aK,GV]
  rw[if_pos ad,eR hi,HN hi]
  have ew:IntKind.wrap .i64 ((i:Int)+1)=((i+1:Nat):Int):=by rw[bZ aa aa];omega
  simp only[j0,ew]
  rw[iS ag aa]
  simp only[j0]
  have eW:∀w:Wld,(w.1,w.2.1,w.2.2.1,w.2.2.2.1,w.2.2.2.2)=w:=fun _=>rfl
  simp only[eW,NO,j0,nB]
  by_cases h:(cG L 1 (f.2.1[i]) name).2.2.2.2.2>0
  .rw[if_pos (jM h),if_pos h]
   rfl
  rw[if_neg (by simpa using h),if_neg h]
  simp only[j0]
  exact ZD e d (i+1) M _ _ aa aa ai
theorem qOb{N:Nat}{L:List bM}{f:Sr}{name:BA}(e:f.2.1.length<1000)(g:1000<N):CJ N (eZ L) f name=some (mZ (fun p=>cG L 1 p name) name (f.1::f.2.1) []):=by
 rw[<-qCl (fun p=>CT L 1 p name) name (f.1::f.2.1) qL [] rfl]
 unfold CJ
 rw[iS ag aa]
 have eW:∀w:Wld,(w.1,w.2.1,w.2.2.1,w.2.2.2.1,w.2.2.2.2)=w:=fun _=>rfl
 simp only[j0,eW,NO,nB,jW]
 have fin:∀(r:dQ×List K3×Nat),(r.2.2=0\/r.2.2=1)->
   (if r.2.2=0 then(if(r.1.2.2.2.2.2==0)then some (((⟨#[]⟩:BA),(⟨#[]⟩:BA),(0:Int),(⟨#[]⟩:BA),(0:Int),(0:Int)),r.2.1,(11:Int)) else(if(decide (r.1.2.2.2.2.2>1))then some (((⟨#[]⟩:BA),(⟨#[]⟩:BA),(0:Int),(⟨#[]⟩:BA),(0:Int),(0:Int)),r.2.1,(12:Int)) else some (r.1,r.2.1,(0:Int))))
    else(if r.2.2=1 then(if(r.1.2.2.2.2.2==0)then some (((⟨#[]⟩:BA),(⟨#[]⟩:BA),(0:Int),(⟨#[]⟩:BA),(0:Int),(0:Int)),r.2.1,(11:Int)) else(if(decide (r.1.2.2.2.2.2>1))then some (((⟨#[]⟩:BA),(⟨#[]⟩:BA),(0:Int),(⟨#[]⟩:BA),(0:Int),(0:Int)),r.2.1,(12:Int)) else some (r.1,r.2.1,(0:Int)))) else none))=some (EK r):=by
  intro r a
  have key:(if(r.1.2.2.2.2.2==0)then some (((⟨#[]⟩:BA),(⟨#[]⟩:BA),(0:Int),(⟨#[]⟩:BA),(0:Int),(0:Int)),r.2.1,(11:Int)) else(if(decide (r.1.2.2.2.2.2>1))then some (((⟨#[]⟩:BA),(⟨#[]⟩:BA),(0:Int),(⟨#[]⟩:BA),(0:Int),(0:Int)),r.2.1,(12:Int)) else some (r.1,r.2.1,(0:Int))))=some (EK r):=by
   unfold EK
   by_cases h0:r.1.2.2.2.2.2=0
   .rw[if_pos (by simp[h0]),if_pos h0];rfl
   rw[if_neg (by simp[h0]),if_neg h0]
   by_cases h1:1<r.1.2.2.2.2.2
   .rw[if_pos (jM h1),if_pos h1];rfl
   rw[if_neg (by simpa using h1),if_neg h1]
  rcases a with a|a
  .rw[if_pos a];exact key
  rw[if_neg aa,if_pos a];exact key
 by_cases h:(cG L 1 f.1 name).2.2.2.2.2>0
 .rw[if_pos (jM h),if_pos h]
  exact fin (cG L 1 f.1 name,[(1,f.1,name)],1) (.inr rfl)
 rw[if_neg (by simpa using h),if_neg h]
 have c:=ZD (N:=N) (L:=L) (f:=f) (name:=name) e f.2.1.length 0 N (cG L 1 f.1 name) [(1,f.1,name)] aa aa ae
 rw[show((0:Nat):Int)=0 from rfl,jS] at c
 rw[c]
 have a:=qAe (E:=fun p=>cG L 1 p name) name f.2.1 (cG L 1 f.1 name) [(1,f.1,name)]
 have b:=fin _ a
 revert b
 generalize nB (fun p=>cG L 1 p name) name (cG L 1 f.1 name) [(1,f.1,name)] f.2.1=r at a ⊢
 obtain⟨k,l,d⟩:=r
 intro b
 rcases a with a|a
 .have a:d=0:=a
  subst a
  exact b
 have a:d=1:=a
 subst a
 exact b
theorem ZM{N:Nat}{w:Wld}{p:BA}(e:w.1.length<1000000):∀(d i M:Nat),i+d=w.1.length->d<M->aK (GQ N w p) M (i:Int)=some (match iD (w.1.drop i) p with|some b=> .inr (b,true)|none=> .inl ())
 |_,_,0,_,h=>by omega
 |0,i,M+1,c,_=>by
  simp only[aK,GQ]
  rw[if_neg ad,jQ aa]
  rfl
 |d+1,i,M+1,c,f=>by
  have hi:i<w.1.length:=by omega
  simp only[aK,GQ]
  rw[if_pos ad,eR hi,jH hi]
  simp only[j0,oY,j6,iD]
  by_cases he:(w.1[i]).1=p
  .rw[if_pos he,if_pos he];rfl
  rw[if_neg he,if_neg he,bZ aa aa]
  have a:(i:Int)+1=((i+1:Nat):Int):=by omega
  simp only[j0]
  rw[a,ZM e d (i+1) M aa aa]
theorem qBx{N:Nat}{L:List bM}(p:BA)(b:L.length<=64)(a:100<N):uI N (eZ L) p=some (DX (iD L p)):=by
 have e:(eZ L).1=L:=by unfold eZ;split<;>rfl
 have:=ZM (N:=N) (w:=eZ L) (p:=p) (by rw[e];omega) (eZ L).1.length 0 N aa (by rw[e];omega)
 rw[show((0:Nat):Int)=0 from rfl,jS,e] at this
 simp only[uI,this,j0]
 cases iD L p<;>rfl
end
section
open Go Go.Dc
def Ok{α:Type}(x:Option α)(Q:α->Prop):Prop:=∃a,x=some a/\Q a
section
variable {α β γ:Type} {Q:β->Prop}
theorem Ok.mk{a:β}(h:Q a):Ok (some a) Q:=⟨a,rfl,h⟩
theorem Ok.bind{x:Option α}{P:α->Prop}{f:α->Option β}(h:Ok x P)(k:∀a,P a->Ok (f a) Q):Ok (x.bind f) Q:=by
 obtain⟨a,rfl,b⟩:=h
 exact k a b
theorem Ok.mono{x:Option β}{P:β->Prop}(h:Ok x P)(k:∀a,P a->Q a):Ok x Q:=by
 obtain⟨a,e,b⟩:=h
 exact⟨a,e,k a b⟩
theorem Ok.assoc{x:Option α}{g:α->Option γ}{f:γ->Option β}(h:Ok (x.bind fun a=>(g a).bind f) Q):Ok ((x.bind g).bind f) Q:=by
 rw[gW];exact h
theorem Ok.ite{c:Prop}[Decidable c]{x y:Option β}(a:c->Ok x Q)(b:¬c->Ok y Q):Ok (if c then x else y) Q:=by
 by_cases h:c
 .rw[if_pos h];exact a h
 rw[if_neg h];exact b h
theorem Ok.iteb{c:Prop}[Decidable c]{x y:Option α}{f:α->Option β}(a:c->Ok (x.bind f) Q)(b:¬c->Ok (y.bind f) Q):Ok ((if c then x else y).bind f) Q:=by
 by_cases h:c
 .rw[if_pos h];exact a h
 rw[if_neg h];exact b h
theorem Ok.tt[Decidable (true=true)]{x y:Option β}(h:Ok x Q):Ok (if true then x else y) Q:=by rw[if_pos rfl];exact h
theorem Ok.ff[Decidable (false=true)]{x y:Option β}(h:Ok y Q):Ok (if false then x else y) Q:=by rw[if_neg gK];exact h
theorem Ok.ttb[Decidable (true=true)]{x y:Option α}{f:α->Option β}(h:Ok (x.bind f) Q):Ok ((if true then x else y).bind f) Q:=by rw[if_pos rfl];exact h
theorem Ok.ffb[Decidable (false=true)]{x y:Option α}{f:α->Option β}(h:Ok (y.bind f) Q):Ok ((if false then x else y).bind f) Q:=by rw[if_neg gK];exact h
theorem Ok.someb{a:α}{f:α->Option β}(h:Ok (f a) Q):Ok ((some a).bind f) Q:=h
theorem Ok.mapb{a:α}{g:α->γ}{f:γ->Option β}(h:Ok (f (g a)) Q):Ok (((some a).map g).bind f) Q:=h
theorem Ok.app{b:Nat}{l k:List α}{f:List α->Option β}(c:(l.length+k.length)*b<=140737488355328)(a:0<b)(h:Ok (f (l++k)) Q):Ok ((eM b l k).bind f) Q:=by
 rw[iS c a];exact h
theorem Ok.loop{σ:Type}{f:σ->Option (σ⊕α)}{g:α->Option β}{s:σ}{N:Nat}(I:σ->Prop)(μ:σ->Nat)(R:α->Prop)
  (h:∀s,I s->Ok (f s) fun r=>match r with| .inl s'=>I s'/\μ s'<μ s| .inr b=>R b) (d:I s) (e:μ s<N) (k:∀b,R b->Ok (g b) Q):Ok ((aK f N s).bind g) Q:=by
 obtain⟨b,c,a⟩:=TJ I μ R (fun s d=>by
  obtain⟨r,c,a⟩:=h s d
  cases r with
  |inl s'=>exact .inr ⟨s',c,a.1,a.2⟩
  |inr b=>exact .inl ⟨b,c,a⟩) N s d e
 rw[c];exact k b a
end
theorem qFk(a:Array UInt8):(⟨a⟩:BA).size=a.size:=rfl
theorem qPh{N:Nat}{v n:Int}(d:n<=9223372036854775807):∃r,ME N v n=some r/\0<=r/\(1<=n->r<n):=by
 simp only[ME]
 by_cases h:n<=1
 .exact⟨0,by simp[h],by omega,by omega⟩
 have a:n≠0:=by omega
 have b:=Int.tmod_lt_of_pos v (show 0<n by omega)
 have c:=Int.lt_tmod_of_pos v (show 0<n by omega)
 simp only[h,decide_false,j9,jC,yB,a,j0]
 by_cases h3:Int.tmod v n<0
 .refine⟨Int.tmod v n+n,?_,by omega,by omega⟩
  simp only[h3,decide_true,jE,j0]
  rw[bZ aa aa]
 exact⟨Int.tmod v n,by simp only[h3,decide_false,j9,jC,j0],by omega,by omega⟩
theorem HZ{N:Nat}{l:List Int}{a n:Int}(c:0<=a)(o:a<4611686018427387904)(f:n<=9223372036854775807):∃r,oP N (l,a) n=some ((l,a+1),r)/\0<=r/\(1<=n->r<n):=by
 simp only[oP]
 have b:∃v,(if(decide (a<(List.length l:Int)))then((bS l a).bind fun k=>some k) else(some (Int.tmod (IntKind.wrap .i64 (a*7)) 11)):Option Int)=some v:=by
  by_cases h:a<(l.length:Int)
  .exact⟨_,by simp only[h,decide_true,jE];rw[TE c aa];rfl⟩
  exact⟨_,by simp only[h,decide_false,j9,jC];rfl⟩
 obtain⟨v,b⟩:=b
 obtain⟨r,g,d,e⟩:=qPh (N:=N) (v:=v) f
 exact⟨r,by simp only[b,j0,g];rw[bZ aa aa],d,e⟩
section
variable {β:Type} {Q:β->Prop} {N:Nat} {l:List Int} {a:Int}
theorem Ok.next{n:Int}{f:(List Int×Int)×Int->Option β}(d:0<=a)(e:a<4611686018427387904)(g:1<=n)(o:n<=1000000)(h:∀r,0<=r->r<n->Ok (f ((l,a+1),r)) Q):Ok ((oP N (l,a) n).bind f) Q:=by
 obtain⟨r,k,b,c⟩:=HZ (N:=N) (l:=l) d e (show n<=9223372036854775807 by omega)
 rw[k];exact h r b (c g)
theorem Ok.chance{n m:Int}{f:(List Int×Int)×Bool->Option β}(b:0<=a)(c:a<4611686018427387904)(o:1<=m)(e:m<=1000000)(h:∀r,Ok (f ((l,a+1),r)) Q):Ok ((rF N (l,a) n m).bind f) Q:=by
 obtain⟨r,d,g,k⟩:=HZ (N:=N) (l:=l) b c (show m<=9223372036854775807 by omega)
 simp only[rF,d,j0]
 exact h _
theorem Ok.one{L:List BA}{f:(List Int×Int)×BA->Option β}(e:0<=a)(g:a<4611686018427387904)(o:0<L.length)(n:L.length<1000)(h:∀x∈L,Ok (f ((l,a+1),x)) Q):Ok ((mY N (l,a) L).bind f) Q:=by
 obtain⟨r,k,d,c⟩:=HZ (N:=N) (l:=l) e g (show(L.length:Int)<=9223372036854775807 by omega)
 have c:=c aa
 have b:r.toNat<L.length:=by omega
 simp only[mY]
 rw[if_neg (by rw[kF];omega),k]
 simp only[j0]
 rw[TE d b]
 exact h _ (jT b)
theorem Ok.pick{L:List Int}{f:(List Int×Int)×Int->Option β}(e:0<=a)(g:a<4611686018427387904)(o:0<L.length)(n:L.length<1000)(h:∀x∈L,Ok (f ((l,a+1),x)) Q):Ok ((uH N (l,a) L).bind f) Q:=by
 obtain⟨r,k,d,c⟩:=HZ (N:=N) (l:=l) e g (show(L.length:Int)<=9223372036854775807 by omega)
 have c:=c aa
 have b:r.toNat<L.length:=by omega
 simp only[uH]
 rw[if_neg (by rw[kF];omega),k]
 simp only[j0]
 rw[TE d b]
 exact h _ (jT b)
end
def pW:Nat->Nat
 |0=>8
 |d+1=>3*pW d+8
section
variable {N:Nat} {l:List Int}
theorem Ok.pick01{β:Type}{Q:β->Prop}{a:Int}{f:(List Int×Int)×Int->Option β}(b:0<=a)(c:a<4611686018427387904)(h:∀x:Int,x=0\/x=1->Ok (f ((l,a+1),x)) Q):Ok ((uH N (l,a) [0,0,0,1]).bind f) Q:=
 Ok.pick b c ac ac fun x d=>h x (by simp at d;omega)
theorem qUu{L:List BA}{x:BA}(a:L.length<1000000)(c:L.length<N):Ok (CH N L x) fun _=>True:=by
 unfold CH
 refine Ok.loop (fun st=>∃j:Nat,st=(j:Int)/\j<=L.length) (fun st=>L.length-st.toNat) (fun _=>True) ?_ ⟨0,rfl,kG _⟩ (by show L.length-(0:Int).toNat<N;omega) ?_
 .rintro _ ⟨j,rfl,d⟩
  simp only[PU]
  by_cases h:j<L.length
  .rw[if_pos (by simpa using h),eR h]
   simp only[j0]
   refine Ok.ite (fun _=>Ok.mk trivial) fun _=>Ok.mk ⟨⟨j+1,by rw[bZ aa aa];omega,by omega⟩,?_⟩
   rw[bZ aa aa];omega
  rw[if_neg (by simpa using h)];exact Ok.mk trivial
 intro b _
 cases b<;>exact Ok.mk trivial
theorem Ok.has{β:Type}{Q:β->Prop}{L:List BA}{x:BA}{f:Bool->Option β}(a:L.length<1000000)(c:L.length<N)(h:∀b,Ok (f b) Q):Ok ((CH N L x).bind f) Q:=Ok.bind (qUu a c) fun b _=>h b
end
theorem HK{N:Nat}{L:List bM}{p b:BA}(s:L.length<1000000)(n:Asc L):∀(d i M:Nat) (done:Bool) (acc:List bM),i+d=L.length->d<M->acc.length<=i+done.toNat->(done=true->∀f∈L.drop i,f.1≠p)->
  Ok (aK (FS N L (p,b)) M (done,(i:Int),acc)) fun o=>o.2.length<=L.length+1/\(if o.1 then o.2 else o.2++[(p,b)])=acc++(if done then L.drop i else iQ (L.drop i) p b)
 |_,_,0,_,_,_,h,_,_=>by omega
 |0,i,M+1,done,acc,v,_,g,_=>by
  refine⟨(done,acc),?_,by simp only;cases done<;>simp only[Bool.toNat_true,dG] at g<;>omega,?_⟩
  .simp only[aK,FS]
   rw[if_neg ad]
   rfl
  rw[jQ aa]
  cases done<;>simp[iQ]
 |d+1,i,M+1,done,acc,v,x,g,r=>by
  have hi:i<L.length:=by omega
  have u:(i:Int)+1=((i+1:Nat):Int):=by omega
  have t:∀f∈L.drop (i+1),blt (L[i]).1 f.1=true:=by
   have:=(jV.1 (by rw[<-jH hi];exact List.Pairwise.sublist (List.drop_sublist _ _) n:Asc (L[i]::L.drop (i+1)))).1
   exact this
  simp only[aK,FS]
  rw[if_pos ad,eR hi,bZ aa aa,u]
  rw[jH hi] at r ⊢
  simp only[j0,oY]
  cases done with
  |true=>
   simp only[Bool.toNat_true] at g
   have a:=r rfl _ (jL ..)
   have k:=HK (N:=N) (p:=p) (b:=b) s n d (i+1) M true (acc++[((L[i]).1,(L[i]).2)]) aa aa ai (fun h f q=>r rfl f (jO _ q))
   simp only[kI,j9,jC,j0]
   rw[if_pos (by simp[a]),iS ag aa]
   simp only[j0]
   refine k.mono fun o c=>⟨c.1,?_⟩
   rw[c.2];simp only[jE,kM,gD,jW]
  |false=>
   simp only[dG] at g
   simp only[jZ,jE,j0]
   rcases NG p (L[i]).1 with h|h|h
   .have h':Op.bytesLess p.toList (L[i]).1.toList=true:=h
    have a:(L[i]).1≠p:=fun e=>OH h e.symm
    have k:=HK (N:=N) (p:=p) (b:=b) s n d (i+1) M true ((acc++[(p,b)])++[((L[i]).1,(L[i]).2)]) aa aa ai (fun _ f q e=>by
     have:=CZ h (t f q);rw[e,yV] at this;cases this)
    rw[h',Bool.true_or,if_pos rfl,iS ag aa]
    simp only[j0]
    rw[if_pos (by simp[a]),iS aj aa]
    simp only[j0]
    refine k.mono fun o c=>⟨c.1,?_⟩
    have l:iQ (L[i]::L.drop (i+1)) p b=(p,b)::L[i]::L.drop (i+1):=by rw[iQ,if_pos h]
    rw[c.2,l];simp only[jE,kM,gD,jW,j9,jC]
   .have k:=HK (N:=N) (p:=p) (b:=b) s n d (i+1) M true (acc++[(p,b)]) aa aa ai (fun _ f q e=>by
     have:=t f q;rw[<-h,e,yV] at this;cases this)
    rw[jM h,Bool.or_true,if_pos rfl,iS ag aa]
    simp only[j0]
    rw[if_neg (by simp[h])]
    simp only[j0]
    refine k.mono fun o c=>⟨c.1,?_⟩
    have l:iQ (L[i]::L.drop (i+1)) p b=(p,b)::L.drop (i+1):=by rw[iQ,if_neg (by rw[h,yV];simp),if_pos h.symm]
    rw[c.2,l];simp only[jE,kM,gD,jW,j9,jC]
   have a:(L[i]).1≠p:=OH h
   have h':Op.bytesLess p.toList (L[i]).1.toList=false:=qAw h
   have k:=HK (N:=N) (p:=p) (b:=b) s n d (i+1) M false (acc++[((L[i]).1,(L[i]).2)]) aa aa ai (fun h=>by cases h)
   rw[h',jR (fun e=>a e.symm),Bool.or_false,if_neg ae]
   simp only[j0]
   rw[if_pos (by simp[a]),iS ag aa]
   simp only[j0]
   refine k.mono fun o c=>⟨c.1,?_⟩
   have l:iQ (L[i]::L.drop (i+1)) p b=L[i]::iQ (L.drop (i+1)) p b:=by rw[iQ,if_neg (by rw[show blt p (L[i]).1=false from h'];simp),if_neg a]
   rw[c.2,l];simp only[kM,gD,jW,j9,jC]
theorem wA{N:Nat}{L:List bM}(p b:BA)(g:L.length<1000000)(f:Asc L)(e:L.length<N):rH N L (p,b)=some (iQ L p b):=by
 obtain⟨o,c,k,a⟩:=HK (N:=N) (p:=p) (b:=b) g f L.length 0 N false [] aa e ae (fun h=>by cases h)
 simp only[rH]
 rw[show((0:Nat):Int)=0 from rfl] at c
 rw[c]
 simp only[jS,jW,j9,jC] at a
 simp only[j0]
 cases d:o.1 with
 |true=>rw[d] at a;simp only[jE] at a;simp[a]
 |false=>
  rw[d] at a
  simp only[j9,jC] at a
  simp only[jZ,jE]
  rw[iS ag aa,a]
  rfl
def srcL:List BA:=[(⟨#[97,46,115,114,99]⟩:BA),(⟨#[98,46,115,114,99]⟩:BA),(⟨#[100,47,99,46,115,114,99]⟩:BA),(⟨#[120,46,115,114,99]⟩:BA)]
def datL:List BA:=[(⟨#[97,46,100,97,116]⟩:BA),(⟨#[100,47,98,46,100,97,116]⟩:BA),(⟨#[99]⟩:BA)]
theorem qSd:(srcL.all fun p=>iY p.data.toList)=true:=by kernel_rfl
theorem qRu:(datL.all fun p=>iY p.data.toList)=true:=by kernel_rfl
def Made(L:List bM):Prop:=Asc L/\∀f∈L,f.1∈srcL++datL/\f.2.size<=4700
theorem Made.put{L:List bM}(h:Made L){p b:BA}(d:p∈srcL++datL)(c:b.size<=4700):Made (iQ L p b):=
 ⟨h.1.put p b,fun f a=>by
  rcases zG a with rfl|a
  .exact⟨d,c⟩
  exact h.2 f a⟩
theorem Made.path{L:List bM}(h:Made L){f:bM}(a:f∈L):iY f.1.data.toList=true:=by
 rcases gI.1 (h.2 f a).1 with h|h
 .exact jN.1 qSd _ h
 exact jN.1 qRu _ h
theorem qQe{N:Nat}{y1:List BA}{s1:Int×(List (BA×BA))×List (Int)×Int}:KN N y1 s1=
 if(decide (s1.1<(List.length y1:Int)))then(((bS y1 s1.1).bind fun c=>(rF N (s1.2.2.1,s1.2.2.2) 3 4).bind fun a=>if a.2 then((yO N).bind fun d=>(mY N (a.1.1,a.1.2) d).bind fun b=>(yS N (b.1.1,b.1.2) b.2).bind fun y5=>(rH N s1.2.1 (c,y5.2)).bind fun e=>some (e,y5.1.1,y5.1.2)) else(some (s1.2.1,a.1.1,a.1.2)):Option ((List (BA×BA))×List (Int)×Int)).bind fun o2=>some (.inl (IntKind.wrap .i64 (s1.1+1),o2.1,o2.2.1,o2.2.2))) else(some (.inr (s1.2.1,s1.2.2.1,s1.2.2.2))):=rfl
theorem qQz{N:Nat}{s2:Int×(List (BA×BA))×List (Int)×Int}:PG N s2=
 if(decide (s2.1<(List.length datL:Int)))then(((bS datL s2.1).bind fun c=>(rF N (s2.2.2.1,s2.2.2.2) 1 3).bind fun a=>if a.2 then((CG N (a.1.1,a.1.2)).bind fun b=>(rH N s2.2.1 (c,b.2)).bind fun d=>some (d,b.1.1,b.1.2)) else(some (s2.2.1,a.1.1,a.1.2)):Option ((List (BA×BA))×List (Int)×Int)).bind fun o4=>some (.inl (IntKind.wrap .i64 (s2.1+1),o4.1,o4.2.1,o4.2.2))) else(some (.inr (s2.2.1,s2.2.2.1,s2.2.2.2))):=rfl
theorem qMx(l:List UInt8):(oV l).size=l.length:=by simp[oV,ByteArray.size]
theorem qDe{N:Nat}{l:List Int}{a:Int}(p:100<N)(k:0<=a)(o:a<1000000000000000000):Ok (CG N (l,a)) fun y=>∃a' s,y=((l,a'),s)/\a<=a'/\a'<=a+10/\s.size<=10:=by
 simp only[CG]
 refine Ok.next aa aa aa aa fun r g h=> ?_
 dsimp only
 simp only[PO]
 refine Ok.assoc ?_
 refine Ok.loop (fun st=>∃L n a',st=(L,n,l,a')/\0<=n/\n<=r/\(L.length:Int)=n/\a<=a'/\a'<=a+1+n) (fun st=>(r-st.2.1).toNat) (fun b=>∃L a',b=(L,l,a')/\L.length<=4/\a<=a'/\a'<=a+5) ?_ ⟨[],0,a+1,rfl,by omega,by omega,rfl,by omega,by omega⟩ (by dsimp only;omega) ?_
 .rintro _ ⟨L,n,a',rfl,t,u,v,x,z⟩
  have c:ByteArray.size (⟨#[97,98,0,255,48]⟩:BA)=5:=rfl
  simp only[PE,c]
  by_cases hn:n<r
  .rw[if_pos (by simpa using hn)]
   refine Ok.next aa aa aa aa fun q d v2=> ?_
   dsimp only
   have e:q.toNat<ByteArray.size (⟨#[97,98,0,255,48]⟩:BA):=by rw[c];omega
   have f:iC (⟨#[97,98,0,255,48]⟩:BA) q=some ((⟨#[97,98,0,255,48]⟩:BA)[q.toNat]):=by
    have:=TC e
    rw[Int.toNat_of_nonneg d] at this
    exact this
   rw[f]
   refine Ok.someb (Ok.app ag ac (Ok.mk ?_))
   dsimp only
   rw[bZ aa aa]
   exact⟨⟨_,_,_,rfl,by omega,by omega,by simp only[jF,jA,jB];omega,by omega,by omega⟩,by omega⟩
  rw[if_neg (by simpa using hn)]
  exact Ok.mk ⟨L,a',rfl,by omega,by omega,by omega⟩
 rintro _ ⟨L,a',rfl,d,v2,c⟩
 refine Ok.someb (Ok.mk ?_)
 dsimp only
 refine⟨_,_,rfl,?_,?_,?_⟩
 .omega
 .omega
 rw[qMx];omega
theorem Made.wf{L:List bM}(h:Made L)(b:L.length<=64):WF L:=⟨b,h.1,fun f a=>⟨h.path a,kX (h.2 f a).2 ac⟩⟩
def MadeE(K:Nat)(L:List bM):Prop:=Asc L/\∀f∈L,iY f.1.data.toList=true/\f.2.size<=K
theorem Made.e{L:List bM}(h:Made L):MadeE 4700 L:=⟨h.1,fun f a=>⟨h.path a,(h.2 f a).2⟩⟩
theorem MadeE.put{K:Nat}{L:List bM}(h:MadeE K L){p b:BA}(d:iY p.data.toList=true)(c:b.size<=K):MadeE K (iQ L p b):=
 ⟨h.1.put p b,fun f a=>by
  rcases zG a with rfl|a
  .exact⟨d,c⟩
  exact h.2 f a⟩
theorem MadeE.del{K:Nat}{L:List bM}(h:MadeE K L)(p:BA):MadeE K (oE L p):=⟨h.1.del p,fun f a=>h.2 f (gP.1 a).1⟩
theorem MadeE.more{K K':Nat}{L:List bM}(h:MadeE K L)(b:K<=K'):MadeE K' L:=⟨h.1,fun f a=>⟨(h.2 f a).1,kX (h.2 f a).2 b⟩⟩
theorem MadeE.wf{K:Nat}{L:List bM}(h:MadeE K L)(b:K<=16384)(c:L.length<=64):WF L:=⟨c,h.1,fun f a=>⟨(h.2 f a).1,kX (h.2 f a).2 b⟩⟩
theorem ZX{N:Nat}{L:List bM}{p:BA}(g:L.length<1000000)(d:L.length<N):GP N L p=some (oE L p):=by
 have h:=yX (L:=L) (fun(t:List bM) i=>((i:Int),t)) (f:=FU N L p) (fun t f=>(.inl (if decide (f.1≠p)then t++[f] else t):List bM⊕List bM)) (fun t=>t) (fun i t=>t.length<=i) (fun t i hi e=>by
   have b:((i:Int)<(L.length:Int)):=by omega
   have w:IntKind.wrap .i64 ((i:Int)+1)=((i+1:Nat):Int):=by rw[bZ aa aa];omega
   simp only[FU,b,decide_true,jE,eR hi,j0,w,oY]
   by_cases hp:L[i].1=p
   .simp[hp]
   .simp only[hp,decide_false,jZ,jE,ne_eq,not_false_eq_true,decide_true]
    rw[iS ag ac]
    rfl) (fun t i hi t' e c=>by
   simp only[Sum.inl.injEq] at c
   subst c
   split
   .simp only[jF,jA,jB];omega
   .omega) (fun t _=>by
   have b:¬((L.length:Int)<(L.length:Int)):=by omega
   simp only[FU,b,decide_false,j9,jC]) (t:=[]) d (kG _)
 rw[show((0:Nat):Int)=0 from rfl] at h
 have b:=zF (step:=fun(t:List bM) (f:bM)=>(.inl (if decide (f.1≠p)then t++[f] else t):List bM⊕List bM)) (fin:=fun t=>t) (fun(t:List bM) (f:bM)=>if decide (f.1≠p)then t++[f] else t) (fun _ _=>rfl) L []
 unfold GP
 rw[h,b]
 simp only[j0]
 congr 1
 have:∀(a t:List bM),a.foldl (fun t f=>if decide (f.1≠p)then t++[f] else t) t=t++oE a p:=by
  intro a
  induction a with
  |nil=>intro t;simp[oE]
  |cons x a c=>
   intro t
   rw[kC,c]
   unfold oE
   rw[kU]
   split<;>simp
 rw[this];rfl
theorem qEc(L:List bM)(p:BA):(oE L p).length<=L.length:=fF _ _
section
variable {N:Nat} {l:List Int} {a:Int} {K:Nat} {L:List bM}
theorem ND{f:Int->Option (Int⊕(Unit⊕((List Int×Int)×List bM)))}{Q:(List Int×Int)×List bM->Prop}{p:BA}(n:L.length<=100)(l:200<N)
  (g:∀j,∀d:j<L.length,L[j].1=p->Ok (f (j:Int)) fun r=>∃z,r= .inr (.inr z)/\Q z) (h:∀j,∀d:j<L.length,¬L[j].1=p->f (j:Int)=some (.inl ((j+1:Nat):Int))) (e:f (L.length:Int)=some (.inr (.inl ()))):
  Ok (aK f N 0) fun o=>o= .inl ()\/∃z,o= .inr z/\Q z:=by
 obtain⟨b,a,c⟩:=TJ (f:=f) (fun s=>∃j:Nat,s=(j:Int)/\j<=L.length) (fun s=>L.length-s.toNat) (fun o=>o= .inl ()\/∃z,o= .inr z/\Q z) (fun s k=>by
  obtain⟨j,rfl,d⟩:=k
  by_cases hlt:j<L.length
  .by_cases hp:L[j].1=p
   .obtain⟨r,a,z,rfl,c⟩:=g j hlt hp
    exact .inl ⟨_,a,.inr ⟨z,rfl,c⟩⟩
   exact .inr ⟨_,h j hlt hp,⟨j+1,rfl,hlt⟩,by simp only[kD];omega⟩
  have:j=L.length:=by omega
  subst this
  exact .inl ⟨_,e,.inl rfl⟩) N 0 ⟨0,rfl,kG _⟩ (by simp only[Int.toNat_zero];omega)
 exact⟨b,a,c⟩
theorem qTz(M:Nat):rZ (M+1) 0=some (⟨#[48]⟩:BA)/\rZ (M+1) 1=some (⟨#[49]⟩:BA)/\rZ (M+1) 2=some (⟨#[50]⟩:BA):=⟨by kernel_rfl,by kernel_rfl,by kernel_rfl⟩
theorem DB{x y z:BA}(h:x++y=z)(a:x.size+y.size<=1000):dM x y=some z:=by
 unfold dM
 rw[if_pos (by simp only[maxLen];omega),h]
end
theorem QQ{N:Nat}{L:List bM}{p:BA}(a:L.length<1000000):∀(d i M:Nat) (acc:List bM),i+d=L.length->d<M->acc.length<=i->aK (FH N L p) M ((i:Int),acc)=some (acc++oE (L.drop i) p)
 |_,_,0,_,_,h,_=>by omega
 |0,i,M+1,acc,e,_,_=>by
  simp only[aK,FH]
  rw[if_neg ad,jQ aa]
  simp[oE]
 |d+1,i,M+1,acc,e,f,c=>by
  have hi:i<L.length:=by omega
  simp only[aK,FH]
  rw[if_pos ad,eR hi,jH hi]
  have b:(i:Int)+1=((i+1:Nat):Int):=by omega
  simp only[j0,oY]
  unfold oE
  rw[kU,bZ aa aa,b]
  by_cases he:(L[i]).1=p
  .rw[if_neg (by simp[he]),if_neg (by simp[he])]
   simp only[j0]
   exact QQ a d (i+1) M acc aa aa aa
  rw[if_pos (by simp[he]),if_pos (by simp[he]),iS ag aa]
  simp only[j0]
  rw[QQ a d (i+1) M _ aa aa ai]
  simp[oE]
theorem qMt{N:Nat}{L:List bM}(p:BA)(b:L.length<1000000)(a:L.length<N):LJ N L p=some (oE L p):=by
 have:=QQ (N:=N) (L:=L) (p:=p) b L.length 0 N [] aa a (kG _)
 rw[show((0:Nat):Int)=0 from rfl,jS,jW] at this
 simp only[LJ,this,j0]
theorem NF{N:Nat}{L:List bM}{p b:BA}(n:L.length<1000000):∀(d i M:Nat) (done:Bool) (acc:List bM),i+d=L.length->d<M->acc.length<=i+done.toNat->(done=false->iD (L.drop i) p=none)->
  ∃o:Bool×List bM,aK (GA N L (p,b)) M (done,(i:Int),acc)=some o/\o.2.length<=L.length+1/\(if o.1 then o.2 else o.2++[(p,b)])=acc++(if done then L.drop i else iQ (L.drop i) p b)
 |_,_,0,_,_,_,h,_,_=>by omega
 |0,i,M+1,done,acc,r,_,c,_=>by
  refine⟨(done,acc),?_,by simp only;cases done<;>simp only[Bool.toNat_true,dG] at c<;>omega,?_⟩
  .simp only[aK,GA]
   rw[if_neg ad]
   rfl
  rw[jQ aa]
  cases done<;>simp[iQ]
 |d+1,i,M+1,done,acc,r,s,c,a=>by
  have hi:i<L.length:=by omega
  have q:(i:Int)+1=((i+1:Nat):Int):=by omega
  simp only[aK,GA]
  rw[if_pos ad,eR hi,bZ aa aa,q]
  rw[jH hi] at a ⊢
  simp only[j0]
  cases done with
  |true=>
   simp only[Bool.toNat_true] at c
   obtain⟨o,e,f,g⟩:=NF (N:=N) (p:=p) (b:=b) n d (i+1) M true (acc++[((L[i]).1,(L[i]).2)]) aa aa ai (fun h=>by cases h)
   refine⟨o,?_,f,?_⟩
   .simp only[kI,j9,jC,j0]
    rw[iS ag aa]
    simp only[j0]
    exact e
   rw[g];simp only[jE,kM,gD,jW]
  |false=>
   simp only[dG] at c
   have a:=a rfl
   simp only[iD] at a
   have k:¬(L[i]).1=p:=by intro h;rw[if_pos h] at a;cases a
   rw[if_neg k] at a
   simp only[jZ,jE,j0]
   by_cases hb:blt p (L[i]).1=true
   .have hb':Op.bytesLess p.toList (L[i]).1.toList=true:=hb
    obtain⟨o,e,f,g⟩:=NF (N:=N) (p:=p) (b:=b) n d (i+1) M true ((acc++[(p,b)])++[((L[i]).1,(L[i]).2)]) aa aa ai (fun h=>by cases h)
    refine⟨o,?_,f,?_⟩
    .rw[hb',if_pos rfl,iS ag aa]
     simp only[j0]
     rw[iS aj aa]
     simp only[j0]
     exact e
    have l:iQ (L[i]::L.drop (i+1)) p b=(p,b)::L[i]::L.drop (i+1):=by rw[iQ,if_pos hb]
    rw[g,l];simp only[jE,kM,gD,jW,j9,jC]
   have hb':Op.bytesLess p.toList (L[i]).1.toList=false:=by
    cases hq:Op.bytesLess p.toList (L[i]).1.toList with
    |false=>rfl
    |true=>exact absurd hq hb
   obtain⟨o,e,f,g⟩:=NF (N:=N) (p:=p) (b:=b) n d (i+1) M false (acc++[((L[i]).1,(L[i]).2)]) aa aa ai (fun _=>a)
   refine⟨o,?_,f,?_⟩
   .rw[hb',if_neg ae]
    simp only[j0]
    rw[iS ag aa]
    simp only[j0]
    exact e
   have l:iQ (L[i]::L.drop (i+1)) p b=L[i]::iQ (L.drop (i+1)) p b:=by rw[iQ,if_neg hb,if_neg k]
   rw[g,l];simp only[kM,gD,jW,j9,jC]
theorem qSj{N:Nat}{L:List bM}(p b:BA)(g:L.length<1000000)(f:L.length<N)(d:iD L p=none):MA N L (p,b)=some (iQ L p b):=by
 obtain⟨o,c,h,a⟩:=NF (N:=N) (L:=L) (p:=p) (b:=b) g L.length 0 N false [] aa f ae (fun _=>by rw[jS];exact d)
 simp only[MA]
 rw[show((0:Nat):Int)=0 from rfl] at c
 rw[c]
 simp only[jS,jW,j9,jC] at a
 simp only[j0]
 cases e:o.1 with
 |true=>rw[e] at a;simp only[jE] at a;simp[a]
 |false=>
  rw[e] at a
  simp only[j9,jC] at a
  simp only[jZ,jE]
  rw[iS ag aa,a]
  rfl
theorem qPn{L:List bM}(a:Asc L)(p b:BA):iQ (oE L p) p b=iQ L p b:=
 Asc.ext ((a.del p).put p b) (a.put p b) fun q=>by
  rw[TH (a.del p),TH a,qCg]
  by_cases h:p=q
  .rw[if_pos h,if_pos h]
  rw[if_neg h,if_neg h,if_neg h]
theorem qKl(L:List bM)(p:BA):iD (oE L p) p=none:=by rw[qCg,if_pos rfl]
def OU(L:List bM)(p b:BA):List bM×Int:=
 if lK L≠0 then([],lK L) else if iY p.data.toList=false then([],6) else if 16384<b.size\/64<(iQ L p b).length then([],2) else(iQ L p b,0)
theorem qPa{N:Nat}{L:List bM}(p b:BA)(c:100<N):MF N L p b=some (OU L p b):=by
 simp only[MF,MS c,j0]
 unfold OU
 by_cases hc:lK L=0
 .have d:=rI.1 hc
  have e:=d.1
  rw[if_neg (by simp[hc]),if_neg (by simp[hc]),MV c]
  simp only[j0]
  by_cases hb:iY p.data.toList=false
  .rw[if_pos (by simp[hb]),if_pos hb]
  have hb':iY p.data.toList=true:=by simpa using hb
  rw[if_neg (by simp[hb']),if_neg hb,qMt p aa aa]
  simp only[j0]
  have a:=fF (fun f:bM=>decide (f.1≠p)) L
  have a:(oE L p).length<=L.length:=a
  rw[qSj p b aa aa (qKl L p),qPn d.2.1]
  simp only[j0]
  by_cases h16:16384<b.size
  .rw[if_pos ad,if_pos (.inl h16)]
   rfl
  rw[if_neg ad]
  simp only[j0,j6]
  by_cases h64:64<(iQ L p b).length
  .rw[if_pos aa,if_pos (.inr h64)]
  rw[if_neg aa,if_neg aa]
 rw[if_pos (by simpa using hc),if_pos hc]
end
section
open Go Go.Dc Go.Proofs
def tT{α:Type}[DecidableEq α](b:α->α->Bool)(e:α):List α->List α
 |[]=>[e]
 |x::l=>if b x e then x::tT b e l else if x=e then x::l else e::x::l
theorem qBv{α:Type}[DecidableEq α]{b:α->α->Bool}{e z:α}:∀{l:List α},z∈tT b e l↔z=e\/z∈l
 |[]=>by simp[tT]
 |x::l=>by
  have a:=qBv (b:=b) (e:=e) (z:=z) (l:=l)
  simp only[tT]
  split
  .rw[jI,a,jI]
   constructor
   .rintro(h|h|h)
    .exact .inr (.inl h)
    .exact .inl h
    exact .inr (.inr h)
   rintro(h|h|h)
   .exact .inr (.inl h)
   .exact .inl h
   exact .inr (.inr h)
  split
  .rename_i h
   constructor
   .exact .inr
   rintro(g|g)
   .rw[g,<-h];exact jL ..
   exact g
  exact jI
theorem NP{α:Type}[DecidableEq α]{b:α->α->Bool}{e:α}:∀{l:List α},(tT b e l).length<=l.length+1
 |[]=>jP _
 |x::l=>by
  have a:=NP (b:=b) (e:=e) (l:=l)
  simp only[tT]
  split
  .simp only[jA];omega
  split
  .simp only[jA];omega
  simp only[jA];omega
def VR(k:Int)(p n:BA)(e:dQ):Prop:=e.2.1=n/\e.2.2.1=k/\(k=3\/e.1=p)
theorem qLy(O:List mU)(k:Int)(p n:BA):VR k p n (lW O k p n):=by
 suffices h:∀(O:List mU) (e:dQ),VR k p n e->VR k p n (O.foldl (lG k p n) e) from h O _ ⟨rfl,rfl,by
  unfold uE
  by_cases h:k=3
  .exact .inl h
  exact .inr (if_neg h)⟩
 intro O
 induction O with
 |nil=>intro e h;exact h
 |cons o O c=>
  intro e h
  rw[kC]
  refine c _ ?_
  unfold lG
  split
  .rename_i hk
   obtain⟨b,d,a⟩:=zC (show nL o.2.2.1 o.1 o.2.1=nL k p n from hk)
   split
   .exact⟨rfl,rfl,by rw[<-b];rcases a with a|a;exact .inl a;exact .inr a⟩
   exact h
  exact h
theorem qBr:∀(l:List (BA×Sr)) (S:List (BA×Sr)) (c:BA),(S.map (·.1)).Nodup->(l.map (·.1)).Nodup->
  ((l.foldl (fun S x=>mset S x.1 x.2) S).map (·.1)).Nodup/\(∀v,(c,v)∈l->dP (l.foldl (fun S x=>mset S x.1 x.2) S) c=some v)/\((∀v,(c,v)∉l)->dP (l.foldl (fun S x=>mset S x.1 x.2) S) c=dP S c)
 |[],S,c,b,_=>⟨b,(fun v h=>by cases h),fun _=>rfl⟩
 |x::l,S,c,b,d=>by
  rw[kJ,gY] at d
  obtain⟨g,k,f⟩:=qBr l (mset S x.1 x.2) c (RB b _ _) d.2
  rw[kC]
  refine⟨g,fun v a=> ?_,fun a=> ?_⟩
  .rcases jI.1 a with e|a
   .subst e
    rw[f fun v' h'=>d.1 (fE.2 ⟨_,h',rfl⟩),RP b,if_pos rfl]
   exact k v a
  rw[f fun v h=>a v (jO _ h),RP b,if_neg]
  rintro rfl
  exact a x.2 (jL ..)
theorem qLp{L:List bM}(a:Asc L):((eS L).map (·.1)).Nodup:=by
 unfold eS
 rw[List.map_map]
 exact List.pairwise_map.2 ((List.Pairwise.filter _ a).imp fun h=>OH h)
def OL(L:List bM):List (BA×Sr):=(eS L).foldl (fun S x=>mset S x.1 x.2) []
theorem ZI{L:List bM}(a:Asc L){f:bM}(d:f∈L):dP (OL L) f.1=if oU f then some (lJ f.2).1 else none:=by
 have h:=qBr (eS L) [] f.1 List.nodup_nil (qLp a)
 unfold OL
 by_cases hg:oU f=true
 .rw[if_pos hg]
  exact h.2.1 _ (fE.2 ⟨f,gP.2 ⟨d,hg⟩,rfl⟩)
 rw[if_neg hg,h.2.2 (fun v o=> ?_)]
 .rfl
 obtain⟨f',l,c,n⟩:=MY o
 have e:f'.1=f.1:=(congrArg Prod.fst n).symm
 have k:f'=f:=by
  have b:=QY a l
  have g:=QY a d
  rw[e,g] at b
  exact Prod.ext e (jD b).symm
 rw[k] at c;exact hg c
section
variable {κ ν:Type} [DecidableEq κ]
theorem ZR:∀(l:List (κ×ν)) (k:κ) (v:ν),(nS l k v).length<=l.length+1
 |[],k,v=>by simp[nS]
 |p::l,k,v=>by
  have:=ZR l k v
  simp only[nS]
  split
  .simp
  simp only[jA];omega
theorem qPs[KOrd κ]{l:List (κ×ν)}(a:(l.map (·.1)).Nodup)(k:κ)(v:ν):(mset l k v).length<=l.length+1:=by
 have b:=(yY (.refl l) a k v).length_eq
 have c:=ZR l k v
 omega
end
def rR{α:Type}(b:α->α->Bool)(e:α):List α->Nat
 |[]=>0
 |x::l=>if b x e then rR b e l+1 else 0
theorem qCy{α:Type}{b:α->α->Bool}{e:α}:∀(l:List α),rR b e l<=l.length
 |[]=>jP _
 |x::l=>by
  have:=qCy (b:=b) (e:=e) l
  simp only[rR,jA]
  split<;>omega
theorem qBz{α:Type}[DecidableEq α]{b:α->α->Bool}{e:α}:∀(l:List α),tT b e l=if l[rR b e l]? =some e then l else l.take (rR b e l)++e::l.drop (rR b e l)
 |[]=>by simp[tT,rR]
 |x::l=>by
  simp only[tT,rR]
  by_cases h:b x e=true
  .simp only[h,jE,List.getElem?_cons_succ,List.take_succ_cons,List.drop_succ_cons]
   rw[qBz l]
   split<;>rfl
  have h':b x e=false:=by simpa using h
  simp only[h',j9,jC,List.getElem?_cons_zero,jG,List.take_zero,jS,jW]
theorem ZU{α:Type}{b:α->α->Bool}{e:α}{L:List α}{f:Int->Option (Int⊕Int)}(k:L.length<1000000)
  (a:∀i,∀hi:i<L.length,f (i:Int)=some (if b L[i] e then .inl ((i+1:Nat):Int) else .inr (i:Int))) (c:f (L.length:Int)=some (.inr (L.length:Int))):∀(d i M:Nat),i+d=L.length->d<M->aK f M (i:Int)=some ((i+rR b e (L.drop i):Nat):Int)
 |_,_,0,_,h=>absurd h (gG _)
 |0,i,M+1,g,_=>by
  have:i=L.length:=by omega
  subst this
  simp only[aK,c,j0,fY,rR,gU]
 |d+1,i,M+1,g,l=>by
  have hi:i<L.length:=by omega
  simp only[aK,a i hi,j0]
  rw[HN hi]
  simp only[rR]
  by_cases hb:b L[i] e=true
  .rw[if_pos hb,if_pos hb]
   simp only
   rw[ZU k a c d (i+1) M aa aa]
   congr 2;omega
  rw[if_neg hb,if_neg hb]
  rfl
theorem qCz{α:Type}{by_:Nat}{L:List α}{x z:α}{k:Nat}(d:k<=L.length)(q:0<by_)(c:by_<=100)(r:L.length<1000000):
  ((eM by_ L [z]).bind fun b=>(rS b (IntKind.wrap .i64 ((k:Int)+1)) (List.length b:Int)).bind fun _=>(rS b (k:Int) (List.length b:Int)).bind fun _=>(wK b (IntKind.wrap .i64 ((k:Int)+1)) (k:Int)).bind fun g=>(bS g (k:Int)).bind fun _=>some (List.set g (Int.toNat (k:Int)) x))=some (L.take k++x::L.drop k):=by
 have w:IntKind.wrap .i64 ((k:Int)+1)=((k+1:Nat):Int):=by rw[bZ aa aa];omega
 have s:(L.length+1)*by_<=(L.length+1)*100:=Nat.mul_le_mul_left _ c
 rw[w,iS (by simp only[jA,jB,kW];omega) q]
 simp only[j0]
 have a:(L++[z]).length=L.length+1:=by simp
 have h:rS (L++[z]) ((k+1:Nat):Int) ((L++[z]).length:Int)=some ():=by unfold rS;rw[if_pos (by rw[a];omega)]
 have l:rS (L++[z]) (k:Int) ((L++[z]).length:Int)=some ():=by unfold rS;rw[if_pos (by rw[a];omega)]
 have n:wK (L++[z]) ((k+1:Nat):Int) (k:Int)=some (sK (L++[z]) (k+1) k):=by unfold wK;rw[if_pos (by rw[a];omega)];rfl
 simp only[h,l,n,j0]
 have e:sK (L++[z]) (k+1) k=(L++[z]).take (k+1)++L.drop k:=by
  have t1:((L++[z]).drop k).take (L.length-k)=L.drop k:=by
   rw[gC d,kO (by rw[kP];omega),fA (by rw[kP];omega)]
  have t2:(L++[z]).drop (L.length+1)=[]:=List.drop_of_length_le (by rw[a];omega)
  unfold sK
  rw[a,show min (L.length+1-k) (L.length+1-(k+1))=L.length-k by omega,show k+1+(L.length-k)=L.length+1 by omega,t1,t2,gQ]
 have f:k<(sK (L++[z]) (k+1) k).length:=by rw[e];simp only[jF,fP,jA,jB,kP];omega
 rw[eR f]
 simp only[j0,kD]
 congr 1
 rw[e]
 have o:(L++[z]).take (k+1)=L.take k++[((L++[z])[k]'(by rw[a];omega))]:=by
  rw[kT (by rw[a];omega),kO d]
 rw[o,kM,List.set_append_right _ _ (by simp only[fP];omega)]
 have p:k-(L.take k).length=0:=by simp only[fP];omega
 rw[p];rfl
def ED(e:dQ):mU:=(e.1,e.2.1,e.2.2.1,e.2.2.2.1,e.2.2.2.2.1)
theorem qDk{O:List mU}{k:Int}{p n:BA}(h:(lW O k p n).2.2.2.2.2≠0):∃o∈O,rP o=nL k p n/\ED (lW O k p n)=o:=by
 suffices g:∀(O J:List mU) (e:dQ),(0<=e.2.2.2.2.2)->(e.2.2.2.2.2≠0->∃o∈J,rP o=nL k p n/\ED e=o)->(O.foldl (lG k p n) e).2.2.2.2.2≠0->∃o∈J++O,rP o=nL k p n/\ED (O.foldl (lG k p n) e)=o by
  have:=g O [] (uE k p n) (dD 0) (fun h=>absurd rfl h) h
  rwa[jW] at this
 intro O
 induction O with
 |nil=>intro J e _ b c;rw[gQ];exact b c
 |cons o O r=>
  intro J e q b c
  rw[show J++o::O=(J++[o])++O by simp,kC]
  rw[kC] at c
  refine r (J++[o]) (lG k p n e o) ?_ ?_ c
  .unfold lG
   split
   .split
    .exact(show(0:Int)<=1 by decide)
    simp only[];omega
   exact q
  unfold lG
  by_cases hk:rP o=nL k p n
  .rw[if_pos hk]
   by_cases a:e.2.2.2.2.2=0
   .rw[if_pos a]
    intro _
    obtain⟨d,f,-⟩:=zC (show nL o.2.2.1 o.1 o.2.1=nL k p n from hk)
    refine⟨o,by simp,hk,?_⟩
    unfold ED
    simp only
    rw[<-d,<-f]
   rw[if_neg a]
   intro _
   obtain⟨o',d,f,l⟩:=b a
   exact⟨o',gB _ d,f,l⟩
  rw[if_neg hk]
  intro a
  obtain⟨o',d,f,l⟩:=b a
  exact⟨o',gB _ d,f,l⟩
theorem ZY{path pkg:BA}{o:mU}:∀{l:List Dl} {i:Nat},o∈oD path pkg i l->∃j d,l[j]? =some d/\o=(pkg,d.2.1,d.1,path,((i+j:Nat):Int))
 |[],_,h=>by cases h
 |d::l,i,h=>by
  rcases jI.1 h with rfl|h
  .exact⟨0,d,rfl,rfl⟩
  obtain⟨j,d',a,b⟩:=ZY h
  exact⟨j+1,d',by simpa using a,by rw[b,show i+1+j=i+(j+1) by omega]⟩
theorem ZW{L:List bM}{o:mU}(h:o∈iF (eS L)):∃f∈L,oU f=true/\∃(j:Nat) (d:Dl),(lJ f.2).1.2.2[j]? =some d/\o=((lJ f.2).1.1,d.2.1,d.1,f.1,(j:Int)):=by
 unfold iF at h
 obtain⟨x,g,h⟩:=fO.1 h
 obtain⟨f,c,e,rfl⟩:=MY g
 obtain⟨j,d,a,b⟩:=ZY h
 exact⟨f,c,e,j,d,a,by rw[b,kW]⟩
abbrev EKy:=Int×BA×BA
abbrev JC:=BA×BA×Int×BA×Int×Int
abbrev EEx:=Int×Int×Int×BA×List Int
abbrev VC:=Int×BA×List BA×List EEx
abbrev VH:=BA×List BA×List VC
abbrev AA:=List (BA×BA)×Bool×Option (List (BA×VH))×List BA×Option (List (EKy×JC))
abbrev EB:=Option (List (EKy×Bool))
abbrev nE:=EB×Int×Int×Bool
abbrev pP:=(Int×nE)⊕(nE×Int)
abbrev JI:=VH×VC×List Int
abbrev OS:=AA×List (BA×Int)×Int×EB×Int×Int×Bool×Option (List (Int×Option Nat))
def ndC:Option (List (Int×Option Nat)):=some [(1,some 50),(2,some 51),(3,some 52),(4,some 53),(5,some 54),(6,some 55),(7,some 56),(8,some 57),(9,some 58),(10,some 59)]
abbrev dR(W:AA)(env:List (BA×Int))(w:Int)(t:nE):OS:=(W,env,w,t.1,t.2.1,t.2.2.1,t.2.2.2,ndC)
abbrev GN(N D:Nat):=(iJ N D).1
abbrev GE(N D:Nat):=(iJ N D).2.1
abbrev GC(N D:Nat):=(iJ N D).2.2.1
abbrev GB(N D:Nat):=(iJ N D).2.2.2.1
abbrev GI(N D:Nat):=(iJ N D).2.2.2.2.1
abbrev GR(N D:Nat):=(iJ N D).2.2.2.2.2
theorem uL(N:Nat)(b:Bool)(e:Int):tL N b e=some (bif b then .inl e else .inr ()):=by cases b<;>rfl
theorem qCo(N:Nat)(b:Bool):HC N b=some (bif b then 1 else 0):=by cases b<;>rfl
def yI(v:Int):Bool:=decide (-9007199254740992<=v)&&decide (v<=9007199254740992)
theorem qAj(N:Nat)(v:Int):xD N v=some (yI v):=by
 unfold xD yI
 by_cases h:(-9007199254740992)<=v
 .rw[if_pos (by simpa using h)];simp[h]
 rw[if_neg (by simpa using h)];simp[h]
section
variable {N D:Nat} {W:AA} {env:List (BA×Int)} {w:Int} {t:nE} {c:JI} {i:Int} {x:EEx}
abbrev up(t:nE):nE:=(t.1,IntKind.wrap .i64 (t.2.1+1),t.2.2.1,t.2.2.2)
theorem qPj(d:t.2.1=20000):GN N (D+1) (dR W env w t) c i=some (.inl (16,t)):=by
 obtain⟨a,s,b,r⟩:=t
 simp only at d
 subst d
 rfl
theorem uM(e:t.2.1≠20000)(g:bS c.2.1.2.2.2 i=some x){f:Nat}(b:bC ndC x.1=some (some f)){o:Option pP}
  (d:(if f=50 then KU N (dR W env w (up t)) c x else if f=51 then BO N (dR W env w (up t)) c x else if f=52 then GC N D (dR W env w (up t)) c x else
   if f=53 then GB N D (dR W env w (up t)) c x else if f=54 then GI N D (dR W env w (up t)) c x else if f=55 then GR N D (dR W env w (up t)) c x else
   if f=56 then BR N (dR W env w (up t)) c x else if f=57 then BW N (dR W env w (up t)) c x else if f=58 then AY N (dR W env w (up t)) c x else if f=59 then BT N (dR W env w (up t)) c x else none)=o):
  GN N (D+1) (dR W env w t) c i=o:=by
 have a:(t.2.1==20000)=false:=by simpa using e
 show KT N (GN N D) (GE N D) (GC N D) (GB N D) (GI N D) (GR N D) (dR W env w t) c i=o
 unfold KT
 simp only[uL,a,cond_false,j0,g,b,Option.getD_some]
 rw[<-d]
 cases hz:(if f=50 then KU N (dR W env w (up t)) c x else if f=51 then BO N (dR W env w (up t)) c x else if f=52 then GC N D (dR W env w (up t)) c x else
   if f=53 then GB N D (dR W env w (up t)) c x else if f=54 then GI N D (dR W env w (up t)) c x else if f=55 then GR N D (dR W env w (up t)) c x else
   if f=56 then BR N (dR W env w (up t)) c x else if f=57 then BW N (dR W env w (up t)) c x else if f=58 then AY N (dR W env w (up t)) c x else if f=59 then BT N (dR W env w (up t)) c x else none:Option pP) with
 |none=>rfl
 |some o=>cases o<;>rfl
theorem qQs(b:t.2.1≠20000)(d:bS c.2.1.2.2.2 i=some x)(a:x.1=1):GN N (D+1) (dR W env w t) c i=some (.inr (up t,x.2.1)):=
 uM b d (f:=50) (by rw[a];rfl) rfl
theorem qPo(b:t.2.1≠20000)(e:bS c.2.1.2.2.2 i=some x)(a:x.1=2){v:Int}(d:bS c.2.2 x.2.1=some v):GN N (D+1) (dR W env w t) c i=some (.inr (up t,v)):=
 uM b e (f:=51) (by rw[a];rfl) (by show BO N (dR W env w (up t)) c x=_;unfold BO;rw[d];rfl)
theorem qNv(b:t.2.1≠20000)(d:bS c.2.1.2.2.2 i=some x)(a:x.1=3):GN N (D+1) (dR W env w t) c i=GC N D (dR W env w (up t)) c x:=
 uM b d (f:=52) (by rw[a];rfl) rfl
theorem qQb(b:t.2.1≠20000)(d:bS c.2.1.2.2.2 i=some x)(a:x.1=4):GN N (D+1) (dR W env w t) c i=GB N D (dR W env w (up t)) c x:=
 uM b d (f:=53) (by rw[a];rfl) rfl
theorem qRq(b:t.2.1≠20000)(d:bS c.2.1.2.2.2 i=some x)(a:x.1=5):GN N (D+1) (dR W env w t) c i=GI N D (dR W env w (up t)) c x:=
 uM b d (f:=54) (by rw[a];rfl) rfl
def qM(v:Int)(t:nE):pP:=bif yI v then .inr (t,v) else .inl (3,t)
def AG(op a b:Int)(t:nE):Option pP:=
 if op=1 then some (qM (IntKind.wrap .i64 (a+b)) t) else if op=2 then some (qM (IntKind.wrap .i64 (a-b)) t) else
 if op=3 then((if b≠0 then(vA .i64 9007199254740992 (if IntKind.wrap .i64 (0-b)>b then IntKind.wrap .i64 (0-b) else b)).bind fun q=>some (decide ((if IntKind.wrap .i64 (0-a)>a then IntKind.wrap .i64 (0-a) else a)>q)) else some false).bind fun o=>
  some (bif o then .inl (3,t) else qM (IntKind.wrap .i64 (a*b)) t)) else
 if op=4\/op=5 then(if b=0 then some (.inl (4,t)) else(vA .i64 a b).bind fun q=>if op=5 then(yB a b).bind fun r=>some (qM r t) else some (qM q t)) else
 if op=6 then some (qM (bif decide (a<b) then 1 else 0) t) else some (qM (bif a==b then 1 else 0) t)
theorem qTv{g k a b:Int}{t1 t2:nE}(y:bS x.2.2.2.2 0=some g)(z:bS x.2.2.2.2 1=some k)(s:GN N D (dR W env w t) c g=some (.inr (t1,a)))(u:GN N D (dR W env w t1) c k=some (.inr (t2,b))):
  GB N (D+1) (dR W env w t) c x=AG x.2.2.1 a b t2:=by
 show wW N (GN N D) (GE N D) (GC N D) (GB N D) (GI N D) (GR N D) (dR W env w t) c x=_
 unfold wW
 obtain⟨o,s1,p,E⟩:=t1
 rw[y,j0,show GN N D _ _ g=some (.inr ((o,s1,p,E),a)) from s,j0]
 dsimp only
 rw[z,j0,show GN N D _ _ k=some (.inr (t2,b)) from u,j0]
 dsimp only
 generalize x.2.2.1=op
 have fin:∀v:Int,((xD N v).bind fun f=>(tL N (!f) 3).bind fun n=>(match n with| .inl l=>(some (.inl (l,t2)):Option pP)| .inr _=>some (.inr (t2,v))))=some (qM v t2):=fun v=>by
  simp only[qAj,uL,j0,qM]
  cases yI v<;>rfl
 have d:∀v:Int,((xD N v).bind fun f=>(match(bif !f then .inl 3 else .inr ():Int⊕Unit) with| .inl l=>(some (.inl (l,t2)):Option pP)| .inr _=>some (.inr (t2,v))))=some (qM v t2):=fun v=>by
  simp only[qAj,j0,qM]
  cases yI v<;>rfl
 unfold AG
 by_cases p1:op=1
 .rw[if_pos (by simpa using p1),if_pos p1];exact fin _
 rw[if_neg (by simpa using p1),if_neg p1]
 by_cases p2:op=2
 .rw[if_pos (by simpa using p2),if_pos p2];exact fin _
 rw[if_neg (by simpa using p2),if_neg p2]
 by_cases p3:op=3
 .rw[if_pos (by simpa using p3),if_pos p3]
  by_cases hb:b=0
  .rw[if_neg (by simpa using hb),if_neg (by simpa using hb)];exact fin _
  rw[if_pos (by simpa using hb),if_pos hb]
  cases hq:vA .i64 9007199254740992 (if IntKind.wrap .i64 (0-b)>b then IntKind.wrap .i64 (0-b) else b) with
  |none=>rfl
  |some q=>
   simp only[j0,uL]
   cases decide ((if IntKind.wrap .i64 (0-a)>a then IntKind.wrap .i64 (0-a) else a)>q) with
   |true=>rfl
   |false=>exact d _
 rw[if_neg (by simpa using p3),if_neg p3]
 by_cases p4:op=4\/op=5
 .rw[if_pos p4]
  have e:(if(op==4)then some (op==4) else some (op==5):Option Bool)=some true:=by
   rcases p4 with rfl|rfl<;>rfl
  rw[e]
  simp only[j0,jE,uL]
  by_cases hb:b=0
  .subst hb;rfl
  rw[show(b==0)=false by simpa using hb,if_neg hb]
  dsimp only[cond_false]
  cases hq:vA .i64 a b with
  |none=>rfl
  |some q=>
   simp only[j0]
   by_cases p5:op=5
   .rw[if_pos (by simpa using p5),if_pos p5]
    cases hr:yB a b with
    |none=>rfl
    |some r=>exact d _
   rw[if_neg (by simpa using p5),if_neg p5];exact d _
 rw[if_neg p4]
 have A:op≠4:=fun h=>p4 (.inl h)
 have B:op≠5:=fun h=>p4 (.inr h)
 have e:(if(op==4)then some (op==4) else some (op==5):Option Bool)=some false:=by
  rw[if_neg (by simpa using A)];simpa using B
 rw[e]
 simp only[j0,j9,jC,qCo]
 by_cases p6:op=6
 .rw[if_pos (by simpa using p6),if_pos p6];exact fin _
 rw[if_neg (by simpa using p6),if_neg p6];exact fin _
theorem qPv{a:Int}{z:Int×nE}(d:bS x.2.2.2.2 0=some a)(b:GN N D (dR W env w t) c a=some (.inl z)):GB N (D+1) (dR W env w t) c x=some (.inl z):=by
 show wW N (GN N D) (GE N D) (GC N D) (GB N D) (GI N D) (GR N D) (dR W env w t) c x=_
 unfold wW
 rw[d,j0,show GN N D _ _ a=some (.inl z) from b];rfl
theorem qQu{b d a:Int}{t1:nE}{z:Int×nE}(k:bS x.2.2.2.2 0=some b)(l:bS x.2.2.2.2 1=some d)(g:GN N D (dR W env w t) c b=some (.inr (t1,a)))(h:GN N D (dR W env w t1) c d=some (.inl z)):
  GB N (D+1) (dR W env w t) c x=some (.inl z):=by
 show wW N (GN N D) (GE N D) (GC N D) (GB N D) (GI N D) (GR N D) (dR W env w t) c x=_
 unfold wW
 obtain⟨e,s1,f,n⟩:=t1
 rw[k,j0,show GN N D _ _ b=some (.inr ((e,s1,f,n),a)) from g,j0]
 dsimp only
 rw[l,j0,show GN N D _ _ d=some (.inl z) from h];rfl
abbrev vC(W:AA)(E:JC):VH:=(bC W.2.2.1 E.2.2.2.1).getD ((⟨#[]⟩:BA),[],[])
def qEz:pP->pP
 | .inl z=> .inl z
 | .inr y=> .inr ((y.1.1,y.1.2.1,IntKind.wrap .i64 (y.1.2.2.1-1),y.1.2.2.2),y.2)
theorem qQa{E:JC}{d:VC}{args:List Int}{o:pP}(b:t.2.2.1≠64)(c:bS (vC W E).2.2 E.2.2.2.2.1=some d)
  (e:GN N D (dR W env w (t.1,t.2.1,IntKind.wrap .i64 (t.2.2.1+1),t.2.2.2)) (vC W E,d,args) (IntKind.wrap .i64 ((d.2.2.2.length:Int)-1))=some o):
  GE N (D+1) (dR W env w t) E args=some (qEz o):=by
 have a:(t.2.2.1==64)=false:=by simpa using b
 show BH N (GN N D) (GE N D) (GC N D) (GB N D) (GI N D) (GR N D) (dR W env w t) E args=_
 unfold BH
 simp only[uL,a,cond_false,j0,c]
 rw[show GN N D _ _ _=some o from e]
 cases o<;>rfl
end
def OR:pP->Int
 | .inl _=>0
 | .inr y=>y.2
def OV:pP->Int
 | .inl z=>z.1
 | .inr _=>0
def OT:pP->Int
 | .inl _=>3
 | .inr y=>if y.2=0 then 2 else 1
def AC:pP->nE
 | .inl z=>z.2
 | .inr y=>y.1
theorem qOv{N:Nat}{m:OS}{E:JC}{args:List Int}{o:pP}(h:BM N m E args=some o):FO N m E args=some (AC o,(OT o,OR o,OV o)):=by
 unfold FO
 rw[show BM N _ _ _=some o from h,j0]
 cases o with
 |inl z=>rfl
 |inr y=>
  dsimp only
  by_cases h0:y.2=0
  .rw[if_pos (by simpa using h0)];simp only[OT,OR,OV,AC,h0,if_pos]
  rw[if_neg (by simpa using h0)];simp only[OT,OR,OV,AC,h0,if_neg,jC]
end
section
open Go Go.Dc
abbrev Ky:=Int×BA×BA
abbrev Aa:=Sr×Dl
abbrev Es:=List Ky×Nat×Bool
abbrev Eo(α:Type):=Es×(Int⊕α)
structure Lk where
 cl:Sr->BA->List Ky×(Int⊕Aa)
 dt:BA->List Ky×(Int⊕(BA⊕Aa))
 en:BA->Option Int
 bt:Int->Int
 ar:Int->Int->Int->Int⊕Int
abbrev tY:=Nat->Aa->List Int->Int->Es->Eo Int
def bE{α β:Type}(o:Eo α)(k:α->Es->Eo β):Eo β:=
 match o with
 |(s,.inl e)=>(s,.inl e)
 |(s,.inr v)=>k v s
def rT(F:Int->Es->Eo Int):List Int->Es->Eo (List Int)
 |[],s=>(s,.inr [])
 |i::l,s=>bE (F i s) fun v s=>bE (rT F l s) fun vs s=>(s,.inr (v::vs))
def oJ(F:tY)(a:Nat)(t:Aa)(vs:List Int)(s:Es):Eo Int:=
 if a=64 then(s,.inl 17) else F (a+1) t vs ((t.2.2.2.2.length:Int)-1) s
def mA(s:Es)(l:List Ky):Es:=(s.1++l,s.2)
def nU(x:Ex)(k:Nat):Int:=x.2.2.2.2.getD k 0
def uZ(I:Lk)(F:tY)(a:Nat)(c:Aa)(vs:List Int)(x:Ex)(s:Es):Eo Int:=
 if x.1=1 then(s,.inr x.2.1)
 else if x.1=2 then(s,.inr (vs.getD x.2.1.toNat 0))
 else if x.1=3 then
  bE (mA s (I.cl c.1 x.2.2.2.1).1,(I.cl c.1 x.2.2.2.1).2) fun t s=>bE (rT (F a c vs) x.2.2.2.2 s) fun us s=>
   if us.length=t.2.2.2.1.length then oJ F a t us s else(s,.inl 13)
 else if x.1=4 then bE (F a c vs (nU x 0) s) fun p s=>bE (F a c vs (nU x 1) s) fun q s=>(s,I.ar x.2.2.1 p q)
 else if x.1=5 then bE (F a c vs (nU x 0) s) fun p s=>F a c vs (nU x (if p=0 then 2 else 1)) s
 else if x.1=6 then
  bE (mA s (I.dt x.2.2.2.1).1,(I.dt x.2.2.2.1).2) fun t s=>bE (F a c vs (nU x 0) s) fun i s=>
   match t with
   | .inl b=>if 0<=i/\i<b.size then(s,.inr ((b.data.toList.getD i.toNat 0).toNat:Int)) else(s,.inl 3)
   | .inr t=>if i=0 then bE (oJ F a t [] s) fun v s=>(s,.inr (v%256)) else(s,.inl 3)
 else if x.1=7 then
  bE (mA s (I.dt x.2.2.2.1).1,(I.dt x.2.2.2.1).2) fun t s=>(s,.inr (match t with| .inl b=>(b.size:Int)| .inr _=>1))
 else if x.1=8 then(mA s (I.dt x.2.2.2.1).1,.inr (match(I.dt x.2.2.2.1).2 with| .inl e=>(if e=14 then 0 else 1)| .inr _=>1))
 else if x.1=9 then(mA s [(5,x.2.2.2.1,⟨#[]⟩)],match I.en x.2.2.2.1 with|some v=> .inr v|none=> .inl 15)
 else((s.1,s.2.1,true),.inr (I.bt x.2.1))
def ev(I:Lk):Nat->tY
 |0,_,_,_,_,s=>(s,.inl 16)
 |n+1,a,c,vs,i,s=>
  if s.2.1=20000 then(s,.inl 16) else
  match c.2.2.2.2[i.toNat]? with
  |none=>(s,.inl 0)
  |some x=>uZ I (ev I n) a c vs x (s.1,s.2.1+1,s.2.2)
def Gr(s s':Es):Prop:=(∃l,s'.1=s.1++l)/\s.2.1<=s'.2.1/\(s.2.1<=20000->s'.2.1<=20000)/\(s.2.2=true->s'.2.2=true)
theorem Gr.rfl'(s:Es):Gr s s:=⟨⟨[],(gQ _).symm⟩,jP _,id,id⟩
theorem Gr.tr{s t u:Es}(h:Gr s t)(g:Gr t u):Gr s u:=by
 obtain⟨⟨l,e⟩,f,n,o⟩:=h
 obtain⟨⟨k,a⟩,b,c,d⟩:=g
 exact⟨⟨l++k,by rw[a,e,kM]⟩,kX f b,fun h=>c (n h),fun h=>d (o h)⟩
theorem Gr.see(s:Es)(l:List Ky):Gr s (mA s l):=⟨⟨l,rfl⟩,jP _,id,id⟩
theorem Gr.bE{α β:Type}{s:Es}{o:Eo α}{k:α->Es->Eo β}(h:Gr s o.1)(a:∀v u,Gr u (k v u).1):Gr s (bE o k).1:=by
 obtain⟨u,e|v⟩:=o
 .exact h
 exact h.tr (a v u)
def GrF(F:tY):Prop:=∀a c vs i s,Gr s (F a c vs i s).1
theorem Gr.seq{F:Int->Es->Eo Int}(h:∀i s,Gr s (F i s).1):∀(l:List Int) (s:Es),Gr s (rT F l s).1
 |[],s=> .rfl' s
 |i::l,s=>(h i s).bE fun _ u=>(Gr.seq h l u).bE fun _ u=> .rfl' u
theorem Gr.enter{F:tY}(h:GrF F)(a:Nat)(t:Aa)(vs:List Int)(s:Es):Gr s (oJ F a t vs s).1:=by
 unfold oJ
 split
 .exact .rfl' s
 exact h ..
theorem Gr.node{I:Lk}{F:tY}(h:GrF F)(a:Nat)(c:Aa)(vs:List Int)(x:Ex)(s:Es):Gr s (uZ I F a c vs x s).1:=by
 unfold uZ
 split
 .exact .rfl' s
 split
 .exact .rfl' s
 split
 .refine(Gr.see s _).bE fun t u=>(Gr.seq (fun i s=>h ..) _ u).bE fun us u=> ?_
  split
  .exact .enter h ..
  exact .rfl' u
 split
 .exact(h ..).bE fun _ u=>(h ..).bE fun _ u=> .rfl' u
 split
 .exact(h ..).bE fun _ u=>h ..
 split
 .refine(Gr.see s _).bE fun t u=>(h ..).bE fun i u=> ?_
  cases t with
  |inl b=>dsimp only;split<;>exact .rfl' u
  |inr t=>
   dsimp only
   split
   .exact(Gr.enter h ..).bE fun _ u=> .rfl' u
   exact .rfl' u
 split
 .exact(Gr.see s _).bE fun _ u=> .rfl' u
 split
 .exact .see ..
 split
 .exact .see ..
 exact⟨⟨[],(gQ _).symm⟩,jP _,id,fun _=>rfl⟩
theorem Gr.ev(I:Lk):∀n,GrF (ev I n)
 |0,_,_,_,_,s=> .rfl' s
 |n+1,a,c,vs,i,s=>by
  unfold Go.Proofs.YtleaknfdlaokiaaGreatDoor.ev
  split
  .exact .rfl' s
  rename_i hs
  split
  .exact .rfl' s
  exact Gr.tr (t:=(s.1,s.2.1+1,s.2.2)) ⟨⟨[],(gQ _).symm⟩,Nat.le_succ _,fun h=>show s.2.1+1<=20000 by omega,id⟩ (.node (Gr.ev I n) ..)
def VE(G:Aa->Aa->Prop):Int⊕Aa->Int⊕Aa->Prop
 | .inl e,.inl e'=>e=e'
 | .inr t,.inr t'=>G t t'
 |_,_=>False
def qGd(G:Aa->Aa->Prop):Int⊕(BA⊕Aa)->Int⊕(BA⊕Aa)->Prop
 | .inl e,.inl e'=>e=e'
 | .inr (.inl b),.inr (.inl b')=>b=b'
 | .inr (.inr t),.inr (.inr t')=>G t t'
 |_,_=>False
structure Agr(I J:Lk)(C:Es->Prop)(G:Aa->Aa->Prop):Prop where
 anti:∀s s',Gr s s'->C s'->C s
 body:∀t t',G t t'->t'.2.2.2=t.2.2.2
 ar:J.ar=I.ar
 cl:∀t t' x s,G t t'->x∈t.2.2.2.2->x.1=3->C (mA s (I.cl t.1 x.2.2.2.1).1)->(J.cl t'.1 x.2.2.2.1).1=(I.cl t.1 x.2.2.2.1).1/\VE G (I.cl t.1 x.2.2.2.1).2 (J.cl t'.1 x.2.2.2.1).2
 dt:∀t t' x s,G t t'->x∈t.2.2.2.2->(x.1=6\/x.1=7\/x.1=8)->C (mA s (I.dt x.2.2.2.1).1)->(J.dt x.2.2.2.1).1=(I.dt x.2.2.2.1).1/\qGd G (I.dt x.2.2.2.1).2 (J.dt x.2.2.2.1).2
 en:∀t t' x s,G t t'->x∈t.2.2.2.2->x.1=9->C (mA s [(5,x.2.2.2.1,⟨#[]⟩)])->J.en x.2.2.2.1=I.en x.2.2.2.1
 bt:∀t t' x (s:Es),G t t'->x∈t.2.2.2.2->(∀k:Int,0<k->k<10->x.1≠k)->C (s.1,s.2.1,true)->J.bt x.2.1=I.bt x.2.1
section
variable {I J:Lk} {C:Es->Prop} {G:Aa->Aa->Prop} {F F':tY}
theorem wF{α β:Type}{o o':Eo α}{k k':α->Es->Eo β}(c:∀s s',Gr s s'->C s'->C s)(d:∀v u,Gr u (k v u).1)(a:C (bE o k).1)(f:C o.1->o'=o)(h:∀v u,C (k v u).1->k' v u=k v u):bE o' k'=bE o k:=by
 have b:C o.1:=c _ _ (Gr.bE (s:=o.1) (.rfl' _) d) a
 rw[f b]
 obtain⟨u,e|v⟩:=o
 .rfl
 exact h v u a
def VM(C:Es->Prop)(G:Aa->Aa->Prop)(F F':tY):Prop:=∀a t t' vs i s,G t t'->C (F a t vs i s).1->F' a t' vs i s=F a t vs i s
theorem qDh(a:∀s s',Gr s s'->C s'->C s){f f':Int->Es->Eo Int}(c:∀i s,Gr s (f i s).1)(h:∀i s,C (f i s).1->f' i s=f i s):∀(l:List Int) (s:Es),C (rT f l s).1->rT f' l s=rT f l s
 |[],_,_=>rfl
 |i::l,s,b=>wF a (fun _ u=>(Gr.seq c l u).bE fun _ u=> .rfl' u) b (h i s) fun _ u b=>wF a (fun _ u=> .rfl' u) b (qDh a c h l u) fun _ _ _=>rfl
theorem SC(d:Agr I J C G)(h:VM C G F F'){a:Nat}{t t':Aa}{vs:List Int}{s:Es}(c:G t t')(b:C (oJ F a t vs s).1):oJ F' a t' vs s=oJ F a t vs s:=by
 unfold oJ at b ⊢
 rw[d.body t t' c]
 split at b
 .rename_i h1;rw[if_pos h1,if_pos h1]
 rename_i h1;rw[if_neg h1,if_neg h1];exact h _ _ _ _ _ _ c b
theorem qPp(r:Agr I J C G)(z:GrF F)(h:VM C G F F'){a:Nat}{t t':Aa}{vs:List Int}{x:Ex}{s:Es}(g:G t t')(D:x∈t.2.2.2.2)(c:C (uZ I F a t vs x s).1):
  uZ J F' a t' vs x s=uZ I F a t vs x s:=by
 have n:=r.anti
 unfold uZ at c ⊢
 by_cases k1:x.1=1
 .rw[if_pos k1,if_pos k1]
 rw[if_neg k1] at c;rw[if_neg k1,if_neg k1]
 by_cases k2:x.1=2
 .rw[if_pos k2,if_pos k2]
 rw[if_neg k2] at c;rw[if_neg k2,if_neg k2]
 by_cases k3:x.1=3
 .rw[if_pos k3] at c;rw[if_pos k3,if_pos k3]
  have gk:∀(d:Aa) (us:List Int) (u:Es),Gr u (if us.length=d.2.2.2.1.length then oJ F a d us u else(u,.inl 13)).1:=fun d us u=>by
   split
   .exact .enter z ..
   exact .rfl' u
  have gs:∀(d:Aa) (u:Es),Gr u (bE (rT (F a t vs) x.2.2.2.2 u) fun us s=>if us.length=d.2.2.2.1.length then oJ F a d us s else(s,.inl 13)).1:=fun d u=>(Gr.seq (fun i s=>z ..) _ u).bE fun us u=>gk d us u
  have B:C (mA s (I.cl t.1 x.2.2.2.1).1):=n _ _ (Gr.bE (o:=(mA s (I.cl t.1 x.2.2.2.1).1,(I.cl t.1 x.2.2.2.1).2)) (.rfl' _) gs) c
  obtain⟨y,f⟩:=r.cl t t' x s g D k3 B
  rw[y]
  generalize (I.cl t.1 x.2.2.2.1).2=p at f c ⊢
  generalize (J.cl t'.1 x.2.2.2.1).2=q at f ⊢
  cases p with
  |inl e=>cases q with
   |inl e'=>rw[show e=e' from f];rfl
   |inr d'=>exact f.elim
  |inr d=>cases q with
   |inl e'=>exact f.elim
   |inr d'=>
    refine wF (o:=rT (F a t vs) x.2.2.2.2 _) n (fun us u=>gk d us u) c (fun c=>qDh n (fun i s=>z ..) (fun i s c=>h _ _ _ _ _ _ g c) _ _ c) fun us u c=> ?_
    rw[r.body d d' f]
    split at c
    .rename_i l;rw[if_pos l,if_pos l];exact SC r h f c
    rename_i l;rw[if_neg l,if_neg l]
 rw[if_neg k3] at c;rw[if_neg k3,if_neg k3]
 by_cases k4:x.1=4
 .rw[if_pos k4] at c;rw[if_pos k4,if_pos k4]
  refine wF n (fun p u=>(z ..).bE fun q u=> .rfl' u) c (fun c=>h _ _ _ _ _ _ g c) fun p u c=> ?_
  refine wF n (fun q u=> .rfl' u) c (fun c=>h _ _ _ _ _ _ g c) fun q u _=> ?_
  rw[r.ar]
 rw[if_neg k4] at c;rw[if_neg k4,if_neg k4]
 by_cases k5:x.1=5
 .rw[if_pos k5] at c;rw[if_pos k5,if_pos k5]
  exact wF n (fun p u=>z ..) c (fun c=>h _ _ _ _ _ _ g c) fun p u c=>h _ _ _ _ _ _ g c
 rw[if_neg k5] at c;rw[if_neg k5,if_neg k5]
 by_cases k6:x.1=6
 .rw[if_pos k6] at c;rw[if_pos k6,if_pos k6]
  have gk:∀(d:BA⊕Aa) (i:Int) (u:Es),Gr u (match d with
   | .inl b=>if 0<=i/\i<b.size then(u,.inr ((b.data.toList.getD i.toNat 0).toNat:Int)) else(u,.inl 3)
   | .inr t=>if i=0 then bE (oJ F a t [] u) fun v s=>(s,.inr (v%256)) else(u,.inl 3):Eo Int).1:=fun d i u=>by
   cases d with
   |inl b=>dsimp only;split<;>exact .rfl' u
   |inr t=>
    dsimp only
    split
    .exact(Gr.enter z ..).bE fun _ u=> .rfl' u
    exact .rfl' u
  have B:C (mA s (I.dt x.2.2.2.1).1):=n _ _ (Gr.bE (o:=(mA s (I.dt x.2.2.2.1).1,(I.dt x.2.2.2.1).2)) (.rfl' _) (fun d u=>(z ..).bE fun i u=>gk d i u)) c
  obtain⟨y,f⟩:=r.dt t t' x s g D (.inl k6) B
  rw[y]
  generalize (I.dt x.2.2.2.1).2=p at f c ⊢
  generalize (J.dt x.2.2.2.1).2=q at f ⊢
  obtain e|b|d:=p<;>obtain e'|b'|d':=q<;>first|exact f.elim|skip
  .rw[show e=e' from f];rfl
  .rw[<-show b=b' from f]
   exact wF (o:=F a t vs (nU x 0) _) n (fun i u=>gk (.inl b) i u) c (fun c=>h _ _ _ _ _ _ g c) fun i u _=>rfl
  refine wF (o:=F a t vs (nU x 0) _) n (fun i u=>gk (.inr d) i u) c (fun c=>h _ _ _ _ _ _ g c) fun i u c=> ?_
  dsimp only at c ⊢
  split at c
  .rename_i l;rw[if_pos l,if_pos l]
   exact wF n (fun _ u=> .rfl' u) c (fun c=>SC r h f c) fun _ _ _=>rfl
  rename_i l;rw[if_neg l,if_neg l]
 rw[if_neg k6] at c;rw[if_neg k6,if_neg k6]
 by_cases k7:x.1=7
 .rw[if_pos k7] at c;rw[if_pos k7,if_pos k7]
  have B:C (mA s (I.dt x.2.2.2.1).1):=n _ _ (Gr.bE (o:=(mA s (I.dt x.2.2.2.1).1,(I.dt x.2.2.2.1).2)) (.rfl' _) (fun d u=> .rfl' u)) c
  obtain⟨y,f⟩:=r.dt t t' x s g D (.inr (.inl k7)) B
  rw[y]
  generalize (I.dt x.2.2.2.1).2=p at f ⊢
  generalize (J.dt x.2.2.2.1).2=q at f ⊢
  obtain e|b|d:=p<;>obtain e'|b'|d':=q<;>first|exact f.elim|skip
  .rw[show e=e' from f]
  .rw[show b=b' from f]
  rfl
 rw[if_neg k7] at c;rw[if_neg k7,if_neg k7]
 by_cases A:x.1=8
 .rw[if_pos A] at c;rw[if_pos A,if_pos A]
  obtain⟨y,f⟩:=r.dt t t' x s g D (.inr (.inr A)) c
  rw[y]
  generalize (I.dt x.2.2.2.1).2=p at f ⊢
  generalize (J.dt x.2.2.2.1).2=q at f ⊢
  obtain e|b|d:=p<;>obtain e'|b'|d':=q<;>first|exact f.elim|skip
  .rw[show e=e' from f]
  .rfl
  rfl
 rw[if_neg A] at c;rw[if_neg A,if_neg A]
 by_cases f:x.1=9
 .rw[if_pos f] at c;rw[if_pos f,if_pos f,r.en t t' x s g D f c]
 rw[if_neg f] at c;rw[if_neg f,if_neg f]
 have y:∀k:Int,0<k->k<10->x.1≠k:=fun k B l e=>by
  rcases(by omega:k=1\/k=2\/k=3\/k=4\/k=5\/k=6\/k=7\/k=8\/k=9) with rfl|rfl|rfl|rfl|rfl|rfl|rfl|rfl|rfl<;>contradiction
 rw[r.bt t t' x s g D y c]
theorem qFa(c:Agr I J C G):∀n,VM C G (ev I n) (ev J n)
 |0,_,_,_,_,_,_,_,_=>rfl
 |n+1,a,t,t',vs,i,s,d,b=>by
  unfold ev at b ⊢
  rw[c.body t t' d]
  split at b
  .rename_i h;rw[if_pos h,if_pos h]
  rename_i h
  rw[if_neg h,if_neg h]
  split at b
  .rfl
  rename_i x hx
  exact qPp c (Gr.ev I n) (qFa c n) d (fG hx) b
end
def PB{α:Type}(P:α->Prop)(x:cH⊕α):Prop:=∀a,x= .inr a->P a
theorem PB.fail{α:Type}{P:α->Prop}{t:cB}{e:Int}:PB P (eG t e):=fun _ h=>by cases h
theorem PB.ok{α:Type}{P:α->Prop}{a:α}(h:P a):PB P (.inr a):=fun b e=>by cases e;exact h
theorem PB.bind{α β:Type}{P:α->Prop}{Q:β->Prop}{x:cH⊕α}{f:α->cH⊕β}(h:PB P x)(b:∀a,P a->PB Q (f a)):PB Q (bI x f):=by
 cases x with
 |inl z=>exact fun _ e=>by cases e
 |inr a=>exact b a (h a rfl)
theorem PB.any{α:Type}{x:cH⊕α}:PB (fun _=>True) x:=fun _ _=>trivial
theorem PB.ite{α:Type}{P:α->Prop}{c:Prop}[Decidable c]{x y:cH⊕α}(a:c->PB P x)(b:¬c->PB P y):PB P (if c then x else y):=by
 split
 .exact a ‹_›
 exact b ‹_›
def okX(Z:Int->BA->Prop)(F:Int->Prop)(np i:Nat)(x:Ex):Prop:=
 (x.1=1/\-9007199254740992<=x.2.1/\x.2.1<=9007199254740992)\/(x.1=2/\0<=x.2.1/\x.2.1<np)\/(x.1=3/\Z 3 x.2.2.2.1/\x.2.2.2.2.length<=20000/\∀j∈x.2.2.2.2,0<=j/\j<(i:Int))\/
 (x.1=4/\∃j k:Nat,x.2.2.2.2=[(j:Int),(k:Int)]/\j<i/\k<i)\/(x.1=5/\∃j k l:Nat,x.2.2.2.2=[(j:Int),(k:Int),(l:Int)]/\j<i/\k<i/\l<i)\/
 (x.1=6/\Z 6 x.2.2.2.1/\∃j:Nat,x.2.2.2.2=[(j:Int)]/\j<i)\/((x.1=7\/x.1=8\/x.1=9)/\Z x.1 x.2.2.2.1)\/(x.1=10/\0<=x.2.1/\x.2.1<64/\F x.2.1)
def AD(Z:Int->BA->Prop)(F:Int->Prop)(t:cB):Prop:=
 (t.1=1->Z 3 t.2.1)/\(t.1=3->(iY t.2.1.data.toList=true->Z 6 t.2.1/\Z 7 t.2.1/\Z 8 t.2.1)/\(uW t.2.1=true->Z 9 t.2.1))/\(t.1=2->(0<=t.2.2.1/\t.2.2.1<=9007199254740992)/\(t.2.2.1<64->F t.2.2.1))
def OB(Z:Int->BA->Prop)(F:Int->Prop)(np:Nat)(l:List Ex):Prop:=(∀(i:Nat) x,l[i]? =some x->okX Z F np i x)/\l.length<=256
def EW(Z:Int->BA->Prop)(F:Int->Prop)(d:Dl):Prop:=OB Z F d.2.2.1.length d.2.2.2/\0<d.2.2.2.length/\d.2.2.1.length<=8/\(d.1≠1->d.2.2.1=[])
def okF(Z:Int->BA->Prop)(F:Int->Prop)(f:Sr):Prop:=(Z 3 f.1/\∀q∈f.2.1,Z 3 q)/\f.2.1.length<=8/\f.2.2.length<=64/\∀d∈f.2.2,EW Z F d
section
variable {Z:Int->BA->Prop} {F:Int->Prop} {ts:List cB} {ps:List BA} {E S:Ps->PM Nat}
def tD(Z:Int->BA->Prop)(F:Int->Prop)(ts:List cB):Prop:=∀j,AD Z F (aO ts j)
def Stp(Z:Int->BA->Prop)(F:Int->Prop)(np:Nat)(p:Ps)(r:Ps×Nat):Prop:=OB Z F np r.1.2/\p.2.length<=r.1.2.length/\r.2<r.1.2.length
def wQ(Z:Int->BA->Prop)(F:Int->Prop)(np:Nat)(E:Ps->PM Nat):Prop:=∀p,OB Z F np p.2->PB (Stp Z F np p) (E p)
theorem IJ(b:tD Z F ts){k:Int}{i:Nat}:PB (fun a=>AD Z F a.2/\a.2.1=k) (mG ts k i):= .ite (fun h=> .ok ⟨b i,h⟩) fun _=> .fail
theorem qEn(b:tD Z F ts){i:Nat}:PB (fun a=>Z 3 a.2.2.1) (mF ts i):= .bind (IJ b) fun _ h=> .ite (fun _=> .fail) fun _=> .ok (h.1.1 h.2)
theorem UK(b:tD Z F ts){i:Nat}:PB (fun a=>Z 6 a.2.2.1/\Z 7 a.2.2.1/\Z 8 a.2.2.1) (nK ts i):= .bind (IJ b) fun _ h=> .ite (fun g=> .ok ((h.1.2.1 h.2).1 g)) fun _=> .fail
theorem qRy(b:tD Z F ts){i:Nat}:PB (fun a=>Z 9 a.2.2.1) (wH ts i):= .bind (IJ b) fun _ h=> .ite (fun g=> .ok ((h.1.2.1 h.2).2 g)) fun _=> .fail
theorem zM{np:Nat}{t:cB}{x:Ex}{p q:Ps}(b:OB Z F np p.2)(d:q.2.length<=p.2.length)(c:okX Z F np p.2.length x):PB (Stp Z F np q) (lQ t x p):= .ite (fun _=> .fail) fun h=> .ok (by
 refine⟨⟨fun i y a=> ?_,?_⟩,?_,?_⟩
 .rw[List.getElem?_append] at a
  split at a
  .exact b.1 i y a
  rename_i hi
  obtain⟨k,e⟩:=List.getElem?_eq_some_iff.1 a
  obtain rfl:i=p.2.length:=by simp only[kZ] at k;omega
  rw[Nat.sub_self] at a
  cases a
  exact c
 .show(p.2++[x]).length<=256
  have:=b.2
  rw[jF,kZ];omega
 .show q.2.length<=(p.2++[x]).length
  rw[jF];omega
 show p.2.length<(p.2++[x]).length
 rw[jF,kZ];omega)
def OpL(n:Nat)(l:List Int):Prop:=∀j∈l,0<=j/\j<(n:Int)
theorem OpL.snoc{n m:Nat}{l:List Int}{k:Nat}(h:OpL n l)(c:n<=m)(b:k<m):OpL m (l++[(k:Int)]):=fun j a=>by
 rcases gI.1 a with a|a
 .have:=h j a;omega
 rw[gH.1 a];omega
variable {np:Nat}
theorem qFg(c:wQ Z F np E){q:Ps}:∀(n:Nat) (l:List Int) (p:Ps),OB Z F np p.2->q.2.length<=p.2.length->OpL p.2.length l->PB (fun r=>OB Z F np r.1.2/\q.2.length<=r.1.2.length/\OpL r.1.2.length r.2/\r.2.length<=l.length+n) (uX ts E n l p)
 |0,_,_,_,_,_=> .fail
 |n+1,l,p,t,f,d=> .bind (c p t) fun a h=> .ite (fun _ b e=>by
  obtain⟨g,k,o,s⟩:=qFg c n (l++[(a.2:Int)]) (a.1.1+1,a.1.2) h.1 (kX f h.2.1) (d.snoc h.2.1 h.2.2) b e
  exact⟨g,k,o,by rw[jF,kZ] at s;omega⟩) fun _=> .bind .any fun _ _=> .ok ⟨h.1,kX f h.2.1,d.snoc h.2.1 h.2.2,by rw[jF,kZ];omega⟩
theorem qLu(d:wQ Z F np E){p:Ps}(c:OB Z F np p.2):PB (fun r=>OB Z F np r.1.2/\p.2.length<=r.1.2.length/\OpL r.1.2.length r.2/\r.2.length<=ts.length+1) (vV ts E p):=
 .bind .any fun i _=> .ite (fun _=> .ok ⟨c,jP _,fun _ a=>(by cases a),kG _⟩) fun _ b e=>by
  have:=qFg d (q:=p) _ [] (i,p.2) c (jP _) (fun _ a=>by cases a) b e
  rwa[jB,kW] at this
theorem qNm(d:tD Z F ts)(e:wQ Z F np E){t:cB}{p q:Ps}(b:OB Z F np p.2)(c:q.2.length<=p.2.length):PB (Stp Z F np q) (sC ts E t p):=
 .bind .any fun _ _=> .bind (P:=fun r=>OB Z F np r.1.2/\q.2.length<=r.1.2.length/\okX Z F np r.1.2.length r.2)
  (.ite (fun _=> .bind (UK d) fun _ h=> .bind .any fun _ _=> .bind (e _ b) fun a g=> .ok ⟨g.1,kX c g.2.1,.inr (.inr (.inr (.inr (.inr (.inl ⟨rfl,h.1,a.2,rfl,g.2.2⟩)))))⟩) fun _=>
   .ite (fun _=> .bind (UK d) fun _ h=> .ok ⟨b,c,.inr (.inr (.inr (.inr (.inr (.inr (.inl ⟨.inl rfl,h.2.1⟩))))))⟩) fun _=>
   .ite (fun _=> .bind (UK d) fun _ h=> .ok ⟨b,c,.inr (.inr (.inr (.inr (.inr (.inr (.inl ⟨.inr (.inl rfl),h.2.2⟩))))))⟩) fun _=>
   .ite (fun _=> .bind (qRy d) fun _ h=> .ok ⟨b,c,.inr (.inr (.inr (.inr (.inr (.inr (.inl ⟨.inr (.inr rfl),h⟩))))))⟩) fun _=>
   .bind (IJ d) fun a h=> .ite (fun _=> .fail) fun g=> .ok ⟨b,c,.inr (.inr (.inr (.inr (.inr (.inr (.inr ⟨rfl,(h.1.2.2 h.2).1.1,Int.not_le.1 g,(h.1.2.2 h.2).2 (Int.not_le.1 g)⟩))))))⟩)
  fun _ h=> .bind .any fun _ _=>zM h.1 h.2.1 h.2.2
theorem qTo{n:Int}(h:0<=n/\n<=9007199254740992): -9007199254740992<=n/\n<=9007199254740992:=by omega
theorem qTk{n:Int}(h:0<=n/\n<=9007199254740992): -9007199254740992<=IntKind.wrap .i64 (0-n)/\IntKind.wrap .i64 (0-n)<=9007199254740992:=by
 rw[bZ aa aa];omega
theorem qQh(c:tD Z F ts)(f:ts.length<=16385)(d:wQ Z F ps.length E):wQ Z F ps.length (sV ts ps E):=by
 intro p b
 unfold sV
 refine .ite (fun h=>zM b (jP _) (.inl ⟨rfl,qTo ((c _).2.2 h).1⟩)) fun _=> .ite (fun _=> .bind (IJ c) fun _ h=>zM b (jP _) (.inl ⟨rfl,qTk (h.1.2.2 h.2).1⟩)) fun _=> .ite (fun _=> .bind (d _ b) fun _ h=> .bind .any fun _ _=> .ok h) fun _=>
  .ite (fun _=> .fail) fun e=> .ite (fun _=>qNm c d b (jP _)) fun _=> .ite (fun _=> .fail) fun _=>
  .ite (fun _=> .bind (qLu d b) fun a h=>zM h.1 h.2.1 (.inr (.inr (.inl ⟨rfl,(c _).1 (Decidable.not_not.1 e),by show a.2.length<=20000;omega,h.2.2.1⟩)))) fun _=> ?_
 split
 .rename_i i hi
  obtain⟨e,-⟩:=List.findIdx?_eq_some_iff_getElem.1 hi
  exact zM b (jP _) (.inr (.inl ⟨rfl,Int.natCast_nonneg i,Int.ofNat_lt.2 e⟩))
 exact .fail
theorem qFe{level:Nat}(b:wQ Z F np S){q:Ps}:∀(n x:Nat) (p:Ps),OB Z F np p.2->q.2.length<=p.2.length->x<p.2.length->PB (Stp Z F np q) (qA ts level S n x p)
 |0,_,_,_,_,_=> .fail
 |n+1,x,p,c,d,e=> .ite (fun _=> .ok ⟨c,d,e⟩) fun _=> .bind (b _ c) fun a h=> .bind (zM (q:=q) h.1 (kX d h.2.1) (.inr (.inr (.inr (.inl ⟨rfl,x,a.2,rfl,fS e h.2.1,h.2.2⟩))))) fun _ g=> .ite (fun _=> .ok g) fun _=>qFe b n _ _ g.1 g.2.1 g.2.2
theorem TO{level:Nat}(a:wQ Z F np S):wQ Z F np (sX ts level S):=fun p b=> .bind (a p b) fun _ h=>qFe a _ _ _ h.1 h.2.1 h.2.2
theorem IM(f:tD Z F ts)(d:ts.length<=16385):∀k:Nat,wQ Z F ps.length (eN ts ps k)
 |0=>fun _ _=> .fail
 |k+1=>fun p l=> .ite (fun _=> .bind (IM f d k _ l) fun a h=> .bind .any fun _ _=> .bind (IM f d k _ h.1) fun b g=> .bind .any fun _ _=> .bind (IM f d k _ g.1) fun c e=>
   zM e.1 (kX h.2.1 (kX g.2.1 e.2.1)) (.inr (.inr (.inr (.inr (.inl ⟨rfl,a.2,b.2,c.2,rfl,fS h.2.2 (kX g.2.1 e.2.1),fS g.2.2 e.2.1,e.2.2⟩)))))) fun _=>
  TO (TO (TO (qQh f d (IM f d k)))) p l
theorem qCd:∀(n:Nat) (l:List BA) (i:Nat),l.length<=8->PB (fun r=>r.2.length<=8) (tO ts n l i)
 |0,_,_,_=> .fail
 |n+1,l,i,a=> .bind .any fun _ _=> .ite (fun _=> .fail) fun h=> .ite (fun _=> .fail) fun _=>
  .ite (fun _=>qCd n _ _ (by rw[jF,kZ];omega)) fun _=> .bind .any fun _ _=> .ok (by show(l++[_]).length<=8;rw[jF,kZ];omega)
theorem qKs{i:Nat}:PB (fun r=>r.2.length<=8) (sB ts i):= .bind .any fun _ _=> .ite (fun _=> .ok (kG _)) fun _=>qCd _ _ _ (kG _)
theorem qUi(l:tD Z F ts)(f:ts.length<=16385)(before:List Dl)(i:Nat):PB (fun a=>EW Z F a.2) (oK ts before i):=by
 unfold oK
 exact .ite (fun _=> .fail) fun _=> .ite (fun _=> .fail) fun _=> .bind .any fun _ _=> .ite (fun _=> .fail) fun _=>
  .bind (P:=fun b=>b.2.length<=8/\(mH (aO ts i).2.1≠1->b.2=[])) (.ite (fun h b e=>⟨qKs b e,fun k=>absurd h k⟩) fun _=> .ok ⟨kG _,fun _=>rfl⟩) fun b d=> .bind .any fun _ _=>
  .bind (IM l f _ (_,[]) ⟨fun i x h=>(by simp at h),kG _⟩) fun c g=> .bind .any fun _ _=> .ok ⟨g.1,Nat.lt_of_le_of_lt (kG _) g.2.2,d.1,d.2⟩
theorem qDm(e:tD Z F ts)(b:ts.length<=16385):∀(n:Nat) (l:List Dl) (i:Nat),(∀d∈l,EW Z F d)->PB (fun r=>∀d∈r,EW Z F d) (tQ ts n l i)
 |0,_,_,_=> .fail
 |n+1,l,i,c=> .ite (fun _=> .ok c) fun _=> .bind (qUi e b _ _) fun _ h=>qDm e b n _ _ fun d a=>by
  rcases gI.1 a with a|a
  .exact c d a
  rw[gH.1 a];exact h
theorem ZS(d:tD Z F ts){pkg:BA}:∀(n:Nat) (l:List BA) (i:Nat),(∀q∈l,Z 3 q)->l.length<=8->PB (fun r=>(∀q∈r.2,Z 3 q)/\r.2.length<=8) (qV ts pkg n l i)
 |0,_,_,_,_=> .fail
 |n+1,l,i,c,e=> .ite (fun _=> .ite (fun _=> .fail) fun h=> .bind (qEn d) fun a f=> .ite (fun _=> .fail) fun _=> .bind .any fun _ _=>ZS d n _ _ (fun q b=>by
  rcases gI.1 b with b|b
  .exact c q b
  rw[gH.1 b];exact f) (by rw[jF,kZ];omega)) fun _=> .ok ⟨c,e⟩
end
theorem qDl{Z:Int->BA->Prop}{F:Int->Prop}{s:BA}(c:Z 3 ⟨#[]⟩)(n:(lD s).2.2=0->∀t∈(lD s).1,AD Z F t):okF Z F (lJ s).1:=by
 have a:=MU (s:=s)
 have b:okF Z F sL:=⟨⟨c,fun _ h=>by cases h⟩,kG _,kG _,fun _ h=>by cases h⟩
 unfold lJ at a ⊢
 by_cases h0:(lD s).2.2=0
 .rw[if_neg (not_not_intro h0)] at a ⊢
  obtain⟨p,e,-⟩:=MW h0
  have g:tD Z F (lD s).1:=fun j=>by
   unfold aO
   rw[jU]
   cases hj:(lD s).1[j]? with
   |none=>exact⟨fun h=>absurd h ac,fun h=>absurd h ac,fun h=>absurd h ac⟩
   |some t=>exact n h0 t (fG hj)
  cases hf:tS (lD s).1 with
  |inl z=>exact b
  |inr f=>
   rw[hf] at a
   have key:PB (fun f=>(Z 3 f.1/\∀q∈f.2.1,Z 3 q)/\f.2.1.length<=8/\∀d∈f.2.2,EW Z F d) (tS (lD s).1):=
    .bind .any fun _ _=> .bind (qEn g) fun _ l=> .bind .any fun _ _=> .bind (ZS g _ [] _ (fun _ h=>by cases h) (kG _)) fun _ k=> .bind (qDm g e _ [] _ fun _ h=>by cases h) fun _ c=> .ok ⟨⟨l,k.1⟩,k.2,c⟩
   obtain⟨k,l,o⟩:=key f hf
   exact⟨k,l,a,o⟩
 rw[if_pos h0];exact b
end
section
open Go Go.Dc Go.Proofs
def VB(v:Int):Prop:= -9223372036854775808<=v/\v<=9223372036854775807
theorem qRr(v:Int):VB (IntKind.wrap .i64 v):=by unfold VB;simp only[IntKind.wrap,IntKind.signed,IntKind.bits];simp;omega
abbrev nG:=List (BA×Int)
def lX(L:List bM)(e:dQ):Aa:=(vC (eZ L) e,(vC (eZ L) e).2.2.getD e.2.2.2.2.1.toNat (0,⟨#[]⟩,[],[]))
def arP(op a b:Int):Int⊕Int:=match AG op a b (none,0,0,false) with
 |some (.inl z)=> .inl z.1
 |some (.inr y)=> .inr y.2
 |none=> .inl 0
def VA(w k:Int):Int:=IntKind.wrap .i64 (EL .u64 ((zY .u64 w k).getD 0) 1)
def uV(L:List bM)(r:dQ×List K3×Int):List Ky×(Int⊕Aa):=(r.2.1,if r.2.2=0 then .inr (lX L r.1) else .inl r.2.2)
def nR(L:List bM)(p:BA):List Ky×(Int⊕(BA⊕Aa)):=match iD L p with
 |some b=>([(4,p,⟨#[]⟩)],.inr (.inl b))
 |none=>([(4,p,⟨#[]⟩),(3,p,⟨#[]⟩)],if(cG L 3 eY p).2.2.2.2.2=0 then .inl 14 else if 1<(cG L 3 eY p).2.2.2.2.2 then .inl 12 else .inr (.inr (lX L (cG L 3 eY p))))
def EC(env:nG)(nm:BA):Option Int:=(env.find? fun v=>v.1.toList==nm.toList).map (·.2)
def lA(L:List bM)(env:nG)(w:Int):Lk where
 cl f nm:=if 8<f.2.1.length then([],.inl 0) else uV L (mZ (fun p=>cG L 1 p nm) nm (f.1::f.2.1) [])
 dt:=nR L
 en:=EC env
 bt:=VA w
 ar:=arP
def nW(ks:List Ky):EB:=some (ks.foldl (fun M k=>mset M k true) [])
abbrev lV(s:Es)(a:Nat):nE:=(nW s.1,(s.2.1:Int),(a:Int),s.2.2)
def qN(a:Nat)(o:Eo Int)(r:Option pP):Prop:=match o.2 with
 | .inr v=>r=some (.inr (lV o.1 a,v))/\VB v
 | .inl e=>∃a':Int,r=some (.inl (e,(nW o.1.1,(o.1.2.1:Int),a',o.1.2.2)))
def Cnd(n:Nat)(s:Es):Prop:=s.2.1<=20000/\20000<s.2.1+n
theorem Cnd.gr{n:Nat}{s s':Es}(h:Cnd n s)(g:Gr s s'):Cnd n s':=⟨g.2.2.1 h.1,fS h.2 (Nat.add_le_add_right g.2.1 n)⟩
theorem qUd{v:Int}(h:yI v=true):VB v:=by
 unfold yI at h;unfold VB
 simp only[jJ,j6] at h
 omega
theorem qUx{b:Int}(c:b≠0)(a:VB b):(if IntKind.wrap .i64 (0-b)>b then IntKind.wrap .i64 (0-b) else b)≠0:=by
 unfold VB at a
 by_cases h:b= -9223372036854775808
 .subst h;decide
 rw[bZ aa aa];split<;>omega
theorem qUg(v:Int)(t:nE):(∃e,∀t:nE,qM v t= .inl (e,t))\/((∀t:nE,qM v t= .inr (t,v))/\VB v):=by
 unfold qM
 cases h:yI v with
 |true=>exact .inr ⟨fun _=>rfl,qUd h⟩
 |false=>exact .inl ⟨3,fun _=>rfl⟩
theorem qVn(op a b:Int)(c:VB b):(∃e,∀t:nE,AG op a b t=some (.inl (e,t)))\/(∃v,(∀t:nE,AG op a b t=some (.inr (t,v)))/\VB v):=by
 have lift:∀v,((∃e,∀t:nE,some (qM v t)=some (.inl (e,t)))\/(∃v',(∀t:nE,some (qM v t)=some (.inr (t,v')))/\VB v')):=fun v=>by
  rcases qUg v (none,0,0,false) with ⟨e,h⟩|⟨h,g⟩
  .exact .inl ⟨e,fun t=>by rw[h t]⟩
  exact .inr ⟨v,fun t=>by rw[h t],g⟩
 unfold AG
 by_cases p1:op=1
 .simp only[if_pos p1];exact lift _
 simp only[if_neg p1]
 by_cases p2:op=2
 .simp only[if_pos p2];exact lift _
 simp only[if_neg p2]
 by_cases p3:op=3
 .simp only[if_pos p3]
  by_cases h0:b≠0
  .simp only[if_pos h0,vA,if_neg (qUx h0 c),j0]
   cases decide ((if IntKind.wrap .i64 (0-a)>a then IntKind.wrap .i64 (0-a) else a)>IntKind.wrap .i64 ((9007199254740992:Int).tdiv (if IntKind.wrap .i64 (0-b)>b then IntKind.wrap .i64 (0-b) else b))) with
   |true=>exact .inl ⟨3,fun _=>rfl⟩
   |false=>exact lift _
  simp only[if_neg h0,j0];exact lift _
 simp only[if_neg p3]
 by_cases p4:op=4\/op=5
 .simp only[if_pos p4]
  by_cases h0:b=0
  .simp only[if_pos h0];exact .inl ⟨4,fun _=>rfl⟩
  simp only[if_neg h0,vA,yB,j0]
  by_cases p5:op=5
  .simp only[if_pos p5];exact lift _
  simp only[if_neg p5];exact lift _
 simp only[if_neg p4]
 by_cases p6:op=6
 .simp only[if_pos p6];exact lift _
 simp only[if_neg p6];exact lift _
theorem qUn{op p q:Int}(b:VB q)(a:Nat)(s:Es):qN a (s,arP op p q) (AG op p q (lV s a)):=by
 unfold arP qN
 rcases qVn op p q b with ⟨e,h⟩|⟨v,h,g⟩
 .rw[h,h];exact⟨_,rfl⟩
 rw[h,h];exact⟨rfl,g⟩
theorem qTe{N:Nat}{m:OS}{M:List (EKy×Bool)}{ks:List Ky}(b:m.2.2.2.1=some M)(c:ks.length<1000000)(a:ks.length<N):
  pT N m ks=some (some (ks.foldl (fun M k=>mset M k true) M),m.2.2.2.2.1,m.2.2.2.2.2.1,m.2.2.2.2.2.2.1):=by
 unfold pT
 rw[b]
 have:=DF (f:=FI N ks) (fun i=>((i:Int),some ((ks.take i).foldl (fun M k=>mset M k true) M))) ks.length (some (ks.foldl (fun M k=>mset M k true) M)) (fun i hi=>by
  simp only[FI]
  rw[if_pos (by simpa using hi),eR hi]
  simp only[j0,eA,kK]
  rw[bZ aa aa,kT hi,gF]
  rfl) (by simp only[FI];rw[if_neg ae,fN]) a
 rw[show((0:Int),some M)=(((0:Nat):Int),some ((ks.take 0).foldl (fun M k=>mset M k true) M)) from rfl,this];rfl
theorem IA{N:Nat}{W:AA}{env:nG}{w:Int}{s:Es}{a:Nat}{ks:List Ky}(c:ks.length<1000000)(b:ks.length<N):pT N (dR W env w (lV s a)) ks=some (lV (mA s ks) a):=by
 rw[qTe (M:=s.1.foldl (fun M k=>mset M k true) []) rfl c b]
 show some (some _,_,_,_)=some (nW (s.1++ks),_,_,_)
 unfold nW
 rw[gF];rfl
structure Wrl(N:Nat)(L:List bM)(env:nG)(Z:Int->BA->Prop)(F:Int->Prop):Prop where
 hN:2000000<N
 hc:lK L=0
 src:∀f∈L,oU f=true->okF Z F (lJ f.2).1
 env:env.length<=16/\∀v∈env,VB v.2
def tE(Z:Int->BA->Prop)(F:Int->Prop)(t:Aa):Prop:=EW Z F t.2/\t.1.2.1.length<=8/\Z 3 t.1.1/\∀q∈t.1.2.1,Z 3 q
section
variable {N:Nat} {L:List bM} {env:nG} {w:Int} {Z:Int->BA->Prop} {F:Int->Prop}
theorem Wrl.asc(H:Wrl N L env Z F):Asc L:=(rI.1 H.hc).2.1
theorem DG(H:Wrl N L env Z F){k:Int}{p n:BA}(l:(cG L k p n).2.2.2.2.2=1):
  bS (vC (eZ L) (cG L k p n)).2.2 (cG L k p n).2.2.2.2.1=some (lX L (cG L k p n)).2/\tE Z F (lX L (cG L k p n))/\(lX L (cG L k p n)).2.1=k:=by
 have e:cG L k p n=lW (iF (eS L)) k p n:=by unfold cG;rw[if_pos H.hc]
 rw[e] at l
 obtain⟨o,u,h,a⟩:=qDk (O:=iF (eS L)) (k:=k) (p:=p) (n:=n) (by rw[l];decide)
 obtain⟨f,r,s,j,d,g,rfl⟩:=ZW u
 have v:(eZ L).2.2.1=some (OL L):=by unfold eZ;rw[if_pos H.hc];rfl
 have b:(cG L k p n).2.2.2.1=f.1/\(cG L k p n).2.2.2.2.1=(j:Int):=by
  rw[e];unfold ED at a;simp only[Prod.mk.injEq] at a;exact⟨a.2.2.2.1,a.2.2.2.2⟩
 have q:vC (eZ L) (cG L k p n)=(lJ f.2).1:=by
  unfold vC
  rw[b.1,v,bC,j0,ZI H.asc r,if_pos s];rfl
 have c:(lX L (cG L k p n))=((lJ f.2).1,d):=by
  unfold lX
  rw[q,b.2,kD,jU,g];rfl
 obtain⟨x,y,A,z⟩:=H.src f r s
 refine⟨?_,?_,?_⟩
 .obtain⟨t,rfl⟩:=List.getElem?_eq_some_iff.1 g
  rw[c,q,b.2,eR t]
 .rw[c];exact⟨z d (fG g),y,x⟩
 rw[c]
 unfold rP nL at h
 simp only[Prod.mk.injEq] at h
 exact h.1
end
theorem NL{E:BA->dQ}{nm:BA}(a:∀p,0<=(E p).2.2.2.2.2):∀(l:List BA) (acc:List K3),
  ((mZ E nm l acc).2.2=0->∃p,(mZ E nm l acc).1=E p/\(E p).2.2.2.2.2=1)/\(mZ E nm l acc).2.1.length<=acc.length+l.length
 |[],acc=>⟨fun h=>absurd h (by show ¬((11:Int)=0);decide),jP _⟩
 |p::l,acc=>by
  unfold mZ
  split
  .obtain⟨b,c⟩:=NL a l (acc++[(1,p,nm)])
   exact⟨b,by simp only[jF,jA,jB] at c ⊢;omega⟩
  split
  .exact⟨fun h=>absurd h (by show ¬((12:Int)=0);decide),by simp only[jF,jA,jB];omega⟩
  exact⟨fun _=>⟨p,rfl,by have:=a p;omega⟩,by simp only[jF,jA,jB];omega⟩
section
variable {N:Nat} {L:List bM} {env:nG} {w:Int} {Z:Int->BA->Prop} {F:Int->Prop}
theorem qNx(H:Wrl N L env Z F)(p:BA):HB N (eZ L) p=some (match iD L p with
  |some _=>(1,qL,[(4,p,eY)],0)
  |none=>if(cG L 3 eY p).2.2.2.2.2=0 then(0,qL,[(4,p,eY),(3,p,eY)],14)
   else if 1<(cG L 3 eY p).2.2.2.2.2 then(3,qL,[(4,p,eY),(3,p,eY)],12)
   else(2,cG L 3 eY p,[(4,p,eY),(3,p,eY)],0)):=by
 have a:=H.hN
 simp only[HB,qBx p (rI.1 H.hc).1 (show 100<N by omega),j0]
 cases hg:iD L p with
 |some b=>simp only[DX];rfl
 |none=>
  simp only[DX,j9,jC]
  rw[iS ag aa]
  simp only[j0,NO]
  have e:(⟨#[]⟩:BA)=eY:=rfl
  rw[e]
  by_cases h0:(cG L 3 eY p).2.2.2.2.2=0
  .rw[if_pos (by simp[h0]),if_pos h0];rfl
  rw[if_neg (by simp[h0]),if_neg h0]
  by_cases h1:1<(cG L 3 eY p).2.2.2.2.2
  .rw[if_pos (jM h1),if_pos h1];rfl
  rw[if_neg (by simpa using h1),if_neg h1];rfl
def DY(L:List bM)(p:BA):Bool×dQ×BA×Int:=match iD L p with
 |some b=>(false,qL,b,0)
 |none=>if(cG L 3 eY p).2.2.2.2.2=0 then(true,qL,eY,14) else if 1<(cG L 3 eY p).2.2.2.2.2 then(true,qL,eY,12) else(true,cG L 3 eY p,eY,0)
theorem TP(H:Wrl N L env Z F)(p:BA)(s:Es)(a:Nat):vM N (dR (eZ L) env w (lV s a)) p=some (lV (mA s (nR L p).1) a,DY L p):=by
 have e:=H.hN
 unfold vM
 rw[show HB N _ p=_ from qNx H p,j0]
 have c:uI N (eZ L) p=some (DX (iD L p)):=qBx p (rI.1 H.hc).1 aa
 unfold nR DY
 cases hg:iD L p with
 |some b=>
  rw[hg] at c
  rw[show pT N _ _=_ from IA (N:=N) (W:=eZ L) (env:=env) (w:=w) (s:=s) (a:=a) (ks:=[(4,p,eY)]) (by show 1<1000000;decide) (by show 1<N;omega),j0]
  rw[show uI N _ p=_ from c,j0];rfl
 |none=>
  rw[hg] at c
  have d:=IA (N:=N) (W:=eZ L) (env:=env) (w:=w) (s:=s) (a:=a) (ks:=[(4,p,eY),(3,p,eY)]) (by show 2<1000000;decide) (by show 2<N;omega)
  dsimp only
  by_cases h0:(cG L 3 eY p).2.2.2.2.2=0
  .rw[if_pos h0,if_pos h0,show pT N _ _=_ from d,j0]
   rw[show uI N _ p=_ from c,j0];rfl
  rw[if_neg h0,if_neg h0]
  by_cases h1:1<(cG L 3 eY p).2.2.2.2.2
  .rw[if_pos h1,if_pos h1,show pT N _ _=_ from d,j0]
   rw[show uI N _ p=_ from c,j0];rfl
  rw[if_neg h1,if_neg h1,show pT N _ _=_ from d,j0]
  rw[show uI N _ p=_ from c,j0];rfl
theorem qLf(H:Wrl N L env Z F)(nm:BA):GW N env nm=some (match EC env nm with|some v=>(v,true)|none=>(0,false)):=by
 have c:=H.hN
 have a:=H.env.1
 have:=yX (L:=env) (f:=BU N env nm) (fun(_:Unit) i=>(i:Int)) (fun _ v=>if(v.1.toList==nm.toList)then .inr (.inr (v.2,true)) else .inl ()) (fun _=> .inl ()) (fun _ _=>True)
  (fun t i hi _=>by
   simp only[BU]
   rw[if_pos (by simpa using hi),eR hi,j0]
   split
   .rfl
   rw[bZ aa aa];rfl) (fun _ _ _ _ _ _=>trivial) (fun _ _=>by simp only[BU];rw[if_neg ae]) (M:=N) (t:=()) aa trivial
 unfold GW
 rw[show aK (BU N env nm) N 0=_ from this,j0]
 unfold EC
 clear this a
 have key:∀l:nG,(match run (fun(_:Unit) (v:BA×Int)=>if(v.1.toList==nm.toList)then(.inr (.inr (v.2,true)):Unit⊕(Unit⊕(Int×Bool))) else .inl ()) (fun _=> .inl ()) l () with| .inl _=>some ((0:Int),false)| .inr z=>some z)=
   some (match(l.find? fun v=>v.1.toList==nm.toList).map (·.2) with|some v=>(v,true)|none=>(0,false)):=fun l=>by
  induction l with
  |nil=>rfl
  |cons v l b=>
   simp only[run,List.find?_cons]
   cases hv:v.1.toList==nm.toList with
   |true=>simp
   |false=>simpa using b
 exact key env
theorem TM(e:Int):CL N e=some (bif decide (e≠0) then .inl e else .inr ()):=by
 unfold CL
 by_cases h:e=0
 .simp[h]
 simp[h]
variable {x:Ex} {c:JI} {s:Es} {a:Nat}
theorem OD:VB 1:=⟨by decide,by decide⟩
theorem qTn:VB 0:=⟨by decide,by decide⟩
theorem RG(H:Wrl N L env Z F)(p:BA):(∃b,b.size<=16384/\nR L p=([(4,p,⟨#[]⟩)],.inr (.inl b))/\DY L p=(false,qL,b,0))\/(∃ks e,e≠0/\nR L p=(ks,.inl e)/\DY L p=(true,qL,eY,e))\/
  ((cG L 3 eY p).2.2.2.2.2=1/\∃ks,nR L p=(ks,.inr (.inr (lX L (cG L 3 eY p))))/\DY L p=(true,cG L 3 eY p,eY,0)):=by
 unfold DY nR
 cases hg:iD L p with
 |some b=>
  exact .inl ⟨b,((rI.1 H.hc).2.2 _ (qRc hg)).2,rfl,rfl⟩
 |none=>
  have h:=CT L 3 eY p
  by_cases h0:(cG L 3 eY p).2.2.2.2.2=0
  .exact .inr (.inl ⟨[(4,p,⟨#[]⟩),(3,p,⟨#[]⟩)],14,by decide,by simp only[if_pos h0],by simp only[if_pos h0]⟩)
  by_cases h1:1<(cG L 3 eY p).2.2.2.2.2
  .exact .inr (.inl ⟨[(4,p,⟨#[]⟩),(3,p,⟨#[]⟩)],12,by decide,by simp only[if_neg h0,if_pos h1],by simp only[if_neg h0,if_pos h1]⟩)
  exact .inr (.inr ⟨by omega,[(4,p,⟨#[]⟩),(3,p,⟨#[]⟩)],by simp only[if_neg h0,if_neg h1],by simp only[if_neg h0,if_neg h1]⟩)
theorem qTb(H:Wrl N L env Z F):qN a (bE (mA s (nR L x.2.2.2.1).1,(nR L x.2.2.2.1).2) fun t s=>(s,.inr (match t with| .inl b=>(b.size:Int)| .inr _=>1))) (BR N (dR (eZ L) env w (lV s a)) c x):=by
 unfold BR
 rw[show vM N _ _=_ from TP (w:=w) H x.2.2.2.1 s a,j0,TM]
 rcases RG H x.2.2.2.1 with ⟨b,h,d,f⟩|⟨ks,e,g,d,f⟩|⟨-,ks,d,f⟩
 .rw[d,f];exact⟨rfl,by unfold VB;dsimp only;omega⟩
 .rw[d,f];dsimp only;rw[jM g];exact⟨_,rfl⟩
 rw[d,f];exact⟨rfl,OD⟩
theorem qUh(H:Wrl N L env Z F):qN a (mA s (nR L x.2.2.2.1).1,.inr (match(nR L x.2.2.2.1).2 with| .inl e=>(if e=14 then 0 else 1)| .inr _=>1)) (BW N (dR (eZ L) env w (lV s a)) c x):=by
 unfold BW
 rw[show vM N _ _=_ from TP (w:=w) H x.2.2.2.1 s a,j0,qCo]
 rcases RG H x.2.2.2.1 with ⟨b,g,d,f⟩|⟨ks,e,h,d,f⟩|⟨-,ks,d,f⟩
 .rw[d,f];exact⟨rfl,OD⟩
 .rw[d,f];dsimp only
  by_cases h14:e=14
  .subst h14;exact⟨rfl,qTn⟩
  rw[if_neg h14,show(e !=14)=true by simpa using h14];exact⟨rfl,OD⟩
 rw[d,f];exact⟨rfl,OD⟩
theorem qUe(H:Wrl N L env Z F):qN a (mA s [(5,x.2.2.2.1,⟨#[]⟩)],match EC env x.2.2.2.1 with|some v=> .inr v|none=> .inl 15) (AY N (dR (eZ L) env w (lV s a)) c x):=by
 have d:=H.hN
 unfold AY
 rw[show pT N _ _=_ from IA (N:=N) (W:=eZ L) (env:=env) (w:=w) (s:=s) (a:=a) (ks:=[(5,x.2.2.2.1,⟨#[]⟩)]) (by show 1<1000000;decide) (by show 1<N;omega),j0]
 rw[show GW N _ x.2.2.2.1=_ from qLf H x.2.2.2.1,j0,uL]
 cases hv:EC env x.2.2.2.1 with
 |some v=>
  refine⟨rfl,?_⟩
  unfold EC at hv
  obtain⟨y,b,rfl⟩:=kA.1 hv
  exact H.env.2 y (gO b)
 |none=>exact⟨_,rfl⟩
theorem qRl(d:0<=x.2.1):qN a ((s.1,s.2.1,true),.inr (VA w x.2.1)) (BT N (dR (eZ L) env w (lV s a)) c x):=by
 unfold BT VA
 have b:zY .u64 w x.2.1=some (w.fdiv (2^(min x.2.1.toNat IntKind.u64.bits))):=by unfold zY;rw[if_neg aa]
 rw[show zY .u64 _ x.2.1=_ from b,j0]
 exact⟨rfl,qRr _⟩
end
section
variable {N:Nat} {L:List bM} {env:nG} {w:Int} {Z:Int->BA->Prop} {F:Int->Prop} {n:Nat}
abbrev AI(N:Nat)(L:List bM)(env:nG)(w:Int)(Z:Int->BA->Prop)(F:Int->Prop)(n:Nat):Prop:=
 ∀(D a:Nat) (t:Aa) (vs:List Int) (i:Int) (s:Es),Cnd n s->3*n<=D->a<=64->tE Z F t->t.2.2.2.1.length=vs.length->(∀v∈vs,VB v)->0<=i->i<t.2.2.2.2.length->
  qN a (ev (lA L env w) n a t vs i s) (GN N D (dR (eZ L) env w (lV s a)) (t.1,t.2,vs) i)
theorem SE(u:AI N L env w Z F n){D a:Nat}{s:Es}{e:dQ}{vs:List Int}(k:Cnd n s)(f:3*n<=D)(x:a<=64)(l:bS (vC (eZ L) e).2.2 e.2.2.2.2.1=some (lX L e).2)(b:tE Z F (lX L e))
  (p:(lX L e).2.2.2.1.length=vs.length) (r:∀v∈vs,VB v):qN a (oJ (ev (lA L env w) n) a (lX L e) vs s) (GE N (D+1) (dR (eZ L) env w (lV s a)) e vs):=by
 unfold oJ
 by_cases h64:a=64
 .subst h64
  rw[if_pos rfl]
  refine⟨((64:Nat):Int),?_⟩
  show BH N (GN N D) (GE N D) (GC N D) (GB N D) (GI N D) (GR N D) (dR (eZ L) env w (lV s 64)) e vs=_
  unfold BH
  rw[uL];rfl
 rw[if_neg h64]
 have y:=b.1.2.1
 have d:=b.1.1.2
 have c:=u D (a+1) (lX L e) vs (((lX L e).2.2.2.2.length:Int)-1) s k f aa b p r aa aa
 have key:∀o,GN N D (dR (eZ L) env w (lV s (a+1))) ((lX L e).1,(lX L e).2,vs) (((lX L e).2.2.2.2.length:Int)-1)=some o->GE N (D+1) (dR (eZ L) env w (lV s a)) e vs=some (qEz o):=fun o q=>
  qQa (t:=lV s a) (by show((a:Nat):Int)≠64;omega) l (by
   rw[show IntKind.wrap .i64 ((lV s a).2.2.1+1)=((a+1:Nat):Int) from by show IntKind.wrap .i64 ((a:Int)+1)=_;rw[bZ aa aa];rfl]
   rw[bZ aa aa]
   exact q)
 revert c
 generalize ev (lA L env w) n (a+1) (lX L e) vs (((lX L e).2.2.2.2.length:Int)-1) s=o
 obtain⟨s',er|v⟩:=o
 .rintro⟨a',h⟩
  exact⟨a',key _ h⟩
 rintro⟨h,g⟩
 refine⟨(key _ h).trans ?_,g⟩
 show some (Sum.inr ((nW s'.1,(s'.2.1:Int),IntKind.wrap .i64 (((a+1:Nat):Int)-1),s'.2.2),v))=_
 rw[bZ aa aa,show(((a+1:Nat):Int)-1)=(a:Int) from by omega]
def VI(a:Nat)(acc:List Int)(k:Nat)(o:Eo (List Int))(r:Option ((List Int×Int×Int×Bool×EB)⊕pP)):Prop:=match o.2 with
 | .inr us=>r=some (.inl (acc++us,(o.1.2.1:Int),(a:Int),o.1.2.2,nW o.1.1))/\(∀u∈us,VB u)/\us.length=k
 | .inl e=>∃a':Int,r=some (.inr (.inl (e,(nW o.1.1,(o.1.2.1:Int),a',o.1.2.2))))
theorem qCc(E:AI N L env w Z F n){D a:Nat}{t:Aa}{vs:List Int}(p:3*n<=D)(q:a<=64)(A:tE Z F t)(y:t.2.2.2.1.length=vs.length)(B:∀v∈vs,VB v){x:Ex}{t0:nE}
  (R:x.2.2.2.2.length<=20000) (z:∀j∈x.2.2.2.2,0<=j/\j<(t.2.2.2.2.length:Int)):∀(d i M:Nat) (acc:List Int) (s:Es),i+d=x.2.2.2.2.length->d<M->acc.length<=i->Cnd n s->
  VI a acc d (rT (ev (lA L env w) n a t vs) (x.2.2.2.2.drop i) s) (aK (tI N (GN N D) (dR (eZ L) env w t0) (t.1,t.2,vs) x) M (acc,(i:Int),(s.2.1:Int),(a:Int),s.2.2,nW s.1))
 |_,_,0,_,_,_,h,_,_=>absurd h (gG _)
 |0,i,M+1,acc,s,G,b,f,k=>by
  rw[jQ aa]
  refine⟨?_,fun u c=>(by cases c),rfl⟩
  simp only[aK,tI]
  rw[if_neg ai,gQ];rfl
 |d+1,i,M+1,acc,s,G,b,f,k=>by
  have hi:i<x.2.2.2.2.length:=by omega
  rw[HN hi]
  have r:=z _ (jT hi)
  have K:=E D a t vs x.2.2.2.2[i] s k p q A y B r.1 r.2
  have l:=Gr.ev (lA L env w) n a t vs x.2.2.2.2[i] s
  unfold rT
  revert K l
  generalize ev (lA L env w) n a t vs x.2.2.2.2[i] s=o
  obtain⟨s',er|v⟩:=o
  .rintro⟨a',h⟩ _
   have e:tI N (GN N D) (dR (eZ L) env w t0) (t.1,t.2,vs) x (acc,(i:Int),(s.2.1:Int),(a:Int),s.2.2,nW s.1)=some (.inr (.inr (.inl (er,(nW s'.1,(s'.2.1:Int),a',s'.2.2))))):=by
    simp only[tI]
    rw[if_pos (by simpa using hi),eR hi,j0,show GN N D _ _ _=_ from h];rfl
   refine⟨a',?_⟩
   simp only[aK,e,j0];rfl
  rintro⟨h,g⟩ l
  have e:tI N (GN N D) (dR (eZ L) env w t0) (t.1,t.2,vs) x (acc,(i:Int),(s.2.1:Int),(a:Int),s.2.2,nW s.1)=some (.inl (acc++[v],((i+1:Nat):Int),(s'.2.1:Int),(a:Int),s'.2.2,nW s'.1)):=by
   simp only[tI]
   rw[if_pos (by simpa using hi),eR hi,j0,show GN N D _ _ _=_ from h]
   simp only[j0,lV]
   rw[iS ag aa,j0,bZ aa aa];rfl
  simp only[aK,e,j0]
  have rc:=qCc E p q A y B (t0:=t0) R z d (i+1) M (acc++[v]) s' aa aa aj (k.gr l)
  revert rc
  show VI a (acc++[v]) d _ _->VI a acc (d+1) (bE (s',Sum.inr v) _) _
  simp only[bE]
  generalize rT (ev (lA L env w) n a t vs) (x.2.2.2.2.drop (i+1)) s'=o2
  obtain⟨s2,er|us⟩:=o2
  .rintro⟨a',b⟩
   exact⟨a',b⟩
  rintro⟨b,f,H⟩
  refine⟨b.trans ?_,fun u c=> ?_,by show(v::us).length=d+1;rw[jA,H]⟩
  .show some (Sum.inl ((acc++[v])++us,_))=some (Sum.inl (acc++(v::us),_))
   rw[kM];rfl
  rcases jI.1 c with rfl|c
  .exact g
  exact f u c
theorem qQf(H:Wrl N L env Z F)(M:AI N L env w Z F n){D a:Nat}{t:Aa}{vs:List Int}{s:Es}{x:Ex}(G:Cnd n s)(V:3*n<=D)(B:a<=64)(K:tE Z F t)(Y:t.2.2.2.1.length=vs.length)(hv:∀v∈vs,VB v)
  (hx:x.2.2.2.2.length<=20000) (ho:∀j∈x.2.2.2.2,0<=j/\j<(t.2.2.2.2.length:Int)):
  qN a (bE (mA s (uV L (mZ (fun p=>cG L 1 p x.2.2.2.1) x.2.2.2.1 (t.1.1::t.1.2.1) [])).1,(uV L (mZ (fun p=>cG L 1 p x.2.2.2.1) x.2.2.2.1 (t.1.1::t.1.2.1) [])).2) fun u s=>bE (rT (ev (lA L env w) n a t vs) x.2.2.2.2 s) fun us s=>
   if us.length=u.2.2.2.1.length then oJ (ev (lA L env w) n) a u us s else(s,.inl 13)) (GC N (D+2) (dR (eZ L) env w (lV s a)) (t.1,t.2,vs) x):=by
 have hN:=H.hN
 have h8:=K.2.1
 show qN a _ (KV N (GN N (D+1)) (GE N (D+1)) (GC N (D+1)) (GB N (D+1)) (GI N (D+1)) (GR N (D+1)) (dR (eZ L) env w (lV s a)) (t.1,t.2,vs) x)
 unfold KV
 have c:CJ N (eZ L) t.1 x.2.2.2.1=some (mZ (fun p=>cG L 1 p x.2.2.2.1) x.2.2.2.1 (t.1.1::t.1.2.1) []):=qOb (f:=t.1) aa aa
 rw[show CJ N _ _ x.2.2.2.1=_ from c,j0]
 obtain⟨y,z⟩:=NL (E:=fun p=>cG L 1 p x.2.2.2.1) (nm:=x.2.2.2.1) (fun p=>CT L 1 p _) (t.1.1::t.1.2.1) []
 generalize mZ (fun p=>cG L 1 p x.2.2.2.1) x.2.2.2.1 (t.1.1::t.1.2.1) []=r at y z
 obtain⟨e,ks,k⟩:=r
 simp only[jA,jB] at z
 rw[show pT N _ ks=_ from IA (N:=N) (W:=eZ L) (env:=env) (w:=w) (s:=s) (a:=a) (ks:=ks) aa aa,j0,TM]
 unfold uV
 dsimp only
 by_cases hk:k=0
 .subst hk
  obtain⟨p,rfl,g⟩:=y rfl
  obtain⟨A,R,f3⟩:=DG H g
  rw[if_pos rfl]
  simp only[bE]
  rw[show(bif decide ((0:Int)≠0) then(.inl 0:Int⊕Unit) else .inr ())= .inr () from rfl,j0]
  dsimp only
  have q:=Gr.seq (fun i s=>Gr.ev (lA L env w) n a t vs i s) x.2.2.2.2 (mA s ks)
  have b:=qCc M (D:=D+1) aa B K Y hv (t0:=lV s a) hx ho x.2.2.2.2.length 0 N [] (mA s ks) aa aa (jP _) (G.gr (Gr.see s ks))
  rw[jS,show((0:Nat):Int)=0 from rfl] at b
  revert b q
  generalize rT (ev (lA L env w) n a t vs) x.2.2.2.2 (mA s ks)=o
  obtain⟨s',er|us⟩:=o
  .rintro _ ⟨a',h⟩
   rw[show aK (tI N (GN N (D+1)) _ _ x) N _=_ from h,j0]
   exact⟨a',rfl⟩
  rintro q ⟨h,S,h3⟩
  rw[show aK (tI N (GN N (D+1)) _ _ x) N _=_ from h,j0]
  dsimp only
  rw[show bS _ _=_ from A,j0,uL]
  simp only[jW]
  by_cases hlen:us.length=(lX L (cG L 1 p x.2.2.2.1)).2.2.2.1.length
  .rw[if_pos hlen,show((us.length:Int) !=((lX L (cG L 1 p x.2.2.2.1)).2.2.2.1.length:Int))=false from by simp[hlen],cond_false,j0]
   have l:=SE M (a:=a) ((G.gr (Gr.see s ks)).gr q) V B A R hlen.symm S
   revert l
   dsimp only
   generalize oJ (ev (lA L env w) n) a (lX L (cG L 1 p x.2.2.2.1)) us s'=o2
   obtain⟨s2,er|v⟩:=o2
   .rintro⟨a',d⟩
    rw[show GE N (D+1) _ _ us=_ from d]
    exact⟨a',rfl⟩
   rintro⟨d,U⟩
   rw[show GE N (D+1) _ _ us=_ from d]
   exact⟨rfl,U⟩
  rw[if_neg hlen,show((us.length:Int) !=((lX L (cG L 1 p x.2.2.2.1)).2.2.2.1.length:Int))=true from by simp;omega,cond_true,j0]
  exact⟨_,rfl⟩
 rw[if_neg hk,jM hk]
 exact⟨_,rfl⟩
end
end
end Go.Proofs.YtleaknfdlaokiaaGreatDoor
