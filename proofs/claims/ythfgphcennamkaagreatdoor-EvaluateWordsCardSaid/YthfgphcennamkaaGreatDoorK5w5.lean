/- No condition but those of each theorem. -/
import Derived.Test.YthfgphcennamkaaGreatDoorProg
import Derived.WalkKit
import Derived.Deep.LoopGhost
import Derived.KernelRfl
import Derived.OrdersHeld
import Derived.OrdersIn
import Derived.LoopNIn
import Derived.Sort.LoopGhostIn
import Derived.Laws.AppendOwn
import Derived.RangeFuncLeaves
import Derived.RangeFuncRecord
import Derived.MapKept
import Derived.Maps.RangeRun
import Derived.ChangeKeysEq
import Derived.HandedShaped
import Derived.ChangeStays
import Derived.ChangeSame
import Derived.OpenShut
import Derived.WideShapes
import Derived.JoinedOf
import Derived.ReadAgain
import Derived.ChangeAt
import Derived.RowKit
import Derived.Lib.Overlaps
import Derived.Shelf.SlSortCmp.NoneTotal
import Derived.WalkSmall
import Derived.Recover
import Derived.Lib.Bytealg
import Derived.Test.YthfgphcennamkaaGreatDoorK4w5
namespace Go.Proofs.YthfgphcennamkaaGreatDoor
section
open Go Go.Dc
theorem qUc{p:UInt8->Bool}{l:List UInt8}{k:Nat}(c:k<l.length)(a:∀j,∀h:j<l.length,j<k->p l[j]=true)(b:p l[k]=false):tw p l 0=k:=by
 have key:∀d j,j+d=k->tw p l j=k:=by
  intro d
  induction d with
  |zero=>
   intro j h
   have:j=k:=by omega
   subst this
   exact xQ c b
  |succ d e=>intro j h;rw[<-xP aa (a j aa aa)];exact e (j+1) aa
 exact key k 0 aa
theorem qUi(x:BA):rD x 47=if(x.data.toList.takeWhile mV).length=x.data.toList.length then-1 else((x.data.toList.takeWhile mV).length:Int):=by
 have n:=iS x
 have l:tw mV x.data.toList 0=(x.data.toList.takeWhile mV).length:=by simp[tw]
 have a:∀j,∀h:j<x.data.toList.length,x[j]! =x.data.toList[j]:=by
  intro j b
  rw[getElem!_pos x j aa]
  simp[ByteArray.getElem_eq_getElem_data]
 have f:(47:Int).toNat.toUInt8=47:=rfl
 rw[<-l]
 unfold rD
 rw[f,<-n]
 cases hf:(List.range x.data.toList.length).find? (fun j=>x[j]! ==47) with
 |none=>
  rw[List.find?_eq_none] at hf
  simp only
  rw[if_pos]
  refine qDx fun c d=> ?_
  obtain⟨j,b,rfl⟩:=List.getElem_of_mem d
  have:=hf j (gS.2 b)
  rw[a j b] at this
  simpa[mV] using this
 |some k=>
  have d:=List.find?_some hf
  have g:k<x.data.toList.length:=gS.1 (gL hf)
  rw[a k g] at d
  have e:tw mV x.data.toList 0=k:=by
   refine qUc g (fun j h b=> ?_) (by simpa[mV] using d)
   have:=(List.find?_range_eq_some.1 hf).2.2 j b
   rw[a j h] at this
   simpa[mV] using this
  simp only
  rw[e,if_neg aa]
theorem qOo{N:Nat}(x:BA):GZ N x (⟨#[47]⟩:BA)=some (rD x 47):=by
 have b:eX (⟨#[47]⟩:BA) 0=some 47:=by kernel_rfl
 simp only[GZ,OU,EV,show(⟨#[47]⟩:BA).size=1 from rfl,mF]
 rw[if_neg ac]
 simp only[j0,j6]
 by_cases h:(⟨#[47]⟩:BA)=x
 .have a:rD (⟨#[47]⟩:BA) 47=0:=by kernel_rfl
  rw[if_pos h,<-h,a]
  rfl
 rw[if_neg h,if_pos ac,b]
 rfl
theorem qSq(x:BA):zZ x 47=((x.data.toList.count 47:Nat):Int):=by
 unfold zZ
 rw[Go.Lib.foldl_data]
 have key:∀(l:List UInt8) (n:Int),l.foldl (fun n x=>if x==(47:Int).toNat.toUInt8 then n+1 else n) n=n+((l.count 47:Nat):Int):=by
  intro l
  induction l with
  |nil=>intro n;simp
  |cons c l b=>
   intro n
   rw[kC,b,List.count_cons]
   have a:(47:Int).toNat.toUInt8=47:=rfl
   rw[a]
   by_cases h:(c==47)=true
   .simp only[h,jE];omega
   simp only[h,j9,jD];omega
 rw[key]
 omega
theorem qRk{α:Type}(l:List α)(k:Nat)(a b:α):(l++List.replicate (k+1) a).set l.length b=(l++[b])++List.replicate k a:=by
 rw[List.set_append_right _ _ (jM _)]
 simp[List.replicate_succ]
theorem XY{N n:Nat}{s:BA}(v:n<1000000000)(l:n<=s.size+1)(A:s.size<1000000000):∀(r M:Nat) (x:BA) (done:List BA),(sp x.data.toList).length=r->done.length+r=n->r<M->x.size<1000000000->
  ∃y D,aK (LP N s (⟨#[47]⟩:BA) 0 (n:Int)) M (x,(done.length:Int),done++List.replicate r (⟨#[]⟩:BA))=some (y,((n-1:Nat):Int),D++[(⟨#[]⟩:BA)])/\D.length=n-1/\D++[y]=done++(sp x.data.toList).map oQ
 |_,0,_,_,_,_,h,_=>by omega
 |0,_,x,_,h,_,_,_=>by exact absurd (dB.1 h) (DT _)
 |r+1,M+1,x,done,c,F,G,H=>by
  have E:=iS x
  have f:(if IntKind.wrap .i64 ((s.size:Int)+1)<(n:Int) then IntKind.wrap .i64 ((s.size:Int)+1) else(n:Int))=(n:Int):=by
   rw[bY aa aa];split<;>omega
  have a:=qDn x.data.toList
  simp only[aK,LP]
  rw[f,bY (x:=(n:Int)-1) aa aa]
  by_cases hlast:(x.data.toList.takeWhile mV).length=x.data.toList.length
  .rw[if_pos hlast] at a
   rw[a] at c
   simp only[jA,jB] at c
   have b:r=0:=by omega
   subst b
   rw[if_neg (by simp only[j6];omega)]
   refine⟨x,done,?_,by omega,?_⟩
   .simp only[j0]
    rw[show(n-1:Nat)=done.length by omega]
    rfl
   rw[a];simp[oQ]
  rw[if_neg hlast] at a
  rw[a] at c
  simp only[jA] at c
  have z:0<(sp (x.data.toList.drop ((x.data.toList.takeWhile mV).length+1))).length:=fK.2 (DT _)
  have B:(x.data.toList.takeWhile mV).length<=x.data.toList.length:=(dD _).length_le
  have hix:=qUi x
  rw[if_neg hlast] at hix
  rw[if_pos (by simp only[j6];omega),qOo,hix]
  simp only[j0,show(⟨#[47]⟩:BA).size=1 from rfl]
  have u:(x.data.toList.takeWhile mV)=x.data.toList.take (x.data.toList.takeWhile mV).length:=List.prefix_iff_eq_take.1 (List.takeWhile_prefix _)
  have o:x.extract 0 (x.data.toList.takeWhile mV).length=oQ (x.data.toList.takeWhile mV):=by
   apply Go.WideShapes.bytes_inj
   simp only[ByteArray.data_extract,fE,gC,oQ,jV,Nat.sub_zero]
   exact u.symm
  have b:(x.extract ((x.data.toList.takeWhile mV).length+1) x.data.toList.length).data.toList=x.data.toList.drop ((x.data.toList.takeWhile mV).length+1):=by
   simp only[ByteArray.data_extract,fE,gC]
   exact gX (by simp only[kO];omega)
  generalize hk:(x.data.toList.takeWhile mV).length=k at*
  rw[if_neg (by simp only[j6];omega),bY (x:=(k:Int)+0) aa aa,Int.add_zero]
  have d:mZ x 0 (k:Int)=some (x.extract 0 k):=by
   have:=tL (s:=x) (i:=0) (e:=k) aa aa
   simpa only[Int.natCast_zero] using this
  rw[d]
  simp only[j0]
  rw[eS ad,bY (x:=(k:Int)+((1:Nat):Int)) aa aa,show((k:Int)+((1:Nat):Int))=((k+1:Nat):Int) by omega,SD aa]
  simp only[j0,jZ]
  rw[qRk,o,bY aa aa]
  have g:=iS (x.extract (k+1) x.data.toList.length)
  rw[b,kO] at g
  obtain⟨y,D,p,q,t⟩:=XY (N:=N) v l A r M (x.extract (k+1) x.data.toList.length) (done++[oQ (x.data.toList.takeWhile mV)]) (by rw[b];omega) ag aa aa
  refine⟨y,D,?_,q,?_⟩
  .rw[<-p];simp
  rw[t,b,a];simp
termination_by r=>r
theorem qPt{N:Nat}{s:BA}(p:s.size<100000000)(l:2*s.size+1000<N):MG N s (⟨#[47]⟩:BA)=some ((sp s.data.toList).map oQ):=by
 have q:=iS s
 have h:=TT s.data.toList
 have o:s.data.toList.count 47<=s.data.toList.length:=List.count_le_length
 have g:eX (⟨#[47]⟩:BA) 0=some 47:=by kernel_rfl
 have a:MF N s (⟨#[47]⟩:BA)=some ((s.data.toList.count 47:Nat):Int):=by
  simp only[MF,show(⟨#[47]⟩:BA).size=1 from rfl]
  rw[if_neg ac,if_pos ac,g]
  simp only[j0]
  rw[<-qSq];rfl
 simp only[MG,PY,mF,a,j0]
 rw[if_neg ac,if_neg ac,if_pos ac]
 simp only[j0]
 rw[bY (x:=((s.data.toList.count 47:Nat):Int)+1) aa aa,show((s.data.toList.count 47:Nat):Int)+1=(((sp s.data.toList).length:Nat):Int) by omega]
 generalize hn:(sp s.data.toList).length=n at*
 have c:(if IntKind.wrap .i64 ((s.size:Int)+1)<(n:Int) then IntKind.wrap .i64 ((s.size:Int)+1) else(n:Int))=(n:Int):=by
  rw[bY aa aa];split<;>omega
 rw[c]
 have k:zX 16 (⟨#[]⟩:BA) (n:Int)=some (List.replicate n (⟨#[]⟩:BA)):=by
  unfold zX
  rw[if_pos (by simp only[maxLen];omega),jZ]
 rw[k]
 simp only[j0]
 obtain⟨y,D,b,f,e⟩:=XY (N:=N) (n:=n) (s:=s) aa aa aa n N s [] hn ad aa aa
 simp only[jB,kE] at b e
 rw[show((0:Nat):Int)=0 from rfl] at b
 rw[b]
 simp only[j0]
 rw[eS ag]
 simp only[j0,jZ]
 have d:(D++[(⟨#[]⟩:BA)]).set (n-1) y=D++[y]:=by
  rw[<-f,List.set_append_right _ _ (jM _)];simp
 rw[d,e,bY aa aa,show((n-1:Nat):Int)+1=(n:Int) by omega,qNi aa aa (by rw[gG,hn];omega)]
 simp only[j0,jZ,Int.toNat_zero,jV]
 rw[gX (by rw[gG,hn];exact jM _)]
theorem qDw{p:UInt8->Bool}{l:List UInt8}:tw p l 0=l.length↔∀c∈l,p c=true:=by
 constructor
 .intro h c a
  have b:(l.takeWhile p).length=l.length:=by simpa[tw] using h
  have d:=(List.takeWhile_prefix p (l:=l)).eq_of_length b
  rw[<-d] at a
  exact IK a
 exact qDx
def zU(x:BA):Bool:=decide (1<=x.data.toList.length/\x.data.toList.length<=24/\∀c∈x.data.toList,cC [1,2,3,4] c=true)
theorem ZF(x:BA):zU x=true↔1<=x.data.toList.length/\x.data.toList.length<=24/\∀c∈x.data.toList,cC [1,2,3,4] c=true:=decide_eq_true_iff
theorem qQb{N:Nat}{x:BA}(f:100<N):(if(decide ((x.size:Int)<1))=true then(some true) else(if(decide ((x.size:Int)>24))=true then(some true) else((vY N x 0 (some kdL) ([1,2,3,4])).bind fun e=>some (e !=(x.size:Int)))))=some (!zU x):=by
 have d:=iS x
 have a:∀h:¬(1<=x.data.toList.length/\x.data.toList.length<=24/\∀c∈x.data.toList,cC [1,2,3,4] c=true),zU x=false:=fun h=>jR h
 by_cases h1:1<=x.data.toList.length
 .rw[if_neg (by simp only[j6];omega)]
  by_cases h2:x.data.toList.length<=24
  .rw[if_neg (by simp only[j6];omega)]
   have b:=IA (N:=N) (s:=x) (ks:=[1,2,3,4]) (i:=0) aa aa ad aa
   rw[show((0:Nat):Int)=0 from rfl] at b
   rw[b]
   simp only[j0]
   refine congrArg some ?_
   by_cases h3:tw (cC [1,2,3,4]) x.data.toList 0=x.data.toList.length
   .have:zU x=true:=jL ⟨h1,h2,qDw.1 h3⟩
    rw[this,h3,d]
    simp
   rw[a fun h=>h3 (qDw.2 h.2.2)]
   simp only[kA,fF,ne_eq]
   omega
  rw[if_pos (by simp only[j6];omega),a fun h=>h2 h.2.1]
  rfl
 rw[if_pos (by simp only[j6];omega),a fun h=>h1 h.1]
 rfl
theorem qAk{N:Nat}{L:List BA}(f:L.length<1000)(a:100<N):∀(d j M:Nat),j+d=L.length->d<M->aK (HB N L (some kdL)) M (j:Int)=some (if(L.drop j).all zU=true then .inl () else .inr false)
 |d,j,0,_,h=>by omega
 |0,j,M+1,c,e=>by
  simp only[aK,HB]
  rw[if_neg (by simp only[j6];omega),jP aa]
  rfl
 |d+1,j,M+1,c,e=>by
  have b:j<L.length:=by omega
  simp only[aK,HB]
  rw[if_pos (by simp only[j6];omega),eS b]
  simp only[j0,qQb a]
  rw[jH b,List.all_cons]
  cases hp:zU L[j] with
  |true=>
   rw[if_neg ad,bY aa aa]
   simp only[j0,dC]
   exact qAk f a d (j+1) M aa aa
  |false=>simp
theorem qCh{N:Nat}{s:BA}(e:s.size<100000000)(d:2*s.size+1000<N):uM N s=some (iV s.data.toList):=by
 have g:=iS s
 have a:∀h:¬(s.data.toList.length<=80/\(sp s.data.toList).length<=8/\∀p∈sp s.data.toList,1<=p.length/\p.length<=24/\∀c∈p,cC [1,2,3,4] c=true),iV s.data.toList=false:=fun h=>jR h
 simp only[uM,qPt e d,j0,gG]
 by_cases h80:s.data.toList.length<=80
 .rw[if_neg (by simp only[j6];omega)]
  by_cases h8:(sp s.data.toList).length<=8
  .have b:decide (((sp s.data.toList).length:Int)>8)=false:=jR aa
   simp only[j0,b,j9,jD,SX (show 30<N by omega)]
   have key:=qAk (N:=N) (L:=(sp s.data.toList).map oQ) (by rw[gG];omega) aa _ 0 N (kU _) (by rw[gG];omega)
   rw[show((0:Nat):Int)=0 from rfl,jV] at key
   rw[key]
   simp only[j0]
   by_cases hp:((sp s.data.toList).map oQ).all zU=true
   .have:iV s.data.toList=true:=jL ⟨h80,h8,fun p hp'=>by
     have:=(ZF _).1 (jN.1 hp (oQ p) (gK hp'))
     simpa[oQ] using this⟩
    rw[if_pos hp,this]
   rw[if_neg hp,a fun h=>hp (jN.2 fun x f=>by
    obtain⟨p,hp',rfl⟩:=fC.1 f
    exact(ZF _).2 (by simpa[oQ] using h.2.2 p hp'))]
  have b:decide (((sp s.data.toList).length:Int)>8)=true:=jL aa
  simp only[j0,b,jE]
  rw[a fun h=>h8 h.2.1]
 rw[if_pos (by simp only[j6];omega)]
 simp only[j0,jE]
 rw[a fun h=>h80 h.1]
def run{α τ β:Type}(step:τ->α->τ⊕β)(fin:τ->β):List α->τ->β
 |[],t=>fin t
 |x::l,t=>match step t x with
  | .inl t'=>run step fin l t'
  | .inr b=>b
theorem qAf{α τ σ β:Type}{L:List α}(enc:τ->Nat->σ){f:σ->Option (σ⊕β)}(step:τ->α->τ⊕β)(fin:τ->β)(I:Nat->τ->Prop)
  (a:∀t i,∀hi:i<L.length,I i t->f (enc t i)=some (match step t L[i] with| .inl t'=> .inl (enc t' (i+1))| .inr b=> .inr b))
  (e:∀t i,∀hi:i<L.length,∀t',I i t->step t L[i]= .inl t'->I (i+1) t')
  (c:∀t,I L.length t->f (enc t L.length)=some (.inr (fin t))):∀(d i M:Nat) (t:τ),i+d=L.length->d<M->I i t->aK f M (enc t i)=some (run step fin (L.drop i) t)
 |_,_,0,_,_,h,_=>absurd h (gF _)
 |d,i,M+1,t,l,n,g=>by
  cases d with
  |zero=>
   have hi:i=L.length:=by omega
   subst hi
   simp only[aK,c t g,j0,hD,run]
  |succ d=>
   have hi:i<L.length:=by omega
   have k:L.drop i=L[i]::L.drop (i+1):=(fQ hi).symm
   simp only[aK,a t i hi g,j0]
   rw[k]
   simp only[run]
   cases hs:step t L[i] with
   |inl t'=>
    simp only
    exact qAf enc step fin I a e c d (i+1) M t' aa aa (e t i hi t' g hs)
   |inr b=>rfl
theorem zB{α τ σ β:Type}{L:List α}(enc:τ->Nat->σ){f:σ->Option (σ⊕β)}(step:τ->α->τ⊕β)(fin:τ->β)(I:Nat->τ->Prop)
  (a:∀t i,∀hi:i<L.length,I i t->f (enc t i)=some (match step t L[i] with| .inl t'=> .inl (enc t' (i+1))| .inr b=> .inr b))
  (d:∀t i,∀hi:i<L.length,∀t',I i t->step t L[i]= .inl t'->I (i+1) t')
  (c:∀t,I L.length t->f (enc t L.length)=some (.inr (fin t))) {M:Nat} {t:τ} (g:L.length<M) (e:I 0 t):aK f M (enc t 0)=some (run step fin L t):=by
 have:=qAf enc step fin I a d c L.length 0 M t aa g e
 rw[jV] at this;exact this
theorem zJ{α τ β:Type}{step:τ->α->τ⊕β}{fin:τ->β}(g:τ->α->τ)(h:∀t x,step t x= .inl (g t x)):∀(l:List α) (t:τ),run step fin l t=fin (l.foldl g t)
 |[],_=>rfl
 |x::l,t=>by simp only[run,h,kC];exact zJ g h l _
theorem HH{α:Type}{l:List α}{i:Nat}(h:i<l.length):l.drop i=l[i]::l.drop (i+1):=(fQ h).symm
abbrev bV:=BA×BA
def blt(a b:BA):Bool:=Op.bytesLess a.toList b.toList
theorem qMb{a b:BA}(h:a.toList=b.toList):a=b:=by
 have c:(a.toList==b.toList)=true:=by rw[h];exact gZ _
 rw[mF] at c
 exact gA c
theorem XM:∀a:List UInt8,Op.bytesLess a a=false
 |[]=>rfl
 |x::a=>by simp[Op.bytesLess,XM a]
theorem YC:∀a b c:List UInt8,Op.bytesLess a b=true->Op.bytesLess b c=true->Op.bytesLess a c=true
 |_,_,[],_,h=>by simp[Op.bytesLess] at h
 |_,[],_::_,h,_=>by simp[Op.bytesLess] at h
 |[],_::_,_::_,_,_=>rfl
 |x::a,y::b,z::c,d,e=>by
  simp only[Op.bytesLess,fH,j6,jK,kF] at d e ⊢
  rcases d with d|⟨rfl,d⟩<;>rcases e with e|⟨rfl,e⟩
  .exact .inl (UInt8.lt_trans d e)
  .exact .inl d
  .exact .inl e
  exact .inr ⟨rfl,YC a b c d e⟩
theorem XX:∀a b:List UInt8,Op.bytesLess a b=true\/a=b\/Op.bytesLess b a=true
 |[],[]=> .inr (.inl rfl)
 |[],_::_=> .inl rfl
 |_::_,[]=> .inr (.inr rfl)
 |x::a,y::b=>by
  simp only[Op.bytesLess,fH,j6,jK,kF,kL]
  rcases XX a b with h|h|h
  .rcases Nat.lt_trichotomy x.toNat y.toNat with g|g|g
   .exact .inl (.inl (UInt8.lt_iff_toNat_lt.2 g))
   .have g:=UInt8.toNat_inj.1 g;exact .inl (.inr ⟨g,h⟩)
   exact .inr (.inr (.inl (UInt8.lt_iff_toNat_lt.2 g)))
  .rcases Nat.lt_trichotomy x.toNat y.toNat with g|g|g
   .exact .inl (.inl (UInt8.lt_iff_toNat_lt.2 g))
   .have g:=UInt8.toNat_inj.1 g;exact .inr (.inl ⟨g,h⟩)
   exact .inr (.inr (.inl (UInt8.lt_iff_toNat_lt.2 g)))
  rcases Nat.lt_trichotomy x.toNat y.toNat with g|g|g
  .exact .inl (.inl (UInt8.lt_iff_toNat_lt.2 g))
  .have g:=UInt8.toNat_inj.1 g;exact .inr (.inr (.inr ⟨g.symm,h⟩))
  exact .inr (.inr (.inl (UInt8.lt_iff_toNat_lt.2 g)))
theorem zD(a:BA):blt a a=false:=XM _
theorem CU{a b c:BA}(d:blt a b=true)(e:blt b c=true):blt a c=true:=YC _ _ _ d e
theorem NA(a b:BA):blt a b=true\/a=b\/blt b a=true:=by
 rcases XX a.toList b.toList with h|h|h
 .exact .inl h
 .exact .inr (.inl (qMb h))
 exact .inr (.inr h)
theorem ZM{a b:BA}(h:blt a b=true):blt b a=false:=by
 cases h2:blt b a with
 |false=>rfl
 |true=>have:=CU h h2;rw[zD] at this;cases this
theorem OC{a b:BA}(h:blt a b=true):a≠b:=by rintro rfl;rw[zD] at h;cases h
def Asc(L:List bV):Prop:=L.Pairwise fun f g=>blt f.1 g.1=true
def lN:List bV->BA->Option BA
 |[],_=>none
 |f::L,p=>if f.1=p then some f.2 else lN L p
def mX:List bV->BA->BA->List bV
 |[],p,b=>[(p,b)]
 |f::L,p,b=>if blt p f.1=true then(p,b)::f::L else if f.1=p then(p,b)::L else f::mX L p b
def vE(L:List bV)(p:BA):List bV:=L.filter fun f=>decide (f.1≠p)
theorem MK{L:List bV}{p:BA}(h:∀f∈L,blt p f.1=true):lN L p=none:=by
 induction L with
 |nil=>rfl
 |cons f L c=>
  have a:=h f (jO ..)
  simp only[lN]
  rw[if_neg (fun e=>by rw[e,zD] at a;cases a)]
  exact c fun g b=>h g (jQ _ b)
theorem qPe{L:List bV}{p b:BA}(h:lN L p=some b):(p,b)∈L:=by
 induction L with
 |nil=>simp[lN] at h
 |cons f L a=>
  simp only[lN] at h
  split at h
  .rename_i e;simp only[jG] at h;subst h;subst e;exact jO ..
  exact jQ _ (a h)
theorem QW{L:List bV}(b:Asc L){f:bV}(h:f∈L):lN L f.1=some f.2:=by
 induction L with
 |nil=>cases h
 |cons g L c=>
  have a:=jW.1 b
  rcases jJ.1 h with rfl|h
  .simp[lN]
  simp only[lN]
  rw[if_neg (OC (a.1 f h)),c a.2 h]
theorem Asc.ext:∀{L K:List bV},Asc L->Asc K->(∀p,lN L p=lN K p)->L=K
 |[],[],_,_,_=>rfl
 |[],f::K,_,_,h=>by have:=h f.1;simp[lN] at this
 |f::L,[],_,_,h=>by have:=h f.1;simp[lN] at this
 |f::L,g::K,k,d,h=>by
  have hL':=jW.1 k
  have hK':=jW.1 d
  have e:f.1=g.1:=by
   rcases NA f.1 g.1 with a|a|a
   .have c:=h f.1
    rw[MK (L:=g::K) (fun x b=>by
     rcases jJ.1 b with rfl|b
     .exact a
     exact CU a (hK'.1 x b))] at c
    simp[lN] at c
   .exact a
   have c:=h g.1
   rw[MK (L:=f::L) (fun x b=>by
    rcases jJ.1 b with rfl|b
    .exact a
    exact CU a (hL'.1 x b))] at c
   simp[lN] at c
  have a:f.2=g.2:=by have:=h f.1;rw[e] at this;simpa[lN,e] using this
  have b:f=g:=Prod.ext e a
  subst b
  congr 1
  refine Asc.ext hL'.2 hK'.2 fun p=> ?_
  by_cases hp:f.1=p
  .subst hp
   rw[MK hL'.1,MK hK'.1]
  have:=h p
  simpa[lN,hp] using this
theorem HR{L:List bV}{p b:BA}{f:bV}(h:f∈mX L p b):f=(p,b)\/f∈L:=by
 induction L with
 |nil=>simp[mX] at h;exact .inl h
 |cons g L a=>
  simp only[mX] at h
  split at h
  .rcases jJ.1 h with h|h
   .exact .inl h
   exact .inr h
  split at h
  .rcases jJ.1 h with h|h
   .exact .inl h
   exact .inr (jQ _ h)
  rcases jJ.1 h with h|h
  .exact .inr (h▸jO ..)
  rcases a h with h|h
  .exact .inl h
  exact .inr (jQ _ h)
theorem Asc.put{L:List bV}(h:Asc L)(p b:BA):Asc (mX L p b):=by
 induction L with
 |nil=>exact List.pairwise_singleton _ _
 |cons g L f=>
  have h':=jW.1 h
  simp only[mX]
  split
  .rename_i d
   refine jW.2 ⟨fun x a=> ?_,h⟩
   rcases jJ.1 a with rfl|a
   .exact d
   exact CU d (h'.1 x a)
  rename_i d
  split
  .rename_i e
   exact jW.2 ⟨fun x a=>by have:=h'.1 x a;rw[e] at this;exact this,h'.2⟩
  rename_i e
  refine jW.2 ⟨fun x a=> ?_,f h'.2⟩
  rcases HR a with rfl|a
  .rcases NA g.1 p with c|c|c
   .exact c
   .exact absurd c e
   exact absurd c d
  exact h'.1 x a
theorem Asc.del{L:List bV}(h:Asc L)(p:BA):Asc (vE L p):=List.Pairwise.filter _ h
theorem MM(L:List bV)(p b:BA):(mX L p b).length<=L.length+1:=by
 induction L with
 |nil=>simp[mX]
 |cons g L a=>
  simp only[mX]
  split
  .simp
  split
  .simp
  simp only[jA];omega
def qDp(f:bV):Prop:=iV f.1.data.toList=true/\f.2.size<=16384
def WF(L:List bV):Prop:=L.length<=64/\Asc L/\∀f∈L,qDp f
theorem WF.put{L:List bV}(h:WF L){p b:BA}(e:iV p.data.toList=true)(c:b.size<=16384)(d:(mX L p b).length<=64):WF (mX L p b):=
 ⟨d,h.2.1.put p b,fun f a=>by
  rcases HR a with rfl|a
  .exact⟨e,c⟩
  exact h.2.2 f a⟩
theorem WF.del{L:List bV}(h:WF L)(p:BA):WF (vE L p):=
 ⟨kV (fU _ _) h.1,h.2.1.del p,fun f a=>h.2.2 f ((gM.1 a).1)⟩
def zY(q:Option BA)(p:BA):Bool:=match q with
 |some x=>blt p x
 |none=>false
def wK:Option BA->List bV->Int
 |_,[]=>0
 |q,f::L=>
  if iV f.1.data.toList=false then 6
  else if q=some f.1 then 10
  else if zY q f.1=true then 6
  else if 16384<f.2.size then 2
  else wK (some f.1) L
def nP(L:List bV):Int:=if 64<L.length then 2 else wK none L
theorem qAh:∀{L:List bV} {q:Option BA},wK q L=0↔Asc L/\(∀f∈L,qDp f)/\∀x,q=some x->∀f∈L,blt x f.1=true
 |[],q=>by simp[wK,Asc]
 |f::L,q=>by
  have p:=qAh (L:=L) (q:=some f.1)
  simp only[wK]
  by_cases c:iV f.1.data.toList=false
  .rw[if_pos c]
   refine⟨fun h=>by omega,fun h=> ?_⟩
   have:=(h.2.1 f (jO ..)).1;rw[c] at this;cases this
  rw[if_neg c]
  have c:iV f.1.data.toList=true:=by simpa using c
  by_cases k:q=some f.1
  .rw[if_pos k]
   refine⟨fun h=>by omega,fun h=> ?_⟩
   have:=h.2.2 _ k f (jO ..);rw[zD] at this;cases this
  rw[if_neg k]
  by_cases d:zY q f.1=true
  .rw[if_pos d]
   refine⟨fun h=>by omega,fun h=> ?_⟩
   cases q with
   |none=>cases d
   |some x=>have:=h.2.2 x rfl f (jO ..);rw[show zY (some x) f.1=blt f.1 x from rfl,ZM this] at d;cases d
  rw[if_neg d]
  by_cases h4:16384<f.2.size
  .rw[if_pos h4]
   refine⟨fun h=>by omega,fun h=> ?_⟩
   have:=(h.2.1 f (jO ..)).2;omega
  rw[if_neg h4,p]
  have o:∀x,q=some x->blt x f.1=true:=fun x e=>by
   subst e
   rcases NA x f.1 with g|g|g
   .exact g
   .exact absurd (by rw[g]) k
   exact absurd g d
  constructor
  .rintro⟨b,l,n⟩
   refine⟨jW.2 ⟨n f.1 rfl,b⟩,fun g a=> ?_,fun x e g a=> ?_⟩
   .rcases jJ.1 a with rfl|a
    .exact⟨c,by omega⟩
    exact l g a
   rcases jJ.1 a with rfl|a
   .exact o x e
   exact CU (o x e) (n f.1 rfl g a)
  rintro⟨b,l,n⟩
  have b:=jW.1 b
  exact⟨b.2,fun g a=>l g (jQ _ a),fun x e=>by cases e;exact b.1⟩
theorem tK{L:List bV}:nP L=0↔WF L:=by
 unfold nP WF
 by_cases h:64<L.length
 .rw[if_pos h];exact⟨fun h=>by omega,fun g=>by omega⟩
 rw[if_neg h,qAh]
 exact⟨fun g=>⟨by omega,g.1,g.2.1⟩,fun g=>⟨g.2.1,g.2.2,fun x a=>by cases a⟩⟩
def UQ(c:Int):Unit⊕Int:=if c=0 then .inl () else .inr c
def uE(L:List bV)(i:Nat):Option BA:=if i=0 then none else(L[i-1]?).map (·.1)
theorem YS{L:List bV}{f:Int->Option (Int⊕(Unit⊕Int))}
  (step:∀i:Nat,∀h:i<L.length,f (i:Int)=if iV L[i].1.data.toList=false then some (.inr (.inr 6)) else if uE L i=some L[i].1 then some (.inr (.inr 10)) else if zY (uE L i) L[i].1=true then some (.inr (.inr 6)) else if 16384<L[i].2.size then some (.inr (.inr 2)) else some (.inl ((i:Int)+1)))
  (stop:f (L.length:Int)=some (.inr (.inl ()))):∀(d i M:Nat),i+d=L.length->d<M->aK f M (i:Int)=some (UQ (wK (uE L i) (L.drop i)))
 |_,_,0,_,h=>by omega
 |0,i,M+1,c,_=>by
  have:i=L.length:=by omega
  subst this
  simp[aK,stop,wK,UQ]
 |d+1,i,M+1,c,g=>by
  have hi:i<L.length:=by omega
  have e:=YS step stop d (i+1) M aa aa
  have a:(i:Int)+1=((i+1:Nat):Int):=by omega
  have b:uE L (i+1)=some L[i].1:=by simp[uE,hi]
  simp only[aK,step i hi]
  rw[jH hi]
  simp only[wK]
  by_cases h1:iV L[i].1.data.toList=false
  .rw[if_pos h1,if_pos h1];rfl
  rw[if_neg h1,if_neg h1]
  by_cases h2:uE L i=some L[i].1
  .rw[if_pos h2,if_pos h2];rfl
  rw[if_neg h2,if_neg h2]
  by_cases h3:zY (uE L i) L[i].1=true
  .rw[if_pos h3,if_pos h3];rfl
  rw[if_neg h3,if_neg h3]
  by_cases h4:16384<L[i].2.size
  .rw[if_pos h4,if_pos h4];rfl
  rw[if_neg h4,if_neg h4,a]
  simp only[j0]
  rw[e,b]
theorem pO(x y:BA):(x.toList==y.toList)=decide (x=y):=mF x y
theorem qBh{N:Nat}{L:List bV}{P:BA->Option Bool}{f:Int->Option (Int⊕(Unit⊕Int))}(l:∀g∈L,P g.1=some (iV g.1.data.toList))
  (k:∀s1,f s1=if(decide (s1<(List.length L:Int)))=true then((bQ L s1).bind fun a=>(P a.1).bind fun y1=>if(!y1)=true then(some (.inr (.inr (6)))) else((if(decide (s1>0))=true then((bQ L (IntKind.wrap .i64 (s1-1))).bind fun o=>some (a.1.toList==o.1.toList)) else(some false):Option (Bool)).bind fun o2=>if o2=true then(some (.inr (.inr (10)))) else((if(decide (s1>0))=true then((bQ L (IntKind.wrap .i64 (s1-1))).bind fun p=>some (Op.bytesLess a.1.toList p.1.toList)) else(some false):Option (Bool)).bind fun n=>if n=true then(some (.inr (.inr (6)))) else(if(decide ((ByteArray.size a.2:Int)>16384))=true then(some (.inr (.inr (2)))) else(some (.inl (IntKind.wrap .i64 (s1+1)))))))) else(some (.inr (.inl ()))))
  (q:100<N):(if(decide ((List.length L:Int)>64))=true then(some 2) else((aK f N 0).bind fun c=>(match c with| .inl _=>some 0| .inr z=>some z)):Option Int)=some (nP L):=by
 unfold nP
 by_cases h:64<L.length
 .rw[if_pos h,if_pos (by simp only[j6];omega)]
 rw[if_neg h,if_neg (by simp only[j6];omega)]
 have key:=YS (L:=L) (f:=f) (fun i hi=>by
  rw[k,if_pos (by simp only[j6];omega),eS hi]
  simp only[j0,l _ (jS hi)]
  by_cases h1:iV L[i].1.data.toList=false
  .rw[if_pos (by rw[h1];rfl),if_pos h1]
  have h1':iV L[i].1.data.toList=true:=by simpa using h1
  rw[if_neg (by rw[h1'];simp),if_neg h1]
  by_cases d:0<i
  .have b:i-1<L.length:=by omega
   have ew:IntKind.wrap .i64 ((i:Int)-1)=((i-1:Nat):Int):=by rw[bY aa aa];omega
   have eq:uE L i=some (L[i-1]).1:=by simp[uE,b];omega
   rw[ew,eS b,eq]
   have ed:decide ((i:Int)>0)=true:=by simp only[j6];omega
   simp only[j0,pO,ed,jE,j6,jG]
   by_cases h2:L[i].1=(L[i-1]).1
   .rw[if_pos h2,if_pos h2.symm]
   rw[if_neg h2,if_neg (show ¬(L[i-1]).1=L[i].1 from fun e=>h2 e.symm)]
   have el:zY (some (L[i-1]).1) L[i].1=Op.bytesLess L[i].1.toList (L[i-1]).1.toList:=rfl
   rw[el]
   by_cases h3:Op.bytesLess L[i].1.toList (L[i-1]).1.toList=true
   .rw[if_pos h3,if_pos h3]
   rw[if_neg h3,if_neg h3]
   by_cases h4:16384<L[i].2.size
   .rw[if_pos aa,if_pos h4]
   rw[if_neg aa,if_neg h4,bY aa aa]
  have d:i=0:=by omega
  subst d
  have ed:decide (((0:Nat):Int)>0)=false:=by decide
  have eq:uE L 0=none:=rfl
  have el:zY none (L[0]).1=false:=rfl
  simp only[ed,j9,jD,j0,eq,j6,reduceCtorEq,el]
  by_cases h4:16384<L[0].2.size
  .rw[if_pos aa,if_pos h4]
  rw[if_neg aa,if_neg h4,bY aa aa]) (by rw[k,if_neg ad]) L.length 0 N aa aa
 rw[show((0:Nat):Int)=0 from rfl] at key
 rw[key,jV]
 have eq:uE L 0=none:=rfl
 rw[eq]
 simp only[j0,UQ]
 by_cases hc:wK none L=0
 .rw[if_pos hc,hc]
 rw[if_neg hc]
theorem qOe{N:Nat}{L:List bV}(b:∀g∈L,uM N g.1=some (iV g.1.data.toList))(a:100<N):QA N L=some (nP L):=
 qBh (f:=PU N L) (P:=uM N) b (fun _=>rfl) a
theorem QY{N:Nat}{L:List bV}(a:100<N):GD N L=some (nP L):=
 qBh (f:=PA N L) (P:=yZ N) (fun _ _=>RH a) (fun _=>rfl) a
end
section
open Go Go.Dc Go.Proofs
def iE:BA:=⟨#[]⟩
def DV(o:Option BA):BA×Bool:=match o with
 |some b=>(b,true)
 |none=>(iE,false)
def UI(L:List bV)(p:BA):BA×Bool:=if nP L=0 then DV (lN L p) else(iE,false)
abbrev IE(N:Nat)(L:List bV):Prop:=∀g∈L,uM N g.1=some (iV g.1.data.toList)
theorem WX{N:Nat}{L:List bV}{p:BA}(e:L.length<1000000):∀(d i M:Nat),i+d=L.length->d<M->aK (FR N L p) M (i:Int)=some (match lN (L.drop i) p with|some b=> .inr (b,true)|none=> .inl ())
 |_,_,0,_,h=>by omega
 |0,i,M+1,c,_=>by
  simp only[aK,FR]
  rw[if_neg (by simp only[j6];omega),jP aa]
  rfl
 |d+1,i,M+1,c,f=>by
  have hi:i<L.length:=by omega
  simp only[aK,FR]
  rw[if_pos (by simp only[j6];omega),eS hi,jH hi]
  simp only[j0,pO,j6,lN]
  by_cases he:(L[i]).1=p
  .rw[if_pos he,if_pos he];rfl
  rw[if_neg he,if_neg he,bY aa aa]
  have a:(i:Int)+1=((i+1:Nat):Int):=by omega
  simp only[j0]
  rw[a,WX e d (i+1) M aa aa]
theorem qLe{N:Nat}{L:List bV}(p:BA)(a:100<N):LV N L p=some (UI L p):=by
 simp only[LV,QY a,j0]
 unfold UI
 by_cases hc:nP L=0
 .rw[if_neg (by simp[hc]),if_pos hc]
  have b:=(tK.1 hc).1
  have:=WX (N:=N) (L:=L) (p:=p) aa L.length 0 N aa aa
  rw[show((0:Nat):Int)=0 from rfl,jV] at this
  rw[this]
  cases lN L p<;>rfl
 rw[if_pos (by simpa using hc),if_neg hc];rfl
def nE(s:BA):Bool:=iV s.data.toList&&decide (4<s.size)&&decide (s.extract (s.size-4) s.size=(⟨#[46,115,114,99]⟩:BA))
theorem qKr{N:Nat}{s:BA}(b:uM N s=some (iV s.data.toList)):LY N s=some (nE s):=by
 simp only[LY,b,j0]
 unfold nE
 cases hb:iV s.data.toList with
 |false=>simp
 |true=>
  have c:s.size<=80:=by
   have:s.data.toList.length<=80:=(gA hb).1
   have e:=iS s
   omega
  rw[if_pos rfl]
  by_cases h4:4<s.size
  .rw[if_pos (by simp only[j6];omega)]
   have a:ByteArray.size (⟨#[46,115,114,99]⟩:BA)=4:=rfl
   simp only[PW,OQ,a]
   rw[if_pos (by simp only[j6];omega),show IntKind.wrap .i64 ((s.size:Int)-((4:Nat):Int))=((s.size-4:Nat):Int) by rw[bY aa aa];omega,MT aa aa aa]
   simp only[j0,jZ,pO,jL h4,dC]
  rw[if_neg (by simp only[j6];omega),jR h4];rfl
theorem qIp{N:Nat}{s:BA}(a:100<N):KZ N s=some (nE s):=by
 simp only[KZ,RH a,j0]
 unfold nE
 cases hb:iV s.data.toList with
 |false=>simp
 |true=>
  have b:s.size<=80:=by
   have:s.data.toList.length<=80:=(gA hb).1
   have e:=iS s
   omega
  rw[if_pos rfl]
  by_cases h4:4<s.size
  .rw[if_pos (by simp only[j6];omega),show IntKind.wrap .i64 ((s.size:Int)-4)=((s.size-4:Nat):Int) by rw[bY aa aa];omega,MT aa aa aa]
   simp only[j0,jZ,pO,jL h4,dC]
  rw[if_neg (by simp only[j6];omega),jR h4];rfl
section
variable {κ ν:Type} [DecidableEq κ]
theorem XZ:∀(l:List (κ×ν)) (k:κ) (v:ν) (c:κ),dO (nQ l k v) c=if c=k then some v else dO l c
 |[],k,v,c=>by simp[nQ,dO]
 |p::l,k,v,c=>by
  simp only[nQ]
  by_cases h:k=p.1
  .rw[if_pos h]
   simp only[dO]
   by_cases h2:c=k
   .rw[if_pos h2,if_pos h2]
   rw[if_neg h2,if_neg h2,if_neg (by rw[<-h];exact h2)]
  rw[if_neg h]
  simp only[dO]
  rw[XZ l k v c]
  by_cases h2:c=p.1
  .rw[if_pos h2,if_neg (fun e=>h (by rw[<-e,h2])),if_pos h2]
  rw[if_neg h2,if_neg h2]
theorem RE[KOrd κ]{l:List (κ×ν)}(a:(l.map (·.1)).Nodup)(k:κ)(v:ν)(c:κ):dO (mset l k v) c=if c=k then some v else dO l c:=by
 rw[<-SB (zF (.refl l) a k v) (CQ a k v) c,XZ]
theorem QX[KOrd κ]{l:List (κ×ν)}(a:(l.map (·.1)).Nodup)(k:κ)(v:ν):((mset l k v).map (·.1)).Nodup:=
 ((zF (.refl l) a k v).map _).nodup_iff.1 (CQ a k v)
end
end
section
open Go Go.Dc
instance decMemB(s:BA)(l:List BA):Decidable (s∈l):=@List.instDecidableMemOfLawfulBEq BA instBEqOfDecidableEq inferInstance s l
abbrev Ex:=Int×Int×Int×BA×List Int
abbrev Dl:=Int×BA×List BA×List Ex
abbrev Sr:=BA×List BA×List Dl
abbrev cG:=Int×Int
abbrev Ps:=Nat×List Ex
abbrev PM(α:Type):=cG⊕(Ps×α)
def aM(ts:List cA)(i:Nat):cA:=ts.getD i (5,⟨#[]⟩,0,0)
def eG{α:Type}(t:cA)(e:Int):cG⊕α:= .inl (t.2.2.2,e)
def bI{α β:Type}(x:cG⊕α)(f:α->cG⊕β):cG⊕β:=
 match x with
 | .inl z=> .inl z
 | .inr a=>f a
def cB(ts:List cA)(k:Int)(s:BA)(i:Nat):Bool:=(aM ts i).1==k&&decide ((aM ts i).2.1=s)
def dU(ts:List cA)(s:BA)(i:Nat):cG⊕Nat:=if cB ts 4 s i then .inr (i+1) else eG (aM ts i) 9
def sJ(ts:List cA)(s:BA)(i:Nat):cG⊕Nat:=if cB ts 1 s i then .inr (i+1) else eG (aM ts i) 9
def mB(ts:List cA)(k:Int)(i:Nat):cG⊕(Nat×cA):=if(aM ts i).1=k then .inr (i+1,aM ts i) else eG (aM ts i) 9
def HX:BA:=⟨#[112,97,99,107,97,103,101]⟩
def zM:BA:=⟨#[105,109,112,111,114,116]⟩
def IU:BA:=⟨#[102,117,110,99]⟩
def IV:BA:=⟨#[116,101,115,116]⟩
def JB:BA:=⟨#[103,101,110]⟩
def JU:BA:=⟨#[105,102]⟩
def IS:BA:=⟨#[116,104,101,110]⟩
def IR:BA:=⟨#[101,108,115,101]⟩
def pU:BA:=⟨#[114,101,97,100]⟩
def pY:BA:=⟨#[115,105,122,101]⟩
def qC:BA:=⟨#[104,97,115]⟩
def qB:BA:=⟨#[101,110,118]⟩
def rC:BA:=⟨#[102,108,105,112]⟩
def oI:BA:=⟨#[40]⟩
def lR:BA:=⟨#[41]⟩
def qI:BA:=⟨#[44]⟩
def rM:BA:=⟨#[59]⟩
def yH:BA:=⟨#[61]⟩
def TQ:BA:=⟨#[45]⟩
def wordsR:List BA:=[HX,zM,IU,IV,JB,JU,IS,IR,pU,pY,qC,qB,rC]
def tU(s:BA):Bool:=decide (s∈wordsR)
def mD(ts:List cA)(i:Nat):cG⊕(Nat×cA):=bI (mB ts 1 i) fun p=>if tU p.2.2.1 then eG p.2 9 else .inr p
def nH(ts:List cA)(i:Nat):cG⊕(Nat×cA):=bI (mB ts 3 i) fun p=>if iV p.2.2.1.data.toList then .inr p else eG p.2 9
def wJ(ts:List cA)(i:Nat):cG⊕(Nat×cA):=bI (mB ts 3 i) fun p=>if uW p.2.2.1 then .inr p else eG p.2 9
def lM(t:cA)(x:Ex)(p:Ps):PM Nat:=if p.2.length=256 then eG t 2 else .inr ((p.1,p.2++[x]),p.2.length)
def opsC:List (Int×BA):=[(1,⟨#[43]⟩),(2,⟨#[45]⟩),(3,⟨#[42]⟩),(4,⟨#[47]⟩),(5,⟨#[37]⟩),(6,⟨#[60]⟩),(7,⟨#[61,61]⟩)]
def wQ(op:Int):Nat:=if op=6\/op=7 then 1 else if op=1\/op=2 then 2 else 3
def pL(ts:List cA)(level:Nat)(i:Nat)(o:Int×BA):Bool:=cB ts 4 o.2 i&&decide (wQ o.1=level)
def mL(ts:List cA)(level:Nat)(i:Nat):Int:=
 match opsC.find? (pL ts level i) with
 |some o=>o.1
 |none=>0
section
variable (ts:List cA) (params:List BA) (E:Ps->PM Nat)
def uT:Nat->List Int->Ps->PM (List Int)
 |0,_,p=>eG (aM ts p.1) 9
 |n+1,l,p=>bI (E p) fun q=>
  if cB ts 4 qI q.1.1 then uT n (l++[(q.2:Int)]) (q.1.1+1,q.1.2)
  else bI (dU ts lR q.1.1) fun i=> .inr ((i,q.1.2),l++[(q.2:Int)])
def vZ(p:Ps):PM (List Int):=
 bI (dU ts oI p.1) fun i=>if cB ts 4 lR i then .inr ((i+1,p.2),[]) else uT ts E (ts.length+1) [] (i,p.2)
def sA(t:cA)(p:Ps):PM Nat:=
 bI (dU ts oI p.1) fun i=>
 bI (if t.2.1=pU then
   bI (nH ts i) fun a=>bI (dU ts qI a.1) fun i=>bI (E (i,p.2)) fun q=> .inr (q.1,((6,0,0,a.2.2.1,[(q.2:Int)]):Ex))
  else if t.2.1=pY then bI (nH ts i) fun a=> .inr ((a.1,p.2),((7,0,0,a.2.2.1,[]):Ex))
  else if t.2.1=qC then bI (nH ts i) fun a=> .inr ((a.1,p.2),((8,0,0,a.2.2.1,[]):Ex))
  else if t.2.1=qB then bI (wJ ts i) fun a=> .inr ((a.1,p.2),((9,0,0,a.2.2.1,[]):Ex))
  else bI (mB ts 2 i) fun a=>if a.2.2.2.1>=64 then eG a.2 9 else .inr ((a.1,p.2),((10,a.2.2.2.1,0,⟨#[]⟩,[]):Ex))) fun q=>
 bI (dU ts lR q.1.1) fun i=>lM t q.2 (i,q.1.2)
def sV(p:Ps):PM Nat:=
 let t:=aM ts p.1
 if t.1=2 then lM t (1,t.2.2.1,0,⟨#[]⟩,[]) (p.1+1,p.2)
 else if cB ts 4 TQ p.1 then bI (mB ts 2 (p.1+1)) fun a=>lM t (1,IntKind.wrap .i64 (0-a.2.2.2.1),0,⟨#[]⟩,[]) (a.1,p.2)
 else if cB ts 4 oI p.1 then bI (E (p.1+1,p.2)) fun q=>bI (dU ts lR q.1.1) fun i=> .inr ((i,q.1.2),q.2)
 else if t.1≠1 then eG t 9
 else if t.2.1∈[pU,pY,qC,qB,rC] then sA ts E t (p.1+1,p.2)
 else if tU t.2.1 then eG t 9
 else if cB ts 4 oI (p.1+1) then bI (vZ ts E (p.1+1,p.2)) fun q=>lM t (3,0,0,t.2.1,q.2) q.1
 else match params.findIdx? (fun x=>decide (x=t.2.1)) with
  |some i=>lM t (2,(i:Int),0,⟨#[]⟩,[]) (p.1+1,p.2)
  |none=>eG t 9
def pZ(level:Nat)(S:Ps->PM Nat):Nat->Nat->Ps->PM Nat
 |0,_,p=>eG (aM ts p.1) 9
 |n+1,x,p=>
  if mL ts level p.1=0 then .inr (p,x)
  else bI (S (p.1+1,p.2)) fun q=>bI (lM (aM ts p.1) (4,0,mL ts level p.1,⟨#[]⟩,[(x:Int),(q.2:Int)]) q.1) fun r=>
   if level=1 then .inr r else pZ level S n r.2 r.1
def sW(level:Nat)(S:Ps->PM Nat)(p:Ps):PM Nat:=bI (S p) fun q=>pZ ts level S (ts.length+1) q.2 q.1
def IX:Ps->PM Nat:=sW ts 3 (sV ts params E)
def uY:Ps->PM Nat:=sW ts 2 (IX ts params E)
def HV:Ps->PM Nat:=sW ts 1 (uY ts params E)
end
def eK(ts:List cA)(params:List BA):Nat->Ps->PM Nat
 |0,p=>eG (aM ts p.1) 2
 |k+1,p=>
  if cB ts 1 JU p.1 then
   bI (eK ts params k (p.1+1,p.2)) fun a=>bI (sJ ts IS a.1.1) fun i=>
   bI (eK ts params k (i,a.1.2)) fun b=>bI (sJ ts IR b.1.1) fun j=>
   bI (eK ts params k (j,b.1.2)) fun c=>lM (aM ts p.1) (5,0,0,⟨#[]⟩,[(a.2:Int),(b.2:Int),(c.2:Int)]) c.1
  else HV ts params (eK ts params k) p
def tO(ts:List cA):Nat->List BA->Nat->cG⊕(Nat×List BA)
 |0,_,i=>eG (aM ts i) 9
 |n+1,l,i=>bI (mD ts i) fun a=>
  if l.length=8 then eG a.2 2
  else if a.2.2.1∈l then eG a.2 10
  else if cB ts 4 qI a.1 then tO ts n (l++[a.2.2.1]) (a.1+1)
  else bI (dU ts lR a.1) fun j=> .inr (j,l++[a.2.2.1])
def rZ(ts:List cA)(i:Nat):cG⊕(Nat×List BA):=
 bI (dU ts oI i) fun j=>if cB ts 4 lR j then .inr (j+1,[]) else tO ts (ts.length+1) [] j
def mC(s:BA):Int:=if s=IU then 1 else if s=IV then 2 else if s=JB then 3 else 0
def oH(ts:List cA)(before:List Dl)(i:Nat):cG⊕(Nat×Dl):=
 let t:=aM ts i
 let k:=mC t.2.1
 if t.1≠1\/k=0 then eG t 9
 else if before.length=64 then eG t 2
 else bI (if k=3 then nH ts (i+1) else mD ts (i+1)) fun a=>
  if before.any (fun d=>d.1==k&&decide (d.2.1=a.2.2.1)) then eG a.2 10
  else bI (if k=1 then rZ ts a.1 else .inr (a.1,[])) fun b=>
   bI (dU ts yH b.1) fun j=>bI (eK ts b.2 32 (j,[])) fun c=>
   bI (dU ts rM c.1.1) fun m=> .inr (m,(k,a.2.2.1,b.2,c.1.2))
def qV(ts:List cA)(pkg:BA):Nat->List BA->Nat->cG⊕(Nat×List BA)
 |0,_,i=>eG (aM ts i) 9
 |n+1,l,i=>
  if cB ts 1 zM i then
   if l.length=8 then eG (aM ts i) 2
   else bI (mD ts (i+1)) fun a=>
    if a.2.2.1=pkg\/a.2.2.1∈l then eG a.2 10
    else bI (dU ts rM a.1) fun j=>qV ts pkg n (l++[a.2.2.1]) j
  else .inr (i,l)
def tP(ts:List cA):Nat->List Dl->Nat->cG⊕List Dl
 |0,_,i=>eG (aM ts i) 9
 |n+1,l,i=>if(aM ts i).1=5 then .inr l else bI (oH ts l i) fun a=>tP ts n (l++[a.2]) a.1
def tR(ts:List cA):cG⊕Sr:=
 bI (sJ ts HX 0) fun i=>bI (mD ts i) fun a=>bI (dU ts rM a.1) fun j=>
 bI (qV ts a.2.2.1 (ts.length+1) [] j) fun b=>bI (tP ts (ts.length+1) [] b.1) fun l=> .inr (a.2.2.1,b.2,l)
def sH:Sr:=(⟨#[]⟩,[],[])
def lL(s:BA):Sr×Int×Int:=
 if(lC s).2.2≠0 then(sH,(lC s).2.1,(lC s).2.2)
 else match tR (lC s).1 with
  | .inl z=>(sH,z.1,z.2)
  | .inr f=>(f,0,0)
def OkT(ts:List cA):Prop:=ts≠[]/\∀i,i<ts.length->((aM ts i).1=5↔i+1=ts.length)
theorem iN{α β:Type}{x:cG⊕α}{f:α->cG⊕β}{b:β}(h:bI x f= .inr b):∃a,x= .inr a/\f a= .inr b:=by
 cases x with
 |inl z=>cases h
 |inr a=>exact⟨a,rfl,h⟩
section
variable {ts:List cA} {params:List BA} {E S:Ps->PM Nat}
theorem OkT.next(h:OkT ts){i:Nat}(hi:i<ts.length)(a:(aM ts i).1≠5):i+1<ts.length:=by
 have b:¬i+1=ts.length:=fun e=>a ((h.2 i hi).2 e)
 omega
theorem ND{k:Int}{s:BA}{i:Nat}(h:cB ts k s i=true):(aM ts i).1=k:=by
 simp only[cB,jK,kF] at h;exact h.1
theorem lY(h:OkT ts){k:Int}{s:BA}{i:Nat}(hi:i<ts.length)(b:k≠5)(a:cB ts k s i=true):i+1<ts.length:=h.next hi (by rw[ND a];exact b)
theorem lZ(h:OkT ts){s:BA}{i j:Nat}(hi:i<ts.length)(a:dU ts s i= .inr j):j=i+1/\j<ts.length/\cB ts 4 s i=true:=by
 unfold dU at a
 split at a
 .rename_i h2
  obtain rfl:=Sum.inr.inj a
  exact⟨rfl,lY h hi ac h2,h2⟩
 cases a
theorem DA(h:OkT ts){s:BA}{i j:Nat}(hi:i<ts.length)(a:sJ ts s i= .inr j):j=i+1/\j<ts.length/\cB ts 1 s i=true:=by
 unfold sJ at a
 split at a
 .rename_i h2
  obtain rfl:=Sum.inr.inj a
  exact⟨rfl,lY h hi ac h2,h2⟩
 cases a
theorem wE(h:OkT ts){k:Int}(c:k≠5){i:Nat}{a:Nat×cA}(hi:i<ts.length)(b:mB ts k i= .inr a):a=(i+1,aM ts i)/\i+1<ts.length/\(aM ts i).1=k:=by
 unfold mB at b
 split at b
 .rename_i h2
  obtain rfl:=Sum.inr.inj b
  exact⟨rfl,h.next hi (by rw[h2];exact c),h2⟩
 cases b
theorem sS(h:OkT ts){i:Nat}{a:Nat×cA}(hi:i<ts.length)(f:mD ts i= .inr a):a=(i+1,aM ts i)/\i+1<ts.length/\(aM ts i).1=1/\tU (aM ts i).2.1=false:=by
 obtain⟨b,g,c⟩:=iN f
 obtain⟨rfl,d,e⟩:=wE h ac hi g
 split at c
 .cases c
 rename_i g3
 obtain rfl:=Sum.inr.inj c
 exact⟨rfl,d,e,by simpa using g3⟩
theorem tM(h:OkT ts){i:Nat}{a:Nat×cA}(hi:i<ts.length)(f:nH ts i= .inr a):a=(i+1,aM ts i)/\i+1<ts.length/\(aM ts i).1=3/\iV (aM ts i).2.1.data.toList=true:=by
 obtain⟨b,g,c⟩:=iN f
 obtain⟨rfl,d,e⟩:=wE h ac hi g
 split at c
 .rename_i g3
  obtain rfl:=Sum.inr.inj c
  exact⟨rfl,d,e,g3⟩
 cases c
theorem ZG(h:OkT ts){i:Nat}{a:Nat×cA}(hi:i<ts.length)(f:wJ ts i= .inr a):a=(i+1,aM ts i)/\i+1<ts.length/\(aM ts i).1=3/\uW (aM ts i).2.1=true:=by
 obtain⟨b,g,c⟩:=iN f
 obtain⟨rfl,d,e⟩:=wE h ac hi g
 split at c
 .rename_i g3
  obtain rfl:=Sum.inr.inj c
  exact⟨rfl,d,e,g3⟩
 cases c
theorem qOk{t:cA}{x:Ex}{p q:Ps}{i:Nat}(h:lM t x p= .inr (q,i)):q=(p.1,p.2++[x])/\i=p.2.length/\p.2.length≠256:=by
 unfold lM at h
 split at h
 .cases h
 rename_i h1
 obtain⟨rfl,rfl⟩:=Prod.mk.inj (Sum.inr.inj h)
 exact⟨rfl,rfl,h1⟩
def EK(ts:List cA)(p q:Ps):Prop:=p.1<q.1/\q.1<ts.length/\p.2.length<=q.2.length/\q.2.length<=256
def lT(ts:List cA)(S:Ps->PM Nat):Prop:=∀(p q:Ps) (x:Nat),p.1<ts.length->p.2.length<=256->S p= .inr (q,x)->EK ts p q/\x<q.2.length
theorem wG{t:cA}{x:Ex}{p r q:Ps}{i:Nat}(b:p.1<r.1)(c:r.1<ts.length)(d:p.2.length<=r.2.length)(a:r.2.length<=256)(h:lM t x r= .inr (q,i)):EK ts p q/\i<q.2.length:=by
 obtain⟨rfl,rfl,g⟩:=qOk h
 refine⟨⟨b,c,?_,?_⟩,?_⟩<;>simp only[jF,jA,jB]<;>omega
theorem RS(h:OkT ts)(f:lT ts E):∀(n:Nat) (l:List Int) (p q:Ps) (x:List Int),p.1<ts.length->p.2.length<=256->uT ts E n l p= .inr (q,x)->EK ts p q
 |0,_,_,_,_,_,_,b=>by cases b
 |n+1,l,p,q,x,v,t,b=>by
  obtain⟨a,s,c⟩:=iN (show bI (E p) _=_ from b)
  obtain⟨⟨D,d,k,e⟩,F⟩:=f p a.1 a.2 v t s
  split at c
  .rename_i hc
   have g:=lY h d ac hc
   obtain⟨y,z,A,B⟩:=RS h f n _ (a.1.1+1,a.1.2) q x g e c
   exact⟨by simp only at y;omega,z,by simp only at A;omega,B⟩
  obtain⟨j,u,r⟩:=iN c
  obtain⟨rfl,o,-⟩:=lZ h d u
  obtain⟨rfl,-⟩:=Prod.mk.inj (Sum.inr.inj r)
  exact⟨by simp only;omega,o,k,e⟩
theorem WI(h:OkT ts)(e:lT ts E){p q:Ps}{x:List Int}(f:p.1<ts.length)(c:p.2.length<=256)(d:vZ ts E p= .inr (q,x)):EK ts p q:=by
 obtain⟨i,hi,a⟩:=iN d
 obtain⟨rfl,b,-⟩:=lZ h f hi
 split at a
 .rename_i hc
  obtain⟨rfl,-⟩:=Prod.mk.inj (Sum.inr.inj a)
  exact⟨by simp only;omega,lY h b ac hc,jM _,c⟩
 obtain⟨g,k,l,n⟩:=RS h e _ _ (p.1+1,p.2) q x b c a
 exact⟨by simp only at g;omega,k,l,n⟩
theorem qJr(h:OkT ts)(K:lT ts E){t:cA}{p q:Ps}{x:Nat}(R:p.1<ts.length)(n:p.2.length<=256)(D:sA ts E t p= .inr (q,x)):EK ts p q/\x<q.2.length:=by
 obtain⟨i,hi,F⟩:=iN D
 obtain⟨rfl,l,-⟩:=lZ h R hi
 obtain⟨a,g,G⟩:=iN F
 obtain⟨j,M,H⟩:=iN G
 have key:EK ts (p.1+1,p.2) a.1:=by
  split at g
  .obtain⟨b,f,e⟩:=iN g
   obtain⟨rfl,k,-⟩:=tM h l f
   obtain⟨c,y,z⟩:=iN e
   obtain⟨rfl,S,-⟩:=lZ h k y
   obtain⟨d,A,B⟩:=iN z
   obtain⟨⟨o,s,u,v⟩,-⟩:=K (p.1+1+1+1,p.2) d.1 d.2 S n A
   obtain rfl:=Sum.inr.inj B
   exact⟨by simp only at o ⊢;omega,s,u,v⟩
  split at g
  .obtain⟨b,f,e⟩:=iN g
   obtain⟨rfl,k,-⟩:=tM h l f
   obtain rfl:=Sum.inr.inj e
   exact⟨by simp only;omega,k,jM _,n⟩
  split at g
  .obtain⟨b,f,e⟩:=iN g
   obtain⟨rfl,k,-⟩:=tM h l f
   obtain rfl:=Sum.inr.inj e
   exact⟨by simp only;omega,k,jM _,n⟩
  split at g
  .obtain⟨b,f,e⟩:=iN g
   obtain⟨rfl,k,-⟩:=ZG h l f
   obtain rfl:=Sum.inr.inj e
   exact⟨by simp only;omega,k,jM _,n⟩
  obtain⟨b,f,e⟩:=iN g
  obtain⟨rfl,k,-⟩:=wE h ac l f
  split at e
  .cases e
  obtain rfl:=Sum.inr.inj e
  exact⟨by simp only;omega,k,jM _,n⟩
 obtain⟨o,s,u,v⟩:=key
 obtain⟨rfl,e,-⟩:=lZ h s M
 exact wG (r:=(a.1.1+1,a.1.2)) (by simp only at o ⊢;omega) e u v H
theorem QV(h:OkT ts)(u:lT ts E):lT ts (sV ts params E):=by
 intro p q x o c b
 unfold sV at b
 dsimp only at b
 split at b
 .rename_i hk
  exact wG (r:=(p.1+1,p.2)) ai (h.next o (by rw[hk];decide)) (jM _) c b
 split at b
 .rename_i hc
  have g:=lY h o ac hc
  obtain⟨a,n,l⟩:=iN b
  obtain⟨rfl,t,-⟩:=wE h ac g n
  exact wG (r:=(p.1+1+1,p.2)) ai t (jM _) c l
 split at b
 .rename_i hc
  have g:=lY h o ac hc
  obtain⟨a,n,l⟩:=iN b
  obtain⟨⟨d,e,f,k⟩,s⟩:=u (p.1+1,p.2) a.1 a.2 g c n
  obtain⟨j,y,v⟩:=iN l
  obtain⟨rfl,t,-⟩:=lZ h e y
  obtain⟨rfl,rfl⟩:=Prod.mk.inj (Sum.inr.inj v)
  exact⟨⟨by simp only at d ⊢;omega,t,f,k⟩,s⟩
 split at b
 .cases b
 rename_i hk
 have g:=h.next o (show(aM ts p.1).1≠5 by simp only[ne_eq,Decidable.not_not] at hk;rw[hk];decide)
 split at b
 .obtain⟨⟨d,e,f,k⟩,s⟩:=qJr h u (p:=(p.1+1,p.2)) g c b
  exact⟨⟨by simp only at d;omega,e,f,k⟩,s⟩
 split at b
 .cases b
 split at b
 .obtain⟨a,n,l⟩:=iN b
  obtain⟨d,e,f,k⟩:=WI h u (p:=(p.1+1,p.2)) g c n
  exact wG (by simp only at d;omega) e f k l
 split at b
 .exact wG (r:=(p.1+1,p.2)) ai g (jM _) c b
 cases b
theorem qAj(h:OkT ts){level:Nat}(d:lT ts S):∀(n x:Nat) (p q:Ps) (y:Nat),p.1<ts.length->p.2.length<=256->x<p.2.length->pZ ts level S n x p= .inr (q,y)->p.1<=q.1/\q.1<ts.length/\p.2.length<=q.2.length/\q.2.length<=256/\y<q.2.length
 |0,_,_,_,_,_,_,_,b=>by cases b
 |n+1,x,p,q,y,k,e,F,b=>by
  unfold pZ at b
  split at b
  .obtain⟨rfl,rfl⟩:=Prod.mk.inj (Sum.inr.inj b)
   exact⟨jM _,k,jM _,e,F⟩
  rename_i hop
  have f:(aM ts p.1).1≠5:=by
   intro f
   apply hop
   unfold mL
   have:opsC.find? (pL ts level p.1)=none:=by
    rw[List.find?_eq_none]
    intro o _ c
    simp only[pL,jK] at c
    have:=ND c.1
    omega
   rw[this]
  have g:=h.next k f
  obtain⟨a,D,B⟩:=iN b
  obtain⟨⟨u,v,z,A⟩,R⟩:=d (p.1+1,p.2) a.1 a.2 g e D
  obtain⟨r,E,c⟩:=iN B
  obtain⟨⟨Y,l,M,s⟩,t⟩:=wG (ts:=ts) (p:=p) (by simp only at u;omega) v z A E
  split at c
  .obtain⟨rfl,rfl⟩:=Prod.mk.inj (Sum.inr.inj c)
   exact⟨by omega,l,M,s,t⟩
  obtain⟨U,G,V,H,K⟩:=qAj h d n _ _ q y l s t c
  exact⟨by omega,G,by omega,H,K⟩
theorem zC(h:OkT ts){level:Nat}(b:lT ts S):lT ts (sW ts level S):=by
 intro p q x n l f
 obtain⟨a,k,g⟩:=iN f
 obtain⟨⟨t,c,u,d⟩,e⟩:=b p a.1 a.2 n l k
 obtain⟨v,o,y,r,s⟩:=qAj h b _ _ _ q x c d e g
 exact⟨⟨by omega,o,by omega,r⟩,s⟩
theorem wD(h:OkT ts):∀k,lT ts (eK ts params k)
 |0=>fun _ _ _ _ _ d=>by cases d
 |k+1=>by
  intro p q x n e d
  unfold eK at d
  split at d
  .rename_i hc
   have g:=lY h n ac hc
   obtain⟨a,U,H⟩:=iN d
   obtain⟨⟨o,r,s,t⟩,-⟩:=wD h k (p.1+1,p.2) a.1 a.2 g e U
   obtain⟨i,hi,K⟩:=iN H
   obtain⟨rfl,F,-⟩:=DA h r hi
   obtain⟨b,f,M⟩:=iN K
   obtain⟨⟨u,v,y,z⟩,-⟩:=wD h k (a.1.1+1,a.1.2) b.1 b.2 F t f
   obtain⟨j,V,R⟩:=iN M
   obtain⟨rfl,G,-⟩:=DA h v V
   obtain⟨c,l,S⟩:=iN R
   obtain⟨⟨A,B,D,E⟩,-⟩:=wD h k (b.1.1+1,b.1.2) c.1 c.2 G z l
   simp only at o s u y A D
   exact wG aa B aa E S
  exact zC h (zC h (zC h (QV h (wD h k)))) p q x n e d
end
theorem qEb{ts:List cA}{i:Nat}(hi:i<ts.length):bQ ts (i:Int)=some (aM ts i):=by
 rw[eS hi]
 simp[aM,jT,hi]
theorem nO{i:Nat}(h:i<1000000):IntKind.wrap .i64 ((i:Int)+1)=((i+1:Nat):Int):=by rw[bY aa aa];omega
section
variable {N:Nat} {ts:List cA} {pr:List BA} {b:List Ex} {i:Nat}
theorem sR(hi:i<ts.length):rG N (ts,(i:Int),pr,b)=some ((ts,(i:Int),pr,b),aM ts i):=by
 simp only[rG,qEb hi,j0]
theorem DW(hi:i<ts.length)(k:Int)(s:BA):vW N (ts,(i:Int),pr,b) k s=some ((ts,(i:Int),pr,b),cB ts k s i):=by
 simp only[vW,sR hi,j0,mF,cB]
 cases h:(aM ts i).1==k<;>simp[h]
theorem TO(hi:i<ts.length)(a:ts.length<1000000)(s:BA):CD N (ts,(i:Int),pr,b) s=some (Sum.map id (fun j:Nat=>(ts,(j:Int),pr,b)) (sJ ts s i)):=by
 simp only[CD,DW hi,sR hi,j0,lP,sJ]
 cases h:cB ts 1 s i
 .simp[eG]
 simp[nO (show i<1000000 by omega)]
theorem sU(hi:i<ts.length)(a:ts.length<1000000)(s:BA):oZ N (ts,(i:Int),pr,b) s=some (Sum.map id (fun j:Nat=>(ts,(j:Int),pr,b)) (dU ts s i)):=by
 simp only[oZ,DW hi,sR hi,j0,lP,dU]
 cases h:cB ts 4 s i
 .simp[eG]
 simp[nO (show i<1000000 by omega)]
theorem CT(hi:i<ts.length)(a:ts.length<1000000)(s:BA):vR N (ts,(i:Int),pr,b) s=some (if cB ts 4 s i then((ts,((i+1:Nat):Int),pr,b),true) else((ts,(i:Int),pr,b),false)):=by
 simp only[vR,DW hi,j0]
 cases h:cB ts 4 s i
 .simp
 simp[nO (show i<1000000 by omega)]
theorem IB(hi:i<ts.length)(f:ts.length<1000000){k:Int}(e:k≠5):xG N (ts,(i:Int),pr,b) k=some (Sum.map id (fun a:Nat×cA=>((ts,(a.1:Int),pr,b),a.2)) (mB ts k i)):=by
 simp only[xG,sR hi,j0,lP,mB]
 have d:(k !=5)=true:=by simpa using e
 by_cases h:(aM ts i).1=k
 .have c:((aM ts i).1 !=k)=false:=by simp[h]
  simp only[c,d,j9,jD,jE,j0,if_pos h,nO (show i<1000000 by omega),kD]
 have c:((aM ts i).1 !=k)=true:=by simp[h]
 simp only[c,jE,j0,if_neg h,eG,Sum.map_inl,id]
theorem orS(a b:Bool):(if a=true then some a else some b)=some (a||b):=by
 cases a<;>simp
theorem qTs(b:Bool):(if b=true then some true else some false)=some b:=by cases b<;>simp
theorem XN(s:BA):GT N s=some (tU s):=by
 simp only[GT,mF,tU,wordsR,HX,zM,IU,IV,JB,JU,IS,IR,pU,pY,qC,qB,rC,jJ,gP,or_false]
 simp only[orS,j0,qTs,jG]
 simp only[Bool.decide_or]
theorem NL(hi:i<ts.length)(c:ts.length<1000000):xD N (ts,(i:Int),pr,b)=some (Sum.map id (fun a:Nat×cA=>((ts,(a.1:Int),pr,b),a.2)) (mD ts i)):=by
 simp only[xD,IB hi c (show(1:Int)≠5 by decide),j0,lP,mD]
 cases h:mB ts 1 i with
 |inl z=>simp[bI]
 |inr a=>
  simp only[kD,XN,j0,bI]
  cases h2:tU a.2.2.1<;>simp[eG]
theorem NS(hi:i<ts.length)(d:ts.length<1000000)(g:300000<N)(f:∀j,(aM ts j).2.1.size<100000):xF N (ts,(i:Int),pr,b)=some (Sum.map id (fun a:Nat×cA=>((ts,(a.1:Int),pr,b),a.2)) (nH ts i)):=by
 simp only[xF,IB hi d (show(3:Int)≠5 by decide),j0,lP,nH]
 cases h:mB ts 3 i with
 |inl z=>simp[bI]
 |inr a=>
  have c:a.2=aM ts i:=by
   unfold mB at h
   split at h
   .rw[<-Sum.inr.inj h]
   cases h
  have e:=f i
  rw[<-c] at e
  simp only[kD,qCh (N:=N) (s:=a.2.2.1) aa aa,j0,bI]
  cases h2:iV a.2.2.1.data.toList<;>simp[eG]
theorem zL(t:cA)(x:Ex)(d:b.length<=256)(n:Nat):tI N (ts,(n:Int),pr,b) t x=some (Sum.map id (fun q:Ps×Nat=>((ts,(q.1.1:Int),pr,q.1.2),(q.2:Int))) (lM t x (n,b))):=by
 simp only[tI,lP,j0,lM]
 by_cases h:b.length=256
 .simp[h,eG]
 have a:((b.length:Int)==256)=false:=by simp;omega
 have c:IntKind.wrap .i64 (((b.length+1:Nat):Int)-1)=(b.length:Int):=by rw[bY aa aa];omega
 simp only[a,j9,jD,j0,if_neg h,kD]
 rw[lB (by simp only[jA,jB];omega) aa]
 simp only[j0,jF,jA,jB,kU,c]
end
theorem YK{N:Nat}{s:BA}{l:List BA}(a:l.length<1000000):∀(d i M:Nat),i+d=l.length->d<M->
  aK (EX N l s) M (i:Int)=some (match(l.drop i).findIdx? (fun x=>decide (x=s)) with|some j=> .inr (((i+j:Nat):Int))|none=> .inl ())
 |d,i,0,_,h=>by omega
 |0,i,M+1,h,_=>by
  have:l.drop i=[]:=jP aa
  simp only[aK,EX,this,List.findIdx?_nil]
  rw[if_neg (by simp only[j6];omega)]
  rfl
 |d+1,i,M+1,h,c=>by
  have hi:i<l.length:=by omega
  have b:=YK (N:=N) (s:=s) a d (i+1) M aa aa
  simp only[aK,EX]
  rw[if_pos (by simp only[j6];omega),eS hi,jH hi,List.findIdx?_cons]
  simp only[j0,mF,j6]
  by_cases hs:l[i]=s
  .rw[if_pos hs.symm,if_pos hs];simp
  rw[if_neg (fun e=>hs e.symm),if_neg hs]
  simp only[j0,nO (show i<1000000 by omega),b]
  cases(l.drop (i+1)).findIdx? (fun x=>decide (x=s)) with
  |none=>rfl
  |some j=>simp only[kK];congr 2;omega
theorem qBz{N:Nat}{s:BA}{l:List BA}(b:l.length<1000000)(a:l.length<N):
  EZ N l s=some (match l.findIdx? (fun x=>decide (x=s)) with|some j=>(j:Int)|none=> -1):=by
 have h:=YK (N:=N) (s:=s) b l.length 0 N aa a
 simp only[jV,kU] at h
 simp only[EZ]
 rw[show(0:Int)=((0:Nat):Int) from rfl,h]
 simp only[j0]
 cases l.findIdx? (fun x=>decide (x=s))<;>rfl
theorem qKq{s:BA}{l:List BA}:(l.findIdx? (fun x=>decide (x=s))).isSome=decide (s∈l):=by
 rw[List.findIdx?_isSome]
 rw[jX]
 simp only[fP,j6]
 exact⟨fun⟨x,a,b⟩=>b▸a,fun h=>⟨s,h,rfl⟩⟩
theorem XQ{N:Nat}{s:BA}{l:List BA}(b:l.length<1000000)(a:l.length<N):
  EW N l s=some (decide (s∈l)):=by
 simp only[EW,qBz b a,j0,<-qKq]
 cases l.findIdx? (fun x=>decide (x=s)) with
 |none=>rfl
 |some j=>simp only[Option.isSome_some];rw[jL (show(j:Int)>=0 by omega)]
theorem qNt{α:Type}{g:α->Bool}{l k:List α}(n:∀a∈l,∀b∈l,g a=true->g b=true->a=b)(d:k.Perm l):k.find? g=l.find? g:=by
 cases h:l.find? g with
 |none=>
  rw[List.find?_eq_none] at h ⊢
  exact fun x c=>h x (d.mem_iff.1 c)
 |some a=>
  have e:=gL h
  have f:=List.find?_some h
  cases c:k.find? g with
  |none=>exact absurd f (by simpa using List.find?_eq_none.1 c a (d.mem_iff.2 e))
  |some b=>rw[n b (d.mem_iff.1 (gL c)) a e (List.find?_some c) f]
theorem qPl:∀a∈opsC,∀b∈opsC,a.2=b.2->a=b:=by
 have h:(opsC.all fun a=>opsC.all fun b=> !(decide (a.2=b.2))||decide (a=b))=true:=by kernel_rfl
 intro a c b d e
 have:=jN.1 (jN.1 h a c) b d
 simpa[e] using this
section
variable {N:Nat} {ts:List cA} {pr:List BA} {b:List Ex} {i:Nat}
theorem qPa(op:Int):ME N op=some ((wQ op:Nat):Int):=by
 by_cases h1:op=6
 .subst h1;rfl
 by_cases h2:op=7
 .subst h2;rfl
 by_cases h3:op=1
 .subst h3;rfl
 by_cases h4:op=2
 .subst h4;rfl
 simp[ME,wQ,h1,h2,h3,h4]
theorem qCn(level:Nat){t:cA}(a:t=aM ts i):∀k:List (Int×BA),lG (AZ N (level:Int) ((ts,(i:Int),pr,b),t)) k ()=
  some (match k.find? (pL ts level i) with|some o=> .inr ((ts,(i:Int),pr,b),o.1)|none=> .inl ())
 |[]=>rfl
 |o::k=>by
  have key:AZ N (level:Int) ((ts,(i:Int),pr,b),t) (some o) ()=some (if pL ts level i o then .inr (.inr ((ts,(i:Int),pr,b),o.1)) else .inl ()):=by
   subst a
   simp only[AZ,qPa,j0,mF,pL,cB]
   have c:(((wQ o.1:Nat):Int)==(level:Int))=decide (wQ o.1=level):=by
    rw[jX];simp only[kF,j6];omega
   rw[c]
   by_cases h1:(aM ts i).1=4<;>by_cases h2:(aM ts i).2.1=o.2<;>by_cases h3:wQ o.1=level<;>simp[h1,h2,h3]
  simp only[lG,key,j0,List.find?_cons]
  cases h:pL ts level i o with
  |true=>rfl
  |false=>exact qCn level a k
theorem qPh:QK N=some (some opsC):=by kernel_rfl
theorem qJt(hi:i<ts.length)(level:Nat):LD N (ts,(i:Int),pr,b) (level:Int)=some ((ts,(i:Int),pr,b),mL ts level i):=by
 simp only[LD,sR hi,qPh,j0,JL,kK,dF]
 have h:∀a∈opsC,∀b∈opsC,pL ts level i a=true->pL ts level i b=true->a=b:=by
  intro a e b g c d
  simp only[pL,cB,jK,j6] at c d
  exact qPl a e b g (c.1.2.symm.trans d.1.2)
 have key:=qAa (f:=AZ N (level:Int) ((ts,(i:Int),pr,b),aM ts i)) (l:=opsC) (s:=()) fun k c=>by
  rw[qCn level rfl k,qNt h c]
 rw[key]
 unfold mL
 cases opsC.find? (pL ts level i)<;>rfl
end
abbrev lX:=List cA×Int×List BA×List Ex
def eM(ts:List cA)(pr:List BA)(p:Ps):lX:=(ts,(p.1:Int),pr,p.2)
def lH(ts:List cA)(pr:List BA):PM Nat->cG⊕(lX×Int):=Sum.map id fun q=>(eM ts pr q.1,(q.2:Int))
def EF(ts:List cA)(pr:List BA):PM (List Int)->cG⊕(lX×List Int):=Sum.map id fun q=>(eM ts pr q.1,q.2)
section
variable {N:Nat} {ts:List cA} {pr:List BA} {E S:Ps->PM Nat} {d:Int}
variable {r1:lX->cA->Int->Option (cG⊕(lX×Int))} {r2:lX->Int->Option (cG⊕(lX×List Int))} {r3:lX->Int->Option (cG⊕(lX×Int))} {r4:lX->Int->Int->Option (cG⊕(lX×Int))} {r5:lX->Int->Option (cG⊕(lX×Int))}
theorem ZL(k:OkT ts)(r:ts.length<1000000)(t:lT ts E)(u:∀p:Ps,p.1<ts.length->p.2.length<=256->r5 (eM ts pr p) (IntKind.wrap .i64 (d+1))=some (lH ts pr (E p))):
  ∀(n M:Nat) (l:List Int) (p:Ps),p.1<ts.length->p.2.length<=256->l.length<=p.1->ts.length<p.1+n->ts.length<p.1+M->
  ((aK (KJ N r5 d) M (l,ts,(p.1:Int),pr,p.2)).bind fun s=>(match s with| .inl a=>(oZ N (a.2.1,a.2.2.1,a.2.2.2.1,a.2.2.2.2) (⟨#[41]⟩:BA)).bind fun A=>(match A with| .inl B=>some (.inl B)| .inr e=>some (.inr ((e.1,e.2.1,e.2.2.1,e.2.2.2),a.1)))| .inr (z)=>some z))=some (EF ts pr (uT ts E n l p))
 |0,M,l,p,c,_,_,h,_=>by omega
 |n+1,0,l,p,c,_,_,_,h=>by omega
 |n+1,M+1,l,p,c,v,D,R,K=>by
  have f:=u p c v
  simp only[eM] at f
  simp only[aK,KJ,uT,f,j0]
  cases hq:E p with
  |inl z=>simp only[lH,Sum.map_inl,id,bI,EF,j0]
  |inr q=>
   obtain⟨⟨F,o,G,x⟩,H⟩:=t p q.1 q.2 c v hq
   simp only[lH,kD,bI,eM]
   rw[lB (by simp only[jA,jB];omega) aa]
   simp only[j0,CT o r,qI]
   rcases eI (cB ts 4 ⟨#[44]⟩ q.1.1) with b|b
   .have g:=lY k o ac b
    have y:=ZL k r t u n M (l++[(q.2:Int)]) (q.1.1+1,q.1.2) g x (by simp only[jF,jA,jB];omega) ai ai
    simp only[b,jE,kJ,j9,jD,j0]
    exact y
   simp only[b,j9,jD,kA,jE,j0,sU o r,lR]
   cases dU ts ⟨#[41]⟩ q.1.1 with
   |inl z=>rfl
   |inr j=>rfl
theorem qKi(a:OkT ts)(c:ts.length<1000000)(n:ts.length<N)(f:lT ts E)(k:∀p:Ps,p.1<ts.length->p.2.length<=256->r5 (eM ts pr p) (IntKind.wrap .i64 (d+1))=some (lH ts pr (E p)))
  (p:Ps) (e:p.1<ts.length) (l:p.2.length<=256):KK N r1 r2 r3 r4 r5 (eM ts pr p) d=some (EF ts pr (vZ ts E p)):=by
 simp only[KK,eM,sU e c,j0,vZ,oI]
 cases h:dU ts ⟨#[40]⟩ p.1 with
 |inl z=>rfl
 |inr i=>
  obtain⟨rfl,g,-⟩:=lZ a e h
  simp only[kD,bI,CT g c,j0,lR]
  rcases eI (cB ts 4 ⟨#[41]⟩ (p.1+1)) with b|b
  .simp only[b,jE];rfl
  simp only[b,j9,jD]
  exact ZL a c f k (ts.length+1) N [] (p.1+1,p.2) g l ad ai ai
theorem qMq(c:OkT ts)(f:ts.length<1000000)(n:300000<N)(o:∀j,(aM ts j).2.1.size<100000)(A:lT ts E)(B:∀p:Ps,p.1<ts.length->p.2.length<=256->r5 (eM ts pr p) (IntKind.wrap .i64 (d+1))=some (lH ts pr (E p)))
  (t:cA) (p:Ps) (s:p.1<ts.length) (l:p.2.length<=256):KR N r1 r2 r3 r4 r5 (eM ts pr p) t d=some (lH ts pr (sA ts E t p)):=by
 have fin:∀(b:Int×Int×BA×List Int×lX) (q:Ps) (x:Ex),b.2.2.2.2=eM ts pr q->x=(b.1,b.2.1,0,b.2.2.1,b.2.2.2.1)->q.1<ts.length->q.2.length<=256->
   ((oZ N (b.2.2.2.2.1,b.2.2.2.2.2.1,b.2.2.2.2.2.2.1,b.2.2.2.2.2.2.2) (⟨#[41]⟩:BA)).bind fun r=>(match r with| .inl v=>some (.inl v)| .inr k=>(tI N (k.1,k.2.1,k.2.2.1,k.2.2.2) (t.1,t.2.1,t.2.2.1,t.2.2.2) (b.1,b.2.1,0,b.2.2.1,b.2.2.2.1)).bind fun u=>(match u with| .inl y=>some (.inl y)| .inr e=>some (.inr ((e.1.1,e.1.2.1,e.1.2.2.1,e.1.2.2.2),e.2)))))=
   some (lH ts pr (bI (dU ts lR q.1) fun i=>lM t x (i,q.2))):=by
  intro b q x k u r e
  subst u
  rw[k]
  simp only[eM,sU r f,j0,lR]
  cases hj:dU ts ⟨#[41]⟩ q.1 with
  |inl z=>rfl
  |inr j=>
   simp only[kD,bI,zL _ _ e,j0]
   cases lM t (b.1,b.2.1,0,b.2.2.1,b.2.2.2.1) (j,q.2)<;>rfl
 simp only[KR,eM,sU s f,j0,sA,oI]
 cases h:dU ts ⟨#[40]⟩ p.1 with
 |inl z=>rfl
 |inr i=>
  obtain⟨rfl,g,-⟩:=lZ c s h
  simp only[kD,bI,mF,j6]
  by_cases k1:t.2.1=pU
  .rw[if_pos (show t.2.1=(⟨#[114,101,97,100]⟩:BA) from k1),if_pos k1]
   simp only[NS g f n o,j0]
   cases h1:nH ts (p.1+1) with
   |inl z=>rfl
   |inr a=>
    obtain⟨rfl,e,-⟩:=tM c g h1
    simp only[kD,sU e f,j0,qI]
    cases h2:dU ts ⟨#[44]⟩ (p.1+1+1) with
    |inl z=>rfl
    |inr j=>
     obtain⟨rfl,r,-⟩:=lZ c e h2
     have k:=B (p.1+1+1+1,p.2) r l
     simp only[eM] at k
     simp only[kD,k,j0]
     cases h3:E (p.1+1+1+1,p.2) with
     |inl z=>rfl
     |inr q=>
      obtain⟨⟨y,u,D,v⟩,F⟩:=A (p.1+1+1+1,p.2) q.1 q.2 r l h3
      exact fin (6,0,(aM ts (p.1+1)).2.1,[(q.2:Int)],ts,(q.1.1:Int),pr,q.1.2) q.1 _ rfl rfl u v
  rw[if_neg (show ¬t.2.1=(⟨#[114,101,97,100]⟩:BA) from k1),if_neg k1]
  by_cases k2:t.2.1=pY
  .rw[if_pos (show t.2.1=(⟨#[115,105,122,101]⟩:BA) from k2),if_pos k2]
   simp only[NS g f n o,j0]
   cases h1:nH ts (p.1+1) with
   |inl z=>rfl
   |inr a=>
    obtain⟨rfl,e,-⟩:=tM c g h1
    exact fin (7,0,(aM ts (p.1+1)).2.1,[],ts,((p.1+1+1:Nat):Int),pr,p.2) (p.1+1+1,p.2) _ rfl rfl e l
  rw[if_neg (show ¬t.2.1=(⟨#[115,105,122,101]⟩:BA) from k2),if_neg k2]
  by_cases k3:t.2.1=qC
  .rw[if_pos (show t.2.1=(⟨#[104,97,115]⟩:BA) from k3),if_pos k3]
   simp only[NS g f n o,j0]
   cases h1:nH ts (p.1+1) with
   |inl z=>rfl
   |inr a=>
    obtain⟨rfl,e,-⟩:=tM c g h1
    exact fin (8,0,(aM ts (p.1+1)).2.1,[],ts,((p.1+1+1:Nat):Int),pr,p.2) (p.1+1+1,p.2) _ rfl rfl e l
  rw[if_neg (show ¬t.2.1=(⟨#[104,97,115]⟩:BA) from k3),if_neg k3]
  by_cases k4:t.2.1=qB
  .rw[if_pos (show t.2.1=(⟨#[101,110,118]⟩:BA) from k4),if_pos k4]
   simp only[IB g f (show(3:Int)≠5 by decide),j0,wJ]
   cases h1:mB ts 3 (p.1+1) with
   |inl z=>rfl
   |inr a=>
    obtain⟨rfl,e,-⟩:=wE c ac g h1
    simp only[kD,qQo (N:=N) aa,j0,bI,lP]
    cases h2:uW (aM ts (p.1+1)).2.1 with
    |false=>rfl
    |true=>exact fin (9,0,(aM ts (p.1+1)).2.1,[],ts,((p.1+1+1:Nat):Int),pr,p.2) (p.1+1+1,p.2) _ rfl rfl e l
  rw[if_neg (show ¬t.2.1=(⟨#[101,110,118]⟩:BA) from k4),if_neg k4]
  simp only[IB g f (show(2:Int)≠5 by decide),j0]
  cases h1:mB ts 2 (p.1+1) with
  |inl z=>rfl
  |inr a=>
   obtain⟨rfl,e,-⟩:=wE c ac g h1
   simp only[kD,lP,j0]
   by_cases h2:(aM ts (p.1+1)).2.2.1>=64
   .simp only[if_pos h2,j0];rfl
   simp only[if_neg h2,j0]
   exact fin (10,(aM ts (p.1+1)).2.2.1,⟨#[]⟩,[],ts,((p.1+1+1:Nat):Int),pr,p.2) (p.1+1+1,p.2) _ rfl rfl e l
end
section
variable {N:Nat} {ts:List cA} {pr:List BA} {E S:Ps->PM Nat} {d:Int}
variable {r1:lX->cA->Int->Option (cG⊕(lX×Int))} {r2:lX->Int->Option (cG⊕(lX×List Int))} {r3:lX->Int->Option (cG⊕(lX×Int))} {r4:lX->Int->Int->Option (cG⊕(lX×Int))} {r5:lX->Int->Option (cG⊕(lX×Int))}
theorem qSu(x:BA):(decide (x=(⟨#[114,101,97,100]⟩:BA))||(decide (x=(⟨#[115,105,122,101]⟩:BA))||(decide (x=(⟨#[104,97,115]⟩:BA))||(decide (x=(⟨#[101,110,118]⟩:BA))||decide (x=(⟨#[102,108,105,112]⟩:BA))))))=decide (x∈[pU,pY,qC,qB,rC]):=by
 simp only[pU,pY,qC,qB,rC,jJ,gP,or_false,Bool.decide_or]
theorem qPd(c:OkT ts)(o:ts.length<1000000)(K:pr.length<1000)(M:300000<N)(y:lT ts E)(H:∀p:Ps,p.1<ts.length->p.2.length<=256->r5 (eM ts pr p) (IntKind.wrap .i64 (d+1))=some (lH ts pr (E p)))
  (F:∀(t:cA) (p:Ps),p.1<ts.length->p.2.length<=256->r1 (eM ts pr p) t d=some (lH ts pr (sA ts E t p)))
  (G:∀p:Ps,p.1<ts.length->p.2.length<=256->r2 (eM ts pr p) d=some (EF ts pr (vZ ts E p)))
  (p:Ps) (k:p.1<ts.length) (b:p.2.length<=256):LA N r1 r2 r3 r4 r5 (eM ts pr p) d=some (lH ts pr (sV ts pr E p)):=by
 have A:=nO (show p.1<1000000 by omega)
 simp only[LA,eM,sR k,j0,sV]
 by_cases k1:(aM ts p.1).1=2
 .rw[if_pos (show((aM ts p.1).1==2)=true by simpa using k1),if_pos k1,A]
  simp only[zL _ _ b,j0]
  cases lM (aM ts p.1) (1,(aM ts p.1).2.2.1,0,⟨#[]⟩,[]) (p.1+1,p.2)<;>rfl
 rw[if_neg (show ¬((aM ts p.1).1==2)=true by simpa using k1),if_neg k1]
 simp only[CT k o,j0]
 rcases eI (cB ts 4 TQ p.1) with e|e
 .have c1':cB ts 4 ⟨#[45]⟩ p.1=true:=e
  have g:=lY c k ac e
  simp only[e,c1',jE,IB g o (show(2:Int)≠5 by decide),j0]
  cases h:mB ts 2 (p.1+1) with
  |inl z=>rfl
  |inr a=>
   simp only[kD,bI,zL _ _ b,j0]
   cases lM (aM ts p.1) (1,IntKind.wrap .i64 (0-a.2.2.2.1),0,⟨#[]⟩,[]) (a.1,p.2)<;>rfl
 have c1':cB ts 4 ⟨#[45]⟩ p.1=false:=e
 simp only[e,c1',j9,jD,CT k o,j0]
 rcases eI (cB ts 4 oI p.1) with f|f
 .have c2':cB ts 4 ⟨#[40]⟩ p.1=true:=f
  have g:=lY c k ac f
  have n:=H (p.1+1,p.2) g b
  simp only[eM] at n
  simp only[f,c2',jE,n,j0]
  cases h:E (p.1+1,p.2) with
  |inl z=>rfl
  |inr q=>
   obtain⟨⟨B,u,D,v⟩,r⟩:=y (p.1+1,p.2) q.1 q.2 g b h
   simp only[lH,kD,bI,eM,sU u o,j0,lR]
   cases dU ts ⟨#[41]⟩ q.1.1<;>rfl
 have c2':cB ts 4 ⟨#[40]⟩ p.1=false:=f
 simp only[f,c2',j9,jD,lP,j0]
 by_cases k2:(aM ts p.1).1=1
 rotate_left
 .rw[if_pos (show((aM ts p.1).1 !=1)=true by simpa using k2),if_pos k2];rfl
 rw[if_neg (show ¬((aM ts p.1).1 !=1)=true by simpa using k2),if_neg (show ¬(aM ts p.1).1≠1 by simpa using k2)]
 have g:=c.next k (show(aM ts p.1).1≠5 by rw[k2];decide)
 simp only[j0,mF,orS,qSu,A]
 by_cases k3:(aM ts p.1).2.1∈[pU,pY,qC,qB,rC]
 .rw[if_pos (show decide ((aM ts p.1).2.1∈[pU,pY,qC,qB,rC])=true from jL k3),if_pos k3]
  have h1p:=F (aM ts p.1) (p.1+1,p.2) g b
  simp only[eM] at h1p
  simp only[h1p,j0]
  cases sA ts E (aM ts p.1) (p.1+1,p.2)<;>rfl
 rw[if_neg (show ¬decide ((aM ts p.1).2.1∈[pU,pY,qC,qB,rC])=true by simpa using k3),if_neg k3]
 simp only[XN,j0]
 rcases eI (tU (aM ts p.1).2.1) with r|r
 .simp only[r,jE,j0];rfl
 simp only[r,j9,jD,j0,DW g]
 rcases eI (cB ts 4 oI (p.1+1)) with n|n
 .have c4':cB ts 4 ⟨#[40]⟩ (p.1+1)=true:=n
  have h2p:=G (p.1+1,p.2) g b
  simp only[eM] at h2p
  simp only[n,c4',jE,h2p,j0]
  cases h:vZ ts E (p.1+1,p.2) with
  |inl z=>rfl
  |inr q=>
   obtain⟨B,u,D,v⟩:=WI c y (p:=(p.1+1,p.2)) g b h
   simp only[EF,kD,bI,eM,zL _ _ v,j0]
   cases lM (aM ts p.1) (3,0,0,(aM ts p.1).2.1,q.2) (q.1.1,q.1.2)<;>rfl
 have c4':cB ts 4 ⟨#[40]⟩ (p.1+1)=false:=n
 simp only[n,c4',j9,jD,qBz (N:=N) (l:=pr) (s:=(aM ts p.1).2.1) aa aa,j0]
 cases pr.findIdx? (fun x=>decide (x=(aM ts p.1).2.1)) with
 |none=>rfl
 |some j=>
  simp only[j6]
  rw[if_neg aa]
  simp only[j0,zL _ _ b]
  cases lM (aM ts p.1) (2,(j:Int),0,⟨#[]⟩,[]) (p.1+1,p.2)<;>rfl
theorem qOy(a:∀p:Ps,p.1<ts.length->p.2.length<=256->r3 (eM ts pr p) d=some (lH ts pr (S p)))(p:Ps)(c:p.1<ts.length)(b:p.2.length<=256):
  BN N r1 r2 r3 r4 r5 (eM ts pr p) 4 d=some (lH ts pr (S p)):=by
 have h3p:=a p c b
 simp only[eM] at h3p
 simp only[BN,eM,h3p,j0]
 cases S p<;>rfl
theorem ZR(c:OkT ts)(B:ts.length<1000000)(k:lT ts S){L:Nat}(A:L<4)(f:∀p:Ps,p.1<ts.length->p.2.length<=256->r4 (eM ts pr p) ((L:Int)+1) d=some (lH ts pr (S p))):
  ∀(n M x:Nat) (p:Ps),p.1<ts.length->p.2.length<=256->x<p.2.length->ts.length<p.1+n->ts.length<p.1+M->
  aK (KS N r4 (L:Int) d) M ((x:Int),ts,(p.1:Int),pr,p.2)=some (lH ts pr (pZ ts L S n x p))
 |0,M,x,p,b,_,_,h,_=>by omega
 |n+1,0,x,p,b,_,_,_,h=>by omega
 |n+1,M+1,x,p,b,l,U,R,K=>by
  have D:=nO (show p.1<1000000 by omega)
  have t:IntKind.wrap .i64 ((L:Int)+1)=(L:Int)+1:=bY aa aa
  simp only[aK,KS,pZ,qJt b,j0]
  by_cases a:mL ts L p.1=0
  .rw[if_pos (show(mL ts L p.1==0)=true by simpa using a),if_pos a];rfl
  rw[if_neg (show ¬(mL ts L p.1==0)=true by simpa using a),if_neg a]
  have s:(aM ts p.1).1≠5:=by
   intro s
   apply a
   unfold mL
   have:opsC.find? (pL ts L p.1)=none:=by
    rw[List.find?_eq_none]
    intro o _ e
    simp only[pL,jK] at e
    have:=ND e.1
    omega
   rw[this]
  have g:=c.next b s
  have h4p:=f (p.1+1,p.2) g l
  simp only[eM] at h4p
  simp only[sR b,j0,D,t,h4p]
  cases h:S (p.1+1,p.2) with
  |inl z=>rfl
  |inr q=>
   obtain⟨⟨u,v,y,e⟩,H⟩:=k (p.1+1,p.2) q.1 q.2 g l h
   simp only[lH,kD,bI,eM,zL _ _ e,j0]
   cases hn2:lM (aM ts p.1) (4,0,mL ts L p.1,⟨#[]⟩,[(x:Int),(q.2:Int)]) (q.1.1,q.1.2) with
   |inl z=>rfl
   |inr r=>
    obtain⟨⟨a,E,V,F⟩,G⟩:=wG (ts:=ts) (p:=p) (r:=(q.1.1,q.1.2)) (by simp only at u ⊢;omega) v y e hn2
    simp only[kD]
    by_cases k6:L=1
    .subst k6
     rfl
    rw[if_neg (show ¬((L:Int)==1)=true by simp;omega),if_neg k6]
    simp only[j0]
    exact ZR c B k A f n M r.2 r.1 E F G aa aa
theorem SO(e:OkT ts)(r:ts.length<1000000)(u:1000001<N)(b:lT ts S){L:Nat}(o:L<4)(a:∀p:Ps,p.1<ts.length->p.2.length<=256->r4 (eM ts pr p) ((L:Int)+1) d=some (lH ts pr (S p)))
  (p:Ps) (f:p.1<ts.length) (c:p.2.length<=256):BN N r1 r2 r3 r4 r5 (eM ts pr p) (L:Int) d=some (lH ts pr (sW ts L S p)):=by
 have g:IntKind.wrap .i64 ((L:Int)+1)=(L:Int)+1:=bY aa aa
 have h4p:=a p f c
 simp only[eM] at h4p
 simp only[BN,eM,sW,g,h4p,j0]
 rw[if_neg (show ¬((L:Int)==4)=true by simp;omega)]
 cases h:S p with
 |inl z=>rfl
 |inr q=>
  obtain⟨⟨s,k,t,l⟩,n⟩:=b p q.1 q.2 f c h
  simp only[lH,kD,bI,eM]
  rw[ZR e r b o a (ts.length+1) N q.2 q.1 k l n aa aa]
  rfl
theorem qSz{k:Nat}(f:OkT ts)(B:ts.length<1000000)(Z:d+k=32)(hk:k<33)(q:lT ts (eK ts pr k))(r:∀p:Ps,p.1<ts.length->p.2.length<=256->r5 (eM ts pr p) (IntKind.wrap .i64 (d+1))=some (lH ts pr (eK ts pr k p)))
  (E:∀p:Ps,p.1<ts.length->p.2.length<=256->r4 (eM ts pr p) 1 d=some (lH ts pr (HV ts pr (eK ts pr k) p)))
  (p:Ps) (h:p.1<ts.length) (s:p.2.length<=256):BV N r1 r2 r3 r4 r5 (eM ts pr p) d=some (lH ts pr (eK ts pr (k+1) p)):=by
 have F:=nO (show p.1<1000000 by omega)
 simp only[BV,eM,sR h,j0,eK]
 rw[if_neg (show ¬decide (d>32)=true by simp only[j6];omega)]
 simp only[j0,DW h]
 rcases eI (cB ts 1 JU p.1) with e|e
 rotate_left
 .have c1':cB ts 1 ⟨#[105,102]⟩ p.1=false:=e
  have h4p:=E p h s
  simp only[eM] at h4p
  simp only[e,c1',kA,jE,j9,jD,h4p,j0]
  cases HV ts pr (eK ts pr k) p<;>rfl
 have c1':cB ts 1 ⟨#[105,102]⟩ p.1=true:=e
 have g:=lY f h ac e
 have l:=r (p.1+1,p.2) g s
 simp only[eM] at l
 simp only[e,c1',kJ,jE,j9,jD,F,l,j0]
 cases ha:eK ts pr k (p.1+1,p.2) with
 |inl z=>rfl
 |inr a=>
  obtain⟨⟨G,t,H,u⟩,K⟩:=q (p.1+1,p.2) a.1 a.2 g s ha
  simp only[lH,kD,bI,eM,TO t B,j0,IS]
  cases hi:sJ ts ⟨#[116,104,101,110]⟩ a.1.1 with
  |inl z=>rfl
  |inr i=>
   obtain⟨rfl,y,-⟩:=DA f t hi
   have n:=r (a.1.1+1,a.1.2) y u
   simp only[eM] at n
   simp only[kD,n,j0]
   cases hb1:eK ts pr k (a.1.1+1,a.1.2) with
   |inl z=>rfl
   |inr b=>
    obtain⟨⟨M,v,R,x⟩,S⟩:=q (a.1.1+1,a.1.2) b.1 b.2 y u hb1
    simp only[lH,kD,bI,eM,TO v B,j0,IR]
    cases hj:sJ ts ⟨#[101,108,115,101]⟩ b.1.1 with
    |inl z=>rfl
    |inr j=>
     obtain⟨rfl,A,-⟩:=DA f v hj
     have o:=r (b.1.1+1,b.1.2) A x
     simp only[eM] at o
     simp only[kD,o,j0]
     cases hc1:eK ts pr k (b.1.1+1,b.1.2) with
     |inl z=>rfl
     |inr c=>
      obtain⟨⟨e,U,V,D⟩,Y⟩:=q (b.1.1+1,b.1.2) c.1 c.2 A x hc1
      simp only[lH,kD,bI,eM,zL _ _ D,j0]
      cases lM (aM ts p.1) (5,0,0,⟨#[]⟩,[(a.2:Int),(b.2:Int),(c.2:Int)]) (c.1.1,c.1.2)<;>rfl
theorem qRr(a:d>32)(p:Ps)(b:p.1<ts.length):BV N r1 r2 r3 r4 r5 (eM ts pr p) d=some (lH ts pr (eK ts pr 0 p)):=by
 simp only[BV,eM,sR b,j0,eK]
 rw[if_pos (show decide (d>32)=true by simpa using a)]
 rfl
theorem qCv(b:OkT ts)(e:ts.length<1000000)(n:pr.length<1000)(l:1000001<N)(r:∀j,(aM ts j).2.1.size<100000):∀(k D:Nat),k<=32->7*k+1<=D->∀p:Ps,p.1<ts.length->p.2.length<=256->
  (iD N D).2.2.2.2 (eM ts pr p) (33-(k:Int))=some (lH ts pr (eK ts pr k p))
 |0,0,_,h,_,_,_=>by omega
 |0,D+1,_,_,p,a,_=>by simp only[iD];exact qRr aa p a
 |k+1,D,E,d,p,a,c=>by
  have f:=wD (ts:=ts) (params:=pr) b k
  have o:=QV (params:=pr) b f
  have q:lT ts (IX ts pr (eK ts pr k)):=zC b o
  have B:lT ts (uY ts pr (eK ts pr k)):=zC b q
  have g:∀D,7*k+1<=D->∀p:Ps,p.1<ts.length->p.2.length<=256->(iD N D).2.2.2.2 (eM ts pr p) (IntKind.wrap .i64 (32-(k:Int)+1))=some (lH ts pr (eK ts pr k p)):=by
   intro D d p a c
   rw[bY aa aa,show 32-(k:Int)+1=33-(k:Int) by omega]
   exact qCv b e n l r k D aa d p a c
  have y:∀D,7*k+2<=D->∀(t:cA) (p:Ps),p.1<ts.length->p.2.length<=256->(iD N D).1 (eM ts pr p) t (32-(k:Int))=some (lH ts pr (sA ts (eK ts pr k) t p)):=by
   intro D d t p a c
   obtain⟨D',rfl⟩:∃D',D=D'+1:=⟨D-1,by omega⟩
   simp only[iD]
   exact qMq b e aa r f (g D' aa) t p a c
  have z:∀D,7*k+2<=D->∀p:Ps,p.1<ts.length->p.2.length<=256->(iD N D).2.1 (eM ts pr p) (32-(k:Int))=some (EF ts pr (vZ ts (eK ts pr k) p)):=by
   intro D d p a c
   obtain⟨D',rfl⟩:∃D',D=D'+1:=⟨D-1,by omega⟩
   simp only[iD]
   exact qKi b e aa f (g D' aa) p a c
  have A:∀D,7*k+3<=D->∀p:Ps,p.1<ts.length->p.2.length<=256->(iD N D).2.2.1 (eM ts pr p) (32-(k:Int))=some (lH ts pr (sV ts pr (eK ts pr k) p)):=by
   intro D d p a c
   obtain⟨D',rfl⟩:∃D',D=D'+1:=⟨D-1,by omega⟩
   simp only[iD]
   exact qPd b e n aa f (g D' aa) (y D' aa) (z D' aa) p a c
  have x:∀D,7*k+4<=D->∀p:Ps,p.1<ts.length->p.2.length<=256->(iD N D).2.2.2.1 (eM ts pr p) 4 (32-(k:Int))=some (lH ts pr (sV ts pr (eK ts pr k) p)):=by
   intro D d p a c
   obtain⟨D',rfl⟩:∃D',D=D'+1:=⟨D-1,by omega⟩
   simp only[iD]
   exact qOy (A D' aa) p a c
  have v:∀D,7*k+5<=D->∀p:Ps,p.1<ts.length->p.2.length<=256->(iD N D).2.2.2.1 (eM ts pr p) 3 (32-(k:Int))=some (lH ts pr (IX ts pr (eK ts pr k) p)):=by
   intro D d p a c
   obtain⟨D',rfl⟩:∃D',D=D'+1:=⟨D-1,by omega⟩
   simp only[iD]
   exact SO b e l o (L:=3) aa (x D' aa) p a c
  have u:∀D,7*k+6<=D->∀p:Ps,p.1<ts.length->p.2.length<=256->(iD N D).2.2.2.1 (eM ts pr p) 2 (32-(k:Int))=some (lH ts pr (uY ts pr (eK ts pr k) p)):=by
   intro D d p a c
   obtain⟨D',rfl⟩:∃D',D=D'+1:=⟨D-1,by omega⟩
   simp only[iD]
   exact SO b e l q (L:=2) aa (v D' aa) p a c
  have s:∀D,7*k+7<=D->∀p:Ps,p.1<ts.length->p.2.length<=256->(iD N D).2.2.2.1 (eM ts pr p) 1 (32-(k:Int))=some (lH ts pr (HV ts pr (eK ts pr k) p)):=by
   intro D d p a c
   obtain⟨D',rfl⟩:∃D',D=D'+1:=⟨D-1,by omega⟩
   simp only[iD]
   exact SO b e l B (L:=1) aa (u D' aa) p a c
  obtain⟨D',rfl⟩:∃D',D=D'+1:=⟨D-1,by omega⟩
  rw[show(33:Int)-((k+1:Nat):Int)=32-(k:Int) by omega]
  simp only[iD]
  exact qSz b e aa aa f (g D' aa) (s D' aa) p a c
theorem qQd(a:OkT ts)(e:ts.length<1000000)(b:pr.length<1000)(c:1000001<N)(g:∀j,(aM ts j).2.1.size<100000)(p:Ps)(f:p.1<ts.length)(d:p.2.length<=256):
  PS N (ts,(p.1:Int),pr,p.2) 1=some (lH ts pr (eK ts pr 32 p)):=by
 have:=qCv a e b c g 32 N aa aa p f d
 exact this
end
section
variable {N:Nat} {ts:List cA} {pr:List BA} {b:List Ex}
theorem QT(h:OkT ts):∀(n:Nat) (l:List BA) (i:Nat) (a:Nat×List BA),i<ts.length->l.length<=8->tO ts n l i= .inr a->i<a.1/\a.1<ts.length/\a.2.length<=8
 |0,_,_,_,_,_,d=>by cases d
 |n+1,l,i,a,hi,q,d=>by
  obtain⟨x,k,b⟩:=iN (show bI (mD ts i) _=_ from d)
  obtain⟨rfl,e,-⟩:=sS h hi k
  split at b
  .cases b
  rename_i k1
  split at b
  .cases b
  split at b
  .rename_i k3
   have c:=lY h e ac k3
   obtain⟨r,o,p⟩:=QT h n _ _ a c (by simp only[jF,jA,jB];omega) b
   exact⟨by omega,o,p⟩
  obtain⟨j,g,f⟩:=iN b
  obtain⟨rfl,c,-⟩:=lZ h e g
  obtain rfl:=Sum.inr.inj f
  exact⟨by simp only;omega,c,by simp only[jF,jA,jB];omega⟩
theorem WC(h:OkT ts){i:Nat}{a:Nat×List BA}(hi:i<ts.length)(c:rZ ts i= .inr a):i<a.1/\a.1<ts.length/\a.2.length<=8:=by
 obtain⟨j,d,b⟩:=iN c
 obtain⟨rfl,g,-⟩:=lZ h hi d
 split at b
 .rename_i k
  obtain rfl:=Sum.inr.inj b
  exact⟨by simp only;omega,lY h g ac k,by simp⟩
 obtain⟨l,e,f⟩:=QT h _ _ _ a g ad b
 exact⟨by omega,e,f⟩
theorem XS(d:OkT ts)(k:ts.length<1000000)(r:1000000<N):∀(n M:Nat) (l:List BA) (i:Nat),i<ts.length->l.length<=8->ts.length<i+n->ts.length<i+M->
  ((aK (KI N) M (l,ts,(i:Int),pr,b)).bind fun p=>(match p with| .inl e=>(oZ N (e.2.1,e.2.2.1,e.2.2.2.1,e.2.2.2.2) (⟨#[41]⟩:BA)).bind fun q=>(match q with| .inl t=>some (.inl t)| .inr c=>some (.inr ((c.1,c.2.1,c.2.2.1,c.2.2.2),e.1)))| .inr (z)=>some z))=some (Sum.map id (fun a:Nat×List BA=>((ts,(a.1:Int),pr,b),a.2)) (tO ts n l i))
 |0,M,l,i,hi,_,h,_=>by omega
 |n+1,0,l,i,hi,_,_,h=>by omega
 |n+1,M+1,l,i,hi,u,y,v=>by
  simp only[aK,KI,tO,NL hi k,j0]
  cases hx:mD ts i with
  |inl z=>rfl
  |inr x=>
   obtain⟨rfl,o,-⟩:=sS d hi hx
   simp only[kD,bI,lP,j0]
   by_cases k1:l.length=8
   .rw[if_pos (show((l.length:Int)==8)=true by simp;omega),if_pos k1];rfl
   rw[if_neg (show ¬((l.length:Int)==8)=true by simp;omega),if_neg k1]
   simp only[j0,XQ (N:=N) (l:=l) (s:=(aM ts i).2.1) aa aa]
   by_cases k2:(aM ts i).2.1∈l
   .rw[if_pos (jL k2),if_pos k2];rfl
   rw[if_neg (show ¬decide ((aM ts i).2.1∈l)=true by simpa using k2),if_neg k2]
   simp only[j0]
   rw[lB (by simp only[jA,jB];omega) aa]
   simp only[j0,CT o k,qI]
   rcases eI (cB ts 4 ⟨#[44]⟩ (i+1)) with f|f
   .have g:=lY d o ac f
    simp only[f,jE,kJ,j9,jD,j0]
    exact XS d k r n M _ (i+1+1) g (by simp only[jF,jA,jB];omega) aa aa
   simp only[f,j9,jD,kA,jE,j0,sU o k,lR]
   cases dU ts ⟨#[41]⟩ (i+1)<;>rfl
theorem qIy(c:OkT ts)(e:ts.length<1000000)(f:1000000<N){i:Nat}(hi:i<ts.length):
  FD N (ts,(i:Int),pr,b)=some (Sum.map id (fun a:Nat×List BA=>((ts,(a.1:Int),pr,b),a.2)) (rZ ts i)):=by
 simp only[FD,sU hi e,j0,rZ,oI]
 cases h:dU ts ⟨#[40]⟩ i with
 |inl z=>rfl
 |inr j=>
  obtain⟨rfl,g,-⟩:=lZ c hi h
  simp only[kD,bI,CT g e,j0,lR]
  rcases eI (cB ts 4 ⟨#[41]⟩ (i+1)) with d|d
  .simp only[d,jE];rfl
  simp only[d,j9,jD]
  exact XS c e f (ts.length+1) N [] (i+1) g ad aa aa
def NX:List (BA×Int):=[(⟨#[102,117,110,99]⟩,1),(⟨#[103,101,110]⟩,3),(⟨#[116,101,115,116]⟩,2)]
theorem qPn:((dZ (some []:Option (List (BA×Int))) (⟨#[102,117,110,99]⟩:BA) 1).bind fun a=>(dZ a (⟨#[116,101,115,116]⟩:BA) 2).bind fun b=>dZ b (⟨#[103,101,110]⟩:BA) 3)=some (some NX):=by kernel_rfl
theorem qCc(s:BA):((bD (some NX) s).getD 0)=mC s:=by
 simp only[bD,NX,j0,dO,mC,IU,IV,JB]
 by_cases h1:s=⟨#[102,117,110,99]⟩
 .simp[h1]
 by_cases h2:s=⟨#[116,101,115,116]⟩
 .subst h2;rfl
 by_cases h3:s=⟨#[103,101,110]⟩
 .subst h3;rfl
 simp[h1,h2,h3]
theorem YE{before:List Dl}{y1:lX×cA}{o4:List cA×Int×List BA×List Ex×Int×BA×Int×Int}(c:before.length<=64):∀(d i M:Nat),i+d=before.length->d<M->
  ((aK (FT N before (some NX) y1 o4) M (i:Int)).bind fun a=>(match a with| .inl f=>some (-1)| .inr (z)=>some z):Option Int)=some (match(before.drop i).findIdx? (fun d=>d.1==mC y1.2.2.1&&decide (d.2.1=o4.2.2.2.2.2.1)) with|some j=>((i+j:Nat):Int)|none=> -1)
 |d,i,0,_,h=>by omega
 |0,i,M+1,h,_=>by
  have:before.drop i=[]:=jP aa
  simp only[aK,FT,this,List.findIdx?_nil]
  rw[if_neg (by simp only[j6];omega)]
  rfl
 |d+1,i,M+1,h,e=>by
  have hi:i<before.length:=by omega
  have b:=YE (y1:=y1) (o4:=o4) c d (i+1) M aa aa
  simp only[aK,FT]
  rw[if_pos (by simp only[j6];omega),eS hi,jH hi,List.findIdx?_cons]
  simp only[j0,mF,qCc]
  by_cases k1:(before[i].1==mC y1.2.2.1)=true
  .by_cases k2:before[i].2.1=o4.2.2.2.2.2.1
   .simp[k1,k2]
   simp only[k1,k2,jE,decide_false,j0,j9,jD,nO (show i<1000000 by omega),Bool.and_false]
   rw[b]
   cases(before.drop (i+1)).findIdx? (fun d=>d.1==mC y1.2.2.1&&decide (d.2.1=o4.2.2.2.2.2.1)) with
   |none=>rfl
   |some j=>simp only[kK];rw[show i+1+j=i+(j+1) by omega]
  simp only[k1,j9,jD,j0,nO (show i<1000000 by omega),Bool.false_and]
  rw[b]
  cases(before.drop (i+1)).findIdx? (fun d=>d.1==mC y1.2.2.1&&decide (d.2.1=o4.2.2.2.2.2.1)) with
  |none=>rfl
  |some j=>simp only[kK];rw[show i+1+j=i+(j+1) by omega]
theorem MY(h:OkT ts){before:List Dl}{i:Nat}{a:Nat×Dl}(hi:i<ts.length)(b:oH ts before i= .inr a):i<a.1/\a.1<ts.length/\before.length≠64:=by
 unfold oH at b
 dsimp only at b
 split at b
 .cases b
 rename_i k1
 split at b
 .cases b
 rename_i k2
 have g:=h.next hi (show(aM ts i).1≠5 by intro e;apply k1;left;rw[e];decide)
 obtain⟨x,k,f⟩:=iN b
 have gx:x.1=i+1+1/\x.1<ts.length:=by
  split at k
  .obtain⟨rfl,d,-⟩:=tM h g k;exact⟨rfl,d⟩
  obtain⟨rfl,d,-⟩:=sS h g k;exact⟨rfl,d⟩
 split at f
 .cases f
 obtain⟨y,l,q⟩:=iN f
 have gy:x.1<=y.1/\y.1<ts.length:=by
  split at l
  .obtain⟨d,n,-⟩:=WC h gx.2 l;exact⟨by omega,n⟩
  obtain rfl:=Sum.inr.inj l;exact⟨jM _,gx.2⟩
 obtain⟨j,v,r⟩:=iN q
 obtain⟨rfl,o,-⟩:=lZ h gy.2 v
 obtain⟨c,u,s⟩:=iN r
 obtain⟨⟨d,n,A,B⟩,-⟩:=wD h 32 (y.1+1,[]) c.1 c.2 o ad u
 obtain⟨m,z,t⟩:=iN s
 obtain⟨rfl,p,-⟩:=lZ h n z
 obtain rfl:=Sum.inr.inj t
 exact⟨by simp only at d ⊢;omega,p,k2⟩
theorem qQc{before:List Dl}{f:Dl->Bool}:(decide ((match before.findIdx? f with|some j=>((0+j:Nat):Int)|none=> -1)>=0))=before.any f:=by
 have:=List.findIdx?_isSome (xs:=before) (p:=f)
 rw[<-this]
 cases before.findIdx? f with
 |none=>rfl
 |some j=>simp only[Option.isSome_some];exact jL aa
end
section
variable {N:Nat} {ts:List cA} {pr:List BA} {b:List Ex}
theorem qQh(e:OkT ts)(n:ts.length<1000000)(E:1000001<N)(A:∀j,(aM ts j).2.1.size<100000){before:List Dl}(F:before.length<=64){i:Nat}(hi:i<ts.length):
  LW N (ts,(i:Int),pr,b) before=some (Sum.map id (fun a:Nat×Dl=>((ts,(a.1:Int),a.2.2.2.1,a.2.2.2.2),a.2)) (oH ts before i)):=by
 have K:=nO (show i<1000000 by omega)
 unfold LW
 obtain⟨Z,t,G⟩:=jI.1 qPn
 obtain⟨a1,u,v⟩:=jI.1 G
 rw[t];simp only[j0]
 rw[u];simp only[j0]
 rw[v];simp only[j0,sR hi,qCc,lP,oH]
 by_cases o:(aM ts i).1≠1\/mC (aM ts i).2.1=0
 .rw[if_pos o]
  have:((if((aM ts i).1 !=1)=true then some true else some (mC (aM ts i).2.1==0)):Option Bool)=some true:=by
   rcases o with h|h
   .simp[h]
   simp[h]
  rw[this];rfl
 rw[if_neg o]
 have k1a:(aM ts i).1=1:=by
  apply Decidable.byContradiction
  intro h;exact o (.inl h)
 have k1b:¬mC (aM ts i).2.1=0:=fun h=>o (.inr h)
 have:((if((aM ts i).1 !=1)=true then some true else some (mC (aM ts i).2.1==0)):Option Bool)=some false:=by simp[k1a,k1b]
 rw[this]
 simp only[j0,j9,jD]
 by_cases k2:before.length=64
 .rw[if_pos (show((before.length:Int)==64)=true by simp;omega),if_pos k2];rfl
 rw[if_neg (show ¬((before.length:Int)==64)=true by simp;omega),if_neg k2]
 have g:=e.next hi (show(aM ts i).1≠5 by rw[k1a];decide)
 simp only[j0,K]
 have M:(if(mC (aM ts i).2.1==3)=true then((xF N (ts,((i+1:Nat):Int),pr,b)).bind fun R=>(match R with| .inl U=>some (.inr (.inl U))| .inr k=>some (.inl (k.1.1,k.1.2.1,k.1.2.2.1,k.1.2.2.2,k.2.1,k.2.2.1,k.2.2.2.1,k.2.2.2.2)))) else((xD N (ts,((i+1:Nat):Int),pr,b)).bind fun S=>(match S with| .inl V=>some (.inr (.inl V))| .inr l=>some (.inl (l.1.1,l.1.2.1,l.1.2.2.1,l.1.2.2.2,l.2.1,l.2.2.1,l.2.2.2.1,l.2.2.2.2)))):Option ((List cA×Int×List BA×List Ex×Int×BA×Int×Int)⊕(cG⊕(lX×Dl))))=
   some (match(if mC (aM ts i).2.1=3 then nH ts (i+1) else mD ts (i+1)) with| .inl z=> .inr (.inl z)| .inr a=> .inl (ts,(a.1:Int),pr,b,a.2.1,a.2.2.1,a.2.2.2.1,a.2.2.2.2)):=by
  by_cases k3:mC (aM ts i).2.1=3
  .rw[if_pos (show(mC (aM ts i).2.1==3)=true by simpa using k3),if_pos k3,NS g n aa A]
   cases nH ts (i+1)<;>rfl
  rw[if_neg (show ¬(mC (aM ts i).2.1==3)=true by simpa using k3),if_neg k3,NL g n]
  cases mD ts (i+1)<;>rfl
 refine Eq.trans (congrArg (fun z=>Option.bind z _) M) ?_
 simp only[j0]
 cases hX:(if mC (aM ts i).2.1=3 then nH ts (i+1) else mD ts (i+1)) with
 |inl z=>rfl
 |inr x=>
  have gx:x.1=i+1+1/\x.1<ts.length:=by
   split at hX
   .obtain⟨rfl,p,-⟩:=tM e g hX;exact⟨rfl,p⟩
   obtain⟨rfl,p,-⟩:=sS e g hX;exact⟨rfl,p⟩
  simp only[bI]
  have s:=YE (N:=N) (before:=before) (y1:=((ts,(i:Int),pr,b),aM ts i)) (o4:=(ts,(x.1:Int),pr,b,x.2.1,x.2.2.1,x.2.2.2.1,x.2.2.2.2)) F before.length 0 N aa aa
  simp only[jV] at s
  refine Eq.trans (congrArg (fun z=>Option.bind z _) s) ?_
  simp only[j0,qQc]
  rcases eI (before.any fun d=>d.1==mC (aM ts i).2.1&&decide (d.2.1=x.2.2.1)) with r|r
  .simp only[r,jE];rfl
  simp only[r,j9,jD,j0]
  have H:(if(mC (aM ts i).2.1==1)=true then((FD N (ts,(x.1:Int),pr,b)).bind fun B=>(match B with| .inl Y=>some (.inr (.inl Y))| .inr f=>some (.inl (f.2,f.1.1,f.1.2.1,f.1.2.2.1,f.1.2.2.2)))) else(some (.inl (([]:List (BA)),ts,(x.1:Int),pr,b))):Option ((List BA×lX)⊕(cG⊕(lX×Dl))))=
    some (match(if mC (aM ts i).2.1=1 then rZ ts x.1 else .inr (x.1,[])) with| .inl z=> .inr (.inl z)| .inr a=> .inl (a.2,ts,(a.1:Int),pr,b)):=by
   by_cases k5:mC (aM ts i).2.1=1
   .rw[if_pos (show(mC (aM ts i).2.1==1)=true by simpa using k5),if_pos k5,qIy e n aa gx.2]
    cases rZ ts x.1<;>rfl
   rw[if_neg (show ¬(mC (aM ts i).2.1==1)=true by simpa using k5),if_neg k5]
  refine Eq.trans (congrArg (fun z=>Option.bind z _) H) ?_
  simp only[j0]
  cases hY:(if mC (aM ts i).2.1=1 then rZ ts x.1 else .inr (x.1,[]):cG⊕(Nat×List BA)) with
  |inl z=>rfl
  |inr y=>
   have gy:x.1<=y.1/\y.1<ts.length/\y.2.length<=8:=by
    split at hY
    .obtain⟨p,D,q⟩:=WC e gx.2 hY;exact⟨by omega,D,q⟩
    obtain rfl:=Sum.inr.inj hY;exact⟨jM _,gx.2,by simp⟩
   simp only[sU gy.2.1 n,j0,yH]
   cases hj:dU ts ⟨#[61]⟩ y.1 with
   |inl z=>rfl
   |inr j=>
    obtain⟨rfl,q,-⟩:=lZ e gy.2.1 hj
    have p:=qQd (N:=N) (pr:=y.2) e n aa E A (y.1+1,[]) q ad
    simp only at p
    simp only[kD,p,j0]
    cases hc:eK ts y.2 32 (y.1+1,[]) with
    |inl z=>rfl
    |inr c=>
     obtain⟨⟨f1,D,f3,f4⟩,-⟩:=wD e 32 (y.1+1,[]) c.1 c.2 q ad hc
     simp only[lH,kD,eM,sU D n,j0,rM]
     cases dU ts ⟨#[59]⟩ c.1.1<;>rfl
theorem WW(c:OkT ts)(k:ts.length<1000000)(q:1000000<N){e:lX×cA}:∀(n M:Nat) (l:List BA) (i:Nat),i<ts.length->l.length<=8->ts.length<i+n->ts.length<i+M->
  aK (LJ N e) M (ts,(i:Int),pr,b,l)=some (match qV ts e.2.2.1 n l i with| .inl z=> .inr (.inl z)| .inr a=> .inl (ts,(a.1:Int),pr,b,a.2))
 |0,M,l,i,hi,_,h,_=>by omega
 |n+1,0,l,i,hi,_,_,h=>by omega
 |n+1,M+1,l,i,hi,t,v,u=>by
  have r:=nO (show i<1000000 by omega)
  simp only[aK,LJ,qV,DW hi,j0,zM]
  rcases eI (cB ts 1 ⟨#[105,109,112,111,114,116]⟩ i) with f|f
  rotate_left
  .simp only[f,j9,jD,j0]
  have g:=lY c hi ac f
  simp only[f,jE]
  by_cases k2:l.length=8
  .rw[if_pos (show((l.length:Int)==8)=true by simp;omega),if_pos k2]
   simp only[sR hi,j0,lP];rfl
  rw[if_neg (show ¬((l.length:Int)==8)=true by simp;omega),if_neg k2]
  simp only[j0,r,NL g k]
  cases hx:mD ts (i+1) with
  |inl z=>rfl
  |inr x=>
   obtain⟨rfl,o,-⟩:=sS c g hx
   simp only[kD,bI,lP,j0,mF,XQ (N:=N) (l:=l) (s:=(aM ts (i+1)).2.1) aa aa]
   by_cases d:(aM ts (i+1)).2.1=e.2.2.1\/(aM ts (i+1)).2.1∈l
   .rw[if_pos d]
    have:((if decide ((aM ts (i+1)).2.1=e.2.2.1)=true then some true else some (decide ((aM ts (i+1)).2.1∈l))):Option Bool)=some true:=by
     rcases d with h|h
     .rw[if_pos (jL h)]
     rw[jL h];split<;>rfl
    rw[this];rfl
   rw[if_neg d]
   have:((if decide ((aM ts (i+1)).2.1=e.2.2.1)=true then some true else some (decide ((aM ts (i+1)).2.1∈l))):Option Bool)=some false:=by
    rw[if_neg (by simp only[j6];exact fun h=>d (.inl h)),jR (fun h=>d (.inr h))]
   rw[this]
   simp only[j0,j9,jD]
   rw[lB (by simp only[jA,jB];omega) aa]
   simp only[j0,sU o k,rM]
   cases hj:dU ts ⟨#[59]⟩ (i+1+1) with
   |inl z=>rfl
   |inr j=>
    obtain⟨rfl,p,-⟩:=lZ c o hj
    exact WW c k q n M _ (i+1+1+1) p (by simp only[jF,jA,jB];omega) aa aa
theorem MI(h:OkT ts){pkg:BA}:∀(n:Nat) (l:List BA) (i:Nat) (a:Nat×List BA),i<ts.length->l.length<=8->qV ts pkg n l i= .inr a->i<=a.1/\a.1<ts.length/\a.2.length<=8
 |0,_,_,_,_,_,b=>by cases b
 |n+1,l,i,a,hi,p,b=>by
  unfold qV at b
  split at b
  .rename_i k
   have g:=lY h hi ac k
   split at b
   .cases b
   rename_i k2
   obtain⟨x,q,c⟩:=iN b
   obtain⟨rfl,d,-⟩:=sS h g q
   split at c
   .cases c
   obtain⟨j,o,f⟩:=iN c
   obtain⟨rfl,e,-⟩:=lZ h d o
   obtain⟨t,r,s⟩:=MI h n _ _ a e (by simp only[jF,jA,jB];omega) f
   exact⟨by omega,r,s⟩
  obtain rfl:=Sum.inr.inj b
  exact⟨jM _,hi,p⟩
theorem YR(c:OkT ts)(f:ts.length<1000000)(e:1000001<N)(k:∀j,(aM ts j).2.1.size<100000):∀(n M:Nat) (l:List Dl) (i:Nat) (pr:List BA) (b:List Ex),i<ts.length->l.length<=64->ts.length<i+n->ts.length<i+M->
  match tP ts n l i with
  | .inl z=>aK (yR N) M (ts,(i:Int),pr,b,l)=some (.inr (.inl z))
  | .inr a=>∃i' pr' b',aK (yR N) M (ts,(i:Int),pr,b,l)=some (.inl (ts,i',pr',b',a))
 |0,M,l,i,_,_,hi,_,h,_=>by omega
 |n+1,0,l,i,_,_,hi,_,_,h=>by omega
 |n+1,M+1,l,i,pr,b,hi,g,s,r=>by
  have o:aK (yR N) (M+1) (ts,(i:Int),pr,b,l)=(if(aM ts i).1=5 then some (.inl (ts,(i:Int),pr,b,l)) else
    match oH ts l i with
    | .inl z=>some (.inr (.inl z))
    | .inr a=>aK (yR N) M (ts,(a.1:Int),a.2.2.2.1,a.2.2.2.2,l++[a.2])):=by
   simp only[aK,yR,sR hi,j0,qQh c f e k g hi]
   by_cases k1:(aM ts i).1=5
   .rw[if_neg (show ¬((aM ts i).1 !=5)=true by simpa using k1),if_pos k1];rfl
   rw[if_pos (show((aM ts i).1 !=5)=true by simpa using k1),if_neg k1]
   cases hd:oH ts l i with
   |inl z=>rfl
   |inr a=>
    obtain⟨p,d,q⟩:=MY c hi hd
    simp only[kD]
    rw[lB (by simp only[jA,jB];omega) aa]
    rfl
  rw[o]
  simp only[tP]
  by_cases k1:(aM ts i).1=5
  .simp only[if_pos k1];exact⟨_,_,_,rfl⟩
  simp only[if_neg k1]
  cases hd:oH ts l i with
  |inl z=>rfl
  |inr a=>
   obtain⟨p,d,q⟩:=MY c hi hd
   exact YR c f e k n M (l++[a.2]) a.1 _ _ d (by simp only[jF,jA,jB];omega) aa aa
theorem qRt(a:OkT ts)(d:ts.length<1000000)(n:1000001<N)(o:∀j,(aM ts j).2.1.size<100000):
  match tR ts with
  | .inl z=>GK N (ts,0,pr,b)=some (.inl z)
  | .inr f=>∃i' pr' b',GK N (ts,0,pr,b)=some (.inr ((ts,i',pr',b'),f)):=by
 have k:0<ts.length:=fK.2 a.1
 simp only[GK,tR]
 rw[show(0:Int)=((0:Nat):Int) from rfl]
 simp only[TO k d,j0,HX]
 cases h1:sJ ts ⟨#[112,97,99,107,97,103,101]⟩ 0 with
 |inl z=>rfl
 |inr i=>
  obtain⟨rfl,e,-⟩:=DA a k h1
  simp only[kD,bI,NL e d,j0]
  cases h2:mD ts (0+1) with
  |inl z=>rfl
  |inr x=>
   obtain⟨rfl,g,-⟩:=sS a e h2
   simp only[kD,sU g d,j0,rM]
   cases h3:dU ts ⟨#[59]⟩ (0+1+1) with
   |inl z=>rfl
   |inr j=>
    obtain⟨rfl,h,-⟩:=lZ a g h3
    simp only[kD,WW a d (by omega:1000000<N) (ts.length+1) N [] (0+1+1+1) h ad aa aa,j0]
    cases h4:qV ts (aM ts (0+1)).2.1 (ts.length+1) [] (0+1+1+1) with
    |inl z=>rfl
    |inr y=>
     obtain⟨q,p,r⟩:=MI a _ _ _ y h ad h4
     have c:=YR (N:=N) a d n o (ts.length+1) N [] y.1 pr b p ad aa aa
     simp only[]
     cases h5:tP ts (ts.length+1) [] y.1 with
     |inl z=>
      rw[h5] at c
      simp only[c,j0]
     |inr l=>
      rw[h5] at c
      obtain⟨i',pr',b',c⟩:=c
      refine⟨i',pr',b',?_⟩
      simp only[c,j0]
end
theorem qAr{s:BA}:∀(l:List cA) (e:Int),0<=e->UL s e l->∀i,i<l.length->((aM l i).1=5↔i+1=l.length)/\((aM l i).2.1.size:Int)<=s.size/\0<=(aM l i).2.2.2
 |[],_,_,_,i,hi=>by simp at hi
 |t::r,e,k,h,i,hi=>by
  obtain⟨d,f,b,g,c⟩:=h
  have a:0<=yE t:=by unfold yE;split<;>omega
  cases i with
  |zero=>
   refine⟨?_,?_,?_⟩
   .show t.1=5↔0+1=r.length+1
    rw[b,<-dB];omega
   .show((t.2.1.size:Nat):Int)<=s.size
    omega
   show 0<=t.2.2.2
   omega
  |succ i=>
   have:=qAr r _ a c i (by simpa using hi)
   have e:aM (t::r) (i+1)=aM r i:=by simp[aM]
   rw[e,jA]
   exact⟨⟨fun h=>by have:=this.1.1 h;omega,fun h=>this.1.2 aa⟩,this.2⟩
theorem MP{s:BA}(h:(lC s).2.2=0):OkT (lC s).1/\(lC s).1.length<=16385/\∀j,(aM (lC s).1 j).2.1.size<100000:=by
 unfold lC at h ⊢
 split at h
 .simp at h
 rename_i hs
 rw[if_neg hs]
 cases hG:mW (s.data.toList.length+1) s 0 with
 |inl x=>
  obtain⟨_,_,a⟩:=SV _ 0 x aa aa hG
  rw[hG] at h
  exact absurd h a
 |inr r=>
  obtain⟨c,d,g⟩:=RJ _ 0 0 r aa aa aa hG
  simp only[uV,kE]
  have b:=qAr r 0 aa c
  refine⟨⟨d,fun i hi=>(b i hi).1⟩,by omega,fun j=> ?_⟩
  rcases hZ j r.length with a|a
  .have:=(b j a).2.1
   have f:=iS s
   omega
  have e:aM r j=(5,⟨#[]⟩,0,0):=by simp[aM,jT,List.getElem?_eq_none a]
  rw[e];decide
theorem qPq{N:Nat}(s:BA)(e:1000001<N):MJ N s=some (lL s):=by
 simp only[MJ,qMv (N:=N) aa,j0,lL]
 by_cases h:(lC s).2.2=0
 .rw[if_neg (show ¬((lC s).2.2 !=0)=true by simpa using h),if_neg (show ¬(lC s).2.2≠0 by simpa using h)]
  obtain⟨c,g,d⟩:=MP h
  have a:=qRt (N:=N) (pr:=[]) (b:=[]) c aa e d
  cases hF:tR (lC s).1 with
  |inl z=>
   rw[hF] at a
   simp only[a,j0];rfl
  |inr f=>
   rw[hF] at a
   obtain⟨i',pr',b',a⟩:=a
   simp only[a,j0]
 rw[if_pos (show((lC s).2.2 !=0)=true by simpa using h),if_pos h];rfl
abbrev RT:=List cA×Int×Int×Int×List BA×List Ex×List Int
def gR(ts:List cA)(pr:List BA)(p:Ps):RT:=(ts,(p.1:Int),0,0,pr,p.2,[])
def bR(ts:List cA)(z:cG)(i:Nat)(pr:List BA)(b:List Ex):RT:=(ts,(i:Int),z.1,z.2,pr,b,[])
section
variable {N:Nat} {ts:List cA} {pr:List BA} {b:List Ex} {i:Nat} {z:cG}
theorem qFb{st:Int×Int×List BA×List Ex×List Int}(hi:i<ts.length):iQ N (ts,(i:Int),st.1,st.2.1,st.2.2.1,st.2.2.2.1,st.2.2.2.2)=some ((ts,(i:Int),st.1,st.2.1,st.2.2.1,st.2.2.2.1,st.2.2.2.2),aM ts i):=by
 simp only[iQ,qEb hi,j0]
theorem mA(p:Ps)(hi:p.1<ts.length):iQ N (gR ts pr p)=some (gR ts pr p,aM ts p.1):=qFb (st:=(0,0,pr,p.2,[])) hi
theorem rL(hi:i<ts.length):iQ N (bR ts z i pr b)=some (bR ts z i pr b,aM ts i):=qFb (st:=(z.1,z.2,pr,b,[])) hi
theorem qZ(p:Ps)(hi:p.1<ts.length)(b:ts.length<1000000)(s:BA):oX N (gR ts pr p) s=some (if cB ts 1 s p.1 then(gR ts pr (p.1+1,p.2),true) else(gR ts pr p,false)):=by
 have a:iQ N (ts,(p.1:Int),0,0,pr,p.2,[])=some ((ts,(p.1:Int),0,0,pr,p.2,[]),aM ts p.1):=mA p hi
 simp only[oX,gR,a,j0,mF,cB,gZ,jE]
 by_cases h1:(aM ts p.1).1=1<;>by_cases h2:(aM ts p.1).2.1=s<;>simp[h1,h2,nO (show p.1<1000000 by omega)]
theorem TJ(a:z.2≠0)(s:BA):oX N (bR ts z i pr b) s=some (bR ts z i pr b,false):=by
 simp[oX,bR,a]
theorem pB(p:Ps)(hi:p.1<ts.length)(b:ts.length<1000000)(s:BA):oY N (gR ts pr p) s=some (if cB ts 4 s p.1 then(gR ts pr (p.1+1,p.2),true) else(gR ts pr p,false)):=by
 have a:iQ N (ts,(p.1:Int),0,0,pr,p.2,[])=some ((ts,(p.1:Int),0,0,pr,p.2,[]),aM ts p.1):=mA p hi
 simp only[oY,gR,a,j0,mF,cB,gZ,jE]
 by_cases h1:(aM ts p.1).1=4<;>by_cases h2:(aM ts p.1).2.1=s<;>simp[h1,h2,nO (show p.1<1000000 by omega)]
theorem NU(a:z.2≠0)(s:BA):oY N (bR ts z i pr b) s=some (bR ts z i pr b,false):=by
 simp[oY,bR,a]
theorem oO(p:Ps)(a e:Int):iX N (gR ts pr p) a e=some (bR ts (a,e) p.1 pr p.2):=by
 simp[iX,gR,bR]
theorem sF(c:z.2≠0)(a e:Int):iX N (bR ts z i pr b) a e=some (bR ts z i pr b):=by
 simp[iX,bR,c]
theorem sE(p:Ps)(hi:p.1<ts.length)(d:ts.length<1000000)(s:BA):iO N (gR ts pr p) s=some (match dU ts s p.1 with| .inl z=>bR ts z p.1 pr p.2| .inr j=>gR ts pr (j,p.2)):=by
 have a:=pB (N:=N) (pr:=pr) p hi d s
 have b:=mA (N:=N) (pr:=pr) p hi
 have c:=oO (N:=N) (ts:=ts) (pr:=pr) p (aM ts p.1).2.2.2 9
 simp only[gR] at a b c
 simp only[iO,gR,a,j0,dU]
 rcases eI (cB ts 4 s p.1) with h|h
 .simp only[h,jE,kJ,j9,jD]
 simp only[h,jE,kA,j9,jD,b,j0,c,eG]
theorem rJ(e:z.2≠0)(hi:i<ts.length)(s:BA):iO N (bR ts z i pr b) s=some (bR ts z i pr b):=by
 have a:=NU (N:=N) (ts:=ts) (i:=i) (pr:=pr) (b:=b) e s
 have c:=rL (N:=N) (ts:=ts) (i:=i) (pr:=pr) (b:=b) (z:=z) hi
 have d:=sF (N:=N) (ts:=ts) (i:=i) (pr:=pr) (b:=b) e (aM ts i).2.2.2 9
 simp only[bR] at a c d
 simp only[iO,bR,a,j0,kA,jE,c,d]
theorem ZW{s:BA}:∀(d k M:Nat),k+d=wordsR.length->d<M->aK (AY N s) M (k:Int)=some (if s∈wordsR.drop k then .inr true else .inl ())
 |d,k,0,_,h=>by omega
 |0,k,M+1,h,_=>by
  have:wordsR.drop k=[]:=jP aa
  simp only[aK,AY,this]
  rw[if_neg (by simp only[j6];have:wordsR.length=13:=rfl;simp only[jA,jB];omega)]
  rfl
 |d+1,k,M+1,h,g=>by
  have a:k<wordsR.length:=by omega
  have c:=ZW (s:=s) d (k+1) M aa aa
  simp only[aK]
  have e:AY N s (k:Int)=some (if s=wordsR[k] then .inr (.inr true) else .inl (((k+1:Nat):Int))):=by
   have f:wordsR.length=13:=rfl
   have b:bQ ([(⟨#[112,97,99,107,97,103,101]⟩:BA),(⟨#[105,109,112,111,114,116]⟩:BA),(⟨#[102,117,110,99]⟩:BA),(⟨#[116,101,115,116]⟩:BA),(⟨#[103,101,110]⟩:BA),(⟨#[105,102]⟩:BA),(⟨#[116,104,101,110]⟩:BA),(⟨#[101,108,115,101]⟩:BA),(⟨#[114,101,97,100]⟩:BA),(⟨#[115,105,122,101]⟩:BA),(⟨#[104,97,115]⟩:BA),(⟨#[101,110,118]⟩:BA),(⟨#[102,108,105,112]⟩:BA)]) (k:Int)=some wordsR[k]:=eS (l:=wordsR) a
   simp only[AY]
   rw[if_pos (by simp only[j6,jA,jB];omega),b]
   simp only[j0,mF,j6,nO (show k<1000000 by omega)]
   split<;>rfl
  rw[e,jH a]
  simp only[j0,jJ]
  by_cases hs:s=wordsR[k]
  .rw[if_pos hs,if_pos (.inl hs)]
  rw[if_neg hs]
  simp only[c]
  by_cases h2:s∈wordsR.drop (k+1)
  .rw[if_pos h2,if_pos (.inr h2)]
  rw[if_neg h2,if_neg (fun h=>h.elim hs h2)]
theorem rres(a:100<N)(s:BA):LE N s=some (tU s):=by
 have h:=ZW (N:=N) (s:=s) 13 0 N rfl aa
 simp only[jV] at h
 simp only[LE]
 rw[show(0:Int)=((0:Nat):Int) from rfl,h]
 simp only[tU,j0]
 by_cases h2:s∈wordsR
 .rw[if_pos h2,jL h2]
 rw[if_neg h2,jR h2]
theorem DL(p:Ps)(hi:p.1<ts.length)(f:ts.length<1000000)(e:100<N):nX N (gR ts pr p)=some (match mD ts p.1 with| .inl z=>(bR ts z p.1 pr p.2,⟨#[]⟩)| .inr a=>(gR ts pr (a.1,p.2),a.2.2.1)):=by
 have d:=mA (N:=N) (pr:=pr) p hi
 have b:=oO (N:=N) (ts:=ts) (pr:=pr) p (aM ts p.1).2.2.2 9
 simp only[gR] at d b
 simp only[nX,gR,d,j0,rres e,mD,mB,fW,j9,jD]
 by_cases k1:(aM ts p.1).1=1
 .have k1':((aM ts p.1).1 !=1)=false:=by simp[k1]
  simp only[k1',j9,jD,j0,if_pos k1,bI]
  rcases eI (tU (aM ts p.1).2.1) with c|c
  .simp only[c,jE,b,j0,eG]
  simp only[c,j9,jD,nO (show p.1<1000000 by omega)]
 have k1':((aM ts p.1).1 !=1)=true:=by simp[k1]
 simp only[k1',jE,j0,if_neg k1,bI,b,eG]
theorem NM(d:z.2≠0)(hi:i<ts.length):nX N (bR ts z i pr b)=some (bR ts z i pr b,⟨#[]⟩):=by
 have a:=rL (N:=N) (ts:=ts) (i:=i) (pr:=pr) (b:=b) (z:=z) hi
 have c:=sF (N:=N) (ts:=ts) (i:=i) (pr:=pr) (b:=b) d (aM ts i).2.2.2 9
 have hz':(z.2 !=0)=true:=by simpa using d
 simp only[bR] at a c
 simp only[nX,bR,a,j0,hz',jE,c]
theorem SA(p:Ps)(hi:p.1<ts.length)(d:ts.length<1000000):vL N (gR ts pr p)=some (match mB ts 2 p.1 with| .inl z=>(bR ts z p.1 pr p.2,0)| .inr a=>(gR ts pr (a.1,p.2),a.2.2.2.1)):=by
 have b:=mA (N:=N) (pr:=pr) p hi
 have c:=oO (N:=N) (ts:=ts) (pr:=pr) p (aM ts p.1).2.2.2 9
 simp only[gR] at b c
 simp only[vL,gR,b,j0,mB,fW,j9,jD]
 by_cases k1:(aM ts p.1).1=2
 .have k1':((aM ts p.1).1 !=2)=false:=by simp[k1]
  simp only[k1',j9,jD,if_pos k1,nO (show p.1<1000000 by omega)]
 have k1':((aM ts p.1).1 !=2)=true:=by simp[k1]
 simp only[k1',jE,if_neg k1,c,j0,eG]
theorem qNk(d:z.2≠0)(hi:i<ts.length):vL N (bR ts z i pr b)=some (bR ts z i pr b,0):=by
 have a:=rL (N:=N) (ts:=ts) (i:=i) (pr:=pr) (b:=b) (z:=z) hi
 have c:=sF (N:=N) (ts:=ts) (i:=i) (pr:=pr) (b:=b) d (aM ts i).2.2.2 9
 have hz':(z.2 !=0)=true:=by simpa using d
 simp only[bR] at a c
 simp only[vL,bR,a,j0,hz',jE,c]
theorem qCy(t:cA)(x:Ex)(p:Ps)(c:p.2.length<=256):∃v,lK N (gR ts pr p) x t.2.2.2=some (match lM t x p with| .inl z=>(bR ts z p.1 pr p.2,v)| .inr q=>(gR ts pr q.1,(q.2:Int))):=by
 refine⟨IntKind.wrap .i64 ((p.2.length:Int)-1),?_⟩
 have a:=oO (N:=N) (ts:=ts) (pr:=pr) p t.2.2.2 2
 simp only[gR] at a
 simp only[lK,gR,gZ,jE,j0,lM]
 by_cases k1:p.2.length=256
 .have k1':((p.2.length:Int)==256)=true:=by simp;omega
  simp only[k1',jE,a,j0,bR]
  simp[k1,eG]
 have k1':((p.2.length:Int)==256)=false:=by simp;omega
 have b:IntKind.wrap .i64 (((p.2.length+1:Nat):Int)-1)=(p.2.length:Int):=by rw[bY aa aa];omega
 simp only[k1',j9,jD,j0,if_neg k1,gZ,jE]
 rw[lB (by simp only[jA,jB];omega) aa]
 simp only[j0,jF,jA,jB,kU,b]
theorem qDd(c:z.2≠0)(x:Ex)(a:Int):∃v,lK N (bR ts z i pr b) x a=some (bR ts z i pr b,v):=by
 refine⟨IntKind.wrap .i64 ((b.length:Int)-1),?_⟩
 have hz':(z.2==0)=false:=by simpa using c
 simp only[lK,bR,hz',j9,jD,j0]
end
section
variable {N:Nat} {ts:List cA} {pr:List BA} {b:List Ex} {i:Nat} {z:cG}
theorem TC(p:Ps)(hi:p.1<ts.length)(f:ts.length<1000000)(e:100<N)(pth:Bool):qT N (gR ts pr p) pth=some (match(if pth=true then nH ts p.1 else wJ ts p.1) with| .inl z=>(bR ts z p.1 pr p.2,⟨#[]⟩)| .inr a=>(gR ts pr (a.1,p.2),a.2.2.1)):=by
 have d:=mA (N:=N) (pr:=pr) p hi
 have c:=oO (N:=N) (ts:=ts) (pr:=pr) p (aM ts p.1).2.2.2 9
 simp only[gR] at d c
 simp only[qT,gR,d,j0,RH e,qLf e,nH,wJ,mB,fW,j9,jD]
 by_cases k1:(aM ts p.1).1=3
 .have k1':((aM ts p.1).1 !=3)=false:=by simp[k1]
  simp only[k1',j9,jD,j0,if_pos k1,bI]
  cases pth with
  |true=>
   simp only[jE,kJ,j9,jD]
   rcases eI (iV (aM ts p.1).2.1.data.toList) with b|b
   .simp only[b,kJ,j9,jD,j0,jE,nO (show p.1<1000000 by omega)]
   simp only[b,kA,j9,jD,j0,jE,c,eG]
  |false=>
   simp only[jE,kA,j9,jD]
   rcases eI (uW (aM ts p.1).2.1) with b|b
   .simp only[b,kJ,j9,jD,j0,jE,nO (show p.1<1000000 by omega)]
   simp only[b,kA,j9,jD,j0,jE,c,eG]
 have k1':((aM ts p.1).1 !=3)=true:=by simp[k1]
 simp only[k1',jE,j0,if_neg k1,bI,c,eG]
 cases pth<;>rfl
theorem TP(d:z.2≠0)(hi:i<ts.length)(pth:Bool):qT N (bR ts z i pr b) pth=some (bR ts z i pr b,⟨#[]⟩):=by
 have a:=rL (N:=N) (ts:=ts) (i:=i) (pr:=pr) (b:=b) (z:=z) hi
 have c:=sF (N:=N) (ts:=ts) (i:=i) (pr:=pr) (b:=b) d (aM ts i).2.2.2 9
 have hz':(z.2 !=0)=true:=by simpa using d
 simp only[bR] at a c
 simp only[qT,bR,a,j0,hz',jE,c]
theorem qCf{i:Nat}(h:i<2000000):IntKind.wrap .i64 ((i:Int)+1)=((i+1:Nat):Int):=by rw[bY aa aa];omega
theorem ZT{s:BA}{l:List BA}(a:l.length<2000000):∀(d i M:Nat),i+d=l.length->d<M->
  aK (FW N l s) M (i:Int)=some (if s∈l.drop i then .inr true else .inl ())
 |d,i,0,_,h=>by omega
 |0,i,M+1,h,_=>by
  have:l.drop i=[]:=jP aa
  simp only[aK,FW,this]
  rw[if_neg (by simp only[j6];omega)]
  rfl
 |d+1,i,M+1,h,c=>by
  have hi:i<l.length:=by omega
  have b:=ZT (s:=s) a d (i+1) M aa aa
  simp only[aK,FW]
  rw[if_pos (by simp only[j6];omega),eS hi,jH hi]
  simp only[j0,mF,j6,jJ]
  by_cases hs:l[i]=s
  .rw[if_pos hs,if_pos (.inl hs.symm)];rfl
  rw[if_neg hs]
  simp only[j0,qCf (show i<2000000 by omega),b]
  by_cases h2:s∈l.drop (i+1)
  .rw[if_pos h2,if_pos (.inr h2)]
  rw[if_neg h2,if_neg (fun h=>h.elim (fun e=>hs e.symm) h2)]
theorem UV{s:BA}{l:List BA}(b:l.length<2000000)(a:l.length<N):rY N l s=some (decide (s∈l)):=by
 have h:=ZT (N:=N) (s:=s) b l.length 0 N aa a
 simp only[jV] at h
 simp only[rY]
 rw[show(0:Int)=((0:Nat):Int) from rfl,h]
 simp only[j0]
 by_cases h2:s∈l
 .rw[if_pos h2,jL h2]
 rw[if_neg h2,jR h2]
theorem andS(a b:Bool):(if a=true then some b else some false)=some (a&&b):=by cases a<;>rfl
theorem XF{s:BA}{k:Int}{f:Sr}(b:f.2.2.length<2000000):∀(d i M:Nat),i+d=f.2.2.length->d<M->
  aK (FK N f k s) M (i:Int)=some (if(f.2.2.drop i).any (fun d=>d.1==k&&decide (d.2.1=s))=true then .inr true else .inl ())
 |d,i,0,_,h=>by omega
 |0,i,M+1,h,_=>by
  have:f.2.2.drop i=[]:=jP aa
  simp only[aK,FK,this]
  rw[if_neg (by simp only[j6];omega)]
  rfl
 |d+1,i,M+1,h,e=>by
  have hi:i<f.2.2.length:=by omega
  have c:=XF (s:=s) (k:=k) b d (i+1) M aa aa
  simp only[aK,FK]
  rw[if_pos (by simp only[j6];omega),eS hi,jH hi,List.any_cons]
  simp only[j0,mF,qCf (show i<2000000 by omega),andS]
  rcases eI (f.2.2[i].1==k&&decide (f.2.2[i].2.1=s)) with a|a
  .simp only[a,jE,j0,Bool.true_or]
  simp only[a,j9,jD,j0,c,dH]
theorem qSp{s:BA}{k:Int}{f:Sr}(c:f.2.2.length<2000000)(b:f.2.2.length<N):yY N f k s=some (f.2.2.any fun d=>d.1==k&&decide (d.2.1=s)):=by
 have h:=XF (N:=N) (s:=s) (k:=k) c f.2.2.length 0 N aa b
 simp only[jV] at h
 simp only[yY]
 rw[show(0:Int)=((0:Nat):Int) from rfl,h]
 simp only[j0]
 rcases eI (f.2.2.any fun d=>d.1==k&&decide (d.2.1=s)) with a|a
 .rw[if_pos a,a]
 rw[if_neg (by rw[a];decide),a]
theorem op_3:mL ts 3 i=if cB ts 4 ⟨#[42]⟩ i=true then 3 else if cB ts 4 ⟨#[47]⟩ i=true then 4 else if cB ts 4 ⟨#[37]⟩ i=true then 5 else 0:=by
 unfold mL opsC
 simp only[List.find?,pL,wQ]
 rcases eI (cB ts 4 ⟨#[42]⟩ i) with a|a<;>rcases eI (cB ts 4 ⟨#[47]⟩ i) with b|b<;>rcases eI (cB ts 4 ⟨#[37]⟩ i) with c|c<;>simp[a,b,c]
theorem op_2:mL ts 2 i=if cB ts 4 ⟨#[43]⟩ i=true then 1 else if cB ts 4 ⟨#[45]⟩ i=true then 2 else 0:=by
 unfold mL opsC
 simp only[List.find?,pL,wQ]
 rcases eI (cB ts 4 ⟨#[43]⟩ i) with a|a<;>rcases eI (cB ts 4 ⟨#[45]⟩ i) with b|b<;>simp[a,b]
theorem op_1:mL ts 1 i=if cB ts 4 ⟨#[60]⟩ i=true then 6 else if cB ts 4 ⟨#[61,61]⟩ i=true then 7 else 0:=by
 unfold mL opsC
 simp only[List.find?,pL,wQ]
 rcases eI (cB ts 4 ⟨#[60]⟩ i) with a|a<;>rcases eI (cB ts 4 ⟨#[61,61]⟩ i) with b|b<;>simp[a,b]
theorem DI{α:Type}{t:cA}{e:Int}(a:e≠0)(h:(eG t e:cG⊕α)= .inl z):z.2≠0:=by
 obtain rfl:=Sum.inl.inj h;exact a
theorem qX{s:BA}(h:dU ts s i= .inl z):z.2≠0:=by
 unfold dU at h;split at h
 .cases h
 exact DI ac h
theorem HZ{k:Int}(h:mB ts k i= .inl z):z.2≠0:=by
 unfold mB at h;split at h
 .cases h
 exact DI ac h
theorem TK{α β:Type}{x:cG⊕α}{f:α->cG⊕β}(h:bI x f= .inl z):x= .inl z\/∃a,x= .inr a/\f a= .inl z:=by
 cases x with
 |inl y=>obtain rfl:=Sum.inl.inj h;exact .inl rfl
 |inr a=>exact .inr ⟨a,rfl,h⟩
theorem NQ(h:mD ts i= .inl z):z.2≠0:=by
 rcases TK h with h|⟨a,_,h⟩
 .exact HZ h
 split at h
 .exact DI ac h
 cases h
theorem NP(h:nH ts i= .inl z):z.2≠0:=by
 rcases TK h with h|⟨a,_,h⟩
 .exact HZ h
 split at h
 .cases h
 exact DI ac h
theorem qPc(h:wJ ts i= .inl z):z.2≠0:=by
 rcases TK h with h|⟨a,_,h⟩
 .exact HZ h
 split at h
 .cases h
 exact DI ac h
theorem TF{t:cA}{x:Ex}{p:Ps}(h:lM t x p= .inl z):z.2≠0:=by
 unfold lM at h;split at h
 .exact DI ac h
 cases h
end
def sZ(ts:List cA)(z:cG)(st:RT):Prop:=z.2≠0/\∃(i:Nat) (pr:List BA) (b:List Ex),i<ts.length/\st=bR ts z i pr b
def iW(ts:List cA)(pr:List BA)(r:PM Nat)(o:RT×Int):Prop:=
 match r with
 | .inl z=>sZ ts z o.1
 | .inr q=>o=(gR ts pr q.1,(q.2:Int))
section
variable {N:Nat} {ts:List cA} {pr:List BA} {E S:Ps->PM Nat} {d:Int}
variable {r1 r2 r3 r4:RT->Int->Option (RT×Int)}
theorem sD{z:cG}{i:Nat}{pr':List BA}{b:List Ex}{v:Int}(a:z.2≠0)(hi:i<ts.length):iW ts pr (.inl z) (bR ts z i pr' b,v):=⟨a,i,pr',b,hi,rfl⟩
theorem zK(t:cA)(x:Ex)(p:Ps)(c:p.1<ts.length)(b:p.2.length<=256):∃o,lK N (gR ts pr p) x t.2.2.2=some o/\iW ts pr (lM t x p) o:=by
 obtain⟨v,h⟩:=qCy (N:=N) (ts:=ts) (pr:=pr) t x p b
 cases a:lM t x p with
 |inl z=>rw[a] at h;exact⟨_,h,sD (TF a) c⟩
 |inr q=>rw[a] at h;exact⟨_,h,rfl⟩
theorem DE{z:cG}{i:Nat}{pr':List BA}{b:List Ex}(c:z.2≠0)(hi:i<ts.length)(x:Ex)(a:Int):∃o,lK N (bR ts z i pr' b) x a=some o/\iW ts pr (.inl z) o:=by
 obtain⟨v,h⟩:=qDd (N:=N) (ts:=ts) (pr:=pr') (b:=b) (i:=i) c x a
 exact⟨_,h,sD c hi⟩
theorem SI(t:cA)(x:Ex)(p:Ps)(b:OkT ts)(d:ts.length<1000000)(a:p.1<ts.length)(c:p.2.length<=256):∃o,
  ((iO N (gR ts pr p) (⟨#[41]⟩:BA)).bind fun y=>lK N y x t.2.2.2)=some o/\iW ts pr (bI (dU ts lR p.1) fun i=>lM t x (i,p.2)) o:=by
 have e:=sE (N:=N) (pr:=pr) p a d ⟨#[41]⟩
 simp only[e,j0,lR]
 cases h:dU ts ⟨#[41]⟩ p.1 with
 |inl z=>exact DE (qX h) a x _
 |inr j=>
  obtain⟨rfl,g,-⟩:=lZ b a h
  exact zK t x (p.1+1,p.2) g c
theorem zG{z:cG}{i:Nat}{pr':List BA}{b:List Ex}(c:z.2≠0)(hi:i<ts.length)(x:Ex)(a:Int):∃o,
  ((iO N (bR ts z i pr' b) (⟨#[41]⟩:BA)).bind fun y=>lK N y x a)=some o/\iW ts pr (.inl z) o:=by
 simp only[rJ c hi,j0]
 exact DE c hi x a
variable (hEg:∀p:Ps,p.1<ts.length->p.2.length<=256->∃o,r4 (gR ts pr p) (IntKind.wrap .i64 (d+1))=some o/\iW ts pr (E p) o)
variable (hEb:∀(z:cG) (i:Nat) (pr':List BA) (b:List Ex),z.2≠0->i<ts.length->∃v,r4 (bR ts z i pr' b) (IntKind.wrap .i64 (d+1))=some (bR ts z i pr' b,v))
def NW(ts:List cA)(E:Ps->PM Nat)(n:Nat)(l:List Int)(p:Ps):PM (List Int):=
 if cB ts 4 qI p.1 then uT ts E n l (p.1+1,p.2) else bI (dU ts lR p.1) fun i=> .inr ((i,p.2),l)
theorem NE(n:Nat)(l:List Int)(p:Ps):uT ts E (n+1) l p=bI (E p) fun q=>NW ts E n (l++[(q.2:Int)]) q.1:=rfl
def qEv(ts:List cA)(pr:List BA)(r:PM (List Int))(o:List Int×RT):Prop:=
 match r with
 | .inl z=>sZ ts z o.2
 | .inr q=>o=(q.2,gR ts pr q.1)
theorem RX{z:cG}{i:Nat}{pr':List BA}{b:List Ex}(a:z.2≠0)(M:Nat)(l:List Int):aK (wZ N r4 d) (M+1) (l,bR ts z i pr' b)=some (l,bR ts z i pr' b):=by
 have hz':(z.2==0)=false:=by simpa using a
 simp only[aK,wZ,bR,hz',j9,jD,j0]
include hEg hEb in
theorem YJ(k:OkT ts)(s:ts.length<1000000)(u:lT ts E):∀(n M:Nat) (l:List Int) (p:Ps),l≠[]->p.1<ts.length->p.2.length<=256->l.length<=p.1->ts.length<p.1+n->ts.length+2<p.1+M->
  ∃o,aK (wZ N r4 d) M (l,gR ts pr p)=some o/\qEv ts pr (NW ts E n l p) o
 |0,M,l,p,_,c,_,_,h,_=>by omega
 |n+1,0,l,p,_,c,_,_,_,h=>by omega
 |n+1,M+1,l,p,A,c,x,R,Y,V=>by
  have K:=pB (N:=N) (pr:=pr) p c s ⟨#[41]⟩
  have t:decide ((l.length:Int)>0)=true:=by
   have:=fK.2 A
   exact jL aa
  have G:((gR ts pr p).2.2.2.1==0)=true:=rfl
  simp only[aK,wZ,Prod.eta,G,jE,K,j0]
  rcases eI (cB ts 4 ⟨#[41]⟩ p.1) with a|a
  .simp only[a,jE,kJ,j9,jD]
   refine⟨_,rfl,?_⟩
   have e:cB ts 4 qI p.1=false:=by
    simp only[cB,jK,j6] at a
    simp[cB,a.2,qI]
   have r:dU ts lR p.1= .inr (p.1+1):=by simp[dU,lR,a]
   simp only[NW,e,j9,jD,r,bI]
   rfl
  simp only[a,j9,jD,kA,jE,t,Prod.eta,sE p c s,j0]
  have y:cB ts 4 qI p.1=cB ts 4 ⟨#[44]⟩ p.1:=rfl
  simp only[NW,y,dU]
  rcases eI (cB ts 4 ⟨#[44]⟩ p.1) with e|e
  .have g:=lY k c ac e
   simp only[e,jE]
   obtain⟨o,H,f⟩:=hEg (p.1+1,p.2) g x
   simp only[H,j0]
   cases hE:E (p.1+1,p.2) with
   |inl z=>
    rw[hE] at f
    obtain⟨D,i,pr',b,hi,B⟩:=f
    rw[lB (by simp only[jA,jB];omega) aa]
    simp only[j0,B]
    cases M with
    |zero=>omega
    |succ M=>
     refine⟨_,RX D M _,?_⟩
     rw[NE,hE]
     exact⟨D,i,pr',b,hi,rfl⟩
   |inr q=>
    rw[hE] at f
    obtain⟨⟨B,D,S,F⟩,U⟩:=u (p.1+1,p.2) q.1 q.2 g x hE
    simp only at B
    rw[lB (by simp only[jA,jB];omega) aa]
    have hr':o=(gR ts pr q.1,(q.2:Int)):=f
    simp only[j0,hr']
    rw[NE,hE]
    exact YJ k s u n M (l++[(q.2:Int)]) q.1 ad D F (by simp only[jF,jA,jB];omega) aa aa
  simp only[e,j9,jD]
  have r:cB ts 4 lR p.1=false:=a
  simp only[r,j9,jD,eG,bI]
  obtain⟨v,f⟩:=hEb ((aM ts p.1).2.2.2,9) p.1 pr p.2 (show(9:Int)≠0 by decide) c
  simp only[f,j0]
  rw[lB (by simp only[jA,jB];omega) aa]
  simp only[j0]
  cases M with
  |zero=>omega
  |succ M=>exact⟨_,RX (z:=((aM ts p.1).2.2.2,9)) (show(9:Int)≠0 by decide) M _,show(9:Int)≠0 by decide,p.1,pr,p.2,c,rfl⟩
include hEg hEb in
theorem qUa(n:OkT ts)(k:ts.length<1000000)(A:1000002<N)(g:lT ts E)(p:Ps)(f:p.1<ts.length)(h:p.2.length<=256):
  ∃o,aK (wZ N r4 d) N ([],gR ts pr p)=some o/\qEv ts pr (if cB ts 4 lR p.1 then .inr ((p.1+1,p.2),[]) else uT ts E (ts.length+1) [] p) o:=by
 obtain⟨M,rfl⟩:∃M,N=M+1:=⟨N-1,by omega⟩
 have u:=pB (N:=M+1) (pr:=pr) p f k ⟨#[41]⟩
 have s:((gR ts pr p).2.2.2.1==0)=true:=rfl
 have e:decide ((([]:List Int).length:Int)>0)=false:=rfl
 simp only[aK,wZ,Prod.eta,s,jE,u,j0,lR]
 rcases eI (cB ts 4 ⟨#[41]⟩ p.1) with c|c
 .simp only[c,jE,kJ,j9,jD]
  exact⟨_,rfl,rfl⟩
 simp only[c,j9,jD,kA,jE,e,Prod.eta,j0]
 obtain⟨o,t,a⟩:=hEg p f h
 simp only[t,j0]
 cases hE:E p with
 |inl z=>
  rw[hE] at a
  obtain⟨r,i,pr',b,hi,l⟩:=a
  rw[lB ad aa]
  simp only[j0,l]
  cases M with
  |zero=>omega
  |succ M=>
   refine⟨_,RX r M _,?_⟩
   rw[NE,hE]
   exact⟨r,i,pr',b,hi,rfl⟩
 |inr q=>
  rw[hE] at a
  obtain⟨⟨v,l,x,r⟩,y⟩:=g p q.1 q.2 f h hE
  rw[lB ad aa]
  have hr':o=(gR ts pr q.1,(q.2:Int)):=a
  simp only[j0,hr']
  rw[NE,hE]
  exact YJ hEg hEb n k g ts.length M ([]++[(q.2:Int)]) q.1 ad l r (by simp only[jF,jA,jB];omega) aa aa
end
section
variable {N:Nat} {ts:List cA} {pr:List BA} {E S:Ps->PM Nat} {d:Int}
variable {r1 r2 r3 r4:RT->Int->Option (RT×Int)}
theorem qBl{y1:RT×cA}{y31:RT×BA}{p:Ps}(a:pr.length<1000):∀(k i M:Nat),i+k=pr.length->k<M->
  aK (wY N y1 y31 (gR ts pr p,false)) M (i:Int)=(match(pr.drop i).findIdx? (fun x=>decide (x=y31.2)) with
   |some j=>(lK N (gR ts pr p) (2,((i+j:Nat):Int),0,⟨#[]⟩,[]) y1.2.2.2.2).bind fun y=>some (.inr y)
   |none=>some (.inl ()))
 |k,i,0,_,h=>by omega
 |0,i,M+1,h,_=>by
  have:pr.drop i=[]:=jP aa
  have c:decide ((i:Int)<((gR ts pr p).2.2.2.2.1.length:Int))=false:=jR (by simp only[gR];omega)
  simp only[aK,wY,this,List.findIdx?_nil,c,j9,jD,j0]
 |k+1,i,M+1,h,e=>by
  have hi:i<pr.length:=by omega
  have d:=qBl (y1:=y1) (y31:=y31) (p:=p) a k (i+1) M aa aa
  have c:decide ((i:Int)<((gR ts pr p).2.2.2.2.1.length:Int))=true:=jL (by simp only[gR];omega)
  have x:bQ (gR ts pr p).2.2.2.2.1 (i:Int)=some pr[i]:=eS hi
  have b:((gR ts pr p).2.2.2.1==0)=true:=rfl
  rw[jH hi,List.findIdx?_cons]
  simp only[aK,wY,b,Prod.eta,c,x,jE,j0,mF,j6]
  by_cases hs:pr[i]=y31.2
  .simp only[if_pos hs,jE,j0,gQ]
   cases lK N (gR ts pr p) (2,(i:Int),0,⟨#[]⟩,[]) y1.2.2.2.2<;>rfl
  simp only[if_neg hs,j0,j9,jD,nO (show i<1000000 by omega),d]
  cases(pr.drop (i+1)).findIdx? (fun x=>decide (x=y31.2)) with
  |none=>rfl
  |some j=>simp only[kK];rw[show i+1+j=i+(j+1) by omega]
theorem ST{y1:RT×cA}{y31:RT×BA}{z:cG}{j:Nat}{pr':List BA}{b:List Ex}(d:z.2≠0)(a:pr'.length<1000):∀(k i M:Nat),i+k=pr'.length->k<M->
  aK (wY N y1 y31 (bR ts z j pr' b,false)) M (i:Int)=some (.inl ())
 |k,i,0,_,h=>by omega
 |0,i,M+1,h,_=>by
  have c:decide ((i:Int)<((bR ts z j pr' b).2.2.2.2.1.length:Int))=false:=jR (by simp only[bR];omega)
  simp only[aK,wY,c,j9,jD,j0]
 |k+1,i,M+1,h,g=>by
  have hi:i<pr'.length:=by omega
  have f:=ST (y1:=y1) (y31:=y31) (j:=j) (b:=b) d a k (i+1) M aa aa
  have c:decide ((i:Int)<((bR ts z j pr' b).2.2.2.2.1.length:Int))=true:=jL (by simp only[bR];omega)
  have x:bQ (bR ts z j pr' b).2.2.2.2.1 (i:Int)=some pr'[i]:=eS hi
  have e:((bR ts z j pr' b).2.2.2.1==0)=false:=by simpa[bR] using d
  simp only[aK,wY,e,Prod.eta,c,x,jE,j0,mF,j6]
  have:((if pr'[i]=y31.2 then some false else some false):Option Bool)=some false:=by split<;>rfl
  simp only[this,j0,j9,jD,nO (show i<1000000 by omega),f]
variable (hEg:∀p:Ps,p.1<ts.length->p.2.length<=256->∃o,r4 (gR ts pr p) (IntKind.wrap .i64 (d+1))=some o/\iW ts pr (E p) o)
variable (hEb:∀(z:cG) (i:Nat) (pr':List BA) (b:List Ex),z.2≠0->i<ts.length->∃v,r4 (bR ts z i pr' b) (IntKind.wrap .i64 (d+1))=some (bR ts z i pr' b,v))
include hEg hEb in
theorem qRl(e:OkT ts)(k:ts.length<1000000)(H:100<N)(G:lT ts E)(t:cA)(p:Ps)(f:p.1<ts.length)(A:p.2.length<=256):∃o,
  ((iO N (gR ts pr p) (⟨#[40]⟩:BA)).bind fun D=>(qT N D true).bind fun r=>(iO N r.1 (⟨#[44]⟩:BA)).bind fun F=>(r4 F (IntKind.wrap .i64 (d+1))).bind fun c=>(iO N c.1 (⟨#[41]⟩:BA)).bind fun g=>lK N g (6,0,0,r.2,[c.2]) t.2.2.2)=some o/\
  iW ts pr (bI (dU ts oI p.1) fun i=>bI (bI (nH ts i) fun a=>bI (dU ts qI a.1) fun i=>bI (E (i,p.2)) fun q=>(.inr (q.1,((6,0,0,a.2.2.1,[(q.2:Int)]):Ex)):cG⊕(Ps×Ex))) fun q=>bI (dU ts lR q.1.1) fun i=>lM t q.2 (i,q.1.2)) o:=by
 have bad:∀{z:cG} {i:Nat} {pr':List BA} {b:List Ex} (x:BA),z.2≠0->i<ts.length->∃o,((r4 (bR ts z i pr' b) (IntKind.wrap .i64 (d+1))).bind fun c=>(iO N c.1 (⟨#[41]⟩:BA)).bind fun g=>lK N g (6,0,0,x,[c.2]) t.2.2.2)=some o/\iW ts pr (.inl z) o:=by
  intro z i pr' b x n hi
  obtain⟨v,h⟩:=hEb z i pr' b n hi
  simp only[h,j0]
  exact zG n hi _ _
 simp only[sE p f k,j0,oI]
 cases h1:dU ts ⟨#[40]⟩ p.1 with
 |inl z=>
  simp only[TP (qX h1) f,rJ (qX h1) f,j0]
  exact bad _ (qX h1) f
 |inr i=>
  obtain⟨rfl,h,-⟩:=lZ e f h1
  simp only[TC (p.1+1,p.2) h k H,j0,jE,bI]
  cases h2:nH ts (p.1+1) with
  |inl z=>
   simp only[rJ (NP h2) h,j0]
   exact bad _ (NP h2) h
  |inr a=>
   obtain⟨rfl,s,-⟩:=tM e h h2
   simp only[sE (p.1+1+1,p.2) s k,j0,qI]
   cases y:dU ts ⟨#[44]⟩ (p.1+1+1) with
   |inl z=>exact bad _ (qX y) s
   |inr j=>
    obtain⟨rfl,u,-⟩:=lZ e s y
    obtain⟨o,K,l⟩:=hEg (p.1+1+1+1,p.2) u A
    simp only[K,j0]
    cases h4:E (p.1+1+1+1,p.2) with
    |inl z=>
     rw[h4] at l
     obtain⟨n,i,pr',b,hi,B⟩:=l
     simp only[B]
     exact zG n hi _ _
    |inr q=>
     rw[h4] at l
     obtain⟨⟨M,n,R,B⟩,S⟩:=G (p.1+1+1+1,p.2) q.1 q.2 u A h4
     have hr':o=(gR ts pr q.1,(q.2:Int)):=l
     simp only[hr']
     exact SI t _ q.1 e k n B
theorem UF(c:OkT ts)(h:ts.length<1000000)(r:100<N)(k:Int)(pth:Bool)(t:cA)(p:Ps)(f:p.1<ts.length)(s:p.2.length<=256):∃o,
  ((iO N (gR ts pr p) (⟨#[40]⟩:BA)).bind fun l=>(qT N l pth).bind fun g=>(iO N g.1 (⟨#[41]⟩:BA)).bind fun n=>lK N n (k,0,0,g.2,[]) t.2.2.2)=some o/\
  iW ts pr (bI (dU ts oI p.1) fun i=>bI (bI (if pth=true then nH ts i else wJ ts i) fun a=>(.inr ((a.1,p.2),((k,0,0,a.2.2.1,[]):Ex)):cG⊕(Ps×Ex))) fun q=>bI (dU ts lR q.1.1) fun i=>lM t q.2 (i,q.1.2)) o:=by
 simp only[sE p f h,j0,oI]
 cases h1:dU ts ⟨#[40]⟩ p.1 with
 |inl z=>
  simp only[TP (qX h1) f,j0]
  exact zG (qX h1) f _ _
 |inr i=>
  obtain⟨rfl,d,-⟩:=lZ c f h1
  simp only[TC (p.1+1,p.2) d h r,j0,bI]
  cases h2:(if pth=true then nH ts (p.1+1) else wJ ts (p.1+1)) with
  |inl z=>
   have b:z.2≠0:=by
    split at h2
    .exact NP h2
    exact qPc h2
   exact zG b d _ _
  |inr a=>
   have b:a=(p.1+1+1,aM ts (p.1+1))/\p.1+1+1<ts.length:=by
    split at h2
    .obtain⟨e,b,-⟩:=tM c d h2;exact⟨e,b⟩
    obtain⟨e,b,-⟩:=ZG c d h2;exact⟨e,b⟩
   obtain⟨rfl,b⟩:=b
   exact SI t _ (p.1+1+1,p.2) c h b s
theorem qQv(c:OkT ts)(h:ts.length<1000000)(t:cA)(p:Ps)(d:p.1<ts.length)(u:p.2.length<=256):∃o,
  ((iO N (gR ts pr p) (⟨#[40]⟩:BA)).bind fun n=>(iQ N n).bind fun g=>(vL N g.1).bind fun b=>(if(decide (b.2>=64))=true then((iX N b.1 g.2.2.2.2 9).bind fun r=>some r) else(some b.1):Option RT).bind fun v=>(iO N v (⟨#[41]⟩:BA)).bind fun s=>lK N s (10,b.2,0,⟨#[]⟩,[]) t.2.2.2)=some o/\
  iW ts pr (bI (dU ts oI p.1) fun i=>bI (bI (mB ts 2 i) fun a=>if a.2.2.2.1>=64 then eG a.2 9 else(.inr ((a.1,p.2),((10,a.2.2.2.1,0,⟨#[]⟩,[]):Ex)):cG⊕(Ps×Ex))) fun q=>bI (dU ts lR q.1.1) fun i=>lM t q.2 (i,q.1.2)) o:=by
 have f:¬decide ((0:Int)>=64)=true:=by decide
 simp only[sE p d h,j0,oI]
 cases h1:dU ts ⟨#[40]⟩ p.1 with
 |inl z=>
  simp only[rL d,qNk (qX h1) d,j0,if_neg f]
  exact zG (qX h1) d _ _
 |inr i=>
  obtain⟨rfl,e,-⟩:=lZ c d h1
  simp only[mA (p.1+1,p.2) e,SA (p.1+1,p.2) e h,j0,bI]
  cases h2:mB ts 2 (p.1+1) with
  |inl z=>
   simp only[if_neg f,j0]
   exact zG (HZ h2) e _ _
  |inr a=>
   obtain⟨rfl,l,-⟩:=wE c ac e h2
   by_cases k:(aM ts (p.1+1)).2.2.1>=64
   .simp only[if_pos k,j6,jE,oO,j0]
    exact zG (show(9:Int)≠0 by decide) l _ _
   simp only[if_neg k,j6,j0]
   exact SI t _ (p.1+1+1,p.2) c h l u
end
section
variable {N:Nat} {ts:List cA} {pr:List BA} {E S:Ps->PM Nat} {d:Int}
variable {r1 r2 r3 r4:RT->Int->Option (RT×Int)}
theorem qBf{s:BA}{i:Nat}(h:(aM ts i).1=1):cB ts 1 s i=decide ((aM ts i).2.1=s):=by simp[cB,h]
theorem qEh{k:Int}{s:BA}{i:Nat}(h:(aM ts i).1≠k):cB ts k s i=false:=by simp[cB,h]
theorem qE{α:Type}(x:Option α):(x.bind fun y=>some y)=x:=by cases x<;>rfl
theorem qMl{z:cG}{i:Nat}{pr':List BA}{b:List Ex}(c:z.2≠0)(hi:i<ts.length):AQ N r1 r2 r3 r4 (bR ts z i pr' b) d=some (bR ts z i pr' b,0):=by
 have a:((bR ts z i pr' b).2.2.2.1 !=0)=true:=by simpa[bR] using c
 simp only[AQ,Prod.eta,rL hi,j0,a,jE]
variable (hEg:∀p:Ps,p.1<ts.length->p.2.length<=256->∃o,r4 (gR ts pr p) (IntKind.wrap .i64 (d+1))=some o/\iW ts pr (E p) o)
variable (hEb:∀(z:cG) (i:Nat) (pr':List BA) (b:List Ex),z.2≠0->i<ts.length->∃v,r4 (bR ts z i pr' b) (IntKind.wrap .i64 (d+1))=some (bR ts z i pr' b,v))
include hEg hEb in
theorem qQg(e:OkT ts)(f:ts.length<1000000)(H:pr.length<1000)(hN:1000002<N)(M:lT ts E)(p:Ps)(l:p.1<ts.length)(t:p.2.length<=256):
  ∃o,AQ N r1 r2 r3 r4 (gR ts pr p) d=some o/\iW ts pr (sV ts pr E p) o:=by
 have Y:((gR ts pr p).2.2.2.1 !=0)=false:=rfl
 simp only[AQ,Prod.eta,mA p l,j0,Y,j9,jD]
 unfold sV
 dsimp only
 by_cases k1:(aM ts p.1).1=2
 .have k1':((aM ts p.1).1==2)=true:=by simpa using k1
  have g:=e.next l (show(aM ts p.1).1≠5 by rw[k1];decide)
  rw[if_pos k1]
  simp only[k1',jE,SA p l f,mB,if_pos k1,j0]
  obtain⟨o,k,c⟩:=zK (N:=N) (pr:=pr) (aM ts p.1) (1,(aM ts p.1).2.2.1,0,⟨#[]⟩,[]) (p.1+1,p.2) g t
  simp only[k,j0]
  exact⟨_,rfl,c⟩
 have k1':((aM ts p.1).1==2)=false:=by simpa using k1
 rw[if_neg k1]
 simp only[k1',j9,jD,pB p l f,j0]
 rcases eI (cB ts 4 TQ p.1) with B|B
 .have c1':cB ts 4 ⟨#[45]⟩ p.1=true:=B
  have g:=lY e l ac B
  simp only[B,c1',jE,SA (p.1+1,p.2) g f,j0]
  cases h:mB ts 2 (p.1+1) with
  |inl z=>
   obtain⟨o,k,c⟩:=DE (N:=N) (pr:=pr) (pr':=pr) (b:=p.2) (HZ h) g (1,IntKind.wrap .i64 (0-0),0,⟨#[]⟩,[]) (aM ts p.1).2.2.2
   simp only[k,j0]
   exact⟨_,rfl,c⟩
  |inr a=>
   obtain⟨rfl,F,-⟩:=wE e ac g h
   obtain⟨o,k,c⟩:=zK (N:=N) (pr:=pr) (aM ts p.1) (1,IntKind.wrap .i64 (0-(aM ts (p.1+1)).2.2.1),0,⟨#[]⟩,[]) (p.1+1+1,p.2) F t
   simp only[k,j0,bI]
   exact⟨_,rfl,c⟩
 have c1':cB ts 4 ⟨#[45]⟩ p.1=false:=B
 simp only[B,c1',j9,jD,pB p l f,j0]
 rcases eI (cB ts 4 oI p.1) with D|D
 .have c2':cB ts 4 ⟨#[40]⟩ p.1=true:=D
  have g:=lY e l ac D
  obtain⟨o,k,c⟩:=hEg (p.1+1,p.2) g t
  simp only[D,c2',jE,k,j0]
  cases h:E (p.1+1,p.2) with
  |inl z=>
   rw[h] at c
   obtain⟨r,i,pr',b,hi,G⟩:=c
   simp only[G,rJ r hi,j0,bI]
   exact⟨_,rfl,sD r hi⟩
  |inr q=>
   rw[h] at c
   obtain⟨⟨U,K,V,S⟩,v⟩:=M (p.1+1,p.2) q.1 q.2 g t h
   have hr':o=(gR ts pr q.1,(q.2:Int)):=c
   simp only[hr',sE q.1 K f,j0,bI,lR]
   cases u:dU ts ⟨#[41]⟩ q.1.1 with
   |inl z=>exact⟨_,rfl,sD (qX u) K⟩
   |inr j=>exact⟨_,rfl,rfl⟩
 have c2':cB ts 4 ⟨#[40]⟩ p.1=false:=D
 simp only[D,c2',j9,jD,qZ p l f,j0]
 by_cases k2:(aM ts p.1).1=1
 rotate_left
 .-- no name
  rw[if_pos k2]
  have n:∀s,cB ts 1 s p.1=false:=fun s=>qEh k2
  have v:mD ts p.1= .inl ((aM ts p.1).2.2.2,9):=by simp[mD,mB,k2,bI,eG]
  simp only[n,j9,jD,qZ p l f,j0,DL p l f (by omega:100<N),v]
  have r:(((aM ts p.1).2.2.2,(9:Int)):cG).2≠0:=show(9:Int)≠0 by decide
  have u:=ST (N:=N) (ts:=ts) (y1:=(gR ts pr p,aM ts p.1)) (y31:=(bR ts ((aM ts p.1).2.2.2,9) p.1 pr p.2,(⟨#[]⟩:BA))) (j:=p.1) (pr':=pr) (b:=p.2) r H pr.length 0 N aa aa
  rw[show((0:Nat):Int)=0 from rfl] at u
  simp only[NU r,j0,kA,jE,u,sF r]
  exact⟨_,rfl,sD r l⟩
 rw[if_neg (show ¬(aM ts p.1).1≠1 by simpa using k2)]
 have g:=e.next l (show(aM ts p.1).1≠5 by rw[k2];decide)
 have n:∀s,cB ts 1 s p.1=decide ((aM ts p.1).2.1=s):=fun s=>qBf k2
 simp only[n,qZ p l f,j0]
 by_cases w1:(aM ts p.1).2.1=pU
 .rw[if_pos (show(aM ts p.1).2.1∈[pU,pY,qC,qB,rC] by rw[w1];simp)]
  have w1':decide ((aM ts p.1).2.1=(⟨#[114,101,97,100]⟩:BA))=true:=jL w1
  simp only[w1',jE]
  obtain⟨o,k,c⟩:=qRl (N:=N) hEg hEb e f aa M (aM ts p.1) (p.1+1,p.2) g t
  refine⟨o,Eq.trans ?_ k,?_⟩
  .simp only[qE]
  simp only[sA,if_pos w1]
  exact c
 have w1':decide ((aM ts p.1).2.1=(⟨#[114,101,97,100]⟩:BA))=false:=jR w1
 simp only[w1',j9,jD,qZ p l f,j0,n]
 by_cases w2:(aM ts p.1).2.1=pY
 .rw[if_pos (show(aM ts p.1).2.1∈[pU,pY,qC,qB,rC] by rw[w2];simp)]
  have w2':decide ((aM ts p.1).2.1=(⟨#[115,105,122,101]⟩:BA))=true:=jL w2
  have wx:((aM ts p.1).2.1.toList==(⟨#[104,97,115]⟩:BA).toList)=false:=by rw[mF,w2];decide
  have wy:((aM ts p.1).2.1.toList==(⟨#[101,110,118]⟩:BA).toList)=false:=by rw[mF,w2];decide
  simp only[w2',jE,j0,wx,wy,j9,jD]
  obtain⟨o,k,c⟩:=UF (N:=N) (pr:=pr) e f aa 7 true (aM ts p.1) (p.1+1,p.2) g t
  refine⟨o,Eq.trans ?_ k,?_⟩
  .simp only[qE];rfl
  simp only[sA,if_neg w1,if_pos w2]
  exact c
 have w2':decide ((aM ts p.1).2.1=(⟨#[115,105,122,101]⟩:BA))=false:=jR w2
 simp only[w2',j9,jD,qZ p l f,j0,n]
 by_cases w3:(aM ts p.1).2.1=qC
 .rw[if_pos (show(aM ts p.1).2.1∈[pU,pY,qC,qB,rC] by rw[w3];simp)]
  have w3':decide ((aM ts p.1).2.1=(⟨#[104,97,115]⟩:BA))=true:=jL w3
  have wx:((aM ts p.1).2.1.toList==(⟨#[104,97,115]⟩:BA).toList)=true:=by rw[mF,w3']
  simp only[w3',jE,j0,wx]
  obtain⟨o,k,c⟩:=UF (N:=N) (pr:=pr) e f aa 8 true (aM ts p.1) (p.1+1,p.2) g t
  refine⟨o,Eq.trans ?_ k,?_⟩
  .simp only[qE];rfl
  simp only[sA,if_neg w1,if_neg w2,if_pos w3]
  exact c
 have w3':decide ((aM ts p.1).2.1=(⟨#[104,97,115]⟩:BA))=false:=jR w3
 simp only[w3',j9,jD,qZ p l f,j0,n]
 by_cases w4:(aM ts p.1).2.1=qB
 .rw[if_pos (show(aM ts p.1).2.1∈[pU,pY,qC,qB,rC] by rw[w4];simp)]
  have w4':decide ((aM ts p.1).2.1=(⟨#[101,110,118]⟩:BA))=true:=jL w4
  have wx:((aM ts p.1).2.1.toList==(⟨#[104,97,115]⟩:BA).toList)=false:=by rw[mF,w4];decide
  have wy:((aM ts p.1).2.1.toList==(⟨#[101,110,118]⟩:BA).toList)=true:=by rw[mF,w4']
  simp only[w4',jE,j0,wx,wy,j9,jD]
  obtain⟨o,k,c⟩:=UF (N:=N) (pr:=pr) e f aa 9 false (aM ts p.1) (p.1+1,p.2) g t
  refine⟨o,Eq.trans ?_ k,?_⟩
  .simp only[qE];rfl
  simp only[sA,if_neg w1,if_neg w2,if_neg w3,if_pos w4]
  exact c
 have w4':decide ((aM ts p.1).2.1=(⟨#[101,110,118]⟩:BA))=false:=jR w4
 simp only[w4',j9,jD,qZ p l f,j0,n]
 by_cases w5:(aM ts p.1).2.1=rC
 .rw[if_pos (show(aM ts p.1).2.1∈[pU,pY,qC,qB,rC] by rw[w5];simp)]
  have w5':decide ((aM ts p.1).2.1=(⟨#[102,108,105,112]⟩:BA))=true:=jL w5
  simp only[w5',jE]
  obtain⟨o,k,c⟩:=qQv (N:=N) (pr:=pr) e f (aM ts p.1) (p.1+1,p.2) g t
  refine⟨o,Eq.trans ?_ k,?_⟩
  .simp only[qE]
  simp only[sA,if_neg w1,if_neg w2,if_neg w3,if_neg w4]
  exact c
 have w5':decide ((aM ts p.1).2.1=(⟨#[102,108,105,112]⟩:BA))=false:=jR w5
 rw[if_neg (show ¬(aM ts p.1).2.1∈[pU,pY,qC,qB,rC] by simp[w1,w2,w3,w4,w5])]
 simp only[w5',j9,jD,DL p l f (by omega:100<N),j0,mD,mB,if_pos k2,bI]
 rcases eI (tU (aM ts p.1).2.1) with R|R
 .simp only[R,jE,eG]
  have r:(((aM ts p.1).2.2.2,(9:Int)):cG).2≠0:=show(9:Int)≠0 by decide
  have u:=ST (N:=N) (ts:=ts) (y1:=(gR ts pr p,aM ts p.1)) (y31:=(bR ts ((aM ts p.1).2.2.2,9) p.1 pr p.2,(⟨#[]⟩:BA))) (j:=p.1) (pr':=pr) (b:=p.2) r H pr.length 0 N aa aa
  rw[show((0:Nat):Int)=0 from rfl] at u
  simp only[NU r,j0,kA,jE,u,sF r]
  exact⟨_,rfl,sD r l⟩
 simp only[R,j9,jD,pB (p.1+1,p.2) g f,j0]
 rcases eI (cB ts 4 oI (p.1+1)) with A|A
 .have c4':cB ts 4 ⟨#[40]⟩ (p.1+1)=true:=A
  have F:=lY e g ac A
  simp only[A,c4',jE,kJ,j9,jD]
  have Z:dU ts oI (p.1+1)= .inr (p.1+1+1):=by simp[dU,A]
  simp only[vZ,Z,bI]
  obtain⟨o,k,c⟩:=qUa (N:=N) hEg hEb e f aa M (p.1+1+1,p.2) F t
  simp only[k,j0]
  cases ha:(if cB ts 4 lR (p.1+1+1)=true then .inr ((p.1+1+1+1,p.2),[]) else uT ts E (ts.length+1) [] (p.1+1+1,p.2):PM (List Int)) with
  |inl z=>
   rw[ha] at c
   obtain⟨r,i,pr',b,hi,G⟩:=c
   simp only[G]
   obtain⟨o2,v,y⟩:=DE (N:=N) (pr:=pr) (pr':=pr') (b:=b) r hi (3,0,0,(aM ts p.1).2.1,o.1) (aM ts p.1).2.2.2
   simp only[v,j0]
   exact⟨_,rfl,y⟩
  |inr q=>
   rw[ha] at c
   have hr':o=(q.2,gR ts pr q.1):=c
   have r:q.1.1<ts.length/\q.1.2.length<=256:=by
    split at ha
    .rename_i hc
     obtain rfl:=Sum.inr.inj ha
     exact⟨lY e F ac hc,t⟩
    obtain⟨U,K,V,S⟩:=RS e M _ _ (p.1+1+1,p.2) q.1 q.2 F t ha
    exact⟨K,S⟩
   simp only[hr']
   obtain⟨o2,v,y⟩:=zK (N:=N) (pr:=pr) (aM ts p.1) (3,0,0,(aM ts p.1).2.1,q.2) q.1 r.1 r.2
   simp only[v,j0]
   exact⟨_,rfl,y⟩
 have c4':cB ts 4 ⟨#[40]⟩ (p.1+1)=false:=A
 simp only[A,c4',j9,jD,kA,jE]
 have u:=qBl (N:=N) (ts:=ts) (pr:=pr) (y1:=(gR ts pr p,aM ts p.1)) (y31:=(gR ts pr (p.1+1,p.2),(aM ts p.1).2.1)) (p:=(p.1+1,p.2)) H pr.length 0 N aa aa
 rw[show((0:Nat):Int)=0 from rfl] at u
 simp only[u,jV,kU]
 cases hi:pr.findIdx? (fun x=>decide (x=(aM ts p.1).2.1)) with
 |none=>
  simp only[j0,oO]
  exact⟨_,rfl,sD (show(9:Int)≠0 by decide) g⟩
 |some j=>
  obtain⟨o2,v,y⟩:=zK (N:=N) (pr:=pr) (aM ts p.1) (2,(j:Int),0,⟨#[]⟩,[]) (p.1+1,p.2) g t
  simp only[v,j0]
  exact⟨_,rfl,y⟩
end
section
variable {N:Nat} {ts:List cA} {pr:List BA} {E S:Ps->PM Nat} {d:Int}
variable {r r1 r2 r3 r4:RT->Int->Option (RT×Int)}
theorem qDh{L i:Nat}(h:mL ts L i≠0):(aM ts i).1=4:=by
 apply Decidable.byContradiction
 intro b
 apply h
 unfold mL
 have:opsC.find? (pL ts L i)=none:=by
  rw[List.find?_eq_none]
  intro o _ a
  simp only[pL,jK] at a
  exact b (ND a.1)
 rw[this]
theorem qEo{f:Int×RT->Option ((Int×RT)⊕(Int×RT))}{L:Nat}(A:OkT ts)(H:lT ts S)
  (t:∀p:Ps,p.1<ts.length->p.2.length<=256->∃o,r (gR ts pr p) d=some o/\iW ts pr (S p) o)
  (a1:∀(z:cG) (i:Nat) (pr':List BA) (b:List Ex),z.2≠0->i<ts.length->∃v,r (bR ts z i pr' b) d=some (bR ts z i pr' b,v))
  (y:∀(z:cG) (i:Nat) (pr':List BA) (b:List Ex) (v:Int),z.2≠0->f (v,bR ts z i pr' b)=some (.inr (v,bR ts z i pr' b)))
  {n M x:Nat} {p:Ps} (R:p.1<ts.length) (u:p.2.length<=256) (hM:0<M) (G:L≠1) (e:mL ts L p.1≠0)
  (U:∀(x:Nat) (q:Ps),q.1<ts.length->p.1<q.1->q.2.length<=256->x<q.2.length->∃o,aK f M ((x:Int),gR ts pr q)=some o/\iW ts pr (pZ ts L S n x q) (o.2,o.1)):
  ∃o,((r (gR ts pr (p.1+1,p.2)) d).bind fun B=>(lK N B.1 (4,0,mL ts L p.1,⟨#[]⟩,[(x:Int),B.2]) (aM ts p.1).2.2.2).bind fun D=>aK f M (D.2,D.1))=some o/\iW ts pr (pZ ts L S (n+1) x p) (o.2,o.1):=by
 have g:=A.next R (show(aM ts p.1).1≠5 by rw[qDh e];decide)
 obtain⟨o,K,c⟩:=t (p.1+1,p.2) g u
 obtain⟨M',rfl⟩:∃M',M=M'+1:=⟨M-1,by omega⟩
 have bad:∀(z:cG) (i:Nat) (pr':List BA) (b:List Ex) (v:Int),z.2≠0->aK f (M'+1) (v,bR ts z i pr' b)=some (v,bR ts z i pr' b):=by
  intro z i pr' b v a
  simp only[aK,y z i pr' b v a,j0]
 simp only[K,j0,pZ]
 rw[if_neg e]
 cases h:S (p.1+1,p.2) with
 |inl z=>
  rw[h] at c
  obtain⟨a,i,pr',b,hi,l⟩:=c
  simp only[l,bI]
  obtain⟨v,k⟩:=qDd (N:=N) (ts:=ts) (pr:=pr') (b:=b) (i:=i) a (4,0,mL ts L p.1,⟨#[]⟩,[(x:Int),o.2]) (aM ts p.1).2.2.2
  simp only[k,j0,bad _ _ _ _ _ a]
  exact⟨_,rfl,sD a hi⟩
 |inr q=>
  rw[h] at c
  obtain⟨⟨E,a,F,l⟩,f5⟩:=H (p.1+1,p.2) q.1 q.2 g u h
  have hr':o=(gR ts pr q.1,(q.2:Int)):=c
  simp only[hr',bI]
  obtain⟨v,k⟩:=qCy (N:=N) (ts:=ts) (pr:=pr) (aM ts p.1) (4,0,mL ts L p.1,⟨#[]⟩,[(x:Int),(q.2:Int)]) q.1 l
  simp only[k,j0]
  cases hn:lM (aM ts p.1) (4,0,mL ts L p.1,⟨#[]⟩,[(x:Int),(q.2:Int)]) q.1 with
  |inl z=>
   simp only[bad _ _ _ _ _ (TF hn)]
   exact⟨_,rfl,sD (TF hn) a⟩
  |inr s=>
   obtain⟨⟨V,Y,k3,Z⟩,k5⟩:=wG (ts:=ts) (p:=p) (r:=q.1) (by simp only at E;omega) a F l hn
   simp only[if_neg G]
   exact U s.2 s.1 Y V Z k5
theorem qEq{L n x:Nat}{p:Ps}(a:mL ts L p.1=0):iW ts pr (pZ ts L S (n+1) x p) (gR ts pr p,(x:Int)):=by
 simp only[pZ]
 rw[if_pos a]
 rfl
theorem SQ(z:cG)(i:Nat)(pr':List BA)(b:List Ex)(v:Int)(c:z.2≠0):uH N r d (v,bR ts z i pr' b)=some (.inr (v,bR ts z i pr' b)):=by
 have a:((bR ts z i pr' b).2.2.2.1==0)=false:=by simpa[bR] using c
 simp only[uH,a,j9,jD,Prod.eta]
theorem TA(z:cG)(i:Nat)(pr':List BA)(b:List Ex)(v:Int)(c:z.2≠0):vM N r d (v,bR ts z i pr' b)=some (.inr (v,bR ts z i pr' b)):=by
 have a:((bR ts z i pr' b).2.2.2.1==0)=false:=by simpa[bR] using c
 simp only[vM,a,j9,jD,Prod.eta]
theorem YH(B:OkT ts)(k:ts.length<1000000)(D:lT ts S)
  (A:∀p:Ps,p.1<ts.length->p.2.length<=256->∃o,r (gR ts pr p) d=some o/\iW ts pr (S p) o)
  (u:∀(z:cG) (i:Nat) (pr':List BA) (b:List Ex),z.2≠0->i<ts.length->∃v,r (bR ts z i pr' b) d=some (bR ts z i pr' b,v)):
  ∀(n M x:Nat) (p:Ps),p.1<ts.length->p.2.length<=256->x<p.2.length->ts.length<p.1+n->ts.length+1<p.1+M->
  ∃o,aK (uH N r d) M ((x:Int),gR ts pr p)=some o/\iW ts pr (pZ ts 3 S n x p) (o.2,o.1)
 |0,M,x,p,c,_,_,h,_=>by omega
 |n+1,0,x,p,c,_,_,_,h=>by omega
 |n+1,M+1,x,p,c,H,Y,V,U=>by
  have t:((gR ts pr p).2.2.2.1==0)=true:=rfl
  have K:∀(x:Nat) (q:Ps),q.1<ts.length->p.1<q.1->q.2.length<=256->x<q.2.length->∃o,aK (uH N r d) M ((x:Int),gR ts pr q)=some o/\iW ts pr (pZ ts 3 S n x q) (o.2,o.1):=
   fun x q F R a G=>YH B k D A u n M x q F a G aa aa
  have go:=fun E=>qEo (N:=N) (n:=n) (x:=x) B D A u (SQ (N:=N) (r:=r) (d:=d)) c H (show 0<M by omega) (show 3≠1 by decide) E K
  have a:=op_3 (ts:=ts) (i:=p.1)
  rcases eI (cB ts 4 ⟨#[42]⟩ p.1) with e|e
  .simp only[e,jE] at a
   obtain⟨o,l,s⟩:=go (by rw[a];decide)
   refine⟨o,Eq.trans ?_ l,s⟩
   simp only[aK,uH,Prod.eta,t,jE,mA p c,pB p c k,j0,e,a]
   cases r (gR ts pr (p.1+1,p.2)) d with
   |none=>rfl
   |some y=>simp only[j0];cases lK N y.1 (4,0,3,⟨#[]⟩,[(x:Int),y.2]) (aM ts p.1).2.2.2<;>rfl
  rcases eI (cB ts 4 ⟨#[47]⟩ p.1) with f|f
  .simp only[e,f,jE,j9,jD] at a
   obtain⟨o,l,s⟩:=go (by rw[a];decide)
   refine⟨o,Eq.trans ?_ l,s⟩
   simp only[aK,uH,Prod.eta,t,jE,mA p c,pB p c k,j0,e,f,a,j9,jD]
   cases r (gR ts pr (p.1+1,p.2)) d with
   |none=>rfl
   |some y=>simp only[j0];cases lK N y.1 (4,0,4,⟨#[]⟩,[(x:Int),y.2]) (aM ts p.1).2.2.2<;>rfl
  rcases eI (cB ts 4 ⟨#[37]⟩ p.1) with g|g
  .simp only[e,f,g,jE,j9,jD] at a
   obtain⟨o,l,s⟩:=go (by rw[a];decide)
   refine⟨o,Eq.trans ?_ l,s⟩
   simp only[aK,uH,Prod.eta,t,jE,mA p c,pB p c k,j0,e,f,g,a,j9,jD]
   cases r (gR ts pr (p.1+1,p.2)) d with
   |none=>rfl
   |some y=>simp only[j0];cases lK N y.1 (4,0,5,⟨#[]⟩,[(x:Int),y.2]) (aM ts p.1).2.2.2<;>rfl
  simp only[e,f,g,j9,jD] at a
  simp only[aK,uH,Prod.eta,t,jE,mA p c,pB p c k,j0,e,f,g,j9,jD]
  exact⟨_,rfl,qEq a⟩
theorem ZN(s:OkT ts)(g:ts.length<1000000)(B:lT ts S)
  (l:∀p:Ps,p.1<ts.length->p.2.length<=256->∃o,r (gR ts pr p) d=some o/\iW ts pr (S p) o)
  (k:∀(z:cG) (i:Nat) (pr':List BA) (b:List Ex),z.2≠0->i<ts.length->∃v,r (bR ts z i pr' b) d=some (bR ts z i pr' b,v)):
  ∀(n M x:Nat) (p:Ps),p.1<ts.length->p.2.length<=256->x<p.2.length->ts.length<p.1+n->ts.length+1<p.1+M->
  ∃o,aK (vM N r d) M ((x:Int),gR ts pr p)=some o/\iW ts pr (pZ ts 2 S n x p) (o.2,o.1)
 |0,M,x,p,c,_,_,h,_=>by omega
 |n+1,0,x,p,c,_,_,_,h=>by omega
 |n+1,M+1,x,p,c,G,V,U,R=>by
  have t:((gR ts pr p).2.2.2.1==0)=true:=rfl
  have H:∀(x:Nat) (q:Ps),q.1<ts.length->p.1<q.1->q.2.length<=256->x<q.2.length->∃o,aK (vM N r d) M ((x:Int),gR ts pr q)=some o/\iW ts pr (pZ ts 2 S n x q) (o.2,o.1):=
   fun x q E K a F=>ZN s g B l k n M x q E a F aa aa
  have go:=fun D=>qEo (N:=N) (n:=n) (x:=x) s B l k (TA (N:=N) (r:=r) (d:=d)) c G (show 0<M by omega) (show 2≠1 by decide) D H
  have a:=op_2 (ts:=ts) (i:=p.1)
  rcases eI (cB ts 4 ⟨#[43]⟩ p.1) with e|e
  .simp only[e,jE] at a
   obtain⟨o,u,A⟩:=go (by rw[a];decide)
   refine⟨o,Eq.trans ?_ u,A⟩
   simp only[aK,vM,Prod.eta,t,jE,mA p c,pB p c g,j0,e,a]
   cases r (gR ts pr (p.1+1,p.2)) d with
   |none=>rfl
   |some y=>simp only[j0];cases lK N y.1 (4,0,1,⟨#[]⟩,[(x:Int),y.2]) (aM ts p.1).2.2.2<;>rfl
  rcases eI (cB ts 4 ⟨#[45]⟩ p.1) with f|f
  .simp only[e,f,jE,j9,jD] at a
   obtain⟨o,u,A⟩:=go (by rw[a];decide)
   refine⟨o,Eq.trans ?_ u,A⟩
   simp only[aK,vM,Prod.eta,t,jE,mA p c,pB p c g,j0,e,f,a,j9,jD]
   cases r (gR ts pr (p.1+1,p.2)) d with
   |none=>rfl
   |some y=>simp only[j0];cases lK N y.1 (4,0,2,⟨#[]⟩,[(x:Int),y.2]) (aM ts p.1).2.2.2<;>rfl
  simp only[e,f,j9,jD] at a
  simp only[aK,vM,Prod.eta,t,jE,mA p c,pB p c g,j0,e,f,j9,jD]
  exact⟨_,rfl,qEq a⟩
theorem qTw(k:OkT ts)(u:ts.length<1000000)(B:1000002<N)(e:lT ts S)
  (c:∀p:Ps,p.1<ts.length->p.2.length<=256->∃o,r1 (gR ts pr p) d=some o/\iW ts pr (S p) o)
  (h1b:∀(z:cG) (i:Nat) (pr':List BA) (b:List Ex),z.2≠0->i<ts.length->∃v,r1 (bR ts z i pr' b) d=some (bR ts z i pr' b,v))
  (p:Ps) (l:p.1<ts.length) (f:p.2.length<=256):∃o,AR N r1 r2 r3 r4 (gR ts pr p) d=some o/\iW ts pr (sW ts 3 S p) o:=by
 obtain⟨o,x,a⟩:=c p l f
 simp only[AR,Prod.eta,x,j0,sW]
 cases h:S p with
 |inl z=>
  rw[h] at a
  obtain⟨n,i,pr',b,hi,g⟩:=a
  obtain⟨M,rfl⟩:∃M,N=M+1:=⟨N-1,by omega⟩
  simp only[g,bI,aK,SQ z i pr' b _ n,j0]
  exact⟨_,rfl,sD n hi⟩
 |inr q=>
  rw[h] at a
  obtain⟨⟨y,r,A,s⟩,t⟩:=e p q.1 q.2 l f h
  have hr':o=(gR ts pr q.1,(q.2:Int)):=a
  obtain⟨o2,g,n⟩:=YH (N:=N) k u e c h1b (ts.length+1) N q.2 q.1 r s t aa aa
  simp only[hr',bI,g,j0]
  exact⟨_,rfl,n⟩
theorem qQm(h1b:∀(z:cG) (i:Nat) (pr':List BA) (b:List Ex),z.2≠0->i<ts.length->∃v,r1 (bR ts z i pr' b) d=some (bR ts z i pr' b,v))(e:0<N)
  (z:cG) (i:Nat) (pr':List BA) (b:List Ex) (a:z.2≠0) (hi:i<ts.length):∃v,AR N r1 r2 r3 r4 (bR ts z i pr' b) d=some (bR ts z i pr' b,v):=by
 obtain⟨v,c⟩:=h1b z i pr' b a hi
 obtain⟨M,rfl⟩:∃M,N=M+1:=⟨N-1,by omega⟩
 simp only[AR,Prod.eta,c,j0,aK,SQ z i pr' b _ a]
 exact⟨_,rfl⟩
theorem rsum(k:OkT ts)(u:ts.length<1000000)(B:1000002<N)(e:lT ts S)
  (c:∀p:Ps,p.1<ts.length->p.2.length<=256->∃o,r2 (gR ts pr p) d=some o/\iW ts pr (S p) o)
  (h2b:∀(z:cG) (i:Nat) (pr':List BA) (b:List Ex),z.2≠0->i<ts.length->∃v,r2 (bR ts z i pr' b) d=some (bR ts z i pr' b,v))
  (p:Ps) (l:p.1<ts.length) (f:p.2.length<=256):∃o,AU N r1 r2 r3 r4 (gR ts pr p) d=some o/\iW ts pr (sW ts 2 S p) o:=by
 obtain⟨o,x,a⟩:=c p l f
 simp only[AU,Prod.eta,x,j0,sW]
 cases h:S p with
 |inl z=>
  rw[h] at a
  obtain⟨n,i,pr',b,hi,g⟩:=a
  obtain⟨M,rfl⟩:∃M,N=M+1:=⟨N-1,by omega⟩
  simp only[g,bI,aK,TA z i pr' b _ n,j0]
  exact⟨_,rfl,sD n hi⟩
 |inr q=>
  rw[h] at a
  obtain⟨⟨y,r,A,s⟩,t⟩:=e p q.1 q.2 l f h
  have hr':o=(gR ts pr q.1,(q.2:Int)):=a
  obtain⟨o2,g,n⟩:=ZN (N:=N) k u e c h2b (ts.length+1) N q.2 q.1 r s t aa aa
  simp only[hr',bI,g,j0]
  exact⟨_,rfl,n⟩
theorem qTb(h2b:∀(z:cG) (i:Nat) (pr':List BA) (b:List Ex),z.2≠0->i<ts.length->∃v,r2 (bR ts z i pr' b) d=some (bR ts z i pr' b,v))(e:0<N)
  (z:cG) (i:Nat) (pr':List BA) (b:List Ex) (a:z.2≠0) (hi:i<ts.length):∃v,AU N r1 r2 r3 r4 (bR ts z i pr' b) d=some (bR ts z i pr' b,v):=by
 obtain⟨v,c⟩:=h2b z i pr' b a hi
 obtain⟨M,rfl⟩:∃M,N=M+1:=⟨N-1,by omega⟩
 simp only[AU,Prod.eta,c,j0,aK,TA z i pr' b _ a]
 exact⟨_,rfl⟩
theorem qQn(z:cG)(i:Nat)(pr':List BA)(b:List Ex)(a:z.2≠0)(hi:i<ts.length):xA N r1 r2 r3 r4 (bR ts z i pr' b) d=some (bR ts z i pr' b,0):=by
 have c:((bR ts z i pr' b).2.2.2.1 !=0)=true:=by simpa[bR] using a
 simp only[xA,Prod.eta,rL hi,j0,sF a]
 have:((if decide (d>32)=true then some (bR ts z i pr' b) else some (bR ts z i pr' b)):Option RT)=some (bR ts z i pr' b):=by split<;>rfl
 simp only[this,j0,c,jE]
theorem qQt(c:d>32)(p:Ps)(a:p.1<ts.length):∃o,xA N r1 r2 r3 r4 (gR ts pr p) d=some o/\iW ts pr (eK ts pr 0 p) o:=by
 have hd':decide (d>32)=true:=by simpa using c
 simp only[xA,Prod.eta,mA p a,j0,hd',jE,oO]
 have b:((bR ts ((aM ts p.1).2.2.2,2) p.1 pr p.2).2.2.2.1 !=0)=true:=by rfl
 simp only[b,jE]
 exact⟨_,rfl,sD (show(2:Int)≠0 by decide) a⟩
theorem qTu{k:Nat}(A:OkT ts)(F:ts.length<1000000)(hd:d+k=32)(S:lT ts (eK ts pr k))(hS:lT ts (uY ts pr (eK ts pr k)))
  (H:∀p:Ps,p.1<ts.length->p.2.length<=256->∃o,r4 (gR ts pr p) (IntKind.wrap .i64 (d+1))=some o/\iW ts pr (eK ts pr k p) o)
  (u:∀(z:cG) (i:Nat) (pr':List BA) (b:List Ex),z.2≠0->i<ts.length->∃v,r4 (bR ts z i pr' b) (IntKind.wrap .i64 (d+1))=some (bR ts z i pr' b,v))
  (Z:∀p:Ps,p.1<ts.length->p.2.length<=256->∃o,r3 (gR ts pr p) d=some o/\iW ts pr (uY ts pr (eK ts pr k) p) o)
  (h3b:∀(z:cG) (i:Nat) (pr':List BA) (b:List Ex),z.2≠0->i<ts.length->∃v,r3 (bR ts z i pr' b) d=some (bR ts z i pr' b,v))
  (p:Ps) (K:p.1<ts.length) (M:p.2.length<=256):∃o,xA N r1 r2 r3 r4 (gR ts pr p) d=some o/\iW ts pr (eK ts pr (k+1) p) o:=by
 have hd':decide (d>32)=false:=jR aa
 have g0:((gR ts pr p).2.2.2.1 !=0)=false:=rfl
 simp only[xA,Prod.eta,mA p K,j0,hd',j9,jD,g0,qZ p K F,eK]
 rcases eI (cB ts 1 JU p.1) with s|s
 rotate_left
 .have c1':cB ts 1 ⟨#[105,102]⟩ p.1=false:=s
  simp only[s,c1',j9,jD]
  obtain⟨o,ho,G⟩:=Z p K M
  simp only[ho,j0,HV,sW]
  cases h:uY ts pr (eK ts pr k) p with
  |inl z=>
   rw[h] at G
   obtain⟨e,i,pr',b,hi,l⟩:=G
   simp only[l,rL hi,NU e,j0,j9,jD,bI]
   exact⟨_,rfl,sD e hi⟩
  |inr q=>
   rw[h] at G
   obtain⟨⟨f1,B,f3,U⟩,f5⟩:=hS p q.1 q.2 K M h
   have hr':o=(gR ts pr q.1,(q.2:Int)):=G
   simp only[hr',mA q.1 B,pB q.1 B F,j0,bI,pZ]
   have go:∀op,op≠0->mL ts 1 q.1.1=op->∃o,((r3 (gR ts pr (q.1.1+1,q.1.2)) d).bind fun R=>(lK N R.1 (4,0,op,⟨#[]⟩,[(q.2:Int),R.2]) (aM ts q.1.1).2.2.2).bind fun Y=>some Y)=some o/\
     iW ts pr (if mL ts 1 q.1.1=0 then .inr (q.1,q.2) else bI (uY ts pr (eK ts pr k) (q.1.1+1,q.1.2)) fun a=>bI (lM (aM ts q.1.1) (4,0,mL ts 1 q.1.1,⟨#[]⟩,[(q.2:Int),(a.2:Int)]) a.1) fun r=> .inr r) o:=by
    intro op n t
    have g:=A.next B (show(aM ts q.1.1).1≠5 by rw[qDh (L:=1) (by rw[t];exact n)];decide)
    obtain⟨o2,E,f⟩:=Z (q.1.1+1,q.1.2) g U
    rw[t,if_neg n]
    simp only[E,j0,qE]
    cases h2:uY ts pr (eK ts pr k) (q.1.1+1,q.1.2) with
    |inl z=>
     rw[h2] at f
     obtain⟨e,i,pr',b,hi,l⟩:=f
     simp only[l,bI]
     exact DE e hi _ _
    |inr a=>
     rw[h2] at f
     obtain⟨⟨j1,j2,j3,j4⟩,j5⟩:=hS (q.1.1+1,q.1.2) a.1 a.2 g U h2
     have hr2':o2=(gR ts pr a.1,(a.2:Int)):=f
     simp only[hr2',bI]
     obtain⟨o3,V,D⟩:=zK (N:=N) (pr:=pr) (aM ts q.1.1) (4,0,op,⟨#[]⟩,[(q.2:Int),(a.2:Int)]) a.1 j2 j4
     refine⟨o3,V,?_⟩
     cases hn:lM (aM ts q.1.1) (4,0,op,⟨#[]⟩,[(q.2:Int),(a.2:Int)]) a.1<;>rw[hn] at D<;>exact D
   have t:=op_1 (ts:=ts) (i:=q.1.1)
   rcases eI (cB ts 4 ⟨#[60]⟩ q.1.1) with f|f
   .simp only[f,jE] at t
    obtain⟨o4,D,E⟩:=go 6 ac t
    simp only[f,jE,j0]
    exact⟨o4,D,by simpa only[bI] using E⟩
   rcases eI (cB ts 4 ⟨#[61,61]⟩ q.1.1) with n|n
   .simp only[f,n,jE,j9,jD] at t
    obtain⟨o4,D,E⟩:=go 7 ac t
    simp only[f,n,jE,j0,j9,jD,pB q.1 B F]
    exact⟨o4,D,by simpa only[bI] using E⟩
   simp only[f,n,j9,jD] at t
   simp only[f,n,j0,j9,jD,pB q.1 B F]
   rw[if_pos t]
   exact⟨_,rfl,rfl⟩
 have c1':cB ts 1 ⟨#[105,102]⟩ p.1=true:=s
 have g:=lY A K ac s
 simp only[s,c1',jE]
 -- behind an error
 have badN:∀{z:cG} {i:Nat} {pr':List BA} {b:List Ex} (x y w:Int),z.2≠0->i<ts.length->∃o,((lK N (bR ts z i pr' b) (5,0,0,⟨#[]⟩,[x,y,w]) (aM ts p.1).2.2.2).bind fun b6=>some b6)=some o/\iW ts pr (.inl z) o:=by
  intro z i pr' b x y w e hi
  simp only[qE]
  exact DE e hi _ _
 have nf:∀b:Bool,(if(!b)=true then(0:Nat) else 1)=if b=true then 1 else 0:=by intro b;cases b<;>rfl
 obtain⟨oa,a7,B⟩:=H (p.1+1,p.2) g M
 simp only[a7,j0]
 cases ha:eK ts pr k (p.1+1,p.2) with
 |inl z=>
  rw[ha] at B
  obtain⟨e,i,pr',b,hi,l⟩:=B
  obtain⟨v,t⟩:=u z i pr' b e hi
  simp only[l,TJ e,j0,kA,jE,rL hi,sF e,t,bI]
  exact badN _ _ _ e hi
 |inr a=>
  rw[ha] at B
  obtain⟨⟨a1,E,a3,R⟩,a5⟩:=S (p.1+1,p.2) a.1 a.2 g M ha
  have hra':oa=(gR ts pr a.1,(a.2:Int)):=B
  have b0:sJ ts IS a.1.1=if cB ts 1 ⟨#[116,104,101,110]⟩ a.1.1=true then .inr (a.1.1+1) else eG (aM ts a.1.1) 9:=rfl
  simp only[hra',qZ a.1 E F,j0,bI,b0]
  rcases eI (cB ts 1 ⟨#[116,104,101,110]⟩ a.1.1) with f|f
  rotate_left
  .have e:(((aM ts a.1.1).2.2.2,(9:Int)):cG).2≠0:=show(9:Int)≠0 by decide
   obtain⟨v,t⟩:=u ((aM ts a.1.1).2.2.2,9) a.1.1 pr a.1.2 e E
   simp only[f,j9,jD,kA,jE,mA a.1 E,oO,j0,t,TJ e,rL E,sF e,eG]
   exact badN _ _ _ e E
  have V:=lY A E ac f
  obtain⟨ob,a8,D⟩:=H (a.1.1+1,a.1.2) V R
  simp only[f,jE,kJ,j9,jD,j0,a8]
  cases hb1:eK ts pr k (a.1.1+1,a.1.2) with
  |inl z=>
   rw[hb1] at D
   obtain⟨e,i,pr',b,hi,l⟩:=D
   obtain⟨v,t⟩:=u z i pr' b e hi
   simp only[l,TJ e,j0,kA,jE,rL hi,sF e,t]
   exact badN _ _ _ e hi
  |inr b=>
   rw[hb1] at D
   obtain⟨⟨b1,G,b3,U⟩,b5⟩:=S (a.1.1+1,a.1.2) b.1 b.2 V R hb1
   have hrb':ob=(gR ts pr b.1,(b.2:Int)):=D
   have a6:sJ ts IR b.1.1=if cB ts 1 ⟨#[101,108,115,101]⟩ b.1.1=true then .inr (b.1.1+1) else eG (aM ts b.1.1) 9:=rfl
   simp only[hrb',qZ b.1 G F,j0,a6]
   rcases eI (cB ts 1 ⟨#[101,108,115,101]⟩ b.1.1) with n|n
   rotate_left
   .have e:(((aM ts b.1.1).2.2.2,(9:Int)):cG).2≠0:=show(9:Int)≠0 by decide
    obtain⟨v,t⟩:=u ((aM ts b.1.1).2.2.2,9) b.1.1 pr b.1.2 e G
    simp only[n,j9,jD,kA,jE,mA b.1 G,oO,j0,t,eG]
    exact badN _ _ _ e G
   have Y:=lY A G ac n
   obtain⟨oc,a9,t⟩:=H (b.1.1+1,b.1.2) Y U
   simp only[n,jE,kJ,j9,jD,j0,a9]
   cases hc1:eK ts pr k (b.1.1+1,b.1.2) with
   |inl z=>
    rw[hc1] at t
    obtain⟨e,i,pr',b',hi,l⟩:=t
    simp only[l]
    exact badN _ _ _ e hi
   |inr c=>
    rw[hc1] at t
    obtain⟨⟨s,f,n,e⟩,l⟩:=S (b.1.1+1,b.1.2) c.1 c.2 Y U hc1
    have hrc':oc=(gR ts pr c.1,(c.2:Int)):=t
    simp only[hrc',qE]
    exact zK (N:=N) (pr:=pr) (aM ts p.1) (5,0,0,⟨#[]⟩,[(a.2:Int),(b.2:Int),(c.2:Int)]) c.1 f e
end
section
variable {N:Nat} {ts:List cA} {pr:List BA}
theorem SP(D:Nat)(c:1<=D)(d:Int)(z:cG)(i:Nat)(pr':List BA)(b:List Ex)(a:z.2≠0)(hi:i<ts.length):∃v,(iT N D).2.2.2 (bR ts z i pr' b) d=some (bR ts z i pr' b,v):=by
 obtain⟨D',rfl⟩:∃D',D=D'+1:=⟨D-1,by omega⟩
 simp only[iT]
 exact⟨_,qQn z i pr' b a hi⟩
theorem XU(D:Nat)(c:1<=D)(d:Int)(z:cG)(i:Nat)(pr':List BA)(b:List Ex)(a:z.2≠0)(hi:i<ts.length):∃v,(iT N D).1 (bR ts z i pr' b) d=some (bR ts z i pr' b,v):=by
 obtain⟨D',rfl⟩:∃D',D=D'+1:=⟨D-1,by omega⟩
 simp only[iT]
 exact⟨_,qMl a hi⟩
theorem qBd(c:0<N)(D:Nat)(e:2<=D)(d:Int)(z:cG)(i:Nat)(pr':List BA)(b:List Ex)(a:z.2≠0)(hi:i<ts.length):∃v,(iT N D).2.1 (bR ts z i pr' b) d=some (bR ts z i pr' b,v):=by
 obtain⟨D',rfl⟩:∃D',D=D'+1:=⟨D-1,by omega⟩
 simp only[iT]
 exact qQm (fun z i pr' b a hi=>XU D' aa d z i pr' b a hi) c z i pr' b a hi
theorem qRe(c:0<N)(D:Nat)(e:3<=D)(d:Int)(z:cG)(i:Nat)(pr':List BA)(b:List Ex)(a:z.2≠0)(hi:i<ts.length):∃v,(iT N D).2.2.1 (bR ts z i pr' b) d=some (bR ts z i pr' b,v):=by
 obtain⟨D',rfl⟩:∃D',D=D'+1:=⟨D-1,by omega⟩
 simp only[iT]
 exact qTb (fun z i pr' b a hi=>qBd c D' aa d z i pr' b a hi) c z i pr' b a hi
theorem qCr(a:OkT ts)(g:ts.length<1000000)(n:pr.length<1000)(l:1000002<N):∀(k D:Nat),k<=32->4*k+1<=D->∀p:Ps,p.1<ts.length->p.2.length<=256->
  ∃o,(iT N D).2.2.2 (gR ts pr p) (33-(k:Int))=some o/\iW ts pr (eK ts pr k p) o
 |0,0,_,h,_,_,_=>by omega
 |0,D+1,_,_,p,c,_=>by simp only[iT];exact qQt aa p c
 |k+1,D,A,f,p,c,d=>by
  have q:=wD (ts:=ts) (params:=pr) a k
  have s:=QV (params:=pr) a q
  have t:lT ts (IX ts pr (eK ts pr k)):=zC a s
  have y:lT ts (uY ts pr (eK ts pr k)):=zC a t
  have r:∀D,4*k+1<=D->∀p:Ps,p.1<ts.length->p.2.length<=256->∃o,(iT N D).2.2.2 (gR ts pr p) (IntKind.wrap .i64 (32-(k:Int)+1))=some o/\iW ts pr (eK ts pr k p) o:=by
   intro D f p c d
   rw[bY aa aa,show 32-(k:Int)+1=33-(k:Int) by omega]
   exact qCr a g n l k D aa f p c d
  have u:∀D,4*k+2<=D->∀p:Ps,p.1<ts.length->p.2.length<=256->∃o,(iT N D).1 (gR ts pr p) (32-(k:Int))=some o/\iW ts pr (sV ts pr (eK ts pr k) p) o:=by
   intro D f p c d
   obtain⟨D',rfl⟩:∃D',D=D'+1:=⟨D-1,by omega⟩
   simp only[iT]
   exact qQg (r D' aa) (fun z i pr' b e hi=>SP D' aa _ z i pr' b e hi) a g n l q p c d
  have v:∀D,4*k+3<=D->∀p:Ps,p.1<ts.length->p.2.length<=256->∃o,(iT N D).2.1 (gR ts pr p) (32-(k:Int))=some o/\iW ts pr (IX ts pr (eK ts pr k) p) o:=by
   intro D f p c d
   obtain⟨D',rfl⟩:∃D',D=D'+1:=⟨D-1,by omega⟩
   simp only[iT]
   exact qTw a g l s (u D' aa) (fun z i pr' b e hi=>XU D' aa _ z i pr' b e hi) p c d
  have x:∀D,4*k+4<=D->∀p:Ps,p.1<ts.length->p.2.length<=256->∃o,(iT N D).2.2.1 (gR ts pr p) (32-(k:Int))=some o/\iW ts pr (uY ts pr (eK ts pr k) p) o:=by
   intro D f p c d
   obtain⟨D',rfl⟩:∃D',D=D'+1:=⟨D-1,by omega⟩
   simp only[iT]
   exact rsum a g l t (v D' aa) (fun z i pr' b e hi=>qBd aa D' aa _ z i pr' b e hi) p c d
  obtain⟨D',rfl⟩:∃D',D=D'+1:=⟨D-1,by omega⟩
  rw[show(33:Int)-((k+1:Nat):Int)=32-(k:Int) by omega]
  simp only[iT]
  exact qTu a g aa q y (r D' aa) (fun z i pr' b e hi=>SP D' aa _ z i pr' b e hi) (x D' aa) (fun z i pr' b e hi=>qRe aa D' aa _ z i pr' b e hi) p c d
theorem qPw(a:OkT ts)(e:ts.length<1000000)(b:pr.length<1000)(c:1000002<N)(p:Ps)(f:p.1<ts.length)(d:p.2.length<=256):
 ∃o,xC N (gR ts pr p) 1=some o/\iW ts pr (eK ts pr 32 p) o:=qCr a e b c 32 N aa aa p f d
theorem RM(a:1<=N)(z:cG)(i:Nat)(pr':List BA)(b:List Ex)(c:z.2≠0)(hi:i<ts.length):∃v,xC N (bR ts z i pr' b) 1=some (bR ts z i pr' b,v):=SP N a 1 z i pr' b c hi
abbrev RL:=List cA×Int×Int×Int×List BA×List Ex×List Int×List BA
def bW(st:RT)(l:List BA):RL:=(st.1,st.2.1,st.2.2.1,st.2.2.2.1,st.2.2.2.2.1,st.2.2.2.2.2.1,st.2.2.2.2.2.2,l)
def II(ts:List cA)(n:Nat)(l:List BA)(i:Nat):cG⊕(Nat×List BA):=
 if cB ts 4 qI i then tO ts n l (i+1) else bI (dU ts lR i) fun j=> .inr (j,l)
theorem qMd(n:Nat)(l:List BA)(i:Nat):tO ts (n+1) l i=bI (mD ts i) fun a=>if l.length=8 then eG a.2 2 else if a.2.2.1∈l then eG a.2 10 else II ts n (l++[a.2.2.1]) a.1:=rfl
def EH(ts:List cA)(pr:List BA)(b:List Ex)(r:cG⊕(Nat×List BA))(o:RL):Prop:=
 match r with
 | .inl z=>∃st l,sZ ts z st/\o=bW st l
 | .inr q=>o=bW (gR ts pr (q.1,b)) q.2
theorem HD{z:cG}{i:Nat}{pr':List BA}{b:List Ex}(a:z.2≠0)(M:Nat)(l:List BA):aK (oE N) (M+1) (bW (bR ts z i pr' b) l)=some (bW (bR ts z i pr' b) l):=by
 have hz':((bW (bR ts z i pr' b) l).2.2.2.1==0)=false:=by simpa[bR,bW] using a
 simp only[aK,oE,hz',j9,jD,j0]
theorem YT(A:ts.length<1000000)(E:1000002<N){i:Nat}{b:List Ex}{l:List BA}(hi:i<ts.length)(D:l.length<=8){G:RL->Option RL}{n:Nat}
  (f:∀(z:cG) (i:Nat) (pr':List BA) (b:List Ex) (l:List BA),z.2≠0->G (bW (bR ts z i pr' b) l)=some (bW (bR ts z i pr' b) l))
  (u:OkT ts)
  (B:∀(s:BA),i+1<ts.length->l.length<8->∃o,G (bW (gR ts pr (i+1,b)) (l++[s]))=some o/\EH ts pr b (II ts n (l++[s]) (i+1)) o):
  ∃o,((iQ N (gR ts pr (i,b))).bind fun k=>(nX N k.1).bind fun d=>(if((l.length:Int)==8)=true then((iX N d.1 k.2.2.2.2 2).bind fun v=>some v) else(some d.1):Option RT).bind fun r=>(rY N l d.2).bind fun p=>(if p=true then((iX N r k.2.2.2.2 10).bind fun y=>some y) else(some r):Option RT).bind fun h=>(eQ 16 l ([d.2])).bind fun t=>G (bW h t))=some o/\
   EH ts pr b (tO ts (n+1) l i) o:=by
 rw[qMd]
 simp only[mA (i,b) hi,j0,DL (i,b) hi A (by omega:100<N),qE]
 have c:∀s:BA,eQ 16 l [s]=some (l++[s]):=fun s=>lB (by simp only[jA,jB];omega) aa
 have g:∀s,rY N l s=some (decide (s∈l)):=fun s=>UV aa aa
 -- behind an error
 have q:∀(z:cG) (i:Nat) (pr':List BA) (b':List Ex) (s:BA) (a:Int),z.2≠0->i<ts.length->∃o,((rY N l s).bind fun p=>(if p=true then iX N (bR ts z i pr' b') a 10 else(some (bR ts z i pr' b')):Option RT).bind fun h=>(eQ 16 l ([s])).bind fun t=>G (bW h t))=some o/\EH ts pr b (.inl z) o:=by
  intro z i pr' b' s a e hi
  simp only[g,j0,sF e]
  have:((if decide (s∈l)=true then some (bR ts z i pr' b') else some (bR ts z i pr' b')):Option RT)=some (bR ts z i pr' b'):=by split<;>rfl
  simp only[this,j0,c,f _ _ _ _ _ e]
  exact⟨_,rfl,bR ts z i pr' b',_,⟨e,i,pr',b',hi,rfl⟩,rfl⟩
 cases hx:mD ts i with
 |inl z=>
  have e:=NQ hx
  have:((if((l.length:Int)==8)=true then iX N (bR ts z i pr b) (aM ts i).2.2.2 2 else some (bR ts z i pr b)):Option RT)=some (bR ts z i pr b):=by
   rw[sF e];split<;>rfl
  simp only[this,j0,bI]
  exact q z i pr b _ _ e hi
 |inr x=>
  obtain⟨rfl,e,-⟩:=sS u hi hx
  simp only[bI]
  by_cases k1:l.length=8
  .have k1':((l.length:Int)==8)=true:=by simp;omega
   rw[if_pos k1]
   simp only[k1',jE,oO,j0,eG]
   exact q _ _ _ _ _ _ (show(2:Int)≠0 by decide) e
  have k1':((l.length:Int)==8)=false:=by simp;omega
  rw[if_neg k1]
  simp only[k1',j9,jD,j0,g]
  by_cases k2:(aM ts i).2.1∈l
  .rw[if_pos k2]
   simp only[jL k2,jE,oO,j0,c,eG]
   refine⟨_,f _ _ _ _ _ (show(10:Int)≠0 by decide),bR ts ((aM ts i).2.2.2,10) (i+1) pr b,_,⟨show(10:Int)≠0 by decide,i+1,pr,b,e,rfl⟩,rfl⟩
  rw[if_neg k2]
  simp only[jR k2,j9,jD,j0,c]
  exact B _ e aa
theorem qJv(x:1000002<N){b:List Ex}{l:List BA}(v:l.length<=8){G:RL->Option RL}
  (g:∀(z:cG) (i:Nat) (pr':List BA) (b:List Ex) (l:List BA),z.2≠0->G (bW (bR ts z i pr' b) l)=some (bW (bR ts z i pr' b) l))
  {z:cG} {i:Nat} {pr':List BA} {b':List Ex} (d:z.2≠0) (hi:i<ts.length):
  ∃o,((iQ N (bR ts z i pr' b')).bind fun c=>(nX N c.1).bind fun a=>(if((l.length:Int)==8)=true then((iX N a.1 c.2.2.2.2 2).bind fun n=>some n) else(some a.1):Option RT).bind fun e=>(rY N l a.2).bind fun p=>(if p=true then((iX N e c.2.2.2.2 10).bind fun q=>some q) else(some e):Option RT).bind fun k=>(eQ 16 l ([a.2])).bind fun u=>G (bW k u))=some o/\
   EH ts pr b (.inl z) o:=by
 have f:∀s:BA,eQ 16 l [s]=some (l++[s]):=fun s=>lB (by simp only[jA,jB];omega) aa
 have h:∀s,rY N l s=some (decide (s∈l)):=fun s=>UV aa aa
 have r:((if((l.length:Int)==8)=true then some (bR ts z i pr' b') else some (bR ts z i pr' b')):Option RT)=some (bR ts z i pr' b'):=by split<;>rfl
 have t:((if decide ((⟨#[]⟩:BA)∈l)=true then some (bR ts z i pr' b') else some (bR ts z i pr' b')):Option RT)=some (bR ts z i pr' b'):=by split<;>rfl
 simp only[rL hi,j0,NM d hi,qE,sF d,r,h,t,f,g _ _ _ _ _ d]
 exact⟨_,rfl,bR ts z i pr' b',_,⟨d,i,pr',b',hi,rfl⟩,rfl⟩
theorem WY(d:OkT ts)(e:ts.length<1000000)(k:1000002<N){b:List Ex}:∀(n M:Nat) (l:List BA) (i:Nat),l≠[]->i<ts.length->l.length<=8->ts.length<i+n->ts.length+2<i+M->
  ∃o,aK (oE N) M (bW (gR ts pr (i,b)) l)=some o/\EH ts pr b (II ts n l i) o
 |0,M,l,i,_,hi,_,h,_=>by omega
 |n+1,0,l,i,_,hi,_,_,h=>by omega
 |n+1,M+1,l,i,v,hi,f,H,F=>by
  have D:=pB (N:=N) (pr:=pr) (i,b) hi e ⟨#[41]⟩
  have q:decide ((l.length:Int)>0)=true:=by
   have:=fK.2 v
   exact jL aa
  have A:((bW (gR ts pr (i,b)) l).2.2.2.1==0)=true:=rfl
  have x:∀st:RT,∀l,((bW st l).1,(bW st l).2.1,(bW st l).2.2.1,(bW st l).2.2.2.1,(bW st l).2.2.2.2.1,(bW st l).2.2.2.2.2.1,(bW st l).2.2.2.2.2.2.1)=st:=fun _ _=>rfl
  have y:∀st:RT,∀l,(bW st l).2.2.2.2.2.2.2=l:=fun _ _=>rfl
  simp only[aK,oE,A,jE,x,y,D,j0,q]
  rcases eI (cB ts 4 ⟨#[41]⟩ i) with a|a
  .simp only[a,jE,kJ,j9,jD]
   refine⟨_,rfl,?_⟩
   have c:cB ts 4 qI i=false:=by
    simp only[cB,jK,j6] at a
    simp[cB,a.2,qI]
   have p:dU ts lR i= .inr (i+1):=by simp[dU,lR,a]
   simp only[II,c,j9,jD,p,bI]
   rfl
  have u:cB ts 4 qI i=cB ts 4 ⟨#[44]⟩ i:=rfl
  simp only[a,j9,jD,kA,jE,Prod.eta,sE (i,b) hi e,j0,II,u,dU]
  rcases eI (cB ts 4 ⟨#[44]⟩ i) with c|c
  .have g:=lY d hi ac c
   simp only[c,jE]
   obtain⟨o,p,r⟩:=YT (N:=N) (pr:=pr) (b:=b) (l:=l) (n:=n) (G:=aK (oE N) M) e k g f (fun z i pr' b l t=>by
    obtain⟨M',rfl⟩:∃M',M=M'+1:=⟨M-1,by omega⟩
    exact HD t M' l) d (fun s B E=>WY d e k n M (l++[s]) (i+1+1) ad B (by simp only[jF,jA,jB];omega) aa aa)
   refine⟨o,Eq.trans ?_ p,r⟩
   simp only[gT,j0]
   rfl
  have c1':cB ts 4 lR i=false:=a
  simp only[c,c1',j9,jD,eG,bI]
  obtain⟨o,p,r⟩:=qJv (N:=N) (pr:=pr) (b:=b) (l:=l) (z:=((aM ts i).2.2.2,9)) (i:=i) (pr':=pr) (b':=b) (G:=aK (oE N) M) k f (fun z i pr' b l t=>by
   obtain⟨M',rfl⟩:∃M',M=M'+1:=⟨M-1,by omega⟩
   exact HD t M' l) (show(9:Int)≠0 by decide) hi
  refine⟨o,Eq.trans ?_ p,r⟩
  simp only[gT,j0]
  rfl
theorem qRc(a:OkT ts)(d:ts.length<1000000)(x:1000005<N){b:List Ex}(i:Nat)(hi:i<ts.length):
  ∃o,aK (oE N) N (bW (gR ts pr (i,b)) [])=some o/\EH ts pr b (if cB ts 4 lR i then .inr (i+1,[]) else tO ts (ts.length+1) [] i) o:=by
 obtain⟨M,hM⟩:∃M,N=M+1:=⟨N-1,by omega⟩
 have t:=pB (N:=N) (pr:=pr) (i,b) hi d ⟨#[41]⟩
 have k:((bW (gR ts pr (i,b)) []).2.2.2.1==0)=true:=rfl
 have e:decide ((([]:List BA).length:Int)>0)=false:=rfl
 have g:∀st:RT,∀l,((bW st l).1,(bW st l).2.1,(bW st l).2.2.1,(bW st l).2.2.2.1,(bW st l).2.2.2.2.1,(bW st l).2.2.2.2.2.1,(bW st l).2.2.2.2.2.2.1)=st:=fun _ _=>rfl
 have h:∀st:RT,∀l,(bW st l).2.2.2.2.2.2.2=l:=fun _ _=>rfl
 have f:aK (oE N) N (bW (gR ts pr (i,b)) [])=aK (oE N) (M+1) (bW (gR ts pr (i,b)) []):=by rw[<-hM]
 rw[f]
 simp only[aK,oE,k,jE,g,h,t,j0,e,lR]
 rcases eI (cB ts 4 ⟨#[41]⟩ i) with c|c
 .simp only[c,jE,kJ,j9,jD]
  exact⟨_,rfl,rfl⟩
 simp only[c,j9,jD,kA,jE,Prod.eta,j0]
 obtain⟨o,q,r⟩:=YT (N:=N) (pr:=pr) (b:=b) (l:=[]) (n:=ts.length) (G:=aK (oE N) M) d aa hi ad (fun z i pr' b l u=>by
  obtain⟨M',rfl⟩:∃M',M=M'+1:=⟨M-1,by omega⟩
  exact HD u M' l) a (fun s p v=>WY a d aa ts.length M ([]++[s]) (i+1) ad p ad aa aa)
 refine⟨o,Eq.trans ?_ q,r⟩
 simp only[gT,j0]
 rfl
end
section
variable {N:Nat} {ts:List cA} {pr:List BA}
def IZ(ts:List cA)(r:cG⊕(Nat×Dl))(o:RT×Dl):Prop:=
 match r with
 | .inl z=>sZ ts z o.1
 | .inr a=>o=(gR ts a.2.2.2.1 (a.1,a.2.2.2.2),a.2)
def uQ(N:Nat)(st:RT)(k:Int)(nm:BA):Option (RT×Dl):=
 ((if(k==1)=true then((iO N st (⟨#[40]⟩:BA)).bind fun a=>aK (oE N) N (bW a [])) else(some (bW st [])):Option RL)).bind fun a=>
 (iO N (a.1,a.2.1,a.2.2.1,a.2.2.2.1,a.2.2.2.2.2.2.2,a.2.2.2.2.2.1,a.2.2.2.2.2.2.1) (⟨#[61]⟩:BA)).bind fun b=>
 (xC N b 1).bind fun b=>(iO N b.1 (⟨#[59]⟩:BA)).bind fun b=>some (b,(k,nm,a.2.2.2.2.2.2.2,b.2.2.2.2.2.1))
theorem RV(h:1000005<N){z:cG}{i:Nat}{b:List Ex}(a:z.2≠0)(hi:i<ts.length)(k:Int)(nm:BA):∃o,uQ N (bR ts z i pr b) k nm=some o/\sZ ts z o.1:=by
 have tail:∀(i:Nat) (pr:List BA) (b:List Ex) (l:List BA),i<ts.length->∃o,((iO N ((bW (bR ts z i pr b) l).1,(bW (bR ts z i pr b) l).2.1,(bW (bR ts z i pr b) l).2.2.1,(bW (bR ts z i pr b) l).2.2.2.1,(bW (bR ts z i pr b) l).2.2.2.2.2.2.2,(bW (bR ts z i pr b) l).2.2.2.2.2.1,(bW (bR ts z i pr b) l).2.2.2.2.2.2.1) (⟨#[61]⟩:BA)).bind fun f=>
   (xC N f 1).bind fun g=>(iO N g.1 (⟨#[59]⟩:BA)).bind fun d=>some (d,(k,nm,(bW (bR ts z i pr b) l).2.2.2.2.2.2.2,d.2.2.2.2.2.1)))=some o/\sZ ts z o.1:=by
  intro i pr b l hi
  have e:((bW (bR ts z i pr b) l).1,(bW (bR ts z i pr b) l).2.1,(bW (bR ts z i pr b) l).2.2.1,(bW (bR ts z i pr b) l).2.2.2.1,(bW (bR ts z i pr b) l).2.2.2.2.2.2.2,(bW (bR ts z i pr b) l).2.2.2.2.2.1,(bW (bR ts z i pr b) l).2.2.2.2.2.2.1)=bR ts z i l b:=rfl
  obtain⟨v,d⟩:=RM (N:=N) aa z i l b a hi
  simp only[e,rJ a hi,j0,d]
  exact⟨_,rfl,a,i,l,b,hi,rfl⟩
 obtain⟨M,hM⟩:∃M,N=M+1:=⟨N-1,by omega⟩
 have g:aK (oE N) N (bW (bR ts z i pr b) [])=some (bW (bR ts z i pr b) []):=by
  have d:aK (oE N) N (bW (bR ts z i pr b) [])=aK (oE N) (M+1) (bW (bR ts z i pr b) []):=by rw[<-hM]
  rw[d];exact HD a M []
 unfold uQ
 rcases eI (k==1) with c|c
 .simp only[c,jE,rJ a hi,j0,g]
  exact tail i pr b [] hi
 simp only[c,j9,jD,j0]
 exact tail i pr b [] hi
theorem qNe(d:OkT ts)(h:ts.length<1000000)(x:1000005<N)(i:Nat)(hi:i<ts.length)(k:Int)(nm:BA):∃o,uQ N (gR ts pr (i,[])) k nm=some o/\
  IZ ts (bI (if k=1 then rZ ts i else .inr (i,[])) fun bq=>bI (dU ts yH bq.1) fun j=>bI (eK ts bq.2 32 (j,[])) fun c=>bI (dU ts rM c.1.1) fun m=> .inr (m,(k,nm,bq.2,c.1.2))) o:=by
 have badt:∀(z:cG) (st:RT) (l:List BA),sZ ts z st->∃o,((iO N ((bW st l).1,(bW st l).2.1,(bW st l).2.2.1,(bW st l).2.2.2.1,(bW st l).2.2.2.2.2.2.2,(bW st l).2.2.2.2.2.1,(bW st l).2.2.2.2.2.2.1) (⟨#[61]⟩:BA)).bind fun n=>
   (xC N n 1).bind fun g=>(iO N g.1 (⟨#[59]⟩:BA)).bind fun f=>some (f,(k,nm,(bW st l).2.2.2.2.2.2.2,f.2.2.2.2.2.1)))=some o/\sZ ts z o.1:=by
  rintro z st l ⟨a,i,pr,b,hi,rfl⟩
  have e:((bW (bR ts z i pr b) l).1,(bW (bR ts z i pr b) l).2.1,(bW (bR ts z i pr b) l).2.2.1,(bW (bR ts z i pr b) l).2.2.2.1,(bW (bR ts z i pr b) l).2.2.2.2.2.2.2,(bW (bR ts z i pr b) l).2.2.2.2.2.1,(bW (bR ts z i pr b) l).2.2.2.2.2.2.1)=bR ts z i l b:=rfl
  obtain⟨v,p⟩:=RM (N:=N) aa z i l b a hi
  simp only[e,rJ a hi,j0,p]
  exact⟨_,rfl,a,i,l,b,hi,rfl⟩
 have goodt:∀(q:Nat×List BA),q.1<ts.length->q.2.length<=8->∃o,((iO N ((bW (gR ts pr (q.1,[])) q.2).1,(bW (gR ts pr (q.1,[])) q.2).2.1,(bW (gR ts pr (q.1,[])) q.2).2.2.1,(bW (gR ts pr (q.1,[])) q.2).2.2.2.1,(bW (gR ts pr (q.1,[])) q.2).2.2.2.2.2.2.2,(bW (gR ts pr (q.1,[])) q.2).2.2.2.2.2.1,(bW (gR ts pr (q.1,[])) q.2).2.2.2.2.2.2.1) (⟨#[61]⟩:BA)).bind fun n=>
   (xC N n 1).bind fun g=>(iO N g.1 (⟨#[59]⟩:BA)).bind fun f=>some (f,(k,nm,(bW (gR ts pr (q.1,[])) q.2).2.2.2.2.2.2.2,f.2.2.2.2.2.1)))=some o/\
   IZ ts (bI (dU ts yH q.1) fun j=>bI (eK ts q.2 32 (j,[])) fun c=>bI (dU ts rM c.1.1) fun m=> .inr (m,(k,nm,q.2,c.1.2))) o:=by
  intro q g A
  have e:((bW (gR ts pr (q.1,[])) q.2).1,(bW (gR ts pr (q.1,[])) q.2).2.1,(bW (gR ts pr (q.1,[])) q.2).2.2.1,(bW (gR ts pr (q.1,[])) q.2).2.2.2.1,(bW (gR ts pr (q.1,[])) q.2).2.2.2.2.2.2.2,(bW (gR ts pr (q.1,[])) q.2).2.2.2.2.2.1,(bW (gR ts pr (q.1,[])) q.2).2.2.2.2.2.2.1)=gR ts q.2 (q.1,[]):=rfl
  have u:(bW (gR ts pr (q.1,[])) q.2).2.2.2.2.2.2.2=q.2:=rfl
  rw[e]
  simp only[u,sE (q.1,[]) g h,j0,yH]
  cases hj:dU ts ⟨#[61]⟩ q.1 with
  |inl z=>
   have a:=qX hj
   obtain⟨v,p⟩:=RM (N:=N) aa z q.1 q.2 [] a g
   simp only[p,j0,rJ a g,bI]
   exact⟨_,rfl,a,q.1,q.2,[],g,rfl⟩
  |inr j=>
   obtain⟨rfl,r,-⟩:=lZ d g hj
   obtain⟨o,s,f⟩:=qPw (N:=N) (pr:=q.2) d h aa aa (q.1+1,[]) r ad
   simp only[s,j0,bI]
   cases hc:eK ts q.2 32 (q.1+1,[]) with
   |inl z=>
    rw[hc] at f
    obtain⟨a,i,pr',b,hi,p⟩:=f
    simp only[p,rJ a hi,j0]
    exact⟨_,rfl,a,i,pr',b,hi,rfl⟩
   |inr c=>
    rw[hc] at f
    obtain⟨⟨B,p,t,D⟩,-⟩:=wD d 32 (q.1+1,[]) c.1 c.2 r ad hc
    have hr':o=(gR ts q.2 c.1,(c.2:Int)):=f
    simp only[hr',sE c.1 p h,j0,rM]
    cases y:dU ts ⟨#[59]⟩ c.1.1 with
    |inl z=>exact⟨_,rfl,qX y,c.1.1,q.2,c.1.2,p,rfl⟩
    |inr m=>exact⟨_,rfl,rfl⟩
 unfold uQ
 by_cases c:k=1
 .have c':(k==1)=true:=by simpa using c
  simp only[c',jE,sE (i,[]) hi h,j0,if_pos c,rZ,oI]
  cases h1:dU ts ⟨#[40]⟩ i with
  |inl z=>
   have a:=qX h1
   obtain⟨M,hM⟩:∃M,N=M+1:=⟨N-1,by omega⟩
   have u:aK (oE N) N (bW (bR ts z i pr []) [])=some (bW (bR ts z i pr []) []):=by
    have r:aK (oE N) N (bW (bR ts z i pr []) [])=aK (oE N) (M+1) (bW (bR ts z i pr []) []):=by rw[<-hM]
    rw[r];exact HD a M []
   simp only[u,j0,bI]
   exact badt z _ [] ⟨a,i,pr,[],hi,rfl⟩
  |inr j=>
   obtain⟨rfl,a,-⟩:=lZ d hi h1
   obtain⟨o,s,f⟩:=qRc (N:=N) (pr:=pr) (b:=[]) d h x (i+1) a
   simp only[s,j0,bI]
   cases hP:(if cB ts 4 lR (i+1)=true then .inr (i+1+1,[]) else tO ts (ts.length+1) [] (i+1):cG⊕(Nat×List BA)) with
   |inl z=>
    rw[hP] at f
    obtain⟨st,l,r,rfl⟩:=f
    exact badt z st l r
   |inr q=>
    rw[hP] at f
    have hr':o=bW (gR ts pr (q.1,[])) q.2:=f
    have g:q.1<ts.length/\q.2.length<=8:=by
     split at hP
     .rename_i hc
      obtain rfl:=Sum.inr.inj hP
      exact⟨lY d a ac hc,by simp⟩
     obtain⟨_,p,t⟩:=QT d _ _ _ q a ad hP
     exact⟨p,t⟩
    rw[hr']
    exact goodt q g.1 g.2
 have c':(k==1)=false:=by simpa using c
 simp only[c',j9,jD,j0,if_neg c]
 exact goodt (i,[]) hi ad
def HQ(N:Nat)(f:Sr)(t:cA)(st:RT)(k:Int):Option (RT×Dl):=
 ((if((List.length f.2.2:Int)==64)=true then iX N st t.2.2.2 2 else some st):Option RT).bind fun o2=>(iQ N o2).bind fun b=>
 ((if(k==3)=true then qT N b.1 true else nX N b.1):Option (RT×BA)).bind fun a=>
 ((if(a.1.2.2.2.1==0)=true then yY N f k a.2 else some false):Option Bool).bind fun o4=>
 ((if o4=true then iX N a.1 b.2.2.2.2 10 else some a.1):Option RT).bind fun b=>uQ N b k a.2
theorem qLy(g:1000005<N){f:Sr}{t:cA}{z:cG}{i:Nat}{b:List Ex}(c:z.2≠0)(hi:i<ts.length)(k:Int):∃o,
  ((iQ N (bR ts z i pr b)).bind fun d=>((if(k==3)=true then qT N d.1 true else nX N d.1):Option (RT×BA)).bind fun a=>
   ((if(a.1.2.2.2.1==0)=true then yY N f k a.2 else some false):Option Bool).bind fun o4=>
   ((if o4=true then iX N a.1 d.2.2.2.2 10 else some a.1):Option RT).bind fun h=>uQ N h k a.2)=some o/\sZ ts z o.1:=by
 have hz':((bR ts z i pr b).2.2.2.1==0)=false:=by simpa[bR] using c
 have e:((if(k==3)=true then qT N (bR ts z i pr b) true else nX N (bR ts z i pr b)):Option (RT×BA))=some (bR ts z i pr b,⟨#[]⟩):=by
  rw[TP c hi,NM c hi];split<;>rfl
 simp only[rL hi,j0,e,hz',j9,jD]
 exact RV g c hi k _
theorem qKx(h:OkT ts)(p:ts.length<1000000)(n:1000005<N){f:Sr}(r:f.2.2.length<=64)(t:cA)(i:Nat)(hi:i<ts.length)(k:Int):∃o,HQ N f t (gR ts pr (i,[])) k=some o/\
  IZ ts (if f.2.2.length=64 then eG t 2 else bI (if k=3 then nH ts i else mD ts i) fun a=>
   if f.2.2.any (fun d=>d.1==k&&decide (d.2.1=a.2.2.1)) then eG a.2 10
   else bI (if k=1 then rZ ts a.1 else .inr (a.1,[])) fun b=>
    bI (dU ts yH b.1) fun j=>bI (eK ts b.2 32 (j,[])) fun c=>
    bI (dU ts rM c.1.1) fun m=> .inr (m,(k,a.2.2.1,b.2,c.1.2))) o:=by
 unfold HQ
 by_cases k1:f.2.2.length=64
 .have k1':((f.2.2.length:Int)==64)=true:=by simp;omega
  rw[if_pos k1]
  simp only[k1',jE,oO,j0,eG]
  exact qLy (t:=t) n (show(2:Int)≠0 by decide) hi k
 have k1':((f.2.2.length:Int)==64)=false:=by simp;omega
 rw[if_neg k1]
 simp only[k1',j9,jD,j0,mA (i,[]) hi]
 have e:((if(k==3)=true then qT N (gR ts pr (i,[])) true else nX N (gR ts pr (i,[]))):Option (RT×BA))=
   some (match(if k=3 then nH ts i else mD ts i) with| .inl z=>(bR ts z i pr [],⟨#[]⟩)| .inr a=>(gR ts pr (a.1,[]),a.2.2.1)):=by
  by_cases k3:k=3
  .have k3':(k==3)=true:=by simpa using k3
   rw[if_pos k3',if_pos k3,TC (i,[]) hi p aa]<;>rfl
  have k3':(k==3)=false:=by simpa using k3
  rw[if_neg (by rw[k3'];decide),if_neg k3,DL (i,[]) hi p aa]<;>rfl
 rw[e]
 simp only[j0]
 cases hX:(if k=3 then nH ts i else mD ts i) with
 |inl z=>
  have g:z.2≠0:=by
   split at hX
   .exact NP hX
   exact NQ hX
  have hz':((bR ts z i pr []).2.2.2.1==0)=false:=by simpa[bR] using g
  simp only[hz',j9,jD,j0,bI]
  exact RV n g hi k _
 |inr a=>
  have ga:a=(i+1,aM ts i)/\i+1<ts.length:=by
   split at hX
   .obtain⟨e,g,-⟩:=tM h hi hX;exact⟨e,g⟩
   obtain⟨e,g,-⟩:=sS h hi hX;exact⟨e,g⟩
  obtain⟨rfl,g⟩:=ga
  have q:((gR ts pr (i+1,[])).2.2.2.1==0)=true:=rfl
  simp only[q,jE,qSp (N:=N) (f:=f) (k:=k) (s:=(aM ts i).2.1) aa aa,j0]
  rw[show bI (Sum.inr (i+1,aM ts i)) (fun a:Nat×cA=>if f.2.2.any (fun d=>d.1==k&&decide (d.2.1=a.2.2.1))=true then eG a.2 10
   else bI (if k=1 then rZ ts a.1 else .inr (a.1,[])) fun b=>
    bI (dU ts yH b.1) fun j=>bI (eK ts b.2 32 (j,[])) fun c=>
    bI (dU ts rM c.1.1) fun m=>(.inr (m,(k,a.2.2.1,b.2,c.1.2)):cG⊕(Nat×Dl)))=(if f.2.2.any (fun d=>d.1==k&&decide (d.2.1=(aM ts i).2.1))=true then eG (aM ts i) 10
   else bI (if k=1 then rZ ts (i+1) else .inr (i+1,[])) fun b=>
    bI (dU ts yH b.1) fun j=>bI (eK ts b.2 32 (j,[])) fun c=>
    bI (dU ts rM c.1.1) fun m=>(.inr (m,(k,(aM ts i).2.1,b.2,c.1.2)):cG⊕(Nat×Dl))) from rfl]
  rcases eI (f.2.2.any fun d=>d.1==k&&decide (d.2.1=(aM ts i).2.1)) with l|l
  .rw[if_pos l]
   simp only[l,jE,oO,j0,eG]
   exact RV n (show(10:Int)≠0 by decide) g k _
  rw[if_neg (by rw[l];decide)]
  simp only[l,j9,jD,j0]
  exact qNe h p n (i+1) g k _
end
section
variable {N:Nat} {ts:List cA} {pr:List BA}
abbrev RN:=List cA×Int×Int×Int×List BA×List Ex×List Int×BA
def qEx(st:RT)(l:BA):RN:=(st.1,st.2.1,st.2.2.1,st.2.2.2.1,st.2.2.2.2.1,st.2.2.2.2.2.1,st.2.2.2.2.2.2,l)
theorem qTx(r:OkT ts)(p:ts.length<1000000)(B:1000005<N){f:Sr}(D:f.2.2.length<=64)(i:Nat)(b:List Ex)(hi:i<ts.length):∃o,KL N (gR ts pr (i,b)) f=some o/\IZ ts (oH ts f.2.2 i) o:=by
 have A:((gR ts pr (i,b)).1,(gR ts pr (i,b)).2.1,(gR ts pr (i,b)).2.2.1,(gR ts pr (i,b)).2.2.2.1,([]:List BA),([]:List Ex),(gR ts pr (i,b)).2.2.2.2.2.2)=gR ts [] (i,[]):=rfl
 have rest:∀(st:RT) (k:Int),(((if((List.length f.2.2:Int)==64)=true then((iX N st (aM ts i).2.2.2 2).bind fun F=>some F) else(some st)):Option RT).bind fun o2=>(iQ N o2).bind fun q=>((if(k==3)=true then((qT N q.1 true).bind fun y=>some (qEx y.1 y.2)) else((nX N q.1).bind fun z=>some (qEx z.1 z.2))):Option RN).bind fun a=>((if(a.2.2.2.1==0)=true then((yY N f k a.2.2.2.2.2.2.2).bind fun v=>some v) else(some false)):Option Bool).bind fun o4=>((if o4=true then((iX N (a.1,a.2.1,a.2.2.1,a.2.2.2.1,a.2.2.2.2.1,a.2.2.2.2.2.1,a.2.2.2.2.2.2.1) q.2.2.2.2 10).bind fun x=>some x) else(some (a.1,a.2.1,a.2.2.1,a.2.2.2.1,a.2.2.2.2.1,a.2.2.2.2.2.1,a.2.2.2.2.2.2.1))):Option RT).bind fun E=>uQ N E k a.2.2.2.2.2.2.2)=HQ N f (aM ts i) st k:=by
  intro st k
  unfold HQ
  simp only[qE]
  refine congrArg _ (funext fun o2=>congrArg _ (funext fun q=> ?_))
  rcases eI (k==3) with c|c<;>simp only[c,jE,j9,jD,gT,j0]<;>rfl
 have fin:∀(k:Int),k≠0->mC (aM ts i).2.1=k->(aM ts i).1=1->∃o,HQ N f (aM ts i) (gR ts [] (i+1,[])) k=some o/\IZ ts (oH ts f.2.2 i) o:=by
  intro k u t d
  have g:=r.next hi (show(aM ts i).1≠5 by rw[d];decide)
  obtain⟨o,e,l⟩:=qKx (N:=N) (pr:=[]) r p B D (aM ts i) (i+1) g k
  refine⟨o,e,?_⟩
  unfold oH
  dsimp only
  rw[t,if_neg (by rintro(h|h);exact h d;exact u h)]
  exact l
 simp only[KL,A,mA (i,[]) hi,j0,Prod.eta,qZ (i,[]) hi p]
 by_cases d:(aM ts i).1=1
 .have n:∀s,cB ts 1 s i=decide ((aM ts i).2.1=s):=fun s=>qBf d
  simp only[n]
  by_cases w1:(aM ts i).2.1=(⟨#[102,117,110,99]⟩:BA)
  .simp only[jL w1,jE,j0]
   obtain⟨o,e,l⟩:=fin 1 ac (by rw[w1];rfl) d
   refine⟨o,Eq.trans ?_ e,l⟩
   refine Eq.trans ?_ (rest (gR ts [] (i+1,[])) 1)
   simp only[qE,uQ]
   rfl
  simp only[jR w1,j9,jD,j0,qZ (i,[]) hi p,n,Prod.eta]
  by_cases w2:(aM ts i).2.1=(⟨#[116,101,115,116]⟩:BA)
  .simp only[jL w2,jE,j0]
   obtain⟨o,e,l⟩:=fin 2 ac (by rw[w2];rfl) d
   refine⟨o,Eq.trans ?_ e,l⟩
   refine Eq.trans ?_ (rest (gR ts [] (i+1,[])) 2)
   simp only[qE,uQ]
   rfl
  simp only[jR w2,j9,jD,j0,qZ (i,[]) hi p,n,Prod.eta]
  by_cases w3:(aM ts i).2.1=(⟨#[103,101,110]⟩:BA)
  .simp only[jL w3,jE,j0]
   obtain⟨o,e,l⟩:=fin 3 ac (by rw[w3];rfl) d
   refine⟨o,Eq.trans ?_ e,l⟩
   refine Eq.trans ?_ (rest (gR ts [] (i+1,[])) 3)
   simp only[qE,uQ]
   rfl
  simp only[jR w3,j9,jD,j0,oO,Prod.eta]
  refine⟨_,rfl,?_⟩
  have t:mC (aM ts i).2.1=0:=by
   unfold mC
   rw[if_neg (show ¬(aM ts i).2.1=IU from w1),if_neg (show ¬(aM ts i).2.1=IV from w2),if_neg (show ¬(aM ts i).2.1=JB from w3)]
  unfold oH
  dsimp only
  rw[if_pos (.inr t)]
  exact⟨show(9:Int)≠0 by decide,i,[],[],hi,rfl⟩
 have n:∀s,cB ts 1 s i=false:=fun s=>qEh d
 simp only[n,j9,jD,j0,qZ (i,[]) hi p,oO,Prod.eta]
 refine⟨_,rfl,?_⟩
 unfold oH
 dsimp only
 rw[if_pos (.inl d)]
 exact⟨show(9:Int)≠0 by decide,i,[],[],hi,rfl⟩
def UR(ts:List cA)(pr:List BA)(b:List Ex)(r:cG⊕(Nat×List BA))(o:RL):Prop:=
 match r with
 | .inl z=>∃st l,sZ ts z st/\o=bW st l
 | .inr q=>o=bW (gR ts pr (q.1,b)) q.2
theorem XD{y5:RT×BA}{z:cG}{i:Nat}{pr':List BA}{b:List Ex}(a:z.2≠0)(M:Nat)(l:List BA):aK (qG N y5) (M+1) (bW (bR ts z i pr' b) l)=some (bW (bR ts z i pr' b) l):=by
 have hz':((bW (bR ts z i pr' b) l).2.2.2.1==0)=false:=by simpa[bR,bW] using a
 simp only[aK,qG,hz',j9,jD,j0]
theorem WL(k:OkT ts)(v:ts.length<1000000)(H:1000005<N){y5:RT×BA}{b:List Ex}:∀(n M:Nat) (l:List BA) (i:Nat),i<ts.length->l.length<=8->ts.length<i+n->ts.length+2<i+M->
  ∃o,aK (qG N y5) M (bW (gR ts pr (i,b)) l)=some o/\UR ts pr b (qV ts y5.2 n l i) o
 |0,M,l,i,hi,_,h,_=>by omega
 |n+1,0,l,i,hi,_,_,h=>by omega
 |n+1,M+1,l,i,hi,R,U,S=>by
  have G:((bW (gR ts pr (i,b)) l).2.2.2.1==0)=true:=rfl
  have E:∀st:RT,∀l,((bW st l).1,(bW st l).2.1,(bW st l).2.2.1,(bW st l).2.2.2.1,(bW st l).2.2.2.2.1,(bW st l).2.2.2.2.2.1,(bW st l).2.2.2.2.2.2.1)=st:=fun _ _=>rfl
  have F:∀st:RT,∀l,(bW st l).2.2.2.2.2.2.2=l:=fun _ _=>rfl
  have e:∀s:BA,eQ 16 l [s]=some (l++[s]):=fun s=>lB (by simp only[jA,jB];omega) aa
  have u:∀s,rY N l s=some (decide (s∈l)):=fun s=>UV aa aa
  have bad:∀(z:cG) (i:Nat) (pr':List BA) (b':List Ex) (l:List BA),z.2≠0->i<ts.length->∃o,aK (qG N y5) M (bW (bR ts z i pr' b') l)=some o/\UR ts pr b (.inl z) o:=by
   intro z i pr' b' l c hi
   obtain⟨M',rfl⟩:∃M',M=M'+1:=⟨M-1,by omega⟩
   exact⟨_,XD c M' l,_,_,⟨c,i,pr',b',hi,rfl⟩,rfl⟩
  -- from the import's name on, behind an error
  have badn:∀(z:cG) (i:Nat) (pr':List BA) (b':List Ex),z.2≠0->i<ts.length->∃o,((iQ N (bR ts z i pr' b')).bind fun f=>(nX N f.1).bind fun a=>((if(a.1.2.2.2.1==0)=true then(if(a.2.toList==y5.2.toList)=true then(some true) else(rY N l a.2)) else(some false)):Option Bool).bind fun A=>((if A=true then iX N a.1 f.2.2.2.2 10 else some a.1):Option RT).bind fun B=>(iO N B (⟨#[59]⟩:BA)).bind fun r=>(eQ 16 l ([a.2])).bind fun y=>aK (qG N y5) M (bW r y))=some o/\UR ts pr b (.inl z) o:=by
   intro z i pr' b' c hi
   have hz':((bR ts z i pr' b').2.2.2.1==0)=false:=by simpa[bR] using c
   simp only[rL hi,NM c hi,j0,hz',j9,jD,rJ c hi,e]
   exact bad z i pr' b' _ c hi
  -- the step
  have step:aK (qG N y5) (M+1) (bW (gR ts pr (i,b)) l)=(if cB ts 1 zM i=true then
    ((if((l.length:Int)==8)=true then some (bR ts ((aM ts i).2.2.2,2) (i+1) pr b) else some (gR ts pr (i+1,b))):Option RT).bind fun st=>((iQ N st).bind fun f=>(nX N f.1).bind fun a=>((if(a.1.2.2.2.1==0)=true then(if(a.2.toList==y5.2.toList)=true then(some true) else(rY N l a.2)) else(some false)):Option Bool).bind fun A=>((if A=true then iX N a.1 f.2.2.2.2 10 else some a.1):Option RT).bind fun B=>(iO N B (⟨#[59]⟩:BA)).bind fun r=>(eQ 16 l ([a.2])).bind fun y=>aK (qG N y5) M (bW r y))
    else some (bW (gR ts pr (i,b)) l)):=by
   have K:cB ts 1 zM i=((aM ts i).1==1&&decide ((aM ts i).2.1=(⟨#[105,109,112,111,114,116]⟩:BA))):=rfl
   have D:=nO (show i<1000000 by omega)
   simp only[aK,qG,G,jE,E,F,mA (i,b) hi,j0,Prod.eta,mF,K]
   rcases eI ((aM ts i).1==1) with d|d
   rotate_left
   .simp only[d,j9,jD,j0,Bool.false_and]
    rfl
   rcases eI (decide ((aM ts i).2.1=(⟨#[105,109,112,111,114,116]⟩:BA))) with p|p
   rotate_left
   .simp only[d,p,j9,jD,jE,j0,Bool.and_false]
    rfl
   simp only[d,p,jE,j0,Bool.and_true]
   rcases eI ((l.length:Int)==8) with q|q
   .simp only[q,jE,j0,mA (i,b) hi,oO,qE]
    have t:((bR ts ((aM ts i).2.2.2,2) i pr b).1,IntKind.wrap .i64 ((bR ts ((aM ts i).2.2.2,2) i pr b).2.1+1),(bR ts ((aM ts i).2.2.2,2) i pr b).2.2.1,(bR ts ((aM ts i).2.2.2,2) i pr b).2.2.2.1,(bR ts ((aM ts i).2.2.2,2) i pr b).2.2.2.2.1,(bR ts ((aM ts i).2.2.2,2) i pr b).2.2.2.2.2.1,(bR ts ((aM ts i).2.2.2,2) i pr b).2.2.2.2.2.2)=bR ts ((aM ts i).2.2.2,2) (i+1) pr b:=by
     show(ts,IntKind.wrap .i64 ((i:Int)+1),(aM ts i).2.2.2,(2:Int),pr,b,([]:List Int))=_
     rw[D];rfl
    rw[t]
    simp only[gT,j0]
    rfl
   simp only[q,j9,jD,j0,qE]
   have t:((gR ts pr (i,b)).1,IntKind.wrap .i64 ((gR ts pr (i,b)).2.1+1),(gR ts pr (i,b)).2.2.1,(gR ts pr (i,b)).2.2.2.1,(gR ts pr (i,b)).2.2.2.2.1,(gR ts pr (i,b)).2.2.2.2.2.1,(gR ts pr (i,b)).2.2.2.2.2.2)=gR ts pr (i+1,b):=by
    show(ts,IntKind.wrap .i64 ((i:Int)+1),(0:Int),(0:Int),pr,b,([]:List Int))=_
    rw[D];rfl
   rw[t]
   simp only[gT,j0]
   rfl
  rw[step]
  simp only[qV]
  rcases eI (cB ts 1 zM i) with d|d
  rotate_left
  .simp only[d,j9,jD]
   exact⟨_,rfl,rfl⟩
  have g:=lY k hi ac d
  simp only[d,jE]
  by_cases k2:l.length=8
  .have k2':((l.length:Int)==8)=true:=by simp;omega
   rw[if_pos k2]
   simp only[k2',jE,j0,eG]
   exact badn _ _ _ _ (show(2:Int)≠0 by decide) g
  have k2':((l.length:Int)==8)=false:=by simp;omega
  rw[if_neg k2]
  simp only[k2',j9,jD,j0,mA (i+1,b) g,DL (i+1,b) g v (by omega:100<N)]
  cases hx:mD ts (i+1) with
  |inl z=>
   have c:=NQ hx
   have hz':((bR ts z (i+1) pr b).2.2.2.1==0)=false:=by simpa[bR] using c
   simp only[hz',j9,jD,j0,rJ c g,e,bI]
   exact bad _ _ _ _ _ c g
  |inr x=>
   obtain⟨rfl,p,-⟩:=sS k g hx
   have t:((gR ts pr (i+1+1,b)).2.2.2.1==0)=true:=rfl
   simp only[t,jE,mF,u,bI]
   by_cases q:(aM ts (i+1)).2.1=y5.2\/(aM ts (i+1)).2.1∈l
   .rw[if_pos q]
    have:((if decide ((aM ts (i+1)).2.1=y5.2)=true then some true else some (decide ((aM ts (i+1)).2.1∈l))):Option Bool)=some true:=by
     rcases q with h|h
     .rw[if_pos (jL h)]
     rw[jL h];split<;>rfl
    rw[this]
    simp only[j0,jE,oO,e,eG]
    have c:(((aM ts (i+1)).2.2.2,(10:Int)):cG).2≠0:=show(10:Int)≠0 by decide
    simp only[rJ c p,j0]
    exact bad _ _ _ _ _ c p
   rw[if_neg q]
   have:((if decide ((aM ts (i+1)).2.1=y5.2)=true then some true else some (decide ((aM ts (i+1)).2.1∈l))):Option Bool)=some false:=by
    rw[if_neg (by simp only[j6];exact fun h=>q (.inl h)),jR (fun h=>q (.inr h))]
   rw[this]
   simp only[j0,j9,jD,sE (i+1+1,b) p v,e,rM]
   cases c:dU ts ⟨#[59]⟩ (i+1+1) with
   |inl z=>exact bad _ _ _ _ _ (qX c) p
   |inr j=>
    obtain⟨rfl,D,-⟩:=lZ k p c
    exact WL k v H n M _ (i+1+1+1) D (by simp only[jF,jA,jB];omega) aa aa
end
section
variable {N:Nat} {ts:List cA} {pr:List BA}
abbrev RD:=List cA×Int×Int×Int×List BA×List Ex×List Int×List Dl
def mJ(st:RT)(l:List Dl):RD:=(st.1,st.2.1,st.2.2.1,st.2.2.2.1,st.2.2.2.2.1,st.2.2.2.2.2.1,st.2.2.2.2.2.2,l)
def relS(ts:List cA)(r:cG⊕List Dl)(o:RD):Prop:=
 match r with
 | .inl z=>∃st l,sZ ts z st/\o=mJ st l
 | .inr a=>∃pr p,o=mJ (gR ts pr p) a
theorem YG{y5:RT×BA}{o2:RL}{z:cG}{i:Nat}{pr':List BA}{b:List Ex}(a:z.2≠0)(M:Nat)(l:List Dl):aK (rW N y5 o2) (M+1) (mJ (bR ts z i pr' b) l)=some (mJ (bR ts z i pr' b) l):=by
 have hz':((mJ (bR ts z i pr' b) l).2.2.2.1==0)=false:=by simpa[bR,mJ] using a
 simp only[aK,rW,hz',j9,jD,j0]
theorem XJ(c:OkT ts)(k:ts.length<1000000)(g:1000005<N){y5:RT×BA}{o2:RL}:∀(n M:Nat) (l:List Dl) (i:Nat) (pr:List BA) (b:List Ex),i<ts.length->l.length<=64->ts.length<i+n->ts.length+2<i+M->
  ∃o,aK (rW N y5 o2) M (mJ (gR ts pr (i,b)) l)=some o/\relS ts (tP ts n l i) o
 |0,M,l,i,_,_,hi,_,h,_=>by omega
 |n+1,0,l,i,_,_,hi,_,_,h=>by omega
 |n+1,M+1,l,i,pr,b,hi,e,y,x=>by
  have t:((mJ (gR ts pr (i,b)) l).2.2.2.1==0)=true:=rfl
  have r:∀st:RT,∀l,((mJ st l).1,(mJ st l).2.1,(mJ st l).2.2.1,(mJ st l).2.2.2.1,(mJ st l).2.2.2.2.1,(mJ st l).2.2.2.2.2.1,(mJ st l).2.2.2.2.2.2.1)=st:=fun _ _=>rfl
  have s:∀st:RT,∀l,(mJ st l).2.2.2.2.2.2.2=l:=fun _ _=>rfl
  simp only[aK,rW,t,jE,r,s,mA (i,b) hi,j0,Prod.eta,tP]
  by_cases k1:(aM ts i).1=5
  .have k1':((aM ts i).1 !=5)=false:=by simp[k1]
   rw[if_pos k1]
   simp only[k1',j9,jD,j0]
   exact⟨_,rfl,pr,(i,b),rfl⟩
  have k1':((aM ts i).1 !=5)=true:=by simp[k1]
  rw[if_neg k1]
  simp only[k1',jE]
  obtain⟨o,v,d⟩:=qTx (N:=N) (pr:=pr) (f:=(y5.2,o2.2.2.2.2.2.2.2,l)) c k g e i b hi
  simp only[v,j0]
  rw[lB (by simp only[jA,jB];omega) aa]
  simp only[j0]
  cases hd:oH ts l i with
  |inl z=>
   rw[show oH ts (y5.2,o2.2.2.2.2.2.2.2,l).2.2 i=oH ts l i from rfl,hd] at d
   obtain⟨q,j,pr',b',u,p⟩:=d
   obtain⟨M',rfl⟩:∃M',M=M'+1:=⟨M-1,by omega⟩
   rw[p]
   exact⟨_,YG q M' _,_,_,⟨q,j,pr',b',u,rfl⟩,rfl⟩
  |inr a=>
   rw[show oH ts (y5.2,o2.2.2.2.2.2.2.2,l).2.2 i=oH ts l i from rfl,hd] at d
   obtain⟨q,p,u⟩:=MY c hi hd
   have hr':o=(gR ts a.2.2.2.1 (a.1,a.2.2.2.2),a.2):=d
   rw[hr']
   exact XJ c k g n M (l++[a.2]) a.1 _ _ p (by simp only[jF,jA,jB];omega) aa aa
theorem qTz(d:OkT ts)(h:ts.length<1000000)(A:1000005<N):
  ((oX N (ts,0,0,0,[],[],[]) (⟨#[112,97,99,107,97,103,101]⟩:BA)).bind fun s=>((if(!s.2)=true then((iQ N s.1).bind fun D=>iX N D.1 D.2.2.2.2 9) else(some s.1)):Option RT).bind fun K=>(nX N K).bind fun y5=>(iO N y5.1 (⟨#[59]⟩:BA)).bind fun t=>(aK (qG N y5) N (bW t [])).bind fun o2=>(aK (rW N y5 o2) N (o2.1,o2.2.1,o2.2.2.1,o2.2.2.2.1,o2.2.2.2.2.1,o2.2.2.2.2.2.1,o2.2.2.2.2.2.2.1,[])).bind fun a=>if(a.2.2.2.1 !=0)=true then(some (sH,a.2.2.1,a.2.2.2.1)) else(some (((y5.2,o2.2.2.2.2.2.2.2,a.2.2.2.2.2.2.2):Sr),(0:Int),(0:Int))))=some (match tR ts with| .inl z=>(sH,z.1,z.2)| .inr f=>(f,0,0)):=by
 have p:0<ts.length:=fK.2 d.1
 obtain⟨M,hM⟩:∃M,N=M+1:=⟨N-1,by omega⟩
 have E:((ts,(0:Int),(0:Int),(0:Int),[],[],[]):RT)=gR ts [] (0,[]):=rfl
 -- the loops behind an error
 have badD:∀(y5:RT×BA) (o2:RL) (z:cG) (st:RT),sZ ts z st->((aK (rW N y5 o2) N (mJ st [])).bind fun a=>if(a.2.2.2.1 !=0)=true then(some (sH,a.2.2.1,a.2.2.2.1)) else(some (((y5.2,o2.2.2.2.2.2.2.2,a.2.2.2.2.2.2.2):Sr),(0:Int),(0:Int))))=some (sH,z.1,z.2):=by
  rintro y5 o2 z st ⟨c,i,pr',b,hi,rfl⟩
  have g:aK (rW N y5 o2) N (mJ (bR ts z i pr' b) [])=some (mJ (bR ts z i pr' b) []):=by
   have e:aK (rW N y5 o2) N (mJ (bR ts z i pr' b) [])=aK (rW N y5 o2) (M+1) (mJ (bR ts z i pr' b) []):=by rw[<-hM]
   rw[e];exact YG c M []
  have hz':((mJ (bR ts z i pr' b) []).2.2.2.1 !=0)=true:=by simpa[bR,mJ] using c
  rw[g]
  simp only[j0,hz',jE]
  rfl
 have badI:∀(y5:RT×BA) (z:cG) (i:Nat) (pr':List BA) (b:List Ex),z.2≠0->i<ts.length->((aK (qG N y5) N (bW (bR ts z i pr' b) [])).bind fun o2=>(aK (rW N y5 o2) N (o2.1,o2.2.1,o2.2.2.1,o2.2.2.2.1,o2.2.2.2.2.1,o2.2.2.2.2.2.1,o2.2.2.2.2.2.2.1,[])).bind fun a=>if(a.2.2.2.1 !=0)=true then(some (sH,a.2.2.1,a.2.2.2.1)) else(some (((y5.2,o2.2.2.2.2.2.2.2,a.2.2.2.2.2.2.2):Sr),(0:Int),(0:Int))))=some (sH,z.1,z.2):=by
  intro y5 z i pr' b c hi
  have g:aK (qG N y5) N (bW (bR ts z i pr' b) [])=some (bW (bR ts z i pr' b) []):=by
   have e:aK (qG N y5) N (bW (bR ts z i pr' b) [])=aK (qG N y5) (M+1) (bW (bR ts z i pr' b) []):=by rw[<-hM]
   rw[e];exact XD c M []
  rw[g]
  simp only[j0]
  exact badD y5 (bW (bR ts z i pr' b) []) z (bR ts z i pr' b) ⟨c,i,pr',b,hi,rfl⟩
 have bad:∀(z:cG) (i:Nat) (pr':List BA) (b:List Ex),z.2≠0->i<ts.length->((nX N (bR ts z i pr' b)).bind fun y5=>(iO N y5.1 (⟨#[59]⟩:BA)).bind fun t=>(aK (qG N y5) N (bW t [])).bind fun o2=>(aK (rW N y5 o2) N (o2.1,o2.2.1,o2.2.2.1,o2.2.2.2.1,o2.2.2.2.2.1,o2.2.2.2.2.2.1,o2.2.2.2.2.2.2.1,[])).bind fun a=>if(a.2.2.2.1 !=0)=true then(some (sH,a.2.2.1,a.2.2.2.1)) else(some (((y5.2,o2.2.2.2.2.2.2.2,a.2.2.2.2.2.2.2):Sr),(0:Int),(0:Int))))=some (sH,z.1,z.2):=by
  intro z i pr' b c hi
  simp only[NM c hi,rJ c hi,j0]
  exact badI _ z i pr' b c hi
 rw[E]
 simp only[qZ (0,[]) p h,j0,tR,sJ,HX]
 rcases eI (cB ts 1 ⟨#[112,97,99,107,97,103,101]⟩ 0) with k|k
 rotate_left
 .simp only[k,j9,jD,kA,jE,mA (0,[]) p,oO,j0,eG,bI]
  exact bad _ _ _ _ (show(9:Int)≠0 by decide) p
 have n:=lY d p ac k
 simp only[k,jE,kJ,j9,jD,j0,DL (0+1,[]) n h (by omega:100<N),bI]
 cases h2:mD ts (0+1) with
 |inl z=>
  have c:=NQ h2
  simp only[rJ c n,j0]
  exact badI _ z _ _ _ c n
 |inr x=>
  obtain⟨rfl,r,-⟩:=sS d n h2
  simp only[sE (0+1+1,[]) r h,j0,rM]
  cases v:dU ts ⟨#[59]⟩ (0+1+1) with
  |inl z=>exact badI _ z _ _ _ (qX v) r
  |inr j=>
   obtain⟨rfl,u,-⟩:=lZ d r v
   obtain⟨o,G,q⟩:=WL (N:=N) (pr:=[]) (b:=[]) (y5:=(gR ts [] (0+1+1,[]),(aM ts (0+1)).2.1)) d h A (ts.length+1) N [] (0+1+1+1) u ad aa aa
   simp only[G,j0]
   cases h4:qV ts (aM ts (0+1)).2.1 (ts.length+1) [] (0+1+1+1) with
   |inl z=>
    rw[show qV ts ((gR ts [] (0+1+1,[]),(aM ts (0+1)).2.1):RT×BA).2 (ts.length+1) [] (0+1+1+1)=qV ts (aM ts (0+1)).2.1 (ts.length+1) [] (0+1+1+1) from rfl,h4] at q
    obtain⟨st,l,g,rfl⟩:=q
    exact badD _ (bW st l) z st g
   |inr y=>
    rw[show qV ts ((gR ts [] (0+1+1,[]),(aM ts (0+1)).2.1):RT×BA).2 (ts.length+1) [] (0+1+1+1)=qV ts (aM ts (0+1)).2.1 (ts.length+1) [] (0+1+1+1) from rfl,h4] at q
    have hr':o=bW (gR ts [] (y.1,[])) y.2:=q
    obtain⟨R,H,S⟩:=MI d _ _ _ y u ad h4
    obtain⟨o2,B,g⟩:=XJ (N:=N) (y5:=(gR ts [] (0+1+1,[]),(aM ts (0+1)).2.1)) (o2:=o) d h A (ts.length+1) N [] y.1 [] [] H ad aa aa
    have F:(o.1,o.2.1,o.2.2.1,o.2.2.2.1,o.2.2.2.2.1,o.2.2.2.2.2.1,o.2.2.2.2.2.2.1,([]:List Dl))=mJ (gR ts [] (y.1,[])) []:=by rw[hr'];rfl
    rw[F,B]
    simp only[j0]
    cases h5:tP ts (ts.length+1) [] y.1 with
    |inl z=>
     rw[h5] at g
     obtain⟨st,l,⟨c,i,pr',b,hi,rfl⟩,rfl⟩:=g
     have hz':((mJ (bR ts z i pr' b) l).2.2.2.1 !=0)=true:=by simpa[bR,mJ] using c
     simp only[hz',jE]
     rfl
    |inr l=>
     rw[h5] at g
     obtain⟨pr',p',rfl⟩:=g
     have hz':((mJ (gR ts pr' p') l).2.2.2.1 !=0)=false:=rfl
     simp only[hz',j9,jD]
     rw[hr']
     rfl
end
theorem qJw{N:Nat}(s:BA)(b:1000005<N):LO N s=some (lL s):=by
 simp only[LO,qJh (N:=N) aa,j0,lL]
 by_cases h:(lC s).2.2=0
 .rw[if_neg (show ¬((lC s).2.2 !=0)=true by simpa using h),if_neg (show ¬(lC s).2.2≠0 by simpa using h)]
  obtain⟨a,d,e⟩:=MP h
  have c:=qTz (N:=N) a aa b
  refine Eq.trans ?_ (Eq.trans c ?_)
  .simp only[Prod.eta,qE];rfl
  cases tR (lC s).1<;>rfl
 rw[if_pos (show((lC s).2.2 !=0)=true by simpa using h),if_pos h];rfl
end
section
open Go Go.Dc Go.Proofs
def sX{α τ:Type}(g:Nat->τ->α->τ):Nat->τ->List α->τ
 |_,t,[]=>t
 |i,t,x::l=>sX g (i+1) (g i t x) l
theorem YN{α τ σ β:Type}{L:List α}(enc:τ->Nat->σ){f:σ->Option (σ⊕β)}(g:Nat->τ->α->τ)(fin:τ->β)
  (a:∀t i,∀hi:i<L.length,f (enc t i)=some (.inl (enc (g i t L[i]) (i+1))))
  (b:∀t,f (enc t L.length)=some (.inr (fin t))):∀(d i M:Nat) (t:τ),i+d=L.length->d<M->aK f M (enc t i)=some (fin (sX g i t (L.drop i)))
 |_,_,0,_,_,h=>absurd h (gF _)
 |0,i,M+1,t,c,e=>by
  have hi:i=L.length:=by omega
  subst hi
  simp only[aK,b t,j0,hD,sX]
 |d+1,i,M+1,t,c,e=>by
  have hi:i<L.length:=by omega
  simp only[aK,a t i hi,j0]
  rw[HH hi]
  exact YN enc g fin a b d (i+1) M _ aa aa
abbrev dS:=BA×BA×Int×BA×Int×Int
abbrev K3:=Int×BA×BA
abbrev nC:=BA×BA×Int×BA×Int
def nL(kind:Int)(pkg name:BA):K3:=(kind,if kind=3 then iE else pkg,name)
def sL(o:nC):K3:=nL o.2.2.1 o.1 o.2.1
def qJ(M:List (K3×dS))(o:nC):List (K3×dS):=
 mset M (sL o) (match dO M (sL o) with
  |some x=>(x.1,x.2.1,x.2.2.1,x.2.2.2.1,x.2.2.2.2.1,IntKind.wrap .i64 (x.2.2.2.2.2+1))
  |none=>(o.1,o.2.1,o.2.2.1,o.2.2.2.1,o.2.2.2.2,1))
def oB(path pkg:BA):Nat->List Dl->List nC
 |_,[]=>[]
 |i,d::l=>(pkg,d.2.1,d.1,path,(i:Int))::oB path pkg (i+1) l
def pX(f:bV):Bool:=nE f.1&&decide ((lL f.2).2.2=0)
def iB(L:List bV):List (BA×Sr):=(L.filter pX).map fun f=>(f.1,(lL f.2).1)
def sB(L:List bV):List BA:=(L.filter fun f=>nE f.1&& !decide ((lL f.2).2.2=0)).map (·.1)
def iP(l:List (BA×Sr)):List nC:=l.flatMap fun x=>oB x.1 x.2.1 0 x.2.2.2
abbrev Wld:=List bV×Bool×Option (List (BA×Sr))×List BA×Option (List (K3×dS))
def iF(L:List bV):Wld:=
 if nP L=0 then(L,true,some ((iB L).foldl (fun S x=>mset S x.1 x.2) []),sB L,some ((iP (iB L)).foldl qJ [])) else(L,false,some [],[],some [])
theorem YW(path pkg:BA):∀(l:List Dl) (i:Nat) (M:List (K3×dS)),
  sX (fun i M (d:Dl)=>qJ M (pkg,d.2.1,d.1,path,(i:Int))) i M l=(oB path pkg i l).foldl qJ M
 |[],_,_=>rfl
 |d::l,i,M=>by simp only[sX,oB,kC];exact YW path pkg l (i+1) _
theorem WU{N:Nat}(a:Int)(b c:BA):HN N a b c=some (nL a b c):=by
 unfold HN nL
 by_cases h:a=3
 .rw[if_pos (by simp[h]),if_pos h];rfl
 rw[if_neg (by simp[h]),if_neg h];rfl
theorem qLk{N:Nat}{x:bV}{y:Sr×Int×Int}(c:y.1.2.2.length<1000)(b:1000<N)(M:List (K3×dS)):
  aK (CN N x y) N (0,some M)=some (some ((oB x.1 y.1.1 0 y.1.2.2).foldl qJ M)):=by
 have:=YN (L:=y.1.2.2) (fun(M:List (K3×dS)) i=>((i:Int),some M)) (f:=CN N x y)
  (fun i M (d:Dl)=>qJ M (y.1.1,d.2.1,d.1,x.1,(i:Int))) (fun M=>some M) (by
   intro M i hi
   simp only[CN]
   rw[if_pos (by simp only[j6];omega),eS hi]
   simp only[j0,WU]
   have ew:IntKind.wrap .i64 ((i:Int)+1)=((i+1:Nat):Int):=by rw[bY aa aa];omega
   simp only[ew]
   by_cases h:(bD (some M) (nL (y.1.2.2[i]).1 y.1.1 (y.1.2.2[i]).2.1)).isSome=true
   .rw[if_pos h]
    unfold qJ sL
    simp only[bD,dZ,j0,kK] at h ⊢
    obtain⟨v,a⟩:=Option.isSome_iff_exists.1 h
    rw[a];rfl
   .rw[if_neg h]
    unfold qJ sL
    simp only[bD,dZ,j0,kK] at h ⊢
    rw[show dO M (nL (y.1.2.2[i]).1 y.1.1 (y.1.2.2[i]).2.1)=none by simpa using h]) (by
   intro M
   simp only[CN]
   rw[if_neg ad]) y.1.2.2.length 0 N M aa aa
 rw[jV,YW] at this
 exact this
theorem YB{ts:List cA}(h:OkT ts):∀(n:Nat) (l:List Dl) (i:Nat) {r:List Dl},l.length<=64->i<ts.length->tP ts n l i= .inr r->r.length<=64
 |0,_,_,_,_,_,a=>by cases a
 |n+1,l,i,r,d,hi,a=>by
  unfold tP at a
  split at a
  .cases a;exact d
  obtain⟨x,e,c⟩:=iN a
  obtain⟨-,b,f⟩:=MY h hi e
  exact YB h n _ _ ag b c
theorem MS{s:BA}:(lL s).1.2.2.length<=64:=by
 unfold lL
 by_cases h0:(lC s).2.2=0
 .rw[if_neg (not_not_intro h0)]
  obtain⟨d,u,x⟩:=MP h0
  have e:0<(lC s).1.length:=by
   cases h:(lC s).1 with
   |nil=>exact absurd h d.1
   |cons a l=>exact Nat.succ_pos _
  cases c:tR (lC s).1 with
  |inl z=>exact kG _
  |inr f=>
   simp only
   unfold tR at c
   obtain⟨i,o,c⟩:=iN c
   obtain⟨rfl,g,-⟩:=DA d e o
   obtain⟨a,p,c⟩:=iN c
   obtain⟨rfl,k,-⟩:=sS d g p
   obtain⟨j,q,c⟩:=iN c
   obtain⟨rfl,n,-⟩:=lZ d k q
   obtain⟨b,r,c⟩:=iN c
   obtain⟨-,v,-⟩:=MI d _ _ _ b n ad r
   obtain⟨l,t,c⟩:=iN c
   have:=YB d _ _ _ ad v t
   cases c
   exact this
 rw[if_pos h0];exact kG _
def tS(t:List BA×List (BA×Sr)×List (K3×dS))(f:bV):List BA×List (BA×Sr)×List (K3×dS):=
 if nE f.1=false then t
 else if(lL f.2).2.2=0 then(t.1,mset t.2.1 f.1 (lL f.2).1,(oB f.1 (lL f.2).1.1 0 (lL f.2).1.2.2).foldl qJ t.2.2)
 else(t.1++[f.1],t.2)
theorem MZ:∀(L:List bV) (B:List BA) (S:List (BA×Sr)) (M:List (K3×dS)),
  L.foldl tS (B,S,M)=(B++sB L,(iB L).foldl (fun S x=>mset S x.1 x.2) S,(iP (iB L)).foldl qJ M)
 |[],B,S,M=>by simp[sB,iB,iP]
 |f::L,B,S,M=>by
  rw[kC]
  by_cases a:nE f.1=true
  .by_cases h2:(lL f.2).2.2=0
   .have e:tS (B,S,M) f=(B,mset S f.1 (lL f.2).1,(oB f.1 (lL f.2).1.1 0 (lL f.2).1.2.2).foldl qJ M):=by
     unfold tS;rw[if_neg (by simp[a]),if_pos h2]
    have el:iB (f::L)=(f.1,(lL f.2).1)::iB L:=by
     unfold iB;rw[kZ,if_pos (show pX f=true by simp[pX,a,h2])];rfl
    have eb:sB (f::L)=sB L:=by
     unfold sB;rw[kZ,if_neg (by simp[h2])]
    rw[e,MZ L,el,eb]
    simp only[kC,iP,kP,fG]
   have e:tS (B,S,M) f=(B++[f.1],S,M):=by
    unfold tS;rw[if_neg (by simp[a]),if_neg h2]
   have el:iB (f::L)=iB L:=by
    unfold iB;rw[kZ,if_neg (by simp[pX,h2])]
   have eb:sB (f::L)=f.1::sB L:=by
    unfold sB;rw[kZ,if_pos (by simp[a,h2])];rfl
   rw[e,MZ L,el,eb]
   simp
  have a:nE f.1=false:=by simpa using a
  have e:tS (B,S,M) f=(B,S,M):=by unfold tS;rw[if_pos a]
  have el:iB (f::L)=iB L:=by
   unfold iB;rw[kZ,if_neg (by simp[pX,a])]
  have eb:sB (f::L)=sB L:=by
   unfold sB;rw[kZ,if_neg (by simp[a])]
  rw[e,MZ L,el,eb]
theorem qLq{N:Nat}{L:List bV}(d:IE N L)(g:L.length<=64)(c:1000001<N):
  aK (CO N L) N (0,[],some [],some [])=some (sB L,some ((iB L).foldl (fun S x=>mset S x.1 x.2) []),some ((iP (iB L)).foldl qJ [])):=by
 have h:=zB (L:=L) (fun(t:List BA×List (BA×Sr)×List (K3×dS)) (i:Nat)=>((i:Int),t.1,some t.2.1,some t.2.2)) (f:=CO N L)
  (fun t f=> .inl (tS t f)) (fun t=>(t.1,some t.2.1,some t.2.2)) (fun i t=>t.1.length<=i) (by
   intro t i hi b
   simp only[CO]
   rw[if_pos (by simp only[j6];omega),eS hi]
   have ew:IntKind.wrap .i64 ((i:Int)+1)=((i+1:Nat):Int):=by rw[bY aa aa];omega
   have e:=qKr (N:=N) (d _ (jS hi))
   simp only[j0,e,qPq _ c,ew]
   unfold tS
   by_cases a:nE (L[i]).1=true
   .by_cases h2:(lL (L[i]).2).2.2=0
    .rw[if_neg (by simp[a]),if_neg (by simp[h2]),if_neg (by simp[a]),if_pos h2,qLk (by have:=MS (s:=(L[i]).2);omega) aa]
     simp only[dZ,kK,j0]
    rw[if_neg (by simp[a]),if_pos (by simpa using h2),if_neg (by simp[a]),if_neg h2,lB (by simp only[jA,jB];omega) aa]
    simp only[j0]
   .have a:nE (L[i]).1=false:=by simpa using a
    rw[if_pos (by simp[a]),if_pos a]
    simp only[j0]) (by
   intro t i hi t' b h
   cases h
   unfold tS
   split
   .omega
   .split
    .exact Nat.le_succ_of_le b
    simp only[jF,jA,jB];omega) (by
   intro t b
   simp only[CO]
   rw[if_neg ad]) (M:=N) (t:=([],[],[])) aa (kG _)
 rw[show((0:Nat):Int)=0 from rfl] at h
 rw[h,zJ tS (fun _ _=>rfl),MZ]
 simp only[kE]
theorem qTo{N:Nat}{L:List bV}(a:IE N L)(b:1000001<N):HI N L=some (iF L):=by
 simp only[HI,qOe a (show 100<N by omega),j0]
 unfold iF
 by_cases hc:nP L=0
 .rw[if_neg (by simp[hc]),if_pos hc,qLq a (tK.1 hc).1 b]
  simp only[j0,hc];rfl
 rw[if_pos (by simpa using hc),if_neg hc]
 simp only[show(nP L==0)=false by simpa using hc]
def lJ(kind:Int)(pkg name:BA)(e:dS)(o:nC):dS:=
 if sL o=nL kind pkg name then(if e.2.2.2.2.2=0 then(o.1,name,kind,o.2.2.2.1,o.2.2.2.2,1) else(e.1,e.2.1,e.2.2.1,e.2.2.2.1,e.2.2.2.2.1,e.2.2.2.2.2+1)) else e
def uB(kind:Int)(pkg name:BA):dS:=(if kind=3 then iE else pkg,name,kind,iE,0,0)
def lW(O:List nC)(kind:Int)(pkg name:BA):dS:=O.foldl (lJ kind pkg name) (uB kind pkg name)
theorem HS{k k':Int}{p p' n n':BA}(h:nL k p n=nL k' p' n'):k=k'/\n=n'/\(k=3\/p=p'):=by
 simp only[nL,Prod.mk.injEq] at h
 obtain⟨rfl,a,b⟩:=h
 refine⟨rfl,b,?_⟩
 by_cases h:k=3
 .exact .inl h
 rw[if_neg h,if_neg h] at a;exact .inr a
def MapE(M:List (K3×dS))(O:List nC):Prop:=
 (M.map (·.1)).Nodup/\∀kind pkg name,dO M (nL kind pkg name)=if(lW O kind pkg name).2.2.2.2.2=0 then none else some (lW O kind pkg name)
theorem QZ(kind:Int)(pkg name:BA):∀(O:List nC),0<=(lW O kind pkg name).2.2.2.2.2/\(lW O kind pkg name).2.2.2.2.2<=O.length/\((lW O kind pkg name).2.2.2.2.2=0->lW O kind pkg name=uB kind pkg name):=by
 suffices h:∀(O:List nC) (e:dS) (b:Nat),0<=e.2.2.2.2.2/\e.2.2.2.2.2<=b/\(e.2.2.2.2.2=0->e=uB kind pkg name)->
   0<=(O.foldl (lJ kind pkg name) e).2.2.2.2.2/\(O.foldl (lJ kind pkg name) e).2.2.2.2.2<=(b+O.length:Nat)/\((O.foldl (lJ kind pkg name) e).2.2.2.2.2=0->O.foldl (lJ kind pkg name) e=uB kind pkg name) by
  intro O
  have:=h O (uB kind pkg name) 0 ⟨fV _,fV _,fun _=>rfl⟩
  rw[kU] at this
  exact this
 intro O
 induction O with
 |nil=>intro e b h;exact h
 |cons o O c=>
  intro e b h
  rw[kC]
  have:=c (lJ kind pkg name e o) (b+1) (by
   unfold lJ
   split
   .split
    .exact⟨(by show(0:Int)<=1;decide),by show(1:Int)<=_;omega,fun h=>by simp at h⟩
    rename_i hc
    refine⟨by show(0:Int)<=e.2.2.2.2.2+1;omega,by show e.2.2.2.2.2+1<=_;omega,fun a=> ?_⟩
    have a:e.2.2.2.2.2+1=0:=a
    omega
   exact⟨h.1,by omega,h.2.2⟩)
  rw[jA,show b+(O.length+1)=b+1+O.length by omega]
  exact this
theorem MapE.step{M:List (K3×dS)}{O:List nC}(h:MapE M O)(f:O.length<1000000)(o:nC):MapE (qJ M o) (O++[o]):=by
 refine⟨QX h.1 _ _,fun kind pkg name=> ?_⟩
 have g:=QZ kind pkg name O
 have c:lW (O++[o]) kind pkg name=lJ kind pkg name (lW O kind pkg name) o:=by
  unfold lW;rw[fG];rfl
 unfold qJ
 rw[RE h.1,c]
 by_cases hk:nL kind pkg name=sL o
 .rw[if_pos hk,<-hk,h.2 kind pkg name]
  unfold lJ
  rw[if_pos hk.symm]
  obtain⟨a,b,d⟩:=HS hk
  by_cases hc:(lW O kind pkg name).2.2.2.2.2=0
  .rw[if_pos hc,if_pos hc,if_neg (show ¬(1:Int)=0 by decide),<-a,<-b]
  rw[if_neg hc,if_neg hc,if_neg (show ¬(lW O kind pkg name).2.2.2.2.2+1=0 by omega)]
  simp only[bY (show-9223372036854775808<=(lW O kind pkg name).2.2.2.2.2+1 by omega) aa]
 have a:lJ kind pkg name (lW O kind pkg name) o=lW O kind pkg name:=by unfold lJ;rw[if_neg (fun e=>hk e.symm)]
 rw[if_neg hk,h.2 kind pkg name,a]
theorem MapE.fold{O:List nC}(a:O.length<1000000):MapE (O.foldl qJ []) O:=by
 suffices h:∀(K:List nC) (M:List (K3×dS)) (J:List nC),J.length+K.length<1000000->MapE M J->MapE (K.foldl qJ M) (J++K) by
  have:=h O [] [] (by simpa using a) ⟨List.nodup_nil,fun kind pkg name=>by rw[show(lW [] kind pkg name).2.2.2.2.2=0 from rfl,if_pos rfl];rfl⟩
  exact this
 intro K
 induction K with
 |nil=>intro M J _ h;rw[gO];exact h
 |cons o K c=>
  intro M J b h
  rw[kC,show J++o::K=(J++[o])++K by simp]
  simp only[jA] at b
  exact c _ _ ag (h.step aa o)
theorem qAe(path pkg:BA):∀(l:List Dl) (i:Nat),(oB path pkg i l).length=l.length
 |[],_=>rfl
 |_::l,i=>by simp only[oB,jA,qAe path pkg l]
theorem MW{L:List bV}{x:BA×Sr}(h:x∈iB L):∃f∈L,pX f=true/\x=(f.1,(lL f.2).1):=by
 unfold iB at h
 obtain⟨f,a,rfl⟩:=fC.1 h
 exact⟨f,(gM.1 a).1,(gM.1 a).2,rfl⟩
theorem ZI(L:List bV):(iB L).length<=L.length:=by
 unfold iB;rw[gG];exact fU _ _
theorem YX:∀(l:List (BA×Sr)),(∀x∈l,x.2.2.2.length<=64)->(iP l).length<=64*l.length
 |[],_=>jM _
 |x::l,h=>by
  have:=YX l fun y a=>h y (jQ _ a)
  have:=h x (jO ..)
  unfold iP at*
  rw[kP,jF,qAe,jA]
  omega
theorem qMn{L:List bV}(b:L.length<=64):(iP (iB L)).length<1000000:=by
 have:=YX (iB L) fun x a=>by
  obtain⟨f,_,_,rfl⟩:=MW a
  exact MS
 have:=ZI L
 omega
def qM:dS:=(iE,iE,0,iE,0,0)
def cU(L:List bV)(kind:Int)(pkg name:BA):dS:=if nP L=0 then lW (iP (iB L)) kind pkg name else qM
theorem NJ{N:Nat}{L:List bV}(kind:Int)(pkg name:BA):vV N (iF L) kind pkg name=some (cU L kind pkg name):=by
 unfold vV iF cU
 by_cases hc:nP L=0
 .simp only[if_pos hc]
  rw[if_neg ad]
  simp only[WU,j0]
  have b:=(MapE.fold (qMn (tK.1 hc).1)).2 kind pkg name
  have c:=QZ kind pkg name (iP (iB L))
  generalize a:bD (some ((iP (iB L)).foldl qJ [])) (nL kind pkg name)=q
  have a:q=if(lW (iP (iB L)) kind pkg name).2.2.2.2.2=0 then none else some (lW (iP (iB L)) kind pkg name):=a.symm.trans b
  by_cases h0:(lW (iP (iB L)) kind pkg name).2.2.2.2.2=0
  .rw[if_pos h0] at a
   subst a
   rw[if_neg ad,c.2.2 h0];rfl
  rw[if_neg h0] at a
  subst a
  rw[if_pos (show(some (lW (iP (iB L)) kind pkg name)).isSome=true from rfl)];rfl
 simp only[if_neg hc]
 rw[if_pos (show(!false)=true from rfl)];rfl
theorem QU{α τ σ β:Type}{L:List α}(enc:τ->Nat->σ){f:σ->Option (σ⊕β)}(g:Nat->τ->α->τ)(fin:τ->β)(I:Nat->τ->Prop)
  (a:∀t i,∀hi:i<L.length,I i t->f (enc t i)=some (.inl (enc (g i t L[i]) (i+1)))/\I (i+1) (g i t L[i]))
  (b:∀t,I L.length t->f (enc t L.length)=some (.inr (fin t))):∀(d i M:Nat) (t:τ),i+d=L.length->d<M->I i t->aK f M (enc t i)=some (fin (sX g i t (L.drop i)))/\I L.length (sX g i t (L.drop i))
 |_,_,0,_,_,h,_=>absurd h (gF _)
 |0,i,M+1,t,e,k,c=>by
  have hi:i=L.length:=by omega
  subst hi
  simp only[aK,b t c,j0,hD,sX]
  exact⟨trivial,c⟩
 |d+1,i,M+1,t,e,k,c=>by
  have hi:i<L.length:=by omega
  obtain⟨l,n⟩:=a t i hi c
  simp only[aK,l,j0]
  rw[HH hi]
  exact QU enc g fin I a b d (i+1) M _ aa aa n
def JD(L:List bV)(p:BA):Sr×Bool:=match(if nP L=0 then lN L p else none) with
 |some b=>if nE p=true then((lL b).1,decide ((lL b).2.2=0)) else(sH,false)
 |none=>(sH,false)
theorem qJq{N:Nat}{L:List bV}{p:BA}(a:1000005<N):LN N L p=some (JD L p):=by
 simp only[LN,qLe p (show 100<N by omega),j0,qIp (show 100<N by omega),qJw _ a]
 unfold JD UI
 by_cases hc:nP L=0
 .rw[if_pos hc,if_pos hc]
  cases hg:lN L p with
  |none=>rfl
  |some b=>
   simp only[DV]
   by_cases hs:nE p=true
   .rw[if_pos hs,hs]
    simp only[kJ,j9,jD,j0]
    congr 2
   have hs':nE p=false:=by simpa using hs
   rw[if_neg hs,hs']
   rfl
 rw[if_neg hc,if_neg hc];rfl
theorem qOd{L:List bV}(a:nP L=0){f:bV}(b:f∈L):(JD L f.1).2=pX f/\(pX f=true->(JD L f.1).1=(lL f.2).1):=by
 unfold JD
 rw[if_pos a,QW (tK.1 a).2.1 b]
 simp only[pX]
 by_cases hs:nE f.1=true
 .rw[if_pos hs,hs];exact⟨by simp,fun _=>rfl⟩
 rw[if_neg hs]
 have hs':nE f.1=false:=by simpa using hs
 rw[hs'];exact⟨rfl,fun h=>by simp at h⟩
def wM(t:List BA×List Sr)(f:bV):List BA×List Sr:=if pX f=true then(t.1++[f.1],t.2++[(lL f.2).1]) else t
theorem RF:∀(L:List bV) (P:List BA) (S:List Sr),L.foldl wM (P,S)=(P++(iB L).map (·.1),S++(iB L).map (·.2))
 |[],P,S=>by simp[iB]
 |f::L,P,S=>by
  rw[kC]
  by_cases h:pX f=true
  .have el:iB (f::L)=(f.1,(lL f.2).1)::iB L:=by unfold iB;rw[kZ,if_pos h];rfl
   rw[show wM (P,S) f=(P++[f.1],S++[(lL f.2).1]) by unfold wM;rw[if_pos h],RF L,el]
   simp
  have el:iB (f::L)=iB L:=by unfold iB;rw[kZ,if_neg h]
  rw[show wM (P,S) f=(P,S) by unfold wM;rw[if_neg h],RF L,el]
def xX(L:List bV):List (BA×Sr):=if nP L=0 then iB L else[]
theorem qLu{N:Nat}{L:List bV}(c:1000005<N):LU N L=some ((xX L).map (·.1),(xX L).map (·.2)):=by
 simp only[LU,QY (show 100<N by omega),j0]
 unfold xX
 by_cases hc:nP L=0
 .rw[if_neg (by simp[hc]),if_pos hc]
  have d:=(tK.1 hc).1
  have h:=zB (L:=L) (fun(t:List BA×List Sr) (i:Nat)=>((i:Int),t.1,t.2)) (f:=FS N L)
   (fun t f=> .inl (wM t f)) (fun t=>(t.1,t.2)) (fun i t=>t.1.length<=i/\t.2.length<=i) (by
    intro t i hi a
    simp only[FS]
    rw[if_pos (by simp only[j6];omega),eS hi]
    have ew:IntKind.wrap .i64 ((i:Int)+1)=((i+1:Nat):Int):=by rw[bY aa aa];omega
    have b:=qOd hc (jS hi)
    simp only[j0,qJq c,ew,b.1]
    unfold wM
    by_cases h1:pX L[i]=true
    .rw[if_pos h1,if_pos h1,lB (by simp only[jA,jB];omega) aa]
     simp only[j0]
     rw[lB (by simp only[jA,jB];omega) aa]
     simp only[j0,b.2 h1]
    .rw[if_neg h1,if_neg h1];rfl) (by
    intro t i hi t' a h
    cases h
    unfold wM
    split
    .simp only[jF,jA,jB];omega
    .omega) (by
    intro t a
    simp only[FS]
    rw[if_neg ad]) (M:=N) (t:=([],[])) aa ⟨kG _,kG _⟩
  rw[show((0:Nat):Int)=0 from rfl] at h
  rw[h,zJ wM (fun _ _=>rfl),RF]
  simp only[kE,j0]
 rw[if_pos (by simpa using hc),if_neg hc];rfl
theorem XV(kind:Int)(pkg name path p:BA):∀(l:List Dl) (i:Nat) (e:dS),
  sX (fun i e (d:Dl)=>lJ kind pkg name e (p,d.2.1,d.1,path,(i:Int))) i e l=(oB path p i l).foldl (lJ kind pkg name) e
 |[],_,_=>rfl
 |d::l,i,e=>by simp only[sX,oB,kC];exact XV kind pkg name path p l (i+1) _
theorem qEn{kind:Int}{pkg name path p:BA}(b:kind≠3)(c:p≠pkg):∀(l:List Dl) (i:Nat) (e:dS),(oB path p i l).foldl (lJ kind pkg name) e=e
 |[],_,_=>rfl
 |d::l,i,e=>by
  have:lJ kind pkg name e (p,d.2.1,d.1,path,(i:Int))=e:=by
   unfold lJ
   rw[if_neg]
   intro h
   obtain⟨f,g,a⟩:=HS h
   rcases a with a|a
   .exact b (by rw[<-f];exact a)
   exact c a
  simp only[oB,kC,this]
  exact qEn b c l (i+1) e
def EntI(kind:Int)(name:BA)(b:Nat)(e:dS):Prop:=e.2.1=name/\e.2.2.1=kind/\0<=e.2.2.2.2.2/\e.2.2.2.2.2<=(b:Int)
theorem EntI.see{kind:Int}{pkg name:BA}{b:Nat}{e:dS}(h:EntI kind name b e)(o:nC):EntI kind name (b+1) (lJ kind pkg name e o):=by
 obtain⟨a,c,d,f⟩:=h
 unfold lJ
 split
 .split
  .exact⟨rfl,rfl,(by show(0:Int)<=1;decide),(by show(1:Int)<=_;omega)⟩
  exact⟨a,c,(by show(0:Int)<=e.2.2.2.2.2+1;omega),(by show e.2.2.2.2.2+1<=_;omega)⟩
 exact⟨a,c,d,by omega⟩
theorem qKv{N:Nat}{P:List BA×List Sr}{kind:Int}{pkg name path:BA}{s1:Int×BA×BA×Int×Int}{x:Sr}(s:bQ P.1 s1.1=some path)(q:kind=3\/x.1=pkg)
  (v:x.2.2.length<=64) (t:1000<N) {b:Nat} (u:b<1000000) {e:dS} (c:EntI kind name b e):
  aK (BL N P kind name s1 x) N (0,e.1,e.2.2.2.1,e.2.2.2.2.1,e.2.2.2.2.2)=some (((oB path x.1 0 x.2.2).foldl (lJ kind pkg name) e).1,((oB path x.1 0 x.2.2).foldl (lJ kind pkg name) e).2.2.2.1,((oB path x.1 0 x.2.2).foldl (lJ kind pkg name) e).2.2.2.2.1,((oB path x.1 0 x.2.2).foldl (lJ kind pkg name) e).2.2.2.2.2)
  /\EntI kind name (b+64) ((oB path x.1 0 x.2.2).foldl (lJ kind pkg name) e):=by
 have:=QU (L:=x.2.2) (fun(e:dS) (i:Nat)=>((i:Int),e.1,e.2.2.2.1,e.2.2.2.2.1,e.2.2.2.2.2)) (f:=BL N P kind name s1 x)
  (fun i e (d:Dl)=>lJ kind pkg name e (x.1,d.2.1,d.1,path,(i:Int))) (fun e=>(e.1,e.2.2.2.1,e.2.2.2.2.1,e.2.2.2.2.2)) (fun i e=>EntI kind name (b+i) e) (by
   intro e i hi c
   refine⟨?_,c.see _⟩
   obtain⟨n,o,p,r⟩:=c
   simp only[BL]
   rw[if_pos (by simp only[j6];omega),eS hi]
   have ew:IntKind.wrap .i64 ((i:Int)+1)=((i+1:Nat):Int):=by rw[bY aa aa];omega
   have ec:IntKind.wrap .i64 (e.2.2.2.2.2+1)=e.2.2.2.2.2+1:=bY aa aa
   simp only[j0,ew,ec,pO,s]
   have a:sL (x.1,(x.2.2[i]).2.1,(x.2.2[i]).1,path,(i:Int))=nL kind pkg name↔(x.2.2[i]).1=kind/\(x.2.2[i]).2.1=name:=by
    constructor
    .intro h;obtain⟨g,k,-⟩:=HS h;exact⟨g,k⟩
    rintro⟨g,k⟩
    unfold sL nL
    simp only[g,k]
    rcases q with rfl|rfl
    .rfl
    rfl
   unfold lJ
   by_cases k:(x.2.2[i]).1=kind
   .rw[if_pos (show((x.2.2[i]).1==kind)=true by simp[k])]
    simp only[j0,j6]
    by_cases l:(x.2.2[i]).2.1=name
    .rw[if_pos l,if_pos (a.2 ⟨k,l⟩)]
     by_cases g:e.2.2.2.2.2=0
     .rw[if_pos (by simp[g]),if_pos g,g];rfl
     rw[if_neg (show ¬(e.2.2.2.2.2+1==1)=true by rw[kF];omega),if_neg g];rfl
    rw[if_neg l,if_neg (fun h=>l (a.1 h).2)];rfl
   .rw[if_neg (show ¬((x.2.2[i]).1==kind)=true by simp[k])]
    simp only[j0,j9,jD]
    rw[if_neg (fun h=>k (a.1 h).1)]) (by
   intro e _
   simp only[BL]
   rw[if_neg ad]) x.2.2.length 0 N e aa aa c
 rw[jV,XV] at this
 refine⟨this.1,?_⟩
 obtain⟨n,o,p,r⟩:=this.2
 exact⟨n,o,p,by omega⟩
theorem XO(kind:Int)(pkg name:BA):∀(l:List (BA×Sr)) (i:Nat) (e:dS),
  sX (fun _ e (x:BA×Sr)=>(oB x.1 x.2.1 0 x.2.2.2).foldl (lJ kind pkg name) e) i e l=(iP l).foldl (lJ kind pkg name) e
 |[],_,_=>rfl
 |x::l,i,e=>by
  simp only[sX,iP,kP,fG]
  exact XO kind pkg name l (i+1) _
theorem qNp{N:Nat}{l:List (BA×Sr)}(kind:Int)(pkg name:BA)(t:l.length<=64)(s:∀x∈l,x.2.2.2.length<=64)(r:1000<N):
  LK N (l.map (·.1),l.map (·.2)) kind pkg name=some (lW (iP l) kind pkg name):=by
 unfold LK
 have h:=QU (L:=l) (fun(e:dS) (i:Nat)=>((i:Int),e.1,e.2.2.2.1,e.2.2.2.2.1,e.2.2.2.2.2)) (f:=BK N (l.map (·.1),l.map (·.2)) kind pkg name)
  (fun _ e (x:BA×Sr)=>(oB x.1 x.2.1 0 x.2.2.2).foldl (lJ kind pkg name) e) (fun e=>(e.1,e.2.2.2.1,e.2.2.2.2.1,e.2.2.2.2.2)) (fun i e=>EntI kind name (64*i) e) (by
   intro e i hi k
   have n:i<(l.map (·.1)).length:=by simpa using hi
   have o:i<(l.map (·.2)).length:=by simpa using hi
   have ew:IntKind.wrap .i64 ((i:Int)+1)=((i+1:Nat):Int):=by rw[bY aa aa];omega
   have ex:bQ (l.map (·.1)) (i:Int)=some (l[i]).1:=by rw[eS n];simp
   simp only[BK]
   rw[if_pos (by simp only[j6];omega),eS o]
   simp only[j0,ew,dG,pO]
   by_cases hs:kind≠3/\(l[i]).2.1≠pkg
   .rw[if_pos (show(kind !=3)=true by simp[hs.1])]
    simp only[j0]
    rw[if_pos (by simp[hs.2]),qEn hs.1 hs.2]
    refine⟨rfl,?_⟩
    obtain⟨g,c,a,d⟩:=k
    exact⟨g,c,a,by omega⟩
   .have d:kind=3\/(l[i]).2.1=pkg:=by
     by_cases h:kind=3
     .exact .inl h
     exact .inr (Decidable.byContradiction fun c=>hs ⟨h,c⟩)
    have a:=qKv (N:=N) (P:=(l.map (·.1),l.map (·.2))) (s1:=((i:Int),e.1,e.2.2.2.1,e.2.2.2.2.1,e.2.2.2.2.2)) (x:=(l[i]).2) (path:=(l[i]).1) (pkg:=pkg) ex d (s _ (jS hi)) r (b:=64*i) aa k
    have q:(if(kind !=3)=true then some (!decide ((l[i]).2.1=pkg)) else some false:Option Bool)=some false:=by
     rcases d with h|h
     .rw[if_neg (by simp[h])]
     by_cases p:kind=3
     .rw[if_neg (by simp[p])]
     rw[if_pos (by simp[p]),jL h];rfl
    rw[q]
    simp only[j0,j9,jD,a.1]
    refine⟨trivial,?_⟩
    rw[show 64*(i+1)=64*i+64 by omega]
    exact a.2) (by
   intro e _
   simp only[BK]
   rw[if_neg ad]) l.length 0 N (uB kind pkg name) aa aa ⟨rfl,rfl,fV _,fV _⟩
 rw[jV,XO] at h
 have a:(if(kind==3)=true then some (⟨#[]⟩:BA) else some pkg)=some (uB kind pkg name).1:=by
  unfold uB
  by_cases h:kind=3
  .rw[if_pos (by simp[h]),if_pos h];rfl
  rw[if_neg (by simp[h]),if_neg h]
 rw[a]
 simp only[j0]
 refine Eq.trans (congrArg (fun z=>Option.bind z _) (show aK (BK N (l.map (·.1),l.map (·.2)) kind pkg name) N (0,(uB kind pkg name).1,(⟨#[]⟩:BA),0,0)=_ from h.1)) ?_
 have g:=h.2.1
 have c:=h.2.2.1
 unfold lW
 simp only[j0]
 exact congrArg some (Prod.ext rfl (Prod.ext g.symm (Prod.ext c.symm rfl)))
theorem qOc(L:List bV):(xX L).length<=64/\∀x∈xX L,x.2.2.2.length<=64:=by
 unfold xX
 by_cases hc:nP L=0
 .rw[if_pos hc]
  refine⟨kV (ZI L) (tK.1 hc).1,fun x a=> ?_⟩
  obtain⟨f,_,_,rfl⟩:=MW a
  exact MS
 rw[if_neg hc];exact⟨kG _,fun x a=>by cases a⟩
def qL(E:BA->dS)(name:BA):List BA->List K3->dS×List K3×Int
 |[],acc=>(qM,acc,11)
 |p::l,acc=>
  if(E p).2.2.2.2.2=0 then qL E name l (acc++[(1,p,name)])
  else if 1<(E p).2.2.2.2.2 then(qM,acc++[(1,p,name)],12)
  else(E p,acc++[(1,p,name)],0)
theorem HM(L:List bV)(kind:Int)(pkg name:BA):0<=(cU L kind pkg name).2.2.2.2.2:=by
 unfold cU
 split
 .exact(QZ kind pkg name _).1
 exact fV _
def mY(E:BA->dS)(name:BA)(x:dS)(acc:List K3):List BA->dS×List K3×Nat
 |[]=>(x,acc,0)
 |p::l=>if(E p).2.2.2.2.2>0 then(E p,acc++[(1,p,name)],1) else mY E name (E p) (acc++[(1,p,name)]) l
def DY(r:dS×List K3×Nat):dS×List K3×Int:=
 if r.1.2.2.2.2.2=0 then(qM,r.2.1,11) else if 1<r.1.2.2.2.2.2 then(qM,r.2.1,12) else(r.1,r.2.1,0)
theorem qBj{E:BA->dS}(a:∀p,0<=(E p).2.2.2.2.2)(name:BA):∀(l:List BA) (x:dS) (acc:List K3),x.2.2.2.2.2=0->DY (mY E name x acc l)=qL E name l acc
 |[],x,acc,b=>by unfold mY DY qL;rw[if_pos b]
 |p::l,x,acc,b=>by
  unfold mY qL
  have h:=a p
  by_cases h0:(E p).2.2.2.2.2=0
  .rw[if_neg aa,if_pos h0];exact qBj a name l _ _ h0
  rw[if_pos aa,if_neg h0]
  unfold DY
  simp only
  rw[if_neg h0]
theorem ZE{E:BA->dS}(name:BA):∀(l:List BA) (x:dS) (acc:List K3),(mY E name x acc l).2.2=0\/(mY E name x acc l).2.2=1
 |[],x,acc=> .inl rfl
 |p::l,x,acc=>by
  unfold mY
  split
  .exact .inr rfl
  exact ZE name l _ _
theorem YA{N:Nat}{L:List bV}{f:Sr}{name:BA}(e:f.2.1.length<1000):∀(d i M:Nat) (x:dS) (acc:List K3),i+d=f.2.1.length->d<M->acc.length<=i+1->
  aK (GO N (iF L) f name) M ((i:Int),x.1,x.2.1,x.2.2.1,x.2.2.2.1,x.2.2.2.2.1,x.2.2.2.2.2,acc)=
  some (match(mY (fun p=>cU L 1 p name) name x acc (f.2.1.drop i)).2.2 with
   |0=> .inl ((mY (fun p=>cU L 1 p name) name x acc (f.2.1.drop i)).1.1,(mY (fun p=>cU L 1 p name) name x acc (f.2.1.drop i)).1.2.1,(mY (fun p=>cU L 1 p name) name x acc (f.2.1.drop i)).1.2.2.1,(mY (fun p=>cU L 1 p name) name x acc (f.2.1.drop i)).1.2.2.2.1,(mY (fun p=>cU L 1 p name) name x acc (f.2.1.drop i)).1.2.2.2.2.1,(mY (fun p=>cU L 1 p name) name x acc (f.2.1.drop i)).1.2.2.2.2.2,(mY (fun p=>cU L 1 p name) name x acc (f.2.1.drop i)).2.1)
   |n+1=> .inr ((mY (fun p=>cU L 1 p name) name x acc (f.2.1.drop i)).1.1,(mY (fun p=>cU L 1 p name) name x acc (f.2.1.drop i)).1.2.1,(mY (fun p=>cU L 1 p name) name x acc (f.2.1.drop i)).1.2.2.1,(mY (fun p=>cU L 1 p name) name x acc (f.2.1.drop i)).1.2.2.2.1,(mY (fun p=>cU L 1 p name) name x acc (f.2.1.drop i)).1.2.2.2.2.1,(mY (fun p=>cU L 1 p name) name x acc (f.2.1.drop i)).1.2.2.2.2.2,(mY (fun p=>cU L 1 p name) name x acc (f.2.1.drop i)).2.1,n+1))
 |_,_,0,_,_,_,h,_=>absurd h (gF _)
 |0,i,M+1,x,acc,a,b,c=>by
  simp only[aK,GO]
  rw[if_neg (by simp only[j6];omega),jP aa]
  rfl
 |d+1,i,M+1,x,acc,a,b,c=>by
  have hi:i<f.2.1.length:=by omega
  simp only[aK,GO]
  rw[if_pos (by simp only[j6];omega),eS hi,HH hi]
  have ew:IntKind.wrap .i64 ((i:Int)+1)=((i+1:Nat):Int):=by rw[bY aa aa];omega
  simp only[j0,ew]
  rw[lB (by simp only[jA,jB];omega) aa]
  simp only[j0]
  have eW:∀w:Wld,(w.1,w.2.1,w.2.2.1,w.2.2.2.1,w.2.2.2.2)=w:=fun _=>rfl
  simp only[eW,NJ,j0,mY]
  by_cases h:(cU L 1 (f.2.1[i]) name).2.2.2.2.2>0
  .rw[if_pos (jL h),if_pos h]
   rfl
  rw[if_neg (by simpa using h),if_neg h]
  simp only[j0]
  exact YA e d (i+1) M _ _ aa aa ag
theorem qNq{N:Nat}{L:List bV}{f:Sr}{name:BA}(e:f.2.1.length<1000)(g:1000<N):CJ N (iF L) f name=some (qL (fun p=>cU L 1 p name) name (f.1::f.2.1) []):=by
 rw[<-qBj (fun p=>HM L 1 p name) name (f.1::f.2.1) qM [] rfl]
 unfold CJ
 rw[lB (by simp only[jA,jB];omega) aa]
 have eW:∀w:Wld,(w.1,w.2.1,w.2.2.1,w.2.2.2.1,w.2.2.2.2)=w:=fun _=>rfl
 simp only[j0,eW,NJ,mY,kE]
 have fin:∀(r:dS×List K3×Nat),(r.2.2=0\/r.2.2=1)->
   (if r.2.2=0 then(if(r.1.2.2.2.2.2==0)=true then some (((⟨#[]⟩:BA),(⟨#[]⟩:BA),(0:Int),(⟨#[]⟩:BA),(0:Int),(0:Int)),r.2.1,(11:Int)) else(if(decide (r.1.2.2.2.2.2>1))=true then some (((⟨#[]⟩:BA),(⟨#[]⟩:BA),(0:Int),(⟨#[]⟩:BA),(0:Int),(0:Int)),r.2.1,(12:Int)) else some (r.1,r.2.1,(0:Int))))
    else(if r.2.2=1 then(if(r.1.2.2.2.2.2==0)=true then some (((⟨#[]⟩:BA),(⟨#[]⟩:BA),(0:Int),(⟨#[]⟩:BA),(0:Int),(0:Int)),r.2.1,(11:Int)) else(if(decide (r.1.2.2.2.2.2>1))=true then some (((⟨#[]⟩:BA),(⟨#[]⟩:BA),(0:Int),(⟨#[]⟩:BA),(0:Int),(0:Int)),r.2.1,(12:Int)) else some (r.1,r.2.1,(0:Int)))) else none))=some (DY r):=by
  intro r a
  have key:(if(r.1.2.2.2.2.2==0)=true then some (((⟨#[]⟩:BA),(⟨#[]⟩:BA),(0:Int),(⟨#[]⟩:BA),(0:Int),(0:Int)),r.2.1,(11:Int)) else(if(decide (r.1.2.2.2.2.2>1))=true then some (((⟨#[]⟩:BA),(⟨#[]⟩:BA),(0:Int),(⟨#[]⟩:BA),(0:Int),(0:Int)),r.2.1,(12:Int)) else some (r.1,r.2.1,(0:Int))))=some (DY r):=by
   unfold DY
   by_cases h0:r.1.2.2.2.2.2=0
   .rw[if_pos (by simp[h0]),if_pos h0];rfl
   rw[if_neg (by simp[h0]),if_neg h0]
   by_cases h1:1<r.1.2.2.2.2.2
   .rw[if_pos (jL h1),if_pos h1];rfl
   rw[if_neg (by simpa using h1),if_neg h1]
  rcases a with a|a
  .rw[if_pos a];exact key
  rw[if_neg aa,if_pos a];exact key
 by_cases h:(cU L 1 f.1 name).2.2.2.2.2>0
 .rw[if_pos (jL h),if_pos h]
  exact fin (cU L 1 f.1 name,[(1,f.1,name)],1) (.inr rfl)
 rw[if_neg (by simpa using h),if_neg h]
 have c:=YA (N:=N) (L:=L) (f:=f) (name:=name) e f.2.1.length 0 N (cU L 1 f.1 name) [(1,f.1,name)] aa aa ad
 rw[show((0:Nat):Int)=0 from rfl,jV] at c
 rw[c]
 have a:=ZE (E:=fun p=>cU L 1 p name) name f.2.1 (cU L 1 f.1 name) [(1,f.1,name)]
 have b:=fin _ a
 revert b
 generalize mY (fun p=>cU L 1 p name) name (cU L 1 f.1 name) [(1,f.1,name)] f.2.1=r at a ⊢
 obtain⟨k,l,d⟩:=r
 intro b
 rcases a with a|a
 .have a:d=0:=a
  subst a
  exact b
 have a:d=1:=a
 subst a
 exact b
theorem YQ{N:Nat}{w:Wld}{p:BA}(e:w.1.length<1000000):∀(d i M:Nat),i+d=w.1.length->d<M->aK (GH N w p) M (i:Int)=some (match lN (w.1.drop i) p with|some b=> .inr (b,true)|none=> .inl ())
 |_,_,0,_,h=>by omega
 |0,i,M+1,c,_=>by
  simp only[aK,GH]
  rw[if_neg (by simp only[j6];omega),jP aa]
  rfl
 |d+1,i,M+1,c,f=>by
  have hi:i<w.1.length:=by omega
  simp only[aK,GH]
  rw[if_pos (by simp only[j6];omega),eS hi,jH hi]
  simp only[j0,pO,j6,lN]
  by_cases he:(w.1[i]).1=p
  .rw[if_pos he,if_pos he];rfl
  rw[if_neg he,if_neg he,bY aa aa]
  have a:(i:Int)+1=((i+1:Nat):Int):=by omega
  simp only[j0]
  rw[a,YQ e d (i+1) M aa aa]
theorem qCb{N:Nat}{L:List bV}(p:BA)(b:L.length<=64)(a:100<N):uJ N (iF L) p=some (DV (lN L p)):=by
 have e:(iF L).1=L:=by unfold iF;split<;>rfl
 have:=YQ (N:=N) (w:=iF L) (p:=p) (by rw[e];omega) (iF L).1.length 0 N aa (by rw[e];omega)
 rw[show((0:Nat):Int)=0 from rfl,jV,e] at this
 simp only[uJ,this,j0]
 cases lN L p<;>rfl
end
section
open Go Go.Dc
def Ok{α:Type}(x:Option α)(Q:α->Prop):Prop:=∃a,x=some a/\Q a
section
variable {α β γ:Type} {Q:β->Prop}
theorem Ok.mk{a:β}(h:Q a):Ok (some a) Q:=⟨a,rfl,h⟩
theorem Ok.bind{x:Option α}{P:α->Prop}{f:α->Option β}(h:Ok x P)(k:∀a,P a->Ok (f a) Q):Ok (x.bind f) Q:=by
 obtain⟨a,rfl,b⟩:=h
 exact k a b
theorem Ok.mono{x:Option β}{P:β->Prop}(h:Ok x P)(k:∀a,P a->Q a):Ok x Q:=by
 obtain⟨a,e,b⟩:=h
 exact⟨a,e,k a b⟩
theorem Ok.assoc{x:Option α}{g:α->Option γ}{f:γ->Option β}(h:Ok (x.bind fun a=>(g a).bind f) Q):Ok ((x.bind g).bind f) Q:=by
 rw[gT];exact h
theorem Ok.ite{c:Prop}[Decidable c]{x y:Option β}(a:c->Ok x Q)(b:¬c->Ok y Q):Ok (if c then x else y) Q:=by
 by_cases h:c
 .rw[if_pos h];exact a h
 rw[if_neg h];exact b h
theorem Ok.iteb{c:Prop}[Decidable c]{x y:Option α}{f:α->Option β}(a:c->Ok (x.bind f) Q)(b:¬c->Ok (y.bind f) Q):Ok ((if c then x else y).bind f) Q:=by
 by_cases h:c
 .rw[if_pos h];exact a h
 rw[if_neg h];exact b h
theorem Ok.tt[Decidable (true=true)]{x y:Option β}(h:Ok x Q):Ok (if true=true then x else y) Q:=by rw[if_pos rfl];exact h
theorem Ok.ff[Decidable (false=true)]{x y:Option β}(h:Ok y Q):Ok (if false=true then x else y) Q:=by rw[if_neg gH];exact h
theorem Ok.ttb[Decidable (true=true)]{x y:Option α}{f:α->Option β}(h:Ok (x.bind f) Q):Ok ((if true=true then x else y).bind f) Q:=by rw[if_pos rfl];exact h
theorem Ok.ffb[Decidable (false=true)]{x y:Option α}{f:α->Option β}(h:Ok (y.bind f) Q):Ok ((if false=true then x else y).bind f) Q:=by rw[if_neg gH];exact h
theorem Ok.someb{a:α}{f:α->Option β}(h:Ok (f a) Q):Ok ((some a).bind f) Q:=h
theorem Ok.mapb{a:α}{g:α->γ}{f:γ->Option β}(h:Ok (f (g a)) Q):Ok (((some a).map g).bind f) Q:=h
theorem Ok.app{b:Nat}{l k:List α}{f:List α->Option β}(c:(l.length+k.length)*b<=140737488355328)(a:0<b)(h:Ok (f (l++k)) Q):Ok ((eQ b l k).bind f) Q:=by
 rw[lB c a];exact h
theorem Ok.loop{σ:Type}{f:σ->Option (σ⊕α)}{g:α->Option β}{s:σ}{N:Nat}(I:σ->Prop)(μ:σ->Nat)(R:α->Prop)
  (h:∀s,I s->Ok (f s) fun r=>match r with| .inl s'=>I s'/\μ s'<μ s| .inr b=>R b) (d:I s) (e:μ s<N) (k:∀b,R b->Ok (g b) Q):Ok ((aK f N s).bind g) Q:=by
 obtain⟨b,c,a⟩:=SL I μ R (fun s d=>by
  obtain⟨r,c,a⟩:=h s d
  cases r with
  |inl s'=>exact .inr ⟨s',c,a.1,a.2⟩
  |inr b=>exact .inl ⟨b,c,a⟩) N s d e
 rw[c];exact k b a
end
theorem qEp(a:Array UInt8):(⟨a⟩:BA).size=a.size:=rfl
theorem qOl{N:Nat}{v n:Int}(d:n<=9223372036854775807):∃r,LX N v n=some r/\0<=r/\(1<=n->r<n):=by
 simp only[LX]
 by_cases h:n<=1
 .exact⟨0,by simp[h],by omega,by omega⟩
 have a:n≠0:=by omega
 have b:=Int.tmod_lt_of_pos v (show 0<n by omega)
 have c:=Int.lt_tmod_of_pos v (show 0<n by omega)
 simp only[h,decide_false,j9,jD,yB,a,j0]
 by_cases h3:Int.tmod v n<0
 .refine⟨Int.tmod v n+n,?_,by omega,by omega⟩
  simp only[h3,decide_true,jE,j0]
  rw[bY aa aa]
 exact⟨Int.tmod v n,by simp only[h3,decide_false,j9,jD,j0],by omega,by omega⟩
theorem HP{N:Nat}{l:List Int}{a n:Int}(c:0<=a)(o:a<4611686018427387904)(f:n<=9223372036854775807):∃r,oM N (l,a) n=some ((l,a+1),r)/\0<=r/\(1<=n->r<n):=by
 simp only[oM]
 have b:∃v,(if(decide (a<(List.length l:Int)))=true then((bQ l a).bind fun k=>some k) else(some (Int.tmod (IntKind.wrap .i64 (a*7)) 11)):Option Int)=some v:=by
  by_cases h:a<(l.length:Int)
  .exact⟨_,by simp only[h,decide_true,jE];rw[SN c aa];rfl⟩
  exact⟨_,by simp only[h,decide_false,j9,jD];rfl⟩
 obtain⟨v,b⟩:=b
 obtain⟨r,g,d,e⟩:=qOl (N:=N) (v:=v) f
 exact⟨r,by simp only[b,j0,g];rw[bY aa aa],d,e⟩
section
variable {β:Type} {Q:β->Prop} {N:Nat} {l:List Int} {a:Int}
theorem Ok.next{n:Int}{f:(List Int×Int)×Int->Option β}(d:0<=a)(e:a<4611686018427387904)(g:1<=n)(o:n<=1000000)(h:∀r,0<=r->r<n->Ok (f ((l,a+1),r)) Q):Ok ((oM N (l,a) n).bind f) Q:=by
 obtain⟨r,k,b,c⟩:=HP (N:=N) (l:=l) d e (show n<=9223372036854775807 by omega)
 rw[k];exact h r b (c g)
theorem Ok.chance{n m:Int}{f:(List Int×Int)×Bool->Option β}(b:0<=a)(c:a<4611686018427387904)(o:1<=m)(e:m<=1000000)(h:∀r,Ok (f ((l,a+1),r)) Q):Ok ((rF N (l,a) n m).bind f) Q:=by
 obtain⟨r,d,g,k⟩:=HP (N:=N) (l:=l) b c (show m<=9223372036854775807 by omega)
 simp only[rF,d,j0]
 exact h _
theorem Ok.one{L:List BA}{f:(List Int×Int)×BA->Option β}(e:0<=a)(g:a<4611686018427387904)(o:0<L.length)(n:L.length<1000)(h:∀x∈L,Ok (f ((l,a+1),x)) Q):Ok ((mU N (l,a) L).bind f) Q:=by
 obtain⟨r,k,d,c⟩:=HP (N:=N) (l:=l) e g (show(L.length:Int)<=9223372036854775807 by omega)
 have c:=c aa
 have b:r.toNat<L.length:=by omega
 simp only[mU]
 rw[if_neg (by rw[kF];omega),k]
 simp only[j0]
 rw[SN d b]
 exact h _ (jS b)
theorem Ok.pick{L:List Int}{f:(List Int×Int)×Int->Option β}(e:0<=a)(g:a<4611686018427387904)(o:0<L.length)(n:L.length<1000)(h:∀x∈L,Ok (f ((l,a+1),x)) Q):Ok ((uI N (l,a) L).bind f) Q:=by
 obtain⟨r,k,d,c⟩:=HP (N:=N) (l:=l) e g (show(L.length:Int)<=9223372036854775807 by omega)
 have c:=c aa
 have b:r.toNat<L.length:=by omega
 simp only[uI]
 rw[if_neg (by rw[kF];omega),k]
 simp only[j0]
 rw[SN d b]
 exact h _ (jS b)
end
def pV:Nat->Nat
 |0=>8
 |d+1=>3*pV d+8
section
variable {N:Nat} {l:List Int}
theorem Ok.pick01{β:Type}{Q:β->Prop}{a:Int}{f:(List Int×Int)×Int->Option β}(b:0<=a)(c:a<4611686018427387904)(h:∀x:Int,x=0\/x=1->Ok (f ((l,a+1),x)) Q):Ok ((uI N (l,a) [0,0,0,1]).bind f) Q:=
 Ok.pick b c ac ac fun x d=>h x (by simp at d;omega)
theorem qTp{L:List BA}{x:BA}(a:L.length<1000000)(c:L.length<N):Ok (CH N L x) fun _=>True:=by
 unfold CH
 refine Ok.loop (fun st=>∃j:Nat,st=(j:Int)/\j<=L.length) (fun st=>L.length-st.toNat) (fun _=>True) ?_ ⟨0,rfl,kG _⟩ (by show L.length-(0:Int).toNat<N;omega) ?_
 .rintro _ ⟨j,rfl,d⟩
  simp only[PP]
  by_cases h:j<L.length
  .rw[if_pos (by simpa using h),eS h]
   simp only[j0]
   refine Ok.ite (fun _=>Ok.mk trivial) fun _=>Ok.mk ⟨⟨j+1,by rw[bY aa aa];omega,by omega⟩,?_⟩
   rw[bY aa aa];omega
  rw[if_neg (by simpa using h)];exact Ok.mk trivial
 intro b _
 cases b<;>exact Ok.mk trivial
theorem Ok.has{β:Type}{Q:β->Prop}{L:List BA}{x:BA}{f:Bool->Option β}(a:L.length<1000000)(c:L.length<N)(h:∀b,Ok (f b) Q):Ok ((CH N L x).bind f) Q:=Ok.bind (qTp a c) fun b _=>h b
end
theorem HE{N:Nat}{L:List bV}{p b:BA}(s:L.length<1000000)(n:Asc L):∀(d i M:Nat) (done:Bool) (acc:List bV),i+d=L.length->d<M->acc.length<=i+done.toNat->(done=true->∀f∈L.drop i,f.1≠p)->
  Ok (aK (FO N L (p,b)) M (done,(i:Int),acc)) fun o=>o.2.length<=L.length+1/\(if o.1=true then o.2 else o.2++[(p,b)])=acc++(if done=true then L.drop i else mX (L.drop i) p b)
 |_,_,0,_,_,_,h,_,_=>by omega
 |0,i,M+1,done,acc,v,_,g,_=>by
  refine⟨(done,acc),?_,by simp only;cases done<;>simp only[Bool.toNat_true,Bool.toNat_false] at g<;>omega,?_⟩
  .simp only[aK,FO]
   rw[if_neg (by simp only[j6];omega)]
   rfl
  rw[jP aa]
  cases done<;>simp[mX]
 |d+1,i,M+1,done,acc,v,x,g,r=>by
  have hi:i<L.length:=by omega
  have u:(i:Int)+1=((i+1:Nat):Int):=by omega
  have t:∀f∈L.drop (i+1),blt (L[i]).1 f.1=true:=by
   have:=(jW.1 (by rw[<-jH hi];exact List.Pairwise.sublist (List.drop_sublist _ _) n:Asc (L[i]::L.drop (i+1)))).1
   exact this
  simp only[aK,FO]
  rw[if_pos (by simp only[j6];omega),eS hi,bY aa aa,u]
  rw[jH hi] at r ⊢
  simp only[j0,pO]
  cases done with
  |true=>
   simp only[Bool.toNat_true] at g
   have a:=r rfl _ (jO ..)
   have k:=HE (N:=N) (p:=p) (b:=b) s n d (i+1) M true (acc++[((L[i]).1,(L[i]).2)]) aa aa ag (fun h f q=>r rfl f (jQ _ q))
   simp only[kJ,j9,jD,j0]
   rw[if_pos (by simp[a]),lB (by simp only[jA,jB];omega) aa]
   simp only[j0]
   refine k.mono fun o c=>⟨c.1,?_⟩
   rw[c.2];simp only[jE,kT,fA,kE]
  |false=>
   simp only[Bool.toNat_false] at g
   simp only[kA,jE,j0]
   rcases NA p (L[i]).1 with h|h|h
   .have h':Op.bytesLess p.toList (L[i]).1.toList=true:=h
    have a:(L[i]).1≠p:=fun e=>OC h e.symm
    have k:=HE (N:=N) (p:=p) (b:=b) s n d (i+1) M true ((acc++[(p,b)])++[((L[i]).1,(L[i]).2)]) aa aa ag (fun _ f q e=>by
     have:=CU h (t f q);rw[e,zD] at this;cases this)
    rw[h',Bool.true_or,if_pos rfl,lB (by simp only[jA,jB];omega) aa]
    simp only[j0]
    rw[if_pos (by simp[a]),lB (by simp only[jF,jA,jB];omega) aa]
    simp only[j0]
    refine k.mono fun o c=>⟨c.1,?_⟩
    have l:mX (L[i]::L.drop (i+1)) p b=(p,b)::L[i]::L.drop (i+1):=by rw[mX,if_pos h]
    rw[c.2,l];simp only[jE,kT,fA,kE,j9,jD]
   .have k:=HE (N:=N) (p:=p) (b:=b) s n d (i+1) M true (acc++[(p,b)]) aa aa ag (fun _ f q e=>by
     have:=t f q;rw[<-h,e,zD] at this;cases this)
    rw[jL h,Bool.or_true,if_pos rfl,lB (by simp only[jA,jB];omega) aa]
    simp only[j0]
    rw[if_neg (by simp[h])]
    simp only[j0]
    refine k.mono fun o c=>⟨c.1,?_⟩
    have l:mX (L[i]::L.drop (i+1)) p b=(p,b)::L.drop (i+1):=by rw[mX,if_neg (by rw[h,zD];simp),if_pos h.symm]
    rw[c.2,l];simp only[jE,kT,fA,kE,j9,jD]
   have a:(L[i]).1≠p:=OC h
   have h':Op.bytesLess p.toList (L[i]).1.toList=false:=ZM h
   have k:=HE (N:=N) (p:=p) (b:=b) s n d (i+1) M false (acc++[((L[i]).1,(L[i]).2)]) aa aa ag (fun h=>by cases h)
   rw[h',jR (fun e=>a e.symm),Bool.or_false,if_neg ad]
   simp only[j0]
   rw[if_pos (by simp[a]),lB (by simp only[jA,jB];omega) aa]
   simp only[j0]
   refine k.mono fun o c=>⟨c.1,?_⟩
   have l:mX (L[i]::L.drop (i+1)) p b=L[i]::mX (L.drop (i+1)) p b:=by rw[mX,if_neg (by rw[show blt p (L[i]).1=false from h'];simp),if_neg a]
   rw[c.2,l];simp only[kT,fA,kE,j9,jD]
theorem wA{N:Nat}{L:List bV}(p b:BA)(g:L.length<1000000)(f:Asc L)(e:L.length<N):rH N L (p,b)=some (mX L p b):=by
 obtain⟨o,c,k,a⟩:=HE (N:=N) (p:=p) (b:=b) g f L.length 0 N false [] aa e ad (fun h=>by cases h)
 simp only[rH]
 rw[show((0:Nat):Int)=0 from rfl] at c
 rw[c]
 simp only[jV,kE,j9,jD] at a
 simp only[j0]
 cases d:o.1 with
 |true=>rw[d] at a;simp only[jE] at a;simp[a]
 |false=>
  rw[d] at a
  simp only[j9,jD] at a
  simp only[kA,jE]
  rw[lB (by simp only[jA,jB];omega) aa,a]
  rfl
def srcL:List BA:=[(⟨#[97,46,115,114,99]⟩:BA),(⟨#[98,46,115,114,99]⟩:BA),(⟨#[100,47,99,46,115,114,99]⟩:BA),(⟨#[120,46,115,114,99]⟩:BA)]
def datL:List BA:=[(⟨#[97,46,100,97,116]⟩:BA),(⟨#[100,47,98,46,100,97,116]⟩:BA),(⟨#[99]⟩:BA)]
theorem qDa:(srcL.all fun p=>iV p.data.toList)=true:=by kernel_rfl
theorem qDi:(datL.all fun p=>iV p.data.toList)=true:=by kernel_rfl
def Made(L:List bV):Prop:=Asc L/\∀f∈L,f.1∈srcL++datL/\f.2.size<=4700
theorem Made.put{L:List bV}(h:Made L){p b:BA}(d:p∈srcL++datL)(c:b.size<=4700):Made (mX L p b):=
 ⟨h.1.put p b,fun f a=>by
  rcases HR a with rfl|a
  .exact⟨d,c⟩
  exact h.2 f a⟩
theorem Made.path{L:List bV}(h:Made L){f:bV}(a:f∈L):iV f.1.data.toList=true:=by
 rcases gN.1 (h.2 f a).1 with h|h
 .exact jN.1 qDa _ h
 exact jN.1 qDi _ h
theorem qPs{N:Nat}{y1:List BA}{s1:Int×(List (BA×BA))×List (Int)×Int}:KO N y1 s1=
 if(decide (s1.1<(List.length y1:Int)))=true then(((bQ y1 s1.1).bind fun c=>(rF N (s1.2.2.1,s1.2.2.2) 3 4).bind fun a=>if a.2=true then((yT N).bind fun d=>(mU N (a.1.1,a.1.2) d).bind fun b=>(yW N (b.1.1,b.1.2) b.2).bind fun y5=>(rH N s1.2.1 (c,y5.2)).bind fun e=>some (e,y5.1.1,y5.1.2)) else(some (s1.2.1,a.1.1,a.1.2)):Option ((List (BA×BA))×List (Int)×Int)).bind fun o2=>some (.inl (IntKind.wrap .i64 (s1.1+1),o2.1,o2.2.1,o2.2.2))) else(some (.inr (s1.2.1,s1.2.2.1,s1.2.2.2))):=rfl
theorem qPr{N:Nat}{s2:Int×(List (BA×BA))×List (Int)×Int}:OX N s2=
 if(decide (s2.1<(List.length datL:Int)))=true then(((bQ datL s2.1).bind fun c=>(rF N (s2.2.2.1,s2.2.2.2) 1 3).bind fun a=>if a.2=true then((CF N (a.1.1,a.1.2)).bind fun b=>(rH N s2.2.1 (c,b.2)).bind fun d=>some (d,b.1.1,b.1.2)) else(some (s2.2.1,a.1.1,a.1.2)):Option ((List (BA×BA))×List (Int)×Int)).bind fun o4=>some (.inl (IntKind.wrap .i64 (s2.1+1),o4.1,o4.2.1,o4.2.2))) else(some (.inr (s2.2.1,s2.2.2.1,s2.2.2.2))):=rfl
theorem qLp(l:List UInt8):(oQ l).size=l.length:=by simp[oQ,ByteArray.size]
theorem qCd{N:Nat}{l:List Int}{a:Int}(p:100<N)(k:0<=a)(o:a<1000000000000000000):Ok (CF N (l,a)) fun y=>∃a' s,y=((l,a'),s)/\a<=a'/\a'<=a+10/\s.size<=10:=by
 simp only[CF]
 refine Ok.next aa aa aa aa fun r g h=> ?_
 dsimp only
 simp only[PJ]
 refine Ok.assoc ?_
 refine Ok.loop (fun st=>∃L n a',st=(L,n,l,a')/\0<=n/\n<=r/\(L.length:Int)=n/\a<=a'/\a'<=a+1+n) (fun st=>(r-st.2.1).toNat) (fun b=>∃L a',b=(L,l,a')/\L.length<=4/\a<=a'/\a'<=a+5) ?_ ⟨[],0,a+1,rfl,by omega,by omega,rfl,by omega,by omega⟩ (by dsimp only;omega) ?_
 .rintro _ ⟨L,n,a',rfl,t,u,v,x,z⟩
  have c:ByteArray.size (⟨#[97,98,0,255,48]⟩:BA)=5:=rfl
  simp only[OW,c]
  by_cases hn:n<r
  .rw[if_pos (by simpa using hn)]
   refine Ok.next aa aa aa aa fun q d v2=> ?_
   dsimp only
   have e:q.toNat<ByteArray.size (⟨#[97,98,0,255,48]⟩:BA):=by rw[c];omega
   have f:eX (⟨#[97,98,0,255,48]⟩:BA) q=some ((⟨#[97,98,0,255,48]⟩:BA)[q.toNat]):=by
    have:=SS e
    rw[Int.toNat_of_nonneg d] at this
    exact this
   rw[f]
   refine Ok.someb (Ok.app (by simp only[jA,jB];omega) ac (Ok.mk ?_))
   dsimp only
   rw[bY aa aa]
   exact⟨⟨_,_,_,rfl,by omega,by omega,by simp only[jF,jA,jB];omega,by omega,by omega⟩,by omega⟩
  rw[if_neg (by simpa using hn)]
  exact Ok.mk ⟨L,a',rfl,by omega,by omega,by omega⟩
 rintro _ ⟨L,a',rfl,d,v2,c⟩
 refine Ok.someb (Ok.mk ?_)
 dsimp only
 refine⟨_,_,rfl,?_,?_,?_⟩
 .omega
 .omega
 rw[qLp];omega
theorem Made.wf{L:List bV}(h:Made L)(b:L.length<=64):WF L:=⟨b,h.1,fun f a=>⟨h.path a,kV (h.2 f a).2 ac⟩⟩
def MadeE(K:Nat)(L:List bV):Prop:=Asc L/\∀f∈L,iV f.1.data.toList=true/\f.2.size<=K
theorem Made.e{L:List bV}(h:Made L):MadeE 4700 L:=⟨h.1,fun f a=>⟨h.path a,(h.2 f a).2⟩⟩
theorem MadeE.put{K:Nat}{L:List bV}(h:MadeE K L){p b:BA}(d:iV p.data.toList=true)(c:b.size<=K):MadeE K (mX L p b):=
 ⟨h.1.put p b,fun f a=>by
  rcases HR a with rfl|a
  .exact⟨d,c⟩
  exact h.2 f a⟩
theorem MadeE.del{K:Nat}{L:List bV}(h:MadeE K L)(p:BA):MadeE K (vE L p):=⟨h.1.del p,fun f a=>h.2 f (gM.1 a).1⟩
theorem MadeE.more{K K':Nat}{L:List bV}(h:MadeE K L)(b:K<=K'):MadeE K' L:=⟨h.1,fun f a=>⟨(h.2 f a).1,kV (h.2 f a).2 b⟩⟩
theorem MadeE.wf{K:Nat}{L:List bV}(h:MadeE K L)(b:K<=16384)(c:L.length<=64):WF L:=⟨c,h.1,fun f a=>⟨(h.2 f a).1,kV (h.2 f a).2 b⟩⟩
theorem ZQ{N:Nat}{L:List bV}{p:BA}(g:L.length<1000000)(d:L.length<N):GJ N L p=some (vE L p):=by
 have h:=zB (L:=L) (fun(t:List bV) i=>((i:Int),t)) (f:=FM N L p) (fun t f=>(.inl (if decide (f.1≠p)=true then t++[f] else t):List bV⊕List bV)) (fun t=>t) (fun i t=>t.length<=i) (fun t i hi e=>by
   have b:((i:Int)<(L.length:Int)):=by omega
   have w:IntKind.wrap .i64 ((i:Int)+1)=((i+1:Nat):Int):=by rw[bY aa aa];omega
   simp only[FM,b,decide_true,jE,eS hi,j0,w,pO]
   by_cases hp:L[i].1=p
   .simp[hp]
   .simp only[hp,decide_false,kA,jE,ne_eq,not_false_eq_true,decide_true]
    rw[lB (by simp only[jA,jB];omega) ac]
    rfl) (fun t i hi t' e c=>by
   simp only[Sum.inl.injEq] at c
   subst c
   split
   .simp only[jF,jA,jB];omega
   .omega) (fun t _=>by
   have b:¬((L.length:Int)<(L.length:Int)):=by omega
   simp only[FM,b,decide_false,j9,jD]) (t:=[]) d (kG _)
 rw[show((0:Nat):Int)=0 from rfl] at h
 have b:=zJ (step:=fun(t:List bV) (f:bV)=>(.inl (if decide (f.1≠p)=true then t++[f] else t):List bV⊕List bV)) (fin:=fun t=>t) (fun(t:List bV) (f:bV)=>if decide (f.1≠p)=true then t++[f] else t) (fun _ _=>rfl) L []
 unfold GJ
 rw[h,b]
 simp only[j0]
 congr 1
 have:∀(a t:List bV),a.foldl (fun t f=>if decide (f.1≠p)=true then t++[f] else t) t=t++vE a p:=by
  intro a
  induction a with
  |nil=>intro t;simp[vE]
  |cons x a c=>
   intro t
   rw[kC,c]
   unfold vE
   rw[kZ]
   split<;>simp
 rw[this];rfl
theorem qCx(L:List bV)(p:BA):(vE L p).length<=L.length:=fU _ _
section
variable {N:Nat} {l:List Int} {a:Int} {K:Nat} {L:List bV}
theorem MV{f:Int->Option (Int⊕(Unit⊕((List Int×Int)×List bV)))}{Q:(List Int×Int)×List bV->Prop}{p:BA}(n:L.length<=100)(l:200<N)
  (g:∀j,∀d:j<L.length,L[j].1=p->Ok (f (j:Int)) fun r=>∃z,r= .inr (.inr z)/\Q z) (h:∀j,∀d:j<L.length,¬L[j].1=p->f (j:Int)=some (.inl ((j+1:Nat):Int))) (e:f (L.length:Int)=some (.inr (.inl ()))):
  Ok (aK f N 0) fun o=>o= .inl ()\/∃z,o= .inr z/\Q z:=by
 obtain⟨b,a,c⟩:=SL (f:=f) (fun s=>∃j:Nat,s=(j:Int)/\j<=L.length) (fun s=>L.length-s.toNat) (fun o=>o= .inl ()\/∃z,o= .inr z/\Q z) (fun s k=>by
  obtain⟨j,rfl,d⟩:=k
  by_cases hlt:j<L.length
  .by_cases hp:L[j].1=p
   .obtain⟨r,a,z,rfl,c⟩:=g j hlt hp
    exact .inl ⟨_,a,.inr ⟨z,rfl,c⟩⟩
   exact .inr ⟨_,h j hlt hp,⟨j+1,rfl,hlt⟩,by simp only[jZ];omega⟩
  have:j=L.length:=by omega
  subst this
  exact .inl ⟨_,e,.inl rfl⟩) N 0 ⟨0,rfl,kG _⟩ (by simp only[Int.toNat_zero];omega)
 exact⟨b,a,c⟩
theorem qSs(M:Nat):rX (M+1) 0=some (⟨#[48]⟩:BA)/\rX (M+1) 1=some (⟨#[49]⟩:BA)/\rX (M+1) 2=some (⟨#[50]⟩:BA):=⟨by kernel_rfl,by kernel_rfl,by kernel_rfl⟩
theorem DB{x y z:BA}(h:x++y=z)(a:x.size+y.size<=1000):dM x y=some z:=by
 unfold dM
 rw[if_pos (by simp only[maxLen];omega),h]
theorem qUg{x:Int}(d:0<=x)(e:x<3){M:Nat}:∃s t p:BA,rX (M+1) x=some s/\dM (⟨#[122]⟩:BA) s=some t/\dM t (⟨#[46,115,114,99]⟩:BA)=some p/\iV p.data.toList=true:=by
 obtain⟨d0,a,b⟩:=qSs M
 have c:x=0\/x=1\/x=2:=by omega
 rcases c with rfl|rfl|rfl
 .exact⟨_,⟨#[122,48]⟩,⟨#[122,48,46,115,114,99]⟩,d0,DB ae ac,DB ae ac,by kernel_rfl⟩
 .exact⟨_,⟨#[122,49]⟩,⟨#[122,49,46,115,114,99]⟩,a,DB ae ac,DB ae ac,by kernel_rfl⟩
 exact⟨_,⟨#[122,50]⟩,⟨#[122,50,46,115,114,99]⟩,b,DB ae ac,DB ae ac,by kernel_rfl⟩
theorem qBa{p:BA}(h:p∈srcL):iV p.data.toList=true:=jN.1 qDa p h
theorem qBw{p:BA}(h:p∈datL):iV p.data.toList=true:=jN.1 qDi p h
end
end
section
open Go Go.Dc Go.Proofs
def tW{α:Type}[DecidableEq α](b:α->α->Bool)(e:α):List α->List α
 |[]=>[e]
 |x::l=>if b x e=true then x::tW b e l else if x=e then x::l else e::x::l
theorem qBr{α:Type}[DecidableEq α]{b:α->α->Bool}{e z:α}:∀{l:List α},z∈tW b e l↔z=e\/z∈l
 |[]=>by simp[tW]
 |x::l=>by
  have a:=qBr (b:=b) (e:=e) (z:=z) (l:=l)
  simp only[tW]
  split
  .rw[jJ,a,jJ]
   constructor
   .rintro(h|h|h)
    .exact .inr (.inl h)
    .exact .inl h
    exact .inr (.inr h)
   rintro(h|h|h)
   .exact .inr (.inl h)
   .exact .inl h
   exact .inr (.inr h)
  split
  .rename_i h
   constructor
   .exact .inr
   rintro(g|g)
   .rw[g,<-h];exact jO ..
   exact g
  exact jJ
theorem NG{α:Type}[DecidableEq α]{b:α->α->Bool}{e:α}:∀{l:List α},(tW b e l).length<=l.length+1
 |[]=>jM _
 |x::l=>by
  have a:=NG (b:=b) (e:=e) (l:=l)
  simp only[tW]
  split
  .simp only[jA];omega
  split
  .simp only[jA];omega
  simp only[jA];omega
def UN(k:Int)(p n:BA)(e:dS):Prop:=e.2.1=n/\e.2.2.1=k/\(k=3\/e.1=p)
theorem qKh(O:List nC)(k:Int)(p n:BA):UN k p n (lW O k p n):=by
 suffices h:∀(O:List nC) (e:dS),UN k p n e->UN k p n (O.foldl (lJ k p n) e) from h O _ ⟨rfl,rfl,by
  unfold uB
  by_cases h:k=3
  .exact .inl h
  exact .inr (if_neg h)⟩
 intro O
 induction O with
 |nil=>intro e h;exact h
 |cons o O c=>
  intro e h
  rw[kC]
  refine c _ ?_
  unfold lJ
  split
  .rename_i hk
   obtain⟨b,d,a⟩:=HS (show nL o.2.2.1 o.1 o.2.1=nL k p n from hk)
   split
   .exact⟨rfl,rfl,by rw[<-b];rcases a with a|a;exact .inl a;exact .inr a⟩
   exact h
  exact h
theorem qBn:∀(l:List (BA×Sr)) (S:List (BA×Sr)) (c:BA),(S.map (·.1)).Nodup->(l.map (·.1)).Nodup->
  ((l.foldl (fun S x=>mset S x.1 x.2) S).map (·.1)).Nodup/\(∀v,(c,v)∈l->dO (l.foldl (fun S x=>mset S x.1 x.2) S) c=some v)/\((∀v,(c,v)∉l)->dO (l.foldl (fun S x=>mset S x.1 x.2) S) c=dO S c)
 |[],S,c,b,_=>⟨b,(fun v h=>by cases h),fun _=>rfl⟩
 |x::l,S,c,b,d=>by
  rw[kI,gV] at d
  obtain⟨g,k,f⟩:=qBn l (mset S x.1 x.2) c (QX b _ _) d.2
  rw[kC]
  refine⟨g,fun v a=> ?_,fun a=> ?_⟩
  .rcases jJ.1 a with e|a
   .subst e
    rw[f fun v' h'=>d.1 (fC.2 ⟨_,h',rfl⟩),RE b,if_pos rfl]
   exact k v a
  rw[f fun v h=>a v (jQ _ h),RE b,if_neg]
  rintro rfl
  exact a x.2 (jO ..)
theorem qKb{L:List bV}(a:Asc L):((iB L).map (·.1)).Nodup:=by
 unfold iB
 rw[List.map_map]
 exact List.pairwise_map.2 ((List.Pairwise.filter _ a).imp fun h=>OC h)
def UM(L:List bV):List (BA×Sr):=(iB L).foldl (fun S x=>mset S x.1 x.2) []
theorem qLl{L:List bV}(a:Asc L){f:bV}(d:f∈L):dO (UM L) f.1=if pX f=true then some (lL f.2).1 else none:=by
 have h:=qBn (iB L) [] f.1 List.nodup_nil (qKb a)
 unfold UM
 by_cases hg:pX f=true
 .rw[if_pos hg]
  exact h.2.1 _ (fC.2 ⟨f,gM.2 ⟨d,hg⟩,rfl⟩)
 rw[if_neg hg,h.2.2 (fun v o=> ?_)]
 .rfl
 obtain⟨f',l,c,n⟩:=MW o
 have e:f'.1=f.1:=(congrArg Prod.fst n).symm
 have k:f'=f:=by
  have b:=QW a l
  have g:=QW a d
  rw[e,g] at b
  exact Prod.ext e (jC b).symm
 rw[k] at c;exact hg c
section
variable {κ ν:Type} [DecidableEq κ]
theorem ZP:∀(l:List (κ×ν)) (k:κ) (v:ν),(nQ l k v).length<=l.length+1
 |[],k,v=>by simp[nQ]
 |p::l,k,v=>by
  have:=ZP l k v
  simp only[nQ]
  split
  .simp
  simp only[jA];omega
theorem qPg[KOrd κ]{l:List (κ×ν)}(a:(l.map (·.1)).Nodup)(k:κ)(v:ν):(mset l k v).length<=l.length+1:=by
 have b:=(zF (.refl l) a k v).length_eq
 have c:=ZP l k v
 omega
end
def rP{α:Type}(b:α->α->Bool)(e:α):List α->Nat
 |[]=>0
 |x::l=>if b x e=true then rP b e l+1 else 0
theorem qCp{α:Type}{b:α->α->Bool}{e:α}:∀(l:List α),rP b e l<=l.length
 |[]=>jM _
 |x::l=>by
  have:=qCp (b:=b) (e:=e) l
  simp only[rP,jA]
  split<;>omega
theorem qBu{α:Type}[DecidableEq α]{b:α->α->Bool}{e:α}:∀(l:List α),tW b e l=if l[rP b e l]? =some e then l else l.take (rP b e l)++e::l.drop (rP b e l)
 |[]=>by simp[tW,rP]
 |x::l=>by
  simp only[tW,rP]
  by_cases h:b x e=true
  .simp only[h,jE,List.getElem?_cons_succ,List.take_succ_cons,List.drop_succ_cons]
   rw[qBu l]
   split<;>rfl
  have h':b x e=false:=by simpa using h
  simp only[h',j9,jD,List.getElem?_cons_zero,jG,List.take_zero,jV,kE]
theorem ZY{α:Type}{b:α->α->Bool}{e:α}{L:List α}{f:Int->Option (Int⊕Int)}(k:L.length<1000000)
  (a:∀i,∀hi:i<L.length,f (i:Int)=some (if b L[i] e=true then .inl ((i+1:Nat):Int) else .inr (i:Int))) (c:f (L.length:Int)=some (.inr (L.length:Int))):∀(d i M:Nat),i+d=L.length->d<M->aK f M (i:Int)=some ((i+rP b e (L.drop i):Nat):Int)
 |_,_,0,_,h=>absurd h (gF _)
 |0,i,M+1,g,_=>by
  have:i=L.length:=by omega
  subst this
  simp only[aK,c,j0,hD,rP,gQ]
 |d+1,i,M+1,g,l=>by
  have hi:i<L.length:=by omega
  simp only[aK,a i hi,j0]
  rw[HH hi]
  simp only[rP]
  by_cases hb:b L[i] e=true
  .rw[if_pos hb,if_pos hb]
   simp only
   rw[ZY k a c d (i+1) M aa aa]
   congr 2;omega
  rw[if_neg hb,if_neg hb]
  rfl
theorem qDk{α:Type}{by_:Nat}{L:List α}{x z:α}{k:Nat}(d:k<=L.length)(q:0<by_)(c:by_<=100)(r:L.length<1000000):
  ((eQ by_ L [z]).bind fun b=>(rR b (IntKind.wrap .i64 ((k:Int)+1)) (List.length b:Int)).bind fun _=>(rR b (k:Int) (List.length b:Int)).bind fun _=>(wN b (IntKind.wrap .i64 ((k:Int)+1)) (k:Int)).bind fun g=>(bQ g (k:Int)).bind fun _=>some (List.set g (Int.toNat (k:Int)) x))=some (L.take k++x::L.drop k):=by
 have w:IntKind.wrap .i64 ((k:Int)+1)=((k+1:Nat):Int):=by rw[bY aa aa];omega
 have s:(L.length+1)*by_<=(L.length+1)*100:=Nat.mul_le_mul_left _ c
 rw[w,lB (by simp only[jA,jB,kU];omega) q]
 simp only[j0]
 have a:(L++[z]).length=L.length+1:=by simp
 have h:rR (L++[z]) ((k+1:Nat):Int) ((L++[z]).length:Int)=some ():=by unfold rR;rw[if_pos (by rw[a];omega)]
 have l:rR (L++[z]) (k:Int) ((L++[z]).length:Int)=some ():=by unfold rR;rw[if_pos (by rw[a];omega)]
 have n:wN (L++[z]) ((k+1:Nat):Int) (k:Int)=some (sK (L++[z]) (k+1) k):=by unfold wN;rw[if_pos (by rw[a];omega)];rfl
 simp only[h,l,n,j0]
 have e:sK (L++[z]) (k+1) k=(L++[z]).take (k+1)++L.drop k:=by
  have t1:((L++[z]).drop k).take (L.length-k)=L.drop k:=by
   rw[gD d,kN (by rw[kO];omega),gX (by rw[kO];omega)]
  have t2:(L++[z]).drop (L.length+1)=[]:=List.drop_of_length_le (by rw[a];omega)
  unfold sK
  rw[a,show min (L.length+1-k) (L.length+1-(k+1))=L.length-k by omega,show k+1+(L.length-k)=L.length+1 by omega,t1,t2,gO]
 have f:k<(sK (L++[z]) (k+1) k).length:=by rw[e];simp only[jF,fO,jA,jB,kO];omega
 rw[eS f]
 simp only[j0,jZ]
 congr 1
 rw[e]
 have o:(L++[z]).take (k+1)=L.take k++[((L++[z])[k]'(by rw[a];omega))]:=by
  rw[kS (by rw[a];omega),kN d]
 rw[o,kT,List.set_append_right _ _ (by simp only[fO];omega)]
 have p:k-(L.take k).length=0:=by simp only[fO];omega
 rw[p];rfl
def JA(e:dS):nC:=(e.1,e.2.1,e.2.2.1,e.2.2.2.1,e.2.2.2.2.1)
theorem qQk{O:List nC}{k:Int}{p n:BA}(h:(lW O k p n).2.2.2.2.2≠0):∃o∈O,sL o=nL k p n/\JA (lW O k p n)=o:=by
 suffices g:∀(O J:List nC) (e:dS),(0<=e.2.2.2.2.2)->(e.2.2.2.2.2≠0->∃o∈J,sL o=nL k p n/\JA e=o)->(O.foldl (lJ k p n) e).2.2.2.2.2≠0->∃o∈J++O,sL o=nL k p n/\JA (O.foldl (lJ k p n) e)=o by
  have:=g O [] (uB k p n) (fV 0) (fun h=>absurd rfl h) h
  rwa[kE] at this
 intro O
 induction O with
 |nil=>intro J e _ b c;rw[gO];exact b c
 |cons o O r=>
  intro J e q b c
  rw[show J++o::O=(J++[o])++O by simp,kC]
  rw[kC] at c
  refine r (J++[o]) (lJ k p n e o) ?_ ?_ c
  .unfold lJ
   split
   .split
    .exact(show(0:Int)<=1 by decide)
    simp only[];omega
   exact q
  unfold lJ
  by_cases hk:sL o=nL k p n
  .rw[if_pos hk]
   by_cases a:e.2.2.2.2.2=0
   .rw[if_pos a]
    intro _
    obtain⟨d,f,-⟩:=HS (show nL o.2.2.1 o.1 o.2.1=nL k p n from hk)
    refine⟨o,by simp,hk,?_⟩
    unfold JA
    simp only
    rw[<-d,<-f]
   rw[if_neg a]
   intro _
   obtain⟨o',d,f,l⟩:=b a
   exact⟨o',kW _ d,f,l⟩
  rw[if_neg hk]
  intro a
  obtain⟨o',d,f,l⟩:=b a
  exact⟨o',kW _ d,f,l⟩
theorem ZD{path pkg:BA}{o:nC}:∀{l:List Dl} {i:Nat},o∈oB path pkg i l->∃j d,l[j]? =some d/\o=(pkg,d.2.1,d.1,path,((i+j:Nat):Int))
 |[],_,h=>by cases h
 |d::l,i,h=>by
  rcases jJ.1 h with rfl|h
  .exact⟨0,d,rfl,rfl⟩
  obtain⟨j,d',a,b⟩:=ZD h
  exact⟨j+1,d',by simpa using a,by rw[b,show i+1+j=i+(j+1) by omega]⟩
theorem qMe{L:List bV}{o:nC}(h:o∈iP (iB L)):∃f∈L,pX f=true/\∃(j:Nat) (d:Dl),(lL f.2).1.2.2[j]? =some d/\o=((lL f.2).1.1,d.2.1,d.1,f.1,(j:Int)):=by
 unfold iP at h
 obtain⟨x,g,h⟩:=fN.1 h
 obtain⟨f,c,e,rfl⟩:=MW g
 obtain⟨j,d,a,b⟩:=ZD h
 exact⟨f,c,e,j,d,a,by rw[b,kU]⟩
abbrev EKy:=Int×BA×BA
abbrev IY:=BA×BA×Int×BA×Int×Int
abbrev EEx:=Int×Int×Int×BA×List Int
abbrev UW:=Int×BA×List BA×List EEx
abbrev UT:=BA×List BA×List UW
abbrev AA:=List (BA×BA)×Bool×Option (List (BA×UT))×List BA×Option (List (EKy×IY))
abbrev EI:=Option (List (EKy×Bool))
abbrev nA:=EI×Int×Int×Bool
abbrev pI:=(Int×nA)⊕(nA×Int)
abbrev JJ:=UT×UW×List Int
abbrev OM:=AA×List (BA×Int)×Int×EI×Int×Int×Bool×Option (List (Int×Option Nat))
def ndC:Option (List (Int×Option Nat)):=some [(1,some 45),(2,some 46),(3,some 47),(4,some 48),(5,some 49),(6,some 50),(7,some 51),(8,some 52),(9,some 53),(10,some 54)]
abbrev dP(W:AA)(env:List (BA×Int))(w:Int)(t:nA):OM:=(W,env,w,t.1,t.2.1,t.2.2.1,t.2.2.2,ndC)
abbrev GN(N D:Nat):=(iC N D).1
abbrev GE(N D:Nat):=(iC N D).2.1
abbrev GC(N D:Nat):=(iC N D).2.2.1
abbrev GB(N D:Nat):=(iC N D).2.2.2.1
abbrev GI(N D:Nat):=(iC N D).2.2.2.2.1
abbrev GR(N D:Nat):=(iC N D).2.2.2.2.2
theorem uN(N:Nat)(b:Bool)(e:Int):tJ N b e=some (bif b then .inl e else .inr ()):=by cases b<;>rfl
theorem qAz(N:Nat)(b:Bool):GX N b=some (bif b then 1 else 0):=by cases b<;>rfl
def yL(v:Int):Bool:=decide (-9007199254740992<=v)&&decide (v<=9007199254740992)
theorem YY(N:Nat)(v:Int):xI N v=some (yL v):=by
 unfold xI yL
 by_cases h:(-9007199254740992)<=v
 .rw[if_pos (by simpa using h)];simp[h]
 rw[if_neg (by simpa using h)];simp[h]
section
variable {N D:Nat} {W:AA} {env:List (BA×Int)} {w:Int} {t:nA} {c:JJ} {i:Int} {x:EEx}
abbrev up(t:nA):nA:=(t.1,IntKind.wrap .i64 (t.2.1+1),t.2.2.1,t.2.2.2)
theorem qOf(d:t.2.1=20000):GN N (D+1) (dP W env w t) c i=some (.inl (16,t)):=by
 obtain⟨a,s,b,r⟩:=t
 simp only at d
 subst d
 rfl
theorem uO(e:t.2.1≠20000)(g:bQ c.2.1.2.2.2 i=some x){f:Nat}(b:bD ndC x.1=some (some f)){o:Option pI}
  (d:(if f=45 then KQ N (dP W env w (up t)) c x else if f=46 then BQ N (dP W env w (up t)) c x else if f=47 then GC N D (dP W env w (up t)) c x else
   if f=48 then GB N D (dP W env w (up t)) c x else if f=49 then GI N D (dP W env w (up t)) c x else if f=50 then GR N D (dP W env w (up t)) c x else
   if f=51 then BR N (dP W env w (up t)) c x else if f=52 then BX N (dP W env w (up t)) c x else if f=53 then AV N (dP W env w (up t)) c x else if f=54 then BS N (dP W env w (up t)) c x else none)=o):
  GN N (D+1) (dP W env w t) c i=o:=by
 have a:(t.2.1==20000)=false:=by simpa using e
 show KU N (GN N D) (GE N D) (GC N D) (GB N D) (GI N D) (GR N D) (dP W env w t) c i=o
 unfold KU
 simp only[uN,a,cond_false,j0,g,b,dF]
 rw[<-d]
 cases hz:(if f=45 then KQ N (dP W env w (up t)) c x else if f=46 then BQ N (dP W env w (up t)) c x else if f=47 then GC N D (dP W env w (up t)) c x else
   if f=48 then GB N D (dP W env w (up t)) c x else if f=49 then GI N D (dP W env w (up t)) c x else if f=50 then GR N D (dP W env w (up t)) c x else
   if f=51 then BR N (dP W env w (up t)) c x else if f=52 then BX N (dP W env w (up t)) c x else if f=53 then AV N (dP W env w (up t)) c x else if f=54 then BS N (dP W env w (up t)) c x else none:Option pI) with
 |none=>rfl
 |some o=>cases o<;>rfl
theorem qPv(b:t.2.1≠20000)(d:bQ c.2.1.2.2.2 i=some x)(a:x.1=1):GN N (D+1) (dP W env w t) c i=some (.inr (up t,x.2.1)):=
 uO b d (f:=45) (by rw[a];rfl) rfl
theorem qOv(b:t.2.1≠20000)(e:bQ c.2.1.2.2.2 i=some x)(a:x.1=2){v:Int}(d:bQ c.2.2 x.2.1=some v):GN N (D+1) (dP W env w t) c i=some (.inr (up t,v)):=
 uO b e (f:=46) (by rw[a];rfl) (by show BQ N (dP W env w (up t)) c x=_;unfold BQ;rw[d];rfl)
theorem qNn(b:t.2.1≠20000)(d:bQ c.2.1.2.2.2 i=some x)(a:x.1=3):GN N (D+1) (dP W env w t) c i=GC N D (dP W env w (up t)) c x:=
 uO b d (f:=47) (by rw[a];rfl) rfl
theorem qOz(b:t.2.1≠20000)(d:bQ c.2.1.2.2.2 i=some x)(a:x.1=4):GN N (D+1) (dP W env w t) c i=GB N D (dP W env w (up t)) c x:=
 uO b d (f:=48) (by rw[a];rfl) rfl
theorem qSc(b:t.2.1≠20000)(d:bQ c.2.1.2.2.2 i=some x)(a:x.1=5):GN N (D+1) (dP W env w t) c i=GI N D (dP W env w (up t)) c x:=
 uO b d (f:=49) (by rw[a];rfl) rfl
def qN(v:Int)(t:nA):pI:=bif yL v then .inr (t,v) else .inl (3,t)
def AJ(op a b:Int)(t:nA):Option pI:=
 if op=1 then some (qN (IntKind.wrap .i64 (a+b)) t) else if op=2 then some (qN (IntKind.wrap .i64 (a-b)) t) else
 if op=3 then((if b≠0 then(vF .i64 9007199254740992 (if IntKind.wrap .i64 (0-b)>b then IntKind.wrap .i64 (0-b) else b)).bind fun q=>some (decide ((if IntKind.wrap .i64 (0-a)>a then IntKind.wrap .i64 (0-a) else a)>q)) else some false).bind fun o=>
  some (bif o then .inl (3,t) else qN (IntKind.wrap .i64 (a*b)) t)) else
 if op=4\/op=5 then(if b=0 then some (.inl (4,t)) else(vF .i64 a b).bind fun q=>if op=5 then(yB a b).bind fun r=>some (qN r t) else some (qN q t)) else
 if op=6 then some (qN (bif decide (a<b) then 1 else 0) t) else some (qN (bif a==b then 1 else 0) t)
theorem qSi{g k a b:Int}{t1 t2:nA}(y:bQ x.2.2.2.2 0=some g)(z:bQ x.2.2.2.2 1=some k)(s:GN N D (dP W env w t) c g=some (.inr (t1,a)))(u:GN N D (dP W env w t1) c k=some (.inr (t2,b))):
  GB N (D+1) (dP W env w t) c x=AJ x.2.2.1 a b t2:=by
 show xB N (GN N D) (GE N D) (GC N D) (GB N D) (GI N D) (GR N D) (dP W env w t) c x=_
 unfold xB
 obtain⟨o,s1,p,E⟩:=t1
 rw[y,j0,show GN N D _ _ g=some (.inr ((o,s1,p,E),a)) from s,j0]
 dsimp only
 rw[z,j0,show GN N D _ _ k=some (.inr (t2,b)) from u,j0]
 dsimp only
 generalize x.2.2.1=op
 have fin:∀v:Int,((xI N v).bind fun f=>(tJ N (!f) 3).bind fun n=>(match n with| .inl l=>(some (.inl (l,t2)):Option pI)| .inr _=>some (.inr (t2,v))))=some (qN v t2):=fun v=>by
  simp only[YY,uN,j0,qN]
  cases yL v<;>rfl
 have d:∀v:Int,((xI N v).bind fun f=>(match(bif !f then .inl 3 else .inr ():Int⊕Unit) with| .inl l=>(some (.inl (l,t2)):Option pI)| .inr _=>some (.inr (t2,v))))=some (qN v t2):=fun v=>by
  simp only[YY,j0,qN]
  cases yL v<;>rfl
 unfold AJ
 by_cases p1:op=1
 .rw[if_pos (by simpa using p1),if_pos p1];exact fin _
 rw[if_neg (by simpa using p1),if_neg p1]
 by_cases p2:op=2
 .rw[if_pos (by simpa using p2),if_pos p2];exact fin _
 rw[if_neg (by simpa using p2),if_neg p2]
 by_cases p3:op=3
 .rw[if_pos (by simpa using p3),if_pos p3]
  by_cases hb:b=0
  .rw[if_neg (by simpa using hb),if_neg (by simpa using hb)];exact fin _
  rw[if_pos (by simpa using hb),if_pos hb]
  cases hq:vF .i64 9007199254740992 (if IntKind.wrap .i64 (0-b)>b then IntKind.wrap .i64 (0-b) else b) with
  |none=>rfl
  |some q=>
   simp only[j0,uN]
   cases decide ((if IntKind.wrap .i64 (0-a)>a then IntKind.wrap .i64 (0-a) else a)>q) with
   |true=>rfl
   |false=>exact d _
 rw[if_neg (by simpa using p3),if_neg p3]
 by_cases p4:op=4\/op=5
 .rw[if_pos p4]
  have e:(if(op==4)=true then some (op==4) else some (op==5):Option Bool)=some true:=by
   rcases p4 with rfl|rfl<;>rfl
  rw[e]
  simp only[j0,jE,uN]
  by_cases hb:b=0
  .subst hb;rfl
  rw[show(b==0)=false by simpa using hb,if_neg hb]
  dsimp only[cond_false]
  cases hq:vF .i64 a b with
  |none=>rfl
  |some q=>
   simp only[j0]
   by_cases p5:op=5
   .rw[if_pos (by simpa using p5),if_pos p5]
    cases hr:yB a b with
    |none=>rfl
    |some r=>exact d _
   rw[if_neg (by simpa using p5),if_neg p5];exact d _
 rw[if_neg p4]
 have A:op≠4:=fun h=>p4 (.inl h)
 have B:op≠5:=fun h=>p4 (.inr h)
 have e:(if(op==4)=true then some (op==4) else some (op==5):Option Bool)=some false:=by
  rw[if_neg (by simpa using A)];simpa using B
 rw[e]
 simp only[j0,j9,jD,qAz]
 by_cases p6:op=6
 .rw[if_pos (by simpa using p6),if_pos p6];exact fin _
 rw[if_neg (by simpa using p6),if_neg p6];exact fin _
theorem qPf{a:Int}{z:Int×nA}(d:bQ x.2.2.2.2 0=some a)(b:GN N D (dP W env w t) c a=some (.inl z)):GB N (D+1) (dP W env w t) c x=some (.inl z):=by
 show xB N (GN N D) (GE N D) (GC N D) (GB N D) (GI N D) (GR N D) (dP W env w t) c x=_
 unfold xB
 rw[d,j0,show GN N D _ _ a=some (.inl z) from b];rfl
theorem qPm{b d a:Int}{t1:nA}{z:Int×nA}(k:bQ x.2.2.2.2 0=some b)(l:bQ x.2.2.2.2 1=some d)(g:GN N D (dP W env w t) c b=some (.inr (t1,a)))(h:GN N D (dP W env w t1) c d=some (.inl z)):
  GB N (D+1) (dP W env w t) c x=some (.inl z):=by
 show xB N (GN N D) (GE N D) (GC N D) (GB N D) (GI N D) (GR N D) (dP W env w t) c x=_
 unfold xB
 obtain⟨e,s1,f,n⟩:=t1
 rw[k,j0,show GN N D _ _ b=some (.inr ((e,s1,f,n),a)) from g,j0]
 dsimp only
 rw[l,j0,show GN N D _ _ d=some (.inl z) from h];rfl
abbrev yF(W:AA)(E:IY):UT:=(bD W.2.2.1 E.2.2.2.1).getD ((⟨#[]⟩:BA),[],[])
def qEf:pI->pI
 | .inl z=> .inl z
 | .inr y=> .inr ((y.1.1,y.1.2.1,IntKind.wrap .i64 (y.1.2.2.1-1),y.1.2.2.2),y.2)
theorem qPi{E:IY}{d:UW}{args:List Int}{o:pI}(b:t.2.2.1≠64)(c:bQ (yF W E).2.2 E.2.2.2.2.1=some d)
  (e:GN N D (dP W env w (t.1,t.2.1,IntKind.wrap .i64 (t.2.2.1+1),t.2.2.2)) (yF W E,d,args) (IntKind.wrap .i64 ((d.2.2.2.length:Int)-1))=some o):
  GE N (D+1) (dP W env w t) E args=some (qEf o):=by
 have a:(t.2.2.1==64)=false:=by simpa using b
 show BH N (GN N D) (GE N D) (GC N D) (GB N D) (GI N D) (GR N D) (dP W env w t) E args=_
 unfold BH
 simp only[uN,a,cond_false,j0,c]
 rw[show GN N D _ _ _=some o from e]
 cases o<;>rfl
end
def OJ:pI->Int
 | .inl _=>0
 | .inr y=>y.2
def ON:pI->Int
 | .inl z=>z.1
 | .inr _=>0
def OK:pI->Int
 | .inl _=>3
 | .inr y=>if y.2=0 then 2 else 1
def AD:pI->nA
 | .inl z=>z.2
 | .inr y=>y.1
theorem qOb{N:Nat}{m:OM}{E:IY}{args:List Int}{o:pI}(h:BO N m E args=some o):FG N m E args=some (AD o,(OK o,OJ o,ON o)):=by
 unfold FG
 rw[show BO N _ _ _=some o from h,j0]
 cases o with
 |inl z=>rfl
 |inr y=>
  dsimp only
  by_cases h0:y.2=0
  .rw[if_pos (by simpa using h0)];simp only[OK,OJ,ON,AD,h0,if_pos]
  rw[if_neg (by simpa using h0)];simp only[OK,OJ,ON,AD,h0,if_neg,jD]
end
section
open Go Go.Dc
abbrev Ky:=Int×BA×BA
abbrev Aa:=Sr×Dl
abbrev Es:=List Ky×Nat×Bool
abbrev Eo(α:Type):=Es×(Int⊕α)
structure Lk where
 cl:Sr->BA->List Ky×(Int⊕Aa)
 dt:BA->List Ky×(Int⊕(BA⊕Aa))
 en:BA->Option Int
 bt:Int->Int
 ar:Int->Int->Int->Int⊕Int
abbrev uC:=Nat->Aa->List Int->Int->Es->Eo Int
def bE{α β:Type}(o:Eo α)(k:α->Es->Eo β):Eo β:=
 match o with
 |(s,.inl e)=>(s,.inl e)
 |(s,.inr v)=>k v s
def rQ(F:Int->Es->Eo Int):List Int->Es->Eo (List Int)
 |[],s=>(s,.inr [])
 |i::l,s=>bE (F i s) fun v s=>bE (rQ F l s) fun vs s=>(s,.inr (v::vs))
def oG(F:uC)(a:Nat)(t:Aa)(vs:List Int)(s:Es):Eo Int:=
 if a=64 then(s,.inl 17) else F (a+1) t vs ((t.2.2.2.2.length:Int)-1) s
def lV(s:Es)(l:List Ky):Es:=(s.1++l,s.2)
def nT(x:Ex)(k:Nat):Int:=x.2.2.2.2.getD k 0
def uZ(I:Lk)(F:uC)(a:Nat)(c:Aa)(vs:List Int)(x:Ex)(s:Es):Eo Int:=
 if x.1=1 then(s,.inr x.2.1)
 else if x.1=2 then(s,.inr (vs.getD x.2.1.toNat 0))
 else if x.1=3 then
  bE (lV s (I.cl c.1 x.2.2.2.1).1,(I.cl c.1 x.2.2.2.1).2) fun t s=>bE (rQ (F a c vs) x.2.2.2.2 s) fun us s=>
   if us.length=t.2.2.2.1.length then oG F a t us s else(s,.inl 13)
 else if x.1=4 then bE (F a c vs (nT x 0) s) fun p s=>bE (F a c vs (nT x 1) s) fun q s=>(s,I.ar x.2.2.1 p q)
 else if x.1=5 then bE (F a c vs (nT x 0) s) fun p s=>F a c vs (nT x (if p=0 then 2 else 1)) s
 else if x.1=6 then
  bE (lV s (I.dt x.2.2.2.1).1,(I.dt x.2.2.2.1).2) fun t s=>bE (F a c vs (nT x 0) s) fun i s=>
   match t with
   | .inl b=>if 0<=i/\i<b.size then(s,.inr ((b.data.toList.getD i.toNat 0).toNat:Int)) else(s,.inl 3)
   | .inr t=>if i=0 then bE (oG F a t [] s) fun v s=>(s,.inr (v%256)) else(s,.inl 3)
 else if x.1=7 then
  bE (lV s (I.dt x.2.2.2.1).1,(I.dt x.2.2.2.1).2) fun t s=>(s,.inr (match t with| .inl b=>(b.size:Int)| .inr _=>1))
 else if x.1=8 then(lV s (I.dt x.2.2.2.1).1,.inr (match(I.dt x.2.2.2.1).2 with| .inl e=>(if e=14 then 0 else 1)| .inr _=>1))
 else if x.1=9 then(lV s [(5,x.2.2.2.1,⟨#[]⟩)],match I.en x.2.2.2.1 with|some v=> .inr v|none=> .inl 15)
 else((s.1,s.2.1,true),.inr (I.bt x.2.1))
def ev(I:Lk):Nat->uC
 |0,_,_,_,_,s=>(s,.inl 16)
 |n+1,a,c,vs,i,s=>
  if s.2.1=20000 then(s,.inl 16) else
  match c.2.2.2.2[i.toNat]? with
  |none=>(s,.inl 0)
  |some x=>uZ I (ev I n) a c vs x (s.1,s.2.1+1,s.2.2)
def Gr(s s':Es):Prop:=(∃l,s'.1=s.1++l)/\s.2.1<=s'.2.1/\(s.2.1<=20000->s'.2.1<=20000)/\(s.2.2=true->s'.2.2=true)
theorem Gr.rfl'(s:Es):Gr s s:=⟨⟨[],(gO _).symm⟩,jM _,id,id⟩
theorem Gr.tr{s t u:Es}(h:Gr s t)(g:Gr t u):Gr s u:=by
 obtain⟨⟨l,e⟩,f,n,o⟩:=h
 obtain⟨⟨k,a⟩,b,c,d⟩:=g
 exact⟨⟨l++k,by rw[a,e,kT]⟩,kV f b,fun h=>c (n h),fun h=>d (o h)⟩
theorem Gr.see(s:Es)(l:List Ky):Gr s (lV s l):=⟨⟨l,rfl⟩,jM _,id,id⟩
theorem Gr.bE{α β:Type}{s:Es}{o:Eo α}{k:α->Es->Eo β}(h:Gr s o.1)(a:∀v u,Gr u (k v u).1):Gr s (bE o k).1:=by
 obtain⟨u,e|v⟩:=o
 .exact h
 exact h.tr (a v u)
def GrF(F:uC):Prop:=∀a c vs i s,Gr s (F a c vs i s).1
theorem Gr.seq{F:Int->Es->Eo Int}(h:∀i s,Gr s (F i s).1):∀(l:List Int) (s:Es),Gr s (rQ F l s).1
 |[],s=> .rfl' s
 |i::l,s=>(h i s).bE fun _ u=>(Gr.seq h l u).bE fun _ u=> .rfl' u
theorem Gr.enter{F:uC}(h:GrF F)(a:Nat)(t:Aa)(vs:List Int)(s:Es):Gr s (oG F a t vs s).1:=by
 unfold oG
 split
 .exact .rfl' s
 exact h ..
theorem Gr.node{I:Lk}{F:uC}(h:GrF F)(a:Nat)(c:Aa)(vs:List Int)(x:Ex)(s:Es):Gr s (uZ I F a c vs x s).1:=by
 unfold uZ
 split
 .exact .rfl' s
 split
 .exact .rfl' s
 split
 .refine(Gr.see s _).bE fun t u=>(Gr.seq (fun i s=>h ..) _ u).bE fun us u=> ?_
  split
  .exact .enter h ..
  exact .rfl' u
 split
 .exact(h ..).bE fun _ u=>(h ..).bE fun _ u=> .rfl' u
 split
 .exact(h ..).bE fun _ u=>h ..
 split
 .refine(Gr.see s _).bE fun t u=>(h ..).bE fun i u=> ?_
  cases t with
  |inl b=>dsimp only;split<;>exact .rfl' u
  |inr t=>
   dsimp only
   split
   .exact(Gr.enter h ..).bE fun _ u=> .rfl' u
   exact .rfl' u
 split
 .exact(Gr.see s _).bE fun _ u=> .rfl' u
 split
 .exact .see ..
 split
 .exact .see ..
 exact⟨⟨[],(gO _).symm⟩,jM _,id,fun _=>rfl⟩
theorem Gr.ev(I:Lk):∀n,GrF (ev I n)
 |0,_,_,_,_,s=> .rfl' s
 |n+1,a,c,vs,i,s=>by
  unfold Go.Proofs.YthfgphcennamkaaGreatDoor.ev
  split
  .exact .rfl' s
  rename_i hs
  split
  .exact .rfl' s
  exact Gr.tr (t:=(s.1,s.2.1+1,s.2.2)) ⟨⟨[],(gO _).symm⟩,Nat.le_succ _,fun h=>show s.2.1+1<=20000 by omega,id⟩ (.node (Gr.ev I n) ..)
def RelS(G:Aa->Aa->Prop):Int⊕Aa->Int⊕Aa->Prop
 | .inl e,.inl e'=>e=e'
 | .inr t,.inr t'=>G t t'
 |_,_=>False
def RelD(G:Aa->Aa->Prop):Int⊕(BA⊕Aa)->Int⊕(BA⊕Aa)->Prop
 | .inl e,.inl e'=>e=e'
 | .inr (.inl b),.inr (.inl b')=>b=b'
 | .inr (.inr t),.inr (.inr t')=>G t t'
 |_,_=>False
structure Agr(I J:Lk)(C:Es->Prop)(G:Aa->Aa->Prop):Prop where
 anti:∀s s',Gr s s'->C s'->C s
 body:∀t t',G t t'->t'.2.2.2=t.2.2.2
 ar:J.ar=I.ar
 cl:∀t t' x s,G t t'->x∈t.2.2.2.2->x.1=3->C (lV s (I.cl t.1 x.2.2.2.1).1)->(J.cl t'.1 x.2.2.2.1).1=(I.cl t.1 x.2.2.2.1).1/\RelS G (I.cl t.1 x.2.2.2.1).2 (J.cl t'.1 x.2.2.2.1).2
 dt:∀t t' x s,G t t'->x∈t.2.2.2.2->(x.1=6\/x.1=7\/x.1=8)->C (lV s (I.dt x.2.2.2.1).1)->(J.dt x.2.2.2.1).1=(I.dt x.2.2.2.1).1/\RelD G (I.dt x.2.2.2.1).2 (J.dt x.2.2.2.1).2
 en:∀t t' x s,G t t'->x∈t.2.2.2.2->x.1=9->C (lV s [(5,x.2.2.2.1,⟨#[]⟩)])->J.en x.2.2.2.1=I.en x.2.2.2.1
 bt:∀t t' x (s:Es),G t t'->x∈t.2.2.2.2->(∀k:Int,0<k->k<10->x.1≠k)->C (s.1,s.2.1,true)->J.bt x.2.1=I.bt x.2.1
section
variable {I J:Lk} {C:Es->Prop} {G:Aa->Aa->Prop} {F F':uC}
theorem wI{α β:Type}{o o':Eo α}{k k':α->Es->Eo β}(c:∀s s',Gr s s'->C s'->C s)(d:∀v u,Gr u (k v u).1)(a:C (bE o k).1)(f:C o.1->o'=o)(h:∀v u,C (k v u).1->k' v u=k v u):bE o' k'=bE o k:=by
 have b:C o.1:=c _ _ (Gr.bE (s:=o.1) (.rfl' _) d) a
 rw[f b]
 obtain⟨u,e|v⟩:=o
 .rfl
 exact h v u a
def UP(C:Es->Prop)(G:Aa->Aa->Prop)(F F':uC):Prop:=∀a t t' vs i s,G t t'->C (F a t vs i s).1->F' a t' vs i s=F a t vs i s
theorem qCw(a:∀s s',Gr s s'->C s'->C s){f f':Int->Es->Eo Int}(c:∀i s,Gr s (f i s).1)(h:∀i s,C (f i s).1->f' i s=f i s):∀(l:List Int) (s:Es),C (rQ f l s).1->rQ f' l s=rQ f l s
 |[],_,_=>rfl
 |i::l,s,b=>wI a (fun _ u=>(Gr.seq c l u).bE fun _ u=> .rfl' u) b (h i s) fun _ u b=>wI a (fun _ u=> .rfl' u) b (qCw a c h l u) fun _ _ _=>rfl
theorem MU(d:Agr I J C G)(h:UP C G F F'){a:Nat}{t t':Aa}{vs:List Int}{s:Es}(c:G t t')(b:C (oG F a t vs s).1):oG F' a t' vs s=oG F a t vs s:=by
 unfold oG at b ⊢
 rw[d.body t t' c]
 split at b
 .rename_i h1;rw[if_pos h1,if_pos h1]
 rename_i h1;rw[if_neg h1,if_neg h1];exact h _ _ _ _ _ _ c b
theorem qPo(r:Agr I J C G)(z:GrF F)(h:UP C G F F'){a:Nat}{t t':Aa}{vs:List Int}{x:Ex}{s:Es}(g:G t t')(D:x∈t.2.2.2.2)(c:C (uZ I F a t vs x s).1):
  uZ J F' a t' vs x s=uZ I F a t vs x s:=by
 have n:=r.anti
 unfold uZ at c ⊢
 by_cases k1:x.1=1
 .rw[if_pos k1,if_pos k1]
 rw[if_neg k1] at c;rw[if_neg k1,if_neg k1]
 by_cases k2:x.1=2
 .rw[if_pos k2,if_pos k2]
 rw[if_neg k2] at c;rw[if_neg k2,if_neg k2]
 by_cases k3:x.1=3
 .rw[if_pos k3] at c;rw[if_pos k3,if_pos k3]
  have gk:∀(d:Aa) (us:List Int) (u:Es),Gr u (if us.length=d.2.2.2.1.length then oG F a d us u else(u,.inl 13)).1:=fun d us u=>by
   split
   .exact .enter z ..
   exact .rfl' u
  have gs:∀(d:Aa) (u:Es),Gr u (bE (rQ (F a t vs) x.2.2.2.2 u) fun us s=>if us.length=d.2.2.2.1.length then oG F a d us s else(s,.inl 13)).1:=fun d u=>(Gr.seq (fun i s=>z ..) _ u).bE fun us u=>gk d us u
  have B:C (lV s (I.cl t.1 x.2.2.2.1).1):=n _ _ (Gr.bE (o:=(lV s (I.cl t.1 x.2.2.2.1).1,(I.cl t.1 x.2.2.2.1).2)) (.rfl' _) gs) c
  obtain⟨y,f⟩:=r.cl t t' x s g D k3 B
  rw[y]
  generalize (I.cl t.1 x.2.2.2.1).2=p at f c ⊢
  generalize (J.cl t'.1 x.2.2.2.1).2=q at f ⊢
  cases p with
  |inl e=>cases q with
   |inl e'=>rw[show e=e' from f];rfl
   |inr d'=>exact f.elim
  |inr d=>cases q with
   |inl e'=>exact f.elim
   |inr d'=>
    refine wI (o:=rQ (F a t vs) x.2.2.2.2 _) n (fun us u=>gk d us u) c (fun c=>qCw n (fun i s=>z ..) (fun i s c=>h _ _ _ _ _ _ g c) _ _ c) fun us u c=> ?_
    rw[r.body d d' f]
    split at c
    .rename_i l;rw[if_pos l,if_pos l];exact MU r h f c
    rename_i l;rw[if_neg l,if_neg l]
 rw[if_neg k3] at c;rw[if_neg k3,if_neg k3]
 by_cases k4:x.1=4
 .rw[if_pos k4] at c;rw[if_pos k4,if_pos k4]
  refine wI n (fun p u=>(z ..).bE fun q u=> .rfl' u) c (fun c=>h _ _ _ _ _ _ g c) fun p u c=> ?_
  refine wI n (fun q u=> .rfl' u) c (fun c=>h _ _ _ _ _ _ g c) fun q u _=> ?_
  rw[r.ar]
 rw[if_neg k4] at c;rw[if_neg k4,if_neg k4]
 by_cases k5:x.1=5
 .rw[if_pos k5] at c;rw[if_pos k5,if_pos k5]
  exact wI n (fun p u=>z ..) c (fun c=>h _ _ _ _ _ _ g c) fun p u c=>h _ _ _ _ _ _ g c
 rw[if_neg k5] at c;rw[if_neg k5,if_neg k5]
 by_cases k6:x.1=6
 .rw[if_pos k6] at c;rw[if_pos k6,if_pos k6]
  have gk:∀(d:BA⊕Aa) (i:Int) (u:Es),Gr u (match d with
   | .inl b=>if 0<=i/\i<b.size then(u,.inr ((b.data.toList.getD i.toNat 0).toNat:Int)) else(u,.inl 3)
   | .inr t=>if i=0 then bE (oG F a t [] u) fun v s=>(s,.inr (v%256)) else(u,.inl 3):Eo Int).1:=fun d i u=>by
   cases d with
   |inl b=>dsimp only;split<;>exact .rfl' u
   |inr t=>
    dsimp only
    split
    .exact(Gr.enter z ..).bE fun _ u=> .rfl' u
    exact .rfl' u
  have B:C (lV s (I.dt x.2.2.2.1).1):=n _ _ (Gr.bE (o:=(lV s (I.dt x.2.2.2.1).1,(I.dt x.2.2.2.1).2)) (.rfl' _) (fun d u=>(z ..).bE fun i u=>gk d i u)) c
  obtain⟨y,f⟩:=r.dt t t' x s g D (.inl k6) B
  rw[y]
  generalize (I.dt x.2.2.2.1).2=p at f c ⊢
  generalize (J.dt x.2.2.2.1).2=q at f ⊢
  obtain e|b|d:=p<;>obtain e'|b'|d':=q<;>first|exact f.elim|skip
  .rw[show e=e' from f];rfl
  .rw[<-show b=b' from f]
   exact wI (o:=F a t vs (nT x 0) _) n (fun i u=>gk (.inl b) i u) c (fun c=>h _ _ _ _ _ _ g c) fun i u _=>rfl
  refine wI (o:=F a t vs (nT x 0) _) n (fun i u=>gk (.inr d) i u) c (fun c=>h _ _ _ _ _ _ g c) fun i u c=> ?_
  dsimp only at c ⊢
  split at c
  .rename_i l;rw[if_pos l,if_pos l]
   exact wI n (fun _ u=> .rfl' u) c (fun c=>MU r h f c) fun _ _ _=>rfl
  rename_i l;rw[if_neg l,if_neg l]
 rw[if_neg k6] at c;rw[if_neg k6,if_neg k6]
 by_cases k7:x.1=7
 .rw[if_pos k7] at c;rw[if_pos k7,if_pos k7]
  have B:C (lV s (I.dt x.2.2.2.1).1):=n _ _ (Gr.bE (o:=(lV s (I.dt x.2.2.2.1).1,(I.dt x.2.2.2.1).2)) (.rfl' _) (fun d u=> .rfl' u)) c
  obtain⟨y,f⟩:=r.dt t t' x s g D (.inr (.inl k7)) B
  rw[y]
  generalize (I.dt x.2.2.2.1).2=p at f ⊢
  generalize (J.dt x.2.2.2.1).2=q at f ⊢
  obtain e|b|d:=p<;>obtain e'|b'|d':=q<;>first|exact f.elim|skip
  .rw[show e=e' from f]
  .rw[show b=b' from f]
  rfl
 rw[if_neg k7] at c;rw[if_neg k7,if_neg k7]
 by_cases A:x.1=8
 .rw[if_pos A] at c;rw[if_pos A,if_pos A]
  obtain⟨y,f⟩:=r.dt t t' x s g D (.inr (.inr A)) c
  rw[y]
  generalize (I.dt x.2.2.2.1).2=p at f ⊢
  generalize (J.dt x.2.2.2.1).2=q at f ⊢
  obtain e|b|d:=p<;>obtain e'|b'|d':=q<;>first|exact f.elim|skip
  .rw[show e=e' from f]
  .rfl
  rfl
 rw[if_neg A] at c;rw[if_neg A,if_neg A]
 by_cases f:x.1=9
 .rw[if_pos f] at c;rw[if_pos f,if_pos f,r.en t t' x s g D f c]
 rw[if_neg f] at c;rw[if_neg f,if_neg f]
 have y:∀k:Int,0<k->k<10->x.1≠k:=fun k B l e=>by
  rcases(by omega:k=1\/k=2\/k=3\/k=4\/k=5\/k=6\/k=7\/k=8\/k=9) with rfl|rfl|rfl|rfl|rfl|rfl|rfl|rfl|rfl<;>contradiction
 rw[r.bt t t' x s g D y c]
theorem TV(c:Agr I J C G):∀n,UP C G (ev I n) (ev J n)
 |0,_,_,_,_,_,_,_,_=>rfl
 |n+1,a,t,t',vs,i,s,d,b=>by
  unfold ev at b ⊢
  rw[c.body t t' d]
  split at b
  .rename_i h;rw[if_pos h,if_pos h]
  rename_i h
  rw[if_neg h,if_neg h]
  split at b
  .rfl
  rename_i x hx
  exact qPo c (Gr.ev I n) (TV c n) d (fD hx) b
end
def PB{α:Type}(P:α->Prop)(x:cG⊕α):Prop:=∀a,x= .inr a->P a
theorem PB.fail{α:Type}{P:α->Prop}{t:cA}{e:Int}:PB P (eG t e):=fun _ h=>by cases h
theorem PB.ok{α:Type}{P:α->Prop}{a:α}(h:P a):PB P (.inr a):=fun b e=>by cases e;exact h
theorem PB.bind{α β:Type}{P:α->Prop}{Q:β->Prop}{x:cG⊕α}{f:α->cG⊕β}(h:PB P x)(b:∀a,P a->PB Q (f a)):PB Q (bI x f):=by
 cases x with
 |inl z=>exact fun _ e=>by cases e
 |inr a=>exact b a (h a rfl)
theorem PB.any{α:Type}{x:cG⊕α}:PB (fun _=>True) x:=fun _ _=>trivial
theorem PB.ite{α:Type}{P:α->Prop}{c:Prop}[Decidable c]{x y:cG⊕α}(a:c->PB P x)(b:¬c->PB P y):PB P (if c then x else y):=by
 split
 .exact a ‹_›
 exact b ‹_›
def okX(Z:Int->BA->Prop)(F:Int->Prop)(np i:Nat)(x:Ex):Prop:=
 (x.1=1/\-9007199254740992<=x.2.1/\x.2.1<=9007199254740992)\/(x.1=2/\0<=x.2.1/\x.2.1<np)\/(x.1=3/\Z 3 x.2.2.2.1/\x.2.2.2.2.length<=20000/\∀j∈x.2.2.2.2,0<=j/\j<(i:Int))\/
 (x.1=4/\∃j k:Nat,x.2.2.2.2=[(j:Int),(k:Int)]/\j<i/\k<i)\/(x.1=5/\∃j k l:Nat,x.2.2.2.2=[(j:Int),(k:Int),(l:Int)]/\j<i/\k<i/\l<i)\/
 (x.1=6/\Z 6 x.2.2.2.1/\∃j:Nat,x.2.2.2.2=[(j:Int)]/\j<i)\/((x.1=7\/x.1=8\/x.1=9)/\Z x.1 x.2.2.2.1)\/(x.1=10/\0<=x.2.1/\x.2.1<64/\F x.2.1)
def AF(Z:Int->BA->Prop)(F:Int->Prop)(t:cA):Prop:=
 (t.1=1->Z 3 t.2.1)/\(t.1=3->(iV t.2.1.data.toList=true->Z 6 t.2.1/\Z 7 t.2.1/\Z 8 t.2.1)/\(uW t.2.1=true->Z 9 t.2.1))/\(t.1=2->(0<=t.2.2.1/\t.2.2.1<=9007199254740992)/\(t.2.2.1<64->F t.2.2.1))
def OB(Z:Int->BA->Prop)(F:Int->Prop)(np:Nat)(l:List Ex):Prop:=(∀(i:Nat) x,l[i]? =some x->okX Z F np i x)/\l.length<=256
def ES(Z:Int->BA->Prop)(F:Int->Prop)(d:Dl):Prop:=OB Z F d.2.2.1.length d.2.2.2/\0<d.2.2.2.length/\d.2.2.1.length<=8/\(d.1≠1->d.2.2.1=[])
def okF(Z:Int->BA->Prop)(F:Int->Prop)(f:Sr):Prop:=(Z 3 f.1/\∀q∈f.2.1,Z 3 q)/\f.2.1.length<=8/\f.2.2.length<=64/\∀d∈f.2.2,ES Z F d
section
variable {Z:Int->BA->Prop} {F:Int->Prop} {ts:List cA} {ps:List BA} {E S:Ps->PM Nat}
def tE(Z:Int->BA->Prop)(F:Int->Prop)(ts:List cA):Prop:=∀j,AF Z F (aM ts j)
def Stp(Z:Int->BA->Prop)(F:Int->Prop)(np:Nat)(p:Ps)(r:Ps×Nat):Prop:=OB Z F np r.1.2/\p.2.length<=r.1.2.length/\r.2<r.1.2.length
def wX(Z:Int->BA->Prop)(F:Int->Prop)(np:Nat)(E:Ps->PM Nat):Prop:=∀p,OB Z F np p.2->PB (Stp Z F np p) (E p)
theorem IF(b:tE Z F ts){k:Int}{i:Nat}:PB (fun a=>AF Z F a.2/\a.2.1=k) (mB ts k i):= .ite (fun h=> .ok ⟨b i,h⟩) fun _=> .fail
theorem qEg(b:tE Z F ts){i:Nat}:PB (fun a=>Z 3 a.2.2.1) (mD ts i):= .bind (IF b) fun _ h=> .ite (fun _=> .fail) fun _=> .ok (h.1.1 h.2)
theorem TU(b:tE Z F ts){i:Nat}:PB (fun a=>Z 6 a.2.2.1/\Z 7 a.2.2.1/\Z 8 a.2.2.1) (nH ts i):= .bind (IF b) fun _ h=> .ite (fun g=> .ok ((h.1.2.1 h.2).1 g)) fun _=> .fail
theorem qQr(b:tE Z F ts){i:Nat}:PB (fun a=>Z 9 a.2.2.1) (wJ ts i):= .bind (IF b) fun _ h=> .ite (fun g=> .ok ((h.1.2.1 h.2).2 g)) fun _=> .fail
theorem zS{np:Nat}{t:cA}{x:Ex}{p q:Ps}(b:OB Z F np p.2)(d:q.2.length<=p.2.length)(c:okX Z F np p.2.length x):PB (Stp Z F np q) (lM t x p):= .ite (fun _=> .fail) fun h=> .ok (by
 refine⟨⟨fun i y a=> ?_,?_⟩,?_,?_⟩
 .rw[List.getElem?_append] at a
  split at a
  .exact b.1 i y a
  rename_i hi
  obtain⟨k,e⟩:=List.getElem?_eq_some_iff.1 a
  obtain rfl:i=p.2.length:=by simp only[kX] at k;omega
  rw[Nat.sub_self] at a
  cases a
  exact c
 .show(p.2++[x]).length<=256
  have:=b.2
  rw[jF,kX];omega
 .show q.2.length<=(p.2++[x]).length
  rw[jF];omega
 show p.2.length<(p.2++[x]).length
 rw[jF,kX];omega)
def OpL(n:Nat)(l:List Int):Prop:=∀j∈l,0<=j/\j<(n:Int)
theorem OpL.snoc{n m:Nat}{l:List Int}{k:Nat}(h:OpL n l)(c:n<=m)(b:k<m):OpL m (l++[(k:Int)]):=fun j a=>by
 rcases gN.1 a with a|a
 .have:=h j a;omega
 rw[gB.1 a];omega
variable {np:Nat}
theorem qDv(c:wX Z F np E){q:Ps}:∀(n:Nat) (l:List Int) (p:Ps),OB Z F np p.2->q.2.length<=p.2.length->OpL p.2.length l->PB (fun r=>OB Z F np r.1.2/\q.2.length<=r.1.2.length/\OpL r.1.2.length r.2/\r.2.length<=l.length+n) (uT ts E n l p)
 |0,_,_,_,_,_=> .fail
 |n+1,l,p,t,f,d=> .bind (c p t) fun a h=> .ite (fun _ b e=>by
  obtain⟨g,k,o,s⟩:=qDv c n (l++[(a.2:Int)]) (a.1.1+1,a.1.2) h.1 (kV f h.2.1) (d.snoc h.2.1 h.2.2) b e
  exact⟨g,k,o,by rw[jF,kX] at s;omega⟩) fun _=> .bind .any fun _ _=> .ok ⟨h.1,kV f h.2.1,d.snoc h.2.1 h.2.2,by rw[jF,kX];omega⟩
theorem qJy(d:wX Z F np E){p:Ps}(c:OB Z F np p.2):PB (fun r=>OB Z F np r.1.2/\p.2.length<=r.1.2.length/\OpL r.1.2.length r.2/\r.2.length<=ts.length+1) (vZ ts E p):=
 .bind .any fun i _=> .ite (fun _=> .ok ⟨c,jM _,fun _ a=>(by cases a),kG _⟩) fun _ b e=>by
  have:=qDv d (q:=p) _ [] (i,p.2) c (jM _) (fun _ a=>by cases a) b e
  rwa[jB,kU] at this
theorem qNg(d:tE Z F ts)(e:wX Z F np E){t:cA}{p q:Ps}(b:OB Z F np p.2)(c:q.2.length<=p.2.length):PB (Stp Z F np q) (sA ts E t p):=
 .bind .any fun _ _=> .bind (P:=fun r=>OB Z F np r.1.2/\q.2.length<=r.1.2.length/\okX Z F np r.1.2.length r.2)
  (.ite (fun _=> .bind (TU d) fun _ h=> .bind .any fun _ _=> .bind (e _ b) fun a g=> .ok ⟨g.1,kV c g.2.1,.inr (.inr (.inr (.inr (.inr (.inl ⟨rfl,h.1,a.2,rfl,g.2.2⟩)))))⟩) fun _=>
   .ite (fun _=> .bind (TU d) fun _ h=> .ok ⟨b,c,.inr (.inr (.inr (.inr (.inr (.inr (.inl ⟨.inl rfl,h.2.1⟩))))))⟩) fun _=>
   .ite (fun _=> .bind (TU d) fun _ h=> .ok ⟨b,c,.inr (.inr (.inr (.inr (.inr (.inr (.inl ⟨.inr (.inl rfl),h.2.2⟩))))))⟩) fun _=>
   .ite (fun _=> .bind (qQr d) fun _ h=> .ok ⟨b,c,.inr (.inr (.inr (.inr (.inr (.inr (.inl ⟨.inr (.inr rfl),h⟩))))))⟩) fun _=>
   .bind (IF d) fun a h=> .ite (fun _=> .fail) fun g=> .ok ⟨b,c,.inr (.inr (.inr (.inr (.inr (.inr (.inr ⟨rfl,(h.1.2.2 h.2).1.1,Int.not_le.1 g,(h.1.2.2 h.2).2 (Int.not_le.1 g)⟩))))))⟩)
  fun _ h=> .bind .any fun _ _=>zS h.1 h.2.1 h.2.2
theorem qRm{n:Int}(h:0<=n/\n<=9007199254740992): -9007199254740992<=n/\n<=9007199254740992:=by omega
theorem qRy{n:Int}(h:0<=n/\n<=9007199254740992): -9007199254740992<=IntKind.wrap .i64 (0-n)/\IntKind.wrap .i64 (0-n)<=9007199254740992:=by
 rw[bY aa aa];omega
theorem qOg(c:tE Z F ts)(f:ts.length<=16385)(d:wX Z F ps.length E):wX Z F ps.length (sV ts ps E):=by
 intro p b
 unfold sV
 refine .ite (fun h=>zS b (jM _) (.inl ⟨rfl,qRm ((c _).2.2 h).1⟩)) fun _=> .ite (fun _=> .bind (IF c) fun _ h=>zS b (jM _) (.inl ⟨rfl,qRy (h.1.2.2 h.2).1⟩)) fun _=> .ite (fun _=> .bind (d _ b) fun _ h=> .bind .any fun _ _=> .ok h) fun _=>
  .ite (fun _=> .fail) fun e=> .ite (fun _=>qNg c d b (jM _)) fun _=> .ite (fun _=> .fail) fun _=>
  .ite (fun _=> .bind (qJy d b) fun a h=>zS h.1 h.2.1 (.inr (.inr (.inl ⟨rfl,(c _).1 (Decidable.not_not.1 e),by show a.2.length<=20000;omega,h.2.2.1⟩)))) fun _=> ?_
 split
 .rename_i i hi
  obtain⟨e,-⟩:=List.findIdx?_eq_some_iff_getElem.1 hi
  exact zS b (jM _) (.inr (.inl ⟨rfl,Int.natCast_nonneg i,Int.ofNat_lt.2 e⟩))
 exact .fail
theorem qDs{level:Nat}(b:wX Z F np S){q:Ps}:∀(n x:Nat) (p:Ps),OB Z F np p.2->q.2.length<=p.2.length->x<p.2.length->PB (Stp Z F np q) (pZ ts level S n x p)
 |0,_,_,_,_,_=> .fail
 |n+1,x,p,c,d,e=> .ite (fun _=> .ok ⟨c,d,e⟩) fun _=> .bind (b _ c) fun a h=> .bind (zS (q:=q) h.1 (kV d h.2.1) (.inr (.inr (.inr (.inl ⟨rfl,x,a.2,rfl,fR e h.2.1,h.2.2⟩))))) fun _ g=> .ite (fun _=> .ok g) fun _=>qDs b n _ _ g.1 g.2.1 g.2.2
theorem TE{level:Nat}(a:wX Z F np S):wX Z F np (sW ts level S):=fun p b=> .bind (a p b) fun _ h=>qDs a _ _ _ h.1 h.2.1 h.2.2
theorem IP(f:tE Z F ts)(d:ts.length<=16385):∀k:Nat,wX Z F ps.length (eK ts ps k)
 |0=>fun _ _=> .fail
 |k+1=>fun p l=> .ite (fun _=> .bind (IP f d k _ l) fun a h=> .bind .any fun _ _=> .bind (IP f d k _ h.1) fun b g=> .bind .any fun _ _=> .bind (IP f d k _ g.1) fun c e=>
   zS e.1 (kV h.2.1 (kV g.2.1 e.2.1)) (.inr (.inr (.inr (.inr (.inl ⟨rfl,a.2,b.2,c.2,rfl,fR h.2.2 (kV g.2.1 e.2.1),fR g.2.2 e.2.1,e.2.2⟩)))))) fun _=>
  TE (TE (TE (qOg f d (IP f d k)))) p l
theorem qBk:∀(n:Nat) (l:List BA) (i:Nat),l.length<=8->PB (fun r=>r.2.length<=8) (tO ts n l i)
 |0,_,_,_=> .fail
 |n+1,l,i,a=> .bind .any fun _ _=> .ite (fun _=> .fail) fun h=> .ite (fun _=> .fail) fun _=>
  .ite (fun _=>qBk n _ _ (by rw[jF,kX];omega)) fun _=> .bind .any fun _ _=> .ok (by show(l++[_]).length<=8;rw[jF,kX];omega)
theorem qJm{i:Nat}:PB (fun r=>r.2.length<=8) (rZ ts i):= .bind .any fun _ _=> .ite (fun _=> .ok (kG _)) fun _=>qBk _ _ _ (kG _)
theorem qSh(l:tE Z F ts)(f:ts.length<=16385)(before:List Dl)(i:Nat):PB (fun a=>ES Z F a.2) (oH ts before i):=by
 unfold oH
 exact .ite (fun _=> .fail) fun _=> .ite (fun _=> .fail) fun _=> .bind .any fun _ _=> .ite (fun _=> .fail) fun _=>
  .bind (P:=fun b=>b.2.length<=8/\(mC (aM ts i).2.1≠1->b.2=[])) (.ite (fun h b e=>⟨qJm b e,fun k=>absurd h k⟩) fun _=> .ok ⟨kG _,fun _=>rfl⟩) fun b d=> .bind .any fun _ _=>
  .bind (IP l f _ (_,[]) ⟨fun i x h=>(by simp at h),kG _⟩) fun c g=> .bind .any fun _ _=> .ok ⟨g.1,Nat.lt_of_le_of_lt (kG _) g.2.2,d.1,d.2⟩
theorem qCi(e:tE Z F ts)(b:ts.length<=16385):∀(n:Nat) (l:List Dl) (i:Nat),(∀d∈l,ES Z F d)->PB (fun r=>∀d∈r,ES Z F d) (tP ts n l i)
 |0,_,_,_=> .fail
 |n+1,l,i,c=> .ite (fun _=> .ok c) fun _=> .bind (qSh e b _ _) fun _ h=>qCi e b n _ _ fun d a=>by
  rcases gN.1 a with a|a
  .exact c d a
  rw[gB.1 a];exact h
theorem ZS(d:tE Z F ts){pkg:BA}:∀(n:Nat) (l:List BA) (i:Nat),(∀q∈l,Z 3 q)->l.length<=8->PB (fun r=>(∀q∈r.2,Z 3 q)/\r.2.length<=8) (qV ts pkg n l i)
 |0,_,_,_,_=> .fail
 |n+1,l,i,c,e=> .ite (fun _=> .ite (fun _=> .fail) fun h=> .bind (qEg d) fun a f=> .ite (fun _=> .fail) fun _=> .bind .any fun _ _=>ZS d n _ _ (fun q b=>by
  rcases gN.1 b with b|b
  .exact c q b
  rw[gB.1 b];exact f) (by rw[jF,kX];omega)) fun _=> .ok ⟨c,e⟩
end
theorem qSb{Z:Int->BA->Prop}{F:Int->Prop}{s:BA}(c:Z 3 ⟨#[]⟩)(n:(lC s).2.2=0->∀t∈(lC s).1,AF Z F t):okF Z F (lL s).1:=by
 have a:=MS (s:=s)
 have b:okF Z F sH:=⟨⟨c,fun _ h=>by cases h⟩,kG _,kG _,fun _ h=>by cases h⟩
 unfold lL at a ⊢
 by_cases h0:(lC s).2.2=0
 .rw[if_neg (not_not_intro h0)] at a ⊢
  obtain⟨p,e,-⟩:=MP h0
  have g:tE Z F (lC s).1:=fun j=>by
   unfold aM
   rw[jT]
   cases hj:(lC s).1[j]? with
   |none=>exact⟨fun h=>absurd h ac,fun h=>absurd h ac,fun h=>absurd h ac⟩
   |some t=>exact n h0 t (fD hj)
  cases hf:tR (lC s).1 with
  |inl z=>exact b
  |inr f=>
   rw[hf] at a
   have key:PB (fun f=>(Z 3 f.1/\∀q∈f.2.1,Z 3 q)/\f.2.1.length<=8/\∀d∈f.2.2,ES Z F d) (tR (lC s).1):=
    .bind .any fun _ _=> .bind (qEg g) fun _ l=> .bind .any fun _ _=> .bind (ZS g _ [] _ (fun _ h=>by cases h) (kG _)) fun _ k=> .bind (qCi g e _ [] _ fun _ h=>by cases h) fun _ c=> .ok ⟨⟨l,k.1⟩,k.2,c⟩
   obtain⟨k,l,o⟩:=key f hf
   exact⟨k,l,a,o⟩
 rw[if_pos h0];exact b
end
section
open Go Go.Dc Go.Proofs
def VB(v:Int):Prop:= -9223372036854775808<=v/\v<=9223372036854775807
theorem qQq(v:Int):VB (IntKind.wrap .i64 v):=by unfold VB;simp only[IntKind.wrap,IntKind.signed,IntKind.bits];simp;omega
abbrev nD:=List (BA×Int)
def mE(L:List bV)(e:dS):Aa:=(yF (iF L) e,(yF (iF L) e).2.2.getD e.2.2.2.2.1.toNat (0,⟨#[]⟩,[],[]))
def arP(op a b:Int):Int⊕Int:=match AJ op a b (none,0,0,false) with
 |some (.inl z)=> .inl z.1
 |some (.inr y)=> .inr y.2
 |none=> .inl 0
def wS(w k:Int):Int:=IntKind.wrap .i64 (yA .u64 ((wR .u64 w k).getD 0) 1)
def zW(L:List bV)(r:dS×List K3×Int):List Ky×(Int⊕Aa):=(r.2.1,if r.2.2=0 then .inr (mE L r.1) else .inl r.2.2)
def pF(L:List bV)(p:BA):List Ky×(Int⊕(BA⊕Aa)):=match lN L p with
 |some b=>([(4,p,⟨#[]⟩)],.inr (.inl b))
 |none=>([(4,p,⟨#[]⟩),(3,p,⟨#[]⟩)],if(cU L 3 iE p).2.2.2.2.2=0 then .inl 14 else if 1<(cU L 3 iE p).2.2.2.2.2 then .inl 12 else .inr (.inr (mE L (cU L 3 iE p))))
def EJ(env:nD)(nm:BA):Option Int:=(env.find? fun v=>v.1.toList==nm.toList).map (·.2)
def iZ(L:List bV)(env:nD)(w:Int):Lk where
 cl f nm:=if 8<f.2.1.length then([],.inl 0) else zW L (qL (fun p=>cU L 1 p nm) nm (f.1::f.2.1) [])
 dt:=pF L
 en:=EJ env
 bt:=wS w
 ar:=arP
def nW(ks:List Ky):EI:=some (ks.foldl (fun M k=>mset M k true) [])
abbrev lS(s:Es)(a:Nat):nA:=(nW s.1,(s.2.1:Int),(a:Int),s.2.2)
def qQ(a:Nat)(o:Eo Int)(r:Option pI):Prop:=match o.2 with
 | .inr v=>r=some (.inr (lS o.1 a,v))/\VB v
 | .inl e=>∃a':Int,r=some (.inl (e,(nW o.1.1,(o.1.2.1:Int),a',o.1.2.2)))
def Cnd(n:Nat)(s:Es):Prop:=s.2.1<=20000/\20000<s.2.1+n
theorem Cnd.gr{n:Nat}{s s':Es}(h:Cnd n s)(g:Gr s s'):Cnd n s':=⟨g.2.2.1 h.1,fR h.2 (Nat.add_le_add_right g.2.1 n)⟩
theorem qTe{v:Int}(h:yL v=true):VB v:=by
 unfold yL at h;unfold VB
 simp only[jK,j6] at h
 omega
theorem qSo{b:Int}(c:b≠0)(a:VB b):(if IntKind.wrap .i64 (0-b)>b then IntKind.wrap .i64 (0-b) else b)≠0:=by
 unfold VB at a
 by_cases h:b= -9223372036854775808
 .subst h;decide
 rw[bY aa aa];split<;>omega
theorem qTg(v:Int)(t:nA):(∃e,∀t:nA,qN v t= .inl (e,t))\/((∀t:nA,qN v t= .inr (t,v))/\VB v):=by
 unfold qN
 cases h:yL v with
 |true=>exact .inr ⟨fun _=>rfl,qTe h⟩
 |false=>exact .inl ⟨3,fun _=>rfl⟩
theorem qUb(op a b:Int)(c:VB b):(∃e,∀t:nA,AJ op a b t=some (.inl (e,t)))\/(∃v,(∀t:nA,AJ op a b t=some (.inr (t,v)))/\VB v):=by
 have lift:∀v,((∃e,∀t:nA,some (qN v t)=some (.inl (e,t)))\/(∃v',(∀t:nA,some (qN v t)=some (.inr (t,v')))/\VB v')):=fun v=>by
  rcases qTg v (none,0,0,false) with ⟨e,h⟩|⟨h,g⟩
  .exact .inl ⟨e,fun t=>by rw[h t]⟩
  exact .inr ⟨v,fun t=>by rw[h t],g⟩
 unfold AJ
 by_cases p1:op=1
 .simp only[if_pos p1];exact lift _
 simp only[if_neg p1]
 by_cases p2:op=2
 .simp only[if_pos p2];exact lift _
 simp only[if_neg p2]
 by_cases p3:op=3
 .simp only[if_pos p3]
  by_cases h0:b≠0
  .simp only[if_pos h0,vF,if_neg (qSo h0 c),j0]
   cases decide ((if IntKind.wrap .i64 (0-a)>a then IntKind.wrap .i64 (0-a) else a)>IntKind.wrap .i64 ((9007199254740992:Int).tdiv (if IntKind.wrap .i64 (0-b)>b then IntKind.wrap .i64 (0-b) else b))) with
   |true=>exact .inl ⟨3,fun _=>rfl⟩
   |false=>exact lift _
  simp only[if_neg h0,j0];exact lift _
 simp only[if_neg p3]
 by_cases p4:op=4\/op=5
 .simp only[if_pos p4]
  by_cases h0:b=0
  .simp only[if_pos h0];exact .inl ⟨4,fun _=>rfl⟩
  simp only[if_neg h0,vF,yB,j0]
  by_cases p5:op=5
  .simp only[if_pos p5];exact lift _
  simp only[if_neg p5];exact lift _
 simp only[if_neg p4]
 by_cases p6:op=6
 .simp only[if_pos p6];exact lift _
 simp only[if_neg p6];exact lift _
theorem qTa{op p q:Int}(b:VB q)(a:Nat)(s:Es):qQ a (s,arP op p q) (AJ op p q (lS s a)):=by
 unfold arP qQ
 rcases qUb op p q b with ⟨e,h⟩|⟨v,h,g⟩
 .rw[h,h];exact⟨_,rfl⟩
 rw[h,h];exact⟨rfl,g⟩
theorem qRf{N:Nat}{m:OM}{M:List (EKy×Bool)}{ks:List Ky}(b:m.2.2.2.1=some M)(c:ks.length<1000000)(a:ks.length<N):
  pR N m ks=some (some (ks.foldl (fun M k=>mset M k true) M),m.2.2.2.2.1,m.2.2.2.2.2.1,m.2.2.2.2.2.2.1):=by
 unfold pR
 rw[b]
 have:=DC (f:=FF N ks) (fun i=>((i:Int),some ((ks.take i).foldl (fun M k=>mset M k true) M))) ks.length (some (ks.foldl (fun M k=>mset M k true) M)) (fun i hi=>by
  simp only[FF]
  rw[if_pos (by simpa using hi),eS hi]
  simp only[j0,dZ,kK]
  rw[bY aa aa,kS hi,fG]
  rfl) (by simp only[FF];rw[if_neg ad,fM]) a
 rw[show((0:Int),some M)=(((0:Nat):Int),some ((ks.take 0).foldl (fun M k=>mset M k true) M)) from rfl,this];rfl
theorem ID{N:Nat}{W:AA}{env:nD}{w:Int}{s:Es}{a:Nat}{ks:List Ky}(c:ks.length<1000000)(b:ks.length<N):pR N (dP W env w (lS s a)) ks=some (lS (lV s ks) a):=by
 rw[qRf (M:=s.1.foldl (fun M k=>mset M k true) []) rfl c b]
 show some (some _,_,_,_)=some (nW (s.1++ks),_,_,_)
 unfold nW
 rw[fG];rfl
structure Wrl(N:Nat)(L:List bV)(env:nD)(Z:Int->BA->Prop)(F:Int->Prop):Prop where
 hN:2000000<N
 hc:nP L=0
 src:∀f∈L,pX f=true->okF Z F (lL f.2).1
 env:env.length<=16/\∀v∈env,VB v.2
def uG(Z:Int->BA->Prop)(F:Int->Prop)(t:Aa):Prop:=ES Z F t.2/\t.1.2.1.length<=8/\Z 3 t.1.1/\∀q∈t.1.2.1,Z 3 q
section
variable {N:Nat} {L:List bV} {env:nD} {w:Int} {Z:Int->BA->Prop} {F:Int->Prop}
theorem Wrl.asc(H:Wrl N L env Z F):Asc L:=(tK.1 H.hc).2.1
theorem DK(H:Wrl N L env Z F){k:Int}{p n:BA}(l:(cU L k p n).2.2.2.2.2=1):
  bQ (yF (iF L) (cU L k p n)).2.2 (cU L k p n).2.2.2.2.1=some (mE L (cU L k p n)).2/\uG Z F (mE L (cU L k p n))/\(mE L (cU L k p n)).2.1=k:=by
 have e:cU L k p n=lW (iP (iB L)) k p n:=by unfold cU;rw[if_pos H.hc]
 rw[e] at l
 obtain⟨o,u,h,a⟩:=qQk (O:=iP (iB L)) (k:=k) (p:=p) (n:=n) (by rw[l];decide)
 obtain⟨f,r,s,j,d,g,rfl⟩:=qMe u
 have v:(iF L).2.2.1=some (UM L):=by unfold iF;rw[if_pos H.hc];rfl
 have b:(cU L k p n).2.2.2.1=f.1/\(cU L k p n).2.2.2.2.1=(j:Int):=by
  rw[e];unfold JA at a;simp only[Prod.mk.injEq] at a;exact⟨a.2.2.2.1,a.2.2.2.2⟩
 have q:yF (iF L) (cU L k p n)=(lL f.2).1:=by
  unfold yF
  rw[b.1,v,bD,j0,qLl H.asc r,if_pos s];rfl
 have c:(mE L (cU L k p n))=((lL f.2).1,d):=by
  unfold mE
  rw[q,b.2,jZ,jT,g];rfl
 obtain⟨x,y,A,z⟩:=H.src f r s
 refine⟨?_,?_,?_⟩
 .obtain⟨t,rfl⟩:=List.getElem?_eq_some_iff.1 g
  rw[c,q,b.2,eS t]
 .rw[c];exact⟨z d (fD g),y,x⟩
 rw[c]
 unfold sL nL at h
 simp only[Prod.mk.injEq] at h
 exact h.1
end
theorem NF{E:BA->dS}{nm:BA}(a:∀p,0<=(E p).2.2.2.2.2):∀(l:List BA) (acc:List K3),
  ((qL E nm l acc).2.2=0->∃p,(qL E nm l acc).1=E p/\(E p).2.2.2.2.2=1)/\(qL E nm l acc).2.1.length<=acc.length+l.length
 |[],acc=>⟨fun h=>absurd h (by show ¬((11:Int)=0);decide),jM _⟩
 |p::l,acc=>by
  unfold qL
  split
  .obtain⟨b,c⟩:=NF a l (acc++[(1,p,nm)])
   exact⟨b,by simp only[jF,jA,jB] at c ⊢;omega⟩
  split
  .exact⟨fun h=>absurd h (by show ¬((12:Int)=0);decide),by simp only[jF,jA,jB];omega⟩
  exact⟨fun _=>⟨p,rfl,by have:=a p;omega⟩,by simp only[jF,jA,jB];omega⟩
section
variable {N:Nat} {L:List bV} {env:nD} {w:Int} {Z:Int->BA->Prop} {F:Int->Prop}
theorem qMu(H:Wrl N L env Z F)(p:BA):GW N (iF L) p=some (match lN L p with
  |some _=>(1,qM,[(4,p,iE)],0)
  |none=>if(cU L 3 iE p).2.2.2.2.2=0 then(0,qM,[(4,p,iE),(3,p,iE)],14)
   else if 1<(cU L 3 iE p).2.2.2.2.2 then(3,qM,[(4,p,iE),(3,p,iE)],12)
   else(2,cU L 3 iE p,[(4,p,iE),(3,p,iE)],0)):=by
 have a:=H.hN
 simp only[GW,qCb p (tK.1 H.hc).1 (show 100<N by omega),j0]
 cases hg:lN L p with
 |some b=>simp only[DV];rfl
 |none=>
  simp only[DV,j9,jD]
  rw[lB (by simp only[jA,jB];omega) aa]
  simp only[j0,NJ]
  have e:(⟨#[]⟩:BA)=iE:=rfl
  rw[e]
  by_cases h0:(cU L 3 iE p).2.2.2.2.2=0
  .rw[if_pos (by simp[h0]),if_pos h0];rfl
  rw[if_neg (by simp[h0]),if_neg h0]
  by_cases h1:1<(cU L 3 iE p).2.2.2.2.2
  .rw[if_pos (jL h1),if_pos h1];rfl
  rw[if_neg (by simpa using h1),if_neg h1];rfl
def DX(L:List bV)(p:BA):Bool×dS×BA×Int:=match lN L p with
 |some b=>(false,qM,b,0)
 |none=>if(cU L 3 iE p).2.2.2.2.2=0 then(true,qM,iE,14) else if 1<(cU L 3 iE p).2.2.2.2.2 then(true,qM,iE,12) else(true,cU L 3 iE p,iE,0)
theorem TB(H:Wrl N L env Z F)(p:BA)(s:Es)(a:Nat):vQ N (dP (iF L) env w (lS s a)) p=some (lS (lV s (pF L p).1) a,DX L p):=by
 have e:=H.hN
 unfold vQ
 rw[show GW N _ p=_ from qMu H p,j0]
 have c:uJ N (iF L) p=some (DV (lN L p)):=qCb p (tK.1 H.hc).1 aa
 unfold pF DX
 cases hg:lN L p with
 |some b=>
  rw[hg] at c
  rw[show pR N _ _=_ from ID (N:=N) (W:=iF L) (env:=env) (w:=w) (s:=s) (a:=a) (ks:=[(4,p,iE)]) (by show 1<1000000;decide) (by show 1<N;omega),j0]
  rw[show uJ N _ p=_ from c,j0];rfl
 |none=>
  rw[hg] at c
  have d:=ID (N:=N) (W:=iF L) (env:=env) (w:=w) (s:=s) (a:=a) (ks:=[(4,p,iE),(3,p,iE)]) (by show 2<1000000;decide) (by show 2<N;omega)
  dsimp only
  by_cases h0:(cU L 3 iE p).2.2.2.2.2=0
  .rw[if_pos h0,if_pos h0,show pR N _ _=_ from d,j0]
   rw[show uJ N _ p=_ from c,j0];rfl
  rw[if_neg h0,if_neg h0]
  by_cases h1:1<(cU L 3 iE p).2.2.2.2.2
  .rw[if_pos h1,if_pos h1,show pR N _ _=_ from d,j0]
   rw[show uJ N _ p=_ from c,j0];rfl
  rw[if_neg h1,if_neg h1,show pR N _ _=_ from d,j0]
  rw[show uJ N _ p=_ from c,j0];rfl
theorem qKc(H:Wrl N L env Z F)(nm:BA):GQ N env nm=some (match EJ env nm with|some v=>(v,true)|none=>(0,false)):=by
 have c:=H.hN
 have a:=H.env.1
 have:=zB (L:=env) (f:=CA N env nm) (fun(_:Unit) i=>(i:Int)) (fun _ v=>if(v.1.toList==nm.toList)=true then .inr (.inr (v.2,true)) else .inl ()) (fun _=> .inl ()) (fun _ _=>True)
  (fun t i hi _=>by
   simp only[CA]
   rw[if_pos (by simpa using hi),eS hi,j0]
   split
   .rfl
   rw[bY aa aa];rfl) (fun _ _ _ _ _ _=>trivial) (fun _ _=>by simp only[CA];rw[if_neg ad]) (M:=N) (t:=()) aa trivial
 unfold GQ
 rw[show aK (CA N env nm) N 0=_ from this,j0]
 unfold EJ
 clear this a
 have key:∀l:nD,(match run (fun(_:Unit) (v:BA×Int)=>if(v.1.toList==nm.toList)=true then(.inr (.inr (v.2,true)):Unit⊕(Unit⊕(Int×Bool))) else .inl ()) (fun _=> .inl ()) l () with| .inl _=>some ((0:Int),false)| .inr z=>some z)=
   some (match(l.find? fun v=>v.1.toList==nm.toList).map (·.2) with|some v=>(v,true)|none=>(0,false)):=fun l=>by
  induction l with
  |nil=>rfl
  |cons v l b=>
   simp only[run,List.find?_cons]
   cases hv:v.1.toList==nm.toList with
   |true=>simp
   |false=>simpa using b
 exact key env
theorem TG(e:Int):CM N e=some (bif decide (e≠0) then .inl e else .inr ()):=by
 unfold CM
 by_cases h:e=0
 .simp[h]
 simp[h]
variable {x:Ex} {c:JJ} {s:Es} {a:Nat}
theorem NZ:VB 1:=⟨by decide,by decide⟩
theorem qQf:VB 0:=⟨by decide,by decide⟩
theorem MR(H:Wrl N L env Z F)(p:BA):(∃b,b.size<=16384/\pF L p=([(4,p,⟨#[]⟩)],.inr (.inl b))/\DX L p=(false,qM,b,0))\/(∃ks e,e≠0/\pF L p=(ks,.inl e)/\DX L p=(true,qM,iE,e))\/
  ((cU L 3 iE p).2.2.2.2.2=1/\∃ks,pF L p=(ks,.inr (.inr (mE L (cU L 3 iE p))))/\DX L p=(true,cU L 3 iE p,iE,0)):=by
 unfold DX pF
 cases hg:lN L p with
 |some b=>
  exact .inl ⟨b,((tK.1 H.hc).2.2 _ (qPe hg)).2,rfl,rfl⟩
 |none=>
  have h:=HM L 3 iE p
  by_cases h0:(cU L 3 iE p).2.2.2.2.2=0
  .exact .inr (.inl ⟨[(4,p,⟨#[]⟩),(3,p,⟨#[]⟩)],14,by decide,by simp only[if_pos h0],by simp only[if_pos h0]⟩)
  by_cases h1:1<(cU L 3 iE p).2.2.2.2.2
  .exact .inr (.inl ⟨[(4,p,⟨#[]⟩),(3,p,⟨#[]⟩)],12,by decide,by simp only[if_neg h0,if_pos h1],by simp only[if_neg h0,if_pos h1]⟩)
  exact .inr (.inr ⟨by omega,[(4,p,⟨#[]⟩),(3,p,⟨#[]⟩)],by simp only[if_neg h0,if_neg h1],by simp only[if_neg h0,if_neg h1]⟩)
theorem qSf(H:Wrl N L env Z F):qQ a (bE (lV s (pF L x.2.2.2.1).1,(pF L x.2.2.2.1).2) fun t s=>(s,.inr (match t with| .inl b=>(b.size:Int)| .inr _=>1))) (BR N (dP (iF L) env w (lS s a)) c x):=by
 unfold BR
 rw[show vQ N _ _=_ from TB (w:=w) H x.2.2.2.1 s a,j0,TG]
 rcases MR H x.2.2.2.1 with ⟨b,h,d,f⟩|⟨ks,e,g,d,f⟩|⟨-,ks,d,f⟩
 .rw[d,f];exact⟨rfl,by unfold VB;dsimp only;omega⟩
 .rw[d,f];dsimp only;rw[jL g];exact⟨_,rfl⟩
 rw[d,f];exact⟨rfl,NZ⟩
theorem qSx(H:Wrl N L env Z F):qQ a (lV s (pF L x.2.2.2.1).1,.inr (match(pF L x.2.2.2.1).2 with| .inl e=>(if e=14 then 0 else 1)| .inr _=>1)) (BX N (dP (iF L) env w (lS s a)) c x):=by
 unfold BX
 rw[show vQ N _ _=_ from TB (w:=w) H x.2.2.2.1 s a,j0,qAz]
 rcases MR H x.2.2.2.1 with ⟨b,g,d,f⟩|⟨ks,e,h,d,f⟩|⟨-,ks,d,f⟩
 .rw[d,f];exact⟨rfl,NZ⟩
 .rw[d,f];dsimp only
  by_cases h14:e=14
  .subst h14;exact⟨rfl,qQf⟩
  rw[if_neg h14,show(e !=14)=true by simpa using h14];exact⟨rfl,NZ⟩
 rw[d,f];exact⟨rfl,NZ⟩
theorem qSl(H:Wrl N L env Z F):qQ a (lV s [(5,x.2.2.2.1,⟨#[]⟩)],match EJ env x.2.2.2.1 with|some v=> .inr v|none=> .inl 15) (AV N (dP (iF L) env w (lS s a)) c x):=by
 have d:=H.hN
 unfold AV
 rw[show pR N _ _=_ from ID (N:=N) (W:=iF L) (env:=env) (w:=w) (s:=s) (a:=a) (ks:=[(5,x.2.2.2.1,⟨#[]⟩)]) (by show 1<1000000;decide) (by show 1<N;omega),j0]
 rw[show GQ N _ x.2.2.2.1=_ from qKc H x.2.2.2.1,j0,uN]
 cases hv:EJ env x.2.2.2.1 with
 |some v=>
  refine⟨rfl,?_⟩
  unfold EJ at hv
  obtain⟨y,b,rfl⟩:=jY.1 hv
  exact H.env.2 y (gL b)
 |none=>exact⟨_,rfl⟩
theorem qRp(d:0<=x.2.1):qQ a ((s.1,s.2.1,true),.inr (wS w x.2.1)) (BS N (dP (iF L) env w (lS s a)) c x):=by
 unfold BS wS
 have b:wR .u64 w x.2.1=some (w.fdiv (2^(min x.2.1.toNat IntKind.u64.bits))):=by unfold wR;rw[if_neg aa]
 rw[show wR .u64 _ x.2.1=_ from b,j0]
 exact⟨rfl,qQq _⟩
end
section
variable {N:Nat} {L:List bV} {env:nD} {w:Int} {Z:Int->BA->Prop} {F:Int->Prop} {n:Nat}
abbrev AI(N:Nat)(L:List bV)(env:nD)(w:Int)(Z:Int->BA->Prop)(F:Int->Prop)(n:Nat):Prop:=
 ∀(D a:Nat) (t:Aa) (vs:List Int) (i:Int) (s:Es),Cnd n s->3*n<=D->a<=64->uG Z F t->t.2.2.2.1.length=vs.length->(∀v∈vs,VB v)->0<=i->i<t.2.2.2.2.length->
  qQ a (ev (iZ L env w) n a t vs i s) (GN N D (dP (iF L) env w (lS s a)) (t.1,t.2,vs) i)
theorem RZ(u:AI N L env w Z F n){D a:Nat}{s:Es}{e:dS}{vs:List Int}(k:Cnd n s)(f:3*n<=D)(x:a<=64)(l:bQ (yF (iF L) e).2.2 e.2.2.2.2.1=some (mE L e).2)(b:uG Z F (mE L e))
  (p:(mE L e).2.2.2.1.length=vs.length) (r:∀v∈vs,VB v):qQ a (oG (ev (iZ L env w) n) a (mE L e) vs s) (GE N (D+1) (dP (iF L) env w (lS s a)) e vs):=by
 unfold oG
 by_cases h64:a=64
 .subst h64
  rw[if_pos rfl]
  refine⟨((64:Nat):Int),?_⟩
  show BH N (GN N D) (GE N D) (GC N D) (GB N D) (GI N D) (GR N D) (dP (iF L) env w (lS s 64)) e vs=_
  unfold BH
  rw[uN];rfl
 rw[if_neg h64]
 have y:=b.1.2.1
 have d:=b.1.1.2
 have c:=u D (a+1) (mE L e) vs (((mE L e).2.2.2.2.length:Int)-1) s k f aa b p r aa aa
 have key:∀o,GN N D (dP (iF L) env w (lS s (a+1))) ((mE L e).1,(mE L e).2,vs) (((mE L e).2.2.2.2.length:Int)-1)=some o->GE N (D+1) (dP (iF L) env w (lS s a)) e vs=some (qEf o):=fun o q=>
  qPi (t:=lS s a) (by show((a:Nat):Int)≠64;omega) l (by
   rw[show IntKind.wrap .i64 ((lS s a).2.2.1+1)=((a+1:Nat):Int) from by show IntKind.wrap .i64 ((a:Int)+1)=_;rw[bY aa aa];rfl]
   rw[bY aa aa]
   exact q)
 revert c
 generalize ev (iZ L env w) n (a+1) (mE L e) vs (((mE L e).2.2.2.2.length:Int)-1) s=o
 obtain⟨s',er|v⟩:=o
 .rintro⟨a',h⟩
  exact⟨a',key _ h⟩
 rintro⟨h,g⟩
 refine⟨(key _ h).trans ?_,g⟩
 show some (Sum.inr ((nW s'.1,(s'.2.1:Int),IntKind.wrap .i64 (((a+1:Nat):Int)-1),s'.2.2),v))=_
 rw[bY aa aa,show(((a+1:Nat):Int)-1)=(a:Int) from by omega]
def UX(a:Nat)(acc:List Int)(k:Nat)(o:Eo (List Int))(r:Option ((List Int×Int×Int×Bool×EI)⊕pI)):Prop:=match o.2 with
 | .inr us=>r=some (.inl (acc++us,(o.1.2.1:Int),(a:Int),o.1.2.2,nW o.1.1))/\(∀u∈us,VB u)/\us.length=k
 | .inl e=>∃a':Int,r=some (.inr (.inl (e,(nW o.1.1,(o.1.2.1:Int),a',o.1.2.2))))
theorem qBe(E:AI N L env w Z F n){D a:Nat}{t:Aa}{vs:List Int}(p:3*n<=D)(q:a<=64)(A:uG Z F t)(y:t.2.2.2.1.length=vs.length)(B:∀v∈vs,VB v){x:Ex}{t0:nA}
  (R:x.2.2.2.2.length<=20000) (z:∀j∈x.2.2.2.2,0<=j/\j<(t.2.2.2.2.length:Int)):∀(d i M:Nat) (acc:List Int) (s:Es),i+d=x.2.2.2.2.length->d<M->acc.length<=i->Cnd n s->
  UX a acc d (rQ (ev (iZ L env w) n a t vs) (x.2.2.2.2.drop i) s) (aK (tG N (GN N D) (dP (iF L) env w t0) (t.1,t.2,vs) x) M (acc,(i:Int),(s.2.1:Int),(a:Int),s.2.2,nW s.1))
 |_,_,0,_,_,_,h,_,_=>absurd h (gF _)
 |0,i,M+1,acc,s,G,b,f,k=>by
  rw[jP aa]
  refine⟨?_,fun u c=>(by cases c),rfl⟩
  simp only[aK,tG]
  rw[if_neg ag,gO];rfl
 |d+1,i,M+1,acc,s,G,b,f,k=>by
  have hi:i<x.2.2.2.2.length:=by omega
  rw[HH hi]
  have r:=z _ (jS hi)
  have K:=E D a t vs x.2.2.2.2[i] s k p q A y B r.1 r.2
  have l:=Gr.ev (iZ L env w) n a t vs x.2.2.2.2[i] s
  unfold rQ
  revert K l
  generalize ev (iZ L env w) n a t vs x.2.2.2.2[i] s=o
  obtain⟨s',er|v⟩:=o
  .rintro⟨a',h⟩ _
   have e:tG N (GN N D) (dP (iF L) env w t0) (t.1,t.2,vs) x (acc,(i:Int),(s.2.1:Int),(a:Int),s.2.2,nW s.1)=some (.inr (.inr (.inl (er,(nW s'.1,(s'.2.1:Int),a',s'.2.2))))):=by
    simp only[tG]
    rw[if_pos (by simpa using hi),eS hi,j0,show GN N D _ _ _=_ from h];rfl
   refine⟨a',?_⟩
   simp only[aK,e,j0];rfl
  rintro⟨h,g⟩ l
  have e:tG N (GN N D) (dP (iF L) env w t0) (t.1,t.2,vs) x (acc,(i:Int),(s.2.1:Int),(a:Int),s.2.2,nW s.1)=some (.inl (acc++[v],((i+1:Nat):Int),(s'.2.1:Int),(a:Int),s'.2.2,nW s'.1)):=by
   simp only[tG]
   rw[if_pos (by simpa using hi),eS hi,j0,show GN N D _ _ _=_ from h]
   simp only[j0,lS]
   rw[lB (by simp only[jA,jB];omega) aa,j0,bY aa aa];rfl
  simp only[aK,e,j0]
  have rc:=qBe E p q A y B (t0:=t0) R z d (i+1) M (acc++[v]) s' aa aa (by simp only[jF,jA,jB];omega) (k.gr l)
  revert rc
  show UX a (acc++[v]) d _ _->UX a acc (d+1) (bE (s',Sum.inr v) _) _
  simp only[bE]
  generalize rQ (ev (iZ L env w) n a t vs) (x.2.2.2.2.drop (i+1)) s'=o2
  obtain⟨s2,er|us⟩:=o2
  .rintro⟨a',b⟩
   exact⟨a',b⟩
  rintro⟨b,f,H⟩
  refine⟨b.trans ?_,fun u c=> ?_,by show(v::us).length=d+1;rw[jA,H]⟩
  .show some (Sum.inl ((acc++[v])++us,_))=some (Sum.inl (acc++(v::us),_))
   rw[kT];rfl
  rcases jJ.1 c with rfl|c
  .exact g
  exact f u c
theorem qOr(H:Wrl N L env Z F)(M:AI N L env w Z F n){D a:Nat}{t:Aa}{vs:List Int}{s:Es}{x:Ex}(G:Cnd n s)(V:3*n<=D)(B:a<=64)(K:uG Z F t)(Y:t.2.2.2.1.length=vs.length)(hv:∀v∈vs,VB v)
  (hx:x.2.2.2.2.length<=20000) (ho:∀j∈x.2.2.2.2,0<=j/\j<(t.2.2.2.2.length:Int)):
  qQ a (bE (lV s (zW L (qL (fun p=>cU L 1 p x.2.2.2.1) x.2.2.2.1 (t.1.1::t.1.2.1) [])).1,(zW L (qL (fun p=>cU L 1 p x.2.2.2.1) x.2.2.2.1 (t.1.1::t.1.2.1) [])).2) fun u s=>bE (rQ (ev (iZ L env w) n a t vs) x.2.2.2.2 s) fun us s=>
   if us.length=u.2.2.2.1.length then oG (ev (iZ L env w) n) a u us s else(s,.inl 13)) (GC N (D+2) (dP (iF L) env w (lS s a)) (t.1,t.2,vs) x):=by
 have hN:=H.hN
 have h8:=K.2.1
 show qQ a _ (KP N (GN N (D+1)) (GE N (D+1)) (GC N (D+1)) (GB N (D+1)) (GI N (D+1)) (GR N (D+1)) (dP (iF L) env w (lS s a)) (t.1,t.2,vs) x)
 unfold KP
 have c:CJ N (iF L) t.1 x.2.2.2.1=some (qL (fun p=>cU L 1 p x.2.2.2.1) x.2.2.2.1 (t.1.1::t.1.2.1) []):=qNq (f:=t.1) aa aa
 rw[show CJ N _ _ x.2.2.2.1=_ from c,j0]
 obtain⟨y,z⟩:=NF (E:=fun p=>cU L 1 p x.2.2.2.1) (nm:=x.2.2.2.1) (fun p=>HM L 1 p _) (t.1.1::t.1.2.1) []
 generalize qL (fun p=>cU L 1 p x.2.2.2.1) x.2.2.2.1 (t.1.1::t.1.2.1) []=r at y z
 obtain⟨e,ks,k⟩:=r
 simp only[jA,jB] at z
 rw[show pR N _ ks=_ from ID (N:=N) (W:=iF L) (env:=env) (w:=w) (s:=s) (a:=a) (ks:=ks) aa aa,j0,TG]
 unfold zW
 dsimp only
 by_cases hk:k=0
 .subst hk
  obtain⟨p,rfl,g⟩:=y rfl
  obtain⟨A,R,f3⟩:=DK H g
  rw[if_pos rfl]
  simp only[bE]
  rw[show(bif decide ((0:Int)≠0) then(.inl 0:Int⊕Unit) else .inr ())= .inr () from rfl,j0]
  dsimp only
  have q:=Gr.seq (fun i s=>Gr.ev (iZ L env w) n a t vs i s) x.2.2.2.2 (lV s ks)
  have b:=qBe M (D:=D+1) aa B K Y hv (t0:=lS s a) hx ho x.2.2.2.2.length 0 N [] (lV s ks) aa aa (jM _) (G.gr (Gr.see s ks))
  rw[jV,show((0:Nat):Int)=0 from rfl] at b
  revert b q
  generalize rQ (ev (iZ L env w) n a t vs) x.2.2.2.2 (lV s ks)=o
  obtain⟨s',er|us⟩:=o
  .rintro _ ⟨a',h⟩
   rw[show aK (tG N (GN N (D+1)) _ _ x) N _=_ from h,j0]
   exact⟨a',rfl⟩
  rintro q ⟨h,S,h3⟩
  rw[show aK (tG N (GN N (D+1)) _ _ x) N _=_ from h,j0]
  dsimp only
  rw[show bQ _ _=_ from A,j0,uN]
  simp only[kE]
  by_cases hlen:us.length=(mE L (cU L 1 p x.2.2.2.1)).2.2.2.1.length
  .rw[if_pos hlen,show((us.length:Int) !=((mE L (cU L 1 p x.2.2.2.1)).2.2.2.1.length:Int))=false from by simp[hlen],cond_false,j0]
   have l:=RZ M (a:=a) ((G.gr (Gr.see s ks)).gr q) V B A R hlen.symm S
   revert l
   dsimp only
   generalize oG (ev (iZ L env w) n) a (mE L (cU L 1 p x.2.2.2.1)) us s'=o2
   obtain⟨s2,er|v⟩:=o2
   .rintro⟨a',d⟩
    rw[show GE N (D+1) _ _ us=_ from d]
    exact⟨a',rfl⟩
   rintro⟨d,U⟩
   rw[show GE N (D+1) _ _ us=_ from d]
   exact⟨rfl,U⟩
  rw[if_neg hlen,show((us.length:Int) !=((mE L (cU L 1 p x.2.2.2.1)).2.2.2.1.length:Int))=true from by simp;omega,cond_true,j0]
  exact⟨_,rfl⟩
 rw[if_neg hk,jL hk]
 exact⟨_,rfl⟩
end
end
end Go.Proofs.YthfgphcennamkaaGreatDoor
