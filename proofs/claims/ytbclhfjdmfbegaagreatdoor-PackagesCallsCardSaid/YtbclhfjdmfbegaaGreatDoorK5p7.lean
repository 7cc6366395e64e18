/- No condition but those of each theorem. -/
import Derived.Test.YtbclhfjdmfbegaaGreatDoorProg
import Derived.WalkKit
import Derived.Deep.LoopGhost
import Derived.KernelRfl
import Derived.OrdersHeld
import Derived.OrdersIn
import Derived.LoopNIn
import Derived.Sort.LoopGhostIn
import Derived.Laws.AppendOwn
import Derived.RangeFuncLeaves
import Derived.RangeFuncRecord
import Derived.MapKept
import Derived.Maps.RangeRun
import Derived.ChangeKeysEq
import Derived.HandedShaped
import Derived.ChangeStays
import Derived.ChangeSame
import Derived.OpenShut
import Derived.WideShapes
import Derived.JoinedOf
import Derived.ReadAgain
import Derived.ChangeAt
import Derived.RowKit
import Derived.Lib.Overlaps
import Derived.Shelf.SlSortCmp.NoneTotal
import Derived.Shelf.Sort.Plain
import Derived.Shelf.Slices.In.SortNone
import Derived.WalkSmall
import Derived.Recover
import Derived.Lib.Bytealg
import Derived.Test.YtbclhfjdmfbegaaGreatDoorK4p7
namespace Go.Proofs.YtbclhfjdmfbegaaGreatDoor
section
open Go Go.Dc
theorem qOe{p:UInt8->Bool}{l:List UInt8}{k:Nat}(c:k<l.length)(a:∀j,∀h:j<l.length,j<k->p l[j]=true)(b:p l[k]=false):tw p l 0=k:=by
 have key:∀d j,j+d=k->tw p l j=k:=by
  intro d
  induction d with
  |zero=>
   intro j h
   have:j=k:=by omega
   subst this
   exact vV c b
  |succ d e=>intro j h;rw[<-vR (by omega) (a j (by omega) (by omega))];exact e (j+1) (by omega)
 exact key k 0 (by omega)
theorem qOc(x:BA):pR x 47=if(x.data.toList.takeWhile lS).length=x.data.toList.length then-1 else((x.data.toList.takeWhile lS).length:Int):=by
 have n:=eR x
 have l:tw lS x.data.toList 0=(x.data.toList.takeWhile lS).length:=by simp[tw]
 have a:∀j,∀h:j<x.data.toList.length,x[j]! =x.data.toList[j]:=by
  intro j b
  rw[getElem!_pos x j (by omega)]
  simp[ByteArray.getElem_eq_getElem_data]
 have f:(47:Int).toNat.toUInt8=47:=rfl
 rw[<-l]
 unfold pR
 rw[f,<-n]
 cases hf:(List.range x.data.toList.length).find? (fun j=>x[j]! ==47) with
 |none=>
  rw[List.find?_eq_none] at hf
  simp only
  rw[if_pos]
  refine qAa fun c d=> ?_
  obtain⟨j,b,rfl⟩:=List.getElem_of_mem d
  have:=hf j (fO.2 b)
  rw[a j b] at this
  simpa[lS] using this
 |some k=>
  have d:=List.find?_some hf
  have g:k<x.data.toList.length:=fO.1 (gZ hf)
  rw[a k g] at d
  have e:tw lS x.data.toList 0=k:=by
   refine qOe g (fun j h b=> ?_) (by simpa[lS] using d)
   have:=(List.find?_range_eq_some.1 hf).2.2 j b
   rw[a j h] at this
   simpa[lS] using this
  simp only
  rw[e,if_neg (by omega)]
theorem qLd{N:Nat}(x:BA):BP N x (⟨#[47]⟩:BA)=some (pR x 47):=by
 have b:eD (⟨#[47]⟩:BA) 0=some 47:=by kernel_rfl
 simp only[BP,JK,zK,show(⟨#[47]⟩:BA).size=1 from rfl,lB]
 rw[if_neg (by decide)]
 simp only[j0,j6]
 by_cases h:(⟨#[47]⟩:BA)=x
 .have a:pR (⟨#[47]⟩:BA) 47=0:=by kernel_rfl
  rw[if_pos h,<-h,a]
  rfl
 rw[if_neg h,if_pos (by decide),b]
 rfl
theorem qNz(x:BA):yW x 47=((x.data.toList.count 47:Nat):Int):=by
 unfold yW
 rw[Go.Lib.foldl_data]
 have key:∀(l:List UInt8) (n:Int),l.foldl (fun n x=>if x==(47:Int).toNat.toUInt8 then n+1 else n) n=n+((l.count 47:Nat):Int):=by
  intro l
  induction l with
  |nil=>intro n;simp
  |cons c l b=>
   intro n
   rw[jM,b,List.count_cons]
   have a:(47:Int).toNat.toUInt8=47:=rfl
   rw[a]
   by_cases h:(c==47)=true
   .simp only[h,jE];omega
   simp only[h,j9,jC];omega
 rw[key]
 omega
theorem qMe{α:Type}(l:List α)(k:Nat)(a b:α):(l++List.replicate (k+1) a).set l.length b=(l++[b])++List.replicate k a:=by
 rw[List.set_append_right _ _ (jN _)]
 simp[List.replicate_succ]
theorem UQ{N n:Nat}{s:BA}(v:n<1000000000)(l:n<=s.size+1)(A:s.size<1000000000):∀(r M:Nat) (x:BA) (done:List BA),(sp x.data.toList).length=r->done.length+r=n->r<M->x.size<1000000000->
  ∃y D,aK (FH N s (⟨#[47]⟩:BA) 0 (n:Int)) M (x,(done.length:Int),done++List.replicate r (⟨#[]⟩:BA))=some (y,((n-1:Nat):Int),D++[(⟨#[]⟩:BA)])/\D.length=n-1/\D++[y]=done++(sp x.data.toList).map nN
 |_,0,_,_,_,_,h,_=>by omega
 |0,_,x,_,h,_,_,_=>by exact absurd (hO.1 h) (CV _)
 |r+1,M+1,x,done,c,F,G,H=>by
  have E:=eR x
  have f:(if IntKind.wrap .i64 ((s.size:Int)+1)<(n:Int) then IntKind.wrap .i64 ((s.size:Int)+1) else(n:Int))=(n:Int):=by
   rw[bS (by omega) (by omega)];split<;>omega
  have a:=YR x.data.toList
  simp only[aK,FH]
  rw[f,bS (x:=(n:Int)-1) (by omega) (by omega)]
  by_cases hlast:(x.data.toList.takeWhile lS).length=x.data.toList.length
  .rw[if_pos hlast] at a
   rw[a] at c
   simp only[jA,jB] at c
   have b:r=0:=by omega
   subst b
   rw[if_neg (by simp only[j6];omega)]
   refine⟨x,done,?_,by omega,?_⟩
   .simp only[j0]
    rw[show(n-1:Nat)=done.length by omega]
    rfl
   rw[a];simp[nN]
  rw[if_neg hlast] at a
  rw[a] at c
  simp only[jA] at c
  have z:0<(sp (x.data.toList.drop ((x.data.toList.takeWhile lS).length+1))).length:=fJ.2 (CV _)
  have B:(x.data.toList.takeWhile lS).length<=x.data.toList.length:=(hQ _).length_le
  have hix:=qOc x
  rw[if_neg hlast] at hix
  rw[if_pos (by simp only[j6];omega),qLd,hix]
  simp only[j0,show(⟨#[47]⟩:BA).size=1 from rfl]
  have u:(x.data.toList.takeWhile lS)=x.data.toList.take (x.data.toList.takeWhile lS).length:=List.prefix_iff_eq_take.1 (List.takeWhile_prefix _)
  have o:x.extract 0 (x.data.toList.takeWhile lS).length=nN (x.data.toList.takeWhile lS):=by
   apply Go.WideShapes.bytes_inj
   simp only[ByteArray.data_extract,fA,gK,nN,kA,Nat.sub_zero]
   exact u.symm
  have b:(x.extract ((x.data.toList.takeWhile lS).length+1) x.data.toList.length).data.toList=x.data.toList.drop ((x.data.toList.takeWhile lS).length+1):=by
   simp only[ByteArray.data_extract,fA,gK]
   exact gU (by simp only[kS];omega)
  generalize hk:(x.data.toList.takeWhile lS).length=k at*
  rw[if_neg (by simp only[j6];omega),bS (x:=(k:Int)+0) (by omega) (by omega),Int.add_zero]
  have d:lN x 0 (k:Int)=some (x.extract 0 k):=by
   have:=rT (s:=x) (i:=0) (e:=k) (by omega) (by omega)
   simpa only[Int.natCast_zero] using this
  rw[d]
  simp only[j0]
  rw[dP (by simp),bS (x:=(k:Int)+((1:Nat):Int)) (by omega) (by omega),show((k:Int)+((1:Nat):Int))=((k+1:Nat):Int) by omega,OA (by omega)]
  simp only[j0,kI]
  rw[qMe,o,bS (by omega) (by omega)]
  have g:=eR (x.extract (k+1) x.data.toList.length)
  rw[b,kS] at g
  obtain⟨y,D,p,q,t⟩:=UQ (N:=N) v l A r M (x.extract (k+1) x.data.toList.length) (done++[nN (x.data.toList.takeWhile lS)]) (by rw[b];omega) (by simp;omega) (by omega) (by omega)
  refine⟨y,D,?_,q,?_⟩
  .rw[<-p];simp
  rw[t,b,a];simp
termination_by r=>r
theorem qKi{N:Nat}{s:BA}(p:s.size<100000000)(l:2*s.size+1000<N):GE N s (⟨#[47]⟩:BA)=some ((sp s.data.toList).map nN):=by
 have q:=eR s
 have h:=QK s.data.toList
 have o:s.data.toList.count 47<=s.data.toList.length:=List.count_le_length
 have g:eD (⟨#[47]⟩:BA) 0=some 47:=by kernel_rfl
 have a:GF N s (⟨#[47]⟩:BA)=some ((s.data.toList.count 47:Nat):Int):=by
  simp only[GF,show(⟨#[47]⟩:BA).size=1 from rfl]
  rw[if_neg (by decide),if_pos (by decide),g]
  simp only[j0]
  rw[<-qNz];rfl
 simp only[GE,KI,lB,a,j0]
 rw[if_neg (by decide),if_neg (by decide),if_pos (by decide)]
 simp only[j0]
 rw[bS (x:=((s.data.toList.count 47:Nat):Int)+1) (by omega) (by omega),show((s.data.toList.count 47:Nat):Int)+1=(((sp s.data.toList).length:Nat):Int) by omega]
 generalize hn:(sp s.data.toList).length=n at*
 have c:(if IntKind.wrap .i64 ((s.size:Int)+1)<(n:Int) then IntKind.wrap .i64 ((s.size:Int)+1) else(n:Int))=(n:Int):=by
  rw[bS (by omega) (by omega)];split<;>omega
 rw[c]
 have k:yP 16 (⟨#[]⟩:BA) (n:Int)=some (List.replicate n (⟨#[]⟩:BA)):=by
  unfold yP
  rw[if_pos (by simp only[maxLen];omega),kI]
 rw[k]
 simp only[j0]
 obtain⟨y,D,b,f,e⟩:=UQ (N:=N) (n:=n) (s:=s) (by omega) (by omega) (by omega) n N s [] hn (by simp) (by omega) (by omega)
 simp only[jB,kK] at b e
 rw[show((0:Nat):Int)=0 from rfl] at b
 rw[b]
 simp only[j0]
 rw[dP (by simp;omega)]
 simp only[j0,kI]
 have d:(D++[(⟨#[]⟩:BA)]).set (n-1) y=D++[y]:=by
  rw[<-f,List.set_append_right _ _ (jN _)];simp
 rw[d,e,bS (by omega) (by omega),show((n-1:Nat):Int)+1=(n:Int) by omega,qIv (by omega) (by omega) (by rw[kU,hn];omega)]
 simp only[j0,kI,Int.toNat_zero,kA]
 rw[gU (by rw[kU,hn];exact jN _)]
theorem ZV{p:UInt8->Bool}{l:List UInt8}:tw p l 0=l.length↔∀c∈l,p c=true:=by
 constructor
 .intro h c a
  have b:(l.takeWhile p).length=l.length:=by simpa[tw] using h
  have d:=(List.takeWhile_prefix p (l:=l)).eq_of_length b
  rw[<-d] at a
  exact MC a
 exact qAa
def yO(x:BA):Bool:=decide (1<=x.data.toList.length/\x.data.toList.length<=24/\∀c∈x.data.toList,cD [1,2,3,4] c=true)
theorem VQ(x:BA):yO x=true↔1<=x.data.toList.length/\x.data.toList.length<=24/\∀c∈x.data.toList,cD [1,2,3,4] c=true:=decide_eq_true_iff
theorem qNc{N:Nat}{x:BA}(f:100<N):(if(decide ((x.size:Int)<1))=true then(some true) else(if(decide ((x.size:Int)>24))=true then(some true) else((sN N x 0 (some kdL) ([1,2,3,4])).bind fun e=>some (e !=(x.size:Int)))))=some (!yO x):=by
 have d:=eR x
 have a:∀h:¬(1<=x.data.toList.length/\x.data.toList.length<=24/\∀c∈x.data.toList,cD [1,2,3,4] c=true),yO x=false:=fun h=>jS h
 by_cases h1:1<=x.data.toList.length
 .rw[if_neg (by simp only[j6];omega)]
  by_cases h2:x.data.toList.length<=24
  .rw[if_neg (by simp only[j6];omega)]
   have b:=HK (N:=N) (s:=x) (ks:=[1,2,3,4]) (i:=0) (by omega) (by omega) (by simp) (by omega)
   rw[show((0:Nat):Int)=0 from rfl] at b
   rw[b]
   simp only[j0]
   refine congrArg some ?_
   by_cases h3:tw (cD [1,2,3,4]) x.data.toList 0=x.data.toList.length
   .have:yO x=true:=jL ⟨h1,h2,ZV.1 h3⟩
    rw[this,h3,d]
    simp
   rw[a fun h=>h3 (ZV.2 h.2.2)]
   simp only[kC,fB,ne_eq]
   omega
  rw[if_pos (by simp only[j6];omega),a fun h=>h2 h.2.1]
  rfl
 rw[if_pos (by simp only[j6];omega),a fun h=>h1 h.1]
 rfl
theorem WU{N:Nat}{L:List BA}(f:L.length<1000)(a:100<N):∀(d j M:Nat),j+d=L.length->d<M->aK (BO N L (some kdL)) M (j:Int)=some (if(L.drop j).all yO=true then .inl () else .inr false)
 |d,j,0,_,h=>by omega
 |0,j,M+1,c,e=>by
  simp only[aK,BO]
  rw[if_neg (by simp only[j6];omega),jT (by omega)]
  rfl
 |d+1,j,M+1,c,e=>by
  have b:j<L.length:=by omega
  simp only[aK,BO]
  rw[if_pos (by simp only[j6];omega),dP b]
  simp only[j0,qNc a]
  rw[jJ b,List.all_cons]
  cases hp:yO L[j] with
  |true=>
   rw[if_neg (by simp),bS (by omega) (by omega)]
   simp only[j0,gN]
   exact WU f a d (j+1) M (by omega) (by omega)
  |false=>simp
theorem PW{N:Nat}{s:BA}(e:s.size<100000000)(d:2*s.size+1000<N):rR N s=some (iE s.data.toList):=by
 have g:=eR s
 have a:∀h:¬(s.data.toList.length<=80/\(sp s.data.toList).length<=8/\∀p∈sp s.data.toList,1<=p.length/\p.length<=24/\∀c∈p,cD [1,2,3,4] c=true),iE s.data.toList=false:=fun h=>jS h
 simp only[rR,qKi e d,j0,kU]
 by_cases h80:s.data.toList.length<=80
 .rw[if_neg (by simp only[j6];omega)]
  by_cases h8:(sp s.data.toList).length<=8
  .have b:decide (((sp s.data.toList).length:Int)>8)=false:=jS (by omega)
   simp only[j0,b,j9,jC,PE (show 30<N by omega)]
   have key:=WU (N:=N) (L:=(sp s.data.toList).map nN) (by rw[kU];omega) (by omega) _ 0 N (kT _) (by rw[kU];omega)
   rw[show((0:Nat):Int)=0 from rfl,kA] at key
   rw[key]
   simp only[j0]
   by_cases hp:((sp s.data.toList).map nN).all yO=true
   .have:iE s.data.toList=true:=jL ⟨h80,h8,fun p hp'=>by
     have:=(VQ _).1 (jX.1 hp (nN p) (gI hp'))
     simpa[nN] using this⟩
    rw[if_pos hp,this]
   rw[if_neg hp,a fun h=>hp (jX.2 fun x f=>by
    obtain⟨p,hp',rfl⟩:=gY.1 f
    exact(VQ _).2 (by simpa[nN] using h.2.2 p hp'))]
  have b:decide (((sp s.data.toList).length:Int)>8)=true:=jL (by omega)
  simp only[j0,b,jE]
  rw[a fun h=>h8 h.2.1]
 rw[if_pos (by simp only[j6];omega)]
 simp only[j0,jE]
 rw[a fun h=>h80 h.1]
def run{α τ β:Type}(step:τ->α->τ⊕β)(fin:τ->β):List α->τ->β
 |[],t=>fin t
 |x::l,t=>match step t x with
  | .inl t'=>run step fin l t'
  | .inr b=>b
theorem WS{α τ σ β:Type}{L:List α}(enc:τ->Nat->σ){f:σ->Option (σ⊕β)}(step:τ->α->τ⊕β)(fin:τ->β)(I:Nat->τ->Prop)
  (a:∀t i,∀hi:i<L.length,I i t->f (enc t i)=some (match step t L[i] with| .inl t'=> .inl (enc t' (i+1))| .inr b=> .inr b))
  (e:∀t i,∀hi:i<L.length,∀t',I i t->step t L[i]= .inl t'->I (i+1) t')
  (c:∀t,I L.length t->f (enc t L.length)=some (.inr (fin t))):∀(d i M:Nat) (t:τ),i+d=L.length->d<M->I i t->aK f M (enc t i)=some (run step fin (L.drop i) t)
 |_,_,0,_,_,h,_=>absurd h (kY _)
 |d,i,M+1,t,l,n,g=>by
  cases d with
  |zero=>
   have hi:i=L.length:=by omega
   subst hi
   simp only[aK,c t g,j0,fU,run]
  |succ d=>
   have hi:i<L.length:=by omega
   have k:L.drop i=L[i]::L.drop (i+1):=(hU hi).symm
   simp only[aK,a t i hi g,j0]
   rw[k]
   simp only[run]
   cases hs:step t L[i] with
   |inl t'=>
    simp only
    exact WS enc step fin I a e c d (i+1) M t' (by omega) (by omega) (e t i hi t' g hs)
   |inr b=>rfl
theorem sO{α τ σ β:Type}{L:List α}(enc:τ->Nat->σ){f:σ->Option (σ⊕β)}(step:τ->α->τ⊕β)(fin:τ->β)(I:Nat->τ->Prop)
  (a:∀t i,∀hi:i<L.length,I i t->f (enc t i)=some (match step t L[i] with| .inl t'=> .inl (enc t' (i+1))| .inr b=> .inr b))
  (d:∀t i,∀hi:i<L.length,∀t',I i t->step t L[i]= .inl t'->I (i+1) t')
  (c:∀t,I L.length t->f (enc t L.length)=some (.inr (fin t))) {M:Nat} {t:τ} (g:L.length<M) (e:I 0 t):aK f M (enc t 0)=some (run step fin L t):=by
 have:=WS enc step fin I a d c L.length 0 M t (by omega) g e
 rw[kA] at this;exact this
theorem rU{α τ β:Type}{step:τ->α->τ⊕β}{fin:τ->β}(g:τ->α->τ)(h:∀t x,step t x= .inl (g t x)):∀(l:List α) (t:τ),run step fin l t=fin (l.foldl g t)
 |[],_=>rfl
 |x::l,t=>by simp only[run,h,jM];exact rU g h l _
theorem NQ{α:Type}{l:List α}{i:Nat}(h:i<l.length):l.drop i=l[i]::l.drop (i+1):=(hU h).symm
abbrev bL:=BA×BA
def blt(a b:BA):Bool:=Op.bytesLess a.toList b.toList
theorem qHo{a b:BA}(h:a.toList=b.toList):a=b:=by
 have c:(a.toList==b.toList)=true:=by rw[h];exact kN _
 rw[lB] at c
 exact gC c
theorem TU:∀a:List UInt8,Op.bytesLess a a=false
 |[]=>rfl
 |x::a=>by simp[Op.bytesLess,TU a]
theorem UR:∀a b c:List UInt8,Op.bytesLess a b=true->Op.bytesLess b c=true->Op.bytesLess a c=true
 |_,_,[],_,h=>by simp[Op.bytesLess] at h
 |_,[],_::_,h,_=>by simp[Op.bytesLess] at h
 |[],_::_,_::_,_,_=>rfl
 |x::a,y::b,z::c,d,e=>by
  simp only[Op.bytesLess,fE,j6,jR,kE] at d e ⊢
  rcases d with d|⟨rfl,d⟩<;>rcases e with e|⟨rfl,e⟩
  .exact .inl (UInt8.lt_trans d e)
  .exact .inl d
  .exact .inl e
  exact .inr ⟨rfl,UR a b c d e⟩
theorem VB:∀a b:List UInt8,Op.bytesLess a b=true\/a=b\/Op.bytesLess b a=true
 |[],[]=> .inr (.inl rfl)
 |[],_::_=> .inl rfl
 |_::_,[]=> .inr (.inr rfl)
 |x::a,y::b=>by
  simp only[Op.bytesLess,fE,j6,jR,kE,kL]
  rcases VB a b with h|h|h
  .rcases Nat.lt_trichotomy x.toNat y.toNat with g|g|g
   .exact .inl (.inl (UInt8.lt_iff_toNat_lt.2 g))
   .have g:=UInt8.toNat_inj.1 g;exact .inl (.inr ⟨g,h⟩)
   exact .inr (.inr (.inl (UInt8.lt_iff_toNat_lt.2 g)))
  .rcases Nat.lt_trichotomy x.toNat y.toNat with g|g|g
   .exact .inl (.inl (UInt8.lt_iff_toNat_lt.2 g))
   .have g:=UInt8.toNat_inj.1 g;exact .inr (.inl ⟨g,h⟩)
   exact .inr (.inr (.inl (UInt8.lt_iff_toNat_lt.2 g)))
  rcases Nat.lt_trichotomy x.toNat y.toNat with g|g|g
  .exact .inl (.inl (UInt8.lt_iff_toNat_lt.2 g))
  .have g:=UInt8.toNat_inj.1 g;exact .inr (.inr (.inr ⟨g.symm,h⟩))
  exact .inr (.inr (.inl (UInt8.lt_iff_toNat_lt.2 g)))
theorem vJ(a:BA):blt a a=false:=TU _
theorem sP{a b c:BA}(d:blt a b=true)(e:blt b c=true):blt a c=true:=UR _ _ _ d e
theorem xX(a b:BA):blt a b=true\/a=b\/blt b a=true:=by
 rcases VB a.toList b.toList with h|h|h
 .exact .inl h
 .exact .inr (.inl (qHo h))
 exact .inr (.inr h)
theorem WR{a b:BA}(h:blt a b=true):blt b a=false:=by
 cases h2:blt b a with
 |false=>rfl
 |true=>have:=sP h h2;rw[vJ] at this;cases this
theorem HR{a b:BA}(h:blt a b=true):a≠b:=by rintro rfl;rw[vJ] at h;cases h
def Asc(L:List bL):Prop:=L.Pairwise fun f g=>blt f.1 g.1=true
def lI:List bL->BA->Option BA
 |[],_=>none
 |f::L,p=>if f.1=p then some f.2 else lI L p
def lW:List bL->BA->BA->List bL
 |[],p,b=>[(p,b)]
 |f::L,p,b=>if blt p f.1=true then(p,b)::f::L else if f.1=p then(p,b)::L else f::lW L p b
def uL(L:List bL)(p:BA):List bL:=L.filter fun f=>decide (f.1≠p)
theorem GJ{L:List bL}{p:BA}(h:∀f∈L,blt p f.1=true):lI L p=none:=by
 induction L with
 |nil=>rfl
 |cons f L c=>
  have a:=h f (jK ..)
  simp only[lI]
  rw[if_neg (fun e=>by rw[e,vJ] at a;cases a)]
  exact c fun g b=>h g (jQ _ b)
theorem qKd{L:List bL}{p b:BA}(h:lI L p=some b):(p,b)∈L:=by
 induction L with
 |nil=>simp[lI] at h
 |cons f L a=>
  simp only[lI] at h
  split at h
  .rename_i e;simp only[jG] at h;subst h;subst e;exact jK ..
  exact jQ _ (a h)
theorem NI{L:List bL}(b:Asc L){f:bL}(h:f∈L):lI L f.1=some f.2:=by
 induction L with
 |nil=>cases h
 |cons g L c=>
  have a:=jV.1 b
  rcases jI.1 h with rfl|h
  .simp[lI]
  simp only[lI]
  rw[if_neg (HR (a.1 f h)),c a.2 h]
theorem Asc.ext:∀{L K:List bL},Asc L->Asc K->(∀p,lI L p=lI K p)->L=K
 |[],[],_,_,_=>rfl
 |[],f::K,_,_,h=>by have:=h f.1;simp[lI] at this
 |f::L,[],_,_,h=>by have:=h f.1;simp[lI] at this
 |f::L,g::K,k,d,h=>by
  have hL':=jV.1 k
  have hK':=jV.1 d
  have e:f.1=g.1:=by
   rcases xX f.1 g.1 with a|a|a
   .have c:=h f.1
    rw[GJ (L:=g::K) (fun x b=>by
     rcases jI.1 b with rfl|b
     .exact a
     exact sP a (hK'.1 x b))] at c
    simp[lI] at c
   .exact a
   have c:=h g.1
   rw[GJ (L:=f::L) (fun x b=>by
    rcases jI.1 b with rfl|b
    .exact a
    exact sP a (hL'.1 x b))] at c
   simp[lI] at c
  have a:f.2=g.2:=by have:=h f.1;rw[e] at this;simpa[lI,e] using this
  have b:f=g:=Prod.ext e a
  subst b
  congr 1
  refine Asc.ext hL'.2 hK'.2 fun p=> ?_
  by_cases hp:f.1=p
  .subst hp
   rw[GJ hL'.1,GJ hK'.1]
  have:=h p
  simpa[lI,hp] using this
theorem KY{L:List bL}{p b:BA}{f:bL}(h:f∈lW L p b):f=(p,b)\/f∈L:=by
 induction L with
 |nil=>simp[lW] at h;exact .inl h
 |cons g L a=>
  simp only[lW] at h
  split at h
  .rcases jI.1 h with h|h
   .exact .inl h
   exact .inr h
  split at h
  .rcases jI.1 h with h|h
   .exact .inl h
   exact .inr (jQ _ h)
  rcases jI.1 h with h|h
  .exact .inr (h▸jK ..)
  rcases a h with h|h
  .exact .inl h
  exact .inr (jQ _ h)
theorem Asc.put{L:List bL}(h:Asc L)(p b:BA):Asc (lW L p b):=by
 induction L with
 |nil=>exact List.pairwise_singleton _ _
 |cons g L f=>
  have h':=jV.1 h
  simp only[lW]
  split
  .rename_i d
   refine jV.2 ⟨fun x a=> ?_,h⟩
   rcases jI.1 a with rfl|a
   .exact d
   exact sP d (h'.1 x a)
  rename_i d
  split
  .rename_i e
   exact jV.2 ⟨fun x a=>by have:=h'.1 x a;rw[e] at this;exact this,h'.2⟩
  rename_i e
  refine jV.2 ⟨fun x a=> ?_,f h'.2⟩
  rcases KY a with rfl|a
  .rcases xX g.1 p with c|c|c
   .exact c
   .exact absurd c e
   exact absurd c d
  exact h'.1 x a
theorem Asc.del{L:List bL}(h:Asc L)(p:BA):Asc (uL L p):=List.Pairwise.filter _ h
theorem KP(L:List bL)(p b:BA):(lW L p b).length<=L.length+1:=by
 induction L with
 |nil=>simp[lW]
 |cons g L a=>
  simp only[lW]
  split
  .simp
  split
  .simp
  simp only[jA];omega
def qAc(f:bL):Prop:=iE f.1.data.toList=true/\f.2.size<=16384
def WF(L:List bL):Prop:=L.length<=64/\Asc L/\∀f∈L,qAc f
theorem WF.put{L:List bL}(h:WF L){p b:BA}(e:iE p.data.toList=true)(c:b.size<=16384)(d:(lW L p b).length<=64):WF (lW L p b):=
 ⟨d,h.2.1.put p b,fun f a=>by
  rcases KY a with rfl|a
  .exact⟨e,c⟩
  exact h.2.2 f a⟩
theorem WF.del{L:List bL}(h:WF L)(p:BA):WF (uL L p):=
 ⟨fH (gL _ _) h.1,h.2.1.del p,fun f a=>h.2.2 f ((fC.1 a).1)⟩
def yR(q:Option BA)(p:BA):Bool:=match q with
 |some x=>blt p x
 |none=>false
def uA:Option BA->List bL->Int
 |_,[]=>0
 |q,f::L=>
  if iE f.1.data.toList=false then 6
  else if q=some f.1 then 10
  else if yR q f.1=true then 6
  else if 16384<f.2.size then 2
  else uA (some f.1) L
def eZ(L:List bL):Int:=if 64<L.length then 2 else uA none L
theorem WK:∀{L:List bL} {q:Option BA},uA q L=0↔Asc L/\(∀f∈L,qAc f)/\∀x,q=some x->∀f∈L,blt x f.1=true
 |[],q=>by simp[uA,Asc]
 |f::L,q=>by
  have p:=WK (L:=L) (q:=some f.1)
  simp only[uA]
  by_cases c:iE f.1.data.toList=false
  .rw[if_pos c]
   refine⟨fun h=>by omega,fun h=> ?_⟩
   have:=(h.2.1 f (jK ..)).1;rw[c] at this;cases this
  rw[if_neg c]
  have c:iE f.1.data.toList=true:=by simpa using c
  by_cases k:q=some f.1
  .rw[if_pos k]
   refine⟨fun h=>by omega,fun h=> ?_⟩
   have:=h.2.2 _ k f (jK ..);rw[vJ] at this;cases this
  rw[if_neg k]
  by_cases d:yR q f.1=true
  .rw[if_pos d]
   refine⟨fun h=>by omega,fun h=> ?_⟩
   cases q with
   |none=>cases d
   |some x=>have:=h.2.2 x rfl f (jK ..);rw[show yR (some x) f.1=blt f.1 x from rfl,WR this] at d;cases d
  rw[if_neg d]
  by_cases h4:16384<f.2.size
  .rw[if_pos h4]
   refine⟨fun h=>by omega,fun h=> ?_⟩
   have:=(h.2.1 f (jK ..)).2;omega
  rw[if_neg h4,p]
  have o:∀x,q=some x->blt x f.1=true:=fun x e=>by
   subst e
   rcases xX x f.1 with g|g|g
   .exact g
   .exact absurd (by rw[g]) k
   exact absurd g d
  constructor
  .rintro⟨b,l,n⟩
   refine⟨jV.2 ⟨n f.1 rfl,b⟩,fun g a=> ?_,fun x e g a=> ?_⟩
   .rcases jI.1 a with rfl|a
    .exact⟨c,by omega⟩
    exact l g a
   rcases jI.1 a with rfl|a
   .exact o x e
   exact sP (o x e) (n f.1 rfl g a)
  rintro⟨b,l,n⟩
  have b:=jV.1 b
  exact⟨b.2,fun g a=>l g (jQ _ a),fun x e=>by cases e;exact b.1⟩
theorem nI{L:List bL}:eZ L=0↔WF L:=by
 unfold eZ WF
 by_cases h:64<L.length
 .rw[if_pos h];exact⟨fun h=>by omega,fun g=>by omega⟩
 rw[if_neg h,WK]
 exact⟨fun g=>⟨by omega,g.1,g.2.1⟩,fun g=>⟨g.2.1,g.2.2,fun x a=>by cases a⟩⟩
def QT(c:Int):Unit⊕Int:=if c=0 then .inl () else .inr c
def sA(L:List bL)(i:Nat):Option BA:=if i=0 then none else(L[i-1]?).map (·.1)
theorem UP{L:List bL}{f:Int->Option (Int⊕(Unit⊕Int))}
  (step:∀i:Nat,∀h:i<L.length,f (i:Int)=if iE L[i].1.data.toList=false then some (.inr (.inr 6)) else if sA L i=some L[i].1 then some (.inr (.inr 10)) else if yR (sA L i) L[i].1=true then some (.inr (.inr 6)) else if 16384<L[i].2.size then some (.inr (.inr 2)) else some (.inl ((i:Int)+1)))
  (stop:f (L.length:Int)=some (.inr (.inl ()))):∀(d i M:Nat),i+d=L.length->d<M->aK f M (i:Int)=some (QT (uA (sA L i) (L.drop i)))
 |_,_,0,_,h=>by omega
 |0,i,M+1,c,_=>by
  have:i=L.length:=by omega
  subst this
  simp[aK,stop,uA,QT]
 |d+1,i,M+1,c,g=>by
  have hi:i<L.length:=by omega
  have e:=UP step stop d (i+1) M (by omega) (by omega)
  have a:(i:Int)+1=((i+1:Nat):Int):=by omega
  have b:sA L (i+1)=some L[i].1:=by simp[sA,hi]
  simp only[aK,step i hi]
  rw[jJ hi]
  simp only[uA]
  by_cases h1:iE L[i].1.data.toList=false
  .rw[if_pos h1,if_pos h1];rfl
  rw[if_neg h1,if_neg h1]
  by_cases h2:sA L i=some L[i].1
  .rw[if_pos h2,if_pos h2];rfl
  rw[if_neg h2,if_neg h2]
  by_cases h3:yR (sA L i) L[i].1=true
  .rw[if_pos h3,if_pos h3];rfl
  rw[if_neg h3,if_neg h3]
  by_cases h4:16384<L[i].2.size
  .rw[if_pos h4,if_pos h4];rfl
  rw[if_neg h4,if_neg h4,a]
  simp only[j0]
  rw[e,b]
theorem mB(x y:BA):(x.toList==y.toList)=decide (x=y):=lB x y
theorem XR{N:Nat}{L:List bL}{P:BA->Option Bool}{f:Int->Option (Int⊕(Unit⊕Int))}(l:∀g∈L,P g.1=some (iE g.1.data.toList))
  (k:∀s1,f s1=if(decide (s1<(List.length L:Int)))=true then((bV L s1).bind fun a=>(P a.1).bind fun y1=>if(!y1)=true then(some (.inr (.inr (6)))) else((if(decide (s1>0))=true then((bV L (IntKind.wrap .i64 (s1-1))).bind fun o=>some (a.1.toList==o.1.toList)) else(some false):Option (Bool)).bind fun o2=>if o2=true then(some (.inr (.inr (10)))) else((if(decide (s1>0))=true then((bV L (IntKind.wrap .i64 (s1-1))).bind fun p=>some (Op.bytesLess a.1.toList p.1.toList)) else(some false):Option (Bool)).bind fun n=>if n=true then(some (.inr (.inr (6)))) else(if(decide ((ByteArray.size a.2:Int)>16384))=true then(some (.inr (.inr (2)))) else(some (.inl (IntKind.wrap .i64 (s1+1)))))))) else(some (.inr (.inl ()))))
  (q:100<N):(if(decide ((List.length L:Int)>64))=true then(some 2) else((aK f N 0).bind fun c=>(match c with| .inl _=>some 0| .inr z=>some z)):Option Int)=some (eZ L):=by
 unfold eZ
 by_cases h:64<L.length
 .rw[if_pos h,if_pos (by simp only[j6];omega)]
 rw[if_neg h,if_neg (by simp only[j6];omega)]
 have key:=UP (L:=L) (f:=f) (fun i hi=>by
  rw[k,if_pos (by simp only[j6];omega),dP hi]
  simp only[j0,l _ (jW hi)]
  by_cases h1:iE L[i].1.data.toList=false
  .rw[if_pos (by rw[h1];rfl),if_pos h1]
  have h1':iE L[i].1.data.toList=true:=by simpa using h1
  rw[if_neg (by rw[h1'];simp),if_neg h1]
  by_cases d:0<i
  .have b:i-1<L.length:=by omega
   have ew:IntKind.wrap .i64 ((i:Int)-1)=((i-1:Nat):Int):=by rw[bS (by omega) (by omega)];omega
   have eq:sA L i=some (L[i-1]).1:=by simp[sA,b];omega
   rw[ew,dP b,eq]
   have ed:decide ((i:Int)>0)=true:=by simp only[j6];omega
   simp only[j0,mB,ed,jE,j6,jG]
   by_cases h2:L[i].1=(L[i-1]).1
   .rw[if_pos h2,if_pos h2.symm]
   rw[if_neg h2,if_neg (show ¬(L[i-1]).1=L[i].1 from fun e=>h2 e.symm)]
   have el:yR (some (L[i-1]).1) L[i].1=Op.bytesLess L[i].1.toList (L[i-1]).1.toList:=rfl
   rw[el]
   by_cases h3:Op.bytesLess L[i].1.toList (L[i-1]).1.toList=true
   .rw[if_pos h3,if_pos h3]
   rw[if_neg h3,if_neg h3]
   by_cases h4:16384<L[i].2.size
   .rw[if_pos (by omega),if_pos h4]
   rw[if_neg (by omega),if_neg h4,bS (by omega) (by omega)]
  have d:i=0:=by omega
  subst d
  have ed:decide (((0:Nat):Int)>0)=false:=by decide
  have eq:sA L 0=none:=rfl
  have el:yR none (L[0]).1=false:=rfl
  simp only[ed,j9,jC,j0,eq,j6,reduceCtorEq,el]
  by_cases h4:16384<L[0].2.size
  .rw[if_pos (by omega),if_pos h4]
  rw[if_neg (by omega),if_neg h4,bS (by omega) (by omega)]) (by rw[k,if_neg (by simp)]) L.length 0 N (by omega) (by omega)
 rw[show((0:Nat):Int)=0 from rfl] at key
 rw[key,kA]
 have eq:sA L 0=none:=rfl
 rw[eq]
 simp only[j0,QT]
 by_cases hc:uA none L=0
 .rw[if_pos hc,hc]
 rw[if_neg hc]
theorem XX{N:Nat}{L:List bL}(b:∀g∈L,rR N g.1=some (iE g.1.data.toList))(a:100<N):FY N L=some (eZ L):=
 XR (f:=KF N L) (P:=rR N) b (fun _=>rfl) a
theorem xU{N:Nat}{L:List bL}(a:100<N):sK N L=some (eZ L):=
 XR (f:=JQ N L) (P:=vF N) (fun _ _=>NR a) (fun _=>rfl) a
end
section
open Go Go.Dc Go.Proofs
def uB:BA:=⟨#[]⟩
def QO(o:Option BA):BA×Bool:=match o with
 |some b=>(b,true)
 |none=>(uB,false)
def CU(L:List bL)(p:BA):BA×Bool:=if eZ L=0 then QO (lI L p) else(uB,false)
abbrev oG(N:Nat)(L:List bL):Prop:=∀g∈L,rR N g.1=some (iE g.1.data.toList)
theorem TJ{N:Nat}{L:List bL}{p:BA}(e:L.length<1000000):∀(d i M:Nat),i+d=L.length->d<M->aK (AK N L p) M (i:Int)=some (match lI (L.drop i) p with|some b=> .inr (b,true)|none=> .inl ())
 |_,_,0,_,h=>by omega
 |0,i,M+1,c,_=>by
  simp only[aK,AK]
  rw[if_neg (by simp only[j6];omega),jT (by omega)]
  rfl
 |d+1,i,M+1,c,f=>by
  have hi:i<L.length:=by omega
  simp only[aK,AK]
  rw[if_pos (by simp only[j6];omega),dP hi,jJ hi]
  simp only[j0,mB,j6,lI]
  by_cases he:(L[i]).1=p
  .rw[if_pos he,if_pos he];rfl
  rw[if_neg he,if_neg he,bS (by omega) (by omega)]
  have a:(i:Int)+1=((i+1:Nat):Int):=by omega
  simp only[j0]
  rw[a,TJ e d (i+1) M (by omega) (by omega)]
theorem qGy{N:Nat}{L:List bL}(p:BA)(a:100<N):FO N L p=some (CU L p):=by
 simp only[FO,xU a,j0]
 unfold CU
 by_cases hc:eZ L=0
 .rw[if_neg (by simp[hc]),if_pos hc]
  have b:=(nI.1 hc).1
  have:=TJ (N:=N) (L:=L) (p:=p) (by omega) L.length 0 N (by omega) (by omega)
  rw[show((0:Nat):Int)=0 from rfl,kA] at this
  rw[this]
  cases lI L p<;>rfl
 rw[if_pos (by simpa using hc),if_neg hc];rfl
def mQ(s:BA):Bool:=iE s.data.toList&&decide (4<s.size)&&decide (s.extract (s.size-4) s.size=(⟨#[46,115,114,99]⟩:BA))
theorem UB{N:Nat}{s:BA}(b:rR N s=some (iE s.data.toList)):BG N s=some (mQ s):=by
 simp only[BG,b,j0]
 unfold mQ
 cases hb:iE s.data.toList with
 |false=>simp
 |true=>
  have c:s.size<=80:=by
   have:s.data.toList.length<=80:=(gC hb).1
   have e:=eR s
   omega
  rw[if_pos rfl]
  by_cases h4:4<s.size
  .rw[if_pos (by simp only[j6];omega)]
   have a:ByteArray.size (⟨#[46,115,114,99]⟩:BA)=4:=rfl
   simp only[KD,JD,a]
   rw[if_pos (by simp only[j6];omega),show IntKind.wrap .i64 ((s.size:Int)-((4:Nat):Int))=((s.size-4:Nat):Int) by rw[bS (by omega) (by omega)];omega,GU (by omega) (by omega) (by omega)]
   simp only[j0,kI,mB,jL h4,gN]
  rw[if_neg (by simp only[j6];omega),jS h4];rfl
theorem SO{N:Nat}{s:BA}(a:100<N):zW N s=some (mQ s):=by
 simp only[zW,NR a,j0]
 unfold mQ
 cases hb:iE s.data.toList with
 |false=>simp
 |true=>
  have b:s.size<=80:=by
   have:s.data.toList.length<=80:=(gC hb).1
   have e:=eR s
   omega
  rw[if_pos rfl]
  by_cases h4:4<s.size
  .rw[if_pos (by simp only[j6];omega),show IntKind.wrap .i64 ((s.size:Int)-4)=((s.size-4:Nat):Int) by rw[bS (by omega) (by omega)];omega,GU (by omega) (by omega) (by omega)]
   simp only[j0,kI,mB,jL h4,gN]
  rw[if_neg (by simp only[j6];omega),jS h4];rfl
section
variable {κ ν:Type} [DecidableEq κ]
theorem UT:∀(l:List (κ×ν)) (k:κ) (v:ν) (c:κ),cS (mK l k v) c=if c=k then some v else cS l c
 |[],k,v,c=>by simp[mK,cS]
 |p::l,k,v,c=>by
  simp only[mK]
  by_cases h:k=p.1
  .rw[if_pos h]
   simp only[cS]
   by_cases h2:c=k
   .rw[if_pos h2,if_pos h2]
   rw[if_neg h2,if_neg h2,if_neg (by rw[<-h];exact h2)]
  rw[if_neg h]
  simp only[cS]
  rw[UT l k v c]
  by_cases h2:c=p.1
  .rw[if_pos h2,if_neg (fun e=>h (by rw[<-e,h2])),if_pos h2]
  rw[if_neg h2,if_neg h2]
theorem GR[KOrd κ]{l:List (κ×ν)}(a:(l.map (·.1)).Nodup)(k:κ)(v:ν)(c:κ):cS (mset l k v) c=if c=k then some v else cS l c:=by
 rw[<-OJ (yA (.refl l) a k v) (BT a k v) c,UT]
theorem BV[KOrd κ]{l:List (κ×ν)}(a:(l.map (·.1)).Nodup)(k:κ)(v:ν):((mset l k v).map (·.1)).Nodup:=
 ((yA (.refl l) a k v).map _).nodup_iff.1 (BT a k v)
end
end
section
open Go Go.Dc
instance decMemB(s:BA)(l:List BA):Decidable (s∈l):=@List.instDecidableMemOfLawfulBEq BA instBEqOfDecidableEq inferInstance s l
abbrev Ex:=Int×Int×Int×BA×List Int
abbrev Dl:=Int×BA×List BA×List Ex
abbrev Sr:=BA×List BA×List Dl
abbrev cF:=Int×Int
abbrev Ps:=Nat×List Ex
abbrev PM(α:Type):=cF⊕(Ps×α)
def aN(ts:List bZ)(i:Nat):bZ:=ts.getD i (5,⟨#[]⟩,0,0)
def dN{α:Type}(t:bZ)(e:Int):cF⊕α:= .inl (t.2.2.2,e)
def bF{α β:Type}(x:cF⊕α)(f:α->cF⊕β):cF⊕β:=
 match x with
 | .inl z=> .inl z
 | .inr a=>f a
def bX(ts:List bZ)(k:Int)(s:BA)(i:Nat):Bool:=(aN ts i).1==k&&decide ((aN ts i).2.1=s)
def dG(ts:List bZ)(s:BA)(i:Nat):cF⊕Nat:=if bX ts 4 s i then .inr (i+1) else dN (aN ts i) 9
def qQ(ts:List bZ)(s:BA)(i:Nat):cF⊕Nat:=if bX ts 1 s i then .inr (i+1) else dN (aN ts i) 9
def lE(ts:List bZ)(k:Int)(i:Nat):cF⊕(Nat×bZ):=if(aN ts i).1=k then .inr (i+1,aN ts i) else dN (aN ts i) 9
def HA:BA:=⟨#[112,97,99,107,97,103,101]⟩
def yH:BA:=⟨#[105,109,112,111,114,116]⟩
def IA:BA:=⟨#[102,117,110,99]⟩
def HX:BA:=⟨#[116,101,115,116]⟩
def IC:BA:=⟨#[103,101,110]⟩
def IP:BA:=⟨#[105,102]⟩
def HY:BA:=⟨#[116,104,101,110]⟩
def HW:BA:=⟨#[101,108,115,101]⟩
def oH:BA:=⟨#[114,101,97,100]⟩
def oI:BA:=⟨#[115,105,122,101]⟩
def oM:BA:=⟨#[104,97,115]⟩
def oK:BA:=⟨#[101,110,118]⟩
def pL:BA:=⟨#[102,108,105,112]⟩
def mY:BA:=⟨#[40]⟩
def iP:BA:=⟨#[41]⟩
def oT:BA:=⟨#[44]⟩
def qC:BA:=⟨#[59]⟩
def wM:BA:=⟨#[61]⟩
def QA:BA:=⟨#[45]⟩
def wordsR:List BA:=[HA,yH,IA,HX,IC,IP,HY,HW,oH,oI,oM,oK,pL]
def rY(s:BA):Bool:=decide (s∈wordsR)
def lG(ts:List bZ)(i:Nat):cF⊕(Nat×bZ):=bF (lE ts 1 i) fun p=>if rY p.2.2.1 then dN p.2 9 else .inr p
def lZ(ts:List bZ)(i:Nat):cF⊕(Nat×bZ):=bF (lE ts 3 i) fun p=>if iE p.2.2.1.data.toList then .inr p else dN p.2 9
def wB(ts:List bZ)(i:Nat):cF⊕(Nat×bZ):=bF (lE ts 3 i) fun p=>if uG p.2.2.1 then .inr p else dN p.2 9
def iN(t:bZ)(x:Ex)(p:Ps):PM Nat:=if p.2.length=256 then dN t 2 else .inr ((p.1,p.2++[x]),p.2.length)
def opsC:List (Int×BA):=[(1,⟨#[43]⟩),(2,⟨#[45]⟩),(3,⟨#[42]⟩),(4,⟨#[47]⟩),(5,⟨#[37]⟩),(6,⟨#[60]⟩),(7,⟨#[61,61]⟩)]
def uK(op:Int):Nat:=if op=6\/op=7 then 1 else if op=1\/op=2 then 2 else 3
def nZ(ts:List bZ)(level:Nat)(i:Nat)(o:Int×BA):Bool:=bX ts 4 o.2 i&&decide (uK o.1=level)
def lL(ts:List bZ)(level:Nat)(i:Nat):Int:=
 match opsC.find? (nZ ts level i) with
 |some o=>o.1
 |none=>0
section
variable (ts:List bZ) (params:List BA) (E:Ps->PM Nat)
def sV:Nat->List Int->Ps->PM (List Int)
 |0,_,p=>dN (aN ts p.1) 9
 |n+1,l,p=>bF (E p) fun q=>
  if bX ts 4 oT q.1.1 then sV n (l++[(q.2:Int)]) (q.1.1+1,q.1.2)
  else bF (dG ts iP q.1.1) fun i=> .inr ((i,q.1.2),l++[(q.2:Int)])
def tT(p:Ps):PM (List Int):=
 bF (dG ts mY p.1) fun i=>if bX ts 4 iP i then .inr ((i+1,p.2),[]) else sV ts E (ts.length+1) [] (i,p.2)
def qL(t:bZ)(p:Ps):PM Nat:=
 bF (dG ts mY p.1) fun i=>
 bF (if t.2.1=oH then
   bF (lZ ts i) fun a=>bF (dG ts oT a.1) fun i=>bF (E (i,p.2)) fun q=> .inr (q.1,((6,0,0,a.2.2.1,[(q.2:Int)]):Ex))
  else if t.2.1=oI then bF (lZ ts i) fun a=> .inr ((a.1,p.2),((7,0,0,a.2.2.1,[]):Ex))
  else if t.2.1=oM then bF (lZ ts i) fun a=> .inr ((a.1,p.2),((8,0,0,a.2.2.1,[]):Ex))
  else if t.2.1=oK then bF (wB ts i) fun a=> .inr ((a.1,p.2),((9,0,0,a.2.2.1,[]):Ex))
  else bF (lE ts 2 i) fun a=>if a.2.2.2.1>=64 then dN a.2 9 else .inr ((a.1,p.2),((10,a.2.2.2.1,0,⟨#[]⟩,[]):Ex))) fun q=>
 bF (dG ts iP q.1.1) fun i=>iN t q.2 (i,q.1.2)
def rD(p:Ps):PM Nat:=
 let t:=aN ts p.1
 if t.1=2 then iN t (1,t.2.2.1,0,⟨#[]⟩,[]) (p.1+1,p.2)
 else if bX ts 4 QA p.1 then bF (lE ts 2 (p.1+1)) fun a=>iN t (1,IntKind.wrap .i64 (0-a.2.2.2.1),0,⟨#[]⟩,[]) (a.1,p.2)
 else if bX ts 4 mY p.1 then bF (E (p.1+1,p.2)) fun q=>bF (dG ts iP q.1.1) fun i=> .inr ((i,q.1.2),q.2)
 else if t.1≠1 then dN t 9
 else if t.2.1∈[oH,oI,oM,oK,pL] then qL ts E t (p.1+1,p.2)
 else if rY t.2.1 then dN t 9
 else if bX ts 4 mY (p.1+1) then bF (tT ts E (p.1+1,p.2)) fun q=>iN t (3,0,0,t.2.1,q.2) q.1
 else match params.findIdx? (fun x=>decide (x=t.2.1)) with
  |some i=>iN t (2,(i:Int),0,⟨#[]⟩,[]) (p.1+1,p.2)
  |none=>dN t 9
def nW(level:Nat)(S:Ps->PM Nat):Nat->Nat->Ps->PM Nat
 |0,_,p=>dN (aN ts p.1) 9
 |n+1,x,p=>
  if lL ts level p.1=0 then .inr (p,x)
  else bF (S (p.1+1,p.2)) fun q=>bF (iN (aN ts p.1) (4,0,lL ts level p.1,⟨#[]⟩,[(x:Int),(q.2:Int)]) q.1) fun r=>
   if level=1 then .inr r else nW level S n r.2 r.1
def rE(level:Nat)(S:Ps->PM Nat)(p:Ps):PM Nat:=bF (S p) fun q=>nW ts level S (ts.length+1) q.2 q.1
def HZ:Ps->PM Nat:=rE ts 3 (rD ts params E)
def tC:Ps->PM Nat:=rE ts 2 (HZ ts params E)
def HD:Ps->PM Nat:=rE ts 1 (tC ts params E)
end
def dR(ts:List bZ)(params:List BA):Nat->Ps->PM Nat
 |0,p=>dN (aN ts p.1) 2
 |k+1,p=>
  if bX ts 1 IP p.1 then
   bF (dR ts params k (p.1+1,p.2)) fun a=>bF (qQ ts HY a.1.1) fun i=>
   bF (dR ts params k (i,a.1.2)) fun b=>bF (qQ ts HW b.1.1) fun j=>
   bF (dR ts params k (j,b.1.2)) fun c=>iN (aN ts p.1) (5,0,0,⟨#[]⟩,[(a.2:Int),(b.2:Int),(c.2:Int)]) c.1
  else HD ts params (dR ts params k) p
def sS(ts:List bZ):Nat->List BA->Nat->cF⊕(Nat×List BA)
 |0,_,i=>dN (aN ts i) 9
 |n+1,l,i=>bF (lG ts i) fun a=>
  if l.length=8 then dN a.2 2
  else if a.2.2.1∈l then dN a.2 10
  else if bX ts 4 oT a.1 then sS ts n (l++[a.2.2.1]) (a.1+1)
  else bF (dG ts iP a.1) fun j=> .inr (j,l++[a.2.2.1])
def qY(ts:List bZ)(i:Nat):cF⊕(Nat×List BA):=
 bF (dG ts mY i) fun j=>if bX ts 4 iP j then .inr (j+1,[]) else sS ts (ts.length+1) [] j
def lD(s:BA):Int:=if s=IA then 1 else if s=HX then 2 else if s=IC then 3 else 0
def mZ(ts:List bZ)(before:List Dl)(i:Nat):cF⊕(Nat×Dl):=
 let t:=aN ts i
 let k:=lD t.2.1
 if t.1≠1\/k=0 then dN t 9
 else if before.length=64 then dN t 2
 else bF (if k=3 then lZ ts (i+1) else lG ts (i+1)) fun a=>
  if before.any (fun d=>d.1==k&&decide (d.2.1=a.2.2.1)) then dN a.2 10
  else bF (if k=1 then qY ts a.1 else .inr (a.1,[])) fun b=>
   bF (dG ts wM b.1) fun j=>bF (dR ts b.2 32 (j,[])) fun c=>
   bF (dG ts qC c.1.1) fun m=> .inr (m,(k,a.2.2.1,b.2,c.1.2))
def pW(ts:List bZ)(pkg:BA):Nat->List BA->Nat->cF⊕(Nat×List BA)
 |0,_,i=>dN (aN ts i) 9
 |n+1,l,i=>
  if bX ts 1 yH i then
   if l.length=8 then dN (aN ts i) 2
   else bF (lG ts (i+1)) fun a=>
    if a.2.2.1=pkg\/a.2.2.1∈l then dN a.2 10
    else bF (dG ts qC a.1) fun j=>pW ts pkg n (l++[a.2.2.1]) j
  else .inr (i,l)
def pZ(ts:List bZ):Nat->List Dl->Nat->cF⊕List Dl
 |0,_,i=>dN (aN ts i) 9
 |n+1,l,i=>if(aN ts i).1=5 then .inr l else bF (mZ ts l i) fun a=>pZ ts n (l++[a.2]) a.1
def rX(ts:List bZ):cF⊕Sr:=
 bF (qQ ts HA 0) fun i=>bF (lG ts i) fun a=>bF (dG ts qC a.1) fun j=>
 bF (pW ts a.2.2.1 (ts.length+1) [] j) fun b=>bF (pZ ts (ts.length+1) [] b.1) fun l=> .inr (a.2.2.1,b.2,l)
def qD:Sr:=(⟨#[]⟩,[],[])
def eY(s:BA):Sr×Int×Int:=
 if(iQ s).2.2≠0 then(qD,(iQ s).2.1,(iQ s).2.2)
 else match rX (iQ s).1 with
  | .inl z=>(qD,z.1,z.2)
  | .inr f=>(f,0,0)
def OkT(ts:List bZ):Prop:=ts≠[]/\∀i,i<ts.length->((aN ts i).1=5↔i+1=ts.length)
theorem cT{α β:Type}{x:cF⊕α}{f:α->cF⊕β}{b:β}(h:bF x f= .inr b):∃a,x= .inr a/\f a= .inr b:=by
 cases x with
 |inl z=>cases h
 |inr a=>exact⟨a,rfl,h⟩
section
variable {ts:List bZ} {params:List BA} {E S:Ps->PM Nat}
theorem OkT.next(h:OkT ts){i:Nat}(hi:i<ts.length)(a:(aN ts i).1≠5):i+1<ts.length:=by
 have b:¬i+1=ts.length:=fun e=>a ((h.2 i hi).2 e)
 omega
theorem KZ{k:Int}{s:BA}{i:Nat}(h:bX ts k s i=true):(aN ts i).1=k:=by
 simp only[bX,jR,kE] at h;exact h.1
theorem iZ(h:OkT ts){k:Int}{s:BA}{i:Nat}(hi:i<ts.length)(b:k≠5)(a:bX ts k s i=true):i+1<ts.length:=h.next hi (by rw[KZ a];exact b)
theorem iT(h:OkT ts){s:BA}{i j:Nat}(hi:i<ts.length)(a:dG ts s i= .inr j):j=i+1/\j<ts.length/\bX ts 4 s i=true:=by
 unfold dG at a
 split at a
 .rename_i h2
  obtain rfl:=Sum.inr.inj a
  exact⟨rfl,iZ h hi (by decide) h2,h2⟩
 cases a
theorem yE(h:OkT ts){s:BA}{i j:Nat}(hi:i<ts.length)(a:qQ ts s i= .inr j):j=i+1/\j<ts.length/\bX ts 1 s i=true:=by
 unfold qQ at a
 split at a
 .rename_i h2
  obtain rfl:=Sum.inr.inj a
  exact⟨rfl,iZ h hi (by decide) h2,h2⟩
 cases a
theorem tX(h:OkT ts){k:Int}(c:k≠5){i:Nat}{a:Nat×bZ}(hi:i<ts.length)(b:lE ts k i= .inr a):a=(i+1,aN ts i)/\i+1<ts.length/\(aN ts i).1=k:=by
 unfold lE at b
 split at b
 .rename_i h2
  obtain rfl:=Sum.inr.inj b
  exact⟨rfl,h.next hi (by rw[h2];exact c),h2⟩
 cases b
theorem pV(h:OkT ts){i:Nat}{a:Nat×bZ}(hi:i<ts.length)(f:lG ts i= .inr a):a=(i+1,aN ts i)/\i+1<ts.length/\(aN ts i).1=1/\rY (aN ts i).2.1=false:=by
 obtain⟨b,g,c⟩:=cT f
 obtain⟨rfl,d,e⟩:=tX h (by decide) hi g
 split at c
 .cases c
 rename_i g3
 obtain rfl:=Sum.inr.inj c
 exact⟨rfl,d,e,by simpa using g3⟩
theorem qZ(h:OkT ts){i:Nat}{a:Nat×bZ}(hi:i<ts.length)(f:lZ ts i= .inr a):a=(i+1,aN ts i)/\i+1<ts.length/\(aN ts i).1=3/\iE (aN ts i).2.1.data.toList=true:=by
 obtain⟨b,g,c⟩:=cT f
 obtain⟨rfl,d,e⟩:=tX h (by decide) hi g
 split at c
 .rename_i g3
  obtain rfl:=Sum.inr.inj c
  exact⟨rfl,d,e,g3⟩
 cases c
theorem WT(h:OkT ts){i:Nat}{a:Nat×bZ}(hi:i<ts.length)(f:wB ts i= .inr a):a=(i+1,aN ts i)/\i+1<ts.length/\(aN ts i).1=3/\uG (aN ts i).2.1=true:=by
 obtain⟨b,g,c⟩:=cT f
 obtain⟨rfl,d,e⟩:=tX h (by decide) hi g
 split at c
 .rename_i g3
  obtain rfl:=Sum.inr.inj c
  exact⟨rfl,d,e,g3⟩
 cases c
theorem XS{t:bZ}{x:Ex}{p q:Ps}{i:Nat}(h:iN t x p= .inr (q,i)):q=(p.1,p.2++[x])/\i=p.2.length/\p.2.length≠256:=by
 unfold iN at h
 split at h
 .cases h
 rename_i h1
 obtain⟨rfl,rfl⟩:=Prod.mk.inj (Sum.inr.inj h)
 exact⟨rfl,rfl,h1⟩
def DG(ts:List bZ)(p q:Ps):Prop:=p.1<q.1/\q.1<ts.length/\p.2.length<=q.2.length/\q.2.length<=256
def iS(ts:List bZ)(S:Ps->PM Nat):Prop:=∀(p q:Ps) (x:Nat),p.1<ts.length->p.2.length<=256->S p= .inr (q,x)->DG ts p q/\x<q.2.length
theorem tW{t:bZ}{x:Ex}{p r q:Ps}{i:Nat}(b:p.1<r.1)(c:r.1<ts.length)(d:p.2.length<=r.2.length)(a:r.2.length<=256)(h:iN t x r= .inr (q,i)):DG ts p q/\i<q.2.length:=by
 obtain⟨rfl,rfl,g⟩:=XS h
 refine⟨⟨b,c,?_,?_⟩,?_⟩<;>simp only[jF,jA,jB]<;>omega
theorem OR(h:OkT ts)(f:iS ts E):∀(n:Nat) (l:List Int) (p q:Ps) (x:List Int),p.1<ts.length->p.2.length<=256->sV ts E n l p= .inr (q,x)->DG ts p q
 |0,_,_,_,_,_,_,b=>by cases b
 |n+1,l,p,q,x,v,t,b=>by
  obtain⟨a,s,c⟩:=cT (show bF (E p) _=_ from b)
  obtain⟨⟨D,d,k,e⟩,F⟩:=f p a.1 a.2 v t s
  split at c
  .rename_i hc
   have g:=iZ h d (by decide) hc
   obtain⟨y,z,A,B⟩:=OR h f n _ (a.1.1+1,a.1.2) q x g e c
   exact⟨by simp only at y;omega,z,by simp only at A;omega,B⟩
  obtain⟨j,u,r⟩:=cT c
  obtain⟨rfl,o,-⟩:=iT h d u
  obtain⟨rfl,-⟩:=Prod.mk.inj (Sum.inr.inj r)
  exact⟨by simp only;omega,o,k,e⟩
theorem SR(h:OkT ts)(e:iS ts E){p q:Ps}{x:List Int}(f:p.1<ts.length)(c:p.2.length<=256)(d:tT ts E p= .inr (q,x)):DG ts p q:=by
 obtain⟨i,hi,a⟩:=cT d
 obtain⟨rfl,b,-⟩:=iT h f hi
 split at a
 .rename_i hc
  obtain⟨rfl,-⟩:=Prod.mk.inj (Sum.inr.inj a)
  exact⟨by simp only;omega,iZ h b (by decide) hc,jN _,c⟩
 obtain⟨g,k,l,n⟩:=OR h e _ _ (p.1+1,p.2) q x b c a
 exact⟨by simp only at g;omega,k,l,n⟩
theorem qEp(h:OkT ts)(K:iS ts E){t:bZ}{p q:Ps}{x:Nat}(R:p.1<ts.length)(n:p.2.length<=256)(D:qL ts E t p= .inr (q,x)):DG ts p q/\x<q.2.length:=by
 obtain⟨i,hi,F⟩:=cT D
 obtain⟨rfl,l,-⟩:=iT h R hi
 obtain⟨a,g,G⟩:=cT F
 obtain⟨j,M,H⟩:=cT G
 have key:DG ts (p.1+1,p.2) a.1:=by
  split at g
  .obtain⟨b,f,e⟩:=cT g
   obtain⟨rfl,k,-⟩:=qZ h l f
   obtain⟨c,y,z⟩:=cT e
   obtain⟨rfl,S,-⟩:=iT h k y
   obtain⟨d,A,B⟩:=cT z
   obtain⟨⟨o,s,u,v⟩,-⟩:=K (p.1+1+1+1,p.2) d.1 d.2 S n A
   obtain rfl:=Sum.inr.inj B
   exact⟨by simp only at o ⊢;omega,s,u,v⟩
  split at g
  .obtain⟨b,f,e⟩:=cT g
   obtain⟨rfl,k,-⟩:=qZ h l f
   obtain rfl:=Sum.inr.inj e
   exact⟨by simp only;omega,k,jN _,n⟩
  split at g
  .obtain⟨b,f,e⟩:=cT g
   obtain⟨rfl,k,-⟩:=qZ h l f
   obtain rfl:=Sum.inr.inj e
   exact⟨by simp only;omega,k,jN _,n⟩
  split at g
  .obtain⟨b,f,e⟩:=cT g
   obtain⟨rfl,k,-⟩:=WT h l f
   obtain rfl:=Sum.inr.inj e
   exact⟨by simp only;omega,k,jN _,n⟩
  obtain⟨b,f,e⟩:=cT g
  obtain⟨rfl,k,-⟩:=tX h (by decide) l f
  split at e
  .cases e
  obtain rfl:=Sum.inr.inj e
  exact⟨by simp only;omega,k,jN _,n⟩
 obtain⟨o,s,u,v⟩:=key
 obtain⟨rfl,e,-⟩:=iT h s M
 exact tW (r:=(a.1.1+1,a.1.2)) (by simp only at o ⊢;omega) e u v H
theorem NH(h:OkT ts)(u:iS ts E):iS ts (rD ts params E):=by
 intro p q x o c b
 unfold rD at b
 dsimp only at b
 split at b
 .rename_i hk
  exact tW (r:=(p.1+1,p.2)) (by simp only;omega) (h.next o (by rw[hk];decide)) (jN _) c b
 split at b
 .rename_i hc
  have g:=iZ h o (by decide) hc
  obtain⟨a,n,l⟩:=cT b
  obtain⟨rfl,t,-⟩:=tX h (by decide) g n
  exact tW (r:=(p.1+1+1,p.2)) (by simp only;omega) t (jN _) c l
 split at b
 .rename_i hc
  have g:=iZ h o (by decide) hc
  obtain⟨a,n,l⟩:=cT b
  obtain⟨⟨d,e,f,k⟩,s⟩:=u (p.1+1,p.2) a.1 a.2 g c n
  obtain⟨j,y,v⟩:=cT l
  obtain⟨rfl,t,-⟩:=iT h e y
  obtain⟨rfl,rfl⟩:=Prod.mk.inj (Sum.inr.inj v)
  exact⟨⟨by simp only at d ⊢;omega,t,f,k⟩,s⟩
 split at b
 .cases b
 rename_i hk
 have g:=h.next o (show(aN ts p.1).1≠5 by simp only[ne_eq,Decidable.not_not] at hk;rw[hk];decide)
 split at b
 .obtain⟨⟨d,e,f,k⟩,s⟩:=qEp h u (p:=(p.1+1,p.2)) g c b
  exact⟨⟨by simp only at d;omega,e,f,k⟩,s⟩
 split at b
 .cases b
 split at b
 .obtain⟨a,n,l⟩:=cT b
  obtain⟨d,e,f,k⟩:=SR h u (p:=(p.1+1,p.2)) g c n
  exact tW (by simp only at d;omega) e f k l
 split at b
 .exact tW (r:=(p.1+1,p.2)) (by simp only;omega) g (jN _) c b
 cases b
theorem VU(h:OkT ts){level:Nat}(d:iS ts S):∀(n x:Nat) (p q:Ps) (y:Nat),p.1<ts.length->p.2.length<=256->x<p.2.length->nW ts level S n x p= .inr (q,y)->p.1<=q.1/\q.1<ts.length/\p.2.length<=q.2.length/\q.2.length<=256/\y<q.2.length
 |0,_,_,_,_,_,_,_,b=>by cases b
 |n+1,x,p,q,y,k,e,F,b=>by
  unfold nW at b
  split at b
  .obtain⟨rfl,rfl⟩:=Prod.mk.inj (Sum.inr.inj b)
   exact⟨jN _,k,jN _,e,F⟩
  rename_i hop
  have f:(aN ts p.1).1≠5:=by
   intro f
   apply hop
   unfold lL
   have:opsC.find? (nZ ts level p.1)=none:=by
    rw[List.find?_eq_none]
    intro o _ c
    simp only[nZ,jR] at c
    have:=KZ c.1
    omega
   rw[this]
  have g:=h.next k f
  obtain⟨a,D,B⟩:=cT b
  obtain⟨⟨u,v,z,A⟩,R⟩:=d (p.1+1,p.2) a.1 a.2 g e D
  obtain⟨r,E,c⟩:=cT B
  obtain⟨⟨Y,l,M,s⟩,t⟩:=tW (ts:=ts) (p:=p) (by simp only at u;omega) v z A E
  split at c
  .obtain⟨rfl,rfl⟩:=Prod.mk.inj (Sum.inr.inj c)
   exact⟨by omega,l,M,s,t⟩
  obtain⟨U,G,V,H,K⟩:=VU h d n _ _ q y l s t c
  exact⟨by omega,G,by omega,H,K⟩
theorem xW(h:OkT ts){level:Nat}(b:iS ts S):iS ts (rE ts level S):=by
 intro p q x n l f
 obtain⟨a,k,g⟩:=cT f
 obtain⟨⟨t,c,u,d⟩,e⟩:=b p a.1 a.2 n l k
 obtain⟨v,o,y,r,s⟩:=VU h b _ _ _ q x c d e g
 exact⟨⟨by omega,o,by omega,r⟩,s⟩
theorem sQ(h:OkT ts):∀k,iS ts (dR ts params k)
 |0=>fun _ _ _ _ _ d=>by cases d
 |k+1=>by
  intro p q x n e d
  unfold dR at d
  split at d
  .rename_i hc
   have g:=iZ h n (by decide) hc
   obtain⟨a,U,H⟩:=cT d
   obtain⟨⟨o,r,s,t⟩,-⟩:=sQ h k (p.1+1,p.2) a.1 a.2 g e U
   obtain⟨i,hi,K⟩:=cT H
   obtain⟨rfl,F,-⟩:=yE h r hi
   obtain⟨b,f,M⟩:=cT K
   obtain⟨⟨u,v,y,z⟩,-⟩:=sQ h k (a.1.1+1,a.1.2) b.1 b.2 F t f
   obtain⟨j,V,R⟩:=cT M
   obtain⟨rfl,G,-⟩:=yE h v V
   obtain⟨c,l,S⟩:=cT R
   obtain⟨⟨A,B,D,E⟩,-⟩:=sQ h k (b.1.1+1,b.1.2) c.1 c.2 G z l
   simp only at o s u y A D
   exact tW (by omega) B (by omega) E S
  exact xW h (xW h (xW h (NH h (sQ h k)))) p q x n e d
end
theorem ZU{ts:List bZ}{i:Nat}(hi:i<ts.length):bV ts (i:Int)=some (aN ts i):=by
 rw[dP hi]
 simp[aN,kP,hi]
theorem mI{i:Nat}(h:i<1000000):IntKind.wrap .i64 ((i:Int)+1)=((i+1:Nat):Int):=by rw[bS (by omega) (by omega)];omega
section
variable {N:Nat} {ts:List bZ} {pr:List BA} {b:List Ex} {i:Nat}
theorem rA(hi:i<ts.length):pC N (ts,(i:Int),pr,b)=some ((ts,(i:Int),pr,b),aN ts i):=by
 simp only[pC,ZU hi,j0]
theorem CZ(hi:i<ts.length)(k:Int)(s:BA):sL N (ts,(i:Int),pr,b) k s=some ((ts,(i:Int),pr,b),bX ts k s i):=by
 simp only[sL,rA hi,j0,lB,bX]
 cases h:(aN ts i).1==k<;>simp[h]
theorem PR(hi:i<ts.length)(a:ts.length<1000000)(s:BA):xG N (ts,(i:Int),pr,b) s=some (Sum.map id (fun j:Nat=>(ts,(j:Int),pr,b)) (qQ ts s i)):=by
 simp only[xG,CZ hi,rA hi,j0,iL,qQ]
 cases h:bX ts 1 s i
 .simp[dN]
 simp[mI (show i<1000000 by omega)]
theorem rC(hi:i<ts.length)(a:ts.length<1000000)(s:BA):nE N (ts,(i:Int),pr,b) s=some (Sum.map id (fun j:Nat=>(ts,(j:Int),pr,b)) (dG ts s i)):=by
 simp only[nE,CZ hi,rA hi,j0,iL,dG]
 cases h:bX ts 4 s i
 .simp[dN]
 simp[mI (show i<1000000 by omega)]
theorem BX(hi:i<ts.length)(a:ts.length<1000000)(s:BA):sJ N (ts,(i:Int),pr,b) s=some (if bX ts 4 s i then((ts,((i+1:Nat):Int),pr,b),true) else((ts,(i:Int),pr,b),false)):=by
 simp only[sJ,CZ hi,j0]
 cases h:bX ts 4 s i
 .simp
 simp[mI (show i<1000000 by omega)]
theorem HM(hi:i<ts.length)(f:ts.length<1000000){k:Int}(e:k≠5):tR N (ts,(i:Int),pr,b) k=some (Sum.map id (fun a:Nat×bZ=>((ts,(a.1:Int),pr,b),a.2)) (lE ts k i)):=by
 simp only[tR,rA hi,j0,iL,lE]
 have d:(k !=5)=true:=by simpa using e
 by_cases h:(aN ts i).1=k
 .have c:((aN ts i).1 !=k)=false:=by simp[h]
  simp only[c,d,j9,jC,jE,j0,if_pos h,mI (show i<1000000 by omega),kD]
 have c:((aN ts i).1 !=k)=true:=by simp[h]
 simp only[c,jE,j0,if_neg h,dN,Sum.map_inl,id]
theorem orS(a b:Bool):(if a=true then some a else some b)=some (a||b):=by
 cases a<;>simp
theorem qOd(b:Bool):(if b=true then some true else some false)=some b:=by cases b<;>simp
theorem UA(s:BA):BM N s=some (rY s):=by
 simp only[BM,lB,rY,wordsR,HA,yH,IA,HX,IC,IP,HY,HW,oH,oI,oM,oK,pL,jI,kZ,dD]
 simp only[orS,j0,qOd,jG]
 simp only[Bool.decide_or]
theorem LS(hi:i<ts.length)(c:ts.length<1000000):tP N (ts,(i:Int),pr,b)=some (Sum.map id (fun a:Nat×bZ=>((ts,(a.1:Int),pr,b),a.2)) (lG ts i)):=by
 simp only[tP,HM hi c (show(1:Int)≠5 by decide),j0,iL,lG]
 cases h:lE ts 1 i with
 |inl z=>simp[bF]
 |inr a=>
  simp only[kD,UA,j0,bF]
  cases h2:rY a.2.2.1<;>simp[dN]
theorem LV(hi:i<ts.length)(d:ts.length<1000000)(g:300000<N)(f:∀j,(aN ts j).2.1.size<100000):tO N (ts,(i:Int),pr,b)=some (Sum.map id (fun a:Nat×bZ=>((ts,(a.1:Int),pr,b),a.2)) (lZ ts i)):=by
 simp only[tO,HM hi d (show(3:Int)≠5 by decide),j0,iL,lZ]
 cases h:lE ts 3 i with
 |inl z=>simp[bF]
 |inr a=>
  have c:a.2=aN ts i:=by
   unfold lE at h
   split at h
   .rw[<-Sum.inr.inj h]
   cases h
  have e:=f i
  rw[<-c] at e
  simp only[kD,PW (N:=N) (s:=a.2.2.1) (by omega) (by omega),j0,bF]
  cases h2:iE a.2.2.1.data.toList<;>simp[dN]
theorem yG(t:bZ)(x:Ex)(d:b.length<=256)(n:Nat):qX N (ts,(n:Int),pr,b) t x=some (Sum.map id (fun q:Ps×Nat=>((ts,(q.1.1:Int),pr,q.1.2),(q.2:Int))) (iN t x (n,b))):=by
 simp only[qX,iL,j0,iN]
 by_cases h:b.length=256
 .simp[h,dN]
 have a:((b.length:Int)==256)=false:=by simp;omega
 have c:IntKind.wrap .i64 (((b.length+1:Nat):Int)-1)=(b.length:Int):=by rw[bS (by omega) (by omega)];omega
 simp only[a,j9,jC,j0,if_neg h,kD]
 rw[iB (by simp only[jA,jB];omega) (by omega)]
 simp only[j0,jF,jA,jB,kT,c]
end
theorem VI{N:Nat}{s:BA}{l:List BA}(a:l.length<1000000):∀(d i M:Nat),i+d=l.length->d<M->
  aK (zL N l s) M (i:Int)=some (match(l.drop i).findIdx? (fun x=>decide (x=s)) with|some j=> .inr (((i+j:Nat):Int))|none=> .inl ())
 |d,i,0,_,h=>by omega
 |0,i,M+1,h,_=>by
  have:l.drop i=[]:=jT (by omega)
  simp only[aK,zL,this,List.findIdx?_nil]
  rw[if_neg (by simp only[j6];omega)]
  rfl
 |d+1,i,M+1,h,c=>by
  have hi:i<l.length:=by omega
  have b:=VI (N:=N) (s:=s) a d (i+1) M (by omega) (by omega)
  simp only[aK,zL]
  rw[if_pos (by simp only[j6];omega),dP hi,jJ hi,List.findIdx?_cons]
  simp only[j0,lB,j6]
  by_cases hs:l[i]=s
  .rw[if_pos hs.symm,if_pos hs];simp
  rw[if_neg (fun e=>hs e.symm),if_neg hs]
  simp only[j0,mI (show i<1000000 by omega),b]
  cases(l.drop (i+1)).findIdx? (fun x=>decide (x=s)) with
  |none=>rfl
  |some j=>simp only[kG];congr 2;omega
theorem XY{N:Nat}{s:BA}{l:List BA}(b:l.length<1000000)(a:l.length<N):
  zN N l s=some (match l.findIdx? (fun x=>decide (x=s)) with|some j=>(j:Int)|none=> -1):=by
 have h:=VI (N:=N) (s:=s) b l.length 0 N (by omega) a
 simp only[kA,kT] at h
 simp only[zN]
 rw[show(0:Int)=((0:Nat):Int) from rfl,h]
 simp only[j0]
 cases l.findIdx? (fun x=>decide (x=s))<;>rfl
theorem qGg{s:BA}{l:List BA}:(l.findIdx? (fun x=>decide (x=s))).isSome=decide (s∈l):=by
 rw[List.findIdx?_isSome]
 rw[jY]
 simp only[fN,j6]
 exact⟨fun⟨x,a,b⟩=>b▸a,fun h=>⟨s,h,rfl⟩⟩
theorem TY{N:Nat}{s:BA}{l:List BA}(b:l.length<1000000)(a:l.length<N):
  zM N l s=some (decide (s∈l)):=by
 simp only[zM,XY b a,j0,<-qGg]
 cases l.findIdx? (fun x=>decide (x=s)) with
 |none=>rfl
 |some j=>simp only[hD];rw[jL (show(j:Int)>=0 by omega)]
theorem qId{α:Type}{g:α->Bool}{l k:List α}(n:∀a∈l,∀b∈l,g a=true->g b=true->a=b)(d:k.Perm l):k.find? g=l.find? g:=by
 cases h:l.find? g with
 |none=>
  rw[List.find?_eq_none] at h ⊢
  exact fun x c=>h x (d.mem_iff.1 c)
 |some a=>
  have e:=gZ h
  have f:=List.find?_some h
  cases c:k.find? g with
  |none=>exact absurd f (by simpa using List.find?_eq_none.1 c a (d.mem_iff.2 e))
  |some b=>rw[n b (d.mem_iff.1 (gZ c)) a e (List.find?_some c) f]
theorem qKo:∀a∈opsC,∀b∈opsC,a.2=b.2->a=b:=by
 have h:(opsC.all fun a=>opsC.all fun b=> !(decide (a.2=b.2))||decide (a=b))=true:=by kernel_rfl
 intro a c b d e
 have:=jX.1 (jX.1 h a c) b d
 simpa[e] using this
section
variable {N:Nat} {ts:List bZ} {pr:List BA} {b:List Ex} {i:Nat}
theorem qJx(op:Int):FW N op=some ((uK op:Nat):Int):=by
 by_cases h1:op=6
 .subst h1;rfl
 by_cases h2:op=7
 .subst h2;rfl
 by_cases h3:op=1
 .subst h3;rfl
 by_cases h4:op=2
 .subst h4;rfl
 simp[FW,uK,h1,h2,h3,h4]
theorem YX(level:Nat){t:bZ}(a:t=aN ts i):∀k:List (Int×BA),iW (uU N (level:Int) ((ts,(i:Int),pr,b),t)) k ()=
  some (match k.find? (nZ ts level i) with|some o=> .inr ((ts,(i:Int),pr,b),o.1)|none=> .inl ())
 |[]=>rfl
 |o::k=>by
  have key:uU N (level:Int) ((ts,(i:Int),pr,b),t) (some o) ()=some (if nZ ts level i o then .inr (.inr ((ts,(i:Int),pr,b),o.1)) else .inl ()):=by
   subst a
   simp only[uU,qJx,j0,lB,nZ,bX]
   have c:(((uK o.1:Nat):Int)==(level:Int))=decide (uK o.1=level):=by
    rw[jY];simp only[kE,j6];omega
   rw[c]
   by_cases h1:(aN ts i).1=4<;>by_cases h2:(aN ts i).2.1=o.2<;>by_cases h3:uK o.1=level<;>simp[h1,h2,h3]
  simp only[iW,key,j0,List.find?_cons]
  cases h:nZ ts level i o with
  |true=>rfl
  |false=>exact YX level a k
theorem qKy:KL N=some (some opsC):=by kernel_rfl
theorem qFx(hi:i<ts.length)(level:Nat):EQ N (ts,(i:Int),pr,b) (level:Int)=some ((ts,(i:Int),pr,b),lL ts level i):=by
 simp only[EQ,rA hi,qKy,j0,uO,kG,gW]
 have h:∀a∈opsC,∀b∈opsC,nZ ts level i a=true->nZ ts level i b=true->a=b:=by
  intro a e b g c d
  simp only[nZ,bX,jR,j6] at c d
  exact qKo a e b g (c.1.2.symm.trans d.1.2)
 have key:=WX (f:=uU N (level:Int) ((ts,(i:Int),pr,b),aN ts i)) (l:=opsC) (s:=()) fun k c=>by
  rw[YX level rfl k,qId h c]
 rw[key]
 unfold lL
 cases opsC.find? (nZ ts level i)<;>rfl
end
abbrev iX:=List bZ×Int×List BA×List Ex
def dS(ts:List bZ)(pr:List BA)(p:Ps):iX:=(ts,(p.1:Int),pr,p.2)
def iF(ts:List bZ)(pr:List BA):PM Nat->cF⊕(iX×Int):=Sum.map id fun q=>(dS ts pr q.1,(q.2:Int))
def DA(ts:List bZ)(pr:List BA):PM (List Int)->cF⊕(iX×List Int):=Sum.map id fun q=>(dS ts pr q.1,q.2)
section
variable {N:Nat} {ts:List bZ} {pr:List BA} {E S:Ps->PM Nat} {d:Int}
variable {r1:iX->bZ->Int->Option (cF⊕(iX×Int))} {r2:iX->Int->Option (cF⊕(iX×List Int))} {r3:iX->Int->Option (cF⊕(iX×Int))} {r4:iX->Int->Int->Option (cF⊕(iX×Int))} {r5:iX->Int->Option (cF⊕(iX×Int))}
theorem WV(k:OkT ts)(r:ts.length<1000000)(t:iS ts E)(u:∀p:Ps,p.1<ts.length->p.2.length<=256->r5 (dS ts pr p) (IntKind.wrap .i64 (d+1))=some (iF ts pr (E p))):
  ∀(n M:Nat) (l:List Int) (p:Ps),p.1<ts.length->p.2.length<=256->l.length<=p.1->ts.length<p.1+n->ts.length<p.1+M->
  ((aK (DV N r5 d) M (l,ts,(p.1:Int),pr,p.2)).bind fun s=>(match s with| .inl a=>(nE N (a.2.1,a.2.2.1,a.2.2.2.1,a.2.2.2.2) (⟨#[41]⟩:BA)).bind fun A=>(match A with| .inl B=>some (.inl B)| .inr e=>some (.inr ((e.1,e.2.1,e.2.2.1,e.2.2.2),a.1)))| .inr (z)=>some z))=some (DA ts pr (sV ts E n l p))
 |0,M,l,p,c,_,_,h,_=>by omega
 |n+1,0,l,p,c,_,_,_,h=>by omega
 |n+1,M+1,l,p,c,v,D,R,K=>by
  have f:=u p c v
  simp only[dS] at f
  simp only[aK,DV,sV,f,j0]
  cases hq:E p with
  |inl z=>simp only[iF,Sum.map_inl,id,bF,DA,j0]
  |inr q=>
   obtain⟨⟨F,o,G,x⟩,H⟩:=t p q.1 q.2 c v hq
   simp only[iF,kD,bF,dS]
   rw[iB (by simp only[jA,jB];omega) (by omega)]
   simp only[j0,BX o r,oT]
   rcases dJ (bX ts 4 ⟨#[44]⟩ q.1.1) with b|b
   .have g:=iZ k o (by decide) b
    have y:=WV k r t u n M (l++[(q.2:Int)]) (q.1.1+1,q.1.2) g x (by simp only[jF,jA,jB];omega) (by simp only;omega) (by simp only;omega)
    simp only[b,jE,jP,j9,jC,j0]
    exact y
   simp only[b,j9,jC,kC,jE,j0,rC o r,iP]
   cases dG ts ⟨#[41]⟩ q.1.1 with
   |inl z=>rfl
   |inr j=>rfl
theorem qFj(a:OkT ts)(c:ts.length<1000000)(n:ts.length<N)(f:iS ts E)(k:∀p:Ps,p.1<ts.length->p.2.length<=256->r5 (dS ts pr p) (IntKind.wrap .i64 (d+1))=some (iF ts pr (E p)))
  (p:Ps) (e:p.1<ts.length) (l:p.2.length<=256):EA N r1 r2 r3 r4 r5 (dS ts pr p) d=some (DA ts pr (tT ts E p)):=by
 simp only[EA,dS,rC e c,j0,tT,mY]
 cases h:dG ts ⟨#[40]⟩ p.1 with
 |inl z=>rfl
 |inr i=>
  obtain⟨rfl,g,-⟩:=iT a e h
  simp only[kD,bF,BX g c,j0,iP]
  rcases dJ (bX ts 4 ⟨#[41]⟩ (p.1+1)) with b|b
  .simp only[b,jE];rfl
  simp only[b,j9,jC]
  exact WV a c f k (ts.length+1) N [] (p.1+1,p.2) g l (by simp) (by simp only;omega) (by simp only;omega)
theorem qJb(c:OkT ts)(f:ts.length<1000000)(n:300000<N)(o:∀j,(aN ts j).2.1.size<100000)(A:iS ts E)(B:∀p:Ps,p.1<ts.length->p.2.length<=256->r5 (dS ts pr p) (IntKind.wrap .i64 (d+1))=some (iF ts pr (E p)))
  (t:bZ) (p:Ps) (s:p.1<ts.length) (l:p.2.length<=256):EG N r1 r2 r3 r4 r5 (dS ts pr p) t d=some (iF ts pr (qL ts E t p)):=by
 have fin:∀(b:Int×Int×BA×List Int×iX) (q:Ps) (x:Ex),b.2.2.2.2=dS ts pr q->x=(b.1,b.2.1,0,b.2.2.1,b.2.2.2.1)->q.1<ts.length->q.2.length<=256->
   ((nE N (b.2.2.2.2.1,b.2.2.2.2.2.1,b.2.2.2.2.2.2.1,b.2.2.2.2.2.2.2) (⟨#[41]⟩:BA)).bind fun r=>(match r with| .inl v=>some (.inl v)| .inr k=>(qX N (k.1,k.2.1,k.2.2.1,k.2.2.2) (t.1,t.2.1,t.2.2.1,t.2.2.2) (b.1,b.2.1,0,b.2.2.1,b.2.2.2.1)).bind fun u=>(match u with| .inl y=>some (.inl y)| .inr e=>some (.inr ((e.1.1,e.1.2.1,e.1.2.2.1,e.1.2.2.2),e.2)))))=
   some (iF ts pr (bF (dG ts iP q.1) fun i=>iN t x (i,q.2))):=by
  intro b q x k u r e
  subst u
  rw[k]
  simp only[dS,rC r f,j0,iP]
  cases hj:dG ts ⟨#[41]⟩ q.1 with
  |inl z=>rfl
  |inr j=>
   simp only[kD,bF,yG _ _ e,j0]
   cases iN t (b.1,b.2.1,0,b.2.2.1,b.2.2.2.1) (j,q.2)<;>rfl
 simp only[EG,dS,rC s f,j0,qL,mY]
 cases h:dG ts ⟨#[40]⟩ p.1 with
 |inl z=>rfl
 |inr i=>
  obtain⟨rfl,g,-⟩:=iT c s h
  simp only[kD,bF,lB,j6]
  by_cases k1:t.2.1=oH
  .rw[if_pos (show t.2.1=(⟨#[114,101,97,100]⟩:BA) from k1),if_pos k1]
   simp only[LV g f n o,j0]
   cases h1:lZ ts (p.1+1) with
   |inl z=>rfl
   |inr a=>
    obtain⟨rfl,e,-⟩:=qZ c g h1
    simp only[kD,rC e f,j0,oT]
    cases h2:dG ts ⟨#[44]⟩ (p.1+1+1) with
    |inl z=>rfl
    |inr j=>
     obtain⟨rfl,r,-⟩:=iT c e h2
     have k:=B (p.1+1+1+1,p.2) r l
     simp only[dS] at k
     simp only[kD,k,j0]
     cases h3:E (p.1+1+1+1,p.2) with
     |inl z=>rfl
     |inr q=>
      obtain⟨⟨y,u,D,v⟩,F⟩:=A (p.1+1+1+1,p.2) q.1 q.2 r l h3
      exact fin (6,0,(aN ts (p.1+1)).2.1,[(q.2:Int)],ts,(q.1.1:Int),pr,q.1.2) q.1 _ rfl rfl u v
  rw[if_neg (show ¬t.2.1=(⟨#[114,101,97,100]⟩:BA) from k1),if_neg k1]
  by_cases k2:t.2.1=oI
  .rw[if_pos (show t.2.1=(⟨#[115,105,122,101]⟩:BA) from k2),if_pos k2]
   simp only[LV g f n o,j0]
   cases h1:lZ ts (p.1+1) with
   |inl z=>rfl
   |inr a=>
    obtain⟨rfl,e,-⟩:=qZ c g h1
    exact fin (7,0,(aN ts (p.1+1)).2.1,[],ts,((p.1+1+1:Nat):Int),pr,p.2) (p.1+1+1,p.2) _ rfl rfl e l
  rw[if_neg (show ¬t.2.1=(⟨#[115,105,122,101]⟩:BA) from k2),if_neg k2]
  by_cases k3:t.2.1=oM
  .rw[if_pos (show t.2.1=(⟨#[104,97,115]⟩:BA) from k3),if_pos k3]
   simp only[LV g f n o,j0]
   cases h1:lZ ts (p.1+1) with
   |inl z=>rfl
   |inr a=>
    obtain⟨rfl,e,-⟩:=qZ c g h1
    exact fin (8,0,(aN ts (p.1+1)).2.1,[],ts,((p.1+1+1:Nat):Int),pr,p.2) (p.1+1+1,p.2) _ rfl rfl e l
  rw[if_neg (show ¬t.2.1=(⟨#[104,97,115]⟩:BA) from k3),if_neg k3]
  by_cases k4:t.2.1=oK
  .rw[if_pos (show t.2.1=(⟨#[101,110,118]⟩:BA) from k4),if_pos k4]
   simp only[HM g f (show(3:Int)≠5 by decide),j0,wB]
   cases h1:lE ts 3 (p.1+1) with
   |inl z=>rfl
   |inr a=>
    obtain⟨rfl,e,-⟩:=tX c (by decide) g h1
    simp only[kD,qMm (N:=N) (by omega),j0,bF,iL]
    cases h2:uG (aN ts (p.1+1)).2.1 with
    |false=>rfl
    |true=>exact fin (9,0,(aN ts (p.1+1)).2.1,[],ts,((p.1+1+1:Nat):Int),pr,p.2) (p.1+1+1,p.2) _ rfl rfl e l
  rw[if_neg (show ¬t.2.1=(⟨#[101,110,118]⟩:BA) from k4),if_neg k4]
  simp only[HM g f (show(2:Int)≠5 by decide),j0]
  cases h1:lE ts 2 (p.1+1) with
  |inl z=>rfl
  |inr a=>
   obtain⟨rfl,e,-⟩:=tX c (by decide) g h1
   simp only[kD,iL,j0]
   by_cases h2:(aN ts (p.1+1)).2.2.1>=64
   .simp only[if_pos h2,j0];rfl
   simp only[if_neg h2,j0]
   exact fin (10,(aN ts (p.1+1)).2.2.1,⟨#[]⟩,[],ts,((p.1+1+1:Nat):Int),pr,p.2) (p.1+1+1,p.2) _ rfl rfl e l
end
section
variable {N:Nat} {ts:List bZ} {pr:List BA} {E S:Ps->PM Nat} {d:Int}
variable {r1:iX->bZ->Int->Option (cF⊕(iX×Int))} {r2:iX->Int->Option (cF⊕(iX×List Int))} {r3:iX->Int->Option (cF⊕(iX×Int))} {r4:iX->Int->Int->Option (cF⊕(iX×Int))} {r5:iX->Int->Option (cF⊕(iX×Int))}
theorem qNf(x:BA):(decide (x=(⟨#[114,101,97,100]⟩:BA))||(decide (x=(⟨#[115,105,122,101]⟩:BA))||(decide (x=(⟨#[104,97,115]⟩:BA))||(decide (x=(⟨#[101,110,118]⟩:BA))||decide (x=(⟨#[102,108,105,112]⟩:BA))))))=decide (x∈[oH,oI,oM,oK,pL]):=by
 simp only[oH,oI,oM,oK,pL,jI,kZ,dD,Bool.decide_or]
theorem qJr(c:OkT ts)(o:ts.length<1000000)(K:pr.length<1000)(M:300000<N)(y:iS ts E)(H:∀p:Ps,p.1<ts.length->p.2.length<=256->r5 (dS ts pr p) (IntKind.wrap .i64 (d+1))=some (iF ts pr (E p)))
  (F:∀(t:bZ) (p:Ps),p.1<ts.length->p.2.length<=256->r1 (dS ts pr p) t d=some (iF ts pr (qL ts E t p)))
  (G:∀p:Ps,p.1<ts.length->p.2.length<=256->r2 (dS ts pr p) d=some (DA ts pr (tT ts E p)))
  (p:Ps) (k:p.1<ts.length) (b:p.2.length<=256):EN N r1 r2 r3 r4 r5 (dS ts pr p) d=some (iF ts pr (rD ts pr E p)):=by
 have A:=mI (show p.1<1000000 by omega)
 simp only[EN,dS,rA k,j0,rD]
 by_cases k1:(aN ts p.1).1=2
 .rw[if_pos (show((aN ts p.1).1==2)=true by simpa using k1),if_pos k1,A]
  simp only[yG _ _ b,j0]
  cases iN (aN ts p.1) (1,(aN ts p.1).2.2.1,0,⟨#[]⟩,[]) (p.1+1,p.2)<;>rfl
 rw[if_neg (show ¬((aN ts p.1).1==2)=true by simpa using k1),if_neg k1]
 simp only[BX k o,j0]
 rcases dJ (bX ts 4 QA p.1) with e|e
 .have c1':bX ts 4 ⟨#[45]⟩ p.1=true:=e
  have g:=iZ c k (by decide) e
  simp only[e,c1',jE,HM g o (show(2:Int)≠5 by decide),j0]
  cases h:lE ts 2 (p.1+1) with
  |inl z=>rfl
  |inr a=>
   simp only[kD,bF,yG _ _ b,j0]
   cases iN (aN ts p.1) (1,IntKind.wrap .i64 (0-a.2.2.2.1),0,⟨#[]⟩,[]) (a.1,p.2)<;>rfl
 have c1':bX ts 4 ⟨#[45]⟩ p.1=false:=e
 simp only[e,c1',j9,jC,BX k o,j0]
 rcases dJ (bX ts 4 mY p.1) with f|f
 .have c2':bX ts 4 ⟨#[40]⟩ p.1=true:=f
  have g:=iZ c k (by decide) f
  have n:=H (p.1+1,p.2) g b
  simp only[dS] at n
  simp only[f,c2',jE,n,j0]
  cases h:E (p.1+1,p.2) with
  |inl z=>rfl
  |inr q=>
   obtain⟨⟨B,u,D,v⟩,r⟩:=y (p.1+1,p.2) q.1 q.2 g b h
   simp only[iF,kD,bF,dS,rC u o,j0,iP]
   cases dG ts ⟨#[41]⟩ q.1.1<;>rfl
 have c2':bX ts 4 ⟨#[40]⟩ p.1=false:=f
 simp only[f,c2',j9,jC,iL,j0]
 by_cases k2:(aN ts p.1).1=1
 rotate_left
 .rw[if_pos (show((aN ts p.1).1 !=1)=true by simpa using k2),if_pos k2];rfl
 rw[if_neg (show ¬((aN ts p.1).1 !=1)=true by simpa using k2),if_neg (show ¬(aN ts p.1).1≠1 by simpa using k2)]
 have g:=c.next k (show(aN ts p.1).1≠5 by rw[k2];decide)
 simp only[j0,lB,orS,qNf,A]
 by_cases k3:(aN ts p.1).2.1∈[oH,oI,oM,oK,pL]
 .rw[if_pos (show decide ((aN ts p.1).2.1∈[oH,oI,oM,oK,pL])=true from jL k3),if_pos k3]
  have h1p:=F (aN ts p.1) (p.1+1,p.2) g b
  simp only[dS] at h1p
  simp only[h1p,j0]
  cases qL ts E (aN ts p.1) (p.1+1,p.2)<;>rfl
 rw[if_neg (show ¬decide ((aN ts p.1).2.1∈[oH,oI,oM,oK,pL])=true by simpa using k3),if_neg k3]
 simp only[UA,j0]
 rcases dJ (rY (aN ts p.1).2.1) with r|r
 .simp only[r,jE,j0];rfl
 simp only[r,j9,jC,j0,CZ g]
 rcases dJ (bX ts 4 mY (p.1+1)) with n|n
 .have c4':bX ts 4 ⟨#[40]⟩ (p.1+1)=true:=n
  have h2p:=G (p.1+1,p.2) g b
  simp only[dS] at h2p
  simp only[n,c4',jE,h2p,j0]
  cases h:tT ts E (p.1+1,p.2) with
  |inl z=>rfl
  |inr q=>
   obtain⟨B,u,D,v⟩:=SR c y (p:=(p.1+1,p.2)) g b h
   simp only[DA,kD,bF,dS,yG _ _ v,j0]
   cases iN (aN ts p.1) (3,0,0,(aN ts p.1).2.1,q.2) (q.1.1,q.1.2)<;>rfl
 have c4':bX ts 4 ⟨#[40]⟩ (p.1+1)=false:=n
 simp only[n,c4',j9,jC,XY (N:=N) (l:=pr) (s:=(aN ts p.1).2.1) (by omega) (by omega),j0]
 cases pr.findIdx? (fun x=>decide (x=(aN ts p.1).2.1)) with
 |none=>rfl
 |some j=>
  simp only[j6]
  rw[if_neg (by omega)]
  simp only[j0,yG _ _ b]
  cases iN (aN ts p.1) (2,(j:Int),0,⟨#[]⟩,[]) (p.1+1,p.2)<;>rfl
theorem qLb(a:∀p:Ps,p.1<ts.length->p.2.length<=256->r3 (dS ts pr p) d=some (iF ts pr (S p)))(p:Ps)(c:p.1<ts.length)(b:p.2.length<=256):
  wW N r1 r2 r3 r4 r5 (dS ts pr p) 4 d=some (iF ts pr (S p)):=by
 have h3p:=a p c b
 simp only[dS] at h3p
 simp only[wW,dS,h3p,j0]
 cases S p<;>rfl
theorem XF(c:OkT ts)(B:ts.length<1000000)(k:iS ts S){L:Nat}(A:L<4)(f:∀p:Ps,p.1<ts.length->p.2.length<=256->r4 (dS ts pr p) ((L:Int)+1) d=some (iF ts pr (S p))):
  ∀(n M x:Nat) (p:Ps),p.1<ts.length->p.2.length<=256->x<p.2.length->ts.length<p.1+n->ts.length<p.1+M->
  aK (EH N r4 (L:Int) d) M ((x:Int),ts,(p.1:Int),pr,p.2)=some (iF ts pr (nW ts L S n x p))
 |0,M,x,p,b,_,_,h,_=>by omega
 |n+1,0,x,p,b,_,_,_,h=>by omega
 |n+1,M+1,x,p,b,l,U,R,K=>by
  have D:=mI (show p.1<1000000 by omega)
  have t:IntKind.wrap .i64 ((L:Int)+1)=(L:Int)+1:=bS (by omega) (by omega)
  simp only[aK,EH,nW,qFx b,j0]
  by_cases a:lL ts L p.1=0
  .rw[if_pos (show(lL ts L p.1==0)=true by simpa using a),if_pos a];rfl
  rw[if_neg (show ¬(lL ts L p.1==0)=true by simpa using a),if_neg a]
  have s:(aN ts p.1).1≠5:=by
   intro s
   apply a
   unfold lL
   have:opsC.find? (nZ ts L p.1)=none:=by
    rw[List.find?_eq_none]
    intro o _ e
    simp only[nZ,jR] at e
    have:=KZ e.1
    omega
   rw[this]
  have g:=c.next b s
  have h4p:=f (p.1+1,p.2) g l
  simp only[dS] at h4p
  simp only[rA b,j0,D,t,h4p]
  cases h:S (p.1+1,p.2) with
  |inl z=>rfl
  |inr q=>
   obtain⟨⟨u,v,y,e⟩,H⟩:=k (p.1+1,p.2) q.1 q.2 g l h
   simp only[iF,kD,bF,dS,yG _ _ e,j0]
   cases hn2:iN (aN ts p.1) (4,0,lL ts L p.1,⟨#[]⟩,[(x:Int),(q.2:Int)]) (q.1.1,q.1.2) with
   |inl z=>rfl
   |inr r=>
    obtain⟨⟨a,E,V,F⟩,G⟩:=tW (ts:=ts) (p:=p) (r:=(q.1.1,q.1.2)) (by simp only at u ⊢;omega) v y e hn2
    simp only[kD]
    by_cases k6:L=1
    .subst k6
     rfl
    rw[if_neg (show ¬((L:Int)==1)=true by simp;omega),if_neg k6]
    simp only[j0]
    exact XF c B k A f n M r.2 r.1 E F G (by omega) (by omega)
theorem OX(e:OkT ts)(r:ts.length<1000000)(u:1000001<N)(b:iS ts S){L:Nat}(o:L<4)(a:∀p:Ps,p.1<ts.length->p.2.length<=256->r4 (dS ts pr p) ((L:Int)+1) d=some (iF ts pr (S p)))
  (p:Ps) (f:p.1<ts.length) (c:p.2.length<=256):wW N r1 r2 r3 r4 r5 (dS ts pr p) (L:Int) d=some (iF ts pr (rE ts L S p)):=by
 have g:IntKind.wrap .i64 ((L:Int)+1)=(L:Int)+1:=bS (by omega) (by omega)
 have h4p:=a p f c
 simp only[dS] at h4p
 simp only[wW,dS,rE,g,h4p,j0]
 rw[if_neg (show ¬((L:Int)==4)=true by simp;omega)]
 cases h:S p with
 |inl z=>rfl
 |inr q=>
  obtain⟨⟨s,k,t,l⟩,n⟩:=b p q.1 q.2 f c h
  simp only[iF,kD,bF,dS]
  rw[XF e r b o a (ts.length+1) N q.2 q.1 k l n (by omega) (by omega)]
  rfl
theorem qNi{k:Nat}(f:OkT ts)(B:ts.length<1000000)(Z:d+k=32)(hk:k<33)(q:iS ts (dR ts pr k))(r:∀p:Ps,p.1<ts.length->p.2.length<=256->r5 (dS ts pr p) (IntKind.wrap .i64 (d+1))=some (iF ts pr (dR ts pr k p)))
  (E:∀p:Ps,p.1<ts.length->p.2.length<=256->r4 (dS ts pr p) 1 d=some (iF ts pr (HD ts pr (dR ts pr k) p)))
  (p:Ps) (h:p.1<ts.length) (s:p.2.length<=256):xC N r1 r2 r3 r4 r5 (dS ts pr p) d=some (iF ts pr (dR ts pr (k+1) p)):=by
 have F:=mI (show p.1<1000000 by omega)
 simp only[xC,dS,rA h,j0,dR]
 rw[if_neg (show ¬decide (d>32)=true by simp only[j6];omega)]
 simp only[j0,CZ h]
 rcases dJ (bX ts 1 IP p.1) with e|e
 rotate_left
 .have c1':bX ts 1 ⟨#[105,102]⟩ p.1=false:=e
  have h4p:=E p h s
  simp only[dS] at h4p
  simp only[e,c1',kC,jE,j9,jC,h4p,j0]
  cases HD ts pr (dR ts pr k) p<;>rfl
 have c1':bX ts 1 ⟨#[105,102]⟩ p.1=true:=e
 have g:=iZ f h (by decide) e
 have l:=r (p.1+1,p.2) g s
 simp only[dS] at l
 simp only[e,c1',jP,jE,j9,jC,F,l,j0]
 cases ha:dR ts pr k (p.1+1,p.2) with
 |inl z=>rfl
 |inr a=>
  obtain⟨⟨G,t,H,u⟩,K⟩:=q (p.1+1,p.2) a.1 a.2 g s ha
  simp only[iF,kD,bF,dS,PR t B,j0,HY]
  cases hi:qQ ts ⟨#[116,104,101,110]⟩ a.1.1 with
  |inl z=>rfl
  |inr i=>
   obtain⟨rfl,y,-⟩:=yE f t hi
   have n:=r (a.1.1+1,a.1.2) y u
   simp only[dS] at n
   simp only[kD,n,j0]
   cases hb1:dR ts pr k (a.1.1+1,a.1.2) with
   |inl z=>rfl
   |inr b=>
    obtain⟨⟨M,v,R,x⟩,S⟩:=q (a.1.1+1,a.1.2) b.1 b.2 y u hb1
    simp only[iF,kD,bF,dS,PR v B,j0,HW]
    cases hj:qQ ts ⟨#[101,108,115,101]⟩ b.1.1 with
    |inl z=>rfl
    |inr j=>
     obtain⟨rfl,A,-⟩:=yE f v hj
     have o:=r (b.1.1+1,b.1.2) A x
     simp only[dS] at o
     simp only[kD,o,j0]
     cases hc1:dR ts pr k (b.1.1+1,b.1.2) with
     |inl z=>rfl
     |inr c=>
      obtain⟨⟨e,U,V,D⟩,Y⟩:=q (b.1.1+1,b.1.2) c.1 c.2 A x hc1
      simp only[iF,kD,bF,dS,yG _ _ D,j0]
      cases iN (aN ts p.1) (5,0,0,⟨#[]⟩,[(a.2:Int),(b.2:Int),(c.2:Int)]) (c.1.1,c.1.2)<;>rfl
theorem qMl(a:d>32)(p:Ps)(b:p.1<ts.length):xC N r1 r2 r3 r4 r5 (dS ts pr p) d=some (iF ts pr (dR ts pr 0 p)):=by
 simp only[xC,dS,rA b,j0,dR]
 rw[if_pos (show decide (d>32)=true by simpa using a)]
 rfl
theorem ZE(b:OkT ts)(e:ts.length<1000000)(n:pr.length<1000)(l:1000001<N)(r:∀j,(aN ts j).2.1.size<100000):∀(k D:Nat),k<=32->7*k+1<=D->∀p:Ps,p.1<ts.length->p.2.length<=256->
  (eF N D).2.2.2.2 (dS ts pr p) (33-(k:Int))=some (iF ts pr (dR ts pr k p))
 |0,0,_,h,_,_,_=>by omega
 |0,D+1,_,_,p,a,_=>by simp only[eF];exact qMl (by omega) p a
 |k+1,D,E,d,p,a,c=>by
  have f:=sQ (ts:=ts) (params:=pr) b k
  have o:=NH (params:=pr) b f
  have q:iS ts (HZ ts pr (dR ts pr k)):=xW b o
  have B:iS ts (tC ts pr (dR ts pr k)):=xW b q
  have g:∀D,7*k+1<=D->∀p:Ps,p.1<ts.length->p.2.length<=256->(eF N D).2.2.2.2 (dS ts pr p) (IntKind.wrap .i64 (32-(k:Int)+1))=some (iF ts pr (dR ts pr k p)):=by
   intro D d p a c
   rw[bS (by omega) (by omega),show 32-(k:Int)+1=33-(k:Int) by omega]
   exact ZE b e n l r k D (by omega) d p a c
  have y:∀D,7*k+2<=D->∀(t:bZ) (p:Ps),p.1<ts.length->p.2.length<=256->(eF N D).1 (dS ts pr p) t (32-(k:Int))=some (iF ts pr (qL ts (dR ts pr k) t p)):=by
   intro D d t p a c
   obtain⟨D',rfl⟩:∃D',D=D'+1:=⟨D-1,by omega⟩
   simp only[eF]
   exact qJb b e (by omega) r f (g D' (by omega)) t p a c
  have z:∀D,7*k+2<=D->∀p:Ps,p.1<ts.length->p.2.length<=256->(eF N D).2.1 (dS ts pr p) (32-(k:Int))=some (DA ts pr (tT ts (dR ts pr k) p)):=by
   intro D d p a c
   obtain⟨D',rfl⟩:∃D',D=D'+1:=⟨D-1,by omega⟩
   simp only[eF]
   exact qFj b e (by omega) f (g D' (by omega)) p a c
  have A:∀D,7*k+3<=D->∀p:Ps,p.1<ts.length->p.2.length<=256->(eF N D).2.2.1 (dS ts pr p) (32-(k:Int))=some (iF ts pr (rD ts pr (dR ts pr k) p)):=by
   intro D d p a c
   obtain⟨D',rfl⟩:∃D',D=D'+1:=⟨D-1,by omega⟩
   simp only[eF]
   exact qJr b e n (by omega) f (g D' (by omega)) (y D' (by omega)) (z D' (by omega)) p a c
  have x:∀D,7*k+4<=D->∀p:Ps,p.1<ts.length->p.2.length<=256->(eF N D).2.2.2.1 (dS ts pr p) 4 (32-(k:Int))=some (iF ts pr (rD ts pr (dR ts pr k) p)):=by
   intro D d p a c
   obtain⟨D',rfl⟩:∃D',D=D'+1:=⟨D-1,by omega⟩
   simp only[eF]
   exact qLb (A D' (by omega)) p a c
  have v:∀D,7*k+5<=D->∀p:Ps,p.1<ts.length->p.2.length<=256->(eF N D).2.2.2.1 (dS ts pr p) 3 (32-(k:Int))=some (iF ts pr (HZ ts pr (dR ts pr k) p)):=by
   intro D d p a c
   obtain⟨D',rfl⟩:∃D',D=D'+1:=⟨D-1,by omega⟩
   simp only[eF]
   exact OX b e l o (L:=3) (by omega) (x D' (by omega)) p a c
  have u:∀D,7*k+6<=D->∀p:Ps,p.1<ts.length->p.2.length<=256->(eF N D).2.2.2.1 (dS ts pr p) 2 (32-(k:Int))=some (iF ts pr (tC ts pr (dR ts pr k) p)):=by
   intro D d p a c
   obtain⟨D',rfl⟩:∃D',D=D'+1:=⟨D-1,by omega⟩
   simp only[eF]
   exact OX b e l q (L:=2) (by omega) (v D' (by omega)) p a c
  have s:∀D,7*k+7<=D->∀p:Ps,p.1<ts.length->p.2.length<=256->(eF N D).2.2.2.1 (dS ts pr p) 1 (32-(k:Int))=some (iF ts pr (HD ts pr (dR ts pr k) p)):=by
   intro D d p a c
   obtain⟨D',rfl⟩:∃D',D=D'+1:=⟨D-1,by omega⟩
   simp only[eF]
   exact OX b e l B (L:=1) (by omega) (u D' (by omega)) p a c
  obtain⟨D',rfl⟩:∃D',D=D'+1:=⟨D-1,by omega⟩
  rw[show(33:Int)-((k+1:Nat):Int)=32-(k:Int) by omega]
  simp only[eF]
  exact qNi b e (by omega) (by omega) f (g D' (by omega)) (s D' (by omega)) p a c
theorem qMf(a:OkT ts)(e:ts.length<1000000)(b:pr.length<1000)(c:1000001<N)(g:∀j,(aN ts j).2.1.size<100000)(p:Ps)(f:p.1<ts.length)(d:p.2.length<=256):
  MR N (ts,(p.1:Int),pr,p.2) 1=some (iF ts pr (dR ts pr 32 p)):=by
 have:=ZE a e b c g 32 N (by omega) (by omega) p f d
 exact this
end
section
variable {N:Nat} {ts:List bZ} {pr:List BA} {b:List Ex}
theorem NJ(h:OkT ts):∀(n:Nat) (l:List BA) (i:Nat) (a:Nat×List BA),i<ts.length->l.length<=8->sS ts n l i= .inr a->i<a.1/\a.1<ts.length/\a.2.length<=8
 |0,_,_,_,_,_,d=>by cases d
 |n+1,l,i,a,hi,q,d=>by
  obtain⟨x,k,b⟩:=cT (show bF (lG ts i) _=_ from d)
  obtain⟨rfl,e,-⟩:=pV h hi k
  split at b
  .cases b
  rename_i k1
  split at b
  .cases b
  split at b
  .rename_i k3
   have c:=iZ h e (by decide) k3
   obtain⟨r,o,p⟩:=NJ h n _ _ a c (by simp only[jF,jA,jB];omega) b
   exact⟨by omega,o,p⟩
  obtain⟨j,g,f⟩:=cT b
  obtain⟨rfl,c,-⟩:=iT h e g
  obtain rfl:=Sum.inr.inj f
  exact⟨by simp only;omega,c,by simp only[jF,jA,jB];omega⟩
theorem MT(h:OkT ts){i:Nat}{a:Nat×List BA}(hi:i<ts.length)(c:qY ts i= .inr a):i<a.1/\a.1<ts.length/\a.2.length<=8:=by
 obtain⟨j,d,b⟩:=cT c
 obtain⟨rfl,g,-⟩:=iT h hi d
 split at b
 .rename_i k
  obtain rfl:=Sum.inr.inj b
  exact⟨by simp only;omega,iZ h g (by decide) k,by simp⟩
 obtain⟨l,e,f⟩:=NJ h _ _ _ a g (by simp) b
 exact⟨by omega,e,f⟩
theorem TQ(d:OkT ts)(k:ts.length<1000000)(r:1000000<N):∀(n M:Nat) (l:List BA) (i:Nat),i<ts.length->l.length<=8->ts.length<i+n->ts.length<i+M->
  ((aK (DS N) M (l,ts,(i:Int),pr,b)).bind fun p=>(match p with| .inl e=>(nE N (e.2.1,e.2.2.1,e.2.2.2.1,e.2.2.2.2) (⟨#[41]⟩:BA)).bind fun q=>(match q with| .inl t=>some (.inl t)| .inr c=>some (.inr ((c.1,c.2.1,c.2.2.1,c.2.2.2),e.1)))| .inr (z)=>some z))=some (Sum.map id (fun a:Nat×List BA=>((ts,(a.1:Int),pr,b),a.2)) (sS ts n l i))
 |0,M,l,i,hi,_,h,_=>by omega
 |n+1,0,l,i,hi,_,_,h=>by omega
 |n+1,M+1,l,i,hi,u,y,v=>by
  simp only[aK,DS,sS,LS hi k,j0]
  cases hx:lG ts i with
  |inl z=>rfl
  |inr x=>
   obtain⟨rfl,o,-⟩:=pV d hi hx
   simp only[kD,bF,iL,j0]
   by_cases k1:l.length=8
   .rw[if_pos (show((l.length:Int)==8)=true by simp;omega),if_pos k1];rfl
   rw[if_neg (show ¬((l.length:Int)==8)=true by simp;omega),if_neg k1]
   simp only[j0,TY (N:=N) (l:=l) (s:=(aN ts i).2.1) (by omega) (by omega)]
   by_cases k2:(aN ts i).2.1∈l
   .rw[if_pos (jL k2),if_pos k2];rfl
   rw[if_neg (show ¬decide ((aN ts i).2.1∈l)=true by simpa using k2),if_neg k2]
   simp only[j0]
   rw[iB (by simp only[jA,jB];omega) (by omega)]
   simp only[j0,BX o k,oT]
   rcases dJ (bX ts 4 ⟨#[44]⟩ (i+1)) with f|f
   .have g:=iZ d o (by decide) f
    simp only[f,jE,jP,j9,jC,j0]
    exact TQ d k r n M _ (i+1+1) g (by simp only[jF,jA,jB];omega) (by omega) (by omega)
   simp only[f,j9,jC,kC,jE,j0,rC o k,iP]
   cases dG ts ⟨#[41]⟩ (i+1)<;>rfl
theorem qEk(c:OkT ts)(e:ts.length<1000000)(f:1000000<N){i:Nat}(hi:i<ts.length):
  zR N (ts,(i:Int),pr,b)=some (Sum.map id (fun a:Nat×List BA=>((ts,(a.1:Int),pr,b),a.2)) (qY ts i)):=by
 simp only[zR,rC hi e,j0,qY,mY]
 cases h:dG ts ⟨#[40]⟩ i with
 |inl z=>rfl
 |inr j=>
  obtain⟨rfl,g,-⟩:=iT c hi h
  simp only[kD,bF,BX g e,j0,iP]
  rcases dJ (bX ts 4 ⟨#[41]⟩ (i+1)) with d|d
  .simp only[d,jE];rfl
  simp only[d,j9,jC]
  exact TQ c e f (ts.length+1) N [] (i+1) g (by simp) (by omega) (by omega)
def MD:List (BA×Int):=[(⟨#[102,117,110,99]⟩,1),(⟨#[103,101,110]⟩,3),(⟨#[116,101,115,116]⟩,2)]
theorem qKv:((iI (some []:Option (List (BA×Int))) (⟨#[102,117,110,99]⟩:BA) 1).bind fun a=>(iI a (⟨#[116,101,115,116]⟩:BA) 2).bind fun b=>iI b (⟨#[103,101,110]⟩:BA) 3)=some (some MD):=by kernel_rfl
theorem XW(s:BA):((aQ (some MD) s).getD 0)=lD s:=by
 simp only[aQ,MD,j0,cS,lD,IA,HX,IC]
 by_cases h1:s=⟨#[102,117,110,99]⟩
 .simp[h1]
 by_cases h2:s=⟨#[116,101,115,116]⟩
 .subst h2;rfl
 by_cases h3:s=⟨#[103,101,110]⟩
 .subst h3;rfl
 simp[h1,h2,h3]
theorem VG{before:List Dl}{y1:iX×bZ}{o4:List bZ×Int×List BA×List Ex×Int×BA×Int×Int}(c:before.length<=64):∀(d i M:Nat),i+d=before.length->d<M->
  ((aK (AH N before (some MD) y1 o4) M (i:Int)).bind fun a=>(match a with| .inl f=>some (-1)| .inr (z)=>some z):Option Int)=some (match(before.drop i).findIdx? (fun d=>d.1==lD y1.2.2.1&&decide (d.2.1=o4.2.2.2.2.2.1)) with|some j=>((i+j:Nat):Int)|none=> -1)
 |d,i,0,_,h=>by omega
 |0,i,M+1,h,_=>by
  have:before.drop i=[]:=jT (by omega)
  simp only[aK,AH,this,List.findIdx?_nil]
  rw[if_neg (by simp only[j6];omega)]
  rfl
 |d+1,i,M+1,h,e=>by
  have hi:i<before.length:=by omega
  have b:=VG (y1:=y1) (o4:=o4) c d (i+1) M (by omega) (by omega)
  simp only[aK,AH]
  rw[if_pos (by simp only[j6];omega),dP hi,jJ hi,List.findIdx?_cons]
  simp only[j0,lB,XW]
  by_cases k1:(before[i].1==lD y1.2.2.1)=true
  .by_cases k2:before[i].2.1=o4.2.2.2.2.2.1
   .simp[k1,k2]
   simp only[k1,k2,jE,decide_false,j0,j9,jC,mI (show i<1000000 by omega),Bool.and_false]
   rw[b]
   cases(before.drop (i+1)).findIdx? (fun d=>d.1==lD y1.2.2.1&&decide (d.2.1=o4.2.2.2.2.2.1)) with
   |none=>rfl
   |some j=>simp only[kG];rw[show i+1+j=i+(j+1) by omega]
  simp only[k1,j9,jC,j0,mI (show i<1000000 by omega),dB]
  rw[b]
  cases(before.drop (i+1)).findIdx? (fun d=>d.1==lD y1.2.2.1&&decide (d.2.1=o4.2.2.2.2.2.1)) with
  |none=>rfl
  |some j=>simp only[kG];rw[show i+1+j=i+(j+1) by omega]
theorem CB(h:OkT ts){before:List Dl}{i:Nat}{a:Nat×Dl}(hi:i<ts.length)(b:mZ ts before i= .inr a):i<a.1/\a.1<ts.length/\before.length≠64:=by
 unfold mZ at b
 dsimp only at b
 split at b
 .cases b
 rename_i k1
 split at b
 .cases b
 rename_i k2
 have g:=h.next hi (show(aN ts i).1≠5 by intro e;apply k1;left;rw[e];decide)
 obtain⟨x,k,f⟩:=cT b
 have gx:x.1=i+1+1/\x.1<ts.length:=by
  split at k
  .obtain⟨rfl,d,-⟩:=qZ h g k;exact⟨rfl,d⟩
  obtain⟨rfl,d,-⟩:=pV h g k;exact⟨rfl,d⟩
 split at f
 .cases f
 obtain⟨y,l,q⟩:=cT f
 have gy:x.1<=y.1/\y.1<ts.length:=by
  split at l
  .obtain⟨d,n,-⟩:=MT h gx.2 l;exact⟨by omega,n⟩
  obtain rfl:=Sum.inr.inj l;exact⟨jN _,gx.2⟩
 obtain⟨j,v,r⟩:=cT q
 obtain⟨rfl,o,-⟩:=iT h gy.2 v
 obtain⟨c,u,s⟩:=cT r
 obtain⟨⟨d,n,A,B⟩,-⟩:=sQ h 32 (y.1+1,[]) c.1 c.2 o (by simp) u
 obtain⟨m,z,t⟩:=cT s
 obtain⟨rfl,p,-⟩:=iT h n z
 obtain rfl:=Sum.inr.inj t
 exact⟨by simp only at d ⊢;omega,p,k2⟩
theorem qMg{before:List Dl}{f:Dl->Bool}:(decide ((match before.findIdx? f with|some j=>((0+j:Nat):Int)|none=> -1)>=0))=before.any f:=by
 have:=List.findIdx?_isSome (xs:=before) (p:=f)
 rw[<-this]
 cases before.findIdx? f with
 |none=>rfl
 |some j=>simp only[hD];exact jL (by omega)
end
section
variable {N:Nat} {ts:List bZ} {pr:List BA} {b:List Ex}
theorem qLs(e:OkT ts)(n:ts.length<1000000)(E:1000001<N)(A:∀j,(aN ts j).2.1.size<100000){before:List Dl}(F:before.length<=64){i:Nat}(hi:i<ts.length):
  FN N (ts,(i:Int),pr,b) before=some (Sum.map id (fun a:Nat×Dl=>((ts,(a.1:Int),a.2.2.2.1,a.2.2.2.2),a.2)) (mZ ts before i)):=by
 have K:=mI (show i<1000000 by omega)
 unfold FN
 obtain⟨Z,t,G⟩:=jH.1 qKv
 obtain⟨a1,u,v⟩:=jH.1 G
 rw[t];simp only[j0]
 rw[u];simp only[j0]
 rw[v];simp only[j0,rA hi,XW,iL,mZ]
 by_cases o:(aN ts i).1≠1\/lD (aN ts i).2.1=0
 .rw[if_pos o]
  have:((if((aN ts i).1 !=1)=true then some true else some (lD (aN ts i).2.1==0)):Option Bool)=some true:=by
   rcases o with h|h
   .simp[h]
   simp[h]
  rw[this];rfl
 rw[if_neg o]
 have k1a:(aN ts i).1=1:=by
  apply Decidable.byContradiction
  intro h;exact o (.inl h)
 have k1b:¬lD (aN ts i).2.1=0:=fun h=>o (.inr h)
 have:((if((aN ts i).1 !=1)=true then some true else some (lD (aN ts i).2.1==0)):Option Bool)=some false:=by simp[k1a,k1b]
 rw[this]
 simp only[j0,j9,jC]
 by_cases k2:before.length=64
 .rw[if_pos (show((before.length:Int)==64)=true by simp;omega),if_pos k2];rfl
 rw[if_neg (show ¬((before.length:Int)==64)=true by simp;omega),if_neg k2]
 have g:=e.next hi (show(aN ts i).1≠5 by rw[k1a];decide)
 simp only[j0,K]
 have M:(if(lD (aN ts i).2.1==3)=true then((tO N (ts,((i+1:Nat):Int),pr,b)).bind fun R=>(match R with| .inl U=>some (.inr (.inl U))| .inr k=>some (.inl (k.1.1,k.1.2.1,k.1.2.2.1,k.1.2.2.2,k.2.1,k.2.2.1,k.2.2.2.1,k.2.2.2.2)))) else((tP N (ts,((i+1:Nat):Int),pr,b)).bind fun S=>(match S with| .inl V=>some (.inr (.inl V))| .inr l=>some (.inl (l.1.1,l.1.2.1,l.1.2.2.1,l.1.2.2.2,l.2.1,l.2.2.1,l.2.2.2.1,l.2.2.2.2)))):Option ((List bZ×Int×List BA×List Ex×Int×BA×Int×Int)⊕(cF⊕(iX×Dl))))=
   some (match(if lD (aN ts i).2.1=3 then lZ ts (i+1) else lG ts (i+1)) with| .inl z=> .inr (.inl z)| .inr a=> .inl (ts,(a.1:Int),pr,b,a.2.1,a.2.2.1,a.2.2.2.1,a.2.2.2.2)):=by
  by_cases k3:lD (aN ts i).2.1=3
  .rw[if_pos (show(lD (aN ts i).2.1==3)=true by simpa using k3),if_pos k3,LV g n (by omega) A]
   cases lZ ts (i+1)<;>rfl
  rw[if_neg (show ¬(lD (aN ts i).2.1==3)=true by simpa using k3),if_neg k3,LS g n]
  cases lG ts (i+1)<;>rfl
 refine Eq.trans (congrArg (fun z=>Option.bind z _) M) ?_
 simp only[j0]
 cases hX:(if lD (aN ts i).2.1=3 then lZ ts (i+1) else lG ts (i+1)) with
 |inl z=>rfl
 |inr x=>
  have gx:x.1=i+1+1/\x.1<ts.length:=by
   split at hX
   .obtain⟨rfl,p,-⟩:=qZ e g hX;exact⟨rfl,p⟩
   obtain⟨rfl,p,-⟩:=pV e g hX;exact⟨rfl,p⟩
  simp only[bF]
  have s:=VG (N:=N) (before:=before) (y1:=((ts,(i:Int),pr,b),aN ts i)) (o4:=(ts,(x.1:Int),pr,b,x.2.1,x.2.2.1,x.2.2.2.1,x.2.2.2.2)) F before.length 0 N (by omega) (by omega)
  simp only[kA] at s
  refine Eq.trans (congrArg (fun z=>Option.bind z _) s) ?_
  simp only[j0,qMg]
  rcases dJ (before.any fun d=>d.1==lD (aN ts i).2.1&&decide (d.2.1=x.2.2.1)) with r|r
  .simp only[r,jE];rfl
  simp only[r,j9,jC,j0]
  have H:(if(lD (aN ts i).2.1==1)=true then((zR N (ts,(x.1:Int),pr,b)).bind fun B=>(match B with| .inl Y=>some (.inr (.inl Y))| .inr f=>some (.inl (f.2,f.1.1,f.1.2.1,f.1.2.2.1,f.1.2.2.2)))) else(some (.inl (([]:List (BA)),ts,(x.1:Int),pr,b))):Option ((List BA×iX)⊕(cF⊕(iX×Dl))))=
    some (match(if lD (aN ts i).2.1=1 then qY ts x.1 else .inr (x.1,[])) with| .inl z=> .inr (.inl z)| .inr a=> .inl (a.2,ts,(a.1:Int),pr,b)):=by
   by_cases k5:lD (aN ts i).2.1=1
   .rw[if_pos (show(lD (aN ts i).2.1==1)=true by simpa using k5),if_pos k5,qEk e n (by omega) gx.2]
    cases qY ts x.1<;>rfl
   rw[if_neg (show ¬(lD (aN ts i).2.1==1)=true by simpa using k5),if_neg k5]
  refine Eq.trans (congrArg (fun z=>Option.bind z _) H) ?_
  simp only[j0]
  cases hY:(if lD (aN ts i).2.1=1 then qY ts x.1 else .inr (x.1,[]):cF⊕(Nat×List BA)) with
  |inl z=>rfl
  |inr y=>
   have gy:x.1<=y.1/\y.1<ts.length/\y.2.length<=8:=by
    split at hY
    .obtain⟨p,D,q⟩:=MT e gx.2 hY;exact⟨by omega,D,q⟩
    obtain rfl:=Sum.inr.inj hY;exact⟨jN _,gx.2,by simp⟩
   simp only[rC gy.2.1 n,j0,wM]
   cases hj:dG ts ⟨#[61]⟩ y.1 with
   |inl z=>rfl
   |inr j=>
    obtain⟨rfl,q,-⟩:=iT e gy.2.1 hj
    have p:=qMf (N:=N) (pr:=y.2) e n (by omega) E A (y.1+1,[]) q (by simp)
    simp only at p
    simp only[kD,p,j0]
    cases hc:dR ts y.2 32 (y.1+1,[]) with
    |inl z=>rfl
    |inr c=>
     obtain⟨⟨f1,D,f3,f4⟩,-⟩:=sQ e 32 (y.1+1,[]) c.1 c.2 q (by simp) hc
     simp only[iF,kD,dS,rC D n,j0,qC]
     cases dG ts ⟨#[59]⟩ c.1.1<;>rfl
theorem SZ(c:OkT ts)(k:ts.length<1000000)(q:1000000<N){e:iX×bZ}:∀(n M:Nat) (l:List BA) (i:Nat),i<ts.length->l.length<=8->ts.length<i+n->ts.length<i+M->
  aK (EU N e) M (ts,(i:Int),pr,b,l)=some (match pW ts e.2.2.1 n l i with| .inl z=> .inr (.inl z)| .inr a=> .inl (ts,(a.1:Int),pr,b,a.2))
 |0,M,l,i,hi,_,h,_=>by omega
 |n+1,0,l,i,hi,_,_,h=>by omega
 |n+1,M+1,l,i,hi,t,v,u=>by
  have r:=mI (show i<1000000 by omega)
  simp only[aK,EU,pW,CZ hi,j0,yH]
  rcases dJ (bX ts 1 ⟨#[105,109,112,111,114,116]⟩ i) with f|f
  rotate_left
  .simp only[f,j9,jC,j0]
  have g:=iZ c hi (by decide) f
  simp only[f,jE]
  by_cases k2:l.length=8
  .rw[if_pos (show((l.length:Int)==8)=true by simp;omega),if_pos k2]
   simp only[rA hi,j0,iL];rfl
  rw[if_neg (show ¬((l.length:Int)==8)=true by simp;omega),if_neg k2]
  simp only[j0,r,LS g k]
  cases hx:lG ts (i+1) with
  |inl z=>rfl
  |inr x=>
   obtain⟨rfl,o,-⟩:=pV c g hx
   simp only[kD,bF,iL,j0,lB,TY (N:=N) (l:=l) (s:=(aN ts (i+1)).2.1) (by omega) (by omega)]
   by_cases d:(aN ts (i+1)).2.1=e.2.2.1\/(aN ts (i+1)).2.1∈l
   .rw[if_pos d]
    have:((if decide ((aN ts (i+1)).2.1=e.2.2.1)=true then some true else some (decide ((aN ts (i+1)).2.1∈l))):Option Bool)=some true:=by
     rcases d with h|h
     .rw[if_pos (jL h)]
     rw[jL h];split<;>rfl
    rw[this];rfl
   rw[if_neg d]
   have:((if decide ((aN ts (i+1)).2.1=e.2.2.1)=true then some true else some (decide ((aN ts (i+1)).2.1∈l))):Option Bool)=some false:=by
    rw[if_neg (by simp only[j6];exact fun h=>d (.inl h)),jS (fun h=>d (.inr h))]
   rw[this]
   simp only[j0,j9,jC]
   rw[iB (by simp only[jA,jB];omega) (by omega)]
   simp only[j0,rC o k,qC]
   cases hj:dG ts ⟨#[59]⟩ (i+1+1) with
   |inl z=>rfl
   |inr j=>
    obtain⟨rfl,p,-⟩:=iT c o hj
    exact SZ c k q n M _ (i+1+1+1) p (by simp only[jF,jA,jB];omega) (by omega) (by omega)
theorem GI(h:OkT ts){pkg:BA}:∀(n:Nat) (l:List BA) (i:Nat) (a:Nat×List BA),i<ts.length->l.length<=8->pW ts pkg n l i= .inr a->i<=a.1/\a.1<ts.length/\a.2.length<=8
 |0,_,_,_,_,_,b=>by cases b
 |n+1,l,i,a,hi,p,b=>by
  unfold pW at b
  split at b
  .rename_i k
   have g:=iZ h hi (by decide) k
   split at b
   .cases b
   rename_i k2
   obtain⟨x,q,c⟩:=cT b
   obtain⟨rfl,d,-⟩:=pV h g q
   split at c
   .cases c
   obtain⟨j,o,f⟩:=cT c
   obtain⟨rfl,e,-⟩:=iT h d o
   obtain⟨t,r,s⟩:=GI h n _ _ a e (by simp only[jF,jA,jB];omega) f
   exact⟨by omega,r,s⟩
  obtain rfl:=Sum.inr.inj b
  exact⟨jN _,hi,p⟩
theorem VJ(c:OkT ts)(f:ts.length<1000000)(e:1000001<N)(k:∀j,(aN ts j).2.1.size<100000):∀(n M:Nat) (l:List Dl) (i:Nat) (pr:List BA) (b:List Ex),i<ts.length->l.length<=64->ts.length<i+n->ts.length<i+M->
  match pZ ts n l i with
  | .inl z=>aK (uZ N) M (ts,(i:Int),pr,b,l)=some (.inr (.inl z))
  | .inr a=>∃i' pr' b',aK (uZ N) M (ts,(i:Int),pr,b,l)=some (.inl (ts,i',pr',b',a))
 |0,M,l,i,_,_,hi,_,h,_=>by omega
 |n+1,0,l,i,_,_,hi,_,_,h=>by omega
 |n+1,M+1,l,i,pr,b,hi,g,s,r=>by
  have o:aK (uZ N) (M+1) (ts,(i:Int),pr,b,l)=(if(aN ts i).1=5 then some (.inl (ts,(i:Int),pr,b,l)) else
    match mZ ts l i with
    | .inl z=>some (.inr (.inl z))
    | .inr a=>aK (uZ N) M (ts,(a.1:Int),a.2.2.2.1,a.2.2.2.2,l++[a.2])):=by
   simp only[aK,uZ,rA hi,j0,qLs c f e k g hi]
   by_cases k1:(aN ts i).1=5
   .rw[if_neg (show ¬((aN ts i).1 !=5)=true by simpa using k1),if_pos k1];rfl
   rw[if_pos (show((aN ts i).1 !=5)=true by simpa using k1),if_neg k1]
   cases hd:mZ ts l i with
   |inl z=>rfl
   |inr a=>
    obtain⟨p,d,q⟩:=CB c hi hd
    simp only[kD]
    rw[iB (by simp only[jA,jB];omega) (by omega)]
    rfl
  rw[o]
  simp only[pZ]
  by_cases k1:(aN ts i).1=5
  .simp only[if_pos k1];exact⟨_,_,_,rfl⟩
  simp only[if_neg k1]
  cases hd:mZ ts l i with
  |inl z=>rfl
  |inr a=>
   obtain⟨p,d,q⟩:=CB c hi hd
   exact VJ c f e k n M (l++[a.2]) a.1 _ _ d (by simp only[jF,jA,jB];omega) (by omega) (by omega)
theorem qLx(a:OkT ts)(d:ts.length<1000000)(n:1000001<N)(o:∀j,(aN ts j).2.1.size<100000):
  match rX ts with
  | .inl z=>BC N (ts,0,pr,b)=some (.inl z)
  | .inr f=>∃i' pr' b',BC N (ts,0,pr,b)=some (.inr ((ts,i',pr',b'),f)):=by
 have k:0<ts.length:=fJ.2 a.1
 simp only[BC,rX]
 rw[show(0:Int)=((0:Nat):Int) from rfl]
 simp only[PR k d,j0,HA]
 cases h1:qQ ts ⟨#[112,97,99,107,97,103,101]⟩ 0 with
 |inl z=>rfl
 |inr i=>
  obtain⟨rfl,e,-⟩:=yE a k h1
  simp only[kD,bF,LS e d,j0]
  cases h2:lG ts (0+1) with
  |inl z=>rfl
  |inr x=>
   obtain⟨rfl,g,-⟩:=pV a e h2
   simp only[kD,rC g d,j0,qC]
   cases h3:dG ts ⟨#[59]⟩ (0+1+1) with
   |inl z=>rfl
   |inr j=>
    obtain⟨rfl,h,-⟩:=iT a g h3
    simp only[kD,SZ a d (by omega:1000000<N) (ts.length+1) N [] (0+1+1+1) h (by simp) (by omega) (by omega),j0]
    cases h4:pW ts (aN ts (0+1)).2.1 (ts.length+1) [] (0+1+1+1) with
    |inl z=>rfl
    |inr y=>
     obtain⟨q,p,r⟩:=GI a _ _ _ y h (by simp) h4
     have c:=VJ (N:=N) a d n o (ts.length+1) N [] y.1 pr b p (by simp) (by omega) (by omega)
     simp only[]
     cases h5:pZ ts (ts.length+1) [] y.1 with
     |inl z=>
      rw[h5] at c
      simp only[c,j0]
     |inr l=>
      rw[h5] at c
      obtain⟨i',pr',b',c⟩:=c
      refine⟨i',pr',b',?_⟩
      simp only[c,j0]
end
theorem XZ{s:BA}:∀(l:List bZ) (e:Int),0<=e->QR s e l->∀i,i<l.length->((aN l i).1=5↔i+1=l.length)/\((aN l i).2.1.size:Int)<=s.size/\0<=(aN l i).2.2.2
 |[],_,_,_,i,hi=>by simp at hi
 |t::r,e,k,h,i,hi=>by
  obtain⟨d,f,b,g,c⟩:=h
  have a:0<=wI t:=by unfold wI;split<;>omega
  cases i with
  |zero=>
   refine⟨?_,?_,?_⟩
   .show t.1=5↔0+1=r.length+1
    rw[b,<-hO];omega
   .show((t.2.1.size:Nat):Int)<=s.size
    omega
   show 0<=t.2.2.2
   omega
  |succ i=>
   have:=XZ r _ a c i (by simpa using hi)
   have e:aN (t::r) (i+1)=aN r i:=by simp[aN]
   rw[e,jA]
   exact⟨⟨fun h=>by have:=this.1.1 h;omega,fun h=>this.1.2 (by omega)⟩,this.2⟩
theorem KQ{s:BA}(h:(iQ s).2.2=0):OkT (iQ s).1/\(iQ s).1.length<=16385/\∀j,(aN (iQ s).1 j).2.1.size<100000:=by
 unfold iQ at h ⊢
 split at h
 .simp at h
 rename_i hs
 rw[if_neg hs]
 cases hG:mL (s.data.toList.length+1) s 0 with
 |inl x=>
  obtain⟨_,_,a⟩:=PJ _ 0 x (by omega) (by omega) hG
  rw[hG] at h
  exact absurd h a
 |inr r=>
  obtain⟨c,d,g⟩:=NS _ 0 0 r (by omega) (by omega) (by omega) hG
  simp only[uI,kK]
  have b:=XZ r 0 (by omega) c
  refine⟨⟨d,fun i hi=>(b i hi).1⟩,by omega,fun j=> ?_⟩
  rcases fG j r.length with a|a
  .have:=(b j a).2.1
   have f:=eR s
   omega
  have e:aN r j=(5,⟨#[]⟩,0,0):=by simp[aN,kP,List.getElem?_eq_none a]
  rw[e];decide
theorem YC{N:Nat}(s:BA)(e:1000001<N):BR N s=some (eY s):=by
 simp only[BR,qIc (N:=N) (by omega),j0,eY]
 by_cases h:(iQ s).2.2=0
 .rw[if_neg (show ¬((iQ s).2.2 !=0)=true by simpa using h),if_neg (show ¬(iQ s).2.2≠0 by simpa using h)]
  obtain⟨c,g,d⟩:=KQ h
  have a:=qLx (N:=N) (pr:=[]) (b:=[]) c (by omega) e d
  cases hF:rX (iQ s).1 with
  |inl z=>
   rw[hF] at a
   simp only[a,j0];rfl
  |inr f=>
   rw[hF] at a
   obtain⟨i',pr',b',a⟩:=a
   simp only[a,j0]
 rw[if_pos (show((iQ s).2.2 !=0)=true by simpa using h),if_pos h];rfl
abbrev RT:=List bZ×Int×Int×Int×List BA×List Ex×List Int
def gR(ts:List bZ)(pr:List BA)(p:Ps):RT:=(ts,(p.1:Int),0,0,pr,p.2,[])
def bR(ts:List bZ)(z:cF)(i:Nat)(pr:List BA)(b:List Ex):RT:=(ts,(i:Int),z.1,z.2,pr,b,[])
section
variable {N:Nat} {ts:List bZ} {pr:List BA} {b:List Ex} {i:Nat} {z:cF}
theorem qAz{st:Int×Int×List BA×List Ex×List Int}(hi:i<ts.length):eO N (ts,(i:Int),st.1,st.2.1,st.2.2.1,st.2.2.2.1,st.2.2.2.2)=some ((ts,(i:Int),st.1,st.2.1,st.2.2.1,st.2.2.2.1,st.2.2.2.2),aN ts i):=by
 simp only[eO,ZU hi,j0]
theorem lA(p:Ps)(hi:p.1<ts.length):eO N (gR ts pr p)=some (gR ts pr p,aN ts p.1):=qAz (st:=(0,0,pr,p.2,[])) hi
theorem qA(hi:i<ts.length):eO N (bR ts z i pr b)=some (bR ts z i pr b,aN ts i):=qAz (st:=(z.1,z.2,pr,b,[])) hi
theorem pI(p:Ps)(hi:p.1<ts.length)(b:ts.length<1000000)(s:BA):nC N (gR ts pr p) s=some (if bX ts 1 s p.1 then(gR ts pr (p.1+1,p.2),true) else(gR ts pr p,false)):=by
 have a:eO N (ts,(p.1:Int),0,0,pr,p.2,[])=some ((ts,(p.1:Int),0,0,pr,p.2,[]),aN ts p.1):=lA p hi
 simp only[nC,gR,a,j0,lB,bX,kN,jE]
 by_cases h1:(aN ts p.1).1=1<;>by_cases h2:(aN ts p.1).2.1=s<;>simp[h1,h2,mI (show p.1<1000000 by omega)]
theorem PX(a:z.2≠0)(s:BA):nC N (bR ts z i pr b) s=some (bR ts z i pr b,false):=by
 simp[nC,bR,a]
theorem nT(p:Ps)(hi:p.1<ts.length)(b:ts.length<1000000)(s:BA):nD N (gR ts pr p) s=some (if bX ts 4 s p.1 then(gR ts pr (p.1+1,p.2),true) else(gR ts pr p,false)):=by
 have a:eO N (ts,(p.1:Int),0,0,pr,p.2,[])=some ((ts,(p.1:Int),0,0,pr,p.2,[]),aN ts p.1):=lA p hi
 simp only[nD,gR,a,j0,lB,bX,kN,jE]
 by_cases h1:(aN ts p.1).1=4<;>by_cases h2:(aN ts p.1).2.1=s<;>simp[h1,h2,mI (show p.1<1000000 by omega)]
theorem LO(a:z.2≠0)(s:BA):nD N (bR ts z i pr b) s=some (bR ts z i pr b,false):=by
 simp[nD,bR,a]
theorem nK(p:Ps)(a e:Int):eU N (gR ts pr p) a e=some (bR ts (a,e) p.1 pr p.2):=by
 simp[eU,gR,bR]
theorem qM(c:z.2≠0)(a e:Int):eU N (bR ts z i pr b) a e=some (bR ts z i pr b):=by
 simp[eU,bR,c]
theorem qO(p:Ps)(hi:p.1<ts.length)(d:ts.length<1000000)(s:BA):eN N (gR ts pr p) s=some (match dG ts s p.1 with| .inl z=>bR ts z p.1 pr p.2| .inr j=>gR ts pr (j,p.2)):=by
 have a:=nT (N:=N) (pr:=pr) p hi d s
 have b:=lA (N:=N) (pr:=pr) p hi
 have c:=nK (N:=N) (ts:=ts) (pr:=pr) p (aN ts p.1).2.2.2 9
 simp only[gR] at a b c
 simp only[eN,gR,a,j0,dG]
 rcases dJ (bX ts 4 s p.1) with h|h
 .simp only[h,jE,jP,j9,jC]
 simp only[h,jE,kC,j9,jC,b,j0,c,dN]
theorem pX(e:z.2≠0)(hi:i<ts.length)(s:BA):eN N (bR ts z i pr b) s=some (bR ts z i pr b):=by
 have a:=LO (N:=N) (ts:=ts) (i:=i) (pr:=pr) (b:=b) e s
 have c:=qA (N:=N) (ts:=ts) (i:=i) (pr:=pr) (b:=b) (z:=z) hi
 have d:=qM (N:=N) (ts:=ts) (i:=i) (pr:=pr) (b:=b) e (aN ts i).2.2.2 9
 simp only[bR] at a c d
 simp only[eN,bR,a,j0,kC,jE,c,d]
theorem WN{s:BA}:∀(d k M:Nat),k+d=wordsR.length->d<M->aK (wR N s) M (k:Int)=some (if s∈wordsR.drop k then .inr true else .inl ())
 |d,k,0,_,h=>by omega
 |0,k,M+1,h,_=>by
  have:wordsR.drop k=[]:=jT (by omega)
  simp only[aK,wR,this]
  rw[if_neg (by simp only[j6];have:wordsR.length=13:=rfl;simp only[jA,jB];omega)]
  rfl
 |d+1,k,M+1,h,g=>by
  have a:k<wordsR.length:=by omega
  have c:=WN (s:=s) d (k+1) M (by omega) (by omega)
  simp only[aK]
  have e:wR N s (k:Int)=some (if s=wordsR[k] then .inr (.inr true) else .inl (((k+1:Nat):Int))):=by
   have f:wordsR.length=13:=rfl
   have b:bV ([(⟨#[112,97,99,107,97,103,101]⟩:BA),(⟨#[105,109,112,111,114,116]⟩:BA),(⟨#[102,117,110,99]⟩:BA),(⟨#[116,101,115,116]⟩:BA),(⟨#[103,101,110]⟩:BA),(⟨#[105,102]⟩:BA),(⟨#[116,104,101,110]⟩:BA),(⟨#[101,108,115,101]⟩:BA),(⟨#[114,101,97,100]⟩:BA),(⟨#[115,105,122,101]⟩:BA),(⟨#[104,97,115]⟩:BA),(⟨#[101,110,118]⟩:BA),(⟨#[102,108,105,112]⟩:BA)]) (k:Int)=some wordsR[k]:=dP (l:=wordsR) a
   simp only[wR]
   rw[if_pos (by simp only[j6,jA,jB];omega),b]
   simp only[j0,lB,j6,mI (show k<1000000 by omega)]
   split<;>rfl
  rw[e,jJ a]
  simp only[j0,jI]
  by_cases hs:s=wordsR[k]
  .rw[if_pos hs,if_pos (.inl hs)]
  rw[if_neg hs]
  simp only[c]
  by_cases h2:s∈wordsR.drop (k+1)
  .rw[if_pos h2,if_pos (.inr h2)]
  rw[if_neg h2,if_neg (fun h=>h.elim hs h2)]
theorem rres(a:100<N)(s:BA):EP N s=some (rY s):=by
 have h:=WN (N:=N) (s:=s) 13 0 N rfl (by omega)
 simp only[kA] at h
 simp only[EP]
 rw[show(0:Int)=((0:Nat):Int) from rfl,h]
 simp only[rY,j0]
 by_cases h2:s∈wordsR
 .rw[if_pos h2,jL h2]
 rw[if_neg h2,jS h2]
theorem CM(p:Ps)(hi:p.1<ts.length)(f:ts.length<1000000)(e:100<N):mD N (gR ts pr p)=some (match lG ts p.1 with| .inl z=>(bR ts z p.1 pr p.2,⟨#[]⟩)| .inr a=>(gR ts pr (a.1,p.2),a.2.2.1)):=by
 have d:=lA (N:=N) (pr:=pr) p hi
 have b:=nK (N:=N) (ts:=ts) (pr:=pr) p (aN ts p.1).2.2.2 9
 simp only[gR] at d b
 simp only[mD,gR,d,j0,rres e,lG,lE,gH,j9,jC]
 by_cases k1:(aN ts p.1).1=1
 .have k1':((aN ts p.1).1 !=1)=false:=by simp[k1]
  simp only[k1',j9,jC,j0,if_pos k1,bF]
  rcases dJ (rY (aN ts p.1).2.1) with c|c
  .simp only[c,jE,b,j0,dN]
  simp only[c,j9,jC,mI (show p.1<1000000 by omega)]
 have k1':((aN ts p.1).1 !=1)=true:=by simp[k1]
 simp only[k1',jE,j0,if_neg k1,bF,b,dN]
theorem LX(d:z.2≠0)(hi:i<ts.length):mD N (bR ts z i pr b)=some (bR ts z i pr b,⟨#[]⟩):=by
 have a:=qA (N:=N) (ts:=ts) (i:=i) (pr:=pr) (b:=b) (z:=z) hi
 have c:=qM (N:=N) (ts:=ts) (i:=i) (pr:=pr) (b:=b) d (aN ts i).2.2.2 9
 have hz':(z.2 !=0)=true:=by simpa using d
 simp only[bR] at a c
 simp only[mD,bR,a,j0,hz',jE,c]
theorem OV(p:Ps)(hi:p.1<ts.length)(d:ts.length<1000000):sF N (gR ts pr p)=some (match lE ts 2 p.1 with| .inl z=>(bR ts z p.1 pr p.2,0)| .inr a=>(gR ts pr (a.1,p.2),a.2.2.2.1)):=by
 have b:=lA (N:=N) (pr:=pr) p hi
 have c:=nK (N:=N) (ts:=ts) (pr:=pr) p (aN ts p.1).2.2.2 9
 simp only[gR] at b c
 simp only[sF,gR,b,j0,lE,gH,j9,jC]
 by_cases k1:(aN ts p.1).1=2
 .have k1':((aN ts p.1).1 !=2)=false:=by simp[k1]
  simp only[k1',j9,jC,if_pos k1,mI (show p.1<1000000 by omega)]
 have k1':((aN ts p.1).1 !=2)=true:=by simp[k1]
 simp only[k1',jE,if_neg k1,c,j0,dN]
theorem qJg(d:z.2≠0)(hi:i<ts.length):sF N (bR ts z i pr b)=some (bR ts z i pr b,0):=by
 have a:=qA (N:=N) (ts:=ts) (i:=i) (pr:=pr) (b:=b) (z:=z) hi
 have c:=qM (N:=N) (ts:=ts) (i:=i) (pr:=pr) (b:=b) d (aN ts i).2.2.2 9
 have hz':(z.2 !=0)=true:=by simpa using d
 simp only[bR] at a c
 simp only[sF,bR,a,j0,hz',jE,c]
theorem YY(t:bZ)(x:Ex)(p:Ps)(c:p.2.length<=256):∃v,iG N (gR ts pr p) x t.2.2.2=some (match iN t x p with| .inl z=>(bR ts z p.1 pr p.2,v)| .inr q=>(gR ts pr q.1,(q.2:Int))):=by
 refine⟨IntKind.wrap .i64 ((p.2.length:Int)-1),?_⟩
 have a:=nK (N:=N) (ts:=ts) (pr:=pr) p t.2.2.2 2
 simp only[gR] at a
 simp only[iG,gR,kN,jE,j0,iN]
 by_cases k1:p.2.length=256
 .have k1':((p.2.length:Int)==256)=true:=by simp;omega
  simp only[k1',jE,a,j0,bR]
  simp[k1,dN]
 have k1':((p.2.length:Int)==256)=false:=by simp;omega
 have b:IntKind.wrap .i64 (((p.2.length+1:Nat):Int)-1)=(p.2.length:Int):=by rw[bS (by omega) (by omega)];omega
 simp only[k1',j9,jC,j0,if_neg k1,kN,jE]
 rw[iB (by simp only[jA,jB];omega) (by omega)]
 simp only[j0,jF,jA,jB,kT,b]
theorem ZM(c:z.2≠0)(x:Ex)(a:Int):∃v,iG N (bR ts z i pr b) x a=some (bR ts z i pr b,v):=by
 refine⟨IntKind.wrap .i64 ((b.length:Int)-1),?_⟩
 have hz':(z.2==0)=false:=by simpa using c
 simp only[iG,bR,hz',j9,jC,j0]
end
section
variable {N:Nat} {ts:List bZ} {pr:List BA} {b:List Ex} {i:Nat} {z:cF}
theorem PY(p:Ps)(hi:p.1<ts.length)(f:ts.length<1000000)(e:100<N)(pth:Bool):oQ N (gR ts pr p) pth=some (match(if pth=true then lZ ts p.1 else wB ts p.1) with| .inl z=>(bR ts z p.1 pr p.2,⟨#[]⟩)| .inr a=>(gR ts pr (a.1,p.2),a.2.2.1)):=by
 have d:=lA (N:=N) (pr:=pr) p hi
 have c:=nK (N:=N) (ts:=ts) (pr:=pr) p (aN ts p.1).2.2.2 9
 simp only[gR] at d c
 simp only[oQ,gR,d,j0,NR e,qHb e,lZ,wB,lE,gH,j9,jC]
 by_cases k1:(aN ts p.1).1=3
 .have k1':((aN ts p.1).1 !=3)=false:=by simp[k1]
  simp only[k1',j9,jC,j0,if_pos k1,bF]
  cases pth with
  |true=>
   simp only[jE,jP,j9,jC]
   rcases dJ (iE (aN ts p.1).2.1.data.toList) with b|b
   .simp only[b,jP,j9,jC,j0,jE,mI (show p.1<1000000 by omega)]
   simp only[b,kC,j9,jC,j0,jE,c,dN]
  |false=>
   simp only[jE,kC,j9,jC]
   rcases dJ (uG (aN ts p.1).2.1) with b|b
   .simp only[b,jP,j9,jC,j0,jE,mI (show p.1<1000000 by omega)]
   simp only[b,kC,j9,jC,j0,jE,c,dN]
 have k1':((aN ts p.1).1 !=3)=true:=by simp[k1]
 simp only[k1',jE,j0,if_neg k1,bF,c,dN]
 cases pth<;>rfl
theorem PZ(d:z.2≠0)(hi:i<ts.length)(pth:Bool):oQ N (bR ts z i pr b) pth=some (bR ts z i pr b,⟨#[]⟩):=by
 have a:=qA (N:=N) (ts:=ts) (i:=i) (pr:=pr) (b:=b) (z:=z) hi
 have c:=qM (N:=N) (ts:=ts) (i:=i) (pr:=pr) (b:=b) d (aN ts i).2.2.2 9
 have hz':(z.2 !=0)=true:=by simpa using d
 simp only[bR] at a c
 simp only[oQ,bR,a,j0,hz',jE,c]
theorem ZP{i:Nat}(h:i<2000000):IntKind.wrap .i64 ((i:Int)+1)=((i+1:Nat):Int):=by rw[bS (by omega) (by omega)];omega
theorem WH{s:BA}{l:List BA}(a:l.length<2000000):∀(d i M:Nat),i+d=l.length->d<M->
  aK (AO N l s) M (i:Int)=some (if s∈l.drop i then .inr true else .inl ())
 |d,i,0,_,h=>by omega
 |0,i,M+1,h,_=>by
  have:l.drop i=[]:=jT (by omega)
  simp only[aK,AO,this]
  rw[if_neg (by simp only[j6];omega)]
  rfl
 |d+1,i,M+1,h,c=>by
  have hi:i<l.length:=by omega
  have b:=WH (s:=s) a d (i+1) M (by omega) (by omega)
  simp only[aK,AO]
  rw[if_pos (by simp only[j6];omega),dP hi,jJ hi]
  simp only[j0,lB,j6,jI]
  by_cases hs:l[i]=s
  .rw[if_pos hs,if_pos (.inl hs.symm)];rfl
  rw[if_neg hs]
  simp only[j0,ZP (show i<2000000 by omega),b]
  by_cases h2:s∈l.drop (i+1)
  .rw[if_pos h2,if_pos (.inr h2)]
  rw[if_neg h2,if_neg (fun h=>h.elim (fun e=>hs e.symm) h2)]
theorem QW{s:BA}{l:List BA}(b:l.length<2000000)(a:l.length<N):pU N l s=some (decide (s∈l)):=by
 have h:=WH (N:=N) (s:=s) b l.length 0 N (by omega) a
 simp only[kA] at h
 simp only[pU]
 rw[show(0:Int)=((0:Nat):Int) from rfl,h]
 simp only[j0]
 by_cases h2:s∈l
 .rw[if_pos h2,jL h2]
 rw[if_neg h2,jS h2]
theorem andS(a b:Bool):(if a=true then some b else some false)=some (a&&b):=by cases a<;>rfl
theorem TT{s:BA}{k:Int}{f:Sr}(b:f.2.2.length<2000000):∀(d i M:Nat),i+d=f.2.2.length->d<M->
  aK (AE N f k s) M (i:Int)=some (if(f.2.2.drop i).any (fun d=>d.1==k&&decide (d.2.1=s))=true then .inr true else .inl ())
 |d,i,0,_,h=>by omega
 |0,i,M+1,h,_=>by
  have:f.2.2.drop i=[]:=jT (by omega)
  simp only[aK,AE,this]
  rw[if_neg (by simp only[j6];omega)]
  rfl
 |d+1,i,M+1,h,e=>by
  have hi:i<f.2.2.length:=by omega
  have c:=TT (s:=s) (k:=k) b d (i+1) M (by omega) (by omega)
  simp only[aK,AE]
  rw[if_pos (by simp only[j6];omega),dP hi,jJ hi,List.any_cons]
  simp only[j0,lB,ZP (show i<2000000 by omega),andS]
  rcases dJ (f.2.2[i].1==k&&decide (f.2.2[i].2.1=s)) with a|a
  .simp only[a,jE,j0,Bool.true_or]
  simp only[a,j9,jC,j0,c,dE]
theorem qNj{s:BA}{k:Int}{f:Sr}(c:f.2.2.length<2000000)(b:f.2.2.length<N):vD N f k s=some (f.2.2.any fun d=>d.1==k&&decide (d.2.1=s)):=by
 have h:=TT (N:=N) (s:=s) (k:=k) c f.2.2.length 0 N (by omega) b
 simp only[kA] at h
 simp only[vD]
 rw[show(0:Int)=((0:Nat):Int) from rfl,h]
 simp only[j0]
 rcases dJ (f.2.2.any fun d=>d.1==k&&decide (d.2.1=s)) with a|a
 .rw[if_pos a,a]
 rw[if_neg (by rw[a];decide),a]
theorem op_3:lL ts 3 i=if bX ts 4 ⟨#[42]⟩ i=true then 3 else if bX ts 4 ⟨#[47]⟩ i=true then 4 else if bX ts 4 ⟨#[37]⟩ i=true then 5 else 0:=by
 unfold lL opsC
 simp only[List.find?,nZ,uK]
 rcases dJ (bX ts 4 ⟨#[42]⟩ i) with a|a<;>rcases dJ (bX ts 4 ⟨#[47]⟩ i) with b|b<;>rcases dJ (bX ts 4 ⟨#[37]⟩ i) with c|c<;>simp[a,b,c]
theorem op_2:lL ts 2 i=if bX ts 4 ⟨#[43]⟩ i=true then 1 else if bX ts 4 ⟨#[45]⟩ i=true then 2 else 0:=by
 unfold lL opsC
 simp only[List.find?,nZ,uK]
 rcases dJ (bX ts 4 ⟨#[43]⟩ i) with a|a<;>rcases dJ (bX ts 4 ⟨#[45]⟩ i) with b|b<;>simp[a,b]
theorem op_1:lL ts 1 i=if bX ts 4 ⟨#[60]⟩ i=true then 6 else if bX ts 4 ⟨#[61,61]⟩ i=true then 7 else 0:=by
 unfold lL opsC
 simp only[List.find?,nZ,uK]
 rcases dJ (bX ts 4 ⟨#[60]⟩ i) with a|a<;>rcases dJ (bX ts 4 ⟨#[61,61]⟩ i) with b|b<;>simp[a,b]
theorem CL{α:Type}{t:bZ}{e:Int}(a:e≠0)(h:(dN t e:cF⊕α)= .inl z):z.2≠0:=by
 obtain rfl:=Sum.inl.inj h;exact a
theorem pH{s:BA}(h:dG ts s i= .inl z):z.2≠0:=by
 unfold dG at h;split at h
 .cases h
 exact CL (by decide) h
theorem HN{k:Int}(h:lE ts k i= .inl z):z.2≠0:=by
 unfold lE at h;split at h
 .cases h
 exact CL (by decide) h
theorem PO{α β:Type}{x:cF⊕α}{f:α->cF⊕β}(h:bF x f= .inl z):x= .inl z\/∃a,x= .inr a/\f a= .inl z:=by
 cases x with
 |inl y=>obtain rfl:=Sum.inl.inj h;exact .inl rfl
 |inr a=>exact .inr ⟨a,rfl,h⟩
theorem LR(h:lG ts i= .inl z):z.2≠0:=by
 rcases PO h with h|⟨a,_,h⟩
 .exact HN h
 split at h
 .exact CL (by decide) h
 cases h
theorem LN(h:lZ ts i= .inl z):z.2≠0:=by
 rcases PO h with h|⟨a,_,h⟩
 .exact HN h
 split at h
 .cases h
 exact CL (by decide) h
theorem qKl(h:wB ts i= .inl z):z.2≠0:=by
 rcases PO h with h|⟨a,_,h⟩
 .exact HN h
 split at h
 .cases h
 exact CL (by decide) h
theorem PV{t:bZ}{x:Ex}{p:Ps}(h:iN t x p= .inl z):z.2≠0:=by
 unfold iN at h;split at h
 .exact CL (by decide) h
 cases h
end
def rK(ts:List bZ)(z:cF)(st:RT):Prop:=z.2≠0/\∃(i:Nat) (pr:List BA) (b:List Ex),i<ts.length/\st=bR ts z i pr b
def eW(ts:List bZ)(pr:List BA)(r:PM Nat)(o:RT×Int):Prop:=
 match r with
 | .inl z=>rK ts z o.1
 | .inr q=>o=(gR ts pr q.1,(q.2:Int))
section
variable {N:Nat} {ts:List bZ} {pr:List BA} {E S:Ps->PM Nat} {d:Int}
variable {r1 r2 r3 r4:RT->Int->Option (RT×Int)}
theorem qN{z:cF}{i:Nat}{pr':List BA}{b:List Ex}{v:Int}(a:z.2≠0)(hi:i<ts.length):eW ts pr (.inl z) (bR ts z i pr' b,v):=⟨a,i,pr',b,hi,rfl⟩
theorem yB(t:bZ)(x:Ex)(p:Ps)(c:p.1<ts.length)(b:p.2.length<=256):∃o,iG N (gR ts pr p) x t.2.2.2=some o/\eW ts pr (iN t x p) o:=by
 obtain⟨v,h⟩:=YY (N:=N) (ts:=ts) (pr:=pr) t x p b
 cases a:iN t x p with
 |inl z=>rw[a] at h;exact⟨_,h,qN (PV a) c⟩
 |inr q=>rw[a] at h;exact⟨_,h,rfl⟩
theorem CG{z:cF}{i:Nat}{pr':List BA}{b:List Ex}(c:z.2≠0)(hi:i<ts.length)(x:Ex)(a:Int):∃o,iG N (bR ts z i pr' b) x a=some o/\eW ts pr (.inl z) o:=by
 obtain⟨v,h⟩:=ZM (N:=N) (ts:=ts) (pr:=pr') (b:=b) (i:=i) c x a
 exact⟨_,h,qN c hi⟩
theorem NX(t:bZ)(x:Ex)(p:Ps)(b:OkT ts)(d:ts.length<1000000)(a:p.1<ts.length)(c:p.2.length<=256):∃o,
  ((eN N (gR ts pr p) (⟨#[41]⟩:BA)).bind fun y=>iG N y x t.2.2.2)=some o/\eW ts pr (bF (dG ts iP p.1) fun i=>iN t x (i,p.2)) o:=by
 have e:=qO (N:=N) (pr:=pr) p a d ⟨#[41]⟩
 simp only[e,j0,iP]
 cases h:dG ts ⟨#[41]⟩ p.1 with
 |inl z=>exact CG (pH h) a x _
 |inr j=>
  obtain⟨rfl,g,-⟩:=iT b a h
  exact yB t x (p.1+1,p.2) g c
theorem xZ{z:cF}{i:Nat}{pr':List BA}{b:List Ex}(c:z.2≠0)(hi:i<ts.length)(x:Ex)(a:Int):∃o,
  ((eN N (bR ts z i pr' b) (⟨#[41]⟩:BA)).bind fun y=>iG N y x a)=some o/\eW ts pr (.inl z) o:=by
 simp only[pX c hi,j0]
 exact CG c hi x a
variable (hEg:∀p:Ps,p.1<ts.length->p.2.length<=256->∃o,r4 (gR ts pr p) (IntKind.wrap .i64 (d+1))=some o/\eW ts pr (E p) o)
variable (hEb:∀(z:cF) (i:Nat) (pr':List BA) (b:List Ex),z.2≠0->i<ts.length->∃v,r4 (bR ts z i pr' b) (IntKind.wrap .i64 (d+1))=some (bR ts z i pr' b,v))
def LY(ts:List bZ)(E:Ps->PM Nat)(n:Nat)(l:List Int)(p:Ps):PM (List Int):=
 if bX ts 4 oT p.1 then sV ts E n l (p.1+1,p.2) else bF (dG ts iP p.1) fun i=> .inr ((i,p.2),l)
theorem LB(n:Nat)(l:List Int)(p:Ps):sV ts E (n+1) l p=bF (E p) fun q=>LY ts E n (l++[(q.2:Int)]) q.1:=rfl
def qAo(ts:List bZ)(pr:List BA)(r:PM (List Int))(o:List Int×RT):Prop:=
 match r with
 | .inl z=>rK ts z o.2
 | .inr q=>o=(q.2,gR ts pr q.1)
theorem OO{z:cF}{i:Nat}{pr':List BA}{b:List Ex}(a:z.2≠0)(M:Nat)(l:List Int):aK (tK N r4 d) (M+1) (l,bR ts z i pr' b)=some (l,bR ts z i pr' b):=by
 have hz':(z.2==0)=false:=by simpa using a
 simp only[aK,tK,bR,hz',j9,jC,j0]
include hEg hEb in
theorem VN(k:OkT ts)(s:ts.length<1000000)(u:iS ts E):∀(n M:Nat) (l:List Int) (p:Ps),l≠[]->p.1<ts.length->p.2.length<=256->l.length<=p.1->ts.length<p.1+n->ts.length+2<p.1+M->
  ∃o,aK (tK N r4 d) M (l,gR ts pr p)=some o/\qAo ts pr (LY ts E n l p) o
 |0,M,l,p,_,c,_,_,h,_=>by omega
 |n+1,0,l,p,_,c,_,_,_,h=>by omega
 |n+1,M+1,l,p,A,c,x,R,Y,V=>by
  have K:=nT (N:=N) (pr:=pr) p c s ⟨#[41]⟩
  have t:decide ((l.length:Int)>0)=true:=by
   have:=fJ.2 A
   exact jL (by omega)
  have G:((gR ts pr p).2.2.2.1==0)=true:=rfl
  simp only[aK,tK,Prod.eta,G,jE,K,j0]
  rcases dJ (bX ts 4 ⟨#[41]⟩ p.1) with a|a
  .simp only[a,jE,jP,j9,jC]
   refine⟨_,rfl,?_⟩
   have e:bX ts 4 oT p.1=false:=by
    simp only[bX,jR,j6] at a
    simp[bX,a.2,oT]
   have r:dG ts iP p.1= .inr (p.1+1):=by simp[dG,iP,a]
   simp only[LY,e,j9,jC,r,bF]
   rfl
  simp only[a,j9,jC,kC,jE,t,Prod.eta,qO p c s,j0]
  have y:bX ts 4 oT p.1=bX ts 4 ⟨#[44]⟩ p.1:=rfl
  simp only[LY,y,dG]
  rcases dJ (bX ts 4 ⟨#[44]⟩ p.1) with e|e
  .have g:=iZ k c (by decide) e
   simp only[e,jE]
   obtain⟨o,H,f⟩:=hEg (p.1+1,p.2) g x
   simp only[H,j0]
   cases hE:E (p.1+1,p.2) with
   |inl z=>
    rw[hE] at f
    obtain⟨D,i,pr',b,hi,B⟩:=f
    rw[iB (by simp only[jA,jB];omega) (by omega)]
    simp only[j0,B]
    cases M with
    |zero=>omega
    |succ M=>
     refine⟨_,OO D M _,?_⟩
     rw[LB,hE]
     exact⟨D,i,pr',b,hi,rfl⟩
   |inr q=>
    rw[hE] at f
    obtain⟨⟨B,D,S,F⟩,U⟩:=u (p.1+1,p.2) q.1 q.2 g x hE
    simp only at B
    rw[iB (by simp only[jA,jB];omega) (by omega)]
    have hr':o=(gR ts pr q.1,(q.2:Int)):=f
    simp only[j0,hr']
    rw[LB,hE]
    exact VN k s u n M (l++[(q.2:Int)]) q.1 (by simp) D F (by simp only[jF,jA,jB];omega) (by omega) (by omega)
  simp only[e,j9,jC]
  have r:bX ts 4 iP p.1=false:=a
  simp only[r,j9,jC,dN,bF]
  obtain⟨v,f⟩:=hEb ((aN ts p.1).2.2.2,9) p.1 pr p.2 (show(9:Int)≠0 by decide) c
  simp only[f,j0]
  rw[iB (by simp only[jA,jB];omega) (by omega)]
  simp only[j0]
  cases M with
  |zero=>omega
  |succ M=>exact⟨_,OO (z:=((aN ts p.1).2.2.2,9)) (show(9:Int)≠0 by decide) M _,show(9:Int)≠0 by decide,p.1,pr,p.2,c,rfl⟩
include hEg hEb in
theorem qOb(n:OkT ts)(k:ts.length<1000000)(A:1000002<N)(g:iS ts E)(p:Ps)(f:p.1<ts.length)(h:p.2.length<=256):
  ∃o,aK (tK N r4 d) N ([],gR ts pr p)=some o/\qAo ts pr (if bX ts 4 iP p.1 then .inr ((p.1+1,p.2),[]) else sV ts E (ts.length+1) [] p) o:=by
 obtain⟨M,rfl⟩:∃M,N=M+1:=⟨N-1,by omega⟩
 have u:=nT (N:=M+1) (pr:=pr) p f k ⟨#[41]⟩
 have s:((gR ts pr p).2.2.2.1==0)=true:=rfl
 have e:decide ((([]:List Int).length:Int)>0)=false:=rfl
 simp only[aK,tK,Prod.eta,s,jE,u,j0,iP]
 rcases dJ (bX ts 4 ⟨#[41]⟩ p.1) with c|c
 .simp only[c,jE,jP,j9,jC]
  exact⟨_,rfl,rfl⟩
 simp only[c,j9,jC,kC,jE,e,Prod.eta,j0]
 obtain⟨o,t,a⟩:=hEg p f h
 simp only[t,j0]
 cases hE:E p with
 |inl z=>
  rw[hE] at a
  obtain⟨r,i,pr',b,hi,l⟩:=a
  rw[iB (by simp) (by omega)]
  simp only[j0,l]
  cases M with
  |zero=>omega
  |succ M=>
   refine⟨_,OO r M _,?_⟩
   rw[LB,hE]
   exact⟨r,i,pr',b,hi,rfl⟩
 |inr q=>
  rw[hE] at a
  obtain⟨⟨v,l,x,r⟩,y⟩:=g p q.1 q.2 f h hE
  rw[iB (by simp) (by omega)]
  have hr':o=(gR ts pr q.1,(q.2:Int)):=a
  simp only[j0,hr']
  rw[LB,hE]
  exact VN hEg hEb n k g ts.length M ([]++[(q.2:Int)]) q.1 (by simp) l r (by simp only[jF,jA,jB];omega) (by omega) (by omega)
end
section
variable {N:Nat} {ts:List bZ} {pr:List BA} {E S:Ps->PM Nat} {d:Int}
variable {r1 r2 r3 r4:RT->Int->Option (RT×Int)}
theorem XP{y1:RT×bZ}{y31:RT×BA}{p:Ps}(a:pr.length<1000):∀(k i M:Nat),i+k=pr.length->k<M->
  aK (tL N y1 y31 (gR ts pr p,false)) M (i:Int)=(match(pr.drop i).findIdx? (fun x=>decide (x=y31.2)) with
   |some j=>(iG N (gR ts pr p) (2,((i+j:Nat):Int),0,⟨#[]⟩,[]) y1.2.2.2.2).bind fun y=>some (.inr y)
   |none=>some (.inl ()))
 |k,i,0,_,h=>by omega
 |0,i,M+1,h,_=>by
  have:pr.drop i=[]:=jT (by omega)
  have c:decide ((i:Int)<((gR ts pr p).2.2.2.2.1.length:Int))=false:=jS (by simp only[gR];omega)
  simp only[aK,tL,this,List.findIdx?_nil,c,j9,jC,j0]
 |k+1,i,M+1,h,e=>by
  have hi:i<pr.length:=by omega
  have d:=XP (y1:=y1) (y31:=y31) (p:=p) a k (i+1) M (by omega) (by omega)
  have c:decide ((i:Int)<((gR ts pr p).2.2.2.2.1.length:Int))=true:=jL (by simp only[gR];omega)
  have x:bV (gR ts pr p).2.2.2.2.1 (i:Int)=some pr[i]:=dP hi
  have b:((gR ts pr p).2.2.2.1==0)=true:=rfl
  rw[jJ hi,List.findIdx?_cons]
  simp only[aK,tL,b,Prod.eta,c,x,jE,j0,lB,j6]
  by_cases hs:pr[i]=y31.2
  .simp only[if_pos hs,jE,j0,gO]
   cases iG N (gR ts pr p) (2,(i:Int),0,⟨#[]⟩,[]) y1.2.2.2.2<;>rfl
  simp only[if_neg hs,j0,j9,jC,mI (show i<1000000 by omega),d]
  cases(pr.drop (i+1)).findIdx? (fun x=>decide (x=y31.2)) with
  |none=>rfl
  |some j=>simp only[kG];rw[show i+1+j=i+(j+1) by omega]
theorem PG{y1:RT×bZ}{y31:RT×BA}{z:cF}{j:Nat}{pr':List BA}{b:List Ex}(d:z.2≠0)(a:pr'.length<1000):∀(k i M:Nat),i+k=pr'.length->k<M->
  aK (tL N y1 y31 (bR ts z j pr' b,false)) M (i:Int)=some (.inl ())
 |k,i,0,_,h=>by omega
 |0,i,M+1,h,_=>by
  have c:decide ((i:Int)<((bR ts z j pr' b).2.2.2.2.1.length:Int))=false:=jS (by simp only[bR];omega)
  simp only[aK,tL,c,j9,jC,j0]
 |k+1,i,M+1,h,g=>by
  have hi:i<pr'.length:=by omega
  have f:=PG (y1:=y1) (y31:=y31) (j:=j) (b:=b) d a k (i+1) M (by omega) (by omega)
  have c:decide ((i:Int)<((bR ts z j pr' b).2.2.2.2.1.length:Int))=true:=jL (by simp only[bR];omega)
  have x:bV (bR ts z j pr' b).2.2.2.2.1 (i:Int)=some pr'[i]:=dP hi
  have e:((bR ts z j pr' b).2.2.2.1==0)=false:=by simpa[bR] using d
  simp only[aK,tL,e,Prod.eta,c,x,jE,j0,lB,j6]
  have:((if pr'[i]=y31.2 then some false else some false):Option Bool)=some false:=by split<;>rfl
  simp only[this,j0,j9,jC,mI (show i<1000000 by omega),f]
variable (hEg:∀p:Ps,p.1<ts.length->p.2.length<=256->∃o,r4 (gR ts pr p) (IntKind.wrap .i64 (d+1))=some o/\eW ts pr (E p) o)
variable (hEb:∀(z:cF) (i:Nat) (pr':List BA) (b:List Ex),z.2≠0->i<ts.length->∃v,r4 (bR ts z i pr' b) (IntKind.wrap .i64 (d+1))=some (bR ts z i pr' b,v))
include hEg hEb in
theorem qMh(e:OkT ts)(k:ts.length<1000000)(H:100<N)(G:iS ts E)(t:bZ)(p:Ps)(f:p.1<ts.length)(A:p.2.length<=256):∃o,
  ((eN N (gR ts pr p) (⟨#[40]⟩:BA)).bind fun D=>(oQ N D true).bind fun r=>(eN N r.1 (⟨#[44]⟩:BA)).bind fun F=>(r4 F (IntKind.wrap .i64 (d+1))).bind fun c=>(eN N c.1 (⟨#[41]⟩:BA)).bind fun g=>iG N g (6,0,0,r.2,[c.2]) t.2.2.2)=some o/\
  eW ts pr (bF (dG ts mY p.1) fun i=>bF (bF (lZ ts i) fun a=>bF (dG ts oT a.1) fun i=>bF (E (i,p.2)) fun q=>(.inr (q.1,((6,0,0,a.2.2.1,[(q.2:Int)]):Ex)):cF⊕(Ps×Ex))) fun q=>bF (dG ts iP q.1.1) fun i=>iN t q.2 (i,q.1.2)) o:=by
 have bad:∀{z:cF} {i:Nat} {pr':List BA} {b:List Ex} (x:BA),z.2≠0->i<ts.length->∃o,((r4 (bR ts z i pr' b) (IntKind.wrap .i64 (d+1))).bind fun c=>(eN N c.1 (⟨#[41]⟩:BA)).bind fun g=>iG N g (6,0,0,x,[c.2]) t.2.2.2)=some o/\eW ts pr (.inl z) o:=by
  intro z i pr' b x n hi
  obtain⟨v,h⟩:=hEb z i pr' b n hi
  simp only[h,j0]
  exact xZ n hi _ _
 simp only[qO p f k,j0,mY]
 cases h1:dG ts ⟨#[40]⟩ p.1 with
 |inl z=>
  simp only[PZ (pH h1) f,pX (pH h1) f,j0]
  exact bad _ (pH h1) f
 |inr i=>
  obtain⟨rfl,h,-⟩:=iT e f h1
  simp only[PY (p.1+1,p.2) h k H,j0,jE,bF]
  cases h2:lZ ts (p.1+1) with
  |inl z=>
   simp only[pX (LN h2) h,j0]
   exact bad _ (LN h2) h
  |inr a=>
   obtain⟨rfl,s,-⟩:=qZ e h h2
   simp only[qO (p.1+1+1,p.2) s k,j0,oT]
   cases y:dG ts ⟨#[44]⟩ (p.1+1+1) with
   |inl z=>exact bad _ (pH y) s
   |inr j=>
    obtain⟨rfl,u,-⟩:=iT e s y
    obtain⟨o,K,l⟩:=hEg (p.1+1+1+1,p.2) u A
    simp only[K,j0]
    cases h4:E (p.1+1+1+1,p.2) with
    |inl z=>
     rw[h4] at l
     obtain⟨n,i,pr',b,hi,B⟩:=l
     simp only[B]
     exact xZ n hi _ _
    |inr q=>
     rw[h4] at l
     obtain⟨⟨M,n,R,B⟩,S⟩:=G (p.1+1+1+1,p.2) q.1 q.2 u A h4
     have hr':o=(gR ts pr q.1,(q.2:Int)):=l
     simp only[hr']
     exact NX t _ q.1 e k n B
theorem QI(c:OkT ts)(h:ts.length<1000000)(r:100<N)(k:Int)(pth:Bool)(t:bZ)(p:Ps)(f:p.1<ts.length)(s:p.2.length<=256):∃o,
  ((eN N (gR ts pr p) (⟨#[40]⟩:BA)).bind fun l=>(oQ N l pth).bind fun g=>(eN N g.1 (⟨#[41]⟩:BA)).bind fun n=>iG N n (k,0,0,g.2,[]) t.2.2.2)=some o/\
  eW ts pr (bF (dG ts mY p.1) fun i=>bF (bF (if pth=true then lZ ts i else wB ts i) fun a=>(.inr ((a.1,p.2),((k,0,0,a.2.2.1,[]):Ex)):cF⊕(Ps×Ex))) fun q=>bF (dG ts iP q.1.1) fun i=>iN t q.2 (i,q.1.2)) o:=by
 simp only[qO p f h,j0,mY]
 cases h1:dG ts ⟨#[40]⟩ p.1 with
 |inl z=>
  simp only[PZ (pH h1) f,j0]
  exact xZ (pH h1) f _ _
 |inr i=>
  obtain⟨rfl,d,-⟩:=iT c f h1
  simp only[PY (p.1+1,p.2) d h r,j0,bF]
  cases h2:(if pth=true then lZ ts (p.1+1) else wB ts (p.1+1)) with
  |inl z=>
   have b:z.2≠0:=by
    split at h2
    .exact LN h2
    exact qKl h2
   exact xZ b d _ _
  |inr a=>
   have b:a=(p.1+1+1,aN ts (p.1+1))/\p.1+1+1<ts.length:=by
    split at h2
    .obtain⟨e,b,-⟩:=qZ c d h2;exact⟨e,b⟩
    obtain⟨e,b,-⟩:=WT c d h2;exact⟨e,b⟩
   obtain⟨rfl,b⟩:=b
   exact NX t _ (p.1+1+1,p.2) c h b s
theorem qLt(c:OkT ts)(h:ts.length<1000000)(t:bZ)(p:Ps)(d:p.1<ts.length)(u:p.2.length<=256):∃o,
  ((eN N (gR ts pr p) (⟨#[40]⟩:BA)).bind fun n=>(eO N n).bind fun g=>(sF N g.1).bind fun b=>(if(decide (b.2>=64))=true then((eU N b.1 g.2.2.2.2 9).bind fun r=>some r) else(some b.1):Option RT).bind fun v=>(eN N v (⟨#[41]⟩:BA)).bind fun s=>iG N s (10,b.2,0,⟨#[]⟩,[]) t.2.2.2)=some o/\
  eW ts pr (bF (dG ts mY p.1) fun i=>bF (bF (lE ts 2 i) fun a=>if a.2.2.2.1>=64 then dN a.2 9 else(.inr ((a.1,p.2),((10,a.2.2.2.1,0,⟨#[]⟩,[]):Ex)):cF⊕(Ps×Ex))) fun q=>bF (dG ts iP q.1.1) fun i=>iN t q.2 (i,q.1.2)) o:=by
 have f:¬decide ((0:Int)>=64)=true:=by decide
 simp only[qO p d h,j0,mY]
 cases h1:dG ts ⟨#[40]⟩ p.1 with
 |inl z=>
  simp only[qA d,qJg (pH h1) d,j0,if_neg f]
  exact xZ (pH h1) d _ _
 |inr i=>
  obtain⟨rfl,e,-⟩:=iT c d h1
  simp only[lA (p.1+1,p.2) e,OV (p.1+1,p.2) e h,j0,bF]
  cases h2:lE ts 2 (p.1+1) with
  |inl z=>
   simp only[if_neg f,j0]
   exact xZ (HN h2) e _ _
  |inr a=>
   obtain⟨rfl,l,-⟩:=tX c (by decide) e h2
   by_cases k:(aN ts (p.1+1)).2.2.1>=64
   .simp only[if_pos k,j6,jE,nK,j0]
    exact xZ (show(9:Int)≠0 by decide) l _ _
   simp only[if_neg k,j6,j0]
   exact NX t _ (p.1+1+1,p.2) c h l u
end
section
variable {N:Nat} {ts:List bZ} {pr:List BA} {E S:Ps->PM Nat} {d:Int}
variable {r1 r2 r3 r4:RT->Int->Option (RT×Int)}
theorem XN{s:BA}{i:Nat}(h:(aN ts i).1=1):bX ts 1 s i=decide ((aN ts i).2.1=s):=by simp[bX,h]
theorem qAd{k:Int}{s:BA}{i:Nat}(h:(aN ts i).1≠k):bX ts k s i=false:=by simp[bX,h]
theorem oP{α:Type}(x:Option α):(x.bind fun y=>some y)=x:=by cases x<;>rfl
theorem qIj{z:cF}{i:Nat}{pr':List BA}{b:List Ex}(c:z.2≠0)(hi:i<ts.length):wN N r1 r2 r3 r4 (bR ts z i pr' b) d=some (bR ts z i pr' b,0):=by
 have a:((bR ts z i pr' b).2.2.2.1 !=0)=true:=by simpa[bR] using c
 simp only[wN,Prod.eta,qA hi,j0,a,jE]
variable (hEg:∀p:Ps,p.1<ts.length->p.2.length<=256->∃o,r4 (gR ts pr p) (IntKind.wrap .i64 (d+1))=some o/\eW ts pr (E p) o)
variable (hEb:∀(z:cF) (i:Nat) (pr':List BA) (b:List Ex),z.2≠0->i<ts.length->∃v,r4 (bR ts z i pr' b) (IntKind.wrap .i64 (d+1))=some (bR ts z i pr' b,v))
include hEg hEb in
theorem qMo(e:OkT ts)(f:ts.length<1000000)(H:pr.length<1000)(hN:1000002<N)(M:iS ts E)(p:Ps)(l:p.1<ts.length)(t:p.2.length<=256):
  ∃o,wN N r1 r2 r3 r4 (gR ts pr p) d=some o/\eW ts pr (rD ts pr E p) o:=by
 have Y:((gR ts pr p).2.2.2.1 !=0)=false:=rfl
 simp only[wN,Prod.eta,lA p l,j0,Y,j9,jC]
 unfold rD
 dsimp only
 by_cases k1:(aN ts p.1).1=2
 .have k1':((aN ts p.1).1==2)=true:=by simpa using k1
  have g:=e.next l (show(aN ts p.1).1≠5 by rw[k1];decide)
  rw[if_pos k1]
  simp only[k1',jE,OV p l f,lE,if_pos k1,j0]
  obtain⟨o,k,c⟩:=yB (N:=N) (pr:=pr) (aN ts p.1) (1,(aN ts p.1).2.2.1,0,⟨#[]⟩,[]) (p.1+1,p.2) g t
  simp only[k,j0]
  exact⟨_,rfl,c⟩
 have k1':((aN ts p.1).1==2)=false:=by simpa using k1
 rw[if_neg k1]
 simp only[k1',j9,jC,nT p l f,j0]
 rcases dJ (bX ts 4 QA p.1) with B|B
 .have c1':bX ts 4 ⟨#[45]⟩ p.1=true:=B
  have g:=iZ e l (by decide) B
  simp only[B,c1',jE,OV (p.1+1,p.2) g f,j0]
  cases h:lE ts 2 (p.1+1) with
  |inl z=>
   obtain⟨o,k,c⟩:=CG (N:=N) (pr:=pr) (pr':=pr) (b:=p.2) (HN h) g (1,IntKind.wrap .i64 (0-0),0,⟨#[]⟩,[]) (aN ts p.1).2.2.2
   simp only[k,j0]
   exact⟨_,rfl,c⟩
  |inr a=>
   obtain⟨rfl,F,-⟩:=tX e (by decide) g h
   obtain⟨o,k,c⟩:=yB (N:=N) (pr:=pr) (aN ts p.1) (1,IntKind.wrap .i64 (0-(aN ts (p.1+1)).2.2.1),0,⟨#[]⟩,[]) (p.1+1+1,p.2) F t
   simp only[k,j0,bF]
   exact⟨_,rfl,c⟩
 have c1':bX ts 4 ⟨#[45]⟩ p.1=false:=B
 simp only[B,c1',j9,jC,nT p l f,j0]
 rcases dJ (bX ts 4 mY p.1) with D|D
 .have c2':bX ts 4 ⟨#[40]⟩ p.1=true:=D
  have g:=iZ e l (by decide) D
  obtain⟨o,k,c⟩:=hEg (p.1+1,p.2) g t
  simp only[D,c2',jE,k,j0]
  cases h:E (p.1+1,p.2) with
  |inl z=>
   rw[h] at c
   obtain⟨r,i,pr',b,hi,G⟩:=c
   simp only[G,pX r hi,j0,bF]
   exact⟨_,rfl,qN r hi⟩
  |inr q=>
   rw[h] at c
   obtain⟨⟨U,K,V,S⟩,v⟩:=M (p.1+1,p.2) q.1 q.2 g t h
   have hr':o=(gR ts pr q.1,(q.2:Int)):=c
   simp only[hr',qO q.1 K f,j0,bF,iP]
   cases u:dG ts ⟨#[41]⟩ q.1.1 with
   |inl z=>exact⟨_,rfl,qN (pH u) K⟩
   |inr j=>exact⟨_,rfl,rfl⟩
 have c2':bX ts 4 ⟨#[40]⟩ p.1=false:=D
 simp only[D,c2',j9,jC,pI p l f,j0]
 by_cases k2:(aN ts p.1).1=1
 rotate_left
 .-- no name
  rw[if_pos k2]
  have n:∀s,bX ts 1 s p.1=false:=fun s=>qAd k2
  have v:lG ts p.1= .inl ((aN ts p.1).2.2.2,9):=by simp[lG,lE,k2,bF,dN]
  simp only[n,j9,jC,pI p l f,j0,CM p l f (by omega:100<N),v]
  have r:(((aN ts p.1).2.2.2,(9:Int)):cF).2≠0:=show(9:Int)≠0 by decide
  have u:=PG (N:=N) (ts:=ts) (y1:=(gR ts pr p,aN ts p.1)) (y31:=(bR ts ((aN ts p.1).2.2.2,9) p.1 pr p.2,(⟨#[]⟩:BA))) (j:=p.1) (pr':=pr) (b:=p.2) r H pr.length 0 N (by omega) (by omega)
  rw[show((0:Nat):Int)=0 from rfl] at u
  simp only[LO r,j0,kC,jE,u,qM r]
  exact⟨_,rfl,qN r l⟩
 rw[if_neg (show ¬(aN ts p.1).1≠1 by simpa using k2)]
 have g:=e.next l (show(aN ts p.1).1≠5 by rw[k2];decide)
 have n:∀s,bX ts 1 s p.1=decide ((aN ts p.1).2.1=s):=fun s=>XN k2
 simp only[n,pI p l f,j0]
 by_cases w1:(aN ts p.1).2.1=oH
 .rw[if_pos (show(aN ts p.1).2.1∈[oH,oI,oM,oK,pL] by rw[w1];simp)]
  have w1':decide ((aN ts p.1).2.1=(⟨#[114,101,97,100]⟩:BA))=true:=jL w1
  simp only[w1',jE]
  obtain⟨o,k,c⟩:=qMh (N:=N) hEg hEb e f (by omega) M (aN ts p.1) (p.1+1,p.2) g t
  refine⟨o,Eq.trans ?_ k,?_⟩
  .simp only[oP]
  simp only[qL,if_pos w1]
  exact c
 have w1':decide ((aN ts p.1).2.1=(⟨#[114,101,97,100]⟩:BA))=false:=jS w1
 simp only[w1',j9,jC,pI p l f,j0,n]
 by_cases w2:(aN ts p.1).2.1=oI
 .rw[if_pos (show(aN ts p.1).2.1∈[oH,oI,oM,oK,pL] by rw[w2];simp)]
  have w2':decide ((aN ts p.1).2.1=(⟨#[115,105,122,101]⟩:BA))=true:=jL w2
  have wx:((aN ts p.1).2.1.toList==(⟨#[104,97,115]⟩:BA).toList)=false:=by rw[lB,w2];decide
  have wy:((aN ts p.1).2.1.toList==(⟨#[101,110,118]⟩:BA).toList)=false:=by rw[lB,w2];decide
  simp only[w2',jE,j0,wx,wy,j9,jC]
  obtain⟨o,k,c⟩:=QI (N:=N) (pr:=pr) e f (by omega) 7 true (aN ts p.1) (p.1+1,p.2) g t
  refine⟨o,Eq.trans ?_ k,?_⟩
  .simp only[oP];rfl
  simp only[qL,if_neg w1,if_pos w2]
  exact c
 have w2':decide ((aN ts p.1).2.1=(⟨#[115,105,122,101]⟩:BA))=false:=jS w2
 simp only[w2',j9,jC,pI p l f,j0,n]
 by_cases w3:(aN ts p.1).2.1=oM
 .rw[if_pos (show(aN ts p.1).2.1∈[oH,oI,oM,oK,pL] by rw[w3];simp)]
  have w3':decide ((aN ts p.1).2.1=(⟨#[104,97,115]⟩:BA))=true:=jL w3
  have wx:((aN ts p.1).2.1.toList==(⟨#[104,97,115]⟩:BA).toList)=true:=by rw[lB,w3']
  simp only[w3',jE,j0,wx]
  obtain⟨o,k,c⟩:=QI (N:=N) (pr:=pr) e f (by omega) 8 true (aN ts p.1) (p.1+1,p.2) g t
  refine⟨o,Eq.trans ?_ k,?_⟩
  .simp only[oP];rfl
  simp only[qL,if_neg w1,if_neg w2,if_pos w3]
  exact c
 have w3':decide ((aN ts p.1).2.1=(⟨#[104,97,115]⟩:BA))=false:=jS w3
 simp only[w3',j9,jC,pI p l f,j0,n]
 by_cases w4:(aN ts p.1).2.1=oK
 .rw[if_pos (show(aN ts p.1).2.1∈[oH,oI,oM,oK,pL] by rw[w4];simp)]
  have w4':decide ((aN ts p.1).2.1=(⟨#[101,110,118]⟩:BA))=true:=jL w4
  have wx:((aN ts p.1).2.1.toList==(⟨#[104,97,115]⟩:BA).toList)=false:=by rw[lB,w4];decide
  have wy:((aN ts p.1).2.1.toList==(⟨#[101,110,118]⟩:BA).toList)=true:=by rw[lB,w4']
  simp only[w4',jE,j0,wx,wy,j9,jC]
  obtain⟨o,k,c⟩:=QI (N:=N) (pr:=pr) e f (by omega) 9 false (aN ts p.1) (p.1+1,p.2) g t
  refine⟨o,Eq.trans ?_ k,?_⟩
  .simp only[oP];rfl
  simp only[qL,if_neg w1,if_neg w2,if_neg w3,if_pos w4]
  exact c
 have w4':decide ((aN ts p.1).2.1=(⟨#[101,110,118]⟩:BA))=false:=jS w4
 simp only[w4',j9,jC,pI p l f,j0,n]
 by_cases w5:(aN ts p.1).2.1=pL
 .rw[if_pos (show(aN ts p.1).2.1∈[oH,oI,oM,oK,pL] by rw[w5];simp)]
  have w5':decide ((aN ts p.1).2.1=(⟨#[102,108,105,112]⟩:BA))=true:=jL w5
  simp only[w5',jE]
  obtain⟨o,k,c⟩:=qLt (N:=N) (pr:=pr) e f (aN ts p.1) (p.1+1,p.2) g t
  refine⟨o,Eq.trans ?_ k,?_⟩
  .simp only[oP]
  simp only[qL,if_neg w1,if_neg w2,if_neg w3,if_neg w4]
  exact c
 have w5':decide ((aN ts p.1).2.1=(⟨#[102,108,105,112]⟩:BA))=false:=jS w5
 rw[if_neg (show ¬(aN ts p.1).2.1∈[oH,oI,oM,oK,pL] by simp[w1,w2,w3,w4,w5])]
 simp only[w5',j9,jC,CM p l f (by omega:100<N),j0,lG,lE,if_pos k2,bF]
 rcases dJ (rY (aN ts p.1).2.1) with R|R
 .simp only[R,jE,dN]
  have r:(((aN ts p.1).2.2.2,(9:Int)):cF).2≠0:=show(9:Int)≠0 by decide
  have u:=PG (N:=N) (ts:=ts) (y1:=(gR ts pr p,aN ts p.1)) (y31:=(bR ts ((aN ts p.1).2.2.2,9) p.1 pr p.2,(⟨#[]⟩:BA))) (j:=p.1) (pr':=pr) (b:=p.2) r H pr.length 0 N (by omega) (by omega)
  rw[show((0:Nat):Int)=0 from rfl] at u
  simp only[LO r,j0,kC,jE,u,qM r]
  exact⟨_,rfl,qN r l⟩
 simp only[R,j9,jC,nT (p.1+1,p.2) g f,j0]
 rcases dJ (bX ts 4 mY (p.1+1)) with A|A
 .have c4':bX ts 4 ⟨#[40]⟩ (p.1+1)=true:=A
  have F:=iZ e g (by decide) A
  simp only[A,c4',jE,jP,j9,jC]
  have Z:dG ts mY (p.1+1)= .inr (p.1+1+1):=by simp[dG,A]
  simp only[tT,Z,bF]
  obtain⟨o,k,c⟩:=qOb (N:=N) hEg hEb e f (by omega) M (p.1+1+1,p.2) F t
  simp only[k,j0]
  cases ha:(if bX ts 4 iP (p.1+1+1)=true then .inr ((p.1+1+1+1,p.2),[]) else sV ts E (ts.length+1) [] (p.1+1+1,p.2):PM (List Int)) with
  |inl z=>
   rw[ha] at c
   obtain⟨r,i,pr',b,hi,G⟩:=c
   simp only[G]
   obtain⟨o2,v,y⟩:=CG (N:=N) (pr:=pr) (pr':=pr') (b:=b) r hi (3,0,0,(aN ts p.1).2.1,o.1) (aN ts p.1).2.2.2
   simp only[v,j0]
   exact⟨_,rfl,y⟩
  |inr q=>
   rw[ha] at c
   have hr':o=(q.2,gR ts pr q.1):=c
   have r:q.1.1<ts.length/\q.1.2.length<=256:=by
    split at ha
    .rename_i hc
     obtain rfl:=Sum.inr.inj ha
     exact⟨iZ e F (by decide) hc,t⟩
    obtain⟨U,K,V,S⟩:=OR e M _ _ (p.1+1+1,p.2) q.1 q.2 F t ha
    exact⟨K,S⟩
   simp only[hr']
   obtain⟨o2,v,y⟩:=yB (N:=N) (pr:=pr) (aN ts p.1) (3,0,0,(aN ts p.1).2.1,q.2) q.1 r.1 r.2
   simp only[v,j0]
   exact⟨_,rfl,y⟩
 have c4':bX ts 4 ⟨#[40]⟩ (p.1+1)=false:=A
 simp only[A,c4',j9,jC,kC,jE]
 have u:=XP (N:=N) (ts:=ts) (pr:=pr) (y1:=(gR ts pr p,aN ts p.1)) (y31:=(gR ts pr (p.1+1,p.2),(aN ts p.1).2.1)) (p:=(p.1+1,p.2)) H pr.length 0 N (by omega) (by omega)
 rw[show((0:Nat):Int)=0 from rfl] at u
 simp only[u,kA,kT]
 cases hi:pr.findIdx? (fun x=>decide (x=(aN ts p.1).2.1)) with
 |none=>
  simp only[j0,nK]
  exact⟨_,rfl,qN (show(9:Int)≠0 by decide) g⟩
 |some j=>
  obtain⟨o2,v,y⟩:=yB (N:=N) (pr:=pr) (aN ts p.1) (2,(j:Int),0,⟨#[]⟩,[]) (p.1+1,p.2) g t
  simp only[v,j0]
  exact⟨_,rfl,y⟩
end
section
variable {N:Nat} {ts:List bZ} {pr:List BA} {E S:Ps->PM Nat} {d:Int}
variable {r r1 r2 r3 r4:RT->Int->Option (RT×Int)}
theorem ZQ{L i:Nat}(h:lL ts L i≠0):(aN ts i).1=4:=by
 apply Decidable.byContradiction
 intro b
 apply h
 unfold lL
 have:opsC.find? (nZ ts L i)=none:=by
  rw[List.find?_eq_none]
  intro o _ a
  simp only[nZ,jR] at a
  exact b (KZ a.1)
 rw[this]
theorem qAk{f:Int×RT->Option ((Int×RT)⊕(Int×RT))}{L:Nat}(A:OkT ts)(H:iS ts S)
  (t:∀p:Ps,p.1<ts.length->p.2.length<=256->∃o,r (gR ts pr p) d=some o/\eW ts pr (S p) o)
  (a1:∀(z:cF) (i:Nat) (pr':List BA) (b:List Ex),z.2≠0->i<ts.length->∃v,r (bR ts z i pr' b) d=some (bR ts z i pr' b,v))
  (y:∀(z:cF) (i:Nat) (pr':List BA) (b:List Ex) (v:Int),z.2≠0->f (v,bR ts z i pr' b)=some (.inr (v,bR ts z i pr' b)))
  {n M x:Nat} {p:Ps} (R:p.1<ts.length) (u:p.2.length<=256) (hM:0<M) (G:L≠1) (e:lL ts L p.1≠0)
  (U:∀(x:Nat) (q:Ps),q.1<ts.length->p.1<q.1->q.2.length<=256->x<q.2.length->∃o,aK f M ((x:Int),gR ts pr q)=some o/\eW ts pr (nW ts L S n x q) (o.2,o.1)):
  ∃o,((r (gR ts pr (p.1+1,p.2)) d).bind fun B=>(iG N B.1 (4,0,lL ts L p.1,⟨#[]⟩,[(x:Int),B.2]) (aN ts p.1).2.2.2).bind fun D=>aK f M (D.2,D.1))=some o/\eW ts pr (nW ts L S (n+1) x p) (o.2,o.1):=by
 have g:=A.next R (show(aN ts p.1).1≠5 by rw[ZQ e];decide)
 obtain⟨o,K,c⟩:=t (p.1+1,p.2) g u
 obtain⟨M',rfl⟩:∃M',M=M'+1:=⟨M-1,by omega⟩
 have bad:∀(z:cF) (i:Nat) (pr':List BA) (b:List Ex) (v:Int),z.2≠0->aK f (M'+1) (v,bR ts z i pr' b)=some (v,bR ts z i pr' b):=by
  intro z i pr' b v a
  simp only[aK,y z i pr' b v a,j0]
 simp only[K,j0,nW]
 rw[if_neg e]
 cases h:S (p.1+1,p.2) with
 |inl z=>
  rw[h] at c
  obtain⟨a,i,pr',b,hi,l⟩:=c
  simp only[l,bF]
  obtain⟨v,k⟩:=ZM (N:=N) (ts:=ts) (pr:=pr') (b:=b) (i:=i) a (4,0,lL ts L p.1,⟨#[]⟩,[(x:Int),o.2]) (aN ts p.1).2.2.2
  simp only[k,j0,bad _ _ _ _ _ a]
  exact⟨_,rfl,qN a hi⟩
 |inr q=>
  rw[h] at c
  obtain⟨⟨E,a,F,l⟩,f5⟩:=H (p.1+1,p.2) q.1 q.2 g u h
  have hr':o=(gR ts pr q.1,(q.2:Int)):=c
  simp only[hr',bF]
  obtain⟨v,k⟩:=YY (N:=N) (ts:=ts) (pr:=pr) (aN ts p.1) (4,0,lL ts L p.1,⟨#[]⟩,[(x:Int),(q.2:Int)]) q.1 l
  simp only[k,j0]
  cases hn:iN (aN ts p.1) (4,0,lL ts L p.1,⟨#[]⟩,[(x:Int),(q.2:Int)]) q.1 with
  |inl z=>
   simp only[bad _ _ _ _ _ (PV hn)]
   exact⟨_,rfl,qN (PV hn) a⟩
  |inr s=>
   obtain⟨⟨V,Y,k3,Z⟩,k5⟩:=tW (ts:=ts) (p:=p) (r:=q.1) (by simp only at E;omega) a F l hn
   simp only[if_neg G]
   exact U s.2 s.1 Y V Z k5
theorem qAh{L n x:Nat}{p:Ps}(a:lL ts L p.1=0):eW ts pr (nW ts L S (n+1) x p) (gR ts pr p,(x:Int)):=by
 simp only[nW]
 rw[if_pos a]
 rfl
theorem PA(z:cF)(i:Nat)(pr':List BA)(b:List Ex)(v:Int)(c:z.2≠0):rN N r d (v,bR ts z i pr' b)=some (.inr (v,bR ts z i pr' b)):=by
 have a:((bR ts z i pr' b).2.2.2.1==0)=false:=by simpa[bR] using c
 simp only[rN,a,j9,jC,Prod.eta]
theorem PU(z:cF)(i:Nat)(pr':List BA)(b:List Ex)(v:Int)(c:z.2≠0):sE N r d (v,bR ts z i pr' b)=some (.inr (v,bR ts z i pr' b)):=by
 have a:((bR ts z i pr' b).2.2.2.1==0)=false:=by simpa[bR] using c
 simp only[sE,a,j9,jC,Prod.eta]
theorem UZ(B:OkT ts)(k:ts.length<1000000)(D:iS ts S)
  (A:∀p:Ps,p.1<ts.length->p.2.length<=256->∃o,r (gR ts pr p) d=some o/\eW ts pr (S p) o)
  (u:∀(z:cF) (i:Nat) (pr':List BA) (b:List Ex),z.2≠0->i<ts.length->∃v,r (bR ts z i pr' b) d=some (bR ts z i pr' b,v)):
  ∀(n M x:Nat) (p:Ps),p.1<ts.length->p.2.length<=256->x<p.2.length->ts.length<p.1+n->ts.length+1<p.1+M->
  ∃o,aK (rN N r d) M ((x:Int),gR ts pr p)=some o/\eW ts pr (nW ts 3 S n x p) (o.2,o.1)
 |0,M,x,p,c,_,_,h,_=>by omega
 |n+1,0,x,p,c,_,_,_,h=>by omega
 |n+1,M+1,x,p,c,H,Y,V,U=>by
  have t:((gR ts pr p).2.2.2.1==0)=true:=rfl
  have K:∀(x:Nat) (q:Ps),q.1<ts.length->p.1<q.1->q.2.length<=256->x<q.2.length->∃o,aK (rN N r d) M ((x:Int),gR ts pr q)=some o/\eW ts pr (nW ts 3 S n x q) (o.2,o.1):=
   fun x q F R a G=>UZ B k D A u n M x q F a G (by omega) (by omega)
  have go:=fun E=>qAk (N:=N) (n:=n) (x:=x) B D A u (PA (N:=N) (r:=r) (d:=d)) c H (show 0<M by omega) (show 3≠1 by decide) E K
  have a:=op_3 (ts:=ts) (i:=p.1)
  rcases dJ (bX ts 4 ⟨#[42]⟩ p.1) with e|e
  .simp only[e,jE] at a
   obtain⟨o,l,s⟩:=go (by rw[a];decide)
   refine⟨o,Eq.trans ?_ l,s⟩
   simp only[aK,rN,Prod.eta,t,jE,lA p c,nT p c k,j0,e,a]
   cases r (gR ts pr (p.1+1,p.2)) d with
   |none=>rfl
   |some y=>simp only[j0];cases iG N y.1 (4,0,3,⟨#[]⟩,[(x:Int),y.2]) (aN ts p.1).2.2.2<;>rfl
  rcases dJ (bX ts 4 ⟨#[47]⟩ p.1) with f|f
  .simp only[e,f,jE,j9,jC] at a
   obtain⟨o,l,s⟩:=go (by rw[a];decide)
   refine⟨o,Eq.trans ?_ l,s⟩
   simp only[aK,rN,Prod.eta,t,jE,lA p c,nT p c k,j0,e,f,a,j9,jC]
   cases r (gR ts pr (p.1+1,p.2)) d with
   |none=>rfl
   |some y=>simp only[j0];cases iG N y.1 (4,0,4,⟨#[]⟩,[(x:Int),y.2]) (aN ts p.1).2.2.2<;>rfl
  rcases dJ (bX ts 4 ⟨#[37]⟩ p.1) with g|g
  .simp only[e,f,g,jE,j9,jC] at a
   obtain⟨o,l,s⟩:=go (by rw[a];decide)
   refine⟨o,Eq.trans ?_ l,s⟩
   simp only[aK,rN,Prod.eta,t,jE,lA p c,nT p c k,j0,e,f,g,a,j9,jC]
   cases r (gR ts pr (p.1+1,p.2)) d with
   |none=>rfl
   |some y=>simp only[j0];cases iG N y.1 (4,0,5,⟨#[]⟩,[(x:Int),y.2]) (aN ts p.1).2.2.2<;>rfl
  simp only[e,f,g,j9,jC] at a
  simp only[aK,rN,Prod.eta,t,jE,lA p c,nT p c k,j0,e,f,g,j9,jC]
  exact⟨_,rfl,qAh a⟩
theorem WE(s:OkT ts)(g:ts.length<1000000)(B:iS ts S)
  (l:∀p:Ps,p.1<ts.length->p.2.length<=256->∃o,r (gR ts pr p) d=some o/\eW ts pr (S p) o)
  (k:∀(z:cF) (i:Nat) (pr':List BA) (b:List Ex),z.2≠0->i<ts.length->∃v,r (bR ts z i pr' b) d=some (bR ts z i pr' b,v)):
  ∀(n M x:Nat) (p:Ps),p.1<ts.length->p.2.length<=256->x<p.2.length->ts.length<p.1+n->ts.length+1<p.1+M->
  ∃o,aK (sE N r d) M ((x:Int),gR ts pr p)=some o/\eW ts pr (nW ts 2 S n x p) (o.2,o.1)
 |0,M,x,p,c,_,_,h,_=>by omega
 |n+1,0,x,p,c,_,_,_,h=>by omega
 |n+1,M+1,x,p,c,G,V,U,R=>by
  have t:((gR ts pr p).2.2.2.1==0)=true:=rfl
  have H:∀(x:Nat) (q:Ps),q.1<ts.length->p.1<q.1->q.2.length<=256->x<q.2.length->∃o,aK (sE N r d) M ((x:Int),gR ts pr q)=some o/\eW ts pr (nW ts 2 S n x q) (o.2,o.1):=
   fun x q E K a F=>WE s g B l k n M x q E a F (by omega) (by omega)
  have go:=fun D=>qAk (N:=N) (n:=n) (x:=x) s B l k (PU (N:=N) (r:=r) (d:=d)) c G (show 0<M by omega) (show 2≠1 by decide) D H
  have a:=op_2 (ts:=ts) (i:=p.1)
  rcases dJ (bX ts 4 ⟨#[43]⟩ p.1) with e|e
  .simp only[e,jE] at a
   obtain⟨o,u,A⟩:=go (by rw[a];decide)
   refine⟨o,Eq.trans ?_ u,A⟩
   simp only[aK,sE,Prod.eta,t,jE,lA p c,nT p c g,j0,e,a]
   cases r (gR ts pr (p.1+1,p.2)) d with
   |none=>rfl
   |some y=>simp only[j0];cases iG N y.1 (4,0,1,⟨#[]⟩,[(x:Int),y.2]) (aN ts p.1).2.2.2<;>rfl
  rcases dJ (bX ts 4 ⟨#[45]⟩ p.1) with f|f
  .simp only[e,f,jE,j9,jC] at a
   obtain⟨o,u,A⟩:=go (by rw[a];decide)
   refine⟨o,Eq.trans ?_ u,A⟩
   simp only[aK,sE,Prod.eta,t,jE,lA p c,nT p c g,j0,e,f,a,j9,jC]
   cases r (gR ts pr (p.1+1,p.2)) d with
   |none=>rfl
   |some y=>simp only[j0];cases iG N y.1 (4,0,2,⟨#[]⟩,[(x:Int),y.2]) (aN ts p.1).2.2.2<;>rfl
  simp only[e,f,j9,jC] at a
  simp only[aK,sE,Prod.eta,t,jE,lA p c,nT p c g,j0,e,f,j9,jC]
  exact⟨_,rfl,qAh a⟩
theorem qOh(k:OkT ts)(u:ts.length<1000000)(B:1000002<N)(e:iS ts S)
  (c:∀p:Ps,p.1<ts.length->p.2.length<=256->∃o,r1 (gR ts pr p) d=some o/\eW ts pr (S p) o)
  (h1b:∀(z:cF) (i:Nat) (pr':List BA) (b:List Ex),z.2≠0->i<ts.length->∃v,r1 (bR ts z i pr' b) d=some (bR ts z i pr' b,v))
  (p:Ps) (l:p.1<ts.length) (f:p.2.length<=256):∃o,wO N r1 r2 r3 r4 (gR ts pr p) d=some o/\eW ts pr (rE ts 3 S p) o:=by
 obtain⟨o,x,a⟩:=c p l f
 simp only[wO,Prod.eta,x,j0,rE]
 cases h:S p with
 |inl z=>
  rw[h] at a
  obtain⟨n,i,pr',b,hi,g⟩:=a
  obtain⟨M,rfl⟩:∃M,N=M+1:=⟨N-1,by omega⟩
  simp only[g,bF,aK,PA z i pr' b _ n,j0]
  exact⟨_,rfl,qN n hi⟩
 |inr q=>
  rw[h] at a
  obtain⟨⟨y,r,A,s⟩,t⟩:=e p q.1 q.2 l f h
  have hr':o=(gR ts pr q.1,(q.2:Int)):=a
  obtain⟨o2,g,n⟩:=UZ (N:=N) k u e c h1b (ts.length+1) N q.2 q.1 r s t (by omega) (by omega)
  simp only[hr',bF,g,j0]
  exact⟨_,rfl,n⟩
theorem qLr(h1b:∀(z:cF) (i:Nat) (pr':List BA) (b:List Ex),z.2≠0->i<ts.length->∃v,r1 (bR ts z i pr' b) d=some (bR ts z i pr' b,v))(e:0<N)
  (z:cF) (i:Nat) (pr':List BA) (b:List Ex) (a:z.2≠0) (hi:i<ts.length):∃v,wO N r1 r2 r3 r4 (bR ts z i pr' b) d=some (bR ts z i pr' b,v):=by
 obtain⟨v,c⟩:=h1b z i pr' b a hi
 obtain⟨M,rfl⟩:∃M,N=M+1:=⟨N-1,by omega⟩
 simp only[wO,Prod.eta,c,j0,aK,PA z i pr' b _ a]
 exact⟨_,rfl⟩
theorem rsum(k:OkT ts)(u:ts.length<1000000)(B:1000002<N)(e:iS ts S)
  (c:∀p:Ps,p.1<ts.length->p.2.length<=256->∃o,r2 (gR ts pr p) d=some o/\eW ts pr (S p) o)
  (h2b:∀(z:cF) (i:Nat) (pr':List BA) (b:List Ex),z.2≠0->i<ts.length->∃v,r2 (bR ts z i pr' b) d=some (bR ts z i pr' b,v))
  (p:Ps) (l:p.1<ts.length) (f:p.2.length<=256):∃o,wP N r1 r2 r3 r4 (gR ts pr p) d=some o/\eW ts pr (rE ts 2 S p) o:=by
 obtain⟨o,x,a⟩:=c p l f
 simp only[wP,Prod.eta,x,j0,rE]
 cases h:S p with
 |inl z=>
  rw[h] at a
  obtain⟨n,i,pr',b,hi,g⟩:=a
  obtain⟨M,rfl⟩:∃M,N=M+1:=⟨N-1,by omega⟩
  simp only[g,bF,aK,PU z i pr' b _ n,j0]
  exact⟨_,rfl,qN n hi⟩
 |inr q=>
  rw[h] at a
  obtain⟨⟨y,r,A,s⟩,t⟩:=e p q.1 q.2 l f h
  have hr':o=(gR ts pr q.1,(q.2:Int)):=a
  obtain⟨o2,g,n⟩:=WE (N:=N) k u e c h2b (ts.length+1) N q.2 q.1 r s t (by omega) (by omega)
  simp only[hr',bF,g,j0]
  exact⟨_,rfl,n⟩
theorem qNn(h2b:∀(z:cF) (i:Nat) (pr':List BA) (b:List Ex),z.2≠0->i<ts.length->∃v,r2 (bR ts z i pr' b) d=some (bR ts z i pr' b,v))(e:0<N)
  (z:cF) (i:Nat) (pr':List BA) (b:List Ex) (a:z.2≠0) (hi:i<ts.length):∃v,wP N r1 r2 r3 r4 (bR ts z i pr' b) d=some (bR ts z i pr' b,v):=by
 obtain⟨v,c⟩:=h2b z i pr' b a hi
 obtain⟨M,rfl⟩:∃M,N=M+1:=⟨N-1,by omega⟩
 simp only[wP,Prod.eta,c,j0,aK,PU z i pr' b _ a]
 exact⟨_,rfl⟩
theorem qLw(z:cF)(i:Nat)(pr':List BA)(b:List Ex)(a:z.2≠0)(hi:i<ts.length):tM N r1 r2 r3 r4 (bR ts z i pr' b) d=some (bR ts z i pr' b,0):=by
 have c:((bR ts z i pr' b).2.2.2.1 !=0)=true:=by simpa[bR] using a
 simp only[tM,Prod.eta,qA hi,j0,qM a]
 have:((if decide (d>32)=true then some (bR ts z i pr' b) else some (bR ts z i pr' b)):Option RT)=some (bR ts z i pr' b):=by split<;>rfl
 simp only[this,j0,c,jE]
theorem qLy(c:d>32)(p:Ps)(a:p.1<ts.length):∃o,tM N r1 r2 r3 r4 (gR ts pr p) d=some o/\eW ts pr (dR ts pr 0 p) o:=by
 have hd':decide (d>32)=true:=by simpa using c
 simp only[tM,Prod.eta,lA p a,j0,hd',jE,nK]
 have b:((bR ts ((aN ts p.1).2.2.2,2) p.1 pr p.2).2.2.2.1 !=0)=true:=by rfl
 simp only[b,jE]
 exact⟨_,rfl,qN (show(2:Int)≠0 by decide) a⟩
theorem qOo{k:Nat}(A:OkT ts)(F:ts.length<1000000)(hd:d+k=32)(S:iS ts (dR ts pr k))(hS:iS ts (tC ts pr (dR ts pr k)))
  (H:∀p:Ps,p.1<ts.length->p.2.length<=256->∃o,r4 (gR ts pr p) (IntKind.wrap .i64 (d+1))=some o/\eW ts pr (dR ts pr k p) o)
  (u:∀(z:cF) (i:Nat) (pr':List BA) (b:List Ex),z.2≠0->i<ts.length->∃v,r4 (bR ts z i pr' b) (IntKind.wrap .i64 (d+1))=some (bR ts z i pr' b,v))
  (Z:∀p:Ps,p.1<ts.length->p.2.length<=256->∃o,r3 (gR ts pr p) d=some o/\eW ts pr (tC ts pr (dR ts pr k) p) o)
  (h3b:∀(z:cF) (i:Nat) (pr':List BA) (b:List Ex),z.2≠0->i<ts.length->∃v,r3 (bR ts z i pr' b) d=some (bR ts z i pr' b,v))
  (p:Ps) (K:p.1<ts.length) (M:p.2.length<=256):∃o,tM N r1 r2 r3 r4 (gR ts pr p) d=some o/\eW ts pr (dR ts pr (k+1) p) o:=by
 have hd':decide (d>32)=false:=jS (by omega)
 have g0:((gR ts pr p).2.2.2.1 !=0)=false:=rfl
 simp only[tM,Prod.eta,lA p K,j0,hd',j9,jC,g0,pI p K F,dR]
 rcases dJ (bX ts 1 IP p.1) with s|s
 rotate_left
 .have c1':bX ts 1 ⟨#[105,102]⟩ p.1=false:=s
  simp only[s,c1',j9,jC]
  obtain⟨o,ho,G⟩:=Z p K M
  simp only[ho,j0,HD,rE]
  cases h:tC ts pr (dR ts pr k) p with
  |inl z=>
   rw[h] at G
   obtain⟨e,i,pr',b,hi,l⟩:=G
   simp only[l,qA hi,LO e,j0,j9,jC,bF]
   exact⟨_,rfl,qN e hi⟩
  |inr q=>
   rw[h] at G
   obtain⟨⟨f1,B,f3,U⟩,f5⟩:=hS p q.1 q.2 K M h
   have hr':o=(gR ts pr q.1,(q.2:Int)):=G
   simp only[hr',lA q.1 B,nT q.1 B F,j0,bF,nW]
   have go:∀op,op≠0->lL ts 1 q.1.1=op->∃o,((r3 (gR ts pr (q.1.1+1,q.1.2)) d).bind fun R=>(iG N R.1 (4,0,op,⟨#[]⟩,[(q.2:Int),R.2]) (aN ts q.1.1).2.2.2).bind fun Y=>some Y)=some o/\
     eW ts pr (if lL ts 1 q.1.1=0 then .inr (q.1,q.2) else bF (tC ts pr (dR ts pr k) (q.1.1+1,q.1.2)) fun a=>bF (iN (aN ts q.1.1) (4,0,lL ts 1 q.1.1,⟨#[]⟩,[(q.2:Int),(a.2:Int)]) a.1) fun r=> .inr r) o:=by
    intro op n t
    have g:=A.next B (show(aN ts q.1.1).1≠5 by rw[ZQ (L:=1) (by rw[t];exact n)];decide)
    obtain⟨o2,E,f⟩:=Z (q.1.1+1,q.1.2) g U
    rw[t,if_neg n]
    simp only[E,j0,oP]
    cases h2:tC ts pr (dR ts pr k) (q.1.1+1,q.1.2) with
    |inl z=>
     rw[h2] at f
     obtain⟨e,i,pr',b,hi,l⟩:=f
     simp only[l,bF]
     exact CG e hi _ _
    |inr a=>
     rw[h2] at f
     obtain⟨⟨j1,j2,j3,j4⟩,j5⟩:=hS (q.1.1+1,q.1.2) a.1 a.2 g U h2
     have hr2':o2=(gR ts pr a.1,(a.2:Int)):=f
     simp only[hr2',bF]
     obtain⟨o3,V,D⟩:=yB (N:=N) (pr:=pr) (aN ts q.1.1) (4,0,op,⟨#[]⟩,[(q.2:Int),(a.2:Int)]) a.1 j2 j4
     refine⟨o3,V,?_⟩
     cases hn:iN (aN ts q.1.1) (4,0,op,⟨#[]⟩,[(q.2:Int),(a.2:Int)]) a.1<;>rw[hn] at D<;>exact D
   have t:=op_1 (ts:=ts) (i:=q.1.1)
   rcases dJ (bX ts 4 ⟨#[60]⟩ q.1.1) with f|f
   .simp only[f,jE] at t
    obtain⟨o4,D,E⟩:=go 6 (by decide) t
    simp only[f,jE,j0]
    exact⟨o4,D,by simpa only[bF] using E⟩
   rcases dJ (bX ts 4 ⟨#[61,61]⟩ q.1.1) with n|n
   .simp only[f,n,jE,j9,jC] at t
    obtain⟨o4,D,E⟩:=go 7 (by decide) t
    simp only[f,n,jE,j0,j9,jC,nT q.1 B F]
    exact⟨o4,D,by simpa only[bF] using E⟩
   simp only[f,n,j9,jC] at t
   simp only[f,n,j0,j9,jC,nT q.1 B F]
   rw[if_pos t]
   exact⟨_,rfl,rfl⟩
 have c1':bX ts 1 ⟨#[105,102]⟩ p.1=true:=s
 have g:=iZ A K (by decide) s
 simp only[s,c1',jE]
 -- behind an error
 have badN:∀{z:cF} {i:Nat} {pr':List BA} {b:List Ex} (x y w:Int),z.2≠0->i<ts.length->∃o,((iG N (bR ts z i pr' b) (5,0,0,⟨#[]⟩,[x,y,w]) (aN ts p.1).2.2.2).bind fun b6=>some b6)=some o/\eW ts pr (.inl z) o:=by
  intro z i pr' b x y w e hi
  simp only[oP]
  exact CG e hi _ _
 have nf:∀b:Bool,(if(!b)=true then(0:Nat) else 1)=if b=true then 1 else 0:=by intro b;cases b<;>rfl
 obtain⟨oa,a7,B⟩:=H (p.1+1,p.2) g M
 simp only[a7,j0]
 cases ha:dR ts pr k (p.1+1,p.2) with
 |inl z=>
  rw[ha] at B
  obtain⟨e,i,pr',b,hi,l⟩:=B
  obtain⟨v,t⟩:=u z i pr' b e hi
  simp only[l,PX e,j0,kC,jE,qA hi,qM e,t,bF]
  exact badN _ _ _ e hi
 |inr a=>
  rw[ha] at B
  obtain⟨⟨a1,E,a3,R⟩,a5⟩:=S (p.1+1,p.2) a.1 a.2 g M ha
  have hra':oa=(gR ts pr a.1,(a.2:Int)):=B
  have b0:qQ ts HY a.1.1=if bX ts 1 ⟨#[116,104,101,110]⟩ a.1.1=true then .inr (a.1.1+1) else dN (aN ts a.1.1) 9:=rfl
  simp only[hra',pI a.1 E F,j0,bF,b0]
  rcases dJ (bX ts 1 ⟨#[116,104,101,110]⟩ a.1.1) with f|f
  rotate_left
  .have e:(((aN ts a.1.1).2.2.2,(9:Int)):cF).2≠0:=show(9:Int)≠0 by decide
   obtain⟨v,t⟩:=u ((aN ts a.1.1).2.2.2,9) a.1.1 pr a.1.2 e E
   simp only[f,j9,jC,kC,jE,lA a.1 E,nK,j0,t,PX e,qA E,qM e,dN]
   exact badN _ _ _ e E
  have V:=iZ A E (by decide) f
  obtain⟨ob,a8,D⟩:=H (a.1.1+1,a.1.2) V R
  simp only[f,jE,jP,j9,jC,j0,a8]
  cases hb1:dR ts pr k (a.1.1+1,a.1.2) with
  |inl z=>
   rw[hb1] at D
   obtain⟨e,i,pr',b,hi,l⟩:=D
   obtain⟨v,t⟩:=u z i pr' b e hi
   simp only[l,PX e,j0,kC,jE,qA hi,qM e,t]
   exact badN _ _ _ e hi
  |inr b=>
   rw[hb1] at D
   obtain⟨⟨b1,G,b3,U⟩,b5⟩:=S (a.1.1+1,a.1.2) b.1 b.2 V R hb1
   have hrb':ob=(gR ts pr b.1,(b.2:Int)):=D
   have a6:qQ ts HW b.1.1=if bX ts 1 ⟨#[101,108,115,101]⟩ b.1.1=true then .inr (b.1.1+1) else dN (aN ts b.1.1) 9:=rfl
   simp only[hrb',pI b.1 G F,j0,a6]
   rcases dJ (bX ts 1 ⟨#[101,108,115,101]⟩ b.1.1) with n|n
   rotate_left
   .have e:(((aN ts b.1.1).2.2.2,(9:Int)):cF).2≠0:=show(9:Int)≠0 by decide
    obtain⟨v,t⟩:=u ((aN ts b.1.1).2.2.2,9) b.1.1 pr b.1.2 e G
    simp only[n,j9,jC,kC,jE,lA b.1 G,nK,j0,t,dN]
    exact badN _ _ _ e G
   have Y:=iZ A G (by decide) n
   obtain⟨oc,a9,t⟩:=H (b.1.1+1,b.1.2) Y U
   simp only[n,jE,jP,j9,jC,j0,a9]
   cases hc1:dR ts pr k (b.1.1+1,b.1.2) with
   |inl z=>
    rw[hc1] at t
    obtain⟨e,i,pr',b',hi,l⟩:=t
    simp only[l]
    exact badN _ _ _ e hi
   |inr c=>
    rw[hc1] at t
    obtain⟨⟨s,f,n,e⟩,l⟩:=S (b.1.1+1,b.1.2) c.1 c.2 Y U hc1
    have hrc':oc=(gR ts pr c.1,(c.2:Int)):=t
    simp only[hrc',oP]
    exact yB (N:=N) (pr:=pr) (aN ts p.1) (5,0,0,⟨#[]⟩,[(a.2:Int),(b.2:Int),(c.2:Int)]) c.1 f e
end
section
variable {N:Nat} {ts:List bZ} {pr:List BA}
theorem OW(D:Nat)(c:1<=D)(d:Int)(z:cF)(i:Nat)(pr':List BA)(b:List Ex)(a:z.2≠0)(hi:i<ts.length):∃v,(eT N D).2.2.2 (bR ts z i pr' b) d=some (bR ts z i pr' b,v):=by
 obtain⟨D',rfl⟩:∃D',D=D'+1:=⟨D-1,by omega⟩
 simp only[eT]
 exact⟨_,qLw z i pr' b a hi⟩
theorem UF(D:Nat)(c:1<=D)(d:Int)(z:cF)(i:Nat)(pr':List BA)(b:List Ex)(a:z.2≠0)(hi:i<ts.length):∃v,(eT N D).1 (bR ts z i pr' b) d=some (bR ts z i pr' b,v):=by
 obtain⟨D',rfl⟩:∃D',D=D'+1:=⟨D-1,by omega⟩
 simp only[eT]
 exact⟨_,qIj a hi⟩
theorem YP(c:0<N)(D:Nat)(e:2<=D)(d:Int)(z:cF)(i:Nat)(pr':List BA)(b:List Ex)(a:z.2≠0)(hi:i<ts.length):∃v,(eT N D).2.1 (bR ts z i pr' b) d=some (bR ts z i pr' b,v):=by
 obtain⟨D',rfl⟩:∃D',D=D'+1:=⟨D-1,by omega⟩
 simp only[eT]
 exact qLr (fun z i pr' b a hi=>UF D' (by omega) d z i pr' b a hi) c z i pr' b a hi
theorem qMw(c:0<N)(D:Nat)(e:3<=D)(d:Int)(z:cF)(i:Nat)(pr':List BA)(b:List Ex)(a:z.2≠0)(hi:i<ts.length):∃v,(eT N D).2.2.1 (bR ts z i pr' b) d=some (bR ts z i pr' b,v):=by
 obtain⟨D',rfl⟩:∃D',D=D'+1:=⟨D-1,by omega⟩
 simp only[eT]
 exact qNn (fun z i pr' b a hi=>YP c D' (by omega) d z i pr' b a hi) c z i pr' b a hi
theorem YZ(a:OkT ts)(g:ts.length<1000000)(n:pr.length<1000)(l:1000002<N):∀(k D:Nat),k<=32->4*k+1<=D->∀p:Ps,p.1<ts.length->p.2.length<=256->
  ∃o,(eT N D).2.2.2 (gR ts pr p) (33-(k:Int))=some o/\eW ts pr (dR ts pr k p) o
 |0,0,_,h,_,_,_=>by omega
 |0,D+1,_,_,p,c,_=>by simp only[eT];exact qLy (by omega) p c
 |k+1,D,A,f,p,c,d=>by
  have q:=sQ (ts:=ts) (params:=pr) a k
  have s:=NH (params:=pr) a q
  have t:iS ts (HZ ts pr (dR ts pr k)):=xW a s
  have y:iS ts (tC ts pr (dR ts pr k)):=xW a t
  have r:∀D,4*k+1<=D->∀p:Ps,p.1<ts.length->p.2.length<=256->∃o,(eT N D).2.2.2 (gR ts pr p) (IntKind.wrap .i64 (32-(k:Int)+1))=some o/\eW ts pr (dR ts pr k p) o:=by
   intro D f p c d
   rw[bS (by omega) (by omega),show 32-(k:Int)+1=33-(k:Int) by omega]
   exact YZ a g n l k D (by omega) f p c d
  have u:∀D,4*k+2<=D->∀p:Ps,p.1<ts.length->p.2.length<=256->∃o,(eT N D).1 (gR ts pr p) (32-(k:Int))=some o/\eW ts pr (rD ts pr (dR ts pr k) p) o:=by
   intro D f p c d
   obtain⟨D',rfl⟩:∃D',D=D'+1:=⟨D-1,by omega⟩
   simp only[eT]
   exact qMo (r D' (by omega)) (fun z i pr' b e hi=>OW D' (by omega) _ z i pr' b e hi) a g n l q p c d
  have v:∀D,4*k+3<=D->∀p:Ps,p.1<ts.length->p.2.length<=256->∃o,(eT N D).2.1 (gR ts pr p) (32-(k:Int))=some o/\eW ts pr (HZ ts pr (dR ts pr k) p) o:=by
   intro D f p c d
   obtain⟨D',rfl⟩:∃D',D=D'+1:=⟨D-1,by omega⟩
   simp only[eT]
   exact qOh a g l s (u D' (by omega)) (fun z i pr' b e hi=>UF D' (by omega) _ z i pr' b e hi) p c d
  have x:∀D,4*k+4<=D->∀p:Ps,p.1<ts.length->p.2.length<=256->∃o,(eT N D).2.2.1 (gR ts pr p) (32-(k:Int))=some o/\eW ts pr (tC ts pr (dR ts pr k) p) o:=by
   intro D f p c d
   obtain⟨D',rfl⟩:∃D',D=D'+1:=⟨D-1,by omega⟩
   simp only[eT]
   exact rsum a g l t (v D' (by omega)) (fun z i pr' b e hi=>YP (by omega) D' (by omega) _ z i pr' b e hi) p c d
  obtain⟨D',rfl⟩:∃D',D=D'+1:=⟨D-1,by omega⟩
  rw[show(33:Int)-((k+1:Nat):Int)=32-(k:Int) by omega]
  simp only[eT]
  exact qOo a g (by omega) q y (r D' (by omega)) (fun z i pr' b e hi=>OW D' (by omega) _ z i pr' b e hi) (x D' (by omega)) (fun z i pr' b e hi=>qMw (by omega) D' (by omega) _ z i pr' b e hi) p c d
theorem qJn(a:OkT ts)(e:ts.length<1000000)(b:pr.length<1000)(c:1000002<N)(p:Ps)(f:p.1<ts.length)(d:p.2.length<=256):
 ∃o,uT N (gR ts pr p) 1=some o/\eW ts pr (dR ts pr 32 p) o:=YZ a e b c 32 N (by omega) (by omega) p f d
theorem OM(a:1<=N)(z:cF)(i:Nat)(pr':List BA)(b:List Ex)(c:z.2≠0)(hi:i<ts.length):∃v,uT N (bR ts z i pr' b) 1=some (bR ts z i pr' b,v):=OW N a 1 z i pr' b c hi
abbrev RL:=List bZ×Int×Int×Int×List BA×List Ex×List Int×List BA
def bT(st:RT)(l:List BA):RL:=(st.1,st.2.1,st.2.2.1,st.2.2.2.1,st.2.2.2.2.1,st.2.2.2.2.2.1,st.2.2.2.2.2.2,l)
def HO(ts:List bZ)(n:Nat)(l:List BA)(i:Nat):cF⊕(Nat×List BA):=
 if bX ts 4 oT i then sS ts n l (i+1) else bF (dG ts iP i) fun j=> .inr (j,l)
theorem qHd(n:Nat)(l:List BA)(i:Nat):sS ts (n+1) l i=bF (lG ts i) fun a=>if l.length=8 then dN a.2 2 else if a.2.2.1∈l then dN a.2 10 else HO ts n (l++[a.2.2.1]) a.1:=rfl
def DD(ts:List bZ)(pr:List BA)(b:List Ex)(r:cF⊕(Nat×List BA))(o:RL):Prop:=
 match r with
 | .inl z=>∃st l,rK ts z st/\o=bT st l
 | .inr q=>o=bT (gR ts pr (q.1,b)) q.2
theorem GO{z:cF}{i:Nat}{pr':List BA}{b:List Ex}(a:z.2≠0)(M:Nat)(l:List BA):aK (mP N) (M+1) (bT (bR ts z i pr' b) l)=some (bT (bR ts z i pr' b) l):=by
 have hz':((bT (bR ts z i pr' b) l).2.2.2.1==0)=false:=by simpa[bR,bT] using a
 simp only[aK,mP,hz',j9,jC,j0]
theorem UJ(A:ts.length<1000000)(E:1000002<N){i:Nat}{b:List Ex}{l:List BA}(hi:i<ts.length)(D:l.length<=8){G:RL->Option RL}{n:Nat}
  (f:∀(z:cF) (i:Nat) (pr':List BA) (b:List Ex) (l:List BA),z.2≠0->G (bT (bR ts z i pr' b) l)=some (bT (bR ts z i pr' b) l))
  (u:OkT ts)
  (B:∀(s:BA),i+1<ts.length->l.length<8->∃o,G (bT (gR ts pr (i+1,b)) (l++[s]))=some o/\DD ts pr b (HO ts n (l++[s]) (i+1)) o):
  ∃o,((eO N (gR ts pr (i,b))).bind fun k=>(mD N k.1).bind fun d=>(if((l.length:Int)==8)=true then((eU N d.1 k.2.2.2.2 2).bind fun v=>some v) else(some d.1):Option RT).bind fun r=>(pU N l d.2).bind fun p=>(if p=true then((eU N r k.2.2.2.2 10).bind fun y=>some y) else(some r):Option RT).bind fun h=>(dY 16 l ([d.2])).bind fun t=>G (bT h t))=some o/\
   DD ts pr b (sS ts (n+1) l i) o:=by
 rw[qHd]
 simp only[lA (i,b) hi,j0,CM (i,b) hi A (by omega:100<N),oP]
 have c:∀s:BA,dY 16 l [s]=some (l++[s]):=fun s=>iB (by simp only[jA,jB];omega) (by omega)
 have g:∀s,pU N l s=some (decide (s∈l)):=fun s=>QW (by omega) (by omega)
 -- behind an error
 have q:∀(z:cF) (i:Nat) (pr':List BA) (b':List Ex) (s:BA) (a:Int),z.2≠0->i<ts.length->∃o,((pU N l s).bind fun p=>(if p=true then eU N (bR ts z i pr' b') a 10 else(some (bR ts z i pr' b')):Option RT).bind fun h=>(dY 16 l ([s])).bind fun t=>G (bT h t))=some o/\DD ts pr b (.inl z) o:=by
  intro z i pr' b' s a e hi
  simp only[g,j0,qM e]
  have:((if decide (s∈l)=true then some (bR ts z i pr' b') else some (bR ts z i pr' b')):Option RT)=some (bR ts z i pr' b'):=by split<;>rfl
  simp only[this,j0,c,f _ _ _ _ _ e]
  exact⟨_,rfl,bR ts z i pr' b',_,⟨e,i,pr',b',hi,rfl⟩,rfl⟩
 cases hx:lG ts i with
 |inl z=>
  have e:=LR hx
  have:((if((l.length:Int)==8)=true then eU N (bR ts z i pr b) (aN ts i).2.2.2 2 else some (bR ts z i pr b)):Option RT)=some (bR ts z i pr b):=by
   rw[qM e];split<;>rfl
  simp only[this,j0,bF]
  exact q z i pr b _ _ e hi
 |inr x=>
  obtain⟨rfl,e,-⟩:=pV u hi hx
  simp only[bF]
  by_cases k1:l.length=8
  .have k1':((l.length:Int)==8)=true:=by simp;omega
   rw[if_pos k1]
   simp only[k1',jE,nK,j0,dN]
   exact q _ _ _ _ _ _ (show(2:Int)≠0 by decide) e
  have k1':((l.length:Int)==8)=false:=by simp;omega
  rw[if_neg k1]
  simp only[k1',j9,jC,j0,g]
  by_cases k2:(aN ts i).2.1∈l
  .rw[if_pos k2]
   simp only[jL k2,jE,nK,j0,c,dN]
   refine⟨_,f _ _ _ _ _ (show(10:Int)≠0 by decide),bR ts ((aN ts i).2.2.2,10) (i+1) pr b,_,⟨show(10:Int)≠0 by decide,i+1,pr,b,e,rfl⟩,rfl⟩
  rw[if_neg k2]
  simp only[jS k2,j9,jC,j0,c]
  exact B _ e (by omega)
theorem qFm(x:1000002<N){b:List Ex}{l:List BA}(v:l.length<=8){G:RL->Option RL}
  (g:∀(z:cF) (i:Nat) (pr':List BA) (b:List Ex) (l:List BA),z.2≠0->G (bT (bR ts z i pr' b) l)=some (bT (bR ts z i pr' b) l))
  {z:cF} {i:Nat} {pr':List BA} {b':List Ex} (d:z.2≠0) (hi:i<ts.length):
  ∃o,((eO N (bR ts z i pr' b')).bind fun c=>(mD N c.1).bind fun a=>(if((l.length:Int)==8)=true then((eU N a.1 c.2.2.2.2 2).bind fun n=>some n) else(some a.1):Option RT).bind fun e=>(pU N l a.2).bind fun p=>(if p=true then((eU N e c.2.2.2.2 10).bind fun q=>some q) else(some e):Option RT).bind fun k=>(dY 16 l ([a.2])).bind fun u=>G (bT k u))=some o/\
   DD ts pr b (.inl z) o:=by
 have f:∀s:BA,dY 16 l [s]=some (l++[s]):=fun s=>iB (by simp only[jA,jB];omega) (by omega)
 have h:∀s,pU N l s=some (decide (s∈l)):=fun s=>QW (by omega) (by omega)
 have r:((if((l.length:Int)==8)=true then some (bR ts z i pr' b') else some (bR ts z i pr' b')):Option RT)=some (bR ts z i pr' b'):=by split<;>rfl
 have t:((if decide ((⟨#[]⟩:BA)∈l)=true then some (bR ts z i pr' b') else some (bR ts z i pr' b')):Option RT)=some (bR ts z i pr' b'):=by split<;>rfl
 simp only[qA hi,j0,LX d hi,oP,qM d,r,h,t,f,g _ _ _ _ _ d]
 exact⟨_,rfl,bR ts z i pr' b',_,⟨d,i,pr',b',hi,rfl⟩,rfl⟩
theorem TC(d:OkT ts)(e:ts.length<1000000)(k:1000002<N){b:List Ex}:∀(n M:Nat) (l:List BA) (i:Nat),l≠[]->i<ts.length->l.length<=8->ts.length<i+n->ts.length+2<i+M->
  ∃o,aK (mP N) M (bT (gR ts pr (i,b)) l)=some o/\DD ts pr b (HO ts n l i) o
 |0,M,l,i,_,hi,_,h,_=>by omega
 |n+1,0,l,i,_,hi,_,_,h=>by omega
 |n+1,M+1,l,i,v,hi,f,H,F=>by
  have D:=nT (N:=N) (pr:=pr) (i,b) hi e ⟨#[41]⟩
  have q:decide ((l.length:Int)>0)=true:=by
   have:=fJ.2 v
   exact jL (by omega)
  have A:((bT (gR ts pr (i,b)) l).2.2.2.1==0)=true:=rfl
  have x:∀st:RT,∀l,((bT st l).1,(bT st l).2.1,(bT st l).2.2.1,(bT st l).2.2.2.1,(bT st l).2.2.2.2.1,(bT st l).2.2.2.2.2.1,(bT st l).2.2.2.2.2.2.1)=st:=fun _ _=>rfl
  have y:∀st:RT,∀l,(bT st l).2.2.2.2.2.2.2=l:=fun _ _=>rfl
  simp only[aK,mP,A,jE,x,y,D,j0,q]
  rcases dJ (bX ts 4 ⟨#[41]⟩ i) with a|a
  .simp only[a,jE,jP,j9,jC]
   refine⟨_,rfl,?_⟩
   have c:bX ts 4 oT i=false:=by
    simp only[bX,jR,j6] at a
    simp[bX,a.2,oT]
   have p:dG ts iP i= .inr (i+1):=by simp[dG,iP,a]
   simp only[HO,c,j9,jC,p,bF]
   rfl
  have u:bX ts 4 oT i=bX ts 4 ⟨#[44]⟩ i:=rfl
  simp only[a,j9,jC,kC,jE,Prod.eta,qO (i,b) hi e,j0,HO,u,dG]
  rcases dJ (bX ts 4 ⟨#[44]⟩ i) with c|c
  .have g:=iZ d hi (by decide) c
   simp only[c,jE]
   obtain⟨o,p,r⟩:=UJ (N:=N) (pr:=pr) (b:=b) (l:=l) (n:=n) (G:=aK (mP N) M) e k g f (fun z i pr' b l t=>by
    obtain⟨M',rfl⟩:∃M',M=M'+1:=⟨M-1,by omega⟩
    exact GO t M' l) d (fun s B E=>TC d e k n M (l++[s]) (i+1+1) (by simp) B (by simp only[jF,jA,jB];omega) (by omega) (by omega))
   refine⟨o,Eq.trans ?_ p,r⟩
   simp only[gP,j0]
   rfl
  have c1':bX ts 4 iP i=false:=a
  simp only[c,c1',j9,jC,dN,bF]
  obtain⟨o,p,r⟩:=qFm (N:=N) (pr:=pr) (b:=b) (l:=l) (z:=((aN ts i).2.2.2,9)) (i:=i) (pr':=pr) (b':=b) (G:=aK (mP N) M) k f (fun z i pr' b l t=>by
   obtain⟨M',rfl⟩:∃M',M=M'+1:=⟨M-1,by omega⟩
   exact GO t M' l) (show(9:Int)≠0 by decide) hi
  refine⟨o,Eq.trans ?_ p,r⟩
  simp only[gP,j0]
  rfl
theorem qLf(a:OkT ts)(d:ts.length<1000000)(x:1000005<N){b:List Ex}(i:Nat)(hi:i<ts.length):
  ∃o,aK (mP N) N (bT (gR ts pr (i,b)) [])=some o/\DD ts pr b (if bX ts 4 iP i then .inr (i+1,[]) else sS ts (ts.length+1) [] i) o:=by
 obtain⟨M,hM⟩:∃M,N=M+1:=⟨N-1,by omega⟩
 have t:=nT (N:=N) (pr:=pr) (i,b) hi d ⟨#[41]⟩
 have k:((bT (gR ts pr (i,b)) []).2.2.2.1==0)=true:=rfl
 have e:decide ((([]:List BA).length:Int)>0)=false:=rfl
 have g:∀st:RT,∀l,((bT st l).1,(bT st l).2.1,(bT st l).2.2.1,(bT st l).2.2.2.1,(bT st l).2.2.2.2.1,(bT st l).2.2.2.2.2.1,(bT st l).2.2.2.2.2.2.1)=st:=fun _ _=>rfl
 have h:∀st:RT,∀l,(bT st l).2.2.2.2.2.2.2=l:=fun _ _=>rfl
 have f:aK (mP N) N (bT (gR ts pr (i,b)) [])=aK (mP N) (M+1) (bT (gR ts pr (i,b)) []):=by rw[<-hM]
 rw[f]
 simp only[aK,mP,k,jE,g,h,t,j0,e,iP]
 rcases dJ (bX ts 4 ⟨#[41]⟩ i) with c|c
 .simp only[c,jE,jP,j9,jC]
  exact⟨_,rfl,rfl⟩
 simp only[c,j9,jC,kC,jE,Prod.eta,j0]
 obtain⟨o,q,r⟩:=UJ (N:=N) (pr:=pr) (b:=b) (l:=[]) (n:=ts.length) (G:=aK (mP N) M) d (by omega) hi (by simp) (fun z i pr' b l u=>by
  obtain⟨M',rfl⟩:∃M',M=M'+1:=⟨M-1,by omega⟩
  exact GO u M' l) a (fun s p v=>TC a d (by omega) ts.length M ([]++[s]) (i+1) (by simp) p (by simp) (by omega) (by omega))
 refine⟨o,Eq.trans ?_ q,r⟩
 simp only[gP,j0]
 rfl
end
section
variable {N:Nat} {ts:List bZ} {pr:List BA}
def IH(ts:List bZ)(r:cF⊕(Nat×Dl))(o:RT×Dl):Prop:=
 match r with
 | .inl z=>rK ts z o.1
 | .inr a=>o=(gR ts a.2.2.2.1 (a.1,a.2.2.2.2),a.2)
def sR(N:Nat)(st:RT)(k:Int)(nm:BA):Option (RT×Dl):=
 ((if(k==1)=true then((eN N st (⟨#[40]⟩:BA)).bind fun a=>aK (mP N) N (bT a [])) else(some (bT st [])):Option RL)).bind fun a=>
 (eN N (a.1,a.2.1,a.2.2.1,a.2.2.2.1,a.2.2.2.2.2.2.2,a.2.2.2.2.2.1,a.2.2.2.2.2.2.1) (⟨#[61]⟩:BA)).bind fun b=>
 (uT N b 1).bind fun b=>(eN N b.1 (⟨#[59]⟩:BA)).bind fun b=>some (b,(k,nm,a.2.2.2.2.2.2.2,b.2.2.2.2.2.1))
theorem OI(h:1000005<N){z:cF}{i:Nat}{b:List Ex}(a:z.2≠0)(hi:i<ts.length)(k:Int)(nm:BA):∃o,sR N (bR ts z i pr b) k nm=some o/\rK ts z o.1:=by
 have tail:∀(i:Nat) (pr:List BA) (b:List Ex) (l:List BA),i<ts.length->∃o,((eN N ((bT (bR ts z i pr b) l).1,(bT (bR ts z i pr b) l).2.1,(bT (bR ts z i pr b) l).2.2.1,(bT (bR ts z i pr b) l).2.2.2.1,(bT (bR ts z i pr b) l).2.2.2.2.2.2.2,(bT (bR ts z i pr b) l).2.2.2.2.2.1,(bT (bR ts z i pr b) l).2.2.2.2.2.2.1) (⟨#[61]⟩:BA)).bind fun f=>
   (uT N f 1).bind fun g=>(eN N g.1 (⟨#[59]⟩:BA)).bind fun d=>some (d,(k,nm,(bT (bR ts z i pr b) l).2.2.2.2.2.2.2,d.2.2.2.2.2.1)))=some o/\rK ts z o.1:=by
  intro i pr b l hi
  have e:((bT (bR ts z i pr b) l).1,(bT (bR ts z i pr b) l).2.1,(bT (bR ts z i pr b) l).2.2.1,(bT (bR ts z i pr b) l).2.2.2.1,(bT (bR ts z i pr b) l).2.2.2.2.2.2.2,(bT (bR ts z i pr b) l).2.2.2.2.2.1,(bT (bR ts z i pr b) l).2.2.2.2.2.2.1)=bR ts z i l b:=rfl
  obtain⟨v,d⟩:=OM (N:=N) (by omega) z i l b a hi
  simp only[e,pX a hi,j0,d]
  exact⟨_,rfl,a,i,l,b,hi,rfl⟩
 obtain⟨M,hM⟩:∃M,N=M+1:=⟨N-1,by omega⟩
 have g:aK (mP N) N (bT (bR ts z i pr b) [])=some (bT (bR ts z i pr b) []):=by
  have d:aK (mP N) N (bT (bR ts z i pr b) [])=aK (mP N) (M+1) (bT (bR ts z i pr b) []):=by rw[<-hM]
  rw[d];exact GO a M []
 unfold sR
 rcases dJ (k==1) with c|c
 .simp only[c,jE,pX a hi,j0,g]
  exact tail i pr b [] hi
 simp only[c,j9,jC,j0]
 exact tail i pr b [] hi
theorem qHr(d:OkT ts)(h:ts.length<1000000)(x:1000005<N)(i:Nat)(hi:i<ts.length)(k:Int)(nm:BA):∃o,sR N (gR ts pr (i,[])) k nm=some o/\
  IH ts (bF (if k=1 then qY ts i else .inr (i,[])) fun bq=>bF (dG ts wM bq.1) fun j=>bF (dR ts bq.2 32 (j,[])) fun c=>bF (dG ts qC c.1.1) fun m=> .inr (m,(k,nm,bq.2,c.1.2))) o:=by
 have badt:∀(z:cF) (st:RT) (l:List BA),rK ts z st->∃o,((eN N ((bT st l).1,(bT st l).2.1,(bT st l).2.2.1,(bT st l).2.2.2.1,(bT st l).2.2.2.2.2.2.2,(bT st l).2.2.2.2.2.1,(bT st l).2.2.2.2.2.2.1) (⟨#[61]⟩:BA)).bind fun n=>
   (uT N n 1).bind fun g=>(eN N g.1 (⟨#[59]⟩:BA)).bind fun f=>some (f,(k,nm,(bT st l).2.2.2.2.2.2.2,f.2.2.2.2.2.1)))=some o/\rK ts z o.1:=by
  rintro z st l ⟨a,i,pr,b,hi,rfl⟩
  have e:((bT (bR ts z i pr b) l).1,(bT (bR ts z i pr b) l).2.1,(bT (bR ts z i pr b) l).2.2.1,(bT (bR ts z i pr b) l).2.2.2.1,(bT (bR ts z i pr b) l).2.2.2.2.2.2.2,(bT (bR ts z i pr b) l).2.2.2.2.2.1,(bT (bR ts z i pr b) l).2.2.2.2.2.2.1)=bR ts z i l b:=rfl
  obtain⟨v,p⟩:=OM (N:=N) (by omega) z i l b a hi
  simp only[e,pX a hi,j0,p]
  exact⟨_,rfl,a,i,l,b,hi,rfl⟩
 have goodt:∀(q:Nat×List BA),q.1<ts.length->q.2.length<=8->∃o,((eN N ((bT (gR ts pr (q.1,[])) q.2).1,(bT (gR ts pr (q.1,[])) q.2).2.1,(bT (gR ts pr (q.1,[])) q.2).2.2.1,(bT (gR ts pr (q.1,[])) q.2).2.2.2.1,(bT (gR ts pr (q.1,[])) q.2).2.2.2.2.2.2.2,(bT (gR ts pr (q.1,[])) q.2).2.2.2.2.2.1,(bT (gR ts pr (q.1,[])) q.2).2.2.2.2.2.2.1) (⟨#[61]⟩:BA)).bind fun n=>
   (uT N n 1).bind fun g=>(eN N g.1 (⟨#[59]⟩:BA)).bind fun f=>some (f,(k,nm,(bT (gR ts pr (q.1,[])) q.2).2.2.2.2.2.2.2,f.2.2.2.2.2.1)))=some o/\
   IH ts (bF (dG ts wM q.1) fun j=>bF (dR ts q.2 32 (j,[])) fun c=>bF (dG ts qC c.1.1) fun m=> .inr (m,(k,nm,q.2,c.1.2))) o:=by
  intro q g A
  have e:((bT (gR ts pr (q.1,[])) q.2).1,(bT (gR ts pr (q.1,[])) q.2).2.1,(bT (gR ts pr (q.1,[])) q.2).2.2.1,(bT (gR ts pr (q.1,[])) q.2).2.2.2.1,(bT (gR ts pr (q.1,[])) q.2).2.2.2.2.2.2.2,(bT (gR ts pr (q.1,[])) q.2).2.2.2.2.2.1,(bT (gR ts pr (q.1,[])) q.2).2.2.2.2.2.2.1)=gR ts q.2 (q.1,[]):=rfl
  have u:(bT (gR ts pr (q.1,[])) q.2).2.2.2.2.2.2.2=q.2:=rfl
  rw[e]
  simp only[u,qO (q.1,[]) g h,j0,wM]
  cases hj:dG ts ⟨#[61]⟩ q.1 with
  |inl z=>
   have a:=pH hj
   obtain⟨v,p⟩:=OM (N:=N) (by omega) z q.1 q.2 [] a g
   simp only[p,j0,pX a g,bF]
   exact⟨_,rfl,a,q.1,q.2,[],g,rfl⟩
  |inr j=>
   obtain⟨rfl,r,-⟩:=iT d g hj
   obtain⟨o,s,f⟩:=qJn (N:=N) (pr:=q.2) d h (by omega) (by omega) (q.1+1,[]) r (by simp)
   simp only[s,j0,bF]
   cases hc:dR ts q.2 32 (q.1+1,[]) with
   |inl z=>
    rw[hc] at f
    obtain⟨a,i,pr',b,hi,p⟩:=f
    simp only[p,pX a hi,j0]
    exact⟨_,rfl,a,i,pr',b,hi,rfl⟩
   |inr c=>
    rw[hc] at f
    obtain⟨⟨B,p,t,D⟩,-⟩:=sQ d 32 (q.1+1,[]) c.1 c.2 r (by simp) hc
    have hr':o=(gR ts q.2 c.1,(c.2:Int)):=f
    simp only[hr',qO c.1 p h,j0,qC]
    cases y:dG ts ⟨#[59]⟩ c.1.1 with
    |inl z=>exact⟨_,rfl,pH y,c.1.1,q.2,c.1.2,p,rfl⟩
    |inr m=>exact⟨_,rfl,rfl⟩
 unfold sR
 by_cases c:k=1
 .have c':(k==1)=true:=by simpa using c
  simp only[c',jE,qO (i,[]) hi h,j0,if_pos c,qY,mY]
  cases h1:dG ts ⟨#[40]⟩ i with
  |inl z=>
   have a:=pH h1
   obtain⟨M,hM⟩:∃M,N=M+1:=⟨N-1,by omega⟩
   have u:aK (mP N) N (bT (bR ts z i pr []) [])=some (bT (bR ts z i pr []) []):=by
    have r:aK (mP N) N (bT (bR ts z i pr []) [])=aK (mP N) (M+1) (bT (bR ts z i pr []) []):=by rw[<-hM]
    rw[r];exact GO a M []
   simp only[u,j0,bF]
   exact badt z _ [] ⟨a,i,pr,[],hi,rfl⟩
  |inr j=>
   obtain⟨rfl,a,-⟩:=iT d hi h1
   obtain⟨o,s,f⟩:=qLf (N:=N) (pr:=pr) (b:=[]) d h x (i+1) a
   simp only[s,j0,bF]
   cases hP:(if bX ts 4 iP (i+1)=true then .inr (i+1+1,[]) else sS ts (ts.length+1) [] (i+1):cF⊕(Nat×List BA)) with
   |inl z=>
    rw[hP] at f
    obtain⟨st,l,r,rfl⟩:=f
    exact badt z st l r
   |inr q=>
    rw[hP] at f
    have hr':o=bT (gR ts pr (q.1,[])) q.2:=f
    have g:q.1<ts.length/\q.2.length<=8:=by
     split at hP
     .rename_i hc
      obtain rfl:=Sum.inr.inj hP
      exact⟨iZ d a (by decide) hc,by simp⟩
     obtain⟨_,p,t⟩:=NJ d _ _ _ q a (by simp) hP
     exact⟨p,t⟩
    rw[hr']
    exact goodt q g.1 g.2
 have c':(k==1)=false:=by simpa using c
 simp only[c',j9,jC,j0,if_neg c]
 exact goodt (i,[]) hi (by simp)
def HH(N:Nat)(f:Sr)(t:bZ)(st:RT)(k:Int):Option (RT×Dl):=
 ((if((List.length f.2.2:Int)==64)=true then eU N st t.2.2.2 2 else some st):Option RT).bind fun o2=>(eO N o2).bind fun b=>
 ((if(k==3)=true then oQ N b.1 true else mD N b.1):Option (RT×BA)).bind fun a=>
 ((if(a.1.2.2.2.1==0)=true then vD N f k a.2 else some false):Option Bool).bind fun o4=>
 ((if o4=true then eU N a.1 b.2.2.2.2 10 else some a.1):Option RT).bind fun b=>sR N b k a.2
theorem qHh(g:1000005<N){f:Sr}{t:bZ}{z:cF}{i:Nat}{b:List Ex}(c:z.2≠0)(hi:i<ts.length)(k:Int):∃o,
  ((eO N (bR ts z i pr b)).bind fun d=>((if(k==3)=true then oQ N d.1 true else mD N d.1):Option (RT×BA)).bind fun a=>
   ((if(a.1.2.2.2.1==0)=true then vD N f k a.2 else some false):Option Bool).bind fun o4=>
   ((if o4=true then eU N a.1 d.2.2.2.2 10 else some a.1):Option RT).bind fun h=>sR N h k a.2)=some o/\rK ts z o.1:=by
 have hz':((bR ts z i pr b).2.2.2.1==0)=false:=by simpa[bR] using c
 have e:((if(k==3)=true then oQ N (bR ts z i pr b) true else mD N (bR ts z i pr b)):Option (RT×BA))=some (bR ts z i pr b,⟨#[]⟩):=by
  rw[PZ c hi,LX c hi];split<;>rfl
 simp only[qA hi,j0,e,hz',j9,jC]
 exact OI g c hi k _
theorem qHj(h:OkT ts)(p:ts.length<1000000)(n:1000005<N){f:Sr}(r:f.2.2.length<=64)(t:bZ)(i:Nat)(hi:i<ts.length)(k:Int):∃o,HH N f t (gR ts pr (i,[])) k=some o/\
  IH ts (if f.2.2.length=64 then dN t 2 else bF (if k=3 then lZ ts i else lG ts i) fun a=>
   if f.2.2.any (fun d=>d.1==k&&decide (d.2.1=a.2.2.1)) then dN a.2 10
   else bF (if k=1 then qY ts a.1 else .inr (a.1,[])) fun b=>
    bF (dG ts wM b.1) fun j=>bF (dR ts b.2 32 (j,[])) fun c=>
    bF (dG ts qC c.1.1) fun m=> .inr (m,(k,a.2.2.1,b.2,c.1.2))) o:=by
 unfold HH
 by_cases k1:f.2.2.length=64
 .have k1':((f.2.2.length:Int)==64)=true:=by simp;omega
  rw[if_pos k1]
  simp only[k1',jE,nK,j0,dN]
  exact qHh (t:=t) n (show(2:Int)≠0 by decide) hi k
 have k1':((f.2.2.length:Int)==64)=false:=by simp;omega
 rw[if_neg k1]
 simp only[k1',j9,jC,j0,lA (i,[]) hi]
 have e:((if(k==3)=true then oQ N (gR ts pr (i,[])) true else mD N (gR ts pr (i,[]))):Option (RT×BA))=
   some (match(if k=3 then lZ ts i else lG ts i) with| .inl z=>(bR ts z i pr [],⟨#[]⟩)| .inr a=>(gR ts pr (a.1,[]),a.2.2.1)):=by
  by_cases k3:k=3
  .have k3':(k==3)=true:=by simpa using k3
   rw[if_pos k3',if_pos k3,PY (i,[]) hi p (by omega)]<;>rfl
  have k3':(k==3)=false:=by simpa using k3
  rw[if_neg (by rw[k3'];decide),if_neg k3,CM (i,[]) hi p (by omega)]<;>rfl
 rw[e]
 simp only[j0]
 cases hX:(if k=3 then lZ ts i else lG ts i) with
 |inl z=>
  have g:z.2≠0:=by
   split at hX
   .exact LN hX
   exact LR hX
  have hz':((bR ts z i pr []).2.2.2.1==0)=false:=by simpa[bR] using g
  simp only[hz',j9,jC,j0,bF]
  exact OI n g hi k _
 |inr a=>
  have ga:a=(i+1,aN ts i)/\i+1<ts.length:=by
   split at hX
   .obtain⟨e,g,-⟩:=qZ h hi hX;exact⟨e,g⟩
   obtain⟨e,g,-⟩:=pV h hi hX;exact⟨e,g⟩
  obtain⟨rfl,g⟩:=ga
  have q:((gR ts pr (i+1,[])).2.2.2.1==0)=true:=rfl
  simp only[q,jE,qNj (N:=N) (f:=f) (k:=k) (s:=(aN ts i).2.1) (by omega) (by omega),j0]
  rw[show bF (Sum.inr (i+1,aN ts i)) (fun a:Nat×bZ=>if f.2.2.any (fun d=>d.1==k&&decide (d.2.1=a.2.2.1))=true then dN a.2 10
   else bF (if k=1 then qY ts a.1 else .inr (a.1,[])) fun b=>
    bF (dG ts wM b.1) fun j=>bF (dR ts b.2 32 (j,[])) fun c=>
    bF (dG ts qC c.1.1) fun m=>(.inr (m,(k,a.2.2.1,b.2,c.1.2)):cF⊕(Nat×Dl)))=(if f.2.2.any (fun d=>d.1==k&&decide (d.2.1=(aN ts i).2.1))=true then dN (aN ts i) 10
   else bF (if k=1 then qY ts (i+1) else .inr (i+1,[])) fun b=>
    bF (dG ts wM b.1) fun j=>bF (dR ts b.2 32 (j,[])) fun c=>
    bF (dG ts qC c.1.1) fun m=>(.inr (m,(k,(aN ts i).2.1,b.2,c.1.2)):cF⊕(Nat×Dl))) from rfl]
  rcases dJ (f.2.2.any fun d=>d.1==k&&decide (d.2.1=(aN ts i).2.1)) with l|l
  .rw[if_pos l]
   simp only[l,jE,nK,j0,dN]
   exact OI n (show(10:Int)≠0 by decide) g k _
  rw[if_neg (by rw[l];decide)]
  simp only[l,j9,jC,j0]
  exact qHr h p n (i+1) g k _
end
section
variable {N:Nat} {ts:List bZ} {pr:List BA}
abbrev RN:=List bZ×Int×Int×Int×List BA×List Ex×List Int×BA
def qAv(st:RT)(l:BA):RN:=(st.1,st.2.1,st.2.2.1,st.2.2.2.1,st.2.2.2.2.1,st.2.2.2.2.2.1,st.2.2.2.2.2.2,l)
theorem qOm(r:OkT ts)(p:ts.length<1000000)(B:1000005<N){f:Sr}(D:f.2.2.length<=64)(i:Nat)(b:List Ex)(hi:i<ts.length):∃o,DY N (gR ts pr (i,b)) f=some o/\IH ts (mZ ts f.2.2 i) o:=by
 have A:((gR ts pr (i,b)).1,(gR ts pr (i,b)).2.1,(gR ts pr (i,b)).2.2.1,(gR ts pr (i,b)).2.2.2.1,([]:List BA),([]:List Ex),(gR ts pr (i,b)).2.2.2.2.2.2)=gR ts [] (i,[]):=rfl
 have rest:∀(st:RT) (k:Int),(((if((List.length f.2.2:Int)==64)=true then((eU N st (aN ts i).2.2.2 2).bind fun F=>some F) else(some st)):Option RT).bind fun o2=>(eO N o2).bind fun q=>((if(k==3)=true then((oQ N q.1 true).bind fun y=>some (qAv y.1 y.2)) else((mD N q.1).bind fun z=>some (qAv z.1 z.2))):Option RN).bind fun a=>((if(a.2.2.2.1==0)=true then((vD N f k a.2.2.2.2.2.2.2).bind fun v=>some v) else(some false)):Option Bool).bind fun o4=>((if o4=true then((eU N (a.1,a.2.1,a.2.2.1,a.2.2.2.1,a.2.2.2.2.1,a.2.2.2.2.2.1,a.2.2.2.2.2.2.1) q.2.2.2.2 10).bind fun x=>some x) else(some (a.1,a.2.1,a.2.2.1,a.2.2.2.1,a.2.2.2.2.1,a.2.2.2.2.2.1,a.2.2.2.2.2.2.1))):Option RT).bind fun E=>sR N E k a.2.2.2.2.2.2.2)=HH N f (aN ts i) st k:=by
  intro st k
  unfold HH
  simp only[oP]
  refine congrArg _ (funext fun o2=>congrArg _ (funext fun q=> ?_))
  rcases dJ (k==3) with c|c<;>simp only[c,jE,j9,jC,gP,j0]<;>rfl
 have fin:∀(k:Int),k≠0->lD (aN ts i).2.1=k->(aN ts i).1=1->∃o,HH N f (aN ts i) (gR ts [] (i+1,[])) k=some o/\IH ts (mZ ts f.2.2 i) o:=by
  intro k u t d
  have g:=r.next hi (show(aN ts i).1≠5 by rw[d];decide)
  obtain⟨o,e,l⟩:=qHj (N:=N) (pr:=[]) r p B D (aN ts i) (i+1) g k
  refine⟨o,e,?_⟩
  unfold mZ
  dsimp only
  rw[t,if_neg (by rintro(h|h);exact h d;exact u h)]
  exact l
 simp only[DY,A,lA (i,[]) hi,j0,Prod.eta,pI (i,[]) hi p]
 by_cases d:(aN ts i).1=1
 .have n:∀s,bX ts 1 s i=decide ((aN ts i).2.1=s):=fun s=>XN d
  simp only[n]
  by_cases w1:(aN ts i).2.1=(⟨#[102,117,110,99]⟩:BA)
  .simp only[jL w1,jE,j0]
   obtain⟨o,e,l⟩:=fin 1 (by decide) (by rw[w1];rfl) d
   refine⟨o,Eq.trans ?_ e,l⟩
   refine Eq.trans ?_ (rest (gR ts [] (i+1,[])) 1)
   simp only[oP,sR]
   rfl
  simp only[jS w1,j9,jC,j0,pI (i,[]) hi p,n,Prod.eta]
  by_cases w2:(aN ts i).2.1=(⟨#[116,101,115,116]⟩:BA)
  .simp only[jL w2,jE,j0]
   obtain⟨o,e,l⟩:=fin 2 (by decide) (by rw[w2];rfl) d
   refine⟨o,Eq.trans ?_ e,l⟩
   refine Eq.trans ?_ (rest (gR ts [] (i+1,[])) 2)
   simp only[oP,sR]
   rfl
  simp only[jS w2,j9,jC,j0,pI (i,[]) hi p,n,Prod.eta]
  by_cases w3:(aN ts i).2.1=(⟨#[103,101,110]⟩:BA)
  .simp only[jL w3,jE,j0]
   obtain⟨o,e,l⟩:=fin 3 (by decide) (by rw[w3];rfl) d
   refine⟨o,Eq.trans ?_ e,l⟩
   refine Eq.trans ?_ (rest (gR ts [] (i+1,[])) 3)
   simp only[oP,sR]
   rfl
  simp only[jS w3,j9,jC,j0,nK,Prod.eta]
  refine⟨_,rfl,?_⟩
  have t:lD (aN ts i).2.1=0:=by
   unfold lD
   rw[if_neg (show ¬(aN ts i).2.1=IA from w1),if_neg (show ¬(aN ts i).2.1=HX from w2),if_neg (show ¬(aN ts i).2.1=IC from w3)]
  unfold mZ
  dsimp only
  rw[if_pos (.inr t)]
  exact⟨show(9:Int)≠0 by decide,i,[],[],hi,rfl⟩
 have n:∀s,bX ts 1 s i=false:=fun s=>qAd d
 simp only[n,j9,jC,j0,pI (i,[]) hi p,nK,Prod.eta]
 refine⟨_,rfl,?_⟩
 unfold mZ
 dsimp only
 rw[if_pos (.inl d)]
 exact⟨show(9:Int)≠0 by decide,i,[],[],hi,rfl⟩
def QY(ts:List bZ)(pr:List BA)(b:List Ex)(r:cF⊕(Nat×List BA))(o:RL):Prop:=
 match r with
 | .inl z=>∃st l,rK ts z st/\o=bT st l
 | .inr q=>o=bT (gR ts pr (q.1,b)) q.2
theorem TL{y5:RT×BA}{z:cF}{i:Nat}{pr':List BA}{b:List Ex}(a:z.2≠0)(M:Nat)(l:List BA):aK (oE N y5) (M+1) (bT (bR ts z i pr' b) l)=some (bT (bR ts z i pr' b) l):=by
 have hz':((bT (bR ts z i pr' b) l).2.2.2.1==0)=false:=by simpa[bR,bT] using a
 simp only[aK,oE,hz',j9,jC,j0]
theorem SW(k:OkT ts)(v:ts.length<1000000)(H:1000005<N){y5:RT×BA}{b:List Ex}:∀(n M:Nat) (l:List BA) (i:Nat),i<ts.length->l.length<=8->ts.length<i+n->ts.length+2<i+M->
  ∃o,aK (oE N y5) M (bT (gR ts pr (i,b)) l)=some o/\QY ts pr b (pW ts y5.2 n l i) o
 |0,M,l,i,hi,_,h,_=>by omega
 |n+1,0,l,i,hi,_,_,h=>by omega
 |n+1,M+1,l,i,hi,R,U,S=>by
  have G:((bT (gR ts pr (i,b)) l).2.2.2.1==0)=true:=rfl
  have E:∀st:RT,∀l,((bT st l).1,(bT st l).2.1,(bT st l).2.2.1,(bT st l).2.2.2.1,(bT st l).2.2.2.2.1,(bT st l).2.2.2.2.2.1,(bT st l).2.2.2.2.2.2.1)=st:=fun _ _=>rfl
  have F:∀st:RT,∀l,(bT st l).2.2.2.2.2.2.2=l:=fun _ _=>rfl
  have e:∀s:BA,dY 16 l [s]=some (l++[s]):=fun s=>iB (by simp only[jA,jB];omega) (by omega)
  have u:∀s,pU N l s=some (decide (s∈l)):=fun s=>QW (by omega) (by omega)
  have bad:∀(z:cF) (i:Nat) (pr':List BA) (b':List Ex) (l:List BA),z.2≠0->i<ts.length->∃o,aK (oE N y5) M (bT (bR ts z i pr' b') l)=some o/\QY ts pr b (.inl z) o:=by
   intro z i pr' b' l c hi
   obtain⟨M',rfl⟩:∃M',M=M'+1:=⟨M-1,by omega⟩
   exact⟨_,TL c M' l,_,_,⟨c,i,pr',b',hi,rfl⟩,rfl⟩
  -- from the import's name on, behind an error
  have badn:∀(z:cF) (i:Nat) (pr':List BA) (b':List Ex),z.2≠0->i<ts.length->∃o,((eO N (bR ts z i pr' b')).bind fun f=>(mD N f.1).bind fun a=>((if(a.1.2.2.2.1==0)=true then(if(a.2.toList==y5.2.toList)=true then(some true) else(pU N l a.2)) else(some false)):Option Bool).bind fun A=>((if A=true then eU N a.1 f.2.2.2.2 10 else some a.1):Option RT).bind fun B=>(eN N B (⟨#[59]⟩:BA)).bind fun r=>(dY 16 l ([a.2])).bind fun y=>aK (oE N y5) M (bT r y))=some o/\QY ts pr b (.inl z) o:=by
   intro z i pr' b' c hi
   have hz':((bR ts z i pr' b').2.2.2.1==0)=false:=by simpa[bR] using c
   simp only[qA hi,LX c hi,j0,hz',j9,jC,pX c hi,e]
   exact bad z i pr' b' _ c hi
  -- the step
  have step:aK (oE N y5) (M+1) (bT (gR ts pr (i,b)) l)=(if bX ts 1 yH i=true then
    ((if((l.length:Int)==8)=true then some (bR ts ((aN ts i).2.2.2,2) (i+1) pr b) else some (gR ts pr (i+1,b))):Option RT).bind fun st=>((eO N st).bind fun f=>(mD N f.1).bind fun a=>((if(a.1.2.2.2.1==0)=true then(if(a.2.toList==y5.2.toList)=true then(some true) else(pU N l a.2)) else(some false)):Option Bool).bind fun A=>((if A=true then eU N a.1 f.2.2.2.2 10 else some a.1):Option RT).bind fun B=>(eN N B (⟨#[59]⟩:BA)).bind fun r=>(dY 16 l ([a.2])).bind fun y=>aK (oE N y5) M (bT r y))
    else some (bT (gR ts pr (i,b)) l)):=by
   have K:bX ts 1 yH i=((aN ts i).1==1&&decide ((aN ts i).2.1=(⟨#[105,109,112,111,114,116]⟩:BA))):=rfl
   have D:=mI (show i<1000000 by omega)
   simp only[aK,oE,G,jE,E,F,lA (i,b) hi,j0,Prod.eta,lB,K]
   rcases dJ ((aN ts i).1==1) with d|d
   rotate_left
   .simp only[d,j9,jC,j0,dB]
    rfl
   rcases dJ (decide ((aN ts i).2.1=(⟨#[105,109,112,111,114,116]⟩:BA))) with p|p
   rotate_left
   .simp only[d,p,j9,jC,jE,j0,Bool.and_false]
    rfl
   simp only[d,p,jE,j0,dF]
   rcases dJ ((l.length:Int)==8) with q|q
   .simp only[q,jE,j0,lA (i,b) hi,nK,oP]
    have t:((bR ts ((aN ts i).2.2.2,2) i pr b).1,IntKind.wrap .i64 ((bR ts ((aN ts i).2.2.2,2) i pr b).2.1+1),(bR ts ((aN ts i).2.2.2,2) i pr b).2.2.1,(bR ts ((aN ts i).2.2.2,2) i pr b).2.2.2.1,(bR ts ((aN ts i).2.2.2,2) i pr b).2.2.2.2.1,(bR ts ((aN ts i).2.2.2,2) i pr b).2.2.2.2.2.1,(bR ts ((aN ts i).2.2.2,2) i pr b).2.2.2.2.2.2)=bR ts ((aN ts i).2.2.2,2) (i+1) pr b:=by
     show(ts,IntKind.wrap .i64 ((i:Int)+1),(aN ts i).2.2.2,(2:Int),pr,b,([]:List Int))=_
     rw[D];rfl
    rw[t]
    simp only[gP,j0]
    rfl
   simp only[q,j9,jC,j0,oP]
   have t:((gR ts pr (i,b)).1,IntKind.wrap .i64 ((gR ts pr (i,b)).2.1+1),(gR ts pr (i,b)).2.2.1,(gR ts pr (i,b)).2.2.2.1,(gR ts pr (i,b)).2.2.2.2.1,(gR ts pr (i,b)).2.2.2.2.2.1,(gR ts pr (i,b)).2.2.2.2.2.2)=gR ts pr (i+1,b):=by
    show(ts,IntKind.wrap .i64 ((i:Int)+1),(0:Int),(0:Int),pr,b,([]:List Int))=_
    rw[D];rfl
   rw[t]
   simp only[gP,j0]
   rfl
  rw[step]
  simp only[pW]
  rcases dJ (bX ts 1 yH i) with d|d
  rotate_left
  .simp only[d,j9,jC]
   exact⟨_,rfl,rfl⟩
  have g:=iZ k hi (by decide) d
  simp only[d,jE]
  by_cases k2:l.length=8
  .have k2':((l.length:Int)==8)=true:=by simp;omega
   rw[if_pos k2]
   simp only[k2',jE,j0,dN]
   exact badn _ _ _ _ (show(2:Int)≠0 by decide) g
  have k2':((l.length:Int)==8)=false:=by simp;omega
  rw[if_neg k2]
  simp only[k2',j9,jC,j0,lA (i+1,b) g,CM (i+1,b) g v (by omega:100<N)]
  cases hx:lG ts (i+1) with
  |inl z=>
   have c:=LR hx
   have hz':((bR ts z (i+1) pr b).2.2.2.1==0)=false:=by simpa[bR] using c
   simp only[hz',j9,jC,j0,pX c g,e,bF]
   exact bad _ _ _ _ _ c g
  |inr x=>
   obtain⟨rfl,p,-⟩:=pV k g hx
   have t:((gR ts pr (i+1+1,b)).2.2.2.1==0)=true:=rfl
   simp only[t,jE,lB,u,bF]
   by_cases q:(aN ts (i+1)).2.1=y5.2\/(aN ts (i+1)).2.1∈l
   .rw[if_pos q]
    have:((if decide ((aN ts (i+1)).2.1=y5.2)=true then some true else some (decide ((aN ts (i+1)).2.1∈l))):Option Bool)=some true:=by
     rcases q with h|h
     .rw[if_pos (jL h)]
     rw[jL h];split<;>rfl
    rw[this]
    simp only[j0,jE,nK,e,dN]
    have c:(((aN ts (i+1)).2.2.2,(10:Int)):cF).2≠0:=show(10:Int)≠0 by decide
    simp only[pX c p,j0]
    exact bad _ _ _ _ _ c p
   rw[if_neg q]
   have:((if decide ((aN ts (i+1)).2.1=y5.2)=true then some true else some (decide ((aN ts (i+1)).2.1∈l))):Option Bool)=some false:=by
    rw[if_neg (by simp only[j6];exact fun h=>q (.inl h)),jS (fun h=>q (.inr h))]
   rw[this]
   simp only[j0,j9,jC,qO (i+1+1,b) p v,e,qC]
   cases c:dG ts ⟨#[59]⟩ (i+1+1) with
   |inl z=>exact bad _ _ _ _ _ (pH c) p
   |inr j=>
    obtain⟨rfl,D,-⟩:=iT k p c
    exact SW k v H n M _ (i+1+1+1) D (by simp only[jF,jA,jB];omega) (by omega) (by omega)
end
section
variable {N:Nat} {ts:List bZ} {pr:List BA}
abbrev RD:=List bZ×Int×Int×Int×List BA×List Ex×List Int×List Dl
def lK(st:RT)(l:List Dl):RD:=(st.1,st.2.1,st.2.2.1,st.2.2.2.1,st.2.2.2.2.1,st.2.2.2.2.2.1,st.2.2.2.2.2.2,l)
def relS(ts:List bZ)(r:cF⊕List Dl)(o:RD):Prop:=
 match r with
 | .inl z=>∃st l,rK ts z st/\o=lK st l
 | .inr a=>∃pr p,o=lK (gR ts pr p) a
theorem UW{y5:RT×BA}{o2:RL}{z:cF}{i:Nat}{pr':List BA}{b:List Ex}(a:z.2≠0)(M:Nat)(l:List Dl):aK (pT N y5 o2) (M+1) (lK (bR ts z i pr' b) l)=some (lK (bR ts z i pr' b) l):=by
 have hz':((lK (bR ts z i pr' b) l).2.2.2.1==0)=false:=by simpa[bR,lK] using a
 simp only[aK,pT,hz',j9,jC,j0]
theorem TZ(c:OkT ts)(k:ts.length<1000000)(g:1000005<N){y5:RT×BA}{o2:RL}:∀(n M:Nat) (l:List Dl) (i:Nat) (pr:List BA) (b:List Ex),i<ts.length->l.length<=64->ts.length<i+n->ts.length+2<i+M->
  ∃o,aK (pT N y5 o2) M (lK (gR ts pr (i,b)) l)=some o/\relS ts (pZ ts n l i) o
 |0,M,l,i,_,_,hi,_,h,_=>by omega
 |n+1,0,l,i,_,_,hi,_,_,h=>by omega
 |n+1,M+1,l,i,pr,b,hi,e,y,x=>by
  have t:((lK (gR ts pr (i,b)) l).2.2.2.1==0)=true:=rfl
  have r:∀st:RT,∀l,((lK st l).1,(lK st l).2.1,(lK st l).2.2.1,(lK st l).2.2.2.1,(lK st l).2.2.2.2.1,(lK st l).2.2.2.2.2.1,(lK st l).2.2.2.2.2.2.1)=st:=fun _ _=>rfl
  have s:∀st:RT,∀l,(lK st l).2.2.2.2.2.2.2=l:=fun _ _=>rfl
  simp only[aK,pT,t,jE,r,s,lA (i,b) hi,j0,Prod.eta,pZ]
  by_cases k1:(aN ts i).1=5
  .have k1':((aN ts i).1 !=5)=false:=by simp[k1]
   rw[if_pos k1]
   simp only[k1',j9,jC,j0]
   exact⟨_,rfl,pr,(i,b),rfl⟩
  have k1':((aN ts i).1 !=5)=true:=by simp[k1]
  rw[if_neg k1]
  simp only[k1',jE]
  obtain⟨o,v,d⟩:=qOm (N:=N) (pr:=pr) (f:=(y5.2,o2.2.2.2.2.2.2.2,l)) c k g e i b hi
  simp only[v,j0]
  rw[iB (by simp only[jA,jB];omega) (by omega)]
  simp only[j0]
  cases hd:mZ ts l i with
  |inl z=>
   rw[show mZ ts (y5.2,o2.2.2.2.2.2.2.2,l).2.2 i=mZ ts l i from rfl,hd] at d
   obtain⟨q,j,pr',b',u,p⟩:=d
   obtain⟨M',rfl⟩:∃M',M=M'+1:=⟨M-1,by omega⟩
   rw[p]
   exact⟨_,UW q M' _,_,_,⟨q,j,pr',b',u,rfl⟩,rfl⟩
  |inr a=>
   rw[show mZ ts (y5.2,o2.2.2.2.2.2.2.2,l).2.2 i=mZ ts l i from rfl,hd] at d
   obtain⟨q,p,u⟩:=CB c hi hd
   have hr':o=(gR ts a.2.2.2.1 (a.1,a.2.2.2.2),a.2):=d
   rw[hr']
   exact TZ c k g n M (l++[a.2]) a.1 _ _ p (by simp only[jF,jA,jB];omega) (by omega) (by omega)
theorem qOn(d:OkT ts)(h:ts.length<1000000)(A:1000005<N):
  ((nC N (ts,0,0,0,[],[],[]) (⟨#[112,97,99,107,97,103,101]⟩:BA)).bind fun s=>((if(!s.2)=true then((eO N s.1).bind fun D=>eU N D.1 D.2.2.2.2 9) else(some s.1)):Option RT).bind fun K=>(mD N K).bind fun y5=>(eN N y5.1 (⟨#[59]⟩:BA)).bind fun t=>(aK (oE N y5) N (bT t [])).bind fun o2=>(aK (pT N y5 o2) N (o2.1,o2.2.1,o2.2.2.1,o2.2.2.2.1,o2.2.2.2.2.1,o2.2.2.2.2.2.1,o2.2.2.2.2.2.2.1,[])).bind fun a=>if(a.2.2.2.1 !=0)=true then(some (qD,a.2.2.1,a.2.2.2.1)) else(some (((y5.2,o2.2.2.2.2.2.2.2,a.2.2.2.2.2.2.2):Sr),(0:Int),(0:Int))))=some (match rX ts with| .inl z=>(qD,z.1,z.2)| .inr f=>(f,0,0)):=by
 have p:0<ts.length:=fJ.2 d.1
 obtain⟨M,hM⟩:∃M,N=M+1:=⟨N-1,by omega⟩
 have E:((ts,(0:Int),(0:Int),(0:Int),[],[],[]):RT)=gR ts [] (0,[]):=rfl
 -- the loops behind an error
 have badD:∀(y5:RT×BA) (o2:RL) (z:cF) (st:RT),rK ts z st->((aK (pT N y5 o2) N (lK st [])).bind fun a=>if(a.2.2.2.1 !=0)=true then(some (qD,a.2.2.1,a.2.2.2.1)) else(some (((y5.2,o2.2.2.2.2.2.2.2,a.2.2.2.2.2.2.2):Sr),(0:Int),(0:Int))))=some (qD,z.1,z.2):=by
  rintro y5 o2 z st ⟨c,i,pr',b,hi,rfl⟩
  have g:aK (pT N y5 o2) N (lK (bR ts z i pr' b) [])=some (lK (bR ts z i pr' b) []):=by
   have e:aK (pT N y5 o2) N (lK (bR ts z i pr' b) [])=aK (pT N y5 o2) (M+1) (lK (bR ts z i pr' b) []):=by rw[<-hM]
   rw[e];exact UW c M []
  have hz':((lK (bR ts z i pr' b) []).2.2.2.1 !=0)=true:=by simpa[bR,lK] using c
  rw[g]
  simp only[j0,hz',jE]
  rfl
 have badI:∀(y5:RT×BA) (z:cF) (i:Nat) (pr':List BA) (b:List Ex),z.2≠0->i<ts.length->((aK (oE N y5) N (bT (bR ts z i pr' b) [])).bind fun o2=>(aK (pT N y5 o2) N (o2.1,o2.2.1,o2.2.2.1,o2.2.2.2.1,o2.2.2.2.2.1,o2.2.2.2.2.2.1,o2.2.2.2.2.2.2.1,[])).bind fun a=>if(a.2.2.2.1 !=0)=true then(some (qD,a.2.2.1,a.2.2.2.1)) else(some (((y5.2,o2.2.2.2.2.2.2.2,a.2.2.2.2.2.2.2):Sr),(0:Int),(0:Int))))=some (qD,z.1,z.2):=by
  intro y5 z i pr' b c hi
  have g:aK (oE N y5) N (bT (bR ts z i pr' b) [])=some (bT (bR ts z i pr' b) []):=by
   have e:aK (oE N y5) N (bT (bR ts z i pr' b) [])=aK (oE N y5) (M+1) (bT (bR ts z i pr' b) []):=by rw[<-hM]
   rw[e];exact TL c M []
  rw[g]
  simp only[j0]
  exact badD y5 (bT (bR ts z i pr' b) []) z (bR ts z i pr' b) ⟨c,i,pr',b,hi,rfl⟩
 have bad:∀(z:cF) (i:Nat) (pr':List BA) (b:List Ex),z.2≠0->i<ts.length->((mD N (bR ts z i pr' b)).bind fun y5=>(eN N y5.1 (⟨#[59]⟩:BA)).bind fun t=>(aK (oE N y5) N (bT t [])).bind fun o2=>(aK (pT N y5 o2) N (o2.1,o2.2.1,o2.2.2.1,o2.2.2.2.1,o2.2.2.2.2.1,o2.2.2.2.2.2.1,o2.2.2.2.2.2.2.1,[])).bind fun a=>if(a.2.2.2.1 !=0)=true then(some (qD,a.2.2.1,a.2.2.2.1)) else(some (((y5.2,o2.2.2.2.2.2.2.2,a.2.2.2.2.2.2.2):Sr),(0:Int),(0:Int))))=some (qD,z.1,z.2):=by
  intro z i pr' b c hi
  simp only[LX c hi,pX c hi,j0]
  exact badI _ z i pr' b c hi
 rw[E]
 simp only[pI (0,[]) p h,j0,rX,qQ,HA]
 rcases dJ (bX ts 1 ⟨#[112,97,99,107,97,103,101]⟩ 0) with k|k
 rotate_left
 .simp only[k,j9,jC,kC,jE,lA (0,[]) p,nK,j0,dN,bF]
  exact bad _ _ _ _ (show(9:Int)≠0 by decide) p
 have n:=iZ d p (by decide) k
 simp only[k,jE,jP,j9,jC,j0,CM (0+1,[]) n h (by omega:100<N),bF]
 cases h2:lG ts (0+1) with
 |inl z=>
  have c:=LR h2
  simp only[pX c n,j0]
  exact badI _ z _ _ _ c n
 |inr x=>
  obtain⟨rfl,r,-⟩:=pV d n h2
  simp only[qO (0+1+1,[]) r h,j0,qC]
  cases v:dG ts ⟨#[59]⟩ (0+1+1) with
  |inl z=>exact badI _ z _ _ _ (pH v) r
  |inr j=>
   obtain⟨rfl,u,-⟩:=iT d r v
   obtain⟨o,G,q⟩:=SW (N:=N) (pr:=[]) (b:=[]) (y5:=(gR ts [] (0+1+1,[]),(aN ts (0+1)).2.1)) d h A (ts.length+1) N [] (0+1+1+1) u (by simp) (by omega) (by omega)
   simp only[G,j0]
   cases h4:pW ts (aN ts (0+1)).2.1 (ts.length+1) [] (0+1+1+1) with
   |inl z=>
    rw[show pW ts ((gR ts [] (0+1+1,[]),(aN ts (0+1)).2.1):RT×BA).2 (ts.length+1) [] (0+1+1+1)=pW ts (aN ts (0+1)).2.1 (ts.length+1) [] (0+1+1+1) from rfl,h4] at q
    obtain⟨st,l,g,rfl⟩:=q
    exact badD _ (bT st l) z st g
   |inr y=>
    rw[show pW ts ((gR ts [] (0+1+1,[]),(aN ts (0+1)).2.1):RT×BA).2 (ts.length+1) [] (0+1+1+1)=pW ts (aN ts (0+1)).2.1 (ts.length+1) [] (0+1+1+1) from rfl,h4] at q
    have hr':o=bT (gR ts [] (y.1,[])) y.2:=q
    obtain⟨R,H,S⟩:=GI d _ _ _ y u (by simp) h4
    obtain⟨o2,B,g⟩:=TZ (N:=N) (y5:=(gR ts [] (0+1+1,[]),(aN ts (0+1)).2.1)) (o2:=o) d h A (ts.length+1) N [] y.1 [] [] H (by simp) (by omega) (by omega)
    have F:(o.1,o.2.1,o.2.2.1,o.2.2.2.1,o.2.2.2.2.1,o.2.2.2.2.2.1,o.2.2.2.2.2.2.1,([]:List Dl))=lK (gR ts [] (y.1,[])) []:=by rw[hr'];rfl
    rw[F,B]
    simp only[j0]
    cases h5:pZ ts (ts.length+1) [] y.1 with
    |inl z=>
     rw[h5] at g
     obtain⟨st,l,⟨c,i,pr',b,hi,rfl⟩,rfl⟩:=g
     have hz':((lK (bR ts z i pr' b) l).2.2.2.1 !=0)=true:=by simpa[bR,lK] using c
     simp only[hz',jE]
     rfl
    |inr l=>
     rw[h5] at g
     obtain⟨pr',p',rfl⟩:=g
     have hz':((lK (gR ts pr' p') l).2.2.2.1 !=0)=false:=rfl
     simp only[hz',j9,jC]
     rw[hr']
     rfl
end
theorem qGe{N:Nat}(s:BA)(b:1000005<N):FJ N s=some (eY s):=by
 simp only[FJ,qEu (N:=N) (by omega),j0,eY]
 by_cases h:(iQ s).2.2=0
 .rw[if_neg (show ¬((iQ s).2.2 !=0)=true by simpa using h),if_neg (show ¬(iQ s).2.2≠0 by simpa using h)]
  obtain⟨a,d,e⟩:=KQ h
  have c:=qOn (N:=N) a (by omega) b
  refine Eq.trans ?_ (Eq.trans c ?_)
  .simp only[Prod.eta,oP];rfl
  cases rX (iQ s).1<;>rfl
 rw[if_pos (show((iQ s).2.2 !=0)=true by simpa using h),if_pos h];rfl
end
section
open Go Go.Dc Go.Proofs
def rH{α τ:Type}(g:Nat->τ->α->τ):Nat->τ->List α->τ
 |_,t,[]=>t
 |i,t,x::l=>rH g (i+1) (g i t x) l
theorem UX{α τ σ β:Type}{L:List α}(enc:τ->Nat->σ){f:σ->Option (σ⊕β)}(g:Nat->τ->α->τ)(fin:τ->β)
  (a:∀t i,∀hi:i<L.length,f (enc t i)=some (.inl (enc (g i t L[i]) (i+1))))
  (b:∀t,f (enc t L.length)=some (.inr (fin t))):∀(d i M:Nat) (t:τ),i+d=L.length->d<M->aK f M (enc t i)=some (fin (rH g i t (L.drop i)))
 |_,_,0,_,_,h=>absurd h (kY _)
 |0,i,M+1,t,c,e=>by
  have hi:i=L.length:=by omega
  subst hi
  simp only[aK,b t,j0,fU,rH]
 |d+1,i,M+1,t,c,e=>by
  have hi:i<L.length:=by omega
  simp only[aK,a t i hi,j0]
  rw[NQ hi]
  exact UX enc g fin a b d (i+1) M _ (by omega) (by omega)
abbrev cP:=BA×BA×Int×BA×Int×Int
abbrev K3:=Int×BA×BA
abbrev eI:=BA×BA×Int×BA×Int
def iR(kind:Int)(pkg name:BA):K3:=(kind,if kind=3 then uB else pkg,name)
def lT(o:eI):K3:=iR o.2.2.1 o.1 o.2.1
def lR(M:List (K3×cP))(o:eI):List (K3×cP):=
 mset M (lT o) (match cS M (lT o) with
  |some x=>(x.1,x.2.1,x.2.2.1,x.2.2.2.1,x.2.2.2.2.1,IntKind.wrap .i64 (x.2.2.2.2.2+1))
  |none=>(o.1,o.2.1,o.2.2.1,o.2.2.2.1,o.2.2.2.2,1))
def mJ(path pkg:BA):Nat->List Dl->List eI
 |_,[]=>[]
 |i,d::l=>(pkg,d.2.1,d.1,path,(i:Int))::mJ path pkg (i+1) l
def lF(f:bL):Bool:=mQ f.1&&decide ((eY f.2).2.2=0)
def dQ(L:List bL):List (BA×Sr):=(L.filter lF).map fun f=>(f.1,(eY f.2).1)
def oR(L:List bL):List BA:=(L.filter fun f=>mQ f.1&& !decide ((eY f.2).2.2=0)).map (·.1)
def iD(l:List (BA×Sr)):List eI:=l.flatMap fun x=>mJ x.1 x.2.1 0 x.2.2.2
abbrev Wld:=List bL×Bool×Option (List (BA×Sr))×List BA×Option (List (K3×cP))
def vW(L:List bL):Wld:=
 if eZ L=0 then(L,true,some ((dQ L).foldl (fun S x=>mset S x.1 x.2) []),oR L,some ((iD (dQ L)).foldl lR [])) else(L,false,some [],[],some [])
theorem VK(path pkg:BA):∀(l:List Dl) (i:Nat) (M:List (K3×cP)),
  rH (fun i M (d:Dl)=>lR M (pkg,d.2.1,d.1,path,(i:Int))) i M l=(mJ path pkg i l).foldl lR M
 |[],_,_=>rfl
 |d::l,i,M=>by simp only[rH,mJ,jM];exact VK path pkg l (i+1) _
theorem TH{N:Nat}(a:Int)(b c:BA):BZ N a b c=some (iR a b c):=by
 unfold BZ iR
 by_cases h:a=3
 .rw[if_pos (by simp[h]),if_pos h];rfl
 rw[if_neg (by simp[h]),if_neg h];rfl
theorem qHn{N:Nat}{x:bL}{y:Sr×Int×Int}(c:y.1.2.2.length<1000)(b:1000<N)(M:List (K3×cP)):
  aK (xT N x y) N (0,some M)=some (some ((mJ x.1 y.1.1 0 y.1.2.2).foldl lR M)):=by
 have:=UX (L:=y.1.2.2) (fun(M:List (K3×cP)) i=>((i:Int),some M)) (f:=xT N x y)
  (fun i M (d:Dl)=>lR M (y.1.1,d.2.1,d.1,x.1,(i:Int))) (fun M=>some M) (by
   intro M i hi
   simp only[xT]
   rw[if_pos (by simp only[j6];omega),dP hi]
   simp only[j0,TH]
   have ew:IntKind.wrap .i64 ((i:Int)+1)=((i+1:Nat):Int):=by rw[bS (by omega) (by omega)];omega
   simp only[ew]
   by_cases h:(aQ (some M) (iR (y.1.2.2[i]).1 y.1.1 (y.1.2.2[i]).2.1)).isSome=true
   .rw[if_pos h]
    unfold lR lT
    simp only[aQ,iI,j0,kG] at h ⊢
    obtain⟨v,a⟩:=hB.1 h
    rw[a];rfl
   .rw[if_neg h]
    unfold lR lT
    simp only[aQ,iI,j0,kG] at h ⊢
    rw[show cS M (iR (y.1.2.2[i]).1 y.1.1 (y.1.2.2[i]).2.1)=none by simpa using h]) (by
   intro M
   simp only[xT]
   rw[if_neg (by simp)]) y.1.2.2.length 0 N M (by omega) (by omega)
 rw[kA,VK] at this
 exact this
theorem UG{ts:List bZ}(h:OkT ts):∀(n:Nat) (l:List Dl) (i:Nat) {r:List Dl},l.length<=64->i<ts.length->pZ ts n l i= .inr r->r.length<=64
 |0,_,_,_,_,_,a=>by cases a
 |n+1,l,i,r,d,hi,a=>by
  unfold pZ at a
  split at a
  .cases a;exact d
  obtain⟨x,e,c⟩:=cT a
  obtain⟨-,b,f⟩:=CB h hi e
  exact UG h n _ _ (by simp;omega) b c
theorem NT{s:BA}:(eY s).1.2.2.length<=64:=by
 unfold eY
 by_cases h0:(iQ s).2.2=0
 .rw[if_neg (not_not_intro h0)]
  obtain⟨d,u,x⟩:=KQ h0
  have e:0<(iQ s).1.length:=by
   cases h:(iQ s).1 with
   |nil=>exact absurd h d.1
   |cons a l=>exact Nat.succ_pos _
  cases c:rX (iQ s).1 with
  |inl z=>exact jZ _
  |inr f=>
   simp only
   unfold rX at c
   obtain⟨i,o,c⟩:=cT c
   obtain⟨rfl,g,-⟩:=yE d e o
   obtain⟨a,p,c⟩:=cT c
   obtain⟨rfl,k,-⟩:=pV d g p
   obtain⟨j,q,c⟩:=cT c
   obtain⟨rfl,n,-⟩:=iT d k q
   obtain⟨b,r,c⟩:=cT c
   obtain⟨-,v,-⟩:=GI d _ _ _ b n (by simp) r
   obtain⟨l,t,c⟩:=cT c
   have:=UG d _ _ _ (by simp) v t
   cases c
   exact this
 rw[if_pos h0];exact jZ _
def rZ(t:List BA×List (BA×Sr)×List (K3×cP))(f:bL):List BA×List (BA×Sr)×List (K3×cP):=
 if mQ f.1=false then t
 else if(eY f.2).2.2=0 then(t.1,mset t.2.1 f.1 (eY f.2).1,(mJ f.1 (eY f.2).1.1 0 (eY f.2).1.2.2).foldl lR t.2.2)
 else(t.1++[f.1],t.2)
theorem KS:∀(L:List bL) (B:List BA) (S:List (BA×Sr)) (M:List (K3×cP)),
  L.foldl rZ (B,S,M)=(B++oR L,(dQ L).foldl (fun S x=>mset S x.1 x.2) S,(iD (dQ L)).foldl lR M)
 |[],B,S,M=>by simp[oR,dQ,iD]
 |f::L,B,S,M=>by
  rw[jM]
  by_cases a:mQ f.1=true
  .by_cases h2:(eY f.2).2.2=0
   .have e:rZ (B,S,M) f=(B,mset S f.1 (eY f.2).1,(mJ f.1 (eY f.2).1.1 0 (eY f.2).1.2.2).foldl lR M):=by
     unfold rZ;rw[if_neg (by simp[a]),if_pos h2]
    have el:dQ (f::L)=(f.1,(eY f.2).1)::dQ L:=by
     unfold dQ;rw[kW,if_pos (show lF f=true by simp[lF,a,h2])];rfl
    have eb:oR (f::L)=oR L:=by
     unfold oR;rw[kW,if_neg (by simp[h2])]
    rw[e,KS L,el,eb]
    simp only[jM,iD,kM,fQ]
   have e:rZ (B,S,M) f=(B++[f.1],S,M):=by
    unfold rZ;rw[if_neg (by simp[a]),if_neg h2]
   have el:dQ (f::L)=dQ L:=by
    unfold dQ;rw[kW,if_neg (by simp[lF,h2])]
   have eb:oR (f::L)=f.1::oR L:=by
    unfold oR;rw[kW,if_pos (by simp[a,h2])];rfl
   rw[e,KS L,el,eb]
   simp
  have a:mQ f.1=false:=by simpa using a
  have e:rZ (B,S,M) f=(B,S,M):=by unfold rZ;rw[if_pos a]
  have el:dQ (f::L)=dQ L:=by
   unfold dQ;rw[kW,if_neg (by simp[lF,a])]
  have eb:oR (f::L)=oR L:=by
   unfold oR;rw[kW,if_neg (by simp[a])]
  rw[e,KS L,el,eb]
theorem qHm{N:Nat}{L:List bL}(d:oG N L)(g:L.length<=64)(c:1000001<N):
  aK (xS N L) N (0,[],some [],some [])=some (oR L,some ((dQ L).foldl (fun S x=>mset S x.1 x.2) []),some ((iD (dQ L)).foldl lR [])):=by
 have h:=sO (L:=L) (fun(t:List BA×List (BA×Sr)×List (K3×cP)) (i:Nat)=>((i:Int),t.1,some t.2.1,some t.2.2)) (f:=xS N L)
  (fun t f=> .inl (rZ t f)) (fun t=>(t.1,some t.2.1,some t.2.2)) (fun i t=>t.1.length<=i) (by
   intro t i hi b
   simp only[xS]
   rw[if_pos (by simp only[j6];omega),dP hi]
   have ew:IntKind.wrap .i64 ((i:Int)+1)=((i+1:Nat):Int):=by rw[bS (by omega) (by omega)];omega
   have e:=UB (N:=N) (d _ (jW hi))
   simp only[j0,e,YC _ c,ew]
   unfold rZ
   by_cases a:mQ (L[i]).1=true
   .by_cases h2:(eY (L[i]).2).2.2=0
    .rw[if_neg (by simp[a]),if_neg (by simp[h2]),if_neg (by simp[a]),if_pos h2,qHn (by have:=NT (s:=(L[i]).2);omega) (by omega)]
     simp only[iI,kG,j0]
    rw[if_neg (by simp[a]),if_pos (by simpa using h2),if_neg (by simp[a]),if_neg h2,iB (by simp only[jA,jB];omega) (by omega)]
    simp only[j0]
   .have a:mQ (L[i]).1=false:=by simpa using a
    rw[if_pos (by simp[a]),if_pos a]
    simp only[j0]) (by
   intro t i hi t' b h
   cases h
   unfold rZ
   split
   .omega
   .split
    .exact Nat.le_succ_of_le b
    simp only[jF,jA,jB];omega) (by
   intro t b
   simp only[xS]
   rw[if_neg (by simp)]) (M:=N) (t:=([],[],[])) (by omega) (jZ _)
 rw[show((0:Nat):Int)=0 from rfl] at h
 rw[h,rU rZ (fun _ _=>rfl),KS]
 simp only[kK]
theorem HV{N:Nat}{L:List bL}(a:oG N L)(b:1000001<N):tV N L=some (vW L):=by
 simp only[tV,XX a (show 100<N by omega),j0]
 unfold vW
 by_cases hc:eZ L=0
 .rw[if_neg (by simp[hc]),if_pos hc,qHm a (nI.1 hc).1 b]
  simp only[j0,hc];rfl
 rw[if_pos (by simpa using hc),if_neg hc]
 simp only[show(eZ L==0)=false by simpa using hc]
def iJ(kind:Int)(pkg name:BA)(e:cP)(o:eI):cP:=
 if lT o=iR kind pkg name then(if e.2.2.2.2.2=0 then(o.1,name,kind,o.2.2.2.1,o.2.2.2.2,1) else(e.1,e.2.1,e.2.2.1,e.2.2.2.1,e.2.2.2.2.1,e.2.2.2.2.2+1)) else e
def qH(kind:Int)(pkg name:BA):cP:=(if kind=3 then uB else pkg,name,kind,uB,0,0)
def iK(O:List eI)(kind:Int)(pkg name:BA):cP:=O.foldl (iJ kind pkg name) (qH kind pkg name)
theorem CC{k k':Int}{p p' n n':BA}(h:iR k p n=iR k' p' n'):k=k'/\n=n'/\(k=3\/p=p'):=by
 simp only[iR,Prod.mk.injEq] at h
 obtain⟨rfl,a,b⟩:=h
 refine⟨rfl,b,?_⟩
 by_cases h:k=3
 .exact .inl h
 rw[if_neg h,if_neg h] at a;exact .inr a
def MapE(M:List (K3×cP))(O:List eI):Prop:=
 (M.map (·.1)).Nodup/\∀kind pkg name,cS M (iR kind pkg name)=if(iK O kind pkg name).2.2.2.2.2=0 then none else some (iK O kind pkg name)
theorem VP(kind:Int)(pkg name:BA):∀(O:List eI),0<=(iK O kind pkg name).2.2.2.2.2/\(iK O kind pkg name).2.2.2.2.2<=O.length/\((iK O kind pkg name).2.2.2.2.2=0->iK O kind pkg name=qH kind pkg name):=by
 suffices h:∀(O:List eI) (e:cP) (b:Nat),0<=e.2.2.2.2.2/\e.2.2.2.2.2<=b/\(e.2.2.2.2.2=0->e=qH kind pkg name)->
   0<=(O.foldl (iJ kind pkg name) e).2.2.2.2.2/\(O.foldl (iJ kind pkg name) e).2.2.2.2.2<=(b+O.length:Nat)/\((O.foldl (iJ kind pkg name) e).2.2.2.2.2=0->O.foldl (iJ kind pkg name) e=qH kind pkg name) by
  intro O
  have:=h O (qH kind pkg name) 0 ⟨Int.le_refl _,Int.le_refl _,fun _=>rfl⟩
  rw[kT] at this
  exact this
 intro O
 induction O with
 |nil=>intro e b h;exact h
 |cons o O c=>
  intro e b h
  rw[jM]
  have:=c (iJ kind pkg name e o) (b+1) (by
   unfold iJ
   split
   .split
    .exact⟨(by show(0:Int)<=1;decide),by show(1:Int)<=_;omega,fun h=>by simp at h⟩
    rename_i hc
    refine⟨by show(0:Int)<=e.2.2.2.2.2+1;omega,by show e.2.2.2.2.2+1<=_;omega,fun a=> ?_⟩
    have a:e.2.2.2.2.2+1=0:=a
    omega
   exact⟨h.1,by omega,h.2.2⟩)
  rw[jA,show b+(O.length+1)=b+1+O.length by omega]
  exact this
theorem MapE.step{M:List (K3×cP)}{O:List eI}(h:MapE M O)(f:O.length<1000000)(o:eI):MapE (lR M o) (O++[o]):=by
 refine⟨BV h.1 _ _,fun kind pkg name=> ?_⟩
 have g:=VP kind pkg name O
 have c:iK (O++[o]) kind pkg name=iJ kind pkg name (iK O kind pkg name) o:=by
  unfold iK;rw[fQ];rfl
 unfold lR
 rw[GR h.1,c]
 by_cases hk:iR kind pkg name=lT o
 .rw[if_pos hk,<-hk,h.2 kind pkg name]
  unfold iJ
  rw[if_pos hk.symm]
  obtain⟨a,b,d⟩:=CC hk
  by_cases hc:(iK O kind pkg name).2.2.2.2.2=0
  .rw[if_pos hc,if_pos hc,if_neg (show ¬(1:Int)=0 by decide),<-a,<-b]
  rw[if_neg hc,if_neg hc,if_neg (show ¬(iK O kind pkg name).2.2.2.2.2+1=0 by omega)]
  simp only[bS (show-9223372036854775808<=(iK O kind pkg name).2.2.2.2.2+1 by omega) (by omega)]
 have a:iJ kind pkg name (iK O kind pkg name) o=iK O kind pkg name:=by unfold iJ;rw[if_neg (fun e=>hk e.symm)]
 rw[if_neg hk,h.2 kind pkg name,a]
theorem MapE.fold{O:List eI}(a:O.length<1000000):MapE (O.foldl lR []) O:=by
 suffices h:∀(K:List eI) (M:List (K3×cP)) (J:List eI),J.length+K.length<1000000->MapE M J->MapE (K.foldl lR M) (J++K) by
  have:=h O [] [] (by simpa using a) ⟨gJ,fun kind pkg name=>by rw[show(iK [] kind pkg name).2.2.2.2.2=0 from rfl,if_pos rfl];rfl⟩
  exact this
 intro K
 induction K with
 |nil=>intro M J _ h;rw[List.append_nil];exact h
 |cons o K c=>
  intro M J b h
  rw[jM,show J++o::K=(J++[o])++K by simp]
  simp only[jA] at b
  exact c _ _ (by simp;omega) (h.step (by omega) o)
theorem XI(path pkg:BA):∀(l:List Dl) (i:Nat),(mJ path pkg i l).length=l.length
 |[],_=>rfl
 |_::l,i=>by simp only[mJ,jA,XI path pkg l]
theorem OU{L:List bL}{x:BA×Sr}(h:x∈dQ L):∃f∈L,lF f=true/\x=(f.1,(eY f.2).1):=by
 unfold dQ at h
 obtain⟨f,a,rfl⟩:=gY.1 h
 exact⟨f,(fC.1 a).1,(fC.1 a).2,rfl⟩
theorem KU(L:List bL):(dQ L).length<=L.length:=by
 unfold dQ;rw[kU];exact gL _ _
theorem WJ:∀(l:List (BA×Sr)),(∀x∈l,x.2.2.2.length<=64)->(iD l).length<=64*l.length
 |[],_=>jN _
 |x::l,h=>by
  have:=WJ l fun y a=>h y (jQ _ a)
  have:=h x (jK ..)
  unfold iD at*
  rw[kM,jF,XI,jA]
  omega
theorem OT{L:List bL}(b:L.length<=64):(iD (dQ L)).length<1000000:=by
 have:=WJ (dQ L) fun x a=>by
  obtain⟨f,_,_,rfl⟩:=OU a
  exact NT
 have:=KU L
 omega
def qOf:cP:=(uB,uB,0,uB,0,0)
def CT(L:List bL)(kind:Int)(pkg name:BA):cP:=if eZ L=0 then iK (iD (dQ L)) kind pkg name else qOf
theorem qJv{N:Nat}{L:List bL}(kind:Int)(pkg name:BA):FT N (vW L) kind pkg name=some (CT L kind pkg name):=by
 unfold FT vW CT
 by_cases hc:eZ L=0
 .simp only[if_pos hc]
  rw[if_neg (by simp)]
  simp only[TH,j0]
  have b:=(MapE.fold (OT (nI.1 hc).1)).2 kind pkg name
  have c:=VP kind pkg name (iD (dQ L))
  generalize a:aQ (some ((iD (dQ L)).foldl lR [])) (iR kind pkg name)=q
  have a:q=if(iK (iD (dQ L)) kind pkg name).2.2.2.2.2=0 then none else some (iK (iD (dQ L)) kind pkg name):=a.symm.trans b
  by_cases h0:(iK (iD (dQ L)) kind pkg name).2.2.2.2.2=0
  .rw[if_pos h0] at a
   subst a
   rw[if_neg (by simp),c.2.2 h0];rfl
  rw[if_neg h0] at a
  subst a
  rw[if_pos (show(some (iK (iD (dQ L)) kind pkg name)).isSome=true from rfl)];rfl
 simp only[if_neg hc]
 rw[if_pos (show(!false)=true from rfl)];rfl
theorem NG{α τ σ β:Type}{L:List α}(enc:τ->Nat->σ){f:σ->Option (σ⊕β)}(g:Nat->τ->α->τ)(fin:τ->β)(I:Nat->τ->Prop)
  (a:∀t i,∀hi:i<L.length,I i t->f (enc t i)=some (.inl (enc (g i t L[i]) (i+1)))/\I (i+1) (g i t L[i]))
  (b:∀t,I L.length t->f (enc t L.length)=some (.inr (fin t))):∀(d i M:Nat) (t:τ),i+d=L.length->d<M->I i t->aK f M (enc t i)=some (fin (rH g i t (L.drop i)))/\I L.length (rH g i t (L.drop i))
 |_,_,0,_,_,h,_=>absurd h (kY _)
 |0,i,M+1,t,e,k,c=>by
  have hi:i=L.length:=by omega
  subst hi
  simp only[aK,b t c,j0,fU,rH]
  exact⟨trivial,c⟩
 |d+1,i,M+1,t,e,k,c=>by
  have hi:i<L.length:=by omega
  obtain⟨l,n⟩:=a t i hi c
  simp only[aK,l,j0]
  rw[NQ hi]
  exact NG enc g fin I a b d (i+1) M _ (by omega) (by omega) n
def pO(L:List bL)(p:BA):Sr×Bool:=match(if eZ L=0 then lI L p else none) with
 |some b=>if mQ p=true then((eY b).1,decide ((eY b).2.2=0)) else(qD,false)
 |none=>(qD,false)
theorem BS{N:Nat}{L:List bL}{p:BA}(a:1000005<N):sH N L p=some (pO L p):=by
 simp only[sH,qGy p (show 100<N by omega),j0,SO (show 100<N by omega),qGe _ a]
 unfold pO CU
 by_cases hc:eZ L=0
 .rw[if_pos hc,if_pos hc]
  cases hg:lI L p with
  |none=>rfl
  |some b=>
   simp only[QO]
   by_cases hs:mQ p=true
   .rw[if_pos hs,hs]
    simp only[jP,j9,jC,j0]
    congr 2
   have hs':mQ p=false:=by simpa using hs
   rw[if_neg hs,hs']
   rfl
 rw[if_neg hc,if_neg hc];rfl
theorem LF{L:List bL}(a:eZ L=0){f:bL}(b:f∈L):(pO L f.1).2=lF f/\(lF f=true->(pO L f.1).1=(eY f.2).1):=by
 unfold pO
 rw[if_pos a,NI (nI.1 a).2.1 b]
 simp only[lF]
 by_cases hs:mQ f.1=true
 .rw[if_pos hs,hs];exact⟨by simp,fun _=>rfl⟩
 rw[if_neg hs]
 have hs':mQ f.1=false:=by simpa using hs
 rw[hs'];exact⟨rfl,fun h=>by simp at h⟩
def uE(t:List BA×List Sr)(f:bL):List BA×List Sr:=if lF f=true then(t.1++[f.1],t.2++[(eY f.2).1]) else t
theorem NK:∀(L:List bL) (P:List BA) (S:List Sr),L.foldl uE (P,S)=(P++(dQ L).map (·.1),S++(dQ L).map (·.2))
 |[],P,S=>by simp[dQ]
 |f::L,P,S=>by
  rw[jM]
  by_cases h:lF f=true
  .have el:dQ (f::L)=(f.1,(eY f.2).1)::dQ L:=by unfold dQ;rw[kW,if_pos h];rfl
   rw[show uE (P,S) f=(P++[f.1],S++[(eY f.2).1]) by unfold uE;rw[if_pos h],NK L,el]
   simp
  have el:dQ (f::L)=dQ L:=by unfold dQ;rw[kW,if_neg h]
  rw[show uE (P,S) f=(P,S) by unfold uE;rw[if_neg h],NK L,el]
def sW(L:List bL):List (BA×Sr):=if eZ L=0 then dQ L else[]
theorem VO{N:Nat}{L:List bL}(c:1000005<N):AY N L=some ((sW L).map (·.1),(sW L).map (·.2)):=by
 simp only[AY,xU (show 100<N by omega),j0]
 unfold sW
 by_cases hc:eZ L=0
 .rw[if_neg (by simp[hc]),if_pos hc]
  have d:=(nI.1 hc).1
  have h:=sO (L:=L) (fun(t:List BA×List Sr) (i:Nat)=>((i:Int),t.1,t.2)) (f:=AG N L)
   (fun t f=> .inl (uE t f)) (fun t=>(t.1,t.2)) (fun i t=>t.1.length<=i/\t.2.length<=i) (by
    intro t i hi a
    simp only[AG]
    rw[if_pos (by simp only[j6];omega),dP hi]
    have ew:IntKind.wrap .i64 ((i:Int)+1)=((i+1:Nat):Int):=by rw[bS (by omega) (by omega)];omega
    have b:=LF hc (jW hi)
    simp only[j0,BS c,ew,b.1]
    unfold uE
    by_cases h1:lF L[i]=true
    .rw[if_pos h1,if_pos h1,iB (by simp only[jA,jB];omega) (by omega)]
     simp only[j0]
     rw[iB (by simp only[jA,jB];omega) (by omega)]
     simp only[j0,b.2 h1]
    .rw[if_neg h1,if_neg h1];rfl) (by
    intro t i hi t' a h
    cases h
    unfold uE
    split
    .simp only[jF,jA,jB];omega
    .omega) (by
    intro t a
    simp only[AG]
    rw[if_neg (by simp)]) (M:=N) (t:=([],[])) (by omega) ⟨jZ _,jZ _⟩
  rw[show((0:Nat):Int)=0 from rfl] at h
  rw[h,rU uE (fun _ _=>rfl),NK]
  simp only[kK,j0]
 rw[if_pos (by simpa using hc),if_neg hc];rfl
theorem UL(kind:Int)(pkg name path p:BA):∀(l:List Dl) (i:Nat) (e:cP),
  rH (fun i e (d:Dl)=>iJ kind pkg name e (p,d.2.1,d.1,path,(i:Int))) i e l=(mJ path p i l).foldl (iJ kind pkg name) e
 |[],_,_=>rfl
 |d::l,i,e=>by simp only[rH,mJ,jM];exact UL kind pkg name path p l (i+1) _
theorem qAg{kind:Int}{pkg name path p:BA}(b:kind≠3)(c:p≠pkg):∀(l:List Dl) (i:Nat) (e:cP),(mJ path p i l).foldl (iJ kind pkg name) e=e
 |[],_,_=>rfl
 |d::l,i,e=>by
  have:iJ kind pkg name e (p,d.2.1,d.1,path,(i:Int))=e:=by
   unfold iJ
   rw[if_neg]
   intro h
   obtain⟨f,g,a⟩:=CC h
   rcases a with a|a
   .exact b (by rw[<-f];exact a)
   exact c a
  simp only[mJ,jM,this]
  exact qAg b c l (i+1) e
def EntI(kind:Int)(name:BA)(b:Nat)(e:cP):Prop:=e.2.1=name/\e.2.2.1=kind/\0<=e.2.2.2.2.2/\e.2.2.2.2.2<=(b:Int)
theorem EntI.see{kind:Int}{pkg name:BA}{b:Nat}{e:cP}(h:EntI kind name b e)(o:eI):EntI kind name (b+1) (iJ kind pkg name e o):=by
 obtain⟨a,c,d,f⟩:=h
 unfold iJ
 split
 .split
  .exact⟨rfl,rfl,(by show(0:Int)<=1;decide),(by show(1:Int)<=_;omega)⟩
  exact⟨a,c,(by show(0:Int)<=e.2.2.2.2.2+1;omega),(by show e.2.2.2.2.2+1<=_;omega)⟩
 exact⟨a,c,d,by omega⟩
theorem qFq{N:Nat}{P:List BA×List Sr}{kind:Int}{pkg name path:BA}{s1:Int×BA×BA×Int×Int}{x:Sr}(s:bV P.1 s1.1=some path)(q:kind=3\/x.1=pkg)
  (v:x.2.2.length<=64) (t:1000<N) {b:Nat} (u:b<1000000) {e:cP} (c:EntI kind name b e):
  aK (wU N P kind name s1 x) N (0,e.1,e.2.2.2.1,e.2.2.2.2.1,e.2.2.2.2.2)=some (((mJ path x.1 0 x.2.2).foldl (iJ kind pkg name) e).1,((mJ path x.1 0 x.2.2).foldl (iJ kind pkg name) e).2.2.2.1,((mJ path x.1 0 x.2.2).foldl (iJ kind pkg name) e).2.2.2.2.1,((mJ path x.1 0 x.2.2).foldl (iJ kind pkg name) e).2.2.2.2.2)
  /\EntI kind name (b+64) ((mJ path x.1 0 x.2.2).foldl (iJ kind pkg name) e):=by
 have:=NG (L:=x.2.2) (fun(e:cP) (i:Nat)=>((i:Int),e.1,e.2.2.2.1,e.2.2.2.2.1,e.2.2.2.2.2)) (f:=wU N P kind name s1 x)
  (fun i e (d:Dl)=>iJ kind pkg name e (x.1,d.2.1,d.1,path,(i:Int))) (fun e=>(e.1,e.2.2.2.1,e.2.2.2.2.1,e.2.2.2.2.2)) (fun i e=>EntI kind name (b+i) e) (by
   intro e i hi c
   refine⟨?_,c.see _⟩
   obtain⟨n,o,p,r⟩:=c
   simp only[wU]
   rw[if_pos (by simp only[j6];omega),dP hi]
   have ew:IntKind.wrap .i64 ((i:Int)+1)=((i+1:Nat):Int):=by rw[bS (by omega) (by omega)];omega
   have ec:IntKind.wrap .i64 (e.2.2.2.2.2+1)=e.2.2.2.2.2+1:=bS (by omega) (by omega)
   simp only[j0,ew,ec,mB,s]
   have a:lT (x.1,(x.2.2[i]).2.1,(x.2.2[i]).1,path,(i:Int))=iR kind pkg name↔(x.2.2[i]).1=kind/\(x.2.2[i]).2.1=name:=by
    constructor
    .intro h;obtain⟨g,k,-⟩:=CC h;exact⟨g,k⟩
    rintro⟨g,k⟩
    unfold lT iR
    simp only[g,k]
    rcases q with rfl|rfl
    .rfl
    rfl
   unfold iJ
   by_cases k:(x.2.2[i]).1=kind
   .rw[if_pos (show((x.2.2[i]).1==kind)=true by simp[k])]
    simp only[j0,j6]
    by_cases l:(x.2.2[i]).2.1=name
    .rw[if_pos l,if_pos (a.2 ⟨k,l⟩)]
     by_cases g:e.2.2.2.2.2=0
     .rw[if_pos (by simp[g]),if_pos g,g];rfl
     rw[if_neg (show ¬(e.2.2.2.2.2+1==1)=true by rw[kE];omega),if_neg g];rfl
    rw[if_neg l,if_neg (fun h=>l (a.1 h).2)];rfl
   .rw[if_neg (show ¬((x.2.2[i]).1==kind)=true by simp[k])]
    simp only[j0,j9,jC]
    rw[if_neg (fun h=>k (a.1 h).1)]) (by
   intro e _
   simp only[wU]
   rw[if_neg (by simp)]) x.2.2.length 0 N e (by omega) (by omega) c
 rw[kA,UL] at this
 refine⟨this.1,?_⟩
 obtain⟨n,o,p,r⟩:=this.2
 exact⟨n,o,p,by omega⟩
theorem UE(kind:Int)(pkg name:BA):∀(l:List (BA×Sr)) (i:Nat) (e:cP),
  rH (fun _ e (x:BA×Sr)=>(mJ x.1 x.2.1 0 x.2.2.2).foldl (iJ kind pkg name) e) i e l=(iD l).foldl (iJ kind pkg name) e
 |[],_,_=>rfl
 |x::l,i,e=>by
  simp only[rH,iD,kM,fQ]
  exact UE kind pkg name l (i+1) _
theorem WP{N:Nat}{l:List (BA×Sr)}(kind:Int)(pkg name:BA)(t:l.length<=64)(s:∀x∈l,x.2.2.2.length<=64)(r:1000<N):
  AQ N (l.map (·.1),l.map (·.2)) kind pkg name=some (iK (iD l) kind pkg name):=by
 unfold AQ
 have h:=NG (L:=l) (fun(e:cP) (i:Nat)=>((i:Int),e.1,e.2.2.2.1,e.2.2.2.2.1,e.2.2.2.2.2)) (f:=wT N (l.map (·.1),l.map (·.2)) kind pkg name)
  (fun _ e (x:BA×Sr)=>(mJ x.1 x.2.1 0 x.2.2.2).foldl (iJ kind pkg name) e) (fun e=>(e.1,e.2.2.2.1,e.2.2.2.2.1,e.2.2.2.2.2)) (fun i e=>EntI kind name (64*i) e) (by
   intro e i hi k
   have n:i<(l.map (·.1)).length:=by simpa using hi
   have o:i<(l.map (·.2)).length:=by simpa using hi
   have ew:IntKind.wrap .i64 ((i:Int)+1)=((i+1:Nat):Int):=by rw[bS (by omega) (by omega)];omega
   have ex:bV (l.map (·.1)) (i:Int)=some (l[i]).1:=by rw[dP n];simp
   simp only[wT]
   rw[if_pos (by simp only[j6];omega),dP o]
   simp only[j0,ew,dC,mB]
   by_cases hs:kind≠3/\(l[i]).2.1≠pkg
   .rw[if_pos (show(kind !=3)=true by simp[hs.1])]
    simp only[j0]
    rw[if_pos (by simp[hs.2]),qAg hs.1 hs.2]
    refine⟨rfl,?_⟩
    obtain⟨g,c,a,d⟩:=k
    exact⟨g,c,a,by omega⟩
   .have d:kind=3\/(l[i]).2.1=pkg:=by
     by_cases h:kind=3
     .exact .inl h
     exact .inr (Decidable.byContradiction fun c=>hs ⟨h,c⟩)
    have a:=qFq (N:=N) (P:=(l.map (·.1),l.map (·.2))) (s1:=((i:Int),e.1,e.2.2.2.1,e.2.2.2.2.1,e.2.2.2.2.2)) (x:=(l[i]).2) (path:=(l[i]).1) (pkg:=pkg) ex d (s _ (jW hi)) r (b:=64*i) (by omega) k
    have q:(if(kind !=3)=true then some (!decide ((l[i]).2.1=pkg)) else some false:Option Bool)=some false:=by
     rcases d with h|h
     .rw[if_neg (by simp[h])]
     by_cases p:kind=3
     .rw[if_neg (by simp[p])]
     rw[if_pos (by simp[p]),jL h];rfl
    rw[q]
    simp only[j0,j9,jC,a.1]
    refine⟨trivial,?_⟩
    rw[show 64*(i+1)=64*i+64 by omega]
    exact a.2) (by
   intro e _
   simp only[wT]
   rw[if_neg (by simp)]) l.length 0 N (qH kind pkg name) (by omega) (by omega) ⟨rfl,rfl,Int.le_refl _,Int.le_refl _⟩
 rw[kA,UE] at h
 have a:(if(kind==3)=true then some (⟨#[]⟩:BA) else some pkg)=some (qH kind pkg name).1:=by
  unfold qH
  by_cases h:kind=3
  .rw[if_pos (by simp[h]),if_pos h];rfl
  rw[if_neg (by simp[h]),if_neg h]
 rw[a]
 simp only[j0]
 refine Eq.trans (congrArg (fun z=>Option.bind z _) (show aK (wT N (l.map (·.1),l.map (·.2)) kind pkg name) N (0,(qH kind pkg name).1,(⟨#[]⟩:BA),0,0)=_ from h.1)) ?_
 have g:=h.2.1
 have c:=h.2.2.1
 unfold iK
 simp only[j0]
 exact congrArg some (Prod.ext rfl (Prod.ext g.symm (Prod.ext c.symm rfl)))
theorem OY(L:List bL):(sW L).length<=64/\∀x∈sW L,x.2.2.2.length<=64:=by
 unfold sW
 by_cases hc:eZ L=0
 .rw[if_pos hc]
  refine⟨fH (KU L) (nI.1 hc).1,fun x a=> ?_⟩
  obtain⟨f,_,_,rfl⟩:=OU a
  exact NT
 rw[if_neg hc];exact⟨jZ _,fun x a=>by cases a⟩
theorem qFw{N:Nat}{L:List bL}(kind:Int)(pkg name:BA)(a:1000005<N):FM N L kind pkg name=some (CT L kind pkg name):=by
 simp only[FM,xU (show 100<N by omega),j0]
 unfold CT
 by_cases hc:eZ L=0
 .rw[if_neg (by simp[hc]),if_pos hc,VO a]
  simp only[j0]
  rw[WP kind pkg name (OY L).1 (OY L).2 (by omega)]
  simp only[j0]
  rw[show sW L=dQ L by unfold sW;rw[if_pos hc]]
 rw[if_pos (by simpa using hc),if_neg hc];rfl
end
section
open Go Go.Dc
def Ok{α:Type}(x:Option α)(Q:α->Prop):Prop:=∃a,x=some a/\Q a
section
variable {α β γ:Type} {Q:β->Prop}
theorem Ok.mk{a:β}(h:Q a):Ok (some a) Q:=⟨a,rfl,h⟩
theorem Ok.bind{x:Option α}{P:α->Prop}{f:α->Option β}(h:Ok x P)(k:∀a,P a->Ok (f a) Q):Ok (x.bind f) Q:=by
 obtain⟨a,rfl,b⟩:=h
 exact k a b
theorem Ok.mono{x:Option β}{P:β->Prop}(h:Ok x P)(k:∀a,P a->Q a):Ok x Q:=by
 obtain⟨a,e,b⟩:=h
 exact⟨a,e,k a b⟩
theorem Ok.assoc{x:Option α}{g:α->Option γ}{f:γ->Option β}(h:Ok (x.bind fun a=>(g a).bind f) Q):Ok ((x.bind g).bind f) Q:=by
 rw[gP];exact h
theorem Ok.ite{c:Prop}[Decidable c]{x y:Option β}(a:c->Ok x Q)(b:¬c->Ok y Q):Ok (if c then x else y) Q:=by
 by_cases h:c
 .rw[if_pos h];exact a h
 rw[if_neg h];exact b h
theorem Ok.iteb{c:Prop}[Decidable c]{x y:Option α}{f:α->Option β}(a:c->Ok (x.bind f) Q)(b:¬c->Ok (y.bind f) Q):Ok ((if c then x else y).bind f) Q:=by
 by_cases h:c
 .rw[if_pos h];exact a h
 rw[if_neg h];exact b h
theorem Ok.tt[Decidable (true=true)]{x y:Option β}(h:Ok x Q):Ok (if true=true then x else y) Q:=by rw[if_pos rfl];exact h
theorem Ok.ff[Decidable (false=true)]{x y:Option β}(h:Ok y Q):Ok (if false=true then x else y) Q:=by rw[if_neg gE];exact h
theorem Ok.ttb[Decidable (true=true)]{x y:Option α}{f:α->Option β}(h:Ok (x.bind f) Q):Ok ((if true=true then x else y).bind f) Q:=by rw[if_pos rfl];exact h
theorem Ok.ffb[Decidable (false=true)]{x y:Option α}{f:α->Option β}(h:Ok (y.bind f) Q):Ok ((if false=true then x else y).bind f) Q:=by rw[if_neg gE];exact h
theorem Ok.someb{a:α}{f:α->Option β}(h:Ok (f a) Q):Ok ((some a).bind f) Q:=h
theorem Ok.mapb{a:α}{g:α->γ}{f:γ->Option β}(h:Ok (f (g a)) Q):Ok (((some a).map g).bind f) Q:=h
theorem Ok.cat{x y:BA}{f:BA->Option β}(a:x.size+y.size<=1000000000)(h:∀s:BA,s.size=x.size+y.size->Ok (f s) Q):Ok ((cZ x y).bind f) Q:=by
 unfold cZ
 rw[if_pos (by simp only[maxLen];omega)]
 exact h _ (by simp)
theorem Ok.app{b:Nat}{l k:List α}{f:List α->Option β}(c:(l.length+k.length)*b<=140737488355328)(a:0<b)(h:Ok (f (l++k)) Q):Ok ((dY b l k).bind f) Q:=by
 rw[iB c a];exact h
theorem Ok.loop{σ:Type}{f:σ->Option (σ⊕α)}{g:α->Option β}{s:σ}{N:Nat}(I:σ->Prop)(μ:σ->Nat)(R:α->Prop)
  (h:∀s,I s->Ok (f s) fun r=>match r with| .inl s'=>I s'/\μ s'<μ s| .inr b=>R b) (d:I s) (e:μ s<N) (k:∀b,R b->Ok (g b) Q):Ok ((aK f N s).bind g) Q:=by
 obtain⟨b,c,a⟩:=LI I μ R (fun s d=>by
  obtain⟨r,c,a⟩:=h s d
  cases r with
  |inl s'=>exact .inr ⟨s',c,a.1,a.2⟩
  |inr b=>exact .inl ⟨b,c,a⟩) N s d e
 rw[c];exact k b a
end
theorem mT(a:Array UInt8):(⟨a⟩:BA).size=a.size:=rfl
theorem qKx{N:Nat}{v n:Int}(d:n<=9223372036854775807):∃r,FP N v n=some r/\0<=r/\(1<=n->r<n):=by
 simp only[FP]
 by_cases h:n<=1
 .exact⟨0,by simp[h],by omega,by omega⟩
 have a:n≠0:=by omega
 have b:=Int.tmod_lt_of_pos v (show 0<n by omega)
 have c:=Int.lt_tmod_of_pos v (show 0<n by omega)
 simp only[h,decide_false,j9,jC,MI,a,j0]
 by_cases h3:Int.tmod v n<0
 .refine⟨Int.tmod v n+n,?_,by omega,by omega⟩
  simp only[h3,decide_true,jE,j0]
  rw[bS (by omega) (by omega)]
 exact⟨Int.tmod v n,by simp only[h3,decide_false,j9,jC,j0],by omega,by omega⟩
theorem LJ{N:Nat}{l:List Int}{a n:Int}(c:0<=a)(o:a<4611686018427387904)(f:n<=9223372036854775807):∃r,mF N (l,a) n=some ((l,a+1),r)/\0<=r/\(1<=n->r<n):=by
 simp only[mF]
 have b:∃v,(if(decide (a<(List.length l:Int)))=true then((bV l a).bind fun k=>some k) else(some (Int.tmod (IntKind.wrap .i64 (a*7)) 11)):Option Int)=some v:=by
  by_cases h:a<(l.length:Int)
  .exact⟨_,by simp only[h,decide_true,jE];rw[LG c (by omega)];rfl⟩
  exact⟨_,by simp only[h,decide_false,j9,jC];rfl⟩
 obtain⟨v,b⟩:=b
 obtain⟨r,g,d,e⟩:=qKx (N:=N) (v:=v) f
 exact⟨r,by simp only[b,j0,g];rw[bS (by omega) (by omega)],d,e⟩
section
variable {β:Type} {Q:β->Prop} {N:Nat} {l:List Int} {a:Int}
theorem Ok.next{n:Int}{f:(List Int×Int)×Int->Option β}(d:0<=a)(e:a<4611686018427387904)(g:1<=n)(o:n<=1000000)(h:∀r,0<=r->r<n->Ok (f ((l,a+1),r)) Q):Ok ((mF N (l,a) n).bind f) Q:=by
 obtain⟨r,k,b,c⟩:=LJ (N:=N) (l:=l) d e (show n<=9223372036854775807 by omega)
 rw[k];exact h r b (c g)
theorem Ok.chance{n m:Int}{f:(List Int×Int)×Bool->Option β}(b:0<=a)(c:a<4611686018427387904)(o:1<=m)(e:m<=1000000)(h:∀r,Ok (f ((l,a+1),r)) Q):Ok ((pS N (l,a) n m).bind f) Q:=by
 obtain⟨r,d,g,k⟩:=LJ (N:=N) (l:=l) b c (show m<=9223372036854775807 by omega)
 simp only[pS,d,j0]
 exact h _
theorem Ok.one{L:List BA}{f:(List Int×Int)×BA->Option β}(e:0<=a)(g:a<4611686018427387904)(o:0<L.length)(n:L.length<1000)(h:∀x∈L,Ok (f ((l,a+1),x)) Q):Ok ((iY N (l,a) L).bind f) Q:=by
 obtain⟨r,k,d,c⟩:=LJ (N:=N) (l:=l) e g (show(L.length:Int)<=9223372036854775807 by omega)
 have c:=c (by omega)
 have b:r.toNat<L.length:=by omega
 simp only[iY]
 rw[if_neg (by rw[kE];omega),k]
 simp only[j0]
 rw[LG d b]
 exact h _ (jW b)
theorem Ok.oneP{L:List BA}{f:(List Int×Int)×BA->Option β}(d:0<=a)(e:a<4611686018427387904)(g:decide ((List.length L:Int)>0)=true)(b:L.length<1000)(c:∀x∈L,x.size<=12)(h:∀x:BA,x.size<=12->Ok (f ((l,a+1),x)) Q):Ok ((iY N (l,a) L).bind f) Q:=
 Ok.one d e (by have:=gC g;omega) b fun x k=>h x (c x k)
theorem Ok.oneS{L:List BA}{f:(List Int×Int)×BA->Option β}(c:0<=a)(d:a<4611686018427387904)(b:(decide (0<L.length)&&decide (L.length<1000)&&L.all fun x=>decide (x.size<=12))=true)(h:∀x:BA,x.size<=12->Ok (f ((l,a+1),x)) Q):Ok ((iY N (l,a) L).bind f) Q:=by
 simp only[jR,j6] at b
 exact Ok.one c d b.1.1 b.1.2 fun x e=>h x (by simpa using jX.1 b.2 x e)
theorem Ok.pick{L:List Int}{f:(List Int×Int)×Int->Option β}(e:0<=a)(g:a<4611686018427387904)(o:0<L.length)(n:L.length<1000)(h:∀x∈L,Ok (f ((l,a+1),x)) Q):Ok ((sG N (l,a) L).bind f) Q:=by
 obtain⟨r,k,d,c⟩:=LJ (N:=N) (l:=l) e g (show(L.length:Int)<=9223372036854775807 by omega)
 have c:=c (by omega)
 have b:r.toNat<L.length:=by omega
 simp only[sG]
 rw[if_neg (by rw[kE];omega),k]
 simp only[j0]
 rw[LG d b]
 exact h _ (jW b)
theorem Ok.pickS{L:List Int}{f:(List Int×Int)×Int->Option β}(c:0<=a)(d:a<4611686018427387904)(b:(decide (0<L.length)&&decide (L.length<1000)&&L.all fun x=>decide (0<=x/\x<=9007199254740992))=true)(h:∀x:Int,0<=x->x<=9007199254740992->Ok (f ((l,a+1),x)) Q):Ok ((sG N (l,a) L).bind f) Q:=by
 simp only[jR,j6] at b
 exact Ok.pick c d b.1.1 b.1.2 fun x e=>by
  have:=jX.1 b.2 x e
  simp only[j6] at this
  exact h x this.1 this.2
theorem PK:∀(k D:Nat) (x:Int),k<D->k<=100->0<=x->x<10^(k+1)->x<=9223372036854775806->Ok (EW N D x) fun s=>s.size<=k+1
 |_,0,_,h,_,_,_,_=>absurd h (kY _)
 |k,D+1,x,l,f,a,e,g=>by
  show Ok (ET N (EW N D) x) _
  unfold ET
  have b:ByteArray.size (⟨#[48,49,50,51,52,53,54,55,56,57]⟩:BA)=10:=rfl
  by_cases hx:x<10
  .rw[if_pos (by simpa using hx),bS (by omega) (by omega),GU a (by omega) (by omega)]
   refine Ok.mk ?_
   simp only[ByteArray.size_extract,b];omega
  rw[if_neg (by simpa using hx)]
  obtain⟨k,rfl⟩:∃k',k=k'+1:=by
   cases k with
   |zero=>simp at e;omega
   |succ k=>exact⟨k,rfl⟩
  obtain⟨D,rfl⟩:∃D',D=D'+1:=⟨D-1,by omega⟩
  have c:Int.tdiv x 10=x/10:=Int.tdiv_eq_ediv_of_nonneg a
  have d:Int.tmod x 10=x%10:=Int.tmod_eq_emod_of_nonneg a
  have n:(10:Int)^(k+1+1)=10*10^(k+1):=by rw[Int.pow_succ];omega
  rw[c,d,bS (by omega) (by omega)]
  refine Ok.bind (PK k (D+1) (x/10) (by omega) (by omega) (by omega) (by omega) (by omega)) fun s o=> ?_
  refine Ok.bind (PK 0 (D+1) (x%10) (by omega) (by omega) (by omega) (by simp;omega) (by omega)) fun t p=> ?_
  exact Ok.cat (by omega) fun u q=>Ok.mk (by omega)
theorem qIp{x:Int}(a:0<=x)(b:x<=9007199254740992)(c:100<N):Ok (rQ N x) fun s=>s.size<=16:=
 PK 15 N x (by omega) (by omega) a (by rw[show(10:Int)^(15+1)=10000000000000000 from by kernel_rfl];omega) (by omega)
theorem Ok.digits{x:Int}{f:BA->Option β}(a:0<=x)(b:x<=9007199254740992)(c:100<N)(h:∀s:BA,s.size<=16->Ok (f s) Q):Ok ((rQ N x).bind f) Q:=Ok.bind (qIp a b c) h
end
def nL:Nat->Nat
 |0=>8
 |d+1=>3*nL d+8
def qE:Nat->Nat
 |0=>22
 |d+1=>3*qE d+20
theorem YF:∀d,22<=qE d
 |0=>jN _
 |d+1=>by have:=YF d;simp only[qE];omega
section
variable {N:Nat} {l:List Int}
def yJ(N:Nat)(l:List Int)(E:(List Int×Int)->Int->List BA->Option ((List Int×Int)×BA))(d:Nat)(ps:List BA):Prop:=
 ∀a:Int,0<=a->a+nL d<2000000000000000000->Ok (E (l,a) (d:Int) ps) fun y=>∃a' s,y=((l,a'),s)/\a<=a'/\a'<=a+nL d/\s.size<=qE d
theorem Ok.expr{β:Type}{Q:β->Prop}{E:(List Int×Int)->Int->List BA->Option ((List Int×Int)×BA)}{d:Nat}{ps:List BA}(n:yJ N l E d ps){a:Int}{f:(List Int×Int)×BA->Option β}(g:0<=a)(k:a+nL d<2000000000000000000)
  (h:∀(a':Int) (s:BA),a<=a'->a'<=a+nL d->s.size<=qE d->Ok (f ((l,a'),s)) Q):Ok ((E (l,a) (d:Int) ps).bind f) Q:=
 Ok.bind (n a g k) fun y o=>by
  obtain⟨a',s,rfl,b,c,e⟩:=o
  exact h a' s b c e
theorem VL(d:Nat)(a:d<=5):nL d<=10000/\qE d<=20000:=by
 match d,a with
 |0,_=>decide
 |1,_=>decide
 |2,_=>decide
 |3,_=>decide
 |4,_=>decide
 |5,_=>decide
set_option maxHeartbeats 4000000 in
theorem qIk{E:(List Int×Int)->Int->List BA->Option ((List Int×Int)×BA)}{d:Nat}{ps:List BA}(g:d=0)(c:ps.length<1000)(b:∀x∈ps,x.size<=12)(e:100<N):yJ N l (xF N E) d ps:=by
 subst g
 intro a n o
 have f:nL 0=8:=rfl
 have k:qE 0=22:=rfl
 simp only[xF,f,k,tQ,EM]
 rw[if_pos (show decide (((0:Nat):Int)<=0)=true by decide)]
 repeat' first
  |with_reducible apply Ok.tt
  |with_reducible apply Ok.ff
  |with_reducible apply Ok.ttb
  |with_reducible apply Ok.ffb
  |with_reducible apply Ok.assoc
  |((with_reducible apply Ok.iteb)<;>intro _)
  |((with_reducible apply Ok.ite)<;>intro _)
  |with_reducible apply Ok.someb
  |with_reducible apply Ok.mapb
  |((with_reducible refine Ok.mk ⟨_,_,rfl,?_,?_,?_⟩)<;>omega)
  |((with_reducible refine Ok.next ?_ ?_ ?_ ?_ (fun _ _ _=> ?_))<;>try omega)
  |((with_reducible refine Ok.chance ?_ ?_ ?_ ?_ (fun _=> ?_))<;>try omega)
  |((with_reducible refine Ok.pickS ?_ ?_ (by decide) (fun _ _ _=> ?_))<;>try omega)
  |((with_reducible refine Ok.oneP ?_ ?_ (by assumption) c b (fun _ _=> ?_))<;>try omega)
  |((with_reducible refine Ok.oneS ?_ ?_ (by decide) (fun _ _=> ?_))<;>try omega)
  |((with_reducible refine Ok.digits ?_ ?_ e (fun _ _=> ?_))<;>try omega)
  |((with_reducible refine Ok.cat ?_ (fun _ h=> ?_))<;>simp only[mT,jO,jA,jB,Nat.reduceAdd] at* <;>try omega)
  |((with_reducible refine Ok.cat ?_ (fun _ _=> ?_))<;>try omega)
  |(apply Ok.iteb<;>intro _)
  |dsimp only
 all_goals omega
theorem Ok.pick01{β:Type}{Q:β->Prop}{a:Int}{f:(List Int×Int)×Int->Option β}(b:0<=a)(c:a<4611686018427387904)(h:∀x:Int,x=0\/x=1->Ok (f ((l,a+1),x)) Q):Ok ((sG N (l,a) [0,0,0,1]).bind f) Q:=
 Ok.pick b c (by decide) (by decide) fun x d=>h x (by simp at d;omega)
theorem Ok.exprloop{β:Type}{Q:β->Prop}{E:(List Int×Int)->Int->List BA->Option ((List Int×Int)×BA)}{d:Nat}{ps:List BA}(r:yJ N l E d ps)(x:d<=5){p1:Int}(y:IntKind.wrap .i64 (p1-1)=(d:Int)){s:BA}{n a:Int}{f:BA×List Int×Int->Option β}
  (D:n=0\/n=1) (p:0<=a) (q:a+nL d<2000000000000000000) (F:s.size<=100000000) (B:100<N) (h:∀(s':BA) (a':Int),a<=a'->a'<=a+nL d->s'.size<=s.size+qE d+2->Ok (f (s',l,a')) Q):Ok ((aK (EZ N E p1 ps) N (s,n,l,a)).bind f) Q:=by
 have A:=VL d x
 refine Ok.loop (fun st=>∃s' n' a',st=(s',n',l,a')/\((n'=n/\a'=a/\s'=s)\/(n'=0/\a<=a'/\a'<=a+nL d/\s'.size<=s.size+qE d+2))) (fun st=>st.2.1.toNat) (fun b=>∃s' a',b=(s',l,a')/\a<=a'/\a'<=a+nL d/\s'.size<=s.size+qE d+2) ?_ ⟨s,n,a,rfl,.inl ⟨rfl,rfl,rfl⟩⟩ (by simp only;omega) ?_
 .rintro _ ⟨s',n',a',rfl,k⟩
  simp only[EZ]
  by_cases hn0:n'>0
  .rw[if_pos (by simpa using hn0),y]
   have k:n'=n/\a'=a/\s'=s:=k.resolve_right fun h=>by omega
   obtain⟨rfl,rfl,rfl⟩:=k
   refine Ok.expr r p q fun o t c e g=> ?_
   refine Ok.cat (by simp only[mT,jO,jA,jB,Nat.reduceAdd];omega) fun u z=> ?_
   simp only[mT,jO,jA,jB,Nat.reduceAdd] at z
   refine Ok.cat (by omega) fun v G=> ?_
   refine Ok.mk ⟨⟨v,_,o,rfl,.inr ⟨by rw[bS (by omega) (by omega)];omega,c,e,by omega⟩⟩,?_⟩
   simp only
   rw[bS (by omega) (by omega)]
   omega
  rw[if_neg (by simpa using hn0)]
  refine Ok.mk ⟨s',a',rfl,?_⟩
  rcases k with ⟨_,rfl,rfl⟩|⟨_,c,e,g⟩
  .omega
  exact⟨c,e,g⟩
 rintro _ ⟨s',a',rfl,c,e,g⟩
 exact h s' a' c e g
set_option maxHeartbeats 8000000 in
theorem qJk{E:(List Int×Int)->Int->List BA->Option ((List Int×Int)×BA)}{d:Nat}{ps:List BA}(c:yJ N l E d ps)(s:d<=4)(f:ps.length<1000)(b:∀x∈ps,x.size<=12)(e:100<N):yJ N l (xF N E) (d+1) ps:=by
 intro a q r
 have k:nL (d+1)=3*nL d+8:=rfl
 have n:qE (d+1)=3*qE d+20:=rfl
 have o:=YF d
 have p:=VL d (by omega)
 have g:IntKind.wrap .i64 (((d+1:Nat):Int)-1)=(d:Int):=by rw[bS (by omega) (by omega)];omega
 simp only[xF,k,n,tQ,EM,AB,g]
 repeat' first
  |with_reducible apply Ok.tt
  |with_reducible apply Ok.ff
  |with_reducible apply Ok.ttb
  |with_reducible apply Ok.ffb
  |with_reducible apply Ok.assoc
  |((with_reducible apply Ok.iteb)<;>intro _)
  |((with_reducible apply Ok.ite)<;>intro _)
  |with_reducible apply Ok.someb
  |with_reducible apply Ok.mapb
  |((with_reducible refine Ok.mk ⟨_,_,rfl,?_,?_,?_⟩)<;>omega)
  |((with_reducible refine Ok.next ?_ ?_ ?_ ?_ (fun _ _ _=> ?_))<;>try omega)
  |((with_reducible refine Ok.chance ?_ ?_ ?_ ?_ (fun _=> ?_))<;>try omega)
  |((with_reducible refine Ok.pick01 ?_ ?_ (fun _ _=> ?_))<;>try omega)
  |((with_reducible refine Ok.exprloop c (by omega) g (by assumption) ?_ ?_ ?_ e (fun _ _ _ _ _=> ?_))<;>try omega)
  |((with_reducible refine Ok.expr c ?_ ?_ (fun _ _ _ _ _=> ?_))<;>try omega)
  |((with_reducible refine Ok.pickS ?_ ?_ (by decide) (fun _ _ _=> ?_))<;>try omega)
  |((with_reducible refine Ok.oneP ?_ ?_ (by assumption) f b (fun _ _=> ?_))<;>try omega)
  |((with_reducible refine Ok.oneS ?_ ?_ (by decide) (fun _ _=> ?_))<;>try omega)
  |((with_reducible refine Ok.digits ?_ ?_ e (fun _ _=> ?_))<;>try omega)
  |((with_reducible refine Ok.cat ?_ (fun _ h=> ?_))<;>simp only[mT,jO,jA,jB,Nat.reduceAdd] at* <;>try omega)
  |((with_reducible refine Ok.cat ?_ (fun _ _=> ?_))<;>try omega)
  |(apply Ok.iteb<;>intro _)
  |dsimp only
 all_goals omega
theorem ZZ:∀(d D:Nat) (ps:List BA),d<D->d<=5->ps.length<1000->(∀x∈ps,x.size<=12)->100<N->yJ N l (FK N D) d ps
 |_,0,_,h,_,_,_,_=>absurd h (kY _)
 |0,D+1,ps,_,_,a,b,c=>qIk (E:=FK N D) rfl a b c
 |d+1,D+1,ps,h,e,a,b,c=>qJk (ZZ d D ps (by omega) (by omega) a b c) (by omega) a b c
theorem YQ{d:Nat}{ps:List BA}(e:d<=5)(a:ps.length<1000)(b:∀x∈ps,x.size<=12)(c:100<N):yJ N l (xJ N) d ps:=ZZ d N ps (by omega) e a b c
theorem Ok.expr3{β:Type}{Q:β->Prop}{ps:List BA}{a:Int}{f:(List Int×Int)×BA->Option β}(g:100<N)(e:0<=a)(o:a+10000<2000000000000000000)(b:ps.length<=2/\∀x∈ps,x.size<=12)
  (h:∀(a':Int) (s:BA),a<=a'->a'<=a+10000->s.size<=854->Ok (f ((l,a'),s)) Q):Ok ((xJ N (l,a) 3 ps).bind f) Q:=
 Ok.expr (d:=3) (YQ (by omega) (by omega) b.2 g) e (by have:nL 3=320:=rfl;have:nL 2=104:=rfl;omega) fun a' s c k n=>h a' s c (by have:nL 3=320:=rfl;omega) (by have:qE 3=854:=rfl;omega)
theorem Ok.expr2{β:Type}{Q:β->Prop}{ps:List BA}{a:Int}{f:(List Int×Int)×BA->Option β}(g:100<N)(e:0<=a)(o:a+10000<2000000000000000000)(b:ps.length<=2/\∀x∈ps,x.size<=12)
  (h:∀(a':Int) (s:BA),a<=a'->a'<=a+10000->s.size<=854->Ok (f ((l,a'),s)) Q):Ok ((xJ N (l,a) 2 ps).bind f) Q:=
 Ok.expr (d:=2) (YQ (by omega) (by omega) b.2 g) e (by have:nL 3=320:=rfl;have:nL 2=104:=rfl;omega) fun a' s c k n=>h a' s c (by have:nL 2=104:=rfl;omega) (by have:qE 2=278:=rfl;omega)
set_option maxHeartbeats 8000000 in
theorem qMa{a:Int}(b:100<N)(c:0<=a)(d:a<1000000000000000000):Ok (xK N (l,a)) fun y=>∃a' s,y=((l,a'),s)/\a<=a'/\a'<=a+10010/\s.size<=890:=by
 simp only[xK,KA,tQ,AB]
 repeat' first
  |with_reducible apply Ok.tt
  |with_reducible apply Ok.ff
  |with_reducible apply Ok.ttb
  |with_reducible apply Ok.ffb
  |with_reducible apply Ok.assoc
  |((with_reducible apply Ok.iteb)<;>intro _)
  |((with_reducible apply Ok.ite)<;>intro _)
  |with_reducible apply Ok.someb
  |with_reducible apply Ok.mapb
  |((with_reducible refine Ok.mk ⟨_,_,rfl,?_,?_,?_⟩)<;>omega)
  |((with_reducible refine Ok.next ?_ ?_ ?_ ?_ (fun _ _ _=> ?_))<;>try omega)
  |((with_reducible refine Ok.chance ?_ ?_ ?_ ?_ (fun _=> ?_))<;>try omega)
  |((with_reducible refine Ok.expr3 b ?_ ?_ ?_ (fun _ _ _ _ _=> ?_))<;>first|omega|exact⟨by decide,by decide⟩|skip)
  |((with_reducible refine Ok.expr2 b ?_ ?_ ?_ (fun _ _ _ _ _=> ?_))<;>first|omega|exact⟨by decide,by decide⟩|skip)
  |(with_reducible refine Ok.app (by simp) (by decide) ?_)
  |((with_reducible refine Ok.pickS ?_ ?_ (by decide) (fun _ _ _=> ?_))<;>try omega)
  |((with_reducible refine Ok.oneS ?_ ?_ (by decide) (fun _ _=> ?_))<;>try omega)
  |((with_reducible refine Ok.digits ?_ ?_ b (fun _ _=> ?_))<;>try omega)
  |((with_reducible refine Ok.cat ?_ (fun _ h=> ?_))<;>simp only[mT,jO,jA,jB,Nat.reduceAdd] at* <;>try omega)
  |((with_reducible refine Ok.cat ?_ (fun _ _=> ?_))<;>try omega)
  |(apply Ok.iteb<;>intro _)
  |dsimp only
 all_goals omega
theorem qNl{L:List BA}{x:BA}(a:L.length<1000000)(c:L.length<N):Ok (xL N L x) fun _=>True:=by
 unfold xL
 refine Ok.loop (fun st=>∃j:Nat,st=(j:Int)/\j<=L.length) (fun st=>L.length-st.toNat) (fun _=>True) ?_ ⟨0,rfl,jZ _⟩ (by show L.length-(0:Int).toNat<N;omega) ?_
 .rintro _ ⟨j,rfl,d⟩
  simp only[JZ]
  by_cases h:j<L.length
  .rw[if_pos (by simpa using h),dP h]
   simp only[j0]
   refine Ok.ite (fun _=>Ok.mk trivial) fun _=>Ok.mk ⟨⟨j+1,by rw[bS (by omega) (by omega)];omega,by omega⟩,?_⟩
   rw[bS (by omega) (by omega)];omega
  rw[if_neg (by simpa using h)];exact Ok.mk trivial
 intro b _
 cases b<;>exact Ok.mk trivial
theorem Ok.has{β:Type}{Q:β->Prop}{L:List BA}{x:BA}{f:Bool->Option β}(a:L.length<1000000)(c:L.length<N)(h:∀b,Ok (f b) Q):Ok ((xL N L x).bind f) Q:=Ok.bind (qNl a c) fun b _=>h b
theorem Ok.decl{β:Type}{Q:β->Prop}{a:Int}{f:(List Int×Int)×BA->Option β}(k:100<N)(e:0<=a)(g:a<1000000000000000000)
  (h:∀(a':Int) (s:BA),a<=a'->a'<=a+10010->s.size<=890->Ok (f ((l,a'),s)) Q):Ok ((xK N (l,a)).bind f) Q:=
 Ok.bind (qMa k e g) fun y n=>by
  obtain⟨a',s,rfl,b,c,d⟩:=n
  exact h a' s b c d
theorem qLh{β:Type}{Q:β->Prop}{y:(List Int×Int)×BA}{f:BA->Option β}(d:y.2.size<=890)(a:3000<N)(h:∀s:BA,Ok (f s) Q):Ok ((aK (EO N y) N (y.2,0)).bind f) Q:=by
 refine Ok.loop (fun st=>∃j:Nat,st.2=(j:Int)/\j<=y.2.size) (fun st=>y.2.size-st.2.toNat) (fun _=>True) ?_ ⟨0,rfl,jZ _⟩ (by simp only;omega) (fun b _=>h b)
 rintro⟨s,_⟩ ⟨j,rfl,c⟩
 simp only[EO]
 by_cases hlt:j<y.2.size
 .rw[if_pos (by simpa using hlt),OZ hlt]
  simp only[j0]
  refine Ok.bind (P:=fun _=>True) (Ok.ite (fun _=>Ok.mk trivial) fun _=>Ok.mk trivial) fun b _=> ?_
  refine Ok.ite (fun _=> ?_) fun _=> ?_
  .rw[GU (by omega) (by omega) (by omega)];exact Ok.mk trivial
  refine Ok.mk ⟨⟨j+1,by simp only;rw[bS (by omega) (by omega)];omega,by omega⟩,?_⟩
  simp only;rw[bS (by omega) (by omega)];omega
 rw[if_neg (by simpa using hlt)];exact Ok.mk trivial
theorem OS{a:Int}{pk:BA}(D:3000<N)(A:0<=a)(h1:a<100000000000000000)(hp:pk.size<=12):Ok (vC N (l,a) pk) fun y=>∃a' s,y=((l,a'),s)/\a<=a'/\a'<=a+100000/\s.size<=4700:=by
 simp only[vC]
 refine Ok.cat (by simp only[mT,jO,jA,jB,Nat.reduceAdd];omega) fun s1 q=> ?_
 simp only[mT,jO,jA,jB,Nat.reduceAdd] at q
 refine Ok.cat (by simp only[mT,jO,jA,jB,Nat.reduceAdd];omega) fun s2 u=> ?_
 simp only[mT,jO,jA,jB,Nat.reduceAdd] at u
 refine Ok.chance A (by omega) (by omega) (by omega) fun c=> ?_
 refine Ok.bind (P:=fun s:BA=>s.size<=60) (Ok.ite (fun _=>Ok.cat (by simp only[mT,jO,jA,jB,Nat.reduceAdd];omega) fun s3 h=>Ok.mk (by simp only[mT,jO,jA,jB,Nat.reduceAdd] at h;omega)) fun _=>Ok.mk (by omega)) fun R h=> ?_
 dsimp only
 refine Ok.next (by omega) (by omega) (by omega) (by omega) fun r z g2=> ?_
 dsimp only
 -- imports
 refine Ok.loop (fun st=>∃s L n a',st=(s,L,n,l,a')/\0<=n/\n<=2/\(L.length:Int)+n<=2/\(s.size:Int)<=60+30*(2-n)/\a<=a'/\a'<=a+10+(2-n)) (fun st=>st.2.2.1.toNat) (fun b=>∃s a',b=(s,l,a')/\s.size<=120/\a<=a'/\a'<=a+20) ?_ ⟨R,[],r,a+1+1,rfl,z,by omega,by simp only[jB];omega,by omega,by omega,by omega⟩ (by simp only;omega) ?_
 .rintro _ ⟨s,L,n,a',rfl,F,G,H,K,f,M⟩
  simp only[JU,uX]
  by_cases hn:n>0
  .rw[if_pos (by simpa using hn)]
   refine Ok.assoc (Ok.someb ?_)
   refine Ok.assoc (Ok.oneS (by omega) (by omega) (by decide) fun x E=> ?_)
   dsimp only
   refine Ok.assoc (Ok.bind (P:=fun _=>True) (Ok.ite (fun _=>Ok.has (by omega) (by omega) fun b=>Ok.mk trivial) fun _=>Ok.mk trivial) fun o4 _=> ?_)
   refine Ok.iteb (fun _=> ?_) fun _=> ?_
   .refine Ok.assoc (Ok.app (by simp only[jA,jB];omega) (by decide) ?_)
    refine Ok.assoc (Ok.cat (by simp only[mT,jO,jA,jB,Nat.reduceAdd];omega) fun t1 k=> ?_)
    simp only[mT,jO,jA,jB,Nat.reduceAdd] at k
    refine Ok.assoc (Ok.cat (by simp only[mT,jO,jA,jB,Nat.reduceAdd];omega) fun t2 e=> ?_)
    simp only[mT,jO,jA,jB,Nat.reduceAdd] at e
    refine Ok.assoc (Ok.cat (by omega) fun g v=>Ok.someb (Ok.mk ?_))
    dsimp only
    rw[bS (by omega) (by omega)]
    exact⟨⟨g,_,_,_,rfl,by omega,by omega,by simp only[jF,jA,jB];omega,by omega,by omega,by omega⟩,by omega⟩
   refine Ok.someb (Ok.mk ?_)
   dsimp only
   rw[bS (by omega) (by omega)]
   exact⟨⟨s,_,_,_,rfl,by omega,by omega,by omega,by omega,by omega,by omega⟩,by omega⟩
  rw[if_neg (by simpa using hn)]
  exact Ok.mk ⟨s,a',rfl,by omega,f,by omega⟩
 rintro _ ⟨s,p,rfl,q1,q2,q3⟩
 dsimp only
 refine Ok.next (by omega) (by omega) (by omega) (by omega) fun r2 g3 g4=> ?_
 dsimp only
 -- declarations
 refine Ok.loop (fun st=>∃s L n a',st=(s,L,n,l,a')/\0<=n/\n<=5/\(L.length:Int)+n<=5/\(s.size:Int)<=120+890*(5-n)/\a<=a'/\a'<=a+100+10020*(5-n)) (fun st=>st.2.2.1.toNat) (fun b=>∃s a',b=(s,l,a')/\s.size<=4580/\a<=a'/\a'<=a+60000) ?_ ⟨s,[],_,p+1,rfl,by rw[bS (by omega) (by omega)];omega,by rw[bS (by omega) (by omega)];omega,by rw[bS (by omega) (by omega)];simp only[jB];omega,by rw[bS (by omega) (by omega)];omega,by omega,by rw[bS (by omega) (by omega)];omega⟩ (by simp only;rw[bS (by omega) (by omega)];omega) ?_
 .rintro _ ⟨s,L,n,a',rfl,F,G,H,K,f,M⟩
  simp only[JT]
  by_cases hn:n>0
  .rw[if_pos (by simpa using hn)]
   refine Ok.assoc (Ok.decl (by omega) (by omega) (by omega) fun e d v1 v2 U=> ?_)
   refine Ok.assoc (qLh (y:=((l,e),d)) U D fun hd=> ?_)
   dsimp only
   refine Ok.assoc (Ok.bind (P:=fun o:Bool×List Int×Int=>o.2.1=l/\e<=o.2.2/\o.2.2<=e+1) (Ok.has (by omega) (by omega) fun b=>Ok.ite (fun _=>Ok.mk ⟨rfl,by simp only;omega,by simp only;omega⟩) fun _=>Ok.chance (by omega) (by omega) (by omega) (by omega) fun c=>Ok.mk ⟨rfl,by simp only;omega,by simp only;omega⟩) fun S B=> ?_)
   obtain⟨b9,l9,Z⟩:=S
   obtain⟨rfl,V,Y⟩:=B
   dsimp only at V Y ⊢
   refine Ok.iteb (fun _=> ?_) fun _=> ?_
   .refine Ok.assoc (Ok.app (by simp only[jA,jB];omega) (by decide) ?_)
    refine Ok.assoc (Ok.cat (by omega) fun g v=>Ok.someb (Ok.mk ?_))
    dsimp only
    rw[bS (by omega) (by omega)]
    exact⟨⟨g,_,_,_,rfl,by omega,by omega,by simp only[jF,jA,jB];omega,by omega,by omega,by omega⟩,by omega⟩
   refine Ok.someb (Ok.mk ?_)
   dsimp only
   rw[bS (by omega) (by omega)]
   exact⟨⟨s,_,_,_,rfl,by omega,by omega,by omega,by omega,by omega,by omega⟩,by omega⟩
  rw[if_neg (by simpa using hn)]
  exact Ok.mk ⟨s,a',rfl,by omega,f,by omega⟩
 rintro _ ⟨s,e,rfl,f,g,v⟩
 dsimp only
 refine Ok.chance (by omega) (by omega) (by omega) (by omega) fun c=> ?_
 dsimp only
 refine Ok.iteb (fun _=> ?_) fun _=> ?_
 .refine Ok.assoc (Ok.oneS (by omega) (by omega) (by decide) fun x E=> ?_)
  dsimp only
  refine Ok.assoc (Ok.cat (by omega) fun t k=>Ok.someb (Ok.mk ?_))
  dsimp only
  refine⟨_,_,rfl,?_,?_,?_⟩<;>omega
 refine Ok.someb (Ok.mk ?_)
 dsimp only
 refine⟨_,_,rfl,?_,?_,?_⟩<;>omega
end
theorem GN{N:Nat}{L:List bL}{p b:BA}(s:L.length<1000000)(n:Asc L):∀(d i M:Nat) (done:Bool) (acc:List bL),i+d=L.length->d<M->acc.length<=i+done.toNat->(done=true->∀f∈L.drop i,f.1≠p)->
  Ok (aK (AD N L (p,b)) M (done,(i:Int),acc)) fun o=>o.2.length<=L.length+1/\(if o.1=true then o.2 else o.2++[(p,b)])=acc++(if done=true then L.drop i else lW (L.drop i) p b)
 |_,_,0,_,_,_,h,_,_=>by omega
 |0,i,M+1,done,acc,v,_,g,_=>by
  refine⟨(done,acc),?_,by simp only;cases done<;>simp only[Bool.toNat_true,Bool.toNat_false] at g<;>omega,?_⟩
  .simp only[aK,AD]
   rw[if_neg (by simp only[j6];omega)]
   rfl
  rw[jT (by omega)]
  cases done<;>simp[lW]
 |d+1,i,M+1,done,acc,v,x,g,r=>by
  have hi:i<L.length:=by omega
  have u:(i:Int)+1=((i+1:Nat):Int):=by omega
  have t:∀f∈L.drop (i+1),blt (L[i]).1 f.1=true:=by
   have:=(jV.1 (by rw[<-jJ hi];exact List.Pairwise.sublist (List.drop_sublist _ _) n:Asc (L[i]::L.drop (i+1)))).1
   exact this
  simp only[aK,AD]
  rw[if_pos (by simp only[j6];omega),dP hi,bS (by omega) (by omega),u]
  rw[jJ hi] at r ⊢
  simp only[j0,mB]
  cases done with
  |true=>
   simp only[Bool.toNat_true] at g
   have a:=r rfl _ (jK ..)
   have k:=GN (N:=N) (p:=p) (b:=b) s n d (i+1) M true (acc++[((L[i]).1,(L[i]).2)]) (by omega) (by omega) (by simp;omega) (fun h f q=>r rfl f (jQ _ q))
   simp only[jP,j9,jC,j0]
   rw[if_pos (by simp[a]),iB (by simp only[jA,jB];omega) (by omega)]
   simp only[j0]
   refine k.mono fun o c=>⟨c.1,?_⟩
   rw[c.2];simp only[jE,gD,fM,kK]
  |false=>
   simp only[Bool.toNat_false] at g
   simp only[kC,jE,j0]
   rcases xX p (L[i]).1 with h|h|h
   .have h':Op.bytesLess p.toList (L[i]).1.toList=true:=h
    have a:(L[i]).1≠p:=fun e=>HR h e.symm
    have k:=GN (N:=N) (p:=p) (b:=b) s n d (i+1) M true ((acc++[(p,b)])++[((L[i]).1,(L[i]).2)]) (by omega) (by omega) (by simp;omega) (fun _ f q e=>by
     have:=sP h (t f q);rw[e,vJ] at this;cases this)
    rw[h',Bool.true_or,if_pos rfl,iB (by simp only[jA,jB];omega) (by omega)]
    simp only[j0]
    rw[if_pos (by simp[a]),iB (by simp only[jF,jA,jB];omega) (by omega)]
    simp only[j0]
    refine k.mono fun o c=>⟨c.1,?_⟩
    have l:lW (L[i]::L.drop (i+1)) p b=(p,b)::L[i]::L.drop (i+1):=by rw[lW,if_pos h]
    rw[c.2,l];simp only[jE,gD,fM,kK,j9,jC]
   .have k:=GN (N:=N) (p:=p) (b:=b) s n d (i+1) M true (acc++[(p,b)]) (by omega) (by omega) (by simp;omega) (fun _ f q e=>by
     have:=t f q;rw[<-h,e,vJ] at this;cases this)
    rw[jL h,Bool.or_true,if_pos rfl,iB (by simp only[jA,jB];omega) (by omega)]
    simp only[j0]
    rw[if_neg (by simp[h])]
    simp only[j0]
    refine k.mono fun o c=>⟨c.1,?_⟩
    have l:lW (L[i]::L.drop (i+1)) p b=(p,b)::L.drop (i+1):=by rw[lW,if_neg (by rw[h,vJ];simp),if_pos h.symm]
    rw[c.2,l];simp only[jE,gD,fM,kK,j9,jC]
   have a:(L[i]).1≠p:=HR h
   have h':Op.bytesLess p.toList (L[i]).1.toList=false:=WR h
   have k:=GN (N:=N) (p:=p) (b:=b) s n d (i+1) M false (acc++[((L[i]).1,(L[i]).2)]) (by omega) (by omega) (by simp;omega) (fun h=>by cases h)
   rw[h',jS (fun e=>a e.symm),Bool.or_false,if_neg (by simp)]
   simp only[j0]
   rw[if_pos (by simp[a]),iB (by simp only[jA,jB];omega) (by omega)]
   simp only[j0]
   refine k.mono fun o c=>⟨c.1,?_⟩
   have l:lW (L[i]::L.drop (i+1)) p b=L[i]::lW (L.drop (i+1)) p b:=by rw[lW,if_neg (by rw[show blt p (L[i]).1=false from h'];simp),if_neg a]
   rw[c.2,l];simp only[gD,fM,kK,j9,jC]
theorem tU{N:Nat}{L:List bL}(p b:BA)(g:L.length<1000000)(f:Asc L)(e:L.length<N):pD N L (p,b)=some (lW L p b):=by
 obtain⟨o,c,k,a⟩:=GN (N:=N) (p:=p) (b:=b) g f L.length 0 N false [] (by omega) e (by simp) (fun h=>by cases h)
 simp only[pD]
 rw[show((0:Nat):Int)=0 from rfl] at c
 rw[c]
 simp only[kA,kK,j9,jC] at a
 simp only[j0]
 cases d:o.1 with
 |true=>rw[d] at a;simp only[jE] at a;simp[a]
 |false=>
  rw[d] at a
  simp only[j9,jC] at a
  simp only[kC,jE]
  rw[iB (by simp only[jA,jB];omega) (by omega),a]
  rfl
def srcL:List BA:=[(⟨#[97,46,115,114,99]⟩:BA),(⟨#[98,46,115,114,99]⟩:BA),(⟨#[100,47,99,46,115,114,99]⟩:BA),(⟨#[120,46,115,114,99]⟩:BA)]
def datL:List BA:=[(⟨#[97,46,100,97,116]⟩:BA),(⟨#[100,47,98,46,100,97,116]⟩:BA),(⟨#[99]⟩:BA)]
theorem ZA:(srcL.all fun p=>iE p.data.toList)=true:=by kernel_rfl
theorem ZC:(datL.all fun p=>iE p.data.toList)=true:=by kernel_rfl
def Made(L:List bL):Prop:=Asc L/\∀f∈L,f.1∈srcL++datL/\f.2.size<=4700
theorem Made.put{L:List bL}(h:Made L){p b:BA}(d:p∈srcL++datL)(c:b.size<=4700):Made (lW L p b):=
 ⟨h.1.put p b,fun f a=>by
  rcases KY a with rfl|a
  .exact⟨d,c⟩
  exact h.2 f a⟩
theorem Made.path{L:List bL}(h:Made L){f:bL}(a:f∈L):iE f.1.data.toList=true:=by
 rcases gS.1 (h.2 f a).1 with h|h
 .exact jX.1 ZA _ h
 exact jX.1 ZC _ h
theorem qKe{N:Nat}{y1:List BA}{s1:Int×(List (BA×BA))×List (Int)×Int}:EB N y1 s1=
 if(decide (s1.1<(List.length y1:Int)))=true then(((bV y1 s1.1).bind fun c=>(pS N (s1.2.2.1,s1.2.2.2) 3 4).bind fun a=>if a.2=true then((uX N).bind fun d=>(iY N (a.1.1,a.1.2) d).bind fun b=>(vC N (b.1.1,b.1.2) b.2).bind fun y5=>(pD N s1.2.1 (c,y5.2)).bind fun e=>some (e,y5.1.1,y5.1.2)) else(some (s1.2.1,a.1.1,a.1.2)):Option ((List (BA×BA))×List (Int)×Int)).bind fun o2=>some (.inl (IntKind.wrap .i64 (s1.1+1),o2.1,o2.2.1,o2.2.2))) else(some (.inr (s1.2.1,s1.2.2.1,s1.2.2.2))):=rfl
theorem qLe{N:Nat}{s2:Int×(List (BA×BA))×List (Int)×Int}:JO N s2=
 if(decide (s2.1<(List.length datL:Int)))=true then(((bV datL s2.1).bind fun c=>(pS N (s2.2.2.1,s2.2.2.2) 1 3).bind fun a=>if a.2=true then((xH N (a.1.1,a.1.2)).bind fun b=>(pD N s2.2.1 (c,b.2)).bind fun d=>some (d,b.1.1,b.1.2)) else(some (s2.2.1,a.1.1,a.1.2)):Option ((List (BA×BA))×List (Int)×Int)).bind fun o4=>some (.inl (IntKind.wrap .i64 (s2.1+1),o4.1,o4.2.1,o4.2.2))) else(some (.inr (s2.2.1,s2.2.2.1,s2.2.2.2))):=rfl
theorem qHk(l:List UInt8):(nN l).size=l.length:=by simp[nN,ByteArray.size]
theorem ZR{N:Nat}{l:List Int}{a:Int}(p:100<N)(k:0<=a)(o:a<1000000000000000000):Ok (xH N (l,a)) fun y=>∃a' s,y=((l,a'),s)/\a<=a'/\a'<=a+10/\s.size<=10:=by
 simp only[xH]
 refine Ok.next (by omega) (by omega) (by omega) (by omega) fun r g h=> ?_
 dsimp only
 simp only[JR]
 refine Ok.assoc ?_
 refine Ok.loop (fun st=>∃L n a',st=(L,n,l,a')/\0<=n/\n<=r/\(L.length:Int)=n/\a<=a'/\a'<=a+1+n) (fun st=>(r-st.2.1).toNat) (fun b=>∃L a',b=(L,l,a')/\L.length<=4/\a<=a'/\a'<=a+5) ?_ ⟨[],0,a+1,rfl,by omega,by omega,rfl,by omega,by omega⟩ (by dsimp only;omega) ?_
 .rintro _ ⟨L,n,a',rfl,t,u,v,x,z⟩
  have c:ByteArray.size (⟨#[97,98,0,255,48]⟩:BA)=5:=rfl
  simp only[JL,c]
  by_cases hn:n<r
  .rw[if_pos (by simpa using hn)]
   refine Ok.next (by omega) (by omega) (by omega) (by omega) fun q d v2=> ?_
   dsimp only
   have e:q.toNat<ByteArray.size (⟨#[97,98,0,255,48]⟩:BA):=by rw[c];omega
   have f:eD (⟨#[97,98,0,255,48]⟩:BA) q=some ((⟨#[97,98,0,255,48]⟩:BA)[q.toNat]):=by
    have:=OZ e
    rw[Int.toNat_of_nonneg d] at this
    exact this
   rw[f]
   refine Ok.someb (Ok.app (by simp only[jA,jB];omega) (by decide) (Ok.mk ?_))
   dsimp only
   rw[bS (by omega) (by omega)]
   exact⟨⟨_,_,_,rfl,by omega,by omega,by simp only[jF,jA,jB];omega,by omega,by omega⟩,by omega⟩
  rw[if_neg (by simpa using hn)]
  exact Ok.mk ⟨L,a',rfl,by omega,by omega,by omega⟩
 rintro _ ⟨L,a',rfl,d,v2,c⟩
 refine Ok.someb (Ok.mk ?_)
 dsimp only
 refine⟨_,_,rfl,?_,?_,?_⟩
 .omega
 .omega
 rw[qHk];omega
theorem qGh{N:Nat}{l:List Int}{a:Int}(k:3000<N)(z:0<=a)(A:a<10000000000000000):Ok (EX N (l,a)) fun y=>∃a' L,y=((l,a'),L)/\a<=a'/\a'<=a+1000000/\Made L/\L.length<=7:=by
 simp only[EX,AS]
 refine Ok.someb ?_
 show Ok ((aK (EB N srcL) N (0,[],l,a)).bind _) _
 refine Ok.loop (fun st=>∃(n:Nat) (L:List bL) (a':Int),st=((n:Int),L,l,a')/\n<=4/\L.length<=n/\Made L/\a<=a'/\a'<=a+100010*n) (fun st=>4-st.1.toNat) (fun b=>∃L a',b=(L,l,a')/\L.length<=4/\Made L/\a<=a'/\a'<=a+500000) ?_ ⟨0,[],a,rfl,by omega,by simp,⟨List.Pairwise.nil,by simp⟩,by omega,by omega⟩ (by dsimp only;omega) ?_
 .rintro _ ⟨n,L,a',rfl,p,q,e,r,t⟩
  rw[qKe]
  have d:srcL.length=4:=rfl
  dsimp only
  by_cases hn:n<4
  .rw[if_pos (by simp only[j6,d];omega),dP (l:=srcL) (by omega)]
   refine Ok.assoc (Ok.someb ?_)
   refine Ok.assoc (Ok.chance (by omega) (by omega) (by omega) (by omega) fun c=> ?_)
   dsimp only
   refine Ok.iteb (fun _=> ?_) fun _=> ?_
   .refine Ok.assoc (Ok.someb ?_)
    refine Ok.assoc (Ok.oneS (by omega) (by omega) (by decide) fun x h=> ?_)
    dsimp only
    refine Ok.assoc (Ok.bind (OS k (by omega) (by omega) h) ?_)
    rintro _ ⟨f,s,rfl,v,v2,g⟩
    dsimp only
    rw[tU _ _ (by omega) e.1 (by omega)]
    refine Ok.assoc (Ok.someb (Ok.someb (Ok.mk ?_)))
    dsimp only
    have o:=KP L (srcL[n]) s
    refine⟨⟨n+1,_,_,by rw[bS (by omega) (by omega)];rfl,by omega,by omega,e.put (gM _ (jW _)) g,by omega,by omega⟩,?_⟩
    rw[bS (by omega) (by omega)];omega
   refine Ok.someb (Ok.mk ?_)
   dsimp only
   refine⟨⟨n+1,_,_,by rw[bS (by omega) (by omega)];rfl,by omega,by omega,e,by omega,by omega⟩,?_⟩
   rw[bS (by omega) (by omega)];omega
  rw[if_neg (by simp only[j6,d];omega)]
  exact Ok.mk ⟨L,a',rfl,by omega,e,by omega,by omega⟩
 rintro _ ⟨L1,h,rfl,B,u,D,E⟩
 dsimp only
 refine Ok.loop (fun st=>∃(n:Nat) (L:List bL) (a':Int),st=((n:Int),L,l,a')/\n<=3/\L.length<=4+n/\Made L/\a<=a'/\a'<=a+500000+20*n) (fun st=>3-st.1.toNat) (fun b=>∃L a',b=(L,l,a')/\L.length<=7/\Made L/\a<=a'/\a'<=a+600000) ?_ ⟨0,L1,h,rfl,by omega,by omega,u,by omega,by omega⟩ (by dsimp only;omega) ?_
 .rintro _ ⟨n,L,a',rfl,p,q,e,r,t⟩
  rw[qLe]
  have d:datL.length=3:=rfl
  dsimp only
  by_cases hn:n<3
  .rw[if_pos (by simp only[j6,d];omega),dP (l:=datL) (by omega)]
   refine Ok.assoc (Ok.someb ?_)
   refine Ok.assoc (Ok.chance (by omega) (by omega) (by omega) (by omega) fun c=> ?_)
   dsimp only
   refine Ok.iteb (fun _=> ?_) fun _=> ?_
   .refine Ok.assoc (Ok.bind (ZR (by omega) (by omega) (by omega)) ?_)
    rintro _ ⟨f,s,rfl,v,v2,g⟩
    dsimp only
    rw[tU _ _ (by omega) e.1 (by omega)]
    refine Ok.assoc (Ok.someb (Ok.someb (Ok.mk ?_)))
    dsimp only
    have o:=KP L (datL[n]) s
    refine⟨⟨n+1,_,_,by rw[bS (by omega) (by omega)];rfl,by omega,by omega,e.put (List.mem_append_right _ (jW _)) (by omega),by omega,by omega⟩,?_⟩
    rw[bS (by omega) (by omega)];omega
   refine Ok.someb (Ok.mk ?_)
   dsimp only
   refine⟨⟨n+1,_,_,by rw[bS (by omega) (by omega)];rfl,by omega,by omega,e,by omega,by omega⟩,?_⟩
   rw[bS (by omega) (by omega)];omega
  rw[if_neg (by simp only[j6,d];omega)]
  exact Ok.mk ⟨L,a',rfl,by omega,e,by omega,by omega⟩
 rintro _ ⟨L2,f,rfl,d,e,g,o⟩
 refine Ok.mk ?_
 exact⟨f,L2,rfl,by omega,by omega,e,d⟩
theorem Made.wf{L:List bL}(h:Made L)(b:L.length<=64):WF L:=⟨b,h.1,fun f a=>⟨h.path a,fH (h.2 f a).2 (by decide)⟩⟩
def MadeE(K:Nat)(L:List bL):Prop:=Asc L/\∀f∈L,iE f.1.data.toList=true/\f.2.size<=K
theorem Made.e{L:List bL}(h:Made L):MadeE 4700 L:=⟨h.1,fun f a=>⟨h.path a,(h.2 f a).2⟩⟩
theorem MadeE.put{K:Nat}{L:List bL}(h:MadeE K L){p b:BA}(d:iE p.data.toList=true)(c:b.size<=K):MadeE K (lW L p b):=
 ⟨h.1.put p b,fun f a=>by
  rcases KY a with rfl|a
  .exact⟨d,c⟩
  exact h.2 f a⟩
theorem MadeE.del{K:Nat}{L:List bL}(h:MadeE K L)(p:BA):MadeE K (uL L p):=⟨h.1.del p,fun f a=>h.2 f (fC.1 a).1⟩
theorem MadeE.more{K K':Nat}{L:List bL}(h:MadeE K L)(b:K<=K'):MadeE K' L:=⟨h.1,fun f a=>⟨(h.2 f a).1,fH (h.2 f a).2 b⟩⟩
theorem MadeE.wf{K:Nat}{L:List bL}(h:MadeE K L)(b:K<=16384)(c:L.length<=64):WF L:=⟨c,h.1,fun f a=>⟨(h.2 f a).1,fH (h.2 f a).2 b⟩⟩
theorem WM{N:Nat}{L:List bL}{p:BA}(g:L.length<1000000)(d:L.length<N):AV N L p=some (uL L p):=by
 have h:=sO (L:=L) (fun(t:List bL) i=>((i:Int),t)) (f:=zZ N L p) (fun t f=>(.inl (if decide (f.1≠p)=true then t++[f] else t):List bL⊕List bL)) (fun t=>t) (fun i t=>t.length<=i) (fun t i hi e=>by
   have b:((i:Int)<(L.length:Int)):=by omega
   have w:IntKind.wrap .i64 ((i:Int)+1)=((i+1:Nat):Int):=by rw[bS (by omega) (by omega)];omega
   simp only[zZ,b,decide_true,jE,dP hi,j0,w,mB]
   by_cases hp:L[i].1=p
   .simp[hp]
   .simp only[hp,decide_false,kC,jE,ne_eq,not_false_eq_true,decide_true]
    rw[iB (by simp only[jA,jB];omega) (by decide)]
    rfl) (fun t i hi t' e c=>by
   simp only[Sum.inl.injEq] at c
   subst c
   split
   .simp only[jF,jA,jB];omega
   .omega) (fun t _=>by
   have b:¬((L.length:Int)<(L.length:Int)):=by omega
   simp only[zZ,b,decide_false,j9,jC]) (t:=[]) d (jZ _)
 rw[show((0:Nat):Int)=0 from rfl] at h
 have b:=rU (step:=fun(t:List bL) (f:bL)=>(.inl (if decide (f.1≠p)=true then t++[f] else t):List bL⊕List bL)) (fin:=fun t=>t) (fun(t:List bL) (f:bL)=>if decide (f.1≠p)=true then t++[f] else t) (fun _ _=>rfl) L []
 unfold AV
 rw[h,b]
 simp only[j0]
 congr 1
 have:∀(a t:List bL),a.foldl (fun t f=>if decide (f.1≠p)=true then t++[f] else t) t=t++uL a p:=by
  intro a
  induction a with
  |nil=>intro t;simp[uL]
  |cons x a c=>
   intro t
   rw[jM,c]
   unfold uL
   rw[kW]
   split<;>simp
 rw[this];rfl
theorem ZB(L:List bL)(p:BA):(uL L p).length<=L.length:=gL _ _
def yV(l:List Int)(a:Int)(K:Nat)(L:List bL)(z:(List Int×Int)×List bL):Prop:=∃a' L',z=((l,a'),L')/\a<=a'/\a'<=a+200000/\MadeE (K+900) L'/\L'.length<=L.length+1
section
variable {N:Nat} {l:List Int} {a:Int} {K:Nat} {L:List bL}
theorem KW{f:Int->Option (Int⊕(Unit⊕((List Int×Int)×List bL)))}{Q:(List Int×Int)×List bL->Prop}{p:BA}(n:L.length<=100)(l:200<N)
  (g:∀j,∀d:j<L.length,L[j].1=p->Ok (f (j:Int)) fun r=>∃z,r= .inr (.inr z)/\Q z) (h:∀j,∀d:j<L.length,¬L[j].1=p->f (j:Int)=some (.inl ((j+1:Nat):Int))) (e:f (L.length:Int)=some (.inr (.inl ()))):
  Ok (aK f N 0) fun o=>o= .inl ()\/∃z,o= .inr z/\Q z:=by
 obtain⟨b,a,c⟩:=LI (f:=f) (fun s=>∃j:Nat,s=(j:Int)/\j<=L.length) (fun s=>L.length-s.toNat) (fun o=>o= .inl ()\/∃z,o= .inr z/\Q z) (fun s k=>by
  obtain⟨j,rfl,d⟩:=k
  by_cases hlt:j<L.length
  .by_cases hp:L[j].1=p
   .obtain⟨r,a,z,rfl,c⟩:=g j hlt hp
    exact .inl ⟨_,a,.inr ⟨z,rfl,c⟩⟩
   exact .inr ⟨_,h j hlt hp,⟨j+1,rfl,hlt⟩,by simp only[kI];omega⟩
  have:j=L.length:=by omega
  subst this
  exact .inl ⟨_,e,.inl rfl⟩) N 0 ⟨0,rfl,jZ _⟩ (by simp only[Int.toNat_zero];omega)
 exact⟨b,a,c⟩
theorem qNo(M:Nat):rQ (M+1) 0=some (⟨#[48]⟩:BA)/\rQ (M+1) 1=some (⟨#[49]⟩:BA)/\rQ (M+1) 2=some (⟨#[50]⟩:BA):=⟨by kernel_rfl,by kernel_rfl,by kernel_rfl⟩
theorem CF{x y z:BA}(h:x++y=z)(a:x.size+y.size<=1000):cZ x y=some z:=by
 unfold cZ
 rw[if_pos (by simp only[maxLen];omega),h]
theorem qOi{x:Int}(d:0<=x)(e:x<3){M:Nat}:∃s t p:BA,rQ (M+1) x=some s/\cZ (⟨#[122]⟩:BA) s=some t/\cZ t (⟨#[46,115,114,99]⟩:BA)=some p/\iE p.data.toList=true:=by
 obtain⟨d0,a,b⟩:=qNo M
 have c:x=0\/x=1\/x=2:=by omega
 rcases c with rfl|rfl|rfl
 .exact⟨_,⟨#[122,48]⟩,⟨#[122,48,46,115,114,99]⟩,d0,CF (by decide+kernel) (by decide),CF (by decide+kernel) (by decide),by kernel_rfl⟩
 .exact⟨_,⟨#[122,49]⟩,⟨#[122,49,46,115,114,99]⟩,a,CF (by decide+kernel) (by decide),CF (by decide+kernel) (by decide),by kernel_rfl⟩
 exact⟨_,⟨#[122,50]⟩,⟨#[122,50,46,115,114,99]⟩,b,CF (by decide+kernel) (by decide),CF (by decide+kernel) (by decide),by kernel_rfl⟩
theorem qJq{p:BA}(h:p∈srcL):iE p.data.toList=true:=jX.1 ZA p h
theorem qKk{p:BA}(h:p∈datL):iE p.data.toList=true:=jX.1 ZC p h
theorem qNa(hN:3000<N)(V:0<=a)(h1:a<10000000000000000)(g:MadeE K L)(hK:4700<=K)(a1:K<=100000)(h:L.length<=100):Ok (FQ N (l,a) L) (yV l a K L):=by
 obtain⟨M,rfl⟩:∃M,N=M+1:=⟨N-1,by omega⟩
 have y:MadeE (K+900) L:=g.more (by omega)
 have f:∀(a':Int) {p b:BA},a<=a'->a'<=a+200000->iE p.data.toList=true->b.size<=K+900->yV l a K L ((l,a'),lW L p b):=fun a' {p b} F G E Z=>
  ⟨a',_,rfl,F,G,y.put E Z,KP L p b⟩
 unfold FQ AS
 refine Ok.someb (Ok.one V (by omega) (by decide) (by decide) fun p E=> ?_)
 have n:=qJq E
 refine Ok.next (by first|omega|(dsimp only;omega)) (by first|omega|(dsimp only;omega)) (by decide) (by decide) fun r r0 r1=> ?_
 dsimp only
 refine Ok.bind (P:=fun q=>q= .inl ()\/∃z,q= .inr z/\yV l a K L z) ?_ ?_
 .refine Ok.ite (fun _=> ?_) fun _=>Ok.ite (fun _=> ?_) fun _=>Ok.ite (fun _=> ?_) fun _=>Ok.ite (fun _=> ?_) fun _=>Ok.ite (fun _=> ?_) fun _=>Ok.ite (fun _=> ?_) fun _=>Ok.mk (.inl rfl)
  .refine Ok.one (by omega) (by omega) (by decide) (by decide) fun q u=> ?_
   have u:q∈datL:=u
   dsimp only
   refine Ok.bind (ZR (by omega) (by omega) (by omega)) ?_
   rintro _ ⟨v,s,rfl,B,v2,R⟩
   dsimp only
   rw[tU _ _ (by omega) g.1 (by omega)]
   exact Ok.mk (.inr ⟨_,rfl,f v (by omega) (by omega) (qKk u) (by omega)⟩)
  .refine Ok.one (by omega) (by omega) (by decide) (by decide) fun q u=> ?_
   dsimp only
   rw[WM (by omega) (by omega)]
   exact Ok.mk (.inr ⟨_,rfl,_,_,rfl,by omega,by omega,y.del q,by have:=ZB L q;omega⟩)
  .refine Ok.someb (Ok.oneS (by omega) (by omega) (by decide) fun q u=> ?_)
   refine Ok.bind (OS (by omega) (by first|omega|(dsimp only;omega)) (by first|omega|(dsimp only;omega)) u) ?_
   rintro _ ⟨v,s,rfl,B,v2,R⟩
   dsimp only at B v2 ⊢
   rw[tU _ _ (by omega) g.1 (by omega)]
   exact Ok.mk (.inr ⟨_,rfl,f v (by omega) (by omega) n (by omega)⟩)
  .refine Ok.bind (KW (L:=L) (p:=p) (Q:=yV l a K L) h (by omega) (fun j e d=> ?_) (fun j e d=> ?_) ?_) ?_
   .have c:((j:Int)<(L.length:Int)):=by omega
    simp only[AP,c,decide_true,jE,dP e,j0,mB,d]
    rw[WM (by omega) (by omega)]
    refine Ok.someb (Ok.next (by omega) (by omega) (by decide) (by decide) fun x S U=> ?_)
    obtain⟨s,t,q,k,A,D,H⟩:=qOi S U (M:=M)
    simp only[k,A,D,j0]
    have Y:=ZB L p
    rw[tU _ _ (by omega) (g.1.del p) (by omega)]
    refine Ok.mk ⟨_,rfl,_,_,rfl,by omega,by omega,(y.del p).put H (by have:=(g.2 L[j] (jW e)).2;omega),?_⟩
    have:=KP (uL L p) q L[j].2
    omega
   .have c:((j:Int)<(L.length:Int)):=by omega
    have w:IntKind.wrap .i64 ((j:Int)+1)=((j+1:Nat):Int):=by rw[bS (by omega) (by omega)];omega
    simp only[AP,c,decide_true,jE,dP e,j0,mB,d,decide_false,j9,jC,w]
   .have c:¬((L.length:Int)<(L.length:Int)):=by omega
    simp only[AP,c,decide_false,j9,jC]
   rintro o (rfl|⟨z,rfl,k⟩)
   .exact Ok.mk (.inl rfl)
   exact Ok.mk (.inr ⟨z,rfl,k⟩)
  .refine Ok.bind (KW (L:=L) (p:=p) (Q:=yV l a K L) h (by omega) (fun j e d=> ?_) (fun j e d=> ?_) ?_) ?_
   .have c:((j:Int)<(L.length:Int)):=by omega
    have D:=(g.2 L[j] (jW e)).2
    simp only[AL,c,decide_true,jE,dP e,j0,mB,d]
    refine Ok.next (by omega) (by omega) (by decide) (by decide) fun x S U=> ?_
    refine Ok.digits (by omega) (by omega) (by omega) fun s hs=> ?_
    refine Ok.cat (by simp only[mT,jO,jA,jB];omega) fun H A=> ?_
    simp only[mT,jO,jA,jB] at A
    refine Ok.cat (by simp only[mT,jO,jA,jB];omega) fun s6 Y=> ?_
    simp only[mT,jO,jA,jB] at Y
    refine Ok.cat (by omega) fun s7 h7=> ?_
    rw[tU _ _ (by omega) g.1 (by omega)]
    exact Ok.mk ⟨_,rfl,f _ (by first|omega|(dsimp only;omega)) (by first|omega|(dsimp only;omega)) n (by omega)⟩
   .have c:((j:Int)<(L.length:Int)):=by omega
    have w:IntKind.wrap .i64 ((j:Int)+1)=((j+1:Nat):Int):=by rw[bS (by omega) (by omega)];omega
    simp only[AL,c,decide_true,jE,dP e,j0,mB,d,decide_false,j9,jC,w]
   .have c:¬((L.length:Int)<(L.length:Int)):=by omega
    simp only[AL,c,decide_false,j9,jC]
   rintro o (rfl|⟨z,rfl,k⟩)
   .exact Ok.mk (.inl rfl)
   exact Ok.mk (.inr ⟨z,rfl,k⟩)
  refine Ok.bind (KW (L:=L) (p:=p) (Q:=yV l a K L) h (by omega) (fun j e d=> ?_) (fun j e d=> ?_) ?_) ?_
  .have c:((j:Int)<(L.length:Int)):=by omega
   have D:=(g.2 L[j] (jW e)).2
   simp only[AN,c,decide_true,jE,dP e,j0,mB,d]
   refine Ok.cat (by simp only[mT,jO,jA,jB];omega) fun H A=> ?_
   simp only[mT,jO,jA,jB] at A
   rw[tU _ _ (by omega) g.1 (by omega)]
   exact Ok.mk ⟨_,rfl,f _ (by first|omega|(dsimp only;omega)) (by first|omega|(dsimp only;omega)) n (by omega)⟩
  .have c:((j:Int)<(L.length:Int)):=by omega
   have w:IntKind.wrap .i64 ((j:Int)+1)=((j+1:Nat):Int):=by rw[bS (by omega) (by omega)];omega
   simp only[AN,c,decide_true,jE,dP e,j0,mB,d,decide_false,j9,jC,w]
  .have c:¬((L.length:Int)<(L.length:Int)):=by omega
   simp only[AN,c,decide_false,j9,jC]
  rintro o (rfl|⟨z,rfl,k⟩)
  .exact Ok.mk (.inl rfl)
  exact Ok.mk (.inr ⟨z,rfl,k⟩)
 rintro q (rfl|⟨z,rfl,k⟩)
 .dsimp only
  refine Ok.bind (KW (L:=L) (p:=p) (Q:=yV l a K L) h (by omega) (fun j e d=> ?_) (fun j e d=> ?_) ?_) ?_
  .have c:((j:Int)<(L.length:Int)):=by omega
   have D:=(g.2 L[j] (jW e)).2
   simp only[AM,c,decide_true,jE,dP e,j0,mB,d]
   refine Ok.decl (by omega) (by omega) (by omega) fun v s F G S=> ?_
   dsimp only
   refine Ok.cat (by omega) fun H A=> ?_
   rw[tU _ _ (by omega) g.1 (by omega)]
   exact Ok.mk ⟨_,rfl,f v (by omega) (by omega) n (by omega)⟩
  .have c:((j:Int)<(L.length:Int)):=by omega
   have w:IntKind.wrap .i64 ((j:Int)+1)=((j+1:Nat):Int):=by rw[bS (by omega) (by omega)];omega
   simp only[AM,c,decide_true,jE,dP e,j0,mB,d,decide_false,j9,jC,w]
  .have c:¬((L.length:Int)<(L.length:Int)):=by omega
   simp only[AM,c,decide_false,j9,jC]
  rintro o (rfl|⟨z,rfl,k⟩)
  .dsimp only
   refine Ok.someb (Ok.oneS (by omega) (by omega) (by decide) fun q u=> ?_)
   refine Ok.bind (OS (by omega) (by first|omega|(dsimp only;omega)) (by first|omega|(dsimp only;omega)) u) ?_
   rintro _ ⟨v,s,rfl,B,v2,R⟩
   dsimp only at B v2 ⊢
   rw[tU _ _ (by omega) g.1 (by omega)]
   exact Ok.mk (f v (by omega) (by omega) n (by omega))
  exact Ok.mk k
 exact Ok.mk k
end
end
section
open Go Go.Dc Go.Proofs
def oJ:List bL->BA->Nat
 |[],_=>0
 |f::L,p=>if blt f.1 p=true then oJ L p+1 else 0
theorem qLl(L:List bL)(p:BA):oJ L p<=L.length:=by
 induction L with
 |nil=>exact jN _
 |cons f L a=>simp only[oJ];split<;>simp only[jA]<;>omega
theorem qIx{L:List bL}(d:Asc L)(p:BA):∀h,∀b:h<L.length,(blt (L[h]).1 p=true↔h<oJ L p):=by
 induction L with
 |nil=>intro h b;cases b
 |cons f L e=>
  have ha':=jV.1 d
  intro h b
  simp only[oJ]
  by_cases a:blt f.1 p=true
  .rw[if_pos a]
   cases h with
   |zero=>simp[a]
   |succ h=>simpa using e ha'.2 h (by simpa using b)
  rw[if_neg a]
  cases h with
  |zero=>simpa using a
  |succ h=>
   simp only[List.getElem_cons_succ,kY,iff_false]
   intro c
   exact a (sP (ha'.1 _ (jW (by simpa using b))) c)
def MH(p:BA)(f:bL):Option BA:=if f.1=p then some f.2 else none
theorem XU{L:List bL}(c:Asc L)(p:BA):lI L p=(L[oJ L p]?).bind (MH p):=by
 induction L with
 |nil=>rfl
 |cons f L k=>
  have ha':=jV.1 c
  simp only[oJ,lI]
  by_cases b:blt f.1 p=true
  .rw[if_pos b,if_neg (HR b),List.getElem?_cons_succ,k ha'.2]
  rw[if_neg b,List.getElem?_cons_zero]
  simp only[j0,MH]
  by_cases a:f.1=p
  .rw[if_pos a,if_pos a]
  rw[if_neg a,if_neg a]
  have e:blt p f.1=true:=by
   rcases xX f.1 p with h|h|h
   .exact absurd h b
   .exact absurd h a
   exact h
  exact GJ fun g d=>sP e (ha'.1 g d)
theorem qOa{N:Nat}{L:List bL}(g:Asc L)(p:BA)(t:L.length<1000000)(r:L.length<N):GK N L p=some ((oJ L p:Int),(lI L p).isSome):=by
 have q:=qLl L p
 have b:=YH (f:=FV N L p) (fun s=>∃i j:Nat,s=((i:Int),(j:Int))/\i<=oJ L p/\oJ L p<=j/\j<=L.length) (fun s=>s.2.toNat-s.1.toNat) (fun _=>(oJ L p:Int)) (by
  rintro _ ⟨i,j,rfl,l,n,o⟩
  simp only[FV]
  by_cases d:i<j
  .right
   rw[if_pos (by simpa using d)]
   have eh:IntKind.wrap .i64 (Int.fdiv (IntKind.wrap .u64 (IntKind.wrap .i64 ((i:Int)+(j:Int)))) (2^1))=(((i+j)/2:Nat):Int):=by
    rw[bS (x:=(i:Int)+(j:Int)) (by omega) (by omega),wu64 (by omega) (by omega),Int.fdiv_eq_ediv_of_nonneg _ (by decide),bS (by omega) (by omega)]
    omega
   have k:(i+j)/2<L.length:=by omega
   have e:=qIx g p _ k
   rw[eh,dP k]
   simp only[j0]
   by_cases hb:blt (L[(i+j)/2]).1 p=true
   .have a:=e.1 hb
    have hb':Op.bytesLess (L[(i+j)/2]).1.toList p.toList=true:=hb
    rw[hb',if_pos (by rfl),bS (by omega) (by omega)]
    exact⟨_,rfl,⟨(i+j)/2+1,j,by simp,by omega,n,o⟩,by simp only;omega,trivial⟩
   have c:¬(i+j)/2<oJ L p:=fun h=>hb (e.2 h)
   have hb':Op.bytesLess (L[(i+j)/2]).1.toList p.toList=false:=by
    cases hq:Op.bytesLess (L[(i+j)/2]).1.toList p.toList with
    |false=>rfl
    |true=>exact absurd hq hb
   rw[hb',if_neg (by simp)]
   exact⟨_,rfl,⟨i,(i+j)/2,rfl,l,by omega,by omega⟩,by simp only;omega,trivial⟩
  left
  have e:i=oJ L p:=by omega
  rw[if_neg (by simpa using d)]
  simp only[e]) N (0,(L.length:Int)) ⟨0,L.length,rfl,jZ _,q,jN _⟩ (by simp only;omega)
 simp only[GK]
 rw[b]
 simp only[j0]
 rw[XU g]
 rcases fG (oJ L p) L.length with a|c
 .rw[if_pos (by simp only[j6];omega),dP a,List.getElem?_eq_getElem a]
  simp only[j0,mB,MH]
  by_cases he:(L[oJ L p]).1=p
  .rw[if_pos he,jL he];rfl
  rw[if_neg he,jS he];rfl
 rw[if_neg (by simp only[j6];omega),List.getElem?_eq_none c]
 rfl
theorem qLu{N:Nat}{L:List bL}(p:BA)(f:oG N L)(e:100<N):GA N L p=some (CU L p):=by
 simp only[GA,XX f e,j0]
 unfold CU
 by_cases hc:eZ L=0
 .rw[if_neg (by simp[hc]),if_pos hc]
  have b:=nI.1 hc
  rw[qOa b.2.1 p (by have:=b.1;omega) (by have:=b.1;omega)]
  simp only[j0]
  have a:=XU b.2.1 p
  rcases fG (oJ L p) L.length with c|d
  .rw[List.getElem?_eq_getElem c] at a
   rw[dP c]
   simp only[j0,MH] at a
   by_cases he:(L[oJ L p]).1=p
   .rw[if_pos he] at a;rw[a];rfl
   rw[if_neg he] at a;rw[a];rfl
  rw[List.getElem?_eq_none d] at a;rw[a];rfl
 rw[if_pos (by simpa using hc),if_neg hc];rfl
theorem PF{α:Type}{lt:α->α->Prop}(irr:∀x,¬lt x x)(tr:∀x y z,lt x y->lt y z->lt x z):∀{l k:List α},l.Pairwise lt->k.Pairwise lt->(∀z,z∈l↔z∈k)->l=k
 |[],[],_,_,_=>rfl
 |[],y::k,_,_,h=>by have:=(h y).2 (jK ..);cases this
 |x::l,[],_,_,h=>by have:=(h x).1 (jK ..);cases this
 |x::l,y::k,o,p,h=>by
  obtain⟨b,f⟩:=jV.1 o
  obtain⟨c,n⟩:=jV.1 p
  have d:x=y:=by
   rcases jI.1 ((h x).1 (jK ..)) with e|e
   .exact e
   rcases jI.1 ((h y).2 (jK ..)) with g|g
   .exact g.symm
   exact absurd (tr _ _ _ (c x e) (b y g)) (irr y)
  subst d
  have:l=k:=PF irr tr f n fun z=>by
   constructor
   .intro a
    rcases jI.1 ((h z).1 (jQ _ a)) with e|e
    .rw[e] at a;exact absurd (b x a) (irr x)
    exact e
   intro a
   rcases jI.1 ((h z).2 (jQ _ a)) with e|e
   .rw[e] at a;exact absurd (c x a) (irr x)
   exact e
  rw[this]
def pN{α:Type}[DecidableEq α](b:α->α->Bool)(e:α):List α->List α
 |[]=>[e]
 |x::l=>if b x e=true then x::pN b e l else if x=e then x::l else e::x::l
theorem LD{α:Type}[DecidableEq α]{b:α->α->Bool}{e z:α}:∀{l:List α},z∈pN b e l↔z=e\/z∈l
 |[]=>by simp[pN]
 |x::l=>by
  have a:=LD (b:=b) (e:=e) (z:=z) (l:=l)
  simp only[pN]
  split
  .rw[jI,a,jI]
   constructor
   .rintro(h|h|h)
    .exact .inr (.inl h)
    .exact .inl h
    exact .inr (.inr h)
   rintro(h|h|h)
   .exact .inr (.inl h)
   .exact .inl h
   exact .inr (.inr h)
  split
  .rename_i h
   constructor
   .exact .inr
   rintro(g|g)
   .rw[g,<-h];exact jK ..
   exact g
  exact jI
theorem CD{α:Type}[DecidableEq α]{b:α->α->Bool}{e:α}:∀{l:List α},(pN b e l).length<=l.length+1
 |[]=>jN _
 |x::l=>by
  have a:=CD (b:=b) (e:=e) (l:=l)
  simp only[pN]
  split
  .simp only[jA];omega
  split
  .simp only[jA];omega
  simp only[jA];omega
theorem OP{α:Type}[DecidableEq α]{b:α->α->Bool}(tr:∀x y z,b x y=true->b y z=true->b x z=true){e:α}:∀{l:List α},(∀x∈l,b x e=false->x≠e->b e x=true)->l.Pairwise (fun x y=>b x y=true)->(pN b e l).Pairwise fun x y=>b x y=true
 |[],_,_=>List.pairwise_singleton ..
 |x::l,g,c=>by
  obtain⟨d,n⟩:=jV.1 c
  simp only[pN]
  split
  .rename_i h
   refine jV.2 ⟨fun y a=> ?_,OP tr (fun y a=>g y (jQ _ a)) n⟩
   rcases LD.1 a with rfl|a
   .exact h
   exact d y a
  rename_i h
  split
  .exact c
  rename_i f
  have k:=g x (jK ..) (by simpa using h) f
  refine jV.2 ⟨fun y a=> ?_,c⟩
  rcases jI.1 a with rfl|a
  .exact k
  exact tr _ _ _ k (d y a)
theorem qAl:∀a b:List UInt8,Op.bytesLess a b=true↔a<b
 |_,[]=>by simp[Op.bytesLess]
 |[],_::_=>by simp[Op.bytesLess]
 |x::a,y::b=>by
  have c:=qAl a b
  simp only[Op.bytesLess,fE,j6,jR,kE,List.cons_lt_cons_iff,c]
theorem qLi{a b:BA}:blt a b=true↔a.data.toList<b.data.toList:=by
 unfold blt
 rw[qAl,ByteArray.toList_eq,ByteArray.toList_eq]
theorem qLg{a b:BA}:a.data.toList<=b.data.toList↔blt b a=false:=by
 rw[<-List.not_lt,<-qLi];simp
theorem qHp{l:List BA}(d:l.Nodup):(nY l).Pairwise fun x y=>blt x y=true:=by
 have a:(nY l).Pairwise fun x y=>decide (x.data.toList<=y.data.toList)=true:=by
  unfold nY
  refine List.pairwise_mergeSort (fun x y z a b=> ?_) (fun x y=> ?_) l
  .simp only[j6] at*;exact List.le_trans a b
  simp only[fE,j6];exact List.le_total _ _
 have b:(nY l).Pairwise fun x y=>x≠y:=by
  have:(nY l).Nodup:=by unfold nY;exact((List.mergeSort_perm l _).nodup_iff).2 d
  exact this
 refine(a.and b).imp fun {x y} h=> ?_
 have c:=qLg.1 (gC h.1)
 rcases xX x y with g|g|g
 .exact g
 .exact absurd g h.2
 rw[g] at c;cases c
theorem qIi{l:List BA}{z:BA}:z∈nY l↔z∈l:=by unfold nY;exact List.mem_mergeSort
def oB(l:List BA)(s:BA):List BA:=pN blt s l
theorem XD:∀(K l:List BA),l.Pairwise (fun x y=>blt x y=true)->(K.foldl oB l).Pairwise (fun x y=>blt x y=true)/\∀z,z∈K.foldl oB l↔z∈l\/z∈K
 |[],l,h=>⟨h,fun z=>by simp⟩
 |s::K,l,h=>by
  have c:(oB l s).Pairwise fun x y=>blt x y=true:=OP (b:=blt) (e:=s) (l:=l) (fun _ _ _ c a=>sP c a) (fun x _ a d=>by
   rcases xX x s with g|g|g
   .rw[g] at a;cases a
   .exact absurd g d
   exact g) h
  obtain⟨a,d⟩:=XD K (oB l s) c
  refine⟨a,fun z=> ?_⟩
  rw[jM,d z]
  unfold oB
  rw[LD,jI]
  constructor
  .rintro((h|h)|h)
   .exact .inr (.inl h)
   .exact .inl h
   exact .inr (.inr h)
  rintro(h|h|h)
  .exact .inl (.inr h)
  .exact .inl (.inl h)
  exact .inr h
theorem qIr{l K:List BA}(d:l.Nodup)(c:∀z,z∈l↔z∈K):nY l=K.foldl oB []:=by
 obtain⟨a,b⟩:=XD K [] List.Pairwise.nil
 refine PF (lt:=fun x y=>blt x y=true) (fun x h=>by rw[vJ] at h;cases h) (fun _ _ _ a b=>sP a b) (qHp d) a fun z=> ?_
 rw[qIi,b z,c z];simp
theorem qGn{O:List eI}{k k':Int}{p p' n n':BA}(h:iR k p n=iR k' p' n'):iK O k p n=iK O k' p' n':=by
 have e:qH k p n=qH k' p' n':=by
  obtain⟨rfl,rfl,a⟩:=CC h
  unfold qH
  rcases a with rfl|rfl
  .simp
  rfl
 have a:iJ k p n=iJ k' p' n':=by
  obtain⟨rfl,rfl,-⟩:=CC h
  funext x o
  unfold iJ
  rw[h]
 unfold iK
 rw[e,a]
def RA(k:Int)(p n:BA)(e:cP):Prop:=e.2.1=n/\e.2.2.1=k/\(k=3\/e.1=p)
theorem qFk(O:List eI)(k:Int)(p n:BA):RA k p n (iK O k p n):=by
 suffices h:∀(O:List eI) (e:cP),RA k p n e->RA k p n (O.foldl (iJ k p n) e) from h O _ ⟨rfl,rfl,by
  unfold qH
  by_cases h:k=3
  .exact .inl h
  exact .inr (if_neg h)⟩
 intro O
 induction O with
 |nil=>intro e h;exact h
 |cons o O c=>
  intro e h
  rw[jM]
  refine c _ ?_
  unfold iJ
  split
  .rename_i hk
   obtain⟨b,d,a⟩:=CC (show iR o.2.2.1 o.1 o.2.1=iR k p n from hk)
   split
   .exact⟨rfl,rfl,by rw[<-b];rcases a with a|a;exact .inl a;exact .inr a⟩
   exact h
  exact h
theorem qKr(O:List eI)(k:Int)(p n:BA):iR (iK O k p n).2.2.1 (iK O k p n).1 (iK O k p n).2.1=iR k p n:=by
 obtain⟨b,c,a⟩:=qFk O k p n
 rw[b,c]
 unfold iR
 rcases a with a|a
 .simp[a]
 rw[a]
theorem qGj(O:List eI)(k:Int)(p n:BA):(iK O k p n).2.2.2.2.2=(O.countP fun o=>decide (lT o=iR k p n):Nat):=by
 suffices h:∀(O:List eI) (e:cP),(O.foldl (iJ k p n) e).2.2.2.2.2=e.2.2.2.2.2+(O.countP fun o=>decide (lT o=iR k p n):Nat) by
  have:=h O (qH k p n)
  unfold iK
  rw[this]
  show(0:Int)+_=_
  omega
 intro O
 induction O with
 |nil=>intro e;simp
 |cons o O a=>
  intro e
  rw[jM,a,List.countP_cons]
  unfold iJ
  by_cases hk:lT o=iR k p n
  .simp only[if_pos hk,hk,decide_true,jE]
   split
   .rename_i h0
    simp only[h0];omega
   simp only[];omega
  simp only[if_neg hk,hk,decide_false]
  simp
theorem qJs{O:List eI}{k:Int}{p n:BA}:(iK O k p n).2.2.2.2.2≠0↔∃o∈O,lT o=iR k p n:=by
 rw[qGj]
 constructor
 .intro h
  have:0<O.countP fun o=>decide (lT o=iR k p n):=by omega
  obtain⟨o,a,b⟩:=List.countP_pos_iff.1 this
  exact⟨o,a,gC b⟩
 rintro⟨o,a,b⟩
 have:0<O.countP fun o=>decide (lT o=iR k p n):=List.countP_pos_iff.2 ⟨o,a,jL b⟩
 omega
def oL(O:List eI)(o:eI):cP:=iK O o.2.2.1 o.1 o.2.1
def qF(v:cP):K3:=iR v.2.2.1 v.1 v.2.1
theorem OK(O:List eI)(o:eI):qF (oL O o)=lT o:=qKr ..
theorem qFl{O:List eI}{o o':eI}(h:lT o=lT o'):oL O o=oL O o':=qGn h
theorem XT{O:List eI}{o o':eI}(h:qF (oL O o)=qF (oL O o')):oL O o=oL O o':=qFl (by rw[<-OK O o,<-OK O o',h])
def IF(O:List eI):List (K3×cP):=O.foldl lR []
theorem VR:∀(O:List eI) (M:List (K3×cP)) (J:List eI),(M.map (·.1)).Nodup->(∀c v,cS M c=some v->∃o∈J,c=lT o)->((O.foldl lR M).map (·.1)).Nodup/\∀c v,cS (O.foldl lR M) c=some v->∃o∈J++O,c=lT o
 |[],M,J,b,h=>⟨b,by rw[List.append_nil];exact h⟩
 |o::O,M,J,b,h=>by
  rw[jM,show J++o::O=(J++[o])++O by simp]
  refine VR O _ _ (BV b _ _) fun c v a=> ?_
  unfold lR at a
  rw[GR b] at a
  by_cases e:c=lT o
  .exact⟨o,by simp,e⟩
  rw[if_neg e] at a
  obtain⟨o',d,f⟩:=h c v a
  exact⟨o',by simp[d],f⟩
theorem qGm{O:List eI}(e:O.length<1000000){c:K3}{v:cP}:(c,v)∈IF O↔∃o∈O,c=lT o/\v=oL O o:=by
 have b:=MapE.fold e
 obtain⟨g,f⟩:=VR O [] [] gJ (fun c v h=>by simp[cS] at h)
 unfold IF
 rw[<-HG b.1]
 constructor
 .intro h
  obtain⟨o,a,d⟩:=f c v h
  rw[kK] at a
  refine⟨o,a,d,?_⟩
  rw[d,show lT o=iR o.2.2.1 o.1 o.2.1 from rfl,b.2] at h
  split at h
  .cases h
  exact(jD h).symm
 rintro⟨o,a,rfl,rfl⟩
 rw[show lT o=iR o.2.2.1 o.1 o.2.1 from rfl,b.2,if_neg]
 .rfl
 exact qJs.2 ⟨o,a,rfl⟩
theorem qHc{O:List eI}(a:O.length<1000000):((IF O).map (·.1)).Nodup:=(MapE.fold a).1
theorem GL{α β:Type}(p:α->Bool)(g:α->β):∀(L:List α) (acc:List β),L.foldl (fun t x=>if p x=true then t++[g x] else t) acc=acc++(L.filter p).map g
 |[],acc=>by simp
 |x::L,acc=>by
  rw[jM,GL p g L,kW]
  by_cases h:p x=true
  .rw[if_pos h,if_pos h];simp
  rw[if_neg h,if_neg h]
theorem KR{α σ β:Type}{f:Option α->σ->Option (σ⊕β)}(g:σ->α->σ)(fin:σ->β)(I:Nat->σ->Prop)(a:∀n x s,I (n+1) s->f (some x) s=some (.inl (g s x))/\I n (g s x))(b:∀s,f none s=some (.inr (fin s))):∀(k:List α) (s:σ),I k.length s->iW f k s=some (fin (k.foldl g s))
 |[],s,_=>by simp only[iW,b,j0,List.foldl_nil]
 |x::k,s,e=>by
  obtain⟨c,d⟩:=a k.length x s (by simpa using e)
  simp only[iW,c,j0,jM]
  exact KR g fin I a b k _ d
theorem UI{N:Nat}{L:List bL}{p:BA}(a:oG N L)(c:1000001<N):BJ N L p=some (pO L p):=by
 simp only[BJ,qLu p a (show 100<N by omega),j0,YC _ c]
 unfold pO CU
 by_cases hc:eZ L=0
 .rw[if_pos hc,if_pos hc]
  cases hg:lI L p with
  |none=>rfl
  |some b=>
   have d:=a _ (qKd hg)
   simp only[QO,UB d]
   by_cases hs:mQ p=true
   .rw[if_pos hs,hs]
    simp only[jP,j9,jC,j0]
    congr 2
   have hs':mQ p=false:=by simpa using hs
   rw[if_neg hs,hs']
   rfl
 rw[if_neg hc,if_neg hc];rfl
def yF(L:List bL):List BA:=if eZ L=0 then oR L else[]
theorem VM{N:Nat}{L:List bL}(b:oG N L)(a:1000001<N):xM N L=some (yF L):=by
 simp only[xM,HV b a,j0]
 unfold vW yF
 by_cases hc:eZ L=0
 .rw[if_pos hc,if_pos hc]
 rw[if_neg hc,if_neg hc]
def DF(f:bL):Bool:=mQ f.1&& !decide ((eY f.2).2.2=0)
theorem qMk(f:bL):(if(!lF f)=true then mQ f.1 else false)=DF f:=by
 unfold DF lF
 cases mQ f.1<;>cases decide ((eY f.2).2.2=0)<;>rfl
theorem qEt{N:Nat}{L:List bL}(c:1000005<N):FD N L=some (yF L):=by
 simp only[FD,xU (show 100<N by omega),j0]
 unfold yF
 by_cases hc:eZ L=0
 .rw[if_neg (by simp[hc]),if_pos hc]
  have e:=(nI.1 hc).1
  have h:=sO (L:=L) (fun(t:List BA) (i:Nat)=>(t,(i:Int))) (f:=zU N L)
   (fun t f=> .inl (if DF f=true then t++[f.1] else t)) (fun t=>t) (fun i t=>t.length<=i) (by
    intro t i hi b
    simp only[zU]
    rw[if_pos (by simp only[j6];omega),dP hi]
    have ew:IntKind.wrap .i64 ((i:Int)+1)=((i+1:Nat):Int):=by rw[bS (by omega) (by omega)];omega
    have d:=LF hc (jW hi)
    simp only[j0,BS c,ew,d.1,SO (show 100<N by omega)]
    have a:=qMk L[i]
    by_cases hg:(!lF L[i])=true
    .rw[if_pos hg] at a ⊢
     simp only[j0,a]
     by_cases h1:DF L[i]=true
     .rw[if_pos h1,if_pos h1,iB (by simp only[jA,jB];omega) (by omega)]
      simp only[j0]
     rw[if_neg h1,if_neg h1];rfl
    .rw[if_neg hg] at a ⊢
     rw[<-a];rfl) (by
    intro t i hi t' b h
    cases h
    split
    .simp only[jF,jA,jB];omega
    .omega) (by
    intro t b
    simp only[zU]
    rw[if_neg (by simp)]) (M:=N) (t:=[]) (by omega) (jZ _)
  rw[show((0:Nat):Int)=0 from rfl] at h
  rw[h,rU (fun t f=>if DF f=true then t++[f.1] else t) (fun _ _=>rfl),GL DF (fun f=>f.1)]
  rfl
 rw[if_pos (by simpa using hc),if_neg hc]
def uF(pkg:BA)(f:bL):Bool:=lF f&&decide ((eY f.2).1.1=pkg)
def CN(L:List bL)(pkg:BA):List bL:=if eZ L=0 then L.filter (uF pkg) else[]
theorem LC:∀(l:List (BA×Sr)) (S:List (BA×Sr)) (c:BA),(S.map (·.1)).Nodup->(l.map (·.1)).Nodup->
  ((l.foldl (fun S x=>mset S x.1 x.2) S).map (·.1)).Nodup/\(∀v,(c,v)∈l->cS (l.foldl (fun S x=>mset S x.1 x.2) S) c=some v)/\((∀v,(c,v)∉l)->cS (l.foldl (fun S x=>mset S x.1 x.2) S) c=cS S c)
 |[],S,c,b,_=>⟨b,(fun v h=>by cases h),fun _=>rfl⟩
 |x::l,S,c,b,d=>by
  rw[kJ,gQ] at d
  obtain⟨g,k,f⟩:=LC l (mset S x.1 x.2) c (BV b _ _) d.2
  rw[jM]
  refine⟨g,fun v a=> ?_,fun a=> ?_⟩
  .rcases jI.1 a with e|a
   .subst e
    rw[f fun v' h'=>d.1 (gY.2 ⟨_,h',rfl⟩),GR b,if_pos rfl]
   exact k v a
  rw[f fun v h=>a v (jQ _ h),GR b,if_neg]
  rintro rfl
  exact a x.2 (jK ..)
theorem NF{L:List bL}(a:Asc L):((dQ L).map (·.1)).Nodup:=by
 unfold dQ
 rw[List.map_map]
 exact List.pairwise_map.2 ((List.Pairwise.filter _ a).imp fun h=>HR h)
def uD(L:List bL):List (BA×Sr):=(dQ L).foldl (fun S x=>mset S x.1 x.2) []
theorem qFc{L:List bL}(a:Asc L):((uD L).map (·.1)).Nodup:=(LC (dQ L) [] uB gJ (NF a)).1
theorem qGi{L:List bL}(a:Asc L){f:bL}(d:f∈L):cS (uD L) f.1=if lF f=true then some (eY f.2).1 else none:=by
 have h:=LC (dQ L) [] f.1 gJ (NF a)
 unfold uD
 by_cases hg:lF f=true
 .rw[if_pos hg]
  exact h.2.1 _ (gY.2 ⟨f,fC.2 ⟨d,hg⟩,rfl⟩)
 rw[if_neg hg,h.2.2 (fun v o=> ?_)]
 .rfl
 obtain⟨f',l,c,n⟩:=OU o
 have e:f'.1=f.1:=(congrArg Prod.fst n).symm
 have k:f'=f:=by
  have b:=NI a l
  have g:=NI a d
  rw[e,g] at b
  exact Prod.ext e (jD b).symm
 rw[k] at c;exact hg c
theorem VH{L:List bL}(a:Asc L){x:BA×Sr}:x∈uD L↔x∈dQ L:=by
 have h:=fun c=>LC (dQ L) [] c gJ (NF a)
 obtain⟨c,v⟩:=x
 rw[<-HG (qFc a)]
 by_cases hx:∃v',(c,v')∈dQ L
 .obtain⟨v',hv'⟩:=hx
  have e:cS (uD L) c=some v':=(h c).2.1 v' hv'
  rw[e]
  constructor
  .intro g;rw[<-jD g];exact hv'
  intro g
  have:=(h c).2.1 v g
  exact e.symm.trans this
 have e:cS (uD L) c=none:=(h c).2.2 fun v' hv'=>hx ⟨v',hv'⟩
 rw[e]
 exact⟨(fun g=>by cases g),fun g=>absurd ⟨v,g⟩ hx⟩
theorem qHt{N:Nat}{L:List bL}{pkg:BA}(c:oG N L)(b:1000001<N):FZ N L pkg=some (CN L pkg):=by
 simp only[FZ,HV c b,j0]
 unfold vW CN
 by_cases hc:eZ L=0
 .have d:=(nI.1 hc).2.1
  have e:=(nI.1 hc).1
  simp only[if_pos hc]
  rw[if_neg (by simp)]
  unfold KE
  have h:=sO (L:=L) (fun(t:List bL) (i:Nat)=>(t,(i:Int))) (f:=AR N (L,true,some (uD L),oR L,some ((iD (dQ L)).foldl lR [])) pkg)
   (fun t f=> .inl (if uF pkg f=true then t++[f] else t)) (fun t=>t) (fun i t=>t.length<=i) (by
    intro t i hi a
    simp only[AR]
    rw[if_pos (by simp only[j6];omega),dP hi]
    have ew:IntKind.wrap .i64 ((i:Int)+1)=((i+1:Nat):Int):=by rw[bS (by omega) (by omega)];omega
    simp only[j0,ew,aQ,qGi d (jW hi),mB]
    unfold uF
    by_cases hg:lF L[i]=true
    .simp only[if_pos hg,hg,hD,jE,j0,gW,gN,j6]
     by_cases h1:(eY (L[i]).2).1.1=pkg
     .rw[if_pos h1,if_pos h1,iB (by simp only[jA,jB];omega) (by omega)]
      simp only[j0]
     rw[if_neg h1,if_neg h1];rfl
    .have hg':lF L[i]=false:=by simpa using hg
     simp only[hg',j9,jC,Option.isSome_none,j0,dB]) (by
    intro t i hi t' a h
    cases h
    split
    .simp only[jF,jA,jB];omega
    .omega) (by
    intro t a
    simp only[AR]
    rw[if_neg (by simp)]) (M:=N) (t:=[]) (by omega) (jZ _)
  rw[show((0:Nat):Int)=0 from rfl] at h
  refine Eq.trans (congrArg (fun z=>Option.bind (Option.bind z _) _) h) ?_
  rw[rU (fun t f=>if uF pkg f=true then t++[f] else t) (fun _ _=>rfl),GL (uF pkg) (fun f=>f)]
  simp[hc]
 simp only[if_neg hc]
 rw[if_pos (by rfl)]
theorem qFd{N:Nat}{L:List bL}{pkg:BA}(c:1000005<N):FG N L pkg=some (CN L pkg):=by
 simp only[FG,xU (show 100<N by omega),j0]
 unfold CN
 by_cases hc:eZ L=0
 .rw[if_neg (by simp[hc]),if_pos hc]
  have d:=(nI.1 hc).1
  have h:=sO (L:=L) (fun(t:List bL) (i:Nat)=>(t,(i:Int))) (f:=zY N L pkg)
   (fun t f=> .inl (if uF pkg f=true then t++[f] else t)) (fun t=>t) (fun i t=>t.length<=i) (by
    intro t i hi a
    simp only[zY]
    rw[if_pos (by simp only[j6];omega),dP hi]
    have ew:IntKind.wrap .i64 ((i:Int)+1)=((i+1:Nat):Int):=by rw[bS (by omega) (by omega)];omega
    have b:=LF hc (jW hi)
    simp only[j0,BS c,ew,b.1,mB]
    unfold uF
    by_cases hg:lF L[i]=true
    .simp only[hg,jE,b.2 hg,j0,gN,j6]
     by_cases h1:(eY (L[i]).2).1.1=pkg
     .rw[if_pos h1,if_pos h1,iB (by simp only[jA,jB];omega) (by omega)]
      simp only[j0]
     rw[if_neg h1,if_neg h1];rfl
    .have hg':lF L[i]=false:=by simpa using hg
     simp only[hg',j9,jC,j0,dB]) (by
    intro t i hi t' a h
    cases h
    split
    .simp only[jF,jA,jB];omega
    .omega) (by
    intro t a
    simp only[zY]
    rw[if_neg (by simp)]) (M:=N) (t:=[]) (by omega) (jZ _)
  rw[show((0:Nat):Int)=0 from rfl] at h
  rw[h,rU (fun t f=>if uF pkg f=true then t++[f] else t) (fun _ _=>rfl),GL (uF pkg) (fun f=>f)]
  simp
 rw[if_pos (by simpa using hc),if_neg hc]
section
variable {κ ν:Type} [DecidableEq κ]
theorem WY:∀(l:List (κ×ν)) (k:κ) (v:ν),(mK l k v).length<=l.length+1
 |[],k,v=>by simp[mK]
 |p::l,k,v=>by
  have:=WY l k v
  simp only[mK]
  split
  .simp
  simp only[jA];omega
theorem PC[KOrd κ]{l:List (κ×ν)}(a:(l.map (·.1)).Nodup)(k:κ)(v:ν):(mset l k v).length<=l.length+1:=by
 have b:=(yA (.refl l) a k v).length_eq
 have c:=WY l k v
 omega
theorem qIw[KOrd κ]{l:List (κ×ν)}(d:(l.map (·.1)).Nodup)(k:κ)(v:ν)(c:κ):c∈(mset l k v).map (·.1)↔c=k\/c∈l.map (·.1):=by
 have h:=GR d k v c
 have a:cS (mset l k v) c=none↔c∉(mset l k v).map (·.1):=GV
 have b:cS l c=none↔c∉l.map (·.1):=GV
 by_cases e:c=k
 .rw[if_pos e] at h
  refine⟨fun _=> .inl e,fun _=> ?_⟩
  by_cases g:c∈(mset l k v).map (·.1)
  .exact g
  rw[a.2 g] at h;cases h
 rw[if_neg e] at h
 rw[h,b] at a
 constructor
 .intro g;exact .inr (Decidable.byContradiction fun q=>a.1 q g)
 rintro(g|g)
 .exact absurd g e
 exact Decidable.byContradiction fun q=>a.2 q g
end
def yS(L:List bL):List BA:=(dQ L).map fun x=>x.2.1
def CR(L:List bL):List BA:=if eZ L=0 then(yS L).foldl oB [] else[]
abbrev yU:=List (BA×Bool)
def tD(M:yU)(x:BA×Sr):yU:=mset M x.2.1 true
theorem VW:∀(k:List (BA×Sr)) (M:yU),(M.map (·.1)).Nodup->((k.foldl tD M).map (·.1)).Nodup/\(k.foldl tD M).length<=M.length+k.length/\∀c,c∈(k.foldl tD M).map (·.1)↔c∈M.map (·.1)\/c∈k.map fun x=>x.2.1
 |[],M,h=>⟨h,jN _,fun c=>by simp⟩
 |x::k,M,h=>by
  obtain⟨a,d,b⟩:=VW k (tD M x) (BV h _ _)
  have e:(tD M x).length<=M.length+1:=PC h _ _
  refine⟨a,by simp only[jM,jA];omega,fun c=> ?_⟩
  rw[jM,b c,show c∈(tD M x).map (·.1)↔c=x.2.1\/c∈M.map (·.1) from qIw h _ _ c,kJ,jI]
  constructor
  .rintro((g|g)|g)
   .exact .inr (.inl g)
   .exact .inl g
   exact .inr (.inr g)
  rintro(g|g|g)
  .exact .inl (.inr g)
  .exact .inl (.inl g)
  exact .inr g
theorem qKt{N:Nat}(k:List (BA×Sr)):iW (xI N) k (some [])=some (some (k.foldl tD [])):=by
 have h:=KR (f:=xI N) (fun s x=>some (tD (s.getD []) x)) (fun s=>s) (fun _ s=>s.isSome=true) (fun n x s a=>by
  obtain⟨M,rfl⟩:=hB.1 a
  exact⟨rfl,rfl⟩) (fun s=>rfl) k (some []) rfl
 rw[h]
 congr 1
 suffices g:∀(k:List (BA×Sr)) (M:yU),k.foldl (fun s x=>some (tD (s.getD []) x)) (some M)=some (k.foldl tD M) from g k []
 intro k
 induction k with
 |nil=>intro M;rfl
 |cons x k b=>intro M;rw[jM,jM];exact b _
theorem qJy{N:Nat}(k:yU)(a:k.length<1000000):iW (vG N) k []=some (k.map (·.1)):=by
 have h:=KR (f:=vG N) (fun s x=>s++[x.1]) (fun s=>s) (fun n s=>s.length+n<1000000) (fun n x s c=>by
  refine⟨?_,by simp only[jF,jA,jB];omega⟩
  simp only[vG]
  rw[iB (by simp only[jA,jB];omega) (by omega)]
  rfl) (fun s=>rfl) k [] (by simpa using a)
 rw[h]
 congr 1
 suffices g:∀(k:yU) (s:List BA),k.foldl (fun s x=>s++[x.1]) s=s++k.map (·.1) from g k []
 intro k
 induction k with
 |nil=>intro s;simp
 |cons x k b=>intro s;rw[jM,b];simp
theorem qJz{N:Nat}{l:List BA}(a:l.length<1000000):uR N l=some (nY l):=by
 unfold uR
 rw[if_pos (by omega)]
theorem qIg{N:Nat}{L:List bL}(o:oG N L)(n:1000001<N):FX N L=some (CR L):=by
 simp only[FX,HV o n,j0]
 have key:∀(S:List (BA×Sr)) (K:List BA),S.length<100000->(∀z,z∈S.map (fun x=>x.2.1)↔z∈K)->
   rV (xI N) S (some []:Option yU) (fun a=>rV (vG N) (Option.getD a []) ([]:List BA) (fun o2=>(uR N o2).bind fun b=>some b))=some (K.foldl oB []):=by
  intro S K d h
  refine NU fun k e=> ?_
  rw[qKt]
  simp only[j0,gW]
  obtain⟨a,b,f⟩:=VW k [] gJ
  have r:=e.length_eq
  refine NU fun q c=> ?_
  have p:=c.length_eq
  simp only[jB] at b
  rw[qJy q (by omega)]
  simp only[j0]
  rw[qJz (by rw[kU];omega)]
  simp only[j0]
  congr 1
  refine qIr ((c.map _).nodup_iff.2 a) fun z=> ?_
  rw[(c.map _).mem_iff,f z,<-h z,(e.map _).mem_iff]
  simp
 unfold vW CR
 by_cases hc:eZ L=0
 .have c:=(nI.1 hc).2.1
  have f:=(nI.1 hc).1
  simp only[if_pos hc]
  refine Eq.trans (congrArg (fun z=>Option.bind z _) (show uO (some ((dQ L).foldl (fun S x=>mset S x.1 x.2) []))=some () from rfl)) ?_
  simp only[j0,gW]
  refine key (uD L) (yS L) ?_ fun z=> ?_
  .have g:∀(l:List (BA×Sr)) (S:List (BA×Sr)),(S.map (·.1)).Nodup->(l.foldl (fun S x=>mset S x.1 x.2) S).length<=S.length+l.length:=by
    intro l
    induction l with
    |nil=>intro S _;exact jN _
    |cons x l e=>
     intro S d
     have:=e (mset S x.1 x.2) (BV d _ _)
     have:=PC d x.1 x.2
     simp only[jM,jA];omega
   have:=g (dQ L) [] gJ
   have:=KU L
   unfold uD
   simp only[jB] at*
   omega
  unfold yS
  simp only[gY]
  constructor
  .rintro⟨x,a,b⟩;exact⟨x,(VH c).1 a,b⟩
  rintro⟨x,a,b⟩;exact⟨x,(VH c).2 a,b⟩
 simp only[if_neg hc]
 refine Eq.trans (congrArg (fun z=>Option.bind z _) (show uO (some ([]:List (BA×Sr)))=some () from rfl)) ?_
 simp only[j0,gW]
 exact key [] [] (by decide) fun z=>by simp
def pQ{α:Type}(b:α->α->Bool)(e:α):List α->Nat
 |[]=>0
 |x::l=>if b x e=true then pQ b e l+1 else 0
theorem PT{α:Type}{b:α->α->Bool}{e:α}:∀(l:List α),pQ b e l<=l.length
 |[]=>jN _
 |x::l=>by
  have:=PT (b:=b) (e:=e) l
  simp only[pQ,jA]
  split<;>omega
theorem PL{α:Type}[DecidableEq α]{b:α->α->Bool}{e:α}:∀(l:List α),pN b e l=if l[pQ b e l]? =some e then l else l.take (pQ b e l)++e::l.drop (pQ b e l)
 |[]=>by simp[pN,pQ]
 |x::l=>by
  simp only[pN,pQ]
  by_cases h:b x e=true
  .simp only[h,jE,List.getElem?_cons_succ,List.take_succ_cons,List.drop_succ_cons]
   rw[PL l]
   split<;>rfl
  have h':b x e=false:=by simpa using h
  simp only[h',j9,jC,List.getElem?_cons_zero,jG,List.take_zero,kA,kK]
theorem OQ{α:Type}{b:α->α->Bool}{e:α}{L:List α}{f:Int->Option (Int⊕Int)}(k:L.length<1000000)
  (a:∀i,∀hi:i<L.length,f (i:Int)=some (if b L[i] e=true then .inl ((i+1:Nat):Int) else .inr (i:Int))) (c:f (L.length:Int)=some (.inr (L.length:Int))):∀(d i M:Nat),i+d=L.length->d<M->aK f M (i:Int)=some ((i+pQ b e (L.drop i):Nat):Int)
 |_,_,0,_,h=>absurd h (kY _)
 |0,i,M+1,g,_=>by
  have:i=L.length:=by omega
  subst this
  simp only[aK,c,j0,fU,pQ,gO]
 |d+1,i,M+1,g,l=>by
  have hi:i<L.length:=by omega
  simp only[aK,a i hi,j0]
  rw[NQ hi]
  simp only[pQ]
  by_cases hb:b L[i] e=true
  .rw[if_pos hb,if_pos hb]
   simp only
   rw[OQ k a c d (i+1) M (by omega) (by omega)]
   congr 2;omega
  rw[if_neg hb,if_neg hb]
  rfl
theorem LQ{α:Type}{by_:Nat}{L:List α}{x z:α}{k:Nat}(d:k<=L.length)(q:0<by_)(c:by_<=100)(r:L.length<1000000):
  ((dY by_ L [z]).bind fun b=>(oX b (IntKind.wrap .i64 ((k:Int)+1)) (List.length b:Int)).bind fun _=>(oX b (k:Int) (List.length b:Int)).bind fun _=>(sY b (IntKind.wrap .i64 ((k:Int)+1)) (k:Int)).bind fun g=>(bV g (k:Int)).bind fun _=>some (List.set g (Int.toNat (k:Int)) x))=some (L.take k++x::L.drop k):=by
 have w:IntKind.wrap .i64 ((k:Int)+1)=((k+1:Nat):Int):=by rw[bS (by omega) (by omega)];omega
 have s:(L.length+1)*by_<=(L.length+1)*100:=Nat.mul_le_mul_left _ c
 rw[w,iB (by simp only[jA,jB,kT];omega) q]
 simp only[j0]
 have a:(L++[z]).length=L.length+1:=by simp
 have h:oX (L++[z]) ((k+1:Nat):Int) ((L++[z]).length:Int)=some ():=by unfold oX;rw[if_pos (by rw[a];omega)]
 have l:oX (L++[z]) (k:Int) ((L++[z]).length:Int)=some ():=by unfold oX;rw[if_pos (by rw[a];omega)]
 have n:sY (L++[z]) ((k+1:Nat):Int) (k:Int)=some (qR (L++[z]) (k+1) k):=by unfold sY;rw[if_pos (by rw[a];omega)];rfl
 simp only[h,l,n,j0]
 have e:qR (L++[z]) (k+1) k=(L++[z]).take (k+1)++L.drop k:=by
  have t1:((L++[z]).drop k).take (L.length-k)=L.drop k:=by
   rw[gA d,kQ (by rw[kS];omega),gU (by rw[kS];omega)]
  have t2:(L++[z]).drop (L.length+1)=[]:=List.drop_of_length_le (by rw[a];omega)
  unfold qR
  rw[a,show min (L.length+1-k) (L.length+1-(k+1))=L.length-k by omega,show k+1+(L.length-k)=L.length+1 by omega,t1,t2,List.append_nil]
 have f:k<(qR (L++[z]) (k+1) k).length:=by rw[e];simp only[jF,fL,jA,jB,kS];omega
 rw[dP f]
 simp only[j0,kI]
 congr 1
 rw[e]
 have o:(L++[z]).take (k+1)=L.take k++[((L++[z])[k]'(by rw[a];omega))]:=by
  rw[kX (by rw[a];omega),kQ d]
 rw[o,gD,List.set_append_right _ _ (by simp only[fL];omega)]
 have p:k-(L.take k).length=0:=by simp only[fL];omega
 rw[p];rfl
theorem qNx{N:Nat}{l:List BA}{s:BA}(a:l.length<1000000)(h:l.length<N):FS N l s=some (oB l s):=by
 have d:=OQ (b:=blt) (e:=s) (L:=l) (f:=xB N l s) a (by
  intro i hi
  simp only[xB]
  rw[if_pos (by simp only[j6];omega),dP hi]
  have w:IntKind.wrap .i64 ((i:Int)+1)=((i+1:Nat):Int):=by rw[bS (by omega) (by omega)];omega
  simp only[j0,w]
  rw[show Op.bytesLess (l[i]).toList s.toList=blt l[i] s from rfl]
  split<;>rfl) (by
  simp only[xB]
  rw[if_neg (by simp)]
  rfl) l.length 0 N (by omega) h
 rw[kA,kT] at d
 have c:=PT (b:=blt) (e:=s) l
 unfold FS oB
 rw[PL]
 refine Eq.trans (congrArg (fun z=>Option.bind z _) (show aK (xB N l s) N 0=_ from d)) ?_
 generalize pQ blt s l=k at c
 simp only[j0]
 by_cases hc:(k:Int)<(l.length:Int)
 .have hi:k<l.length:=by omega
  rw[if_pos (by simpa using hi),dP hi]
  simp only[j0,mB,List.getElem?_eq_getElem hi,jG,j6]
  by_cases he:l[k]=s
  .rw[if_pos he,if_pos he]
  rw[if_neg he,if_neg he]
  exact LQ c (by decide) (by decide) a
 rw[if_neg (by simpa using hc)]
 simp only[j0,j9,jC]
 rw[if_neg (by rw[List.getElem?_eq_none (by omega)];intro g;cases g)]
 exact LQ c (by decide) (by decide) a
theorem qFp{N:Nat}{L:List bL}(d:1000005<N):FF N L=some (CR L):=by
 simp only[FF,xU (show 100<N by omega),j0]
 unfold CR
 by_cases hc:eZ L=0
 .rw[if_neg (by simp[hc]),if_pos hc]
  have k:=(nI.1 hc).1
  have h:=sO (L:=L) (fun(t:List BA) (i:Nat)=>(t,(i:Int))) (f:=zX N L)
   (fun t f=> .inl (if lF f=true then oB t (eY f.2).1.1 else t)) (fun t=>t) (fun i t=>t.length<=i) (by
    intro t i hi a
    simp only[zX]
    rw[if_pos (by simp only[j6];omega),dP hi]
    have ew:IntKind.wrap .i64 ((i:Int)+1)=((i+1:Nat):Int):=by rw[bS (by omega) (by omega)];omega
    have c:=LF hc (jW hi)
    simp only[j0,BS d,ew,c.1]
    by_cases hg:lF L[i]=true
    .rw[if_pos hg,if_pos hg,c.2 hg,qNx (by omega) (by omega)]
     rfl
    .rw[if_neg hg,if_neg hg];rfl) (by
    intro t i hi t' a h
    cases h
    split
    .have:=CD (b:=blt) (e:=(eY (L[i]).2).1.1) (l:=t)
     unfold oB
     omega
    .omega) (by
    intro t a
    simp only[zX]
    rw[if_neg (by simp)]) (M:=N) (t:=[]) (by omega) (jZ _)
  rw[show((0:Nat):Int)=0 from rfl] at h
  rw[h,rU (fun t f=>if lF f=true then oB t (eY f.2).1.1 else t) (fun _ _=>rfl)]
  simp only[j0]
  congr 1
  suffices g:∀(L:List bL) (t:List BA),L.foldl (fun t f=>if lF f=true then oB t (eY f.2).1.1 else t) t=(yS L).foldl oB t from g L []
  intro L
  induction L with
  |nil=>intro t;rfl
  |cons f L a=>
   intro t
   rw[jM,a]
   unfold yS dQ
   rw[kW]
   by_cases hg:lF f=true
   .rw[if_pos hg,if_pos hg];rfl
   rw[if_neg hg,if_neg hg]
 rw[if_pos (by simpa using hc),if_neg hc]
end
end Go.Proofs.YtbclhfjdmfbegaaGreatDoor
