/- No condition but those of each theorem. -/
import Derived.Lib.Bytealg
import Derived.Test.YtndcdhopdbkikabGreatDoorK4e9
namespace Go.Proofs.YtndcdhopdbkikabGreatDoor
section
open Go Go.Dc
def sp:List UInt8->List (List UInt8)
 |[]=>[[]]
 |c::l=>if c=47 then[]::sp l else match sp l with
  |[]=>[[c]]
  |p::q=>(c::p)::q
theorem IH:∀l:List UInt8,sp l≠[]
 |[]=>by simp[sp]
 |c::l=>by
  simp only[sp]
  split
  .simp
  split<;>simp
theorem An:∀l:List UInt8,(sp l).length=l.count 47+1
 |[]=>rfl
 |c::l=>by
  simp only[sp]
  split
  .rename_i h;subst h;simp[An l]
  rename_i h
  have:=An l
  split
  .rename_i e;exact absurd e (IH l)
  rename_i e
  rw[e] at this
  simp only[jC] at this ⊢
  rw[List.count_cons_of_ne h,<-this]
def pF(c:UInt8):Bool:=c !=47
theorem Kn:∀l:List UInt8,sp l=if(l.takeWhile pF).length=l.length then[l] else l.takeWhile pF::sp (l.drop ((l.takeWhile pF).length+1))
 |[]=>rfl
 |c::l=>by
  have b:=Kn l
  by_cases h:c=47
  .subst h
   rw[fF ac]
   simp[sp]
  have a:pF c=true:=by simpa[pF] using h
  rw[gS a]
  simp only[sp,h,jF,b,jC,Nat.add_right_cancel_iff,dE]
  by_cases he:(l.takeWhile pF).length=l.length
  .simp[he]
  simp[he]
def yF:Nat->Nat->List UInt8->Option (Nat×Nat)
 |a,b,[]=>some (a,b)
 |a,b,c::l=>if c=47 then(if b=0 then none else yF (a+1) 0 l) else if cJ [1,2,3,4] c then(if b+1>24 then none else yF a (b+1) l) else none
def qEb(p:List UInt8):Prop:=1<=p.length/\p.length<=24/\∀c∈p,cJ [1,2,3,4] c=true
theorem YA:∀(l:List UInt8) (a b:Nat),b<=24->((∃x y,yF a b l=some (x,y)/\0<y/\x<=8)↔
  ∃p q,sp l=p::q/\1<=b+p.length/\b+p.length<=24/\(∀c∈p,cJ [1,2,3,4] c=true)/\(∀r∈q,qEb r)/\a+q.length<=8)
 |[],a,b,v=>by
  constructor
  .rintro⟨x,y,h,e,g⟩
   simp only[yF,jJ,Prod.mk.injEq] at h
   exact⟨[],[],rfl,by simp;omega,by simpa using v,by simp,by simp,by simp;omega⟩
  rintro⟨p,q,h,e,g,_,_,f⟩
  simp only[sp,kV] at h
  obtain⟨rfl,rfl⟩:=h
  simp only[jD] at e f
  exact⟨a,b,rfl,by omega,by omega⟩
 |c::l,a,b,v=>by
  by_cases hc:c=47
  .have t:sp (c::l)=[]::sp l:=by simp[sp,hc]
   rw[t]
   simp only[yF,hc,jH]
   by_cases h0:b=0
   .subst h0
    simp only[jH]
    constructor
    .rintro⟨x,y,h,_⟩;cases h
    rintro⟨p,q,h,e,_⟩
    simp only[kV] at h
    rw[<-h.1] at e;simp at e
   rw[jA h0]
   rw[YA l (a+1) 0 aa]
   constructor
   .rintro⟨p,q,h,e,g,f,n,o⟩
    refine⟨[],sp l,rfl,by simp;omega,by simpa using v,by simp,?_,by rw[h];simp only[jC];omega⟩
    intro r s
    rw[h] at s
    rcases jK.1 s with rfl|s
    .exact⟨by omega,by omega,f⟩
    exact n r s
   rintro⟨p,q,h,e,g,f,n,o⟩
   simp only[kV] at h
   obtain⟨rfl,rfl⟩:=h
   obtain⟨p,q,k⟩:∃p q,sp l=p::q:=by
    cases u:sp l with
    |nil=>exact absurd u (IH l)
    |cons p q=>exact⟨p,q,rfl⟩
   rw[k] at n o
   obtain⟨A,B,z⟩:=n p (jR ..)
   exact⟨p,q,k,by omega,by omega,z,λr s=>n r (jU _ s),by simp only[jC] at o;omega⟩
  obtain⟨p0,z,k⟩:∃p q,sp l=p::q:=by
   cases u:sp l with
   |nil=>exact absurd u (IH l)
   |cons p q=>exact⟨p,q,rfl⟩
  have t:sp (c::l)=(c::p0)::z:=by simp only[sp,hc,jF,k]
  rw[t]
  simp only[yF,hc,jF]
  by_cases u:cJ [1,2,3,4] c=true
  .rw[jB u]
   by_cases h24:b+1>24
   .rw[jB h24]
    constructor
    .rintro⟨x,y,h,_⟩;cases h
    rintro⟨p,q,h,e,g,_⟩
    simp only[kV] at h
    rw[<-h.1] at g
    simp only[jC] at g
    omega
   rw[jA h24,YA l a (b+1) aa]
   constructor
   .rintro⟨p,q,h,e,g,f,n,o⟩
    rw[k] at h
    simp only[kV] at h
    obtain⟨rfl,rfl⟩:=h
    refine⟨_,_,rfl,by simp only[jC];omega,by simp only[jC];omega,?_,n,o⟩
    intro d s
    rcases jK.1 s with rfl|s
    .exact u
    exact f d s
   rintro⟨p,q,h,e,g,f,n,o⟩
   simp only[kV] at h
   obtain⟨rfl,rfl⟩:=h
   simp only[jC] at e g
   exact⟨p0,z,k,by omega,by omega,λd s=>f d (jU _ s),n,o⟩
  rw[jA u]
  constructor
  .rintro⟨x,y,h,_⟩;cases h
  rintro⟨p,q,h,e,g,f,_⟩
  simp only[kV] at h
  rw[<-h.1] at f
  exact absurd (f c (jR ..)) u
theorem inK4{N:Nat}(c:UInt8):((CU N (c.toNat:Int)).bind λy1=>if y1 then(some true) else(some ((c.toNat:Int)==46)))=some (cJ [1,2,3,4] c):=by
 have h:=BK (p:=λc=>(cJ [1,2,3] c||decide (c.toNat=46))==cJ [1,2,3,4] c) ag c
 rw[kG] at h
 rw[<-h,MW]
 simp only[j0]
 have e:((c.toNat:Int)==46)=decide (c.toNat=46):=by rw[kA,kG,j6];omega
 rw[e]
 cases cJ [1,2,3] c<;>simp
theorem WZ{N:Nat}{s:BA}(c:s.data.toList.length<1000000):∀(d i M a b:Nat),i+d=s.data.toList.length->d<M->a<=i+1->b<=24->
  aC (LE N s) M ((a:Int),(b:Int),(i:Int))=some (match yF a b (s.data.toList.drop i) with|some z=> .inl ((z.1:Int),(z.2:Int))|none=> .inr false)
 |d,i,0,_,_,_,h,_,_=>by omega
 |0,i,M+1,a,b,e,f,g,k=>by
  have l:=mG s
  simp only[aC,LE]
  rw[jA ad,jO aa]
  rfl
 |d+1,i,M+1,a,b,e,f,g,k=>by
  have l:=mG s
  have hi:i<s.data.toList.length:=by omega
  simp only[aC,LE]
  rw[jB ad,jM hi,pD hi]
  simp only[j0,inK4,kG,yF]
  by_cases hc:s.data.toList[i]=47
  .rw[jB (show((s.data.toList[i]).toNat:Int)=47 by rw[hc];rfl),jB hc]
   by_cases hb:b=0
   .rw[jB (show(b:Int)=0 by omega),jB hb]
    rfl
   rw[jA (show ¬(b:Int)=0 by omega),jA hb,bP (x:=(a:Int)+1) aa aa]
   simp only[j0]
   rw[jA ae,bP aa aa]
   have:=WZ (N:=N) c d (i+1) M (a+1) 0 aa aa aa aa
   exact this
  have hc':¬((s.data.toList[i]).toNat:Int)=47:=λh=>hc (UInt8.toNat_inj.1 (by show _=47;omega))
  rw[jA hc',jA hc]
  by_cases hk:cJ [1,2,3,4] (s.data.toList[i])=true
  .rw[jB hk,jB hk,bP (x:=(b:Int)+1) aa aa]
   simp only[j0]
   by_cases h24:b+1>24
   .rw[jB ad,jB h24]
    rfl
   rw[jA ad,jA h24,bP aa aa]
   have:=WZ (N:=N) c d (i+1) M a (b+1) aa aa aa aa
   exact this
  rw[jA hk,jA hk]
  rfl
def mV(l:List UInt8):Bool:=decide (l.length<=80/\(sp l).length<=8/\∀p∈sp l,1<=p.length/\p.length<=24/\∀c∈p,cJ [1,2,3,4] c=true)
theorem Gj(l:List UInt8):mV l=true↔l.length<=80/\∃x y,yF 1 0 l=some (x,y)/\0<y/\x<=8:=by
 rw[YA l 1 0 aa]
 simp only[mV,j6]
 obtain⟨p,q,hpq⟩:∃p q,sp l=p::q:=by
  cases a:sp l with
  |nil=>exact absurd a (IH l)
  |cons p q=>exact⟨p,q,rfl⟩
 constructor
 .rintro⟨c,d,b⟩
  rw[hpq] at d b
  obtain⟨f,g,e⟩:=b p (jR ..)
  exact⟨c,p,q,hpq,by omega,by omega,e,λr a=>b r (jU _ a),by simp only[jC] at d;omega⟩
 rintro⟨c,p',q',h,d,b,e,f,g⟩
 refine⟨c,by rw[h];simp only[jC];omega,?_⟩
 intro r a
 rw[h] at a
 rcases jK.1 a with rfl|a
 .exact⟨by omega,by omega,e⟩
 exact f r a
theorem XU{N:Nat}{s:BA}(c:100<N):CW N s=some (mV s.data.toList):=by
 have d:=mG s
 simp only[CW]
 by_cases h80:s.data.toList.length<=80
 .rw[jA ad]
  have key:=WZ (N:=N) (s:=s) aa s.data.toList.length 0 N 1 0 aa aa aa aa
  rw[show((0:Nat):Int)=0 from rfl,show((1:Nat):Int)=1 from rfl,jX] at key
  rw[key]
  have a:=Gj s.data.toList
  cases hR:yF 1 0 s.data.toList with
  |none=>
   simp only[j0]
   refine kF some ?_
   rw[kA,a]
   constructor
   .intro h;cases h
   rintro⟨_,x,y,h,_⟩;rw[hR] at h;cases h
  |some z=>
   obtain⟨x,y⟩:=z
   simp only[j0]
   by_cases hy:0<y
   .rw[jB ad]
    simp only[j0]
    refine kF some ?_
    rw[kA,a,j6]
    constructor
    .intro h;exact⟨h80,x,y,hR,hy,by omega⟩
    rintro⟨_,x',y',h,_,b⟩;rw[hR] at h;simp only[jJ,Prod.mk.injEq] at h;omega
   rw[jA ad]
   simp only[j0]
   refine kF some ?_
   rw[kA,a]
   constructor
   .intro h;cases h
   rintro⟨_,x',y',h,b,_⟩;rw[hR] at h;simp only[jJ,Prod.mk.injEq] at h;omega
 rw[jB ad]
 refine kF some ?_
 rw[kA,Gj]
 exact⟨λh=>(by cases h),λh=>absurd h.1 h80⟩
theorem qFl{p:UInt8->Bool}{l:List UInt8}{k:Nat}(c:k<l.length)(a:∀j,∀h:j<l.length,j<k->p l[j]=true)(b:p l[k]=false):tw p l 0=k:=by
 have key:∀d j,j+d=k->tw p l j=k:=by
  intro d
  induction d with
  |zero=>
   intro j h
   have:j=k:=by omega
   subst this
   exact BI c b
  |succ d e=>intro j h;rw[<-BJ aa (a j aa aa)];exact e (j+1) aa
 exact key k 0 aa
theorem qGb(x:BA):vO x 47=if(x.data.toList.takeWhile pF).length=x.data.toList.length then-1 else((x.data.toList.takeWhile pF).length:Int):=by
 have n:=mG x
 have l:tw pF x.data.toList 0=(x.data.toList.takeWhile pF).length:=by simp[tw]
 have a:∀j,∀h:j<x.data.toList.length,x[j]! =x.data.toList[j]:=by
  intro j b
  rw[getElem!_pos x j aa]
  simp[ByteArray.getElem_eq_getElem_data]
 have f:(47:Int).toNat.toUInt8=47:=rfl
 rw[<-l]
 unfold vO
 rw[f,<-n]
 cases hf:(List.range x.data.toList.length).find? (λj=>x[j]! ==47) with
 |none=>
  rw[List.find?_eq_none] at hf
  simp only
  rw[jB]
  refine Mj λc d=> ?_
  obtain⟨j,b,rfl⟩:=List.getElem_of_mem d
  have:=hf j (fR.2 b)
  rw[a j b] at this
  simpa[pF] using this
 |some k=>
  have d:=List.find?_some hf
  have g:k<x.data.toList.length:=fR.1 (kZ hf)
  rw[a k g] at d
  have e:tw pF x.data.toList 0=k:=by
   refine qFl g (λj h b=> ?_) (by simpa[pF] using d)
   have:=(List.find?_range_eq_some.1 hf).2.2 j b
   rw[a j h] at this
   simpa[pF] using this
  simp only
  rw[e,jA aa]
theorem Zx{N:Nat}(x:BA):MG N x (⟨#[47]⟩:BA)=some (vO x 47):=by
 have b:lH (⟨#[47]⟩:BA) 0=some 47:=by kernel_rfl
 simp only[MG,VJ,JX,show(⟨#[47]⟩:BA).size=1 from rfl,oD]
 rw[jA ac]
 simp only[j0,j6]
 by_cases h:(⟨#[47]⟩:BA)=x
 .have a:vO (⟨#[47]⟩:BA) 47=0:=by kernel_rfl
  rw[jB h,<-h,a]
  rfl
 rw[jA h,jB ac,b]
 rfl
theorem qDz(x:BA):OI x 47=((x.data.toList.count 47:Nat):Int):=by
 unfold OI
 rw[Go.Lib.foldl_data]
 have key:∀(l:List UInt8) (n:Int),l.foldl (λn x=>if x==(47:Int).toNat.toUInt8 then n+1 else n) n=n+((l.count 47:Nat):Int):=by
  intro l
  induction l with
  |nil=>intro n;simp
  |cons c l b=>
   intro n
   rw[kD,b,List.count_cons]
   have a:(47:Int).toNat.toUInt8=47:=rfl
   rw[a]
   by_cases h:(c==47)=true
   .simp only[h,jH];omega
   simp only[h,j9,jF];omega
 rw[key]
 omega
theorem qCs{α:Type}(l:List α)(k:Nat)(a b:α):(l++List.replicate (k+1) a).set l.length b=(l++[b])++List.replicate k a:=by
 rw[fV _ _ (jN _)]
 simp[List.replicate_succ]
theorem Fu{N n:Nat}{s:BA}(v:n<1000000000)(l:n<=s.size+1)(A:s.size<1000000000):∀(r M:Nat) (x:BA) (done:List BA),(sp x.data.toList).length=r->done.length+r=n->r<M->x.size<1000000000->
  ∃y D,aC (RW N s (⟨#[47]⟩:BA) 0 (n:Int)) M (x,(done.length:Int),done++List.replicate r (⟨#[]⟩:BA))=some (y,((n-1:Nat):Int),D++[(⟨#[]⟩:BA)])/\D.length=n-1/\D++[y]=done++(sp x.data.toList).map sS
 |_,0,_,_,_,_,h,_=>by omega
 |0,_,x,_,h,_,_,_=>by exact absurd (dI.1 h) (IH _)
 |r+1,M+1,x,done,c,F,G,H=>by
  have E:=mG x
  have f:(if wI ((s.size:Int)+1)<(n:Int) then wI ((s.size:Int)+1) else(n:Int))=(n:Int):=by
   rw[bP aa aa];split<;>omega
  have a:=Kn x.data.toList
  simp only[aC,RW]
  rw[f,bP (x:=(n:Int)-1) aa aa]
  by_cases hlast:(x.data.toList.takeWhile pF).length=x.data.toList.length
  .rw[jB hlast] at a
   rw[a] at c
   simp only[jC,jD] at c
   have b:r=0:=by omega
   subst b
   rw[jA ad]
   refine⟨x,done,?_,by omega,?_⟩
   .simp only[j0]
    rw[show(n-1:Nat)=done.length by omega]
    rfl
   rw[a];simp[sS]
  rw[jA hlast] at a
  rw[a] at c
  simp only[jC] at c
  have z:0<(sp (x.data.toList.drop ((x.data.toList.takeWhile pF).length+1))).length:=fM.2 (IH _)
  have B:(x.data.toList.takeWhile pF).length<=x.data.toList.length:=(dL _).length_le
  have hix:=qGb x
  rw[jA hlast] at hix
  rw[jB ad,Zx,hix]
  simp only[j0,show(⟨#[47]⟩:BA).size=1 from rfl]
  have u:(x.data.toList.takeWhile pF)=x.data.toList.take (x.data.toList.takeWhile pF).length:=List.prefix_iff_eq_take.1 (List.takeWhile_prefix _)
  have o:x.extract 0 (x.data.toList.takeWhile pF).length=sS (x.data.toList.takeWhile pF):=by
   apply Go.WideShapes.bytes_inj
   simp only[ByteArray.data_extract,fI,gG,sS,jX,Nat.sub_zero]
   exact u.symm
  have b:(x.extract ((x.data.toList.takeWhile pF).length+1) x.data.toList.length).data.toList=x.data.toList.drop ((x.data.toList.takeWhile pF).length+1):=by
   simp only[ByteArray.data_extract,fI,gG]
   exact gT (by simp only[kO];omega)
  generalize hk:(x.data.toList.takeWhile pF).length=k at*
  rw[jA ad,bP (x:=(k:Int)+0) aa aa,Int.add_zero]
  have d:pJ x 0 (k:Int)=some (x.extract 0 k):=by
   have:=wV (s:=x) (i:=0) (e:=k) aa aa
   simpa only[Int.natCast_zero] using this
  rw[d]
  simp only[j0]
  rw[eZ ae,bP (x:=(k:Int)+((1:Nat):Int)) aa aa,show((k:Int)+((1:Nat):Int))=((k+1:Nat):Int) by omega,YS aa]
  simp only[j0,jZ]
  rw[qCs,o,bP aa aa]
  have g:=mG (x.extract (k+1) x.data.toList.length)
  rw[b,kO] at g
  obtain⟨y,D,p,q,t⟩:=Fu (N:=N) v l A r M (x.extract (k+1) x.data.toList.length) (done++[sS (x.data.toList.takeWhile pF)]) (by rw[b];omega) ah aa aa
  refine⟨y,D,?_,q,?_⟩
  .rw[<-p];simp
  rw[t,b,a];simp
termination_by r=>r
theorem Zn{N:Nat}{s:BA}(p:s.size<100000000)(l:2*s.size+1000<N):SK N s (⟨#[47]⟩:BA)=some ((sp s.data.toList).map sS):=by
 have q:=mG s
 have h:=An s.data.toList
 have o:s.data.toList.count 47<=s.data.toList.length:=List.count_le_length
 have g:lH (⟨#[47]⟩:BA) 0=some 47:=by kernel_rfl
 have a:SJ N s (⟨#[47]⟩:BA)=some ((s.data.toList.count 47:Nat):Int):=by
  simp only[SJ,show(⟨#[47]⟩:BA).size=1 from rfl]
  rw[jA ac,jB ac,g]
  simp only[j0]
  rw[<-qDz];rfl
 simp only[SK,WM,oD,a,j0]
 rw[jA ac,jA ac,jB ac]
 simp only[j0]
 rw[bP (x:=((s.data.toList.count 47:Nat):Int)+1) aa aa,show((s.data.toList.count 47:Nat):Int)+1=(((sp s.data.toList).length:Nat):Int) by omega]
 generalize hn:(sp s.data.toList).length=n at*
 have c:(if wI ((s.size:Int)+1)<(n:Int) then wI ((s.size:Int)+1) else(n:Int))=(n:Int):=by
  rw[bP aa aa];split<;>omega
 rw[c]
 have k:DW 16 (⟨#[]⟩:BA) (n:Int)=some (List.replicate n (⟨#[]⟩:BA)):=by
  unfold DW
  rw[jB (by simp only[maxLen];omega),jZ]
 rw[k]
 simp only[j0]
 obtain⟨y,D,b,f,e⟩:=Fu (N:=N) (n:=n) (s:=s) aa aa aa n N s [] hn ae aa aa
 simp only[jD,kH] at b e
 rw[show((0:Nat):Int)=0 from rfl] at b
 rw[b]
 simp only[j0]
 rw[eZ ah]
 simp only[j0,jZ]
 have d:(D++[(⟨#[]⟩:BA)]).set (n-1) y=D++[y]:=by
  rw[<-f,fV _ _ (jN _)];simp
 rw[d,e,bP aa aa,show((n-1:Nat):Int)+1=(n:Int) by omega,Yh aa aa (by rw[gN,hn];omega)]
 simp only[j0,jZ,Int.toNat_zero,jX]
 rw[gT (by rw[gN,hn];exact jN _)]
theorem Mh{p:UInt8->Bool}{l:List UInt8}:tw p l 0=l.length↔∀c∈l,p c=true:=by
 constructor
 .intro h c a
  have b:(l.takeWhile p).length=l.length:=by simpa[tw] using h
  have d:=(List.takeWhile_prefix p (l:=l)).eq_of_length b
  rw[<-d] at a
  exact UJ a
 exact Mj
def DY(x:BA):Bool:=decide (1<=x.data.toList.length/\x.data.toList.length<=24/\∀c∈x.data.toList,cJ [1,2,3,4] c=true)
theorem Gp(x:BA):DY x=true↔1<=x.data.toList.length/\x.data.toList.length<=24/\∀c∈x.data.toList,cJ [1,2,3,4] c=true:=decide_eq_true_iff
theorem qCw{N:Nat}{x:BA}(f:100<N):(if(decide ((x.size:Int)<1))then(some true) else(if(decide ((x.size:Int)>24))then(some true) else((zJ N x 0 (some kdL) ([1,2,3,4])).bind λe=>some (e !=(x.size:Int)))))=some (!DY x):=by
 have d:=mG x
 have a:∀h:¬(1<=x.data.toList.length/\x.data.toList.length<=24/\∀c∈x.data.toList,cJ [1,2,3,4] c=true),DY x=false:=λh=>jP h
 by_cases h1:1<=x.data.toList.length
 .rw[jA ad]
  by_cases h2:x.data.toList.length<=24
  .rw[jA ad]
   have b:=NM (N:=N) (s:=x) (ks:=[1,2,3,4]) (i:=0) aa aa ae aa
   rw[show((0:Nat):Int)=0 from rfl] at b
   rw[b]
   simp only[j0]
   refine kF some ?_
   by_cases h3:tw (cJ [1,2,3,4]) x.data.toList 0=x.data.toList.length
   .have:DY x=true:=jI ⟨h1,h2,Mh.1 h3⟩
    rw[this,h3,d]
    simp
   rw[a λh=>h3 (Mh.2 h.2.2)]
   simp only[kI,fJ,dT]
   omega
  rw[jB ad,a λh=>h2 h.2.1]
  rfl
 rw[jB ad,a λh=>h1 h.1]
 rfl
theorem Ic{N:Nat}{L:List BA}(f:L.length<1000)(a:100<N):∀(d j M:Nat),j+d=L.length->d<M->aC (MF N L (some kdL)) M (j:Int)=some (if(L.drop j).all DY then .inl () else .inr false)
 |d,j,0,_,h=>by omega
 |0,j,M+1,c,e=>by
  simp only[aC,MF]
  rw[jA ad,jO aa]
  rfl
 |d+1,j,M+1,c,e=>by
  have b:j<L.length:=by omega
  simp only[aC,MF]
  rw[jB ad,eZ b]
  simp only[j0,qCw a]
  rw[jM b,List.all_cons]
  cases hp:DY L[j] with
  |true=>
   rw[jA ae,bP aa aa]
   simp only[j0,dJ]
   exact Ic f a d (j+1) M aa aa
  |false=>simp
theorem Li{N:Nat}{s:BA}(e:s.size<100000000)(d:2*s.size+1000<N):xV N s=some (mV s.data.toList):=by
 have g:=mG s
 have a:∀h:¬(s.data.toList.length<=80/\(sp s.data.toList).length<=8/\∀p∈sp s.data.toList,1<=p.length/\p.length<=24/\∀c∈p,cJ [1,2,3,4] c=true),mV s.data.toList=false:=λh=>jP h
 simp only[xV,Zn e d,j0,gN]
 by_cases h80:s.data.toList.length<=80
 .rw[jA ad]
  by_cases h8:(sp s.data.toList).length<=8
  .have b:decide (((sp s.data.toList).length:Int)>8)=false:=jP aa
   simp only[j0,b,j9,jF,ZG (show 30<N by omega)]
   have key:=Ic (N:=N) (L:=(sp s.data.toList).map sS) (by rw[gN];omega) aa _ 0 N (gA _) (by rw[gN];omega)
   rw[show((0:Nat):Int)=0 from rfl,jX] at key
   rw[key]
   simp only[j0]
   by_cases hp:((sp s.data.toList).map sS).all DY=true
   .have:mV s.data.toList=true:=jI ⟨h80,h8,λp hp'=>by
     have:=(Gp _).1 (jW.1 hp (sS p) (gL hp'))
     simpa[sS] using this⟩
    rw[jB hp,this]
   rw[jA hp,a λh=>hp (jW.2 λx f=>by
    obtain⟨p,hp',rfl⟩:=gW.1 f
    exact(Gp _).2 (by simpa[sS] using h.2.2 p hp'))]
  have b:decide (((sp s.data.toList).length:Int)>8)=true:=jI aa
  simp only[j0,b,jH]
  rw[a λh=>h8 h.2.1]
 rw[jB ad]
 simp only[j0,jH]
 rw[a λh=>h80 h.1]
def run{α τ β:Type}(step:τ->α->τ⊕β)(fin:τ->β):List α->τ->β
 |[],t=>fin t
 |x::l,t=>match step t x with
  | .inl t'=>run step fin l t'
  | .inr b=>b
theorem Hm{α τ σ β:Type}{L:List α}(enc:τ->Nat->σ){f:σ->Option (σ⊕β)}(step:τ->α->τ⊕β)(fin:τ->β)(I:Nat->τ->Prop)
  (a:∀t i,∀hi:i<L.length,I i t->f (enc t i)=some (match step t L[i] with| .inl t'=> .inl (enc t' (i+1))| .inr b=> .inr b))
  (e:∀t i,∀hi:i<L.length,∀t',I i t->step t L[i]= .inl t'->I (i+1) t')
  (c:∀t,I L.length t->f (enc t L.length)=some (.inr (fin t))):∀(d i M:Nat) (t:τ),i+d=L.length->d<M->I i t->aC f M (enc t i)=some (run step fin (L.drop i) t)
 |_,_,0,_,_,h,_=>absurd h (kS _)
 |d,i,M+1,t,l,n,g=>by
  cases d with
  |zero=>
   have hi:i=L.length:=by omega
   subst hi
   simp only[aC,c t g,j0,hU,run]
  |succ d=>
   have hi:i<L.length:=by omega
   have k:L.drop i=L[i]::L.drop (i+1):=(fS hi).symm
   simp only[aC,a t i hi g,j0]
   rw[k]
   simp only[run]
   cases hs:step t L[i] with
   |inl t'=>
    simp only
    exact Hm enc step fin I a e c d (i+1) M t' aa aa (e t i hi t' g hs)
   |inr b=>rfl
theorem BD{α τ σ β:Type}{L:List α}(enc:τ->Nat->σ){f:σ->Option (σ⊕β)}(step:τ->α->τ⊕β)(fin:τ->β)(I:Nat->τ->Prop)
  (a:∀t i,∀hi:i<L.length,I i t->f (enc t i)=some (match step t L[i] with| .inl t'=> .inl (enc t' (i+1))| .inr b=> .inr b))
  (d:∀t i,∀hi:i<L.length,∀t',I i t->step t L[i]= .inl t'->I (i+1) t')
  (c:∀t,I L.length t->f (enc t L.length)=some (.inr (fin t))) {M:Nat} {t:τ} (g:L.length<M) (e:I 0 t):aC f M (enc t 0)=some (run step fin L t):=by
 have:=Hm enc step fin I a d c L.length 0 M t aa g e
 rw[jX] at this;exact this
theorem DH{α τ β:Type}{step:τ->α->τ⊕β}{fin:τ->β}(g:τ->α->τ)(h:∀t x,step t x= .inl (g t x)):∀(l:List α) (t:τ),run step fin l t=fin (l.foldl g t)
 |[],_=>rfl
 |x::l,t=>by simp only[run,h,kD];exact DH g h l _
theorem zI{α:Type}{l:List α}{i:Nat}(h:i<l.length):l.drop i=l[i]::l.drop (i+1):=(fS h).symm
abbrev bT:=BA×BA
def blt(a b:BA):Bool:=Op.bytesLess a.toList b.toList
theorem Ww{a b:BA}(h:a.toList=b.toList):a=b:=by
 have c:(a.toList==b.toList)=true:=by rw[h];exact fG _
 rw[oD] at c
 exact gU c
theorem El:∀a:List UInt8,Op.bytesLess a a=false
 |[]=>rfl
 |x::a=>by simp[Op.bytesLess,El a]
theorem Fq:∀a b c:List UInt8,Op.bytesLess a b=true->Op.bytesLess b c=true->Op.bytesLess a c=true
 |_,_,[],_,h=>by simp[Op.bytesLess] at h
 |_,[],_::_,h,_=>by simp[Op.bytesLess] at h
 |[],_::_,_::_,_,_=>rfl
 |x::a,y::b,z::c,d,e=>by
  simp only[Op.bytesLess,dK,j6,jS,kG] at d e ⊢
  rcases d with d|⟨rfl,d⟩<;>rcases e with e|⟨rfl,e⟩
  .exact .inl (UInt8.lt_trans d e)
  .exact .inl d
  .exact .inl e
  exact .inr ⟨rfl,Fq a b c d e⟩
theorem Fe:∀a b:List UInt8,Op.bytesLess a b=true\/a=b\/Op.bytesLess b a=true
 |[],[]=> .inr (.inl rfl)
 |[],_::_=> .inl rfl
 |_::_,[]=> .inr (.inr rfl)
 |x::a,y::b=>by
  simp only[Op.bytesLess,dK,j6,jS,kG,kV]
  rcases Fe a b with h|h|h
  .rcases Nat.lt_trichotomy x.toNat y.toNat with g|g|g
   .exact .inl (.inl (UInt8.lt_iff_toNat_lt.2 g))
   .have g:=UInt8.toNat_inj.1 g;exact .inl (.inr ⟨g,h⟩)
   exact .inr (.inr (.inl (UInt8.lt_iff_toNat_lt.2 g)))
  .rcases Nat.lt_trichotomy x.toNat y.toNat with g|g|g
   .exact .inl (.inl (UInt8.lt_iff_toNat_lt.2 g))
   .have g:=UInt8.toNat_inj.1 g;exact .inr (.inl ⟨g,h⟩)
   exact .inr (.inr (.inl (UInt8.lt_iff_toNat_lt.2 g)))
  rcases Nat.lt_trichotomy x.toNat y.toNat with g|g|g
  .exact .inl (.inl (UInt8.lt_iff_toNat_lt.2 g))
  .have g:=UInt8.toNat_inj.1 g;exact .inr (.inr (.inr ⟨g.symm,h⟩))
  exact .inr (.inr (.inl (UInt8.lt_iff_toNat_lt.2 g)))
theorem DA(a:BA):blt a a=false:=El _
theorem HK{a b c:BA}(d:blt a b=true)(e:blt b c=true):blt a c=true:=Fq _ _ _ d e
theorem TE(a b:BA):blt a b=true\/a=b\/blt b a=true:=by
 rcases Fe a.toList b.toList with h|h|h
 .exact .inl h
 .exact .inr (.inl (Ww h))
 exact .inr (.inr h)
theorem Hf{a b:BA}(h:blt a b=true):blt b a=false:=by
 cases h2:blt b a with
 |false=>rfl
 |true=>have:=HK h h2;rw[DA] at this;cases this
theorem NO{a b:BA}(h:blt a b=true):a≠b:=by rintro rfl;rw[DA] at h;cases h
def Asc(L:List bT):Prop:=L.Pairwise λf g=>blt f.1 g.1=true
def mF:List bT->BA->Option BA
 |[],_=>none
 |f::L,p=>if f.1=p then some f.2 else mF L p
def pR:List bT->BA->BA->List bT
 |[],p,b=>[(p,b)]
 |f::L,p,b=>if blt p f.1 then(p,b)::f::L else if f.1=p then(p,b)::L else f::pR L p b
def AE(L:List bT)(p:BA):List bT:=L.filter λf=>decide (f.1≠p)
theorem SN{L:List bT}{p:BA}(h:∀f∈L,blt p f.1=true):mF L p=none:=by
 induction L with
 |nil=>rfl
 |cons f L c=>
  have a:=h f (jR ..)
  simp only[mF]
  rw[jA (λe=>by rw[e,DA] at a;cases a)]
  exact c λg b=>h g (jU _ b)
theorem ZP{L:List bT}{p b:BA}(h:mF L p=some b):(p,b)∈L:=by
 induction L with
 |nil=>simp[mF] at h
 |cons f L a=>
  simp only[mF] at h
  split at h
  .rename_i e;simp only[jJ] at h;subst h;subst e;exact jR ..
  exact jU _ (a h)
theorem XH{L:List bT}(b:Asc L){f:bT}(h:f∈L):mF L f.1=some f.2:=by
 induction L with
 |nil=>cases h
 |cons g L c=>
  have a:=jY.1 b
  rcases jK.1 h with rfl|h
  .simp[mF]
  simp only[mF]
  rw[jA (NO (a.1 f h)),c a.2 h]
theorem Asc.ext:∀{L K:List bT},Asc L->Asc K->(∀p,mF L p=mF K p)->L=K
 |[],[],_,_,_=>rfl
 |[],f::K,_,_,h=>by have:=h f.1;simp[mF] at this
 |f::L,[],_,_,h=>by have:=h f.1;simp[mF] at this
 |f::L,g::K,k,d,h=>by
  have hL':=jY.1 k
  have hK':=jY.1 d
  have e:f.1=g.1:=by
   rcases TE f.1 g.1 with a|a|a
   .have c:=h f.1
    rw[SN (L:=g::K) (λx b=>by
     rcases jK.1 b with rfl|b
     .exact a
     exact HK a (hK'.1 x b))] at c
    simp[mF] at c
   .exact a
   have c:=h g.1
   rw[SN (L:=f::L) (λx b=>by
    rcases jK.1 b with rfl|b
    .exact a
    exact HK a (hL'.1 x b))] at c
   simp[mF] at c
  have a:f.2=g.2:=by have:=h f.1;rw[e] at this;simpa[mF,e] using this
  have b:f=g:=Prod.ext e a
  subst b
  congr 1
  refine Asc.ext hL'.2 hK'.2 λp=> ?_
  by_cases hp:f.1=p
  .subst hp
   rw[SN hL'.1,SN hK'.1]
  have:=h p
  simpa[mF,hp] using this
theorem TT{L:List bT}{p b:BA}{f:bT}(h:f∈pR L p b):f=(p,b)\/f∈L:=by
 induction L with
 |nil=>simp[pR] at h;exact .inl h
 |cons g L a=>
  simp only[pR] at h
  split at h
  .rcases jK.1 h with h|h
   .exact .inl h
   exact .inr h
  split at h
  .rcases jK.1 h with h|h
   .exact .inl h
   exact .inr (jU _ h)
  rcases jK.1 h with h|h
  .exact .inr (h▸jR ..)
  rcases a h with h|h
  .exact .inl h
  exact .inr (jU _ h)
theorem Asc.put{L:List bT}(h:Asc L)(p b:BA):Asc (pR L p b):=by
 induction L with
 |nil=>exact List.pairwise_singleton _ _
 |cons g L f=>
  have h':=jY.1 h
  simp only[pR]
  split
  .rename_i d
   refine jY.2 ⟨λx a=> ?_,h⟩
   rcases jK.1 a with rfl|a
   .exact d
   exact HK d (h'.1 x a)
  rename_i d
  split
  .rename_i e
   exact jY.2 ⟨λx a=>by have:=h'.1 x a;rw[e] at this;exact this,h'.2⟩
  rename_i e
  refine jY.2 ⟨λx a=> ?_,f h'.2⟩
  rcases TT a with rfl|a
  .rcases TE g.1 p with c|c|c
   .exact c
   .exact absurd c e
   exact absurd c d
  exact h'.1 x a
theorem Asc.del{L:List bT}(h:Asc L)(p:BA):Asc (AE L p):=List.Pairwise.filter _ h
theorem SS(L:List bT)(p b:BA):(pR L p b).length<=L.length+1:=by
 induction L with
 |nil=>simp[pR]
 |cons g L a=>
  simp only[pR]
  split
  .simp
  split
  .simp
  simp only[jC];omega
def Mb(f:bT):Prop:=mV f.1.data.toList=true/\f.2.size<=16384
def WF(L:List bT):Prop:=L.length<=64/\Asc L/\∀f∈L,Mb f
theorem WF.put{L:List bT}(h:WF L){p b:BA}(e:mV p.data.toList=true)(c:b.size<=16384)(d:(pR L p b).length<=64):WF (pR L p b):=
 ⟨d,h.2.1.put p b,λf a=>by
  rcases TT a with rfl|a
  .exact⟨e,c⟩
  exact h.2.2 f a⟩
theorem WF.del{L:List bT}(h:WF L)(p:BA):WF (AE L p):=
 ⟨gC (fW _ _) h.1,h.2.1.del p,λf a=>h.2.2 f ((gM.1 a).1)⟩
def DX(q:Option BA)(p:BA):Bool:=match q with
 |some x=>blt p x
 |none=>false
def zU:Option BA->List bT->Int
 |_,[]=>0
 |q,f::L=>
  if mV f.1.data.toList=false then 6
  else if q=some f.1 then 10
  else if DX q f.1 then 6
  else if 16384<f.2.size then 2
  else zU (some f.1) L
def nE(L:List bT):Int:=if 64<L.length then 2 else zU none L
theorem Gv:∀{L:List bT} {q:Option BA},zU q L=0↔Asc L/\(∀f∈L,Mb f)/\∀x,q=some x->∀f∈L,blt x f.1=true
 |[],q=>by simp[zU,Asc]
 |f::L,q=>by
  have p:=Gv (L:=L) (q:=some f.1)
  simp only[zU]
  by_cases c:mV f.1.data.toList=false
  .rw[jB c]
   refine⟨λh=>by omega,λh=> ?_⟩
   have:=(h.2.1 f (jR ..)).1;rw[c] at this;cases this
  rw[jA c]
  have c:mV f.1.data.toList=true:=by simpa using c
  by_cases k:q=some f.1
  .rw[jB k]
   refine⟨λh=>by omega,λh=> ?_⟩
   have:=h.2.2 _ k f (jR ..);rw[DA] at this;cases this
  rw[jA k]
  by_cases d:DX q f.1=true
  .rw[jB d]
   refine⟨λh=>by omega,λh=> ?_⟩
   cases q with
   |none=>cases d
   |some x=>have:=h.2.2 x rfl f (jR ..);rw[show DX (some x) f.1=blt f.1 x from rfl,Hf this] at d;cases d
  rw[jA d]
  by_cases h4:16384<f.2.size
  .rw[jB h4]
   refine⟨λh=>by omega,λh=> ?_⟩
   have:=(h.2.1 f (jR ..)).2;omega
  rw[jA h4,p]
  have o:∀x,q=some x->blt x f.1=true:=λx e=>by
   subst e
   rcases TE x f.1 with g|g|g
   .exact g
   .exact absurd (by rw[g]) k
   exact absurd g d
  constructor
  .rintro⟨b,l,n⟩
   refine⟨jY.2 ⟨n f.1 rfl,b⟩,λg a=> ?_,λx e g a=> ?_⟩
   .rcases jK.1 a with rfl|a
    .exact⟨c,by omega⟩
    exact l g a
   rcases jK.1 a with rfl|a
   .exact o x e
   exact HK (o x e) (n f.1 rfl g a)
  rintro⟨b,l,n⟩
  have b:=jY.1 b
  exact⟨b.2,λg a=>l g (jU _ a),λx e=>by cases e;exact b.1⟩
theorem uI{L:List bT}:nE L=0↔WF L:=by
 unfold nE WF
 by_cases h:64<L.length
 .rw[jB h];exact⟨λh=>by omega,λg=>by omega⟩
 rw[jA h,Gv]
 exact⟨λg=>⟨by omega,g.1,g.2.1⟩,λg=>⟨g.2.1,g.2.2,λx a=>by cases a⟩⟩
def Bs(c:Int):Unit⊕Int:=if c=0 then .inl () else .inr c
def xK(L:List bT)(i:Nat):Option BA:=if i=0 then none else(L[i-1]?).map (·.1)
theorem Gc{L:List bT}{f:Int->Option (Int⊕(Unit⊕Int))}
  (step:∀i:Nat,∀h:i<L.length,f (i:Int)=if mV L[i].1.data.toList=false then some (.inr (.inr 6)) else if xK L i=some L[i].1 then some (.inr (.inr 10)) else if DX (xK L i) L[i].1 then some (.inr (.inr 6)) else if 16384<L[i].2.size then some (.inr (.inr 2)) else some (.inl ((i:Int)+1)))
  (stop:f (L.length:Int)=some (.inr (.inl ()))):∀(d i M:Nat),i+d=L.length->d<M->aC f M (i:Int)=some (Bs (zU (xK L i) (L.drop i)))
 |_,_,0,_,h=>by omega
 |0,i,M+1,c,_=>by
  have:i=L.length:=by omega
  subst this
  simp[aC,stop,zU,Bs]
 |d+1,i,M+1,c,g=>by
  have hi:i<L.length:=by omega
  have e:=Gc step stop d (i+1) M aa aa
  have a:(i:Int)+1=((i+1:Nat):Int):=by omega
  have b:xK L (i+1)=some L[i].1:=by simp[xK,hi]
  simp only[aC,step i hi]
  rw[jM hi]
  simp only[zU]
  by_cases h1:mV L[i].1.data.toList=false
  .rw[jB h1,jB h1];rfl
  rw[jA h1,jA h1]
  by_cases h2:xK L i=some L[i].1
  .rw[jB h2,jB h2];rfl
  rw[jA h2,jA h2]
  by_cases h3:DX (xK L i) L[i].1=true
  .rw[jB h3,jB h3];rfl
  rw[jA h3,jA h3]
  by_cases h4:16384<L[i].2.size
  .rw[jB h4,jB h4];rfl
  rw[jA h4,jA h4,a]
  simp only[j0]
  rw[e,b]
theorem sF(x y:BA):(x.toList==y.toList)=decide (x=y):=oD x y
theorem Jk{N:Nat}{L:List bT}{P:BA->Option Bool}{f:Int->Option (Int⊕(Unit⊕Int))}(l:∀g∈L,P g.1=some (mV g.1.data.toList))
  (k:∀s1,f s1=if(decide (s1<(List.length L:Int)))then((bC L s1).bind λa=>(P a.1).bind λy1=>if(!y1)then(some (.inr (.inr (6)))) else((if(decide (s1>0))then((bC L (wI (s1-1))).bind λo=>some (a.1.toList==o.1.toList)) else(some false):Option (Bool)).bind λo2=>if o2 then(some (.inr (.inr (10)))) else((if(decide (s1>0))then((bC L (wI (s1-1))).bind λp=>some (Op.bytesLess a.1.toList p.1.toList)) else(some false):Option (Bool)).bind λn=>if n then(some (.inr (.inr (6)))) else(if(decide ((ByteArray.size a.2:Int)>16384))then(some (.inr (.inr (2)))) else(some (.inl (wI (s1+1)))))))) else(some (.inr (.inl ()))))
  (q:100<N):(if(decide ((List.length L:Int)>64))then(some 2) else((aC f N 0).bind λc=>(match c with| .inl _=>some 0| .inr z=>some z)):Option Int)=some (nE L):=by
 unfold nE
 by_cases h:64<L.length
 .rw[jB h,jB ad]
 rw[jA h,jA ad]
 have key:=Gc (L:=L) (f:=f) (λi hi=>by
  rw[k,jB ad,eZ hi]
  simp only[j0,l _ (kE hi)]
  by_cases h1:mV L[i].1.data.toList=false
  .rw[jB (by rw[h1];rfl),jB h1]
  have h1':mV L[i].1.data.toList=true:=by simpa using h1
  rw[jA (by rw[h1'];simp),jA h1]
  by_cases d:0<i
  .have b:i-1<L.length:=by omega
   have ew:wI ((i:Int)-1)=((i-1:Nat):Int):=by rw[bP aa aa];omega
   have eq:xK L i=some (L[i-1]).1:=by simp[xK,b];omega
   rw[ew,eZ b,eq]
   have ed:decide ((i:Int)>0)=true:=by simp only[j6];omega
   simp only[j0,sF,ed,jH,j6,jJ]
   by_cases h2:L[i].1=(L[i-1]).1
   .rw[jB h2,jB h2.symm]
   rw[jA h2,jA (show ¬(L[i-1]).1=L[i].1 from λe=>h2 e.symm)]
   have el:DX (some (L[i-1]).1) L[i].1=Op.bytesLess L[i].1.toList (L[i-1]).1.toList:=rfl
   rw[el]
   by_cases h3:Op.bytesLess L[i].1.toList (L[i-1]).1.toList=true
   .rw[jB h3,jB h3]
   rw[jA h3,jA h3]
   by_cases h4:16384<L[i].2.size
   .rw[jB aa,jB h4]
   rw[jA aa,jA h4,bP aa aa]
  have d:i=0:=by omega
  subst d
  have ed:decide (((0:Nat):Int)>0)=false:=by decide
  have eq:xK L 0=none:=rfl
  have el:DX none (L[0]).1=false:=rfl
  simp only[ed,j9,jF,j0,eq,j6,reduceCtorEq,el]
  by_cases h4:16384<L[0].2.size
  .rw[jB aa,jB h4]
  rw[jA aa,jA h4,bP aa aa]) (by rw[k,jA ae]) L.length 0 N aa aa
 rw[show((0:Nat):Int)=0 from rfl] at key
 rw[key,jX]
 have eq:xK L 0=none:=rfl
 rw[eq]
 simp only[j0,Bs]
 by_cases hc:zU none L=0
 .rw[jB hc,hc]
 rw[jA hc]
theorem Zf{N:Nat}{L:List bT}(b:∀g∈L,xV N g.1=some (mV g.1.data.toList))(a:100<N):WP N L=some (nE L):=
 Jk (f:=WK N L) (P:=xV N) b (λ_=>rfl) a
theorem HC{N:Nat}{L:List bT}(a:100<N):CV N L=some (nE L):=
 Jk (f:=VS N L) (P:=CW N) (λ_ _=>XU a) (λ_=>rfl) a
end
section
open Go Go.Dc Go.Proofs
def eA:BA:=⟨#[]⟩
def IF(o:Option BA):BA×Bool:=match o with
 |some b=>(b,true)
 |none=>(eA,false)
def OC(L:List bT)(p:BA):BA×Bool:=if nE L=0 then IF (mF L p) else(eA,false)
abbrev HS(N:Nat)(L:List bT):Prop:=∀g∈L,xV N g.1=some (mV g.1.data.toList)
theorem Eg{N:Nat}{L:List bT}{p:BA}(e:L.length<1000000):∀(d i M:Nat),i+d=L.length->d<M->aC (KZ N L p) M (i:Int)=some (match mF (L.drop i) p with|some b=> .inr (b,true)|none=> .inl ())
 |_,_,0,_,h=>by omega
 |0,i,M+1,c,_=>by
  simp only[aC,KZ]
  rw[jA ad,jO aa]
  rfl
 |d+1,i,M+1,c,f=>by
  have hi:i<L.length:=by omega
  simp only[aC,KZ]
  rw[jB ad,eZ hi,jM hi]
  simp only[j0,sF,j6,mF]
  by_cases he:(L[i]).1=p
  .rw[jB he,jB he];rfl
  rw[jA he,jA he,bP aa aa]
  have a:(i:Int)+1=((i+1:Nat):Int):=by omega
  simp only[j0]
  rw[a,Eg e d (i+1) M aa aa]
theorem XR{N:Nat}{L:List bT}(p:BA)(a:100<N):vW N L p=some (OC L p):=by
 simp only[vW,HC a,j0]
 unfold OC
 by_cases hc:nE L=0
 .rw[jA (by simp[hc]),jB hc]
  have b:=(uI.1 hc).1
  have:=Eg (N:=N) (L:=L) (p:=p) aa L.length 0 N aa aa
  rw[show((0:Nat):Int)=0 from rfl,jX] at this
  rw[this]
  cases mF L p<;>rfl
 rw[jB (by simpa using hc),jA hc];rfl
def tE(s:BA):Bool:=mV s.data.toList&&decide (4<s.size)&&decide (s.extract (s.size-4) s.size=(⟨#[46,115,114,99]⟩:BA))
theorem Uf{N:Nat}{s:BA}(b:xV N s=some (mV s.data.toList)):SD N s=some (tE s):=by
 simp only[SD,b,j0]
 unfold tE
 cases hb:mV s.data.toList with
 |false=>simp
 |true=>
  have c:s.size<=80:=by
   have:s.data.toList.length<=80:=(gU hb).1
   have e:=mG s
   omega
  rw[jB rfl]
  by_cases h4:4<s.size
  .rw[jB ad]
   have a:ByteArray.size (⟨#[46,115,114,99]⟩:BA)=4:=rfl
   simp only[WI,VD,a]
   rw[jB ad,show wI ((s.size:Int)-((4:Nat):Int))=((s.size-4:Nat):Int) by rw[bP aa aa];omega,MR aa aa aa]
   simp only[j0,jZ,sF,jI h4,dJ]
  rw[jA ad,jP h4];rfl
theorem Sa{N:Nat}{s:BA}(a:100<N):QY N s=some (tE s):=by
 simp only[QY,XU a,j0]
 unfold tE
 cases hb:mV s.data.toList with
 |false=>simp
 |true=>
  have b:s.size<=80:=by
   have:s.data.toList.length<=80:=(gU hb).1
   have e:=mG s
   omega
  rw[jB rfl]
  by_cases h4:4<s.size
  .rw[jB ad,show wI ((s.size:Int)-4)=((s.size-4:Nat):Int) by rw[bP aa aa];omega,MR aa aa aa]
   simp only[j0,jZ,sF,jI h4,dJ]
  rw[jA ad,jP h4];rfl
section
variable {κ ν:Type} [DecidableEq κ]
theorem Fd:∀(l:List (κ×ν)) (k:κ) (v:ν) (c:κ),eL (qA l k v) c=if c=k then some v else eL l c
 |[],k,v,c=>by simp[qA,eL]
 |p::l,k,v,c=>by
  simp only[qA]
  by_cases h:k=p.1
  .rw[jB h]
   simp only[eL]
   by_cases h2:c=k
   .rw[jB h2,jB h2]
   rw[jA h2,jA h2,jA (by rw[<-h];exact h2)]
  rw[jA h]
  simp only[eL]
  rw[Fd l k v c]
  by_cases h2:c=p.1
  .rw[jB h2,jA (λe=>h (by rw[<-e,h2])),jB h2]
  rw[jA h2,jA h2]
theorem SX[KOrd κ]{l:List (κ×ν)}(a:(l.map (·.1)).Nodup)(k:κ)(v:ν)(c:κ):eL (mset l k v) c=if c=k then some v else eL l c:=by
 rw[<-XX (DD (.refl l) a k v) (HB a k v) c,Fd]
theorem SR[KOrd κ]{l:List (κ×ν)}(a:(l.map (·.1)).Nodup)(k:κ)(v:ν):((mset l k v).map (·.1)).Nodup:=
 ((DD (.refl l) a k v).map _).nodup_iff.1 (HB a k v)
end
end
section
open Go Go.Dc
instance decMemB(s:BA)(l:List BA):Decidable (s∈l):=@List.instDecidableMemOfLawfulBEq BA instBEqOfDecidableEq inferInstance s l
abbrev Ex:=Int×Int×Int×BA×List Int
abbrev Dl:=Int×BA×List BA×List Ex
abbrev Sr:=BA×List BA×List Dl
abbrev cL:=Int×Int
abbrev Ps:=Nat×List Ex
abbrev PM(α:Type):=cL⊕(Ps×α)
def aH(ts:List cC)(i:Nat):cC:=ts.getD i (5,⟨#[]⟩,0,0)
def iN{α:Type}(t:cC)(e:Int):cL⊕α:= .inl (t.2.2.2,e)
def bI{α β:Type}(x:cL⊕α)(f:α->cL⊕β):cL⊕β:=
 match x with
 | .inl z=> .inl z
 | .inr a=>f a
def cD(ts:List cC)(k:Int)(s:BA)(i:Nat):Bool:=(aH ts i).1==k&&decide ((aH ts i).2.1=s)
def eV(ts:List cC)(s:BA)(i:Nat):cL⊕Nat:=if cD ts 4 s i then .inr (i+1) else iN (aH ts i) 9
def vJ(ts:List cC)(s:BA)(i:Nat):cL⊕Nat:=if cD ts 1 s i then .inr (i+1) else iN (aH ts i) 9
def oH(ts:List cC)(k:Int)(i:Nat):cL⊕(Nat×cC):=if(aH ts i).1=k then .inr (i+1,aH ts i) else iN (aH ts i) 9
def NC:BA:=⟨#[112,97,99,107,97,103,101]⟩
def DJ:BA:=⟨#[105,109,112,111,114,116]⟩
def OD:BA:=⟨#[102,117,110,99]⟩
def NZ:BA:=⟨#[116,101,115,116]⟩
def OJ:BA:=⟨#[103,101,110]⟩
def PK:BA:=⟨#[105,102]⟩
def OF:BA:=⟨#[116,104,101,110]⟩
def OE:BA:=⟨#[101,108,115,101]⟩
def sU:BA:=⟨#[114,101,97,100]⟩
def sQ:BA:=⟨#[115,105,122,101]⟩
def sY:BA:=⟨#[104,97,115]⟩
def sV:BA:=⟨#[101,110,118]⟩
def uC:BA:=⟨#[102,108,105,112]⟩
def qV:BA:=⟨#[40]⟩
def nL:BA:=⟨#[41]⟩
def tJ:BA:=⟨#[44]⟩
def uP:BA:=⟨#[59]⟩
def CF:BA:=⟨#[61]⟩
def Ar:BA:=⟨#[45]⟩
def wordsR:List BA:=[NC,DJ,OD,NZ,OJ,PK,OF,OE,sU,sQ,sY,sV,uC]
def xD(s:BA):Bool:=decide (s∈wordsR)
def oI(ts:List cC)(i:Nat):cL⊕(Nat×cC):=bI (oH ts 1 i) λp=>if xD p.2.2.1 then iN p.2 9 else .inr p
def pQ(ts:List cC)(i:Nat):cL⊕(Nat×cC):=bI (oH ts 3 i) λp=>if mV p.2.2.1.data.toList then .inr p else iN p.2 9
def zW(ts:List cC)(i:Nat):cL⊕(Nat×cC):=bI (oH ts 3 i) λp=>if yE p.2.2.1 then .inr p else iN p.2 9
def nF(t:cC)(x:Ex)(p:Ps):PM Nat:=if p.2.length=256 then iN t 2 else .inr ((p.1,p.2++[x]),p.2.length)
def opsC:List (Int×BA):=[(1,⟨#[43]⟩),(2,⟨#[45]⟩),(3,⟨#[42]⟩),(4,⟨#[47]⟩),(5,⟨#[37]⟩),(6,⟨#[60]⟩),(7,⟨#[61,61]⟩)]
def AF(op:Int):Nat:=if op=6\/op=7 then 1 else if op=1\/op=2 then 2 else 3
def sC(ts:List cC)(level:Nat)(i:Nat)(o:Int×BA):Bool:=cD ts 4 o.2 i&&decide (AF o.1=level)
def nR(ts:List cC)(level:Nat)(i:Nat):Int:=
 match opsC.find? (sC ts level i) with
 |some o=>o.1
 |none=>0
section
variable (ts:List cC) (params:List BA) (E:Ps->PM Nat)
def yD:Nat->List Int->Ps->PM (List Int)
 |0,_,p=>iN (aH ts p.1) 9
 |n+1,l,p=>bI (E p) λq=>
  if cD ts 4 tJ q.1.1 then yD n (l++[(q.2:Int)]) (q.1.1+1,q.1.2)
  else bI (eV ts nL q.1.1) λi=> .inr ((i,q.1.2),l++[(q.2:Int)])
def zG(p:Ps):PM (List Int):=
 bI (eV ts qV p.1) λi=>if cD ts 4 nL i then .inr ((i+1,p.2),[]) else yD ts E (ts.length+1) [] (i,p.2)
def uZ(t:cC)(p:Ps):PM Nat:=
 bI (eV ts qV p.1) λi=>
 bI (if t.2.1=sU then
   bI (pQ ts i) λa=>bI (eV ts tJ a.1) λi=>bI (E (i,p.2)) λq=> .inr (q.1,((6,0,0,a.2.2.1,[(q.2:Int)]):Ex))
  else if t.2.1=sQ then bI (pQ ts i) λa=> .inr ((a.1,p.2),((7,0,0,a.2.2.1,[]):Ex))
  else if t.2.1=sY then bI (pQ ts i) λa=> .inr ((a.1,p.2),((8,0,0,a.2.2.1,[]):Ex))
  else if t.2.1=sV then bI (zW ts i) λa=> .inr ((a.1,p.2),((9,0,0,a.2.2.1,[]):Ex))
  else bI (oH ts 2 i) λa=>if a.2.2.2.1>=64 then iN a.2 9 else .inr ((a.1,p.2),((10,a.2.2.2.1,0,⟨#[]⟩,[]):Ex))) λq=>
 bI (eV ts nL q.1.1) λi=>nF t q.2 (i,q.1.2)
def wC(p:Ps):PM Nat:=
 let t:=aH ts p.1
 if t.1=2 then nF t (1,t.2.2.1,0,⟨#[]⟩,[]) (p.1+1,p.2)
 else if cD ts 4 Ar p.1 then bI (oH ts 2 (p.1+1)) λa=>nF t (1,wI (0-a.2.2.2.1),0,⟨#[]⟩,[]) (a.1,p.2)
 else if cD ts 4 qV p.1 then bI (E (p.1+1,p.2)) λq=>bI (eV ts nL q.1.1) λi=> .inr ((i,q.1.2),q.2)
 else if t.1≠1 then iN t 9
 else if t.2.1∈[sU,sQ,sY,sV,uC] then uZ ts E t (p.1+1,p.2)
 else if xD t.2.1 then iN t 9
 else if cD ts 4 qV (p.1+1) then bI (zG ts E (p.1+1,p.2)) λq=>nF t (3,0,0,t.2.1,q.2) q.1
 else match params.findIdx? (λx=>decide (x=t.2.1)) with
  |some i=>nF t (2,(i:Int),0,⟨#[]⟩,[]) (p.1+1,p.2)
  |none=>iN t 9
def sT(level:Nat)(S:Ps->PM Nat):Nat->Nat->Ps->PM Nat
 |0,_,p=>iN (aH ts p.1) 9
 |n+1,x,p=>
  if nR ts level p.1=0 then .inr (p,x)
  else bI (S (p.1+1,p.2)) λq=>bI (nF (aH ts p.1) (4,0,nR ts level p.1,⟨#[]⟩,[(x:Int),(q.2:Int)]) q.1) λr=>
   if level=1 then .inr r else sT level S n r.2 r.1
def wD(level:Nat)(S:Ps->PM Nat)(p:Ps):PM Nat:=bI (S p) λq=>sT ts level S (ts.length+1) q.2 q.1
def OG:Ps->PM Nat:=wD ts 3 (wC ts params E)
def yI:Ps->PM Nat:=wD ts 2 (OG ts params E)
def MZ:Ps->PM Nat:=wD ts 1 (yI ts params E)
end
def iR(ts:List cC)(params:List BA):Nat->Ps->PM Nat
 |0,p=>iN (aH ts p.1) 2
 |k+1,p=>
  if cD ts 1 PK p.1 then
   bI (iR ts params k (p.1+1,p.2)) λa=>bI (vJ ts OF a.1.1) λi=>
   bI (iR ts params k (i,a.1.2)) λb=>bI (vJ ts OE b.1.1) λj=>
   bI (iR ts params k (j,b.1.2)) λc=>nF (aH ts p.1) (5,0,0,⟨#[]⟩,[(a.2:Int),(b.2:Int),(c.2:Int)]) c.1
  else MZ ts params (iR ts params k) p
def wX(ts:List cC):Nat->List BA->Nat->cL⊕(Nat×List BA)
 |0,_,i=>iN (aH ts i) 9
 |n+1,l,i=>bI (oI ts i) λa=>
  if l.length=8 then iN a.2 2
  else if a.2.2.1∈l then iN a.2 10
  else if cD ts 4 tJ a.1 then wX ts n (l++[a.2.2.1]) (a.1+1)
  else bI (eV ts nL a.1) λj=> .inr (j,l++[a.2.2.1])
def uX(ts:List cC)(i:Nat):cL⊕(Nat×List BA):=
 bI (eV ts qV i) λj=>if cD ts 4 nL j then .inr (j+1,[]) else wX ts (ts.length+1) [] j
def oJ(s:BA):Int:=if s=OD then 1 else if s=NZ then 2 else if s=OJ then 3 else 0
def qU(ts:List cC)(before:List Dl)(i:Nat):cL⊕(Nat×Dl):=
 let t:=aH ts i
 let k:=oJ t.2.1
 if t.1≠1\/k=0 then iN t 9
 else if before.length=64 then iN t 2
 else bI (if k=3 then pQ ts (i+1) else oI ts (i+1)) λa=>
  if before.any (λd=>d.1==k&&decide (d.2.1=a.2.2.1)) then iN a.2 10
  else bI (if k=1 then uX ts a.1 else .inr (a.1,[])) λb=>
   bI (eV ts CF b.1) λj=>bI (iR ts b.2 32 (j,[])) λc=>
   bI (eV ts uP c.1.1) λm=> .inr (m,(k,a.2.2.1,b.2,c.1.2))
def tX(ts:List cC)(pkg:BA):Nat->List BA->Nat->cL⊕(Nat×List BA)
 |0,_,i=>iN (aH ts i) 9
 |n+1,l,i=>
  if cD ts 1 DJ i then
   if l.length=8 then iN (aH ts i) 2
   else bI (oI ts (i+1)) λa=>
    if a.2.2.1=pkg\/a.2.2.1∈l then iN a.2 10
    else bI (eV ts uP a.1) λj=>tX ts pkg n (l++[a.2.2.1]) j
  else .inr (i,l)
def wY(ts:List cC):Nat->List Dl->Nat->cL⊕List Dl
 |0,_,i=>iN (aH ts i) 9
 |n+1,l,i=>if(aH ts i).1=5 then .inr l else bI (qU ts l i) λa=>wY ts n (l++[a.2]) a.1
def xA(ts:List cC):cL⊕Sr:=
 bI (vJ ts NC 0) λi=>bI (oI ts i) λa=>bI (eV ts uP a.1) λj=>
 bI (tX ts a.2.2.1 (ts.length+1) [] j) λb=>bI (wY ts (ts.length+1) [] b.1) λl=> .inr (a.2.2.1,b.2,l)
def uO:Sr:=(⟨#[]⟩,[],[])
def lS(s:BA):Sr×Int×Int:=
 if(mT s).2.2≠0 then(uO,(mT s).2.1,(mT s).2.2)
 else match xA (mT s).1 with
  | .inl z=>(uO,z.1,z.2)
  | .inr f=>(f,0,0)
def OkT(ts:List cC):Prop:=ts≠[]/\∀i,i<ts.length->((aH ts i).1=5↔i+1=ts.length)
theorem lV{α β:Type}{x:cL⊕α}{f:α->cL⊕β}{b:β}(h:bI x f= .inr b):∃a,x= .inr a/\f a= .inr b:=by
 cases x with
 |inl z=>cases h
 |inr a=>exact⟨a,rfl,h⟩
section
variable {ts:List cC} {params:List BA} {E S:Ps->PM Nat}
theorem OkT.next(h:OkT ts){i:Nat}(hi:i<ts.length)(a:(aH ts i).1≠5):i+1<ts.length:=by
 have b:¬i+1=ts.length:=λe=>a ((h.2 i hi).2 e)
 omega
theorem TO{k:Int}{s:BA}{i:Nat}(h:cD ts k s i=true):(aH ts i).1=k:=by
 simp only[cD,jS,kG] at h;exact h.1
theorem oE(h:OkT ts){k:Int}{s:BA}{i:Nat}(hi:i<ts.length)(b:k≠5)(a:cD ts k s i=true):i+1<ts.length:=h.next hi (by rw[TO a];exact b)
theorem oF(h:OkT ts){s:BA}{i j:Nat}(hi:i<ts.length)(a:eV ts s i= .inr j):j=i+1/\j<ts.length/\cD ts 4 s i=true:=by
 unfold eV at a
 split at a
 .rename_i h2
  obtain rfl:=Sum.inr.inj a
  exact⟨rfl,oE h hi ac h2,h2⟩
 cases a
theorem HP(h:OkT ts){s:BA}{i j:Nat}(hi:i<ts.length)(a:vJ ts s i= .inr j):j=i+1/\j<ts.length/\cD ts 1 s i=true:=by
 unfold vJ at a
 split at a
 .rename_i h2
  obtain rfl:=Sum.inr.inj a
  exact⟨rfl,oE h hi ac h2,h2⟩
 cases a
theorem zQ(h:OkT ts){k:Int}(c:k≠5){i:Nat}{a:Nat×cC}(hi:i<ts.length)(b:oH ts k i= .inr a):a=(i+1,aH ts i)/\i+1<ts.length/\(aH ts i).1=k:=by
 unfold oH at b
 split at b
 .rename_i h2
  obtain rfl:=Sum.inr.inj b
  exact⟨rfl,h.next hi (by rw[h2];exact c),h2⟩
 cases b
theorem vX(h:OkT ts){i:Nat}{a:Nat×cC}(hi:i<ts.length)(f:oI ts i= .inr a):a=(i+1,aH ts i)/\i+1<ts.length/\(aH ts i).1=1/\xD (aH ts i).2.1=false:=by
 obtain⟨b,g,c⟩:=lV f
 obtain⟨rfl,d,e⟩:=zQ h ac hi g
 split at c
 .cases c
 rename_i g3
 obtain rfl:=Sum.inr.inj c
 exact⟨rfl,d,e,by simpa using g3⟩
theorem wW(h:OkT ts){i:Nat}{a:Nat×cC}(hi:i<ts.length)(f:pQ ts i= .inr a):a=(i+1,aH ts i)/\i+1<ts.length/\(aH ts i).1=3/\mV (aH ts i).2.1.data.toList=true:=by
 obtain⟨b,g,c⟩:=lV f
 obtain⟨rfl,d,e⟩:=zQ h ac hi g
 split at c
 .rename_i g3
  obtain rfl:=Sum.inr.inj c
  exact⟨rfl,d,e,g3⟩
 cases c
theorem Gu(h:OkT ts){i:Nat}{a:Nat×cC}(hi:i<ts.length)(f:zW ts i= .inr a):a=(i+1,aH ts i)/\i+1<ts.length/\(aH ts i).1=3/\yE (aH ts i).2.1=true:=by
 obtain⟨b,g,c⟩:=lV f
 obtain⟨rfl,d,e⟩:=zQ h ac hi g
 split at c
 .rename_i g3
  obtain rfl:=Sum.inr.inj c
  exact⟨rfl,d,e,g3⟩
 cases c
theorem qAx{t:cC}{x:Ex}{p q:Ps}{i:Nat}(h:nF t x p= .inr (q,i)):q=(p.1,p.2++[x])/\i=p.2.length/\p.2.length≠256:=by
 unfold nF at h
 split at h
 .cases h
 rename_i h1
 obtain⟨rfl,rfl⟩:=Prod.mk.inj (Sum.inr.inj h)
 exact⟨rfl,rfl,h1⟩
def JU(ts:List cC)(p q:Ps):Prop:=p.1<q.1/\q.1<ts.length/\p.2.length<=q.2.length/\q.2.length<=256
def nS(ts:List cC)(S:Ps->PM Nat):Prop:=∀(p q:Ps) (x:Nat),p.1<ts.length->p.2.length<=256->S p= .inr (q,x)->JU ts p q/\x<q.2.length
theorem zR{t:cC}{x:Ex}{p r q:Ps}{i:Nat}(b:p.1<r.1)(c:r.1<ts.length)(d:p.2.length<=r.2.length)(a:r.2.length<=256)(h:nF t x r= .inr (q,i)):JU ts p q/\i<q.2.length:=by
 obtain⟨rfl,rfl,g⟩:=qAx h
 refine⟨⟨b,c,?_,?_⟩,?_⟩<;>simp only[jG,jC,jD]<;>omega
theorem YE(h:OkT ts)(f:nS ts E):∀(n:Nat) (l:List Int) (p q:Ps) (x:List Int),p.1<ts.length->p.2.length<=256->yD ts E n l p= .inr (q,x)->JU ts p q
 |0,_,_,_,_,_,_,b=>by cases b
 |n+1,l,p,q,x,v,t,b=>by
  obtain⟨a,s,c⟩:=lV (show bI (E p) _=_ from b)
  obtain⟨⟨D,d,k,e⟩,F⟩:=f p a.1 a.2 v t s
  split at c
  .rename_i hc
   have g:=oE h d ac hc
   obtain⟨y,z,A,B⟩:=YE h f n _ (a.1.1+1,a.1.2) q x g e c
   exact⟨by simp only at y;omega,z,by simp only at A;omega,B⟩
  obtain⟨j,u,r⟩:=lV c
  obtain⟨rfl,o,-⟩:=oF h d u
  obtain⟨rfl,-⟩:=Prod.mk.inj (Sum.inr.inj r)
  exact⟨by simp only;omega,o,k,e⟩
theorem Dg(h:OkT ts)(e:nS ts E){p q:Ps}{x:List Int}(f:p.1<ts.length)(c:p.2.length<=256)(d:zG ts E p= .inr (q,x)):JU ts p q:=by
 obtain⟨i,hi,a⟩:=lV d
 obtain⟨rfl,b,-⟩:=oF h f hi
 split at a
 .rename_i hc
  obtain⟨rfl,-⟩:=Prod.mk.inj (Sum.inr.inj a)
  exact⟨by simp only;omega,oE h b ac hc,jN _,c⟩
 obtain⟨g,k,l,n⟩:=YE h e _ _ (p.1+1,p.2) q x b c a
 exact⟨by simp only at g;omega,k,l,n⟩
theorem Ua(h:OkT ts)(K:nS ts E){t:cC}{p q:Ps}{x:Nat}(R:p.1<ts.length)(n:p.2.length<=256)(D:uZ ts E t p= .inr (q,x)):JU ts p q/\x<q.2.length:=by
 obtain⟨i,hi,F⟩:=lV D
 obtain⟨rfl,l,-⟩:=oF h R hi
 obtain⟨a,g,G⟩:=lV F
 obtain⟨j,M,H⟩:=lV G
 have key:JU ts (p.1+1,p.2) a.1:=by
  split at g
  .obtain⟨b,f,e⟩:=lV g
   obtain⟨rfl,k,-⟩:=wW h l f
   obtain⟨c,y,z⟩:=lV e
   obtain⟨rfl,S,-⟩:=oF h k y
   obtain⟨d,A,B⟩:=lV z
   obtain⟨⟨o,s,u,v⟩,-⟩:=K (p.1+1+1+1,p.2) d.1 d.2 S n A
   obtain rfl:=Sum.inr.inj B
   exact⟨by simp only at o ⊢;omega,s,u,v⟩
  split at g
  .obtain⟨b,f,e⟩:=lV g
   obtain⟨rfl,k,-⟩:=wW h l f
   obtain rfl:=Sum.inr.inj e
   exact⟨by simp only;omega,k,jN _,n⟩
  split at g
  .obtain⟨b,f,e⟩:=lV g
   obtain⟨rfl,k,-⟩:=wW h l f
   obtain rfl:=Sum.inr.inj e
   exact⟨by simp only;omega,k,jN _,n⟩
  split at g
  .obtain⟨b,f,e⟩:=lV g
   obtain⟨rfl,k,-⟩:=Gu h l f
   obtain rfl:=Sum.inr.inj e
   exact⟨by simp only;omega,k,jN _,n⟩
  obtain⟨b,f,e⟩:=lV g
  obtain⟨rfl,k,-⟩:=zQ h ac l f
  split at e
  .cases e
  obtain rfl:=Sum.inr.inj e
  exact⟨by simp only;omega,k,jN _,n⟩
 obtain⟨o,s,u,v⟩:=key
 obtain⟨rfl,e,-⟩:=oF h s M
 exact zR (r:=(a.1.1+1,a.1.2)) (by simp only at o ⊢;omega) e u v H
theorem XI(h:OkT ts)(u:nS ts E):nS ts (wC ts params E):=by
 intro p q x o c b
 unfold wC at b
 dsimp only at b
 split at b
 .rename_i hk
  exact zR (r:=(p.1+1,p.2)) ak (h.next o (by rw[hk];decide)) (jN _) c b
 split at b
 .rename_i hc
  have g:=oE h o ac hc
  obtain⟨a,n,l⟩:=lV b
  obtain⟨rfl,t,-⟩:=zQ h ac g n
  exact zR (r:=(p.1+1+1,p.2)) ak t (jN _) c l
 split at b
 .rename_i hc
  have g:=oE h o ac hc
  obtain⟨a,n,l⟩:=lV b
  obtain⟨⟨d,e,f,k⟩,s⟩:=u (p.1+1,p.2) a.1 a.2 g c n
  obtain⟨j,y,v⟩:=lV l
  obtain⟨rfl,t,-⟩:=oF h e y
  obtain⟨rfl,rfl⟩:=Prod.mk.inj (Sum.inr.inj v)
  exact⟨⟨by simp only at d ⊢;omega,t,f,k⟩,s⟩
 split at b
 .cases b
 rename_i hk
 have g:=h.next o (show(aH ts p.1).1≠5 by simp only[dT,Decidable.not_not] at hk;rw[hk];decide)
 split at b
 .obtain⟨⟨d,e,f,k⟩,s⟩:=Ua h u (p:=(p.1+1,p.2)) g c b
  exact⟨⟨by simp only at d;omega,e,f,k⟩,s⟩
 split at b
 .cases b
 split at b
 .obtain⟨a,n,l⟩:=lV b
  obtain⟨d,e,f,k⟩:=Dg h u (p:=(p.1+1,p.2)) g c n
  exact zR (by simp only at d;omega) e f k l
 split at b
 .exact zR (r:=(p.1+1,p.2)) ak g (jN _) c b
 cases b
theorem Ht(h:OkT ts){level:Nat}(d:nS ts S):∀(n x:Nat) (p q:Ps) (y:Nat),p.1<ts.length->p.2.length<=256->x<p.2.length->sT ts level S n x p= .inr (q,y)->p.1<=q.1/\q.1<ts.length/\p.2.length<=q.2.length/\q.2.length<=256/\y<q.2.length
 |0,_,_,_,_,_,_,_,b=>by cases b
 |n+1,x,p,q,y,k,e,F,b=>by
  unfold sT at b
  split at b
  .obtain⟨rfl,rfl⟩:=Prod.mk.inj (Sum.inr.inj b)
   exact⟨jN _,k,jN _,e,F⟩
  rename_i hop
  have f:(aH ts p.1).1≠5:=by
   intro f
   apply hop
   unfold nR
   have:opsC.find? (sC ts level p.1)=none:=by
    rw[List.find?_eq_none]
    intro o _ c
    simp only[sC,jS] at c
    have:=TO c.1
    omega
   rw[this]
  have g:=h.next k f
  obtain⟨a,D,B⟩:=lV b
  obtain⟨⟨u,v,z,A⟩,R⟩:=d (p.1+1,p.2) a.1 a.2 g e D
  obtain⟨r,E,c⟩:=lV B
  obtain⟨⟨Y,l,M,s⟩,t⟩:=zR (ts:=ts) (p:=p) (by simp only at u;omega) v z A E
  split at c
  .obtain⟨rfl,rfl⟩:=Prod.mk.inj (Sum.inr.inj c)
   exact⟨by omega,l,M,s,t⟩
  obtain⟨U,G,V,H,K⟩:=Ht h d n _ _ q y l s t c
  exact⟨by omega,G,by omega,H,K⟩
theorem DB(h:OkT ts){level:Nat}(b:nS ts S):nS ts (wD ts level S):=by
 intro p q x n l f
 obtain⟨a,k,g⟩:=lV f
 obtain⟨⟨t,c,u,d⟩,e⟩:=b p a.1 a.2 n l k
 obtain⟨v,o,y,r,s⟩:=Ht h b _ _ _ q x c d e g
 exact⟨⟨by omega,o,by omega,r⟩,s⟩
theorem zK(h:OkT ts):∀k,nS ts (iR ts params k)
 |0=>λ_ _ _ _ _ d=>by cases d
 |k+1=>by
  intro p q x n e d
  unfold iR at d
  split at d
  .rename_i hc
   have g:=oE h n ac hc
   obtain⟨a,U,H⟩:=lV d
   obtain⟨⟨o,r,s,t⟩,-⟩:=zK h k (p.1+1,p.2) a.1 a.2 g e U
   obtain⟨i,hi,K⟩:=lV H
   obtain⟨rfl,F,-⟩:=HP h r hi
   obtain⟨b,f,M⟩:=lV K
   obtain⟨⟨u,v,y,z⟩,-⟩:=zK h k (a.1.1+1,a.1.2) b.1 b.2 F t f
   obtain⟨j,V,R⟩:=lV M
   obtain⟨rfl,G,-⟩:=HP h v V
   obtain⟨c,l,S⟩:=lV R
   obtain⟨⟨A,B,D,E⟩,-⟩:=zK h k (b.1.1+1,b.1.2) c.1 c.2 G z l
   simp only at o s u y A D
   exact zR aa B aa E S
  exact DB h (DB h (DB h (XI h (zK h k)))) p q x n e d
end
theorem Lu{ts:List cC}{i:Nat}(hi:i<ts.length):bC ts (i:Int)=some (aH ts i):=by
 rw[eZ hi]
 simp[aH,jV,hi]
theorem pY{i:Nat}(h:i<1000000):wI ((i:Int)+1)=((i+1:Nat):Int):=by rw[bP aa aa];omega
section
variable {N:Nat} {ts:List cC} {pr:List BA} {b:List Ex} {i:Nat}
theorem vY(hi:i<ts.length):uH N (ts,(i:Int),pr,b)=some ((ts,(i:Int),pr,b),aH ts i):=by
 simp only[uH,Lu hi,j0]
theorem IK(hi:i<ts.length)(k:Int)(s:BA):zC N (ts,(i:Int),pr,b) k s=some ((ts,(i:Int),pr,b),cD ts k s i):=by
 simp only[zC,vY hi,j0,oD,cD]
 cases h:(aH ts i).1==k<;>simp[h]
theorem Ad(hi:i<ts.length)(a:ts.length<1000000)(s:BA):GL N (ts,(i:Int),pr,b) s=some (Sum.map id (λj:Nat=>(ts,(j:Int),pr,b)) (vJ ts s i)):=by
 simp only[GL,IK hi,vY hi,j0,nJ,vJ]
 cases h:cD ts 1 s i
 .simp[iN]
 simp[pY (show i<1000000 by omega)]
theorem wB(hi:i<ts.length)(a:ts.length<1000000)(s:BA):rT N (ts,(i:Int),pr,b) s=some (Sum.map id (λj:Nat=>(ts,(j:Int),pr,b)) (eV ts s i)):=by
 simp only[rT,IK hi,vY hi,j0,nJ,eV]
 cases h:cD ts 4 s i
 .simp[iN]
 simp[pY (show i<1000000 by omega)]
theorem HJ(hi:i<ts.length)(a:ts.length<1000000)(s:BA):yY N (ts,(i:Int),pr,b) s=some (if cD ts 4 s i then((ts,((i+1:Nat):Int),pr,b),true) else((ts,(i:Int),pr,b),false)):=by
 simp only[yY,IK hi,j0]
 cases h:cD ts 4 s i
 .simp
 simp[pY (show i<1000000 by omega)]
theorem NJ(hi:i<ts.length)(f:ts.length<1000000){k:Int}(e:k≠5):AV N (ts,(i:Int),pr,b) k=some (Sum.map id (λa:Nat×cC=>((ts,(a.1:Int),pr,b),a.2)) (oH ts k i)):=by
 simp only[AV,vY hi,j0,nJ,oH]
 have d:(k !=5)=true:=by simpa using e
 by_cases h:(aH ts i).1=k
 .have c:((aH ts i).1 !=k)=false:=by simp[h]
  simp only[c,d,j9,jF,jH,j0,jB h,pY (show i<1000000 by omega),kJ]
 have c:((aH ts i).1 !=k)=true:=by simp[h]
 simp only[c,jH,j0,jA h,iN,Sum.map_inl,id]
theorem orS(a b:Bool):(if a then some a else some b)=some (a||b):=by
 cases a<;>simp
theorem qFy(b:Bool):(if b then some true else some false)=some b:=by cases b<;>simp
theorem Ey(s:BA):MB N s=some (xD s):=by
 simp only[MB,oD,xD,wordsR,NC,DJ,OD,NZ,OJ,PK,OF,OE,sU,sQ,sY,sV,uC,jK,gJ,dQ]
 simp only[orS,j0,qFy,jJ]
 simp only[Bool.decide_or]
theorem TY(hi:i<ts.length)(c:ts.length<1000000):AT N (ts,(i:Int),pr,b)=some (Sum.map id (λa:Nat×cC=>((ts,(a.1:Int),pr,b),a.2)) (oI ts i)):=by
 simp only[AT,NJ hi c (show(1:Int)≠5 by decide),j0,nJ,oI]
 cases h:oH ts 1 i with
 |inl z=>simp[bI]
 |inr a=>
  simp only[kJ,Ey,j0,bI]
  cases h2:xD a.2.2.1<;>simp[iN]
theorem TW(hi:i<ts.length)(d:ts.length<1000000)(g:300000<N)(f:∀j,(aH ts j).2.1.size<100000):AS N (ts,(i:Int),pr,b)=some (Sum.map id (λa:Nat×cC=>((ts,(a.1:Int),pr,b),a.2)) (pQ ts i)):=by
 simp only[AS,NJ hi d (show(3:Int)≠5 by decide),j0,nJ,pQ]
 cases h:oH ts 3 i with
 |inl z=>simp[bI]
 |inr a=>
  have c:a.2=aH ts i:=by
   unfold oH at h
   split at h
   .rw[<-Sum.inr.inj h]
   cases h
  have e:=f i
  rw[<-c] at e
  simp only[kJ,Li (N:=N) (s:=a.2.2.1) aa aa,j0,bI]
  cases h2:mV a.2.2.1.data.toList<;>simp[iN]
theorem DL(t:cC)(x:Ex)(d:b.length<=256)(n:Nat):wT N (ts,(n:Int),pr,b) t x=some (Sum.map id (λq:Ps×Nat=>((ts,(q.1.1:Int),pr,q.1.2),(q.2:Int))) (nF t x (n,b))):=by
 simp only[wT,nJ,j0,nF]
 by_cases h:b.length=256
 .simp[h,iN]
 have a:((b.length:Int)==256)=false:=by simp;omega
 have c:wI (((b.length+1:Nat):Int)-1)=(b.length:Int):=by rw[bP aa aa];omega
 simp only[a,j9,jF,j0,jA h,kJ]
 rw[lQ af aa]
 simp only[j0,jG,jC,jD,gA,c]
end
theorem Gb{N:Nat}{s:BA}{l:List BA}(a:l.length<1000000):∀(d i M:Nat),i+d=l.length->d<M->
  aC (JY N l s) M (i:Int)=some (match(l.drop i).findIdx? (λx=>decide (x=s)) with|some j=> .inr (((i+j:Nat):Int))|none=> .inl ())
 |d,i,0,_,h=>by omega
 |0,i,M+1,h,_=>by
  have:l.drop i=[]:=jO aa
  simp only[aC,JY,this,List.findIdx?_nil]
  rw[jA ad]
  rfl
 |d+1,i,M+1,h,c=>by
  have hi:i<l.length:=by omega
  have b:=Gb (N:=N) (s:=s) a d (i+1) M aa aa
  simp only[aC,JY]
  rw[jB ad,eZ hi,jM hi,List.findIdx?_cons]
  simp only[j0,oD,j6]
  by_cases hs:l[i]=s
  .rw[jB hs.symm,jB hs];simp
  rw[jA (λe=>hs e.symm),jA hs]
  simp only[j0,pY (show i<1000000 by omega),b]
  cases(l.drop (i+1)).findIdx? (λx=>decide (x=s)) with
  |none=>rfl
  |some j=>simp only[kL];congr 2;omega
theorem Ja{N:Nat}{s:BA}{l:List BA}(b:l.length<1000000)(a:l.length<N):
  KC N l s=some (match l.findIdx? (λx=>decide (x=s)) with|some j=>(j:Int)|none=> -1):=by
 have h:=Gb (N:=N) (s:=s) b l.length 0 N aa a
 simp only[jX,gA] at h
 simp only[KC]
 rw[show(0:Int)=((0:Nat):Int) from rfl,h]
 simp only[j0]
 cases l.findIdx? (λx=>decide (x=s))<;>rfl
theorem Vv{s:BA}{l:List BA}:(l.findIdx? (λx=>decide (x=s))).isSome=decide (s∈l):=by
 rw[List.findIdx?_isSome]
 rw[kA]
 simp only[fQ,j6]
 exact⟨λ⟨x,a,b⟩=>b▸a,λh=>⟨s,h,rfl⟩⟩
theorem Er{N:Nat}{s:BA}{l:List BA}(b:l.length<1000000)(a:l.length<N):
  KA N l s=some (decide (s∈l)):=by
 simp only[KA,Ja b a,j0,<-Vv]
 cases l.findIdx? (λx=>decide (x=s)) with
 |none=>rfl
 |some j=>simp only[Option.isSome_some];rw[jI (show(j:Int)>=0 by omega)]
theorem Yv{α:Type}{g:α->Bool}{l k:List α}(n:∀a∈l,∀b∈l,g a=true->g b=true->a=b)(d:k.Perm l):k.find? g=l.find? g:=by
 cases h:l.find? g with
 |none=>
  rw[List.find?_eq_none] at h ⊢
  exact λx c=>h x (d.mem_iff.1 c)
 |some a=>
  have e:=kZ h
  have f:=List.find?_some h
  cases c:k.find? g with
  |none=>exact absurd f (by simpa using List.find?_eq_none.1 c a (d.mem_iff.2 e))
  |some b=>rw[n b (d.mem_iff.1 (kZ c)) a e (List.find?_some c) f]
theorem Zy:∀a∈opsC,∀b∈opsC,a.2=b.2->a=b:=by
 have h:(opsC.all λa=>opsC.all λb=> !(decide (a.2=b.2))||decide (a=b))=true:=by kernel_rfl
 intro a c b d e
 have:=jW.1 (jW.1 h a c) b d
 simpa[e] using this
section
variable {N:Nat} {ts:List cC} {pr:List BA} {b:List Ex} {i:Nat}
theorem Zg(op:Int):SI N op=some ((AF op:Nat):Int):=by
 by_cases h1:op=6
 .subst h1;rfl
 by_cases h2:op=7
 .subst h2;rfl
 by_cases h3:op=1
 .subst h3;rfl
 by_cases h4:op=2
 .subst h4;rfl
 simp[SI,AF,h1,h2,h3,h4]
theorem Lh(level:Nat){t:cC}(a:t=aH ts i):∀k:List (Int×BA),mY (FF N (level:Int) ((ts,(i:Int),pr,b),t)) k ()=
  some (match k.find? (sC ts level i) with|some o=> .inr ((ts,(i:Int),pr,b),o.1)|none=> .inl ())
 |[]=>rfl
 |o::k=>by
  have key:FF N (level:Int) ((ts,(i:Int),pr,b),t) (some o) ()=some (if sC ts level i o then .inr (.inr ((ts,(i:Int),pr,b),o.1)) else .inl ()):=by
   subst a
   simp only[FF,Zg,j0,oD,sC,cD]
   have c:(((AF o.1:Nat):Int)==(level:Int))=decide (AF o.1=level):=by
    rw[kA];simp only[kG,j6];omega
   rw[c]
   by_cases h1:(aH ts i).1=4<;>by_cases h2:(aH ts i).2.1=o.2<;>by_cases h3:AF o.1=level<;>simp[h1,h2,h3]
  simp only[mY,key,j0,List.find?_cons]
  cases h:sC ts level i o with
  |true=>rfl
  |false=>exact Lh level a k
theorem qAf:XB N=some (some opsC):=by kernel_rfl
theorem Uz(hi:i<ts.length)(level:Nat):RF N (ts,(i:Int),pr,b) (level:Int)=some ((ts,(i:Int),pr,b),nR ts level i):=by
 simp only[RF,vY hi,qAf,j0,PJ,kL,gP]
 have h:∀a∈opsC,∀b∈opsC,sC ts level i a=true->sC ts level i b=true->a=b:=by
  intro a e b g c d
  simp only[sC,cD,jS,j6] at c d
  exact Zy a e b g (c.1.2.symm.trans d.1.2)
 have key:=Gz (f:=FF N (level:Int) ((ts,(i:Int),pr,b),aH ts i)) (l:=opsC) (s:=()) λk c=>by
  rw[Lh level rfl k,Yv h c]
 rw[key]
 unfold nR
 cases opsC.find? (sC ts level i)<;>rfl
end
abbrev oC:=List cC×Int×List BA×List Ex
def iT(ts:List cC)(pr:List BA)(p:Ps):oC:=(ts,(p.1:Int),pr,p.2)
def mZ(ts:List cC)(pr:List BA):PM Nat->cL⊕(oC×Int):=Sum.map id λq=>(iT ts pr q.1,(q.2:Int))
def IV(ts:List cC)(pr:List BA):PM (List Int)->cL⊕(oC×List Int):=Sum.map id λq=>(iT ts pr q.1,q.2)
section
variable {N:Nat} {ts:List cC} {pr:List BA} {E S:Ps->PM Nat} {d:Int}
variable {r1:oC->cC->Int->Option (cL⊕(oC×Int))} {r2:oC->Int->Option (cL⊕(oC×List Int))} {r3:oC->Int->Option (cL⊕(oC×Int))} {r4:oC->Int->Int->Option (cL⊕(oC×Int))} {r5:oC->Int->Option (cL⊕(oC×Int))}
theorem Gt(k:OkT ts)(r:ts.length<1000000)(t:nS ts E)(u:∀p:Ps,p.1<ts.length->p.2.length<=256->r5 (iT ts pr p) (wI (d+1))=some (mZ ts pr (E p))):
  ∀(n M:Nat) (l:List Int) (p:Ps),p.1<ts.length->p.2.length<=256->l.length<=p.1->ts.length<p.1+n->ts.length<p.1+M->
  ((aC (QI N r5 d) M (l,ts,(p.1:Int),pr,p.2)).bind λs=>(match s with| .inl a=>(rT N (a.2.1,a.2.2.1,a.2.2.2.1,a.2.2.2.2) (⟨#[41]⟩:BA)).bind λA=>(match A with| .inl B=>some (.inl B)| .inr e=>some (.inr ((e.1,e.2.1,e.2.2.1,e.2.2.2),a.1)))| .inr (z)=>some z))=some (IV ts pr (yD ts E n l p))
 |0,M,l,p,c,_,_,h,_=>by omega
 |n+1,0,l,p,c,_,_,_,h=>by omega
 |n+1,M+1,l,p,c,v,D,R,K=>by
  have f:=u p c v
  simp only[iT] at f
  simp only[aC,QI,yD,f,j0]
  cases hq:E p with
  |inl z=>simp only[mZ,Sum.map_inl,id,bI,IV,j0]
  |inr q=>
   obtain⟨⟨F,o,G,x⟩,H⟩:=t p q.1 q.2 c v hq
   simp only[mZ,kJ,bI,iT]
   rw[lQ af aa]
   simp only[j0,HJ o r,tJ]
   rcases eX (cD ts 4 ⟨#[44]⟩ q.1.1) with b|b
   .have g:=oE k o ac b
    have y:=Gt k r t u n M (l++[(q.2:Int)]) (q.1.1+1,q.1.2) g x aj ak ak
    simp only[b,jH,kP,j9,jF,j0]
    exact y
   simp only[b,j9,jF,kI,jH,j0,wB o r,nL]
   cases eV ts ⟨#[41]⟩ q.1.1 with
   |inl z=>rfl
   |inr j=>rfl
theorem Uu(a:OkT ts)(c:ts.length<1000000)(n:ts.length<N)(f:nS ts E)(k:∀p:Ps,p.1<ts.length->p.2.length<=256->r5 (iT ts pr p) (wI (d+1))=some (mZ ts pr (E p)))
  (p:Ps) (e:p.1<ts.length) (l:p.2.length<=256):QK N r1 r2 r3 r4 r5 (iT ts pr p) d=some (IV ts pr (zG ts E p)):=by
 simp only[QK,iT,wB e c,j0,zG,qV]
 cases h:eV ts ⟨#[40]⟩ p.1 with
 |inl z=>rfl
 |inr i=>
  obtain⟨rfl,g,-⟩:=oF a e h
  simp only[kJ,bI,HJ g c,j0,nL]
  rcases eX (cD ts 4 ⟨#[41]⟩ (p.1+1)) with b|b
  .simp only[b,jH];rfl
  simp only[b,j9,jF]
  exact Gt a c f k (ts.length+1) N [] (p.1+1,p.2) g l ae ak ak
theorem Xg(c:OkT ts)(f:ts.length<1000000)(n:300000<N)(o:∀j,(aH ts j).2.1.size<100000)(A:nS ts E)(B:∀p:Ps,p.1<ts.length->p.2.length<=256->r5 (iT ts pr p) (wI (d+1))=some (mZ ts pr (E p)))
  (t:cC) (p:Ps) (s:p.1<ts.length) (l:p.2.length<=256):QR N r1 r2 r3 r4 r5 (iT ts pr p) t d=some (mZ ts pr (uZ ts E t p)):=by
 have fin:∀(b:Int×Int×BA×List Int×oC) (q:Ps) (x:Ex),b.2.2.2.2=iT ts pr q->x=(b.1,b.2.1,0,b.2.2.1,b.2.2.2.1)->q.1<ts.length->q.2.length<=256->
   ((rT N (b.2.2.2.2.1,b.2.2.2.2.2.1,b.2.2.2.2.2.2.1,b.2.2.2.2.2.2.2) (⟨#[41]⟩:BA)).bind λr=>(match r with| .inl v=>some (.inl v)| .inr k=>(wT N (k.1,k.2.1,k.2.2.1,k.2.2.2) (t.1,t.2.1,t.2.2.1,t.2.2.2) (b.1,b.2.1,0,b.2.2.1,b.2.2.2.1)).bind λu=>(match u with| .inl y=>some (.inl y)| .inr e=>some (.inr ((e.1.1,e.1.2.1,e.1.2.2.1,e.1.2.2.2),e.2)))))=
   some (mZ ts pr (bI (eV ts nL q.1) λi=>nF t x (i,q.2))):=by
  intro b q x k u r e
  subst u
  rw[k]
  simp only[iT,wB r f,j0,nL]
  cases hj:eV ts ⟨#[41]⟩ q.1 with
  |inl z=>rfl
  |inr j=>
   simp only[kJ,bI,DL _ _ e,j0]
   cases nF t (b.1,b.2.1,0,b.2.2.1,b.2.2.2.1) (j,q.2)<;>rfl
 simp only[QR,iT,wB s f,j0,uZ,qV]
 cases h:eV ts ⟨#[40]⟩ p.1 with
 |inl z=>rfl
 |inr i=>
  obtain⟨rfl,g,-⟩:=oF c s h
  simp only[kJ,bI,oD,j6]
  by_cases k1:t.2.1=sU
  .rw[jB (show t.2.1=(⟨#[114,101,97,100]⟩:BA) from k1),jB k1]
   simp only[TW g f n o,j0]
   cases h1:pQ ts (p.1+1) with
   |inl z=>rfl
   |inr a=>
    obtain⟨rfl,e,-⟩:=wW c g h1
    simp only[kJ,wB e f,j0,tJ]
    cases h2:eV ts ⟨#[44]⟩ (p.1+1+1) with
    |inl z=>rfl
    |inr j=>
     obtain⟨rfl,r,-⟩:=oF c e h2
     have k:=B (p.1+1+1+1,p.2) r l
     simp only[iT] at k
     simp only[kJ,k,j0]
     cases h3:E (p.1+1+1+1,p.2) with
     |inl z=>rfl
     |inr q=>
      obtain⟨⟨y,u,D,v⟩,F⟩:=A (p.1+1+1+1,p.2) q.1 q.2 r l h3
      exact fin (6,0,(aH ts (p.1+1)).2.1,[(q.2:Int)],ts,(q.1.1:Int),pr,q.1.2) q.1 _ rfl rfl u v
  rw[jA (show ¬t.2.1=(⟨#[114,101,97,100]⟩:BA) from k1),jA k1]
  by_cases k2:t.2.1=sQ
  .rw[jB (show t.2.1=(⟨#[115,105,122,101]⟩:BA) from k2),jB k2]
   simp only[TW g f n o,j0]
   cases h1:pQ ts (p.1+1) with
   |inl z=>rfl
   |inr a=>
    obtain⟨rfl,e,-⟩:=wW c g h1
    exact fin (7,0,(aH ts (p.1+1)).2.1,[],ts,((p.1+1+1:Nat):Int),pr,p.2) (p.1+1+1,p.2) _ rfl rfl e l
  rw[jA (show ¬t.2.1=(⟨#[115,105,122,101]⟩:BA) from k2),jA k2]
  by_cases k3:t.2.1=sY
  .rw[jB (show t.2.1=(⟨#[104,97,115]⟩:BA) from k3),jB k3]
   simp only[TW g f n o,j0]
   cases h1:pQ ts (p.1+1) with
   |inl z=>rfl
   |inr a=>
    obtain⟨rfl,e,-⟩:=wW c g h1
    exact fin (8,0,(aH ts (p.1+1)).2.1,[],ts,((p.1+1+1:Nat):Int),pr,p.2) (p.1+1+1,p.2) _ rfl rfl e l
  rw[jA (show ¬t.2.1=(⟨#[104,97,115]⟩:BA) from k3),jA k3]
  by_cases k4:t.2.1=sV
  .rw[jB (show t.2.1=(⟨#[101,110,118]⟩:BA) from k4),jB k4]
   simp only[NJ g f (show(3:Int)≠5 by decide),j0,zW]
   cases h1:oH ts 3 (p.1+1) with
   |inl z=>rfl
   |inr a=>
    obtain⟨rfl,e,-⟩:=zQ c ac g h1
    simp only[kJ,qDj (N:=N) aa,j0,bI,nJ]
    cases h2:yE (aH ts (p.1+1)).2.1 with
    |false=>rfl
    |true=>exact fin (9,0,(aH ts (p.1+1)).2.1,[],ts,((p.1+1+1:Nat):Int),pr,p.2) (p.1+1+1,p.2) _ rfl rfl e l
  rw[jA (show ¬t.2.1=(⟨#[101,110,118]⟩:BA) from k4),jA k4]
  simp only[NJ g f (show(2:Int)≠5 by decide),j0]
  cases h1:oH ts 2 (p.1+1) with
  |inl z=>rfl
  |inr a=>
   obtain⟨rfl,e,-⟩:=zQ c ac g h1
   simp only[kJ,nJ,j0]
   by_cases h2:(aH ts (p.1+1)).2.2.1>=64
   .simp only[jB h2,j0];rfl
   simp only[jA h2,j0]
   exact fin (10,(aH ts (p.1+1)).2.2.1,⟨#[]⟩,[],ts,((p.1+1+1:Nat):Int),pr,p.2) (p.1+1+1,p.2) _ rfl rfl e l
theorem qEs(x:BA):(decide (x=(⟨#[114,101,97,100]⟩:BA))||(decide (x=(⟨#[115,105,122,101]⟩:BA))||(decide (x=(⟨#[104,97,115]⟩:BA))||(decide (x=(⟨#[101,110,118]⟩:BA))||decide (x=(⟨#[102,108,105,112]⟩:BA))))))=decide (x∈[sU,sQ,sY,sV,uC]):=by
 simp only[sU,sQ,sY,sV,uC,jK,gJ,dQ,Bool.decide_or]
theorem Zd(c:OkT ts)(o:ts.length<1000000)(K:pr.length<1000)(M:300000<N)(y:nS ts E)(H:∀p:Ps,p.1<ts.length->p.2.length<=256->r5 (iT ts pr p) (wI (d+1))=some (mZ ts pr (E p)))
  (F:∀(t:cC) (p:Ps),p.1<ts.length->p.2.length<=256->r1 (iT ts pr p) t d=some (mZ ts pr (uZ ts E t p)))
  (G:∀p:Ps,p.1<ts.length->p.2.length<=256->r2 (iT ts pr p) d=some (IV ts pr (zG ts E p)))
  (p:Ps) (k:p.1<ts.length) (b:p.2.length<=256):RC N r1 r2 r3 r4 r5 (iT ts pr p) d=some (mZ ts pr (wC ts pr E p)):=by
 have A:=pY (show p.1<1000000 by omega)
 simp only[RC,iT,vY k,j0,wC]
 by_cases k1:(aH ts p.1).1=2
 .rw[jB (show((aH ts p.1).1==2)=true by simpa using k1),jB k1,A]
  simp only[DL _ _ b,j0]
  cases nF (aH ts p.1) (1,(aH ts p.1).2.2.1,0,⟨#[]⟩,[]) (p.1+1,p.2)<;>rfl
 rw[jA (show ¬((aH ts p.1).1==2)=true by simpa using k1),jA k1]
 simp only[HJ k o,j0]
 rcases eX (cD ts 4 Ar p.1) with e|e
 .have c1':cD ts 4 ⟨#[45]⟩ p.1=true:=e
  have g:=oE c k ac e
  simp only[e,c1',jH,NJ g o (show(2:Int)≠5 by decide),j0]
  cases h:oH ts 2 (p.1+1) with
  |inl z=>rfl
  |inr a=>
   simp only[kJ,bI,DL _ _ b,j0]
   cases nF (aH ts p.1) (1,wI (0-a.2.2.2.1),0,⟨#[]⟩,[]) (a.1,p.2)<;>rfl
 have c1':cD ts 4 ⟨#[45]⟩ p.1=false:=e
 simp only[e,c1',j9,jF,HJ k o,j0]
 rcases eX (cD ts 4 qV p.1) with f|f
 .have c2':cD ts 4 ⟨#[40]⟩ p.1=true:=f
  have g:=oE c k ac f
  have n:=H (p.1+1,p.2) g b
  simp only[iT] at n
  simp only[f,c2',jH,n,j0]
  cases h:E (p.1+1,p.2) with
  |inl z=>rfl
  |inr q=>
   obtain⟨⟨B,u,D,v⟩,r⟩:=y (p.1+1,p.2) q.1 q.2 g b h
   simp only[mZ,kJ,bI,iT,wB u o,j0,nL]
   cases eV ts ⟨#[41]⟩ q.1.1<;>rfl
 have c2':cD ts 4 ⟨#[40]⟩ p.1=false:=f
 simp only[f,c2',j9,jF,nJ,j0]
 by_cases k2:(aH ts p.1).1=1
 rotate_left
 .rw[jB (show((aH ts p.1).1 !=1)=true by simpa using k2),jB k2];rfl
 rw[jA (show ¬((aH ts p.1).1 !=1)=true by simpa using k2),jA (show ¬(aH ts p.1).1≠1 by simpa using k2)]
 have g:=c.next k (show(aH ts p.1).1≠5 by rw[k2];decide)
 simp only[j0,oD,orS,qEs,A]
 by_cases k3:(aH ts p.1).2.1∈[sU,sQ,sY,sV,uC]
 .rw[jB (show decide ((aH ts p.1).2.1∈[sU,sQ,sY,sV,uC])=true from jI k3),jB k3]
  have h1p:=F (aH ts p.1) (p.1+1,p.2) g b
  simp only[iT] at h1p
  simp only[h1p,j0]
  cases uZ ts E (aH ts p.1) (p.1+1,p.2)<;>rfl
 rw[jA (show ¬decide ((aH ts p.1).2.1∈[sU,sQ,sY,sV,uC])=true by simpa using k3),jA k3]
 simp only[Ey,j0]
 rcases eX (xD (aH ts p.1).2.1) with r|r
 .simp only[r,jH,j0];rfl
 simp only[r,j9,jF,j0,IK g]
 rcases eX (cD ts 4 qV (p.1+1)) with n|n
 .have c4':cD ts 4 ⟨#[40]⟩ (p.1+1)=true:=n
  have h2p:=G (p.1+1,p.2) g b
  simp only[iT] at h2p
  simp only[n,c4',jH,h2p,j0]
  cases h:zG ts E (p.1+1,p.2) with
  |inl z=>rfl
  |inr q=>
   obtain⟨B,u,D,v⟩:=Dg c y (p:=(p.1+1,p.2)) g b h
   simp only[IV,kJ,bI,iT,DL _ _ v,j0]
   cases nF (aH ts p.1) (3,0,0,(aH ts p.1).2.1,q.2) (q.1.1,q.1.2)<;>rfl
 have c4':cD ts 4 ⟨#[40]⟩ (p.1+1)=false:=n
 simp only[n,c4',j9,jF,Ja (N:=N) (l:=pr) (s:=(aH ts p.1).2.1) aa aa,j0]
 cases pr.findIdx? (λx=>decide (x=(aH ts p.1).2.1)) with
 |none=>rfl
 |some j=>
  simp only[j6]
  rw[jA aa]
  simp only[j0,DL _ _ b]
  cases nF (aH ts p.1) (2,(j:Int),0,⟨#[]⟩,[]) (p.1+1,p.2)<;>rfl
theorem qBf(a:∀p:Ps,p.1<ts.length->p.2.length<=256->r3 (iT ts pr p) d=some (mZ ts pr (S p)))(p:Ps)(c:p.1<ts.length)(b:p.2.length<=256):
  FR N r1 r2 r3 r4 r5 (iT ts pr p) 4 d=some (mZ ts pr (S p)):=by
 have h3p:=a p c b
 simp only[iT] at h3p
 simp only[FR,iT,h3p,j0]
 cases S p<;>rfl
theorem Hn(c:OkT ts)(B:ts.length<1000000)(k:nS ts S){L:Nat}(A:L<4)(f:∀p:Ps,p.1<ts.length->p.2.length<=256->r4 (iT ts pr p) ((L:Int)+1) d=some (mZ ts pr (S p))):
  ∀(n M x:Nat) (p:Ps),p.1<ts.length->p.2.length<=256->x<p.2.length->ts.length<p.1+n->ts.length<p.1+M->
  aC (QX N r4 (L:Int) d) M ((x:Int),ts,(p.1:Int),pr,p.2)=some (mZ ts pr (sT ts L S n x p))
 |0,M,x,p,b,_,_,h,_=>by omega
 |n+1,0,x,p,b,_,_,_,h=>by omega
 |n+1,M+1,x,p,b,l,U,R,K=>by
  have D:=pY (show p.1<1000000 by omega)
  have t:wI ((L:Int)+1)=(L:Int)+1:=bP aa aa
  simp only[aC,QX,sT,Uz b,j0]
  by_cases a:nR ts L p.1=0
  .rw[jB (show(nR ts L p.1==0)=true by simpa using a),jB a];rfl
  rw[jA (show ¬(nR ts L p.1==0)=true by simpa using a),jA a]
  have s:(aH ts p.1).1≠5:=by
   intro s
   apply a
   unfold nR
   have:opsC.find? (sC ts L p.1)=none:=by
    rw[List.find?_eq_none]
    intro o _ e
    simp only[sC,jS] at e
    have:=TO e.1
    omega
   rw[this]
  have g:=c.next b s
  have h4p:=f (p.1+1,p.2) g l
  simp only[iT] at h4p
  simp only[vY b,j0,D,t,h4p]
  cases h:S (p.1+1,p.2) with
  |inl z=>rfl
  |inr q=>
   obtain⟨⟨u,v,y,e⟩,H⟩:=k (p.1+1,p.2) q.1 q.2 g l h
   simp only[mZ,kJ,bI,iT,DL _ _ e,j0]
   cases hn2:nF (aH ts p.1) (4,0,nR ts L p.1,⟨#[]⟩,[(x:Int),(q.2:Int)]) (q.1.1,q.1.2) with
   |inl z=>rfl
   |inr r=>
    obtain⟨⟨a,E,V,F⟩,G⟩:=zR (ts:=ts) (p:=p) (r:=(q.1.1,q.1.2)) (by simp only at u ⊢;omega) v y e hn2
    simp only[kJ]
    by_cases k6:L=1
    .subst k6
     rfl
    rw[jA (show ¬((L:Int)==1)=true by simp;omega),jA k6]
    simp only[j0]
    exact Hn c B k A f n M r.2 r.1 E F G aa aa
theorem YV(e:OkT ts)(r:ts.length<1000000)(u:1000001<N)(b:nS ts S){L:Nat}(o:L<4)(a:∀p:Ps,p.1<ts.length->p.2.length<=256->r4 (iT ts pr p) ((L:Int)+1) d=some (mZ ts pr (S p)))
  (p:Ps) (f:p.1<ts.length) (c:p.2.length<=256):FR N r1 r2 r3 r4 r5 (iT ts pr p) (L:Int) d=some (mZ ts pr (wD ts L S p)):=by
 have g:wI ((L:Int)+1)=(L:Int)+1:=bP aa aa
 have h4p:=a p f c
 simp only[iT] at h4p
 simp only[FR,iT,wD,g,h4p,j0]
 rw[jA (show ¬((L:Int)==4)=true by simp;omega)]
 cases h:S p with
 |inl z=>rfl
 |inr q=>
  obtain⟨⟨s,k,t,l⟩,n⟩:=b p q.1 q.2 f c h
  simp only[mZ,kJ,bI,iT]
  rw[Hn e r b o a (ts.length+1) N q.2 q.1 k l n aa aa]
  rfl
theorem qDw{k:Nat}(f:OkT ts)(B:ts.length<1000000)(Z:d+k=32)(hk:k<33)(q:nS ts (iR ts pr k))(r:∀p:Ps,p.1<ts.length->p.2.length<=256->r5 (iT ts pr p) (wI (d+1))=some (mZ ts pr (iR ts pr k p)))
  (E:∀p:Ps,p.1<ts.length->p.2.length<=256->r4 (iT ts pr p) 1 d=some (mZ ts pr (MZ ts pr (iR ts pr k) p)))
  (p:Ps) (h:p.1<ts.length) (s:p.2.length<=256):GF N r1 r2 r3 r4 r5 (iT ts pr p) d=some (mZ ts pr (iR ts pr (k+1) p)):=by
 have F:=pY (show p.1<1000000 by omega)
 simp only[GF,iT,vY h,j0,iR]
 rw[jA (show ¬decide (d>32)=true by simp only[j6];omega)]
 simp only[j0,IK h]
 rcases eX (cD ts 1 PK p.1) with e|e
 rotate_left
 .have c1':cD ts 1 ⟨#[105,102]⟩ p.1=false:=e
  have h4p:=E p h s
  simp only[iT] at h4p
  simp only[e,c1',kI,jH,j9,jF,h4p,j0]
  cases MZ ts pr (iR ts pr k) p<;>rfl
 have c1':cD ts 1 ⟨#[105,102]⟩ p.1=true:=e
 have g:=oE f h ac e
 have l:=r (p.1+1,p.2) g s
 simp only[iT] at l
 simp only[e,c1',kP,jH,j9,jF,F,l,j0]
 cases ha:iR ts pr k (p.1+1,p.2) with
 |inl z=>rfl
 |inr a=>
  obtain⟨⟨G,t,H,u⟩,K⟩:=q (p.1+1,p.2) a.1 a.2 g s ha
  simp only[mZ,kJ,bI,iT,Ad t B,j0,OF]
  cases hi:vJ ts ⟨#[116,104,101,110]⟩ a.1.1 with
  |inl z=>rfl
  |inr i=>
   obtain⟨rfl,y,-⟩:=HP f t hi
   have n:=r (a.1.1+1,a.1.2) y u
   simp only[iT] at n
   simp only[kJ,n,j0]
   cases hb1:iR ts pr k (a.1.1+1,a.1.2) with
   |inl z=>rfl
   |inr b=>
    obtain⟨⟨M,v,R,x⟩,S⟩:=q (a.1.1+1,a.1.2) b.1 b.2 y u hb1
    simp only[mZ,kJ,bI,iT,Ad v B,j0,OE]
    cases hj:vJ ts ⟨#[101,108,115,101]⟩ b.1.1 with
    |inl z=>rfl
    |inr j=>
     obtain⟨rfl,A,-⟩:=HP f v hj
     have o:=r (b.1.1+1,b.1.2) A x
     simp only[iT] at o
     simp only[kJ,o,j0]
     cases hc1:iR ts pr k (b.1.1+1,b.1.2) with
     |inl z=>rfl
     |inr c=>
      obtain⟨⟨e,U,V,D⟩,Y⟩:=q (b.1.1+1,b.1.2) c.1 c.2 A x hc1
      simp only[mZ,kJ,bI,iT,DL _ _ D,j0]
      cases nF (aH ts p.1) (5,0,0,⟨#[]⟩,[(a.2:Int),(b.2:Int),(c.2:Int)]) (c.1.1,c.1.2)<;>rfl
theorem qBr(a:d>32)(p:Ps)(b:p.1<ts.length):GF N r1 r2 r3 r4 r5 (iT ts pr p) d=some (mZ ts pr (iR ts pr 0 p)):=by
 simp only[GF,iT,vY b,j0,iR]
 rw[jB (show decide (d>32)=true by simpa using a)]
 rfl
theorem Ks(b:OkT ts)(e:ts.length<1000000)(n:pr.length<1000)(l:1000001<N)(r:∀j,(aH ts j).2.1.size<100000):∀(k D:Nat),k<=32->7*k+1<=D->∀p:Ps,p.1<ts.length->p.2.length<=256->
  (lM N D).2.2.2.2 (iT ts pr p) (33-(k:Int))=some (mZ ts pr (iR ts pr k p))
 |0,0,_,h,_,_,_=>by omega
 |0,D+1,_,_,p,a,_=>by simp only[lM];exact qBr aa p a
 |k+1,D,E,d,p,a,c=>by
  have f:=zK (ts:=ts) (params:=pr) b k
  have o:=XI (params:=pr) b f
  have q:nS ts (OG ts pr (iR ts pr k)):=DB b o
  have B:nS ts (yI ts pr (iR ts pr k)):=DB b q
  have g:∀D,7*k+1<=D->∀p:Ps,p.1<ts.length->p.2.length<=256->(lM N D).2.2.2.2 (iT ts pr p) (wI (32-(k:Int)+1))=some (mZ ts pr (iR ts pr k p)):=by
   intro D d p a c
   rw[bP aa aa,show 32-(k:Int)+1=33-(k:Int) by omega]
   exact Ks b e n l r k D aa d p a c
  have y:∀D,7*k+2<=D->∀(t:cC) (p:Ps),p.1<ts.length->p.2.length<=256->(lM N D).1 (iT ts pr p) t (32-(k:Int))=some (mZ ts pr (uZ ts (iR ts pr k) t p)):=by
   intro D d t p a c
   obtain⟨D',rfl⟩:∃D',D=D'+1:=⟨D-1,by omega⟩
   simp only[lM]
   exact Xg b e aa r f (g D' aa) t p a c
  have z:∀D,7*k+2<=D->∀p:Ps,p.1<ts.length->p.2.length<=256->(lM N D).2.1 (iT ts pr p) (32-(k:Int))=some (IV ts pr (zG ts (iR ts pr k) p)):=by
   intro D d p a c
   obtain⟨D',rfl⟩:∃D',D=D'+1:=⟨D-1,by omega⟩
   simp only[lM]
   exact Uu b e aa f (g D' aa) p a c
  have A:∀D,7*k+3<=D->∀p:Ps,p.1<ts.length->p.2.length<=256->(lM N D).2.2.1 (iT ts pr p) (32-(k:Int))=some (mZ ts pr (wC ts pr (iR ts pr k) p)):=by
   intro D d p a c
   obtain⟨D',rfl⟩:∃D',D=D'+1:=⟨D-1,by omega⟩
   simp only[lM]
   exact Zd b e n aa f (g D' aa) (y D' aa) (z D' aa) p a c
  have x:∀D,7*k+4<=D->∀p:Ps,p.1<ts.length->p.2.length<=256->(lM N D).2.2.2.1 (iT ts pr p) 4 (32-(k:Int))=some (mZ ts pr (wC ts pr (iR ts pr k) p)):=by
   intro D d p a c
   obtain⟨D',rfl⟩:∃D',D=D'+1:=⟨D-1,by omega⟩
   simp only[lM]
   exact qBf (A D' aa) p a c
  have v:∀D,7*k+5<=D->∀p:Ps,p.1<ts.length->p.2.length<=256->(lM N D).2.2.2.1 (iT ts pr p) 3 (32-(k:Int))=some (mZ ts pr (OG ts pr (iR ts pr k) p)):=by
   intro D d p a c
   obtain⟨D',rfl⟩:∃D',D=D'+1:=⟨D-1,by omega⟩
   simp only[lM]
   exact YV b e l o (L:=3) aa (x D' aa) p a c
  have u:∀D,7*k+6<=D->∀p:Ps,p.1<ts.length->p.2.length<=256->(lM N D).2.2.2.1 (iT ts pr p) 2 (32-(k:Int))=some (mZ ts pr (yI ts pr (iR ts pr k) p)):=by
   intro D d p a c
   obtain⟨D',rfl⟩:∃D',D=D'+1:=⟨D-1,by omega⟩
   simp only[lM]
   exact YV b e l q (L:=2) aa (v D' aa) p a c
  have s:∀D,7*k+7<=D->∀p:Ps,p.1<ts.length->p.2.length<=256->(lM N D).2.2.2.1 (iT ts pr p) 1 (32-(k:Int))=some (mZ ts pr (MZ ts pr (iR ts pr k) p)):=by
   intro D d p a c
   obtain⟨D',rfl⟩:∃D',D=D'+1:=⟨D-1,by omega⟩
   simp only[lM]
   exact YV b e l B (L:=1) aa (u D' aa) p a c
  obtain⟨D',rfl⟩:∃D',D=D'+1:=⟨D-1,by omega⟩
  rw[show(33:Int)-((k+1:Nat):Int)=32-(k:Int) by omega]
  simp only[lM]
  exact qDw b e aa aa f (g D' aa) (s D' aa) p a c
theorem qBh(a:OkT ts)(e:ts.length<1000000)(b:pr.length<1000)(c:1000001<N)(g:∀j,(aH ts j).2.1.size<100000)(p:Ps)(f:p.1<ts.length)(d:p.2.length<=256):
  WG N (ts,(p.1:Int),pr,p.2) 1=some (mZ ts pr (iR ts pr 32 p)):=by
 have:=Ks a e b c g 32 N aa aa p f d
 exact this
variable {b:List Ex}
theorem XF(h:OkT ts):∀(n:Nat) (l:List BA) (i:Nat) (a:Nat×List BA),i<ts.length->l.length<=8->wX ts n l i= .inr a->i<a.1/\a.1<ts.length/\a.2.length<=8
 |0,_,_,_,_,_,d=>by cases d
 |n+1,l,i,a,hi,q,d=>by
  obtain⟨x,k,b⟩:=lV (show bI (oI ts i) _=_ from d)
  obtain⟨rfl,e,-⟩:=vX h hi k
  split at b
  .cases b
  rename_i k1
  split at b
  .cases b
  split at b
  .rename_i k3
   have c:=oE h e ac k3
   obtain⟨r,o,p⟩:=XF h n _ _ a c aj b
   exact⟨by omega,o,p⟩
  obtain⟨j,g,f⟩:=lV b
  obtain⟨rfl,c,-⟩:=oF h e g
  obtain rfl:=Sum.inr.inj f
  exact⟨by simp only;omega,c,by simp only[jG,jC,jD];omega⟩
theorem Da(h:OkT ts){i:Nat}{a:Nat×List BA}(hi:i<ts.length)(c:uX ts i= .inr a):i<a.1/\a.1<ts.length/\a.2.length<=8:=by
 obtain⟨j,d,b⟩:=lV c
 obtain⟨rfl,g,-⟩:=oF h hi d
 split at b
 .rename_i k
  obtain rfl:=Sum.inr.inj b
  exact⟨by simp only;omega,oE h g ac k,by simp⟩
 obtain⟨l,e,f⟩:=XF h _ _ _ a g ae b
 exact⟨by omega,e,f⟩
theorem Ev(d:OkT ts)(k:ts.length<1000000)(r:1000000<N):∀(n M:Nat) (l:List BA) (i:Nat),i<ts.length->l.length<=8->ts.length<i+n->ts.length<i+M->
  ((aC (QG N) M (l,ts,(i:Int),pr,b)).bind λp=>(match p with| .inl e=>(rT N (e.2.1,e.2.2.1,e.2.2.2.1,e.2.2.2.2) (⟨#[41]⟩:BA)).bind λq=>(match q with| .inl t=>some (.inl t)| .inr c=>some (.inr ((c.1,c.2.1,c.2.2.1,c.2.2.2),e.1)))| .inr (z)=>some z))=some (Sum.map id (λa:Nat×List BA=>((ts,(a.1:Int),pr,b),a.2)) (wX ts n l i))
 |0,M,l,i,hi,_,h,_=>by omega
 |n+1,0,l,i,hi,_,_,h=>by omega
 |n+1,M+1,l,i,hi,u,y,v=>by
  simp only[aC,QG,wX,TY hi k,j0]
  cases hx:oI ts i with
  |inl z=>rfl
  |inr x=>
   obtain⟨rfl,o,-⟩:=vX d hi hx
   simp only[kJ,bI,nJ,j0]
   by_cases k1:l.length=8
   .rw[jB (show((l.length:Int)==8)=true by simp;omega),jB k1];rfl
   rw[jA (show ¬((l.length:Int)==8)=true by simp;omega),jA k1]
   simp only[j0,Er (N:=N) (l:=l) (s:=(aH ts i).2.1) aa aa]
   by_cases k2:(aH ts i).2.1∈l
   .rw[jB (jI k2),jB k2];rfl
   rw[jA (show ¬decide ((aH ts i).2.1∈l)=true by simpa using k2),jA k2]
   simp only[j0]
   rw[lQ af aa]
   simp only[j0,HJ o k,tJ]
   rcases eX (cD ts 4 ⟨#[44]⟩ (i+1)) with f|f
   .have g:=oE d o ac f
    simp only[f,jH,kP,j9,jF,j0]
    exact Ev d k r n M _ (i+1+1) g aj aa aa
   simp only[f,j9,jF,kI,jH,j0,wB o k,nL]
   cases eV ts ⟨#[41]⟩ (i+1)<;>rfl
theorem Sh(c:OkT ts)(e:ts.length<1000000)(f:1000000<N){i:Nat}(hi:i<ts.length):
  KK N (ts,(i:Int),pr,b)=some (Sum.map id (λa:Nat×List BA=>((ts,(a.1:Int),pr,b),a.2)) (uX ts i)):=by
 simp only[KK,wB hi e,j0,uX,qV]
 cases h:eV ts ⟨#[40]⟩ i with
 |inl z=>rfl
 |inr j=>
  obtain⟨rfl,g,-⟩:=oF c hi h
  simp only[kJ,bI,HJ g e,j0,nL]
  rcases eX (cD ts 4 ⟨#[41]⟩ (i+1)) with d|d
  .simp only[d,jH];rfl
  simp only[d,j9,jF]
  exact Ev c e f (ts.length+1) N [] (i+1) g ae aa aa
def UM:List (BA×Int):=[(⟨#[102,117,110,99]⟩,1),(⟨#[103,101,110]⟩,3),(⟨#[116,101,115,116]⟩,2)]
theorem qBe:((iI (some []:Option (List (BA×Int))) (⟨#[102,117,110,99]⟩:BA) 1).bind λa=>(iI a (⟨#[116,101,115,116]⟩:BA) 2).bind λb=>iI b (⟨#[103,101,110]⟩:BA) 3)=some (some UM):=by kernel_rfl
theorem Jh(s:BA):((cR (some UM) s).getD 0)=oJ s:=by
 simp only[cR,UM,j0,eL,oJ,OD,NZ,OJ]
 by_cases h1:s=⟨#[102,117,110,99]⟩
 .simp[h1]
 by_cases h2:s=⟨#[116,101,115,116]⟩
 .subst h2;rfl
 by_cases h3:s=⟨#[103,101,110]⟩
 .subst h3;rfl
 simp[h1,h2,h3]
theorem Fg{before:List Dl}{y1:oC×cC}{o4:List cC×Int×List BA×List Ex×Int×BA×Int×Int}(c:before.length<=64):∀(d i M:Nat),i+d=before.length->d<M->
  ((aC (LF N before (some UM) y1 o4) M (i:Int)).bind λa=>(match a with| .inl f=>some (-1)| .inr (z)=>some z):Option Int)=some (match(before.drop i).findIdx? (λd=>d.1==oJ y1.2.2.1&&decide (d.2.1=o4.2.2.2.2.2.1)) with|some j=>((i+j:Nat):Int)|none=> -1)
 |d,i,0,_,h=>by omega
 |0,i,M+1,h,_=>by
  have:before.drop i=[]:=jO aa
  simp only[aC,LF,this,List.findIdx?_nil]
  rw[jA ad]
  rfl
 |d+1,i,M+1,h,e=>by
  have hi:i<before.length:=by omega
  have b:=Fg (y1:=y1) (o4:=o4) c d (i+1) M aa aa
  simp only[aC,LF]
  rw[jB ad,eZ hi,jM hi,List.findIdx?_cons]
  simp only[j0,oD,Jh]
  by_cases k1:(before[i].1==oJ y1.2.2.1)=true
  .by_cases k2:before[i].2.1=o4.2.2.2.2.2.1
   .simp[k1,k2]
   simp only[k1,k2,jH,decide_false,j0,j9,jF,pY (show i<1000000 by omega),Bool.and_false]
   rw[b]
   cases(before.drop (i+1)).findIdx? (λd=>d.1==oJ y1.2.2.1&&decide (d.2.1=o4.2.2.2.2.2.1)) with
   |none=>rfl
   |some j=>simp only[kL];rw[show i+1+j=i+(j+1) by omega]
  simp only[k1,j9,jF,j0,pY (show i<1000000 by omega),Bool.false_and]
  rw[b]
  cases(before.drop (i+1)).findIdx? (λd=>d.1==oJ y1.2.2.1&&decide (d.2.1=o4.2.2.2.2.2.1)) with
  |none=>rfl
  |some j=>simp only[kL];rw[show i+1+j=i+(j+1) by omega]
theorem TC(h:OkT ts){before:List Dl}{i:Nat}{a:Nat×Dl}(hi:i<ts.length)(b:qU ts before i= .inr a):i<a.1/\a.1<ts.length/\before.length≠64:=by
 unfold qU at b
 dsimp only at b
 split at b
 .cases b
 rename_i k1
 split at b
 .cases b
 rename_i k2
 have g:=h.next hi (show(aH ts i).1≠5 by intro e;apply k1;left;rw[e];decide)
 obtain⟨x,k,f⟩:=lV b
 have gx:x.1=i+1+1/\x.1<ts.length:=by
  split at k
  .obtain⟨rfl,d,-⟩:=wW h g k;exact⟨rfl,d⟩
  obtain⟨rfl,d,-⟩:=vX h g k;exact⟨rfl,d⟩
 split at f
 .cases f
 obtain⟨y,l,q⟩:=lV f
 have gy:x.1<=y.1/\y.1<ts.length:=by
  split at l
  .obtain⟨d,n,-⟩:=Da h gx.2 l;exact⟨by omega,n⟩
  obtain rfl:=Sum.inr.inj l;exact⟨jN _,gx.2⟩
 obtain⟨j,v,r⟩:=lV q
 obtain⟨rfl,o,-⟩:=oF h gy.2 v
 obtain⟨c,u,s⟩:=lV r
 obtain⟨⟨d,n,A,B⟩,-⟩:=zK h 32 (y.1+1,[]) c.1 c.2 o ae u
 obtain⟨m,z,t⟩:=lV s
 obtain⟨rfl,p,-⟩:=oF h n z
 obtain rfl:=Sum.inr.inj t
 exact⟨by simp only at d ⊢;omega,p,k2⟩
theorem qBt{before:List Dl}{f:Dl->Bool}:(decide ((match before.findIdx? f with|some j=>((0+j:Nat):Int)|none=> -1)>=0))=before.any f:=by
 have:=List.findIdx?_isSome (xs:=before) (p:=f)
 rw[<-this]
 cases before.findIdx? f with
 |none=>rfl
 |some j=>simp only[Option.isSome_some];exact jI aa
theorem qDk(e:OkT ts)(n:ts.length<1000000)(E:1000001<N)(A:∀j,(aH ts j).2.1.size<100000){before:List Dl}(F:before.length<=64){i:Nat}(hi:i<ts.length):
  SB N (ts,(i:Int),pr,b) before=some (Sum.map id (λa:Nat×Dl=>((ts,(a.1:Int),a.2.2.2.1,a.2.2.2.2),a.2)) (qU ts before i)):=by
 have K:=pY (show i<1000000 by omega)
 unfold SB
 obtain⟨Z,t,G⟩:=jQ.1 qBe
 obtain⟨a1,u,v⟩:=jQ.1 G
 rw[t];simp only[j0]
 rw[u];simp only[j0]
 rw[v];simp only[j0,vY hi,Jh,nJ,qU]
 by_cases o:(aH ts i).1≠1\/oJ (aH ts i).2.1=0
 .rw[jB o]
  have:((if((aH ts i).1 !=1)then some true else some (oJ (aH ts i).2.1==0)):Option Bool)=some true:=by
   rcases o with h|h
   .simp[h]
   simp[h]
  rw[this];rfl
 rw[jA o]
 have k1a:(aH ts i).1=1:=by
  apply Decidable.byContradiction
  intro h;exact o (.inl h)
 have k1b:¬oJ (aH ts i).2.1=0:=λh=>o (.inr h)
 have:((if((aH ts i).1 !=1)then some true else some (oJ (aH ts i).2.1==0)):Option Bool)=some false:=by simp[k1a,k1b]
 rw[this]
 simp only[j0,j9,jF]
 by_cases k2:before.length=64
 .rw[jB (show((before.length:Int)==64)=true by simp;omega),jB k2];rfl
 rw[jA (show ¬((before.length:Int)==64)=true by simp;omega),jA k2]
 have g:=e.next hi (show(aH ts i).1≠5 by rw[k1a];decide)
 simp only[j0,K]
 have M:(if(oJ (aH ts i).2.1==3)then((AS N (ts,((i+1:Nat):Int),pr,b)).bind λR=>(match R with| .inl U=>some (.inr (.inl U))| .inr k=>some (.inl (k.1.1,k.1.2.1,k.1.2.2.1,k.1.2.2.2,k.2.1,k.2.2.1,k.2.2.2.1,k.2.2.2.2)))) else((AT N (ts,((i+1:Nat):Int),pr,b)).bind λS=>(match S with| .inl V=>some (.inr (.inl V))| .inr l=>some (.inl (l.1.1,l.1.2.1,l.1.2.2.1,l.1.2.2.2,l.2.1,l.2.2.1,l.2.2.2.1,l.2.2.2.2)))):Option ((List cC×Int×List BA×List Ex×Int×BA×Int×Int)⊕(cL⊕(oC×Dl))))=
   some (match(if oJ (aH ts i).2.1=3 then pQ ts (i+1) else oI ts (i+1)) with| .inl z=> .inr (.inl z)| .inr a=> .inl (ts,(a.1:Int),pr,b,a.2.1,a.2.2.1,a.2.2.2.1,a.2.2.2.2)):=by
  by_cases k3:oJ (aH ts i).2.1=3
  .rw[jB (show(oJ (aH ts i).2.1==3)=true by simpa using k3),jB k3,TW g n aa A]
   cases pQ ts (i+1)<;>rfl
  rw[jA (show ¬(oJ (aH ts i).2.1==3)=true by simpa using k3),jA k3,TY g n]
  cases oI ts (i+1)<;>rfl
 refine Eq.trans (kF (λz=>Option.bind z _) M) ?_
 simp only[j0]
 cases hX:(if oJ (aH ts i).2.1=3 then pQ ts (i+1) else oI ts (i+1)) with
 |inl z=>rfl
 |inr x=>
  have gx:x.1=i+1+1/\x.1<ts.length:=by
   split at hX
   .obtain⟨rfl,p,-⟩:=wW e g hX;exact⟨rfl,p⟩
   obtain⟨rfl,p,-⟩:=vX e g hX;exact⟨rfl,p⟩
  simp only[bI]
  have s:=Fg (N:=N) (before:=before) (y1:=((ts,(i:Int),pr,b),aH ts i)) (o4:=(ts,(x.1:Int),pr,b,x.2.1,x.2.2.1,x.2.2.2.1,x.2.2.2.2)) F before.length 0 N aa aa
  simp only[jX] at s
  refine Eq.trans (kF (λz=>Option.bind z _) s) ?_
  simp only[j0,qBt]
  rcases eX (before.any λd=>d.1==oJ (aH ts i).2.1&&decide (d.2.1=x.2.2.1)) with r|r
  .simp only[r,jH];rfl
  simp only[r,j9,jF,j0]
  have H:(if(oJ (aH ts i).2.1==1)then((KK N (ts,(x.1:Int),pr,b)).bind λB=>(match B with| .inl Y=>some (.inr (.inl Y))| .inr f=>some (.inl (f.2,f.1.1,f.1.2.1,f.1.2.2.1,f.1.2.2.2)))) else(some (.inl (([]:List (BA)),ts,(x.1:Int),pr,b))):Option ((List BA×oC)⊕(cL⊕(oC×Dl))))=
    some (match(if oJ (aH ts i).2.1=1 then uX ts x.1 else .inr (x.1,[])) with| .inl z=> .inr (.inl z)| .inr a=> .inl (a.2,ts,(a.1:Int),pr,b)):=by
   by_cases k5:oJ (aH ts i).2.1=1
   .rw[jB (show(oJ (aH ts i).2.1==1)=true by simpa using k5),jB k5,Sh e n aa gx.2]
    cases uX ts x.1<;>rfl
   rw[jA (show ¬(oJ (aH ts i).2.1==1)=true by simpa using k5),jA k5]
  refine Eq.trans (kF (λz=>Option.bind z _) H) ?_
  simp only[j0]
  cases hY:(if oJ (aH ts i).2.1=1 then uX ts x.1 else .inr (x.1,[]):cL⊕(Nat×List BA)) with
  |inl z=>rfl
  |inr y=>
   have gy:x.1<=y.1/\y.1<ts.length/\y.2.length<=8:=by
    split at hY
    .obtain⟨p,D,q⟩:=Da e gx.2 hY;exact⟨by omega,D,q⟩
    obtain rfl:=Sum.inr.inj hY;exact⟨jN _,gx.2,by simp⟩
   simp only[wB gy.2.1 n,j0,CF]
   cases hj:eV ts ⟨#[61]⟩ y.1 with
   |inl z=>rfl
   |inr j=>
    obtain⟨rfl,q,-⟩:=oF e gy.2.1 hj
    have p:=qBh (N:=N) (pr:=y.2) e n aa E A (y.1+1,[]) q ae
    simp only at p
    simp only[kJ,p,j0]
    cases hc:iR ts y.2 32 (y.1+1,[]) with
    |inl z=>rfl
    |inr c=>
     obtain⟨⟨f1,D,f3,f4⟩,-⟩:=zK e 32 (y.1+1,[]) c.1 c.2 q ae hc
     simp only[mZ,kJ,iT,wB D n,j0,uP]
     cases eV ts ⟨#[59]⟩ c.1.1<;>rfl
theorem Ef(c:OkT ts)(k:ts.length<1000000)(q:1000000<N){e:oC×cC}:∀(n M:Nat) (l:List BA) (i:Nat),i<ts.length->l.length<=8->ts.length<i+n->ts.length<i+M->
  aC (RP N e) M (ts,(i:Int),pr,b,l)=some (match tX ts e.2.2.1 n l i with| .inl z=> .inr (.inl z)| .inr a=> .inl (ts,(a.1:Int),pr,b,a.2))
 |0,M,l,i,hi,_,h,_=>by omega
 |n+1,0,l,i,hi,_,_,h=>by omega
 |n+1,M+1,l,i,hi,t,v,u=>by
  have r:=pY (show i<1000000 by omega)
  simp only[aC,RP,tX,IK hi,j0,DJ]
  rcases eX (cD ts 1 ⟨#[105,109,112,111,114,116]⟩ i) with f|f
  rotate_left
  .simp only[f,j9,jF,j0]
  have g:=oE c hi ac f
  simp only[f,jH]
  by_cases k2:l.length=8
  .rw[jB (show((l.length:Int)==8)=true by simp;omega),jB k2]
   simp only[vY hi,j0,nJ];rfl
  rw[jA (show ¬((l.length:Int)==8)=true by simp;omega),jA k2]
  simp only[j0,r,TY g k]
  cases hx:oI ts (i+1) with
  |inl z=>rfl
  |inr x=>
   obtain⟨rfl,o,-⟩:=vX c g hx
   simp only[kJ,bI,nJ,j0,oD,Er (N:=N) (l:=l) (s:=(aH ts (i+1)).2.1) aa aa]
   by_cases d:(aH ts (i+1)).2.1=e.2.2.1\/(aH ts (i+1)).2.1∈l
   .rw[jB d]
    have:((if decide ((aH ts (i+1)).2.1=e.2.2.1)then some true else some (decide ((aH ts (i+1)).2.1∈l))):Option Bool)=some true:=by
     rcases d with h|h
     .rw[jB (jI h)]
     rw[jI h];split<;>rfl
    rw[this];rfl
   rw[jA d]
   have:((if decide ((aH ts (i+1)).2.1=e.2.2.1)then some true else some (decide ((aH ts (i+1)).2.1∈l))):Option Bool)=some false:=by
    rw[jA (by simp only[j6];exact λh=>d (.inl h)),jP (λh=>d (.inr h))]
   rw[this]
   simp only[j0,j9,jF]
   rw[lQ af aa]
   simp only[j0,wB o k,uP]
   cases hj:eV ts ⟨#[59]⟩ (i+1+1) with
   |inl z=>rfl
   |inr j=>
    obtain⟨rfl,p,-⟩:=oF c o hj
    exact Ef c k q n M _ (i+1+1+1) p aj aa aa
theorem SM(h:OkT ts){pkg:BA}:∀(n:Nat) (l:List BA) (i:Nat) (a:Nat×List BA),i<ts.length->l.length<=8->tX ts pkg n l i= .inr a->i<=a.1/\a.1<ts.length/\a.2.length<=8
 |0,_,_,_,_,_,b=>by cases b
 |n+1,l,i,a,hi,p,b=>by
  unfold tX at b
  split at b
  .rename_i k
   have g:=oE h hi ac k
   split at b
   .cases b
   rename_i k2
   obtain⟨x,q,c⟩:=lV b
   obtain⟨rfl,d,-⟩:=vX h g q
   split at c
   .cases c
   obtain⟨j,o,f⟩:=lV c
   obtain⟨rfl,e,-⟩:=oF h d o
   obtain⟨t,r,s⟩:=SM h n _ _ a e aj f
   exact⟨by omega,r,s⟩
  obtain rfl:=Sum.inr.inj b
  exact⟨jN _,hi,p⟩
theorem Fs(c:OkT ts)(f:ts.length<1000000)(e:1000001<N)(k:∀j,(aH ts j).2.1.size<100000):∀(n M:Nat) (l:List Dl) (i:Nat) (pr:List BA) (b:List Ex),i<ts.length->l.length<=64->ts.length<i+n->ts.length<i+M->
  match wY ts n l i with
  | .inl z=>aC (CP N) M (ts,(i:Int),pr,b,l)=some (.inr (.inl z))
  | .inr a=>∃i' pr' b',aC (CP N) M (ts,(i:Int),pr,b,l)=some (.inl (ts,i',pr',b',a))
 |0,M,l,i,_,_,hi,_,h,_=>by omega
 |n+1,0,l,i,_,_,hi,_,_,h=>by omega
 |n+1,M+1,l,i,pr,b,hi,g,s,r=>by
  have o:aC (CP N) (M+1) (ts,(i:Int),pr,b,l)=(if(aH ts i).1=5 then some (.inl (ts,(i:Int),pr,b,l)) else
    match qU ts l i with
    | .inl z=>some (.inr (.inl z))
    | .inr a=>aC (CP N) M (ts,(a.1:Int),a.2.2.2.1,a.2.2.2.2,l++[a.2])):=by
   simp only[aC,CP,vY hi,j0,qDk c f e k g hi]
   by_cases k1:(aH ts i).1=5
   .rw[jA (show ¬((aH ts i).1 !=5)=true by simpa using k1),jB k1];rfl
   rw[jB (show((aH ts i).1 !=5)=true by simpa using k1),jA k1]
   cases hd:qU ts l i with
   |inl z=>rfl
   |inr a=>
    obtain⟨p,d,q⟩:=TC c hi hd
    simp only[kJ]
    rw[lQ af aa]
    rfl
  rw[o]
  simp only[wY]
  by_cases k1:(aH ts i).1=5
  .simp only[jB k1];exact⟨_,_,_,rfl⟩
  simp only[jA k1]
  cases hd:qU ts l i with
  |inl z=>rfl
  |inr a=>
   obtain⟨p,d,q⟩:=TC c hi hd
   exact Fs c f e k n M (l++[a.2]) a.1 _ _ d aj aa aa
theorem qDa(a:OkT ts)(d:ts.length<1000000)(n:1000001<N)(o:∀j,(aH ts j).2.1.size<100000):
  match xA ts with
  | .inl z=>LU N (ts,0,pr,b)=some (.inl z)
  | .inr f=>∃i' pr' b',LU N (ts,0,pr,b)=some (.inr ((ts,i',pr',b'),f)):=by
 have k:0<ts.length:=fM.2 a.1
 simp only[LU,xA]
 rw[show(0:Int)=((0:Nat):Int) from rfl]
 simp only[Ad k d,j0,NC]
 cases h1:vJ ts ⟨#[112,97,99,107,97,103,101]⟩ 0 with
 |inl z=>rfl
 |inr i=>
  obtain⟨rfl,e,-⟩:=HP a k h1
  simp only[kJ,bI,TY e d,j0]
  cases h2:oI ts (0+1) with
  |inl z=>rfl
  |inr x=>
   obtain⟨rfl,g,-⟩:=vX a e h2
   simp only[kJ,wB g d,j0,uP]
   cases h3:eV ts ⟨#[59]⟩ (0+1+1) with
   |inl z=>rfl
   |inr j=>
    obtain⟨rfl,h,-⟩:=oF a g h3
    simp only[kJ,Ef a d (by omega:1000000<N) (ts.length+1) N [] (0+1+1+1) h ae aa aa,j0]
    cases h4:tX ts (aH ts (0+1)).2.1 (ts.length+1) [] (0+1+1+1) with
    |inl z=>rfl
    |inr y=>
     obtain⟨q,p,r⟩:=SM a _ _ _ y h ae h4
     have c:=Fs (N:=N) a d n o (ts.length+1) N [] y.1 pr b p ae aa aa
     simp only[]
     cases h5:wY ts (ts.length+1) [] y.1 with
     |inl z=>
      rw[h5] at c
      simp only[c,j0]
     |inr l=>
      rw[h5] at c
      obtain⟨i',pr',b',c⟩:=c
      refine⟨i',pr',b',?_⟩
      simp only[c,j0]
end
theorem Iw{s:BA}:∀(l:List cC) (e:Int),0<=e->Bd s e l->∀i,i<l.length->((aH l i).1=5↔i+1=l.length)/\((aH l i).2.1.size:Int)<=s.size/\0<=(aH l i).2.2.2
 |[],_,_,_,i,hi=>by simp at hi
 |t::r,e,k,h,i,hi=>by
  obtain⟨d,f,b,g,c⟩:=h
  have a:0<=BU t:=by unfold BU;split<;>omega
  cases i with
  |zero=>
   refine⟨?_,?_,?_⟩
   .show t.1=5↔0+1=r.length+1
    rw[b,<-dI];omega
   .show((t.2.1.size:Nat):Int)<=s.size
    omega
   show 0<=t.2.2.2
   omega
  |succ i=>
   have:=Iw r _ a c i (by simpa using hi)
   have e:aH (t::r) (i+1)=aH r i:=by simp[aH]
   rw[e,jC]
   exact⟨⟨λh=>by have:=this.1.1 h;omega,λh=>this.1.2 aa⟩,this.2⟩
theorem SY{s:BA}(h:(mT s).2.2=0):OkT (mT s).1/\(mT s).1.length<=16385/\∀j,(aH (mT s).1 j).2.1.size<100000:=by
 unfold mT at h ⊢
 split at h
 .simp at h
 rename_i hs
 rw[jA hs]
 cases hG:pL (s.data.toList.length+1) s 0 with
 |inl x=>
  obtain⟨_,_,a⟩:=ZD _ 0 x aa aa hG
  rw[hG] at h
  exact absurd h a
 |inr r=>
  obtain⟨c,d,g⟩:=XL _ 0 0 r aa aa aa hG
  simp only[AA,kH]
  have b:=Iw r 0 aa c
  refine⟨⟨d,λi hi=>(b i hi).1⟩,by omega,λj=> ?_⟩
  rcases dG j r.length with a|a
  .have:=(b j a).2.1
   have f:=mG s
   omega
  have e:aH r j=(5,⟨#[]⟩,0,0):=by simp[aH,jV,List.getElem?_eq_none a]
  rw[e];decide
theorem Zv{N:Nat}(s:BA)(e:1000001<N):SL N s=some (lS s):=by
 simp only[SL,Xx (N:=N) aa,j0,lS]
 by_cases h:(mT s).2.2=0
 .rw[jA (show ¬((mT s).2.2 !=0)=true by simpa using h),jA (show ¬(mT s).2.2≠0 by simpa using h)]
  obtain⟨c,g,d⟩:=SY h
  have a:=qDa (N:=N) (pr:=[]) (b:=[]) c aa e d
  cases hF:xA (mT s).1 with
  |inl z=>
   rw[hF] at a
   simp only[a,j0];rfl
  |inr f=>
   rw[hF] at a
   obtain⟨i',pr',b',a⟩:=a
   simp only[a,j0]
 rw[jB (show((mT s).2.2 !=0)=true by simpa using h),jB h];rfl
abbrev RT:=List cC×Int×Int×Int×List BA×List Ex×List Int
def gR(ts:List cC)(pr:List BA)(p:Ps):RT:=(ts,(p.1:Int),0,0,pr,p.2,[])
def bR(ts:List cC)(z:cL)(i:Nat)(pr:List BA)(b:List Ex):RT:=(ts,(i:Int),z.1,z.2,pr,b,[])
section
variable {N:Nat} {ts:List cC} {pr:List BA} {b:List Ex} {i:Nat} {z:cL}
theorem Nc{st:Int×Int×List BA×List Ex×List Int}(hi:i<ts.length):mC N (ts,(i:Int),st.1,st.2.1,st.2.2.1,st.2.2.2.1,st.2.2.2.2)=some ((ts,(i:Int),st.1,st.2.1,st.2.2.1,st.2.2.2.1,st.2.2.2.2),aH ts i):=by
 simp only[mC,Lu hi,j0]
theorem oG(p:Ps)(hi:p.1<ts.length):mC N (gR ts pr p)=some (gR ts pr p,aH ts p.1):=Nc (st:=(0,0,pr,p.2,[])) hi
theorem uN(hi:i<ts.length):mC N (bR ts z i pr b)=some (bR ts z i pr b,aH ts i):=Nc (st:=(z.1,z.2,pr,b,[])) hi
theorem uA(p:Ps)(hi:p.1<ts.length)(b:ts.length<1000000)(s:BA):rR N (gR ts pr p) s=some (if cD ts 1 s p.1 then(gR ts pr (p.1+1,p.2),true) else(gR ts pr p,false)):=by
 have a:mC N (ts,(p.1:Int),0,0,pr,p.2,[])=some ((ts,(p.1:Int),0,0,pr,p.2,[]),aH ts p.1):=oG p hi
 simp only[rR,gR,a,j0,oD,cD,fG,jH]
 by_cases h1:(aH ts p.1).1=1<;>by_cases h2:(aH ts p.1).2.1=s<;>simp[h1,h2,pY (show p.1<1000000 by omega)]
theorem Ac(a:z.2≠0)(s:BA):rR N (bR ts z i pr b) s=some (bR ts z i pr b,false):=by
 simp[rR,bR,a]
theorem rX(p:Ps)(hi:p.1<ts.length)(b:ts.length<1000000)(s:BA):rQ N (gR ts pr p) s=some (if cD ts 4 s p.1 then(gR ts pr (p.1+1,p.2),true) else(gR ts pr p,false)):=by
 have a:mC N (ts,(p.1:Int),0,0,pr,p.2,[])=some ((ts,(p.1:Int),0,0,pr,p.2,[]),aH ts p.1):=oG p hi
 simp only[rQ,gR,a,j0,oD,cD,fG,jH]
 by_cases h1:(aH ts p.1).1=4<;>by_cases h2:(aH ts p.1).2.1=s<;>simp[h1,h2,pY (show p.1<1000000 by omega)]
theorem TU(a:z.2≠0)(s:BA):rQ N (bR ts z i pr b) s=some (bR ts z i pr b,false):=by
 simp[rQ,bR,a]
theorem rA(p:Ps)(a e:Int):mM N (gR ts pr p) a e=some (bR ts (a,e) p.1 pr p.2):=by
 simp[mM,gR,bR]
theorem vF(c:z.2≠0)(a e:Int):mM N (bR ts z i pr b) a e=some (bR ts z i pr b):=by
 simp[mM,bR,c]
theorem vE(p:Ps)(hi:p.1<ts.length)(d:ts.length<1000000)(s:BA):lZ N (gR ts pr p) s=some (match eV ts s p.1 with| .inl z=>bR ts z p.1 pr p.2| .inr j=>gR ts pr (j,p.2)):=by
 have a:=rX (N:=N) (pr:=pr) p hi d s
 have b:=oG (N:=N) (pr:=pr) p hi
 have c:=rA (N:=N) (ts:=ts) (pr:=pr) p (aH ts p.1).2.2.2 9
 simp only[gR] at a b c
 simp only[lZ,gR,a,j0,eV]
 rcases eX (cD ts 4 s p.1) with h|h
 .simp only[h,jH,kP,j9,jF]
 simp only[h,jH,kI,j9,jF,b,j0,c,iN]
theorem uJ(e:z.2≠0)(hi:i<ts.length)(s:BA):lZ N (bR ts z i pr b) s=some (bR ts z i pr b):=by
 have a:=TU (N:=N) (ts:=ts) (i:=i) (pr:=pr) (b:=b) e s
 have c:=uN (N:=N) (ts:=ts) (i:=i) (pr:=pr) (b:=b) (z:=z) hi
 have d:=vF (N:=N) (ts:=ts) (i:=i) (pr:=pr) (b:=b) e (aH ts i).2.2.2 9
 simp only[bR] at a c d
 simp only[lZ,bR,a,j0,kI,jH,c,d]
theorem Hb{s:BA}:∀(d k M:Nat),k+d=wordsR.length->d<M->aC (FC N s) M (k:Int)=some (if s∈wordsR.drop k then .inr true else .inl ())
 |d,k,0,_,h=>by omega
 |0,k,M+1,h,_=>by
  have:wordsR.drop k=[]:=jO aa
  simp only[aC,FC,this]
  rw[jA (by simp only[j6];have:wordsR.length=13:=rfl;simp only[jC,jD];omega)]
  rfl
 |d+1,k,M+1,h,g=>by
  have a:k<wordsR.length:=by omega
  have c:=Hb (s:=s) d (k+1) M aa aa
  simp only[aC]
  have e:FC N s (k:Int)=some (if s=wordsR[k] then .inr (.inr true) else .inl (((k+1:Nat):Int))):=by
   have f:wordsR.length=13:=rfl
   have b:bC ([(⟨#[112,97,99,107,97,103,101]⟩:BA),(⟨#[105,109,112,111,114,116]⟩:BA),(⟨#[102,117,110,99]⟩:BA),(⟨#[116,101,115,116]⟩:BA),(⟨#[103,101,110]⟩:BA),(⟨#[105,102]⟩:BA),(⟨#[116,104,101,110]⟩:BA),(⟨#[101,108,115,101]⟩:BA),(⟨#[114,101,97,100]⟩:BA),(⟨#[115,105,122,101]⟩:BA),(⟨#[104,97,115]⟩:BA),(⟨#[101,110,118]⟩:BA),(⟨#[102,108,105,112]⟩:BA)]) (k:Int)=some wordsR[k]:=eZ (l:=wordsR) a
   simp only[FC]
   rw[jB (by simp only[j6,jC,jD];omega),b]
   simp only[j0,oD,j6,pY (show k<1000000 by omega)]
   split<;>rfl
  rw[e,jM a]
  simp only[j0,jK]
  by_cases hs:s=wordsR[k]
  .rw[jB hs,jB (.inl hs)]
  rw[jA hs]
  simp only[c]
  by_cases h2:s∈wordsR.drop (k+1)
  .rw[jB h2,jB (.inr h2)]
  rw[jA h2,jA (λh=>h.elim hs h2)]
theorem rres(a:100<N)(s:BA):RB N s=some (xD s):=by
 have h:=Hb (N:=N) (s:=s) 13 0 N rfl aa
 simp only[jX] at h
 simp only[RB]
 rw[show(0:Int)=((0:Nat):Int) from rfl,h]
 simp only[xD,j0]
 by_cases h2:s∈wordsR
 .rw[jB h2,jI h2]
 rw[jA h2,jP h2]
theorem HW(p:Ps)(hi:p.1<ts.length)(f:ts.length<1000000)(e:100<N):qF N (gR ts pr p)=some (match oI ts p.1 with| .inl z=>(bR ts z p.1 pr p.2,⟨#[]⟩)| .inr a=>(gR ts pr (a.1,p.2),a.2.2.1)):=by
 have d:=oG (N:=N) (pr:=pr) p hi
 have b:=rA (N:=N) (ts:=ts) (pr:=pr) p (aH ts p.1).2.2.2 9
 simp only[gR] at d b
 simp only[qF,gR,d,j0,rres e,oI,oH,fY,j9,jF]
 by_cases k1:(aH ts p.1).1=1
 .have k1':((aH ts p.1).1 !=1)=false:=by simp[k1]
  simp only[k1',j9,jF,j0,jB k1,bI]
  rcases eX (xD (aH ts p.1).2.1) with c|c
  .simp only[c,jH,b,j0,iN]
  simp only[c,j9,jF,pY (show p.1<1000000 by omega)]
 have k1':((aH ts p.1).1 !=1)=true:=by simp[k1]
 simp only[k1',jH,j0,jA k1,bI,b,iN]
theorem UC(d:z.2≠0)(hi:i<ts.length):qF N (bR ts z i pr b)=some (bR ts z i pr b,⟨#[]⟩):=by
 have a:=uN (N:=N) (ts:=ts) (i:=i) (pr:=pr) (b:=b) (z:=z) hi
 have c:=vF (N:=N) (ts:=ts) (i:=i) (pr:=pr) (b:=b) d (aH ts i).2.2.2 9
 have hz':(z.2 !=0)=true:=by simpa using d
 simp only[bR] at a c
 simp only[qF,bR,a,j0,hz',jH,c]
theorem YP(p:Ps)(hi:p.1<ts.length)(d:ts.length<1000000):yS N (gR ts pr p)=some (match oH ts 2 p.1 with| .inl z=>(bR ts z p.1 pr p.2,0)| .inr a=>(gR ts pr (a.1,p.2),a.2.2.2.1)):=by
 have b:=oG (N:=N) (pr:=pr) p hi
 have c:=rA (N:=N) (ts:=ts) (pr:=pr) p (aH ts p.1).2.2.2 9
 simp only[gR] at b c
 simp only[yS,gR,b,j0,oH,fY,j9,jF]
 by_cases k1:(aH ts p.1).1=2
 .have k1':((aH ts p.1).1 !=2)=false:=by simp[k1]
  simp only[k1',j9,jF,jB k1,pY (show p.1<1000000 by omega)]
 have k1':((aH ts p.1).1 !=2)=true:=by simp[k1]
 simp only[k1',jH,jA k1,c,j0,iN]
theorem Wz(d:z.2≠0)(hi:i<ts.length):yS N (bR ts z i pr b)=some (bR ts z i pr b,0):=by
 have a:=uN (N:=N) (ts:=ts) (i:=i) (pr:=pr) (b:=b) (z:=z) hi
 have c:=vF (N:=N) (ts:=ts) (i:=i) (pr:=pr) (b:=b) d (aH ts i).2.2.2 9
 have hz':(z.2 !=0)=true:=by simpa using d
 simp only[bR] at a c
 simp only[yS,bR,a,j0,hz',jH,c]
theorem Kl(t:cC)(x:Ex)(p:Ps)(c:p.2.length<=256):∃v,nD N (gR ts pr p) x t.2.2.2=some (match nF t x p with| .inl z=>(bR ts z p.1 pr p.2,v)| .inr q=>(gR ts pr q.1,(q.2:Int))):=by
 refine⟨wI ((p.2.length:Int)-1),?_⟩
 have a:=rA (N:=N) (ts:=ts) (pr:=pr) p t.2.2.2 2
 simp only[gR] at a
 simp only[nD,gR,fG,jH,j0,nF]
 by_cases k1:p.2.length=256
 .have k1':((p.2.length:Int)==256)=true:=by simp;omega
  simp only[k1',jH,a,j0,bR]
  simp[k1,iN]
 have k1':((p.2.length:Int)==256)=false:=by simp;omega
 have b:wI (((p.2.length+1:Nat):Int)-1)=(p.2.length:Int):=by rw[bP aa aa];omega
 simp only[k1',j9,jF,j0,jA k1,fG,jH]
 rw[lQ af aa]
 simp only[j0,jG,jC,jD,gA,b]
theorem Ke(c:z.2≠0)(x:Ex)(a:Int):∃v,nD N (bR ts z i pr b) x a=some (bR ts z i pr b,v):=by
 refine⟨wI ((b.length:Int)-1),?_⟩
 have hz':(z.2==0)=false:=by simpa using c
 simp only[nD,bR,hz',j9,jF,j0]
theorem ZX(p:Ps)(hi:p.1<ts.length)(f:ts.length<1000000)(e:100<N)(pth:Bool):tV N (gR ts pr p) pth=some (match(if pth then pQ ts p.1 else zW ts p.1) with| .inl z=>(bR ts z p.1 pr p.2,⟨#[]⟩)| .inr a=>(gR ts pr (a.1,p.2),a.2.2.1)):=by
 have d:=oG (N:=N) (pr:=pr) p hi
 have c:=rA (N:=N) (ts:=ts) (pr:=pr) p (aH ts p.1).2.2.2 9
 simp only[gR] at d c
 simp only[tV,gR,d,j0,XU e,Wo e,pQ,zW,oH,fY,j9,jF]
 by_cases k1:(aH ts p.1).1=3
 .have k1':((aH ts p.1).1 !=3)=false:=by simp[k1]
  simp only[k1',j9,jF,j0,jB k1,bI]
  cases pth with
  |true=>
   simp only[jH,kP,j9,jF]
   rcases eX (mV (aH ts p.1).2.1.data.toList) with b|b
   .simp only[b,kP,j9,jF,j0,jH,pY (show p.1<1000000 by omega)]
   simp only[b,kI,j9,jF,j0,jH,c,iN]
  |false=>
   simp only[jH,kI,j9,jF]
   rcases eX (yE (aH ts p.1).2.1) with b|b
   .simp only[b,kP,j9,jF,j0,jH,pY (show p.1<1000000 by omega)]
   simp only[b,kI,j9,jF,j0,jH,c,iN]
 have k1':((aH ts p.1).1 !=3)=true:=by simp[k1]
 simp only[k1',jH,j0,jA k1,bI,c,iN]
 cases pth<;>rfl
theorem ZV(d:z.2≠0)(hi:i<ts.length)(pth:Bool):tV N (bR ts z i pr b) pth=some (bR ts z i pr b,⟨#[]⟩):=by
 have a:=uN (N:=N) (ts:=ts) (i:=i) (pr:=pr) (b:=b) (z:=z) hi
 have c:=vF (N:=N) (ts:=ts) (i:=i) (pr:=pr) (b:=b) d (aH ts i).2.2.2 9
 have hz':(z.2 !=0)=true:=by simpa using d
 simp only[bR] at a c
 simp only[tV,bR,a,j0,hz',jH,c]
theorem Lj{i:Nat}(h:i<2000000):wI ((i:Int)+1)=((i+1:Nat):Int):=by rw[bP aa aa];omega
theorem Hw{s:BA}{l:List BA}(a:l.length<2000000):∀(d i M:Nat),i+d=l.length->d<M->
  aC (LN N l s) M (i:Int)=some (if s∈l.drop i then .inr true else .inl ())
 |d,i,0,_,h=>by omega
 |0,i,M+1,h,_=>by
  have:l.drop i=[]:=jO aa
  simp only[aC,LN,this]
  rw[jA ad]
  rfl
 |d+1,i,M+1,h,c=>by
  have hi:i<l.length:=by omega
  have b:=Hw (s:=s) a d (i+1) M aa aa
  simp only[aC,LN]
  rw[jB ad,eZ hi,jM hi]
  simp only[j0,oD,j6,jK]
  by_cases hs:l[i]=s
  .rw[jB hs,jB (.inl hs.symm)];rfl
  rw[jA hs]
  simp only[j0,Lj (show i<2000000 by omega),b]
  by_cases h2:s∈l.drop (i+1)
  .rw[jB h2,jB (.inr h2)]
  rw[jA h2,jA (λh=>h.elim (λe=>hs e.symm) h2)]
theorem Bi{s:BA}{l:List BA}(b:l.length<2000000)(a:l.length<N):uW N l s=some (decide (s∈l)):=by
 have h:=Hw (N:=N) (s:=s) b l.length 0 N aa a
 simp only[jX] at h
 simp only[uW]
 rw[show(0:Int)=((0:Nat):Int) from rfl,h]
 simp only[j0]
 by_cases h2:s∈l
 .rw[jB h2,jI h2]
 rw[jA h2,jP h2]
theorem andS(a b:Bool):(if a then some b else some false)=some (a&&b):=by cases a<;>rfl
theorem Ez{s:BA}{k:Int}{f:Sr}(b:f.2.2.length<2000000):∀(d i M:Nat),i+d=f.2.2.length->d<M->
  aC (KW N f k s) M (i:Int)=some (if(f.2.2.drop i).any (λd=>d.1==k&&decide (d.2.1=s))then .inr true else .inl ())
 |d,i,0,_,h=>by omega
 |0,i,M+1,h,_=>by
  have:f.2.2.drop i=[]:=jO aa
  simp only[aC,KW,this]
  rw[jA ad]
  rfl
 |d+1,i,M+1,h,e=>by
  have hi:i<f.2.2.length:=by omega
  have c:=Ez (s:=s) (k:=k) b d (i+1) M aa aa
  simp only[aC,KW]
  rw[jB ad,eZ hi,jM hi,List.any_cons]
  simp only[j0,oD,Lj (show i<2000000 by omega),andS]
  rcases eX (f.2.2[i].1==k&&decide (f.2.2[i].2.1=s)) with a|a
  .simp only[a,jH,j0,Bool.true_or]
  simp only[a,j9,jF,j0,c,dR]
theorem qEa{s:BA}{k:Int}{f:Sr}(c:f.2.2.length<2000000)(b:f.2.2.length<N):CT N f k s=some (f.2.2.any λd=>d.1==k&&decide (d.2.1=s)):=by
 have h:=Ez (N:=N) (s:=s) (k:=k) c f.2.2.length 0 N aa b
 simp only[jX] at h
 simp only[CT]
 rw[show(0:Int)=((0:Nat):Int) from rfl,h]
 simp only[j0]
 rcases eX (f.2.2.any λd=>d.1==k&&decide (d.2.1=s)) with a|a
 .rw[jB a,a]
 rw[jA (by rw[a];decide),a]
theorem op_3:nR ts 3 i=if cD ts 4 ⟨#[42]⟩ i then 3 else if cD ts 4 ⟨#[47]⟩ i then 4 else if cD ts 4 ⟨#[37]⟩ i then 5 else 0:=by
 unfold nR opsC
 simp only[List.find?,sC,AF]
 rcases eX (cD ts 4 ⟨#[42]⟩ i) with a|a<;>rcases eX (cD ts 4 ⟨#[47]⟩ i) with b|b<;>rcases eX (cD ts 4 ⟨#[37]⟩ i) with c|c<;>simp[a,b,c]
theorem op_2:nR ts 2 i=if cD ts 4 ⟨#[43]⟩ i then 1 else if cD ts 4 ⟨#[45]⟩ i then 2 else 0:=by
 unfold nR opsC
 simp only[List.find?,sC,AF]
 rcases eX (cD ts 4 ⟨#[43]⟩ i) with a|a<;>rcases eX (cD ts 4 ⟨#[45]⟩ i) with b|b<;>simp[a,b]
theorem op_1:nR ts 1 i=if cD ts 4 ⟨#[60]⟩ i then 6 else if cD ts 4 ⟨#[61,61]⟩ i then 7 else 0:=by
 unfold nR opsC
 simp only[List.find?,sC,AF]
 rcases eX (cD ts 4 ⟨#[60]⟩ i) with a|a<;>rcases eX (cD ts 4 ⟨#[61,61]⟩ i) with b|b<;>simp[a,b]
theorem HX{α:Type}{t:cC}{e:Int}(a:e≠0)(h:(iN t e:cL⊕α)= .inl z):z.2≠0:=by
 obtain rfl:=Sum.inl.inj h;exact a
theorem uB{s:BA}(h:eV ts s i= .inl z):z.2≠0:=by
 unfold eV at h;split at h
 .cases h
 exact HX ac h
theorem NN{k:Int}(h:oH ts k i= .inl z):z.2≠0:=by
 unfold oH at h;split at h
 .cases h
 exact HX ac h
theorem ZU{α β:Type}{x:cL⊕α}{f:α->cL⊕β}(h:bI x f= .inl z):x= .inl z\/∃a,x= .inr a/\f a= .inl z:=by
 cases x with
 |inl y=>obtain rfl:=Sum.inl.inj h;exact .inl rfl
 |inr a=>exact .inr ⟨a,rfl,h⟩
theorem UE(h:oI ts i= .inl z):z.2≠0:=by
 rcases ZU h with h|⟨a,_,h⟩
 .exact NN h
 split at h
 .exact HX ac h
 cases h
theorem TX(h:pQ ts i= .inl z):z.2≠0:=by
 rcases ZU h with h|⟨a,_,h⟩
 .exact NN h
 split at h
 .cases h
 exact HX ac h
theorem qAl(h:zW ts i= .inl z):z.2≠0:=by
 rcases ZU h with h|⟨a,_,h⟩
 .exact NN h
 split at h
 .cases h
 exact HX ac h
theorem ZY{t:cC}{x:Ex}{p:Ps}(h:nF t x p= .inl z):z.2≠0:=by
 unfold nF at h;split at h
 .exact HX ac h
 cases h
end
def wL(ts:List cC)(z:cL)(st:RT):Prop:=z.2≠0/\∃(i:Nat) (pr:List BA) (b:List Ex),i<ts.length/\st=bR ts z i pr b
def mL(ts:List cC)(pr:List BA)(r:PM Nat)(o:RT×Int):Prop:=
 match r with
 | .inl z=>wL ts z o.1
 | .inr q=>o=(gR ts pr q.1,(q.2:Int))
section
variable {N:Nat} {ts:List cC} {pr:List BA} {E S:Ps->PM Nat} {d:Int}
variable {r1 r2 r3 r4:RT->Int->Option (RT×Int)}
theorem vC{z:cL}{i:Nat}{pr':List BA}{b:List Ex}{v:Int}(a:z.2≠0)(hi:i<ts.length):mL ts pr (.inl z) (bR ts z i pr' b,v):=⟨a,i,pr',b,hi,rfl⟩
theorem DF(t:cC)(x:Ex)(p:Ps)(c:p.1<ts.length)(b:p.2.length<=256):∃o,nD N (gR ts pr p) x t.2.2.2=some o/\mL ts pr (nF t x p) o:=by
 obtain⟨v,h⟩:=Kl (N:=N) (ts:=ts) (pr:=pr) t x p b
 cases a:nF t x p with
 |inl z=>rw[a] at h;exact⟨_,h,vC (ZY a) c⟩
 |inr q=>rw[a] at h;exact⟨_,h,rfl⟩
theorem HO{z:cL}{i:Nat}{pr':List BA}{b:List Ex}(c:z.2≠0)(hi:i<ts.length)(x:Ex)(a:Int):∃o,nD N (bR ts z i pr' b) x a=some o/\mL ts pr (.inl z) o:=by
 obtain⟨v,h⟩:=Ke (N:=N) (ts:=ts) (pr:=pr') (b:=b) (i:=i) c x a
 exact⟨_,h,vC c hi⟩
theorem YD(t:cC)(x:Ex)(p:Ps)(b:OkT ts)(d:ts.length<1000000)(a:p.1<ts.length)(c:p.2.length<=256):∃o,
  ((lZ N (gR ts pr p) (⟨#[41]⟩:BA)).bind λy=>nD N y x t.2.2.2)=some o/\mL ts pr (bI (eV ts nL p.1) λi=>nF t x (i,p.2)) o:=by
 have e:=vE (N:=N) (pr:=pr) p a d ⟨#[41]⟩
 simp only[e,j0,nL]
 cases h:eV ts ⟨#[41]⟩ p.1 with
 |inl z=>exact HO (uB h) a x _
 |inr j=>
  obtain⟨rfl,g,-⟩:=oF b a h
  exact DF t x (p.1+1,p.2) g c
theorem DC{z:cL}{i:Nat}{pr':List BA}{b:List Ex}(c:z.2≠0)(hi:i<ts.length)(x:Ex)(a:Int):∃o,
  ((lZ N (bR ts z i pr' b) (⟨#[41]⟩:BA)).bind λy=>nD N y x a)=some o/\mL ts pr (.inl z) o:=by
 simp only[uJ c hi,j0]
 exact HO c hi x a
variable (hEg:∀p:Ps,p.1<ts.length->p.2.length<=256->∃o,r4 (gR ts pr p) (wI (d+1))=some o/\mL ts pr (E p) o)
variable (hEb:∀(z:cL) (i:Nat) (pr':List BA) (b:List Ex),z.2≠0->i<ts.length->∃v,r4 (bR ts z i pr' b) (wI (d+1))=some (bR ts z i pr' b,v))
def UI(ts:List cC)(E:Ps->PM Nat)(n:Nat)(l:List Int)(p:Ps):PM (List Int):=
 if cD ts 4 tJ p.1 then yD ts E n l (p.1+1,p.2) else bI (eV ts nL p.1) λi=> .inr ((i,p.2),l)
theorem TR(n:Nat)(l:List Int)(p:Ps):yD ts E (n+1) l p=bI (E p) λq=>UI ts E n (l++[(q.2:Int)]) q.1:=rfl
def Na(ts:List cC)(pr:List BA)(r:PM (List Int))(o:List Int×RT):Prop:=
 match r with
 | .inl z=>wL ts z o.2
 | .inr q=>o=(q.2,gR ts pr q.1)
theorem YM{z:cL}{i:Nat}{pr':List BA}{b:List Ex}(a:z.2≠0)(M:Nat)(l:List Int):aC (AM N r4 d) (M+1) (l,bR ts z i pr' b)=some (l,bR ts z i pr' b):=by
 have hz':(z.2==0)=false:=by simpa using a
 simp only[aC,AM,bR,hz',j9,jF,j0]
include hEg hEb in
theorem Fk(k:OkT ts)(s:ts.length<1000000)(u:nS ts E):∀(n M:Nat) (l:List Int) (p:Ps),l≠[]->p.1<ts.length->p.2.length<=256->l.length<=p.1->ts.length<p.1+n->ts.length+2<p.1+M->
  ∃o,aC (AM N r4 d) M (l,gR ts pr p)=some o/\Na ts pr (UI ts E n l p) o
 |0,M,l,p,_,c,_,_,h,_=>by omega
 |n+1,0,l,p,_,c,_,_,_,h=>by omega
 |n+1,M+1,l,p,A,c,x,R,Y,V=>by
  have K:=rX (N:=N) (pr:=pr) p c s ⟨#[41]⟩
  have t:decide ((l.length:Int)>0)=true:=by
   have:=fM.2 A
   exact jI aa
  have G:((gR ts pr p).2.2.2.1==0)=true:=rfl
  simp only[aC,AM,Prod.eta,G,jH,K,j0]
  rcases eX (cD ts 4 ⟨#[41]⟩ p.1) with a|a
  .simp only[a,jH,kP,j9,jF]
   refine⟨_,rfl,?_⟩
   have e:cD ts 4 tJ p.1=false:=by
    simp only[cD,jS,j6] at a
    simp[cD,a.2,tJ]
   have r:eV ts nL p.1= .inr (p.1+1):=by simp[eV,nL,a]
   simp only[UI,e,j9,jF,r,bI]
   rfl
  simp only[a,j9,jF,kI,jH,t,Prod.eta,vE p c s,j0]
  have y:cD ts 4 tJ p.1=cD ts 4 ⟨#[44]⟩ p.1:=rfl
  simp only[UI,y,eV]
  rcases eX (cD ts 4 ⟨#[44]⟩ p.1) with e|e
  .have g:=oE k c ac e
   simp only[e,jH]
   obtain⟨o,H,f⟩:=hEg (p.1+1,p.2) g x
   simp only[H,j0]
   cases hE:E (p.1+1,p.2) with
   |inl z=>
    rw[hE] at f
    obtain⟨D,i,pr',b,hi,B⟩:=f
    rw[lQ af aa]
    simp only[j0,B]
    cases M with
    |zero=>omega
    |succ M=>
     refine⟨_,YM D M _,?_⟩
     rw[TR,hE]
     exact⟨D,i,pr',b,hi,rfl⟩
   |inr q=>
    rw[hE] at f
    obtain⟨⟨B,D,S,F⟩,U⟩:=u (p.1+1,p.2) q.1 q.2 g x hE
    simp only at B
    rw[lQ af aa]
    have hr':o=(gR ts pr q.1,(q.2:Int)):=f
    simp only[j0,hr']
    rw[TR,hE]
    exact Fk k s u n M (l++[(q.2:Int)]) q.1 ae D F aj aa aa
  simp only[e,j9,jF]
  have r:cD ts 4 nL p.1=false:=a
  simp only[r,j9,jF,iN,bI]
  obtain⟨v,f⟩:=hEb ((aH ts p.1).2.2.2,9) p.1 pr p.2 (show(9:Int)≠0 by decide) c
  simp only[f,j0]
  rw[lQ af aa]
  simp only[j0]
  cases M with
  |zero=>omega
  |succ M=>exact⟨_,YM (z:=((aH ts p.1).2.2.2,9)) (show(9:Int)≠0 by decide) M _,show(9:Int)≠0 by decide,p.1,pr,p.2,c,rfl⟩
include hEg hEb in
theorem qFw(n:OkT ts)(k:ts.length<1000000)(A:1000002<N)(g:nS ts E)(p:Ps)(f:p.1<ts.length)(h:p.2.length<=256):
  ∃o,aC (AM N r4 d) N ([],gR ts pr p)=some o/\Na ts pr (if cD ts 4 nL p.1 then .inr ((p.1+1,p.2),[]) else yD ts E (ts.length+1) [] p) o:=by
 obtain⟨M,rfl⟩:∃M,N=M+1:=⟨N-1,by omega⟩
 have u:=rX (N:=M+1) (pr:=pr) p f k ⟨#[41]⟩
 have s:((gR ts pr p).2.2.2.1==0)=true:=rfl
 have e:decide ((([]:List Int).length:Int)>0)=false:=rfl
 simp only[aC,AM,Prod.eta,s,jH,u,j0,nL]
 rcases eX (cD ts 4 ⟨#[41]⟩ p.1) with c|c
 .simp only[c,jH,kP,j9,jF]
  exact⟨_,rfl,rfl⟩
 simp only[c,j9,jF,kI,jH,e,Prod.eta,j0]
 obtain⟨o,t,a⟩:=hEg p f h
 simp only[t,j0]
 cases hE:E p with
 |inl z=>
  rw[hE] at a
  obtain⟨r,i,pr',b,hi,l⟩:=a
  rw[lQ ae aa]
  simp only[j0,l]
  cases M with
  |zero=>omega
  |succ M=>
   refine⟨_,YM r M _,?_⟩
   rw[TR,hE]
   exact⟨r,i,pr',b,hi,rfl⟩
 |inr q=>
  rw[hE] at a
  obtain⟨⟨v,l,x,r⟩,y⟩:=g p q.1 q.2 f h hE
  rw[lQ ae aa]
  have hr':o=(gR ts pr q.1,(q.2:Int)):=a
  simp only[j0,hr']
  rw[TR,hE]
  exact Fk hEg hEb n k g ts.length M ([]++[(q.2:Int)]) q.1 ae l r aj aa aa
end
section
variable {N:Nat} {ts:List cC} {pr:List BA} {E S:Ps->PM Nat} {d:Int}
variable {r1 r2 r3 r4:RT->Int->Option (RT×Int)}
theorem Iu{y1:RT×cC}{y31:RT×BA}{p:Ps}(a:pr.length<1000):∀(k i M:Nat),i+k=pr.length->k<M->
  aC (AN N y1 y31 (gR ts pr p,false)) M (i:Int)=(match(pr.drop i).findIdx? (λx=>decide (x=y31.2)) with
   |some j=>(nD N (gR ts pr p) (2,((i+j:Nat):Int),0,⟨#[]⟩,[]) y1.2.2.2.2).bind λy=>some (.inr y)
   |none=>some (.inl ()))
 |k,i,0,_,h=>by omega
 |0,i,M+1,h,_=>by
  have:pr.drop i=[]:=jO aa
  have c:decide ((i:Int)<((gR ts pr p).2.2.2.2.1.length:Int))=false:=jP (by simp only[gR];omega)
  simp only[aC,AN,this,List.findIdx?_nil,c,j9,jF,j0]
 |k+1,i,M+1,h,e=>by
  have hi:i<pr.length:=by omega
  have d:=Iu (y1:=y1) (y31:=y31) (p:=p) a k (i+1) M aa aa
  have c:decide ((i:Int)<((gR ts pr p).2.2.2.2.1.length:Int))=true:=jI (by simp only[gR];omega)
  have x:bC (gR ts pr p).2.2.2.2.1 (i:Int)=some pr[i]:=eZ hi
  have b:((gR ts pr p).2.2.2.1==0)=true:=rfl
  rw[jM hi,List.findIdx?_cons]
  simp only[aC,AN,b,Prod.eta,c,x,jH,j0,oD,j6]
  by_cases hs:pr[i]=y31.2
  .simp only[jB hs,jH,j0,gZ]
   cases nD N (gR ts pr p) (2,(i:Int),0,⟨#[]⟩,[]) y1.2.2.2.2<;>rfl
  simp only[jA hs,j0,j9,jF,pY (show i<1000000 by omega),d]
  cases(pr.drop (i+1)).findIdx? (λx=>decide (x=y31.2)) with
  |none=>rfl
  |some j=>simp only[kL];rw[show i+1+j=i+(j+1) by omega]
theorem ZI{y1:RT×cC}{y31:RT×BA}{z:cL}{j:Nat}{pr':List BA}{b:List Ex}(d:z.2≠0)(a:pr'.length<1000):∀(k i M:Nat),i+k=pr'.length->k<M->
  aC (AN N y1 y31 (bR ts z j pr' b,false)) M (i:Int)=some (.inl ())
 |k,i,0,_,h=>by omega
 |0,i,M+1,h,_=>by
  have c:decide ((i:Int)<((bR ts z j pr' b).2.2.2.2.1.length:Int))=false:=jP (by simp only[bR];omega)
  simp only[aC,AN,c,j9,jF,j0]
 |k+1,i,M+1,h,g=>by
  have hi:i<pr'.length:=by omega
  have f:=ZI (y1:=y1) (y31:=y31) (j:=j) (b:=b) d a k (i+1) M aa aa
  have c:decide ((i:Int)<((bR ts z j pr' b).2.2.2.2.1.length:Int))=true:=jI (by simp only[bR];omega)
  have x:bC (bR ts z j pr' b).2.2.2.2.1 (i:Int)=some pr'[i]:=eZ hi
  have e:((bR ts z j pr' b).2.2.2.1==0)=false:=by simpa[bR] using d
  simp only[aC,AN,e,Prod.eta,c,x,jH,j0,oD,j6]
  have:((if pr'[i]=y31.2 then some false else some false):Option Bool)=some false:=by split<;>rfl
  simp only[this,j0,j9,jF,pY (show i<1000000 by omega),f]
variable (hEg:∀p:Ps,p.1<ts.length->p.2.length<=256->∃o,r4 (gR ts pr p) (wI (d+1))=some o/\mL ts pr (E p) o)
variable (hEb:∀(z:cL) (i:Nat) (pr':List BA) (b:List Ex),z.2≠0->i<ts.length->∃v,r4 (bR ts z i pr' b) (wI (d+1))=some (bR ts z i pr' b,v))
include hEg hEb in
theorem qDc(e:OkT ts)(k:ts.length<1000000)(H:100<N)(G:nS ts E)(t:cC)(p:Ps)(f:p.1<ts.length)(A:p.2.length<=256):∃o,
  ((lZ N (gR ts pr p) (⟨#[40]⟩:BA)).bind λD=>(tV N D true).bind λr=>(lZ N r.1 (⟨#[44]⟩:BA)).bind λF=>(r4 F (wI (d+1))).bind λc=>(lZ N c.1 (⟨#[41]⟩:BA)).bind λg=>nD N g (6,0,0,r.2,[c.2]) t.2.2.2)=some o/\
  mL ts pr (bI (eV ts qV p.1) λi=>bI (bI (pQ ts i) λa=>bI (eV ts tJ a.1) λi=>bI (E (i,p.2)) λq=>(.inr (q.1,((6,0,0,a.2.2.1,[(q.2:Int)]):Ex)):cL⊕(Ps×Ex))) λq=>bI (eV ts nL q.1.1) λi=>nF t q.2 (i,q.1.2)) o:=by
 have bad:∀{z:cL} {i:Nat} {pr':List BA} {b:List Ex} (x:BA),z.2≠0->i<ts.length->∃o,((r4 (bR ts z i pr' b) (wI (d+1))).bind λc=>(lZ N c.1 (⟨#[41]⟩:BA)).bind λg=>nD N g (6,0,0,x,[c.2]) t.2.2.2)=some o/\mL ts pr (.inl z) o:=by
  intro z i pr' b x n hi
  obtain⟨v,h⟩:=hEb z i pr' b n hi
  simp only[h,j0]
  exact DC n hi _ _
 simp only[vE p f k,j0,qV]
 cases h1:eV ts ⟨#[40]⟩ p.1 with
 |inl z=>
  simp only[ZV (uB h1) f,uJ (uB h1) f,j0]
  exact bad _ (uB h1) f
 |inr i=>
  obtain⟨rfl,h,-⟩:=oF e f h1
  simp only[ZX (p.1+1,p.2) h k H,j0,jH,bI]
  cases h2:pQ ts (p.1+1) with
  |inl z=>
   simp only[uJ (TX h2) h,j0]
   exact bad _ (TX h2) h
  |inr a=>
   obtain⟨rfl,s,-⟩:=wW e h h2
   simp only[vE (p.1+1+1,p.2) s k,j0,tJ]
   cases y:eV ts ⟨#[44]⟩ (p.1+1+1) with
   |inl z=>exact bad _ (uB y) s
   |inr j=>
    obtain⟨rfl,u,-⟩:=oF e s y
    obtain⟨o,K,l⟩:=hEg (p.1+1+1+1,p.2) u A
    simp only[K,j0]
    cases h4:E (p.1+1+1+1,p.2) with
    |inl z=>
     rw[h4] at l
     obtain⟨n,i,pr',b,hi,B⟩:=l
     simp only[B]
     exact DC n hi _ _
    |inr q=>
     rw[h4] at l
     obtain⟨⟨M,n,R,B⟩,S⟩:=G (p.1+1+1+1,p.2) q.1 q.2 u A h4
     have hr':o=(gR ts pr q.1,(q.2:Int)):=l
     simp only[hr']
     exact YD t _ q.1 e k n B
theorem Au(c:OkT ts)(h:ts.length<1000000)(r:100<N)(k:Int)(pth:Bool)(t:cC)(p:Ps)(f:p.1<ts.length)(s:p.2.length<=256):∃o,
  ((lZ N (gR ts pr p) (⟨#[40]⟩:BA)).bind λl=>(tV N l pth).bind λg=>(lZ N g.1 (⟨#[41]⟩:BA)).bind λn=>nD N n (k,0,0,g.2,[]) t.2.2.2)=some o/\
  mL ts pr (bI (eV ts qV p.1) λi=>bI (bI (if pth then pQ ts i else zW ts i) λa=>(.inr ((a.1,p.2),((k,0,0,a.2.2.1,[]):Ex)):cL⊕(Ps×Ex))) λq=>bI (eV ts nL q.1.1) λi=>nF t q.2 (i,q.1.2)) o:=by
 simp only[vE p f h,j0,qV]
 cases h1:eV ts ⟨#[40]⟩ p.1 with
 |inl z=>
  simp only[ZV (uB h1) f,j0]
  exact DC (uB h1) f _ _
 |inr i=>
  obtain⟨rfl,d,-⟩:=oF c f h1
  simp only[ZX (p.1+1,p.2) d h r,j0,bI]
  cases h2:(if pth then pQ ts (p.1+1) else zW ts (p.1+1)) with
  |inl z=>
   have b:z.2≠0:=by
    split at h2
    .exact TX h2
    exact qAl h2
   exact DC b d _ _
  |inr a=>
   have b:a=(p.1+1+1,aH ts (p.1+1))/\p.1+1+1<ts.length:=by
    split at h2
    .obtain⟨e,b,-⟩:=wW c d h2;exact⟨e,b⟩
    obtain⟨e,b,-⟩:=Gu c d h2;exact⟨e,b⟩
   obtain⟨rfl,b⟩:=b
   exact YD t _ (p.1+1+1,p.2) c h b s
theorem qDd(c:OkT ts)(h:ts.length<1000000)(t:cC)(p:Ps)(d:p.1<ts.length)(u:p.2.length<=256):∃o,
  ((lZ N (gR ts pr p) (⟨#[40]⟩:BA)).bind λn=>(mC N n).bind λg=>(yS N g.1).bind λb=>(if(decide (b.2>=64))then((mM N b.1 g.2.2.2.2 9).bind λr=>some r) else(some b.1):Option RT).bind λv=>(lZ N v (⟨#[41]⟩:BA)).bind λs=>nD N s (10,b.2,0,⟨#[]⟩,[]) t.2.2.2)=some o/\
  mL ts pr (bI (eV ts qV p.1) λi=>bI (bI (oH ts 2 i) λa=>if a.2.2.2.1>=64 then iN a.2 9 else(.inr ((a.1,p.2),((10,a.2.2.2.1,0,⟨#[]⟩,[]):Ex)):cL⊕(Ps×Ex))) λq=>bI (eV ts nL q.1.1) λi=>nF t q.2 (i,q.1.2)) o:=by
 have f:¬decide ((0:Int)>=64)=true:=by decide
 simp only[vE p d h,j0,qV]
 cases h1:eV ts ⟨#[40]⟩ p.1 with
 |inl z=>
  simp only[uN d,Wz (uB h1) d,j0,jA f]
  exact DC (uB h1) d _ _
 |inr i=>
  obtain⟨rfl,e,-⟩:=oF c d h1
  simp only[oG (p.1+1,p.2) e,YP (p.1+1,p.2) e h,j0,bI]
  cases h2:oH ts 2 (p.1+1) with
  |inl z=>
   simp only[jA f,j0]
   exact DC (NN h2) e _ _
  |inr a=>
   obtain⟨rfl,l,-⟩:=zQ c ac e h2
   by_cases k:(aH ts (p.1+1)).2.2.1>=64
   .simp only[jB k,j6,jH,rA,j0]
    exact DC (show(9:Int)≠0 by decide) l _ _
   simp only[jA k,j6,j0]
   exact YD t _ (p.1+1+1,p.2) c h l u
end
section
variable {N:Nat} {ts:List cC} {pr:List BA} {E S:Ps->PM Nat} {d:Int}
variable {r1 r2 r3 r4:RT->Int->Option (RT×Int)}
theorem Jq{s:BA}{i:Nat}(h:(aH ts i).1=1):cD ts 1 s i=decide ((aH ts i).2.1=s):=by simp[cD,h]
theorem Lw{k:Int}{s:BA}{i:Nat}(h:(aH ts i).1≠k):cD ts k s i=false:=by simp[cD,h]
theorem sZ{α:Type}(x:Option α):(x.bind λy=>some y)=x:=by cases x<;>rfl
theorem Xl{z:cL}{i:Nat}{pr':List BA}{b:List Ex}(c:z.2≠0)(hi:i<ts.length):ER N r1 r2 r3 r4 (bR ts z i pr' b) d=some (bR ts z i pr' b,0):=by
 have a:((bR ts z i pr' b).2.2.2.1 !=0)=true:=by simpa[bR] using c
 simp only[ER,Prod.eta,uN hi,j0,a,jH]
variable (hEg:∀p:Ps,p.1<ts.length->p.2.length<=256->∃o,r4 (gR ts pr p) (wI (d+1))=some o/\mL ts pr (E p) o)
variable (hEb:∀(z:cL) (i:Nat) (pr':List BA) (b:List Ex),z.2≠0->i<ts.length->∃v,r4 (bR ts z i pr' b) (wI (d+1))=some (bR ts z i pr' b,v))
include hEg hEb in
theorem qCn(e:OkT ts)(f:ts.length<1000000)(H:pr.length<1000)(hN:1000002<N)(M:nS ts E)(p:Ps)(l:p.1<ts.length)(t:p.2.length<=256):
  ∃o,ER N r1 r2 r3 r4 (gR ts pr p) d=some o/\mL ts pr (wC ts pr E p) o:=by
 have Y:((gR ts pr p).2.2.2.1 !=0)=false:=rfl
 simp only[ER,Prod.eta,oG p l,j0,Y,j9,jF]
 unfold wC
 dsimp only
 by_cases k1:(aH ts p.1).1=2
 .have k1':((aH ts p.1).1==2)=true:=by simpa using k1
  have g:=e.next l (show(aH ts p.1).1≠5 by rw[k1];decide)
  rw[jB k1]
  simp only[k1',jH,YP p l f,oH,jB k1,j0]
  obtain⟨o,k,c⟩:=DF (N:=N) (pr:=pr) (aH ts p.1) (1,(aH ts p.1).2.2.1,0,⟨#[]⟩,[]) (p.1+1,p.2) g t
  simp only[k,j0]
  exact⟨_,rfl,c⟩
 have k1':((aH ts p.1).1==2)=false:=by simpa using k1
 rw[jA k1]
 simp only[k1',j9,jF,rX p l f,j0]
 rcases eX (cD ts 4 Ar p.1) with B|B
 .have c1':cD ts 4 ⟨#[45]⟩ p.1=true:=B
  have g:=oE e l ac B
  simp only[B,c1',jH,YP (p.1+1,p.2) g f,j0]
  cases h:oH ts 2 (p.1+1) with
  |inl z=>
   obtain⟨o,k,c⟩:=HO (N:=N) (pr:=pr) (pr':=pr) (b:=p.2) (NN h) g (1,wI (0-0),0,⟨#[]⟩,[]) (aH ts p.1).2.2.2
   simp only[k,j0]
   exact⟨_,rfl,c⟩
  |inr a=>
   obtain⟨rfl,F,-⟩:=zQ e ac g h
   obtain⟨o,k,c⟩:=DF (N:=N) (pr:=pr) (aH ts p.1) (1,wI (0-(aH ts (p.1+1)).2.2.1),0,⟨#[]⟩,[]) (p.1+1+1,p.2) F t
   simp only[k,j0,bI]
   exact⟨_,rfl,c⟩
 have c1':cD ts 4 ⟨#[45]⟩ p.1=false:=B
 simp only[B,c1',j9,jF,rX p l f,j0]
 rcases eX (cD ts 4 qV p.1) with D|D
 .have c2':cD ts 4 ⟨#[40]⟩ p.1=true:=D
  have g:=oE e l ac D
  obtain⟨o,k,c⟩:=hEg (p.1+1,p.2) g t
  simp only[D,c2',jH,k,j0]
  cases h:E (p.1+1,p.2) with
  |inl z=>
   rw[h] at c
   obtain⟨r,i,pr',b,hi,G⟩:=c
   simp only[G,uJ r hi,j0,bI]
   exact⟨_,rfl,vC r hi⟩
  |inr q=>
   rw[h] at c
   obtain⟨⟨U,K,V,S⟩,v⟩:=M (p.1+1,p.2) q.1 q.2 g t h
   have hr':o=(gR ts pr q.1,(q.2:Int)):=c
   simp only[hr',vE q.1 K f,j0,bI,nL]
   cases u:eV ts ⟨#[41]⟩ q.1.1 with
   |inl z=>exact⟨_,rfl,vC (uB u) K⟩
   |inr j=>exact⟨_,rfl,rfl⟩
 have c2':cD ts 4 ⟨#[40]⟩ p.1=false:=D
 simp only[D,c2',j9,jF,uA p l f,j0]
 by_cases k2:(aH ts p.1).1=1
 rotate_left
 .-- no name
  rw[jB k2]
  have n:∀s,cD ts 1 s p.1=false:=λs=>Lw k2
  have v:oI ts p.1= .inl ((aH ts p.1).2.2.2,9):=by simp[oI,oH,k2,bI,iN]
  simp only[n,j9,jF,uA p l f,j0,HW p l f (by omega:100<N),v]
  have r:(((aH ts p.1).2.2.2,(9:Int)):cL).2≠0:=show(9:Int)≠0 by decide
  have u:=ZI (N:=N) (ts:=ts) (y1:=(gR ts pr p,aH ts p.1)) (y31:=(bR ts ((aH ts p.1).2.2.2,9) p.1 pr p.2,(⟨#[]⟩:BA))) (j:=p.1) (pr':=pr) (b:=p.2) r H pr.length 0 N aa aa
  rw[show((0:Nat):Int)=0 from rfl] at u
  simp only[TU r,j0,kI,jH,u,vF r]
  exact⟨_,rfl,vC r l⟩
 rw[jA (show ¬(aH ts p.1).1≠1 by simpa using k2)]
 have g:=e.next l (show(aH ts p.1).1≠5 by rw[k2];decide)
 have n:∀s,cD ts 1 s p.1=decide ((aH ts p.1).2.1=s):=λs=>Jq k2
 simp only[n,uA p l f,j0]
 by_cases w1:(aH ts p.1).2.1=sU
 .rw[jB (show(aH ts p.1).2.1∈[sU,sQ,sY,sV,uC] by rw[w1];simp)]
  have w1':decide ((aH ts p.1).2.1=(⟨#[114,101,97,100]⟩:BA))=true:=jI w1
  simp only[w1',jH]
  obtain⟨o,k,c⟩:=qDc (N:=N) hEg hEb e f aa M (aH ts p.1) (p.1+1,p.2) g t
  refine⟨o,Eq.trans ?_ k,?_⟩
  .simp only[sZ]
  simp only[uZ,jB w1]
  exact c
 have w1':decide ((aH ts p.1).2.1=(⟨#[114,101,97,100]⟩:BA))=false:=jP w1
 simp only[w1',j9,jF,uA p l f,j0,n]
 by_cases w2:(aH ts p.1).2.1=sQ
 .rw[jB (show(aH ts p.1).2.1∈[sU,sQ,sY,sV,uC] by rw[w2];simp)]
  have w2':decide ((aH ts p.1).2.1=(⟨#[115,105,122,101]⟩:BA))=true:=jI w2
  have wx:((aH ts p.1).2.1.toList==(⟨#[104,97,115]⟩:BA).toList)=false:=by rw[oD,w2];decide
  have wy:((aH ts p.1).2.1.toList==(⟨#[101,110,118]⟩:BA).toList)=false:=by rw[oD,w2];decide
  simp only[w2',jH,j0,wx,wy,j9,jF]
  obtain⟨o,k,c⟩:=Au (N:=N) (pr:=pr) e f aa 7 true (aH ts p.1) (p.1+1,p.2) g t
  refine⟨o,Eq.trans ?_ k,?_⟩
  .simp only[sZ];rfl
  simp only[uZ,jA w1,jB w2]
  exact c
 have w2':decide ((aH ts p.1).2.1=(⟨#[115,105,122,101]⟩:BA))=false:=jP w2
 simp only[w2',j9,jF,uA p l f,j0,n]
 by_cases w3:(aH ts p.1).2.1=sY
 .rw[jB (show(aH ts p.1).2.1∈[sU,sQ,sY,sV,uC] by rw[w3];simp)]
  have w3':decide ((aH ts p.1).2.1=(⟨#[104,97,115]⟩:BA))=true:=jI w3
  have wx:((aH ts p.1).2.1.toList==(⟨#[104,97,115]⟩:BA).toList)=true:=by rw[oD,w3']
  simp only[w3',jH,j0,wx]
  obtain⟨o,k,c⟩:=Au (N:=N) (pr:=pr) e f aa 8 true (aH ts p.1) (p.1+1,p.2) g t
  refine⟨o,Eq.trans ?_ k,?_⟩
  .simp only[sZ];rfl
  simp only[uZ,jA w1,jA w2,jB w3]
  exact c
 have w3':decide ((aH ts p.1).2.1=(⟨#[104,97,115]⟩:BA))=false:=jP w3
 simp only[w3',j9,jF,uA p l f,j0,n]
 by_cases w4:(aH ts p.1).2.1=sV
 .rw[jB (show(aH ts p.1).2.1∈[sU,sQ,sY,sV,uC] by rw[w4];simp)]
  have w4':decide ((aH ts p.1).2.1=(⟨#[101,110,118]⟩:BA))=true:=jI w4
  have wx:((aH ts p.1).2.1.toList==(⟨#[104,97,115]⟩:BA).toList)=false:=by rw[oD,w4];decide
  have wy:((aH ts p.1).2.1.toList==(⟨#[101,110,118]⟩:BA).toList)=true:=by rw[oD,w4']
  simp only[w4',jH,j0,wx,wy,j9,jF]
  obtain⟨o,k,c⟩:=Au (N:=N) (pr:=pr) e f aa 9 false (aH ts p.1) (p.1+1,p.2) g t
  refine⟨o,Eq.trans ?_ k,?_⟩
  .simp only[sZ];rfl
  simp only[uZ,jA w1,jA w2,jA w3,jB w4]
  exact c
 have w4':decide ((aH ts p.1).2.1=(⟨#[101,110,118]⟩:BA))=false:=jP w4
 simp only[w4',j9,jF,uA p l f,j0,n]
 by_cases w5:(aH ts p.1).2.1=uC
 .rw[jB (show(aH ts p.1).2.1∈[sU,sQ,sY,sV,uC] by rw[w5];simp)]
  have w5':decide ((aH ts p.1).2.1=(⟨#[102,108,105,112]⟩:BA))=true:=jI w5
  simp only[w5',jH]
  obtain⟨o,k,c⟩:=qDd (N:=N) (pr:=pr) e f (aH ts p.1) (p.1+1,p.2) g t
  refine⟨o,Eq.trans ?_ k,?_⟩
  .simp only[sZ]
  simp only[uZ,jA w1,jA w2,jA w3,jA w4]
  exact c
 have w5':decide ((aH ts p.1).2.1=(⟨#[102,108,105,112]⟩:BA))=false:=jP w5
 rw[jA (show ¬(aH ts p.1).2.1∈[sU,sQ,sY,sV,uC] by simp[w1,w2,w3,w4,w5])]
 simp only[w5',j9,jF,HW p l f (by omega:100<N),j0,oI,oH,jB k2,bI]
 rcases eX (xD (aH ts p.1).2.1) with R|R
 .simp only[R,jH,iN]
  have r:(((aH ts p.1).2.2.2,(9:Int)):cL).2≠0:=show(9:Int)≠0 by decide
  have u:=ZI (N:=N) (ts:=ts) (y1:=(gR ts pr p,aH ts p.1)) (y31:=(bR ts ((aH ts p.1).2.2.2,9) p.1 pr p.2,(⟨#[]⟩:BA))) (j:=p.1) (pr':=pr) (b:=p.2) r H pr.length 0 N aa aa
  rw[show((0:Nat):Int)=0 from rfl] at u
  simp only[TU r,j0,kI,jH,u,vF r]
  exact⟨_,rfl,vC r l⟩
 simp only[R,j9,jF,rX (p.1+1,p.2) g f,j0]
 rcases eX (cD ts 4 qV (p.1+1)) with A|A
 .have c4':cD ts 4 ⟨#[40]⟩ (p.1+1)=true:=A
  have F:=oE e g ac A
  simp only[A,c4',jH,kP,j9,jF]
  have Z:eV ts qV (p.1+1)= .inr (p.1+1+1):=by simp[eV,A]
  simp only[zG,Z,bI]
  obtain⟨o,k,c⟩:=qFw (N:=N) hEg hEb e f aa M (p.1+1+1,p.2) F t
  simp only[k,j0]
  cases ha:(if cD ts 4 nL (p.1+1+1)then .inr ((p.1+1+1+1,p.2),[]) else yD ts E (ts.length+1) [] (p.1+1+1,p.2):PM (List Int)) with
  |inl z=>
   rw[ha] at c
   obtain⟨r,i,pr',b,hi,G⟩:=c
   simp only[G]
   obtain⟨o2,v,y⟩:=HO (N:=N) (pr:=pr) (pr':=pr') (b:=b) r hi (3,0,0,(aH ts p.1).2.1,o.1) (aH ts p.1).2.2.2
   simp only[v,j0]
   exact⟨_,rfl,y⟩
  |inr q=>
   rw[ha] at c
   have hr':o=(q.2,gR ts pr q.1):=c
   have r:q.1.1<ts.length/\q.1.2.length<=256:=by
    split at ha
    .rename_i hc
     obtain rfl:=Sum.inr.inj ha
     exact⟨oE e F ac hc,t⟩
    obtain⟨U,K,V,S⟩:=YE e M _ _ (p.1+1+1,p.2) q.1 q.2 F t ha
    exact⟨K,S⟩
   simp only[hr']
   obtain⟨o2,v,y⟩:=DF (N:=N) (pr:=pr) (aH ts p.1) (3,0,0,(aH ts p.1).2.1,q.2) q.1 r.1 r.2
   simp only[v,j0]
   exact⟨_,rfl,y⟩
 have c4':cD ts 4 ⟨#[40]⟩ (p.1+1)=false:=A
 simp only[A,c4',j9,jF,kI,jH]
 have u:=Iu (N:=N) (ts:=ts) (pr:=pr) (y1:=(gR ts pr p,aH ts p.1)) (y31:=(gR ts pr (p.1+1,p.2),(aH ts p.1).2.1)) (p:=(p.1+1,p.2)) H pr.length 0 N aa aa
 rw[show((0:Nat):Int)=0 from rfl] at u
 simp only[u,jX,gA]
 cases hi:pr.findIdx? (λx=>decide (x=(aH ts p.1).2.1)) with
 |none=>
  simp only[j0,rA]
  exact⟨_,rfl,vC (show(9:Int)≠0 by decide) g⟩
 |some j=>
  obtain⟨o2,v,y⟩:=DF (N:=N) (pr:=pr) (aH ts p.1) (2,(j:Int),0,⟨#[]⟩,[]) (p.1+1,p.2) g t
  simp only[v,j0]
  exact⟨_,rfl,y⟩
end
section
variable {N:Nat} {ts:List cC} {pr:List BA} {E S:Ps->PM Nat} {d:Int}
variable {r r1 r2 r3 r4:RT->Int->Option (RT×Int)}
theorem Jz{L i:Nat}(h:nR ts L i≠0):(aH ts i).1=4:=by
 apply Decidable.byContradiction
 intro b
 apply h
 unfold nR
 have:opsC.find? (sC ts L i)=none:=by
  rw[List.find?_eq_none]
  intro o _ a
  simp only[sC,jS] at a
  exact b (TO a.1)
 rw[this]
theorem Mo{f:Int×RT->Option ((Int×RT)⊕(Int×RT))}{L:Nat}(A:OkT ts)(H:nS ts S)
  (t:∀p:Ps,p.1<ts.length->p.2.length<=256->∃o,r (gR ts pr p) d=some o/\mL ts pr (S p) o)
  (a1:∀(z:cL) (i:Nat) (pr':List BA) (b:List Ex),z.2≠0->i<ts.length->∃v,r (bR ts z i pr' b) d=some (bR ts z i pr' b,v))
  (y:∀(z:cL) (i:Nat) (pr':List BA) (b:List Ex) (v:Int),z.2≠0->f (v,bR ts z i pr' b)=some (.inr (v,bR ts z i pr' b)))
  {n M x:Nat} {p:Ps} (R:p.1<ts.length) (u:p.2.length<=256) (hM:0<M) (G:L≠1) (e:nR ts L p.1≠0)
  (U:∀(x:Nat) (q:Ps),q.1<ts.length->p.1<q.1->q.2.length<=256->x<q.2.length->∃o,aC f M ((x:Int),gR ts pr q)=some o/\mL ts pr (sT ts L S n x q) (o.2,o.1)):
  ∃o,((r (gR ts pr (p.1+1,p.2)) d).bind λB=>(nD N B.1 (4,0,nR ts L p.1,⟨#[]⟩,[(x:Int),B.2]) (aH ts p.1).2.2.2).bind λD=>aC f M (D.2,D.1))=some o/\mL ts pr (sT ts L S (n+1) x p) (o.2,o.1):=by
 have g:=A.next R (show(aH ts p.1).1≠5 by rw[Jz e];decide)
 obtain⟨o,K,c⟩:=t (p.1+1,p.2) g u
 obtain⟨M',rfl⟩:∃M',M=M'+1:=⟨M-1,by omega⟩
 have bad:∀(z:cL) (i:Nat) (pr':List BA) (b:List Ex) (v:Int),z.2≠0->aC f (M'+1) (v,bR ts z i pr' b)=some (v,bR ts z i pr' b):=by
  intro z i pr' b v a
  simp only[aC,y z i pr' b v a,j0]
 simp only[K,j0,sT]
 rw[jA e]
 cases h:S (p.1+1,p.2) with
 |inl z=>
  rw[h] at c
  obtain⟨a,i,pr',b,hi,l⟩:=c
  simp only[l,bI]
  obtain⟨v,k⟩:=Ke (N:=N) (ts:=ts) (pr:=pr') (b:=b) (i:=i) a (4,0,nR ts L p.1,⟨#[]⟩,[(x:Int),o.2]) (aH ts p.1).2.2.2
  simp only[k,j0,bad _ _ _ _ _ a]
  exact⟨_,rfl,vC a hi⟩
 |inr q=>
  rw[h] at c
  obtain⟨⟨E,a,F,l⟩,f5⟩:=H (p.1+1,p.2) q.1 q.2 g u h
  have hr':o=(gR ts pr q.1,(q.2:Int)):=c
  simp only[hr',bI]
  obtain⟨v,k⟩:=Kl (N:=N) (ts:=ts) (pr:=pr) (aH ts p.1) (4,0,nR ts L p.1,⟨#[]⟩,[(x:Int),(q.2:Int)]) q.1 l
  simp only[k,j0]
  cases hn:nF (aH ts p.1) (4,0,nR ts L p.1,⟨#[]⟩,[(x:Int),(q.2:Int)]) q.1 with
  |inl z=>
   simp only[bad _ _ _ _ _ (ZY hn)]
   exact⟨_,rfl,vC (ZY hn) a⟩
  |inr s=>
   obtain⟨⟨V,Y,k3,Z⟩,k5⟩:=zR (ts:=ts) (p:=p) (r:=q.1) (by simp only at E;omega) a F l hn
   simp only[jA G]
   exact U s.2 s.1 Y V Z k5
theorem Ms{L n x:Nat}{p:Ps}(a:nR ts L p.1=0):mL ts pr (sT ts L S (n+1) x p) (gR ts pr p,(x:Int)):=by
 simp only[sT]
 rw[jB a]
 rfl
theorem ZB(z:cL)(i:Nat)(pr':List BA)(b:List Ex)(v:Int)(c:z.2≠0):xP N r d (v,bR ts z i pr' b)=some (.inr (v,bR ts z i pr' b)):=by
 have a:((bR ts z i pr' b).2.2.2.1==0)=false:=by simpa[bR] using c
 simp only[xP,a,j9,jF,Prod.eta]
theorem Af(z:cL)(i:Nat)(pr':List BA)(b:List Ex)(v:Int)(c:z.2≠0):yU N r d (v,bR ts z i pr' b)=some (.inr (v,bR ts z i pr' b)):=by
 have a:((bR ts z i pr' b).2.2.2.1==0)=false:=by simpa[bR] using c
 simp only[yU,a,j9,jF,Prod.eta]
theorem Ge(B:OkT ts)(k:ts.length<1000000)(D:nS ts S)
  (A:∀p:Ps,p.1<ts.length->p.2.length<=256->∃o,r (gR ts pr p) d=some o/\mL ts pr (S p) o)
  (u:∀(z:cL) (i:Nat) (pr':List BA) (b:List Ex),z.2≠0->i<ts.length->∃v,r (bR ts z i pr' b) d=some (bR ts z i pr' b,v)):
  ∀(n M x:Nat) (p:Ps),p.1<ts.length->p.2.length<=256->x<p.2.length->ts.length<p.1+n->ts.length+1<p.1+M->
  ∃o,aC (xP N r d) M ((x:Int),gR ts pr p)=some o/\mL ts pr (sT ts 3 S n x p) (o.2,o.1)
 |0,M,x,p,c,_,_,h,_=>by omega
 |n+1,0,x,p,c,_,_,_,h=>by omega
 |n+1,M+1,x,p,c,H,Y,V,U=>by
  have t:((gR ts pr p).2.2.2.1==0)=true:=rfl
  have K:∀(x:Nat) (q:Ps),q.1<ts.length->p.1<q.1->q.2.length<=256->x<q.2.length->∃o,aC (xP N r d) M ((x:Int),gR ts pr q)=some o/\mL ts pr (sT ts 3 S n x q) (o.2,o.1):=
   λx q F R a G=>Ge B k D A u n M x q F a G aa aa
  have go:=λE=>Mo (N:=N) (n:=n) (x:=x) B D A u (ZB (N:=N) (r:=r) (d:=d)) c H (show 0<M by omega) (show 3≠1 by decide) E K
  have a:=op_3 (ts:=ts) (i:=p.1)
  rcases eX (cD ts 4 ⟨#[42]⟩ p.1) with e|e
  .simp only[e,jH] at a
   obtain⟨o,l,s⟩:=go (by rw[a];decide)
   refine⟨o,Eq.trans ?_ l,s⟩
   simp only[aC,xP,Prod.eta,t,jH,oG p c,rX p c k,j0,e,a]
   cases r (gR ts pr (p.1+1,p.2)) d with
   |none=>rfl
   |some y=>simp only[j0];cases nD N y.1 (4,0,3,⟨#[]⟩,[(x:Int),y.2]) (aH ts p.1).2.2.2<;>rfl
  rcases eX (cD ts 4 ⟨#[47]⟩ p.1) with f|f
  .simp only[e,f,jH,j9,jF] at a
   obtain⟨o,l,s⟩:=go (by rw[a];decide)
   refine⟨o,Eq.trans ?_ l,s⟩
   simp only[aC,xP,Prod.eta,t,jH,oG p c,rX p c k,j0,e,f,a,j9,jF]
   cases r (gR ts pr (p.1+1,p.2)) d with
   |none=>rfl
   |some y=>simp only[j0];cases nD N y.1 (4,0,4,⟨#[]⟩,[(x:Int),y.2]) (aH ts p.1).2.2.2<;>rfl
  rcases eX (cD ts 4 ⟨#[37]⟩ p.1) with g|g
  .simp only[e,f,g,jH,j9,jF] at a
   obtain⟨o,l,s⟩:=go (by rw[a];decide)
   refine⟨o,Eq.trans ?_ l,s⟩
   simp only[aC,xP,Prod.eta,t,jH,oG p c,rX p c k,j0,e,f,g,a,j9,jF]
   cases r (gR ts pr (p.1+1,p.2)) d with
   |none=>rfl
   |some y=>simp only[j0];cases nD N y.1 (4,0,5,⟨#[]⟩,[(x:Int),y.2]) (aH ts p.1).2.2.2<;>rfl
  simp only[e,f,g,j9,jF] at a
  simp only[aC,xP,Prod.eta,t,jH,oG p c,rX p c k,j0,e,f,g,j9,jF]
  exact⟨_,rfl,Ms a⟩
theorem Gi(s:OkT ts)(g:ts.length<1000000)(B:nS ts S)
  (l:∀p:Ps,p.1<ts.length->p.2.length<=256->∃o,r (gR ts pr p) d=some o/\mL ts pr (S p) o)
  (k:∀(z:cL) (i:Nat) (pr':List BA) (b:List Ex),z.2≠0->i<ts.length->∃v,r (bR ts z i pr' b) d=some (bR ts z i pr' b,v)):
  ∀(n M x:Nat) (p:Ps),p.1<ts.length->p.2.length<=256->x<p.2.length->ts.length<p.1+n->ts.length+1<p.1+M->
  ∃o,aC (yU N r d) M ((x:Int),gR ts pr p)=some o/\mL ts pr (sT ts 2 S n x p) (o.2,o.1)
 |0,M,x,p,c,_,_,h,_=>by omega
 |n+1,0,x,p,c,_,_,_,h=>by omega
 |n+1,M+1,x,p,c,G,V,U,R=>by
  have t:((gR ts pr p).2.2.2.1==0)=true:=rfl
  have H:∀(x:Nat) (q:Ps),q.1<ts.length->p.1<q.1->q.2.length<=256->x<q.2.length->∃o,aC (yU N r d) M ((x:Int),gR ts pr q)=some o/\mL ts pr (sT ts 2 S n x q) (o.2,o.1):=
   λx q E K a F=>Gi s g B l k n M x q E a F aa aa
  have go:=λD=>Mo (N:=N) (n:=n) (x:=x) s B l k (Af (N:=N) (r:=r) (d:=d)) c G (show 0<M by omega) (show 2≠1 by decide) D H
  have a:=op_2 (ts:=ts) (i:=p.1)
  rcases eX (cD ts 4 ⟨#[43]⟩ p.1) with e|e
  .simp only[e,jH] at a
   obtain⟨o,u,A⟩:=go (by rw[a];decide)
   refine⟨o,Eq.trans ?_ u,A⟩
   simp only[aC,yU,Prod.eta,t,jH,oG p c,rX p c g,j0,e,a]
   cases r (gR ts pr (p.1+1,p.2)) d with
   |none=>rfl
   |some y=>simp only[j0];cases nD N y.1 (4,0,1,⟨#[]⟩,[(x:Int),y.2]) (aH ts p.1).2.2.2<;>rfl
  rcases eX (cD ts 4 ⟨#[45]⟩ p.1) with f|f
  .simp only[e,f,jH,j9,jF] at a
   obtain⟨o,u,A⟩:=go (by rw[a];decide)
   refine⟨o,Eq.trans ?_ u,A⟩
   simp only[aC,yU,Prod.eta,t,jH,oG p c,rX p c g,j0,e,f,a,j9,jF]
   cases r (gR ts pr (p.1+1,p.2)) d with
   |none=>rfl
   |some y=>simp only[j0];cases nD N y.1 (4,0,2,⟨#[]⟩,[(x:Int),y.2]) (aH ts p.1).2.2.2<;>rfl
  simp only[e,f,j9,jF] at a
  simp only[aC,yU,Prod.eta,t,jH,oG p c,rX p c g,j0,e,f,j9,jF]
  exact⟨_,rfl,Ms a⟩
theorem qFi(k:OkT ts)(u:ts.length<1000000)(B:1000002<N)(e:nS ts S)
  (c:∀p:Ps,p.1<ts.length->p.2.length<=256->∃o,r1 (gR ts pr p) d=some o/\mL ts pr (S p) o)
  (h1b:∀(z:cL) (i:Nat) (pr':List BA) (b:List Ex),z.2≠0->i<ts.length->∃v,r1 (bR ts z i pr' b) d=some (bR ts z i pr' b,v))
  (p:Ps) (l:p.1<ts.length) (f:p.2.length<=256):∃o,EV N r1 r2 r3 r4 (gR ts pr p) d=some o/\mL ts pr (wD ts 3 S p) o:=by
 obtain⟨o,x,a⟩:=c p l f
 simp only[EV,Prod.eta,x,j0,wD]
 cases h:S p with
 |inl z=>
  rw[h] at a
  obtain⟨n,i,pr',b,hi,g⟩:=a
  obtain⟨M,rfl⟩:∃M,N=M+1:=⟨N-1,by omega⟩
  simp only[g,bI,aC,ZB z i pr' b _ n,j0]
  exact⟨_,rfl,vC n hi⟩
 |inr q=>
  rw[h] at a
  obtain⟨⟨y,r,A,s⟩,t⟩:=e p q.1 q.2 l f h
  have hr':o=(gR ts pr q.1,(q.2:Int)):=a
  obtain⟨o2,g,n⟩:=Ge (N:=N) k u e c h1b (ts.length+1) N q.2 q.1 r s t aa aa
  simp only[hr',bI,g,j0]
  exact⟨_,rfl,n⟩
theorem qCz(h1b:∀(z:cL) (i:Nat) (pr':List BA) (b:List Ex),z.2≠0->i<ts.length->∃v,r1 (bR ts z i pr' b) d=some (bR ts z i pr' b,v))(e:0<N)
  (z:cL) (i:Nat) (pr':List BA) (b:List Ex) (a:z.2≠0) (hi:i<ts.length):∃v,EV N r1 r2 r3 r4 (bR ts z i pr' b) d=some (bR ts z i pr' b,v):=by
 obtain⟨v,c⟩:=h1b z i pr' b a hi
 obtain⟨M,rfl⟩:∃M,N=M+1:=⟨N-1,by omega⟩
 simp only[EV,Prod.eta,c,j0,aC,ZB z i pr' b _ a]
 exact⟨_,rfl⟩
theorem rsum(k:OkT ts)(u:ts.length<1000000)(B:1000002<N)(e:nS ts S)
  (c:∀p:Ps,p.1<ts.length->p.2.length<=256->∃o,r2 (gR ts pr p) d=some o/\mL ts pr (S p) o)
  (h2b:∀(z:cL) (i:Nat) (pr':List BA) (b:List Ex),z.2≠0->i<ts.length->∃v,r2 (bR ts z i pr' b) d=some (bR ts z i pr' b,v))
  (p:Ps) (l:p.1<ts.length) (f:p.2.length<=256):∃o,EY N r1 r2 r3 r4 (gR ts pr p) d=some o/\mL ts pr (wD ts 2 S p) o:=by
 obtain⟨o,x,a⟩:=c p l f
 simp only[EY,Prod.eta,x,j0,wD]
 cases h:S p with
 |inl z=>
  rw[h] at a
  obtain⟨n,i,pr',b,hi,g⟩:=a
  obtain⟨M,rfl⟩:∃M,N=M+1:=⟨N-1,by omega⟩
  simp only[g,bI,aC,Af z i pr' b _ n,j0]
  exact⟨_,rfl,vC n hi⟩
 |inr q=>
  rw[h] at a
  obtain⟨⟨y,r,A,s⟩,t⟩:=e p q.1 q.2 l f h
  have hr':o=(gR ts pr q.1,(q.2:Int)):=a
  obtain⟨o2,g,n⟩:=Gi (N:=N) k u e c h2b (ts.length+1) N q.2 q.1 r s t aa aa
  simp only[hr',bI,g,j0]
  exact⟨_,rfl,n⟩
theorem qDr(h2b:∀(z:cL) (i:Nat) (pr':List BA) (b:List Ex),z.2≠0->i<ts.length->∃v,r2 (bR ts z i pr' b) d=some (bR ts z i pr' b,v))(e:0<N)
  (z:cL) (i:Nat) (pr':List BA) (b:List Ex) (a:z.2≠0) (hi:i<ts.length):∃v,EY N r1 r2 r3 r4 (bR ts z i pr' b) d=some (bR ts z i pr' b,v):=by
 obtain⟨v,c⟩:=h2b z i pr' b a hi
 obtain⟨M,rfl⟩:∃M,N=M+1:=⟨N-1,by omega⟩
 simp only[EY,Prod.eta,c,j0,aC,Af z i pr' b _ a]
 exact⟨_,rfl⟩
theorem qCi(z:cL)(i:Nat)(pr':List BA)(b:List Ex)(a:z.2≠0)(hi:i<ts.length):AO N r1 r2 r3 r4 (bR ts z i pr' b) d=some (bR ts z i pr' b,0):=by
 have c:((bR ts z i pr' b).2.2.2.1 !=0)=true:=by simpa[bR] using a
 simp only[AO,Prod.eta,uN hi,j0,vF a]
 have:((if decide (d>32)then some (bR ts z i pr' b) else some (bR ts z i pr' b)):Option RT)=some (bR ts z i pr' b):=by split<;>rfl
 simp only[this,j0,c,jH]
theorem qBn(c:d>32)(p:Ps)(a:p.1<ts.length):∃o,AO N r1 r2 r3 r4 (gR ts pr p) d=some o/\mL ts pr (iR ts pr 0 p) o:=by
 have hd':decide (d>32)=true:=by simpa using c
 simp only[AO,Prod.eta,oG p a,j0,hd',jH,rA]
 have b:((bR ts ((aH ts p.1).2.2.2,2) p.1 pr p.2).2.2.2.1 !=0)=true:=by rfl
 simp only[b,jH]
 exact⟨_,rfl,vC (show(2:Int)≠0 by decide) a⟩
theorem qFp{k:Nat}(A:OkT ts)(F:ts.length<1000000)(hd:d+k=32)(S:nS ts (iR ts pr k))(hS:nS ts (yI ts pr (iR ts pr k)))
  (H:∀p:Ps,p.1<ts.length->p.2.length<=256->∃o,r4 (gR ts pr p) (wI (d+1))=some o/\mL ts pr (iR ts pr k p) o)
  (u:∀(z:cL) (i:Nat) (pr':List BA) (b:List Ex),z.2≠0->i<ts.length->∃v,r4 (bR ts z i pr' b) (wI (d+1))=some (bR ts z i pr' b,v))
  (Z:∀p:Ps,p.1<ts.length->p.2.length<=256->∃o,r3 (gR ts pr p) d=some o/\mL ts pr (yI ts pr (iR ts pr k) p) o)
  (h3b:∀(z:cL) (i:Nat) (pr':List BA) (b:List Ex),z.2≠0->i<ts.length->∃v,r3 (bR ts z i pr' b) d=some (bR ts z i pr' b,v))
  (p:Ps) (K:p.1<ts.length) (M:p.2.length<=256):∃o,AO N r1 r2 r3 r4 (gR ts pr p) d=some o/\mL ts pr (iR ts pr (k+1) p) o:=by
 have hd':decide (d>32)=false:=jP aa
 have g0:((gR ts pr p).2.2.2.1 !=0)=false:=rfl
 simp only[AO,Prod.eta,oG p K,j0,hd',j9,jF,g0,uA p K F,iR]
 rcases eX (cD ts 1 PK p.1) with s|s
 rotate_left
 .have c1':cD ts 1 ⟨#[105,102]⟩ p.1=false:=s
  simp only[s,c1',j9,jF]
  obtain⟨o,ho,G⟩:=Z p K M
  simp only[ho,j0,MZ,wD]
  cases h:yI ts pr (iR ts pr k) p with
  |inl z=>
   rw[h] at G
   obtain⟨e,i,pr',b,hi,l⟩:=G
   simp only[l,uN hi,TU e,j0,j9,jF,bI]
   exact⟨_,rfl,vC e hi⟩
  |inr q=>
   rw[h] at G
   obtain⟨⟨f1,B,f3,U⟩,f5⟩:=hS p q.1 q.2 K M h
   have hr':o=(gR ts pr q.1,(q.2:Int)):=G
   simp only[hr',oG q.1 B,rX q.1 B F,j0,bI,sT]
   have go:∀op,op≠0->nR ts 1 q.1.1=op->∃o,((r3 (gR ts pr (q.1.1+1,q.1.2)) d).bind λR=>(nD N R.1 (4,0,op,⟨#[]⟩,[(q.2:Int),R.2]) (aH ts q.1.1).2.2.2).bind λY=>some Y)=some o/\
     mL ts pr (if nR ts 1 q.1.1=0 then .inr (q.1,q.2) else bI (yI ts pr (iR ts pr k) (q.1.1+1,q.1.2)) λa=>bI (nF (aH ts q.1.1) (4,0,nR ts 1 q.1.1,⟨#[]⟩,[(q.2:Int),(a.2:Int)]) a.1) λr=> .inr r) o:=by
    intro op n t
    have g:=A.next B (show(aH ts q.1.1).1≠5 by rw[Jz (L:=1) (by rw[t];exact n)];decide)
    obtain⟨o2,E,f⟩:=Z (q.1.1+1,q.1.2) g U
    rw[t,jA n]
    simp only[E,j0,sZ]
    cases h2:yI ts pr (iR ts pr k) (q.1.1+1,q.1.2) with
    |inl z=>
     rw[h2] at f
     obtain⟨e,i,pr',b,hi,l⟩:=f
     simp only[l,bI]
     exact HO e hi _ _
    |inr a=>
     rw[h2] at f
     obtain⟨⟨j1,j2,j3,j4⟩,j5⟩:=hS (q.1.1+1,q.1.2) a.1 a.2 g U h2
     have hr2':o2=(gR ts pr a.1,(a.2:Int)):=f
     simp only[hr2',bI]
     obtain⟨o3,V,D⟩:=DF (N:=N) (pr:=pr) (aH ts q.1.1) (4,0,op,⟨#[]⟩,[(q.2:Int),(a.2:Int)]) a.1 j2 j4
     refine⟨o3,V,?_⟩
     cases hn:nF (aH ts q.1.1) (4,0,op,⟨#[]⟩,[(q.2:Int),(a.2:Int)]) a.1<;>rw[hn] at D<;>exact D
   have t:=op_1 (ts:=ts) (i:=q.1.1)
   rcases eX (cD ts 4 ⟨#[60]⟩ q.1.1) with f|f
   .simp only[f,jH] at t
    obtain⟨o4,D,E⟩:=go 6 ac t
    simp only[f,jH,j0]
    exact⟨o4,D,by simpa only[bI] using E⟩
   rcases eX (cD ts 4 ⟨#[61,61]⟩ q.1.1) with n|n
   .simp only[f,n,jH,j9,jF] at t
    obtain⟨o4,D,E⟩:=go 7 ac t
    simp only[f,n,jH,j0,j9,jF,rX q.1 B F]
    exact⟨o4,D,by simpa only[bI] using E⟩
   simp only[f,n,j9,jF] at t
   simp only[f,n,j0,j9,jF,rX q.1 B F]
   rw[jB t]
   exact⟨_,rfl,rfl⟩
 have c1':cD ts 1 ⟨#[105,102]⟩ p.1=true:=s
 have g:=oE A K ac s
 simp only[s,c1',jH]
 -- behind an error
 have badN:∀{z:cL} {i:Nat} {pr':List BA} {b:List Ex} (x y w:Int),z.2≠0->i<ts.length->∃o,((nD N (bR ts z i pr' b) (5,0,0,⟨#[]⟩,[x,y,w]) (aH ts p.1).2.2.2).bind λb6=>some b6)=some o/\mL ts pr (.inl z) o:=by
  intro z i pr' b x y w e hi
  simp only[sZ]
  exact HO e hi _ _
 have nf:∀b:Bool,(if(!b)then(0:Nat) else 1)=if b then 1 else 0:=by intro b;cases b<;>rfl
 obtain⟨oa,a7,B⟩:=H (p.1+1,p.2) g M
 simp only[a7,j0]
 cases ha:iR ts pr k (p.1+1,p.2) with
 |inl z=>
  rw[ha] at B
  obtain⟨e,i,pr',b,hi,l⟩:=B
  obtain⟨v,t⟩:=u z i pr' b e hi
  simp only[l,Ac e,j0,kI,jH,uN hi,vF e,t,bI]
  exact badN _ _ _ e hi
 |inr a=>
  rw[ha] at B
  obtain⟨⟨a1,E,a3,R⟩,a5⟩:=S (p.1+1,p.2) a.1 a.2 g M ha
  have hra':oa=(gR ts pr a.1,(a.2:Int)):=B
  have b0:vJ ts OF a.1.1=if cD ts 1 ⟨#[116,104,101,110]⟩ a.1.1 then .inr (a.1.1+1) else iN (aH ts a.1.1) 9:=rfl
  simp only[hra',uA a.1 E F,j0,bI,b0]
  rcases eX (cD ts 1 ⟨#[116,104,101,110]⟩ a.1.1) with f|f
  rotate_left
  .have e:(((aH ts a.1.1).2.2.2,(9:Int)):cL).2≠0:=show(9:Int)≠0 by decide
   obtain⟨v,t⟩:=u ((aH ts a.1.1).2.2.2,9) a.1.1 pr a.1.2 e E
   simp only[f,j9,jF,kI,jH,oG a.1 E,rA,j0,t,Ac e,uN E,vF e,iN]
   exact badN _ _ _ e E
  have V:=oE A E ac f
  obtain⟨ob,a8,D⟩:=H (a.1.1+1,a.1.2) V R
  simp only[f,jH,kP,j9,jF,j0,a8]
  cases hb1:iR ts pr k (a.1.1+1,a.1.2) with
  |inl z=>
   rw[hb1] at D
   obtain⟨e,i,pr',b,hi,l⟩:=D
   obtain⟨v,t⟩:=u z i pr' b e hi
   simp only[l,Ac e,j0,kI,jH,uN hi,vF e,t]
   exact badN _ _ _ e hi
  |inr b=>
   rw[hb1] at D
   obtain⟨⟨b1,G,b3,U⟩,b5⟩:=S (a.1.1+1,a.1.2) b.1 b.2 V R hb1
   have hrb':ob=(gR ts pr b.1,(b.2:Int)):=D
   have a6:vJ ts OE b.1.1=if cD ts 1 ⟨#[101,108,115,101]⟩ b.1.1 then .inr (b.1.1+1) else iN (aH ts b.1.1) 9:=rfl
   simp only[hrb',uA b.1 G F,j0,a6]
   rcases eX (cD ts 1 ⟨#[101,108,115,101]⟩ b.1.1) with n|n
   rotate_left
   .have e:(((aH ts b.1.1).2.2.2,(9:Int)):cL).2≠0:=show(9:Int)≠0 by decide
    obtain⟨v,t⟩:=u ((aH ts b.1.1).2.2.2,9) b.1.1 pr b.1.2 e G
    simp only[n,j9,jF,kI,jH,oG b.1 G,rA,j0,t,iN]
    exact badN _ _ _ e G
   have Y:=oE A G ac n
   obtain⟨oc,a9,t⟩:=H (b.1.1+1,b.1.2) Y U
   simp only[n,jH,kP,j9,jF,j0,a9]
   cases hc1:iR ts pr k (b.1.1+1,b.1.2) with
   |inl z=>
    rw[hc1] at t
    obtain⟨e,i,pr',b',hi,l⟩:=t
    simp only[l]
    exact badN _ _ _ e hi
   |inr c=>
    rw[hc1] at t
    obtain⟨⟨s,f,n,e⟩,l⟩:=S (b.1.1+1,b.1.2) c.1 c.2 Y U hc1
    have hrc':oc=(gR ts pr c.1,(c.2:Int)):=t
    simp only[hrc',sZ]
    exact DF (N:=N) (pr:=pr) (aH ts p.1) (5,0,0,⟨#[]⟩,[(a.2:Int),(b.2:Int),(c.2:Int)]) c.1 f e
theorem ZJ(D:Nat)(c:1<=D)(d:Int)(z:cL)(i:Nat)(pr':List BA)(b:List Ex)(a:z.2≠0)(hi:i<ts.length):∃v,(mJ N D).2.2.2 (bR ts z i pr' b) d=some (bR ts z i pr' b,v):=by
 obtain⟨D',rfl⟩:∃D',D=D'+1:=⟨D-1,by omega⟩
 simp only[mJ]
 exact⟨_,qCi z i pr' b a hi⟩
theorem Ft(D:Nat)(c:1<=D)(d:Int)(z:cL)(i:Nat)(pr':List BA)(b:List Ex)(a:z.2≠0)(hi:i<ts.length):∃v,(mJ N D).1 (bR ts z i pr' b) d=some (bR ts z i pr' b,v):=by
 obtain⟨D',rfl⟩:∃D',D=D'+1:=⟨D-1,by omega⟩
 simp only[mJ]
 exact⟨_,Xl a hi⟩
theorem Iz(c:0<N)(D:Nat)(e:2<=D)(d:Int)(z:cL)(i:Nat)(pr':List BA)(b:List Ex)(a:z.2≠0)(hi:i<ts.length):∃v,(mJ N D).2.1 (bR ts z i pr' b) d=some (bR ts z i pr' b,v):=by
 obtain⟨D',rfl⟩:∃D',D=D'+1:=⟨D-1,by omega⟩
 simp only[mJ]
 exact qCz (λz i pr' b a hi=>Ft D' aa d z i pr' b a hi) c z i pr' b a hi
theorem qBi(c:0<N)(D:Nat)(e:3<=D)(d:Int)(z:cL)(i:Nat)(pr':List BA)(b:List Ex)(a:z.2≠0)(hi:i<ts.length):∃v,(mJ N D).2.2.1 (bR ts z i pr' b) d=some (bR ts z i pr' b,v):=by
 obtain⟨D',rfl⟩:∃D',D=D'+1:=⟨D-1,by omega⟩
 simp only[mJ]
 exact qDr (λz i pr' b a hi=>Iz c D' aa d z i pr' b a hi) c z i pr' b a hi
theorem Ll(a:OkT ts)(g:ts.length<1000000)(n:pr.length<1000)(l:1000002<N):∀(k D:Nat),k<=32->4*k+1<=D->∀p:Ps,p.1<ts.length->p.2.length<=256->
  ∃o,(mJ N D).2.2.2 (gR ts pr p) (33-(k:Int))=some o/\mL ts pr (iR ts pr k p) o
 |0,0,_,h,_,_,_=>by omega
 |0,D+1,_,_,p,c,_=>by simp only[mJ];exact qBn aa p c
 |k+1,D,A,f,p,c,d=>by
  have q:=zK (ts:=ts) (params:=pr) a k
  have s:=XI (params:=pr) a q
  have t:nS ts (OG ts pr (iR ts pr k)):=DB a s
  have y:nS ts (yI ts pr (iR ts pr k)):=DB a t
  have r:∀D,4*k+1<=D->∀p:Ps,p.1<ts.length->p.2.length<=256->∃o,(mJ N D).2.2.2 (gR ts pr p) (wI (32-(k:Int)+1))=some o/\mL ts pr (iR ts pr k p) o:=by
   intro D f p c d
   rw[bP aa aa,show 32-(k:Int)+1=33-(k:Int) by omega]
   exact Ll a g n l k D aa f p c d
  have u:∀D,4*k+2<=D->∀p:Ps,p.1<ts.length->p.2.length<=256->∃o,(mJ N D).1 (gR ts pr p) (32-(k:Int))=some o/\mL ts pr (wC ts pr (iR ts pr k) p) o:=by
   intro D f p c d
   obtain⟨D',rfl⟩:∃D',D=D'+1:=⟨D-1,by omega⟩
   simp only[mJ]
   exact qCn (r D' aa) (λz i pr' b e hi=>ZJ D' aa _ z i pr' b e hi) a g n l q p c d
  have v:∀D,4*k+3<=D->∀p:Ps,p.1<ts.length->p.2.length<=256->∃o,(mJ N D).2.1 (gR ts pr p) (32-(k:Int))=some o/\mL ts pr (OG ts pr (iR ts pr k) p) o:=by
   intro D f p c d
   obtain⟨D',rfl⟩:∃D',D=D'+1:=⟨D-1,by omega⟩
   simp only[mJ]
   exact qFi a g l s (u D' aa) (λz i pr' b e hi=>Ft D' aa _ z i pr' b e hi) p c d
  have x:∀D,4*k+4<=D->∀p:Ps,p.1<ts.length->p.2.length<=256->∃o,(mJ N D).2.2.1 (gR ts pr p) (32-(k:Int))=some o/\mL ts pr (yI ts pr (iR ts pr k) p) o:=by
   intro D f p c d
   obtain⟨D',rfl⟩:∃D',D=D'+1:=⟨D-1,by omega⟩
   simp only[mJ]
   exact rsum a g l t (v D' aa) (λz i pr' b e hi=>Iz aa D' aa _ z i pr' b e hi) p c d
  obtain⟨D',rfl⟩:∃D',D=D'+1:=⟨D-1,by omega⟩
  rw[show(33:Int)-((k+1:Nat):Int)=32-(k:Int) by omega]
  simp only[mJ]
  exact qFp a g aa q y (r D' aa) (λz i pr' b e hi=>ZJ D' aa _ z i pr' b e hi) (x D' aa) (λz i pr' b e hi=>qBi aa D' aa _ z i pr' b e hi) p c d
theorem Zh(a:OkT ts)(e:ts.length<1000000)(b:pr.length<1000)(c:1000002<N)(p:Ps)(f:p.1<ts.length)(d:p.2.length<=256):
 ∃o,AQ N (gR ts pr p) 1=some o/\mL ts pr (iR ts pr 32 p) o:=Ll a e b c 32 N aa aa p f d
theorem YB(a:1<=N)(z:cL)(i:Nat)(pr':List BA)(b:List Ex)(c:z.2≠0)(hi:i<ts.length):∃v,AQ N (bR ts z i pr' b) 1=some (bR ts z i pr' b,v):=ZJ N a 1 z i pr' b c hi
abbrev RL:=List cC×Int×Int×Int×List BA×List Ex×List Int×List BA
def cA(st:RT)(l:List BA):RL:=(st.1,st.2.1,st.2.2.1,st.2.2.2.1,st.2.2.2.2.1,st.2.2.2.2.2.1,st.2.2.2.2.2.2,l)
def NY(ts:List cC)(n:Nat)(l:List BA)(i:Nat):cL⊕(Nat×List BA):=
 if cD ts 4 tJ i then wX ts n l (i+1) else bI (eV ts nL i) λj=> .inr (j,l)
theorem Wv(n:Nat)(l:List BA)(i:Nat):wX ts (n+1) l i=bI (oI ts i) λa=>if l.length=8 then iN a.2 2 else if a.2.2.1∈l then iN a.2 10 else NY ts n (l++[a.2.2.1]) a.1:=rfl
def IN(ts:List cC)(pr:List BA)(b:List Ex)(r:cL⊕(Nat×List BA))(o:RL):Prop:=
 match r with
 | .inl z=>∃st l,wL ts z st/\o=cA st l
 | .inr q=>o=cA (gR ts pr (q.1,b)) q.2
theorem MK{z:cL}{i:Nat}{pr':List BA}{b:List Ex}(a:z.2≠0)(M:Nat)(l:List BA):aC (qT N) (M+1) (cA (bR ts z i pr' b) l)=some (cA (bR ts z i pr' b) l):=by
 have hz':((cA (bR ts z i pr' b) l).2.2.2.1==0)=false:=by simpa[bR,cA] using a
 simp only[aC,qT,hz',j9,jF,j0]
theorem Fv(A:ts.length<1000000)(E:1000002<N){i:Nat}{b:List Ex}{l:List BA}(hi:i<ts.length)(D:l.length<=8){G:RL->Option RL}{n:Nat}
  (f:∀(z:cL) (i:Nat) (pr':List BA) (b:List Ex) (l:List BA),z.2≠0->G (cA (bR ts z i pr' b) l)=some (cA (bR ts z i pr' b) l))
  (u:OkT ts)
  (B:∀(s:BA),i+1<ts.length->l.length<8->∃o,G (cA (gR ts pr (i+1,b)) (l++[s]))=some o/\IN ts pr b (NY ts n (l++[s]) (i+1)) o):
  ∃o,((mC N (gR ts pr (i,b))).bind λk=>(qF N k.1).bind λd=>(if((l.length:Int)==8)then((mM N d.1 k.2.2.2.2 2).bind λv=>some v) else(some d.1):Option RT).bind λr=>(uW N l d.2).bind λp=>(if p then((mM N r k.2.2.2.2 10).bind λy=>some y) else(some r):Option RT).bind λh=>(iK 16 l ([d.2])).bind λt=>G (cA h t))=some o/\
   IN ts pr b (wX ts (n+1) l i) o:=by
 rw[Wv]
 simp only[oG (i,b) hi,j0,HW (i,b) hi A (by omega:100<N),sZ]
 have c:∀s:BA,iK 16 l [s]=some (l++[s]):=λs=>lQ af aa
 have g:∀s,uW N l s=some (decide (s∈l)):=λs=>Bi aa aa
 -- behind an error
 have q:∀(z:cL) (i:Nat) (pr':List BA) (b':List Ex) (s:BA) (a:Int),z.2≠0->i<ts.length->∃o,((uW N l s).bind λp=>(if p then mM N (bR ts z i pr' b') a 10 else(some (bR ts z i pr' b')):Option RT).bind λh=>(iK 16 l ([s])).bind λt=>G (cA h t))=some o/\IN ts pr b (.inl z) o:=by
  intro z i pr' b' s a e hi
  simp only[g,j0,vF e]
  have:((if decide (s∈l)then some (bR ts z i pr' b') else some (bR ts z i pr' b')):Option RT)=some (bR ts z i pr' b'):=by split<;>rfl
  simp only[this,j0,c,f _ _ _ _ _ e]
  exact⟨_,rfl,bR ts z i pr' b',_,⟨e,i,pr',b',hi,rfl⟩,rfl⟩
 cases hx:oI ts i with
 |inl z=>
  have e:=UE hx
  have:((if((l.length:Int)==8)then mM N (bR ts z i pr b) (aH ts i).2.2.2 2 else some (bR ts z i pr b)):Option RT)=some (bR ts z i pr b):=by
   rw[vF e];split<;>rfl
  simp only[this,j0,bI]
  exact q z i pr b _ _ e hi
 |inr x=>
  obtain⟨rfl,e,-⟩:=vX u hi hx
  simp only[bI]
  by_cases k1:l.length=8
  .have k1':((l.length:Int)==8)=true:=by simp;omega
   rw[jB k1]
   simp only[k1',jH,rA,j0,iN]
   exact q _ _ _ _ _ _ (show(2:Int)≠0 by decide) e
  have k1':((l.length:Int)==8)=false:=by simp;omega
  rw[jA k1]
  simp only[k1',j9,jF,j0,g]
  by_cases k2:(aH ts i).2.1∈l
  .rw[jB k2]
   simp only[jI k2,jH,rA,j0,c,iN]
   refine⟨_,f _ _ _ _ _ (show(10:Int)≠0 by decide),bR ts ((aH ts i).2.2.2,10) (i+1) pr b,_,⟨show(10:Int)≠0 by decide,i+1,pr,b,e,rfl⟩,rfl⟩
  rw[jA k2]
  simp only[jP k2,j9,jF,j0,c]
  exact B _ e aa
theorem Uy(x:1000002<N){b:List Ex}{l:List BA}(v:l.length<=8){G:RL->Option RL}
  (g:∀(z:cL) (i:Nat) (pr':List BA) (b:List Ex) (l:List BA),z.2≠0->G (cA (bR ts z i pr' b) l)=some (cA (bR ts z i pr' b) l))
  {z:cL} {i:Nat} {pr':List BA} {b':List Ex} (d:z.2≠0) (hi:i<ts.length):
  ∃o,((mC N (bR ts z i pr' b')).bind λc=>(qF N c.1).bind λa=>(if((l.length:Int)==8)then((mM N a.1 c.2.2.2.2 2).bind λn=>some n) else(some a.1):Option RT).bind λe=>(uW N l a.2).bind λp=>(if p then((mM N e c.2.2.2.2 10).bind λq=>some q) else(some e):Option RT).bind λk=>(iK 16 l ([a.2])).bind λu=>G (cA k u))=some o/\
   IN ts pr b (.inl z) o:=by
 have f:∀s:BA,iK 16 l [s]=some (l++[s]):=λs=>lQ af aa
 have h:∀s,uW N l s=some (decide (s∈l)):=λs=>Bi aa aa
 have r:((if((l.length:Int)==8)then some (bR ts z i pr' b') else some (bR ts z i pr' b')):Option RT)=some (bR ts z i pr' b'):=by split<;>rfl
 have t:((if decide ((⟨#[]⟩:BA)∈l)then some (bR ts z i pr' b') else some (bR ts z i pr' b')):Option RT)=some (bR ts z i pr' b'):=by split<;>rfl
 simp only[uN hi,j0,UC d hi,sZ,vF d,r,h,t,f,g _ _ _ _ _ d]
 exact⟨_,rfl,bR ts z i pr' b',_,⟨d,i,pr',b',hi,rfl⟩,rfl⟩
theorem Dr(d:OkT ts)(e:ts.length<1000000)(k:1000002<N){b:List Ex}:∀(n M:Nat) (l:List BA) (i:Nat),l≠[]->i<ts.length->l.length<=8->ts.length<i+n->ts.length+2<i+M->
  ∃o,aC (qT N) M (cA (gR ts pr (i,b)) l)=some o/\IN ts pr b (NY ts n l i) o
 |0,M,l,i,_,hi,_,h,_=>by omega
 |n+1,0,l,i,_,hi,_,_,h=>by omega
 |n+1,M+1,l,i,v,hi,f,H,F=>by
  have D:=rX (N:=N) (pr:=pr) (i,b) hi e ⟨#[41]⟩
  have q:decide ((l.length:Int)>0)=true:=by
   have:=fM.2 v
   exact jI aa
  have A:((cA (gR ts pr (i,b)) l).2.2.2.1==0)=true:=rfl
  have x:∀st:RT,∀l,((cA st l).1,(cA st l).2.1,(cA st l).2.2.1,(cA st l).2.2.2.1,(cA st l).2.2.2.2.1,(cA st l).2.2.2.2.2.1,(cA st l).2.2.2.2.2.2.1)=st:=λ_ _=>rfl
  have y:∀st:RT,∀l,(cA st l).2.2.2.2.2.2.2=l:=λ_ _=>rfl
  simp only[aC,qT,A,jH,x,y,D,j0,q]
  rcases eX (cD ts 4 ⟨#[41]⟩ i) with a|a
  .simp only[a,jH,kP,j9,jF]
   refine⟨_,rfl,?_⟩
   have c:cD ts 4 tJ i=false:=by
    simp only[cD,jS,j6] at a
    simp[cD,a.2,tJ]
   have p:eV ts nL i= .inr (i+1):=by simp[eV,nL,a]
   simp only[NY,c,j9,jF,p,bI]
   rfl
  have u:cD ts 4 tJ i=cD ts 4 ⟨#[44]⟩ i:=rfl
  simp only[a,j9,jF,kI,jH,Prod.eta,vE (i,b) hi e,j0,NY,u,eV]
  rcases eX (cD ts 4 ⟨#[44]⟩ i) with c|c
  .have g:=oE d hi ac c
   simp only[c,jH]
   obtain⟨o,p,r⟩:=Fv (N:=N) (pr:=pr) (b:=b) (l:=l) (n:=n) (G:=aC (qT N) M) e k g f (λz i pr' b l t=>by
    obtain⟨M',rfl⟩:∃M',M=M'+1:=⟨M-1,by omega⟩
    exact MK t M' l) d (λs B E=>Dr d e k n M (l++[s]) (i+1+1) ae B aj aa aa)
   refine⟨o,Eq.trans ?_ p,r⟩
   simp only[fA,j0]
   rfl
  have c1':cD ts 4 nL i=false:=a
  simp only[c,c1',j9,jF,iN,bI]
  obtain⟨o,p,r⟩:=Uy (N:=N) (pr:=pr) (b:=b) (l:=l) (z:=((aH ts i).2.2.2,9)) (i:=i) (pr':=pr) (b':=b) (G:=aC (qT N) M) k f (λz i pr' b l t=>by
   obtain⟨M',rfl⟩:∃M',M=M'+1:=⟨M-1,by omega⟩
   exact MK t M' l) (show(9:Int)≠0 by decide) hi
  refine⟨o,Eq.trans ?_ p,r⟩
  simp only[fA,j0]
  rfl
theorem qBy(a:OkT ts)(d:ts.length<1000000)(x:1000005<N){b:List Ex}(i:Nat)(hi:i<ts.length):
  ∃o,aC (qT N) N (cA (gR ts pr (i,b)) [])=some o/\IN ts pr b (if cD ts 4 nL i then .inr (i+1,[]) else wX ts (ts.length+1) [] i) o:=by
 obtain⟨M,hM⟩:∃M,N=M+1:=⟨N-1,by omega⟩
 have t:=rX (N:=N) (pr:=pr) (i,b) hi d ⟨#[41]⟩
 have k:((cA (gR ts pr (i,b)) []).2.2.2.1==0)=true:=rfl
 have e:decide ((([]:List BA).length:Int)>0)=false:=rfl
 have g:∀st:RT,∀l,((cA st l).1,(cA st l).2.1,(cA st l).2.2.1,(cA st l).2.2.2.1,(cA st l).2.2.2.2.1,(cA st l).2.2.2.2.2.1,(cA st l).2.2.2.2.2.2.1)=st:=λ_ _=>rfl
 have h:∀st:RT,∀l,(cA st l).2.2.2.2.2.2.2=l:=λ_ _=>rfl
 have f:aC (qT N) N (cA (gR ts pr (i,b)) [])=aC (qT N) (M+1) (cA (gR ts pr (i,b)) []):=by rw[<-hM]
 rw[f]
 simp only[aC,qT,k,jH,g,h,t,j0,e,nL]
 rcases eX (cD ts 4 ⟨#[41]⟩ i) with c|c
 .simp only[c,jH,kP,j9,jF]
  exact⟨_,rfl,rfl⟩
 simp only[c,j9,jF,kI,jH,Prod.eta,j0]
 obtain⟨o,q,r⟩:=Fv (N:=N) (pr:=pr) (b:=b) (l:=[]) (n:=ts.length) (G:=aC (qT N) M) d aa hi ae (λz i pr' b l u=>by
  obtain⟨M',rfl⟩:∃M',M=M'+1:=⟨M-1,by omega⟩
  exact MK u M' l) a (λs p v=>Dr a d aa ts.length M ([]++[s]) (i+1) ae p ae aa aa)
 refine⟨o,Eq.trans ?_ q,r⟩
 simp only[fA,j0]
 rfl
def OH(ts:List cC)(r:cL⊕(Nat×Dl))(o:RT×Dl):Prop:=
 match r with
 | .inl z=>wL ts z o.1
 | .inr a=>o=(gR ts a.2.2.2.1 (a.1,a.2.2.2.2),a.2)
def xY(N:Nat)(st:RT)(k:Int)(nm:BA):Option (RT×Dl):=
 ((if(k==1)then((lZ N st (⟨#[40]⟩:BA)).bind λa=>aC (qT N) N (cA a [])) else(some (cA st [])):Option RL)).bind λa=>
 (lZ N (a.1,a.2.1,a.2.2.1,a.2.2.2.1,a.2.2.2.2.2.2.2,a.2.2.2.2.2.1,a.2.2.2.2.2.2.1) (⟨#[61]⟩:BA)).bind λb=>
 (AQ N b 1).bind λb=>(lZ N b.1 (⟨#[59]⟩:BA)).bind λb=>some (b,(k,nm,a.2.2.2.2.2.2.2,b.2.2.2.2.2.1))
theorem YL(h:1000005<N){z:cL}{i:Nat}{b:List Ex}(a:z.2≠0)(hi:i<ts.length)(k:Int)(nm:BA):∃o,xY N (bR ts z i pr b) k nm=some o/\wL ts z o.1:=by
 have tail:∀(i:Nat) (pr:List BA) (b:List Ex) (l:List BA),i<ts.length->∃o,((lZ N ((cA (bR ts z i pr b) l).1,(cA (bR ts z i pr b) l).2.1,(cA (bR ts z i pr b) l).2.2.1,(cA (bR ts z i pr b) l).2.2.2.1,(cA (bR ts z i pr b) l).2.2.2.2.2.2.2,(cA (bR ts z i pr b) l).2.2.2.2.2.1,(cA (bR ts z i pr b) l).2.2.2.2.2.2.1) (⟨#[61]⟩:BA)).bind λf=>
   (AQ N f 1).bind λg=>(lZ N g.1 (⟨#[59]⟩:BA)).bind λd=>some (d,(k,nm,(cA (bR ts z i pr b) l).2.2.2.2.2.2.2,d.2.2.2.2.2.1)))=some o/\wL ts z o.1:=by
  intro i pr b l hi
  have e:((cA (bR ts z i pr b) l).1,(cA (bR ts z i pr b) l).2.1,(cA (bR ts z i pr b) l).2.2.1,(cA (bR ts z i pr b) l).2.2.2.1,(cA (bR ts z i pr b) l).2.2.2.2.2.2.2,(cA (bR ts z i pr b) l).2.2.2.2.2.1,(cA (bR ts z i pr b) l).2.2.2.2.2.2.1)=bR ts z i l b:=rfl
  obtain⟨v,d⟩:=YB (N:=N) aa z i l b a hi
  simp only[e,uJ a hi,j0,d]
  exact⟨_,rfl,a,i,l,b,hi,rfl⟩
 obtain⟨M,hM⟩:∃M,N=M+1:=⟨N-1,by omega⟩
 have g:aC (qT N) N (cA (bR ts z i pr b) [])=some (cA (bR ts z i pr b) []):=by
  have d:aC (qT N) N (cA (bR ts z i pr b) [])=aC (qT N) (M+1) (cA (bR ts z i pr b) []):=by rw[<-hM]
  rw[d];exact MK a M []
 unfold xY
 rcases eX (k==1) with c|c
 .simp only[c,jH,uJ a hi,j0,g]
  exact tail i pr b [] hi
 simp only[c,j9,jF,j0]
 exact tail i pr b [] hi
theorem Xr(d:OkT ts)(h:ts.length<1000000)(x:1000005<N)(i:Nat)(hi:i<ts.length)(k:Int)(nm:BA):∃o,xY N (gR ts pr (i,[])) k nm=some o/\
  OH ts (bI (if k=1 then uX ts i else .inr (i,[])) λbq=>bI (eV ts CF bq.1) λj=>bI (iR ts bq.2 32 (j,[])) λc=>bI (eV ts uP c.1.1) λm=> .inr (m,(k,nm,bq.2,c.1.2))) o:=by
 have badt:∀(z:cL) (st:RT) (l:List BA),wL ts z st->∃o,((lZ N ((cA st l).1,(cA st l).2.1,(cA st l).2.2.1,(cA st l).2.2.2.1,(cA st l).2.2.2.2.2.2.2,(cA st l).2.2.2.2.2.1,(cA st l).2.2.2.2.2.2.1) (⟨#[61]⟩:BA)).bind λn=>
   (AQ N n 1).bind λg=>(lZ N g.1 (⟨#[59]⟩:BA)).bind λf=>some (f,(k,nm,(cA st l).2.2.2.2.2.2.2,f.2.2.2.2.2.1)))=some o/\wL ts z o.1:=by
  rintro z st l ⟨a,i,pr,b,hi,rfl⟩
  have e:((cA (bR ts z i pr b) l).1,(cA (bR ts z i pr b) l).2.1,(cA (bR ts z i pr b) l).2.2.1,(cA (bR ts z i pr b) l).2.2.2.1,(cA (bR ts z i pr b) l).2.2.2.2.2.2.2,(cA (bR ts z i pr b) l).2.2.2.2.2.1,(cA (bR ts z i pr b) l).2.2.2.2.2.2.1)=bR ts z i l b:=rfl
  obtain⟨v,p⟩:=YB (N:=N) aa z i l b a hi
  simp only[e,uJ a hi,j0,p]
  exact⟨_,rfl,a,i,l,b,hi,rfl⟩
 have goodt:∀(q:Nat×List BA),q.1<ts.length->q.2.length<=8->∃o,((lZ N ((cA (gR ts pr (q.1,[])) q.2).1,(cA (gR ts pr (q.1,[])) q.2).2.1,(cA (gR ts pr (q.1,[])) q.2).2.2.1,(cA (gR ts pr (q.1,[])) q.2).2.2.2.1,(cA (gR ts pr (q.1,[])) q.2).2.2.2.2.2.2.2,(cA (gR ts pr (q.1,[])) q.2).2.2.2.2.2.1,(cA (gR ts pr (q.1,[])) q.2).2.2.2.2.2.2.1) (⟨#[61]⟩:BA)).bind λn=>
   (AQ N n 1).bind λg=>(lZ N g.1 (⟨#[59]⟩:BA)).bind λf=>some (f,(k,nm,(cA (gR ts pr (q.1,[])) q.2).2.2.2.2.2.2.2,f.2.2.2.2.2.1)))=some o/\
   OH ts (bI (eV ts CF q.1) λj=>bI (iR ts q.2 32 (j,[])) λc=>bI (eV ts uP c.1.1) λm=> .inr (m,(k,nm,q.2,c.1.2))) o:=by
  intro q g A
  have e:((cA (gR ts pr (q.1,[])) q.2).1,(cA (gR ts pr (q.1,[])) q.2).2.1,(cA (gR ts pr (q.1,[])) q.2).2.2.1,(cA (gR ts pr (q.1,[])) q.2).2.2.2.1,(cA (gR ts pr (q.1,[])) q.2).2.2.2.2.2.2.2,(cA (gR ts pr (q.1,[])) q.2).2.2.2.2.2.1,(cA (gR ts pr (q.1,[])) q.2).2.2.2.2.2.2.1)=gR ts q.2 (q.1,[]):=rfl
  have u:(cA (gR ts pr (q.1,[])) q.2).2.2.2.2.2.2.2=q.2:=rfl
  rw[e]
  simp only[u,vE (q.1,[]) g h,j0,CF]
  cases hj:eV ts ⟨#[61]⟩ q.1 with
  |inl z=>
   have a:=uB hj
   obtain⟨v,p⟩:=YB (N:=N) aa z q.1 q.2 [] a g
   simp only[p,j0,uJ a g,bI]
   exact⟨_,rfl,a,q.1,q.2,[],g,rfl⟩
  |inr j=>
   obtain⟨rfl,r,-⟩:=oF d g hj
   obtain⟨o,s,f⟩:=Zh (N:=N) (pr:=q.2) d h aa aa (q.1+1,[]) r ae
   simp only[s,j0,bI]
   cases hc:iR ts q.2 32 (q.1+1,[]) with
   |inl z=>
    rw[hc] at f
    obtain⟨a,i,pr',b,hi,p⟩:=f
    simp only[p,uJ a hi,j0]
    exact⟨_,rfl,a,i,pr',b,hi,rfl⟩
   |inr c=>
    rw[hc] at f
    obtain⟨⟨B,p,t,D⟩,-⟩:=zK d 32 (q.1+1,[]) c.1 c.2 r ae hc
    have hr':o=(gR ts q.2 c.1,(c.2:Int)):=f
    simp only[hr',vE c.1 p h,j0,uP]
    cases y:eV ts ⟨#[59]⟩ c.1.1 with
    |inl z=>exact⟨_,rfl,uB y,c.1.1,q.2,c.1.2,p,rfl⟩
    |inr m=>exact⟨_,rfl,rfl⟩
 unfold xY
 by_cases c:k=1
 .have c':(k==1)=true:=by simpa using c
  simp only[c',jH,vE (i,[]) hi h,j0,jB c,uX,qV]
  cases h1:eV ts ⟨#[40]⟩ i with
  |inl z=>
   have a:=uB h1
   obtain⟨M,hM⟩:∃M,N=M+1:=⟨N-1,by omega⟩
   have u:aC (qT N) N (cA (bR ts z i pr []) [])=some (cA (bR ts z i pr []) []):=by
    have r:aC (qT N) N (cA (bR ts z i pr []) [])=aC (qT N) (M+1) (cA (bR ts z i pr []) []):=by rw[<-hM]
    rw[r];exact MK a M []
   simp only[u,j0,bI]
   exact badt z _ [] ⟨a,i,pr,[],hi,rfl⟩
  |inr j=>
   obtain⟨rfl,a,-⟩:=oF d hi h1
   obtain⟨o,s,f⟩:=qBy (N:=N) (pr:=pr) (b:=[]) d h x (i+1) a
   simp only[s,j0,bI]
   cases hP:(if cD ts 4 nL (i+1)then .inr (i+1+1,[]) else wX ts (ts.length+1) [] (i+1):cL⊕(Nat×List BA)) with
   |inl z=>
    rw[hP] at f
    obtain⟨st,l,r,rfl⟩:=f
    exact badt z st l r
   |inr q=>
    rw[hP] at f
    have hr':o=cA (gR ts pr (q.1,[])) q.2:=f
    have g:q.1<ts.length/\q.2.length<=8:=by
     split at hP
     .rename_i hc
      obtain rfl:=Sum.inr.inj hP
      exact⟨oE d a ac hc,by simp⟩
     obtain⟨_,p,t⟩:=XF d _ _ _ q a ae hP
     exact⟨p,t⟩
    rw[hr']
    exact goodt q g.1 g.2
 have c':(k==1)=false:=by simpa using c
 simp only[c',j9,jF,j0,jA c]
 exact goodt (i,[]) hi ae
def MX(N:Nat)(f:Sr)(t:cC)(st:RT)(k:Int):Option (RT×Dl):=
 ((if((List.length f.2.2:Int)==64)then mM N st t.2.2.2 2 else some st):Option RT).bind λo2=>(mC N o2).bind λb=>
 ((if(k==3)then tV N b.1 true else qF N b.1):Option (RT×BA)).bind λa=>
 ((if(a.1.2.2.2.1==0)then CT N f k a.2 else some false):Option Bool).bind λo4=>
 ((if o4 then mM N a.1 b.2.2.2.2 10 else some a.1):Option RT).bind λb=>xY N b k a.2
theorem Vw(g:1000005<N){f:Sr}{t:cC}{z:cL}{i:Nat}{b:List Ex}(c:z.2≠0)(hi:i<ts.length)(k:Int):∃o,
  ((mC N (bR ts z i pr b)).bind λd=>((if(k==3)then tV N d.1 true else qF N d.1):Option (RT×BA)).bind λa=>
   ((if(a.1.2.2.2.1==0)then CT N f k a.2 else some false):Option Bool).bind λo4=>
   ((if o4 then mM N a.1 d.2.2.2.2 10 else some a.1):Option RT).bind λh=>xY N h k a.2)=some o/\wL ts z o.1:=by
 have hz':((bR ts z i pr b).2.2.2.1==0)=false:=by simpa[bR] using c
 have e:((if(k==3)then tV N (bR ts z i pr b) true else qF N (bR ts z i pr b)):Option (RT×BA))=some (bR ts z i pr b,⟨#[]⟩):=by
  rw[ZV c hi,UC c hi];split<;>rfl
 simp only[uN hi,j0,e,hz',j9,jF]
 exact YL g c hi k _
theorem Vy(h:OkT ts)(p:ts.length<1000000)(n:1000005<N){f:Sr}(r:f.2.2.length<=64)(t:cC)(i:Nat)(hi:i<ts.length)(k:Int):∃o,MX N f t (gR ts pr (i,[])) k=some o/\
  OH ts (if f.2.2.length=64 then iN t 2 else bI (if k=3 then pQ ts i else oI ts i) λa=>
   if f.2.2.any (λd=>d.1==k&&decide (d.2.1=a.2.2.1)) then iN a.2 10
   else bI (if k=1 then uX ts a.1 else .inr (a.1,[])) λb=>
    bI (eV ts CF b.1) λj=>bI (iR ts b.2 32 (j,[])) λc=>
    bI (eV ts uP c.1.1) λm=> .inr (m,(k,a.2.2.1,b.2,c.1.2))) o:=by
 unfold MX
 by_cases k1:f.2.2.length=64
 .have k1':((f.2.2.length:Int)==64)=true:=by simp;omega
  rw[jB k1]
  simp only[k1',jH,rA,j0,iN]
  exact Vw (t:=t) n (show(2:Int)≠0 by decide) hi k
 have k1':((f.2.2.length:Int)==64)=false:=by simp;omega
 rw[jA k1]
 simp only[k1',j9,jF,j0,oG (i,[]) hi]
 have e:((if(k==3)then tV N (gR ts pr (i,[])) true else qF N (gR ts pr (i,[]))):Option (RT×BA))=
   some (match(if k=3 then pQ ts i else oI ts i) with| .inl z=>(bR ts z i pr [],⟨#[]⟩)| .inr a=>(gR ts pr (a.1,[]),a.2.2.1)):=by
  by_cases k3:k=3
  .have k3':(k==3)=true:=by simpa using k3
   rw[jB k3',jB k3,ZX (i,[]) hi p aa]<;>rfl
  have k3':(k==3)=false:=by simpa using k3
  rw[jA (by rw[k3'];decide),jA k3,HW (i,[]) hi p aa]<;>rfl
 rw[e]
 simp only[j0]
 cases hX:(if k=3 then pQ ts i else oI ts i) with
 |inl z=>
  have g:z.2≠0:=by
   split at hX
   .exact TX hX
   exact UE hX
  have hz':((bR ts z i pr []).2.2.2.1==0)=false:=by simpa[bR] using g
  simp only[hz',j9,jF,j0,bI]
  exact YL n g hi k _
 |inr a=>
  have ga:a=(i+1,aH ts i)/\i+1<ts.length:=by
   split at hX
   .obtain⟨e,g,-⟩:=wW h hi hX;exact⟨e,g⟩
   obtain⟨e,g,-⟩:=vX h hi hX;exact⟨e,g⟩
  obtain⟨rfl,g⟩:=ga
  have q:((gR ts pr (i+1,[])).2.2.2.1==0)=true:=rfl
  simp only[q,jH,qEa (N:=N) (f:=f) (k:=k) (s:=(aH ts i).2.1) aa aa,j0]
  rw[show bI (Sum.inr (i+1,aH ts i)) (λa:Nat×cC=>if f.2.2.any (λd=>d.1==k&&decide (d.2.1=a.2.2.1))then iN a.2 10
   else bI (if k=1 then uX ts a.1 else .inr (a.1,[])) λb=>
    bI (eV ts CF b.1) λj=>bI (iR ts b.2 32 (j,[])) λc=>
    bI (eV ts uP c.1.1) λm=>(.inr (m,(k,a.2.2.1,b.2,c.1.2)):cL⊕(Nat×Dl)))=(if f.2.2.any (λd=>d.1==k&&decide (d.2.1=(aH ts i).2.1))then iN (aH ts i) 10
   else bI (if k=1 then uX ts (i+1) else .inr (i+1,[])) λb=>
    bI (eV ts CF b.1) λj=>bI (iR ts b.2 32 (j,[])) λc=>
    bI (eV ts uP c.1.1) λm=>(.inr (m,(k,(aH ts i).2.1,b.2,c.1.2)):cL⊕(Nat×Dl))) from rfl]
  rcases eX (f.2.2.any λd=>d.1==k&&decide (d.2.1=(aH ts i).2.1)) with l|l
  .rw[jB l]
   simp only[l,jH,rA,j0,iN]
   exact YL n (show(10:Int)≠0 by decide) g k _
  rw[jA (by rw[l];decide)]
  simp only[l,j9,jF,j0]
  exact Xr h p n (i+1) g k _
abbrev RN:=List cC×Int×Int×Int×List BA×List Ex×List Int×BA
def Nh(st:RT)(l:BA):RN:=(st.1,st.2.1,st.2.2.1,st.2.2.2.1,st.2.2.2.2.1,st.2.2.2.2.2.1,st.2.2.2.2.2.2,l)
theorem qFv(r:OkT ts)(p:ts.length<1000000)(B:1000005<N){f:Sr}(D:f.2.2.length<=64)(i:Nat)(b:List Ex)(hi:i<ts.length):∃o,QL N (gR ts pr (i,b)) f=some o/\OH ts (qU ts f.2.2 i) o:=by
 have A:((gR ts pr (i,b)).1,(gR ts pr (i,b)).2.1,(gR ts pr (i,b)).2.2.1,(gR ts pr (i,b)).2.2.2.1,([]:List BA),([]:List Ex),(gR ts pr (i,b)).2.2.2.2.2.2)=gR ts [] (i,[]):=rfl
 have rest:∀(st:RT) (k:Int),(((if((List.length f.2.2:Int)==64)then((mM N st (aH ts i).2.2.2 2).bind λF=>some F) else(some st)):Option RT).bind λo2=>(mC N o2).bind λq=>((if(k==3)then((tV N q.1 true).bind λy=>some (Nh y.1 y.2)) else((qF N q.1).bind λz=>some (Nh z.1 z.2))):Option RN).bind λa=>((if(a.2.2.2.1==0)then((CT N f k a.2.2.2.2.2.2.2).bind λv=>some v) else(some false)):Option Bool).bind λo4=>((if o4 then((mM N (a.1,a.2.1,a.2.2.1,a.2.2.2.1,a.2.2.2.2.1,a.2.2.2.2.2.1,a.2.2.2.2.2.2.1) q.2.2.2.2 10).bind λx=>some x) else(some (a.1,a.2.1,a.2.2.1,a.2.2.2.1,a.2.2.2.2.1,a.2.2.2.2.2.1,a.2.2.2.2.2.2.1))):Option RT).bind λE=>xY N E k a.2.2.2.2.2.2.2)=MX N f (aH ts i) st k:=by
  intro st k
  unfold MX
  simp only[sZ]
  refine kF _ (funext λo2=>kF _ (funext λq=> ?_))
  rcases eX (k==3) with c|c<;>simp only[c,jH,j9,jF,fA,j0]<;>rfl
 have fin:∀(k:Int),k≠0->oJ (aH ts i).2.1=k->(aH ts i).1=1->∃o,MX N f (aH ts i) (gR ts [] (i+1,[])) k=some o/\OH ts (qU ts f.2.2 i) o:=by
  intro k u t d
  have g:=r.next hi (show(aH ts i).1≠5 by rw[d];decide)
  obtain⟨o,e,l⟩:=Vy (N:=N) (pr:=[]) r p B D (aH ts i) (i+1) g k
  refine⟨o,e,?_⟩
  unfold qU
  dsimp only
  rw[t,jA (by rintro(h|h);exact h d;exact u h)]
  exact l
 simp only[QL,A,oG (i,[]) hi,j0,Prod.eta,uA (i,[]) hi p]
 by_cases d:(aH ts i).1=1
 .have n:∀s,cD ts 1 s i=decide ((aH ts i).2.1=s):=λs=>Jq d
  simp only[n]
  by_cases w1:(aH ts i).2.1=(⟨#[102,117,110,99]⟩:BA)
  .simp only[jI w1,jH,j0]
   obtain⟨o,e,l⟩:=fin 1 ac (by rw[w1];rfl) d
   refine⟨o,Eq.trans ?_ e,l⟩
   refine Eq.trans ?_ (rest (gR ts [] (i+1,[])) 1)
   simp only[sZ,xY]
   rfl
  simp only[jP w1,j9,jF,j0,uA (i,[]) hi p,n,Prod.eta]
  by_cases w2:(aH ts i).2.1=(⟨#[116,101,115,116]⟩:BA)
  .simp only[jI w2,jH,j0]
   obtain⟨o,e,l⟩:=fin 2 ac (by rw[w2];rfl) d
   refine⟨o,Eq.trans ?_ e,l⟩
   refine Eq.trans ?_ (rest (gR ts [] (i+1,[])) 2)
   simp only[sZ,xY]
   rfl
  simp only[jP w2,j9,jF,j0,uA (i,[]) hi p,n,Prod.eta]
  by_cases w3:(aH ts i).2.1=(⟨#[103,101,110]⟩:BA)
  .simp only[jI w3,jH,j0]
   obtain⟨o,e,l⟩:=fin 3 ac (by rw[w3];rfl) d
   refine⟨o,Eq.trans ?_ e,l⟩
   refine Eq.trans ?_ (rest (gR ts [] (i+1,[])) 3)
   simp only[sZ,xY]
   rfl
  simp only[jP w3,j9,jF,j0,rA,Prod.eta]
  refine⟨_,rfl,?_⟩
  have t:oJ (aH ts i).2.1=0:=by
   unfold oJ
   rw[jA (show ¬(aH ts i).2.1=OD from w1),jA (show ¬(aH ts i).2.1=NZ from w2),jA (show ¬(aH ts i).2.1=OJ from w3)]
  unfold qU
  dsimp only
  rw[jB (.inr t)]
  exact⟨show(9:Int)≠0 by decide,i,[],[],hi,rfl⟩
 have n:∀s,cD ts 1 s i=false:=λs=>Lw d
 simp only[n,j9,jF,j0,uA (i,[]) hi p,rA,Prod.eta]
 refine⟨_,rfl,?_⟩
 unfold qU
 dsimp only
 rw[jB (.inl d)]
 exact⟨show(9:Int)≠0 by decide,i,[],[],hi,rfl⟩
def Br(ts:List cC)(pr:List BA)(b:List Ex)(r:cL⊕(Nat×List BA))(o:RL):Prop:=
 match r with
 | .inl z=>∃st l,wL ts z st/\o=cA st l
 | .inr q=>o=cA (gR ts pr (q.1,b)) q.2
theorem Dx{y5:RT×BA}{z:cL}{i:Nat}{pr':List BA}{b:List Ex}(a:z.2≠0)(M:Nat)(l:List BA):aC (tD N y5) (M+1) (cA (bR ts z i pr' b) l)=some (cA (bR ts z i pr' b) l):=by
 have hz':((cA (bR ts z i pr' b) l).2.2.2.1==0)=false:=by simpa[bR,cA] using a
 simp only[aC,tD,hz',j9,jF,j0]
theorem Dj(k:OkT ts)(v:ts.length<1000000)(H:1000005<N){y5:RT×BA}{b:List Ex}:∀(n M:Nat) (l:List BA) (i:Nat),i<ts.length->l.length<=8->ts.length<i+n->ts.length+2<i+M->
  ∃o,aC (tD N y5) M (cA (gR ts pr (i,b)) l)=some o/\Br ts pr b (tX ts y5.2 n l i) o
 |0,M,l,i,hi,_,h,_=>by omega
 |n+1,0,l,i,hi,_,_,h=>by omega
 |n+1,M+1,l,i,hi,R,U,S=>by
  have G:((cA (gR ts pr (i,b)) l).2.2.2.1==0)=true:=rfl
  have E:∀st:RT,∀l,((cA st l).1,(cA st l).2.1,(cA st l).2.2.1,(cA st l).2.2.2.1,(cA st l).2.2.2.2.1,(cA st l).2.2.2.2.2.1,(cA st l).2.2.2.2.2.2.1)=st:=λ_ _=>rfl
  have F:∀st:RT,∀l,(cA st l).2.2.2.2.2.2.2=l:=λ_ _=>rfl
  have e:∀s:BA,iK 16 l [s]=some (l++[s]):=λs=>lQ af aa
  have u:∀s,uW N l s=some (decide (s∈l)):=λs=>Bi aa aa
  have bad:∀(z:cL) (i:Nat) (pr':List BA) (b':List Ex) (l:List BA),z.2≠0->i<ts.length->∃o,aC (tD N y5) M (cA (bR ts z i pr' b') l)=some o/\Br ts pr b (.inl z) o:=by
   intro z i pr' b' l c hi
   obtain⟨M',rfl⟩:∃M',M=M'+1:=⟨M-1,by omega⟩
   exact⟨_,Dx c M' l,_,_,⟨c,i,pr',b',hi,rfl⟩,rfl⟩
  -- from the import's name on, behind an error
  have badn:∀(z:cL) (i:Nat) (pr':List BA) (b':List Ex),z.2≠0->i<ts.length->∃o,((mC N (bR ts z i pr' b')).bind λf=>(qF N f.1).bind λa=>((if(a.1.2.2.2.1==0)then(if(a.2.toList==y5.2.toList)then(some true) else(uW N l a.2)) else(some false)):Option Bool).bind λA=>((if A then mM N a.1 f.2.2.2.2 10 else some a.1):Option RT).bind λB=>(lZ N B (⟨#[59]⟩:BA)).bind λr=>(iK 16 l ([a.2])).bind λy=>aC (tD N y5) M (cA r y))=some o/\Br ts pr b (.inl z) o:=by
   intro z i pr' b' c hi
   have hz':((bR ts z i pr' b').2.2.2.1==0)=false:=by simpa[bR] using c
   simp only[uN hi,UC c hi,j0,hz',j9,jF,uJ c hi,e]
   exact bad z i pr' b' _ c hi
  -- the step
  have step:aC (tD N y5) (M+1) (cA (gR ts pr (i,b)) l)=(if cD ts 1 DJ i then
    ((if((l.length:Int)==8)then some (bR ts ((aH ts i).2.2.2,2) (i+1) pr b) else some (gR ts pr (i+1,b))):Option RT).bind λst=>((mC N st).bind λf=>(qF N f.1).bind λa=>((if(a.1.2.2.2.1==0)then(if(a.2.toList==y5.2.toList)then(some true) else(uW N l a.2)) else(some false)):Option Bool).bind λA=>((if A then mM N a.1 f.2.2.2.2 10 else some a.1):Option RT).bind λB=>(lZ N B (⟨#[59]⟩:BA)).bind λr=>(iK 16 l ([a.2])).bind λy=>aC (tD N y5) M (cA r y))
    else some (cA (gR ts pr (i,b)) l)):=by
   have K:cD ts 1 DJ i=((aH ts i).1==1&&decide ((aH ts i).2.1=(⟨#[105,109,112,111,114,116]⟩:BA))):=rfl
   have D:=pY (show i<1000000 by omega)
   simp only[aC,tD,G,jH,E,F,oG (i,b) hi,j0,Prod.eta,oD,K]
   rcases eX ((aH ts i).1==1) with d|d
   rotate_left
   .simp only[d,j9,jF,j0,Bool.false_and]
    rfl
   rcases eX (decide ((aH ts i).2.1=(⟨#[105,109,112,111,114,116]⟩:BA))) with p|p
   rotate_left
   .simp only[d,p,j9,jF,jH,j0,Bool.and_false]
    rfl
   simp only[d,p,jH,j0,Bool.and_true]
   rcases eX ((l.length:Int)==8) with q|q
   .simp only[q,jH,j0,oG (i,b) hi,rA,sZ]
    have t:((bR ts ((aH ts i).2.2.2,2) i pr b).1,wI ((bR ts ((aH ts i).2.2.2,2) i pr b).2.1+1),(bR ts ((aH ts i).2.2.2,2) i pr b).2.2.1,(bR ts ((aH ts i).2.2.2,2) i pr b).2.2.2.1,(bR ts ((aH ts i).2.2.2,2) i pr b).2.2.2.2.1,(bR ts ((aH ts i).2.2.2,2) i pr b).2.2.2.2.2.1,(bR ts ((aH ts i).2.2.2,2) i pr b).2.2.2.2.2.2)=bR ts ((aH ts i).2.2.2,2) (i+1) pr b:=by
     show(ts,wI ((i:Int)+1),(aH ts i).2.2.2,(2:Int),pr,b,([]:List Int))=_
     rw[D];rfl
    rw[t]
    simp only[fA,j0]
    rfl
   simp only[q,j9,jF,j0,sZ]
   have t:((gR ts pr (i,b)).1,wI ((gR ts pr (i,b)).2.1+1),(gR ts pr (i,b)).2.2.1,(gR ts pr (i,b)).2.2.2.1,(gR ts pr (i,b)).2.2.2.2.1,(gR ts pr (i,b)).2.2.2.2.2.1,(gR ts pr (i,b)).2.2.2.2.2.2)=gR ts pr (i+1,b):=by
    show(ts,wI ((i:Int)+1),(0:Int),(0:Int),pr,b,([]:List Int))=_
    rw[D];rfl
   rw[t]
   simp only[fA,j0]
   rfl
  rw[step]
  simp only[tX]
  rcases eX (cD ts 1 DJ i) with d|d
  rotate_left
  .simp only[d,j9,jF]
   exact⟨_,rfl,rfl⟩
  have g:=oE k hi ac d
  simp only[d,jH]
  by_cases k2:l.length=8
  .have k2':((l.length:Int)==8)=true:=by simp;omega
   rw[jB k2]
   simp only[k2',jH,j0,iN]
   exact badn _ _ _ _ (show(2:Int)≠0 by decide) g
  have k2':((l.length:Int)==8)=false:=by simp;omega
  rw[jA k2]
  simp only[k2',j9,jF,j0,oG (i+1,b) g,HW (i+1,b) g v (by omega:100<N)]
  cases hx:oI ts (i+1) with
  |inl z=>
   have c:=UE hx
   have hz':((bR ts z (i+1) pr b).2.2.2.1==0)=false:=by simpa[bR] using c
   simp only[hz',j9,jF,j0,uJ c g,e,bI]
   exact bad _ _ _ _ _ c g
  |inr x=>
   obtain⟨rfl,p,-⟩:=vX k g hx
   have t:((gR ts pr (i+1+1,b)).2.2.2.1==0)=true:=rfl
   simp only[t,jH,oD,u,bI]
   by_cases q:(aH ts (i+1)).2.1=y5.2\/(aH ts (i+1)).2.1∈l
   .rw[jB q]
    have:((if decide ((aH ts (i+1)).2.1=y5.2)then some true else some (decide ((aH ts (i+1)).2.1∈l))):Option Bool)=some true:=by
     rcases q with h|h
     .rw[jB (jI h)]
     rw[jI h];split<;>rfl
    rw[this]
    simp only[j0,jH,rA,e,iN]
    have c:(((aH ts (i+1)).2.2.2,(10:Int)):cL).2≠0:=show(10:Int)≠0 by decide
    simp only[uJ c p,j0]
    exact bad _ _ _ _ _ c p
   rw[jA q]
   have:((if decide ((aH ts (i+1)).2.1=y5.2)then some true else some (decide ((aH ts (i+1)).2.1∈l))):Option Bool)=some false:=by
    rw[jA (by simp only[j6];exact λh=>q (.inl h)),jP (λh=>q (.inr h))]
   rw[this]
   simp only[j0,j9,jF,vE (i+1+1,b) p v,e,uP]
   cases c:eV ts ⟨#[59]⟩ (i+1+1) with
   |inl z=>exact bad _ _ _ _ _ (uB c) p
   |inr j=>
    obtain⟨rfl,D,-⟩:=oF k p c
    exact Dj k v H n M _ (i+1+1+1) D aj aa aa
abbrev RD:=List cC×Int×Int×Int×List BA×List Ex×List Int×List Dl
def oO(st:RT)(l:List Dl):RD:=(st.1,st.2.1,st.2.2.1,st.2.2.2.1,st.2.2.2.2.1,st.2.2.2.2.2.1,st.2.2.2.2.2.2,l)
def relS(ts:List cC)(r:cL⊕List Dl)(o:RD):Prop:=
 match r with
 | .inl z=>∃st l,wL ts z st/\o=oO st l
 | .inr a=>∃pr p,o=oO (gR ts pr p) a
theorem Gg{y5:RT×BA}{o2:RL}{z:cL}{i:Nat}{pr':List BA}{b:List Ex}(a:z.2≠0)(M:Nat)(l:List Dl):aC (uV N y5 o2) (M+1) (oO (bR ts z i pr' b) l)=some (oO (bR ts z i pr' b) l):=by
 have hz':((oO (bR ts z i pr' b) l).2.2.2.1==0)=false:=by simpa[bR,oO] using a
 simp only[aC,uV,hz',j9,jF,j0]
theorem En(c:OkT ts)(k:ts.length<1000000)(g:1000005<N){y5:RT×BA}{o2:RL}:∀(n M:Nat) (l:List Dl) (i:Nat) (pr:List BA) (b:List Ex),i<ts.length->l.length<=64->ts.length<i+n->ts.length+2<i+M->
  ∃o,aC (uV N y5 o2) M (oO (gR ts pr (i,b)) l)=some o/\relS ts (wY ts n l i) o
 |0,M,l,i,_,_,hi,_,h,_=>by omega
 |n+1,0,l,i,_,_,hi,_,_,h=>by omega
 |n+1,M+1,l,i,pr,b,hi,e,y,x=>by
  have t:((oO (gR ts pr (i,b)) l).2.2.2.1==0)=true:=rfl
  have r:∀st:RT,∀l,((oO st l).1,(oO st l).2.1,(oO st l).2.2.1,(oO st l).2.2.2.1,(oO st l).2.2.2.2.1,(oO st l).2.2.2.2.2.1,(oO st l).2.2.2.2.2.2.1)=st:=λ_ _=>rfl
  have s:∀st:RT,∀l,(oO st l).2.2.2.2.2.2.2=l:=λ_ _=>rfl
  simp only[aC,uV,t,jH,r,s,oG (i,b) hi,j0,Prod.eta,wY]
  by_cases k1:(aH ts i).1=5
  .have k1':((aH ts i).1 !=5)=false:=by simp[k1]
   rw[jB k1]
   simp only[k1',j9,jF,j0]
   exact⟨_,rfl,pr,(i,b),rfl⟩
  have k1':((aH ts i).1 !=5)=true:=by simp[k1]
  rw[jA k1]
  simp only[k1',jH]
  obtain⟨o,v,d⟩:=qFv (N:=N) (pr:=pr) (f:=(y5.2,o2.2.2.2.2.2.2.2,l)) c k g e i b hi
  simp only[v,j0]
  rw[lQ af aa]
  simp only[j0]
  cases hd:qU ts l i with
  |inl z=>
   rw[show qU ts (y5.2,o2.2.2.2.2.2.2.2,l).2.2 i=qU ts l i from rfl,hd] at d
   obtain⟨q,j,pr',b',u,p⟩:=d
   obtain⟨M',rfl⟩:∃M',M=M'+1:=⟨M-1,by omega⟩
   rw[p]
   exact⟨_,Gg q M' _,_,_,⟨q,j,pr',b',u,rfl⟩,rfl⟩
  |inr a=>
   rw[show qU ts (y5.2,o2.2.2.2.2.2.2.2,l).2.2 i=qU ts l i from rfl,hd] at d
   obtain⟨q,p,u⟩:=TC c hi hd
   have hr':o=(gR ts a.2.2.2.1 (a.1,a.2.2.2.2),a.2):=d
   rw[hr']
   exact En c k g n M (l++[a.2]) a.1 _ _ p aj aa aa
theorem qFg(d:OkT ts)(h:ts.length<1000000)(A:1000005<N):
  ((rR N (ts,0,0,0,[],[],[]) (⟨#[112,97,99,107,97,103,101]⟩:BA)).bind λs=>((if(!s.2)then((mC N s.1).bind λD=>mM N D.1 D.2.2.2.2 9) else(some s.1)):Option RT).bind λK=>(qF N K).bind λy5=>(lZ N y5.1 (⟨#[59]⟩:BA)).bind λt=>(aC (tD N y5) N (cA t [])).bind λo2=>(aC (uV N y5 o2) N (o2.1,o2.2.1,o2.2.2.1,o2.2.2.2.1,o2.2.2.2.2.1,o2.2.2.2.2.2.1,o2.2.2.2.2.2.2.1,[])).bind λa=>if(a.2.2.2.1 !=0)then(some (uO,a.2.2.1,a.2.2.2.1)) else(some (((y5.2,o2.2.2.2.2.2.2.2,a.2.2.2.2.2.2.2):Sr),(0:Int),(0:Int))))=some (match xA ts with| .inl z=>(uO,z.1,z.2)| .inr f=>(f,0,0)):=by
 have p:0<ts.length:=fM.2 d.1
 obtain⟨M,hM⟩:∃M,N=M+1:=⟨N-1,by omega⟩
 have E:((ts,(0:Int),(0:Int),(0:Int),[],[],[]):RT)=gR ts [] (0,[]):=rfl
 -- the loops behind an error
 have badD:∀(y5:RT×BA) (o2:RL) (z:cL) (st:RT),wL ts z st->((aC (uV N y5 o2) N (oO st [])).bind λa=>if(a.2.2.2.1 !=0)then(some (uO,a.2.2.1,a.2.2.2.1)) else(some (((y5.2,o2.2.2.2.2.2.2.2,a.2.2.2.2.2.2.2):Sr),(0:Int),(0:Int))))=some (uO,z.1,z.2):=by
  rintro y5 o2 z st ⟨c,i,pr',b,hi,rfl⟩
  have g:aC (uV N y5 o2) N (oO (bR ts z i pr' b) [])=some (oO (bR ts z i pr' b) []):=by
   have e:aC (uV N y5 o2) N (oO (bR ts z i pr' b) [])=aC (uV N y5 o2) (M+1) (oO (bR ts z i pr' b) []):=by rw[<-hM]
   rw[e];exact Gg c M []
  have hz':((oO (bR ts z i pr' b) []).2.2.2.1 !=0)=true:=by simpa[bR,oO] using c
  rw[g]
  simp only[j0,hz',jH]
  rfl
 have badI:∀(y5:RT×BA) (z:cL) (i:Nat) (pr':List BA) (b:List Ex),z.2≠0->i<ts.length->((aC (tD N y5) N (cA (bR ts z i pr' b) [])).bind λo2=>(aC (uV N y5 o2) N (o2.1,o2.2.1,o2.2.2.1,o2.2.2.2.1,o2.2.2.2.2.1,o2.2.2.2.2.2.1,o2.2.2.2.2.2.2.1,[])).bind λa=>if(a.2.2.2.1 !=0)then(some (uO,a.2.2.1,a.2.2.2.1)) else(some (((y5.2,o2.2.2.2.2.2.2.2,a.2.2.2.2.2.2.2):Sr),(0:Int),(0:Int))))=some (uO,z.1,z.2):=by
  intro y5 z i pr' b c hi
  have g:aC (tD N y5) N (cA (bR ts z i pr' b) [])=some (cA (bR ts z i pr' b) []):=by
   have e:aC (tD N y5) N (cA (bR ts z i pr' b) [])=aC (tD N y5) (M+1) (cA (bR ts z i pr' b) []):=by rw[<-hM]
   rw[e];exact Dx c M []
  rw[g]
  simp only[j0]
  exact badD y5 (cA (bR ts z i pr' b) []) z (bR ts z i pr' b) ⟨c,i,pr',b,hi,rfl⟩
 have bad:∀(z:cL) (i:Nat) (pr':List BA) (b:List Ex),z.2≠0->i<ts.length->((qF N (bR ts z i pr' b)).bind λy5=>(lZ N y5.1 (⟨#[59]⟩:BA)).bind λt=>(aC (tD N y5) N (cA t [])).bind λo2=>(aC (uV N y5 o2) N (o2.1,o2.2.1,o2.2.2.1,o2.2.2.2.1,o2.2.2.2.2.1,o2.2.2.2.2.2.1,o2.2.2.2.2.2.2.1,[])).bind λa=>if(a.2.2.2.1 !=0)then(some (uO,a.2.2.1,a.2.2.2.1)) else(some (((y5.2,o2.2.2.2.2.2.2.2,a.2.2.2.2.2.2.2):Sr),(0:Int),(0:Int))))=some (uO,z.1,z.2):=by
  intro z i pr' b c hi
  simp only[UC c hi,uJ c hi,j0]
  exact badI _ z i pr' b c hi
 rw[E]
 simp only[uA (0,[]) p h,j0,xA,vJ,NC]
 rcases eX (cD ts 1 ⟨#[112,97,99,107,97,103,101]⟩ 0) with k|k
 rotate_left
 .simp only[k,j9,jF,kI,jH,oG (0,[]) p,rA,j0,iN,bI]
  exact bad _ _ _ _ (show(9:Int)≠0 by decide) p
 have n:=oE d p ac k
 simp only[k,jH,kP,j9,jF,j0,HW (0+1,[]) n h (by omega:100<N),bI]
 cases h2:oI ts (0+1) with
 |inl z=>
  have c:=UE h2
  simp only[uJ c n,j0]
  exact badI _ z _ _ _ c n
 |inr x=>
  obtain⟨rfl,r,-⟩:=vX d n h2
  simp only[vE (0+1+1,[]) r h,j0,uP]
  cases v:eV ts ⟨#[59]⟩ (0+1+1) with
  |inl z=>exact badI _ z _ _ _ (uB v) r
  |inr j=>
   obtain⟨rfl,u,-⟩:=oF d r v
   obtain⟨o,G,q⟩:=Dj (N:=N) (pr:=[]) (b:=[]) (y5:=(gR ts [] (0+1+1,[]),(aH ts (0+1)).2.1)) d h A (ts.length+1) N [] (0+1+1+1) u ae aa aa
   simp only[G,j0]
   cases h4:tX ts (aH ts (0+1)).2.1 (ts.length+1) [] (0+1+1+1) with
   |inl z=>
    rw[show tX ts ((gR ts [] (0+1+1,[]),(aH ts (0+1)).2.1):RT×BA).2 (ts.length+1) [] (0+1+1+1)=tX ts (aH ts (0+1)).2.1 (ts.length+1) [] (0+1+1+1) from rfl,h4] at q
    obtain⟨st,l,g,rfl⟩:=q
    exact badD _ (cA st l) z st g
   |inr y=>
    rw[show tX ts ((gR ts [] (0+1+1,[]),(aH ts (0+1)).2.1):RT×BA).2 (ts.length+1) [] (0+1+1+1)=tX ts (aH ts (0+1)).2.1 (ts.length+1) [] (0+1+1+1) from rfl,h4] at q
    have hr':o=cA (gR ts [] (y.1,[])) y.2:=q
    obtain⟨R,H,S⟩:=SM d _ _ _ y u ae h4
    obtain⟨o2,B,g⟩:=En (N:=N) (y5:=(gR ts [] (0+1+1,[]),(aH ts (0+1)).2.1)) (o2:=o) d h A (ts.length+1) N [] y.1 [] [] H ae aa aa
    have F:(o.1,o.2.1,o.2.2.1,o.2.2.2.1,o.2.2.2.2.1,o.2.2.2.2.2.1,o.2.2.2.2.2.2.1,([]:List Dl))=oO (gR ts [] (y.1,[])) []:=by rw[hr'];rfl
    rw[F,B]
    simp only[j0]
    cases h5:wY ts (ts.length+1) [] y.1 with
    |inl z=>
     rw[h5] at g
     obtain⟨st,l,⟨c,i,pr',b,hi,rfl⟩,rfl⟩:=g
     have hz':((oO (bR ts z i pr' b) l).2.2.2.1 !=0)=true:=by simpa[bR,oO] using c
     simp only[hz',jH]
     rfl
    |inr l=>
     rw[h5] at g
     obtain⟨pr',p',rfl⟩:=g
     have hz':((oO (gR ts pr' p') l).2.2.2.1 !=0)=false:=rfl
     simp only[hz',j9,jF]
     rw[hr']
     rfl
end
theorem Vt{N:Nat}(s:BA)(b:1000005<N):RV N s=some (lS s):=by
 simp only[RV,Ss (N:=N) aa,j0,lS]
 by_cases h:(mT s).2.2=0
 .rw[jA (show ¬((mT s).2.2 !=0)=true by simpa using h),jA (show ¬(mT s).2.2≠0 by simpa using h)]
  obtain⟨a,d,e⟩:=SY h
  have c:=qFg (N:=N) a aa b
  refine Eq.trans ?_ (Eq.trans c ?_)
  .simp only[Prod.eta,sZ];rfl
  cases xA (mT s).1<;>rfl
 rw[jB (show((mT s).2.2 !=0)=true by simpa using h),jB h];rfl
end
section
open Go Go.Dc Go.Proofs
def wE{α τ:Type}(g:Nat->τ->α->τ):Nat->τ->List α->τ
 |_,t,[]=>t
 |i,t,x::l=>wE g (i+1) (g i t x) l
theorem Ga{α τ σ β:Type}{L:List α}(enc:τ->Nat->σ){f:σ->Option (σ⊕β)}(g:Nat->τ->α->τ)(fin:τ->β)
  (a:∀t i,∀hi:i<L.length,f (enc t i)=some (.inl (enc (g i t L[i]) (i+1))))
  (b:∀t,f (enc t L.length)=some (.inr (fin t))):∀(d i M:Nat) (t:τ),i+d=L.length->d<M->aC f M (enc t i)=some (fin (wE g i t (L.drop i)))
 |_,_,0,_,_,h=>absurd h (kS _)
 |0,i,M+1,t,c,e=>by
  have hi:i=L.length:=by omega
  subst hi
  simp only[aC,b t,j0,hU,wE]
 |d+1,i,M+1,t,c,e=>by
  have hi:i<L.length:=by omega
  simp only[aC,a t i hi,j0]
  rw[zI hi]
  exact Ga enc g fin a b d (i+1) M _ aa aa
abbrev eU:=BA×BA×Int×BA×Int×Int
abbrev K3:=Int×BA×BA
abbrev qR:=BA×BA×Int×BA×Int
def qP(kind:Int)(pkg name:BA):K3:=(kind,if kind=3 then eA else pkg,name)
def vM(o:qR):K3:=qP o.2.2.1 o.1 o.2.1
def tG(M:List (K3×eU))(o:qR):List (K3×eU):=
 mset M (vM o) (match eL M (vM o) with
  |some x=>(x.1,x.2.1,x.2.2.1,x.2.2.2.1,x.2.2.2.2.1,wI (x.2.2.2.2.2+1))
  |none=>(o.1,o.2.1,o.2.2.1,o.2.2.2.1,o.2.2.2.2,1))
def qN(path pkg:BA):Nat->List Dl->List qR
 |_,[]=>[]
 |i,d::l=>(pkg,d.2.1,d.1,path,(i:Int))::qN path pkg (i+1) l
def sP(f:bT):Bool:=tE f.1&&decide ((lS f.2).2.2=0)
def iZ(L:List bT):List (BA×Sr):=(L.filter sP).map λf=>(f.1,(lS f.2).1)
def vD(L:List bT):List BA:=(L.filter λf=>tE f.1&& !decide ((lS f.2).2.2=0)).map (·.1)
def lW(l:List (BA×Sr)):List qR:=l.flatMap λx=>qN x.1 x.2.1 0 x.2.2.2
abbrev Wld:=List bT×Bool×Option (List (BA×Sr))×List BA×Option (List (K3×eU))
def lD(L:List bT):Wld:=
 if nE L=0 then(L,true,some ((iZ L).foldl (λS x=>mset S x.1 x.2) []),vD L,some ((lW (iZ L)).foldl tG [])) else(L,false,some [],[],some [])
theorem Fw(path pkg:BA):∀(l:List Dl) (i:Nat) (M:List (K3×eU)),
  wE (λi M (d:Dl)=>tG M (pkg,d.2.1,d.1,path,(i:Int))) i M l=(qN path pkg i l).foldl tG M
 |[],_,_=>rfl
 |d::l,i,M=>by simp only[wE,qN,kD];exact Fw path pkg l (i+1) _
theorem Dq{N:Nat}(a:Int)(b c:BA):MV N a b c=some (qP a b c):=by
 unfold MV qP
 by_cases h:a=3
 .rw[jB (by simp[h]),jB h];rfl
 rw[jA (by simp[h]),jA h];rfl
theorem Wa{N:Nat}{x:bT}{y:Sr×Int×Int}(c:y.1.2.2.length<1000)(b:1000<N)(M:List (K3×eU)):
  aC (GY N x y) N (0,some M)=some (some ((qN x.1 y.1.1 0 y.1.2.2).foldl tG M)):=by
 have:=Ga (L:=y.1.2.2) (λ(M:List (K3×eU)) i=>((i:Int),some M)) (f:=GY N x y)
  (λi M (d:Dl)=>tG M (y.1.1,d.2.1,d.1,x.1,(i:Int))) (λM=>some M) (by
   intro M i hi
   simp only[GY]
   rw[jB ad,eZ hi]
   simp only[j0,Dq]
   have ew:wI ((i:Int)+1)=((i+1:Nat):Int):=by rw[bP aa aa];omega
   simp only[ew]
   by_cases h:(cR (some M) (qP (y.1.2.2[i]).1 y.1.1 (y.1.2.2[i]).2.1)).isSome=true
   .rw[jB h]
    unfold tG vM
    simp only[cR,iI,j0,kL] at h ⊢
    obtain⟨v,a⟩:=Option.isSome_iff_exists.1 h
    rw[a];rfl
   .rw[jA h]
    unfold tG vM
    simp only[cR,iI,j0,kL] at h ⊢
    rw[show eL M (qP (y.1.2.2[i]).1 y.1.1 (y.1.2.2[i]).2.1)=none by simpa using h]) (by
   intro M
   simp only[GY]
   rw[jA ae]) y.1.2.2.length 0 N M aa aa
 rw[jX,Fw] at this
 exact this
theorem Fp{ts:List cC}(h:OkT ts):∀(n:Nat) (l:List Dl) (i:Nat) {r:List Dl},l.length<=64->i<ts.length->wY ts n l i= .inr r->r.length<=64
 |0,_,_,_,_,_,a=>by cases a
 |n+1,l,i,r,d,hi,a=>by
  unfold wY at a
  split at a
  .cases a;exact d
  obtain⟨x,e,c⟩:=lV a
  obtain⟨-,b,f⟩:=TC h hi e
  exact Fp h n _ _ ah b c
theorem SZ{s:BA}:(lS s).1.2.2.length<=64:=by
 unfold lS
 by_cases h0:(mT s).2.2=0
 .rw[jA (not_not_intro h0)]
  obtain⟨d,u,x⟩:=SY h0
  have e:0<(mT s).1.length:=by
   cases h:(mT s).1 with
   |nil=>exact absurd h d.1
   |cons a l=>exact Nat.succ_pos _
  cases c:xA (mT s).1 with
  |inl z=>exact kK _
  |inr f=>
   simp only
   unfold xA at c
   obtain⟨i,o,c⟩:=lV c
   obtain⟨rfl,g,-⟩:=HP d e o
   obtain⟨a,p,c⟩:=lV c
   obtain⟨rfl,k,-⟩:=vX d g p
   obtain⟨j,q,c⟩:=lV c
   obtain⟨rfl,n,-⟩:=oF d k q
   obtain⟨b,r,c⟩:=lV c
   obtain⟨-,v,-⟩:=SM d _ _ _ b n ae r
   obtain⟨l,t,c⟩:=lV c
   have:=Fp d _ _ _ ae v t
   cases c
   exact this
 rw[jB h0];exact kK _
def xF(t:List BA×List (BA×Sr)×List (K3×eU))(f:bT):List BA×List (BA×Sr)×List (K3×eU):=
 if tE f.1=false then t
 else if(lS f.2).2.2=0 then(t.1,mset t.2.1 f.1 (lS f.2).1,(qN f.1 (lS f.2).1.1 0 (lS f.2).1.2.2).foldl tG t.2.2)
 else(t.1++[f.1],t.2)
theorem TG:∀(L:List bT) (B:List BA) (S:List (BA×Sr)) (M:List (K3×eU)),
  L.foldl xF (B,S,M)=(B++vD L,(iZ L).foldl (λS x=>mset S x.1 x.2) S,(lW (iZ L)).foldl tG M)
 |[],B,S,M=>by simp[vD,iZ,lW]
 |f::L,B,S,M=>by
  rw[kD]
  by_cases a:tE f.1=true
  .by_cases h2:(lS f.2).2.2=0
   .have e:xF (B,S,M) f=(B,mset S f.1 (lS f.2).1,(qN f.1 (lS f.2).1.1 0 (lS f.2).1.2.2).foldl tG M):=by
     unfold xF;rw[jA (by simp[a]),jB h2]
    have el:iZ (f::L)=(f.1,(lS f.2).1)::iZ L:=by
     unfold iZ;rw[gE,jB (show sP f=true by simp[sP,a,h2])];rfl
    have eb:vD (f::L)=vD L:=by
     unfold vD;rw[gE,jA (by simp[h2])]
    rw[e,TG L,el,eb]
    simp only[kD,lW,kX,fC]
   have e:xF (B,S,M) f=(B++[f.1],S,M):=by
    unfold xF;rw[jA (by simp[a]),jA h2]
   have el:iZ (f::L)=iZ L:=by
    unfold iZ;rw[gE,jA (by simp[sP,h2])]
   have eb:vD (f::L)=f.1::vD L:=by
    unfold vD;rw[gE,jB (by simp[a,h2])];rfl
   rw[e,TG L,el,eb]
   simp
  have a:tE f.1=false:=by simpa using a
  have e:xF (B,S,M) f=(B,S,M):=by unfold xF;rw[jB a]
  have el:iZ (f::L)=iZ L:=by
   unfold iZ;rw[gE,jA (by simp[sP,a])]
  have eb:vD (f::L)=vD L:=by
   unfold vD;rw[gE,jA (by simp[a])]
  rw[e,TG L,el,eb]
theorem Vx{N:Nat}{L:List bT}(d:HS N L)(g:L.length<=64)(c:1000001<N):
  aC (GZ N L) N (0,[],some [],some [])=some (vD L,some ((iZ L).foldl (λS x=>mset S x.1 x.2) []),some ((lW (iZ L)).foldl tG [])):=by
 have h:=BD (L:=L) (λ(t:List BA×List (BA×Sr)×List (K3×eU)) (i:Nat)=>((i:Int),t.1,some t.2.1,some t.2.2)) (f:=GZ N L)
  (λt f=> .inl (xF t f)) (λt=>(t.1,some t.2.1,some t.2.2)) (λi t=>t.1.length<=i) (by
   intro t i hi b
   simp only[GZ]
   rw[jB ad,eZ hi]
   have ew:wI ((i:Int)+1)=((i+1:Nat):Int):=by rw[bP aa aa];omega
   have e:=Uf (N:=N) (d _ (kE hi))
   simp only[j0,e,Zv _ c,ew]
   unfold xF
   by_cases a:tE (L[i]).1=true
   .by_cases h2:(lS (L[i]).2).2.2=0
    .rw[jA (by simp[a]),jA (by simp[h2]),jA (by simp[a]),jB h2,Wa (by have:=SZ (s:=(L[i]).2);omega) aa]
     simp only[iI,kL,j0]
    rw[jA (by simp[a]),jB (by simpa using h2),jA (by simp[a]),jA h2,lQ af aa]
    simp only[j0]
   .have a:tE (L[i]).1=false:=by simpa using a
    rw[jB (by simp[a]),jB a]
    simp only[j0]) (by
   intro t i hi t' b h
   cases h
   unfold xF
   split
   .omega
   .split
    .exact Nat.le_succ_of_le b
    simp only[jG,jC,jD];omega) (by
   intro t b
   simp only[GZ]
   rw[jA ae]) (M:=N) (t:=([],[],[])) aa (kK _)
 rw[show((0:Nat):Int)=0 from rfl] at h
 rw[h,DH xF (λ_ _=>rfl),TG]
 simp only[kH]
theorem Mi{N:Nat}{L:List bT}(a:HS N L)(b:1000001<N):MU N L=some (lD L):=by
 simp only[MU,Zf a (show 100<N by omega),j0]
 unfold lD
 by_cases hc:nE L=0
 .rw[jA (by simp[hc]),jB hc,Vx a (uI.1 hc).1 b]
  simp only[j0,hc];rfl
 rw[jB (by simpa using hc),jA hc]
 simp only[show(nE L==0)=false by simpa using hc]
def nM(kind:Int)(pkg name:BA)(e:eU)(o:qR):eU:=
 if vM o=qP kind pkg name then(if e.2.2.2.2.2=0 then(o.1,name,kind,o.2.2.2.1,o.2.2.2.2,1) else(e.1,e.2.1,e.2.2.1,e.2.2.2.1,e.2.2.2.2.1,e.2.2.2.2.2+1)) else e
def yN(kind:Int)(pkg name:BA):eU:=(if kind=3 then eA else pkg,name,kind,eA,0,0)
def nW(O:List qR)(kind:Int)(pkg name:BA):eU:=O.foldl (nM kind pkg name) (yN kind pkg name)
theorem ND{k k':Int}{p p' n n':BA}(h:qP k p n=qP k' p' n'):k=k'/\n=n'/\(k=3\/p=p'):=by
 simp only[qP,Prod.mk.injEq] at h
 obtain⟨rfl,a,b⟩:=h
 refine⟨rfl,b,?_⟩
 by_cases h:k=3
 .exact .inl h
 rw[jA h,jA h] at a;exact .inr a
def MapE(M:List (K3×eU))(O:List qR):Prop:=
 (M.map (·.1)).Nodup/\∀kind pkg name,eL M (qP kind pkg name)=if(nW O kind pkg name).2.2.2.2.2=0 then none else some (nW O kind pkg name)
theorem XM(kind:Int)(pkg name:BA):∀(O:List qR),0<=(nW O kind pkg name).2.2.2.2.2/\(nW O kind pkg name).2.2.2.2.2<=O.length/\((nW O kind pkg name).2.2.2.2.2=0->nW O kind pkg name=yN kind pkg name):=by
 suffices h:∀(O:List qR) (e:eU) (b:Nat),0<=e.2.2.2.2.2/\e.2.2.2.2.2<=b/\(e.2.2.2.2.2=0->e=yN kind pkg name)->
   0<=(O.foldl (nM kind pkg name) e).2.2.2.2.2/\(O.foldl (nM kind pkg name) e).2.2.2.2.2<=(b+O.length:Nat)/\((O.foldl (nM kind pkg name) e).2.2.2.2.2=0->O.foldl (nM kind pkg name) e=yN kind pkg name) by
  intro O
  have:=h O (yN kind pkg name) 0 ⟨dO _,dO _,λ_=>rfl⟩
  rw[gA] at this
  exact this
 intro O
 induction O with
 |nil=>intro e b h;exact h
 |cons o O c=>
  intro e b h
  rw[kD]
  have:=c (nM kind pkg name e o) (b+1) (by
   unfold nM
   split
   .split
    .exact⟨(by show(0:Int)<=1;decide),by show(1:Int)<=_;omega,λh=>by simp at h⟩
    rename_i hc
    refine⟨by show(0:Int)<=e.2.2.2.2.2+1;omega,by show e.2.2.2.2.2+1<=_;omega,λa=> ?_⟩
    have a:e.2.2.2.2.2+1=0:=a
    omega
   exact⟨h.1,by omega,h.2.2⟩)
  rw[jC,show b+(O.length+1)=b+1+O.length by omega]
  exact this
theorem MapE.step{M:List (K3×eU)}{O:List qR}(h:MapE M O)(f:O.length<1000000)(o:qR):MapE (tG M o) (O++[o]):=by
 refine⟨SR h.1 _ _,λkind pkg name=> ?_⟩
 have g:=XM kind pkg name O
 have c:nW (O++[o]) kind pkg name=nM kind pkg name (nW O kind pkg name) o:=by
  unfold nW;rw[fC];rfl
 unfold tG
 rw[SX h.1,c]
 by_cases hk:qP kind pkg name=vM o
 .rw[jB hk,<-hk,h.2 kind pkg name]
  unfold nM
  rw[jB hk.symm]
  obtain⟨a,b,d⟩:=ND hk
  by_cases hc:(nW O kind pkg name).2.2.2.2.2=0
  .rw[jB hc,jB hc,jA (show ¬(1:Int)=0 by decide),<-a,<-b]
  rw[jA hc,jA hc,jA (show ¬(nW O kind pkg name).2.2.2.2.2+1=0 by omega)]
  simp only[bP (show-9223372036854775808<=(nW O kind pkg name).2.2.2.2.2+1 by omega) aa]
 have a:nM kind pkg name (nW O kind pkg name) o=nW O kind pkg name:=by unfold nM;rw[jA (λe=>hk e.symm)]
 rw[jA hk,h.2 kind pkg name,a]
theorem MapE.fold{O:List qR}(a:O.length<1000000):MapE (O.foldl tG []) O:=by
 suffices h:∀(K:List qR) (M:List (K3×eU)) (J:List qR),J.length+K.length<1000000->MapE M J->MapE (K.foldl tG M) (J++K) by
  have:=h O [] [] (by simpa using a) ⟨hQ,λkind pkg name=>by rw[show(nW [] kind pkg name).2.2.2.2.2=0 from rfl,jB rfl];rfl⟩
  exact this
 intro K
 induction K with
 |nil=>intro M J _ h;rw[gH];exact h
 |cons o K c=>
  intro M J b h
  rw[kD,show J++o::K=(J++[o])++K by simp]
  simp only[jC] at b
  exact c _ _ ah (h.step aa o)
theorem He(path pkg:BA):∀(l:List Dl) (i:Nat),(qN path pkg i l).length=l.length
 |[],_=>rfl
 |_::l,i=>by simp only[qN,jC,He path pkg l]
theorem TB{L:List bT}{x:BA×Sr}(h:x∈iZ L):∃f∈L,sP f=true/\x=(f.1,(lS f.2).1):=by
 unfold iZ at h
 obtain⟨f,a,rfl⟩:=gW.1 h
 exact⟨f,(gM.1 a).1,(gM.1 a).2,rfl⟩
theorem Hl(L:List bT):(iZ L).length<=L.length:=by
 unfold iZ;rw[gN];exact fW _ _
theorem Hv:∀(l:List (BA×Sr)),(∀x∈l,x.2.2.2.length<=64)->(lW l).length<=64*l.length
 |[],_=>jN _
 |x::l,h=>by
  have:=Hv l λy a=>h y (jU _ a)
  have:=h x (jR ..)
  unfold lW at*
  rw[kX,jG,He,jC]
  omega
theorem Yt{L:List bT}(b:L.length<=64):(lW (iZ L)).length<1000000:=by
 have:=Hv (iZ L) λx a=>by
  obtain⟨f,_,_,rfl⟩:=TB a
  exact SZ
 have:=Hl L
 omega
def qO:eU:=(eA,eA,0,eA,0,0)
def bB(L:List bT)(kind:Int)(pkg name:BA):eU:=if nE L=0 then nW (lW (iZ L)) kind pkg name else qO
theorem NA{N:Nat}{L:List bT}(kind:Int)(pkg name:BA):xS N (lD L) kind pkg name=some (bB L kind pkg name):=by
 unfold xS lD bB
 by_cases hc:nE L=0
 .simp only[jB hc]
  rw[jA ae]
  simp only[Dq,j0]
  have b:=(MapE.fold (Yt (uI.1 hc).1)).2 kind pkg name
  have c:=XM kind pkg name (lW (iZ L))
  generalize a:cR (some ((lW (iZ L)).foldl tG [])) (qP kind pkg name)=q
  have a:q=if(nW (lW (iZ L)) kind pkg name).2.2.2.2.2=0 then none else some (nW (lW (iZ L)) kind pkg name):=a.symm.trans b
  by_cases h0:(nW (lW (iZ L)) kind pkg name).2.2.2.2.2=0
  .rw[jB h0] at a
   subst a
   rw[jA ae,c.2.2 h0];rfl
  rw[jA h0] at a
  subst a
  rw[jB (show(some (nW (lW (iZ L)) kind pkg name)).isSome=true from rfl)];rfl
 simp only[jA hc]
 rw[jB (show(!false)=true from rfl)];rfl
theorem XD{α τ σ β:Type}{L:List α}(enc:τ->Nat->σ){f:σ->Option (σ⊕β)}(g:Nat->τ->α->τ)(fin:τ->β)(I:Nat->τ->Prop)
  (a:∀t i,∀hi:i<L.length,I i t->f (enc t i)=some (.inl (enc (g i t L[i]) (i+1)))/\I (i+1) (g i t L[i]))
  (b:∀t,I L.length t->f (enc t L.length)=some (.inr (fin t))):∀(d i M:Nat) (t:τ),i+d=L.length->d<M->I i t->aC f M (enc t i)=some (fin (wE g i t (L.drop i)))/\I L.length (wE g i t (L.drop i))
 |_,_,0,_,_,h,_=>absurd h (kS _)
 |0,i,M+1,t,e,k,c=>by
  have hi:i=L.length:=by omega
  subst hi
  simp only[aC,b t c,j0,hU,wE]
  exact⟨trivial,c⟩
 |d+1,i,M+1,t,e,k,c=>by
  have hi:i<L.length:=by omega
  obtain⟨l,n⟩:=a t i hi c
  simp only[aC,l,j0]
  rw[zI hi]
  exact XD enc g fin I a b d (i+1) M _ aa aa n
def OL(L:List bT)(p:BA):Sr×Bool:=match(if nE L=0 then mF L p else none) with
 |some b=>if tE p then((lS b).1,decide ((lS b).2.2=0)) else(uO,false)
 |none=>(uO,false)
theorem Ee{N:Nat}{L:List bT}{p:BA}(a:1000005<N):LH N L p=some (OL L p):=by
 simp only[LH,XR p (show 100<N by omega),j0,Sa (show 100<N by omega),Vt _ a]
 unfold OL OC
 by_cases hc:nE L=0
 .rw[jB hc,jB hc]
  cases hg:mF L p with
  |none=>rfl
  |some b=>
   simp only[IF]
   by_cases hs:tE p=true
   .rw[jB hs,hs]
    simp only[kP,j9,jF,j0]
    congr 2
   have hs':tE p=false:=by simpa using hs
   rw[jA hs,hs']
   rfl
 rw[jA hc,jA hc];rfl
theorem Jd{L:List bT}(a:nE L=0){f:bT}(b:f∈L):(OL L f.1).2=sP f/\(sP f=true->(OL L f.1).1=(lS f.2).1):=by
 unfold OL
 rw[jB a,XH (uI.1 a).2.1 b]
 simp only[sP]
 by_cases hs:tE f.1=true
 .rw[jB hs,hs];exact⟨by simp,λ_=>rfl⟩
 rw[jA hs]
 have hs':tE f.1=false:=by simpa using hs
 rw[hs'];exact⟨rfl,λh=>by simp at h⟩
def zZ(t:List BA×List Sr)(f:bT):List BA×List Sr:=if sP f then(t.1++[f.1],t.2++[(lS f.2).1]) else t
theorem XK:∀(L:List bT) (P:List BA) (S:List Sr),L.foldl zZ (P,S)=(P++(iZ L).map (·.1),S++(iZ L).map (·.2))
 |[],P,S=>by simp[iZ]
 |f::L,P,S=>by
  rw[kD]
  by_cases h:sP f=true
  .have el:iZ (f::L)=(f.1,(lS f.2).1)::iZ L:=by unfold iZ;rw[gE,jB h];rfl
   rw[show zZ (P,S) f=(P++[f.1],S++[(lS f.2).1]) by unfold zZ;rw[jB h],XK L,el]
   simp
  have el:iZ (f::L)=iZ L:=by unfold iZ;rw[gE,jA h]
  rw[show zZ (P,S) f=(P,S) by unfold zZ;rw[jA h],XK L,el]
def mX(L:List bT):List (BA×Sr):=if nE L=0 then iZ L else[]
theorem XQ{N:Nat}{L:List bT}(c:1000005<N):GO N L=some ((mX L).map (·.1),(mX L).map (·.2)):=by
 simp only[GO,HC (show 100<N by omega),j0]
 unfold mX
 by_cases hc:nE L=0
 .rw[jA (by simp[hc]),jB hc]
  have d:=(uI.1 hc).1
  have h:=BD (L:=L) (λ(t:List BA×List Sr) (i:Nat)=>((i:Int),t.1,t.2)) (f:=LA N L)
   (λt f=> .inl (zZ t f)) (λt=>(t.1,t.2)) (λi t=>t.1.length<=i/\t.2.length<=i) (by
    intro t i hi a
    simp only[LA]
    rw[jB ad,eZ hi]
    have ew:wI ((i:Int)+1)=((i+1:Nat):Int):=by rw[bP aa aa];omega
    have b:=Jd hc (kE hi)
    simp only[j0,Ee c,ew,b.1]
    unfold zZ
    by_cases h1:sP L[i]=true
    .rw[jB h1,jB h1,lQ af aa]
     simp only[j0]
     rw[lQ af aa]
     simp only[j0,b.2 h1]
    .rw[jA h1,jA h1];rfl) (by
    intro t i hi t' a h
    cases h
    unfold zZ
    split
    .simp only[jG,jC,jD];omega
    .omega) (by
    intro t a
    simp only[LA]
    rw[jA ae]) (M:=N) (t:=([],[])) aa ⟨kK _,kK _⟩
  rw[show((0:Nat):Int)=0 from rfl] at h
  rw[h,DH zZ (λ_ _=>rfl),XK]
  simp only[kH,j0]
 rw[jB (by simpa using hc),jA hc];rfl
theorem Gf(kind:Int)(pkg name path p:BA):∀(l:List Dl) (i:Nat) (e:eU),
  wE (λi e (d:Dl)=>nM kind pkg name e (p,d.2.1,d.1,path,(i:Int))) i e l=(qN path p i l).foldl (nM kind pkg name) e
 |[],_,_=>rfl
 |d::l,i,e=>by simp only[wE,qN,kD];exact Gf kind pkg name path p l (i+1) _
theorem Mn{kind:Int}{pkg name path p:BA}(b:kind≠3)(c:p≠pkg):∀(l:List Dl) (i:Nat) (e:eU),(qN path p i l).foldl (nM kind pkg name) e=e
 |[],_,_=>rfl
 |d::l,i,e=>by
  have:nM kind pkg name e (p,d.2.1,d.1,path,(i:Int))=e:=by
   unfold nM
   rw[jA]
   intro h
   obtain⟨f,g,a⟩:=ND h
   rcases a with a|a
   .exact b (by rw[<-f];exact a)
   exact c a
  simp only[qN,kD,this]
  exact Mn b c l (i+1) e
def EntI(kind:Int)(name:BA)(b:Nat)(e:eU):Prop:=e.2.1=name/\e.2.2.1=kind/\0<=e.2.2.2.2.2/\e.2.2.2.2.2<=(b:Int)
theorem EntI.see{kind:Int}{pkg name:BA}{b:Nat}{e:eU}(h:EntI kind name b e)(o:qR):EntI kind name (b+1) (nM kind pkg name e o):=by
 obtain⟨a,c,d,f⟩:=h
 unfold nM
 split
 .split
  .exact⟨rfl,rfl,(by show(0:Int)<=1;decide),(by show(1:Int)<=_;omega)⟩
  exact⟨a,c,(by show(0:Int)<=e.2.2.2.2.2+1;omega),(by show e.2.2.2.2.2+1<=_;omega)⟩
 exact⟨a,c,d,by omega⟩
theorem Vu{N:Nat}{P:List BA×List Sr}{kind:Int}{pkg name path:BA}{s1:Int×BA×BA×Int×Int}{x:Sr}(s:bC P.1 s1.1=some path)(q:kind=3\/x.1=pkg)
  (v:x.2.2.length<=64) (t:1000<N) {b:Nat} (u:b<1000000) {e:eU} (c:EntI kind name b e):
  aC (FL N P kind name s1 x) N (0,e.1,e.2.2.2.1,e.2.2.2.2.1,e.2.2.2.2.2)=some (((qN path x.1 0 x.2.2).foldl (nM kind pkg name) e).1,((qN path x.1 0 x.2.2).foldl (nM kind pkg name) e).2.2.2.1,((qN path x.1 0 x.2.2).foldl (nM kind pkg name) e).2.2.2.2.1,((qN path x.1 0 x.2.2).foldl (nM kind pkg name) e).2.2.2.2.2)
  /\EntI kind name (b+64) ((qN path x.1 0 x.2.2).foldl (nM kind pkg name) e):=by
 have:=XD (L:=x.2.2) (λ(e:eU) (i:Nat)=>((i:Int),e.1,e.2.2.2.1,e.2.2.2.2.1,e.2.2.2.2.2)) (f:=FL N P kind name s1 x)
  (λi e (d:Dl)=>nM kind pkg name e (x.1,d.2.1,d.1,path,(i:Int))) (λe=>(e.1,e.2.2.2.1,e.2.2.2.2.1,e.2.2.2.2.2)) (λi e=>EntI kind name (b+i) e) (by
   intro e i hi c
   refine⟨?_,c.see _⟩
   obtain⟨n,o,p,r⟩:=c
   simp only[FL]
   rw[jB ad,eZ hi]
   have ew:wI ((i:Int)+1)=((i+1:Nat):Int):=by rw[bP aa aa];omega
   have ec:wI (e.2.2.2.2.2+1)=e.2.2.2.2.2+1:=bP aa aa
   simp only[j0,ew,ec,sF,s]
   have a:vM (x.1,(x.2.2[i]).2.1,(x.2.2[i]).1,path,(i:Int))=qP kind pkg name↔(x.2.2[i]).1=kind/\(x.2.2[i]).2.1=name:=by
    constructor
    .intro h;obtain⟨g,k,-⟩:=ND h;exact⟨g,k⟩
    rintro⟨g,k⟩
    unfold vM qP
    simp only[g,k]
    rcases q with rfl|rfl
    .rfl
    rfl
   unfold nM
   by_cases k:(x.2.2[i]).1=kind
   .rw[jB (show((x.2.2[i]).1==kind)=true by simp[k])]
    simp only[j0,j6]
    by_cases l:(x.2.2[i]).2.1=name
    .rw[jB l,jB (a.2 ⟨k,l⟩)]
     by_cases g:e.2.2.2.2.2=0
     .rw[jB (by simp[g]),jB g,g];rfl
     rw[jA (show ¬(e.2.2.2.2.2+1==1)=true by rw[kG];omega),jA g];rfl
    rw[jA l,jA (λh=>l (a.1 h).2)];rfl
   .rw[jA (show ¬((x.2.2[i]).1==kind)=true by simp[k])]
    simp only[j0,j9,jF]
    rw[jA (λh=>k (a.1 h).1)]) (by
   intro e _
   simp only[FL]
   rw[jA ae]) x.2.2.length 0 N e aa aa c
 rw[jX,Gf] at this
 refine⟨this.1,?_⟩
 obtain⟨n,o,p,r⟩:=this.2
 exact⟨n,o,p,by omega⟩
theorem Eh(kind:Int)(pkg name:BA):∀(l:List (BA×Sr)) (i:Nat) (e:eU),
  wE (λ_ e (x:BA×Sr)=>(qN x.1 x.2.1 0 x.2.2.2).foldl (nM kind pkg name) e) i e l=(lW l).foldl (nM kind pkg name) e
 |[],_,_=>rfl
 |x::l,i,e=>by
  simp only[wE,lW,kX,fC]
  exact Eh kind pkg name l (i+1) _
theorem TD{N:Nat}{l:List (BA×Sr)}(kind:Int)(pkg name:BA)(t:l.length<=64)(s:∀x∈l,x.2.2.2.length<=64)(r:1000<N):
  yZ N (l.map (·.1),l.map (·.2)) kind pkg name=some (nW (lW l) kind pkg name):=by
 unfold yZ
 have h:=XD (L:=l) (λ(e:eU) (i:Nat)=>((i:Int),e.1,e.2.2.2.1,e.2.2.2.2.1,e.2.2.2.2.2)) (f:=FM N (l.map (·.1),l.map (·.2)) kind pkg name)
  (λ_ e (x:BA×Sr)=>(qN x.1 x.2.1 0 x.2.2.2).foldl (nM kind pkg name) e) (λe=>(e.1,e.2.2.2.1,e.2.2.2.2.1,e.2.2.2.2.2)) (λi e=>EntI kind name (64*i) e) (by
   intro e i hi k
   have n:i<(l.map (·.1)).length:=by simpa using hi
   have o:i<(l.map (·.2)).length:=by simpa using hi
   have ew:wI ((i:Int)+1)=((i+1:Nat):Int):=by rw[bP aa aa];omega
   have ex:bC (l.map (·.1)) (i:Int)=some (l[i]).1:=by rw[eZ n];simp
   simp only[FM]
   rw[jB ad,eZ o]
   simp only[j0,ew,dP,sF]
   by_cases hs:kind≠3/\(l[i]).2.1≠pkg
   .rw[jB (show(kind !=3)=true by simp[hs.1])]
    simp only[j0]
    rw[jB (by simp[hs.2]),Mn hs.1 hs.2]
    refine⟨rfl,?_⟩
    obtain⟨g,c,a,d⟩:=k
    exact⟨g,c,a,by omega⟩
   .have d:kind=3\/(l[i]).2.1=pkg:=by
     by_cases h:kind=3
     .exact .inl h
     exact .inr (Decidable.byContradiction λc=>hs ⟨h,c⟩)
    have a:=Vu (N:=N) (P:=(l.map (·.1),l.map (·.2))) (s1:=((i:Int),e.1,e.2.2.2.1,e.2.2.2.2.1,e.2.2.2.2.2)) (x:=(l[i]).2) (path:=(l[i]).1) (pkg:=pkg) ex d (s _ (kE hi)) r (b:=64*i) aa k
    have q:(if(kind !=3)then some (!decide ((l[i]).2.1=pkg)) else some false:Option Bool)=some false:=by
     rcases d with h|h
     .rw[jA (by simp[h])]
     by_cases p:kind=3
     .rw[jA (by simp[p])]
     rw[jB (by simp[p]),jI h];rfl
    rw[q]
    simp only[j0,j9,jF,a.1]
    refine⟨trivial,?_⟩
    rw[show 64*(i+1)=64*i+64 by omega]
    exact a.2) (by
   intro e _
   simp only[FM]
   rw[jA ae]) l.length 0 N (yN kind pkg name) aa aa ⟨rfl,rfl,dO _,dO _⟩
 rw[jX,Eh] at h
 have a:(if(kind==3)then some (⟨#[]⟩:BA) else some pkg)=some (yN kind pkg name).1:=by
  unfold yN
  by_cases h:kind=3
  .rw[jB (by simp[h]),jB h];rfl
  rw[jA (by simp[h]),jA h]
 rw[a]
 simp only[j0]
 refine Eq.trans (kF (λz=>Option.bind z _) (show aC (FM N (l.map (·.1),l.map (·.2)) kind pkg name) N (0,(yN kind pkg name).1,(⟨#[]⟩:BA),0,0)=_ from h.1)) ?_
 have g:=h.2.1
 have c:=h.2.2.1
 unfold nW
 simp only[j0]
 exact kF some (Prod.ext rfl (Prod.ext g.symm (Prod.ext c.symm rfl)))
theorem zP(L:List bT):(mX L).length<=64/\∀x∈mX L,x.2.2.2.length<=64:=by
 unfold mX
 by_cases hc:nE L=0
 .rw[jB hc]
  refine⟨gC (Hl L) (uI.1 hc).1,λx a=> ?_⟩
  obtain⟨f,_,_,rfl⟩:=TB a
  exact SZ
 rw[jA hc];exact⟨kK _,λx a=>by cases a⟩
theorem Em{N:Nat}{L:List bT}(kind:Int)(pkg name:BA)(a:1000005<N):GM N L kind pkg name=some (bB L kind pkg name):=by
 simp only[GM,HC (show 100<N by omega),j0]
 unfold bB
 by_cases hc:nE L=0
 .rw[jA (by simp[hc]),jB hc,XQ a]
  simp only[j0]
  rw[TD kind pkg name (zP L).1 (zP L).2 aa]
  simp only[j0]
  rw[show mX L=iZ L by unfold mX;rw[jB hc]]
 rw[jB (by simpa using hc),jA hc];rfl
def oX(E:BA->eU)(name:BA):List BA->List K3->eU×List K3×Int
 |[],acc=>(qO,acc,11)
 |p::l,acc=>
  if(E p).2.2.2.2.2=0 then oX E name l (acc++[(1,p,name)])
  else if 1<(E p).2.2.2.2.2 then(qO,acc++[(1,p,name)],12)
  else(E p,acc++[(1,p,name)],0)
theorem uY(L:List bT)(kind:Int)(pkg name:BA):0<=(bB L kind pkg name).2.2.2.2.2:=by
 unfold bB
 split
 .exact(XM kind pkg name _).1
 exact dO _
def pI(E:BA->eU)(name:BA)(x:eU)(acc:List K3):List BA->eU×List K3×Nat
 |[]=>(x,acc,0)
 |p::l=>if(E p).2.2.2.2.2>0 then(E p,acc++[(1,p,name)],1) else pI E name (E p) (acc++[(1,p,name)]) l
def IW(r:eU×List K3×Nat):eU×List K3×Int:=
 if r.1.2.2.2.2.2=0 then(qO,r.2.1,11) else if 1<r.1.2.2.2.2.2 then(qO,r.2.1,12) else(r.1,r.2.1,0)
theorem Jw{E:BA->eU}(a:∀p,0<=(E p).2.2.2.2.2)(name:BA):∀(l:List BA) (x:eU) (acc:List K3),x.2.2.2.2.2=0->IW (pI E name x acc l)=oX E name l acc
 |[],x,acc,b=>by unfold pI IW oX;rw[jB b]
 |p::l,x,acc,b=>by
  unfold pI oX
  have h:=a p
  by_cases h0:(E p).2.2.2.2.2=0
  .rw[jA aa,jB h0];exact Jw a name l _ _ h0
  rw[jB aa,jA h0]
  unfold IW
  simp only
  rw[jA h0]
theorem Gx{E:BA->eU}(name:BA):∀(l:List BA) (x:eU) (acc:List K3),(pI E name x acc l).2.2=0\/(pI E name x acc l).2.2=1
 |[],x,acc=> .inl rfl
 |p::l,x,acc=>by
  unfold pI
  split
  .exact .inr rfl
  exact Gx name l _ _
theorem Fb{N:Nat}{L:List bT}{f:Sr}{name:BA}(e:f.2.1.length<1000):∀(d i M:Nat) (x:eU) (acc:List K3),i+d=f.2.1.length->d<M->acc.length<=i+1->
  aC (LW N (lD L) f name) M ((i:Int),x.1,x.2.1,x.2.2.1,x.2.2.2.1,x.2.2.2.2.1,x.2.2.2.2.2,acc)=
  some (match(pI (λp=>bB L 1 p name) name x acc (f.2.1.drop i)).2.2 with
   |0=> .inl ((pI (λp=>bB L 1 p name) name x acc (f.2.1.drop i)).1.1,(pI (λp=>bB L 1 p name) name x acc (f.2.1.drop i)).1.2.1,(pI (λp=>bB L 1 p name) name x acc (f.2.1.drop i)).1.2.2.1,(pI (λp=>bB L 1 p name) name x acc (f.2.1.drop i)).1.2.2.2.1,(pI (λp=>bB L 1 p name) name x acc (f.2.1.drop i)).1.2.2.2.2.1,(pI (λp=>bB L 1 p name) name x acc (f.2.1.drop i)).1.2.2.2.2.2,(pI (λp=>bB L 1 p name) name x acc (f.2.1.drop i)).2.1)
   |n+1=> .inr ((pI (λp=>bB L 1 p name) name x acc (f.2.1.drop i)).1.1,(pI (λp=>bB L 1 p name) name x acc (f.2.1.drop i)).1.2.1,(pI (λp=>bB L 1 p name) name x acc (f.2.1.drop i)).1.2.2.1,(pI (λp=>bB L 1 p name) name x acc (f.2.1.drop i)).1.2.2.2.1,(pI (λp=>bB L 1 p name) name x acc (f.2.1.drop i)).1.2.2.2.2.1,(pI (λp=>bB L 1 p name) name x acc (f.2.1.drop i)).1.2.2.2.2.2,(pI (λp=>bB L 1 p name) name x acc (f.2.1.drop i)).2.1,n+1))
 |_,_,0,_,_,_,h,_=>absurd h (kS _)
 |0,i,M+1,x,acc,a,b,c=>by
  simp only[aC,LW]
  rw[jA ad,jO aa]
  rfl
 |d+1,i,M+1,x,acc,a,b,c=>by
  have hi:i<f.2.1.length:=by omega
  simp only[aC,LW]
  rw[jB ad,eZ hi,zI hi]
  have ew:wI ((i:Int)+1)=((i+1:Nat):Int):=by rw[bP aa aa];omega
  simp only[j0,ew]
  rw[lQ af aa]
  simp only[j0]
  have eW:∀w:Wld,(w.1,w.2.1,w.2.2.1,w.2.2.2.1,w.2.2.2.2)=w:=λ_=>rfl
  simp only[eW,NA,j0,pI]
  by_cases h:(bB L 1 (f.2.1[i]) name).2.2.2.2.2>0
  .rw[jB (jI h),jB h]
   rfl
  rw[jA (by simpa using h),jA h]
  simp only[j0]
  exact Fb e d (i+1) M _ _ aa aa ah
theorem Ya{N:Nat}{L:List bT}{f:Sr}{name:BA}(e:f.2.1.length<1000)(g:1000<N):GU N (lD L) f name=some (oX (λp=>bB L 1 p name) name (f.1::f.2.1) []):=by
 rw[<-Jw (λp=>uY L 1 p name) name (f.1::f.2.1) qO [] rfl]
 unfold GU
 rw[lQ af aa]
 have eW:∀w:Wld,(w.1,w.2.1,w.2.2.1,w.2.2.2.1,w.2.2.2.2)=w:=λ_=>rfl
 simp only[j0,eW,NA,pI,kH]
 have fin:∀(r:eU×List K3×Nat),(r.2.2=0\/r.2.2=1)->
   (if r.2.2=0 then(if(r.1.2.2.2.2.2==0)then some (((⟨#[]⟩:BA),(⟨#[]⟩:BA),(0:Int),(⟨#[]⟩:BA),(0:Int),(0:Int)),r.2.1,(11:Int)) else(if(decide (r.1.2.2.2.2.2>1))then some (((⟨#[]⟩:BA),(⟨#[]⟩:BA),(0:Int),(⟨#[]⟩:BA),(0:Int),(0:Int)),r.2.1,(12:Int)) else some (r.1,r.2.1,(0:Int))))
    else(if r.2.2=1 then(if(r.1.2.2.2.2.2==0)then some (((⟨#[]⟩:BA),(⟨#[]⟩:BA),(0:Int),(⟨#[]⟩:BA),(0:Int),(0:Int)),r.2.1,(11:Int)) else(if(decide (r.1.2.2.2.2.2>1))then some (((⟨#[]⟩:BA),(⟨#[]⟩:BA),(0:Int),(⟨#[]⟩:BA),(0:Int),(0:Int)),r.2.1,(12:Int)) else some (r.1,r.2.1,(0:Int)))) else none))=some (IW r):=by
  intro r a
  have key:(if(r.1.2.2.2.2.2==0)then some (((⟨#[]⟩:BA),(⟨#[]⟩:BA),(0:Int),(⟨#[]⟩:BA),(0:Int),(0:Int)),r.2.1,(11:Int)) else(if(decide (r.1.2.2.2.2.2>1))then some (((⟨#[]⟩:BA),(⟨#[]⟩:BA),(0:Int),(⟨#[]⟩:BA),(0:Int),(0:Int)),r.2.1,(12:Int)) else some (r.1,r.2.1,(0:Int))))=some (IW r):=by
   unfold IW
   by_cases h0:r.1.2.2.2.2.2=0
   .rw[jB (by simp[h0]),jB h0];rfl
   rw[jA (by simp[h0]),jA h0]
   by_cases h1:1<r.1.2.2.2.2.2
   .rw[jB (jI h1),jB h1];rfl
   rw[jA (by simpa using h1),jA h1]
  rcases a with a|a
  .rw[jB a];exact key
  rw[jA aa,jB a];exact key
 by_cases h:(bB L 1 f.1 name).2.2.2.2.2>0
 .rw[jB (jI h),jB h]
  exact fin (bB L 1 f.1 name,[(1,f.1,name)],1) (.inr rfl)
 rw[jA (by simpa using h),jA h]
 have c:=Fb (N:=N) (L:=L) (f:=f) (name:=name) e f.2.1.length 0 N (bB L 1 f.1 name) [(1,f.1,name)] aa aa ae
 rw[show((0:Nat):Int)=0 from rfl,jX] at c
 rw[c]
 have a:=Gx (E:=λp=>bB L 1 p name) name f.2.1 (bB L 1 f.1 name) [(1,f.1,name)]
 have b:=fin _ a
 revert b
 generalize pI (λp=>bB L 1 p name) name (bB L 1 f.1 name) [(1,f.1,name)] f.2.1=r at a ⊢
 obtain⟨k,l,d⟩:=r
 intro b
 rcases a with a|a
 .have a:d=0:=a
  subst a
  exact b
 have a:d=1:=a
 subst a
 exact b
theorem Dy{N:Nat}{L:List bT}{name:BA}{l:List BA}(b:nE L=0)(n:l.length<1000)(g:1000005<N):∀(d i M:Nat) (acc:List K3),i+d=l.length->d<M->acc.length<=i->
  (aC (KO N ((mX L).map (·.1),(mX L).map (·.2)) name l) M (acc,(i:Int))).bind (λc=>(match c with| .inl o=>some (((⟨#[]⟩:BA),(⟨#[]⟩:BA),(0:Int),(⟨#[]⟩:BA),(0:Int),(0:Int)),o,(11:Int))| .inr (z)=>some z))=
  some (oX (λp=>bB L 1 p name) name (l.drop i) acc)
 |_,_,0,_,_,h,_=>absurd h (kS _)
 |0,i,M+1,acc,a,e,f=>by
  simp only[aC,KO]
  rw[jA ad,jO aa]
  rfl
 |d+1,i,M+1,acc,a,e,f=>by
  have hi:i<l.length:=by omega
  have k:∀p,yZ N ((mX L).map (·.1),(mX L).map (·.2)) 1 p name=some (bB L 1 p name):=by
   intro p
   rw[TD 1 p name (zP L).1 (zP L).2 aa]
   unfold bB mX
   rw[jB b,jB b]
  simp only[aC,KO]
  rw[jB ad,eZ hi,zI hi]
  have ew:wI ((i:Int)+1)=((i+1:Nat):Int):=by rw[bP aa aa];omega
  simp only[j0,ew]
  rw[lQ af aa]
  simp only[j0,k,oX]
  have q:=uY L 1 (l[i]) name
  by_cases h0:(bB L 1 (l[i]) name).2.2.2.2.2=0
  .rw[jA (show ¬((bB L 1 (l[i]) name).2.2.2.2.2==1)=true by rw[h0];decide),jA (show ¬decide ((bB L 1 (l[i]) name).2.2.2.2.2>1)=true by rw[h0];decide),jB h0]
   simp only[j0]
   exact Dy b n g d (i+1) M _ aa aa ah
  rw[jA h0]
  by_cases a:1<(bB L 1 (l[i]) name).2.2.2.2.2
  .rw[jA (show ¬((bB L 1 (l[i]) name).2.2.2.2.2==1)=true by rw[kG];omega),jB (jI a),jB a];rfl
  rw[jB (show((bB L 1 (l[i]) name).2.2.2.2.2==1)=true by rw[kG];omega),jA a];rfl
theorem Fh{N:Nat}{w:Wld}{p:BA}(e:w.1.length<1000000):∀(d i M:Nat),i+d=w.1.length->d<M->aC (LO N w p) M (i:Int)=some (match mF (w.1.drop i) p with|some b=> .inr (b,true)|none=> .inl ())
 |_,_,0,_,h=>by omega
 |0,i,M+1,c,_=>by
  simp only[aC,LO]
  rw[jA ad,jO aa]
  rfl
 |d+1,i,M+1,c,f=>by
  have hi:i<w.1.length:=by omega
  simp only[aC,LO]
  rw[jB ad,eZ hi,jM hi]
  simp only[j0,sF,j6,mF]
  by_cases he:(w.1[i]).1=p
  .rw[jB he,jB he];rfl
  rw[jA he,jA he,bP aa aa]
  have a:(i:Int)+1=((i+1:Nat):Int):=by omega
  simp only[j0]
  rw[a,Fh e d (i+1) M aa aa]
theorem Im{N:Nat}{L:List bT}(p:BA)(b:L.length<=64)(a:100<N):xT N (lD L) p=some (IF (mF L p)):=by
 have e:(lD L).1=L:=by unfold lD;split<;>rfl
 have:=Fh (N:=N) (w:=lD L) (p:=p) (by rw[e];omega) (lD L).1.length 0 N aa (by rw[e];omega)
 rw[show((0:Nat):Int)=0 from rfl,jX,e] at this
 simp only[xT,this,j0]
 cases mF L p<;>rfl
end
section
open Go Go.Dc
def Ok{α:Type}(x:Option α)(Q:α->Prop):Prop:=∃a,x=some a/\Q a
variable {α β γ:Type} {Q:β->Prop}
theorem Ok.mk{a:β}(h:Q a):Ok (some a) Q:=⟨a,rfl,h⟩
theorem Ok.bind{x:Option α}{P:α->Prop}{f:α->Option β}(h:Ok x P)(k:∀a,P a->Ok (f a) Q):Ok (x.bind f) Q:=by
 obtain⟨a,rfl,b⟩:=h
 exact k a b
theorem Ok.mono{x:Option β}{P:β->Prop}(h:Ok x P)(k:∀a,P a->Q a):Ok x Q:=by
 obtain⟨a,e,b⟩:=h
 exact⟨a,e,k a b⟩
theorem Ok.assoc{x:Option α}{g:α->Option γ}{f:γ->Option β}(h:Ok (x.bind λa=>(g a).bind f) Q):Ok ((x.bind g).bind f) Q:=by
 rw[fA];exact h
theorem Ok.ite{c:Prop}[Decidable c]{x y:Option β}(a:c->Ok x Q)(b:¬c->Ok y Q):Ok (if c then x else y) Q:=by
 by_cases h:c
 .rw[jB h];exact a h
 rw[jA h];exact b h
theorem Ok.iteb{c:Prop}[Decidable c]{x y:Option α}{f:α->Option β}(a:c->Ok (x.bind f) Q)(b:¬c->Ok (y.bind f) Q):Ok ((if c then x else y).bind f) Q:=by
 by_cases h:c
 .rw[jB h];exact a h
 rw[jA h];exact b h
theorem Ok.tt[Decidable (true=true)]{x y:Option β}(h:Ok x Q):Ok (if true then x else y) Q:=by rw[jB rfl];exact h
theorem Ok.ff[Decidable (false=true)]{x y:Option β}(h:Ok y Q):Ok (if false then x else y) Q:=by rw[jA gO];exact h
theorem Ok.ttb[Decidable (true=true)]{x y:Option α}{f:α->Option β}(h:Ok (x.bind f) Q):Ok ((if true then x else y).bind f) Q:=by rw[jB rfl];exact h
theorem Ok.ffb[Decidable (false=true)]{x y:Option α}{f:α->Option β}(h:Ok (y.bind f) Q):Ok ((if false then x else y).bind f) Q:=by rw[jA gO];exact h
theorem Ok.someb{a:α}{f:α->Option β}(h:Ok (f a) Q):Ok ((some a).bind f) Q:=h
theorem Ok.mapb{a:α}{g:α->γ}{f:γ->Option β}(h:Ok (f (g a)) Q):Ok (((some a).map g).bind f) Q:=h
theorem Ok.cat{x y:BA}{f:BA->Option β}(a:x.size+y.size<=1000000000)(h:∀s:BA,s.size=x.size+y.size->Ok (f s) Q):Ok ((eO x y).bind f) Q:=by
 unfold eO
 rw[jB (by simp only[maxLen];omega)]
 exact h _ ae
theorem Ok.app{b:Nat}{l k:List α}{f:List α->Option β}(c:(l.length+k.length)*b<=140737488355328)(a:0<b)(h:Ok (f (l++k)) Q):Ok ((iK b l k).bind f) Q:=by
 rw[lQ c a];exact h
theorem Ok.loop{σ:Type}{f:σ->Option (σ⊕α)}{g:α->Option β}{s:σ}{N:Nat}(I:σ->Prop)(μ:σ->Nat)(R:α->Prop)
  (h:∀s,I s->Ok (f s) λr=>match r with| .inl s'=>I s'/\μ s'<μ s| .inr b=>R b) (d:I s) (e:μ s<N) (k:∀b,R b->Ok (g b) Q):Ok ((aC f N s).bind g) Q:=by
 obtain⟨b,c,a⟩:=ZA I μ R (λs d=>by
  obtain⟨r,c,a⟩:=h s d
  cases r with
  |inl s'=>exact .inr ⟨s',c,a.1,a.2⟩
  |inr b=>exact .inl ⟨b,c,a⟩) N s d e
 rw[c];exact k b a
theorem qL(a:Array UInt8):(⟨a⟩:BA).size=a.size:=rfl
theorem Zt{N:Nat}{v n:Int}(d:n<=9223372036854775807):∃r,SC N v n=some r/\0<=r/\(1<=n->r<n):=by
 simp only[SC]
 by_cases h:n<=1
 .exact⟨0,by simp[h],by omega,by omega⟩
 have a:n≠0:=by omega
 have b:=Int.tmod_lt_of_pos v (show 0<n by omega)
 have c:=Int.lt_tmod_of_pos v (show 0<n by omega)
 simp only[h,decide_false,j9,jF,wH,a,j0]
 by_cases h3:Int.tmod v n<0
 .refine⟨Int.tmod v n+n,?_,by omega,by omega⟩
  simp only[h3,decide_true,jH,j0]
  rw[bP aa aa]
 exact⟨Int.tmod v n,by simp only[h3,decide_false,j9,jF,j0],by omega,by omega⟩
theorem NE{N:Nat}{l:List Int}{a n:Int}(c:0<=a)(o:a<4611686018427387904)(f:n<=9223372036854775807):∃r,qX N (l,a) n=some ((l,a+1),r)/\0<=r/\(1<=n->r<n):=by
 simp only[qX]
 have b:∃v,(if(decide (a<(List.length l:Int)))then((bC l a).bind λk=>some k) else(some (Int.tmod (wI (a*7)) 11)):Option Int)=some v:=by
  by_cases h:a<(l.length:Int)
  .exact⟨_,by simp only[h,decide_true,jH];rw[YY c aa];rfl⟩
  exact⟨_,by simp only[h,decide_false,j9,jF];rfl⟩
 obtain⟨v,b⟩:=b
 obtain⟨r,g,d,e⟩:=Zt (N:=N) (v:=v) f
 exact⟨r,by simp only[b,j0,g];rw[bP aa aa],d,e⟩
variable {N:Nat} {l:List Int} {a:Int}
theorem Ok.next{n:Int}{f:(List Int×Int)×Int->Option β}(d:0<=a)(e:a<4611686018427387904)(g:1<=n)(o:n<=1000000)(h:∀r,0<=r->r<n->Ok (f ((l,a+1),r)) Q):Ok ((qX N (l,a) n).bind f) Q:=by
 obtain⟨r,k,b,c⟩:=NE (N:=N) (l:=l) d e (show n<=9223372036854775807 by omega)
 rw[k];exact h r b (c g)
theorem Ok.chance{n m:Int}{f:(List Int×Int)×Bool->Option β}(b:0<=a)(c:a<4611686018427387904)(o:1<=m)(e:m<=1000000)(h:∀r,Ok (f ((l,a+1),r)) Q):Ok ((uF N (l,a) n m).bind f) Q:=by
 obtain⟨r,d,g,k⟩:=NE (N:=N) (l:=l) b c (show m<=9223372036854775807 by omega)
 simp only[uF,d,j0]
 exact h _
theorem Ok.one{L:List BA}{f:(List Int×Int)×BA->Option β}(e:0<=a)(g:a<4611686018427387904)(o:0<L.length)(n:L.length<1000)(h:∀x∈L,Ok (f ((l,a+1),x)) Q):Ok ((oV N (l,a) L).bind f) Q:=by
 obtain⟨r,k,d,c⟩:=NE (N:=N) (l:=l) e g (show(L.length:Int)<=9223372036854775807 by omega)
 have c:=c aa
 have b:r.toNat<L.length:=by omega
 simp only[oV]
 rw[jA (by rw[kG];omega),k]
 simp only[j0]
 rw[YY d b]
 exact h _ (kE b)
theorem Ok.oneP{L:List BA}{f:(List Int×Int)×BA->Option β}(d:0<=a)(e:a<4611686018427387904)(g:decide ((List.length L:Int)>0)=true)(b:L.length<1000)(c:∀x∈L,x.size<=12)(h:∀x:BA,x.size<=12->Ok (f ((l,a+1),x)) Q):Ok ((oV N (l,a) L).bind f) Q:=
 Ok.one d e (by have:=gU g;omega) b λx k=>h x (c x k)
theorem Ok.oneS{L:List BA}{f:(List Int×Int)×BA->Option β}(c:0<=a)(d:a<4611686018427387904)(b:(decide (0<L.length)&&decide (L.length<1000)&&L.all λx=>decide (x.size<=12))=true)(h:∀x:BA,x.size<=12->Ok (f ((l,a+1),x)) Q):Ok ((oV N (l,a) L).bind f) Q:=by
 simp only[jS,j6] at b
 exact Ok.one c d b.1.1 b.1.2 λx e=>h x (by simpa using jW.1 b.2 x e)
theorem Ok.pick{L:List Int}{f:(List Int×Int)×Int->Option β}(e:0<=a)(g:a<4611686018427387904)(o:0<L.length)(n:L.length<1000)(h:∀x∈L,Ok (f ((l,a+1),x)) Q):Ok ((xR N (l,a) L).bind f) Q:=by
 obtain⟨r,k,d,c⟩:=NE (N:=N) (l:=l) e g (show(L.length:Int)<=9223372036854775807 by omega)
 have c:=c aa
 have b:r.toNat<L.length:=by omega
 simp only[xR]
 rw[jA (by rw[kG];omega),k]
 simp only[j0]
 rw[YY d b]
 exact h _ (kE b)
theorem Ok.pickS{L:List Int}{f:(List Int×Int)×Int->Option β}(c:0<=a)(d:a<4611686018427387904)(b:(decide (0<L.length)&&decide (L.length<1000)&&L.all λx=>decide (0<=x/\x<=9007199254740992))=true)(h:∀x:Int,0<=x->x<=9007199254740992->Ok (f ((l,a+1),x)) Q):Ok ((xR N (l,a) L).bind f) Q:=by
 simp only[jS,j6] at b
 exact Ok.pick c d b.1.1 b.1.2 λx e=>by
  have:=jW.1 b.2 x e
  simp only[j6] at this
  exact h x this.1 this.2
theorem ZH:∀(k D:Nat) (x:Int),k<D->k<=100->0<=x->x<10^(k+1)->x<=9223372036854775806->Ok (LD N D x) λs=>s.size<=k+1
 |_,0,_,h,_,_,_,_=>absurd h (kS _)
 |k,D+1,x,l,f,a,e,g=>by
  show Ok (RK N (LD N D) x) _
  unfold RK
  have b:ByteArray.size (⟨#[48,49,50,51,52,53,54,55,56,57]⟩:BA)=10:=rfl
  by_cases hx:x<10
  .rw[jB (by simpa using hx),bP aa aa,MR a aa aa]
   refine Ok.mk ?_
   simp only[ByteArray.size_extract,b];omega
  rw[jA (by simpa using hx)]
  obtain⟨k,rfl⟩:∃k',k=k'+1:=by
   cases k with
   |zero=>simp at e;omega
   |succ k=>exact⟨k,rfl⟩
  obtain⟨D,rfl⟩:∃D',D=D'+1:=⟨D-1,by omega⟩
  have c:Int.tdiv x 10=x/10:=Int.tdiv_eq_ediv_of_nonneg a
  have d:Int.tmod x 10=x%10:=Int.tmod_eq_emod_of_nonneg a
  have n:(10:Int)^(k+1+1)=10*10^(k+1):=by rw[Int.pow_succ];omega
  rw[c,d,bP aa aa]
  refine Ok.bind (ZH k (D+1) (x/10) aa aa aa aa aa) λs o=> ?_
  refine Ok.bind (ZH 0 (D+1) (x%10) aa aa aa ah aa) λt p=> ?_
  exact Ok.cat aa λu q=>Ok.mk aa
theorem Yb{x:Int}(a:0<=x)(b:x<=9007199254740992)(c:100<N):Ok (wS N x) λs=>s.size<=16:=
 ZH 15 N x aa aa a (by rw[show(10:Int)^(15+1)=10000000000000000 from by kernel_rfl];omega) aa
theorem Ok.digits{x:Int}{f:BA->Option β}(a:0<=x)(b:x<=9007199254740992)(c:100<N)(h:∀s:BA,s.size<=16->Ok (f s) Q):Ok ((wS N x).bind f) Q:=Ok.bind (Yb a b c) h
def rD:Nat->Nat
 |0=>8
 |d+1=>3*rD d+8
def uQ:Nat->Nat
 |0=>22
 |d+1=>3*uQ d+20
theorem Jo:∀d,22<=uQ d
 |0=>jN _
 |d+1=>by have:=Jo d;simp only[uQ];omega
def DN(N:Nat)(l:List Int)(E:(List Int×Int)->Int->List BA->Option ((List Int×Int)×BA))(d:Nat)(ps:List BA):Prop:=
 ∀a:Int,0<=a->a+rD d<2000000000000000000->Ok (E (l,a) (d:Int) ps) λy=>∃a' s,y=((l,a'),s)/\a<=a'/\a'<=a+rD d/\s.size<=uQ d
theorem Ok.expr{β:Type}{Q:β->Prop}{E:(List Int×Int)->Int->List BA->Option ((List Int×Int)×BA)}{d:Nat}{ps:List BA}(n:DN N l E d ps){a:Int}{f:(List Int×Int)×BA->Option β}(g:0<=a)(k:a+rD d<2000000000000000000)
  (h:∀(a':Int) (s:BA),a<=a'->a'<=a+rD d->s.size<=uQ d->Ok (f ((l,a'),s)) Q):Ok ((E (l,a) (d:Int) ps).bind f) Q:=
 Ok.bind (n a g k) λy o=>by
  obtain⟨a',s,rfl,b,c,e⟩:=o
  exact h a' s b c e
theorem Fc(d:Nat)(a:d<=5):rD d<=10000/\uQ d<=20000:=by
 match d,a with
 |0,_=>decide
 |1,_=>decide
 |2,_=>decide
 |3,_=>decide
 |4,_=>decide
 |5,_=>decide
set_option maxHeartbeats 4000000 in
theorem Xi{E:(List Int×Int)->Int->List BA->Option ((List Int×Int)×BA)}{d:Nat}{ps:List BA}(g:d=0)(c:ps.length<1000)(b:∀x∈ps,x.size<=12)(e:100<N):DN N l (GH N E) d ps:=by
 subst g
 intro a n o
 have f:rD 0=8:=rfl
 have k:uQ 0=22:=rfl
 simp only[GH,f,k,AU,RE]
 rw[jB (show decide (((0:Nat):Int)<=0)=true by decide)]
 repeat' first
  |with_reducible apply Ok.tt
  |with_reducible apply Ok.ff
  |with_reducible apply Ok.ttb
  |with_reducible apply Ok.ffb
  |with_reducible apply Ok.assoc
  |((with_reducible apply Ok.iteb)<;>intro _)
  |((with_reducible apply Ok.ite)<;>intro _)
  |with_reducible apply Ok.someb
  |with_reducible apply Ok.mapb
  |((with_reducible refine Ok.mk ⟨_,_,rfl,?_,?_,?_⟩)<;>omega)
  |((with_reducible refine Ok.next ?_ ?_ ?_ ?_ (λ_ _ _=> ?_))<;>try omega)
  |((with_reducible refine Ok.chance ?_ ?_ ?_ ?_ (λ_=> ?_))<;>try omega)
  |((with_reducible refine Ok.pickS ?_ ?_ ac (λ_ _ _=> ?_))<;>try omega)
  |((with_reducible refine Ok.oneP ?_ ?_ ai c b (λ_ _=> ?_))<;>try omega)
  |((with_reducible refine Ok.oneS ?_ ?_ ac (λ_ _=> ?_))<;>try omega)
  |((with_reducible refine Ok.digits ?_ ?_ e (λ_ _=> ?_))<;>try omega)
  |((with_reducible refine Ok.cat ?_ (λ_ h=> ?_))<;>simp only[qL,jT,jC,jD,Nat.reduceAdd] at* <;>try omega)
  |((with_reducible refine Ok.cat ?_ (λ_ _=> ?_))<;>try omega)
  |(apply Ok.iteb<;>intro _)
  |dsimp only
 all_goals omega
theorem Ok.pick01{β:Type}{Q:β->Prop}{a:Int}{f:(List Int×Int)×Int->Option β}(b:0<=a)(c:a<4611686018427387904)(h:∀x:Int,x=0\/x=1->Ok (f ((l,a+1),x)) Q):Ok ((xR N (l,a) [0,0,0,1]).bind f) Q:=
 Ok.pick b c ac ac λx d=>h x (by simp at d;omega)
theorem Ok.exprloop{β:Type}{Q:β->Prop}{E:(List Int×Int)->Int->List BA->Option ((List Int×Int)×BA)}{d:Nat}{ps:List BA}(r:DN N l E d ps)(x:d<=5){p1:Int}(y:wI (p1-1)=(d:Int)){s:BA}{n a:Int}{f:BA×List Int×Int->Option β}
  (D:n=0\/n=1) (p:0<=a) (q:a+rD d<2000000000000000000) (F:s.size<=100000000) (B:100<N) (h:∀(s':BA) (a':Int),a<=a'->a'<=a+rD d->s'.size<=s.size+uQ d+2->Ok (f (s',l,a')) Q):Ok ((aC (RQ N E p1 ps) N (s,n,l,a)).bind f) Q:=by
 have A:=Fc d x
 refine Ok.loop (λst=>∃s' n' a',st=(s',n',l,a')/\((n'=n/\a'=a/\s'=s)\/(n'=0/\a<=a'/\a'<=a+rD d/\s'.size<=s.size+uQ d+2))) (λst=>st.2.1.toNat) (λb=>∃s' a',b=(s',l,a')/\a<=a'/\a'<=a+rD d/\s'.size<=s.size+uQ d+2) ?_ ⟨s,n,a,rfl,.inl ⟨rfl,rfl,rfl⟩⟩ ak ?_
 .rintro _ ⟨s',n',a',rfl,k⟩
  simp only[RQ]
  by_cases hn0:n'>0
  .rw[jB (by simpa using hn0),y]
   have k:n'=n/\a'=a/\s'=s:=k.resolve_right λh=>by omega
   obtain⟨rfl,rfl,rfl⟩:=k
   refine Ok.expr r p q λo t c e g=> ?_
   refine Ok.cat (by simp only[qL,jT,jC,jD,Nat.reduceAdd];omega) λu z=> ?_
   simp only[qL,jT,jC,jD,Nat.reduceAdd] at z
   refine Ok.cat aa λv G=> ?_
   refine Ok.mk ⟨⟨v,_,o,rfl,.inr ⟨by rw[bP aa aa];omega,c,e,by omega⟩⟩,?_⟩
   simp only
   rw[bP aa aa]
   omega
  rw[jA (by simpa using hn0)]
  refine Ok.mk ⟨s',a',rfl,?_⟩
  rcases k with ⟨_,rfl,rfl⟩|⟨_,c,e,g⟩
  .omega
  exact⟨c,e,g⟩
 rintro _ ⟨s',a',rfl,c,e,g⟩
 exact h s' a' c e g
set_option maxHeartbeats 8000000 in
theorem Yi{E:(List Int×Int)->Int->List BA->Option ((List Int×Int)×BA)}{d:Nat}{ps:List BA}(c:DN N l E d ps)(s:d<=4)(f:ps.length<1000)(b:∀x∈ps,x.size<=12)(e:100<N):DN N l (GH N E) (d+1) ps:=by
 intro a q r
 have k:rD (d+1)=3*rD d+8:=rfl
 have n:uQ (d+1)=3*uQ d+20:=rfl
 have o:=Jo d
 have p:=Fc d aa
 have g:wI (((d+1:Nat):Int)-1)=(d:Int):=by rw[bP aa aa];omega
 simp only[GH,k,n,AU,RE,KU,g]
 repeat' first
  |with_reducible apply Ok.tt
  |with_reducible apply Ok.ff
  |with_reducible apply Ok.ttb
  |with_reducible apply Ok.ffb
  |with_reducible apply Ok.assoc
  |((with_reducible apply Ok.iteb)<;>intro _)
  |((with_reducible apply Ok.ite)<;>intro _)
  |with_reducible apply Ok.someb
  |with_reducible apply Ok.mapb
  |((with_reducible refine Ok.mk ⟨_,_,rfl,?_,?_,?_⟩)<;>omega)
  |((with_reducible refine Ok.next ?_ ?_ ?_ ?_ (λ_ _ _=> ?_))<;>try omega)
  |((with_reducible refine Ok.chance ?_ ?_ ?_ ?_ (λ_=> ?_))<;>try omega)
  |((with_reducible refine Ok.pick01 ?_ ?_ (λ_ _=> ?_))<;>try omega)
  |((with_reducible refine Ok.exprloop c aa g ai ?_ ?_ ?_ e (λ_ _ _ _ _=> ?_))<;>try omega)
  |((with_reducible refine Ok.expr c ?_ ?_ (λ_ _ _ _ _=> ?_))<;>try omega)
  |((with_reducible refine Ok.pickS ?_ ?_ ac (λ_ _ _=> ?_))<;>try omega)
  |((with_reducible refine Ok.oneP ?_ ?_ ai f b (λ_ _=> ?_))<;>try omega)
  |((with_reducible refine Ok.oneS ?_ ?_ ac (λ_ _=> ?_))<;>try omega)
  |((with_reducible refine Ok.digits ?_ ?_ e (λ_ _=> ?_))<;>try omega)
  |((with_reducible refine Ok.cat ?_ (λ_ h=> ?_))<;>simp only[qL,jT,jC,jD,Nat.reduceAdd] at* <;>try omega)
  |((with_reducible refine Ok.cat ?_ (λ_ _=> ?_))<;>try omega)
  |(apply Ok.iteb<;>intro _)
  |dsimp only
 all_goals omega
theorem Me:∀(d D:Nat) (ps:List BA),d<D->d<=5->ps.length<1000->(∀x∈ps,x.size<=12)->100<N->DN N l (LR N D) d ps
 |_,0,_,h,_,_,_,_=>absurd h (kS _)
 |0,D+1,ps,_,_,a,b,c=>Xi (E:=LR N D) rfl a b c
 |d+1,D+1,ps,h,e,a,b,c=>Yi (Me d D ps aa aa a b c) aa a b c
theorem Kx{d:Nat}{ps:List BA}(e:d<=5)(a:ps.length<1000)(b:∀x∈ps,x.size<=12)(c:100<N):DN N l (CX N) d ps:=Me d N ps aa e a b c
theorem Ok.expr3{β:Type}{Q:β->Prop}{ps:List BA}{a:Int}{f:(List Int×Int)×BA->Option β}(g:100<N)(e:0<=a)(o:a+10000<2000000000000000000)(b:ps.length<=2/\∀x∈ps,x.size<=12)
  (h:∀(a':Int) (s:BA),a<=a'->a'<=a+10000->s.size<=854->Ok (f ((l,a'),s)) Q):Ok ((CX N (l,a) 3 ps).bind f) Q:=
 Ok.expr (d:=3) (Kx aa aa b.2 g) e (by have:rD 3=320:=rfl;have:rD 2=104:=rfl;omega) λa' s c k n=>h a' s c (by have:rD 3=320:=rfl;omega) (by have:uQ 3=854:=rfl;omega)
theorem Ok.expr2{β:Type}{Q:β->Prop}{ps:List BA}{a:Int}{f:(List Int×Int)×BA->Option β}(g:100<N)(e:0<=a)(o:a+10000<2000000000000000000)(b:ps.length<=2/\∀x∈ps,x.size<=12)
  (h:∀(a':Int) (s:BA),a<=a'->a'<=a+10000->s.size<=854->Ok (f ((l,a'),s)) Q):Ok ((CX N (l,a) 2 ps).bind f) Q:=
 Ok.expr (d:=2) (Kx aa aa b.2 g) e (by have:rD 3=320:=rfl;have:rD 2=104:=rfl;omega) λa' s c k n=>h a' s c (by have:rD 2=104:=rfl;omega) (by have:uQ 2=278:=rfl;omega)
set_option maxHeartbeats 8000000 in
theorem qCf{a:Int}(b:100<N)(c:0<=a)(d:a<1000000000000000000):Ok (GQ N (l,a)) λy=>∃a' s,y=((l,a'),s)/\a<=a'/\a'<=a+10010/\s.size<=890:=by
 simp only[GQ,LT,AU,KU]
 repeat' first
  |with_reducible apply Ok.tt
  |with_reducible apply Ok.ff
  |with_reducible apply Ok.ttb
  |with_reducible apply Ok.ffb
  |with_reducible apply Ok.assoc
  |((with_reducible apply Ok.iteb)<;>intro _)
  |((with_reducible apply Ok.ite)<;>intro _)
  |with_reducible apply Ok.someb
  |with_reducible apply Ok.mapb
  |((with_reducible refine Ok.mk ⟨_,_,rfl,?_,?_,?_⟩)<;>omega)
  |((with_reducible refine Ok.next ?_ ?_ ?_ ?_ (λ_ _ _=> ?_))<;>try omega)
  |((with_reducible refine Ok.chance ?_ ?_ ?_ ?_ (λ_=> ?_))<;>try omega)
  |((with_reducible refine Ok.expr3 b ?_ ?_ ?_ (λ_ _ _ _ _=> ?_))<;>first|omega|exact⟨by decide,by decide⟩|skip)
  |((with_reducible refine Ok.expr2 b ?_ ?_ ?_ (λ_ _ _ _ _=> ?_))<;>first|omega|exact⟨by decide,by decide⟩|skip)
  |(with_reducible refine Ok.app ae ac ?_)
  |((with_reducible refine Ok.pickS ?_ ?_ ac (λ_ _ _=> ?_))<;>try omega)
  |((with_reducible refine Ok.oneS ?_ ?_ ac (λ_ _=> ?_))<;>try omega)
  |((with_reducible refine Ok.digits ?_ ?_ b (λ_ _=> ?_))<;>try omega)
  |((with_reducible refine Ok.cat ?_ (λ_ h=> ?_))<;>simp only[qL,jT,jC,jD,Nat.reduceAdd] at* <;>try omega)
  |((with_reducible refine Ok.cat ?_ (λ_ _=> ?_))<;>try omega)
  |(apply Ok.iteb<;>intro _)
  |dsimp only
 all_goals omega
theorem qDx{L:List BA}{x:BA}(a:L.length<1000000)(c:L.length<N):Ok (GS N L x) λ_=>True:=by
 unfold GS
 refine Ok.loop (λst=>∃j:Nat,st=(j:Int)/\j<=L.length) (λst=>L.length-st.toNat) (λ_=>True) ?_ ⟨0,rfl,kK _⟩ (by show L.length-(0:Int).toNat<N;omega) ?_
 .rintro _ ⟨j,rfl,d⟩
  simp only[WC]
  by_cases h:j<L.length
  .rw[jB (by simpa using h),eZ h]
   simp only[j0]
   refine Ok.ite (λ_=>Ok.mk trivial) λ_=>Ok.mk ⟨⟨j+1,by rw[bP aa aa];omega,by omega⟩,?_⟩
   rw[bP aa aa];omega
  rw[jA (by simpa using h)];exact Ok.mk trivial
 intro b _
 cases b<;>exact Ok.mk trivial
theorem Ok.has{β:Type}{Q:β->Prop}{L:List BA}{x:BA}{f:Bool->Option β}(a:L.length<1000000)(c:L.length<N)(h:∀b,Ok (f b) Q):Ok ((GS N L x).bind f) Q:=Ok.bind (qDx a c) λb _=>h b
theorem Ok.decl{β:Type}{Q:β->Prop}{a:Int}{f:(List Int×Int)×BA->Option β}(k:100<N)(e:0<=a)(g:a<1000000000000000000)
  (h:∀(a':Int) (s:BA),a<=a'->a'<=a+10010->s.size<=890->Ok (f ((l,a'),s)) Q):Ok ((GQ N (l,a)).bind f) Q:=
 Ok.bind (qCf k e g) λy n=>by
  obtain⟨a',s,rfl,b,c,d⟩:=n
  exact h a' s b c d
theorem qCr{β:Type}{Q:β->Prop}{y:(List Int×Int)×BA}{f:BA->Option β}(d:y.2.size<=890)(a:3000<N)(h:∀s:BA,Ok (f s) Q):Ok ((aC (RH N y) N (y.2,0)).bind f) Q:=by
 refine Ok.loop (λst=>∃j:Nat,st.2=(j:Int)/\j<=y.2.size) (λst=>y.2.size-st.2.toNat) (λ_=>True) ?_ ⟨0,rfl,kK _⟩ ak (λb _=>h b)
 rintro⟨s,_⟩ ⟨j,rfl,c⟩
 simp only[RH]
 by_cases hlt:j<y.2.size
 .rw[jB (by simpa using hlt),ZN hlt]
  simp only[j0]
  refine Ok.bind (P:=λ_=>True) (Ok.ite (λ_=>Ok.mk trivial) λ_=>Ok.mk trivial) λb _=> ?_
  refine Ok.ite (λ_=> ?_) λ_=> ?_
  .rw[MR aa aa aa];exact Ok.mk trivial
  refine Ok.mk ⟨⟨j+1,by simp only;rw[bP aa aa];omega,by omega⟩,?_⟩
  simp only;rw[bP aa aa];omega
 rw[jA (by simpa using hlt)];exact Ok.mk trivial
theorem XY{a:Int}{pk:BA}(D:3000<N)(A:0<=a)(h1:a<100000000000000000)(hp:pk.size<=12):Ok (CS N (l,a) pk) λy=>∃a' s,y=((l,a'),s)/\a<=a'/\a'<=a+100000/\s.size<=4700:=by
 simp only[CS]
 refine Ok.cat (by simp only[qL,jT,jC,jD,Nat.reduceAdd];omega) λs1 q=> ?_
 simp only[qL,jT,jC,jD,Nat.reduceAdd] at q
 refine Ok.cat (by simp only[qL,jT,jC,jD,Nat.reduceAdd];omega) λs2 u=> ?_
 simp only[qL,jT,jC,jD,Nat.reduceAdd] at u
 refine Ok.chance A aa aa aa λc=> ?_
 refine Ok.bind (P:=λs:BA=>s.size<=60) (Ok.ite (λ_=>Ok.cat (by simp only[qL,jT,jC,jD,Nat.reduceAdd];omega) λs3 h=>Ok.mk (by simp only[qL,jT,jC,jD,Nat.reduceAdd] at h;omega)) λ_=>Ok.mk aa) λR h=> ?_
 dsimp only
 refine Ok.next aa aa aa aa λr z g2=> ?_
 dsimp only
 -- imports
 refine Ok.loop (λst=>∃s L n a',st=(s,L,n,l,a')/\0<=n/\n<=2/\(L.length:Int)+n<=2/\(s.size:Int)<=60+30*(2-n)/\a<=a'/\a'<=a+10+(2-n)) (λst=>st.2.2.1.toNat) (λb=>∃s a',b=(s,l,a')/\s.size<=120/\a<=a'/\a'<=a+20) ?_ ⟨R,[],r,a+1+1,rfl,z,by omega,by simp only[jD];omega,by omega,by omega,by omega⟩ ak ?_
 .rintro _ ⟨s,L,n,a',rfl,F,G,H,K,f,M⟩
  simp only[VV,yX]
  by_cases hn:n>0
  .rw[jB (by simpa using hn)]
   refine Ok.assoc (Ok.someb ?_)
   refine Ok.assoc (Ok.oneS aa aa ac λx E=> ?_)
   dsimp only
   refine Ok.assoc (Ok.bind (P:=λ_=>True) (Ok.ite (λ_=>Ok.has aa aa λb=>Ok.mk trivial) λ_=>Ok.mk trivial) λo4 _=> ?_)
   refine Ok.iteb (λ_=> ?_) λ_=> ?_
   .refine Ok.assoc (Ok.app af ac ?_)
    refine Ok.assoc (Ok.cat (by simp only[qL,jT,jC,jD,Nat.reduceAdd];omega) λt1 k=> ?_)
    simp only[qL,jT,jC,jD,Nat.reduceAdd] at k
    refine Ok.assoc (Ok.cat (by simp only[qL,jT,jC,jD,Nat.reduceAdd];omega) λt2 e=> ?_)
    simp only[qL,jT,jC,jD,Nat.reduceAdd] at e
    refine Ok.assoc (Ok.cat aa λg v=>Ok.someb (Ok.mk ?_))
    dsimp only
    rw[bP aa aa]
    exact⟨⟨g,_,_,_,rfl,by omega,by omega,by simp only[jG,jC,jD];omega,by omega,by omega,by omega⟩,by omega⟩
   refine Ok.someb (Ok.mk ?_)
   dsimp only
   rw[bP aa aa]
   exact⟨⟨s,_,_,_,rfl,by omega,by omega,by omega,by omega,by omega,by omega⟩,by omega⟩
  rw[jA (by simpa using hn)]
  exact Ok.mk ⟨s,a',rfl,by omega,f,by omega⟩
 rintro _ ⟨s,p,rfl,q1,q2,q3⟩
 dsimp only
 refine Ok.next aa aa aa aa λr2 g3 g4=> ?_
 dsimp only
 -- declarations
 refine Ok.loop (λst=>∃s L n a',st=(s,L,n,l,a')/\0<=n/\n<=5/\(L.length:Int)+n<=5/\(s.size:Int)<=120+890*(5-n)/\a<=a'/\a'<=a+100+10020*(5-n)) (λst=>st.2.2.1.toNat) (λb=>∃s a',b=(s,l,a')/\s.size<=4580/\a<=a'/\a'<=a+60000) ?_ ⟨s,[],_,p+1,rfl,by rw[bP aa aa];omega,by rw[bP aa aa];omega,by rw[bP aa aa];simp only[jD];omega,by rw[bP aa aa];omega,by omega,by rw[bP aa aa];omega⟩ (by simp only;rw[bP aa aa];omega) ?_
 .rintro _ ⟨s,L,n,a',rfl,F,G,H,K,f,M⟩
  simp only[VT]
  by_cases hn:n>0
  .rw[jB (by simpa using hn)]
   refine Ok.assoc (Ok.decl aa aa aa λe d v1 v2 U=> ?_)
   refine Ok.assoc (qCr (y:=((l,e),d)) U D λhd=> ?_)
   dsimp only
   refine Ok.assoc (Ok.bind (P:=λo:Bool×List Int×Int=>o.2.1=l/\e<=o.2.2/\o.2.2<=e+1) (Ok.has aa aa λb=>Ok.ite (λ_=>Ok.mk ⟨rfl,by simp only;omega,by simp only;omega⟩) λ_=>Ok.chance aa aa aa aa λc=>Ok.mk ⟨rfl,by simp only;omega,by simp only;omega⟩) λS B=> ?_)
   obtain⟨b9,l9,Z⟩:=S
   obtain⟨rfl,V,Y⟩:=B
   dsimp only at V Y ⊢
   refine Ok.iteb (λ_=> ?_) λ_=> ?_
   .refine Ok.assoc (Ok.app af ac ?_)
    refine Ok.assoc (Ok.cat aa λg v=>Ok.someb (Ok.mk ?_))
    dsimp only
    rw[bP aa aa]
    exact⟨⟨g,_,_,_,rfl,by omega,by omega,by simp only[jG,jC,jD];omega,by omega,by omega,by omega⟩,by omega⟩
   refine Ok.someb (Ok.mk ?_)
   dsimp only
   rw[bP aa aa]
   exact⟨⟨s,_,_,_,rfl,by omega,by omega,by omega,by omega,by omega,by omega⟩,by omega⟩
  rw[jA (by simpa using hn)]
  exact Ok.mk ⟨s,a',rfl,by omega,f,by omega⟩
 rintro _ ⟨s,e,rfl,f,g,v⟩
 dsimp only
 refine Ok.chance aa aa aa aa λc=> ?_
 dsimp only
 refine Ok.iteb (λ_=> ?_) λ_=> ?_
 .refine Ok.assoc (Ok.oneS aa aa ac λx E=> ?_)
  dsimp only
  refine Ok.assoc (Ok.cat aa λt k=>Ok.someb (Ok.mk ?_))
  dsimp only
  refine⟨_,_,rfl,?_,?_,?_⟩<;>omega
 refine Ok.someb (Ok.mk ?_)
 dsimp only
 refine⟨_,_,rfl,?_,?_,?_⟩<;>omega
theorem ML{N:Nat}{L:List bT}{p b:BA}(s:L.length<1000000)(n:Asc L):∀(d i M:Nat) (done:Bool) (acc:List bT),i+d=L.length->d<M->acc.length<=i+done.toNat->(done=true->∀f∈L.drop i,f.1≠p)->
  Ok (aC (KY N L (p,b)) M (done,(i:Int),acc)) λo=>o.2.length<=L.length+1/\(if o.1 then o.2 else o.2++[(p,b)])=acc++(if done then L.drop i else pR (L.drop i) p b)
 |_,_,0,_,_,_,h,_,_=>by omega
 |0,i,M+1,done,acc,v,_,g,_=>by
  refine⟨(done,acc),?_,by simp only;cases done<;>simp only[Bool.toNat_true,Bool.toNat_false] at g<;>omega,?_⟩
  .simp only[aC,KY]
   rw[jA ad]
   rfl
  rw[jO aa]
  cases done<;>simp[pR]
 |d+1,i,M+1,done,acc,v,x,g,r=>by
  have hi:i<L.length:=by omega
  have u:(i:Int)+1=((i+1:Nat):Int):=by omega
  have t:∀f∈L.drop (i+1),blt (L[i]).1 f.1=true:=by
   have:=(jY.1 (by rw[<-jM hi];exact List.Pairwise.sublist (List.drop_sublist _ _) n:Asc (L[i]::L.drop (i+1)))).1
   exact this
  simp only[aC,KY]
  rw[jB ad,eZ hi,bP aa aa,u]
  rw[jM hi] at r ⊢
  simp only[j0,sF]
  cases done with
  |true=>
   simp only[Bool.toNat_true] at g
   have a:=r rfl _ (jR ..)
   have k:=ML (N:=N) (p:=p) (b:=b) s n d (i+1) M true (acc++[((L[i]).1,(L[i]).2)]) aa aa ah (λh f q=>r rfl f (jU _ q))
   simp only[kP,j9,jF,j0]
   rw[jB (by simp[a]),lQ af aa]
   simp only[j0]
   refine k.mono λo c=>⟨c.1,?_⟩
   rw[c.2];simp only[jH,kU,dA,kH]
  |false=>
   simp only[Bool.toNat_false] at g
   simp only[kI,jH,j0]
   rcases TE p (L[i]).1 with h|h|h
   .have h':Op.bytesLess p.toList (L[i]).1.toList=true:=h
    have a:(L[i]).1≠p:=λe=>NO h e.symm
    have k:=ML (N:=N) (p:=p) (b:=b) s n d (i+1) M true ((acc++[(p,b)])++[((L[i]).1,(L[i]).2)]) aa aa ah (λ_ f q e=>by
     have:=HK h (t f q);rw[e,DA] at this;cases this)
    rw[h',Bool.true_or,jB rfl,lQ af aa]
    simp only[j0]
    rw[jB (by simp[a]),lQ aj aa]
    simp only[j0]
    refine k.mono λo c=>⟨c.1,?_⟩
    have l:pR (L[i]::L.drop (i+1)) p b=(p,b)::L[i]::L.drop (i+1):=by rw[pR,jB h]
    rw[c.2,l];simp only[jH,kU,dA,kH,j9,jF]
   .have k:=ML (N:=N) (p:=p) (b:=b) s n d (i+1) M true (acc++[(p,b)]) aa aa ah (λ_ f q e=>by
     have:=t f q;rw[<-h,e,DA] at this;cases this)
    rw[jI h,Bool.or_true,jB rfl,lQ af aa]
    simp only[j0]
    rw[jA (by simp[h])]
    simp only[j0]
    refine k.mono λo c=>⟨c.1,?_⟩
    have l:pR (L[i]::L.drop (i+1)) p b=(p,b)::L.drop (i+1):=by rw[pR,jA (by rw[h,DA];simp),jB h.symm]
    rw[c.2,l];simp only[jH,kU,dA,kH,j9,jF]
   have a:(L[i]).1≠p:=NO h
   have h':Op.bytesLess p.toList (L[i]).1.toList=false:=Hf h
   have k:=ML (N:=N) (p:=p) (b:=b) s n d (i+1) M false (acc++[((L[i]).1,(L[i]).2)]) aa aa ah (λh=>by cases h)
   rw[h',jP (λe=>a e.symm),Bool.or_false,jA ae]
   simp only[j0]
   rw[jB (by simp[a]),lQ af aa]
   simp only[j0]
   refine k.mono λo c=>⟨c.1,?_⟩
   have l:pR (L[i]::L.drop (i+1)) p b=L[i]::pR (L.drop (i+1)) p b:=by rw[pR,jA (by rw[show blt p (L[i]).1=false from h'];simp),jA a]
   rw[c.2,l];simp only[kU,dA,kH,j9,jF]
theorem zN{N:Nat}{L:List bT}(p b:BA)(g:L.length<1000000)(f:Asc L)(e:L.length<N):uG N L (p,b)=some (pR L p b):=by
 obtain⟨o,c,k,a⟩:=ML (N:=N) (p:=p) (b:=b) g f L.length 0 N false [] aa e ae (λh=>by cases h)
 simp only[uG]
 rw[show((0:Nat):Int)=0 from rfl] at c
 rw[c]
 simp only[jX,kH,j9,jF] at a
 simp only[j0]
 cases d:o.1 with
 |true=>rw[d] at a;simp only[jH] at a;simp[a]
 |false=>
  rw[d] at a
  simp only[j9,jF] at a
  simp only[kI,jH]
  rw[lQ af aa,a]
  rfl
def srcL:List BA:=[(⟨#[97,46,115,114,99]⟩:BA),(⟨#[98,46,115,114,99]⟩:BA),(⟨#[100,47,99,46,115,114,99]⟩:BA),(⟨#[120,46,115,114,99]⟩:BA)]
def datL:List BA:=[(⟨#[97,46,100,97,116]⟩:BA),(⟨#[100,47,98,46,100,97,116]⟩:BA),(⟨#[99]⟩:BA)]
theorem Ko:(srcL.all λp=>mV p.data.toList)=true:=by kernel_rfl
theorem Lp:(datL.all λp=>mV p.data.toList)=true:=by kernel_rfl
def Made(L:List bT):Prop:=Asc L/\∀f∈L,f.1∈srcL++datL/\f.2.size<=4700
theorem Made.put{L:List bT}(h:Made L){p b:BA}(d:p∈srcL++datL)(c:b.size<=4700):Made (pR L p b):=
 ⟨h.1.put p b,λf a=>by
  rcases TT a with rfl|a
  .exact⟨d,c⟩
  exact h.2 f a⟩
theorem Made.path{L:List bT}(h:Made L){f:bT}(a:f∈L):mV f.1.data.toList=true:=by
 rcases fD.1 (h.2 f a).1 with h|h
 .exact jW.1 Ko _ h
 exact jW.1 Lp _ h
theorem qAh{N:Nat}{y1:List BA}{s1:Int×(List (BA×BA))×List (Int)×Int}:QM N y1 s1=
 if(decide (s1.1<(List.length y1:Int)))then(((bC y1 s1.1).bind λc=>(uF N (s1.2.2.1,s1.2.2.2) 3 4).bind λa=>if a.2 then((yX N).bind λd=>(oV N (a.1.1,a.1.2) d).bind λb=>(CS N (b.1.1,b.1.2) b.2).bind λy5=>(uG N s1.2.1 (c,y5.2)).bind λe=>some (e,y5.1.1,y5.1.2)) else(some (s1.2.1,a.1.1,a.1.2)):Option ((List (BA×BA))×List (Int)×Int)).bind λo2=>some (.inl (wI (s1.1+1),o2.1,o2.2.1,o2.2.2))) else(some (.inr (s1.2.1,s1.2.2.1,s1.2.2.2))):=rfl
theorem qAq{N:Nat}{s2:Int×(List (BA×BA))×List (Int)×Int}:VM N s2=
 if(decide (s2.1<(List.length datL:Int)))then(((bC datL s2.1).bind λc=>(uF N (s2.2.2.1,s2.2.2.2) 1 3).bind λa=>if a.2 then((GP N (a.1.1,a.1.2)).bind λb=>(uG N s2.2.1 (c,b.2)).bind λd=>some (d,b.1.1,b.1.2)) else(some (s2.2.1,a.1.1,a.1.2)):Option ((List (BA×BA))×List (Int)×Int)).bind λo4=>some (.inl (wI (s2.1+1),o4.1,o4.2.1,o4.2.2))) else(some (.inr (s2.2.1,s2.2.2.1,s2.2.2.2))):=rfl
theorem Wp(l:List UInt8):(sS l).size=l.length:=by simp[sS,ByteArray.size]
theorem Ku{N:Nat}{l:List Int}{a:Int}(p:100<N)(k:0<=a)(o:a<1000000000000000000):Ok (GP N (l,a)) λy=>∃a' s,y=((l,a'),s)/\a<=a'/\a'<=a+10/\s.size<=10:=by
 simp only[GP]
 refine Ok.next aa aa aa aa λr g h=> ?_
 dsimp only
 simp only[VO]
 refine Ok.assoc ?_
 refine Ok.loop (λst=>∃L n a',st=(L,n,l,a')/\0<=n/\n<=r/\(L.length:Int)=n/\a<=a'/\a'<=a+1+n) (λst=>(r-st.2.1).toNat) (λb=>∃L a',b=(L,l,a')/\L.length<=4/\a<=a'/\a'<=a+5) ?_ ⟨[],0,a+1,rfl,by omega,by omega,rfl,by omega,by omega⟩ (by dsimp only;omega) ?_
 .rintro _ ⟨L,n,a',rfl,t,u,v,x,z⟩
  have c:ByteArray.size (⟨#[97,98,0,255,48]⟩:BA)=5:=rfl
  simp only[VK,c]
  by_cases hn:n<r
  .rw[jB (by simpa using hn)]
   refine Ok.next aa aa aa aa λq d v2=> ?_
   dsimp only
   have e:q.toNat<ByteArray.size (⟨#[97,98,0,255,48]⟩:BA):=by rw[c];omega
   have f:lH (⟨#[97,98,0,255,48]⟩:BA) q=some ((⟨#[97,98,0,255,48]⟩:BA)[q.toNat]):=by
    have:=ZN e
    rw[Int.toNat_of_nonneg d] at this
    exact this
   rw[f]
   refine Ok.someb (Ok.app af ac (Ok.mk ?_))
   dsimp only
   rw[bP aa aa]
   exact⟨⟨_,_,_,rfl,by omega,by omega,by simp only[jG,jC,jD];omega,by omega,by omega⟩,by omega⟩
  rw[jA (by simpa using hn)]
  exact Ok.mk ⟨L,a',rfl,by omega,by omega,by omega⟩
 rintro _ ⟨L,a',rfl,d,v2,c⟩
 refine Ok.someb (Ok.mk ?_)
 dsimp only
 refine⟨_,_,rfl,?_,?_,?_⟩
 .omega
 .omega
 rw[Wp];omega
theorem Uj{N:Nat}{l:List Int}{a:Int}(k:3000<N)(z:0<=a)(A:a<10000000000000000):Ok (RM N (l,a)) λy=>∃a' L,y=((l,a'),L)/\a<=a'/\a'<=a+1000000/\Made L/\L.length<=7:=by
 simp only[RM,LK]
 refine Ok.someb ?_
 show Ok ((aC (QM N srcL) N (0,[],l,a)).bind _) _
 refine Ok.loop (λst=>∃(n:Nat) (L:List bT) (a':Int),st=((n:Int),L,l,a')/\n<=4/\L.length<=n/\Made L/\a<=a'/\a'<=a+100010*n) (λst=>4-st.1.toNat) (λb=>∃L a',b=(L,l,a')/\L.length<=4/\Made L/\a<=a'/\a'<=a+500000) ?_ ⟨0,[],a,rfl,by omega,by simp,⟨List.Pairwise.nil,by simp⟩,by omega,by omega⟩ (by dsimp only;omega) ?_
 .rintro _ ⟨n,L,a',rfl,p,q,e,r,t⟩
  rw[qAh]
  have d:srcL.length=4:=rfl
  dsimp only
  by_cases hn:n<4
  .rw[jB (by simp only[j6,d];omega),eZ (l:=srcL) aa]
   refine Ok.assoc (Ok.someb ?_)
   refine Ok.assoc (Ok.chance aa aa aa aa λc=> ?_)
   dsimp only
   refine Ok.iteb (λ_=> ?_) λ_=> ?_
   .refine Ok.assoc (Ok.someb ?_)
    refine Ok.assoc (Ok.oneS aa aa ac λx h=> ?_)
    dsimp only
    refine Ok.assoc (Ok.bind (XY k aa aa h) ?_)
    rintro _ ⟨f,s,rfl,v,v2,g⟩
    dsimp only
    rw[zN _ _ aa e.1 aa]
    refine Ok.assoc (Ok.someb (Ok.someb (Ok.mk ?_)))
    dsimp only
    have o:=SS L (srcL[n]) s
    refine⟨⟨n+1,_,_,by rw[bP aa aa];rfl,by omega,by omega,e.put (gF _ (kE _)) g,by omega,by omega⟩,?_⟩
    rw[bP aa aa];omega
   refine Ok.someb (Ok.mk ?_)
   dsimp only
   refine⟨⟨n+1,_,_,by rw[bP aa aa];rfl,by omega,by omega,e,by omega,by omega⟩,?_⟩
   rw[bP aa aa];omega
  rw[jA (by simp only[j6,d];omega)]
  exact Ok.mk ⟨L,a',rfl,by omega,e,by omega,by omega⟩
 rintro _ ⟨L1,h,rfl,B,u,D,E⟩
 dsimp only
 refine Ok.loop (λst=>∃(n:Nat) (L:List bT) (a':Int),st=((n:Int),L,l,a')/\n<=3/\L.length<=4+n/\Made L/\a<=a'/\a'<=a+500000+20*n) (λst=>3-st.1.toNat) (λb=>∃L a',b=(L,l,a')/\L.length<=7/\Made L/\a<=a'/\a'<=a+600000) ?_ ⟨0,L1,h,rfl,by omega,by omega,u,by omega,by omega⟩ (by dsimp only;omega) ?_
 .rintro _ ⟨n,L,a',rfl,p,q,e,r,t⟩
  rw[qAq]
  have d:datL.length=3:=rfl
  dsimp only
  by_cases hn:n<3
  .rw[jB (by simp only[j6,d];omega),eZ (l:=datL) aa]
   refine Ok.assoc (Ok.someb ?_)
   refine Ok.assoc (Ok.chance aa aa aa aa λc=> ?_)
   dsimp only
   refine Ok.iteb (λ_=> ?_) λ_=> ?_
   .refine Ok.assoc (Ok.bind (Ku aa aa aa) ?_)
    rintro _ ⟨f,s,rfl,v,v2,g⟩
    dsimp only
    rw[zN _ _ aa e.1 aa]
    refine Ok.assoc (Ok.someb (Ok.someb (Ok.mk ?_)))
    dsimp only
    have o:=SS L (datL[n]) s
    refine⟨⟨n+1,_,_,by rw[bP aa aa];rfl,by omega,by omega,e.put (List.mem_append_right _ (kE _)) aa,by omega,by omega⟩,?_⟩
    rw[bP aa aa];omega
   refine Ok.someb (Ok.mk ?_)
   dsimp only
   refine⟨⟨n+1,_,_,by rw[bP aa aa];rfl,by omega,by omega,e,by omega,by omega⟩,?_⟩
   rw[bP aa aa];omega
  rw[jA (by simp only[j6,d];omega)]
  exact Ok.mk ⟨L,a',rfl,by omega,e,by omega,by omega⟩
 rintro _ ⟨L2,f,rfl,d,e,g,o⟩
 refine Ok.mk ?_
 exact⟨f,L2,rfl,by omega,by omega,e,d⟩
theorem Made.wf{L:List bT}(h:Made L)(b:L.length<=64):WF L:=⟨b,h.1,λf a=>⟨h.path a,gC (h.2 f a).2 ac⟩⟩
def MadeE(K:Nat)(L:List bT):Prop:=Asc L/\∀f∈L,mV f.1.data.toList=true/\f.2.size<=K
theorem Made.e{L:List bT}(h:Made L):MadeE 4700 L:=⟨h.1,λf a=>⟨h.path a,(h.2 f a).2⟩⟩
theorem MadeE.put{K:Nat}{L:List bT}(h:MadeE K L){p b:BA}(d:mV p.data.toList=true)(c:b.size<=K):MadeE K (pR L p b):=
 ⟨h.1.put p b,λf a=>by
  rcases TT a with rfl|a
  .exact⟨d,c⟩
  exact h.2 f a⟩
theorem MadeE.del{K:Nat}{L:List bT}(h:MadeE K L)(p:BA):MadeE K (AE L p):=⟨h.1.del p,λf a=>h.2 f (gM.1 a).1⟩
theorem MadeE.more{K K':Nat}{L:List bT}(h:MadeE K L)(b:K<=K'):MadeE K' L:=⟨h.1,λf a=>⟨(h.2 f a).1,gC (h.2 f a).2 b⟩⟩
theorem MadeE.wf{K:Nat}{L:List bT}(h:MadeE K L)(b:K<=16384)(c:L.length<=64):WF L:=⟨c,h.1,λf a=>⟨(h.2 f a).1,gC (h.2 f a).2 b⟩⟩
theorem Hz{N:Nat}{L:List bT}{p:BA}(g:L.length<1000000)(d:L.length<N):LQ N L p=some (AE L p):=by
 have h:=BD (L:=L) (λ(t:List bT) i=>((i:Int),t)) (f:=KS N L p) (λt f=>(.inl (if decide (f.1≠p)then t++[f] else t):List bT⊕List bT)) (λt=>t) (λi t=>t.length<=i) (λt i hi e=>by
   have b:((i:Int)<(L.length:Int)):=by omega
   have w:wI ((i:Int)+1)=((i+1:Nat):Int):=by rw[bP aa aa];omega
   simp only[KS,b,decide_true,jH,eZ hi,j0,w,sF]
   by_cases hp:L[i].1=p
   .simp[hp]
   .simp only[hp,decide_false,kI,jH,dT,fX,decide_true]
    rw[lQ af ac]
    rfl) (λt i hi t' e c=>by
   simp only[Sum.inl.injEq] at c
   subst c
   split
   .simp only[jG,jC,jD];omega
   .omega) (λt _=>by
   have b:¬((L.length:Int)<(L.length:Int)):=by omega
   simp only[KS,b,decide_false,j9,jF]) (t:=[]) d (kK _)
 rw[show((0:Nat):Int)=0 from rfl] at h
 have b:=DH (step:=λ(t:List bT) (f:bT)=>(.inl (if decide (f.1≠p)then t++[f] else t):List bT⊕List bT)) (fin:=λt=>t) (λ(t:List bT) (f:bT)=>if decide (f.1≠p)then t++[f] else t) (λ_ _=>rfl) L []
 unfold LQ
 rw[h,b]
 simp only[j0]
 congr 1
 have:∀(a t:List bT),a.foldl (λt f=>if decide (f.1≠p)then t++[f] else t) t=t++AE a p:=by
  intro a
  induction a with
  |nil=>intro t;simp[AE]
  |cons x a c=>
   intro t
   rw[kD,c]
   unfold AE
   rw[gE]
   split<;>simp
 rw[this];rfl
theorem Kz(L:List bT)(p:BA):(AE L p).length<=L.length:=fW _ _
def EB(l:List Int)(a:Int)(K:Nat)(L:List bT)(z:(List Int×Int)×List bT):Prop:=∃a' L',z=((l,a'),L')/\a<=a'/\a'<=a+200000/\MadeE (K+900) L'/\L'.length<=L.length+1
variable {K:Nat} {L:List bT}
theorem TJ{f:Int->Option (Int⊕(Unit⊕((List Int×Int)×List bT)))}{Q:(List Int×Int)×List bT->Prop}{p:BA}(n:L.length<=100)(l:200<N)
  (g:∀j,∀d:j<L.length,L[j].1=p->Ok (f (j:Int)) λr=>∃z,r= .inr (.inr z)/\Q z) (h:∀j,∀d:j<L.length,¬L[j].1=p->f (j:Int)=some (.inl ((j+1:Nat):Int))) (e:f (L.length:Int)=some (.inr (.inl ()))):
  Ok (aC f N 0) λo=>o= .inl ()\/∃z,o= .inr z/\Q z:=by
 obtain⟨b,a,c⟩:=ZA (f:=f) (λs=>∃j:Nat,s=(j:Int)/\j<=L.length) (λs=>L.length-s.toNat) (λo=>o= .inl ()\/∃z,o= .inr z/\Q z) (λs k=>by
  obtain⟨j,rfl,d⟩:=k
  by_cases hlt:j<L.length
  .by_cases hp:L[j].1=p
   .obtain⟨r,a,z,rfl,c⟩:=g j hlt hp
    exact .inl ⟨_,a,.inr ⟨z,rfl,c⟩⟩
   exact .inr ⟨_,h j hlt hp,⟨j+1,rfl,hlt⟩,by simp only[jZ];omega⟩
  have:j=L.length:=by omega
  subst this
  exact .inl ⟨_,e,.inl rfl⟩) N 0 ⟨0,rfl,kK _⟩ (by simp only[Int.toNat_zero];omega)
 exact⟨b,a,c⟩
theorem qEh(M:Nat):wS (M+1) 0=some (⟨#[48]⟩:BA)/\wS (M+1) 1=some (⟨#[49]⟩:BA)/\wS (M+1) 2=some (⟨#[50]⟩:BA):=⟨by kernel_rfl,by kernel_rfl,by kernel_rfl⟩
theorem HR{x y z:BA}(h:x++y=z)(a:x.size+y.size<=1000):eO x y=some z:=by
 unfold eO
 rw[jB (by simp only[maxLen];omega),h]
theorem qFx{x:Int}(d:0<=x)(e:x<3){M:Nat}:∃s t p:BA,wS (M+1) x=some s/\eO (⟨#[122]⟩:BA) s=some t/\eO t (⟨#[46,115,114,99]⟩:BA)=some p/\mV p.data.toList=true:=by
 obtain⟨d0,a,b⟩:=qEh M
 have c:x=0\/x=1\/x=2:=by omega
 rcases c with rfl|rfl|rfl
 .exact⟨_,⟨#[122,48]⟩,⟨#[122,48,46,115,114,99]⟩,d0,HR am ac,HR am ac,by kernel_rfl⟩
 .exact⟨_,⟨#[122,49]⟩,⟨#[122,49,46,115,114,99]⟩,a,HR am ac,HR am ac,by kernel_rfl⟩
 exact⟨_,⟨#[122,50]⟩,⟨#[122,50,46,115,114,99]⟩,b,HR am ac,HR am ac,by kernel_rfl⟩
theorem Zj{p:BA}(h:p∈srcL):mV p.data.toList=true:=jW.1 Ko p h
theorem qAr{p:BA}(h:p∈datL):mV p.data.toList=true:=jW.1 Lp p h
theorem qCc(hN:3000<N)(V:0<=a)(h1:a<10000000000000000)(g:MadeE K L)(hK:4700<=K)(a1:K<=100000)(h:L.length<=100):Ok (SE N (l,a) L) (EB l a K L):=by
 obtain⟨M,rfl⟩:∃M,N=M+1:=⟨N-1,by omega⟩
 have y:MadeE (K+900) L:=g.more aa
 have f:∀(a':Int) {p b:BA},a<=a'->a'<=a+200000->mV p.data.toList=true->b.size<=K+900->EB l a K L ((l,a'),pR L p b):=λa' {p b} F G E Z=>
  ⟨a',_,rfl,F,G,y.put E Z,SS L p b⟩
 unfold SE LK
 refine Ok.someb (Ok.one V aa ac ac λp E=> ?_)
 have n:=Zj E
 refine Ok.next al al ac ac λr r0 r1=> ?_
 dsimp only
 refine Ok.bind (P:=λq=>q= .inl ()\/∃z,q= .inr z/\EB l a K L z) ?_ ?_
 .refine Ok.ite (λ_=> ?_) λ_=>Ok.ite (λ_=> ?_) λ_=>Ok.ite (λ_=> ?_) λ_=>Ok.ite (λ_=> ?_) λ_=>Ok.ite (λ_=> ?_) λ_=>Ok.ite (λ_=> ?_) λ_=>Ok.mk (.inl rfl)
  .refine Ok.one aa aa ac ac λq u=> ?_
   have u:q∈datL:=u
   dsimp only
   refine Ok.bind (Ku aa aa aa) ?_
   rintro _ ⟨v,s,rfl,B,v2,R⟩
   dsimp only
   rw[zN _ _ aa g.1 aa]
   exact Ok.mk (.inr ⟨_,rfl,f v aa aa (qAr u) aa⟩)
  .refine Ok.one aa aa ac ac λq u=> ?_
   dsimp only
   rw[Hz aa aa]
   exact Ok.mk (.inr ⟨_,rfl,_,_,rfl,by omega,by omega,y.del q,by have:=Kz L q;omega⟩)
  .refine Ok.someb (Ok.oneS aa aa ac λq u=> ?_)
   refine Ok.bind (XY aa al al u) ?_
   rintro _ ⟨v,s,rfl,B,v2,R⟩
   dsimp only at B v2 ⊢
   rw[zN _ _ aa g.1 aa]
   exact Ok.mk (.inr ⟨_,rfl,f v aa aa n aa⟩)
  .refine Ok.bind (TJ (L:=L) (p:=p) (Q:=EB l a K L) h aa (λj e d=> ?_) (λj e d=> ?_) ?_) ?_
   .have c:((j:Int)<(L.length:Int)):=by omega
    simp only[LG,c,decide_true,jH,eZ e,j0,sF,d]
    rw[Hz aa aa]
    refine Ok.someb (Ok.next aa aa ac ac λx S U=> ?_)
    obtain⟨s,t,q,k,A,D,H⟩:=qFx S U (M:=M)
    simp only[k,A,D,j0]
    have Y:=Kz L p
    rw[zN _ _ aa (g.1.del p) aa]
    refine Ok.mk ⟨_,rfl,_,_,rfl,by omega,by omega,(y.del p).put H (by have:=(g.2 L[j] (kE e)).2;omega),?_⟩
    have:=SS (AE L p) q L[j].2
    omega
   .have c:((j:Int)<(L.length:Int)):=by omega
    have w:wI ((j:Int)+1)=((j+1:Nat):Int):=by rw[bP aa aa];omega
    simp only[LG,c,decide_true,jH,eZ e,j0,sF,d,decide_false,j9,jF,w]
   .have c:¬((L.length:Int)<(L.length:Int)):=by omega
    simp only[LG,c,decide_false,j9,jF]
   rintro o (rfl|⟨z,rfl,k⟩)
   .exact Ok.mk (.inl rfl)
   exact Ok.mk (.inr ⟨z,rfl,k⟩)
  .refine Ok.bind (TJ (L:=L) (p:=p) (Q:=EB l a K L) h aa (λj e d=> ?_) (λj e d=> ?_) ?_) ?_
   .have c:((j:Int)<(L.length:Int)):=by omega
    have D:=(g.2 L[j] (kE e)).2
    simp only[LJ,c,decide_true,jH,eZ e,j0,sF,d]
    refine Ok.next aa aa ac ac λx S U=> ?_
    refine Ok.digits aa aa aa λs hs=> ?_
    refine Ok.cat (by simp only[qL,jT,jC,jD];omega) λH A=> ?_
    simp only[qL,jT,jC,jD] at A
    refine Ok.cat (by simp only[qL,jT,jC,jD];omega) λs6 Y=> ?_
    simp only[qL,jT,jC,jD] at Y
    refine Ok.cat aa λs7 h7=> ?_
    rw[zN _ _ aa g.1 aa]
    exact Ok.mk ⟨_,rfl,f _ al al n aa⟩
   .have c:((j:Int)<(L.length:Int)):=by omega
    have w:wI ((j:Int)+1)=((j+1:Nat):Int):=by rw[bP aa aa];omega
    simp only[LJ,c,decide_true,jH,eZ e,j0,sF,d,decide_false,j9,jF,w]
   .have c:¬((L.length:Int)<(L.length:Int)):=by omega
    simp only[LJ,c,decide_false,j9,jF]
   rintro o (rfl|⟨z,rfl,k⟩)
   .exact Ok.mk (.inl rfl)
   exact Ok.mk (.inr ⟨z,rfl,k⟩)
  refine Ok.bind (TJ (L:=L) (p:=p) (Q:=EB l a K L) h aa (λj e d=> ?_) (λj e d=> ?_) ?_) ?_
  .have c:((j:Int)<(L.length:Int)):=by omega
   have D:=(g.2 L[j] (kE e)).2
   simp only[LI,c,decide_true,jH,eZ e,j0,sF,d]
   refine Ok.cat (by simp only[qL,jT,jC,jD];omega) λH A=> ?_
   simp only[qL,jT,jC,jD] at A
   rw[zN _ _ aa g.1 aa]
   exact Ok.mk ⟨_,rfl,f _ al al n aa⟩
  .have c:((j:Int)<(L.length:Int)):=by omega
   have w:wI ((j:Int)+1)=((j+1:Nat):Int):=by rw[bP aa aa];omega
   simp only[LI,c,decide_true,jH,eZ e,j0,sF,d,decide_false,j9,jF,w]
  .have c:¬((L.length:Int)<(L.length:Int)):=by omega
   simp only[LI,c,decide_false,j9,jF]
  rintro o (rfl|⟨z,rfl,k⟩)
  .exact Ok.mk (.inl rfl)
  exact Ok.mk (.inr ⟨z,rfl,k⟩)
 rintro q (rfl|⟨z,rfl,k⟩)
 .dsimp only
  refine Ok.bind (TJ (L:=L) (p:=p) (Q:=EB l a K L) h aa (λj e d=> ?_) (λj e d=> ?_) ?_) ?_
  .have c:((j:Int)<(L.length:Int)):=by omega
   have D:=(g.2 L[j] (kE e)).2
   simp only[LM,c,decide_true,jH,eZ e,j0,sF,d]
   refine Ok.decl aa aa aa λv s F G S=> ?_
   dsimp only
   refine Ok.cat aa λH A=> ?_
   rw[zN _ _ aa g.1 aa]
   exact Ok.mk ⟨_,rfl,f v aa aa n aa⟩
  .have c:((j:Int)<(L.length:Int)):=by omega
   have w:wI ((j:Int)+1)=((j+1:Nat):Int):=by rw[bP aa aa];omega
   simp only[LM,c,decide_true,jH,eZ e,j0,sF,d,decide_false,j9,jF,w]
  .have c:¬((L.length:Int)<(L.length:Int)):=by omega
   simp only[LM,c,decide_false,j9,jF]
  rintro o (rfl|⟨z,rfl,k⟩)
  .dsimp only
   refine Ok.someb (Ok.oneS aa aa ac λq u=> ?_)
   refine Ok.bind (XY aa al al u) ?_
   rintro _ ⟨v,s,rfl,B,v2,R⟩
   dsimp only at B v2 ⊢
   rw[zN _ _ aa g.1 aa]
   exact Ok.mk (f v aa aa n aa)
  exact Ok.mk k
 exact Ok.mk k
end
section
open Go Go.Dc Go.Proofs
theorem Yp{p:BA}(h:mV p.data.toList=true):p.size<=80:=by
 have:p.data.toList.length<=80:=(gU h).1
 have e:=mG p
 omega
theorem Wf{N K:Nat}{L:List bT}(h:MadeE K L)(b:10000<N):HS N L:=λg a=>by
 have:=Yp (h.2 g a).1
 exact Li aa aa
def BR{α:Type}[DecidableEq α](b:α->α->Bool)(e:α):List α->List α
 |[]=>[e]
 |x::l=>if b x e then x::BR b e l else if x=e then x::l else e::x::l
theorem TP{α:Type}[DecidableEq α]{b:α->α->Bool}{e:α}:∀{l:List α},(BR b e l).length<=l.length+1
 |[]=>jN _
 |x::l=>by
  have a:=TP (b:=b) (e:=e) (l:=l)
  simp only[BR]
  split
  .simp only[jC];omega
  split
  .simp only[jC];omega
  simp only[jC];omega
theorem Iq:∀(l:List (BA×Sr)) (S:List (BA×Sr)) (c:BA),(S.map (·.1)).Nodup->(l.map (·.1)).Nodup->
  ((l.foldl (λS x=>mset S x.1 x.2) S).map (·.1)).Nodup/\(∀v,(c,v)∈l->eL (l.foldl (λS x=>mset S x.1 x.2) S) c=some v)/\((∀v,(c,v)∉l)->eL (l.foldl (λS x=>mset S x.1 x.2) S) c=eL S c)
 |[],S,c,b,_=>⟨b,(λv h=>by cases h),λ_=>rfl⟩
 |x::l,S,c,b,d=>by
  rw[kQ,gV] at d
  obtain⟨g,k,f⟩:=Iq l (mset S x.1 x.2) c (SR b _ _) d.2
  rw[kD]
  refine⟨g,λv a=> ?_,λa=> ?_⟩
  .rcases jK.1 a with e|a
   .subst e
    rw[f λv' h'=>d.1 (gW.2 ⟨_,h',rfl⟩),SX b,jB rfl]
   exact k v a
  rw[f λv h=>a v (jU _ h),SX b,jA]
  rintro rfl
  exact a x.2 (jR ..)
theorem Us{L:List bT}(a:Asc L):((iZ L).map (·.1)).Nodup:=by
 unfold iZ
 rw[List.map_map]
 exact List.pairwise_map.2 ((List.Pairwise.filter _ a).imp λh=>NO h)
def UQ(L:List bT):List (BA×Sr):=(iZ L).foldl (λS x=>mset S x.1 x.2) []
theorem Fx{L:List bT}(a:Asc L){f:bT}(d:f∈L):eL (UQ L) f.1=if sP f then some (lS f.2).1 else none:=by
 have h:=Iq (iZ L) [] f.1 hQ (Us a)
 unfold UQ
 by_cases hg:sP f=true
 .rw[jB hg]
  exact h.2.1 _ (gW.2 ⟨f,gM.2 ⟨d,hg⟩,rfl⟩)
 rw[jA hg,h.2.2 (λv o=> ?_)]
 .rfl
 obtain⟨f',l,c,n⟩:=TB o
 have e:f'.1=f.1:=(kF Prod.fst n).symm
 have k:f'=f:=by
  have b:=XH a l
  have g:=XH a d
  rw[e,g] at b
  exact Prod.ext e (jE b).symm
 rw[k] at c;exact hg c
section
variable {κ ν:Type} [DecidableEq κ]
theorem Ia:∀(l:List (κ×ν)) (k:κ) (v:ν),(qA l k v).length<=l.length+1
 |[],k,v=>by simp[qA]
 |p::l,k,v=>by
  have:=Ia l k v
  simp only[qA]
  split
  .simp
  simp only[jC];omega
theorem qAs[KOrd κ]{l:List (κ×ν)}(a:(l.map (·.1)).Nodup)(k:κ)(v:ν):(mset l k v).length<=l.length+1:=by
 have b:=(DD (.refl l) a k v).length_eq
 have c:=Ia l k v
 omega
theorem Xq[KOrd κ]{l:List (κ×ν)}(d:(l.map (·.1)).Nodup)(k:κ)(v:ν)(c:κ):c∈(mset l k v).map (·.1)↔c=k\/c∈l.map (·.1):=by
 have h:=SX d k v c
 have a:eL (mset l k v) c=none↔c∉(mset l k v).map (·.1):=MS
 have b:eL l c=none↔c∉l.map (·.1):=MS
 by_cases e:c=k
 .rw[jB e] at h
  refine⟨λ_=> .inl e,λ_=> ?_⟩
  by_cases g:c∈(mset l k v).map (·.1)
  .exact g
  rw[a.2 g] at h;cases h
 rw[jA e] at h
 rw[h,b] at a
 constructor
 .intro g;exact .inr (Decidable.byContradiction λq=>a.1 q g)
 rintro(g|g)
 .exact absurd g e
 exact Decidable.byContradiction λq=>a.2 q g
end
def uS{α:Type}(b:α->α->Bool)(e:α):List α->Nat
 |[]=>0
 |x::l=>if b x e then uS b e l+1 else 0
theorem Kh{α:Type}{b:α->α->Bool}{e:α}:∀(l:List α),uS b e l<=l.length
 |[]=>jN _
 |x::l=>by
  have:=Kh (b:=b) (e:=e) l
  simp only[uS,jC]
  split<;>omega
theorem Jg{α:Type}[DecidableEq α]{b:α->α->Bool}{e:α}:∀(l:List α),BR b e l=if l[uS b e l]? =some e then l else l.take (uS b e l)++e::l.drop (uS b e l)
 |[]=>by simp[BR,uS]
 |x::l=>by
  simp only[BR,uS]
  by_cases h:b x e=true
  .simp only[h,jH,List.getElem?_cons_succ,List.take_succ_cons,dE]
   rw[Jg l]
   split<;>rfl
  have h':b x e=false:=by simpa using h
  simp only[h',j9,jF,List.getElem?_cons_zero,jJ,List.take_zero,jX,kH]
theorem Hx{α:Type}{b:α->α->Bool}{e:α}{L:List α}{f:Int->Option (Int⊕Int)}(k:L.length<1000000)
  (a:∀i,∀hi:i<L.length,f (i:Int)=some (if b L[i] e then .inl ((i+1:Nat):Int) else .inr (i:Int))) (c:f (L.length:Int)=some (.inr (L.length:Int))):∀(d i M:Nat),i+d=L.length->d<M->aC f M (i:Int)=some ((i+uS b e (L.drop i):Nat):Int)
 |_,_,0,_,h=>absurd h (kS _)
 |0,i,M+1,g,_=>by
  have:i=L.length:=by omega
  subst this
  simp only[aC,c,j0,hU,uS,gZ]
 |d+1,i,M+1,g,l=>by
  have hi:i<L.length:=by omega
  simp only[aC,a i hi,j0]
  rw[zI hi]
  simp only[uS]
  by_cases hb:b L[i] e=true
  .rw[jB hb,jB hb]
   simp only
   rw[Hx k a c d (i+1) M aa aa]
   congr 2;omega
  rw[jA hb,jA hb]
  rfl
theorem Kq{α:Type}{by_:Nat}{L:List α}{x z:α}{k:Nat}(d:k<=L.length)(q:0<by_)(c:by_<=100)(r:L.length<1000000):
  ((iK by_ L [z]).bind λb=>(qB b (wI ((k:Int)+1)) (List.length b:Int)).bind λ_=>(qB b (k:Int) (List.length b:Int)).bind λ_=>(vL b (wI ((k:Int)+1)) (k:Int)).bind λg=>(bC g (k:Int)).bind λ_=>some (List.set g (Int.toNat (k:Int)) x))=some (L.take k++x::L.drop k):=by
 have w:wI ((k:Int)+1)=((k+1:Nat):Int):=by rw[bP aa aa];omega
 have s:(L.length+1)*by_<=(L.length+1)*100:=Nat.mul_le_mul_left _ c
 rw[w,lQ (by simp only[jC,jD,gA];omega) q]
 simp only[j0]
 have a:(L++[z]).length=L.length+1:=by simp
 have h:qB (L++[z]) ((k+1:Nat):Int) ((L++[z]).length:Int)=some ():=by unfold qB;rw[jB (by rw[a];omega)]
 have l:qB (L++[z]) (k:Int) ((L++[z]).length:Int)=some ():=by unfold qB;rw[jB (by rw[a];omega)]
 have n:vL (L++[z]) ((k+1:Nat):Int) (k:Int)=some (sR (L++[z]) (k+1) k):=by unfold vL;rw[jB (by rw[a];omega)];rfl
 simp only[h,l,n,j0]
 have e:sR (L++[z]) (k+1) k=(L++[z]).take (k+1)++L.drop k:=by
  have t1:((L++[z]).drop k).take (L.length-k)=L.drop k:=by
   rw[gB d,kM (by rw[kO];omega),gT (by rw[kO];omega)]
  have t2:(L++[z]).drop (L.length+1)=[]:=dM (by rw[a];omega)
  unfold sR
  rw[a,show min (L.length+1-k) (L.length+1-(k+1))=L.length-k by omega,show k+1+(L.length-k)=L.length+1 by omega,t1,t2,gH]
 have f:k<(sR (L++[z]) (k+1) k).length:=by rw[e];simp only[jG,gQ,jC,jD,kO];omega
 rw[eZ f]
 simp only[j0,jZ]
 congr 1
 rw[e]
 have o:(L++[z]).take (k+1)=L.take k++[((L++[z])[k]'(by rw[a];omega))]:=by
  rw[kT (by rw[a];omega),kM d]
 rw[o,kU,fV _ _ (by simp only[gQ];omega)]
 have p:k-(L.take k).length=0:=by simp only[gQ];omega
 rw[p];rfl
def BW(e:eU):qR:=(e.1,e.2.1,e.2.2.1,e.2.2.2.1,e.2.2.2.2.1)
theorem UB{O:List qR}{k:Int}{p n:BA}(h:(nW O k p n).2.2.2.2.2≠0):∃o∈O,vM o=qP k p n/\BW (nW O k p n)=o:=by
 suffices g:∀(O J:List qR) (e:eU),(0<=e.2.2.2.2.2)->(e.2.2.2.2.2≠0->∃o∈J,vM o=qP k p n/\BW e=o)->(O.foldl (nM k p n) e).2.2.2.2.2≠0->∃o∈J++O,vM o=qP k p n/\BW (O.foldl (nM k p n) e)=o by
  have:=g O [] (yN k p n) (dO 0) (λh=>absurd rfl h) h
  rwa[kH] at this
 intro O
 induction O with
 |nil=>intro J e _ b c;rw[gH];exact b c
 |cons o O r=>
  intro J e q b c
  rw[show J++o::O=(J++[o])++O by simp,kD]
  rw[kD] at c
  refine r (J++[o]) (nM k p n e o) ?_ ?_ c
  .unfold nM
   split
   .split
    .exact(show(0:Int)<=1 by decide)
    simp only[];omega
   exact q
  unfold nM
  by_cases hk:vM o=qP k p n
  .rw[jB hk]
   by_cases a:e.2.2.2.2.2=0
   .rw[jB a]
    intro _
    obtain⟨d,f,-⟩:=ND (show qP o.2.2.1 o.1 o.2.1=qP k p n from hk)
    refine⟨o,by simp,hk,?_⟩
    unfold BW
    simp only
    rw[<-d,<-f]
   rw[jA a]
   intro _
   obtain⟨o',d,f,l⟩:=b a
   exact⟨o',gF _ d,f,l⟩
  rw[jA hk]
  intro a
  obtain⟨o',d,f,l⟩:=b a
  exact⟨o',gF _ d,f,l⟩
theorem Hy{path pkg:BA}{o:qR}:∀{l:List Dl} {i:Nat},o∈qN path pkg i l->∃j d,l[j]? =some d/\o=(pkg,d.2.1,d.1,path,((i+j:Nat):Int))
 |[],_,h=>by cases h
 |d::l,i,h=>by
  rcases jK.1 h with rfl|h
  .exact⟨0,d,rfl,rfl⟩
  obtain⟨j,d',a,b⟩:=Hy h
  exact⟨j+1,d',by simpa using a,by rw[b,show i+1+j=i+(j+1) by omega]⟩
theorem TF{L:List bT}{o:qR}(h:o∈lW (iZ L)):∃f∈L,sP f=true/\∃(j:Nat) (d:Dl),(lS f.2).1.2.2[j]? =some d/\o=((lS f.2).1.1,d.2.1,d.1,f.1,(j:Int)):=by
 unfold lW at h
 obtain⟨x,g,h⟩:=fP.1 h
 obtain⟨f,c,e,rfl⟩:=TB g
 obtain⟨j,d,a,b⟩:=Hy h
 exact⟨f,c,e,j,d,a,by rw[b,gA]⟩
end
section
open Go Go.Dc Go.Sort Go.Proofs
def NW{α:Type}(c:α->α->Int)(l:List α):Prop:=l.Pairwise λx y=>c x y<0
abbrev Ky:=Int×BA×BA
abbrev cK:Ky->Ky->Int:=qQ sX (qQ pH pH)
theorem cK_lin:Lin cK:=HN cmpI_lin (HN cmpS_lin cmpS_lin)
theorem qFo(x y:Ky):((x.1==y.1)&&((x.2.1.toList==y.2.1.toList)&&((x.2.2.toList==y.2.2.toList)&&true)))=decide (x=y):=by
 have bt:∀a b:BA,(a.toList==b.toList)=decide (a=b):=λa b=>by
  rw[kA]
  simp only[kG,j6]
  constructor
  .intro h
   rw[ByteArray.toList_eq,ByteArray.toList_eq] at h
   exact Go.WideShapes.bytes_inj h
  rintro rfl;rfl
 rw[bt,bt,Bool.and_true,kA]
 simp only[jS,kG,j6]
 exact⟨λh=>Prod.ext h.1 (Prod.ext h.2.1 h.2.2),λh=>by subst h;exact⟨rfl,rfl,rfl⟩⟩
theorem Gq:∀a b:List UInt8,Op.bytesLess a b=decide (oP a b<0)
 |[],[]=>rfl
 |[],_::_=>rfl
 |_::_,[]=>rfl
 |x::a,y::b=>by
  rw[show Op.bytesLess (x::a) (y::b)=(decide (x<y)||((x==y)&&Op.bytesLess a b)) from rfl,Gq a b]
  by_cases h:x=y
  .subst h
   have c:¬x<x:=by simp only[Ba];omega
   have e:oP (x::a) (x::b)=oP a b:=by simp[oP]
   simp[c,e]
  have d:(x==y)=false:=by simpa using h
  by_cases h3:x<y
  .have e:oP (x::a) (y::b)= -1:=by simp[oP,h,h3]
   simp[h3,e]
  have e:oP (x::a) (y::b)=1:=by simp[oP,h,h3]
  simp[d,h3,e]
theorem Xk(a b:BA):Op.bytesLess a.toList b.toList=decide (pH a b<0):=by
 rw[Gq,NF,ByteArray.toList_eq,ByteArray.toList_eq]
theorem btK(a b:BA):(a.toList==b.toList)=decide (a=b):=by
 rw[kA]
 simp only[kG,j6]
 constructor
 .intro h
  rw[ByteArray.toList_eq,ByteArray.toList_eq] at h
  exact Go.WideShapes.bytes_inj h
 rintro rfl;rfl
theorem qAa{x y:Int}(h:x≠y):sX x y<0↔x<y:=by
 unfold sX;split<;>(try split)<;>omega
theorem Wu{N:Nat}(x y:Ky):SA N x y=some (decide (cK x y<0)):=by
 have f:=cmpI_lin.zero x.1 y.1
 have h:=cmpS_lin.zero x.2.1 y.2.1
 simp only[SA,btK,Xk]
 by_cases h1:x.1=y.1
 .have b:sX x.1 y.1=0:=f.2 h1
  have c:(x.1 !=y.1)=false:=by simp[h1]
  rw[c]
  simp only[j9,jF]
  have a:cK x y=qQ pH pH x.2 y.2:=by simp only[cK,qQ,b,dT,not_true_eq_false,jF]
  by_cases h2:x.2.1=y.2.1
  .have d:pH x.2.1 y.2.1=0:=h.2 h2
   have e:cK x y=pH x.2.2 y.2.2:=by rw[a];simp only[qQ,d,dT,not_true_eq_false,jF]
   rw[e];simp[h2]
  have d:pH x.2.1 y.2.1≠0:=λg=>h2 (h.1 g)
  have e:cK x y=pH x.2.1 y.2.1:=by rw[a];simp only[qQ,dT,d,fX,jH]
  rw[e];simp[h2]
 have b:sX x.1 y.1≠0:=λg=>h1 (f.1 g)
 have c:(x.1 !=y.1)=true:=by simp[h1]
 have a:cK x y=sX x.1 y.1:=by simp only[cK,qQ,dT,b,fX,jH]
 rw[c,jB rfl,a]
 simp only[qAa h1]
def rI:List Ky->Ky->List Ky
 |[],x=>[x]
 |y::L,x=>if cK y x<0 then y::rI L x else if y=x then y::L else x::y::L
def uR:List Ky->Ky->Nat
 |[],_=>0
 |y::L,x=>if cK y x<0 then uR L x+1 else 0
theorem Kd:∀(L:List Ky) (x:Ky),uR L x<=L.length
 |[],_=>jN _
 |y::L,x=>by
  have:=Kd L x
  simp only[uR,jC]
  split<;>omega
theorem Jp:∀(L:List Ky) (x:Ky),rI L x=if L[uR L x]? =some x then L else L.take (uR L x)++x::L.drop (uR L x)
 |[],x=>by simp[rI,uR]
 |y::L,x=>by
  simp only[rI,uR]
  by_cases h:cK y x<0
  .simp only[h,jH,List.getElem?_cons_succ,List.take_succ_cons,dE]
   rw[Jp L x]
   split<;>rfl
  simp only[h,jF,List.getElem?_cons_zero,jJ,List.take_zero,jX,kH]
theorem ZO:∀{L:List Ky} {x z:Ky},z∈rI L x↔z=x\/z∈L
 |[],x,z=>by simp[rI]
 |y::L,x,z=>by
  simp only[rI]
  split
  .simp only[jK,ZO (L:=L)]
   constructor
   .rintro(h|h|h)
    .exact .inr (.inl h)
    .exact .inl h
    exact .inr (.inr h)
   rintro(h|h|h)
   .exact .inr (.inl h)
   .exact .inl h
   exact .inr (.inr h)
  split
  .rename_i e;subst e
   simp only[jK]
   constructor
   .exact λh=> .inr h
   rintro(h|h)
   .exact .inl h
   exact h
  simp only[jK]
theorem YU:∀(L:List Ky) (x:Ky),(rI L x).length<=L.length+1
 |[],_=>jN _
 |y::L,x=>by
  have:=YU L x
  simp only[rI]
  split
  .simp only[jC];omega
  split<;>simp only[jC]<;>omega
theorem Eu:∀{L:List Ky} {x:Ky},NW cK L->NW cK (rI L x)
 |[],x,_=>List.pairwise_singleton _ x
 |y::L,x,h=>by
  have h':=jY.1 h
  simp only[rI]
  split
  .rename_i c
   refine jY.2 ⟨λz a=> ?_,Eu h'.2⟩
   rcases ZO.1 a with rfl|a
   .exact c
   exact h'.1 z a
  rename_i c
  split
  .exact h
  rename_i d
  have b:cK x y<0:=by
   have e:=cK_lin.zero y x;have f:=cK_lin.anti x y
   refine f.2 ?_
   have:cK y x≠0:=λg=>d (e.1 g)
   omega
  refine jY.2 ⟨λz a=> ?_,h⟩
  rcases jK.1 a with rfl|a
  .exact b
  exact cK_lin.trans x y z b (h'.1 z a)
theorem Ie{N:Nat}{L:List Ky}{x:Ky}(e:L.length<25000000):∀(d i M:Nat),i+d=L.length->d<M->aC (KR N L x) M (i:Int)=some ((i+uR (L.drop i) x:Nat):Int)
 |_,_,0,_,h=>absurd h (kS _)
 |d,i,M+1,g,k=>by
  simp only[aC,KR]
  cases d with
  |zero=>
   have b:¬((i:Int)<(L.length:Int)):=by omega
   simp only[b,decide_false,j9,jF,j0]
   rw[dM aa];rfl
  |succ d=>
   have hi:i<L.length:=by omega
   have b:((i:Int)<(L.length:Int)):=by omega
   have f:wI ((i:Int)+1)=((i+1:Nat):Int):=by rw[bP aa aa];omega
   have c:=Wu (N:=N) L[i] x
   simp only[b,decide_true,jH,eZ hi,j0]
   rw[c]
   have a:L.drop i=L[i]::L.drop (i+1):=(fS hi).symm
   simp only[j0]
   rw[a]
   simp only[uR]
   by_cases hbb:cK L[i] x<0
   .simp only[hbb,decide_true,jH,f,j0]
    rw[Ie e d (i+1) M aa aa]
    congr 2;omega
   simp[hbb]
theorem Yf{N:Nat}{L:List Ky}(x:Ky)(s:L.length<25000000)(r:L.length<N):RR N L x=some (rI L x):=by
 have c:=Ie (N:=N) (L:=L) (x:=x) s L.length 0 N aa r
 have h1':aC (KR N L x) N 0=some ((uR L x:Nat):Int):=by
  have e:(0+uR (L.drop 0) x:Nat)=uR L x:=by rw[jX,gA]
  rw[e] at c;exact c
 have f:=Kd L x
 rw[Jp]
 generalize hk:uR L x=k at*
 have w:wI ((k:Int)+1)=((k+1:Nat):Int):=by rw[bP aa aa];omega
 have fin:∀(_:L[k]?≠some x),((iK 40 L [((0,(⟨#[]⟩:BA),(⟨#[]⟩:BA)):Ky)]).bind λb=>(qB b (wI ((k:Int)+1)) (List.length b:Int)).bind λ_=>(qB b (k:Int) (List.length b:Int)).bind λ_=>(vL b (wI ((k:Int)+1)) (k:Int)).bind λh=>(bC h (k:Int)).bind λ_=>some (List.set h (Int.toNat (k:Int)) (x.1,x.2.1,x.2.2)))=some (L.take k++x::L.drop k):=by
  intro _
  rw[w,lQ af ac]
  simp only[j0]
  generalize hz:((0,(⟨#[]⟩:BA),(⟨#[]⟩:BA)):Ky)=z
  have a:(L++[z]).length=L.length+1:=by simp
  have l:qB (L++[z]) ((k+1:Nat):Int) ((L++[z]).length:Int)=some ():=by unfold qB;rw[jB (by rw[a];omega)]
  have n:qB (L++[z]) (k:Int) ((L++[z]).length:Int)=some ():=by unfold qB;rw[jB (by rw[a];omega)]
  have o:vL (L++[z]) ((k+1:Nat):Int) (k:Int)=some (sR (L++[z]) (k+1) k):=by unfold vL;rw[jB (by rw[a];omega)];rfl
  simp only[l,n,o,j0]
  have e:sR (L++[z]) (k+1) k=(L++[z]).take (k+1)++L.drop k:=by
   have t1:((L++[z]).drop k).take (L.length-k)=L.drop k:=by
    rw[gB f,kM (by rw[kO];omega),gT (by rw[kO];omega)]
   have t2:(L++[z]).drop (L.length+1)=[]:=dM (by rw[a];omega)
   unfold sR
   rw[a,show min (L.length+1-k) (L.length+1-(k+1))=L.length-k by omega,show k+1+(L.length-k)=L.length+1 by omega,t1,t2,gH]
  have d:k<(sR (L++[z]) (k+1) k).length:=by rw[e];simp only[jG,gQ,jC,jD,kO];omega
  rw[eZ d]
  simp only[j0,jZ]
  congr 1
  rw[e]
  have p:(L++[z]).take (k+1)=L.take k++[((L++[z])[k]'(by rw[a];omega))]:=by
   rw[kT (by rw[a];omega),kM f]
  rw[p,kU,fV _ _ (by simp only[gQ];omega)]
  have q:k-(L.take k).length=0:=by simp only[gQ];omega
  rw[q];rfl
 simp only[RR,h1',j0]
 by_cases hc:(k:Int)<(L.length:Int)
 .have hi:k<L.length:=by omega
  simp only[hc,decide_true,jH,eZ hi,j0,qFo]
  by_cases he:L[k]=x
  .simp only[he,decide_true,jH]
   rw[jB (by rw[List.getElem?_eq_getElem hi,he])]
  simp only[he,decide_false,j9,jF]
  have a:L[k]?≠some x:=by rw[List.getElem?_eq_getElem hi];intro g;exact he (jE g)
  rw[jA a]
  exact fin a
 simp only[hc,decide_false,j9,jF,j0]
 have a:L[k]?≠some x:=by rw[List.getElem?_eq_none aa];intro g;cases g
 rw[jA a]
 exact fin a
theorem Du:∀(L S:List Ky),NW cK S->NW cK (L.foldl rI S)
 |[],_,h=>h
 |_::L,_,h=>Du L _ (Eu h)
theorem Ib:∀{L S:List Ky} {z:Ky},z∈L.foldl rI S↔z∈L\/z∈S
 |[],S,z=>by simp
 |x::L,S,z=>by
  simp only[kD,jK]
  rw[Ib,ZO]
  constructor
  .rintro(h|h|h)
   .exact .inl (.inr h)
   .exact .inl (.inl h)
   exact .inr h
  rintro((h|h)|h)
  .exact .inr (.inl h)
  .exact .inl h
  exact .inr (.inr h)
end
section
open Go Go.Dc Go.Proofs
abbrev Ld:=BA×Sr
def wZ(l:List Ld)(place:BA)(i:Int):Sr×Int:=match l.find? λx=>decide (x.1=place) with
 |some x=>(x.2,i)
 |none=>(uO,0)
theorem TI:∀{l:List Ld},(l.map (·.1)).Nodup->∀x∈l,l.find? (λy=>decide (y.1=x.1))=some x
 |[],_,x,a=>by cases a
 |y::l,b,x,a=>by
  rw[kQ,gV] at b
  rcases jK.1 a with rfl|a
  .rw[List.find?_cons_of_pos ae]
  have c:y.1≠x.1:=λe=>b.1 (by rw[e];exact gL a)
  rw[List.find?_cons_of_neg (by simpa using c),TI b.2 x a]
abbrev Pd:=List BA×List Sr
def rG(l:List Ld):Pd:=(l.map (·.1),l.map (·.2))
theorem Hq{N:Nat}{l:List Ld}{e:eU}(n:l.length<=64)(k:1000<N):CQ N (rG l) e=some (wZ l e.2.2.2.1 e.2.2.2.2.1):=by
 have a:=BD (L:=l) (λ(_:Unit) (i:Nat)=>(i:Int)) (f:=KN N (rG l) e)
  (λ_ x=>if decide (x.1=e.2.2.2.1)then .inr (.inr (x.2,e.2.2.2.2.1)) else .inl ()) (λ_=>(.inl ():Unit⊕(Sr×Int))) (λ_ _=>True) (by
   intro t i hi _
   have d:i<(rG l).1.length:=by simpa[rG] using hi
   have g:i<(rG l).2.length:=by simpa[rG] using hi
   have b:(rG l).1[i]=(l[i]).1:=by simp[rG]
   have c:(rG l).2[i]=(l[i]).2:=by simp[rG]
   have ew:wI ((i:Int)+1)=((i+1:Nat):Int):=by rw[bP aa aa];omega
   simp only[KN]
   rw[jB ad,eZ d]
   simp only[j0,oD,b,ew]
   rw[eZ g]
   simp only[j0,c]
   cases decide ((l[i]).1=e.2.2.2.1)<;>rfl) (λ_ _ _ _ _ _=>trivial) (by
   intro t _
   simp only[KN]
   rw[jA (by simp[rG])]) (M:=N) (t:=()) aa trivial
 rw[show((0:Nat):Int)=0 from rfl] at a
 have key:∀l:List Ld,run (λ(_:Unit) (x:Ld)=>if decide (x.1=e.2.2.2.1)then(.inr (.inr (x.2,e.2.2.2.2.1)):Unit⊕(Unit⊕(Sr×Int))) else .inl ()) (λ_=>(.inl ():Unit⊕(Sr×Int))) l ()=match l.find? λx=>decide (x.1=e.2.2.2.1) with
   |some x=> .inr (x.2,e.2.2.2.2.1)
   |none=> .inl ():=by
  intro l
  induction l with
  |nil=>rfl
  |cons x l b=>
   simp only[run]
   by_cases h:x.1=e.2.2.2.1
   .rw[List.find?_cons_of_pos (by simpa using h),jB (by simpa using h)]
   rw[List.find?_cons_of_neg (by simpa using h),jA (by simpa using h)]
   exact b
 unfold CQ wZ
 rw[a,key]
 simp only[j0]
 cases l.find? λx=>decide (x.1=e.2.2.2.1) with
 |none=>rfl
 |some x=>rfl
end
section
open Go Go.Dc
def PB{α:Type}(P:α->Prop)(x:cL⊕α):Prop:=∀a,x= .inr a->P a
theorem PB.fail{α:Type}{P:α->Prop}{t:cC}{e:Int}:PB P (iN t e):=λ_ h=>by cases h
theorem PB.ok{α:Type}{P:α->Prop}{a:α}(h:P a):PB P (.inr a):=λb e=>by cases e;exact h
theorem PB.bind{α β:Type}{P:α->Prop}{Q:β->Prop}{x:cL⊕α}{f:α->cL⊕β}(h:PB P x)(b:∀a,P a->PB Q (f a)):PB Q (bI x f):=by
 cases x with
 |inl z=>exact λ_ e=>by cases e
 |inr a=>exact b a (h a rfl)
theorem PB.any{α:Type}{x:cL⊕α}:PB (λ_=>True) x:=λ_ _=>trivial
theorem PB.ite{α:Type}{P:α->Prop}{c:Prop}[Decidable c]{x y:cL⊕α}(a:c->PB P x)(b:¬c->PB P y):PB P (if c then x else y):=by
 split
 .exact a ‹_›
 exact b ‹_›
def okX(Z:Int->BA->Prop)(F:Int->Prop)(np i:Nat)(x:Ex):Prop:=
 (x.1=1/\-9007199254740992<=x.2.1/\x.2.1<=9007199254740992)\/(x.1=2/\0<=x.2.1/\x.2.1<np)\/(x.1=3/\Z 3 x.2.2.2.1/\x.2.2.2.2.length<=20000/\∀j∈x.2.2.2.2,0<=j/\j<(i:Int))\/
 (x.1=4/\(1<=x.2.2.1/\x.2.2.1<=7)/\∃j k:Nat,x.2.2.2.2=[(j:Int),(k:Int)]/\j<i/\k<i)\/(x.1=5/\∃j k l:Nat,x.2.2.2.2=[(j:Int),(k:Int),(l:Int)]/\j<i/\k<i/\l<i)\/
 (x.1=6/\Z 6 x.2.2.2.1/\∃j:Nat,x.2.2.2.2=[(j:Int)]/\j<i)\/((x.1=7\/x.1=8\/x.1=9)/\Z x.1 x.2.2.2.1)\/(x.1=10/\0<=x.2.1/\x.2.1<64/\F x.2.1)
def EE(Z:Int->BA->Prop)(F:Int->Prop)(t:cC):Prop:=
 (t.1=1->Z 3 t.2.1)/\(t.1=3->(mV t.2.1.data.toList=true->Z 6 t.2.1/\Z 7 t.2.1/\Z 8 t.2.1)/\(yE t.2.1=true->Z 9 t.2.1))/\(t.1=2->(0<=t.2.2.1/\t.2.2.1<=9007199254740992)/\(t.2.2.1<64->F t.2.2.1))
def OB(Z:Int->BA->Prop)(F:Int->Prop)(np:Nat)(l:List Ex):Prop:=(∀(i:Nat) x,l[i]? =some x->okX Z F np i x)/\l.length<=256
def EN(Z:Int->BA->Prop)(F:Int->Prop)(d:Dl):Prop:=OB Z F d.2.2.1.length d.2.2.2/\0<d.2.2.2.length/\d.2.2.1.length<=8/\(d.1≠1->d.2.2.1=[])
def okF(Z:Int->BA->Prop)(F:Int->Prop)(f:Sr):Prop:=(Z 3 f.1/\∀q∈f.2.1,Z 3 q)/\f.2.1.length<=8/\f.2.2.length<=64/\∀d∈f.2.2,EN Z F d
variable {Z:Int->BA->Prop} {F:Int->Prop} {ts:List cC} {ps:List BA} {E S:Ps->PM Nat}
def wN(Z:Int->BA->Prop)(F:Int->Prop)(ts:List cC):Prop:=∀j,EE Z F (aH ts j)
def Stp(Z:Int->BA->Prop)(F:Int->Prop)(np:Nat)(p:Ps)(r:Ps×Nat):Prop:=OB Z F np r.1.2/\p.2.length<=r.1.2.length/\r.2<r.1.2.length
def AL(Z:Int->BA->Prop)(F:Int->Prop)(np:Nat)(E:Ps->PM Nat):Prop:=∀p,OB Z F np p.2->PB (Stp Z F np p) (E p)
theorem NU(b:wN Z F ts){k:Int}{i:Nat}:PB (λa=>EE Z F a.2/\a.2.1=k) (oH ts k i):= .ite (λh=> .ok ⟨b i,h⟩) λ_=> .fail
theorem Lt(b:wN Z F ts){i:Nat}:PB (λa=>Z 3 a.2.2.1) (oI ts i):= .bind (NU b) λ_ h=> .ite (λ_=> .fail) λ_=> .ok (h.1.1 h.2)
theorem Aj(b:wN Z F ts){i:Nat}:PB (λa=>Z 6 a.2.2.1/\Z 7 a.2.2.1/\Z 8 a.2.2.1) (pQ ts i):= .bind (NU b) λ_ h=> .ite (λg=> .ok ((h.1.2.1 h.2).1 g)) λ_=> .fail
theorem qDf(b:wN Z F ts){i:Nat}:PB (λa=>Z 9 a.2.2.1) (zW ts i):= .bind (NU b) λ_ h=> .ite (λg=> .ok ((h.1.2.1 h.2).2 g)) λ_=> .fail
theorem DP{np:Nat}{t:cC}{x:Ex}{p q:Ps}(b:OB Z F np p.2)(d:q.2.length<=p.2.length)(c:okX Z F np p.2.length x):PB (Stp Z F np q) (nF t x p):= .ite (λ_=> .fail) λh=> .ok (by
 refine⟨⟨λi y a=> ?_,?_⟩,?_,?_⟩
 .rw[List.getElem?_append] at a
  split at a
  .exact b.1 i y a
  rename_i hi
  obtain⟨k,e⟩:=List.getElem?_eq_some_iff.1 a
  obtain rfl:i=p.2.length:=by simp only[gD] at k;omega
  rw[Nat.sub_self] at a
  cases a
  exact c
 .show(p.2++[x]).length<=256
  have:=b.2
  rw[jG,gD];omega
 .show q.2.length<=(p.2++[x]).length
  rw[jG];omega
 show p.2.length<(p.2++[x]).length
 rw[jG,gD];omega)
def OpL(n:Nat)(l:List Int):Prop:=∀j∈l,0<=j/\j<(n:Int)
theorem OpL.snoc{n m:Nat}{l:List Int}{k:Nat}(h:OpL n l)(c:n<=m)(b:k<m):OpL m (l++[(k:Int)]):=λj a=>by
 rcases fD.1 a with a|a
 .have:=h j a;omega
 rw[gX.1 a];omega
variable {np:Nat}
theorem Lq(c:AL Z F np E){q:Ps}:∀(n:Nat) (l:List Int) (p:Ps),OB Z F np p.2->q.2.length<=p.2.length->OpL p.2.length l->PB (λr=>OB Z F np r.1.2/\q.2.length<=r.1.2.length/\OpL r.1.2.length r.2/\r.2.length<=l.length+n) (yD ts E n l p)
 |0,_,_,_,_,_=> .fail
 |n+1,l,p,t,f,d=> .bind (c p t) λa h=> .ite (λ_ b e=>by
  obtain⟨g,k,o,s⟩:=Lq c n (l++[(a.2:Int)]) (a.1.1+1,a.1.2) h.1 (gC f h.2.1) (d.snoc h.2.1 h.2.2) b e
  exact⟨g,k,o,by rw[jG,gD] at s;omega⟩) λ_=> .bind .any λ_ _=> .ok ⟨h.1,gC f h.2.1,d.snoc h.2.1 h.2.2,by rw[jG,gD];omega⟩
theorem Un(d:AL Z F np E){p:Ps}(c:OB Z F np p.2):PB (λr=>OB Z F np r.1.2/\p.2.length<=r.1.2.length/\OpL r.1.2.length r.2/\r.2.length<=ts.length+1) (zG ts E p):=
 .bind .any λi _=> .ite (λ_=> .ok ⟨c,jN _,λ_ a=>(by cases a),kK _⟩) λ_ b e=>by
  have:=Lq d (q:=p) _ [] (i,p.2) c (jN _) (λ_ a=>by cases a) b e
  rwa[jD,gA] at this
theorem Xd(d:wN Z F ts)(e:AL Z F np E){t:cC}{p q:Ps}(b:OB Z F np p.2)(c:q.2.length<=p.2.length):PB (Stp Z F np q) (uZ ts E t p):=
 .bind .any λ_ _=> .bind (P:=λr=>OB Z F np r.1.2/\q.2.length<=r.1.2.length/\okX Z F np r.1.2.length r.2)
  (.ite (λ_=> .bind (Aj d) λ_ h=> .bind .any λ_ _=> .bind (e _ b) λa g=> .ok ⟨g.1,gC c g.2.1,.inr (.inr (.inr (.inr (.inr (.inl ⟨rfl,h.1,a.2,rfl,g.2.2⟩)))))⟩) λ_=>
   .ite (λ_=> .bind (Aj d) λ_ h=> .ok ⟨b,c,.inr (.inr (.inr (.inr (.inr (.inr (.inl ⟨.inl rfl,h.2.1⟩))))))⟩) λ_=>
   .ite (λ_=> .bind (Aj d) λ_ h=> .ok ⟨b,c,.inr (.inr (.inr (.inr (.inr (.inr (.inl ⟨.inr (.inl rfl),h.2.2⟩))))))⟩) λ_=>
   .ite (λ_=> .bind (qDf d) λ_ h=> .ok ⟨b,c,.inr (.inr (.inr (.inr (.inr (.inr (.inl ⟨.inr (.inr rfl),h⟩))))))⟩) λ_=>
   .bind (NU d) λa h=> .ite (λ_=> .fail) λg=> .ok ⟨b,c,.inr (.inr (.inr (.inr (.inr (.inr (.inr ⟨rfl,(h.1.2.2 h.2).1.1,Int.not_le.1 g,(h.1.2.2 h.2).2 (Int.not_le.1 g)⟩))))))⟩)
  λ_ h=> .bind .any λ_ _=>DP h.1 h.2.1 h.2.2
theorem qDb{n:Int}(h:0<=n/\n<=9007199254740992): -9007199254740992<=n/\n<=9007199254740992:=by omega
theorem qDe{n:Int}(h:0<=n/\n<=9007199254740992): -9007199254740992<=wI (0-n)/\wI (0-n)<=9007199254740992:=by
 rw[bP aa aa];omega
theorem qAw(c:wN Z F ts)(f:ts.length<=16385)(d:AL Z F ps.length E):AL Z F ps.length (wC ts ps E):=by
 intro p b
 unfold wC
 refine .ite (λh=>DP b (jN _) (.inl ⟨rfl,qDb ((c _).2.2 h).1⟩)) λ_=> .ite (λ_=> .bind (NU c) λ_ h=>DP b (jN _) (.inl ⟨rfl,qDe (h.1.2.2 h.2).1⟩)) λ_=> .ite (λ_=> .bind (d _ b) λ_ h=> .bind .any λ_ _=> .ok h) λ_=>
  .ite (λ_=> .fail) λe=> .ite (λ_=>Xd c d b (jN _)) λ_=> .ite (λ_=> .fail) λ_=>
  .ite (λ_=> .bind (Un d b) λa h=>DP h.1 h.2.1 (.inr (.inr (.inl ⟨rfl,(c _).1 (Decidable.not_not.1 e),by show a.2.length<=20000;omega,h.2.2.1⟩)))) λ_=> ?_
 split
 .rename_i i hi
  obtain⟨e,-⟩:=List.findIdx?_eq_some_iff_getElem.1 hi
  exact DP b (jN _) (.inr (.inl ⟨rfl,Int.natCast_nonneg i,Int.ofNat_lt.2 e⟩))
 exact .fail
theorem qFb{level i:Nat}(h:¬nR ts level i=0):1<=nR ts level i/\nR ts level i<=7:=by
 unfold nR at h ⊢
 split
 .rename_i o ho
  have:=kZ ho
  simp only[opsC,jK,gJ,dQ] at this
  rcases this with e|e|e|e|e|e|e<;>(rw[e];decide)
 rename_i ho
 rw[ho] at h
 exact absurd rfl h
theorem Ma{level:Nat}(b:AL Z F np S){q:Ps}:∀(n x:Nat) (p:Ps),OB Z F np p.2->q.2.length<=p.2.length->x<p.2.length->PB (Stp Z F np q) (sT ts level S n x p)
 |0,_,_,_,_,_=> .fail
 |n+1,x,p,c,d,e=> .ite (λ_=> .ok ⟨c,d,e⟩) λf=> .bind (b _ c) λa h=> .bind (DP (q:=q) h.1 (gC d h.2.1) (.inr (.inr (.inr (.inl ⟨rfl,qFb f,x,a.2,rfl,fT e h.2.1,h.2.2⟩))))) λ_ g=> .ite (λ_=> .ok g) λ_=>Ma b n _ _ g.1 g.2.1 g.2.2
theorem Ag{level:Nat}(a:AL Z F np S):AL Z F np (wD ts level S):=λp b=> .bind (a p b) λ_ h=>Ma a _ _ _ h.1 h.2.1 h.2.2
theorem NR(f:wN Z F ts)(d:ts.length<=16385):∀k:Nat,AL Z F ps.length (iR ts ps k)
 |0=>λ_ _=> .fail
 |k+1=>λp l=> .ite (λ_=> .bind (NR f d k _ l) λa h=> .bind .any λ_ _=> .bind (NR f d k _ h.1) λb g=> .bind .any λ_ _=> .bind (NR f d k _ g.1) λc e=>
   DP e.1 (gC h.2.1 (gC g.2.1 e.2.1)) (.inr (.inr (.inr (.inr (.inl ⟨rfl,a.2,b.2,c.2,rfl,fT h.2.2 (gC g.2.1 e.2.1),fT g.2.2 e.2.1,e.2.2⟩)))))) λ_=>
  Ag (Ag (Ag (qAw f d (NR f d k)))) p l
theorem Jb:∀(n:Nat) (l:List BA) (i:Nat),l.length<=8->PB (λr=>r.2.length<=8) (wX ts n l i)
 |0,_,_,_=> .fail
 |n+1,l,i,a=> .bind .any λ_ _=> .ite (λ_=> .fail) λh=> .ite (λ_=> .fail) λ_=>
  .ite (λ_=>Jb n _ _ (by rw[jG,gD];omega)) λ_=> .bind .any λ_ _=> .ok (by show(l++[_]).length<=8;rw[jG,gD];omega)
theorem Sw{i:Nat}:PB (λr=>r.2.length<=8) (uX ts i):= .bind .any λ_ _=> .ite (λ_=> .ok (kK _)) λ_=>Jb _ _ _ (kK _)
theorem qEr(l:wN Z F ts)(f:ts.length<=16385)(before:List Dl)(i:Nat):PB (λa=>EN Z F a.2) (qU ts before i):=by
 unfold qU
 exact .ite (λ_=> .fail) λ_=> .ite (λ_=> .fail) λ_=> .bind .any λ_ _=> .ite (λ_=> .fail) λ_=>
  .bind (P:=λb=>b.2.length<=8/\(oJ (aH ts i).2.1≠1->b.2=[])) (.ite (λh b e=>⟨Sw b e,λk=>absurd h k⟩) λ_=> .ok ⟨kK _,λ_=>rfl⟩) λb d=> .bind .any λ_ _=>
  .bind (NR l f _ (_,[]) ⟨λi x h=>(by simp at h),kK _⟩) λc g=> .bind .any λ_ _=> .ok ⟨g.1,Nat.lt_of_le_of_lt (kK _) g.2.2,d.1,d.2⟩
theorem Ki(e:wN Z F ts)(b:ts.length<=16385):∀(n:Nat) (l:List Dl) (i:Nat),(∀d∈l,EN Z F d)->PB (λr=>∀d∈r,EN Z F d) (wY ts n l i)
 |0,_,_,_=> .fail
 |n+1,l,i,c=> .ite (λ_=> .ok c) λ_=> .bind (qEr e b _ _) λ_ h=>Ki e b n _ _ λd a=>by
  rcases fD.1 a with a|a
  .exact c d a
  rw[gX.1 a];exact h
theorem Hi(d:wN Z F ts){pkg:BA}:∀(n:Nat) (l:List BA) (i:Nat),(∀q∈l,Z 3 q)->l.length<=8->PB (λr=>(∀q∈r.2,Z 3 q)/\r.2.length<=8) (tX ts pkg n l i)
 |0,_,_,_,_=> .fail
 |n+1,l,i,c,e=> .ite (λ_=> .ite (λ_=> .fail) λh=> .bind (Lt d) λa f=> .ite (λ_=> .fail) λ_=> .bind .any λ_ _=>Hi d n _ _ (λq b=>by
  rcases fD.1 b with b|b
  .exact c q b
  rw[gX.1 b];exact f) (by rw[jG,gD];omega)) λ_=> .ok ⟨c,e⟩
theorem qCx{Z:Int->BA->Prop}{F:Int->Prop}{s:BA}(c:Z 3 ⟨#[]⟩)(n:(mT s).2.2=0->∀t∈(mT s).1,EE Z F t):okF Z F (lS s).1:=by
 have a:=SZ (s:=s)
 have b:okF Z F uO:=⟨⟨c,λ_ h=>by cases h⟩,kK _,kK _,λ_ h=>by cases h⟩
 unfold lS at a ⊢
 by_cases h0:(mT s).2.2=0
 .rw[jA (not_not_intro h0)] at a ⊢
  obtain⟨p,e,-⟩:=SY h0
  have g:wN Z F (mT s).1:=λj=>by
   unfold aH
   rw[jV]
   cases hj:(mT s).1[j]? with
   |none=>exact⟨λh=>absurd h ac,λh=>absurd h ac,λh=>absurd h ac⟩
   |some t=>exact n h0 t (gY hj)
  cases hf:xA (mT s).1 with
  |inl z=>exact b
  |inr f=>
   rw[hf] at a
   have key:PB (λf=>(Z 3 f.1/\∀q∈f.2.1,Z 3 q)/\f.2.1.length<=8/\∀d∈f.2.2,EN Z F d) (xA (mT s).1):=
    .bind .any λ_ _=> .bind (Lt g) λ_ l=> .bind .any λ_ _=> .bind (Hi g _ [] _ (λ_ h=>by cases h) (kK _)) λ_ k=> .bind (Ki g e _ [] _ λ_ h=>by cases h) λ_ c=> .ok ⟨⟨l,k.1⟩,k.2,c⟩
   obtain⟨k,l,o⟩:=key f hf
   exact⟨k,l,a,o⟩
 rw[jB h0];exact b
end
section
open Go Go.Dc Go.Proofs
def AK(x y:eU):Bool:=(FZ 0 x y).getD false
theorem Xn{N:Nat}(x y:eU):FZ N x y=some (AK x y):=by
 show FZ 0 x y=_
 unfold AK FZ
 split
 .rfl
 split
 .rfl
 split
 .rfl
 split<;>rfl
theorem qFm(x y:eU):((x.1.toList==y.1.toList)&&((x.2.1.toList==y.2.1.toList)&&((x.2.2.1==y.2.2.1)&&((x.2.2.2.1.toList==y.2.2.2.1.toList)&&((x.2.2.2.2.1==y.2.2.2.2.1)&&((x.2.2.2.2.2==y.2.2.2.2.2)&&true))))))=decide (x=y):=by
 obtain⟨a,b,c,d,e,f⟩:=x
 obtain⟨a',b',c',d',e',f'⟩:=y
 rw[kA]
 simp only[sF,jS,j6,kG,and_true,Prod.mk.injEq]
theorem qBk{N:Nat}{s2:List eU×Int}{y:eU}(d:s2.1.length<1000000)(c:s2.1.length<N):aC (CL N s2 y) N 0=some ((uS AK y s2.1:Nat):Int):=by
 have a:=Hx (b:=AK) (e:=y) (L:=s2.1) (f:=CL N s2 y) d (by
  intro i hi
  simp only[CL]
  rw[jB ad,eZ hi]
  have w:wI ((i:Int)+1)=((i+1:Nat):Int):=by rw[bP aa aa];omega
  simp only[j0,w,Xn]
  split<;>rfl) (by
  simp only[CL]
  rw[jA ae]
  rfl) s2.1.length 0 N aa c
 rw[jX,gA] at a
 exact a
theorem Xz{N:Nat}{out:List eU}{i:Int}{y:eU}(d:out.length<1000000)(l:out.length<N):
  ((aC (CL N (out,i) y) N 0).bind λo4=>(if(decide (o4<((List.length out):Int)))then((bC out o4).bind λa=>some ((a.1.toList==y.1.toList)&&((a.2.1.toList==y.2.1.toList)&&((a.2.2.1==y.2.2.1)&&((a.2.2.2.1.toList==y.2.2.2.1.toList)&&((a.2.2.2.2.1==y.2.2.2.2.1)&&((a.2.2.2.2.2==y.2.2.2.2.2)&&true))))))) else(some false):Option (Bool)).bind λn=>if n then(some out) else((iK 72 out ([y])).bind λc=>(qB c (wI (o4+1)) (List.length c:Int)).bind λ_=>(qB c o4 (List.length c:Int)).bind λ_=>(vL c (wI (o4+1)) o4).bind λh=>(bC h o4).bind λ_=>some (List.set h (Int.toNat o4) y)):Option (List eU))=some (BR AK y out):=by
 rw[qBk (s2:=(out,i)) d l,Jg]
 have f:=Kh (b:=AK) (e:=y) out
 show((some ((uS AK y out:Nat):Int)).bind _)=_
 generalize uS AK y out=k at f
 simp only[j0,qFm]
 by_cases hc:(k:Int)<(out.length:Int)
 .have hi:k<out.length:=by omega
  rw[jB (by simpa using hi),eZ hi]
  simp only[j0,List.getElem?_eq_getElem hi,jJ,j6]
  by_cases he:out[k]=y
  .rw[jB he,jB he]
  rw[jA he,jA he]
  exact Kq f ac ac d
 rw[jA (by simpa using hc)]
 simp only[j0,j9,jF]
 rw[jA (by rw[List.getElem?_eq_none aa];intro g;cases g)]
 exact Kq f ac ac d
def uE(O:List qR)(pkg:BA)(out:List eU)(d:Dl):List eU:=BR AK (nW O d.1 pkg d.2.1) out
theorem Kt{N:Nat}{l:List (BA×Sr)}{x:Sr}{acc:List eU}(n:l.length<=64)(k:∀x∈l,x.2.2.2.length<=64)(p:x.2.2.length<=64)(o:1000000<N)(g:acc.length<=100000):
  aC (FA N (l.map (·.1),l.map (·.2)) x) N (acc,0)=some (x.2.2.foldl (uE (lW l) x.1) acc)/\(x.2.2.foldl (uE (lW l) x.1) acc).length<=acc.length+64:=by
 have a:∀(ds:List Dl) (t:List eU),(ds.foldl (uE (lW l) x.1) t).length<=t.length+ds.length:=by
  intro ds
  induction ds with
  |nil=>intro t;exact jN _
  |cons d ds b=>
   intro t
   have e:=b (uE (lW l) x.1 t d)
   have c:(uE (lW l) x.1 t d).length<=t.length+1:=TP
   simp only[kD,jC];omega
 refine⟨?_,by have:=a x.2.2 acc;omega⟩
 have h:=BD (L:=x.2.2) (λ(t:List eU) (i:Nat)=>(t,(i:Int))) (f:=FA N (l.map (·.1),l.map (·.2)) x)
  (λt d=> .inl (uE (lW l) x.1 t d)) (λt=>t) (λi t=>t.length<=acc.length+i) (by
   intro t i hi b
   simp only[FA]
   rw[jB ad,eZ hi]
   have ew:wI ((i:Int)+1)=((i+1:Nat):Int):=by rw[bP aa aa];omega
   have e:=TD (N:=N) (l:=l) (x.2.2[i]).1 x.1 (x.2.2[i]).2.1 n k aa
   simp only[j0,ew]
   refine Eq.trans (kF (λz=>Option.bind (Option.bind z _) _) e) ?_
   simp only[j0]
   refine Eq.trans (kF (λz=>Option.bind z _) (Xz (i:=(i:Int)) (y:=nW (lW l) (x.2.2[i]).1 x.1 (x.2.2[i]).2.1) (show t.length<1000000 by omega) (show t.length<N by omega))) ?_
   rfl) (by
   intro t i hi t' b h
   cases h
   have c:(uE (lW l) x.1 t x.2.2[i]).length<=t.length+1:=TP
   omega) (by
   intro t b
   simp only[FA]
   rw[jA ae]) (M:=N) (t:=acc) aa (jN _)
 rw[show((0:Nat):Int)=0 from rfl] at h
 rw[h,DH (uE (lW l) x.1) (λ_ _=>rfl)]
theorem Ru{N:Nat}{L:List bT}(o:nE L=0)(q:1000005<N):∃E,QZ N L=some E/\E.length<1000000:=by
 simp only[QZ,HC (show 100<N by omega),j0]
 rw[jA (by simp[o]),XQ q]
 obtain⟨b,a⟩:=zP L
 rw[show mX L=iZ L by unfold mX;rw[jB o]] at b a ⊢
 generalize iZ L=l at b a
 simp only[j0]
 have h:=BD (L:=l) (λ(t:List eU) (i:Nat)=>(t,(i:Int))) (f:=KE N (l.map (·.1),l.map (·.2)))
  (λt x=> .inl (x.2.2.2.foldl (uE (lW l) x.2.1) t)) (λt=>t) (λi t=>t.length<=64*i) (by
   intro t i hi c
   simp only[KE]
   have e:i<(l.map (·.2)).length:=by simpa using hi
   rw[jB ad,eZ e]
   have ew:wI ((i:Int)+1)=((i+1:Nat):Int):=by rw[bP aa aa];omega
   simp only[j0,ew,dP]
   rw[(Kt (x:=(l[i]).2) (acc:=t) b a (a _ (kE hi)) aa aa).1]
   rfl) (by
   intro t i hi t' c h
   cases h
   have:=(Kt (N:=N) (x:=(l[i]).2) (acc:=t) b a (a _ (kE hi)) aa aa).2
   omega) (by
   intro t c
   simp only[KE]
   rw[jA ae]) (M:=N) (t:=[]) aa (kK _)
 rw[show((0:Nat):Int)=0 from rfl] at h
 rw[DH (λt (x:BA×Sr)=>x.2.2.2.foldl (uE (lW l) x.2.1) t) (λ_ _=>rfl)] at h
 refine⟨_,kF (λz=>Option.bind z _) h,?_⟩
 suffices g:∀(k:List (BA×Sr)) (t:List eU),(∀x∈k,x.2.2.2.length<=64)->(k.foldl (λt (x:BA×Sr)=>x.2.2.2.foldl (uE (lW l) x.2.1) t) t).length<=t.length+64*k.length by
  have n:=g l [] a
  simp only[jD] at n;omega
 intro k
 induction k with
 |nil=>exact λt _=>jN _
 |cons x k e=>
  intro t p
  have v:=p x (jR ..)
  have n:=e (x.2.2.2.foldl (uE (lW l) x.2.1) t) (λy r=>p y (jU _ r))
  have c:∀(ds:List Dl) (t:List eU),(ds.foldl (uE (lW l) x.2.1) t).length<=t.length+ds.length:=by
   intro ds
   induction ds with
   |nil=>intro t;exact jN _
   |cons d ds e=>
    intro t
    have s:=e (uE (lW l) x.2.1 t d)
    have u:(uE (lW l) x.2.1 t d).length<=t.length+1:=TP
    simp only[kD,jC];omega
  have:=c x.2.2.2 t
  rw[kD]
  simp only[jC];omega
theorem Ep{α β:Type}(p:α->Bool)(g:α->β):∀(L:List α) (acc:List β),L.foldl (λt x=>if p x then t++[g x] else t) acc=acc++(L.filter p).map g
 |[],acc=>by simp
 |x::L,acc=>by
  rw[kD,Ep p g L,gE]
  by_cases h:p x=true
  .rw[jB h,jB h];simp
  rw[jA h,jA h]
def DO(x:eU):Bool:=x.2.2.1==2&&x.2.2.2.2.2==1
abbrev Nm:=BA×BA
theorem We{N:Nat}{E:List eU}{f:List Nm×Int->Option ((List Nm×Int)⊕List Nm)}(g:E.length<1000000)(k:1000000<N)
  (c:∀s1:List Nm×Int,f s1=if(decide (s1.2<(List.length E:Int)))then(((bC E s1.2).bind λa=>(if(a.2.2.1==2)then(some (a.2.2.2.2.2==1)) else(some false):Option (Bool)).bind λe=>if e then((iK 32 s1.1 ([(a.1,a.2.1)])).bind λd=>some d) else(some s1.1):Option ((List (BA×BA)))).bind λo2=>some (.inl (o2,wI (s1.2+1)))) else(some (.inr s1.1))):
  aC f N ([],0)=some ((E.filter DO).map λx=>(x.1,x.2.1)):=by
 have h:=BD (L:=E) (λ(t:List Nm) (i:Nat)=>(t,(i:Int))) (f:=f)
  (λt x=> .inl (if DO x then t++[(x.1,x.2.1)] else t)) (λt=>t) (λi t=>t.length<=i) (by
   intro t i hi b
   rw[c]
   simp only
   rw[jB ad,eZ hi]
   have ew:wI ((i:Int)+1)=((i+1:Nat):Int):=by rw[bP aa aa];omega
   simp only[j0,ew]
   unfold DO
   by_cases h1:((E[i]).2.2.1==2)=true
   .rw[jB h1,h1]
    simp only[j0,dJ]
    by_cases h2:((E[i]).2.2.2.2.2==1)=true
    .rw[jB h2,jB h2,lQ af aa]
     rfl
    rw[jA h2,jA h2];rfl
   .have h1':((E[i]).2.2.1==2)=false:=by simpa using h1
    rw[jA h1,h1']
    simp only[j0,Bool.false_and,j9,jF]) (by
   intro t i hi t' b h
   cases h
   split
   .simp only[jG,jC,jD];omega
   .omega) (by
   intro t b
   rw[c]
   simp only
   rw[jA ae]) (M:=N) (t:=[]) aa (kK _)
 rw[show((0:Nat):Int)=0 from rfl] at h
 rw[h,DH (λt (x:eU)=>if DO x then t++[(x.1,x.2.1)] else t) (λ_ _=>rfl),Ep DO (λx=>(x.1,x.2.1))]
 simp
theorem Sq{N:Nat}{L:List bT}(d:nE L=0)(c:1000005<N):∃T:List Nm,RU N L=some T/\T.length<1000000:=by
 obtain⟨E,a,b⟩:=Ru d c
 refine⟨(E.filter DO).map λx=>(x.1,x.2.1),?_,?_⟩
 .unfold RU
  rw[a]
  simp only[j0]
  rw[We (f:=VR N E) b aa (λ_=>rfl)]
  rfl
 rw[gN]
 have:=fW DO E
 omega
theorem Lz:∀(ds:List UInt8) (n:Int),0<=n->(∀c∈ds,kd c=2)->0<=ds.foldl DZ n
 |[],_,h,_=>h
 |c::ds,n,h,a=>Lz ds _ (by
  have:=TL c (a c (jR ..))
  unfold DZ
  split<;>omega) λc b=>a c (jU _ b)
abbrev ZT:Int->BA->Prop:=λ_ _=>True
abbrev F1:Int->Prop:=λ_=>True
theorem TQ{t:cC}(a:t.1≠2):EE ZT F1 t:=⟨λ_=>trivial,λ_=>⟨λ_=>⟨trivial,trivial,trivial⟩,λ_=>trivial⟩,λh=>absurd h a⟩
theorem qEy{s:BA}{i:Nat}{p:Int}(h:(lF s i).2.2=0):EE ZT F1 ((lF s i).1.1,(lF s i).1.2.1,(lF s i).1.2.2.1,p):=by
 unfold lF at h ⊢
 by_cases h1:kd (s.data.toList.getD i 0)=1
 .rw[jB h1] at h ⊢
  split at h
  .cases h
  rename_i h2;rw[jA h2];exact TQ (by show ¬((1:Int)=2);decide)
 rw[jA h1] at h ⊢
 by_cases h2:kd (s.data.toList.getD i 0)=2
 .rw[jB h2] at h ⊢
  split at h
  .cases h
  rename_i h3
  rw[jA h3]
  have a:∀c∈(s.data.toList.drop i).takeWhile (cJ [2]),kd c=2:=λc b=>by
   have:=jW.1 (List.all_takeWhile (p:=cJ [2]) (l:=s.data.toList.drop i)) c b
   simpa[cJ] using this
  exact⟨λh=>(by cases h),λh=>(by cases h),λ_=>⟨⟨Lz _ 0 (dO _) a,by show uD _<=_;omega⟩,λ_=>trivial⟩⟩
 rw[jA h2] at h ⊢
 by_cases h7:kd (s.data.toList.getD i 0)=7
 .rw[jB h7] at h ⊢
  split at h
  .rename_i h3;rw[jB h3];exact TQ (by show ¬((3:Int)=2);decide)
  cases h
 rw[jA h7] at h ⊢
 by_cases h8:kd (s.data.toList.getD i 0)=8
 .rw[jB h8];exact TQ (by show ¬((4:Int)=2);decide)
 rw[jA h8] at h
 cases h
theorem As{s:BA}:∀(k i:Nat) (r:List cC),pL k s i= .inr r->∀t∈r,EE ZT F1 t
 |0,i,r,h=>by
  obtain rfl:=(Sum.inr.inj h).symm
  intro t a;cases a
 |k+1,i,r,h=>by
  simp only[pL] at h
  split at h
  .obtain rfl:=(Sum.inr.inj h).symm
   intro t a
   rw[gX.1 a]
   exact TQ (by show ¬((5:Int)=2);decide)
  split at h
  .exact As k _ r h
  split at h
  .cases h
  rename_i b
  have b:(lF s (tw (cJ [5]) s.data.toList i)).2.2=0:=by simpa using b
  split at h
  .cases h
  rename_i q hq
  obtain rfl:=(Sum.inr.inj h).symm
  intro t a
  rcases jK.1 a with rfl|a
  .exact qEy b
  exact As k _ q hq t a
theorem qAv{s:BA}(h:(mT s).2.2=0):∀t∈(mT s).1,EE ZT F1 t:=by
 unfold mT at h ⊢
 split
 .intro t a;cases a
 rename_i hs
 rw[jA hs] at h
 cases hg:pL (s.data.toList.length+1) s 0 with
 |inl x=>intro t a;cases a
 |inr r=>exact λt a=>As _ _ r hg t a
theorem Lg(s:BA):okF ZT F1 (lS s).1:=qCx trivial λh=>qAv h
end
end Go.Proofs.YtndcdhopdbkikabGreatDoor
