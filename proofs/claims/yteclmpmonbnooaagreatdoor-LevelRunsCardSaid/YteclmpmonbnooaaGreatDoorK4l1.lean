/- No condition but those of each theorem. -/
import Derived.Test.YteclmpmonbnooaaGreatDoorProg
import Derived.WalkKit
import Derived.Deep.LoopGhost
import Derived.KernelRfl
import Derived.OrdersHeld
import Derived.OrdersIn
import Derived.LoopNIn
import Derived.Sort.LoopGhostIn
import Derived.Laws.AppendOwn
import Derived.RangeFuncLeaves
import Derived.RangeFuncRecord
import Derived.MapKept
import Derived.Maps.RangeRun
import Derived.ChangeKeysEq
import Derived.HandedShaped
import Derived.ChangeStays
import Derived.ChangeSame
import Derived.OpenShut
import Derived.WideShapes
import Derived.JoinedOf
import Derived.ReadAgain
import Derived.ChangeAt
import Derived.RowKit
import Derived.Lib.Overlaps
import Derived.Shelf.SlSortCmp.NoneTotal
import Derived.WalkSmall
import Derived.Recover
import Derived.Lib.Bytealg
import Derived.Lib.ItoaNum
import Derived.Test.YteclmpmonbnooaaGreatDoorK3l1
namespace Go.Proofs.YteclmpmonbnooaaGreatDoor
section
open Go Go.Dc
theorem CS{p:UInt8->Bool}(h:((List.range 256).all fun n=>p (UInt8.ofNat n))=true)(c:UInt8):p c=true:=by
 have:=jZ.1 h c.toNat (hJ.2 c.toNat_lt)
 simpa using this
theorem YH{N:Nat}(c:UInt8):HC N (c.toNat:Int)=some (kd c==1):=by
 have h:=CS (p:=fun c=>(decide (97<=c.toNat)&&decide (c.toNat<=122))==(kd c==1)) af c
 rw[kI] at h
 rw[<-h]
 unfold HC
 by_cases h1:97<=c.toNat
 .rw[if_pos ad]
  simp only[h1,decide_true,fH,j0]
  congr 1
  exact decide_eq_decide.2 aa
 rw[if_neg ad]
 simp[h1]
theorem NG{N:Nat}(c:UInt8):EB N (c.toNat:Int)=some (bN [1,2,3] c):=by
 have h:=CS (p:=fun c=>(kd c==1||(decide (48<=c.toNat)&&decide (c.toNat<=57)||decide (c.toNat=95)))==bN [1,2,3] c) af c
 rw[kI] at h
 rw[<-h]
 unfold EB
 rw[YH]
 simp only[j0]
 cases kd c==1
 .have a:((c.toNat:Int)==95)=decide (c.toNat=95):=by rw[kP,kI,j7];omega
  simp only[jA,jG,gX,a]
  by_cases h1:48<=c.toNat
  .by_cases h2:c.toNat<=57
   .rw[if_pos ad,if_pos ad];simp[h1,h2]
   rw[if_pos ad,if_neg ad];simp[h2]
  rw[if_neg ad];simp[h1]
 rfl
theorem YB(c:UInt8):kd c=2↔48<=c.toNat/\c.toNat<=57:=by
 have h:=CS (p:=fun c=>(kd c==2)==(decide (48<=c.toNat)&&decide (c.toNat<=57))) af c
 rw[kI,kP] at h
 simpa using h
theorem qJa(c:UInt8):kd c=7↔c=34:=by
 have h:=CS (p:=fun c=>(kd c==7)==(c==34)) af c
 rw[kI,kP] at h
 simpa using h
def signs:List UInt8:=[59,44,40,41,43,45,42,47,37,60,61]
theorem qKh(c:UInt8):kd c=8↔signs.contains c=true:=by
 have h:=CS (p:=fun c=>(kd c==8)==signs.contains c) af c
 rw[kI,kP] at h
 simpa using h
theorem qZa(c:UInt8):bN [5] c=true↔c.toNat=32\/c.toNat=9\/c.toNat=10\/c.toNat=13:=by
 have h:=CS (p:=fun c=>bN [5] c==(decide (c.toNat=32)||(decide (c.toNat=9)||(decide (c.toNat=10)||decide (c.toNat=13))))) af c
 rw[kI,kP] at h
 simpa using h
theorem qVo(c:UInt8):kd c=6↔c.toNat=35:=by
 have h:=CS (p:=fun c=>(kd c==6)==decide (c.toNat=35)) af c
 rw[kI,kP] at h
 simpa using h
def sA(n:Int)(c:UInt8):Int:=if n<=9007199254740992 then n*10+((c.toNat:Int)-48) else n
theorem qYo(l:List UInt8)(c:UInt8):(l++[c]).foldl sA 0=sA (l.foldl sA 0) c:=by simp
theorem qNt:∀(n:Nat) (ds:List UInt8),ds.length=n->(∀c∈ds,kd c=2)->0<=ds.foldl sA 0/\ds.foldl sA 0<=90071992547409930/\sQ ds=if ds.foldl sA 0>9007199254740992 then 9007199254740993 else ds.foldl sA 0
 |0,ds,h,_=>by obtain rfl:=gI.1 h;simp[sQ]
 |n+1,ds,h,k=>by
  obtain⟨l,c,rfl⟩:∃l c,ds=l++[c]:=by
   rcases List.eq_nil_or_concat ds with e|⟨l,c,e⟩
   .rw[e] at h;cases h
   exact⟨l,c,by simpa using e⟩
  obtain⟨d,f,a⟩:=qNt n l (by simpa using h) (fun c g=>k c (kE _ g))
  have g:=qKg c (k c ae)
  rw[qYo,XV]
  by_cases hu:l.foldl sA 0<=9007199254740992
  .rw[if_neg aa] at a
   rw[a]
   generalize l.foldl sA 0=u at d f hu
   have b:sA u c=u*10+((c.toNat:Int)-48):=if_pos hu
   rw[b]
   unfold DG
   refine⟨by omega,by omega,?_⟩
   by_cases h4:9007199254740993<10*u+((c.toNat:Int)-48)
   .rw[if_pos h4,if_pos aa]
   rw[if_neg h4]
   by_cases h5:u*10+((c.toNat:Int)-48)>9007199254740992
   .rw[if_pos h5];omega
   rw[if_neg h5];omega
  rw[if_pos aa] at a
  rw[a]
  generalize l.foldl sA 0=u at d f hu
  have b:sA u c=u:=if_neg hu
  have o:DG 9007199254740993 c=9007199254740993:=if_pos aa
  rw[b,o,if_pos aa]
  exact⟨d,f,rfl⟩
theorem qQo(c:UInt8):bN [2] c=decide (48<=c.toNat/\c.toNat<=57):=by
 rw[kP,j7,<-YB];simp[bN]
theorem qFl{N:Nat}{s:BA}:∀(d i M:Nat) (n:Int),i+d=s.data.toList.length->s.data.toList.length<1000000->d<M->0<=n->n<=90071992547409930->
  aB (LA N s) M ((i:Int),n)=some (((tw (bN [2]) s.data.toList i:Nat):Int),((s.data.toList.drop i).takeWhile (bN [2])).foldl sA n)
 |d,i,0,n,_,_,h,_,_=>by omega
 |0,i,M+1,n,c,b,e,f,g=>by
  have l:=mZ s
  rw[qBf aa,jU aa]
  simp only[aB,LA]
  rw[if_neg ad]
  rfl
 |d+1,i,M+1,n,c,b,e,f,g=>by
  have l:=mZ s
  have hi:i<s.data.toList.length:=by omega
  simp only[aB,LA]
  rw[if_pos ad,qK hi]
  simp only[j0]
  have k:(if decide (((s.data.toList[i]).toNat:Int)>=48)then some (decide (((s.data.toList[i]).toNat:Int)<=57)) else some false)=some (bN [2] (s.data.toList[i])):=by
   rw[qQo]
   by_cases h48:48<=(s.data.toList[i]).toNat
   .rw[if_pos ad];congr 1;exact decide_eq_decide.2 aa
   rw[if_neg ad];congr 1;exact(jX aa).symm
  rw[k]
  simp only[j0]
  rw[kA hi]
  cases hb:bN [2] (s.data.toList[i]) with
  |false=>
   rw[NM hi hb,fA (by rw[hb];exact kH)]
   rfl
  |true=>
   have o:48<=(s.data.toList[i]).toNat/\(s.data.toList[i]).toNat<=57:=by rw[qQo] at hb;simpa using hb
   rw[<-NO hi hb,gM hb,gG,if_pos rfl]
   have a:(if decide (n<=9007199254740992)then some (IntKind.wrap .i64 (IntKind.wrap .i64 (n*10)+IntKind.wrap .i64 (IntKind.wrap .u8 (((s.data.toList[i]).toNat:Int)-48)))) else some n)=some (sA n (s.data.toList[i])):=by
    unfold sA
    by_cases a:n<=9007199254740992
    .rw[if_pos (by simpa using a),if_pos a,wu8 aa aa,bB (x:=n*10) aa aa,bB (x:=((s.data.toList[i]).toNat:Int)-48) aa aa,bB aa aa]
    rw[if_neg (by simpa using a),if_neg a]
   rw[a]
   simp only[j0]
   rw[bB aa aa,<-fR]
   exact qFl d (i+1) M _ aa b aa (by unfold sA;split<;>omega) (by unfold sA;split<;>omega)
theorem qMd(c:UInt8):(if decide ((c.toNat:Int)>=32)then(if decide ((c.toNat:Int)<=126)then some ((c.toNat:Int) !=34) else some false) else some false)=some (oT c):=by
 unfold oT
 by_cases h1:32<=c.toNat
 .rw[if_pos ad]
  by_cases h2:c.toNat<=126
  .rw[if_pos ad]
   simp only[h1,h2,decide_true,fH]
   congr 1
   rw[kP,dE,dE]
   exact⟨fun h e=>h (by rw[e];rfl),fun h e=>h (UInt8.toNat_inj.1 (by show _=34;omega))⟩
  rw[if_neg ad];simp[h2]
 rw[if_neg ad];simp[h1]
theorem qUp{N:Nat}{s:BA}(d i M:Nat)(c:i+d=s.data.toList.length)(h:s.data.toList.length<1000000)(g:d<M):aB (DT N s) M (i:Int)=some ((tw oT s.data.toList i:Nat):Int):=by
 have k:=mZ s
 refine IK (f:=DT N s) (l:=s.data.toList) (p:=oT) (fun e=>(e:Int)) (fun j b a=> ?_) (fun j b a=> ?_) ?_ d i M c g
 .simp only[DT]
  rw[if_pos ad,qK b]
  simp only[j0,qMd,a]
  rw[if_pos trivial,bB aa aa]
 .simp only[DT]
  rw[if_pos ad,qK b]
  simp only[j0,qMd,a]
  rfl
 simp only[DT]
 rw[if_neg ad]
 rfl
theorem qPa{N:Nat}{s:BA}{p1 a:Int}:QY N s p1 a=if(decide (a<(signs.length:Int)))then((aO signs a).bind fun b=>(lI s p1).bind fun c=>if((c.toNat:Int)==(b.toNat:Int))then((sP s p1 (IntKind.wrap .i64 (p1+1))).bind fun d=>some (.inr (.inr (((4,d,0,p1),IntKind.wrap .i64 (p1+1),0))))) else(some (.inl (IntKind.wrap .i64 (a+1))))) else(some (.inr (.inl ()))):=rfl
theorem qEo{N:Nat}{s:BA}{i:Nat}(hi:i<s.data.toList.length)(g:s.data.toList.length<1000000):∀(d j M:Nat),j+d=signs.length->d<M->
  aB (QY N s (i:Int)) M (j:Int)=some (if(signs.drop j).contains (s.data.toList[i])then .inr ((4,s.extract i (i+1),0,(i:Int)),((i+1:Nat):Int),0) else .inl ())
 |d,j,0,_,h=>by omega
 |0,j,M+1,e,f=>by
  simp only[aB,qPa]
  rw[if_neg ad,jU aa]
  rfl
 |d+1,j,M+1,e,f=>by
  have b:j<signs.length:=by omega
  have k:signs.length=11:=rfl
  simp only[aB,qPa]
  rw[if_pos ad,cQ b,qK hi,kA b]
  simp only[j0,List.contains_cons]
  by_cases he:s.data.toList[i]=signs[j]
  .rw[if_pos (by rw[he];exact fF _),bB (x:=(i:Int)+1) aa aa,<-fR,NH aa aa]
   simp only[j0]
   rw[if_pos (by rw[he];simp)]
  have c:¬((s.data.toList[i]).toNat:Int)=((signs[j]).toNat:Int):=fun h=>he (UInt8.toNat_inj.1 aa)
  have a:(s.data.toList[i]==signs[j])=false:=beq_eq_false_iff_ne.2 he
  rw[if_neg (by simpa using c),bB aa aa,<-fR]
  simp only[j0,a,gX]
  exact qEo hi g d (j+1) M aa aa
def qBw(s:BA)(i:Nat):(Int×BA×Int×Int)×Int×Int:=
 if(iT s i).2.2=0 then(((iT s i).1.1,(iT s i).1.2.1,(iT s i).1.2.2.1,(i:Int)),(iT s i).2.1,0) else iT s i
theorem qVy{N:Nat}{s:BA}{i:Nat}(hi:i<s.data.toList.length)(n:s.data.toList.length<1000000)(v:s.data.toList.length+20<N):RX N s (i:Int)=some (qBw s i):=by
 have y:=mZ s
 simp only[RX,qK hi,j0,YH,qBw,iT,qZ hi,kI]
 by_cases h1:kd (s.data.toList[i])=1
 .simp only[h1,jI]
  have d:=sN (p:=bN [1,2,3]) (l:=s.data.toList) (a:=i) aa
  have key:=IK (f:=GZ N s) (l:=s.data.toList) (p:=bN [1,2,3]) (fun e=>(e:Int)) (fun j b d=>by
   simp only[GZ]
   rw[if_pos ad,qK b]
   simp only[j0,NG,d]
   rw[if_pos trivial,bB aa aa]) (fun j b d=>by
   simp only[GZ]
   rw[if_pos ad,qK b]
   simp only[j0,NG,d]
   rfl) (by
   simp only[GZ]
   rw[if_neg ad]
   rfl) (s.data.toList.length-i) i N aa aa
  rw[key]
  simp only[j0]
  rw[bB aa aa,NH d.1 d.2]
  by_cases h:tw (bN [1,2,3]) s.data.toList i-i>24
  .rw[if_pos ad,if_pos h];rfl
  rw[if_neg ad,if_neg h];rfl
 simp only[h1,jG]
 by_cases h2:kd (s.data.toList[i])=2
 .simp only[h2,jI]
  have q:=(YB _).1 h2
  rw[if_pos ad]
  simp only[j0]
  obtain⟨b,k,o⟩:=qNt _ _ rfl (fun c (g:c∈(s.data.toList.drop i).takeWhile (bN [2]))=>by simpa[bN] using qAv g)
  rw[if_pos ad,qFl (s.data.toList.length-i) i N 0 aa n aa aa aa,o]
  simp only[j0,j7]
  generalize ((s.data.toList.drop i).takeWhile (bN [2])).foldl sA 0=u at b k
  by_cases h4:u>9007199254740992
  .simp[h4,FK]
  simp[h4]
 simp only[h2,jG]
 have t:¬(48<=(s.data.toList[i]).toNat/\(s.data.toList[i]).toNat<=57):=fun h=>h2 ((YB _).2 h)
 have k:(if decide (((s.data.toList[i]).toNat:Int)>=48)then some (decide (((s.data.toList[i]).toNat:Int)<=57)) else some false)=some false:=by
  by_cases h48:48<=(s.data.toList[i]).toNat
  .rw[if_pos ad];congr 1;rw[decide_eq_false_iff_not];omega
  rw[if_neg ad]
 rw[k]
 simp only[j0,jA,jG]
 by_cases h7:kd (s.data.toList[i])=7
 .have g:s.data.toList[i]=34:=(qJa _).1 h7
  simp only[h7,jI]
  rw[if_pos (by rw[g];rfl),bB (x:=(i:Int)+1) aa aa,<-fR]
  have d:=sN (p:=oT) (l:=s.data.toList) (a:=i+1) aa
  rw[qUp (s.data.toList.length-(i+1)) (i+1) N aa n aa]
  simp only[j0]
  generalize tw oT s.data.toList (i+1)=e at d
  by_cases he:e=s.data.toList.length
  .rw[if_pos aa]
   have:¬s.data.toList.getD e 0=34:=fun h=>by have:=IF (l:=s.data.toList) (i:=e) (by rw[h];decide);omega
   rw[if_neg this]
   rfl
  have b:e<s.data.toList.length:=by omega
  rw[if_neg aa,qK b,qZ b]
  simp only[j0]
  by_cases h34:s.data.toList[e]=34
  .rw[if_pos h34,if_neg (by rw[h34];decide),NH d.1 d.2]
   simp only[j0,jI]
   rw[bB aa aa,<-fR]
  have h34':¬((s.data.toList[e]).toNat:Int)=34:=fun h=>h34 (UInt8.toNat_inj.1 (by show _=34;omega))
  rw[if_neg h34,if_pos (by simpa using h34')]
  simp[FK]
 have h34':¬((s.data.toList[i]).toNat:Int)=34:=fun h=>h7 ((qJa _).2 (UInt8.toNat_inj.1 (by show _=34;omega)))
 simp only[h7,jG,h34']
 have q:(if((s.data.toList[i]).toNat:Int)=61 then(if decide (IntKind.wrap .i64 ((i:Int)+1)<(s.size:Int))then((lI s (IntKind.wrap .i64 ((i:Int)+1))).bind fun o=>some ((o.toNat:Int)==61)) else some false) else some false)=some (decide (s.data.toList.getD i 0=61/\s.data.toList.getD (i+1) 0=61)):=by
  rw[qZ hi]
  by_cases h61:s.data.toList[i]=61
  .rw[if_pos (by rw[h61];rfl),bB aa aa,<-fR]
   by_cases b:i+1<s.data.toList.length
   .rw[if_pos ad,qK b,qZ b]
    simp only[j0]
    congr 1
    rw[kP,kI,j7]
    exact⟨fun h=>⟨h61,UInt8.toNat_inj.1 (by show _=61;omega)⟩,fun h=>by rw[h.2];rfl⟩
   rw[if_neg ad]
   congr 1
   refine(jX fun h=> ?_).symm
   have:=IF (l:=s.data.toList) (i:=i+1) (by rw[h.2];decide)
   omega
  rw[if_neg (fun h=>h61 (UInt8.toNat_inj.1 (by show _=61;omega)))]
  congr 1
  exact(jX fun h=>h61 h.1).symm
 rw[q]
 simp only[j0,j7]
 by_cases h61:s.data.toList.getD i 0=61/\s.data.toList.getD (i+1) 0=61
 .have b:i+1<s.data.toList.length:=IF (by rw[h61.2];decide)
  have d:kd (s.data.toList[i])=8:=by rw[<-qZ hi,h61.1];kernel_rfl
  have g:uD s.data.toList i=i+2:=by rw[uD,if_pos h61]
  have r:s.extract i (i+2)=(⟨#[61,61]⟩:BA):=by
   apply Go.WideShapes.bytes_inj
   simp only[ByteArray.data_extract,fV,gU]
   rw[kA hi,kA b,<-qZ hi,<-qZ b,h61.1,h61.2,show i+2-i=2 by omega]
   rfl
  simp only[h61,and_self,jI,d,g,r]
  rw[bB aa aa]
  simp
 have g:uD s.data.toList i=i+1:=by rw[uD,if_neg h61]
 have key:=qEo (N:=N) hi n 11 0 N rfl aa
 rw[show((0:Nat):Int)=0 from rfl] at key
 rw[if_neg h61,key]
 by_cases d:kd (s.data.toList[i])=8
 .have:=(qKh _).1 d
  simp only[d,jI,kC,this,j0,g]
 have:¬signs.contains (s.data.toList[i])=true:=fun h=>d ((qKh _).2 h)
 simp only[d,jG,kC,this,j0]
 simp[FK]
def oD:Nat->List UInt8->Nat->Nat
 |0,_,i=>i
 |k+1,l,i=>
  if tw (bN [5]) l i=l.length then l.length
  else if kd (l.getD (tw (bN [5]) l i) 0)=6 then oD k l (tw oR l (tw (bN [5]) l i))
  else tw (bN [5]) l i
theorem qWq{N:Nat}{s:BA}{i:Nat}(hi:i<=s.data.toList.length)(k:s.data.toList.length<1000000)(g:s.data.toList.length+10<N):aB (DY N s) N (i:Int)=some ((tw oR s.data.toList i:Nat):Int):=by
 have n:=mZ s
 have d:∀c:UInt8,((c.toNat:Int) !=10)=oR c:=fun c=>by
  rw[kP,dE,oR,dE]
  exact⟨fun h e=>h (by rw[e];rfl),fun h e=>h (UInt8.toNat_inj.1 (by show _=10;omega))⟩
 refine IK (f:=DY N s) (l:=s.data.toList) (p:=oR) (fun e=>(e:Int)) (fun j b a=> ?_) (fun j b a=> ?_) ?_ (s.data.toList.length-i) i N aa aa
 .simp only[DY]
  rw[if_pos ad,qK b]
  simp only[j0,d,a]
  rw[if_pos trivial,bB aa aa]
 .simp only[DY]
  rw[if_pos ad,qK b]
  simp only[j0,d,a]
  rfl
 simp only[DY]
 rw[if_neg ad]
 rfl
theorem qWi{s:BA}{i:Nat}(hi:i<s.data.toList.length):((lI s (i:Int)).bind fun b=>if((b.toNat:Int)==32)then(some true) else((lI s (i:Int)).bind fun d=>if((d.toNat:Int)==9)then(some true) else((lI s (i:Int)).bind fun e=>if((e.toNat:Int)==10)then(some true) else((lI s (i:Int)).bind fun f=>some ((f.toNat:Int)==13)))))=some (bN [5] (s.data.toList[i])):=by
 simp only[qK hi,j0,kI]
 generalize s.data.toList[i]=c
 have a:=qZa c
 by_cases h1:(c.toNat:Int)=32
 .rw[if_pos h1,a.2 aa]
 rw[if_neg h1]
 by_cases h2:(c.toNat:Int)=9
 .rw[if_pos h2,a.2 aa]
 rw[if_neg h2]
 by_cases h3:(c.toNat:Int)=10
 .rw[if_pos h3,a.2 aa]
 rw[if_neg h3]
 congr 1
 rw[kP,kI,a]
 omega
theorem qXf{N:Nat}{s:BA}{i:Nat}(hi:i<s.data.toList.length)(c:s.data.toList.length<1000000)(b:s.data.toList.length+10<N):
  HB N s (i:Int)=some (if bN [5] (s.data.toList[i])then .inl (((i+1:Nat)):Int) else if kd (s.data.toList[i])=6 then .inl ((tw oR s.data.toList i:Nat):Int) else .inr (.inr (i:Int))):=by
 have d:=mZ s
 simp only[HB]
 rw[if_pos ad,qWi hi]
 simp only[j0]
 by_cases h5:bN [5] (s.data.toList[i])=true
 .rw[if_pos h5,if_pos h5,bB aa aa,<-fR]
 rw[if_neg h5,if_neg h5,qK hi]
 simp only[j0,kI]
 have a:=qVo (s.data.toList[i])
 by_cases h6:kd (s.data.toList[i])=6
 .rw[if_pos (by have:=a.1 h6;omega),if_pos h6,qWq aa c b]
  rfl
 rw[if_neg (fun h=>h6 (a.2 aa)),if_neg h6]
theorem YK{N:Nat}{s:BA}(f:s.data.toList.length<1000000)(c:s.data.toList.length+10<N):∀(d i k M:Nat),i+d=s.data.toList.length->d<k->d<M->∃z,aB (HB N s) M (i:Int)=some z/\(z= .inl ((oD k s.data.toList i:Nat):Int)\/z= .inr ((oD k s.data.toList i:Nat):Int))
 |d,i,k,0,_,_,h=>by omega
 |d,i,0,M,_,h,_=>by omega
 |0,i,k+1,M+1,g,n,o=>by
  have r:=mZ s
  refine⟨.inl ((s.data.toList.length:Nat):Int),?_,.inl ?_⟩
  .simp only[aB,HB]
   rw[if_neg ad]
   simp only[j0]
   congr 2;omega
  simp only[oD]
  rw[qBf aa,if_pos aa]
 |d+1,i,k+1,M+1,g,n,o=>by
  have r:=mZ s
  have hi:i<s.data.toList.length:=by omega
  simp only[aB]
  rw[qXf hi f c]
  simp only[j0]
  cases h5:bN [5] (s.data.toList[i]) with
  |true=>
   rw[if_pos rfl]
   have:=YK f c d (i+1) (k+1) M aa aa aa
   simp only[oD,NO hi h5] at this ⊢
   exact this
  |false=>
   rw[if_neg kH]
   by_cases h6:kd (s.data.toList[i])=6
   .have b:oD (k+1) s.data.toList i=oD k s.data.toList (tw oR s.data.toList i):=by
     simp only[oD,NM hi h5,qZ hi,h6,jI]
     rw[if_neg aa]
    rw[b,if_pos h6]
    have t:=sN (p:=oR) (l:=s.data.toList) (a:=i) aa
    have q:=AQ (p:=oR) hi (by
     simp only[oR,dE,uB]
     intro e;rw[e] at h6;exact absurd h6 ac)
    exact YK f c (s.data.toList.length-tw oR s.data.toList i) _ k M aa aa aa
   have b:oD (k+1) s.data.toList i=i:=by
    simp only[oD,NM hi h5,qZ hi,h6,jG]
    rw[if_neg aa]
   rw[b,if_neg h6]
   exact⟨_,rfl,.inr rfl⟩
theorem qNr{N:Nat}{s:BA}{i k:Nat}(hi:i<=s.data.toList.length)(d:s.data.toList.length<1000000)(c:s.data.toList.length+10<N)(e:s.data.toList.length<i+k):LZ N s (i:Int)=some ((oD k s.data.toList i:Nat):Int):=by
 obtain⟨z,a,b⟩:=YK d c (s.data.toList.length-i) i k N aa aa aa
 unfold LZ
 rw[a]
 rcases b with rfl|rfl<;>rfl
theorem qJl{s:BA}:∀(k i:Nat),i<=s.data.toList.length->s.data.toList.length<i+k->i<=oD k s.data.toList i/\oD k s.data.toList i<=s.data.toList.length/\
  (oD k s.data.toList i=s.data.toList.length->oM k s i= .inr [(5,⟨#[]⟩,0,(s.data.toList.length:Int))])/\
  (oD k s.data.toList i<s.data.toList.length->∃k',(∀b,oD k s.data.toList i<b->s.data.toList.length<b+k')/\oM k s i=
   if(iT s (oD k s.data.toList i)).2.2≠0 then .inl ((oD k s.data.toList i:Nat),(iT s (oD k s.data.toList i)).2.2)
   else match oM k' s (iT s (oD k s.data.toList i)).2.1.toNat with
    | .inl x=> .inl x
    | .inr r=> .inr (((iT s (oD k s.data.toList i)).1.1,(iT s (oD k s.data.toList i)).1.2.1,(iT s (oD k s.data.toList i)).1.2.2.1,((oD k s.data.toList i:Nat):Int))::r))
 |0,i,d,t=>by omega
 |k+1,i,d,t=>by
  have f:=sN (p:=bN [5]) (l:=s.data.toList) (a:=i) d
  simp only[oD,oM]
  by_cases he:tw (bN [5]) s.data.toList i=s.data.toList.length
  .simp only[he,jI]
   exact⟨d,jN _,fun _=>trivial,fun h=>absurd h (Nat.lt_irrefl _)⟩
  simp only[he,jG]
  have c:tw (bN [5]) s.data.toList i<s.data.toList.length:=by omega
  by_cases h6:kd (s.data.toList.getD (tw (bN [5]) s.data.toList i) 0)=6
  .simp only[h6,jI]
   have g:=sN (p:=oR) (l:=s.data.toList) (a:=tw (bN [5]) s.data.toList i) aa
   have u:=AQ (p:=oR) c (by
    rw[qZ c] at h6
    simp only[oR,dE,uB]
    intro e;rw[e] at h6;exact absurd h6 ac)
   obtain⟨v,n,o,q⟩:=qJl k (tw oR s.data.toList (tw (bN [5]) s.data.toList i)) g.2 aa
   exact⟨by omega,n,o,q⟩
  simp only[h6,jG]
  exact⟨f.1,f.2,fun h=>absurd h he,fun _=>⟨k,fun b hb'=>by omega,rfl⟩⟩
theorem qDs{N:Nat}{s:BA}(E:s.data.toList.length<=16384)(B:s.data.toList.length+40<N):∀(d i k M:Nat) (acc:List bD),i+d=s.data.toList.length->d<M->s.data.toList.length<i+k->acc.length<=i->
  ∃z,aB (QU N s) M (acc,((oD k s.data.toList i:Nat):Int))=some z/\((∃o,z= .inl o/\o.length<=s.data.toList.length/\FN acc (oM k s i)=(o++[(5,⟨#[]⟩,0,(s.size:Int))],0,0))\/z= .inr (FN acc (oM k s i)))
 |d,i,k,0,acc,_,h,_,_=>by omega
 |d,i,k,M+1,acc,G,H,A,K=>by
  have F:=mZ s
  obtain⟨v,y,g,l⟩:=qJl (s:=s) k i aa A
  generalize hA:oD k s.data.toList i=a at v y g l
  simp only[aB,QU]
  by_cases he:a=s.data.toList.length
  .refine⟨.inl acc,?_,.inl ⟨acc,rfl,by omega,?_⟩⟩
   .rw[if_neg ad]
    rfl
   rw[g he,<-F];rfl
  have b:a<s.data.toList.length:=by omega
  obtain⟨k',n,p⟩:=l b
  rw[if_pos ad,qVy b aa aa]
  simp only[j0,qBw]
  by_cases h0:(iT s a).2.2=0
  .obtain⟨e,c,f,q,_⟩:=UJ b h0
   rw[if_pos h0]
   simp only[fB,jA,jG]
   rw[mC ag aa,c]
   simp only[j0]
   rw[qNr (k:=k') q aa aa (n e f)]
   simp only[j0]
   obtain⟨z,t,u⟩:=qDs E B (s.data.toList.length-e) e k' M (acc++[((iT s a).1.1,(iT s a).1.2.1,(iT s a).1.2.2.1,(a:Int))]) aa aa (n e f) ai
   have D:FN acc (oM k s i)=FN (acc++[((iT s a).1.1,(iT s a).1.2.1,(iT s a).1.2.2.1,(a:Int))]) (oM k' s e):=by
    rw[p,if_neg (by simp[h0]),c,jQ]
    cases oM k' s e with
    |inl x=>rfl
    |inr r=>simp[FN]
   rw[D]
   exact⟨z,t,u⟩
  rw[if_neg h0]
  have c:((iT s a).2.2 !=0)=true:=by simpa using h0
  simp only[c,jI,j0]
  refine⟨_,rfl,.inr ?_⟩
  rw[p,if_pos h0]
  rfl
theorem qUy{N:Nat}{s:BA}(e:20000<N):RS N s=some (mP s):=by
 have g:=mZ s
 unfold RS mP
 by_cases h:s.data.toList.length>16384
 .rw[if_pos ad,if_pos h]
 rw[if_neg ad,if_neg h]
 have a:=qNr (N:=N) (s:=s) (i:=0) (k:=s.data.toList.length+1) aa aa aa aa
 rw[show((0:Nat):Int)=0 from rfl] at a
 rw[a]
 simp only[j0]
 obtain⟨z,b,c⟩:=qDs (N:=N) (s:=s) aa aa s.data.toList.length 0 (s.data.toList.length+1) N [] aa aa aa ae
 rw[b]
 rcases c with ⟨o,rfl,f,d⟩|rfl
 .simp only[j0]
  rw[mC ag aa,d]
  rfl
 rfl
def iR(s:BA):Bool:=decide (1<=s.data.toList.length/\s.data.toList.length<=24/\kd (s.data.toList.getD 0 0)=1/\tw (bN [1,2,3]) s.data.toList 0=s.data.toList.length)
theorem EX{s:BA}(h:¬(1<=s.data.toList.length/\s.data.toList.length<=24/\kd (s.data.toList.getD 0 0)=1/\tw (bN [1,2,3]) s.data.toList 0=s.data.toList.length)):false=iR s:=(jX h).symm
theorem qZh{s:BA}(h:1<=s.data.toList.length/\s.data.toList.length<=24/\kd (s.data.toList.getD 0 0)=1/\tw (bN [1,2,3]) s.data.toList 0=s.data.toList.length):true=iR s:=(jR h).symm
theorem qNq{N:Nat}{s:BA}(b:100<N):HU N s=some (iR s):=by
 have c:=mZ s
 simp only[HU,qKw (show 30<N by omega),j0]
 by_cases h1:1<=s.data.toList.length
 .by_cases h2:s.data.toList.length<=24
  .rw[if_pos ad,if_pos ad]
   have hi:=qK (s:=s) (i:=0) aa
   rw[show((0:Nat):Int)=0 from rfl] at hi
   rw[hi]
   simp only[j0,zGh,kI]
   have a:=qNa (N:=N) (s:=s) (ks:=[1,2,3]) (i:=0) aa aa ae aa
   rw[show((0:Nat):Int)=0 from rfl] at a
   by_cases h3:kd (s.data.toList[0])=1
   .rw[if_pos h3,a]
    simp only[j0]
    congr 1
    rw[kP,kI,iR,j7,qZ aa]
    exact⟨fun h=>⟨h1,h2,h3,by omega⟩,fun h=>by have:=h.2.2.2;omega⟩
   rw[if_neg h3]
   refine congrArg some (EX fun h=> ?_)
   rw[qZ aa] at h
   exact h3 h.2.2.1
  rw[if_pos ad,if_neg ad]
  exact congrArg some (EX fun h=>h2 h.2.1)
 rw[if_neg ad]
 exact congrArg some (EX fun h=>h1 h.1)
theorem HP{N:Nat}{s:BA}(c:100<N):xP N s=some (iR s):=by
 have d:=mZ s
 simp only[xP]
 by_cases h1:1<=s.data.toList.length
 .by_cases h2:s.data.toList.length<=24
  .rw[if_neg ad,if_neg ad]
   have hi:=qK (s:=s) (i:=0) aa
   rw[show((0:Nat):Int)=0 from rfl] at hi
   rw[hi]
   simp only[j0,YH]
   by_cases h3:kd (s.data.toList[0])=1
   .rw[h3,if_neg ae]
    have key:=IK (f:=HA N s) (l:=s.data.toList) (p:=bN [1,2,3]) (fun e=>if e=s.data.toList.length then .inl () else .inr false) (fun j b a=>by
     simp only[HA]
     rw[if_pos ad,qK b]
     simp only[j0,NG,a]
     rw[bB aa aa]
     rfl) (fun j b a=>by
     simp only[HA]
     rw[if_pos ad,qK b]
     simp only[j0,NG,a]
     rw[if_neg (show ¬j=s.data.toList.length by omega)]
     rfl) (by
     simp only[HA]
     rw[if_neg ad]
     simp) s.data.toList.length 0 N aa aa
    rw[show((0:Nat):Int)=0 from rfl] at key
    rw[key]
    simp only[j0]
    by_cases h4:tw (bN [1,2,3]) s.data.toList 0=s.data.toList.length
    .rw[if_pos h4]
     exact congrArg some (qZh ⟨h1,h2,by rw[qZ aa];exact h3,h4⟩)
    rw[if_neg h4]
    exact congrArg some (EX fun h=>h4 h.2.2.2)
   rw[if_pos (by rw[fK,beq_eq_false_iff_ne];exact h3)]
   refine congrArg some (EX fun h=> ?_)
   rw[qZ aa] at h
   exact h3 h.2.2.1
  rw[if_neg ad,if_pos ad]
  simp only[j0,jI]
  exact congrArg some (EX fun h=>h2 h.2.1)
 rw[if_pos ad]
 simp only[j0,jI]
 exact congrArg some (EX fun h=>h1 h.1)
def sp:List UInt8->List (List UInt8)
 |[]=>[[]]
 |c::l=>if c=47 then[]::sp l else match sp l with
  |[]=>[[c]]
  |p::q=>(c::p)::q
theorem FO:∀l:List UInt8,sp l≠[]
 |[]=>by simp[sp]
 |c::l=>by
  simp only[sp]
  split
  .simp
  split<;>simp
theorem qBe:∀l:List UInt8,(sp l).length=l.count 47+1
 |[]=>rfl
 |c::l=>by
  simp only[sp]
  split
  .rename_i h;subst h;simp[qBe l]
  rename_i h
  have:=qBe l
  split
  .rename_i e;exact absurd e (FO l)
  rename_i e
  rw[e] at this
  simp only[jC] at this ⊢
  rw[List.count_cons_of_ne h,<-this]
def oS(c:UInt8):Bool:=c !=47
theorem qNm:∀l:List UInt8,sp l=if(l.takeWhile oS).length=l.length then[l] else l.takeWhile oS::sp (l.drop ((l.takeWhile oS).length+1))
 |[]=>rfl
 |c::l=>by
  have b:=qNm l
  by_cases h:c=47
  .subst h
   rw[fA ac]
   simp[sp]
  have a:oS c=true:=by simpa[oS] using h
  rw[gM a]
  simp only[sp,h,jG,b,jC,Nat.add_right_cancel_iff,List.drop_succ_cons]
  by_cases he:(l.takeWhile oS).length=l.length
  .simp[he]
  simp[he]
def zM:Nat->Nat->List UInt8->Option (Nat×Nat)
 |a,b,[]=>some (a,b)
 |a,b,c::l=>if c=47 then(if b=0 then none else zM (a+1) 0 l) else if bN [1,2,3,4] c then(if b+1>24 then none else zM a (b+1) l) else none
def zGq(p:List UInt8):Prop:=1<=p.length/\p.length<=24/\∀c∈p,bN [1,2,3,4] c=true
theorem YV:∀(l:List UInt8) (a b:Nat),b<=24->((∃x y,zM a b l=some (x,y)/\0<y/\x<=8)↔
  ∃p q,sp l=p::q/\1<=b+p.length/\b+p.length<=24/\(∀c∈p,bN [1,2,3,4] c=true)/\(∀r∈q,zGq r)/\a+q.length<=8)
 |[],a,b,v=>by
  constructor
  .rintro⟨x,y,h,e,g⟩
   simp only[zM,jO,Prod.mk.injEq] at h
   exact⟨[],[],rfl,by simp;omega,by simpa using v,by simp,by simp,by simp;omega⟩
  rintro⟨p,q,h,e,g,_,_,f⟩
  simp only[sp,gK] at h
  obtain⟨rfl,rfl⟩:=h
  simp only[jD] at e f
  exact⟨a,b,rfl,by omega,by omega⟩
 |c::l,a,b,v=>by
  by_cases hc:c=47
  .have t:sp (c::l)=[]::sp l:=by simp[sp,hc]
   rw[t]
   simp only[zM,hc,jI]
   by_cases h0:b=0
   .subst h0
    simp only[jI]
    constructor
    .rintro⟨x,y,h,_⟩;cases h
    rintro⟨p,q,h,e,_⟩
    simp only[gK] at h
    rw[<-h.1] at e;simp at e
   rw[if_neg h0]
   rw[YV l (a+1) 0 aa]
   constructor
   .rintro⟨p,q,h,e,g,f,n,o⟩
    refine⟨[],sp l,rfl,by simp;omega,by simpa using v,by simp,?_,by rw[h];simp only[jC];omega⟩
    intro r s
    rw[h] at s
    rcases jJ.1 s with rfl|s
    .exact⟨by omega,by omega,f⟩
    exact n r s
   rintro⟨p,q,h,e,g,f,n,o⟩
   simp only[gK] at h
   obtain⟨rfl,rfl⟩:=h
   obtain⟨p,q,k⟩:∃p q,sp l=p::q:=by
    cases u:sp l with
    |nil=>exact absurd u (FO l)
    |cons p q=>exact⟨p,q,rfl⟩
   rw[k] at n o
   obtain⟨A,B,z⟩:=n p (jF ..)
   exact⟨p,q,k,by omega,by omega,z,fun r s=>n r (jH _ s),by simp only[jC] at o;omega⟩
  obtain⟨p0,z,k⟩:∃p q,sp l=p::q:=by
   cases u:sp l with
   |nil=>exact absurd u (FO l)
   |cons p q=>exact⟨p,q,rfl⟩
  have t:sp (c::l)=(c::p0)::z:=by simp only[sp,hc,jG,k]
  rw[t]
  simp only[zM,hc,jG]
  by_cases u:bN [1,2,3,4] c=true
  .rw[if_pos u]
   by_cases h24:b+1>24
   .rw[if_pos h24]
    constructor
    .rintro⟨x,y,h,_⟩;cases h
    rintro⟨p,q,h,e,g,_⟩
    simp only[gK] at h
    rw[<-h.1] at g
    simp only[jC] at g
    omega
   rw[if_neg h24,YV l a (b+1) aa]
   constructor
   .rintro⟨p,q,h,e,g,f,n,o⟩
    rw[k] at h
    simp only[gK] at h
    obtain⟨rfl,rfl⟩:=h
    refine⟨_,_,rfl,by simp only[jC];omega,by simp only[jC];omega,?_,n,o⟩
    intro d s
    rcases jJ.1 s with rfl|s
    .exact u
    exact f d s
   rintro⟨p,q,h,e,g,f,n,o⟩
   simp only[gK] at h
   obtain⟨rfl,rfl⟩:=h
   simp only[jC] at e g
   exact⟨p0,z,k,by omega,by omega,fun d s=>f d (jH _ s),n,o⟩
  rw[if_neg u]
  constructor
  .rintro⟨x,y,h,_⟩;cases h
  rintro⟨p,q,h,e,g,f,_⟩
  simp only[gK] at h
  rw[<-h.1] at f
  exact absurd (f c (jF ..)) u
theorem inK4{N:Nat}(c:UInt8):((EB N (c.toNat:Int)).bind fun y1=>if y1 then(some true) else(some ((c.toNat:Int)==46)))=some (bN [1,2,3,4] c):=by
 have h:=CS (p:=fun c=>(bN [1,2,3] c||decide (c.toNat=46))==bN [1,2,3,4] c) af c
 rw[kI] at h
 rw[<-h,NG]
 simp only[j0]
 have e:((c.toNat:Int)==46)=decide (c.toNat=46):=by rw[kP,kI,j7];omega
 rw[e]
 cases bN [1,2,3] c<;>simp
theorem WR{N:Nat}{s:BA}(c:s.data.toList.length<1000000):∀(d i M a b:Nat),i+d=s.data.toList.length->d<M->a<=i+1->b<=24->
  aB (LI N s) M ((a:Int),(b:Int),(i:Int))=some (match zM a b (s.data.toList.drop i) with|some z=> .inl ((z.1:Int),(z.2:Int))|none=> .inr false)
 |d,i,0,_,_,_,h,_,_=>by omega
 |0,i,M+1,a,b,e,f,g,k=>by
  have l:=mZ s
  simp only[aB,LI]
  rw[if_neg ad,jU aa]
  rfl
 |d+1,i,M+1,a,b,e,f,g,k=>by
  have l:=mZ s
  have hi:i<s.data.toList.length:=by omega
  simp only[aB,LI]
  rw[if_pos ad,kA hi,qK hi]
  simp only[j0,inK4,kI,zM]
  by_cases hc:s.data.toList[i]=47
  .rw[if_pos (show((s.data.toList[i]).toNat:Int)=47 by rw[hc];rfl),if_pos hc]
   by_cases hb:b=0
   .rw[if_pos (show(b:Int)=0 by omega),if_pos hb]
    rfl
   rw[if_neg (show ¬(b:Int)=0 by omega),if_neg hb,bB (x:=(a:Int)+1) aa aa]
   simp only[j0]
   rw[if_neg ae,bB aa aa]
   have:=WR (N:=N) c d (i+1) M (a+1) 0 aa aa aa aa
   exact this
  have hc':¬((s.data.toList[i]).toNat:Int)=47:=fun h=>hc (UInt8.toNat_inj.1 (by show _=47;omega))
  rw[if_neg hc',if_neg hc]
  by_cases hk:bN [1,2,3,4] (s.data.toList[i])=true
  .rw[if_pos hk,if_pos hk,bB (x:=(b:Int)+1) aa aa]
   simp only[j0]
   by_cases h24:b+1>24
   .rw[if_pos ad,if_pos h24]
    rfl
   rw[if_neg ad,if_neg h24,bB aa aa]
   have:=WR (N:=N) c d (i+1) M a (b+1) aa aa aa aa
   exact this
  rw[if_neg hk,if_neg hk]
  rfl
def iF(l:List UInt8):Bool:=decide (l.length<=80/\(sp l).length<=8/\∀p∈sp l,1<=p.length/\p.length<=24/\∀c∈p,bN [1,2,3,4] c=true)
theorem qJh(l:List UInt8):iF l=true↔l.length<=80/\∃x y,zM 1 0 l=some (x,y)/\0<y/\x<=8:=by
 rw[YV l 1 0 aa]
 simp only[iF,j7]
 obtain⟨p,q,hpq⟩:∃p q,sp l=p::q:=by
  cases a:sp l with
  |nil=>exact absurd a (FO l)
  |cons p q=>exact⟨p,q,rfl⟩
 constructor
 .rintro⟨c,d,b⟩
  rw[hpq] at d b
  obtain⟨f,g,e⟩:=b p (jF ..)
  exact⟨c,p,q,hpq,by omega,by omega,e,fun r a=>b r (jH _ a),by simp only[jC] at d;omega⟩
 rintro⟨c,p',q',h,d,b,e,f,g⟩
 refine⟨c,by rw[h];simp only[jC];omega,?_⟩
 intro r a
 rw[h] at a
 rcases jJ.1 a with rfl|a
 .exact⟨by omega,by omega,e⟩
 exact f r a
theorem HQ{N:Nat}{s:BA}(c:100<N):xQ N s=some (iF s.data.toList):=by
 have d:=mZ s
 simp only[xQ]
 by_cases h80:s.data.toList.length<=80
 .rw[if_neg ad]
  have key:=WR (N:=N) (s:=s) aa s.data.toList.length 0 N 1 0 aa aa aa aa
  rw[show((0:Nat):Int)=0 from rfl,show((1:Nat):Int)=1 from rfl,kC] at key
  rw[key]
  have a:=qJh s.data.toList
  cases hR:zM 1 0 s.data.toList with
  |none=>
   simp only[j0]
   refine congrArg some ?_
   rw[kP,a]
   constructor
   .intro h;cases h
   rintro⟨_,x,y,h,_⟩;rw[hR] at h;cases h
  |some z=>
   obtain⟨x,y⟩:=z
   simp only[j0]
   by_cases hy:0<y
   .rw[if_pos ad]
    simp only[j0]
    refine congrArg some ?_
    rw[kP,a,j7]
    constructor
    .intro h;exact⟨h80,x,y,hR,hy,by omega⟩
    rintro⟨_,x',y',h,_,b⟩;rw[hR] at h;simp only[jO,Prod.mk.injEq] at h;omega
   rw[if_neg ad]
   simp only[j0]
   refine congrArg some ?_
   rw[kP,a]
   constructor
   .intro h;cases h
   rintro⟨_,x',y',h,b,_⟩;rw[hR] at h;simp only[jO,Prod.mk.injEq] at h;omega
 rw[if_pos ad]
 refine congrArg some ?_
 rw[kP,qJh]
 exact⟨fun h=>(by cases h),fun h=>absurd h.1 h80⟩
theorem zIr{p:UInt8->Bool}{l:List UInt8}{k:Nat}(c:k<l.length)(a:∀j,∀h:j<l.length,j<k->p l[j]=true)(b:p l[k]=false):tw p l 0=k:=by
 have key:∀d j,j+d=k->tw p l j=k:=by
  intro d
  induction d with
  |zero=>
   intro j h
   have:j=k:=by omega
   subst this
   exact NM c b
  |succ d e=>intro j h;rw[<-NO aa (a j aa aa)];exact e (j+1) aa
 exact key k 0 aa
theorem zIq(x:BA):GC x 47=if(x.data.toList.takeWhile oS).length=x.data.toList.length then-1 else((x.data.toList.takeWhile oS).length:Int):=by
 have n:=mZ x
 have l:tw oS x.data.toList 0=(x.data.toList.takeWhile oS).length:=by simp[tw]
 have a:∀j,∀h:j<x.data.toList.length,x[j]! =x.data.toList[j]:=by
  intro j b
  rw[getElem!_pos x j aa]
  simp[ByteArray.getElem_eq_getElem_data]
 have f:(47:Int).toNat.toUInt8=47:=rfl
 rw[<-l]
 unfold GC
 rw[f,<-n]
 cases hf:(List.range x.data.toList.length).find? (fun j=>x[j]! ==47) with
 |none=>
  rw[List.find?_eq_none] at hf
  simp only
  rw[if_pos]
  refine qPe fun c d=> ?_
  obtain⟨j,b,rfl⟩:=List.getElem_of_mem d
  have:=hf j (hJ.2 b)
  rw[a j b] at this
  simpa[oS] using this
 |some k=>
  have d:=List.find?_some hf
  have g:k<x.data.toList.length:=hJ.1 (fT hf)
  rw[a k g] at d
  have e:tw oS x.data.toList 0=k:=by
   refine zIr g (fun j h b=> ?_) (by simpa[oS] using d)
   have:=(List.find?_range_eq_some.1 hf).2.2 j b
   rw[a j h] at this
   simpa[oS] using this
  simp only
  rw[e,if_neg aa]
theorem zBa{N:Nat}(x:BA):MF N x (⟨#[47]⟩:BA)=some (GC x 47):=by
 have b:lI (⟨#[47]⟩:BA) 0=some 47:=by kernel_rfl
 simp only[MF,VS,VO,show(⟨#[47]⟩:BA).size=1 from rfl,oZ]
 rw[if_neg ac]
 simp only[j0,j7]
 by_cases h:(⟨#[47]⟩:BA)=x
 .have a:GC (⟨#[47]⟩:BA) 47=0:=by kernel_rfl
  rw[if_pos h,<-h,a]
  rfl
 rw[if_neg h,if_pos ac,b]
 rfl
theorem zFx(x:BA):OV x 47=((x.data.toList.count 47:Nat):Int):=by
 unfold OV
 rw[Go.Lib.foldl_data]
 have key:∀(l:List UInt8) (n:Int),l.foldl (fun n x=>if x==(47:Int).toNat.toUInt8 then n+1 else n) n=n+((l.count 47:Nat):Int):=by
  intro l
  induction l with
  |nil=>intro n;simp
  |cons c l b=>
   intro n
   rw[gG,b,List.count_cons]
   have a:(47:Int).toNat.toUInt8=47:=rfl
   rw[a]
   by_cases h:(c==47)=true
   .simp only[h,jI];omega
   simp only[h,jA,jG];omega
 rw[key]
 omega
theorem zDs{α:Type}(l:List α)(k:Nat)(a b:α):(l++List.replicate (k+1) a).set l.length b=(l++[b])++List.replicate k a:=by
 rw[List.set_append_right _ _ (jN _)]
 simp[List.replicate_succ]
theorem qGn{N n:Nat}{s:BA}(v:n<1000000000)(l:n<=s.size+1)(A:s.size<1000000000):∀(r M:Nat) (x:BA) (done:List BA),(sp x.data.toList).length=r->done.length+r=n->r<M->x.size<1000000000->
  ∃y D,aB (SB N s (⟨#[47]⟩:BA) 0 (n:Int)) M (x,(done.length:Int),done++List.replicate r (⟨#[]⟩:BA))=some (y,((n-1:Nat):Int),D++[(⟨#[]⟩:BA)])/\D.length=n-1/\D++[y]=done++(sp x.data.toList).map eJ
 |_,0,_,_,_,_,h,_=>by omega
 |0,_,x,_,h,_,_,_=>by exact absurd (gI.1 h) (FO _)
 |r+1,M+1,x,done,c,F,G,H=>by
  have E:=mZ x
  have f:(if IntKind.wrap .i64 ((s.size:Int)+1)<(n:Int) then IntKind.wrap .i64 ((s.size:Int)+1) else(n:Int))=(n:Int):=by
   rw[bB aa aa];split<;>omega
  have a:=qNm x.data.toList
  simp only[aB,SB]
  rw[f,bB (x:=(n:Int)-1) aa aa]
  by_cases hlast:(x.data.toList.takeWhile oS).length=x.data.toList.length
  .rw[if_pos hlast] at a
   rw[a] at c
   simp only[jC,jD] at c
   have b:r=0:=by omega
   subst b
   rw[if_neg ad]
   refine⟨x,done,?_,by omega,?_⟩
   .simp only[j0]
    rw[show(n-1:Nat)=done.length by omega]
    rfl
   rw[a];simp[eJ]
  rw[if_neg hlast] at a
  rw[a] at c
  simp only[jC] at c
  have z:0<(sp (x.data.toList.drop ((x.data.toList.takeWhile oS).length+1))).length:=fL.2 (FO _)
  have B:(x.data.toList.takeWhile oS).length<=x.data.toList.length:=(List.takeWhile_sublist _).length_le
  have hix:=zIq x
  rw[if_neg hlast] at hix
  rw[if_pos ad,zBa,hix]
  simp only[j0,show(⟨#[47]⟩:BA).size=1 from rfl]
  have u:(x.data.toList.takeWhile oS)=x.data.toList.take (x.data.toList.takeWhile oS).length:=List.prefix_iff_eq_take.1 (dA _)
  have o:x.extract 0 (x.data.toList.takeWhile oS).length=eJ (x.data.toList.takeWhile oS):=by
   apply Go.WideShapes.bytes_inj
   simp only[ByteArray.data_extract,fV,gU,eJ,kC,Nat.sub_zero]
   exact u.symm
  have b:(x.extract ((x.data.toList.takeWhile oS).length+1) x.data.toList.length).data.toList=x.data.toList.drop ((x.data.toList.takeWhile oS).length+1):=by
   simp only[ByteArray.data_extract,fV,gU]
   exact kZ (by simp only[gF];omega)
  generalize hk:(x.data.toList.takeWhile oS).length=k at*
  rw[if_neg ad,bB (x:=(k:Int)+0) aa aa,Int.add_zero]
  have d:sP x 0 (k:Int)=some (x.extract 0 k):=by
   have:=NH (s:=x) (i:=0) (e:=k) aa aa
   simpa only[Int.natCast_zero] using this
  rw[d]
  simp only[j0]
  rw[cQ ae,bB (x:=(k:Int)+((1:Nat):Int)) aa aa,show((k:Int)+((1:Nat):Int))=((k+1:Nat):Int) by omega,qXx aa]
  simp only[j0,jQ]
  rw[zDs,o,bB aa aa]
  have g:=mZ (x.extract (k+1) x.data.toList.length)
  rw[b,gF] at g
  obtain⟨y,D,p,q,t⟩:=qGn (N:=N) v l A r M (x.extract (k+1) x.data.toList.length) (done++[eJ (x.data.toList.takeWhile oS)]) (by rw[b];omega) ai aa aa
  refine⟨y,D,?_,q,?_⟩
  .rw[<-p];simp
  rw[t,b,a];simp
termination_by r=>r
theorem zBl{N:Nat}{s:BA}(p:s.size<100000000)(l:2*s.size+1000<N):SP N s (⟨#[47]⟩:BA)=some ((sp s.data.toList).map eJ):=by
 have q:=mZ s
 have h:=qBe s.data.toList
 have o:s.data.toList.count 47<=s.data.toList.length:=List.count_le_length
 have g:lI (⟨#[47]⟩:BA) 0=some 47:=by kernel_rfl
 have a:SR N s (⟨#[47]⟩:BA)=some ((s.data.toList.count 47:Nat):Int):=by
  simp only[SR,show(⟨#[47]⟩:BA).size=1 from rfl]
  rw[if_neg ac,if_pos ac,g]
  simp only[j0]
  rw[<-zFx];rfl
 simp only[SP,WL,oZ,a,j0]
 rw[if_neg ac,if_neg ac,if_pos ac]
 simp only[j0]
 rw[bB (x:=((s.data.toList.count 47:Nat):Int)+1) aa aa,show((s.data.toList.count 47:Nat):Int)+1=(((sp s.data.toList).length:Nat):Int) by omega]
 generalize hn:(sp s.data.toList).length=n at*
 have c:(if IntKind.wrap .i64 ((s.size:Int)+1)<(n:Int) then IntKind.wrap .i64 ((s.size:Int)+1) else(n:Int))=(n:Int):=by
  rw[bB aa aa];split<;>omega
 rw[c]
 have k:FL 16 (⟨#[]⟩:BA) (n:Int)=some (List.replicate n (⟨#[]⟩:BA)):=by
  unfold FL
  rw[if_pos (by simp only[maxLen];omega),jQ]
 rw[k]
 simp only[j0]
 obtain⟨y,D,b,f,e⟩:=qGn (N:=N) (n:=n) (s:=s) aa aa aa n N s [] hn ae aa aa
 simp only[jD,jP] at b e
 rw[show((0:Nat):Int)=0 from rfl] at b
 rw[b]
 simp only[j0]
 rw[cQ ai]
 simp only[j0,jQ]
 have d:(D++[(⟨#[]⟩:BA)]).set (n-1) y=D++[y]:=by
  rw[<-f,List.set_append_right _ _ (jN _)];simp
 rw[d,e,bB aa aa,show((n-1:Nat):Int)+1=(n:Int) by omega,MZ aa aa (by rw[gA,hn];omega)]
 simp only[j0,jQ,fU,kC]
 rw[kZ (by rw[gA,hn];exact jN _)]
theorem qPl{p:UInt8->Bool}{l:List UInt8}:tw p l 0=l.length↔∀c∈l,p c=true:=by
 constructor
 .intro h c a
  have b:(l.takeWhile p).length=l.length:=by simpa[tw] using h
  have d:=(dA p (l:=l)).eq_of_length b
  rw[<-d] at a
  exact qAv a
 exact qPe
def FI(x:BA):Bool:=decide (1<=x.data.toList.length/\x.data.toList.length<=24/\∀c∈x.data.toList,bN [1,2,3,4] c=true)
theorem qHv(x:BA):FI x=true↔1<=x.data.toList.length/\x.data.toList.length<=24/\∀c∈x.data.toList,bN [1,2,3,4] c=true:=decide_eq_true_iff
theorem zDp{N:Nat}{x:BA}(f:100<N):(if(decide ((x.size:Int)<1))then(some true) else(if(decide ((x.size:Int)>24))then(some true) else((HS N x 0 (some kdL) ([1,2,3,4])).bind fun e=>some (e !=(x.size:Int)))))=some (!FI x):=by
 have d:=mZ x
 have a:∀h:¬(1<=x.data.toList.length/\x.data.toList.length<=24/\∀c∈x.data.toList,bN [1,2,3,4] c=true),FI x=false:=fun h=>jX h
 by_cases h1:1<=x.data.toList.length
 .rw[if_neg ad]
  by_cases h2:x.data.toList.length<=24
  .rw[if_neg ad]
   have b:=qNa (N:=N) (s:=x) (ks:=[1,2,3,4]) (i:=0) aa aa ae aa
   rw[show((0:Nat):Int)=0 from rfl] at b
   rw[b]
   simp only[j0]
   refine congrArg some ?_
   by_cases h3:tw (bN [1,2,3,4]) x.data.toList 0=x.data.toList.length
   .have:FI x=true:=jR ⟨h1,h2,qPl.1 h3⟩
    rw[this,h3,d]
    simp
   rw[a fun h=>h3 (qPl.2 h.2.2)]
   simp only[gB,dE,uB]
   omega
  rw[if_pos ad,a fun h=>h2 h.2.1]
  rfl
 rw[if_pos ad,a fun h=>h1 h.1]
 rfl
theorem qIn{N:Nat}{L:List BA}(f:L.length<1000)(a:100<N):∀(d j M:Nat),j+d=L.length->d<M->aB (MG N L (some kdL)) M (j:Int)=some (if(L.drop j).all FI then .inl () else .inr false)
 |d,j,0,_,h=>by omega
 |0,j,M+1,c,e=>by
  simp only[aB,MG]
  rw[if_neg ad,jU aa]
  rfl
 |d+1,j,M+1,c,e=>by
  have b:j<L.length:=by omega
  simp only[aB,MG]
  rw[if_pos ad,cQ b]
  simp only[j0,zDp a]
  rw[kA b,List.all_cons]
  cases hp:FI L[j] with
  |true=>
   rw[if_neg ae,bB aa aa]
   simp only[j0,fH]
   exact qIn f a d (j+1) M aa aa
  |false=>simp
theorem zEq{N:Nat}{s:BA}(e:s.size<100000000)(d:2*s.size+1000<N):TB N s=some (iF s.data.toList):=by
 have g:=mZ s
 have a:∀h:¬(s.data.toList.length<=80/\(sp s.data.toList).length<=8/\∀p∈sp s.data.toList,1<=p.length/\p.length<=24/\∀c∈p,bN [1,2,3,4] c=true),iF s.data.toList=false:=fun h=>jX h
 simp only[TB,zBl e d,j0,gA]
 by_cases h80:s.data.toList.length<=80
 .rw[if_neg ad]
  by_cases h8:(sp s.data.toList).length<=8
  .have b:decide (((sp s.data.toList).length:Int)>8)=false:=jX aa
   simp only[j0,b,jA,jG,qKw (show 30<N by omega)]
   have key:=qIn (N:=N) (L:=(sp s.data.toList).map eJ) (by rw[gA];omega) aa _ 0 N (kT _) (by rw[gA];omega)
   rw[show((0:Nat):Int)=0 from rfl,kC] at key
   rw[key]
   simp only[j0]
   by_cases hp:((sp s.data.toList).map eJ).all FI=true
   .have:iF s.data.toList=true:=jR ⟨h80,h8,fun p hp'=>by
     have:=(qHv _).1 (jZ.1 hp (eJ p) (gV hp'))
     simpa[eJ] using this⟩
    rw[if_pos hp,this]
   rw[if_neg hp,a fun h=>hp (jZ.2 fun x f=>by
    obtain⟨p,hp',rfl⟩:=gL.1 f
    exact(qHv _).2 (by simpa[eJ] using h.2.2 p hp'))]
  have b:decide (((sp s.data.toList).length:Int)>8)=true:=jR aa
  simp only[j0,b,jI]
  rw[a fun h=>h8 h.2.1]
 rw[if_pos ad]
 simp only[j0,jI]
 rw[a fun h=>h80 h.1]
def run{α τ β:Type}(step:τ->α->τ⊕β)(fin:τ->β):List α->τ->β
 |[],t=>fin t
 |x::l,t=>match step t x with
  | .inl t'=>run step fin l t'
  | .inr b=>b
theorem qJt{α τ σ β:Type}{L:List α}(enc:τ->Nat->σ){f:σ->Option (σ⊕β)}(step:τ->α->τ⊕β)(fin:τ->β)(I:Nat->τ->Prop)
  (a:∀t i,∀hi:i<L.length,I i t->f (enc t i)=some (match step t L[i] with| .inl t'=> .inl (enc t' (i+1))| .inr b=> .inr b))
  (e:∀t i,∀hi:i<L.length,∀t',I i t->step t L[i]= .inl t'->I (i+1) t')
  (c:∀t,I L.length t->f (enc t L.length)=some (.inr (fin t))):∀(d i M:Nat) (t:τ),i+d=L.length->d<M->I i t->aB f M (enc t i)=some (run step fin (L.drop i) t)
 |_,_,0,_,_,h,_=>absurd h (kK _)
 |d,i,M+1,t,l,n,g=>by
  cases d with
  |zero=>
   have hi:i=L.length:=by omega
   subst hi
   simp only[aB,c t g,j0,List.drop_length,run]
  |succ d=>
   have hi:i<L.length:=by omega
   have k:L.drop i=L[i]::L.drop (i+1):=(hQ hi).symm
   simp only[aB,a t i hi g,j0]
   rw[k]
   simp only[run]
   cases hs:step t L[i] with
   |inl t'=>
    simp only
    exact qJt enc step fin I a e c d (i+1) M t' aa aa (e t i hi t' g hs)
   |inr b=>rfl
theorem sK{α τ σ β:Type}{L:List α}(enc:τ->Nat->σ){f:σ->Option (σ⊕β)}(step:τ->α->τ⊕β)(fin:τ->β)(I:Nat->τ->Prop)
  (a:∀t i,∀hi:i<L.length,I i t->f (enc t i)=some (match step t L[i] with| .inl t'=> .inl (enc t' (i+1))| .inr b=> .inr b))
  (d:∀t i,∀hi:i<L.length,∀t',I i t->step t L[i]= .inl t'->I (i+1) t')
  (c:∀t,I L.length t->f (enc t L.length)=some (.inr (fin t))) {M:Nat} {t:τ} (g:L.length<M) (e:I 0 t):aB f M (enc t 0)=some (run step fin L t):=by
 have:=qJt enc step fin I a d c L.length 0 M t aa g e
 rw[kC] at this;exact this
theorem EQ{α τ β:Type}{step:τ->α->τ⊕β}{fin:τ->β}(g:τ->α->τ)(h:∀t x,step t x= .inl (g t x)):∀(l:List α) (t:τ),run step fin l t=fin (l.foldl g t)
 |[],_=>rfl
 |x::l,t=>by simp only[run,h,gG];exact EQ g h l _
theorem IN{α β:Type}{step:Unit->α->Unit⊕β}{fin:Unit->β}{b:β}(p:α->Bool)(h:∀x,step () x=if p x then .inr b else .inl ()):∀l:List α,run step fin l ()=if l.any p then b else fin ()
 |[]=>rfl
 |x::l=>by
  have a:=IN (fin:=fin) p h l
  rw[dI]
  by_cases hp:p x=true
  .have e:step () x= .inr b:=by rw[h,if_pos hp]
   simp only[run,e]
   rw[hp,Bool.true_or,if_pos rfl]
  have e:step () x= .inl ():=by rw[h,if_neg hp]
  simp only[run,e]
  rw[a,show p x=false by simpa using hp,gX]
theorem uS{α:Type}{l:List α}{i:Nat}(h:i<l.length):l.drop i=l[i]::l.drop (i+1):=(hQ h).symm
theorem TK{α:Type}{l:List α}{i:Nat}(h:i<l.length):l.take (i+1)=l.take i++[l[i]]:=kU h
abbrev bS:=BA×BA
def blt(a b:BA):Bool:=Op.bytesLess a.toList b.toList
theorem qWj{a b:BA}(h:a.toList=b.toList):a=b:=by
 have c:(a.toList==b.toList)=true:=by rw[h];exact fF _
 rw[oZ] at c
 exact gH c
theorem qEy:∀a:List UInt8,Op.bytesLess a a=false
 |[]=>rfl
 |x::a=>by simp[Op.bytesLess,qEy a]
theorem qGj:∀a b c:List UInt8,Op.bytesLess a b=true->Op.bytesLess b c=true->Op.bytesLess a c=true
 |_,_,[],_,h=>by simp[Op.bytesLess] at h
 |_,[],_::_,h,_=>by simp[Op.bytesLess] at h
 |[],_::_,_::_,_,_=>rfl
 |x::a,y::b,z::c,d,e=>by
  simp only[Op.bytesLess,fM,j7,jK,kI] at d e ⊢
  rcases d with d|⟨rfl,d⟩<;>rcases e with e|⟨rfl,e⟩
  .exact .inl (UInt8.lt_trans d e)
  .exact .inl d
  .exact .inl e
  exact .inr ⟨rfl,qGj a b c d e⟩
theorem qGv:∀a b:List UInt8,Op.bytesLess a b=true\/a=b\/Op.bytesLess b a=true
 |[],[]=> .inr (.inl rfl)
 |[],_::_=> .inl rfl
 |_::_,[]=> .inr (.inr rfl)
 |x::a,y::b=>by
  simp only[Op.bytesLess,fM,j7,jK,kI,gK]
  rcases qGv a b with h|h|h
  .rcases Nat.lt_trichotomy x.toNat y.toNat with g|g|g
   .exact .inl (.inl (UInt8.lt_iff_toNat_lt.2 g))
   .have g:=UInt8.toNat_inj.1 g;exact .inl (.inr ⟨g,h⟩)
   exact .inr (.inr (.inl (UInt8.lt_iff_toNat_lt.2 g)))
  .rcases Nat.lt_trichotomy x.toNat y.toNat with g|g|g
   .exact .inl (.inl (UInt8.lt_iff_toNat_lt.2 g))
   .have g:=UInt8.toNat_inj.1 g;exact .inr (.inl ⟨g,h⟩)
   exact .inr (.inr (.inl (UInt8.lt_iff_toNat_lt.2 g)))
  rcases Nat.lt_trichotomy x.toNat y.toNat with g|g|g
  .exact .inl (.inl (UInt8.lt_iff_toNat_lt.2 g))
  .have g:=UInt8.toNat_inj.1 g;exact .inr (.inr (.inr ⟨g.symm,h⟩))
  exact .inr (.inr (.inl (UInt8.lt_iff_toNat_lt.2 g)))
theorem CE(a:BA):blt a a=false:=qEy _
theorem IB{a b c:BA}(d:blt a b=true)(e:blt b c=true):blt a c=true:=qGj _ _ _ d e
theorem TG(a b:BA):blt a b=true\/a=b\/blt b a=true:=by
 rcases qGv a.toList b.toList with h|h|h
 .exact .inl h
 .exact .inr (.inl (qWj h))
 exact .inr (.inr h)
theorem qHz{a b:BA}(h:blt a b=true):blt b a=false:=by
 cases h2:blt b a with
 |false=>rfl
 |true=>have:=IB h h2;rw[CE] at this;cases this
theorem UZ{a b:BA}(h:blt a b=true):a≠b:=by rintro rfl;rw[CE] at h;cases h
def Asc(L:List bS):Prop:=L.Pairwise fun f g=>blt f.1 g.1=true
def mH:List bS->BA->Option BA
 |[],_=>none
 |f::L,p=>if f.1=p then some f.2 else mH L p
def pD:List bS->BA->BA->List bS
 |[],p,b=>[(p,b)]
 |f::L,p,b=>if blt p f.1 then(p,b)::f::L else if f.1=p then(p,b)::L else f::pD L p b
def BD(L:List bS)(p:BA):List bS:=L.filter fun f=>decide (f.1≠p)
theorem SU{L:List bS}{p:BA}(h:∀f∈L,blt p f.1=true):mH L p=none:=by
 induction L with
 |nil=>rfl
 |cons f L c=>
  have a:=h f (jF ..)
  simp only[mH]
  rw[if_neg (fun e=>by rw[e,CE] at a;cases a)]
  exact c fun g b=>h g (jH _ b)
theorem ZE{L:List bS}{p b:BA}(h:mH L p=some b):(p,b)∈L:=by
 induction L with
 |nil=>simp[mH] at h
 |cons f L a=>
  simp only[mH] at h
  split at h
  .rename_i e;simp only[jO] at h;subst h;subst e;exact jF ..
  exact jH _ (a h)
theorem qFe{L:List bS}(b:Asc L){f:bS}(h:f∈L):mH L f.1=some f.2:=by
 induction L with
 |nil=>cases h
 |cons g L c=>
  have a:=kS.1 b
  rcases jJ.1 h with rfl|h
  .simp[mH]
  simp only[mH]
  rw[if_neg (UZ (a.1 f h)),c a.2 h]
theorem Asc.ext:∀{L K:List bS},Asc L->Asc K->(∀p,mH L p=mH K p)->L=K
 |[],[],_,_,_=>rfl
 |[],f::K,_,_,h=>by have:=h f.1;simp[mH] at this
 |f::L,[],_,_,h=>by have:=h f.1;simp[mH] at this
 |f::L,g::K,k,d,h=>by
  have hL':=kS.1 k
  have hK':=kS.1 d
  have e:f.1=g.1:=by
   rcases TG f.1 g.1 with a|a|a
   .have c:=h f.1
    rw[SU (L:=g::K) (fun x b=>by
     rcases jJ.1 b with rfl|b
     .exact a
     exact IB a (hK'.1 x b))] at c
    simp[mH] at c
   .exact a
   have c:=h g.1
   rw[SU (L:=f::L) (fun x b=>by
    rcases jJ.1 b with rfl|b
    .exact a
    exact IB a (hL'.1 x b))] at c
   simp[mH] at c
  have a:f.2=g.2:=by have:=h f.1;rw[e] at this;simpa[mH,e] using this
  have b:f=g:=Prod.ext e a
  subst b
  congr 1
  refine Asc.ext hL'.2 hK'.2 fun p=> ?_
  by_cases hp:f.1=p
  .subst hp
   rw[SU hL'.1,SU hK'.1]
  have:=h p
  simpa[mH,hp] using this
theorem TP{L:List bS}{p b:BA}{f:bS}(h:f∈pD L p b):f=(p,b)\/f∈L:=by
 induction L with
 |nil=>simp[pD] at h;exact .inl h
 |cons g L a=>
  simp only[pD] at h
  split at h
  .rcases jJ.1 h with h|h
   .exact .inl h
   exact .inr h
  split at h
  .rcases jJ.1 h with h|h
   .exact .inl h
   exact .inr (jH _ h)
  rcases jJ.1 h with h|h
  .exact .inr (h▸jF ..)
  rcases a h with h|h
  .exact .inl h
  exact .inr (jH _ h)
theorem Asc.put{L:List bS}(h:Asc L)(p b:BA):Asc (pD L p b):=by
 induction L with
 |nil=>exact List.pairwise_singleton _ _
 |cons g L f=>
  have h':=kS.1 h
  simp only[pD]
  split
  .rename_i d
   refine kS.2 ⟨fun x a=> ?_,h⟩
   rcases jJ.1 a with rfl|a
   .exact d
   exact IB d (h'.1 x a)
  rename_i d
  split
  .rename_i e
   exact kS.2 ⟨fun x a=>by have:=h'.1 x a;rw[e] at this;exact this,h'.2⟩
  rename_i e
  refine kS.2 ⟨fun x a=> ?_,f h'.2⟩
  rcases TP a with rfl|a
  .rcases TG g.1 p with c|c|c
   .exact c
   .exact absurd c e
   exact absurd c d
  exact h'.1 x a
theorem Asc.del{L:List bS}(h:Asc L)(p:BA):Asc (BD L p):=List.Pairwise.filter _ h
theorem SZ(L:List bS)(p b:BA):(pD L p b).length<=L.length+1:=by
 induction L with
 |nil=>simp[pD]
 |cons g L a=>
  simp only[pD]
  split
  .simp
  split
  .simp
  simp only[jC];omega
def qOw(f:bS):Prop:=iF f.1.data.toList=true/\f.2.size<=16384
def WF(L:List bS):Prop:=L.length<=64/\Asc L/\∀f∈L,qOw f
theorem WF.put{L:List bS}(h:WF L){p b:BA}(e:iF p.data.toList=true)(c:b.size<=16384)(d:(pD L p b).length<=64):WF (pD L p b):=
 ⟨d,h.2.1.put p b,fun f a=>by
  rcases TP a with rfl|a
  .exact⟨e,c⟩
  exact h.2.2 f a⟩
theorem WF.del{L:List bS}(h:WF L)(p:BA):WF (BD L p):=
 ⟨gJ (List.length_filter_le _ _) h.1,h.2.1.del p,fun f a=>h.2.2 f ((gQ.1 a).1)⟩
def FM(q:Option BA)(p:BA):Bool:=match q with
 |some x=>blt p x
 |none=>false
def AO:Option BA->List bS->Int
 |_,[]=>0
 |q,f::L=>
  if iF f.1.data.toList=false then 6
  else if q=some f.1 then 10
  else if FM q f.1 then 6
  else if 16384<f.2.size then 2
  else AO (some f.1) L
def lB(L:List bS):Int:=if 64<L.length then 2 else AO none L
theorem qIm:∀{L:List bS} {q:Option BA},AO q L=0↔Asc L/\(∀f∈L,qOw f)/\∀x,q=some x->∀f∈L,blt x f.1=true
 |[],q=>by simp[AO,Asc]
 |f::L,q=>by
  have p:=qIm (L:=L) (q:=some f.1)
  simp only[AO]
  by_cases c:iF f.1.data.toList=false
  .rw[if_pos c]
   refine⟨fun h=>by omega,fun h=> ?_⟩
   have:=(h.2.1 f (jF ..)).1;rw[c] at this;cases this
  rw[if_neg c]
  have c:iF f.1.data.toList=true:=by simpa using c
  by_cases k:q=some f.1
  .rw[if_pos k]
   refine⟨fun h=>by omega,fun h=> ?_⟩
   have:=h.2.2 _ k f (jF ..);rw[CE] at this;cases this
  rw[if_neg k]
  by_cases d:FM q f.1=true
  .rw[if_pos d]
   refine⟨fun h=>by omega,fun h=> ?_⟩
   cases q with
   |none=>cases d
   |some x=>have:=h.2.2 x rfl f (jF ..);rw[show FM (some x) f.1=blt f.1 x from rfl,qHz this] at d;cases d
  rw[if_neg d]
  by_cases h4:16384<f.2.size
  .rw[if_pos h4]
   refine⟨fun h=>by omega,fun h=> ?_⟩
   have:=(h.2.1 f (jF ..)).2;omega
  rw[if_neg h4,p]
  have o:∀x,q=some x->blt x f.1=true:=fun x e=>by
   subst e
   rcases TG x f.1 with g|g|g
   .exact g
   .exact absurd (by rw[g]) k
   exact absurd g d
  constructor
  .rintro⟨b,l,n⟩
   refine⟨kS.2 ⟨n f.1 rfl,b⟩,fun g a=> ?_,fun x e g a=> ?_⟩
   .rcases jJ.1 a with rfl|a
    .exact⟨c,by omega⟩
    exact l g a
   rcases jJ.1 a with rfl|a
   .exact o x e
   exact IB (o x e) (n f.1 rfl g a)
  rintro⟨b,l,n⟩
  have b:=kS.1 b
  exact⟨b.2,fun g a=>l g (jH _ a),fun x e=>by cases e;exact b.1⟩
theorem yW{L:List bS}:lB L=0↔WF L:=by
 unfold lB WF
 by_cases h:64<L.length
 .rw[if_pos h];exact⟨fun h=>by omega,fun g=>by omega⟩
 rw[if_neg h,qIm]
 exact⟨fun g=>⟨by omega,g.1,g.2.1⟩,fun g=>⟨g.2.1,g.2.2,fun x a=>by cases a⟩⟩
def qCj(c:Int):Unit⊕Int:=if c=0 then .inl () else .inr c
def yL(L:List bS)(i:Nat):Option BA:=if i=0 then none else(L[i-1]?).map (·.1)
theorem qFy{L:List bS}{f:Int->Option (Int⊕(Unit⊕Int))}
  (step:∀i:Nat,∀h:i<L.length,f (i:Int)=if iF L[i].1.data.toList=false then some (.inr (.inr 6)) else if yL L i=some L[i].1 then some (.inr (.inr 10)) else if FM (yL L i) L[i].1 then some (.inr (.inr 6)) else if 16384<L[i].2.size then some (.inr (.inr 2)) else some (.inl ((i:Int)+1)))
  (stop:f (L.length:Int)=some (.inr (.inl ()))):∀(d i M:Nat),i+d=L.length->d<M->aB f M (i:Int)=some (qCj (AO (yL L i) (L.drop i)))
 |_,_,0,_,h=>by omega
 |0,i,M+1,c,_=>by
  have:i=L.length:=by omega
  subst this
  simp[aB,stop,AO,qCj]
 |d+1,i,M+1,c,g=>by
  have hi:i<L.length:=by omega
  have e:=qFy step stop d (i+1) M aa aa
  have a:(i:Int)+1=((i+1:Nat):Int):=by omega
  have b:yL L (i+1)=some L[i].1:=by simp[yL,hi]
  simp only[aB,step i hi]
  rw[kA hi]
  simp only[AO]
  by_cases h1:iF L[i].1.data.toList=false
  .rw[if_pos h1,if_pos h1];rfl
  rw[if_neg h1,if_neg h1]
  by_cases h2:yL L i=some L[i].1
  .rw[if_pos h2,if_pos h2];rfl
  rw[if_neg h2,if_neg h2]
  by_cases h3:FM (yL L i) L[i].1=true
  .rw[if_pos h3,if_pos h3];rfl
  rw[if_neg h3,if_neg h3]
  by_cases h4:16384<L[i].2.size
  .rw[if_pos h4,if_pos h4];rfl
  rw[if_neg h4,if_neg h4,a]
  simp only[j0]
  rw[e,b]
theorem uO(x y:BA):(x.toList==y.toList)=decide (x=y):=oZ x y
theorem zBj{N:Nat}{L:List bS}{P:BA->Option Bool}{f:Int->Option (Int⊕(Unit⊕Int))}(l:∀g∈L,P g.1=some (iF g.1.data.toList))
  (k:∀s1,f s1=if(decide (s1<(List.length L:Int)))then((aO L s1).bind fun a=>(P a.1).bind fun y1=>if(!y1)then(some (.inr (.inr (6)))) else((if(decide (s1>0))then((aO L (IntKind.wrap .i64 (s1-1))).bind fun o=>some (a.1.toList==o.1.toList)) else(some false):Option (Bool)).bind fun o2=>if o2 then(some (.inr (.inr (10)))) else((if(decide (s1>0))then((aO L (IntKind.wrap .i64 (s1-1))).bind fun p=>some (Op.bytesLess a.1.toList p.1.toList)) else(some false):Option (Bool)).bind fun n=>if n then(some (.inr (.inr (6)))) else(if(decide ((ByteArray.size a.2:Int)>16384))then(some (.inr (.inr (2)))) else(some (.inl (IntKind.wrap .i64 (s1+1)))))))) else(some (.inr (.inl ()))))
  (q:100<N):(if(decide ((List.length L:Int)>64))then(some 2) else((aB f N 0).bind fun c=>(match c with| .inl _=>some 0| .inr z=>some z)):Option Int)=some (lB L):=by
 unfold lB
 by_cases h:64<L.length
 .rw[if_pos h,if_pos ad]
 rw[if_neg h,if_neg ad]
 have key:=qFy (L:=L) (f:=f) (fun i hi=>by
  rw[k,if_pos ad,cQ hi]
  simp only[j0,l _ (jM hi)]
  by_cases h1:iF L[i].1.data.toList=false
  .rw[if_pos (by rw[h1];rfl),if_pos h1]
  have h1':iF L[i].1.data.toList=true:=by simpa using h1
  rw[if_neg (by rw[h1'];simp),if_neg h1]
  by_cases d:0<i
  .have b:i-1<L.length:=by omega
   have ew:IntKind.wrap .i64 ((i:Int)-1)=((i-1:Nat):Int):=by rw[bB aa aa];omega
   have eq:yL L i=some (L[i-1]).1:=by simp[yL,b];omega
   rw[ew,cQ b,eq]
   have ed:decide ((i:Int)>0)=true:=by simp only[j7];omega
   simp only[j0,uO,ed,jI,j7,jO]
   by_cases h2:L[i].1=(L[i-1]).1
   .rw[if_pos h2,if_pos h2.symm]
   rw[if_neg h2,if_neg (show ¬(L[i-1]).1=L[i].1 from fun e=>h2 e.symm)]
   have el:FM (some (L[i-1]).1) L[i].1=Op.bytesLess L[i].1.toList (L[i-1]).1.toList:=rfl
   rw[el]
   by_cases h3:Op.bytesLess L[i].1.toList (L[i-1]).1.toList=true
   .rw[if_pos h3,if_pos h3]
   rw[if_neg h3,if_neg h3]
   by_cases h4:16384<L[i].2.size
   .rw[if_pos aa,if_pos h4]
   rw[if_neg aa,if_neg h4,bB aa aa]
  have d:i=0:=by omega
  subst d
  have ed:decide (((0:Nat):Int)>0)=false:=by decide
  have eq:yL L 0=none:=rfl
  have el:FM none (L[0]).1=false:=rfl
  simp only[ed,jA,jG,j0,eq,j7,reduceCtorEq,el]
  by_cases h4:16384<L[0].2.size
  .rw[if_pos aa,if_pos h4]
  rw[if_neg aa,if_neg h4,bB aa aa]) (by rw[k,if_neg ae]) L.length 0 N aa aa
 rw[show((0:Nat):Int)=0 from rfl] at key
 rw[key,kC]
 have eq:yL L 0=none:=rfl
 rw[eq]
 simp only[j0,qCj]
 by_cases hc:AO none L=0
 .rw[if_pos hc,hc]
 rw[if_neg hc]
theorem EG{N:Nat}{L:List bS}(a:100<N):ED N L=some (lB L):=
 zBj (f:=WE N L) (P:=xQ N) (fun _ _=>HQ a) (fun _=>rfl) a
end
section
open Go Go.Dc Go.Proofs
def lE:BA:=⟨#[]⟩
def qPr(o:Option BA):BA×Bool:=match o with
 |some b=>(b,true)
 |none=>(lE,false)
def pN(L:List bS)(p:BA):BA×Bool:=if lB L=0 then qPr (mH L p) else(lE,false)
theorem qEf{N:Nat}{L:List bS}{p:BA}(e:L.length<1000000):∀(d i M:Nat),i+d=L.length->d<M->aB (LH N L p) M (i:Int)=some (match mH (L.drop i) p with|some b=> .inr (b,true)|none=> .inl ())
 |_,_,0,_,h=>by omega
 |0,i,M+1,c,_=>by
  simp only[aB,LH]
  rw[if_neg ad,jU aa]
  rfl
 |d+1,i,M+1,c,f=>by
  have hi:i<L.length:=by omega
  simp only[aB,LH]
  rw[if_pos ad,cQ hi,kA hi]
  simp only[j0,uO,j7,mH]
  by_cases he:(L[i]).1=p
  .rw[if_pos he,if_pos he];rfl
  rw[if_neg he,if_neg he,bB aa aa]
  have a:(i:Int)+1=((i+1:Nat):Int):=by omega
  simp only[j0]
  rw[a,qEf e d (i+1) M aa aa]
theorem HR{N:Nat}{L:List bS}(p:BA)(a:100<N):uR N L p=some (pN L p):=by
 simp only[uR,EG a,j0]
 unfold pN
 by_cases hc:lB L=0
 .rw[if_neg (by simp[hc]),if_pos hc]
  have b:=(yW.1 hc).1
  have:=qEf (N:=N) (L:=L) (p:=p) aa L.length 0 N aa aa
  rw[show((0:Nat):Int)=0 from rfl,kC] at this
  rw[this]
  cases mH L p<;>rfl
 rw[if_pos (by simpa using hc),if_neg hc];rfl
def CI(s:BA):Bool:=iF s.data.toList&&decide (4<s.size)&&decide (s.extract (s.size-4) s.size=(⟨#[46,115,114,99]⟩:BA))
theorem qTn{N:Nat}{s:BA}(a:100<N):RF N s=some (CI s):=by
 simp only[RF,HQ a,j0]
 unfold CI
 cases hb:iF s.data.toList with
 |false=>simp
 |true=>
  have b:s.size<=80:=by
   have:s.data.toList.length<=80:=(gH hb).1
   have e:=mZ s
   omega
  rw[if_pos rfl]
  by_cases h4:4<s.size
  .rw[if_pos ad,show IntKind.wrap .i64 ((s.size:Int)-4)=((s.size-4:Nat):Int) by rw[bB aa aa];omega,MT aa aa aa]
   simp only[j0,jQ,uO,jR h4,fH]
  rw[if_neg ad,jX h4];rfl
section
variable {κ ν:Type} [DecidableEq κ]
theorem qFw:∀(l:List (κ×ν)) (k:κ) (v:ν) (c:κ),eV (rC l k v) c=if c=k then some v else eV l c
 |[],k,v,c=>by simp[rC,eV]
 |p::l,k,v,c=>by
  simp only[rC]
  by_cases h:k=p.1
  .rw[if_pos h]
   simp only[eV]
   by_cases h2:c=k
   .rw[if_pos h2,if_pos h2]
   rw[if_neg h2,if_neg h2,if_neg (by rw[<-h];exact h2)]
  rw[if_neg h]
  simp only[eV]
  rw[qFw l k v c]
  by_cases h2:c=p.1
  .rw[if_pos h2,if_neg (fun e=>h (by rw[<-e,h2])),if_pos h2]
  rw[if_neg h2,if_neg h2]
theorem qXk[KOrd κ]{l:List (κ×ν)}(a:(l.map (·.1)).Nodup)(k:κ)(v:ν)(c:κ):eV (mset l k v) c=if c=k then some v else eV l c:=by
 rw[<-YP (HY (.refl l) a k v) (HN a k v) c,qFw]
theorem qVw[KOrd κ]{l:List (κ×ν)}(a:(l.map (·.1)).Nodup)(k:κ)(v:ν):((mset l k v).map (·.1)).Nodup:=
 ((HY (.refl l) a k v).map _).nodup_iff.1 (HN a k v)
end
end
section
open Go Go.Dc
instance decMemB(s:BA)(l:List BA):Decidable (s∈l):=@List.instDecidableMemOfLawfulBEq BA instBEqOfDecidableEq inferInstance s l
abbrev Ex:=Int×Int×Int×BA×List Int
abbrev Dl:=Int×BA×List BA×List Ex
abbrev Sr:=BA×List BA×List Dl
abbrev cD:=Int×Int
abbrev Ps:=Nat×List Ex
abbrev PM(α:Type):=cD⊕(Ps×α)
def aA(ts:List bD)(i:Nat):bD:=ts.getD i (5,⟨#[]⟩,0,0)
def iM{α:Type}(t:bD)(e:Int):cD⊕α:= .inl (t.2.2.2,e)
def aQ{α β:Type}(x:cD⊕α)(f:α->cD⊕β):cD⊕β:=
 match x with
 | .inl z=> .inl z
 | .inr a=>f a
def bX(ts:List bD)(k:Int)(s:BA)(i:Nat):Bool:=(aA ts i).1==k&&decide ((aA ts i).2.1=s)
def iD(ts:List bD)(s:BA)(i:Nat):cD⊕Nat:=if bX ts 4 s i then .inr (i+1) else iM (aA ts i) 9
def wI(ts:List bD)(s:BA)(i:Nat):cD⊕Nat:=if bX ts 1 s i then .inr (i+1) else iM (aA ts i) 9
def oC(ts:List bD)(k:Int)(i:Nat):cD⊕(Nat×bD):=if(aA ts i).1=k then .inr (i+1,aA ts i) else iM (aA ts i) 9
def sPackage:BA:=⟨#[112,97,99,107,97,103,101]⟩
def CN:BA:=⟨#[105,109,112,111,114,116]⟩
def OQ:BA:=⟨#[102,117,110,99]⟩
def OS:BA:=⟨#[116,101,115,116]⟩
def OU:BA:=⟨#[103,101,110]⟩
def sU:BA:=⟨#[105,102]⟩
def sThen:BA:=⟨#[116,104,101,110]⟩
def sElse:BA:=⟨#[101,108,115,101]⟩
def sRead:BA:=⟨#[114,101,97,100]⟩
def sSize:BA:=⟨#[115,105,122,101]⟩
def sHas:BA:=⟨#[104,97,115]⟩
def sEnv:BA:=⟨#[101,110,118]⟩
def sFlip:BA:=⟨#[102,108,105,112]⟩
def sOpen:BA:=⟨#[40]⟩
def sClose:BA:=⟨#[41]⟩
def sComma:BA:=⟨#[44]⟩
def sSemi:BA:=⟨#[59]⟩
def sEq:BA:=⟨#[61]⟩
def sMinus:BA:=⟨#[45]⟩
def wordsR:List BA:=[sPackage,CN,OQ,OS,OU,sU,sThen,sElse,sRead,sSize,sHas,sEnv,sFlip]
def uM(s:BA):Bool:=decide (s∈wordsR)
def pC(ts:List bD)(i:Nat):cD⊕(Nat×bD):=aQ (oC ts 1 i) fun p=>if uM p.2.2.1 then iM p.2 9 else .inr p
def qQ(ts:List bD)(i:Nat):cD⊕(Nat×bD):=aQ (oC ts 3 i) fun p=>if iF p.2.2.1.data.toList then .inr p else iM p.2 9
def wX(ts:List bD)(i:Nat):cD⊕(Nat×bD):=aQ (oC ts 3 i) fun p=>if iR p.2.2.1 then .inr p else iM p.2 9
def mL(t:bD)(x:Ex)(p:Ps):PM Nat:=if p.2.length=256 then iM t 2 else .inr ((p.1,p.2++[x]),p.2.length)
def opsC:List (Int×BA):=[(1,⟨#[43]⟩),(2,⟨#[45]⟩),(3,⟨#[42]⟩),(4,⟨#[47]⟩),(5,⟨#[37]⟩),(6,⟨#[60]⟩),(7,⟨#[61,61]⟩)]
def xF(op:Int):Nat:=if op=6\/op=7 then 1 else if op=1\/op=2 then 2 else 3
def yF(ts:List bD)(level:Nat)(i:Nat)(o:Int×BA):Bool:=bX ts 4 o.2 i&&decide (xF o.1=level)
def mY(ts:List bD)(level:Nat)(i:Nat):Int:=
 match opsC.find? (yF ts level i) with
 |some o=>o.1
 |none=>0
section
variable (ts:List bD) (params:List BA) (E:Ps->PM Nat)
def tZ:Nat->List Int->Ps->PM (List Int)
 |0,_,p=>iM (aA ts p.1) 9
 |n+1,l,p=>aQ (E p) fun q=>
  if bX ts 4 sComma q.1.1 then tZ n (l++[(q.2:Int)]) (q.1.1+1,q.1.2)
  else aQ (iD ts sClose q.1.1) fun i=> .inr ((i,q.1.2),l++[(q.2:Int)])
def xS(p:Ps):PM (List Int):=
 aQ (iD ts sOpen p.1) fun i=>if bX ts 4 sClose i then .inr ((i+1,p.2),[]) else tZ ts E (ts.length+1) [] (i,p.2)
def rV(t:bD)(p:Ps):PM Nat:=
 aQ (iD ts sOpen p.1) fun i=>
 aQ (if t.2.1=sRead then
   aQ (qQ ts i) fun a=>aQ (iD ts sComma a.1) fun i=>aQ (E (i,p.2)) fun q=> .inr (q.1,((6,0,0,a.2.2.1,[(q.2:Int)]):Ex))
  else if t.2.1=sSize then aQ (qQ ts i) fun a=> .inr ((a.1,p.2),((7,0,0,a.2.2.1,[]):Ex))
  else if t.2.1=sHas then aQ (qQ ts i) fun a=> .inr ((a.1,p.2),((8,0,0,a.2.2.1,[]):Ex))
  else if t.2.1=sEnv then aQ (wX ts i) fun a=> .inr ((a.1,p.2),((9,0,0,a.2.2.1,[]):Ex))
  else aQ (oC ts 2 i) fun a=>if a.2.2.2.1>=64 then iM a.2 9 else .inr ((a.1,p.2),((10,a.2.2.2.1,0,⟨#[]⟩,[]):Ex))) fun q=>
 aQ (iD ts sClose q.1.1) fun i=>mL t q.2 (i,q.1.2)
def nT(p:Ps):PM Nat:=
 let t:=aA ts p.1
 if t.1=2 then mL t (1,t.2.2.1,0,⟨#[]⟩,[]) (p.1+1,p.2)
 else if bX ts 4 sMinus p.1 then aQ (oC ts 2 (p.1+1)) fun a=>mL t (1,IntKind.wrap .i64 (0-a.2.2.2.1),0,⟨#[]⟩,[]) (a.1,p.2)
 else if bX ts 4 sOpen p.1 then aQ (E (p.1+1,p.2)) fun q=>aQ (iD ts sClose q.1.1) fun i=> .inr ((i,q.1.2),q.2)
 else if t.1≠1 then iM t 9
 else if t.2.1∈[sRead,sSize,sHas,sEnv,sFlip] then rV ts E t (p.1+1,p.2)
 else if uM t.2.1 then iM t 9
 else if bX ts 4 sOpen (p.1+1) then aQ (xS ts E (p.1+1,p.2)) fun q=>mL t (3,0,0,t.2.1,q.2) q.1
 else match params.findIdx? (fun x=>decide (x=t.2.1)) with
  |some i=>mL t (2,(i:Int),0,⟨#[]⟩,[]) (p.1+1,p.2)
  |none=>iM t 9
def nR(level:Nat)(S:Ps->PM Nat):Nat->Nat->Ps->PM Nat
 |0,_,p=>iM (aA ts p.1) 9
 |n+1,x,p=>
  if mY ts level p.1=0 then .inr (p,x)
  else aQ (S (p.1+1,p.2)) fun q=>aQ (mL (aA ts p.1) (4,0,mY ts level p.1,⟨#[]⟩,[(x:Int),(q.2:Int)]) q.1) fun r=>
   if level=1 then .inr r else nR level S n r.2 r.1
def qO(level:Nat)(S:Ps->PM Nat)(p:Ps):PM Nat:=aQ (S p) fun q=>nR ts level S (ts.length+1) q.2 q.1
def VC:Ps->PM Nat:=qO ts 3 (nT ts params E)
def BG:Ps->PM Nat:=qO ts 2 (VC ts params E)
def TN:Ps->PM Nat:=qO ts 1 (BG ts params E)
end
def eP(ts:List bD)(params:List BA):Nat->Ps->PM Nat
 |0,p=>iM (aA ts p.1) 2
 |k+1,p=>
  if bX ts 1 sU p.1 then
   aQ (eP ts params k (p.1+1,p.2)) fun a=>aQ (wI ts sThen a.1.1) fun i=>
   aQ (eP ts params k (i,a.1.2)) fun b=>aQ (wI ts sElse b.1.1) fun j=>
   aQ (eP ts params k (j,b.1.2)) fun c=>mL (aA ts p.1) (5,0,0,⟨#[]⟩,[(a.2:Int),(b.2:Int),(c.2:Int)]) c.1
  else TN ts params (eP ts params k) p
def uY(ts:List bD):Nat->List BA->Nat->cD⊕(Nat×List BA)
 |0,_,i=>iM (aA ts i) 9
 |n+1,l,i=>aQ (pC ts i) fun a=>
  if l.length=8 then iM a.2 2
  else if a.2.2.1∈l then iM a.2 10
  else if bX ts 4 sComma a.1 then uY ts n (l++[a.2.2.1]) (a.1+1)
  else aQ (iD ts sClose a.1) fun j=> .inr (j,l++[a.2.2.1])
def xR(ts:List bD)(i:Nat):cD⊕(Nat×List BA):=
 aQ (iD ts sOpen i) fun j=>if bX ts 4 sClose j then .inr (j+1,[]) else uY ts (ts.length+1) [] j
def uF(s:BA):Int:=if s=OQ then 1 else if s=OS then 2 else if s=OU then 3 else 0
def pM(ts:List bD)(before:List Dl)(i:Nat):cD⊕(Nat×Dl):=
 let t:=aA ts i
 let k:=uF t.2.1
 if t.1≠1\/k=0 then iM t 9
 else if before.length=64 then iM t 2
 else aQ (if k=3 then qQ ts (i+1) else pC ts (i+1)) fun a=>
  if before.any (fun d=>d.1==k&&decide (d.2.1=a.2.2.1)) then iM a.2 10
  else aQ (if k=1 then xR ts a.1 else .inr (a.1,[])) fun b=>
   aQ (iD ts sEq b.1) fun j=>aQ (eP ts b.2 32 (j,[])) fun c=>
   aQ (iD ts sSemi c.1.1) fun m=> .inr (m,(k,a.2.2.1,b.2,c.1.2))
def qL(ts:List bD)(pkg:BA):Nat->List BA->Nat->cD⊕(Nat×List BA)
 |0,_,i=>iM (aA ts i) 9
 |n+1,l,i=>
  if bX ts 1 CN i then
   if l.length=8 then iM (aA ts i) 2
   else aQ (pC ts (i+1)) fun a=>
    if a.2.2.1=pkg\/a.2.2.1∈l then iM a.2 10
    else aQ (iD ts sSemi a.1) fun j=>qL ts pkg n (l++[a.2.2.1]) j
  else .inr (i,l)
def rX(ts:List bD):Nat->List Dl->Nat->cD⊕List Dl
 |0,_,i=>iM (aA ts i) 9
 |n+1,l,i=>if(aA ts i).1=5 then .inr l else aQ (pM ts l i) fun a=>rX ts n (l++[a.2]) a.1
def tH(ts:List bD):cD⊕Sr:=
 aQ (wI ts sPackage 0) fun i=>aQ (pC ts i) fun a=>aQ (iD ts sSemi a.1) fun j=>
 aQ (qL ts a.2.2.1 (ts.length+1) [] j) fun b=>aQ (rX ts (ts.length+1) [] b.1) fun l=> .inr (a.2.2.1,b.2,l)
def uE:Sr:=(⟨#[]⟩,[],[])
def lD(s:BA):Sr×Int×Int:=
 if(mP s).2.2≠0 then(uE,(mP s).2.1,(mP s).2.2)
 else match tH (mP s).1 with
  | .inl z=>(uE,z.1,z.2)
  | .inr f=>(f,0,0)
def OkT(ts:List bD):Prop:=ts≠[]/\∀i,i<ts.length->((aA ts i).1=5↔i+1=ts.length)
theorem bM{α β:Type}{x:cD⊕α}{f:α->cD⊕β}{b:β}(h:aQ x f= .inr b):∃a,x= .inr a/\f a= .inr b:=by
 cases x with
 |inl z=>cases h
 |inr a=>exact⟨a,rfl,h⟩
section
variable {ts:List bD} {params:List BA} {E S:Ps->PM Nat}
theorem OkT.next(h:OkT ts){i:Nat}(hi:i<ts.length)(a:(aA ts i).1≠5):i+1<ts.length:=by
 have b:¬i+1=ts.length:=fun e=>a ((h.2 i hi).2 e)
 omega
theorem ZT{k:Int}{s:BA}{i:Nat}(h:bX ts k s i=true):(aA ts i).1=k:=by
 simp only[bX,jK,kI] at h;exact h.1
theorem pS(h:OkT ts){k:Int}{s:BA}{i:Nat}(hi:i<ts.length)(b:k≠5)(a:bX ts k s i=true):i+1<ts.length:=h.next hi (by rw[ZT a];exact b)
theorem pH(h:OkT ts){s:BA}{i j:Nat}(hi:i<ts.length)(a:iD ts s i= .inr j):j=i+1/\j<ts.length/\bX ts 4 s i=true:=by
 unfold iD at a
 split at a
 .rename_i h2
  obtain rfl:=Sum.inr.inj a
  exact⟨rfl,pS h hi ac h2,h2⟩
 cases a
theorem TW(h:OkT ts){s:BA}{i j:Nat}(hi:i<ts.length)(a:wI ts s i= .inr j):j=i+1/\j<ts.length/\bX ts 1 s i=true:=by
 unfold wI at a
 split at a
 .rename_i h2
  obtain rfl:=Sum.inr.inj a
  exact⟨rfl,pS h hi ac h2,h2⟩
 cases a
theorem EU(h:OkT ts){k:Int}(c:k≠5){i:Nat}{a:Nat×bD}(hi:i<ts.length)(b:oC ts k i= .inr a):a=(i+1,aA ts i)/\i+1<ts.length/\(aA ts i).1=k:=by
 unfold oC at b
 split at b
 .rename_i h2
  obtain rfl:=Sum.inr.inj b
  exact⟨rfl,h.next hi (by rw[h2];exact c),h2⟩
 cases b
theorem yY(h:OkT ts){i:Nat}{a:Nat×bD}(hi:i<ts.length)(f:pC ts i= .inr a):a=(i+1,aA ts i)/\i+1<ts.length/\(aA ts i).1=1/\uM (aA ts i).2.1=false:=by
 obtain⟨b,g,c⟩:=bM f
 obtain⟨rfl,d,e⟩:=EU h ac hi g
 split at c
 .cases c
 rename_i g3
 obtain rfl:=Sum.inr.inj c
 exact⟨rfl,d,e,by simpa using g3⟩
theorem CL(h:OkT ts){i:Nat}{a:Nat×bD}(hi:i<ts.length)(f:qQ ts i= .inr a):a=(i+1,aA ts i)/\i+1<ts.length/\(aA ts i).1=3/\iF (aA ts i).2.1.data.toList=true:=by
 obtain⟨b,g,c⟩:=bM f
 obtain⟨rfl,d,e⟩:=EU h ac hi g
 split at c
 .rename_i g3
  obtain rfl:=Sum.inr.inj c
  exact⟨rfl,d,e,g3⟩
 cases c
theorem qJc(h:OkT ts){i:Nat}{a:Nat×bD}(hi:i<ts.length)(f:wX ts i= .inr a):a=(i+1,aA ts i)/\i+1<ts.length/\(aA ts i).1=3/\iR (aA ts i).2.1=true:=by
 obtain⟨b,g,c⟩:=bM f
 obtain⟨rfl,d,e⟩:=EU h ac hi g
 split at c
 .rename_i g3
  obtain rfl:=Sum.inr.inj c
  exact⟨rfl,d,e,g3⟩
 cases c
theorem EV{t:bD}{x:Ex}{p q:Ps}{i:Nat}(h:mL t x p= .inr (q,i)):q=(p.1,p.2++[x])/\i=p.2.length/\p.2.length≠256:=by
 unfold mL at h
 split at h
 .cases h
 rename_i h1
 obtain⟨rfl,rfl⟩:=Prod.mk.inj (Sum.inr.inj h)
 exact⟨rfl,rfl,h1⟩
def KE(ts:List bD)(p q:Ps):Prop:=p.1<q.1/\q.1<ts.length/\p.2.length<=q.2.length/\q.2.length<=256
def pZ(ts:List bD)(S:Ps->PM Nat):Prop:=∀(p q:Ps) (x:Nat),p.1<ts.length->p.2.length<=256->S p= .inr (q,x)->KE ts p q/\x<q.2.length
theorem CK{t:bD}{x:Ex}{p r q:Ps}{i:Nat}(b:p.1<r.1)(c:r.1<ts.length)(d:p.2.length<=r.2.length)(a:r.2.length<=256)(h:mL t x r= .inr (q,i)):KE ts p q/\i<q.2.length:=by
 obtain⟨rfl,rfl,g⟩:=EV h
 refine⟨⟨b,c,?_,?_⟩,?_⟩<;>simp only[jB,jC,jD]<;>omega
theorem YM(h:OkT ts)(f:pZ ts E):∀(n:Nat) (l:List Int) (p q:Ps) (x:List Int),p.1<ts.length->p.2.length<=256->tZ ts E n l p= .inr (q,x)->KE ts p q
 |0,_,_,_,_,_,_,b=>by cases b
 |n+1,l,p,q,x,v,t,b=>by
  obtain⟨a,s,c⟩:=bM (show aQ (E p) _=_ from b)
  obtain⟨⟨D,d,k,e⟩,F⟩:=f p a.1 a.2 v t s
  split at c
  .rename_i hc
   have g:=pS h d ac hc
   obtain⟨y,z,A,B⟩:=YM h f n _ (a.1.1+1,a.1.2) q x g e c
   exact⟨by simp only at y;omega,z,by simp only at A;omega,B⟩
  obtain⟨j,u,r⟩:=bM c
  obtain⟨rfl,o,-⟩:=pH h d u
  obtain⟨rfl,-⟩:=Prod.mk.inj (Sum.inr.inj r)
  exact⟨by simp only;omega,o,k,e⟩
theorem qTv(h:OkT ts)(e:pZ ts E){p q:Ps}{x:List Int}(f:p.1<ts.length)(c:p.2.length<=256)(d:xS ts E p= .inr (q,x)):KE ts p q:=by
 obtain⟨i,hi,a⟩:=bM d
 obtain⟨rfl,b,-⟩:=pH h f hi
 split at a
 .rename_i hc
  obtain⟨rfl,-⟩:=Prod.mk.inj (Sum.inr.inj a)
  exact⟨by simp only;omega,pS h b ac hc,jN _,c⟩
 obtain⟨g,k,l,n⟩:=YM h e _ _ (p.1+1,p.2) q x b c a
 exact⟨by simp only at g;omega,k,l,n⟩
theorem qUt(h:OkT ts)(K:pZ ts E){t:bD}{p q:Ps}{x:Nat}(R:p.1<ts.length)(n:p.2.length<=256)(D:rV ts E t p= .inr (q,x)):KE ts p q/\x<q.2.length:=by
 obtain⟨i,hi,F⟩:=bM D
 obtain⟨rfl,l,-⟩:=pH h R hi
 obtain⟨a,g,G⟩:=bM F
 obtain⟨j,M,H⟩:=bM G
 have key:KE ts (p.1+1,p.2) a.1:=by
  split at g
  .obtain⟨b,f,e⟩:=bM g
   obtain⟨rfl,k,-⟩:=CL h l f
   obtain⟨c,y,z⟩:=bM e
   obtain⟨rfl,S,-⟩:=pH h k y
   obtain⟨d,A,B⟩:=bM z
   obtain⟨⟨o,s,u,v⟩,-⟩:=K (p.1+1+1+1,p.2) d.1 d.2 S n A
   obtain rfl:=Sum.inr.inj B
   exact⟨by simp only at o ⊢;omega,s,u,v⟩
  split at g
  .obtain⟨b,f,e⟩:=bM g
   obtain⟨rfl,k,-⟩:=CL h l f
   obtain rfl:=Sum.inr.inj e
   exact⟨by simp only;omega,k,jN _,n⟩
  split at g
  .obtain⟨b,f,e⟩:=bM g
   obtain⟨rfl,k,-⟩:=CL h l f
   obtain rfl:=Sum.inr.inj e
   exact⟨by simp only;omega,k,jN _,n⟩
  split at g
  .obtain⟨b,f,e⟩:=bM g
   obtain⟨rfl,k,-⟩:=qJc h l f
   obtain rfl:=Sum.inr.inj e
   exact⟨by simp only;omega,k,jN _,n⟩
  obtain⟨b,f,e⟩:=bM g
  obtain⟨rfl,k,-⟩:=EU h ac l f
  split at e
  .cases e
  obtain rfl:=Sum.inr.inj e
  exact⟨by simp only;omega,k,jN _,n⟩
 obtain⟨o,s,u,v⟩:=key
 obtain⟨rfl,e,-⟩:=pH h s M
 exact CK (r:=(a.1.1+1,a.1.2)) (by simp only at o ⊢;omega) e u v H
theorem qFf(h:OkT ts)(u:pZ ts E):pZ ts (nT ts params E):=by
 intro p q x o c b
 unfold nT at b
 dsimp only at b
 split at b
 .rename_i hk
  exact CK (r:=(p.1+1,p.2)) ak (h.next o (by rw[hk];decide)) (jN _) c b
 split at b
 .rename_i hc
  have g:=pS h o ac hc
  obtain⟨a,n,l⟩:=bM b
  obtain⟨rfl,t,-⟩:=EU h ac g n
  exact CK (r:=(p.1+1+1,p.2)) ak t (jN _) c l
 split at b
 .rename_i hc
  have g:=pS h o ac hc
  obtain⟨a,n,l⟩:=bM b
  obtain⟨⟨d,e,f,k⟩,s⟩:=u (p.1+1,p.2) a.1 a.2 g c n
  obtain⟨j,y,v⟩:=bM l
  obtain⟨rfl,t,-⟩:=pH h e y
  obtain⟨rfl,rfl⟩:=Prod.mk.inj (Sum.inr.inj v)
  exact⟨⟨by simp only at d ⊢;omega,t,f,k⟩,s⟩
 split at b
 .cases b
 rename_i hk
 have g:=h.next o (show(aA ts p.1).1≠5 by simp only[uB,Decidable.not_not] at hk;rw[hk];decide)
 split at b
 .obtain⟨⟨d,e,f,k⟩,s⟩:=qUt h u (p:=(p.1+1,p.2)) g c b
  exact⟨⟨by simp only at d;omega,e,f,k⟩,s⟩
 split at b
 .cases b
 split at b
 .obtain⟨a,n,l⟩:=bM b
  obtain⟨d,e,f,k⟩:=qTv h u (p:=(p.1+1,p.2)) g c n
  exact CK (by simp only at d;omega) e f k l
 split at b
 .exact CK (r:=(p.1+1,p.2)) ak g (jN _) c b
 cases b
theorem qIi(h:OkT ts){level:Nat}(d:pZ ts S):∀(n x:Nat) (p q:Ps) (y:Nat),p.1<ts.length->p.2.length<=256->x<p.2.length->nR ts level S n x p= .inr (q,y)->p.1<=q.1/\q.1<ts.length/\p.2.length<=q.2.length/\q.2.length<=256/\y<q.2.length
 |0,_,_,_,_,_,_,_,b=>by cases b
 |n+1,x,p,q,y,k,e,F,b=>by
  unfold nR at b
  split at b
  .obtain⟨rfl,rfl⟩:=Prod.mk.inj (Sum.inr.inj b)
   exact⟨jN _,k,jN _,e,F⟩
  rename_i hop
  have f:(aA ts p.1).1≠5:=by
   intro f
   apply hop
   unfold mY
   have:opsC.find? (yF ts level p.1)=none:=by
    rw[List.find?_eq_none]
    intro o _ c
    simp only[yF,jK] at c
    have:=ZT c.1
    omega
   rw[this]
  have g:=h.next k f
  obtain⟨a,D,B⟩:=bM b
  obtain⟨⟨u,v,z,A⟩,R⟩:=d (p.1+1,p.2) a.1 a.2 g e D
  obtain⟨r,E,c⟩:=bM B
  obtain⟨⟨Y,l,M,s⟩,t⟩:=CK (ts:=ts) (p:=p) (by simp only at u;omega) v z A E
  split at c
  .obtain⟨rfl,rfl⟩:=Prod.mk.inj (Sum.inr.inj c)
   exact⟨by omega,l,M,s,t⟩
  obtain⟨U,G,V,H,K⟩:=qIi h d n _ _ q y l s t c
  exact⟨by omega,G,by omega,H,K⟩
theorem MP(h:OkT ts){level:Nat}(b:pZ ts S):pZ ts (qO ts level S):=by
 intro p q x n l f
 obtain⟨a,k,g⟩:=bM f
 obtain⟨⟨t,c,u,d⟩,e⟩:=b p a.1 a.2 n l k
 obtain⟨v,o,y,r,s⟩:=qIi h b _ _ _ q x c d e g
 exact⟨⟨by omega,o,by omega,r⟩,s⟩
theorem CH(h:OkT ts):∀k,pZ ts (eP ts params k)
 |0=>fun _ _ _ _ _ d=>by cases d
 |k+1=>by
  intro p q x n e d
  unfold eP at d
  split at d
  .rename_i hc
   have g:=pS h n ac hc
   obtain⟨a,U,H⟩:=bM d
   obtain⟨⟨o,r,s,t⟩,-⟩:=CH h k (p.1+1,p.2) a.1 a.2 g e U
   obtain⟨i,hi,K⟩:=bM H
   obtain⟨rfl,F,-⟩:=TW h r hi
   obtain⟨b,f,M⟩:=bM K
   obtain⟨⟨u,v,y,z⟩,-⟩:=CH h k (a.1.1+1,a.1.2) b.1 b.2 F t f
   obtain⟨j,V,R⟩:=bM M
   obtain⟨rfl,G,-⟩:=TW h v V
   obtain⟨c,l,S⟩:=bM R
   obtain⟨⟨A,B,D,E⟩,-⟩:=CH h k (b.1.1+1,b.1.2) c.1 c.2 G z l
   simp only at o s u y A D
   exact CK aa B aa E S
  exact MP h (MP h (MP h (qFf h (CH h k)))) p q x n e d
end
theorem zHa{ts:List bD}{i:Nat}(hi:i<ts.length):aO ts (i:Int)=some (aA ts i):=by
 rw[cQ hi]
 simp[aA,jS,hi]
theorem zH{i:Nat}(h:i<1000000):IntKind.wrap .i64 ((i:Int)+1)=((i+1:Nat):Int):=by rw[bB aa aa];omega
end
section
open Go Go.Dc
end
section
open Go Go.Dc
end
section
open Go Go.Dc
end
section
open Go Go.Dc
section
variable {N:Nat} {ts:List bD} {pr:List BA} {b:List Ex}
theorem WY(h:OkT ts):∀(n:Nat) (l:List BA) (i:Nat) (a:Nat×List BA),i<ts.length->l.length<=8->uY ts n l i= .inr a->i<a.1/\a.1<ts.length/\a.2.length<=8
 |0,_,_,_,_,_,d=>by cases d
 |n+1,l,i,a,hi,q,d=>by
  obtain⟨x,k,b⟩:=bM (show aQ (pC ts i) _=_ from d)
  obtain⟨rfl,e,-⟩:=yY h hi k
  split at b
  .cases b
  rename_i k1
  split at b
  .cases b
  split at b
  .rename_i k3
   have c:=pS h e ac k3
   obtain⟨r,o,p⟩:=WY h n _ _ a c aj b
   exact⟨by omega,o,p⟩
  obtain⟨j,g,f⟩:=bM b
  obtain⟨rfl,c,-⟩:=pH h e g
  obtain rfl:=Sum.inr.inj f
  exact⟨by simp only;omega,c,by simp only[jB,jC,jD];omega⟩
theorem qDq(h:OkT ts){i:Nat}{a:Nat×List BA}(hi:i<ts.length)(c:xR ts i= .inr a):i<a.1/\a.1<ts.length/\a.2.length<=8:=by
 obtain⟨j,d,b⟩:=bM c
 obtain⟨rfl,g,-⟩:=pH h hi d
 split at b
 .rename_i k
  obtain rfl:=Sum.inr.inj b
  exact⟨by simp only;omega,pS h g ac k,by simp⟩
 obtain⟨l,e,f⟩:=WY h _ _ _ a g ae b
 exact⟨by omega,e,f⟩
theorem TD(h:OkT ts){before:List Dl}{i:Nat}{a:Nat×Dl}(hi:i<ts.length)(b:pM ts before i= .inr a):i<a.1/\a.1<ts.length/\before.length≠64:=by
 unfold pM at b
 dsimp only at b
 split at b
 .cases b
 rename_i k1
 split at b
 .cases b
 rename_i k2
 have g:=h.next hi (show(aA ts i).1≠5 by intro e;apply k1;left;rw[e];decide)
 obtain⟨x,k,f⟩:=bM b
 have gx:x.1=i+1+1/\x.1<ts.length:=by
  split at k
  .obtain⟨rfl,d,-⟩:=CL h g k;exact⟨rfl,d⟩
  obtain⟨rfl,d,-⟩:=yY h g k;exact⟨rfl,d⟩
 split at f
 .cases f
 obtain⟨y,l,q⟩:=bM f
 have gy:x.1<=y.1/\y.1<ts.length:=by
  split at l
  .obtain⟨d,n,-⟩:=qDq h gx.2 l;exact⟨by omega,n⟩
  obtain rfl:=Sum.inr.inj l;exact⟨jN _,gx.2⟩
 obtain⟨j,v,r⟩:=bM q
 obtain⟨rfl,o,-⟩:=pH h gy.2 v
 obtain⟨c,u,s⟩:=bM r
 obtain⟨⟨d,n,A,B⟩,-⟩:=CH h 32 (y.1+1,[]) c.1 c.2 o ae u
 obtain⟨m,z,t⟩:=bM s
 obtain⟨rfl,p,-⟩:=pH h n z
 obtain rfl:=Sum.inr.inj t
 exact⟨by simp only at d ⊢;omega,p,k2⟩
end
section
variable {N:Nat} {ts:List bD} {pr:List BA} {b:List Ex}
theorem SW(h:OkT ts){pkg:BA}:∀(n:Nat) (l:List BA) (i:Nat) (a:Nat×List BA),i<ts.length->l.length<=8->qL ts pkg n l i= .inr a->i<=a.1/\a.1<ts.length/\a.2.length<=8
 |0,_,_,_,_,_,b=>by cases b
 |n+1,l,i,a,hi,p,b=>by
  unfold qL at b
  split at b
  .rename_i k
   have g:=pS h hi ac k
   split at b
   .cases b
   rename_i k2
   obtain⟨x,q,c⟩:=bM b
   obtain⟨rfl,d,-⟩:=yY h g q
   split at c
   .cases c
   obtain⟨j,o,f⟩:=bM c
   obtain⟨rfl,e,-⟩:=pH h d o
   obtain⟨t,r,s⟩:=SW h n _ _ a e aj f
   exact⟨by omega,r,s⟩
  obtain rfl:=Sum.inr.inj b
  exact⟨jN _,hi,p⟩
end
theorem qKx{s:BA}:∀(l:List bD) (e:Int),0<=e->qBp s e l->∀i,i<l.length->((aA l i).1=5↔i+1=l.length)/\((aA l i).2.1.size:Int)<=s.size/\0<=(aA l i).2.2.2
 |[],_,_,_,i,hi=>by simp at hi
 |t::r,e,k,h,i,hi=>by
  obtain⟨d,f,b,g,c⟩:=h
  have a:0<=DB t:=by unfold DB;split<;>omega
  cases i with
  |zero=>
   refine⟨?_,?_,?_⟩
   .show t.1=5↔0+1=r.length+1
    rw[b,<-gI];omega
   .show((t.2.1.size:Nat):Int)<=s.size
    omega
   show 0<=t.2.2.2
   omega
  |succ i=>
   have:=qKx r _ a c i (by simpa using hi)
   have e:aA (t::r) (i+1)=aA r i:=by simp[aA]
   rw[e,jC]
   exact⟨⟨fun h=>by have:=this.1.1 h;omega,fun h=>this.1.2 aa⟩,this.2⟩
theorem MO{s:BA}(h:(mP s).2.2=0):OkT (mP s).1/\(mP s).1.length<=16385/\∀j,(aA (mP s).1 j).2.1.size<100000:=by
 unfold mP at h ⊢
 split at h
 .simp at h
 rename_i hs
 rw[if_neg hs]
 cases hG:oM (s.data.toList.length+1) s 0 with
 |inl x=>
  obtain⟨_,_,a⟩:=TY _ 0 x aa aa hG
  rw[hG] at h
  exact absurd h a
 |inr r=>
  obtain⟨c,d,g⟩:=XE _ 0 0 r aa aa aa hG
  simp only[FN,jP]
  have b:=qKx r 0 aa c
  refine⟨⟨d,fun i hi=>(b i hi).1⟩,by omega,fun j=> ?_⟩
  rcases dU j r.length with a|a
  .have:=(b j a).2.1
   have f:=mZ s
   omega
  have e:aA r j=(5,⟨#[]⟩,0,0):=by simp[aA,jS,List.getElem?_eq_none a]
  rw[e];decide
abbrev RT:=List bD×Int×Int×Int×List BA×List Ex×List Int
def gR(ts:List bD)(pr:List BA)(p:Ps):RT:=(ts,(p.1:Int),0,0,pr,p.2,[])
def bR(ts:List bD)(z:cD)(i:Nat)(pr:List BA)(b:List Ex):RT:=(ts,(i:Int),z.1,z.2,pr,b,[])
section
variable {N:Nat} {ts:List bD} {pr:List BA} {b:List Ex} {i:Nat} {z:cD}
theorem qQt{st:Int×Int×List BA×List Ex×List Int}(hi:i<ts.length):lS N (ts,(i:Int),st.1,st.2.1,st.2.2.1,st.2.2.2.1,st.2.2.2.2)=some ((ts,(i:Int),st.1,st.2.1,st.2.2.1,st.2.2.2.1,st.2.2.2.2),aA ts i):=by
 simp only[lS,zHa hi,j0]
theorem nU(p:Ps)(hi:p.1<ts.length):lS N (gR ts pr p)=some (gR ts pr p,aA ts p.1):=qQt (st:=(0,0,pr,p.2,[])) hi
theorem uZ(hi:i<ts.length):lS N (bR ts z i pr b)=some (bR ts z i pr b,aA ts i):=qQt (st:=(z.1,z.2,pr,b,[])) hi
theorem tY(p:Ps)(hi:p.1<ts.length)(b:ts.length<1000000)(s:BA):rS N (gR ts pr p) s=some (if bX ts 1 s p.1 then(gR ts pr (p.1+1,p.2),true) else(gR ts pr p,false)):=by
 have a:lS N (ts,(p.1:Int),0,0,pr,p.2,[])=some ((ts,(p.1:Int),0,0,pr,p.2,[]),aA ts p.1):=nU p hi
 simp only[rS,gR,a,j0,oZ,bX,fF,jI]
 by_cases h1:(aA ts p.1).1=1<;>by_cases h2:(aA ts p.1).2.1=s<;>simp[h1,h2,zH (show p.1<1000000 by omega)]
theorem qAm(a:z.2≠0)(s:BA):rS N (bR ts z i pr b) s=some (bR ts z i pr b,false):=by
 simp[rS,bR,a]
theorem rW(p:Ps)(hi:p.1<ts.length)(b:ts.length<1000000)(s:BA):rR N (gR ts pr p) s=some (if bX ts 4 s p.1 then(gR ts pr (p.1+1,p.2),true) else(gR ts pr p,false)):=by
 have a:lS N (ts,(p.1:Int),0,0,pr,p.2,[])=some ((ts,(p.1:Int),0,0,pr,p.2,[]),aA ts p.1):=nU p hi
 simp only[rR,gR,a,j0,oZ,bX,fF,jI]
 by_cases h1:(aA ts p.1).1=4<;>by_cases h2:(aA ts p.1).2.1=s<;>simp[h1,h2,zH (show p.1<1000000 by omega)]
theorem UK(a:z.2≠0)(s:BA):rR N (bR ts z i pr b) s=some (bR ts z i pr b,false):=by
 simp[rR,bR,a]
theorem qY(p:Ps)(a e:Int):mB N (gR ts pr p) a e=some (bR ts (a,e) p.1 pr p.2):=by
 simp[mB,gR,bR]
theorem vZ(c:z.2≠0)(a e:Int):mB N (bR ts z i pr b) a e=some (bR ts z i pr b):=by
 simp[mB,bR,c]
theorem wA(p:Ps)(hi:p.1<ts.length)(d:ts.length<1000000)(s:BA):lN N (gR ts pr p) s=some (match iD ts s p.1 with| .inl z=>bR ts z p.1 pr p.2| .inr j=>gR ts pr (j,p.2)):=by
 have a:=rW (N:=N) (pr:=pr) p hi d s
 have b:=nU (N:=N) (pr:=pr) p hi
 have c:=qY (N:=N) (ts:=ts) (pr:=pr) p (aA ts p.1).2.2.2 9
 simp only[gR] at a b c
 simp only[lN,gR,a,j0,iD]
 rcases iO (bX ts 4 s p.1) with h|h
 .simp only[h,jI,kY,jA,jG]
 simp only[h,jI,gB,jA,jG,b,j0,c,iM]
theorem uW(e:z.2≠0)(hi:i<ts.length)(s:BA):lN N (bR ts z i pr b) s=some (bR ts z i pr b):=by
 have a:=UK (N:=N) (ts:=ts) (i:=i) (pr:=pr) (b:=b) e s
 have c:=uZ (N:=N) (ts:=ts) (i:=i) (pr:=pr) (b:=b) (z:=z) hi
 have d:=vZ (N:=N) (ts:=ts) (i:=i) (pr:=pr) (b:=b) e (aA ts i).2.2.2 9
 simp only[bR] at a c d
 simp only[lN,bR,a,j0,gB,jI,c,d]
theorem qIu{s:BA}:∀(d k M:Nat),k+d=wordsR.length->d<M->aB (GL N s) M (k:Int)=some (if s∈wordsR.drop k then .inr true else .inl ())
 |d,k,0,_,h=>by omega
 |0,k,M+1,h,_=>by
  have:wordsR.drop k=[]:=jU aa
  simp only[aB,GL,this]
  rw[if_neg (by simp only[j7];have:wordsR.length=13:=rfl;simp only[jC,jD];omega)]
  rfl
 |d+1,k,M+1,h,g=>by
  have a:k<wordsR.length:=by omega
  have c:=qIu (s:=s) d (k+1) M aa aa
  simp only[aB]
  have e:GL N s (k:Int)=some (if s=wordsR[k] then .inr (.inr true) else .inl (((k+1:Nat):Int))):=by
   have f:wordsR.length=13:=rfl
   have b:aO ([(⟨#[112,97,99,107,97,103,101]⟩:BA),(⟨#[105,109,112,111,114,116]⟩:BA),(⟨#[102,117,110,99]⟩:BA),(⟨#[116,101,115,116]⟩:BA),(⟨#[103,101,110]⟩:BA),(⟨#[105,102]⟩:BA),(⟨#[116,104,101,110]⟩:BA),(⟨#[101,108,115,101]⟩:BA),(⟨#[114,101,97,100]⟩:BA),(⟨#[115,105,122,101]⟩:BA),(⟨#[104,97,115]⟩:BA),(⟨#[101,110,118]⟩:BA),(⟨#[102,108,105,112]⟩:BA)]) (k:Int)=some wordsR[k]:=cQ (l:=wordsR) a
   simp only[GL]
   rw[if_pos (by simp only[j7,jC,jD];omega),b]
   simp only[j0,oZ,j7,zH (show k<1000000 by omega)]
   split<;>rfl
  rw[e,kA a]
  simp only[j0,jJ]
  by_cases hs:s=wordsR[k]
  .rw[if_pos hs,if_pos (.inl hs)]
  rw[if_neg hs]
  simp only[c]
  by_cases h2:s∈wordsR.drop (k+1)
  .rw[if_pos h2,if_pos (.inr h2)]
  rw[if_neg h2,if_neg (fun h=>h.elim hs h2)]
theorem qQh(a:100<N)(s:BA):KU N s=some (uM s):=by
 have h:=qIu (N:=N) (s:=s) 13 0 N rfl aa
 simp only[kC] at h
 simp only[KU]
 rw[show(0:Int)=((0:Nat):Int) from rfl,h]
 simp only[uM,j0]
 by_cases h2:s∈wordsR
 .rw[if_pos h2,jR h2]
 rw[if_neg h2,jX h2]
theorem IL(p:Ps)(hi:p.1<ts.length)(f:ts.length<1000000)(e:100<N):qA N (gR ts pr p)=some (match pC ts p.1 with| .inl z=>(bR ts z p.1 pr p.2,⟨#[]⟩)| .inr a=>(gR ts pr (a.1,p.2),a.2.2.1)):=by
 have d:=nU (N:=N) (pr:=pr) p hi
 have b:=qY (N:=N) (ts:=ts) (pr:=pr) p (aA ts p.1).2.2.2 9
 simp only[gR] at d b
 simp only[qA,gR,d,j0,qQh e,pC,oC,fB,jA,jG]
 by_cases k1:(aA ts p.1).1=1
 .have k1':((aA ts p.1).1 !=1)=false:=by simp[k1]
  simp only[k1',jA,jG,j0,if_pos k1,aQ]
  rcases iO (uM (aA ts p.1).2.1) with c|c
  .simp only[c,jI,b,j0,iM]
  simp only[c,jA,jG,zH (show p.1<1000000 by omega)]
 have k1':((aA ts p.1).1 !=1)=true:=by simp[k1]
 simp only[k1',jI,j0,if_neg k1,aQ,b,iM]
theorem UN(d:z.2≠0)(hi:i<ts.length):qA N (bR ts z i pr b)=some (bR ts z i pr b,⟨#[]⟩):=by
 have a:=uZ (N:=N) (ts:=ts) (i:=i) (pr:=pr) (b:=b) (z:=z) hi
 have c:=vZ (N:=N) (ts:=ts) (i:=i) (pr:=pr) (b:=b) d (aA ts i).2.2.2 9
 have hz':(z.2 !=0)=true:=by simpa using d
 simp only[bR] at a c
 simp only[qA,bR,a,j0,hz',jI,c]
theorem YC(p:Ps)(hi:p.1<ts.length)(d:ts.length<1000000):AA N (gR ts pr p)=some (match oC ts 2 p.1 with| .inl z=>(bR ts z p.1 pr p.2,0)| .inr a=>(gR ts pr (a.1,p.2),a.2.2.2.1)):=by
 have b:=nU (N:=N) (pr:=pr) p hi
 have c:=qY (N:=N) (ts:=ts) (pr:=pr) p (aA ts p.1).2.2.2 9
 simp only[gR] at b c
 simp only[AA,gR,b,j0,oC,fB,jA,jG]
 by_cases k1:(aA ts p.1).1=2
 .have k1':((aA ts p.1).1 !=2)=false:=by simp[k1]
  simp only[k1',jA,jG,if_pos k1,zH (show p.1<1000000 by omega)]
 have k1':((aA ts p.1).1 !=2)=true:=by simp[k1]
 simp only[k1',jI,if_neg k1,c,j0,iM]
theorem qZr(d:z.2≠0)(hi:i<ts.length):AA N (bR ts z i pr b)=some (bR ts z i pr b,0):=by
 have a:=uZ (N:=N) (ts:=ts) (i:=i) (pr:=pr) (b:=b) (z:=z) hi
 have c:=vZ (N:=N) (ts:=ts) (i:=i) (pr:=pr) (b:=b) d (aA ts i).2.2.2 9
 have hz':(z.2 !=0)=true:=by simpa using d
 simp only[bR] at a c
 simp only[AA,bR,a,j0,hz',jI,c]
theorem qNs(t:bD)(x:Ex)(p:Ps)(c:p.2.length<=256):∃v,mO N (gR ts pr p) x t.2.2.2=some (match mL t x p with| .inl z=>(bR ts z p.1 pr p.2,v)| .inr q=>(gR ts pr q.1,(q.2:Int))):=by
 refine⟨IntKind.wrap .i64 ((p.2.length:Int)-1),?_⟩
 have a:=qY (N:=N) (ts:=ts) (pr:=pr) p t.2.2.2 2
 simp only[gR] at a
 simp only[mO,gR,fF,jI,j0,mL]
 by_cases k1:p.2.length=256
 .have k1':((p.2.length:Int)==256)=true:=by simp;omega
  simp only[k1',jI,a,j0,bR]
  simp[k1,iM]
 have k1':((p.2.length:Int)==256)=false:=by simp;omega
 have b:IntKind.wrap .i64 (((p.2.length+1:Nat):Int)-1)=(p.2.length:Int):=by rw[bB aa aa];omega
 simp only[k1',jA,jG,j0,if_neg k1,fF,jI]
 rw[mC ag aa]
 simp only[j0,jB,jC,jD,kT,b]
theorem qMt(c:z.2≠0)(x:Ex)(a:Int):∃v,mO N (bR ts z i pr b) x a=some (bR ts z i pr b,v):=by
 refine⟨IntKind.wrap .i64 ((b.length:Int)-1),?_⟩
 have hz':(z.2==0)=false:=by simpa using c
 simp only[mO,bR,hz',jA,jG,j0]
end
section
variable {N:Nat} {ts:List bD} {pr:List BA} {b:List Ex} {i:Nat} {z:cD}
theorem qAh(p:Ps)(hi:p.1<ts.length)(f:ts.length<1000000)(e:100<N)(pth:Bool):tS N (gR ts pr p) pth=some (match(if pth then qQ ts p.1 else wX ts p.1) with| .inl z=>(bR ts z p.1 pr p.2,⟨#[]⟩)| .inr a=>(gR ts pr (a.1,p.2),a.2.2.1)):=by
 have d:=nU (N:=N) (pr:=pr) p hi
 have c:=qY (N:=N) (ts:=ts) (pr:=pr) p (aA ts p.1).2.2.2 9
 simp only[gR] at d c
 simp only[tS,gR,d,j0,HQ e,HP e,qQ,wX,oC,fB,jA,jG]
 by_cases k1:(aA ts p.1).1=3
 .have k1':((aA ts p.1).1 !=3)=false:=by simp[k1]
  simp only[k1',jA,jG,j0,if_pos k1,aQ]
  cases pth with
  |true=>
   simp only[jI,kY,jA,jG]
   rcases iO (iF (aA ts p.1).2.1.data.toList) with b|b
   .simp only[b,kY,jA,jG,j0,jI,zH (show p.1<1000000 by omega)]
   simp only[b,gB,jA,jG,j0,jI,c,iM]
  |false=>
   simp only[jI,gB,jA,jG]
   rcases iO (iR (aA ts p.1).2.1) with b|b
   .simp only[b,kY,jA,jG,j0,jI,zH (show p.1<1000000 by omega)]
   simp only[b,gB,jA,jG,j0,jI,c,iM]
 have k1':((aA ts p.1).1 !=3)=true:=by simp[k1]
 simp only[k1',jI,j0,if_neg k1,aQ,c,iM]
 cases pth<;>rfl
theorem qAb(d:z.2≠0)(hi:i<ts.length)(pth:Bool):tS N (bR ts z i pr b) pth=some (bR ts z i pr b,⟨#[]⟩):=by
 have a:=uZ (N:=N) (ts:=ts) (i:=i) (pr:=pr) (b:=b) (z:=z) hi
 have c:=vZ (N:=N) (ts:=ts) (i:=i) (pr:=pr) (b:=b) d (aA ts i).2.2.2 9
 have hz':(z.2 !=0)=true:=by simpa using d
 simp only[bR] at a c
 simp only[tS,bR,a,j0,hz',jI,c]
theorem qMs{i:Nat}(h:i<2000000):IntKind.wrap .i64 ((i:Int)+1)=((i+1:Nat):Int):=by rw[bB aa aa];omega
theorem qHs{s:BA}{l:List BA}(a:l.length<2000000):∀(d i M:Nat),i+d=l.length->d<M->
  aB (LO N l s) M (i:Int)=some (if s∈l.drop i then .inr true else .inl ())
 |d,i,0,_,h=>by omega
 |0,i,M+1,h,_=>by
  have:l.drop i=[]:=jU aa
  simp only[aB,LO,this]
  rw[if_neg ad]
  rfl
 |d+1,i,M+1,h,c=>by
  have hi:i<l.length:=by omega
  have b:=qHs (s:=s) a d (i+1) M aa aa
  simp only[aB,LO]
  rw[if_pos ad,cQ hi,kA hi]
  simp only[j0,oZ,j7,jJ]
  by_cases hs:l[i]=s
  .rw[if_pos hs,if_pos (.inl hs.symm)];rfl
  rw[if_neg hs]
  simp only[j0,qMs (show i<2000000 by omega),b]
  by_cases h2:s∈l.drop (i+1)
  .rw[if_pos h2,if_pos (.inr h2)]
  rw[if_neg h2,if_neg (fun h=>h.elim (fun e=>hs e.symm) h2)]
theorem OZ{s:BA}{l:List BA}(b:l.length<2000000)(a:l.length<N):tU N l s=some (decide (s∈l)):=by
 have h:=qHs (N:=N) (s:=s) b l.length 0 N aa a
 simp only[kC] at h
 simp only[tU]
 rw[show(0:Int)=((0:Nat):Int) from rfl,h]
 simp only[j0]
 by_cases h2:s∈l
 .rw[if_pos h2,jR h2]
 rw[if_neg h2,jX h2]
theorem andS(a b:Bool):(if a then some b else some false)=some (a&&b):=by cases a<;>rfl
theorem qFp{s:BA}{k:Int}{f:Sr}(b:f.2.2.length<2000000):∀(d i M:Nat),i+d=f.2.2.length->d<M->
  aB (KW N f k s) M (i:Int)=some (if(f.2.2.drop i).any (fun d=>d.1==k&&decide (d.2.1=s))then .inr true else .inl ())
 |d,i,0,_,h=>by omega
 |0,i,M+1,h,_=>by
  have:f.2.2.drop i=[]:=jU aa
  simp only[aB,KW,this]
  rw[if_neg ad]
  rfl
 |d+1,i,M+1,h,e=>by
  have hi:i<f.2.2.length:=by omega
  have c:=qFp (s:=s) (k:=k) b d (i+1) M aa aa
  simp only[aB,KW]
  rw[if_pos ad,cQ hi,kA hi,dI]
  simp only[j0,oZ,qMs (show i<2000000 by omega),andS]
  rcases iO (f.2.2[i].1==k&&decide (f.2.2[i].2.1=s)) with a|a
  .simp only[a,jI,j0,Bool.true_or]
  simp only[a,jA,jG,j0,c,gX]
theorem qOn{s:BA}{k:Int}{f:Sr}(c:f.2.2.length<2000000)(b:f.2.2.length<N):BZ N f k s=some (f.2.2.any fun d=>d.1==k&&decide (d.2.1=s)):=by
 have h:=qFp (N:=N) (s:=s) (k:=k) c f.2.2.length 0 N aa b
 simp only[kC] at h
 simp only[BZ]
 rw[show(0:Int)=((0:Nat):Int) from rfl,h]
 simp only[j0]
 rcases iO (f.2.2.any fun d=>d.1==k&&decide (d.2.1=s)) with a|a
 .rw[if_pos a,a]
 rw[if_neg (by rw[a];decide),a]
theorem op_3:mY ts 3 i=if bX ts 4 ⟨#[42]⟩ i then 3 else if bX ts 4 ⟨#[47]⟩ i then 4 else if bX ts 4 ⟨#[37]⟩ i then 5 else 0:=by
 unfold mY opsC
 simp only[List.find?,yF,xF]
 rcases iO (bX ts 4 ⟨#[42]⟩ i) with a|a<;>rcases iO (bX ts 4 ⟨#[47]⟩ i) with b|b<;>rcases iO (bX ts 4 ⟨#[37]⟩ i) with c|c<;>simp[a,b,c]
theorem op_2:mY ts 2 i=if bX ts 4 ⟨#[43]⟩ i then 1 else if bX ts 4 ⟨#[45]⟩ i then 2 else 0:=by
 unfold mY opsC
 simp only[List.find?,yF,xF]
 rcases iO (bX ts 4 ⟨#[43]⟩ i) with a|a<;>rcases iO (bX ts 4 ⟨#[45]⟩ i) with b|b<;>simp[a,b]
theorem op_1:mY ts 1 i=if bX ts 4 ⟨#[60]⟩ i then 6 else if bX ts 4 ⟨#[61,61]⟩ i then 7 else 0:=by
 unfold mY opsC
 simp only[List.find?,yF,xF]
 rcases iO (bX ts 4 ⟨#[60]⟩ i) with a|a<;>rcases iO (bX ts 4 ⟨#[61,61]⟩ i) with b|b<;>simp[a,b]
theorem IQ{α:Type}{t:bD}{e:Int}(a:e≠0)(h:(iM t e:cD⊕α)= .inl z):z.2≠0:=by
 obtain rfl:=Sum.inl.inj h;exact a
theorem tW{s:BA}(h:iD ts s i= .inl z):z.2≠0:=by
 unfold iD at h;split at h
 .cases h
 exact IQ ac h
theorem NQ{k:Int}(h:oC ts k i= .inl z):z.2≠0:=by
 unfold oC at h;split at h
 .cases h
 exact IQ ac h
theorem qAp{α β:Type}{x:cD⊕α}{f:α->cD⊕β}(h:aQ x f= .inl z):x= .inl z\/∃a,x= .inr a/\f a= .inl z:=by
 cases x with
 |inl y=>obtain rfl:=Sum.inl.inj h;exact .inl rfl
 |inr a=>exact .inr ⟨a,rfl,h⟩
theorem UG(h:pC ts i= .inl z):z.2≠0:=by
 rcases qAp h with h|⟨a,_,h⟩
 .exact NQ h
 split at h
 .exact IQ ac h
 cases h
theorem UH(h:qQ ts i= .inl z):z.2≠0:=by
 rcases qAp h with h|⟨a,_,h⟩
 .exact NQ h
 split at h
 .cases h
 exact IQ ac h
theorem zAb(h:wX ts i= .inl z):z.2≠0:=by
 rcases qAp h with h|⟨a,_,h⟩
 .exact NQ h
 split at h
 .cases h
 exact IQ ac h
theorem qAg{t:bD}{x:Ex}{p:Ps}(h:mL t x p= .inl z):z.2≠0:=by
 unfold mL at h;split at h
 .exact IQ ac h
 cases h
end
def xL(ts:List bD)(z:cD)(st:RT):Prop:=z.2≠0/\∃(i:Nat) (pr:List BA) (b:List Ex),i<ts.length/\st=bR ts z i pr b
def mA(ts:List bD)(pr:List BA)(r:PM Nat)(o:RT×Int):Prop:=
 match r with
 | .inl z=>xL ts z o.1
 | .inr q=>o=(gR ts pr q.1,(q.2:Int))
section
variable {N:Nat} {ts:List bD} {pr:List BA} {E S:Ps->PM Nat} {d:Int}
variable {r1 r2 r3 r4:RT->Int->Option (RT×Int)}
theorem vY{z:cD}{i:Nat}{pr':List BA}{b:List Ex}{v:Int}(a:z.2≠0)(hi:i<ts.length):mA ts pr (.inl z) (bR ts z i pr' b,v):=⟨a,i,pr',b,hi,rfl⟩
theorem ET(t:bD)(x:Ex)(p:Ps)(c:p.1<ts.length)(b:p.2.length<=256):∃o,mO N (gR ts pr p) x t.2.2.2=some o/\mA ts pr (mL t x p) o:=by
 obtain⟨v,h⟩:=qNs (N:=N) (ts:=ts) (pr:=pr) t x p b
 cases a:mL t x p with
 |inl z=>rw[a] at h;exact⟨_,h,vY (qAg a) c⟩
 |inr q=>rw[a] at h;exact⟨_,h,rfl⟩
theorem IH{z:cD}{i:Nat}{pr':List BA}{b:List Ex}(c:z.2≠0)(hi:i<ts.length)(x:Ex)(a:Int):∃o,mO N (bR ts z i pr' b) x a=some o/\mA ts pr (.inl z) o:=by
 obtain⟨v,h⟩:=qMt (N:=N) (ts:=ts) (pr:=pr') (b:=b) (i:=i) c x a
 exact⟨_,h,vY c hi⟩
theorem YA(t:bD)(x:Ex)(p:Ps)(b:OkT ts)(d:ts.length<1000000)(a:p.1<ts.length)(c:p.2.length<=256):∃o,
  ((lN N (gR ts pr p) (⟨#[41]⟩:BA)).bind fun y=>mO N y x t.2.2.2)=some o/\mA ts pr (aQ (iD ts sClose p.1) fun i=>mL t x (i,p.2)) o:=by
 have e:=wA (N:=N) (pr:=pr) p a d ⟨#[41]⟩
 simp only[e,j0,sClose]
 cases h:iD ts ⟨#[41]⟩ p.1 with
 |inl z=>exact IH (tW h) a x _
 |inr j=>
  obtain⟨rfl,g,-⟩:=pH b a h
  exact ET t x (p.1+1,p.2) g c
theorem EL{z:cD}{i:Nat}{pr':List BA}{b:List Ex}(c:z.2≠0)(hi:i<ts.length)(x:Ex)(a:Int):∃o,
  ((lN N (bR ts z i pr' b) (⟨#[41]⟩:BA)).bind fun y=>mO N y x a)=some o/\mA ts pr (.inl z) o:=by
 simp only[uW c hi,j0]
 exact IH c hi x a
variable (hEg:∀p:Ps,p.1<ts.length->p.2.length<=256->∃o,r4 (gR ts pr p) (IntKind.wrap .i64 (d+1))=some o/\mA ts pr (E p) o)
variable (hEb:∀(z:cD) (i:Nat) (pr':List BA) (b:List Ex),z.2≠0->i<ts.length->∃v,r4 (bR ts z i pr' b) (IntKind.wrap .i64 (d+1))=some (bR ts z i pr' b,v))
def UU(ts:List bD)(E:Ps->PM Nat)(n:Nat)(l:List Int)(p:Ps):PM (List Int):=
 if bX ts 4 sComma p.1 then tZ ts E n l (p.1+1,p.2) else aQ (iD ts sClose p.1) fun i=> .inr ((i,p.2),l)
theorem TL(n:Nat)(l:List Int)(p:Ps):tZ ts E (n+1) l p=aQ (E p) fun q=>UU ts E n (l++[(q.2:Int)]) q.1:=rfl
def qQw(ts:List bD)(pr:List BA)(r:PM (List Int))(o:List Int×RT):Prop:=
 match r with
 | .inl z=>xL ts z o.2
 | .inr q=>o=(q.2,gR ts pr q.1)
theorem YQ{z:cD}{i:Nat}{pr':List BA}{b:List Ex}(a:z.2≠0)(M:Nat)(l:List Int):aB (BQ N r4 d) (M+1) (l,bR ts z i pr' b)=some (l,bR ts z i pr' b):=by
 have hz':(z.2==0)=false:=by simpa using a
 simp only[aB,BQ,bR,hz',jA,jG,j0]
include hEg hEb in
theorem qGk(k:OkT ts)(s:ts.length<1000000)(u:pZ ts E):∀(n M:Nat) (l:List Int) (p:Ps),l≠[]->p.1<ts.length->p.2.length<=256->l.length<=p.1->ts.length<p.1+n->ts.length+2<p.1+M->
  ∃o,aB (BQ N r4 d) M (l,gR ts pr p)=some o/\qQw ts pr (UU ts E n l p) o
 |0,M,l,p,_,c,_,_,h,_=>by omega
 |n+1,0,l,p,_,c,_,_,_,h=>by omega
 |n+1,M+1,l,p,A,c,x,R,Y,V=>by
  have K:=rW (N:=N) (pr:=pr) p c s ⟨#[41]⟩
  have t:decide ((l.length:Int)>0)=true:=by
   have:=fL.2 A
   exact jR aa
  have G:((gR ts pr p).2.2.2.1==0)=true:=rfl
  simp only[aB,BQ,Prod.eta,G,jI,K,j0]
  rcases iO (bX ts 4 ⟨#[41]⟩ p.1) with a|a
  .simp only[a,jI,kY,jA,jG]
   refine⟨_,rfl,?_⟩
   have e:bX ts 4 sComma p.1=false:=by
    simp only[bX,jK,j7] at a
    simp[bX,a.2,sComma]
   have r:iD ts sClose p.1= .inr (p.1+1):=by simp[iD,sClose,a]
   simp only[UU,e,jA,jG,r,aQ]
   rfl
  simp only[a,jA,jG,gB,jI,t,Prod.eta,wA p c s,j0]
  have y:bX ts 4 sComma p.1=bX ts 4 ⟨#[44]⟩ p.1:=rfl
  simp only[UU,y,iD]
  rcases iO (bX ts 4 ⟨#[44]⟩ p.1) with e|e
  .have g:=pS k c ac e
   simp only[e,jI]
   obtain⟨o,H,f⟩:=hEg (p.1+1,p.2) g x
   simp only[H,j0]
   cases hE:E (p.1+1,p.2) with
   |inl z=>
    rw[hE] at f
    obtain⟨D,i,pr',b,hi,B⟩:=f
    rw[mC ag aa]
    simp only[j0,B]
    cases M with
    |zero=>omega
    |succ M=>
     refine⟨_,YQ D M _,?_⟩
     rw[TL,hE]
     exact⟨D,i,pr',b,hi,rfl⟩
   |inr q=>
    rw[hE] at f
    obtain⟨⟨B,D,S,F⟩,U⟩:=u (p.1+1,p.2) q.1 q.2 g x hE
    simp only at B
    rw[mC ag aa]
    have hr':o=(gR ts pr q.1,(q.2:Int)):=f
    simp only[j0,hr']
    rw[TL,hE]
    exact qGk k s u n M (l++[(q.2:Int)]) q.1 ae D F aj aa aa
  simp only[e,jA,jG]
  have r:bX ts 4 sClose p.1=false:=a
  simp only[r,jA,jG,iM,aQ]
  obtain⟨v,f⟩:=hEb ((aA ts p.1).2.2.2,9) p.1 pr p.2 (show(9:Int)≠0 by decide) c
  simp only[f,j0]
  rw[mC ag aa]
  simp only[j0]
  cases M with
  |zero=>omega
  |succ M=>exact⟨_,YQ (z:=((aA ts p.1).2.2.2,9)) (show(9:Int)≠0 by decide) M _,show(9:Int)≠0 by decide,p.1,pr,p.2,c,rfl⟩
include hEg hEb in
theorem zIf(n:OkT ts)(k:ts.length<1000000)(A:1000002<N)(g:pZ ts E)(p:Ps)(f:p.1<ts.length)(h:p.2.length<=256):
  ∃o,aB (BQ N r4 d) N ([],gR ts pr p)=some o/\qQw ts pr (if bX ts 4 sClose p.1 then .inr ((p.1+1,p.2),[]) else tZ ts E (ts.length+1) [] p) o:=by
 obtain⟨M,rfl⟩:∃M,N=M+1:=⟨N-1,by omega⟩
 have u:=rW (N:=M+1) (pr:=pr) p f k ⟨#[41]⟩
 have s:((gR ts pr p).2.2.2.1==0)=true:=rfl
 have e:decide ((([]:List Int).length:Int)>0)=false:=rfl
 simp only[aB,BQ,Prod.eta,s,jI,u,j0,sClose]
 rcases iO (bX ts 4 ⟨#[41]⟩ p.1) with c|c
 .simp only[c,jI,kY,jA,jG]
  exact⟨_,rfl,rfl⟩
 simp only[c,jA,jG,gB,jI,e,Prod.eta,j0]
 obtain⟨o,t,a⟩:=hEg p f h
 simp only[t,j0]
 cases hE:E p with
 |inl z=>
  rw[hE] at a
  obtain⟨r,i,pr',b,hi,l⟩:=a
  rw[mC ae aa]
  simp only[j0,l]
  cases M with
  |zero=>omega
  |succ M=>
   refine⟨_,YQ r M _,?_⟩
   rw[TL,hE]
   exact⟨r,i,pr',b,hi,rfl⟩
 |inr q=>
  rw[hE] at a
  obtain⟨⟨v,l,x,r⟩,y⟩:=g p q.1 q.2 f h hE
  rw[mC ae aa]
  have hr':o=(gR ts pr q.1,(q.2:Int)):=a
  simp only[j0,hr']
  rw[TL,hE]
  exact qGk hEg hEb n k g ts.length M ([]++[(q.2:Int)]) q.1 ae l r aj aa aa
end
section
variable {N:Nat} {ts:List bD} {pr:List BA} {E S:Ps->PM Nat} {d:Int}
variable {r1 r2 r3 r4:RT->Int->Option (RT×Int)}
theorem qKq{y1:RT×bD}{y31:RT×BA}{p:Ps}(a:pr.length<1000):∀(k i M:Nat),i+k=pr.length->k<M->
  aB (BP N y1 y31 (gR ts pr p,false)) M (i:Int)=(match(pr.drop i).findIdx? (fun x=>decide (x=y31.2)) with
   |some j=>(mO N (gR ts pr p) (2,((i+j:Nat):Int),0,⟨#[]⟩,[]) y1.2.2.2.2).bind fun y=>some (.inr y)
   |none=>some (.inl ()))
 |k,i,0,_,h=>by omega
 |0,i,M+1,h,_=>by
  have:pr.drop i=[]:=jU aa
  have c:decide ((i:Int)<((gR ts pr p).2.2.2.2.1.length:Int))=false:=jX (by simp only[gR];omega)
  simp only[aB,BP,this,List.findIdx?_nil,c,jA,jG,j0]
 |k+1,i,M+1,h,e=>by
  have hi:i<pr.length:=by omega
  have d:=qKq (y1:=y1) (y31:=y31) (p:=p) a k (i+1) M aa aa
  have c:decide ((i:Int)<((gR ts pr p).2.2.2.2.1.length:Int))=true:=jR (by simp only[gR];omega)
  have x:aO (gR ts pr p).2.2.2.2.1 (i:Int)=some pr[i]:=cQ hi
  have b:((gR ts pr p).2.2.2.1==0)=true:=rfl
  rw[kA hi,List.findIdx?_cons]
  simp only[aB,BP,b,Prod.eta,c,x,jI,j0,oZ,j7]
  by_cases hs:pr[i]=y31.2
  .simp only[if_pos hs,jI,j0,gY]
   cases mO N (gR ts pr p) (2,(i:Int),0,⟨#[]⟩,[]) y1.2.2.2.2<;>rfl
  simp only[if_neg hs,j0,jA,jG,zH (show i<1000000 by omega),d]
  cases(pr.drop (i+1)).findIdx? (fun x=>decide (x=y31.2)) with
  |none=>rfl
  |some j=>simp only[gO];rw[show i+1+j=i+(j+1) by omega]
theorem ZB{y1:RT×bD}{y31:RT×BA}{z:cD}{j:Nat}{pr':List BA}{b:List Ex}(d:z.2≠0)(a:pr'.length<1000):∀(k i M:Nat),i+k=pr'.length->k<M->
  aB (BP N y1 y31 (bR ts z j pr' b,false)) M (i:Int)=some (.inl ())
 |k,i,0,_,h=>by omega
 |0,i,M+1,h,_=>by
  have c:decide ((i:Int)<((bR ts z j pr' b).2.2.2.2.1.length:Int))=false:=jX (by simp only[bR];omega)
  simp only[aB,BP,c,jA,jG,j0]
 |k+1,i,M+1,h,g=>by
  have hi:i<pr'.length:=by omega
  have f:=ZB (y1:=y1) (y31:=y31) (j:=j) (b:=b) d a k (i+1) M aa aa
  have c:decide ((i:Int)<((bR ts z j pr' b).2.2.2.2.1.length:Int))=true:=jR (by simp only[bR];omega)
  have x:aO (bR ts z j pr' b).2.2.2.2.1 (i:Int)=some pr'[i]:=cQ hi
  have e:((bR ts z j pr' b).2.2.2.1==0)=false:=by simpa[bR] using d
  simp only[aB,BP,e,Prod.eta,c,x,jI,j0,oZ,j7]
  have:((if pr'[i]=y31.2 then some false else some false):Option Bool)=some false:=by split<;>rfl
  simp only[this,j0,jA,jG,zH (show i<1000000 by omega),f]
variable (hEg:∀p:Ps,p.1<ts.length->p.2.length<=256->∃o,r4 (gR ts pr p) (IntKind.wrap .i64 (d+1))=some o/\mA ts pr (E p) o)
variable (hEb:∀(z:cD) (i:Nat) (pr':List BA) (b:List Ex),z.2≠0->i<ts.length->∃v,r4 (bR ts z i pr' b) (IntKind.wrap .i64 (d+1))=some (bR ts z i pr' b,v))
include hEg hEb in
theorem zDx(e:OkT ts)(k:ts.length<1000000)(H:100<N)(G:pZ ts E)(t:bD)(p:Ps)(f:p.1<ts.length)(A:p.2.length<=256):∃o,
  ((lN N (gR ts pr p) (⟨#[40]⟩:BA)).bind fun D=>(tS N D true).bind fun r=>(lN N r.1 (⟨#[44]⟩:BA)).bind fun F=>(r4 F (IntKind.wrap .i64 (d+1))).bind fun c=>(lN N c.1 (⟨#[41]⟩:BA)).bind fun g=>mO N g (6,0,0,r.2,[c.2]) t.2.2.2)=some o/\
  mA ts pr (aQ (iD ts sOpen p.1) fun i=>aQ (aQ (qQ ts i) fun a=>aQ (iD ts sComma a.1) fun i=>aQ (E (i,p.2)) fun q=>(.inr (q.1,((6,0,0,a.2.2.1,[(q.2:Int)]):Ex)):cD⊕(Ps×Ex))) fun q=>aQ (iD ts sClose q.1.1) fun i=>mL t q.2 (i,q.1.2)) o:=by
 have bad:∀{z:cD} {i:Nat} {pr':List BA} {b:List Ex} (x:BA),z.2≠0->i<ts.length->∃o,((r4 (bR ts z i pr' b) (IntKind.wrap .i64 (d+1))).bind fun c=>(lN N c.1 (⟨#[41]⟩:BA)).bind fun g=>mO N g (6,0,0,x,[c.2]) t.2.2.2)=some o/\mA ts pr (.inl z) o:=by
  intro z i pr' b x n hi
  obtain⟨v,h⟩:=hEb z i pr' b n hi
  simp only[h,j0]
  exact EL n hi _ _
 simp only[wA p f k,j0,sOpen]
 cases h1:iD ts ⟨#[40]⟩ p.1 with
 |inl z=>
  simp only[qAb (tW h1) f,uW (tW h1) f,j0]
  exact bad _ (tW h1) f
 |inr i=>
  obtain⟨rfl,h,-⟩:=pH e f h1
  simp only[qAh (p.1+1,p.2) h k H,j0,jI,aQ]
  cases h2:qQ ts (p.1+1) with
  |inl z=>
   simp only[uW (UH h2) h,j0]
   exact bad _ (UH h2) h
  |inr a=>
   obtain⟨rfl,s,-⟩:=CL e h h2
   simp only[wA (p.1+1+1,p.2) s k,j0,sComma]
   cases y:iD ts ⟨#[44]⟩ (p.1+1+1) with
   |inl z=>exact bad _ (tW y) s
   |inr j=>
    obtain⟨rfl,u,-⟩:=pH e s y
    obtain⟨o,K,l⟩:=hEg (p.1+1+1+1,p.2) u A
    simp only[K,j0]
    cases h4:E (p.1+1+1+1,p.2) with
    |inl z=>
     rw[h4] at l
     obtain⟨n,i,pr',b,hi,B⟩:=l
     simp only[B]
     exact EL n hi _ _
    |inr q=>
     rw[h4] at l
     obtain⟨⟨M,n,R,B⟩,S⟩:=G (p.1+1+1+1,p.2) q.1 q.2 u A h4
     have hr':o=(gR ts pr q.1,(q.2:Int)):=l
     simp only[hr']
     exact YA t _ q.1 e k n B
theorem qBj(c:OkT ts)(h:ts.length<1000000)(r:100<N)(k:Int)(pth:Bool)(t:bD)(p:Ps)(f:p.1<ts.length)(s:p.2.length<=256):∃o,
  ((lN N (gR ts pr p) (⟨#[40]⟩:BA)).bind fun l=>(tS N l pth).bind fun g=>(lN N g.1 (⟨#[41]⟩:BA)).bind fun n=>mO N n (k,0,0,g.2,[]) t.2.2.2)=some o/\
  mA ts pr (aQ (iD ts sOpen p.1) fun i=>aQ (aQ (if pth then qQ ts i else wX ts i) fun a=>(.inr ((a.1,p.2),((k,0,0,a.2.2.1,[]):Ex)):cD⊕(Ps×Ex))) fun q=>aQ (iD ts sClose q.1.1) fun i=>mL t q.2 (i,q.1.2)) o:=by
 simp only[wA p f h,j0,sOpen]
 cases h1:iD ts ⟨#[40]⟩ p.1 with
 |inl z=>
  simp only[qAb (tW h1) f,j0]
  exact EL (tW h1) f _ _
 |inr i=>
  obtain⟨rfl,d,-⟩:=pH c f h1
  simp only[qAh (p.1+1,p.2) d h r,j0,aQ]
  cases h2:(if pth then qQ ts (p.1+1) else wX ts (p.1+1)) with
  |inl z=>
   have b:z.2≠0:=by
    split at h2
    .exact UH h2
    exact zAb h2
   exact EL b d _ _
  |inr a=>
   have b:a=(p.1+1+1,aA ts (p.1+1))/\p.1+1+1<ts.length:=by
    split at h2
    .obtain⟨e,b,-⟩:=CL c d h2;exact⟨e,b⟩
    obtain⟨e,b,-⟩:=qJc c d h2;exact⟨e,b⟩
   obtain⟨rfl,b⟩:=b
   exact YA t _ (p.1+1+1,p.2) c h b s
theorem zEv(c:OkT ts)(h:ts.length<1000000)(t:bD)(p:Ps)(d:p.1<ts.length)(u:p.2.length<=256):∃o,
  ((lN N (gR ts pr p) (⟨#[40]⟩:BA)).bind fun n=>(lS N n).bind fun g=>(AA N g.1).bind fun b=>(if(decide (b.2>=64))then((mB N b.1 g.2.2.2.2 9).bind fun r=>some r) else(some b.1):Option RT).bind fun v=>(lN N v (⟨#[41]⟩:BA)).bind fun s=>mO N s (10,b.2,0,⟨#[]⟩,[]) t.2.2.2)=some o/\
  mA ts pr (aQ (iD ts sOpen p.1) fun i=>aQ (aQ (oC ts 2 i) fun a=>if a.2.2.2.1>=64 then iM a.2 9 else(.inr ((a.1,p.2),((10,a.2.2.2.1,0,⟨#[]⟩,[]):Ex)):cD⊕(Ps×Ex))) fun q=>aQ (iD ts sClose q.1.1) fun i=>mL t q.2 (i,q.1.2)) o:=by
 have f:¬decide ((0:Int)>=64)=true:=by decide
 simp only[wA p d h,j0,sOpen]
 cases h1:iD ts ⟨#[40]⟩ p.1 with
 |inl z=>
  simp only[uZ d,qZr (tW h1) d,j0,if_neg f]
  exact EL (tW h1) d _ _
 |inr i=>
  obtain⟨rfl,e,-⟩:=pH c d h1
  simp only[nU (p.1+1,p.2) e,YC (p.1+1,p.2) e h,j0,aQ]
  cases h2:oC ts 2 (p.1+1) with
  |inl z=>
   simp only[if_neg f,j0]
   exact EL (NQ h2) e _ _
  |inr a=>
   obtain⟨rfl,l,-⟩:=EU c ac e h2
   by_cases k:(aA ts (p.1+1)).2.2.1>=64
   .simp only[if_pos k,j7,jI,qY,j0]
    exact EL (show(9:Int)≠0 by decide) l _ _
   simp only[if_neg k,j7,j0]
   exact YA t _ (p.1+1+1,p.2) c h l u
end
section
variable {N:Nat} {ts:List bD} {pr:List BA} {E S:Ps->PM Nat} {d:Int}
variable {r1 r2 r3 r4:RT->Int->Option (RT×Int)}
theorem qKa{s:BA}{i:Nat}(h:(aA ts i).1=1):bX ts 1 s i=decide ((aA ts i).2.1=s):=by simp[bX,h]
theorem qOt{k:Int}{s:BA}{i:Nat}(h:(aA ts i).1≠k):bX ts k s i=false:=by simp[bX,h]
theorem sV{α:Type}(x:Option α):(x.bind fun y=>some y)=x:=by cases x<;>rfl
theorem qYy{z:cD}{i:Nat}{pr':List BA}{b:List Ex}(c:z.2≠0)(hi:i<ts.length):GH N r1 r2 r3 r4 (bR ts z i pr' b) d=some (bR ts z i pr' b,0):=by
 have a:((bR ts z i pr' b).2.2.2.1 !=0)=true:=by simpa[bR] using c
 simp only[GH,Prod.eta,uZ hi,j0,a,jI]
variable (hEg:∀p:Ps,p.1<ts.length->p.2.length<=256->∃o,r4 (gR ts pr p) (IntKind.wrap .i64 (d+1))=some o/\mA ts pr (E p) o)
variable (hEb:∀(z:cD) (i:Nat) (pr':List BA) (b:List Ex),z.2≠0->i<ts.length->∃v,r4 (bR ts z i pr' b) (IntKind.wrap .i64 (d+1))=some (bR ts z i pr' b,v))
include hEg hEb in
theorem zDa(e:OkT ts)(f:ts.length<1000000)(H:pr.length<1000)(hN:1000002<N)(M:pZ ts E)(p:Ps)(l:p.1<ts.length)(t:p.2.length<=256):
  ∃o,GH N r1 r2 r3 r4 (gR ts pr p) d=some o/\mA ts pr (nT ts pr E p) o:=by
 have Y:((gR ts pr p).2.2.2.1 !=0)=false:=rfl
 simp only[GH,Prod.eta,nU p l,j0,Y,jA,jG]
 unfold nT
 dsimp only
 by_cases k1:(aA ts p.1).1=2
 .have k1':((aA ts p.1).1==2)=true:=by simpa using k1
  have g:=e.next l (show(aA ts p.1).1≠5 by rw[k1];decide)
  rw[if_pos k1]
  simp only[k1',jI,YC p l f,oC,if_pos k1,j0]
  obtain⟨o,k,c⟩:=ET (N:=N) (pr:=pr) (aA ts p.1) (1,(aA ts p.1).2.2.1,0,⟨#[]⟩,[]) (p.1+1,p.2) g t
  simp only[k,j0]
  exact⟨_,rfl,c⟩
 have k1':((aA ts p.1).1==2)=false:=by simpa using k1
 rw[if_neg k1]
 simp only[k1',jA,jG,rW p l f,j0]
 rcases iO (bX ts 4 sMinus p.1) with B|B
 .have c1':bX ts 4 ⟨#[45]⟩ p.1=true:=B
  have g:=pS e l ac B
  simp only[B,c1',jI,YC (p.1+1,p.2) g f,j0]
  cases h:oC ts 2 (p.1+1) with
  |inl z=>
   obtain⟨o,k,c⟩:=IH (N:=N) (pr:=pr) (pr':=pr) (b:=p.2) (NQ h) g (1,IntKind.wrap .i64 (0-0),0,⟨#[]⟩,[]) (aA ts p.1).2.2.2
   simp only[k,j0]
   exact⟨_,rfl,c⟩
  |inr a=>
   obtain⟨rfl,F,-⟩:=EU e ac g h
   obtain⟨o,k,c⟩:=ET (N:=N) (pr:=pr) (aA ts p.1) (1,IntKind.wrap .i64 (0-(aA ts (p.1+1)).2.2.1),0,⟨#[]⟩,[]) (p.1+1+1,p.2) F t
   simp only[k,j0,aQ]
   exact⟨_,rfl,c⟩
 have c1':bX ts 4 ⟨#[45]⟩ p.1=false:=B
 simp only[B,c1',jA,jG,rW p l f,j0]
 rcases iO (bX ts 4 sOpen p.1) with D|D
 .have c2':bX ts 4 ⟨#[40]⟩ p.1=true:=D
  have g:=pS e l ac D
  obtain⟨o,k,c⟩:=hEg (p.1+1,p.2) g t
  simp only[D,c2',jI,k,j0]
  cases h:E (p.1+1,p.2) with
  |inl z=>
   rw[h] at c
   obtain⟨r,i,pr',b,hi,G⟩:=c
   simp only[G,uW r hi,j0,aQ]
   exact⟨_,rfl,vY r hi⟩
  |inr q=>
   rw[h] at c
   obtain⟨⟨U,K,V,S⟩,v⟩:=M (p.1+1,p.2) q.1 q.2 g t h
   have hr':o=(gR ts pr q.1,(q.2:Int)):=c
   simp only[hr',wA q.1 K f,j0,aQ,sClose]
   cases u:iD ts ⟨#[41]⟩ q.1.1 with
   |inl z=>exact⟨_,rfl,vY (tW u) K⟩
   |inr j=>exact⟨_,rfl,rfl⟩
 have c2':bX ts 4 ⟨#[40]⟩ p.1=false:=D
 simp only[D,c2',jA,jG,tY p l f,j0]
 by_cases k2:(aA ts p.1).1=1
 rotate_left
 .-- no name
  rw[if_pos k2]
  have n:∀s,bX ts 1 s p.1=false:=fun s=>qOt k2
  have v:pC ts p.1= .inl ((aA ts p.1).2.2.2,9):=by simp[pC,oC,k2,aQ,iM]
  simp only[n,jA,jG,tY p l f,j0,IL p l f (by omega:100<N),v]
  have r:(((aA ts p.1).2.2.2,(9:Int)):cD).2≠0:=show(9:Int)≠0 by decide
  have u:=ZB (N:=N) (ts:=ts) (y1:=(gR ts pr p,aA ts p.1)) (y31:=(bR ts ((aA ts p.1).2.2.2,9) p.1 pr p.2,(⟨#[]⟩:BA))) (j:=p.1) (pr':=pr) (b:=p.2) r H pr.length 0 N aa aa
  rw[show((0:Nat):Int)=0 from rfl] at u
  simp only[UK r,j0,gB,jI,u,vZ r]
  exact⟨_,rfl,vY r l⟩
 rw[if_neg (show ¬(aA ts p.1).1≠1 by simpa using k2)]
 have g:=e.next l (show(aA ts p.1).1≠5 by rw[k2];decide)
 have n:∀s,bX ts 1 s p.1=decide ((aA ts p.1).2.1=s):=fun s=>qKa k2
 simp only[n,tY p l f,j0]
 by_cases w1:(aA ts p.1).2.1=sRead
 .rw[if_pos (show(aA ts p.1).2.1∈[sRead,sSize,sHas,sEnv,sFlip] by rw[w1];simp)]
  have w1':decide ((aA ts p.1).2.1=(⟨#[114,101,97,100]⟩:BA))=true:=jR w1
  simp only[w1',jI]
  obtain⟨o,k,c⟩:=zDx (N:=N) hEg hEb e f aa M (aA ts p.1) (p.1+1,p.2) g t
  refine⟨o,Eq.trans ?_ k,?_⟩
  .simp only[sV]
  simp only[rV,if_pos w1]
  exact c
 have w1':decide ((aA ts p.1).2.1=(⟨#[114,101,97,100]⟩:BA))=false:=jX w1
 simp only[w1',jA,jG,tY p l f,j0,n]
 by_cases w2:(aA ts p.1).2.1=sSize
 .rw[if_pos (show(aA ts p.1).2.1∈[sRead,sSize,sHas,sEnv,sFlip] by rw[w2];simp)]
  have w2':decide ((aA ts p.1).2.1=(⟨#[115,105,122,101]⟩:BA))=true:=jR w2
  have wx:((aA ts p.1).2.1.toList==(⟨#[104,97,115]⟩:BA).toList)=false:=by rw[oZ,w2];decide
  have wy:((aA ts p.1).2.1.toList==(⟨#[101,110,118]⟩:BA).toList)=false:=by rw[oZ,w2];decide
  simp only[w2',jI,j0,wx,wy,jA,jG]
  obtain⟨o,k,c⟩:=qBj (N:=N) (pr:=pr) e f aa 7 true (aA ts p.1) (p.1+1,p.2) g t
  refine⟨o,Eq.trans ?_ k,?_⟩
  .simp only[sV];rfl
  simp only[rV,if_neg w1,if_pos w2]
  exact c
 have w2':decide ((aA ts p.1).2.1=(⟨#[115,105,122,101]⟩:BA))=false:=jX w2
 simp only[w2',jA,jG,tY p l f,j0,n]
 by_cases w3:(aA ts p.1).2.1=sHas
 .rw[if_pos (show(aA ts p.1).2.1∈[sRead,sSize,sHas,sEnv,sFlip] by rw[w3];simp)]
  have w3':decide ((aA ts p.1).2.1=(⟨#[104,97,115]⟩:BA))=true:=jR w3
  have wx:((aA ts p.1).2.1.toList==(⟨#[104,97,115]⟩:BA).toList)=true:=by rw[oZ,w3']
  simp only[w3',jI,j0,wx]
  obtain⟨o,k,c⟩:=qBj (N:=N) (pr:=pr) e f aa 8 true (aA ts p.1) (p.1+1,p.2) g t
  refine⟨o,Eq.trans ?_ k,?_⟩
  .simp only[sV];rfl
  simp only[rV,if_neg w1,if_neg w2,if_pos w3]
  exact c
 have w3':decide ((aA ts p.1).2.1=(⟨#[104,97,115]⟩:BA))=false:=jX w3
 simp only[w3',jA,jG,tY p l f,j0,n]
 by_cases w4:(aA ts p.1).2.1=sEnv
 .rw[if_pos (show(aA ts p.1).2.1∈[sRead,sSize,sHas,sEnv,sFlip] by rw[w4];simp)]
  have w4':decide ((aA ts p.1).2.1=(⟨#[101,110,118]⟩:BA))=true:=jR w4
  have wx:((aA ts p.1).2.1.toList==(⟨#[104,97,115]⟩:BA).toList)=false:=by rw[oZ,w4];decide
  have wy:((aA ts p.1).2.1.toList==(⟨#[101,110,118]⟩:BA).toList)=true:=by rw[oZ,w4']
  simp only[w4',jI,j0,wx,wy,jA,jG]
  obtain⟨o,k,c⟩:=qBj (N:=N) (pr:=pr) e f aa 9 false (aA ts p.1) (p.1+1,p.2) g t
  refine⟨o,Eq.trans ?_ k,?_⟩
  .simp only[sV];rfl
  simp only[rV,if_neg w1,if_neg w2,if_neg w3,if_pos w4]
  exact c
 have w4':decide ((aA ts p.1).2.1=(⟨#[101,110,118]⟩:BA))=false:=jX w4
 simp only[w4',jA,jG,tY p l f,j0,n]
 by_cases w5:(aA ts p.1).2.1=sFlip
 .rw[if_pos (show(aA ts p.1).2.1∈[sRead,sSize,sHas,sEnv,sFlip] by rw[w5];simp)]
  have w5':decide ((aA ts p.1).2.1=(⟨#[102,108,105,112]⟩:BA))=true:=jR w5
  simp only[w5',jI]
  obtain⟨o,k,c⟩:=zEv (N:=N) (pr:=pr) e f (aA ts p.1) (p.1+1,p.2) g t
  refine⟨o,Eq.trans ?_ k,?_⟩
  .simp only[sV]
  simp only[rV,if_neg w1,if_neg w2,if_neg w3,if_neg w4]
  exact c
 have w5':decide ((aA ts p.1).2.1=(⟨#[102,108,105,112]⟩:BA))=false:=jX w5
 rw[if_neg (show ¬(aA ts p.1).2.1∈[sRead,sSize,sHas,sEnv,sFlip] by simp[w1,w2,w3,w4,w5])]
 simp only[w5',jA,jG,IL p l f (by omega:100<N),j0,pC,oC,if_pos k2,aQ]
 rcases iO (uM (aA ts p.1).2.1) with R|R
 .simp only[R,jI,iM]
  have r:(((aA ts p.1).2.2.2,(9:Int)):cD).2≠0:=show(9:Int)≠0 by decide
  have u:=ZB (N:=N) (ts:=ts) (y1:=(gR ts pr p,aA ts p.1)) (y31:=(bR ts ((aA ts p.1).2.2.2,9) p.1 pr p.2,(⟨#[]⟩:BA))) (j:=p.1) (pr':=pr) (b:=p.2) r H pr.length 0 N aa aa
  rw[show((0:Nat):Int)=0 from rfl] at u
  simp only[UK r,j0,gB,jI,u,vZ r]
  exact⟨_,rfl,vY r l⟩
 simp only[R,jA,jG,rW (p.1+1,p.2) g f,j0]
 rcases iO (bX ts 4 sOpen (p.1+1)) with A|A
 .have c4':bX ts 4 ⟨#[40]⟩ (p.1+1)=true:=A
  have F:=pS e g ac A
  simp only[A,c4',jI,kY,jA,jG]
  have Z:iD ts sOpen (p.1+1)= .inr (p.1+1+1):=by simp[iD,A]
  simp only[xS,Z,aQ]
  obtain⟨o,k,c⟩:=zIf (N:=N) hEg hEb e f aa M (p.1+1+1,p.2) F t
  simp only[k,j0]
  cases ha:(if bX ts 4 sClose (p.1+1+1)then .inr ((p.1+1+1+1,p.2),[]) else tZ ts E (ts.length+1) [] (p.1+1+1,p.2):PM (List Int)) with
  |inl z=>
   rw[ha] at c
   obtain⟨r,i,pr',b,hi,G⟩:=c
   simp only[G]
   obtain⟨o2,v,y⟩:=IH (N:=N) (pr:=pr) (pr':=pr') (b:=b) r hi (3,0,0,(aA ts p.1).2.1,o.1) (aA ts p.1).2.2.2
   simp only[v,j0]
   exact⟨_,rfl,y⟩
  |inr q=>
   rw[ha] at c
   have hr':o=(q.2,gR ts pr q.1):=c
   have r:q.1.1<ts.length/\q.1.2.length<=256:=by
    split at ha
    .rename_i hc
     obtain rfl:=Sum.inr.inj ha
     exact⟨pS e F ac hc,t⟩
    obtain⟨U,K,V,S⟩:=YM e M _ _ (p.1+1+1,p.2) q.1 q.2 F t ha
    exact⟨K,S⟩
   simp only[hr']
   obtain⟨o2,v,y⟩:=ET (N:=N) (pr:=pr) (aA ts p.1) (3,0,0,(aA ts p.1).2.1,q.2) q.1 r.1 r.2
   simp only[v,j0]
   exact⟨_,rfl,y⟩
 have c4':bX ts 4 ⟨#[40]⟩ (p.1+1)=false:=A
 simp only[A,c4',jA,jG,gB,jI]
 have u:=qKq (N:=N) (ts:=ts) (pr:=pr) (y1:=(gR ts pr p,aA ts p.1)) (y31:=(gR ts pr (p.1+1,p.2),(aA ts p.1).2.1)) (p:=(p.1+1,p.2)) H pr.length 0 N aa aa
 rw[show((0:Nat):Int)=0 from rfl] at u
 simp only[u,kC,kT]
 cases hi:pr.findIdx? (fun x=>decide (x=(aA ts p.1).2.1)) with
 |none=>
  simp only[j0,qY]
  exact⟨_,rfl,vY (show(9:Int)≠0 by decide) g⟩
 |some j=>
  obtain⟨o2,v,y⟩:=ET (N:=N) (pr:=pr) (aA ts p.1) (2,(j:Int),0,⟨#[]⟩,[]) (p.1+1,p.2) g t
  simp only[v,j0]
  exact⟨_,rfl,y⟩
end
section
variable {N:Nat} {ts:List bD} {pr:List BA} {E S:Ps->PM Nat} {d:Int}
variable {r r1 r2 r3 r4:RT->Int->Option (RT×Int)}
theorem qNn{L i:Nat}(h:mY ts L i≠0):(aA ts i).1=4:=by
 apply Decidable.byContradiction
 intro b
 apply h
 unfold mY
 have:opsC.find? (yF ts L i)=none:=by
  rw[List.find?_eq_none]
  intro o _ a
  simp only[yF,jK] at a
  exact b (ZT a.1)
 rw[this]
theorem qPq{f:Int×RT->Option ((Int×RT)⊕(Int×RT))}{L:Nat}(A:OkT ts)(H:pZ ts S)
  (t:∀p:Ps,p.1<ts.length->p.2.length<=256->∃o,r (gR ts pr p) d=some o/\mA ts pr (S p) o)
  (a0:∀(z:cD) (i:Nat) (pr':List BA) (b:List Ex),z.2≠0->i<ts.length->∃v,r (bR ts z i pr' b) d=some (bR ts z i pr' b,v))
  (y:∀(z:cD) (i:Nat) (pr':List BA) (b:List Ex) (v:Int),z.2≠0->f (v,bR ts z i pr' b)=some (.inr (v,bR ts z i pr' b)))
  {n M x:Nat} {p:Ps} (R:p.1<ts.length) (u:p.2.length<=256) (hM:0<M) (G:L≠1) (e:mY ts L p.1≠0)
  (U:∀(x:Nat) (q:Ps),q.1<ts.length->p.1<q.1->q.2.length<=256->x<q.2.length->∃o,aB f M ((x:Int),gR ts pr q)=some o/\mA ts pr (nR ts L S n x q) (o.2,o.1)):
  ∃o,((r (gR ts pr (p.1+1,p.2)) d).bind fun B=>(mO N B.1 (4,0,mY ts L p.1,⟨#[]⟩,[(x:Int),B.2]) (aA ts p.1).2.2.2).bind fun D=>aB f M (D.2,D.1))=some o/\mA ts pr (nR ts L S (n+1) x p) (o.2,o.1):=by
 have g:=A.next R (show(aA ts p.1).1≠5 by rw[qNn e];decide)
 obtain⟨o,K,c⟩:=t (p.1+1,p.2) g u
 obtain⟨M',rfl⟩:∃M',M=M'+1:=⟨M-1,by omega⟩
 have bad:∀(z:cD) (i:Nat) (pr':List BA) (b:List Ex) (v:Int),z.2≠0->aB f (M'+1) (v,bR ts z i pr' b)=some (v,bR ts z i pr' b):=by
  intro z i pr' b v a
  simp only[aB,y z i pr' b v a,j0]
 simp only[K,j0,nR]
 rw[if_neg e]
 cases h:S (p.1+1,p.2) with
 |inl z=>
  rw[h] at c
  obtain⟨a,i,pr',b,hi,l⟩:=c
  simp only[l,aQ]
  obtain⟨v,k⟩:=qMt (N:=N) (ts:=ts) (pr:=pr') (b:=b) (i:=i) a (4,0,mY ts L p.1,⟨#[]⟩,[(x:Int),o.2]) (aA ts p.1).2.2.2
  simp only[k,j0,bad _ _ _ _ _ a]
  exact⟨_,rfl,vY a hi⟩
 |inr q=>
  rw[h] at c
  obtain⟨⟨E,a,F,l⟩,f5⟩:=H (p.1+1,p.2) q.1 q.2 g u h
  have hr':o=(gR ts pr q.1,(q.2:Int)):=c
  simp only[hr',aQ]
  obtain⟨v,k⟩:=qNs (N:=N) (ts:=ts) (pr:=pr) (aA ts p.1) (4,0,mY ts L p.1,⟨#[]⟩,[(x:Int),(q.2:Int)]) q.1 l
  simp only[k,j0]
  cases hn:mL (aA ts p.1) (4,0,mY ts L p.1,⟨#[]⟩,[(x:Int),(q.2:Int)]) q.1 with
  |inl z=>
   simp only[bad _ _ _ _ _ (qAg hn)]
   exact⟨_,rfl,vY (qAg hn) a⟩
  |inr s=>
   obtain⟨⟨V,Y,k3,Z⟩,k5⟩:=CK (ts:=ts) (p:=p) (r:=q.1) (by simp only at E;omega) a F l hn
   simp only[if_neg G]
   exact U s.2 s.1 Y V Z k5
theorem qPp{L n x:Nat}{p:Ps}(a:mY ts L p.1=0):mA ts pr (nR ts L S (n+1) x p) (gR ts pr p,(x:Int)):=by
 simp only[nR]
 rw[if_pos a]
 rfl
theorem ZU(z:cD)(i:Nat)(pr':List BA)(b:List Ex)(v:Int)(c:z.2≠0):yP N r d (v,bR ts z i pr' b)=some (.inr (v,bR ts z i pr' b)):=by
 have a:((bR ts z i pr' b).2.2.2.1==0)=false:=by simpa[bR] using c
 simp only[yP,a,jA,jG,Prod.eta]
theorem qAo(z:cD)(i:Nat)(pr':List BA)(b:List Ex)(v:Int)(c:z.2≠0):zY N r d (v,bR ts z i pr' b)=some (.inr (v,bR ts z i pr' b)):=by
 have a:((bR ts z i pr' b).2.2.2.1==0)=false:=by simpa[bR] using c
 simp only[zY,a,jA,jG,Prod.eta]
theorem qHo(B:OkT ts)(k:ts.length<1000000)(D:pZ ts S)
  (A:∀p:Ps,p.1<ts.length->p.2.length<=256->∃o,r (gR ts pr p) d=some o/\mA ts pr (S p) o)
  (u:∀(z:cD) (i:Nat) (pr':List BA) (b:List Ex),z.2≠0->i<ts.length->∃v,r (bR ts z i pr' b) d=some (bR ts z i pr' b,v)):
  ∀(n M x:Nat) (p:Ps),p.1<ts.length->p.2.length<=256->x<p.2.length->ts.length<p.1+n->ts.length+1<p.1+M->
  ∃o,aB (yP N r d) M ((x:Int),gR ts pr p)=some o/\mA ts pr (nR ts 3 S n x p) (o.2,o.1)
 |0,M,x,p,c,_,_,h,_=>by omega
 |n+1,0,x,p,c,_,_,_,h=>by omega
 |n+1,M+1,x,p,c,H,Y,V,U=>by
  have t:((gR ts pr p).2.2.2.1==0)=true:=rfl
  have K:∀(x:Nat) (q:Ps),q.1<ts.length->p.1<q.1->q.2.length<=256->x<q.2.length->∃o,aB (yP N r d) M ((x:Int),gR ts pr q)=some o/\mA ts pr (nR ts 3 S n x q) (o.2,o.1):=
   fun x q F R a G=>qHo B k D A u n M x q F a G aa aa
  have go:=fun E=>qPq (N:=N) (n:=n) (x:=x) B D A u (ZU (N:=N) (r:=r) (d:=d)) c H (show 0<M by omega) (show 3≠1 by decide) E K
  have a:=op_3 (ts:=ts) (i:=p.1)
  rcases iO (bX ts 4 ⟨#[42]⟩ p.1) with e|e
  .simp only[e,jI] at a
   obtain⟨o,l,s⟩:=go (by rw[a];decide)
   refine⟨o,Eq.trans ?_ l,s⟩
   simp only[aB,yP,Prod.eta,t,jI,nU p c,rW p c k,j0,e,a]
   cases r (gR ts pr (p.1+1,p.2)) d with
   |none=>rfl
   |some y=>simp only[j0];cases mO N y.1 (4,0,3,⟨#[]⟩,[(x:Int),y.2]) (aA ts p.1).2.2.2<;>rfl
  rcases iO (bX ts 4 ⟨#[47]⟩ p.1) with f|f
  .simp only[e,f,jI,jA,jG] at a
   obtain⟨o,l,s⟩:=go (by rw[a];decide)
   refine⟨o,Eq.trans ?_ l,s⟩
   simp only[aB,yP,Prod.eta,t,jI,nU p c,rW p c k,j0,e,f,a,jA,jG]
   cases r (gR ts pr (p.1+1,p.2)) d with
   |none=>rfl
   |some y=>simp only[j0];cases mO N y.1 (4,0,4,⟨#[]⟩,[(x:Int),y.2]) (aA ts p.1).2.2.2<;>rfl
  rcases iO (bX ts 4 ⟨#[37]⟩ p.1) with g|g
  .simp only[e,f,g,jI,jA,jG] at a
   obtain⟨o,l,s⟩:=go (by rw[a];decide)
   refine⟨o,Eq.trans ?_ l,s⟩
   simp only[aB,yP,Prod.eta,t,jI,nU p c,rW p c k,j0,e,f,g,a,jA,jG]
   cases r (gR ts pr (p.1+1,p.2)) d with
   |none=>rfl
   |some y=>simp only[j0];cases mO N y.1 (4,0,5,⟨#[]⟩,[(x:Int),y.2]) (aA ts p.1).2.2.2<;>rfl
  simp only[e,f,g,jA,jG] at a
  simp only[aB,yP,Prod.eta,t,jI,nU p c,rW p c k,j0,e,f,g,jA,jG]
  exact⟨_,rfl,qPp a⟩
theorem qId(s:OkT ts)(g:ts.length<1000000)(B:pZ ts S)
  (l:∀p:Ps,p.1<ts.length->p.2.length<=256->∃o,r (gR ts pr p) d=some o/\mA ts pr (S p) o)
  (k:∀(z:cD) (i:Nat) (pr':List BA) (b:List Ex),z.2≠0->i<ts.length->∃v,r (bR ts z i pr' b) d=some (bR ts z i pr' b,v)):
  ∀(n M x:Nat) (p:Ps),p.1<ts.length->p.2.length<=256->x<p.2.length->ts.length<p.1+n->ts.length+1<p.1+M->
  ∃o,aB (zY N r d) M ((x:Int),gR ts pr p)=some o/\mA ts pr (nR ts 2 S n x p) (o.2,o.1)
 |0,M,x,p,c,_,_,h,_=>by omega
 |n+1,0,x,p,c,_,_,_,h=>by omega
 |n+1,M+1,x,p,c,G,V,U,R=>by
  have t:((gR ts pr p).2.2.2.1==0)=true:=rfl
  have H:∀(x:Nat) (q:Ps),q.1<ts.length->p.1<q.1->q.2.length<=256->x<q.2.length->∃o,aB (zY N r d) M ((x:Int),gR ts pr q)=some o/\mA ts pr (nR ts 2 S n x q) (o.2,o.1):=
   fun x q E K a F=>qId s g B l k n M x q E a F aa aa
  have go:=fun D=>qPq (N:=N) (n:=n) (x:=x) s B l k (qAo (N:=N) (r:=r) (d:=d)) c G (show 0<M by omega) (show 2≠1 by decide) D H
  have a:=op_2 (ts:=ts) (i:=p.1)
  rcases iO (bX ts 4 ⟨#[43]⟩ p.1) with e|e
  .simp only[e,jI] at a
   obtain⟨o,u,A⟩:=go (by rw[a];decide)
   refine⟨o,Eq.trans ?_ u,A⟩
   simp only[aB,zY,Prod.eta,t,jI,nU p c,rW p c g,j0,e,a]
   cases r (gR ts pr (p.1+1,p.2)) d with
   |none=>rfl
   |some y=>simp only[j0];cases mO N y.1 (4,0,1,⟨#[]⟩,[(x:Int),y.2]) (aA ts p.1).2.2.2<;>rfl
  rcases iO (bX ts 4 ⟨#[45]⟩ p.1) with f|f
  .simp only[e,f,jI,jA,jG] at a
   obtain⟨o,u,A⟩:=go (by rw[a];decide)
   refine⟨o,Eq.trans ?_ u,A⟩
   simp only[aB,zY,Prod.eta,t,jI,nU p c,rW p c g,j0,e,f,a,jA,jG]
   cases r (gR ts pr (p.1+1,p.2)) d with
   |none=>rfl
   |some y=>simp only[j0];cases mO N y.1 (4,0,2,⟨#[]⟩,[(x:Int),y.2]) (aA ts p.1).2.2.2<;>rfl
  simp only[e,f,jA,jG] at a
  simp only[aB,zY,Prod.eta,t,jI,nU p c,rW p c g,j0,e,f,jA,jG]
  exact⟨_,rfl,qPp a⟩
theorem zIp(k:OkT ts)(u:ts.length<1000000)(B:1000002<N)(e:pZ ts S)
  (c:∀p:Ps,p.1<ts.length->p.2.length<=256->∃o,r1 (gR ts pr p) d=some o/\mA ts pr (S p) o)
  (h1b:∀(z:cD) (i:Nat) (pr':List BA) (b:List Ex),z.2≠0->i<ts.length->∃v,r1 (bR ts z i pr' b) d=some (bR ts z i pr' b,v))
  (p:Ps) (l:p.1<ts.length) (f:p.2.length<=256):∃o,GJ N r1 r2 r3 r4 (gR ts pr p) d=some o/\mA ts pr (qO ts 3 S p) o:=by
 obtain⟨o,x,a⟩:=c p l f
 simp only[GJ,Prod.eta,x,j0,qO]
 cases h:S p with
 |inl z=>
  rw[h] at a
  obtain⟨n,i,pr',b,hi,g⟩:=a
  obtain⟨M,rfl⟩:∃M,N=M+1:=⟨N-1,by omega⟩
  simp only[g,aQ,aB,ZU z i pr' b _ n,j0]
  exact⟨_,rfl,vY n hi⟩
 |inr q=>
  rw[h] at a
  obtain⟨⟨y,r,A,s⟩,t⟩:=e p q.1 q.2 l f h
  have hr':o=(gR ts pr q.1,(q.2:Int)):=a
  obtain⟨o2,g,n⟩:=qHo (N:=N) k u e c h1b (ts.length+1) N q.2 q.1 r s t aa aa
  simp only[hr',aQ,g,j0]
  exact⟨_,rfl,n⟩
theorem zEt(h1b:∀(z:cD) (i:Nat) (pr':List BA) (b:List Ex),z.2≠0->i<ts.length->∃v,r1 (bR ts z i pr' b) d=some (bR ts z i pr' b,v))(e:0<N)
  (z:cD) (i:Nat) (pr':List BA) (b:List Ex) (a:z.2≠0) (hi:i<ts.length):∃v,GJ N r1 r2 r3 r4 (bR ts z i pr' b) d=some (bR ts z i pr' b,v):=by
 obtain⟨v,c⟩:=h1b z i pr' b a hi
 obtain⟨M,rfl⟩:∃M,N=M+1:=⟨N-1,by omega⟩
 simp only[GJ,Prod.eta,c,j0,aB,ZU z i pr' b _ a]
 exact⟨_,rfl⟩
theorem rsum(k:OkT ts)(u:ts.length<1000000)(B:1000002<N)(e:pZ ts S)
  (c:∀p:Ps,p.1<ts.length->p.2.length<=256->∃o,r2 (gR ts pr p) d=some o/\mA ts pr (S p) o)
  (h2b:∀(z:cD) (i:Nat) (pr':List BA) (b:List Ex),z.2≠0->i<ts.length->∃v,r2 (bR ts z i pr' b) d=some (bR ts z i pr' b,v))
  (p:Ps) (l:p.1<ts.length) (f:p.2.length<=256):∃o,GK N r1 r2 r3 r4 (gR ts pr p) d=some o/\mA ts pr (qO ts 2 S p) o:=by
 obtain⟨o,x,a⟩:=c p l f
 simp only[GK,Prod.eta,x,j0,qO]
 cases h:S p with
 |inl z=>
  rw[h] at a
  obtain⟨n,i,pr',b,hi,g⟩:=a
  obtain⟨M,rfl⟩:∃M,N=M+1:=⟨N-1,by omega⟩
  simp only[g,aQ,aB,qAo z i pr' b _ n,j0]
  exact⟨_,rfl,vY n hi⟩
 |inr q=>
  rw[h] at a
  obtain⟨⟨y,r,A,s⟩,t⟩:=e p q.1 q.2 l f h
  have hr':o=(gR ts pr q.1,(q.2:Int)):=a
  obtain⟨o2,g,n⟩:=qId (N:=N) k u e c h2b (ts.length+1) N q.2 q.1 r s t aa aa
  simp only[hr',aQ,g,j0]
  exact⟨_,rfl,n⟩
theorem zFr(h2b:∀(z:cD) (i:Nat) (pr':List BA) (b:List Ex),z.2≠0->i<ts.length->∃v,r2 (bR ts z i pr' b) d=some (bR ts z i pr' b,v))(e:0<N)
  (z:cD) (i:Nat) (pr':List BA) (b:List Ex) (a:z.2≠0) (hi:i<ts.length):∃v,GK N r1 r2 r3 r4 (bR ts z i pr' b) d=some (bR ts z i pr' b,v):=by
 obtain⟨v,c⟩:=h2b z i pr' b a hi
 obtain⟨M,rfl⟩:∃M,N=M+1:=⟨N-1,by omega⟩
 simp only[GK,Prod.eta,c,j0,aB,qAo z i pr' b _ a]
 exact⟨_,rfl⟩
theorem zCv(z:cD)(i:Nat)(pr':List BA)(b:List Ex)(a:z.2≠0)(hi:i<ts.length):BR N r1 r2 r3 r4 (bR ts z i pr' b) d=some (bR ts z i pr' b,0):=by
 have c:((bR ts z i pr' b).2.2.2.1 !=0)=true:=by simpa[bR] using a
 simp only[BR,Prod.eta,uZ hi,j0,vZ a]
 have:((if decide (d>32)then some (bR ts z i pr' b) else some (bR ts z i pr' b)):Option RT)=some (bR ts z i pr' b):=by split<;>rfl
 simp only[this,j0,c,jI]
theorem zEx(c:d>32)(p:Ps)(a:p.1<ts.length):∃o,BR N r1 r2 r3 r4 (gR ts pr p) d=some o/\mA ts pr (eP ts pr 0 p) o:=by
 have hd':decide (d>32)=true:=by simpa using c
 simp only[BR,Prod.eta,nU p a,j0,hd',jI,qY]
 have b:((bR ts ((aA ts p.1).2.2.2,2) p.1 pr p.2).2.2.2.1 !=0)=true:=by rfl
 simp only[b,jI]
 exact⟨_,rfl,vY (show(2:Int)≠0 by decide) a⟩
theorem zIb{k:Nat}(A:OkT ts)(F:ts.length<1000000)(hd:d+k=32)(S:pZ ts (eP ts pr k))(hS:pZ ts (BG ts pr (eP ts pr k)))
  (H:∀p:Ps,p.1<ts.length->p.2.length<=256->∃o,r4 (gR ts pr p) (IntKind.wrap .i64 (d+1))=some o/\mA ts pr (eP ts pr k p) o)
  (u:∀(z:cD) (i:Nat) (pr':List BA) (b:List Ex),z.2≠0->i<ts.length->∃v,r4 (bR ts z i pr' b) (IntKind.wrap .i64 (d+1))=some (bR ts z i pr' b,v))
  (Z:∀p:Ps,p.1<ts.length->p.2.length<=256->∃o,r3 (gR ts pr p) d=some o/\mA ts pr (BG ts pr (eP ts pr k) p) o)
  (h3b:∀(z:cD) (i:Nat) (pr':List BA) (b:List Ex),z.2≠0->i<ts.length->∃v,r3 (bR ts z i pr' b) d=some (bR ts z i pr' b,v))
  (p:Ps) (K:p.1<ts.length) (M:p.2.length<=256):∃o,BR N r1 r2 r3 r4 (gR ts pr p) d=some o/\mA ts pr (eP ts pr (k+1) p) o:=by
 have hd':decide (d>32)=false:=jX aa
 have g0:((gR ts pr p).2.2.2.1 !=0)=false:=rfl
 simp only[BR,Prod.eta,nU p K,j0,hd',jA,jG,g0,tY p K F,eP]
 rcases iO (bX ts 1 sU p.1) with s|s
 rotate_left
 .have c1':bX ts 1 ⟨#[105,102]⟩ p.1=false:=s
  simp only[s,c1',jA,jG]
  obtain⟨o,ho,G⟩:=Z p K M
  simp only[ho,j0,TN,qO]
  cases h:BG ts pr (eP ts pr k) p with
  |inl z=>
   rw[h] at G
   obtain⟨e,i,pr',b,hi,l⟩:=G
   simp only[l,uZ hi,UK e,j0,jA,jG,aQ]
   exact⟨_,rfl,vY e hi⟩
  |inr q=>
   rw[h] at G
   obtain⟨⟨f1,B,f3,V⟩,f5⟩:=hS p q.1 q.2 K M h
   have hr':o=(gR ts pr q.1,(q.2:Int)):=G
   simp only[hr',nU q.1 B,rW q.1 B F,j0,aQ,nR]
   have go:∀op,op≠0->mY ts 1 q.1.1=op->∃o,((r3 (gR ts pr (q.1.1+1,q.1.2)) d).bind fun R=>(mO N R.1 (4,0,op,⟨#[]⟩,[(q.2:Int),R.2]) (aA ts q.1.1).2.2.2).bind fun Y=>some Y)=some o/\
     mA ts pr (if mY ts 1 q.1.1=0 then .inr (q.1,q.2) else aQ (BG ts pr (eP ts pr k) (q.1.1+1,q.1.2)) fun a=>aQ (mL (aA ts q.1.1) (4,0,mY ts 1 q.1.1,⟨#[]⟩,[(q.2:Int),(a.2:Int)]) a.1) fun r=> .inr r) o:=by
    intro op n t
    have g:=A.next B (show(aA ts q.1.1).1≠5 by rw[qNn (L:=1) (by rw[t];exact n)];decide)
    obtain⟨o2,E,f⟩:=Z (q.1.1+1,q.1.2) g V
    rw[t,if_neg n]
    simp only[E,j0,sV]
    cases h2:BG ts pr (eP ts pr k) (q.1.1+1,q.1.2) with
    |inl z=>
     rw[h2] at f
     obtain⟨e,i,pr',b,hi,l⟩:=f
     simp only[l,aQ]
     exact IH e hi _ _
    |inr a=>
     rw[h2] at f
     obtain⟨⟨j1,j2,j3,j4⟩,j5⟩:=hS (q.1.1+1,q.1.2) a.1 a.2 g V h2
     have hr2':o2=(gR ts pr a.1,(a.2:Int)):=f
     simp only[hr2',aQ]
     obtain⟨o3,U,D⟩:=ET (N:=N) (pr:=pr) (aA ts q.1.1) (4,0,op,⟨#[]⟩,[(q.2:Int),(a.2:Int)]) a.1 j2 j4
     refine⟨o3,U,?_⟩
     cases hn:mL (aA ts q.1.1) (4,0,op,⟨#[]⟩,[(q.2:Int),(a.2:Int)]) a.1<;>rw[hn] at D<;>exact D
   have t:=op_1 (ts:=ts) (i:=q.1.1)
   rcases iO (bX ts 4 ⟨#[60]⟩ q.1.1) with f|f
   .simp only[f,jI] at t
    obtain⟨U,D,E⟩:=go 6 ac t
    simp only[f,jI,j0]
    exact⟨U,D,by simpa only[aQ] using E⟩
   rcases iO (bX ts 4 ⟨#[61,61]⟩ q.1.1) with n|n
   .simp only[f,n,jI,jA,jG] at t
    obtain⟨U,D,E⟩:=go 7 ac t
    simp only[f,n,jI,j0,jA,jG,rW q.1 B F]
    exact⟨U,D,by simpa only[aQ] using E⟩
   simp only[f,n,jA,jG] at t
   simp only[f,n,j0,jA,jG,rW q.1 B F]
   rw[if_pos t]
   exact⟨_,rfl,rfl⟩
 have c1':bX ts 1 ⟨#[105,102]⟩ p.1=true:=s
 have g:=pS A K ac s
 simp only[s,c1',jI]
 -- behind an error
 have badN:∀{z:cD} {i:Nat} {pr':List BA} {b:List Ex} (x y w:Int),z.2≠0->i<ts.length->∃o,((mO N (bR ts z i pr' b) (5,0,0,⟨#[]⟩,[x,y,w]) (aA ts p.1).2.2.2).bind fun b0=>some b0)=some o/\mA ts pr (.inl z) o:=by
  intro z i pr' b x y w e hi
  simp only[sV]
  exact IH e hi _ _
 have nf:∀b:Bool,(if(!b)then(0:Nat) else 1)=if b then 1 else 0:=by intro b;cases b<;>rfl
 obtain⟨oa,a6,B⟩:=H (p.1+1,p.2) g M
 simp only[a6,j0]
 cases ha:eP ts pr k (p.1+1,p.2) with
 |inl z=>
  rw[ha] at B
  obtain⟨e,i,pr',b,hi,l⟩:=B
  obtain⟨v,t⟩:=u z i pr' b e hi
  simp only[l,qAm e,j0,gB,jI,uZ hi,vZ e,t,aQ]
  exact badN _ _ _ e hi
 |inr a=>
  rw[ha] at B
  obtain⟨⟨a1,E,a3,R⟩,a5⟩:=S (p.1+1,p.2) a.1 a.2 g M ha
  have hra':oa=(gR ts pr a.1,(a.2:Int)):=B
  have a9:wI ts sThen a.1.1=if bX ts 1 ⟨#[116,104,101,110]⟩ a.1.1 then .inr (a.1.1+1) else iM (aA ts a.1.1) 9:=rfl
  simp only[hra',tY a.1 E F,j0,aQ,a9]
  rcases iO (bX ts 1 ⟨#[116,104,101,110]⟩ a.1.1) with f|f
  rotate_left
  .have e:(((aA ts a.1.1).2.2.2,(9:Int)):cD).2≠0:=show(9:Int)≠0 by decide
   obtain⟨v,t⟩:=u ((aA ts a.1.1).2.2.2,9) a.1.1 pr a.1.2 e E
   simp only[f,jA,jG,gB,jI,nU a.1 E,qY,j0,t,qAm e,uZ E,vZ e,iM]
   exact badN _ _ _ e E
  have V:=pS A E ac f
  obtain⟨ob,a7,D⟩:=H (a.1.1+1,a.1.2) V R
  simp only[f,jI,kY,jA,jG,j0,a7]
  cases hb1:eP ts pr k (a.1.1+1,a.1.2) with
  |inl z=>
   rw[hb1] at D
   obtain⟨e,i,pr',b,hi,l⟩:=D
   obtain⟨v,t⟩:=u z i pr' b e hi
   simp only[l,qAm e,j0,gB,jI,uZ hi,vZ e,t]
   exact badN _ _ _ e hi
  |inr b=>
   rw[hb1] at D
   obtain⟨⟨b1,G,b3,U⟩,b5⟩:=S (a.1.1+1,a.1.2) b.1 b.2 V R hb1
   have hrb':ob=(gR ts pr b.1,(b.2:Int)):=D
   have a0:wI ts sElse b.1.1=if bX ts 1 ⟨#[101,108,115,101]⟩ b.1.1 then .inr (b.1.1+1) else iM (aA ts b.1.1) 9:=rfl
   simp only[hrb',tY b.1 G F,j0,a0]
   rcases iO (bX ts 1 ⟨#[101,108,115,101]⟩ b.1.1) with n|n
   rotate_left
   .have e:(((aA ts b.1.1).2.2.2,(9:Int)):cD).2≠0:=show(9:Int)≠0 by decide
    obtain⟨v,t⟩:=u ((aA ts b.1.1).2.2.2,9) b.1.1 pr b.1.2 e G
    simp only[n,jA,jG,gB,jI,nU b.1 G,qY,j0,t,iM]
    exact badN _ _ _ e G
   have Y:=pS A G ac n
   obtain⟨oc,a8,t⟩:=H (b.1.1+1,b.1.2) Y U
   simp only[n,jI,kY,jA,jG,j0,a8]
   cases hc1:eP ts pr k (b.1.1+1,b.1.2) with
   |inl z=>
    rw[hc1] at t
    obtain⟨e,i,pr',b',hi,l⟩:=t
    simp only[l]
    exact badN _ _ _ e hi
   |inr c=>
    rw[hc1] at t
    obtain⟨⟨s,f,n,e⟩,l⟩:=S (b.1.1+1,b.1.2) c.1 c.2 Y U hc1
    have hrc':oc=(gR ts pr c.1,(c.2:Int)):=t
    simp only[hrc',sV]
    exact ET (N:=N) (pr:=pr) (aA ts p.1) (5,0,0,⟨#[]⟩,[(a.2:Int),(b.2:Int),(c.2:Int)]) c.1 f e
end
section
variable {N:Nat} {ts:List bD} {pr:List BA}
theorem YX(D:Nat)(c:1<=D)(d:Int)(z:cD)(i:Nat)(pr':List BA)(b:List Ex)(a:z.2≠0)(hi:i<ts.length):∃v,(lW N D).2.2.2 (bR ts z i pr' b) d=some (bR ts z i pr' b,v):=by
 obtain⟨D',rfl⟩:∃D',D=D'+1:=⟨D-1,by omega⟩
 simp only[lW]
 exact⟨_,zCv z i pr' b a hi⟩
theorem qFv(D:Nat)(c:1<=D)(d:Int)(z:cD)(i:Nat)(pr':List BA)(b:List Ex)(a:z.2≠0)(hi:i<ts.length):∃v,(lW N D).1 (bR ts z i pr' b) d=some (bR ts z i pr' b,v):=by
 obtain⟨D',rfl⟩:∃D',D=D'+1:=⟨D-1,by omega⟩
 simp only[lW]
 exact⟨_,qYy a hi⟩
theorem qLr(c:0<N)(D:Nat)(e:2<=D)(d:Int)(z:cD)(i:Nat)(pr':List BA)(b:List Ex)(a:z.2≠0)(hi:i<ts.length):∃v,(lW N D).2.1 (bR ts z i pr' b) d=some (bR ts z i pr' b,v):=by
 obtain⟨D',rfl⟩:∃D',D=D'+1:=⟨D-1,by omega⟩
 simp only[lW]
 exact zEt (fun z i pr' b a hi=>qFv D' aa d z i pr' b a hi) c z i pr' b a hi
theorem zCu(c:0<N)(D:Nat)(e:3<=D)(d:Int)(z:cD)(i:Nat)(pr':List BA)(b:List Ex)(a:z.2≠0)(hi:i<ts.length):∃v,(lW N D).2.2.1 (bR ts z i pr' b) d=some (bR ts z i pr' b,v):=by
 obtain⟨D',rfl⟩:∃D',D=D'+1:=⟨D-1,by omega⟩
 simp only[lW]
 exact zFr (fun z i pr' b a hi=>qLr c D' aa d z i pr' b a hi) c z i pr' b a hi
theorem qMy(a:OkT ts)(g:ts.length<1000000)(n:pr.length<1000)(l:1000002<N):∀(k D:Nat),k<=32->4*k+1<=D->∀p:Ps,p.1<ts.length->p.2.length<=256->
  ∃o,(lW N D).2.2.2 (gR ts pr p) (33-(k:Int))=some o/\mA ts pr (eP ts pr k p) o
 |0,0,_,h,_,_,_=>by omega
 |0,D+1,_,_,p,c,_=>by simp only[lW];exact zEx aa p c
 |k+1,D,A,f,p,c,d=>by
  have q:=CH (ts:=ts) (params:=pr) a k
  have s:=qFf (params:=pr) a q
  have t:pZ ts (VC ts pr (eP ts pr k)):=MP a s
  have y:pZ ts (BG ts pr (eP ts pr k)):=MP a t
  have r:∀D,4*k+1<=D->∀p:Ps,p.1<ts.length->p.2.length<=256->∃o,(lW N D).2.2.2 (gR ts pr p) (IntKind.wrap .i64 (32-(k:Int)+1))=some o/\mA ts pr (eP ts pr k p) o:=by
   intro D f p c d
   rw[bB aa aa,show 32-(k:Int)+1=33-(k:Int) by omega]
   exact qMy a g n l k D aa f p c d
  have u:∀D,4*k+2<=D->∀p:Ps,p.1<ts.length->p.2.length<=256->∃o,(lW N D).1 (gR ts pr p) (32-(k:Int))=some o/\mA ts pr (nT ts pr (eP ts pr k) p) o:=by
   intro D f p c d
   obtain⟨D',rfl⟩:∃D',D=D'+1:=⟨D-1,by omega⟩
   simp only[lW]
   exact zDa (r D' aa) (fun z i pr' b e hi=>YX D' aa _ z i pr' b e hi) a g n l q p c d
  have v:∀D,4*k+3<=D->∀p:Ps,p.1<ts.length->p.2.length<=256->∃o,(lW N D).2.1 (gR ts pr p) (32-(k:Int))=some o/\mA ts pr (VC ts pr (eP ts pr k) p) o:=by
   intro D f p c d
   obtain⟨D',rfl⟩:∃D',D=D'+1:=⟨D-1,by omega⟩
   simp only[lW]
   exact zIp a g l s (u D' aa) (fun z i pr' b e hi=>qFv D' aa _ z i pr' b e hi) p c d
  have x:∀D,4*k+4<=D->∀p:Ps,p.1<ts.length->p.2.length<=256->∃o,(lW N D).2.2.1 (gR ts pr p) (32-(k:Int))=some o/\mA ts pr (BG ts pr (eP ts pr k) p) o:=by
   intro D f p c d
   obtain⟨D',rfl⟩:∃D',D=D'+1:=⟨D-1,by omega⟩
   simp only[lW]
   exact rsum a g l t (v D' aa) (fun z i pr' b e hi=>qLr aa D' aa _ z i pr' b e hi) p c d
  obtain⟨D',rfl⟩:∃D',D=D'+1:=⟨D-1,by omega⟩
  rw[show(33:Int)-((k+1:Nat):Int)=32-(k:Int) by omega]
  simp only[lW]
  exact zIb a g aa q y (r D' aa) (fun z i pr' b e hi=>YX D' aa _ z i pr' b e hi) (x D' aa) (fun z i pr' b e hi=>zCu aa D' aa _ z i pr' b e hi) p c d
theorem zAa(a:OkT ts)(e:ts.length<1000000)(b:pr.length<1000)(c:1000002<N)(p:Ps)(f:p.1<ts.length)(d:p.2.length<=256):
 ∃o,BS N (gR ts pr p) 1=some o/\mA ts pr (eP ts pr 32 p) o:=qMy a e b c 32 N aa aa p f d
theorem XR(a:1<=N)(z:cD)(i:Nat)(pr':List BA)(b:List Ex)(c:z.2≠0)(hi:i<ts.length):∃v,BS N (bR ts z i pr' b) 1=some (bR ts z i pr' b,v):=YX N a 1 z i pr' b c hi
abbrev RL:=List bD×Int×Int×Int×List BA×List Ex×List Int×List BA
def bW(st:RT)(l:List BA):RL:=(st.1,st.2.1,st.2.2.1,st.2.2.2.1,st.2.2.2.2.1,st.2.2.2.2.2.1,st.2.2.2.2.2.2,l)
def NY(ts:List bD)(n:Nat)(l:List BA)(i:Nat):cD⊕(Nat×List BA):=
 if bX ts 4 sComma i then uY ts n l (i+1) else aQ (iD ts sClose i) fun j=> .inr (j,l)
theorem qWs(n:Nat)(l:List BA)(i:Nat):uY ts (n+1) l i=aQ (pC ts i) fun a=>if l.length=8 then iM a.2 2 else if a.2.2.1∈l then iM a.2 10 else NY ts n (l++[a.2.2.1]) a.1:=rfl
def JF(ts:List bD)(pr:List BA)(b:List Ex)(r:cD⊕(Nat×List BA))(o:RL):Prop:=
 match r with
 | .inl z=>∃st l,xL ts z st/\o=bW st l
 | .inr q=>o=bW (gR ts pr (q.1,b)) q.2
theorem MJ{z:cD}{i:Nat}{pr':List BA}{b:List Ex}(a:z.2≠0)(M:Nat)(l:List BA):aB (qJ N) (M+1) (bW (bR ts z i pr' b) l)=some (bW (bR ts z i pr' b) l):=by
 have hz':((bW (bR ts z i pr' b) l).2.2.2.1==0)=false:=by simpa[bR,bW] using a
 simp only[aB,qJ,hz',jA,jG,j0]
theorem qFz(A:ts.length<1000000)(E:1000002<N){i:Nat}{b:List Ex}{l:List BA}(hi:i<ts.length)(D:l.length<=8){G:RL->Option RL}{n:Nat}
  (f:∀(z:cD) (i:Nat) (pr':List BA) (b:List Ex) (l:List BA),z.2≠0->G (bW (bR ts z i pr' b) l)=some (bW (bR ts z i pr' b) l))
  (u:OkT ts)
  (B:∀(s:BA),i+1<ts.length->l.length<8->∃o,G (bW (gR ts pr (i+1,b)) (l++[s]))=some o/\JF ts pr b (NY ts n (l++[s]) (i+1)) o):
  ∃o,((lS N (gR ts pr (i,b))).bind fun k=>(qA N k.1).bind fun d=>(if((l.length:Int)==8)then((mB N d.1 k.2.2.2.2 2).bind fun v=>some v) else(some d.1):Option RT).bind fun r=>(tU N l d.2).bind fun p=>(if p then((mB N r k.2.2.2.2 10).bind fun y=>some y) else(some r):Option RT).bind fun h=>(iU 16 l ([d.2])).bind fun t=>G (bW h t))=some o/\
   JF ts pr b (uY ts (n+1) l i) o:=by
 rw[qWs]
 simp only[nU (i,b) hi,j0,IL (i,b) hi A (by omega:100<N),sV]
 have c:∀s:BA,iU 16 l [s]=some (l++[s]):=fun s=>mC ag aa
 have g:∀s,tU N l s=some (decide (s∈l)):=fun s=>OZ aa aa
 -- behind an error
 have q:∀(z:cD) (i:Nat) (pr':List BA) (b':List Ex) (s:BA) (a:Int),z.2≠0->i<ts.length->∃o,((tU N l s).bind fun p=>(if p then mB N (bR ts z i pr' b') a 10 else(some (bR ts z i pr' b')):Option RT).bind fun h=>(iU 16 l ([s])).bind fun t=>G (bW h t))=some o/\JF ts pr b (.inl z) o:=by
  intro z i pr' b' s a e hi
  simp only[g,j0,vZ e]
  have:((if decide (s∈l)then some (bR ts z i pr' b') else some (bR ts z i pr' b')):Option RT)=some (bR ts z i pr' b'):=by split<;>rfl
  simp only[this,j0,c,f _ _ _ _ _ e]
  exact⟨_,rfl,bR ts z i pr' b',_,⟨e,i,pr',b',hi,rfl⟩,rfl⟩
 cases hx:pC ts i with
 |inl z=>
  have e:=UG hx
  have:((if((l.length:Int)==8)then mB N (bR ts z i pr b) (aA ts i).2.2.2 2 else some (bR ts z i pr b)):Option RT)=some (bR ts z i pr b):=by
   rw[vZ e];split<;>rfl
  simp only[this,j0,aQ]
  exact q z i pr b _ _ e hi
 |inr x=>
  obtain⟨rfl,e,-⟩:=yY u hi hx
  simp only[aQ]
  by_cases k1:l.length=8
  .have k1':((l.length:Int)==8)=true:=by simp;omega
   rw[if_pos k1]
   simp only[k1',jI,qY,j0,iM]
   exact q _ _ _ _ _ _ (show(2:Int)≠0 by decide) e
  have k1':((l.length:Int)==8)=false:=by simp;omega
  rw[if_neg k1]
  simp only[k1',jA,jG,j0,g]
  by_cases k2:(aA ts i).2.1∈l
  .rw[if_pos k2]
   simp only[jR k2,jI,qY,j0,c,iM]
   refine⟨_,f _ _ _ _ _ (show(10:Int)≠0 by decide),bR ts ((aA ts i).2.2.2,10) (i+1) pr b,_,⟨show(10:Int)≠0 by decide,i+1,pr,b,e,rfl⟩,rfl⟩
  rw[if_neg k2]
  simp only[jX k2,jA,jG,j0,c]
  exact B _ e aa
theorem qVm(x:1000002<N){b:List Ex}{l:List BA}(v:l.length<=8){G:RL->Option RL}
  (g:∀(z:cD) (i:Nat) (pr':List BA) (b:List Ex) (l:List BA),z.2≠0->G (bW (bR ts z i pr' b) l)=some (bW (bR ts z i pr' b) l))
  {z:cD} {i:Nat} {pr':List BA} {b':List Ex} (d:z.2≠0) (hi:i<ts.length):
  ∃o,((lS N (bR ts z i pr' b')).bind fun c=>(qA N c.1).bind fun a=>(if((l.length:Int)==8)then((mB N a.1 c.2.2.2.2 2).bind fun n=>some n) else(some a.1):Option RT).bind fun e=>(tU N l a.2).bind fun p=>(if p then((mB N e c.2.2.2.2 10).bind fun q=>some q) else(some e):Option RT).bind fun k=>(iU 16 l ([a.2])).bind fun u=>G (bW k u))=some o/\
   JF ts pr b (.inl z) o:=by
 have f:∀s:BA,iU 16 l [s]=some (l++[s]):=fun s=>mC ag aa
 have h:∀s,tU N l s=some (decide (s∈l)):=fun s=>OZ aa aa
 have r:((if((l.length:Int)==8)then some (bR ts z i pr' b') else some (bR ts z i pr' b')):Option RT)=some (bR ts z i pr' b'):=by split<;>rfl
 have t:((if decide ((⟨#[]⟩:BA)∈l)then some (bR ts z i pr' b') else some (bR ts z i pr' b')):Option RT)=some (bR ts z i pr' b'):=by split<;>rfl
 simp only[uZ hi,j0,UN d hi,sV,vZ d,r,h,t,f,g _ _ _ _ _ d]
 exact⟨_,rfl,bR ts z i pr' b',_,⟨d,i,pr',b',hi,rfl⟩,rfl⟩
theorem qEu(d:OkT ts)(e:ts.length<1000000)(k:1000002<N){b:List Ex}:∀(n M:Nat) (l:List BA) (i:Nat),l≠[]->i<ts.length->l.length<=8->ts.length<i+n->ts.length+2<i+M->
  ∃o,aB (qJ N) M (bW (gR ts pr (i,b)) l)=some o/\JF ts pr b (NY ts n l i) o
 |0,M,l,i,_,hi,_,h,_=>by omega
 |n+1,0,l,i,_,hi,_,_,h=>by omega
 |n+1,M+1,l,i,v,hi,f,H,F=>by
  have D:=rW (N:=N) (pr:=pr) (i,b) hi e ⟨#[41]⟩
  have q:decide ((l.length:Int)>0)=true:=by
   have:=fL.2 v
   exact jR aa
  have A:((bW (gR ts pr (i,b)) l).2.2.2.1==0)=true:=rfl
  have x:∀st:RT,∀l,((bW st l).1,(bW st l).2.1,(bW st l).2.2.1,(bW st l).2.2.2.1,(bW st l).2.2.2.2.1,(bW st l).2.2.2.2.2.1,(bW st l).2.2.2.2.2.2.1)=st:=fun _ _=>rfl
  have y:∀st:RT,∀l,(bW st l).2.2.2.2.2.2.2=l:=fun _ _=>rfl
  simp only[aB,qJ,A,jI,x,y,D,j0,q]
  rcases iO (bX ts 4 ⟨#[41]⟩ i) with a|a
  .simp only[a,jI,kY,jA,jG]
   refine⟨_,rfl,?_⟩
   have c:bX ts 4 sComma i=false:=by
    simp only[bX,jK,j7] at a
    simp[bX,a.2,sComma]
   have p:iD ts sClose i= .inr (i+1):=by simp[iD,sClose,a]
   simp only[NY,c,jA,jG,p,aQ]
   rfl
  have u:bX ts 4 sComma i=bX ts 4 ⟨#[44]⟩ i:=rfl
  simp only[a,jA,jG,gB,jI,Prod.eta,wA (i,b) hi e,j0,NY,u,iD]
  rcases iO (bX ts 4 ⟨#[44]⟩ i) with c|c
  .have g:=pS d hi ac c
   simp only[c,jI]
   obtain⟨o,p,r⟩:=qFz (N:=N) (pr:=pr) (b:=b) (l:=l) (n:=n) (G:=aB (qJ N) M) e k g f (fun z i pr' b l t=>by
    obtain⟨M',rfl⟩:∃M',M=M'+1:=⟨M-1,by omega⟩
    exact MJ t M' l) d (fun s B E=>qEu d e k n M (l++[s]) (i+1+1) ae B aj aa aa)
   refine⟨o,Eq.trans ?_ p,r⟩
   simp only[fI,j0]
   rfl
  have c1':bX ts 4 sClose i=false:=a
  simp only[c,c1',jA,jG,iM,aQ]
  obtain⟨o,p,r⟩:=qVm (N:=N) (pr:=pr) (b:=b) (l:=l) (z:=((aA ts i).2.2.2,9)) (i:=i) (pr':=pr) (b':=b) (G:=aB (qJ N) M) k f (fun z i pr' b l t=>by
   obtain⟨M',rfl⟩:∃M',M=M'+1:=⟨M-1,by omega⟩
   exact MJ t M' l) (show(9:Int)≠0 by decide) hi
  refine⟨o,Eq.trans ?_ p,r⟩
  simp only[fI,j0]
  rfl
theorem zCy(a:OkT ts)(d:ts.length<1000000)(v:1000005<N){b:List Ex}(i:Nat)(hi:i<ts.length):
  ∃o,aB (qJ N) N (bW (gR ts pr (i,b)) [])=some o/\JF ts pr b (if bX ts 4 sClose i then .inr (i+1,[]) else uY ts (ts.length+1) [] i) o:=by
 obtain⟨M,hM⟩:∃M,N=M+1:=⟨N-1,by omega⟩
 have r:=rW (N:=N) (pr:=pr) (i,b) hi d ⟨#[41]⟩
 have h:((bW (gR ts pr (i,b)) []).2.2.2.1==0)=true:=rfl
 have e:decide ((([]:List BA).length:Int)>0)=false:=rfl
 have f:∀st:RT,∀l,((bW st l).1,(bW st l).2.1,(bW st l).2.2.1,(bW st l).2.2.2.1,(bW st l).2.2.2.2.1,(bW st l).2.2.2.2.2.1,(bW st l).2.2.2.2.2.2.1)=st:=fun _ _=>rfl
 have g:∀st:RT,∀l,(bW st l).2.2.2.2.2.2.2=l:=fun _ _=>rfl
 have e0:aB (qJ N) N (bW (gR ts pr (i,b)) [])=aB (qJ N) (M+1) (bW (gR ts pr (i,b)) []):=by rw[<-hM]
 rw[e0]
 simp only[aB,qJ,h,jI,f,g,r,j0,e,sClose]
 rcases iO (bX ts 4 ⟨#[41]⟩ i) with c|c
 .simp only[c,jI,kY,jA,jG]
  exact⟨_,rfl,rfl⟩
 simp only[c,jA,jG,gB,jI,Prod.eta,j0]
 obtain⟨o,p,q⟩:=qFz (N:=N) (pr:=pr) (b:=b) (l:=[]) (n:=ts.length) (G:=aB (qJ N) M) d aa hi ae (fun z i pr' b l t=>by
  obtain⟨M',rfl⟩:∃M',M=M'+1:=⟨M-1,by omega⟩
  exact MJ t M' l) a (fun s k u=>qEu a d aa ts.length M ([]++[s]) (i+1) ae k ae aa aa)
 refine⟨o,Eq.trans ?_ p,q⟩
 simp only[fI,j0]
 rfl
end
section
variable {N:Nat} {ts:List bD} {pr:List BA}
def OW(ts:List bD)(r:cD⊕(Nat×Dl))(o:RT×Dl):Prop:=
 match r with
 | .inl z=>xL ts z o.1
 | .inr a=>o=(gR ts a.2.2.2.1 (a.1,a.2.2.2.2),a.2)
def zF(N:Nat)(st:RT)(k:Int)(nm:BA):Option (RT×Dl):=
 ((if(k==1)then((lN N st (⟨#[40]⟩:BA)).bind fun a=>aB (qJ N) N (bW a [])) else(some (bW st [])):Option RL)).bind fun a=>
 (lN N (a.1,a.2.1,a.2.2.1,a.2.2.2.1,a.2.2.2.2.2.2.2,a.2.2.2.2.2.1,a.2.2.2.2.2.2.1) (⟨#[61]⟩:BA)).bind fun b=>
 (BS N b 1).bind fun b=>(lN N b.1 (⟨#[59]⟩:BA)).bind fun b=>some (b,(k,nm,a.2.2.2.2.2.2.2,b.2.2.2.2.2.1))
theorem YF(h:1000005<N){z:cD}{i:Nat}{b:List Ex}(a:z.2≠0)(hi:i<ts.length)(k:Int)(nm:BA):∃o,zF N (bR ts z i pr b) k nm=some o/\xL ts z o.1:=by
 have tail:∀(i:Nat) (pr:List BA) (b:List Ex) (l:List BA),i<ts.length->∃o,((lN N ((bW (bR ts z i pr b) l).1,(bW (bR ts z i pr b) l).2.1,(bW (bR ts z i pr b) l).2.2.1,(bW (bR ts z i pr b) l).2.2.2.1,(bW (bR ts z i pr b) l).2.2.2.2.2.2.2,(bW (bR ts z i pr b) l).2.2.2.2.2.1,(bW (bR ts z i pr b) l).2.2.2.2.2.2.1) (⟨#[61]⟩:BA)).bind fun f=>
   (BS N f 1).bind fun g=>(lN N g.1 (⟨#[59]⟩:BA)).bind fun d=>some (d,(k,nm,(bW (bR ts z i pr b) l).2.2.2.2.2.2.2,d.2.2.2.2.2.1)))=some o/\xL ts z o.1:=by
  intro i pr b l hi
  have e:((bW (bR ts z i pr b) l).1,(bW (bR ts z i pr b) l).2.1,(bW (bR ts z i pr b) l).2.2.1,(bW (bR ts z i pr b) l).2.2.2.1,(bW (bR ts z i pr b) l).2.2.2.2.2.2.2,(bW (bR ts z i pr b) l).2.2.2.2.2.1,(bW (bR ts z i pr b) l).2.2.2.2.2.2.1)=bR ts z i l b:=rfl
  obtain⟨v,d⟩:=XR (N:=N) aa z i l b a hi
  simp only[e,uW a hi,j0,d]
  exact⟨_,rfl,a,i,l,b,hi,rfl⟩
 obtain⟨M,hM⟩:∃M,N=M+1:=⟨N-1,by omega⟩
 have d:aB (qJ N) N (bW (bR ts z i pr b) [])=some (bW (bR ts z i pr b) []):=by
  have e0:aB (qJ N) N (bW (bR ts z i pr b) [])=aB (qJ N) (M+1) (bW (bR ts z i pr b) []):=by rw[<-hM]
  rw[e0];exact MJ a M []
 unfold zF
 rcases iO (k==1) with c|c
 .simp only[c,jI,uW a hi,j0,d]
  exact tail i pr b [] hi
 simp only[c,jA,jG,j0]
 exact tail i pr b [] hi
theorem qYt(d:OkT ts)(h:ts.length<1000000)(x:1000005<N)(i:Nat)(hi:i<ts.length)(k:Int)(nm:BA):∃o,zF N (gR ts pr (i,[])) k nm=some o/\
  OW ts (aQ (if k=1 then xR ts i else .inr (i,[])) fun bq=>aQ (iD ts sEq bq.1) fun j=>aQ (eP ts bq.2 32 (j,[])) fun c=>aQ (iD ts sSemi c.1.1) fun m=> .inr (m,(k,nm,bq.2,c.1.2))) o:=by
 have badt:∀(z:cD) (st:RT) (l:List BA),xL ts z st->∃o,((lN N ((bW st l).1,(bW st l).2.1,(bW st l).2.2.1,(bW st l).2.2.2.1,(bW st l).2.2.2.2.2.2.2,(bW st l).2.2.2.2.2.1,(bW st l).2.2.2.2.2.2.1) (⟨#[61]⟩:BA)).bind fun n=>
   (BS N n 1).bind fun g=>(lN N g.1 (⟨#[59]⟩:BA)).bind fun f=>some (f,(k,nm,(bW st l).2.2.2.2.2.2.2,f.2.2.2.2.2.1)))=some o/\xL ts z o.1:=by
  rintro z st l ⟨a,i,pr,b,hi,rfl⟩
  have e:((bW (bR ts z i pr b) l).1,(bW (bR ts z i pr b) l).2.1,(bW (bR ts z i pr b) l).2.2.1,(bW (bR ts z i pr b) l).2.2.2.1,(bW (bR ts z i pr b) l).2.2.2.2.2.2.2,(bW (bR ts z i pr b) l).2.2.2.2.2.1,(bW (bR ts z i pr b) l).2.2.2.2.2.2.1)=bR ts z i l b:=rfl
  obtain⟨v,p⟩:=XR (N:=N) aa z i l b a hi
  simp only[e,uW a hi,j0,p]
  exact⟨_,rfl,a,i,l,b,hi,rfl⟩
 have goodt:∀(q:Nat×List BA),q.1<ts.length->q.2.length<=8->∃o,((lN N ((bW (gR ts pr (q.1,[])) q.2).1,(bW (gR ts pr (q.1,[])) q.2).2.1,(bW (gR ts pr (q.1,[])) q.2).2.2.1,(bW (gR ts pr (q.1,[])) q.2).2.2.2.1,(bW (gR ts pr (q.1,[])) q.2).2.2.2.2.2.2.2,(bW (gR ts pr (q.1,[])) q.2).2.2.2.2.2.1,(bW (gR ts pr (q.1,[])) q.2).2.2.2.2.2.2.1) (⟨#[61]⟩:BA)).bind fun n=>
   (BS N n 1).bind fun g=>(lN N g.1 (⟨#[59]⟩:BA)).bind fun f=>some (f,(k,nm,(bW (gR ts pr (q.1,[])) q.2).2.2.2.2.2.2.2,f.2.2.2.2.2.1)))=some o/\
   OW ts (aQ (iD ts sEq q.1) fun j=>aQ (eP ts q.2 32 (j,[])) fun c=>aQ (iD ts sSemi c.1.1) fun m=> .inr (m,(k,nm,q.2,c.1.2))) o:=by
  intro q g A
  have e:((bW (gR ts pr (q.1,[])) q.2).1,(bW (gR ts pr (q.1,[])) q.2).2.1,(bW (gR ts pr (q.1,[])) q.2).2.2.1,(bW (gR ts pr (q.1,[])) q.2).2.2.2.1,(bW (gR ts pr (q.1,[])) q.2).2.2.2.2.2.2.2,(bW (gR ts pr (q.1,[])) q.2).2.2.2.2.2.1,(bW (gR ts pr (q.1,[])) q.2).2.2.2.2.2.2.1)=gR ts q.2 (q.1,[]):=rfl
  have u:(bW (gR ts pr (q.1,[])) q.2).2.2.2.2.2.2.2=q.2:=rfl
  rw[e]
  simp only[u,wA (q.1,[]) g h,j0,sEq]
  cases hj:iD ts ⟨#[61]⟩ q.1 with
  |inl z=>
   have a:=tW hj
   obtain⟨v,p⟩:=XR (N:=N) aa z q.1 q.2 [] a g
   simp only[p,j0,uW a g,aQ]
   exact⟨_,rfl,a,q.1,q.2,[],g,rfl⟩
  |inr j=>
   obtain⟨rfl,r,-⟩:=pH d g hj
   obtain⟨o,s,f⟩:=zAa (N:=N) (pr:=q.2) d h aa aa (q.1+1,[]) r ae
   simp only[s,j0,aQ]
   cases hc:eP ts q.2 32 (q.1+1,[]) with
   |inl z=>
    rw[hc] at f
    obtain⟨a,i,pr',b,hi,p⟩:=f
    simp only[p,uW a hi,j0]
    exact⟨_,rfl,a,i,pr',b,hi,rfl⟩
   |inr c=>
    rw[hc] at f
    obtain⟨⟨B,p,t,D⟩,-⟩:=CH d 32 (q.1+1,[]) c.1 c.2 r ae hc
    have hr':o=(gR ts q.2 c.1,(c.2:Int)):=f
    simp only[hr',wA c.1 p h,j0,sSemi]
    cases y:iD ts ⟨#[59]⟩ c.1.1 with
    |inl z=>exact⟨_,rfl,tW y,c.1.1,q.2,c.1.2,p,rfl⟩
    |inr m=>exact⟨_,rfl,rfl⟩
 unfold zF
 by_cases c:k=1
 .have c':(k==1)=true:=by simpa using c
  simp only[c',jI,wA (i,[]) hi h,j0,if_pos c,xR,sOpen]
  cases h1:iD ts ⟨#[40]⟩ i with
  |inl z=>
   have a:=tW h1
   obtain⟨M,hM⟩:∃M,N=M+1:=⟨N-1,by omega⟩
   have r:aB (qJ N) N (bW (bR ts z i pr []) [])=some (bW (bR ts z i pr []) []):=by
    have e0:aB (qJ N) N (bW (bR ts z i pr []) [])=aB (qJ N) (M+1) (bW (bR ts z i pr []) []):=by rw[<-hM]
    rw[e0];exact MJ a M []
   simp only[r,j0,aQ]
   exact badt z _ [] ⟨a,i,pr,[],hi,rfl⟩
  |inr j=>
   obtain⟨rfl,a,-⟩:=pH d hi h1
   obtain⟨o,s,f⟩:=zCy (N:=N) (pr:=pr) (b:=[]) d h x (i+1) a
   simp only[s,j0,aQ]
   cases hP:(if bX ts 4 sClose (i+1)then .inr (i+1+1,[]) else uY ts (ts.length+1) [] (i+1):cD⊕(Nat×List BA)) with
   |inl z=>
    rw[hP] at f
    obtain⟨st,l,r,rfl⟩:=f
    exact badt z st l r
   |inr q=>
    rw[hP] at f
    have hr':o=bW (gR ts pr (q.1,[])) q.2:=f
    have g:q.1<ts.length/\q.2.length<=8:=by
     split at hP
     .rename_i hc
      obtain rfl:=Sum.inr.inj hP
      exact⟨pS d a ac hc,by simp⟩
     obtain⟨_,p,t⟩:=WY d _ _ _ q a ae hP
     exact⟨p,t⟩
    rw[hr']
    exact goodt q g.1 g.2
 have c':(k==1)=false:=by simpa using c
 simp only[c',jA,jG,j0,if_neg c]
 exact goodt (i,[]) hi ae
def NB(N:Nat)(f:Sr)(t:bD)(st:RT)(k:Int):Option (RT×Dl):=
 ((if((List.length f.2.2:Int)==64)then mB N st t.2.2.2 2 else some st):Option RT).bind fun o2=>(lS N o2).bind fun b=>
 ((if(k==3)then tS N b.1 true else qA N b.1):Option (RT×BA)).bind fun a=>
 ((if(a.1.2.2.2.1==0)then BZ N f k a.2 else some false):Option Bool).bind fun c=>
 ((if c then mB N a.1 b.2.2.2.2 10 else some a.1):Option RT).bind fun b=>zF N b k a.2
theorem qWv(g:1000005<N){f:Sr}{t:bD}{z:cD}{i:Nat}{b:List Ex}(c:z.2≠0)(hi:i<ts.length)(k:Int):∃o,
  ((lS N (bR ts z i pr b)).bind fun d=>((if(k==3)then tS N d.1 true else qA N d.1):Option (RT×BA)).bind fun a=>
   ((if(a.1.2.2.2.1==0)then BZ N f k a.2 else some false):Option Bool).bind fun h=>
   ((if h then mB N a.1 d.2.2.2.2 10 else some a.1):Option RT).bind fun l=>zF N l k a.2)=some o/\xL ts z o.1:=by
 have hz':((bR ts z i pr b).2.2.2.1==0)=false:=by simpa[bR] using c
 have e:((if(k==3)then tS N (bR ts z i pr b) true else qA N (bR ts z i pr b)):Option (RT×BA))=some (bR ts z i pr b,⟨#[]⟩):=by
  rw[qAb c hi,UN c hi];split<;>rfl
 simp only[uZ hi,j0,e,hz',jA,jG]
 exact YF g c hi k _
theorem qWm(h:OkT ts)(p:ts.length<1000000)(n:1000005<N){f:Sr}(r:f.2.2.length<=64)(t:bD)(i:Nat)(hi:i<ts.length)(k:Int):∃o,NB N f t (gR ts pr (i,[])) k=some o/\
  OW ts (if f.2.2.length=64 then iM t 2 else aQ (if k=3 then qQ ts i else pC ts i) fun a=>
   if f.2.2.any (fun d=>d.1==k&&decide (d.2.1=a.2.2.1)) then iM a.2 10
   else aQ (if k=1 then xR ts a.1 else .inr (a.1,[])) fun b=>
    aQ (iD ts sEq b.1) fun j=>aQ (eP ts b.2 32 (j,[])) fun c=>
    aQ (iD ts sSemi c.1.1) fun m=> .inr (m,(k,a.2.2.1,b.2,c.1.2))) o:=by
 unfold NB
 by_cases k1:f.2.2.length=64
 .have k1':((f.2.2.length:Int)==64)=true:=by simp;omega
  rw[if_pos k1]
  simp only[k1',jI,qY,j0,iM]
  exact qWv (t:=t) n (show(2:Int)≠0 by decide) hi k
 have k1':((f.2.2.length:Int)==64)=false:=by simp;omega
 rw[if_neg k1]
 simp only[k1',jA,jG,j0,nU (i,[]) hi]
 have e:((if(k==3)then tS N (gR ts pr (i,[])) true else qA N (gR ts pr (i,[]))):Option (RT×BA))=
   some (match(if k=3 then qQ ts i else pC ts i) with| .inl z=>(bR ts z i pr [],⟨#[]⟩)| .inr a=>(gR ts pr (a.1,[]),a.2.2.1)):=by
  by_cases k3:k=3
  .have k3':(k==3)=true:=by simpa using k3
   rw[if_pos k3',if_pos k3,qAh (i,[]) hi p aa]<;>rfl
  have k3':(k==3)=false:=by simpa using k3
  rw[if_neg (by rw[k3'];decide),if_neg k3,IL (i,[]) hi p aa]<;>rfl
 rw[e]
 simp only[j0]
 cases hX:(if k=3 then qQ ts i else pC ts i) with
 |inl z=>
  have g:z.2≠0:=by
   split at hX
   .exact UH hX
   exact UG hX
  have hz':((bR ts z i pr []).2.2.2.1==0)=false:=by simpa[bR] using g
  simp only[hz',jA,jG,j0,aQ]
  exact YF n g hi k _
 |inr a=>
  have ga:a=(i+1,aA ts i)/\i+1<ts.length:=by
   split at hX
   .obtain⟨e,g,-⟩:=CL h hi hX;exact⟨e,g⟩
   obtain⟨e,g,-⟩:=yY h hi hX;exact⟨e,g⟩
  obtain⟨rfl,g⟩:=ga
  have q:((gR ts pr (i+1,[])).2.2.2.1==0)=true:=rfl
  simp only[q,jI,qOn (N:=N) (f:=f) (k:=k) (s:=(aA ts i).2.1) aa aa,j0]
  rw[show aQ (Sum.inr (i+1,aA ts i)) (fun a:Nat×bD=>if f.2.2.any (fun d=>d.1==k&&decide (d.2.1=a.2.2.1))then iM a.2 10
   else aQ (if k=1 then xR ts a.1 else .inr (a.1,[])) fun b=>
    aQ (iD ts sEq b.1) fun j=>aQ (eP ts b.2 32 (j,[])) fun c=>
    aQ (iD ts sSemi c.1.1) fun m=>(.inr (m,(k,a.2.2.1,b.2,c.1.2)):cD⊕(Nat×Dl)))=(if f.2.2.any (fun d=>d.1==k&&decide (d.2.1=(aA ts i).2.1))then iM (aA ts i) 10
   else aQ (if k=1 then xR ts (i+1) else .inr (i+1,[])) fun b=>
    aQ (iD ts sEq b.1) fun j=>aQ (eP ts b.2 32 (j,[])) fun c=>
    aQ (iD ts sSemi c.1.1) fun m=>(.inr (m,(k,(aA ts i).2.1,b.2,c.1.2)):cD⊕(Nat×Dl))) from rfl]
  rcases iO (f.2.2.any fun d=>d.1==k&&decide (d.2.1=(aA ts i).2.1)) with l|l
  .rw[if_pos l]
   simp only[l,jI,qY,j0,iM]
   exact YF n (show(10:Int)≠0 by decide) g k _
  rw[if_neg (by rw[l];decide)]
  simp only[l,jA,jG,j0]
  exact qYt h p n (i+1) g k _
end
section
variable {N:Nat} {ts:List bD} {pr:List BA}
abbrev RN:=List bD×Int×Int×Int×List BA×List Ex×List Int×BA
def qQm(st:RT)(l:BA):RN:=(st.1,st.2.1,st.2.2.1,st.2.2.2.1,st.2.2.2.2.1,st.2.2.2.2.2.1,st.2.2.2.2.2.2,l)
theorem zIc(r:OkT ts)(p:ts.length<1000000)(A:1000005<N){f:Sr}(B:f.2.2.length<=64)(i:Nat)(b:List Ex)(hi:i<ts.length):∃o,QO N (gR ts pr (i,b)) f=some o/\OW ts (pM ts f.2.2 i) o:=by
 have e0:((gR ts pr (i,b)).1,(gR ts pr (i,b)).2.1,(gR ts pr (i,b)).2.2.1,(gR ts pr (i,b)).2.2.2.1,([]:List BA),([]:List Ex),(gR ts pr (i,b)).2.2.2.2.2.2)=gR ts [] (i,[]):=rfl
 have rest:∀(st:RT) (k:Int),(((if((List.length f.2.2:Int)==64)then((mB N st (aA ts i).2.2.2 2).bind fun F=>some F) else(some st)):Option RT).bind fun o2=>(lS N o2).bind fun q=>((if(k==3)then((tS N q.1 true).bind fun y=>some (qQm y.1 y.2)) else((qA N q.1).bind fun z=>some (qQm z.1 z.2))):Option RN).bind fun a=>((if(a.2.2.2.1==0)then((BZ N f k a.2.2.2.2.2.2.2).bind fun v=>some v) else(some false)):Option Bool).bind fun D=>((if D then((mB N (a.1,a.2.1,a.2.2.1,a.2.2.2.1,a.2.2.2.2.1,a.2.2.2.2.2.1,a.2.2.2.2.2.2.1) q.2.2.2.2 10).bind fun x=>some x) else(some (a.1,a.2.1,a.2.2.1,a.2.2.2.1,a.2.2.2.2.1,a.2.2.2.2.2.1,a.2.2.2.2.2.2.1))):Option RT).bind fun E=>zF N E k a.2.2.2.2.2.2.2)=NB N f (aA ts i) st k:=by
  intro st k
  unfold NB
  simp only[sV]
  refine congrArg _ (funext fun o2=>congrArg _ (funext fun q=> ?_))
  rcases iO (k==3) with c|c<;>simp only[c,jI,jA,jG,fI,j0]<;>rfl
 have fin:∀(k:Int),k≠0->uF (aA ts i).2.1=k->(aA ts i).1=1->∃o,NB N f (aA ts i) (gR ts [] (i+1,[])) k=some o/\OW ts (pM ts f.2.2 i) o:=by
  intro k u t d
  have g:=r.next hi (show(aA ts i).1≠5 by rw[d];decide)
  obtain⟨o,e,l⟩:=qWm (N:=N) (pr:=[]) r p A B (aA ts i) (i+1) g k
  refine⟨o,e,?_⟩
  unfold pM
  dsimp only
  rw[t,if_neg (by rintro(h|h);exact h d;exact u h)]
  exact l
 simp only[QO,e0,nU (i,[]) hi,j0,Prod.eta,tY (i,[]) hi p]
 by_cases d:(aA ts i).1=1
 .have n:∀s,bX ts 1 s i=decide ((aA ts i).2.1=s):=fun s=>qKa d
  simp only[n]
  by_cases w1:(aA ts i).2.1=(⟨#[102,117,110,99]⟩:BA)
  .simp only[jR w1,jI,j0]
   obtain⟨o,e,l⟩:=fin 1 ac (by rw[w1];rfl) d
   refine⟨o,Eq.trans ?_ e,l⟩
   refine Eq.trans ?_ (rest (gR ts [] (i+1,[])) 1)
   simp only[sV,zF]
   rfl
  simp only[jX w1,jA,jG,j0,tY (i,[]) hi p,n,Prod.eta]
  by_cases w2:(aA ts i).2.1=(⟨#[116,101,115,116]⟩:BA)
  .simp only[jR w2,jI,j0]
   obtain⟨o,e,l⟩:=fin 2 ac (by rw[w2];rfl) d
   refine⟨o,Eq.trans ?_ e,l⟩
   refine Eq.trans ?_ (rest (gR ts [] (i+1,[])) 2)
   simp only[sV,zF]
   rfl
  simp only[jX w2,jA,jG,j0,tY (i,[]) hi p,n,Prod.eta]
  by_cases w3:(aA ts i).2.1=(⟨#[103,101,110]⟩:BA)
  .simp only[jR w3,jI,j0]
   obtain⟨o,e,l⟩:=fin 3 ac (by rw[w3];rfl) d
   refine⟨o,Eq.trans ?_ e,l⟩
   refine Eq.trans ?_ (rest (gR ts [] (i+1,[])) 3)
   simp only[sV,zF]
   rfl
  simp only[jX w3,jA,jG,j0,qY,Prod.eta]
  refine⟨_,rfl,?_⟩
  have t:uF (aA ts i).2.1=0:=by
   unfold uF
   rw[if_neg (show ¬(aA ts i).2.1=OQ from w1),if_neg (show ¬(aA ts i).2.1=OS from w2),if_neg (show ¬(aA ts i).2.1=OU from w3)]
  unfold pM
  dsimp only
  rw[if_pos (.inr t)]
  exact⟨show(9:Int)≠0 by decide,i,[],[],hi,rfl⟩
 have n:∀s,bX ts 1 s i=false:=fun s=>qOt d
 simp only[n,jA,jG,j0,tY (i,[]) hi p,qY,Prod.eta]
 refine⟨_,rfl,?_⟩
 unfold pM
 dsimp only
 rw[if_pos (.inl d)]
 exact⟨show(9:Int)≠0 by decide,i,[],[],hi,rfl⟩
def qCb(ts:List bD)(pr:List BA)(b:List Ex)(r:cD⊕(Nat×List BA))(o:RL):Prop:=
 match r with
 | .inl z=>∃st l,xL ts z st/\o=bW st l
 | .inr q=>o=bW (gR ts pr (q.1,b)) q.2
theorem qEm{y5:RT×BA}{z:cD}{i:Nat}{pr':List BA}{b:List Ex}(a:z.2≠0)(M:Nat)(l:List BA):aB (sX N y5) (M+1) (bW (bR ts z i pr' b) l)=some (bW (bR ts z i pr' b) l):=by
 have hz':((bW (bR ts z i pr' b) l).2.2.2.1==0)=false:=by simpa[bR,bW] using a
 simp only[aB,sX,hz',jA,jG,j0]
theorem qDy(k:OkT ts)(v:ts.length<1000000)(H:1000005<N){y5:RT×BA}{b:List Ex}:∀(n M:Nat) (l:List BA) (i:Nat),i<ts.length->l.length<=8->ts.length<i+n->ts.length+2<i+M->
  ∃o,aB (sX N y5) M (bW (gR ts pr (i,b)) l)=some o/\qCb ts pr b (qL ts y5.2 n l i) o
 |0,M,l,i,hi,_,h,_=>by omega
 |n+1,0,l,i,hi,_,_,h=>by omega
 |n+1,M+1,l,i,hi,R,U,S=>by
  have G:((bW (gR ts pr (i,b)) l).2.2.2.1==0)=true:=rfl
  have E:∀st:RT,∀l,((bW st l).1,(bW st l).2.1,(bW st l).2.2.1,(bW st l).2.2.2.1,(bW st l).2.2.2.2.1,(bW st l).2.2.2.2.2.1,(bW st l).2.2.2.2.2.2.1)=st:=fun _ _=>rfl
  have F:∀st:RT,∀l,(bW st l).2.2.2.2.2.2.2=l:=fun _ _=>rfl
  have e:∀s:BA,iU 16 l [s]=some (l++[s]):=fun s=>mC ag aa
  have u:∀s,tU N l s=some (decide (s∈l)):=fun s=>OZ aa aa
  have bad:∀(z:cD) (i:Nat) (pr':List BA) (b':List Ex) (l:List BA),z.2≠0->i<ts.length->∃o,aB (sX N y5) M (bW (bR ts z i pr' b') l)=some o/\qCb ts pr b (.inl z) o:=by
   intro z i pr' b' l c hi
   obtain⟨M',rfl⟩:∃M',M=M'+1:=⟨M-1,by omega⟩
   exact⟨_,qEm c M' l,_,_,⟨c,i,pr',b',hi,rfl⟩,rfl⟩
  -- from the import's name on, behind an error
  have badn:∀(z:cD) (i:Nat) (pr':List BA) (b':List Ex),z.2≠0->i<ts.length->∃o,((lS N (bR ts z i pr' b')).bind fun f=>(qA N f.1).bind fun a=>((if(a.1.2.2.2.1==0)then(if(a.2.toList==y5.2.toList)then(some true) else(tU N l a.2)) else(some false)):Option Bool).bind fun A=>((if A then mB N a.1 f.2.2.2.2 10 else some a.1):Option RT).bind fun B=>(lN N B (⟨#[59]⟩:BA)).bind fun r=>(iU 16 l ([a.2])).bind fun y=>aB (sX N y5) M (bW r y))=some o/\qCb ts pr b (.inl z) o:=by
   intro z i pr' b' c hi
   have hz':((bR ts z i pr' b').2.2.2.1==0)=false:=by simpa[bR] using c
   simp only[uZ hi,UN c hi,j0,hz',jA,jG,uW c hi,e]
   exact bad z i pr' b' _ c hi
  -- the step
  have step:aB (sX N y5) (M+1) (bW (gR ts pr (i,b)) l)=(if bX ts 1 CN i then
    ((if((l.length:Int)==8)then some (bR ts ((aA ts i).2.2.2,2) (i+1) pr b) else some (gR ts pr (i+1,b))):Option RT).bind fun st=>((lS N st).bind fun f=>(qA N f.1).bind fun a=>((if(a.1.2.2.2.1==0)then(if(a.2.toList==y5.2.toList)then(some true) else(tU N l a.2)) else(some false)):Option Bool).bind fun A=>((if A then mB N a.1 f.2.2.2.2 10 else some a.1):Option RT).bind fun B=>(lN N B (⟨#[59]⟩:BA)).bind fun r=>(iU 16 l ([a.2])).bind fun y=>aB (sX N y5) M (bW r y))
    else some (bW (gR ts pr (i,b)) l)):=by
   have K:bX ts 1 CN i=((aA ts i).1==1&&decide ((aA ts i).2.1=(⟨#[105,109,112,111,114,116]⟩:BA))):=rfl
   have D:=zH (show i<1000000 by omega)
   simp only[aB,sX,G,jI,E,F,nU (i,b) hi,j0,Prod.eta,oZ,K]
   rcases iO ((aA ts i).1==1) with d|d
   rotate_left
   .simp only[d,jA,jG,j0,Bool.false_and]
    rfl
   rcases iO (decide ((aA ts i).2.1=(⟨#[105,109,112,111,114,116]⟩:BA))) with p|p
   rotate_left
   .simp only[d,p,jA,jG,jI,j0,Bool.and_false]
    rfl
   simp only[d,p,jI,j0,Bool.and_true]
   rcases iO ((l.length:Int)==8) with q|q
   .simp only[q,jI,j0,nU (i,b) hi,qY,sV]
    have t:((bR ts ((aA ts i).2.2.2,2) i pr b).1,IntKind.wrap .i64 ((bR ts ((aA ts i).2.2.2,2) i pr b).2.1+1),(bR ts ((aA ts i).2.2.2,2) i pr b).2.2.1,(bR ts ((aA ts i).2.2.2,2) i pr b).2.2.2.1,(bR ts ((aA ts i).2.2.2,2) i pr b).2.2.2.2.1,(bR ts ((aA ts i).2.2.2,2) i pr b).2.2.2.2.2.1,(bR ts ((aA ts i).2.2.2,2) i pr b).2.2.2.2.2.2)=bR ts ((aA ts i).2.2.2,2) (i+1) pr b:=by
     show(ts,IntKind.wrap .i64 ((i:Int)+1),(aA ts i).2.2.2,(2:Int),pr,b,([]:List Int))=_
     rw[D];rfl
    rw[t]
    simp only[fI,j0]
    rfl
   simp only[q,jA,jG,j0,sV]
   have t:((gR ts pr (i,b)).1,IntKind.wrap .i64 ((gR ts pr (i,b)).2.1+1),(gR ts pr (i,b)).2.2.1,(gR ts pr (i,b)).2.2.2.1,(gR ts pr (i,b)).2.2.2.2.1,(gR ts pr (i,b)).2.2.2.2.2.1,(gR ts pr (i,b)).2.2.2.2.2.2)=gR ts pr (i+1,b):=by
    show(ts,IntKind.wrap .i64 ((i:Int)+1),(0:Int),(0:Int),pr,b,([]:List Int))=_
    rw[D];rfl
   rw[t]
   simp only[fI,j0]
   rfl
  rw[step]
  simp only[qL]
  rcases iO (bX ts 1 CN i) with d|d
  rotate_left
  .simp only[d,jA,jG]
   exact⟨_,rfl,rfl⟩
  have g:=pS k hi ac d
  simp only[d,jI]
  by_cases k2:l.length=8
  .have k2':((l.length:Int)==8)=true:=by simp;omega
   rw[if_pos k2]
   simp only[k2',jI,j0,iM]
   exact badn _ _ _ _ (show(2:Int)≠0 by decide) g
  have k2':((l.length:Int)==8)=false:=by simp;omega
  rw[if_neg k2]
  simp only[k2',jA,jG,j0,nU (i+1,b) g,IL (i+1,b) g v (by omega:100<N)]
  cases hx:pC ts (i+1) with
  |inl z=>
   have c:=UG hx
   have hz':((bR ts z (i+1) pr b).2.2.2.1==0)=false:=by simpa[bR] using c
   simp only[hz',jA,jG,j0,uW c g,e,aQ]
   exact bad _ _ _ _ _ c g
  |inr x=>
   obtain⟨rfl,p,-⟩:=yY k g hx
   have t:((gR ts pr (i+1+1,b)).2.2.2.1==0)=true:=rfl
   simp only[t,jI,oZ,u,aQ]
   by_cases q:(aA ts (i+1)).2.1=y5.2\/(aA ts (i+1)).2.1∈l
   .rw[if_pos q]
    have:((if decide ((aA ts (i+1)).2.1=y5.2)then some true else some (decide ((aA ts (i+1)).2.1∈l))):Option Bool)=some true:=by
     rcases q with h|h
     .rw[if_pos (jR h)]
     rw[jR h];split<;>rfl
    rw[this]
    simp only[j0,jI,qY,e,iM]
    have c:(((aA ts (i+1)).2.2.2,(10:Int)):cD).2≠0:=show(10:Int)≠0 by decide
    simp only[uW c p,j0]
    exact bad _ _ _ _ _ c p
   rw[if_neg q]
   have:((if decide ((aA ts (i+1)).2.1=y5.2)then some true else some (decide ((aA ts (i+1)).2.1∈l))):Option Bool)=some false:=by
    rw[if_neg (by simp only[j7];exact fun h=>q (.inl h)),jX (fun h=>q (.inr h))]
   rw[this]
   simp only[j0,jA,jG,wA (i+1+1,b) p v,e,sSemi]
   cases c:iD ts ⟨#[59]⟩ (i+1+1) with
   |inl z=>exact bad _ _ _ _ _ (tW c) p
   |inr j=>
    obtain⟨rfl,D,-⟩:=pH k p c
    exact qDy k v H n M _ (i+1+1+1) D aj aa aa
end
section
variable {N:Nat} {ts:List bD} {pr:List BA}
abbrev RD:=List bD×Int×Int×Int×List BA×List Ex×List Int×List Dl
def oG(st:RT)(l:List Dl):RD:=(st.1,st.2.1,st.2.2.1,st.2.2.2.1,st.2.2.2.2.1,st.2.2.2.2.2.1,st.2.2.2.2.2.2,l)
def relS(ts:List bD)(r:cD⊕List Dl)(o:RD):Prop:=
 match r with
 | .inl z=>∃st l,xL ts z st/\o=oG st l
 | .inr a=>∃pr p,o=oG (gR ts pr p) a
theorem qGd{y5:RT×BA}{o2:RL}{z:cD}{i:Nat}{pr':List BA}{b:List Ex}(a:z.2≠0)(M:Nat)(l:List Dl):aB (vU N y5 o2) (M+1) (oG (bR ts z i pr' b) l)=some (oG (bR ts z i pr' b) l):=by
 have hz':((oG (bR ts z i pr' b) l).2.2.2.1==0)=false:=by simpa[bR,oG] using a
 simp only[aB,vU,hz',jA,jG,j0]
theorem qFi(c:OkT ts)(k:ts.length<1000000)(g:1000005<N){y5:RT×BA}{o2:RL}:∀(n M:Nat) (l:List Dl) (i:Nat) (pr:List BA) (b:List Ex),i<ts.length->l.length<=64->ts.length<i+n->ts.length+2<i+M->
  ∃o,aB (vU N y5 o2) M (oG (gR ts pr (i,b)) l)=some o/\relS ts (rX ts n l i) o
 |0,M,l,i,_,_,hi,_,h,_=>by omega
 |n+1,0,l,i,_,_,hi,_,_,h=>by omega
 |n+1,M+1,l,i,pr,b,hi,e,y,x=>by
  have t:((oG (gR ts pr (i,b)) l).2.2.2.1==0)=true:=rfl
  have r:∀st:RT,∀l,((oG st l).1,(oG st l).2.1,(oG st l).2.2.1,(oG st l).2.2.2.1,(oG st l).2.2.2.2.1,(oG st l).2.2.2.2.2.1,(oG st l).2.2.2.2.2.2.1)=st:=fun _ _=>rfl
  have s:∀st:RT,∀l,(oG st l).2.2.2.2.2.2.2=l:=fun _ _=>rfl
  simp only[aB,vU,t,jI,r,s,nU (i,b) hi,j0,Prod.eta,rX]
  by_cases k1:(aA ts i).1=5
  .have k1':((aA ts i).1 !=5)=false:=by simp[k1]
   rw[if_pos k1]
   simp only[k1',jA,jG,j0]
   exact⟨_,rfl,pr,(i,b),rfl⟩
  have k1':((aA ts i).1 !=5)=true:=by simp[k1]
  rw[if_neg k1]
  simp only[k1',jI]
  obtain⟨o,v,d⟩:=zIc (N:=N) (pr:=pr) (f:=(y5.2,o2.2.2.2.2.2.2.2,l)) c k g e i b hi
  simp only[v,j0]
  rw[mC ag aa]
  simp only[j0]
  cases hd:pM ts l i with
  |inl z=>
   rw[show pM ts (y5.2,o2.2.2.2.2.2.2.2,l).2.2 i=pM ts l i from rfl,hd] at d
   obtain⟨q,j,pr',b',u,p⟩:=d
   obtain⟨M',rfl⟩:∃M',M=M'+1:=⟨M-1,by omega⟩
   rw[p]
   exact⟨_,qGd q M' _,_,_,⟨q,j,pr',b',u,rfl⟩,rfl⟩
  |inr a=>
   rw[show pM ts (y5.2,o2.2.2.2.2.2.2.2,l).2.2 i=pM ts l i from rfl,hd] at d
   obtain⟨q,p,u⟩:=TD c hi hd
   have hr':o=(gR ts a.2.2.2.1 (a.1,a.2.2.2.2),a.2):=d
   rw[hr']
   exact qFi c k g n M (l++[a.2]) a.1 _ _ p aj aa aa
theorem zIa(d:OkT ts)(h:ts.length<1000000)(A:1000005<N):
  ((rS N (ts,0,0,0,[],[],[]) (⟨#[112,97,99,107,97,103,101]⟩:BA)).bind fun s=>((if(!s.2)then((lS N s.1).bind fun D=>mB N D.1 D.2.2.2.2 9) else(some s.1)):Option RT).bind fun H=>(qA N H).bind fun y5=>(lN N y5.1 (⟨#[59]⟩:BA)).bind fun t=>(aB (sX N y5) N (bW t [])).bind fun o2=>(aB (vU N y5 o2) N (o2.1,o2.2.1,o2.2.2.1,o2.2.2.2.1,o2.2.2.2.2.1,o2.2.2.2.2.2.1,o2.2.2.2.2.2.2.1,[])).bind fun a=>if(a.2.2.2.1 !=0)then(some (uE,a.2.2.1,a.2.2.2.1)) else(some (((y5.2,o2.2.2.2.2.2.2.2,a.2.2.2.2.2.2.2):Sr),(0:Int),(0:Int))))=some (match tH ts with| .inl z=>(uE,z.1,z.2)| .inr f=>(f,0,0)):=by
 have p:0<ts.length:=fL.2 d.1
 obtain⟨M,hM⟩:∃M,N=M+1:=⟨N-1,by omega⟩
 have e0:((ts,(0:Int),(0:Int),(0:Int),[],[],[]):RT)=gR ts [] (0,[]):=rfl
 -- the loops behind an error
 have badD:∀(y5:RT×BA) (o2:RL) (z:cD) (st:RT),xL ts z st->((aB (vU N y5 o2) N (oG st [])).bind fun a=>if(a.2.2.2.1 !=0)then(some (uE,a.2.2.1,a.2.2.2.1)) else(some (((y5.2,o2.2.2.2.2.2.2.2,a.2.2.2.2.2.2.2):Sr),(0:Int),(0:Int))))=some (uE,z.1,z.2):=by
  rintro y5 o2 z st ⟨c,i,pr',b,hi,rfl⟩
  have g:aB (vU N y5 o2) N (oG (bR ts z i pr' b) [])=some (oG (bR ts z i pr' b) []):=by
   have e:aB (vU N y5 o2) N (oG (bR ts z i pr' b) [])=aB (vU N y5 o2) (M+1) (oG (bR ts z i pr' b) []):=by rw[<-hM]
   rw[e];exact qGd c M []
  have hz':((oG (bR ts z i pr' b) []).2.2.2.1 !=0)=true:=by simpa[bR,oG] using c
  rw[g]
  simp only[j0,hz',jI]
  rfl
 have badI:∀(y5:RT×BA) (z:cD) (i:Nat) (pr':List BA) (b:List Ex),z.2≠0->i<ts.length->((aB (sX N y5) N (bW (bR ts z i pr' b) [])).bind fun o2=>(aB (vU N y5 o2) N (o2.1,o2.2.1,o2.2.2.1,o2.2.2.2.1,o2.2.2.2.2.1,o2.2.2.2.2.2.1,o2.2.2.2.2.2.2.1,[])).bind fun a=>if(a.2.2.2.1 !=0)then(some (uE,a.2.2.1,a.2.2.2.1)) else(some (((y5.2,o2.2.2.2.2.2.2.2,a.2.2.2.2.2.2.2):Sr),(0:Int),(0:Int))))=some (uE,z.1,z.2):=by
  intro y5 z i pr' b c hi
  have g:aB (sX N y5) N (bW (bR ts z i pr' b) [])=some (bW (bR ts z i pr' b) []):=by
   have e:aB (sX N y5) N (bW (bR ts z i pr' b) [])=aB (sX N y5) (M+1) (bW (bR ts z i pr' b) []):=by rw[<-hM]
   rw[e];exact qEm c M []
  rw[g]
  simp only[j0]
  exact badD y5 (bW (bR ts z i pr' b) []) z (bR ts z i pr' b) ⟨c,i,pr',b,hi,rfl⟩
 have bad:∀(z:cD) (i:Nat) (pr':List BA) (b:List Ex),z.2≠0->i<ts.length->((qA N (bR ts z i pr' b)).bind fun y5=>(lN N y5.1 (⟨#[59]⟩:BA)).bind fun t=>(aB (sX N y5) N (bW t [])).bind fun o2=>(aB (vU N y5 o2) N (o2.1,o2.2.1,o2.2.2.1,o2.2.2.2.1,o2.2.2.2.2.1,o2.2.2.2.2.2.1,o2.2.2.2.2.2.2.1,[])).bind fun a=>if(a.2.2.2.1 !=0)then(some (uE,a.2.2.1,a.2.2.2.1)) else(some (((y5.2,o2.2.2.2.2.2.2.2,a.2.2.2.2.2.2.2):Sr),(0:Int),(0:Int))))=some (uE,z.1,z.2):=by
  intro z i pr' b c hi
  simp only[UN c hi,uW c hi,j0]
  exact badI _ z i pr' b c hi
 rw[e0]
 simp only[tY (0,[]) p h,j0,tH,wI,sPackage]
 rcases iO (bX ts 1 ⟨#[112,97,99,107,97,103,101]⟩ 0) with k|k
 rotate_left
 .simp only[k,jA,jG,gB,jI,nU (0,[]) p,qY,j0,iM,aQ]
  exact bad _ _ _ _ (show(9:Int)≠0 by decide) p
 have n:=pS d p ac k
 simp only[k,jI,kY,jA,jG,j0,IL (0+1,[]) n h (by omega:100<N),aQ]
 cases h2:pC ts (0+1) with
 |inl z=>
  have c:=UG h2
  simp only[uW c n,j0]
  exact badI _ z _ _ _ c n
 |inr x=>
  obtain⟨rfl,r,-⟩:=yY d n h2
  simp only[wA (0+1+1,[]) r h,j0,sSemi]
  cases v:iD ts ⟨#[59]⟩ (0+1+1) with
  |inl z=>exact badI _ z _ _ _ (tW v) r
  |inr j=>
   obtain⟨rfl,u,-⟩:=pH d r v
   obtain⟨o,F,q⟩:=qDy (N:=N) (pr:=[]) (b:=[]) (y5:=(gR ts [] (0+1+1,[]),(aA ts (0+1)).2.1)) d h A (ts.length+1) N [] (0+1+1+1) u ae aa aa
   simp only[F,j0]
   cases h4:qL ts (aA ts (0+1)).2.1 (ts.length+1) [] (0+1+1+1) with
   |inl z=>
    rw[show qL ts ((gR ts [] (0+1+1,[]),(aA ts (0+1)).2.1):RT×BA).2 (ts.length+1) [] (0+1+1+1)=qL ts (aA ts (0+1)).2.1 (ts.length+1) [] (0+1+1+1) from rfl,h4] at q
    obtain⟨st,l,g,rfl⟩:=q
    exact badD _ (bW st l) z st g
   |inr y=>
    rw[show qL ts ((gR ts [] (0+1+1,[]),(aA ts (0+1)).2.1):RT×BA).2 (ts.length+1) [] (0+1+1+1)=qL ts (aA ts (0+1)).2.1 (ts.length+1) [] (0+1+1+1) from rfl,h4] at q
    have hr':o=bW (gR ts [] (y.1,[])) y.2:=q
    obtain⟨K,G,R⟩:=SW d _ _ _ y u ae h4
    obtain⟨o2,B,g⟩:=qFi (N:=N) (y5:=(gR ts [] (0+1+1,[]),(aA ts (0+1)).2.1)) (o2:=o) d h A (ts.length+1) N [] y.1 [] [] G ae aa aa
    have E:(o.1,o.2.1,o.2.2.1,o.2.2.2.1,o.2.2.2.2.1,o.2.2.2.2.2.1,o.2.2.2.2.2.2.1,([]:List Dl))=oG (gR ts [] (y.1,[])) []:=by rw[hr'];rfl
    rw[E,B]
    simp only[j0]
    cases h5:rX ts (ts.length+1) [] y.1 with
    |inl z=>
     rw[h5] at g
     obtain⟨st,l,⟨c,i,pr',b,hi,rfl⟩,rfl⟩:=g
     have hz':((oG (bR ts z i pr' b) l).2.2.2.1 !=0)=true:=by simpa[bR,oG] using c
     simp only[hz',jI]
     rfl
    |inr l=>
     rw[h5] at g
     obtain⟨pr',p',rfl⟩:=g
     have hz':((oG (gR ts pr' p') l).2.2.2.1 !=0)=false:=rfl
     simp only[hz',jA,jG]
     rw[hr']
     rfl
end
theorem qVc{N:Nat}(s:BA)(b:1000005<N):RZ N s=some (lD s):=by
 simp only[RZ,qUy (N:=N) aa,j0,lD]
 by_cases h:(mP s).2.2=0
 .rw[if_neg (show ¬((mP s).2.2 !=0)=true by simpa using h),if_neg (show ¬(mP s).2.2≠0 by simpa using h)]
  obtain⟨a,d,e⟩:=MO h
  have c:=zIa (N:=N) a aa b
  refine Eq.trans ?_ (Eq.trans c ?_)
  .simp only[Prod.eta,sV];rfl
  cases tH (mP s).1<;>rfl
 rw[if_pos (show((mP s).2.2 !=0)=true by simpa using h),if_pos h];rfl
end
section
open Go Go.Dc Go.Proofs
def DA{α τ:Type}(g:Nat->τ->α->τ):Nat->τ->List α->τ
 |_,t,[]=>t
 |i,t,x::l=>DA g (i+1) (g i t x) l
abbrev mX:=BA×BA×Int×BA×Int×Int
abbrev K3:=Int×BA×BA
abbrev rM:=BA×BA×Int×BA×Int
def uL(kind:Int)(pkg name:BA):K3:=(kind,if kind=3 then lE else pkg,name)
def zO(o:rM):K3:=uL o.2.2.1 o.1 o.2.1
def qPh(M:List (K3×mX))(o:rM):List (K3×mX):=
 mset M (zO o) (match eV M (zO o) with
  |some x=>(x.1,x.2.1,x.2.2.1,x.2.2.2.1,x.2.2.2.2.1,IntKind.wrap .i64 (x.2.2.2.2.2+1))
  |none=>(o.1,o.2.1,o.2.2.1,o.2.2.2.1,o.2.2.2.2,1))
def sO(path pkg:BA):Nat->List Dl->List rM
 |_,[]=>[]
 |i,d::l=>(pkg,d.2.1,d.1,path,(i:Int))::sO path pkg (i+1) l
def uH(f:bS):Bool:=CI f.1&&decide ((lD f.2).2.2=0)
def oJ(L:List bS):List (BA×Sr):=(L.filter uH).map fun f=>(f.1,(lD f.2).1)
def oK(l:List (BA×Sr)):List rM:=l.flatMap fun x=>sO x.1 x.2.1 0 x.2.2.2
theorem qFx{ts:List bD}(h:OkT ts):∀(n:Nat) (l:List Dl) (i:Nat) {r:List Dl},l.length<=64->i<ts.length->rX ts n l i= .inr r->r.length<=64
 |0,_,_,_,_,_,a=>by cases a
 |n+1,l,i,r,d,hi,a=>by
  unfold rX at a
  split at a
  .cases a;exact d
  obtain⟨x,e,c⟩:=bM a
  obtain⟨-,b,f⟩:=TD h hi e
  exact qFx h n _ _ ai b c
theorem qHc{s:BA}:(lD s).1.2.2.length<=64:=by
 unfold lD
 by_cases h0:(mP s).2.2=0
 .rw[if_neg (not_not_intro h0)]
  obtain⟨d,u,x⟩:=MO h0
  have e:0<(mP s).1.length:=by
   cases h:(mP s).1 with
   |nil=>exact absurd h d.1
   |cons a l=>exact Nat.succ_pos _
  cases c:tH (mP s).1 with
  |inl z=>exact jW _
  |inr f=>
   simp only
   unfold tH at c
   obtain⟨i,o,c⟩:=bM c
   obtain⟨rfl,g,-⟩:=TW d e o
   obtain⟨a,p,c⟩:=bM c
   obtain⟨rfl,k,-⟩:=yY d g p
   obtain⟨j,q,c⟩:=bM c
   obtain⟨rfl,n,-⟩:=pH d k q
   obtain⟨b,r,c⟩:=bM c
   obtain⟨-,v,-⟩:=SW d _ _ _ b n ae r
   obtain⟨l,t,c⟩:=bM c
   have:=qFx d _ _ _ ae v t
   cases c
   exact this
 rw[if_pos h0];exact jW _
def lR(kind:Int)(pkg name:BA)(e:mX)(o:rM):mX:=
 if zO o=uL kind pkg name then(if e.2.2.2.2.2=0 then(o.1,name,kind,o.2.2.2.1,o.2.2.2.2,1) else(e.1,e.2.1,e.2.2.1,e.2.2.2.1,e.2.2.2.2.1,e.2.2.2.2.2+1)) else e
def xG(kind:Int)(pkg name:BA):mX:=(if kind=3 then lE else pkg,name,kind,lE,0,0)
def nF(O:List rM)(kind:Int)(pkg name:BA):mX:=O.foldl (lR kind pkg name) (xG kind pkg name)
theorem ND{k k':Int}{p p' n n':BA}(h:uL k p n=uL k' p' n'):k=k'/\n=n'/\(k=3\/p=p'):=by
 simp only[uL,Prod.mk.injEq] at h
 obtain⟨rfl,a,b⟩:=h
 refine⟨rfl,b,?_⟩
 by_cases h:k=3
 .exact .inl h
 rw[if_neg h,if_neg h] at a;exact .inr a
def MapE(M:List (K3×mX))(O:List rM):Prop:=
 (M.map (·.1)).Nodup/\∀kind pkg name,eV M (uL kind pkg name)=if(nF O kind pkg name).2.2.2.2.2=0 then none else some (nF O kind pkg name)
theorem qGt(kind:Int)(pkg name:BA):∀(O:List rM),0<=(nF O kind pkg name).2.2.2.2.2/\(nF O kind pkg name).2.2.2.2.2<=O.length/\((nF O kind pkg name).2.2.2.2.2=0->nF O kind pkg name=xG kind pkg name):=by
 suffices h:∀(O:List rM) (e:mX) (b:Nat),0<=e.2.2.2.2.2/\e.2.2.2.2.2<=b/\(e.2.2.2.2.2=0->e=xG kind pkg name)->
   0<=(O.foldl (lR kind pkg name) e).2.2.2.2.2/\(O.foldl (lR kind pkg name) e).2.2.2.2.2<=(b+O.length:Nat)/\((O.foldl (lR kind pkg name) e).2.2.2.2.2=0->O.foldl (lR kind pkg name) e=xG kind pkg name) by
  intro O
  have:=h O (xG kind pkg name) 0 ⟨gW _,gW _,fun _=>rfl⟩
  rw[kT] at this
  exact this
 intro O
 induction O with
 |nil=>intro e b h;exact h
 |cons o O c=>
  intro e b h
  rw[gG]
  have:=c (lR kind pkg name e o) (b+1) (by
   unfold lR
   split
   .split
    .exact⟨(by show(0:Int)<=1;decide),by show(1:Int)<=_;omega,fun h=>by simp at h⟩
    rename_i hc
    refine⟨by show(0:Int)<=e.2.2.2.2.2+1;omega,by show e.2.2.2.2.2+1<=_;omega,fun a=> ?_⟩
    have a:e.2.2.2.2.2+1=0:=a
    omega
   exact⟨h.1,by omega,h.2.2⟩)
  rw[jC,show b+(O.length+1)=b+1+O.length by omega]
  exact this
theorem MapE.step{M:List (K3×mX)}{O:List rM}(h:MapE M O)(f:O.length<1000000)(o:rM):MapE (qPh M o) (O++[o]):=by
 refine⟨qVw h.1 _ _,fun kind pkg name=> ?_⟩
 have g:=qGt kind pkg name O
 have c:nF (O++[o]) kind pkg name=lR kind pkg name (nF O kind pkg name) o:=by
  unfold nF;rw[fW];rfl
 unfold qPh
 rw[qXk h.1,c]
 by_cases hk:uL kind pkg name=zO o
 .rw[if_pos hk,<-hk,h.2 kind pkg name]
  unfold lR
  rw[if_pos hk.symm]
  obtain⟨a,b,d⟩:=ND hk
  by_cases hc:(nF O kind pkg name).2.2.2.2.2=0
  .rw[if_pos hc,if_pos hc,if_neg (show ¬(1:Int)=0 by decide),<-a,<-b]
  rw[if_neg hc,if_neg hc,if_neg (show ¬(nF O kind pkg name).2.2.2.2.2+1=0 by omega)]
  simp only[bB (show-9223372036854775808<=(nF O kind pkg name).2.2.2.2.2+1 by omega) aa]
 have a:lR kind pkg name (nF O kind pkg name) o=nF O kind pkg name:=by unfold lR;rw[if_neg (fun e=>hk e.symm)]
 rw[if_neg hk,h.2 kind pkg name,a]
theorem XY{L:List bS}{x:BA×Sr}(h:x∈oJ L):∃f∈L,uH f=true/\x=(f.1,(lD f.2).1):=by
 unfold oJ at h
 obtain⟨f,a,rfl⟩:=gL.1 h
 exact⟨f,(gQ.1 a).1,(gQ.1 a).2,rfl⟩
theorem qJv(L:List bS):(oJ L).length<=L.length:=by
 unfold oJ;rw[gA];exact List.length_filter_le _ _
def CX:mX:=(lE,lE,0,lE,0,0)
def bT(L:List bS)(kind:Int)(pkg name:BA):mX:=if lB L=0 then nF (oK (oJ L)) kind pkg name else CX
theorem WX{α τ σ β:Type}{L:List α}(enc:τ->Nat->σ){f:σ->Option (σ⊕β)}(g:Nat->τ->α->τ)(fin:τ->β)(I:Nat->τ->Prop)
  (a:∀t i,∀hi:i<L.length,I i t->f (enc t i)=some (.inl (enc (g i t L[i]) (i+1)))/\I (i+1) (g i t L[i]))
  (b:∀t,I L.length t->f (enc t L.length)=some (.inr (fin t))):∀(d i M:Nat) (t:τ),i+d=L.length->d<M->I i t->aB f M (enc t i)=some (fin (DA g i t (L.drop i)))/\I L.length (DA g i t (L.drop i))
 |_,_,0,_,_,h,_=>absurd h (kK _)
 |0,i,M+1,t,e,k,c=>by
  have hi:i=L.length:=by omega
  subst hi
  simp only[aB,b t c,j0,List.drop_length,DA]
  exact⟨trivial,c⟩
 |d+1,i,M+1,t,e,k,c=>by
  have hi:i<L.length:=by omega
  obtain⟨l,n⟩:=a t i hi c
  simp only[aB,l,j0]
  rw[uS hi]
  exact WX enc g fin I a b d (i+1) M _ aa aa n
def OT(L:List bS)(p:BA):Sr×Bool:=match(if lB L=0 then mH L p else none) with
 |some b=>if CI p then((lD b).1,decide ((lD b).2.2=0)) else(uE,false)
 |none=>(uE,false)
theorem qEq{N:Nat}{L:List bS}{p:BA}(a:1000005<N):LQ N L p=some (OT L p):=by
 simp only[LQ,HR p (show 100<N by omega),j0,qTn (show 100<N by omega),qVc _ a]
 unfold OT pN
 by_cases hc:lB L=0
 .rw[if_pos hc,if_pos hc]
  cases hg:mH L p with
  |none=>rfl
  |some b=>
   simp only[qPr]
   by_cases hs:CI p=true
   .rw[if_pos hs,hs]
    simp only[kY,jA,jG,j0]
    congr 2
   have hs':CI p=false:=by simpa using hs
   rw[if_neg hs,hs']
   rfl
 rw[if_neg hc,if_neg hc];rfl
theorem qKu{L:List bS}(a:lB L=0){f:bS}(b:f∈L):(OT L f.1).2=uH f/\(uH f=true->(OT L f.1).1=(lD f.2).1):=by
 unfold OT
 rw[if_pos a,qFe (yW.1 a).2.1 b]
 simp only[uH]
 by_cases hs:CI f.1=true
 .rw[if_pos hs,hs];exact⟨by simp,fun _=>rfl⟩
 rw[if_neg hs]
 have hs':CI f.1=false:=by simpa using hs
 rw[hs'];exact⟨rfl,fun h=>by simp at h⟩
def AX(t:List BA×List Sr)(f:bS):List BA×List Sr:=if uH f then(t.1++[f.1],t.2++[(lD f.2).1]) else t
theorem XI:∀(L:List bS) (P:List BA) (S:List Sr),L.foldl AX (P,S)=(P++(oJ L).map (·.1),S++(oJ L).map (·.2))
 |[],P,S=>by simp[oJ]
 |f::L,P,S=>by
  rw[gG]
  by_cases h:uH f=true
  .have el:oJ (f::L)=(f.1,(lD f.2).1)::oJ L:=by unfold oJ;rw[fQ,if_pos h];rfl
   rw[show AX (P,S) f=(P++[f.1],S++[(lD f.2).1]) by unfold AX;rw[if_pos h],XI L,el]
   simp
  have el:oJ (f::L)=oJ L:=by unfold oJ;rw[fQ,if_neg h]
  rw[show AX (P,S) f=(P,S) by unfold AX;rw[if_neg h],XI L,el]
def eG(L:List bS):List (BA×Sr):=if lB L=0 then oJ L else[]
theorem XF{N:Nat}{L:List bS}(c:1000005<N):HF N L=some ((eG L).map (·.1),(eG L).map (·.2)):=by
 simp only[HF,EG (show 100<N by omega),j0]
 unfold eG
 by_cases hc:lB L=0
 .rw[if_neg (by simp[hc]),if_pos hc]
  have d:=(yW.1 hc).1
  have h:=sK (L:=L) (fun(t:List BA×List Sr) (i:Nat)=>((i:Int),t.1,t.2)) (f:=LE N L)
   (fun t f=> .inl (AX t f)) (fun t=>(t.1,t.2)) (fun i t=>t.1.length<=i/\t.2.length<=i) (by
    intro t i hi a
    simp only[LE]
    rw[if_pos ad,cQ hi]
    have ew:IntKind.wrap .i64 ((i:Int)+1)=((i+1:Nat):Int):=by rw[bB aa aa];omega
    have b:=qKu hc (jM hi)
    simp only[j0,qEq c,ew,b.1]
    unfold AX
    by_cases h1:uH L[i]=true
    .rw[if_pos h1,if_pos h1,mC ag aa]
     simp only[j0]
     rw[mC ag aa]
     simp only[j0,b.2 h1]
    .rw[if_neg h1,if_neg h1];rfl) (by
    intro t i hi t' a h
    cases h
    unfold AX
    split
    .simp only[jB,jC,jD];omega
    .omega) (by
    intro t a
    simp only[LE]
    rw[if_neg ae]) (M:=N) (t:=([],[])) aa ⟨jW _,jW _⟩
  rw[show((0:Nat):Int)=0 from rfl] at h
  rw[h,EQ AX (fun _ _=>rfl),XI]
  simp only[jP,j0]
 rw[if_pos (by simpa using hc),if_neg hc];rfl
theorem qHd(kind:Int)(pkg name path p:BA):∀(l:List Dl) (i:Nat) (e:mX),
  DA (fun i e (d:Dl)=>lR kind pkg name e (p,d.2.1,d.1,path,(i:Int))) i e l=(sO path p i l).foldl (lR kind pkg name) e
 |[],_,_=>rfl
 |d::l,i,e=>by simp only[DA,sO,gG];exact qHd kind pkg name path p l (i+1) _
theorem qBq{kind:Int}{pkg name path p:BA}(b:kind≠3)(c:p≠pkg):∀(l:List Dl) (i:Nat) (e:mX),(sO path p i l).foldl (lR kind pkg name) e=e
 |[],_,_=>rfl
 |d::l,i,e=>by
  have:lR kind pkg name e (p,d.2.1,d.1,path,(i:Int))=e:=by
   unfold lR
   rw[if_neg]
   intro h
   obtain⟨f,g,a⟩:=ND h
   rcases a with a|a
   .exact b (by rw[<-f];exact a)
   exact c a
  simp only[sO,gG,this]
  exact qBq b c l (i+1) e
def EntI(kind:Int)(name:BA)(b:Nat)(e:mX):Prop:=e.2.1=name/\e.2.2.1=kind/\0<=e.2.2.2.2.2/\e.2.2.2.2.2<=(b:Int)
theorem EntI.see{kind:Int}{pkg name:BA}{b:Nat}{e:mX}(h:EntI kind name b e)(o:rM):EntI kind name (b+1) (lR kind pkg name e o):=by
 obtain⟨a,c,d,f⟩:=h
 unfold lR
 split
 .split
  .exact⟨rfl,rfl,(by show(0:Int)<=1;decide),(by show(1:Int)<=_;omega)⟩
  exact⟨a,c,(by show(0:Int)<=e.2.2.2.2.2+1;omega),(by show e.2.2.2.2.2+1<=_;omega)⟩
 exact⟨a,c,d,by omega⟩
theorem qVj{N:Nat}{P:List BA×List Sr}{kind:Int}{pkg name path:BA}{s1:Int×BA×BA×Int×Int}{x:Sr}(s:aO P.1 s1.1=some path)(q:kind=3\/x.1=pkg)
  (v:x.2.2.length<=64) (t:1000<N) {b:Nat} (u:b<1000000) {e:mX} (c:EntI kind name b e):
  aB (GO N P kind name s1 x) N (0,e.1,e.2.2.2.1,e.2.2.2.2.1,e.2.2.2.2.2)=some (((sO path x.1 0 x.2.2).foldl (lR kind pkg name) e).1,((sO path x.1 0 x.2.2).foldl (lR kind pkg name) e).2.2.2.1,((sO path x.1 0 x.2.2).foldl (lR kind pkg name) e).2.2.2.2.1,((sO path x.1 0 x.2.2).foldl (lR kind pkg name) e).2.2.2.2.2)
  /\EntI kind name (b+64) ((sO path x.1 0 x.2.2).foldl (lR kind pkg name) e):=by
 have:=WX (L:=x.2.2) (fun(e:mX) (i:Nat)=>((i:Int),e.1,e.2.2.2.1,e.2.2.2.2.1,e.2.2.2.2.2)) (f:=GO N P kind name s1 x)
  (fun i e (d:Dl)=>lR kind pkg name e (x.1,d.2.1,d.1,path,(i:Int))) (fun e=>(e.1,e.2.2.2.1,e.2.2.2.2.1,e.2.2.2.2.2)) (fun i e=>EntI kind name (b+i) e) (by
   intro e i hi c
   refine⟨?_,c.see _⟩
   obtain⟨n,o,p,r⟩:=c
   simp only[GO]
   rw[if_pos ad,cQ hi]
   have ew:IntKind.wrap .i64 ((i:Int)+1)=((i+1:Nat):Int):=by rw[bB aa aa];omega
   have ec:IntKind.wrap .i64 (e.2.2.2.2.2+1)=e.2.2.2.2.2+1:=bB aa aa
   simp only[j0,ew,ec,uO,s]
   have a:zO (x.1,(x.2.2[i]).2.1,(x.2.2[i]).1,path,(i:Int))=uL kind pkg name↔(x.2.2[i]).1=kind/\(x.2.2[i]).2.1=name:=by
    constructor
    .intro h;obtain⟨g,k,-⟩:=ND h;exact⟨g,k⟩
    rintro⟨g,k⟩
    unfold zO uL
    simp only[g,k]
    rcases q with rfl|rfl
    .rfl
    rfl
   unfold lR
   by_cases k:(x.2.2[i]).1=kind
   .rw[if_pos (show((x.2.2[i]).1==kind)=true by simp[k])]
    simp only[j0,j7]
    by_cases l:(x.2.2[i]).2.1=name
    .rw[if_pos l,if_pos (a.2 ⟨k,l⟩)]
     by_cases g:e.2.2.2.2.2=0
     .rw[if_pos (by simp[g]),if_pos g,g];rfl
     rw[if_neg (show ¬(e.2.2.2.2.2+1==1)=true by rw[kI];omega),if_neg g];rfl
    rw[if_neg l,if_neg (fun h=>l (a.1 h).2)];rfl
   .rw[if_neg (show ¬((x.2.2[i]).1==kind)=true by simp[k])]
    simp only[j0,jA,jG]
    rw[if_neg (fun h=>k (a.1 h).1)]) (by
   intro e _
   simp only[GO]
   rw[if_neg ae]) x.2.2.length 0 N e aa aa c
 rw[kC,qHd] at this
 refine⟨this.1,?_⟩
 obtain⟨n,o,p,r⟩:=this.2
 exact⟨n,o,p,by omega⟩
theorem qFg(kind:Int)(pkg name:BA):∀(l:List (BA×Sr)) (i:Nat) (e:mX),
  DA (fun _ e (x:BA×Sr)=>(sO x.1 x.2.1 0 x.2.2.2).foldl (lR kind pkg name) e) i e l=(oK l).foldl (lR kind pkg name) e
 |[],_,_=>rfl
 |x::l,i,e=>by
  simp only[DA,oK,kL,fW]
  exact qFg kind pkg name l (i+1) _
theorem HX{N:Nat}{l:List (BA×Sr)}(kind:Int)(pkg name:BA)(t:l.length<=64)(s:∀x∈l,x.2.2.2.length<=64)(r:1000<N):
  wP N (l.map (·.1),l.map (·.2)) kind pkg name=some (nF (oK l) kind pkg name):=by
 unfold wP
 have h:=WX (L:=l) (fun(e:mX) (i:Nat)=>((i:Int),e.1,e.2.2.2.1,e.2.2.2.2.1,e.2.2.2.2.2)) (f:=GQ N (l.map (·.1),l.map (·.2)) kind pkg name)
  (fun _ e (x:BA×Sr)=>(sO x.1 x.2.1 0 x.2.2.2).foldl (lR kind pkg name) e) (fun e=>(e.1,e.2.2.2.1,e.2.2.2.2.1,e.2.2.2.2.2)) (fun i e=>EntI kind name (64*i) e) (by
   intro e i hi k
   have n:i<(l.map (·.1)).length:=by simpa using hi
   have o:i<(l.map (·.2)).length:=by simpa using hi
   have ew:IntKind.wrap .i64 ((i:Int)+1)=((i+1:Nat):Int):=by rw[bB aa aa];omega
   have ex:aO (l.map (·.1)) (i:Int)=some (l[i]).1:=by rw[cQ n];simp
   simp only[GQ]
   rw[if_pos ad,cQ o]
   simp only[j0,ew,dY,uO]
   by_cases hs:kind≠3/\(l[i]).2.1≠pkg
   .rw[if_pos (show(kind !=3)=true by simp[hs.1])]
    simp only[j0]
    rw[if_pos (by simp[hs.2]),qBq hs.1 hs.2]
    refine⟨rfl,?_⟩
    obtain⟨g,c,a,d⟩:=k
    exact⟨g,c,a,by omega⟩
   .have d:kind=3\/(l[i]).2.1=pkg:=by
     by_cases h:kind=3
     .exact .inl h
     exact .inr (Decidable.byContradiction fun c=>hs ⟨h,c⟩)
    have a:=qVj (N:=N) (P:=(l.map (·.1),l.map (·.2))) (s1:=((i:Int),e.1,e.2.2.2.1,e.2.2.2.2.1,e.2.2.2.2.2)) (x:=(l[i]).2) (path:=(l[i]).1) (pkg:=pkg) ex d (s _ (jM hi)) r (b:=64*i) aa k
    have q:(if(kind !=3)then some (!decide ((l[i]).2.1=pkg)) else some false:Option Bool)=some false:=by
     rcases d with h|h
     .rw[if_neg (by simp[h])]
     by_cases p:kind=3
     .rw[if_neg (by simp[p])]
     rw[if_pos (by simp[p]),jR h];rfl
    rw[q]
    simp only[j0,jA,jG,a.1]
    refine⟨trivial,?_⟩
    rw[show 64*(i+1)=64*i+64 by omega]
    exact a.2) (by
   intro e _
   simp only[GQ]
   rw[if_neg ae]) l.length 0 N (xG kind pkg name) aa aa ⟨rfl,rfl,gW _,gW _⟩
 rw[kC,qFg] at h
 have e0:(if(kind==3)then some (⟨#[]⟩:BA) else some pkg)=some (xG kind pkg name).1:=by
  unfold xG
  by_cases h:kind=3
  .rw[if_pos (by simp[h]),if_pos h];rfl
  rw[if_neg (by simp[h]),if_neg h]
 rw[e0]
 simp only[j0]
 refine Eq.trans (congrArg (fun z=>Option.bind z _) (show aB (GQ N (l.map (·.1),l.map (·.2)) kind pkg name) N (0,(xG kind pkg name).1,(⟨#[]⟩:BA),0,0)=_ from h.1)) ?_
 have g:=h.2.1
 have c:=h.2.2.1
 unfold nF
 simp only[j0]
 exact congrArg some (Prod.ext rfl (Prod.ext g.symm (Prod.ext c.symm rfl)))
theorem AH(L:List bS):(eG L).length<=64/\∀x∈eG L,x.2.2.2.length<=64:=by
 unfold eG
 by_cases hc:lB L=0
 .rw[if_pos hc]
  refine⟨gJ (qJv L) (yW.1 hc).1,fun x a=> ?_⟩
  obtain⟨f,_,_,rfl⟩:=XY a
  exact qHc
 rw[if_neg hc];exact⟨jW _,fun x a=>by cases a⟩
theorem qFb{N:Nat}{L:List bS}(kind:Int)(pkg name:BA)(a:1000005<N):HH N L kind pkg name=some (bT L kind pkg name):=by
 simp only[HH,EG (show 100<N by omega),j0]
 unfold bT
 by_cases hc:lB L=0
 .rw[if_neg (by simp[hc]),if_pos hc,XF a]
  simp only[j0]
  rw[HX kind pkg name (AH L).1 (AH L).2 aa]
  simp only[j0]
  rw[show eG L=oJ L by unfold eG;rw[if_pos hc]]
 rw[if_pos (by simpa using hc),if_neg hc];rfl
def nC(E:BA->mX)(name:BA):List BA->List K3->mX×List K3×Int
 |[],acc=>(CX,acc,11)
 |p::l,acc=>
  if(E p).2.2.2.2.2=0 then nC E name l (acc++[(1,p,name)])
  else if 1<(E p).2.2.2.2.2 then(CX,acc++[(1,p,name)],12)
  else(E p,acc++[(1,p,name)],0)
theorem vV(L:List bS)(kind:Int)(pkg name:BA):0<=(bT L kind pkg name).2.2.2.2.2:=by
 unfold bT
 split
 .exact(qGt kind pkg name _).1
 exact gW _
theorem qEp{N:Nat}{L:List bS}{name:BA}{l:List BA}(b:lB L=0)(n:l.length<1000)(g:1000005<N):∀(d i M:Nat) (acc:List K3),i+d=l.length->d<M->acc.length<=i->
  (aB (KP N ((eG L).map (·.1),(eG L).map (·.2)) name l) M (acc,(i:Int))).bind (fun c=>(match c with| .inl o=>some (((⟨#[]⟩:BA),(⟨#[]⟩:BA),(0:Int),(⟨#[]⟩:BA),(0:Int),(0:Int)),o,(11:Int))| .inr (z)=>some z))=
  some (nC (fun p=>bT L 1 p name) name (l.drop i) acc)
 |_,_,0,_,_,h,_=>absurd h (kK _)
 |0,i,M+1,acc,a,e,f=>by
  simp only[aB,KP]
  rw[if_neg ad,jU aa]
  rfl
 |d+1,i,M+1,acc,a,e,f=>by
  have hi:i<l.length:=by omega
  have k:∀p,wP N ((eG L).map (·.1),(eG L).map (·.2)) 1 p name=some (bT L 1 p name):=by
   intro p
   rw[HX 1 p name (AH L).1 (AH L).2 aa]
   unfold bT eG
   rw[if_pos b,if_pos b]
  simp only[aB,KP]
  rw[if_pos ad,cQ hi,uS hi]
  have ew:IntKind.wrap .i64 ((i:Int)+1)=((i+1:Nat):Int):=by rw[bB aa aa];omega
  simp only[j0,ew]
  rw[mC ag aa]
  simp only[j0,k,nC]
  have q:=vV L 1 (l[i]) name
  by_cases h0:(bT L 1 (l[i]) name).2.2.2.2.2=0
  .rw[if_neg (show ¬((bT L 1 (l[i]) name).2.2.2.2.2==1)=true by rw[h0];decide),if_neg (show ¬decide ((bT L 1 (l[i]) name).2.2.2.2.2>1)=true by rw[h0];decide),if_pos h0]
   simp only[j0]
   exact qEp b n g d (i+1) M _ aa aa ai
  rw[if_neg h0]
  by_cases a:1<(bT L 1 (l[i]) name).2.2.2.2.2
  .rw[if_neg (show ¬((bT L 1 (l[i]) name).2.2.2.2.2==1)=true by rw[kI];omega),if_pos (jR a),if_pos a];rfl
  rw[if_pos (show((bT L 1 (l[i]) name).2.2.2.2.2==1)=true by rw[kI];omega),if_neg a];rfl
end
section
open Go Go.Dc
abbrev Hd:=Int×Int×Int×BA
inductive Rose where
 |mk (h:Hd) (ks:List Rose)
def Rose.hd:Rose->Hd
 | .mk h _=>h
def Rose.ks:Rose->List Rose
 | .mk _ ks=>ks
mutual
def Rose.size:Rose->Nat
 | .mk _ ks=>cM ks+1
def cM:List Rose->Nat
 |[]=>0
 |t::l=>t.size+cM l
end
def eO:Nat->List Rose->List Int
 |_,[]=>[]
 |b,t::l=>((b+t.size-1:Nat):Int)::eO (b+t.size) l
def iS(h:Hd)(args:List Int):Ex:=(h.1,h.2.1,h.2.2.1,h.2.2.2,args)
mutual
def Rose.flat(b:Nat):Rose->List Ex
 | .mk h ks=>lH b ks++[iS h (eO b ks)]
def lH(b:Nat):List Rose->List Ex
 |[]=>[]
 |t::l=>t.flat b++lH (b+t.size) l
end
theorem Rose.pos(t:Rose):0<t.size:=by cases t;unfold Rose.size;omega
mutual
theorem lP(t:Rose)(b:Nat):(t.flat b).length=t.size:=by
 match t with
 | .mk h ks=>unfold Rose.flat Rose.size;rw[jB,IA ks b];rfl
theorem IA(l:List Rose)(b:Nat):(lH b l).length=cM l:=by
 match l with
 |[]=>rfl
 |t::l=>unfold lH cM;rw[jB,lP t b,IA l (b+t.size)]
end
theorem xT:∀(l:List Rose) (b:Nat),(eO b l).length=l.length
 |[],_=>rfl
 |t::l,b=>by simp only[eO,jC,xT l]
theorem XQ:∀(l k:List Rose),cM (l++k)=cM l+cM k
 |[],k=>by rw[jP,show cM []=0 from rfl,kT]
 |t::l,k=>by
  have a:=XQ l k
  rw[jT,show cM (t::(l++k))=t.size+cM (l++k) from rfl,show cM (t::l)=t.size+cM l from rfl];omega
theorem XX:∀(l k:List Rose) (b:Nat),eO b (l++k)=eO b l++eO (b+cM l) k
 |[],k,b=>by simp[eO,cM]
 |t::l,k,b=>by
  rw[jT]
  simp only[eO,cM,XX l k,jT]
  rw[gS]
theorem YD:∀(l k:List Rose) (b:Nat),lH b (l++k)=lH b l++lH (b+cM l) k
 |[],k,b=>by simp[lH,cM]
 |t::l,k,b=>by
  rw[jT]
  simp only[lH,cM,YD l k,jE]
  rw[gS]
theorem WT:∀l:List Rose,l.length<=cM l
 |[]=>jW _
 |t::l=>by
  have:=WT l
  have:=t.pos
  simp only[cM,jC];omega
def sR:List Ex->Nat->List Int->Option (List Int)
 |[],_,st=>some st
 |x::l,i,st=>if x.2.2.2.2.length<=st.length/\st.drop (st.length-x.2.2.2.2.length)=x.2.2.2.2 then sR l (i+1) (st.take (st.length-x.2.2.2.2.length)++[(i:Int)]) else none
theorem qWb{fs:List Rose}{h:Hd}{args:List Int}{m:Nat}(n:args.length<=fs.length)(o:fs.length-args.length=m)(e:(eO 0 fs).drop m=args):
  cM (fs.take m++[Rose.mk h (fs.drop m)])=cM fs+1/\eO 0 (fs.take m++[Rose.mk h (fs.drop m)])=(eO 0 fs).take m++[((cM fs:Nat):Int)]/\lH 0 (fs.take m++[Rose.mk h (fs.drop m)])=lH 0 fs++[iS h args]:=by
 have a:fs=fs.take m++fs.drop m:=(fD m fs).symm
 have b:(fs.take m).length=m:=by rw[kN];omega
 have c:eO 0 fs=eO 0 (fs.take m)++eO (cM (fs.take m)) (fs.drop m):=by
  conv=>lhs;rw[a]
  rw[XX,kT]
 have g:lH 0 fs=lH 0 (fs.take m)++lH (cM (fs.take m)) (fs.drop m):=by
  conv=>lhs;rw[a]
  rw[YD,kT]
 have d:cM fs=cM (fs.take m)+cM (fs.drop m):=by
  conv=>lhs;rw[a]
  rw[XQ]
 have l:(eO 0 (fs.take m)).length=m:=by rw[xT,b]
 have f:args=eO (cM (fs.take m)) (fs.drop m):=by
  rw[<-e,c,gN aa,jU aa,jP]
 have k:(eO 0 fs).take m=eO 0 (fs.take m):=by
  rw[c,gC aa,kZ aa]
 rw[k]
 refine⟨?_,?_,?_⟩
 .rw[XQ,d];simp only[cM,Rose.size];omega
 .rw[XX,kT]
  simp only[eO,Rose.size]
  rw[d,show cM (fs.take m)+(cM (fs.drop m)+1)-1=cM (fs.take m)+cM (fs.drop m) by omega]
 rw[YD,kT,g,jE]
 simp only[lH,Rose.flat,jV,<-f]
theorem qIc(x:Ex)(l:List Ex)(i:Nat)(st a:List Int)(h:x.2.2.2.2=a):sR (x::l) i st=if a.length<=st.length/\st.drop (st.length-a.length)=a then sR l (i+1) (st.take (st.length-a.length)++[(i:Int)]) else none:=by
 subst h;rfl
mutual
theorem qJs(t:Rose)(b:Nat)(rest:List Ex)(st:List Int):sR (t.flat b++rest) b st=sR rest (b+t.size) (st++[((b+t.size-1:Nat):Int)]):=by
 match t with
 | .mk h ks=>
  unfold Rose.flat
  rw[jE,qHf ks b,List.singleton_append]
  have a:(st++eO b ks).length-(eO b ks).length=st.length:=by rw[jB];omega
  rw[qIc (iS h (eO b ks)) rest (b+cM ks) (st++eO b ks) (eO b ks) rfl,if_pos ⟨by rw[jB];omega,by rw[a,dS]⟩,a,hH]
  unfold Rose.size
  rw[show b+(cM ks+1)-1=b+cM ks by omega,<-gS]
theorem qHf(l:List Rose)(b:Nat)(rest:List Ex)(st:List Int):sR (lH b l++rest) b st=sR rest (b+cM l) (st++eO b l):=by
 match l with
 |[]=>simp[lH,cM,eO]
 |t::l=>
  unfold lH
  rw[jE,qJs t b,qHf l (b+t.size)]
  simp only[cM,eO,jE,List.singleton_append]
  rw[gS]
end
def AtT(l:List Ex)(b:Nat)(t:Rose):Prop:=∃p q,l=p++t.flat b++q/\p.length=b
def AtTs(l:List Ex)(b:Nat)(ts:List Rose):Prop:=∃p q,l=p++lH b ts++q/\p.length=b
theorem AtT.whole(t:Rose):AtT (t.flat 0) 0 t:=⟨[],[],by simp,rfl⟩
theorem AtT.args{l:List Ex}{b:Nat}{h:Hd}{ks:List Rose}(g:AtT l b (.mk h ks)):l[b+cM ks]? =some (iS h (eO b ks))/\AtTs l b ks:=by
 obtain⟨p,q,rfl,rfl⟩:=g
 unfold Rose.flat
 constructor
 .rw[jE,List.getElem?_append_right aa,jE,List.getElem?_append_right (by rw[IA];omega),IA]
  rw[show p.length+cM ks-p.length-cM ks=0 by omega]
  rfl
 exact⟨p,[iS h (eO p.length ks)]++q,by simp only[jE],rfl⟩
theorem AtTs.head{l:List Ex}{b:Nat}{t:Rose}{ts:List Rose}(g:AtTs l b (t::ts)):AtT l b t/\AtTs l (b+t.size) ts:=by
 obtain⟨p,q,rfl,rfl⟩:=g
 unfold lH
 exact⟨⟨p,lH (p.length+t.size) ts++q,by simp only[jE],rfl⟩,⟨p++t.flat p.length,q,by simp only[jE],by rw[jB,lP]⟩⟩
theorem AtT.le{l:List Ex}{b:Nat}{t:Rose}(g:AtT l b t):b+t.size<=l.length:=by
 obtain⟨p,q,rfl,rfl⟩:=g
 rw[jB,jB,lP];omega
def iC(s:BA):Bool:=iR s&& !uM s
def bZ:BA:=⟨#[]⟩
theorem zGz(a b:Bool):(if a then some b else some false:Option Bool)=some (a&&b):=by cases a<;>rfl
theorem eqE(s:BA):(s.toList==(⟨#[]⟩:BA).toList)=decide (s=bZ):=oZ _ _
def qR(x:Ex):Int:=(x.2.2.2.2.length:Int)
def nX(np:Int)(x:Ex):Bool:=
 if x.1=1 then decide (x.2.2.2.1=bZ)&&(x.2.2.1==0&&(qR x==0&&(decide (x.2.1>=-9007199254740992)&&decide (x.2.1<=9007199254740992))))
 else if x.1=2 then decide (x.2.2.2.1=bZ)&&(x.2.2.1==0&&(qR x==0&&(decide (x.2.1>=0)&&decide (x.2.1<np))))
 else if x.1=3 then x.2.1==0&&(x.2.2.1==0&&iC x.2.2.2.1)
 else if x.1=4 then x.2.1==0&&(decide (x.2.2.2.1=bZ)&&(qR x==2&&(decide (x.2.2.1>=1)&&decide (x.2.2.1<=7))))
 else if x.1=5 then x.2.1==0&&(decide (x.2.2.2.1=bZ)&&(x.2.2.1==0&&qR x==3))
 else if x.1=6 then x.2.1==0&&(x.2.2.1==0&&(qR x==1&&iF x.2.2.2.1.data.toList))
 else if x.1=7\/x.1=8 then x.2.1==0&&(x.2.2.1==0&&(qR x==0&&iF x.2.2.2.1.data.toList))
 else if x.1=9 then x.2.1==0&&(x.2.2.1==0&&(qR x==0&&iR x.2.2.2.1))
 else if x.1=10 then decide (x.2.2.2.1=bZ)&&(x.2.2.1==0&&(qR x==0&&(decide (x.2.1>=0)&&decide (x.2.1<64))))
 else false
def StOk(st:List Int):Nat->List Rose->Prop
 |_,[]=>True
 |b,t::l=>st[b+t.size-1]? =some (b:Int)/\StOk st (b+t.size) l
theorem StOk.app{st:List Int}:∀{l k:List Rose} {b:Nat},StOk st b (l++k)↔StOk st b l/\StOk st (b+cM l) k
 |[],k,b=>by simp[StOk,cM]
 |t::l,k,b=>by
  rw[jT]
  simp only[StOk,cM,StOk.app (l:=l)]
  rw[and_assoc,gS]
theorem StOk.set{st:List Int}{i:Nat}{v:Int}:∀{l:List Rose} {b:Nat},StOk st b l->b+cM l<=i->StOk (st.set i v) b l
 |[],_,_,_=>trivial
 |t::l,b,h,hi=>by
  have a:=t.pos
  simp only[cM] at hi
  exact⟨by rw[List.getElem?_set_ne aa];exact h.1,h.2.set aa⟩
theorem yA{α:Type}{l:List α}{i:Nat}{v:α}(h:l[i]? =some v):aO l (i:Int)=some v:=by
 have hi:i<l.length:=by
  by_cases hl:i<l.length
  .exact hl
  rw[List.getElem?_eq_none aa] at h;cases h
 rw[cQ hi]
 rw[List.getElem?_eq_getElem hi] at h
 exact h
def oneP:Option (List Int)->Bool
 |some [_]=>true
 |_=>false
def OM(d:Dl):Bool:=d.2.2.2.all (nX (d.2.2.1.length:Int))&&oneP (sR d.2.2.2 0 [])
def CT(d:Dl):Bool:=if d.1=1\/d.1=2 then iC d.2.1 else if d.1=3 then iF d.2.1.data.toList else false
def VA(d:Dl):Bool:=d.2.2.1.all fun s=>d.1==1&&iC s
def vW(d:Dl):Bool:=CT d&&(VA d&&OM d)
def SmD(d:Dl):Prop:=d.2.1.size<=1048576/\d.2.2.1.length<2000000/\d.2.2.2.length<2000000/\∀x∈d.2.2.2,x.2.2.2.1.size<=1048576/\x.2.2.2.2.length<2000000
def SmSr(f:Sr):Prop:=f.2.1.length<2000000/\f.2.2.length<2000000/\∀d∈f.2.2,SmD d
def OY(f:Sr):Bool:=iC f.1&&(f.2.1.all iC&&f.2.2.all vW)
def pP{α:Type}[DecidableEq α]:List α->List α->Bool
 |_,[]=>false
 |seen,x::l=>decide (x∈seen)||pP (seen++[x]) l
def nZ{α:Type}[DecidableEq α](l:List α):Bool:=pP [] l
abbrev KA:=Int×BA
instance decMemN(s:KA)(l:List KA):Decidable (s∈l):=@List.instDecidableMemOfLawfulBEq KA instBEqOfDecidableEq inferInstance s l
def pU(d:Dl):KA:=(d.1,d.2.1)
def AP(f:Sr):Bool:=f.2.2.any (fun d=>nZ d.2.2.1)||(decide (f.1∈f.2.1)||(nZ f.2.1||nZ (f.2.2.map pU)))
def yD:List Ex->List Rose->List Rose
 |[],fs=>fs
 |x::l,fs=>yD l (fs.take (fs.length-x.2.2.2.2.length)++[Rose.mk (x.1,x.2.1,x.2.2.1,x.2.2.2.1) (fs.drop (fs.length-x.2.2.2.2.length))])
def zJ(l:List Ex):Option Rose:=match yD l [] with
 |[t]=>some t
 |_=>none
theorem qLn:∀(l:List Ex) (fs:List Rose) {st:List Int},sR l (cM fs) (eO 0 fs)=some st->lH 0 (yD l fs)=lH 0 fs++l/\st=eO 0 (yD l fs)
 |[],fs,st,h=>⟨by simp[yD],(kG h).symm⟩
 |x::l,fs,st,h=>by
  rw[qIc x _ _ _ x.2.2.2.2 rfl] at h
  split at h
  .rename_i hc
   obtain⟨a,b⟩:=hc
   rw[xT] at a b h
   obtain⟨c,d,e⟩:=qWb (h:=(x.1,x.2.1,x.2.2.1,x.2.2.2.1)) a rfl b
   rw[<-c,<-d] at h
   obtain⟨f,g⟩:=qLn l _ h
   exact⟨by rw[yD,f,e,jE];rfl,g⟩
  cases h
theorem ZC{l:List Ex}(h:oneP (sR l 0 [])=true):∃t,zJ l=some t/\l=t.flat 0:=by
 cases a:sR l 0 [] with
 |none=>rw[a] at h;cases h
 |some st=>
  rw[a] at h
  obtain⟨b,e⟩:=qLn l [] a
  have c:st.length=1:=by
   match st,h with
   |[x],_=>rfl
  rw[e,xT] at c
  obtain⟨t,d⟩:=List.length_eq_one_iff.1 c
  refine⟨t,by unfold zJ;rw[d],?_⟩
  rw[d] at b
  simpa[lH] using b.symm
mutual
def Rose.deepen(d:Nat):Rose->Nat
 | .mk h ks=>max d (tX (if h.1=4 then d else d+1) ks)
def tX(d:Nat):List Rose->Nat
 |[]=>0
 |t::l=>max (t.deepen d) (tX d l)
end
def US(dp:List Int)(a:List Int)(v:Int):List Int:=a.foldl (fun dp a=>dp.set a.toNat v) dp
theorem qIh{j:Nat}{v:Int}:∀(ks:List Rose) (b:Nat) (dp:List Int),j<b->(US dp (eO b ks) v)[j]? =dp[j]?
 |[],_,_,_=>rfl
 |t::l,b,dp,h=>by
  have a:=t.pos
  show(US (dp.set (((b+t.size-1:Nat):Int)).toNat v) (eO (b+t.size) l) v)[j]? =_
  rw[qIh l (b+t.size) _ aa,jQ,List.getElem?_set_ne aa]
def DpOk(dp:List Int):Nat->List (Rose×Nat)->Prop
 |_,[]=>True
 |b,p::l=>(∃v:Int,dp[b+p.1.size-1]? =some v/\(v=(p.2:Int)\/v=0/\p.2=1))/\DpOk dp (b+p.1.size) l
theorem DpOk.app{dp:List Int}:∀{l k:List (Rose×Nat)} {b:Nat},DpOk dp b (l++k)↔DpOk dp b l/\DpOk dp (b+cM (l.map (·.1))) k
 |[],k,b=>by simp[DpOk,cM]
 |t::l,k,b=>by
  rw[jT]
  simp only[DpOk,kF,cM,DpOk.app (l:=l)]
  rw[and_assoc,gS]
theorem DpOk.congr{dp dp':List Int}:∀{l:List (Rose×Nat)} {b:Nat},DpOk dp b l->(∀j,j<b+cM (l.map (·.1))->dp'[j]? =dp[j]?)->DpOk dp' b l
 |[],_,_,_=>trivial
 |t::l,b,h,a=>by
  have e:=t.1.pos
  simp only[kF,cM] at a
  refine⟨?_,h.2.congr fun j h=>a j aa⟩
  obtain⟨v,c,d⟩:=h.1
  exact⟨v,by rw[a _ aa];exact c,d⟩
theorem DpOk.kids{d:Nat}:∀{ks:List Rose} {b:Nat} {dp:List Int},b+cM ks<=dp.length->DpOk (US dp (eO b ks) (d:Int)) b (ks.map fun t=>(t,d))
 |[],_,_,_=>trivial
 |t::l,b,dp,h=>by
  have a:=t.pos
  simp only[cM] at h
  show DpOk (US (dp.set (((b+t.size-1:Nat):Int)).toNat d) (eO (b+t.size) l) d) b ((t,d)::l.map fun t=>(t,d))
  refine⟨⟨d,?_,.inl rfl⟩,DpOk.kids (by rw[dQ];omega)⟩
  rw[qIh l (b+t.size) _ (by show b+t.size-1<b+t.size;omega),jQ,List.getElem?_set_self aa]
def IW(l:List Ex):Bool:=match zJ l with
 |some t=>decide (32<t.deepen 1)
 |none=>false
def AY(d:Dl):Bool:=decide (8<d.2.2.1.length)||(decide (256<d.2.2.2.length)||IW d.2.2.2)
def IY(f:Sr):Bool:=decide (8<f.2.1.length)||(decide (64<f.2.2.length)||f.2.2.any AY)
def zD(f:Sr):Int:=if OY f then if AP f then 10 else if IY f then 2 else 0 else 9
end
end Go.Proofs.YteclmpmonbnooaaGreatDoor
namespace Go.Dc
section
def rN(n:Int):BA:=⟨(Lib.itoa n).toArray⟩
end
end Go.Dc
namespace Go.Proofs.YteclmpmonbnooaaGreatDoor
section
open Go Go.Dc Go.Proofs
def iH(h:Hd):Int:=if h.1=5 then 0 else if h.1=4 then(if h.2.2.1=6\/h.2.2.1=7 then 1 else if h.2.2.1=1\/h.2.2.1=2 then 2 else 3) else 4
def iJ(h:Hd)(k:Nat):Int:=if h.1=4 then(if k=0 then(if iH h=1 then 2 else iH h) else iH h+1) else 0
def zGr:List (Int×BA):=[(1,⟨#[43]⟩),(2,⟨#[45]⟩),(3,⟨#[42]⟩),(4,⟨#[47]⟩),(5,⟨#[37]⟩),(6,⟨#[60]⟩),(7,⟨#[61,61]⟩)]
def qP(op:Int):BA:=(uC (some zGr) op).getD ⟨#[]⟩
def zEz:List (Int×BA):=[(7,⟨#[115,105,122,101]⟩),(8,⟨#[104,97,115]⟩),(9,⟨#[101,110,118]⟩)]
def pO(k:Int):BA:=(uC (some zEz) k).getD ⟨#[]⟩
def tI:List UInt8:=[105,102,32]
def tThen:List UInt8:=[32,116,104,101,110,32]
def tElse:List UInt8:=[32,101,108,115,101,32]
def qF(k:Nat):List UInt8:=if k=0 then[] else[44,32]
def rD:Nat->List (List UInt8)->List UInt8
 |_,[]=>[]
 |k,w::ws=>qF k++(w++rD (k+1) ws)
def qD(ps:List BA)(h:Hd)(ws:List (List UInt8)):List UInt8:=
 if h.1=1 then(rN h.2.1).data.toList
 else if h.1=2 then(ps.getD h.2.1.toNat ⟨#[]⟩).data.toList
 else if h.1=4 then ws.getD 0 []++((((⟨#[32]⟩:BA)++qP h.2.2.1)++(⟨#[32]⟩:BA)).data.toList++ws.getD 1 [])
 else if h.1=5 then tI++(ws.getD 0 []++(tThen++(ws.getD 1 []++(tElse++ws.getD 2 []))))
 else if h.1=3 then(h.2.2.2++(⟨#[40]⟩:BA)).data.toList++(rD 0 ws++[41])
 else if h.1=6 then(((⟨#[114,101,97,100,40,34]⟩:BA)++h.2.2.2)++(⟨#[34,44,32]⟩:BA)).data.toList++(ws.getD 0 []++[41])
 else if h.1=10 then(((⟨#[102,108,105,112,40]⟩:BA)++rN h.2.1)++(⟨#[41]⟩:BA)).data.toList
 else(((pO h.1++(⟨#[40,34]⟩:BA))++h.2.2.2)++(⟨#[34,41]⟩:BA)).data.toList
mutual
def Rose.wr(ps:List BA)(need:Int):Rose->List UInt8
 | .mk h ks=>if iH h<need then 40::(qD ps h (lT ps h 0 ks)++[41]) else qD ps h (lT ps h 0 ks)
def lT(ps:List BA)(h:Hd)(k:Nat):List Rose->List (List UInt8)
 |[]=>[]
 |t::l=>t.wr ps (iJ h k)::lT ps h (k+1) l
end
mutual
def Rose.dep(need:Int)(d:Nat):Rose->Nat
 | .mk h ks=>max (if iH h<need then d+1 else d) (sB h 0 (if h.1=4 then(if iH h<need then d+1 else d) else(if iH h<need then d+1 else d)+1) ks)
def sB(h:Hd)(k d:Nat):List Rose->Nat
 |[]=>0
 |t::l=>max (t.dep (iJ h k) d) (sB h (k+1) d l)
end
theorem lA{x y:BA}(h:x.size+y.size<=1000000000):bG x y=some (x++y):=by
 unfold bG
 rw[if_pos (gJ h ac)]
theorem lM(x:BA):x.data.toList.length=x.size:=by simp
theorem zGx(m d:Nat):(if(d:Int)>(m:Int) then(d:Int) else(m:Int))=((max m d:Nat):Int):=by
 split<;>omega
section
variable (N:Nat) (l:List Ex) (ps:List BA)
variable {N l ps}
theorem qIk{np:Int}{x:Ex}(h:nX np x=true):
  (x.1=1/\x.2.2.2.2.length=0/\-9007199254740992<=x.2.1/\x.2.1<=9007199254740992/\x.2.2.1=0/\x.2.2.2.1=bZ)\/(x.1=2/\x.2.2.2.2.length=0/\0<=x.2.1/\x.2.1<np/\x.2.2.1=0/\x.2.2.2.1=bZ)\/(x.1=3/\iC x.2.2.2.1=true/\x.2.1=0/\x.2.2.1=0)\/(x.1=4/\x.2.2.2.2.length=2/\1<=x.2.2.1/\x.2.2.1<=7/\x.2.1=0/\x.2.2.2.1=bZ)\/
  (x.1=5/\x.2.2.2.2.length=3/\x.2.1=0/\x.2.2.1=0/\x.2.2.2.1=bZ)\/(x.1=6/\x.2.2.2.2.length=1/\iF x.2.2.2.1.data.toList=true/\x.2.1=0/\x.2.2.1=0)\/((x.1=7\/x.1=8)/\x.2.2.2.2.length=0/\iF x.2.2.2.1.data.toList=true/\x.2.1=0/\x.2.2.1=0)\/(x.1=9/\x.2.2.2.2.length=0/\iR x.2.2.2.1=true/\x.2.1=0/\x.2.2.1=0)\/
  (x.1=10/\x.2.2.2.2.length=0/\0<=x.2.1/\x.2.1<64/\x.2.2.1=0/\x.2.2.2.1=bZ):=by
 unfold nX qR at h
 by_cases h1:x.1=1
 .simp only[if_pos h1,jK,j7,kI] at h
  exact .inl ⟨h1,by omega,h.2.2.2.1,h.2.2.2.2,h.2.1,h.1⟩
 rw[if_neg h1] at h
 by_cases h2:x.1=2
 .simp only[if_pos h2,jK,j7,kI] at h
  exact .inr (.inl ⟨h2,by omega,h.2.2.2.1,h.2.2.2.2,h.2.1,h.1⟩)
 rw[if_neg h2] at h
 by_cases h3:x.1=3
 .simp only[if_pos h3,jK,j7,kI] at h
  exact .inr (.inr (.inl ⟨h3,h.2.2,h.1,h.2.1⟩))
 rw[if_neg h3] at h
 by_cases h4:x.1=4
 .simp only[if_pos h4,jK,j7,kI] at h
  exact .inr (.inr (.inr (.inl ⟨h4,by omega,h.2.2.2.1,h.2.2.2.2,h.1,h.2.1⟩)))
 rw[if_neg h4] at h
 by_cases h5:x.1=5
 .simp only[if_pos h5,jK,j7,kI] at h
  exact .inr (.inr (.inr (.inr (.inl ⟨h5,by omega,h.1,h.2.2.1,h.2.1⟩))))
 rw[if_neg h5] at h
 by_cases h6:x.1=6
 .simp only[if_pos h6,jK,j7,kI] at h
  exact .inr (.inr (.inr (.inr (.inr (.inl ⟨h6,by omega,h.2.2.2,h.1,h.2.1⟩)))))
 rw[if_neg h6] at h
 by_cases h7:x.1=7\/x.1=8
 .simp only[if_pos h7,jK,j7,kI] at h
  exact .inr (.inr (.inr (.inr (.inr (.inr (.inl ⟨h7,by omega,h.2.2.2,h.1,h.2.1⟩))))))
 rw[if_neg h7] at h
 by_cases h9:x.1=9
 .simp only[if_pos h9,jK,j7,kI] at h
  exact .inr (.inr (.inr (.inr (.inr (.inr (.inr (.inl ⟨h9,by omega,h.2.2.2,h.1,h.2.1⟩)))))))
 rw[if_neg h9] at h
 by_cases h10:x.1=10
 .simp only[if_pos h10,jK,j7,kI] at h
  exact .inr (.inr (.inr (.inr (.inr (.inr (.inr (.inr ⟨h10,by omega,h.2.2.2.1,h.2.2.2.2,h.2.1,h.1⟩)))))))
 rw[if_neg h10] at h
 cases h
end
section
variable {N:Nat} {l:List Ex} {ps:List BA}
theorem len0{b:Nat}{ks:List Rose}(h:(eO b ks).length=0):ks=[]:=by
 rw[xT] at h
 exact gI.1 h
theorem len1{b:Nat}{ks:List Rose}(h:(eO b ks).length=1):∃t,ks=[t]:=by
 rw[xT] at h
 exact List.length_eq_one_iff.1 h
theorem len2{b:Nat}{ks:List Rose}(h:(eO b ks).length=2):∃t u,ks=[t,u]:=by
 rw[xT] at h
 match ks,h with
 |[t,u],_=>exact⟨t,u,rfl⟩
theorem len3{b:Nat}{ks:List Rose}(h:(eO b ks).length=3):∃t u v,ks=[t,u,v]:=by
 rw[xT] at h
 match ks,h with
 |[t,u,v],_=>exact⟨t,u,v,rfl⟩
end
end
section
open Go Go.Dc
abbrev Ct:=Int×List UInt8
def pJ(c:Ct):List UInt8:=if c.1=3 then 34::(c.2++[34]) else c.2
theorem yX{k:Int}{l:List UInt8}(h:k≠3):pJ (k,l)=l:=by unfold pJ;rw[if_neg h]
def OP:List (List UInt8):=[[59],[44],[40],[41],[43],[45],[42],[47],[37],[60],[61],[61,61]]
def sE(c:Ct):Prop:=(c.1=1/\(∃x l,c.2=x::l/\kd x=1)/\(∀x∈c.2,bN [1,2,3] x=true)/\c.2.length<=24)\/(c.1=2/\c.2≠[]/\(∀x∈c.2,bN [2] x=true)/\sQ c.2<=9007199254740992)\/
 (c.1=3/\∀x∈c.2,oT x=true)\/(c.1=4/\c.2∈OP)
abbrev oV:=Int×BA×Int
def iZ(c:Ct):oV:=(c.1,if c.1=2 then⟨#[]⟩ else⟨⟨c.2⟩⟩,if c.1=2 then sQ c.2 else 0)
def iV(t:bD):oV:=(t.1,t.2.1,t.2.2.1)
def ON(c:Ct)(x:UInt8):Bool:=if c.1=1 then !bN [1,2,3] x else if c.1=2 then !bN [2] x else if c.2=[61] then x !=61 else true
abbrev Pc:=Ct×List UInt8
def eZ:List Pc->List UInt8
 |[]=>[]
 |p::l=>pJ p.1++(p.2++eZ l)
def lX:List Pc->Prop
 |[]=>True
 |p::l=>sE p.1/\(∀x∈p.2,bN [5] x=true)/\(∀x r,p.2++eZ l=x::r->ON p.1 x=true)/\lX l
theorem SQ{p:UInt8->Bool}:∀{a r:List UInt8},(∀x∈a,p x=true)->(∀x q,r=x::q->p x=false)->(a++r).takeWhile p=a
 |[],[],_,_=>rfl
 |[],x::q,_,h=>by rw[jP,fA (by rw[h x q rfl];simp)]
 |x::a,r,b,c=>by rw[jT,gM (b x (jF ..)),SQ (fun y d=>b y (jH _ d)) c]
theorem OA{p:UInt8->Bool}{pre a r:List UInt8}(b:∀x∈a,p x=true)(c:∀x q,r=x::q->p x=false):tw p (pre++(a++r)) pre.length=pre.length+a.length:=by
 unfold tw
 rw[dS,SQ b c]
theorem zC{pre:List UInt8}{x:UInt8}{r:List UInt8}:(pre++x::r).getD pre.length 0=x:=by
 rw[jS,List.getElem?_append_right (jN _),Nat.sub_self];rfl
theorem ZX{s:BA}{pre a r:List UInt8}(h:s.data.toList=pre++(a++r)):s.extract pre.length (pre.length+a.length)=⟨⟨a⟩⟩:=
 ByteArray.ext (Array.ext' (by
  simp only[ByteArray.data_extract,fV,gU]
  rw[h,dS,Nat.add_sub_cancel_left,hH]))
theorem qKm{l:List UInt8}(h:l∈OP):(∃x,l=[x]/\kd x=8)\/l=[61,61]:=by
 simp only[OP,jJ,gE,hU] at h
 rcases h with rfl|rfl|rfl|rfl|rfl|rfl|rfl|rfl|rfl|rfl|rfl|rfl<;>first|exact .inr rfl|exact .inl ⟨_,rfl,by kernel_rfl⟩
theorem UO{k:Int}{x:UInt8}:bN [k] x=true↔kd x=k:=by simp[bN]
theorem qYp{c:Ct}(h:sE c):∃x r,pJ c=x::r/\(kd x=1\/kd x=2\/kd x=7\/kd x=8):=by
 obtain⟨k,l⟩:=c
 rcases h with ⟨rfl,⟨x,r,b,a⟩,-,-⟩|⟨rfl,b,a,-⟩|⟨rfl,b⟩|⟨rfl,b⟩
 .exact⟨x,r,by rw[yX ac];exact b,.inl a⟩
 .cases l with
  |nil=>exact absurd rfl b
  |cons x r=>exact⟨x,r,yX ac,.inr (.inl (UO.1 (a x (jF ..))))⟩
 .exact⟨34,l++[34],by unfold pJ;rw[if_pos rfl],.inr (.inr (.inl af))⟩
 rcases qKm b with ⟨x,a,d⟩|a
 .have a:l=[x]:=a
  subst a
  exact⟨x,[],yX ac,.inr (.inr (.inr d))⟩
 have a:l=[61,61]:=a
 subst a
 exact⟨61,[61],yX ac,.inr (.inr (.inr af))⟩
theorem zBw{s:BA}{pre r:List UInt8}{c:Ct}(D:sE c)(b:s.data.toList=pre++(pJ c++r))(A:∀x q,r=x::q->ON c x=true):
  iT s pre.length=(((iZ c).1,(iZ c).2.1,(iZ c).2.2,0),((pre.length+(pJ c).length:Nat):Int),0):=by
 obtain⟨k,l⟩:=c
 rcases D with ⟨rfl,⟨x,q,d,a⟩,n,B⟩|⟨rfl,d,a,n⟩|⟨rfl,d⟩|⟨rfl,d⟩
 .have eb:pJ (1,l)=l:=yX ac
  rw[eb] at b ⊢
  have d:l=x::q:=d
  have e0:s.data.toList.getD pre.length 0=x:=by rw[b,d];exact zC
  have o:tw (bN [1,2,3]) s.data.toList pre.length=pre.length+l.length:=by
   rw[b]
   exact OA n fun y z p=>by have:=A y z p;simpa[ON] using this
  have B:l.length<=24:=B
  unfold iT
  rw[if_pos (by rw[e0];exact a),o,if_neg aa,ZX b]
  rfl
 .have eb:pJ (2,l)=l:=yX ac
  rw[eb] at b ⊢
  have d:l≠[]:=d
  have n:sQ l<=9007199254740992:=n
  obtain⟨x,q,e⟩:∃x q,l=x::q:=by cases l with
   |nil=>exact absurd rfl d
   |cons x q=>exact⟨x,q,rfl⟩
  have e0:s.data.toList.getD pre.length 0=x:=by rw[b,e];exact zC
  have f:kd x=2:=UO.1 (a x (by show x∈l;rw[e];exact jF ..))
  have t:∀y z,r=y::z->bN [2] y=false:=fun y z p=>by have:=A y z p;simpa[ON] using this
  have o:tw (bN [2]) s.data.toList pre.length=pre.length+l.length:=by
   rw[b];exact OA a t
  have v:(s.data.toList.drop pre.length).takeWhile (bN [2])=l:=by
   rw[b,dS];exact SQ a t
  unfold iT
  rw[if_neg (by rw[e0,f];decide),if_pos (by rw[e0];exact f),o,v,if_neg aa]
  rfl
 .have eb:pJ (3,l)=34::(l++[34]):=by unfold pJ;rw[if_pos rfl]
  rw[eb] at b ⊢
  have e0:s.data.toList.getD pre.length 0=34:=by rw[b];exact zC
  have f:kd 34=7:=by kernel_rfl
  have u:s.data.toList=(pre++[34])++(l++(34::r)):=by rw[b];simp
  have t:(pre++[34]).length=pre.length+1:=by simp
  have o:tw oT s.data.toList (pre.length+1)=pre.length+1+l.length:=by
   rw[u,<-t]
   exact OA d fun y z p=>by cases p;rfl
  have v:s.data.toList.getD (pre.length+1+l.length) 0=34:=by
   rw[b,show pre++(34::(l++[34])++r)=(pre++34::l)++34::r by simp,show pre.length+1+l.length=(pre++34::l).length by simp;omega]
   exact zC
  have p:=ZX u
  rw[t] at p
  unfold iT
  rw[if_neg (by rw[e0,f];decide),if_neg (by rw[e0,f];decide),if_pos (by rw[e0];exact f),o,if_pos v,p]
  unfold iZ
  simp only[jC,jB,jD]
  rw[show pre.length+1+l.length+1=pre.length+(l.length+(0+1)+1) by omega]
  rfl
 have eb:pJ (4,l)=l:=yX ac
 rw[eb] at b ⊢
 have t:∀{x:UInt8},kd x=8->kd x≠1/\kd x≠2/\kd x≠7:=fun h=>by rw[h];decide
 have key:∀x q,l=x::q->kd x=8->uD s.data.toList pre.length=pre.length+l.length->iT s pre.length=(((iZ (4,l)).1,(iZ (4,l)).2.1,(iZ (4,l)).2.2,0),((pre.length+l.length:Nat):Int),0):=fun x q e f p=>by
  have e0:s.data.toList.getD pre.length 0=x:=by rw[b,e];exact zC
  obtain⟨o,u,v⟩:=t f
  unfold iT
  rw[if_neg (by rw[e0];exact o),if_neg (by rw[e0];exact u),if_neg (by rw[e0];exact v),if_pos (by rw[e0];exact f),p,ZX b]
  rfl
 rcases qKm d with ⟨x,a,n⟩|a
 .have a:l=[x]:=a
  refine key x [] a n ?_
  have e0:s.data.toList.getD pre.length 0=x:=by rw[b,a];exact zC
  unfold uD
  rw[if_neg,a]
  .rfl
  rw[e0]
  rintro⟨rfl,g⟩
  cases r with
  |nil=>
   rw[b,a,jS,List.getElem?_eq_none ae] at g
   cases g
  |cons y z=>
   have o:s.data.toList.getD (pre.length+1) 0=y:=by
    rw[b,a,show pre++([61]++y::z)=(pre++[61])++y::z by simp,show pre.length+1=(pre++[(61:UInt8)]).length by simp]
    exact zC
   have:=A y z rfl
   simp only[ON,a] at this
   rw[o] at g
   simp[g] at this
 have a:l=[61,61]:=a
 refine key 61 [61] a af ?_
 have e0:s.data.toList.getD pre.length 0=61:=by rw[b,a];exact zC
 have o:s.data.toList.getD (pre.length+1) 0=61:=by
  rw[b,a,show pre++([61,61]++r)=(pre++[61])++61::r by simp,show pre.length+1=(pre++[(61:UInt8)]).length by simp]
  exact zC
 unfold uD
 rw[if_pos ⟨e0,o⟩,a]
 rfl
theorem XJ{s:BA}:∀(ps:List Pc) (pre bl:List UInt8) (k:Nat),s.data.toList=pre++(bl++eZ ps)->(∀x∈bl,bN [5] x=true)->lX ps->ps.length<k->
  ∃ts,oM k s pre.length= .inr ts/\ts.map iV=ps.map (fun p=>iZ p.1)++[(5,⟨#[]⟩,0)]
 |_,_,_,0,_,_,_,h=>absurd h (kK _)
 |[],pre,bl,k+1,n,g,_,_=>by
  have hs':s.data.toList=pre++(bl++[]):=n
  have e:tw (bN [5]) s.data.toList pre.length=s.data.toList.length:=by
   rw[hs',OA g fun x q h=>by cases h]
   simp
  refine⟨[(5,⟨#[]⟩,0,(s.data.toList.length:Int))],?_,rfl⟩
  unfold oM
  rw[e,if_pos rfl]
 |p::ps,pre,bl,k+1,n,g,F,G=>by
  obtain⟨t,B,D,E⟩:=F
  obtain⟨x,r,d,o⟩:=qYp t
  have H:bN [5] x=false:=by
   cases h:bN [5] x with
   |false=>rfl
   |true=>have:=UO.1 h;rcases o with f|f|f|f<;>rw[f] at this<;>cases this
  have K:kd x≠6:=by rcases o with f|f|f|f<;>rw[f]<;>decide
  have a:s.data.toList=pre++(bl++(pJ p.1++(p.2++eZ ps))):=n
  have b:s.data.toList=(pre++bl)++(pJ p.1++(p.2++eZ ps)):=by rw[a];simp
  have v:s.data.toList=(pre++bl++pJ p.1)++(p.2++eZ ps):=by rw[a];simp
  have c:(pre++bl).length=pre.length+bl.length:=by simp
  have A:tw (bN [5]) s.data.toList pre.length=pre.length+bl.length:=by
   rw[a]
   refine OA g fun y q h=> ?_
   rw[d] at h
   cases h
   exact H
  have e0:s.data.toList.getD (pre.length+bl.length) 0=x:=by
   rw[b,d,<-c];exact zC
  have l:s.data.toList.length≠pre.length+bl.length:=by
   rw[b,d];simp only[jB,jC];omega
  have z:=zBw t b D
  rw[c] at z
  obtain⟨ts,t1,t2⟩:=XJ ps (pre++bl++pJ p.1) p.2 k v B E (by simp only[jC] at G;omega)
  have u:(pre++bl++pJ p.1).length=pre.length+bl.length+(pJ p.1).length:=by simp;omega
  refine⟨((iZ p.1).1,(iZ p.1).2.1,(iZ p.1).2.2,((pre.length+bl.length:Nat):Int))::ts,?_,?_⟩
  .unfold oM
   rw[A,if_neg (Ne.symm l),if_neg (by rw[e0];exact K),z]
   simp only[uB,not_true_eq_false,jG,jQ]
   rw[<-u,t1]
  rw[kF,t2];rfl
end
section
open Go Go.Dc Go.Proofs
theorem UM:∀i:Fin 10,bN [2] (UInt8.ofNat (48+i.val))=true/\(UInt8.ofNat (48+i.val)).toNat=48+i.val:=by decide+kernel
theorem TQ{n:Nat}(h:¬n<10):Lib.decDigits n=Lib.decDigits (n/10)++[UInt8.ofNat (48+n%10)]:=by rw[Lib.decDigits,dif_neg h]
theorem qXz(n:Nat):∀x∈Lib.decDigits n,bN [2] x=true:=by
 induction n using Nat.strongRecOn with
 |_ n b=>
  intro x a
  by_cases h:n<10
  .rw[Lib.decDigits_one h,jL] at a
   rw[a];exact(UM ⟨n,h⟩).1
  rw[TQ h] at a
  rcases kJ.1 a with a|a
  .exact b (n/10) aa x a
  rw[jL] at a
  rw[a];exact(UM ⟨n%10,by omega⟩).1
theorem zFg(n:Nat):Lib.decDigits n≠[]:=by
 intro h
 have:=Lib.decDigits_length n
 rw[h] at this
 have:=Lib.nDigits_pos n
 simp only[jD] at*;omega
theorem qKr(n:Nat)(b:n<=9007199254740992):sQ (Lib.decDigits n)=(n:Int):=by
 induction n using Nat.strongRecOn with
 |_ n a=>
  by_cases h:n<10
  .rw[Lib.decDigits_one h]
   have:=(UM ⟨n,h⟩).2
   show DG 0 (UInt8.ofNat (48+n))=_
   unfold DG
   simp only at this
   rw[this,if_neg aa];omega
  rw[TQ h,XV,a (n/10) aa aa]
  have:=(UM ⟨n%10,by omega⟩).2
  simp only at this
  unfold DG
  rw[this,if_neg aa];omega
theorem FB:∀(k n:Nat),n<10^(k+1)->(Lib.decDigits n).length<=k+1
 |0,n,h=>by rw[Lib.decDigits_one (by simpa using h)];exact jN _
 |k+1,n,h=>by
  by_cases h10:n<10
  .rw[Lib.decDigits_one h10];simp
  rw[hZ] at h
  have:=FB k (n/10) aa
  rw[TQ h10,jB,gD];omega
theorem CJ(n:Nat):(rN (n:Int)).data.toList=Lib.decDigits n:=by
 unfold rN Lib.itoa
 rw[if_neg aa,jQ]
theorem xA{x y:BA}(h:x.data.toList=y.data.toList):x=y:=ByteArray.ext (Array.ext' h)
theorem pI(x y:BA):(x++y).data.toList=x.data.toList++y.data.toList:=by
 rw[ByteArray.data_append,Array.toList_append]
theorem zDf:∀i:Fin 10,((⟨#[48,49,50,51,52,53,54,55,56,57]⟩:BA).extract i.val (i.val+1)).data.toList=[UInt8.ofNat (48+i.val)]:=by decide+kernel
theorem MY{s:BA}(h:iR s=true):s.size<=24:=by
 have:=(gH h).2.1
 rw[lM] at this;exact this
theorem HW{s:BA}(h:iF s.data.toList=true):s.size<=80:=by
 have:s.data.toList.length<=80:=(gH h).1
 rw[lM] at this;exact this
theorem wS{s:BA}(h:iC s=true):s.size<=24:=by
 unfold iC at h
 rw[jK] at h
 exact MY h.1
theorem qJk{op:Int}(a:1<=op)(b:op<=7):(qP op).size<=2:=by
 rcases(by omega:op=1\/op=2\/op=3\/op=4\/op=5\/op=6\/op=7) with rfl|rfl|rfl|rfl|rfl|rfl|rfl<;>decide+kernel
theorem qHw{k:Int}(h:k=7\/k=8\/k=9):(pO k).size<=4:=by
 rcases h with rfl|rfl|rfl<;>decide+kernel
theorem UI{n:Int}(a: -9007199254740992<=n)(b:n<=9007199254740992):(rN n).size<=17:=by
 rw[<-lM]
 show(Lib.itoa n).length<=17
 unfold Lib.itoa
 split
 .have:=FB 15 n.natAbs aa
  simp only[jC];omega
 have:=FB 15 n.toNat aa
 omega
def qT(ws:List (List UInt8)):Nat:=(ws.map fun w=>w.length+2).sum
theorem MW:∀(ws:List (List UInt8)) (k:Nat),(rD k ws).length<=qT ws
 |[],_=>jW _
 |w::ws,k=>by
  have b:=MW ws (k+1)
  have a:(qF k).length<=2:=by unfold qF;split<;>simp
  unfold qT at*
  simp only[rD,jB,kF,dF];omega
theorem zBr{ps:List BA}{h:Hd}{ks:List Rose}{b:Nat}(B:∀s∈ps,s.size<=24)(D:nX (ps.length:Int) (iS h (eO b ks))=true):(qD ps h (lT ps h 0 ks)).length<=100+qT (lT ps h 0 ks):=by
 rcases qIk D with ⟨k,a,d,p,-,-⟩|⟨k,a,d,p,-,-⟩|⟨k,a,-,-⟩|⟨k,a,d,p,-,-⟩|⟨k,a,-,-,-⟩|⟨k,a,d,-,-⟩|⟨k,a,d,-,-⟩|⟨k,a,d,-,-⟩|⟨k,a,d,p,-,-⟩
 all_goals (try simp only[iS] at k)<;>(try simp only[iS] at a)
 .have:(rN h.2.1).size<=17:=UI d p
  unfold qD
  rw[if_pos k,lM];omega
 .have c:h.1≠1:=by omega
  try simp only[iS] at d p
  have f:h.2.1.toNat<ps.length:=by omega
  have e:ps.getD h.2.1.toNat ⟨#[]⟩=ps[h.2.1.toNat]:=by rw[jS,List.getElem?_eq_getElem f];rfl
  have:=B _ (jM f)
  unfold qD
  rw[if_neg c,if_pos k,e,lM];omega
 .have c:h.1≠1:=by omega
  have f:h.1≠2:=by omega
  have l:h.1≠4:=by omega
  have o:h.1≠5:=by omega
  have g:=wS a
  have A:=MW (lT ps h 0 ks) 0
  have x:(⟨#[40]⟩:BA).size=1:=rfl
  unfold qD
  rw[if_neg c,if_neg f,if_neg l,if_neg o,if_pos k]
  try simp only[iS] at g
  simp only[jB,lM,ByteArray.size_append,jC,jD];omega
 .obtain⟨t,u,rfl⟩:=len2 a
  have c:h.1≠1:=by omega
  have f:h.1≠2:=by omega
  have g:=qJk d p
  have x:(⟨#[32]⟩:BA).size=1:=rfl
  try simp only[iS] at g
  unfold qD
  rw[if_neg c,if_neg f,if_pos k]
  simp only[lT,qT,kF,List.map_nil,dF,List.sum_nil,List.getD_cons_zero,List.getD_cons_succ,jB,lM,ByteArray.size_append];omega
 .obtain⟨t,u,v,rfl⟩:=len3 a
  have c:h.1≠1:=by omega
  have f:h.1≠2:=by omega
  have l:h.1≠4:=by omega
  have q:tI.length=3:=rfl
  have r:tThen.length=6:=rfl
  have y:tElse.length=6:=rfl
  unfold qD
  rw[if_neg c,if_neg f,if_neg l,if_pos k]
  simp only[lT,qT,kF,List.map_nil,dF,List.sum_nil,List.getD_cons_zero,List.getD_cons_succ,jB];omega
 .obtain⟨t,rfl⟩:=len1 a
  have c:h.1≠1:=by omega
  have f:h.1≠2:=by omega
  have l:h.1≠4:=by omega
  have o:h.1≠5:=by omega
  have r:h.1≠3:=by omega
  have g:=HW d
  have x:(⟨#[114,101,97,100,40,34]⟩:BA).size=6:=rfl
  have z:(⟨#[34,44,32]⟩:BA).size=3:=rfl
  try simp only[iS] at g
  unfold qD
  rw[if_neg c,if_neg f,if_neg l,if_neg o,if_neg r,if_pos k]
  simp only[lT,qT,kF,List.map_nil,dF,List.sum_nil,List.getD_cons_zero,jB,lM,ByteArray.size_append,jC,jD];omega
 all_goals obtain rfl:=len0 a
 all_goals have c:h.1≠1:=by omega
 all_goals have f:h.1≠2:=by omega
 all_goals have l:h.1≠4:=by omega
 all_goals have o:h.1≠5:=by omega
 all_goals have r:h.1≠3:=by omega
 all_goals have y:h.1≠6:=by omega
 .have q:h.1≠10:=by omega
  have g:=HW d
  have A:=qHw (k:=h.1) aa
  have x:(⟨#[40,34]⟩:BA).size=2:=rfl
  have z:(⟨#[34,41]⟩:BA).size=2:=rfl
  try simp only[iS] at g
  unfold qD
  rw[if_neg c,if_neg f,if_neg l,if_neg o,if_neg r,if_neg y,if_neg q]
  simp only[lM,ByteArray.size_append];omega
 .have q:h.1≠10:=by omega
  have g:=MY d
  have A:=qHw (k:=h.1) aa
  have x:(⟨#[40,34]⟩:BA).size=2:=rfl
  have z:(⟨#[34,41]⟩:BA).size=2:=rfl
  try simp only[iS] at g
  unfold qD
  rw[if_neg c,if_neg f,if_neg l,if_neg o,if_neg r,if_neg y,if_neg q]
  simp only[lM,ByteArray.size_append];omega
 try simp only[iS] at d p
 have g:=UI (n:=h.2.1) aa aa
 have x:(⟨#[102,108,105,112,40]⟩:BA).size=5:=rfl
 have z:(⟨#[41]⟩:BA).size=1:=rfl
 unfold qD
 rw[if_neg c,if_neg f,if_neg l,if_neg o,if_neg r,if_neg y,if_pos k]
 simp only[lM,ByteArray.size_append];omega
mutual
theorem qBc{ps:List BA}(a:∀s∈ps,s.size<=24)(t:Rose)(b:Nat)(need:Int)(c:∀x∈t.flat b,nX (ps.length:Int) x=true):(t.wr ps need).length+2<=110*t.size:=by
 match t with
 | .mk h ks=>
  have e:=qMi a ks h 0 b (fun x d=>c x (by unfold Rose.flat;exact kE _ d))
  have f:=zBr (b:=b) a (c (iS h (eO b ks)) (by unfold Rose.flat;exact kW _ (jF ..)))
  simp only[Rose.wr,Rose.size]
  split
  .simp only[jC,jB,jD];omega
  omega
theorem qMi{ps:List BA}(a:∀s∈ps,s.size<=24)(l:List Rose)(h:Hd)(k b:Nat)(d:∀x∈lH b l,nX (ps.length:Int) x=true):qT (lT ps h k l)<=110*cM l:=by
 match l with
 |[]=>exact jW _
 |t::l=>
  have e:=qBc a t b (iJ h k) (fun x c=>d x (by unfold lH;exact kE _ c))
  have f:=qMi a l h (k+1) (b+t.size) (fun x c=>d x (by unfold lH;exact kW _ c))
  simp only[lT,qT,kF,dF,cM] at*
  omega
end
def yI(d:Dl):List UInt8:=match zJ d.2.2.2 with
 |some t=>t.wr d.2.2.1 0
 |none=>[]
def vH(d:Dl):Nat:=match zJ d.2.2.2 with
 |some t=>t.dep 0 1
 |none=>0
structure GoodD(d:Dl):Prop where
 head:CT d=true
 pars:∀s∈d.2.2.1,d.1=1/\iC s=true
 nodes:∀x∈d.2.2.2,nX (d.2.2.1.length:Int) x=true
 tree:oneP (sR d.2.2.2 0 [])=true
theorem qLf{d:Dl}(h:vW d=true):GoodD d:=by
 unfold vW VA OM at h
 simp only[jK,jZ,kI] at h
 exact⟨h.1,h.2.1,h.2.2.1,h.2.2.2⟩
def IV(l:List BA):BA:=⟨⟨rD 0 (l.map fun s=>s.data.toList)⟩⟩
def AR(d:Dl):BA:=
 if d.1=1 then((((⟨#[102,117,110,99,32]⟩:BA)++d.2.1)++(⟨#[40]⟩:BA))++IV d.2.2.1)++(⟨#[41]⟩:BA)
 else if d.1=2 then(⟨#[116,101,115,116,32]⟩:BA)++d.2.1
 else((⟨#[103,101,110,32,34]⟩:BA)++d.2.1)++(⟨#[34]⟩:BA)
def rY(d:Dl):List UInt8:=(AR d).data.toList++(((⟨#[32,61,32]⟩:BA)++eJ (yI d))++(⟨#[59,10]⟩:BA)).data.toList
def zP(s:BA):List UInt8:=(((⟨#[112,97,99,107,97,103,101,32]⟩:BA)++s)++(⟨#[59,10]⟩:BA)).data.toList
def qH(s:BA):List UInt8:=(((⟨#[105,109,112,111,114,116,32]⟩:BA)++s)++(⟨#[59,10]⟩:BA)).data.toList
def FZ(f:Sr):List UInt8:=(zP f.1++f.2.1.flatMap qH)++f.2.2.flatMap rY
theorem qGq{α:Type}(g:α->List UInt8):∀(l:List α) (t:List UInt8),l.foldl (fun t x=>t++g x) t=t++l.flatMap g
 |[],t=>by simp
 |x::l,t=>by rw[gG,qGq g l,kL,jE]
structure GoodS(f:Sr):Prop where
 pkg:iC f.1=true
 imps:∀s∈f.2.1,iC s=true
 impn:f.2.1.length<=8
 decn:f.2.2.length<=64
 decs:∀d∈f.2.2,GoodD d/\d.2.2.1.length<=8/\d.2.2.2.length<=256/\IW d.2.2.2=false
 once:AP f=false
theorem UB{f:Sr}(h:zD f=0):GoodS f:=by
 unfold zD at h
 split at h
 .rename_i hs
  split at h
  .cases h
  rename_i ht
  split at h
  .cases h
  rename_i a
  have a:IY f=false:=by simpa using a
  unfold OY at hs
  unfold IY at a
  simp only[jK,jZ] at hs
  simp only[kV,decide_eq_false_iff_not,fJ] at a
  refine⟨hs.1,hs.2.1,by omega,by omega,fun d c=> ?_,by simpa using ht⟩
  have b:=a.2.2 d c
  unfold AY at b
  simp only[Bool.not_eq_true,kV,decide_eq_false_iff_not] at b
  exact⟨qLf (hs.2.2 d c),by omega,by omega,b.2.2⟩
 cases h
theorem zBk{l:List BA}(h:∀s∈l,s.size<=24):(IV l).size<=26*l.length:=by
 have a:=MW (l.map fun s=>s.data.toList) 0
 have d:qT (l.map fun s=>s.data.toList)<=26*l.length:=by
  clear a
  induction l with
  |nil=>exact jW _
  |cons s l c=>
   have e:=h s (jF ..)
   have f:=c fun x b=>h x (jH _ b)
   unfold qT at*
   simp only[kF,dF,jC,lM] at*
   omega
 have b:(IV l).size=(rD 0 (l.map fun s=>s.data.toList)).length:=by rw[<-lM];rfl
 omega
theorem qLg{d:Dl}(h:GoodD d):d.2.1.size<=80:=by
 have:=h.head
 unfold CT at this
 split at this
 .have:=wS this;omega
 split at this
 .exact HW this
 cases this
theorem qLd{d:Dl}(h:GoodD d)(e:d.2.2.1.length<=8):(AR d).size<=400:=by
 have b:=qLg h
 have c:=zBk (l:=d.2.2.1) fun s a=>wS (h.pars s a).2
 have f:(⟨#[102,117,110,99,32]⟩:BA).size=5:=rfl
 have g:(⟨#[40]⟩:BA).size=1:=rfl
 have k:(⟨#[41]⟩:BA).size=1:=rfl
 have n:(⟨#[116,101,115,116,32]⟩:BA).size=5:=rfl
 have o:(⟨#[103,101,110,32,34]⟩:BA).size=5:=rfl
 have p:(⟨#[34]⟩:BA).size=1:=rfl
 unfold AR
 split
 .simp only[ByteArray.size_append];omega
 split
 .simp only[ByteArray.size_append];omega
 simp only[ByteArray.size_append];omega
theorem rU(l:List UInt8):(eJ l).data.toList=l:=rfl
theorem mG(l:List UInt8):(eJ l).size=l.length:=by rw[<-lM,rU]
section
variable {ts:List bD} {params:List BA} {E S:Ps->PM Nat} {B:Nat}
def BE(B:Nat)(l:List Ex):Prop:=∀x∈l,x.2.2.2.2.length<=B
def AZ(B:Nat)(E:Ps->PM Nat):Prop:=∀(p q:Ps) (x:Nat),BE B p.2->E p= .inr (q,x)->BE B q.2
theorem FF{t:bD}{x:Ex}{p q:Ps}{i:Nat}(b:BE B p.2)(c:x.2.2.2.2.length<=B)(h:mL t x p= .inr (q,i)):BE B q.2:=by
 obtain⟨rfl,-,-⟩:=EV h
 intro y a
 rcases kJ.1 a with a|a
 .exact b y a
 rw[jL.1 a];exact c
theorem qOq(e:AZ B E):∀(n:Nat) (l:List Int) (p q:Ps) (x:List Int),BE B p.2->tZ ts E n l p= .inr (q,x)->BE B q.2/\x.length<=l.length+n
 |0,_,_,_,_,_,c=>by cases c
 |n+1,l,p,q,x,h,c=>by
  obtain⟨a,g,d⟩:=bM (show aQ (E p) _=_ from c)
  have b:=e p a.1 a.2 h g
  split at d
  .obtain⟨k,o⟩:=qOq e n _ (a.1.1+1,a.1.2) q x b d
   exact⟨k,by simp only[jB,jC,jD] at o;omega⟩
  obtain⟨j,r,f⟩:=bM d
  obtain⟨rfl,rfl⟩:=Prod.mk.inj (Sum.inr.inj f)
  exact⟨b,by simp only[jB,jC,jD];omega⟩
theorem qVx(d:AZ B E){p q:Ps}{x:List Int}(b:BE B p.2)(c:xS ts E p= .inr (q,x)):BE B q.2/\x.length<=ts.length+1:=by
 obtain⟨i,hi,a⟩:=bM c
 split at a
 .obtain⟨rfl,rfl⟩:=Prod.mk.inj (Sum.inr.inj a)
  exact⟨b,jW _⟩
 obtain⟨e,f⟩:=qOq d _ _ (i,p.2) q x b a
 exact⟨e,by simpa using f⟩
theorem qZs(z:3<=B)(v:AZ B E){t:bD}{p q:Ps}{x:Nat}(h:BE B p.2)(o:rV ts E t p= .inr (q,x)):BE B q.2:=by
 obtain⟨i,hi,r⟩:=bM o
 obtain⟨a,f,s⟩:=bM r
 obtain⟨j,A,u⟩:=bM s
 have key:BE B a.1.2/\a.2.2.2.2.2.length<=B:=by
  split at f
  .obtain⟨b,g,e⟩:=bM f
   obtain⟨c,y,k⟩:=bM e
   obtain⟨d,l,n⟩:=bM k
   have:=v (c,p.2) d.1 d.2 h l
   obtain rfl:=Sum.inr.inj n
   exact⟨this,by show 1<=B;omega⟩
  split at f
  .obtain⟨b,g,e⟩:=bM f
   obtain rfl:=Sum.inr.inj e
   exact⟨h,jW _⟩
  split at f
  .obtain⟨b,g,e⟩:=bM f
   obtain rfl:=Sum.inr.inj e
   exact⟨h,jW _⟩
  split at f
  .obtain⟨b,g,e⟩:=bM f
   obtain rfl:=Sum.inr.inj e
   exact⟨h,jW _⟩
  obtain⟨b,g,e⟩:=bM f
  split at e
  .cases e
  obtain rfl:=Sum.inr.inj e
  exact⟨h,jW _⟩
 exact FF (p:=(j,a.1.2)) key.1 key.2 u
theorem zBd(h:ts.length+3<=B)(f:AZ B E):AZ B (nT ts params E):=by
 intro p q x c b
 unfold nT at b
 dsimp only at b
 split at b
 .exact FF (p:=(p.1+1,p.2)) c (jW _) b
 split at b
 .obtain⟨a,e,d⟩:=bM b
  exact FF (p:=(a.1,p.2)) c (jW _) d
 split at b
 .obtain⟨a,e,d⟩:=bM b
  have:=f (p.1+1,p.2) a.1 a.2 c e
  obtain⟨j,k,g⟩:=bM d
  obtain⟨rfl,rfl⟩:=Prod.mk.inj (Sum.inr.inj g)
  exact this
 split at b
 .cases b
 split at b
 .exact qZs aa f (p:=(p.1+1,p.2)) c b
 split at b
 .cases b
 split at b
 .obtain⟨a,e,d⟩:=bM b
  obtain⟨g,k⟩:=qVx f (p:=(p.1+1,p.2)) c e
  exact FF (p:=a.1) g (by show a.2.length<=B;omega) d
 split at b
 .exact FF (p:=(p.1+1,p.2)) c (jW _) b
 cases b
theorem qOz(h:3<=B){level:Nat}(d:AZ B S):∀(n x:Nat) (p q:Ps) (y:Nat),BE B p.2->nR ts level S n x p= .inr (q,y)->BE B q.2
 |0,_,_,_,_,_,b=>by cases b
 |n+1,x,p,q,y,e,b=>by
  unfold nR at b
  split at b
  .obtain⟨rfl,rfl⟩:=Prod.mk.inj (Sum.inr.inj b)
   exact e
  obtain⟨a,l,g⟩:=bM b
  have f:=d (p.1+1,p.2) a.1 a.2 e l
  obtain⟨r,o,c⟩:=bM g
  have k:BE B r.1.2:=by
   refine FF (p:=a.1) f ?_ o
   show 2<=B
   omega
  split at c
  .obtain⟨rfl,rfl⟩:=Prod.mk.inj (Sum.inr.inj c)
   exact k
  exact qOz h d n _ _ q y k c
theorem ZY(e:3<=B){level:Nat}(b:AZ B S):AZ B (qO ts level S):=by
 intro p q x g c
 obtain⟨a,f,d⟩:=bM c
 exact qOz e b _ _ _ q x (b p a.1 a.2 g f) d
theorem OH(e:ts.length+3<=B):∀k,AZ B (eP ts params k)
 |0=>fun _ _ _ _ d=>by cases d
 |k+1=>by
  intro p q x f d
  unfold eP at d
  split at d
  .obtain⟨a,y,r⟩:=bM d
   have l:=OH e k (p.1+1,p.2) a.1 a.2 f y
   obtain⟨i,hi,s⟩:=bM r
   obtain⟨b,g,t⟩:=bM s
   have n:=OH e k (i,a.1.2) b.1 b.2 l g
   obtain⟨j,z,u⟩:=bM t
   obtain⟨c,h,v⟩:=bM u
   have o:=OH e k (j,b.1.2) c.1 c.2 n h
   refine FF (p:=c.1) o ?_ v
   show 3<=B
   omega
  exact ZY aa (ZY aa (ZY aa (zBd e (OH e k)))) p q x f d
def VG(d:Dl):Prop:=d.2.2.1.length<=8/\d.2.2.2.length<=256/\BE 20000 d.2.2.2
theorem zGi(b:OkT ts)(A:ts.length<=16385){before:List Dl}{i:Nat}{a:Nat×Dl}(hi:i<ts.length)(d:pM ts before i= .inr a):VG a.2:=by
 unfold pM at d
 dsimp only at d
 split at d
 .cases d
 rename_i k1
 split at d
 .cases d
 have g:=b.next hi (show(aA ts i).1≠5 by intro e;apply k1;left;rw[e];decide)
 obtain⟨x,k,h⟩:=bM d
 have gx:x.1<ts.length:=by
  split at k
  .obtain⟨rfl,f,-⟩:=CL b g k;exact f
  obtain⟨rfl,f,-⟩:=yY b g k;exact f
 split at h
 .cases h
 obtain⟨y,l,q⟩:=bM h
 have gy:y.1<ts.length/\y.2.length<=8:=by
  split at l
  .obtain⟨-,n,f⟩:=qDq b gx l;exact⟨n,f⟩
  obtain rfl:=Sum.inr.inj l;exact⟨gx,jW _⟩
 obtain⟨j,u,r⟩:=bM q
 obtain⟨rfl,f,-⟩:=pH b gy.1 u
 obtain⟨c,n,s⟩:=bM r
 obtain⟨⟨-,-,-,o⟩,-⟩:=CH b 32 (y.1+1,[]) c.1 c.2 f ae n
 have p:=OH (B:=20000) aa 32 (y.1+1,[]) c.1 c.2 (fun z v=>by cases v) n
 obtain⟨m,D,t⟩:=bM s
 obtain rfl:=Sum.inr.inj t
 exact⟨gy.2,o,p⟩
theorem qNg(c:OkT ts)(e:ts.length<=16385):∀(n:Nat) (l:List Dl) (i:Nat) {r:List Dl},(∀d∈l,VG d)->i<ts.length->rX ts n l i= .inr r->∀d∈r,VG d
 |0,_,_,_,_,_,a=>by cases a
 |n+1,l,i,r,f,hi,a=>by
  unfold rX at a
  split at a
  .cases a;exact f
  obtain⟨x,g,k⟩:=bM a
  obtain⟨-,h,-⟩:=TD c hi g
  refine qNg c e n _ _ (fun d b=> ?_) h k
  rcases kJ.1 b with b|b
  .exact f d b
  rw[jL.1 b];exact zGi c e hi g
end
def FT(f:Sr):Prop:=f.2.1.length<=8/\f.2.2.length<=64/\∀d∈f.2.2,VG d
theorem qMq{ts:List bD}(h:OkT ts):∀(n:Nat) (l:List Dl) (i:Nat) {r:List Dl},l.length<=64->i<ts.length->rX ts n l i= .inr r->r.length<=64
 |0,_,_,_,_,_,a=>by cases a
 |n+1,l,i,r,d,hi,a=>by
  unfold rX at a
  split at a
  .cases a;exact d
  obtain⟨x,e,c⟩:=bM a
  obtain⟨-,b,f⟩:=TD h hi e
  exact qMq h n _ _ aj b c
theorem ZM:FT uE:=⟨jW _,jW _,fun d a=>by cases a⟩
theorem qJo(s:BA):FT (lD s).1:=by
 unfold lD
 by_cases h0:(mP s).2.2=0
 .rw[if_neg (not_not_intro h0)]
  obtain⟨e,g,E⟩:=MO h0
  have k:0<(mP s).1.length:=by
   cases h:(mP s).1 with
   |nil=>exact absurd h e.1
   |cons a l=>exact Nat.succ_pos _
  cases c:tH (mP s).1 with
  |inl z=>exact ZM
  |inr f=>
   simp only
   unfold tH at c
   obtain⟨i,v,c⟩:=bM c
   obtain⟨rfl,r,-⟩:=TW e k v
   obtain⟨a,x,c⟩:=bM c
   obtain⟨rfl,t,-⟩:=yY e r x
   obtain⟨j,y,c⟩:=bM c
   obtain⟨rfl,u,-⟩:=pH e t y
   obtain⟨b,A,c⟩:=bM c
   obtain⟨-,o,D⟩:=SW e _ _ _ b u ae A
   obtain⟨l,n,c⟩:=bM c
   have p:=qMq e _ _ _ ae o n
   have q:=qNg e g _ _ _ (fun d B=>by cases B) o n
   cases c
   exact⟨D,p,q⟩
 rw[if_pos h0];exact ZM
theorem zAq{P:Rose->Prop}(h:∀b ks,(∀t∈ks,P t)->P (.mk b ks))(t:Rose):P t:=by
 have key:∀(n:Nat) (t:Rose),t.size<=n->P t:=by
  intro n
  induction n with
  |zero=>intro t d;have:=t.pos;omega
  |succ n e=>
   intro t d
   match t with
   | .mk b ks=>
    refine h b ks fun u c=>e u ?_
    have g:u.size<=cM ks:=by
     clear d e h
     induction ks with
     |nil=>cases c
     |cons a l f=>
      rcases jJ.1 c with rfl|c
      .show _<=u.size+cM l;omega
      have:=f c
      show _<=a.size+cM l;omega
    have:(Rose.mk b ks).size=cM ks+1:=rfl
    omega
 exact key t.size t (jN _)
inductive Fine(np:Nat):Rose->Prop
 |num (n:Int) (h0: -9007199254740992<=n) (h1:n<=9007199254740992):Fine np (.mk (1,n,0,bZ) [])
 |par (i:Nat) (h:i<np):Fine np (.mk (2,(i:Int),0,bZ) [])
 |call (s:BA) (ks:List Rose) (h:iC s=true) (hk:∀t∈ks,Fine np t):Fine np (.mk (3,0,0,s) ks)
 |bin (op:Int) (a b:Rose) (h0:1<=op) (h1:op<=7) (ha:Fine np a) (hb:Fine np b):Fine np (.mk (4,0,op,bZ) [a,b])
 |ite (a b c:Rose) (ha:Fine np a) (hb:Fine np b) (hc:Fine np c):Fine np (.mk (5,0,0,bZ) [a,b,c])
 |read (s:BA) (a:Rose) (h:iF s.data.toList=true) (ha:Fine np a):Fine np (.mk (6,0,0,s) [a])
 |look (k:Int) (s:BA) (hk:k=7\/k=8) (h:iF s.data.toList=true):Fine np (.mk (k,0,0,s) [])
 |env (s:BA) (h:iR s=true):Fine np (.mk (9,0,0,s) [])
 |flip (n:Nat) (h:n<64):Fine np (.mk (10,(n:Int),0,bZ) [])
theorem zEu{np:Nat}(t:Rose):∀b,(∀x∈t.flat b,nX (np:Int) x=true)->Fine np t:=by
 refine zAq (P:=fun t=>∀b,(∀x∈t.flat b,nX (np:Int) x=true)->Fine np t) ?_ t
 intro z ks B b y
 have A:nX (np:Int) (iS z (eO b ks))=true:=y _ (by unfold Rose.flat;exact kW _ (jL.2 rfl))
 have q:∀t∈ks,Fine np t:=by
  have g:∀x∈lH b ks,nX (np:Int) x=true:=fun x f=>y x (by unfold Rose.flat;exact kE _ f)
  clear y A
  induction ks generalizing b with
  |nil=>intro t e;cases e
  |cons a l h=>
   intro t e
   rcases jJ.1 e with rfl|e
   .exact B t (jF ..) b fun x f=>g x (by unfold lH;exact kE _ f)
   exact h (fun u p=>B u (jH _ p)) (b+a.size) (fun x f=>g x (by unfold lH;exact kW _ f)) t e
 obtain⟨k,n,o,s⟩:=z
 have r:(iS (k,n,o,s) (eO b ks)).2.2.2.2.length=ks.length:=xT ks b
 rcases qIk A with ⟨e,h,p,g,f,v⟩|⟨e,h,p,g,f,v⟩|⟨e,h,p,g⟩|⟨e,h,p,g,f,v⟩|⟨e,h,p,g,f⟩|⟨e,h,p,g,f⟩|⟨e,h,p,g,f⟩|⟨e,h,p,g,f⟩|⟨e,h,p,g,f,v⟩
 .have e:k=1:=e
  have f:o=0:=f
  have v:s=bZ:=v
  rw[r] at h
  obtain rfl:=gI.1 h
  subst e f v
  exact .num n p g
 .have e:k=2:=e
  have f:o=0:=f
  have v:s=bZ:=v
  have p:0<=n:=p
  have g:n<(np:Int):=g
  rw[r] at h
  obtain rfl:=gI.1 h
  subst e f v
  obtain⟨i,rfl⟩:∃i:Nat,n=(i:Int):=⟨n.toNat,by omega⟩
  exact .par i aa
 .have e:k=3:=e
  have p:n=0:=p
  have g:o=0:=g
  subst e p g
  exact .call s ks h q
 .have e:k=4:=e
  have f:n=0:=f
  have v:s=bZ:=v
  rw[r] at h
  subst e f v
  match ks,h,q with
  |[a,c],_,q=>exact .bin o a c p g (q a ae) (q c ae)
 .have e:k=5:=e
  have p:n=0:=p
  have g:o=0:=g
  have f:s=bZ:=f
  rw[r] at h
  subst e p g f
  match ks,h,q with
  |[a,c,d],_,q=>exact .ite a c d (q a ae) (q c ae) (q d ae)
 .have e:k=6:=e
  have g:n=0:=g
  have f:o=0:=f
  rw[r] at h
  subst e g f
  match ks,h,q with
  |[a],_,q=>exact .read s a p (q a ae)
 .have e:k=7\/k=8:=e
  have g:n=0:=g
  have f:o=0:=f
  rw[r] at h
  obtain rfl:=gI.1 h
  subst g f
  exact .look k s e p
 .have e:k=9:=e
  have g:n=0:=g
  have f:o=0:=f
  rw[r] at h
  obtain rfl:=gI.1 h
  subst e g f
  exact .env s p
 have e:k=10:=e
 have p:0<=n:=p
 have g:n<64:=g
 have f:o=0:=f
 have v:s=bZ:=v
 rw[r] at h
 obtain rfl:=gI.1 h
 subst e f v
 obtain⟨i,rfl⟩:∃i:Nat,n=(i:Int):=⟨n.toNat,by omega⟩
 exact .flip i aa
abbrev Pf:=List UInt8->List Pc
def cG(l:List UInt8)(bl:List UInt8):Pc:=((4,l),bl)
def eM(l:List UInt8)(bl:List UInt8):Pc:=((1,l),bl)
def sW(l:List UInt8)(bl:List UInt8):Pc:=((3,l),bl)
def uG(n:Int)(bl:List UInt8):List Pc:=if n<0 then[cG [45] [],((2,Lib.decDigits n.natAbs),bl)] else[((2,Lib.decDigits n.toNat),bl)]
def nV:Nat->List Pf->List Pc
 |_,[]=>[]
 |k,w::ws=>(if k=0 then[] else[cG [44] [32]])++(w []++nV (k+1) ws)
def JO:List UInt8:=[105,102]
def IU:List UInt8:=[116,104,101,110]
def IZ:List UInt8:=[101,108,115,101]
def IX:List UInt8:=[114,101,97,100]
def CW:List UInt8:=[102,108,105,112]
def JM:Pf:=fun _=>[]
def rA(ps:List BA)(h:Hd)(ws:List Pf)(bl:List UInt8):List Pc:=
 if h.1=1 then uG h.2.1 bl
 else if h.1=2 then[eM (ps.getD h.2.1.toNat ⟨#[]⟩).data.toList bl]
 else if h.1=4 then(ws.getD 0 JM) [32]++(cG (qP h.2.2.1).data.toList [32]::(ws.getD 1 JM) bl)
 else if h.1=5 then eM JO [32]::((ws.getD 0 JM) [32]++(eM IU [32]::((ws.getD 1 JM) [32]++(eM IZ [32]::(ws.getD 2 JM) bl))))
 else if h.1=3 then eM h.2.2.2.data.toList []::cG [40] []::(nV 0 ws++[cG [41] bl])
 else if h.1=6 then eM IX []::cG [40] []::sW h.2.2.2.data.toList []::cG [44] [32]::((ws.getD 0 JM) []++[cG [41] bl])
 else if h.1=10 then eM CW []::cG [40] []::(uG h.2.1 []++[cG [41] bl])
 else[eM (pO h.1).data.toList [],cG [40] [],sW h.2.2.2.data.toList [],cG [41] bl]
mutual
def Rose.pc(ps:List BA)(need:Int)(bl:List UInt8):Rose->List Pc
 | .mk h ks=>if iH h<need then cG [40] []::(rA ps h (mK ps h 0 ks) []++[cG [41] bl]) else rA ps h (mK ps h 0 ks) bl
def mK(ps:List BA)(h:Hd)(k:Nat):List Rose->List Pf
 |[]=>[]
 |t::l=>(fun bl=>t.pc ps (iJ h k) bl)::mK ps h (k+1) l
end
theorem uU:∀(a b:List Pc),eZ (a++b)=eZ a++eZ b
 |[],_=>rfl
 |p::a,b=>by simp only[jT,eZ,uU a b,jE]
theorem qX(c:Ct)(bl:List UInt8)(l:List Pc):eZ ((c,bl)::l)=pJ c++(bl++eZ l):=rfl
theorem vM(l:List UInt8):pJ (1,l)=l:=yX ac
theorem by2(l:List UInt8):pJ (2,l)=l:=yX ac
theorem wL(l:List UInt8):pJ (4,l)=l:=yX ac
theorem PU(l:List UInt8):pJ (3,l)=34::(l++[34]):=if_pos rfl
theorem zHp(n:Int):(rN n).data.toList=Lib.itoa n:=rfl
theorem qGr(n:Int)(bl:List UInt8):eZ (uG n bl)=(rN n).data.toList++bl:=by
 rw[zHp]
 unfold uG Lib.itoa
 split
 .simp only[cG,qX,eZ,wL,by2,jV,jP,jT]
 simp only[qX,eZ,by2,jV]
theorem wJ{a:Array UInt8}:(⟨a⟩:BA).data.toList=a.toList:=rfl
theorem zGb(ps:List BA)(h:Hd)(ks:List Rose)(need:Int):(Rose.mk h ks).wr ps need=if iH h<need then 40::(qD ps h (lT ps h 0 ks)++[41]) else qD ps h (lT ps h 0 ks):=by unfold Rose.wr;rfl
theorem VK(ps:List BA)(h:Hd)(ks:List Rose)(need:Int)(bl:List UInt8):(Rose.mk h ks).pc ps need bl=if iH h<need then cG [40] []::(rA ps h (mK ps h 0 ks) []++[cG [41] bl]) else rA ps h (mK ps h 0 ks) bl:=by unfold Rose.pc;rfl
theorem AF{ps:List BA}{h:Hd}{ks:List Rose}(a:∀bl,eZ (rA ps h (mK ps h 0 ks) bl)=qD ps h (lT ps h 0 ks)++bl)(need:Int)(bl:List UInt8):eZ ((Rose.mk h ks).pc ps need bl)=(Rose.mk h ks).wr ps need++bl:=by
 rw[zGb,VK]
 split
 .simp only[cG,qX,uU,a,wL,eZ,jV,jP,jT,jE]
 exact a bl
theorem qFq(ps:List BA)(h:Hd):∀(ks:List Rose) (k:Nat),(∀t∈ks,∀need bl,eZ (t.pc ps need bl)=t.wr ps need++bl)->eZ (nV k (mK ps h k ks))=rD k (lT ps h k ks)
 |[],_,_=>rfl
 |t::ks,k,a=>by
  have c:=qFq ps h ks (k+1) fun u b=>a u (jH _ b)
  simp only[mK,lT,nV,rD,uU,c,a t (jF ..),jV]
  congr 1
  unfold qF
  split
  .rfl
  rfl
theorem qXq{ps:List BA}{np:Nat}{t:Rose}(r:Fine np t):∀need bl,eZ (t.pc ps need bl)=t.wr ps need++bl:=by
 induction r with
 |num n o p=>exact AF fun bl=>qGr n bl
 |par i h=>
  exact AF fun bl=>by
   show eZ [eM _ bl]=_++bl
   simp only[eM,qX,eZ,vM,jV]
   rfl
 |call s ks h g u=>
  exact AF fun bl=>by
   show eZ (eM s.data.toList []::cG [40] []::(nV 0 (mK ps (3,0,0,s) 0 ks)++[cG [41] bl]))=((s++(⟨#[40]⟩:BA)).data.toList++(rD 0 (lT ps (3,0,0,s) 0 ks)++[41]))++bl
   simp only[eM,cG,qX,uU,qFq ps _ ks 0 u,vM,wL,eZ,pI,wJ,jV,jP,jE,jT]
 |bin op a b o p f q d e=>
  exact AF fun bl=>by
   show eZ (a.pc ps (iJ (4,0,op,bZ) 0) [32]++(cG (qP op).data.toList [32]::b.pc ps (iJ (4,0,op,bZ) 1) bl))=(a.wr ps (iJ (4,0,op,bZ) 0)++((((⟨#[32]⟩:BA)++qP op)++(⟨#[32]⟩:BA)).data.toList++b.wr ps (iJ (4,0,op,bZ) 1)))++bl
   simp only[cG,uU,qX,d,e,wL,pI,wJ,jE,jT,jP]
 |ite a b c f q v d e l=>
  exact AF fun bl=>by
   show eZ (eM JO [32]::(a.pc ps 0 [32]++(eM IU [32]::(b.pc ps 0 [32]++(eM IZ [32]::c.pc ps 0 bl)))))=(tI++(a.wr ps 0++(tThen++(b.wr ps 0++(tElse++c.wr ps 0)))))++bl
   simp only[eM,qX,uU,d,e,l,vM,JO,IU,IZ,tI,tThen,tElse,jE,jT,jP]
 |read s a h f d=>
  exact AF fun bl=>by
   show eZ (eM IX []::cG [40] []::sW s.data.toList []::cG [44] [32]::(a.pc ps 0 []++[cG [41] bl]))=((((⟨#[114,101,97,100,40,34]⟩:BA)++s)++(⟨#[34,44,32]⟩:BA)).data.toList++(a.wr ps 0++[41]))++bl
   simp only[eM,cG,sW,qX,uU,d,vM,PU,wL,IX,eZ,pI,wJ,jV,jP,jE,jT]
 |look k s g h=>
  exact AF fun bl=>by
   rcases g with rfl|rfl
   .show eZ [eM (pO 7).data.toList [],cG [40] [],sW s.data.toList [],cG [41] bl]=((((pO 7++(⟨#[40,34]⟩:BA))++s)++(⟨#[34,41]⟩:BA)).data.toList)++bl
    simp only[eM,cG,sW,qX,vM,PU,wL,eZ,pI,wJ,jV,jP,jE,jT]
   show eZ [eM (pO 8).data.toList [],cG [40] [],sW s.data.toList [],cG [41] bl]=((((pO 8++(⟨#[40,34]⟩:BA))++s)++(⟨#[34,41]⟩:BA)).data.toList)++bl
   simp only[eM,cG,sW,qX,vM,PU,wL,eZ,pI,wJ,jV,jP,jE,jT]
 |env s h=>
  exact AF fun bl=>by
   show eZ [eM (pO 9).data.toList [],cG [40] [],sW s.data.toList [],cG [41] bl]=((((pO 9++(⟨#[40,34]⟩:BA))++s)++(⟨#[34,41]⟩:BA)).data.toList)++bl
   simp only[eM,cG,sW,qX,vM,PU,wL,eZ,pI,wJ,jV,jP,jE,jT]
 |flip n h=>
  exact AF fun bl=>by
   show eZ (eM CW []::cG [40] []::(uG (n:Int) []++[cG [41] bl]))=((((⟨#[102,108,105,112,40]⟩:BA)++rN (n:Int))++(⟨#[41]⟩:BA)).data.toList)++bl
   simp only[eM,cG,qX,uU,qGr,vM,wL,CW,eZ,pI,wJ,jV,jP,jE,jT]
theorem qAs{p:UInt8->Bool}:∀{l:List UInt8} (x:UInt8),x∈l.takeWhile p->p x=true
 |[],_,h=>by cases h
 |y::l,x,h=>by
  rw[List.takeWhile_cons] at h
  split at h
  .rename_i hy
   rcases jJ.1 h with rfl|h
   .exact hy
   exact qAs x h
  cases h
theorem qJj{s:BA}(h:iR s=true):(∃x l,s.data.toList=x::l/\kd x=1)/\(∀x∈s.data.toList,bN [1,2,3] x=true)/\s.data.toList.length<=24:=by
 unfold iR at h
 obtain⟨b,e,c,a⟩:=gH h
 refine⟨?_,?_,e⟩
 .cases d:s.data.toList with
  |nil=>rw[d] at b;cases b
  |cons x l=>rw[d] at c;exact⟨x,l,rfl,c⟩
 unfold tw at a
 rw[kC,kT] at a
 have f:s.data.toList.takeWhile (bN [1,2,3])=s.data.toList:=(dA _).eq_of_length a
 intro x d
 rw[<-f] at d
 exact qAs x d
theorem EW{s:BA}(h:iR s=true):sE (1,s.data.toList):=by
 obtain⟨a,b,c⟩:=qJj h
 exact .inl ⟨rfl,a,b,c⟩
theorem EJ{s:BA}(h:iC s=true):iR s=true:=by
 unfold iC at h
 simp only[jK] at h
 exact h.1
theorem cls:(List.range 256).all (fun i=>(!bN [1,2,3,4] (UInt8.ofNat i)||(oT (UInt8.ofNat i)&&decide (i≠61)))&&(decide (i≠47)||oT (UInt8.ofNat i)))=true:=by kernel_rfl
theorem qAd{x:UInt8}(h:bN [1,2,3,4] x=true\/x=47):oT x=true/\x≠61:=by
 have:=jZ.1 cls x.toNat (hJ.2 x.toNat_lt)
 have e:UInt8.ofNat x.toNat=x:=by simp
 rw[e] at this
 simp only[jK,fM,fK,j7] at this
 rcases h with h|rfl
 .rcases this.1 with g|⟨a,b⟩
  .rw[h] at g;cases g
  exact⟨a,fun e=>b (by rw[e];rfl)⟩
 exact⟨by kernel_rfl,by decide⟩
theorem zFl:∀{l:List UInt8} {x:UInt8},x∈l->x=47\/∃p∈sp l,x∈p:=by
 intro l
 induction l with
 |nil=>intro x a;cases a
 |cons y l e=>
  intro x a
  by_cases hy:y=47
  .rcases jJ.1 a with rfl|a
   .exact .inl hy
   rcases e a with g|⟨p,b,d⟩
   .exact .inl g
   refine .inr ⟨p,?_,d⟩
   unfold sp
   rw[if_pos hy]
   exact jH _ b
  cases c:sp l with
  |nil=>exact absurd c (FO l)
  |cons q r=>
   rcases jJ.1 a with rfl|a
   .refine .inr ⟨x::q,?_,jF ..⟩
    unfold sp
    rw[if_neg hy,c]
    exact jF ..
   rcases e a with g|⟨p,b,d⟩
   .exact .inl g
   rw[c] at b
   rcases jJ.1 b with rfl|b
   .refine .inr ⟨y::p,?_,jH _ d⟩
    unfold sp
    rw[if_neg hy,c]
    exact jF ..
   refine .inr ⟨p,?_,d⟩
   unfold sp
   rw[if_neg hy,c]
   exact jH _ b
theorem ZR{l:List UInt8}(h:iF l=true):(∀x∈l,oT x=true)/\l≠[61]:=by
 unfold iF at h
 obtain⟨-,-,d⟩:=gH h
 have key:∀x∈l,oT x=true/\x≠61:=fun x a=>by
  rcases zFl a with g|⟨p,b,c⟩
  .exact qAd (.inr g)
  exact qAd (.inl ((d p b).2.2 x c))
 exact⟨fun x a=>(key x a).1,fun e=>(key 61 (by rw[e];exact jF ..)).2 rfl⟩
theorem zBb{s:BA}(h:iR s=true):(∀x∈s.data.toList,oT x=true)/\s.data.toList≠[61]:=by
 obtain⟨-,b,-⟩:=qJj h
 have key:∀x∈s.data.toList,oT x=true/\x≠61:=fun x a=>by
  refine qAd (.inl ?_)
  have:=b x a
  unfold bN at this ⊢
  simp only[dI,List.any_nil,Bool.or_false,fM] at this ⊢
  rcases this with g|g|g
  .exact .inl g
  .exact .inr (.inl g)
  exact .inr (.inr (.inl g))
 exact⟨fun x a=>(key x a).1,fun e=>(key 61 (by rw[e];exact jF ..)).2 rfl⟩
def tK(l:List UInt8):Bool:=match l with|[]=>true|x::_=> !bN [1,2,3] x
theorem qLp{l:List UInt8}(h:tK l=true):∀x r,l=x::r->bN [1,2,3] x=false:=fun x r e=>by
 subst e
 simpa[tK] using h
theorem zAw{l:List UInt8}(h:tK l=true):∀x r,l=x::r->bN [2] x=false:=fun x r e=>by
 have:=qLp h x r e
 unfold bN at this ⊢
 simp only[dI,List.any_nil,Bool.or_false,kV] at this ⊢
 exact this.2.1
def zW(bl:List UInt8):Prop:=∀x∈bl,bN [5] x=true
theorem oA:zW []:=fun x h=>by cases h
theorem rH:zW [32]:=fun x h=>by rw[jL.1 h];kernel_rfl
theorem qV{l bl:List UInt8}{rest:List Pc}(d:sE (1,l))(a:zW bl)(c:tK (bl++eZ rest)=true)(b:lX rest):lX (eM l bl::rest):=
 ⟨d,a,fun x r h=>by
  have:=qLp c x r h
  show(if(1:Int)=1 then !bN [1,2,3] x else _)=true
  rw[if_pos rfl,this];rfl,b⟩
theorem gdN{n:Nat}{bl:List UInt8}{rest:List Pc}(c:n<=9007199254740992)(a:zW bl)(d:tK (bl++eZ rest)=true)(b:lX rest):lX (((2,Lib.decDigits n),bl)::rest):=
 ⟨.inr (.inl ⟨rfl,zFg n,qXz n,by
  have:=qKr n c
  show sQ (Lib.decDigits n)<=_
  omega⟩),a,fun x r h=>by
  have:=zAw d x r h
  show(if(2:Int)=1 then _ else if(2:Int)=2 then !bN [2] x else _)=true
  rw[if_neg ac,if_pos rfl,this];rfl,b⟩
theorem pE{l bl:List UInt8}{rest:List Pc}(d:l∈OP)(a:l≠[61])(b:zW bl)(c:lX rest):lX (cG l bl::rest):=
 ⟨.inr (.inr (.inr ⟨rfl,d⟩)),b,fun x r _=>by
  show(if(4:Int)=1 then _ else if(4:Int)=2 then _ else if l=[61] then _ else true)=true
  rw[if_neg ac,if_neg ac,if_neg a],c⟩
theorem PS{l bl:List UInt8}{rest:List Pc}(d:∀x∈l,oT x=true)(a:l≠[61])(b:zW bl)(c:lX rest):lX (sW l bl::rest):=
 ⟨.inr (.inr (.inl ⟨rfl,d⟩)),b,fun x r _=>by
  show(if(3:Int)=1 then _ else if(3:Int)=2 then _ else if l=[61] then _ else true)=true
  rw[if_neg ac,if_neg ac,if_neg a],c⟩
theorem qPt{n:Int}{bl:List UInt8}{rest:List Pc}(d: -9007199254740992<=n)(e:n<=9007199254740992)(a:zW bl)(c:tK (bl++eZ rest)=true)(b:lX rest):lX (uG n bl++rest):=by
 unfold uG
 split
 .exact pE ac ac oA (gdN aa a c b)
 exact gdN aa a c b
theorem zEr{op:Int}(a:1<=op)(b:op<=7):(qP op).data.toList∈OP/\(qP op).data.toList≠[61]:=by
 rcases(by omega:op=1\/op=2\/op=3\/op=4\/op=5\/op=6\/op=7) with rfl|rfl|rfl|rfl|rfl|rfl|rfl<;>decide+kernel
def GdP(ps:List BA)(t:Rose):Prop:=∀need bl rest,zW bl->tK (bl++eZ rest)=true->lX rest->lX (t.pc ps need bl++rest)
theorem zA{ps:List BA}{h:Hd}{ks:List Rose}(c:∀bl rest,zW bl->tK (bl++eZ rest)=true->lX rest->lX (rA ps h (mK ps h 0 ks) bl++rest)):GdP ps (.mk h ks):=by
 intro need bl rest a d b
 rw[VK]
 split
 .rw[jT,jE]
  exact pE ac ac oA (c [] _ oA af (pE ac ac a b))
 exact c bl rest a d b
theorem qZy{ws:List Pf}{k:Nat}{rest:List Pc}(a:tK (eZ rest)=true):tK (eZ (nV (k+1) ws++rest))=true:=by
 cases ws with
 |nil=>exact a
 |cons w ws=>
  show tK (eZ (((if k+1=0 then[] else[cG [44] [32]])++(w []++nV (k+1+1) ws))++rest))=true
  rw[if_neg aa]
  kernel_rfl
theorem qNe{ps:List BA}{h:Hd}:∀(ks:List Rose) (k:Nat) (rest:List Pc),(∀t∈ks,GdP ps t)->tK (eZ rest)=true->lX rest->lX (nV k (mK ps h k ks)++rest)
 |[],_,_,_,_,a=>a
 |t::ks,k,rest,c,d,a=>by
  have f:=qNe (h:=h) ks (k+1) rest (fun u e=>c u (jH _ e)) d a
  show lX (((if k=0 then[] else[cG [44] [32]])++(t.pc ps (iJ h k) []++nV (k+1) (mK ps h (k+1) ks)))++rest)
  rw[jE,jE]
  have b:=c t (jF ..) (iJ h k) [] (nV (k+1) (mK ps h (k+1) ks)++rest) oA (qZy d) f
  split
  .exact b
  exact pE ac ac rH b
theorem okIf:sE (1,JO):= .inl ⟨rfl,⟨105,_,rfl,by kernel_rfl⟩,by decide+kernel,by decide⟩
theorem zFh:sE (1,IU):= .inl ⟨rfl,⟨116,_,rfl,by kernel_rfl⟩,by decide+kernel,by decide⟩
theorem zGf:sE (1,IZ):= .inl ⟨rfl,⟨101,_,rfl,by kernel_rfl⟩,by decide+kernel,by decide⟩
theorem zGv:sE (1,IX):= .inl ⟨rfl,⟨114,_,rfl,by kernel_rfl⟩,by decide+kernel,by decide⟩
theorem zFp:sE (1,CW):= .inl ⟨rfl,⟨102,_,rfl,by kernel_rfl⟩,by decide+kernel,by decide⟩
theorem zGk:sE (1,(pO 7).data.toList):= .inl ⟨rfl,⟨115,_,rfl,by kernel_rfl⟩,by decide+kernel,by decide⟩
theorem zIs:sE (1,(pO 8).data.toList):= .inl ⟨rfl,⟨104,_,rfl,by kernel_rfl⟩,by decide+kernel,by decide⟩
theorem zIh:sE (1,(pO 9).data.toList):= .inl ⟨rfl,⟨101,_,rfl,by kernel_rfl⟩,by decide+kernel,by decide⟩
theorem zDr{ps:List BA}(u:∀s∈ps,iR s=true){t:Rose}(y:Fine ps.length t):GdP ps t:=by
 induction y with
 |num n o p=>exact zA fun bl rest d f e=>qPt o p d f e
 |par i h=>
  refine zA fun bl rest d f e=>qV (EW (u _ ?_)) d f e
  show ps.getD ((i:Int)).toNat ⟨#[]⟩∈ps
  rw[jQ,jS,List.getElem?_eq_getElem h]
  exact jM h
 |call s ks h r z=>
  refine zA fun bl rest d f e=> ?_
  show lX (eM s.data.toList []::cG [40] []::((nV 0 (mK ps (3,0,0,s) 0 ks)++[cG [41] bl])++rest))
  rw[jE]
  exact qV (EW (EJ h)) oA af (pE ac ac oA (qNe ks 0 _ z af (pE ac ac d e)))
 |bin op a b o p q x g l=>
  refine zA fun bl rest d f e=> ?_
  show lX ((a.pc ps (iJ (4,0,op,bZ) 0) [32]++(cG (qP op).data.toList [32]::b.pc ps (iJ (4,0,op,bZ) 1) bl))++rest)
  rw[jE,jT]
  obtain⟨s1,v⟩:=zEr o p
  exact g _ _ _ rH af (pE s1 v rH (l _ _ _ d f e))
 |ite a b c q x A g l v=>
  refine zA fun bl rest d f e=> ?_
  show lX (eM JO [32]::((a.pc ps 0 [32]++(eM IU [32]::(b.pc ps 0 [32]++(eM IZ [32]::c.pc ps 0 bl))))++rest))
  rw[jE,jT,jE,jT]
  exact qV okIf rH af (g _ _ _ rH af (qV zFh rH af (l _ _ _ rH af (qV zGf rH af (v _ _ _ d f e)))))
 |read s a h q g=>
  refine zA fun bl rest d f e=> ?_
  show lX (eM IX []::cG [40] []::sW s.data.toList []::cG [44] [32]::((a.pc ps 0 []++[cG [41] bl])++rest))
  rw[jE]
  obtain⟨p1,p2⟩:=ZR h
  exact qV zGv oA af (pE ac ac oA (PS p1 p2 oA (pE ac ac rH (g _ _ _ oA af (pE ac ac d e)))))
 |look k s r h=>
  obtain⟨p1,p2⟩:=ZR h
  rcases r with rfl|rfl
  .exact zA fun bl rest d f e=>qV zGk oA af (pE ac ac oA (PS p1 p2 oA (pE ac ac d e)))
  exact zA fun bl rest d f e=>qV zIs oA af (pE ac ac oA (PS p1 p2 oA (pE ac ac d e)))
 |env s h=>
  obtain⟨p1,p2⟩:=zBb h
  exact zA fun bl rest d f e=>qV zIh oA af (pE ac ac oA (PS p1 p2 oA (pE ac ac d e)))
 |flip n h=>
  refine zA fun bl rest d f e=> ?_
  show lX (eM CW []::cG [40] []::((uG (n:Int) []++[cG [41] bl])++rest))
  rw[jE]
  exact qV zFp oA af (pE ac ac oA (qPt aa aa oA af (pE ac ac d e)))
def mW(l:List Pc):List oV:=l.map fun p=>iZ p.1
theorem TR(a b:List Pc):mW (a++b)=mW a++mW b:=gT ..
def mN(ts:List bD):Nat->List oV->Prop
 |_,[]=>True
 |i,c::cs=>iV (aA ts i)=c/\mN ts (i+1) cs
theorem FA{ts:List bD}:∀{a b:List oV} {i:Nat},mN ts i (a++b)↔mN ts i a/\mN ts (i+a.length) b
 |[],b,i=>by simp[mN]
 |c::a,b,i=>by
  have d:=FA (ts:=ts) (a:=a) (b:=b) (i:=i+1)
  simp only[jT,mN,d,jC,and_assoc]
  rw[show i+1+a.length=i+(a.length+1) by omega]
theorem vD{ts:List bD}{a b:List Pc}{i:Nat}(h:mN ts i (mW (a++b))):mN ts i (mW a)/\mN ts (i+a.length) (mW b):=by
 rw[TR,FA] at h
 have:(mW a).length=a.length:=gA ..
 rw[this] at h
 exact h
section
variable {ts:List bD} {ps:List BA} {i:Nat}
theorem tC{c:oV}(h:iV (aA ts i)=c)(k:Int)(s:BA):bX ts k s i=(c.1==k&&decide (c.2.1=s)):=by
 subst h;rfl
theorem xH{c:oV}(h:iV (aA ts i)=c):(aA ts i).1=c.1:=congrArg (fun x=>x.1) h
theorem rK{c:oV}(h:iV (aA ts i)=c):(aA ts i).2.1=c.2.1:=congrArg (fun x=>x.2.1) h
theorem tk3{c:oV}(h:iV (aA ts i)=c):(aA ts i).2.2.1=c.2.2:=congrArg (fun x=>x.2.2) h
def opK(c:oV)(level:Nat):Int:=
 match opsC.find? (fun o=>(c.1==4&&decide (c.2.1=o.2))&&decide (xF o.1=level)) with
 |some o=>o.1
 |none=>0
theorem qOy{c:oV}(h:iV (aA ts i)=c)(level:Nat):mY ts level i=opK c level:=by
 subst h;rfl
theorem TF{l:List UInt8}(h:iV (aA ts i)=iZ (4,l)):iV (aA ts i)=(4,⟨⟨l⟩⟩,0):=h
theorem pA{l:List UInt8}(h:iV (aA ts i)=iZ (1,l)):iV (aA ts i)=(1,⟨⟨l⟩⟩,0):=h
theorem EO{l:List UInt8}(h:iV (aA ts i)=iZ (3,l)):iV (aA ts i)=(3,⟨⟨l⟩⟩,0):=h
theorem TZ{n:Nat}(a:n<=9007199254740992)(h:iV (aA ts i)=iZ (2,Lib.decDigits n)):iV (aA ts i)=(2,⟨#[]⟩,(n:Int)):=by
 rw[h]
 unfold iZ
 rw[if_pos rfl,if_pos rfl,qKr n a]
theorem qM{l:List UInt8}(h:iV (aA ts i)=iZ (4,l)){s:BA}(a:(⟨⟨l⟩⟩:BA)=s):iD ts s i= .inr (i+1):=by
 unfold iD
 rw[tC (TF h),jR a]
 rfl
theorem YZ{l:List UInt8}(h:iV (aA ts i)=iZ (1,l)){s:BA}(a:(⟨⟨l⟩⟩:BA)=s):wI ts s i= .inr (i+1):=by
 unfold wI
 rw[tC (pA h),jR a]
 rfl
theorem MR{l:List UInt8}(h:iV (aA ts i)=iZ (4,l)){s:BA}(a:(⟨⟨l⟩⟩:BA)≠s):bX ts 4 s i=false:=by
 rw[tC (TF h),jX a];rfl
theorem EI{l:List UInt8}(h:iV (aA ts i)=iZ (4,l)){s:BA}(a:(⟨⟨l⟩⟩:BA)=s):bX ts 4 s i=true:=by
 rw[tC (TF h),jR a];rfl
def NextOk(n:Nat)(ts:List bD)(i:Nat):Prop:=i<ts.length/\bX ts 4 sOpen i=false/\∀L,n<=L->1<=L->L<=3->mY ts L i=0
theorem NextOk.up{n m:Nat}(h:NextOk n ts i)(a:n<=m):NextOk m ts i:=⟨h.1,h.2.1,fun L b=>h.2.2 L aa⟩
def FY:List oV:=[(4,⟨#[41]⟩,0),(4,⟨#[44]⟩,0),(4,⟨#[59]⟩,0),(1,⟨#[116,104,101,110]⟩,0),(1,⟨#[101,108,115,101]⟩,0)]
theorem ER{c:oV}(a:c∈FY)(h:iV (aA ts i)=c)(hi:i<ts.length)(n:Nat):NextOk n ts i:=by
 simp only[FY,jJ,gE,hU] at a
 refine⟨hi,?_,fun L _ b d=> ?_⟩
 .rw[tC h]
  rcases a with rfl|rfl|rfl|rfl|rfl<;>decide+kernel
 rw[qOy h]
 rcases(by omega:L=1\/L=2\/L=3) with rfl|rfl|rfl<;>rcases a with rfl|rfl|rfl|rfl|rfl<;>decide+kernel
theorem qNo{op:Int}(a:1<=op)(b:op<=7)(h:iV (aA ts i)=iZ (4,(qP op).data.toList)):bX ts 4 sOpen i=false/\∀L,1<=L->L<=3->mY ts L i=if xF op=L then op else 0:=by
 rw[tC h]
 refine⟨?_,fun L c d=> ?_⟩
 .rcases(by omega:op=1\/op=2\/op=3\/op=4\/op=5\/op=6\/op=7) with rfl|rfl|rfl|rfl|rfl|rfl|rfl<;>decide+kernel
 rw[qOy h]
 rcases(by omega:L=1\/L=2\/L=3) with rfl|rfl|rfl<;>rcases(by omega:op=1\/op=2\/op=3\/op=4\/op=5\/op=6\/op=7) with rfl|rfl|rfl|rfl|rfl|rfl|rfl<;>decide+kernel
def Res{α:Type}(x:cD⊕α)(g:Prop)(v:α):Prop:=(g->x= .inr v)/\(¬g->∃z,x= .inl (z,2))
theorem Res.bind{α β:Type}{x:cD⊕α}{g g' G:Prop}{v:α}{f:α->cD⊕β}{v':β}(h:Res x g v)(c:g->Res (f v) g' v')(d:G↔g/\g'):Res (aQ x f) G v':=by
 constructor
 .intro e
  obtain⟨a,b⟩:=d.1 e
  rw[h.1 a]
  exact(c a).1 b
 intro e
 by_cases a:g
 .rw[h.1 a]
  exact(c a).2 fun b=>e (d.2 ⟨a,b⟩)
 obtain⟨z,k⟩:=h.2 a
 exact⟨z,by rw[k];rfl⟩
theorem Res.pure{α:Type}{x:cD⊕α}{g:Prop}{v:α}(a:g)(h:x= .inr v):Res x g v:=⟨fun _=>h,fun n=>absurd a n⟩
theorem wT{t:bD}{x:Ex}{j:Nat}{l:List Ex}(h:l.length+1<=256):mL t x (j,l)= .inr ((j,l++[x]),l.length):=by
 unfold mL
 rw[if_neg (by show ¬l.length=256;omega)]
def PL(ts:List bD)(ps:List BA)(E:Ps->PM Nat):Nat->Ps->PM Nat
 |1=>TN ts ps E
 |2=>BG ts ps E
 |3=>VC ts ps E
 |_=>nT ts ps E
theorem qBh(E:Ps->PM Nat){n:Nat}(a:1<=n)(b:n<=3)(p:Ps):PL ts ps E n p=qO ts n (PL ts ps E (n+1)) p:=by
 rcases(by omega:n=1\/n=2\/n=3) with rfl|rfl|rfl<;>rfl
def Fac(ts:List bD)(ps:List BA)(E:Ps->PM Nat)(n:Nat)(pf:Pf)(g:Prop)(t:Rose):Prop:=
 ∀i l bl,mN ts i (mW (pf bl))->NextOk n ts (i+(pf bl).length)->l.length+t.size<=256->Res (PL ts ps E n (i,l)) g ((i+(pf bl).length,l++t.flat l.length),l.length+t.size-1)
def Spi(ts:List bD)(ps:List BA)(E:Ps->PM Nat)(L:Nat)(pf:Pf)(g:Prop)(t:Rose):Prop:=
 ∀i l bl,mN ts i (mW (pf bl))->NextOk (L+1) ts (i+(pf bl).length)->l.length+t.size<=256->
  (g->∃n',ts.length+1<=n'+(pf bl).length/\qO ts L (PL ts ps E (L+1)) (i,l)=nR ts L (PL ts ps E (L+1)) n' (l.length+t.size-1) (i+(pf bl).length,l++t.flat l.length))/\
  (¬g->∃z,qO ts L (PL ts ps E (L+1)) (i,l)= .inl (z,2))
variable {E:Ps->PM Nat} {pf:Pf} {g:Prop} {t:Rose}
theorem qKe{L n x:Nat}{S:Ps->PM Nat}{p:Ps}(h:mY ts L p.1=0):nR ts L S (n+1) x p= .inr (p,x):=by
 unfold nR
 rw[if_pos h]
theorem Fac.lift{n:Nat}(a:1<=n)(b:n<=3)(h:Fac ts ps E (n+1) pf g t):Fac ts ps E n pf g t:=by
 intro i l bl e c d
 rw[qBh E a b]
 unfold qO
 exact(h i l bl e (c.up aa) d).bind (g':=True) (fun _=> .pure trivial (qKe (c.2.2 n (jN n) a b))) ae
theorem Fac.lifts{n m:Nat}(a:1<=m)(e:m<=n)(c:n<=4)(h:Fac ts ps E n pf g t):Fac ts ps E m pf g t:=by
 obtain⟨d,rfl⟩:∃d,n=m+d:=⟨n-m,by omega⟩
 induction d generalizing m with
 |zero=>exact h
 |succ d b=>
  have:=b (m:=m+1) aa aa aa (by rw[show m+1+d=m+(d+1) by omega];exact h)
  exact Fac.lift a aa this
theorem Fac.spi{L:Nat}(h:Fac ts ps E (L+1) pf g t):Spi ts ps E L pf g t:=by
 intro i l bl d c b
 obtain⟨f,k⟩:=h i l bl d c b
 constructor
 .intro a
  refine⟨ts.length+1,by omega,?_⟩
  unfold qO
  rw[f a]
  rfl
 intro a
 obtain⟨z,e⟩:=k a
 exact⟨z,by unfold qO;rw[e];rfl⟩
theorem Spi.fac{L:Nat}(b:1<=L)(c:L<=3)(h:Spi ts ps E L pf g t):Fac ts ps E L pf g t:=by
 intro i l bl k a f
 obtain⟨n,o⟩:=h i l bl k (a.up aa) f
 rw[qBh E b c]
 constructor
 .intro e
  obtain⟨n',p,d⟩:=n e
  have:=a.1
  obtain⟨m,rfl⟩:∃m,n'=m+1:=⟨n'-1,by omega⟩
  rw[d,qKe (a.2.2 L (jN L) b c)]
 exact o
end
theorem YW:((4,⟨#[41]⟩,0):oV)∈FY:= .head _
theorem qYr:((4,⟨#[44]⟩,0):oV)∈FY:= .tail _ (.head _)
theorem zBs:((4,⟨#[59]⟩,0):oV)∈FY:= .tail _ (.tail _ (.head _))
theorem zAe:((1,⟨#[116,104,101,110]⟩,0):oV)∈FY:= .tail _ (.tail _ (.tail _ (.head _)))
theorem zCo:((1,⟨#[101,108,115,101]⟩,0):oV)∈FY:= .tail _ (.tail _ (.tail _ (.tail _ (.head _))))
theorem qAe(h:Hd):∃n:Nat,iH h=(n:Int)/\n<=4:=by
 unfold iH
 split
 .exact⟨0,rfl,by decide⟩
 split
 .split
  .exact⟨1,rfl,by decide⟩
  split
  .exact⟨2,rfl,by decide⟩
  exact⟨3,rfl,by decide⟩
 exact⟨4,rfl,by decide⟩
theorem qPv(h:Hd)(ks:List Rose)(need:Int)(d:Nat):(Rose.mk h ks).dep need d=max (if iH h<need then d+1 else d) (sB h 0 (if h.1=4 then(if iH h<need then d+1 else d) else(if iH h<need then d+1 else d)+1) ks):=by unfold Rose.dep;rfl
theorem AL{h:Hd}{ks:List Rose}{need:Int}{d:Nat}(a:¬iH h<need):(Rose.mk h ks).dep need d=max d (sB h 0 (if h.1=4 then d else d+1) ks):=by
 rw[qPv];simp only[if_neg a]
theorem qAf{h:Hd}{ks:List Rose}{need:Int}{d:Nat}(a:iH h<need):(Rose.mk h ks).dep need d=(Rose.mk h ks).dep 0 (d+1):=by
 obtain⟨n,e,-⟩:=qAe h
 rw[qPv,AL (need:=0) aa];simp only[if_pos a]
section
variable (ts:List bD) (ps:List BA)
def OX(k d:Nat)(t:Rose):Prop:=∀i l bl,mN ts i (mW (t.pc ps 0 bl))->NextOk 1 ts (i+(t.pc ps 0 bl).length)->l.length+t.size<=256->Res (eP ts ps k (i,l)) (t.dep 0 d<=32) ((i+(t.pc ps 0 bl).length,l++t.flat l.length),l.length+t.size-1)
structure Pk(t:Rose):Prop where
 p0:∀k d,k+d=33->OX ts ps k d t
 en:∀k d,k+d=32->∀n:Nat,2<=n->n<=4->Fac ts ps (eP ts ps k) n (fun bl=>t.pc ps (n:Int) bl) (t.dep (n:Int) d<=32) t
 es:∀k d,k+d=32->∀L:Nat,2<=L->L<=3->Spi ts ps (eP ts ps k) L (fun bl=>t.pc ps (L:Int) bl) (t.dep (L:Int) d<=32) t
end
section
variable {ts:List bD} {ps:List BA}
theorem zI{h:Hd}{ks:List Rose}{need:Int}(a:¬iH h<need)(bl:List UInt8):(Rose.mk h ks).pc ps need bl=rA ps h (mK ps h 0 ks) bl:=by rw[VK,if_neg a]
theorem OG{h:Hd}{ks:List Rose}{need:Int}(a:iH h<need)(bl:List UInt8):(Rose.mk h ks).pc ps need bl=cG [40] []::((Rose.mk h ks).pc ps 0 []++[cG [41] bl]):=by
 obtain⟨n,e,-⟩:=qAe h
 rw[VK,if_pos a,zI aa]
theorem qAc{t:Rose}{k d:Nat}(p:k+d=32)(e:OX ts ps k (d+1) t):Fac ts ps (eP ts ps k) 4 (fun bl=>cG [40] []::(t.pc ps 0 []++[cG [41] bl])) (t.dep 0 (d+1)<=32) t:=by
 intro i l bl n c h
 simp only[jC,jB,jD] at c ⊢
 obtain⟨s1,b⟩:=n
 obtain⟨b,a⟩:=vD b
 obtain⟨a,-⟩:=a
 have o:=c.1
 have f:=e (i+1) l [] b (ER YW a aa 1) h
 have g:PL ts ps (eP ts ps k) 4 (i,l)=aQ (eP ts ps k (i+1,l)) fun q=>aQ (iD ts sClose q.1.1) fun j=> .inr ((j,q.1.2),q.2):=by
  show nT ts ps (eP ts ps k) (i,l)=_
  unfold nT
  dsimp only
  rw[if_neg (by rw[xH s1];show ¬(4:Int)=2;decide),if_neg (by rw[MR s1 ah];decide),if_pos (EI (s:=sOpen) s1 rfl)]
 rw[g]
 refine f.bind (g':=True) (fun _=> .pure trivial ?_) ae
 refine Eq.trans (congrArg (fun z=>aQ z _) (qM (s:=sClose) a rfl)) ?_
 show Sum.inr _=Sum.inr _
 rw[show i+1+(t.pc ps 0 []).length+1=i+((t.pc ps 0 []).length+(0+1)+1) by omega]
theorem zFj(t:Rose)(d:Nat):d<=t.dep 0 d:=by
 cases t with
 |mk h ks=>
  obtain⟨n,e,-⟩:=qAe h
  rw[AL aa]
  exact Nat.le_max_left ..
theorem qPy{t:Rose}{d:Nat}(a:0+d=33):OX ts ps 0 d t:=by
 intro i l bl _ _ _
 have:=zFj t d
 refine⟨fun g=>by omega,fun _=>⟨(aA ts i).2.2.2,?_⟩⟩
 rfl
theorem OR{h:Hd}{ks:List Rose}{lv:Nat}(t:iH h=(lv:Int))(s:1<=lv)(o:lv<=4)
  (p:∀i bl,mN ts i (mW ((Rose.mk h ks).pc ps 0 bl))->bX ts 1 sU i=false)
  (g:∀k d,k+d=32->Fac ts ps (eP ts ps k) lv (fun bl=>(Rose.mk h ks).pc ps 0 bl) ((Rose.mk h ks).dep 0 d<=32) (.mk h ks))
  (q:∀k d,k+d=32->lv=2\/lv=3->Spi ts ps (eP ts ps k) lv (fun bl=>(Rose.mk h ks).pc ps 0 bl) ((Rose.mk h ks).dep 0 d<=32) (.mk h ks)):Pk ts ps (.mk h ks):=by
 have f:∀k d,k+d=33->OX ts ps k d (.mk h ks):=by
  intro k d b
  cases k with
  |zero=>exact qPy b
  |succ k=>
   intro i l bl c a r
   rw[eP,if_neg (by rw[p i bl c];decide)]
   exact(g k d aa).lifts (jN 1) s o i l bl c a r
 have un:∀{n:Nat},n<=lv->(fun bl=>(Rose.mk h ks).pc ps (n:Int) bl)=fun bl=>(Rose.mk h ks).pc ps 0 bl:=fun {n} a=>by
  funext bl
  rw[zI aa,zI aa]
 have und:∀{n d:Nat},n<=lv->(Rose.mk h ks).dep (n:Int) d=(Rose.mk h ks).dep 0 d:=fun {n d} a=>by
  rw[AL aa,AL aa]
 have pr:∀{n:Nat},lv<n->(fun bl=>(Rose.mk h ks).pc ps (n:Int) bl)=fun bl=>cG [40] []::((Rose.mk h ks).pc ps 0 []++[cG [41] bl]):=fun {n} a=>by
  funext bl
  rw[OG aa]
 have c:∀k d,k+d=32->∀n:Nat,lv<n->Fac ts ps (eP ts ps k) 4 (fun bl=>(Rose.mk h ks).pc ps (n:Int) bl) ((Rose.mk h ks).dep (n:Int) d<=32) (.mk h ks):=fun k d b n a=>by
  rw[pr a,qAf aa]
  exact qAc b (f k (d+1) aa)
 refine⟨f,fun k d b n u r=> ?_,fun k d b L L2 L3=> ?_⟩
 .by_cases a:n<=lv
  .rw[un a,und a]
   exact(g k d b).lifts aa a o
  exact(c k d b n aa).lifts aa r aa
 by_cases a:L<=lv
 .rw[un a,und a]
  by_cases e:L=lv
  .subst e
   exact q k d b aa
  exact((g k d b).lifts (m:=L+1) aa aa o).spi
 exact((c k d b L aa).lifts (m:=L+1) aa aa aa).spi
theorem UL{h:Hd}(c:iH h=4)
  (o:∀i bl,mN ts i (mW (rA ps h [] bl))->bX ts 1 sU i=false)
  (n:∀k i l bl,mN ts i (mW (rA ps h [] bl))->NextOk 4 ts (i+(rA ps h [] bl).length)->l.length+1<=256->nT ts ps (eP ts ps k) (i,l)= .inr ((i+(rA ps h [] bl).length,l++[iS h []]),l.length)):Pk ts ps (.mk h []):=by
 have e:∀bl,(Rose.mk h []).pc ps 0 bl=rA ps h [] bl:=fun bl=>zI aa bl
 refine OR (lv:=4) c ac ac (fun i bl a=>o i bl (by rw[<-e];exact a)) (fun k d p=> ?_) fun _ _ _ h=>by omega
 intro i l bl a f b
 simp only[e] at a f ⊢
 have g:(Rose.mk h []).size=1:=rfl
 rw[g] at b ⊢
 refine .pure ?_ (n k i l bl a f b)
 rw[AL aa]
 show max d 0<=32
 omega
theorem MV{s:BA}(h:iC s=true):s∉[sRead,sSize,sHas,sEnv,sFlip]/\uM s=false/\s≠sU:=by
 unfold iC at h
 simp only[jK,fK] at h
 have a:¬s∈wordsR:=by
  have:=h.2
  unfold uM at this
  exact of_decide_eq_false this
 refine⟨fun g=>a ?_,h.2,fun g=>a ?_⟩
 .simp only[jJ,gE,hU] at g
  unfold wordsR
  simp only[jJ,gE,hU]
  rcases g with g|g|g|g|g<;>simp[g]
 rw[g];unfold wordsR
 simp
section
variable {i:Nat} {l:List Ex} {E:Ps->PM Nat}
theorem wU{w:List UInt8}(h:iV (aA ts i)=iZ (1,w))(a:(⟨⟨w⟩⟩:BA)≠sU):bX ts 1 sU i=false:=by
 rw[tC (pA h),jX a];rfl
theorem qAn{w:List UInt8}(h:iV (aA ts i)=iZ (4,w)):bX ts 1 sU i=false:=by
 rw[tC (TF h)];rfl
theorem qOv{w:List UInt8}(h:iV (aA ts i)=iZ (2,w)):bX ts 1 sU i=false:=by
 rw[tC h];rfl
theorem zCw{n:Nat}(c:n<=9007199254740992)(h:iV (aA ts i)=iZ (2,Lib.decDigits n))(b:l.length+1<=256):nT ts ps E (i,l)= .inr ((i+1,l++[(1,(n:Int),0,⟨#[]⟩,[])]),l.length):=by
 unfold nT
 dsimp only
 have a:=TZ c h
 rw[if_pos (xH a),wT b,tk3 a]
theorem zEw{n:Nat}(e:n<=9007199254740992)(h:iV (aA ts i)=iZ (4,[45]))(c:iV (aA ts (i+1))=iZ (2,Lib.decDigits n))(d:l.length+1<=256):nT ts ps E (i,l)= .inr ((i+1+1,l++[(1,-(n:Int),0,⟨#[]⟩,[])]),l.length):=by
 unfold nT
 dsimp only
 have a:=TZ e c
 rw[if_neg (by rw[xH h];show ¬(4:Int)=2;decide),if_pos (EI (s:=sMinus) h rfl)]
 unfold oC
 rw[if_pos (xH a)]
 show mL (aA ts i) (1,IntKind.wrap .i64 (0-(aA ts (i+1)).2.2.1),0,⟨#[]⟩,[]) (i+1+1,l)=_
 have b:(aA ts (i+1)).2.2.1=(n:Int):=tk3 a
 rw[wT d,b,bB aa aa,Int.zero_sub]
theorem NE{w:List UInt8}(h:iV (aA ts i)=iZ (1,w)):nT ts ps E (i,l)=
  if(⟨⟨w⟩⟩:BA)∈[sRead,sSize,sHas,sEnv,sFlip] then rV ts E (aA ts i) (i+1,l)
  else if uM ⟨⟨w⟩⟩ then iM (aA ts i) 9
  else if bX ts 4 sOpen (i+1) then aQ (xS ts E (i+1,l)) fun q=>mL (aA ts i) (3,0,0,⟨⟨w⟩⟩,q.2) q.1
  else match ps.findIdx? (fun x=>decide (x=⟨⟨w⟩⟩)) with
   |some j=>mL (aA ts i) (2,(j:Int),0,⟨#[]⟩,[]) (i+1,l)
   |none=>iM (aA ts i) 9:=by
 unfold nT
 dsimp only
 have a:=pA h
 rw[if_neg (by rw[xH a];show ¬(1:Int)=2;decide),if_neg (by rw[tC a];exact kH),if_neg (by rw[tC a];exact kH),if_neg (by rw[xH a];exact fun h=>h rfl),rK a]
 first
 |done
 |rfl
end
end
section
variable {ts:List bD} {ps:List BA} {i:Nat} {l:List Ex} {E:Ps->PM Nat}
theorem UA{c:oV}{k:Int}(h:iV (aA ts i)=c)(a:c.1=k):oC ts k i= .inr (i+1,aA ts i):=by
 unfold oC
 rw[if_pos ((xH h).trans a)]
theorem UC{w:List UInt8}(h:iV (aA ts i)=iZ (3,w))(a:iF w=true):qQ ts i= .inr (i+1,aA ts i):=by
 unfold qQ
 rw[UA (EO h) rfl]
 simp only[aQ]
 have e:(aA ts i).2.1=⟨⟨w⟩⟩:=rK (EO h)
 rw[e,if_pos a]
theorem qYx{s:BA}(h:iV (aA ts i)=iZ (3,s.data.toList))(a:iR s=true):wX ts i= .inr (i+1,aA ts i):=by
 unfold wX
 rw[UA (EO h) rfl]
 simp only[aQ]
 have e:(aA ts i).2.1=s:=rK (EO h)
 rw[e,if_pos a]
theorem zAn{w:List UInt8}{k:Int}{s:BA}(o:(⟨⟨w⟩⟩:BA)=sSize/\k=7/\iF s.data.toList=true\/(⟨⟨w⟩⟩:BA)=sHas/\k=8/\iF s.data.toList=true\/(⟨⟨w⟩⟩:BA)=sEnv/\k=9/\iR s=true)
  (n:iV (aA ts i)=iZ (1,w)) (f:iV (aA ts (i+1))=iZ (4,[40])) (c:iV (aA ts (i+1+1))=iZ (3,s.data.toList)) (g:iV (aA ts (i+1+1+1))=iZ (4,[41])) (h:l.length+1<=256):
  nT ts ps E (i,l)= .inr ((i+1+1+1+1,l++[(k,0,0,s,[])]),l.length):=by
 have d:(aA ts i).2.1=⟨⟨w⟩⟩:=rK (pA n)
 have e:(aA ts (i+1+1)).2.1=s:=rK (EO c)
 rw[NE n]
 rcases o with ⟨a,rfl,b⟩|⟨a,rfl,b⟩|⟨a,rfl,b⟩
 .rw[if_pos (by rw[a];decide+kernel)]
  unfold rV
  dsimp only
  rw[qM (s:=sOpen) f rfl]
  simp only[aQ]
  rw[d,a,if_neg ah,if_pos rfl,UC c b]
  simp only[aQ]
  rw[qM (s:=sClose) g rfl]
  simp only[aQ]
  rw[wT h,e]
 .rw[if_pos (by rw[a];decide+kernel)]
  unfold rV
  dsimp only
  rw[qM (s:=sOpen) f rfl]
  simp only[aQ]
  rw[d,a,if_neg ah,if_neg ah,if_pos rfl,UC c b]
  simp only[aQ]
  rw[qM (s:=sClose) g rfl]
  simp only[aQ]
  rw[wT h,e]
 rw[if_pos (by rw[a];decide+kernel)]
 unfold rV
 dsimp only
 rw[qM (s:=sOpen) f rfl]
 simp only[aQ]
 rw[d,a,if_neg ah,if_neg ah,if_neg ah,if_pos rfl,qYx c b]
 simp only[aQ]
 rw[qM (s:=sClose) g rfl]
 simp only[aQ]
 rw[wT h,e]
theorem zCc{n:Nat}(h:n<64)(a:iV (aA ts i)=iZ (1,CW))(e:iV (aA ts (i+1))=iZ (4,[40]))(b:iV (aA ts (i+1+1))=iZ (2,Lib.decDigits n))(f:iV (aA ts (i+1+1+1))=iZ (4,[41]))(g:l.length+1<=256):
  nT ts ps E (i,l)= .inr ((i+1+1+1+1,l++[(10,(n:Int),0,⟨#[]⟩,[])]),l.length):=by
 have c:(aA ts i).2.1=sFlip:=rK (pA a)
 have d:(aA ts (i+1+1)).2.2.1=(n:Int):=tk3 (TZ aa b)
 rw[NE a,if_pos ah]
 unfold rV
 dsimp only
 rw[qM (s:=sOpen) e rfl]
 simp only[aQ]
 rw[c,if_neg ah,if_neg ah,if_neg ah,if_neg ah,UA (TZ aa b) rfl]
 simp only[aQ]
 rw[d,if_neg aa]
 simp only
 rw[qM (s:=sClose) f rfl]
 simp only[aQ]
 rw[wT g]
theorem zFa{n:Int}(d: -9007199254740992<=n)(f:n<=9007199254740992):Pk ts ps (.mk (1,n,0,bZ) []):=by
 have e:∀bl,rA ps (1,n,0,bZ) [] bl=uG n bl:=fun bl=>rfl
 refine UL rfl (fun i bl a=> ?_) fun k i l bl a g b=> ?_
 .rw[e] at a
  unfold uG at a
  split at a
  .exact qAn a.1
  exact qOv a.1
 rw[e] at a ⊢
 unfold uG at a ⊢
 split at a
 .rename_i hneg
  rw[if_pos hneg]
  obtain⟨s1,c,-⟩:=a
  rw[zEw (n:=n.natAbs) aa s1 c b,show-(n.natAbs:Int)=n by omega]
  rfl
 rename_i hneg
 rw[if_neg hneg]
 rw[zCw (n:=n.toNat) aa a.1 b,show(n.toNat:Int)=n by omega]
 rfl
theorem zFo{j:Nat}(d:j<ps.length)(h:∀s∈ps,iC s=true)(b:ps.findIdx? (fun x=>decide (x=ps.getD j ⟨#[]⟩))=some j):Pk ts ps (.mk (2,(j:Int),0,bZ) []):=by
 have e:∀bl,rA ps (2,(j:Int),0,bZ) [] bl=[eM (ps.getD j ⟨#[]⟩).data.toList bl]:=fun bl=>rfl
 have c:ps.getD j ⟨#[]⟩∈ps:=by
  rw[jS,List.getElem?_eq_getElem d]
  exact jM d
 obtain⟨n,o,p⟩:=MV (h _ c)
 generalize ps.getD j ⟨#[]⟩=s at e n o p b
 refine UL rfl (fun i bl a=> ?_) fun k i l bl a f q=> ?_
 .rw[e] at a
  exact wU a.1 p
 rw[e] at a f ⊢
 have g:bX ts 4 sOpen (i+1)=false:=f.2.1
 rw[NE a.1,if_neg n,if_neg (by rw[show uM (⟨⟨s.data.toList⟩⟩:BA)=false from o];exact kH),if_neg (by rw[g];exact kH)]
 rw[show ps.findIdx? (fun x=>decide (x=(⟨⟨s.data.toList⟩⟩:BA)))=some j from b]
 simp only
 rw[wT q]
 rfl
theorem qMf{k:Int}{s:BA}(c:(k=7\/k=8)/\iF s.data.toList=true\/k=9/\iR s=true):Pk ts ps (.mk (k,0,0,s) []):=by
 have hk':k=7\/k=8\/k=9:=by
  rcases c with ⟨h|h,-⟩|⟨h,-⟩
  .exact .inl h
  .exact .inr (.inl h)
  exact .inr (.inr h)
 have e:∀bl,rA ps (k,0,0,s) [] bl=[eM (pO k).data.toList [],cG [40] [],sW s.data.toList [],cG [41] bl]:=fun bl=>by
  rcases hk' with rfl|rfl|rfl<;>rfl
 have f:(⟨⟨(pO k).data.toList⟩⟩:BA)≠sU:=by rcases hk' with rfl|rfl|rfl<;>decide+kernel
 refine UL (by rcases hk' with rfl|rfl|rfl<;>rfl) (fun i bl a=> ?_) fun q i l bl a p d=> ?_
 .rw[e] at a
  exact wU a.1 f
 rw[e] at a ⊢
 obtain⟨s1,g,n,o,-⟩:=a
 refine Eq.trans (zAn (k:=k) (s:=s) ?_ s1 g n o d) rfl
 rcases c with ⟨rfl|rfl,b⟩|⟨rfl,b⟩
 .exact .inl ⟨rfl,rfl,b⟩
 .exact .inr (.inl ⟨rfl,rfl,b⟩)
 exact .inr (.inr ⟨rfl,rfl,b⟩)
theorem zCz{n:Nat}(c:n<64):Pk ts ps (.mk (10,(n:Int),0,bZ) []):=by
 have e:∀bl,rA ps (10,(n:Int),0,bZ) [] bl=[eM CW [],cG [40] [],((2,Lib.decDigits n),[]),cG [41] bl]:=fun bl=>by
  show eM CW []::cG [40] []::(uG (n:Int) []++[cG [41] bl])=_
  unfold uG
  rw[if_neg aa,jQ]
  rfl
 refine UL rfl (fun i bl a=> ?_) fun h i l bl a _ b=> ?_
 .rw[e] at a
  exact wU a.1 ah
 rw[e] at a ⊢
 obtain⟨s1,d,f,g,-⟩:=a
 exact Eq.trans (zCc c s1 d f g b) rfl
end
section
variable {ts:List bD} {ps:List BA}
theorem zIu(h:Hd)(a b:Rose)(d:Nat):sB h 0 d [a,b]=max (a.dep (iJ h 0) d) (max (b.dep (iJ h 1) d) 0):=rfl
theorem qCi{op:Int}(a:1<=op)(b:op<=7):iH (4,0,op,bZ)=(xF op:Int)/\1<=xF op/\xF op<=3:=by
 rcases(by omega:op=1\/op=2\/op=3\/op=4\/op=5\/op=6\/op=7) with rfl|rfl|rfl|rfl|rfl|rfl|rfl<;>decide+kernel
theorem qBn(h:Hd)(a b:Rose)(n:Nat):(Rose.mk h [a,b]).flat n=a.flat n++b.flat (n+a.size)++[iS h [((n+a.size-1:Nat):Int),((n+a.size+b.size-1:Nat):Int)]]:=by
 show(a.flat n++(b.flat (n+a.size)++[]))++_=_
 rw[jV];rfl
theorem qBt(h:Hd)(a b c:Rose)(n:Nat):(Rose.mk h [a,b,c]).flat n=a.flat n++b.flat (n+a.size)++c.flat (n+a.size+b.size)++[iS h [((n+a.size-1:Nat):Int),((n+a.size+b.size-1:Nat):Int),((n+a.size+b.size+c.size-1:Nat):Int)]]:=by
 show(a.flat n++(b.flat (n+a.size)++(c.flat (n+a.size+b.size)++[])))++_=_
 rw[jV,<-jE];rfl
theorem qBl(h:Hd)(a:Rose)(n:Nat):(Rose.mk h [a]).flat n=a.flat n++[iS h [((n+a.size-1:Nat):Int)]]:=by
 show(a.flat n++[])++_=_
 rw[jV];rfl
theorem VE(h:Hd)(a b:Rose):(Rose.mk h [a,b]).size=a.size+b.size+1:=by show a.size+(b.size+0)+1=_;omega
theorem zIj(h:Hd)(a b c:Rose):(Rose.mk h [a,b,c]).size=a.size+b.size+c.size+1:=by show a.size+(b.size+(c.size+0))+1=_;omega
theorem zHf(h:Hd)(a:Rose):(Rose.mk h [a]).size=a.size+1:=by show a.size+0+1=_;omega
theorem zGg{op:Int}{a b:Rose}(F:1<=op)(G:op<=7)(U:Pk ts ps a)(Z:Pk ts ps b)(S:∀n:Nat,1<=n->∀i bl,mN ts i (mW (a.pc ps (n:Int) bl))->bX ts 1 sU i=false):Pk ts ps (.mk (4,0,op,bZ) [a,b]):=by
 obtain⟨e,B,D⟩:=qCi F G
 generalize hL:xF op=L at e B D
 -- what the operands need
 obtain⟨nl,enl,nl2,nl3⟩:∃nl:Nat,iJ (4,0,op,bZ) 0=(nl:Int)/\(L=1->nl=2)/\(L≠1->nl=L):=by
  unfold iJ
  rw[if_pos rfl,if_pos rfl,e]
  by_cases h:L=1
  .exact⟨2,by rw[if_pos aa];rfl,fun _=>rfl,fun g=>absurd h g⟩
  exact⟨L,by rw[if_neg aa],fun g=>absurd g h,fun _=>rfl⟩
 have enr:iJ (4,0,op,bZ) 1=((L+1:Nat):Int):=by
  unfold iJ
  rw[if_pos rfl,if_neg ac,e];rfl
 have y:∀bl,(Rose.mk (4,0,op,bZ) [a,b]).pc ps 0 bl=a.pc ps (nl:Int) [32]++(cG (qP op).data.toList [32]::b.pc ps ((L+1:Nat):Int) bl):=fun bl=>by
  rw[zI aa,<-enl,<-enr];rfl
 have v:∀d,d<=32->((Rose.mk (4,0,op,bZ) [a,b]).dep 0 d<=32↔a.dep (nl:Int) d<=32/\b.dep ((L+1:Nat):Int) d<=32):=fun d H=>by
  rw[AL aa,if_pos rfl,zIu,enl,enr];omega
 -- the operator and the second operand
 have tail:∀k d,k+d=32->∀i l bl m,mN ts i (mW (cG (qP op).data.toList [32]::b.pc ps ((L+1:Nat):Int) bl))->NextOk (L+1) ts (i+(1+(b.pc ps ((L+1:Nat):Int) bl).length))->a.size<=l.length->l.length+b.size+1<=256->
   ∀x:Nat,(b.dep ((L+1:Nat):Int) d<=32->nR ts L (PL ts ps (eP ts ps k) (L+1)) (m+1) x (i,l)=if L=1 then .inr ((i+(1+(b.pc ps ((L+1:Nat):Int) bl).length),l++b.flat l.length++[(4,0,op,⟨#[]⟩,[(x:Int),((l.length+b.size-1:Nat):Int)])]),l.length+b.size)
    else nR ts L (PL ts ps (eP ts ps k) (L+1)) m (l.length+b.size) (i+(1+(b.pc ps ((L+1:Nat):Int) bl).length),l++b.flat l.length++[(4,0,op,⟨#[]⟩,[(x:Int),((l.length+b.size-1:Nat):Int)])]))/\
   (¬b.dep ((L+1:Nat):Int) d<=32->∃z,nR ts L (PL ts ps (eP ts ps k) (L+1)) (m+1) x (i,l)= .inl (z,2)):=by
  intro k d o i l bl m f c M A x
  obtain⟨s1,t⟩:=f
  obtain⟨-,o2⟩:=qNo F G s1
  have u:mY ts L i=op:=by rw[o2 L B D,if_pos hL]
  have p:=Z.en k d o (L+1) aa aa (i+1) l bl t (by rw[show i+1+(b.pc ps ((L+1:Nat):Int) bl).length=i+(1+(b.pc ps ((L+1:Nat):Int) bl).length) by omega];exact c) aa
  have E:nR ts L (PL ts ps (eP ts ps k) (L+1)) (m+1) x (i,l)=aQ (PL ts ps (eP ts ps k) (L+1) (i+1,l)) fun q=>aQ (mL (aA ts i) (4,0,op,⟨#[]⟩,[(x:Int),(q.2:Int)]) q.1) fun r=>if L=1 then .inr r else nR ts L (PL ts ps (eP ts ps k) (L+1)) m r.2 r.1:=by
   conv=>lhs;unfold nR
   dsimp only
   rw[u,if_neg aa]
  rw[E]
  constructor
  .intro s
   rw[p.1 s]
   simp only[aQ]
   have fl:(b.flat l.length).length=b.size:=lP ..
   rw[wT (by rw[jB,fl];omega)]
   simp only[jB,fl]
   rw[show i+1+(b.pc ps ((L+1:Nat):Int) bl).length=i+(1+(b.pc ps ((L+1:Nat):Int) bl).length) by omega]
  intro s
  obtain⟨z,K⟩:=p.2 s
  exact⟨z,by rw[K];rfl⟩
 have p:∀n,(a.flat n).length=a.size:=fun n=>lP ..
 have nxt:∀{i:Nat},iV (aA ts i)=iZ (4,(qP op).data.toList)->i<ts.length->NextOk (L+1) ts i:=fun {i} f hi=>by
  obtain⟨M,o2⟩:=qNo F G f
  exact⟨hi,M,fun L' R u E=>by rw[o2 L' u E,if_neg aa]⟩
 have R:∀i bl,mN ts i (mW ((Rose.mk (4,0,op,bZ) [a,b]).pc ps 0 bl))->bX ts 1 sU i=false:=fun i bl f=>by
  rw[y] at f
  refine S nl ?_ i [32] (vD f).1
  by_cases h:L=1
  .rw[nl2 h];decide
  rw[nl3 h];omega
 have fin:∀(l:List Ex) (x:Nat),x=l.length+a.size-1->l++a.flat l.length++b.flat (l++a.flat l.length).length++[((4,0,op,⟨#[]⟩,[(x:Int),(((l++a.flat l.length).length+b.size-1:Nat):Int)]):Ex)]=l++(Rose.mk (4,0,op,bZ) [a,b]).flat l.length:=fun l x hx=>by
  rw[qBn,jB,p,hx]
  simp only[jE]
  rfl
 by_cases h1L:L=1
 .-- a comparison
  subst h1L
  obtain rfl:=nl2 rfl
  refine OR (lv:=1) e ac ac R (fun k d o=> ?_) fun _ _ _ h=>by omega
  intro i l bl f c A
  simp only[y] at f c ⊢
  rw[VE] at A
  obtain⟨s1,t⟩:=vD f
  simp only[jB,jC] at c ⊢
  have E:=U.en k d o 2 ac ac i l [32] s1 (nxt t.1 (by have:=c.1;show i+(a.pc ps ((2:Nat):Int) [32]).length<ts.length;omega)) aa
  have u:=tail k d o (i+(a.pc ps ((2:Nat):Int) [32]).length) (l++a.flat l.length) bl ts.length t (by rw[show i+(a.pc ps ((2:Nat):Int) [32]).length+(1+(b.pc ps ((1+1:Nat):Int) bl).length)=i+((a.pc ps ((2:Nat):Int) [32]).length+((b.pc ps ((1+1:Nat):Int) bl).length+1)) by omega];exact c.up ac) (by rw[jB,p];omega) (by rw[jB,p];omega) (l.length+a.size-1)
  rw[qBh _ ac ac]
  unfold qO
  refine E.bind (g':=b.dep ((1+1:Nat):Int) d<=32) (fun _=> ?_) (v d aa)
  refine⟨fun s=> ?_,u.2⟩
  have:=u.1 s
  rw[if_pos rfl] at this
  refine Eq.trans this ?_
  rw[fin l _ rfl,VE,jB,p]
  show Sum.inr _=Sum.inr _
  have:=a.pos
  rw[show i+(a.pc ps ((2:Nat):Int) [32]).length+(1+(b.pc ps ((1+1:Nat):Int) bl).length)=i+((a.pc ps ((2:Nat):Int) [32]).length+((b.pc ps ((1+1:Nat):Int) bl).length+1)) by omega,show l.length+(a.size+b.size+1)-1=l.length+a.size+b.size by omega]
 -- a sum or a term
 obtain rfl:=nl3 h1L
 have spi:∀k d,k+d=32->Spi ts ps (eP ts ps k) nl (fun bl=>(Rose.mk (4,0,op,bZ) [a,b]).pc ps 0 bl) ((Rose.mk (4,0,op,bZ) [a,b]).dep 0 d<=32) (.mk (4,0,op,bZ) [a,b]):=by
  intro k d o i l bl f c A
  simp only[y] at f c ⊢
  rw[VE] at A
  obtain⟨s1,t⟩:=vD f
  simp only[jB,jC] at c ⊢
  obtain⟨M,V⟩:=U.es k d o nl aa D i l [32] s1 (nxt t.1 (by have:=c.1;show i+(a.pc ps (nl:Int) [32]).length<ts.length;omega)) aa
  dsimp only at M V
  have a0:=c.1
  have H:=v d aa
  have u:=fun m=>tail k d o (i+(a.pc ps (nl:Int) [32]).length) (l++a.flat l.length) bl m t (by rw[show i+(a.pc ps (nl:Int) [32]).length+(1+(b.pc ps ((nl+1:Nat):Int) bl).length)=i+((a.pc ps (nl:Int) [32]).length+((b.pc ps ((nl+1:Nat):Int) bl).length+1)) by omega];exact c) (by rw[jB,p];omega) (by rw[jB,p];omega) (l.length+a.size-1)
  constructor
  .intro s
   obtain⟨ga,gb⟩:=H.1 s
   obtain⟨n',Y,E⟩:=M ga
   obtain⟨m,rfl⟩:∃m,n'=m+1:=⟨n'-1,by omega⟩
   refine⟨m,by omega,?_⟩
   rw[E,(u m).1 gb,if_neg h1L,fin l _ rfl,VE,jB,p]
   rw[show i+(a.pc ps (nl:Int) [32]).length+(1+(b.pc ps ((nl+1:Nat):Int) bl).length)=i+((a.pc ps (nl:Int) [32]).length+((b.pc ps ((nl+1:Nat):Int) bl).length+1)) by omega,show l.length+(a.size+b.size+1)-1=l.length+a.size+b.size by omega]
  intro s
  by_cases ga:a.dep (nl:Int) d<=32
  .obtain⟨n',Y,E⟩:=M ga
   obtain⟨m,rfl⟩:∃m,n'=m+1:=⟨n'-1,by omega⟩
   obtain⟨z,K⟩:=(u m).2 fun gb=>s (H.2 ⟨ga,gb⟩)
   exact⟨z,by rw[E,K]⟩
  exact V ga
 exact OR (lv:=nl) e B aa R (fun k d o=>(spi k d o).fac B D) fun k d o _=>spi k d o
end
section
variable {ts:List bD} {ps:List BA}
def Pn(ts:List bD)(ps:List BA)(t:Rose):Prop:=∀n:Nat,1<=n->∀i bl,mN ts i (mW (t.pc ps (n:Int) bl))->bX ts 1 sU i=false
theorem AT{h:Hd}{ks:List Rose}(b:1<=iH h->∀i bl,mN ts i (mW (rA ps h (mK ps h 0 ks) bl))->bX ts 1 sU i=false):Pn ts ps (.mk h ks):=by
 intro n c i bl a
 by_cases hl:iH h<(n:Int)
 .rw[OG hl] at a
  exact qAn a.1
 rw[zI hl] at a
 exact b aa i bl a
theorem Res.step{α β:Type}{x:cD⊕α}{v:α}{f:α->cD⊕β}{g:Prop}{w:β}(h:x= .inr v)(r:Res (f v) g w):Res (aQ x f) g w:=by
 rw[h];exact r
theorem zGc{a b c:Rose}(v:Pk ts ps a)(y:Pk ts ps b)(z:Pk ts ps c):Pk ts ps (.mk (5,0,0,bZ) [a,b,c]):=by
 have D:iH (5,0,0,bZ)=0:=rfl
 have r:∀bl,(Rose.mk (5,0,0,bZ) [a,b,c]).pc ps 0 bl=eM JO [32]::(a.pc ps 0 [32]++(eM IU [32]::(b.pc ps 0 [32]++(eM IZ [32]::c.pc ps 0 bl)))):=fun bl=>by
  rw[zI aa];rfl
 have p:∀d,d<=32->((Rose.mk (5,0,0,bZ) [a,b,c]).dep 0 d<=32↔a.dep 0 (d+1)<=32/\(b.dep 0 (d+1)<=32/\(c.dep 0 (d+1)<=32/\True))):=fun d E=>by
  have e:(Rose.mk (5,0,0,bZ) [a,b,c]).dep 0 d=max d (max (a.dep 0 (d+1)) (max (b.dep 0 (d+1)) (max (c.dep 0 (d+1)) 0))):=by
   rw[AL aa];rfl
  rw[e];simp only[and_true];omega
 have h:∀k d,k+d=33->OX ts ps k d (.mk (5,0,0,bZ) [a,b,c]):=by
  intro k d g
  cases k with
  |zero=>exact qPy g
  |succ k=>
   intro i l bl t o A
   rw[r] at t o ⊢
   simp only[jC,jB] at o ⊢
   rw[zIj] at A ⊢
   obtain⟨s1,f⟩:=t
   obtain⟨sa,f⟩:=vD f
   obtain⟨st,f⟩:=f
   obtain⟨sb,f⟩:=vD f
   obtain⟨se,sc⟩:=f
   have B:=o.1
   have fa:(a.flat l.length).length=a.size:=lP ..
   have q:bX ts 1 sU i=true:=by rw[tC (pA s1)];rfl
   rw[eP,if_pos q]
   have RA:=v.p0 k (d+1) aa (i+1) l [32] sa (ER zAe st aa 1) aa
   refine RA.bind (fun _=> ?_) (p d aa)
   dsimp only
   refine Res.step (YZ (s:=sThen) st rfl) ?_
   have RB:=y.p0 k (d+1) aa (i+1+(a.pc ps 0 [32]).length+1) (l++a.flat l.length) [32] sb (ER zCo se aa 1) (by rw[jB,fa];omega)
   refine Res.bind (x:=eP ts ps k (i+1+(a.pc ps 0 [32]).length+1,l++a.flat l.length)) RB (fun _=> ?_) Iff.rfl
   dsimp only
   refine Res.step (YZ (s:=sElse) se rfl) ?_
   have fb:(b.flat (l++a.flat l.length).length).length=b.size:=lP ..
   have fc:∀n,(c.flat n).length=c.size:=fun n=>lP ..
   have RC:=z.p0 k (d+1) aa (i+1+(a.pc ps 0 [32]).length+1+(b.pc ps 0 [32]).length+1) ((l++a.flat l.length)++b.flat (l++a.flat l.length).length) bl sc (by
    rw[show i+1+(a.pc ps 0 [32]).length+1+(b.pc ps 0 [32]).length+1+(c.pc ps 0 bl).length=i+((a.pc ps 0 [32]).length+((b.pc ps 0 [32]).length+((c.pc ps 0 bl).length+1)+1)+1) by omega]
    exact o) (by rw[jB,fb,jB,fa];omega)
   refine Res.bind (x:=eP ts ps k (i+1+(a.pc ps 0 [32]).length+1+(b.pc ps 0 [32]).length+1,(l++a.flat l.length)++b.flat (l++a.flat l.length).length)) RC (fun _=> .pure trivial ?_) Iff.rfl
   dsimp only
   have pa:=a.pos
   have pb:=b.pos
   have pc:=c.pos
   rw[wT (by simp only[jB,fa,fb,fc];simp only[jB,fa] at fb;omega)]
   simp only[jB,fa,fc]
   rw[show(b.flat (l.length+a.size)).length=b.size from lP ..]
   rw[qBt]
   have u:i+1+(a.pc ps 0 [32]).length+1+(b.pc ps 0 [32]).length+1+(c.pc ps 0 bl).length=i+((a.pc ps 0 [32]).length+((b.pc ps 0 [32]).length+((c.pc ps 0 bl).length+1)+1)+1):=by omega
   rw[u,show l.length+(a.size+b.size+c.size+1)-1=l.length+a.size+b.size+c.size by omega]
   simp only[jE]
   rfl
 refine⟨h,fun k d g n o f=> ?_,fun k d g L L2 L3=> ?_⟩
 .have e:(fun bl=>(Rose.mk (5,0,0,bZ) [a,b,c]).pc ps (n:Int) bl)=fun bl=>cG [40] []::((Rose.mk (5,0,0,bZ) [a,b,c]).pc ps 0 []++[cG [41] bl]):=by
   funext bl;rw[OG aa]
  rw[e,qAf aa]
  exact(qAc g (h k (d+1) aa)).lifts aa f aa
 have e:(fun bl=>(Rose.mk (5,0,0,bZ) [a,b,c]).pc ps (L:Int) bl)=fun bl=>cG [40] []::((Rose.mk (5,0,0,bZ) [a,b,c]).pc ps 0 []++[cG [41] bl]):=by
  funext bl;rw[OG aa]
 rw[e,qAf aa]
 exact((qAc g (h k (d+1) aa)).lifts (m:=L+1) aa aa aa).spi
theorem zDt{s:BA}{a:Rose}(y:iF s.data.toList=true)(t:Pk ts ps a):Pk ts ps (.mk (6,0,0,s) [a]):=by
 have n:iH (6,0,0,s)=4:=rfl
 have c:∀bl,(Rose.mk (6,0,0,s) [a]).pc ps 0 bl=eM IX []::cG [40] []::sW s.data.toList []::cG [44] [32]::(a.pc ps 0 []++[cG [41] bl]):=fun bl=>by
  rw[zI aa];rfl
 refine OR (lv:=4) n ac ac (fun i bl b=>by rw[c] at b;exact wU b.1 ah) (fun k d E=> ?_) fun _ _ _ h=>by omega
 have f:(Rose.mk (6,0,0,s) [a]).dep 0 d<=32↔a.dep 0 (d+1)<=32/\True:=by
  have e:(Rose.mk (6,0,0,s) [a]).dep 0 d=max d (max (a.dep 0 (d+1)) 0):=by
   rw[AL aa];rfl
  rw[e];simp only[and_true];omega
 intro i l bl b g v
 simp only[c] at b g ⊢
 simp only[jC,jB,jD] at g ⊢
 rw[zHf] at v ⊢
 obtain⟨s1,A,o,B,D⟩:=b
 obtain⟨sa,sz,-⟩:=vD D
 have x:=g.1
 have p:(aA ts i).2.1=sRead:=rK (pA s1)
 have r:(aA ts (i+1+1)).2.1=s:=rK (EO o)
 have fa:(a.flat l.length).length=a.size:=lP ..
 have u:PL ts ps (eP ts ps k) 4 (i,l)=aQ (eP ts ps k (i+1+1+1+1,l)) fun q=>aQ (iD ts sClose q.1.1) fun j=>mL (aA ts i) (6,0,0,s,[(q.2:Int)]) (j,q.1.2):=by
  show nT ts ps (eP ts ps k) (i,l)=_
  rw[NE s1,if_pos ah]
  unfold rV
  dsimp only
  rw[qM (s:=sOpen) A rfl]
  simp only[aQ]
  rw[p,if_pos rfl,UC o y]
  simp only[aQ]
  rw[qM (s:=sComma) B rfl]
  simp only[aQ]
  rw[r]
  cases eP ts ps k (i+1+1+1+1,l) with
  |inl z=>rfl
  |inr q=>rfl
 rw[u]
 have RA:=t.p0 k (d+1) aa (i+1+1+1+1) l [] sa (ER YW sz aa 1) aa
 refine RA.bind (fun _=> .pure trivial ?_) f
 dsimp only
 refine Eq.trans (congrArg (fun z=>aQ z _) (qM (s:=sClose) sz rfl)) ?_
 simp only[aQ]
 have pa:=a.pos
 rw[wT (by rw[jB,fa];omega),qBl,jB,fa]
 rw[show i+1+1+1+1+(a.pc ps 0 []).length+1=i+((a.pc ps 0 []).length+(0+1)+1+1+1+1) by omega,show l.length+(a.size+1)-1=l.length+a.size by omega,<-jE]
 rfl
end
section
variable {ts:List bD} {ps:List BA}
def Pz(ts:List bD)(ps:List BA)(t:Rose):Prop:=∀(n:Nat) i bl,mN ts i (mW (t.pc ps (n:Int) bl))->bX ts 4 sClose i=false
theorem AU{h:Hd}{ks:List Rose}(b:∀i bl,mN ts i (mW (rA ps h (mK ps h 0 ks) bl))->bX ts 4 sClose i=false):Pz ts ps (.mk h ks):=by
 intro n i bl a
 by_cases hl:iH h<(n:Int)
 .rw[OG hl] at a
  exact MR a.1 ah
 rw[zI hl] at a
 exact b i bl a
theorem CM{i:Nat}{w:List UInt8}(h:iV (aA ts i)=iZ (1,w)):bX ts 4 sClose i=false:=by
 rw[tC (pA h)];rfl
theorem zGy{i:Nat}{w:List UInt8}(h:iV (aA ts i)=iZ (2,w)):bX ts 4 sClose i=false:=by
 rw[tC h];rfl
theorem qEx{n:Int}{i:Nat}{bl:List UInt8}(a:mN ts i (mW (uG n bl))):bX ts 1 sU i=false/\bX ts 4 sClose i=false:=by
 unfold uG at a
 split at a
 .exact⟨qAn a.1,MR a.1 ah⟩
 exact⟨qOv a.1,zGy a.1⟩
theorem qJp:∀(ws:List Pf) (j:Nat),ws.length<=(nV (j+1) ws).length
 |[],_=>jW _
 |w::ws,j=>by
  have:=qJp ws (j+1)
  show ws.length+1<=((if j+1=0 then[] else[cG [44] [32]])++(w []++nV (j+1+1) ws)).length
  rw[if_neg aa]
  simp only[jB,jC,jD]
  omega
theorem qKd(s:BA){k d:Nat}(g:k+(d+1)=33):∀(ks:List Rose) (t:Rose) (m j:Nat) (acc:List Int) (i:Nat) (l:List Ex) (bl:List UInt8),(∀u∈t::ks,Pk ts ps u)->
  mN ts i (mW (t.pc ps 0 []++(nV (j+1) (mK ps (3,0,0,s) (j+1) ks)++[cG [41] bl])))->i+((t.pc ps 0 []).length+((nV (j+1) (mK ps (3,0,0,s) (j+1) ks)).length+1))<ts.length->l.length+t.size+cM ks<=256->ks.length<m->
  Res (tZ ts (eP ts ps k) m acc (i,l)) (max (t.dep 0 (d+1)) (sB (3,0,0,s) (j+1) (d+1) ks)<=32) ((i+((t.pc ps 0 []).length+((nV (j+1) (mK ps (3,0,0,s) (j+1) ks)).length+1)),l++(t.flat l.length++lH (l.length+t.size) ks)),acc++eO l.length (t::ks))
 |_,_,0,_,_,_,_,_,_,_,_,_,h=>absurd h (kK _)
 |[],t,m+1,j,acc,i,l,bl,f,c,b,n,_=>by
  obtain⟨s1,a⟩:=vD c
  have a:iV (aA ts (i+(t.pc ps 0 []).length))=iZ (4,[41]):=a.1
  have x:(nV (j+1) (mK ps (3,0,0,s) (j+1) [])).length=0:=rfl
  rw[x] at b ⊢
  have e:cM []=0:=rfl
  rw[e] at n
  have RA:=(f t (jF ..)).p0 k (d+1) g i l [] s1 (ER YW a aa 1) aa
  unfold tZ
  refine RA.bind (g':=True) (fun _=> .pure trivial ?_) (by show max _ 0<=32↔_;simp only[and_true];omega)
  dsimp only
  rw[if_neg (by rw[MR a ah];exact kH)]
  refine Eq.trans (congrArg (fun z=>aQ z _) (qM (s:=sClose) a rfl)) ?_
  simp only[aQ]
  show Sum.inr _=Sum.inr _
  rw[show lH (l.length+t.size) []=[] from rfl,jV,kT,<-gS]
  rfl
 |u::us,t,m+1,j,acc,i,l,bl,f,c,b,n,y=>by
  have o:nV (j+1) (mK ps (3,0,0,s) (j+1) (u::us))=cG [44] [32]::(u.pc ps 0 []++nV (j+1+1) (mK ps (3,0,0,s) (j+1+1) us)):=by
   show(if j+1=0 then[] else[cG [44] [32]])++(u.pc ps (iJ (3,0,0,s) (j+1)) []++nV (j+1+1) (mK ps (3,0,0,s) (j+1+1) us))=_
   rw[if_neg aa];rfl
  rw[o] at c b ⊢
  rw[jT,jE] at c
  simp only[jC,jB] at b ⊢
  have e:cM (u::us)=u.size+cM us:=rfl
  rw[e] at n
  obtain⟨s1,a⟩:=vD c
  obtain⟨a,B⟩:=a
  have a:iV (aA ts (i+(t.pc ps 0 []).length))=iZ (4,[44]):=a
  have ft:(t.flat l.length).length=t.size:=lP ..
  have RA:=(f t (jF ..)).p0 k (d+1) g i l [] s1 (ER qYr a aa 1) aa
  have RB:=qKd s g us u m (j+1) (acc++[((l.length+t.size-1:Nat):Int)]) (i+(t.pc ps 0 []).length+1) (l++t.flat l.length) bl (fun v A=>f v (jH _ A)) B aa (by rw[jB,ft];omega) (by simp only[jC] at y;omega)
  unfold tZ
  refine RA.bind (fun _=> ?_) (g':=max (u.dep 0 (d+1)) (sB (3,0,0,s) (j+1+1) (d+1) us)<=32) (by show max _ (max (u.dep 0 (d+1)) _)<=32↔_;omega)
  dsimp only
  rw[if_pos (EI (s:=sComma) a rfl)]
  rw[jB,ft] at RB
  have p:i+(t.pc ps 0 []).length+1+((u.pc ps 0 []).length+((nV (j+1+1) (mK ps (3,0,0,s) (j+1+1) us)).length+1))=i+((t.pc ps 0 []).length+((u.pc ps 0 []).length+(nV (j+1+1) (mK ps (3,0,0,s) (j+1+1) us)).length+1+1)):=by omega
  rw[p] at RB
  have q:l++t.flat l.length++(u.flat (l.length+t.size)++lH (l.length+t.size+u.size) us)=l++(t.flat l.length++lH (l.length+t.size) (u::us)):=by
   rw[jE];rfl
  rw[q] at RB
  have r:acc++[((l.length+t.size-1:Nat):Int)]++eO (l.length+t.size) (u::us)=acc++eO l.length (t::u::us):=by
   rw[jE];rfl
  rw[r] at RB
  exact RB
theorem zEm{s:BA}{ks:List Rose}(h:iC s=true)(o:∀t∈ks,Pk ts ps t/\Pz ts ps t):Pk ts ps (.mk (3,0,0,s) ks):=by
 have F:iH (3,0,0,s)=4:=rfl
 obtain⟨S,U,V⟩:=MV h
 have x:∀bl,(Rose.mk (3,0,0,s) ks).pc ps 0 bl=eM s.data.toList []::cG [40] []::(nV 0 (mK ps (3,0,0,s) 0 ks)++[cG [41] bl]):=fun bl=>by
  rw[zI aa];rfl
 refine OR (lv:=4) F ac ac (fun i bl y=>by rw[x] at y;exact wU y.1 V) (fun k d Y=> ?_) fun _ _ _ h=>by omega
 intro i l bl y p z
 have g:(Rose.mk (3,0,0,s) ks).flat l.length=lH l.length ks++[iS (3,0,0,s) (eO l.length ks)]:=by unfold Rose.flat;rfl
 have b:(Rose.mk (3,0,0,s) ks).size=cM ks+1:=rfl
 have n:(Rose.mk (3,0,0,s) ks).dep 0 d=max d (sB (3,0,0,s) 0 (d+1) ks):=by rw[AL aa];rfl
 simp only[x] at y p ⊢
 rw[b] at z
 rw[g,b,n]
 simp only[jC,jB,jD] at p ⊢
 obtain⟨s1,H,e⟩:=y
 have f:=p.1
 have E:PL ts ps (eP ts ps k) 4 (i,l)=aQ (xS ts (eP ts ps k) (i+1,l)) fun q=>mL (aA ts i) (3,0,0,s,q.2) q.1:=by
  show nT ts ps (eP ts ps k) (i,l)=_
  rw[NE s1,if_neg S,if_neg (by rw[show uM (⟨⟨s.data.toList⟩⟩:BA)=false from U];exact kH),if_pos (EI (s:=sOpen) H rfl)]
 have D:xS ts (eP ts ps k) (i+1,l)=if bX ts 4 sClose (i+1+1) then .inr ((i+1+1+1,l),[]) else tZ ts (eP ts ps k) (ts.length+1) [] (i+1+1,l):=by
  unfold xS
  dsimp only
  rw[qM (s:=sOpen) H rfl]
  rfl
 rw[E,D]
 cases ks with
 |nil=>
  have e:iV (aA ts (i+1+1))=iZ (4,[41]):=e.1
  have A:(nV 0 (mK ps (3,0,0,s) 0 [])).length=0:=rfl
  rw[A] at p ⊢
  have c:cM []=0:=rfl
  rw[c] at z
  rw[if_pos (EI (s:=sClose) e rfl)]
  refine .pure (by show max d 0<=32;omega) ?_
  simp only[aQ]
  rw[wT aa,show i+1+1+1=i+(0+(0+1)+1+1) by omega]
  rfl
 |cons u us=>
  have B:nV 0 (mK ps (3,0,0,s) 0 (u::us))=u.pc ps 0 []++nV (0+1) (mK ps (3,0,0,s) (0+1) us):=rfl
  rw[B] at e f ⊢
  simp only[jB] at f ⊢
  rw[jE] at e
  have R:bX ts 4 sClose (i+1+1)=false:=(o u (jF ..)).2 0 (i+1+1) [] (vD e).1
  rw[if_neg (by rw[R];exact kH)]
  have c:cM (u::us)=u.size+cM us:=rfl
  rw[c] at z
  have A:=qJp (mK ps (3,0,0,s) (0+1) us) 0
  have G:(mK ps (3,0,0,s) (0+1) us).length=us.length:=by
   clear A f e B x o g b n p z c E D
   generalize 0+1=j
   induction us generalizing j with
   |nil=>rfl
   |cons a r K=>show(mK ps (3,0,0,s) (j+1) r).length+1=_;rw[K];rfl
  rw[G] at A
  have RA:=qKd s (k:=k) (d:=d) aa us u (ts.length+1) 0 [] (i+1+1) l bl (fun v M=>(o v M).1) e aa aa aa
  refine RA.bind (g':=True) (fun _=> .pure trivial ?_) (by show max d (max (u.dep 0 (d+1)) _)<=32↔_;simp only[and_true];omega)
  dsimp only
  have fl:(u.flat l.length++lH (l.length+u.size) us).length=u.size+cM us:=by
   rw[jB,lP,IA]
  rw[wT (by rw[jB,fl];omega),jB,fl]
  have K:i+1+1+((u.pc ps 0 []).length+((nV (0+1) (mK ps (3,0,0,s) (0+1) us)).length+1))=i+((u.pc ps 0 []).length+(nV (0+1) (mK ps (3,0,0,s) (0+1) us)).length+(0+1)+1+1):=by omega
  rw[K,jE,c,show l.length+(u.size+cM us+1)-1=l.length+(u.size+cM us) by omega]
  rfl
theorem zEj(r:∀s∈ps,iC s=true)(v:∀j,j<ps.length->ps.findIdx? (fun x=>decide (x=ps.getD j ⟨#[]⟩))=some j){t:Rose}(B:Fine ps.length t):Pk ts ps t/\Pn ts ps t/\Pz ts ps t:=by
 induction B with
 |num n l o=>exact⟨zFa l o,AT fun _ i bl d=>(qEx d).1,AU fun i bl d=>(qEx d).2⟩
 |par i h=>
  have f:ps.getD i ⟨#[]⟩∈ps:=by
   rw[jS,List.getElem?_eq_getElem h]
   exact jM h
  exact⟨zFo h r (v i h),AT fun _ j bl d=>wU d.1 (MV (r _ f)).2.2,AU fun j bl d=>CM d.1⟩
 |call s ks h q z=>exact⟨zEm h fun t y=>⟨(z t y).1,(z t y).2.2⟩,AT fun _ j bl d=>wU d.1 (MV h).2.2,AU fun j bl d=>CM d.1⟩
 |bin op a b l o u p f g=>
  obtain⟨e,A,D⟩:=qCi l o
  obtain⟨nl,enl,hnl⟩:∃nl:Nat,iJ (4,0,op,bZ) 0=(nl:Int)/\1<=nl:=by
   unfold iJ
   rw[if_pos rfl,if_pos rfl,e]
   split
   .exact⟨2,rfl,by decide⟩
   exact⟨xF op,rfl,A⟩
  have p:∀bl,rA ps (4,0,op,bZ) (mK ps (4,0,op,bZ) 0 [a,b]) bl=a.pc ps (nl:Int) [32]++(cG (qP op).data.toList [32]::b.pc ps (iJ (4,0,op,bZ) 1) bl):=fun bl=>by
   rw[<-enl];rfl
  exact⟨zGg l o f.1 g.1 f.2.1,AT fun _ i bl d=>by rw[p] at d;exact f.2.1 nl hnl i [32] (vD d).1,AU fun i bl d=>by rw[p] at d;exact f.2.2 nl i [32] (vD d).1⟩
 |ite a b c u p D f g A=>exact⟨zGc f.1 g.1 A.1,AT fun h=>absurd h ac,AU fun i bl d=>CM d.1⟩
 |read s a h u f=>exact⟨zDt h f.1,AT fun _ i bl d=>wU d.1 ah,AU fun i bl d=>CM d.1⟩
 |look k s q h=>
  refine⟨qMf (.inl ⟨q,h⟩),AT fun _ i bl d=> ?_,AU fun i bl d=> ?_⟩
  .rcases q with rfl|rfl
   .exact wU (w:=(pO 7).data.toList) d.1 ah
   exact wU (w:=(pO 8).data.toList) d.1 ah
  rcases q with rfl|rfl<;>exact CM d.1
 |env s h=>exact⟨qMf (.inr ⟨rfl,h⟩),AT fun _ i bl d=>wU (w:=(pO 9).data.toList) d.1 ah,AU fun i bl d=>CM d.1⟩
 |flip n h=>exact⟨zCz h,AT fun _ i bl d=>wU d.1 ah,AU fun i bl d=>CM d.1⟩
end
end
end Go.Proofs.YteclmpmonbnooaaGreatDoor
