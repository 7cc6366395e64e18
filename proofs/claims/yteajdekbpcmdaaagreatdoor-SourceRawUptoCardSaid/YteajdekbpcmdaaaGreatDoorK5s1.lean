/- No condition but those of each theorem. -/
import Derived.Test.YteajdekbpcmdaaaGreatDoorProg
import Derived.WalkKit
import Derived.Deep.LoopGhost
import Derived.KernelRfl
import Derived.OrdersHeld
import Derived.OrdersIn
import Derived.LoopNIn
import Derived.Sort.LoopGhostIn
import Derived.Laws.AppendOwn
import Derived.RangeFuncLeaves
import Derived.RangeFuncRecord
import Derived.MapKept
import Derived.Maps.RangeRun
import Derived.ChangeKeysEq
import Derived.HandedShaped
import Derived.ChangeStays
import Derived.ChangeSame
import Derived.OpenShut
import Derived.WideShapes
import Derived.JoinedOf
import Derived.ReadAgain
import Derived.ChangeAt
import Derived.RowKit
import Derived.Lib.Overlaps
import Derived.WalkSmall
import Derived.Recover
import Derived.Lib.Builder
import Derived.Lib.UnsafeStr
import Derived.Shelf.Strconv.Itoa3
import Derived.Room.Shelf.Join48
import Derived.Test.YteajdekbpcmdaaaGreatDoorRows
import Derived.Lib.Bytealg
import Derived.Test.YteajdekbpcmdaaaGreatDoorK4s1
namespace Go.Proofs.YteajdekbpcmdaaaGreatDoor
section
open Go Go.Dc
theorem qYr{p:UInt8→Bool}(h:((List.range 256).all fun n=>p (UInt8.ofNat n))=true)(c:UInt8):p c=true:=by
 have:=kD.1 h c.toNat (fI.2 c.toNat_lt)
 simpa using this
theorem zAe{N:Nat}(c:UInt8):qGq N (c.toNat:Int)=some (kd c==1):=by
 have h:=qYr (p:=fun c=>(decide (97≤c.toNat)&&decide (c.toNat≤122))==(kd c==1)) (by kernel_rfl) c
 rw[kG] at h
 rw[←h]
 unfold qGq
 by_cases h1:97≤c.toNat
 ·rw[if_pos (by simp only[jA];omega)]
  simp only[h1,decide_true,g9,j0]
  congr 1
  exact decide_eq_decide.2 (by omega)
 ·rw[if_neg (by simp only[jA];omega)]
  simp[h1]
theorem qXn{N:Nat}(c:UInt8):qGb N (c.toNat:Int)=some (inK [1,2,3] c):=by
 have h:=qYr (p:=fun c=>(kd c==1||(decide (48≤c.toNat)&&decide (c.toNat≤57)||decide (c.toNat=95)))==inK [1,2,3] c) (by kernel_rfl) c
 rw[kG] at h
 rw[←h]
 unfold qGb
 rw[zAe]
 simp only[j0]
 cases kd c==1
 ·have e95:((c.toNat:Int)==95)=decide (c.toNat=95):=by rw[kE,kG,jA];omega
  simp only[jB,jH,kT,e95]
  by_cases h1:48≤c.toNat
  ·by_cases h2:c.toNat≤57
   ·rw[if_pos (by simp only[jA];omega),if_pos (by simp only[jA];omega)];simp[h1,h2]
   ·rw[if_pos (by simp only[jA];omega),if_neg (by simp only[jA];omega)];simp[h2]
  ·rw[if_neg (by simp only[jA];omega)];simp[h1]
 ·rfl
theorem zBn(c:UInt8):kd c=2↔48≤c.toNat∧c.toNat≤57:=by
 have h:=qYr (p:=fun c=>(kd c==2)==(decide (48≤c.toNat)&&decide (c.toNat≤57))) (by kernel_rfl) c
 rw[kG,kE] at h
 simpa using h
theorem zFp(c:UInt8):kd c=7↔c=34:=by
 have h:=qYr (p:=fun c=>(kd c==7)==(c==34)) (by kernel_rfl) c
 rw[kG,kE] at h
 simpa using h
def signs:List UInt8:=[59,44,40,41,43,45,42,47,37,60,61]
theorem zLl(c:UInt8):kd c=8↔signs.contains c=true:=by
 have h:=qYr (p:=fun c=>(kd c==8)==signs.contains c) (by kernel_rfl) c
 rw[kG,kE] at h
 simpa using h
theorem zNg(c:UInt8):inK [5] c=true↔c.toNat=32∨c.toNat=9∨c.toNat=10∨c.toNat=13:=by
 have h:=qYr (p:=fun c=>inK [5] c==(decide (c.toNat=32)||(decide (c.toNat=9)||(decide (c.toNat=10)||decide (c.toNat=13))))) (by kernel_rfl) c
 rw[kG,kE] at h
 simpa using h
theorem zIw(c:UInt8):kd c=6↔c.toNat=35:=by
 have h:=qYr (p:=fun c=>(kd c==6)==decide (c.toNat=35)) (by kernel_rfl) c
 rw[kG,kE] at h
 simpa using h
def numR(n:Int)(c:UInt8):Int:=if n≤9007199254740992 then n*10+((c.toNat:Int)-48) else n
theorem zOm(l:List UInt8)(c:UInt8):(l++[c]).foldl numR 0=numR (l.foldl numR 0) c:=by simp
theorem zPu:∀(n:Nat) (ds:List UInt8),ds.length=n→(∀c∈ds,kd c=2)→0≤ds.foldl numR 0∧ds.foldl numR 0≤90071992547409930∧numL ds=if ds.foldl numR 0>9007199254740992 then 9007199254740993 else ds.foldl numR 0
 |0,ds,h,_=>by obtain rfl:=kW.1 h;simp[numL]
 |n+1,ds,h,hd=>by
  obtain⟨l,c,rfl⟩:∃l c,ds=l++[c]:=by
   rcases fX ds with e|⟨l,c,e⟩
   ·rw[e] at h;cases h
   ·exact⟨l,c,by simpa using e⟩
  obtain⟨h1,h2,h3⟩:=zPu n l (by simpa using h) (fun c hc=>hd c (kA _ hc))
  have hc:=zDw c (hd c (by simp))
  rw[zOm,qWz]
  by_cases hu:l.foldl numR 0≤9007199254740992
  ·rw[if_neg (by omega)] at h3
   rw[h3]
   generalize l.foldl numR 0=u at h1 h2 hu
   have e1:numR u c=u*10+((c.toNat:Int)-48):=if_pos hu
   rw[e1]
   unfold numS
   refine⟨by omega,by omega,?_⟩
   by_cases h4:9007199254740993<10*u+((c.toNat:Int)-48)
   ·rw[if_pos h4,if_pos (by omega)]
   ·rw[if_neg h4]
    by_cases h5:u*10+((c.toNat:Int)-48)>9007199254740992
    ·rw[if_pos h5];omega
    ·rw[if_neg h5];omega
  ·rw[if_pos (by omega)] at h3
   rw[h3]
   generalize l.foldl numR 0=u at h1 h2 hu
   have e1:numR u c=u:=if_neg hu
   have e2:numS 9007199254740993 c=9007199254740993:=if_pos (by omega)
   rw[e1,e2,if_pos (by omega)]
   exact⟨h1,h2,rfl⟩
theorem inK2(c:UInt8):inK [2] c=decide (48≤c.toNat∧c.toNat≤57):=by
 rw[kE,jA,←zBn];simp[inK]
theorem zAf{N:Nat}{s:ByteArray}:∀(d i M:Nat) (n:Int),i+d=s.data.toList.length→s.data.toList.length<1000000→d<M→0≤n→n≤90071992547409930→
  qAt (qHe N s) M ((i:Int),n)=some (((tw (inK [2]) s.data.toList i:Nat):Int),((s.data.toList.drop i).takeWhile (inK [2])).foldl numR n)
 |d,i,0,n,_,_,h,_,_=>by omega
 |0,i,M+1,n,h1,hl,h2,h3,h4=>by
  have hs:=qCn s
  rw[zBy (by omega),jT (by omega)]
  simp only[qAt,qHe]
  rw[if_neg (by simp only[jA];omega)]
  rfl
 |d+1,i,M+1,n,h1,hl,h2,h3,h4=>by
  have hs:=qCn s
  have hi:i<s.data.toList.length:=by omega
  simp only[qAt,qHe]
  rw[if_pos (by simp only[jA];omega),qGa hi]
  simp only[j0]
  have hc:(if decide (((s.data.toList[i]).toNat:Int)≥48)=true then some (decide (((s.data.toList[i]).toNat:Int)≤57)) else some false)=some (inK [2] (s.data.toList[i])):=by
   rw[inK2]
   by_cases h48:48≤(s.data.toList[i]).toNat
   ·rw[if_pos (by simp only[jA];omega)];congr 1;exact decide_eq_decide.2 (by omega)
   ·rw[if_neg (by simp only[jA];omega)];congr 1;exact(jX (by omega)).symm
  rw[hc]
  simp only[j0]
  rw[jU hi]
  cases hb:inK [2] (s.data.toList[i]) with
  |false=>
   rw[qVi hi hb,gS (by rw[hb];exact kF)]
   rfl
  |true=>
   have hd:48≤(s.data.toList[i]).toNat∧(s.data.toList[i]).toNat≤57:=by rw[inK2] at hb;simpa using hb
   rw[←qUl hi hb,gH hb,List.foldl_cons,if_pos rfl]
   have hn:(if decide (n≤9007199254740992)=true then some (IntKind.wrap .i64 (IntKind.wrap .i64 (n*10)+IntKind.wrap .i64 (IntKind.wrap .u8 (((s.data.toList[i]).toNat:Int)-48)))) else some n)=some (numR n (s.data.toList[i])):=by
    unfold numR
    by_cases hn:n≤9007199254740992
    ·rw[if_pos (by simpa using hn),if_pos hn,wu8 (by omega) (by omega),wi64 (x:=n*10) (by omega) (by omega),wi64 (x:=((s.data.toList[i]).toNat:Int)-48) (by omega) (by omega),wi64 (by omega) (by omega)]
    ·rw[if_neg (by simpa using hn),if_neg hn]
   rw[hn]
   simp only[j0]
   rw[wi64 (by omega) (by omega),←gM]
   exact zAf d (i+1) M _ (by omega) hl (by omega) (by unfold numR;split<;>omega) (by unfold numR;split<;>omega)
theorem zKb(c:UInt8):(if decide ((c.toNat:Int)≥32)=true then(if decide ((c.toNat:Int)≤126)=true then some ((c.toNat:Int) !=34) else some false) else some false)=some (qPs c):=by
 unfold qPs
 by_cases h1:32≤c.toNat
 ·rw[if_pos (by simp only[jA];omega)]
  by_cases h2:c.toNat≤126
  ·rw[if_pos (by simp only[jA];omega)]
   simp only[h1,h2,decide_true,g9]
   congr 1
   rw[kE,fL,fL]
   exact⟨fun h e=>h (by rw[e];rfl),fun h e=>h (UInt8.toNat_inj.1 (by show _=34;omega))⟩
  ·rw[if_neg (by simp only[jA];omega)];simp[h2]
 ·rw[if_neg (by simp only[jA];omega)];simp[h1]
theorem zFz{N:Nat}{s:ByteArray}(d i M:Nat)(h1:i+d=s.data.toList.length)(hl:s.data.toList.length<1000000)(h2:d<M):qAt (qEk N s) M (i:Int)=some ((tw qPs s.data.toList i:Nat):Int):=by
 have hs:=qCn s
 refine qXx (f:=qEk N s) (l:=s.data.toList) (p:=qPs) (fun e=>(e:Int)) (fun j hj hb=> ?_) (fun j hj hb=> ?_) ?_ d i M h1 h2
 ·simp only[qEk]
  rw[if_pos (by simp only[jA];omega),qGa hj]
  simp only[j0,zKb,hb]
  rw[if_pos trivial,wi64 (by omega) (by omega)]
 ·simp only[qEk]
  rw[if_pos (by simp only[jA];omega),qGa hj]
  simp only[j0,zKb,hb]
  rfl
 ·simp only[qEk]
  rw[if_neg (by simp only[jA];omega)]
  rfl
theorem zTd{N:Nat}{s:ByteArray}{p1 s6:Int}:qIl N s p1 s6=if(decide (s6<(signs.length:Int)))=true then((idx signs s6).bind fun x12=>(idxB s p1).bind fun x13=>if((x13.toNat:Int)==(x12.toNat:Int))=true then((subB s p1 (IntKind.wrap .i64 (p1+1))).bind fun s7=>some (.inr (.inr (((4,s7,0,p1),IntKind.wrap .i64 (p1+1),0))))) else(some (.inl (IntKind.wrap .i64 (s6+1))))) else(some (.inr (.inl ()))):=rfl
theorem qYu{N:Nat}{s:ByteArray}{i:Nat}(hi:i<s.data.toList.length)(hl:s.data.toList.length<1000000):∀(d j M:Nat),j+d=signs.length→d<M→
  qAt (qIl N s (i:Int)) M (j:Int)=some (if(signs.drop j).contains (s.data.toList[i])=true then .inr ((4,s.extract i (i+1),0,(i:Int)),((i+1:Nat):Int),0) else .inl ())
 |d,j,0,_,h=>by omega
 |0,j,M+1,h1,h2=>by
  simp only[qAt,zTd]
  rw[if_neg (by simp only[jA];omega),jT (by omega)]
  rfl
 |d+1,j,M+1,h1,h2=>by
  have hj:j<signs.length:=by omega
  have hls:signs.length=11:=rfl
  simp only[qAt,zTd]
  rw[if_pos (by simp only[jA];omega),qDn hj,qGa hi,jU hj]
  simp only[j0,List.contains_cons]
  by_cases he:s.data.toList[i]=signs[j]
  ·rw[if_pos (by rw[he];exact kX _),wi64 (x:=(i:Int)+1) (by omega) (by omega),←gM,qNy (by omega) (by omega)]
   simp only[j0]
   rw[if_pos (by rw[he];simp)]
  ·have hne:¬((s.data.toList[i]).toNat:Int)=((signs[j]).toNat:Int):=fun h=>he (UInt8.toNat_inj.1 (by omega))
   have hne2:(s.data.toList[i]==signs[j])=false:=beq_eq_false_iff_ne.2 he
   rw[if_neg (by simpa using hne),wi64 (by omega) (by omega),←gM]
   simp only[j0,hne2,kT]
   exact qYu hi hl d (j+1) M (by omega) (by omega)
def refP(s:ByteArray)(i:Nat):(Int×ByteArray×Int×Int)×Int×Int:=
 if(tokP s i).2.2=0 then(((tokP s i).1.1,(tokP s i).1.2.1,(tokP s i).1.2.2.1,(i:Int)),(tokP s i).2.1,0) else tokP s i
theorem zIg{N:Nat}{s:ByteArray}{i:Nat}(hi:i<s.data.toList.length)(hl:s.data.toList.length<1000000)(hN:s.data.toList.length+20<N):qKi N s (i:Int)=some (refP s i):=by
 have hs:=qCn s
 simp only[qKi,qGa hi,j0,zAe,refP,tokP,qIr hi,kG]
 by_cases h1:kd (s.data.toList[i])=1
 ·simp only[h1,jK]
  have hb:=qSz (p:=inK [1,2,3]) (l:=s.data.toList) (a:=i) (by omega)
  have key:=qXx (f:=qFj N s) (l:=s.data.toList) (p:=inK [1,2,3]) (fun e=>(e:Int)) (fun j hj hb=>by
   simp only[qFj]
   rw[if_pos (by simp only[jA];omega),qGa hj]
   simp only[j0,qXn,hb]
   rw[if_pos trivial,wi64 (by omega) (by omega)]) (fun j hj hb=>by
   simp only[qFj]
   rw[if_pos (by simp only[jA];omega),qGa hj]
   simp only[j0,qXn,hb]
   rfl) (by
   simp only[qFj]
   rw[if_neg (by simp only[jA];omega)]
   rfl) (s.data.toList.length-i) i N (by omega) (by omega)
  rw[key]
  simp only[j0]
  rw[wi64 (by omega) (by omega),qNy hb.1 hb.2]
  by_cases h:tw (inK [1,2,3]) s.data.toList i-i>24
  ·rw[if_pos (by simp only[jA];omega),if_pos h];rfl
  ·rw[if_neg (by simp only[jA];omega),if_neg h];rfl
 simp only[h1,jH]
 by_cases h2:kd (s.data.toList[i])=2
 ·simp only[h2,jK]
  have hd:=(zBn _).1 h2
  rw[if_pos (by simp only[jA];omega)]
  simp only[j0]
  obtain⟨n1,n2,n3⟩:=zPu _ _ rfl (fun c (hc:c∈(s.data.toList.drop i).takeWhile (inK [2]))=>by simpa[inK] using zKv hc)
  rw[if_pos (by simp only[jA];omega),zAf (s.data.toList.length-i) i N 0 (by omega) hl (by omega) (by omega) (by omega),n3]
  simp only[j0,jA]
  generalize ((s.data.toList.drop i).takeWhile (inK [2])).foldl numR 0=u at n1 n2
  by_cases h4:u>9007199254740992
  ·simp[h4,zGg]
  ·simp[h4]
 simp only[h2,jH]
 have hnd:¬(48≤(s.data.toList[i]).toNat∧(s.data.toList[i]).toNat≤57):=fun h=>h2 ((zBn _).2 h)
 have hdig:(if decide (((s.data.toList[i]).toNat:Int)≥48)=true then some (decide (((s.data.toList[i]).toNat:Int)≤57)) else some false)=some false:=by
  by_cases h48:48≤(s.data.toList[i]).toNat
  ·rw[if_pos (by simp only[jA];omega)];congr 1;rw[decide_eq_false_iff_not];omega
  ·rw[if_neg (by simp only[jA];omega)]
 rw[hdig]
 simp only[j0,jB,jH]
 by_cases h7:kd (s.data.toList[i])=7
 ·have hc:s.data.toList[i]=34:=(zFp _).1 h7
  simp only[h7,jK]
  rw[if_pos (by rw[hc];rfl),wi64 (x:=(i:Int)+1) (by omega) (by omega),←gM]
  have hb:=qSz (p:=qPs) (l:=s.data.toList) (a:=i+1) (by omega)
  rw[zFz (s.data.toList.length-(i+1)) (i+1) N (by omega) hl (by omega)]
  simp only[j0]
  generalize tw qPs s.data.toList (i+1)=e at hb
  by_cases he:e=s.data.toList.length
  ·rw[if_pos (by omega)]
   have:¬s.data.toList.getD e 0=34:=fun h=>by have:=qXl (l:=s.data.toList) (i:=e) (by rw[h];decide);omega
   rw[if_neg this]
   rfl
  ·have hlt:e<s.data.toList.length:=by omega
   rw[if_neg (by omega),qGa hlt,qIr hlt]
   simp only[j0]
   by_cases h34:s.data.toList[e]=34
   ·rw[if_pos h34,if_neg (by rw[h34];decide),qNy hb.1 hb.2]
    simp only[j0,jK]
    rw[wi64 (by omega) (by omega),←gM]
   ·have h34':¬((s.data.toList[e]).toNat:Int)=34:=fun h=>h34 (UInt8.toNat_inj.1 (by show _=34;omega))
    rw[if_neg h34,if_pos (by simpa using h34')]
    simp[zGg]
 have h34':¬((s.data.toList[i]).toNat:Int)=34:=fun h=>h7 ((zFp _).2 (UInt8.toNat_inj.1 (by show _=34;omega)))
 simp only[h7,jH,h34']
 have ho:(if((s.data.toList[i]).toNat:Int)=61 then(if decide (IntKind.wrap .i64 ((i:Int)+1)<(s.size:Int))=true then((idxB s (IntKind.wrap .i64 ((i:Int)+1))).bind fun x11=>some ((x11.toNat:Int)==61)) else some false) else some false)=some (decide (s.data.toList.getD i 0=61∧s.data.toList.getD (i+1) 0=61)):=by
  rw[qIr hi]
  by_cases h61:s.data.toList[i]=61
  ·rw[if_pos (by rw[h61];rfl),wi64 (by omega) (by omega),←gM]
   by_cases hlt:i+1<s.data.toList.length
   ·rw[if_pos (by simp only[jA];omega),qGa hlt,qIr hlt]
    simp only[j0]
    congr 1
    rw[kE,kG,jA]
    exact⟨fun h=>⟨h61,UInt8.toNat_inj.1 (by show _=61;omega)⟩,fun h=>by rw[h.2];rfl⟩
   ·rw[if_neg (by simp only[jA];omega)]
    congr 1
    refine(jX fun h=> ?_).symm
    have:=qXl (l:=s.data.toList) (i:=i+1) (by rw[h.2];decide)
    omega
  ·rw[if_neg (fun h=>h61 (UInt8.toNat_inj.1 (by show _=61;omega)))]
   congr 1
   exact(jX fun h=>h61 h.1).symm
 rw[ho]
 simp only[j0,jA]
 by_cases h61:s.data.toList.getD i 0=61∧s.data.toList.getD (i+1) 0=61
 ·have hlt:i+1<s.data.toList.length:=qXl (by rw[h61.2];decide)
  have h8:kd (s.data.toList[i])=8:=by rw[←qIr hi,h61.1];kernel_rfl
  have hE:qWo s.data.toList i=i+2:=by rw[qWo,if_pos h61]
  have hx:s.extract i (i+2)=(⟨#[61,61]⟩:ByteArray):=by
   apply Go.WideShapes.bytes_inj
   simp only[ByteArray.data_extract,gZ,gJ]
   rw[jU hi,jU hlt,←qIr hi,←qIr hlt,h61.1,h61.2,show i+2-i=2 by omega]
   rfl
  simp only[h61,and_self,jK,h8,hE,hx]
  rw[wi64 (by omega) (by omega)]
  simp
 ·have hE:qWo s.data.toList i=i+1:=by rw[qWo,if_neg h61]
  have key:=qYu (N:=N) hi hl 11 0 N rfl (by omega)
  rw[show((0:Nat):Int)=0 from rfl] at key
  rw[if_neg h61,key]
  by_cases h8:kd (s.data.toList[i])=8
  ·have:=(zLl _).1 h8
   simp only[h8,jK,k0,this,j0,hE]
  ·have:¬signs.contains (s.data.toList[i])=true:=fun h=>h8 ((zLl _).2 h)
   simp only[h8,jH,k0,this,j0]
   simp[zGg]
end
section
open Go Go.Dc
def qPe:Nat→List UInt8→Nat→Nat
 |0,_,i=>i
 |k+1,l,i=>
  if tw (inK [5]) l i=l.length then l.length
  else if kd (l.getD (tw (inK [5]) l i) 0)=6 then qPe k l (tw qKc l (tw (inK [5]) l i))
  else tw (inK [5]) l i
theorem zMx{N:Nat}{s:ByteArray}{i:Nat}(hi:i≤s.data.toList.length)(hl:s.data.toList.length<1000000)(hN:s.data.toList.length+10<N):qAt (qEs N s) N (i:Int)=some ((tw qKc s.data.toList i:Nat):Int):=by
 have hs:=qCn s
 have hn:∀c:UInt8,((c.toNat:Int) !=10)=qKc c:=fun c=>by
  rw[kE,fL,qKc,fL]
  exact⟨fun h e=>h (by rw[e];rfl),fun h e=>h (UInt8.toNat_inj.1 (by show _=10;omega))⟩
 refine qXx (f:=qEs N s) (l:=s.data.toList) (p:=qKc) (fun e=>(e:Int)) (fun j hj hb=> ?_) (fun j hj hb=> ?_) ?_ (s.data.toList.length-i) i N (by omega) (by omega)
 ·simp only[qEs]
  rw[if_pos (by simp only[jA];omega),qGa hj]
  simp only[j0,hn,hb]
  rw[if_pos trivial,wi64 (by omega) (by omega)]
 ·simp only[qEs]
  rw[if_pos (by simp only[jA];omega),qGa hj]
  simp only[j0,hn,hb]
  rfl
 ·simp only[qEs]
  rw[if_neg (by simp only[jA];omega)]
  rfl
theorem zMv{s:ByteArray}{i:Nat}(hi:i<s.data.toList.length):((idxB s (i:Int)).bind fun x1=>if((x1.toNat:Int)==32)=true then(some true) else((idxB s (i:Int)).bind fun x2=>if((x2.toNat:Int)==9)=true then(some true) else((idxB s (i:Int)).bind fun x3=>if((x3.toNat:Int)==10)=true then(some true) else((idxB s (i:Int)).bind fun x4=>some ((x4.toNat:Int)==13)))))=some (inK [5] (s.data.toList[i])):=by
 simp only[qGa hi,j0,kG]
 generalize s.data.toList[i]=c
 have hb:=zNg c
 by_cases h1:(c.toNat:Int)=32
 ·rw[if_pos h1,hb.2 (by omega)]
 rw[if_neg h1]
 by_cases h2:(c.toNat:Int)=9
 ·rw[if_pos h2,hb.2 (by omega)]
 rw[if_neg h2]
 by_cases h3:(c.toNat:Int)=10
 ·rw[if_pos h3,hb.2 (by omega)]
 rw[if_neg h3]
 congr 1
 rw[kE,kG,hb]
 omega
theorem zMf{N:Nat}{s:ByteArray}{i:Nat}(hi:i<s.data.toList.length)(hl:s.data.toList.length<1000000)(hN:s.data.toList.length+10<N):
  qFy N s (i:Int)=some (if inK [5] (s.data.toList[i])=true then .inl (((i+1:Nat)):Int) else if kd (s.data.toList[i])=6 then .inl ((tw qKc s.data.toList i:Nat):Int) else .inr (.inr (i:Int))):=by
 have hs:=qCn s
 simp only[qFy]
 rw[if_pos (by simp only[jA];omega),zMv hi]
 simp only[j0]
 by_cases h5:inK [5] (s.data.toList[i])=true
 ·rw[if_pos h5,if_pos h5,wi64 (by omega) (by omega),←gM]
 ·rw[if_neg h5,if_neg h5,qGa hi]
  simp only[j0,kG]
  have hc:=zIw (s.data.toList[i])
  by_cases h6:kd (s.data.toList[i])=6
  ·rw[if_pos (by have:=hc.1 h6;omega),if_pos h6,zMx (by omega) hl hN]
   rfl
  ·rw[if_neg (fun h=>h6 (hc.2 (by omega))),if_neg h6]
theorem zAd{N:Nat}{s:ByteArray}(hl:s.data.toList.length<1000000)(hN:s.data.toList.length+10<N):∀(d i k M:Nat),i+d=s.data.toList.length→d<k→d<M→∃z,qAt (qFy N s) M (i:Int)=some z∧(z= .inl ((qPe k s.data.toList i:Nat):Int)∨z= .inr ((qPe k s.data.toList i:Nat):Int))
 |d,i,k,0,_,_,h=>by omega
 |d,i,0,M,_,h,_=>by omega
 |0,i,k+1,M+1,h1,h2,h3=>by
  have hs:=qCn s
  refine⟨.inl ((s.data.toList.length:Nat):Int),?_,.inl ?_⟩
  ·simp only[qAt,qFy]
   rw[if_neg (by simp only[jA];omega)]
   simp only[j0]
   congr 2;omega
  ·simp only[qPe]
   rw[zBy (by omega),if_pos (by omega)]
 |d+1,i,k+1,M+1,h1,h2,h3=>by
  have hs:=qCn s
  have hi:i<s.data.toList.length:=by omega
  simp only[qAt]
  rw[zMf hi hl hN]
  simp only[j0]
  cases h5:inK [5] (s.data.toList[i]) with
  |true=>
   rw[if_pos rfl]
   have:=zAd hl hN d (i+1) (k+1) M (by omega) (by omega) (by omega)
   simp only[qPe,qUl hi h5] at this ⊢
   exact this
  |false=>
   rw[if_neg kF]
   by_cases h6:kd (s.data.toList[i])=6
   ·have hsk:qPe (k+1) s.data.toList i=qPe k s.data.toList (tw qKc s.data.toList i):=by
     simp only[qPe,qVi hi h5,qIr hi,h6,jK]
     rw[if_neg (by omega)]
    rw[hsk,if_pos h6]
    have hb2:=qSz (p:=qKc) (l:=s.data.toList) (a:=i) (by omega)
    have hpos:=zAg (p:=qKc) hi (by
     simp only[qKc,fL,ne_eq]
     intro e;rw[e] at h6;exact absurd h6 (by decide))
    exact zAd hl hN (s.data.toList.length-tw qKc s.data.toList i) _ k M (by omega) (by omega) (by omega)
   ·have hsk:qPe (k+1) s.data.toList i=i:=by
     simp only[qPe,qVi hi h5,qIr hi,h6,jH]
     rw[if_neg (by omega)]
    rw[hsk,if_neg h6]
    exact⟨_,rfl,.inr rfl⟩
theorem zOf{N:Nat}{s:ByteArray}{i k:Nat}(hi:i≤s.data.toList.length)(hl:s.data.toList.length<1000000)(hN:s.data.toList.length+10<N)(hk:s.data.toList.length<i+k):qJf N s (i:Int)=some ((qPe k s.data.toList i:Nat):Int):=by
 obtain⟨z,h1,h2⟩:=zAd hl hN (s.data.toList.length-i) i k N (by omega) (by omega) (by omega)
 unfold qJf
 rw[h1]
 rcases h2 with rfl|rfl<;>rfl
theorem zFt{s:ByteArray}:∀(k i:Nat),i≤s.data.toList.length→s.data.toList.length<i+k→i≤qPe k s.data.toList i∧qPe k s.data.toList i≤s.data.toList.length∧
  (qPe k s.data.toList i=s.data.toList.length→tokG k s i= .inr [(5,⟨#[]⟩,0,(s.data.toList.length:Int))])∧
  (qPe k s.data.toList i<s.data.toList.length→∃k',(∀b,qPe k s.data.toList i<b→s.data.toList.length<b+k')∧tokG k s i=
   if(tokP s (qPe k s.data.toList i)).2.2≠0 then .inl ((qPe k s.data.toList i:Nat),(tokP s (qPe k s.data.toList i)).2.2)
   else match tokG k' s (tokP s (qPe k s.data.toList i)).2.1.toNat with
    | .inl x=> .inl x
    | .inr r=> .inr (((tokP s (qPe k s.data.toList i)).1.1,(tokP s (qPe k s.data.toList i)).1.2.1,(tokP s (qPe k s.data.toList i)).1.2.2.1,((qPe k s.data.toList i:Nat):Int))::r))
 |0,i,h1,h2=>by omega
 |k+1,i,h1,h2=>by
  have hb:=qSz (p:=inK [5]) (l:=s.data.toList) (a:=i) h1
  simp only[qPe,tokG]
  by_cases he:tw (inK [5]) s.data.toList i=s.data.toList.length
  ·simp only[he,jK]
   exact⟨h1,jV _,fun _=>trivial,fun h=>absurd h (Nat.lt_irrefl _)⟩
  simp only[he,jH]
  have hlt:tw (inK [5]) s.data.toList i<s.data.toList.length:=by omega
  by_cases h6:kd (s.data.toList.getD (tw (inK [5]) s.data.toList i) 0)=6
  ·simp only[h6,jK]
   have hb2:=qSz (p:=qKc) (l:=s.data.toList) (a:=tw (inK [5]) s.data.toList i) (by omega)
   have hpos:=zAg (p:=qKc) hlt (by
    rw[qIr hlt] at h6
    simp only[qKc,fL,ne_eq]
    intro e;rw[e] at h6;exact absurd h6 (by decide))
   obtain⟨g1,g2,g3,g4⟩:=zFt k (tw qKc s.data.toList (tw (inK [5]) s.data.toList i)) hb2.2 (by omega)
   exact⟨by omega,g2,g3,g4⟩
  ·simp only[h6,jH]
   exact⟨hb.1,hb.2,fun h=>absurd h he,fun _=>⟨k,fun b hb'=>by omega,rfl⟩⟩
theorem qVy{N:Nat}{s:ByteArray}(hl:s.data.toList.length≤16384)(hN:s.data.toList.length+40<N):∀(d i k M:Nat) (acc:List Tok),i+d=s.data.toList.length→d<M→s.data.toList.length<i+k→acc.length≤i→
  ∃z,qAt (qHy N s) M (acc,((qPe k s.data.toList i:Nat):Int))=some z∧((∃o,z= .inl o∧o.length≤s.data.toList.length∧zBw acc (tokG k s i)=(o++[(5,⟨#[]⟩,0,(s.size:Int))],0,0))∨z= .inr (zBw acc (tokG k s i)))
 |d,i,k,0,acc,_,h,_,_=>by omega
 |d,i,k,M+1,acc,h1,h2,h3,h4=>by
  have hs:=qCn s
  obtain⟨g1,g2,g3,g4⟩:=zFt (s:=s) k i (by omega) h3
  generalize hA:qPe k s.data.toList i=a at g1 g2 g3 g4
  simp only[qAt,qHy]
  by_cases he:a=s.data.toList.length
  ·refine⟨.inl acc,?_,.inl ⟨acc,rfl,by omega,?_⟩⟩
   ·rw[if_neg (by simp only[jA];omega)]
    rfl
   ·rw[g3 he,←hs];rfl
  ·have hlt:a<s.data.toList.length:=by omega
   obtain⟨k',g5,g6⟩:=g4 hlt
   rw[if_pos (by simp only[jA];omega),zIg hlt (by omega) (by omega)]
   simp only[j0,refP]
   by_cases h0:(tokP s a).2.2=0
   ·obtain⟨e,he1,he2,he3,_⟩:=zEw hlt h0
    rw[if_pos h0]
    simp only[dB,jB,jH]
    rw[qDm (by simp only[jD,jF];omega) (by omega),he1]
    simp only[j0]
    rw[zOf (k:=k') he3 (by omega) (by omega) (g5 e he2)]
    simp only[j0]
    obtain⟨z,hz1,hz2⟩:=qVy hl hN (s.data.toList.length-e) e k' M (acc++[((tokP s a).1.1,(tokP s a).1.2.1,(tokP s a).1.2.2.1,(a:Int))]) (by omega) (by omega) (g5 e he2) (by simp;omega)
    have hj:zBw acc (tokG k s i)=zBw (acc++[((tokP s a).1.1,(tokP s a).1.2.1,(tokP s a).1.2.2.1,(a:Int))]) (tokG k' s e):=by
     rw[g6,if_neg (by simp[h0]),he1,jS]
     cases tokG k' s e with
     |inl x=>rfl
     |inr r=>simp[zBw]
    rw[hj]
    exact⟨z,hz1,hz2⟩
   ·rw[if_neg h0]
    have hb:((tokP s a).2.2 !=0)=true:=by simpa using h0
    simp only[hb,jK,j0]
    refine⟨_,rfl,.inr ?_⟩
    rw[g6,if_pos h0]
    rfl
theorem zHk{N:Nat}{s:ByteArray}(hN:20000<N):qJr N s=some (qJo s):=by
 have hs:=qCn s
 unfold qJr qJo
 by_cases h:s.data.toList.length>16384
 ·rw[if_pos (by simp only[jA];omega),if_pos h]
 ·rw[if_neg (by simp only[jA];omega),if_neg h]
  have h1:=zOf (N:=N) (s:=s) (i:=0) (k:=s.data.toList.length+1) (by omega) (by omega) (by omega) (by omega)
  rw[show((0:Nat):Int)=0 from rfl] at h1
  rw[h1]
  simp only[j0]
  obtain⟨z,hz1,hz2⟩:=qVy (N:=N) (s:=s) (by omega) (by omega) s.data.toList.length 0 (s.data.toList.length+1) N [] (by omega) (by omega) (by omega) (by simp)
  rw[hz1]
  rcases hz2 with ⟨o,rfl,ho,hj⟩|rfl
  ·simp only[j0]
   rw[qDm (by simp only[jD,jF];omega) (by omega),hj]
   rfl
  ·rfl
end
section
open Go Go.Dc
def qPo(s:ByteArray):Bool:=decide (1≤s.data.toList.length∧s.data.toList.length≤24∧kd (s.data.toList.getD 0 0)=1∧tw (inK [1,2,3]) s.data.toList 0=s.data.toList.length)
theorem qTf{s:ByteArray}(h:¬(1≤s.data.toList.length∧s.data.toList.length≤24∧kd (s.data.toList.getD 0 0)=1∧tw (inK [1,2,3]) s.data.toList 0=s.data.toList.length)):false=qPo s:=(jX h).symm
theorem zNm{s:ByteArray}(h:1≤s.data.toList.length∧s.data.toList.length≤24∧kd (s.data.toList.getD 0 0)=1∧tw (inK [1,2,3]) s.data.toList 0=s.data.toList.length):true=qPo s:=(jZ h).symm
theorem zIm{N:Nat}{s:ByteArray}(hN:100<N):qPm N s=some (qPo s):=by
 have hs:=qCn s
 simp only[qPm,zEu (show 30<N by omega),j0]
 by_cases h1:1≤s.data.toList.length
 ·by_cases h2:s.data.toList.length≤24
  ·rw[if_pos (by simp only[jA];omega),if_pos (by simp only[jA];omega)]
   have hi:=qGa (s:=s) (i:=0) (by omega)
   rw[show((0:Nat):Int)=0 from rfl] at hi
   rw[hi]
   simp only[j0,zPs,kG]
   have hsp:=zAa (N:=N) (s:=s) (ks:=[1,2,3]) (i:=0) (by omega) (by omega) (by simp) (by omega)
   rw[show((0:Nat):Int)=0 from rfl] at hsp
   by_cases h3:kd (s.data.toList[0])=1
   ·rw[if_pos h3,hsp]
    simp only[j0]
    congr 1
    rw[kE,kG,qPo,jA,qIr (by omega)]
    exact⟨fun h=>⟨h1,h2,h3,by omega⟩,fun h=>by have:=h.2.2.2;omega⟩
   ·rw[if_neg h3]
    refine congrArg some (qTf fun h=> ?_)
    rw[qIr (by omega)] at h
    exact h3 h.2.2.1
  ·rw[if_pos (by simp only[jA];omega),if_neg (by simp only[jA];omega)]
   exact congrArg some (qTf fun h=>h2 h.2.1)
 ·rw[if_neg (by simp only[jA];omega)]
  exact congrArg some (qTf fun h=>h1 h.1)
theorem qYc{N:Nat}{s:ByteArray}(hN:100<N):qGt N s=some (qPo s):=by
 have hs:=qCn s
 simp only[qGt]
 by_cases h1:1≤s.data.toList.length
 ·by_cases h2:s.data.toList.length≤24
  ·rw[if_neg (by simp only[jA];omega),if_neg (by simp only[jA];omega)]
   have hi:=qGa (s:=s) (i:=0) (by omega)
   rw[show((0:Nat):Int)=0 from rfl] at hi
   rw[hi]
   simp only[j0,zAe]
   by_cases h3:kd (s.data.toList[0])=1
   ·rw[h3,if_neg (by simp)]
    have key:=qXx (f:=qGc N s) (l:=s.data.toList) (p:=inK [1,2,3]) (fun e=>if e=s.data.toList.length then .inl () else .inr false) (fun j hj hb=>by
     simp only[qGc]
     rw[if_pos (by simp only[jA];omega),qGa hj]
     simp only[j0,qXn,hb]
     rw[wi64 (by omega) (by omega)]
     rfl) (fun j hj hb=>by
     simp only[qGc]
     rw[if_pos (by simp only[jA];omega),qGa hj]
     simp only[j0,qXn,hb]
     rw[if_neg (show ¬j=s.data.toList.length by omega)]
     rfl) (by
     simp only[qGc]
     rw[if_neg (by simp only[jA];omega)]
     simp) s.data.toList.length 0 N (by omega) (by omega)
    rw[show((0:Nat):Int)=0 from rfl] at key
    rw[key]
    simp only[j0]
    by_cases h4:tw (inK [1,2,3]) s.data.toList 0=s.data.toList.length
    ·rw[if_pos h4]
     exact congrArg some (zNm ⟨h1,h2,by rw[qIr (by omega)];exact h3,h4⟩)
    ·rw[if_neg h4]
     exact congrArg some (qTf fun h=>h4 h.2.2.2)
   ·rw[if_pos (by rw[dD,beq_eq_false_iff_ne];exact h3)]
    refine congrArg some (qTf fun h=> ?_)
    rw[qIr (by omega)] at h
    exact h3 h.2.2.1
  ·rw[if_neg (by simp only[jA];omega),if_pos (by simp only[jA];omega)]
   simp only[j0,jK]
   exact congrArg some (qTf fun h=>h2 h.2.1)
 ·rw[if_pos (by simp only[jA];omega)]
  simp only[j0,jK]
  exact congrArg some (qTf fun h=>h1 h.1)
end
section
open Go Go.Dc
def sp:List UInt8→List (List UInt8)
 |[]=>[[]]
 |c::l=>if c=47 then[]::sp l else match sp l with
  |[]=>[[c]]
  |p::q=>(c::p)::q
theorem zId:∀l:List UInt8,sp l≠[]
 |[]=>by simp[sp]
 |c::l=>by
  simp only[sp]
  split
  ·simp
  ·split<;>simp
theorem zQa:∀l:List UInt8,(sp l).length=l.count 47+1
 |[]=>rfl
 |c::l=>by
  simp only[sp]
  split
  ·rename_i h;subst h;simp[zQa l]
  ·rename_i h
   have:=zQa l
   split
   ·rename_i e;exact absurd e (zId l)
   ·rename_i e
    rw[e] at this
    simp only[jD] at this ⊢
    rw[List.count_cons_of_ne h,←this]
def qQe(c:UInt8):Bool:=c !=47
theorem zPi:∀l:List UInt8,sp l=if(l.takeWhile qQe).length=l.length then[l] else l.takeWhile qQe::sp (l.drop ((l.takeWhile qQe).length+1))
 |[]=>rfl
 |c::l=>by
  have ih:=zPi l
  by_cases h:c=47
  ·subst h
   rw[gS (by decide)]
   simp[sp]
  ·have hc:qQe c=true:=by simpa[qQe] using h
   rw[gH hc]
   simp only[sp,h,jH,ih,jD,Nat.add_right_cancel_iff,List.drop_succ_cons]
   by_cases he:(l.takeWhile qQe).length=l.length
   ·simp[he]
   ·simp[he]
def zBo:Nat→Nat→List UInt8→Option (Nat×Nat)
 |a,b,[]=>some (a,b)
 |a,b,c::l=>if c=47 then(if b=0 then none else zBo (a+1) 0 l) else if inK [1,2,3,4] c=true then(if b+1>24 then none else zBo a (b+1) l) else none
def partOk(p:List UInt8):Prop:=1≤p.length∧p.length≤24∧∀c∈p,inK [1,2,3,4] c=true
theorem zAc:∀(l:List UInt8) (a b:Nat),b≤24→((∃x y,zBo a b l=some (x,y)∧0<y∧x≤8)↔
  ∃p q,sp l=p::q∧1≤b+p.length∧b+p.length≤24∧(∀c∈p,inK [1,2,3,4] c=true)∧(∀r∈q,partOk r)∧a+q.length≤8)
 |[],a,b,hb=>by
  constructor
  ·rintro⟨x,y,h,h1,h2⟩
   simp only[zBo,jM,Prod.mk.injEq] at h
   exact⟨[],[],rfl,by simp;omega,by simpa using hb,by simp,by simp,by simp;omega⟩
  ·rintro⟨p,q,h,h1,h2,_,_,h3⟩
   simp only[sp,kY] at h
   obtain⟨rfl,rfl⟩:=h
   simp only[jF] at h1 h3
   exact⟨a,b,rfl,by omega,by omega⟩
 |c::l,a,b,hb=>by
  by_cases hc:c=47
  ·have hsp:sp (c::l)=[]::sp l:=by simp[sp,hc]
   rw[hsp]
   simp only[zBo,hc,jK]
   by_cases h0:b=0
   ·subst h0
    simp only[jK]
    constructor
    ·rintro⟨x,y,h,_⟩;cases h
    ·rintro⟨p,q,h,h1,_⟩
     simp only[kY] at h
     rw[←h.1] at h1;simp at h1
   ·rw[if_neg h0]
    rw[zAc l (a+1) 0 (by omega)]
    constructor
    ·rintro⟨p,q,h,h1,h2,h3,h4,h5⟩
     refine⟨[],sp l,rfl,by simp;omega,by simpa using hb,by simp,?_,by rw[h];simp only[jD];omega⟩
     intro r hr
     rw[h] at hr
     rcases jR.1 hr with rfl|hr
     ·exact⟨by omega,by omega,h3⟩
     ·exact h4 r hr
    ·rintro⟨p,q,h,h1,h2,h3,h4,h5⟩
     simp only[kY] at h
     obtain⟨rfl,rfl⟩:=h
     obtain⟨p,q,hpq⟩:∃p q,sp l=p::q:=by
      cases he:sp l with
      |nil=>exact absurd he (zId l)
      |cons p q=>exact⟨p,q,rfl⟩
     rw[hpq] at h4 h5
     obtain⟨g1,g2,g3⟩:=h4 p (jJ ..)
     exact⟨p,q,hpq,by omega,by omega,g3,fun r hr=>h4 r (jL _ hr),by simp only[jD] at h5;omega⟩
  ·obtain⟨p0,q0,hpq⟩:∃p q,sp l=p::q:=by
    cases he:sp l with
    |nil=>exact absurd he (zId l)
    |cons p q=>exact⟨p,q,rfl⟩
   have hsp:sp (c::l)=(c::p0)::q0:=by simp only[sp,hc,jH,hpq]
   rw[hsp]
   simp only[zBo,hc,jH]
   by_cases hk:inK [1,2,3,4] c=true
   ·rw[if_pos hk]
    by_cases h24:b+1>24
    ·rw[if_pos h24]
     constructor
     ·rintro⟨x,y,h,_⟩;cases h
     ·rintro⟨p,q,h,h1,h2,_⟩
      simp only[kY] at h
      rw[←h.1] at h2
      simp only[jD] at h2
      omega
    ·rw[if_neg h24,zAc l a (b+1) (by omega)]
     constructor
     ·rintro⟨p,q,h,h1,h2,h3,h4,h5⟩
      rw[hpq] at h
      simp only[kY] at h
      obtain⟨rfl,rfl⟩:=h
      refine⟨_,_,rfl,by simp only[jD];omega,by simp only[jD];omega,?_,h4,h5⟩
      intro d hd
      rcases jR.1 hd with rfl|hd
      ·exact hk
      ·exact h3 d hd
     ·rintro⟨p,q,h,h1,h2,h3,h4,h5⟩
      simp only[kY] at h
      obtain⟨rfl,rfl⟩:=h
      simp only[jD] at h1 h2
      exact⟨p0,q0,hpq,by omega,by omega,fun d hd=>h3 d (jL _ hd),h4,h5⟩
   ·rw[if_neg hk]
    constructor
    ·rintro⟨x,y,h,_⟩;cases h
    ·rintro⟨p,q,h,h1,h2,h3,_⟩
     simp only[kY] at h
     rw[←h.1] at h3
     exact absurd (h3 c (jJ ..)) hk
theorem inK4{N:Nat}(c:UInt8):((qGb N (c.toNat:Int)).bind fun y1=>if y1=true then(some true) else(some ((c.toNat:Int)==46)))=some (inK [1,2,3,4] c):=by
 have h:=qYr (p:=fun c=>(inK [1,2,3] c||decide (c.toNat=46))==inK [1,2,3,4] c) (by kernel_rfl) c
 rw[kG] at h
 rw[←h,qXn]
 simp only[j0]
 have e:((c.toNat:Int)==46)=decide (c.toNat=46):=by rw[kE,kG,jA];omega
 rw[e]
 cases inK [1,2,3] c<;>simp
theorem qUd{N:Nat}{s:ByteArray}(hl:s.data.toList.length<1000000):∀(d i M a b:Nat),i+d=s.data.toList.length→d<M→a≤i+1→b≤24→
  qAt (qHm N s) M ((a:Int),(b:Int),(i:Int))=some (match zBo a b (s.data.toList.drop i) with|some z=> .inl ((z.1:Int),(z.2:Int))|none=> .inr false)
 |d,i,0,_,_,_,h,_,_=>by omega
 |0,i,M+1,a,b,h1,h2,h3,h4=>by
  have hs:=qCn s
  simp only[qAt,qHm]
  rw[if_neg (by simp only[jA];omega),jT (by omega)]
  rfl
 |d+1,i,M+1,a,b,h1,h2,h3,h4=>by
  have hs:=qCn s
  have hi:i<s.data.toList.length:=by omega
  simp only[qAt,qHm]
  rw[if_pos (by simp only[jA];omega),jU hi,qGa hi]
  simp only[j0,inK4,kG,zBo]
  by_cases hc:s.data.toList[i]=47
  ·rw[if_pos (show((s.data.toList[i]).toNat:Int)=47 by rw[hc];rfl),if_pos hc]
   by_cases hb:b=0
   ·rw[if_pos (show(b:Int)=0 by omega),if_pos hb]
    rfl
   ·rw[if_neg (show ¬(b:Int)=0 by omega),if_neg hb,wi64 (x:=(a:Int)+1) (by omega) (by omega)]
    simp only[j0]
    rw[if_neg (by simp),wi64 (by omega) (by omega)]
    have:=qUd (N:=N) hl d (i+1) M (a+1) 0 (by omega) (by omega) (by omega) (by omega)
    exact this
  ·have hc':¬((s.data.toList[i]).toNat:Int)=47:=fun h=>hc (UInt8.toNat_inj.1 (by show _=47;omega))
   rw[if_neg hc',if_neg hc]
   by_cases hk:inK [1,2,3,4] (s.data.toList[i])=true
   ·rw[if_pos hk,if_pos hk,wi64 (x:=(b:Int)+1) (by omega) (by omega)]
    simp only[j0]
    by_cases h24:b+1>24
    ·rw[if_pos (by simp only[jA];omega),if_pos h24]
     rfl
    ·rw[if_neg (by simp only[jA];omega),if_neg h24,wi64 (by omega) (by omega)]
     have:=qUd (N:=N) hl d (i+1) M a (b+1) (by omega) (by omega) (by omega) (by omega)
     exact this
   ·rw[if_neg hk,if_neg hk]
    rfl
def qNe(l:List UInt8):Bool:=decide (l.length≤80∧(sp l).length≤8∧∀p∈sp l,1≤p.length∧p.length≤24∧∀c∈p,inK [1,2,3,4] c=true)
theorem zGf(l:List UInt8):qNe l=true↔l.length≤80∧∃x y,zBo 1 0 l=some (x,y)∧0<y∧x≤8:=by
 rw[zAc l 1 0 (by omega)]
 simp only[qNe,jA]
 obtain⟨p,q,hpq⟩:∃p q,sp l=p::q:=by
  cases he:sp l with
  |nil=>exact absurd he (zId l)
  |cons p q=>exact⟨p,q,rfl⟩
 constructor
 ·rintro⟨h1,h2,h3⟩
  rw[hpq] at h2 h3
  obtain⟨g1,g2,g3⟩:=h3 p (jJ ..)
  exact⟨h1,p,q,hpq,by omega,by omega,g3,fun r hr=>h3 r (jL _ hr),by simp only[jD] at h2;omega⟩
 ·rintro⟨h1,p',q',h,h2,h3,h4,h5,h6⟩
  refine⟨h1,by rw[h];simp only[jD];omega,?_⟩
  intro r hr
  rw[h] at hr
  rcases jR.1 hr with rfl|hr
  ·exact⟨by omega,by omega,h4⟩
  ·exact h5 r hr
theorem qXs{N:Nat}{s:ByteArray}(hN:100<N):qGv N s=some (qNe s.data.toList):=by
 have hs:=qCn s
 simp only[qGv]
 by_cases h80:s.data.toList.length≤80
 ·rw[if_neg (by simp only[jA];omega)]
  have key:=qUd (N:=N) (s:=s) (by omega) s.data.toList.length 0 N 1 0 (by omega) (by omega) (by omega) (by omega)
  rw[show((0:Nat):Int)=0 from rfl,show((1:Nat):Int)=1 from rfl,k0] at key
  rw[key]
  have hp:=zGf s.data.toList
  cases hR:zBo 1 0 s.data.toList with
  |none=>
   simp only[j0]
   refine congrArg some ?_
   rw[kE,hp]
   constructor
   ·intro h;cases h
   ·rintro⟨_,x,y,h,_⟩;rw[hR] at h;cases h
  |some z=>
   obtain⟨x,y⟩:=z
   simp only[j0]
   by_cases hy:0<y
   ·rw[if_pos (by simp only[jA];omega)]
    simp only[j0]
    refine congrArg some ?_
    rw[kE,hp,jA]
    constructor
    ·intro h;exact⟨h80,x,y,hR,hy,by omega⟩
    ·rintro⟨_,x',y',h,_,h2⟩;rw[hR] at h;simp only[jM,Prod.mk.injEq] at h;omega
   ·rw[if_neg (by simp only[jA];omega)]
    simp only[j0]
    refine congrArg some ?_
    rw[kE,hp]
    constructor
    ·intro h;cases h
    ·rintro⟨_,x',y',h,h1,_⟩;rw[hR] at h;simp only[jM,Prod.mk.injEq] at h;omega
 ·rw[if_pos (by simp only[jA];omega)]
  refine congrArg some ?_
  rw[kE,zGf]
  exact⟨fun h=>(by cases h),fun h=>absurd h.1 h80⟩
end
section
open Go Go.Dc
theorem tw_is{p:UInt8→Bool}{l:List UInt8}{k:Nat}(hk:k<l.length)(h1:∀j,∀h:j<l.length,j<k→p l[j]=true)(h2:p l[k]=false):tw p l 0=k:=by
 have key:∀d j,j+d=k→tw p l j=k:=by
  intro d
  induction d with
  |zero=>
   intro j h
   have:j=k:=by omega
   subst this
   exact qVi hk h2
  |succ d ih=>intro j h;rw[←qUl (by omega) (h1 j (by omega) (by omega))];exact ih (j+1) (by omega)
 exact key k 0 (by omega)
theorem ix_eq(x:ByteArray):ixB x 47=if(x.data.toList.takeWhile qQe).length=x.data.toList.length then-1 else((x.data.toList.takeWhile qQe).length:Int):=by
 have hs:=qCn x
 have htw:tw qQe x.data.toList 0=(x.data.toList.takeWhile qQe).length:=by simp[tw]
 have hget:∀j,∀h:j<x.data.toList.length,x[j]! =x.data.toList[j]:=by
  intro j hj
  rw[getElem!_pos x j (by omega)]
  simp[ByteArray.getElem_eq_getElem_data]
 have h47:(47:Int).toNat.toUInt8=47:=rfl
 rw[←htw]
 unfold ixB
 rw[h47,←hs]
 cases hf:(List.range x.data.toList.length).find? (fun j=>x[j]! ==47) with
 |none=>
  rw[List.find?_eq_none] at hf
  simp only
  rw[if_pos]
  refine zSv fun c hc=> ?_
  obtain⟨j,hj,rfl⟩:=List.getElem_of_mem hc
  have:=hf j (fI.2 hj)
  rw[hget j hj] at this
  simpa[qQe] using this
 |some k=>
  have h1:=List.find?_some hf
  have hk:k<x.data.toList.length:=fI.1 (fJ hf)
  rw[hget k hk] at h1
  have e:tw qQe x.data.toList 0=k:=by
   refine tw_is hk (fun j h hj=> ?_) (by simpa[qQe] using h1)
   have:=(List.find?_range_eq_some.1 hf).2.2 j hj
   rw[hget j h] at this
   simpa[qQe] using this
  simp only
  rw[e,if_neg (by omega)]
theorem zSd{N:Nat}(x:ByteArray):qMy N x (⟨#[47]⟩:ByteArray)=some (ixB x 47):=by
 have h1:idxB (⟨#[47]⟩:ByteArray) 0=some 47:=by kernel_rfl
 simp only[qMy,qIj,qDx,show(⟨#[47]⟩:ByteArray).size=1 from rfl,qEd]
 rw[if_neg (by decide)]
 simp only[j0,jA]
 by_cases h:(⟨#[47]⟩:ByteArray)=x
 ·have h0:ixB (⟨#[47]⟩:ByteArray) 47=0:=by kernel_rfl
  rw[if_pos h,←h,h0]
  rfl
 ·rw[if_neg h,if_pos (by decide),h1]
  rfl
theorem cnt_eq(x:ByteArray):cntB x 47=((x.data.toList.count 47:Nat):Int):=by
 unfold cntB
 rw[Go.Lib.foldl_data]
 have key:∀(l:List UInt8) (n:Int),l.foldl (fun n x=>if x==(47:Int).toNat.toUInt8 then n+1 else n) n=n+((l.count 47:Nat):Int):=by
  intro l
  induction l with
  |nil=>intro n;simp
  |cons c l ih=>
   intro n
   rw[List.foldl_cons,ih,List.count_cons]
   have h47:(47:Int).toNat.toUInt8=47:=rfl
   rw[h47]
   by_cases h:(c==47)=true
   ·simp only[h,jK];omega
   ·simp only[h,jB,jH];omega
 rw[key]
 omega
theorem zVd{α:Type}(l:List α)(k:Nat)(a b:α):(l++List.replicate (k+1) a).set l.length b=(l++[b])++List.replicate k a:=by
 rw[List.set_append_right _ _ (jV _)]
 simp[List.replicate_succ]
theorem zCh{N n:Nat}{s:ByteArray}(hn:n<1000000000)(hns:n≤s.size+1)(hs:s.size<1000000000):∀(r M:Nat) (x:ByteArray) (done:List ByteArray),(sp x.data.toList).length=r→done.length+r=n→r<M→x.size<1000000000→
  ∃y D,qAt (qKl N s (⟨#[47]⟩:ByteArray) 0 (n:Int)) M (x,(done.length:Int),done++List.replicate r (⟨#[]⟩:ByteArray))=some (y,((n-1:Nat):Int),D++[(⟨#[]⟩:ByteArray)])∧D.length=n-1∧D++[y]=done++(sp x.data.toList).map qEy
 |_,0,_,_,_,_,h,_=>by omega
 |0,_,x,_,h,_,_,_=>by exact absurd (kW.1 h) (zId _)
 |r+1,M+1,x,done,h1,h2,h3,h4=>by
  have hxs:=qCn x
  have hmin:(if IntKind.wrap .i64 ((s.size:Int)+1)<(n:Int) then IntKind.wrap .i64 ((s.size:Int)+1) else(n:Int))=(n:Int):=by
   rw[wi64 (by omega) (by omega)];split<;>omega
  have hstep:=zPi x.data.toList
  simp only[qAt,qKl]
  rw[hmin,wi64 (x:=(n:Int)-1) (by omega) (by omega)]
  by_cases hlast:(x.data.toList.takeWhile qQe).length=x.data.toList.length
  ·rw[if_pos hlast] at hstep
   rw[hstep] at h1
   simp only[jD,jF] at h1
   have hr:r=0:=by omega
   subst hr
   rw[if_neg (by simp only[jA];omega)]
   refine⟨x,done,?_,by omega,?_⟩
   ·simp only[j0]
    rw[show(n-1:Nat)=done.length by omega]
    rfl
   ·rw[hstep];simp[qEy]
  ·rw[if_neg hlast] at hstep
   rw[hstep] at h1
   simp only[jD] at h1
   have hpos:0<(sp (x.data.toList.drop ((x.data.toList.takeWhile qQe).length+1))).length:=fC.2 (zId _)
   have hle:(x.data.toList.takeWhile qQe).length≤x.data.toList.length:=(hZ _).length_le
   have hix:=ix_eq x
   rw[if_neg hlast] at hix
   rw[if_pos (by simp only[jA];omega),zSd,hix]
   simp only[j0,show(⟨#[47]⟩:ByteArray).size=1 from rfl]
   have he:(x.data.toList.takeWhile qQe)=x.data.toList.take (x.data.toList.takeWhile qQe).length:=List.prefix_iff_eq_take.1 (fW _)
   have hx1:x.extract 0 (x.data.toList.takeWhile qQe).length=qEy (x.data.toList.takeWhile qQe):=by
    apply Go.WideShapes.bytes_inj
    simp only[ByteArray.data_extract,gZ,gJ,qEy,k0,Nat.sub_zero]
    exact he.symm
   have hx2:(x.extract ((x.data.toList.takeWhile qQe).length+1) x.data.toList.length).data.toList=x.data.toList.drop ((x.data.toList.takeWhile qQe).length+1):=by
    simp only[ByteArray.data_extract,gZ,gJ]
    exact gT (by simp only[gF];omega)
   generalize hk:(x.data.toList.takeWhile qQe).length=k at*
   rw[if_neg (by simp only[jA];omega),wi64 (x:=(k:Int)+0) (by omega) (by omega),Int.add_zero]
   have hsub0:subB x 0 (k:Int)=some (x.extract 0 k):=by
    have:=qNy (s:=x) (i:=0) (e:=k) (by omega) (by omega)
    simpa only[Int.natCast_zero] using this
   rw[hsub0]
   simp only[j0]
   rw[qDn (by simp),wi64 (x:=(k:Int)+((1:Nat):Int)) (by omega) (by omega),show((k:Int)+((1:Nat):Int))=((k+1:Nat):Int) by omega,zAz (by omega)]
   simp only[j0,jS]
   rw[zVd,hx1,wi64 (by omega) (by omega)]
   have hxs2:=qCn (x.extract (k+1) x.data.toList.length)
   rw[hx2,gF] at hxs2
   obtain⟨y,D,g1,g2,g3⟩:=zCh (N:=N) hn hns hs r M (x.extract (k+1) x.data.toList.length) (done++[qEy (x.data.toList.takeWhile qQe)]) (by rw[hx2];omega) (by simp;omega) (by omega) (by omega)
   refine⟨y,D,?_,g2,?_⟩
   ·rw[←g1];simp
   ·rw[g3,hx2,hstep];simp
termination_by r=>r
theorem zSb{N:Nat}{s:ByteArray}(hl:s.size<100000000)(hN:2*s.size+1000<N):qOm N s (⟨#[47]⟩:ByteArray)=some ((sp s.data.toList).map qEy):=by
 have hs:=qCn s
 have hlen:=zQa s.data.toList
 have hc:s.data.toList.count 47≤s.data.toList.length:=List.count_le_length
 have h1:idxB (⟨#[47]⟩:ByteArray) 0=some 47:=by kernel_rfl
 have hcount:qOh N s (⟨#[47]⟩:ByteArray)=some ((s.data.toList.count 47:Nat):Int):=by
  simp only[qOh,show(⟨#[47]⟩:ByteArray).size=1 from rfl]
  rw[if_neg (by decide),if_pos (by decide),h1]
  simp only[j0]
  rw[←cnt_eq];rfl
 simp only[qOm,qNk,qEd,hcount,j0]
 rw[if_neg (by decide),if_neg (by decide),if_pos (by decide)]
 simp only[j0]
 rw[wi64 (x:=((s.data.toList.count 47:Nat):Int)+1) (by omega) (by omega),show((s.data.toList.count 47:Nat):Int)+1=(((sp s.data.toList).length:Nat):Int) by omega]
 generalize hn:(sp s.data.toList).length=n at*
 have hmin:(if IntKind.wrap .i64 ((s.size:Int)+1)<(n:Int) then IntKind.wrap .i64 ((s.size:Int)+1) else(n:Int))=(n:Int):=by
  rw[wi64 (by omega) (by omega)];split<;>omega
 rw[hmin]
 have hm:qYe 16 (⟨#[]⟩:ByteArray) (n:Int)=some (List.replicate n (⟨#[]⟩:ByteArray)):=by
  unfold qYe
  rw[if_pos (by simp only[maxLen];omega),jS]
 rw[hm]
 simp only[j0]
 obtain⟨y,D,g1,g2,g3⟩:=zCh (N:=N) (n:=n) (s:=s) (by omega) (by omega) (by omega) n N s [] hn (by simp) (by omega) (by omega)
 simp only[jF,jQ] at g1 g3
 rw[show((0:Nat):Int)=0 from rfl] at g1
 rw[g1]
 simp only[j0]
 rw[qDn (by simp;omega)]
 simp only[j0,jS]
 have hset:(D++[(⟨#[]⟩:ByteArray)]).set (n-1) y=D++[y]:=by
  rw[←g2,List.set_append_right _ _ (jV _)];simp
 rw[hset,g3,wi64 (by omega) (by omega),show((n-1:Nat):Int)+1=(n:Int) by omega,qPt (by omega) (by omega) (by rw[gD,hn];omega)]
 simp only[j0,jS,fA,k0]
 rw[gT (by rw[gD,hn];exact jV _)]
theorem zTi{p:UInt8→Bool}{l:List UInt8}:tw p l 0=l.length↔∀c∈l,p c=true:=by
 constructor
 ·intro h c hc
  have h1:(l.takeWhile p).length=l.length:=by simpa[tw] using h
  have h2:=(fW p (l:=l)).eq_of_length h1
  rw[←h2] at hc
  exact zKv hc
 ·exact zSv
def zJi(x:ByteArray):Bool:=decide (1≤x.data.toList.length∧x.data.toList.length≤24∧∀c∈x.data.toList,inK [1,2,3,4] c=true)
theorem zHb(x:ByteArray):zJi x=true↔1≤x.data.toList.length∧x.data.toList.length≤24∧∀c∈x.data.toList,inK [1,2,3,4] c=true:=decide_eq_true_iff
theorem zTz{N:Nat}{x:ByteArray}(hN:100<N):(if(decide ((x.size:Int)<1))=true then(some true) else(if(decide ((x.size:Int)>24))=true then(some true) else((qMg N x 0 (some kdL) ([1,2,3,4])).bind fun y3=>some (y3 !=(x.size:Int)))))=some (!zJi x):=by
 have hs:=qCn x
 have hno:∀h:¬(1≤x.data.toList.length∧x.data.toList.length≤24∧∀c∈x.data.toList,inK [1,2,3,4] c=true),zJi x=false:=fun h=>jX h
 by_cases h1:1≤x.data.toList.length
 ·rw[if_neg (by simp only[jA];omega)]
  by_cases h2:x.data.toList.length≤24
  ·rw[if_neg (by simp only[jA];omega)]
   have hsp:=zAa (N:=N) (s:=x) (ks:=[1,2,3,4]) (i:=0) (by omega) (by omega) (by simp) (by omega)
   rw[show((0:Nat):Int)=0 from rfl] at hsp
   rw[hsp]
   simp only[j0]
   refine congrArg some ?_
   by_cases h3:tw (inK [1,2,3,4]) x.data.toList 0=x.data.toList.length
   ·have:zJi x=true:=jZ ⟨h1,h2,zTi.1 h3⟩
    rw[this,h3,hs]
    simp
   ·rw[hno fun h=>h3 (zTi.2 h.2.2)]
    simp only[kJ,fL,ne_eq]
    omega
  ·rw[if_pos (by simp only[jA];omega),hno fun h=>h2 h.2.1]
   rfl
 ·rw[if_pos (by simp only[jA];omega),hno fun h=>h1 h.1]
  rfl
theorem zGb{N:Nat}{L:List ByteArray}(hL:L.length<1000)(hN:100<N):∀(d j M:Nat),j+d=L.length→d<M→qAt (qMv N L (some kdL)) M (j:Int)=some (if(L.drop j).all zJi=true then .inl () else .inr false)
 |d,j,0,_,h=>by omega
 |0,j,M+1,h1,h2=>by
  simp only[qAt,qMv]
  rw[if_neg (by simp only[jA];omega),jT (by omega)]
  rfl
 |d+1,j,M+1,h1,h2=>by
  have hj:j<L.length:=by omega
  simp only[qAt,qMv]
  rw[if_pos (by simp only[jA];omega),qDn hj]
  simp only[j0,zTz hN]
  rw[jU hj,List.all_cons]
  cases hp:zJi L[j] with
  |true=>
   rw[if_neg (by simp),wi64 (by omega) (by omega)]
   simp only[j0,g9]
   exact zGb hL hN d (j+1) M (by omega) (by omega)
  |false=>simp
theorem zHp{N:Nat}{s:ByteArray}(hl:s.size<100000000)(hN:2*s.size+1000<N):qMz N s=some (qNe s.data.toList):=by
 have hs:=qCn s
 have hno:∀h:¬(s.data.toList.length≤80∧(sp s.data.toList).length≤8∧∀p∈sp s.data.toList,1≤p.length∧p.length≤24∧∀c∈p,inK [1,2,3,4] c=true),qNe s.data.toList=false:=fun h=>jX h
 simp only[qMz,zSb hl hN,j0,gD]
 by_cases h80:s.data.toList.length≤80
 ·rw[if_neg (by simp only[jA];omega)]
  by_cases h8:(sp s.data.toList).length≤8
  ·have e8:decide (((sp s.data.toList).length:Int)>8)=false:=jX (by omega)
   simp only[j0,e8,jB,jH,zEu (show 30<N by omega)]
   have key:=zGb (N:=N) (L:=(sp s.data.toList).map qEy) (by rw[gD];omega) (by omega) _ 0 N (kK _) (by rw[gD];omega)
   rw[show((0:Nat):Int)=0 from rfl,k0] at key
   rw[key]
   simp only[j0]
   by_cases hp:((sp s.data.toList).map qEy).all zJi=true
   ·have:qNe s.data.toList=true:=jZ ⟨h80,h8,fun p hp'=>by
     have:=(zHb _).1 (kD.1 hp (qEy p) (gV hp'))
     simpa[qEy] using this⟩
    rw[if_pos hp,this]
   ·rw[if_neg hp,hno fun h=>hp (kD.2 fun x hx=>by
     obtain⟨p,hp',rfl⟩:=fQ.1 hx
     exact(zHb _).2 (by simpa[qEy] using h.2.2 p hp'))]
  ·have e8:decide (((sp s.data.toList).length:Int)>8)=true:=jZ (by omega)
   simp only[j0,e8,jK]
   rw[hno fun h=>h8 h.2.1]
 ·rw[if_pos (by simp only[jA];omega)]
  simp only[j0,jK]
  rw[hno fun h=>h80 h.1]
end
section
open Go Go.Dc
def run{α τ β:Type}(step:τ→α→τ⊕β)(fin:τ→β):List α→τ→β
 |[],t=>fin t
 |x::l,t=>match step t x with
  | .inl t'=>run step fin l t'
  | .inr b=>b
theorem zAt{α τ σ β:Type}{L:List α}(enc:τ→Nat→σ){f:σ→Option (σ⊕β)}(step:τ→α→τ⊕β)(fin:τ→β)(I:Nat→τ→Prop)
  (hstep:∀t i,∀hi:i<L.length,I i t→f (enc t i)=some (match step t L[i] with| .inl t'=> .inl (enc t' (i+1))| .inr b=> .inr b))
  (hinv:∀t i,∀hi:i<L.length,∀t',I i t→step t L[i]= .inl t'→I (i+1) t')
  (hfin:∀t,I L.length t→f (enc t L.length)=some (.inr (fin t))):∀(d i M:Nat) (t:τ),i+d=L.length→d<M→I i t→qAt f M (enc t i)=some (run step fin (L.drop i) t)
 |_,_,0,_,_,h,_=>absurd h (kN _)
 |d,i,M+1,t,h1,h2,h3=>by
  cases d with
  |zero=>
   have hi:i=L.length:=by omega
   subst hi
   simp only[qAt,hfin t h3,j0,fY,run]
  |succ d=>
   have hi:i<L.length:=by omega
   have hd:L.drop i=L[i]::L.drop (i+1):=(dA hi).symm
   simp only[qAt,hstep t i hi h3,j0]
   rw[hd]
   simp only[run]
   cases hs:step t L[i] with
   |inl t'=>
    simp only
    exact zAt enc step fin I hstep hinv hfin d (i+1) M t' (by omega) (by omega) (hinv t i hi t' h3 hs)
   |inr b=>rfl
theorem qHd{α τ σ β:Type}{L:List α}(enc:τ→Nat→σ){f:σ→Option (σ⊕β)}(step:τ→α→τ⊕β)(fin:τ→β)(I:Nat→τ→Prop)
  (hstep:∀t i,∀hi:i<L.length,I i t→f (enc t i)=some (match step t L[i] with| .inl t'=> .inl (enc t' (i+1))| .inr b=> .inr b))
  (hinv:∀t i,∀hi:i<L.length,∀t',I i t→step t L[i]= .inl t'→I (i+1) t')
  (hfin:∀t,I L.length t→f (enc t L.length)=some (.inr (fin t))) {M:Nat} {t:τ} (hM:L.length<M) (h0:I 0 t):qAt f M (enc t 0)=some (run step fin L t):=by
 have:=zAt enc step fin I hstep hinv hfin L.length 0 M t (by omega) hM h0
 rw[k0] at this;exact this
theorem qZg{α τ β:Type}{step:τ→α→τ⊕β}{fin:τ→β}(g:τ→α→τ)(h:∀t x,step t x= .inl (g t x)):∀(l:List α) (t:τ),run step fin l t=fin (l.foldl g t)
 |[],_=>rfl
 |x::l,t=>by simp only[run,h,List.foldl_cons];exact qZg g h l _
theorem qSb{α β:Type}{step:Unit→α→Unit⊕β}{fin:Unit→β}{b:β}(p:α→Bool)(h:∀x,step () x=if p x=true then .inr b else .inl ()):∀l:List α,run step fin l ()=if l.any p=true then b else fin ()
 |[]=>rfl
 |x::l=>by
  have ih:=qSb (fin:=fin) p h l
  rw[fH]
  by_cases hp:p x=true
  ·have e:step () x= .inr b:=by rw[h,if_pos hp]
   simp only[run,e]
   rw[hp,Bool.true_or,if_pos rfl]
  ·have e:step () x= .inl ():=by rw[h,if_neg hp]
   simp only[run,e]
   rw[ih,show p x=false by simpa using hp,kT]
theorem qMw{α:Type}{l:List α}{i:Nat}(h:i<l.length):l.drop i=l[i]::l.drop (i+1):=(dA h).symm
theorem qSf{α:Type}{l:List α}{i:Nat}(h:i<l.length):l.take (i+1)=l.take i++[l[i]]:=gB h
end
section
open Go Go.Dc
instance decMemB(s:ByteArray)(l:List ByteArray):Decidable (s∈l):=@List.instDecidableMemOfLawfulBEq ByteArray instBEqOfDecidableEq inferInstance s l
abbrev Ex:=Int×Int×Int×ByteArray×List Int
abbrev Dl:=Int×ByteArray×List ByteArray×List Ex
abbrev Sr:=ByteArray×List ByteArray×List Dl
abbrev Flt:=Int×Int
abbrev Ps:=Nat×List Ex
abbrev PM(α:Type):=Flt⊕(Ps×α)
def tkAt(ts:List Tok)(i:Nat):Tok:=ts.getD i (5,⟨#[]⟩,0,0)
def qHl{α:Type}(t:Tok)(e:Int):Flt⊕α:= .inl (t.2.2.2,e)
def qBq{α β:Type}(x:Flt⊕α)(f:α→Flt⊕β):Flt⊕β:=
 match x with
 | .inl z=> .inl z
 | .inr a=>f a
def isC(ts:List Tok)(k:Int)(s:ByteArray)(i:Nat):Bool:=(tkAt ts i).1==k&&decide ((tkAt ts i).2.1=s)
def qEx(ts:List Tok)(s:ByteArray)(i:Nat):Flt⊕Nat:=if isC ts 4 s i then .inr (i+1) else qHl (tkAt ts i) 9
def qWh(ts:List Tok)(s:ByteArray)(i:Nat):Flt⊕Nat:=if isC ts 1 s i then .inr (i+1) else qHl (tkAt ts i) 9
def qNv(ts:List Tok)(k:Int)(i:Nat):Flt⊕(Nat×Tok):=if(tkAt ts i).1=k then .inr (i+1,tkAt ts i) else qHl (tkAt ts i) 9
def qVq:ByteArray:=⟨#[112,97,99,107,97,103,101]⟩
def qRt:ByteArray:=⟨#[105,109,112,111,114,116]⟩
def zLt:ByteArray:=⟨#[102,117,110,99]⟩
def zMl:ByteArray:=⟨#[116,101,115,116]⟩
def sGen:ByteArray:=⟨#[103,101,110]⟩
def sIf:ByteArray:=⟨#[105,102]⟩
def zMd:ByteArray:=⟨#[116,104,101,110]⟩
def zMi:ByteArray:=⟨#[101,108,115,101]⟩
def qSp:ByteArray:=⟨#[114,101,97,100]⟩
def qSk:ByteArray:=⟨#[115,105,122,101]⟩
def sHas:ByteArray:=⟨#[104,97,115]⟩
def sEnv:ByteArray:=⟨#[101,110,118]⟩
def qTt:ByteArray:=⟨#[102,108,105,112]⟩
def qNf:ByteArray:=⟨#[40]⟩
def qEw:ByteArray:=⟨#[41]⟩
def qOj:ByteArray:=⟨#[44]⟩
def qTw:ByteArray:=⟨#[59]⟩
def sEq:ByteArray:=⟨#[61]⟩
def zKq:ByteArray:=⟨#[45]⟩
def wordsR:List ByteArray:=[qVq,qRt,zLt,zMl,sGen,sIf,zMd,zMi,qSp,qSk,sHas,sEnv,qTt]
def resC(s:ByteArray):Bool:=decide (s∈wordsR)
def qOa(ts:List Tok)(i:Nat):Flt⊕(Nat×Tok):=qBq (qNv ts 1 i) fun p=>if resC p.2.2.1 then qHl p.2 9 else .inr p
def qQh(ts:List Tok)(i:Nat):Flt⊕(Nat×Tok):=qBq (qNv ts 3 i) fun p=>if qNe p.2.2.1.data.toList then .inr p else qHl p.2 9
def qWc(ts:List Tok)(i:Nat):Flt⊕(Nat×Tok):=qBq (qNv ts 3 i) fun p=>if qPo p.2.2.1 then .inr p else qHl p.2 9
def qLp(t:Tok)(x:Ex)(p:Ps):PM Nat:=if p.2.length=256 then qHl t 2 else .inr ((p.1,p.2++[x]),p.2.length)
def opsC:List (Int×ByteArray):=[(1,⟨#[43]⟩),(2,⟨#[45]⟩),(3,⟨#[42]⟩),(4,⟨#[47]⟩),(5,⟨#[37]⟩),(6,⟨#[60]⟩),(7,⟨#[61,61]⟩)]
def levP(op:Int):Nat:=if op=6∨op=7 then 1 else if op=1∨op=2 then 2 else 3
def isOp(ts:List Tok)(level:Nat)(i:Nat)(o:Int×ByteArray):Bool:=isC ts 4 o.2 i&&decide (levP o.1=level)
def opC(ts:List Tok)(level:Nat)(i:Nat):Int:=
 match opsC.find? (isOp ts level i) with
 |some o=>o.1
 |none=>0
section
variable (ts:List Tok) (params:List ByteArray) (E:Ps→PM Nat)
def qYf:Nat→List Int→Ps→PM (List Int)
 |0,_,p=>qHl (tkAt ts p.1) 9
 |n+1,l,p=>qBq (E p) fun q=>
  if isC ts 4 qOj q.1.1 then qYf n (l++[(q.2:Int)]) (q.1.1+1,q.1.2)
  else qBq (qEx ts qEw q.1.1) fun i=> .inr ((i,q.1.2),l++[(q.2:Int)])
def qKq(p:Ps):PM (List Int):=
 qBq (qEx ts qNf p.1) fun i=>if isC ts 4 qEw i then .inr ((i+1,p.2),[]) else qYf ts E (ts.length+1) [] (i,p.2)
def qKm(t:Tok)(p:Ps):PM Nat:=
 qBq (qEx ts qNf p.1) fun i=>
 qBq (if t.2.1=qSp then
   qBq (qQh ts i) fun a=>qBq (qEx ts qOj a.1) fun i=>qBq (E (i,p.2)) fun q=> .inr (q.1,((6,0,0,a.2.2.1,[(q.2:Int)]):Ex))
  else if t.2.1=qSk then qBq (qQh ts i) fun a=> .inr ((a.1,p.2),((7,0,0,a.2.2.1,[]):Ex))
  else if t.2.1=sHas then qBq (qQh ts i) fun a=> .inr ((a.1,p.2),((8,0,0,a.2.2.1,[]):Ex))
  else if t.2.1=sEnv then qBq (qWc ts i) fun a=> .inr ((a.1,p.2),((9,0,0,a.2.2.1,[]):Ex))
  else qBq (qNv ts 2 i) fun a=>if a.2.2.2.1≥64 then qHl a.2 9 else .inr ((a.1,p.2),((10,a.2.2.2.1,0,⟨#[]⟩,[]):Ex))) fun q=>
 qBq (qEx ts qEw q.1.1) fun i=>qLp t q.2 (i,q.1.2)
def qJy(p:Ps):PM Nat:=
 let t:=tkAt ts p.1
 if t.1=2 then qLp t (1,t.2.2.1,0,⟨#[]⟩,[]) (p.1+1,p.2)
 else if isC ts 4 zKq p.1 then qBq (qNv ts 2 (p.1+1)) fun a=>qLp t (1,IntKind.wrap .i64 (0-a.2.2.2.1),0,⟨#[]⟩,[]) (a.1,p.2)
 else if isC ts 4 qNf p.1 then qBq (E (p.1+1,p.2)) fun q=>qBq (qEx ts qEw q.1.1) fun i=> .inr ((i,q.1.2),q.2)
 else if t.1≠1 then qHl t 9
 else if t.2.1∈[qSp,qSk,sHas,sEnv,qTt] then qKm ts E t (p.1+1,p.2)
 else if resC t.2.1 then qHl t 9
 else if isC ts 4 qNf (p.1+1) then qBq (qKq ts E (p.1+1,p.2)) fun q=>qLp t (3,0,0,t.2.1,q.2) q.1
 else match params.findIdx? (fun x=>decide (x=t.2.1)) with
  |some i=>qLp t (2,(i:Int),0,⟨#[]⟩,[]) (p.1+1,p.2)
  |none=>qHl t 9
def qQj(level:Nat)(S:Ps→PM Nat):Nat→Nat→Ps→PM Nat
 |0,_,p=>qHl (tkAt ts p.1) 9
 |n+1,x,p=>
  if opC ts level p.1=0 then .inr (p,x)
  else qBq (S (p.1+1,p.2)) fun q=>qBq (qLp (tkAt ts p.1) (4,0,opC ts level p.1,⟨#[]⟩,[(x:Int),(q.2:Int)]) q.1) fun r=>
   if level=1 then .inr r else qQj level S n r.2 r.1
def qOu(level:Nat)(S:Ps→PM Nat)(p:Ps):PM Nat:=qBq (S p) fun q=>qQj ts level S (ts.length+1) q.2 q.1
def zNc:Ps→PM Nat:=qOu ts 3 (qJy ts params E)
def sumC:Ps→PM Nat:=qOu ts 2 (zNc ts params E)
def qVn:Ps→PM Nat:=qOu ts 1 (sumC ts params E)
end
def qEb(ts:List Tok)(params:List ByteArray):Nat→Ps→PM Nat
 |0,p=>qHl (tkAt ts p.1) 2
 |k+1,p=>
  if isC ts 1 sIf p.1 then
   qBq (qEb ts params k (p.1+1,p.2)) fun a=>qBq (qWh ts zMd a.1.1) fun i=>
   qBq (qEb ts params k (i,a.1.2)) fun b=>qBq (qWh ts zMi b.1.1) fun j=>
   qBq (qEb ts params k (j,b.1.2)) fun c=>qLp (tkAt ts p.1) (5,0,0,⟨#[]⟩,[(a.2:Int),(b.2:Int),(c.2:Int)]) c.1
  else qVn ts params (qEb ts params k) p
def qPj(ts:List Tok):Nat→List ByteArray→Nat→Flt⊕(Nat×List ByteArray)
 |0,_,i=>qHl (tkAt ts i) 9
 |n+1,l,i=>qBq (qOa ts i) fun a=>
  if l.length=8 then qHl a.2 2
  else if a.2.2.1∈l then qHl a.2 10
  else if isC ts 4 qOj a.1 then qPj ts n (l++[a.2.2.1]) (a.1+1)
  else qBq (qEx ts qEw a.1) fun j=> .inr (j,l++[a.2.2.1])
def qIf(ts:List Tok)(i:Nat):Flt⊕(Nat×List ByteArray):=
 qBq (qEx ts qNf i) fun j=>if isC ts 4 qEw j then .inr (j+1,[]) else qPj ts (ts.length+1) [] j
def qNu(s:ByteArray):Int:=if s=zLt then 1 else if s=zMl then 2 else if s=sGen then 3 else 0
def qSn(ts:List Tok)(before:List Dl)(i:Nat):Flt⊕(Nat×Dl):=
 let t:=tkAt ts i
 let k:=qNu t.2.1
 if t.1≠1∨k=0 then qHl t 9
 else if before.length=64 then qHl t 2
 else qBq (if k=3 then qQh ts (i+1) else qOa ts (i+1)) fun a=>
  if before.any (fun d=>d.1==k&&decide (d.2.1=a.2.2.1)) then qHl a.2 10
  else qBq (if k=1 then qIf ts a.1 else .inr (a.1,[])) fun b=>
   qBq (qEx ts sEq b.1) fun j=>qBq (qEb ts b.2 32 (j,[])) fun c=>
   qBq (qEx ts qTw c.1.1) fun m=> .inr (m,(k,a.2.2.1,b.2,c.1.2))
def qKs(ts:List Tok)(pkg:ByteArray):Nat→List ByteArray→Nat→Flt⊕(Nat×List ByteArray)
 |0,_,i=>qHl (tkAt ts i) 9
 |n+1,l,i=>
  if isC ts 1 qRt i then
   if l.length=8 then qHl (tkAt ts i) 2
   else qBq (qOa ts (i+1)) fun a=>
    if a.2.2.1=pkg∨a.2.2.1∈l then qHl a.2 10
    else qBq (qEx ts qTw a.1) fun j=>qKs ts pkg n (l++[a.2.2.1]) j
  else .inr (i,l)
def qUu(ts:List Tok):Nat→List Dl→Nat→Flt⊕List Dl
 |0,_,i=>qHl (tkAt ts i) 9
 |n+1,l,i=>if(tkAt ts i).1=5 then .inr l else qBq (qSn ts l i) fun a=>qUu ts n (l++[a.2]) a.1
def zDg(ts:List Tok):Flt⊕Sr:=
 qBq (qWh ts qVq 0) fun i=>qBq (qOa ts i) fun a=>qBq (qEx ts qTw a.1) fun j=>
 qBq (qKs ts a.2.2.1 (ts.length+1) [] j) fun b=>qBq (qUu ts (ts.length+1) [] b.1) fun l=> .inr (a.2.2.1,b.2,l)
def zAj:Sr:=(⟨#[]⟩,[],[])
def qVz(s:ByteArray):Sr×Int×Int:=
 if(qJo s).2.2≠0 then(zAj,(qJo s).2.1,(qJo s).2.2)
 else match zDg (qJo s).1 with
  | .inl z=>(zAj,z.1,z.2)
  | .inr f=>(f,0,0)
end
section
open Go Go.Dc
def OkT(ts:List Tok):Prop:=ts≠[]∧∀i,i<ts.length→((tkAt ts i).1=5↔i+1=ts.length)
theorem qDt{α β:Type}{x:Flt⊕α}{f:α→Flt⊕β}{b:β}(h:qBq x f= .inr b):∃a,x= .inr a∧f a= .inr b:=by
 cases x with
 |inl z=>cases h
 |inr a=>exact⟨a,rfl,h⟩
section
variable {ts:List Tok} {params:List ByteArray} {E S:Ps→PM Nat}
theorem OkT.next(h:OkT ts){i:Nat}(hi:i<ts.length)(hk:(tkAt ts i).1≠5):i+1<ts.length:=by
 have h3:¬i+1=ts.length:=fun e=>hk ((h.2 i hi).2 e)
 omega
theorem qZb{k:Int}{s:ByteArray}{i:Nat}(h:isC ts k s i=true):(tkAt ts i).1=k:=by
 simp only[isC,jO,kG] at h;exact h.1
theorem qFv(h:OkT ts){k:Int}{s:ByteArray}{i:Nat}(hi:i<ts.length)(hk:k≠5)(h1:isC ts k s i=true):i+1<ts.length:=h.next hi (by rw[qZb h1];exact hk)
theorem qGh(h:OkT ts){s:ByteArray}{i j:Nat}(hi:i<ts.length)(h1:qEx ts s i= .inr j):j=i+1∧j<ts.length∧isC ts 4 s i=true:=by
 unfold qEx at h1
 split at h1
 ·rename_i h2
  obtain rfl:=Sum.inr.inj h1
  exact⟨rfl,qFv h hi (by decide) h2,h2⟩
 ·cases h1
theorem qXa(h:OkT ts){s:ByteArray}{i j:Nat}(hi:i<ts.length)(h1:qWh ts s i= .inr j):j=i+1∧j<ts.length∧isC ts 1 s i=true:=by
 unfold qWh at h1
 split at h1
 ·rename_i h2
  obtain rfl:=Sum.inr.inj h1
  exact⟨rfl,qFv h hi (by decide) h2,h2⟩
 ·cases h1
theorem qQq(h:OkT ts){k:Int}(hk:k≠5){i:Nat}{a:Nat×Tok}(hi:i<ts.length)(h1:qNv ts k i= .inr a):a=(i+1,tkAt ts i)∧i+1<ts.length∧(tkAt ts i).1=k:=by
 unfold qNv at h1
 split at h1
 ·rename_i h2
  obtain rfl:=Sum.inr.inj h1
  exact⟨rfl,h.next hi (by rw[h2];exact hk),h2⟩
 ·cases h1
theorem qOc(h:OkT ts){i:Nat}{a:Nat×Tok}(hi:i<ts.length)(h1:qOa ts i= .inr a):a=(i+1,tkAt ts i)∧i+1<ts.length∧(tkAt ts i).1=1∧resC (tkAt ts i).2.1=false:=by
 obtain⟨b,hb,h2⟩:=qDt h1
 obtain⟨rfl,g1,g2⟩:=qQq h (by decide) hi hb
 split at h2
 ·cases h2
 ·rename_i g3
  obtain rfl:=Sum.inr.inj h2
  exact⟨rfl,g1,g2,by simpa using g3⟩
theorem qOr(h:OkT ts){i:Nat}{a:Nat×Tok}(hi:i<ts.length)(h1:qQh ts i= .inr a):a=(i+1,tkAt ts i)∧i+1<ts.length∧(tkAt ts i).1=3∧qNe (tkAt ts i).2.1.data.toList=true:=by
 obtain⟨b,hb,h2⟩:=qDt h1
 obtain⟨rfl,g1,g2⟩:=qQq h (by decide) hi hb
 split at h2
 ·rename_i g3
  obtain rfl:=Sum.inr.inj h2
  exact⟨rfl,g1,g2,g3⟩
 ·cases h2
theorem zHi(h:OkT ts){i:Nat}{a:Nat×Tok}(hi:i<ts.length)(h1:qWc ts i= .inr a):a=(i+1,tkAt ts i)∧i+1<ts.length∧(tkAt ts i).1=3∧qPo (tkAt ts i).2.1=true:=by
 obtain⟨b,hb,h2⟩:=qDt h1
 obtain⟨rfl,g1,g2⟩:=qQq h (by decide) hi hb
 split at h2
 ·rename_i g3
  obtain rfl:=Sum.inr.inj h2
  exact⟨rfl,g1,g2,g3⟩
 ·cases h2
theorem zSa{t:Tok}{x:Ex}{p q:Ps}{i:Nat}(h:qLp t x p= .inr (q,i)):q=(p.1,p.2++[x])∧i=p.2.length∧p.2.length≠256:=by
 unfold qLp at h
 split at h
 ·cases h
 ·rename_i h1
  obtain⟨rfl,rfl⟩:=Prod.mk.inj (Sum.inr.inj h)
  exact⟨rfl,rfl,h1⟩
def Fwd(ts:List Tok)(p q:Ps):Prop:=p.1<q.1∧q.1<ts.length∧p.2.length≤q.2.length∧q.2.length≤256
def Adv(ts:List Tok)(S:Ps→PM Nat):Prop:=∀(p q:Ps) (x:Nat),p.1<ts.length→p.2.length≤256→S p= .inr (q,x)→Fwd ts p q∧x<q.2.length
theorem qQp{t:Tok}{x:Ex}{p r q:Ps}{i:Nat}(hp:p.1<r.1)(hr:r.1<ts.length)(hl:p.2.length≤r.2.length)(h256:r.2.length≤256)(h:qLp t x r= .inr (q,i)):Fwd ts p q∧i<q.2.length:=by
 obtain⟨rfl,rfl,g⟩:=zSa h
 refine⟨⟨hp,hr,?_,?_⟩,?_⟩<;>simp only[jC,jD,jF]<;>omega
theorem zAl(h:OkT ts)(hE:Adv ts E):∀(n:Nat) (l:List Int) (p q:Ps) (x:List Int),p.1<ts.length→p.2.length≤256→qYf ts E n l p= .inr (q,x)→Fwd ts p q
 |0,_,_,_,_,_,_,h1=>by cases h1
 |n+1,l,p,q,x,hp,hb,h1=>by
  obtain⟨a,ha,h2⟩:=qDt (show qBq (E p) _=_ from h1)
  obtain⟨⟨f1,f2,f3,f4⟩,f5⟩:=hE p a.1 a.2 hp hb ha
  split at h2
  ·rename_i hc
   have g:=qFv h f2 (by decide) hc
   obtain⟨k1,k2,k3,k4⟩:=zAl h hE n _ (a.1.1+1,a.1.2) q x g f4 h2
   exact⟨by simp only at k1;omega,k2,by simp only at k3;omega,k4⟩
  ·obtain⟨j,hj,h3⟩:=qDt h2
   obtain⟨rfl,g1,-⟩:=qGh h f2 hj
   obtain⟨rfl,-⟩:=Prod.mk.inj (Sum.inr.inj h3)
   exact⟨by simp only;omega,g1,f3,f4⟩
theorem qVx(h:OkT ts)(hE:Adv ts E){p q:Ps}{x:List Int}(hp:p.1<ts.length)(hb:p.2.length≤256)(h1:qKq ts E p= .inr (q,x)):Fwd ts p q:=by
 obtain⟨i,hi,h2⟩:=qDt h1
 obtain⟨rfl,g1,-⟩:=qGh h hp hi
 split at h2
 ·rename_i hc
  obtain⟨rfl,-⟩:=Prod.mk.inj (Sum.inr.inj h2)
  exact⟨by simp only;omega,qFv h g1 (by decide) hc,jV _,hb⟩
 ·obtain⟨k1,k2,k3,k4⟩:=zAl h hE _ _ (p.1+1,p.2) q x g1 hb h2
  exact⟨by simp only at k1;omega,k2,k3,k4⟩
theorem zGk(h:OkT ts)(hE:Adv ts E){t:Tok}{p q:Ps}{x:Nat}(hp:p.1<ts.length)(hb:p.2.length≤256)(h1:qKm ts E t p= .inr (q,x)):Fwd ts p q∧x<q.2.length:=by
 obtain⟨i,hi,h2⟩:=qDt h1
 obtain⟨rfl,g1,-⟩:=qGh h hp hi
 obtain⟨a,ha,h3⟩:=qDt h2
 obtain⟨j,hj,h4⟩:=qDt h3
 have key:Fwd ts (p.1+1,p.2) a.1:=by
  split at ha
  ·obtain⟨b,hb1,hb2⟩:=qDt ha
   obtain⟨rfl,k1,-⟩:=qOr h g1 hb1
   obtain⟨c,hc1,hc2⟩:=qDt hb2
   obtain⟨rfl,k2,-⟩:=qGh h k1 hc1
   obtain⟨d,hd1,hd2⟩:=qDt hc2
   obtain⟨⟨f1,f2,f3,f4⟩,-⟩:=hE (p.1+1+1+1,p.2) d.1 d.2 k2 hb hd1
   obtain rfl:=Sum.inr.inj hd2
   exact⟨by simp only at f1 ⊢;omega,f2,f3,f4⟩
  ·split at ha
   ·obtain⟨b,hb1,hb2⟩:=qDt ha
    obtain⟨rfl,k1,-⟩:=qOr h g1 hb1
    obtain rfl:=Sum.inr.inj hb2
    exact⟨by simp only;omega,k1,jV _,hb⟩
   ·split at ha
    ·obtain⟨b,hb1,hb2⟩:=qDt ha
     obtain⟨rfl,k1,-⟩:=qOr h g1 hb1
     obtain rfl:=Sum.inr.inj hb2
     exact⟨by simp only;omega,k1,jV _,hb⟩
    ·split at ha
     ·obtain⟨b,hb1,hb2⟩:=qDt ha
      obtain⟨rfl,k1,-⟩:=zHi h g1 hb1
      obtain rfl:=Sum.inr.inj hb2
      exact⟨by simp only;omega,k1,jV _,hb⟩
     ·obtain⟨b,hb1,hb2⟩:=qDt ha
      obtain⟨rfl,k1,-⟩:=qQq h (by decide) g1 hb1
      split at hb2
      ·cases hb2
      ·obtain rfl:=Sum.inr.inj hb2
       exact⟨by simp only;omega,k1,jV _,hb⟩
 obtain⟨f1,f2,f3,f4⟩:=key
 obtain⟨rfl,g2,-⟩:=qGh h f2 hj
 exact qQp (r:=(a.1.1+1,a.1.2)) (by simp only at f1 ⊢;omega) g2 f3 f4 h4
theorem qWj(h:OkT ts)(hE:Adv ts E):Adv ts (qJy ts params E):=by
 intro p q x hp hb h1
 unfold qJy at h1
 dsimp only at h1
 split at h1
 ·rename_i hk
  exact qQp (r:=(p.1+1,p.2)) (by simp only;omega) (h.next hp (by rw[hk];decide)) (jV _) hb h1
 split at h1
 ·rename_i hc
  have g:=qFv h hp (by decide) hc
  obtain⟨a,ha,h2⟩:=qDt h1
  obtain⟨rfl,g1,-⟩:=qQq h (by decide) g ha
  exact qQp (r:=(p.1+1+1,p.2)) (by simp only;omega) g1 (jV _) hb h2
 split at h1
 ·rename_i hc
  have g:=qFv h hp (by decide) hc
  obtain⟨a,ha,h2⟩:=qDt h1
  obtain⟨⟨f1,f2,f3,f4⟩,f5⟩:=hE (p.1+1,p.2) a.1 a.2 g hb ha
  obtain⟨j,hj,h3⟩:=qDt h2
  obtain⟨rfl,g1,-⟩:=qGh h f2 hj
  obtain⟨rfl,rfl⟩:=Prod.mk.inj (Sum.inr.inj h3)
  exact⟨⟨by simp only at f1 ⊢;omega,g1,f3,f4⟩,f5⟩
 split at h1
 ·cases h1
 rename_i hk
 have g:=h.next hp (show(tkAt ts p.1).1≠5 by simp only[ne_eq,Decidable.not_not] at hk;rw[hk];decide)
 split at h1
 ·obtain⟨⟨f1,f2,f3,f4⟩,f5⟩:=zGk h hE (p:=(p.1+1,p.2)) g hb h1
  exact⟨⟨by simp only at f1;omega,f2,f3,f4⟩,f5⟩
 split at h1
 ·cases h1
 split at h1
 ·obtain⟨a,ha,h2⟩:=qDt h1
  obtain⟨f1,f2,f3,f4⟩:=qVx h hE (p:=(p.1+1,p.2)) g hb ha
  exact qQp (by simp only at f1;omega) f2 f3 f4 h2
 split at h1
 ·exact qQp (r:=(p.1+1,p.2)) (by simp only;omega) g (jV _) hb h1
 ·cases h1
theorem zFs(h:OkT ts){level:Nat}(hS:Adv ts S):∀(n x:Nat) (p q:Ps) (y:Nat),p.1<ts.length→p.2.length≤256→x<p.2.length→qQj ts level S n x p= .inr (q,y)→p.1≤q.1∧q.1<ts.length∧p.2.length≤q.2.length∧q.2.length≤256∧y<q.2.length
 |0,_,_,_,_,_,_,_,h1=>by cases h1
 |n+1,x,p,q,y,hp,hb,hx,h1=>by
  unfold qQj at h1
  split at h1
  ·obtain⟨rfl,rfl⟩:=Prod.mk.inj (Sum.inr.inj h1)
   exact⟨jV _,hp,jV _,hb,hx⟩
  ·rename_i hop
   have hk:(tkAt ts p.1).1≠5:=by
    intro hk
    apply hop
    unfold opC
    have:opsC.find? (isOp ts level p.1)=none:=by
     rw[List.find?_eq_none]
     intro o _ ho
     simp only[isOp,jO] at ho
     have:=qZb ho.1
     omega
    rw[this]
   have g:=h.next hp hk
   obtain⟨a,ha,h2⟩:=qDt h1
   obtain⟨⟨f1,f2,f3,f4⟩,f5⟩:=hS (p.1+1,p.2) a.1 a.2 g hb ha
   obtain⟨r,hr,h3⟩:=qDt h2
   obtain⟨⟨k1,k2,k3,k4⟩,k5⟩:=qQp (ts:=ts) (p:=p) (by simp only at f1;omega) f2 f3 f4 hr
   split at h3
   ·obtain⟨rfl,rfl⟩:=Prod.mk.inj (Sum.inr.inj h3)
    exact⟨by omega,k2,k3,k4,k5⟩
   ·obtain⟨j1,j2,j3,j4,j5⟩:=zFs h hS n _ _ q y k2 k4 k5 h3
    exact⟨by omega,j2,by omega,j4,j5⟩
theorem qPc(h:OkT ts){level:Nat}(hS:Adv ts S):Adv ts (qOu ts level S):=by
 intro p q x hp hb h1
 obtain⟨a,ha,h2⟩:=qDt h1
 obtain⟨⟨f1,f2,f3,f4⟩,f5⟩:=hS p a.1 a.2 hp hb ha
 obtain⟨j1,j2,j3,j4,j5⟩:=zFs h hS _ _ _ q x f2 f4 f5 h2
 exact⟨⟨by omega,j2,by omega,j4⟩,j5⟩
theorem qOs(h:OkT ts):∀k,Adv ts (qEb ts params k)
 |0=>fun _ _ _ _ _ h1=>by cases h1
 |k+1=>by
  intro p q x hp hb h1
  unfold qEb at h1
  split at h1
  ·rename_i hc
   have g:=qFv h hp (by decide) hc
   obtain⟨a,ha,h2⟩:=qDt h1
   obtain⟨⟨a1,a2,a3,a4⟩,-⟩:=qOs h k (p.1+1,p.2) a.1 a.2 g hb ha
   obtain⟨i,hi,h3⟩:=qDt h2
   obtain⟨rfl,g1,-⟩:=qXa h a2 hi
   obtain⟨b,hb1,h4⟩:=qDt h3
   obtain⟨⟨b1,b2,b3,b4⟩,-⟩:=qOs h k (a.1.1+1,a.1.2) b.1 b.2 g1 a4 hb1
   obtain⟨j,hj,h5⟩:=qDt h4
   obtain⟨rfl,g2,-⟩:=qXa h b2 hj
   obtain⟨c,hc1,h6⟩:=qDt h5
   obtain⟨⟨c1,c2,c3,c4⟩,-⟩:=qOs h k (b.1.1+1,b.1.2) c.1 c.2 g2 b4 hc1
   simp only at a1 a3 b1 b3 c1 c3
   exact qQp (by omega) c2 (by omega) c4 h6
  ·exact qPc h (qPc h (qPc h (qWj h (qOs h k)))) p q x hp hb h1
end
end
section
open Go Go.Dc
theorem zTn{ts:List Tok}{i:Nat}(hi:i<ts.length):idx ts (i:Int)=some (tkAt ts i):=by
 rw[qDn hi]
 simp[tkAt,k9,hi]
theorem qNd{i:Nat}(h:i<1000000):IntKind.wrap .i64 ((i:Int)+1)=((i+1:Nat):Int):=by rw[wi64 (by omega) (by omega)];omega
section
variable {N:Nat} {ts:List Tok} {pr:List ByteArray} {b:List Ex} {i:Nat}
theorem qNj(hi:i<ts.length):qCs N (ts,(i:Int),pr,b)=some ((ts,(i:Int),pr,b),tkAt ts i):=by
 simp only[qCs,zTn hi,j0]
theorem zMk(hi:i<ts.length)(k:Int)(s:ByteArray):qGd N (ts,(i:Int),pr,b) k s=some ((ts,(i:Int),pr,b),isC ts k s i):=by
 simp only[qGd,qNj hi,j0,qEd,isC]
 cases h:(tkAt ts i).1==k<;>simp[h]
theorem zJd(hi:i<ts.length)(hl:ts.length<1000000)(s:ByteArray):qIc N (ts,(i:Int),pr,b) s=some (Sum.map id (fun j:Nat=>(ts,(j:Int),pr,b)) (qWh ts s i)):=by
 simp only[qIc,zMk hi,qNj hi,j0,qCi,qWh]
 cases h:isC ts 1 s i
 ·simp[qHl]
 ·simp[qNd (show i<1000000 by omega)]
theorem qQf(hi:i<ts.length)(hl:ts.length<1000000)(s:ByteArray):qBz N (ts,(i:Int),pr,b) s=some (Sum.map id (fun j:Nat=>(ts,(j:Int),pr,b)) (qEx ts s i)):=by
 simp only[qBz,zMk hi,qNj hi,j0,qCi,qEx]
 cases h:isC ts 4 s i
 ·simp[qHl]
 ·simp[qNd (show i<1000000 by omega)]
theorem qSd(hi:i<ts.length)(hl:ts.length<1000000)(s:ByteArray):qDy N (ts,(i:Int),pr,b) s=some (if isC ts 4 s i then((ts,((i+1:Nat):Int),pr,b),true) else((ts,(i:Int),pr,b),false)):=by
 simp only[qDy,zMk hi,j0]
 cases h:isC ts 4 s i
 ·simp
 ·simp[qNd (show i<1000000 by omega)]
theorem qZq(hi:i<ts.length)(hl:ts.length<1000000){k:Int}(hk:k≠5):qFq N (ts,(i:Int),pr,b) k=some (Sum.map id (fun a:Nat×Tok=>((ts,(a.1:Int),pr,b),a.2)) (qNv ts k i)):=by
 simp only[qFq,qNj hi,j0,qCi,qNv]
 have h5:(k !=5)=true:=by simpa using hk
 by_cases h:(tkAt ts i).1=k
 ·have h1:((tkAt ts i).1 !=k)=false:=by simp[h]
  simp only[h1,h5,jB,jH,jK,j0,if_pos h,qNd (show i<1000000 by omega),kM]
 ·have h1:((tkAt ts i).1 !=k)=true:=by simp[h]
  simp only[h1,jK,j0,if_neg h,qHl,Sum.map_inl,id]
theorem orS(a b:Bool):(if a=true then some a else some b)=some (a||b):=by
 cases a<;>simp
theorem someB(b:Bool):(if b=true then some true else some false)=some b:=by cases b<;>simp
theorem qWp(s:ByteArray):qKj N s=some (resC s):=by
 simp only[qKj,qEd,resC,wordsR,qVq,qRt,zLt,zMl,sGen,sIf,zMd,zMi,qSp,qSk,sHas,sEnv,qTt,jR,gE,dH]
 simp only[orS,j0,someB,jM]
 simp only[Bool.decide_or]
theorem zEs(hi:i<ts.length)(hl:ts.length<1000000):qFl N (ts,(i:Int),pr,b)=some (Sum.map id (fun a:Nat×Tok=>((ts,(a.1:Int),pr,b),a.2)) (qOa ts i)):=by
 simp only[qFl,qZq hi hl (show(1:Int)≠5 by decide),j0,qCi,qOa]
 cases h:qNv ts 1 i with
 |inl z=>simp[qBq]
 |inr a=>
  simp only[kM,qWp,j0,qBq]
  cases h2:resC a.2.2.1<;>simp[qHl]
theorem zDt(hi:i<ts.length)(hl:ts.length<1000000)(hN:300000<N)(ht:∀j,(tkAt ts j).2.1.size<100000):qFn N (ts,(i:Int),pr,b)=some (Sum.map id (fun a:Nat×Tok=>((ts,(a.1:Int),pr,b),a.2)) (qQh ts i)):=by
 simp only[qFn,qZq hi hl (show(3:Int)≠5 by decide),j0,qCi,qQh]
 cases h:qNv ts 3 i with
 |inl z=>simp[qBq]
 |inr a=>
  have h3:a.2=tkAt ts i:=by
   unfold qNv at h
   split at h
   ·rw[←Sum.inr.inj h]
   ·cases h
  have hs:=ht i
  rw[←h3] at hs
  simp only[kM,zHp (N:=N) (s:=a.2.2.1) (by omega) (by omega),j0,qBq]
  cases h2:qNe a.2.2.1.data.toList<;>simp[qHl]
theorem qWi(t:Tok)(x:Ex)(hb:b.length≤256)(n:Nat):qDr N (ts,(n:Int),pr,b) t x=some (Sum.map id (fun q:Ps×Nat=>((ts,(q.1.1:Int),pr,q.1.2),(q.2:Int))) (qLp t x (n,b))):=by
 simp only[qDr,qCi,j0,qLp]
 by_cases h:b.length=256
 ·simp[h,qHl]
 ·have h1:((b.length:Int)==256)=false:=by simp;omega
  have hw:IntKind.wrap .i64 (((b.length+1:Nat):Int)-1)=(b.length:Int):=by rw[wi64 (by omega) (by omega)];omega
  simp only[h1,jB,jH,j0,if_neg h,kM]
  rw[qDm (by simp only[jD,jF];omega) (by omega)]
  simp only[j0,jC,jD,jF,kK,hw]
end
end
section
open Go Go.Dc
theorem zCf{N:Nat}{s:ByteArray}{l:List ByteArray}(hl:l.length<1000000):∀(d i M:Nat),i+d=l.length→d<M→
  qAt (qCr N l s) M (i:Int)=some (match(l.drop i).findIdx? (fun x=>decide (x=s)) with|some j=> .inr (((i+j:Nat):Int))|none=> .inl ())
 |d,i,0,_,h=>by omega
 |0,i,M+1,h,_=>by
  have:l.drop i=[]:=jT (by omega)
  simp only[qAt,qCr,this,List.findIdx?_nil]
  rw[if_neg (by simp only[jA];omega)]
  rfl
 |d+1,i,M+1,h,hM=>by
  have hi:i<l.length:=by omega
  have ih:=zCf (N:=N) (s:=s) hl d (i+1) M (by omega) (by omega)
  simp only[qAt,qCr]
  rw[if_pos (by simp only[jA];omega),qDn hi,jU hi,List.findIdx?_cons]
  simp only[j0,qEd,jA]
  by_cases hs:l[i]=s
  ·rw[if_pos hs.symm,if_pos hs];simp
  ·rw[if_neg (fun e=>hs e.symm),if_neg hs]
   simp only[j0,qNd (show i<1000000 by omega),ih]
   cases(l.drop (i+1)).findIdx? (fun x=>decide (x=s)) with
   |none=>rfl
   |some j=>simp only[kV];congr 2;omega
theorem zLp{N:Nat}{s:ByteArray}{l:List ByteArray}(hl:l.length<1000000)(hN:l.length<N):
  qDz N l s=some (match l.findIdx? (fun x=>decide (x=s)) with|some j=>(j:Int)|none=> -1):=by
 have h:=zCf (N:=N) (s:=s) hl l.length 0 N (by omega) hN
 simp only[k0,kK] at h
 simp only[qDz]
 rw[show(0:Int)=((0:Nat):Int) from rfl,h]
 simp only[j0]
 cases l.findIdx? (fun x=>decide (x=s))<;>rfl
theorem zJc{s:ByteArray}{l:List ByteArray}:(l.findIdx? (fun x=>decide (x=s))).isSome=decide (s∈l):=by
 rw[List.findIdx?_isSome]
 rw[kE]
 simp only[gQ,jA]
 exact⟨fun⟨x,h1,h2⟩=>h2▸h1,fun h=>⟨s,h,rfl⟩⟩
theorem zAq{N:Nat}{s:ByteArray}{l:List ByteArray}(hl:l.length<1000000)(hN:l.length<N):
  qCd N l s=some (decide (s∈l)):=by
 simp only[qCd,zLp hl hN,j0,←zJc]
 cases l.findIdx? (fun x=>decide (x=s)) with
 |none=>rfl
 |some j=>simp only[Option.isSome_some];rw[jZ (show(j:Int)≥0 by omega)]
theorem zPd{α:Type}{g:α→Bool}{l k:List α}(hu:∀a∈l,∀b∈l,g a=true→g b=true→a=b)(hp:k.Perm l):k.find? g=l.find? g:=by
 cases h:l.find? g with
 |none=>
  rw[List.find?_eq_none] at h ⊢
  exact fun x hx=>h x (hp.mem_iff.1 hx)
 |some a=>
  have ha:=fJ h
  have hg:=List.find?_some h
  cases h2:k.find? g with
  |none=>exact absurd hg (by simpa using List.find?_eq_none.1 h2 a (hp.mem_iff.2 ha))
  |some b=>rw[hu b (hp.mem_iff.1 (fJ h2)) a ha (List.find?_some h2) hg]
theorem zQn:∀a∈opsC,∀b∈opsC,a.2=b.2→a=b:=by
 have h:(opsC.all fun a=>opsC.all fun b=> !(decide (a.2=b.2))||decide (a=b))=true:=by kernel_rfl
 intro a ha b hb e
 have:=kD.1 (kD.1 h a ha) b hb
 simpa[e] using this
section
variable {N:Nat} {ts:List Tok} {pr:List ByteArray} {b:List Ex} {i:Nat}
theorem zQu(op:Int):qLe N op=some ((levP op:Nat):Int):=by
 by_cases h1:op=6
 ·subst h1;rfl
 by_cases h2:op=7
 ·subst h2;rfl
 by_cases h3:op=1
 ·subst h3;rfl
 by_cases h4:op=2
 ·subst h4;rfl
 simp[qLe,levP,h1,h2,h3,h4]
theorem zPw(level:Nat){t:Tok}(ht:t=tkAt ts i):∀k:List (Int×ByteArray),qQv (qDq N (level:Int) ((ts,(i:Int),pr,b),t)) k ()=
  some (match k.find? (isOp ts level i) with|some o=> .inr ((ts,(i:Int),pr,b),o.1)|none=> .inl ())
 |[]=>rfl
 |o::k=>by
  have key:qDq N (level:Int) ((ts,(i:Int),pr,b),t) (some o) ()=some (if isOp ts level i o then .inr (.inr ((ts,(i:Int),pr,b),o.1)) else .inl ()):=by
   subst ht
   simp only[qDq,zQu,j0,qEd,isOp,isC]
   have hc:(((levP o.1:Nat):Int)==(level:Int))=decide (levP o.1=level):=by
    rw[kE];simp only[kG,jA];omega
   rw[hc]
   by_cases h1:(tkAt ts i).1=4<;>by_cases h2:(tkAt ts i).2.1=o.2<;>by_cases h3:levP o.1=level<;>simp[h1,h2,h3]
  simp only[qQv,key,j0,List.find?_cons]
  cases h:isOp ts level i o with
  |true=>rfl
  |false=>exact zPw level ht k
theorem zSc:qNq N=some (some opsC):=by kernel_rfl
theorem zJj(hi:i<ts.length)(level:Nat):qIn N (ts,(i:Int),pr,b) (level:Int)=some ((ts,(i:Int),pr,b),opC ts level i):=by
 simp only[qIn,qNj hi,zSc,j0,isQ,kV,Option.getD_some]
 have hu:∀a∈opsC,∀b∈opsC,isOp ts level i a=true→isOp ts level i b=true→a=b:=by
  intro a ha b hb h1 h2
  simp only[isOp,isC,jO,jA] at h1 h2
  exact zQn a ha b hb (h1.1.2.symm.trans h2.1.2)
 have key:=zGy (f:=qDq N (level:Int) ((ts,(i:Int),pr,b),tkAt ts i)) (l:=opsC) (s:=()) fun k hk=>by
  rw[zPw level rfl k,zPd hu hk]
 rw[key]
 unfold opC
 cases opsC.find? (isOp ts level i)<;>rfl
end
end
section
open Go Go.Dc
abbrev StT:=List Tok×Int×List ByteArray×List Ex
def stP(ts:List Tok)(pr:List ByteArray)(p:Ps):StT:=(ts,(p.1:Int),pr,p.2)
def outP(ts:List Tok)(pr:List ByteArray):PM Nat→Flt⊕(StT×Int):=Sum.map id fun q=>(stP ts pr q.1,(q.2:Int))
def outL(ts:List Tok)(pr:List ByteArray):PM (List Int)→Flt⊕(StT×List Int):=Sum.map id fun q=>(stP ts pr q.1,q.2)
section
variable {N:Nat} {ts:List Tok} {pr:List ByteArray} {E S:Ps→PM Nat} {d:Int}
variable {r1:StT→Tok→Int→Option (Flt⊕(StT×Int))} {r2:StT→Int→Option (Flt⊕(StT×List Int))} {r3:StT→Int→Option (Flt⊕(StT×Int))} {r4:StT→Int→Int→Option (Flt⊕(StT×Int))} {r5:StT→Int→Option (Flt⊕(StT×Int))}
theorem zGc(hok:OkT ts)(hl:ts.length<1000000)(hA:Adv ts E)(hE:∀p:Ps,p.1<ts.length→p.2.length≤256→r5 (stP ts pr p) (IntKind.wrap .i64 (d+1))=some (outP ts pr (E p))):
  ∀(n M:Nat) (l:List Int) (p:Ps),p.1<ts.length→p.2.length≤256→l.length≤p.1→ts.length<p.1+n→ts.length<p.1+M→
  ((qAt (qGk N r5 d) M (l,ts,(p.1:Int),pr,p.2)).bind fun out1=>(match out1 with| .inl o1=>(qBz N (o1.2.1,o1.2.2.1,o1.2.2.2.1,o1.2.2.2.2) (⟨#[41]⟩:ByteArray)).bind fun y7=>(match y7 with| .inl z3=>some (.inl z3)| .inr y8=>some (.inr ((y8.1,y8.2.1,y8.2.2.1,y8.2.2.2),o1.1)))| .inr (z)=>some z))=some (outL ts pr (qYf ts E n l p))
 |0,M,l,p,hp,_,_,h,_=>by omega
 |n+1,0,l,p,hp,_,_,_,h=>by omega
 |n+1,M+1,l,p,hp,hb,hll,hn,hM=>by
  have hEp:=hE p hp hb
  simp only[stP] at hEp
  simp only[qAt,qGk,qYf,hEp,j0]
  cases hq:E p with
  |inl z=>simp only[outP,Sum.map_inl,id,qBq,outL,j0]
  |inr q=>
   obtain⟨⟨f1,f2,f3,f4⟩,f5⟩:=hA p q.1 q.2 hp hb hq
   simp only[outP,kM,qBq,stP]
   rw[qDm (by simp only[jD,jF];omega) (by omega)]
   simp only[j0,qSd f2 hl,qOj]
   rcases qEl (isC ts 4 ⟨#[44]⟩ q.1.1) with hc|hc
   ·have g:=qFv hok f2 (by decide) hc
    have ih:=zGc hok hl hA hE n M (l++[(q.2:Int)]) (q.1.1+1,q.1.2) g f4 (by simp only[jC,jD,jF];omega) (by simp only;omega) (by simp only;omega)
    simp only[hc,jK,kQ,jB,jH,j0]
    exact ih
   ·simp only[hc,jB,jH,kJ,jK,j0,qQf f2 hl,qEw]
    cases qEx ts ⟨#[41]⟩ q.1.1 with
    |inl z=>rfl
    |inr j=>rfl
theorem zIo(hok:OkT ts)(hl:ts.length<1000000)(hN:ts.length<N)(hA:Adv ts E)(hE:∀p:Ps,p.1<ts.length→p.2.length≤256→r5 (stP ts pr p) (IntKind.wrap .i64 (d+1))=some (outP ts pr (E p)))
  (p:Ps) (hp:p.1<ts.length) (hb:p.2.length≤256):qHi N r1 r2 r3 r4 r5 (stP ts pr p) d=some (outL ts pr (qKq ts E p)):=by
 simp only[qHi,stP,qQf hp hl,j0,qKq,qNf]
 cases h:qEx ts ⟨#[40]⟩ p.1 with
 |inl z=>rfl
 |inr i=>
  obtain⟨rfl,g,-⟩:=qGh hok hp h
  simp only[kM,qBq,qSd g hl,j0,qEw]
  rcases qEl (isC ts 4 ⟨#[41]⟩ (p.1+1)) with hc|hc
  ·simp only[hc,jK];rfl
  ·simp only[hc,jB,jH]
   exact zGc hok hl hA hE (ts.length+1) N [] (p.1+1,p.2) g hb (by simp) (by simp only;omega) (by simp only;omega)
theorem zPv(hok:OkT ts)(hl:ts.length<1000000)(hN:300000<N)(ht:∀j,(tkAt ts j).2.1.size<100000)(hA:Adv ts E)(hE:∀p:Ps,p.1<ts.length→p.2.length≤256→r5 (stP ts pr p) (IntKind.wrap .i64 (d+1))=some (outP ts pr (E p)))
  (t:Tok) (p:Ps) (hp:p.1<ts.length) (hb:p.2.length≤256):qIg N r1 r2 r3 r4 r5 (stP ts pr p) t d=some (outP ts pr (qKm ts E t p)):=by
 have fin:∀(o1:Int×Int×ByteArray×List Int×StT) (q:Ps) (x:Ex),o1.2.2.2.2=stP ts pr q→x=(o1.1,o1.2.1,0,o1.2.2.1,o1.2.2.2.1)→q.1<ts.length→q.2.length≤256→
   ((qBz N (o1.2.2.2.2.1,o1.2.2.2.2.2.1,o1.2.2.2.2.2.2.1,o1.2.2.2.2.2.2.2) (⟨#[41]⟩:ByteArray)).bind fun y22=>(match y22 with| .inl z11=>some (.inl z11)| .inr y23=>(qDr N (y23.1,y23.2.1,y23.2.2.1,y23.2.2.2) (t.1,t.2.1,t.2.2.1,t.2.2.2) (o1.1,o1.2.1,0,o1.2.2.1,o1.2.2.2.1)).bind fun y24=>(match y24 with| .inl z12=>some (.inl z12)| .inr y25=>some (.inr ((y25.1.1,y25.1.2.1,y25.1.2.2.1,y25.1.2.2.2),y25.2)))))=
   some (outP ts pr (qBq (qEx ts qEw q.1) fun i=>qLp t x (i,q.2))):=by
  intro o1 q x ho hx hq hqb
  subst hx
  rw[ho]
  simp only[stP,qQf hq hl,j0,qEw]
  cases hj:qEx ts ⟨#[41]⟩ q.1 with
  |inl z=>rfl
  |inr j=>
   simp only[kM,qBq,qWi _ _ hqb,j0]
   cases qLp t (o1.1,o1.2.1,0,o1.2.2.1,o1.2.2.2.1) (j,q.2)<;>rfl
 simp only[qIg,stP,qQf hp hl,j0,qKm,qNf]
 cases h:qEx ts ⟨#[40]⟩ p.1 with
 |inl z=>rfl
 |inr i=>
  obtain⟨rfl,g,-⟩:=qGh hok hp h
  simp only[kM,qBq,qEd,jA]
  by_cases k1:t.2.1=qSp
  ·rw[if_pos (show t.2.1=(⟨#[114,101,97,100]⟩:ByteArray) from k1),if_pos k1]
   simp only[zDt g hl hN ht,j0]
   cases h1:qQh ts (p.1+1) with
   |inl z=>rfl
   |inr a=>
    obtain⟨rfl,g1,-⟩:=qOr hok g h1
    simp only[kM,qQf g1 hl,j0,qOj]
    cases h2:qEx ts ⟨#[44]⟩ (p.1+1+1) with
    |inl z=>rfl
    |inr j=>
     obtain⟨rfl,g2,-⟩:=qGh hok g1 h2
     have hEp:=hE (p.1+1+1+1,p.2) g2 hb
     simp only[stP] at hEp
     simp only[kM,hEp,j0]
     cases h3:E (p.1+1+1+1,p.2) with
     |inl z=>rfl
     |inr q=>
      obtain⟨⟨f1,f2,f3,f4⟩,f5⟩:=hA (p.1+1+1+1,p.2) q.1 q.2 g2 hb h3
      exact fin (6,0,(tkAt ts (p.1+1)).2.1,[(q.2:Int)],ts,(q.1.1:Int),pr,q.1.2) q.1 _ rfl rfl f2 f4
  rw[if_neg (show ¬t.2.1=(⟨#[114,101,97,100]⟩:ByteArray) from k1),if_neg k1]
  by_cases k2:t.2.1=qSk
  ·rw[if_pos (show t.2.1=(⟨#[115,105,122,101]⟩:ByteArray) from k2),if_pos k2]
   simp only[zDt g hl hN ht,j0]
   cases h1:qQh ts (p.1+1) with
   |inl z=>rfl
   |inr a=>
    obtain⟨rfl,g1,-⟩:=qOr hok g h1
    exact fin (7,0,(tkAt ts (p.1+1)).2.1,[],ts,((p.1+1+1:Nat):Int),pr,p.2) (p.1+1+1,p.2) _ rfl rfl g1 hb
  rw[if_neg (show ¬t.2.1=(⟨#[115,105,122,101]⟩:ByteArray) from k2),if_neg k2]
  by_cases k3:t.2.1=sHas
  ·rw[if_pos (show t.2.1=(⟨#[104,97,115]⟩:ByteArray) from k3),if_pos k3]
   simp only[zDt g hl hN ht,j0]
   cases h1:qQh ts (p.1+1) with
   |inl z=>rfl
   |inr a=>
    obtain⟨rfl,g1,-⟩:=qOr hok g h1
    exact fin (8,0,(tkAt ts (p.1+1)).2.1,[],ts,((p.1+1+1:Nat):Int),pr,p.2) (p.1+1+1,p.2) _ rfl rfl g1 hb
  rw[if_neg (show ¬t.2.1=(⟨#[104,97,115]⟩:ByteArray) from k3),if_neg k3]
  by_cases k4:t.2.1=sEnv
  ·rw[if_pos (show t.2.1=(⟨#[101,110,118]⟩:ByteArray) from k4),if_pos k4]
   simp only[qZq g hl (show(3:Int)≠5 by decide),j0,qWc]
   cases h1:qNv ts 3 (p.1+1) with
   |inl z=>rfl
   |inr a=>
    obtain⟨rfl,g1,-⟩:=qQq hok (by decide) g h1
    simp only[kM,zIm (N:=N) (by omega),j0,qBq,qCi]
    cases h2:qPo (tkAt ts (p.1+1)).2.1 with
    |false=>rfl
    |true=>exact fin (9,0,(tkAt ts (p.1+1)).2.1,[],ts,((p.1+1+1:Nat):Int),pr,p.2) (p.1+1+1,p.2) _ rfl rfl g1 hb
  ·rw[if_neg (show ¬t.2.1=(⟨#[101,110,118]⟩:ByteArray) from k4),if_neg k4]
   simp only[qZq g hl (show(2:Int)≠5 by decide),j0]
   cases h1:qNv ts 2 (p.1+1) with
   |inl z=>rfl
   |inr a=>
    obtain⟨rfl,g1,-⟩:=qQq hok (by decide) g h1
    simp only[kM,qCi,j0]
    by_cases h2:(tkAt ts (p.1+1)).2.2.1≥64
    ·simp only[if_pos h2,j0];rfl
    ·simp only[if_neg h2,j0]
     exact fin (10,(tkAt ts (p.1+1)).2.2.1,⟨#[]⟩,[],ts,((p.1+1+1:Nat):Int),pr,p.2) (p.1+1+1,p.2) _ rfl rfl g1 hb
end
end
section
open Go Go.Dc
section
variable {N:Nat} {ts:List Tok} {pr:List ByteArray} {E S:Ps→PM Nat} {d:Int}
variable {r1:StT→Tok→Int→Option (Flt⊕(StT×Int))} {r2:StT→Int→Option (Flt⊕(StT×List Int))} {r3:StT→Int→Option (Flt⊕(StT×Int))} {r4:StT→Int→Int→Option (Flt⊕(StT×Int))} {r5:StT→Int→Option (Flt⊕(StT×Int))}
theorem kw_mem(x:ByteArray):(decide (x=(⟨#[114,101,97,100]⟩:ByteArray))||(decide (x=(⟨#[115,105,122,101]⟩:ByteArray))||(decide (x=(⟨#[104,97,115]⟩:ByteArray))||(decide (x=(⟨#[101,110,118]⟩:ByteArray))||decide (x=(⟨#[102,108,105,112]⟩:ByteArray))))))=decide (x∈[qSp,qSk,sHas,sEnv,qTt]):=by
 simp only[qSp,qSk,sHas,sEnv,qTt,jR,gE,dH,Bool.decide_or]
theorem zRd(hok:OkT ts)(hl:ts.length<1000000)(hpr:pr.length<1000)(hN:300000<N)(hA:Adv ts E)(hE:∀p:Ps,p.1<ts.length→p.2.length≤256→r5 (stP ts pr p) (IntKind.wrap .i64 (d+1))=some (outP ts pr (E p)))
  (h1:∀(t:Tok) (p:Ps),p.1<ts.length→p.2.length≤256→r1 (stP ts pr p) t d=some (outP ts pr (qKm ts E t p)))
  (h2:∀p:Ps,p.1<ts.length→p.2.length≤256→r2 (stP ts pr p) d=some (outL ts pr (qKq ts E p)))
  (p:Ps) (hp:p.1<ts.length) (hb:p.2.length≤256):qIp N r1 r2 r3 r4 r5 (stP ts pr p) d=some (outP ts pr (qJy ts pr E p)):=by
 have hw:=qNd (show p.1<1000000 by omega)
 simp only[qIp,stP,qNj hp,j0,qJy]
 by_cases k1:(tkAt ts p.1).1=2
 ·rw[if_pos (show((tkAt ts p.1).1==2)=true by simpa using k1),if_pos k1,hw]
  simp only[qWi _ _ hb,j0]
  cases qLp (tkAt ts p.1) (1,(tkAt ts p.1).2.2.1,0,⟨#[]⟩,[]) (p.1+1,p.2)<;>rfl
 rw[if_neg (show ¬((tkAt ts p.1).1==2)=true by simpa using k1),if_neg k1]
 simp only[qSd hp hl,j0]
 rcases qEl (isC ts 4 zKq p.1) with c1|c1
 ·have c1':isC ts 4 ⟨#[45]⟩ p.1=true:=c1
  have g:=qFv hok hp (by decide) c1
  simp only[c1,c1',jK,qZq g hl (show(2:Int)≠5 by decide),j0]
  cases h:qNv ts 2 (p.1+1) with
  |inl z=>rfl
  |inr a=>
   simp only[kM,qBq,qWi _ _ hb,j0]
   cases qLp (tkAt ts p.1) (1,IntKind.wrap .i64 (0-a.2.2.2.1),0,⟨#[]⟩,[]) (a.1,p.2)<;>rfl
 have c1':isC ts 4 ⟨#[45]⟩ p.1=false:=c1
 simp only[c1,c1',jB,jH,qSd hp hl,j0]
 rcases qEl (isC ts 4 qNf p.1) with c2|c2
 ·have c2':isC ts 4 ⟨#[40]⟩ p.1=true:=c2
  have g:=qFv hok hp (by decide) c2
  have hEp:=hE (p.1+1,p.2) g hb
  simp only[stP] at hEp
  simp only[c2,c2',jK,hEp,j0]
  cases h:E (p.1+1,p.2) with
  |inl z=>rfl
  |inr q=>
   obtain⟨⟨f1,f2,f3,f4⟩,f5⟩:=hA (p.1+1,p.2) q.1 q.2 g hb h
   simp only[outP,kM,qBq,stP,qQf f2 hl,j0,qEw]
   cases qEx ts ⟨#[41]⟩ q.1.1<;>rfl
 have c2':isC ts 4 ⟨#[40]⟩ p.1=false:=c2
 simp only[c2,c2',jB,jH,qCi,j0]
 by_cases k2:(tkAt ts p.1).1=1
 rotate_left
 ·rw[if_pos (show((tkAt ts p.1).1 !=1)=true by simpa using k2),if_pos k2];rfl
 rw[if_neg (show ¬((tkAt ts p.1).1 !=1)=true by simpa using k2),if_neg (show ¬(tkAt ts p.1).1≠1 by simpa using k2)]
 have g:=hok.next hp (show(tkAt ts p.1).1≠5 by rw[k2];decide)
 simp only[j0,qEd,orS,kw_mem,hw]
 by_cases k3:(tkAt ts p.1).2.1∈[qSp,qSk,sHas,sEnv,qTt]
 ·rw[if_pos (show decide ((tkAt ts p.1).2.1∈[qSp,qSk,sHas,sEnv,qTt])=true from jZ k3),if_pos k3]
  have h1p:=h1 (tkAt ts p.1) (p.1+1,p.2) g hb
  simp only[stP] at h1p
  simp only[h1p,j0]
  cases qKm ts E (tkAt ts p.1) (p.1+1,p.2)<;>rfl
 rw[if_neg (show ¬decide ((tkAt ts p.1).2.1∈[qSp,qSk,sHas,sEnv,qTt])=true by simpa using k3),if_neg k3]
 simp only[qWp,j0]
 rcases qEl (resC (tkAt ts p.1).2.1) with c3|c3
 ·simp only[c3,jK,j0];rfl
 simp only[c3,jB,jH,j0,zMk g]
 rcases qEl (isC ts 4 qNf (p.1+1)) with c4|c4
 ·have c4':isC ts 4 ⟨#[40]⟩ (p.1+1)=true:=c4
  have h2p:=h2 (p.1+1,p.2) g hb
  simp only[stP] at h2p
  simp only[c4,c4',jK,h2p,j0]
  cases h:qKq ts E (p.1+1,p.2) with
  |inl z=>rfl
  |inr q=>
   obtain⟨f1,f2,f3,f4⟩:=qVx hok hA (p:=(p.1+1,p.2)) g hb h
   simp only[outL,kM,qBq,stP,qWi _ _ f4,j0]
   cases qLp (tkAt ts p.1) (3,0,0,(tkAt ts p.1).2.1,q.2) (q.1.1,q.1.2)<;>rfl
 have c4':isC ts 4 ⟨#[40]⟩ (p.1+1)=false:=c4
 simp only[c4,c4',jB,jH,zLp (N:=N) (l:=pr) (s:=(tkAt ts p.1).2.1) (by omega) (by omega),j0]
 cases pr.findIdx? (fun x=>decide (x=(tkAt ts p.1).2.1)) with
 |none=>rfl
 |some j=>
  simp only[jA]
  rw[if_neg (by omega)]
  simp only[j0,qWi _ _ hb]
  cases qLp (tkAt ts p.1) (2,(j:Int),0,⟨#[]⟩,[]) (p.1+1,p.2)<;>rfl
theorem zSt(h3:∀p:Ps,p.1<ts.length→p.2.length≤256→r3 (stP ts pr p) d=some (outP ts pr (S p)))(p:Ps)(hp:p.1<ts.length)(hb:p.2.length≤256):
  qFb N r1 r2 r3 r4 r5 (stP ts pr p) 4 d=some (outP ts pr (S p)):=by
 have h3p:=h3 p hp hb
 simp only[stP] at h3p
 simp only[qFb,stP,h3p,j0]
 cases S p<;>rfl
theorem zGj(hok:OkT ts)(hl:ts.length<1000000)(hS:Adv ts S){L:Nat}(hL:L<4)(h4:∀p:Ps,p.1<ts.length→p.2.length≤256→r4 (stP ts pr p) ((L:Int)+1) d=some (outP ts pr (S p))):
  ∀(n M x:Nat) (p:Ps),p.1<ts.length→p.2.length≤256→x<p.2.length→ts.length<p.1+n→ts.length<p.1+M→
  qAt (qIa N r4 (L:Int) d) M ((x:Int),ts,(p.1:Int),pr,p.2)=some (outP ts pr (qQj ts L S n x p))
 |0,M,x,p,hp,_,_,h,_=>by omega
 |n+1,0,x,p,hp,_,_,_,h=>by omega
 |n+1,M+1,x,p,hp,hb,hx,hn,hM=>by
  have hw:=qNd (show p.1<1000000 by omega)
  have hwL:IntKind.wrap .i64 ((L:Int)+1)=(L:Int)+1:=wi64 (by omega) (by omega)
  simp only[qAt,qIa,qQj,zJj hp,j0]
  by_cases k1:opC ts L p.1=0
  ·rw[if_pos (show(opC ts L p.1==0)=true by simpa using k1),if_pos k1];rfl
  rw[if_neg (show ¬(opC ts L p.1==0)=true by simpa using k1),if_neg k1]
  have hk:(tkAt ts p.1).1≠5:=by
   intro hk
   apply k1
   unfold opC
   have:opsC.find? (isOp ts L p.1)=none:=by
    rw[List.find?_eq_none]
    intro o _ ho
    simp only[isOp,jO] at ho
    have:=qZb ho.1
    omega
   rw[this]
  have g:=hok.next hp hk
  have h4p:=h4 (p.1+1,p.2) g hb
  simp only[stP] at h4p
  simp only[qNj hp,j0,hw,hwL,h4p]
  cases h:S (p.1+1,p.2) with
  |inl z=>rfl
  |inr q=>
   obtain⟨⟨f1,f2,f3,f4⟩,f5⟩:=hS (p.1+1,p.2) q.1 q.2 g hb h
   simp only[outP,kM,qBq,stP,qWi _ _ f4,j0]
   cases hn2:qLp (tkAt ts p.1) (4,0,opC ts L p.1,⟨#[]⟩,[(x:Int),(q.2:Int)]) (q.1.1,q.1.2) with
   |inl z=>rfl
   |inr r=>
    obtain⟨⟨k1,k2,k3,k4⟩,k5⟩:=qQp (ts:=ts) (p:=p) (r:=(q.1.1,q.1.2)) (by simp only at f1 ⊢;omega) f2 f3 f4 hn2
    simp only[kM]
    by_cases k6:L=1
    ·subst k6
     rfl
    ·rw[if_neg (show ¬((L:Int)==1)=true by simp;omega),if_neg k6]
     simp only[j0]
     exact zGj hok hl hS hL h4 n M r.2 r.1 k2 k4 k5 (by omega) (by omega)
theorem zDh(hok:OkT ts)(hl:ts.length<1000000)(hN:1000001<N)(hS:Adv ts S){L:Nat}(hL:L<4)(h4:∀p:Ps,p.1<ts.length→p.2.length≤256→r4 (stP ts pr p) ((L:Int)+1) d=some (outP ts pr (S p)))
  (p:Ps) (hp:p.1<ts.length) (hb:p.2.length≤256):qFb N r1 r2 r3 r4 r5 (stP ts pr p) (L:Int) d=some (outP ts pr (qOu ts L S p)):=by
 have hwL:IntKind.wrap .i64 ((L:Int)+1)=(L:Int)+1:=wi64 (by omega) (by omega)
 have h4p:=h4 p hp hb
 simp only[stP] at h4p
 simp only[qFb,stP,qOu,hwL,h4p,j0]
 rw[if_neg (show ¬((L:Int)==4)=true by simp;omega)]
 cases h:S p with
 |inl z=>rfl
 |inr q=>
  obtain⟨⟨f1,f2,f3,f4⟩,f5⟩:=hS p q.1 q.2 hp hb h
  simp only[outP,kM,qBq,stP]
  rw[zGj hok hl hS hL h4 (ts.length+1) N q.2 q.1 f2 f4 f5 (by omega) (by omega)]
  rfl
theorem expr_B{k:Nat}(hok:OkT ts)(hl:ts.length<1000000)(hd:d+k=32)(hk:k<33)(hA:Adv ts (qEb ts pr k))(hE:∀p:Ps,p.1<ts.length→p.2.length≤256→r5 (stP ts pr p) (IntKind.wrap .i64 (d+1))=some (outP ts pr (qEb ts pr k p)))
  (h4:∀p:Ps,p.1<ts.length→p.2.length≤256→r4 (stP ts pr p) 1 d=some (outP ts pr (qVn ts pr (qEb ts pr k) p)))
  (p:Ps) (hp:p.1<ts.length) (hb:p.2.length≤256):qGn N r1 r2 r3 r4 r5 (stP ts pr p) d=some (outP ts pr (qEb ts pr (k+1) p)):=by
 have hw:=qNd (show p.1<1000000 by omega)
 simp only[qGn,stP,qNj hp,j0,qEb]
 rw[if_neg (show ¬decide (d>32)=true by simp only[jA];omega)]
 simp only[j0,zMk hp]
 rcases qEl (isC ts 1 sIf p.1) with c1|c1
 rotate_left
 ·have c1':isC ts 1 ⟨#[105,102]⟩ p.1=false:=c1
  have h4p:=h4 p hp hb
  simp only[stP] at h4p
  simp only[c1,c1',kJ,jK,jB,jH,h4p,j0]
  cases qVn ts pr (qEb ts pr k) p<;>rfl
 have c1':isC ts 1 ⟨#[105,102]⟩ p.1=true:=c1
 have g:=qFv hok hp (by decide) c1
 have hEa:=hE (p.1+1,p.2) g hb
 simp only[stP] at hEa
 simp only[c1,c1',kQ,jK,jB,jH,hw,hEa,j0]
 cases ha:qEb ts pr k (p.1+1,p.2) with
 |inl z=>rfl
 |inr a=>
  obtain⟨⟨a1,a2,a3,a4⟩,a5⟩:=hA (p.1+1,p.2) a.1 a.2 g hb ha
  simp only[outP,kM,qBq,stP,zJd a2 hl,j0,zMd]
  cases hi:qWh ts ⟨#[116,104,101,110]⟩ a.1.1 with
  |inl z=>rfl
  |inr i=>
   obtain⟨rfl,g1,-⟩:=qXa hok a2 hi
   have hEb:=hE (a.1.1+1,a.1.2) g1 a4
   simp only[stP] at hEb
   simp only[kM,hEb,j0]
   cases hb1:qEb ts pr k (a.1.1+1,a.1.2) with
   |inl z=>rfl
   |inr b=>
    obtain⟨⟨b1,b2,b3,b4⟩,b5⟩:=hA (a.1.1+1,a.1.2) b.1 b.2 g1 a4 hb1
    simp only[outP,kM,qBq,stP,zJd b2 hl,j0,zMi]
    cases hj:qWh ts ⟨#[101,108,115,101]⟩ b.1.1 with
    |inl z=>rfl
    |inr j=>
     obtain⟨rfl,g2,-⟩:=qXa hok b2 hj
     have hEc:=hE (b.1.1+1,b.1.2) g2 b4
     simp only[stP] at hEc
     simp only[kM,hEc,j0]
     cases hc1:qEb ts pr k (b.1.1+1,b.1.2) with
     |inl z=>rfl
     |inr c=>
      obtain⟨⟨c1,c2,c3,c4⟩,c5⟩:=hA (b.1.1+1,b.1.2) c.1 c.2 g2 b4 hc1
      simp only[outP,kM,qBq,stP,qWi _ _ c4,j0]
      cases qLp (tkAt ts p.1) (5,0,0,⟨#[]⟩,[(a.2:Int),(b.2:Int),(c.2:Int)]) (c.1.1,c.1.2)<;>rfl
theorem zTr(hd:d>32)(p:Ps)(hp:p.1<ts.length):qGn N r1 r2 r3 r4 r5 (stP ts pr p) d=some (outP ts pr (qEb ts pr 0 p)):=by
 simp only[qGn,stP,qNj hp,j0,qEb]
 rw[if_pos (show decide (d>32)=true by simpa using hd)]
 rfl
theorem zNt(hok:OkT ts)(hl:ts.length<1000000)(hpr:pr.length<1000)(hN:1000001<N)(ht:∀j,(tkAt ts j).2.1.size<100000):∀(k D:Nat),k≤32→7*k+1≤D→∀p:Ps,p.1<ts.length→p.2.length≤256→
  (qAi N D).2.2.2.2 (stP ts pr p) (33-(k:Int))=some (outP ts pr (qEb ts pr k p))
 |0,0,_,h,_,_,_=>by omega
 |0,D+1,_,_,p,hp,_=>by simp only[qAi];exact zTr (by omega) p hp
 |k+1,D,hk,hD,p,hp,hb=>by
  have hA:=qOs (ts:=ts) (params:=pr) hok k
  have hF:=qWj (params:=pr) hok hA
  have hT:Adv ts (zNc ts pr (qEb ts pr k)):=qPc hok hF
  have hS:Adv ts (sumC ts pr (qEb ts pr k)):=qPc hok hT
  have hE:∀D,7*k+1≤D→∀p:Ps,p.1<ts.length→p.2.length≤256→(qAi N D).2.2.2.2 (stP ts pr p) (IntKind.wrap .i64 (32-(k:Int)+1))=some (outP ts pr (qEb ts pr k p)):=by
   intro D hD p hp hb
   rw[wi64 (by omega) (by omega),show 32-(k:Int)+1=33-(k:Int) by omega]
   exact zNt hok hl hpr hN ht k D (by omega) hD p hp hb
  have h1:∀D,7*k+2≤D→∀(t:Tok) (p:Ps),p.1<ts.length→p.2.length≤256→(qAi N D).1 (stP ts pr p) t (32-(k:Int))=some (outP ts pr (qKm ts (qEb ts pr k) t p)):=by
   intro D hD t p hp hb
   obtain⟨D',rfl⟩:∃D',D=D'+1:=⟨D-1,by omega⟩
   simp only[qAi]
   exact zPv hok hl (by omega) ht hA (hE D' (by omega)) t p hp hb
  have h2:∀D,7*k+2≤D→∀p:Ps,p.1<ts.length→p.2.length≤256→(qAi N D).2.1 (stP ts pr p) (32-(k:Int))=some (outL ts pr (qKq ts (qEb ts pr k) p)):=by
   intro D hD p hp hb
   obtain⟨D',rfl⟩:∃D',D=D'+1:=⟨D-1,by omega⟩
   simp only[qAi]
   exact zIo hok hl (by omega) hA (hE D' (by omega)) p hp hb
  have h3:∀D,7*k+3≤D→∀p:Ps,p.1<ts.length→p.2.length≤256→(qAi N D).2.2.1 (stP ts pr p) (32-(k:Int))=some (outP ts pr (qJy ts pr (qEb ts pr k) p)):=by
   intro D hD p hp hb
   obtain⟨D',rfl⟩:∃D',D=D'+1:=⟨D-1,by omega⟩
   simp only[qAi]
   exact zRd hok hl hpr (by omega) hA (hE D' (by omega)) (h1 D' (by omega)) (h2 D' (by omega)) p hp hb
  have b4:∀D,7*k+4≤D→∀p:Ps,p.1<ts.length→p.2.length≤256→(qAi N D).2.2.2.1 (stP ts pr p) 4 (32-(k:Int))=some (outP ts pr (qJy ts pr (qEb ts pr k) p)):=by
   intro D hD p hp hb
   obtain⟨D',rfl⟩:∃D',D=D'+1:=⟨D-1,by omega⟩
   simp only[qAi]
   exact zSt (h3 D' (by omega)) p hp hb
  have b3:∀D,7*k+5≤D→∀p:Ps,p.1<ts.length→p.2.length≤256→(qAi N D).2.2.2.1 (stP ts pr p) 3 (32-(k:Int))=some (outP ts pr (zNc ts pr (qEb ts pr k) p)):=by
   intro D hD p hp hb
   obtain⟨D',rfl⟩:∃D',D=D'+1:=⟨D-1,by omega⟩
   simp only[qAi]
   exact zDh hok hl hN hF (L:=3) (by omega) (b4 D' (by omega)) p hp hb
  have b2:∀D,7*k+6≤D→∀p:Ps,p.1<ts.length→p.2.length≤256→(qAi N D).2.2.2.1 (stP ts pr p) 2 (32-(k:Int))=some (outP ts pr (sumC ts pr (qEb ts pr k) p)):=by
   intro D hD p hp hb
   obtain⟨D',rfl⟩:∃D',D=D'+1:=⟨D-1,by omega⟩
   simp only[qAi]
   exact zDh hok hl hN hT (L:=2) (by omega) (b3 D' (by omega)) p hp hb
  have b1:∀D,7*k+7≤D→∀p:Ps,p.1<ts.length→p.2.length≤256→(qAi N D).2.2.2.1 (stP ts pr p) 1 (32-(k:Int))=some (outP ts pr (qVn ts pr (qEb ts pr k) p)):=by
   intro D hD p hp hb
   obtain⟨D',rfl⟩:∃D',D=D'+1:=⟨D-1,by omega⟩
   simp only[qAi]
   exact zDh hok hl hN hS (L:=1) (by omega) (b2 D' (by omega)) p hp hb
  obtain⟨D',rfl⟩:∃D',D=D'+1:=⟨D-1,by omega⟩
  rw[show(33:Int)-((k+1:Nat):Int)=32-(k:Int) by omega]
  simp only[qAi]
  exact expr_B hok hl (by omega) (by omega) hA (hE D' (by omega)) (b1 D' (by omega)) p hp hb
theorem zUs(hok:OkT ts)(hl:ts.length<1000000)(hpr:pr.length<1000)(hN:1000001<N)(ht:∀j,(tkAt ts j).2.1.size<100000)(p:Ps)(hp:p.1<ts.length)(hb:p.2.length≤256):
  qOn N (ts,(p.1:Int),pr,p.2) 1=some (outP ts pr (qEb ts pr 32 p)):=by
 have:=zNt hok hl hpr hN ht 32 N (by omega) (by omega) p hp hb
 exact this
end
end
section
open Go Go.Dc
section
variable {N:Nat} {ts:List Tok} {pr:List ByteArray} {b:List Ex}
theorem qWd(h:OkT ts):∀(n:Nat) (l:List ByteArray) (i:Nat) (a:Nat×List ByteArray),i<ts.length→l.length≤8→qPj ts n l i= .inr a→i<a.1∧a.1<ts.length∧a.2.length≤8
 |0,_,_,_,_,_,h1=>by cases h1
 |n+1,l,i,a,hi,hl,h1=>by
  obtain⟨x,hx,h2⟩:=qDt (show qBq (qOa ts i) _=_ from h1)
  obtain⟨rfl,g1,-⟩:=qOc h hi hx
  split at h2
  ·cases h2
  rename_i k1
  split at h2
  ·cases h2
  split at h2
  ·rename_i k3
   have g2:=qFv h g1 (by decide) k3
   obtain⟨j1,j2,j3⟩:=qWd h n _ _ a g2 (by simp only[jC,jD,jF];omega) h2
   exact⟨by omega,j2,j3⟩
  ·obtain⟨j,hj,h3⟩:=qDt h2
   obtain⟨rfl,g2,-⟩:=qGh h g1 hj
   obtain rfl:=Sum.inr.inj h3
   exact⟨by simp only;omega,g2,by simp only[jC,jD,jF];omega⟩
theorem qUi(h:OkT ts){i:Nat}{a:Nat×List ByteArray}(hi:i<ts.length)(h1:qIf ts i= .inr a):i<a.1∧a.1<ts.length∧a.2.length≤8:=by
 obtain⟨j,hj,h2⟩:=qDt h1
 obtain⟨rfl,g,-⟩:=qGh h hi hj
 split at h2
 ·rename_i k
  obtain rfl:=Sum.inr.inj h2
  exact⟨by simp only;omega,qFv h g (by decide) k,by simp⟩
 ·obtain⟨j1,j2,j3⟩:=qWd h _ _ _ a g (by simp) h2
  exact⟨by omega,j2,j3⟩
theorem qZo(hok:OkT ts)(hl:ts.length<1000000)(hN:1000000<N):∀(n M:Nat) (l:List ByteArray) (i:Nat),i<ts.length→l.length≤8→ts.length<i+n→ts.length<i+M→
  ((qAt (qFw N) M (l,ts,(i:Int),pr,b)).bind fun out1=>(match out1 with| .inl o1=>(qBz N (o1.2.1,o1.2.2.1,o1.2.2.2.1,o1.2.2.2.2) (⟨#[41]⟩:ByteArray)).bind fun y12=>(match y12 with| .inl z5=>some (.inl z5)| .inr y13=>some (.inr ((y13.1,y13.2.1,y13.2.2.1,y13.2.2.2),o1.1)))| .inr (z)=>some z))=some (Sum.map id (fun a:Nat×List ByteArray=>((ts,(a.1:Int),pr,b),a.2)) (qPj ts n l i))
 |0,M,l,i,hi,_,h,_=>by omega
 |n+1,0,l,i,hi,_,_,h=>by omega
 |n+1,M+1,l,i,hi,hll,hn,hM=>by
  simp only[qAt,qFw,qPj,zEs hi hl,j0]
  cases hx:qOa ts i with
  |inl z=>rfl
  |inr x=>
   obtain⟨rfl,g1,-⟩:=qOc hok hi hx
   simp only[kM,qBq,qCi,j0]
   by_cases k1:l.length=8
   ·rw[if_pos (show((l.length:Int)==8)=true by simp;omega),if_pos k1];rfl
   rw[if_neg (show ¬((l.length:Int)==8)=true by simp;omega),if_neg k1]
   simp only[j0,zAq (N:=N) (l:=l) (s:=(tkAt ts i).2.1) (by omega) (by omega)]
   by_cases k2:(tkAt ts i).2.1∈l
   ·rw[if_pos (jZ k2),if_pos k2];rfl
   rw[if_neg (show ¬decide ((tkAt ts i).2.1∈l)=true by simpa using k2),if_neg k2]
   simp only[j0]
   rw[qDm (by simp only[jD,jF];omega) (by omega)]
   simp only[j0,qSd g1 hl,qOj]
   rcases qEl (isC ts 4 ⟨#[44]⟩ (i+1)) with hc|hc
   ·have g:=qFv hok g1 (by decide) hc
    simp only[hc,jK,kQ,jB,jH,j0]
    exact qZo hok hl hN n M _ (i+1+1) g (by simp only[jC,jD,jF];omega) (by omega) (by omega)
   ·simp only[hc,jB,jH,kJ,jK,j0,qQf g1 hl,qEw]
    cases qEx ts ⟨#[41]⟩ (i+1)<;>rfl
theorem zEc(hok:OkT ts)(hl:ts.length<1000000)(hN:1000000<N){i:Nat}(hi:i<ts.length):
  qFt N (ts,(i:Int),pr,b)=some (Sum.map id (fun a:Nat×List ByteArray=>((ts,(a.1:Int),pr,b),a.2)) (qIf ts i)):=by
 simp only[qFt,qQf hi hl,j0,qIf,qNf]
 cases h:qEx ts ⟨#[40]⟩ i with
 |inl z=>rfl
 |inr j=>
  obtain⟨rfl,g,-⟩:=qGh hok hi h
  simp only[kM,qBq,qSd g hl,j0,qEw]
  rcases qEl (isC ts 4 ⟨#[41]⟩ (i+1)) with hc|hc
  ·simp only[hc,jK];rfl
  ·simp only[hc,jB,jH]
   exact qZo hok hl hN (ts.length+1) N [] (i+1) g (by simp) (by omega) (by omega)
def zLb:List (ByteArray×Int):=[(⟨#[102,117,110,99]⟩,1),(⟨#[103,101,110]⟩,3),(⟨#[116,101,115,116]⟩,2)]
theorem zRi:((qMs (some []:Option (List (ByteArray×Int))) (⟨#[102,117,110,99]⟩:ByteArray) 1).bind fun mp1=>(qMs mp1 (⟨#[116,101,115,116]⟩:ByteArray) 2).bind fun mp2=>qMs mp2 (⟨#[103,101,110]⟩:ByteArray) 3)=some (some zLb):=by kernel_rfl
theorem zLe(s:ByteArray):((qGe (some zLb) s).getD 0)=qNu s:=by
 simp only[qGe,zLb,j0,mget,qNu,zLt,zMl,sGen]
 by_cases h1:s=⟨#[102,117,110,99]⟩
 ·simp[h1]
 by_cases h2:s=⟨#[116,101,115,116]⟩
 ·subst h2;rfl
 by_cases h3:s=⟨#[103,101,110]⟩
 ·subst h3;rfl
 simp[h1,h2,h3]
theorem zCg{before:List Dl}{y1:StT×Tok}{o4:List Tok×Int×List ByteArray×List Ex×Int×ByteArray×Int×Int}(hl:before.length≤64):∀(d i M:Nat),i+d=before.length→d<M→
  ((qAt (qHs N before (some zLb) y1 o4) M (i:Int)).bind fun out1=>(match out1 with| .inl o6=>some (-1)| .inr (z)=>some z):Option Int)=some (match(before.drop i).findIdx? (fun d=>d.1==qNu y1.2.2.1&&decide (d.2.1=o4.2.2.2.2.2.1)) with|some j=>((i+j:Nat):Int)|none=> -1)
 |d,i,0,_,h=>by omega
 |0,i,M+1,h,_=>by
  have:before.drop i=[]:=jT (by omega)
  simp only[qAt,qHs,this,List.findIdx?_nil]
  rw[if_neg (by simp only[jA];omega)]
  rfl
 |d+1,i,M+1,h,hM=>by
  have hi:i<before.length:=by omega
  have ih:=zCg (y1:=y1) (o4:=o4) hl d (i+1) M (by omega) (by omega)
  simp only[qAt,qHs]
  rw[if_pos (by simp only[jA];omega),qDn hi,jU hi,List.findIdx?_cons]
  simp only[j0,qEd,zLe]
  by_cases k1:(before[i].1==qNu y1.2.2.1)=true
  ·by_cases k2:before[i].2.1=o4.2.2.2.2.2.1
   ·simp[k1,k2]
   ·simp only[k1,k2,jK,decide_false,j0,jB,jH,qNd (show i<1000000 by omega),Bool.and_false]
    rw[ih]
    cases(before.drop (i+1)).findIdx? (fun d=>d.1==qNu y1.2.2.1&&decide (d.2.1=o4.2.2.2.2.2.1)) with
    |none=>rfl
    |some j=>simp only[kV];rw[show i+1+j=i+(j+1) by omega]
  ·simp only[k1,jB,jH,j0,qNd (show i<1000000 by omega),Bool.false_and]
   rw[ih]
   cases(before.drop (i+1)).findIdx? (fun d=>d.1==qNu y1.2.2.1&&decide (d.2.1=o4.2.2.2.2.2.1)) with
   |none=>rfl
   |some j=>simp only[kV];rw[show i+1+j=i+(j+1) by omega]
theorem qZr(h:OkT ts){before:List Dl}{i:Nat}{a:Nat×Dl}(hi:i<ts.length)(h1:qSn ts before i= .inr a):i<a.1∧a.1<ts.length∧before.length≠64:=by
 unfold qSn at h1
 dsimp only at h1
 split at h1
 ·cases h1
 rename_i k1
 split at h1
 ·cases h1
 rename_i k2
 have g:=h.next hi (show(tkAt ts i).1≠5 by intro e;apply k1;left;rw[e];decide)
 obtain⟨x,hx,h2⟩:=qDt h1
 have gx:x.1=i+1+1∧x.1<ts.length:=by
  split at hx
  ·obtain⟨rfl,g1,-⟩:=qOr h g hx;exact⟨rfl,g1⟩
  ·obtain⟨rfl,g1,-⟩:=qOc h g hx;exact⟨rfl,g1⟩
 split at h2
 ·cases h2
 obtain⟨y,hy,h3⟩:=qDt h2
 have gy:x.1≤y.1∧y.1<ts.length:=by
  split at hy
  ·obtain⟨g1,g2,-⟩:=qUi h gx.2 hy;exact⟨by omega,g2⟩
  ·obtain rfl:=Sum.inr.inj hy;exact⟨jV _,gx.2⟩
 obtain⟨j,hj,h4⟩:=qDt h3
 obtain⟨rfl,g3,-⟩:=qGh h gy.2 hj
 obtain⟨c,hc,h5⟩:=qDt h4
 obtain⟨⟨f1,f2,f3,f4⟩,-⟩:=qOs h 32 (y.1+1,[]) c.1 c.2 g3 (by simp) hc
 obtain⟨m,hm,h6⟩:=qDt h5
 obtain⟨rfl,g4,-⟩:=qGh h f2 hm
 obtain rfl:=Sum.inr.inj h6
 exact⟨by simp only at f1 ⊢;omega,g4,k2⟩
theorem zTo{before:List Dl}{f:Dl→Bool}:(decide ((match before.findIdx? f with|some j=>((0+j:Nat):Int)|none=> -1)≥0))=before.any f:=by
 have:=List.findIdx?_isSome (xs:=before) (p:=f)
 rw[←this]
 cases before.findIdx? f with
 |none=>rfl
 |some j=>simp only[Option.isSome_some];exact jZ (by omega)
end
end
section
open Go Go.Dc
section
variable {N:Nat} {ts:List Tok} {pr:List ByteArray} {b:List Ex}
theorem zVk(hok:OkT ts)(hl:ts.length<1000000)(hN:1000001<N)(ht:∀j,(tkAt ts j).2.1.size<100000){before:List Dl}(hb:before.length≤64){i:Nat}(hi:i<ts.length):
  qKz N (ts,(i:Int),pr,b) before=some (Sum.map id (fun a:Nat×Dl=>((ts,(a.1:Int),a.2.2.2.1,a.2.2.2.2),a.2)) (qSn ts before i)):=by
 have hw:=qNd (show i<1000000 by omega)
 unfold qKz
 obtain⟨mp1,hm1,hm⟩:=jN.1 zRi
 obtain⟨mp2,hm2,hm3⟩:=jN.1 hm
 rw[hm1];simp only[j0]
 rw[hm2];simp only[j0]
 rw[hm3];simp only[j0,qNj hi,zLe,qCi,qSn]
 by_cases k1:(tkAt ts i).1≠1∨qNu (tkAt ts i).2.1=0
 ·rw[if_pos k1]
  have:((if((tkAt ts i).1 !=1)=true then some true else some (qNu (tkAt ts i).2.1==0)):Option Bool)=some true:=by
   rcases k1 with h|h
   ·simp[h]
   ·simp[h]
  rw[this];rfl
 rw[if_neg k1]
 have k1a:(tkAt ts i).1=1:=by
  apply Decidable.byContradiction
  intro h;exact k1 (.inl h)
 have k1b:¬qNu (tkAt ts i).2.1=0:=fun h=>k1 (.inr h)
 have:((if((tkAt ts i).1 !=1)=true then some true else some (qNu (tkAt ts i).2.1==0)):Option Bool)=some false:=by simp[k1a,k1b]
 rw[this]
 simp only[j0,jB,jH]
 by_cases k2:before.length=64
 ·rw[if_pos (show((before.length:Int)==64)=true by simp;omega),if_pos k2];rfl
 rw[if_neg (show ¬((before.length:Int)==64)=true by simp;omega),if_neg k2]
 have g:=hok.next hi (show(tkAt ts i).1≠5 by rw[k1a];decide)
 simp only[j0,hw]
 have hx:(if(qNu (tkAt ts i).2.1==3)=true then((qFn N (ts,((i+1:Nat):Int),pr,b)).bind fun y6=>(match y6 with| .inl z3=>some (.inr (.inl z3))| .inr y7=>some (.inl (y7.1.1,y7.1.2.1,y7.1.2.2.1,y7.1.2.2.2,y7.2.1,y7.2.2.1,y7.2.2.2.1,y7.2.2.2.2)))) else((qFl N (ts,((i+1:Nat):Int),pr,b)).bind fun y8=>(match y8 with| .inl z4=>some (.inr (.inl z4))| .inr y9=>some (.inl (y9.1.1,y9.1.2.1,y9.1.2.2.1,y9.1.2.2.2,y9.2.1,y9.2.2.1,y9.2.2.2.1,y9.2.2.2.2)))):Option ((List Tok×Int×List ByteArray×List Ex×Int×ByteArray×Int×Int)⊕(Flt⊕(StT×Dl))))=
   some (match(if qNu (tkAt ts i).2.1=3 then qQh ts (i+1) else qOa ts (i+1)) with| .inl z=> .inr (.inl z)| .inr a=> .inl (ts,(a.1:Int),pr,b,a.2.1,a.2.2.1,a.2.2.2.1,a.2.2.2.2)):=by
  by_cases k3:qNu (tkAt ts i).2.1=3
  ·rw[if_pos (show(qNu (tkAt ts i).2.1==3)=true by simpa using k3),if_pos k3,zDt g hl (by omega) ht]
   cases qQh ts (i+1)<;>rfl
  ·rw[if_neg (show ¬(qNu (tkAt ts i).2.1==3)=true by simpa using k3),if_neg k3,zEs g hl]
   cases qOa ts (i+1)<;>rfl
 refine Eq.trans (congrArg (fun z=>Option.bind z _) hx) ?_
 simp only[j0]
 cases hX:(if qNu (tkAt ts i).2.1=3 then qQh ts (i+1) else qOa ts (i+1)) with
 |inl z=>rfl
 |inr x=>
  have gx:x.1=i+1+1∧x.1<ts.length:=by
   split at hX
   ·obtain⟨rfl,g1,-⟩:=qOr hok g hX;exact⟨rfl,g1⟩
   ·obtain⟨rfl,g1,-⟩:=qOc hok g hX;exact⟨rfl,g1⟩
  simp only[qBq]
  have hT:=zCg (N:=N) (before:=before) (y1:=((ts,(i:Int),pr,b),tkAt ts i)) (o4:=(ts,(x.1:Int),pr,b,x.2.1,x.2.2.1,x.2.2.2.1,x.2.2.2.2)) hb before.length 0 N (by omega) (by omega)
  simp only[k0] at hT
  refine Eq.trans (congrArg (fun z=>Option.bind z _) hT) ?_
  simp only[j0,zTo]
  rcases qEl (before.any fun d=>d.1==qNu (tkAt ts i).2.1&&decide (d.2.1=x.2.2.1)) with k4|k4
  ·simp only[k4,jK];rfl
  simp only[k4,jB,jH,j0]
  have hp:(if(qNu (tkAt ts i).2.1==1)=true then((qFt N (ts,(x.1:Int),pr,b)).bind fun y12=>(match y12 with| .inl z6=>some (.inr (.inl z6))| .inr y13=>some (.inl (y13.2,y13.1.1,y13.1.2.1,y13.1.2.2.1,y13.1.2.2.2)))) else(some (.inl (([]:List (ByteArray)),ts,(x.1:Int),pr,b))):Option ((List ByteArray×StT)⊕(Flt⊕(StT×Dl))))=
    some (match(if qNu (tkAt ts i).2.1=1 then qIf ts x.1 else .inr (x.1,[])) with| .inl z=> .inr (.inl z)| .inr a=> .inl (a.2,ts,(a.1:Int),pr,b)):=by
   by_cases k5:qNu (tkAt ts i).2.1=1
   ·rw[if_pos (show(qNu (tkAt ts i).2.1==1)=true by simpa using k5),if_pos k5,zEc hok hl (by omega) gx.2]
    cases qIf ts x.1<;>rfl
   ·rw[if_neg (show ¬(qNu (tkAt ts i).2.1==1)=true by simpa using k5),if_neg k5]
  refine Eq.trans (congrArg (fun z=>Option.bind z _) hp) ?_
  simp only[j0]
  cases hY:(if qNu (tkAt ts i).2.1=1 then qIf ts x.1 else .inr (x.1,[]):Flt⊕(Nat×List ByteArray)) with
  |inl z=>rfl
  |inr y=>
   have gy:x.1≤y.1∧y.1<ts.length∧y.2.length≤8:=by
    split at hY
    ·obtain⟨g1,g2,g3⟩:=qUi hok gx.2 hY;exact⟨by omega,g2,g3⟩
    ·obtain rfl:=Sum.inr.inj hY;exact⟨jV _,gx.2,by simp⟩
   simp only[qQf gy.2.1 hl,j0,sEq]
   cases hj:qEx ts ⟨#[61]⟩ y.1 with
   |inl z=>rfl
   |inr j=>
    obtain⟨rfl,g3,-⟩:=qGh hok gy.2.1 hj
    have he:=zUs (N:=N) (pr:=y.2) hok hl (by omega) hN ht (y.1+1,[]) g3 (by simp)
    simp only at he
    simp only[kM,he,j0]
    cases hc:qEb ts y.2 32 (y.1+1,[]) with
    |inl z=>rfl
    |inr c=>
     obtain⟨⟨f1,f2,f3,f4⟩,-⟩:=qOs hok 32 (y.1+1,[]) c.1 c.2 g3 (by simp) hc
     simp only[outP,kM,stP,qQf f2 hl,j0,qTw]
     cases qEx ts ⟨#[59]⟩ c.1.1<;>rfl
theorem qYs(hok:OkT ts)(hl:ts.length<1000000)(hN:1000000<N){y4:StT×Tok}:∀(n M:Nat) (l:List ByteArray) (i:Nat),i<ts.length→l.length≤8→ts.length<i+n→ts.length<i+M→
  qAt (qJd N y4) M (ts,(i:Int),pr,b,l)=some (match qKs ts y4.2.2.1 n l i with| .inl z=> .inr (.inl z)| .inr a=> .inl (ts,(a.1:Int),pr,b,a.2))
 |0,M,l,i,hi,_,h,_=>by omega
 |n+1,0,l,i,hi,_,_,h=>by omega
 |n+1,M+1,l,i,hi,hll,hn,hM=>by
  have hw:=qNd (show i<1000000 by omega)
  simp only[qAt,qJd,qKs,zMk hi,j0,qRt]
  rcases qEl (isC ts 1 ⟨#[105,109,112,111,114,116]⟩ i) with k1|k1
  rotate_left
  ·simp only[k1,jB,jH,j0]
  have g:=qFv hok hi (by decide) k1
  simp only[k1,jK]
  by_cases k2:l.length=8
  ·rw[if_pos (show((l.length:Int)==8)=true by simp;omega),if_pos k2]
   simp only[qNj hi,j0,qCi];rfl
  rw[if_neg (show ¬((l.length:Int)==8)=true by simp;omega),if_neg k2]
  simp only[j0,hw,zEs g hl]
  cases hx:qOa ts (i+1) with
  |inl z=>rfl
  |inr x=>
   obtain⟨rfl,g1,-⟩:=qOc hok g hx
   simp only[kM,qBq,qCi,j0,qEd,zAq (N:=N) (l:=l) (s:=(tkAt ts (i+1)).2.1) (by omega) (by omega)]
   by_cases k3:(tkAt ts (i+1)).2.1=y4.2.2.1∨(tkAt ts (i+1)).2.1∈l
   ·rw[if_pos k3]
    have:((if decide ((tkAt ts (i+1)).2.1=y4.2.2.1)=true then some true else some (decide ((tkAt ts (i+1)).2.1∈l))):Option Bool)=some true:=by
     rcases k3 with h|h
     ·rw[if_pos (jZ h)]
     ·rw[jZ h];split<;>rfl
    rw[this];rfl
   rw[if_neg k3]
   have:((if decide ((tkAt ts (i+1)).2.1=y4.2.2.1)=true then some true else some (decide ((tkAt ts (i+1)).2.1∈l))):Option Bool)=some false:=by
    rw[if_neg (by simp only[jA];exact fun h=>k3 (.inl h)),jX (fun h=>k3 (.inr h))]
   rw[this]
   simp only[j0,jB,jH]
   rw[qDm (by simp only[jD,jF];omega) (by omega)]
   simp only[j0,qQf g1 hl,qTw]
   cases hj:qEx ts ⟨#[59]⟩ (i+1+1) with
   |inl z=>rfl
   |inr j=>
    obtain⟨rfl,g2,-⟩:=qGh hok g1 hj
    exact qYs hok hl hN n M _ (i+1+1+1) g2 (by simp only[jC,jD,jF];omega) (by omega) (by omega)
theorem qUw(h:OkT ts){pkg:ByteArray}:∀(n:Nat) (l:List ByteArray) (i:Nat) (a:Nat×List ByteArray),i<ts.length→l.length≤8→qKs ts pkg n l i= .inr a→i≤a.1∧a.1<ts.length∧a.2.length≤8
 |0,_,_,_,_,_,h1=>by cases h1
 |n+1,l,i,a,hi,hl,h1=>by
  unfold qKs at h1
  split at h1
  ·rename_i k
   have g:=qFv h hi (by decide) k
   split at h1
   ·cases h1
   rename_i k2
   obtain⟨x,hx,h2⟩:=qDt h1
   obtain⟨rfl,g1,-⟩:=qOc h g hx
   split at h2
   ·cases h2
   obtain⟨j,hj,h3⟩:=qDt h2
   obtain⟨rfl,g2,-⟩:=qGh h g1 hj
   obtain⟨j1,j2,j3⟩:=qUw h n _ _ a g2 (by simp only[jC,jD,jF];omega) h3
   exact⟨by omega,j2,j3⟩
  ·obtain rfl:=Sum.inr.inj h1
   exact⟨jV _,hi,hl⟩
theorem zCe(hok:OkT ts)(hl:ts.length<1000000)(hN:1000001<N)(ht:∀j,(tkAt ts j).2.1.size<100000):∀(n M:Nat) (l:List Dl) (i:Nat) (pr:List ByteArray) (b:List Ex),i<ts.length→l.length≤64→ts.length<i+n→ts.length<i+M→
  match qUu ts n l i with
  | .inl z=>qAt (qEr N) M (ts,(i:Int),pr,b,l)=some (.inr (.inl z))
  | .inr a=>∃i' pr' b',qAt (qEr N) M (ts,(i:Int),pr,b,l)=some (.inl (ts,i',pr',b',a))
 |0,M,l,i,_,_,hi,_,h,_=>by omega
 |n+1,0,l,i,_,_,hi,_,_,h=>by omega
 |n+1,M+1,l,i,pr,b,hi,hll,hn,hM=>by
  have e1:qAt (qEr N) (M+1) (ts,(i:Int),pr,b,l)=(if(tkAt ts i).1=5 then some (.inl (ts,(i:Int),pr,b,l)) else
    match qSn ts l i with
    | .inl z=>some (.inr (.inl z))
    | .inr a=>qAt (qEr N) M (ts,(a.1:Int),a.2.2.2.1,a.2.2.2.2,l++[a.2])):=by
   simp only[qAt,qEr,qNj hi,j0,zVk hok hl hN ht hll hi]
   by_cases k1:(tkAt ts i).1=5
   ·rw[if_neg (show ¬((tkAt ts i).1 !=5)=true by simpa using k1),if_pos k1];rfl
   ·rw[if_pos (show((tkAt ts i).1 !=5)=true by simpa using k1),if_neg k1]
    cases hd:qSn ts l i with
    |inl z=>rfl
    |inr a=>
     obtain⟨g1,g2,g3⟩:=qZr hok hi hd
     simp only[kM]
     rw[qDm (by simp only[jD,jF];omega) (by omega)]
     rfl
  rw[e1]
  simp only[qUu]
  by_cases k1:(tkAt ts i).1=5
  ·simp only[if_pos k1];exact⟨_,_,_,rfl⟩
  ·simp only[if_neg k1]
   cases hd:qSn ts l i with
   |inl z=>rfl
   |inr a=>
    obtain⟨g1,g2,g3⟩:=qZr hok hi hd
    exact zCe hok hl hN ht n M (l++[a.2]) a.1 _ _ g2 (by simp only[jC,jD,jF];omega) (by omega) (by omega)
theorem zUg(hok:OkT ts)(hl:ts.length<1000000)(hN:1000001<N)(ht:∀j,(tkAt ts j).2.1.size<100000):
  match zDg ts with
  | .inl z=>qJg N (ts,0,pr,b)=some (.inl z)
  | .inr f=>∃i' pr' b',qJg N (ts,0,pr,b)=some (.inr ((ts,i',pr',b'),f)):=by
 have h0:0<ts.length:=fC.2 hok.1
 simp only[qJg,zDg]
 rw[show(0:Int)=((0:Nat):Int) from rfl]
 simp only[zJd h0 hl,j0,qVq]
 cases h1:qWh ts ⟨#[112,97,99,107,97,103,101]⟩ 0 with
 |inl z=>rfl
 |inr i=>
  obtain⟨rfl,g1,-⟩:=qXa hok h0 h1
  simp only[kM,qBq,zEs g1 hl,j0]
  cases h2:qOa ts (0+1) with
  |inl z=>rfl
  |inr x=>
   obtain⟨rfl,g2,-⟩:=qOc hok g1 h2
   simp only[kM,qQf g2 hl,j0,qTw]
   cases h3:qEx ts ⟨#[59]⟩ (0+1+1) with
   |inl z=>rfl
   |inr j=>
    obtain⟨rfl,g3,-⟩:=qGh hok g2 h3
    simp only[kM,qYs hok hl (by omega:1000000<N) (ts.length+1) N [] (0+1+1+1) g3 (by simp) (by omega) (by omega),j0]
    cases h4:qKs ts (tkAt ts (0+1)).2.1 (ts.length+1) [] (0+1+1+1) with
    |inl z=>rfl
    |inr y=>
     obtain⟨k1,k2,k3⟩:=qUw hok _ _ _ y g3 (by simp) h4
     have hd:=zCe (N:=N) hok hl hN ht (ts.length+1) N [] y.1 pr b k2 (by simp) (by omega) (by omega)
     simp only[]
     cases h5:qUu ts (ts.length+1) [] y.1 with
     |inl z=>
      rw[h5] at hd
      simp only[hd,j0]
     |inr l=>
      rw[h5] at hd
      obtain⟨i',pr',b',hd⟩:=hd
      refine⟨i',pr',b',?_⟩
      simp only[hd,j0]
end
theorem zKh{s:ByteArray}:∀(l:List Tok) (e:Int),0≤e→zTy s e l→∀i,i<l.length→((tkAt l i).1=5↔i+1=l.length)∧((tkAt l i).2.1.size:Int)≤s.size∧0≤(tkAt l i).2.2.2
 |[],_,_,_,i,hi=>by simp at hi
 |t::r,e,he,h,i,hi=>by
  obtain⟨h1,h2,h3,h4,h5⟩:=h
  have hend:0≤endT t:=by unfold endT;split<;>omega
  cases i with
  |zero=>
   refine⟨?_,?_,?_⟩
   ·show t.1=5↔0+1=r.length+1
    rw[h3,←kW];omega
   ·show((t.2.1.size:Nat):Int)≤s.size
    omega
   ·show 0≤t.2.2.2
    omega
  |succ i=>
   have:=zKh r _ hend h5 i (by simpa using hi)
   have e:tkAt (t::r) (i+1)=tkAt r i:=by simp[tkAt]
   rw[e,jD]
   exact⟨⟨fun h=>by have:=this.1.1 h;omega,fun h=>this.1.2 (by omega)⟩,this.2⟩
theorem zCr{s:ByteArray}(h:(qJo s).2.2=0):OkT (qJo s).1∧(qJo s).1.length≤16385∧∀j,(tkAt (qJo s).1 j).2.1.size<100000:=by
 unfold qJo at h ⊢
 split at h
 ·simp at h
 rename_i hs
 rw[if_neg hs]
 cases hG:tokG (s.data.toList.length+1) s 0 with
 |inl x=>
  obtain⟨_,_,h3⟩:=zEn _ 0 x (by omega) (by omega) hG
  rw[hG] at h
  exact absurd h h3
 |inr r=>
  obtain⟨g1,g2,g3⟩:=qXt _ 0 0 r (by omega) (by omega) (by omega) hG
  simp only[zBw,jQ]
  have hc:=zKh r 0 (by omega) g1
  refine⟨⟨g2,fun i hi=>(hc i hi).1⟩,by omega,fun j=> ?_⟩
  rcases hH j r.length with hj|hj
  ·have:=(hc j hj).2.1
   have hs2:=qCn s
   omega
  ·have e:tkAt r j=(5,⟨#[]⟩,0,0):=by simp[tkAt,k9,List.getElem?_eq_none hj]
   rw[e];decide
theorem zQl{N:Nat}(s:ByteArray)(hN:1000001<N):qNr N s=some (qVz s):=by
 simp only[qNr,zNn (N:=N) (by omega),j0,qVz]
 by_cases h:(qJo s).2.2=0
 ·rw[if_neg (show ¬((qJo s).2.2 !=0)=true by simpa using h),if_neg (show ¬(qJo s).2.2≠0 by simpa using h)]
  obtain⟨h1,h2,h3⟩:=zCr h
  have hf:=zUg (N:=N) (pr:=[]) (b:=[]) h1 (by omega) hN h3
  cases hF:zDg (qJo s).1 with
  |inl z=>
   rw[hF] at hf
   simp only[hf,j0];rfl
  |inr f=>
   rw[hF] at hf
   obtain⟨i',pr',b',hf⟩:=hf
   simp only[hf,j0]
 ·rw[if_pos (show((qJo s).2.2 !=0)=true by simpa using h),if_pos h];rfl
end
section
open Go Go.Dc
abbrev RT:=List Tok×Int×Int×Int×List ByteArray×List Ex×List Int
def gR(ts:List Tok)(pr:List ByteArray)(p:Ps):RT:=(ts,(p.1:Int),0,0,pr,p.2,[])
def bR(ts:List Tok)(z:Flt)(i:Nat)(pr:List ByteArray)(b:List Ex):RT:=(ts,(i:Int),z.1,z.2,pr,b,[])
section
variable {N:Nat} {ts:List Tok} {pr:List ByteArray} {b:List Ex} {i:Nat} {z:Flt}
theorem rnow{st:Int×Int×List ByteArray×List Ex×List Int}(hi:i<ts.length):qAm N (ts,(i:Int),st.1,st.2.1,st.2.2.1,st.2.2.2.1,st.2.2.2.2)=some ((ts,(i:Int),st.1,st.2.1,st.2.2.1,st.2.2.2.1,st.2.2.2.2),tkAt ts i):=by
 simp only[qAm,zTn hi,j0]
theorem qLi(p:Ps)(hi:p.1<ts.length):qAm N (gR ts pr p)=some (gR ts pr p,tkAt ts p.1):=rnow (st:=(0,0,pr,p.2,[])) hi
theorem qRm(hi:i<ts.length):qAm N (bR ts z i pr b)=some (bR ts z i pr b,tkAt ts i):=rnow (st:=(z.1,z.2,pr,b,[])) hi
theorem qNn(p:Ps)(hi:p.1<ts.length)(hl:ts.length<1000000)(s:ByteArray):qBo N (gR ts pr p) s=some (if isC ts 1 s p.1 then(gR ts pr (p.1+1,p.2),true) else(gR ts pr p,false)):=by
 have h0:qAm N (ts,(p.1:Int),0,0,pr,p.2,[])=some ((ts,(p.1:Int),0,0,pr,p.2,[]),tkAt ts p.1):=qLi p hi
 simp only[qBo,gR,h0,j0,qEd,isC,kX,jK]
 by_cases h1:(tkAt ts p.1).1=1<;>by_cases h2:(tkAt ts p.1).2.1=s<;>simp[h1,h2,qNd (show p.1<1000000 by omega)]
theorem zJe(hz:z.2≠0)(s:ByteArray):qBo N (bR ts z i pr b) s=some (bR ts z i pr b,false):=by
 simp[qBo,bR,hz]
theorem qMi(p:Ps)(hi:p.1<ts.length)(hl:ts.length<1000000)(s:ByteArray):qBm N (gR ts pr p) s=some (if isC ts 4 s p.1 then(gR ts pr (p.1+1,p.2),true) else(gR ts pr p,false)):=by
 have h0:qAm N (ts,(p.1:Int),0,0,pr,p.2,[])=some ((ts,(p.1:Int),0,0,pr,p.2,[]),tkAt ts p.1):=qLi p hi
 simp only[qBm,gR,h0,j0,qEd,isC,kX,jK]
 by_cases h1:(tkAt ts p.1).1=4<;>by_cases h2:(tkAt ts p.1).2.1=s<;>simp[h1,h2,qNd (show p.1<1000000 by omega)]
theorem zEm(hz:z.2≠0)(s:ByteArray):qBm N (bR ts z i pr b) s=some (bR ts z i pr b,false):=by
 simp[qBm,bR,hz]
theorem qLv(p:Ps)(a e:Int):qAn N (gR ts pr p) a e=some (bR ts (a,e) p.1 pr p.2):=by
 simp[qAn,gR,bR]
theorem qPb(hz:z.2≠0)(a e:Int):qAn N (bR ts z i pr b) a e=some (bR ts z i pr b):=by
 simp[qAn,bR,hz]
theorem qPp(p:Ps)(hi:p.1<ts.length)(hl:ts.length<1000000)(s:ByteArray):qAj N (gR ts pr p) s=some (match qEx ts s p.1 with| .inl z=>bR ts z p.1 pr p.2| .inr j=>gR ts pr (j,p.2)):=by
 have h1:=qMi (N:=N) (pr:=pr) p hi hl s
 have h2:=qLi (N:=N) (pr:=pr) p hi
 have h3:=qLv (N:=N) (ts:=ts) (pr:=pr) p (tkAt ts p.1).2.2.2 9
 simp only[gR] at h1 h2 h3
 simp only[qAj,gR,h1,j0,qEx]
 rcases qEl (isC ts 4 s p.1) with h|h
 ·simp only[h,jK,kQ,jB,jH]
 ·simp only[h,jK,kJ,jB,jH,h2,j0,h3,qHl]
theorem qOd(hz:z.2≠0)(hi:i<ts.length)(s:ByteArray):qAj N (bR ts z i pr b) s=some (bR ts z i pr b):=by
 have h1:=zEm (N:=N) (ts:=ts) (i:=i) (pr:=pr) (b:=b) hz s
 have h2:=qRm (N:=N) (ts:=ts) (i:=i) (pr:=pr) (b:=b) (z:=z) hi
 have h3:=qPb (N:=N) (ts:=ts) (i:=i) (pr:=pr) (b:=b) hz (tkAt ts i).2.2.2 9
 simp only[bR] at h1 h2 h3
 simp only[qAj,bR,h1,j0,kJ,jK,h2,h3]
theorem zGd{s:ByteArray}:∀(d k M:Nat),k+d=wordsR.length→d<M→qAt (qEi N s) M (k:Int)=some (if s∈wordsR.drop k then .inr true else .inl ())
 |d,k,0,_,h=>by omega
 |0,k,M+1,h,_=>by
  have:wordsR.drop k=[]:=jT (by omega)
  simp only[qAt,qEi,this]
  rw[if_neg (by simp only[jA];have:wordsR.length=13:=rfl;simp only[jD,jF];omega)]
  rfl
 |d+1,k,M+1,h,hM=>by
  have hk:k<wordsR.length:=by omega
  have ih:=zGd (s:=s) d (k+1) M (by omega) (by omega)
  simp only[qAt]
  have e:qEi N s (k:Int)=some (if s=wordsR[k] then .inr (.inr true) else .inl (((k+1:Nat):Int))):=by
   have h13:wordsR.length=13:=rfl
   have hx:idx ([(⟨#[112,97,99,107,97,103,101]⟩:ByteArray),(⟨#[105,109,112,111,114,116]⟩:ByteArray),(⟨#[102,117,110,99]⟩:ByteArray),(⟨#[116,101,115,116]⟩:ByteArray),(⟨#[103,101,110]⟩:ByteArray),(⟨#[105,102]⟩:ByteArray),(⟨#[116,104,101,110]⟩:ByteArray),(⟨#[101,108,115,101]⟩:ByteArray),(⟨#[114,101,97,100]⟩:ByteArray),(⟨#[115,105,122,101]⟩:ByteArray),(⟨#[104,97,115]⟩:ByteArray),(⟨#[101,110,118]⟩:ByteArray),(⟨#[102,108,105,112]⟩:ByteArray)]) (k:Int)=some wordsR[k]:=qDn (l:=wordsR) hk
   simp only[qEi]
   rw[if_pos (by simp only[jA,jD,jF];omega),hx]
   simp only[j0,qEd,jA,qNd (show k<1000000 by omega)]
   split<;>rfl
  rw[e,jU hk]
  simp only[j0,jR]
  by_cases hs:s=wordsR[k]
  ·rw[if_pos hs,if_pos (.inl hs)]
  ·rw[if_neg hs]
   simp only[ih]
   by_cases h2:s∈wordsR.drop (k+1)
   ·rw[if_pos h2,if_pos (.inr h2)]
   ·rw[if_neg h2,if_neg (fun h=>h.elim hs h2)]
theorem rres(hN:100<N)(s:ByteArray):qHg N s=some (resC s):=by
 have h:=zGd (N:=N) (s:=s) 13 0 N rfl (by omega)
 simp only[k0] at h
 simp only[qHg]
 rw[show(0:Int)=((0:Nat):Int) from rfl,h]
 simp only[resC,j0]
 by_cases h2:s∈wordsR
 ·rw[if_pos h2,jZ h2]
 ·rw[if_neg h2,jX h2]
theorem qXv(p:Ps)(hi:p.1<ts.length)(hl:ts.length<1000000)(hN:100<N):qBf N (gR ts pr p)=some (match qOa ts p.1 with| .inl z=>(bR ts z p.1 pr p.2,⟨#[]⟩)| .inr a=>(gR ts pr (a.1,p.2),a.2.2.1)):=by
 have h2:=qLi (N:=N) (pr:=pr) p hi
 have h3:=qLv (N:=N) (ts:=ts) (pr:=pr) p (tkAt ts p.1).2.2.2 9
 simp only[gR] at h2 h3
 simp only[qBf,gR,h2,j0,rres hN,qOa,qNv,dB,jB,jH]
 by_cases k1:(tkAt ts p.1).1=1
 ·have k1':((tkAt ts p.1).1 !=1)=false:=by simp[k1]
  simp only[k1',jB,jH,j0,if_pos k1,qBq]
  rcases qEl (resC (tkAt ts p.1).2.1) with k2|k2
  ·simp only[k2,jK,h3,j0,qHl]
  ·simp only[k2,jB,jH,qNd (show p.1<1000000 by omega)]
 ·have k1':((tkAt ts p.1).1 !=1)=true:=by simp[k1]
  simp only[k1',jK,j0,if_neg k1,qBq,h3,qHl]
theorem zDp(hz:z.2≠0)(hi:i<ts.length):qBf N (bR ts z i pr b)=some (bR ts z i pr b,⟨#[]⟩):=by
 have h2:=qRm (N:=N) (ts:=ts) (i:=i) (pr:=pr) (b:=b) (z:=z) hi
 have h3:=qPb (N:=N) (ts:=ts) (i:=i) (pr:=pr) (b:=b) hz (tkAt ts i).2.2.2 9
 have hz':(z.2 !=0)=true:=by simpa using hz
 simp only[bR] at h2 h3
 simp only[qBf,bR,h2,j0,hz',jK,h3]
theorem zAo(p:Ps)(hi:p.1<ts.length)(hl:ts.length<1000000):qCq N (gR ts pr p)=some (match qNv ts 2 p.1 with| .inl z=>(bR ts z p.1 pr p.2,0)| .inr a=>(gR ts pr (a.1,p.2),a.2.2.2.1)):=by
 have h2:=qLi (N:=N) (pr:=pr) p hi
 have h3:=qLv (N:=N) (ts:=ts) (pr:=pr) p (tkAt ts p.1).2.2.2 9
 simp only[gR] at h2 h3
 simp only[qCq,gR,h2,j0,qNv,dB,jB,jH]
 by_cases k1:(tkAt ts p.1).1=2
 ·have k1':((tkAt ts p.1).1 !=2)=false:=by simp[k1]
  simp only[k1',jB,jH,if_pos k1,qNd (show p.1<1000000 by omega)]
 ·have k1':((tkAt ts p.1).1 !=2)=true:=by simp[k1]
  simp only[k1',jK,if_neg k1,h3,j0,qHl]
theorem zQg(hz:z.2≠0)(hi:i<ts.length):qCq N (bR ts z i pr b)=some (bR ts z i pr b,0):=by
 have h2:=qRm (N:=N) (ts:=ts) (i:=i) (pr:=pr) (b:=b) (z:=z) hi
 have h3:=qPb (N:=N) (ts:=ts) (i:=i) (pr:=pr) (b:=b) hz (tkAt ts i).2.2.2 9
 have hz':(z.2 !=0)=true:=by simpa using hz
 simp only[bR] at h2 h3
 simp only[qCq,bR,h2,j0,hz',jK,h3]
theorem zNj(t:Tok)(x:Ex)(p:Ps)(hb:p.2.length≤256):∃v,qAo N (gR ts pr p) x t.2.2.2=some (match qLp t x p with| .inl z=>(bR ts z p.1 pr p.2,v)| .inr q=>(gR ts pr q.1,(q.2:Int))):=by
 refine⟨IntKind.wrap .i64 ((p.2.length:Int)-1),?_⟩
 have h3:=qLv (N:=N) (ts:=ts) (pr:=pr) p t.2.2.2 2
 simp only[gR] at h3
 simp only[qAo,gR,kX,jK,j0,qLp]
 by_cases k1:p.2.length=256
 ·have k1':((p.2.length:Int)==256)=true:=by simp;omega
  simp only[k1',jK,h3,j0,bR]
  simp[k1,qHl]
 ·have k1':((p.2.length:Int)==256)=false:=by simp;omega
  have hw:IntKind.wrap .i64 (((p.2.length+1:Nat):Int)-1)=(p.2.length:Int):=by rw[wi64 (by omega) (by omega)];omega
  simp only[k1',jB,jH,j0,if_neg k1,kX,jK]
  rw[qDm (by simp only[jD,jF];omega) (by omega)]
  simp only[j0,jC,jD,jF,kK,hw]
theorem zOg(hz:z.2≠0)(x:Ex)(a:Int):∃v,qAo N (bR ts z i pr b) x a=some (bR ts z i pr b,v):=by
 refine⟨IntKind.wrap .i64 ((b.length:Int)-1),?_⟩
 have hz':(z.2==0)=false:=by simpa using hz
 simp only[qAo,bR,hz',jB,jH,j0]
end
end
section
open Go Go.Dc
section
variable {N:Nat} {ts:List Tok} {pr:List ByteArray} {b:List Ex} {i:Nat} {z:Flt}
theorem zJq(p:Ps)(hi:p.1<ts.length)(hl:ts.length<1000000)(hN:100<N)(pth:Bool):qBt N (gR ts pr p) pth=some (match(if pth=true then qQh ts p.1 else qWc ts p.1) with| .inl z=>(bR ts z p.1 pr p.2,⟨#[]⟩)| .inr a=>(gR ts pr (a.1,p.2),a.2.2.1)):=by
 have h2:=qLi (N:=N) (pr:=pr) p hi
 have h3:=qLv (N:=N) (ts:=ts) (pr:=pr) p (tkAt ts p.1).2.2.2 9
 simp only[gR] at h2 h3
 simp only[qBt,gR,h2,j0,qXs hN,qYc hN,qQh,qWc,qNv,dB,jB,jH]
 by_cases k1:(tkAt ts p.1).1=3
 ·have k1':((tkAt ts p.1).1 !=3)=false:=by simp[k1]
  simp only[k1',jB,jH,j0,if_pos k1,qBq]
  cases pth with
  |true=>
   simp only[jK,kQ,jB,jH]
   rcases qEl (qNe (tkAt ts p.1).2.1.data.toList) with k2|k2
   ·simp only[k2,kQ,jB,jH,j0,jK,qNd (show p.1<1000000 by omega)]
   ·simp only[k2,kJ,jB,jH,j0,jK,h3,qHl]
  |false=>
   simp only[jK,kJ,jB,jH]
   rcases qEl (qPo (tkAt ts p.1).2.1) with k2|k2
   ·simp only[k2,kQ,jB,jH,j0,jK,qNd (show p.1<1000000 by omega)]
   ·simp only[k2,kJ,jB,jH,j0,jK,h3,qHl]
 ·have k1':((tkAt ts p.1).1 !=3)=true:=by simp[k1]
  simp only[k1',jK,j0,if_neg k1,qBq,h3,qHl]
  cases pth<;>rfl
theorem zHr(hz:z.2≠0)(hi:i<ts.length)(pth:Bool):qBt N (bR ts z i pr b) pth=some (bR ts z i pr b,⟨#[]⟩):=by
 have h2:=qRm (N:=N) (ts:=ts) (i:=i) (pr:=pr) (b:=b) (z:=z) hi
 have h3:=qPb (N:=N) (ts:=ts) (i:=i) (pr:=pr) (b:=b) hz (tkAt ts i).2.2.2 9
 have hz':(z.2 !=0)=true:=by simpa using hz
 simp only[bR] at h2 h3
 simp only[qBt,bR,h2,j0,hz',jK,h3]
theorem zNs{i:Nat}(h:i<2000000):IntKind.wrap .i64 ((i:Int)+1)=((i+1:Nat):Int):=by rw[wi64 (by omega) (by omega)];omega
theorem zFo{s:ByteArray}{l:List ByteArray}(hl:l.length<2000000):∀(d i M:Nat),i+d=l.length→d<M→
  qAt (qIh N l s) M (i:Int)=some (if s∈l.drop i then .inr true else .inl ())
 |d,i,0,_,h=>by omega
 |0,i,M+1,h,_=>by
  have:l.drop i=[]:=jT (by omega)
  simp only[qAt,qIh,this]
  rw[if_neg (by simp only[jA];omega)]
  rfl
 |d+1,i,M+1,h,hM=>by
  have hi:i<l.length:=by omega
  have ih:=zFo (s:=s) hl d (i+1) M (by omega) (by omega)
  simp only[qAt,qIh]
  rw[if_pos (by simp only[jA];omega),qDn hi,jU hi]
  simp only[j0,qEd,jA,jR]
  by_cases hs:l[i]=s
  ·rw[if_pos hs,if_pos (.inl hs.symm)];rfl
  ·rw[if_neg hs]
   simp only[j0,zNs (show i<2000000 by omega),ih]
   by_cases h2:s∈l.drop (i+1)
   ·rw[if_pos h2,if_pos (.inr h2)]
   ·rw[if_neg h2,if_neg (fun h=>h.elim (fun e=>hs e.symm) h2)]
theorem rhas{s:ByteArray}{l:List ByteArray}(hl:l.length<2000000)(hN:l.length<N):qCy N l s=some (decide (s∈l)):=by
 have h:=zFo (N:=N) (s:=s) hl l.length 0 N (by omega) hN
 simp only[k0] at h
 simp only[qCy]
 rw[show(0:Int)=((0:Nat):Int) from rfl,h]
 simp only[j0]
 by_cases h2:s∈l
 ·rw[if_pos h2,jZ h2]
 ·rw[if_neg h2,jX h2]
theorem andS(a b:Bool):(if a=true then some b else some false)=some (a&&b):=by cases a<;>rfl
theorem qZs{s:ByteArray}{k:Int}{f:Sr}(hl:f.2.2.length<2000000):∀(d i M:Nat),i+d=f.2.2.length→d<M→
  qAt (qHc N f k s) M (i:Int)=some (if(f.2.2.drop i).any (fun d=>d.1==k&&decide (d.2.1=s))=true then .inr true else .inl ())
 |d,i,0,_,h=>by omega
 |0,i,M+1,h,_=>by
  have:f.2.2.drop i=[]:=jT (by omega)
  simp only[qAt,qHc,this]
  rw[if_neg (by simp only[jA];omega)]
  rfl
 |d+1,i,M+1,h,hM=>by
  have hi:i<f.2.2.length:=by omega
  have ih:=qZs (s:=s) (k:=k) hl d (i+1) M (by omega) (by omega)
  simp only[qAt,qHc]
  rw[if_pos (by simp only[jA];omega),qDn hi,jU hi,fH]
  simp only[j0,qEd,zNs (show i<2000000 by omega),andS]
  rcases qEl (f.2.2[i].1==k&&decide (f.2.2[i].2.1=s)) with h1|h1
  ·simp only[h1,jK,j0,Bool.true_or]
  ·simp only[h1,jB,jH,j0,ih,kT]
theorem zTk{s:ByteArray}{k:Int}{f:Sr}(hl:f.2.2.length<2000000)(hN:f.2.2.length<N):qEv N f k s=some (f.2.2.any fun d=>d.1==k&&decide (d.2.1=s)):=by
 have h:=qZs (N:=N) (s:=s) (k:=k) hl f.2.2.length 0 N (by omega) hN
 simp only[k0] at h
 simp only[qEv]
 rw[show(0:Int)=((0:Nat):Int) from rfl,h]
 simp only[j0]
 rcases qEl (f.2.2.any fun d=>d.1==k&&decide (d.2.1=s)) with h2|h2
 ·rw[if_pos h2,h2]
 ·rw[if_neg (by rw[h2];decide),h2]
theorem op_3:opC ts 3 i=if isC ts 4 ⟨#[42]⟩ i=true then 3 else if isC ts 4 ⟨#[47]⟩ i=true then 4 else if isC ts 4 ⟨#[37]⟩ i=true then 5 else 0:=by
 unfold opC opsC
 simp only[List.find?,isOp,levP]
 rcases qEl (isC ts 4 ⟨#[42]⟩ i) with h1|h1<;>rcases qEl (isC ts 4 ⟨#[47]⟩ i) with h2|h2<;>rcases qEl (isC ts 4 ⟨#[37]⟩ i) with h3|h3<;>simp[h1,h2,h3]
theorem op_2:opC ts 2 i=if isC ts 4 ⟨#[43]⟩ i=true then 1 else if isC ts 4 ⟨#[45]⟩ i=true then 2 else 0:=by
 unfold opC opsC
 simp only[List.find?,isOp,levP]
 rcases qEl (isC ts 4 ⟨#[43]⟩ i) with h1|h1<;>rcases qEl (isC ts 4 ⟨#[45]⟩ i) with h2|h2<;>simp[h1,h2]
theorem op_1:opC ts 1 i=if isC ts 4 ⟨#[60]⟩ i=true then 6 else if isC ts 4 ⟨#[61,61]⟩ i=true then 7 else 0:=by
 unfold opC opsC
 simp only[List.find?,isOp,levP]
 rcases qEl (isC ts 4 ⟨#[60]⟩ i) with h1|h1<;>rcases qEl (isC ts 4 ⟨#[61,61]⟩ i) with h2|h2<;>simp[h1,h2]
theorem qXw{α:Type}{t:Tok}{e:Int}(he:e≠0)(h:(qHl t e:Flt⊕α)= .inl z):z.2≠0:=by
 obtain rfl:=Sum.inl.inj h;exact he
theorem qNp{s:ByteArray}(h:qEx ts s i= .inl z):z.2≠0:=by
 unfold qEx at h;split at h
 ·cases h
 ·exact qXw (by decide) h
theorem zAx{k:Int}(h:qNv ts k i= .inl z):z.2≠0:=by
 unfold qNv at h;split at h
 ·cases h
 ·exact qXw (by decide) h
theorem zIr{α β:Type}{x:Flt⊕α}{f:α→Flt⊕β}(h:qBq x f= .inl z):x= .inl z∨∃a,x= .inr a∧f a= .inl z:=by
 cases x with
 |inl y=>obtain rfl:=Sum.inl.inj h;exact .inl rfl
 |inr a=>exact .inr ⟨a,rfl,h⟩
theorem zEj(h:qOa ts i= .inl z):z.2≠0:=by
 rcases zIr h with h|⟨a,_,h⟩
 ·exact zAx h
 ·split at h
  ·exact qXw (by decide) h
  ·cases h
theorem zDd(h:qQh ts i= .inl z):z.2≠0:=by
 rcases zIr h with h|⟨a,_,h⟩
 ·exact zAx h
 ·split at h
  ·cases h
  ·exact qXw (by decide) h
theorem zRy(h:qWc ts i= .inl z):z.2≠0:=by
 rcases zIr h with h|⟨a,_,h⟩
 ·exact zAx h
 ·split at h
  ·cases h
  ·exact qXw (by decide) h
theorem zJk{t:Tok}{x:Ex}{p:Ps}(h:qLp t x p= .inl z):z.2≠0:=by
 unfold qLp at h;split at h
 ·exact qXw (by decide) h
 ·cases h
end
end
section
open Go Go.Dc
def Bad(ts:List Tok)(z:Flt)(st:RT):Prop:=z.2≠0∧∃(i:Nat) (pr:List ByteArray) (b:List Ex),i<ts.length∧st=bR ts z i pr b
def relR(ts:List Tok)(pr:List ByteArray)(r:PM Nat)(o:RT×Int):Prop:=
 match r with
 | .inl z=>Bad ts z o.1
 | .inr q=>o=(gR ts pr q.1,(q.2:Int))
section
variable {N:Nat} {ts:List Tok} {pr:List ByteArray} {E S:Ps→PM Nat} {d:Int}
variable {r1 r2 r3 r4:RT→Int→Option (RT×Int)}
theorem qPg{z:Flt}{i:Nat}{pr':List ByteArray}{b:List Ex}{v:Int}(hz:z.2≠0)(hi:i<ts.length):relR ts pr (.inl z) (bR ts z i pr' b,v):=⟨hz,i,pr',b,hi,rfl⟩
theorem qSt(t:Tok)(x:Ex)(p:Ps)(hp:p.1<ts.length)(hb:p.2.length≤256):∃o,qAo N (gR ts pr p) x t.2.2.2=some o∧relR ts pr (qLp t x p) o:=by
 obtain⟨v,h⟩:=zNj (N:=N) (ts:=ts) (pr:=pr) t x p hb
 cases hn:qLp t x p with
 |inl z=>rw[hn] at h;exact⟨_,h,qPg (zJk hn) hp⟩
 |inr q=>rw[hn] at h;exact⟨_,h,rfl⟩
theorem qVl{z:Flt}{i:Nat}{pr':List ByteArray}{b:List Ex}(hz:z.2≠0)(hi:i<ts.length)(x:Ex)(a:Int):∃o,qAo N (bR ts z i pr' b) x a=some o∧relR ts pr (.inl z) o:=by
 obtain⟨v,h⟩:=zOg (N:=N) (ts:=ts) (pr:=pr') (b:=b) (i:=i) hz x a
 exact⟨_,h,qPg hz hi⟩
theorem qZz(t:Tok)(x:Ex)(p:Ps)(hok:OkT ts)(hl:ts.length<1000000)(hp:p.1<ts.length)(hb:p.2.length≤256):∃o,
  ((qAj N (gR ts pr p) (⟨#[41]⟩:ByteArray)).bind fun y=>qAo N y x t.2.2.2)=some o∧relR ts pr (qBq (qEx ts qEw p.1) fun i=>qLp t x (i,p.2)) o:=by
 have e:=qPp (N:=N) (pr:=pr) p hp hl ⟨#[41]⟩
 simp only[e,j0,qEw]
 cases h:qEx ts ⟨#[41]⟩ p.1 with
 |inl z=>exact qVl (qNp h) hp x _
 |inr j=>
  obtain⟨rfl,g,-⟩:=qGh hok hp h
  exact qSt t x (p.1+1,p.2) g hb
theorem qRa{z:Flt}{i:Nat}{pr':List ByteArray}{b:List Ex}(hz:z.2≠0)(hi:i<ts.length)(x:Ex)(a:Int):∃o,
  ((qAj N (bR ts z i pr' b) (⟨#[41]⟩:ByteArray)).bind fun y=>qAo N y x a)=some o∧relR ts pr (.inl z) o:=by
 simp only[qOd hz hi,j0]
 exact qVl hz hi x a
variable (hEg:∀p:Ps,p.1<ts.length→p.2.length≤256→∃o,r4 (gR ts pr p) (IntKind.wrap .i64 (d+1))=some o∧relR ts pr (E p) o)
variable (hEb:∀(z:Flt) (i:Nat) (pr':List ByteArray) (b:List Ex),z.2≠0→i<ts.length→∃v,r4 (bR ts z i pr' b) (IntKind.wrap .i64 (d+1))=some (bR ts z i pr' b,v))
def zKk(ts:List Tok)(E:Ps→PM Nat)(n:Nat)(l:List Int)(p:Ps):PM (List Int):=
 if isC ts 4 qOj p.1 then qYf ts E n l (p.1+1,p.2) else qBq (qEx ts qEw p.1) fun i=> .inr ((i,p.2),l)
theorem qZl(n:Nat)(l:List Int)(p:Ps):qYf ts E (n+1) l p=qBq (E p) fun q=>zKk ts E n (l++[(q.2:Int)]) q.1:=rfl
def relL(ts:List Tok)(pr:List ByteArray)(r:PM (List Int))(o:List Int×RT):Prop:=
 match r with
 | .inl z=>Bad ts z o.2
 | .inr q=>o=(q.2,gR ts pr q.1)
theorem zAi{z:Flt}{i:Nat}{pr':List ByteArray}{b:List Ex}(hz:z.2≠0)(M:Nat)(l:List Int):qAt (qCl N r4 d) (M+1) (l,bR ts z i pr' b)=some (l,bR ts z i pr' b):=by
 have hz':(z.2==0)=false:=by simpa using hz
 simp only[qAt,qCl,bR,hz',jB,jH,j0]
include hEg hEb in
theorem zCj(hok:OkT ts)(hl:ts.length<1000000)(hA:Adv ts E):∀(n M:Nat) (l:List Int) (p:Ps),l≠[]→p.1<ts.length→p.2.length≤256→l.length≤p.1→ts.length<p.1+n→ts.length+2<p.1+M→
  ∃o,qAt (qCl N r4 d) M (l,gR ts pr p)=some o∧relL ts pr (zKk ts E n l p) o
 |0,M,l,p,_,hp,_,_,h,_=>by omega
 |n+1,0,l,p,_,hp,_,_,_,h=>by omega
 |n+1,M+1,l,p,hne,hp,hb,hll,hn,hM=>by
  have hs:=qMi (N:=N) (pr:=pr) p hp hl ⟨#[41]⟩
  have hpos:decide ((l.length:Int)>0)=true:=by
   have:=fC.2 hne
   exact jZ (by omega)
  have g0:((gR ts pr p).2.2.2.1==0)=true:=rfl
  simp only[qAt,qCl,Prod.eta,g0,jK,hs,j0]
  rcases qEl (isC ts 4 ⟨#[41]⟩ p.1) with c1|c1
  ·simp only[c1,jK,kQ,jB,jH]
   refine⟨_,rfl,?_⟩
   have c2:isC ts 4 qOj p.1=false:=by
    simp only[isC,jO,jA] at c1
    simp[isC,c1.2,qOj]
   have c3:qEx ts qEw p.1= .inr (p.1+1):=by simp[qEx,qEw,c1]
   simp only[zKk,c2,jB,jH,c3,qBq]
   rfl
  ·simp only[c1,jB,jH,kJ,jK,hpos,Prod.eta,qPp p hp hl,j0]
   have hcc:isC ts 4 qOj p.1=isC ts 4 ⟨#[44]⟩ p.1:=rfl
   simp only[zKk,hcc,qEx]
   rcases qEl (isC ts 4 ⟨#[44]⟩ p.1) with c2|c2
   ·have g:=qFv hok hp (by decide) c2
    simp only[c2,jK]
    obtain⟨o,ho,hr⟩:=hEg (p.1+1,p.2) g hb
    simp only[ho,j0]
    cases hE:E (p.1+1,p.2) with
    |inl z=>
     rw[hE] at hr
     obtain⟨hz,i,pr',b,hi,ho1⟩:=hr
     rw[qDm (by simp only[jD,jF];omega) (by omega)]
     simp only[j0,ho1]
     cases M with
     |zero=>omega
     |succ M=>
      refine⟨_,zAi hz M _,?_⟩
      rw[qZl,hE]
      exact⟨hz,i,pr',b,hi,rfl⟩
    |inr q=>
     rw[hE] at hr
     obtain⟨⟨f1,f2,f3,f4⟩,f5⟩:=hA (p.1+1,p.2) q.1 q.2 g hb hE
     simp only at f1
     rw[qDm (by simp only[jD,jF];omega) (by omega)]
     have hr':o=(gR ts pr q.1,(q.2:Int)):=hr
     simp only[j0,hr']
     rw[qZl,hE]
     exact zCj hok hl hA n M (l++[(q.2:Int)]) q.1 (by simp) f2 f4 (by simp only[jC,jD,jF];omega) (by omega) (by omega)
   ·simp only[c2,jB,jH]
    have c3:isC ts 4 qEw p.1=false:=c1
    simp only[c3,jB,jH,qHl,qBq]
    obtain⟨v,hv⟩:=hEb ((tkAt ts p.1).2.2.2,9) p.1 pr p.2 (show(9:Int)≠0 by decide) hp
    simp only[hv,j0]
    rw[qDm (by simp only[jD,jF];omega) (by omega)]
    simp only[j0]
    cases M with
    |zero=>omega
    |succ M=>exact⟨_,zAi (z:=((tkAt ts p.1).2.2.2,9)) (show(9:Int)≠0 by decide) M _,show(9:Int)≠0 by decide,p.1,pr,p.2,hp,rfl⟩
include hEg hEb in
theorem rargs(hok:OkT ts)(hl:ts.length<1000000)(hN:1000002<N)(hA:Adv ts E)(p:Ps)(hp:p.1<ts.length)(hb:p.2.length≤256):
  ∃o,qAt (qCl N r4 d) N ([],gR ts pr p)=some o∧relL ts pr (if isC ts 4 qEw p.1 then .inr ((p.1+1,p.2),[]) else qYf ts E (ts.length+1) [] p) o:=by
 obtain⟨M,rfl⟩:∃M,N=M+1:=⟨N-1,by omega⟩
 have hs:=qMi (N:=M+1) (pr:=pr) p hp hl ⟨#[41]⟩
 have g0:((gR ts pr p).2.2.2.1==0)=true:=rfl
 have hnil:decide ((([]:List Int).length:Int)>0)=false:=rfl
 simp only[qAt,qCl,Prod.eta,g0,jK,hs,j0,qEw]
 rcases qEl (isC ts 4 ⟨#[41]⟩ p.1) with c1|c1
 ·simp only[c1,jK,kQ,jB,jH]
  exact⟨_,rfl,rfl⟩
 ·simp only[c1,jB,jH,kJ,jK,hnil,Prod.eta,j0]
  obtain⟨o,ho,hr⟩:=hEg p hp hb
  simp only[ho,j0]
  cases hE:E p with
  |inl z=>
   rw[hE] at hr
   obtain⟨hz,i,pr',b,hi,ho1⟩:=hr
   rw[qDm (by simp) (by omega)]
   simp only[j0,ho1]
   cases M with
   |zero=>omega
   |succ M=>
    refine⟨_,zAi hz M _,?_⟩
    rw[qZl,hE]
    exact⟨hz,i,pr',b,hi,rfl⟩
  |inr q=>
   rw[hE] at hr
   obtain⟨⟨f1,f2,f3,f4⟩,f5⟩:=hA p q.1 q.2 hp hb hE
   rw[qDm (by simp) (by omega)]
   have hr':o=(gR ts pr q.1,(q.2:Int)):=hr
   simp only[j0,hr']
   rw[qZl,hE]
   exact zCj hEg hEb hok hl hA ts.length M ([]++[(q.2:Int)]) q.1 (by simp) f2 f4 (by simp only[jC,jD,jF];omega) (by omega) (by omega)
end
end
section
open Go Go.Dc
section
variable {N:Nat} {ts:List Tok} {pr:List ByteArray} {E S:Ps→PM Nat} {d:Int}
variable {r1 r2 r3 r4:RT→Int→Option (RT×Int)}
theorem zLh{y1:RT×Tok}{y31:RT×ByteArray}{p:Ps}(hpr:pr.length<1000):∀(k i M:Nat),i+k=pr.length→k<M→
  qAt (qCk N y1 y31 (gR ts pr p,false)) M (i:Int)=(match(pr.drop i).findIdx? (fun x=>decide (x=y31.2)) with
   |some j=>(qAo N (gR ts pr p) (2,((i+j:Nat):Int),0,⟨#[]⟩,[]) y1.2.2.2.2).bind fun y=>some (.inr y)
   |none=>some (.inl ()))
 |k,i,0,_,h=>by omega
 |0,i,M+1,h,_=>by
  have:pr.drop i=[]:=jT (by omega)
  have c:decide ((i:Int)<((gR ts pr p).2.2.2.2.1.length:Int))=false:=jX (by simp only[gR];omega)
  simp only[qAt,qCk,this,List.findIdx?_nil,c,jB,jH,j0]
 |k+1,i,M+1,h,hM=>by
  have hi:i<pr.length:=by omega
  have ih:=zLh (y1:=y1) (y31:=y31) (p:=p) hpr k (i+1) M (by omega) (by omega)
  have c:decide ((i:Int)<((gR ts pr p).2.2.2.2.1.length:Int))=true:=jZ (by simp only[gR];omega)
  have x:idx (gR ts pr p).2.2.2.2.1 (i:Int)=some pr[i]:=qDn hi
  have g0:((gR ts pr p).2.2.2.1==0)=true:=rfl
  rw[jU hi,List.findIdx?_cons]
  simp only[qAt,qCk,g0,Prod.eta,c,x,jK,j0,qEd,jA]
  by_cases hs:pr[i]=y31.2
  ·simp only[if_pos hs,jK,j0,f0]
   cases qAo N (gR ts pr p) (2,(i:Int),0,⟨#[]⟩,[]) y1.2.2.2.2<;>rfl
  ·simp only[if_neg hs,j0,jB,jH,qNd (show i<1000000 by omega),ih]
   cases(pr.drop (i+1)).findIdx? (fun x=>decide (x=y31.2)) with
   |none=>rfl
   |some j=>simp only[kV];rw[show i+1+j=i+(j+1) by omega]
theorem zDf{y1:RT×Tok}{y31:RT×ByteArray}{z:Flt}{j:Nat}{pr':List ByteArray}{b:List Ex}(hz:z.2≠0)(hpr:pr'.length<1000):∀(k i M:Nat),i+k=pr'.length→k<M→
  qAt (qCk N y1 y31 (bR ts z j pr' b,false)) M (i:Int)=some (.inl ())
 |k,i,0,_,h=>by omega
 |0,i,M+1,h,_=>by
  have c:decide ((i:Int)<((bR ts z j pr' b).2.2.2.2.1.length:Int))=false:=jX (by simp only[bR];omega)
  simp only[qAt,qCk,c,jB,jH,j0]
 |k+1,i,M+1,h,hM=>by
  have hi:i<pr'.length:=by omega
  have ih:=zDf (y1:=y1) (y31:=y31) (j:=j) (b:=b) hz hpr k (i+1) M (by omega) (by omega)
  have c:decide ((i:Int)<((bR ts z j pr' b).2.2.2.2.1.length:Int))=true:=jZ (by simp only[bR];omega)
  have x:idx (bR ts z j pr' b).2.2.2.2.1 (i:Int)=some pr'[i]:=qDn hi
  have g0:((bR ts z j pr' b).2.2.2.1==0)=false:=by simpa[bR] using hz
  simp only[qAt,qCk,g0,Prod.eta,c,x,jK,j0,qEd,jA]
  have:((if pr'[i]=y31.2 then some false else some false):Option Bool)=some false:=by split<;>rfl
  simp only[this,j0,jB,jH,qNd (show i<1000000 by omega),ih]
variable (hEg:∀p:Ps,p.1<ts.length→p.2.length≤256→∃o,r4 (gR ts pr p) (IntKind.wrap .i64 (d+1))=some o∧relR ts pr (E p) o)
variable (hEb:∀(z:Flt) (i:Nat) (pr':List ByteArray) (b:List Ex),z.2≠0→i<ts.length→∃v,r4 (bR ts z i pr' b) (IntKind.wrap .i64 (d+1))=some (bR ts z i pr' b,v))
include hEg hEb in
theorem zUl(hok:OkT ts)(hl:ts.length<1000000)(hN:100<N)(hA:Adv ts E)(t:Tok)(p:Ps)(hp:p.1<ts.length)(hb:p.2.length≤256):∃o,
  ((qAj N (gR ts pr p) (⟨#[40]⟩:ByteArray)).bind fun y11=>(qBt N y11 true).bind fun y12=>(qAj N y12.1 (⟨#[44]⟩:ByteArray)).bind fun y13=>(r4 y13 (IntKind.wrap .i64 (d+1))).bind fun y14=>(qAj N y14.1 (⟨#[41]⟩:ByteArray)).bind fun y15=>qAo N y15 (6,0,0,y12.2,[y14.2]) t.2.2.2)=some o∧
  relR ts pr (qBq (qEx ts qNf p.1) fun i=>qBq (qBq (qQh ts i) fun a=>qBq (qEx ts qOj a.1) fun i=>qBq (E (i,p.2)) fun q=>(.inr (q.1,((6,0,0,a.2.2.1,[(q.2:Int)]):Ex)):Flt⊕(Ps×Ex))) fun q=>qBq (qEx ts qEw q.1.1) fun i=>qLp t q.2 (i,q.1.2)) o:=by
 have bad:∀{z:Flt} {i:Nat} {pr':List ByteArray} {b:List Ex} (x:ByteArray),z.2≠0→i<ts.length→∃o,((r4 (bR ts z i pr' b) (IntKind.wrap .i64 (d+1))).bind fun y14=>(qAj N y14.1 (⟨#[41]⟩:ByteArray)).bind fun y15=>qAo N y15 (6,0,0,x,[y14.2]) t.2.2.2)=some o∧relR ts pr (.inl z) o:=by
  intro z i pr' b x hz hi
  obtain⟨v,hv⟩:=hEb z i pr' b hz hi
  simp only[hv,j0]
  exact qRa hz hi _ _
 simp only[qPp p hp hl,j0,qNf]
 cases h1:qEx ts ⟨#[40]⟩ p.1 with
 |inl z=>
  simp only[zHr (qNp h1) hp,qOd (qNp h1) hp,j0]
  exact bad _ (qNp h1) hp
 |inr i=>
  obtain⟨rfl,g1,-⟩:=qGh hok hp h1
  simp only[zJq (p.1+1,p.2) g1 hl hN,j0,jK,qBq]
  cases h2:qQh ts (p.1+1) with
  |inl z=>
   simp only[qOd (zDd h2) g1,j0]
   exact bad _ (zDd h2) g1
  |inr a=>
   obtain⟨rfl,g2,-⟩:=qOr hok g1 h2
   simp only[qPp (p.1+1+1,p.2) g2 hl,j0,qOj]
   cases h3:qEx ts ⟨#[44]⟩ (p.1+1+1) with
   |inl z=>exact bad _ (qNp h3) g2
   |inr j=>
    obtain⟨rfl,g3,-⟩:=qGh hok g2 h3
    obtain⟨o,ho,hr⟩:=hEg (p.1+1+1+1,p.2) g3 hb
    simp only[ho,j0]
    cases h4:E (p.1+1+1+1,p.2) with
    |inl z=>
     rw[h4] at hr
     obtain⟨hz,i,pr',b,hi,ho1⟩:=hr
     simp only[ho1]
     exact qRa hz hi _ _
    |inr q=>
     rw[h4] at hr
     obtain⟨⟨f1,f2,f3,f4⟩,f5⟩:=hA (p.1+1+1+1,p.2) q.1 q.2 g3 hb h4
     have hr':o=(gR ts pr q.1,(q.2:Int)):=hr
     simp only[hr']
     exact qZz t _ q.1 hok hl f2 f4
theorem zQi(hok:OkT ts)(hl:ts.length<1000000)(hN:100<N)(k:Int)(pth:Bool)(t:Tok)(p:Ps)(hp:p.1<ts.length)(hb:p.2.length≤256):∃o,
  ((qAj N (gR ts pr p) (⟨#[40]⟩:ByteArray)).bind fun y20=>(qBt N y20 pth).bind fun y21=>(qAj N y21.1 (⟨#[41]⟩:ByteArray)).bind fun y22=>qAo N y22 (k,0,0,y21.2,[]) t.2.2.2)=some o∧
  relR ts pr (qBq (qEx ts qNf p.1) fun i=>qBq (qBq (if pth=true then qQh ts i else qWc ts i) fun a=>(.inr ((a.1,p.2),((k,0,0,a.2.2.1,[]):Ex)):Flt⊕(Ps×Ex))) fun q=>qBq (qEx ts qEw q.1.1) fun i=>qLp t q.2 (i,q.1.2)) o:=by
 simp only[qPp p hp hl,j0,qNf]
 cases h1:qEx ts ⟨#[40]⟩ p.1 with
 |inl z=>
  simp only[zHr (qNp h1) hp,j0]
  exact qRa (qNp h1) hp _ _
 |inr i=>
  obtain⟨rfl,g1,-⟩:=qGh hok hp h1
  simp only[zJq (p.1+1,p.2) g1 hl hN,j0,qBq]
  cases h2:(if pth=true then qQh ts (p.1+1) else qWc ts (p.1+1)) with
  |inl z=>
   have hz:z.2≠0:=by
    split at h2
    ·exact zDd h2
    ·exact zRy h2
   exact qRa hz g1 _ _
  |inr a=>
   have g2:a=(p.1+1+1,tkAt ts (p.1+1))∧p.1+1+1<ts.length:=by
    split at h2
    ·obtain⟨e,g2,-⟩:=qOr hok g1 h2;exact⟨e,g2⟩
    ·obtain⟨e,g2,-⟩:=zHi hok g1 h2;exact⟨e,g2⟩
   obtain⟨rfl,g2⟩:=g2
   exact qZz t _ (p.1+1+1,p.2) hok hl g2 hb
theorem zUd(hok:OkT ts)(hl:ts.length<1000000)(t:Tok)(p:Ps)(hp:p.1<ts.length)(hb:p.2.length≤256):∃o,
  ((qAj N (gR ts pr p) (⟨#[40]⟩:ByteArray)).bind fun y25=>(qAm N y25).bind fun y26=>(qCq N y26.1).bind fun y27=>(if(decide (y27.2≥64))=true then((qAn N y27.1 y26.2.2.2.2 9).bind fun y28=>some y28) else(some y27.1):Option RT).bind fun o3=>(qAj N o3 (⟨#[41]⟩:ByteArray)).bind fun y29=>qAo N y29 (10,y27.2,0,⟨#[]⟩,[]) t.2.2.2)=some o∧
  relR ts pr (qBq (qEx ts qNf p.1) fun i=>qBq (qBq (qNv ts 2 i) fun a=>if a.2.2.2.1≥64 then qHl a.2 9 else(.inr ((a.1,p.2),((10,a.2.2.2.1,0,⟨#[]⟩,[]):Ex)):Flt⊕(Ps×Ex))) fun q=>qBq (qEx ts qEw q.1.1) fun i=>qLp t q.2 (i,q.1.2)) o:=by
 have h64:¬decide ((0:Int)≥64)=true:=by decide
 simp only[qPp p hp hl,j0,qNf]
 cases h1:qEx ts ⟨#[40]⟩ p.1 with
 |inl z=>
  simp only[qRm hp,zQg (qNp h1) hp,j0,if_neg h64]
  exact qRa (qNp h1) hp _ _
 |inr i=>
  obtain⟨rfl,g1,-⟩:=qGh hok hp h1
  simp only[qLi (p.1+1,p.2) g1,zAo (p.1+1,p.2) g1 hl,j0,qBq]
  cases h2:qNv ts 2 (p.1+1) with
  |inl z=>
   simp only[if_neg h64,j0]
   exact qRa (zAx h2) g1 _ _
  |inr a=>
   obtain⟨rfl,g2,-⟩:=qQq hok (by decide) g1 h2
   by_cases k:(tkAt ts (p.1+1)).2.2.1≥64
   ·simp only[if_pos k,jA,jK,qLv,j0]
    exact qRa (show(9:Int)≠0 by decide) g2 _ _
   ·simp only[if_neg k,jA,j0]
    exact qZz t _ (p.1+1+1,p.2) hok hl g2 hb
end
end
section
open Go Go.Dc
section
variable {N:Nat} {ts:List Tok} {pr:List ByteArray} {E S:Ps→PM Nat} {d:Int}
variable {r1 r2 r3 r4:RT→Int→Option (RT×Int)}
theorem zKi{s:ByteArray}{i:Nat}(h:(tkAt ts i).1=1):isC ts 1 s i=decide ((tkAt ts i).2.1=s):=by simp[isC,h]
theorem zTm{k:Int}{s:ByteArray}{i:Nat}(h:(tkAt ts i).1≠k):isC ts k s i=false:=by simp[isC,h]
theorem obs{α:Type}(x:Option α):(x.bind fun y=>some y)=x:=by cases x<;>rfl
theorem zPq{z:Flt}{i:Nat}{pr':List ByteArray}{b:List Ex}(hz:z.2≠0)(hi:i<ts.length):qDj N r1 r2 r3 r4 (bR ts z i pr' b) d=some (bR ts z i pr' b,0):=by
 have g0:((bR ts z i pr' b).2.2.2.1 !=0)=true:=by simpa[bR] using hz
 simp only[qDj,Prod.eta,qRm hi,j0,g0,jK]
variable (hEg:∀p:Ps,p.1<ts.length→p.2.length≤256→∃o,r4 (gR ts pr p) (IntKind.wrap .i64 (d+1))=some o∧relR ts pr (E p) o)
variable (hEb:∀(z:Flt) (i:Nat) (pr':List ByteArray) (b:List Ex),z.2≠0→i<ts.length→∃v,r4 (bR ts z i pr' b) (IntKind.wrap .i64 (d+1))=some (bR ts z i pr' b,v))
include hEg hEb in
theorem zTp(hok:OkT ts)(hl:ts.length<1000000)(hpr:pr.length<1000)(hN:1000002<N)(hA:Adv ts E)(p:Ps)(hp:p.1<ts.length)(hb:p.2.length≤256):
  ∃o,qDj N r1 r2 r3 r4 (gR ts pr p) d=some o∧relR ts pr (qJy ts pr E p) o:=by
 have g0:((gR ts pr p).2.2.2.1 !=0)=false:=rfl
 simp only[qDj,Prod.eta,qLi p hp,j0,g0,jB,jH]
 unfold qJy
 dsimp only
 by_cases k1:(tkAt ts p.1).1=2
 ·have k1':((tkAt ts p.1).1==2)=true:=by simpa using k1
  have g:=hok.next hp (show(tkAt ts p.1).1≠5 by rw[k1];decide)
  rw[if_pos k1]
  simp only[k1',jK,zAo p hp hl,qNv,if_pos k1,j0]
  obtain⟨o,ho,hr⟩:=qSt (N:=N) (pr:=pr) (tkAt ts p.1) (1,(tkAt ts p.1).2.2.1,0,⟨#[]⟩,[]) (p.1+1,p.2) g hb
  simp only[ho,j0]
  exact⟨_,rfl,hr⟩
 have k1':((tkAt ts p.1).1==2)=false:=by simpa using k1
 rw[if_neg k1]
 simp only[k1',jB,jH,qMi p hp hl,j0]
 rcases qEl (isC ts 4 zKq p.1) with c1|c1
 ·have c1':isC ts 4 ⟨#[45]⟩ p.1=true:=c1
  have g:=qFv hok hp (by decide) c1
  simp only[c1,c1',jK,zAo (p.1+1,p.2) g hl,j0]
  cases h:qNv ts 2 (p.1+1) with
  |inl z=>
   obtain⟨o,ho,hr⟩:=qVl (N:=N) (pr:=pr) (pr':=pr) (b:=p.2) (zAx h) g (1,IntKind.wrap .i64 (0-0),0,⟨#[]⟩,[]) (tkAt ts p.1).2.2.2
   simp only[ho,j0]
   exact⟨_,rfl,hr⟩
  |inr a=>
   obtain⟨rfl,g2,-⟩:=qQq hok (by decide) g h
   obtain⟨o,ho,hr⟩:=qSt (N:=N) (pr:=pr) (tkAt ts p.1) (1,IntKind.wrap .i64 (0-(tkAt ts (p.1+1)).2.2.1),0,⟨#[]⟩,[]) (p.1+1+1,p.2) g2 hb
   simp only[ho,j0,qBq]
   exact⟨_,rfl,hr⟩
 have c1':isC ts 4 ⟨#[45]⟩ p.1=false:=c1
 simp only[c1,c1',jB,jH,qMi p hp hl,j0]
 rcases qEl (isC ts 4 qNf p.1) with c2|c2
 ·have c2':isC ts 4 ⟨#[40]⟩ p.1=true:=c2
  have g:=qFv hok hp (by decide) c2
  obtain⟨o,ho,hr⟩:=hEg (p.1+1,p.2) g hb
  simp only[c2,c2',jK,ho,j0]
  cases h:E (p.1+1,p.2) with
  |inl z=>
   rw[h] at hr
   obtain⟨hz,i,pr',b,hi,ho1⟩:=hr
   simp only[ho1,qOd hz hi,j0,qBq]
   exact⟨_,rfl,qPg hz hi⟩
  |inr q=>
   rw[h] at hr
   obtain⟨⟨f1,f2,f3,f4⟩,f5⟩:=hA (p.1+1,p.2) q.1 q.2 g hb h
   have hr':o=(gR ts pr q.1,(q.2:Int)):=hr
   simp only[hr',qPp q.1 f2 hl,j0,qBq,qEw]
   cases hj:qEx ts ⟨#[41]⟩ q.1.1 with
   |inl z=>exact⟨_,rfl,qPg (qNp hj) f2⟩
   |inr j=>exact⟨_,rfl,rfl⟩
 have c2':isC ts 4 ⟨#[40]⟩ p.1=false:=c2
 simp only[c2,c2',jB,jH,qNn p hp hl,j0]
 by_cases k2:(tkAt ts p.1).1=1
 rotate_left
 ·-- no name
  rw[if_pos k2]
  have n:∀s,isC ts 1 s p.1=false:=fun s=>zTm k2
  have hname:qOa ts p.1= .inl ((tkAt ts p.1).2.2.2,9):=by simp[qOa,qNv,k2,qBq,qHl]
  simp only[n,jB,jH,qNn p hp hl,j0,qXv p hp hl (by omega:100<N),hname]
  have hz:(((tkAt ts p.1).2.2.2,(9:Int)):Flt).2≠0:=show(9:Int)≠0 by decide
  have hp0:=zDf (N:=N) (ts:=ts) (y1:=(gR ts pr p,tkAt ts p.1)) (y31:=(bR ts ((tkAt ts p.1).2.2.2,9) p.1 pr p.2,(⟨#[]⟩:ByteArray))) (j:=p.1) (pr':=pr) (b:=p.2) hz hpr pr.length 0 N (by omega) (by omega)
  rw[show((0:Nat):Int)=0 from rfl] at hp0
  simp only[zEm hz,j0,kJ,jK,hp0,qPb hz]
  exact⟨_,rfl,qPg hz hp⟩
 rw[if_neg (show ¬(tkAt ts p.1).1≠1 by simpa using k2)]
 have g:=hok.next hp (show(tkAt ts p.1).1≠5 by rw[k2];decide)
 have n:∀s,isC ts 1 s p.1=decide ((tkAt ts p.1).2.1=s):=fun s=>zKi k2
 simp only[n,qNn p hp hl,j0]
 by_cases w1:(tkAt ts p.1).2.1=qSp
 ·rw[if_pos (show(tkAt ts p.1).2.1∈[qSp,qSk,sHas,sEnv,qTt] by rw[w1];simp)]
  have w1':decide ((tkAt ts p.1).2.1=(⟨#[114,101,97,100]⟩:ByteArray))=true:=jZ w1
  simp only[w1',jK]
  obtain⟨o,ho,hr⟩:=zUl (N:=N) hEg hEb hok hl (by omega) hA (tkAt ts p.1) (p.1+1,p.2) g hb
  refine⟨o,Eq.trans ?_ ho,?_⟩
  ·simp only[obs]
  ·simp only[qKm,if_pos w1]
   exact hr
 have w1':decide ((tkAt ts p.1).2.1=(⟨#[114,101,97,100]⟩:ByteArray))=false:=jX w1
 simp only[w1',jB,jH,qNn p hp hl,j0,n]
 by_cases w2:(tkAt ts p.1).2.1=qSk
 ·rw[if_pos (show(tkAt ts p.1).2.1∈[qSp,qSk,sHas,sEnv,qTt] by rw[w2];simp)]
  have w2':decide ((tkAt ts p.1).2.1=(⟨#[115,105,122,101]⟩:ByteArray))=true:=jZ w2
  have wx:((tkAt ts p.1).2.1.toList==(⟨#[104,97,115]⟩:ByteArray).toList)=false:=by rw[qEd,w2];decide
  have wy:((tkAt ts p.1).2.1.toList==(⟨#[101,110,118]⟩:ByteArray).toList)=false:=by rw[qEd,w2];decide
  simp only[w2',jK,j0,wx,wy,jB,jH]
  obtain⟨o,ho,hr⟩:=zQi (N:=N) (pr:=pr) hok hl (by omega) 7 true (tkAt ts p.1) (p.1+1,p.2) g hb
  refine⟨o,Eq.trans ?_ ho,?_⟩
  ·simp only[obs];rfl
  ·simp only[qKm,if_neg w1,if_pos w2]
   exact hr
 have w2':decide ((tkAt ts p.1).2.1=(⟨#[115,105,122,101]⟩:ByteArray))=false:=jX w2
 simp only[w2',jB,jH,qNn p hp hl,j0,n]
 by_cases w3:(tkAt ts p.1).2.1=sHas
 ·rw[if_pos (show(tkAt ts p.1).2.1∈[qSp,qSk,sHas,sEnv,qTt] by rw[w3];simp)]
  have w3':decide ((tkAt ts p.1).2.1=(⟨#[104,97,115]⟩:ByteArray))=true:=jZ w3
  have wx:((tkAt ts p.1).2.1.toList==(⟨#[104,97,115]⟩:ByteArray).toList)=true:=by rw[qEd,w3']
  simp only[w3',jK,j0,wx]
  obtain⟨o,ho,hr⟩:=zQi (N:=N) (pr:=pr) hok hl (by omega) 8 true (tkAt ts p.1) (p.1+1,p.2) g hb
  refine⟨o,Eq.trans ?_ ho,?_⟩
  ·simp only[obs];rfl
  ·simp only[qKm,if_neg w1,if_neg w2,if_pos w3]
   exact hr
 have w3':decide ((tkAt ts p.1).2.1=(⟨#[104,97,115]⟩:ByteArray))=false:=jX w3
 simp only[w3',jB,jH,qNn p hp hl,j0,n]
 by_cases w4:(tkAt ts p.1).2.1=sEnv
 ·rw[if_pos (show(tkAt ts p.1).2.1∈[qSp,qSk,sHas,sEnv,qTt] by rw[w4];simp)]
  have w4':decide ((tkAt ts p.1).2.1=(⟨#[101,110,118]⟩:ByteArray))=true:=jZ w4
  have wx:((tkAt ts p.1).2.1.toList==(⟨#[104,97,115]⟩:ByteArray).toList)=false:=by rw[qEd,w4];decide
  have wy:((tkAt ts p.1).2.1.toList==(⟨#[101,110,118]⟩:ByteArray).toList)=true:=by rw[qEd,w4']
  simp only[w4',jK,j0,wx,wy,jB,jH]
  obtain⟨o,ho,hr⟩:=zQi (N:=N) (pr:=pr) hok hl (by omega) 9 false (tkAt ts p.1) (p.1+1,p.2) g hb
  refine⟨o,Eq.trans ?_ ho,?_⟩
  ·simp only[obs];rfl
  ·simp only[qKm,if_neg w1,if_neg w2,if_neg w3,if_pos w4]
   exact hr
 have w4':decide ((tkAt ts p.1).2.1=(⟨#[101,110,118]⟩:ByteArray))=false:=jX w4
 simp only[w4',jB,jH,qNn p hp hl,j0,n]
 by_cases w5:(tkAt ts p.1).2.1=qTt
 ·rw[if_pos (show(tkAt ts p.1).2.1∈[qSp,qSk,sHas,sEnv,qTt] by rw[w5];simp)]
  have w5':decide ((tkAt ts p.1).2.1=(⟨#[102,108,105,112]⟩:ByteArray))=true:=jZ w5
  simp only[w5',jK]
  obtain⟨o,ho,hr⟩:=zUd (N:=N) (pr:=pr) hok hl (tkAt ts p.1) (p.1+1,p.2) g hb
  refine⟨o,Eq.trans ?_ ho,?_⟩
  ·simp only[obs]
  ·simp only[qKm,if_neg w1,if_neg w2,if_neg w3,if_neg w4]
   exact hr
 have w5':decide ((tkAt ts p.1).2.1=(⟨#[102,108,105,112]⟩:ByteArray))=false:=jX w5
 rw[if_neg (show ¬(tkAt ts p.1).2.1∈[qSp,qSk,sHas,sEnv,qTt] by simp[w1,w2,w3,w4,w5])]
 simp only[w5',jB,jH,qXv p hp hl (by omega:100<N),j0,qOa,qNv,if_pos k2,qBq]
 rcases qEl (resC (tkAt ts p.1).2.1) with c3|c3
 ·simp only[c3,jK,qHl]
  have hz:(((tkAt ts p.1).2.2.2,(9:Int)):Flt).2≠0:=show(9:Int)≠0 by decide
  have hp0:=zDf (N:=N) (ts:=ts) (y1:=(gR ts pr p,tkAt ts p.1)) (y31:=(bR ts ((tkAt ts p.1).2.2.2,9) p.1 pr p.2,(⟨#[]⟩:ByteArray))) (j:=p.1) (pr':=pr) (b:=p.2) hz hpr pr.length 0 N (by omega) (by omega)
  rw[show((0:Nat):Int)=0 from rfl] at hp0
  simp only[zEm hz,j0,kJ,jK,hp0,qPb hz]
  exact⟨_,rfl,qPg hz hp⟩
 simp only[c3,jB,jH,qMi (p.1+1,p.2) g hl,j0]
 rcases qEl (isC ts 4 qNf (p.1+1)) with c4|c4
 ·have c4':isC ts 4 ⟨#[40]⟩ (p.1+1)=true:=c4
  have g2:=qFv hok g (by decide) c4
  simp only[c4,c4',jK,kQ,jB,jH]
  have hs:qEx ts qNf (p.1+1)= .inr (p.1+1+1):=by simp[qEx,c4]
  simp only[qKq,hs,qBq]
  obtain⟨o,ho,hr⟩:=rargs (N:=N) hEg hEb hok hl (by omega) hA (p.1+1+1,p.2) g2 hb
  simp only[ho,j0]
  cases ha:(if isC ts 4 qEw (p.1+1+1)=true then .inr ((p.1+1+1+1,p.2),[]) else qYf ts E (ts.length+1) [] (p.1+1+1,p.2):PM (List Int)) with
  |inl z=>
   rw[ha] at hr
   obtain⟨hz,i,pr',b,hi,ho1⟩:=hr
   simp only[ho1]
   obtain⟨o2,ho2,hr2⟩:=qVl (N:=N) (pr:=pr) (pr':=pr') (b:=b) hz hi (3,0,0,(tkAt ts p.1).2.1,o.1) (tkAt ts p.1).2.2.2
   simp only[ho2,j0]
   exact⟨_,rfl,hr2⟩
  |inr q=>
   rw[ha] at hr
   have hr':o=(q.2,gR ts pr q.1):=hr
   have hq:q.1.1<ts.length∧q.1.2.length≤256:=by
    split at ha
    ·rename_i hc
     obtain rfl:=Sum.inr.inj ha
     exact⟨qFv hok g2 (by decide) hc,hb⟩
    ·obtain⟨f1,f2,f3,f4⟩:=zAl hok hA _ _ (p.1+1+1,p.2) q.1 q.2 g2 hb ha
     exact⟨f2,f4⟩
   simp only[hr']
   obtain⟨o2,ho2,hr2⟩:=qSt (N:=N) (pr:=pr) (tkAt ts p.1) (3,0,0,(tkAt ts p.1).2.1,q.2) q.1 hq.1 hq.2
   simp only[ho2,j0]
   exact⟨_,rfl,hr2⟩
 have c4':isC ts 4 ⟨#[40]⟩ (p.1+1)=false:=c4
 simp only[c4,c4',jB,jH,kJ,jK]
 have hp0:=zLh (N:=N) (ts:=ts) (pr:=pr) (y1:=(gR ts pr p,tkAt ts p.1)) (y31:=(gR ts pr (p.1+1,p.2),(tkAt ts p.1).2.1)) (p:=(p.1+1,p.2)) hpr pr.length 0 N (by omega) (by omega)
 rw[show((0:Nat):Int)=0 from rfl] at hp0
 simp only[hp0,k0,kK]
 cases hi:pr.findIdx? (fun x=>decide (x=(tkAt ts p.1).2.1)) with
 |none=>
  simp only[j0,qLv]
  exact⟨_,rfl,qPg (show(9:Int)≠0 by decide) g⟩
 |some j=>
  obtain⟨o2,ho2,hr2⟩:=qSt (N:=N) (pr:=pr) (tkAt ts p.1) (2,(j:Int),0,⟨#[]⟩,[]) (p.1+1,p.2) g hb
  simp only[ho2,j0]
  exact⟨_,rfl,hr2⟩
end
end
section
open Go Go.Dc
section
variable {N:Nat} {ts:List Tok} {pr:List ByteArray} {E S:Ps→PM Nat} {d:Int}
variable {r r1 r2 r3 r4:RT→Int→Option (RT×Int)}
theorem zQh{L i:Nat}(h:opC ts L i≠0):(tkAt ts i).1=4:=by
 apply Decidable.byContradiction
 intro hk
 apply h
 unfold opC
 have:opsC.find? (isOp ts L i)=none:=by
  rw[List.find?_eq_none]
  intro o _ ho
  simp only[isOp,jO] at ho
  exact hk (qZb ho.1)
 rw[this]
theorem rmore{f:Int×RT→Option ((Int×RT)⊕(Int×RT))}{L:Nat}(hok:OkT ts)(hS:Adv ts S)
  (hSg:∀p:Ps,p.1<ts.length→p.2.length≤256→∃o,r (gR ts pr p) d=some o∧relR ts pr (S p) o)
  (hSb:∀(z:Flt) (i:Nat) (pr':List ByteArray) (b:List Ex),z.2≠0→i<ts.length→∃v,r (bR ts z i pr' b) d=some (bR ts z i pr' b,v))
  (hfb:∀(z:Flt) (i:Nat) (pr':List ByteArray) (b:List Ex) (v:Int),z.2≠0→f (v,bR ts z i pr' b)=some (.inr (v,bR ts z i pr' b)))
  {n M x:Nat} {p:Ps} (hp:p.1<ts.length) (hb:p.2.length≤256) (hM:0<M) (hL:L≠1) (hop:opC ts L p.1≠0)
  (ih:∀(x:Nat) (q:Ps),q.1<ts.length→p.1<q.1→q.2.length≤256→x<q.2.length→∃o,qAt f M ((x:Int),gR ts pr q)=some o∧relR ts pr (qQj ts L S n x q) (o.2,o.1)):
  ∃o,((r (gR ts pr (p.1+1,p.2)) d).bind fun y6=>(qAo N y6.1 (4,0,opC ts L p.1,⟨#[]⟩,[(x:Int),y6.2]) (tkAt ts p.1).2.2.2).bind fun y7=>qAt f M (y7.2,y7.1))=some o∧relR ts pr (qQj ts L S (n+1) x p) (o.2,o.1):=by
 have g:=hok.next hp (show(tkAt ts p.1).1≠5 by rw[zQh hop];decide)
 obtain⟨o,ho,hr⟩:=hSg (p.1+1,p.2) g hb
 obtain⟨M',rfl⟩:∃M',M=M'+1:=⟨M-1,by omega⟩
 have bad:∀(z:Flt) (i:Nat) (pr':List ByteArray) (b:List Ex) (v:Int),z.2≠0→qAt f (M'+1) (v,bR ts z i pr' b)=some (v,bR ts z i pr' b):=by
  intro z i pr' b v hz
  simp only[qAt,hfb z i pr' b v hz,j0]
 simp only[ho,j0,qQj]
 rw[if_neg hop]
 cases h:S (p.1+1,p.2) with
 |inl z=>
  rw[h] at hr
  obtain⟨hz,i,pr',b,hi,ho1⟩:=hr
  simp only[ho1,qBq]
  obtain⟨v,hv⟩:=zOg (N:=N) (ts:=ts) (pr:=pr') (b:=b) (i:=i) hz (4,0,opC ts L p.1,⟨#[]⟩,[(x:Int),o.2]) (tkAt ts p.1).2.2.2
  simp only[hv,j0,bad _ _ _ _ _ hz]
  exact⟨_,rfl,qPg hz hi⟩
 |inr q=>
  rw[h] at hr
  obtain⟨⟨f1,f2,f3,f4⟩,f5⟩:=hS (p.1+1,p.2) q.1 q.2 g hb h
  have hr':o=(gR ts pr q.1,(q.2:Int)):=hr
  simp only[hr',qBq]
  obtain⟨v,hv⟩:=zNj (N:=N) (ts:=ts) (pr:=pr) (tkAt ts p.1) (4,0,opC ts L p.1,⟨#[]⟩,[(x:Int),(q.2:Int)]) q.1 f4
  simp only[hv,j0]
  cases hn:qLp (tkAt ts p.1) (4,0,opC ts L p.1,⟨#[]⟩,[(x:Int),(q.2:Int)]) q.1 with
  |inl z=>
   simp only[bad _ _ _ _ _ (zJk hn)]
   exact⟨_,rfl,qPg (zJk hn) f2⟩
  |inr s=>
   obtain⟨⟨k1,k2,k3,k4⟩,k5⟩:=qQp (ts:=ts) (p:=p) (r:=q.1) (by simp only at f1;omega) f2 f3 f4 hn
   simp only[if_neg hL]
   exact ih s.2 s.1 k2 k1 k4 k5
theorem rstop{L n x:Nat}{p:Ps}(hop:opC ts L p.1=0):relR ts pr (qQj ts L S (n+1) x p) (gR ts pr p,(x:Int)):=by
 simp only[qQj]
 rw[if_pos hop]
 rfl
theorem zDo(z:Flt)(i:Nat)(pr':List ByteArray)(b:List Ex)(v:Int)(hz:z.2≠0):qCa N r d (v,bR ts z i pr' b)=some (.inr (v,bR ts z i pr' b)):=by
 have g0:((bR ts z i pr' b).2.2.2.1==0)=false:=by simpa[bR] using hz
 simp only[qCa,g0,jB,jH,Prod.eta]
theorem zJh(z:Flt)(i:Nat)(pr':List ByteArray)(b:List Ex)(v:Int)(hz:z.2≠0):qCo N r d (v,bR ts z i pr' b)=some (.inr (v,bR ts z i pr' b)):=by
 have g0:((bR ts z i pr' b).2.2.2.1==0)=false:=by simpa[bR] using hz
 simp only[qCo,g0,jB,jH,Prod.eta]
theorem zCb(hok:OkT ts)(hl:ts.length<1000000)(hS:Adv ts S)
  (hSg:∀p:Ps,p.1<ts.length→p.2.length≤256→∃o,r (gR ts pr p) d=some o∧relR ts pr (S p) o)
  (hSb:∀(z:Flt) (i:Nat) (pr':List ByteArray) (b:List Ex),z.2≠0→i<ts.length→∃v,r (bR ts z i pr' b) d=some (bR ts z i pr' b,v)):
  ∀(n M x:Nat) (p:Ps),p.1<ts.length→p.2.length≤256→x<p.2.length→ts.length<p.1+n→ts.length+1<p.1+M→
  ∃o,qAt (qCa N r d) M ((x:Int),gR ts pr p)=some o∧relR ts pr (qQj ts 3 S n x p) (o.2,o.1)
 |0,M,x,p,hp,_,_,h,_=>by omega
 |n+1,0,x,p,hp,_,_,_,h=>by omega
 |n+1,M+1,x,p,hp,hb,hx,hn,hM=>by
  have g0:((gR ts pr p).2.2.2.1==0)=true:=rfl
  have ih:∀(x:Nat) (q:Ps),q.1<ts.length→p.1<q.1→q.2.length≤256→x<q.2.length→∃o,qAt (qCa N r d) M ((x:Int),gR ts pr q)=some o∧relR ts pr (qQj ts 3 S n x q) (o.2,o.1):=
   fun x q h1 h2 h3 h4=>zCb hok hl hS hSg hSb n M x q h1 h3 h4 (by omega) (by omega)
  have go:=fun hop=>rmore (N:=N) (n:=n) (x:=x) hok hS hSg hSb (zDo (N:=N) (r:=r) (d:=d)) hp hb (show 0<M by omega) (show 3≠1 by decide) hop ih
  have h3:=op_3 (ts:=ts) (i:=p.1)
  rcases qEl (isC ts 4 ⟨#[42]⟩ p.1) with c1|c1
  ·simp only[c1,jK] at h3
   obtain⟨o,ho,hr⟩:=go (by rw[h3];decide)
   refine⟨o,Eq.trans ?_ ho,hr⟩
   simp only[qAt,qCa,Prod.eta,g0,jK,qLi p hp,qMi p hp hl,j0,c1,h3]
   cases r (gR ts pr (p.1+1,p.2)) d with
   |none=>rfl
   |some y=>simp only[j0];cases qAo N y.1 (4,0,3,⟨#[]⟩,[(x:Int),y.2]) (tkAt ts p.1).2.2.2<;>rfl
  rcases qEl (isC ts 4 ⟨#[47]⟩ p.1) with c2|c2
  ·simp only[c1,c2,jK,jB,jH] at h3
   obtain⟨o,ho,hr⟩:=go (by rw[h3];decide)
   refine⟨o,Eq.trans ?_ ho,hr⟩
   simp only[qAt,qCa,Prod.eta,g0,jK,qLi p hp,qMi p hp hl,j0,c1,c2,h3,jB,jH]
   cases r (gR ts pr (p.1+1,p.2)) d with
   |none=>rfl
   |some y=>simp only[j0];cases qAo N y.1 (4,0,4,⟨#[]⟩,[(x:Int),y.2]) (tkAt ts p.1).2.2.2<;>rfl
  rcases qEl (isC ts 4 ⟨#[37]⟩ p.1) with c3|c3
  ·simp only[c1,c2,c3,jK,jB,jH] at h3
   obtain⟨o,ho,hr⟩:=go (by rw[h3];decide)
   refine⟨o,Eq.trans ?_ ho,hr⟩
   simp only[qAt,qCa,Prod.eta,g0,jK,qLi p hp,qMi p hp hl,j0,c1,c2,c3,h3,jB,jH]
   cases r (gR ts pr (p.1+1,p.2)) d with
   |none=>rfl
   |some y=>simp only[j0];cases qAo N y.1 (4,0,5,⟨#[]⟩,[(x:Int),y.2]) (tkAt ts p.1).2.2.2<;>rfl
  simp only[c1,c2,c3,jB,jH] at h3
  simp only[qAt,qCa,Prod.eta,g0,jK,qLi p hp,qMi p hp hl,j0,c1,c2,c3,jB,jH]
  exact⟨_,rfl,rstop h3⟩
theorem zHg(hok:OkT ts)(hl:ts.length<1000000)(hS:Adv ts S)
  (hSg:∀p:Ps,p.1<ts.length→p.2.length≤256→∃o,r (gR ts pr p) d=some o∧relR ts pr (S p) o)
  (hSb:∀(z:Flt) (i:Nat) (pr':List ByteArray) (b:List Ex),z.2≠0→i<ts.length→∃v,r (bR ts z i pr' b) d=some (bR ts z i pr' b,v)):
  ∀(n M x:Nat) (p:Ps),p.1<ts.length→p.2.length≤256→x<p.2.length→ts.length<p.1+n→ts.length+1<p.1+M→
  ∃o,qAt (qCo N r d) M ((x:Int),gR ts pr p)=some o∧relR ts pr (qQj ts 2 S n x p) (o.2,o.1)
 |0,M,x,p,hp,_,_,h,_=>by omega
 |n+1,0,x,p,hp,_,_,_,h=>by omega
 |n+1,M+1,x,p,hp,hb,hx,hn,hM=>by
  have g0:((gR ts pr p).2.2.2.1==0)=true:=rfl
  have ih:∀(x:Nat) (q:Ps),q.1<ts.length→p.1<q.1→q.2.length≤256→x<q.2.length→∃o,qAt (qCo N r d) M ((x:Int),gR ts pr q)=some o∧relR ts pr (qQj ts 2 S n x q) (o.2,o.1):=
   fun x q h1 h2 h3 h4=>zHg hok hl hS hSg hSb n M x q h1 h3 h4 (by omega) (by omega)
  have go:=fun hop=>rmore (N:=N) (n:=n) (x:=x) hok hS hSg hSb (zJh (N:=N) (r:=r) (d:=d)) hp hb (show 0<M by omega) (show 2≠1 by decide) hop ih
  have h3:=op_2 (ts:=ts) (i:=p.1)
  rcases qEl (isC ts 4 ⟨#[43]⟩ p.1) with c1|c1
  ·simp only[c1,jK] at h3
   obtain⟨o,ho,hr⟩:=go (by rw[h3];decide)
   refine⟨o,Eq.trans ?_ ho,hr⟩
   simp only[qAt,qCo,Prod.eta,g0,jK,qLi p hp,qMi p hp hl,j0,c1,h3]
   cases r (gR ts pr (p.1+1,p.2)) d with
   |none=>rfl
   |some y=>simp only[j0];cases qAo N y.1 (4,0,1,⟨#[]⟩,[(x:Int),y.2]) (tkAt ts p.1).2.2.2<;>rfl
  rcases qEl (isC ts 4 ⟨#[45]⟩ p.1) with c2|c2
  ·simp only[c1,c2,jK,jB,jH] at h3
   obtain⟨o,ho,hr⟩:=go (by rw[h3];decide)
   refine⟨o,Eq.trans ?_ ho,hr⟩
   simp only[qAt,qCo,Prod.eta,g0,jK,qLi p hp,qMi p hp hl,j0,c1,c2,h3,jB,jH]
   cases r (gR ts pr (p.1+1,p.2)) d with
   |none=>rfl
   |some y=>simp only[j0];cases qAo N y.1 (4,0,2,⟨#[]⟩,[(x:Int),y.2]) (tkAt ts p.1).2.2.2<;>rfl
  simp only[c1,c2,jB,jH] at h3
  simp only[qAt,qCo,Prod.eta,g0,jK,qLi p hp,qMi p hp hl,j0,c1,c2,jB,jH]
  exact⟨_,rfl,rstop h3⟩
theorem rterm(hok:OkT ts)(hl:ts.length<1000000)(hN:1000002<N)(hS:Adv ts S)
  (h1:∀p:Ps,p.1<ts.length→p.2.length≤256→∃o,r1 (gR ts pr p) d=some o∧relR ts pr (S p) o)
  (h1b:∀(z:Flt) (i:Nat) (pr':List ByteArray) (b:List Ex),z.2≠0→i<ts.length→∃v,r1 (bR ts z i pr' b) d=some (bR ts z i pr' b,v))
  (p:Ps) (hp:p.1<ts.length) (hb:p.2.length≤256):∃o,qDu N r1 r2 r3 r4 (gR ts pr p) d=some o∧relR ts pr (qOu ts 3 S p) o:=by
 obtain⟨o,ho,hr⟩:=h1 p hp hb
 simp only[qDu,Prod.eta,ho,j0,qOu]
 cases h:S p with
 |inl z=>
  rw[h] at hr
  obtain⟨hz,i,pr',b,hi,ho1⟩:=hr
  obtain⟨M,rfl⟩:∃M,N=M+1:=⟨N-1,by omega⟩
  simp only[ho1,qBq,qAt,zDo z i pr' b _ hz,j0]
  exact⟨_,rfl,qPg hz hi⟩
 |inr q=>
  rw[h] at hr
  obtain⟨⟨f1,f2,f3,f4⟩,f5⟩:=hS p q.1 q.2 hp hb h
  have hr':o=(gR ts pr q.1,(q.2:Int)):=hr
  obtain⟨o2,ho2,hr2⟩:=zCb (N:=N) hok hl hS h1 h1b (ts.length+1) N q.2 q.1 f2 f4 f5 (by omega) (by omega)
  simp only[hr',qBq,ho2,j0]
  exact⟨_,rfl,hr2⟩
theorem zUy(h1b:∀(z:Flt) (i:Nat) (pr':List ByteArray) (b:List Ex),z.2≠0→i<ts.length→∃v,r1 (bR ts z i pr' b) d=some (bR ts z i pr' b,v))(hN:0<N)
  (z:Flt) (i:Nat) (pr':List ByteArray) (b:List Ex) (hz:z.2≠0) (hi:i<ts.length):∃v,qDu N r1 r2 r3 r4 (bR ts z i pr' b) d=some (bR ts z i pr' b,v):=by
 obtain⟨v,hv⟩:=h1b z i pr' b hz hi
 obtain⟨M,rfl⟩:∃M,N=M+1:=⟨N-1,by omega⟩
 simp only[qDu,Prod.eta,hv,j0,qAt,zDo z i pr' b _ hz]
 exact⟨_,rfl⟩
theorem rsum(hok:OkT ts)(hl:ts.length<1000000)(hN:1000002<N)(hS:Adv ts S)
  (h2:∀p:Ps,p.1<ts.length→p.2.length≤256→∃o,r2 (gR ts pr p) d=some o∧relR ts pr (S p) o)
  (h2b:∀(z:Flt) (i:Nat) (pr':List ByteArray) (b:List Ex),z.2≠0→i<ts.length→∃v,r2 (bR ts z i pr' b) d=some (bR ts z i pr' b,v))
  (p:Ps) (hp:p.1<ts.length) (hb:p.2.length≤256):∃o,qEa N r1 r2 r3 r4 (gR ts pr p) d=some o∧relR ts pr (qOu ts 2 S p) o:=by
 obtain⟨o,ho,hr⟩:=h2 p hp hb
 simp only[qEa,Prod.eta,ho,j0,qOu]
 cases h:S p with
 |inl z=>
  rw[h] at hr
  obtain⟨hz,i,pr',b,hi,ho1⟩:=hr
  obtain⟨M,rfl⟩:∃M,N=M+1:=⟨N-1,by omega⟩
  simp only[ho1,qBq,qAt,zJh z i pr' b _ hz,j0]
  exact⟨_,rfl,qPg hz hi⟩
 |inr q=>
  rw[h] at hr
  obtain⟨⟨f1,f2,f3,f4⟩,f5⟩:=hS p q.1 q.2 hp hb h
  have hr':o=(gR ts pr q.1,(q.2:Int)):=hr
  obtain⟨o2,ho2,hr2⟩:=zHg (N:=N) hok hl hS h2 h2b (ts.length+1) N q.2 q.1 f2 f4 f5 (by omega) (by omega)
  simp only[hr',qBq,ho2,j0]
  exact⟨_,rfl,hr2⟩
theorem rsum_b(h2b:∀(z:Flt) (i:Nat) (pr':List ByteArray) (b:List Ex),z.2≠0→i<ts.length→∃v,r2 (bR ts z i pr' b) d=some (bR ts z i pr' b,v))(hN:0<N)
  (z:Flt) (i:Nat) (pr':List ByteArray) (b:List Ex) (hz:z.2≠0) (hi:i<ts.length):∃v,qEa N r1 r2 r3 r4 (bR ts z i pr' b) d=some (bR ts z i pr' b,v):=by
 obtain⟨v,hv⟩:=h2b z i pr' b hz hi
 obtain⟨M,rfl⟩:∃M,N=M+1:=⟨N-1,by omega⟩
 simp only[qEa,Prod.eta,hv,j0,qAt,zJh z i pr' b _ hz]
 exact⟨_,rfl⟩
theorem zUo(z:Flt)(i:Nat)(pr':List ByteArray)(b:List Ex)(hz:z.2≠0)(hi:i<ts.length):qCw N r1 r2 r3 r4 (bR ts z i pr' b) d=some (bR ts z i pr' b,0):=by
 have g0:((bR ts z i pr' b).2.2.2.1 !=0)=true:=by simpa[bR] using hz
 simp only[qCw,Prod.eta,qRm hi,j0,qPb hz]
 have:((if decide (d>32)=true then some (bR ts z i pr' b) else some (bR ts z i pr' b)):Option RT)=some (bR ts z i pr' b):=by split<;>rfl
 simp only[this,j0,g0,jK]
theorem zUf(hd:d>32)(p:Ps)(hp:p.1<ts.length):∃o,qCw N r1 r2 r3 r4 (gR ts pr p) d=some o∧relR ts pr (qEb ts pr 0 p) o:=by
 have hd':decide (d>32)=true:=by simpa using hd
 simp only[qCw,Prod.eta,qLi p hp,j0,hd',jK,qLv]
 have g0:((bR ts ((tkAt ts p.1).2.2.2,2) p.1 pr p.2).2.2.2.1 !=0)=true:=by rfl
 simp only[g0,jK]
 exact⟨_,rfl,qPg (show(2:Int)≠0 by decide) hp⟩
theorem rexpr{k:Nat}(hok:OkT ts)(hl:ts.length<1000000)(hd:d+k=32)(hA:Adv ts (qEb ts pr k))(hS:Adv ts (sumC ts pr (qEb ts pr k)))
  (hEg:∀p:Ps,p.1<ts.length→p.2.length≤256→∃o,r4 (gR ts pr p) (IntKind.wrap .i64 (d+1))=some o∧relR ts pr (qEb ts pr k p) o)
  (hEb:∀(z:Flt) (i:Nat) (pr':List ByteArray) (b:List Ex),z.2≠0→i<ts.length→∃v,r4 (bR ts z i pr' b) (IntKind.wrap .i64 (d+1))=some (bR ts z i pr' b,v))
  (h3:∀p:Ps,p.1<ts.length→p.2.length≤256→∃o,r3 (gR ts pr p) d=some o∧relR ts pr (sumC ts pr (qEb ts pr k) p) o)
  (h3b:∀(z:Flt) (i:Nat) (pr':List ByteArray) (b:List Ex),z.2≠0→i<ts.length→∃v,r3 (bR ts z i pr' b) d=some (bR ts z i pr' b,v))
  (p:Ps) (hp:p.1<ts.length) (hb:p.2.length≤256):∃o,qCw N r1 r2 r3 r4 (gR ts pr p) d=some o∧relR ts pr (qEb ts pr (k+1) p) o:=by
 have hd':decide (d>32)=false:=jX (by omega)
 have g0:((gR ts pr p).2.2.2.1 !=0)=false:=rfl
 simp only[qCw,Prod.eta,qLi p hp,j0,hd',jB,jH,g0,qNn p hp hl,qEb]
 rcases qEl (isC ts 1 sIf p.1) with c1|c1
 rotate_left
 ·have c1':isC ts 1 ⟨#[105,102]⟩ p.1=false:=c1
  simp only[c1,c1',jB,jH]
  obtain⟨o,ho,hr⟩:=h3 p hp hb
  simp only[ho,j0,qVn,qOu]
  cases h:sumC ts pr (qEb ts pr k) p with
  |inl z=>
   rw[h] at hr
   obtain⟨hz,i,pr',b,hi,ho1⟩:=hr
   simp only[ho1,qRm hi,zEm hz,j0,jB,jH,qBq]
   exact⟨_,rfl,qPg hz hi⟩
  |inr q=>
   rw[h] at hr
   obtain⟨⟨f1,f2,f3,f4⟩,f5⟩:=hS p q.1 q.2 hp hb h
   have hr':o=(gR ts pr q.1,(q.2:Int)):=hr
   simp only[hr',qLi q.1 f2,qMi q.1 f2 hl,j0,qBq,qQj]
   have go:∀op,op≠0→opC ts 1 q.1.1=op→∃o,((r3 (gR ts pr (q.1.1+1,q.1.2)) d).bind fun y18=>(qAo N y18.1 (4,0,op,⟨#[]⟩,[(q.2:Int),y18.2]) (tkAt ts q.1.1).2.2.2).bind fun y19=>some y19)=some o∧
     relR ts pr (if opC ts 1 q.1.1=0 then .inr (q.1,q.2) else qBq (sumC ts pr (qEb ts pr k) (q.1.1+1,q.1.2)) fun a=>qBq (qLp (tkAt ts q.1.1) (4,0,opC ts 1 q.1.1,⟨#[]⟩,[(q.2:Int),(a.2:Int)]) a.1) fun r=> .inr r) o:=by
    intro op hne hop
    have g:=hok.next f2 (show(tkAt ts q.1.1).1≠5 by rw[zQh (L:=1) (by rw[hop];exact hne)];decide)
    obtain⟨o2,ho2,hr2⟩:=h3 (q.1.1+1,q.1.2) g f4
    rw[hop,if_neg hne]
    simp only[ho2,j0,obs]
    cases h2:sumC ts pr (qEb ts pr k) (q.1.1+1,q.1.2) with
    |inl z=>
     rw[h2] at hr2
     obtain⟨hz,i,pr',b,hi,ho1⟩:=hr2
     simp only[ho1,qBq]
     exact qVl hz hi _ _
    |inr a=>
     rw[h2] at hr2
     obtain⟨⟨j1,j2,j3,j4⟩,j5⟩:=hS (q.1.1+1,q.1.2) a.1 a.2 g f4 h2
     have hr2':o2=(gR ts pr a.1,(a.2:Int)):=hr2
     simp only[hr2',qBq]
     obtain⟨o3,ho3,hr3⟩:=qSt (N:=N) (pr:=pr) (tkAt ts q.1.1) (4,0,op,⟨#[]⟩,[(q.2:Int),(a.2:Int)]) a.1 j2 j4
     refine⟨o3,ho3,?_⟩
     cases hn:qLp (tkAt ts q.1.1) (4,0,op,⟨#[]⟩,[(q.2:Int),(a.2:Int)]) a.1<;>rw[hn] at hr3<;>exact hr3
   have h1:=op_1 (ts:=ts) (i:=q.1.1)
   rcases qEl (isC ts 4 ⟨#[60]⟩ q.1.1) with c2|c2
   ·simp only[c2,jK] at h1
    obtain⟨o4,ho4,hr4⟩:=go 6 (by decide) h1
    simp only[c2,jK,j0]
    exact⟨o4,ho4,by simpa only[qBq] using hr4⟩
   rcases qEl (isC ts 4 ⟨#[61,61]⟩ q.1.1) with c3|c3
   ·simp only[c2,c3,jK,jB,jH] at h1
    obtain⟨o4,ho4,hr4⟩:=go 7 (by decide) h1
    simp only[c2,c3,jK,j0,jB,jH,qMi q.1 f2 hl]
    exact⟨o4,ho4,by simpa only[qBq] using hr4⟩
   ·simp only[c2,c3,jB,jH] at h1
    simp only[c2,c3,j0,jB,jH,qMi q.1 f2 hl]
    rw[if_pos h1]
    exact⟨_,rfl,rfl⟩
 have c1':isC ts 1 ⟨#[105,102]⟩ p.1=true:=c1
 have g:=qFv hok hp (by decide) c1
 simp only[c1,c1',jK]
 -- behind an error
 have badN:∀{z:Flt} {i:Nat} {pr':List ByteArray} {b:List Ex} (x y w:Int),z.2≠0→i<ts.length→∃o,((qAo N (bR ts z i pr' b) (5,0,0,⟨#[]⟩,[x,y,w]) (tkAt ts p.1).2.2.2).bind fun y13=>some y13)=some o∧relR ts pr (.inl z) o:=by
  intro z i pr' b x y w hz hi
  simp only[obs]
  exact qVl hz hi _ _
 have nf:∀b:Bool,(if(!b)=true then(0:Nat) else 1)=if b=true then 1 else 0:=by intro b;cases b<;>rfl
 obtain⟨oa,hoa,hra⟩:=hEg (p.1+1,p.2) g hb
 simp only[hoa,j0]
 cases ha:qEb ts pr k (p.1+1,p.2) with
 |inl z=>
  rw[ha] at hra
  obtain⟨hz,i,pr',b,hi,ho1⟩:=hra
  obtain⟨v,hv⟩:=hEb z i pr' b hz hi
  simp only[ho1,zJe hz,j0,kJ,jK,qRm hi,qPb hz,hv,qBq]
  exact badN _ _ _ hz hi
 |inr a=>
  rw[ha] at hra
  obtain⟨⟨a1,a2,a3,a4⟩,a5⟩:=hA (p.1+1,p.2) a.1 a.2 g hb ha
  have hra':oa=(gR ts pr a.1,(a.2:Int)):=hra
  have hth:qWh ts zMd a.1.1=if isC ts 1 ⟨#[116,104,101,110]⟩ a.1.1=true then .inr (a.1.1+1) else qHl (tkAt ts a.1.1) 9:=rfl
  simp only[hra',qNn a.1 a2 hl,j0,qBq,hth]
  rcases qEl (isC ts 1 ⟨#[116,104,101,110]⟩ a.1.1) with c2|c2
  rotate_left
  ·have hz:(((tkAt ts a.1.1).2.2.2,(9:Int)):Flt).2≠0:=show(9:Int)≠0 by decide
   obtain⟨v,hv⟩:=hEb ((tkAt ts a.1.1).2.2.2,9) a.1.1 pr a.1.2 hz a2
   simp only[c2,jB,jH,kJ,jK,qLi a.1 a2,qLv,j0,hv,zJe hz,qRm a2,qPb hz,qHl]
   exact badN _ _ _ hz a2
  have g1:=qFv hok a2 (by decide) c2
  obtain⟨ob,hob,hrb⟩:=hEg (a.1.1+1,a.1.2) g1 a4
  simp only[c2,jK,kQ,jB,jH,j0,hob]
  cases hb1:qEb ts pr k (a.1.1+1,a.1.2) with
  |inl z=>
   rw[hb1] at hrb
   obtain⟨hz,i,pr',b,hi,ho1⟩:=hrb
   obtain⟨v,hv⟩:=hEb z i pr' b hz hi
   simp only[ho1,zJe hz,j0,kJ,jK,qRm hi,qPb hz,hv]
   exact badN _ _ _ hz hi
  |inr b=>
   rw[hb1] at hrb
   obtain⟨⟨b1,b2,b3,b4⟩,b5⟩:=hA (a.1.1+1,a.1.2) b.1 b.2 g1 a4 hb1
   have hrb':ob=(gR ts pr b.1,(b.2:Int)):=hrb
   have hel:qWh ts zMi b.1.1=if isC ts 1 ⟨#[101,108,115,101]⟩ b.1.1=true then .inr (b.1.1+1) else qHl (tkAt ts b.1.1) 9:=rfl
   simp only[hrb',qNn b.1 b2 hl,j0,hel]
   rcases qEl (isC ts 1 ⟨#[101,108,115,101]⟩ b.1.1) with c3|c3
   rotate_left
   ·have hz:(((tkAt ts b.1.1).2.2.2,(9:Int)):Flt).2≠0:=show(9:Int)≠0 by decide
    obtain⟨v,hv⟩:=hEb ((tkAt ts b.1.1).2.2.2,9) b.1.1 pr b.1.2 hz b2
    simp only[c3,jB,jH,kJ,jK,qLi b.1 b2,qLv,j0,hv,qHl]
    exact badN _ _ _ hz b2
   have g2:=qFv hok b2 (by decide) c3
   obtain⟨oc,hoc,hrc⟩:=hEg (b.1.1+1,b.1.2) g2 b4
   simp only[c3,jK,kQ,jB,jH,j0,hoc]
   cases hc1:qEb ts pr k (b.1.1+1,b.1.2) with
   |inl z=>
    rw[hc1] at hrc
    obtain⟨hz,i,pr',b',hi,ho1⟩:=hrc
    simp only[ho1]
    exact badN _ _ _ hz hi
   |inr c=>
    rw[hc1] at hrc
    obtain⟨⟨c1,c2,c3,c4⟩,c5⟩:=hA (b.1.1+1,b.1.2) c.1 c.2 g2 b4 hc1
    have hrc':oc=(gR ts pr c.1,(c.2:Int)):=hrc
    simp only[hrc',obs]
    exact qSt (N:=N) (pr:=pr) (tkAt ts p.1) (5,0,0,⟨#[]⟩,[(a.2:Int),(b.2:Int),(c.2:Int)]) c.1 c2 c4
end
end
section
open Go Go.Dc
section
variable {N:Nat} {ts:List Tok} {pr:List ByteArray}
theorem zEb(D:Nat)(hD:1≤D)(d:Int)(z:Flt)(i:Nat)(pr':List ByteArray)(b:List Ex)(hz:z.2≠0)(hi:i<ts.length):∃v,(qAh N D).2.2.2 (bR ts z i pr' b) d=some (bR ts z i pr' b,v):=by
 obtain⟨D',rfl⟩:∃D',D=D'+1:=⟨D-1,by omega⟩
 simp only[qAh]
 exact⟨_,zUo z i pr' b hz hi⟩
theorem zCy(D:Nat)(hD:1≤D)(d:Int)(z:Flt)(i:Nat)(pr':List ByteArray)(b:List Ex)(hz:z.2≠0)(hi:i<ts.length):∃v,(qAh N D).1 (bR ts z i pr' b) d=some (bR ts z i pr' b,v):=by
 obtain⟨D',rfl⟩:∃D',D=D'+1:=⟨D-1,by omega⟩
 simp only[qAh]
 exact⟨_,zPq hz hi⟩
theorem zKy(hN:0<N)(D:Nat)(hD:2≤D)(d:Int)(z:Flt)(i:Nat)(pr':List ByteArray)(b:List Ex)(hz:z.2≠0)(hi:i<ts.length):∃v,(qAh N D).2.1 (bR ts z i pr' b) d=some (bR ts z i pr' b,v):=by
 obtain⟨D',rfl⟩:∃D',D=D'+1:=⟨D-1,by omega⟩
 simp only[qAh]
 exact zUy (fun z i pr' b hz hi=>zCy D' (by omega) d z i pr' b hz hi) hN z i pr' b hz hi
theorem zTv(hN:0<N)(D:Nat)(hD:3≤D)(d:Int)(z:Flt)(i:Nat)(pr':List ByteArray)(b:List Ex)(hz:z.2≠0)(hi:i<ts.length):∃v,(qAh N D).2.2.1 (bR ts z i pr' b) d=some (bR ts z i pr' b,v):=by
 obtain⟨D',rfl⟩:∃D',D=D'+1:=⟨D-1,by omega⟩
 simp only[qAh]
 exact rsum_b (fun z i pr' b hz hi=>zKy hN D' (by omega) d z i pr' b hz hi) hN z i pr' b hz hi
theorem zQd(hok:OkT ts)(hl:ts.length<1000000)(hpr:pr.length<1000)(hN:1000002<N):∀(k D:Nat),k≤32→4*k+1≤D→∀p:Ps,p.1<ts.length→p.2.length≤256→
  ∃o,(qAh N D).2.2.2 (gR ts pr p) (33-(k:Int))=some o∧relR ts pr (qEb ts pr k p) o
 |0,0,_,h,_,_,_=>by omega
 |0,D+1,_,_,p,hp,_=>by simp only[qAh];exact zUf (by omega) p hp
 |k+1,D,hk,hD,p,hp,hb=>by
  have hA:=qOs (ts:=ts) (params:=pr) hok k
  have hF:=qWj (params:=pr) hok hA
  have hT:Adv ts (zNc ts pr (qEb ts pr k)):=qPc hok hF
  have hS:Adv ts (sumC ts pr (qEb ts pr k)):=qPc hok hT
  have hE:∀D,4*k+1≤D→∀p:Ps,p.1<ts.length→p.2.length≤256→∃o,(qAh N D).2.2.2 (gR ts pr p) (IntKind.wrap .i64 (32-(k:Int)+1))=some o∧relR ts pr (qEb ts pr k p) o:=by
   intro D hD p hp hb
   rw[wi64 (by omega) (by omega),show 32-(k:Int)+1=33-(k:Int) by omega]
   exact zQd hok hl hpr hN k D (by omega) hD p hp hb
  have h1:∀D,4*k+2≤D→∀p:Ps,p.1<ts.length→p.2.length≤256→∃o,(qAh N D).1 (gR ts pr p) (32-(k:Int))=some o∧relR ts pr (qJy ts pr (qEb ts pr k) p) o:=by
   intro D hD p hp hb
   obtain⟨D',rfl⟩:∃D',D=D'+1:=⟨D-1,by omega⟩
   simp only[qAh]
   exact zTp (hE D' (by omega)) (fun z i pr' b hz hi=>zEb D' (by omega) _ z i pr' b hz hi) hok hl hpr hN hA p hp hb
  have h2:∀D,4*k+3≤D→∀p:Ps,p.1<ts.length→p.2.length≤256→∃o,(qAh N D).2.1 (gR ts pr p) (32-(k:Int))=some o∧relR ts pr (zNc ts pr (qEb ts pr k) p) o:=by
   intro D hD p hp hb
   obtain⟨D',rfl⟩:∃D',D=D'+1:=⟨D-1,by omega⟩
   simp only[qAh]
   exact rterm hok hl hN hF (h1 D' (by omega)) (fun z i pr' b hz hi=>zCy D' (by omega) _ z i pr' b hz hi) p hp hb
  have h3:∀D,4*k+4≤D→∀p:Ps,p.1<ts.length→p.2.length≤256→∃o,(qAh N D).2.2.1 (gR ts pr p) (32-(k:Int))=some o∧relR ts pr (sumC ts pr (qEb ts pr k) p) o:=by
   intro D hD p hp hb
   obtain⟨D',rfl⟩:∃D',D=D'+1:=⟨D-1,by omega⟩
   simp only[qAh]
   exact rsum hok hl hN hT (h2 D' (by omega)) (fun z i pr' b hz hi=>zKy (by omega) D' (by omega) _ z i pr' b hz hi) p hp hb
  obtain⟨D',rfl⟩:∃D',D=D'+1:=⟨D-1,by omega⟩
  rw[show(33:Int)-((k+1:Nat):Int)=32-(k:Int) by omega]
  simp only[qAh]
  exact rexpr hok hl (by omega) hA hS (hE D' (by omega)) (fun z i pr' b hz hi=>zEb D' (by omega) _ z i pr' b hz hi) (h3 D' (by omega)) (fun z i pr' b hz hi=>zTv (by omega) D' (by omega) _ z i pr' b hz hi) p hp hb
theorem zSf(hok:OkT ts)(hl:ts.length<1000000)(hpr:pr.length<1000)(hN:1000002<N)(p:Ps)(hp:p.1<ts.length)(hb:p.2.length≤256):
 ∃o,qDp N (gR ts pr p) 1=some o∧relR ts pr (qEb ts pr 32 p) o:=zQd hok hl hpr hN 32 N (by omega) (by omega) p hp hb
theorem qZw(hN:1≤N)(z:Flt)(i:Nat)(pr':List ByteArray)(b:List Ex)(hz:z.2≠0)(hi:i<ts.length):∃v,qDp N (bR ts z i pr' b) 1=some (bR ts z i pr' b,v):=zEb N hN 1 z i pr' b hz hi
abbrev RL:=List Tok×Int×Int×Int×List ByteArray×List Ex×List Int×List ByteArray
def addL(st:RT)(l:List ByteArray):RL:=(st.1,st.2.1,st.2.2.1,st.2.2.2.1,st.2.2.2.2.1,st.2.2.2.2.2.1,st.2.2.2.2.2.2,l)
def zFj(ts:List Tok)(n:Nat)(l:List ByteArray)(i:Nat):Flt⊕(Nat×List ByteArray):=
 if isC ts 4 qOj i then qPj ts n l (i+1) else qBq (qEx ts qEw i) fun j=> .inr (j,l)
theorem zMn(n:Nat)(l:List ByteArray)(i:Nat):qPj ts (n+1) l i=qBq (qOa ts i) fun a=>if l.length=8 then qHl a.2 2 else if a.2.2.1∈l then qHl a.2 10 else zFj ts n (l++[a.2.2.1]) a.1:=rfl
def relP(ts:List Tok)(pr:List ByteArray)(b:List Ex)(r:Flt⊕(Nat×List ByteArray))(o:RL):Prop:=
 match r with
 | .inl z=>∃st l,Bad ts z st∧o=addL st l
 | .inr q=>o=addL (gR ts pr (q.1,b)) q.2
theorem qQy{z:Flt}{i:Nat}{pr':List ByteArray}{b:List Ex}(hz:z.2≠0)(M:Nat)(l:List ByteArray):qAt (qBb N) (M+1) (addL (bR ts z i pr' b) l)=some (addL (bR ts z i pr' b) l):=by
 have hz':((addL (bR ts z i pr' b) l).2.2.2.1==0)=false:=by simpa[bR,addL] using hz
 simp only[qAt,qBb,hz',jB,jH,j0]
theorem zCa(hl:ts.length<1000000)(hN:1000002<N){i:Nat}{b:List Ex}{l:List ByteArray}(hi:i<ts.length)(hl8:l.length≤8){G:RL→Option RL}{n:Nat}
  (hbad:∀(z:Flt) (i:Nat) (pr':List ByteArray) (b:List Ex) (l:List ByteArray),z.2≠0→G (addL (bR ts z i pr' b) l)=some (addL (bR ts z i pr' b) l))
  (hok:OkT ts)
  (ih:∀(s:ByteArray),i+1<ts.length→l.length<8→∃o,G (addL (gR ts pr (i+1,b)) (l++[s]))=some o∧relP ts pr b (zFj ts n (l++[s]) (i+1)) o):
  ∃o,((qAm N (gR ts pr (i,b))).bind fun y15=>(qBf N y15.1).bind fun y16=>(if((l.length:Int)==8)=true then((qAn N y16.1 y15.2.2.2.2 2).bind fun y17=>some y17) else(some y16.1):Option RT).bind fun o10=>(qCy N l y16.2).bind fun y18=>(if y18=true then((qAn N o10 y15.2.2.2.2 10).bind fun y19=>some y19) else(some o10):Option RT).bind fun o11=>(qCx 16 l ([y16.2])).bind fun l1=>G (addL o11 l1))=some o∧
   relP ts pr b (qPj ts (n+1) l i) o:=by
 rw[zMn]
 simp only[qLi (i,b) hi,j0,qXv (i,b) hi hl (by omega:100<N),obs]
 have happ:∀s:ByteArray,qCx 16 l [s]=some (l++[s]):=fun s=>qDm (by simp only[jD,jF];omega) (by omega)
 have hhas:∀s,qCy N l s=some (decide (s∈l)):=fun s=>rhas (by omega) (by omega)
 -- behind an error
 have hb2:∀(z:Flt) (i:Nat) (pr':List ByteArray) (b':List Ex) (s:ByteArray) (a:Int),z.2≠0→i<ts.length→∃o,((qCy N l s).bind fun y18=>(if y18=true then qAn N (bR ts z i pr' b') a 10 else(some (bR ts z i pr' b')):Option RT).bind fun o11=>(qCx 16 l ([s])).bind fun l1=>G (addL o11 l1))=some o∧relP ts pr b (.inl z) o:=by
  intro z i pr' b' s a hz hi
  simp only[hhas,j0,qPb hz]
  have:((if decide (s∈l)=true then some (bR ts z i pr' b') else some (bR ts z i pr' b')):Option RT)=some (bR ts z i pr' b'):=by split<;>rfl
  simp only[this,j0,happ,hbad _ _ _ _ _ hz]
  exact⟨_,rfl,bR ts z i pr' b',_,⟨hz,i,pr',b',hi,rfl⟩,rfl⟩
 cases hx:qOa ts i with
 |inl z=>
  have hz:=zEj hx
  have:((if((l.length:Int)==8)=true then qAn N (bR ts z i pr b) (tkAt ts i).2.2.2 2 else some (bR ts z i pr b)):Option RT)=some (bR ts z i pr b):=by
   rw[qPb hz];split<;>rfl
  simp only[this,j0,qBq]
  exact hb2 z i pr b _ _ hz hi
 |inr x=>
  obtain⟨rfl,g1,-⟩:=qOc hok hi hx
  simp only[qBq]
  by_cases k1:l.length=8
  ·have k1':((l.length:Int)==8)=true:=by simp;omega
   rw[if_pos k1]
   simp only[k1',jK,qLv,j0,qHl]
   exact hb2 _ _ _ _ _ _ (show(2:Int)≠0 by decide) g1
  have k1':((l.length:Int)==8)=false:=by simp;omega
  rw[if_neg k1]
  simp only[k1',jB,jH,j0,hhas]
  by_cases k2:(tkAt ts i).2.1∈l
  ·rw[if_pos k2]
   simp only[jZ k2,jK,qLv,j0,happ,qHl]
   refine⟨_,hbad _ _ _ _ _ (show(10:Int)≠0 by decide),bR ts ((tkAt ts i).2.2.2,10) (i+1) pr b,_,⟨show(10:Int)≠0 by decide,i+1,pr,b,g1,rfl⟩,rfl⟩
  ·rw[if_neg k2]
   simp only[jX k2,jB,jH,j0,happ]
   exact ih _ g1 (by omega)
theorem zHs(hN:1000002<N){b:List Ex}{l:List ByteArray}(hl8:l.length≤8){G:RL→Option RL}
  (hbad:∀(z:Flt) (i:Nat) (pr':List ByteArray) (b:List Ex) (l:List ByteArray),z.2≠0→G (addL (bR ts z i pr' b) l)=some (addL (bR ts z i pr' b) l))
  {z:Flt} {i:Nat} {pr':List ByteArray} {b':List Ex} (hz:z.2≠0) (hi:i<ts.length):
  ∃o,((qAm N (bR ts z i pr' b')).bind fun y15=>(qBf N y15.1).bind fun y16=>(if((l.length:Int)==8)=true then((qAn N y16.1 y15.2.2.2.2 2).bind fun y17=>some y17) else(some y16.1):Option RT).bind fun o10=>(qCy N l y16.2).bind fun y18=>(if y18=true then((qAn N o10 y15.2.2.2.2 10).bind fun y19=>some y19) else(some o10):Option RT).bind fun o11=>(qCx 16 l ([y16.2])).bind fun l1=>G (addL o11 l1))=some o∧
   relP ts pr b (.inl z) o:=by
 have happ:∀s:ByteArray,qCx 16 l [s]=some (l++[s]):=fun s=>qDm (by simp only[jD,jF];omega) (by omega)
 have hhas:∀s,qCy N l s=some (decide (s∈l)):=fun s=>rhas (by omega) (by omega)
 have e3:((if((l.length:Int)==8)=true then some (bR ts z i pr' b') else some (bR ts z i pr' b')):Option RT)=some (bR ts z i pr' b'):=by split<;>rfl
 have e4:((if decide ((⟨#[]⟩:ByteArray)∈l)=true then some (bR ts z i pr' b') else some (bR ts z i pr' b')):Option RT)=some (bR ts z i pr' b'):=by split<;>rfl
 simp only[qRm hi,j0,zDp hz hi,obs,qPb hz,e3,hhas,e4,happ,hbad _ _ _ _ _ hz]
 exact⟨_,rfl,bR ts z i pr' b',_,⟨hz,i,pr',b',hi,rfl⟩,rfl⟩
theorem qYl(hok:OkT ts)(hl:ts.length<1000000)(hN:1000002<N){b:List Ex}:∀(n M:Nat) (l:List ByteArray) (i:Nat),l≠[]→i<ts.length→l.length≤8→ts.length<i+n→ts.length+2<i+M→
  ∃o,qAt (qBb N) M (addL (gR ts pr (i,b)) l)=some o∧relP ts pr b (zFj ts n l i) o
 |0,M,l,i,_,hi,_,h,_=>by omega
 |n+1,0,l,i,_,hi,_,_,h=>by omega
 |n+1,M+1,l,i,hne,hi,hl8,hn,hM=>by
  have hs:=qMi (N:=N) (pr:=pr) (i,b) hi hl ⟨#[41]⟩
  have hpos:decide ((l.length:Int)>0)=true:=by
   have:=fC.2 hne
   exact jZ (by omega)
  have g0:((addL (gR ts pr (i,b)) l).2.2.2.1==0)=true:=rfl
  have e1:∀st:RT,∀l,((addL st l).1,(addL st l).2.1,(addL st l).2.2.1,(addL st l).2.2.2.1,(addL st l).2.2.2.2.1,(addL st l).2.2.2.2.2.1,(addL st l).2.2.2.2.2.2.1)=st:=fun _ _=>rfl
  have e2:∀st:RT,∀l,(addL st l).2.2.2.2.2.2.2=l:=fun _ _=>rfl
  simp only[qAt,qBb,g0,jK,e1,e2,hs,j0,hpos]
  rcases qEl (isC ts 4 ⟨#[41]⟩ i) with c1|c1
  ·simp only[c1,jK,kQ,jB,jH]
   refine⟨_,rfl,?_⟩
   have c2:isC ts 4 qOj i=false:=by
    simp only[isC,jO,jA] at c1
    simp[isC,c1.2,qOj]
   have c3:qEx ts qEw i= .inr (i+1):=by simp[qEx,qEw,c1]
   simp only[zFj,c2,jB,jH,c3,qBq]
   rfl
  ·have hcc:isC ts 4 qOj i=isC ts 4 ⟨#[44]⟩ i:=rfl
   simp only[c1,jB,jH,kJ,jK,Prod.eta,qPp (i,b) hi hl,j0,zFj,hcc,qEx]
   rcases qEl (isC ts 4 ⟨#[44]⟩ i) with c2|c2
   ·have g:=qFv hok hi (by decide) c2
    simp only[c2,jK]
    obtain⟨o,ho,hr⟩:=zCa (N:=N) (pr:=pr) (b:=b) (l:=l) (n:=n) (G:=qAt (qBb N) M) hl hN g hl8 (fun z i pr' b l hz=>by
     obtain⟨M',rfl⟩:∃M',M=M'+1:=⟨M-1,by omega⟩
     exact qQy hz M' l) hok (fun s g2 g3=>qYl hok hl hN n M (l++[s]) (i+1+1) (by simp) g2 (by simp only[jC,jD,jF];omega) (by omega) (by omega))
    refine⟨o,Eq.trans ?_ ho,hr⟩
    simp only[fM,j0]
    rfl
   ·have c1':isC ts 4 qEw i=false:=c1
    simp only[c2,c1',jB,jH,qHl,qBq]
    obtain⟨o,ho,hr⟩:=zHs (N:=N) (pr:=pr) (b:=b) (l:=l) (z:=((tkAt ts i).2.2.2,9)) (i:=i) (pr':=pr) (b':=b) (G:=qAt (qBb N) M) hN hl8 (fun z i pr' b l hz=>by
     obtain⟨M',rfl⟩:∃M',M=M'+1:=⟨M-1,by omega⟩
     exact qQy hz M' l) (show(9:Int)≠0 by decide) hi
    refine⟨o,Eq.trans ?_ ho,hr⟩
    simp only[fM,j0]
    rfl
theorem zUh(hok:OkT ts)(hl:ts.length<1000000)(hN:1000005<N){b:List Ex}(i:Nat)(hi:i<ts.length):
  ∃o,qAt (qBb N) N (addL (gR ts pr (i,b)) [])=some o∧relP ts pr b (if isC ts 4 qEw i then .inr (i+1,[]) else qPj ts (ts.length+1) [] i) o:=by
 obtain⟨M,hM⟩:∃M,N=M+1:=⟨N-1,by omega⟩
 have hs:=qMi (N:=N) (pr:=pr) (i,b) hi hl ⟨#[41]⟩
 have g0:((addL (gR ts pr (i,b)) []).2.2.2.1==0)=true:=rfl
 have hnil:decide ((([]:List ByteArray).length:Int)>0)=false:=rfl
 have e1:∀st:RT,∀l,((addL st l).1,(addL st l).2.1,(addL st l).2.2.1,(addL st l).2.2.2.1,(addL st l).2.2.2.2.1,(addL st l).2.2.2.2.2.1,(addL st l).2.2.2.2.2.2.1)=st:=fun _ _=>rfl
 have e2:∀st:RT,∀l,(addL st l).2.2.2.2.2.2.2=l:=fun _ _=>rfl
 have e0:qAt (qBb N) N (addL (gR ts pr (i,b)) [])=qAt (qBb N) (M+1) (addL (gR ts pr (i,b)) []):=by rw[←hM]
 rw[e0]
 simp only[qAt,qBb,g0,jK,e1,e2,hs,j0,hnil,qEw]
 rcases qEl (isC ts 4 ⟨#[41]⟩ i) with c1|c1
 ·simp only[c1,jK,kQ,jB,jH]
  exact⟨_,rfl,rfl⟩
 ·simp only[c1,jB,jH,kJ,jK,Prod.eta,j0]
  obtain⟨o,ho,hr⟩:=zCa (N:=N) (pr:=pr) (b:=b) (l:=[]) (n:=ts.length) (G:=qAt (qBb N) M) hl (by omega) hi (by simp) (fun z i pr' b l hz=>by
   obtain⟨M',rfl⟩:∃M',M=M'+1:=⟨M-1,by omega⟩
   exact qQy hz M' l) hok (fun s g2 g3=>qYl hok hl (by omega) ts.length M ([]++[s]) (i+1) (by simp) g2 (by simp) (by omega) (by omega))
  refine⟨o,Eq.trans ?_ ho,hr⟩
  simp only[fM,j0]
  rfl
end
end
section
open Go Go.Dc
section
variable {N:Nat} {ts:List Tok} {pr:List ByteArray}
def relD(ts:List Tok)(r:Flt⊕(Nat×Dl))(o:RT×Dl):Prop:=
 match r with
 | .inl z=>Bad ts z o.1
 | .inr a=>o=(gR ts a.2.2.2.1 (a.1,a.2.2.2.2),a.2)
def qRz(N:Nat)(st:RT)(k:Int)(nm:ByteArray):Option (RT×Dl):=
 ((if(k==1)=true then((qAj N st (⟨#[40]⟩:ByteArray)).bind fun y12=>qAt (qBb N) N (addL y12 [])) else(some (addL st [])):Option RL)).bind fun o6=>
 (qAj N (o6.1,o6.2.1,o6.2.2.1,o6.2.2.2.1,o6.2.2.2.2.2.2.2,o6.2.2.2.2.2.1,o6.2.2.2.2.2.2.1) (⟨#[61]⟩:ByteArray)).bind fun y20=>
 (qDp N y20 1).bind fun y21=>(qAj N y21.1 (⟨#[59]⟩:ByteArray)).bind fun y22=>some (y22,(k,nm,o6.2.2.2.2.2.2.2,y22.2.2.2.2.2.1))
theorem zBh(hN:1000005<N){z:Flt}{i:Nat}{b:List Ex}(hz:z.2≠0)(hi:i<ts.length)(k:Int)(nm:ByteArray):∃o,qRz N (bR ts z i pr b) k nm=some o∧Bad ts z o.1:=by
 have tail:∀(i:Nat) (pr:List ByteArray) (b:List Ex) (l:List ByteArray),i<ts.length→∃o,((qAj N ((addL (bR ts z i pr b) l).1,(addL (bR ts z i pr b) l).2.1,(addL (bR ts z i pr b) l).2.2.1,(addL (bR ts z i pr b) l).2.2.2.1,(addL (bR ts z i pr b) l).2.2.2.2.2.2.2,(addL (bR ts z i pr b) l).2.2.2.2.2.1,(addL (bR ts z i pr b) l).2.2.2.2.2.2.1) (⟨#[61]⟩:ByteArray)).bind fun y20=>
   (qDp N y20 1).bind fun y21=>(qAj N y21.1 (⟨#[59]⟩:ByteArray)).bind fun y22=>some (y22,(k,nm,(addL (bR ts z i pr b) l).2.2.2.2.2.2.2,y22.2.2.2.2.2.1)))=some o∧Bad ts z o.1:=by
  intro i pr b l hi
  have e:((addL (bR ts z i pr b) l).1,(addL (bR ts z i pr b) l).2.1,(addL (bR ts z i pr b) l).2.2.1,(addL (bR ts z i pr b) l).2.2.2.1,(addL (bR ts z i pr b) l).2.2.2.2.2.2.2,(addL (bR ts z i pr b) l).2.2.2.2.2.1,(addL (bR ts z i pr b) l).2.2.2.2.2.2.1)=bR ts z i l b:=rfl
  obtain⟨v,hv⟩:=qZw (N:=N) (by omega) z i l b hz hi
  simp only[e,qOd hz hi,j0,hv]
  exact⟨_,rfl,hz,i,l,b,hi,rfl⟩
 obtain⟨M,hM⟩:∃M,N=M+1:=⟨N-1,by omega⟩
 have hb:qAt (qBb N) N (addL (bR ts z i pr b) [])=some (addL (bR ts z i pr b) []):=by
  have e0:qAt (qBb N) N (addL (bR ts z i pr b) [])=qAt (qBb N) (M+1) (addL (bR ts z i pr b) []):=by rw[←hM]
  rw[e0];exact qQy hz M []
 unfold qRz
 rcases qEl (k==1) with c|c
 ·simp only[c,jK,qOd hz hi,j0,hb]
  exact tail i pr b [] hi
 ·simp only[c,jB,jH,j0]
  exact tail i pr b [] hi
theorem zNx(hok:OkT ts)(hl:ts.length<1000000)(hN:1000005<N)(i:Nat)(hi:i<ts.length)(k:Int)(nm:ByteArray):∃o,qRz N (gR ts pr (i,[])) k nm=some o∧
  relD ts (qBq (if k=1 then qIf ts i else .inr (i,[])) fun bq=>qBq (qEx ts sEq bq.1) fun j=>qBq (qEb ts bq.2 32 (j,[])) fun c=>qBq (qEx ts qTw c.1.1) fun m=> .inr (m,(k,nm,bq.2,c.1.2))) o:=by
 have badt:∀(z:Flt) (st:RT) (l:List ByteArray),Bad ts z st→∃o,((qAj N ((addL st l).1,(addL st l).2.1,(addL st l).2.2.1,(addL st l).2.2.2.1,(addL st l).2.2.2.2.2.2.2,(addL st l).2.2.2.2.2.1,(addL st l).2.2.2.2.2.2.1) (⟨#[61]⟩:ByteArray)).bind fun y20=>
   (qDp N y20 1).bind fun y21=>(qAj N y21.1 (⟨#[59]⟩:ByteArray)).bind fun y22=>some (y22,(k,nm,(addL st l).2.2.2.2.2.2.2,y22.2.2.2.2.2.1)))=some o∧Bad ts z o.1:=by
  rintro z st l ⟨hz,i,pr,b,hi,rfl⟩
  have e:((addL (bR ts z i pr b) l).1,(addL (bR ts z i pr b) l).2.1,(addL (bR ts z i pr b) l).2.2.1,(addL (bR ts z i pr b) l).2.2.2.1,(addL (bR ts z i pr b) l).2.2.2.2.2.2.2,(addL (bR ts z i pr b) l).2.2.2.2.2.1,(addL (bR ts z i pr b) l).2.2.2.2.2.2.1)=bR ts z i l b:=rfl
  obtain⟨v,hv⟩:=qZw (N:=N) (by omega) z i l b hz hi
  simp only[e,qOd hz hi,j0,hv]
  exact⟨_,rfl,hz,i,l,b,hi,rfl⟩
 have goodt:∀(q:Nat×List ByteArray),q.1<ts.length→q.2.length≤8→∃o,((qAj N ((addL (gR ts pr (q.1,[])) q.2).1,(addL (gR ts pr (q.1,[])) q.2).2.1,(addL (gR ts pr (q.1,[])) q.2).2.2.1,(addL (gR ts pr (q.1,[])) q.2).2.2.2.1,(addL (gR ts pr (q.1,[])) q.2).2.2.2.2.2.2.2,(addL (gR ts pr (q.1,[])) q.2).2.2.2.2.2.1,(addL (gR ts pr (q.1,[])) q.2).2.2.2.2.2.2.1) (⟨#[61]⟩:ByteArray)).bind fun y20=>
   (qDp N y20 1).bind fun y21=>(qAj N y21.1 (⟨#[59]⟩:ByteArray)).bind fun y22=>some (y22,(k,nm,(addL (gR ts pr (q.1,[])) q.2).2.2.2.2.2.2.2,y22.2.2.2.2.2.1)))=some o∧
   relD ts (qBq (qEx ts sEq q.1) fun j=>qBq (qEb ts q.2 32 (j,[])) fun c=>qBq (qEx ts qTw c.1.1) fun m=> .inr (m,(k,nm,q.2,c.1.2))) o:=by
  intro q hq hq8
  have e:((addL (gR ts pr (q.1,[])) q.2).1,(addL (gR ts pr (q.1,[])) q.2).2.1,(addL (gR ts pr (q.1,[])) q.2).2.2.1,(addL (gR ts pr (q.1,[])) q.2).2.2.2.1,(addL (gR ts pr (q.1,[])) q.2).2.2.2.2.2.2.2,(addL (gR ts pr (q.1,[])) q.2).2.2.2.2.2.1,(addL (gR ts pr (q.1,[])) q.2).2.2.2.2.2.2.1)=gR ts q.2 (q.1,[]):=rfl
  have e2:(addL (gR ts pr (q.1,[])) q.2).2.2.2.2.2.2.2=q.2:=rfl
  rw[e]
  simp only[e2,qPp (q.1,[]) hq hl,j0,sEq]
  cases hj:qEx ts ⟨#[61]⟩ q.1 with
  |inl z=>
   have hz:=qNp hj
   obtain⟨v,hv⟩:=qZw (N:=N) (by omega) z q.1 q.2 [] hz hq
   simp only[hv,j0,qOd hz hq,qBq]
   exact⟨_,rfl,hz,q.1,q.2,[],hq,rfl⟩
  |inr j=>
   obtain⟨rfl,g3,-⟩:=qGh hok hq hj
   obtain⟨o,ho,hr⟩:=zSf (N:=N) (pr:=q.2) hok hl (by omega) (by omega) (q.1+1,[]) g3 (by simp)
   simp only[ho,j0,qBq]
   cases hc:qEb ts q.2 32 (q.1+1,[]) with
   |inl z=>
    rw[hc] at hr
    obtain⟨hz,i,pr',b,hi,ho1⟩:=hr
    simp only[ho1,qOd hz hi,j0]
    exact⟨_,rfl,hz,i,pr',b,hi,rfl⟩
   |inr c=>
    rw[hc] at hr
    obtain⟨⟨f1,f2,f3,f4⟩,-⟩:=qOs hok 32 (q.1+1,[]) c.1 c.2 g3 (by simp) hc
    have hr':o=(gR ts q.2 c.1,(c.2:Int)):=hr
    simp only[hr',qPp c.1 f2 hl,j0,qTw]
    cases hm:qEx ts ⟨#[59]⟩ c.1.1 with
    |inl z=>exact⟨_,rfl,qNp hm,c.1.1,q.2,c.1.2,f2,rfl⟩
    |inr m=>exact⟨_,rfl,rfl⟩
 unfold qRz
 by_cases c:k=1
 ·have c':(k==1)=true:=by simpa using c
  simp only[c',jK,qPp (i,[]) hi hl,j0,if_pos c,qIf,qNf]
  cases h1:qEx ts ⟨#[40]⟩ i with
  |inl z=>
   have hz:=qNp h1
   obtain⟨M,hM⟩:∃M,N=M+1:=⟨N-1,by omega⟩
   have hb:qAt (qBb N) N (addL (bR ts z i pr []) [])=some (addL (bR ts z i pr []) []):=by
    have e0:qAt (qBb N) N (addL (bR ts z i pr []) [])=qAt (qBb N) (M+1) (addL (bR ts z i pr []) []):=by rw[←hM]
    rw[e0];exact qQy hz M []
   simp only[hb,j0,qBq]
   exact badt z _ [] ⟨hz,i,pr,[],hi,rfl⟩
  |inr j=>
   obtain⟨rfl,g1,-⟩:=qGh hok hi h1
   obtain⟨o,ho,hr⟩:=zUh (N:=N) (pr:=pr) (b:=[]) hok hl hN (i+1) g1
   simp only[ho,j0,qBq]
   cases hP:(if isC ts 4 qEw (i+1)=true then .inr (i+1+1,[]) else qPj ts (ts.length+1) [] (i+1):Flt⊕(Nat×List ByteArray)) with
   |inl z=>
    rw[hP] at hr
    obtain⟨st,l,hbad,rfl⟩:=hr
    exact badt z st l hbad
   |inr q=>
    rw[hP] at hr
    have hr':o=addL (gR ts pr (q.1,[])) q.2:=hr
    have hq:q.1<ts.length∧q.2.length≤8:=by
     split at hP
     ·rename_i hc
      obtain rfl:=Sum.inr.inj hP
      exact⟨qFv hok g1 (by decide) hc,by simp⟩
     ·obtain⟨_,f2,f3⟩:=qWd hok _ _ _ q g1 (by simp) hP
      exact⟨f2,f3⟩
    rw[hr']
    exact goodt q hq.1 hq.2
 ·have c':(k==1)=false:=by simpa using c
  simp only[c',jB,jH,j0,if_neg c]
  exact goodt (i,[]) hi (by simp)
def qXo(N:Nat)(f:Sr)(t:Tok)(st:RT)(k:Int):Option (RT×Dl):=
 ((if((List.length f.2.2:Int)==64)=true then qAn N st t.2.2.2 2 else some st):Option RT).bind fun o2=>(qAm N o2).bind fun y7=>
 ((if(k==3)=true then qBt N y7.1 true else qBf N y7.1):Option (RT×ByteArray)).bind fun o3=>
 ((if(o3.1.2.2.2.1==0)=true then qEv N f k o3.2 else some false):Option Bool).bind fun o4=>
 ((if o4=true then qAn N o3.1 y7.2.2.2.2 10 else some o3.1):Option RT).bind fun o5=>qRz N o5 k o3.2
theorem zMs(hN:1000005<N){f:Sr}{t:Tok}{z:Flt}{i:Nat}{b:List Ex}(hz:z.2≠0)(hi:i<ts.length)(k:Int):∃o,
  ((qAm N (bR ts z i pr b)).bind fun y7=>((if(k==3)=true then qBt N y7.1 true else qBf N y7.1):Option (RT×ByteArray)).bind fun o3=>
   ((if(o3.1.2.2.2.1==0)=true then qEv N f k o3.2 else some false):Option Bool).bind fun o4=>
   ((if o4=true then qAn N o3.1 y7.2.2.2.2 10 else some o3.1):Option RT).bind fun o5=>qRz N o5 k o3.2)=some o∧Bad ts z o.1:=by
 have hz':((bR ts z i pr b).2.2.2.1==0)=false:=by simpa[bR] using hz
 have e:((if(k==3)=true then qBt N (bR ts z i pr b) true else qBf N (bR ts z i pr b)):Option (RT×ByteArray))=some (bR ts z i pr b,⟨#[]⟩):=by
  rw[zHr hz hi,zDp hz hi];split<;>rfl
 simp only[qRm hi,j0,e,hz',jB,jH]
 exact zBh hN hz hi k _
theorem zNb(hok:OkT ts)(hl:ts.length<1000000)(hN:1000005<N){f:Sr}(hf:f.2.2.length≤64)(t:Tok)(i:Nat)(hi:i<ts.length)(k:Int):∃o,qXo N f t (gR ts pr (i,[])) k=some o∧
  relD ts (if f.2.2.length=64 then qHl t 2 else qBq (if k=3 then qQh ts i else qOa ts i) fun a=>
   if f.2.2.any (fun d=>d.1==k&&decide (d.2.1=a.2.2.1)) then qHl a.2 10
   else qBq (if k=1 then qIf ts a.1 else .inr (a.1,[])) fun b=>
    qBq (qEx ts sEq b.1) fun j=>qBq (qEb ts b.2 32 (j,[])) fun c=>
    qBq (qEx ts qTw c.1.1) fun m=> .inr (m,(k,a.2.2.1,b.2,c.1.2))) o:=by
 unfold qXo
 by_cases k1:f.2.2.length=64
 ·have k1':((f.2.2.length:Int)==64)=true:=by simp;omega
  rw[if_pos k1]
  simp only[k1',jK,qLv,j0,qHl]
  exact zMs (t:=t) hN (show(2:Int)≠0 by decide) hi k
 have k1':((f.2.2.length:Int)==64)=false:=by simp;omega
 rw[if_neg k1]
 simp only[k1',jB,jH,j0,qLi (i,[]) hi]
 have e:((if(k==3)=true then qBt N (gR ts pr (i,[])) true else qBf N (gR ts pr (i,[]))):Option (RT×ByteArray))=
   some (match(if k=3 then qQh ts i else qOa ts i) with| .inl z=>(bR ts z i pr [],⟨#[]⟩)| .inr a=>(gR ts pr (a.1,[]),a.2.2.1)):=by
  by_cases k3:k=3
  ·have k3':(k==3)=true:=by simpa using k3
   rw[if_pos k3',if_pos k3,zJq (i,[]) hi hl (by omega)]<;>rfl
  ·have k3':(k==3)=false:=by simpa using k3
   rw[if_neg (by rw[k3'];decide),if_neg k3,qXv (i,[]) hi hl (by omega)]<;>rfl
 rw[e]
 simp only[j0]
 cases hX:(if k=3 then qQh ts i else qOa ts i) with
 |inl z=>
  have hz:z.2≠0:=by
   split at hX
   ·exact zDd hX
   ·exact zEj hX
  have hz':((bR ts z i pr []).2.2.2.1==0)=false:=by simpa[bR] using hz
  simp only[hz',jB,jH,j0,qBq]
  exact zBh hN hz hi k _
 |inr a=>
  have ga:a=(i+1,tkAt ts i)∧i+1<ts.length:=by
   split at hX
   ·obtain⟨e,g1,-⟩:=qOr hok hi hX;exact⟨e,g1⟩
   ·obtain⟨e,g1,-⟩:=qOc hok hi hX;exact⟨e,g1⟩
  obtain⟨rfl,g1⟩:=ga
  have g0:((gR ts pr (i+1,[])).2.2.2.1==0)=true:=rfl
  simp only[g0,jK,zTk (N:=N) (f:=f) (k:=k) (s:=(tkAt ts i).2.1) (by omega) (by omega),j0]
  rw[show qBq (Sum.inr (i+1,tkAt ts i)) (fun a:Nat×Tok=>if f.2.2.any (fun d=>d.1==k&&decide (d.2.1=a.2.2.1))=true then qHl a.2 10
   else qBq (if k=1 then qIf ts a.1 else .inr (a.1,[])) fun b=>
    qBq (qEx ts sEq b.1) fun j=>qBq (qEb ts b.2 32 (j,[])) fun c=>
    qBq (qEx ts qTw c.1.1) fun m=>(.inr (m,(k,a.2.2.1,b.2,c.1.2)):Flt⊕(Nat×Dl)))=(if f.2.2.any (fun d=>d.1==k&&decide (d.2.1=(tkAt ts i).2.1))=true then qHl (tkAt ts i) 10
   else qBq (if k=1 then qIf ts (i+1) else .inr (i+1,[])) fun b=>
    qBq (qEx ts sEq b.1) fun j=>qBq (qEb ts b.2 32 (j,[])) fun c=>
    qBq (qEx ts qTw c.1.1) fun m=>(.inr (m,(k,(tkAt ts i).2.1,b.2,c.1.2)):Flt⊕(Nat×Dl))) from rfl]
  rcases qEl (f.2.2.any fun d=>d.1==k&&decide (d.2.1=(tkAt ts i).2.1)) with k4|k4
  ·rw[if_pos k4]
   simp only[k4,jK,qLv,j0,qHl]
   exact zBh hN (show(10:Int)≠0 by decide) g1 k _
  ·rw[if_neg (by rw[k4];decide)]
   simp only[k4,jB,jH,j0]
   exact zNx hok hl hN (i+1) g1 k _
end
end
section
open Go Go.Dc
section
variable {N:Nat} {ts:List Tok} {pr:List ByteArray}
abbrev RN:=List Tok×Int×Int×Int×List ByteArray×List Ex×List Int×ByteArray
def addN(st:RT)(l:ByteArray):RN:=(st.1,st.2.1,st.2.2.1,st.2.2.2.1,st.2.2.2.2.1,st.2.2.2.2.2.1,st.2.2.2.2.2.2,l)
theorem rdecl(hok:OkT ts)(hl:ts.length<1000000)(hN:1000005<N){f:Sr}(hf:f.2.2.length≤64)(i:Nat)(b:List Ex)(hi:i<ts.length):∃o,qHh N (gR ts pr (i,b)) f=some o∧relD ts (qSn ts f.2.2 i) o:=by
 have e0:((gR ts pr (i,b)).1,(gR ts pr (i,b)).2.1,(gR ts pr (i,b)).2.2.1,(gR ts pr (i,b)).2.2.2.1,([]:List ByteArray),([]:List Ex),(gR ts pr (i,b)).2.2.2.2.2.2)=gR ts [] (i,[]):=rfl
 have rest:∀(st:RT) (k:Int),(((if((List.length f.2.2:Int)==64)=true then((qAn N st (tkAt ts i).2.2.2 2).bind fun y6=>some y6) else(some st)):Option RT).bind fun o2=>(qAm N o2).bind fun y7=>((if(k==3)=true then((qBt N y7.1 true).bind fun y8=>some (addN y8.1 y8.2)) else((qBf N y7.1).bind fun y9=>some (addN y9.1 y9.2))):Option RN).bind fun o3=>((if(o3.2.2.2.1==0)=true then((qEv N f k o3.2.2.2.2.2.2.2).bind fun y10=>some y10) else(some false)):Option Bool).bind fun o4=>((if o4=true then((qAn N (o3.1,o3.2.1,o3.2.2.1,o3.2.2.2.1,o3.2.2.2.2.1,o3.2.2.2.2.2.1,o3.2.2.2.2.2.2.1) y7.2.2.2.2 10).bind fun y11=>some y11) else(some (o3.1,o3.2.1,o3.2.2.1,o3.2.2.2.1,o3.2.2.2.2.1,o3.2.2.2.2.2.1,o3.2.2.2.2.2.2.1))):Option RT).bind fun o5=>qRz N o5 k o3.2.2.2.2.2.2.2)=qXo N f (tkAt ts i) st k:=by
  intro st k
  unfold qXo
  simp only[obs]
  refine congrArg _ (funext fun o2=>congrArg _ (funext fun y7=> ?_))
  rcases qEl (k==3) with c|c<;>simp only[c,jK,jB,jH,fM,j0]<;>rfl
 have fin:∀(k:Int),k≠0→qNu (tkAt ts i).2.1=k→(tkAt ts i).1=1→∃o,qXo N f (tkAt ts i) (gR ts [] (i+1,[])) k=some o∧relD ts (qSn ts f.2.2 i) o:=by
  intro k hk0 hk h1
  have g:=hok.next hi (show(tkAt ts i).1≠5 by rw[h1];decide)
  obtain⟨o,ho,hr⟩:=zNb (N:=N) (pr:=[]) hok hl hN hf (tkAt ts i) (i+1) g k
  refine⟨o,ho,?_⟩
  unfold qSn
  dsimp only
  rw[hk,if_neg (by rintro(h|h);exact h h1;exact hk0 h)]
  exact hr
 simp only[qHh,e0,qLi (i,[]) hi,j0,Prod.eta,qNn (i,[]) hi hl]
 by_cases h1:(tkAt ts i).1=1
 ·have n:∀s,isC ts 1 s i=decide ((tkAt ts i).2.1=s):=fun s=>zKi h1
  simp only[n]
  by_cases w1:(tkAt ts i).2.1=(⟨#[102,117,110,99]⟩:ByteArray)
  ·simp only[jZ w1,jK,j0]
   obtain⟨o,ho,hr⟩:=fin 1 (by decide) (by rw[w1];rfl) h1
   refine⟨o,Eq.trans ?_ ho,hr⟩
   refine Eq.trans ?_ (rest (gR ts [] (i+1,[])) 1)
   simp only[obs,qRz]
   rfl
  simp only[jX w1,jB,jH,j0,qNn (i,[]) hi hl,n,Prod.eta]
  by_cases w2:(tkAt ts i).2.1=(⟨#[116,101,115,116]⟩:ByteArray)
  ·simp only[jZ w2,jK,j0]
   obtain⟨o,ho,hr⟩:=fin 2 (by decide) (by rw[w2];rfl) h1
   refine⟨o,Eq.trans ?_ ho,hr⟩
   refine Eq.trans ?_ (rest (gR ts [] (i+1,[])) 2)
   simp only[obs,qRz]
   rfl
  simp only[jX w2,jB,jH,j0,qNn (i,[]) hi hl,n,Prod.eta]
  by_cases w3:(tkAt ts i).2.1=(⟨#[103,101,110]⟩:ByteArray)
  ·simp only[jZ w3,jK,j0]
   obtain⟨o,ho,hr⟩:=fin 3 (by decide) (by rw[w3];rfl) h1
   refine⟨o,Eq.trans ?_ ho,hr⟩
   refine Eq.trans ?_ (rest (gR ts [] (i+1,[])) 3)
   simp only[obs,qRz]
   rfl
  simp only[jX w3,jB,jH,j0,qLv,Prod.eta]
  refine⟨_,rfl,?_⟩
  have hk:qNu (tkAt ts i).2.1=0:=by
   unfold qNu
   rw[if_neg (show ¬(tkAt ts i).2.1=zLt from w1),if_neg (show ¬(tkAt ts i).2.1=zMl from w2),if_neg (show ¬(tkAt ts i).2.1=sGen from w3)]
  unfold qSn
  dsimp only
  rw[if_pos (.inr hk)]
  exact⟨show(9:Int)≠0 by decide,i,[],[],hi,rfl⟩
 ·have n:∀s,isC ts 1 s i=false:=fun s=>zTm h1
  simp only[n,jB,jH,j0,qNn (i,[]) hi hl,qLv,Prod.eta]
  refine⟨_,rfl,?_⟩
  unfold qSn
  dsimp only
  rw[if_pos (.inl h1)]
  exact⟨show(9:Int)≠0 by decide,i,[],[],hi,rfl⟩
def relI(ts:List Tok)(pr:List ByteArray)(b:List Ex)(r:Flt⊕(Nat×List ByteArray))(o:RL):Prop:=
 match r with
 | .inl z=>∃st l,Bad ts z st∧o=addL st l
 | .inr q=>o=addL (gR ts pr (q.1,b)) q.2
theorem qYk{y5:RT×ByteArray}{z:Flt}{i:Nat}{pr':List ByteArray}{b:List Ex}(hz:z.2≠0)(M:Nat)(l:List ByteArray):qAt (qBv N y5) (M+1) (addL (bR ts z i pr' b) l)=some (addL (bR ts z i pr' b) l):=by
 have hz':((addL (bR ts z i pr' b) l).2.2.2.1==0)=false:=by simpa[bR,addL] using hz
 simp only[qAt,qBv,hz',jB,jH,j0]
theorem qXg(hok:OkT ts)(hl:ts.length<1000000)(hN:1000005<N){y5:RT×ByteArray}{b:List Ex}:∀(n M:Nat) (l:List ByteArray) (i:Nat),i<ts.length→l.length≤8→ts.length<i+n→ts.length+2<i+M→
  ∃o,qAt (qBv N y5) M (addL (gR ts pr (i,b)) l)=some o∧relI ts pr b (qKs ts y5.2 n l i) o
 |0,M,l,i,hi,_,h,_=>by omega
 |n+1,0,l,i,hi,_,_,h=>by omega
 |n+1,M+1,l,i,hi,hl8,hn,hM=>by
  have g0:((addL (gR ts pr (i,b)) l).2.2.2.1==0)=true:=rfl
  have e1:∀st:RT,∀l,((addL st l).1,(addL st l).2.1,(addL st l).2.2.1,(addL st l).2.2.2.1,(addL st l).2.2.2.2.1,(addL st l).2.2.2.2.2.1,(addL st l).2.2.2.2.2.2.1)=st:=fun _ _=>rfl
  have e2:∀st:RT,∀l,(addL st l).2.2.2.2.2.2.2=l:=fun _ _=>rfl
  have happ:∀s:ByteArray,qCx 16 l [s]=some (l++[s]):=fun s=>qDm (by simp only[jD,jF];omega) (by omega)
  have hhas:∀s,qCy N l s=some (decide (s∈l)):=fun s=>rhas (by omega) (by omega)
  have bad:∀(z:Flt) (i:Nat) (pr':List ByteArray) (b':List Ex) (l:List ByteArray),z.2≠0→i<ts.length→∃o,qAt (qBv N y5) M (addL (bR ts z i pr' b') l)=some o∧relI ts pr b (.inl z) o:=by
   intro z i pr' b' l hz hi
   obtain⟨M',rfl⟩:∃M',M=M'+1:=⟨M-1,by omega⟩
   exact⟨_,qYk hz M' l,_,_,⟨hz,i,pr',b',hi,rfl⟩,rfl⟩
  -- from the import's name on, behind an error
  have badn:∀(z:Flt) (i:Nat) (pr':List ByteArray) (b':List Ex),z.2≠0→i<ts.length→∃o,((qAm N (bR ts z i pr' b')).bind fun y11=>(qBf N y11.1).bind fun y12=>((if(y12.1.2.2.2.1==0)=true then(if(y12.2.toList==y5.2.toList)=true then(some true) else(qCy N l y12.2)) else(some false)):Option Bool).bind fun o5=>((if o5=true then qAn N y12.1 y11.2.2.2.2 10 else some y12.1):Option RT).bind fun o6=>(qAj N o6 (⟨#[59]⟩:ByteArray)).bind fun y15=>(qCx 16 l ([y12.2])).bind fun l1=>qAt (qBv N y5) M (addL y15 l1))=some o∧relI ts pr b (.inl z) o:=by
   intro z i pr' b' hz hi
   have hz':((bR ts z i pr' b').2.2.2.1==0)=false:=by simpa[bR] using hz
   simp only[qRm hi,zDp hz hi,j0,hz',jB,jH,qOd hz hi,happ]
   exact bad z i pr' b' _ hz hi
  -- the step
  have step:qAt (qBv N y5) (M+1) (addL (gR ts pr (i,b)) l)=(if isC ts 1 qRt i=true then
    ((if((l.length:Int)==8)=true then some (bR ts ((tkAt ts i).2.2.2,2) (i+1) pr b) else some (gR ts pr (i+1,b))):Option RT).bind fun st=>((qAm N st).bind fun y11=>(qBf N y11.1).bind fun y12=>((if(y12.1.2.2.2.1==0)=true then(if(y12.2.toList==y5.2.toList)=true then(some true) else(qCy N l y12.2)) else(some false)):Option Bool).bind fun o5=>((if o5=true then qAn N y12.1 y11.2.2.2.2 10 else some y12.1):Option RT).bind fun o6=>(qAj N o6 (⟨#[59]⟩:ByteArray)).bind fun y15=>(qCx 16 l ([y12.2])).bind fun l1=>qAt (qBv N y5) M (addL y15 l1))
    else some (addL (gR ts pr (i,b)) l)):=by
   have hk:isC ts 1 qRt i=((tkAt ts i).1==1&&decide ((tkAt ts i).2.1=(⟨#[105,109,112,111,114,116]⟩:ByteArray))):=rfl
   have hw:=qNd (show i<1000000 by omega)
   simp only[qAt,qBv,g0,jK,e1,e2,qLi (i,b) hi,j0,Prod.eta,qEd,hk]
   rcases qEl ((tkAt ts i).1==1) with c1|c1
   rotate_left
   ·simp only[c1,jB,jH,j0,Bool.false_and]
    rfl
   rcases qEl (decide ((tkAt ts i).2.1=(⟨#[105,109,112,111,114,116]⟩:ByteArray))) with c2|c2
   rotate_left
   ·simp only[c1,c2,jB,jH,jK,j0,Bool.and_false]
    rfl
   simp only[c1,c2,jK,j0,Bool.and_true]
   rcases qEl ((l.length:Int)==8) with c3|c3
   ·simp only[c3,jK,j0,qLi (i,b) hi,qLv,obs]
    have e3:((bR ts ((tkAt ts i).2.2.2,2) i pr b).1,IntKind.wrap .i64 ((bR ts ((tkAt ts i).2.2.2,2) i pr b).2.1+1),(bR ts ((tkAt ts i).2.2.2,2) i pr b).2.2.1,(bR ts ((tkAt ts i).2.2.2,2) i pr b).2.2.2.1,(bR ts ((tkAt ts i).2.2.2,2) i pr b).2.2.2.2.1,(bR ts ((tkAt ts i).2.2.2,2) i pr b).2.2.2.2.2.1,(bR ts ((tkAt ts i).2.2.2,2) i pr b).2.2.2.2.2.2)=bR ts ((tkAt ts i).2.2.2,2) (i+1) pr b:=by
     show(ts,IntKind.wrap .i64 ((i:Int)+1),(tkAt ts i).2.2.2,(2:Int),pr,b,([]:List Int))=_
     rw[hw];rfl
    rw[e3]
    simp only[fM,j0]
    rfl
   ·simp only[c3,jB,jH,j0,obs]
    have e3:((gR ts pr (i,b)).1,IntKind.wrap .i64 ((gR ts pr (i,b)).2.1+1),(gR ts pr (i,b)).2.2.1,(gR ts pr (i,b)).2.2.2.1,(gR ts pr (i,b)).2.2.2.2.1,(gR ts pr (i,b)).2.2.2.2.2.1,(gR ts pr (i,b)).2.2.2.2.2.2)=gR ts pr (i+1,b):=by
     show(ts,IntKind.wrap .i64 ((i:Int)+1),(0:Int),(0:Int),pr,b,([]:List Int))=_
     rw[hw];rfl
    rw[e3]
    simp only[fM,j0]
    rfl
  rw[step]
  simp only[qKs]
  rcases qEl (isC ts 1 qRt i) with c1|c1
  rotate_left
  ·simp only[c1,jB,jH]
   exact⟨_,rfl,rfl⟩
  have g:=qFv hok hi (by decide) c1
  simp only[c1,jK]
  by_cases k2:l.length=8
  ·have k2':((l.length:Int)==8)=true:=by simp;omega
   rw[if_pos k2]
   simp only[k2',jK,j0,qHl]
   exact badn _ _ _ _ (show(2:Int)≠0 by decide) g
  have k2':((l.length:Int)==8)=false:=by simp;omega
  rw[if_neg k2]
  simp only[k2',jB,jH,j0,qLi (i+1,b) g,qXv (i+1,b) g hl (by omega:100<N)]
  cases hx:qOa ts (i+1) with
  |inl z=>
   have hz:=zEj hx
   have hz':((bR ts z (i+1) pr b).2.2.2.1==0)=false:=by simpa[bR] using hz
   simp only[hz',jB,jH,j0,qOd hz g,happ,qBq]
   exact bad _ _ _ _ _ hz g
  |inr x=>
   obtain⟨rfl,g1,-⟩:=qOc hok g hx
   have g00:((gR ts pr (i+1+1,b)).2.2.2.1==0)=true:=rfl
   simp only[g00,jK,qEd,hhas,qBq]
   by_cases k3:(tkAt ts (i+1)).2.1=y5.2∨(tkAt ts (i+1)).2.1∈l
   ·rw[if_pos k3]
    have:((if decide ((tkAt ts (i+1)).2.1=y5.2)=true then some true else some (decide ((tkAt ts (i+1)).2.1∈l))):Option Bool)=some true:=by
     rcases k3 with h|h
     ·rw[if_pos (jZ h)]
     ·rw[jZ h];split<;>rfl
    rw[this]
    simp only[j0,jK,qLv,happ,qHl]
    have hz:(((tkAt ts (i+1)).2.2.2,(10:Int)):Flt).2≠0:=show(10:Int)≠0 by decide
    simp only[qOd hz g1,j0]
    exact bad _ _ _ _ _ hz g1
   rw[if_neg k3]
   have:((if decide ((tkAt ts (i+1)).2.1=y5.2)=true then some true else some (decide ((tkAt ts (i+1)).2.1∈l))):Option Bool)=some false:=by
    rw[if_neg (by simp only[jA];exact fun h=>k3 (.inl h)),jX (fun h=>k3 (.inr h))]
   rw[this]
   simp only[j0,jB,jH,qPp (i+1+1,b) g1 hl,happ,qTw]
   cases hj:qEx ts ⟨#[59]⟩ (i+1+1) with
   |inl z=>exact bad _ _ _ _ _ (qNp hj) g1
   |inr j=>
    obtain⟨rfl,g2,-⟩:=qGh hok g1 hj
    exact qXg hok hl hN n M _ (i+1+1+1) g2 (by simp only[jC,jD,jF];omega) (by omega) (by omega)
end
end
section
open Go Go.Dc
section
variable {N:Nat} {ts:List Tok} {pr:List ByteArray}
abbrev RD:=List Tok×Int×Int×Int×List ByteArray×List Ex×List Int×List Dl
def addD(st:RT)(l:List Dl):RD:=(st.1,st.2.1,st.2.2.1,st.2.2.2.1,st.2.2.2.2.1,st.2.2.2.2.2.1,st.2.2.2.2.2.2,l)
def relS(ts:List Tok)(r:Flt⊕List Dl)(o:RD):Prop:=
 match r with
 | .inl z=>∃st l,Bad ts z st∧o=addD st l
 | .inr a=>∃pr p,o=addD (gR ts pr p) a
theorem zBx{y5:RT×ByteArray}{o2:RL}{z:Flt}{i:Nat}{pr':List ByteArray}{b:List Ex}(hz:z.2≠0)(M:Nat)(l:List Dl):qAt (qCf N y5 o2) (M+1) (addD (bR ts z i pr' b) l)=some (addD (bR ts z i pr' b) l):=by
 have hz':((addD (bR ts z i pr' b) l).2.2.2.1==0)=false:=by simpa[bR,addD] using hz
 simp only[qAt,qCf,hz',jB,jH,j0]
theorem zAn(hok:OkT ts)(hl:ts.length<1000000)(hN:1000005<N){y5:RT×ByteArray}{o2:RL}:∀(n M:Nat) (l:List Dl) (i:Nat) (pr:List ByteArray) (b:List Ex),i<ts.length→l.length≤64→ts.length<i+n→ts.length+2<i+M→
  ∃o,qAt (qCf N y5 o2) M (addD (gR ts pr (i,b)) l)=some o∧relS ts (qUu ts n l i) o
 |0,M,l,i,_,_,hi,_,h,_=>by omega
 |n+1,0,l,i,_,_,hi,_,_,h=>by omega
 |n+1,M+1,l,i,pr,b,hi,hl64,hn,hM=>by
  have g0:((addD (gR ts pr (i,b)) l).2.2.2.1==0)=true:=rfl
  have e1:∀st:RT,∀l,((addD st l).1,(addD st l).2.1,(addD st l).2.2.1,(addD st l).2.2.2.1,(addD st l).2.2.2.2.1,(addD st l).2.2.2.2.2.1,(addD st l).2.2.2.2.2.2.1)=st:=fun _ _=>rfl
  have e2:∀st:RT,∀l,(addD st l).2.2.2.2.2.2.2=l:=fun _ _=>rfl
  simp only[qAt,qCf,g0,jK,e1,e2,qLi (i,b) hi,j0,Prod.eta,qUu]
  by_cases k1:(tkAt ts i).1=5
  ·have k1':((tkAt ts i).1 !=5)=false:=by simp[k1]
   rw[if_pos k1]
   simp only[k1',jB,jH,j0]
   exact⟨_,rfl,pr,(i,b),rfl⟩
  have k1':((tkAt ts i).1 !=5)=true:=by simp[k1]
  rw[if_neg k1]
  simp only[k1',jK]
  obtain⟨o,ho,hr⟩:=rdecl (N:=N) (pr:=pr) (f:=(y5.2,o2.2.2.2.2.2.2.2,l)) hok hl hN hl64 i b hi
  simp only[ho,j0]
  rw[qDm (by simp only[jD,jF];omega) (by omega)]
  simp only[j0]
  cases hd:qSn ts l i with
  |inl z=>
   rw[show qSn ts (y5.2,o2.2.2.2.2.2.2.2,l).2.2 i=qSn ts l i from rfl,hd] at hr
   obtain⟨hz,j,pr',b',hj,ho1⟩:=hr
   obtain⟨M',rfl⟩:∃M',M=M'+1:=⟨M-1,by omega⟩
   rw[ho1]
   exact⟨_,zBx hz M' _,_,_,⟨hz,j,pr',b',hj,rfl⟩,rfl⟩
  |inr a=>
   rw[show qSn ts (y5.2,o2.2.2.2.2.2.2.2,l).2.2 i=qSn ts l i from rfl,hd] at hr
   obtain⟨g1,g2,g3⟩:=qZr hok hi hd
   have hr':o=(gR ts a.2.2.2.1 (a.1,a.2.2.2.2),a.2):=hr
   rw[hr']
   exact zAn hok hl hN n M (l++[a.2]) a.1 _ _ g2 (by simp only[jC,jD,jF];omega) (by omega) (by omega)
theorem rfile(hok:OkT ts)(hl:ts.length<1000000)(hN:1000005<N):
  ((qBo N (ts,0,0,0,[],[],[]) (⟨#[112,97,99,107,97,103,101]⟩:ByteArray)).bind fun y2=>((if(!y2.2)=true then((qAm N y2.1).bind fun y3=>qAn N y3.1 y3.2.2.2.2 9) else(some y2.1)):Option RT).bind fun o1=>(qBf N o1).bind fun y5=>(qAj N y5.1 (⟨#[59]⟩:ByteArray)).bind fun y6=>(qAt (qBv N y5) N (addL y6 [])).bind fun o2=>(qAt (qCf N y5 o2) N (o2.1,o2.2.1,o2.2.2.1,o2.2.2.2.1,o2.2.2.2.2.1,o2.2.2.2.2.2.1,o2.2.2.2.2.2.2.1,[])).bind fun o7=>if(o7.2.2.2.1 !=0)=true then(some (zAj,o7.2.2.1,o7.2.2.2.1)) else(some (((y5.2,o2.2.2.2.2.2.2.2,o7.2.2.2.2.2.2.2):Sr),(0:Int),(0:Int))))=some (match zDg ts with| .inl z=>(zAj,z.1,z.2)| .inr f=>(f,0,0)):=by
 have h0:0<ts.length:=fC.2 hok.1
 obtain⟨M,hM⟩:∃M,N=M+1:=⟨N-1,by omega⟩
 have e0:((ts,(0:Int),(0:Int),(0:Int),[],[],[]):RT)=gR ts [] (0,[]):=rfl
 -- the loops behind an error
 have badD:∀(y5:RT×ByteArray) (o2:RL) (z:Flt) (st:RT),Bad ts z st→((qAt (qCf N y5 o2) N (addD st [])).bind fun o7=>if(o7.2.2.2.1 !=0)=true then(some (zAj,o7.2.2.1,o7.2.2.2.1)) else(some (((y5.2,o2.2.2.2.2.2.2.2,o7.2.2.2.2.2.2.2):Sr),(0:Int),(0:Int))))=some (zAj,z.1,z.2):=by
  rintro y5 o2 z st ⟨hz,i,pr',b,hi,rfl⟩
  have hb:qAt (qCf N y5 o2) N (addD (bR ts z i pr' b) [])=some (addD (bR ts z i pr' b) []):=by
   have e:qAt (qCf N y5 o2) N (addD (bR ts z i pr' b) [])=qAt (qCf N y5 o2) (M+1) (addD (bR ts z i pr' b) []):=by rw[←hM]
   rw[e];exact zBx hz M []
  have hz':((addD (bR ts z i pr' b) []).2.2.2.1 !=0)=true:=by simpa[bR,addD] using hz
  rw[hb]
  simp only[j0,hz',jK]
  rfl
 have badI:∀(y5:RT×ByteArray) (z:Flt) (i:Nat) (pr':List ByteArray) (b:List Ex),z.2≠0→i<ts.length→((qAt (qBv N y5) N (addL (bR ts z i pr' b) [])).bind fun o2=>(qAt (qCf N y5 o2) N (o2.1,o2.2.1,o2.2.2.1,o2.2.2.2.1,o2.2.2.2.2.1,o2.2.2.2.2.2.1,o2.2.2.2.2.2.2.1,[])).bind fun o7=>if(o7.2.2.2.1 !=0)=true then(some (zAj,o7.2.2.1,o7.2.2.2.1)) else(some (((y5.2,o2.2.2.2.2.2.2.2,o7.2.2.2.2.2.2.2):Sr),(0:Int),(0:Int))))=some (zAj,z.1,z.2):=by
  intro y5 z i pr' b hz hi
  have hb:qAt (qBv N y5) N (addL (bR ts z i pr' b) [])=some (addL (bR ts z i pr' b) []):=by
   have e:qAt (qBv N y5) N (addL (bR ts z i pr' b) [])=qAt (qBv N y5) (M+1) (addL (bR ts z i pr' b) []):=by rw[←hM]
   rw[e];exact qYk hz M []
  rw[hb]
  simp only[j0]
  exact badD y5 (addL (bR ts z i pr' b) []) z (bR ts z i pr' b) ⟨hz,i,pr',b,hi,rfl⟩
 have bad:∀(z:Flt) (i:Nat) (pr':List ByteArray) (b:List Ex),z.2≠0→i<ts.length→((qBf N (bR ts z i pr' b)).bind fun y5=>(qAj N y5.1 (⟨#[59]⟩:ByteArray)).bind fun y6=>(qAt (qBv N y5) N (addL y6 [])).bind fun o2=>(qAt (qCf N y5 o2) N (o2.1,o2.2.1,o2.2.2.1,o2.2.2.2.1,o2.2.2.2.2.1,o2.2.2.2.2.2.1,o2.2.2.2.2.2.2.1,[])).bind fun o7=>if(o7.2.2.2.1 !=0)=true then(some (zAj,o7.2.2.1,o7.2.2.2.1)) else(some (((y5.2,o2.2.2.2.2.2.2.2,o7.2.2.2.2.2.2.2):Sr),(0:Int),(0:Int))))=some (zAj,z.1,z.2):=by
  intro z i pr' b hz hi
  simp only[zDp hz hi,qOd hz hi,j0]
  exact badI _ z i pr' b hz hi
 rw[e0]
 simp only[qNn (0,[]) h0 hl,j0,zDg,qWh,qVq]
 rcases qEl (isC ts 1 ⟨#[112,97,99,107,97,103,101]⟩ 0) with c1|c1
 rotate_left
 ·simp only[c1,jB,jH,kJ,jK,qLi (0,[]) h0,qLv,j0,qHl,qBq]
  exact bad _ _ _ _ (show(9:Int)≠0 by decide) h0
 have g1:=qFv hok h0 (by decide) c1
 simp only[c1,jK,kQ,jB,jH,j0,qXv (0+1,[]) g1 hl (by omega:100<N),qBq]
 cases h2:qOa ts (0+1) with
 |inl z=>
  have hz:=zEj h2
  simp only[qOd hz g1,j0]
  exact badI _ z _ _ _ hz g1
 |inr x=>
  obtain⟨rfl,g2,-⟩:=qOc hok g1 h2
  simp only[qPp (0+1+1,[]) g2 hl,j0,qTw]
  cases h3:qEx ts ⟨#[59]⟩ (0+1+1) with
  |inl z=>exact badI _ z _ _ _ (qNp h3) g2
  |inr j=>
   obtain⟨rfl,g3,-⟩:=qGh hok g2 h3
   obtain⟨o,ho,hr⟩:=qXg (N:=N) (pr:=[]) (b:=[]) (y5:=(gR ts [] (0+1+1,[]),(tkAt ts (0+1)).2.1)) hok hl hN (ts.length+1) N [] (0+1+1+1) g3 (by simp) (by omega) (by omega)
   simp only[ho,j0]
   cases h4:qKs ts (tkAt ts (0+1)).2.1 (ts.length+1) [] (0+1+1+1) with
   |inl z=>
    rw[show qKs ts ((gR ts [] (0+1+1,[]),(tkAt ts (0+1)).2.1):RT×ByteArray).2 (ts.length+1) [] (0+1+1+1)=qKs ts (tkAt ts (0+1)).2.1 (ts.length+1) [] (0+1+1+1) from rfl,h4] at hr
    obtain⟨st,l,hbad,rfl⟩:=hr
    exact badD _ (addL st l) z st hbad
   |inr y=>
    rw[show qKs ts ((gR ts [] (0+1+1,[]),(tkAt ts (0+1)).2.1):RT×ByteArray).2 (ts.length+1) [] (0+1+1+1)=qKs ts (tkAt ts (0+1)).2.1 (ts.length+1) [] (0+1+1+1) from rfl,h4] at hr
    have hr':o=addL (gR ts [] (y.1,[])) y.2:=hr
    obtain⟨k1,k2,k3⟩:=qUw hok _ _ _ y g3 (by simp) h4
    obtain⟨o2,ho2,hr2⟩:=zAn (N:=N) (y5:=(gR ts [] (0+1+1,[]),(tkAt ts (0+1)).2.1)) (o2:=o) hok hl hN (ts.length+1) N [] y.1 [] [] k2 (by simp) (by omega) (by omega)
    have e3:(o.1,o.2.1,o.2.2.1,o.2.2.2.1,o.2.2.2.2.1,o.2.2.2.2.2.1,o.2.2.2.2.2.2.1,([]:List Dl))=addD (gR ts [] (y.1,[])) []:=by rw[hr'];rfl
    rw[e3,ho2]
    simp only[j0]
    cases h5:qUu ts (ts.length+1) [] y.1 with
    |inl z=>
     rw[h5] at hr2
     obtain⟨st,l,⟨hz,i,pr',b,hi,rfl⟩,rfl⟩:=hr2
     have hz':((addD (bR ts z i pr' b) l).2.2.2.1 !=0)=true:=by simpa[bR,addD] using hz
     simp only[hz',jK]
     rfl
    |inr l=>
     rw[h5] at hr2
     obtain⟨pr',p',rfl⟩:=hr2
     have hz':((addD (gR ts pr' p') l).2.2.2.1 !=0)=false:=rfl
     simp only[hz',jB,jH]
     rw[hr']
     rfl
end
theorem zJt{N:Nat}(s:ByteArray)(hN:1000005<N):qKh N s=some (qVz s):=by
 simp only[qKh,zHk (N:=N) (by omega),j0,qVz]
 by_cases h:(qJo s).2.2=0
 ·rw[if_neg (show ¬((qJo s).2.2 !=0)=true by simpa using h),if_neg (show ¬(qJo s).2.2≠0 by simpa using h)]
  obtain⟨h1,h2,h3⟩:=zCr h
  have hf:=rfile (N:=N) h1 (by omega) hN
  refine Eq.trans ?_ (Eq.trans hf ?_)
  ·simp only[Prod.eta,obs];rfl
  ·cases zDg (qJo s).1<;>rfl
 ·rw[if_pos (show((qJo s).2.2 !=0)=true by simpa using h),if_pos h];rfl
end
section
open Go Go.Dc
abbrev Hd:=Int×Int×Int×ByteArray
inductive Rose where
 |mk (h:Hd) (ks:List Rose)
def Rose.hd:Rose→Hd
 | .mk h _=>h
def Rose.ks:Rose→List Rose
 | .mk _ ks=>ks
mutual
def Rose.size:Rose→Nat
 | .mk _ ks=>qBp ks+1
def qBp:List Rose→Nat
 |[]=>0
 |t::l=>t.size+qBp l
end
def qDh:Nat→List Rose→List Int
 |_,[]=>[]
 |b,t::l=>((b+t.size-1:Nat):Int)::qDh (b+t.size) l
def qJu(h:Hd)(args:List Int):Ex:=(h.1,h.2.1,h.2.2.1,h.2.2.2,args)
mutual
def Rose.flat(b:Nat):Rose→List Ex
 | .mk h ks=>qHv b ks++[qJu h (qDh b ks)]
def qHv(b:Nat):List Rose→List Ex
 |[]=>[]
 |t::l=>t.flat b++qHv (b+t.size) l
end
theorem Rose.pos(t:Rose):0<t.size:=by cases t;unfold Rose.size;omega
mutual
theorem qHk(t:Rose)(b:Nat):(t.flat b).length=t.size:=by
 match t with
 | .mk h ks=>unfold Rose.flat Rose.size;rw[jC,qKu ks b];rfl
theorem qKu(l:List Rose)(b:Nat):(qHv b l).length=qBp l:=by
 match l with
 |[]=>rfl
 |t::l=>unfold qHv qBp;rw[jC,qHk t b,qKu l (b+t.size)]
end
theorem qKf:∀(l:List Rose) (b:Nat),(qDh b l).length=l.length
 |[],_=>rfl
 |t::l,b=>by simp only[qDh,jD,qKf l]
theorem qOk:∀(l k:List Rose),qBp (l++k)=qBp l+qBp k
 |[],k=>by rw[jQ,show qBp []=0 from rfl,kK]
 |t::l,k=>by
  have ih:=qOk l k
  rw[jP,show qBp (t::(l++k))=t.size+qBp (l++k) from rfl,show qBp (t::l)=t.size+qBp l from rfl];omega
theorem qUs:∀(l k:List Rose) (b:Nat),qDh b (l++k)=qDh b l++qDh (b+qBp l) k
 |[],k,b=>by simp[qDh,qBp]
 |t::l,k,b=>by
  rw[jP]
  simp only[qDh,qBp,qUs l k,jP]
  rw[gK]
theorem qSe:∀(l k:List Rose) (b:Nat),qHv b (l++k)=qHv b l++qHv (b+qBp l) k
 |[],k,b=>by simp[qHv,qBp]
 |t::l,k,b=>by
  rw[jP]
  simp only[qHv,qBp,qSe l k,jE]
  rw[gK]
theorem qRk:∀l:List Rose,l.length≤qBp l
 |[]=>kZ _
 |t::l=>by
  have:=qRk l
  have:=t.pos
  simp only[qBp,jD];omega
def ordS:List Ex→Nat→List Int→Option (List Int)
 |[],_,st=>some st
 |x::l,i,st=>if x.2.2.2.2.length≤st.length∧st.drop (st.length-x.2.2.2.2.length)=x.2.2.2.2 then ordS l (i+1) (st.take (st.length-x.2.2.2.2.length)++[(i:Int)]) else none
theorem zBl{fs:List Rose}{h:Hd}{args:List Int}{m:Nat}(h1:args.length≤fs.length)(hm:fs.length-args.length=m)(h2:(qDh 0 fs).drop m=args):
  qBp (fs.take m++[Rose.mk h (fs.drop m)])=qBp fs+1∧qDh 0 (fs.take m++[Rose.mk h (fs.drop m)])=(qDh 0 fs).take m++[((qBp fs:Nat):Int)]∧qHv 0 (fs.take m++[Rose.mk h (fs.drop m)])=qHv 0 fs++[qJu h args]:=by
 have hfs:fs=fs.take m++fs.drop m:=(gO m fs).symm
 have hml:(fs.take m).length=m:=by rw[kS];omega
 have hr:qDh 0 fs=qDh 0 (fs.take m)++qDh (qBp (fs.take m)) (fs.drop m):=by
  conv=>lhs;rw[hfs]
  rw[qUs,kK]
 have hf:qHv 0 fs=qHv 0 (fs.take m)++qHv (qBp (fs.take m)) (fs.drop m):=by
  conv=>lhs;rw[hfs]
  rw[qSe,kK]
 have hs:qBp fs=qBp (fs.take m)+qBp (fs.drop m):=by
  conv=>lhs;rw[hfs]
  rw[qOk]
 have hl1:(qDh 0 (fs.take m)).length=m:=by rw[qKf,hml]
 have ha:args=qDh (qBp (fs.take m)) (fs.drop m):=by
  rw[←h2,hr,gL (by omega),jT (by omega),jQ]
 have ht:(qDh 0 fs).take m=qDh 0 (fs.take m):=by
  rw[hr,gA (by omega),gT (by omega)]
 rw[ht]
 refine⟨?_,?_,?_⟩
 ·rw[qOk,hs];simp only[qBp,Rose.size];omega
 ·rw[qUs,kK]
  simp only[qDh,Rose.size]
  rw[hs,show qBp (fs.take m)+(qBp (fs.drop m)+1)-1=qBp (fs.take m)+qBp (fs.drop m) by omega]
 ·rw[qSe,kK,hf,jE]
  simp only[qHv,Rose.flat,jY,←ha]
theorem zBa(x:Ex)(l:List Ex)(i:Nat)(st a:List Int)(h:x.2.2.2.2=a):ordS (x::l) i st=if a.length≤st.length∧st.drop (st.length-a.length)=a then ordS l (i+1) (st.take (st.length-a.length)++[(i:Int)]) else none:=by
 subst h;rfl
def AtT(l:List Ex)(b:Nat)(t:Rose):Prop:=∃p q,l=p++t.flat b++q∧p.length=b
def AtTs(l:List Ex)(b:Nat)(ts:List Rose):Prop:=∃p q,l=p++qHv b ts++q∧p.length=b
theorem AtT.whole(t:Rose):AtT (t.flat 0) 0 t:=⟨[],[],by simp,rfl⟩
theorem AtT.args{l:List Ex}{b:Nat}{h:Hd}{ks:List Rose}(g:AtT l b (.mk h ks)):l[b+qBp ks]? =some (qJu h (qDh b ks))∧AtTs l b ks:=by
 obtain⟨p,q,rfl,rfl⟩:=g
 unfold Rose.flat
 constructor
 ·rw[jE,List.getElem?_append_right (by omega),jE,List.getElem?_append_right (by rw[qKu];omega),qKu]
  rw[show p.length+qBp ks-p.length-qBp ks=0 by omega]
  rfl
 ·exact⟨p,[qJu h (qDh p.length ks)]++q,by simp only[jE],rfl⟩
theorem AtTs.head{l:List Ex}{b:Nat}{t:Rose}{ts:List Rose}(g:AtTs l b (t::ts)):AtT l b t∧AtTs l (b+t.size) ts:=by
 obtain⟨p,q,rfl,rfl⟩:=g
 unfold qHv
 exact⟨⟨p,qHv (p.length+t.size) ts++q,by simp only[jE],rfl⟩,⟨p++t.flat p.length,q,by simp only[jE],by rw[jC,qHk]⟩⟩
theorem AtT.le{l:List Ex}{b:Nat}{t:Rose}(g:AtT l b t):b+t.size≤l.length:=by
 obtain⟨p,q,rfl,rfl⟩:=g
 rw[jC,jC,qHk];omega
end
section
open Go Go.Dc
def qDo(s:ByteArray):Bool:=qPo s&& !resC s
theorem qXh{N:Nat}{s:ByteArray}(hN:100<N):qKa N s=some (qDo s):=by
 simp only[qKa,zIm hN,qWp,j0]
 unfold qDo
 cases qPo s<;>rfl
def emB:ByteArray:=⟨#[]⟩
theorem zTb(a b:Bool):(if a=true then some b else some false:Option Bool)=some (a&&b):=by cases a<;>rfl
theorem eqE(s:ByteArray):(s.toList==(⟨#[]⟩:ByteArray).toList)=decide (s=emB):=qEd _ _
def argN(x:Ex):Int:=(x.2.2.2.2.length:Int)
def qNa(np:Int)(x:Ex):Bool:=
 if x.1=1 then decide (x.2.2.2.1=emB)&&(x.2.2.1==0&&(argN x==0&&(decide (x.2.1≥-9007199254740992)&&decide (x.2.1≤9007199254740992))))
 else if x.1=2 then decide (x.2.2.2.1=emB)&&(x.2.2.1==0&&(argN x==0&&(decide (x.2.1≥0)&&decide (x.2.1<np))))
 else if x.1=3 then x.2.1==0&&(x.2.2.1==0&&qDo x.2.2.2.1)
 else if x.1=4 then x.2.1==0&&(decide (x.2.2.2.1=emB)&&(argN x==2&&(decide (x.2.2.1≥1)&&decide (x.2.2.1≤7))))
 else if x.1=5 then x.2.1==0&&(decide (x.2.2.2.1=emB)&&(x.2.2.1==0&&argN x==3))
 else if x.1=6 then x.2.1==0&&(x.2.2.1==0&&(argN x==1&&qNe x.2.2.2.1.data.toList))
 else if x.1=7∨x.1=8 then x.2.1==0&&(x.2.2.1==0&&(argN x==0&&qNe x.2.2.2.1.data.toList))
 else if x.1=9 then x.2.1==0&&(x.2.2.1==0&&(argN x==0&&qPo x.2.2.2.1))
 else if x.1=10 then decide (x.2.2.2.1=emB)&&(x.2.2.1==0&&(argN x==0&&(decide (x.2.1≥0)&&decide (x.2.1<64))))
 else false
theorem zUk{N:Nat}{np:Int}{x:Ex}(hx:x.2.2.2.1.size≤1048576)(hN:3000000<N):qPf N x np=some (qNa np x):=by
 simp only[qPf,eqE,zHp (s:=x.2.2.2.1) (N:=N) (by omega) (by omega),zIm (s:=x.2.2.2.1) (show 100<N by omega),qXh (s:=x.2.2.2.1) (show 100<N by omega),j0,zTb]
 unfold qNa argN
 by_cases h1:x.1=1
 ·simp[h1]
 by_cases h2:x.1=2
 ·simp[h2]
 by_cases h3:x.1=3
 ·simp[h3]
 by_cases h4:x.1=4
 ·simp[h4]
 by_cases h5:x.1=5
 ·simp[h5]
 by_cases h6:x.1=6
 ·simp[h6]
 by_cases h7:x.1=7
 ·simp[h7]
 by_cases h8:x.1=8
 ·simp[h8]
 by_cases h9:x.1=9
 ·simp[h9]
 by_cases h10:x.1=10
 ·simp[h10]
 simp[h1,h2,h3,h4,h5,h6,h7,h8,h9,h10]
def StOk(st:List Int):Nat→List Rose→Prop
 |_,[]=>True
 |b,t::l=>st[b+t.size-1]? =some (b:Int)∧StOk st (b+t.size) l
theorem StOk.app{st:List Int}:∀{l k:List Rose} {b:Nat},StOk st b (l++k)↔StOk st b l∧StOk st (b+qBp l) k
 |[],k,b=>by simp[StOk,qBp]
 |t::l,k,b=>by
  rw[jP]
  simp only[StOk,qBp,StOk.app (l:=l)]
  rw[and_assoc,gK]
theorem StOk.set{st:List Int}{i:Nat}{v:Int}:∀{l:List Rose} {b:Nat},StOk st b l→b+qBp l≤i→StOk (st.set i v) b l
 |[],_,_,_=>trivial
 |t::l,b,h,hi=>by
  have hp:=t.pos
  simp only[qBp] at hi
  exact⟨by rw[List.getElem?_set_ne (by omega)];exact h.1,h.2.set (by omega)⟩
theorem qRj{α:Type}{l:List α}{i:Nat}{v:α}(h:l[i]? =some v):idx l (i:Int)=some v:=by
 have hi:i<l.length:=by
  by_cases hl:i<l.length
  ·exact hl
  ·rw[List.getElem?_eq_none (by omega)] at h;cases h
 rw[qDn hi]
 rw[List.getElem?_eq_getElem hi] at h
 exact h
theorem zLn{st:List Int}{i:Nat}{v:Int}(h:st[i]? =some v):st.set i v=st:=by
 refine List.ext_getElem? fun j=> ?_
 rw[List.getElem?_set]
 by_cases e:i=j
 ·subst e
  have hi:i<st.length:=by
   by_cases hl:i<st.length
   ·exact hl
   ·rw[List.getElem?_eq_none (by omega)] at h;cases h
  rw[if_pos rfl,if_pos hi,h]
 ·rw[if_neg e]
theorem zNv{N i:Nat}{x:Ex}{so:List Int}:∀(k M:Nat) (pre:List Rose) (st:List Int),k≤x.2.2.2.2.length→k<M→StOk st 0 pre→st[i]? =some ((qBp pre:Nat):Int)→qBp pre≤i→i<2000000→k<2000000→
  qAt (qJi N ((i:Int),so) x) M ((k:Int)-1,st)=some (if k≤pre.length∧(qDh 0 pre).drop (pre.length-k)=x.2.2.2.2.take k then .inl (st.set i ((qBp (pre.take (pre.length-k)):Nat):Int)) else .inr false)
 |_,0,_,_,_,h,_,_,_,_,_=>absurd h (kN _)
 |0,M+1,pre,st,_,_,_,hi,_,_,_=>by
  simp only[qAt,qJi]
  rw[if_neg (by simp),if_pos ⟨kZ _,by rw[Nat.sub_zero,List.drop_of_length_le (by rw[qKf];exact jV _),List.take_zero]⟩]
  rw[Nat.sub_zero,gP,zLn hi]
  rfl
 |k+1,M+1,pre,st,hk,hM,hs,hi,hle,hb,hkb=>by
  have hkl:k<x.2.2.2.2.length:=by omega
  have ek:((k+1:Nat):Int)-1=(k:Int):=by omega
  have wk:IntKind.wrap .i64 ((k:Int)-1)=(k:Int)-1:=by rw[wi64 (by omega) (by omega)]
  simp only[qAt,qJi]
  rw[ek,if_pos (by simp),qDn hkl,qRj hi]
  simp only[j0]
  have wc:IntKind.wrap .i64 (((qBp pre:Nat):Int)-1)=((qBp pre:Nat):Int)-1:=by rw[wi64 (by omega) (by omega)]
  rw[wc]
  have ht:x.2.2.2.2.take (k+1)=x.2.2.2.2.take k++[x.2.2.2.2[k]]:=qSf hkl
  rcases fX pre with rfl|⟨pre',t,rfl⟩
  ·have hneg:¬(k+1≤([]:List Rose).length∧(qDh 0 []).drop (([]:List Rose).length-(k+1))=x.2.2.2.2.take (k+1)):=by
    rintro⟨h,-⟩
    exact absurd h (by simp)
   rw[if_neg hneg]
   by_cases h1:x.2.2.2.2[k]=((qBp []:Nat):Int)-1
   ·have h2:x.2.2.2.2[k]<0:=by rw[h1];simp[qBp]
    rw[if_neg (by simpa using h1)]
    simp only[j0,jZ h2,jK]
   ·rw[if_pos (by simpa using h1)]
    rfl
  ·rw[List.concat_eq_append] at hs hi hle ⊢
   have hsz:qBp (pre'++[t])=qBp pre'+t.size:=by rw[qOk];simp[qBp]
   have hp:=t.pos
   obtain⟨hs1,hs2,-⟩:=StOk.app.1 hs
   rw[kK] at hs2
   have hr:qDh 0 (pre'++[t])=qDh 0 pre'++[((qBp pre'+t.size-1:Nat):Int)]:=by
    rw[qUs,kK];rfl
   have hd:k≤pre'.length→(qDh 0 (pre'++[t])).drop ((pre'++[t]).length-(k+1))=(qDh 0 pre').drop (pre'.length-k)++[((qBp pre'+t.size-1:Nat):Int)]:=fun h=>by
    rw[hr,jC,gX,show pre'.length+1-(k+1)=pre'.length-k by omega,gL (by rw[qKf];omega)]
   rw[hsz] at hi hle ⊢
   by_cases h1:x.2.2.2.2[k]=((qBp pre'+t.size:Nat):Int)-1
   ·have h2:decide (x.2.2.2.2[k]<0)=false:=jX (by omega)
    have h3:x.2.2.2.2[k]=((qBp pre'+t.size-1:Nat):Int):=by omega
    rw[if_neg (by simpa using h1)]
    simp only[j0,h2,jB,jH]
    rw[h3,qRj hs2]
    simp only[j0,jS,wk]
    have hil:i<st.length:=by
     by_cases hl:i<st.length
     ·exact hl
     ·rw[List.getElem?_eq_none (by omega)] at hi;cases hi
    rw[zNv k M pre' _ (by omega) (by omega) (hs1.set (by omega)) (by rw[List.getElem?_set_self hil]) (by omega) hb (by omega),List.set_set]
    congr 1
    by_cases hc:k≤pre'.length∧(qDh 0 pre').drop (pre'.length-k)=x.2.2.2.2.take k
    ·rw[if_pos hc,if_pos ⟨by simp only[jC,gX];omega,by rw[hd hc.1,ht,hc.2,h3]⟩]
     rw[jC,gX,show pre'.length+1-(k+1)=pre'.length-k by omega,gA (by omega)]
    ·rw[if_neg hc,if_neg]
     rintro⟨g1,g2⟩
     simp only[jC,gX] at g1
     rw[hd (by omega),ht] at g2
     exact hc ⟨by omega,(List.append_inj' g2 rfl).1⟩
   ·rw[if_pos (by simpa using h1),if_neg]
    ·rfl
    ·rintro⟨g1,g2⟩
     simp only[jC,gX] at g1
     rw[hd (by omega),ht] at g2
     have:=(List.append_inj' g2 rfl).2
     simp only[kY,and_true] at this
     exact h1 (by omega)
theorem zQb{N:Nat}{d:Dl}(hlen:d.2.2.2.length<2000000)(hnm:∀x∈d.2.2.2,x.2.2.2.1.size≤1048576∧x.2.2.2.2.length<2000000)(hN:3000000<N):∀(M:Nat) (fs:List Rose) (st:List Int),qHv 0 fs=d.2.2.2.take (qBp fs)→qBp fs≤d.2.2.2.length→st.length=d.2.2.2.length→StOk st 0 fs→d.2.2.2.length-qBp fs<M→
  ∃out,qAt (qGw N d) M (((qBp fs:Nat):Int),st)=some out∧(match out with
   | .inl st'=>(∀x∈d.2.2.2.drop (qBp fs),qNa (d.2.2.1.length:Int) x=true)∧∃fs',ordS (d.2.2.2.drop (qBp fs)) (qBp fs) (qDh 0 fs)=some (qDh 0 fs')∧StOk st' 0 fs'∧st'.length=d.2.2.2.length∧qBp fs'=d.2.2.2.length
   | .inr b=>b=false∧¬((∀x∈d.2.2.2.drop (qBp fs),qNa (d.2.2.1.length:Int) x=true)∧∃r,ordS (d.2.2.2.drop (qBp fs)) (qBp fs) (qDh 0 fs)=some r))
 |0,_,_,_,_,_,_,h=>absurd h (kN _)
 |M+1,fs,st,hf,hle,hst,hs,hM=>by
  by_cases hi:qBp fs<d.2.2.2.length
  ·have hdr:d.2.2.2.drop (qBp fs)=d.2.2.2[qBp fs]::d.2.2.2.drop (qBp fs+1):=qMw hi
   obtain⟨n1,n2⟩:=hnm _ (jW hi)
   rw[hdr]
   generalize hx:d.2.2.2[qBp fs]=x at n1 n2
   have wi:IntKind.wrap .i64 (((qBp fs:Nat):Int)+1)=((qBp fs+1:Nat):Int):=by rw[wi64 (by omega) (by omega)];omega
   have wl:IntKind.wrap .i64 ((x.2.2.2.2.length:Int)-1)=(x.2.2.2.2.length:Int)-1:=by rw[wi64 (by omega) (by omega)]
   have hil:qBp fs<st.length:=by omega
   have e1:(qGw N d (((qBp fs:Nat):Int),st))=if qNa (d.2.2.1.length:Int) x=true then(if x.2.2.2.2.length≤fs.length∧(qDh 0 fs).drop (fs.length-x.2.2.2.2.length)=x.2.2.2.2 then some (.inl (((qBp fs+1:Nat):Int),(st.set (qBp fs) ((qBp fs:Nat):Int)).set (qBp fs) ((qBp (fs.take (fs.length-x.2.2.2.2.length)):Nat):Int))) else some (.inr (.inr false))) else some (.inr (.inr false)):=by
    simp only[qGw]
    rw[if_pos (by simp only[jA];omega),qDn hi]
    simp only[j0,hx]
    rw[show qPf N (x.1,x.2.1,x.2.2.1,x.2.2.2.1,x.2.2.2.2) (d.2.2.1.length:Int)=_ from zUk n1 hN]
    simp only[j0]
    by_cases hn:qNa (d.2.2.1.length:Int) x=true
    ·rw[if_pos hn,hn,if_neg (by decide),qDn hil]
     simp only[j0,jS,wi,wl]
     have h3:=zNv (N:=N) (i:=qBp fs) (x:=x) (so:=st) x.2.2.2.2.length N fs (st.set (qBp fs) ((qBp fs:Nat):Int)) (jV _) (by omega) (hs.set (by omega)) (List.getElem?_set_self hil) (jV _) (by omega) n2
     rw[gP] at h3
     rw[h3]
     simp only[j0]
     by_cases hc:x.2.2.2.2.length≤fs.length∧(qDh 0 fs).drop (fs.length-x.2.2.2.2.length)=x.2.2.2.2
     ·rw[if_pos hc,if_pos hc]
     ·rw[if_neg hc,if_neg hc]
    ·rw[if_neg hn,show qNa (d.2.2.1.length:Int) x=false by simpa using hn]
     rfl
   simp only[qAt,e1]
   by_cases hn:qNa (d.2.2.1.length:Int) x=true
   ·rw[if_pos hn]
    by_cases hc:x.2.2.2.2.length≤fs.length∧(qDh 0 fs).drop (fs.length-x.2.2.2.2.length)=x.2.2.2.2
    ·rw[if_pos hc]
     simp only[j0]
     obtain⟨g1,g2,g3⟩:=zBl (h:=(x.1,x.2.1,x.2.2.1,x.2.2.2.1)) hc.1 rfl hc.2
     have hx':qJu (x.1,x.2.1,x.2.2.1,x.2.2.2.1) x.2.2.2.2=x:=rfl
     rw[hx'] at g3
     rw[List.set_set]
     have hst2:StOk (st.set (qBp fs) ((qBp (fs.take (fs.length-x.2.2.2.2.length)):Nat):Int)) 0 (fs.take (fs.length-x.2.2.2.2.length)++[Rose.mk (x.1,x.2.1,x.2.2.1,x.2.2.2.1) (fs.drop (fs.length-x.2.2.2.2.length))]):=by
      refine StOk.app.2 ⟨?_,?_,trivial⟩
      ·have h0:=hs
       rw[←gO (fs.length-x.2.2.2.2.length) fs] at h0
       refine(StOk.app.1 h0).1.set ?_
       have:=qOk (fs.take (fs.length-x.2.2.2.2.length)) (fs.drop (fs.length-x.2.2.2.2.length))
       rw[gO] at this
       omega
      ·have:=qOk (fs.take (fs.length-x.2.2.2.2.length)) (fs.drop (fs.length-x.2.2.2.2.length))
       rw[gO] at this
       rw[kK,show qBp (fs.take (fs.length-x.2.2.2.2.length))+(Rose.mk (x.1,x.2.1,x.2.2.1,x.2.2.2.1) (fs.drop (fs.length-x.2.2.2.2.length))).size-1=qBp fs by simp only[Rose.size];omega]
       exact List.getElem?_set_self hil
     have ht:d.2.2.2.take (qBp fs+1)=d.2.2.2.take (qBp fs)++[x]:=by rw[qSf hi,hx]
     obtain⟨out,o1,o2⟩:=zQb hlen hnm hN M _ (st.set (qBp fs) ((qBp (fs.take (fs.length-x.2.2.2.2.length)):Nat):Int)) (by rw[g3,g1,ht,hf]) (by rw[g1];omega) (by rw[gY];exact hst) hst2 (by rw[g1];omega)
     rw[g1] at o1 o2
     refine⟨out,o1,?_⟩
     have hord:ordS (x::d.2.2.2.drop (qBp fs+1)) (qBp fs) (qDh 0 fs)=ordS (d.2.2.2.drop (qBp fs+1)) (qBp fs+1) (qDh 0 (fs.take (fs.length-x.2.2.2.2.length)++[Rose.mk (x.1,x.2.1,x.2.2.1,x.2.2.2.1) (fs.drop (fs.length-x.2.2.2.2.length))])):=by
      rw[zBa x _ _ _ x.2.2.2.2 rfl,qKf,if_pos hc,g2]
     rw[hord]
     cases out with
     |inl st'=>exact⟨fun y hy=>(jR.1 hy).elim (fun e=>e▸hn) (o2.1 y),o2.2⟩
     |inr b=>exact⟨o2.1,fun h=>o2.2 ⟨fun y hy=>h.1 y (jL _ hy),h.2⟩⟩
    ·rw[if_neg hc]
     refine⟨_,rfl,rfl,?_⟩
     rintro⟨-,r,hr⟩
     rw[zBa x _ _ _ x.2.2.2.2 rfl,qKf,if_neg hc] at hr
     cases hr
   ·rw[if_neg hn]
    exact⟨_,rfl,rfl,fun h=>hn (h.1 x (jJ ..))⟩
  ·have he:qBp fs=d.2.2.2.length:=by omega
   have hd:d.2.2.2.drop (qBp fs)=[]:=jT (by omega)
   have e1:(qGw N d (((qBp fs:Nat):Int),st))=some (.inr (.inl st)):=by
    simp only[qGw]
    rw[if_neg (by simp only[jA];omega)]
   simp only[qAt,e1,j0]
   refine⟨.inl st,rfl,?_⟩
   dsimp only
   rw[hd]
   exact⟨fun x hx=>(by cases hx),fs,rfl,hs,hst,he⟩
end
section
open Go Go.Dc
def oneP:Option (List Int)→Bool
 |some [_]=>true
 |_=>false
def zHt(d:Dl):Bool:=d.2.2.2.all (qNa (d.2.2.1.length:Int))&&oneP (ordS d.2.2.2 0 [])
def zEd(d:Dl):Bool:=if d.1=1∨d.1=2 then qDo d.2.1 else if d.1=3 then qNe d.2.1.data.toList else false
def zIu(d:Dl):Bool:=d.2.2.1.all fun s=>d.1==1&&qDo s
def qIo(d:Dl):Bool:=zEd d&&(zIu d&&zHt d)
def SmD(d:Dl):Prop:=d.2.1.size≤1048576∧d.2.2.1.length<2000000∧d.2.2.2.length<2000000∧∀x∈d.2.2.2,x.2.2.2.1.size≤1048576∧x.2.2.2.2.length<2000000
theorem zOi{N:Nat}{d:Dl}(hd:SmD d)(hN:3000000<N):qAt (qIe N d) N 0=some (if zIu d=true then .inl () else .inr false):=by
 obtain⟨-,h1,-,-⟩:=hd
 have h:=qHd (L:=d.2.2.1) (fun(_:Unit) (i:Nat)=>(i:Int)) (f:=qIe N d)
  (fun _ s=>if(!(d.1==1&&qDo s))=true then .inr (.inr false) else .inl ()) (fun _=>(.inl ():Unit⊕Bool)) (fun _ _=>True) (by
   intro t i hi _
   simp only[qIe]
   rw[if_pos (by simp only[jA];omega),qDn hi]
   have ew:IntKind.wrap .i64 ((i:Int)+1)=((i+1:Nat):Int):=by rw[wi64 (by omega) (by omega)];omega
   simp only[j0,qXh (s:=d.2.2.1[i]) (show 100<N by omega),ew]
   by_cases hk:d.1=1
   ·have e1:(d.1 !=1)=false:=by simp[hk]
    have e2:(d.1==1)=true:=by simp[hk]
    simp only[e1,e2,jB,jH,j0,g9]
    cases qDo d.2.2.1[i]<;>rfl
   ·have e1:(d.1 !=1)=true:=by simp[hk]
    have e2:(d.1==1)=false:=by simp[hk]
    simp only[e1,e2,jK,j0,Bool.false_and,kJ]) (fun _ _ _ _ _ _=>trivial) (by
   intro t _
   simp only[qIe]
   rw[if_neg (by simp)]) (M:=N) (t:=()) (by omega) trivial
 rw[show((0:Nat):Int)=0 from rfl] at h
 rw[h,qSb (b:=(.inr false:Unit⊕Bool)) (fun s=> !(d.1==1&&qDo s)) (fun x=>rfl)]
 unfold zIu
 rw[gG]
 cases(d.2.2.1.any fun s=> !(d.1==1&&qDo s))<;>rfl
theorem zJs{N:Nat}{d:Dl}(hd:SmD d)(hN:3000000<N):qLn N d=some (qIo d):=by
 obtain⟨hn1,h1,h2,h3⟩:=id hd
 unfold qLn
 have hhead:((if(d.1==1)=true then(some (d.1==1)) else(some (d.1==2)):Option (Bool)).bind fun o2=>if o2=true then((qKa N d.2.1).bind fun y1=>if(!y1)=true then(some (.inr false)) else(some (.inl ()))) else(if(d.1==3)=true then((qMz N d.2.1).bind fun y2=>if(!y2)=true then(some (.inr false)) else(some (.inl ()))) else(some (.inr false))):Option ((Unit)⊕(Bool)))=some (if zEd d=true then .inl () else .inr false):=by
  simp only[qXh (s:=d.2.1) (show 100<N by omega),zHp (s:=d.2.1) (N:=N) (by omega) (by omega),j0]
  unfold zEd
  by_cases k1:d.1=1
  ·simp only[k1,kX,jK,j0,true_or]
   cases qDo d.2.1<;>rfl
  have e1:(d.1==1)=false:=by simpa using k1
  by_cases k2:d.1=2
  ·simp only[e1,k2,kX,jB,jH,jK,j0,or_true]
   cases qDo d.2.1<;>rfl
  have e2:(d.1==2)=false:=by simpa using k2
  by_cases k3:d.1=3
  ·have e3:(d.1==3)=true:=by simpa using k3
   rw[if_neg (show ¬(d.1=1∨d.1=2) by omega),if_pos k3]
   simp only[e1,e2,e3,jB,jH,jK,j0]
   cases qNe d.2.1.data.toList<;>rfl
  ·have e3:(d.1==3)=false:=by simpa using k3
   rw[if_neg (show ¬(d.1=1∨d.1=2) by omega),if_neg k3]
   simp only[e1,e2,e3,jB,jH,j0]
 rw[hhead]
 simp only[j0]
 unfold qIo
 by_cases hh:zEd d=true
 ·rw[if_pos hh,hh,g9]
  simp only[zOi hd hN,j0]
  by_cases hp:zIu d=true
  ·rw[if_pos hp,hp,g9]
   have hmx:(maxLen:Int)=9223372036854775807:=rfl
   have hmk:qYe 8 (0:Int) (d.2.2.2.length:Int)=some (List.replicate d.2.2.2.length 0):=by
    unfold qYe;rw[if_pos (by omega),jS]
   simp only[hmk,j0]
   obtain⟨out,o1,o2⟩:=zQb (N:=N) h2 h3 hN N [] (List.replicate d.2.2.2.length 0) (by simp[qHv,qBp]) (kZ _) (by simp) trivial (by omega)
   have e0:((qBp []:Nat):Int)=0:=rfl
   rw[e0] at o1
   rw[o1]
   simp only[j0]
   rw[show qBp []=0 from rfl,k0] at o2
   cases out with
   |inr b=>
    obtain⟨rfl,hno⟩:=o2
    dsimp only
    congr 1
    unfold zHt
    cases ha:d.2.2.2.all (qNa (d.2.2.1.length:Int)) with
    |false=>rfl
    |true=>
     rw[g9]
     cases ho:ordS d.2.2.2 0 [] with
     |none=>rfl
     |some r=>exact absurd ⟨kD.1 ha,r,ho⟩ hno
   |inl st=>
    obtain⟨ha,fs,ho,hs,hl,hz⟩:=o2
    dsimp only
    have ha':d.2.2.2.all (qNa (d.2.2.1.length:Int))=true:=kD.2 ha
    have ho':ordS d.2.2.2 0 []=some (qDh 0 fs):=ho
    unfold zHt
    rw[ha',ho',g9]
    rcases fX fs with rfl|⟨pre,t,rfl⟩
    ·have hz0:d.2.2.2.length=0:=by rw[←hz];rfl
     rw[if_neg (by simp[hz0])]
     rfl
    ·rw[List.concat_eq_append] at*
     have hsz:qBp (pre++[t])=qBp pre+t.size:=by rw[qOk];simp[qBp]
     have hp:=t.pos
     obtain⟨-,hs2,-⟩:=StOk.app.1 hs
     rw[kK] at hs2
     have w:IntKind.wrap .i64 ((d.2.2.2.length:Int)-1)=((qBp pre+t.size-1:Nat):Int):=by rw[wi64 (by omega) (by omega)];omega
     rw[if_pos (by simp only[jA];omega),w,qRj hs2]
     simp only[j0]
     congr 1
     rw[qUs,kK]
     cases pre with
     |nil=>rfl
     |cons u pre=>
      have hu:=u.pos
      have e1:((((qBp (u::pre):Nat)):Int)==0)=false:=by
       simp only[qBp,beq_eq_false_iff_ne];omega
      rw[e1]
      cases pre<;>rfl
  ·rw[if_neg hp,show zIu d=false by simpa using hp]
   rfl
 ·rw[if_neg hh,show zEd d=false by simpa using hh]
  rfl
def SmSr(f:Sr):Prop:=f.2.1.length<2000000∧f.2.2.length<2000000∧∀d∈f.2.2,SmD d
def synP(f:Sr):Bool:=qDo f.1&&(f.2.1.all qDo&&f.2.2.all qIo)
theorem zOo{N:Nat}{f:Sr}(hf:SmSr f)(hN:3000000<N):qMu N f=some (synP f):=by
 obtain⟨h1,h2,h3⟩:=hf
 unfold qMu
 rw[qXh (by omega)]
 simp only[j0]
 unfold synP
 by_cases hn:qDo f.1=true
 ·rw[hn,if_neg (by decide),g9]
  have i1:=qHd (L:=f.2.1) (fun(_:Unit) (i:Nat)=>(i:Int)) (f:=qKp N f)
   (fun _ s=>if(!qDo s)=true then .inr (.inr false) else .inl ()) (fun _=>(.inl ():Unit⊕Bool)) (fun _ _=>True) (by
    intro t i hi _
    simp only[qKp]
    rw[if_pos (by simp only[jA];omega),qDn hi]
    have ew:IntKind.wrap .i64 ((i:Int)+1)=((i+1:Nat):Int):=by rw[wi64 (by omega) (by omega)];omega
    simp only[j0,qXh (s:=f.2.1[i]) (show 100<N by omega),ew]
    cases qDo f.2.1[i]<;>rfl) (fun _ _ _ _ _ _=>trivial) (by
    intro t _
    simp only[qKp]
    rw[if_neg (by simp)]) (M:=N) (t:=()) (by omega) trivial
  have i2:=zAt (L:=f.2.2) (fun(_:Unit) (i:Nat)=>(i:Int)) (f:=qKo N f)
   (fun _ d=>if(!qIo d)=true then .inr (.inr false) else .inl ()) (fun _=>(.inl ():Unit⊕Bool)) (fun _ _=>True) (by
    intro t i hi _
    simp only[qKo]
    rw[if_pos (by simp only[jA];omega),qDn hi]
    have ew:IntKind.wrap .i64 ((i:Int)+1)=((i+1:Nat):Int):=by rw[wi64 (by omega) (by omega)];omega
    simp only[j0,ew]
    rw[show qLn N (f.2.2[i].1,f.2.2[i].2.1,f.2.2[i].2.2.1,f.2.2[i].2.2.2)=_ from zJs (h3 _ (jW hi)) hN]
    simp only[j0]
    cases qIo f.2.2[i]<;>rfl) (fun _ _ _ _ _ _=>trivial) (by
    intro t _
    simp only[qKo]
    rw[if_neg (by simp)]) f.2.2.length 0 N () (by omega) (by omega) trivial
  rw[show((0:Nat):Int)=0 from rfl] at i1 i2
  rw[i1,qSb (b:=(.inr false:Unit⊕Bool)) (fun s=> !qDo s) (fun x=>rfl),gG]
  cases ha:(f.2.1.any fun s=> !qDo s) with
  |true=>rfl
  |false=>
   simp only[jB,jH,j0,kJ,g9]
   rw[i2,k0,qSb (b:=(.inr false:Unit⊕Bool)) (fun s=> !qIo s) (fun x=>rfl),gG]
   cases(f.2.2.any fun s=> !qIo s)<;>rfl
 ·rw[show qDo f.1=false by simpa using hn]
  rfl
def dupG{α:Type}[DecidableEq α]:List α→List α→Bool
 |_,[]=>false
 |seen,x::l=>decide (x∈seen)||dupG (seen++[x]) l
def dupL{α:Type}[DecidableEq α](l:List α):Bool:=dupG [] l
theorem zLo{α:Type}[DecidableEq α]{l:List α}{f:Int→Option (Int⊕(Unit⊕Bool))}(hs:∀(i:Nat) (hi:i<l.length),f (i:Int)=some (if l[i]∈l.take i then .inr (.inr true) else .inl ((i+1:Nat):Int)))
  (hf:f (l.length:Int)=some (.inr (.inl ()))):∀(d i M:Nat),i+d=l.length→d<M→qAt f M (i:Int)=some (if dupG (l.take i) (l.drop i)=true then .inr true else .inl ())
 |_,_,0,_,h=>absurd h (kN _)
 |0,i,M+1,hd,_=>by
  have:i=l.length:=by omega
  subst this
  simp only[qAt,hf,j0,fY,dupG]
  rfl
 |d+1,i,M+1,hd,hM=>by
  have hi:i<l.length:=by omega
  simp only[qAt,hs i hi,j0]
  rw[qMw hi]
  by_cases hm:l[i]∈l.take i
  ·have e:dupG (l.take i) (l[i]::l.drop (i+1))=true:=by
    show(decide _||_)=true
    rw[jZ hm,Bool.true_or]
   rw[if_pos hm,if_pos e]
  ·have e:dupG (l.take i) (l[i]::l.drop (i+1))=dupG (l.take (i+1)) (l.drop (i+1)):=by
    show(decide _||_)=_
    rw[jX hm,kT,qSf hi]
   rw[if_neg hm,e]
   exact zLo hs hf d (i+1) M (by omega) (by omega)
theorem zHe{α:Type}[DecidableEq α]{l:List α}{f:Int→Option (Int⊕(Unit⊕Bool))}(hs:∀(i:Nat) (hi:i<l.length),f (i:Int)=some (if l[i]∈l.take i then .inr (.inr true) else .inl ((i+1:Nat):Int)))
  (hf:f (l.length:Int)=some (.inr (.inl ()))) {M:Nat} (hM:l.length<M):qAt f M 0=some (if dupL l=true then .inr true else .inl ()):=by
 have h:=zLo hs hf l.length 0 M (by omega) hM
 rw[List.take_zero,k0] at h
 exact h
theorem zDv{α:Type}[DecidableEq α]{l:List α}{x:α}{f:Int→Option (Int⊕(Unit⊕Int))}(hs:∀(i:Nat) (hi:i<l.length),f (i:Int)=some (if x=l[i] then .inr (.inr (i:Int)) else .inl ((i+1:Nat):Int)))
  (hf:f (l.length:Int)=some (.inr (.inl ()))):∀(d i M:Nat),i+d=l.length→d<M→∃o,qAt f M (i:Int)=some o∧(match o with| .inl _=>x∉l.drop i| .inr j=>x∈l.drop i∧0≤j)
 |_,_,0,_,h=>absurd h (kN _)
 |0,i,M+1,hd,_=>by
  have:i=l.length:=by omega
  subst this
  simp only[qAt,hf,j0,fY]
  exact⟨.inl (),rfl,gE⟩
 |d+1,i,M+1,hd,hM=>by
  have hi:i<l.length:=by omega
  simp only[qAt,hs i hi,j0]
  rw[qMw hi]
  by_cases hx:x=l[i]
  ·rw[if_pos hx]
   exact⟨.inr (i:Int),rfl,by rw[hx];exact jJ ..,by omega⟩
  ·rw[if_neg hx]
   simp only
   obtain⟨o,o1,o2⟩:=zDv hs hf d (i+1) M (by omega) (by omega)
   refine⟨o,o1,?_⟩
   cases o with
   |inl u=>exact fun h=>(jR.1 h).elim hx o2
   |inr j=>exact⟨jL _ o2.1,o2.2⟩
theorem qYn{N:Nat}{s:ByteArray}{l:List ByteArray}(hl:l.length<2000000)(hN:l.length<N):qCd N l s=some (decide (s∈l)):=by
 obtain⟨o,o1,o2⟩:=zDv (l:=l) (x:=s) (f:=qCr N l s) (fun i hi=>by
  simp only[qCr]
  rw[if_pos (by simp only[jA];omega),qDn hi]
  have ew:IntKind.wrap .i64 ((i:Int)+1)=((i+1:Nat):Int):=by rw[wi64 (by omega) (by omega)];omega
  simp only[j0,qEd,jA,ew]
  split<;>rfl) (by
  simp only[qCr]
  rw[if_neg (by simp)]) l.length 0 N (by omega) hN
 rw[show((0:Nat):Int)=0 from rfl] at o1
 rw[k0] at o2
 simp only[qCd,qDz,o1,j0]
 cases o with
 |inl u=>
  simp only at o2
  rw[jX o2];rfl
 |inr j=>
  simp only at o2 ⊢
  rw[jZ o2.1]
  simp[o2.2]
theorem zGo{N:Nat}{l:List ByteArray}(hl:l.length<2000000)(hN:l.length<N):qIu N l=some (dupL l):=by
 have h:=zHe (l:=l) (f:=qHa N l) (fun i hi=>by
  simp only[qHa]
  rw[if_pos (by simp only[jA];omega),qDn hi,qPt (by omega) (by omega) (by omega)]
  have ew:IntKind.wrap .i64 ((i:Int)+1)=((i+1:Nat):Int):=by rw[wi64 (by omega) (by omega)];omega
  simp only[j0,jS,fA,k0,ew]
  rw[qYn (by rw[kS];omega) (by rw[kS];omega)]
  simp only[j0,jA]
  split<;>rfl) (by
  simp only[qHa]
  rw[if_neg (by simp)]) hN
 simp only[qIu,h,j0]
 cases dupL l<;>rfl
abbrev Nm2:=Int×ByteArray
instance decMemN(s:Nm2)(l:List Nm2):Decidable (s∈l):=@List.instDecidableMemOfLawfulBEq Nm2 instBEqOfDecidableEq inferInstance s l
theorem zGz{N:Nat}{s:Nm2}{l:List Nm2}(hl:l.length<2000000)(hN:l.length<N):qDf N l s=some (decide (s∈l)):=by
 obtain⟨o,o1,o2⟩:=zDv (l:=l) (x:=s) (f:=qCt N l s) (fun i hi=>by
  simp only[qCt]
  rw[if_pos (by simp only[jA];omega),qDn hi]
  have ew:IntKind.wrap .i64 ((i:Int)+1)=((i+1:Nat):Int):=by rw[wi64 (by omega) (by omega)];omega
  have ee:((s.1==l[i].1)&&((s.2.toList==l[i].2.toList)&&true))=decide (s=l[i]):=by
   rw[kE]
   simp only[qEd,jO,kG,jA,and_true,Prod.ext_iff]
  simp only[j0,ee,jA,ew]
  split<;>rfl) (by
  simp only[qCt]
  rw[if_neg (by simp)]) l.length 0 N (by omega) hN
 rw[show((0:Nat):Int)=0 from rfl] at o1
 rw[k0] at o2
 simp only[qDf,qEo,o1,j0]
 cases o with
 |inl u=>
  simp only at o2
  rw[jX o2];rfl
 |inr j=>
  simp only at o2 ⊢
  rw[jZ o2.1]
  simp[o2.2]
theorem zNi{N:Nat}{l:List Nm2}(hl:l.length<2000000)(hN:l.length<N):qHp N l=some (dupL l):=by
 have h:=zHe (l:=l) (f:=qEm N l) (fun i hi=>by
  simp only[qEm]
  rw[if_pos (by simp only[jA];omega),qDn hi,qPt (by omega) (by omega) (by omega)]
  have ew:IntKind.wrap .i64 ((i:Int)+1)=((i+1:Nat):Int):=by rw[wi64 (by omega) (by omega)];omega
  simp only[j0,jS,fA,k0,ew]
  rw[zGz (by rw[kS];omega) (by rw[kS];omega)]
  simp only[j0,jA]
  split<;>rfl) (by
  simp only[qEm]
  rw[if_neg (by simp)]) hN
 simp only[qHp,h,j0]
 cases dupL l<;>rfl
def qRh(d:Dl):Nm2:=(d.1,d.2.1)
def qYp(f:Sr):Bool:=f.2.2.any (fun d=>dupL d.2.2.1)||(decide (f.1∈f.2.1)||(dupL f.2.1||dupL (f.2.2.map qRh)))
theorem zSg{N:Nat}{f:Sr}(hf:SmSr f)(hN:3000000<N):qAt (qKk N f) N ([],0)=some (if f.2.2.any (fun d=>dupL d.2.2.1)=true then .inr true else .inl (f.2.2.map qRh)):=by
 obtain⟨h1,h2,h3⟩:=hf
 have h:=qHd (L:=f.2.2) (fun(t:List Nm2) (i:Nat)=>(t,(i:Int))) (f:=qKk N f)
  (fun t d=>if dupL d.2.2.1=true then .inr (.inr true) else .inl (t++[qRh d])) (fun t=>(.inl t:List Nm2⊕Bool)) (fun i t=>t.length≤i) (by
   intro t i hi hI
   obtain⟨-,k1,-,-⟩:=h3 _ (jW hi)
   simp only[qKk]
   rw[if_pos (by simp only[jA];omega),qDn hi]
   have ew:IntKind.wrap .i64 ((i:Int)+1)=((i+1:Nat):Int):=by rw[wi64 (by omega) (by omega)];omega
   simp only[j0,zGo k1 (show(f.2.2[i]).2.2.1.length<N by omega),ew]
   rw[qDm (by simp only[jD,jF];omega) (by omega)]
   simp only[j0]
   split<;>rfl) (by
   intro t i hi t' hI h
   split at h
   ·cases h
   ·cases h
    simp only[jC,jD,jF];omega) (by
   intro t hI
   simp only[qKk]
   rw[if_neg (by simp)]) (M:=N) (t:=[]) (by omega) (jV _)
 rw[show((0:Nat):Int)=0 from rfl] at h
 rw[h]
 congr 1
 suffices g:∀(l:List Dl) (t:List Nm2),run (fun t d=>if dupL d.2.2.1=true then .inr (.inr true) else .inl (t++[qRh d])) (fun t=>(.inl t:List Nm2⊕Bool)) l t=if l.any (fun d=>dupL d.2.2.1)=true then .inr true else .inl (t++l.map qRh) by
  have:=g f.2.2 []
  rw[jQ] at this
  exact this
 intro l
 induction l with
 |nil=>intro t;simp[run]
 |cons d l ih=>
  intro t
  simp only[run,fH,kC]
  cases hd:dupL d.2.2.1 with
  |true=>simp
  |false=>
   simp only[jB,jH,kT]
   rw[ih,jE];rfl
theorem zRj{N:Nat}{f:Sr}(hf:SmSr f)(hN:3000000<N):qNt N f=some (qYp f):=by
 obtain⟨h1,h2,h3⟩:=id hf
 unfold qNt
 rw[zSg hf hN]
 simp only[j0]
 unfold qYp
 cases ha:f.2.2.any (fun d=>dupL d.2.2.1) with
 |true=>rfl
 |false=>
  simp only[jB,jH,kT]
  rw[qYn h1 (by omega),zGo h1 (by omega),zNi (by rw[gD];exact h2) (by rw[gD];omega)]
  simp only[j0]
  cases decide (f.1∈f.2.1)<;>cases dupL f.2.1<;>rfl
end
section
open Go Go.Dc
def zMh:List Ex→List Rose→List Rose
 |[],fs=>fs
 |x::l,fs=>zMh l (fs.take (fs.length-x.2.2.2.2.length)++[Rose.mk (x.1,x.2.1,x.2.2.1,x.2.2.2.1) (fs.drop (fs.length-x.2.2.2.2.length))])
def zIl(l:List Ex):Option Rose:=match zMh l [] with
 |[t]=>some t
 |_=>none
theorem zKo:∀(l:List Ex) (fs:List Rose) {st:List Int},ordS l (qBp fs) (qDh 0 fs)=some st→qHv 0 (zMh l fs)=qHv 0 fs++l∧st=qDh 0 (zMh l fs)
 |[],fs,st,h=>⟨by simp[zMh],(jI h).symm⟩
 |x::l,fs,st,h=>by
  rw[zBa x _ _ _ x.2.2.2.2 rfl] at h
  split at h
  ·rename_i hc
   obtain⟨h1,h2⟩:=hc
   rw[qKf] at h1 h2 h
   obtain⟨e1,e2,e3⟩:=zBl (h:=(x.1,x.2.1,x.2.2.1,x.2.2.2.1)) h1 rfl h2
   rw[←e1,←e2] at h
   obtain⟨g1,g2⟩:=zKo l _ h
   exact⟨by rw[zMh,g1,e3,jE];rfl,g2⟩
  ·cases h
theorem qWw{l:List Ex}(h:oneP (ordS l 0 [])=true):∃t,zIl l=some t∧l=t.flat 0:=by
 cases ho:ordS l 0 [] with
 |none=>rw[ho] at h;cases h
 |some st=>
  rw[ho] at h
  obtain⟨g1,g2⟩:=zKo l [] ho
  have hl:st.length=1:=by
   match st,h with
   |[x],_=>rfl
  rw[g2,qKf] at hl
  obtain⟨t,ht⟩:=List.length_eq_one_iff.1 hl
  refine⟨t,by unfold zIl;rw[ht],?_⟩
  rw[ht] at g1
  simpa[qHv] using g1.symm
mutual
def Rose.deepen(d:Nat):Rose→Nat
 | .mk h ks=>max d (qLs (if h.1=4 then d else d+1) ks)
def qLs(d:Nat):List Rose→Nat
 |[]=>0
 |t::l=>max (t.deepen d) (qLs d l)
end
theorem qWl{d:Nat}:∀{l:List Rose},(32<qLs d l)↔∃t∈l,32<t.deepen d
 |[]=>by simp[qLs]
 |t::l=>by
  have ih:=qWl (d:=d) (l:=l)
  simp only[qLs,jR,exists_eq_or_imp,←ih]
  omega
def qTl(dp:List Int)(a:List Int)(v:Int):List Int:=a.foldl (fun dp a=>dp.set a.toNat v) dp
theorem zCm:∀(a:List Int) (dp:List Int) (v:Int),(qTl dp a v).length=dp.length
 |[],_,_=>rfl
 |x::a,dp,v=>by
  show(qTl (dp.set x.toNat v) a v).length=_
  rw[zCm a,gY]
theorem zAm{j:Nat}{v:Int}:∀(ks:List Rose) (b:Nat) (dp:List Int),j<b→(qTl dp (qDh b ks) v)[j]? =dp[j]?
 |[],_,_,_=>rfl
 |t::l,b,dp,h=>by
  have hp:=t.pos
  show(qTl (dp.set (((b+t.size-1:Nat):Int)).toNat v) (qDh (b+t.size) l) v)[j]? =_
  rw[zAm l (b+t.size) _ (by omega),jS,List.getElem?_set_ne (by omega)]
def DpOk(dp:List Int):Nat→List (Rose×Nat)→Prop
 |_,[]=>True
 |b,p::l=>(∃v:Int,dp[b+p.1.size-1]? =some v∧(v=(p.2:Int)∨v=0∧p.2=1))∧DpOk dp (b+p.1.size) l
theorem DpOk.app{dp:List Int}:∀{l k:List (Rose×Nat)} {b:Nat},DpOk dp b (l++k)↔DpOk dp b l∧DpOk dp (b+qBp (l.map (·.1))) k
 |[],k,b=>by simp[DpOk,qBp]
 |t::l,k,b=>by
  rw[jP]
  simp only[DpOk,kC,qBp,DpOk.app (l:=l)]
  rw[and_assoc,gK]
theorem DpOk.congr{dp dp':List Int}:∀{l:List (Rose×Nat)} {b:Nat},DpOk dp b l→(∀j,j<b+qBp (l.map (·.1))→dp'[j]? =dp[j]?)→DpOk dp' b l
 |[],_,_,_=>trivial
 |t::l,b,h,hj=>by
  have hp:=t.1.pos
  simp only[kC,qBp] at hj
  refine⟨?_,h.2.congr fun j h=>hj j (by omega)⟩
  obtain⟨v,h1,h2⟩:=h.1
  exact⟨v,by rw[hj _ (by omega)];exact h1,h2⟩
theorem DpOk.kids{d:Nat}:∀{ks:List Rose} {b:Nat} {dp:List Int},b+qBp ks≤dp.length→DpOk (qTl dp (qDh b ks) (d:Int)) b (ks.map fun t=>(t,d))
 |[],_,_,_=>trivial
 |t::l,b,dp,h=>by
  have hp:=t.pos
  simp only[qBp] at h
  show DpOk (qTl (dp.set (((b+t.size-1:Nat):Int)).toNat d) (qDh (b+t.size) l) d) b ((t,d)::l.map fun t=>(t,d))
  refine⟨⟨d,?_,.inl rfl⟩,DpOk.kids (by rw[gY];omega)⟩
  rw[zAm l (b+t.size) _ (by show b+t.size-1<b+t.size;omega),jS,List.getElem?_set_self (by omega)]
theorem zJa{N i d:Nat}{x1:Dl}{x5:Ex}{so:List Int}(hx:x1.2.2.2[i]? =some x5)(ha:∀a∈x5.2.2.2.2,0≤a∧a<(i:Int))(hal:x5.2.2.2.2.length<2000000)(hd:d≤1000):∀(k j M:Nat) (dp:List Int),j+k=x5.2.2.2.2.length→k<M→i<dp.length→dp[i]? =some (d:Int)→
  qAt (qMe N x1 ((i:Int),so) x5) M ((j:Int),dp)=some (qTl dp (x5.2.2.2.2.drop j) (if x5.1=4 then(d:Int) else((d+1:Nat):Int)))
 |_,_,0,_,_,h,_,_=>absurd h (kN _)
 |0,j,M+1,dp,hj,_,_,_=>by
  have:j=x5.2.2.2.2.length:=by omega
  subst this
  simp only[qAt,qMe]
  rw[if_neg (by simp),fY]
  rfl
 |k+1,j,M+1,dp,hj,hM,hi,hdp=>by
  have hjl:j<x5.2.2.2.2.length:=by omega
  obtain⟨a0,a1⟩:=ha _ (jW hjl)
  obtain⟨a,ea⟩:∃a:Nat,x5.2.2.2.2[j]=(a:Int):=⟨(x5.2.2.2.2[j]).toNat,by omega⟩
  have hal2:a<i:=by omega
  have ew:IntKind.wrap .i64 ((j:Int)+1)=((j+1:Nat):Int):=by rw[wi64 (by omega) (by omega)];omega
  have ed:IntKind.wrap .i64 ((d:Int)+1)=((d+1:Nat):Int):=by rw[wi64 (by omega) (by omega)];omega
  simp only[qAt,qMe]
  rw[if_pos (by simp only[jA];omega),qDn hjl,ea]
  have hax:idx dp (a:Int)=some dp[a]:=qDn (by omega)
  have hset:idx (dp.set a (d:Int)) (a:Int)=some (d:Int):=qRj (List.getElem?_set_self (by omega))
  simp only[j0,qRj hdp,hax,qRj hx,jS,hset,ed,ew]
  rw[qMw hjl,ea]
  have hstep:∀v:Int,qTl dp ((a:Int)::x5.2.2.2.2.drop (j+1)) v=qTl (dp.set a v) (x5.2.2.2.2.drop (j+1)) v:=fun v=>by
   show qTl (dp.set ((a:Int)).toNat v) _ v=_
   rw[jS]
  by_cases hk:x5.1=4
  ·have e:(x5.1 !=4)=false:=by simp[hk]
   simp only[e,jB,jH,j0]
   rw[zJa hx ha hal hd k (j+1) M _ (by omega) (by omega) (by rw[gY];exact hi) (by rw[List.getElem?_set_ne (by omega)];exact hdp),if_pos hk,hstep]
  ·have e:(x5.1 !=4)=true:=by simp[hk]
   simp only[e,jK,j0,List.set_set]
   rw[zJa hx ha hal hd k (j+1) M _ (by omega) (by omega) (by rw[gY];exact hi) (by rw[List.getElem?_set_ne (by omega)];exact hdp),if_neg hk,hstep]
theorem zLf:∀{ks:List Rose} {b:Nat},∀a∈qDh b ks,(b:Int)≤a∧a<((b+qBp ks:Nat):Int)
 |[],_,a,h=>by cases h
 |t::l,b,a,h=>by
  have hp:=t.pos
  simp only[qBp]
  rcases jR.1 h with rfl|h
  ·omega
  ·have:=zLf (ks:=l) (b:=b+t.size) a h
   omega
theorem zOl{N:Nat}{x1:Dl}(hlen:x1.2.2.2.length≤256)(hargs:∀x∈x1.2.2.2,x.2.2.2.2.length<2000000)(hN:3000000<N):∀(M:Nat) (F:List (Rose×Nat)) (dp:List Int),qHv 0 (F.map (·.1))=x1.2.2.2.take (qBp (F.map (·.1)))→qBp (F.map (·.1))≤x1.2.2.2.length→dp.length=x1.2.2.2.length→DpOk dp 0 F→(∀p∈F,1≤p.2∧p.2≤33)→qBp (F.map (·.1))<M→
  ∃o,qAt (qLg N x1) M (((qBp (F.map (·.1)):Nat):Int)-1,dp)=some o∧(match o with
   | .inl _=>¬∃p∈F,32<p.1.deepen p.2
   | .inr b=>b=true∧∃p∈F,32<p.1.deepen p.2)
 |0,_,_,_,_,_,_,_,h=>absurd h (kN _)
 |M+1,F,dp,hf,hle,hdl,hdp,hd1,hM=>by
  rcases fX F with rfl|⟨pre,⟨⟨h,ks⟩,d⟩,rfl⟩
  ·simp only[qAt,qLg]
   rw[if_neg (by simp[qBp])]
   exact⟨_,rfl,by simp⟩
  ·rw[List.concat_eq_append] at*
   obtain⟨g1,g2⟩:=hd1 (Rose.mk h ks,d) (by simp)
   simp only at g1 g2
   rw[gW,List.map_singleton] at hf hle hM ⊢
   have hsz:qBp (pre.map (·.1)++[Rose.mk h ks])=qBp (pre.map (·.1))+(qBp ks+1):=by rw[qOk];simp[qBp,Rose.size]
   generalize hb:qBp (pre.map (·.1))=b at hsz
   obtain⟨d1,d2,-⟩:=DpOk.app.1 hdp
   rw[kK,hb] at d2
   obtain⟨v,v1,v2⟩:=d2
   simp only[Rose.size] at v1
   rw[show b+(qBp ks+1)-1=b+qBp ks by omega] at v1
   rw[hsz] at hle hM ⊢
   have hi:b+qBp ks<dp.length:=by omega
   have ei:((b+(qBp ks+1):Nat):Int)-1=((b+qBp ks:Nat):Int):=by omega
   -- the node
   have hnode:x1.2.2.2[b+qBp ks]? =some (qJu h (qDh b ks)):=by
    have e:x1.2.2.2.take (b+(qBp ks+1))=qHv 0 (pre.map (·.1))++(qHv b ks++[qJu h (qDh b ks)]):=by
     rw[hsz] at hf
     rw[←hf,qSe,kK,hb]
     simp[qHv,Rose.flat]
    have e2:(x1.2.2.2.take (b+(qBp ks+1)))[b+qBp ks]? =some (qJu h (qDh b ks)):=by
     rw[e,List.getElem?_append_right (by rw[qKu,hb];omega),List.getElem?_append_right (by rw[qKu,qKu,hb];omega),qKu,qKu,hb,show b+qBp ks-b-qBp ks=0 by omega]
     rfl
    rw[List.getElem?_take_of_lt (by omega)] at e2
    exact e2
   have wi:IntKind.wrap .i64 (((b+qBp ks:Nat):Int)-1)=((b+qBp ks:Nat):Int)-1:=by rw[wi64 (by omega) (by omega)]
   -- the node's depth is laid
   have hset:(if(v==0)=true then some (dp.set (b+qBp ks) 1) else some dp:Option (List Int))=some (dp.set (b+qBp ks) (d:Int)):=by
    rcases v2 with rfl|⟨rfl,rfl⟩
    ·have:((d:Int)==0)=false:=by rw[beq_eq_false_iff_ne];omega
     rw[this,zLn v1];rfl
    ·rfl
   have hd':(dp.set (b+qBp ks) (d:Int))[b+qBp ks]? =some (d:Int):=List.getElem?_set_self hi
   simp only[qAt,qLg]
   rw[ei,if_pos (by simp only[jA];omega),qRj v1]
   simp only[j0,jS,hset,qRj hd',qRj hnode]
   have hdeep:(Rose.mk h ks).deepen d=max d (qLs (if h.1=4 then d else d+1) ks):=by simp only[Rose.deepen]
   by_cases h32:32<d
   ·rw[if_pos (by simp only[jA];omega)]
    refine⟨.inr true,rfl,rfl,(Rose.mk h ks,d),by simp,?_⟩
    simp only[hdeep];omega
   ·rw[if_neg (by simp only[jA];omega)]
    have hra:∀a∈qDh b ks,0≤a∧a<((b+qBp ks:Nat):Int):=fun a ha=>by
     have:=zLf a ha;omega
    have h3:=zJa (N:=N) (i:=b+qBp ks) (d:=d) (x1:=x1) (x5:=qJu h (qDh b ks)) (so:=dp) hnode hra (by
     have:=hargs _ (fK hnode);exact this) (by omega) (qDh b ks).length 0 N (dp.set (b+qBp ks) (d:Int)) (by show 0+_=(qDh b ks).length;omega) (by
     have:=hargs _ (fK hnode)
     have:(qDh b ks).length<2000000:=this
     omega) (by rw[gY];exact hi) hd'
    rw[k0] at h3
    rw[show(((0:Nat):Int))=0 from rfl] at h3
    rw[h3]
    simp only[j0,wi]
    have hv:(if(qJu h (qDh b ks)).1=4 then(d:Int) else((d+1:Nat):Int))=(((if h.1=4 then d else d+1:Nat)):Int):=by
     show(if h.1=4 then(d:Int) else((d+1:Nat):Int))=_
     split<;>rfl
    rw[hv]
    show ∃o,qAt (qLg N x1) M (((b+qBp ks:Nat):Int)-1,qTl (dp.set (b+qBp ks) (d:Int)) (qDh b ks) _)=some o∧_
    generalize hd2:(if h.1=4 then d else d+1:Nat)=d'
    rw[hd2] at hdeep
    have hd2':1≤d'∧d'≤33:=by rw[←hd2];split<;>omega
    have hmm:∀l:List Rose,(l.map fun t=>(t,d')).map (·.1)=l:=fun l=>by rw[List.map_map];exact List.map_id _
    have hszF:qBp ((pre++ks.map fun t=>(t,d')).map (·.1))=b+qBp ks:=by rw[gW,hmm,qOk,hb]
    have hfl:qHv 0 ((pre++ks.map fun t=>(t,d')).map (·.1))=x1.2.2.2.take (b+qBp ks):=by
     rw[gW,hmm,qSe,kK,hb]
     have e:x1.2.2.2.take (b+(qBp ks+1))=qHv 0 (pre.map (·.1))++(qHv b ks++[qJu h (qDh b ks)]):=by
      rw[hsz] at hf
      rw[←hf,qSe,kK,hb]
      simp[qHv,Rose.flat]
     have e3:=congrArg (List.take (b+qBp ks)) e
     rw[List.take_take,Nat.min_eq_left (by omega),←jE,gA (by rw[jC,qKu,qKu,hb];exact jV _),gT (show(qHv 0 (pre.map (·.1))++qHv b ks).length≤b+qBp ks by rw[jC,qKu,qKu,hb];exact jV _)] at e3
     exact e3.symm
    obtain⟨o,o1,o2⟩:=zOl hlen hargs hN M (pre++ks.map fun t=>(t,d')) (qTl (dp.set (b+qBp ks) (d:Int)) (qDh b ks) (d':Int)) (by rw[hszF];exact hfl) (by rw[hszF];omega) (by rw[zCm,gY];exact hdl) (DpOk.app.2 ⟨d1.congr fun j hj=>by
      rw[kK,hb] at hj
      rw[zAm ks b _ hj,List.getElem?_set_ne (by omega)],by
      rw[kK,hb]
      exact DpOk.kids (by rw[gY];omega)⟩) (fun p hp=>by
      rcases fB.1 hp with hp|hp
      ·exact hd1 p (kA _ hp)
      ·obtain⟨t,-,rfl⟩:=fQ.1 hp
       exact hd2') (by rw[hszF];omega)
    rw[hszF] at o1
    refine⟨o,o1,?_⟩
    have hiff:(∃p∈pre++ks.map fun t=>(t,d'),32<p.1.deepen p.2)↔∃p∈pre++[(Rose.mk h ks,d)],32<p.1.deepen p.2:=by
     simp only[fB,fQ,kO]
     constructor
     ·rintro⟨p,hp|⟨t,ht,rfl⟩,hq⟩
      ·exact⟨p,.inl hp,hq⟩
      ·refine⟨_,.inr rfl,?_⟩
       simp only[hdeep]
       have:32<qLs d' ks:=qWl.2 ⟨t,ht,hq⟩
       omega
     ·rintro⟨p,hp|rfl,hq⟩
      ·exact⟨p,.inl hp,hq⟩
      ·simp only[hdeep] at hq
       obtain⟨t,ht,hq⟩:=qWl.1 (show 32<qLs d' ks by omega)
       exact⟨_,.inr ⟨t,ht,rfl⟩,hq⟩
    cases o with
    |inl u=>exact fun hx=>o2 (hiff.2 hx)
    |inr u=>exact⟨o2.1,hiff.1 o2.2⟩
def zEf(l:List Ex):Bool:=match zIl l with
 |some t=>decide (32<t.deepen 1)
 |none=>false
def zAy(d:Dl):Bool:=decide (8<d.2.2.1.length)||(decide (256<d.2.2.2.length)||zEf d.2.2.2)
def zJl(f:Sr):Bool:=decide (8<f.2.1.length)||(decide (64<f.2.2.length)||f.2.2.any zAy)
def qMj(f:Sr):Int:=if synP f=true then if qYp f=true then 10 else if zJl f=true then 2 else 0 else 9
theorem zTu{N:Nat}{f:Sr}(hf:SmSr f)(hs:synP f=true)(hN:3000000<N):qPk N f=some (zJl f):=by
 obtain⟨h1,h2,h3⟩:=id hf
 have hbody:∀d∈f.2.2,oneP (ordS d.2.2.2 0 [])=true:=fun d hd=>by
  unfold synP qIo zHt at hs
  simp only[jO,kD] at hs
  exact(hs.2.2 d hd).2.2.2
 have hL:=qHd (L:=f.2.2) (fun(_:Unit) (i:Nat)=>(i:Int)) (f:=qMf N f)
  (fun _ d=>if zAy d=true then .inr (.inr true) else .inl ()) (fun _=>(.inl ():Unit⊕Bool)) (fun _ _=>True) (by
   intro t i hi _
   obtain⟨-,k1,k2,k3⟩:=h3 _ (jW hi)
   have hb:=hbody _ (jW hi)
   simp only[qMf]
   rw[if_pos (by simp only[jA];omega),qDn hi]
   generalize f.2.2[i]=d at k1 k2 k3 hb
   have ew:IntKind.wrap .i64 ((i:Int)+1)=((i+1:Nat):Int):=by rw[wi64 (by omega) (by omega)];omega
   have e8:decide ((d.2.2.1.length:Int)>8)=decide (8<d.2.2.1.length):=by congr 1;rw[eq_iff_iff];omega
   have e256:decide ((d.2.2.2.length:Int)>256)=decide (256<d.2.2.2.length):=by congr 1;rw[eq_iff_iff];omega
   simp only[j0,e8,e256,ew]
   unfold zAy
   cases c8:decide (8<d.2.2.1.length) with
   |true=>rfl
   |false=>
    simp only[jB,jH,j0,kT]
    cases c256:decide (256<d.2.2.2.length) with
    |true=>rfl
    |false=>
     have hl:=of_decide_eq_false c256
     have hmx:(maxLen:Int)=9223372036854775807:=rfl
     have hmk:qYe 8 (0:Int) (d.2.2.2.length:Int)=some (List.replicate d.2.2.2.length 0):=by
      unfold qYe;rw[if_pos (by omega),jS]
     obtain⟨t,ht1,ht2⟩:=qWw hb
     have htl:t.size=d.2.2.2.length:=by
      have:=qHk t 0
      rw[←ht2] at this;exact this.symm
     have hp:=t.pos
     simp only[jB,jH,hmk,j0,kT]
     have hsz:qBp ([(t,1)].map (·.1))=d.2.2.2.length:=by simp[qBp,htl]
     obtain⟨o,o1,o2⟩:=zOl (N:=N) (x1:=d) (by omega) (fun x hx=>(k3 x hx).2) hN N [(t,1)] (List.replicate d.2.2.2.length 0) (by
      rw[hsz,gP]
      simp only[kC,List.map_nil,qHv,jY]
      exact ht2.symm) (by rw[hsz];exact jV _) (by simp) ⟨⟨0,by rw[kK,htl,List.getElem?_replicate,if_pos (by omega)],.inr ⟨rfl,rfl⟩⟩,trivial⟩ (by simp) (by rw[hsz];omega)
     rw[hsz] at o1
     rw[wi64 (by omega) (by omega),o1]
     have hdb:zEf d.2.2.2=decide (32<t.deepen 1):=by unfold zEf;rw[ht1]
     simp only[j0]
     cases o with
     |inl u=>
      simp only[kO,exists_eq_left] at o2
      have e:zEf d.2.2.2=false:=by rw[hdb];exact jX o2
      rw[e]
      rfl
     |inr u=>
      simp only[kO,exists_eq_left] at o2
      obtain⟨rfl,o3⟩:=o2
      have e:zEf d.2.2.2=true:=by rw[hdb];exact jZ o3
      rw[e]
      rfl) (fun _ _ _ _ _ _=>trivial) (by
   intro t _
   simp only[qMf]
   rw[if_neg (by simp)]) (M:=N) (t:=()) (by omega) trivial
 rw[show((0:Nat):Int)=0 from rfl] at hL
 unfold qPk
 have e8:decide ((f.2.1.length:Int)>8)=decide (8<f.2.1.length):=by congr 1;rw[eq_iff_iff];omega
 have e64:decide ((f.2.2.length:Int)>64)=decide (64<f.2.2.length):=by congr 1;rw[eq_iff_iff];omega
 rw[e8,e64]
 unfold zJl
 cases c8:decide (8<f.2.1.length) with
 |true=>rfl
 |false=>
  simp only[jB,jH,j0,kT]
  cases c64:decide (64<f.2.2.length) with
  |true=>rfl
  |false=>
   simp only[jB,jH,kT]
   rw[hL,qSb (b:=(.inr true:Unit⊕Bool)) zAy (fun x=>rfl)]
   cases f.2.2.any zAy<;>rfl
theorem zAk{N:Nat}{f:Sr}(hf:SmSr f)(hN:3000000<N):qJz N f=some (qMj f):=by
 unfold qJz
 rw[show qMu N (f.1,f.2.1,f.2.2)=_ from zOo hf hN,show qNt N (f.1,f.2.1,f.2.2)=_ from zRj hf hN]
 simp only[j0]
 unfold qMj
 cases hs:synP f with
 |false=>rfl
 |true=>
  rw[show qPk N (f.1,f.2.1,f.2.2)=_ from zTu hf hs hN]
  simp only[kQ,jB,jH,j0,jK]
  cases qYp f<;>cases zJl f<;>rfl
end
section
open Go Go.Dc Go.Proofs
def lvH(h:Hd):Int:=if h.1=5 then 0 else if h.1=4 then(if h.2.2.1=6∨h.2.2.1=7 then 1 else if h.2.2.1=1∨h.2.2.1=2 then 2 else 3) else 4
def qIi(h:Hd)(k:Nat):Int:=if h.1=4 then(if k=0 then(if lvH h=1 then 2 else lvH h) else lvH h+1) else 0
def zNw:List (Int×ByteArray):=[(1,⟨#[43]⟩),(2,⟨#[45]⟩),(3,⟨#[42]⟩),(4,⟨#[47]⟩),(5,⟨#[37]⟩),(6,⟨#[60]⟩),(7,⟨#[61,61]⟩)]
def qUh(op:Int):ByteArray:=(qGe (some zNw) op).getD ⟨#[]⟩
def zKx:List (Int×ByteArray):=[(7,⟨#[115,105,122,101]⟩),(8,⟨#[104,97,115]⟩),(9,⟨#[101,110,118]⟩)]
def qSc(k:Int):ByteArray:=(qGe (some zKx) k).getD ⟨#[]⟩
def tI:List UInt8:=[105,102,32]
def tThen:List UInt8:=[32,116,104,101,110,32]
def tElse:List UInt8:=[32,101,108,115,101,32]
def sepK(k:Nat):List UInt8:=if k=0 then[] else[44,32]
def qNl:Nat→List (List UInt8)→List UInt8
 |_,[]=>[]
 |k,w::ws=>sepK k++(w++qNl (k+1) ws)
def qJq(ps:List ByteArray)(h:Hd)(ws:List (List UInt8)):List UInt8:=
 if h.1=1 then(itB h.2.1).data.toList
 else if h.1=2 then(ps.getD h.2.1.toNat ⟨#[]⟩).data.toList
 else if h.1=4 then ws.getD 0 []++((((⟨#[32]⟩:ByteArray)++qUh h.2.2.1)++(⟨#[32]⟩:ByteArray)).data.toList++ws.getD 1 [])
 else if h.1=5 then tI++(ws.getD 0 []++(tThen++(ws.getD 1 []++(tElse++ws.getD 2 []))))
 else if h.1=3 then(h.2.2.2++(⟨#[40]⟩:ByteArray)).data.toList++(qNl 0 ws++[41])
 else if h.1=6 then(((⟨#[114,101,97,100,40,34]⟩:ByteArray)++h.2.2.2)++(⟨#[34,44,32]⟩:ByteArray)).data.toList++(ws.getD 0 []++[41])
 else if h.1=10 then(((⟨#[102,108,105,112,40]⟩:ByteArray)++itB h.2.1)++(⟨#[41]⟩:ByteArray)).data.toList
 else(((qSc h.1++(⟨#[40,34]⟩:ByteArray))++h.2.2.2)++(⟨#[34,41]⟩:ByteArray)).data.toList
mutual
def Rose.wr(ps:List ByteArray)(need:Int):Rose→List UInt8
 | .mk h ks=>if lvH h<need then 40::(qJq ps h (wrs ps h 0 ks)++[41]) else qJq ps h (wrs ps h 0 ks)
def wrs(ps:List ByteArray)(h:Hd)(k:Nat):List Rose→List (List UInt8)
 |[]=>[]
 |t::l=>t.wr ps (qIi h k)::wrs ps h (k+1) l
end
mutual
def Rose.dep(need:Int)(d:Nat):Rose→Nat
 | .mk h ks=>max (if lvH h<need then d+1 else d) (deps h 0 (if h.1=4 then(if lvH h<need then d+1 else d) else(if lvH h<need then d+1 else d)+1) ks)
def deps(h:Hd)(k d:Nat):List Rose→Nat
 |[]=>0
 |t::l=>max (t.dep (qIi h k) d) (deps h (k+1) d l)
end
theorem zKt{N:Nat}(x:Ex):qLr N x=some (lvH (x.1,x.2.1,x.2.2.1,x.2.2.2.1)):=by
 unfold qLr qLe lvH
 by_cases h5:x.1=5
 ·simp[h5]
 by_cases h4:x.1=4
 ·by_cases o6:x.2.2.1=6
  ·simp[h4,o6]
  by_cases o7:x.2.2.1=7
  ·simp[h4,o7]
  by_cases o1:x.2.2.1=1
  ·simp[h4,o1]
  by_cases o2:x.2.2.1=2
  ·simp[h4,o2]
  simp[h4,o6,o7,o1,o2]
 simp[h5,h4]
theorem zSe{N:Nat}:qNq N=some (some zNw):=by kernel_rfl
theorem app1{l k:List UInt8}(h:l.length+k.length≤1000000000):qCx 1 l k=some (l++k):=qDm (by omega) (by decide)
theorem catW{x y:ByteArray}(h:x.size+y.size≤1000000000):catB x y=some (x++y):=by
 unfold catB
 rw[if_pos (Nat.le_trans h (by decide))]
theorem szl(x:ByteArray):x.data.toList.length=x.size:=by simp
theorem qWb(m d:Nat):(if(d:Int)>(m:Int) then(d:Int) else(m:Int))=((max m d:Nat):Int):=by
 split<;>omega
section
variable (N:Nat) (l:List Ex) (ps:List ByteArray)
def WrOk(t:Rose):Prop:=∀(D b:Nat) (buf:List UInt8) (s:Bool) (m d:Nat) (need:Int),AtT l b t→(∀x∈t.flat b,qNa (ps.length:Int) x=true)→2*t.size≤D→buf.length+(t.wr ps need).length≤1000000000→d+2*t.size≤100000000→0≤need→
 qFa N D ((s,buf),l,ps,(m:Int)) ((b+t.size-1:Nat):Int) need (d:Int)=some ((true,buf++t.wr ps need),l,ps,((max m (t.dep need d):Nat):Int))
variable {N l ps}
theorem zHd{h:Hd}{x1:Ex}{D d:Nat}(hN:3000000<N)(hx:x1.2.2.2.2.length<2000000)(hd:d<100000000):∀(ks:List Rose) (k b M m:Nat) (buf:List UInt8),(∀t∈ks,WrOk N l ps t)→x1.2.2.2.2.drop k=qDh b ks→k≤x1.2.2.2.2.length→AtTs l b ks→(∀x∈qHv b ks,qNa (ps.length:Int) x=true)→2*qBp ks≤D→h.1≠4→
  buf.length+(qNl k (wrs ps h k ks)).length≤1000000000→d+1+2*qBp ks≤100000000→ks.length<M→
  qAt (qHo N (qFa N D) (d:Int) x1) M ((k:Int),true,buf,l,ps,(m:Int))=some (true,buf++qNl k (wrs ps h k ks),l,ps,((max m (deps h k (d+1) ks):Nat):Int))
 |_,_,_,0,_,_,_,_,_,_,_,_,_,_,_,hM=>absurd hM (kN _)
 |[],k,b,M+1,m,buf,_,hr,hk,_,_,_,_,_,_,_=>by
  have hl:k=x1.2.2.2.2.length:=by
   have:=congrArg List.length hr
   rw[gF] at this
   simp only[qDh,jF] at this
   omega
  simp only[qAt,qHo]
  rw[if_neg (by simp only[jA];omega)]
  simp only[j0,wrs,qNl,jY,deps,fG]
 |t::ks,k,b,M+1,m,buf,hks,hr,hk,hat,hv,hD,h4,hb,hdd,hM=>by
  have hpos:=t.pos
  simp only[qBp] at hD hdd
  have hkl:k<x1.2.2.2.2.length:=by
   by_cases hh:k<x1.2.2.2.2.length
   ·exact hh
   ·rw[jT (by omega)] at hr;cases hr
  rw[qMw hkl] at hr
  obtain⟨hr1,hr2⟩:=List.cons.inj hr
  obtain⟨at1,at2⟩:=hat.head
  have hn:qIi h k=0:=by unfold qIi;rw[if_neg h4]
  simp only[wrs,qNl,hn] at hb ⊢
  simp only[jC] at hb
  have ew:IntKind.wrap .i64 ((k:Int)+1)=((k+1:Nat):Int):=by rw[wi64 (by omega) (by omega)];omega
  have ed:IntKind.wrap .i64 ((d:Int)+1)=((d+1:Nat):Int):=by rw[wi64 (by omega) (by omega)];omega
  simp only[qAt,qHo]
  rw[if_pos (by simp only[jA];omega),qDn hkl,hr1]
  have hsep:(if(decide ((k:Int)>0))=true then((qCx 1 buf ((⟨#[44,32]⟩:ByteArray).data.toList)).bind fun l8=>some (true,l8)) else(some (true,buf)):Option (Bool×List (UInt8)))=some (true,buf++sepK k):=by
   unfold sepK at hb ⊢
   by_cases h0:k=0
   ·subst h0
    rw[if_neg (by decide),if_pos rfl,jY]
   ·rw[if_neg h0] at hb
    rw[if_pos (by simp only[jA];omega),if_neg h0,app1 (by show buf.length+2≤_;simp only[jD,jF] at hb;omega)]
    rfl
  simp only[j0,hsep,ew,ed]
  rw[hks t (jJ ..) D b (buf++sepK k) true m (d+1) 0 at1 (fun x hx=>hv x (by unfold qHv;exact kA _ hx)) (by omega) (by rw[jC];omega) (by omega) (fD 0)]
  simp only[j0]
  rw[zHd hN hx hd ks (k+1) (b+t.size) M (max m (t.dep 0 (d+1))) ((buf++sepK k)++t.wr ps 0) (fun u hu=>hks u (jL _ hu)) hr2 (by omega) at2 (fun x hx=>hv x (by unfold qHv;exact kI _ hx)) (by omega) h4 (by simp only[jC];omega) (by omega) (by simp only[jD] at hM;omega)]
  simp only[jE,deps,hn,hJ]
theorem qXq{np:Int}{x:Ex}(h:qNa np x=true):
  (x.1=1∧x.2.2.2.2.length=0∧-9007199254740992≤x.2.1∧x.2.1≤9007199254740992∧x.2.2.1=0∧x.2.2.2.1=emB)∨(x.1=2∧x.2.2.2.2.length=0∧0≤x.2.1∧x.2.1<np∧x.2.2.1=0∧x.2.2.2.1=emB)∨(x.1=3∧qDo x.2.2.2.1=true∧x.2.1=0∧x.2.2.1=0)∨(x.1=4∧x.2.2.2.2.length=2∧1≤x.2.2.1∧x.2.2.1≤7∧x.2.1=0∧x.2.2.2.1=emB)∨
  (x.1=5∧x.2.2.2.2.length=3∧x.2.1=0∧x.2.2.1=0∧x.2.2.2.1=emB)∨(x.1=6∧x.2.2.2.2.length=1∧qNe x.2.2.2.1.data.toList=true∧x.2.1=0∧x.2.2.1=0)∨((x.1=7∨x.1=8)∧x.2.2.2.2.length=0∧qNe x.2.2.2.1.data.toList=true∧x.2.1=0∧x.2.2.1=0)∨(x.1=9∧x.2.2.2.2.length=0∧qPo x.2.2.2.1=true∧x.2.1=0∧x.2.2.1=0)∨
  (x.1=10∧x.2.2.2.2.length=0∧0≤x.2.1∧x.2.1<64∧x.2.2.1=0∧x.2.2.2.1=emB):=by
 unfold qNa argN at h
 by_cases h1:x.1=1
 ·simp only[if_pos h1,jO,jA,kG] at h
  exact .inl ⟨h1,by omega,h.2.2.2.1,h.2.2.2.2,h.2.1,h.1⟩
 rw[if_neg h1] at h
 by_cases h2:x.1=2
 ·simp only[if_pos h2,jO,jA,kG] at h
  exact .inr (.inl ⟨h2,by omega,h.2.2.2.1,h.2.2.2.2,h.2.1,h.1⟩)
 rw[if_neg h2] at h
 by_cases h3:x.1=3
 ·simp only[if_pos h3,jO,jA,kG] at h
  exact .inr (.inr (.inl ⟨h3,h.2.2,h.1,h.2.1⟩))
 rw[if_neg h3] at h
 by_cases h4:x.1=4
 ·simp only[if_pos h4,jO,jA,kG] at h
  exact .inr (.inr (.inr (.inl ⟨h4,by omega,h.2.2.2.1,h.2.2.2.2,h.1,h.2.1⟩)))
 rw[if_neg h4] at h
 by_cases h5:x.1=5
 ·simp only[if_pos h5,jO,jA,kG] at h
  exact .inr (.inr (.inr (.inr (.inl ⟨h5,by omega,h.1,h.2.2.1,h.2.1⟩))))
 rw[if_neg h5] at h
 by_cases h6:x.1=6
 ·simp only[if_pos h6,jO,jA,kG] at h
  exact .inr (.inr (.inr (.inr (.inr (.inl ⟨h6,by omega,h.2.2.2,h.1,h.2.1⟩)))))
 rw[if_neg h6] at h
 by_cases h7:x.1=7∨x.1=8
 ·simp only[if_pos h7,jO,jA,kG] at h
  exact .inr (.inr (.inr (.inr (.inr (.inr (.inl ⟨h7,by omega,h.2.2.2,h.1,h.2.1⟩))))))
 rw[if_neg h7] at h
 by_cases h9:x.1=9
 ·simp only[if_pos h9,jO,jA,kG] at h
  exact .inr (.inr (.inr (.inr (.inr (.inr (.inr (.inl ⟨h9,by omega,h.2.2.2,h.1,h.2.1⟩)))))))
 rw[if_neg h9] at h
 by_cases h10:x.1=10
 ·simp only[if_pos h10,jO,jA,kG] at h
  exact .inr (.inr (.inr (.inr (.inr (.inr (.inr (.inr ⟨h10,by omega,h.2.2.2.1,h.2.2.2.2,h.2.1,h.1⟩)))))))
 rw[if_neg h10] at h
 cases h
end
end
end Go.Proofs.YteajdekbpcmdaaaGreatDoor
