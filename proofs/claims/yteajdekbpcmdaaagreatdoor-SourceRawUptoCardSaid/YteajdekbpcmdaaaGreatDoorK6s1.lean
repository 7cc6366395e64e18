/- No condition but those of each theorem. -/
import Derived.Test.YteajdekbpcmdaaaGreatDoorProg
import Derived.WalkKit
import Derived.Deep.LoopGhost
import Derived.KernelRfl
import Derived.OrdersHeld
import Derived.OrdersIn
import Derived.LoopNIn
import Derived.Sort.LoopGhostIn
import Derived.Laws.AppendOwn
import Derived.RangeFuncLeaves
import Derived.RangeFuncRecord
import Derived.MapKept
import Derived.Maps.RangeRun
import Derived.ChangeKeysEq
import Derived.HandedShaped
import Derived.ChangeStays
import Derived.ChangeSame
import Derived.OpenShut
import Derived.WideShapes
import Derived.JoinedOf
import Derived.ReadAgain
import Derived.ChangeAt
import Derived.RowKit
import Derived.Lib.Overlaps
import Derived.WalkSmall
import Derived.Recover
import Derived.Lib.Builder
import Derived.Lib.UnsafeStr
import Derived.Shelf.Strconv.Itoa3
import Derived.Room.Shelf.Join48
import Derived.Test.YteajdekbpcmdaaaGreatDoorRows
import Derived.Lib.Bytealg
import Derived.Test.YteajdekbpcmdaaaGreatDoorK5s1
namespace Go.Proofs.YteajdekbpcmdaaaGreatDoor
section
open Go Go.Dc Go.Proofs
section
variable {N:Nat} {l:List Ex} {ps:List ByteArray}
theorem len0{b:Nat}{ks:List Rose}(h:(qDh b ks).length=0):ks=[]:=by
 rw[qKf] at h
 exact kW.1 h
theorem len1{b:Nat}{ks:List Rose}(h:(qDh b ks).length=1):∃t,ks=[t]:=by
 rw[qKf] at h
 exact List.length_eq_one_iff.1 h
theorem len2{b:Nat}{ks:List Rose}(h:(qDh b ks).length=2):∃t u,ks=[t,u]:=by
 rw[qKf] at h
 match ks,h with
 |[t,u],_=>exact⟨t,u,rfl⟩
theorem len3{b:Nat}{ks:List Rose}(h:(qDh b ks).length=3):∃t u v,ks=[t,u,v]:=by
 rw[qKf] at h
 match ks,h with
 |[t,u,v],_=>exact⟨t,u,v,rfl⟩
theorem zPx{N:Nat}{n:Int}(h0: -9007199254740992≤n)(h1:n≤9007199254740992):strconv_Itoa N n=some (itB n):=by
 unfold strconv_Itoa zRh
 rw[if_pos ⟨by omega,by omega⟩]
theorem wm1:qMs (some []:Option (List (Int×ByteArray))) 7 (⟨#[115,105,122,101]⟩:ByteArray)=some (some [(7,⟨#[115,105,122,101]⟩)]):=by kernel_rfl
theorem wm2:qMs (some [(7,⟨#[115,105,122,101]⟩)]:Option (List (Int×ByteArray))) 8 (⟨#[104,97,115]⟩:ByteArray)=some (some [(7,⟨#[115,105,122,101]⟩),(8,⟨#[104,97,115]⟩)]):=by kernel_rfl
theorem wm3:qMs (some [(7,⟨#[115,105,122,101]⟩),(8,⟨#[104,97,115]⟩)]:Option (List (Int×ByteArray))) 9 (⟨#[101,110,118]⟩:ByteArray)=some (some zKx):=by kernel_rfl
theorem zOn{h:Hd}{ks:List Rose}(hN:3000000<N)(hks:∀t∈ks,WrOk N l ps t){D b m d:Nat}{buf:List UInt8}{s:Bool}{need:Int}(hat:AtT l b (.mk h ks))(hv:∀x∈(Rose.mk h ks).flat b,qNa (ps.length:Int) x=true)(hD:2*qBp ks≤D)
  (hb:buf.length+(qJq ps h (wrs ps h 0 ks)).length≤1000000000) (hd:d+(2*qBp ks+1)≤100000000) (hl:¬lvH h<need) (hsz:ks.length<2000000):
  qFa N (D+1) ((s,buf),l,ps,(m:Int)) ((b+qBp ks:Nat):Int) need (d:Int)=some ((true,buf++qJq ps h (wrs ps h 0 ks)),l,ps,((max m (max d (deps h 0 (if h.1=4 then d else d+1) ks)):Nat):Int)):=by
 obtain⟨hn,hats⟩:=hat.args
 have hn:l[b+qBp ks]? =some (h.1,h.2.1,h.2.2.1,h.2.2.2,qDh b ks):=hn
 have hnode:qNa (ps.length:Int) (h.1,h.2.1,h.2.2.1,h.2.2.2,qDh b ks)=true:=hv (qJu h (qDh b ks)) (by unfold Rose.flat;exact kI _ (jJ ..))
 have hvk:∀x∈qHv b ks,qNa (ps.length:Int) x=true:=fun x hx=>hv x (by unfold Rose.flat;exact kA _ hx)
 have ed:IntKind.wrap .i64 ((d:Int)+1)=((d+1:Nat):Int):=by rw[wi64 (by omega) (by omega)];omega
 show qGr N (qFa N D) _ _ _ _=_
 unfold qGr
 dsimp only
 rw[qRj hn]
 simp only[j0]
 rw[show qLr N (h.1,h.2.1,h.2.2.1,h.2.2.2,qDh b ks)=some (lvH h) from zKt _]
 simp only[j0]
 rw[if_neg (by simpa using hl)]
 rcases qXq hnode with ⟨k,a,n0,n1,-,-⟩|⟨k,a,n0,n1,-,-⟩|⟨k,a,-,-⟩|⟨k,a,n0,n1,-,-⟩|⟨k,a,-,-,-⟩|⟨k,a,n0,-,-⟩|⟨k,a,n0,-,-⟩|⟨k,a,n0,-,-⟩|⟨k,a,n0,n1,-,-⟩
 all_goals dsimp only at k a
 ·obtain rfl:=len0 a
  have eb:qJq ps h (wrs ps h 0 [])=(itB h.2.1).data.toList:=by unfold qJq;rw[if_pos k]
  rw[eb] at hb ⊢
  dsimp only at n0 n1
  rw[if_pos (by simpa using k),zPx n0 n1]
  simp only[j0]
  rw[app1 hb]
  simp only[j0,qWb,deps,fG]
 ·obtain rfl:=len0 a
  dsimp only at n0 n1
  have k1:h.1≠1:=by omega
  have eb:qJq ps h (wrs ps h 0 [])=(ps.getD h.2.1.toNat ⟨#[]⟩).data.toList:=by unfold qJq;rw[if_neg k1,if_pos k]
  rw[eb] at hb ⊢
  have hlt:h.2.1.toNat<ps.length:=by omega
  rw[if_neg (by simpa using k1),if_pos (by simpa using k),zRt n0 hlt]
  simp only[j0]
  have e:ps.getD h.2.1.toNat ⟨#[]⟩=ps[h.2.1.toNat]:=by rw[k9,List.getElem?_eq_getElem hlt];rfl
  rw[e] at hb ⊢
  rw[app1 hb]
  simp only[j0,qWb,deps,fG]
 ·have k1:h.1≠1:=by omega
  have k2:h.1≠2:=by omega
  have k4:h.1≠4:=by omega
  have k5:h.1≠5:=by omega
  have eb:qJq ps h (wrs ps h 0 ks)=(h.2.2.2++(⟨#[40]⟩:ByteArray)).data.toList++(qNl 0 (wrs ps h 0 ks)++[41]):=by unfold qJq;rw[if_neg k1,if_neg k2,if_neg k4,if_neg k5,if_pos k]
  rw[eb] at hb ⊢
  rw[if_neg (by simpa using k1),if_neg (by simpa using k2),if_neg (by simpa using k4),if_neg (by simpa using k5),if_pos (by simpa using k)]
  simp only[jC,szl,ByteArray.size_append,jD,jF] at hb
  have hs1:(⟨#[40]⟩:ByteArray).size=1:=rfl
  rw[catW (by omega)]
  simp only[j0]
  rw[app1 (by rw[szl,ByteArray.size_append];omega)]
  simp only[j0,qWb]
  have hcl:=zHd (N:=N) (l:=l) (ps:=ps) (h:=h) (x1:=(h.1,h.2.1,h.2.2.1,h.2.2.2,qDh b ks)) (D:=D) (d:=d) hN (by show(qDh b ks).length<_;rw[qKf];exact hsz) (by omega) ks 0 b N (max m d) (buf++(h.2.2.2++(⟨#[40]⟩:ByteArray)).data.toList) hks rfl (kZ _) hats hvk hD k4
   (by simp only[jC,szl,ByteArray.size_append];omega) (by omega) (by omega)
  rw[show((0:Nat):Int)=0 from rfl] at hcl
  rw[hcl]
  simp only[j0]
  rw[app1 (by simp only[jC,szl,ByteArray.size_append,jD,jF];omega)]
  simp only[j0,jE,if_neg k4,hJ]
 ·obtain⟨t,u,rfl⟩:=len2 a
  have k1:h.1≠1:=by omega
  have k2:h.1≠2:=by omega
  simp only[qBp,f0] at hD hd hvk
  obtain⟨at1,atr⟩:=hats.head
  obtain⟨at2,-⟩:=atr.head
  have hl1:1≤lvH h∧lvH h≤3:=by
   unfold lvH
   rw[if_neg (show h.1≠5 by omega),if_pos k]
   split<;>(try split)<;>omega
  have hn0:qIi h 0=if lvH h=1 then 2 else lvH h:=by unfold qIi;rw[if_pos k,if_pos rfl]
  have hn1:qIi h 1=lvH h+1:=by unfold qIi;rw[if_pos k,if_neg (by decide)]
  have eb:qJq ps h (wrs ps h 0 [t,u])=t.wr ps (qIi h 0)++((((⟨#[32]⟩:ByteArray)++qUh h.2.2.1)++(⟨#[32]⟩:ByteArray)).data.toList++u.wr ps (qIi h 1)):=by unfold qJq;rw[if_neg k1,if_neg k2,if_pos k];rfl
  rw[eb] at hb ⊢
  rw[if_neg (by simpa using k1),if_neg (by simpa using k2),if_pos (by simpa using k)]
  have hneed:(if(lvH h==1)=true then(some (IntKind.wrap .i64 (lvH h+1))) else(some (lvH h)):Option (Int))=some (qIi h 0):=by
   rw[hn0]
   by_cases e:lvH h=1
   ·rw[if_pos (by simpa using e),if_pos e,wi64 (by omega) (by omega),e];rfl
   ·rw[if_neg (by simpa using e),if_neg e]
  have w1:IntKind.wrap .i64 (lvH h+1)=qIi h 1:=by rw[hn1,wi64 (by omega) (by omega)]
  have i0:idx (qDh b [t,u]) 0=some ((b+t.size-1:Nat):Int):=rfl
  have i1:idx (qDh b [t,u]) 1=some ((b+t.size+u.size-1:Nat):Int):=rfl
  simp only[j0,hneed,i0,i1,qWb]
  rw[w1]
  simp only[jC,szl,ByteArray.size_append] at hb
  have hs1:(⟨#[32]⟩:ByteArray).size=1:=rfl
  have hp1:=t.pos
  have hp2:=u.pos
  have q0:0≤qIi h 0:=by rw[hn0];split<;>omega
  have q1:0≤qIi h 1:=by rw[hn1];omega
  rw[hks t (jJ ..) D b buf s (max m d) d (qIi h 0) at1 (fun x hx=>hvk x (by unfold qHv;exact kA _ hx)) (by omega) (by omega) (by omega) q0]
  simp only[j0,zSe]
  rw[show(qGe (some zNw) h.2.2.1).getD (⟨#[]⟩:ByteArray)=qUh h.2.2.1 from rfl,catW (by omega)]
  simp only[j0]
  rw[catW (by rw[ByteArray.size_append];omega)]
  simp only[j0]
  rw[app1 (by simp only[jC,szl,ByteArray.size_append];omega)]
  simp only[j0]
  rw[hks u (jL _ (jJ ..)) D (b+t.size) _ true _ d (qIi h 1) at2 (fun x hx=>hvk x (by unfold qHv;refine kI _ ?_;unfold qHv;exact kA _ hx)) (by omega) (by simp only[jC,szl,ByteArray.size_append];omega) (by omega) q1]
  simp only[j0,jE,if_pos k,deps,fG,hJ]
 ·obtain⟨t,u,v,rfl⟩:=len3 a
  have k1:h.1≠1:=by omega
  have k2:h.1≠2:=by omega
  have k4:h.1≠4:=by omega
  simp only[qBp,f0] at hD hd hvk
  obtain⟨at1,atr⟩:=hats.head
  obtain⟨at2,atr⟩:=atr.head
  obtain⟨at3,-⟩:=atr.head
  have hnd:∀j,qIi h j=0:=fun j=>by unfold qIi;rw[if_neg k4]
  have eb:qJq ps h (wrs ps h 0 [t,u,v])=tI++(t.wr ps 0++(tThen++(u.wr ps 0++(tElse++v.wr ps 0)))):=by
   unfold qJq;rw[if_neg k1,if_neg k2,if_neg k4,if_pos k]
   simp only[wrs,hnd];rfl
  rw[eb] at hb ⊢
  rw[if_neg (by simpa using k1),if_neg (by simpa using k2),if_neg (by simpa using k4),if_pos (by simpa using k)]
  have hp1:=t.pos
  have hp2:=u.pos
  have hp3:=v.pos
  have l1:tI.length=3:=rfl
  have l2:tThen.length=6:=rfl
  have l3:tElse.length=6:=rfl
  simp only[jC] at hb
  obtain⟨M,rfl⟩:∃M,N=M+4:=⟨N-4,by omega⟩
  have i0:idx (qDh b [t,u,v]) 0=some ((b+t.size-1:Nat):Int):=rfl
  have i1:idx (qDh b [t,u,v]) 1=some ((b+t.size+u.size-1:Nat):Int):=rfl
  have i2:idx (qDh b [t,u,v]) 2=some ((b+t.size+u.size+v.size-1:Nat):Int):=rfl
  have a0:∀L:List UInt8,L.length+3≤1000000000→qCx 1 L [105,102,32]=some (L++tI):=fun L h=>app1 h
  have a1:∀L:List UInt8,L.length+6≤1000000000→qCx 1 L [32,116,104,101,110,32]=some (L++tThen):=fun L h=>app1 h
  have a2:∀L:List UInt8,L.length+6≤1000000000→qCx 1 L [32,101,108,115,101,32]=some (L++tElse):=fun L h=>app1 h
  have w0:IntKind.wrap .i64 ((0:Int)+1)=1:=by decide
  have w1:IntKind.wrap .i64 ((1:Int)+1)=2:=by decide
  have w2:IntKind.wrap .i64 ((2:Int)+1)=3:=by decide
  have s0:idx ([(⟨#[105,102,32]⟩:ByteArray),(⟨#[32,116,104,101,110,32]⟩:ByteArray),(⟨#[32,101,108,115,101,32]⟩:ByteArray)]) 0=some ⟨#[105,102,32]⟩:=rfl
  have s1:idx ([(⟨#[105,102,32]⟩:ByteArray),(⟨#[32,116,104,101,110,32]⟩:ByteArray),(⟨#[32,101,108,115,101,32]⟩:ByteArray)]) 1=some ⟨#[32,116,104,101,110,32]⟩:=rfl
  have s2:idx ([(⟨#[105,102,32]⟩:ByteArray),(⟨#[32,116,104,101,110,32]⟩:ByteArray),(⟨#[32,101,108,115,101,32]⟩:ByteArray)]) 2=some ⟨#[32,101,108,115,101,32]⟩:=rfl
  have c0:decide ((0:Int)<(List.length ([(⟨#[105,102,32]⟩:ByteArray),(⟨#[32,116,104,101,110,32]⟩:ByteArray),(⟨#[32,101,108,115,101,32]⟩:ByteArray)]):Int))=true:=by decide
  have c1:decide ((1:Int)<(List.length ([(⟨#[105,102,32]⟩:ByteArray),(⟨#[32,116,104,101,110,32]⟩:ByteArray),(⟨#[32,101,108,115,101,32]⟩:ByteArray)]):Int))=true:=by decide
  have c2:decide ((2:Int)<(List.length ([(⟨#[105,102,32]⟩:ByteArray),(⟨#[32,116,104,101,110,32]⟩:ByteArray),(⟨#[32,101,108,115,101,32]⟩:ByteArray)]):Int))=true:=by decide
  have c3:decide ((3:Int)<(List.length ([(⟨#[105,102,32]⟩:ByteArray),(⟨#[32,116,104,101,110,32]⟩:ByteArray),(⟨#[32,101,108,115,101,32]⟩:ByteArray)]):Int))=false:=by decide
  simp only[qAt,qKt,c0,jK,s0,j0,i0,ed,qWb]
  rw[a0 _ (by omega)]
  simp only[j0]
  rw[hks t (by simp) D b (buf++tI) true (max m d) (d+1) 0 at1 (fun x hx=>hvk x (by unfold qHv;exact kA _ hx)) (by omega) (by rw[jC];omega) (by omega) (fD 0)]
  simp only[j0,w0,c1,jK,s1,i1]
  rw[a1 _ (by simp only[jC];omega)]
  simp only[j0]
  rw[hks u (by simp) D (b+t.size) _ true _ (d+1) 0 at2 (fun x hx=>hvk x (by unfold qHv;refine kI _ ?_;unfold qHv;exact kA _ hx)) (by omega) (by simp only[jC];omega) (by omega) (fD 0)]
  simp only[j0,w1,c2,jK,s2,i2]
  rw[a2 _ (by simp only[jC];omega)]
  simp only[j0]
  rw[hks v (by simp) D (b+t.size+u.size) _ true _ (d+1) 0 at3 (fun x hx=>hvk x (by unfold qHv;refine kI _ ?_;unfold qHv;refine kI _ ?_;unfold qHv;exact kA _ hx)) (by omega) (by simp only[jC];omega) (by omega) (fD 0)]
  simp only[j0,w2,c3,jB,jH,jE,if_neg k4,deps,hnd,fG,hJ]
 ·obtain⟨t,rfl⟩:=len1 a
  have k1:h.1≠1:=by omega
  have k2:h.1≠2:=by omega
  have k4:h.1≠4:=by omega
  have k5:h.1≠5:=by omega
  have k3:h.1≠3:=by omega
  simp only[qBp,f0] at hD hd hvk
  obtain⟨at1,-⟩:=hats.head
  have hnd:∀j,qIi h j=0:=fun j=>by unfold qIi;rw[if_neg k4]
  have eb:qJq ps h (wrs ps h 0 [t])=(((⟨#[114,101,97,100,40,34]⟩:ByteArray)++h.2.2.2)++(⟨#[34,44,32]⟩:ByteArray)).data.toList++(t.wr ps 0++[41]):=by
   unfold qJq;rw[if_neg k1,if_neg k2,if_neg k4,if_neg k5,if_neg k3,if_pos k]
   simp only[wrs,hnd];rfl
  rw[eb] at hb ⊢
  rw[if_neg (by simpa using k1),if_neg (by simpa using k2),if_neg (by simpa using k4),if_neg (by simpa using k5),if_neg (by simpa using k3),if_pos (by simpa using k)]
  have hp1:=t.pos
  have i0:idx (qDh b [t]) 0=some ((b+t.size-1:Nat):Int):=rfl
  have z1:(⟨#[114,101,97,100,40,34]⟩:ByteArray).size=6:=rfl
  have z2:(⟨#[34,44,32]⟩:ByteArray).size=3:=rfl
  simp only[jC,szl,ByteArray.size_append,jD,jF] at hb
  rw[catW (by omega)]
  simp only[j0]
  rw[catW (by rw[ByteArray.size_append];omega)]
  simp only[j0]
  rw[app1 (by simp only[szl,ByteArray.size_append];omega)]
  simp only[j0,i0,ed,qWb]
  rw[hks t (by simp) D b _ true (max m d) (d+1) 0 at1 (fun x hx=>hvk x (by unfold qHv;exact kA _ hx)) (by omega) (by simp only[jC,szl,ByteArray.size_append];omega) (by omega) (fD 0)]
  simp only[j0]
  rw[app1 (by simp only[jC,szl,ByteArray.size_append,jD,jF];omega)]
  simp only[j0,jE,if_neg k4,deps,hnd,fG,hJ]
 all_goals obtain rfl:=len0 a
 ·have k1:h.1≠1:=by omega
  have k2:h.1≠2:=by omega
  have k4:h.1≠4:=by omega
  have k5:h.1≠5:=by omega
  have k3:h.1≠3:=by omega
  have k6:h.1≠6:=by omega
  have k10:h.1≠10:=by omega
  have eb:qJq ps h (wrs ps h 0 [])=(((qSc h.1++(⟨#[40,34]⟩:ByteArray))++h.2.2.2)++(⟨#[34,41]⟩:ByteArray)).data.toList:=by
   unfold qJq;rw[if_neg k1,if_neg k2,if_neg k4,if_neg k5,if_neg k3,if_neg k6,if_neg k10]
  rw[eb] at hb ⊢
  rw[if_neg (by simpa using k1),if_neg (by simpa using k2),if_neg (by simpa using k4),if_neg (by simpa using k5),if_neg (by simpa using k3),if_neg (by simpa using k6),if_neg (by simpa using k10)]
  simp only[szl,ByteArray.size_append] at hb
  have z1:(⟨#[40,34]⟩:ByteArray).size=2:=rfl
  have z2:(⟨#[34,41]⟩:ByteArray).size=2:=rfl
  simp only[wm1,wm2,wm3,j0]
  rw[show(qGe (some zKx) h.1).getD (⟨#[]⟩:ByteArray)=qSc h.1 from rfl,catW (by omega)]
  simp only[j0]
  rw[catW (by rw[ByteArray.size_append];omega)]
  simp only[j0]
  rw[catW (by rw[ByteArray.size_append,ByteArray.size_append];omega)]
  simp only[j0]
  rw[app1 (by simp only[szl,ByteArray.size_append];omega)]
  simp only[j0,qWb,deps,fG]
 ·have k1:h.1≠1:=by omega
  have k2:h.1≠2:=by omega
  have k4:h.1≠4:=by omega
  have k5:h.1≠5:=by omega
  have k3:h.1≠3:=by omega
  have k6:h.1≠6:=by omega
  have k10:h.1≠10:=by omega
  have eb:qJq ps h (wrs ps h 0 [])=(((qSc h.1++(⟨#[40,34]⟩:ByteArray))++h.2.2.2)++(⟨#[34,41]⟩:ByteArray)).data.toList:=by
   unfold qJq;rw[if_neg k1,if_neg k2,if_neg k4,if_neg k5,if_neg k3,if_neg k6,if_neg k10]
  rw[eb] at hb ⊢
  rw[if_neg (by simpa using k1),if_neg (by simpa using k2),if_neg (by simpa using k4),if_neg (by simpa using k5),if_neg (by simpa using k3),if_neg (by simpa using k6),if_neg (by simpa using k10)]
  simp only[szl,ByteArray.size_append] at hb
  have z1:(⟨#[40,34]⟩:ByteArray).size=2:=rfl
  have z2:(⟨#[34,41]⟩:ByteArray).size=2:=rfl
  simp only[wm1,wm2,wm3,j0]
  rw[show(qGe (some zKx) h.1).getD (⟨#[]⟩:ByteArray)=qSc h.1 from rfl,catW (by omega)]
  simp only[j0]
  rw[catW (by rw[ByteArray.size_append];omega)]
  simp only[j0]
  rw[catW (by rw[ByteArray.size_append,ByteArray.size_append];omega)]
  simp only[j0]
  rw[app1 (by simp only[szl,ByteArray.size_append];omega)]
  simp only[j0,qWb,deps,fG]
 ·have k1:h.1≠1:=by omega
  have k2:h.1≠2:=by omega
  have k4:h.1≠4:=by omega
  have k5:h.1≠5:=by omega
  have k3:h.1≠3:=by omega
  have k6:h.1≠6:=by omega
  dsimp only at n0 n1
  have eb:qJq ps h (wrs ps h 0 [])=(((⟨#[102,108,105,112,40]⟩:ByteArray)++itB h.2.1)++(⟨#[41]⟩:ByteArray)).data.toList:=by
   unfold qJq;rw[if_neg k1,if_neg k2,if_neg k4,if_neg k5,if_neg k3,if_neg k6,if_pos k]
  rw[eb] at hb ⊢
  rw[if_neg (by simpa using k1),if_neg (by simpa using k2),if_neg (by simpa using k4),if_neg (by simpa using k5),if_neg (by simpa using k3),if_neg (by simpa using k6),if_pos (by simpa using k),zPx (by omega) (by omega)]
  simp only[szl,ByteArray.size_append] at hb
  simp only[j0]
  rw[catW (by omega)]
  simp only[j0]
  rw[catW (by rw[ByteArray.size_append];omega)]
  simp only[j0]
  rw[app1 (by simp only[szl,ByteArray.size_append];omega)]
  simp only[j0,qWb,deps,fG]
theorem zVl{h:Hd}{ks:List Rose}(hN:3000000<N)(hks:∀t∈ks,WrOk N l ps t)(hsz:ks.length<2000000):WrOk N l ps (.mk h ks):=by
 intro D b buf s m d need hat hv hD hb hd hneed
 simp only[Rose.size] at hD hd ⊢
 rw[show b+(qBp ks+1)-1=b+qBp ks by omega]
 simp only[Rose.wr,Rose.dep] at hb ⊢
 by_cases hl:lvH h<need
 ·rw[if_pos hl] at hb ⊢
  simp only[if_pos hl]
  simp only[jD,jC,jF] at hb
  obtain⟨D,rfl⟩:∃D',D=D'+2:=⟨D-2,by omega⟩
  have hlv:¬lvH h<0:=by
   unfold lvH
   split
   ·omega
   ·split
    ·split
     ·omega
     ·split<;>omega
    ·omega
  obtain⟨hn,-⟩:=hat.args
  have hn:l[b+qBp ks]? =some (h.1,h.2.1,h.2.2.1,h.2.2.2,qDh b ks):=hn
  have ed:IntKind.wrap .i64 ((d:Int)+1)=((d+1:Nat):Int):=by rw[wi64 (by omega) (by omega)];omega
  show qGr N (qFa N (D+1)) _ _ _ _=_
  unfold qGr
  dsimp only
  rw[qRj hn]
  simp only[j0]
  rw[show qLr N (h.1,h.2.1,h.2.2.1,h.2.2.2,qDh b ks)=some (lvH h) from zKt _]
  simp only[j0]
  rw[if_pos (by simpa using hl),app1 (by simp only[jD,jF];omega)]
  simp only[j0,ed]
  rw[zOn hN hks hat hv (by omega) (by simp only[jC,jD,jF];omega) (by omega) hlv hsz]
  simp only[j0]
  rw[app1 (by simp only[jC,jD,jF];omega)]
  simp only[j0,jE,jP,jQ]
 ·rw[if_neg hl] at hb ⊢
  simp only[if_neg hl]
  obtain⟨D,rfl⟩:∃D',D=D'+1:=⟨D-1,by omega⟩
  exact zOn hN hks hat hv (by omega) hb (by omega) hl hsz
end
mutual
theorem wr_ok{N:Nat}{l:List Ex}{ps:List ByteArray}(hN:3000000<N)(t:Rose)(hsz:t.size<2000000):WrOk N l ps t:=by
 match t with
 | .mk h ks=>
  have hs:qBp ks<2000000:=by simp only[Rose.size] at hsz;omega
  exact zVl hN (zTh hN ks hs) (by have:=qRk ks;omega)
theorem zTh{N:Nat}{l:List Ex}{ps:List ByteArray}(hN:3000000<N)(ks:List Rose)(hsz:qBp ks<2000000):∀t∈ks,WrOk N l ps t:=by
 match ks with
 |[]=>intro t h;cases h
 |t::ks=>
  have h1:t.size<2000000:=by simp only[qBp] at hsz;omega
  have h2:qBp ks<2000000:=by simp only[qBp] at hsz;omega
  have i1:=wr_ok (l:=l) (ps:=ps) hN t h1
  have i2:=zTh (l:=l) (ps:=ps) hN ks h2
  intro u hu
  rcases jR.1 hu with rfl|hu
  ·exact i1
  ·exact i2 u hu
end
end
section
open Go Go.Dc
abbrev Ct:=Int×List UInt8
def qMq(c:Ct):List UInt8:=if c.1=3 then 34::(c.2++[34]) else c.2
theorem qNi{k:Int}{l:List UInt8}(h:k≠3):qMq (k,l)=l:=by unfold qMq;rw[if_neg h]
def zOy:List (List UInt8):=[[59],[44],[40],[41],[43],[45],[42],[47],[37],[60],[61],[61,61]]
def okC(c:Ct):Prop:=(c.1=1∧(∃x l,c.2=x::l∧kd x=1)∧(∀x∈c.2,inK [1,2,3] x=true)∧c.2.length≤24)∨(c.1=2∧c.2≠[]∧(∀x∈c.2,inK [2] x=true)∧numL c.2≤9007199254740992)∨
 (c.1=3∧∀x∈c.2,qPs x=true)∨(c.1=4∧c.2∈zOy)
abbrev Core:=Int×ByteArray×Int
def qJp(c:Ct):Core:=(c.1,if c.1=2 then⟨#[]⟩ else⟨⟨c.2⟩⟩,if c.1=2 then numL c.2 else 0)
def qIz(t:Tok):Core:=(t.1,t.2.1,t.2.2.1)
def zPa(c:Ct)(x:UInt8):Bool:=if c.1=1 then !inK [1,2,3] x else if c.1=2 then !inK [2] x else if c.2=[61] then x !=61 else true
abbrev Pc:=Ct×List UInt8
def qDb:List Pc→List UInt8
 |[]=>[]
 |p::l=>qMq p.1++(p.2++qDb l)
def qLq:List Pc→Prop
 |[]=>True
 |p::l=>okC p.1∧(∀x∈p.2,inK [5] x=true)∧(∀x r,p.2++qDb l=x::r→zPa p.1 x=true)∧qLq l
theorem qTj{p:UInt8→Bool}:∀{a r:List UInt8},(∀x∈a,p x=true)→(∀x q,r=x::q→p x=false)→(a++r).takeWhile p=a
 |[],[],_,_=>rfl
 |[],x::q,_,h=>by rw[jQ,gS (by rw[h x q rfl];simp)]
 |x::a,r,h1,h2=>by rw[jP,gH (h1 x (jJ ..)),qTj (fun y hy=>h1 y (jL _ hy)) h2]
theorem zFv{p:UInt8→Bool}{pre a r:List UInt8}(h1:∀x∈a,p x=true)(h2:∀x q,r=x::q→p x=false):tw p (pre++(a++r)) pre.length=pre.length+a.length:=by
 unfold tw
 rw[List.drop_left,qTj h1 h2]
theorem qRy{pre:List UInt8}{x:UInt8}{r:List UInt8}:(pre++x::r).getD pre.length 0=x:=by
 rw[k9,List.getElem?_append_right (jV _),Nat.sub_self];rfl
theorem zJm{s:ByteArray}{pre a r:List UInt8}(h:s.data.toList=pre++(a++r)):s.extract pre.length (pre.length+a.length)=⟨⟨a⟩⟩:=
 ByteArray.ext (Array.ext' (by
  simp only[ByteArray.data_extract,gZ,gJ]
  rw[h,List.drop_left,Nat.add_sub_cancel_left,dF]))
theorem zJv{l:List UInt8}(h:l∈zOy):(∃x,l=[x]∧kd x=8)∨l=[61,61]:=by
 simp only[zOy,jR,gE,dH] at h
 rcases h with rfl|rfl|rfl|rfl|rfl|rfl|rfl|rfl|rfl|rfl|rfl|rfl<;>first|exact .inr rfl|exact .inl ⟨_,rfl,by kernel_rfl⟩
theorem zIi{k:Int}{x:UInt8}:inK [k] x=true↔kd x=k:=by simp[inK]
theorem zFm{c:Ct}(h:okC c):∃x r,qMq c=x::r∧(kd x=1∨kd x=2∨kd x=7∨kd x=8):=by
 obtain⟨k,l⟩:=c
 rcases h with ⟨rfl,⟨x,r,h1,h2⟩,-,-⟩|⟨rfl,h1,h2,-⟩|⟨rfl,h1⟩|⟨rfl,h1⟩
 ·exact⟨x,r,by rw[qNi (by decide)];exact h1,.inl h2⟩
 ·cases l with
  |nil=>exact absurd rfl h1
  |cons x r=>exact⟨x,r,qNi (by decide),.inr (.inl (zIi.1 (h2 x (jJ ..))))⟩
 ·exact⟨34,l++[34],by unfold qMq;rw[if_pos rfl],.inr (.inr (.inl (by kernel_rfl)))⟩
 ·rcases zJv h1 with ⟨x,h2,h3⟩|h2
  ·have h2:l=[x]:=h2
   subst h2
   exact⟨x,[],qNi (by decide),.inr (.inr (.inr h3))⟩
  ·have h2:l=[61,61]:=h2
   subst h2
   exact⟨61,[61],qNi (by decide),.inr (.inr (.inr (by kernel_rfl)))⟩
theorem zSj{s:ByteArray}{pre r:List UInt8}{c:Ct}(hc:okC c)(hs:s.data.toList=pre++(qMq c++r))(he:∀x q,r=x::q→zPa c x=true):
  tokP s pre.length=(((qJp c).1,(qJp c).2.1,(qJp c).2.2,0),((pre.length+(qMq c).length:Nat):Int),0):=by
 obtain⟨k,l⟩:=c
 rcases hc with ⟨rfl,⟨x,q,h1,h2⟩,h3,h4⟩|⟨rfl,h1,h2,h3⟩|⟨rfl,h1⟩|⟨rfl,h1⟩
 ·have eb:qMq (1,l)=l:=qNi (by decide)
  rw[eb] at hs ⊢
  have h1:l=x::q:=h1
  have e0:s.data.toList.getD pre.length 0=x:=by rw[hs,h1];exact qRy
  have e1:tw (inK [1,2,3]) s.data.toList pre.length=pre.length+l.length:=by
   rw[hs]
   exact zFv h3 fun y z hy=>by have:=he y z hy;simpa[zPa] using this
  have h4:l.length≤24:=h4
  unfold tokP
  rw[if_pos (by rw[e0];exact h2),e1,if_neg (by omega),zJm hs]
  rfl
 ·have eb:qMq (2,l)=l:=qNi (by decide)
  rw[eb] at hs ⊢
  have h1:l≠[]:=h1
  have h3:numL l≤9007199254740992:=h3
  obtain⟨x,q,e⟩:∃x q,l=x::q:=by cases l with
   |nil=>exact absurd rfl h1
   |cons x q=>exact⟨x,q,rfl⟩
  have e0:s.data.toList.getD pre.length 0=x:=by rw[hs,e];exact qRy
  have hk:kd x=2:=zIi.1 (h2 x (by show x∈l;rw[e];exact jJ ..))
  have hn:∀y z,r=y::z→inK [2] y=false:=fun y z hy=>by have:=he y z hy;simpa[zPa] using this
  have e1:tw (inK [2]) s.data.toList pre.length=pre.length+l.length:=by
   rw[hs];exact zFv h2 hn
  have e2:(s.data.toList.drop pre.length).takeWhile (inK [2])=l:=by
   rw[hs,List.drop_left];exact qTj h2 hn
  unfold tokP
  rw[if_neg (by rw[e0,hk];decide),if_pos (by rw[e0];exact hk),e1,e2,if_neg (by omega)]
  rfl
 ·have eb:qMq (3,l)=34::(l++[34]):=by unfold qMq;rw[if_pos rfl]
  rw[eb] at hs ⊢
  have e0:s.data.toList.getD pre.length 0=34:=by rw[hs];exact qRy
  have hk:kd 34=7:=by kernel_rfl
  have hs2:s.data.toList=(pre++[34])++(l++(34::r)):=by rw[hs];simp
  have hpl:(pre++[34]).length=pre.length+1:=by simp
  have e1:tw qPs s.data.toList (pre.length+1)=pre.length+1+l.length:=by
   rw[hs2,←hpl]
   exact zFv h1 fun y z hy=>by cases hy;rfl
  have e2:s.data.toList.getD (pre.length+1+l.length) 0=34:=by
   rw[hs,show pre++(34::(l++[34])++r)=(pre++34::l)++34::r by simp,show pre.length+1+l.length=(pre++34::l).length by simp;omega]
   exact qRy
  have e3:=zJm hs2
  rw[hpl] at e3
  unfold tokP
  rw[if_neg (by rw[e0,hk];decide),if_neg (by rw[e0,hk];decide),if_pos (by rw[e0];exact hk),e1,if_pos e2,e3]
  unfold qJp
  simp only[jD,jC,jF]
  rw[show pre.length+1+l.length+1=pre.length+(l.length+(0+1)+1) by omega]
  rfl
 ·have eb:qMq (4,l)=l:=qNi (by decide)
  rw[eb] at hs ⊢
  have k8:∀{x:UInt8},kd x=8→kd x≠1∧kd x≠2∧kd x≠7:=fun h=>by rw[h];decide
  have key:∀x q,l=x::q→kd x=8→qWo s.data.toList pre.length=pre.length+l.length→tokP s pre.length=(((qJp (4,l)).1,(qJp (4,l)).2.1,(qJp (4,l)).2.2,0),((pre.length+l.length:Nat):Int),0):=fun x q e hk hE=>by
   have e0:s.data.toList.getD pre.length 0=x:=by rw[hs,e];exact qRy
   obtain⟨n1,n2,n3⟩:=k8 hk
   unfold tokP
   rw[if_neg (by rw[e0];exact n1),if_neg (by rw[e0];exact n2),if_neg (by rw[e0];exact n3),if_pos (by rw[e0];exact hk),hE,zJm hs]
   rfl
  rcases zJv h1 with ⟨x,h2,h3⟩|h2
  ·have h2:l=[x]:=h2
   refine key x [] h2 h3 ?_
   have e0:s.data.toList.getD pre.length 0=x:=by rw[hs,h2];exact qRy
   unfold qWo
   rw[if_neg,h2]
   ·rfl
   ·rw[e0]
    rintro⟨rfl,g⟩
    cases r with
    |nil=>
     rw[hs,h2,k9,List.getElem?_eq_none (by simp)] at g
     cases g
    |cons y z=>
     have e4:s.data.toList.getD (pre.length+1) 0=y:=by
      rw[hs,h2,show pre++([61]++y::z)=(pre++[61])++y::z by simp,show pre.length+1=(pre++[(61:UInt8)]).length by simp]
      exact qRy
     have:=he y z rfl
     simp only[zPa,h2] at this
     rw[e4] at g
     simp[g] at this
  ·have h2:l=[61,61]:=h2
   refine key 61 [61] h2 (by kernel_rfl) ?_
   have e0:s.data.toList.getD pre.length 0=61:=by rw[hs,h2];exact qRy
   have e4:s.data.toList.getD (pre.length+1) 0=61:=by
    rw[hs,h2,show pre++([61,61]++r)=(pre++[61])++61::r by simp,show pre.length+1=(pre++[(61:UInt8)]).length by simp]
    exact qRy
   unfold qWo
   rw[if_pos ⟨e0,e4⟩,h2]
   rfl
theorem zBz{s:ByteArray}:∀(ps:List Pc) (pre bl:List UInt8) (k:Nat),s.data.toList=pre++(bl++qDb ps)→(∀x∈bl,inK [5] x=true)→qLq ps→ps.length<k→
  ∃ts,tokG k s pre.length= .inr ts∧ts.map qIz=ps.map (fun p=>qJp p.1)++[(5,⟨#[]⟩,0)]
 |_,_,_,0,_,_,_,h=>absurd h (kN _)
 |[],pre,bl,k+1,hs,hb,_,_=>by
  have hs':s.data.toList=pre++(bl++[]):=hs
  have e:tw (inK [5]) s.data.toList pre.length=s.data.toList.length:=by
   rw[hs',zFv hb fun x q h=>by cases h]
   simp
  refine⟨[(5,⟨#[]⟩,0,(s.data.toList.length:Int))],?_,rfl⟩
  unfold tokG
  rw[e,if_pos rfl]
 |p::ps,pre,bl,k+1,hs,hb,hg,hk=>by
  obtain⟨g1,g2,g3,g4⟩:=hg
  obtain⟨x,r,f1,f2⟩:=zFm g1
  have n5:inK [5] x=false:=by
   cases h:inK [5] x with
   |false=>rfl
   |true=>have:=zIi.1 h;rcases f2 with f|f|f|f<;>rw[f] at this<;>cases this
  have n6:kd x≠6:=by rcases f2 with f|f|f|f<;>rw[f]<;>decide
  have hs1:s.data.toList=pre++(bl++(qMq p.1++(p.2++qDb ps))):=hs
  have hs2:s.data.toList=(pre++bl)++(qMq p.1++(p.2++qDb ps)):=by rw[hs1];simp
  have hs3:s.data.toList=(pre++bl++qMq p.1)++(p.2++qDb ps):=by rw[hs1];simp
  have hpl:(pre++bl).length=pre.length+bl.length:=by simp
  have e1:tw (inK [5]) s.data.toList pre.length=pre.length+bl.length:=by
   rw[hs1]
   refine zFv hb fun y q h=> ?_
   rw[f1] at h
   cases h
   exact n5
  have e0:s.data.toList.getD (pre.length+bl.length) 0=x:=by
   rw[hs2,f1,←hpl];exact qRy
  have hlen:s.data.toList.length≠pre.length+bl.length:=by
   rw[hs2,f1];simp only[jC,jD];omega
  have ht:=zSj g1 hs2 g3
  rw[hpl] at ht
  obtain⟨ts,t1,t2⟩:=zBz ps (pre++bl++qMq p.1) p.2 k hs3 g2 g4 (by simp only[jD] at hk;omega)
  have hl2:(pre++bl++qMq p.1).length=pre.length+bl.length+(qMq p.1).length:=by simp;omega
  refine⟨((qJp p.1).1,(qJp p.1).2.1,(qJp p.1).2.2,((pre.length+bl.length:Nat):Int))::ts,?_,?_⟩
  ·unfold tokG
   rw[e1,if_neg (Ne.symm hlen),if_neg (by rw[e0];exact n6),ht]
   simp only[ne_eq,not_true_eq_false,jH,jS]
   rw[←hl2,t1]
  ·rw[kC,t2];rfl
theorem zDj{ps:List Pc}(hl:(qDb ps).length≤16384)(hg:qLq ps):∃ts,qJo ⟨⟨qDb ps⟩⟩=(ts,0,0)∧ts.map qIz=ps.map (fun p=>qJp p.1)++[(5,⟨#[]⟩,0)]:=by
 have hn:ps.length≤(qDb ps).length:=by
  clear hl
  induction ps with
  |nil=>exact kZ _
  |cons p ps ih=>
   obtain⟨g1,-,-,g4⟩:=hg
   obtain⟨x,r,f1,-⟩:=zFm g1
   have:=ih g4
   unfold qDb
   simp only[jC,jD,f1];omega
 obtain⟨ts,t1,t2⟩:=zBz (s:=⟨⟨qDb ps⟩⟩) ps [] [] ((qDb ps).length+1) rfl (fun x h=>by cases h) hg (by omega)
 refine⟨ts,?_,t2⟩
 have t1:tokG ((qDb ps).length+1) ⟨⟨qDb ps⟩⟩ 0= .inr ts:=t1
 unfold qJo
 rw[if_neg (by show ¬(qDb ps).length>16384;omega)]
 show zBw [] (tokG ((qDb ps).length+1) _ 0)=_
 rw[t1]
 rfl
end
section
open Go Go.Dc Go.Proofs
theorem zEe:∀i:Fin 10,inK [2] (UInt8.ofNat (48+i.val))=true∧(UInt8.ofNat (48+i.val)).toNat=48+i.val:=by decide+kernel
theorem qZj{n:Nat}(h:¬n<10):Lib.decDigits n=Lib.decDigits (n/10)++[UInt8.ofNat (48+n%10)]:=by rw[Lib.decDigits,dif_neg h]
theorem zNh(n:Nat):∀x∈Lib.decDigits n,inK [2] x=true:=by
 induction n using Nat.strongRecOn with
 |_ n ih=>
  intro x hx
  by_cases h:n<10
  ·rw[Lib.decDigits_one h,kO] at hx
   rw[hx];exact(zEe ⟨n,h⟩).1
  ·rw[qZj h] at hx
   rcases fB.1 hx with hx|hx
   ·exact ih (n/10) (by omega) x hx
   ·rw[kO] at hx
    rw[hx];exact(zEe ⟨n%10,by omega⟩).1
theorem zSw(n:Nat):Lib.decDigits n≠[]:=by
 intro h
 have:=Lib.decDigits_length n
 rw[h] at this
 have:=Lib.nDigits_pos n
 simp only[jF] at*;omega
theorem zKf(n:Nat)(hn:n≤9007199254740992):numL (Lib.decDigits n)=(n:Int):=by
 induction n using Nat.strongRecOn with
 |_ n ih=>
  by_cases h:n<10
  ·rw[Lib.decDigits_one h]
   have:=(zEe ⟨n,h⟩).2
   show numS 0 (UInt8.ofNat (48+n))=_
   unfold numS
   simp only at this
   rw[this,if_neg (by omega)];omega
  ·rw[qZj h,qWz,ih (n/10) (by omega) (by omega)]
   have:=(zEe ⟨n%10,by omega⟩).2
   simp only at this
   unfold numS
   rw[this,if_neg (by omega)];omega
theorem qXz:∀(k n:Nat),n<10^(k+1)→(Lib.decDigits n).length≤k+1
 |0,n,h=>by rw[Lib.decDigits_one (by simpa using h)];exact jV _
 |k+1,n,h=>by
  by_cases h10:n<10
  ·rw[Lib.decDigits_one h10];simp
  ·rw[Nat.pow_succ] at h
   have:=qXz k (n/10) (by omega)
   rw[qZj h10,jC,gX];omega
theorem qQr(n:Nat):(itB (n:Int)).data.toList=Lib.decDigits n:=by
 unfold itB Lib.itoa
 rw[if_neg (by omega),jS]
theorem qRl{x y:ByteArray}(h:x.data.toList=y.data.toList):x=y:=ByteArray.ext (Array.ext' h)
theorem qFo(x y:ByteArray):(x++y).data.toList=x.data.toList++y.data.toList:=by
 rw[ByteArray.data_append,Array.toList_append]
theorem zVe:∀i:Fin 10,((⟨#[48,49,50,51,52,53,54,55,56,57]⟩:ByteArray).extract i.val (i.val+1)).data.toList=[UInt8.ofNat (48+i.val)]:=by decide+kernel
end
section
open Go Go.Dc Go.Proofs
theorem zAw{s:ByteArray}(h:qPo s=true):s.size≤24:=by
 have:=(gN h).2.1
 rw[szl] at this;exact this
theorem qUe{s:ByteArray}(h:qNe s.data.toList=true):s.size≤80:=by
 have:s.data.toList.length≤80:=(gN h).1
 rw[szl] at this;exact this
theorem qHb{s:ByteArray}(h:qDo s=true):s.size≤24:=by
 unfold qDo at h
 rw[jO] at h
 exact zAw h.1
theorem zHn{op:Int}(h0:1≤op)(h1:op≤7):(qUh op).size≤2:=by
 rcases(by omega:op=1∨op=2∨op=3∨op=4∨op=5∨op=6∨op=7) with rfl|rfl|rfl|rfl|rfl|rfl|rfl<;>decide+kernel
theorem zFy{k:Int}(h:k=7∨k=8∨k=9):(qSc k).size≤4:=by
 rcases h with rfl|rfl|rfl<;>decide+kernel
theorem zIb{n:Int}(h0: -9007199254740992≤n)(h1:n≤9007199254740992):(itB n).size≤17:=by
 rw[←szl]
 show(Lib.itoa n).length≤17
 unfold Lib.itoa
 split
 ·have:=qXz 15 n.natAbs (by omega)
  simp only[jD];omega
 ·have:=qXz 15 n.toNat (by omega)
  omega
def lens(ws:List (List UInt8)):Nat:=(ws.map fun w=>w.length+2).sum
theorem qZn:∀(ws:List (List UInt8)) (k:Nat),(qNl k ws).length≤lens ws
 |[],_=>kZ _
 |w::ws,k=>by
  have ih:=qZn ws (k+1)
  have hs:(sepK k).length≤2:=by unfold sepK;split<;>simp
  unfold lens at*
  simp only[qNl,jC,kC,hO];omega
theorem zQq{ps:List ByteArray}{h:Hd}{ks:List Rose}{b:Nat}(hps:∀s∈ps,s.size≤24)(hn:qNa (ps.length:Int) (qJu h (qDh b ks))=true):(qJq ps h (wrs ps h 0 ks)).length≤100+lens (wrs ps h 0 ks):=by
 rcases qXq hn with ⟨k,a,n0,n1,-,-⟩|⟨k,a,n0,n1,-,-⟩|⟨k,a,-,-⟩|⟨k,a,n0,n1,-,-⟩|⟨k,a,-,-,-⟩|⟨k,a,n0,-,-⟩|⟨k,a,n0,-,-⟩|⟨k,a,n0,-,-⟩|⟨k,a,n0,n1,-,-⟩
 all_goals (try simp only[qJu] at k)<;>(try simp only[qJu] at a)
 ·have:(itB h.2.1).size≤17:=zIb n0 n1
  unfold qJq
  rw[if_pos k,szl];omega
 ·have k1:h.1≠1:=by omega
  try simp only[qJu] at n0 n1
  have hlt:h.2.1.toNat<ps.length:=by omega
  have e:ps.getD h.2.1.toNat ⟨#[]⟩=ps[h.2.1.toNat]:=by rw[k9,List.getElem?_eq_getElem hlt];rfl
  have:=hps _ (jW hlt)
  unfold qJq
  rw[if_neg k1,if_pos k,e,szl];omega
 ·have k1:h.1≠1:=by omega
  have k2:h.1≠2:=by omega
  have k4:h.1≠4:=by omega
  have k5:h.1≠5:=by omega
  have h1:=qHb a
  have h2:=qZn (wrs ps h 0 ks) 0
  have z1:(⟨#[40]⟩:ByteArray).size=1:=rfl
  unfold qJq
  rw[if_neg k1,if_neg k2,if_neg k4,if_neg k5,if_pos k]
  try simp only[qJu] at h1
  simp only[jC,szl,ByteArray.size_append,jD,jF];omega
 ·obtain⟨t,u,rfl⟩:=len2 a
  have k1:h.1≠1:=by omega
  have k2:h.1≠2:=by omega
  have h1:=zHn n0 n1
  have z1:(⟨#[32]⟩:ByteArray).size=1:=rfl
  try simp only[qJu] at h1
  unfold qJq
  rw[if_neg k1,if_neg k2,if_pos k]
  simp only[wrs,lens,kC,List.map_nil,hO,List.sum_nil,List.getD_cons_zero,List.getD_cons_succ,jC,szl,ByteArray.size_append];omega
 ·obtain⟨t,u,v,rfl⟩:=len3 a
  have k1:h.1≠1:=by omega
  have k2:h.1≠2:=by omega
  have k4:h.1≠4:=by omega
  have l1:tI.length=3:=rfl
  have l2:tThen.length=6:=rfl
  have l3:tElse.length=6:=rfl
  unfold qJq
  rw[if_neg k1,if_neg k2,if_neg k4,if_pos k]
  simp only[wrs,lens,kC,List.map_nil,hO,List.sum_nil,List.getD_cons_zero,List.getD_cons_succ,jC];omega
 ·obtain⟨t,rfl⟩:=len1 a
  have k1:h.1≠1:=by omega
  have k2:h.1≠2:=by omega
  have k4:h.1≠4:=by omega
  have k5:h.1≠5:=by omega
  have k3:h.1≠3:=by omega
  have h1:=qUe n0
  have z1:(⟨#[114,101,97,100,40,34]⟩:ByteArray).size=6:=rfl
  have z2:(⟨#[34,44,32]⟩:ByteArray).size=3:=rfl
  try simp only[qJu] at h1
  unfold qJq
  rw[if_neg k1,if_neg k2,if_neg k4,if_neg k5,if_neg k3,if_pos k]
  simp only[wrs,lens,kC,List.map_nil,hO,List.sum_nil,List.getD_cons_zero,jC,szl,ByteArray.size_append,jD,jF];omega
 all_goals obtain rfl:=len0 a
 all_goals have k1:h.1≠1:=by omega
 all_goals have k2:h.1≠2:=by omega
 all_goals have k4:h.1≠4:=by omega
 all_goals have k5:h.1≠5:=by omega
 all_goals have k3:h.1≠3:=by omega
 all_goals have k6:h.1≠6:=by omega
 ·have k10:h.1≠10:=by omega
  have h1:=qUe n0
  have h2:=zFy (k:=h.1) (by omega)
  have z1:(⟨#[40,34]⟩:ByteArray).size=2:=rfl
  have z2:(⟨#[34,41]⟩:ByteArray).size=2:=rfl
  try simp only[qJu] at h1
  unfold qJq
  rw[if_neg k1,if_neg k2,if_neg k4,if_neg k5,if_neg k3,if_neg k6,if_neg k10]
  simp only[szl,ByteArray.size_append];omega
 ·have k10:h.1≠10:=by omega
  have h1:=zAw n0
  have h2:=zFy (k:=h.1) (by omega)
  have z1:(⟨#[40,34]⟩:ByteArray).size=2:=rfl
  have z2:(⟨#[34,41]⟩:ByteArray).size=2:=rfl
  try simp only[qJu] at h1
  unfold qJq
  rw[if_neg k1,if_neg k2,if_neg k4,if_neg k5,if_neg k3,if_neg k6,if_neg k10]
  simp only[szl,ByteArray.size_append];omega
 ·try simp only[qJu] at n0 n1
  have h1:=zIb (n:=h.2.1) (by omega) (by omega)
  have z1:(⟨#[102,108,105,112,40]⟩:ByteArray).size=5:=rfl
  have z2:(⟨#[41]⟩:ByteArray).size=1:=rfl
  unfold qJq
  rw[if_neg k1,if_neg k2,if_neg k4,if_neg k5,if_neg k3,if_neg k6,if_pos k]
  simp only[szl,ByteArray.size_append];omega
mutual
theorem zLk{ps:List ByteArray}(hps:∀s∈ps,s.size≤24)(t:Rose)(b:Nat)(need:Int)(hv:∀x∈t.flat b,qNa (ps.length:Int) x=true):(t.wr ps need).length+2≤110*t.size:=by
 match t with
 | .mk h ks=>
  have h1:=zNo hps ks h 0 b (fun x hx=>hv x (by unfold Rose.flat;exact kA _ hx))
  have h2:=zQq (b:=b) hps (hv (qJu h (qDh b ks)) (by unfold Rose.flat;exact kI _ (jJ ..)))
  simp only[Rose.wr,Rose.size]
  split
  ·simp only[jD,jC,jF];omega
  ·omega
theorem zNo{ps:List ByteArray}(hps:∀s∈ps,s.size≤24)(l:List Rose)(h:Hd)(k b:Nat)(hv:∀x∈qHv b l,qNa (ps.length:Int) x=true):lens (wrs ps h k l)≤110*qBp l:=by
 match l with
 |[]=>exact kZ _
 |t::l=>
  have h1:=zLk hps t b (qIi h k) (fun x hx=>hv x (by unfold qHv;exact kA _ hx))
  have h2:=zNo hps l h (k+1) (b+t.size) (fun x hx=>hv x (by unfold qHv;exact kI _ hx))
  simp only[wrs,lens,kC,hO,qBp] at*
  omega
end
def wrD(d:Dl):List UInt8:=match zIl d.2.2.2 with
 |some t=>t.wr d.2.2.1 0
 |none=>[]
def depD(d:Dl):Nat:=match zIl d.2.2.2 with
 |some t=>t.dep 0 1
 |none=>0
structure GoodD(d:Dl):Prop where
 head:zEd d=true
 pars:∀s∈d.2.2.1,d.1=1∧qDo s=true
 nodes:∀x∈d.2.2.2,qNa (d.2.2.1.length:Int) x=true
 tree:oneP (ordS d.2.2.2 0 [])=true
theorem zLa{d:Dl}(h:qIo d=true):GoodD d:=by
 unfold qIo zIu zHt at h
 simp only[jO,kD,kG] at h
 exact⟨h.1,h.2.1,h.2.2.1,h.2.2.2⟩
theorem zRp{ps:List ByteArray}{h:Hd}{ks:List Rose}{b:Nat}(hps:∀s∈ps,s.data.toList≠[])(hn:qNa (ps.length:Int) (qJu h (qDh b ks))=true):qJq ps h (wrs ps h 0 ks)≠[]:=by
 have ne:∀{x y:List UInt8},y≠[]→x++y≠[]:=fun h e=>h (gU.1 e).2
 have nel:∀{x y:List UInt8},x≠[]→x++y≠[]:=fun h e=>h (gU.1 e).1
 rcases qXq hn with ⟨k,a,n0,n1,-,-⟩|⟨k,a,n0,n1,-,-⟩|⟨k,a,-,-⟩|⟨k,a,n0,n1,-,-⟩|⟨k,a,-,-,-⟩|⟨k,a,n0,-,-⟩|⟨k,a,n0,-,-⟩|⟨k,a,n0,-,-⟩|⟨k,a,n0,n1,-,-⟩
 all_goals try simp only[qJu] at k
 ·unfold qJq
  rw[if_pos k]
  show Lib.itoa h.2.1≠[]
  unfold Lib.itoa
  split
  ·simp
  ·exact zSw _
 ·have k1:h.1≠1:=by omega
  try simp only[qJu] at n0 n1
  have hlt:h.2.1.toNat<ps.length:=by omega
  have e:ps.getD h.2.1.toNat ⟨#[]⟩=ps[h.2.1.toNat]:=by rw[k9,List.getElem?_eq_getElem hlt];rfl
  unfold qJq
  rw[if_neg k1,if_pos k,e]
  exact hps _ (jW hlt)
 all_goals have k1:h.1≠1:=by omega
 all_goals have k2:h.1≠2:=by omega
 ·have k4:h.1≠4:=by omega
  have k5:h.1≠5:=by omega
  unfold qJq
  rw[if_neg k1,if_neg k2,if_neg k4,if_neg k5,if_pos k]
  exact ne (ne (by simp))
 ·unfold qJq
  rw[if_neg k1,if_neg k2,if_pos k]
  refine ne (nel ?_)
  rw[qFo,qFo]
  exact ne (by simp)
 all_goals have k4:h.1≠4:=by omega
 ·unfold qJq
  rw[if_neg k1,if_neg k2,if_neg k4,if_pos k]
  exact nel (by simp[tI])
 all_goals have k5:h.1≠5:=by omega
 all_goals have k3:h.1≠3:=by omega
 ·unfold qJq
  rw[if_neg k1,if_neg k2,if_neg k4,if_neg k5,if_neg k3,if_pos k]
  exact ne (ne (by simp))
 all_goals have k6:h.1≠6:=by omega
 ·have k10:h.1≠10:=by omega
  unfold qJq
  rw[if_neg k1,if_neg k2,if_neg k4,if_neg k5,if_neg k3,if_neg k6,if_neg k10,qFo]
  exact ne (by simp)
 ·have k10:h.1≠10:=by omega
  unfold qJq
  rw[if_neg k1,if_neg k2,if_neg k4,if_neg k5,if_neg k3,if_neg k6,if_neg k10,qFo]
  exact ne (by simp)
 ·unfold qJq
  rw[if_neg k1,if_neg k2,if_neg k4,if_neg k5,if_neg k3,if_neg k6,if_pos k,qFo]
  exact ne (by simp)
theorem wr_ne{ps:List ByteArray}(hps:∀s∈ps,s.data.toList≠[])(t:Rose)(b:Nat)(need:Int)(hv:∀x∈t.flat b,qNa (ps.length:Int) x=true):t.wr ps need≠[]:=by
 cases t with
 |mk h ks=>
  simp only[Rose.wr]
  split
  ·simp
  ·exact zRp (b:=b) hps (hv (qJu h (qDh b ks)) (by unfold Rose.flat;exact kI _ (jJ ..)))
theorem zRr{s:ByteArray}(h:qDo s=true):s.data.toList≠[]:=by
 unfold qDo at h
 rw[jO] at h
 have:=(gN h.1).1
 intro e
 rw[e] at this
 simp at this
theorem zLg{N:Nat}{d:Dl}(hd:GoodD d)(hb:d.2.2.2.length≤256)(hN:3000000<N):qPz N d.2.2.2 d.2.2.1=some (qEy (wrD d),(depD d:Int))∧(wrD d).length≤30000:=by
 obtain⟨t,h1,h2⟩:=qWw hd.tree
 have hsz:t.size=d.2.2.2.length:=by
  have:=qHk t 0
  rw[←h2] at this;exact this.symm
 have hp:=t.pos
 have hv:∀x∈t.flat 0,qNa (d.2.2.1.length:Int) x=true:=fun x hx=>hd.nodes x (by rw[h2];exact hx)
 have hwl:=zLk (ps:=d.2.2.1) (fun s hs=>qHb (hd.pars s hs).2) t 0 0 hv
 have hat:AtT d.2.2.2 0 t:=by
  have:=AtT.whole t
  rw[←h2] at this;exact this
 have hw:wrD d=t.wr d.2.2.1 0:=by unfold wrD;rw[h1]
 have hdp:depD d=t.dep 0 1:=by unfold depD;rw[h1]
 refine⟨?_,by rw[hw];omega⟩
 unfold qPz
 rw[wi64 (by omega) (by omega)]
 have hr:=wr_ok (l:=d.2.2.2) (ps:=d.2.2.1) hN t (by omega) N 0 [] false 0 1 0 hat hv (by omega) (by simp only[jF];omega) (by omega) (fD 0)
 rw[show(((0+t.size-1:Nat)):Int)=(d.2.2.2.length:Int)-1 by omega,show((0:Nat):Int)=0 from rfl,show((1:Nat):Int)=1 from rfl] at hr
 rw[show qOe N ((false,([]:List (UInt8))),d.2.2.2,d.2.2.1,0) ((d.2.2.2.length:Int)-1) 0 1=_ from hr]
 simp only[j0,jQ]
 have hne:=wr_ne (ps:=d.2.2.1) (fun s hs=>zRr (hd.pars s hs).2) t 0 0 hv
 have hnn:nonE (t.wr d.2.2.1 0)=some ():=by
  cases hh:t.wr d.2.2.1 0 with
  |nil=>exact absurd hh hne
  |cons a l=>rfl
 rw[hnn,hw,hdp]
 simp only[j0,Nat.zero_max]
end
section
open Go Go.Dc Go.Proofs
def zBe(l:List ByteArray):ByteArray:=⟨⟨qNl 0 (l.map fun s=>s.data.toList)⟩⟩
def zDm(d:Dl):ByteArray:=
 if d.1=1 then((((⟨#[102,117,110,99,32]⟩:ByteArray)++d.2.1)++(⟨#[40]⟩:ByteArray))++zBe d.2.2.1)++(⟨#[41]⟩:ByteArray)
 else if d.1=2 then(⟨#[116,101,115,116,32]⟩:ByteArray)++d.2.1
 else((⟨#[103,101,110,32,34]⟩:ByteArray)++d.2.1)++(⟨#[34]⟩:ByteArray)
def qQb(d:Dl):List UInt8:=(zDm d).data.toList++(((⟨#[32,61,32]⟩:ByteArray)++qEy (wrD d))++(⟨#[59,10]⟩:ByteArray)).data.toList
def pkgT(s:ByteArray):List UInt8:=(((⟨#[112,97,99,107,97,103,101,32]⟩:ByteArray)++s)++(⟨#[59,10]⟩:ByteArray)).data.toList
def impT(s:ByteArray):List UInt8:=(((⟨#[105,109,112,111,114,116,32]⟩:ByteArray)++s)++(⟨#[59,10]⟩:ByteArray)).data.toList
def fmtT(f:Sr):List UInt8:=(pkgT f.1++f.2.1.flatMap impT)++f.2.2.flatMap qQb
def qUk(f:Sr):ByteArray×Int:=
 if f.2.2.any (fun d=>decide (32<depD d))=true then(⟨#[]⟩,2) else if 16384<(fmtT f).length then(⟨#[]⟩,2) else(qEy (fmtT f),0)
theorem qVm{α:Type}(g:α→List UInt8):∀(l:List α) (t:List UInt8),l.foldl (fun t x=>t++g x) t=t++l.flatMap g
 |[],t=>by simp
 |x::l,t=>by rw[List.foldl_cons,qVm g l,kH,jE]
structure GoodS(f:Sr):Prop where
 pkg:qDo f.1=true
 imps:∀s∈f.2.1,qDo s=true
 impn:f.2.1.length≤8
 decn:f.2.2.length≤64
 decs:∀d∈f.2.2,GoodD d∧d.2.2.1.length≤8∧d.2.2.2.length≤256∧zEf d.2.2.2=false
 once:qYp f=false
theorem qZh{f:Sr}(h:qMj f=0):GoodS f:=by
 unfold qMj at h
 split at h
 ·rename_i hs
  split at h
  ·cases h
  ·rename_i ht
   split at h
   ·cases h
   ·rename_i hm
    have hm:zJl f=false:=by simpa using hm
    unfold synP at hs
    unfold zJl at hm
    simp only[jO,kD] at hs
    simp only[kU,decide_eq_false_iff_not,List.any_eq_false] at hm
    refine⟨hs.1,hs.2.1,by omega,by omega,fun d hd=> ?_,by simpa using ht⟩
    have h1:=hm.2.2 d hd
    unfold zAy at h1
    simp only[Bool.not_eq_true,kU,decide_eq_false_iff_not] at h1
    exact⟨zLa (hs.2.2 d hd),by omega,by omega,h1.2.2⟩
 ·cases h
theorem zEy{l:List ByteArray}(h:∀s∈l,s.size≤24):(zBe l).size≤26*l.length:=by
 have h1:=qZn (l.map fun s=>s.data.toList) 0
 have h2:lens (l.map fun s=>s.data.toList)≤26*l.length:=by
  clear h1
  induction l with
  |nil=>exact kZ _
  |cons s l ih=>
   have i1:=h s (jJ ..)
   have i2:=ih fun x hx=>h x (jL _ hx)
   unfold lens at*
   simp only[kC,hO,jD,szl] at*
   omega
 have h3:(zBe l).size=(qNl 0 (l.map fun s=>s.data.toList)).length:=by rw[←szl];rfl
 omega
theorem zDq{d:Dl}(h:GoodD d):d.2.1.size≤80:=by
 have:=h.head
 unfold zEd at this
 split at this
 ·have:=qHb this;omega
 ·split at this
  ·exact qUe this
  ·cases this
theorem qZa{d:Dl}(h:GoodD d)(hp:d.2.2.1.length≤8):(zDm d).size≤400:=by
 have h1:=zDq h
 have h2:=zEy (l:=d.2.2.1) fun s hs=>qHb (h.pars s hs).2
 have z1:(⟨#[102,117,110,99,32]⟩:ByteArray).size=5:=rfl
 have z2:(⟨#[40]⟩:ByteArray).size=1:=rfl
 have z3:(⟨#[41]⟩:ByteArray).size=1:=rfl
 have z4:(⟨#[116,101,115,116,32]⟩:ByteArray).size=5:=rfl
 have z5:(⟨#[103,101,110,32,34]⟩:ByteArray).size=5:=rfl
 have z6:(⟨#[34]⟩:ByteArray).size=1:=rfl
 unfold zDm
 split
 ·simp only[ByteArray.size_append];omega
 ·split
  ·simp only[ByteArray.size_append];omega
  ·simp only[ByteArray.size_append];omega
theorem qIs(l:List UInt8):(qEy l).data.toList=l:=rfl
theorem qDe(l:List UInt8):(qEy l).size=l.length:=by rw[←szl,qIs]
theorem zSn{N:Nat}{d:Dl}(h:GoodD d)(hp:d.2.2.1.length≤8)(hb:d.2.2.2.length≤256)(hN:3000000<N):(qQb d).length≤31000:=by
 have h1:=qZa h hp
 have h2:=(zLg h hb hN).2
 have z1:(⟨#[32,61,32]⟩:ByteArray).size=3:=rfl
 have z2:(⟨#[59,10]⟩:ByteArray).size=2:=rfl
 unfold qQb
 simp only[jC,szl,ByteArray.size_append,qDe];omega
theorem fmt_L1{N:Nat}{f:Sr}(h:GoodS f)(hN:3000000<N){t0:List UInt8}(ht:t0.length≤100):qAt (qJm N f) N (0,t0)=some (t0++f.2.1.flatMap impT)∧(t0++f.2.1.flatMap impT).length≤600:=by
 have hn:=h.impn
 have hlen:∀s∈f.2.1,(impT s).length≤40:=fun s hs=>by
  have:=qHb (h.imps s hs)
  have z1:(⟨#[105,109,112,111,114,116,32]⟩:ByteArray).size=7:=rfl
  have z2:(⟨#[59,10]⟩:ByteArray).size=2:=rfl
  unfold impT
  simp only[szl,ByteArray.size_append];omega
 constructor
 ·have hl:=qHd (L:=f.2.1) (fun(t:List UInt8) (i:Nat)=>((i:Int),t)) (f:=qJm N f)
   (fun t s=> .inl (t++impT s)) (fun t=>t) (fun i t=>t.length≤100+40*i) (by
    intro t i hi hI
    have h1:=qHb (h.imps _ (jW hi))
    simp only[qJm]
    rw[if_pos (by simp only[jA];omega),qDn hi]
    have ew:IntKind.wrap .i64 ((i:Int)+1)=((i+1:Nat):Int):=by rw[wi64 (by omega) (by omega)];omega
    have z1:(⟨#[105,109,112,111,114,116,32]⟩:ByteArray).size=7:=rfl
    have z2:(⟨#[59,10]⟩:ByteArray).size=2:=rfl
    simp only[j0]
    rw[catW (by omega)]
    simp only[j0]
    rw[catW (by rw[ByteArray.size_append];omega)]
    simp only[j0]
    rw[app1 (by simp only[szl,ByteArray.size_append];omega)]
    simp only[j0,ew]
    rfl) (by
    intro t i hi t' hI hh
    cases hh
    have:=hlen _ (jW hi)
    simp only[jC];omega) (by
    intro t hI
    simp only[qJm]
    rw[if_neg (by simp)]) (M:=N) (t:=t0) (by omega) (by omega)
  rw[show((0:Nat):Int)=0 from rfl] at hl
  rw[hl,qZg (fun t s=>t++impT s) (fun _ _=>rfl),qVm]
 ·have:∀l:List ByteArray,(∀s∈l,(impT s).length≤40)→(l.flatMap impT).length≤40*l.length:=fun l=>by
   induction l with
   |nil=>intro _;exact kZ _
   |cons s l ih=>
    intro hl
    have i1:=hl s (jJ ..)
    have i2:=ih fun x hx=>hl x (jL _ hx)
    simp only[kH,jC,jD];omega
  have:=this _ hlen
  rw[jC];omega
theorem fmt_L2{N:Nat}{f:Sr}(h:GoodS f)(hj:∀d∈f.2.2,d.1=1→qKb N d.2.2.1 (⟨#[44,32]⟩:ByteArray)=some (zBe d.2.2.1))(hN:3000000<N){t0:List UInt8}(ht:t0.length≤600):
  qAt (qJl N f) N (0,t0)=some (if f.2.2.any (fun d=>decide (32<depD d))=true then .inr ((⟨#[]⟩:ByteArray),2) else .inl (t0++f.2.2.flatMap qQb)):=by
 have hn:=h.decn
 have hl:=qHd (L:=f.2.2) (fun(t:List UInt8) (i:Nat)=>((i:Int),t)) (f:=qJl N f)
  (fun t d=>if(decide (32<depD d))=true then .inr (.inr ((⟨#[]⟩:ByteArray),2)) else .inl (t++qQb d)) (fun t=>(.inl t:List UInt8⊕(ByteArray×Int))) (fun i t=>t.length≤600+31000*i) (by
   intro t i hi hI
   obtain⟨g1,g2,g3,-⟩:=h.decs _ (jW hi)
   obtain⟨w1,w2⟩:=zLg g1 g3 hN
   have hh:=qZa g1 g2
   have hnl:=zDq g1
   have hjn:=zEy (l:=(f.2.2[i]).2.2.1) fun s hs=>qHb (g1.pars s hs).2
   have hje:=hj _ (jW hi)
   simp only[qJl]
   rw[if_pos (by simp only[jA];omega),qDn hi]
   generalize f.2.2[i]=d at g1 g2 g3 w1 w2 hh hnl hjn hje
   have ew:IntKind.wrap .i64 ((i:Int)+1)=((i+1:Nat):Int):=by rw[wi64 (by omega) (by omega)];omega
   simp only[j0,w1]
   have e32:decide ((depD d:Int)>32)=decide (32<depD d):=by congr 1;rw[eq_iff_iff];omega
   rw[e32]
   cases c:decide (32<depD d) with
   |true=>rfl
   |false=>
    have z1:(⟨#[102,117,110,99,32]⟩:ByteArray).size=5:=rfl
    have z2:(⟨#[40]⟩:ByteArray).size=1:=rfl
    have z3:(⟨#[41]⟩:ByteArray).size=1:=rfl
    have z4:(⟨#[116,101,115,116,32]⟩:ByteArray).size=5:=rfl
    have z5:(⟨#[103,101,110,32,34]⟩:ByteArray).size=5:=rfl
    have z6:(⟨#[34]⟩:ByteArray).size=1:=rfl
    have z7:(⟨#[32,61,32]⟩:ByteArray).size=3:=rfl
    have z8:(⟨#[59,10]⟩:ByteArray).size=2:=rfl
    have hhead:(if(d.1==1)=true then((catB (⟨#[102,117,110,99,32]⟩:ByteArray) d.2.1).bind fun s7=>(catB s7 (⟨#[40]⟩:ByteArray)).bind fun s8=>(qKb N d.2.2.1 (⟨#[44,32]⟩:ByteArray)).bind fun y3=>(catB s8 y3).bind fun s9=>(catB s9 (⟨#[41]⟩:ByteArray)).bind fun s10=>(qCx 1 t s10.data.toList).bind fun l3=>some l3) else(if(d.1==2)=true then((catB (⟨#[116,101,115,116,32]⟩:ByteArray) d.2.1).bind fun s11=>(qCx 1 t s11.data.toList).bind fun l4=>some l4) else((catB (⟨#[103,101,110,32,34]⟩:ByteArray) d.2.1).bind fun s12=>(catB s12 (⟨#[34]⟩:ByteArray)).bind fun s13=>(qCx 1 t s13.data.toList).bind fun l5=>some l5)):Option (List (UInt8)))=some (t++(zDm d).data.toList):=by
     unfold zDm at hh ⊢
     by_cases k1:d.1=1
     ·rw[if_pos k1] at hh
      simp only[ByteArray.size_append] at hh
      rw[if_pos (by simpa using k1),if_pos k1,catW (by omega)]
      simp only[j0]
      rw[catW (by rw[ByteArray.size_append];omega),hje k1]
      simp only[j0]
      rw[catW (by simp only[ByteArray.size_append];omega)]
      simp only[j0]
      rw[catW (by simp only[ByteArray.size_append];omega)]
      simp only[j0]
      rw[app1 (by simp only[szl,ByteArray.size_append];omega)]
      rfl
     ·rw[if_neg k1] at hh
      rw[if_neg (by simpa using k1),if_neg k1]
      by_cases k2:d.1=2
      ·rw[if_pos k2] at hh
       simp only[ByteArray.size_append] at hh
       rw[if_pos (by simpa using k2),if_pos k2,catW (by omega)]
       simp only[j0]
       rw[app1 (by simp only[szl,ByteArray.size_append];omega)]
       rfl
      ·rw[if_neg k2] at hh
       simp only[ByteArray.size_append] at hh
       rw[if_neg (by simpa using k2),if_neg k2,catW (by omega)]
       simp only[j0]
       rw[catW (by rw[ByteArray.size_append];omega)]
       simp only[j0]
       rw[app1 (by simp only[szl,ByteArray.size_append];omega)]
       rfl
    simp only[jB,jH]
    refine Eq.trans (congrArg (fun z=>Option.bind z _) hhead) ?_
    simp only[j0]
    rw[catW (by rw[qDe];omega)]
    simp only[j0]
    rw[catW (by rw[ByteArray.size_append,qDe];omega)]
    simp only[j0]
    rw[app1 (by simp only[jC,szl,ByteArray.size_append,qDe];omega)]
    simp only[j0,ew,qQb,jE]) (by
   intro t i hi t' hI hh
   split at hh
   ·cases hh
   ·cases hh
    obtain⟨g1,g2,g3,-⟩:=h.decs _ (jW hi)
    have:=zSn (N:=N) g1 g2 g3 hN
    rw[jC];omega) (by
   intro t hI
   simp only[qJl]
   rw[if_neg (by simp)]) (M:=N) (t:=t0) (by omega) (by omega)
 rw[show((0:Nat):Int)=0 from rfl] at hl
 rw[hl]
 congr 1
 suffices g:∀(l:List Dl) (t:List UInt8),run (fun t d=>if(decide (32<depD d))=true then .inr (.inr ((⟨#[]⟩:ByteArray),2)) else .inl (t++qQb d)) (fun t=>(.inl t:List UInt8⊕(ByteArray×Int))) l t=if l.any (fun d=>decide (32<depD d))=true then .inr ((⟨#[]⟩:ByteArray),2) else .inl (t++l.flatMap qQb) from g _ _
 intro l
 induction l with
 |nil=>intro t;simp[run]
 |cons d l ih=>
  intro t
  simp only[run,fH,kH]
  cases hd:decide (32<depD d) with
  |true=>simp
  |false=>
   simp only[jB,jH,kT]
   rw[ih,jE]
theorem zMa{N:Nat}{f:Sr}(hf:SmSr f)(hj:qMj f=0→∀d∈f.2.2,d.1=1→qKb N d.2.2.1 (⟨#[44,32]⟩:ByteArray)=some (zBe d.2.2.1))(hN:3000000<N):
  qJv N f=some (if qMj f=0 then qUk f else(⟨#[]⟩,qMj f)):=by
 unfold qJv
 rw[show qJz N f=_ from zAk hf hN]
 simp only[j0]
 by_cases hc:qMj f=0
 ·have hg:=qZh hc
  have hpk:=qHb hg.pkg
  have z1:(⟨#[112,97,99,107,97,103,101,32]⟩:ByteArray).size=8:=rfl
  have z2:(⟨#[59,10]⟩:ByteArray).size=2:=rfl
  have hpl:(pkgT f.1).length≤100:=by unfold pkgT;simp only[szl,ByteArray.size_append];omega
  rw[if_neg (by simp[hc]),if_pos hc,catW (by omega)]
  simp only[j0]
  rw[catW (by rw[ByteArray.size_append];omega)]
  simp only[j0]
  rw[app1 (by simp only[jF,szl,ByteArray.size_append];omega),jQ]
  simp only[j0]
  rw[show(((⟨#[112,97,99,107,97,103,101,32]⟩:ByteArray)++f.1)++(⟨#[59,10]⟩:ByteArray)).data.toList=pkgT f.1 from rfl]
  obtain⟨l1,l2⟩:=fmt_L1 hg hN hpl
  rw[l1]
  simp only[j0]
  rw[fmt_L2 hg (hj hc) hN l2]
  simp only[j0]
  unfold qUk
  by_cases ha:f.2.2.any (fun d=>decide (32<depD d))=true
  ·rw[if_pos ha,if_pos ha]
  ·rw[if_neg ha,if_neg ha]
   simp only
   have e:decide (((pkgT f.1++f.2.1.flatMap impT++f.2.2.flatMap qQb).length:Int)>16384)=decide (16384<(fmtT f).length):=by
    congr 1;rw[eq_iff_iff];unfold fmtT;omega
   rw[e]
   by_cases hl:16384<(fmtT f).length
   ·rw[if_pos (by simpa using hl),if_pos hl]
   ·rw[if_neg (by simpa using hl),if_neg hl]
    have hnn:nonE (pkgT f.1++f.2.1.flatMap impT++f.2.2.flatMap qQb)=some ():=by
     cases hh:(pkgT f.1++f.2.1.flatMap impT++f.2.2.flatMap qQb) with
     |nil=>
      have h1:=(gU.1 (gU.1 hh).1).1
      unfold pkgT at h1
      rw[qFo,qFo] at h1
      have:=(gU.1 h1).2
      simp at this
     |cons a l=>rfl
    rw[hnn]
    rfl
 ·rw[if_pos (by simp[hc]),if_neg hc]
theorem zSs{N:Nat}{l:List ByteArray}(h:l.length≤1):qKb N l (⟨#[44,32]⟩:ByteArray)=some (zBe l):=by
 unfold qKb
 rw[if_neg (by omega)]
 unfold qQn
 match l,h with
 |[],_=>rfl
 |[x],_=>
  simp only[jD,jF]
  rw[if_neg (by decide),if_pos (by decide),show idx [x] 0=some x from rfl]
  simp only[j0]
  congr 1
  refine qRl ?_
  show x.data.toList=qNl 0 [x.data.toList]
  simp[qNl,sepK]
end
section
open Go Go.Dc Go.Proofs
theorem zRk{P:Rose→Prop}(h:∀hd ks,(∀t∈ks,P t)→P (.mk hd ks))(t:Rose):P t:=by
 have key:∀(n:Nat) (t:Rose),t.size≤n→P t:=by
  intro n
  induction n with
  |zero=>intro t ht;have:=t.pos;omega
  |succ n ih=>
   intro t ht
   match t with
   | .mk hd ks=>
    refine h hd ks fun u hu=>ih u ?_
    have hs:u.size≤qBp ks:=by
     clear ht ih h
     induction ks with
     |nil=>cases hu
     |cons a l ihl=>
      rcases jR.1 hu with rfl|hu
      ·show _≤u.size+qBp l;omega
      ·have:=ihl hu
       show _≤a.size+qBp l;omega
    have:(Rose.mk hd ks).size=qBp ks+1:=rfl
    omega
 exact key t.size t (jV _)
inductive Fine(np:Nat):Rose→Prop
 |num (n:Int) (h0: -9007199254740992≤n) (h1:n≤9007199254740992):Fine np (.mk (1,n,0,emB) [])
 |par (i:Nat) (h:i<np):Fine np (.mk (2,(i:Int),0,emB) [])
 |call (s:ByteArray) (ks:List Rose) (h:qDo s=true) (hk:∀t∈ks,Fine np t):Fine np (.mk (3,0,0,s) ks)
 |bin (op:Int) (a b:Rose) (h0:1≤op) (h1:op≤7) (ha:Fine np a) (hb:Fine np b):Fine np (.mk (4,0,op,emB) [a,b])
 |ite (a b c:Rose) (ha:Fine np a) (hb:Fine np b) (hc:Fine np c):Fine np (.mk (5,0,0,emB) [a,b,c])
 |read (s:ByteArray) (a:Rose) (h:qNe s.data.toList=true) (ha:Fine np a):Fine np (.mk (6,0,0,s) [a])
 |look (k:Int) (s:ByteArray) (hk:k=7∨k=8) (h:qNe s.data.toList=true):Fine np (.mk (k,0,0,s) [])
 |env (s:ByteArray) (h:qPo s=true):Fine np (.mk (9,0,0,s) [])
 |flip (n:Nat) (h:n<64):Fine np (.mk (10,(n:Int),0,emB) [])
theorem zUj{np:Nat}(t:Rose):∀b,(∀x∈t.flat b,qNa (np:Int) x=true)→Fine np t:=by
 refine zRk (P:=fun t=>∀b,(∀x∈t.flat b,qNa (np:Int) x=true)→Fine np t) ?_ t
 intro hd ks ih b hv
 have hn:qNa (np:Int) (qJu hd (qDh b ks))=true:=hv _ (by unfold Rose.flat;exact kI _ (kO.2 rfl))
 have hks:∀t∈ks,Fine np t:=by
  have hvs:∀x∈qHv b ks,qNa (np:Int) x=true:=fun x hx=>hv x (by unfold Rose.flat;exact kA _ hx)
  clear hv hn
  induction ks generalizing b with
  |nil=>intro t ht;cases ht
  |cons a l ihl=>
   intro t ht
   rcases jR.1 ht with rfl|ht
   ·exact ih t (jJ ..) b fun x hx=>hvs x (by unfold qHv;exact kA _ hx)
   ·exact ihl (fun u hu=>ih u (jL _ hu)) (b+a.size) (fun x hx=>hvs x (by unfold qHv;exact kI _ hx)) t ht
 obtain⟨k,n,o,s⟩:=hd
 have hlen:(qJu (k,n,o,s) (qDh b ks)).2.2.2.2.length=ks.length:=qKf ks b
 rcases qXq hn with ⟨h1,h2,h3,h4,h5,h6⟩|⟨h1,h2,h3,h4,h5,h6⟩|⟨h1,h2,h3,h4⟩|⟨h1,h2,h3,h4,h5,h6⟩|⟨h1,h2,h3,h4,h5⟩|⟨h1,h2,h3,h4,h5⟩|⟨h1,h2,h3,h4,h5⟩|⟨h1,h2,h3,h4,h5⟩|⟨h1,h2,h3,h4,h5,h6⟩
 ·have h1:k=1:=h1
  have h5:o=0:=h5
  have h6:s=emB:=h6
  rw[hlen] at h2
  obtain rfl:=kW.1 h2
  subst h1 h5 h6
  exact .num n h3 h4
 ·have h1:k=2:=h1
  have h5:o=0:=h5
  have h6:s=emB:=h6
  have h3:0≤n:=h3
  have h4:n<(np:Int):=h4
  rw[hlen] at h2
  obtain rfl:=kW.1 h2
  subst h1 h5 h6
  obtain⟨i,rfl⟩:∃i:Nat,n=(i:Int):=⟨n.toNat,by omega⟩
  exact .par i (by omega)
 ·have h1:k=3:=h1
  have h3:n=0:=h3
  have h4:o=0:=h4
  subst h1 h3 h4
  exact .call s ks h2 hks
 ·have h1:k=4:=h1
  have h5:n=0:=h5
  have h6:s=emB:=h6
  rw[hlen] at h2
  subst h1 h5 h6
  match ks,h2,hks with
  |[a,c],_,hks=>exact .bin o a c h3 h4 (hks a (by simp)) (hks c (by simp))
 ·have h1:k=5:=h1
  have h3:n=0:=h3
  have h4:o=0:=h4
  have h5:s=emB:=h5
  rw[hlen] at h2
  subst h1 h3 h4 h5
  match ks,h2,hks with
  |[a,c,d],_,hks=>exact .ite a c d (hks a (by simp)) (hks c (by simp)) (hks d (by simp))
 ·have h1:k=6:=h1
  have h4:n=0:=h4
  have h5:o=0:=h5
  rw[hlen] at h2
  subst h1 h4 h5
  match ks,h2,hks with
  |[a],_,hks=>exact .read s a h3 (hks a (by simp))
 ·have h1:k=7∨k=8:=h1
  have h4:n=0:=h4
  have h5:o=0:=h5
  rw[hlen] at h2
  obtain rfl:=kW.1 h2
  subst h4 h5
  exact .look k s h1 h3
 ·have h1:k=9:=h1
  have h4:n=0:=h4
  have h5:o=0:=h5
  rw[hlen] at h2
  obtain rfl:=kW.1 h2
  subst h1 h4 h5
  exact .env s h3
 ·have h1:k=10:=h1
  have h3:0≤n:=h3
  have h4:n<64:=h4
  have h5:o=0:=h5
  have h6:s=emB:=h6
  rw[hlen] at h2
  obtain rfl:=kW.1 h2
  subst h1 h5 h6
  obtain⟨i,rfl⟩:∃i:Nat,n=(i:Int):=⟨n.toNat,by omega⟩
  exact .flip i (by omega)
abbrev Pf:=List UInt8→List Pc
def sgP(l:List UInt8)(bl:List UInt8):Pc:=((4,l),bl)
def wdP(l:List UInt8)(bl:List UInt8):Pc:=((1,l),bl)
def txP(l:List UInt8)(bl:List UInt8):Pc:=((3,l),bl)
def qWr(n:Int)(bl:List UInt8):List Pc:=if n<0 then[sgP [45] [],((2,Lib.decDigits n.natAbs),bl)] else[((2,Lib.decDigits n.toNat),bl)]
def qLh:Nat→List Pf→List Pc
 |_,[]=>[]
 |k,w::ws=>(if k=0 then[] else[sgP [44] [32]])++(w []++qLh (k+1) ws)
def wIf:List UInt8:=[105,102]
def zMz:List UInt8:=[116,104,101,110]
def zMg:List UInt8:=[101,108,115,101]
def zLu:List UInt8:=[114,101,97,100]
def zFd:List UInt8:=[102,108,105,112]
def noF:Pf:=fun _=>[]
def qOl(ps:List ByteArray)(h:Hd)(ws:List Pf)(bl:List UInt8):List Pc:=
 if h.1=1 then qWr h.2.1 bl
 else if h.1=2 then[wdP (ps.getD h.2.1.toNat ⟨#[]⟩).data.toList bl]
 else if h.1=4 then(ws.getD 0 noF) [32]++(sgP (qUh h.2.2.1).data.toList [32]::(ws.getD 1 noF) bl)
 else if h.1=5 then wdP wIf [32]::((ws.getD 0 noF) [32]++(wdP zMz [32]::((ws.getD 1 noF) [32]++(wdP zMg [32]::(ws.getD 2 noF) bl))))
 else if h.1=3 then wdP h.2.2.2.data.toList []::sgP [40] []::(qLh 0 ws++[sgP [41] bl])
 else if h.1=6 then wdP zLu []::sgP [40] []::txP h.2.2.2.data.toList []::sgP [44] [32]::((ws.getD 0 noF) []++[sgP [41] bl])
 else if h.1=10 then wdP zFd []::sgP [40] []::(qWr h.2.1 []++[sgP [41] bl])
 else[wdP (qSc h.1).data.toList [],sgP [40] [],txP h.2.2.2.data.toList [],sgP [41] bl]
mutual
def Rose.pc(ps:List ByteArray)(need:Int)(bl:List UInt8):Rose→List Pc
 | .mk h ks=>if lvH h<need then sgP [40] []::(qOl ps h (pcs ps h 0 ks) []++[sgP [41] bl]) else qOl ps h (pcs ps h 0 ks) bl
def pcs(ps:List ByteArray)(h:Hd)(k:Nat):List Rose→List Pf
 |[]=>[]
 |t::l=>(fun bl=>t.pc ps (qIi h k) bl)::pcs ps h (k+1) l
end
theorem qJh:∀(a b:List Pc),qDb (a++b)=qDb a++qDb b
 |[],_=>rfl
 |p::a,b=>by simp only[jP,qDb,qJh a b,jE]
theorem qEt(c:Ct)(bl:List UInt8)(l:List Pc):qDb ((c,bl)::l)=qMq c++(bl++qDb l):=rfl
theorem by1(l:List UInt8):qMq (1,l)=l:=qNi (by decide)
theorem by2(l:List UInt8):qMq (2,l)=l:=qNi (by decide)
theorem by4(l:List UInt8):qMq (4,l)=l:=qNi (by decide)
theorem by3(l:List UInt8):qMq (3,l)=34::(l++[34]):=if_pos rfl
theorem itB_l(n:Int):(itB n).data.toList=Lib.itoa n:=rfl
theorem zCx(n:Int)(bl:List UInt8):qDb (qWr n bl)=(itB n).data.toList++bl:=by
 rw[itB_l]
 unfold qWr Lib.itoa
 split
 ·simp only[sgP,qEt,qDb,by4,by2,jY,jQ,jP]
 ·simp only[qEt,qDb,by2,jY]
theorem qYb{a:Array UInt8}:(⟨a⟩:ByteArray).data.toList=a.toList:=rfl
theorem body_0(ps:List ByteArray)(h:Hd)(ks:List Rose)(need:Int):(Rose.mk h ks).wr ps need=if lvH h<need then 40::(qJq ps h (wrs ps h 0 ks)++[41]) else qJq ps h (wrs ps h 0 ks):=by unfold Rose.wr;rfl
theorem pc_0(ps:List ByteArray)(h:Hd)(ks:List Rose)(need:Int)(bl:List UInt8):(Rose.mk h ks).pc ps need bl=if lvH h<need then sgP [40] []::(qOl ps h (pcs ps h 0 ks) []++[sgP [41] bl]) else qOl ps h (pcs ps h 0 ks) bl:=by unfold Rose.pc;rfl
theorem qLw{ps:List ByteArray}{h:Hd}{ks:List Rose}(hb:∀bl,qDb (qOl ps h (pcs ps h 0 ks) bl)=qJq ps h (wrs ps h 0 ks)++bl)(need:Int)(bl:List UInt8):qDb ((Rose.mk h ks).pc ps need bl)=(Rose.mk h ks).wr ps need++bl:=by
 rw[body_0,pc_0]
 split
 ·simp only[sgP,qEt,qJh,hb,by4,qDb,jY,jQ,jP,jE]
 ·exact hb bl
theorem qZt(ps:List ByteArray)(h:Hd):∀(ks:List Rose) (k:Nat),(∀t∈ks,∀need bl,qDb (t.pc ps need bl)=t.wr ps need++bl)→qDb (qLh k (pcs ps h k ks))=qNl k (wrs ps h k ks)
 |[],_,_=>rfl
 |t::ks,k,hk=>by
  have ih:=qZt ps h ks (k+1) fun u hu=>hk u (jL _ hu)
  simp only[pcs,wrs,qLh,qNl,qJh,ih,hk t (jJ ..),jY]
  congr 1
  unfold sepK
  split
  ·rfl
  ·rfl
theorem zPo{ps:List ByteArray}{np:Nat}{t:Rose}(hf:Fine np t):∀need bl,qDb (t.pc ps need bl)=t.wr ps need++bl:=by
 induction hf with
 |num n h0 h1=>exact qLw fun bl=>zCx n bl
 |par i h=>
  exact qLw fun bl=>by
   show qDb [wdP _ bl]=_++bl
   simp only[wdP,qEt,qDb,by1,jY]
   rfl
 |call s ks h hk ih=>
  exact qLw fun bl=>by
   show qDb (wdP s.data.toList []::sgP [40] []::(qLh 0 (pcs ps (3,0,0,s) 0 ks)++[sgP [41] bl]))=((s++(⟨#[40]⟩:ByteArray)).data.toList++(qNl 0 (wrs ps (3,0,0,s) 0 ks)++[41]))++bl
   simp only[wdP,sgP,qEt,qJh,qZt ps _ ks 0 ih,by1,by4,qDb,qFo,qYb,jY,jQ,jE,jP]
 |bin op a b h0 h1 ha hb iha ihb=>
  exact qLw fun bl=>by
   show qDb (a.pc ps (qIi (4,0,op,emB) 0) [32]++(sgP (qUh op).data.toList [32]::b.pc ps (qIi (4,0,op,emB) 1) bl))=(a.wr ps (qIi (4,0,op,emB) 0)++((((⟨#[32]⟩:ByteArray)++qUh op)++(⟨#[32]⟩:ByteArray)).data.toList++b.wr ps (qIi (4,0,op,emB) 1)))++bl
   simp only[sgP,qJh,qEt,iha,ihb,by4,qFo,qYb,jE,jP,jQ]
 |ite a b c ha hb hc iha ihb ihc=>
  exact qLw fun bl=>by
   show qDb (wdP wIf [32]::(a.pc ps 0 [32]++(wdP zMz [32]::(b.pc ps 0 [32]++(wdP zMg [32]::c.pc ps 0 bl)))))=(tI++(a.wr ps 0++(tThen++(b.wr ps 0++(tElse++c.wr ps 0)))))++bl
   simp only[wdP,qEt,qJh,iha,ihb,ihc,by1,wIf,zMz,zMg,tI,tThen,tElse,jE,jP,jQ]
 |read s a h ha iha=>
  exact qLw fun bl=>by
   show qDb (wdP zLu []::sgP [40] []::txP s.data.toList []::sgP [44] [32]::(a.pc ps 0 []++[sgP [41] bl]))=((((⟨#[114,101,97,100,40,34]⟩:ByteArray)++s)++(⟨#[34,44,32]⟩:ByteArray)).data.toList++(a.wr ps 0++[41]))++bl
   simp only[wdP,sgP,txP,qEt,qJh,iha,by1,by3,by4,zLu,qDb,qFo,qYb,jY,jQ,jE,jP]
 |look k s hk h=>
  exact qLw fun bl=>by
   rcases hk with rfl|rfl
   ·show qDb [wdP (qSc 7).data.toList [],sgP [40] [],txP s.data.toList [],sgP [41] bl]=((((qSc 7++(⟨#[40,34]⟩:ByteArray))++s)++(⟨#[34,41]⟩:ByteArray)).data.toList)++bl
    simp only[wdP,sgP,txP,qEt,by1,by3,by4,qDb,qFo,qYb,jY,jQ,jE,jP]
   ·show qDb [wdP (qSc 8).data.toList [],sgP [40] [],txP s.data.toList [],sgP [41] bl]=((((qSc 8++(⟨#[40,34]⟩:ByteArray))++s)++(⟨#[34,41]⟩:ByteArray)).data.toList)++bl
    simp only[wdP,sgP,txP,qEt,by1,by3,by4,qDb,qFo,qYb,jY,jQ,jE,jP]
 |env s h=>
  exact qLw fun bl=>by
   show qDb [wdP (qSc 9).data.toList [],sgP [40] [],txP s.data.toList [],sgP [41] bl]=((((qSc 9++(⟨#[40,34]⟩:ByteArray))++s)++(⟨#[34,41]⟩:ByteArray)).data.toList)++bl
   simp only[wdP,sgP,txP,qEt,by1,by3,by4,qDb,qFo,qYb,jY,jQ,jE,jP]
 |flip n h=>
  exact qLw fun bl=>by
   show qDb (wdP zFd []::sgP [40] []::(qWr (n:Int) []++[sgP [41] bl]))=((((⟨#[102,108,105,112,40]⟩:ByteArray)++itB (n:Int))++(⟨#[41]⟩:ByteArray)).data.toList)++bl
   simp only[wdP,sgP,qEt,qJh,zCx,by1,by4,zFd,qDb,qFo,qYb,jY,jQ,jE,jP]
end
section
open Go Go.Dc Go.Proofs
theorem zSy{p:UInt8→Bool}:∀{l:List UInt8} (x:UInt8),x∈l.takeWhile p→p x=true
 |[],_,h=>by cases h
 |y::l,x,h=>by
  rw[List.takeWhile_cons] at h
  split at h
  ·rename_i hy
   rcases jR.1 h with rfl|h
   ·exact hy
   ·exact zSy x h
  ·cases h
theorem zGq{s:ByteArray}(h:qPo s=true):(∃x l,s.data.toList=x::l∧kd x=1)∧(∀x∈s.data.toList,inK [1,2,3] x=true)∧s.data.toList.length≤24:=by
 unfold qPo at h
 obtain⟨h1,h2,h3,h4⟩:=gN h
 refine⟨?_,?_,h2⟩
 ·cases hs:s.data.toList with
  |nil=>rw[hs] at h1;cases h1
  |cons x l=>rw[hs] at h3;exact⟨x,l,rfl,h3⟩
 ·unfold tw at h4
  rw[k0,kK] at h4
  have h5:s.data.toList.takeWhile (inK [1,2,3])=s.data.toList:=(fW _).eq_of_length h4
  intro x hx
  rw[←h5] at hx
  exact zSy x hx
theorem qTh{s:ByteArray}(h:qPo s=true):okC (1,s.data.toList):=by
 obtain⟨h1,h2,h3⟩:=zGq h
 exact .inl ⟨rfl,h1,h2,h3⟩
theorem qPi{s:ByteArray}(h:qDo s=true):qPo s=true:=by
 unfold qDo at h
 simp only[jO] at h
 exact h.1
theorem cls:(List.range 256).all (fun i=>(!inK [1,2,3,4] (UInt8.ofNat i)||(qPs (UInt8.ofNat i)&&decide (i≠61)))&&(decide (i≠47)||qPs (UInt8.ofNat i)))=true:=by kernel_rfl
theorem zJr{x:UInt8}(h:inK [1,2,3,4] x=true∨x=47):qPs x=true∧x≠61:=by
 have:=kD.1 cls x.toNat (fI.2 x.toNat_lt)
 have e:UInt8.ofNat x.toNat=x:=by simp
 rw[e] at this
 simp only[jO,hU,dD,jA] at this
 rcases h with h|rfl
 ·rcases this.1 with g|⟨g1,g2⟩
  ·rw[h] at g;cases g
  ·exact⟨g1,fun e=>g2 (by rw[e];rfl)⟩
 ·exact⟨by kernel_rfl,by decide⟩
theorem sp_mem:∀{l:List UInt8} {x:UInt8},x∈l→x=47∨∃p∈sp l,x∈p:=by
 intro l
 induction l with
 |nil=>intro x hx;cases hx
 |cons y l ih=>
  intro x hx
  by_cases hy:y=47
  ·rcases jR.1 hx with rfl|hx
   ·exact .inl hy
   ·rcases ih hx with g|⟨p,h1,h2⟩
    ·exact .inl g
    ·refine .inr ⟨p,?_,h2⟩
     unfold sp
     rw[if_pos hy]
     exact jL _ h1
  ·cases hs:sp l with
   |nil=>exact absurd hs (zId l)
   |cons q r=>
    rcases jR.1 hx with rfl|hx
    ·refine .inr ⟨x::q,?_,jJ ..⟩
     unfold sp
     rw[if_neg hy,hs]
     exact jJ ..
    ·rcases ih hx with g|⟨p,h1,h2⟩
     ·exact .inl g
     ·rw[hs] at h1
      rcases jR.1 h1 with rfl|h1
      ·refine .inr ⟨y::p,?_,jL _ h2⟩
       unfold sp
       rw[if_neg hy,hs]
       exact jJ ..
      ·refine .inr ⟨p,?_,h2⟩
       unfold sp
       rw[if_neg hy,hs]
       exact jL _ h1
theorem zEv{l:List UInt8}(h:qNe l=true):(∀x∈l,qPs x=true)∧l≠[61]:=by
 unfold qNe at h
 obtain⟨-,-,h3⟩:=gN h
 have key:∀x∈l,qPs x=true∧x≠61:=fun x hx=>by
  rcases sp_mem hx with g|⟨p,h1,h2⟩
  ·exact zJr (.inr g)
  ·exact zJr (.inl ((h3 p h1).2.2 x h2))
 exact⟨fun x hx=>(key x hx).1,fun e=>(key 61 (by rw[e];exact jJ ..)).2 rfl⟩
theorem zSl{s:ByteArray}(h:qPo s=true):(∀x∈s.data.toList,qPs x=true)∧s.data.toList≠[61]:=by
 obtain⟨-,h2,-⟩:=zGq h
 have key:∀x∈s.data.toList,qPs x=true∧x≠61:=fun x hx=>by
  refine zJr (.inl ?_)
  have:=h2 x hx
  unfold inK at this ⊢
  simp only[fH,List.any_nil,Bool.or_false,hU] at this ⊢
  rcases this with g|g|g
  ·exact .inl g
  ·exact .inr (.inl g)
  ·exact .inr (.inr (.inl g))
 exact⟨fun x hx=>(key x hx).1,fun e=>(key 61 (by rw[e];exact jJ ..)).2 rfl⟩
def qVw(l:List UInt8):Bool:=match l with|[]=>true|x::_=> !inK [1,2,3] x
theorem zKj{l:List UInt8}(h:qVw l=true):∀x r,l=x::r→inK [1,2,3] x=false:=fun x r e=>by
 subst e
 simpa[qVw] using h
theorem zRu{l:List UInt8}(h:qVw l=true):∀x r,l=x::r→inK [2] x=false:=fun x r e=>by
 have:=zKj h x r e
 unfold inK at this ⊢
 simp only[fH,List.any_nil,Bool.or_false,kU] at this ⊢
 exact this.2.1
def blP(bl:List UInt8):Prop:=∀x∈bl,inK [5] x=true
theorem blP0:blP []:=fun x h=>by cases h
theorem blP1:blP [32]:=fun x h=>by rw[kO.1 h];kernel_rfl
theorem gdW{l bl:List UInt8}{rest:List Pc}(hw:okC (1,l))(hb:blP bl)(hs:qVw (bl++qDb rest)=true)(hg:qLq rest):qLq (wdP l bl::rest):=
 ⟨hw,hb,fun x r h=>by
  have:=zKj hs x r h
  show(if(1:Int)=1 then !inK [1,2,3] x else _)=true
  rw[if_pos rfl,this];rfl,hg⟩
theorem gdN{n:Nat}{bl:List UInt8}{rest:List Pc}(hn:n≤9007199254740992)(hb:blP bl)(hs:qVw (bl++qDb rest)=true)(hg:qLq rest):qLq (((2,Lib.decDigits n),bl)::rest):=
 ⟨.inr (.inl ⟨rfl,zSw n,zNh n,by
  have:=zKf n hn
  show numL (Lib.decDigits n)≤_
  omega⟩),hb,fun x r h=>by
  have:=zRu hs x r h
  show(if(2:Int)=1 then _ else if(2:Int)=2 then !inK [2] x else _)=true
  rw[if_neg (by decide),if_pos rfl,this];rfl,hg⟩
theorem gdS{l bl:List UInt8}{rest:List Pc}(hl:l∈zOy)(h61:l≠[61])(hb:blP bl)(hg:qLq rest):qLq (sgP l bl::rest):=
 ⟨.inr (.inr (.inr ⟨rfl,hl⟩)),hb,fun x r _=>by
  show(if(4:Int)=1 then _ else if(4:Int)=2 then _ else if l=[61] then _ else true)=true
  rw[if_neg (by decide),if_neg (by decide),if_neg h61],hg⟩
theorem gdT{l bl:List UInt8}{rest:List Pc}(hl:∀x∈l,qPs x=true)(h61:l≠[61])(hb:blP bl)(hg:qLq rest):qLq (txP l bl::rest):=
 ⟨.inr (.inr (.inl ⟨rfl,hl⟩)),hb,fun x r _=>by
  show(if(3:Int)=1 then _ else if(3:Int)=2 then _ else if l=[61] then _ else true)=true
  rw[if_neg (by decide),if_neg (by decide),if_neg h61],hg⟩
theorem gdNum{n:Int}{bl:List UInt8}{rest:List Pc}(h0: -9007199254740992≤n)(h1:n≤9007199254740992)(hb:blP bl)(hs:qVw (bl++qDb rest)=true)(hg:qLq rest):qLq (qWr n bl++rest):=by
 unfold qWr
 split
 ·exact gdS (by decide) (by decide) blP0 (gdN (by omega) hb hs hg)
 ·exact gdN (by omega) hb hs hg
theorem zVf{op:Int}(h0:1≤op)(h1:op≤7):(qUh op).data.toList∈zOy∧(qUh op).data.toList≠[61]:=by
 rcases(by omega:op=1∨op=2∨op=3∨op=4∨op=5∨op=6∨op=7) with rfl|rfl|rfl|rfl|rfl|rfl|rfl<;>decide+kernel
def GdP(ps:List ByteArray)(t:Rose):Prop:=∀need bl rest,blP bl→qVw (bl++qDb rest)=true→qLq rest→qLq (t.pc ps need bl++rest)
theorem qRq{ps:List ByteArray}{h:Hd}{ks:List Rose}(hb:∀bl rest,blP bl→qVw (bl++qDb rest)=true→qLq rest→qLq (qOl ps h (pcs ps h 0 ks) bl++rest)):GdP ps (.mk h ks):=by
 intro need bl rest h1 h2 h3
 rw[pc_0]
 split
 ·rw[jP,jE]
  exact gdS (by decide) (by decide) blP0 (hb [] _ blP0 (by kernel_rfl) (gdS (by decide) (by decide) h1 h3))
 ·exact hb bl rest h1 h2 h3
theorem zOp{ws:List Pf}{k:Nat}{rest:List Pc}(hs:qVw (qDb rest)=true):qVw (qDb (qLh (k+1) ws++rest))=true:=by
 cases ws with
 |nil=>exact hs
 |cons w ws=>
  show qVw (qDb (((if k+1=0 then[] else[sgP [44] [32]])++(w []++qLh (k+1+1) ws))++rest))=true
  rw[if_neg (by omega)]
  kernel_rfl
theorem zPl{ps:List ByteArray}{h:Hd}:∀(ks:List Rose) (k:Nat) (rest:List Pc),(∀t∈ks,GdP ps t)→qVw (qDb rest)=true→qLq rest→qLq (qLh k (pcs ps h k ks)++rest)
 |[],_,_,_,_,hg=>hg
 |t::ks,k,rest,hk,hs,hg=>by
  have ih:=zPl (h:=h) ks (k+1) rest (fun u hu=>hk u (jL _ hu)) hs hg
  show qLq (((if k=0 then[] else[sgP [44] [32]])++(t.pc ps (qIi h k) []++qLh (k+1) (pcs ps h (k+1) ks)))++rest)
  rw[jE,jE]
  have h1:=hk t (jJ ..) (qIi h k) [] (qLh (k+1) (pcs ps h (k+1) ks)++rest) blP0 (zOp hs) ih
  split
  ·exact h1
  ·exact gdS (by decide) (by decide) blP1 h1
theorem okIf:okC (1,wIf):= .inl ⟨rfl,⟨105,_,rfl,by kernel_rfl⟩,by decide+kernel,by decide⟩
theorem okThen:okC (1,zMz):= .inl ⟨rfl,⟨116,_,rfl,by kernel_rfl⟩,by decide+kernel,by decide⟩
theorem okElse:okC (1,zMg):= .inl ⟨rfl,⟨101,_,rfl,by kernel_rfl⟩,by decide+kernel,by decide⟩
theorem okRead:okC (1,zLu):= .inl ⟨rfl,⟨114,_,rfl,by kernel_rfl⟩,by decide+kernel,by decide⟩
theorem okFlip:okC (1,zFd):= .inl ⟨rfl,⟨102,_,rfl,by kernel_rfl⟩,by decide+kernel,by decide⟩
theorem okSize:okC (1,(qSc 7).data.toList):= .inl ⟨rfl,⟨115,_,rfl,by kernel_rfl⟩,by decide+kernel,by decide⟩
theorem okHas:okC (1,(qSc 8).data.toList):= .inl ⟨rfl,⟨104,_,rfl,by kernel_rfl⟩,by decide+kernel,by decide⟩
theorem okEnv:okC (1,(qSc 9).data.toList):= .inl ⟨rfl,⟨101,_,rfl,by kernel_rfl⟩,by decide+kernel,by decide⟩
theorem zUm{ps:List ByteArray}(hps:∀s∈ps,qPo s=true){t:Rose}(hf:Fine ps.length t):GdP ps t:=by
 induction hf with
 |num n h0 h1=>exact qRq fun bl rest b1 b2 b3=>gdNum h0 h1 b1 b2 b3
 |par i h=>
  refine qRq fun bl rest b1 b2 b3=>gdW (qTh (hps _ ?_)) b1 b2 b3
  show ps.getD ((i:Int)).toNat ⟨#[]⟩∈ps
  rw[jS,k9,List.getElem?_eq_getElem h]
  exact jW h
 |call s ks h hk ih=>
  refine qRq fun bl rest b1 b2 b3=> ?_
  show qLq (wdP s.data.toList []::sgP [40] []::((qLh 0 (pcs ps (3,0,0,s) 0 ks)++[sgP [41] bl])++rest))
  rw[jE]
  exact gdW (qTh (qPi h)) blP0 (by kernel_rfl) (gdS (by decide) (by decide) blP0 (zPl ks 0 _ ih (by kernel_rfl) (gdS (by decide) (by decide) b1 b3)))
 |bin op a b h0 h1 ha hb iha ihb=>
  refine qRq fun bl rest b1 b2 b3=> ?_
  show qLq ((a.pc ps (qIi (4,0,op,emB) 0) [32]++(sgP (qUh op).data.toList [32]::b.pc ps (qIi (4,0,op,emB) 1) bl))++rest)
  rw[jE,jP]
  obtain⟨s1,s2⟩:=zVf h0 h1
  exact iha _ _ _ blP1 (by kernel_rfl) (gdS s1 s2 blP1 (ihb _ _ _ b1 b2 b3))
 |ite a b c ha hb hc iha ihb ihc=>
  refine qRq fun bl rest b1 b2 b3=> ?_
  show qLq (wdP wIf [32]::((a.pc ps 0 [32]++(wdP zMz [32]::(b.pc ps 0 [32]++(wdP zMg [32]::c.pc ps 0 bl))))++rest))
  rw[jE,jP,jE,jP]
  exact gdW okIf blP1 (by kernel_rfl) (iha _ _ _ blP1 (by kernel_rfl) (gdW okThen blP1 (by kernel_rfl) (ihb _ _ _ blP1 (by kernel_rfl) (gdW okElse blP1 (by kernel_rfl) (ihc _ _ _ b1 b2 b3)))))
 |read s a h ha iha=>
  refine qRq fun bl rest b1 b2 b3=> ?_
  show qLq (wdP zLu []::sgP [40] []::txP s.data.toList []::sgP [44] [32]::((a.pc ps 0 []++[sgP [41] bl])++rest))
  rw[jE]
  obtain⟨p1,p2⟩:=zEv h
  exact gdW okRead blP0 (by kernel_rfl) (gdS (by decide) (by decide) blP0 (gdT p1 p2 blP0 (gdS (by decide) (by decide) blP1 (iha _ _ _ blP0 (by kernel_rfl) (gdS (by decide) (by decide) b1 b3)))))
 |look k s hk h=>
  obtain⟨p1,p2⟩:=zEv h
  rcases hk with rfl|rfl
  ·exact qRq fun bl rest b1 b2 b3=>gdW okSize blP0 (by kernel_rfl) (gdS (by decide) (by decide) blP0 (gdT p1 p2 blP0 (gdS (by decide) (by decide) b1 b3)))
  ·exact qRq fun bl rest b1 b2 b3=>gdW okHas blP0 (by kernel_rfl) (gdS (by decide) (by decide) blP0 (gdT p1 p2 blP0 (gdS (by decide) (by decide) b1 b3)))
 |env s h=>
  obtain⟨p1,p2⟩:=zSl h
  exact qRq fun bl rest b1 b2 b3=>gdW okEnv blP0 (by kernel_rfl) (gdS (by decide) (by decide) blP0 (gdT p1 p2 blP0 (gdS (by decide) (by decide) b1 b3)))
 |flip n h=>
  refine qRq fun bl rest b1 b2 b3=> ?_
  show qLq (wdP zFd []::sgP [40] []::((qWr (n:Int) []++[sgP [41] bl])++rest))
  rw[jE]
  exact gdW okFlip blP0 (by kernel_rfl) (gdS (by decide) (by decide) blP0 (gdNum (by omega) (by omega) blP0 (by kernel_rfl) (gdS (by decide) (by decide) b1 b3)))
end
section
open Go Go.Dc Go.Proofs
def corP(l:List Pc):List Core:=l.map fun p=>qJp p.1
theorem qZe(a b:List Pc):corP (a++b)=corP a++corP b:=gW ..
def Seg(ts:List Tok):Nat→List Core→Prop
 |_,[]=>True
 |i,c::cs=>qIz (tkAt ts i)=c∧Seg ts (i+1) cs
theorem qWu{ts:List Tok}:∀{a b:List Core} {i:Nat},Seg ts i (a++b)↔Seg ts i a∧Seg ts (i+a.length) b
 |[],b,i=>by simp[Seg]
 |c::a,b,i=>by
  have ih:=qWu (ts:=ts) (a:=a) (b:=b) (i:=i+1)
  simp only[jP,Seg,ih,jD,and_assoc]
  rw[show i+1+a.length=i+(a.length+1) by omega]
theorem qRp{ts:List Tok}{a b:List Pc}{i:Nat}(h:Seg ts i (corP (a++b))):Seg ts i (corP a)∧Seg ts (i+a.length) (corP b):=by
 rw[qZe,qWu] at h
 have:(corP a).length=a.length:=gD ..
 rw[this] at h
 exact h
section
variable {ts:List Tok} {ps:List ByteArray} {i:Nat}
theorem qQk{c:Core}(h:qIz (tkAt ts i)=c)(k:Int)(s:ByteArray):isC ts k s i=(c.1==k&&decide (c.2.1=s)):=by
 subst h;rfl
theorem tk1{c:Core}(h:qIz (tkAt ts i)=c):(tkAt ts i).1=c.1:=congrArg (fun x=>x.1) h
theorem tk2{c:Core}(h:qIz (tkAt ts i)=c):(tkAt ts i).2.1=c.2.1:=congrArg (fun x=>x.2.1) h
theorem tk3{c:Core}(h:qIz (tkAt ts i)=c):(tkAt ts i).2.2.1=c.2.2:=congrArg (fun x=>x.2.2) h
def opK(c:Core)(level:Nat):Int:=
 match opsC.find? (fun o=>(c.1==4&&decide (c.2.1=o.2))&&decide (levP o.1=level)) with
 |some o=>o.1
 |none=>0
theorem zTa{c:Core}(h:qIz (tkAt ts i)=c)(level:Nat):opC ts level i=opK c level:=by
 subst h;rfl
theorem qXd{l:List UInt8}(h:qIz (tkAt ts i)=qJp (4,l)):qIz (tkAt ts i)=(4,⟨⟨l⟩⟩,0):=h
theorem qFp{l:List UInt8}(h:qIz (tkAt ts i)=qJp (1,l)):qIz (tkAt ts i)=(1,⟨⟨l⟩⟩,0):=h
theorem qRb{l:List UInt8}(h:qIz (tkAt ts i)=qJp (3,l)):qIz (tkAt ts i)=(3,⟨⟨l⟩⟩,0):=h
theorem qZc{n:Nat}(hn:n≤9007199254740992)(h:qIz (tkAt ts i)=qJp (2,Lib.decDigits n)):qIz (tkAt ts i)=(2,⟨#[]⟩,(n:Int)):=by
 rw[h]
 unfold qJp
 rw[if_pos rfl,if_pos rfl,zKf n hn]
theorem qJj{l:List UInt8}(h:qIz (tkAt ts i)=qJp (4,l)){s:ByteArray}(hs:(⟨⟨l⟩⟩:ByteArray)=s):qEx ts s i= .inr (i+1):=by
 unfold qEx
 rw[qQk (qXd h),jZ hs]
 rfl
theorem zDs{l:List UInt8}(h:qIz (tkAt ts i)=qJp (1,l)){s:ByteArray}(hs:(⟨⟨l⟩⟩:ByteArray)=s):qWh ts s i= .inr (i+1):=by
 unfold qWh
 rw[qQk (qFp h),jZ hs]
 rfl
theorem qUt{l:List UInt8}(h:qIz (tkAt ts i)=qJp (4,l)){s:ByteArray}(hs:(⟨⟨l⟩⟩:ByteArray)≠s):isC ts 4 s i=false:=by
 rw[qQk (qXd h),jX hs];rfl
theorem qPd{l:List UInt8}(h:qIz (tkAt ts i)=qJp (4,l)){s:ByteArray}(hs:(⟨⟨l⟩⟩:ByteArray)=s):isC ts 4 s i=true:=by
 rw[qQk (qXd h),jZ hs];rfl
def NextOk(n:Nat)(ts:List Tok)(i:Nat):Prop:=i<ts.length∧isC ts 4 qNf i=false∧∀L,n≤L→1≤L→L≤3→opC ts L i=0
theorem NextOk.up{n m:Nat}(h:NextOk n ts i)(hnm:n≤m):NextOk m ts i:=⟨h.1,h.2.1,fun L h1=>h.2.2 L (by omega)⟩
def endL:List Core:=[(4,⟨#[41]⟩,0),(4,⟨#[44]⟩,0),(4,⟨#[59]⟩,0),(1,⟨#[116,104,101,110]⟩,0),(1,⟨#[101,108,115,101]⟩,0)]
theorem qTg{c:Core}(hc:c∈endL)(h:qIz (tkAt ts i)=c)(hi:i<ts.length)(n:Nat):NextOk n ts i:=by
 simp only[endL,jR,gE,dH] at hc
 refine⟨hi,?_,fun L _ h1 h3=> ?_⟩
 ·rw[qQk h]
  rcases hc with rfl|rfl|rfl|rfl|rfl<;>decide+kernel
 ·rw[zTa h]
  rcases(by omega:L=1∨L=2∨L=3) with rfl|rfl|rfl<;>rcases hc with rfl|rfl|rfl|rfl|rfl<;>decide+kernel
theorem zPt{op:Int}(h0:1≤op)(h1:op≤7)(h:qIz (tkAt ts i)=qJp (4,(qUh op).data.toList)):isC ts 4 qNf i=false∧∀L,1≤L→L≤3→opC ts L i=if levP op=L then op else 0:=by
 rw[qQk h]
 refine⟨?_,fun L l1 l3=> ?_⟩
 ·rcases(by omega:op=1∨op=2∨op=3∨op=4∨op=5∨op=6∨op=7) with rfl|rfl|rfl|rfl|rfl|rfl|rfl<;>decide+kernel
 ·rw[zTa h]
  rcases(by omega:L=1∨L=2∨L=3) with rfl|rfl|rfl<;>rcases(by omega:op=1∨op=2∨op=3∨op=4∨op=5∨op=6∨op=7) with rfl|rfl|rfl|rfl|rfl|rfl|rfl<;>decide+kernel
def Res{α:Type}(x:Flt⊕α)(g:Prop)(v:α):Prop:=(g→x= .inr v)∧(¬g→∃z,x= .inl (z,2))
theorem Res.bind{α β:Type}{x:Flt⊕α}{g g' G:Prop}{v:α}{f:α→Flt⊕β}{v':β}(h:Res x g v)(h2:g→Res (f v) g' v')(hG:G↔g∧g'):Res (qBq x f) G v':=by
 constructor
 ·intro hg
  obtain⟨a,b⟩:=hG.1 hg
  rw[h.1 a]
  exact(h2 a).1 b
 ·intro hn
  by_cases a:g
  ·rw[h.1 a]
   exact(h2 a).2 fun b=>hn (hG.2 ⟨a,b⟩)
  ·obtain⟨z,hz⟩:=h.2 a
   exact⟨z,by rw[hz];rfl⟩
theorem Res.pure{α:Type}{x:Flt⊕α}{g:Prop}{v:α}(hg:g)(h:x= .inr v):Res x g v:=⟨fun _=>h,fun n=>absurd hg n⟩
theorem qMa{t:Tok}{x:Ex}{j:Nat}{l:List Ex}(h:l.length+1≤256):qLp t x (j,l)= .inr ((j,l++[x]),l.length):=by
 unfold qLp
 rw[if_neg (by show ¬l.length=256;omega)]
def PL(ts:List Tok)(ps:List ByteArray)(E:Ps→PM Nat):Nat→Ps→PM Nat
 |1=>qVn ts ps E
 |2=>sumC ts ps E
 |3=>zNc ts ps E
 |_=>qJy ts ps E
theorem zOe(E:Ps→PM Nat){n:Nat}(h1:1≤n)(h3:n≤3)(p:Ps):PL ts ps E n p=qOu ts n (PL ts ps E (n+1)) p:=by
 rcases(by omega:n=1∨n=2∨n=3) with rfl|rfl|rfl<;>rfl
def Fac(ts:List Tok)(ps:List ByteArray)(E:Ps→PM Nat)(n:Nat)(pf:Pf)(g:Prop)(t:Rose):Prop:=
 ∀i l bl,Seg ts i (corP (pf bl))→NextOk n ts (i+(pf bl).length)→l.length+t.size≤256→Res (PL ts ps E n (i,l)) g ((i+(pf bl).length,l++t.flat l.length),l.length+t.size-1)
def Spi(ts:List Tok)(ps:List ByteArray)(E:Ps→PM Nat)(L:Nat)(pf:Pf)(g:Prop)(t:Rose):Prop:=
 ∀i l bl,Seg ts i (corP (pf bl))→NextOk (L+1) ts (i+(pf bl).length)→l.length+t.size≤256→
  (g→∃n',ts.length+1≤n'+(pf bl).length∧qOu ts L (PL ts ps E (L+1)) (i,l)=qQj ts L (PL ts ps E (L+1)) n' (l.length+t.size-1) (i+(pf bl).length,l++t.flat l.length))∧
  (¬g→∃z,qOu ts L (PL ts ps E (L+1)) (i,l)= .inl (z,2))
variable {E:Ps→PM Nat} {pf:Pf} {g:Prop} {t:Rose}
theorem zLc{L n x:Nat}{S:Ps→PM Nat}{p:Ps}(h:opC ts L p.1=0):qQj ts L S (n+1) x p= .inr (p,x):=by
 unfold qQj
 rw[if_pos h]
theorem Fac.lift{n:Nat}(h1:1≤n)(h3:n≤3)(h:Fac ts ps E (n+1) pf g t):Fac ts ps E n pf g t:=by
 intro i l bl hs hn hl
 rw[zOe E h1 h3]
 unfold qOu
 exact(h i l bl hs (hn.up (by omega)) hl).bind (g':=True) (fun _=> .pure trivial (zLc (hn.2.2 n (jV n) h1 h3))) (by simp)
theorem Fac.lifts{n m:Nat}(h1:1≤m)(hm:m≤n)(h4:n≤4)(h:Fac ts ps E n pf g t):Fac ts ps E m pf g t:=by
 obtain⟨d,rfl⟩:∃d,n=m+d:=⟨n-m,by omega⟩
 induction d generalizing m with
 |zero=>exact h
 |succ d ih=>
  have:=ih (m:=m+1) (by omega) (by omega) (by omega) (by rw[show m+1+d=m+(d+1) by omega];exact h)
  exact Fac.lift h1 (by omega) this
theorem Fac.spi{L:Nat}(h:Fac ts ps E (L+1) pf g t):Spi ts ps E L pf g t:=by
 intro i l bl hs hn hl
 obtain⟨r1,r2⟩:=h i l bl hs hn hl
 constructor
 ·intro hg
  refine⟨ts.length+1,by omega,?_⟩
  unfold qOu
  rw[r1 hg]
  rfl
 ·intro hg
  obtain⟨z,hz⟩:=r2 hg
  exact⟨z,by unfold qOu;rw[hz];rfl⟩
theorem Spi.fac{L:Nat}(h1:1≤L)(h3:L≤3)(h:Spi ts ps E L pf g t):Fac ts ps E L pf g t:=by
 intro i l bl hs hn hl
 obtain⟨r1,r2⟩:=h i l bl hs (hn.up (by omega)) hl
 rw[zOe E h1 h3]
 constructor
 ·intro hg
  obtain⟨n',e1,e2⟩:=r1 hg
  have:=hn.1
  obtain⟨m,rfl⟩:∃m,n'=m+1:=⟨n'-1,by omega⟩
  rw[e2,zLc (hn.2.2 L (jV L) h1 h3)]
 ·exact r2
end
end
section
open Go Go.Dc Go.Proofs
theorem zBj:((4,⟨#[41]⟩,0):Core)∈endL:= .head _
theorem zNe:((4,⟨#[44]⟩,0):Core)∈endL:= .tail _ (.head _)
theorem zQp:((4,⟨#[59]⟩,0):Core)∈endL:= .tail _ (.tail _ (.head _))
theorem zRo:((1,⟨#[116,104,101,110]⟩,0):Core)∈endL:= .tail _ (.tail _ (.tail _ (.head _)))
theorem zRf:((1,⟨#[101,108,115,101]⟩,0):Core)∈endL:= .tail _ (.tail _ (.tail _ (.tail _ (.head _))))
theorem zIj(h:Hd):∃n:Nat,lvH h=(n:Int)∧n≤4:=by
 unfold lvH
 split
 ·exact⟨0,rfl,by decide⟩
 ·split
  ·split
   ·exact⟨1,rfl,by decide⟩
   ·split
    ·exact⟨2,rfl,by decide⟩
    ·exact⟨3,rfl,by decide⟩
  ·exact⟨4,rfl,by decide⟩
theorem dep_0(h:Hd)(ks:List Rose)(need:Int)(d:Nat):(Rose.mk h ks).dep need d=max (if lvH h<need then d+1 else d) (deps h 0 (if h.1=4 then(if lvH h<need then d+1 else d) else(if lvH h<need then d+1 else d)+1) ks):=by unfold Rose.dep;rfl
theorem qXf{h:Hd}{ks:List Rose}{need:Int}{d:Nat}(hn:¬lvH h<need):(Rose.mk h ks).dep need d=max d (deps h 0 (if h.1=4 then d else d+1) ks):=by
 rw[dep_0];simp only[if_neg hn]
theorem zJo{h:Hd}{ks:List Rose}{need:Int}{d:Nat}(hn:lvH h<need):(Rose.mk h ks).dep need d=(Rose.mk h ks).dep 0 (d+1):=by
 obtain⟨n,e,-⟩:=zIj h
 rw[dep_0,qXf (need:=0) (by omega)];simp only[if_pos hn]
section
variable (ts:List Tok) (ps:List ByteArray)
def Pos0(k d:Nat)(t:Rose):Prop:=∀i l bl,Seg ts i (corP (t.pc ps 0 bl))→NextOk 1 ts (i+(t.pc ps 0 bl).length)→l.length+t.size≤256→Res (qEb ts ps k (i,l)) (t.dep 0 d≤32) ((i+(t.pc ps 0 bl).length,l++t.flat l.length),l.length+t.size-1)
structure Pk(t:Rose):Prop where
 p0:∀k d,k+d=33→Pos0 ts ps k d t
 en:∀k d,k+d=32→∀n:Nat,2≤n→n≤4→Fac ts ps (qEb ts ps k) n (fun bl=>t.pc ps (n:Int) bl) (t.dep (n:Int) d≤32) t
 es:∀k d,k+d=32→∀L:Nat,2≤L→L≤3→Spi ts ps (qEb ts ps k) L (fun bl=>t.pc ps (L:Int) bl) (t.dep (L:Int) d≤32) t
end
section
variable {ts:List Tok} {ps:List ByteArray}
theorem zBv{h:Hd}{ks:List Rose}{need:Int}(hn:¬lvH h<need)(bl:List UInt8):(Rose.mk h ks).pc ps need bl=qOl ps h (pcs ps h 0 ks) bl:=by rw[pc_0,if_neg hn]
theorem zGp{h:Hd}{ks:List Rose}{need:Int}(hn:lvH h<need)(bl:List UInt8):(Rose.mk h ks).pc ps need bl=sgP [40] []::((Rose.mk h ks).pc ps 0 []++[sgP [41] bl]):=by
 obtain⟨n,e,-⟩:=zIj h
 rw[pc_0,if_pos hn,zBv (by omega)]
theorem zHy{t:Rose}{k d:Nat}(hk:k+d=32)(h0:Pos0 ts ps k (d+1) t):Fac ts ps (qEb ts ps k) 4 (fun bl=>sgP [40] []::(t.pc ps 0 []++[sgP [41] bl])) (t.dep 0 (d+1)≤32) t:=by
 intro i l bl hs hn hl
 simp only[jD,jC,jF] at hn ⊢
 obtain⟨s1,s2⟩:=hs
 obtain⟨s2,s3⟩:=qRp s2
 obtain⟨s3,-⟩:=s3
 have hb:=hn.1
 have hE:=h0 (i+1) l [] s2 (qTg zBj s3 (by omega) 1) hl
 have hf:PL ts ps (qEb ts ps k) 4 (i,l)=qBq (qEb ts ps k (i+1,l)) fun q=>qBq (qEx ts qEw q.1.1) fun j=> .inr ((j,q.1.2),q.2):=by
  show qJy ts ps (qEb ts ps k) (i,l)=_
  unfold qJy
  dsimp only
  rw[if_neg (by rw[tk1 s1];show ¬(4:Int)=2;decide),if_neg (by rw[qUt s1 (by decide+kernel)];decide),if_pos (qPd (s:=qNf) s1 rfl)]
 rw[hf]
 refine hE.bind (g':=True) (fun _=> .pure trivial ?_) (by simp)
 refine Eq.trans (congrArg (fun z=>qBq z _) (qJj (s:=qEw) s3 rfl)) ?_
 show Sum.inr _=Sum.inr _
 rw[show i+1+(t.pc ps 0 []).length+1=i+((t.pc ps 0 []).length+(0+1)+1) by omega]
theorem dep_ge(t:Rose)(d:Nat):d≤t.dep 0 d:=by
 cases t with
 |mk h ks=>
  obtain⟨n,e,-⟩:=zIj h
  rw[qXf (by omega)]
  exact Nat.le_max_left ..
theorem pos_0{t:Rose}{d:Nat}(hd:0+d=33):Pos0 ts ps 0 d t:=by
 intro i l bl _ _ _
 have:=dep_ge t d
 refine⟨fun g=>by omega,fun _=>⟨(tkAt ts i).2.2.2,?_⟩⟩
 rfl
theorem zPj{h:Hd}{ks:List Rose}{lv:Nat}(hlv:lvH h=(lv:Int))(l1:1≤lv)(l4:lv≤4)
  (hN:∀i bl,Seg ts i (corP ((Rose.mk h ks).pc ps 0 bl))→isC ts 1 sIf i=false)
  (hF:∀k d,k+d=32→Fac ts ps (qEb ts ps k) lv (fun bl=>(Rose.mk h ks).pc ps 0 bl) ((Rose.mk h ks).dep 0 d≤32) (.mk h ks))
  (hS:∀k d,k+d=32→lv=2∨lv=3→Spi ts ps (qEb ts ps k) lv (fun bl=>(Rose.mk h ks).pc ps 0 bl) ((Rose.mk h ks).dep 0 d≤32) (.mk h ks)):Pk ts ps (.mk h ks):=by
 have hp0:∀k d,k+d=33→Pos0 ts ps k d (.mk h ks):=by
  intro k d hk
  cases k with
  |zero=>exact pos_0 hk
  |succ k=>
   intro i l bl hs hn hl
   rw[qEb,if_neg (by rw[hN i bl hs];decide)]
   exact(hF k d (by omega)).lifts (jV 1) l1 l4 i l bl hs hn hl
 have un:∀{n:Nat},n≤lv→(fun bl=>(Rose.mk h ks).pc ps (n:Int) bl)=fun bl=>(Rose.mk h ks).pc ps 0 bl:=fun {n} hn=>by
  funext bl
  rw[zBv (by omega),zBv (by omega)]
 have und:∀{n d:Nat},n≤lv→(Rose.mk h ks).dep (n:Int) d=(Rose.mk h ks).dep 0 d:=fun {n d} hn=>by
  rw[qXf (by omega),qXf (by omega)]
 have pr:∀{n:Nat},lv<n→(fun bl=>(Rose.mk h ks).pc ps (n:Int) bl)=fun bl=>sgP [40] []::((Rose.mk h ks).pc ps 0 []++[sgP [41] bl]):=fun {n} hn=>by
  funext bl
  rw[zGp (by omega)]
 have fac4:∀k d,k+d=32→∀n:Nat,lv<n→Fac ts ps (qEb ts ps k) 4 (fun bl=>(Rose.mk h ks).pc ps (n:Int) bl) ((Rose.mk h ks).dep (n:Int) d≤32) (.mk h ks):=fun k d hk n hn=>by
  rw[pr hn,zJo (by omega)]
  exact zHy hk (hp0 k (d+1) (by omega))
 refine⟨hp0,fun k d hk n n2 n4=> ?_,fun k d hk L L2 L3=> ?_⟩
 ·by_cases hn:n≤lv
  ·rw[un hn,und hn]
   exact(hF k d hk).lifts (by omega) hn l4
  ·exact(fac4 k d hk n (by omega)).lifts (by omega) n4 (by omega)
 ·by_cases hn:L≤lv
  ·rw[un hn,und hn]
   by_cases e:L=lv
   ·subst e
    exact hS k d hk (by omega)
   ·exact((hF k d hk).lifts (m:=L+1) (by omega) (by omega) l4).spi
  ·exact((fac4 k d hk L (by omega)).lifts (m:=L+1) (by omega) (by omega) (by omega)).spi
theorem zDr{h:Hd}(hlv:lvH h=4)
  (hN:∀i bl,Seg ts i (corP (qOl ps h [] bl))→isC ts 1 sIf i=false)
  (hF:∀k i l bl,Seg ts i (corP (qOl ps h [] bl))→NextOk 4 ts (i+(qOl ps h [] bl).length)→l.length+1≤256→qJy ts ps (qEb ts ps k) (i,l)= .inr ((i+(qOl ps h [] bl).length,l++[qJu h []]),l.length)):Pk ts ps (.mk h []):=by
 have e:∀bl,(Rose.mk h []).pc ps 0 bl=qOl ps h [] bl:=fun bl=>zBv (by omega) bl
 refine zPj (lv:=4) hlv (by decide) (by decide) (fun i bl hs=>hN i bl (by rw[←e];exact hs)) (fun k d hk=> ?_) fun _ _ _ h=>by omega
 intro i l bl hs hn hl
 simp only[e] at hs hn ⊢
 have hs1:(Rose.mk h []).size=1:=rfl
 rw[hs1] at hl ⊢
 refine .pure ?_ (hF k i l bl hs hn hl)
 rw[qXf (by omega)]
 show max d 0≤32
 omega
theorem qVh{s:ByteArray}(h:qDo s=true):s∉[qSp,qSk,sHas,sEnv,qTt]∧resC s=false∧s≠sIf:=by
 unfold qDo at h
 simp only[jO,dD] at h
 have hr:¬s∈wordsR:=by
  have:=h.2
  unfold resC at this
  exact of_decide_eq_false this
 refine⟨fun g=>hr ?_,h.2,fun g=>hr ?_⟩
 ·simp only[jR,gE,dH] at g
  unfold wordsR
  simp only[jR,gE,dH]
  rcases g with g|g|g|g|g<;>simp[g]
 ·rw[g];unfold wordsR
  simp
section
variable {i:Nat} {l:List Ex} {E:Ps→PM Nat}
theorem qQd{w:List UInt8}(h:qIz (tkAt ts i)=qJp (1,w))(hne:(⟨⟨w⟩⟩:ByteArray)≠sIf):isC ts 1 sIf i=false:=by
 rw[qQk (qFp h),jX hne];rfl
theorem zIv{w:List UInt8}(h:qIz (tkAt ts i)=qJp (4,w)):isC ts 1 sIf i=false:=by
 rw[qQk (qXd h)];rfl
theorem zSz{w:List UInt8}(h:qIz (tkAt ts i)=qJp (2,w)):isC ts 1 sIf i=false:=by
 rw[qQk h];rfl
theorem zTq{n:Nat}(hn:n≤9007199254740992)(h:qIz (tkAt ts i)=qJp (2,Lib.decDigits n))(hl:l.length+1≤256):qJy ts ps E (i,l)= .inr ((i+1,l++[(1,(n:Int),0,⟨#[]⟩,[])]),l.length):=by
 unfold qJy
 dsimp only
 have hc:=qZc hn h
 rw[if_pos (tk1 hc),qMa hl,tk3 hc]
theorem zTx{n:Nat}(hn:n≤9007199254740992)(h:qIz (tkAt ts i)=qJp (4,[45]))(h2:qIz (tkAt ts (i+1))=qJp (2,Lib.decDigits n))(hl:l.length+1≤256):qJy ts ps E (i,l)= .inr ((i+1+1,l++[(1,-(n:Int),0,⟨#[]⟩,[])]),l.length):=by
 unfold qJy
 dsimp only
 have hc:=qZc hn h2
 rw[if_neg (by rw[tk1 h];show ¬(4:Int)=2;decide),if_pos (qPd (s:=zKq) h rfl)]
 unfold qNv
 rw[if_pos (tk1 hc)]
 show qLp (tkAt ts i) (1,IntKind.wrap .i64 (0-(tkAt ts (i+1)).2.2.1),0,⟨#[]⟩,[]) (i+1+1,l)=_
 have e3:(tkAt ts (i+1)).2.2.1=(n:Int):=tk3 hc
 rw[qMa hl,e3,wi64 (by omega) (by omega),Int.zero_sub]
theorem qWx{w:List UInt8}(h:qIz (tkAt ts i)=qJp (1,w)):qJy ts ps E (i,l)=
  if(⟨⟨w⟩⟩:ByteArray)∈[qSp,qSk,sHas,sEnv,qTt] then qKm ts E (tkAt ts i) (i+1,l)
  else if resC ⟨⟨w⟩⟩ then qHl (tkAt ts i) 9
  else if isC ts 4 qNf (i+1) then qBq (qKq ts E (i+1,l)) fun q=>qLp (tkAt ts i) (3,0,0,⟨⟨w⟩⟩,q.2) q.1
  else match ps.findIdx? (fun x=>decide (x=⟨⟨w⟩⟩)) with
   |some j=>qLp (tkAt ts i) (2,(j:Int),0,⟨#[]⟩,[]) (i+1,l)
   |none=>qHl (tkAt ts i) 9:=by
 unfold qJy
 dsimp only
 have hc:=qFp h
 rw[if_neg (by rw[tk1 hc];show ¬(1:Int)=2;decide),if_neg (by rw[qQk hc];exact kF),if_neg (by rw[qQk hc];exact kF),if_neg (by rw[tk1 hc];exact fun h=>h rfl),tk2 hc]
 rfl
end
end
end
section
open Go Go.Dc Go.Proofs
section
variable {ts:List Tok} {ps:List ByteArray} {i:Nat} {l:List Ex} {E:Ps→PM Nat}
theorem qZf{c:Core}{k:Int}(h:qIz (tkAt ts i)=c)(hk:c.1=k):qNv ts k i= .inr (i+1,tkAt ts i):=by
 unfold qNv
 rw[if_pos ((tk1 h).trans hk)]
theorem qZd{w:List UInt8}(h:qIz (tkAt ts i)=qJp (3,w))(hp:qNe w=true):qQh ts i= .inr (i+1,tkAt ts i):=by
 unfold qQh
 rw[qZf (qRb h) rfl]
 simp only[qBq]
 have e:(tkAt ts i).2.1=⟨⟨w⟩⟩:=tk2 (qRb h)
 rw[e,if_pos hp]
theorem zOv{s:ByteArray}(h:qIz (tkAt ts i)=qJp (3,s.data.toList))(hp:qPo s=true):qWc ts i= .inr (i+1,tkAt ts i):=by
 unfold qWc
 rw[qZf (qRb h) rfl]
 simp only[qBq]
 have e:(tkAt ts i).2.1=s:=tk2 (qRb h)
 rw[e,if_pos hp]
theorem zQy{w:List UInt8}{k:Int}{s:ByteArray}(hk:(⟨⟨w⟩⟩:ByteArray)=qSk∧k=7∧qNe s.data.toList=true∨(⟨⟨w⟩⟩:ByteArray)=sHas∧k=8∧qNe s.data.toList=true∨(⟨⟨w⟩⟩:ByteArray)=sEnv∧k=9∧qPo s=true)
  (h1:qIz (tkAt ts i)=qJp (1,w)) (h2:qIz (tkAt ts (i+1))=qJp (4,[40])) (h3:qIz (tkAt ts (i+1+1))=qJp (3,s.data.toList)) (h4:qIz (tkAt ts (i+1+1+1))=qJp (4,[41])) (hl:l.length+1≤256):
  qJy ts ps E (i,l)= .inr ((i+1+1+1+1,l++[(k,0,0,s,[])]),l.length):=by
 have e1:(tkAt ts i).2.1=⟨⟨w⟩⟩:=tk2 (qFp h1)
 have e3:(tkAt ts (i+1+1)).2.1=s:=tk2 (qRb h3)
 rw[qWx h1]
 rcases hk with ⟨hw,rfl,hp⟩|⟨hw,rfl,hp⟩|⟨hw,rfl,hp⟩
 ·rw[if_pos (by rw[hw];decide+kernel)]
  unfold qKm
  dsimp only
  rw[qJj (s:=qNf) h2 rfl]
  simp only[qBq]
  rw[e1,hw,if_neg (by decide+kernel),if_pos rfl,qZd h3 hp]
  simp only[qBq]
  rw[qJj (s:=qEw) h4 rfl]
  simp only[qBq]
  rw[qMa hl,e3]
 ·rw[if_pos (by rw[hw];decide+kernel)]
  unfold qKm
  dsimp only
  rw[qJj (s:=qNf) h2 rfl]
  simp only[qBq]
  rw[e1,hw,if_neg (by decide+kernel),if_neg (by decide+kernel),if_pos rfl,qZd h3 hp]
  simp only[qBq]
  rw[qJj (s:=qEw) h4 rfl]
  simp only[qBq]
  rw[qMa hl,e3]
 ·rw[if_pos (by rw[hw];decide+kernel)]
  unfold qKm
  dsimp only
  rw[qJj (s:=qNf) h2 rfl]
  simp only[qBq]
  rw[e1,hw,if_neg (by decide+kernel),if_neg (by decide+kernel),if_neg (by decide+kernel),if_pos rfl,zOv h3 hp]
  simp only[qBq]
  rw[qJj (s:=qEw) h4 rfl]
  simp only[qBq]
  rw[qMa hl,e3]
theorem zRs{n:Nat}(hn:n<64)(h1:qIz (tkAt ts i)=qJp (1,zFd))(h2:qIz (tkAt ts (i+1))=qJp (4,[40]))(h3:qIz (tkAt ts (i+1+1))=qJp (2,Lib.decDigits n))(h4:qIz (tkAt ts (i+1+1+1))=qJp (4,[41]))(hl:l.length+1≤256):
  qJy ts ps E (i,l)= .inr ((i+1+1+1+1,l++[(10,(n:Int),0,⟨#[]⟩,[])]),l.length):=by
 have e1:(tkAt ts i).2.1=qTt:=tk2 (qFp h1)
 have e3:(tkAt ts (i+1+1)).2.2.1=(n:Int):=tk3 (qZc (by omega) h3)
 rw[qWx h1,if_pos (by decide+kernel)]
 unfold qKm
 dsimp only
 rw[qJj (s:=qNf) h2 rfl]
 simp only[qBq]
 rw[e1,if_neg (by decide+kernel),if_neg (by decide+kernel),if_neg (by decide+kernel),if_neg (by decide+kernel),qZf (qZc (by omega) h3) rfl]
 simp only[qBq]
 rw[e3,if_neg (by omega)]
 simp only
 rw[qJj (s:=qEw) h4 rfl]
 simp only[qBq]
 rw[qMa hl]
theorem num_pk{n:Int}(h0: -9007199254740992≤n)(h1:n≤9007199254740992):Pk ts ps (.mk (1,n,0,emB) []):=by
 have e:∀bl,qOl ps (1,n,0,emB) [] bl=qWr n bl:=fun bl=>rfl
 refine zDr rfl (fun i bl hs=> ?_) fun k i l bl hs hn hl=> ?_
 ·rw[e] at hs
  unfold qWr at hs
  split at hs
  ·exact zIv hs.1
  ·exact zSz hs.1
 ·rw[e] at hs ⊢
  unfold qWr at hs ⊢
  split at hs
  ·rename_i hneg
   rw[if_pos hneg]
   obtain⟨s1,s2,-⟩:=hs
   rw[zTx (n:=n.natAbs) (by omega) s1 s2 hl,show-(n.natAbs:Int)=n by omega]
   rfl
  ·rename_i hneg
   rw[if_neg hneg]
   rw[zTq (n:=n.toNat) (by omega) hs.1 hl,show(n.toNat:Int)=n by omega]
   rfl
theorem par_pk{j:Nat}(hj:j<ps.length)(hps:∀s∈ps,qDo s=true)(hfi:ps.findIdx? (fun x=>decide (x=ps.getD j ⟨#[]⟩))=some j):Pk ts ps (.mk (2,(j:Int),0,emB) []):=by
 have e:∀bl,qOl ps (2,(j:Int),0,emB) [] bl=[wdP (ps.getD j ⟨#[]⟩).data.toList bl]:=fun bl=>rfl
 have hmem:ps.getD j ⟨#[]⟩∈ps:=by
  rw[k9,List.getElem?_eq_getElem hj]
  exact jW hj
 obtain⟨n1,n2,n3⟩:=qVh (hps _ hmem)
 generalize ps.getD j ⟨#[]⟩=s at e n1 n2 n3 hfi
 refine zDr rfl (fun i bl hs=> ?_) fun k i l bl hs hn hl=> ?_
 ·rw[e] at hs
  exact qQd hs.1 n3
 ·rw[e] at hs hn ⊢
  have hn2:isC ts 4 qNf (i+1)=false:=hn.2.1
  rw[qWx hs.1,if_neg n1,if_neg (by rw[show resC (⟨⟨s.data.toList⟩⟩:ByteArray)=false from n2];exact kF),if_neg (by rw[hn2];exact kF)]
  rw[show ps.findIdx? (fun x=>decide (x=(⟨⟨s.data.toList⟩⟩:ByteArray)))=some j from hfi]
  simp only
  rw[qMa hl]
  rfl
theorem zOs{k:Int}{s:ByteArray}(hk:(k=7∨k=8)∧qNe s.data.toList=true∨k=9∧qPo s=true):Pk ts ps (.mk (k,0,0,s) []):=by
 have hk':k=7∨k=8∨k=9:=by
  rcases hk with ⟨h|h,-⟩|⟨h,-⟩
  ·exact .inl h
  ·exact .inr (.inl h)
  ·exact .inr (.inr h)
 have e:∀bl,qOl ps (k,0,0,s) [] bl=[wdP (qSc k).data.toList [],sgP [40] [],txP s.data.toList [],sgP [41] bl]:=fun bl=>by
  rcases hk' with rfl|rfl|rfl<;>rfl
 have hw:(⟨⟨(qSc k).data.toList⟩⟩:ByteArray)≠sIf:=by rcases hk' with rfl|rfl|rfl<;>decide+kernel
 refine zDr (by rcases hk' with rfl|rfl|rfl<;>rfl) (fun i bl hs=> ?_) fun k2 i l bl hs hn hl=> ?_
 ·rw[e] at hs
  exact qQd hs.1 hw
 ·rw[e] at hs ⊢
  obtain⟨s1,s2,s3,s4,-⟩:=hs
  refine Eq.trans (zQy (k:=k) (s:=s) ?_ s1 s2 s3 s4 hl) rfl
  rcases hk with ⟨rfl|rfl,hp⟩|⟨rfl,hp⟩
  ·exact .inl ⟨rfl,rfl,hp⟩
  ·exact .inr (.inl ⟨rfl,rfl,hp⟩)
  ·exact .inr (.inr ⟨rfl,rfl,hp⟩)
theorem zUq{n:Nat}(hn:n<64):Pk ts ps (.mk (10,(n:Int),0,emB) []):=by
 have e:∀bl,qOl ps (10,(n:Int),0,emB) [] bl=[wdP zFd [],sgP [40] [],((2,Lib.decDigits n),[]),sgP [41] bl]:=fun bl=>by
  show wdP zFd []::sgP [40] []::(qWr (n:Int) []++[sgP [41] bl])=_
  unfold qWr
  rw[if_neg (by omega),jS]
  rfl
 refine zDr rfl (fun i bl hs=> ?_) fun k2 i l bl hs _ hl=> ?_
 ·rw[e] at hs
  exact qQd hs.1 (by decide+kernel)
 ·rw[e] at hs ⊢
  obtain⟨s1,s2,s3,s4,-⟩:=hs
  exact Eq.trans (zRs hn s1 s2 s3 s4 hl) rfl
end
end
section
open Go Go.Dc Go.Proofs
section
variable {ts:List Tok} {ps:List ByteArray}
theorem deps2(h:Hd)(a b:Rose)(d:Nat):deps h 0 d [a,b]=max (a.dep (qIi h 0) d) (max (b.dep (qIi h 1) d) 0):=rfl
theorem lvOp{op:Int}(h0:1≤op)(h1:op≤7):lvH (4,0,op,emB)=(levP op:Int)∧1≤levP op∧levP op≤3:=by
 rcases(by omega:op=1∨op=2∨op=3∨op=4∨op=5∨op=6∨op=7) with rfl|rfl|rfl|rfl|rfl|rfl|rfl<;>decide+kernel
theorem flat2(h:Hd)(a b:Rose)(n:Nat):(Rose.mk h [a,b]).flat n=a.flat n++b.flat (n+a.size)++[qJu h [((n+a.size-1:Nat):Int),((n+a.size+b.size-1:Nat):Int)]]:=by
 show(a.flat n++(b.flat (n+a.size)++[]))++_=_
 rw[jY];rfl
theorem flat3(h:Hd)(a b c:Rose)(n:Nat):(Rose.mk h [a,b,c]).flat n=a.flat n++b.flat (n+a.size)++c.flat (n+a.size+b.size)++[qJu h [((n+a.size-1:Nat):Int),((n+a.size+b.size-1:Nat):Int),((n+a.size+b.size+c.size-1:Nat):Int)]]:=by
 show(a.flat n++(b.flat (n+a.size)++(c.flat (n+a.size+b.size)++[])))++_=_
 rw[jY,←jE];rfl
theorem flat1(h:Hd)(a:Rose)(n:Nat):(Rose.mk h [a]).flat n=a.flat n++[qJu h [((n+a.size-1:Nat):Int)]]:=by
 show(a.flat n++[])++_=_
 rw[jY];rfl
theorem zSm(h:Hd)(a b:Rose):(Rose.mk h [a,b]).size=a.size+b.size+1:=by show a.size+(b.size+0)+1=_;omega
theorem size3(h:Hd)(a b c:Rose):(Rose.mk h [a,b,c]).size=a.size+b.size+c.size+1:=by show a.size+(b.size+(c.size+0))+1=_;omega
theorem size1(h:Hd)(a:Rose):(Rose.mk h [a]).size=a.size+1:=by show a.size+0+1=_;omega
theorem bin_pk{op:Int}{a b:Rose}(h0:1≤op)(h1:op≤7)(ha:Pk ts ps a)(hb:Pk ts ps b)(hNa:∀n:Nat,1≤n→∀i bl,Seg ts i (corP (a.pc ps (n:Int) bl))→isC ts 1 sIf i=false):Pk ts ps (.mk (4,0,op,emB) [a,b]):=by
 obtain⟨e,l1,l3⟩:=lvOp h0 h1
 generalize hL:levP op=L at e l1 l3
 -- what the operands need
 obtain⟨nl,enl,nl2,nl3⟩:∃nl:Nat,qIi (4,0,op,emB) 0=(nl:Int)∧(L=1→nl=2)∧(L≠1→nl=L):=by
  unfold qIi
  rw[if_pos rfl,if_pos rfl,e]
  by_cases h:L=1
  ·exact⟨2,by rw[if_pos (by omega)];rfl,fun _=>rfl,fun g=>absurd h g⟩
  ·exact⟨L,by rw[if_neg (by omega)],fun g=>absurd g h,fun _=>rfl⟩
 have enr:qIi (4,0,op,emB) 1=((L+1:Nat):Int):=by
  unfold qIi
  rw[if_pos rfl,if_neg (by decide),e];rfl
 have hpc:∀bl,(Rose.mk (4,0,op,emB) [a,b]).pc ps 0 bl=a.pc ps (nl:Int) [32]++(sgP (qUh op).data.toList [32]::b.pc ps ((L+1:Nat):Int) bl):=fun bl=>by
  rw[zBv (by omega),←enl,←enr];rfl
 have hdep:∀d,d≤32→((Rose.mk (4,0,op,emB) [a,b]).dep 0 d≤32↔a.dep (nl:Int) d≤32∧b.dep ((L+1:Nat):Int) d≤32):=fun d hd=>by
  rw[qXf (by omega),if_pos rfl,deps2,enl,enr];omega
 -- the operator and the second operand
 have tail:∀k d,k+d=32→∀i l bl m,Seg ts i (corP (sgP (qUh op).data.toList [32]::b.pc ps ((L+1:Nat):Int) bl))→NextOk (L+1) ts (i+(1+(b.pc ps ((L+1:Nat):Int) bl).length))→a.size≤l.length→l.length+b.size+1≤256→
   ∀x:Nat,(b.dep ((L+1:Nat):Int) d≤32→qQj ts L (PL ts ps (qEb ts ps k) (L+1)) (m+1) x (i,l)=if L=1 then .inr ((i+(1+(b.pc ps ((L+1:Nat):Int) bl).length),l++b.flat l.length++[(4,0,op,⟨#[]⟩,[(x:Int),((l.length+b.size-1:Nat):Int)])]),l.length+b.size)
    else qQj ts L (PL ts ps (qEb ts ps k) (L+1)) m (l.length+b.size) (i+(1+(b.pc ps ((L+1:Nat):Int) bl).length),l++b.flat l.length++[(4,0,op,⟨#[]⟩,[(x:Int),((l.length+b.size-1:Nat):Int)])]))∧
   (¬b.dep ((L+1:Nat):Int) d≤32→∃z,qQj ts L (PL ts ps (qEb ts ps k) (L+1)) (m+1) x (i,l)= .inl (z,2)):=by
  intro k d hk i l bl m hs hn hal hl x
  obtain⟨s1,s2⟩:=hs
  obtain⟨-,o2⟩:=zPt h0 h1 s1
  have hop:opC ts L i=op:=by rw[o2 L l1 l3,if_pos hL]
  have hB:=hb.en k d hk (L+1) (by omega) (by omega) (i+1) l bl s2 (by rw[show i+1+(b.pc ps ((L+1:Nat):Int) bl).length=i+(1+(b.pc ps ((L+1:Nat):Int) bl).length) by omega];exact hn) (by omega)
  have hm:qQj ts L (PL ts ps (qEb ts ps k) (L+1)) (m+1) x (i,l)=qBq (PL ts ps (qEb ts ps k) (L+1) (i+1,l)) fun q=>qBq (qLp (tkAt ts i) (4,0,op,⟨#[]⟩,[(x:Int),(q.2:Int)]) q.1) fun r=>if L=1 then .inr r else qQj ts L (PL ts ps (qEb ts ps k) (L+1)) m r.2 r.1:=by
   conv=>lhs;unfold qQj
   dsimp only
   rw[hop,if_neg (by omega)]
  rw[hm]
  constructor
  ·intro hg
   rw[hB.1 hg]
   simp only[qBq]
   have fl:(b.flat l.length).length=b.size:=qHk ..
   rw[qMa (by rw[jC,fl];omega)]
   simp only[jC,fl]
   rw[show i+1+(b.pc ps ((L+1:Nat):Int) bl).length=i+(1+(b.pc ps ((L+1:Nat):Int) bl).length) by omega]
  ·intro hg
   obtain⟨z,hz⟩:=hB.2 hg
   exact⟨z,by rw[hz];rfl⟩
 have hla:∀n,(a.flat n).length=a.size:=fun n=>qHk ..
 have nxt:∀{i:Nat},qIz (tkAt ts i)=qJp (4,(qUh op).data.toList)→i<ts.length→NextOk (L+1) ts i:=fun {i} hs hi=>by
  obtain⟨o1,o2⟩:=zPt h0 h1 hs
  exact⟨hi,o1,fun L' a1 a2 a3=>by rw[o2 L' a2 a3,if_neg (by omega)]⟩
 have hN:∀i bl,Seg ts i (corP ((Rose.mk (4,0,op,emB) [a,b]).pc ps 0 bl))→isC ts 1 sIf i=false:=fun i bl hs=>by
  rw[hpc] at hs
  refine hNa nl ?_ i [32] (qRp hs).1
  by_cases h:L=1
  ·rw[nl2 h];decide
  ·rw[nl3 h];omega
 have fin:∀(l:List Ex) (x:Nat),x=l.length+a.size-1→l++a.flat l.length++b.flat (l++a.flat l.length).length++[((4,0,op,⟨#[]⟩,[(x:Int),(((l++a.flat l.length).length+b.size-1:Nat):Int)]):Ex)]=l++(Rose.mk (4,0,op,emB) [a,b]).flat l.length:=fun l x hx=>by
  rw[flat2,jC,hla,hx]
  simp only[jE]
  rfl
 by_cases h1L:L=1
 ·-- a comparison
  subst h1L
  obtain rfl:=nl2 rfl
  refine zPj (lv:=1) e (by decide) (by decide) hN (fun k d hk=> ?_) fun _ _ _ h=>by omega
  intro i l bl hs hn hl
  simp only[hpc] at hs hn ⊢
  rw[zSm] at hl
  obtain⟨s1,s2⟩:=qRp hs
  simp only[jC,jD] at hn ⊢
  have hA:=ha.en k d hk 2 (by decide) (by decide) i l [32] s1 (nxt s2.1 (by have:=hn.1;show i+(a.pc ps ((2:Nat):Int) [32]).length<ts.length;omega)) (by omega)
  have hT:=tail k d hk (i+(a.pc ps ((2:Nat):Int) [32]).length) (l++a.flat l.length) bl ts.length s2 (by rw[show i+(a.pc ps ((2:Nat):Int) [32]).length+(1+(b.pc ps ((1+1:Nat):Int) bl).length)=i+((a.pc ps ((2:Nat):Int) [32]).length+((b.pc ps ((1+1:Nat):Int) bl).length+1)) by omega];exact hn.up (by decide)) (by rw[jC,hla];omega) (by rw[jC,hla];omega) (l.length+a.size-1)
  rw[zOe _ (by decide) (by decide)]
  unfold qOu
  refine hA.bind (g':=b.dep ((1+1:Nat):Int) d≤32) (fun _=> ?_) (hdep d (by omega))
  refine⟨fun hg=> ?_,hT.2⟩
  have:=hT.1 hg
  rw[if_pos rfl] at this
  refine Eq.trans this ?_
  rw[fin l _ rfl,zSm,jC,hla]
  show Sum.inr _=Sum.inr _
  have:=a.pos
  rw[show i+(a.pc ps ((2:Nat):Int) [32]).length+(1+(b.pc ps ((1+1:Nat):Int) bl).length)=i+((a.pc ps ((2:Nat):Int) [32]).length+((b.pc ps ((1+1:Nat):Int) bl).length+1)) by omega,show l.length+(a.size+b.size+1)-1=l.length+a.size+b.size by omega]
 ·-- a sum or a term
  obtain rfl:=nl3 h1L
  have spi:∀k d,k+d=32→Spi ts ps (qEb ts ps k) nl (fun bl=>(Rose.mk (4,0,op,emB) [a,b]).pc ps 0 bl) ((Rose.mk (4,0,op,emB) [a,b]).dep 0 d≤32) (.mk (4,0,op,emB) [a,b]):=by
   intro k d hk i l bl hs hn hl
   simp only[hpc] at hs hn ⊢
   rw[zSm] at hl
   obtain⟨s1,s2⟩:=qRp hs
   simp only[jC,jD] at hn ⊢
   obtain⟨r1,r2⟩:=ha.es k d hk nl (by omega) l3 i l [32] s1 (nxt s2.1 (by have:=hn.1;show i+(a.pc ps (nl:Int) [32]).length<ts.length;omega)) (by omega)
   dsimp only at r1 r2
   have hlen:=hn.1
   have hd:=hdep d (by omega)
   have hT:=fun m=>tail k d hk (i+(a.pc ps (nl:Int) [32]).length) (l++a.flat l.length) bl m s2 (by rw[show i+(a.pc ps (nl:Int) [32]).length+(1+(b.pc ps ((nl+1:Nat):Int) bl).length)=i+((a.pc ps (nl:Int) [32]).length+((b.pc ps ((nl+1:Nat):Int) bl).length+1)) by omega];exact hn) (by rw[jC,hla];omega) (by rw[jC,hla];omega) (l.length+a.size-1)
   constructor
   ·intro hg
    obtain⟨ga,gb⟩:=hd.1 hg
    obtain⟨n',e1,e2⟩:=r1 ga
    obtain⟨m,rfl⟩:∃m,n'=m+1:=⟨n'-1,by omega⟩
    refine⟨m,by omega,?_⟩
    rw[e2,(hT m).1 gb,if_neg h1L,fin l _ rfl,zSm,jC,hla]
    rw[show i+(a.pc ps (nl:Int) [32]).length+(1+(b.pc ps ((nl+1:Nat):Int) bl).length)=i+((a.pc ps (nl:Int) [32]).length+((b.pc ps ((nl+1:Nat):Int) bl).length+1)) by omega,show l.length+(a.size+b.size+1)-1=l.length+a.size+b.size by omega]
   ·intro hg
    by_cases ga:a.dep (nl:Int) d≤32
    ·obtain⟨n',e1,e2⟩:=r1 ga
     obtain⟨m,rfl⟩:∃m,n'=m+1:=⟨n'-1,by omega⟩
     obtain⟨z,hz⟩:=(hT m).2 fun gb=>hg (hd.2 ⟨ga,gb⟩)
     exact⟨z,by rw[e2,hz]⟩
    ·exact r2 ga
  exact zPj (lv:=nl) e l1 (by omega) hN (fun k d hk=>(spi k d hk).fac l1 l3) fun k d hk _=>spi k d hk
end
end
section
open Go Go.Dc Go.Proofs
section
variable {ts:List Tok} {ps:List ByteArray}
def Pn(ts:List Tok)(ps:List ByteArray)(t:Rose):Prop:=∀n:Nat,1≤n→∀i bl,Seg ts i (corP (t.pc ps (n:Int) bl))→isC ts 1 sIf i=false
theorem zEi{h:Hd}{ks:List Rose}(hN:1≤lvH h→∀i bl,Seg ts i (corP (qOl ps h (pcs ps h 0 ks) bl))→isC ts 1 sIf i=false):Pn ts ps (.mk h ks):=by
 intro n h1 i bl hs
 by_cases hl:lvH h<(n:Int)
 ·rw[zGp hl] at hs
  exact zIv hs.1
 ·rw[zBv hl] at hs
  exact hN (by omega) i bl hs
theorem Res.step{α β:Type}{x:Flt⊕α}{v:α}{f:α→Flt⊕β}{g:Prop}{w:β}(h:x= .inr v)(r:Res (f v) g w):Res (qBq x f) g w:=by
 rw[h];exact r
theorem ite_pk{a b c:Rose}(ha:Pk ts ps a)(hb:Pk ts ps b)(hc:Pk ts ps c):Pk ts ps (.mk (5,0,0,emB) [a,b,c]):=by
 have hlv:lvH (5,0,0,emB)=0:=rfl
 have hpc:∀bl,(Rose.mk (5,0,0,emB) [a,b,c]).pc ps 0 bl=wdP wIf [32]::(a.pc ps 0 [32]++(wdP zMz [32]::(b.pc ps 0 [32]++(wdP zMg [32]::c.pc ps 0 bl)))):=fun bl=>by
  rw[zBv (by omega)];rfl
 have hdep:∀d,d≤32→((Rose.mk (5,0,0,emB) [a,b,c]).dep 0 d≤32↔a.dep 0 (d+1)≤32∧(b.dep 0 (d+1)≤32∧(c.dep 0 (d+1)≤32∧True))):=fun d hd=>by
  have e:(Rose.mk (5,0,0,emB) [a,b,c]).dep 0 d=max d (max (a.dep 0 (d+1)) (max (b.dep 0 (d+1)) (max (c.dep 0 (d+1)) 0))):=by
   rw[qXf (by omega)];rfl
  rw[e];simp only[and_true];omega
 have hp0:∀k d,k+d=33→Pos0 ts ps k d (.mk (5,0,0,emB) [a,b,c]):=by
  intro k d hk
  cases k with
  |zero=>exact pos_0 hk
  |succ k=>
   intro i l bl hs hn hl
   rw[hpc] at hs hn ⊢
   simp only[jD,jC] at hn ⊢
   rw[size3] at hl ⊢
   obtain⟨s1,s2⟩:=hs
   obtain⟨sa,s2⟩:=qRp s2
   obtain⟨st,s2⟩:=s2
   obtain⟨sb,s2⟩:=qRp s2
   obtain⟨se,sc⟩:=s2
   have hlen:=hn.1
   have fa:(a.flat l.length).length=a.size:=qHk ..
   have hif:isC ts 1 sIf i=true:=by rw[qQk (qFp s1)];rfl
   rw[qEb,if_pos hif]
   have RA:=ha.p0 k (d+1) (by omega) (i+1) l [32] sa (qTg zRo st (by omega) 1) (by omega)
   refine RA.bind (fun _=> ?_) (hdep d (by omega))
   dsimp only
   refine Res.step (zDs (s:=zMd) st rfl) ?_
   have RB:=hb.p0 k (d+1) (by omega) (i+1+(a.pc ps 0 [32]).length+1) (l++a.flat l.length) [32] sb (qTg zRf se (by omega) 1) (by rw[jC,fa];omega)
   refine Res.bind (x:=qEb ts ps k (i+1+(a.pc ps 0 [32]).length+1,l++a.flat l.length)) RB (fun _=> ?_) Iff.rfl
   dsimp only
   refine Res.step (zDs (s:=zMi) se rfl) ?_
   have fb:(b.flat (l++a.flat l.length).length).length=b.size:=qHk ..
   have fc:∀n,(c.flat n).length=c.size:=fun n=>qHk ..
   have RC:=hc.p0 k (d+1) (by omega) (i+1+(a.pc ps 0 [32]).length+1+(b.pc ps 0 [32]).length+1) ((l++a.flat l.length)++b.flat (l++a.flat l.length).length) bl sc (by
    rw[show i+1+(a.pc ps 0 [32]).length+1+(b.pc ps 0 [32]).length+1+(c.pc ps 0 bl).length=i+((a.pc ps 0 [32]).length+((b.pc ps 0 [32]).length+((c.pc ps 0 bl).length+1)+1)+1) by omega]
    exact hn) (by rw[jC,fb,jC,fa];omega)
   refine Res.bind (x:=qEb ts ps k (i+1+(a.pc ps 0 [32]).length+1+(b.pc ps 0 [32]).length+1,(l++a.flat l.length)++b.flat (l++a.flat l.length).length)) RC (fun _=> .pure trivial ?_) Iff.rfl
   dsimp only
   have pa:=a.pos
   have pb:=b.pos
   have pc:=c.pos
   rw[qMa (by simp only[jC,fa,fb,fc];simp only[jC,fa] at fb;omega)]
   simp only[jC,fa,fc]
   rw[show(b.flat (l.length+a.size)).length=b.size from qHk ..]
   rw[flat3]
   have e1:i+1+(a.pc ps 0 [32]).length+1+(b.pc ps 0 [32]).length+1+(c.pc ps 0 bl).length=i+((a.pc ps 0 [32]).length+((b.pc ps 0 [32]).length+((c.pc ps 0 bl).length+1)+1)+1):=by omega
   rw[e1,show l.length+(a.size+b.size+c.size+1)-1=l.length+a.size+b.size+c.size by omega]
   simp only[jE]
   rfl
 refine⟨hp0,fun k d hk n n2 n4=> ?_,fun k d hk L L2 L3=> ?_⟩
 ·have e:(fun bl=>(Rose.mk (5,0,0,emB) [a,b,c]).pc ps (n:Int) bl)=fun bl=>sgP [40] []::((Rose.mk (5,0,0,emB) [a,b,c]).pc ps 0 []++[sgP [41] bl]):=by
   funext bl;rw[zGp (by omega)]
  rw[e,zJo (by omega)]
  exact(zHy hk (hp0 k (d+1) (by omega))).lifts (by omega) n4 (by omega)
 ·have e:(fun bl=>(Rose.mk (5,0,0,emB) [a,b,c]).pc ps (L:Int) bl)=fun bl=>sgP [40] []::((Rose.mk (5,0,0,emB) [a,b,c]).pc ps 0 []++[sgP [41] bl]):=by
   funext bl;rw[zGp (by omega)]
  rw[e,zJo (by omega)]
  exact((zHy hk (hp0 k (d+1) (by omega))).lifts (m:=L+1) (by omega) (by omega) (by omega)).spi
theorem zVr{s:ByteArray}{a:Rose}(hp:qNe s.data.toList=true)(ha:Pk ts ps a):Pk ts ps (.mk (6,0,0,s) [a]):=by
 have hlv:lvH (6,0,0,s)=4:=rfl
 have hpc:∀bl,(Rose.mk (6,0,0,s) [a]).pc ps 0 bl=wdP zLu []::sgP [40] []::txP s.data.toList []::sgP [44] [32]::(a.pc ps 0 []++[sgP [41] bl]):=fun bl=>by
  rw[zBv (by omega)];rfl
 refine zPj (lv:=4) hlv (by decide) (by decide) (fun i bl hs=>by rw[hpc] at hs;exact qQd hs.1 (by decide+kernel)) (fun k d hk=> ?_) fun _ _ _ h=>by omega
 have hdep:(Rose.mk (6,0,0,s) [a]).dep 0 d≤32↔a.dep 0 (d+1)≤32∧True:=by
  have e:(Rose.mk (6,0,0,s) [a]).dep 0 d=max d (max (a.dep 0 (d+1)) 0):=by
   rw[qXf (by omega)];rfl
  rw[e];simp only[and_true];omega
 intro i l bl hs hn hl
 simp only[hpc] at hs hn ⊢
 simp only[jD,jC,jF] at hn ⊢
 rw[size1] at hl ⊢
 obtain⟨s1,s2,s3,s4,s5⟩:=hs
 obtain⟨sa,sz,-⟩:=qRp s5
 have hlen:=hn.1
 have e1:(tkAt ts i).2.1=qSp:=tk2 (qFp s1)
 have e3:(tkAt ts (i+1+1)).2.1=s:=tk2 (qRb s3)
 have fa:(a.flat l.length).length=a.size:=qHk ..
 have hf:PL ts ps (qEb ts ps k) 4 (i,l)=qBq (qEb ts ps k (i+1+1+1+1,l)) fun q=>qBq (qEx ts qEw q.1.1) fun j=>qLp (tkAt ts i) (6,0,0,s,[(q.2:Int)]) (j,q.1.2):=by
  show qJy ts ps (qEb ts ps k) (i,l)=_
  rw[qWx s1,if_pos (by decide+kernel)]
  unfold qKm
  dsimp only
  rw[qJj (s:=qNf) s2 rfl]
  simp only[qBq]
  rw[e1,if_pos rfl,qZd s3 hp]
  simp only[qBq]
  rw[qJj (s:=qOj) s4 rfl]
  simp only[qBq]
  rw[e3]
  cases qEb ts ps k (i+1+1+1+1,l) with
  |inl z=>rfl
  |inr q=>rfl
 rw[hf]
 have RA:=ha.p0 k (d+1) (by omega) (i+1+1+1+1) l [] sa (qTg zBj sz (by omega) 1) (by omega)
 refine RA.bind (fun _=> .pure trivial ?_) hdep
 dsimp only
 refine Eq.trans (congrArg (fun z=>qBq z _) (qJj (s:=qEw) sz rfl)) ?_
 simp only[qBq]
 have pa:=a.pos
 rw[qMa (by rw[jC,fa];omega),flat1,jC,fa]
 rw[show i+1+1+1+1+(a.pc ps 0 []).length+1=i+((a.pc ps 0 []).length+(0+1)+1+1+1+1) by omega,show l.length+(a.size+1)-1=l.length+a.size by omega,←jE]
 rfl
end
end
section
open Go Go.Dc Go.Proofs
section
variable {ts:List Tok} {ps:List ByteArray}
def Pz(ts:List Tok)(ps:List ByteArray)(t:Rose):Prop:=∀(n:Nat) i bl,Seg ts i (corP (t.pc ps (n:Int) bl))→isC ts 4 qEw i=false
theorem zEx{h:Hd}{ks:List Rose}(hN:∀i bl,Seg ts i (corP (qOl ps h (pcs ps h 0 ks) bl))→isC ts 4 qEw i=false):Pz ts ps (.mk h ks):=by
 intro n i bl hs
 by_cases hl:lvH h<(n:Int)
 ·rw[zGp hl] at hs
  exact qUt hs.1 (by decide+kernel)
 ·rw[zBv hl] at hs
  exact hN i bl hs
theorem qTz{i:Nat}{w:List UInt8}(h:qIz (tkAt ts i)=qJp (1,w)):isC ts 4 qEw i=false:=by
 rw[qQk (qFp h)];rfl
theorem num_cl{i:Nat}{w:List UInt8}(h:qIz (tkAt ts i)=qJp (2,w)):isC ts 4 qEw i=false:=by
 rw[qQk h];rfl
theorem qZv{n:Int}{i:Nat}{bl:List UInt8}(hs:Seg ts i (corP (qWr n bl))):isC ts 1 sIf i=false∧isC ts 4 qEw i=false:=by
 unfold qWr at hs
 split at hs
 ·exact⟨zIv hs.1,qUt hs.1 (by decide+kernel)⟩
 ·exact⟨zSz hs.1,num_cl hs.1⟩
theorem zFc:∀(ws:List Pf) (j:Nat),ws.length≤(qLh (j+1) ws).length
 |[],_=>kZ _
 |w::ws,j=>by
  have:=zFc ws (j+1)
  show ws.length+1≤((if j+1=0 then[] else[sgP [44] [32]])++(w []++qLh (j+1+1) ws)).length
  rw[if_neg (by omega)]
  simp only[jC,jD,jF]
  omega
theorem zJw(s:ByteArray){k d:Nat}(hk:k+(d+1)=33):∀(ks:List Rose) (t:Rose) (m j:Nat) (acc:List Int) (i:Nat) (l:List Ex) (bl:List UInt8),(∀u∈t::ks,Pk ts ps u)→
  Seg ts i (corP (t.pc ps 0 []++(qLh (j+1) (pcs ps (3,0,0,s) (j+1) ks)++[sgP [41] bl])))→i+((t.pc ps 0 []).length+((qLh (j+1) (pcs ps (3,0,0,s) (j+1) ks)).length+1))<ts.length→l.length+t.size+qBp ks≤256→ks.length<m→
  Res (qYf ts (qEb ts ps k) m acc (i,l)) (max (t.dep 0 (d+1)) (deps (3,0,0,s) (j+1) (d+1) ks)≤32) ((i+((t.pc ps 0 []).length+((qLh (j+1) (pcs ps (3,0,0,s) (j+1) ks)).length+1)),l++(t.flat l.length++qHv (l.length+t.size) ks)),acc++qDh l.length (t::ks))
 |_,_,0,_,_,_,_,_,_,_,_,_,h=>absurd h (kN _)
 |[],t,m+1,j,acc,i,l,bl,hp,hs,hlen,hl,_=>by
  obtain⟨s1,s2⟩:=qRp hs
  have s2:qIz (tkAt ts (i+(t.pc ps 0 []).length))=qJp (4,[41]):=s2.1
  have hj:(qLh (j+1) (pcs ps (3,0,0,s) (j+1) [])).length=0:=rfl
  rw[hj] at hlen ⊢
  have hsz:qBp []=0:=rfl
  rw[hsz] at hl
  have RA:=(hp t (jJ ..)).p0 k (d+1) hk i l [] s1 (qTg zBj s2 (by omega) 1) (by omega)
  unfold qYf
  refine RA.bind (g':=True) (fun _=> .pure trivial ?_) (by show max _ 0≤32↔_;simp only[and_true];omega)
  dsimp only
  rw[if_neg (by rw[qUt s2 (by decide+kernel)];exact kF)]
  refine Eq.trans (congrArg (fun z=>qBq z _) (qJj (s:=qEw) s2 rfl)) ?_
  simp only[qBq]
  show Sum.inr _=Sum.inr _
  rw[show qHv (l.length+t.size) []=[] from rfl,jY,kK,←gK]
  rfl
 |u::us,t,m+1,j,acc,i,l,bl,hp,hs,hlen,hl,hm=>by
  have hjp:qLh (j+1) (pcs ps (3,0,0,s) (j+1) (u::us))=sgP [44] [32]::(u.pc ps 0 []++qLh (j+1+1) (pcs ps (3,0,0,s) (j+1+1) us)):=by
   show(if j+1=0 then[] else[sgP [44] [32]])++(u.pc ps (qIi (3,0,0,s) (j+1)) []++qLh (j+1+1) (pcs ps (3,0,0,s) (j+1+1) us))=_
   rw[if_neg (by omega)];rfl
  rw[hjp] at hs hlen ⊢
  rw[jP,jE] at hs
  simp only[jD,jC] at hlen ⊢
  have hsz:qBp (u::us)=u.size+qBp us:=rfl
  rw[hsz] at hl
  obtain⟨s1,s2⟩:=qRp hs
  obtain⟨s2,s3⟩:=s2
  have s2:qIz (tkAt ts (i+(t.pc ps 0 []).length))=qJp (4,[44]):=s2
  have ft:(t.flat l.length).length=t.size:=qHk ..
  have RA:=(hp t (jJ ..)).p0 k (d+1) hk i l [] s1 (qTg zNe s2 (by omega) 1) (by omega)
  have RB:=zJw s hk us u m (j+1) (acc++[((l.length+t.size-1:Nat):Int)]) (i+(t.pc ps 0 []).length+1) (l++t.flat l.length) bl (fun v hv=>hp v (jL _ hv)) s3 (by omega) (by rw[jC,ft];omega) (by simp only[jD] at hm;omega)
  unfold qYf
  refine RA.bind (fun _=> ?_) (g':=max (u.dep 0 (d+1)) (deps (3,0,0,s) (j+1+1) (d+1) us)≤32) (by show max _ (max (u.dep 0 (d+1)) _)≤32↔_;omega)
  dsimp only
  rw[if_pos (qPd (s:=qOj) s2 rfl)]
  rw[jC,ft] at RB
  have e1:i+(t.pc ps 0 []).length+1+((u.pc ps 0 []).length+((qLh (j+1+1) (pcs ps (3,0,0,s) (j+1+1) us)).length+1))=i+((t.pc ps 0 []).length+((u.pc ps 0 []).length+(qLh (j+1+1) (pcs ps (3,0,0,s) (j+1+1) us)).length+1+1)):=by omega
  rw[e1] at RB
  have e2:l++t.flat l.length++(u.flat (l.length+t.size)++qHv (l.length+t.size+u.size) us)=l++(t.flat l.length++qHv (l.length+t.size) (u::us)):=by
   rw[jE];rfl
  rw[e2] at RB
  have e3:acc++[((l.length+t.size-1:Nat):Int)]++qDh (l.length+t.size) (u::us)=acc++qDh l.length (t::u::us):=by
   rw[jE];rfl
  rw[e3] at RB
  exact RB
theorem zVq{s:ByteArray}{ks:List Rose}(h:qDo s=true)(hks:∀t∈ks,Pk ts ps t∧Pz ts ps t):Pk ts ps (.mk (3,0,0,s) ks):=by
 have hlv:lvH (3,0,0,s)=4:=rfl
 obtain⟨n1,n2,n3⟩:=qVh h
 have hpc:∀bl,(Rose.mk (3,0,0,s) ks).pc ps 0 bl=wdP s.data.toList []::sgP [40] []::(qLh 0 (pcs ps (3,0,0,s) 0 ks)++[sgP [41] bl]):=fun bl=>by
  rw[zBv (by omega)];rfl
 refine zPj (lv:=4) hlv (by decide) (by decide) (fun i bl hs=>by rw[hpc] at hs;exact qQd hs.1 n3) (fun k d hk=> ?_) fun _ _ _ h=>by omega
 intro i l bl hs hn hl
 have hflat:(Rose.mk (3,0,0,s) ks).flat l.length=qHv l.length ks++[qJu (3,0,0,s) (qDh l.length ks)]:=by unfold Rose.flat;rfl
 have hsize:(Rose.mk (3,0,0,s) ks).size=qBp ks+1:=rfl
 have hdep:(Rose.mk (3,0,0,s) ks).dep 0 d=max d (deps (3,0,0,s) 0 (d+1) ks):=by rw[qXf (by omega)];rfl
 simp only[hpc] at hs hn ⊢
 rw[hsize] at hl
 rw[hflat,hsize,hdep]
 simp only[jD,jC,jF] at hn ⊢
 obtain⟨s1,s2,s3⟩:=hs
 have hlen:=hn.1
 have hf:PL ts ps (qEb ts ps k) 4 (i,l)=qBq (qKq ts (qEb ts ps k) (i+1,l)) fun q=>qLp (tkAt ts i) (3,0,0,s,q.2) q.1:=by
  show qJy ts ps (qEb ts ps k) (i,l)=_
  rw[qWx s1,if_neg n1,if_neg (by rw[show resC (⟨⟨s.data.toList⟩⟩:ByteArray)=false from n2];exact kF),if_pos (qPd (s:=qNf) s2 rfl)]
 have ha:qKq ts (qEb ts ps k) (i+1,l)=if isC ts 4 qEw (i+1+1) then .inr ((i+1+1+1,l),[]) else qYf ts (qEb ts ps k) (ts.length+1) [] (i+1+1,l):=by
  unfold qKq
  dsimp only
  rw[qJj (s:=qNf) s2 rfl]
  rfl
 rw[hf,ha]
 cases ks with
 |nil=>
  have s3:qIz (tkAt ts (i+1+1))=qJp (4,[41]):=s3.1
  have hj:(qLh 0 (pcs ps (3,0,0,s) 0 [])).length=0:=rfl
  rw[hj] at hn ⊢
  have hsz:qBp []=0:=rfl
  rw[hsz] at hl
  rw[if_pos (qPd (s:=qEw) s3 rfl)]
  refine .pure (by show max d 0≤32;omega) ?_
  simp only[qBq]
  rw[qMa (by omega),show i+1+1+1=i+(0+(0+1)+1+1) by omega]
  rfl
 |cons u us=>
  have hjp:qLh 0 (pcs ps (3,0,0,s) 0 (u::us))=u.pc ps 0 []++qLh (0+1) (pcs ps (3,0,0,s) (0+1) us):=rfl
  rw[hjp] at s3 hlen ⊢
  simp only[jC] at hlen ⊢
  rw[jE] at s3
  have hz:isC ts 4 qEw (i+1+1)=false:=(hks u (jJ ..)).2 0 (i+1+1) [] (qRp s3).1
  rw[if_neg (by rw[hz];exact kF)]
  have hsz:qBp (u::us)=u.size+qBp us:=rfl
  rw[hsz] at hl
  have hjl:=zFc (pcs ps (3,0,0,s) (0+1) us) 0
  have hpl:(pcs ps (3,0,0,s) (0+1) us).length=us.length:=by
   clear hjl hlen s3 hjp hpc hks hflat hsize hdep hn hl hsz hf ha
   generalize 0+1=j
   induction us generalizing j with
   |nil=>rfl
   |cons a r ih=>show(pcs ps (3,0,0,s) (j+1) r).length+1=_;rw[ih];rfl
  rw[hpl] at hjl
  have RA:=zJw s (k:=k) (d:=d) (by omega) us u (ts.length+1) 0 [] (i+1+1) l bl (fun v hv=>(hks v hv).1) s3 (by omega) (by omega) (by omega)
  refine RA.bind (g':=True) (fun _=> .pure trivial ?_) (by show max d (max (u.dep 0 (d+1)) _)≤32↔_;simp only[and_true];omega)
  dsimp only
  have fl:(u.flat l.length++qHv (l.length+u.size) us).length=u.size+qBp us:=by
   rw[jC,qHk,qKu]
  rw[qMa (by rw[jC,fl];omega),jC,fl]
  have e1:i+1+1+((u.pc ps 0 []).length+((qLh (0+1) (pcs ps (3,0,0,s) (0+1) us)).length+1))=i+((u.pc ps 0 []).length+(qLh (0+1) (pcs ps (3,0,0,s) (0+1) us)).length+(0+1)+1+1):=by omega
  rw[e1,jE,hsz,show l.length+(u.size+qBp us+1)-1=l.length+(u.size+qBp us) by omega]
  rfl
theorem zUz(hps:∀s∈ps,qDo s=true)(hfi:∀j,j<ps.length→ps.findIdx? (fun x=>decide (x=ps.getD j ⟨#[]⟩))=some j){t:Rose}(hf:Fine ps.length t):Pk ts ps t∧Pn ts ps t∧Pz ts ps t:=by
 induction hf with
 |num n h0 h1=>exact⟨num_pk h0 h1,zEi fun _ i bl hs=>(qZv hs).1,zEx fun i bl hs=>(qZv hs).2⟩
 |par i h=>
  have hmem:ps.getD i ⟨#[]⟩∈ps:=by
   rw[k9,List.getElem?_eq_getElem h]
   exact jW h
  exact⟨par_pk h hps (hfi i h),zEi fun _ j bl hs=>qQd hs.1 (qVh (hps _ hmem)).2.2,zEx fun j bl hs=>qTz hs.1⟩
 |call s ks h hk ih=>exact⟨zVq h fun t ht=>⟨(ih t ht).1,(ih t ht).2.2⟩,zEi fun _ j bl hs=>qQd hs.1 (qVh h).2.2,zEx fun j bl hs=>qTz hs.1⟩
 |bin op a b h0 h1 ha hb iha ihb=>
  obtain⟨e,l1,l3⟩:=lvOp h0 h1
  obtain⟨nl,enl,hnl⟩:∃nl:Nat,qIi (4,0,op,emB) 0=(nl:Int)∧1≤nl:=by
   unfold qIi
   rw[if_pos rfl,if_pos rfl,e]
   split
   ·exact⟨2,rfl,by decide⟩
   ·exact⟨levP op,rfl,l1⟩
  have hb:∀bl,qOl ps (4,0,op,emB) (pcs ps (4,0,op,emB) 0 [a,b]) bl=a.pc ps (nl:Int) [32]++(sgP (qUh op).data.toList [32]::b.pc ps (qIi (4,0,op,emB) 1) bl):=fun bl=>by
   rw[←enl];rfl
  exact⟨bin_pk h0 h1 iha.1 ihb.1 iha.2.1,zEi fun _ i bl hs=>by rw[hb] at hs;exact iha.2.1 nl hnl i [32] (qRp hs).1,zEx fun i bl hs=>by rw[hb] at hs;exact iha.2.2 nl i [32] (qRp hs).1⟩
 |ite a b c ha hb hc iha ihb ihc=>exact⟨ite_pk iha.1 ihb.1 ihc.1,zEi fun h=>absurd h (by decide),zEx fun i bl hs=>qTz hs.1⟩
 |read s a h ha iha=>exact⟨zVr h iha.1,zEi fun _ i bl hs=>qQd hs.1 (by decide+kernel),zEx fun i bl hs=>qTz hs.1⟩
 |look k s hk h=>
  refine⟨zOs (.inl ⟨hk,h⟩),zEi fun _ i bl hs=> ?_,zEx fun i bl hs=> ?_⟩
  ·rcases hk with rfl|rfl
   ·exact qQd (w:=(qSc 7).data.toList) hs.1 (by decide+kernel)
   ·exact qQd (w:=(qSc 8).data.toList) hs.1 (by decide+kernel)
  ·rcases hk with rfl|rfl<;>exact qTz hs.1
 |env s h=>exact⟨zOs (.inr ⟨rfl,h⟩),zEi fun _ i bl hs=>qQd (w:=(qSc 9).data.toList) hs.1 (by decide+kernel),zEx fun i bl hs=>qTz hs.1⟩
 |flip n h=>exact⟨zUq h,zEi fun _ i bl hs=>qQd hs.1 (by decide+kernel),zEx fun i bl hs=>qTz hs.1⟩
end
end
section
open Go Go.Dc Go.Proofs
theorem qVo{α:Type}[DecidableEq α]:∀{l seen:List α},dupG seen l=false→∀y∈l,y∉seen
 |[],_,_,y,hy=>by cases hy
 |x::l,seen,h,y,hy=>by
  unfold dupG at h
  simp only[kU,decide_eq_false_iff_not] at h
  rcases jR.1 hy with rfl|hy
  ·exact h.1
  ·exact fun g=>qVo h.2 y hy (kA _ g)
theorem zOk:∀{l seen:List ByteArray},dupG seen l=false→∀j,j<l.length→l.findIdx? (fun x=>decide (x=l.getD j ⟨#[]⟩))=some j
 |[],_,_,j,hj=>by cases hj
 |x::l,seen,h,0,_=>by
  rw[List.findIdx?_cons]
  have:decide (x=(x::l).getD 0 ⟨#[]⟩)=true:=jZ rfl
  rw[if_pos this]
 |x::l,seen,h,j+1,hj=>by
  have h2:=h
  unfold dupG at h2
  simp only[kU] at h2
  have hj:j<l.length:=by simpa using hj
  have e:(x::l).getD (j+1) ⟨#[]⟩=l.getD j ⟨#[]⟩:=rfl
  have hne:x≠l.getD j ⟨#[]⟩:=fun g=>by
   have hm:l.getD j ⟨#[]⟩∈l:=by
    rw[k9,List.getElem?_eq_getElem hj]
    exact jW hj
   refine qVo h2.2 _ hm ?_
   rw[←g]
   exact kI _ (kO.2 rfl)
  rw[List.findIdx?_cons,e,if_neg (by simpa using hne),zOk h2.2 j hj]
  rfl
def zMr:List UInt8:=[102,117,110,99]
def zQc:List UInt8:=[116,101,115,116]
def wGen:List UInt8:=[103,101,110]
def wPkg:List UInt8:=[112,97,99,107,97,103,101]
def wImp:List UInt8:=[105,109,112,111,114,116]
def qNw:Nat→List ByteArray→List Pc
 |_,[]=>[]
 |k,p::r=>(if k=0 then[] else[sgP [44] [32]])++(wdP p.data.toList []::qNw (k+1) r)
def qTo(d:Dl):List Pc:=
 if d.1=1 then wdP zMr [32]::wdP d.2.1.data.toList []::sgP [40] []::(qNw 0 d.2.2.1++[sgP [41] [32]])
 else if d.1=2 then[wdP zQc [32],wdP d.2.1.data.toList [32]]
 else[wdP wGen [32],txP d.2.1.data.toList [32]]
def qPx(d:Dl):List Pc:=match zIl d.2.2.2 with
 |some t=>t.pc d.2.2.1 0 []
 |none=>[]
def qMt(d:Dl):List Pc:=qTo d++(sgP [61] [32]::(qPx d++[sgP [59] [10]]))
def qVs(s:ByteArray):List Pc:=[wdP wImp [32],wdP s.data.toList [],sgP [59] [10]]
def qZp(f:Sr):List Pc:=wdP wPkg [32]::wdP f.1.data.toList []::sgP [59] [10]::(f.2.1.flatMap qVs++f.2.2.flatMap qMt)
structure OkD(d:Dl):Prop where
 good:GoodD d
 pars:d.2.2.1.length≤8
 body:d.2.2.2.length≤256
 dup:dupL d.2.2.1=false
theorem OkD.tree{d:Dl}(h:OkD d):∃t,zIl d.2.2.2=some t∧d.2.2.2=t.flat 0∧Fine d.2.2.1.length t:=by
 obtain⟨t,h1,h2⟩:=qWw h.good.tree
 exact⟨t,h1,h2,zUj t 0 fun x hx=>h.good.nodes x (by rw[h2];exact hx)⟩
theorem OkD.kind{d:Dl}(h:OkD d):(d.1=1∨d.1=2)∧qDo d.2.1=true∨d.1=3∧qNe d.2.1.data.toList=true:=by
 have:=h.good.head
 unfold zEd at this
 split at this
 ·rename_i g;exact .inl ⟨g,this⟩
 ·split at this
  ·rename_i g;exact .inr ⟨g,this⟩
  ·cases this
theorem OkD.nopars{d:Dl}(h:OkD d)(h1:d.1≠1):d.2.2.1=[]:=by
 cases hp:d.2.2.1 with
 |nil=>rfl
 |cons p r=>exact absurd (h.good.pars p (by rw[hp];exact jJ ..)).1 h1
theorem OkD.names{d:Dl}(h:OkD d):∀s∈d.2.2.1,qDo s=true:=fun s hs=>(h.good.pars s hs).2
theorem zIx{d:Dl}(h:OkD d):qDb (qPx d)=wrD d:=by
 obtain⟨t,h1,-,h3⟩:=h.tree
 unfold qPx wrD
 rw[h1]
 simp only
 rw[zPo h3,jY]
theorem zCd:∀(l:List ByteArray) (k:Nat),qDb (qNw k l)=qNl k (l.map fun s=>s.data.toList)
 |[],_=>rfl
 |p::l,k=>by
  simp only[qNw,kC,qNl,qJh,wdP,qEt,by1,zCd l,jQ]
  congr 1
  unfold sepK
  split
  ·rfl
  ·rfl
theorem zVc(l:List UInt8):(qEy l).data.toList=l:=rfl
theorem zHv{d:Dl}(h:OkD d):qDb (qMt d)=qQb d:=by
 unfold qMt qQb
 rw[qJh]
 have e:qDb (qTo d)=(zDm d).data.toList++[32]:=by
  unfold qTo zDm
  by_cases h1:d.1=1
  ·rw[if_pos h1,if_pos h1]
   simp only[wdP,sgP,qEt,qJh,zCd,by1,by4,qDb,qFo,qYb,zBe,zMr,jY,jQ,jE,jP]
  ·rw[if_neg h1,if_neg h1]
   by_cases h2:d.1=2
   ·rw[if_pos h2,if_pos h2]
    simp only[wdP,qEt,by1,qDb,qFo,qYb,zQc,jY,jQ,jE,jP]
   ·rw[if_neg h2,if_neg h2]
    simp only[wdP,txP,qEt,by1,by3,qDb,qFo,qYb,wGen,jY,jQ,jE,jP]
 rw[e]
 simp only[sgP,qEt,qJh,zIx h,by4,qDb,qFo,qYb,zVc,jY,jQ,jE,jP]
theorem zLz(s:ByteArray):qDb (qVs s)=impT s:=by
 unfold qVs impT
 simp only[wdP,sgP,qEt,by1,by4,qDb,qFo,qYb,wImp,jY,jQ,jE,jP]
theorem qWk{α:Type}(g:α→List Pc)(h:α→List UInt8):∀(l:List α),(∀x∈l,qDb (g x)=h x)→qDb (l.flatMap g)=l.flatMap h
 |[],_=>rfl
 |x::l,hl=>by
  rw[kH,kH,qJh,hl x (jJ ..),qWk g h l fun y hy=>hl y (jL _ hy)]
theorem zFu{f:Sr}(h:GoodS f):∀d∈f.2.2,OkD d:=fun d hd=>by
 obtain⟨a,b,c,-⟩:=h.decs d hd
 refine⟨a,b,c,?_⟩
 have:=h.once
 unfold qYp at this
 simp only[kU,List.any_eq_false] at this
 exact(Bool.not_eq_true _).mp (this.1 d hd)
theorem zIa{f:Sr}(h:GoodS f):qDb (qZp f)=fmtT f:=by
 unfold qZp fmtT pkgT
 simp only[wdP,sgP,qEt,qJh,by1,by4,qFo,qYb,wPkg,jQ,jE,jP]
 rw[qWk qVs impT _ fun s _=>zLz s,qWk qMt qQb _ fun d hd=>zHv (zFu h d hd)]
theorem blP2:blP [10]:=fun x h=>by rw[kO.1 h];kernel_rfl
theorem gdE{rest:List Pc}(hg:qLq rest):qLq (sgP [61] [32]::rest):=
 ⟨.inr (.inr (.inr ⟨rfl,by decide⟩)),blP1,fun x r h=>by
  obtain⟨rfl,-⟩:=List.cons.inj (show 32::qDb rest=x::r from h)
  kernel_rfl,hg⟩
theorem okFunc:okC (1,zMr):= .inl ⟨rfl,⟨102,_,rfl,by kernel_rfl⟩,by decide+kernel,by decide⟩
theorem okTest:okC (1,zQc):= .inl ⟨rfl,⟨116,_,rfl,by kernel_rfl⟩,by decide+kernel,by decide⟩
theorem okGen:okC (1,wGen):= .inl ⟨rfl,⟨103,_,rfl,by kernel_rfl⟩,by decide+kernel,by decide⟩
theorem okPkg:okC (1,wPkg):= .inl ⟨rfl,⟨112,_,rfl,by kernel_rfl⟩,by decide+kernel,by decide⟩
theorem okImp:okC (1,wImp):= .inl ⟨rfl,⟨105,_,rfl,by kernel_rfl⟩,by decide+kernel,by decide⟩
theorem zSr{l:List ByteArray}{k:Nat}{rest:List Pc}(hs:qVw (qDb rest)=true):qVw (qDb (qNw (k+1) l++rest))=true:=by
 cases l with
 |nil=>exact hs
 |cons p r=>
  show qVw (qDb (((if k+1=0 then[] else[sgP [44] [32]])++(wdP p.data.toList []::qNw (k+1+1) r))++rest))=true
  rw[if_neg (by omega)]
  kernel_rfl
theorem zTl:∀(l:List ByteArray) (k:Nat) (rest:List Pc),(∀s∈l,qDo s=true)→qVw (qDb rest)=true→qLq rest→qLq (qNw k l++rest)
 |[],_,_,_,_,hg=>hg
 |p::l,k,rest,hl,hs,hg=>by
  have ih:=zTl l (k+1) rest (fun s hs=>hl s (jL _ hs)) hs hg
  have h1:qLq (wdP p.data.toList []::(qNw (k+1) l++rest)):=gdW (qTh (qPi (hl p (jJ ..)))) blP0 (zSr hs) ih
  show qLq (((if k=0 then[] else[sgP [44] [32]])++(wdP p.data.toList []::qNw (k+1) l))++rest)
  rw[jE]
  split
  ·exact h1
  ·exact gdS (by decide) (by decide) blP1 h1
theorem zTs{d:Dl}(h:OkD d){rest:List Pc}(hg:qLq rest):qLq (qMt d++rest):=by
 obtain⟨t,h1,-,h3⟩:=h.tree
 have hps:∀s∈d.2.2.1,qPo s=true:=fun s hs=>qPi (h.names s hs)
 have hb:qLq (sgP [61] [32]::((qPx d++[sgP [59] [10]])++rest)):=by
  refine gdE ?_
  unfold qPx
  rw[h1,jE]
  exact zUm hps h3 0 [] _ blP0 (by kernel_rfl) (gdS (by decide) (by decide) blP2 hg)
 unfold qMt
 rw[jE,jP]
 generalize hR:sgP [61] [32]::((qPx d++[sgP [59] [10]])++rest)=R at hb
 unfold qTo
 rcases h.kind with ⟨hk,hn⟩|⟨hk,hn⟩
 ·by_cases k1:d.1=1
  ·rw[if_pos k1]
   show qLq (wdP zMr [32]::wdP d.2.1.data.toList []::sgP [40] []::((qNw 0 d.2.2.1++[sgP [41] [32]])++R))
   rw[jE]
   exact gdW okFunc blP1 (by kernel_rfl) (gdW (qTh (qPi hn)) blP0 (by kernel_rfl) (gdS (by decide) (by decide) blP0 (zTl _ 0 _ h.names (by kernel_rfl) (gdS (by decide) (by decide) blP1 hb))))
  ·rw[if_neg k1,if_pos (hk.resolve_left k1)]
   exact gdW okTest blP1 (by kernel_rfl) (gdW (qTh (qPi hn)) blP1 (by kernel_rfl) hb)
 ·rw[if_neg (by omega),if_neg (by omega)]
  obtain⟨p1,p2⟩:=zEv hn
  exact gdW okGen blP1 (by kernel_rfl) (gdT p1 p2 blP1 hb)
theorem zIc{α:Type}(g:α→List Pc):∀(l:List α) (rest:List Pc),(∀x∈l,∀r,qLq r→qLq (g x++r))→qLq rest→qLq (l.flatMap g++rest)
 |[],_,_,hg=>hg
 |x::l,rest,hl,hg=>by
  rw[kH,jE]
  exact hl x (jJ ..) _ (zIc g l rest (fun y hy=>hl y (jL _ hy)) hg)
theorem zVp{f:Sr}(h:GoodS f):qLq (qZp f):=by
 have hd:=zIc qMt f.2.2 [] (fun d hd r hr=>zTs (zFu h d hd) hr) trivial
 rw[jY] at hd
 have hi:=zIc qVs f.2.1 (f.2.2.flatMap qMt) (fun s hs r hr=>gdW okImp blP1 (by kernel_rfl) (gdW (qTh (qPi (h.imps s hs))) blP0 (by kernel_rfl) (gdS (by decide) (by decide) blP2 hr))) hd
 exact gdW okPkg blP1 (by kernel_rfl) (gdW (qTh (qPi h.pkg)) blP0 (by kernel_rfl) (gdS (by decide) (by decide) blP2 hi))
end
section
open Go Go.Dc Go.Proofs
section
variable {ts:List Tok} {i:Nat}
theorem qVp{s:ByteArray}(h:qIz (tkAt ts i)=qJp (1,s.data.toList))(hn:qDo s=true):qOa ts i= .inr (i+1,tkAt ts i):=by
 unfold qOa
 rw[qZf (qFp h) rfl]
 simp only[qBq]
 have e:(tkAt ts i).2.1=s:=tk2 (qFp h)
 rw[e,if_neg (by rw[(qVh hn).2.1];exact kF)]
theorem zNq:∀(l:List ByteArray) (j:Nat),l.length≤(qNw (j+1) l).length
 |[],_=>kZ _
 |p::l,j=>by
  have:=zNq l (j+1)
  show l.length+1≤((if j+1=0 then[] else[sgP [44] [32]])++(wdP p.data.toList []::qNw (j+1+1) l)).length
  rw[if_neg (by omega)]
  simp only[jC,jD,jF]
  omega
theorem zGu:∀(r:List ByteArray) (p:ByteArray) (n j:Nat) (acc:List ByteArray) (i:Nat) (bl:List UInt8),(∀s∈p::r,qDo s=true)→dupG acc (p::r)=false→acc.length+r.length+1≤8→Seg ts i (corP (wdP p.data.toList []::(qNw (j+1) r++[sgP [41] bl])))→r.length<n→
  qPj ts n acc i= .inr (i+(1+(qNw (j+1) r).length+1),acc++p::r)
 |_,_,0,_,_,_,_,_,_,_,_,h=>absurd h (kN _)
 |[],p,n+1,j,acc,i,bl,hn,hd,hl,hs,_=>by
  obtain⟨s1,s2,-⟩:=hs
  have e:(tkAt ts i).2.1=p:=tk2 (qFp s1)
  have hnot:=qVo hd p (jJ ..)
  unfold qPj
  rw[qVp s1 (hn p (jJ ..))]
  simp only[qBq]
  rw[if_neg (by simp only[jF] at hl;omega),e,if_neg hnot,if_neg (by rw[qUt s2 (by decide+kernel)];exact kF),qJj (s:=qEw) s2 rfl]
  rfl
 |q::r,p,n+1,j,acc,i,bl,hn,hd,hl,hs,hm=>by
  have hjp:qNw (j+1) (q::r)=sgP [44] [32]::(wdP q.data.toList []::qNw (j+1+1) r):=by
   show(if j+1=0 then[] else[sgP [44] [32]])++(wdP q.data.toList []::qNw (j+1+1) r)=_
   rw[if_neg (by omega)];rfl
  rw[hjp] at hs ⊢
  obtain⟨s1,s2,s3⟩:=hs
  have e:(tkAt ts i).2.1=p:=tk2 (qFp s1)
  have hnot:=qVo hd p (jJ ..)
  unfold dupG at hd
  simp only[kU] at hd
  have ih:=zGu r q n (j+1) (acc++[p]) (i+1+1) bl (fun s hs=>hn s (jL _ hs)) hd.2 (by simp only[jC,jD,jF] at hl ⊢;omega) s3 (by simp only[jD] at hm;omega)
  unfold qPj
  rw[qVp s1 (hn p (jJ ..))]
  simp only[qBq]
  rw[if_neg (by simp only[jD] at hl;omega),e,if_neg hnot,if_pos (qPd (s:=qOj) s2 rfl),ih]
  simp only[jD,jE,jP,jQ]
  show Sum.inr _=Sum.inr _
  rw[show i+1+1+(1+(qNw (j+1+1) r).length+1)=i+(1+((qNw (j+1+1) r).length+1+1)+1) by omega]
theorem zEo{l:List ByteArray}{bl:List UInt8}(hn:∀s∈l,qDo s=true)(hd:dupL l=false)(hl:l.length≤8)(hs:Seg ts i (corP (sgP [40] []::(qNw 0 l++[sgP [41] bl]))))(hlen:i+(qNw 0 l).length+2<ts.length):
  qIf ts i= .inr (i+(1+(qNw 0 l).length+1),l):=by
 obtain⟨s1,s2⟩:=hs
 unfold qIf
 rw[qJj (s:=qNf) s1 rfl]
 simp only[qBq]
 cases l with
 |nil=>
  have s2:qIz (tkAt ts (i+1))=qJp (4,[41]):=s2.1
  rw[if_pos (qPd (s:=qEw) s2 rfl)]
  rfl
 |cons p r=>
  have hjp:qNw 0 (p::r)=wdP p.data.toList []::qNw (0+1) r:=rfl
  rw[hjp] at s2 hlen ⊢
  have hq:=zNq r 0
  simp only[jD] at hlen hl ⊢
  rw[if_neg (by rw[qTz s2.1];exact kF)]
  have:=zGu r p (ts.length+1) 0 [] (i+1) bl hn hd (by simp only[jF];omega) s2 (by omega)
  rw[this,jQ,show i+1+(1+(qNw (0+1) r).length+1)=i+(1+((qNw (0+1) r).length+1)+1) by omega]
end
theorem Res.stepR{α β:Type}{x:Flt⊕α}{v:α}{f:α→Flt⊕β}{g:Prop}{w:β}(h:x= .inr v)(r:Res (f v) g w):Res (qBq x f) g w:=by
 rw[h];exact r
section
variable {ts:List Tok}
theorem zQt{d:Dl}(h:OkD d){i:Nat}{k:Int}{nm:ByteArray}(hs:Seg ts i (corP (sgP [61] [32]::(qPx d++[sgP [59] [10]]))))(hlen:i+((qPx d).length+1+1)<ts.length):
  Res (qBq (qEx ts sEq i) fun j=>qBq (qEb ts d.2.2.1 32 (j,[])) fun c=>qBq (qEx ts qTw c.1.1) fun m=>(.inr (m,(k,nm,d.2.2.1,c.1.2)):Flt⊕(Nat×Dl))) (depD d≤32) (i+((qPx d).length+1+1),(k,nm,d.2.2.1,d.2.2.2)):=by
 obtain⟨t,h1,h2,h3⟩:=h.tree
 have et:qPx d=t.pc d.2.2.1 0 []:=by unfold qPx;rw[h1]
 have ed:depD d=t.dep 0 1:=by unfold depD;rw[h1]
 rw[et] at hs hlen ⊢
 rw[ed]
 obtain⟨s1,s2⟩:=hs
 obtain⟨s2,s3⟩:=qRp s2
 have s3:qIz (tkAt ts (i+1+(t.pc d.2.2.1 0 []).length))=qJp (4,[59]):=s3.1
 have hp:=(zUz (ts:=ts) h.names (zOk h.dup) h3).1
 have hsz:t.size=d.2.2.2.length:=by
  have:=qHk t 0
  rw[←h2] at this;exact this.symm
 have hbody:=h.body
 have RA:=hp.p0 32 1 (by decide) (i+1) [] [] s2 (qTg zQp s3 (by omega) 1) (by rw[hsz];simpa using h.body)
 refine Res.stepR (qJj (s:=sEq) s1 rfl) ?_
 refine RA.bind (g':=True) (fun _=> .pure trivial ?_) (by simp)
 dsimp only
 rw[qJj (s:=qTw) s3 rfl]
 simp only[qBq,jQ,jF]
 rw[←h2,show i+1+(t.pc d.2.2.1 0 []).length+1=i+((t.pc d.2.2.1 0 []).length+1+1) by omega]
theorem zRe{d:Dl}(h:OkD d){i:Nat}{before:List Dl}(hb:before.length<64)(hnew:before.any (fun x=>x.1==d.1&&decide (x.2.1=d.2.1))=false)(hs:Seg ts i (corP (qMt d)))(hlen:i+(qMt d).length<ts.length):
  Res (qSn ts before i) (depD d≤32) (i+(qMt d).length,d):=by
 unfold qMt at hs hlen ⊢
 simp only[jC,jD,jF] at hlen ⊢
 obtain⟨s1,s2⟩:=qRp hs
 have hd4:((d.1,d.2.1,d.2.2.1,d.2.2.2):Dl)=d:=rfl
 have T:=fun(j:Nat) (hj:j=i+(qTo d).length)=>zQt (ts:=ts) h (i:=j) (k:=d.1) (nm:=d.2.1) (by rw[hj];exact s2) (by omega)
 unfold qSn
 dsimp only
 by_cases k1:d.1=1
 ·have eh:qTo d=wdP zMr [32]::wdP d.2.1.data.toList []::sgP [40] []::(qNw 0 d.2.2.1++[sgP [41] [32]]):=if_pos k1
  have hn:qDo d.2.1=true:=by
   rcases h.kind with ⟨-,g⟩|⟨g,-⟩
   ·exact g
   ·omega
  rw[eh] at s1 T hlen ⊢
  simp only[jC,jD,jF] at T hlen ⊢
  obtain⟨a1,a2,a3⟩:=s1
  have e1:(tkAt ts i).2.1=zLt:=tk2 (qFp a1)
  have e2:(tkAt ts (i+1)).2.1=d.2.1:=tk2 (qFp a2)
  have ek:qNu (tkAt ts i).2.1=1:=by rw[e1];decide+kernel
  rw[if_neg (by rw[ek,tk1 (qFp a1)];show ¬((1:Int)≠1∨(1:Int)=0);decide),if_neg (by omega),ek,if_neg (by decide),qVp a2 hn]
  simp only[qBq]
  rw[e2,if_neg (by rw[←k1,hnew];exact kF),if_pos trivial,zEo h.names h.dup h.pars a3 (by omega)]
  simp only
  rw[←k1]
  have:=T (i+1+1+(1+(qNw 0 d.2.2.1).length+1)) (by omega)
  rw[show i+1+1+(1+(qNw 0 d.2.2.1).length+1)+((qPx d).length+1+1)=i+((qNw 0 d.2.2.1).length+(0+1)+1+1+1+((qPx d).length+(0+1)+1)) by omega] at this
  exact this
 ·have hnp:=h.nopars k1
  rcases h.kind with ⟨k2,hn⟩|⟨k3,hn⟩
  ·have k2:d.1=2:=k2.resolve_left k1
   have eh:qTo d=[wdP zQc [32],wdP d.2.1.data.toList [32]]:=by unfold qTo;rw[if_neg k1,if_pos k2]
   rw[eh] at s1 T hlen ⊢
   simp only[jD,jF] at T hlen ⊢
   obtain⟨a1,a2,-⟩:=s1
   have e1:(tkAt ts i).2.1=zMl:=tk2 (qFp a1)
   have e2:(tkAt ts (i+1)).2.1=d.2.1:=tk2 (qFp a2)
   have ek:qNu (tkAt ts i).2.1=2:=by rw[e1];decide+kernel
   rw[if_neg (by rw[ek,tk1 (qFp a1)];show ¬((1:Int)≠1∨(2:Int)=0);decide),if_neg (by omega),ek,if_neg (by decide),qVp a2 hn]
   simp only[qBq]
   rw[e2,if_neg (by rw[←k2,hnew];exact kF),if_neg (by decide)]
   simp only
   have:=T (i+1+1) (by omega)
   rw[hnp,k2,show i+1+1+((qPx d).length+1+1)=i+(0+1+1+((qPx d).length+(0+1)+1)) by omega] at this
   refine Eq.mp (congrArg (Res _ _) ?_) this
   rw[←hd4,hnp,k2]
  ·have eh:qTo d=[wdP wGen [32],txP d.2.1.data.toList [32]]:=by unfold qTo;rw[if_neg k1,if_neg (by omega)]
   rw[eh] at s1 T hlen ⊢
   simp only[jD,jF] at T hlen ⊢
   obtain⟨a1,a2,-⟩:=s1
   have e1:(tkAt ts i).2.1=sGen:=tk2 (qFp a1)
   have e2:(tkAt ts (i+1)).2.1=d.2.1:=tk2 (qRb a2)
   have ek:qNu (tkAt ts i).2.1=3:=by rw[e1];decide+kernel
   rw[if_neg (by rw[ek,tk1 (qFp a1)];show ¬((1:Int)≠1∨(3:Int)=0);decide),if_neg (by omega),ek,if_pos rfl,qZd a2 hn]
   simp only[qBq]
   rw[e2,if_neg (by rw[←k3,hnew];exact kF),if_neg (by decide)]
   simp only
   have:=T (i+1+1) (by omega)
   rw[hnp,k3,show i+1+1+((qPx d).length+1+1)=i+(0+1+1+((qPx d).length+(0+1)+1)) by omega] at this
   refine Eq.mp (congrArg (Res _ _) ?_) this
   rw[←hd4,hnp,k3]
theorem zGv:∀(ds before:List Dl) (n i:Nat),(∀d∈ds,OkD d)→before.length+ds.length≤64→dupG (before.map qRh) (ds.map qRh)=false→Seg ts i (corP (ds.flatMap qMt)++[((5,⟨#[]⟩,0):Core)])→i+(ds.flatMap qMt).length<ts.length→ds.length<n→
  Res (qUu ts n before i) (∀d∈ds,depD d≤32) (before++ds)
 |_,_,0,_,_,_,_,_,_,h=>absurd h (kN _)
 |[],before,n+1,i,_,_,_,hs,_,_=>by
  have s1:qIz (tkAt ts i)=(5,⟨#[]⟩,0):=hs.1
  unfold qUu
  rw[if_pos (tk1 s1),jY]
  exact .pure (fun d hd=>by cases hd) rfl
 |d::ds,before,n+1,i,hok,hl,hdup,hs,hlen,hm=>by
  rw[kH] at hs hlen
  rw[qZe,jE,qWu] at hs
  obtain⟨s1,s2⟩:=hs
  have hcl:(corP (qMt d)).length=(qMt d).length:=gD ..
  rw[hcl] at s2
  rw[jC] at hlen
  simp only[jD] at hl hm
  have hfirst:(tkAt ts i).1≠5:=by
   have hc:∃w r,qMt d=wdP w [32]::r:=by
    unfold qMt qTo
    split
    ·exact⟨_,_,rfl⟩
    ·split
     ·exact⟨_,_,rfl⟩
     ·exact⟨_,_,rfl⟩
   obtain⟨w,r,hw⟩:=hc
   rw[hw] at s1
   rw[tk1 (qFp s1.1)]
   show(1:Int)≠5
   decide
  have hnew:before.any (fun x=>x.1==d.1&&decide (x.2.1=d.2.1))=false:=by
   have:=qVo hdup (qRh d) (jJ ..)
   rw[List.any_eq_false]
   intro x hx
   simp only[jO,kG,jA]
   rintro⟨g1,g2⟩
   exact this (fQ.2 ⟨x,hx,Prod.ext g1 g2⟩)
  rw[kC] at hdup
  unfold dupG at hdup
  simp only[kU] at hdup
  have RA:=zRe (ts:=ts) (hok d (jJ ..)) (i:=i) (before:=before) (by omega) hnew s1 (by omega)
  have RB:=zGv ds (before++[d]) n (i+(qMt d).length) (fun x hx=>hok x (jL _ hx)) (by simp only[jC,jD,jF];omega) (by rw[gW];exact hdup.2) s2 (by omega) (by omega)
  unfold qUu
  rw[if_neg hfirst]
  refine RA.bind (fun _=> ?_) (g':=∀x∈ds,depD x≤32) (by simp)
  rw[jE] at RB
  exact RB
theorem zCk{pkg:ByteArray}:∀(r acc:List ByteArray) (n i:Nat) (c:Core),(∀s∈r,qDo s=true)→acc.length+r.length≤8→dupG acc r=false→pkg∉r→Seg ts i (corP (r.flatMap qVs)++[c])→(c.1==1&&decide (c.2.1=qRt))=false→r.length<n→
  qKs ts pkg n acc i= .inr (i+(r.flatMap qVs).length,acc++r)
 |_,_,0,_,_,_,_,_,_,_,_,h=>absurd h (kN _)
 |[],acc,n+1,i,c,_,_,_,_,hs,hc,_=>by
  have s1:qIz (tkAt ts i)=c:=hs.1
  unfold qKs
  rw[qQk s1,hc,if_neg kF,jY]
  rfl
 |s::r,acc,n+1,i,c,hn,hl,hd,hp,hs,hc,hm=>by
  rw[kH,qZe,jE,qWu] at hs
  obtain⟨⟨s1,s2,s3,-⟩,s4⟩:=hs
  have e2:(tkAt ts (i+1)).2.1=s:=tk2 (qFp s2)
  have hnot:=qVo hd s (jJ ..)
  unfold dupG at hd
  simp only[kU] at hd
  simp only[jD] at hl hm
  have ih:=zCk (pkg:=pkg) r (acc++[s]) n (i+1+1+1) c (fun x hx=>hn x (jL _ hx)) (by simp only[jC,jD,jF];omega) hd.2 (fun g=>hp (jL _ g)) s4 hc (by omega)
  have hif:isC ts 1 qRt i=true:=by rw[qQk (qFp s1)];decide+kernel
  unfold qKs
  rw[if_pos hif,if_neg (by omega),qVp s2 (hn s (jJ ..))]
  simp only[qBq]
  rw[e2,if_neg (by
   rintro(g|g)
   ·exact hp (by rw[g];exact jJ ..)
   ·exact hnot g),qJj (s:=qTw) s3 rfl]
  simp only
  rw[ih,kH,jC,jE]
  show Sum.inr _=Sum.inr _
  rw[show i+1+1+1+(r.flatMap qVs).length=i+((qVs s).length+(r.flatMap qVs).length) by show _=i+(3+_);omega]
  rfl
end
end
section
open Go Go.Dc Go.Proofs
theorem zSu{ts:List Tok}:∀(cs:List Core) (j:Nat),(∀n,∀hn:n<cs.length,qIz (tkAt ts (j+n))=cs[n])→Seg ts j cs
 |[],_,_=>trivial
 |c::cs,j,h=>⟨h 0 (by simp),zSu cs (j+1) fun n hn=>by
  have:=h (n+1) (by simpa using hn)
  rw[show j+1+n=j+(n+1) by omega,this]
  rfl⟩
theorem zVm{ts:List Tok}{cs:List Core}(h:ts.map qIz=cs):Seg ts 0 cs:=by
 subst h
 refine zSu _ 0 fun n hn=> ?_
 have hn:n<ts.length:=by simpa using hn
 rw[kK,List.getElem_map]
 unfold tkAt
 rw[k9,List.getElem?_eq_getElem hn]
 rfl
theorem qZm{α:Type}(g:α→List Pc)(k:Nat):∀(l:List α),(∀x∈l,k≤(g x).length)→k*l.length≤(l.flatMap g).length
 |[],_=>by simp
 |x::l,h=>by
  have h1:=h x (jJ ..)
  have h2:=qZm g k l fun y hy=>h y (jL _ hy)
  rw[kH,jC,jD,Nat.mul_add];omega
theorem qYo(d:Dl):∃w r,qMt d=wdP w [32]::r∧(w=zMr∨w=zQc∨w=wGen):=by
 unfold qMt qTo
 split
 ·exact⟨_,_,rfl,.inl rfl⟩
 ·split
  ·exact⟨_,_,rfl,.inr (.inl rfl)⟩
  ·exact⟨_,_,rfl,.inr (.inr rfl)⟩
theorem zSo{ts:List Tok}{f:Sr}(h:GoodS f)(hs:Seg ts 0 (corP (qZp f)++[((5,⟨#[]⟩,0):Core)]))(hlen:(qZp f).length<ts.length):Res (zDg ts) (∀d∈f.2.2,depD d≤32) f:=by
 have htw:=h.once
 unfold qYp at htw
 simp only[kU,decide_eq_false_iff_not] at htw
 obtain⟨-,t1,t2,t3⟩:=htw
 unfold qZp at hs hlen
 obtain⟨s1,s2,s3,s4⟩:=hs
 have s4:Seg ts 3 (corP (f.2.1.flatMap qVs++f.2.2.flatMap qMt)++[((5,⟨#[]⟩,0):Core)]):=s4
 rw[qZe,jE] at s4
 simp only[jD,jC] at hlen
 have e1:(tkAt ts (0+1)).2.1=f.1:=tk2 (qFp s2)
 have li:=qZm qVs 1 f.2.1 fun s _=>by show 1≤3;decide
 have ld:=qZm qMt 1 f.2.2 fun d _=>by
  obtain⟨w,r,hw,-⟩:=qYo d
  rw[hw];simp
 have hi:∃c,Seg ts 3 (corP (f.2.1.flatMap qVs)++[c])∧(c.1==1&&decide (c.2.1=qRt))=false:=by
  cases hd:f.2.2 with
  |nil=>
   rw[hd] at s4
   exact⟨(5,⟨#[]⟩,0),s4,rfl⟩
  |cons d ds=>
   rw[hd,kH] at s4
   obtain⟨w,r,hw,hk⟩:=qYo d
   rw[hw] at s4
   rw[qWu] at s4
   refine⟨qJp (1,w),qWu.2 ⟨s4.1,s4.2.1,trivial⟩,?_⟩
   rcases hk with rfl|rfl|rfl<;>decide+kernel
 obtain⟨c,hc1,hc2⟩:=hi
 have himp:=zCk (pkg:=f.1) f.2.1 [] (ts.length+1) 3 c h.imps (by simpa using h.impn) t2 t1 hc1 hc2 (by omega)
 rw[jQ] at himp
 have hcl:(corP (f.2.1.flatMap qVs)).length=(f.2.1.flatMap qVs).length:=gD ..
 rw[qWu,hcl] at s4
 have RD:=zGv f.2.2 [] (ts.length+1) (3+(f.2.1.flatMap qVs).length) (zFu h) (by simpa using h.decn) t3 s4.2 (by omega) (by omega)
 rw[jQ] at RD
 unfold zDg
 refine Res.stepR (zDs (s:=qVq) s1 rfl) ?_
 refine Res.stepR (qVp s2 h.pkg) ?_
 refine Res.stepR (qJj (s:=qTw) s3 rfl) ?_
 dsimp only
 rw[e1]
 refine Res.stepR himp ?_
 refine RD.bind (g':=True) (fun _=> .pure trivial rfl) (by simp)
theorem zJb{f:Sr}(hc:qMj f=0)(hl:(fmtT f).length≤16384):
  ((∀d∈f.2.2,depD d≤32)→qVz ⟨⟨fmtT f⟩⟩=(f,0,0))∧(¬(∀d∈f.2.2,depD d≤32)→∃z,qVz ⟨⟨fmtT f⟩⟩=(zAj,z,2)):=by
 have hg:=qZh hc
 rw[←zIa hg] at hl ⊢
 obtain⟨ts,t1,t2⟩:=zDj hl (zVp hg)
 have hlen:(qZp f).length<ts.length:=by
  have:=congrArg List.length t2
  simp only[gD,jC,jD,jF] at this
  omega
 have R:=zSo hg (zVm t2) hlen
 unfold qVz
 rw[t1]
 simp only[ne_eq,not_true_eq_false,jH]
 constructor
 ·intro h
  rw[R.1 h]
 ·intro h
  obtain⟨z,hz⟩:=R.2 h
  exact⟨z,by rw[hz]⟩
theorem zDe{f:Sr}(hc:qMj f=0):qUk f=if 16384<(fmtT f).length then(⟨#[]⟩,2) else if(qVz ⟨⟨fmtT f⟩⟩).2.2=2 then(⟨#[]⟩,2) else(qEy (fmtT f),0):=by
 unfold qUk
 by_cases hl:16384<(fmtT f).length
 ·rw[if_pos hl,if_pos hl]
  split<;>rfl
 ·rw[if_neg hl,if_neg hl]
  obtain⟨p1,p2⟩:=zJb hc (by omega)
  by_cases ha:∀d∈f.2.2,depD d≤32
  ·rw[if_neg,p1 ha,if_neg (by show ¬(0:Int)=2;decide)]
   rw[gQ]
   rintro⟨d,hd,g⟩
   have:=ha d hd
   have:=gN g
   omega
  ·obtain⟨z,hz⟩:=p2 ha
   rw[if_pos,hz,if_pos rfl]
   rw[gQ]
   refine Classical.byContradiction fun g=>ha fun d hd=> ?_
   refine Classical.byContradiction fun g2=>g ⟨d,hd,jZ (by omega)⟩
end
section
open Go Go.Dc Go.Proofs
theorem zCc:∀(ws:List (List UInt8)) (k:Nat),qNl (k+1) ws=Lib.joinTail [44,32] ws
 |[],_=>rfl
 |w::ws,k=>by
  have ih:=zCc ws (k+1)
  show sepK (k+1)++(w++qNl (k+1+1) ws)=_
  rw[ih]
  unfold sepK
  rw[if_neg (by omega)]
  simp[Lib.joinTail]
theorem zMy(ws:List (List UInt8)):qNl 0 ws=Lib.join ws [44,32]:=by
 cases ws with
 |nil=>rfl
 |cons w ws=>
  rw[Lib.join_cons,←zCc ws 0]
  rfl
theorem zUc(l:List ByteArray):zNd l (⟨#[44,32]⟩:ByteArray)=zBe l:=by
 refine qRl ?_
 show Lib.join (l.map (·.data.toList)) [44,32]=qNl 0 (l.map fun s=>s.data.toList)
 rw[zMy]
theorem zSi{N:Nat}{l:List ByteArray}(hl:l.length≤8)(hs:∀s∈l,s.size≤24):qKb N l (⟨#[44,32]⟩:ByteArray)=some (zBe l):=by
 by_cases h1:l.length≤1
 ·exact zSs h1
 ·have hlen:=zEy hs
  have hpos:0<(zBe l).size:=by
   match l,h1 with
   |x::y::r,_=>
    show 0<(qNl 0 (x.data.toList::y.data.toList::r.map fun s=>s.data.toList)).length
    simp only[qNl,jC]
    have:(sepK (0+1)).length=2:=rfl
    omega
   |[],h=>exact absurd (kZ 1) h
   |[x],h=>exact absurd (jV 1) h
  unfold qKb
  rw[if_pos (by omega)]
  unfold zQz
  rw[zUc,if_pos ⟨hpos,by omega,by omega⟩]
theorem zAp{N:Nat}{f:Sr}(hf:SmSr f)(hN:3000000<N):qJv N f=some (if qMj f=0 then qUk f else(⟨#[]⟩,qMj f)):=
 zMa hf (fun hc d hd _=>by
  obtain⟨g,g2,-,-⟩:=(qZh hc).decs d hd
  exact zSi g2 fun s hs=>qHb (g.pars s hs).2) hN
end
section
open Go Go.Dc Go.Proofs
theorem qXi{N:Nat}{s:ByteArray}(hN:100<N):qDs N s=some (qDo s):=by
 simp only[qDs,qYc hN,rres hN,j0]
 unfold qDo
 cases qPo s<;>rfl
def arN(k:Int):Int:=if k=3 then-1 else if k=4 then 2 else if k=5 then 3 else if k=6 then 1 else 0
def arP(x:Ex):Bool:=(x.1==3)||(argN x==arN x.1)
def qSm(np:Int)(x:Ex):Bool:=
 if x.1=1 then decide (x.2.2.2.1=emB)&&(x.2.2.1==0&&(decide (x.2.1≥-9007199254740992)&&decide (x.2.1≤9007199254740992)))
 else if x.1=2 then decide (x.2.2.2.1=emB)&&(x.2.2.1==0&&(decide (x.2.1≥0)&&decide (x.2.1<np)))
 else if x.1=3 then x.2.1==0&&(x.2.2.1==0&&qDo x.2.2.2.1)
 else if x.1=4 then x.2.1==0&&(decide (x.2.2.2.1=emB)&&(decide (x.2.2.1≥1)&&decide (x.2.2.1≤7)))
 else if x.1=5 then x.2.1==0&&(decide (x.2.2.2.1=emB)&&x.2.2.1==0)
 else if x.1=6 then x.2.1==0&&(x.2.2.1==0&&qNe x.2.2.2.1.data.toList)
 else if x.1=7∨x.1=8 then x.2.1==0&&(x.2.2.1==0&&qNe x.2.2.2.1.data.toList)
 else if x.1=9 then x.2.1==0&&(x.2.2.1==0&&qPo x.2.2.2.1)
 else if x.1=10 then decide (x.2.2.2.1=emB)&&(x.2.2.1==0&&(decide (x.2.1≥0)&&decide (x.2.1<64)))
 else false
theorem zLx(np:Int)(x:Ex):qNa np x=(qSm np x&&arP x):=by
 unfold qNa qSm arP arN
 by_cases h1:x.1=1
 ·simp[h1];ac_rfl
 by_cases h2:x.1=2
 ·simp[h2];ac_rfl
 by_cases h3:x.1=3
 ·simp[h3]
 by_cases h4:x.1=4
 ·simp[h4];ac_rfl
 by_cases h5:x.1=5
 ·simp[h5];ac_rfl
 by_cases h6:x.1=6
 ·simp[h6];ac_rfl
 by_cases h7:x.1=7
 ·simp[h7];ac_rfl
 by_cases h8:x.1=8
 ·simp[h8];ac_rfl
 by_cases h9:x.1=9
 ·simp[h9];ac_rfl
 by_cases h10:x.1=10
 ·simp[h10];ac_rfl
 simp[h1,h2,h3,h4,h5,h6,h7,h8,h9,h10]
theorem zRg{N:Nat}{np:Int}{x:Ex}(hN:100<N):qKd N x np=some (qSm np x):=by
 simp only[qKd,eqE,qXs (s:=x.2.2.2.1) hN,qYc (s:=x.2.2.2.1) hN,qXi (s:=x.2.2.2.1) hN,j0,zTb]
 unfold qSm
 by_cases h1:x.1=1
 ·by_cases a:x.2.2.2.1=emB<;>by_cases b:x.2.2.1=0<;>simp[h1,a,b]
 by_cases h2:x.1=2
 ·by_cases a:x.2.2.2.1=emB<;>by_cases b:x.2.2.1=0<;>simp[h2,a,b]
 by_cases h3:x.1=3
 ·by_cases a:x.2.1=0<;>by_cases b:x.2.2.1=0<;>simp[h3,a,b]
 by_cases h4:x.1=4
 ·by_cases a:x.2.1=0<;>by_cases b:x.2.2.2.1=emB<;>simp[h4,a,b]
 by_cases h5:x.1=5
 ·by_cases a:x.2.1=0<;>by_cases b:x.2.2.2.1=emB<;>by_cases c:x.2.2.1=0<;>simp[h5,a,b,c]
 by_cases h6:x.1=6
 ·by_cases a:x.2.1=0<;>by_cases b:x.2.2.1=0<;>simp[h6,a,b]
 by_cases h7:x.1=7
 ·by_cases a:x.2.1=0<;>by_cases b:x.2.2.1=0<;>simp[h7,a,b]
 by_cases h8:x.1=8
 ·by_cases a:x.2.1=0<;>by_cases b:x.2.2.1=0<;>simp[h8,a,b]
 by_cases h9:x.1=9
 ·by_cases a:x.2.1=0<;>by_cases b:x.2.2.1=0<;>simp[h9,a,b]
 by_cases h10:x.1=10
 ·by_cases a:x.2.2.2.1=emB<;>by_cases b:x.2.2.1=0<;>simp[h10,a,b]
 by_cases c:x.1<1
 ·simp[h1,h2,h3,h4,h5,h6,h7,h8,h9,h10,c]
 ·have c2:x.1>10:=by omega
  simp[h1,h2,h3,h4,h5,h6,h7,h8,h9,h10,c,c2]
theorem zRv{N:Nat}(k:Int):qKg N k=some (arN k):=by
 unfold qKg arN
 by_cases h3:k=3
 ·simp[h3]
 by_cases h4:k=4
 ·simp[h4]
 by_cases h5:k=5
 ·simp[h5]
 by_cases h6:k=6
 ·simp[h6]
 simp[h3,h4,h5,h6]
theorem zTg{N m n:Nat}{st args:List Int}{x:Ex}{i:Int}(ha:x.2.2.2.2=args)(hn:args.length=n)(hs:st.length=m+n)(hb:st.length<4000000):∀(d k M:Nat),k+d=n→d<M→
  qAt (qFr N (st,i) x (n:Int)) M (k:Int)=some (if st.drop (m+k)=args.drop k then .inl () else .inr false)
 |_,_,0,_,h=>absurd h (kN _)
 |0,k,M+1,hd,_=>by
  simp only[qAt,qFr]
  rw[if_neg (by simp only[jA];omega),if_pos (by rw[jT (by omega),jT (by omega)])]
  rfl
 |d+1,k,M+1,hd,hM=>by
  subst ha
  have hk:k<x.2.2.2.2.length:=by omega
  have hmk:m+k<st.length:=by omega
  have ew:IntKind.wrap .i64 ((k:Int)+1)=((k+1:Nat):Int):=by rw[wi64 (by omega) (by omega)];omega
  have e0:IntKind.wrap .i64 ((st.length:Int)-(n:Int))=(m:Int):=by rw[wi64 (by omega) (by omega)];omega
  have e1:IntKind.wrap .i64 ((m:Int)+(k:Int))=((m+k:Nat):Int):=by rw[wi64 (by omega) (by omega)];omega
  simp only[qAt,qFr]
  rw[if_pos (by simp only[jA];omega),qDn hk,e0,e1,qDn hmk]
  simp only[j0,ew]
  rw[qMw hk,qMw hmk]
  by_cases e:x.2.2.2.2[k]=st[m+k]
  ·rw[if_neg (by simpa using e)]
   simp only[j0]
   rw[zTg rfl hn hs hb d (k+1) M (by omega) (by omega),e]
   simp only[kY,true_and]
   rfl
  ·rw[if_pos (by simpa using e),if_neg (fun g=>e (List.cons.inj g).1.symm)]
   rfl
def ordR(l:List Ex)(k:Nat)(st:List Int):Option (List Int):=if l.all arP=true then ordS l k st else none
theorem zMt{N:Nat}{l:List Ex}(hl:l.length<2000000)(ha:∀x∈l,x.2.2.2.2.length<2000000)(hN:3000000<N):qIy N l=some (oneP (ordR l 0 [])):=by
 have hL:=qHd (L:=l) (fun(t:List Int×Nat) (i:Nat)=>(t.1,(i:Int))) (f:=qFs N l)
  (fun t x=>if arP x=true∧x.2.2.2.2.length≤t.1.length∧t.1.drop (t.1.length-x.2.2.2.2.length)=x.2.2.2.2 then .inl (t.1.take (t.1.length-x.2.2.2.2.length)++[(t.2:Int)],t.2+1) else .inr (.inr false)) (fun t=>(.inl t.1:List Int⊕Bool)) (fun i t=>t.2=i∧t.1.length≤i) (by
   rintro⟨st,k⟩ i hi ⟨rfl,hI⟩
   simp only at hI hi ⊢
   have hxa:=ha _ (jW hi)
   simp only[qFs]
   rw[if_pos (by simp only[jA];omega),qDn hi]
   generalize l[k]=x at hxa
   simp only[j0,zRv]
   have ew:IntKind.wrap .i64 ((k:Int)+1)=((k+1:Nat):Int):=by rw[wi64 (by omega) (by omega)];omega
   have e0:IntKind.wrap .i64 ((st.length:Int)-(x.2.2.2.2.length:Int))=(st.length:Int)-(x.2.2.2.2.length:Int):=by
    rw[wi64 (by omega) (by omega)]
   by_cases h1:arP x=true
   ·have e2:(if decide (arN x.1<0)=true then some (x.2.2.2.2.length:Int) else some (arN x.1):Option Int)=some (x.2.2.2.2.length:Int):=by
     unfold arP argN at h1
     simp only[hU,kG] at h1
     rcases h1 with h1|h1
     ·rw[h1];rfl
     ·rw[←h1,if_neg (by simp)]
    rw[e2]
    simp only[j0]
    rw[if_neg (by simp)]
    simp only[j0]
    by_cases h2:x.2.2.2.2.length≤st.length
    ·rw[if_neg (by simp only[jA];omega)]
     have hlp:=zTg (N:=N) (m:=st.length-x.2.2.2.2.length) (st:=st) (x:=x) (i:=(k:Int)) rfl rfl (by omega) (by omega) x.2.2.2.2.length 0 N (by omega) (by omega)
     rw[show((0:Nat):Int)=0 from rfl,f0,k0] at hlp
     rw[hlp]
     simp only[j0]
     by_cases h3:st.drop (st.length-x.2.2.2.2.length)=x.2.2.2.2
     ·rw[if_pos h3,if_pos ⟨h1,h2,h3⟩]
      simp only
      rw[e0,qPt (by omega) (by omega) (by omega)]
      simp only[j0,fA,k0]
      rw[show((st.length:Int)-(x.2.2.2.2.length:Int)).toNat=st.length-x.2.2.2.2.length by omega,qDm (by simp only[kS,jD,jF];omega) (by omega)]
      simp only[j0,ew]
     ·rw[if_neg h3,if_neg (fun g=>h3 g.2.2)]
    ·rw[if_pos (by simp only[jA];omega),if_neg (fun g=>h2 g.2.1)]
   ·have hneg:¬(arP x=true∧x.2.2.2.2.length≤st.length∧st.drop (st.length-x.2.2.2.2.length)=x.2.2.2.2):=fun g=>h1 g.1
    rw[if_neg hneg]
    have hne:x.1≠3:=fun g=>h1 (by unfold arP;rw[g];rfl)
    have hnn:¬arN x.1<0:=by
     unfold arN
     rw[if_neg hne]
     split
     ·decide
     ·split
      ·decide
      ·split<;>decide
    have hne2:(x.2.2.2.2.length:Int)≠arN x.1:=fun g=>h1 (by unfold arP argN;rw[g,kX,Bool.or_true])
    rw[if_neg (by simpa using hnn)]
    simp only[j0]
    rw[if_pos (by simpa using hne2)]
    rfl) (by
   rintro⟨st,k⟩ i hi t' ⟨rfl,hI⟩ h
   simp only at hI h
   split at h
   ·rename_i g
    obtain rfl:=(Sum.inl.inj h).symm
    refine⟨rfl,?_⟩
    simp only[jC,kS,jD,jF]
    omega
   ·cases h) (by
   rintro⟨st,k⟩ ⟨rfl,hI⟩
   simp only[qFs]
   rw[if_neg (by simp)]) (M:=N) (t:=([],0)) (by omega) ⟨rfl,jV _⟩
 unfold qIy
 rw[show((([]:List Int),(0:Int)))=((([]:List Int),0).1,(((0:Nat)):Int)) from rfl]
 rw[hL]
 have key:∀(l:List Ex) (st:List Int) (k:Nat),run (fun(t:List Int×Nat) (x:Ex)=>if arP x=true∧x.2.2.2.2.length≤t.1.length∧t.1.drop (t.1.length-x.2.2.2.2.length)=x.2.2.2.2 then(.inl (t.1.take (t.1.length-x.2.2.2.2.length)++[(t.2:Int)],t.2+1):(List Int×Nat)⊕(List Int⊕Bool)) else .inr (.inr false)) (fun t=>(.inl t.1:List Int⊕Bool)) l (st,k)=match ordR l k st with
   |some r=> .inl r
   |none=> .inr false:=by
  intro l
  induction l with
  |nil=>intro st k;rfl
  |cons x l ih=>
   intro st k
   simp only[run]
   unfold ordR at ih ⊢
   rw[List.all_cons]
   by_cases h1:arP x=true
   ·rw[h1,g9]
    by_cases h2:x.2.2.2.2.length≤st.length∧st.drop (st.length-x.2.2.2.2.length)=x.2.2.2.2
    ·rw[if_pos ⟨rfl,h2⟩]
     simp only
     rw[ih]
     simp only[ordS]
     rw[if_pos h2]
    ·rw[if_neg (fun g=>h2 g.2)]
     simp only[ordS]
     rw[if_neg h2,ite_self]
   ·rw[if_neg (fun g=>h1 g.1),show arP x=false by simpa using h1,Bool.false_and]
    rfl
 rw[key]
 cases ordR l 0 [] with
 |none=>rfl
 |some r=>
  simp only[j0]
  congr 1
  match r with
  |[]=>rfl
  |[_]=>rfl
  |_::_::r=>
   show(((r.length+1+1:Nat):Int)==1)=false
   rw[beq_eq_false_iff_ne];omega
mutual
theorem zFl(t:Rose)(d:Nat):t.deepen (d+1)=t.deepen d+1:=by
 match t with
 | .mk h ks=>
  simp only[Rose.deepen]
  by_cases h4:h.1=4
  ·rw[if_pos h4,if_pos h4]
   by_cases hk:ks=[]
   ·rw[hk];simp[qLs]
   ·rw[qYd ks d hk];omega
  ·rw[if_neg h4,if_neg h4]
   by_cases hk:ks=[]
   ·rw[hk];simp[qLs]
   ·rw[qYd ks (d+1) hk];omega
theorem qYd(l:List Rose)(d:Nat)(hl:l≠[]):qLs (d+1) l=qLs d l+1:=by
 match l with
 |[]=>exact absurd rfl hl
 |t::l=>
  have i1:=zFl t d
  simp only[qLs]
  by_cases hk:l=[]
  ·rw[hk];simp only[qLs];omega
  ·rw[qYd l d hk];omega
end
theorem zOh{d:Nat}:∀(n:Nat) (t:Rose),t.size≤n→t.deepen d≤d+t.size∧d≤t.deepen d:=by
 intro n
 induction n generalizing d with
 |zero=>intro t h;have:=t.pos;omega
 |succ n ih=>
  intro t ht
  match t with
  | .mk h ks=>
   have key:∀(e:Nat) (l:List Rose),qBp l≤n→qLs e l≤e+qBp l:=by
    intro e l
    induction l with
    |nil=>intro _;exact kZ _
    |cons u l ihl=>
     intro hl
     have hu:=u.pos
     simp only[qBp] at hl
     have a:=(ih (d:=e) u (by omega)).1
     have b:=ihl (by omega)
     simp only[qLs,qBp];omega
   simp only[Rose.size] at ht ⊢
   simp only[Rose.deepen]
   by_cases h4:h.1=4
   ·have:=key d ks (by omega)
    rw[if_pos h4];omega
   ·have:=key (d+1) ks (by omega)
    rw[if_neg h4];omega
theorem zOc{N D:Nat}{l:List Ex}{x:Ex}{i:Nat}(hx:l[i]? =some x)(hxa:x.2.2.2.2.length<2000000):∀(ks:List Rose) (k b M m:Nat),(∀t∈ks,∀b,AtT l b t→qGp N D l ((b+t.size-1:Nat):Int)=some ((t.deepen 1:Nat):Int))→x.2.2.2.2.drop k=qDh b ks→k≤x.2.2.2.2.length→AtTs l b ks→qBp ks≤300→ks.length<M→
  qAt (qHn N (qGp N D) l (i:Int) x) M ((m:Int),(k:Int))=some ((max m (qLs (if x.1=4 then 1 else 2) ks):Nat):Int)
 |_,_,_,0,_,_,_,_,_,_,h=>absurd h (kN _)
 |[],k,b,M+1,m,_,hr,hk,_,_,_=>by
  have hl:k=x.2.2.2.2.length:=by
   have:=congrArg List.length hr
   rw[gF] at this
   simp only[qDh,jF] at this
   omega
  simp only[qAt,qHn]
  rw[if_neg (by simp only[jA];omega)]
  simp only[j0,qLs,fG]
 |t::ks,k,b,M+1,m,hks,hr,hk,hat,hsz,hM=>by
  have hpos:=t.pos
  simp only[qBp] at hsz
  have hkl:k<x.2.2.2.2.length:=by
   by_cases hh:k<x.2.2.2.2.length
   ·exact hh
   ·rw[jT (by omega)] at hr;cases hr
  rw[qMw hkl] at hr
  obtain⟨hr1,hr2⟩:=List.cons.inj hr
  obtain⟨at1,at2⟩:=hat.head
  have hdl:=(zOh (d:=1) t.size t (jV _)).1
  have ew:IntKind.wrap .i64 ((k:Int)+1)=((k+1:Nat):Int):=by rw[wi64 (by omega) (by omega)];omega
  have ed:IntKind.wrap .i64 (((t.deepen 1:Nat):Int)+1)=((t.deepen 2:Nat):Int):=by
   have:=zFl t 1
   rw[wi64 (by omega) (by omega),show t.deepen 2=t.deepen 1+1 from this];omega
  simp only[qAt,qHn]
  rw[if_pos (by simp only[jA];omega),qDn hkl,hr1]
  simp only[j0]
  rw[hks t (jJ ..) b at1,qRj hx]
  simp only[j0,ed,ew]
  have e4:(if(x.1 !=4)=true then some ((t.deepen 2:Nat):Int) else some ((t.deepen 1:Nat):Int):Option Int)=some ((t.deepen (if x.1=4 then 1 else 2):Nat):Int):=by
   by_cases h4:x.1=4
   ·rw[if_neg (by simp[h4]),if_pos h4]
   ·rw[if_pos (by simpa using h4),if_neg h4]
  rw[e4]
  simp only[j0,qWb]
  rw[zOc hx hxa ks (k+1) (b+t.size) M _ (fun u hu=>hks u (jL _ hu)) hr2 (by omega) at2 (by omega) (by simp only[jD] at hM;omega)]
  simp only[qLs,hJ]
theorem zPb{N:Nat}{l:List Ex}(ha:∀x∈l,x.2.2.2.2.length<2000000)(hN:3000000<N):∀(n:Nat) (t:Rose) (b D:Nat),t.size≤n→n≤300→n≤D→AtT l b t→qGp N D l ((b+t.size-1:Nat):Int)=some ((t.deepen 1:Nat):Int)
 |0,t,_,_,h,_,_,_=>by have:=t.pos;omega
 |n+1,.mk h ks,b,D,hsz,hn,hD,hat=>by
  simp only[Rose.size] at hsz ⊢
  obtain⟨D,rfl⟩:∃D',D=D'+1:=⟨D-1,by omega⟩
  rw[show b+(qBp ks+1)-1=b+qBp ks by omega]
  obtain⟨hx,hats⟩:=hat.args
  have hxa:=ha _ (fK hx)
  have hll:=qRk ks
  have hsub:∀t∈ks,t.size≤qBp ks:=by
   intro t ht
   clear hats hx hxa hll hsz hat
   induction ks with
   |nil=>cases ht
   |cons u l ih=>
    simp only[qBp]
    rcases jR.1 ht with rfl|ht
    ·omega
    ·have:=ih ht;omega
  have hl:=zOc (N:=N) (D:=D) hx hxa ks 0 b N 1 (fun t ht b' hat'=>zPb ha hN n t b' D (by have:=hsub t ht;omega) (by omega) (by omega) hat') (by rw[k0];rfl) (kZ _) hats (by omega) (by omega)
  show qJs N (qGp N D) l _=_
  unfold qJs
  rw[qRj hx]
  simp only[j0]
  rw[show((1:Int),(0:Int))=(((1:Nat):Int),((0:Nat):Int)) from rfl,hl]
  simp only[j0,Rose.deepen]
  rfl
theorem zUe{N:Nat}{l:List Ex}(ho:oneP (ordS l 0 [])=true)(hl:l.length≤256)(ha:∀x∈l,x.2.2.2.2.length<2000000)(hN:3000000<N):∃v:Int,qMk N l (IntKind.wrap .i64 ((l.length:Int)-1))=some v∧(decide (v>32))=zEf l:=by
 obtain⟨t,h1,h2⟩:=qWw ho
 have hsz:t.size=l.length:=by
  have:=qHk t 0
  rw[←h2] at this;exact this.symm
 have hp:=t.pos
 have hat:AtT l 0 t:=by
  have:=AtT.whole t
  rw[←h2] at this;exact this
 refine⟨((t.deepen 1:Nat):Int),?_,?_⟩
 ·unfold qMk
  have:=zPb ha hN t.size t 0 N (jV _) (by omega) (by omega) hat
  rw[wi64 (by omega) (by omega),show(l.length:Int)-1=((0+t.size-1:Nat):Int) by omega]
  exact this
 ·unfold zEf
  rw[h1]
  simp only
  congr 1
  rw[eq_iff_iff];omega
end
section
open Go Go.Dc Go.Proofs
def SmE(d:Dl):Prop:=d.2.2.1.length<2000000∧d.2.2.2.length<2000000∧∀x∈d.2.2.2,x.2.2.2.2.length<2000000
def SmR(f:Sr):Prop:=f.2.1.length<2000000∧f.2.2.length<2000000∧∀d∈f.2.2,SmE d
theorem SmSr.r{f:Sr}(h:SmSr f):SmR f:=⟨h.1,h.2.1,fun d hd=>⟨(h.2.2 d hd).2.1,(h.2.2 d hd).2.2.1,fun x hx=>((h.2.2 d hd).2.2.2 x hx).2⟩⟩
theorem rc_L1{N:Nat}{f:Sr}(hf:SmR f)(hN:3000000<N):qAt (qFd N f) N 0=some (if f.2.1.all qDo=true then .inl () else .inr 9):=by
 obtain⟨h1,-,-⟩:=hf
 have h:=qHd (L:=f.2.1) (fun(_:Unit) (i:Nat)=>(i:Int)) (f:=qFd N f)
  (fun _ s=>if(!qDo s)=true then .inr (.inr 9) else .inl ()) (fun _=>(.inl ():Unit⊕Int)) (fun _ _=>True) (by
   intro t i hi _
   simp only[qFd]
   rw[if_pos (by simp only[jA];omega),qDn hi]
   have ew:IntKind.wrap .i64 ((i:Int)+1)=((i+1:Nat):Int):=by rw[wi64 (by omega) (by omega)];omega
   simp only[j0,qXi (s:=f.2.1[i]) (show 100<N by omega),ew]
   cases qDo f.2.1[i]<;>rfl) (fun _ _ _ _ _ _=>trivial) (by
   intro t _
   simp only[qFd]
   rw[if_neg (by simp)]) (M:=N) (t:=()) (by omega) trivial
 rw[show((0:Nat):Int)=0 from rfl] at h
 rw[h,qSb (b:=(.inr 9:Unit⊕Int)) (fun s=> !qDo s) (fun x=>rfl),gG]
 cases(f.2.1.any fun s=> !qDo s)<;>rfl
theorem rc_L3{N:Nat}{d:Dl}(hd:SmE d)(hN:3000000<N):qAt (qFe N d) N 0=some (if d.2.2.1.all qDo=true then .inl () else .inr 9):=by
 obtain⟨h1,-,-⟩:=hd
 have h:=qHd (L:=d.2.2.1) (fun(_:Unit) (i:Nat)=>(i:Int)) (f:=qFe N d)
  (fun _ s=>if(!qDo s)=true then .inr (.inr 9) else .inl ()) (fun _=>(.inl ():Unit⊕Int)) (fun _ _=>True) (by
   intro t i hi _
   simp only[qFe]
   rw[if_pos (by simp only[jA];omega),qDn hi]
   have ew:IntKind.wrap .i64 ((i:Int)+1)=((i+1:Nat):Int):=by rw[wi64 (by omega) (by omega)];omega
   simp only[j0,qXi (s:=d.2.2.1[i]) (show 100<N by omega),ew]
   cases qDo d.2.2.1[i]<;>rfl) (fun _ _ _ _ _ _=>trivial) (by
   intro t _
   simp only[qFe]
   rw[if_neg (by simp)]) (M:=N) (t:=()) (by omega) trivial
 rw[show((0:Nat):Int)=0 from rfl] at h
 rw[h,qSb (b:=(.inr 9:Unit⊕Int)) (fun s=> !qDo s) (fun x=>rfl),gG]
 cases(d.2.2.1.any fun s=> !qDo s)<;>rfl
theorem rc_L4{N:Nat}{d:Dl}(hd:SmE d)(hN:3000000<N):qAt (qFf N d) N 0=some (if d.2.2.2.all (qSm (d.2.2.1.length:Int))=true then .inl () else .inr 9):=by
 obtain⟨-,h1,-⟩:=hd
 have h:=qHd (L:=d.2.2.2) (fun(_:Unit) (i:Nat)=>(i:Int)) (f:=qFf N d)
  (fun _ x=>if(!qSm (d.2.2.1.length:Int) x)=true then .inr (.inr 9) else .inl ()) (fun _=>(.inl ():Unit⊕Int)) (fun _ _=>True) (by
   intro t i hi _
   simp only[qFf]
   rw[if_pos (by simp only[jA];omega),qDn hi]
   have ew:IntKind.wrap .i64 ((i:Int)+1)=((i+1:Nat):Int):=by rw[wi64 (by omega) (by omega)];omega
   simp only[j0,zRg (x:=d.2.2.2[i]) (np:=(d.2.2.1.length:Int)) (show 100<N by omega),ew]
   cases qSm (d.2.2.1.length:Int) d.2.2.2[i]<;>rfl) (fun _ _ _ _ _ _=>trivial) (by
   intro t _
   simp only[qFf]
   rw[if_neg (by simp)]) (M:=N) (t:=()) (by omega) trivial
 rw[show((0:Nat):Int)=0 from rfl] at h
 rw[h,qSb (b:=(.inr 9:Unit⊕Int)) (fun x=> !qSm (d.2.2.1.length:Int) x) (fun x=>rfl),gG]
 cases(d.2.2.2.any fun x=> !qSm (d.2.2.1.length:Int) x)<;>rfl
def zPm(d:Dl):Bool:=(d.1==1||(d.2.2.1.isEmpty&&(d.1==2||d.1==3)))&&(if d.1=3 then qNe d.2.1.data.toList else qDo d.2.1)
theorem zBu(d:Dl):qIo d=(zPm d&&(d.2.2.1.all qDo&&(d.2.2.2.all (qSm (d.2.2.1.length:Int))&&oneP (ordR d.2.2.2 0 [])))):=by
 have hb:zHt d=(d.2.2.2.all (qSm (d.2.2.1.length:Int))&&oneP (ordR d.2.2.2 0 [])):=by
  unfold zHt ordR
  have e:d.2.2.2.all (qNa (d.2.2.1.length:Int))=(d.2.2.2.all (qSm (d.2.2.1.length:Int))&&d.2.2.2.all arP):=by
   rw[kE]
   simp only[kD,jO,zLx]
   exact⟨fun h=>⟨fun x hx=>(h x hx).1,fun x hx=>(h x hx).2⟩,fun h x hx=>⟨h.1 x hx,h.2 x hx⟩⟩
  rw[e]
  cases d.2.2.2.all arP with
  |true=>simp
  |false=>simp[oneP]
 unfold qIo
 rw[hb]
 unfold zEd zIu zPm
 by_cases k1:d.1=1
 ·simp[k1]
 by_cases k2:d.1=2
 ·cases hp:d.2.2.1 with
  |nil=>simp[k2]
  |cons a l=>simp[k2]
 by_cases k3:d.1=3
 ·cases hp:d.2.2.1 with
  |nil=>simp[k3]
  |cons a l=>simp[k3]
 simp[k1,k2,k3]
theorem rc_L2{N:Nat}{f:Sr}(hf:SmR f)(hN:3000000<N):qAt (qFc N f) N 0=some (if f.2.2.all qIo=true then .inl () else .inr 9):=by
 obtain⟨-,h1,h2⟩:=hf
 have h:=qHd (L:=f.2.2) (fun(_:Unit) (i:Nat)=>(i:Int)) (f:=qFc N f)
  (fun _ d=>if(!qIo d)=true then .inr (.inr 9) else .inl ()) (fun _=>(.inl ():Unit⊕Int)) (fun _ _=>True) (by
   intro t i hi _
   have hd:=h2 _ (jW hi)
   obtain⟨-,q1,q2⟩:=id hd
   simp only[qFc]
   rw[if_pos (by simp only[jA];omega),qDn hi]
   generalize f.2.2[i]=d at hd q1 q2
   have ew:IntKind.wrap .i64 ((i:Int)+1)=((i+1:Nat):Int):=by rw[wi64 (by omega) (by omega)];omega
   simp only[j0,qXi (s:=d.2.1) (show 100<N by omega),qXs (s:=d.2.1) (show 100<N by omega),rc_L3 hd hN,rc_L4 hd hN,zMt q1 q2 hN,ew]
   rw[zBu]
   have hk:(if decide (d.1<1)=true then some true else if decide (d.1>3)=true then some true else if(d.1 !=1)=true then(if decide ((d.2.2.1.length:Int)>0)=true then some true else if(d.1==3)=true then(if(!qNe d.2.1.data.toList)=true then some true else if(d.1 !=3)=true then some (!qDo d.2.1) else some false) else if(d.1 !=3)=true then some (!qDo d.2.1) else some false) else if(d.1==3)=true then(if(!qNe d.2.1.data.toList)=true then some true else if(d.1 !=3)=true then some (!qDo d.2.1) else some false) else if(d.1 !=3)=true then some (!qDo d.2.1) else some false:Option Bool)=some (!zPm d):=by
    unfold zPm
    by_cases k1:d.1=1
    ·simp[k1]
    by_cases k2:d.1=2
    ·cases hp:d.2.2.1 with
     |nil=>simp[k2]
     |cons a l=>simp[k2]
    by_cases k3:d.1=3
    ·cases hp:d.2.2.1 with
     |nil=>simp[k3];cases qNe d.2.1.data.toList<;>rfl
     |cons a l=>simp[k3]
    by_cases k4:d.1<1
    ·simp[k1,k2,k3,k4]
    ·have k5:d.1>3:=by omega
     simp[k1,k2,k3,k4,k5]
   refine Eq.trans (congrArg (fun z=>Option.bind z _) hk) ?_
   simp only[j0]
   cases zPm d with
   |false=>rfl
   |true=>
    rw[if_neg (by decide),g9]
    cases d.2.2.1.all qDo with
    |false=>rfl
    |true=>
     rw[if_pos rfl,g9]
     simp only
     cases d.2.2.2.all (qSm (d.2.2.1.length:Int)) with
     |false=>rfl
     |true=>
      rw[if_pos rfl,g9]
      simp only
      cases oneP (ordR d.2.2.2 0 [])<;>rfl) (fun _ _ _ _ _ _=>trivial) (by
   intro t _
   simp only[qFc]
   rw[if_neg (by simp)]) (M:=N) (t:=()) (by omega) trivial
 rw[show((0:Nat):Int)=0 from rfl] at h
 rw[h,qSb (b:=(.inr 9:Unit⊕Int)) (fun d=> !qIo d) (fun x=>rfl),gG]
 cases(f.2.2.any fun d=> !qIo d)<;>rfl
theorem rc_L5{N:Nat}{f:Sr}(hf:SmR f)(hN:3000000<N):qAt (qFh N f) N 0=some (if(decide (f.1∈f.2.1)||dupL f.2.1)=true then .inr 10 else .inl ()):=by
 obtain⟨h1,-,-⟩:=hf
 have h:=qHd (L:=f.2.1) (fun(_:List ByteArray) (i:Nat)=>(i:Int)) (f:=qFh N f)
  (fun t s=>if(decide (s=f.1)||decide (s∈t))=true then .inr (.inr 10) else .inl (t++[s])) (fun _=>(.inl ():Unit⊕Int)) (fun i t=>t=f.2.1.take i) (by
   rintro t i hi rfl
   simp only[qFh]
   rw[if_pos (by simp only[jA];omega),qDn hi]
   have ew:IntKind.wrap .i64 ((i:Int)+1)=((i+1:Nat):Int):=by rw[wi64 (by omega) (by omega)];omega
   simp only[j0]
   rw[qPt (by omega) (by omega) (by omega)]
   simp only[j0,jS,fA,k0,qEd,ew]
   rw[rhas (by rw[kS];omega) (by rw[kS];omega)]
   simp only[j0]
   cases decide (f.2.1[i]=f.1)<;>cases decide (f.2.1[i]∈f.2.1.take i)<;>rfl) (by
   rintro t i hi t' rfl hh
   split at hh
   ·cases hh
   ·obtain rfl:=(Sum.inl.inj hh).symm
    rw[qSf hi]) (by
   intro t _
   simp only[qFh]
   rw[if_neg (by simp)]) (M:=N) (t:=[]) (by omega) (by simp)
 rw[show((0:Nat):Int)=0 from rfl] at h
 rw[h]
 congr 1
 have key:∀(l t:List ByteArray),run (fun t s=>if(decide (s=f.1)||decide (s∈t))=true then(.inr (.inr 10):List ByteArray⊕(Unit⊕Int)) else .inl (t++[s])) (fun _=>(.inl ():Unit⊕Int)) l t=if(decide (f.1∈l)||dupG t l)=true then .inr 10 else .inl ():=by
  intro l
  induction l with
  |nil=>intro t;rfl
  |cons s l ih=>
   intro t
   simp only[run,dupG,jR]
   by_cases e1:s=f.1
   ·simp[e1]
   ·by_cases e2:s∈t
    ·simp[e2]
    ·rw[jX e1,jX e2]
     simp only[Bool.or_self,jB,jH,kT]
     rw[ih]
     have e3:decide (f.1=s∨f.1∈l)=decide (f.1∈l):=by
      rw[decide_eq_decide]
      exact⟨fun h=>h.resolve_left (fun g=>e1 g.symm),.inr⟩
     rw[e3]
 exact key _ _
theorem rc_L7{N:Nat}{d:Dl}(hd:SmE d)(hN:3000000<N):qAt (qFk N d) N 0=some (if dupL d.2.2.1=true then .inr 10 else .inl ()):=by
 obtain⟨h1,-,-⟩:=hd
 have h:=qHd (L:=d.2.2.1) (fun(_:List ByteArray) (i:Nat)=>(i:Int)) (f:=qFk N d)
  (fun t s=>if decide (s∈t)=true then .inr (.inr 10) else .inl (t++[s])) (fun _=>(.inl ():Unit⊕Int)) (fun i t=>t=d.2.2.1.take i) (by
   rintro t i hi rfl
   simp only[qFk]
   rw[if_pos (by simp only[jA];omega),qDn hi]
   have ew:IntKind.wrap .i64 ((i:Int)+1)=((i+1:Nat):Int):=by rw[wi64 (by omega) (by omega)];omega
   simp only[j0]
   rw[qPt (by omega) (by omega) (by omega)]
   simp only[j0,jS,fA,k0,ew]
   rw[rhas (by rw[kS];omega) (by rw[kS];omega)]
   simp only[j0]
   cases decide (d.2.2.1[i]∈d.2.2.1.take i)<;>rfl) (by
   rintro t i hi t' rfl hh
   split at hh
   ·cases hh
   ·obtain rfl:=(Sum.inl.inj hh).symm
    rw[qSf hi]) (by
   intro t _
   simp only[qFk]
   rw[if_neg (by simp)]) (M:=N) (t:=[]) (by omega) (by simp)
 rw[show((0:Nat):Int)=0 from rfl] at h
 rw[h]
 congr 1
 have key:∀(l t:List ByteArray),run (fun t s=>if decide (s∈t)=true then(.inr (.inr 10):List ByteArray⊕(Unit⊕Int)) else .inl (t++[s])) (fun _=>(.inl ():Unit⊕Int)) l t=if dupG t l=true then .inr 10 else .inl ():=by
  intro l
  induction l with
  |nil=>intro t;rfl
  |cons s l ih=>
   intro t
   simp only[run]
   rw[show dupG t (s::l)=(decide (s∈t)||dupG (t++[s]) l) from rfl]
   by_cases e2:s∈t
   ·simp[e2]
   ·rw[jX e2]
    simp only[jB,jH,kT]
    rw[ih]
 exact key _ _
theorem zMu(l:List Dl)(d:Dl):(l.any fun x=>x.1==d.1&&decide (x.2.1=d.2.1))=decide (qRh d∈l.map qRh):=by
 rw[kE]
 simp only[gQ,jO,kG,jA,fQ]
 constructor
 ·rintro⟨x,hx,h1,h2⟩
  exact⟨x,hx,Prod.ext h1 h2⟩
 ·rintro⟨x,hx,h⟩
  exact⟨x,hx,congrArg (fun z:Nm2=>z.1) h,congrArg (fun z:Nm2=>z.2) h⟩
theorem rc_L6{N:Nat}{f:Sr}(hf:SmR f)(hN:3000000<N):qAt (qFi N f) N 0=some (if(dupL (f.2.2.map qRh)||f.2.2.any (fun d=>dupL d.2.2.1))=true then .inr 10 else .inl ()):=by
 obtain⟨-,h1,h2⟩:=hf
 have h:=qHd (L:=f.2.2) (fun(_:List Dl) (i:Nat)=>(i:Int)) (f:=qFi N f)
  (fun t d=>if(decide (qRh d∈t.map qRh)||dupL d.2.2.1)=true then .inr (.inr 10) else .inl (t++[d])) (fun _=>(.inl ():Unit⊕Int)) (fun i t=>t=f.2.2.take i) (by
   rintro t i hi rfl
   have hd:=h2 _ (jW hi)
   simp only[qFi]
   rw[if_pos (by simp only[jA];omega),qDn hi]
   have ew:IntKind.wrap .i64 ((i:Int)+1)=((i+1:Nat):Int):=by rw[wi64 (by omega) (by omega)];omega
   simp only[j0]
   rw[qPt (by omega) (by omega) (by omega)]
   simp only[j0,jS,fA,k0,ew]
   rw[zTk (by show(f.2.2.take i).length<_;rw[kS];omega) (by show(f.2.2.take i).length<_;rw[kS];omega)]
   simp only[j0]
   rw[show((((⟨#[]⟩:ByteArray),([]:List ByteArray),f.2.2.take i):Sr).2.2.any fun x=>x.1==f.2.2[i].1&&decide (x.2.1=f.2.2[i].2.1))=_ from zMu (f.2.2.take i) f.2.2[i],rc_L7 hd hN]
   cases decide (qRh f.2.2[i]∈(f.2.2.take i).map qRh)<;>cases dupL f.2.2[i].2.2.1<;>rfl) (by
   rintro t i hi t' rfl hh
   split at hh
   ·cases hh
   ·obtain rfl:=(Sum.inl.inj hh).symm
    rw[qSf hi]) (by
   intro t _
   simp only[qFi]
   rw[if_neg (by simp)]) (M:=N) (t:=[]) (by omega) (by simp)
 rw[show((0:Nat):Int)=0 from rfl] at h
 rw[h]
 congr 1
 have key:∀(l t:List Dl),run (fun t d=>if(decide (qRh d∈t.map qRh)||dupL d.2.2.1)=true then(.inr (.inr 10):List Dl⊕(Unit⊕Int)) else .inl (t++[d])) (fun _=>(.inl ():Unit⊕Int)) l t=if(dupG (t.map qRh) (l.map qRh)||l.any (fun d=>dupL d.2.2.1))=true then .inr 10 else .inl ():=by
  intro l
  induction l with
  |nil=>intro t;rfl
  |cons d l ih=>
   intro t
   simp only[run,kC,dupG,fH]
   by_cases e1:qRh d∈t.map qRh
   ·simp[e1]
   ·rw[jX e1]
    cases e2:dupL d.2.2.1 with
    |true=>simp
    |false=>
     simp only[Bool.or_self,jB,jH,kT]
     rw[ih,gW,List.map_singleton]
 exact key _ _
theorem rc_L8{N:Nat}{f:Sr}(hf:SmR f)(hs:f.2.2.all qIo=true)(hN:3000000<N):qAt (qFg N f) N 0=some (if f.2.2.any zAy=true then .inr 2 else .inl ()):=by
 obtain⟨-,h1,h2⟩:=hf
 have h:=qHd (L:=f.2.2) (fun(_:Unit) (i:Nat)=>(i:Int)) (f:=qFg N f)
  (fun _ d=>if zAy d=true then .inr (.inr 2) else .inl ()) (fun _=>(.inl ():Unit⊕Int)) (fun _ _=>True) (by
   intro t i hi _
   obtain⟨q1,q2,q3⟩:=h2 _ (jW hi)
   have ho:=(zLa (kD.1 hs _ (jW hi))).tree
   simp only[qFg]
   rw[if_pos (by simp only[jA];omega),qDn hi]
   generalize f.2.2[i]=d at q1 q2 q3 ho
   have ew:IntKind.wrap .i64 ((i:Int)+1)=((i+1:Nat):Int):=by rw[wi64 (by omega) (by omega)];omega
   have e8:decide ((d.2.2.1.length:Int)>8)=decide (8<d.2.2.1.length):=by congr 1;rw[eq_iff_iff];omega
   have e256:decide ((d.2.2.2.length:Int)>256)=decide (256<d.2.2.2.length):=by congr 1;rw[eq_iff_iff];omega
   simp only[j0,e8,e256,ew]
   unfold zAy
   cases c8:decide (8<d.2.2.1.length) with
   |true=>rfl
   |false=>
    simp only[jB,jH,kT]
    cases c256:decide (256<d.2.2.2.length) with
    |true=>rfl
    |false=>
     have hl:=of_decide_eq_false c256
     obtain⟨v,v1,v2⟩:=zUe ho (by omega) q3 hN
     simp only[jB,jH,kT,v1,j0,v2]
     cases zEf d.2.2.2<;>rfl) (fun _ _ _ _ _ _=>trivial) (by
   intro t _
   simp only[qFg]
   rw[if_neg (by simp)]) (M:=N) (t:=()) (by omega) trivial
 rw[show((0:Nat):Int)=0 from rfl] at h
 rw[h,qSb (b:=(.inr 2:Unit⊕Int)) zAy (fun x=>rfl)]
theorem zGa{N:Nat}{f:Sr}(hf:SmR f)(hN:3000000<N):qIt N f=some (qMj f):=by
 unfold qIt qMj synP
 rw[qXi (by omega),rc_L1 hf hN,rc_L2 hf hN,rc_L5 hf hN,rc_L6 hf hN]
 simp only[j0]
 cases qDo f.1 with
 |false=>rfl
 |true=>
  rw[if_neg (by decide),g9]
  cases f.2.1.all qDo with
  |false=>rfl
  |true=>
   rw[if_pos rfl,g9]
   simp only
   cases hs:f.2.2.all qIo with
   |false=>rfl
   |true=>
    rw[if_pos rfl,if_pos rfl,rc_L8 hf hs hN]
    simp only
    unfold qYp zJl
    have e8:decide ((f.2.1.length:Int)>8)=decide (8<f.2.1.length):=by congr 1;rw[eq_iff_iff];omega
    have e64:decide ((f.2.2.length:Int)>64)=decide (64<f.2.2.length):=by congr 1;rw[eq_iff_iff];omega
    rw[e8,e64]
    cases decide (f.1∈f.2.1)<;>cases dupL f.2.1<;>cases dupL (f.2.2.map qRh)<;>cases f.2.2.any (fun d=>dupL d.2.2.1)<;>(try rfl)
    cases decide (8<f.2.1.length)<;>cases decide (64<f.2.2.length)<;>cases f.2.2.any zAy<;>rfl
end
section
open Go Go.Dc Go.Proofs
theorem zKg{N:Nat}:∀(D k n:Nat),n<10^(k+1)→n<10000000000000000→k<D→qIm N D (n:Int)=some (itB (n:Int))
 |0,_,_,_,_,h=>absurd h (kN _)
 |D+1,k,n,h,hn,hD=>by
  show qIk N (qIm N D) (n:Int)=_
  unfold qIk
  by_cases h10:n<10
  ·have hsz:ByteArray.size (⟨#[48,49,50,51,52,53,54,55,56,57]⟩:ByteArray)=10:=rfl
   rw[if_pos (by simp only[jA];omega),wu64 (by omega) (by omega),zGe (by omega) (by omega) (by omega)]
   simp only[j0,jS]
   rw[show((n:Int)+1).toNat=n+1 by omega]
   congr 1
   refine qRl ?_
   rw[qQr,Lib.decDigits_one h10]
   exact zVe ⟨n,h10⟩
  ·rw[if_neg (by simp only[jA];omega)]
   obtain⟨k,rfl⟩:∃k',k=k'+1:=by
    cases k with
    |zero=>simp at h;omega
    |succ k=>exact⟨k,rfl⟩
   rw[Nat.pow_succ] at h
   have e1:IntKind.wrap .u64 (Int.tdiv (n:Int) 10)=((n/10:Nat):Int):=by
    rw[show(10:Int)=((10:Nat):Int) from rfl,←Int.ofNat_tdiv,wu64 (by omega) (by omega)]
   have e2:Int.tmod (n:Int) 10=((n%10:Nat):Int):=by
    rw[show(10:Int)=((10:Nat):Int) from rfl,←Int.ofNat_tmod]
   rw[e1,e2,zKg D k (n/10) (by omega) (by omega) (by omega),zKg D 0 (n%10) (by omega) (by omega) (by omega)]
   simp only[j0]
   have l1:=qXz 15 (n/10) (by omega)
   have l2:=qXz 15 (n%10) (by omega)
   have s1:(itB ((n/10:Nat):Int)).size=(Lib.decDigits (n/10)).length:=by rw[←qQr,szl]
   have s2:(itB ((n%10:Nat):Int)).size=(Lib.decDigits (n%10)).length:=by rw[←qQr,szl]
   rw[catW (by omega)]
   simp only[j0]
   congr 1
   refine qRl ?_
   rw[qFo,qQr,qQr,qQr,qZj h10,Lib.decDigits_one (show n%10<10 by omega)]
theorem zFq{N:Nat}{n:Int}(h0: -9007199254740992≤n)(h1:n≤9007199254740992)(hN:100<N):qGo N n=some (itB n):=by
 unfold qGo qLk
 by_cases h:n<0
 ·rw[if_pos (by simpa using h),wi64 (show-9223372036854775808≤n+1 by omega) (by omega),wi64 (by omega) (by omega),wu64 (show 0≤0-(n+1) by omega) (by omega),wu64 (by omega) (by omega)]
  obtain⟨m,rfl⟩:∃m:Nat,n= -(m:Int):=⟨n.natAbs,by omega⟩
  rw[show(0-(-(m:Int)+1)+1)=(m:Int) by omega,zKg N 15 m (by omega) (by omega) (by omega)]
  have l1:=qXz 15 m (by omega)
  have s1:(itB (m:Int)).size=(Lib.decDigits m).length:=by rw[←qQr,szl]
  have z:(⟨#[45]⟩:ByteArray).size=1:=rfl
  simp only[j0]
  rw[catW (by omega)]
  simp only[j0]
  congr 1
  refine qRl ?_
  rw[qFo,qQr]
  show[45]++Lib.decDigits m=Lib.itoa (-(m:Int))
  unfold Lib.itoa
  rw[if_pos (by omega),show(-(m:Int)).natAbs=m by omega]
  rfl
 ·rw[if_neg (by simpa using h),wu64 (by omega) (by omega)]
  obtain⟨m,rfl⟩:∃m:Nat,n=(m:Int):=⟨n.toNat,by omega⟩
  rw[zKg N 15 m (by omega) (by omega) (by omega)]
  rfl
theorem zGi{N:Nat}(x:Ex):qEu N x=some (lvH (x.1,x.2.1,x.2.2.1,x.2.2.2.1)):=by
 unfold qEu lvH
 by_cases h5:x.1=5
 ·simp[h5]
 by_cases h4:x.1=4
 ·by_cases o1:x.2.2.1=1
  ·simp[h4,o1]
  by_cases o2:x.2.2.1=2
  ·simp[h4,o2]
  by_cases o6:x.2.2.1=6
  ·simp[h4,o6]
  by_cases o7:x.2.2.1=7
  ·simp[h4,o7]
  simp[h4,o6,o7,o1,o2]
 simp[h5,h4]
theorem qSx{N:Nat}{h:Hd}{args:List Int}{need:Int}{B:List UInt8}(hB:B.length≤100000):(Option.bind (some (qEy B)) fun o1=>(qEu N (qJu h args)).bind fun y11=>if(decide (y11<need))=true then((catB (⟨#[40]⟩:ByteArray) o1).bind fun s27=>(catB s27 (⟨#[41]⟩:ByteArray)).bind fun s28=>some s28) else(some o1))=some (qEy (if lvH h<need then 40::(B++[41]) else B)):=by
 have z1:(⟨#[40]⟩:ByteArray).size=1:=rfl
 have z2:(⟨#[41]⟩:ByteArray).size=1:=rfl
 rw[show qEu N (qJu h args)=some (lvH h) from zGi _]
 simp only[j0]
 by_cases h:lvH h<need
 ·rw[if_pos (by simpa using h),if_pos h,catW (by rw[qDe];omega)]
  simp only[j0]
  rw[catW (by rw[ByteArray.size_append,qDe];omega)]
  rfl
 ·rw[if_neg (by simpa using h),if_neg h]
theorem zRx{op:Int}(h0:1≤op)(h1:op≤7):idx ([(⟨#[]⟩:ByteArray),(⟨#[43]⟩:ByteArray),(⟨#[45]⟩:ByteArray),(⟨#[42]⟩:ByteArray),(⟨#[47]⟩:ByteArray),(⟨#[37]⟩:ByteArray),(⟨#[60]⟩:ByteArray),(⟨#[61,61]⟩:ByteArray)]) op=some (qUh op):=by
 rcases(by omega:op=1∨op=2∨op=3∨op=4∨op=5∨op=6∨op=7) with rfl|rfl|rfl|rfl|rfl|rfl|rfl<;>rfl
section
variable {N:Nat} {l:List Ex} {ps:List ByteArray}
def RwOk(N:Nat)(l:List Ex)(ps:List ByteArray)(t:Rose):Prop:=∀(b D:Nat) (need:Int),AtT l b t→t.size≤300→t.size≤D→0≤need→qFx N D l ((b+t.size-1:Nat):Int) ps need=some (qEy (t.wr ps need))∧(t.wr ps need).length+2≤110*t.size
theorem nd0{h:Hd}(h4:h.1≠4)(k:Nat):qIi h k=0:=by unfold qIi;rw[if_neg h4]
theorem rw_L1{D:Nat}{h:Hd}{x:Ex}(hN:3000000<N)(h4:h.1≠4)(hx:x.2.2.2.2.length<2000000):∀(ks:List Rose) (k b M:Nat) (s:List UInt8),(∀t∈ks,RwOk N l ps t∧t.size≤300∧t.size≤D)→x.2.2.2.2.drop k=qDh b ks→k≤x.2.2.2.2.length→AtTs l b ks→s.length+110*qBp ks≤100000→ks.length<M→
  qAt (qHf N (qFx N D) l ps x) M (qEy s,(k:Int))=some (qEy (s++qNl k (wrs ps h k ks)))
 |_,_,_,0,_,_,_,_,_,_,hM=>absurd hM (kN _)
 |[],k,b,M+1,s,_,hr,hk,_,_,_=>by
  have hl:k=x.2.2.2.2.length:=by
   have:=congrArg List.length hr
   rw[gF] at this
   simp only[qDh,jF] at this
   omega
  simp only[qAt,qHf]
  rw[if_neg (by simp only[jA];omega)]
  simp only[j0,wrs,qNl,jY]
 |t::ks,k,b,M+1,s,hks,hr,hk,hat,hs,hM=>by
  have hpos:=t.pos
  simp only[qBp] at hs
  have hkl:k<x.2.2.2.2.length:=by
   by_cases hh:k<x.2.2.2.2.length
   ·exact hh
   ·rw[jT (by omega)] at hr;cases hr
  rw[qMw hkl] at hr
  obtain⟨hr1,hr2⟩:=List.cons.inj hr
  obtain⟨at1,at2⟩:=hat.head
  obtain⟨t1,t2,t3⟩:=hks t (jJ ..)
  obtain⟨w1,w2⟩:=t1 b D 0 at1 t2 t3 (fD 0)
  have ew:IntKind.wrap .i64 ((k:Int)+1)=((k+1:Nat):Int):=by rw[wi64 (by omega) (by omega)];omega
  have z:(⟨#[44,32]⟩:ByteArray).size=2:=rfl
  simp only[qAt,qHf]
  rw[if_pos (by simp only[jA];omega),qDn hkl,hr1]
  have hsep:(if(decide ((k:Int)>0))=true then((catB (qEy s) (⟨#[44,32]⟩:ByteArray)).bind fun s3=>some s3) else(some (qEy s)):Option ByteArray)=some (qEy (s++sepK k)):=by
   unfold sepK
   by_cases h0:k=0
   ·subst h0
    rw[if_neg (by decide),if_pos rfl,jY]
   ·rw[if_pos (by simp only[jA];omega),if_neg h0,catW (by rw[qDe];omega)]
    rfl
  have hsl:(s++sepK k).length≤s.length+2:=by
   unfold sepK
   split<;>simp
  simp only[j0,hsep,w1]
  rw[catW (by rw[qDe,qDe];omega)]
  simp only[j0,ew]
  have hcat:qEy (s++sepK k)++qEy (t.wr ps 0)=qEy ((s++sepK k)++t.wr ps 0):=by
   refine qRl ?_
   rw[qFo,qIs,qIs,qIs]
  rw[hcat,rw_L1 hN h4 hx ks (k+1) (b+t.size) M _ (fun u hu=>hks u (jL _ hu)) hr2 (by omega) at2 (by rw[jC];omega) (by simp only[jD] at hM;omega)]
  simp only[wrs,qNl,nd0 h4,jE]
theorem zVn(hN:3000000<N)(hps:∀s∈ps,s.size≤24)(hl:∀x∈l,qNa (ps.length:Int) x=true){t:Rose}(hf:Fine ps.length t):RwOk N l ps t:=by
 have hlen:∀(t:Rose) (b:Nat) (need:Int),AtT l b t→(t.wr ps need).length+2≤110*t.size:=fun t b need hat=>by
  obtain⟨p,q,rfl,-⟩:=hat
  exact zLk hps t b need fun x hx=>hl x (kA _ (kI _ hx))
 -- a node, from what its body is
 have node:∀(h:Hd) (ks:List Rose) (b D:Nat) (need:Int),AtT l b (.mk h ks)→(Rose.mk h ks).size≤300→(∀D',D=D'+1→(qJq ps h (wrs ps h 0 ks)).length≤100000→qCu N (qFx N D') l ((b+qBp ks:Nat):Int) ps need=some (qEy (if lvH h<need then 40::(qJq ps h (wrs ps h 0 ks)++[41]) else qJq ps h (wrs ps h 0 ks))))→(Rose.mk h ks).size≤D→
   qFx N D l ((b+(Rose.mk h ks).size-1:Nat):Int) ps need=some (qEy ((Rose.mk h ks).wr ps need))∧((Rose.mk h ks).wr ps need).length+2≤110*(Rose.mk h ks).size:=by
  intro h ks b D need hat hsz hX hD
  have hL:=hlen _ b need hat
  refine⟨?_,hL⟩
  simp only[Rose.size] at hsz hD hL ⊢
  obtain⟨D,rfl⟩:∃D',D=D'+1:=⟨D-1,by omega⟩
  have hb:(qJq ps h (wrs ps h 0 ks)).length≤100000:=by
   have h2:=hlen _ b 0 hat
   simp only[Rose.wr,Rose.size] at h2
   split at h2
   ·simp only[jD,jC] at h2;omega
   ·omega
  rw[show b+(qBp ks+1)-1=b+qBp ks by omega]
  simp only[Rose.wr]
  exact hX D rfl hb
 have sub:∀{t:Rose} {ks:List Rose},t∈ks→t.size≤qBp ks:=by
  intro t ks ht
  induction ks with
  |nil=>cases ht
  |cons u l ih=>
   simp only[qBp]
   rcases jR.1 ht with rfl|ht
   ·omega
   ·have:=ih ht;omega
 have z0:(⟨#[32]⟩:ByteArray).size=1:=rfl
 have z1:(⟨#[40]⟩:ByteArray).size=1:=rfl
 have z2:(⟨#[41]⟩:ByteArray).size=1:=rfl
 have z3:(⟨#[105,102,32]⟩:ByteArray).size=3:=rfl
 have z4:(⟨#[32,116,104,101,110,32]⟩:ByteArray).size=6:=rfl
 have z5:(⟨#[32,101,108,115,101,32]⟩:ByteArray).size=6:=rfl
 have z6:(⟨#[114,101,97,100,40,34]⟩:ByteArray).size=6:=rfl
 have z7:(⟨#[34,44,32]⟩:ByteArray).size=3:=rfl
 have z8:(⟨#[115,105,122,101,40,34]⟩:ByteArray).size=6:=rfl
 have z9:(⟨#[104,97,115,40,34]⟩:ByteArray).size=5:=rfl
 have za:(⟨#[101,110,118,40,34]⟩:ByteArray).size=5:=rfl
 have zb:(⟨#[34,41]⟩:ByteArray).size=2:=rfl
 have zc:(⟨#[102,108,105,112,40]⟩:ByteArray).size=5:=rfl
 induction hf with
 |num n h0 h1=>
  intro b D need hat hsz hD hn
  refine node _ _ b D need hat hsz (fun D' _ hb0=> ?_) hD
  unfold qCu
  rw[qRj hat.args.1]
  simp only[j0]
  refine Eq.trans (congrArg (fun z=>Option.bind z _) (?_:_=some (qEy _))) (qSx hb0)
  ·refine Eq.trans (if_pos rfl) ?_
   show(qGo N n).bind _=_
   rw[zFq h0 h1 (by omega)]
   rfl
 |par i h=>
  intro b D need hat hsz hD hn
  refine node _ _ b D need hat hsz (fun D' _ hb0=> ?_) hD
  unfold qCu
  rw[qRj hat.args.1]
  simp only[j0]
  refine Eq.trans (congrArg (fun z=>Option.bind z _) (?_:_=some (qEy _))) (qSx hb0)
  ·refine Eq.trans (if_neg (by show ¬((2:Int)==1)=true;decide)) ?_
   refine Eq.trans (if_pos rfl) ?_
   show(idx ps (i:Int)).bind _=_
   have e:ps.getD i ⟨#[]⟩=ps[i]:=by rw[k9,List.getElem?_eq_getElem h];rfl
   rw[qDn h]
   show some ps[i]=some (qEy (ps.getD (Int.toNat (i:Int)) ⟨#[]⟩).data.toList)
   rw[jS,e]
   rfl
 |call s ks h hk ih=>
  intro b D need hat hsz hD hn
  refine node _ _ b D need hat hsz (fun D' hD' hb0=> ?_) hD
  subst hD'
  simp only[Rose.size] at hsz hD
  have hs:=qHb h
  unfold qCu
  rw[qRj hat.args.1]
  simp only[j0]
  refine Eq.trans (congrArg (fun z=>Option.bind z _) (?_:_=some (qEy _))) (qSx hb0)
  ·have hll:=qRk ks
   refine Eq.trans (if_neg (by show ¬((3:Int)==1)=true;decide)) ?_
   refine Eq.trans (if_neg (by show ¬((3:Int)==2)=true;decide)) ?_
   refine Eq.trans (if_pos rfl) ?_
   show(catB s (⟨#[40]⟩:ByteArray)).bind _=_
   rw[catW (by omega)]
   simp only[j0]
   have hlp:=rw_L1 (D:=D') (h:=(3,0,0,s)) (x:=qJu (3,0,0,s) (qDh b ks)) hN (by show(3:Int)≠4;decide) (by show(qDh b ks).length<_;rw[qKf];omega) ks 0 b N (s++(⟨#[40]⟩:ByteArray)).data.toList (fun t ht=>⟨ih t ht,by have:=sub ht;omega,by have:=sub ht;omega⟩) (by rw[k0];rfl) (kZ _) hat.args.2 (by rw[szl,ByteArray.size_append];omega) (by omega)
   rw[show qEy (s++(⟨#[40]⟩:ByteArray)).data.toList=s++(⟨#[40]⟩:ByteArray) from qRl (qIs _),show((0:Nat):Int)=0 from rfl] at hlp
   rw[hlp]
   simp only[j0]
   have hw:=hlen _ b 0 hat
   simp only[Rose.wr,Rose.size] at hw
   rw[if_neg (by show ¬(4:Int)<0;decide)] at hw
   have hb:qJq ps (3,0,0,s) (wrs ps (3,0,0,s) 0 ks)=(s++(⟨#[40]⟩:ByteArray)).data.toList++(qNl 0 (wrs ps (3,0,0,s) 0 ks)++[41]):=rfl
   rw[hb] at hw ⊢
   simp only[jC,jD,jF] at hw
   rw[catW (by rw[qDe];simp only[jC];omega)]
   simp only[j0]
   congr 1
   refine qRl ?_
   rw[qFo,qIs,qIs,jE]
 |bin op a c h0 h1 ha hc iha ihc=>
  intro b D need hat hsz hD hn
  refine node _ _ b D need hat hsz (fun D' hD' hb0=> ?_) hD
  subst hD'
  obtain⟨hat1,hats⟩:=hat.args
  obtain⟨at1,atr⟩:=hats.head
  obtain⟨at2,-⟩:=atr.head
  simp only[Rose.size,qBp] at hsz hD
  have hp1:=a.pos
  have hp2:=c.pos
  obtain⟨e,-,l3⟩:(lvH (4,0,op,emB)=1∨lvH (4,0,op,emB)=2∨lvH (4,0,op,emB)=3)∧True∧True:=by
   rcases(by omega:op=1∨op=2∨op=3∨op=4∨op=5∨op=6∨op=7) with rfl|rfl|rfl|rfl|rfl|rfl|rfl<;>decide
  have n0:qIi (4,0,op,emB) 0=if lvH (4,0,op,emB)=1 then 2 else lvH (4,0,op,emB):=by unfold qIi;rw[if_pos rfl,if_pos rfl]
  have n1:qIi (4,0,op,emB) 1=lvH (4,0,op,emB)+1:=by unfold qIi;rw[if_pos rfl,if_neg (by decide)]
  obtain⟨wa,la⟩:=iha b D' (qIi (4,0,op,emB) 0) at1 (by omega) (by omega) (by rw[n0];split<;>omega)
  obtain⟨wc,lc⟩:=ihc (b+a.size) D' (qIi (4,0,op,emB) 1) at2 (by omega) (by omega) (by rw[n1];omega)
  have hsg:=zHn h0 h1
  unfold qCu
  rw[qRj hat1]
  simp only[j0]
  refine Eq.trans (congrArg (fun z=>Option.bind z _) (?_:_=some (qEy _))) (qSx hb0)
  ·refine Eq.trans (if_neg (by show ¬((4:Int)==1)=true;decide)) ?_
   refine Eq.trans (if_neg (by show ¬((4:Int)==2)=true;decide)) ?_
   refine Eq.trans (if_neg (by show ¬((4:Int)==3)=true;decide)) ?_
   refine Eq.trans (if_pos rfl) ?_
   rw[show qEu N (qJu (4,0,op,emB) (qDh b [a,c]))=some (lvH (4,0,op,emB)) from zGi _]
   simp only[j0]
   have hneed:(if(lvH (4,0,op,emB)==1)=true then some 2 else some (lvH (4,0,op,emB)):Option Int)=some (qIi (4,0,op,emB) 0):=by
    rw[n0]
    by_cases e:lvH (4,0,op,emB)=1
    ·rw[if_pos (by simpa using e),if_pos e]
    ·rw[if_neg (by simpa using e),if_neg e]
   have i0:idx (qJu (4,0,op,emB) (qDh b [a,c])).2.2.2.2 0=some ((b+a.size-1:Nat):Int):=rfl
   have i1:idx (qJu (4,0,op,emB) (qDh b [a,c])).2.2.2.2 1=some ((b+a.size+c.size-1:Nat):Int):=rfl
   have ew:IntKind.wrap .i64 (lvH (4,0,op,emB)+1)=qIi (4,0,op,emB) 1:=by rw[n1,wi64 (by omega) (by omega)]
   rw[hneed,i0,i1]
   simp only[j0,wa,ew,wc]
   rw[catW (by rw[qDe];omega)]
   simp only[j0]
   rw[show(qJu (4,0,op,emB) (qDh b [a,c])).2.2.1=op from rfl,zRx h0 h1]
   simp only[j0]
   rw[catW (by rw[ByteArray.size_append,qDe];omega)]
   simp only[j0]
   rw[catW (by simp only[ByteArray.size_append,qDe];omega)]
   simp only[j0]
   rw[catW (by simp only[ByteArray.size_append,qDe];omega)]
   simp only[j0]
   congr 1
   refine qRl ?_
   show _=a.wr ps (qIi (4,0,op,emB) 0)++((((⟨#[32]⟩:ByteArray)++qUh op)++(⟨#[32]⟩:ByteArray)).data.toList++c.wr ps (qIi (4,0,op,emB) 1))
   simp only[qFo,qIs,jE]
 |ite a c d ha hc hd iha ihc ihd=>
  intro b D need hat hsz hD hn
  refine node _ _ b D need hat hsz (fun D' hD' hb0=> ?_) hD
  subst hD'
  obtain⟨hat1,hats⟩:=hat.args
  obtain⟨at1,atr⟩:=hats.head
  obtain⟨at2,atr⟩:=atr.head
  obtain⟨at3,-⟩:=atr.head
  simp only[Rose.size,qBp] at hsz hD
  have hp1:=a.pos
  have hp2:=c.pos
  have hp3:=d.pos
  have hnd:∀k,qIi (5,0,0,emB) k=0:=nd0 (by show(5:Int)≠4;decide)
  obtain⟨wa,la⟩:=iha b D' 0 at1 (by omega) (by omega) (fD 0)
  obtain⟨wc,lc⟩:=ihc (b+a.size) D' 0 at2 (by omega) (by omega) (fD 0)
  obtain⟨wd,ld⟩:=ihd (b+a.size+c.size) D' 0 at3 (by omega) (by omega) (fD 0)
  unfold qCu
  rw[qRj hat1]
  simp only[j0]
  refine Eq.trans (congrArg (fun z=>Option.bind z _) (?_:_=some (qEy _))) (qSx hb0)
  ·refine Eq.trans (if_neg (by show ¬((5:Int)==1)=true;decide)) ?_
   refine Eq.trans (if_neg (by show ¬((5:Int)==2)=true;decide)) ?_
   refine Eq.trans (if_neg (by show ¬((5:Int)==3)=true;decide)) ?_
   refine Eq.trans (if_neg (by show ¬((5:Int)==4)=true;decide)) ?_
   refine Eq.trans (if_pos rfl) ?_
   have i0:idx (qJu (5,0,0,emB) (qDh b [a,c,d])).2.2.2.2 0=some ((b+a.size-1:Nat):Int):=rfl
   have i1:idx (qJu (5,0,0,emB) (qDh b [a,c,d])).2.2.2.2 1=some ((b+a.size+c.size-1:Nat):Int):=rfl
   have i2:idx (qJu (5,0,0,emB) (qDh b [a,c,d])).2.2.2.2 2=some ((b+a.size+c.size+d.size-1:Nat):Int):=rfl
   rw[i0,i1,i2]
   simp only[j0,wa]
   rw[catW (by rw[qDe];omega)]
   simp only[j0]
   rw[catW (by simp only[ByteArray.size_append,qDe];omega)]
   simp only[j0,wc]
   rw[catW (by simp only[ByteArray.size_append,qDe];omega)]
   simp only[j0]
   rw[catW (by simp only[ByteArray.size_append,qDe];omega)]
   simp only[j0,wd]
   rw[catW (by simp only[ByteArray.size_append,qDe];omega)]
   simp only[j0]
   congr 1
   refine qRl ?_
   show _=tI++(a.wr ps (qIi (5,0,0,emB) 0)++(tThen++(c.wr ps (qIi (5,0,0,emB) 1)++(tElse++d.wr ps (qIi (5,0,0,emB) 2)))))
   simp only[qFo,qIs,jE,hnd]
   rfl
 |read s a h ha iha=>
  intro b D need hat hsz hD hn
  refine node _ _ b D need hat hsz (fun D' hD' hb0=> ?_) hD
  subst hD'
  obtain⟨hat1,hats⟩:=hat.args
  obtain⟨at1,-⟩:=hats.head
  simp only[Rose.size,qBp] at hsz hD
  have hp1:=a.pos
  have hs:=qUe h
  have hnd:∀k,qIi (6,0,0,s) k=0:=nd0 (by show(6:Int)≠4;decide)
  obtain⟨wa,la⟩:=iha b D' 0 at1 (by omega) (by omega) (fD 0)
  unfold qCu
  rw[qRj hat1]
  simp only[j0]
  refine Eq.trans (congrArg (fun z=>Option.bind z _) (?_:_=some (qEy _))) (qSx hb0)
  ·refine Eq.trans (if_neg (by show ¬((6:Int)==1)=true;decide)) ?_
   refine Eq.trans (if_neg (by show ¬((6:Int)==2)=true;decide)) ?_
   refine Eq.trans (if_neg (by show ¬((6:Int)==3)=true;decide)) ?_
   refine Eq.trans (if_neg (by show ¬((6:Int)==4)=true;decide)) ?_
   refine Eq.trans (if_neg (by show ¬((6:Int)==5)=true;decide)) ?_
   refine Eq.trans (if_pos rfl) ?_
   have i0:idx (qJu (6,0,0,s) (qDh b [a])).2.2.2.2 0=some ((b+a.size-1:Nat):Int):=rfl
   rw[show(qJu (6,0,0,s) (qDh b [a])).2.2.2.1=s from rfl,i0,catW (by omega)]
   simp only[j0]
   rw[catW (by rw[ByteArray.size_append];omega)]
   simp only[j0,wa]
   rw[catW (by simp only[ByteArray.size_append,qDe];omega)]
   simp only[j0]
   rw[catW (by simp only[ByteArray.size_append,qDe];omega)]
   simp only[j0]
   congr 1
   refine qRl ?_
   show _=(((⟨#[114,101,97,100,40,34]⟩:ByteArray)++s)++(⟨#[34,44,32]⟩:ByteArray)).data.toList++(a.wr ps (qIi (6,0,0,s) 0)++[41])
   simp only[qFo,qIs,jE,hnd]
 |look k s hk h=>
  intro b D need hat hsz hD hn
  refine node _ _ b D need hat hsz (fun D' _ hb0=> ?_) hD
  have hs:=qUe h
  unfold qCu
  rw[qRj hat.args.1]
  simp only[j0]
  refine Eq.trans (congrArg (fun z=>Option.bind z _) (?_:_=some (qEy _))) (qSx hb0)
  ·rcases hk with rfl|rfl
   ·refine Eq.trans (if_neg (by show ¬((7:Int)==1)=true;decide)) ?_
    refine Eq.trans (if_neg (by show ¬((7:Int)==2)=true;decide)) ?_
    refine Eq.trans (if_neg (by show ¬((7:Int)==3)=true;decide)) ?_
    refine Eq.trans (if_neg (by show ¬((7:Int)==4)=true;decide)) ?_
    refine Eq.trans (if_neg (by show ¬((7:Int)==5)=true;decide)) ?_
    refine Eq.trans (if_neg (by show ¬((7:Int)==6)=true;decide)) ?_
    refine Eq.trans (if_pos rfl) ?_
    rw[show(qJu (7,0,0,s) (qDh b [])).2.2.2.1=s from rfl,catW (by omega)]
    simp only[j0]
    rw[catW (by rw[ByteArray.size_append];omega)]
    simp only[j0]
    congr 1
   ·refine Eq.trans (if_neg (by show ¬((8:Int)==1)=true;decide)) ?_
    refine Eq.trans (if_neg (by show ¬((8:Int)==2)=true;decide)) ?_
    refine Eq.trans (if_neg (by show ¬((8:Int)==3)=true;decide)) ?_
    refine Eq.trans (if_neg (by show ¬((8:Int)==4)=true;decide)) ?_
    refine Eq.trans (if_neg (by show ¬((8:Int)==5)=true;decide)) ?_
    refine Eq.trans (if_neg (by show ¬((8:Int)==6)=true;decide)) ?_
    refine Eq.trans (if_neg (by show ¬((8:Int)==7)=true;decide)) ?_
    refine Eq.trans (if_pos rfl) ?_
    rw[show(qJu (8,0,0,s) (qDh b [])).2.2.2.1=s from rfl,catW (by omega)]
    simp only[j0]
    rw[catW (by rw[ByteArray.size_append];omega)]
    simp only[j0]
    congr 1
 |env s h=>
  intro b D need hat hsz hD hn
  refine node _ _ b D need hat hsz (fun D' _ hb0=> ?_) hD
  have hs:=zAw h
  unfold qCu
  rw[qRj hat.args.1]
  simp only[j0]
  refine Eq.trans (congrArg (fun z=>Option.bind z _) (?_:_=some (qEy _))) (qSx hb0)
  ·refine Eq.trans (if_neg (by show ¬((9:Int)==1)=true;decide)) ?_
   refine Eq.trans (if_neg (by show ¬((9:Int)==2)=true;decide)) ?_
   refine Eq.trans (if_neg (by show ¬((9:Int)==3)=true;decide)) ?_
   refine Eq.trans (if_neg (by show ¬((9:Int)==4)=true;decide)) ?_
   refine Eq.trans (if_neg (by show ¬((9:Int)==5)=true;decide)) ?_
   refine Eq.trans (if_neg (by show ¬((9:Int)==6)=true;decide)) ?_
   refine Eq.trans (if_neg (by show ¬((9:Int)==7)=true;decide)) ?_
   refine Eq.trans (if_neg (by show ¬((9:Int)==8)=true;decide)) ?_
   refine Eq.trans (if_pos rfl) ?_
   rw[show(qJu (9,0,0,s) (qDh b [])).2.2.2.1=s from rfl,catW (by omega)]
   simp only[j0]
   rw[catW (by rw[ByteArray.size_append];omega)]
   simp only[j0]
   congr 1
 |flip n h=>
  intro b D need hat hsz hD hn
  refine node _ _ b D need hat hsz (fun D' _ hb0=> ?_) hD
  unfold qCu
  rw[qRj hat.args.1]
  simp only[j0]
  refine Eq.trans (congrArg (fun z=>Option.bind z _) (?_:_=some (qEy _))) (qSx hb0)
  ·have hi:=zIb (n:=(n:Int)) (by omega) (by omega)
   refine Eq.trans (if_neg (by show ¬((10:Int)==1)=true;decide)) ?_
   refine Eq.trans (if_neg (by show ¬((10:Int)==2)=true;decide)) ?_
   refine Eq.trans (if_neg (by show ¬((10:Int)==3)=true;decide)) ?_
   refine Eq.trans (if_neg (by show ¬((10:Int)==4)=true;decide)) ?_
   refine Eq.trans (if_neg (by show ¬((10:Int)==5)=true;decide)) ?_
   refine Eq.trans (if_neg (by show ¬((10:Int)==6)=true;decide)) ?_
   refine Eq.trans (if_neg (by show ¬((10:Int)==7)=true;decide)) ?_
   refine Eq.trans (if_neg (by show ¬((10:Int)==8)=true;decide)) ?_
   refine Eq.trans (if_neg (by show ¬((10:Int)==9)=true;decide)) ?_
   refine Eq.trans (if_pos rfl) ?_
   rw[show(qJu (10,(n:Int),0,emB) (qDh b [])).2.1=(n:Int) from rfl,zFq (by omega) (by omega) (by omega)]
   simp only[j0]
   rw[catW (by omega)]
   simp only[j0]
   rw[catW (by rw[ByteArray.size_append];omega)]
   simp only[j0]
   congr 1
end
theorem zPy{N:Nat}{d:Dl}(h:OkD d)(hN:3000000<N):qLt N d.2.2.2 (IntKind.wrap .i64 ((d.2.2.2.length:Int)-1)) d.2.2.1 0=some (qEy (wrD d)):=by
 obtain⟨t,h1,h2,h3⟩:=h.tree
 have hsz:t.size=d.2.2.2.length:=by
  have:=qHk t 0
  rw[←h2] at this;exact this.symm
 have hp:=t.pos
 have hb:=h.body
 have hat:AtT d.2.2.2 0 t:=by
  have:=AtT.whole t
  rw[←h2] at this;exact this
 have hw:wrD d=t.wr d.2.2.1 0:=by unfold wrD;rw[h1]
 have hr:=(zVn hN (fun s hs=>qHb (h.names s hs)) h.good.nodes h3 0 N 0 hat (by omega) (by omega) (fD 0)).1
 unfold qLt
 rw[wi64 (by omega) (by omega),hw,show(d.2.2.2.length:Int)-1=((0+t.size-1:Nat):Int) by omega]
 exact hr
end
section
open Go Go.Dc Go.Proofs
theorem zDu(a b:List UInt8):qEy a++qEy b=qEy (a++b):=qRl (by rw[qFo,qIs,qIs,qIs])
theorem zGn(s:ByteArray):qEy s.data.toList=s:=qRl (qIs _)
theorem zPe{d:Dl}(hd:GoodD d)(hb:d.2.2.2.length≤256):(wrD d).length≤30000:=by
 obtain⟨t,h1,h2⟩:=qWw hd.tree
 have hsz:t.size=d.2.2.2.length:=by
  have:=qHk t 0
  rw[←h2] at this;exact this.symm
 have hv:∀x∈t.flat 0,qNa (d.2.2.1.length:Int) x=true:=fun x hx=>hd.nodes x (by rw[h2];exact hx)
 have hwl:=zLk (ps:=d.2.2.1) (fun s hs=>qHb (hd.pars s hs).2) t 0 0 hv
 have hw:wrD d=t.wr d.2.2.1 0:=by unfold wrD;rw[h1]
 rw[hw];omega
theorem zOa{d:Dl}(h:OkD d):(qQb d).length≤31000:=by
 have h1:=qZa h.good h.pars
 have h2:=zPe h.good h.body
 have z1:(⟨#[32,61,32]⟩:ByteArray).size=3:=rfl
 have z2:(⟨#[59,10]⟩:ByteArray).size=2:=rfl
 unfold qQb
 simp only[jC,szl,ByteArray.size_append,qDe];omega
theorem zRb{l:List ByteArray}(h:∀s∈l,qDo s=true):(l.flatMap impT).length≤40*l.length:=by
 induction l with
 |nil=>exact kZ _
 |cons s l ih=>
  have i1:=qHb (h s (jJ ..))
  have i2:=ih fun x hx=>h x (jL _ hx)
  have z1:(⟨#[105,109,112,111,114,116,32]⟩:ByteArray).size=7:=rfl
  have z2:(⟨#[59,10]⟩:ByteArray).size=2:=rfl
  have e:(impT s).length≤40:=by unfold impT;simp only[szl,ByteArray.size_append];omega
  simp only[kH,jC,jD];omega
theorem zQs{N:Nat}{f:Sr}(h:GoodS f)(hN:3000000<N):qKv N f=some (qEy (pkgT f.1++f.2.1.flatMap impT))∧(pkgT f.1++f.2.1.flatMap impT).length≤600:=by
 have hn:=h.impn
 have hpk:=qHb h.pkg
 have z1:(⟨#[112,97,99,107,97,103,101,32]⟩:ByteArray).size=8:=rfl
 have z2:(⟨#[59,10]⟩:ByteArray).size=2:=rfl
 have z3:(⟨#[105,109,112,111,114,116,32]⟩:ByteArray).size=7:=rfl
 have hpl:(pkgT f.1).length≤100:=by unfold pkgT;simp only[szl,ByteArray.size_append];omega
 refine⟨?_,by have:=zRb h.imps;rw[jC];omega⟩
 have hlen:∀s∈f.2.1,(impT s).length≤40:=fun s hs=>by
  have:=qHb (h.imps s hs)
  unfold impT
  simp only[szl,ByteArray.size_append];omega
 have hl:=qHd (L:=f.2.1) (fun(t:List UInt8) (i:Nat)=>(qEy t,(i:Int))) (f:=qHr N f)
  (fun t s=> .inl (t++impT s)) (fun t=>qEy t) (fun i t=>t.length≤100+40*i) (by
   intro t i hi hI
   have h1:=qHb (h.imps _ (jW hi))
   simp only[qHr]
   rw[if_pos (by simp only[jA];omega),qDn hi]
   have ew:IntKind.wrap .i64 ((i:Int)+1)=((i+1:Nat):Int):=by rw[wi64 (by omega) (by omega)];omega
   simp only[j0]
   rw[catW (by omega)]
   simp only[j0]
   rw[catW (by rw[ByteArray.size_append];omega)]
   simp only[j0]
   rw[catW (by simp only[ByteArray.size_append,qDe];omega)]
   simp only[j0,ew]
   rw[←zDu,show qEy (impT f.2.1[i])=_ from zGn _]) (by
   intro t i hi t' hI hh
   cases hh
   have:=hlen _ (jW hi)
   simp only[jC];omega) (by
   intro t hI
   simp only[qHr]
   rw[if_neg (by simp)]) (M:=N) (t:=pkgT f.1) (by omega) (by omega)
 unfold qKv
 rw[catW (by omega)]
 simp only[j0]
 rw[catW (by rw[ByteArray.size_append];omega)]
 simp only[j0]
 rw[show((⟨#[112,97,99,107,97,103,101,32]⟩:ByteArray)++f.1)++(⟨#[59,10]⟩:ByteArray)=qEy (pkgT f.1) from(zGn _).symm,show(0:Int)=((0:Nat):Int) from rfl,hl]
 simp only[j0]
 rw[qZg (fun t s=>t++impT s) (fun _ _=>rfl),qVm]
theorem par_L1{N:Nat}{d:Dl}(h:OkD d)(hN:3000000<N){s:ByteArray}(hs:s.size≤200):qAt (qEp N d) N (s,0)=some (s++zBe d.2.2.1):=by
 have hn:=h.pars
 have hl:=qHd (L:=d.2.2.1) (fun(t:List UInt8×Nat) (i:Nat)=>(qEy t.1,(i:Int))) (f:=qEp N d)
  (fun t x=> .inl ((t.1++sepK t.2)++x.data.toList,t.2+1)) (fun t=>qEy t.1) (fun i t=>t.2=i∧t.1.length≤200+40*i) (by
   rintro⟨t,k⟩ i hi ⟨rfl,hI⟩
   simp only at hI hi ⊢
   have h1:=qHb (h.names _ (jW hi))
   have z:(⟨#[44,32]⟩:ByteArray).size=2:=rfl
   simp only[qEp]
   rw[if_pos (by simp only[jA];omega),qDn hi]
   have ew:IntKind.wrap .i64 ((k:Int)+1)=((k+1:Nat):Int):=by rw[wi64 (by omega) (by omega)];omega
   have hsep:(if(decide ((k:Int)>0))=true then((catB (qEy t) (⟨#[44,32]⟩:ByteArray)).bind fun s3=>some s3) else(some (qEy t)):Option ByteArray)=some (qEy (t++sepK k)):=by
    unfold sepK
    by_cases h0:k=0
    ·subst h0
     rw[if_neg (by decide),if_pos rfl,jY]
    ·rw[if_pos (by simp only[jA];omega),if_neg h0,catW (by rw[qDe];omega)]
     rfl
   have hsl:(t++sepK k).length≤t.length+2:=by
    unfold sepK
    split<;>simp
   simp only[j0,hsep]
   rw[catW (by rw[qDe];omega)]
   simp only[j0,ew]
   rw[←zDu (t++sepK k),zGn]) (by
   rintro⟨t,k⟩ i hi t' ⟨rfl,hI⟩ hh
   obtain rfl:=(Sum.inl.inj hh).symm
   have h1:(d.2.2.1[k]).size≤24:=qHb (h.names _ (jW hi))
   have hsl:(sepK k).length≤2:=by
    unfold sepK
    split<;>simp
   refine⟨rfl,?_⟩
   show((t++sepK k)++(d.2.2.1[k]).data.toList).length≤200+40*(k+1)
   simp only at hI
   simp only[jC,szl]
   omega) (by
   rintro⟨t,k⟩ ⟨rfl,hI⟩
   simp only[qEp]
   rw[if_neg (by simp)]) (M:=N) (t:=(s.data.toList,0)) (by omega) ⟨rfl,by rw[szl];omega⟩
 rw[show qEy (s.data.toList,0).1=s from zGn s,show((0:Nat):Int)=0 from rfl] at hl
 rw[hl]
 have key:∀(l:List ByteArray) (t:List UInt8) (k:Nat),run (fun(t:List UInt8×Nat) (x:ByteArray)=>(.inl ((t.1++sepK t.2)++x.data.toList,t.2+1):(List UInt8×Nat)⊕ByteArray)) (fun t=>qEy t.1) l (t,k)=qEy (t++qNl k (l.map fun s=>s.data.toList)):=by
  intro l
  induction l with
  |nil=>intro t k;simp[run,qNl]
  |cons x l ih=>
   intro t k
   simp only[run,kC,qNl]
   rw[ih]
   simp only[jE]
 rw[key,←zDu,zGn]
 rfl
theorem zSh{N:Nat}{d:Dl}(h:OkD d)(hN:3000000<N):qKw N d=some (qEy (qQb d)):=by
 have hh:=qZa h.good h.pars
 have hnl:=zDq h.good
 have hw:=zPe h.good h.body
 have y1:(⟨#[102,117,110,99,32]⟩:ByteArray).size=5:=rfl
 have y2:(⟨#[40]⟩:ByteArray).size=1:=rfl
 have y3:(⟨#[41]⟩:ByteArray).size=1:=rfl
 have y4:(⟨#[116,101,115,116,32]⟩:ByteArray).size=5:=rfl
 have y5:(⟨#[103,101,110,32,34]⟩:ByteArray).size=5:=rfl
 have y6:(⟨#[34]⟩:ByteArray).size=1:=rfl
 have y7:(⟨#[32,61,32]⟩:ByteArray).size=3:=rfl
 have y8:(⟨#[59,10]⟩:ByteArray).size=2:=rfl
 have hhead:(if(d.1==1)=true then((catB (⟨#[102,117,110,99,32]⟩:ByteArray) d.2.1).bind fun s1=>(catB s1 (⟨#[40]⟩:ByteArray)).bind fun s2=>(qAt (qEp N d) N (s2,0)).bind fun o2=>(catB o2 (⟨#[41]⟩:ByteArray)).bind fun s6=>some s6) else(if(d.1==2)=true then((catB (⟨#[116,101,115,116,32]⟩:ByteArray) d.2.1).bind fun s7=>some s7) else(if(d.1==3)=true then((catB (⟨#[103,101,110,32,34]⟩:ByteArray) d.2.1).bind fun s8=>(catB s8 (⟨#[34]⟩:ByteArray)).bind fun s9=>some s9) else(some (⟨#[]⟩:ByteArray)))):Option (ByteArray))=some (zDm d):=by
  unfold zDm at hh ⊢
  by_cases k1:d.1=1
  ·rw[if_pos k1] at hh
   simp only[ByteArray.size_append] at hh
   rw[if_pos (by simpa using k1),if_pos k1,catW (by omega)]
   simp only[j0]
   rw[catW (by rw[ByteArray.size_append];omega)]
   simp only[j0]
   rw[par_L1 h hN (by simp only[ByteArray.size_append];omega)]
   simp only[j0]
   rw[catW (by simp only[ByteArray.size_append];omega)]
   rfl
  ·rw[if_neg (by simpa using k1),if_neg k1]
   by_cases k2:d.1=2
   ·rw[if_pos (by simpa using k2),if_pos k2,catW (by omega)]
    rfl
   ·have k3:d.1=3:=by
     rcases h.kind with ⟨h,-⟩|⟨h,-⟩<;>omega
    rw[if_neg (by simpa using k2),if_neg k2,if_pos (by simpa using k3),catW (by omega)]
    simp only[j0]
    rw[catW (by rw[ByteArray.size_append];omega)]
    rfl
 unfold qKw
 refine Eq.trans (congrArg (fun z=>Option.bind z _) hhead) ?_
 simp only[j0]
 rw[catW (by omega)]
 simp only[j0]
 rw[zPy h hN]
 simp only[j0]
 rw[catW (by rw[ByteArray.size_append,qDe];omega)]
 simp only[j0]
 rw[catW (by simp only[ByteArray.size_append,qDe];omega)]
 simp only[j0]
 congr 1
 refine qRl ?_
 unfold qQb
 simp only[qFo,qIs,jE]
theorem zMc{N:Nat}{f:Sr}(hf:SmR f)(hN:3000000<N):qJt N f=some (if qMj f=0 then qUk f else(⟨#[]⟩,qMj f)):=by
 unfold qJt
 rw[zGa hf hN]
 simp only[j0]
 by_cases hc:qMj f=0
 ·have hg:=qZh hc
  have hdn:=hg.decn
  obtain⟨h1,h2⟩:=zQs hg hN
  rw[if_neg (by simp[hc]),if_pos hc,h1]
  simp only[j0]
  have hll:∀d∈f.2.2,(qQb d).length≤31000:=fun d hd=>by
   exact zOa (zFu hg d hd)
  have hl:=qHd (L:=f.2.2) (fun(t:List UInt8) (i:Nat)=>(qEy t,(i:Int))) (f:=qGg N f)
   (fun t d=> .inl (t++qQb d)) (fun t=>qEy t) (fun i t=>t.length≤600+31000*i) (by
    intro t i hi hI
    have hm:=jW hi
    have h3:=hll _ hm
    simp only[qGg]
    rw[if_pos (by simp only[jA];omega),qDn hi]
    have ew:IntKind.wrap .i64 ((i:Int)+1)=((i+1:Nat):Int):=by rw[wi64 (by omega) (by omega)];omega
    simp only[j0]
    rw[zSh (zFu hg _ hm) hN]
    simp only[j0]
    rw[catW (by rw[qDe,qDe];omega)]
    simp only[j0,ew,zDu]) (by
    intro t i hi t' hI hh
    cases hh
    have:=hll _ (jW hi)
    simp only[jC];omega) (by
    intro t hI
    simp only[qGg]
    rw[if_neg (by simp)]) (M:=N) (t:=pkgT f.1++f.2.1.flatMap impT) (by omega) (by omega)
  rw[show(0:Int)=((0:Nat):Int) from rfl,hl]
  simp only[j0]
  rw[qZg (fun t d=>t++qQb d) (fun _ _=>rfl),qVm,show(pkgT f.1++f.2.1.flatMap impT)++f.2.2.flatMap qQb=fmtT f from rfl,zDe hc,qDe]
  by_cases hs:16384<(fmtT f).length
  ·rw[if_pos (by simp only[jA];omega),if_pos hs]
  ·rw[if_neg (by simp only[jA];omega),if_neg hs,zJt _ (by omega)]
   simp only[j0]
   rw[show(⟨⟨fmtT f⟩⟩:ByteArray)=qEy (fmtT f) from rfl]
   by_cases h2:(qVz (qEy (fmtT f))).2.2=2
   ·rw[if_pos (by simpa using h2),if_pos h2]
   ·rw[if_neg (by simpa using h2),if_neg h2]
    rfl
 ·rw[if_pos (by simpa using hc),if_neg hc]
end
section
open Go Go.Dc Go.Proofs
def awT:ByteArray:=⟨#[112,97,99,107,97,103,101,32,112,59,32,102,117,110,99,32,102,40,120,41,32,61,32,120,32,43,32,50,32,42,32,51,59]⟩
def awS:ByteArray:=⟨#[112,97,99,107,97,103,101,32,112,59,10,102,117,110,99,32,102,40,120,41,32,61,32,120,32,43,32,50,32,42,32,51,59,10]⟩
def awD(a b:Int):Dl:=(1,⟨#[102]⟩,[⟨#[120]⟩],[(2,0,0,emB,[]),(1,a,0,emB,[]),(1,b,0,emB,[]),(4,0,3,emB,[1,2]),(4,0,1,emB,[0,3])])
def awL:Sr:=(⟨#[112]⟩,[],[awD 2 3])
theorem aw_p:qVz awT=(awL,0,0):=by kernel_rfl
theorem zTc:qMj awL=0:=by kernel_rfl
theorem aw_sm:SmSr awL:=by
 refine⟨by show 0<2000000;decide,by show 1<2000000;decide,fun d hd=> ?_⟩
 have hd:d=awD 2 3:=kO.1 hd
 subst hd
 refine⟨by show(1:Nat)≤1048576;decide,by show 1<2000000;decide,by show 5<2000000;decide,fun e he=> ?_⟩
 have he:e∈[((2,0,0,emB,[]):Ex),(1,2,0,emB,[]),(1,3,0,emB,[]),(4,0,3,emB,[1,2]),(4,0,1,emB,[0,3])]:=he
 simp only[jR,gE,dH] at he
 rcases he with rfl|rfl|rfl|rfl|rfl<;>exact⟨by show 0≤1048576;decide,by decide⟩
theorem aw_w(a b:Int):wrD (awD a b)=[120]++([32,43,32]++(Lib.itoa a++([32,42,32]++Lib.itoa b)))∧depD (awD a b)=1:=⟨by kernel_rfl,by kernel_rfl⟩
theorem zKw{n:Nat}(h:n<10):Lib.itoa (n:Int)=[UInt8.ofNat (48+n)]:=by
 rw[←Lib.decDigits_one h,←qQr]
 rfl
theorem aw_f:qUk awL=(awS,0):=by
 have e2:Lib.itoa 2=[50]:=zKw (n:=2) (by decide)
 have e3:Lib.itoa 3=[51]:=zKw (n:=3) (by decide)
 have hd:(awL.2.2.any fun d=>decide (32<depD d))=false:=by
  show(decide (32<depD (awD 2 3))||false)=false
  rw[(aw_w 2 3).2];rfl
 have ht:fmtT awL=awS.data.toList:=by
  have h1:wrD (awD 2 3)=[120,32,43,32,50,32,42,32,51]:=by rw[(aw_w 2 3).1,e2,e3];rfl
  have h4:qQb (awD 2 3)=[102,117,110,99,32,102,40,120,41,32,61,32,120,32,43,32,50,32,42,32,51,59,10]:=by
   unfold qQb
   rw[h1]
   rfl
  show(pkgT ⟨#[112]⟩++([]:List ByteArray).flatMap impT)++[awD 2 3].flatMap qQb=_
  simp only[kH,List.flatMap_nil,jY,h4]
  rfl
 unfold qUk
 rw[if_neg (by rw[hd];decide),ht,if_neg (by show ¬16384<34;decide)]
 rfl
theorem aw_i0:idx awL.2.2 0=some (awD 2 3):=rfl
theorem aw_i1:idx (awD 2 3).2.2.2 4=some ((4,0,1,⟨#[]⟩,[0,3]):Ex):=rfl
theorem qPl{α β:Type}{x:Option α}{v:α}{f:α→Option β}{r:Option β}(h:x=some v)(h2:f v=r):Option.bind x f=r:=by
 subst h;exact h2
theorem aw_true{N:Nat}(hN:3000000<N):qKe N=some true:=by
 have h1:qNr N awT=some (awL,0,0):=by rw[zQl _ (by omega),aw_p]
 have h2:qJv N awL=some (awS,0):=by
  have h:qJv N awL=_:=zAp aw_sm hN
  rw[h,if_pos zTc,aw_f]
 have h3:qJz N awL=some 0:=by
  have h:qJz N awL=_:=zAk aw_sm hN
  rw[h,zTc]
 unfold qKe
 refine qPl h1 ?_
 refine qPl h2 ?_
 refine qPl (v:=true) ?_ rfl
 refine Eq.trans (if_pos rfl) (Eq.trans (if_pos rfl) (Eq.trans (if_pos rfl) (Eq.trans (if_pos rfl) ?_)))
 refine qPl aw_i0 ?_
 refine Eq.trans (if_pos rfl) ?_
 refine qPl aw_i0 ?_
 refine qPl aw_i1 ?_
 refine Eq.trans (if_pos rfl) ?_
 refine Eq.trans (if_pos (kX awS.toList)) ?_
 refine qPl h3 ?_
 rfl
theorem zHj{N:Nat}(hN:3000000<N){f:Sr}(hf:SmSr f):qHx N f=some true:=by
 have ho:∃b:List Dl,(if(decide ((List.length f.2.2:Int)>20))=true then((subS f.2.2 0 20).bind fun l1=>some l1) else(some f.2.2):Option (List Dl))=some b∧b.length≤f.2.2.length∧∀d∈b,d∈f.2.2:=by
  by_cases h:(List.length f.2.2:Int)>20
  ·refine⟨(f.2.2.take 20).drop 0,?_,by simp only[k0,kS];omega,fun d hd=>List.mem_of_mem_take (by rw[k0] at hd;exact hd)⟩
   rw[if_pos (by simpa using h),qPt (by decide) (by decide) (by omega)]
   rfl
  ·exact⟨f.2.2,if_neg (by simpa using h),jV _,fun d hd=>hd⟩
 obtain⟨b,h1,h2,h3⟩:=ho
 have hs:SmSr (f.1,f.2.1,b):=⟨hf.1,Nat.lt_of_le_of_lt h2 hf.2.1,fun d hd=>hf.2.2 d (h3 d hd)⟩
 unfold qHx
 refine qPl h1 ?_
 refine qPl (zAp hs hN) ?_
 refine qPl (zMc hs.r hN) ?_
 refine qPl (v:=true) ?_ rfl
 refine qPl (zAk hs hN) ?_
 refine qPl (zGa hs.r hN) ?_
 rw[if_pos (kX _),if_pos (kX _),if_pos (kX _),aw_true hN]
 rfl
theorem testgatelaw05_SourceRaw_true(f:Sr)(g:f.1.size≤1048576∧(f.2.1.length≤1048576∧∀s∈f.2.1,s.size≤1048576)∧(f.2.2.length≤1048576∧∀d∈f.2.2,(Lit.int .i64 d.1).wf=true∧d.2.1.size≤1048576∧(d.2.2.1.length≤1048576∧∀s∈d.2.2.1,s.size≤1048576)∧(d.2.2.2.length≤1048576∧∀x∈d.2.2.2,(Lit.int .i64 x.1).wf=true∧(Lit.int .i64 x.2.1).wf=true∧(Lit.int .i64 x.2.2.1).wf=true∧x.2.2.2.1.size≤1048576∧(x.2.2.2.2.length≤1048576∧∀a∈x.2.2.2.2,(Lit.int .i64 a).wf=true)))):∃N,qHx N f=some true:=by
 obtain⟨-,⟨g1,-⟩,g2,g3⟩:=g
 refine⟨3000001,zHj (by decide) ⟨by omega,by omega,fun d hd=> ?_⟩⟩
 obtain⟨-,k1,⟨k2,-⟩,k3,k4⟩:=g3 d hd
 refine⟨k1,by omega,by omega,fun x hx=> ?_⟩
 obtain⟨-,-,-,q1,q2,-⟩:=k4 x hx
 exact⟨q1,by omega⟩
end
end Go.Proofs.YteajdekbpcmdaaaGreatDoor
