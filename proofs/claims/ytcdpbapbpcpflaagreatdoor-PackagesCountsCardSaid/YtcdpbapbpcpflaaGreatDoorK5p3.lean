/- No condition but those of each theorem. -/
import Derived.Test.YtcdpbapbpcpflaaGreatDoorProg
import Derived.WalkKit
import Derived.Deep.LoopGhost
import Derived.KernelRfl
import Derived.OrdersHeld
import Derived.OrdersIn
import Derived.LoopNIn
import Derived.Sort.LoopGhostIn
import Derived.Laws.AppendOwn
import Derived.RangeFuncLeaves
import Derived.RangeFuncRecord
import Derived.MapKept
import Derived.Maps.RangeRun
import Derived.ChangeKeysEq
import Derived.HandedShaped
import Derived.ChangeStays
import Derived.ChangeSame
import Derived.OpenShut
import Derived.WideShapes
import Derived.JoinedOf
import Derived.ReadAgain
import Derived.ChangeAt
import Derived.RowKit
import Derived.Lib.Overlaps
import Derived.Shelf.SlSortCmp.NoneTotal
import Derived.Shelf.Sort.Plain
import Derived.Shelf.Slices.In.SortNone
import Derived.WalkSmall
import Derived.Recover
import Derived.Lib.Bytealg
import Derived.Test.YtcdpbapbpcpflaaGreatDoorK4p3
namespace Go.Proofs.YtcdpbapbpcpflaaGreatDoor
section
open Go Go.Dc Go.Proofs
theorem qWy{α:Type}(g:α→Int):∀(L:List α) (t:Int),L.foldl (fun t x=>t+g x) t=t+(L.map g).sum
 |[],t=>by simp
 |x::L,t=>by rw[jM,qWy g L,jT,gI];omega
theorem qUv{α:Type}(g:α→Nat):∀L:List α,(L.map fun x=>((g x:Nat):Int)).sum=(((L.map g).sum:Nat):Int)
 |[]=>rfl
 |x::L=>by
  have ih:=qUv g L
  simp only[jT,gI,ih];omega
theorem zDv{α β:Type}{L:List α}{f:Int×Int→Option ((Int×Int)⊕β)}(g:α→Int)(fin:Int→β)(hg:∀x∈L,0≤g x∧g x≤1000000)(hL:L.length≤1000000){t0:Int}(h0:0≤t0)(h1:t0≤1000000)
  (hs:∀(t:Int) (i:Nat) (hi:i<L.length),0≤t→t≤1000000000000000→f (t,(i:Int))=some (.inl (t+g L[i],((i+1:Nat):Int)))) (hf:∀t,f (t,(L.length:Int))=some (.inr (fin t))) {M:Nat} (hM:L.length<M):
  qBj f M (t0,0)=some (fin (t0+(L.map g).sum)):=by
 have h:=qUf (L:=L) (fun(t:Int) (i:Nat)=>(t,(i:Int))) (f:=f) (fun t x=> .inl (t+g x)) fin (fun i t=>0≤t∧t≤1000000*(i:Int)+1000000) (by
   intro t i hi hI
   rw[hs t i hi hI.1 (by omega)]) (by
   intro t i hi t' hI h
   cases h
   have:=hg _ (jX hi)
   omega) (by intro t hI;rw[hf]) L.length 0 M t0 (by omega) hM ⟨h0,by omega⟩
 rw[kI,qOk (fun t x=>t+g x) (fun _ _=>rfl),qWy] at h
 exact h
theorem idx_q{α:Type}{l:List α}{i:Int}{d:α}(h0:0≤i)(h:l[i.toNat]? =some d):idx l i=some d:=by
 have hlt:i.toNat<l.length:=by
  by_cases hl:i.toNat<l.length
  ·exact hl
  ·rw[List.getElem?_eq_none (by omega)] at h;cases h
 rw[qRs h0 hlt]
 rw[List.getElem?_eq_getElem hlt] at h
 exact h
theorem zGp{N:Nat}{L:List File}{tp:List Int×Int}(hP:qIu N L)(hc:qFv L=0)(hN:1000001<N):
  qBj (qCe N (tp,L) (qMd L)) N (0,0)=some (.inl ((qIc (qEb L)).length:Int)):=by
 have hl:=zBe L
 have hO:=qQd (qFk.1 hc).1
 have h:=zDv (L:=qMd L) (f:=qCe N (tp,L) (qMd L)) (β:=Int⊕Bool) (fun e=>e.2.2.2.2.2) (fun t=> .inl t) (fun e he=>by
   obtain⟨h1,h2,-⟩:=qTz hc he
   have:=List.countP_le_length (p:=fun o=>decide (okey o=keyV e)) (l:=qIc (qEb L))
   omega) (by omega) (Int.le_refl 0) (by decide) (fun t i hi h0 h1=>by
   obtain⟨g1,g2,g3,g4,g5,g6,d,g7,g8,g9⟩:=qTz hc (jX hi)
   have hb:=List.countP_le_length (p:=fun o=>decide (okey o=keyV (qMd L)[i])) (l:=qIc (qEb L))
   simp only[qCe]
   rw[if_pos (by simp only[j9];omega),qDs hi]
   have ew:IntKind.wrap .i64 ((i:Int)+1)=((i+1:Nat):Int):=by rw[wi64 (by omega) (by omega)];omega
   have ew2:IntKind.wrap .i64 (t+(qMd L)[i].2.2.2.2.2)=t+(qMd L)[i].2.2.2.2.2:=by rw[wi64 (by omega) (by omega)]
   have e1:decide ((qMd L)[i].2.2.2.2.2<1)=false:=kJ (by omega)
   simp only[j0]
   rw[show qJl N L (qMd L)[i]=_ from zIl hP hN,g4]
   simp only[j0,e1,g5,idx_q g6 g7,g8,g9,zDy _ _ _ hP hN,g3,fT,bne_self_eq_false,Bool.and_true,gD,jC,jP,ew,ew2]) (fun t=>by
   simp only[qCe]
   rw[if_neg (by simp)]) (M:=N) (by omega)
 rw[h]
 congr 2
 have e:(qMd L).map (fun e=>e.2.2.2.2.2)=(qMd L).map fun e=>((e.2.2.2.2.2.toNat:Nat):Int):=kP fun e he=>by
  have:=(qTz hc he).1
  omega
 rw[e,qUv,zEw hc];omega
theorem zFo{N:Nat}{L:List File}{tp:List Int×Int}{b:Nat}(hP:qIu N L)(hc:qFv L=0)(hb:b≤64)(hN:1000001<N):
  qBj (qCd N (tp,L) (qLw L)) N ((b:Int),0)=some ((b+(L.filter qLf).length:Nat):Int):=by
 have hl:=zEm L
 have h:=zDv (L:=qLw L) (f:=qCd N (tp,L) (qLw L)) (fun p=>((qRa L p).length:Int)) (fun t=>t) (fun p _=>by
   have:=qWo L p
   omega) (by omega) (t0:=(b:Int)) (by omega) (by omega) (fun t i hi h0 h1=>by
   have hf:=qWo L (qLw L)[i]
   simp only[qCd]
   rw[if_pos (by simp only[j9];omega),qDs hi]
   have ew:IntKind.wrap .i64 ((i:Int)+1)=((i+1:Nat):Int):=by rw[wi64 (by omega) (by omega)];omega
   have ew2:IntKind.wrap .i64 (t+((qRa L (qLw L)[i]).length:Int))=t+((qRa L (qLw L)[i]).length:Int):=by rw[wi64 (by omega) (by omega)]
   simp only[j0,zGh hP hN,ew,ew2]) (fun t=>by
   simp only[qCd]
   rw[if_neg (by simp)]) (M:=N) (by omega)
 rw[h,qUv,zBh hc,Int.natCast_add]
def zAk(L:List File)(t:Int×Int)(f:File):Int×Int:=(t.1-((srcP L f.1).1.2.2.length:Int),if qDm f.1=true then t.2-1 else t.2)
theorem qXc(L:List File):∀(K:List File) (t:Int×Int),K.foldl (zAk L) t=(t.1-(((K.map fun f=>(srcP L f.1).1.2.2.length).sum:Nat):Int),t.2-((K.countP fun f=>qDm f.1:Nat):Int))
 |[],t=>by simp
 |f::K,t=>by
  rw[jM,qXc L K,jT,gI,fV]
  unfold zAk
  by_cases h:qDm f.1=true
  ·simp only[if_pos h]
   rw[Prod.mk.injEq]
   exact⟨by omega,by omega⟩
  ·simp only[if_neg h]
   rw[Prod.mk.injEq]
   exact⟨by omega,by omega⟩
theorem qWd(L:List File)(p:ByteArray):(srcP L p).1.2.2.length≤64:=by
 unfold srcP
 split
 ·split
  ·exact qSn
  ·exact kG _
 ·exact kG _
theorem zHq{N:Nat}{L:List File}{tp:List Int×Int}{a b:Nat}(hP:qIu N L)(hl:L.length≤64)(ha:a≤1000000)(hb:b≤1000000)(hN:1000001<N):
  qBj (qBw N (tp,L)) N ((a:Int),(b:Int),0)=some (L.foldl (zAk L) ((a:Int),(b:Int))):=by
 have h:=qOf (L:=L) (fun(t:Int×Int) (i:Nat)=>(t.1,t.2,(i:Int))) (f:=qBw N (tp,L))
  (fun t x=> .inl (zAk L t x)) (fun t=>t) (fun i t=> -100*(i:Int)≤t.1∧t.1≤1000000∧-(i:Int)≤t.2∧t.2≤1000000) (by
   intro t i hi hI
   have hs:=qWd L L[i].1
   simp only[qBw]
   rw[if_pos (by simp only[j9];omega),qDs hi]
   have ew:IntKind.wrap .i64 ((i:Int)+1)=((i+1:Nat):Int):=by rw[wi64 (by omega) (by omega)];omega
   have ew2:IntKind.wrap .i64 (t.1-((srcP L L[i].1).1.2.2.length:Int))=t.1-((srcP L L[i].1).1.2.2.length:Int):=by rw[wi64 (by omega) (by omega)]
   have ew3:IntKind.wrap .i64 (t.2-1)=t.2-1:=by rw[wi64 (by omega) (by omega)]
   simp only[j0,qWz hP hN,qVq (show 100<N by omega),ew,ew2,ew3]
   unfold zAk
   split<;>rfl) (by
   intro t i hi t' hI h
   cases h
   have hs:=qWd L L[i].1
   unfold zAk
   simp only
   split<;>omega) (by
   intro t hI
   simp only[qBw]
   rw[if_neg (by simp)]) (M:=N) (t:=((a:Int),(b:Int))) (by omega) (by simp only;omega)
 have h':qBj (qBw N (tp,L)) N ((a:Int),(b:Int),0)=some (run (fun t x=> .inl (zAk L t x)) (fun t=>t) L ((a:Int),(b:Int))):=h
 rw[h',qOk (zAk L) (fun _ _=>rfl)]
theorem testgatelaw08_PackagesCounts_true(l:List Int)(_gl:l.length*8≤reachBytes∧∀x∈l,(Lit.int .i64 x).wf=true):∃N,qDf N l=some true:=by
 refine⟨4000000,?_⟩
 have key:∀{N:Nat},3000000<N→Ok (qDf N l) fun b=>b=true:=fun {N} hN=>by
  unfold qDf
  refine Ok.bind (zBz (l:=l) (a:=0) (by omega) (by decide) (by decide)) ?_
  rintro _ ⟨a1,A,rfl,u1,u2,u3,u4⟩
  dsimp only
  refine Ok.bind (zMb (K:=4700) (by omega) (by omega) (by omega) u3.e (by decide) (by decide) (by omega)) ?_
  rintro _ ⟨a2,L,rfl,v1,v2,v3,v4⟩
  dsimp only
  have pL:qIu N L:=zBt v3 (by omega)
  have hc:qFv L=0:=qFk.2 (v3.wf (by decide) (by omega))
  have hO:=qQd (qFk.1 hc).1
  have hl:=(qFk.1 hc).1
  have hbl:=zBr L
  have hfl:=gA qLf L
  rw[qTi pL (by omega)]
  simp only[j0]
  rw[zGp pL hc (by omega)]
  simp only[j0]
  rw[qXd pL (by omega),zIj pL (by omega)]
  simp only[j0]
  rw[zFo pL hc hbl (by omega)]
  simp only[j0]
  rw[zHq pL hl (by omega) (by omega) (by omega),qXc]
  have e1:((qIc (qEb L)).length:Int)-(((L.map fun f=>(srcP L f.1).1.2.2.length).sum:Nat):Int)=0:=by
   rw[qWu,show(L.map fun f=>(srcP L f.1).1.2.2.length)=L.map fun f=>if qLf f=true then(qGf f.2).1.2.2.length else 0 from kP fun f hf=>zMi hc hf]
   omega
  have e2:(((qPx L).length+(L.filter qLf).length:Nat):Int)-((L.countP fun f=>qDm f.1:Nat):Int)=0:=by
   have:=qUn L
   rw[show qPx L=qIh L by unfold qPx;rw[if_pos hc]]
   omega
  simp only[j0,e1,e2,fT,jR,zJj hN]
  exact Ok.mk rfl
 obtain⟨b,h1,rfl⟩:=key (show 3000000<4000000 by decide)
 exact h1
end
end Go.Proofs.YtcdpbapbpcpflaaGreatDoor
