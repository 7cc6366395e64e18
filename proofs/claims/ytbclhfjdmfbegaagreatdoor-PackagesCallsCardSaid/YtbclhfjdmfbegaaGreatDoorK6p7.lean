/- No condition but those of each theorem. -/
import Derived.Test.YtbclhfjdmfbegaaGreatDoorProg
import Derived.WalkKit
import Derived.Deep.LoopGhost
import Derived.KernelRfl
import Derived.OrdersHeld
import Derived.OrdersIn
import Derived.LoopNIn
import Derived.Sort.LoopGhostIn
import Derived.Laws.AppendOwn
import Derived.RangeFuncLeaves
import Derived.RangeFuncRecord
import Derived.MapKept
import Derived.Maps.RangeRun
import Derived.ChangeKeysEq
import Derived.HandedShaped
import Derived.ChangeStays
import Derived.ChangeSame
import Derived.OpenShut
import Derived.WideShapes
import Derived.JoinedOf
import Derived.ReadAgain
import Derived.ChangeAt
import Derived.RowKit
import Derived.Lib.Overlaps
import Derived.Shelf.SlSortCmp.NoneTotal
import Derived.Shelf.Sort.Plain
import Derived.Shelf.Slices.In.SortNone
import Derived.WalkSmall
import Derived.Recover
import Derived.Lib.Bytealg
import Derived.Test.YtbclhfjdmfbegaaGreatDoorK5p7
namespace Go.Proofs.YtbclhfjdmfbegaaGreatDoor
section
open Go Go.Dc Go.Proofs
def bE(x y:cP):Bool:=decide (mR x y<0)
theorem NL{x y:cP}:mR x y=0↔qF x=qF y:=by
 unfold mR
 rw[cmpPl_lin.zero]
 unfold qF iR oU
 simp only[Prod.mk.injEq]
 constructor
 .rintro⟨_,b,a,c⟩;exact⟨a,b,c⟩
 rintro⟨a,b,c⟩;exact⟨by rw[a],b,a,c⟩
theorem qEw{x y z:cP}:mR x y<0->mR y z<0->mR x z<0:=cmpPl_lin.trans _ _ _
theorem qNy(x:cP):¬bE x x=true:=by
 unfold bE
 have:mR x x=0:=NL.2 rfl
 simp[this]
theorem YK(x y z:cP)(a:bE x y=true)(b:bE y z=true):bE x z=true:=by
 unfold bE at*
 simp only[j6] at*
 exact qEw a b
theorem YM{x y:cP}(b:bE x y=false)(a:qF x≠qF y):bE y x=true:=by
 unfold bE at*
 simp only[j6,decide_eq_false_iff_not] at*
 have c:mR x y≠0:=fun e=>a (NL.1 e)
 exact(KN y x).2 (by omega)
def OfO(O:List eI)(l:List cP):Prop:=∀x∈l,∃o∈O,x=oL O o
def qS(O:List eI)(out:List cP)(o:eI):List cP:=pN bE (oL O o) out
def sX(O:List eI):List cP:=O.foldl (qS O) []
theorem XG{O:List eI}:∀(J:List eI) (l:List cP),(∀o∈J,o∈O)->OfO O l->l.Pairwise (fun x y=>bE x y=true)->OfO O (J.foldl (qS O) l)/\(J.foldl (qS O) l).Pairwise (fun x y=>bE x y=true)/\(∀z,z∈J.foldl (qS O) l↔z∈l\/∃o∈J,z=oL O o)/\(J.foldl (qS O) l).length<=l.length+J.length
 |[],l,_,b,c=>⟨b,c,(fun z=>by simp),jN _⟩
 |o::J,l,d,b,c=>by
  have f:∀z,z∈qS O l o↔z=oL O o\/z∈l:=fun z=>LD
  have g:OfO O (qS O l o):=fun x a=>by
   rcases(f x).1 a with rfl|a
   .exact⟨o,d o (jK ..),rfl⟩
   exact b x a
  have k:(qS O l o).Pairwise fun x y=>bE x y=true:=OP YK (fun x a r s=>by
   refine YM r fun e=>s ?_
   obtain⟨o',_,rfl⟩:=b x a
   exact XT e) c
  have t:(qS O l o).length<=l.length+1:=CD
  obtain⟨n,p,q,u⟩:=XG J (qS O l o) (fun o' ho'=>d o' (jQ _ ho')) g k
  rw[jM]
  refine⟨n,p,fun z=> ?_,by simp only[jA];omega⟩
  rw[q z,f z]
  constructor
  .rintro((h|h)|⟨o',h,h'⟩)
   .exact .inr ⟨o,jK ..,h⟩
   .exact .inl h
   exact .inr ⟨o',jQ _ h,h'⟩
  rintro(h|⟨o',h,h'⟩)
  .exact .inl (.inr h)
  rcases jI.1 h with rfl|h
  .exact .inl (.inl h')
  exact .inr ⟨o',h,h'⟩
theorem VF(O:List eI):OfO O (sX O)/\(sX O).Pairwise (fun x y=>bE x y=true)/\(∀z,z∈sX O↔∃o∈O,z=oL O o)/\(sX O).length<=O.length:=by
 obtain⟨b,c,d,a⟩:=XG (O:=O) O [] (fun _ h=>h) (fun x e=>by cases e) List.Pairwise.nil
 exact⟨b,c,(fun z=>by rw[show sX O=O.foldl (qS O) [] from rfl,d z];simp),by rw[jB,kT] at a;exact a⟩
theorem qHz{O:List eI}{l:List cP}(g:(l.map qF).Nodup)(f:∀z,z∈l↔∃o∈O,z=oL O o):(l.mergeSort fun x y=> !(Go.Proofs.ltOf mR y x))=sX O:=by
 have a:=List.pairwise_mergeSort (le:=fun x y=> !(Go.Proofs.ltOf mR) y x) (fun x y z a b=>by
  simp only[fR,ltOf,decide_eq_false_iff_not] at*
  intro c
  have s:=cmpEnt_swo.ntrans z y x (by simpa[ltOf] using b) (by simpa[ltOf] using a)
  simp[ltOf] at s;omega) (fun x y=>by
  simp only[fE,fR,ltOf,decide_eq_false_iff_not]
  have:=KN x y;omega) l
 have k:=List.mergeSort_perm l (fun x y=> !(Go.Proofs.ltOf mR y x))
 have b:(l.mergeSort fun x y=> !(Go.Proofs.ltOf mR y x)).Pairwise fun x y=>qF x≠qF y:=List.pairwise_map.1 ((k.map qF).nodup_iff.2 g)
 obtain⟨-,d,e,-⟩:=VF O
 refine PF (lt:=fun x y=>bE x y=true) qNy YK ((a.and b).imp fun {x y} h=> ?_) d fun z=> ?_
 .have c:bE y x=false:=by
   have:=h.1
   simp only[fR,ltOf] at this
   exact this
  exact YM c (Ne.symm h.2)
 rw[List.mem_mergeSort,f z,e z]
theorem qJw{N:Nat}{O:List eI}{l:List cP}(c:(l.map qF).Nodup)(a:∀z,z∈l↔∃o∈O,z=oL O o)(f:l.length<1000000)(b:10<=N):uQ N l=some (sX O):=by
 unfold uQ
 rw[if_pos ⟨b,by omega,fun x d y e h=>by
  obtain⟨o,_,rfl⟩:=(a x).1 d
  obtain⟨o',_,rfl⟩:=(a y).1 e
  exact XT (NL.1 h)⟩,qHz c a]
def sZ(L:List bL):List cP:=if eZ L=0 then sX (iD (dQ L)) else[]
theorem XK:∀(O:List eI) (M:List (K3×cP)),(M.map (·.1)).Nodup->(O.foldl lR M).length<=M.length+O.length
 |[],M,_=>jN _
 |o::O,M,h=>by
  have a:=XK O (lR M o) (BV h _ _)
  have b:(lR M o).length<=M.length+1:=PC h _ _
  simp only[jM,jA];omega
theorem qMn{N:Nat}(k:List (K3×cP))(a:k.length<1000000):iW (vA N) k []=some (k.map (·.2)):=by
 have h:=KR (f:=vA N) (fun s x=>s++[x.2]) (fun s=>s) (fun n s=>s.length+n<1000000) (fun n x s c=>by
  refine⟨?_,by simp only[jF,jA,jB];omega⟩
  simp only[vA]
  rw[iB (by simp only[jA,jB];omega) (by omega)]
  rfl) (fun s=>rfl) k [] (by simpa using a)
 rw[h]
 congr 1
 suffices g:∀(k:List (K3×cP)) (s:List cP),k.foldl (fun s x=>s++[x.2]) s=s++k.map (·.2) from g k []
 intro k
 induction k with
 |nil=>intro s;simp
 |cons x k b=>intro s;rw[jM,b];simp
theorem TI{N:Nat}{L:List bL}(l:oG N L)(h:1000001<N):BF N L=some (sZ L):=by
 simp only[BF,HV l h,j0]
 have key:∀(M:List (K3×cP)) (O:List eI),M.length<1000000->(M.map (·.1)).Nodup->(∀c v,(c,v)∈M↔∃o∈O,c=lT o/\v=oL O o)->
   rV (vA N) M ([]:List cP) (fun a=>(uQ N a).bind fun b=>some b)=some (sX O):=by
  intro M O q n a
  refine NU fun k d=> ?_
  have p:=d.length_eq
  rw[qMn k (by omega)]
  simp only[j0]
  have e:(k.map (·.2)).map qF=k.map (·.1):=by
   rw[List.map_map]
   refine fY fun x g=> ?_
   obtain⟨o,_,b,f⟩:=(a x.1 x.2).1 (d.mem_iff.1 g)
   simp only[Function.comp]
   rw[f,OK,b]
  rw[qJw (O:=O) (by rw[e];exact(d.map _).nodup_iff.2 n) (fun z=>by
   simp only[gY]
   constructor
   .rintro⟨x,g,rfl⟩
    obtain⟨o,b,_,f⟩:=(a x.1 x.2).1 (d.mem_iff.1 g)
    exact⟨o,b,f⟩
   rintro⟨o,b,rfl⟩
   exact⟨(lT o,oL O o),d.mem_iff.2 ((a _ _).2 ⟨o,b,rfl,rfl⟩),rfl⟩) (by rw[kU];omega) (by omega)]
  rfl
 unfold vW sZ
 by_cases hc:eZ L=0
 .have b:=(nI.1 hc).1
  have a:=OT b
  simp only[if_pos hc]
  refine Eq.trans (congrArg (fun z=>Option.bind z _) (show uO (some ((iD (dQ L)).foldl lR []))=some () from rfl)) ?_
  simp only[j0,gW]
  refine key (IF (iD (dQ L))) _ ?_ (qHc a) fun c v=>qGm a
  have:=XK (iD (dQ L)) [] gJ
  unfold IF
  simp only[jB] at this
  omega
 simp only[if_neg hc]
 refine Eq.trans (congrArg (fun z=>Option.bind z _) (show uO (some ([]:List (K3×cP)))=some () from rfl)) ?_
 simp only[j0,gW]
 exact key [] [] (by decide) gJ fun c v=>by simp
theorem YW:∀a b:List UInt8,Op.bytesLess a b=decide (lJ a b<0)
 |[],[]=>rfl
 |[],_::_=>rfl
 |_::_,[]=>rfl
 |x::a,y::b=>by
  rw[show Op.bytesLess (x::a) (y::b)=(decide (x<y)||((x==y)&&Op.bytesLess a b)) from rfl,YW a b]
  by_cases h:x=y
  .subst h
   have c:¬x<x:=by simp only[QN];omega
   have e:lJ (x::a) (x::b)=lJ a b:=by simp[lJ]
   simp[c,e]
  have d:(x==y)=false:=by simpa using h
  by_cases h3:x<y
  .have e:lJ (x::a) (y::b)= -1:=by simp[lJ,h,h3]
   simp[h3,e]
  have e:lJ (x::a) (y::b)=1:=by simp[lJ,h,h3]
  simp[d,h3,e]
theorem qLk(a b:BA):Op.bytesLess a.toList b.toList=decide (pM a b<0):=by
 rw[YW,HJ,ByteArray.toList_eq,ByteArray.toList_eq]
theorem qNt{x y:Int}(h:x≠y):nO x y<0↔x<y:=by
 unfold nO;split<;>(try split)<;>omega
theorem qHu{N:Nat}(x y:cP):FB N x y=some (bE x y):=by
 have a:=cmpS_lin.zero
 have e:pM (⟨#[]⟩:BA) ⟨#[]⟩=0:=(a _ _).2 rfl
 have f:∀z:Int,nO z z=0:=fun z=>(cmpI_lin.zero z z).2 rfl
 simp only[FB,mB,qLk]
 unfold bE mR yQ oU
 by_cases hx:x.2.2.1=3
 .have hx':(x.2.2.1==3)=true:=by simpa using hx
  by_cases hy:y.2.2.1=3
  .have hy':(y.2.2.1==3)=true:=by simpa using hy
   simp only[hx',hy',if_pos hx,if_pos hy,pP,e,f,hx,hy]
   simp[e]
  have hy':(y.2.2.1==3)=false:=by simpa using hy
  simp only[hx',hy',if_pos hx,if_neg hy,pP]
  have:nO 1 0=1:=rfl
  simp[this]
 have hx':(x.2.2.1==3)=false:=by simpa using hx
 by_cases hy:y.2.2.1=3
 .have hy':(y.2.2.1==3)=true:=by simpa using hy
  simp only[hx',hy',if_neg hx,if_pos hy,pP]
  have:nO 0 1= -1:=rfl
  simp[this]
 have hy':(y.2.2.1==3)=false:=by simpa using hy
 simp only[hx',hy',if_neg hx,if_neg hy,pP,f]
 by_cases hp:x.1=y.1
 .have b:pM x.1 y.1=0:=(a _ _).2 hp
  by_cases hk:x.2.2.1=y.2.2.1
  .have c:nO x.2.2.1 y.2.2.1=0:=(cmpI_lin.zero _ _).2 hk
   have d:(x.2.2.1 !=y.2.2.1)=false:=by simp[hk]
   have h:pM y.1 y.1=0:=(a _ _).2 rfl
   simp[hp,c,d,h]
  have c:nO x.2.2.1 y.2.2.1≠0:=fun g=>hk ((cmpI_lin.zero _ _).1 g)
  have d:(x.2.2.1 !=y.2.2.1)=true:=by simp[hk]
  have h:=qNt hk
  simp[b,c,d,jL hp,h]
 have b:pM x.1 y.1≠0:=fun g=>hp ((a _ _).1 g)
 simp[hp,b]
theorem qOk(x y:cP):((x.1.toList==y.1.toList)&&((x.2.1.toList==y.2.1.toList)&&((x.2.2.1==y.2.2.1)&&((x.2.2.2.1.toList==y.2.2.2.1.toList)&&((x.2.2.2.2.1==y.2.2.2.2.1)&&((x.2.2.2.2.2==y.2.2.2.2.2)&&true))))))=decide (x=y):=by
 obtain⟨a,b,c,d,e,f⟩:=x
 obtain⟨a',b',c',d',e',f'⟩:=y
 rw[jY]
 simp only[mB,jR,j6,kE,and_true,Prod.mk.injEq]
theorem qLq{N:Nat}{s2:List cP×Int}{y:cP}(d:s2.1.length<1000000)(c:s2.1.length<N):aK (uV N s2 y) N 0=some ((pQ bE y s2.1:Nat):Int):=by
 have a:=OQ (b:=bE) (e:=y) (L:=s2.1) (f:=uV N s2 y) d (by
  intro i hi
  simp only[uV]
  rw[if_pos (by simp only[j6];omega),dP hi]
  have w:IntKind.wrap .i64 ((i:Int)+1)=((i+1:Nat):Int):=by rw[bS (by omega) (by omega)];omega
  simp only[j0,w,qHu]
  split<;>rfl) (by
  simp only[uV]
  rw[if_neg (by simp)]
  rfl) s2.1.length 0 N (by omega) c
 rw[kA,kT] at a
 exact a
theorem qJj{N:Nat}{out:List cP}{i:Int}{y:cP}(d:out.length<1000000)(l:out.length<N):
  ((aK (uV N (out,i) y) N 0).bind fun o4=>(if(decide (o4<((List.length out):Int)))=true then((bV out o4).bind fun a=>some ((a.1.toList==y.1.toList)&&((a.2.1.toList==y.2.1.toList)&&((a.2.2.1==y.2.2.1)&&((a.2.2.2.1.toList==y.2.2.2.1.toList)&&((a.2.2.2.2.1==y.2.2.2.2.1)&&((a.2.2.2.2.2==y.2.2.2.2.2)&&true))))))) else(some false):Option (Bool)).bind fun n=>if n=true then(some out) else((dY 72 out ([y])).bind fun c=>(oX c (IntKind.wrap .i64 (o4+1)) (List.length c:Int)).bind fun _=>(oX c o4 (List.length c:Int)).bind fun _=>(sY c (IntKind.wrap .i64 (o4+1)) o4).bind fun h=>(bV h o4).bind fun _=>some (List.set h (Int.toNat o4) y)):Option (List cP))=some (pN bE y out):=by
 rw[qLq (s2:=(out,i)) d l,PL]
 have f:=PT (b:=bE) (e:=y) out
 show((some ((pQ bE y out:Nat):Int)).bind _)=_
 generalize pQ bE y out=k at f
 simp only[j0,qOk]
 by_cases hc:(k:Int)<(out.length:Int)
 .have hi:k<out.length:=by omega
  rw[if_pos (by simpa using hi),dP hi]
  simp only[j0,List.getElem?_eq_getElem hi,jG,j6]
  by_cases he:out[k]=y
  .rw[if_pos he,if_pos he]
  rw[if_neg he,if_neg he]
  exact LQ f (by decide) (by decide) d
 rw[if_neg (by simpa using hc)]
 simp only[j0,j9,jC]
 rw[if_neg (by rw[List.getElem?_eq_none (by omega)];intro g;cases g)]
 exact LQ f (by decide) (by decide) d
def rJ(O:List eI)(pkg:BA)(out:List cP)(d:Dl):List cP:=pN bE (iK O d.1 pkg d.2.1) out
theorem VY(O:List eI)(path pkg:BA):∀(l:List Dl) (i:Nat) (out:List cP),(mJ path pkg i l).foldl (qS O) out=l.foldl (rJ O pkg) out
 |[],_,_=>rfl
 |d::l,i,out=>by
  simp only[mJ,jM]
  rw[VY O path pkg l (i+1)]
  rfl
theorem ZN{N:Nat}{l:List (BA×Sr)}{x:Sr}{acc:List cP}(n:l.length<=64)(k:∀x∈l,x.2.2.2.length<=64)(p:x.2.2.length<=64)(o:1000000<N)(g:acc.length<=100000):
  aK (wQ N (l.map (·.1),l.map (·.2)) x) N (acc,0)=some (x.2.2.foldl (rJ (iD l) x.1) acc)/\(x.2.2.foldl (rJ (iD l) x.1) acc).length<=acc.length+64:=by
 have a:∀(ds:List Dl) (t:List cP),(ds.foldl (rJ (iD l) x.1) t).length<=t.length+ds.length:=by
  intro ds
  induction ds with
  |nil=>intro t;exact jN _
  |cons d ds b=>
   intro t
   have e:=b (rJ (iD l) x.1 t d)
   have c:(rJ (iD l) x.1 t d).length<=t.length+1:=CD
   simp only[jM,jA];omega
 refine⟨?_,by have:=a x.2.2 acc;omega⟩
 have h:=sO (L:=x.2.2) (fun(t:List cP) (i:Nat)=>(t,(i:Int))) (f:=wQ N (l.map (·.1),l.map (·.2)) x)
  (fun t d=> .inl (rJ (iD l) x.1 t d)) (fun t=>t) (fun i t=>t.length<=acc.length+i) (by
   intro t i hi b
   simp only[wQ]
   rw[if_pos (by simp only[j6];omega),dP hi]
   have ew:IntKind.wrap .i64 ((i:Int)+1)=((i+1:Nat):Int):=by rw[bS (by omega) (by omega)];omega
   have e:=WP (N:=N) (l:=l) (x.2.2[i]).1 x.1 (x.2.2[i]).2.1 n k (by omega)
   simp only[j0,ew]
   refine Eq.trans (congrArg (fun z=>Option.bind (Option.bind z _) _) e) ?_
   simp only[j0]
   refine Eq.trans (congrArg (fun z=>Option.bind z _) (qJj (i:=(i:Int)) (y:=iK (iD l) (x.2.2[i]).1 x.1 (x.2.2[i]).2.1) (show t.length<1000000 by omega) (show t.length<N by omega))) ?_
   rfl) (by
   intro t i hi t' b h
   cases h
   have c:(rJ (iD l) x.1 t x.2.2[i]).length<=t.length+1:=CD
   omega) (by
   intro t b
   simp only[wQ]
   rw[if_neg (by simp)]) (M:=N) (t:=acc) (by omega) (jN _)
 rw[show((0:Nat):Int)=0 from rfl] at h
 rw[h,rU (rJ (iD l) x.1) (fun _ _=>rfl)]
theorem SS{N:Nat}{L:List bL}(e:1000005<N):AA N L=some (sZ L):=by
 simp only[AA,xU (show 100<N by omega),j0]
 unfold sZ
 by_cases hc:eZ L=0
 .rw[if_neg (by simp[hc]),if_pos hc,VO e]
  obtain⟨b,a⟩:=OY L
  rw[show sW L=dQ L by unfold sW;rw[if_pos hc]] at b a ⊢
  generalize dQ L=l at b a
  simp only[j0]
  have h:=sO (L:=l) (fun(t:List cP) (i:Nat)=>(t,(i:Int))) (f:=zQ N (l.map (·.1),l.map (·.2)))
   (fun t x=> .inl (x.2.2.2.foldl (rJ (iD l) x.2.1) t)) (fun t=>t) (fun i t=>t.length<=64*i) (by
    intro t i hi c
    simp only[zQ]
    have d:i<(l.map (·.2)).length:=by simpa using hi
    rw[if_pos (by simp only[j6];omega),dP d]
    have ew:IntKind.wrap .i64 ((i:Int)+1)=((i+1:Nat):Int):=by rw[bS (by omega) (by omega)];omega
    simp only[j0,ew,dC]
    rw[(ZN (x:=(l[i]).2) (acc:=t) b a (a _ (jW hi)) (by omega) (by omega)).1]
    rfl) (by
    intro t i hi t' c h
    cases h
    have:=(ZN (N:=N) (x:=(l[i]).2) (acc:=t) b a (a _ (jW hi)) (by omega) (by omega)).2
    omega) (by
    intro t c
    simp only[zQ]
    rw[if_neg (by simp)]) (M:=N) (t:=[]) (by omega) (jZ _)
  rw[show((0:Nat):Int)=0 from rfl] at h
  refine Eq.trans (congrArg (fun z=>Option.bind z _) h) ?_
  rw[rU (fun t (x:BA×Sr)=>x.2.2.2.foldl (rJ (iD l) x.2.1) t) (fun _ _=>rfl)]
  simp only[j0]
  congr 1
  unfold sX
  suffices g:∀(O:List eI) (l:List (BA×Sr)) (t:List cP),l.foldl (fun t x=>x.2.2.2.foldl (rJ O x.2.1) t) t=(iD l).foldl (qS O) t from g _ l []
  intro O l
  induction l with
  |nil=>intro t;rfl
  |cons x l c=>
   intro t
   rw[jM,c]
   unfold iD
   rw[kM,fQ,VY]
 rw[if_pos (by simpa using hc),if_neg hc]
section
variable {ts:List bZ} {params:List BA} {E S:Ps->PM Nat} {B:Nat}
def BE(B:Nat)(l:List Ex):Prop:=∀x∈l,x.2.2.2.2.length<=B
def uJ(B:Nat)(E:Ps->PM Nat):Prop:=∀(p q:Ps) (x:Nat),BE B p.2->E p= .inr (q,x)->BE B q.2
theorem yK{t:bZ}{x:Ex}{p q:Ps}{i:Nat}(b:BE B p.2)(c:x.2.2.2.2.length<=B)(h:iN t x p= .inr (q,i)):BE B q.2:=by
 obtain⟨rfl,-,-⟩:=XS h
 intro y a
 rcases gS.1 a with a|a
 .exact b y a
 rw[hJ.1 a];exact c
theorem qAe(e:uJ B E):∀(n:Nat) (l:List Int) (p q:Ps) (x:List Int),BE B p.2->sV ts E n l p= .inr (q,x)->BE B q.2/\x.length<=l.length+n
 |0,_,_,_,_,_,c=>by cases c
 |n+1,l,p,q,x,h,c=>by
  obtain⟨a,g,d⟩:=cT (show bF (E p) _=_ from c)
  have b:=e p a.1 a.2 h g
  split at d
  .obtain⟨k,o⟩:=qAe e n _ (a.1.1+1,a.1.2) q x b d
   exact⟨k,by simp only[jF,jA,jB] at o;omega⟩
  obtain⟨j,r,f⟩:=cT d
  obtain⟨rfl,rfl⟩:=Prod.mk.inj (Sum.inr.inj f)
  exact⟨b,by simp only[jF,jA,jB];omega⟩
theorem qFv(d:uJ B E){p q:Ps}{x:List Int}(b:BE B p.2)(c:tT ts E p= .inr (q,x)):BE B q.2/\x.length<=ts.length+1:=by
 obtain⟨i,hi,a⟩:=cT c
 split at a
 .obtain⟨rfl,rfl⟩:=Prod.mk.inj (Sum.inr.inj a)
  exact⟨b,jZ _⟩
 obtain⟨e,f⟩:=qAe d _ _ (i,p.2) q x b a
 exact⟨e,by simpa using f⟩
theorem qIm(z:3<=B)(v:uJ B E){t:bZ}{p q:Ps}{x:Nat}(h:BE B p.2)(o:qL ts E t p= .inr (q,x)):BE B q.2:=by
 obtain⟨i,hi,r⟩:=cT o
 obtain⟨a,f,s⟩:=cT r
 obtain⟨j,A,u⟩:=cT s
 have key:BE B a.1.2/\a.2.2.2.2.2.length<=B:=by
  split at f
  .obtain⟨b,g,e⟩:=cT f
   obtain⟨c,y,k⟩:=cT e
   obtain⟨d,l,n⟩:=cT k
   have:=v (c,p.2) d.1 d.2 h l
   obtain rfl:=Sum.inr.inj n
   exact⟨this,by show 1<=B;omega⟩
  split at f
  .obtain⟨b,g,e⟩:=cT f
   obtain rfl:=Sum.inr.inj e
   exact⟨h,jZ _⟩
  split at f
  .obtain⟨b,g,e⟩:=cT f
   obtain rfl:=Sum.inr.inj e
   exact⟨h,jZ _⟩
  split at f
  .obtain⟨b,g,e⟩:=cT f
   obtain rfl:=Sum.inr.inj e
   exact⟨h,jZ _⟩
  obtain⟨b,g,e⟩:=cT f
  split at e
  .cases e
  obtain rfl:=Sum.inr.inj e
  exact⟨h,jZ _⟩
 exact yK (p:=(j,a.1.2)) key.1 key.2 u
theorem qKs(h:ts.length+3<=B)(f:uJ B E):uJ B (rD ts params E):=by
 intro p q x c b
 unfold rD at b
 dsimp only at b
 split at b
 .exact yK (p:=(p.1+1,p.2)) c (jZ _) b
 split at b
 .obtain⟨a,e,d⟩:=cT b
  exact yK (p:=(a.1,p.2)) c (jZ _) d
 split at b
 .obtain⟨a,e,d⟩:=cT b
  have:=f (p.1+1,p.2) a.1 a.2 c e
  obtain⟨j,k,g⟩:=cT d
  obtain⟨rfl,rfl⟩:=Prod.mk.inj (Sum.inr.inj g)
  exact this
 split at b
 .cases b
 split at b
 .exact qIm (by omega) f (p:=(p.1+1,p.2)) c b
 split at b
 .cases b
 split at b
 .obtain⟨a,e,d⟩:=cT b
  obtain⟨g,k⟩:=qFv f (p:=(p.1+1,p.2)) c e
  exact yK (p:=a.1) g (by show a.2.length<=B;omega) d
 split at b
 .exact yK (p:=(p.1+1,p.2)) c (jZ _) b
 cases b
theorem ZX(h:3<=B){level:Nat}(d:uJ B S):∀(n x:Nat) (p q:Ps) (y:Nat),BE B p.2->nW ts level S n x p= .inr (q,y)->BE B q.2
 |0,_,_,_,_,_,b=>by cases b
 |n+1,x,p,q,y,e,b=>by
  unfold nW at b
  split at b
  .obtain⟨rfl,rfl⟩:=Prod.mk.inj (Sum.inr.inj b)
   exact e
  obtain⟨a,l,g⟩:=cT b
  have f:=d (p.1+1,p.2) a.1 a.2 e l
  obtain⟨r,o,c⟩:=cT g
  have k:BE B r.1.2:=by
   refine yK (p:=a.1) f ?_ o
   show 2<=B
   omega
  split at c
  .obtain⟨rfl,rfl⟩:=Prod.mk.inj (Sum.inr.inj c)
   exact k
  exact ZX h d n _ _ q y k c
theorem PS(e:3<=B){level:Nat}(b:uJ B S):uJ B (rE ts level S):=by
 intro p q x g c
 obtain⟨a,f,d⟩:=cT c
 exact ZX e b _ _ _ q x (b p a.1 a.2 g f) d
theorem HS(e:ts.length+3<=B):∀k,uJ B (dR ts params k)
 |0=>fun _ _ _ _ d=>by cases d
 |k+1=>by
  intro p q x f d
  unfold dR at d
  split at d
  .obtain⟨a,y,r⟩:=cT d
   have l:=HS e k (p.1+1,p.2) a.1 a.2 f y
   obtain⟨i,hi,s⟩:=cT r
   obtain⟨b,g,t⟩:=cT s
   have n:=HS e k (i,a.1.2) b.1 b.2 l g
   obtain⟨j,z,u⟩:=cT t
   obtain⟨c,h,v⟩:=cT u
   have o:=HS e k (j,b.1.2) c.1 c.2 n h
   refine yK (p:=c.1) o ?_ v
   show 3<=B
   omega
  exact PS (by omega) (PS (by omega) (PS (by omega) (qKs e (HS e k)))) p q x f d
def ID(d:Dl):Prop:=d.2.2.1.length<=8/\d.2.2.2.length<=256/\BE 20000 d.2.2.2
theorem qNk(b:OkT ts)(A:ts.length<=16385){before:List Dl}{i:Nat}{a:Nat×Dl}(hi:i<ts.length)(d:mZ ts before i= .inr a):ID a.2:=by
 unfold mZ at d
 dsimp only at d
 split at d
 .cases d
 rename_i k1
 split at d
 .cases d
 have g:=b.next hi (show(aN ts i).1≠5 by intro e;apply k1;left;rw[e];decide)
 obtain⟨x,k,h⟩:=cT d
 have gx:x.1<ts.length:=by
  split at k
  .obtain⟨rfl,f,-⟩:=qZ b g k;exact f
  obtain⟨rfl,f,-⟩:=pV b g k;exact f
 split at h
 .cases h
 obtain⟨y,l,q⟩:=cT h
 have gy:y.1<ts.length/\y.2.length<=8:=by
  split at l
  .obtain⟨-,n,f⟩:=MT b gx l;exact⟨n,f⟩
  obtain rfl:=Sum.inr.inj l;exact⟨gx,jZ _⟩
 obtain⟨j,u,r⟩:=cT q
 obtain⟨rfl,f,-⟩:=iT b gy.1 u
 obtain⟨c,n,s⟩:=cT r
 obtain⟨⟨-,-,-,o⟩,-⟩:=sQ b 32 (y.1+1,[]) c.1 c.2 f (by simp) n
 have p:=HS (B:=20000) (by omega) 32 (y.1+1,[]) c.1 c.2 (fun z v=>by cases v) n
 obtain⟨m,D,t⟩:=cT s
 obtain rfl:=Sum.inr.inj t
 exact⟨gy.2,o,p⟩
theorem YV(c:OkT ts)(e:ts.length<=16385):∀(n:Nat) (l:List Dl) (i:Nat) {r:List Dl},(∀d∈l,ID d)->i<ts.length->pZ ts n l i= .inr r->∀d∈r,ID d
 |0,_,_,_,_,_,a=>by cases a
 |n+1,l,i,r,f,hi,a=>by
  unfold pZ at a
  split at a
  .cases a;exact f
  obtain⟨x,g,k⟩:=cT a
  obtain⟨-,h,-⟩:=CB c hi g
  refine YV c e n _ _ (fun d b=> ?_) h k
  rcases gS.1 b with b|b
  .exact f d b
  rw[hJ.1 b];exact qNk c e hi g
end
def IE(f:Sr):Prop:=f.2.1.length<=8/\f.2.2.length<=64/\∀d∈f.2.2,ID d
theorem YT{ts:List bZ}(h:OkT ts):∀(n:Nat) (l:List Dl) (i:Nat) {r:List Dl},l.length<=64->i<ts.length->pZ ts n l i= .inr r->r.length<=64
 |0,_,_,_,_,_,a=>by cases a
 |n+1,l,i,r,d,hi,a=>by
  unfold pZ at a
  split at a
  .cases a;exact d
  obtain⟨x,e,c⟩:=cT a
  obtain⟨-,b,f⟩:=CB h hi e
  exact YT h n _ _ (by simp only[jF,jA,jB];omega) b c
theorem HE:IE qD:=⟨jZ _,jZ _,fun d a=>by cases a⟩
theorem qHs(s:BA):IE (eY s).1:=by
 unfold eY
 by_cases h0:(iQ s).2.2=0
 .rw[if_neg (not_not_intro h0)]
  obtain⟨e,g,E⟩:=KQ h0
  have k:0<(iQ s).1.length:=by
   cases h:(iQ s).1 with
   |nil=>exact absurd h e.1
   |cons a l=>exact Nat.succ_pos _
  cases c:rX (iQ s).1 with
  |inl z=>exact HE
  |inr f=>
   simp only
   unfold rX at c
   obtain⟨i,v,c⟩:=cT c
   obtain⟨rfl,r,-⟩:=yE e k v
   obtain⟨a,x,c⟩:=cT c
   obtain⟨rfl,t,-⟩:=pV e r x
   obtain⟨j,y,c⟩:=cT c
   obtain⟨rfl,u,-⟩:=iT e t y
   obtain⟨b,A,c⟩:=cT c
   obtain⟨-,o,D⟩:=GI e _ _ _ b u (by simp) A
   obtain⟨l,n,c⟩:=cT c
   have p:=YT e _ _ _ (by simp) o n
   have q:=YV e g _ _ _ (fun d B=>by cases B) o n
   cases c
   exact⟨D,p,q⟩
 rw[if_pos h0];exact HE
theorem VT{β:Type}{b:β}{n:Nat}{f:Int->Option (Int⊕β)}(c:∀i,i<n->f (i:Int)=some (.inl ((i+1:Nat):Int)))(a:f (n:Int)=some (.inr b)):∀(d i M:Nat),i+d=n->d<M->aK f M (i:Int)=some b
 |_,_,0,_,h=>absurd h (kY _)
 |0,i,M+1,e,_=>by
  have:i=n:=by omega
  subst this
  simp only[aK,a,j0]
 |d+1,i,M+1,e,g=>by
  simp only[aK,c i (by omega),j0]
  exact VT c a d (i+1) M (by omega) (by omega)
theorem wD{β:Type}{b:β}{n M:Nat}{f:Int->Option (Int⊕β)}(d:∀i,i<n->f (i:Int)=some (.inl ((i+1:Nat):Int)))(c:f (n:Int)=some (.inr b))(a:n<M):aK f M 0=some b:=
 VT d c n 0 M (by omega) a
theorem ST{N:Nat}{l:List BA}(h:l.length<1000000)(a:l.length<N):zV N l l=some true:=by
 unfold zV
 rw[if_neg (by simp),wD (n:=l.length) (b:=(.inl ():Unit⊕Bool)) (fun i hi=>by
  simp only[DX]
  rw[if_pos (by simp only[j6];omega),dP hi]
  have ew:IntKind.wrap .i64 ((i:Int)+1)=((i+1:Nat):Int):=by rw[bS (by omega) (by omega)];omega
  simp only[j0,kN,jP,j9,jC,ew]) (by
  simp only[DX]
  rw[if_neg (by simp)]) a]
 rfl
theorem qEm{N:Nat}{x:Ex}(h:x.2.2.2.2.length<1000000)(a:x.2.2.2.2.length<N):EL N x x=some true:=by
 unfold EL
 have c:=wD (n:=x.2.2.2.2.length) (M:=N) (b:=(.inl ():Unit⊕Bool)) (f:=zO N x x) (fun i hi=>by
  simp only[zO]
  rw[if_pos (by simp only[j6];omega),dP hi]
  have ew:IntKind.wrap .i64 ((i:Int)+1)=((i+1:Nat):Int):=by rw[bS (by omega) (by omega)];omega
  simp only[j0,gH,j9,jC,ew]) (by
  simp only[zO]
  rw[if_neg (by simp)]) a
 simp only[gH,j9,jC,kN,jP,j0,c]
theorem qEv{N:Nat}{d:Dl}(h:ID d)(k:100000<N):ER N d d=some true:=by
 obtain⟨e,g,a⟩:=h
 unfold ER
 have c:=wD (n:=d.2.2.2.length) (M:=N) (b:=(.inl ():Unit⊕Bool)) (f:=zP N d d) (fun i hi=>by
  simp only[zP]
  rw[if_pos (by simp only[j6];omega),dP hi]
  have ew:IntKind.wrap .i64 ((i:Int)+1)=((i+1:Nat):Int):=by rw[bS (by omega) (by omega)];omega
  have o:=a _ (jW hi)
  simp only[j0]
  rw[qEm (by omega) (by omega)]
  simp only[j0,jP,j9,jC,ew]) (by
  simp only[zP]
  rw[if_neg (by simp)]) (by omega)
 rw[ST (l:=d.2.2.1) (by omega) (by omega)]
 simp only[gH,j9,jC,kN,jP,j0,c]
theorem SX{N:Nat}{f:Sr}(h:IE f)(c:100000<N):AZ N f f=some true:=by
 obtain⟨e,g,a⟩:=h
 unfold AZ
 have d:=wD (n:=f.2.2.length) (M:=N) (b:=(.inl ():Unit⊕Bool)) (f:=AJ N f f) (fun i hi=>by
  simp only[AJ]
  rw[if_pos (by simp only[j6];omega),dP hi]
  have ew:IntKind.wrap .i64 ((i:Int)+1)=((i+1:Nat):Int):=by rw[bS (by omega) (by omega)];omega
  simp only[j0]
  rw[qEv (a _ (jW hi)) c]
  simp only[j0,jP,j9,jC,ew]) (by
  simp only[AJ]
  rw[if_neg (by simp)]) (by omega)
 rw[ST (l:=f.2.1) (by omega) (by omega)]
 simp only[gH,j9,jC,kN,jP,j0,d]
theorem qFr(L:List bL):(yF L).length<=64:=by
 unfold yF
 by_cases hc:eZ L=0
 .rw[if_pos hc]
  unfold oR
  rw[kU]
  exact fH (gL _ _) (nI.1 hc).1
 rw[if_neg hc];exact jZ _
theorem qGk(L:List bL)(pkg:BA):(CN L pkg).length<=64:=by
 unfold CN
 by_cases hc:eZ L=0
 .rw[if_pos hc]
  exact fH (gL _ _) (nI.1 hc).1
 rw[if_neg hc];exact jZ _
theorem YJ:∀(K l:List BA),(K.foldl oB l).length<=l.length+K.length
 |[],l=>jN _
 |x::K,l=>by
  have a:=YJ K (oB l x)
  have b:(oB l x).length<=l.length+1:=CD
  simp only[jM,jA];omega
theorem qHf(L:List bL):(CR L).length<=64:=by
 unfold CR
 by_cases hc:eZ L=0
 .rw[if_pos hc]
  have a:=YJ (yS L) []
  have b:=KU L
  have c:=(nI.1 hc).1
  unfold yS at*
  rw[kU,jB] at a
  omega
 rw[if_neg hc];exact jZ _
theorem KT(L:List bL):(sZ L).length<1000000:=by
 unfold sZ
 by_cases hc:eZ L=0
 .rw[if_pos hc]
  have a:=(VF (iD (dQ L))).2.2.2
  have b:=OT (nI.1 hc).1
  omega
 rw[if_neg hc];exact(by decide)
theorem UY{N:Nat}{l:List BA}(h:l.length<1000000)(a:l.length<N):AC N l l=some true:=by
 unfold AC
 rw[if_neg (by simp),wD (n:=l.length) (b:=(.inl ():Unit⊕Bool)) (fun i hi=>by
  simp only[DZ]
  rw[if_pos (by simp only[j6];omega),dP hi]
  have ew:IntKind.wrap .i64 ((i:Int)+1)=((i+1:Nat):Int):=by rw[bS (by omega) (by omega)];omega
  simp only[j0,kN,jP,j9,jC,ew]) (by
  simp only[DZ]
  rw[if_neg (by simp)]) a]
 rfl
theorem qIy{N:Nat}{l:List cP}(h:l.length<1000000)(a:l.length<N):DW N l l=some true:=by
 unfold DW
 rw[if_neg (by simp),wD (n:=l.length) (b:=(.inl ():Unit⊕Bool)) (fun i hi=>by
  simp only[DQ]
  rw[if_pos (by simp only[j6];omega),dP hi]
  have ew:IntKind.wrap .i64 ((i:Int)+1)=((i+1:Nat):Int):=by rw[bS (by omega) (by omega)];omega
  simp only[j0,kN,dF,jP,j9,jC,ew]) (by
  simp only[DQ]
  rw[if_neg (by simp)]) a]
 rfl
theorem qGo{N:Nat}{l:List bL}(h:l.length<1000000)(a:l.length<N):EE N l l=some true:=by
 unfold EE KB
 rw[if_neg (by simp),wD (n:=l.length) (b:=(.inl ():Unit⊕Bool)) (fun i hi=>by
  simp only[EY]
  rw[if_pos (by simp only[j6];omega),dP hi]
  have ew:IntKind.wrap .i64 ((i:Int)+1)=((i+1:Nat):Int):=by rw[bS (by omega) (by omega)];omega
  simp only[j0,kN,dF,jP,j9,jC,ew]) (by
  simp only[EY]
  rw[if_neg (by simp)]) a]
 rfl
def yL(x:cP):Bool:=x.2.2.1==2&&x.2.2.2.2.2==1
abbrev Nm:=BA×BA
def CP(L:List bL):List Nm:=((sZ L).filter yL).map fun x=>(x.1,x.2.1)
theorem US{N:Nat}{E:List cP}{f:List Nm×Int->Option ((List Nm×Int)⊕List Nm)}(g:E.length<1000000)(k:1000000<N)
  (c:∀s1:List Nm×Int,f s1=if(decide (s1.2<(List.length E:Int)))=true then(((bV E s1.2).bind fun a=>(if(a.2.2.1==2)=true then(some (a.2.2.2.2.2==1)) else(some false):Option (Bool)).bind fun e=>if e=true then((dY 32 s1.1 ([(a.1,a.2.1)])).bind fun d=>some d) else(some s1.1):Option ((List (BA×BA)))).bind fun o2=>some (.inl (o2,IntKind.wrap .i64 (s1.2+1)))) else(some (.inr s1.1))):
  aK f N ([],0)=some ((E.filter yL).map fun x=>(x.1,x.2.1)):=by
 have h:=sO (L:=E) (fun(t:List Nm) (i:Nat)=>(t,(i:Int))) (f:=f)
  (fun t x=> .inl (if yL x=true then t++[(x.1,x.2.1)] else t)) (fun t=>t) (fun i t=>t.length<=i) (by
   intro t i hi b
   rw[c]
   simp only
   rw[if_pos (by simp only[j6];omega),dP hi]
   have ew:IntKind.wrap .i64 ((i:Int)+1)=((i+1:Nat):Int):=by rw[bS (by omega) (by omega)];omega
   simp only[j0,ew]
   unfold yL
   by_cases h1:((E[i]).2.2.1==2)=true
   .rw[if_pos h1,h1]
    simp only[j0,gN]
    by_cases h2:((E[i]).2.2.2.2.2==1)=true
    .rw[if_pos h2,if_pos h2,iB (by simp only[jA,jB];omega) (by omega)]
     rfl
    rw[if_neg h2,if_neg h2];rfl
   .have h1':((E[i]).2.2.1==2)=false:=by simpa using h1
    rw[if_neg h1,h1']
    simp only[j0,dB,j9,jC]) (by
   intro t i hi t' b h
   cases h
   split
   .simp only[jF,jA,jB];omega
   .omega) (by
   intro t b
   rw[c]
   simp only
   rw[if_neg (by simp)]) (M:=N) (t:=[]) (by omega) (jZ _)
 rw[show((0:Nat):Int)=0 from rfl] at h
 rw[h,rU (fun t (x:cP)=>if yL x=true then t++[(x.1,x.2.1)] else t) (fun _ _=>rfl),GL yL (fun x=>(x.1,x.2.1))]
 simp
theorem WQ{N:Nat}{L:List bL}(b:oG N L)(a:1000001<N):xO N L=some (CP L):=by
 unfold xO
 rw[TI b a]
 simp only[j0]
 rw[US (f:=KG N (sZ L)) (KT L) (by omega) (fun _=>rfl)]
 rfl
theorem qGb{N:Nat}{L:List bL}(a:1000005<N):FI N L=some (CP L):=by
 unfold FI
 rw[SS a]
 simp only[j0]
 rw[US (f:=JS N (sZ L)) (KT L) (by omega) (fun _=>rfl)]
 rfl
theorem qGl(L:List bL):(CP L).length<1000000:=by
 unfold CP
 rw[kU]
 have:=gL yL (sZ L)
 have:=KT L
 omega
def HQ(y:Sr×Bool)(e:cP):Bool:=y.2&&(decide (0<=e.2.2.2.2.1)&&(match y.1.2.2[e.2.2.2.2.1.toNat]? with|some d=>decide (d.1=e.2.2.1)&&decide (d.2.1=e.2.1)|none=>false))
def CY(L:List bL)(e:cP):Sr×Int×Bool:=if HQ (pO L e.2.2.2.1) e=true then((pO L e.2.2.2.1).1,e.2.2.2.2.1,true) else(qD,0,false)
theorem YE(y1:Sr×Bool)(p1:cP):(if(!y1.2)=true then(some true) else(if(decide (p1.2.2.2.2.1<0))=true then(some true) else(if(decide (p1.2.2.2.2.1>=(List.length y1.1.2.2:Int)))=true then(some true) else((bV y1.1.2.2 p1.2.2.2.2.1).bind fun b=>if(b.1 !=p1.2.2.1)=true then(some true) else((bV y1.1.2.2 p1.2.2.2.2.1).bind fun c=>some (!(c.2.1.toList==p1.2.1.toList)))))):Option (Bool))=some (!HQ y1 p1):=by
 unfold HQ
 cases hy:y1.2 with
 |false=>rfl
 |true=>
  rw[if_neg (by simp)]
  by_cases h0:p1.2.2.2.2.1<0
  .rw[if_pos (by simpa using h0),jS (by omega)];rfl
  rw[if_neg (by simpa using h0),jL (show 0<=p1.2.2.2.2.1 by omega)]
  by_cases h1:p1.2.2.2.2.1>=(List.length y1.1.2.2:Int)
  .rw[if_pos (by simpa using h1),List.getElem?_eq_none (by omega)];rfl
  have a:p1.2.2.2.2.1.toNat<y1.1.2.2.length:=by omega
  rw[if_neg (by simpa using h1),LG (by omega) a,List.getElem?_eq_getElem a]
  simp only[j0,gN,mB]
  by_cases h2:(y1.1.2.2[p1.2.2.2.2.1.toNat]).1=p1.2.2.1
  .rw[if_neg (by simpa using h2),jL h2,gN]
  rw[if_pos (by simpa using h2),jS h2];rfl
theorem qKa{N:Nat}{L:List bL}{e:cP}(b:oG N L)(a:1000001<N):GB N L e=some (CY L e):=by
 unfold GB
 rw[UI b a]
 simp only[j0]
 refine Eq.trans (congrArg (fun z=>Option.bind z _) (YE (pO L e.2.2.2.1) e)) ?_
 simp only[j0]
 unfold CY
 cases HQ (pO L e.2.2.2.1) e<;>rfl
theorem qHa{N:Nat}{L:List bL}{e:cP}(a:1000005<N):FL N L e=some (CY L e):=by
 unfold FL
 rw[BS a]
 simp only[j0]
 refine Eq.trans (congrArg (fun z=>Option.bind z _) (YE (pO L e.2.2.2.1) e)) ?_
 simp only[j0]
 unfold CY
 cases HQ (pO L e.2.2.2.1) e<;>rfl
theorem ZL(L:List bL)(p:BA):IE (pO L p).1:=by
 unfold pO
 split
 .split
  .exact qHs _
  exact HE
 exact HE
theorem qLc(L:List bL)(e:cP):IE (CY L e).1:=by
 unfold CY
 split
 .exact ZL _ _
 exact HE
theorem YA{N:Nat}{L:List bL}(kind:Int)(pkg name:BA)(b:oG N L)(a:1000001<N):xP N L kind pkg name=some (CT L kind pkg name):=by
 unfold xP
 rw[HV b a]
 simp only[j0]
 rw[qJv]
 rfl
theorem qIu{N:Nat}{L:List bL}{l:List Int}{a:Int}(d:oG N L)(x:3000000<N)(u:0<=a)(v:a<100000000000000000):
  Ok (aK (wS N L) N (0,l,a)) fun o=>∃z,o= .inl z:=by
 have key:=LI (f:=wS N L) (fun s=>∃(j:Nat) (a':Int),s=((j:Int),l,a')/\j<=8/\a<=a'/\a'<=a+100*j) (fun s=>8-s.1.toNat) (fun o=>∃z,o= .inl z) (fun s g=>by
  obtain⟨j,a',rfl,y,h,t⟩:=g
  have main:Ok (wS N L ((j:Int),l,a')) fun r=>(match r with
    | .inl s'=>(∃(j:Nat) (a':Int),s'=((j:Int),l,a')/\j<=8/\a<=a'/\a'<=a+100*j)/\8-s'.1.toNat<8-j
    | .inr b=>∃z,b= .inl z):=by
   unfold wS
   dsimp only
   by_cases hlt:j<8
   .rw[if_pos (by simp only[j6];omega)]
    refine Ok.one (by omega) (by omega) (by decide) (by decide) fun p _=> ?_
    dsimp only
    rw[UI d (by omega),BS (by omega)]
    simp only[j0]
    rw[if_neg (by simp),SX (ZL L p) (by omega)]
    simp only[j0,jP,j9,jC]
    refine Ok.one (by omega) (by omega) (by decide) (by decide) fun pkg _=> ?_
    dsimp only
    rw[qHt d (by omega),qFd (by omega)]
    simp only[j0]
    have e:=qGk L pkg
    rw[qGo (by omega) (by omega)]
    simp only[j0,jP,j9,jC]
    refine Ok.pick (by omega) (by omega) (by decide) (by decide) fun kind _=> ?_
    dsimp only
    refine Ok.one (by omega) (by omega) (by decide) (by decide) fun name _=> ?_
    dsimp only
    rw[YA _ _ _ d (by omega),qFw _ _ _ (by omega)]
    simp only[j0]
    rw[if_neg (by simp)]
    refine Ok.next (by omega) (by omega) (by decide) (by decide) fun n A B=> ?_
    dsimp only
    refine Ok.bind (P:=fun o=>∃c k q i,o=(l,c,k,q,i)/\a'<=c/\c<=a'+50) ?_ ?_
    .refine Ok.ite (fun _=> ?_) fun _=>Ok.ite (fun _=> ?_) fun _=>Ok.ite (fun _=> ?_) fun _=> ?_
     .refine Ok.next (by omega) (by omega) (by decide) (by decide) fun _ _ _=>Ok.mk ⟨_,_,_,_,rfl,(by dsimp only;omega),(by dsimp only;omega)⟩
     .exact Ok.mk ⟨_,_,_,_,rfl,by omega,by omega⟩
     .refine Ok.next (by omega) (by omega) (by decide) (by decide) fun _ _ _=>Ok.mk ⟨_,_,_,_,rfl,(by dsimp only;omega),(by dsimp only;omega)⟩
     exact Ok.mk ⟨_,_,_,_,rfl,by omega,by omega⟩
    rintro _ ⟨c,k,q,i,rfl,D,v2⟩
    dsimp only
    rw[qKa d (by omega),qHa (by omega)]
    simp only[j0]
    rw[if_neg (by simp),if_neg (by simp),SX (qLc L _) (by omega)]
    have w:IntKind.wrap .i64 ((j:Int)+1)=((j+1:Nat):Int):=by rw[bS (by omega) (by omega)];omega
    simp only[j0,jP,j9,jC,w]
    exact Ok.mk ⟨⟨j+1,_,rfl,by omega,by omega,by omega⟩,by simp only[kI];omega⟩
   rw[if_neg (by simp only[j6];omega)]
   exact Ok.mk ⟨_,rfl⟩
  obtain⟨r,e,c⟩:=main
  cases r with
  |inl s'=>exact .inr ⟨s',e,c.1,by simpa using c.2⟩
  |inr b=>exact .inl ⟨b,e,c⟩) N (0,l,a) ⟨0,a,rfl,by decide,Int.le_refl _,by omega⟩ (by show 8-0<N;omega)
 obtain⟨b,e,c⟩:=key
 exact⟨b,e,c⟩
theorem qJf{N:Nat}{L:List bL}{l:List Int}{a:Int}(c:oG N L)(f:3000000<N)(d:0<=a)(e:a<100000000000000000):
  Ok (FC N L (l,a)) fun y=>y.2=true:=by
 have g:=qFr L
 have h:=qHf L
 have k:=KT L
 have o:=qGl L
 unfold FC
 rw[VM c (by omega),qEt (by omega)]
 simp only[j0]
 rw[UY (by omega) (by omega)]
 simp only[j0,jP,j9,jC]
 rw[qIg c (by omega),qFp (by omega)]
 simp only[j0]
 rw[UY (by omega) (by omega)]
 simp only[j0,jP,j9,jC]
 rw[TI c (by omega),SS (by omega)]
 simp only[j0]
 rw[qIy (by omega) (by omega)]
 simp only[j0,jP,j9,jC]
 rw[WQ c (by omega),qGb (by omega)]
 simp only[j0]
 rw[if_neg (by simp),wD (n:=(CP L).length) (b:=(.inl ():Unit⊕((List Int×Int)×Bool))) (fun i hi=>by
  simp only[EJ]
  rw[if_pos (by simp only[j6];omega),dP hi]
  have ew:IntKind.wrap .i64 ((i:Int)+1)=((i+1:Nat):Int):=by rw[bS (by omega) (by omega)];omega
  simp only[j0,kN,dF,jP,j9,jC,ew]) (by
  simp only[EJ]
  rw[if_neg (by simp)]) (by omega)]
 simp only[j0]
 refine Ok.bind (qIu (l:=l) c f d e) ?_
 rintro _ ⟨z,rfl⟩
 exact Ok.mk rfl
theorem qFa{N:Nat}{L:List bL}(h:∀f∈L,f.1.size<=1048576)(b:3000000<N):oG N L:=fun g a=>PW (by have:=h g a;omega) (by have:=h g a;omega)
theorem qGt{p:BA}(h:iE p.data.toList=true):p.size<=80:=by
 have:p.data.toList.length<=80:=(gC h).1
 have e:=eR p
 omega
theorem qFy{N K:Nat}{L:List bL}(h:MadeE K L)(b:10000<N):oG N L:=fun g a=>by
 have:=qGt (h.2 g a).1
 exact PW (by omega) (by omega)
def wA:List bL:=[((⟨#[97,46,115,114,99]⟩:BA),(⟨#[112,97,99,107,97,103,101,32,112,59,32,102,117,110,99,32,102,40,41,32,61,32,49,59,32,116,101,115,116,32,116,32,61,32,102,40,41,59]⟩:BA)),((⟨#[98,46,115,114,99]⟩:BA),(⟨#[112,97,99,107,97,103,101,32,112,59,32,102,117,110,99,32,102,40,41,32,61,32,50,59]⟩:BA)),((⟨#[99,46,115,114,99]⟩:BA),(⟨#[102,117,110,99]⟩:BA))]
theorem qLj:CT wA 1 (⟨#[112]⟩:BA) (⟨#[102]⟩:BA)=((⟨#[112]⟩:BA),(⟨#[102]⟩:BA),1,(⟨#[97,46,115,114,99]⟩:BA),0,2):=by kernel_rfl
theorem qLa:CP wA=[((⟨#[112]⟩:BA),(⟨#[116]⟩:BA))]:=by kernel_rfl
theorem qJm:yF wA=[(⟨#[99,46,115,114,99]⟩:BA)]:=by kernel_rfl
theorem qMp{N:Nat}(a:xP N wA 1 (⟨#[112]⟩:BA) (⟨#[102]⟩:BA)=some ((⟨#[112]⟩:BA),(⟨#[102]⟩:BA),1,(⟨#[97,46,115,114,99]⟩:BA),0,2))(c:xO N wA=some [((⟨#[112]⟩:BA),(⟨#[116]⟩:BA))])(d:xM N wA=some [(⟨#[99,46,115,114,99]⟩:BA)]):AU N=some true:=by
 unfold AU
 refine Eq.trans (congrArg (fun z=>Option.bind z _) a) ?_
 simp only[j0]
 refine Eq.trans (congrArg (fun z=>Option.bind z _) c) ?_
 simp only[j0]
 refine Eq.trans (congrArg (fun z=>Option.bind z _) d) ?_
 simp only[j0]
 refine Eq.trans (b:=some true) ?_ rfl
 kernel_rfl
theorem qKq{N:Nat}(c:3000000<N):AU N=some true:=by
 have a:oG N wA:=qFa (fun f b=>by
  simp only[wA,jI,kZ,dD] at b
  rcases b with rfl|rfl|rfl<;>decide) c
 exact qMp (by rw[YA _ _ _ a (by omega),qLj]) (by rw[WQ a (by omega),qLa]) (by rw[VM a (by omega),qJm])
theorem testgatelaw08_PackagesCalls_true(l:List Int)(_gl:l.length*8<=reachBytes/\∀x∈l,(Lit.int .i64 x).wf=true):∃N,DT N l=some true:=by
 refine⟨4000000,?_⟩
 have key:Ok (DT 4000000 l) fun b=>b=true:=by
  unfold DT
  refine Ok.bind (qGh (l:=l) (a:=0) (by decide) (by decide) (by decide)) ?_
  rintro _ ⟨f,A,rfl,t,u,o,v⟩
  dsimp only
  refine Ok.next (by omega) (by omega) (by decide) (by decide) fun n k s=> ?_
  dsimp only
  refine Ok.loop (fun st=>∃(j:Nat) (a':Int) (B:List bL),st=((j:Int),l,a',B)/\j<=3/\0<=a'/\a'<=2000000+200000*(3-j)/\MadeE (4700+900*(3-j)) B/\B.length<=7+(3-j)) (fun st=>st.1.toNat) (fun b=>∃a' B,b=(l,a',B)/\0<=a'/\a'<=10000000/\MadeE 10000 B) ?_ ⟨n.toNat,f+1,A,by rw[Int.toNat_of_nonneg k],by omega,by omega,by omega,o.e.more (by omega),by omega⟩ (by show n.toNat<4000000;omega) ?_
  .rintro _ ⟨j,a',B,rfl,r,d,h,c,q⟩
   unfold JC
   dsimp only
   by_cases hlt:0<j
   .rw[if_pos (by simp only[j6];omega)]
    refine Ok.bind (qNa (K:=4700+900*(3-j)) (by decide) (by omega) (by omega) c (by omega) (by omega) (by omega)) ?_
    rintro _ ⟨g,C,rfl,z,v2,p,D⟩
    dsimp only
    have w:IntKind.wrap .i64 ((j:Int)-1)=((j-1:Nat):Int):=by rw[bS (by omega) (by omega)];omega
    rw[w]
    exact Ok.mk ⟨⟨j-1,g,C,rfl,by omega,by omega,by omega,p.more (by omega),by omega⟩,by simp only[kI];omega⟩
   rw[if_neg (by simp only[j6];omega)]
   exact Ok.mk ⟨a',B,rfl,d,by omega,c.more (by omega)⟩
  rintro _ ⟨a',B,rfl,d,h,c⟩
  dsimp only
  have pB:oG 4000000 B:=qFy c (by decide)
  refine Ok.assoc (Ok.bind (qJf (l:=l) (a:=a') pB (by decide) d (by omega)) fun y g=> ?_)
  rw[if_pos g,qKq (by decide)]
  exact Ok.mk rfl
 obtain⟨b,c,rfl⟩:=key
 exact c
end
end Go.Proofs.YtbclhfjdmfbegaaGreatDoor
