/- No condition but those of each theorem. -/
import Derived.Test.YthbfjomffkpjdaaGreatDoorProg
import Derived.WalkKit
import Derived.Deep.LoopGhost
import Derived.KernelRfl
import Derived.OrdersHeld
import Derived.OrdersIn
import Derived.LoopNIn
import Derived.Sort.LoopGhostIn
import Derived.Laws.AppendOwn
import Derived.RangeFuncLeaves
import Derived.RangeFuncRecord
import Derived.MapKept
import Derived.Maps.RangeRun
import Derived.ChangeKeysEq
import Derived.HandedShaped
import Derived.ChangeStays
import Derived.ChangeSame
import Derived.OpenShut
import Derived.WideShapes
import Derived.JoinedOf
import Derived.ReadAgain
import Derived.ChangeAt
import Derived.RowKit
import Derived.Lib.Overlaps
import Derived.Shelf.Sort.Plain
import Derived.Shelf.Slices.In.SortNone
import Derived.WalkSmall
import Derived.Recover
import Derived.Lib.Builder
import Derived.Lib.UnsafeStr
import Derived.Shelf.Strconv.Itoa3
import Derived.Room.Shelf.Join48
import Derived.Lib.Bytealg
import Derived.Test.YthbfjomffkpjdaaGreatDoorK4f1
namespace Go.Proofs.YthbfjomffkpjdaaGreatDoor
section
open Go Go.Dc
instance decMemB(s:BA)(l:List BA):Decidable (s∈l):=@List.instDecidableMemOfLawfulBEq BA instBEqOfDecidableEq inferInstance s l
abbrev Ex:=Int×Int×Int×BA×List Int
abbrev Dl:=Int×BA×List BA×List Ex
abbrev Sr:=BA×List BA×List Dl
abbrev bZ:=Int×Int
abbrev Ps:=Nat×List Ex
abbrev PM(α:Type):=bZ⊕(Ps×α)
def aJ(ts:List bQ)(i:Nat):bQ:=ts.getD i (5,⟨#[]⟩,0,0)
def dX{α:Type}(t:bQ)(e:Int):bZ⊕α:= .inl (t.2.2.2,e)
def bC{α β:Type}(x:bZ⊕α)(f:α->bZ⊕β):bZ⊕β:=
 match x with
 | .inl z=> .inl z
 | .inr a=>f a
def bP(ts:List bQ)(k:Int)(s:BA)(i:Nat):Bool:=(aJ ts i).1==k&&decide ((aJ ts i).2.1=s)
def dP(ts:List bQ)(s:BA)(i:Nat):bZ⊕Nat:=if bP ts 4 s i then .inr (i+1) else dX (aJ ts i) 9
def uA(ts:List bQ)(s:BA)(i:Nat):bZ⊕Nat:=if bP ts 1 s i then .inr (i+1) else dX (aJ ts i) 9
def mS(ts:List bQ)(k:Int)(i:Nat):bZ⊕(Nat×bQ):=if(aJ ts i).1=k then .inr (i+1,aJ ts i) else dX (aJ ts i) 9
def HN:BA:=⟨#[112,97,99,107,97,103,101]⟩
def vA:BA:=⟨#[105,109,112,111,114,116]⟩
def IH:BA:=⟨#[102,117,110,99]⟩
def HZ:BA:=⟨#[116,101,115,116]⟩
def IP:BA:=⟨#[103,101,110]⟩
def pA:BA:=⟨#[105,102]⟩
def IE:BA:=⟨#[116,104,101,110]⟩
def IG:BA:=⟨#[101,108,115,101]⟩
def rA:BA:=⟨#[114,101,97,100]⟩
def qY:BA:=⟨#[115,105,122,101]⟩
def rC:BA:=⟨#[104,97,115]⟩
def rB:BA:=⟨#[101,110,118]⟩
def rQ:BA:=⟨#[102,108,105,112]⟩
def lH:BA:=⟨#[40]⟩
def eL:BA:=⟨#[41]⟩
def pQ:BA:=⟨#[44]⟩
def qD:BA:=⟨#[59]⟩
def vX:BA:=⟨#[61]⟩
def RG:BA:=⟨#[45]⟩
def wordsR:List BA:=[HN,vA,IH,HZ,IP,pA,IE,IG,rA,qY,rC,rB,rQ]
def qG(s:BA):Bool:=decide (s∈wordsR)
def nE(ts:List bQ)(i:Nat):bZ⊕(Nat×bQ):=bC (mS ts 1 i) fun p=>if qG p.2.2.1 then dX p.2 9 else .inr p
def pH(ts:List bQ)(i:Nat):bZ⊕(Nat×bQ):=bC (mS ts 3 i) fun p=>if iN p.2.2.1.data.toList then .inr p else dX p.2 9
def vH(ts:List bQ)(i:Nat):bZ⊕(Nat×bQ):=bC (mS ts 3 i) fun p=>if lR p.2.2.1 then .inr p else dX p.2 9
def iQ(t:bQ)(x:Ex)(p:Ps):PM Nat:=if p.2.length=256 then dX t 2 else .inr ((p.1,p.2++[x]),p.2.length)
def opsC:List (Int×BA):=[(1,⟨#[43]⟩),(2,⟨#[45]⟩),(3,⟨#[42]⟩),(4,⟨#[47]⟩),(5,⟨#[37]⟩),(6,⟨#[60]⟩),(7,⟨#[61,61]⟩)]
def tE(op:Int):Nat:=if op=6\/op=7 then 1 else if op=1\/op=2 then 2 else 3
def xA(ts:List bQ)(level:Nat)(i:Nat)(o:Int×BA):Bool:=bP ts 4 o.2 i&&decide (tE o.1=level)
def mA(ts:List bQ)(level:Nat)(i:Nat):Int:=
 match opsC.find? (xA ts level i) with
 |some o=>o.1
 |none=>0
section
variable (ts:List bQ) (params:List BA) (E:Ps->PM Nat)
def sY:Nat->List Int->Ps->PM (List Int)
 |0,_,p=>dX (aJ ts p.1) 9
 |n+1,l,p=>bC (E p) fun q=>
  if bP ts 4 pQ q.1.1 then sY n (l++[(q.2:Int)]) (q.1.1+1,q.1.2)
  else bC (dP ts eL q.1.1) fun i=> .inr ((i,q.1.2),l++[(q.2:Int)])
def yZ(p:Ps):PM (List Int):=
 bC (dP ts lH p.1) fun i=>if bP ts 4 eL i then .inr ((i+1,p.2),[]) else sY ts E (ts.length+1) [] (i,p.2)
def rK(t:bQ)(p:Ps):PM Nat:=
 bC (dP ts lH p.1) fun i=>
 bC (if t.2.1=rA then
   bC (pH ts i) fun a=>bC (dP ts pQ a.1) fun i=>bC (E (i,p.2)) fun q=> .inr (q.1,((6,0,0,a.2.2.1,[(q.2:Int)]):Ex))
  else if t.2.1=qY then bC (pH ts i) fun a=> .inr ((a.1,p.2),((7,0,0,a.2.2.1,[]):Ex))
  else if t.2.1=rC then bC (pH ts i) fun a=> .inr ((a.1,p.2),((8,0,0,a.2.2.1,[]):Ex))
  else if t.2.1=rB then bC (vH ts i) fun a=> .inr ((a.1,p.2),((9,0,0,a.2.2.1,[]):Ex))
  else bC (mS ts 2 i) fun a=>if a.2.2.2.1>=64 then dX a.2 9 else .inr ((a.1,p.2),((10,a.2.2.2.1,0,⟨#[]⟩,[]):Ex))) fun q=>
 bC (dP ts eL q.1.1) fun i=>iQ t q.2 (i,q.1.2)
def nL(p:Ps):PM Nat:=
 let t:=aJ ts p.1
 if t.1=2 then iQ t (1,t.2.2.1,0,⟨#[]⟩,[]) (p.1+1,p.2)
 else if bP ts 4 RG p.1 then bC (mS ts 2 (p.1+1)) fun a=>iQ t (1,IntKind.wrap .i64 (0-a.2.2.2.1),0,⟨#[]⟩,[]) (a.1,p.2)
 else if bP ts 4 lH p.1 then bC (E (p.1+1,p.2)) fun q=>bC (dP ts eL q.1.1) fun i=> .inr ((i,q.1.2),q.2)
 else if t.1≠1 then dX t 9
 else if t.2.1∈[rA,qY,rC,rB,rQ] then rK ts E t (p.1+1,p.2)
 else if qG t.2.1 then dX t 9
 else if bP ts 4 lH (p.1+1) then bC (yZ ts E (p.1+1,p.2)) fun q=>iQ t (3,0,0,t.2.1,q.2) q.1
 else match params.findIdx? (fun x=>decide (x=t.2.1)) with
  |some i=>iQ t (2,(i:Int),0,⟨#[]⟩,[]) (p.1+1,p.2)
  |none=>dX t 9
def mI(level:Nat)(S:Ps->PM Nat):Nat->Nat->Ps->PM Nat
 |0,_,p=>dX (aJ ts p.1) 9
 |n+1,x,p=>
  if mA ts level p.1=0 then .inr (p,x)
  else bC (S (p.1+1,p.2)) fun q=>bC (iQ (aJ ts p.1) (4,0,mA ts level p.1,⟨#[]⟩,[(x:Int),(q.2:Int)]) q.1) fun r=>
   if level=1 then .inr r else mI level S n r.2 r.1
def pS(level:Nat)(S:Ps->PM Nat)(p:Ps):PM Nat:=bC (S p) fun q=>mI ts level S (ts.length+1) q.2 q.1
def LV:Ps->PM Nat:=pS ts 3 (nL ts params E)
def vQ:Ps->PM Nat:=pS ts 2 (LV ts params E)
def PI:Ps->PM Nat:=pS ts 1 (vQ ts params E)
end
def cZ(ts:List bQ)(params:List BA):Nat->Ps->PM Nat
 |0,p=>dX (aJ ts p.1) 2
 |k+1,p=>
  if bP ts 1 pA p.1 then
   bC (cZ ts params k (p.1+1,p.2)) fun a=>bC (uA ts IE a.1.1) fun i=>
   bC (cZ ts params k (i,a.1.2)) fun b=>bC (uA ts IG b.1.1) fun j=>
   bC (cZ ts params k (j,b.1.2)) fun c=>iQ (aJ ts p.1) (5,0,0,⟨#[]⟩,[(a.2:Int),(b.2:Int),(c.2:Int)]) c.1
  else PI ts params (cZ ts params k) p
def sU(ts:List bQ):Nat->List BA->Nat->bZ⊕(Nat×List BA)
 |0,_,i=>dX (aJ ts i) 9
 |n+1,l,i=>bC (nE ts i) fun a=>
  if l.length=8 then dX a.2 2
  else if a.2.2.1∈l then dX a.2 10
  else if bP ts 4 pQ a.1 then sU ts n (l++[a.2.2.1]) (a.1+1)
  else bC (dP ts eL a.1) fun j=> .inr (j,l++[a.2.2.1])
def uR(ts:List bQ)(i:Nat):bZ⊕(Nat×List BA):=
 bC (dP ts lH i) fun j=>if bP ts 4 eL j then .inr (j+1,[]) else sU ts (ts.length+1) [] j
def AC(s:BA):Int:=if s=IH then 1 else if s=HZ then 2 else if s=IP then 3 else 0
def qF(ts:List bQ)(before:List Dl)(i:Nat):bZ⊕(Nat×Dl):=
 let t:=aJ ts i
 let k:=AC t.2.1
 if t.1≠1\/k=0 then dX t 9
 else if before.length=64 then dX t 2
 else bC (if k=3 then pH ts (i+1) else nE ts (i+1)) fun a=>
  if before.any (fun d=>d.1==k&&decide (d.2.1=a.2.2.1)) then dX a.2 10
  else bC (if k=1 then uR ts a.1 else .inr (a.1,[])) fun b=>
   bC (dP ts vX b.1) fun j=>bC (cZ ts b.2 32 (j,[])) fun c=>
   bC (dP ts qD c.1.1) fun m=> .inr (m,(k,a.2.2.1,b.2,c.1.2))
def qQ(ts:List bQ)(pkg:BA):Nat->List BA->Nat->bZ⊕(Nat×List BA)
 |0,_,i=>dX (aJ ts i) 9
 |n+1,l,i=>
  if bP ts 1 vA i then
   if l.length=8 then dX (aJ ts i) 2
   else bC (nE ts (i+1)) fun a=>
    if a.2.2.1=pkg\/a.2.2.1∈l then dX a.2 10
    else bC (dP ts qD a.1) fun j=>qQ ts pkg n (l++[a.2.2.1]) j
  else .inr (i,l)
def wW(ts:List bQ):Nat->List Dl->Nat->bZ⊕List Dl
 |0,_,i=>dX (aJ ts i) 9
 |n+1,l,i=>if(aJ ts i).1=5 then .inr l else bC (qF ts l i) fun a=>wW ts n (l++[a.2]) a.1
def DN(ts:List bQ):bZ⊕Sr:=
 bC (uA ts HN 0) fun i=>bC (nE ts i) fun a=>bC (dP ts qD a.1) fun j=>
 bC (qQ ts a.2.2.1 (ts.length+1) [] j) fun b=>bC (wW ts (ts.length+1) [] b.1) fun l=> .inr (a.2.2.1,b.2,l)
def tC:Sr:=(⟨#[]⟩,[],[])
def zV(s:BA):Sr×Int×Int:=
 if(oU s).2.2≠0 then(tC,(oU s).2.1,(oU s).2.2)
 else match DN (oU s).1 with
  | .inl z=>(tC,z.1,z.2)
  | .inr f=>(f,0,0)
def OkT(ts:List bQ):Prop:=ts≠[]/\∀i,i<ts.length->((aJ ts i).1=5↔i+1=ts.length)
theorem iB{α β:Type}{x:bZ⊕α}{f:α->bZ⊕β}{b:β}(h:bC x f= .inr b):∃a,x= .inr a/\f a= .inr b:=by
 cases x with
 |inl z=>cases h
 |inr a=>exact⟨a,rfl,h⟩
section
variable {ts:List bQ} {params:List BA} {E S:Ps->PM Nat}
theorem OkT.next(h:OkT ts){i:Nat}(hi:i<ts.length)(a:(aJ ts i).1≠5):i+1<ts.length:=by
 have b:¬i+1=ts.length:=fun e=>a ((h.2 i hi).2 e)
 omega
theorem PW{k:Int}{s:BA}{i:Nat}(h:bP ts k s i=true):(aJ ts i).1=k:=by
 simp only[bP,jM,kN] at h;exact h.1
theorem mN(h:OkT ts){k:Int}{s:BA}{i:Nat}(hi:i<ts.length)(b:k≠5)(a:bP ts k s i=true):i+1<ts.length:=h.next hi (by rw[PW a];exact b)
theorem nK(h:OkT ts){s:BA}{i j:Nat}(hi:i<ts.length)(a:dP ts s i= .inr j):j=i+1/\j<ts.length/\bP ts 4 s i=true:=by
 unfold dP at a
 split at a
 .rename_i h2
  obtain rfl:=Sum.inr.inj a
  exact⟨rfl,mN h hi (by decide) h2,h2⟩
 cases a
theorem XP(h:OkT ts){s:BA}{i j:Nat}(hi:i<ts.length)(a:uA ts s i= .inr j):j=i+1/\j<ts.length/\bP ts 1 s i=true:=by
 unfold uA at a
 split at a
 .rename_i h2
  obtain rfl:=Sum.inr.inj a
  exact⟨rfl,mN h hi (by decide) h2,h2⟩
 cases a
theorem zJ(h:OkT ts){k:Int}(c:k≠5){i:Nat}{a:Nat×bQ}(hi:i<ts.length)(b:mS ts k i= .inr a):a=(i+1,aJ ts i)/\i+1<ts.length/\(aJ ts i).1=k:=by
 unfold mS at b
 split at b
 .rename_i h2
  obtain rfl:=Sum.inr.inj b
  exact⟨rfl,h.next hi (by rw[h2];exact c),h2⟩
 cases b
theorem zN(h:OkT ts){i:Nat}{a:Nat×bQ}(hi:i<ts.length)(f:nE ts i= .inr a):a=(i+1,aJ ts i)/\i+1<ts.length/\(aJ ts i).1=1/\qG (aJ ts i).2.1=false:=by
 obtain⟨b,g,c⟩:=iB f
 obtain⟨rfl,d,e⟩:=zJ h (by decide) hi g
 split at c
 .cases c
 rename_i g3
 obtain rfl:=Sum.inr.inj c
 exact⟨rfl,d,e,by simpa using g3⟩
theorem zI(h:OkT ts){i:Nat}{a:Nat×bQ}(hi:i<ts.length)(f:pH ts i= .inr a):a=(i+1,aJ ts i)/\i+1<ts.length/\(aJ ts i).1=3/\iN (aJ ts i).2.1.data.toList=true:=by
 obtain⟨b,g,c⟩:=iB f
 obtain⟨rfl,d,e⟩:=zJ h (by decide) hi g
 split at c
 .rename_i g3
  obtain rfl:=Sum.inr.inj c
  exact⟨rfl,d,e,g3⟩
 cases c
theorem VJ(h:OkT ts){i:Nat}{a:Nat×bQ}(hi:i<ts.length)(f:vH ts i= .inr a):a=(i+1,aJ ts i)/\i+1<ts.length/\(aJ ts i).1=3/\lR (aJ ts i).2.1=true:=by
 obtain⟨b,g,c⟩:=iB f
 obtain⟨rfl,d,e⟩:=zJ h (by decide) hi g
 split at c
 .rename_i g3
  obtain rfl:=Sum.inr.inj c
  exact⟨rfl,d,e,g3⟩
 cases c
theorem qKq{t:bQ}{x:Ex}{p q:Ps}{i:Nat}(h:iQ t x p= .inr (q,i)):q=(p.1,p.2++[x])/\i=p.2.length/\p.2.length≠256:=by
 unfold iQ at h
 split at h
 .cases h
 rename_i h1
 obtain⟨rfl,rfl⟩:=Prod.mk.inj (Sum.inr.inj h)
 exact⟨rfl,rfl,h1⟩
def DZ(ts:List bQ)(p q:Ps):Prop:=p.1<q.1/\q.1<ts.length/\p.2.length<=q.2.length/\q.2.length<=256
def mY(ts:List bQ)(S:Ps->PM Nat):Prop:=∀(p q:Ps) (x:Nat),p.1<ts.length->p.2.length<=256->S p= .inr (q,x)->DZ ts p q/\x<q.2.length
theorem wR{t:bQ}{x:Ex}{p r q:Ps}{i:Nat}(b:p.1<r.1)(c:r.1<ts.length)(d:p.2.length<=r.2.length)(a:r.2.length<=256)(h:iQ t x r= .inr (q,i)):DZ ts p q/\i<q.2.length:=by
 obtain⟨rfl,rfl,g⟩:=qKq h
 refine⟨⟨b,c,?_,?_⟩,?_⟩<;>simp only[jC,jD,jF]<;>omega
theorem OH(h:OkT ts)(f:mY ts E):∀(n:Nat) (l:List Int) (p q:Ps) (x:List Int),p.1<ts.length->p.2.length<=256->sY ts E n l p= .inr (q,x)->DZ ts p q
 |0,_,_,_,_,_,_,b=>by cases b
 |n+1,l,p,q,x,v,t,b=>by
  obtain⟨a,s,c⟩:=iB (show bC (E p) _=_ from b)
  obtain⟨⟨B,d,k,e⟩,D⟩:=f p a.1 a.2 v t s
  split at c
  .rename_i hc
   have g:=mN h d (by decide) hc
   obtain⟨y,z,k3,A⟩:=OH h f n _ (a.1.1+1,a.1.2) q x g e c
   exact⟨by simp only at y;omega,z,by simp only at k3;omega,A⟩
  obtain⟨j,u,r⟩:=iB c
  obtain⟨rfl,o,-⟩:=nK h d u
  obtain⟨rfl,-⟩:=Prod.mk.inj (Sum.inr.inj r)
  exact⟨by simp only;omega,o,k,e⟩
theorem qEa(h:OkT ts)(e:mY ts E){p q:Ps}{x:List Int}(f:p.1<ts.length)(c:p.2.length<=256)(d:yZ ts E p= .inr (q,x)):DZ ts p q:=by
 obtain⟨i,hi,a⟩:=iB d
 obtain⟨rfl,b,-⟩:=nK h f hi
 split at a
 .rename_i hc
  obtain⟨rfl,-⟩:=Prod.mk.inj (Sum.inr.inj a)
  exact⟨by simp only;omega,mN h b (by decide) hc,jT _,c⟩
 obtain⟨g,k,k3,l⟩:=OH h e _ _ (p.1+1,p.2) q x b c a
 exact⟨by simp only at g;omega,k,k3,l⟩
theorem qEy(h:OkT ts)(K:mY ts E){t:bQ}{p q:Ps}{x:Nat}(R:p.1<ts.length)(n:p.2.length<=256)(D:rK ts E t p= .inr (q,x)):DZ ts p q/\x<q.2.length:=by
 obtain⟨i,hi,F⟩:=iB D
 obtain⟨rfl,l,-⟩:=nK h R hi
 obtain⟨a,g,G⟩:=iB F
 obtain⟨j,M,H⟩:=iB G
 have key:DZ ts (p.1+1,p.2) a.1:=by
  split at g
  .obtain⟨b,f,e⟩:=iB g
   obtain⟨rfl,k,-⟩:=zI h l f
   obtain⟨c,y,z⟩:=iB e
   obtain⟨rfl,S,-⟩:=nK h k y
   obtain⟨d,A,B⟩:=iB z
   obtain⟨⟨o,s,u,v⟩,-⟩:=K (p.1+1+1+1,p.2) d.1 d.2 S n A
   obtain rfl:=Sum.inr.inj B
   exact⟨by simp only at o ⊢;omega,s,u,v⟩
  split at g
  .obtain⟨b,f,e⟩:=iB g
   obtain⟨rfl,k,-⟩:=zI h l f
   obtain rfl:=Sum.inr.inj e
   exact⟨by simp only;omega,k,jT _,n⟩
  split at g
  .obtain⟨b,f,e⟩:=iB g
   obtain⟨rfl,k,-⟩:=zI h l f
   obtain rfl:=Sum.inr.inj e
   exact⟨by simp only;omega,k,jT _,n⟩
  split at g
  .obtain⟨b,f,e⟩:=iB g
   obtain⟨rfl,k,-⟩:=VJ h l f
   obtain rfl:=Sum.inr.inj e
   exact⟨by simp only;omega,k,jT _,n⟩
  obtain⟨b,f,e⟩:=iB g
  obtain⟨rfl,k,-⟩:=zJ h (by decide) l f
  split at e
  .cases e
  obtain rfl:=Sum.inr.inj e
  exact⟨by simp only;omega,k,jT _,n⟩
 obtain⟨o,s,u,v⟩:=key
 obtain⟨rfl,e,-⟩:=nK h s M
 exact wR (r:=(a.1.1+1,a.1.2)) (by simp only at o ⊢;omega) e u v H
theorem UB(h:OkT ts)(u:mY ts E):mY ts (nL ts params E):=by
 intro p q x o c b
 unfold nL at b
 dsimp only at b
 split at b
 .rename_i hk
  exact wR (r:=(p.1+1,p.2)) (by simp only;omega) (h.next o (by rw[hk];decide)) (jT _) c b
 split at b
 .rename_i hc
  have g:=mN h o (by decide) hc
  obtain⟨a,n,l⟩:=iB b
  obtain⟨rfl,t,-⟩:=zJ h (by decide) g n
  exact wR (r:=(p.1+1+1,p.2)) (by simp only;omega) t (jT _) c l
 split at b
 .rename_i hc
  have g:=mN h o (by decide) hc
  obtain⟨a,n,l⟩:=iB b
  obtain⟨⟨d,e,f,k⟩,s⟩:=u (p.1+1,p.2) a.1 a.2 g c n
  obtain⟨j,y,v⟩:=iB l
  obtain⟨rfl,t,-⟩:=nK h e y
  obtain⟨rfl,rfl⟩:=Prod.mk.inj (Sum.inr.inj v)
  exact⟨⟨by simp only at d ⊢;omega,t,f,k⟩,s⟩
 split at b
 .cases b
 rename_i hk
 have g:=h.next o (show(aJ ts p.1).1≠5 by simp only[ne_eq,Decidable.not_not] at hk;rw[hk];decide)
 split at b
 .obtain⟨⟨d,e,f,k⟩,s⟩:=qEy h u (p:=(p.1+1,p.2)) g c b
  exact⟨⟨by simp only at d;omega,e,f,k⟩,s⟩
 split at b
 .cases b
 split at b
 .obtain⟨a,n,l⟩:=iB b
  obtain⟨d,e,f,k⟩:=qEa h u (p:=(p.1+1,p.2)) g c n
  exact wR (by simp only at d;omega) e f k l
 split at b
 .exact wR (r:=(p.1+1,p.2)) (by simp only;omega) g (jT _) c b
 cases b
theorem WG(h:OkT ts){level:Nat}(d:mY ts S):∀(n x:Nat) (p q:Ps) (y:Nat),p.1<ts.length->p.2.length<=256->x<p.2.length->mI ts level S n x p= .inr (q,y)->p.1<=q.1/\q.1<ts.length/\p.2.length<=q.2.length/\q.2.length<=256/\y<q.2.length
 |0,_,_,_,_,_,_,_,b=>by cases b
 |n+1,x,p,q,y,k,e,F,b=>by
  unfold mI at b
  split at b
  .obtain⟨rfl,rfl⟩:=Prod.mk.inj (Sum.inr.inj b)
   exact⟨jT _,k,jT _,e,F⟩
  rename_i hop
  have f:(aJ ts p.1).1≠5:=by
   intro f
   apply hop
   unfold mA
   have:opsC.find? (xA ts level p.1)=none:=by
    rw[List.find?_eq_none]
    intro o _ c
    simp only[xA,jM] at c
    have:=PW c.1
    omega
   rw[this]
  have g:=h.next k f
  obtain⟨a,D,B⟩:=iB b
  obtain⟨⟨u,v,z,A⟩,M⟩:=d (p.1+1,p.2) a.1 a.2 g e D
  obtain⟨r,E,c⟩:=iB B
  obtain⟨⟨V,l,k3,s⟩,t⟩:=wR (ts:=ts) (p:=p) (by simp only at u;omega) v z A E
  split at c
  .obtain⟨rfl,rfl⟩:=Prod.mk.inj (Sum.inr.inj c)
   exact⟨by omega,l,k3,s,t⟩
  obtain⟨R,G,U,H,K⟩:=WG h d n _ _ q y l s t c
  exact⟨by omega,G,by omega,H,K⟩
theorem GR(h:OkT ts){level:Nat}(b:mY ts S):mY ts (pS ts level S):=by
 intro p q x n l f
 obtain⟨a,k,g⟩:=iB f
 obtain⟨⟨t,c,u,d⟩,e⟩:=b p a.1 a.2 n l k
 obtain⟨v,o,y,r,s⟩:=WG h b _ _ _ q x c d e g
 exact⟨⟨by omega,o,by omega,r⟩,s⟩
theorem zC(h:OkT ts):∀k,mY ts (cZ ts params k)
 |0=>fun _ _ _ _ _ d=>by cases d
 |k+1=>by
  intro p q x n e d
  unfold cZ at d
  split at d
  .rename_i hc
   have g:=mN h n (by decide) hc
   obtain⟨a,U,H⟩:=iB d
   obtain⟨⟨o,r,s,t⟩,-⟩:=zC h k (p.1+1,p.2) a.1 a.2 g e U
   obtain⟨i,hi,K⟩:=iB H
   obtain⟨rfl,F,-⟩:=XP h r hi
   obtain⟨b,f,M⟩:=iB K
   obtain⟨⟨u,v,y,z⟩,-⟩:=zC h k (a.1.1+1,a.1.2) b.1 b.2 F t f
   obtain⟨j,V,R⟩:=iB M
   obtain⟨rfl,G,-⟩:=XP h v V
   obtain⟨c,l,S⟩:=iB R
   obtain⟨⟨A,B,D,E⟩,-⟩:=zC h k (b.1.1+1,b.1.2) c.1 c.2 G z l
   simp only at o s u y A D
   exact wR (by omega) B (by omega) E S
  exact GR h (GR h (GR h (UB h (zC h k)))) p q x n e d
end
theorem qMx{ts:List bQ}{i:Nat}(hi:i<ts.length):idx ts (i:Int)=some (aJ ts i):=by
 rw[dM hi]
 simp[aJ,kA,hi]
theorem tW{i:Nat}(h:i<1000000):IntKind.wrap .i64 ((i:Int)+1)=((i+1:Nat):Int):=by rw[bX (by omega) (by omega)];omega
section
variable {N:Nat} {ts:List bQ} {pr:List BA} {b:List Ex} {i:Nat}
theorem orS(a b:Bool):(if a=true then some a else some b)=some (a||b):=by
 cases a<;>simp
theorem qPs(b:Bool):(if b=true then some true else some false)=some b:=by cases b<;>simp
theorem qFq(s:BA):yK N s=some (qG s):=by
 simp only[yK,iY,qG,wordsR,HN,vA,IH,HZ,IP,pA,IE,IG,rA,qY,rC,rB,rQ,jR,gK,dG]
 simp only[orS,j0,qPs,jL]
 simp only[Bool.decide_or]
end
end
section
open Go Go.Dc
end
section
open Go Go.Dc
end
section
open Go Go.Dc
end
section
open Go Go.Dc
section
variable {N:Nat} {ts:List bQ} {pr:List BA} {b:List Ex}
theorem NV(h:OkT ts):∀(n:Nat) (l:List BA) (i:Nat) (a:Nat×List BA),i<ts.length->l.length<=8->sU ts n l i= .inr a->i<a.1/\a.1<ts.length/\a.2.length<=8
 |0,_,_,_,_,_,d=>by cases d
 |n+1,l,i,a,hi,q,d=>by
  obtain⟨x,k,b⟩:=iB (show bC (nE ts i) _=_ from d)
  obtain⟨rfl,e,-⟩:=zN h hi k
  split at b
  .cases b
  rename_i k1
  split at b
  .cases b
  split at b
  .rename_i k3
   have c:=mN h e (by decide) k3
   obtain⟨r,o,p⟩:=NV h n _ _ a c (by simp only[jC,jD,jF];omega) b
   exact⟨by omega,o,p⟩
  obtain⟨j,g,f⟩:=iB b
  obtain⟨rfl,c,-⟩:=nK h e g
  obtain rfl:=Sum.inr.inj f
  exact⟨by simp only;omega,c,by simp only[jC,jD,jF];omega⟩
theorem qDz(h:OkT ts){i:Nat}{a:Nat×List BA}(hi:i<ts.length)(c:uR ts i= .inr a):i<a.1/\a.1<ts.length/\a.2.length<=8:=by
 obtain⟨j,d,b⟩:=iB c
 obtain⟨rfl,g,-⟩:=nK h hi d
 split at b
 .rename_i k
  obtain rfl:=Sum.inr.inj b
  exact⟨by simp only;omega,mN h g (by decide) k,by simp⟩
 obtain⟨l,e,f⟩:=NV h _ _ _ a g (by simp) b
 exact⟨by omega,e,f⟩
theorem qIc(h:OkT ts){before:List Dl}{i:Nat}{a:Nat×Dl}(hi:i<ts.length)(b:qF ts before i= .inr a):i<a.1/\a.1<ts.length/\before.length≠64:=by
 unfold qF at b
 dsimp only at b
 split at b
 .cases b
 rename_i k1
 split at b
 .cases b
 rename_i k2
 have g:=h.next hi (show(aJ ts i).1≠5 by intro e;apply k1;left;rw[e];decide)
 obtain⟨x,k,f⟩:=iB b
 have gx:x.1=i+1+1/\x.1<ts.length:=by
  split at k
  .obtain⟨rfl,d,-⟩:=zI h g k;exact⟨rfl,d⟩
  obtain⟨rfl,d,-⟩:=zN h g k;exact⟨rfl,d⟩
 split at f
 .cases f
 obtain⟨y,l,q⟩:=iB f
 have gy:x.1<=y.1/\y.1<ts.length:=by
  split at l
  .obtain⟨d,n,-⟩:=qDz h gx.2 l;exact⟨by omega,n⟩
  obtain rfl:=Sum.inr.inj l;exact⟨jT _,gx.2⟩
 obtain⟨j,v,r⟩:=iB q
 obtain⟨rfl,o,-⟩:=nK h gy.2 v
 obtain⟨c,u,s⟩:=iB r
 obtain⟨⟨d,n,A,B⟩,-⟩:=zC h 32 (y.1+1,[]) c.1 c.2 o (by simp) u
 obtain⟨m,z,t⟩:=iB s
 obtain⟨rfl,p,-⟩:=nK h n z
 obtain rfl:=Sum.inr.inj t
 exact⟨by simp only at d ⊢;omega,p,k2⟩
end
section
variable {N:Nat} {ts:List bQ} {pr:List BA} {b:List Ex}
theorem TQ(h:OkT ts){pkg:BA}:∀(n:Nat) (l:List BA) (i:Nat) (a:Nat×List BA),i<ts.length->l.length<=8->qQ ts pkg n l i= .inr a->i<=a.1/\a.1<ts.length/\a.2.length<=8
 |0,_,_,_,_,_,b=>by cases b
 |n+1,l,i,a,hi,p,b=>by
  unfold qQ at b
  split at b
  .rename_i k
   have g:=mN h hi (by decide) k
   split at b
   .cases b
   rename_i k2
   obtain⟨x,q,c⟩:=iB b
   obtain⟨rfl,d,-⟩:=zN h g q
   split at c
   .cases c
   obtain⟨j,o,f⟩:=iB c
   obtain⟨rfl,e,-⟩:=nK h d o
   obtain⟨t,r,s⟩:=TQ h n _ _ a e (by simp only[jC,jD,jF];omega) f
   exact⟨by omega,r,s⟩
  obtain rfl:=Sum.inr.inj b
  exact⟨jT _,hi,p⟩
end
theorem XY{s:BA}:∀(l:List bQ) (e:Int),0<=e->RQ s e l->∀i,i<l.length->((aJ l i).1=5↔i+1=l.length)/\((aJ l i).2.1.size:Int)<=s.size/\0<=(aJ l i).2.2.2
 |[],_,_,_,i,hi=>by simp at hi
 |t::r,e,k,h,i,hi=>by
  obtain⟨d,f,b,g,c⟩:=h
  have a:0<=xC t:=by unfold xC;split<;>omega
  cases i with
  |zero=>
   refine⟨?_,?_,?_⟩
   .show t.1=5↔0+1=r.length+1
    rw[b,<-gB];omega
   .show((t.2.1.size:Nat):Int)<=s.size
    omega
   show 0<=t.2.2.2
   omega
  |succ i=>
   have:=XY r _ a c i (by simpa using hi)
   have e:aJ (t::r) (i+1)=aJ r i:=by simp[aJ]
   rw[e,jD]
   exact⟨⟨fun h=>by have:=this.1.1 h;omega,fun h=>this.1.2 (by omega)⟩,this.2⟩
theorem qGl{s:BA}(h:(oU s).2.2=0):OkT (oU s).1/\(oU s).1.length<=16385/\∀j,(aJ (oU s).1 j).2.1.size<100000:=by
 unfold oU at h ⊢
 split at h
 .simp at h
 rename_i hs
 rw[if_neg hs]
 cases hG:mE (s.data.toList.length+1) s 0 with
 |inl x=>
  obtain⟨_,_,a⟩:=PE _ 0 x (by omega) (by omega) hG
  rw[hG] at h
  exact absurd h a
 |inr r=>
  obtain⟨c,d,g⟩:=OE _ 0 0 r (by omega) (by omega) (by omega) hG
  simp only[wY,jQ]
  have b:=XY r 0 (by omega) c
  refine⟨⟨d,fun i hi=>(b i hi).1⟩,by omega,fun j=> ?_⟩
  rcases fR j r.length with a|a
  .have:=(b j a).2.1
   have f:=lE s
   omega
  have e:aJ r j=(5,⟨#[]⟩,0,0):=by simp[aJ,kA,List.getElem?_eq_none a]
  rw[e];decide
abbrev RT:=List bQ×Int×Int×Int×List BA×List Ex×List Int
def gR(ts:List bQ)(pr:List BA)(p:Ps):RT:=(ts,(p.1:Int),0,0,pr,p.2,[])
def bR(ts:List bQ)(z:bZ)(i:Nat)(pr:List BA)(b:List Ex):RT:=(ts,(i:Int),z.1,z.2,pr,b,[])
section
variable {N:Nat} {ts:List bQ} {pr:List BA} {b:List Ex} {i:Nat} {z:bZ}
theorem qBb{st:Int×Int×List BA×List Ex×List Int}(hi:i<ts.length):eR N (ts,(i:Int),st.1,st.2.1,st.2.2.1,st.2.2.2.1,st.2.2.2.2)=some ((ts,(i:Int),st.1,st.2.1,st.2.2.1,st.2.2.2.1,st.2.2.2.2),aJ ts i):=by
 simp only[eR,qMx hi,j0]
theorem lF(p:Ps)(hi:p.1<ts.length):eR N (gR ts pr p)=some (gR ts pr p,aJ ts p.1):=qBb (st:=(0,0,pr,p.2,[])) hi
theorem qW(hi:i<ts.length):eR N (bR ts z i pr b)=some (bR ts z i pr b,aJ ts i):=qBb (st:=(z.1,z.2,pr,b,[])) hi
theorem qC(p:Ps)(hi:p.1<ts.length)(b:ts.length<1000000)(s:BA):nX N (gR ts pr p) s=some (if bP ts 1 s p.1 then(gR ts pr (p.1+1,p.2),true) else(gR ts pr p,false)):=by
 have a:eR N (ts,(p.1:Int),0,0,pr,p.2,[])=some ((ts,(p.1:Int),0,0,pr,p.2,[]),aJ ts p.1):=lF p hi
 simp only[nX,gR,a,j0,iY,bP,gQ,jJ]
 by_cases h1:(aJ ts p.1).1=1<;>by_cases h2:(aJ ts p.1).2.1=s<;>simp[h1,h2,tW (show p.1<1000000 by omega)]
theorem QE(a:z.2≠0)(s:BA):nX N (bR ts z i pr b) s=some (bR ts z i pr b,false):=by
 simp[nX,bR,a]
theorem oT(p:Ps)(hi:p.1<ts.length)(b:ts.length<1000000)(s:BA):nY N (gR ts pr p) s=some (if bP ts 4 s p.1 then(gR ts pr (p.1+1,p.2),true) else(gR ts pr p,false)):=by
 have a:eR N (ts,(p.1:Int),0,0,pr,p.2,[])=some ((ts,(p.1:Int),0,0,pr,p.2,[]),aJ ts p.1):=lF p hi
 simp only[nY,gR,a,j0,iY,bP,gQ,jJ]
 by_cases h1:(aJ ts p.1).1=4<;>by_cases h2:(aJ ts p.1).2.1=s<;>simp[h1,h2,tW (show p.1<1000000 by omega)]
theorem LH(a:z.2≠0)(s:BA):nY N (bR ts z i pr b) s=some (bR ts z i pr b,false):=by
 simp[nY,bR,a]
theorem oE(p:Ps)(a e:Int):eW N (gR ts pr p) a e=some (bR ts (a,e) p.1 pr p.2):=by
 simp[eW,gR,bR]
theorem rM(c:z.2≠0)(a e:Int):eW N (bR ts z i pr b) a e=some (bR ts z i pr b):=by
 simp[eW,bR,c]
theorem rL(p:Ps)(hi:p.1<ts.length)(d:ts.length<1000000)(s:BA):eM N (gR ts pr p) s=some (match dP ts s p.1 with| .inl z=>bR ts z p.1 pr p.2| .inr j=>gR ts pr (j,p.2)):=by
 have a:=oT (N:=N) (pr:=pr) p hi d s
 have b:=lF (N:=N) (pr:=pr) p hi
 have c:=oE (N:=N) (ts:=ts) (pr:=pr) p (aJ ts p.1).2.2.2 9
 simp only[gR] at a b c
 simp only[eM,gR,a,j0,dP]
 rcases eN (bP ts 4 s p.1) with h|h
 .simp only[h,jJ,gD,jB,jI]
 simp only[h,jJ,kQ,jB,jI,b,j0,c,dX]
theorem qT(e:z.2≠0)(hi:i<ts.length)(s:BA):eM N (bR ts z i pr b) s=some (bR ts z i pr b):=by
 have a:=LH (N:=N) (ts:=ts) (i:=i) (pr:=pr) (b:=b) e s
 have c:=qW (N:=N) (ts:=ts) (i:=i) (pr:=pr) (b:=b) (z:=z) hi
 have d:=rM (N:=N) (ts:=ts) (i:=i) (pr:=pr) (b:=b) e (aJ ts i).2.2.2 9
 simp only[bR] at a c d
 simp only[eM,bR,a,j0,kQ,jJ,c,d]
theorem VY{s:BA}:∀(d k M:Nat),k+d=wordsR.length->d<M->aI (xN N s) M (k:Int)=some (if s∈wordsR.drop k then .inr true else .inl ())
 |d,k,0,_,h=>by omega
 |0,k,M+1,h,_=>by
  have:wordsR.drop k=[]:=jW (by omega)
  simp only[aI,xN,this]
  rw[if_neg (by simp only[jA];have:wordsR.length=13:=rfl;simp only[jD,jF];omega)]
  rfl
 |d+1,k,M+1,h,g=>by
  have a:k<wordsR.length:=by omega
  have c:=VY (s:=s) d (k+1) M (by omega) (by omega)
  simp only[aI]
  have e:xN N s (k:Int)=some (if s=wordsR[k] then .inr (.inr true) else .inl (((k+1:Nat):Int))):=by
   have f:wordsR.length=13:=rfl
   have b:idx ([(⟨#[112,97,99,107,97,103,101]⟩:BA),(⟨#[105,109,112,111,114,116]⟩:BA),(⟨#[102,117,110,99]⟩:BA),(⟨#[116,101,115,116]⟩:BA),(⟨#[103,101,110]⟩:BA),(⟨#[105,102]⟩:BA),(⟨#[116,104,101,110]⟩:BA),(⟨#[101,108,115,101]⟩:BA),(⟨#[114,101,97,100]⟩:BA),(⟨#[115,105,122,101]⟩:BA),(⟨#[104,97,115]⟩:BA),(⟨#[101,110,118]⟩:BA),(⟨#[102,108,105,112]⟩:BA)]) (k:Int)=some wordsR[k]:=dM (l:=wordsR) a
   simp only[xN]
   rw[if_pos (by simp only[jA,jD,jF];omega),b]
   simp only[j0,iY,jA,tW (show k<1000000 by omega)]
   split<;>rfl
  rw[e,kH a]
  simp only[j0,jR]
  by_cases hs:s=wordsR[k]
  .rw[if_pos hs,if_pos (.inl hs)]
  rw[if_neg hs]
  simp only[c]
  by_cases h2:s∈wordsR.drop (k+1)
  .rw[if_pos h2,if_pos (.inr h2)]
  rw[if_neg h2,if_neg (fun h=>h.elim hs h2)]
theorem qAy(a:100<N)(s:BA):BG N s=some (qG s):=by
 have h:=VY (N:=N) (s:=s) 13 0 N rfl (by omega)
 simp only[jZ] at h
 simp only[BG]
 rw[show(0:Int)=((0:Nat):Int) from rfl,h]
 simp only[qG,j0]
 by_cases h2:s∈wordsR
 .rw[if_pos h2,kC h2]
 rw[if_neg h2,jX h2]
theorem DG(p:Ps)(hi:p.1<ts.length)(f:ts.length<1000000)(e:100<N):mL N (gR ts pr p)=some (match nE ts p.1 with| .inl z=>(bR ts z p.1 pr p.2,⟨#[]⟩)| .inr a=>(gR ts pr (a.1,p.2),a.2.2.1)):=by
 have d:=lF (N:=N) (pr:=pr) p hi
 have b:=oE (N:=N) (ts:=ts) (pr:=pr) p (aJ ts p.1).2.2.2 9
 simp only[gR] at d b
 simp only[mL,gR,d,j0,qAy e,nE,mS,dA,jB,jI]
 by_cases k1:(aJ ts p.1).1=1
 .have k1':((aJ ts p.1).1 !=1)=false:=by simp[k1]
  simp only[k1',jB,jI,j0,if_pos k1,bC]
  rcases eN (qG (aJ ts p.1).2.1) with c|c
  .simp only[c,jJ,b,j0,dX]
  simp only[c,jB,jI,tW (show p.1<1000000 by omega)]
 have k1':((aJ ts p.1).1 !=1)=true:=by simp[k1]
 simp only[k1',jJ,j0,if_neg k1,bC,b,dX]
theorem LI(d:z.2≠0)(hi:i<ts.length):mL N (bR ts z i pr b)=some (bR ts z i pr b,⟨#[]⟩):=by
 have a:=qW (N:=N) (ts:=ts) (i:=i) (pr:=pr) (b:=b) (z:=z) hi
 have c:=rM (N:=N) (ts:=ts) (i:=i) (pr:=pr) (b:=b) d (aJ ts i).2.2.2 9
 have hz':(z.2 !=0)=true:=by simpa using d
 simp only[bR] at a c
 simp only[mL,bR,a,j0,hz',jJ,c]
theorem OT(p:Ps)(hi:p.1<ts.length)(d:ts.length<1000000):tH N (gR ts pr p)=some (match mS ts 2 p.1 with| .inl z=>(bR ts z p.1 pr p.2,0)| .inr a=>(gR ts pr (a.1,p.2),a.2.2.2.1)):=by
 have b:=lF (N:=N) (pr:=pr) p hi
 have c:=oE (N:=N) (ts:=ts) (pr:=pr) p (aJ ts p.1).2.2.2 9
 simp only[gR] at b c
 simp only[tH,gR,b,j0,mS,dA,jB,jI]
 by_cases k1:(aJ ts p.1).1=2
 .have k1':((aJ ts p.1).1 !=2)=false:=by simp[k1]
  simp only[k1',jB,jI,if_pos k1,tW (show p.1<1000000 by omega)]
 have k1':((aJ ts p.1).1 !=2)=true:=by simp[k1]
 simp only[k1',jJ,if_neg k1,c,j0,dX]
theorem qIm(d:z.2≠0)(hi:i<ts.length):tH N (bR ts z i pr b)=some (bR ts z i pr b,0):=by
 have a:=qW (N:=N) (ts:=ts) (i:=i) (pr:=pr) (b:=b) (z:=z) hi
 have c:=rM (N:=N) (ts:=ts) (i:=i) (pr:=pr) (b:=b) d (aJ ts i).2.2.2 9
 have hz':(z.2 !=0)=true:=by simpa using d
 simp only[bR] at a c
 simp only[tH,bR,a,j0,hz',jJ,c]
theorem YP(t:bQ)(x:Ex)(p:Ps)(c:p.2.length<=256):∃v,iH N (gR ts pr p) x t.2.2.2=some (match iQ t x p with| .inl z=>(bR ts z p.1 pr p.2,v)| .inr q=>(gR ts pr q.1,(q.2:Int))):=by
 refine⟨IntKind.wrap .i64 ((p.2.length:Int)-1),?_⟩
 have a:=oE (N:=N) (ts:=ts) (pr:=pr) p t.2.2.2 2
 simp only[gR] at a
 simp only[iH,gR,gQ,jJ,j0,iQ]
 by_cases k1:p.2.length=256
 .have k1':((p.2.length:Int)==256)=true:=by simp;omega
  simp only[k1',jJ,a,j0,bR]
  simp[k1,dX]
 have k1':((p.2.length:Int)==256)=false:=by simp;omega
 have b:IntKind.wrap .i64 (((p.2.length+1:Nat):Int)-1)=(p.2.length:Int):=by rw[bX (by omega) (by omega)];omega
 simp only[k1',jB,jI,j0,if_neg k1,gQ,jJ]
 rw[pP (by simp only[jD,jF];omega) (by omega)]
 simp only[j0,jC,jD,jF,kO,b]
theorem YJ(c:z.2≠0)(x:Ex)(a:Int):∃v,iH N (bR ts z i pr b) x a=some (bR ts z i pr b,v):=by
 refine⟨IntKind.wrap .i64 ((b.length:Int)-1),?_⟩
 have hz':(z.2==0)=false:=by simpa using c
 simp only[iH,bR,hz',jB,jI,j0]
end
section
variable {N:Nat} {ts:List bQ} {pr:List BA} {b:List Ex} {i:Nat} {z:bZ}
theorem QW(p:Ps)(hi:p.1<ts.length)(f:ts.length<1000000)(e:100<N)(pth:Bool):pN N (gR ts pr p) pth=some (match(if pth=true then pH ts p.1 else vH ts p.1) with| .inl z=>(bR ts z p.1 pr p.2,⟨#[]⟩)| .inr a=>(gR ts pr (a.1,p.2),a.2.2.1)):=by
 have d:=lF (N:=N) (pr:=pr) p hi
 have c:=oE (N:=N) (ts:=ts) (pr:=pr) p (aJ ts p.1).2.2.2 9
 simp only[gR] at d c
 simp only[pN,gR,d,j0,NX e,OB e,pH,vH,mS,dA,jB,jI]
 by_cases k1:(aJ ts p.1).1=3
 .have k1':((aJ ts p.1).1 !=3)=false:=by simp[k1]
  simp only[k1',jB,jI,j0,if_pos k1,bC]
  cases pth with
  |true=>
   simp only[jJ,gD,jB,jI]
   rcases eN (iN (aJ ts p.1).2.1.data.toList) with b|b
   .simp only[b,gD,jB,jI,j0,jJ,tW (show p.1<1000000 by omega)]
   simp only[b,kQ,jB,jI,j0,jJ,c,dX]
  |false=>
   simp only[jJ,kQ,jB,jI]
   rcases eN (lR (aJ ts p.1).2.1) with b|b
   .simp only[b,gD,jB,jI,j0,jJ,tW (show p.1<1000000 by omega)]
   simp only[b,kQ,jB,jI,j0,jJ,c,dX]
 have k1':((aJ ts p.1).1 !=3)=true:=by simp[k1]
 simp only[k1',jJ,j0,if_neg k1,bC,c,dX]
 cases pth<;>rfl
theorem QL(d:z.2≠0)(hi:i<ts.length)(pth:Bool):pN N (bR ts z i pr b) pth=some (bR ts z i pr b,⟨#[]⟩):=by
 have a:=qW (N:=N) (ts:=ts) (i:=i) (pr:=pr) (b:=b) (z:=z) hi
 have c:=rM (N:=N) (ts:=ts) (i:=i) (pr:=pr) (b:=b) d (aJ ts i).2.2.2 9
 have hz':(z.2 !=0)=true:=by simpa using d
 simp only[bR] at a c
 simp only[pN,bR,a,j0,hz',jJ,c]
theorem ZC{i:Nat}(h:i<2000000):IntKind.wrap .i64 ((i:Int)+1)=((i+1:Nat):Int):=by rw[bX (by omega) (by omega)];omega
theorem VX{s:BA}{l:List BA}(a:l.length<2000000):∀(d i M:Nat),i+d=l.length->d<M->
  aI (BM N l s) M (i:Int)=some (if s∈l.drop i then .inr true else .inl ())
 |d,i,0,_,h=>by omega
 |0,i,M+1,h,_=>by
  have:l.drop i=[]:=jW (by omega)
  simp only[aI,BM,this]
  rw[if_neg (by simp only[jA];omega)]
  rfl
 |d+1,i,M+1,h,c=>by
  have hi:i<l.length:=by omega
  have b:=VX (s:=s) a d (i+1) M (by omega) (by omega)
  simp only[aI,BM]
  rw[if_pos (by simp only[jA];omega),dM hi,kH hi]
  simp only[j0,iY,jA,jR]
  by_cases hs:l[i]=s
  .rw[if_pos hs,if_pos (.inl hs.symm)];rfl
  rw[if_neg hs]
  simp only[j0,ZC (show i<2000000 by omega),b]
  by_cases h2:s∈l.drop (i+1)
  .rw[if_pos h2,if_pos (.inr h2)]
  rw[if_neg h2,if_neg (fun h=>h.elim (fun e=>hs e.symm) h2)]
theorem IK{s:BA}{l:List BA}(b:l.length<2000000)(a:l.length<N):pO N l s=some (decide (s∈l)):=by
 have h:=VX (N:=N) (s:=s) b l.length 0 N (by omega) a
 simp only[jZ] at h
 simp only[pO]
 rw[show(0:Int)=((0:Nat):Int) from rfl,h]
 simp only[j0]
 by_cases h2:s∈l
 .rw[if_pos h2,kC h2]
 rw[if_neg h2,jX h2]
theorem andS(a b:Bool):(if a=true then some b else some false)=some (a&&b):=by cases a<;>rfl
theorem UK{s:BA}{k:Int}{f:Sr}(b:f.2.2.length<2000000):∀(d i M:Nat),i+d=f.2.2.length->d<M->
  aI (BF N f k s) M (i:Int)=some (if(f.2.2.drop i).any (fun d=>d.1==k&&decide (d.2.1=s))=true then .inr true else .inl ())
 |d,i,0,_,h=>by omega
 |0,i,M+1,h,_=>by
  have:f.2.2.drop i=[]:=jW (by omega)
  simp only[aI,BF,this]
  rw[if_neg (by simp only[jA];omega)]
  rfl
 |d+1,i,M+1,h,e=>by
  have hi:i<f.2.2.length:=by omega
  have c:=UK (s:=s) (k:=k) b d (i+1) M (by omega) (by omega)
  simp only[aI,BF]
  rw[if_pos (by simp only[jA];omega),dM hi,kH hi,fI]
  simp only[j0,iY,ZC (show i<2000000 by omega),andS]
  rcases eN (f.2.2[i].1==k&&decide (f.2.2[i].2.1=s)) with a|a
  .simp only[a,jJ,j0,Bool.true_or]
  simp only[a,jB,jI,j0,c,kX]
theorem qAg{s:BA}{k:Int}{f:Sr}(c:f.2.2.length<2000000)(b:f.2.2.length<N):uP N f k s=some (f.2.2.any fun d=>d.1==k&&decide (d.2.1=s)):=by
 have h:=UK (N:=N) (s:=s) (k:=k) c f.2.2.length 0 N (by omega) b
 simp only[jZ] at h
 simp only[uP]
 rw[show(0:Int)=((0:Nat):Int) from rfl,h]
 simp only[j0]
 rcases eN (f.2.2.any fun d=>d.1==k&&decide (d.2.1=s)) with a|a
 .rw[if_pos a,a]
 rw[if_neg (by rw[a];decide),a]
theorem op_3:mA ts 3 i=if bP ts 4 ⟨#[42]⟩ i=true then 3 else if bP ts 4 ⟨#[47]⟩ i=true then 4 else if bP ts 4 ⟨#[37]⟩ i=true then 5 else 0:=by
 unfold mA opsC
 simp only[List.find?,xA,tE]
 rcases eN (bP ts 4 ⟨#[42]⟩ i) with a|a<;>rcases eN (bP ts 4 ⟨#[47]⟩ i) with b|b<;>rcases eN (bP ts 4 ⟨#[37]⟩ i) with c|c<;>simp[a,b,c]
theorem op_2:mA ts 2 i=if bP ts 4 ⟨#[43]⟩ i=true then 1 else if bP ts 4 ⟨#[45]⟩ i=true then 2 else 0:=by
 unfold mA opsC
 simp only[List.find?,xA,tE]
 rcases eN (bP ts 4 ⟨#[43]⟩ i) with a|a<;>rcases eN (bP ts 4 ⟨#[45]⟩ i) with b|b<;>simp[a,b]
theorem op_1:mA ts 1 i=if bP ts 4 ⟨#[60]⟩ i=true then 6 else if bP ts 4 ⟨#[61,61]⟩ i=true then 7 else 0:=by
 unfold mA opsC
 simp only[List.find?,xA,tE]
 rcases eN (bP ts 4 ⟨#[60]⟩ i) with a|a<;>rcases eN (bP ts 4 ⟨#[61,61]⟩ i) with b|b<;>simp[a,b]
theorem DA{α:Type}{t:bQ}{e:Int}(a:e≠0)(h:(dX t e:bZ⊕α)= .inl z):z.2≠0:=by
 obtain rfl:=Sum.inl.inj h;exact a
theorem qB{s:BA}(h:dP ts s i= .inl z):z.2≠0:=by
 unfold dP at h;split at h
 .cases h
 exact DA (by decide) h
theorem HR{k:Int}(h:mS ts k i= .inl z):z.2≠0:=by
 unfold mS at h;split at h
 .cases h
 exact DA (by decide) h
theorem QH{α β:Type}{x:bZ⊕α}{f:α->bZ⊕β}(h:bC x f= .inl z):x= .inl z\/∃a,x= .inr a/\f a= .inl z:=by
 cases x with
 |inl y=>obtain rfl:=Sum.inl.inj h;exact .inl rfl
 |inr a=>exact .inr ⟨a,rfl,h⟩
theorem LK(h:nE ts i= .inl z):z.2≠0:=by
 rcases QH h with h|⟨a,_,h⟩
 .exact HR h
 split at h
 .exact DA (by decide) h
 cases h
theorem LD(h:pH ts i= .inl z):z.2≠0:=by
 rcases QH h with h|⟨a,_,h⟩
 .exact HR h
 split at h
 .cases h
 exact DA (by decide) h
theorem qKd(h:vH ts i= .inl z):z.2≠0:=by
 rcases QH h with h|⟨a,_,h⟩
 .exact HR h
 split at h
 .cases h
 exact DA (by decide) h
theorem QQ{t:bQ}{x:Ex}{p:Ps}(h:iQ t x p= .inl z):z.2≠0:=by
 unfold iQ at h;split at h
 .exact DA (by decide) h
 cases h
end
def sM(ts:List bQ)(z:bZ)(st:RT):Prop:=z.2≠0/\∃(i:Nat) (pr:List BA) (b:List Ex),i<ts.length/\st=bR ts z i pr b
def eY(ts:List bQ)(pr:List BA)(r:PM Nat)(o:RT×Int):Prop:=
 match r with
 | .inl z=>sM ts z o.1
 | .inr q=>o=(gR ts pr q.1,(q.2:Int))
section
variable {N:Nat} {ts:List bQ} {pr:List BA} {E S:Ps->PM Nat} {d:Int}
variable {r1 r2 r3 r4:RT->Int->Option (RT×Int)}
theorem rN{z:bZ}{i:Nat}{pr':List BA}{b:List Ex}{v:Int}(a:z.2≠0)(hi:i<ts.length):eY ts pr (.inl z) (bR ts z i pr' b,v):=⟨a,i,pr',b,hi,rfl⟩
theorem zK(t:bQ)(x:Ex)(p:Ps)(c:p.1<ts.length)(b:p.2.length<=256):∃o,iH N (gR ts pr p) x t.2.2.2=some o/\eY ts pr (iQ t x p) o:=by
 obtain⟨v,h⟩:=YP (N:=N) (ts:=ts) (pr:=pr) t x p b
 cases a:iQ t x p with
 |inl z=>rw[a] at h;exact⟨_,h,rN (QQ a) c⟩
 |inr q=>rw[a] at h;exact⟨_,h,rfl⟩
theorem CV{z:bZ}{i:Nat}{pr':List BA}{b:List Ex}(c:z.2≠0)(hi:i<ts.length)(x:Ex)(a:Int):∃o,iH N (bR ts z i pr' b) x a=some o/\eY ts pr (.inl z) o:=by
 obtain⟨v,h⟩:=YJ (N:=N) (ts:=ts) (pr:=pr') (b:=b) (i:=i) c x a
 exact⟨_,h,rN c hi⟩
theorem PB(t:bQ)(x:Ex)(p:Ps)(b:OkT ts)(d:ts.length<1000000)(a:p.1<ts.length)(c:p.2.length<=256):∃o,
  ((eM N (gR ts pr p) (⟨#[41]⟩:BA)).bind fun y=>iH N y x t.2.2.2)=some o/\eY ts pr (bC (dP ts eL p.1) fun i=>iQ t x (i,p.2)) o:=by
 have e:=rL (N:=N) (pr:=pr) p a d ⟨#[41]⟩
 simp only[e,j0,eL]
 cases h:dP ts ⟨#[41]⟩ p.1 with
 |inl z=>exact CV (qB h) a x _
 |inr j=>
  obtain⟨rfl,g,-⟩:=nK b a h
  exact zK t x (p.1+1,p.2) g c
theorem zB{z:bZ}{i:Nat}{pr':List BA}{b:List Ex}(c:z.2≠0)(hi:i<ts.length)(x:Ex)(a:Int):∃o,
  ((eM N (bR ts z i pr' b) (⟨#[41]⟩:BA)).bind fun y=>iH N y x a)=some o/\eY ts pr (.inl z) o:=by
 simp only[qT c hi,j0]
 exact CV c hi x a
variable (hEg:∀p:Ps,p.1<ts.length->p.2.length<=256->∃o,r4 (gR ts pr p) (IntKind.wrap .i64 (d+1))=some o/\eY ts pr (E p) o)
variable (hEb:∀(z:bZ) (i:Nat) (pr':List BA) (b:List Ex),z.2≠0->i<ts.length->∃v,r4 (bR ts z i pr' b) (IntKind.wrap .i64 (d+1))=some (bR ts z i pr' b,v))
def LP(ts:List bQ)(E:Ps->PM Nat)(n:Nat)(l:List Int)(p:Ps):PM (List Int):=
 if bP ts 4 pQ p.1 then sY ts E n l (p.1+1,p.2) else bC (dP ts eL p.1) fun i=> .inr ((i,p.2),l)
theorem KP(n:Nat)(l:List Int)(p:Ps):sY ts E (n+1) l p=bC (E p) fun q=>LP ts E n (l++[(q.2:Int)]) q.1:=rfl
def qAv(ts:List bQ)(pr:List BA)(r:PM (List Int))(o:List Int×RT):Prop:=
 match r with
 | .inl z=>sM ts z o.2
 | .inr q=>o=(q.2,gR ts pr q.1)
theorem OJ{z:bZ}{i:Nat}{pr':List BA}{b:List Ex}(a:z.2≠0)(M:Nat)(l:List Int):aI (uK N r4 d) (M+1) (l,bR ts z i pr' b)=some (l,bR ts z i pr' b):=by
 have hz':(z.2==0)=false:=by simpa using a
 simp only[aI,uK,bR,hz',jB,jI,j0]
include hEg hEb in
theorem VF(k:OkT ts)(s:ts.length<1000000)(u:mY ts E):∀(n M:Nat) (l:List Int) (p:Ps),l≠[]->p.1<ts.length->p.2.length<=256->l.length<=p.1->ts.length<p.1+n->ts.length+2<p.1+M->
  ∃o,aI (uK N r4 d) M (l,gR ts pr p)=some o/\qAv ts pr (LP ts E n l p) o
 |0,M,l,p,_,c,_,_,h,_=>by omega
 |n+1,0,l,p,_,c,_,_,_,h=>by omega
 |n+1,M+1,l,p,A,c,x,R,Y,V=>by
  have K:=oT (N:=N) (pr:=pr) p c s ⟨#[41]⟩
  have t:decide ((l.length:Int)>0)=true:=by
   have:=fU.2 A
   exact kC (by omega)
  have G:((gR ts pr p).2.2.2.1==0)=true:=rfl
  simp only[aI,uK,Prod.eta,G,jJ,K,j0]
  rcases eN (bP ts 4 ⟨#[41]⟩ p.1) with a|a
  .simp only[a,jJ,gD,jB,jI]
   refine⟨_,rfl,?_⟩
   have e:bP ts 4 pQ p.1=false:=by
    simp only[bP,jM,jA] at a
    simp[bP,a.2,pQ]
   have r:dP ts eL p.1= .inr (p.1+1):=by simp[dP,eL,a]
   simp only[LP,e,jB,jI,r,bC]
   rfl
  simp only[a,jB,jI,kQ,jJ,t,Prod.eta,rL p c s,j0]
  have y:bP ts 4 pQ p.1=bP ts 4 ⟨#[44]⟩ p.1:=rfl
  simp only[LP,y,dP]
  rcases eN (bP ts 4 ⟨#[44]⟩ p.1) with e|e
  .have g:=mN k c (by decide) e
   simp only[e,jJ]
   obtain⟨o,H,f⟩:=hEg (p.1+1,p.2) g x
   simp only[H,j0]
   cases hE:E (p.1+1,p.2) with
   |inl z=>
    rw[hE] at f
    obtain⟨D,i,pr',b,hi,B⟩:=f
    rw[pP (by simp only[jD,jF];omega) (by omega)]
    simp only[j0,B]
    cases M with
    |zero=>omega
    |succ M=>
     refine⟨_,OJ D M _,?_⟩
     rw[KP,hE]
     exact⟨D,i,pr',b,hi,rfl⟩
   |inr q=>
    rw[hE] at f
    obtain⟨⟨B,D,S,F⟩,U⟩:=u (p.1+1,p.2) q.1 q.2 g x hE
    simp only at B
    rw[pP (by simp only[jD,jF];omega) (by omega)]
    have hr':o=(gR ts pr q.1,(q.2:Int)):=f
    simp only[j0,hr']
    rw[KP,hE]
    exact VF k s u n M (l++[(q.2:Int)]) q.1 (by simp) D F (by simp only[jC,jD,jF];omega) (by omega) (by omega)
  simp only[e,jB,jI]
  have r:bP ts 4 eL p.1=false:=a
  simp only[r,jB,jI,dX,bC]
  obtain⟨v,f⟩:=hEb ((aJ ts p.1).2.2.2,9) p.1 pr p.2 (show(9:Int)≠0 by decide) c
  simp only[f,j0]
  rw[pP (by simp only[jD,jF];omega) (by omega)]
  simp only[j0]
  cases M with
  |zero=>omega
  |succ M=>exact⟨_,OJ (z:=((aJ ts p.1).2.2.2,9)) (show(9:Int)≠0 by decide) M _,show(9:Int)≠0 by decide,p.1,pr,p.2,c,rfl⟩
include hEg hEb in
theorem qOs(n:OkT ts)(k:ts.length<1000000)(A:1000002<N)(g:mY ts E)(p:Ps)(f:p.1<ts.length)(h:p.2.length<=256):
  ∃o,aI (uK N r4 d) N ([],gR ts pr p)=some o/\qAv ts pr (if bP ts 4 eL p.1 then .inr ((p.1+1,p.2),[]) else sY ts E (ts.length+1) [] p) o:=by
 obtain⟨M,rfl⟩:∃M,N=M+1:=⟨N-1,by omega⟩
 have u:=oT (N:=M+1) (pr:=pr) p f k ⟨#[41]⟩
 have s:((gR ts pr p).2.2.2.1==0)=true:=rfl
 have e:decide ((([]:List Int).length:Int)>0)=false:=rfl
 simp only[aI,uK,Prod.eta,s,jJ,u,j0,eL]
 rcases eN (bP ts 4 ⟨#[41]⟩ p.1) with c|c
 .simp only[c,jJ,gD,jB,jI]
  exact⟨_,rfl,rfl⟩
 simp only[c,jB,jI,kQ,jJ,e,Prod.eta,j0]
 obtain⟨o,t,a⟩:=hEg p f h
 simp only[t,j0]
 cases hE:E p with
 |inl z=>
  rw[hE] at a
  obtain⟨r,i,pr',b,hi,l⟩:=a
  rw[pP (by simp) (by omega)]
  simp only[j0,l]
  cases M with
  |zero=>omega
  |succ M=>
   refine⟨_,OJ r M _,?_⟩
   rw[KP,hE]
   exact⟨r,i,pr',b,hi,rfl⟩
 |inr q=>
  rw[hE] at a
  obtain⟨⟨v,l,x,r⟩,y⟩:=g p q.1 q.2 f h hE
  rw[pP (by simp) (by omega)]
  have hr':o=(gR ts pr q.1,(q.2:Int)):=a
  simp only[j0,hr']
  rw[KP,hE]
  exact VF hEg hEb n k g ts.length M ([]++[(q.2:Int)]) q.1 (by simp) l r (by simp only[jC,jD,jF];omega) (by omega) (by omega)
end
section
variable {N:Nat} {ts:List bQ} {pr:List BA} {E S:Ps->PM Nat} {d:Int}
variable {r1 r2 r3 r4:RT->Int->Option (RT×Int)}
theorem XF{y1:RT×bQ}{y31:RT×BA}{p:Ps}(a:pr.length<1000):∀(k i M:Nat),i+k=pr.length->k<M->
  aI (uL N y1 y31 (gR ts pr p,false)) M (i:Int)=(match(pr.drop i).findIdx? (fun x=>decide (x=y31.2)) with
   |some j=>(iH N (gR ts pr p) (2,((i+j:Nat):Int),0,⟨#[]⟩,[]) y1.2.2.2.2).bind fun y=>some (.inr y)
   |none=>some (.inl ()))
 |k,i,0,_,h=>by omega
 |0,i,M+1,h,_=>by
  have:pr.drop i=[]:=jW (by omega)
  have c:decide ((i:Int)<((gR ts pr p).2.2.2.2.1.length:Int))=false:=jX (by simp only[gR];omega)
  simp only[aI,uL,this,List.findIdx?_nil,c,jB,jI,j0]
 |k+1,i,M+1,h,e=>by
  have hi:i<pr.length:=by omega
  have d:=XF (y1:=y1) (y31:=y31) (p:=p) a k (i+1) M (by omega) (by omega)
  have c:decide ((i:Int)<((gR ts pr p).2.2.2.2.1.length:Int))=true:=kC (by simp only[gR];omega)
  have x:idx (gR ts pr p).2.2.2.2.1 (i:Int)=some pr[i]:=dM hi
  have b:((gR ts pr p).2.2.2.1==0)=true:=rfl
  rw[kH hi,List.findIdx?_cons]
  simp only[aI,uL,b,Prod.eta,c,x,jJ,j0,iY,jA]
  by_cases hs:pr[i]=y31.2
  .simp only[if_pos hs,jJ,j0,fA]
   cases iH N (gR ts pr p) (2,(i:Int),0,⟨#[]⟩,[]) y1.2.2.2.2<;>rfl
  simp only[if_neg hs,j0,jB,jI,tW (show i<1000000 by omega),d]
  cases(pr.drop (i+1)).findIdx? (fun x=>decide (x=y31.2)) with
  |none=>rfl
  |some j=>simp only[gO];rw[show i+1+j=i+(j+1) by omega]
theorem PV{y1:RT×bQ}{y31:RT×BA}{z:bZ}{j:Nat}{pr':List BA}{b:List Ex}(d:z.2≠0)(a:pr'.length<1000):∀(k i M:Nat),i+k=pr'.length->k<M->
  aI (uL N y1 y31 (bR ts z j pr' b,false)) M (i:Int)=some (.inl ())
 |k,i,0,_,h=>by omega
 |0,i,M+1,h,_=>by
  have c:decide ((i:Int)<((bR ts z j pr' b).2.2.2.2.1.length:Int))=false:=jX (by simp only[bR];omega)
  simp only[aI,uL,c,jB,jI,j0]
 |k+1,i,M+1,h,g=>by
  have hi:i<pr'.length:=by omega
  have f:=PV (y1:=y1) (y31:=y31) (j:=j) (b:=b) d a k (i+1) M (by omega) (by omega)
  have c:decide ((i:Int)<((bR ts z j pr' b).2.2.2.2.1.length:Int))=true:=kC (by simp only[bR];omega)
  have x:idx (bR ts z j pr' b).2.2.2.2.1 (i:Int)=some pr'[i]:=dM hi
  have e:((bR ts z j pr' b).2.2.2.1==0)=false:=by simpa[bR] using d
  simp only[aI,uL,e,Prod.eta,c,x,jJ,j0,iY,jA]
  have:((if pr'[i]=y31.2 then some false else some false):Option Bool)=some false:=by split<;>rfl
  simp only[this,j0,jB,jI,tW (show i<1000000 by omega),f]
variable (hEg:∀p:Ps,p.1<ts.length->p.2.length<=256->∃o,r4 (gR ts pr p) (IntKind.wrap .i64 (d+1))=some o/\eY ts pr (E p) o)
variable (hEb:∀(z:bZ) (i:Nat) (pr':List BA) (b:List Ex),z.2≠0->i<ts.length->∃v,r4 (bR ts z i pr' b) (IntKind.wrap .i64 (d+1))=some (bR ts z i pr' b,v))
include hEg hEb in
theorem qLg(e:OkT ts)(k:ts.length<1000000)(H:100<N)(G:mY ts E)(t:bQ)(p:Ps)(f:p.1<ts.length)(A:p.2.length<=256):∃o,
  ((eM N (gR ts pr p) (⟨#[40]⟩:BA)).bind fun D=>(pN N D true).bind fun r=>(eM N r.1 (⟨#[44]⟩:BA)).bind fun F=>(r4 F (IntKind.wrap .i64 (d+1))).bind fun c=>(eM N c.1 (⟨#[41]⟩:BA)).bind fun g=>iH N g (6,0,0,r.2,[c.2]) t.2.2.2)=some o/\
  eY ts pr (bC (dP ts lH p.1) fun i=>bC (bC (pH ts i) fun a=>bC (dP ts pQ a.1) fun i=>bC (E (i,p.2)) fun q=>(.inr (q.1,((6,0,0,a.2.2.1,[(q.2:Int)]):Ex)):bZ⊕(Ps×Ex))) fun q=>bC (dP ts eL q.1.1) fun i=>iQ t q.2 (i,q.1.2)) o:=by
 have bad:∀{z:bZ} {i:Nat} {pr':List BA} {b:List Ex} (x:BA),z.2≠0->i<ts.length->∃o,((r4 (bR ts z i pr' b) (IntKind.wrap .i64 (d+1))).bind fun c=>(eM N c.1 (⟨#[41]⟩:BA)).bind fun g=>iH N g (6,0,0,x,[c.2]) t.2.2.2)=some o/\eY ts pr (.inl z) o:=by
  intro z i pr' b x n hi
  obtain⟨v,h⟩:=hEb z i pr' b n hi
  simp only[h,j0]
  exact zB n hi _ _
 simp only[rL p f k,j0,lH]
 cases h1:dP ts ⟨#[40]⟩ p.1 with
 |inl z=>
  simp only[QL (qB h1) f,qT (qB h1) f,j0]
  exact bad _ (qB h1) f
 |inr i=>
  obtain⟨rfl,h,-⟩:=nK e f h1
  simp only[QW (p.1+1,p.2) h k H,j0,jJ,bC]
  cases h2:pH ts (p.1+1) with
  |inl z=>
   simp only[qT (LD h2) h,j0]
   exact bad _ (LD h2) h
  |inr a=>
   obtain⟨rfl,s,-⟩:=zI e h h2
   simp only[rL (p.1+1+1,p.2) s k,j0,pQ]
   cases y:dP ts ⟨#[44]⟩ (p.1+1+1) with
   |inl z=>exact bad _ (qB y) s
   |inr j=>
    obtain⟨rfl,u,-⟩:=nK e s y
    obtain⟨o,K,l⟩:=hEg (p.1+1+1+1,p.2) u A
    simp only[K,j0]
    cases h4:E (p.1+1+1+1,p.2) with
    |inl z=>
     rw[h4] at l
     obtain⟨n,i,pr',b,hi,B⟩:=l
     simp only[B]
     exact zB n hi _ _
    |inr q=>
     rw[h4] at l
     obtain⟨⟨M,n,R,B⟩,S⟩:=G (p.1+1+1+1,p.2) q.1 q.2 u A h4
     have hr':o=(gR ts pr q.1,(q.2:Int)):=l
     simp only[hr']
     exact PB t _ q.1 e k n B
theorem RE(c:OkT ts)(h:ts.length<1000000)(r:100<N)(k:Int)(pth:Bool)(t:bQ)(p:Ps)(f:p.1<ts.length)(s:p.2.length<=256):∃o,
  ((eM N (gR ts pr p) (⟨#[40]⟩:BA)).bind fun l=>(pN N l pth).bind fun g=>(eM N g.1 (⟨#[41]⟩:BA)).bind fun n=>iH N n (k,0,0,g.2,[]) t.2.2.2)=some o/\
  eY ts pr (bC (dP ts lH p.1) fun i=>bC (bC (if pth=true then pH ts i else vH ts i) fun a=>(.inr ((a.1,p.2),((k,0,0,a.2.2.1,[]):Ex)):bZ⊕(Ps×Ex))) fun q=>bC (dP ts eL q.1.1) fun i=>iQ t q.2 (i,q.1.2)) o:=by
 simp only[rL p f h,j0,lH]
 cases h1:dP ts ⟨#[40]⟩ p.1 with
 |inl z=>
  simp only[QL (qB h1) f,j0]
  exact zB (qB h1) f _ _
 |inr i=>
  obtain⟨rfl,d,-⟩:=nK c f h1
  simp only[QW (p.1+1,p.2) d h r,j0,bC]
  cases h2:(if pth=true then pH ts (p.1+1) else vH ts (p.1+1)) with
  |inl z=>
   have b:z.2≠0:=by
    split at h2
    .exact LD h2
    exact qKd h2
   exact zB b d _ _
  |inr a=>
   have b:a=(p.1+1+1,aJ ts (p.1+1))/\p.1+1+1<ts.length:=by
    split at h2
    .obtain⟨e,b,-⟩:=zI c d h2;exact⟨e,b⟩
    obtain⟨e,b,-⟩:=VJ c d h2;exact⟨e,b⟩
   obtain⟨rfl,b⟩:=b
   exact PB t _ (p.1+1+1,p.2) c h b s
theorem qMq(c:OkT ts)(h:ts.length<1000000)(t:bQ)(p:Ps)(d:p.1<ts.length)(u:p.2.length<=256):∃o,
  ((eM N (gR ts pr p) (⟨#[40]⟩:BA)).bind fun n=>(eR N n).bind fun g=>(tH N g.1).bind fun b=>(if(decide (b.2>=64))=true then((eW N b.1 g.2.2.2.2 9).bind fun r=>some r) else(some b.1):Option RT).bind fun v=>(eM N v (⟨#[41]⟩:BA)).bind fun s=>iH N s (10,b.2,0,⟨#[]⟩,[]) t.2.2.2)=some o/\
  eY ts pr (bC (dP ts lH p.1) fun i=>bC (bC (mS ts 2 i) fun a=>if a.2.2.2.1>=64 then dX a.2 9 else(.inr ((a.1,p.2),((10,a.2.2.2.1,0,⟨#[]⟩,[]):Ex)):bZ⊕(Ps×Ex))) fun q=>bC (dP ts eL q.1.1) fun i=>iQ t q.2 (i,q.1.2)) o:=by
 have f:¬decide ((0:Int)>=64)=true:=by decide
 simp only[rL p d h,j0,lH]
 cases h1:dP ts ⟨#[40]⟩ p.1 with
 |inl z=>
  simp only[qW d,qIm (qB h1) d,j0,if_neg f]
  exact zB (qB h1) d _ _
 |inr i=>
  obtain⟨rfl,e,-⟩:=nK c d h1
  simp only[lF (p.1+1,p.2) e,OT (p.1+1,p.2) e h,j0,bC]
  cases h2:mS ts 2 (p.1+1) with
  |inl z=>
   simp only[if_neg f,j0]
   exact zB (HR h2) e _ _
  |inr a=>
   obtain⟨rfl,l,-⟩:=zJ c (by decide) e h2
   by_cases k:(aJ ts (p.1+1)).2.2.1>=64
   .simp only[if_pos k,jA,jJ,oE,j0]
    exact zB (show(9:Int)≠0 by decide) l _ _
   simp only[if_neg k,jA,j0]
   exact PB t _ (p.1+1+1,p.2) c h l u
end
section
variable {N:Nat} {ts:List bQ} {pr:List BA} {E S:Ps->PM Nat} {d:Int}
variable {r1 r2 r3 r4:RT->Int->Option (RT×Int)}
theorem XX{s:BA}{i:Nat}(h:(aJ ts i).1=1):bP ts 1 s i=decide ((aJ ts i).2.1=s):=by simp[bP,h]
theorem qAb{k:Int}{s:BA}{i:Nat}(h:(aJ ts i).1≠k):bP ts k s i=false:=by simp[bP,h]
theorem pM{α:Type}(x:Option α):(x.bind fun y=>some y)=x:=by cases x<;>rfl
theorem qIj{z:bZ}{i:Nat}{pr':List BA}{b:List Ex}(c:z.2≠0)(hi:i<ts.length):xK N r1 r2 r3 r4 (bR ts z i pr' b) d=some (bR ts z i pr' b,0):=by
 have a:((bR ts z i pr' b).2.2.2.1 !=0)=true:=by simpa[bR] using c
 simp only[xK,Prod.eta,qW hi,j0,a,jJ]
variable (hEg:∀p:Ps,p.1<ts.length->p.2.length<=256->∃o,r4 (gR ts pr p) (IntKind.wrap .i64 (d+1))=some o/\eY ts pr (E p) o)
variable (hEb:∀(z:bZ) (i:Nat) (pr':List BA) (b:List Ex),z.2≠0->i<ts.length->∃v,r4 (bR ts z i pr' b) (IntKind.wrap .i64 (d+1))=some (bR ts z i pr' b,v))
include hEg hEb in
theorem qKt(e:OkT ts)(f:ts.length<1000000)(H:pr.length<1000)(hN:1000002<N)(M:mY ts E)(p:Ps)(l:p.1<ts.length)(t:p.2.length<=256):
  ∃o,xK N r1 r2 r3 r4 (gR ts pr p) d=some o/\eY ts pr (nL ts pr E p) o:=by
 have Y:((gR ts pr p).2.2.2.1 !=0)=false:=rfl
 simp only[xK,Prod.eta,lF p l,j0,Y,jB,jI]
 unfold nL
 dsimp only
 by_cases k1:(aJ ts p.1).1=2
 .have k1':((aJ ts p.1).1==2)=true:=by simpa using k1
  have g:=e.next l (show(aJ ts p.1).1≠5 by rw[k1];decide)
  rw[if_pos k1]
  simp only[k1',jJ,OT p l f,mS,if_pos k1,j0]
  obtain⟨o,k,c⟩:=zK (N:=N) (pr:=pr) (aJ ts p.1) (1,(aJ ts p.1).2.2.1,0,⟨#[]⟩,[]) (p.1+1,p.2) g t
  simp only[k,j0]
  exact⟨_,rfl,c⟩
 have k1':((aJ ts p.1).1==2)=false:=by simpa using k1
 rw[if_neg k1]
 simp only[k1',jB,jI,oT p l f,j0]
 rcases eN (bP ts 4 RG p.1) with B|B
 .have c1':bP ts 4 ⟨#[45]⟩ p.1=true:=B
  have g:=mN e l (by decide) B
  simp only[B,c1',jJ,OT (p.1+1,p.2) g f,j0]
  cases h:mS ts 2 (p.1+1) with
  |inl z=>
   obtain⟨o,k,c⟩:=CV (N:=N) (pr:=pr) (pr':=pr) (b:=p.2) (HR h) g (1,IntKind.wrap .i64 (0-0),0,⟨#[]⟩,[]) (aJ ts p.1).2.2.2
   simp only[k,j0]
   exact⟨_,rfl,c⟩
  |inr a=>
   obtain⟨rfl,F,-⟩:=zJ e (by decide) g h
   obtain⟨o,k,c⟩:=zK (N:=N) (pr:=pr) (aJ ts p.1) (1,IntKind.wrap .i64 (0-(aJ ts (p.1+1)).2.2.1),0,⟨#[]⟩,[]) (p.1+1+1,p.2) F t
   simp only[k,j0,bC]
   exact⟨_,rfl,c⟩
 have c1':bP ts 4 ⟨#[45]⟩ p.1=false:=B
 simp only[B,c1',jB,jI,oT p l f,j0]
 rcases eN (bP ts 4 lH p.1) with D|D
 .have c2':bP ts 4 ⟨#[40]⟩ p.1=true:=D
  have g:=mN e l (by decide) D
  obtain⟨o,k,c⟩:=hEg (p.1+1,p.2) g t
  simp only[D,c2',jJ,k,j0]
  cases h:E (p.1+1,p.2) with
  |inl z=>
   rw[h] at c
   obtain⟨r,i,pr',b,hi,G⟩:=c
   simp only[G,qT r hi,j0,bC]
   exact⟨_,rfl,rN r hi⟩
  |inr q=>
   rw[h] at c
   obtain⟨⟨U,K,V,S⟩,v⟩:=M (p.1+1,p.2) q.1 q.2 g t h
   have hr':o=(gR ts pr q.1,(q.2:Int)):=c
   simp only[hr',rL q.1 K f,j0,bC,eL]
   cases u:dP ts ⟨#[41]⟩ q.1.1 with
   |inl z=>exact⟨_,rfl,rN (qB u) K⟩
   |inr j=>exact⟨_,rfl,rfl⟩
 have c2':bP ts 4 ⟨#[40]⟩ p.1=false:=D
 simp only[D,c2',jB,jI,qC p l f,j0]
 by_cases k2:(aJ ts p.1).1=1
 rotate_left
 .-- no name
  rw[if_pos k2]
  have n:∀s,bP ts 1 s p.1=false:=fun s=>qAb k2
  have v:nE ts p.1= .inl ((aJ ts p.1).2.2.2,9):=by simp[nE,mS,k2,bC,dX]
  simp only[n,jB,jI,qC p l f,j0,DG p l f (by omega:100<N),v]
  have r:(((aJ ts p.1).2.2.2,(9:Int)):bZ).2≠0:=show(9:Int)≠0 by decide
  have u:=PV (N:=N) (ts:=ts) (y1:=(gR ts pr p,aJ ts p.1)) (y31:=(bR ts ((aJ ts p.1).2.2.2,9) p.1 pr p.2,(⟨#[]⟩:BA))) (j:=p.1) (pr':=pr) (b:=p.2) r H pr.length 0 N (by omega) (by omega)
  rw[show((0:Nat):Int)=0 from rfl] at u
  simp only[LH r,j0,kQ,jJ,u,rM r]
  exact⟨_,rfl,rN r l⟩
 rw[if_neg (show ¬(aJ ts p.1).1≠1 by simpa using k2)]
 have g:=e.next l (show(aJ ts p.1).1≠5 by rw[k2];decide)
 have n:∀s,bP ts 1 s p.1=decide ((aJ ts p.1).2.1=s):=fun s=>XX k2
 simp only[n,qC p l f,j0]
 by_cases w1:(aJ ts p.1).2.1=rA
 .rw[if_pos (show(aJ ts p.1).2.1∈[rA,qY,rC,rB,rQ] by rw[w1];simp)]
  have w1':decide ((aJ ts p.1).2.1=(⟨#[114,101,97,100]⟩:BA))=true:=kC w1
  simp only[w1',jJ]
  obtain⟨o,k,c⟩:=qLg (N:=N) hEg hEb e f (by omega) M (aJ ts p.1) (p.1+1,p.2) g t
  refine⟨o,Eq.trans ?_ k,?_⟩
  .simp only[pM]
  simp only[rK,if_pos w1]
  exact c
 have w1':decide ((aJ ts p.1).2.1=(⟨#[114,101,97,100]⟩:BA))=false:=jX w1
 simp only[w1',jB,jI,qC p l f,j0,n]
 by_cases w2:(aJ ts p.1).2.1=qY
 .rw[if_pos (show(aJ ts p.1).2.1∈[rA,qY,rC,rB,rQ] by rw[w2];simp)]
  have w2':decide ((aJ ts p.1).2.1=(⟨#[115,105,122,101]⟩:BA))=true:=kC w2
  have wx:((aJ ts p.1).2.1.toList==(⟨#[104,97,115]⟩:BA).toList)=false:=by rw[iY,w2];decide
  have wy:((aJ ts p.1).2.1.toList==(⟨#[101,110,118]⟩:BA).toList)=false:=by rw[iY,w2];decide
  simp only[w2',jJ,j0,wx,wy,jB,jI]
  obtain⟨o,k,c⟩:=RE (N:=N) (pr:=pr) e f (by omega) 7 true (aJ ts p.1) (p.1+1,p.2) g t
  refine⟨o,Eq.trans ?_ k,?_⟩
  .simp only[pM];rfl
  simp only[rK,if_neg w1,if_pos w2]
  exact c
 have w2':decide ((aJ ts p.1).2.1=(⟨#[115,105,122,101]⟩:BA))=false:=jX w2
 simp only[w2',jB,jI,qC p l f,j0,n]
 by_cases w3:(aJ ts p.1).2.1=rC
 .rw[if_pos (show(aJ ts p.1).2.1∈[rA,qY,rC,rB,rQ] by rw[w3];simp)]
  have w3':decide ((aJ ts p.1).2.1=(⟨#[104,97,115]⟩:BA))=true:=kC w3
  have wx:((aJ ts p.1).2.1.toList==(⟨#[104,97,115]⟩:BA).toList)=true:=by rw[iY,w3']
  simp only[w3',jJ,j0,wx]
  obtain⟨o,k,c⟩:=RE (N:=N) (pr:=pr) e f (by omega) 8 true (aJ ts p.1) (p.1+1,p.2) g t
  refine⟨o,Eq.trans ?_ k,?_⟩
  .simp only[pM];rfl
  simp only[rK,if_neg w1,if_neg w2,if_pos w3]
  exact c
 have w3':decide ((aJ ts p.1).2.1=(⟨#[104,97,115]⟩:BA))=false:=jX w3
 simp only[w3',jB,jI,qC p l f,j0,n]
 by_cases w4:(aJ ts p.1).2.1=rB
 .rw[if_pos (show(aJ ts p.1).2.1∈[rA,qY,rC,rB,rQ] by rw[w4];simp)]
  have w4':decide ((aJ ts p.1).2.1=(⟨#[101,110,118]⟩:BA))=true:=kC w4
  have wx:((aJ ts p.1).2.1.toList==(⟨#[104,97,115]⟩:BA).toList)=false:=by rw[iY,w4];decide
  have wy:((aJ ts p.1).2.1.toList==(⟨#[101,110,118]⟩:BA).toList)=true:=by rw[iY,w4']
  simp only[w4',jJ,j0,wx,wy,jB,jI]
  obtain⟨o,k,c⟩:=RE (N:=N) (pr:=pr) e f (by omega) 9 false (aJ ts p.1) (p.1+1,p.2) g t
  refine⟨o,Eq.trans ?_ k,?_⟩
  .simp only[pM];rfl
  simp only[rK,if_neg w1,if_neg w2,if_neg w3,if_pos w4]
  exact c
 have w4':decide ((aJ ts p.1).2.1=(⟨#[101,110,118]⟩:BA))=false:=jX w4
 simp only[w4',jB,jI,qC p l f,j0,n]
 by_cases w5:(aJ ts p.1).2.1=rQ
 .rw[if_pos (show(aJ ts p.1).2.1∈[rA,qY,rC,rB,rQ] by rw[w5];simp)]
  have w5':decide ((aJ ts p.1).2.1=(⟨#[102,108,105,112]⟩:BA))=true:=kC w5
  simp only[w5',jJ]
  obtain⟨o,k,c⟩:=qMq (N:=N) (pr:=pr) e f (aJ ts p.1) (p.1+1,p.2) g t
  refine⟨o,Eq.trans ?_ k,?_⟩
  .simp only[pM]
  simp only[rK,if_neg w1,if_neg w2,if_neg w3,if_neg w4]
  exact c
 have w5':decide ((aJ ts p.1).2.1=(⟨#[102,108,105,112]⟩:BA))=false:=jX w5
 rw[if_neg (show ¬(aJ ts p.1).2.1∈[rA,qY,rC,rB,rQ] by simp[w1,w2,w3,w4,w5])]
 simp only[w5',jB,jI,DG p l f (by omega:100<N),j0,nE,mS,if_pos k2,bC]
 rcases eN (qG (aJ ts p.1).2.1) with R|R
 .simp only[R,jJ,dX]
  have r:(((aJ ts p.1).2.2.2,(9:Int)):bZ).2≠0:=show(9:Int)≠0 by decide
  have u:=PV (N:=N) (ts:=ts) (y1:=(gR ts pr p,aJ ts p.1)) (y31:=(bR ts ((aJ ts p.1).2.2.2,9) p.1 pr p.2,(⟨#[]⟩:BA))) (j:=p.1) (pr':=pr) (b:=p.2) r H pr.length 0 N (by omega) (by omega)
  rw[show((0:Nat):Int)=0 from rfl] at u
  simp only[LH r,j0,kQ,jJ,u,rM r]
  exact⟨_,rfl,rN r l⟩
 simp only[R,jB,jI,oT (p.1+1,p.2) g f,j0]
 rcases eN (bP ts 4 lH (p.1+1)) with A|A
 .have c4':bP ts 4 ⟨#[40]⟩ (p.1+1)=true:=A
  have F:=mN e g (by decide) A
  simp only[A,c4',jJ,gD,jB,jI]
  have Z:dP ts lH (p.1+1)= .inr (p.1+1+1):=by simp[dP,A]
  simp only[yZ,Z,bC]
  obtain⟨o,k,c⟩:=qOs (N:=N) hEg hEb e f (by omega) M (p.1+1+1,p.2) F t
  simp only[k,j0]
  cases ha:(if bP ts 4 eL (p.1+1+1)=true then .inr ((p.1+1+1+1,p.2),[]) else sY ts E (ts.length+1) [] (p.1+1+1,p.2):PM (List Int)) with
  |inl z=>
   rw[ha] at c
   obtain⟨r,i,pr',b,hi,G⟩:=c
   simp only[G]
   obtain⟨o2,v,y⟩:=CV (N:=N) (pr:=pr) (pr':=pr') (b:=b) r hi (3,0,0,(aJ ts p.1).2.1,o.1) (aJ ts p.1).2.2.2
   simp only[v,j0]
   exact⟨_,rfl,y⟩
  |inr q=>
   rw[ha] at c
   have hr':o=(q.2,gR ts pr q.1):=c
   have r:q.1.1<ts.length/\q.1.2.length<=256:=by
    split at ha
    .rename_i hc
     obtain rfl:=Sum.inr.inj ha
     exact⟨mN e F (by decide) hc,t⟩
    obtain⟨U,K,V,S⟩:=OH e M _ _ (p.1+1+1,p.2) q.1 q.2 F t ha
    exact⟨K,S⟩
   simp only[hr']
   obtain⟨o2,v,y⟩:=zK (N:=N) (pr:=pr) (aJ ts p.1) (3,0,0,(aJ ts p.1).2.1,q.2) q.1 r.1 r.2
   simp only[v,j0]
   exact⟨_,rfl,y⟩
 have c4':bP ts 4 ⟨#[40]⟩ (p.1+1)=false:=A
 simp only[A,c4',jB,jI,kQ,jJ]
 have u:=XF (N:=N) (ts:=ts) (pr:=pr) (y1:=(gR ts pr p,aJ ts p.1)) (y31:=(gR ts pr (p.1+1,p.2),(aJ ts p.1).2.1)) (p:=(p.1+1,p.2)) H pr.length 0 N (by omega) (by omega)
 rw[show((0:Nat):Int)=0 from rfl] at u
 simp only[u,jZ,kO]
 cases hi:pr.findIdx? (fun x=>decide (x=(aJ ts p.1).2.1)) with
 |none=>
  simp only[j0,oE]
  exact⟨_,rfl,rN (show(9:Int)≠0 by decide) g⟩
 |some j=>
  obtain⟨o2,v,y⟩:=zK (N:=N) (pr:=pr) (aJ ts p.1) (2,(j:Int),0,⟨#[]⟩,[]) (p.1+1,p.2) g t
  simp only[v,j0]
  exact⟨_,rfl,y⟩
end
section
variable {N:Nat} {ts:List bQ} {pr:List BA} {E S:Ps->PM Nat} {d:Int}
variable {r r1 r2 r3 r4:RT->Int->Option (RT×Int)}
theorem YV{L i:Nat}(h:mA ts L i≠0):(aJ ts i).1=4:=by
 apply Decidable.byContradiction
 intro b
 apply h
 unfold mA
 have:opsC.find? (xA ts L i)=none:=by
  rw[List.find?_eq_none]
  intro o _ a
  simp only[xA,jM] at a
  exact b (PW a.1)
 rw[this]
theorem qAr{f:Int×RT->Option ((Int×RT)⊕(Int×RT))}{L:Nat}(A:OkT ts)(H:mY ts S)
  (t:∀p:Ps,p.1<ts.length->p.2.length<=256->∃o,r (gR ts pr p) d=some o/\eY ts pr (S p) o)
  (a0:∀(z:bZ) (i:Nat) (pr':List BA) (b:List Ex),z.2≠0->i<ts.length->∃v,r (bR ts z i pr' b) d=some (bR ts z i pr' b,v))
  (y:∀(z:bZ) (i:Nat) (pr':List BA) (b:List Ex) (v:Int),z.2≠0->f (v,bR ts z i pr' b)=some (.inr (v,bR ts z i pr' b)))
  {n M x:Nat} {p:Ps} (R:p.1<ts.length) (u:p.2.length<=256) (hM:0<M) (G:L≠1) (e:mA ts L p.1≠0)
  (U:∀(x:Nat) (q:Ps),q.1<ts.length->p.1<q.1->q.2.length<=256->x<q.2.length->∃o,aI f M ((x:Int),gR ts pr q)=some o/\eY ts pr (mI ts L S n x q) (o.2,o.1)):
  ∃o,((r (gR ts pr (p.1+1,p.2)) d).bind fun B=>(iH N B.1 (4,0,mA ts L p.1,⟨#[]⟩,[(x:Int),B.2]) (aJ ts p.1).2.2.2).bind fun D=>aI f M (D.2,D.1))=some o/\eY ts pr (mI ts L S (n+1) x p) (o.2,o.1):=by
 have g:=A.next R (show(aJ ts p.1).1≠5 by rw[YV e];decide)
 obtain⟨o,K,c⟩:=t (p.1+1,p.2) g u
 obtain⟨M',rfl⟩:∃M',M=M'+1:=⟨M-1,by omega⟩
 have bad:∀(z:bZ) (i:Nat) (pr':List BA) (b:List Ex) (v:Int),z.2≠0->aI f (M'+1) (v,bR ts z i pr' b)=some (v,bR ts z i pr' b):=by
  intro z i pr' b v a
  simp only[aI,y z i pr' b v a,j0]
 simp only[K,j0,mI]
 rw[if_neg e]
 cases h:S (p.1+1,p.2) with
 |inl z=>
  rw[h] at c
  obtain⟨a,i,pr',b,hi,l⟩:=c
  simp only[l,bC]
  obtain⟨v,k⟩:=YJ (N:=N) (ts:=ts) (pr:=pr') (b:=b) (i:=i) a (4,0,mA ts L p.1,⟨#[]⟩,[(x:Int),o.2]) (aJ ts p.1).2.2.2
  simp only[k,j0,bad _ _ _ _ _ a]
  exact⟨_,rfl,rN a hi⟩
 |inr q=>
  rw[h] at c
  obtain⟨⟨E,a,F,l⟩,f5⟩:=H (p.1+1,p.2) q.1 q.2 g u h
  have hr':o=(gR ts pr q.1,(q.2:Int)):=c
  simp only[hr',bC]
  obtain⟨v,k⟩:=YP (N:=N) (ts:=ts) (pr:=pr) (aJ ts p.1) (4,0,mA ts L p.1,⟨#[]⟩,[(x:Int),(q.2:Int)]) q.1 l
  simp only[k,j0]
  cases hn:iQ (aJ ts p.1) (4,0,mA ts L p.1,⟨#[]⟩,[(x:Int),(q.2:Int)]) q.1 with
  |inl z=>
   simp only[bad _ _ _ _ _ (QQ hn)]
   exact⟨_,rfl,rN (QQ hn) a⟩
  |inr s=>
   obtain⟨⟨V,Y,k3,Z⟩,k5⟩:=wR (ts:=ts) (p:=p) (r:=q.1) (by simp only at E;omega) a F l hn
   simp only[if_neg G]
   exact U s.2 s.1 Y V Z k5
theorem qAp{L n x:Nat}{p:Ps}(a:mA ts L p.1=0):eY ts pr (mI ts L S (n+1) x p) (gR ts pr p,(x:Int)):=by
 simp only[mI]
 rw[if_pos a]
 rfl
theorem PJ(z:bZ)(i:Nat)(pr':List BA)(b:List Ex)(v:Int)(c:z.2≠0):sR N r d (v,bR ts z i pr' b)=some (.inr (v,bR ts z i pr' b)):=by
 have a:((bR ts z i pr' b).2.2.2.1==0)=false:=by simpa[bR] using c
 simp only[sR,a,jB,jI,Prod.eta]
theorem QV(z:bZ)(i:Nat)(pr':List BA)(b:List Ex)(v:Int)(c:z.2≠0):tJ N r d (v,bR ts z i pr' b)=some (.inr (v,bR ts z i pr' b)):=by
 have a:((bR ts z i pr' b).2.2.2.1==0)=false:=by simpa[bR] using c
 simp only[tJ,a,jB,jI,Prod.eta]
theorem VE(B:OkT ts)(k:ts.length<1000000)(D:mY ts S)
  (A:∀p:Ps,p.1<ts.length->p.2.length<=256->∃o,r (gR ts pr p) d=some o/\eY ts pr (S p) o)
  (u:∀(z:bZ) (i:Nat) (pr':List BA) (b:List Ex),z.2≠0->i<ts.length->∃v,r (bR ts z i pr' b) d=some (bR ts z i pr' b,v)):
  ∀(n M x:Nat) (p:Ps),p.1<ts.length->p.2.length<=256->x<p.2.length->ts.length<p.1+n->ts.length+1<p.1+M->
  ∃o,aI (sR N r d) M ((x:Int),gR ts pr p)=some o/\eY ts pr (mI ts 3 S n x p) (o.2,o.1)
 |0,M,x,p,c,_,_,h,_=>by omega
 |n+1,0,x,p,c,_,_,_,h=>by omega
 |n+1,M+1,x,p,c,H,Y,V,U=>by
  have t:((gR ts pr p).2.2.2.1==0)=true:=rfl
  have K:∀(x:Nat) (q:Ps),q.1<ts.length->p.1<q.1->q.2.length<=256->x<q.2.length->∃o,aI (sR N r d) M ((x:Int),gR ts pr q)=some o/\eY ts pr (mI ts 3 S n x q) (o.2,o.1):=
   fun x q F R a G=>VE B k D A u n M x q F a G (by omega) (by omega)
  have go:=fun E=>qAr (N:=N) (n:=n) (x:=x) B D A u (PJ (N:=N) (r:=r) (d:=d)) c H (show 0<M by omega) (show 3≠1 by decide) E K
  have a:=op_3 (ts:=ts) (i:=p.1)
  rcases eN (bP ts 4 ⟨#[42]⟩ p.1) with e|e
  .simp only[e,jJ] at a
   obtain⟨o,l,s⟩:=go (by rw[a];decide)
   refine⟨o,Eq.trans ?_ l,s⟩
   simp only[aI,sR,Prod.eta,t,jJ,lF p c,oT p c k,j0,e,a]
   cases r (gR ts pr (p.1+1,p.2)) d with
   |none=>rfl
   |some y=>simp only[j0];cases iH N y.1 (4,0,3,⟨#[]⟩,[(x:Int),y.2]) (aJ ts p.1).2.2.2<;>rfl
  rcases eN (bP ts 4 ⟨#[47]⟩ p.1) with f|f
  .simp only[e,f,jJ,jB,jI] at a
   obtain⟨o,l,s⟩:=go (by rw[a];decide)
   refine⟨o,Eq.trans ?_ l,s⟩
   simp only[aI,sR,Prod.eta,t,jJ,lF p c,oT p c k,j0,e,f,a,jB,jI]
   cases r (gR ts pr (p.1+1,p.2)) d with
   |none=>rfl
   |some y=>simp only[j0];cases iH N y.1 (4,0,4,⟨#[]⟩,[(x:Int),y.2]) (aJ ts p.1).2.2.2<;>rfl
  rcases eN (bP ts 4 ⟨#[37]⟩ p.1) with g|g
  .simp only[e,f,g,jJ,jB,jI] at a
   obtain⟨o,l,s⟩:=go (by rw[a];decide)
   refine⟨o,Eq.trans ?_ l,s⟩
   simp only[aI,sR,Prod.eta,t,jJ,lF p c,oT p c k,j0,e,f,g,a,jB,jI]
   cases r (gR ts pr (p.1+1,p.2)) d with
   |none=>rfl
   |some y=>simp only[j0];cases iH N y.1 (4,0,5,⟨#[]⟩,[(x:Int),y.2]) (aJ ts p.1).2.2.2<;>rfl
  simp only[e,f,g,jB,jI] at a
  simp only[aI,sR,Prod.eta,t,jJ,lF p c,oT p c k,j0,e,f,g,jB,jI]
  exact⟨_,rfl,qAp a⟩
theorem VW(s:OkT ts)(g:ts.length<1000000)(B:mY ts S)
  (l:∀p:Ps,p.1<ts.length->p.2.length<=256->∃o,r (gR ts pr p) d=some o/\eY ts pr (S p) o)
  (k:∀(z:bZ) (i:Nat) (pr':List BA) (b:List Ex),z.2≠0->i<ts.length->∃v,r (bR ts z i pr' b) d=some (bR ts z i pr' b,v)):
  ∀(n M x:Nat) (p:Ps),p.1<ts.length->p.2.length<=256->x<p.2.length->ts.length<p.1+n->ts.length+1<p.1+M->
  ∃o,aI (tJ N r d) M ((x:Int),gR ts pr p)=some o/\eY ts pr (mI ts 2 S n x p) (o.2,o.1)
 |0,M,x,p,c,_,_,h,_=>by omega
 |n+1,0,x,p,c,_,_,_,h=>by omega
 |n+1,M+1,x,p,c,G,V,U,R=>by
  have t:((gR ts pr p).2.2.2.1==0)=true:=rfl
  have H:∀(x:Nat) (q:Ps),q.1<ts.length->p.1<q.1->q.2.length<=256->x<q.2.length->∃o,aI (tJ N r d) M ((x:Int),gR ts pr q)=some o/\eY ts pr (mI ts 2 S n x q) (o.2,o.1):=
   fun x q E K a F=>VW s g B l k n M x q E a F (by omega) (by omega)
  have go:=fun D=>qAr (N:=N) (n:=n) (x:=x) s B l k (QV (N:=N) (r:=r) (d:=d)) c G (show 0<M by omega) (show 2≠1 by decide) D H
  have a:=op_2 (ts:=ts) (i:=p.1)
  rcases eN (bP ts 4 ⟨#[43]⟩ p.1) with e|e
  .simp only[e,jJ] at a
   obtain⟨o,u,A⟩:=go (by rw[a];decide)
   refine⟨o,Eq.trans ?_ u,A⟩
   simp only[aI,tJ,Prod.eta,t,jJ,lF p c,oT p c g,j0,e,a]
   cases r (gR ts pr (p.1+1,p.2)) d with
   |none=>rfl
   |some y=>simp only[j0];cases iH N y.1 (4,0,1,⟨#[]⟩,[(x:Int),y.2]) (aJ ts p.1).2.2.2<;>rfl
  rcases eN (bP ts 4 ⟨#[45]⟩ p.1) with f|f
  .simp only[e,f,jJ,jB,jI] at a
   obtain⟨o,u,A⟩:=go (by rw[a];decide)
   refine⟨o,Eq.trans ?_ u,A⟩
   simp only[aI,tJ,Prod.eta,t,jJ,lF p c,oT p c g,j0,e,f,a,jB,jI]
   cases r (gR ts pr (p.1+1,p.2)) d with
   |none=>rfl
   |some y=>simp only[j0];cases iH N y.1 (4,0,2,⟨#[]⟩,[(x:Int),y.2]) (aJ ts p.1).2.2.2<;>rfl
  simp only[e,f,jB,jI] at a
  simp only[aI,tJ,Prod.eta,t,jJ,lF p c,oT p c g,j0,e,f,jB,jI]
  exact⟨_,rfl,qAp a⟩
theorem qPb(k:OkT ts)(u:ts.length<1000000)(B:1000002<N)(e:mY ts S)
  (c:∀p:Ps,p.1<ts.length->p.2.length<=256->∃o,r1 (gR ts pr p) d=some o/\eY ts pr (S p) o)
  (h1b:∀(z:bZ) (i:Nat) (pr':List BA) (b:List Ex),z.2≠0->i<ts.length->∃v,r1 (bR ts z i pr' b) d=some (bR ts z i pr' b,v))
  (p:Ps) (l:p.1<ts.length) (f:p.2.length<=256):∃o,xL N r1 r2 r3 r4 (gR ts pr p) d=some o/\eY ts pr (pS ts 3 S p) o:=by
 obtain⟨o,x,a⟩:=c p l f
 simp only[xL,Prod.eta,x,j0,pS]
 cases h:S p with
 |inl z=>
  rw[h] at a
  obtain⟨n,i,pr',b,hi,g⟩:=a
  obtain⟨M,rfl⟩:∃M,N=M+1:=⟨N-1,by omega⟩
  simp only[g,bC,aI,PJ z i pr' b _ n,j0]
  exact⟨_,rfl,rN n hi⟩
 |inr q=>
  rw[h] at a
  obtain⟨⟨y,r,A,s⟩,t⟩:=e p q.1 q.2 l f h
  have hr':o=(gR ts pr q.1,(q.2:Int)):=a
  obtain⟨o2,g,n⟩:=VE (N:=N) k u e c h1b (ts.length+1) N q.2 q.1 r s t (by omega) (by omega)
  simp only[hr',bC,g,j0]
  exact⟨_,rfl,n⟩
theorem qMf(h1b:∀(z:bZ) (i:Nat) (pr':List BA) (b:List Ex),z.2≠0->i<ts.length->∃v,r1 (bR ts z i pr' b) d=some (bR ts z i pr' b,v))(e:0<N)
  (z:bZ) (i:Nat) (pr':List BA) (b:List Ex) (a:z.2≠0) (hi:i<ts.length):∃v,xL N r1 r2 r3 r4 (bR ts z i pr' b) d=some (bR ts z i pr' b,v):=by
 obtain⟨v,c⟩:=h1b z i pr' b a hi
 obtain⟨M,rfl⟩:∃M,N=M+1:=⟨N-1,by omega⟩
 simp only[xL,Prod.eta,c,j0,aI,PJ z i pr' b _ a]
 exact⟨_,rfl⟩
theorem rsum(k:OkT ts)(u:ts.length<1000000)(B:1000002<N)(e:mY ts S)
  (c:∀p:Ps,p.1<ts.length->p.2.length<=256->∃o,r2 (gR ts pr p) d=some o/\eY ts pr (S p) o)
  (h2b:∀(z:bZ) (i:Nat) (pr':List BA) (b:List Ex),z.2≠0->i<ts.length->∃v,r2 (bR ts z i pr' b) d=some (bR ts z i pr' b,v))
  (p:Ps) (l:p.1<ts.length) (f:p.2.length<=256):∃o,xM N r1 r2 r3 r4 (gR ts pr p) d=some o/\eY ts pr (pS ts 2 S p) o:=by
 obtain⟨o,x,a⟩:=c p l f
 simp only[xM,Prod.eta,x,j0,pS]
 cases h:S p with
 |inl z=>
  rw[h] at a
  obtain⟨n,i,pr',b,hi,g⟩:=a
  obtain⟨M,rfl⟩:∃M,N=M+1:=⟨N-1,by omega⟩
  simp only[g,bC,aI,QV z i pr' b _ n,j0]
  exact⟨_,rfl,rN n hi⟩
 |inr q=>
  rw[h] at a
  obtain⟨⟨y,r,A,s⟩,t⟩:=e p q.1 q.2 l f h
  have hr':o=(gR ts pr q.1,(q.2:Int)):=a
  obtain⟨o2,g,n⟩:=VW (N:=N) k u e c h2b (ts.length+1) N q.2 q.1 r s t (by omega) (by omega)
  simp only[hr',bC,g,j0]
  exact⟨_,rfl,n⟩
theorem qNn(h2b:∀(z:bZ) (i:Nat) (pr':List BA) (b:List Ex),z.2≠0->i<ts.length->∃v,r2 (bR ts z i pr' b) d=some (bR ts z i pr' b,v))(e:0<N)
  (z:bZ) (i:Nat) (pr':List BA) (b:List Ex) (a:z.2≠0) (hi:i<ts.length):∃v,xM N r1 r2 r3 r4 (bR ts z i pr' b) d=some (bR ts z i pr' b,v):=by
 obtain⟨v,c⟩:=h2b z i pr' b a hi
 obtain⟨M,rfl⟩:∃M,N=M+1:=⟨N-1,by omega⟩
 simp only[xM,Prod.eta,c,j0,aI,QV z i pr' b _ a]
 exact⟨_,rfl⟩
theorem qLc(z:bZ)(i:Nat)(pr':List BA)(b:List Ex)(a:z.2≠0)(hi:i<ts.length):uM N r1 r2 r3 r4 (bR ts z i pr' b) d=some (bR ts z i pr' b,0):=by
 have c:((bR ts z i pr' b).2.2.2.1 !=0)=true:=by simpa[bR] using a
 simp only[uM,Prod.eta,qW hi,j0,rM a]
 have:((if decide (d>32)=true then some (bR ts z i pr' b) else some (bR ts z i pr' b)):Option RT)=some (bR ts z i pr' b):=by split<;>rfl
 simp only[this,j0,c,jJ]
theorem qLz(c:d>32)(p:Ps)(a:p.1<ts.length):∃o,uM N r1 r2 r3 r4 (gR ts pr p) d=some o/\eY ts pr (cZ ts pr 0 p) o:=by
 have hd':decide (d>32)=true:=by simpa using c
 simp only[uM,Prod.eta,lF p a,j0,hd',jJ,oE]
 have b:((bR ts ((aJ ts p.1).2.2.2,2) p.1 pr p.2).2.2.2.1 !=0)=true:=by rfl
 simp only[b,jJ]
 exact⟨_,rfl,rN (show(2:Int)≠0 by decide) a⟩
theorem qOu{k:Nat}(A:OkT ts)(F:ts.length<1000000)(hd:d+k=32)(S:mY ts (cZ ts pr k))(hS:mY ts (vQ ts pr (cZ ts pr k)))
  (H:∀p:Ps,p.1<ts.length->p.2.length<=256->∃o,r4 (gR ts pr p) (IntKind.wrap .i64 (d+1))=some o/\eY ts pr (cZ ts pr k p) o)
  (u:∀(z:bZ) (i:Nat) (pr':List BA) (b:List Ex),z.2≠0->i<ts.length->∃v,r4 (bR ts z i pr' b) (IntKind.wrap .i64 (d+1))=some (bR ts z i pr' b,v))
  (Z:∀p:Ps,p.1<ts.length->p.2.length<=256->∃o,r3 (gR ts pr p) d=some o/\eY ts pr (vQ ts pr (cZ ts pr k) p) o)
  (h3b:∀(z:bZ) (i:Nat) (pr':List BA) (b:List Ex),z.2≠0->i<ts.length->∃v,r3 (bR ts z i pr' b) d=some (bR ts z i pr' b,v))
  (p:Ps) (K:p.1<ts.length) (M:p.2.length<=256):∃o,uM N r1 r2 r3 r4 (gR ts pr p) d=some o/\eY ts pr (cZ ts pr (k+1) p) o:=by
 have hd':decide (d>32)=false:=jX (by omega)
 have g0:((gR ts pr p).2.2.2.1 !=0)=false:=rfl
 simp only[uM,Prod.eta,lF p K,j0,hd',jB,jI,g0,qC p K F,cZ]
 rcases eN (bP ts 1 pA p.1) with s|s
 rotate_left
 .have c1':bP ts 1 ⟨#[105,102]⟩ p.1=false:=s
  simp only[s,c1',jB,jI]
  obtain⟨o,ho,G⟩:=Z p K M
  simp only[ho,j0,PI,pS]
  cases h:vQ ts pr (cZ ts pr k) p with
  |inl z=>
   rw[h] at G
   obtain⟨e,i,pr',b,hi,l⟩:=G
   simp only[l,qW hi,LH e,j0,jB,jI,bC]
   exact⟨_,rfl,rN e hi⟩
  |inr q=>
   rw[h] at G
   obtain⟨⟨f1,B,f3,V⟩,f5⟩:=hS p q.1 q.2 K M h
   have hr':o=(gR ts pr q.1,(q.2:Int)):=G
   simp only[hr',lF q.1 B,oT q.1 B F,j0,bC,mI]
   have go:∀op,op≠0->mA ts 1 q.1.1=op->∃o,((r3 (gR ts pr (q.1.1+1,q.1.2)) d).bind fun R=>(iH N R.1 (4,0,op,⟨#[]⟩,[(q.2:Int),R.2]) (aJ ts q.1.1).2.2.2).bind fun Y=>some Y)=some o/\
     eY ts pr (if mA ts 1 q.1.1=0 then .inr (q.1,q.2) else bC (vQ ts pr (cZ ts pr k) (q.1.1+1,q.1.2)) fun a=>bC (iQ (aJ ts q.1.1) (4,0,mA ts 1 q.1.1,⟨#[]⟩,[(q.2:Int),(a.2:Int)]) a.1) fun r=> .inr r) o:=by
    intro op n t
    have g:=A.next B (show(aJ ts q.1.1).1≠5 by rw[YV (L:=1) (by rw[t];exact n)];decide)
    obtain⟨o2,E,f⟩:=Z (q.1.1+1,q.1.2) g V
    rw[t,if_neg n]
    simp only[E,j0,pM]
    cases h2:vQ ts pr (cZ ts pr k) (q.1.1+1,q.1.2) with
    |inl z=>
     rw[h2] at f
     obtain⟨e,i,pr',b,hi,l⟩:=f
     simp only[l,bC]
     exact CV e hi _ _
    |inr a=>
     rw[h2] at f
     obtain⟨⟨j1,j2,j3,j4⟩,j5⟩:=hS (q.1.1+1,q.1.2) a.1 a.2 g V h2
     have hr2':o2=(gR ts pr a.1,(a.2:Int)):=f
     simp only[hr2',bC]
     obtain⟨o3,U,D⟩:=zK (N:=N) (pr:=pr) (aJ ts q.1.1) (4,0,op,⟨#[]⟩,[(q.2:Int),(a.2:Int)]) a.1 j2 j4
     refine⟨o3,U,?_⟩
     cases hn:iQ (aJ ts q.1.1) (4,0,op,⟨#[]⟩,[(q.2:Int),(a.2:Int)]) a.1<;>rw[hn] at D<;>exact D
   have t:=op_1 (ts:=ts) (i:=q.1.1)
   rcases eN (bP ts 4 ⟨#[60]⟩ q.1.1) with f|f
   .simp only[f,jJ] at t
    obtain⟨U,D,E⟩:=go 6 (by decide) t
    simp only[f,jJ,j0]
    exact⟨U,D,by simpa only[bC] using E⟩
   rcases eN (bP ts 4 ⟨#[61,61]⟩ q.1.1) with n|n
   .simp only[f,n,jJ,jB,jI] at t
    obtain⟨U,D,E⟩:=go 7 (by decide) t
    simp only[f,n,jJ,j0,jB,jI,oT q.1 B F]
    exact⟨U,D,by simpa only[bC] using E⟩
   simp only[f,n,jB,jI] at t
   simp only[f,n,j0,jB,jI,oT q.1 B F]
   rw[if_pos t]
   exact⟨_,rfl,rfl⟩
 have c1':bP ts 1 ⟨#[105,102]⟩ p.1=true:=s
 have g:=mN A K (by decide) s
 simp only[s,c1',jJ]
 -- behind an error
 have badN:∀{z:bZ} {i:Nat} {pr':List BA} {b:List Ex} (x y w:Int),z.2≠0->i<ts.length->∃o,((iH N (bR ts z i pr' b) (5,0,0,⟨#[]⟩,[x,y,w]) (aJ ts p.1).2.2.2).bind fun b0=>some b0)=some o/\eY ts pr (.inl z) o:=by
  intro z i pr' b x y w e hi
  simp only[pM]
  exact CV e hi _ _
 have nf:∀b:Bool,(if(!b)=true then(0:Nat) else 1)=if b=true then 1 else 0:=by intro b;cases b<;>rfl
 obtain⟨oa,a6,B⟩:=H (p.1+1,p.2) g M
 simp only[a6,j0]
 cases ha:cZ ts pr k (p.1+1,p.2) with
 |inl z=>
  rw[ha] at B
  obtain⟨e,i,pr',b,hi,l⟩:=B
  obtain⟨v,t⟩:=u z i pr' b e hi
  simp only[l,QE e,j0,kQ,jJ,qW hi,rM e,t,bC]
  exact badN _ _ _ e hi
 |inr a=>
  rw[ha] at B
  obtain⟨⟨a1,E,a3,R⟩,a5⟩:=S (p.1+1,p.2) a.1 a.2 g M ha
  have hra':oa=(gR ts pr a.1,(a.2:Int)):=B
  have a9:uA ts IE a.1.1=if bP ts 1 ⟨#[116,104,101,110]⟩ a.1.1=true then .inr (a.1.1+1) else dX (aJ ts a.1.1) 9:=rfl
  simp only[hra',qC a.1 E F,j0,bC,a9]
  rcases eN (bP ts 1 ⟨#[116,104,101,110]⟩ a.1.1) with f|f
  rotate_left
  .have e:(((aJ ts a.1.1).2.2.2,(9:Int)):bZ).2≠0:=show(9:Int)≠0 by decide
   obtain⟨v,t⟩:=u ((aJ ts a.1.1).2.2.2,9) a.1.1 pr a.1.2 e E
   simp only[f,jB,jI,kQ,jJ,lF a.1 E,oE,j0,t,QE e,qW E,rM e,dX]
   exact badN _ _ _ e E
  have V:=mN A E (by decide) f
  obtain⟨ob,a7,D⟩:=H (a.1.1+1,a.1.2) V R
  simp only[f,jJ,gD,jB,jI,j0,a7]
  cases hb1:cZ ts pr k (a.1.1+1,a.1.2) with
  |inl z=>
   rw[hb1] at D
   obtain⟨e,i,pr',b,hi,l⟩:=D
   obtain⟨v,t⟩:=u z i pr' b e hi
   simp only[l,QE e,j0,kQ,jJ,qW hi,rM e,t]
   exact badN _ _ _ e hi
  |inr b=>
   rw[hb1] at D
   obtain⟨⟨b1,G,b3,U⟩,b5⟩:=S (a.1.1+1,a.1.2) b.1 b.2 V R hb1
   have hrb':ob=(gR ts pr b.1,(b.2:Int)):=D
   have a0:uA ts IG b.1.1=if bP ts 1 ⟨#[101,108,115,101]⟩ b.1.1=true then .inr (b.1.1+1) else dX (aJ ts b.1.1) 9:=rfl
   simp only[hrb',qC b.1 G F,j0,a0]
   rcases eN (bP ts 1 ⟨#[101,108,115,101]⟩ b.1.1) with n|n
   rotate_left
   .have e:(((aJ ts b.1.1).2.2.2,(9:Int)):bZ).2≠0:=show(9:Int)≠0 by decide
    obtain⟨v,t⟩:=u ((aJ ts b.1.1).2.2.2,9) b.1.1 pr b.1.2 e G
    simp only[n,jB,jI,kQ,jJ,lF b.1 G,oE,j0,t,dX]
    exact badN _ _ _ e G
   have Y:=mN A G (by decide) n
   obtain⟨oc,a8,t⟩:=H (b.1.1+1,b.1.2) Y U
   simp only[n,jJ,gD,jB,jI,j0,a8]
   cases hc1:cZ ts pr k (b.1.1+1,b.1.2) with
   |inl z=>
    rw[hc1] at t
    obtain⟨e,i,pr',b',hi,l⟩:=t
    simp only[l]
    exact badN _ _ _ e hi
   |inr c=>
    rw[hc1] at t
    obtain⟨⟨s,f,n,e⟩,l⟩:=S (b.1.1+1,b.1.2) c.1 c.2 Y U hc1
    have hrc':oc=(gR ts pr c.1,(c.2:Int)):=t
    simp only[hrc',pM]
    exact zK (N:=N) (pr:=pr) (aJ ts p.1) (5,0,0,⟨#[]⟩,[(a.2:Int),(b.2:Int),(c.2:Int)]) c.1 f e
end
section
variable {N:Nat} {ts:List bQ} {pr:List BA}
theorem PQ(D:Nat)(c:1<=D)(d:Int)(z:bZ)(i:Nat)(pr':List BA)(b:List Ex)(a:z.2≠0)(hi:i<ts.length):∃v,(eV N D).2.2.2 (bR ts z i pr' b) d=some (bR ts z i pr' b,v):=by
 obtain⟨D',rfl⟩:∃D',D=D'+1:=⟨D-1,by omega⟩
 simp only[eV]
 exact⟨_,qLc z i pr' b a hi⟩
theorem UZ(D:Nat)(c:1<=D)(d:Int)(z:bZ)(i:Nat)(pr':List BA)(b:List Ex)(a:z.2≠0)(hi:i<ts.length):∃v,(eV N D).1 (bR ts z i pr' b) d=some (bR ts z i pr' b,v):=by
 obtain⟨D',rfl⟩:∃D',D=D'+1:=⟨D-1,by omega⟩
 simp only[eV]
 exact⟨_,qIj a hi⟩
theorem XA(c:0<N)(D:Nat)(e:2<=D)(d:Int)(z:bZ)(i:Nat)(pr':List BA)(b:List Ex)(a:z.2≠0)(hi:i<ts.length):∃v,(eV N D).2.1 (bR ts z i pr' b) d=some (bR ts z i pr' b,v):=by
 obtain⟨D',rfl⟩:∃D',D=D'+1:=⟨D-1,by omega⟩
 simp only[eV]
 exact qMf (fun z i pr' b a hi=>UZ D' (by omega) d z i pr' b a hi) c z i pr' b a hi
theorem qMp(c:0<N)(D:Nat)(e:3<=D)(d:Int)(z:bZ)(i:Nat)(pr':List BA)(b:List Ex)(a:z.2≠0)(hi:i<ts.length):∃v,(eV N D).2.2.1 (bR ts z i pr' b) d=some (bR ts z i pr' b,v):=by
 obtain⟨D',rfl⟩:∃D',D=D'+1:=⟨D-1,by omega⟩
 simp only[eV]
 exact qNn (fun z i pr' b a hi=>XA c D' (by omega) d z i pr' b a hi) c z i pr' b a hi
theorem YY(a:OkT ts)(g:ts.length<1000000)(n:pr.length<1000)(l:1000002<N):∀(k D:Nat),k<=32->4*k+1<=D->∀p:Ps,p.1<ts.length->p.2.length<=256->
  ∃o,(eV N D).2.2.2 (gR ts pr p) (33-(k:Int))=some o/\eY ts pr (cZ ts pr k p) o
 |0,0,_,h,_,_,_=>by omega
 |0,D+1,_,_,p,c,_=>by simp only[eV];exact qLz (by omega) p c
 |k+1,D,A,f,p,c,d=>by
  have q:=zC (ts:=ts) (params:=pr) a k
  have s:=UB (params:=pr) a q
  have t:mY ts (LV ts pr (cZ ts pr k)):=GR a s
  have y:mY ts (vQ ts pr (cZ ts pr k)):=GR a t
  have r:∀D,4*k+1<=D->∀p:Ps,p.1<ts.length->p.2.length<=256->∃o,(eV N D).2.2.2 (gR ts pr p) (IntKind.wrap .i64 (32-(k:Int)+1))=some o/\eY ts pr (cZ ts pr k p) o:=by
   intro D f p c d
   rw[bX (by omega) (by omega),show 32-(k:Int)+1=33-(k:Int) by omega]
   exact YY a g n l k D (by omega) f p c d
  have u:∀D,4*k+2<=D->∀p:Ps,p.1<ts.length->p.2.length<=256->∃o,(eV N D).1 (gR ts pr p) (32-(k:Int))=some o/\eY ts pr (nL ts pr (cZ ts pr k) p) o:=by
   intro D f p c d
   obtain⟨D',rfl⟩:∃D',D=D'+1:=⟨D-1,by omega⟩
   simp only[eV]
   exact qKt (r D' (by omega)) (fun z i pr' b e hi=>PQ D' (by omega) _ z i pr' b e hi) a g n l q p c d
  have v:∀D,4*k+3<=D->∀p:Ps,p.1<ts.length->p.2.length<=256->∃o,(eV N D).2.1 (gR ts pr p) (32-(k:Int))=some o/\eY ts pr (LV ts pr (cZ ts pr k) p) o:=by
   intro D f p c d
   obtain⟨D',rfl⟩:∃D',D=D'+1:=⟨D-1,by omega⟩
   simp only[eV]
   exact qPb a g l s (u D' (by omega)) (fun z i pr' b e hi=>UZ D' (by omega) _ z i pr' b e hi) p c d
  have x:∀D,4*k+4<=D->∀p:Ps,p.1<ts.length->p.2.length<=256->∃o,(eV N D).2.2.1 (gR ts pr p) (32-(k:Int))=some o/\eY ts pr (vQ ts pr (cZ ts pr k) p) o:=by
   intro D f p c d
   obtain⟨D',rfl⟩:∃D',D=D'+1:=⟨D-1,by omega⟩
   simp only[eV]
   exact rsum a g l t (v D' (by omega)) (fun z i pr' b e hi=>XA (by omega) D' (by omega) _ z i pr' b e hi) p c d
  obtain⟨D',rfl⟩:∃D',D=D'+1:=⟨D-1,by omega⟩
  rw[show(33:Int)-((k+1:Nat):Int)=32-(k:Int) by omega]
  simp only[eV]
  exact qOu a g (by omega) q y (r D' (by omega)) (fun z i pr' b e hi=>PQ D' (by omega) _ z i pr' b e hi) (x D' (by omega)) (fun z i pr' b e hi=>qMp (by omega) D' (by omega) _ z i pr' b e hi) p c d
theorem qJp(a:OkT ts)(e:ts.length<1000000)(b:pr.length<1000)(c:1000002<N)(p:Ps)(f:p.1<ts.length)(d:p.2.length<=256):
 ∃o,vZ N (gR ts pr p) 1=some o/\eY ts pr (cZ ts pr 32 p) o:=YY a e b c 32 N (by omega) (by omega) p f d
theorem ON(a:1<=N)(z:bZ)(i:Nat)(pr':List BA)(b:List Ex)(c:z.2≠0)(hi:i<ts.length):∃v,vZ N (bR ts z i pr' b) 1=some (bR ts z i pr' b,v):=PQ N a 1 z i pr' b c hi
abbrev RL:=List bQ×Int×Int×Int×List BA×List Ex×List Int×List BA
def bN(st:RT)(l:List BA):RL:=(st.1,st.2.1,st.2.2.1,st.2.2.2.1,st.2.2.2.2.1,st.2.2.2.2.2.1,st.2.2.2.2.2.2,l)
def HT(ts:List bQ)(n:Nat)(l:List BA)(i:Nat):bZ⊕(Nat×List BA):=
 if bP ts 4 pQ i then sU ts n l (i+1) else bC (dP ts eL i) fun j=> .inr (j,l)
theorem qGe(n:Nat)(l:List BA)(i:Nat):sU ts (n+1) l i=bC (nE ts i) fun a=>if l.length=8 then dX a.2 2 else if a.2.2.1∈l then dX a.2 10 else HT ts n (l++[a.2.2.1]) a.1:=rfl
def DY(ts:List bQ)(pr:List BA)(b:List Ex)(r:bZ⊕(Nat×List BA))(o:RL):Prop:=
 match r with
 | .inl z=>∃st l,sM ts z st/\o=bN st l
 | .inr q=>o=bN (gR ts pr (q.1,b)) q.2
theorem GP{z:bZ}{i:Nat}{pr':List BA}{b:List Ex}(a:z.2≠0)(M:Nat)(l:List BA):aI (mZ N) (M+1) (bN (bR ts z i pr' b) l)=some (bN (bR ts z i pr' b) l):=by
 have hz':((bN (bR ts z i pr' b) l).2.2.2.1==0)=false:=by simpa[bR,bN] using a
 simp only[aI,mZ,hz',jB,jI,j0]
theorem VH(A:ts.length<1000000)(E:1000002<N){i:Nat}{b:List Ex}{l:List BA}(hi:i<ts.length)(D:l.length<=8){G:RL->Option RL}{n:Nat}
  (f:∀(z:bZ) (i:Nat) (pr':List BA) (b:List Ex) (l:List BA),z.2≠0->G (bN (bR ts z i pr' b) l)=some (bN (bR ts z i pr' b) l))
  (u:OkT ts)
  (B:∀(s:BA),i+1<ts.length->l.length<8->∃o,G (bN (gR ts pr (i+1,b)) (l++[s]))=some o/\DY ts pr b (HT ts n (l++[s]) (i+1)) o):
  ∃o,((eR N (gR ts pr (i,b))).bind fun k=>(mL N k.1).bind fun d=>(if((l.length:Int)==8)=true then((eW N d.1 k.2.2.2.2 2).bind fun v=>some v) else(some d.1):Option RT).bind fun r=>(pO N l d.2).bind fun p=>(if p=true then((eW N r k.2.2.2.2 10).bind fun y=>some y) else(some r):Option RT).bind fun h=>(cP 16 l ([d.2])).bind fun t=>G (bN h t))=some o/\
   DY ts pr b (sU ts (n+1) l i) o:=by
 rw[qGe]
 simp only[lF (i,b) hi,j0,DG (i,b) hi A (by omega:100<N),pM]
 have c:∀s:BA,cP 16 l [s]=some (l++[s]):=fun s=>pP (by simp only[jD,jF];omega) (by omega)
 have g:∀s,pO N l s=some (decide (s∈l)):=fun s=>IK (by omega) (by omega)
 -- behind an error
 have q:∀(z:bZ) (i:Nat) (pr':List BA) (b':List Ex) (s:BA) (a:Int),z.2≠0->i<ts.length->∃o,((pO N l s).bind fun p=>(if p=true then eW N (bR ts z i pr' b') a 10 else(some (bR ts z i pr' b')):Option RT).bind fun h=>(cP 16 l ([s])).bind fun t=>G (bN h t))=some o/\DY ts pr b (.inl z) o:=by
  intro z i pr' b' s a e hi
  simp only[g,j0,rM e]
  have:((if decide (s∈l)=true then some (bR ts z i pr' b') else some (bR ts z i pr' b')):Option RT)=some (bR ts z i pr' b'):=by split<;>rfl
  simp only[this,j0,c,f _ _ _ _ _ e]
  exact⟨_,rfl,bR ts z i pr' b',_,⟨e,i,pr',b',hi,rfl⟩,rfl⟩
 cases hx:nE ts i with
 |inl z=>
  have e:=LK hx
  have:((if((l.length:Int)==8)=true then eW N (bR ts z i pr b) (aJ ts i).2.2.2 2 else some (bR ts z i pr b)):Option RT)=some (bR ts z i pr b):=by
   rw[rM e];split<;>rfl
  simp only[this,j0,bC]
  exact q z i pr b _ _ e hi
 |inr x=>
  obtain⟨rfl,e,-⟩:=zN u hi hx
  simp only[bC]
  by_cases k1:l.length=8
  .have k1':((l.length:Int)==8)=true:=by simp;omega
   rw[if_pos k1]
   simp only[k1',jJ,oE,j0,dX]
   exact q _ _ _ _ _ _ (show(2:Int)≠0 by decide) e
  have k1':((l.length:Int)==8)=false:=by simp;omega
  rw[if_neg k1]
  simp only[k1',jB,jI,j0,g]
  by_cases k2:(aJ ts i).2.1∈l
  .rw[if_pos k2]
   simp only[kC k2,jJ,oE,j0,c,dX]
   refine⟨_,f _ _ _ _ _ (show(10:Int)≠0 by decide),bR ts ((aJ ts i).2.2.2,10) (i+1) pr b,_,⟨show(10:Int)≠0 by decide,i+1,pr,b,e,rfl⟩,rfl⟩
  rw[if_neg k2]
  simp only[jX k2,jB,jI,j0,c]
  exact B _ e (by omega)
theorem qGa(v:1000002<N){b:List Ex}{l:List BA}(u:l.length<=8){G:RL->Option RL}
  (g:∀(z:bZ) (i:Nat) (pr':List BA) (b:List Ex) (l:List BA),z.2≠0->G (bN (bR ts z i pr' b) l)=some (bN (bR ts z i pr' b) l))
  {z:bZ} {i:Nat} {pr':List BA} {b':List Ex} (d:z.2≠0) (hi:i<ts.length):
  ∃o,((eR N (bR ts z i pr' b')).bind fun c=>(mL N c.1).bind fun a=>(if((l.length:Int)==8)=true then((eW N a.1 c.2.2.2.2 2).bind fun n=>some n) else(some a.1):Option RT).bind fun e=>(pO N l a.2).bind fun p=>(if p=true then((eW N e c.2.2.2.2 10).bind fun q=>some q) else(some e):Option RT).bind fun k=>(cP 16 l ([a.2])).bind fun t=>G (bN k t))=some o/\
   DY ts pr b (.inl z) o:=by
 have f:∀s:BA,cP 16 l [s]=some (l++[s]):=fun s=>pP (by simp only[jD,jF];omega) (by omega)
 have h:∀s,pO N l s=some (decide (s∈l)):=fun s=>IK (by omega) (by omega)
 have e3:((if((l.length:Int)==8)=true then some (bR ts z i pr' b') else some (bR ts z i pr' b')):Option RT)=some (bR ts z i pr' b'):=by split<;>rfl
 have r:((if decide ((⟨#[]⟩:BA)∈l)=true then some (bR ts z i pr' b') else some (bR ts z i pr' b')):Option RT)=some (bR ts z i pr' b'):=by split<;>rfl
 simp only[qW hi,j0,LI d hi,pM,rM d,e3,h,r,f,g _ _ _ _ _ d]
 exact⟨_,rfl,bR ts z i pr' b',_,⟨d,i,pr',b',hi,rfl⟩,rfl⟩
theorem TT(d:OkT ts)(e:ts.length<1000000)(k:1000002<N){b:List Ex}:∀(n M:Nat) (l:List BA) (i:Nat),l≠[]->i<ts.length->l.length<=8->ts.length<i+n->ts.length+2<i+M->
  ∃o,aI (mZ N) M (bN (gR ts pr (i,b)) l)=some o/\DY ts pr b (HT ts n l i) o
 |0,M,l,i,_,hi,_,h,_=>by omega
 |n+1,0,l,i,_,hi,_,_,h=>by omega
 |n+1,M+1,l,i,v,hi,f,H,F=>by
  have D:=oT (N:=N) (pr:=pr) (i,b) hi e ⟨#[41]⟩
  have q:decide ((l.length:Int)>0)=true:=by
   have:=fU.2 v
   exact kC (by omega)
  have A:((bN (gR ts pr (i,b)) l).2.2.2.1==0)=true:=rfl
  have x:∀st:RT,∀l,((bN st l).1,(bN st l).2.1,(bN st l).2.2.1,(bN st l).2.2.2.1,(bN st l).2.2.2.2.1,(bN st l).2.2.2.2.2.1,(bN st l).2.2.2.2.2.2.1)=st:=fun _ _=>rfl
  have y:∀st:RT,∀l,(bN st l).2.2.2.2.2.2.2=l:=fun _ _=>rfl
  simp only[aI,mZ,A,jJ,x,y,D,j0,q]
  rcases eN (bP ts 4 ⟨#[41]⟩ i) with a|a
  .simp only[a,jJ,gD,jB,jI]
   refine⟨_,rfl,?_⟩
   have c:bP ts 4 pQ i=false:=by
    simp only[bP,jM,jA] at a
    simp[bP,a.2,pQ]
   have p:dP ts eL i= .inr (i+1):=by simp[dP,eL,a]
   simp only[HT,c,jB,jI,p,bC]
   rfl
  have u:bP ts 4 pQ i=bP ts 4 ⟨#[44]⟩ i:=rfl
  simp only[a,jB,jI,kQ,jJ,Prod.eta,rL (i,b) hi e,j0,HT,u,dP]
  rcases eN (bP ts 4 ⟨#[44]⟩ i) with c|c
  .have g:=mN d hi (by decide) c
   simp only[c,jJ]
   obtain⟨o,p,r⟩:=VH (N:=N) (pr:=pr) (b:=b) (l:=l) (n:=n) (G:=aI (mZ N) M) e k g f (fun z i pr' b l t=>by
    obtain⟨M',rfl⟩:∃M',M=M'+1:=⟨M-1,by omega⟩
    exact GP t M' l) d (fun s B E=>TT d e k n M (l++[s]) (i+1+1) (by simp) B (by simp only[jC,jD,jF];omega) (by omega) (by omega))
   refine⟨o,Eq.trans ?_ p,r⟩
   simp only[fL,j0]
   rfl
  have c1':bP ts 4 eL i=false:=a
  simp only[c,c1',jB,jI,dX,bC]
  obtain⟨o,p,r⟩:=qGa (N:=N) (pr:=pr) (b:=b) (l:=l) (z:=((aJ ts i).2.2.2,9)) (i:=i) (pr':=pr) (b':=b) (G:=aI (mZ N) M) k f (fun z i pr' b l t=>by
   obtain⟨M',rfl⟩:∃M',M=M'+1:=⟨M-1,by omega⟩
   exact GP t M' l) (show(9:Int)≠0 by decide) hi
  refine⟨o,Eq.trans ?_ p,r⟩
  simp only[fL,j0]
  rfl
theorem qMs(a:OkT ts)(d:ts.length<1000000)(x:1000005<N){b:List Ex}(i:Nat)(hi:i<ts.length):
  ∃o,aI (mZ N) N (bN (gR ts pr (i,b)) [])=some o/\DY ts pr b (if bP ts 4 eL i then .inr (i+1,[]) else sU ts (ts.length+1) [] i) o:=by
 obtain⟨M,hM⟩:∃M,N=M+1:=⟨N-1,by omega⟩
 have t:=oT (N:=N) (pr:=pr) (i,b) hi d ⟨#[41]⟩
 have k:((bN (gR ts pr (i,b)) []).2.2.2.1==0)=true:=rfl
 have e:decide ((([]:List BA).length:Int)>0)=false:=rfl
 have g:∀st:RT,∀l,((bN st l).1,(bN st l).2.1,(bN st l).2.2.1,(bN st l).2.2.2.1,(bN st l).2.2.2.2.1,(bN st l).2.2.2.2.2.1,(bN st l).2.2.2.2.2.2.1)=st:=fun _ _=>rfl
 have h:∀st:RT,∀l,(bN st l).2.2.2.2.2.2.2=l:=fun _ _=>rfl
 have f:aI (mZ N) N (bN (gR ts pr (i,b)) [])=aI (mZ N) (M+1) (bN (gR ts pr (i,b)) []):=by rw[<-hM]
 rw[f]
 simp only[aI,mZ,k,jJ,g,h,t,j0,e,eL]
 rcases eN (bP ts 4 ⟨#[41]⟩ i) with c|c
 .simp only[c,jJ,gD,jB,jI]
  exact⟨_,rfl,rfl⟩
 simp only[c,jB,jI,kQ,jJ,Prod.eta,j0]
 obtain⟨o,q,r⟩:=VH (N:=N) (pr:=pr) (b:=b) (l:=[]) (n:=ts.length) (G:=aI (mZ N) M) d (by omega) hi (by simp) (fun z i pr' b l u=>by
  obtain⟨M',rfl⟩:∃M',M=M'+1:=⟨M-1,by omega⟩
  exact GP u M' l) a (fun s p v=>TT a d (by omega) ts.length M ([]++[s]) (i+1) (by simp) p (by simp) (by omega) (by omega))
 refine⟨o,Eq.trans ?_ q,r⟩
 simp only[fL,j0]
 rfl
end
section
variable {N:Nat} {ts:List bQ} {pr:List BA}
def IQ(ts:List bQ)(r:bZ⊕(Nat×Dl))(o:RT×Dl):Prop:=
 match r with
 | .inl z=>sM ts z o.1
 | .inr a=>o=(gR ts a.2.2.2.1 (a.1,a.2.2.2.2),a.2)
def tU(N:Nat)(st:RT)(k:Int)(nm:BA):Option (RT×Dl):=
 ((if(k==1)=true then((eM N st (⟨#[40]⟩:BA)).bind fun a=>aI (mZ N) N (bN a [])) else(some (bN st [])):Option RL)).bind fun a=>
 (eM N (a.1,a.2.1,a.2.2.1,a.2.2.2.1,a.2.2.2.2.2.2.2,a.2.2.2.2.2.1,a.2.2.2.2.2.2.1) (⟨#[61]⟩:BA)).bind fun b=>
 (vZ N b 1).bind fun b=>(eM N b.1 (⟨#[59]⟩:BA)).bind fun b=>some (b,(k,nm,a.2.2.2.2.2.2.2,b.2.2.2.2.2.1))
theorem OW(h:1000005<N){z:bZ}{i:Nat}{b:List Ex}(a:z.2≠0)(hi:i<ts.length)(k:Int)(nm:BA):∃o,tU N (bR ts z i pr b) k nm=some o/\sM ts z o.1:=by
 have tail:∀(i:Nat) (pr:List BA) (b:List Ex) (l:List BA),i<ts.length->∃o,((eM N ((bN (bR ts z i pr b) l).1,(bN (bR ts z i pr b) l).2.1,(bN (bR ts z i pr b) l).2.2.1,(bN (bR ts z i pr b) l).2.2.2.1,(bN (bR ts z i pr b) l).2.2.2.2.2.2.2,(bN (bR ts z i pr b) l).2.2.2.2.2.1,(bN (bR ts z i pr b) l).2.2.2.2.2.2.1) (⟨#[61]⟩:BA)).bind fun f=>
   (vZ N f 1).bind fun g=>(eM N g.1 (⟨#[59]⟩:BA)).bind fun d=>some (d,(k,nm,(bN (bR ts z i pr b) l).2.2.2.2.2.2.2,d.2.2.2.2.2.1)))=some o/\sM ts z o.1:=by
  intro i pr b l hi
  have e:((bN (bR ts z i pr b) l).1,(bN (bR ts z i pr b) l).2.1,(bN (bR ts z i pr b) l).2.2.1,(bN (bR ts z i pr b) l).2.2.2.1,(bN (bR ts z i pr b) l).2.2.2.2.2.2.2,(bN (bR ts z i pr b) l).2.2.2.2.2.1,(bN (bR ts z i pr b) l).2.2.2.2.2.2.1)=bR ts z i l b:=rfl
  obtain⟨v,d⟩:=ON (N:=N) (by omega) z i l b a hi
  simp only[e,qT a hi,j0,d]
  exact⟨_,rfl,a,i,l,b,hi,rfl⟩
 obtain⟨M,hM⟩:∃M,N=M+1:=⟨N-1,by omega⟩
 have g:aI (mZ N) N (bN (bR ts z i pr b) [])=some (bN (bR ts z i pr b) []):=by
  have d:aI (mZ N) N (bN (bR ts z i pr b) [])=aI (mZ N) (M+1) (bN (bR ts z i pr b) []):=by rw[<-hM]
  rw[d];exact GP a M []
 unfold tU
 rcases eN (k==1) with c|c
 .simp only[c,jJ,qT a hi,j0,g]
  exact tail i pr b [] hi
 simp only[c,jB,jI,j0]
 exact tail i pr b [] hi
theorem qHr(d:OkT ts)(h:ts.length<1000000)(x:1000005<N)(i:Nat)(hi:i<ts.length)(k:Int)(nm:BA):∃o,tU N (gR ts pr (i,[])) k nm=some o/\
  IQ ts (bC (if k=1 then uR ts i else .inr (i,[])) fun bq=>bC (dP ts vX bq.1) fun j=>bC (cZ ts bq.2 32 (j,[])) fun c=>bC (dP ts qD c.1.1) fun m=> .inr (m,(k,nm,bq.2,c.1.2))) o:=by
 have badt:∀(z:bZ) (st:RT) (l:List BA),sM ts z st->∃o,((eM N ((bN st l).1,(bN st l).2.1,(bN st l).2.2.1,(bN st l).2.2.2.1,(bN st l).2.2.2.2.2.2.2,(bN st l).2.2.2.2.2.1,(bN st l).2.2.2.2.2.2.1) (⟨#[61]⟩:BA)).bind fun n=>
   (vZ N n 1).bind fun g=>(eM N g.1 (⟨#[59]⟩:BA)).bind fun f=>some (f,(k,nm,(bN st l).2.2.2.2.2.2.2,f.2.2.2.2.2.1)))=some o/\sM ts z o.1:=by
  rintro z st l ⟨a,i,pr,b,hi,rfl⟩
  have e:((bN (bR ts z i pr b) l).1,(bN (bR ts z i pr b) l).2.1,(bN (bR ts z i pr b) l).2.2.1,(bN (bR ts z i pr b) l).2.2.2.1,(bN (bR ts z i pr b) l).2.2.2.2.2.2.2,(bN (bR ts z i pr b) l).2.2.2.2.2.1,(bN (bR ts z i pr b) l).2.2.2.2.2.2.1)=bR ts z i l b:=rfl
  obtain⟨v,p⟩:=ON (N:=N) (by omega) z i l b a hi
  simp only[e,qT a hi,j0,p]
  exact⟨_,rfl,a,i,l,b,hi,rfl⟩
 have goodt:∀(q:Nat×List BA),q.1<ts.length->q.2.length<=8->∃o,((eM N ((bN (gR ts pr (q.1,[])) q.2).1,(bN (gR ts pr (q.1,[])) q.2).2.1,(bN (gR ts pr (q.1,[])) q.2).2.2.1,(bN (gR ts pr (q.1,[])) q.2).2.2.2.1,(bN (gR ts pr (q.1,[])) q.2).2.2.2.2.2.2.2,(bN (gR ts pr (q.1,[])) q.2).2.2.2.2.2.1,(bN (gR ts pr (q.1,[])) q.2).2.2.2.2.2.2.1) (⟨#[61]⟩:BA)).bind fun n=>
   (vZ N n 1).bind fun g=>(eM N g.1 (⟨#[59]⟩:BA)).bind fun f=>some (f,(k,nm,(bN (gR ts pr (q.1,[])) q.2).2.2.2.2.2.2.2,f.2.2.2.2.2.1)))=some o/\
   IQ ts (bC (dP ts vX q.1) fun j=>bC (cZ ts q.2 32 (j,[])) fun c=>bC (dP ts qD c.1.1) fun m=> .inr (m,(k,nm,q.2,c.1.2))) o:=by
  intro q g A
  have e:((bN (gR ts pr (q.1,[])) q.2).1,(bN (gR ts pr (q.1,[])) q.2).2.1,(bN (gR ts pr (q.1,[])) q.2).2.2.1,(bN (gR ts pr (q.1,[])) q.2).2.2.2.1,(bN (gR ts pr (q.1,[])) q.2).2.2.2.2.2.2.2,(bN (gR ts pr (q.1,[])) q.2).2.2.2.2.2.1,(bN (gR ts pr (q.1,[])) q.2).2.2.2.2.2.2.1)=gR ts q.2 (q.1,[]):=rfl
  have u:(bN (gR ts pr (q.1,[])) q.2).2.2.2.2.2.2.2=q.2:=rfl
  rw[e]
  simp only[u,rL (q.1,[]) g h,j0,vX]
  cases hj:dP ts ⟨#[61]⟩ q.1 with
  |inl z=>
   have a:=qB hj
   obtain⟨v,p⟩:=ON (N:=N) (by omega) z q.1 q.2 [] a g
   simp only[p,j0,qT a g,bC]
   exact⟨_,rfl,a,q.1,q.2,[],g,rfl⟩
  |inr j=>
   obtain⟨rfl,r,-⟩:=nK d g hj
   obtain⟨o,s,f⟩:=qJp (N:=N) (pr:=q.2) d h (by omega) (by omega) (q.1+1,[]) r (by simp)
   simp only[s,j0,bC]
   cases hc:cZ ts q.2 32 (q.1+1,[]) with
   |inl z=>
    rw[hc] at f
    obtain⟨a,i,pr',b,hi,p⟩:=f
    simp only[p,qT a hi,j0]
    exact⟨_,rfl,a,i,pr',b,hi,rfl⟩
   |inr c=>
    rw[hc] at f
    obtain⟨⟨B,p,t,D⟩,-⟩:=zC d 32 (q.1+1,[]) c.1 c.2 r (by simp) hc
    have hr':o=(gR ts q.2 c.1,(c.2:Int)):=f
    simp only[hr',rL c.1 p h,j0,qD]
    cases y:dP ts ⟨#[59]⟩ c.1.1 with
    |inl z=>exact⟨_,rfl,qB y,c.1.1,q.2,c.1.2,p,rfl⟩
    |inr m=>exact⟨_,rfl,rfl⟩
 unfold tU
 by_cases c:k=1
 .have c':(k==1)=true:=by simpa using c
  simp only[c',jJ,rL (i,[]) hi h,j0,if_pos c,uR,lH]
  cases h1:dP ts ⟨#[40]⟩ i with
  |inl z=>
   have a:=qB h1
   obtain⟨M,hM⟩:∃M,N=M+1:=⟨N-1,by omega⟩
   have u:aI (mZ N) N (bN (bR ts z i pr []) [])=some (bN (bR ts z i pr []) []):=by
    have r:aI (mZ N) N (bN (bR ts z i pr []) [])=aI (mZ N) (M+1) (bN (bR ts z i pr []) []):=by rw[<-hM]
    rw[r];exact GP a M []
   simp only[u,j0,bC]
   exact badt z _ [] ⟨a,i,pr,[],hi,rfl⟩
  |inr j=>
   obtain⟨rfl,a,-⟩:=nK d hi h1
   obtain⟨o,s,f⟩:=qMs (N:=N) (pr:=pr) (b:=[]) d h x (i+1) a
   simp only[s,j0,bC]
   cases hP:(if bP ts 4 eL (i+1)=true then .inr (i+1+1,[]) else sU ts (ts.length+1) [] (i+1):bZ⊕(Nat×List BA)) with
   |inl z=>
    rw[hP] at f
    obtain⟨st,l,r,rfl⟩:=f
    exact badt z st l r
   |inr q=>
    rw[hP] at f
    have hr':o=bN (gR ts pr (q.1,[])) q.2:=f
    have g:q.1<ts.length/\q.2.length<=8:=by
     split at hP
     .rename_i hc
      obtain rfl:=Sum.inr.inj hP
      exact⟨mN d a (by decide) hc,by simp⟩
     obtain⟨_,p,t⟩:=NV d _ _ _ q a (by simp) hP
     exact⟨p,t⟩
    rw[hr']
    exact goodt q g.1 g.2
 have c':(k==1)=false:=by simpa using c
 simp only[c',jB,jI,j0,if_neg c]
 exact goodt (i,[]) hi (by simp)
def HE(N:Nat)(f:Sr)(t:bQ)(st:RT)(k:Int):Option (RT×Dl):=
 ((if((List.length f.2.2:Int)==64)=true then eW N st t.2.2.2 2 else some st):Option RT).bind fun o2=>(eR N o2).bind fun b=>
 ((if(k==3)=true then pN N b.1 true else mL N b.1):Option (RT×BA)).bind fun a=>
 ((if(a.1.2.2.2.1==0)=true then uP N f k a.2 else some false):Option Bool).bind fun c=>
 ((if c=true then eW N a.1 b.2.2.2.2 10 else some a.1):Option RT).bind fun b=>tU N b k a.2
theorem qHb(g:1000005<N){f:Sr}{t:bQ}{z:bZ}{i:Nat}{b:List Ex}(c:z.2≠0)(hi:i<ts.length)(k:Int):∃o,
  ((eR N (bR ts z i pr b)).bind fun d=>((if(k==3)=true then pN N d.1 true else mL N d.1):Option (RT×BA)).bind fun a=>
   ((if(a.1.2.2.2.1==0)=true then uP N f k a.2 else some false):Option Bool).bind fun h=>
   ((if h=true then eW N a.1 d.2.2.2.2 10 else some a.1):Option RT).bind fun l=>tU N l k a.2)=some o/\sM ts z o.1:=by
 have hz':((bR ts z i pr b).2.2.2.1==0)=false:=by simpa[bR] using c
 have e:((if(k==3)=true then pN N (bR ts z i pr b) true else mL N (bR ts z i pr b)):Option (RT×BA))=some (bR ts z i pr b,⟨#[]⟩):=by
  rw[QL c hi,LI c hi];split<;>rfl
 simp only[qW hi,j0,e,hz',jB,jI]
 exact OW g c hi k _
theorem qGu(h:OkT ts)(p:ts.length<1000000)(n:1000005<N){f:Sr}(r:f.2.2.length<=64)(t:bQ)(i:Nat)(hi:i<ts.length)(k:Int):∃o,HE N f t (gR ts pr (i,[])) k=some o/\
  IQ ts (if f.2.2.length=64 then dX t 2 else bC (if k=3 then pH ts i else nE ts i) fun a=>
   if f.2.2.any (fun d=>d.1==k&&decide (d.2.1=a.2.2.1)) then dX a.2 10
   else bC (if k=1 then uR ts a.1 else .inr (a.1,[])) fun b=>
    bC (dP ts vX b.1) fun j=>bC (cZ ts b.2 32 (j,[])) fun c=>
    bC (dP ts qD c.1.1) fun m=> .inr (m,(k,a.2.2.1,b.2,c.1.2))) o:=by
 unfold HE
 by_cases k1:f.2.2.length=64
 .have k1':((f.2.2.length:Int)==64)=true:=by simp;omega
  rw[if_pos k1]
  simp only[k1',jJ,oE,j0,dX]
  exact qHb (t:=t) n (show(2:Int)≠0 by decide) hi k
 have k1':((f.2.2.length:Int)==64)=false:=by simp;omega
 rw[if_neg k1]
 simp only[k1',jB,jI,j0,lF (i,[]) hi]
 have e:((if(k==3)=true then pN N (gR ts pr (i,[])) true else mL N (gR ts pr (i,[]))):Option (RT×BA))=
   some (match(if k=3 then pH ts i else nE ts i) with| .inl z=>(bR ts z i pr [],⟨#[]⟩)| .inr a=>(gR ts pr (a.1,[]),a.2.2.1)):=by
  by_cases k3:k=3
  .have k3':(k==3)=true:=by simpa using k3
   rw[if_pos k3',if_pos k3,QW (i,[]) hi p (by omega)]<;>rfl
  have k3':(k==3)=false:=by simpa using k3
  rw[if_neg (by rw[k3'];decide),if_neg k3,DG (i,[]) hi p (by omega)]<;>rfl
 rw[e]
 simp only[j0]
 cases hX:(if k=3 then pH ts i else nE ts i) with
 |inl z=>
  have g:z.2≠0:=by
   split at hX
   .exact LD hX
   exact LK hX
  have hz':((bR ts z i pr []).2.2.2.1==0)=false:=by simpa[bR] using g
  simp only[hz',jB,jI,j0,bC]
  exact OW n g hi k _
 |inr a=>
  have ga:a=(i+1,aJ ts i)/\i+1<ts.length:=by
   split at hX
   .obtain⟨e,g,-⟩:=zI h hi hX;exact⟨e,g⟩
   obtain⟨e,g,-⟩:=zN h hi hX;exact⟨e,g⟩
  obtain⟨rfl,g⟩:=ga
  have q:((gR ts pr (i+1,[])).2.2.2.1==0)=true:=rfl
  simp only[q,jJ,qAg (N:=N) (f:=f) (k:=k) (s:=(aJ ts i).2.1) (by omega) (by omega),j0]
  rw[show bC (Sum.inr (i+1,aJ ts i)) (fun a:Nat×bQ=>if f.2.2.any (fun d=>d.1==k&&decide (d.2.1=a.2.2.1))=true then dX a.2 10
   else bC (if k=1 then uR ts a.1 else .inr (a.1,[])) fun b=>
    bC (dP ts vX b.1) fun j=>bC (cZ ts b.2 32 (j,[])) fun c=>
    bC (dP ts qD c.1.1) fun m=>(.inr (m,(k,a.2.2.1,b.2,c.1.2)):bZ⊕(Nat×Dl)))=(if f.2.2.any (fun d=>d.1==k&&decide (d.2.1=(aJ ts i).2.1))=true then dX (aJ ts i) 10
   else bC (if k=1 then uR ts (i+1) else .inr (i+1,[])) fun b=>
    bC (dP ts vX b.1) fun j=>bC (cZ ts b.2 32 (j,[])) fun c=>
    bC (dP ts qD c.1.1) fun m=>(.inr (m,(k,(aJ ts i).2.1,b.2,c.1.2)):bZ⊕(Nat×Dl))) from rfl]
  rcases eN (f.2.2.any fun d=>d.1==k&&decide (d.2.1=(aJ ts i).2.1)) with l|l
  .rw[if_pos l]
   simp only[l,jJ,oE,j0,dX]
   exact OW n (show(10:Int)≠0 by decide) g k _
  rw[if_neg (by rw[l];decide)]
  simp only[l,jB,jI,j0]
  exact qHr h p n (i+1) g k _
end
section
variable {N:Nat} {ts:List bQ} {pr:List BA}
abbrev RN:=List bQ×Int×Int×Int×List BA×List Ex×List Int×BA
def qAx(st:RT)(l:BA):RN:=(st.1,st.2.1,st.2.2.1,st.2.2.2.1,st.2.2.2.2.1,st.2.2.2.2.2.1,st.2.2.2.2.2.2,l)
theorem qPq(r:OkT ts)(p:ts.length<1000000)(B:1000005<N){f:Sr}(D:f.2.2.length<=64)(i:Nat)(b:List Ex)(hi:i<ts.length):∃o,EV N (gR ts pr (i,b)) f=some o/\IQ ts (qF ts f.2.2 i) o:=by
 have A:((gR ts pr (i,b)).1,(gR ts pr (i,b)).2.1,(gR ts pr (i,b)).2.2.1,(gR ts pr (i,b)).2.2.2.1,([]:List BA),([]:List Ex),(gR ts pr (i,b)).2.2.2.2.2.2)=gR ts [] (i,[]):=rfl
 have rest:∀(st:RT) (k:Int),(((if((List.length f.2.2:Int)==64)=true then((eW N st (aJ ts i).2.2.2 2).bind fun G=>some G) else(some st)):Option RT).bind fun o2=>(eR N o2).bind fun q=>((if(k==3)=true then((pN N q.1 true).bind fun y=>some (qAx y.1 y.2)) else((mL N q.1).bind fun z=>some (qAx z.1 z.2))):Option RN).bind fun a=>((if(a.2.2.2.1==0)=true then((uP N f k a.2.2.2.2.2.2.2).bind fun v=>some v) else(some false)):Option Bool).bind fun E=>((if E=true then((eW N (a.1,a.2.1,a.2.2.1,a.2.2.2.1,a.2.2.2.2.1,a.2.2.2.2.2.1,a.2.2.2.2.2.2.1) q.2.2.2.2 10).bind fun x=>some x) else(some (a.1,a.2.1,a.2.2.1,a.2.2.2.1,a.2.2.2.2.1,a.2.2.2.2.2.1,a.2.2.2.2.2.2.1))):Option RT).bind fun F=>tU N F k a.2.2.2.2.2.2.2)=HE N f (aJ ts i) st k:=by
  intro st k
  unfold HE
  simp only[pM]
  refine congrArg _ (funext fun o2=>congrArg _ (funext fun q=> ?_))
  rcases eN (k==3) with c|c<;>simp only[c,jJ,jB,jI,fL,j0]<;>rfl
 have fin:∀(k:Int),k≠0->AC (aJ ts i).2.1=k->(aJ ts i).1=1->∃o,HE N f (aJ ts i) (gR ts [] (i+1,[])) k=some o/\IQ ts (qF ts f.2.2 i) o:=by
  intro k u t d
  have g:=r.next hi (show(aJ ts i).1≠5 by rw[d];decide)
  obtain⟨o,e,l⟩:=qGu (N:=N) (pr:=[]) r p B D (aJ ts i) (i+1) g k
  refine⟨o,e,?_⟩
  unfold qF
  dsimp only
  rw[t,if_neg (by rintro(h|h);exact h d;exact u h)]
  exact l
 simp only[EV,A,lF (i,[]) hi,j0,Prod.eta,qC (i,[]) hi p]
 by_cases d:(aJ ts i).1=1
 .have n:∀s,bP ts 1 s i=decide ((aJ ts i).2.1=s):=fun s=>XX d
  simp only[n]
  by_cases w1:(aJ ts i).2.1=(⟨#[102,117,110,99]⟩:BA)
  .simp only[kC w1,jJ,j0]
   obtain⟨o,e,l⟩:=fin 1 (by decide) (by rw[w1];rfl) d
   refine⟨o,Eq.trans ?_ e,l⟩
   refine Eq.trans ?_ (rest (gR ts [] (i+1,[])) 1)
   simp only[pM,tU]
   rfl
  simp only[jX w1,jB,jI,j0,qC (i,[]) hi p,n,Prod.eta]
  by_cases w2:(aJ ts i).2.1=(⟨#[116,101,115,116]⟩:BA)
  .simp only[kC w2,jJ,j0]
   obtain⟨o,e,l⟩:=fin 2 (by decide) (by rw[w2];rfl) d
   refine⟨o,Eq.trans ?_ e,l⟩
   refine Eq.trans ?_ (rest (gR ts [] (i+1,[])) 2)
   simp only[pM,tU]
   rfl
  simp only[jX w2,jB,jI,j0,qC (i,[]) hi p,n,Prod.eta]
  by_cases w3:(aJ ts i).2.1=(⟨#[103,101,110]⟩:BA)
  .simp only[kC w3,jJ,j0]
   obtain⟨o,e,l⟩:=fin 3 (by decide) (by rw[w3];rfl) d
   refine⟨o,Eq.trans ?_ e,l⟩
   refine Eq.trans ?_ (rest (gR ts [] (i+1,[])) 3)
   simp only[pM,tU]
   rfl
  simp only[jX w3,jB,jI,j0,oE,Prod.eta]
  refine⟨_,rfl,?_⟩
  have t:AC (aJ ts i).2.1=0:=by
   unfold AC
   rw[if_neg (show ¬(aJ ts i).2.1=IH from w1),if_neg (show ¬(aJ ts i).2.1=HZ from w2),if_neg (show ¬(aJ ts i).2.1=IP from w3)]
  unfold qF
  dsimp only
  rw[if_pos (.inr t)]
  exact⟨show(9:Int)≠0 by decide,i,[],[],hi,rfl⟩
 have n:∀s,bP ts 1 s i=false:=fun s=>qAb d
 simp only[n,jB,jI,j0,qC (i,[]) hi p,oE,Prod.eta]
 refine⟨_,rfl,?_⟩
 unfold qF
 dsimp only
 rw[if_pos (.inl d)]
 exact⟨show(9:Int)≠0 by decide,i,[],[],hi,rfl⟩
def SC(ts:List bQ)(pr:List BA)(b:List Ex)(r:bZ⊕(Nat×List BA))(o:RL):Prop:=
 match r with
 | .inl z=>∃st l,sM ts z st/\o=bN st l
 | .inr q=>o=bN (gR ts pr (q.1,b)) q.2
theorem TV{y5:RT×BA}{z:bZ}{i:Nat}{pr':List BA}{b:List Ex}(a:z.2≠0)(M:Nat)(l:List BA):aI (pC N y5) (M+1) (bN (bR ts z i pr' b) l)=some (bN (bR ts z i pr' b) l):=by
 have hz':((bN (bR ts z i pr' b) l).2.2.2.1==0)=false:=by simpa[bR,bN] using a
 simp only[aI,pC,hz',jB,jI,j0]
theorem TL(k:OkT ts)(u:ts.length<1000000)(G:1000005<N){y5:RT×BA}{b:List Ex}:∀(n M:Nat) (l:List BA) (i:Nat),i<ts.length->l.length<=8->ts.length<i+n->ts.length+2<i+M->
  ∃o,aI (pC N y5) M (bN (gR ts pr (i,b)) l)=some o/\SC ts pr b (qQ ts y5.2 n l i) o
 |0,M,l,i,hi,_,h,_=>by omega
 |n+1,0,l,i,hi,_,_,h=>by omega
 |n+1,M+1,l,i,hi,K,S,R=>by
  have F:((bN (gR ts pr (i,b)) l).2.2.2.1==0)=true:=rfl
  have D:∀st:RT,∀l,((bN st l).1,(bN st l).2.1,(bN st l).2.2.1,(bN st l).2.2.2.1,(bN st l).2.2.2.2.1,(bN st l).2.2.2.2.2.1,(bN st l).2.2.2.2.2.2.1)=st:=fun _ _=>rfl
  have E:∀st:RT,∀l,(bN st l).2.2.2.2.2.2.2=l:=fun _ _=>rfl
  have e:∀s:BA,cP 16 l [s]=some (l++[s]):=fun s=>pP (by simp only[jD,jF];omega) (by omega)
  have t:∀s,pO N l s=some (decide (s∈l)):=fun s=>IK (by omega) (by omega)
  have bad:∀(z:bZ) (i:Nat) (pr':List BA) (b':List Ex) (l:List BA),z.2≠0->i<ts.length->∃o,aI (pC N y5) M (bN (bR ts z i pr' b') l)=some o/\SC ts pr b (.inl z) o:=by
   intro z i pr' b' l c hi
   obtain⟨M',rfl⟩:∃M',M=M'+1:=⟨M-1,by omega⟩
   exact⟨_,TV c M' l,_,_,⟨c,i,pr',b',hi,rfl⟩,rfl⟩
  -- from the import's name on, behind an error
  have badn:∀(z:bZ) (i:Nat) (pr':List BA) (b':List Ex),z.2≠0->i<ts.length->∃o,((eR N (bR ts z i pr' b')).bind fun f=>(mL N f.1).bind fun a=>((if(a.1.2.2.2.1==0)=true then(if(a.2.toList==y5.2.toList)=true then(some true) else(pO N l a.2)) else(some false)):Option Bool).bind fun y=>((if y=true then eW N a.1 f.2.2.2.2 10 else some a.1):Option RT).bind fun A=>(eM N A (⟨#[59]⟩:BA)).bind fun q=>(cP 16 l ([a.2])).bind fun v=>aI (pC N y5) M (bN q v))=some o/\SC ts pr b (.inl z) o:=by
   intro z i pr' b' c hi
   have hz':((bR ts z i pr' b').2.2.2.1==0)=false:=by simpa[bR] using c
   simp only[qW hi,LI c hi,j0,hz',jB,jI,qT c hi,e]
   exact bad z i pr' b' _ c hi
  -- the step
  have step:aI (pC N y5) (M+1) (bN (gR ts pr (i,b)) l)=(if bP ts 1 vA i=true then
    ((if((l.length:Int)==8)=true then some (bR ts ((aJ ts i).2.2.2,2) (i+1) pr b) else some (gR ts pr (i+1,b))):Option RT).bind fun st=>((eR N st).bind fun f=>(mL N f.1).bind fun a=>((if(a.1.2.2.2.1==0)=true then(if(a.2.toList==y5.2.toList)=true then(some true) else(pO N l a.2)) else(some false)):Option Bool).bind fun y=>((if y=true then eW N a.1 f.2.2.2.2 10 else some a.1):Option RT).bind fun A=>(eM N A (⟨#[59]⟩:BA)).bind fun q=>(cP 16 l ([a.2])).bind fun v=>aI (pC N y5) M (bN q v))
    else some (bN (gR ts pr (i,b)) l)):=by
   have H:bP ts 1 vA i=((aJ ts i).1==1&&decide ((aJ ts i).2.1=(⟨#[105,109,112,111,114,116]⟩:BA))):=rfl
   have B:=tW (show i<1000000 by omega)
   simp only[aI,pC,F,jJ,D,E,lF (i,b) hi,j0,Prod.eta,iY,H]
   rcases eN ((aJ ts i).1==1) with d|d
   rotate_left
   .simp only[d,jB,jI,j0,Bool.false_and]
    rfl
   rcases eN (decide ((aJ ts i).2.1=(⟨#[105,109,112,111,114,116]⟩:BA))) with p|p
   rotate_left
   .simp only[d,p,jB,jI,jJ,j0,Bool.and_false]
    rfl
   simp only[d,p,jJ,j0,Bool.and_true]
   rcases eN ((l.length:Int)==8) with r|r
   .simp only[r,jJ,j0,lF (i,b) hi,oE,pM]
    have e3:((bR ts ((aJ ts i).2.2.2,2) i pr b).1,IntKind.wrap .i64 ((bR ts ((aJ ts i).2.2.2,2) i pr b).2.1+1),(bR ts ((aJ ts i).2.2.2,2) i pr b).2.2.1,(bR ts ((aJ ts i).2.2.2,2) i pr b).2.2.2.1,(bR ts ((aJ ts i).2.2.2,2) i pr b).2.2.2.2.1,(bR ts ((aJ ts i).2.2.2,2) i pr b).2.2.2.2.2.1,(bR ts ((aJ ts i).2.2.2,2) i pr b).2.2.2.2.2.2)=bR ts ((aJ ts i).2.2.2,2) (i+1) pr b:=by
     show(ts,IntKind.wrap .i64 ((i:Int)+1),(aJ ts i).2.2.2,(2:Int),pr,b,([]:List Int))=_
     rw[B];rfl
    rw[e3]
    simp only[fL,j0]
    rfl
   simp only[r,jB,jI,j0,pM]
   have e3:((gR ts pr (i,b)).1,IntKind.wrap .i64 ((gR ts pr (i,b)).2.1+1),(gR ts pr (i,b)).2.2.1,(gR ts pr (i,b)).2.2.2.1,(gR ts pr (i,b)).2.2.2.2.1,(gR ts pr (i,b)).2.2.2.2.2.1,(gR ts pr (i,b)).2.2.2.2.2.2)=gR ts pr (i+1,b):=by
    show(ts,IntKind.wrap .i64 ((i:Int)+1),(0:Int),(0:Int),pr,b,([]:List Int))=_
    rw[B];rfl
   rw[e3]
   simp only[fL,j0]
   rfl
  rw[step]
  simp only[qQ]
  rcases eN (bP ts 1 vA i) with d|d
  rotate_left
  .simp only[d,jB,jI]
   exact⟨_,rfl,rfl⟩
  have g:=mN k hi (by decide) d
  simp only[d,jJ]
  by_cases k2:l.length=8
  .have k2':((l.length:Int)==8)=true:=by simp;omega
   rw[if_pos k2]
   simp only[k2',jJ,j0,dX]
   exact badn _ _ _ _ (show(2:Int)≠0 by decide) g
  have k2':((l.length:Int)==8)=false:=by simp;omega
  rw[if_neg k2]
  simp only[k2',jB,jI,j0,lF (i+1,b) g,DG (i+1,b) g u (by omega:100<N)]
  cases hx:nE ts (i+1) with
  |inl z=>
   have c:=LK hx
   have hz':((bR ts z (i+1) pr b).2.2.2.1==0)=false:=by simpa[bR] using c
   simp only[hz',jB,jI,j0,qT c g,e,bC]
   exact bad _ _ _ _ _ c g
  |inr x=>
   obtain⟨rfl,p,-⟩:=zN k g hx
   have r:((gR ts pr (i+1+1,b)).2.2.2.1==0)=true:=rfl
   simp only[r,jJ,iY,t,bC]
   by_cases k3:(aJ ts (i+1)).2.1=y5.2\/(aJ ts (i+1)).2.1∈l
   .rw[if_pos k3]
    have:((if decide ((aJ ts (i+1)).2.1=y5.2)=true then some true else some (decide ((aJ ts (i+1)).2.1∈l))):Option Bool)=some true:=by
     rcases k3 with h|h
     .rw[if_pos (kC h)]
     rw[kC h];split<;>rfl
    rw[this]
    simp only[j0,jJ,oE,e,dX]
    have c:(((aJ ts (i+1)).2.2.2,(10:Int)):bZ).2≠0:=show(10:Int)≠0 by decide
    simp only[qT c p,j0]
    exact bad _ _ _ _ _ c p
   rw[if_neg k3]
   have:((if decide ((aJ ts (i+1)).2.1=y5.2)=true then some true else some (decide ((aJ ts (i+1)).2.1∈l))):Option Bool)=some false:=by
    rw[if_neg (by simp only[jA];exact fun h=>k3 (.inl h)),jX (fun h=>k3 (.inr h))]
   rw[this]
   simp only[j0,jB,jI,rL (i+1+1,b) p u,e,qD]
   cases c:dP ts ⟨#[59]⟩ (i+1+1) with
   |inl z=>exact bad _ _ _ _ _ (qB c) p
   |inr j=>
    obtain⟨rfl,B,-⟩:=nK k p c
    exact TL k u G n M _ (i+1+1+1) B (by simp only[jC,jD,jF];omega) (by omega) (by omega)
end
section
variable {N:Nat} {ts:List bQ} {pr:List BA}
abbrev RD:=List bQ×Int×Int×Int×List BA×List Ex×List Int×List Dl
def lO(st:RT)(l:List Dl):RD:=(st.1,st.2.1,st.2.2.1,st.2.2.2.1,st.2.2.2.2.1,st.2.2.2.2.2.1,st.2.2.2.2.2.2,l)
def relS(ts:List bQ)(r:bZ⊕List Dl)(o:RD):Prop:=
 match r with
 | .inl z=>∃st l,sM ts z st/\o=lO st l
 | .inr a=>∃pr p,o=lO (gR ts pr p) a
theorem VA{y5:RT×BA}{o2:RL}{z:bZ}{i:Nat}{pr':List BA}{b:List Ex}(a:z.2≠0)(M:Nat)(l:List Dl):aI (qJ N y5 o2) (M+1) (lO (bR ts z i pr' b) l)=some (lO (bR ts z i pr' b) l):=by
 have hz':((lO (bR ts z i pr' b) l).2.2.2.1==0)=false:=by simpa[bR,lO] using a
 simp only[aI,qJ,hz',jB,jI,j0]
theorem UC(c:OkT ts)(k:ts.length<1000000)(g:1000005<N){y5:RT×BA}{o2:RL}:∀(n M:Nat) (l:List Dl) (i:Nat) (pr:List BA) (b:List Ex),i<ts.length->l.length<=64->ts.length<i+n->ts.length+2<i+M->
  ∃o,aI (qJ N y5 o2) M (lO (gR ts pr (i,b)) l)=some o/\relS ts (wW ts n l i) o
 |0,M,l,i,_,_,hi,_,h,_=>by omega
 |n+1,0,l,i,_,_,hi,_,_,h=>by omega
 |n+1,M+1,l,i,pr,b,hi,e,y,x=>by
  have t:((lO (gR ts pr (i,b)) l).2.2.2.1==0)=true:=rfl
  have r:∀st:RT,∀l,((lO st l).1,(lO st l).2.1,(lO st l).2.2.1,(lO st l).2.2.2.1,(lO st l).2.2.2.2.1,(lO st l).2.2.2.2.2.1,(lO st l).2.2.2.2.2.2.1)=st:=fun _ _=>rfl
  have s:∀st:RT,∀l,(lO st l).2.2.2.2.2.2.2=l:=fun _ _=>rfl
  simp only[aI,qJ,t,jJ,r,s,lF (i,b) hi,j0,Prod.eta,wW]
  by_cases k1:(aJ ts i).1=5
  .have k1':((aJ ts i).1 !=5)=false:=by simp[k1]
   rw[if_pos k1]
   simp only[k1',jB,jI,j0]
   exact⟨_,rfl,pr,(i,b),rfl⟩
  have k1':((aJ ts i).1 !=5)=true:=by simp[k1]
  rw[if_neg k1]
  simp only[k1',jJ]
  obtain⟨o,v,d⟩:=qPq (N:=N) (pr:=pr) (f:=(y5.2,o2.2.2.2.2.2.2.2,l)) c k g e i b hi
  simp only[v,j0]
  rw[pP (by simp only[jD,jF];omega) (by omega)]
  simp only[j0]
  cases hd:qF ts l i with
  |inl z=>
   rw[show qF ts (y5.2,o2.2.2.2.2.2.2.2,l).2.2 i=qF ts l i from rfl,hd] at d
   obtain⟨q,j,pr',b',u,p⟩:=d
   obtain⟨M',rfl⟩:∃M',M=M'+1:=⟨M-1,by omega⟩
   rw[p]
   exact⟨_,VA q M' _,_,_,⟨q,j,pr',b',u,rfl⟩,rfl⟩
  |inr a=>
   rw[show qF ts (y5.2,o2.2.2.2.2.2.2.2,l).2.2 i=qF ts l i from rfl,hd] at d
   obtain⟨q,p,u⟩:=qIc c hi hd
   have hr':o=(gR ts a.2.2.2.1 (a.1,a.2.2.2.2),a.2):=d
   rw[hr']
   exact UC c k g n M (l++[a.2]) a.1 _ _ p (by simp only[jC,jD,jF];omega) (by omega) (by omega)
theorem qPj(d:OkT ts)(h:ts.length<1000000)(A:1000005<N):
  ((nX N (ts,0,0,0,[],[],[]) (⟨#[112,97,99,107,97,103,101]⟩:BA)).bind fun s=>((if(!s.2)=true then((eR N s.1).bind fun D=>eW N D.1 D.2.2.2.2 9) else(some s.1)):Option RT).bind fun H=>(mL N H).bind fun y5=>(eM N y5.1 (⟨#[59]⟩:BA)).bind fun t=>(aI (pC N y5) N (bN t [])).bind fun o2=>(aI (qJ N y5 o2) N (o2.1,o2.2.1,o2.2.2.1,o2.2.2.2.1,o2.2.2.2.2.1,o2.2.2.2.2.2.1,o2.2.2.2.2.2.2.1,[])).bind fun a=>if(a.2.2.2.1 !=0)=true then(some (tC,a.2.2.1,a.2.2.2.1)) else(some (((y5.2,o2.2.2.2.2.2.2.2,a.2.2.2.2.2.2.2):Sr),(0:Int),(0:Int))))=some (match DN ts with| .inl z=>(tC,z.1,z.2)| .inr f=>(f,0,0)):=by
 have p:0<ts.length:=fU.2 d.1
 obtain⟨M,hM⟩:∃M,N=M+1:=⟨N-1,by omega⟩
 have E:((ts,(0:Int),(0:Int),(0:Int),[],[],[]):RT)=gR ts [] (0,[]):=rfl
 -- the loops behind an error
 have badD:∀(y5:RT×BA) (o2:RL) (z:bZ) (st:RT),sM ts z st->((aI (qJ N y5 o2) N (lO st [])).bind fun a=>if(a.2.2.2.1 !=0)=true then(some (tC,a.2.2.1,a.2.2.2.1)) else(some (((y5.2,o2.2.2.2.2.2.2.2,a.2.2.2.2.2.2.2):Sr),(0:Int),(0:Int))))=some (tC,z.1,z.2):=by
  rintro y5 o2 z st ⟨c,i,pr',b,hi,rfl⟩
  have g:aI (qJ N y5 o2) N (lO (bR ts z i pr' b) [])=some (lO (bR ts z i pr' b) []):=by
   have e:aI (qJ N y5 o2) N (lO (bR ts z i pr' b) [])=aI (qJ N y5 o2) (M+1) (lO (bR ts z i pr' b) []):=by rw[<-hM]
   rw[e];exact VA c M []
  have hz':((lO (bR ts z i pr' b) []).2.2.2.1 !=0)=true:=by simpa[bR,lO] using c
  rw[g]
  simp only[j0,hz',jJ]
  rfl
 have badI:∀(y5:RT×BA) (z:bZ) (i:Nat) (pr':List BA) (b:List Ex),z.2≠0->i<ts.length->((aI (pC N y5) N (bN (bR ts z i pr' b) [])).bind fun o2=>(aI (qJ N y5 o2) N (o2.1,o2.2.1,o2.2.2.1,o2.2.2.2.1,o2.2.2.2.2.1,o2.2.2.2.2.2.1,o2.2.2.2.2.2.2.1,[])).bind fun a=>if(a.2.2.2.1 !=0)=true then(some (tC,a.2.2.1,a.2.2.2.1)) else(some (((y5.2,o2.2.2.2.2.2.2.2,a.2.2.2.2.2.2.2):Sr),(0:Int),(0:Int))))=some (tC,z.1,z.2):=by
  intro y5 z i pr' b c hi
  have g:aI (pC N y5) N (bN (bR ts z i pr' b) [])=some (bN (bR ts z i pr' b) []):=by
   have e:aI (pC N y5) N (bN (bR ts z i pr' b) [])=aI (pC N y5) (M+1) (bN (bR ts z i pr' b) []):=by rw[<-hM]
   rw[e];exact TV c M []
  rw[g]
  simp only[j0]
  exact badD y5 (bN (bR ts z i pr' b) []) z (bR ts z i pr' b) ⟨c,i,pr',b,hi,rfl⟩
 have bad:∀(z:bZ) (i:Nat) (pr':List BA) (b:List Ex),z.2≠0->i<ts.length->((mL N (bR ts z i pr' b)).bind fun y5=>(eM N y5.1 (⟨#[59]⟩:BA)).bind fun t=>(aI (pC N y5) N (bN t [])).bind fun o2=>(aI (qJ N y5 o2) N (o2.1,o2.2.1,o2.2.2.1,o2.2.2.2.1,o2.2.2.2.2.1,o2.2.2.2.2.2.1,o2.2.2.2.2.2.2.1,[])).bind fun a=>if(a.2.2.2.1 !=0)=true then(some (tC,a.2.2.1,a.2.2.2.1)) else(some (((y5.2,o2.2.2.2.2.2.2.2,a.2.2.2.2.2.2.2):Sr),(0:Int),(0:Int))))=some (tC,z.1,z.2):=by
  intro z i pr' b c hi
  simp only[LI c hi,qT c hi,j0]
  exact badI _ z i pr' b c hi
 rw[E]
 simp only[qC (0,[]) p h,j0,DN,uA,HN]
 rcases eN (bP ts 1 ⟨#[112,97,99,107,97,103,101]⟩ 0) with k|k
 rotate_left
 .simp only[k,jB,jI,kQ,jJ,lF (0,[]) p,oE,j0,dX,bC]
  exact bad _ _ _ _ (show(9:Int)≠0 by decide) p
 have n:=mN d p (by decide) k
 simp only[k,jJ,gD,jB,jI,j0,DG (0+1,[]) n h (by omega:100<N),bC]
 cases h2:nE ts (0+1) with
 |inl z=>
  have c:=LK h2
  simp only[qT c n,j0]
  exact badI _ z _ _ _ c n
 |inr x=>
  obtain⟨rfl,r,-⟩:=zN d n h2
  simp only[rL (0+1+1,[]) r h,j0,qD]
  cases v:dP ts ⟨#[59]⟩ (0+1+1) with
  |inl z=>exact badI _ z _ _ _ (qB v) r
  |inr j=>
   obtain⟨rfl,u,-⟩:=nK d r v
   obtain⟨o,F,q⟩:=TL (N:=N) (pr:=[]) (b:=[]) (y5:=(gR ts [] (0+1+1,[]),(aJ ts (0+1)).2.1)) d h A (ts.length+1) N [] (0+1+1+1) u (by simp) (by omega) (by omega)
   simp only[F,j0]
   cases h4:qQ ts (aJ ts (0+1)).2.1 (ts.length+1) [] (0+1+1+1) with
   |inl z=>
    rw[show qQ ts ((gR ts [] (0+1+1,[]),(aJ ts (0+1)).2.1):RT×BA).2 (ts.length+1) [] (0+1+1+1)=qQ ts (aJ ts (0+1)).2.1 (ts.length+1) [] (0+1+1+1) from rfl,h4] at q
    obtain⟨st,l,g,rfl⟩:=q
    exact badD _ (bN st l) z st g
   |inr y=>
    rw[show qQ ts ((gR ts [] (0+1+1,[]),(aJ ts (0+1)).2.1):RT×BA).2 (ts.length+1) [] (0+1+1+1)=qQ ts (aJ ts (0+1)).2.1 (ts.length+1) [] (0+1+1+1) from rfl,h4] at q
    have hr':o=bN (gR ts [] (y.1,[])) y.2:=q
    obtain⟨K,G,k3⟩:=TQ d _ _ _ y u (by simp) h4
    obtain⟨o2,B,g⟩:=UC (N:=N) (y5:=(gR ts [] (0+1+1,[]),(aJ ts (0+1)).2.1)) (o2:=o) d h A (ts.length+1) N [] y.1 [] [] G (by simp) (by omega) (by omega)
    have e3:(o.1,o.2.1,o.2.2.1,o.2.2.2.1,o.2.2.2.2.1,o.2.2.2.2.2.1,o.2.2.2.2.2.2.1,([]:List Dl))=lO (gR ts [] (y.1,[])) []:=by rw[hr'];rfl
    rw[e3,B]
    simp only[j0]
    cases h5:wW ts (ts.length+1) [] y.1 with
    |inl z=>
     rw[h5] at g
     obtain⟨st,l,⟨c,i,pr',b,hi,rfl⟩,rfl⟩:=g
     have hz':((lO (bR ts z i pr' b) l).2.2.2.1 !=0)=true:=by simpa[bR,lO] using c
     simp only[hz',jJ]
     rfl
    |inr l=>
     rw[h5] at g
     obtain⟨pr',p',rfl⟩:=g
     have hz':((lO (gR ts pr' p') l).2.2.2.1 !=0)=false:=rfl
     simp only[hz',jB,jI]
     rw[hr']
     rfl
end
theorem qFl{N:Nat}(s:BA)(b:1000005<N):FU N s=some (zV s):=by
 simp only[FU,qEs (N:=N) (by omega),j0,zV]
 by_cases h:(oU s).2.2=0
 .rw[if_neg (show ¬((oU s).2.2 !=0)=true by simpa using h),if_neg (show ¬(oU s).2.2≠0 by simpa using h)]
  obtain⟨a,d,e⟩:=qGl h
  have c:=qPj (N:=N) a (by omega) b
  refine Eq.trans ?_ (Eq.trans c ?_)
  .simp only[Prod.eta,pM];rfl
  cases DN (oU s).1<;>rfl
 rw[if_pos (show((oU s).2.2 !=0)=true by simpa using h),if_pos h];rfl
abbrev Hd:=Int×Int×Int×BA
inductive Rose where
 |mk (h:Hd) (ks:List Rose)
def Rose.hd:Rose->Hd
 | .mk h _=>h
def Rose.ks:Rose->List Rose
 | .mk _ ks=>ks
mutual
def Rose.size:Rose->Nat
 | .mk _ ks=>aY ks+1
def aY:List Rose->Nat
 |[]=>0
 |t::l=>t.size+aY l
end
def bW:Nat->List Rose->List Int
 |_,[]=>[]
 |b,t::l=>((b+t.size-1:Nat):Int)::bW (b+t.size) l
def eD(h:Hd)(args:List Int):Ex:=(h.1,h.2.1,h.2.2.1,h.2.2.2,args)
mutual
def Rose.flat(b:Nat):Rose->List Ex
 | .mk h ks=>dS b ks++[eD h (bW b ks)]
def dS(b:Nat):List Rose->List Ex
 |[]=>[]
 |t::l=>t.flat b++dS (b+t.size) l
end
theorem Rose.pos(t:Rose):0<t.size:=by cases t;unfold Rose.size;omega
mutual
theorem iP(t:Rose)(b:Nat):(t.flat b).length=t.size:=by
 match t with
 | .mk h ks=>unfold Rose.flat Rose.size;rw[jC,qP ks b];rfl
theorem qP(l:List Rose)(b:Nat):(dS b l).length=aY l:=by
 match l with
 |[]=>rfl
 |t::l=>unfold dS aY;rw[jC,iP t b,qP l (b+t.size)]
end
theorem qA:∀(l:List Rose) (b:Nat),(bW b l).length=l.length
 |[],_=>rfl
 |t::l,b=>by simp only[bW,jD,qA l]
theorem uV:∀(l k:List Rose),aY (l++k)=aY l+aY k
 |[],k=>by rw[jQ,show aY []=0 from rfl,kO]
 |t::l,k=>by
  have a:=uV l k
  rw[jO,show aY (t::(l++k))=t.size+aY (l++k) from rfl,show aY (t::l)=t.size+aY l from rfl];omega
theorem HB:∀(l k:List Rose) (b:Nat),bW b (l++k)=bW b l++bW (b+aY l) k
 |[],k,b=>by simp[bW,aY]
 |t::l,k,b=>by
  rw[jO]
  simp only[bW,aY,HB l k,jO]
  rw[gS]
theorem CR:∀(l k:List Rose) (b:Nat),dS b (l++k)=dS b l++dS (b+aY l) k
 |[],k,b=>by simp[dS,aY]
 |t::l,k,b=>by
  rw[jO]
  simp only[dS,aY,CR l k,jE]
  rw[gS]
theorem KA:∀l:List Rose,l.length<=aY l
 |[]=>gC _
 |t::l=>by
  have:=KA l
  have:=t.pos
  simp only[aY,jD];omega
def oI:List Ex->Nat->List Int->Option (List Int)
 |[],_,st=>some st
 |x::l,i,st=>if x.2.2.2.2.length<=st.length/\st.drop (st.length-x.2.2.2.2.length)=x.2.2.2.2 then oI l (i+1) (st.take (st.length-x.2.2.2.2.length)++[(i:Int)]) else none
theorem UA{fs:List Rose}{h:Hd}{args:List Int}{m:Nat}(n:args.length<=fs.length)(o:fs.length-args.length=m)(e:(bW 0 fs).drop m=args):
  aY (fs.take m++[Rose.mk h (fs.drop m)])=aY fs+1/\bW 0 (fs.take m++[Rose.mk h (fs.drop m)])=(bW 0 fs).take m++[((aY fs:Nat):Int)]/\dS 0 (fs.take m++[Rose.mk h (fs.drop m)])=dS 0 fs++[eD h args]:=by
 have a:fs=fs.take m++fs.drop m:=(gI m fs).symm
 have b:(fs.take m).length=m:=by rw[kL];omega
 have c:bW 0 fs=bW 0 (fs.take m)++bW (aY (fs.take m)) (fs.drop m):=by
  conv=>lhs;rw[a]
  rw[HB,kO]
 have g:dS 0 fs=dS 0 (fs.take m)++dS (aY (fs.take m)) (fs.drop m):=by
  conv=>lhs;rw[a]
  rw[CR,kO]
 have d:aY fs=aY (fs.take m)+aY (fs.drop m):=by
  conv=>lhs;rw[a]
  rw[uV]
 have l:(bW 0 (fs.take m)).length=m:=by rw[qA,b]
 have f:args=bW (aY (fs.take m)) (fs.drop m):=by
  rw[<-e,c,gG (by omega),jW (by omega),jQ]
 have k:(bW 0 fs).take m=bW 0 (fs.take m):=by
  rw[c,kU (by omega),gW (by omega)]
 rw[k]
 refine⟨?_,?_,?_⟩
 .rw[uV,d];simp only[aY,Rose.size];omega
 .rw[HB,kO]
  simp only[bW,Rose.size]
  rw[d,show aY (fs.take m)+(aY (fs.drop m)+1)-1=aY (fs.take m)+aY (fs.drop m) by omega]
 rw[CR,kO,g,jE]
 simp only[dS,Rose.flat,jV,<-f]
theorem OX(x:Ex)(l:List Ex)(i:Nat)(st a:List Int)(h:x.2.2.2.2=a):oI (x::l) i st=if a.length<=st.length/\st.drop (st.length-a.length)=a then oI l (i+1) (st.take (st.length-a.length)++[(i:Int)]) else none:=by
 subst h;rfl
def AtT(l:List Ex)(b:Nat)(t:Rose):Prop:=∃p q,l=p++t.flat b++q/\p.length=b
def AtTs(l:List Ex)(b:Nat)(ts:List Rose):Prop:=∃p q,l=p++dS b ts++q/\p.length=b
theorem AtT.whole(t:Rose):AtT (t.flat 0) 0 t:=⟨[],[],by simp,rfl⟩
theorem AtT.args{l:List Ex}{b:Nat}{h:Hd}{ks:List Rose}(g:AtT l b (.mk h ks)):l[b+aY ks]? =some (eD h (bW b ks))/\AtTs l b ks:=by
 obtain⟨p,q,rfl,rfl⟩:=g
 unfold Rose.flat
 constructor
 .rw[jE,List.getElem?_append_right (by omega),jE,List.getElem?_append_right (by rw[qP];omega),qP]
  rw[show p.length+aY ks-p.length-aY ks=0 by omega]
  rfl
 exact⟨p,[eD h (bW p.length ks)]++q,by simp only[jE],rfl⟩
theorem AtTs.head{l:List Ex}{b:Nat}{t:Rose}{ts:List Rose}(g:AtTs l b (t::ts)):AtT l b t/\AtTs l (b+t.size) ts:=by
 obtain⟨p,q,rfl,rfl⟩:=g
 unfold dS
 exact⟨⟨p,dS (p.length+t.size) ts++q,by simp only[jE],rfl⟩,⟨p++t.flat p.length,q,by simp only[jE],by rw[jC,iP]⟩⟩
theorem AtT.le{l:List Ex}{b:Nat}{t:Rose}(g:AtT l b t):b+t.size<=l.length:=by
 obtain⟨p,q,rfl,rfl⟩:=g
 rw[jC,jC,iP];omega
def dH(s:BA):Bool:=lR s&& !qG s
theorem HK{N:Nat}{s:BA}(a:100<N):tN N s=some (dH s):=by
 simp only[tN,ZN a,qFq,j0]
 unfold dH
 cases lR s<;>rfl
def bU:BA:=⟨#[]⟩
theorem ZT(a b:Bool):(if a=true then some b else some false:Option Bool)=some (a&&b):=by cases a<;>rfl
theorem eqE(s:BA):(s.toList==(⟨#[]⟩:BA).toList)=decide (s=bU):=iY _ _
def rU(x:Ex):Int:=(x.2.2.2.2.length:Int)
def iJ(np:Int)(x:Ex):Bool:=
 if x.1=1 then decide (x.2.2.2.1=bU)&&(x.2.2.1==0&&(rU x==0&&(decide (x.2.1>=-9007199254740992)&&decide (x.2.1<=9007199254740992))))
 else if x.1=2 then decide (x.2.2.2.1=bU)&&(x.2.2.1==0&&(rU x==0&&(decide (x.2.1>=0)&&decide (x.2.1<np))))
 else if x.1=3 then x.2.1==0&&(x.2.2.1==0&&dH x.2.2.2.1)
 else if x.1=4 then x.2.1==0&&(decide (x.2.2.2.1=bU)&&(rU x==2&&(decide (x.2.2.1>=1)&&decide (x.2.2.1<=7))))
 else if x.1=5 then x.2.1==0&&(decide (x.2.2.2.1=bU)&&(x.2.2.1==0&&rU x==3))
 else if x.1=6 then x.2.1==0&&(x.2.2.1==0&&(rU x==1&&iN x.2.2.2.1.data.toList))
 else if x.1=7\/x.1=8 then x.2.1==0&&(x.2.2.1==0&&(rU x==0&&iN x.2.2.2.1.data.toList))
 else if x.1=9 then x.2.1==0&&(x.2.2.1==0&&(rU x==0&&lR x.2.2.2.1))
 else if x.1=10 then decide (x.2.2.2.1=bU)&&(x.2.2.1==0&&(rU x==0&&(decide (x.2.1>=0)&&decide (x.2.1<64))))
 else false
theorem qMg{N:Nat}{np:Int}{x:Ex}(b:x.2.2.2.1.size<=1048576)(a:3000000<N):CP N x np=some (iJ np x):=by
 simp only[CP,eqE,YL (s:=x.2.2.2.1) (N:=N) (by omega) (by omega),ZN (s:=x.2.2.2.1) (show 100<N by omega),HK (s:=x.2.2.2.1) (show 100<N by omega),j0,ZT]
 unfold iJ rU
 by_cases h1:x.1=1
 .simp[h1]
 by_cases h2:x.1=2
 .simp[h2]
 by_cases h3:x.1=3
 .simp[h3]
 by_cases h4:x.1=4
 .simp[h4]
 by_cases h5:x.1=5
 .simp[h5]
 by_cases h6:x.1=6
 .simp[h6]
 by_cases h7:x.1=7
 .simp[h7]
 by_cases h8:x.1=8
 .simp[h8]
 by_cases h9:x.1=9
 .simp[h9]
 by_cases h10:x.1=10
 .simp[h10]
 simp[h1,h2,h3,h4,h5,h6,h7,h8,h9,h10]
def StOk(st:List Int):Nat->List Rose->Prop
 |_,[]=>True
 |b,t::l=>st[b+t.size-1]? =some (b:Int)/\StOk st (b+t.size) l
theorem StOk.app{st:List Int}:∀{l k:List Rose} {b:Nat},StOk st b (l++k)↔StOk st b l/\StOk st (b+aY l) k
 |[],k,b=>by simp[StOk,aY]
 |t::l,k,b=>by
  rw[jO]
  simp only[StOk,aY,StOk.app (l:=l)]
  rw[and_assoc,gS]
theorem StOk.set{st:List Int}{i:Nat}{v:Int}:∀{l:List Rose} {b:Nat},StOk st b l->b+aY l<=i->StOk (st.set i v) b l
 |[],_,_,_=>trivial
 |t::l,b,h,hi=>by
  have a:=t.pos
  simp only[aY] at hi
  exact⟨by rw[List.getElem?_set_ne (by omega)];exact h.1,h.2.set (by omega)⟩
theorem mR{α:Type}{l:List α}{i:Nat}{v:α}(h:l[i]? =some v):idx l (i:Int)=some v:=by
 have hi:i<l.length:=by
  by_cases hl:i<l.length
  .exact hl
  rw[List.getElem?_eq_none (by omega)] at h;cases h
 rw[dM hi]
 rw[List.getElem?_eq_getElem hi] at h
 exact h
theorem XI{st:List Int}{i:Nat}{v:Int}(h:st[i]? =some v):st.set i v=st:=by
 refine fO fun j=> ?_
 rw[List.getElem?_set]
 by_cases e:i=j
 .subst e
  have hi:i<st.length:=by
   by_cases hl:i<st.length
   .exact hl
   rw[List.getElem?_eq_none (by omega)] at h;cases h
  rw[if_pos rfl,if_pos hi,h]
 rw[if_neg e]
theorem YN{N i:Nat}{x:Ex}{so:List Int}:∀(k M:Nat) (pre:List Rose) (st:List Int),k<=x.2.2.2.2.length->k<M->StOk st 0 pre->st[i]? =some ((aY pre:Nat):Int)->aY pre<=i->i<2000000->k<2000000->
  aI (BW N ((i:Int),so) x) M ((k:Int)-1,st)=some (if k<=pre.length/\(bW 0 pre).drop (pre.length-k)=x.2.2.2.2.take k then .inl (st.set i ((aY (pre.take (pre.length-k)):Nat):Int)) else .inr false)
 |_,0,_,_,_,h,_,_,_,_,_=>absurd h (kP _)
 |0,M+1,pre,st,_,_,_,hi,_,_,_=>by
  simp only[aI,BW]
  rw[if_neg (by simp),if_pos ⟨gC _,by rw[Nat.sub_zero,List.drop_of_length_le (by rw[qA];exact jT _),List.take_zero]⟩]
  rw[Nat.sub_zero,gT,XI hi]
  rfl
 |k+1,M+1,pre,st,A,z,q,hi,d,u,y=>by
  have c:k<x.2.2.2.2.length:=by omega
  have ek:((k+1:Nat):Int)-1=(k:Int):=by omega
  have wk:IntKind.wrap .i64 ((k:Int)-1)=(k:Int)-1:=by rw[bX (by omega) (by omega)]
  simp only[aI,BW]
  rw[ek,if_pos (by simp),dM c,mR hi]
  simp only[j0]
  have wc:IntKind.wrap .i64 (((aY pre:Nat):Int)-1)=((aY pre:Nat):Int)-1:=by rw[bX (by omega) (by omega)]
  rw[wc]
  have n:x.2.2.2.2.take (k+1)=x.2.2.2.2.take k++[x.2.2.2.2[k]]:=CT c
  rcases fX pre with rfl|⟨pre',t,rfl⟩
  .have b:¬(k+1<=([]:List Rose).length/\(bW 0 []).drop (([]:List Rose).length-(k+1))=x.2.2.2.2.take (k+1)):=by
    rintro⟨h,-⟩
    exact absurd h (by simp)
   rw[if_neg b]
   by_cases a:x.2.2.2.2[k]=((aY []:Nat):Int)-1
   .have g:x.2.2.2.2[k]<0:=by rw[a];simp[aY]
    rw[if_neg (by simpa using a)]
    simp only[j0,kC g,jJ]
   rw[if_pos (by simpa using a)]
   rfl
  rw[List.concat_eq_append] at q hi d ⊢
  have s:aY (pre'++[t])=aY pre'+t.size:=by rw[uV];simp[aY]
  have B:=t.pos
  obtain⟨r,e,-⟩:=StOk.app.1 q
  rw[kO] at e
  have v:bW 0 (pre'++[t])=bW 0 pre'++[((aY pre'+t.size-1:Nat):Int)]:=by
   rw[HB,kO];rfl
  have l:k<=pre'.length->(bW 0 (pre'++[t])).drop ((pre'++[t]).length-(k+1))=(bW 0 pre').drop (pre'.length-k)++[((aY pre'+t.size-1:Nat):Int)]:=fun h=>by
   rw[v,jC,jU,show pre'.length+1-(k+1)=pre'.length-k by omega,gG (by rw[qA];omega)]
  rw[s] at hi d ⊢
  by_cases a:x.2.2.2.2[k]=((aY pre'+t.size:Nat):Int)-1
  .have g:decide (x.2.2.2.2[k]<0)=false:=jX (by omega)
   have o:x.2.2.2.2[k]=((aY pre'+t.size-1:Nat):Int):=by omega
   rw[if_neg (by simpa using a)]
   simp only[j0,g,jB,jI]
   rw[o,mR e]
   simp only[j0,jS,wk]
   have p:i<st.length:=by
    by_cases hl:i<st.length
    .exact hl
    rw[List.getElem?_eq_none (by omega)] at hi;cases hi
   rw[YN k M pre' _ (by omega) (by omega) (r.set (by omega)) (by rw[List.getElem?_set_self p]) (by omega) u (by omega),List.set_set]
   congr 1
   by_cases hc:k<=pre'.length/\(bW 0 pre').drop (pre'.length-k)=x.2.2.2.2.take k
   .rw[if_pos hc,if_pos ⟨by simp only[jC,jU];omega,by rw[l hc.1,n,hc.2,o]⟩]
    rw[jC,jU,show pre'.length+1-(k+1)=pre'.length-k by omega,kU (by omega)]
   rw[if_neg hc,if_neg]
   rintro⟨f,b⟩
   simp only[jC,jU] at f
   rw[l (by omega),n] at b
   exact hc ⟨by omega,(List.append_inj' b rfl).1⟩
  rw[if_pos (by simpa using a),if_neg]
  .rfl
  rintro⟨f,b⟩
  simp only[jC,jU] at f
  rw[l (by omega),n] at b
  have:=(List.append_inj' b rfl).2
  simp only[kV,and_true] at this
  exact a (by omega)
theorem ZD{N:Nat}{d:Dl}(o:d.2.2.2.length<2000000)(k:∀x∈d.2.2.2,x.2.2.2.1.size<=1048576/\x.2.2.2.2.length<2000000)(v:3000000<N):∀(M:Nat) (fs:List Rose) (st:List Int),dS 0 fs=d.2.2.2.take (aY fs)->aY fs<=d.2.2.2.length->st.length=d.2.2.2.length->StOk st 0 fs->d.2.2.2.length-aY fs<M->
  ∃out,aI (wJ N d) M (((aY fs:Nat):Int),st)=some out/\(match out with
   | .inl st'=>(∀x∈d.2.2.2.drop (aY fs),iJ (d.2.2.1.length:Int) x=true)/\∃fs',oI (d.2.2.2.drop (aY fs)) (aY fs) (bW 0 fs)=some (bW 0 fs')/\StOk st' 0 fs'/\st'.length=d.2.2.2.length/\aY fs'=d.2.2.2.length
   | .inr b=>b=false/\¬((∀x∈d.2.2.2.drop (aY fs),iJ (d.2.2.1.length:Int) x=true)/\∃r,oI (d.2.2.2.drop (aY fs)) (aY fs) (bW 0 fs)=some r))
 |0,_,_,_,_,_,_,h=>absurd h (kP _)
 |M+1,fs,st,F,H,l,q,K=>by
  by_cases hi:aY fs<d.2.2.2.length
  .have z:d.2.2.2.drop (aY fs)=d.2.2.2[aY fs]::d.2.2.2.drop (aY fs+1):=uU hi
   obtain⟨A,B⟩:=k _ (jN hi)
   rw[z]
   generalize g:d.2.2.2[aY fs]=x at A B
   have wi:IntKind.wrap .i64 (((aY fs:Nat):Int)+1)=((aY fs+1:Nat):Int):=by rw[bX (by omega) (by omega)];omega
   have wl:IntKind.wrap .i64 ((x.2.2.2.2.length:Int)-1)=(x.2.2.2.2.length:Int)-1:=by rw[bX (by omega) (by omega)]
   have c:aY fs<st.length:=by omega
   have n:(wJ N d (((aY fs:Nat):Int),st))=if iJ (d.2.2.1.length:Int) x=true then(if x.2.2.2.2.length<=fs.length/\(bW 0 fs).drop (fs.length-x.2.2.2.2.length)=x.2.2.2.2 then some (.inl (((aY fs+1:Nat):Int),(st.set (aY fs) ((aY fs:Nat):Int)).set (aY fs) ((aY (fs.take (fs.length-x.2.2.2.2.length)):Nat):Int))) else some (.inr (.inr false))) else some (.inr (.inr false)):=by
    simp only[wJ]
    rw[if_pos (by simp only[jA];omega),dM hi]
    simp only[j0,g]
    rw[show CP N (x.1,x.2.1,x.2.2.1,x.2.2.2.1,x.2.2.2.2) (d.2.2.1.length:Int)=_ from qMg A v]
    simp only[j0]
    by_cases a:iJ (d.2.2.1.length:Int) x=true
    .rw[if_pos a,a,if_neg (by decide),dM c]
     simp only[j0,jS,wi,wl]
     have f:=YN (N:=N) (i:=aY fs) (x:=x) (so:=st) x.2.2.2.2.length N fs (st.set (aY fs) ((aY fs:Nat):Int)) (jT _) (by omega) (q.set (by omega)) (List.getElem?_set_self c) (jT _) (by omega) B
     rw[gT] at f
     rw[f]
     simp only[j0]
     by_cases hc:x.2.2.2.2.length<=fs.length/\(bW 0 fs).drop (fs.length-x.2.2.2.2.length)=x.2.2.2.2
     .rw[if_pos hc,if_pos hc]
     rw[if_neg hc,if_neg hc]
    rw[if_neg a,show iJ (d.2.2.1.length:Int) x=false by simpa using a]
    rfl
   simp only[aI,n]
   by_cases a:iJ (d.2.2.1.length:Int) x=true
   .rw[if_pos a]
    by_cases hc:x.2.2.2.2.length<=fs.length/\(bW 0 fs).drop (fs.length-x.2.2.2.2.length)=x.2.2.2.2
    .rw[if_pos hc]
     simp only[j0]
     obtain⟨f,E,u⟩:=UA (h:=(x.1,x.2.1,x.2.2.1,x.2.2.2.1)) hc.1 rfl hc.2
     have hx':eD (x.1,x.2.1,x.2.2.1,x.2.2.2.1) x.2.2.2.2=x:=rfl
     rw[hx'] at u
     rw[List.set_set]
     have s:StOk (st.set (aY fs) ((aY (fs.take (fs.length-x.2.2.2.2.length)):Nat):Int)) 0 (fs.take (fs.length-x.2.2.2.2.length)++[Rose.mk (x.1,x.2.1,x.2.2.1,x.2.2.2.1) (fs.drop (fs.length-x.2.2.2.2.length))]):=by
      refine StOk.app.2 ⟨?_,?_,trivial⟩
      .have p:=q
       rw[<-gI (fs.length-x.2.2.2.2.length) fs] at p
       refine(StOk.app.1 p).1.set ?_
       have:=uV (fs.take (fs.length-x.2.2.2.2.length)) (fs.drop (fs.length-x.2.2.2.2.length))
       rw[gI] at this
       omega
      have:=uV (fs.take (fs.length-x.2.2.2.2.length)) (fs.drop (fs.length-x.2.2.2.2.length))
      rw[gI] at this
      rw[kO,show aY (fs.take (fs.length-x.2.2.2.2.length))+(Rose.mk (x.1,x.2.1,x.2.2.1,x.2.2.2.1) (fs.drop (fs.length-x.2.2.2.2.length))).size-1=aY fs by simp only[Rose.size];omega]
      exact List.getElem?_set_self c
     have G:d.2.2.2.take (aY fs+1)=d.2.2.2.take (aY fs)++[x]:=by rw[CT hi,g]
     obtain⟨out,D,o2⟩:=ZD o k v M _ (st.set (aY fs) ((aY (fs.take (fs.length-x.2.2.2.2.length)):Nat):Int)) (by rw[u,f,G,F]) (by rw[f];omega) (by rw[gE];exact l) s (by rw[f];omega)
     rw[f] at D o2
     refine⟨out,D,?_⟩
     have p:oI (x::d.2.2.2.drop (aY fs+1)) (aY fs) (bW 0 fs)=oI (d.2.2.2.drop (aY fs+1)) (aY fs+1) (bW 0 (fs.take (fs.length-x.2.2.2.2.length)++[Rose.mk (x.1,x.2.1,x.2.2.1,x.2.2.2.1) (fs.drop (fs.length-x.2.2.2.2.length))])):=by
      rw[OX x _ _ _ x.2.2.2.2 rfl,qA,if_pos hc,E]
     rw[p]
     cases out with
     |inl st'=>exact⟨fun y t=>(jR.1 t).elim (fun e=>e▸a) (o2.1 y),o2.2⟩
     |inr b=>exact⟨o2.1,fun h=>o2.2 ⟨fun y t=>h.1 y (jK _ t),h.2⟩⟩
    rw[if_neg hc]
    refine⟨_,rfl,rfl,?_⟩
    rintro⟨-,r,f⟩
    rw[OX x _ _ _ x.2.2.2.2 rfl,qA,if_neg hc] at f
    cases f
   rw[if_neg a]
   exact⟨_,rfl,rfl,fun h=>a (h.1 x (jH ..))⟩
  have c:aY fs=d.2.2.2.length:=by omega
  have a:d.2.2.2.drop (aY fs)=[]:=jW (by omega)
  have n:(wJ N d (((aY fs:Nat):Int),st))=some (.inr (.inl st)):=by
   simp only[wJ]
   rw[if_neg (by simp only[jA];omega)]
  simp only[aI,n,j0]
  refine⟨.inl st,rfl,?_⟩
  dsimp only
  rw[a]
  exact⟨fun x g=>(by cases g),fs,rfl,q,l,c⟩
def oneP:Option (List Int)->Bool
 |some [_]=>true
 |_=>false
def AD(d:Dl):Bool:=d.2.2.2.all (iJ (d.2.2.1.length:Int))&&oneP (oI d.2.2.2 0 [])
def vO(d:Dl):Bool:=if d.1=1\/d.1=2 then dH d.2.1 else if d.1=3 then iN d.2.1.data.toList else false
def AH(d:Dl):Bool:=d.2.2.1.all fun s=>d.1==1&&dH s
def oS(d:Dl):Bool:=vO d&&(AH d&&AD d)
def SmD(d:Dl):Prop:=d.2.1.size<=1048576/\d.2.2.1.length<2000000/\d.2.2.2.length<2000000/\∀x∈d.2.2.2,x.2.2.2.1.size<=1048576/\x.2.2.2.2.length<2000000
theorem qIr{N:Nat}{d:Dl}(e:SmD d)(k:3000000<N):aI (yH N d) N 0=some (if AH d=true then .inl () else .inr false):=by
 obtain⟨-,g,-,-⟩:=e
 have h:=oR (L:=d.2.2.1) (fun(_:Unit) (i:Nat)=>(i:Int)) (f:=yH N d)
  (fun _ s=>if(!(d.1==1&&dH s))=true then .inr (.inr false) else .inl ()) (fun _=>(.inl ():Unit⊕Bool)) (fun _ _=>True) (by
   intro t i hi _
   simp only[yH]
   rw[if_pos (by simp only[jA];omega),dM hi]
   have ew:IntKind.wrap .i64 ((i:Int)+1)=((i+1:Nat):Int):=by rw[bX (by omega) (by omega)];omega
   simp only[j0,HK (s:=d.2.2.1[i]) (show 100<N by omega),ew]
   by_cases hk:d.1=1
   .have a:(d.1 !=1)=false:=by simp[hk]
    have c:(d.1==1)=true:=by simp[hk]
    simp only[a,c,jB,jI,j0,gF]
    cases dH d.2.2.1[i]<;>rfl
   .have a:(d.1 !=1)=true:=by simp[hk]
    have c:(d.1==1)=false:=by simp[hk]
    simp only[a,c,jJ,j0,Bool.false_and,kQ]) (fun _ _ _ _ _ _=>trivial) (by
   intro t _
   simp only[yH]
   rw[if_neg (by simp)]) (M:=N) (t:=()) (by omega) trivial
 rw[show((0:Nat):Int)=0 from rfl] at h
 rw[h,tR (b:=(.inr false:Unit⊕Bool)) (fun s=> !(d.1==1&&dH s)) (fun x=>rfl)]
 unfold AH
 rw[gM]
 cases(d.2.2.1.any fun s=> !(d.1==1&&dH s))<;>rfl
theorem qFt{N:Nat}{d:Dl}(l:SmD d)(k:3000000<N):CB N d=some (oS d):=by
 obtain⟨B,E,q,v⟩:=id l
 unfold CB
 have e:((if(d.1==1)=true then(some (d.1==1)) else(some (d.1==2)):Option (Bool)).bind fun o2=>if o2=true then((tN N d.2.1).bind fun y1=>if(!y1)=true then(some (.inr false)) else(some (.inl ()))) else(if(d.1==3)=true then((uT N d.2.1).bind fun z=>if(!z)=true then(some (.inr false)) else(some (.inl ()))) else(some (.inr false))):Option ((Unit)⊕(Bool)))=some (if vO d=true then .inl () else .inr false):=by
  simp only[HK (s:=d.2.1) (show 100<N by omega),YL (s:=d.2.1) (N:=N) (by omega) (by omega),j0]
  unfold vO
  by_cases k1:d.1=1
  .simp only[k1,gQ,jJ,j0,true_or]
   cases dH d.2.1<;>rfl
  have a:(d.1==1)=false:=by simpa using k1
  by_cases k2:d.1=2
  .simp only[a,k2,gQ,jB,jI,jJ,j0,or_true]
   cases dH d.2.1<;>rfl
  have c:(d.1==2)=false:=by simpa using k2
  by_cases k3:d.1=3
  .have e3:(d.1==3)=true:=by simpa using k3
   rw[if_neg (show ¬(d.1=1\/d.1=2) by omega),if_pos k3]
   simp only[a,c,e3,jB,jI,jJ,j0]
   cases iN d.2.1.data.toList<;>rfl
  have e3:(d.1==3)=false:=by simpa using k3
  rw[if_neg (show ¬(d.1=1\/d.1=2) by omega),if_neg k3]
  simp only[a,c,e3,jB,jI,j0]
 rw[e]
 simp only[j0]
 unfold oS
 by_cases hh:vO d=true
 .rw[if_pos hh,hh,gF]
  simp only[qIr l k,j0]
  by_cases c:AH d=true
  .rw[if_pos c,c,gF]
   have A:(maxLen:Int)=9223372036854775807:=rfl
   have n:rR 8 (0:Int) (d.2.2.2.length:Int)=some (List.replicate d.2.2.2.length 0):=by
    unfold rR;rw[if_pos (by omega),jS]
   simp only[n,j0]
   obtain⟨out,o,o2⟩:=ZD (N:=N) q v k N [] (List.replicate d.2.2.2.length 0) (by simp[dS,aY]) (gC _) (by simp) trivial (by omega)
   have p:((aY []:Nat):Int)=0:=rfl
   rw[p] at o
   rw[o]
   simp only[j0]
   rw[show aY []=0 from rfl,jZ] at o2
   cases out with
   |inr b=>
    obtain⟨rfl,f⟩:=o2
    dsimp only
    congr 1
    unfold AD
    cases g:d.2.2.2.all (iJ (d.2.2.1.length:Int)) with
    |false=>rfl
    |true=>
     rw[gF]
     cases h:oI d.2.2.2 0 [] with
     |none=>rfl
     |some r=>exact absurd ⟨kE.1 g,r,h⟩ f
   |inl st=>
    obtain⟨g,fs,h,x,F,y⟩:=o2
    dsimp only
    have ha':d.2.2.2.all (iJ (d.2.2.1.length:Int))=true:=kE.2 g
    have ho':oI d.2.2.2 0 []=some (bW 0 fs):=h
    unfold AD
    rw[ha',ho',gF]
    rcases fX fs with rfl|⟨pre,t,rfl⟩
    .have f:d.2.2.2.length=0:=by rw[<-y];rfl
     rw[if_neg (by simp[f])]
     rfl
    rw[List.concat_eq_append] at*
    have D:aY (pre++[t])=aY pre+t.size:=by rw[uV];simp[aY]
    have c:=t.pos
    obtain⟨-,f,-⟩:=StOk.app.1 x
    rw[kO] at f
    have w:IntKind.wrap .i64 ((d.2.2.2.length:Int)-1)=((aY pre+t.size-1:Nat):Int):=by rw[bX (by omega) (by omega)];omega
    rw[if_pos (by simp only[jA];omega),w,mR f]
    simp only[j0]
    congr 1
    rw[HB,kO]
    cases pre with
    |nil=>rfl
    |cons u pre=>
     have G:=u.pos
     have a:((((aY (u::pre):Nat)):Int)==0)=false:=by
      simp only[aY,beq_eq_false_iff_ne];omega
     rw[a]
     cases pre<;>rfl
  rw[if_neg c,show AH d=false by simpa using c]
  rfl
 rw[if_neg hh,show vO d=false by simpa using hh]
 rfl
def SmSr(f:Sr):Prop:=f.2.1.length<2000000/\f.2.2.length<2000000/\∀d∈f.2.2,SmD d
def xF(f:Sr):Bool:=dH f.1&&(f.2.1.all dH&&f.2.2.all oS)
theorem qId{N:Nat}{f:Sr}(h:SmSr f)(g:3000000<N):CH N f=some (xF f):=by
 obtain⟨k,l,e⟩:=h
 unfold CH
 rw[HK (by omega)]
 simp only[j0]
 unfold xF
 by_cases hn:dH f.1=true
 .rw[hn,if_neg (by decide),gF]
  have a:=oR (L:=f.2.1) (fun(_:Unit) (i:Nat)=>(i:Int)) (f:=BZ N f)
   (fun _ s=>if(!dH s)=true then .inr (.inr false) else .inl ()) (fun _=>(.inl ():Unit⊕Bool)) (fun _ _=>True) (by
    intro t i hi _
    simp only[BZ]
    rw[if_pos (by simp only[jA];omega),dM hi]
    have ew:IntKind.wrap .i64 ((i:Int)+1)=((i+1:Nat):Int):=by rw[bX (by omega) (by omega)];omega
    simp only[j0,HK (s:=f.2.1[i]) (show 100<N by omega),ew]
    cases dH f.2.1[i]<;>rfl) (fun _ _ _ _ _ _=>trivial) (by
    intro t _
    simp only[BZ]
    rw[if_neg (by simp)]) (M:=N) (t:=()) (by omega) trivial
  have c:=PD (L:=f.2.2) (fun(_:Unit) (i:Nat)=>(i:Int)) (f:=CA N f)
   (fun _ d=>if(!oS d)=true then .inr (.inr false) else .inl ()) (fun _=>(.inl ():Unit⊕Bool)) (fun _ _=>True) (by
    intro t i hi _
    simp only[CA]
    rw[if_pos (by simp only[jA];omega),dM hi]
    have ew:IntKind.wrap .i64 ((i:Int)+1)=((i+1:Nat):Int):=by rw[bX (by omega) (by omega)];omega
    simp only[j0,ew]
    rw[show CB N (f.2.2[i].1,f.2.2[i].2.1,f.2.2[i].2.2.1,f.2.2[i].2.2.2)=_ from qFt (e _ (jN hi)) g]
    simp only[j0]
    cases oS f.2.2[i]<;>rfl) (fun _ _ _ _ _ _=>trivial) (by
    intro t _
    simp only[CA]
    rw[if_neg (by simp)]) f.2.2.length 0 N () (by omega) (by omega) trivial
  rw[show((0:Nat):Int)=0 from rfl] at a c
  rw[a,tR (b:=(.inr false:Unit⊕Bool)) (fun s=> !dH s) (fun x=>rfl),gM]
  cases ha:(f.2.1.any fun s=> !dH s) with
  |true=>rfl
  |false=>
   simp only[jB,jI,j0,kQ,gF]
   rw[c,jZ,tR (b:=(.inr false:Unit⊕Bool)) (fun s=> !oS s) (fun x=>rfl),gM]
   cases(f.2.2.any fun s=> !oS s)<;>rfl
 rw[show dH f.1=false by simpa using hn]
 rfl
def mD{α:Type}[DecidableEq α]:List α->List α->Bool
 |_,[]=>false
 |seen,x::l=>decide (x∈seen)||mD (seen++[x]) l
def lC{α:Type}[DecidableEq α](l:List α):Bool:=mD [] l
theorem XB{α:Type}[DecidableEq α]{l:List α}{f:Int->Option (Int⊕(Unit⊕Bool))}(b:∀(i:Nat) (hi:i<l.length),f (i:Int)=some (if l[i]∈l.take i then .inr (.inr true) else .inl ((i+1:Nat):Int)))
  (a:f (l.length:Int)=some (.inr (.inl ()))):∀(d i M:Nat),i+d=l.length->d<M->aI f M (i:Int)=some (if mD (l.take i) (l.drop i)=true then .inr true else .inl ())
 |_,_,0,_,h=>absurd h (kP _)
 |0,i,M+1,c,_=>by
  have:i=l.length:=by omega
  subst this
  simp only[aI,a,j0,hD,mD]
  rfl
 |d+1,i,M+1,c,g=>by
  have hi:i<l.length:=by omega
  simp only[aI,b i hi,j0]
  rw[uU hi]
  by_cases hm:l[i]∈l.take i
  .have e:mD (l.take i) (l[i]::l.drop (i+1))=true:=by
    show(decide _||_)=true
    rw[kC hm,Bool.true_or]
   rw[if_pos hm,if_pos e]
  have e:mD (l.take i) (l[i]::l.drop (i+1))=mD (l.take (i+1)) (l.drop (i+1)):=by
   show(decide _||_)=_
   rw[jX hm,kX,CT hi]
  rw[if_neg hm,e]
  exact XB b a d (i+1) M (by omega) (by omega)
theorem VZ{α:Type}[DecidableEq α]{l:List α}{f:Int->Option (Int⊕(Unit⊕Bool))}(c:∀(i:Nat) (hi:i<l.length),f (i:Int)=some (if l[i]∈l.take i then .inr (.inr true) else .inl ((i+1:Nat):Int)))
  (b:f (l.length:Int)=some (.inr (.inl ()))) {M:Nat} (a:l.length<M):aI f M 0=some (if lC l=true then .inr true else .inl ()):=by
 have h:=XB c b l.length 0 M (by omega) a
 rw[List.take_zero,jZ] at h
 exact h
theorem PF{α:Type}[DecidableEq α]{l:List α}{x:α}{f:Int->Option (Int⊕(Unit⊕Int))}(c:∀(i:Nat) (hi:i<l.length),f (i:Int)=some (if x=l[i] then .inr (.inr (i:Int)) else .inl ((i+1:Nat):Int)))
  (b:f (l.length:Int)=some (.inr (.inl ()))):∀(d i M:Nat),i+d=l.length->d<M->∃o,aI f M (i:Int)=some o/\(match o with| .inl _=>x∉l.drop i| .inr j=>x∈l.drop i/\0<=j)
 |_,_,0,_,h=>absurd h (kP _)
 |0,i,M+1,e,_=>by
  have:i=l.length:=by omega
  subst this
  simp only[aI,b,j0,hD]
  exact⟨.inl (),rfl,gK⟩
 |d+1,i,M+1,e,k=>by
  have hi:i<l.length:=by omega
  simp only[aI,c i hi,j0]
  rw[uU hi]
  by_cases a:x=l[i]
  .rw[if_pos a]
   exact⟨.inr (i:Int),rfl,by rw[a];exact jH ..,by omega⟩
  rw[if_neg a]
  simp only
  obtain⟨o,g,o2⟩:=PF c b d (i+1) M (by omega) (by omega)
  refine⟨o,g,?_⟩
  cases o with
  |inl u=>exact fun h=>(jR.1 h).elim a o2
  |inr j=>exact⟨jK _ o2.1,o2.2⟩
theorem TR{N:Nat}{s:BA}{l:List BA}(c:l.length<2000000)(b:l.length<N):vY N l s=some (decide (s∈l)):=by
 obtain⟨o,a,o2⟩:=PF (l:=l) (x:=s) (f:=AS N l s) (fun i hi=>by
  simp only[AS]
  rw[if_pos (by simp only[jA];omega),dM hi]
  have ew:IntKind.wrap .i64 ((i:Int)+1)=((i+1:Nat):Int):=by rw[bX (by omega) (by omega)];omega
  simp only[j0,iY,jA,ew]
  split<;>rfl) (by
  simp only[AS]
  rw[if_neg (by simp)]) l.length 0 N (by omega) b
 rw[show((0:Nat):Int)=0 from rfl] at a
 rw[jZ] at o2
 simp only[vY,ER,a,j0]
 cases o with
 |inl u=>
  simp only at o2
  rw[jX o2];rfl
 |inr j=>
  simp only at o2 ⊢
  rw[kC o2.1]
  simp[o2.2]
theorem WS{N:Nat}{l:List BA}(b:l.length<2000000)(a:l.length<N):BQ N l=some (lC l):=by
 have h:=VZ (l:=l) (f:=BE N l) (fun i hi=>by
  simp only[BE]
  rw[if_pos (by simp only[jA];omega),dM hi,wP (by omega) (by omega) (by omega)]
  have ew:IntKind.wrap .i64 ((i:Int)+1)=((i+1:Nat):Int):=by rw[bX (by omega) (by omega)];omega
  simp only[j0,jS,gZ,jZ,ew]
  rw[TR (by rw[kL];omega) (by rw[kL];omega)]
  simp only[j0,jA]
  split<;>rfl) (by
  simp only[BE]
  rw[if_neg (by simp)]) a
 simp only[BQ,h,j0]
 cases lC l<;>rfl
abbrev rV:=Int×BA
instance decMemN(s:rV)(l:List rV):Decidable (s∈l):=@List.instDecidableMemOfLawfulBEq rV instBEqOfDecidableEq inferInstance s l
theorem qEz{N:Nat}{s:rV}{l:List rV}(c:l.length<2000000)(b:l.length<N):EK N l s=some (decide (s∈l)):=by
 obtain⟨o,a,o2⟩:=PF (l:=l) (x:=s) (f:=AR N l s) (fun i hi=>by
  simp only[AR]
  rw[if_pos (by simp only[jA];omega),dM hi]
  have ew:IntKind.wrap .i64 ((i:Int)+1)=((i+1:Nat):Int):=by rw[bX (by omega) (by omega)];omega
  have ee:((s.1==l[i].1)&&((s.2.toList==l[i].2.toList)&&true))=decide (s=l[i]):=by
   rw[kK]
   simp only[iY,jM,kN,jA,and_true,Prod.ext_iff]
  simp only[j0,ee,jA,ew]
  split<;>rfl) (by
  simp only[AR]
  rw[if_neg (by simp)]) l.length 0 N (by omega) b
 rw[show((0:Nat):Int)=0 from rfl] at a
 rw[jZ] at o2
 simp only[EK,JF,a,j0]
 cases o with
 |inl u=>
  simp only at o2
  rw[jX o2];rfl
 |inr j=>
  simp only at o2 ⊢
  rw[kC o2.1]
  simp[o2.2]
theorem qHj{N:Nat}{l:List rV}(b:l.length<2000000)(a:l.length<N):EX N l=some (lC l):=by
 have h:=VZ (l:=l) (f:=AT N l) (fun i hi=>by
  simp only[AT]
  rw[if_pos (by simp only[jA];omega),dM hi,wP (by omega) (by omega) (by omega)]
  have ew:IntKind.wrap .i64 ((i:Int)+1)=((i+1:Nat):Int):=by rw[bX (by omega) (by omega)];omega
  simp only[j0,jS,gZ,jZ,ew]
  rw[qEz (by rw[kL];omega) (by rw[kL];omega)]
  simp only[j0,jA]
  split<;>rfl) (by
  simp only[AT]
  rw[if_neg (by simp)]) a
 simp only[EX,h,j0]
 cases lC l<;>rfl
def mP(d:Dl):rV:=(d.1,d.2.1)
def wV(f:Sr):Bool:=f.2.2.any (fun d=>lC d.2.2.1)||(decide (f.1∈f.2.1)||(lC f.2.1||lC (f.2.2.map mP)))
theorem qIt{N:Nat}{f:Sr}(c:SmSr f)(o:3000000<N):aI (yL N f) N ([],0)=some (if f.2.2.any (fun d=>lC d.2.2.1)=true then .inr true else .inl (f.2.2.map mP)):=by
 obtain⟨k,n,b⟩:=c
 have h:=oR (L:=f.2.2) (fun(t:List rV) (i:Nat)=>(t,(i:Int))) (f:=yL N f)
  (fun t d=>if lC d.2.2.1=true then .inr (.inr true) else .inl (t++[mP d])) (fun t=>(.inl t:List rV⊕Bool)) (fun i t=>t.length<=i) (by
   intro t i hi a
   obtain⟨-,e,-,-⟩:=b _ (jN hi)
   simp only[yL]
   rw[if_pos (by simp only[jA];omega),dM hi]
   have ew:IntKind.wrap .i64 ((i:Int)+1)=((i+1:Nat):Int):=by rw[bX (by omega) (by omega)];omega
   simp only[j0,WS e (show(f.2.2[i]).2.2.1.length<N by omega),ew]
   rw[pP (by simp only[jD,jF];omega) (by omega)]
   simp only[j0]
   split<;>rfl) (by
   intro t i hi t' a h
   split at h
   .cases h
   .cases h
    simp only[jC,jD,jF];omega) (by
   intro t a
   simp only[yL]
   rw[if_neg (by simp)]) (M:=N) (t:=[]) (by omega) (jT _)
 rw[show((0:Nat):Int)=0 from rfl] at h
 rw[h]
 congr 1
 suffices g:∀(l:List Dl) (t:List rV),run (fun t d=>if lC d.2.2.1=true then .inr (.inr true) else .inl (t++[mP d])) (fun t=>(.inl t:List rV⊕Bool)) l t=if l.any (fun d=>lC d.2.2.1)=true then .inr true else .inl (t++l.map mP) by
  have:=g f.2.2 []
  rw[jQ] at this
  exact this
 intro l
 induction l with
 |nil=>intro t;simp[run]
 |cons d l a=>
  intro t
  simp only[run,fI,kG]
  cases hd:lC d.2.2.1 with
  |true=>simp
  |false=>
   simp only[jB,jI,kX]
   rw[a,jE];rfl
theorem qJh{N:Nat}{f:Sr}(b:SmSr f)(e:3000000<N):CL N f=some (wV f):=by
 obtain⟨a,c,g⟩:=id b
 unfold CL
 rw[qIt b e]
 simp only[j0]
 unfold wV
 cases ha:f.2.2.any (fun d=>lC d.2.2.1) with
 |true=>rfl
 |false=>
  simp only[jB,jI,kX]
  rw[TR a (by omega),WS a (by omega),qHj (by rw[gJ];exact c) (by rw[gJ];omega)]
  simp only[j0]
  cases decide (f.1∈f.2.1)<;>cases lC f.2.1<;>rfl
def DT:List Ex->List Rose->List Rose
 |[],fs=>fs
 |x::l,fs=>DT l (fs.take (fs.length-x.2.2.2.2.length)++[Rose.mk (x.1,x.2.1,x.2.2.1,x.2.2.2.1) (fs.drop (fs.length-x.2.2.2.2.length))])
def AF(l:List Ex):Option Rose:=match DT l [] with
 |[t]=>some t
 |_=>none
theorem XC:∀(l:List Ex) (fs:List Rose) {st:List Int},oI l (aY fs) (bW 0 fs)=some st->dS 0 (DT l fs)=dS 0 fs++l/\st=bW 0 (DT l fs)
 |[],fs,st,h=>⟨by simp[DT],(jG h).symm⟩
 |x::l,fs,st,h=>by
  rw[OX x _ _ _ x.2.2.2.2 rfl] at h
  split at h
  .rename_i hc
   obtain⟨a,b⟩:=hc
   rw[qA] at a b h
   obtain⟨c,d,e3⟩:=UA (h:=(x.1,x.2.1,x.2.2.1,x.2.2.2.1)) a rfl b
   rw[<-c,<-d] at h
   obtain⟨e,f⟩:=XC l _ h
   exact⟨by rw[DT,e,e3,jE];rfl,f⟩
  cases h
theorem HM{l:List Ex}(h:oneP (oI l 0 [])=true):∃t,AF l=some t/\l=t.flat 0:=by
 cases a:oI l 0 [] with
 |none=>rw[a] at h;cases h
 |some st=>
  rw[a] at h
  obtain⟨b,e⟩:=XC l [] a
  have c:st.length=1:=by
   match st,h with
   |[x],_=>rfl
  rw[e,qA] at c
  obtain⟨t,d⟩:=List.length_eq_one_iff.1 c
  refine⟨t,by unfold AF;rw[d],?_⟩
  rw[d] at b
  simpa[dS] using b.symm
mutual
def Rose.deepen(d:Nat):Rose->Nat
 | .mk h ks=>max d (oF (if h.1=4 then d else d+1) ks)
def oF(d:Nat):List Rose->Nat
 |[]=>0
 |t::l=>max (t.deepen d) (oF d l)
end
theorem NS{d:Nat}:∀{l:List Rose},(32<oF d l)↔∃t∈l,32<t.deepen d
 |[]=>by simp[oF]
 |t::l=>by
  have a:=NS (d:=d) (l:=l)
  simp only[oF,jR,exists_eq_or_imp,<-a]
  omega
def sG(dp:List Int)(a:List Int)(v:Int):List Int:=a.foldl (fun dp a=>dp.set a.toNat v) dp
theorem UV:∀(a:List Int) (dp:List Int) (v:Int),(sG dp a v).length=dp.length
 |[],_,_=>rfl
 |x::a,dp,v=>by
  show(sG (dp.set x.toNat v) a v).length=_
  rw[UV a,gE]
theorem OS{j:Nat}{v:Int}:∀(ks:List Rose) (b:Nat) (dp:List Int),j<b->(sG dp (bW b ks) v)[j]? =dp[j]?
 |[],_,_,_=>rfl
 |t::l,b,dp,h=>by
  have a:=t.pos
  show(sG (dp.set (((b+t.size-1:Nat):Int)).toNat v) (bW (b+t.size) l) v)[j]? =_
  rw[OS l (b+t.size) _ (by omega),jS,List.getElem?_set_ne (by omega)]
def DpOk(dp:List Int):Nat->List (Rose×Nat)->Prop
 |_,[]=>True
 |b,p::l=>(∃v:Int,dp[b+p.1.size-1]? =some v/\(v=(p.2:Int)\/v=0/\p.2=1))/\DpOk dp (b+p.1.size) l
theorem DpOk.app{dp:List Int}:∀{l k:List (Rose×Nat)} {b:Nat},DpOk dp b (l++k)↔DpOk dp b l/\DpOk dp (b+aY (l.map (·.1))) k
 |[],k,b=>by simp[DpOk,aY]
 |t::l,k,b=>by
  rw[jO]
  simp only[DpOk,kG,aY,DpOk.app (l:=l)]
  rw[and_assoc,gS]
theorem DpOk.congr{dp dp':List Int}:∀{l:List (Rose×Nat)} {b:Nat},DpOk dp b l->(∀j,j<b+aY (l.map (·.1))->dp'[j]? =dp[j]?)->DpOk dp' b l
 |[],_,_,_=>trivial
 |t::l,b,h,a=>by
  have e:=t.1.pos
  simp only[kG,aY] at a
  refine⟨?_,h.2.congr fun j h=>a j (by omega)⟩
  obtain⟨v,c,d⟩:=h.1
  exact⟨v,by rw[a _ (by omega)];exact c,d⟩
theorem DpOk.kids{d:Nat}:∀{ks:List Rose} {b:Nat} {dp:List Int},b+aY ks<=dp.length->DpOk (sG dp (bW b ks) (d:Int)) b (ks.map fun t=>(t,d))
 |[],_,_,_=>trivial
 |t::l,b,dp,h=>by
  have a:=t.pos
  simp only[aY] at h
  show DpOk (sG (dp.set (((b+t.size-1:Nat):Int)).toNat d) (bW (b+t.size) l) d) b ((t,d)::l.map fun t=>(t,d))
  refine⟨⟨d,?_,.inl rfl⟩,DpOk.kids (by rw[gE];omega)⟩
  rw[OS l (b+t.size) _ (by show b+t.size-1<b+t.size;omega),jS,List.getElem?_set_self (by omega)]
theorem QR{N i d:Nat}{x1:Dl}{x5:Ex}{so:List Int}(o:x1.2.2.2[i]? =some x5)(l:∀a∈x5.2.2.2.2,0<=a/\a<(i:Int))(g:x5.2.2.2.2.length<2000000)(q:d<=1000):∀(k j M:Nat) (dp:List Int),j+k=x5.2.2.2.2.length->k<M->i<dp.length->dp[i]? =some (d:Int)->
  aI (CE N x1 ((i:Int),so) x5) M ((j:Int),dp)=some (sG dp (x5.2.2.2.2.drop j) (if x5.1=4 then(d:Int) else((d+1:Nat):Int)))
 |_,_,0,_,_,h,_,_=>absurd h (kP _)
 |0,j,M+1,dp,s,_,_,_=>by
  have:j=x5.2.2.2.2.length:=by omega
  subst this
  simp only[aI,CE]
  rw[if_neg (by simp),hD]
  rfl
 |k+1,j,M+1,dp,s,x,hi,c=>by
  have f:j<x5.2.2.2.2.length:=by omega
  obtain⟨t,u⟩:=l _ (jN f)
  obtain⟨a,ea⟩:∃a:Nat,x5.2.2.2.2[j]=(a:Int):=⟨(x5.2.2.2.2[j]).toNat,by omega⟩
  have r:a<i:=by omega
  have ew:IntKind.wrap .i64 ((j:Int)+1)=((j+1:Nat):Int):=by rw[bX (by omega) (by omega)];omega
  have ed:IntKind.wrap .i64 ((d:Int)+1)=((d+1:Nat):Int):=by rw[bX (by omega) (by omega)];omega
  simp only[aI,CE]
  rw[if_pos (by simp only[jA];omega),dM f,ea]
  have p:idx dp (a:Int)=some dp[a]:=dM (by omega)
  have n:idx (dp.set a (d:Int)) (a:Int)=some (d:Int):=mR (List.getElem?_set_self (by omega))
  simp only[j0,mR c,p,mR o,jS,n,ed,ew]
  rw[uU f,ea]
  have b:∀v:Int,sG dp ((a:Int)::x5.2.2.2.2.drop (j+1)) v=sG (dp.set a v) (x5.2.2.2.2.drop (j+1)) v:=fun v=>by
   show sG (dp.set ((a:Int)).toNat v) _ v=_
   rw[jS]
  by_cases hk:x5.1=4
  .have e:(x5.1 !=4)=false:=by simp[hk]
   simp only[e,jB,jI,j0]
   rw[QR o l g q k (j+1) M _ (by omega) (by omega) (by rw[gE];exact hi) (by rw[List.getElem?_set_ne (by omega)];exact c),if_pos hk,b]
  have e:(x5.1 !=4)=true:=by simp[hk]
  simp only[e,jJ,j0,List.set_set]
  rw[QR o l g q k (j+1) M _ (by omega) (by omega) (by rw[gE];exact hi) (by rw[List.getElem?_set_ne (by omega)];exact c),if_neg hk,b]
theorem YD:∀{ks:List Rose} {b:Nat},∀a∈bW b ks,(b:Int)<=a/\a<((b+aY ks:Nat):Int)
 |[],_,a,h=>by cases h
 |t::l,b,a,h=>by
  have c:=t.pos
  simp only[aY]
  rcases jR.1 h with rfl|h
  .omega
  have:=YD (ks:=l) (b:=b+t.size) a h
  omega
theorem YW{N:Nat}{x1:Dl}(G:x1.2.2.2.length<=256)(g:∀x∈x1.2.2.2,x.2.2.2.2.length<2000000)(hN:3000000<N):∀(M:Nat) (F:List (Rose×Nat)) (dp:List Int),dS 0 (F.map (·.1))=x1.2.2.2.take (aY (F.map (·.1)))->aY (F.map (·.1))<=x1.2.2.2.length->dp.length=x1.2.2.2.length->DpOk dp 0 F->(∀p∈F,1<=p.2/\p.2<=33)->aY (F.map (·.1))<M->
  ∃o,aI (yM N x1) M (((aY (F.map (·.1)):Nat):Int)-1,dp)=some o/\(match o with
   | .inl _=>¬∃p∈F,32<p.1.deepen p.2
   | .inr b=>b=true/\∃p∈F,32<p.1.deepen p.2)
 |0,_,_,_,_,_,_,_,h=>absurd h (kP _)
 |M+1,F,dp,s,B,U,V,A,S=>by
  rcases fX F with rfl|⟨pre,⟨⟨h,ks⟩,d⟩,rfl⟩
  .simp only[aI,yM]
   rw[if_neg (by simp[aY])]
   exact⟨_,rfl,by simp⟩
  rw[List.concat_eq_append] at*
  obtain⟨g1,g2⟩:=A (Rose.mk h ks,d) (by simp)
  simp only at g1 g2
  rw[fB,List.map_singleton] at s B S ⊢
  have r:aY (pre.map (·.1)++[Rose.mk h ks])=aY (pre.map (·.1))+(aY ks+1):=by rw[uV];simp[aY,Rose.size]
  generalize hb:aY (pre.map (·.1))=b at r
  obtain⟨d1,R,-⟩:=DpOk.app.1 V
  rw[kO,hb] at R
  obtain⟨v,z,v2⟩:=R
  simp only[Rose.size] at z
  rw[show b+(aY ks+1)-1=b+aY ks by omega] at z
  rw[r] at B S ⊢
  have hi:b+aY ks<dp.length:=by omega
  have ei:((b+(aY ks+1):Nat):Int)-1=((b+aY ks:Nat):Int):=by omega
  -- the node
  have f:x1.2.2.2[b+aY ks]? =some (eD h (bW b ks)):=by
   have e:x1.2.2.2.take (b+(aY ks+1))=dS 0 (pre.map (·.1))++(dS b ks++[eD h (bW b ks)]):=by
    rw[r] at s
    rw[<-s,CR,kO,hb]
    simp[dS,Rose.flat]
   have c:(x1.2.2.2.take (b+(aY ks+1)))[b+aY ks]? =some (eD h (bW b ks)):=by
    rw[e,List.getElem?_append_right (by rw[qP,hb];omega),List.getElem?_append_right (by rw[qP,qP,hb];omega),qP,qP,hb,show b+aY ks-b-aY ks=0 by omega]
    rfl
   rw[List.getElem?_take_of_lt (by omega)] at c
   exact c
  have wi:IntKind.wrap .i64 (((b+aY ks:Nat):Int)-1)=((b+aY ks:Nat):Int)-1:=by rw[bX (by omega) (by omega)]
  -- the node's depth is laid
  have H:(if(v==0)=true then some (dp.set (b+aY ks) 1) else some dp:Option (List Int))=some (dp.set (b+aY ks) (d:Int)):=by
   rcases v2 with rfl|⟨rfl,rfl⟩
   .have:((d:Int)==0)=false:=by rw[beq_eq_false_iff_ne];omega
    rw[this,XI z];rfl
   rfl
  have hd':(dp.set (b+aY ks) (d:Int))[b+aY ks]? =some (d:Int):=List.getElem?_set_self hi
  simp only[aI,yM]
  rw[ei,if_pos (by simp only[jA];omega),mR z]
  simp only[j0,jS,H,mR hd',mR f]
  have c:(Rose.mk h ks).deepen d=max d (oF (if h.1=4 then d else d+1) ks):=by simp only[Rose.deepen]
  by_cases a1:32<d
  .rw[if_pos (by simp only[jA];omega)]
   refine⟨.inr true,rfl,rfl,(Rose.mk h ks,d),by simp,?_⟩
   simp only[c];omega
  rw[if_neg (by simp only[jA];omega)]
  have a0:∀a∈bW b ks,0<=a/\a<((b+aY ks:Nat):Int):=fun a ha=>by
   have:=YD a ha;omega
  have E:=QR (N:=N) (i:=b+aY ks) (d:=d) (x1:=x1) (x5:=eD h (bW b ks)) (so:=dp) f a0 (by
   have:=g _ (fK f);exact this) (by omega) (bW b ks).length 0 N (dp.set (b+aY ks) (d:Int)) (by show 0+_=(bW b ks).length;omega) (by
   have:=g _ (fK f)
   have:(bW b ks).length<2000000:=this
   omega) (by rw[gE];exact hi) hd'
  rw[jZ] at E
  rw[show(((0:Nat):Int))=0 from rfl] at E
  rw[E]
  simp only[j0,wi]
  have hv:(if(eD h (bW b ks)).1=4 then(d:Int) else((d+1:Nat):Int))=(((if h.1=4 then d else d+1:Nat)):Int):=by
   show(if h.1=4 then(d:Int) else((d+1:Nat):Int))=_
   split<;>rfl
  rw[hv]
  show ∃o,aI (yM N x1) M (((b+aY ks:Nat):Int)-1,sG (dp.set (b+aY ks) (d:Int)) (bW b ks) _)=some o/\_
  generalize hd2:(if h.1=4 then d else d+1:Nat)=d'
  rw[hd2] at c
  have hd2':1<=d'/\d'<=33:=by rw[<-hd2];split<;>omega
  have D:∀l:List Rose,(l.map fun t=>(t,d')).map (·.1)=l:=fun l=>by rw[List.map_map];exact List.map_id _
  have n:aY ((pre++ks.map fun t=>(t,d')).map (·.1))=b+aY ks:=by rw[fB,D,uV,hb]
  have Y:dS 0 ((pre++ks.map fun t=>(t,d')).map (·.1))=x1.2.2.2.take (b+aY ks):=by
   rw[fB,D,CR,kO,hb]
   have e:x1.2.2.2.take (b+(aY ks+1))=dS 0 (pre.map (·.1))++(dS b ks++[eD h (bW b ks)]):=by
    rw[r] at s
    rw[<-s,CR,kO,hb]
    simp[dS,Rose.flat]
   have e3:=congrArg (List.take (b+aY ks)) e
   rw[List.take_take,Nat.min_eq_left (by omega),<-jE,kU (by rw[jC,qP,qP,hb];exact jT _),gW (show(dS 0 (pre.map (·.1))++dS b ks).length<=b+aY ks by rw[jC,qP,qP,hb];exact jT _)] at e3
   exact e3.symm
  obtain⟨o,o1,o2⟩:=YW G g hN M (pre++ks.map fun t=>(t,d')) (sG (dp.set (b+aY ks) (d:Int)) (bW b ks) (d':Int)) (by rw[n];exact Y) (by rw[n];omega) (by rw[UV,gE];exact U) (DpOk.app.2 ⟨d1.congr fun j Z=>by
    rw[kO,hb] at Z
    rw[OS ks b _ Z,List.getElem?_set_ne (by omega)],by
    rw[kO,hb]
    exact DpOk.kids (by rw[gE];omega)⟩) (fun p k=>by
    rcases gP.1 k with k|k
    .exact A p (kD _ k)
    obtain⟨t,-,rfl⟩:=fT.1 k
    exact hd2') (by rw[n];omega)
  rw[n] at o1
  refine⟨o,o1,?_⟩
  have y:(∃p∈pre++ks.map fun t=>(t,d'),32<p.1.deepen p.2)↔∃p∈pre++[(Rose.mk h ks,d)],32<p.1.deepen p.2:=by
   simp only[gP,fT,kI]
   constructor
   .rintro⟨p,k|⟨t,K,rfl⟩,q⟩
    .exact⟨p,.inl k,q⟩
    refine⟨_,.inr rfl,?_⟩
    simp only[c]
    have:32<oF d' ks:=NS.2 ⟨t,K,q⟩
    omega
   rintro⟨p,k|rfl,q⟩
   .exact⟨p,.inl k,q⟩
   simp only[c] at q
   obtain⟨t,K,q⟩:=NS.1 (show 32<oF d' ks by omega)
   exact⟨_,.inr ⟨t,K,rfl⟩,q⟩
  cases o with
  |inl u=>exact fun k=>o2 (y.2 k)
  |inr u=>exact⟨o2.1,y.1 o2.2⟩
def vJ(l:List Ex):Bool:=match AF l with
 |some t=>decide (32<t.deepen 1)
 |none=>false
def sZ(d:Dl):Bool:=decide (8<d.2.2.1.length)||(decide (256<d.2.2.2.length)||vJ d.2.2.2)
def AE(f:Sr):Bool:=decide (8<f.2.1.length)||(decide (64<f.2.2.length)||f.2.2.any sZ)
def lQ(f:Sr):Int:=if xF f=true then if wV f=true then 10 else if AE f=true then 2 else 0 else 9
theorem qKz{N:Nat}{f:Sr}(D:SmSr f)(p:xF f=true)(A:3000000<N):CM N f=some (AE f):=by
 obtain⟨R,S,z⟩:=id D
 have c:∀d∈f.2.2,oneP (oI d.2.2.2 0 [])=true:=fun d B=>by
  unfold xF oS AD at p
  simp only[jM,kE] at p
  exact(p.2.2 d B).2.2.2
 have q:=oR (L:=f.2.2) (fun(_:Unit) (i:Nat)=>(i:Int)) (f:=CC N f)
  (fun _ d=>if sZ d=true then .inr (.inr true) else .inl ()) (fun _=>(.inl ():Unit⊕Bool)) (fun _ _=>True) (by
   intro t i hi _
   obtain⟨-,F,G,k3⟩:=z _ (jN hi)
   have r:=c _ (jN hi)
   simp only[CC]
   rw[if_pos (by simp only[jA];omega),dM hi]
   generalize f.2.2[i]=d at F G k3 r
   have ew:IntKind.wrap .i64 ((i:Int)+1)=((i+1:Nat):Int):=by rw[bX (by omega) (by omega)];omega
   have n:decide ((d.2.2.1.length:Int)>8)=decide (8<d.2.2.1.length):=by congr 1;rw[eq_iff_iff];omega
   have l:decide ((d.2.2.2.length:Int)>256)=decide (256<d.2.2.2.length):=by congr 1;rw[eq_iff_iff];omega
   simp only[j0,n,l,ew]
   unfold sZ
   cases c8:decide (8<d.2.2.1.length) with
   |true=>rfl
   |false=>
    simp only[jB,jI,j0,kX]
    cases c256:decide (256<d.2.2.2.length) with
    |true=>rfl
    |false=>
     have U:=of_decide_eq_false c256
     have K:(maxLen:Int)=9223372036854775807:=rfl
     have s:rR 8 (0:Int) (d.2.2.2.length:Int)=some (List.replicate d.2.2.2.length 0):=by
      unfold rR;rw[if_pos (by omega),jS]
     obtain⟨t,v,h⟩:=HM r
     have k:t.size=d.2.2.2.length:=by
      have:=iP t 0
      rw[<-h] at this;exact this.symm
     have V:=t.pos
     simp only[jB,jI,s,j0,kX]
     have a:aY ([(t,1)].map (·.1))=d.2.2.2.length:=by simp[aY,k]
     obtain⟨o,y,o2⟩:=YW (N:=N) (x1:=d) (by omega) (fun x E=>(k3 x E).2) A N [(t,1)] (List.replicate d.2.2.2.length 0) (by
      rw[a,gT]
      simp only[kG,List.map_nil,dS,jV]
      exact h.symm) (by rw[a];exact jT _) (by simp) ⟨⟨0,by rw[kO,k,List.getElem?_replicate,if_pos (by omega)],.inr ⟨rfl,rfl⟩⟩,trivial⟩ (by simp) (by rw[a];omega)
     rw[a] at y
     rw[bX (by omega) (by omega),y]
     have g:vJ d.2.2.2=decide (32<t.deepen 1):=by unfold vJ;rw[v]
     simp only[j0]
     cases o with
     |inl u=>
      simp only[kI,exists_eq_left] at o2
      have e:vJ d.2.2.2=false:=by rw[g];exact jX o2
      rw[e]
      rfl
     |inr u=>
      simp only[kI,exists_eq_left] at o2
      obtain⟨rfl,H⟩:=o2
      have e:vJ d.2.2.2=true:=by rw[g];exact kC H
      rw[e]
      rfl) (fun _ _ _ _ _ _=>trivial) (by
   intro t _
   simp only[CC]
   rw[if_neg (by simp)]) (M:=N) (t:=()) (by omega) trivial
 rw[show((0:Nat):Int)=0 from rfl] at q
 unfold CM
 have n:decide ((f.2.1.length:Int)>8)=decide (8<f.2.1.length):=by congr 1;rw[eq_iff_iff];omega
 have a:decide ((f.2.2.length:Int)>64)=decide (64<f.2.2.length):=by congr 1;rw[eq_iff_iff];omega
 rw[n,a]
 unfold AE
 cases c8:decide (8<f.2.1.length) with
 |true=>rfl
 |false=>
  simp only[jB,jI,j0,kX]
  cases c64:decide (64<f.2.2.length) with
  |true=>rfl
  |false=>
   simp only[jB,jI,kX]
   rw[q,tR (b:=(.inr true:Unit⊕Bool)) sZ (fun x=>rfl)]
   cases f.2.2.any sZ<;>rfl
theorem KI{N:Nat}{f:Sr}(b:SmSr f)(a:3000000<N):qM N f=some (lQ f):=by
 unfold qM
 rw[show CH N (f.1,f.2.1,f.2.2)=_ from qId b a,show CL N (f.1,f.2.1,f.2.2)=_ from qJh b a]
 simp only[j0]
 unfold lQ
 cases hs:xF f with
 |false=>rfl
 |true=>
  rw[show CM N (f.1,f.2.1,f.2.2)=_ from qKz b hs a]
  simp only[gD,jB,jI,j0,jJ]
  cases wV f<;>cases AE f<;>rfl
end
section
open Go Go.Dc Go.Proofs
def dO(h:Hd):Int:=if h.1=5 then 0 else if h.1=4 then(if h.2.2.1=6\/h.2.2.1=7 then 1 else if h.2.2.1=1\/h.2.2.1=2 then 2 else 3) else 4
def dV(h:Hd)(k:Nat):Int:=if h.1=4 then(if k=0 then(if dO h=1 then 2 else dO h) else dO h+1) else 0
def QZ:List (Int×BA):=[(1,⟨#[43]⟩),(2,⟨#[45]⟩),(3,⟨#[42]⟩),(4,⟨#[47]⟩),(5,⟨#[37]⟩),(6,⟨#[60]⟩),(7,⟨#[61,61]⟩)]
def pI(op:Int):BA:=(dJ (some QZ) op).getD ⟨#[]⟩
def LL:List (Int×BA):=[(7,⟨#[115,105,122,101]⟩),(8,⟨#[104,97,115]⟩),(9,⟨#[101,110,118]⟩)]
def nF(k:Int):BA:=(dJ (some LL) k).getD ⟨#[]⟩
def tI:List UInt8:=[105,102,32]
def tThen:List UInt8:=[32,116,104,101,110,32]
def tElse:List UInt8:=[32,101,108,115,101,32]
def lB(k:Nat):List UInt8:=if k=0 then[] else[44,32]
def iR:Nat->List (List UInt8)->List UInt8
 |_,[]=>[]
 |k,w::ws=>lB k++(w++iR (k+1) ws)
def eF(ps:List BA)(h:Hd)(ws:List (List UInt8)):List UInt8:=
 if h.1=1 then(oZ h.2.1).data.toList
 else if h.1=2 then(ps.getD h.2.1.toNat ⟨#[]⟩).data.toList
 else if h.1=4 then ws.getD 0 []++((((⟨#[32]⟩:BA)++pI h.2.2.1)++(⟨#[32]⟩:BA)).data.toList++ws.getD 1 [])
 else if h.1=5 then tI++(ws.getD 0 []++(tThen++(ws.getD 1 []++(tElse++ws.getD 2 []))))
 else if h.1=3 then(h.2.2.2++(⟨#[40]⟩:BA)).data.toList++(iR 0 ws++[41])
 else if h.1=6 then(((⟨#[114,101,97,100,40,34]⟩:BA)++h.2.2.2)++(⟨#[34,44,32]⟩:BA)).data.toList++(ws.getD 0 []++[41])
 else if h.1=10 then(((⟨#[102,108,105,112,40]⟩:BA)++oZ h.2.1)++(⟨#[41]⟩:BA)).data.toList
 else(((nF h.1++(⟨#[40,34]⟩:BA))++h.2.2.2)++(⟨#[34,41]⟩:BA)).data.toList
mutual
def Rose.wr(ps:List BA)(need:Int):Rose->List UInt8
 | .mk h ks=>if dO h<need then 40::(eF ps h (dZ ps h 0 ks)++[41]) else eF ps h (dZ ps h 0 ks)
def dZ(ps:List BA)(h:Hd)(k:Nat):List Rose->List (List UInt8)
 |[]=>[]
 |t::l=>t.wr ps (dV h k)::dZ ps h (k+1) l
end
mutual
def Rose.dep(need:Int)(d:Nat):Rose->Nat
 | .mk h ks=>max (if dO h<need then d+1 else d) (nN h 0 (if h.1=4 then(if dO h<need then d+1 else d) else(if dO h<need then d+1 else d)+1) ks)
def nN(h:Hd)(k d:Nat):List Rose->Nat
 |[]=>0
 |t::l=>max (t.dep (dV h k) d) (nN h (k+1) d l)
end
theorem XU{N:Nat}(x:Ex):wL N x=some (dO (x.1,x.2.1,x.2.2.1,x.2.2.2.1)):=by
 unfold wL GH dO
 by_cases h5:x.1=5
 .simp[h5]
 by_cases h4:x.1=4
 .by_cases o6:x.2.2.1=6
  .simp[h4,o6]
  by_cases o7:x.2.2.1=7
  .simp[h4,o7]
  by_cases o1:x.2.2.1=1
  .simp[h4,o1]
  by_cases o2:x.2.2.1=2
  .simp[h4,o2]
  simp[h4,o6,o7,o1,o2]
 simp[h5,h4]
theorem qKj{N:Nat}:GM N=some (some QZ):=by kernel_rfl
theorem mU{l k:List UInt8}(h:l.length+k.length<=1000000000):cP 1 l k=some (l++k):=pP (by omega) (by decide)
theorem cV{x y:BA}(h:x.size+y.size<=1000000000):cC x y=some (x++y):=by
 unfold cC
 rw[if_pos (Nat.le_trans h (by decide))]
theorem eH(x:BA):x.data.toList.length=x.size:=by simp
theorem tX(m d:Nat):(if(d:Int)>(m:Int) then(d:Int) else(m:Int))=((max m d:Nat):Int):=by
 split<;>omega
section
variable (N:Nat) (l:List Ex) (ps:List BA)
def DW(t:Rose):Prop:=∀(D b:Nat) (buf:List UInt8) (s:Bool) (m d:Nat) (need:Int),AtT l b t->(∀x∈t.flat b,iJ (ps.length:Int) x=true)->2*t.size<=D->buf.length+(t.wr ps need).length<=1000000000->d+2*t.size<=100000000->0<=need->
 wE N D ((s,buf),l,ps,(m:Int)) ((b+t.size-1:Nat):Int) need (d:Int)=some ((true,buf++t.wr ps need),l,ps,((max m (t.dep need d):Nat):Int))
variable {N l ps}
theorem VO{h:Hd}{x1:Ex}{D d:Nat}(F:3000000<N)(e:x1.2.2.2.2.length<2000000)(G:d<100000000):∀(ks:List Rose) (k b M m:Nat) (buf:List UInt8),(∀t∈ks,DW N l ps t)->x1.2.2.2.2.drop k=bW b ks->k<=x1.2.2.2.2.length->AtTs l b ks->(∀x∈dS b ks,iJ (ps.length:Int) x=true)->2*aY ks<=D->h.1≠4->
  buf.length+(iR k (dZ ps h k ks)).length<=1000000000->d+1+2*aY ks<=100000000->ks.length<M->
  aI (BI N (wE N D) (d:Int) x1) M ((k:Int),true,buf,l,ps,(m:Int))=some (true,buf++iR k (dZ ps h k ks),l,ps,((max m (nN h k (d+1) ks):Nat):Int))
 |_,_,_,0,_,_,_,_,_,_,_,_,_,_,_,n=>absurd n (kP _)
 |[],k,b,M+1,m,buf,_,a,H,_,_,_,_,_,_,_=>by
  have U:k=x1.2.2.2.2.length:=by
   have:=congrArg List.length a
   rw[kW] at this
   simp only[bW,jF] at this
   omega
  simp only[aI,BI]
  rw[if_neg (by simp only[jA];omega)]
  simp only[j0,dZ,iR,jV,nN,fG]
 |t::ks,k,b,M+1,m,buf,g,a,H,s,B,E,r,c,v,n=>by
  have K:=t.pos
  simp only[aY] at E v
  have f:k<x1.2.2.2.2.length:=by
   by_cases hh:k<x1.2.2.2.2.length
   .exact hh
   rw[jW (by omega)] at a;cases a
  rw[uU f] at a
  obtain⟨z,A⟩:=List.cons.inj a
  obtain⟨p,q⟩:=s.head
  have y:dV h k=0:=by unfold dV;rw[if_neg r]
  simp only[dZ,iR,y] at c ⊢
  simp only[jC] at c
  have ew:IntKind.wrap .i64 ((k:Int)+1)=((k+1:Nat):Int):=by rw[bX (by omega) (by omega)];omega
  have ed:IntKind.wrap .i64 ((d:Int)+1)=((d+1:Nat):Int):=by rw[bX (by omega) (by omega)];omega
  simp only[aI,BI]
  rw[if_pos (by simp only[jA];omega),dM f,z]
  have o:(if(decide ((k:Int)>0))=true then((cP 1 buf ((⟨#[44,32]⟩:BA).data.toList)).bind fun S=>some (true,S)) else(some (true,buf)):Option (Bool×List (UInt8)))=some (true,buf++lB k):=by
   unfold lB at c ⊢
   by_cases h0:k=0
   .subst h0
    rw[if_neg (by decide),if_pos rfl,jV]
   rw[if_neg h0] at c
   rw[if_pos (by simp only[jA];omega),if_neg h0,mU (by show buf.length+2<=_;simp only[jD,jF] at c;omega)]
   rfl
  simp only[j0,o,ew,ed]
  rw[g t (jH ..) D b (buf++lB k) true m (d+1) 0 p (fun x e=>B x (by unfold dS;exact kD _ e)) (by omega) (by rw[jC];omega) (by omega) (gU 0)]
  simp only[j0]
  rw[VO F e G ks (k+1) (b+t.size) M (max m (t.dep 0 (d+1))) ((buf++lB k)++t.wr ps 0) (fun u R=>g u (jK _ R)) A (by omega) q (fun x e=>B x (by unfold dS;exact kM _ e)) (by omega) r (by simp only[jC];omega) (by omega) (by simp only[jD] at n;omega)]
  simp only[jE,nN,y,hQ]
theorem KH{np:Int}{x:Ex}(h:iJ np x=true):
  (x.1=1/\x.2.2.2.2.length=0/\-9007199254740992<=x.2.1/\x.2.1<=9007199254740992/\x.2.2.1=0/\x.2.2.2.1=bU)\/(x.1=2/\x.2.2.2.2.length=0/\0<=x.2.1/\x.2.1<np/\x.2.2.1=0/\x.2.2.2.1=bU)\/(x.1=3/\dH x.2.2.2.1=true/\x.2.1=0/\x.2.2.1=0)\/(x.1=4/\x.2.2.2.2.length=2/\1<=x.2.2.1/\x.2.2.1<=7/\x.2.1=0/\x.2.2.2.1=bU)\/
  (x.1=5/\x.2.2.2.2.length=3/\x.2.1=0/\x.2.2.1=0/\x.2.2.2.1=bU)\/(x.1=6/\x.2.2.2.2.length=1/\iN x.2.2.2.1.data.toList=true/\x.2.1=0/\x.2.2.1=0)\/((x.1=7\/x.1=8)/\x.2.2.2.2.length=0/\iN x.2.2.2.1.data.toList=true/\x.2.1=0/\x.2.2.1=0)\/(x.1=9/\x.2.2.2.2.length=0/\lR x.2.2.2.1=true/\x.2.1=0/\x.2.2.1=0)\/
  (x.1=10/\x.2.2.2.2.length=0/\0<=x.2.1/\x.2.1<64/\x.2.2.1=0/\x.2.2.2.1=bU):=by
 unfold iJ rU at h
 by_cases h1:x.1=1
 .simp only[if_pos h1,jM,jA,kN] at h
  exact .inl ⟨h1,by omega,h.2.2.2.1,h.2.2.2.2,h.2.1,h.1⟩
 rw[if_neg h1] at h
 by_cases h2:x.1=2
 .simp only[if_pos h2,jM,jA,kN] at h
  exact .inr (.inl ⟨h2,by omega,h.2.2.2.1,h.2.2.2.2,h.2.1,h.1⟩)
 rw[if_neg h2] at h
 by_cases h3:x.1=3
 .simp only[if_pos h3,jM,jA,kN] at h
  exact .inr (.inr (.inl ⟨h3,h.2.2,h.1,h.2.1⟩))
 rw[if_neg h3] at h
 by_cases h4:x.1=4
 .simp only[if_pos h4,jM,jA,kN] at h
  exact .inr (.inr (.inr (.inl ⟨h4,by omega,h.2.2.2.1,h.2.2.2.2,h.1,h.2.1⟩)))
 rw[if_neg h4] at h
 by_cases h5:x.1=5
 .simp only[if_pos h5,jM,jA,kN] at h
  exact .inr (.inr (.inr (.inr (.inl ⟨h5,by omega,h.1,h.2.2.1,h.2.1⟩))))
 rw[if_neg h5] at h
 by_cases h6:x.1=6
 .simp only[if_pos h6,jM,jA,kN] at h
  exact .inr (.inr (.inr (.inr (.inr (.inl ⟨h6,by omega,h.2.2.2,h.1,h.2.1⟩)))))
 rw[if_neg h6] at h
 by_cases h7:x.1=7\/x.1=8
 .simp only[if_pos h7,jM,jA,kN] at h
  exact .inr (.inr (.inr (.inr (.inr (.inr (.inl ⟨h7,by omega,h.2.2.2,h.1,h.2.1⟩))))))
 rw[if_neg h7] at h
 by_cases h9:x.1=9
 .simp only[if_pos h9,jM,jA,kN] at h
  exact .inr (.inr (.inr (.inr (.inr (.inr (.inr (.inl ⟨h9,by omega,h.2.2.2,h.1,h.2.1⟩)))))))
 rw[if_neg h9] at h
 by_cases h10:x.1=10
 .simp only[if_pos h10,jM,jA,kN] at h
  exact .inr (.inr (.inr (.inr (.inr (.inr (.inr (.inr ⟨h10,by omega,h.2.2.2.1,h.2.2.2.2,h.2.1,h.1⟩)))))))
 rw[if_neg h10] at h
 cases h
end
section
variable {N:Nat} {l:List Ex} {ps:List BA}
theorem MD{b:Nat}{ks:List Rose}(h:(bW b ks).length=0):ks=[]:=by
 rw[qA] at h
 exact gB.1 h
theorem qBl{b:Nat}{ks:List Rose}(h:(bW b ks).length=1):∃t,ks=[t]:=by
 rw[qA] at h
 exact List.length_eq_one_iff.1 h
theorem qBe{b:Nat}{ks:List Rose}(h:(bW b ks).length=2):∃t u,ks=[t,u]:=by
 rw[qA] at h
 match ks,h with
 |[t,u],_=>exact⟨t,u,rfl⟩
theorem len3{b:Nat}{ks:List Rose}(h:(bW b ks).length=3):∃t u v,ks=[t,u,v]:=by
 rw[qA] at h
 match ks,h with
 |[t,u,v],_=>exact⟨t,u,v,rfl⟩
theorem ZM{N:Nat}{n:Int}(a: -9007199254740992<=n)(b:n<=9007199254740992):strconv_Itoa N n=some (oZ n):=by
 unfold strconv_Itoa LY
 rw[if_pos ⟨by omega,by omega⟩]
theorem wm1:iM (some []:Option (List (Int×BA))) 7 (⟨#[115,105,122,101]⟩:BA)=some (some [(7,⟨#[115,105,122,101]⟩)]):=by kernel_rfl
theorem wm2:iM (some [(7,⟨#[115,105,122,101]⟩)]:Option (List (Int×BA))) 8 (⟨#[104,97,115]⟩:BA)=some (some [(7,⟨#[115,105,122,101]⟩),(8,⟨#[104,97,115]⟩)]):=by kernel_rfl
theorem wm3:iM (some [(7,⟨#[115,105,122,101]⟩),(8,⟨#[104,97,115]⟩)]:Option (List (Int×BA))) 9 (⟨#[101,110,118]⟩:BA)=some (some LL):=by kernel_rfl
theorem ZJ{h:Hd}{ks:List Rose}(hN:3000000<N)(r:∀t∈ks,DW N l ps t){D b m d:Nat}{buf:List UInt8}{s:Bool}{need:Int}(a3:AtT l b (.mk h ks))(hv:∀x∈(Rose.mk h ks).flat b,iJ (ps.length:Int) x=true)(H:2*aY ks<=D)
  (n:buf.length+(eF ps h (dZ ps h 0 ks)).length<=1000000000) (V:d+(2*aY ks+1)<=100000000) (hl:¬dO h<need) (a6:ks.length<2000000):
  wE N (D+1) ((s,buf),l,ps,(m:Int)) ((b+aY ks:Nat):Int) need (d:Int)=some ((true,buf++eF ps h (dZ ps h 0 ks)),l,ps,((max m (max d (nN h 0 (if h.1=4 then d else d+1) ks)):Nat):Int)):=by
 obtain⟨Y,z⟩:=a3.args
 have Y:l[b+aY ks]? =some (h.1,h.2.1,h.2.2.1,h.2.2.2,bW b ks):=Y
 have K:iJ (ps.length:Int) (h.1,h.2.1,h.2.2.1,h.2.2.2,bW b ks)=true:=hv (eD h (bW b ks)) (by unfold Rose.flat;exact kM _ (jH ..))
 have o:∀x∈dS b ks,iJ (ps.length:Int) x=true:=fun x q=>hv x (by unfold Rose.flat;exact kD _ q)
 have ed:IntKind.wrap .i64 ((d:Int)+1)=((d+1:Nat):Int):=by rw[bX (by omega) (by omega)];omega
 show yF N (wE N D) _ _ _ _=_
 unfold yF
 dsimp only
 rw[mR Y]
 simp only[j0]
 rw[show wL N (h.1,h.2.1,h.2.2.1,h.2.2.2,bW b ks)=some (dO h) from XU _]
 simp only[j0]
 rw[if_neg (by simpa using hl)]
 rcases KH K with ⟨k,a,y,E,-,-⟩|⟨k,a,y,E,-,-⟩|⟨k,a,-,-⟩|⟨k,a,y,E,-,-⟩|⟨k,a,-,-,-⟩|⟨k,a,y,-,-⟩|⟨k,a,y,-,-⟩|⟨k,a,y,-,-⟩|⟨k,a,y,E,-,-⟩
 all_goals dsimp only at k a
 .obtain rfl:=MD a
  have eb:eF ps h (dZ ps h 0 [])=(oZ h.2.1).data.toList:=by unfold eF;rw[if_pos k]
  rw[eb] at n ⊢
  dsimp only at y E
  rw[if_pos (by simpa using k),ZM y E]
  simp only[j0]
  rw[mU n]
  simp only[j0,tX,nN,fG]
 .obtain rfl:=MD a
  dsimp only at y E
  have c:h.1≠1:=by omega
  have eb:eF ps h (dZ ps h 0 [])=(ps.getD h.2.1.toNat ⟨#[]⟩).data.toList:=by unfold eF;rw[if_neg c,if_pos k]
  rw[eb] at n ⊢
  have f:h.2.1.toNat<ps.length:=by omega
  rw[if_neg (by simpa using c),if_pos (by simpa using k),HC y f]
  simp only[j0]
  have e:ps.getD h.2.1.toNat ⟨#[]⟩=ps[h.2.1.toNat]:=by rw[kA,List.getElem?_eq_getElem f];rfl
  rw[e] at n ⊢
  rw[mU n]
  simp only[j0,tX,nN,fG]
 .have c:h.1≠1:=by omega
  have g:h.1≠2:=by omega
  have f:h.1≠4:=by omega
  have p:h.1≠5:=by omega
  have eb:eF ps h (dZ ps h 0 ks)=(h.2.2.2++(⟨#[40]⟩:BA)).data.toList++(iR 0 (dZ ps h 0 ks)++[41]):=by unfold eF;rw[if_neg c,if_neg g,if_neg f,if_neg p,if_pos k]
  rw[eb] at n ⊢
  rw[if_neg (by simpa using c),if_neg (by simpa using g),if_neg (by simpa using f),if_neg (by simpa using p),if_pos (by simpa using k)]
  simp only[jC,eH,ByteArray.size_append,jD,jF] at n
  have a5:(⟨#[40]⟩:BA).size=1:=rfl
  rw[cV (by omega)]
  simp only[j0]
  rw[mU (by rw[eH,ByteArray.size_append];omega)]
  simp only[j0,tX]
  have A:=VO (N:=N) (l:=l) (ps:=ps) (h:=h) (x1:=(h.1,h.2.1,h.2.2.1,h.2.2.2,bW b ks)) (D:=D) (d:=d) hN (by show(bW b ks).length<_;rw[qA];exact a6) (by omega) ks 0 b N (max m d) (buf++(h.2.2.2++(⟨#[40]⟩:BA)).data.toList) r rfl (gC _) z o H f
   (by simp only[jC,eH,ByteArray.size_append];omega) (by omega) (by omega)
  rw[show((0:Nat):Int)=0 from rfl] at A
  rw[A]
  simp only[j0]
  rw[mU (by simp only[jC,eH,ByteArray.size_append,jD,jF];omega)]
  simp only[j0,jE,if_neg f,hQ]
 .obtain⟨t,u,rfl⟩:=qBe a
  have c:h.1≠1:=by omega
  have g:h.1≠2:=by omega
  simp only[aY,fA] at H V o
  obtain⟨A,atr⟩:=z.head
  obtain⟨F,-⟩:=atr.head
  have a7:1<=dO h/\dO h<=3:=by
   unfold dO
   rw[if_neg (show h.1≠5 by omega),if_pos k]
   split<;>(try split)<;>omega
  have R:dV h 0=if dO h=1 then 2 else dO h:=by unfold dV;rw[if_pos k,if_pos rfl]
  have S:dV h 1=dO h+1:=by unfold dV;rw[if_pos k,if_neg (by decide)]
  have eb:eF ps h (dZ ps h 0 [t,u])=t.wr ps (dV h 0)++((((⟨#[32]⟩:BA)++pI h.2.2.1)++(⟨#[32]⟩:BA)).data.toList++u.wr ps (dV h 1)):=by unfold eF;rw[if_neg c,if_neg g,if_pos k];rfl
  rw[eb] at n ⊢
  rw[if_neg (by simpa using c),if_neg (by simpa using g),if_pos (by simpa using k)]
  have B:(if(dO h==1)=true then(some (IntKind.wrap .i64 (dO h+1))) else(some (dO h)):Option (Int))=some (dV h 0):=by
   rw[R]
   by_cases e:dO h=1
   .rw[if_pos (by simpa using e),if_pos e,bX (by omega) (by omega),e];rfl
   rw[if_neg (by simpa using e),if_neg e]
  have w1:IntKind.wrap .i64 (dO h+1)=dV h 1:=by rw[S,bX (by omega) (by omega)]
  have G:idx (bW b [t,u]) 0=some ((b+t.size-1:Nat):Int):=rfl
  have Z:idx (bW b [t,u]) 1=some ((b+t.size+u.size-1:Nat):Int):=rfl
  simp only[j0,B,G,Z,tX]
  rw[w1]
  simp only[jC,eH,ByteArray.size_append] at n
  have a5:(⟨#[32]⟩:BA).size=1:=rfl
  have U:=t.pos
  have a4:=u.pos
  have q0:0<=dV h 0:=by rw[R];split<;>omega
  have q1:0<=dV h 1:=by rw[S];omega
  rw[r t (jH ..) D b buf s (max m d) d (dV h 0) A (fun x q=>o x (by unfold dS;exact kD _ q)) (by omega) (by omega) (by omega) q0]
  simp only[j0,qKj]
  rw[show(dJ (some QZ) h.2.2.1).getD (⟨#[]⟩:BA)=pI h.2.2.1 from rfl,cV (by omega)]
  simp only[j0]
  rw[cV (by rw[ByteArray.size_append];omega)]
  simp only[j0]
  rw[mU (by simp only[jC,eH,ByteArray.size_append];omega)]
  simp only[j0]
  rw[r u (jK _ (jH ..)) D (b+t.size) _ true _ d (dV h 1) F (fun x q=>o x (by unfold dS;refine kM _ ?_;unfold dS;exact kD _ q)) (by omega) (by simp only[jC,eH,ByteArray.size_append];omega) (by omega) q1]
  simp only[j0,jE,if_pos k,nN,fG,hQ]
 .obtain⟨t,u,v,rfl⟩:=len3 a
  have c:h.1≠1:=by omega
  have g:h.1≠2:=by omega
  have f:h.1≠4:=by omega
  simp only[aY,fA] at H V o
  obtain⟨A,atr⟩:=z.head
  obtain⟨F,atr⟩:=atr.head
  obtain⟨R,-⟩:=atr.head
  have B:∀j,dV h j=0:=fun j=>by unfold dV;rw[if_neg f]
  have eb:eF ps h (dZ ps h 0 [t,u,v])=tI++(t.wr ps 0++(tThen++(u.wr ps 0++(tElse++v.wr ps 0)))):=by
   unfold eF;rw[if_neg c,if_neg g,if_neg f,if_pos k]
   simp only[dZ,B];rfl
  rw[eb] at n ⊢
  rw[if_neg (by simpa using c),if_neg (by simpa using g),if_neg (by simpa using f),if_pos (by simpa using k)]
  have U:=t.pos
  have a4:=u.pos
  have a5:=v.pos
  have l1:tI.length=3:=rfl
  have l2:tThen.length=6:=rfl
  have l3:tElse.length=6:=rfl
  simp only[jC] at n
  obtain⟨M,rfl⟩:∃M,N=M+4:=⟨N-4,by omega⟩
  have G:idx (bW b [t,u,v]) 0=some ((b+t.size-1:Nat):Int):=rfl
  have Z:idx (bW b [t,u,v]) 1=some ((b+t.size+u.size-1:Nat):Int):=rfl
  have i2:idx (bW b [t,u,v]) 2=some ((b+t.size+u.size+v.size-1:Nat):Int):=rfl
  have S:∀L:List UInt8,L.length+3<=1000000000->cP 1 L [105,102,32]=some (L++tI):=fun L h=>mU h
  have a1:∀L:List UInt8,L.length+6<=1000000000->cP 1 L [32,116,104,101,110,32]=some (L++tThen):=fun L h=>mU h
  have a2:∀L:List UInt8,L.length+6<=1000000000->cP 1 L [32,101,108,115,101,32]=some (L++tElse):=fun L h=>mU h
  have w0:IntKind.wrap .i64 ((0:Int)+1)=1:=by decide
  have w1:IntKind.wrap .i64 ((1:Int)+1)=2:=by decide
  have w2:IntKind.wrap .i64 ((2:Int)+1)=3:=by decide
  have s0:idx ([(⟨#[105,102,32]⟩:BA),(⟨#[32,116,104,101,110,32]⟩:BA),(⟨#[32,101,108,115,101,32]⟩:BA)]) 0=some ⟨#[105,102,32]⟩:=rfl
  have s1:idx ([(⟨#[105,102,32]⟩:BA),(⟨#[32,116,104,101,110,32]⟩:BA),(⟨#[32,101,108,115,101,32]⟩:BA)]) 1=some ⟨#[32,116,104,101,110,32]⟩:=rfl
  have s2:idx ([(⟨#[105,102,32]⟩:BA),(⟨#[32,116,104,101,110,32]⟩:BA),(⟨#[32,101,108,115,101,32]⟩:BA)]) 2=some ⟨#[32,101,108,115,101,32]⟩:=rfl
  have c0:decide ((0:Int)<(List.length ([(⟨#[105,102,32]⟩:BA),(⟨#[32,116,104,101,110,32]⟩:BA),(⟨#[32,101,108,115,101,32]⟩:BA)]):Int))=true:=by decide
  have c1:decide ((1:Int)<(List.length ([(⟨#[105,102,32]⟩:BA),(⟨#[32,116,104,101,110,32]⟩:BA),(⟨#[32,101,108,115,101,32]⟩:BA)]):Int))=true:=by decide
  have c2:decide ((2:Int)<(List.length ([(⟨#[105,102,32]⟩:BA),(⟨#[32,116,104,101,110,32]⟩:BA),(⟨#[32,101,108,115,101,32]⟩:BA)]):Int))=true:=by decide
  have c3:decide ((3:Int)<(List.length ([(⟨#[105,102,32]⟩:BA),(⟨#[32,116,104,101,110,32]⟩:BA),(⟨#[32,101,108,115,101,32]⟩:BA)]):Int))=false:=by decide
  simp only[aI,JP,c0,jJ,s0,j0,G,ed,tX]
  rw[S _ (by omega)]
  simp only[j0]
  rw[r t (by simp) D b (buf++tI) true (max m d) (d+1) 0 A (fun x q=>o x (by unfold dS;exact kD _ q)) (by omega) (by rw[jC];omega) (by omega) (gU 0)]
  simp only[j0,w0,c1,jJ,s1,Z]
  rw[a1 _ (by simp only[jC];omega)]
  simp only[j0]
  rw[r u (by simp) D (b+t.size) _ true _ (d+1) 0 F (fun x q=>o x (by unfold dS;refine kM _ ?_;unfold dS;exact kD _ q)) (by omega) (by simp only[jC];omega) (by omega) (gU 0)]
  simp only[j0,w1,c2,jJ,s2,i2]
  rw[a2 _ (by simp only[jC];omega)]
  simp only[j0]
  rw[r v (by simp) D (b+t.size+u.size) _ true _ (d+1) 0 R (fun x q=>o x (by unfold dS;refine kM _ ?_;unfold dS;refine kM _ ?_;unfold dS;exact kD _ q)) (by omega) (by simp only[jC];omega) (by omega) (gU 0)]
  simp only[j0,w2,c3,jB,jI,jE,if_neg f,nN,B,fG,hQ]
 .obtain⟨t,rfl⟩:=qBl a
  have c:h.1≠1:=by omega
  have g:h.1≠2:=by omega
  have f:h.1≠4:=by omega
  have p:h.1≠5:=by omega
  have k3:h.1≠3:=by omega
  simp only[aY,fA] at H V o
  obtain⟨A,-⟩:=z.head
  have B:∀j,dV h j=0:=fun j=>by unfold dV;rw[if_neg f]
  have eb:eF ps h (dZ ps h 0 [t])=(((⟨#[114,101,97,100,40,34]⟩:BA)++h.2.2.2)++(⟨#[34,44,32]⟩:BA)).data.toList++(t.wr ps 0++[41]):=by
   unfold eF;rw[if_neg c,if_neg g,if_neg f,if_neg p,if_neg k3,if_pos k]
   simp only[dZ,B];rfl
  rw[eb] at n ⊢
  rw[if_neg (by simpa using c),if_neg (by simpa using g),if_neg (by simpa using f),if_neg (by simpa using p),if_neg (by simpa using k3),if_pos (by simpa using k)]
  have U:=t.pos
  have G:idx (bW b [t]) 0=some ((b+t.size-1:Nat):Int):=rfl
  have F:(⟨#[114,101,97,100,40,34]⟩:BA).size=6:=rfl
  have R:(⟨#[34,44,32]⟩:BA).size=3:=rfl
  simp only[jC,eH,ByteArray.size_append,jD,jF] at n
  rw[cV (by omega)]
  simp only[j0]
  rw[cV (by rw[ByteArray.size_append];omega)]
  simp only[j0]
  rw[mU (by simp only[eH,ByteArray.size_append];omega)]
  simp only[j0,G,ed,tX]
  rw[r t (by simp) D b _ true (max m d) (d+1) 0 A (fun x q=>o x (by unfold dS;exact kD _ q)) (by omega) (by simp only[jC,eH,ByteArray.size_append];omega) (by omega) (gU 0)]
  simp only[j0]
  rw[mU (by simp only[jC,eH,ByteArray.size_append,jD,jF];omega)]
  simp only[j0,jE,if_neg f,nN,B,fG,hQ]
 all_goals obtain rfl:=MD a
 .have c:h.1≠1:=by omega
  have g:h.1≠2:=by omega
  have f:h.1≠4:=by omega
  have p:h.1≠5:=by omega
  have k3:h.1≠3:=by omega
  have B:h.1≠6:=by omega
  have A:h.1≠10:=by omega
  have eb:eF ps h (dZ ps h 0 [])=(((nF h.1++(⟨#[40,34]⟩:BA))++h.2.2.2)++(⟨#[34,41]⟩:BA)).data.toList:=by
   unfold eF;rw[if_neg c,if_neg g,if_neg f,if_neg p,if_neg k3,if_neg B,if_neg A]
  rw[eb] at n ⊢
  rw[if_neg (by simpa using c),if_neg (by simpa using g),if_neg (by simpa using f),if_neg (by simpa using p),if_neg (by simpa using k3),if_neg (by simpa using B),if_neg (by simpa using A)]
  simp only[eH,ByteArray.size_append] at n
  have F:(⟨#[40,34]⟩:BA).size=2:=rfl
  have R:(⟨#[34,41]⟩:BA).size=2:=rfl
  simp only[wm1,wm2,wm3,j0]
  rw[show(dJ (some LL) h.1).getD (⟨#[]⟩:BA)=nF h.1 from rfl,cV (by omega)]
  simp only[j0]
  rw[cV (by rw[ByteArray.size_append];omega)]
  simp only[j0]
  rw[cV (by rw[ByteArray.size_append,ByteArray.size_append];omega)]
  simp only[j0]
  rw[mU (by simp only[eH,ByteArray.size_append];omega)]
  simp only[j0,tX,nN,fG]
 .have c:h.1≠1:=by omega
  have g:h.1≠2:=by omega
  have f:h.1≠4:=by omega
  have p:h.1≠5:=by omega
  have k3:h.1≠3:=by omega
  have B:h.1≠6:=by omega
  have A:h.1≠10:=by omega
  have eb:eF ps h (dZ ps h 0 [])=(((nF h.1++(⟨#[40,34]⟩:BA))++h.2.2.2)++(⟨#[34,41]⟩:BA)).data.toList:=by
   unfold eF;rw[if_neg c,if_neg g,if_neg f,if_neg p,if_neg k3,if_neg B,if_neg A]
  rw[eb] at n ⊢
  rw[if_neg (by simpa using c),if_neg (by simpa using g),if_neg (by simpa using f),if_neg (by simpa using p),if_neg (by simpa using k3),if_neg (by simpa using B),if_neg (by simpa using A)]
  simp only[eH,ByteArray.size_append] at n
  have F:(⟨#[40,34]⟩:BA).size=2:=rfl
  have R:(⟨#[34,41]⟩:BA).size=2:=rfl
  simp only[wm1,wm2,wm3,j0]
  rw[show(dJ (some LL) h.1).getD (⟨#[]⟩:BA)=nF h.1 from rfl,cV (by omega)]
  simp only[j0]
  rw[cV (by rw[ByteArray.size_append];omega)]
  simp only[j0]
  rw[cV (by rw[ByteArray.size_append,ByteArray.size_append];omega)]
  simp only[j0]
  rw[mU (by simp only[eH,ByteArray.size_append];omega)]
  simp only[j0,tX,nN,fG]
 have c:h.1≠1:=by omega
 have g:h.1≠2:=by omega
 have f:h.1≠4:=by omega
 have p:h.1≠5:=by omega
 have k3:h.1≠3:=by omega
 have B:h.1≠6:=by omega
 dsimp only at y E
 have eb:eF ps h (dZ ps h 0 [])=(((⟨#[102,108,105,112,40]⟩:BA)++oZ h.2.1)++(⟨#[41]⟩:BA)).data.toList:=by
  unfold eF;rw[if_neg c,if_neg g,if_neg f,if_neg p,if_neg k3,if_neg B,if_pos k]
 rw[eb] at n ⊢
 rw[if_neg (by simpa using c),if_neg (by simpa using g),if_neg (by simpa using f),if_neg (by simpa using p),if_neg (by simpa using k3),if_neg (by simpa using B),if_pos (by simpa using k),ZM (by omega) (by omega)]
 simp only[eH,ByteArray.size_append] at n
 simp only[j0]
 rw[cV (by omega)]
 simp only[j0]
 rw[cV (by rw[ByteArray.size_append];omega)]
 simp only[j0]
 rw[mU (by simp only[eH,ByteArray.size_append];omega)]
 simp only[j0,tX,nN,fG]
theorem qLy{h:Hd}{ks:List Rose}(k:3000000<N)(e:∀t∈ks,DW N l ps t)(f:ks.length<2000000):DW N l ps (.mk h ks):=by
 intro D b buf s m d need a o q c r p
 simp only[Rose.size] at q r ⊢
 rw[show b+(aY ks+1)-1=b+aY ks by omega]
 simp only[Rose.wr,Rose.dep] at c ⊢
 by_cases hl:dO h<need
 .rw[if_pos hl] at c ⊢
  simp only[if_pos hl]
  simp only[jD,jC,jF] at c
  obtain⟨D,rfl⟩:∃D',D=D'+2:=⟨D-2,by omega⟩
  have n:¬dO h<0:=by
   unfold dO
   split
   .omega
   split
   .split
    .omega
    split<;>omega
   omega
  obtain⟨g,-⟩:=a.args
  have g:l[b+aY ks]? =some (h.1,h.2.1,h.2.2.1,h.2.2.2,bW b ks):=g
  have ed:IntKind.wrap .i64 ((d:Int)+1)=((d+1:Nat):Int):=by rw[bX (by omega) (by omega)];omega
  show yF N (wE N (D+1)) _ _ _ _=_
  unfold yF
  dsimp only
  rw[mR g]
  simp only[j0]
  rw[show wL N (h.1,h.2.1,h.2.2.1,h.2.2.2,bW b ks)=some (dO h) from XU _]
  simp only[j0]
  rw[if_pos (by simpa using hl),mU (by simp only[jD,jF];omega)]
  simp only[j0,ed]
  rw[ZJ k e a o (by omega) (by simp only[jC,jD,jF];omega) (by omega) n f]
  simp only[j0]
  rw[mU (by simp only[jC,jD,jF];omega)]
  simp only[j0,jE,jO,jQ]
 rw[if_neg hl] at c ⊢
 simp only[if_neg hl]
 obtain⟨D,rfl⟩:∃D',D=D'+1:=⟨D-1,by omega⟩
 exact ZJ k e a o (by omega) c (by omega) hl f
end
mutual
theorem qAj{N:Nat}{l:List Ex}{ps:List BA}(a:3000000<N)(t:Rose)(b:t.size<2000000):DW N l ps t:=by
 match t with
 | .mk h ks=>
  have c:aY ks<2000000:=by simp only[Rose.size] at b;omega
  exact qLy a (qAd a ks c) (by have:=KA ks;omega)
theorem qAd{N:Nat}{l:List Ex}{ps:List BA}(c:3000000<N)(ks:List Rose)(a:aY ks<2000000):∀t∈ks,DW N l ps t:=by
 match ks with
 |[]=>intro t h;cases h
 |t::ks=>
  have d:t.size<2000000:=by simp only[aY] at a;omega
  have e:aY ks<2000000:=by simp only[aY] at a;omega
  have f:=qAj (l:=l) (ps:=ps) c t d
  have g:=qAd (l:=l) (ps:=ps) c ks e
  intro u b
  rcases jR.1 b with rfl|b
  .exact f
  exact g u b
end
end
section
open Go Go.Dc
abbrev Ct:=Int×List UInt8
def mG(c:Ct):List UInt8:=if c.1=3 then 34::(c.2++[34]) else c.2
theorem tQ{k:Int}{l:List UInt8}(h:k≠3):mG (k,l)=l:=by unfold mG;rw[if_neg h]
def II:List (List UInt8):=[[59],[44],[40],[41],[43],[45],[42],[47],[37],[60],[61],[61,61]]
def oY(c:Ct):Prop:=(c.1=1/\(∃x l,c.2=x::l/\kd x=1)/\(∀x∈c.2,bT [1,2,3] x=true)/\c.2.length<=24)\/(c.1=2/\c.2≠[]/\(∀x∈c.2,bT [2] x=true)/\sL c.2<=9007199254740992)\/
 (c.1=3/\∀x∈c.2,nC x=true)\/(c.1=4/\c.2∈II)
abbrev lZ:=Int×BA×Int
def eE(c:Ct):lZ:=(c.1,if c.1=2 then⟨#[]⟩ else⟨⟨c.2⟩⟩,if c.1=2 then sL c.2 else 0)
def eC(t:bQ):lZ:=(t.1,t.2.1,t.2.2.1)
def IB(c:Ct)(x:UInt8):Bool:=if c.1=1 then !bT [1,2,3] x else if c.1=2 then !bT [2] x else if c.2=[61] then x !=61 else true
abbrev Pc:=Ct×List UInt8
def cT:List Pc->List UInt8
 |[]=>[]
 |p::l=>mG p.1++(p.2++cT l)
def eT:List Pc->Prop
 |[]=>True
 |p::l=>oY p.1/\(∀x∈p.2,bT [5] x=true)/\(∀x r,p.2++cT l=x::r->IB p.1 x=true)/\eT l
theorem NK{p:UInt8->Bool}:∀{a r:List UInt8},(∀x∈a,p x=true)->(∀x q,r=x::q->p x=false)->(a++r).takeWhile p=a
 |[],[],_,_=>rfl
 |[],x::q,_,h=>by rw[jQ,gV (by rw[h x q rfl];simp)]
 |x::a,r,b,c=>by rw[jO,gN (b x (jH ..)),NK (fun y d=>b y (jK _ d)) c]
theorem HX{p:UInt8->Bool}{pre a r:List UInt8}(b:∀x∈a,p x=true)(c:∀x q,r=x::q->p x=false):tw p (pre++(a++r)) pre.length=pre.length+a.length:=by
 unfold tw
 rw[List.drop_left,NK b c]
theorem tS{pre:List UInt8}{x:UInt8}{r:List UInt8}:(pre++x::r).getD pre.length 0=x:=by
 rw[kA,List.getElem?_append_right (jT _),Nat.sub_self];rfl
theorem QF{s:BA}{pre a r:List UInt8}(h:s.data.toList=pre++(a++r)):s.extract pre.length (pre.length+a.length)=⟨⟨a⟩⟩:=
 ByteArray.ext (Array.ext' (by
  simp only[ByteArray.data_extract,fZ,fJ]
  rw[h,List.drop_left,Nat.add_sub_cancel_left,dE]))
theorem YA{l:List UInt8}(h:l∈II):(∃x,l=[x]/\kd x=8)\/l=[61,61]:=by
 simp only[II,jR,gK,dG] at h
 rcases h with rfl|rfl|rfl|rfl|rfl|rfl|rfl|rfl|rfl|rfl|rfl|rfl<;>first|exact .inr rfl|exact .inl ⟨_,rfl,by kernel_rfl⟩
theorem QK{k:Int}{x:UInt8}:bT [k] x=true↔kd x=k:=by simp[bT]
theorem VT{c:Ct}(h:oY c):∃x r,mG c=x::r/\(kd x=1\/kd x=2\/kd x=7\/kd x=8):=by
 obtain⟨k,l⟩:=c
 rcases h with ⟨rfl,⟨x,r,b,a⟩,-,-⟩|⟨rfl,b,a,-⟩|⟨rfl,b⟩|⟨rfl,b⟩
 .exact⟨x,r,by rw[tQ (by decide)];exact b,.inl a⟩
 .cases l with
  |nil=>exact absurd rfl b
  |cons x r=>exact⟨x,r,tQ (by decide),.inr (.inl (QK.1 (a x (jH ..))))⟩
 .exact⟨34,l++[34],by unfold mG;rw[if_pos rfl],.inr (.inr (.inl (by kernel_rfl)))⟩
 rcases YA b with ⟨x,a,d⟩|a
 .have a:l=[x]:=a
  subst a
  exact⟨x,[],tQ (by decide),.inr (.inr (.inr d))⟩
 have a:l=[61,61]:=a
 subst a
 exact⟨61,[61],tQ (by decide),.inr (.inr (.inr (by kernel_rfl)))⟩
theorem qKa{s:BA}{pre r:List UInt8}{c:Ct}(E:oY c)(b:s.data.toList=pre++(mG c++r))(B:∀x q,r=x::q->IB c x=true):
  eP s pre.length=(((eE c).1,(eE c).2.1,(eE c).2.2,0),((pre.length+(mG c).length:Nat):Int),0):=by
 obtain⟨k,l⟩:=c
 rcases E with ⟨rfl,⟨x,q,f,a⟩,o,D⟩|⟨rfl,f,a,o⟩|⟨rfl,f⟩|⟨rfl,f⟩
 .have eb:mG (1,l)=l:=tQ (by decide)
  rw[eb] at b ⊢
  have f:l=x::q:=f
  have d:s.data.toList.getD pre.length 0=x:=by rw[b,f];exact tS
  have p:tw (bT [1,2,3]) s.data.toList pre.length=pre.length+l.length:=by
   rw[b]
   exact HX o fun y z t=>by have:=B y z t;simpa[IB] using this
  have D:l.length<=24:=D
  unfold eP
  rw[if_pos (by rw[d];exact a),p,if_neg (by omega),QF b]
  rfl
 .have eb:mG (2,l)=l:=tQ (by decide)
  rw[eb] at b ⊢
  have f:l≠[]:=f
  have o:sL l<=9007199254740992:=o
  obtain⟨x,q,e⟩:∃x q,l=x::q:=by cases l with
   |nil=>exact absurd rfl f
   |cons x q=>exact⟨x,q,rfl⟩
  have d:s.data.toList.getD pre.length 0=x:=by rw[b,e];exact tS
  have n:kd x=2:=QK.1 (a x (by show x∈l;rw[e];exact jH ..))
  have u:∀y z,r=y::z->bT [2] y=false:=fun y z t=>by have:=B y z t;simpa[IB] using this
  have p:tw (bT [2]) s.data.toList pre.length=pre.length+l.length:=by
   rw[b];exact HX a u
  have A:(s.data.toList.drop pre.length).takeWhile (bT [2])=l:=by
   rw[b,List.drop_left];exact NK a u
  unfold eP
  rw[if_neg (by rw[d,n];decide),if_pos (by rw[d];exact n),p,A,if_neg (by omega)]
  rfl
 .have eb:mG (3,l)=34::(l++[34]):=by unfold mG;rw[if_pos rfl]
  rw[eb] at b ⊢
  have d:s.data.toList.getD pre.length 0=34:=by rw[b];exact tS
  have n:kd 34=7:=by kernel_rfl
  have v:s.data.toList=(pre++[34])++(l++(34::r)):=by rw[b];simp
  have u:(pre++[34]).length=pre.length+1:=by simp
  have p:tw nC s.data.toList (pre.length+1)=pre.length+1+l.length:=by
   rw[v,<-u]
   exact HX f fun y z t=>by cases t;rfl
  have A:s.data.toList.getD (pre.length+1+l.length) 0=34:=by
   rw[b,show pre++(34::(l++[34])++r)=(pre++34::l)++34::r by simp,show pre.length+1+l.length=(pre++34::l).length by simp;omega]
   exact tS
  have e3:=QF v
  rw[u] at e3
  unfold eP
  rw[if_neg (by rw[d,n];decide),if_neg (by rw[d,n];decide),if_pos (by rw[d];exact n),p,if_pos A,e3]
  unfold eE
  simp only[jD,jC,jF]
  rw[show pre.length+1+l.length+1=pre.length+(l.length+(0+1)+1) by omega]
  rfl
 have eb:mG (4,l)=l:=tQ (by decide)
 rw[eb] at b ⊢
 have u:∀{x:UInt8},kd x=8->kd x≠1/\kd x≠2/\kd x≠7:=fun h=>by rw[h];decide
 have key:∀x q,l=x::q->kd x=8->tB s.data.toList pre.length=pre.length+l.length->eP s pre.length=(((eE (4,l)).1,(eE (4,l)).2.1,(eE (4,l)).2.2,0),((pre.length+l.length:Nat):Int),0):=fun x q e n t=>by
  have d:s.data.toList.getD pre.length 0=x:=by rw[b,e];exact tS
  obtain⟨p,v,A⟩:=u n
  unfold eP
  rw[if_neg (by rw[d];exact p),if_neg (by rw[d];exact v),if_neg (by rw[d];exact A),if_pos (by rw[d];exact n),t,QF b]
  rfl
 rcases YA f with ⟨x,a,o⟩|a
 .have a:l=[x]:=a
  refine key x [] a o ?_
  have d:s.data.toList.getD pre.length 0=x:=by rw[b,a];exact tS
  unfold tB
  rw[if_neg,a]
  .rfl
  rw[d]
  rintro⟨rfl,g⟩
  cases r with
  |nil=>
   rw[b,a,kA,List.getElem?_eq_none (by simp)] at g
   cases g
  |cons y z=>
   have p:s.data.toList.getD (pre.length+1) 0=y:=by
    rw[b,a,show pre++([61]++y::z)=(pre++[61])++y::z by simp,show pre.length+1=(pre++[(61:UInt8)]).length by simp]
    exact tS
   have:=B y z rfl
   simp only[IB,a] at this
   rw[p] at g
   simp[g] at this
 have a:l=[61,61]:=a
 refine key 61 [61] a (by kernel_rfl) ?_
 have d:s.data.toList.getD pre.length 0=61:=by rw[b,a];exact tS
 have p:s.data.toList.getD (pre.length+1) 0=61:=by
  rw[b,a,show pre++([61,61]++r)=(pre++[61])++61::r by simp,show pre.length+1=(pre++[(61:UInt8)]).length by simp]
  exact tS
 unfold tB
 rw[if_pos ⟨d,p⟩,a]
 rfl
theorem VI{s:BA}:∀(ps:List Pc) (pre bl:List UInt8) (k:Nat),s.data.toList=pre++(bl++cT ps)->(∀x∈bl,bT [5] x=true)->eT ps->ps.length<k->
  ∃ts,mE k s pre.length= .inr ts/\ts.map eC=ps.map (fun p=>eE p.1)++[(5,⟨#[]⟩,0)]
 |_,_,_,0,_,_,_,h=>absurd h (kP _)
 |[],pre,bl,k+1,n,g,_,_=>by
  have hs':s.data.toList=pre++(bl++[]):=n
  have e:tw (bT [5]) s.data.toList pre.length=s.data.toList.length:=by
   rw[hs',HX g fun x q h=>by cases h]
   simp
  refine⟨[(5,⟨#[]⟩,0,(s.data.toList.length:Int))],?_,rfl⟩
  unfold mE
  rw[e,if_pos rfl]
 |p::ps,pre,bl,k+1,n,g,G,H=>by
  obtain⟨t,D,E,F⟩:=G
  obtain⟨x,r,d,o⟩:=VT t
  have K:bT [5] x=false:=by
   cases h:bT [5] x with
   |false=>rfl
   |true=>have:=QK.1 h;rcases o with f|f|f|f<;>rw[f] at this<;>cases this
  have M:kd x≠6:=by rcases o with f|f|f|f<;>rw[f]<;>decide
  have a:s.data.toList=pre++(bl++(mG p.1++(p.2++cT ps))):=n
  have b:s.data.toList=(pre++bl)++(mG p.1++(p.2++cT ps)):=by rw[a];simp
  have v:s.data.toList=(pre++bl++mG p.1)++(p.2++cT ps):=by rw[a];simp
  have c:(pre++bl).length=pre.length+bl.length:=by simp
  have B:tw (bT [5]) s.data.toList pre.length=pre.length+bl.length:=by
   rw[a]
   refine HX g fun y q h=> ?_
   rw[d] at h
   cases h
   exact K
  have A:s.data.toList.getD (pre.length+bl.length) 0=x:=by
   rw[b,d,<-c];exact tS
  have l:s.data.toList.length≠pre.length+bl.length:=by
   rw[b,d];simp only[jC,jD];omega
  have z:=qKa t b E
  rw[c] at z
  obtain⟨ts,t1,t2⟩:=VI ps (pre++bl++mG p.1) p.2 k v D F (by simp only[jD] at H;omega)
  have u:(pre++bl++mG p.1).length=pre.length+bl.length+(mG p.1).length:=by simp;omega
  refine⟨((eE p.1).1,(eE p.1).2.1,(eE p.1).2.2,((pre.length+bl.length:Nat):Int))::ts,?_,?_⟩
  .unfold mE
   rw[B,if_neg (Ne.symm l),if_neg (by rw[A];exact M),z]
   simp only[ne_eq,not_true_eq_false,jI,jS]
   rw[<-u,t1]
  rw[kG,t2];rfl
theorem qEk{ps:List Pc}(e:(cT ps).length<=16384)(a:eT ps):∃ts,oU ⟨⟨cT ps⟩⟩=(ts,0,0)/\ts.map eC=ps.map (fun p=>eE p.1)++[(5,⟨#[]⟩,0)]:=by
 have g:ps.length<=(cT ps).length:=by
  clear e
  induction ps with
  |nil=>exact gC _
  |cons p ps f=>
   obtain⟨c,-,-,d⟩:=a
   obtain⟨x,r,b,-⟩:=VT c
   have:=f d
   unfold cT
   simp only[jC,jD,b];omega
 obtain⟨ts,t1,t2⟩:=VI (s:=⟨⟨cT ps⟩⟩) ps [] [] ((cT ps).length+1) rfl (fun x h=>by cases h) a (by omega)
 refine⟨ts,?_,t2⟩
 have t1:mE ((cT ps).length+1) ⟨⟨cT ps⟩⟩ 0= .inr ts:=t1
 unfold oU
 rw[if_neg (by show ¬(cT ps).length>16384;omega)]
 show wY [] (mE ((cT ps).length+1) _ 0)=_
 rw[t1]
 rfl
end
section
open Go Go.Dc Go.Proofs
theorem LJ:∀i:Fin 10,bT [2] (UInt8.ofNat (48+i.val))=true/\(UInt8.ofNat (48+i.val)).toNat=48+i.val:=by decide+kernel
theorem KW{n:Nat}(h:¬n<10):Lib.decDigits n=Lib.decDigits (n/10)++[UInt8.ofNat (48+n%10)]:=by rw[Lib.decDigits,dif_neg h]
theorem qHx(n:Nat):∀x∈Lib.decDigits n,bT [2] x=true:=by
 induction n using Nat.strongRecOn with
 |_ n b=>
  intro x a
  by_cases h:n<10
  .rw[Lib.decDigits_one h,kI] at a
   rw[a];exact(LJ ⟨n,h⟩).1
  rw[KW h] at a
  rcases gP.1 a with a|a
  .exact b (n/10) (by omega) x a
  rw[kI] at a
  rw[a];exact(LJ ⟨n%10,by omega⟩).1
theorem ZU(n:Nat):Lib.decDigits n≠[]:=by
 intro h
 have:=Lib.decDigits_length n
 rw[h] at this
 have:=Lib.nDigits_pos n
 simp only[jF] at*;omega
theorem YE(n:Nat)(b:n<=9007199254740992):sL (Lib.decDigits n)=(n:Int):=by
 induction n using Nat.strongRecOn with
 |_ n a=>
  by_cases h:n<10
  .rw[Lib.decDigits_one h]
   have:=(LJ ⟨n,h⟩).2
   show AI 0 (UInt8.ofNat (48+n))=_
   unfold AI
   simp only at this
   rw[this,if_neg (by omega)];omega
  rw[KW h,WK,a (n/10) (by omega) (by omega)]
  have:=(LJ ⟨n%10,by omega⟩).2
  simp only at this
  unfold AI
  rw[this,if_neg (by omega)];omega
theorem DF:∀(k n:Nat),n<10^(k+1)->(Lib.decDigits n).length<=k+1
 |0,n,h=>by rw[Lib.decDigits_one (by simpa using h)];exact jT _
 |k+1,n,h=>by
  by_cases h10:n<10
  .rw[Lib.decDigits_one h10];simp
  rw[Nat.pow_succ] at h
  have:=DF k (n/10) (by omega)
  rw[KW h10,jC,jU];omega
theorem uX(n:Nat):(oZ (n:Int)).data.toList=Lib.decDigits n:=by
 unfold oZ Lib.itoa
 rw[if_neg (by omega),jS]
theorem qX{x y:BA}(h:x.data.toList=y.data.toList):x=y:=ByteArray.ext (Array.ext' h)
theorem lA(x y:BA):(x++y).data.toList=x.data.toList++y.data.toList:=by
 rw[ByteArray.data_append,Array.toList_append]
theorem qKs:∀i:Fin 10,((⟨#[48,49,50,51,52,53,54,55,56,57]⟩:BA).extract i.val (i.val+1)).data.toList=[UInt8.ofNat (48+i.val)]:=by decide+kernel
theorem OI{s:BA}(h:lR s=true):s.size<=24:=by
 have:=(gL h).2.1
 rw[eH] at this;exact this
theorem GZ{s:BA}(h:iN s.data.toList=true):s.size<=80:=by
 have:s.data.toList.length<=80:=(gL h).1
 rw[eH] at this;exact this
theorem oQ{s:BA}(h:dH s=true):s.size<=24:=by
 unfold dH at h
 rw[jM] at h
 exact OI h.1
theorem WR{op:Int}(a:1<=op)(b:op<=7):(pI op).size<=2:=by
 rcases(by omega:op=1\/op=2\/op=3\/op=4\/op=5\/op=6\/op=7) with rfl|rfl|rfl|rfl|rfl|rfl|rfl<;>decide+kernel
theorem VL{k:Int}(h:k=7\/k=8\/k=9):(nF k).size<=4:=by
 rcases h with rfl|rfl|rfl<;>decide+kernel
theorem QT{n:Int}(a: -9007199254740992<=n)(b:n<=9007199254740992):(oZ n).size<=17:=by
 rw[<-eH]
 show(Lib.itoa n).length<=17
 unfold Lib.itoa
 split
 .have:=DF 15 n.natAbs (by omega)
  simp only[jD];omega
 have:=DF 15 n.toNat (by omega)
 omega
def uB(ws:List (List UInt8)):Nat:=(ws.map fun w=>w.length+2).sum
theorem OL:∀(ws:List (List UInt8)) (k:Nat),(iR k ws).length<=uB ws
 |[],_=>gC _
 |w::ws,k=>by
  have b:=OL ws (k+1)
  have a:(lB k).length<=2:=by unfold lB;split<;>simp
  unfold uB at*
  simp only[iR,jC,kG,hY];omega
theorem qJi{ps:List BA}{h:Hd}{ks:List Rose}{b:Nat}(A:∀s∈ps,s.size<=24)(B:iJ (ps.length:Int) (eD h (bW b ks))=true):(eF ps h (dZ ps h 0 ks)).length<=100+uB (dZ ps h 0 ks):=by
 rcases KH B with ⟨k,a,d,p,-,-⟩|⟨k,a,d,p,-,-⟩|⟨k,a,-,-⟩|⟨k,a,d,p,-,-⟩|⟨k,a,-,-,-⟩|⟨k,a,d,-,-⟩|⟨k,a,d,-,-⟩|⟨k,a,d,-,-⟩|⟨k,a,d,p,-,-⟩
 all_goals (try simp only[eD] at k)<;>(try simp only[eD] at a)
 .have:(oZ h.2.1).size<=17:=QT d p
  unfold eF
  rw[if_pos k,eH];omega
 .have c:h.1≠1:=by omega
  try simp only[eD] at d p
  have f:h.2.1.toNat<ps.length:=by omega
  have e:ps.getD h.2.1.toNat ⟨#[]⟩=ps[h.2.1.toNat]:=by rw[kA,List.getElem?_eq_getElem f];rfl
  have:=A _ (jN f)
  unfold eF
  rw[if_neg c,if_pos k,e,eH];omega
 .have c:h.1≠1:=by omega
  have f:h.1≠2:=by omega
  have l:h.1≠4:=by omega
  have o:h.1≠5:=by omega
  have g:=oQ a
  have z:=OL (dZ ps h 0 ks) 0
  have r:(⟨#[40]⟩:BA).size=1:=rfl
  unfold eF
  rw[if_neg c,if_neg f,if_neg l,if_neg o,if_pos k]
  try simp only[eD] at g
  simp only[jC,eH,ByteArray.size_append,jD,jF];omega
 .obtain⟨t,u,rfl⟩:=qBe a
  have c:h.1≠1:=by omega
  have f:h.1≠2:=by omega
  have g:=WR d p
  have r:(⟨#[32]⟩:BA).size=1:=rfl
  try simp only[eD] at g
  unfold eF
  rw[if_neg c,if_neg f,if_pos k]
  simp only[dZ,uB,kG,List.map_nil,hY,List.sum_nil,List.getD_cons_zero,List.getD_cons_succ,jC,eH,ByteArray.size_append];omega
 .obtain⟨t,u,v,rfl⟩:=len3 a
  have c:h.1≠1:=by omega
  have f:h.1≠2:=by omega
  have l:h.1≠4:=by omega
  have q:tI.length=3:=rfl
  have x:tThen.length=6:=rfl
  have y:tElse.length=6:=rfl
  unfold eF
  rw[if_neg c,if_neg f,if_neg l,if_pos k]
  simp only[dZ,uB,kG,List.map_nil,hY,List.sum_nil,List.getD_cons_zero,List.getD_cons_succ,jC];omega
 .obtain⟨t,rfl⟩:=qBl a
  have c:h.1≠1:=by omega
  have f:h.1≠2:=by omega
  have l:h.1≠4:=by omega
  have o:h.1≠5:=by omega
  have k3:h.1≠3:=by omega
  have g:=GZ d
  have r:(⟨#[114,101,97,100,40,34]⟩:BA).size=6:=rfl
  have y:(⟨#[34,44,32]⟩:BA).size=3:=rfl
  try simp only[eD] at g
  unfold eF
  rw[if_neg c,if_neg f,if_neg l,if_neg o,if_neg k3,if_pos k]
  simp only[dZ,uB,kG,List.map_nil,hY,List.sum_nil,List.getD_cons_zero,jC,eH,ByteArray.size_append,jD,jF];omega
 all_goals obtain rfl:=MD a
 all_goals have c:h.1≠1:=by omega
 all_goals have f:h.1≠2:=by omega
 all_goals have l:h.1≠4:=by omega
 all_goals have o:h.1≠5:=by omega
 all_goals have k3:h.1≠3:=by omega
 all_goals have x:h.1≠6:=by omega
 .have q:h.1≠10:=by omega
  have g:=GZ d
  have z:=VL (k:=h.1) (by omega)
  have r:(⟨#[40,34]⟩:BA).size=2:=rfl
  have y:(⟨#[34,41]⟩:BA).size=2:=rfl
  try simp only[eD] at g
  unfold eF
  rw[if_neg c,if_neg f,if_neg l,if_neg o,if_neg k3,if_neg x,if_neg q]
  simp only[eH,ByteArray.size_append];omega
 .have q:h.1≠10:=by omega
  have g:=OI d
  have z:=VL (k:=h.1) (by omega)
  have r:(⟨#[40,34]⟩:BA).size=2:=rfl
  have y:(⟨#[34,41]⟩:BA).size=2:=rfl
  try simp only[eD] at g
  unfold eF
  rw[if_neg c,if_neg f,if_neg l,if_neg o,if_neg k3,if_neg x,if_neg q]
  simp only[eH,ByteArray.size_append];omega
 try simp only[eD] at d p
 have g:=QT (n:=h.2.1) (by omega) (by omega)
 have r:(⟨#[102,108,105,112,40]⟩:BA).size=5:=rfl
 have y:(⟨#[41]⟩:BA).size=1:=rfl
 unfold eF
 rw[if_neg c,if_neg f,if_neg l,if_neg o,if_neg k3,if_neg x,if_pos k]
 simp only[eH,ByteArray.size_append];omega
mutual
theorem LM{ps:List BA}(a:∀s∈ps,s.size<=24)(t:Rose)(b:Nat)(need:Int)(c:∀x∈t.flat b,iJ (ps.length:Int) x=true):(t.wr ps need).length+2<=110*t.size:=by
 match t with
 | .mk h ks=>
  have e:=YG a ks h 0 b (fun x d=>c x (by unfold Rose.flat;exact kD _ d))
  have f:=qJi (b:=b) a (c (eD h (bW b ks)) (by unfold Rose.flat;exact kM _ (jH ..)))
  simp only[Rose.wr,Rose.size]
  split
  .simp only[jD,jC,jF];omega
  omega
theorem YG{ps:List BA}(a:∀s∈ps,s.size<=24)(l:List Rose)(h:Hd)(k b:Nat)(d:∀x∈dS b l,iJ (ps.length:Int) x=true):uB (dZ ps h k l)<=110*aY l:=by
 match l with
 |[]=>exact gC _
 |t::l=>
  have e:=LM a t b (dV h k) (fun x c=>d x (by unfold dS;exact kD _ c))
  have f:=YG a l h (k+1) (b+t.size) (fun x c=>d x (by unfold dS;exact kM _ c))
  simp only[dZ,uB,kG,hY,aY] at*
  omega
end
def pW(d:Dl):List UInt8:=match AF d.2.2.2 with
 |some t=>t.wr d.2.2.1 0
 |none=>[]
def lS(d:Dl):Nat:=match AF d.2.2.2 with
 |some t=>t.dep 0 1
 |none=>0
structure GoodD(d:Dl):Prop where
 head:vO d=true
 pars:∀s∈d.2.2.1,d.1=1/\dH s=true
 nodes:∀x∈d.2.2.2,iJ (d.2.2.1.length:Int) x=true
 tree:oneP (oI d.2.2.2 0 [])=true
theorem WZ{d:Dl}(h:oS d=true):GoodD d:=by
 unfold oS AH AD at h
 simp only[jM,kE,kN] at h
 exact⟨h.1,h.2.1,h.2.2.1,h.2.2.2⟩
theorem qJc{ps:List BA}{h:Hd}{ks:List Rose}{b:Nat}(q:∀s∈ps,s.data.toList≠[])(r:iJ (ps.length:Int) (eD h (bW b ks))=true):eF ps h (dZ ps h 0 ks)≠[]:=by
 have ne:∀{x y:List UInt8},y≠[]->x++y≠[]:=fun h e=>h (gX.1 e).2
 have nel:∀{x y:List UInt8},x≠[]->x++y≠[]:=fun h e=>h (gX.1 e).1
 rcases KH r with ⟨k,a,g,o,-,-⟩|⟨k,a,g,o,-,-⟩|⟨k,a,-,-⟩|⟨k,a,g,o,-,-⟩|⟨k,a,-,-,-⟩|⟨k,a,g,-,-⟩|⟨k,a,g,-,-⟩|⟨k,a,g,-,-⟩|⟨k,a,g,o,-,-⟩
 all_goals try simp only[eD] at k
 .unfold eF
  rw[if_pos k]
  show Lib.itoa h.2.1≠[]
  unfold Lib.itoa
  split
  .simp
  exact ZU _
 .have c:h.1≠1:=by omega
  try simp only[eD] at g o
  have d:h.2.1.toNat<ps.length:=by omega
  have e:ps.getD h.2.1.toNat ⟨#[]⟩=ps[h.2.1.toNat]:=by rw[kA,List.getElem?_eq_getElem d];rfl
  unfold eF
  rw[if_neg c,if_pos k,e]
  exact q _ (jN d)
 all_goals have c:h.1≠1:=by omega
 all_goals have d:h.1≠2:=by omega
 .have f:h.1≠4:=by omega
  have l:h.1≠5:=by omega
  unfold eF
  rw[if_neg c,if_neg d,if_neg f,if_neg l,if_pos k]
  exact ne (ne (by simp))
 .unfold eF
  rw[if_neg c,if_neg d,if_pos k]
  refine ne (nel ?_)
  rw[lA,lA]
  exact ne (by simp)
 all_goals have f:h.1≠4:=by omega
 .unfold eF
  rw[if_neg c,if_neg d,if_neg f,if_pos k]
  exact nel (by simp[tI])
 all_goals have l:h.1≠5:=by omega
 all_goals have k3:h.1≠3:=by omega
 .unfold eF
  rw[if_neg c,if_neg d,if_neg f,if_neg l,if_neg k3,if_pos k]
  exact ne (ne (by simp))
 all_goals have p:h.1≠6:=by omega
 .have n:h.1≠10:=by omega
  unfold eF
  rw[if_neg c,if_neg d,if_neg f,if_neg l,if_neg k3,if_neg p,if_neg n,lA]
  exact ne (by simp)
 .have n:h.1≠10:=by omega
  unfold eF
  rw[if_neg c,if_neg d,if_neg f,if_neg l,if_neg k3,if_neg p,if_neg n,lA]
  exact ne (by simp)
 unfold eF
 rw[if_neg c,if_neg d,if_neg f,if_neg l,if_neg k3,if_neg p,if_pos k,lA]
 exact ne (by simp)
theorem qPv{ps:List BA}(a:∀s∈ps,s.data.toList≠[])(t:Rose)(b:Nat)(need:Int)(c:∀x∈t.flat b,iJ (ps.length:Int) x=true):t.wr ps need≠[]:=by
 cases t with
 |mk h ks=>
  simp only[Rose.wr]
  split
  .simp
  exact qJc (b:=b) a (c (eD h (bW b ks)) (by unfold Rose.flat;exact kM _ (jH ..)))
theorem qJu{s:BA}(h:dH s=true):s.data.toList≠[]:=by
 unfold dH at h
 rw[jM] at h
 have:=(gL h.1).1
 intro e
 rw[e] at this
 simp at this
theorem PR{N:Nat}{d:Dl}(b:GoodD d)(A:d.2.2.2.length<=256)(r:3000000<N):yR N d.2.2.2 d.2.2.1=some (cQ (pW d),(lS d:Int))/\(pW d).length<=30000:=by
 obtain⟨t,g,c⟩:=HM b.tree
 have y:t.size=d.2.2.2.length:=by
  have:=iP t 0
  rw[<-c] at this;exact this.symm
 have B:=t.pos
 have f:∀x∈t.flat 0,iJ (d.2.2.1.length:Int) x=true:=fun x v=>b.nodes x (by rw[c];exact v)
 have z:=LM (ps:=d.2.2.1) (fun s e=>oQ (b.pars s e).2) t 0 0 f
 have h:AtT d.2.2.2 0 t:=by
  have:=AtT.whole t
  rw[<-c] at this;exact this
 have q:pW d=t.wr d.2.2.1 0:=by unfold pW;rw[g]
 have k:lS d=t.dep 0 1:=by unfold lS;rw[g]
 refine⟨?_,by rw[q];omega⟩
 unfold yR
 rw[bX (by omega) (by omega)]
 have p:=qAj (l:=d.2.2.2) (ps:=d.2.2.1) r t (by omega) N 0 [] false 0 1 0 h f (by omega) (by simp only[jF];omega) (by omega) (gU 0)
 rw[show(((0+t.size-1:Nat)):Int)=(d.2.2.2.length:Int)-1 by omega,show((0:Nat):Int)=0 from rfl,show((1:Nat):Int)=1 from rfl] at p
 rw[show MZ N ((false,([]:List (UInt8))),d.2.2.2,d.2.2.1,0) ((d.2.2.2.length:Int)-1) 0 1=_ from p]
 simp only[j0,jQ]
 have n:=qPv (ps:=d.2.2.1) (fun s e=>qJu (b.pars s e).2) t 0 0 f
 have o:IL (t.wr d.2.2.1 0)=some ():=by
  cases u:t.wr d.2.2.1 0 with
  |nil=>exact absurd u n
  |cons a l=>rfl
 rw[o,q,k]
 simp only[j0,Nat.zero_max]
def tD(l:List BA):BA:=⟨⟨iR 0 (l.map fun s=>s.data.toList)⟩⟩
def vN(d:Dl):BA:=
 if d.1=1 then((((⟨#[102,117,110,99,32]⟩:BA)++d.2.1)++(⟨#[40]⟩:BA))++tD d.2.2.1)++(⟨#[41]⟩:BA)
 else if d.1=2 then(⟨#[116,101,115,116,32]⟩:BA)++d.2.1
 else((⟨#[103,101,110,32,34]⟩:BA)++d.2.1)++(⟨#[34]⟩:BA)
def lY(d:Dl):List UInt8:=(vN d).data.toList++(((⟨#[32,61,32]⟩:BA)++cQ (pW d))++(⟨#[59,10]⟩:BA)).data.toList
def oW(s:BA):List UInt8:=(((⟨#[112,97,99,107,97,103,101,32]⟩:BA)++s)++(⟨#[59,10]⟩:BA)).data.toList
def lI(s:BA):List UInt8:=(((⟨#[105,109,112,111,114,116,32]⟩:BA)++s)++(⟨#[59,10]⟩:BA)).data.toList
def nO(f:Sr):List UInt8:=(oW f.1++f.2.1.flatMap lI)++f.2.2.flatMap lY
def vC(f:Sr):BA×Int:=
 if f.2.2.any (fun d=>decide (32<lS d))=true then(⟨#[]⟩,2) else if 16384<(nO f).length then(⟨#[]⟩,2) else(cQ (nO f),0)
theorem KF{α:Type}(g:α->List UInt8):∀(l:List α) (t:List UInt8),l.foldl (fun t x=>t++g x) t=t++l.flatMap g
 |[],t=>by simp
 |x::l,t=>by rw[List.foldl_cons,KF g l,kF,jE]
structure GoodS(f:Sr):Prop where
 pkg:dH f.1=true
 imps:∀s∈f.2.1,dH s=true
 impn:f.2.1.length<=8
 decn:f.2.2.length<=64
 decs:∀d∈f.2.2,GoodD d/\d.2.2.1.length<=8/\d.2.2.2.length<=256/\vJ d.2.2.2=false
 once:wV f=false
theorem CW{f:Sr}(h:lQ f=0):GoodS f:=by
 unfold lQ at h
 split at h
 .rename_i hs
  split at h
  .cases h
  rename_i ht
  split at h
  .cases h
  rename_i a
  have a:AE f=false:=by simpa using a
  unfold xF at hs
  unfold AE at a
  simp only[jM,kE] at hs
  simp only[kZ,decide_eq_false_iff_not,List.any_eq_false] at a
  refine⟨hs.1,hs.2.1,by omega,by omega,fun d c=> ?_,by simpa using ht⟩
  have b:=a.2.2 d c
  unfold sZ at b
  simp only[Bool.not_eq_true,kZ,decide_eq_false_iff_not] at b
  exact⟨WZ (hs.2.2 d c),by omega,by omega,b.2.2⟩
 cases h
theorem PS{l:List BA}(h:∀s∈l,s.size<=24):(tD l).size<=26*l.length:=by
 have a:=OL (l.map fun s=>s.data.toList) 0
 have d:uB (l.map fun s=>s.data.toList)<=26*l.length:=by
  clear a
  induction l with
  |nil=>exact gC _
  |cons s l c=>
   have e:=h s (jH ..)
   have f:=c fun x b=>h x (jK _ b)
   unfold uB at*
   simp only[kG,hY,jD,eH] at*
   omega
 have b:(tD l).size=(iR 0 (l.map fun s=>s.data.toList)).length:=by rw[<-eH];rfl
 omega
theorem PG{d:Dl}(h:GoodD d):d.2.1.size<=80:=by
 have:=h.head
 unfold vO at this
 split at this
 .have:=oQ this;omega
 split at this
 .exact GZ this
 cases this
theorem KN{d:Dl}(h:GoodD d)(e:d.2.2.1.length<=8):(vN d).size<=400:=by
 have b:=PG h
 have c:=PS (l:=d.2.2.1) fun s a=>oQ (h.pars s a).2
 have f:(⟨#[102,117,110,99,32]⟩:BA).size=5:=rfl
 have g:(⟨#[40]⟩:BA).size=1:=rfl
 have k:(⟨#[41]⟩:BA).size=1:=rfl
 have n:(⟨#[116,101,115,116,32]⟩:BA).size=5:=rfl
 have o:(⟨#[103,101,110,32,34]⟩:BA).size=5:=rfl
 have p:(⟨#[34]⟩:BA).size=1:=rfl
 unfold vN
 split
 .simp only[ByteArray.size_append];omega
 split
 .simp only[ByteArray.size_append];omega
 simp only[ByteArray.size_append];omega
theorem pZ(l:List UInt8):(cQ l).data.toList=l:=rfl
theorem iS(l:List UInt8):(cQ l).size=l.length:=by rw[<-eH,pZ]
theorem qKk{N:Nat}{d:Dl}(h:GoodD d)(c:d.2.2.1.length<=8)(b:d.2.2.2.length<=256)(a:3000000<N):(lY d).length<=31000:=by
 have e:=KN h c
 have f:=(PR h b a).2
 have g:(⟨#[32,61,32]⟩:BA).size=3:=rfl
 have k:(⟨#[59,10]⟩:BA).size=2:=rfl
 unfold lY
 simp only[jC,eH,ByteArray.size_append,iS];omega
theorem qNy{N:Nat}{f:Sr}(h:GoodS f)(p:3000000<N){c:List UInt8}(r:c.length<=100):aI (yI N f) N (0,c)=some (c++f.2.1.flatMap lI)/\(c++f.2.1.flatMap lI).length<=600:=by
 have q:=h.impn
 have b:∀s∈f.2.1,(lI s).length<=40:=fun s g=>by
  have:=oQ (h.imps s g)
  have k:(⟨#[105,109,112,111,114,116,32]⟩:BA).size=7:=rfl
  have n:(⟨#[59,10]⟩:BA).size=2:=rfl
  unfold lI
  simp only[eH,ByteArray.size_append];omega
 constructor
 .have a:=oR (L:=f.2.1) (fun(t:List UInt8) (i:Nat)=>((i:Int),t)) (f:=yI N f)
   (fun t s=> .inl (t++lI s)) (fun t=>t) (fun i t=>t.length<=100+40*i) (by
    intro t i hi d
    have o:=oQ (h.imps _ (jN hi))
    simp only[yI]
    rw[if_pos (by simp only[jA];omega),dM hi]
    have ew:IntKind.wrap .i64 ((i:Int)+1)=((i+1:Nat):Int):=by rw[bX (by omega) (by omega)];omega
    have k:(⟨#[105,109,112,111,114,116,32]⟩:BA).size=7:=rfl
    have n:(⟨#[59,10]⟩:BA).size=2:=rfl
    simp only[j0]
    rw[cV (by omega)]
    simp only[j0]
    rw[cV (by rw[ByteArray.size_append];omega)]
    simp only[j0]
    rw[mU (by simp only[eH,ByteArray.size_append];omega)]
    simp only[j0,ew]
    rfl) (by
    intro t i hi t' d e
    cases e
    have:=b _ (jN hi)
    simp only[jC];omega) (by
    intro t d
    simp only[yI]
    rw[if_neg (by simp)]) (M:=N) (t:=c) (by omega) (by omega)
  rw[show((0:Nat):Int)=0 from rfl] at a
  rw[a,KS (fun t s=>t++lI s) (fun _ _=>rfl),KF]
 have:∀l:List BA,(∀s∈l,(lI s).length<=40)->(l.flatMap lI).length<=40*l.length:=fun l=>by
  induction l with
  |nil=>intro _;exact gC _
  |cons s l e=>
   intro a
   have k:=a s (jH ..)
   have n:=e fun x d=>a x (jK _ d)
   simp only[kF,jC,jD];omega
 have:=this _ b
 rw[jC];omega
theorem qNq{N:Nat}{f:Sr}(h:GoodS f)(G:∀d∈f.2.2,d.1=1->tO N d.2.2.1 (⟨#[44,32]⟩:BA)=some (tD d.2.2.1))(u:3000000<N){o:List UInt8}(ht:o.length<=600):
  aI (yJ N f) N (0,o)=some (if f.2.2.any (fun d=>decide (32<lS d))=true then .inr ((⟨#[]⟩:BA),2) else .inl (o++f.2.2.flatMap lY)):=by
 have hn:=h.decn
 have x:=oR (L:=f.2.2) (fun(t:List UInt8) (i:Nat)=>((i:Int),t)) (f:=yJ N f)
  (fun t d=>if(decide (32<lS d))=true then .inr (.inr ((⟨#[]⟩:BA),2)) else .inl (t++lY d)) (fun t=>(.inl t:List UInt8⊕(BA×Int))) (fun i t=>t.length<=600+31000*i) (by
   intro t i hi r
   obtain⟨b,e,k,-⟩:=h.decs _ (jN hi)
   obtain⟨F,Z⟩:=PR b k u
   have a:=KN b e
   have y:=PG b
   have v:=PS (l:=(f.2.2[i]).2.2.1) fun s H=>oQ (b.pars s H).2
   have p:=G _ (jN hi)
   simp only[yJ]
   rw[if_pos (by simp only[jA];omega),dM hi]
   generalize f.2.2[i]=d at b e k F Z a y v p
   have ew:IntKind.wrap .i64 ((i:Int)+1)=((i+1:Nat):Int):=by rw[bX (by omega) (by omega)];omega
   simp only[j0,F]
   have q:decide ((lS d:Int)>32)=decide (32<lS d):=by congr 1;rw[eq_iff_iff];omega
   rw[q]
   cases c:decide (32<lS d) with
   |true=>rfl
   |false=>
    have z1:(⟨#[102,117,110,99,32]⟩:BA).size=5:=rfl
    have z2:(⟨#[40]⟩:BA).size=1:=rfl
    have z3:(⟨#[41]⟩:BA).size=1:=rfl
    have z4:(⟨#[116,101,115,116,32]⟩:BA).size=5:=rfl
    have z5:(⟨#[103,101,110,32,34]⟩:BA).size=5:=rfl
    have z6:(⟨#[34]⟩:BA).size=1:=rfl
    have z7:(⟨#[32,61,32]⟩:BA).size=3:=rfl
    have z8:(⟨#[59,10]⟩:BA).size=2:=rfl
    have n:(if(d.1==1)=true then((cC (⟨#[102,117,110,99,32]⟩:BA) d.2.1).bind fun U=>(cC U (⟨#[40]⟩:BA)).bind fun V=>(tO N d.2.2.1 (⟨#[44,32]⟩:BA)).bind fun y3=>(cC V y3).bind fun Y=>(cC Y (⟨#[41]⟩:BA)).bind fun A=>(cP 1 t A.data.toList).bind fun K=>some K) else(if(d.1==2)=true then((cC (⟨#[116,101,115,116,32]⟩:BA) d.2.1).bind fun B=>(cP 1 t B.data.toList).bind fun R=>some R) else((cC (⟨#[103,101,110,32,34]⟩:BA) d.2.1).bind fun D=>(cC D (⟨#[34]⟩:BA)).bind fun E=>(cP 1 t E.data.toList).bind fun S=>some S)):Option (List (UInt8)))=some (t++(vN d).data.toList):=by
     unfold vN at a ⊢
     by_cases k1:d.1=1
     .rw[if_pos k1] at a
      simp only[ByteArray.size_append] at a
      rw[if_pos (by simpa using k1),if_pos k1,cV (by omega)]
      simp only[j0]
      rw[cV (by rw[ByteArray.size_append];omega),p k1]
      simp only[j0]
      rw[cV (by simp only[ByteArray.size_append];omega)]
      simp only[j0]
      rw[cV (by simp only[ByteArray.size_append];omega)]
      simp only[j0]
      rw[mU (by simp only[eH,ByteArray.size_append];omega)]
      rfl
     rw[if_neg k1] at a
     rw[if_neg (by simpa using k1),if_neg k1]
     by_cases k2:d.1=2
     .rw[if_pos k2] at a
      simp only[ByteArray.size_append] at a
      rw[if_pos (by simpa using k2),if_pos k2,cV (by omega)]
      simp only[j0]
      rw[mU (by simp only[eH,ByteArray.size_append];omega)]
      rfl
     rw[if_neg k2] at a
     simp only[ByteArray.size_append] at a
     rw[if_neg (by simpa using k2),if_neg k2,cV (by omega)]
     simp only[j0]
     rw[cV (by rw[ByteArray.size_append];omega)]
     simp only[j0]
     rw[mU (by simp only[eH,ByteArray.size_append];omega)]
     rfl
    simp only[jB,jI]
    refine Eq.trans (congrArg (fun z=>Option.bind z _) n) ?_
    simp only[j0]
    rw[cV (by rw[iS];omega)]
    simp only[j0]
    rw[cV (by rw[ByteArray.size_append,iS];omega)]
    simp only[j0]
    rw[mU (by simp only[jC,eH,ByteArray.size_append,iS];omega)]
    simp only[j0,ew,lY,jE]) (by
   intro t i hi t' r a
   split at a
   .cases a
   .cases a
    obtain⟨b,e,k,-⟩:=h.decs _ (jN hi)
    have:=qKk (N:=N) b e k u
    rw[jC];omega) (by
   intro t r
   simp only[yJ]
   rw[if_neg (by simp)]) (M:=N) (t:=o) (by omega) (by omega)
 rw[show((0:Nat):Int)=0 from rfl] at x
 rw[x]
 congr 1
 suffices g:∀(l:List Dl) (t:List UInt8),run (fun t d=>if(decide (32<lS d))=true then .inr (.inr ((⟨#[]⟩:BA),2)) else .inl (t++lY d)) (fun t=>(.inl t:List UInt8⊕(BA×Int))) l t=if l.any (fun d=>decide (32<lS d))=true then .inr ((⟨#[]⟩:BA),2) else .inl (t++l.flatMap lY) from g _ _
 intro l
 induction l with
 |nil=>intro t;simp[run]
 |cons d l a=>
  intro t
  simp only[run,fI,kF]
  cases hd:decide (32<lS d) with
  |true=>simp
  |false=>
   simp only[jB,jI,kX]
   rw[a,jE]
theorem qGv{N:Nat}{f:Sr}(n:SmSr f)(o:lQ f=0->∀d∈f.2.2,d.1=1->tO N d.2.2.1 (⟨#[44,32]⟩:BA)=some (tD d.2.2.1))(c:3000000<N):
  tM N f=some (if lQ f=0 then vC f else(⟨#[]⟩,lQ f)):=by
 unfold tM
 rw[show qM N f=_ from KI n c]
 simp only[j0]
 by_cases hc:lQ f=0
 .have g:=CW hc
  have r:=oQ g.pkg
  have s:(⟨#[112,97,99,107,97,103,101,32]⟩:BA).size=8:=rfl
  have t:(⟨#[59,10]⟩:BA).size=2:=rfl
  have k:(oW f.1).length<=100:=by unfold oW;simp only[eH,ByteArray.size_append];omega
  rw[if_neg (by simp[hc]),if_pos hc,cV (by omega)]
  simp only[j0]
  rw[cV (by rw[ByteArray.size_append];omega)]
  simp only[j0]
  rw[mU (by simp only[jF,eH,ByteArray.size_append];omega),jQ]
  simp only[j0]
  rw[show(((⟨#[112,97,99,107,97,103,101,32]⟩:BA)++f.1)++(⟨#[59,10]⟩:BA)).data.toList=oW f.1 from rfl]
  obtain⟨p,q⟩:=qNy g c k
  rw[p]
  simp only[j0]
  rw[qNq g (o hc) c q]
  simp only[j0]
  unfold vC
  by_cases ha:f.2.2.any (fun d=>decide (32<lS d))=true
  .rw[if_pos ha,if_pos ha]
  rw[if_neg ha,if_neg ha]
  simp only
  have e:decide (((oW f.1++f.2.1.flatMap lI++f.2.2.flatMap lY).length:Int)>16384)=decide (16384<(nO f).length):=by
   congr 1;rw[eq_iff_iff];unfold nO;omega
  rw[e]
  by_cases hl:16384<(nO f).length
  .rw[if_pos (by simpa using hl),if_pos hl]
  rw[if_neg (by simpa using hl),if_neg hl]
  have h:IL (oW f.1++f.2.1.flatMap lI++f.2.2.flatMap lY)=some ():=by
   cases hh:(oW f.1++f.2.1.flatMap lI++f.2.2.flatMap lY) with
   |nil=>
    have b:=(gX.1 (gX.1 hh).1).1
    unfold oW at b
    rw[lA,lA] at b
    have:=(gX.1 b).2
    simp at this
   |cons a l=>rfl
  rw[h]
  rfl
 rw[if_pos (by simp[hc]),if_neg hc]
theorem qJg{N:Nat}{l:List BA}(h:l.length<=1):tO N l (⟨#[44,32]⟩:BA)=some (tD l):=by
 unfold tO
 rw[if_neg (by omega)]
 unfold JY
 match l,h with
 |[],_=>rfl
 |[x],_=>
  simp only[jD,jF]
  rw[if_neg (by decide),if_pos (by decide),show idx [x] 0=some x from rfl]
  simp only[j0]
  congr 1
  refine qX ?_
  show x.data.toList=iR 0 [x.data.toList]
  simp[iR,lB]
end
section
open Go Go.Dc Go.Proofs
end
section
open Go Go.Dc Go.Proofs
theorem qJr{P:Rose->Prop}(h:∀b ks,(∀t∈ks,P t)->P (.mk b ks))(t:Rose):P t:=by
 have key:∀(n:Nat) (t:Rose),t.size<=n->P t:=by
  intro n
  induction n with
  |zero=>intro t d;have:=t.pos;omega
  |succ n e=>
   intro t d
   match t with
   | .mk b ks=>
    refine h b ks fun u c=>e u ?_
    have g:u.size<=aY ks:=by
     clear d e h
     induction ks with
     |nil=>cases c
     |cons a l f=>
      rcases jR.1 c with rfl|c
      .show _<=u.size+aY l;omega
      have:=f c
      show _<=a.size+aY l;omega
    have:(Rose.mk b ks).size=aY ks+1:=rfl
    omega
 exact key t.size t (jT _)
inductive Fine(np:Nat):Rose->Prop
 |num (n:Int) (h0: -9007199254740992<=n) (h1:n<=9007199254740992):Fine np (.mk (1,n,0,bU) [])
 |par (i:Nat) (h:i<np):Fine np (.mk (2,(i:Int),0,bU) [])
 |call (s:BA) (ks:List Rose) (h:dH s=true) (hk:∀t∈ks,Fine np t):Fine np (.mk (3,0,0,s) ks)
 |bin (op:Int) (a b:Rose) (h0:1<=op) (h1:op<=7) (ha:Fine np a) (hb:Fine np b):Fine np (.mk (4,0,op,bU) [a,b])
 |ite (a b c:Rose) (ha:Fine np a) (hb:Fine np b) (hc:Fine np c):Fine np (.mk (5,0,0,bU) [a,b,c])
 |read (s:BA) (a:Rose) (h:iN s.data.toList=true) (ha:Fine np a):Fine np (.mk (6,0,0,s) [a])
 |look (k:Int) (s:BA) (hk:k=7\/k=8) (h:iN s.data.toList=true):Fine np (.mk (k,0,0,s) [])
 |env (s:BA) (h:lR s=true):Fine np (.mk (9,0,0,s) [])
 |flip (n:Nat) (h:n<64):Fine np (.mk (10,(n:Int),0,bU) [])
theorem qLb{np:Nat}(t:Rose):∀b,(∀x∈t.flat b,iJ (np:Int) x=true)->Fine np t:=by
 refine qJr (P:=fun t=>∀b,(∀x∈t.flat b,iJ (np:Int) x=true)->Fine np t) ?_ t
 intro z ks B b y
 have A:iJ (np:Int) (eD z (bW b ks))=true:=y _ (by unfold Rose.flat;exact kM _ (kI.2 rfl))
 have q:∀t∈ks,Fine np t:=by
  have g:∀x∈dS b ks,iJ (np:Int) x=true:=fun x f=>y x (by unfold Rose.flat;exact kD _ f)
  clear y A
  induction ks generalizing b with
  |nil=>intro t e;cases e
  |cons a l h=>
   intro t e
   rcases jR.1 e with rfl|e
   .exact B t (jH ..) b fun x f=>g x (by unfold dS;exact kD _ f)
   exact h (fun u p=>B u (jK _ p)) (b+a.size) (fun x f=>g x (by unfold dS;exact kM _ f)) t e
 obtain⟨k,n,o,s⟩:=z
 have r:(eD (k,n,o,s) (bW b ks)).2.2.2.2.length=ks.length:=qA ks b
 rcases KH A with ⟨e,h,p,g,f,v⟩|⟨e,h,p,g,f,v⟩|⟨e,h,p,g⟩|⟨e,h,p,g,f,v⟩|⟨e,h,p,g,f⟩|⟨e,h,p,g,f⟩|⟨e,h,p,g,f⟩|⟨e,h,p,g,f⟩|⟨e,h,p,g,f,v⟩
 .have e:k=1:=e
  have f:o=0:=f
  have v:s=bU:=v
  rw[r] at h
  obtain rfl:=gB.1 h
  subst e f v
  exact .num n p g
 .have e:k=2:=e
  have f:o=0:=f
  have v:s=bU:=v
  have p:0<=n:=p
  have g:n<(np:Int):=g
  rw[r] at h
  obtain rfl:=gB.1 h
  subst e f v
  obtain⟨i,rfl⟩:∃i:Nat,n=(i:Int):=⟨n.toNat,by omega⟩
  exact .par i (by omega)
 .have e:k=3:=e
  have p:n=0:=p
  have g:o=0:=g
  subst e p g
  exact .call s ks h q
 .have e:k=4:=e
  have f:n=0:=f
  have v:s=bU:=v
  rw[r] at h
  subst e f v
  match ks,h,q with
  |[a,c],_,q=>exact .bin o a c p g (q a (by simp)) (q c (by simp))
 .have e:k=5:=e
  have p:n=0:=p
  have g:o=0:=g
  have f:s=bU:=f
  rw[r] at h
  subst e p g f
  match ks,h,q with
  |[a,c,d],_,q=>exact .ite a c d (q a (by simp)) (q c (by simp)) (q d (by simp))
 .have e:k=6:=e
  have g:n=0:=g
  have f:o=0:=f
  rw[r] at h
  subst e g f
  match ks,h,q with
  |[a],_,q=>exact .read s a p (q a (by simp))
 .have e:k=7\/k=8:=e
  have g:n=0:=g
  have f:o=0:=f
  rw[r] at h
  obtain rfl:=gB.1 h
  subst g f
  exact .look k s e p
 .have e:k=9:=e
  have g:n=0:=g
  have f:o=0:=f
  rw[r] at h
  obtain rfl:=gB.1 h
  subst e g f
  exact .env s p
 have e:k=10:=e
 have p:0<=n:=p
 have g:n<64:=g
 have f:o=0:=f
 have v:s=bU:=v
 rw[r] at h
 obtain rfl:=gB.1 h
 subst e f v
 obtain⟨i,rfl⟩:∃i:Nat,n=(i:Int):=⟨n.toNat,by omega⟩
 exact .flip i (by omega)
abbrev Pf:=List UInt8->List Pc
def bV(l:List UInt8)(bl:List UInt8):Pc:=((4,l),bl)
def cS(l:List UInt8)(bl:List UInt8):Pc:=((1,l),bl)
def pK(l:List UInt8)(bl:List UInt8):Pc:=((3,l),bl)
def qE(n:Int)(bl:List UInt8):List Pc:=if n<0 then[bV [45] [],((2,Lib.decDigits n.natAbs),bl)] else[((2,Lib.decDigits n.toNat),bl)]
def lG:Nat->List Pf->List Pc
 |_,[]=>[]
 |k,w::ws=>(if k=0 then[] else[bV [44] [32]])++(w []++lG (k+1) ws)
def EA:List UInt8:=[105,102]
def DR:List UInt8:=[116,104,101,110]
def DQ:List UInt8:=[101,108,115,101]
def DS:List UInt8:=[114,101,97,100]
def wZ:List UInt8:=[102,108,105,112]
def ED:Pf:=fun _=>[]
def oG(ps:List BA)(h:Hd)(ws:List Pf)(bl:List UInt8):List Pc:=
 if h.1=1 then qE h.2.1 bl
 else if h.1=2 then[cS (ps.getD h.2.1.toNat ⟨#[]⟩).data.toList bl]
 else if h.1=4 then(ws.getD 0 ED) [32]++(bV (pI h.2.2.1).data.toList [32]::(ws.getD 1 ED) bl)
 else if h.1=5 then cS EA [32]::((ws.getD 0 ED) [32]++(cS DR [32]::((ws.getD 1 ED) [32]++(cS DQ [32]::(ws.getD 2 ED) bl))))
 else if h.1=3 then cS h.2.2.2.data.toList []::bV [40] []::(lG 0 ws++[bV [41] bl])
 else if h.1=6 then cS DS []::bV [40] []::pK h.2.2.2.data.toList []::bV [44] [32]::((ws.getD 0 ED) []++[bV [41] bl])
 else if h.1=10 then cS wZ []::bV [40] []::(qE h.2.1 []++[bV [41] bl])
 else[cS (nF h.1).data.toList [],bV [40] [],pK h.2.2.2.data.toList [],bV [41] bl]
mutual
def Rose.pc(ps:List BA)(need:Int)(bl:List UInt8):Rose->List Pc
 | .mk h ks=>if dO h<need then bV [40] []::(oG ps h (iG ps h 0 ks) []++[bV [41] bl]) else oG ps h (iG ps h 0 ks) bl
def iG(ps:List BA)(h:Hd)(k:Nat):List Rose->List Pf
 |[]=>[]
 |t::l=>(fun bl=>t.pc ps (dV h k) bl)::iG ps h (k+1) l
end
theorem qO:∀(a b:List Pc),cT (a++b)=cT a++cT b
 |[],_=>rfl
 |p::a,b=>by simp only[jO,cT,qO a b,jE]
theorem oB(c:Ct)(bl:List UInt8)(l:List Pc):cT ((c,bl)::l)=mG c++(bl++cT l):=rfl
theorem rF(l:List UInt8):mG (1,l)=l:=tQ (by decide)
theorem by2(l:List UInt8):mG (2,l)=l:=tQ (by decide)
theorem rY(l:List UInt8):mG (4,l)=l:=tQ (by decide)
theorem IV(l:List UInt8):mG (3,l)=34::(l++[34]):=if_pos rfl
theorem qOr(n:Int):(oZ n).data.toList=Lib.itoa n:=rfl
theorem UN(n:Int)(bl:List UInt8):cT (qE n bl)=(oZ n).data.toList++bl:=by
 rw[qOr]
 unfold qE Lib.itoa
 split
 .simp only[bV,oB,cT,rY,by2,jV,jQ,jO]
 simp only[oB,cT,by2,jV]
theorem rT{a:Array UInt8}:(⟨a⟩:BA).data.toList=a.toList:=rfl
theorem qOe(ps:List BA)(h:Hd)(ks:List Rose)(need:Int):(Rose.mk h ks).wr ps need=if dO h<need then 40::(eF ps h (dZ ps h 0 ks)++[41]) else eF ps h (dZ ps h 0 ks):=by unfold Rose.wr;rfl
theorem MC(ps:List BA)(h:Hd)(ks:List Rose)(need:Int)(bl:List UInt8):(Rose.mk h ks).pc ps need bl=if dO h<need then bV [40] []::(oG ps h (iG ps h 0 ks) []++[bV [41] bl]) else oG ps h (iG ps h 0 ks) bl:=by unfold Rose.pc;rfl
theorem uS{ps:List BA}{h:Hd}{ks:List Rose}(a:∀bl,cT (oG ps h (iG ps h 0 ks) bl)=eF ps h (dZ ps h 0 ks)++bl)(need:Int)(bl:List UInt8):cT ((Rose.mk h ks).pc ps need bl)=(Rose.mk h ks).wr ps need++bl:=by
 rw[qOe,MC]
 split
 .simp only[bV,oB,qO,a,rY,cT,jV,jQ,jO,jE]
 exact a bl
theorem UH(ps:List BA)(h:Hd):∀(ks:List Rose) (k:Nat),(∀t∈ks,∀need bl,cT (t.pc ps need bl)=t.wr ps need++bl)->cT (lG k (iG ps h k ks))=iR k (dZ ps h k ks)
 |[],_,_=>rfl
 |t::ks,k,a=>by
  have c:=UH ps h ks (k+1) fun u b=>a u (jK _ b)
  simp only[iG,dZ,lG,iR,qO,c,a t (jH ..),jV]
  congr 1
  unfold lB
  split
  .rfl
  rfl
theorem qHt{ps:List BA}{np:Nat}{t:Rose}(r:Fine np t):∀need bl,cT (t.pc ps need bl)=t.wr ps need++bl:=by
 induction r with
 |num n o p=>exact uS fun bl=>UN n bl
 |par i h=>
  exact uS fun bl=>by
   show cT [cS _ bl]=_++bl
   simp only[cS,oB,cT,rF,jV]
   rfl
 |call s ks h g u=>
  exact uS fun bl=>by
   show cT (cS s.data.toList []::bV [40] []::(lG 0 (iG ps (3,0,0,s) 0 ks)++[bV [41] bl]))=((s++(⟨#[40]⟩:BA)).data.toList++(iR 0 (dZ ps (3,0,0,s) 0 ks)++[41]))++bl
   simp only[cS,bV,oB,qO,UH ps _ ks 0 u,rF,rY,cT,lA,rT,jV,jQ,jE,jO]
 |bin op a b o p f q d e=>
  exact uS fun bl=>by
   show cT (a.pc ps (dV (4,0,op,bU) 0) [32]++(bV (pI op).data.toList [32]::b.pc ps (dV (4,0,op,bU) 1) bl))=(a.wr ps (dV (4,0,op,bU) 0)++((((⟨#[32]⟩:BA)++pI op)++(⟨#[32]⟩:BA)).data.toList++b.wr ps (dV (4,0,op,bU) 1)))++bl
   simp only[bV,qO,oB,d,e,rY,lA,rT,jE,jO,jQ]
 |ite a b c f q v d e l=>
  exact uS fun bl=>by
   show cT (cS EA [32]::(a.pc ps 0 [32]++(cS DR [32]::(b.pc ps 0 [32]++(cS DQ [32]::c.pc ps 0 bl)))))=(tI++(a.wr ps 0++(tThen++(b.wr ps 0++(tElse++c.wr ps 0)))))++bl
   simp only[cS,oB,qO,d,e,l,rF,EA,DR,DQ,tI,tThen,tElse,jE,jO,jQ]
 |read s a h f d=>
  exact uS fun bl=>by
   show cT (cS DS []::bV [40] []::pK s.data.toList []::bV [44] [32]::(a.pc ps 0 []++[bV [41] bl]))=((((⟨#[114,101,97,100,40,34]⟩:BA)++s)++(⟨#[34,44,32]⟩:BA)).data.toList++(a.wr ps 0++[41]))++bl
   simp only[cS,bV,pK,oB,qO,d,rF,IV,rY,DS,cT,lA,rT,jV,jQ,jE,jO]
 |look k s g h=>
  exact uS fun bl=>by
   rcases g with rfl|rfl
   .show cT [cS (nF 7).data.toList [],bV [40] [],pK s.data.toList [],bV [41] bl]=((((nF 7++(⟨#[40,34]⟩:BA))++s)++(⟨#[34,41]⟩:BA)).data.toList)++bl
    simp only[cS,bV,pK,oB,rF,IV,rY,cT,lA,rT,jV,jQ,jE,jO]
   show cT [cS (nF 8).data.toList [],bV [40] [],pK s.data.toList [],bV [41] bl]=((((nF 8++(⟨#[40,34]⟩:BA))++s)++(⟨#[34,41]⟩:BA)).data.toList)++bl
   simp only[cS,bV,pK,oB,rF,IV,rY,cT,lA,rT,jV,jQ,jE,jO]
 |env s h=>
  exact uS fun bl=>by
   show cT [cS (nF 9).data.toList [],bV [40] [],pK s.data.toList [],bV [41] bl]=((((nF 9++(⟨#[40,34]⟩:BA))++s)++(⟨#[34,41]⟩:BA)).data.toList)++bl
   simp only[cS,bV,pK,oB,rF,IV,rY,cT,lA,rT,jV,jQ,jE,jO]
 |flip n h=>
  exact uS fun bl=>by
   show cT (cS wZ []::bV [40] []::(qE (n:Int) []++[bV [41] bl]))=((((⟨#[102,108,105,112,40]⟩:BA)++oZ (n:Int))++(⟨#[41]⟩:BA)).data.toList)++bl
   simp only[cS,bV,oB,qO,UN,rF,rY,wZ,cT,lA,rT,jV,jQ,jE,jO]
theorem qAc{p:UInt8->Bool}:∀{l:List UInt8} (x:UInt8),x∈l.takeWhile p->p x=true
 |[],_,h=>by cases h
 |y::l,x,h=>by
  rw[List.takeWhile_cons] at h
  split at h
  .rename_i hy
   rcases jR.1 h with rfl|h
   .exact hy
   exact qAc x h
  cases h
theorem VP{s:BA}(h:lR s=true):(∃x l,s.data.toList=x::l/\kd x=1)/\(∀x∈s.data.toList,bT [1,2,3] x=true)/\s.data.toList.length<=24:=by
 unfold lR at h
 obtain⟨b,e,c,a⟩:=gL h
 refine⟨?_,?_,e⟩
 .cases d:s.data.toList with
  |nil=>rw[d] at b;cases b
  |cons x l=>rw[d] at c;exact⟨x,l,rfl,c⟩
 unfold tw at a
 rw[jZ,kO] at a
 have f:s.data.toList.takeWhile (bT [1,2,3])=s.data.toList:=(List.takeWhile_prefix _).eq_of_length a
 intro x d
 rw[<-f] at d
 exact qAc x d
theorem zF{s:BA}(h:lR s=true):oY (1,s.data.toList):=by
 obtain⟨a,b,c⟩:=VP h
 exact .inl ⟨rfl,a,b,c⟩
theorem yW{s:BA}(h:dH s=true):lR s=true:=by
 unfold dH at h
 simp only[jM] at h
 exact h.1
theorem cls:(List.range 256).all (fun i=>(!bT [1,2,3,4] (UInt8.ofNat i)||(nC (UInt8.ofNat i)&&decide (i≠61)))&&(decide (i≠47)||nC (UInt8.ofNat i)))=true:=by kernel_rfl
theorem PZ{x:UInt8}(h:bT [1,2,3,4] x=true\/x=47):nC x=true/\x≠61:=by
 have:=kE.1 cls x.toNat (hB.2 x.toNat_lt)
 have e:UInt8.ofNat x.toNat=x:=by simp
 rw[e] at this
 simp only[jM,fP,dC,jA] at this
 rcases h with h|rfl
 .rcases this.1 with g|⟨a,b⟩
  .rw[h] at g;cases g
  exact⟨a,fun e=>b (by rw[e];rfl)⟩
 exact⟨by kernel_rfl,by decide⟩
theorem qNv:∀{l:List UInt8} {x:UInt8},x∈l->x=47\/∃p∈sp l,x∈p:=by
 intro l
 induction l with
 |nil=>intro x a;cases a
 |cons y l e=>
  intro x a
  by_cases hy:y=47
  .rcases jR.1 a with rfl|a
   .exact .inl hy
   rcases e a with g|⟨p,b,d⟩
   .exact .inl g
   refine .inr ⟨p,?_,d⟩
   unfold sp
   rw[if_pos hy]
   exact jK _ b
  cases c:sp l with
  |nil=>exact absurd c (zX l)
  |cons q r=>
   rcases jR.1 a with rfl|a
   .refine .inr ⟨x::q,?_,jH ..⟩
    unfold sp
    rw[if_neg hy,c]
    exact jH ..
   rcases e a with g|⟨p,b,d⟩
   .exact .inl g
   rw[c] at b
   rcases jR.1 b with rfl|b
   .refine .inr ⟨y::p,?_,jK _ d⟩
    unfold sp
    rw[if_neg hy,c]
    exact jH ..
   refine .inr ⟨p,?_,d⟩
   unfold sp
   rw[if_neg hy,c]
   exact jK _ b
theorem PY{l:List UInt8}(h:iN l=true):(∀x∈l,nC x=true)/\l≠[61]:=by
 unfold iN at h
 obtain⟨-,-,d⟩:=gL h
 have key:∀x∈l,nC x=true/\x≠61:=fun x a=>by
  rcases qNv a with g|⟨p,b,c⟩
  .exact PZ (.inr g)
  exact PZ (.inl ((d p b).2.2 x c))
 exact⟨fun x a=>(key x a).1,fun e=>(key 61 (by rw[e];exact jH ..)).2 rfl⟩
theorem qKb{s:BA}(h:lR s=true):(∀x∈s.data.toList,nC x=true)/\s.data.toList≠[61]:=by
 obtain⟨-,b,-⟩:=VP h
 have key:∀x∈s.data.toList,nC x=true/\x≠61:=fun x a=>by
  refine PZ (.inl ?_)
  have:=b x a
  unfold bT at this ⊢
  simp only[fI,List.any_nil,Bool.or_false,fP] at this ⊢
  rcases this with g|g|g
  .exact .inl g
  .exact .inr (.inl g)
  exact .inr (.inr (.inl g))
 exact⟨fun x a=>(key x a).1,fun e=>(key 61 (by rw[e];exact jH ..)).2 rfl⟩
def pU(l:List UInt8):Bool:=match l with|[]=>true|x::_=> !bT [1,2,3] x
theorem XR{l:List UInt8}(h:pU l=true):∀x r,l=x::r->bT [1,2,3] x=false:=fun x r e=>by
 subst e
 simpa[pU] using h
theorem qIy{l:List UInt8}(h:pU l=true):∀x r,l=x::r->bT [2] x=false:=fun x r e=>by
 have:=XR h x r e
 unfold bT at this ⊢
 simp only[fI,List.any_nil,Bool.or_false,kZ] at this ⊢
 exact this.2.1
def uC(bl:List UInt8):Prop:=∀x∈bl,bT [5] x=true
theorem lJ:uC []:=fun x h=>by cases h
theorem oJ:uC [32]:=fun x h=>by rw[kI.1 h];kernel_rfl
theorem nP{l bl:List UInt8}{rest:List Pc}(d:oY (1,l))(a:uC bl)(c:pU (bl++cT rest)=true)(b:eT rest):eT (cS l bl::rest):=
 ⟨d,a,fun x r h=>by
  have:=XR c x r h
  show(if(1:Int)=1 then !bT [1,2,3] x else _)=true
  rw[if_pos rfl,this];rfl,b⟩
theorem gdN{n:Nat}{bl:List UInt8}{rest:List Pc}(c:n<=9007199254740992)(a:uC bl)(d:pU (bl++cT rest)=true)(b:eT rest):eT (((2,Lib.decDigits n),bl)::rest):=
 ⟨.inr (.inl ⟨rfl,ZU n,qHx n,by
  have:=YE n c
  show sL (Lib.decDigits n)<=_
  omega⟩),a,fun x r h=>by
  have:=qIy d x r h
  show(if(2:Int)=1 then _ else if(2:Int)=2 then !bT [2] x else _)=true
  rw[if_neg (by decide),if_pos rfl,this];rfl,b⟩
theorem mF{l bl:List UInt8}{rest:List Pc}(d:l∈II)(a:l≠[61])(b:uC bl)(c:eT rest):eT (bV l bl::rest):=
 ⟨.inr (.inr (.inr ⟨rfl,d⟩)),b,fun x r _=>by
  show(if(4:Int)=1 then _ else if(4:Int)=2 then _ else if l=[61] then _ else true)=true
  rw[if_neg (by decide),if_neg (by decide),if_neg a],c⟩
theorem IT{l bl:List UInt8}{rest:List Pc}(d:∀x∈l,nC x=true)(a:l≠[61])(b:uC bl)(c:eT rest):eT (pK l bl::rest):=
 ⟨.inr (.inr (.inl ⟨rfl,d⟩)),b,fun x r _=>by
  show(if(3:Int)=1 then _ else if(3:Int)=2 then _ else if l=[61] then _ else true)=true
  rw[if_neg (by decide),if_neg (by decide),if_neg a],c⟩
theorem qAi{n:Int}{bl:List UInt8}{rest:List Pc}(d: -9007199254740992<=n)(e:n<=9007199254740992)(a:uC bl)(c:pU (bl++cT rest)=true)(b:eT rest):eT (qE n bl++rest):=by
 unfold qE
 split
 .exact mF (by decide) (by decide) lJ (gdN (by omega) a c b)
 exact gdN (by omega) a c b
theorem qLx{op:Int}(a:1<=op)(b:op<=7):(pI op).data.toList∈II/\(pI op).data.toList≠[61]:=by
 rcases(by omega:op=1\/op=2\/op=3\/op=4\/op=5\/op=6\/op=7) with rfl|rfl|rfl|rfl|rfl|rfl|rfl<;>decide+kernel
def GdP(ps:List BA)(t:Rose):Prop:=∀need bl rest,uC bl->pU (bl++cT rest)=true->eT rest->eT (t.pc ps need bl++rest)
theorem tT{ps:List BA}{h:Hd}{ks:List Rose}(c:∀bl rest,uC bl->pU (bl++cT rest)=true->eT rest->eT (oG ps h (iG ps h 0 ks) bl++rest)):GdP ps (.mk h ks):=by
 intro need bl rest a d b
 rw[MC]
 split
 .rw[jO,jE]
  exact mF (by decide) (by decide) lJ (c [] _ lJ (by kernel_rfl) (mF (by decide) (by decide) a b))
 exact c bl rest a d b
theorem qHh{ws:List Pf}{k:Nat}{rest:List Pc}(a:pU (cT rest)=true):pU (cT (lG (k+1) ws++rest))=true:=by
 cases ws with
 |nil=>exact a
 |cons w ws=>
  show pU (cT (((if k+1=0 then[] else[bV [44] [32]])++(w []++lG (k+1+1) ws))++rest))=true
  rw[if_neg (by omega)]
  kernel_rfl
theorem YM{ps:List BA}{h:Hd}:∀(ks:List Rose) (k:Nat) (rest:List Pc),(∀t∈ks,GdP ps t)->pU (cT rest)=true->eT rest->eT (lG k (iG ps h k ks)++rest)
 |[],_,_,_,_,a=>a
 |t::ks,k,rest,c,d,a=>by
  have f:=YM (h:=h) ks (k+1) rest (fun u e=>c u (jK _ e)) d a
  show eT (((if k=0 then[] else[bV [44] [32]])++(t.pc ps (dV h k) []++lG (k+1) (iG ps h (k+1) ks)))++rest)
  rw[jE,jE]
  have b:=c t (jH ..) (dV h k) [] (lG (k+1) (iG ps h (k+1) ks)++rest) lJ (qHh d) f
  split
  .exact b
  exact mF (by decide) (by decide) oJ b
theorem okIf:oY (1,EA):= .inl ⟨rfl,⟨105,_,rfl,by kernel_rfl⟩,by decide+kernel,by decide⟩
theorem qNg:oY (1,DR):= .inl ⟨rfl,⟨116,_,rfl,by kernel_rfl⟩,by decide+kernel,by decide⟩
theorem qNl:oY (1,DQ):= .inl ⟨rfl,⟨101,_,rfl,by kernel_rfl⟩,by decide+kernel,by decide⟩
theorem qNk:oY (1,DS):= .inl ⟨rfl,⟨114,_,rfl,by kernel_rfl⟩,by decide+kernel,by decide⟩
theorem qNb:oY (1,wZ):= .inl ⟨rfl,⟨102,_,rfl,by kernel_rfl⟩,by decide+kernel,by decide⟩
theorem qNa:oY (1,(nF 7).data.toList):= .inl ⟨rfl,⟨115,_,rfl,by kernel_rfl⟩,by decide+kernel,by decide⟩
theorem qPk:oY (1,(nF 8).data.toList):= .inl ⟨rfl,⟨104,_,rfl,by kernel_rfl⟩,by decide+kernel,by decide⟩
theorem qPe:oY (1,(nF 9).data.toList):= .inl ⟨rfl,⟨101,_,rfl,by kernel_rfl⟩,by decide+kernel,by decide⟩
theorem qMk{ps:List BA}(u:∀s∈ps,lR s=true){t:Rose}(y:Fine ps.length t):GdP ps t:=by
 induction y with
 |num n o p=>exact tT fun bl rest d f e=>qAi o p d f e
 |par i h=>
  refine tT fun bl rest d f e=>nP (zF (u _ ?_)) d f e
  show ps.getD ((i:Int)).toNat ⟨#[]⟩∈ps
  rw[jS,kA,List.getElem?_eq_getElem h]
  exact jN h
 |call s ks h r z=>
  refine tT fun bl rest d f e=> ?_
  show eT (cS s.data.toList []::bV [40] []::((lG 0 (iG ps (3,0,0,s) 0 ks)++[bV [41] bl])++rest))
  rw[jE]
  exact nP (zF (yW h)) lJ (by kernel_rfl) (mF (by decide) (by decide) lJ (YM ks 0 _ z (by kernel_rfl) (mF (by decide) (by decide) d e)))
 |bin op a b o p q x g l=>
  refine tT fun bl rest d f e=> ?_
  show eT ((a.pc ps (dV (4,0,op,bU) 0) [32]++(bV (pI op).data.toList [32]::b.pc ps (dV (4,0,op,bU) 1) bl))++rest)
  rw[jE,jO]
  obtain⟨v,A⟩:=qLx o p
  exact g _ _ _ oJ (by kernel_rfl) (mF v A oJ (l _ _ _ d f e))
 |ite a b c q x A g l v=>
  refine tT fun bl rest d f e=> ?_
  show eT (cS EA [32]::((a.pc ps 0 [32]++(cS DR [32]::(b.pc ps 0 [32]++(cS DQ [32]::c.pc ps 0 bl))))++rest))
  rw[jE,jO,jE,jO]
  exact nP okIf oJ (by kernel_rfl) (g _ _ _ oJ (by kernel_rfl) (nP qNg oJ (by kernel_rfl) (l _ _ _ oJ (by kernel_rfl) (nP qNl oJ (by kernel_rfl) (v _ _ _ d f e)))))
 |read s a h q g=>
  refine tT fun bl rest d f e=> ?_
  show eT (cS DS []::bV [40] []::pK s.data.toList []::bV [44] [32]::((a.pc ps 0 []++[bV [41] bl])++rest))
  rw[jE]
  obtain⟨p1,p2⟩:=PY h
  exact nP qNk lJ (by kernel_rfl) (mF (by decide) (by decide) lJ (IT p1 p2 lJ (mF (by decide) (by decide) oJ (g _ _ _ lJ (by kernel_rfl) (mF (by decide) (by decide) d e)))))
 |look k s r h=>
  obtain⟨p1,p2⟩:=PY h
  rcases r with rfl|rfl
  .exact tT fun bl rest d f e=>nP qNa lJ (by kernel_rfl) (mF (by decide) (by decide) lJ (IT p1 p2 lJ (mF (by decide) (by decide) d e)))
  exact tT fun bl rest d f e=>nP qPk lJ (by kernel_rfl) (mF (by decide) (by decide) lJ (IT p1 p2 lJ (mF (by decide) (by decide) d e)))
 |env s h=>
  obtain⟨p1,p2⟩:=qKb h
  exact tT fun bl rest d f e=>nP qPe lJ (by kernel_rfl) (mF (by decide) (by decide) lJ (IT p1 p2 lJ (mF (by decide) (by decide) d e)))
 |flip n h=>
  refine tT fun bl rest d f e=> ?_
  show eT (cS wZ []::bV [40] []::((qE (n:Int) []++[bV [41] bl])++rest))
  rw[jE]
  exact nP qNb lJ (by kernel_rfl) (mF (by decide) (by decide) lJ (qAi (by omega) (by omega) lJ (by kernel_rfl) (mF (by decide) (by decide) d e)))
def iK(l:List Pc):List lZ:=l.map fun p=>eE p.1
theorem KV(a b:List Pc):iK (a++b)=iK a++iK b:=fB ..
def iI(ts:List bQ):Nat->List lZ->Prop
 |_,[]=>True
 |i,c::cs=>eC (aJ ts i)=c/\iI ts (i+1) cs
theorem zP{ts:List bQ}:∀{a b:List lZ} {i:Nat},iI ts i (a++b)↔iI ts i a/\iI ts (i+a.length) b
 |[],b,i=>by simp[iI]
 |c::a,b,i=>by
  have d:=zP (ts:=ts) (a:=a) (b:=b) (i:=i+1)
  simp only[jO,iI,d,jD,and_assoc]
  rw[show i+1+a.length=i+(a.length+1) by omega]
theorem qV{ts:List bQ}{a b:List Pc}{i:Nat}(h:iI ts i (iK (a++b))):iI ts i (iK a)/\iI ts (i+a.length) (iK b):=by
 rw[KV,zP] at h
 have:(iK a).length=a.length:=gJ ..
 rw[this] at h
 exact h
section
variable {ts:List bQ} {ps:List BA} {i:Nat}
theorem pR{c:lZ}(h:eC (aJ ts i)=c)(k:Int)(s:BA):bP ts k s i=(c.1==k&&decide (c.2.1=s)):=by
 subst h;rfl
theorem sP{c:lZ}(h:eC (aJ ts i)=c):(aJ ts i).1=c.1:=congrArg (fun x=>x.1) h
theorem oN{c:lZ}(h:eC (aJ ts i)=c):(aJ ts i).2.1=c.2.1:=congrArg (fun x=>x.2.1) h
theorem tk3{c:lZ}(h:eC (aJ ts i)=c):(aJ ts i).2.2.1=c.2.2:=congrArg (fun x=>x.2.2) h
def opK(c:lZ)(level:Nat):Int:=
 match opsC.find? (fun o=>(c.1==4&&decide (c.2.1=o.2))&&decide (tE o.1=level)) with
 |some o=>o.1
 |none=>0
theorem ZS{c:lZ}(h:eC (aJ ts i)=c)(level:Nat):mA ts level i=opK c level:=by
 subst h;rfl
theorem KJ{l:List UInt8}(h:eC (aJ ts i)=eE (4,l)):eC (aJ ts i)=(4,⟨⟨l⟩⟩,0):=h
theorem mC{l:List UInt8}(h:eC (aJ ts i)=eE (1,l)):eC (aJ ts i)=(1,⟨⟨l⟩⟩,0):=h
theorem zA{l:List UInt8}(h:eC (aJ ts i)=eE (3,l)):eC (aJ ts i)=(3,⟨⟨l⟩⟩,0):=h
theorem KZ{n:Nat}(a:n<=9007199254740992)(h:eC (aJ ts i)=eE (2,Lib.decDigits n)):eC (aJ ts i)=(2,⟨#[]⟩,(n:Int)):=by
 rw[h]
 unfold eE
 rw[if_pos rfl,if_pos rfl,YE n a]
theorem nJ{l:List UInt8}(h:eC (aJ ts i)=eE (4,l)){s:BA}(a:(⟨⟨l⟩⟩:BA)=s):dP ts s i= .inr (i+1):=by
 unfold dP
 rw[pR (KJ h),kC a]
 rfl
theorem PX{l:List UInt8}(h:eC (aJ ts i)=eE (1,l)){s:BA}(a:(⟨⟨l⟩⟩:BA)=s):uA ts s i= .inr (i+1):=by
 unfold uA
 rw[pR (mC h),kC a]
 rfl
theorem GW{l:List UInt8}(h:eC (aJ ts i)=eE (4,l)){s:BA}(a:(⟨⟨l⟩⟩:BA)≠s):bP ts 4 s i=false:=by
 rw[pR (KJ h),jX a];rfl
theorem yX{l:List UInt8}(h:eC (aJ ts i)=eE (4,l)){s:BA}(a:(⟨⟨l⟩⟩:BA)=s):bP ts 4 s i=true:=by
 rw[pR (KJ h),kC a];rfl
def NextOk(n:Nat)(ts:List bQ)(i:Nat):Prop:=i<ts.length/\bP ts 4 lH i=false/\∀L,n<=L->1<=L->L<=3->mA ts L i=0
theorem NextOk.up{n m:Nat}(h:NextOk n ts i)(a:n<=m):NextOk m ts i:=⟨h.1,h.2.1,fun L b=>h.2.2 L (by omega)⟩
def AL:List lZ:=[(4,⟨#[41]⟩,0),(4,⟨#[44]⟩,0),(4,⟨#[59]⟩,0),(1,⟨#[116,104,101,110]⟩,0),(1,⟨#[101,108,115,101]⟩,0)]
theorem zG{c:lZ}(a:c∈AL)(h:eC (aJ ts i)=c)(hi:i<ts.length)(n:Nat):NextOk n ts i:=by
 simp only[AL,jR,gK,dG] at a
 refine⟨hi,?_,fun L _ b d=> ?_⟩
 .rw[pR h]
  rcases a with rfl|rfl|rfl|rfl|rfl<;>decide+kernel
 rw[ZS h]
 rcases(by omega:L=1\/L=2\/L=3) with rfl|rfl|rfl<;>rcases a with rfl|rfl|rfl|rfl|rfl<;>decide+kernel
theorem YO{op:Int}(a:1<=op)(b:op<=7)(h:eC (aJ ts i)=eE (4,(pI op).data.toList)):bP ts 4 lH i=false/\∀L,1<=L->L<=3->mA ts L i=if tE op=L then op else 0:=by
 rw[pR h]
 refine⟨?_,fun L c d=> ?_⟩
 .rcases(by omega:op=1\/op=2\/op=3\/op=4\/op=5\/op=6\/op=7) with rfl|rfl|rfl|rfl|rfl|rfl|rfl<;>decide+kernel
 rw[ZS h]
 rcases(by omega:L=1\/L=2\/L=3) with rfl|rfl|rfl<;>rcases(by omega:op=1\/op=2\/op=3\/op=4\/op=5\/op=6\/op=7) with rfl|rfl|rfl|rfl|rfl|rfl|rfl<;>decide+kernel
def Res{α:Type}(x:bZ⊕α)(g:Prop)(v:α):Prop:=(g->x= .inr v)/\(¬g->∃z,x= .inl (z,2))
theorem Res.bind{α β:Type}{x:bZ⊕α}{g g' G:Prop}{v:α}{f:α->bZ⊕β}{v':β}(h:Res x g v)(c:g->Res (f v) g' v')(d:G↔g/\g'):Res (bC x f) G v':=by
 constructor
 .intro e
  obtain⟨a,b⟩:=d.1 e
  rw[h.1 a]
  exact(c a).1 b
 intro e
 by_cases a:g
 .rw[h.1 a]
  exact(c a).2 fun b=>e (d.2 ⟨a,b⟩)
 obtain⟨z,k⟩:=h.2 a
 exact⟨z,by rw[k];rfl⟩
theorem Res.pure{α:Type}{x:bZ⊕α}{g:Prop}{v:α}(a:g)(h:x= .inr v):Res x g v:=⟨fun _=>h,fun n=>absurd a n⟩
theorem sC{t:bQ}{x:Ex}{j:Nat}{l:List Ex}(h:l.length+1<=256):iQ t x (j,l)= .inr ((j,l++[x]),l.length):=by
 unfold iQ
 rw[if_neg (by show ¬l.length=256;omega)]
def PL(ts:List bQ)(ps:List BA)(E:Ps->PM Nat):Nat->Ps->PM Nat
 |1=>PI ts ps E
 |2=>vQ ts ps E
 |3=>LV ts ps E
 |_=>nL ts ps E
theorem RH(E:Ps->PM Nat){n:Nat}(a:1<=n)(b:n<=3)(p:Ps):PL ts ps E n p=pS ts n (PL ts ps E (n+1)) p:=by
 rcases(by omega:n=1\/n=2\/n=3) with rfl|rfl|rfl<;>rfl
def Fac(ts:List bQ)(ps:List BA)(E:Ps->PM Nat)(n:Nat)(pf:Pf)(g:Prop)(t:Rose):Prop:=
 ∀i l bl,iI ts i (iK (pf bl))->NextOk n ts (i+(pf bl).length)->l.length+t.size<=256->Res (PL ts ps E n (i,l)) g ((i+(pf bl).length,l++t.flat l.length),l.length+t.size-1)
def Spi(ts:List bQ)(ps:List BA)(E:Ps->PM Nat)(L:Nat)(pf:Pf)(g:Prop)(t:Rose):Prop:=
 ∀i l bl,iI ts i (iK (pf bl))->NextOk (L+1) ts (i+(pf bl).length)->l.length+t.size<=256->
  (g->∃n',ts.length+1<=n'+(pf bl).length/\pS ts L (PL ts ps E (L+1)) (i,l)=mI ts L (PL ts ps E (L+1)) n' (l.length+t.size-1) (i+(pf bl).length,l++t.flat l.length))/\
  (¬g->∃z,pS ts L (PL ts ps E (L+1)) (i,l)= .inl (z,2))
variable {E:Ps->PM Nat} {pf:Pf} {g:Prop} {t:Rose}
theorem YF{L n x:Nat}{S:Ps->PM Nat}{p:Ps}(h:mA ts L p.1=0):mI ts L S (n+1) x p= .inr (p,x):=by
 unfold mI
 rw[if_pos h]
theorem Fac.lift{n:Nat}(a:1<=n)(b:n<=3)(h:Fac ts ps E (n+1) pf g t):Fac ts ps E n pf g t:=by
 intro i l bl e c d
 rw[RH E a b]
 unfold pS
 exact(h i l bl e (c.up (by omega)) d).bind (g':=True) (fun _=> .pure trivial (YF (c.2.2 n (jT n) a b))) (by simp)
theorem Fac.lifts{n m:Nat}(a:1<=m)(e:m<=n)(c:n<=4)(h:Fac ts ps E n pf g t):Fac ts ps E m pf g t:=by
 obtain⟨d,rfl⟩:∃d,n=m+d:=⟨n-m,by omega⟩
 induction d generalizing m with
 |zero=>exact h
 |succ d b=>
  have:=b (m:=m+1) (by omega) (by omega) (by omega) (by rw[show m+1+d=m+(d+1) by omega];exact h)
  exact Fac.lift a (by omega) this
theorem Fac.spi{L:Nat}(h:Fac ts ps E (L+1) pf g t):Spi ts ps E L pf g t:=by
 intro i l bl d c b
 obtain⟨f,k⟩:=h i l bl d c b
 constructor
 .intro a
  refine⟨ts.length+1,by omega,?_⟩
  unfold pS
  rw[f a]
  rfl
 intro a
 obtain⟨z,e⟩:=k a
 exact⟨z,by unfold pS;rw[e];rfl⟩
theorem Spi.fac{L:Nat}(b:1<=L)(c:L<=3)(h:Spi ts ps E L pf g t):Fac ts ps E L pf g t:=by
 intro i l bl k a f
 obtain⟨n,o⟩:=h i l bl k (a.up (by omega)) f
 rw[RH E b c]
 constructor
 .intro e
  obtain⟨n',p,d⟩:=n e
  have:=a.1
  obtain⟨m,rfl⟩:∃m,n'=m+1:=⟨n'-1,by omega⟩
  rw[d,YF (a.2.2 L (jT L) b c)]
 exact o
end
theorem OR:((4,⟨#[41]⟩,0):lZ)∈AL:= .head _
theorem qIk:((4,⟨#[44]⟩,0):lZ)∈AL:= .tail _ (.head _)
theorem qJz:((4,⟨#[59]⟩,0):lZ)∈AL:= .tail _ (.tail _ (.head _))
theorem qKh:((1,⟨#[116,104,101,110]⟩,0):lZ)∈AL:= .tail _ (.tail _ (.tail _ (.head _)))
theorem qKl:((1,⟨#[101,108,115,101]⟩,0):lZ)∈AL:= .tail _ (.tail _ (.tail _ (.tail _ (.head _))))
theorem QO(h:Hd):∃n:Nat,dO h=(n:Int)/\n<=4:=by
 unfold dO
 split
 .exact⟨0,rfl,by decide⟩
 split
 .split
  .exact⟨1,rfl,by decide⟩
  split
  .exact⟨2,rfl,by decide⟩
  exact⟨3,rfl,by decide⟩
 exact⟨4,rfl,by decide⟩
theorem qAl(h:Hd)(ks:List Rose)(need:Int)(d:Nat):(Rose.mk h ks).dep need d=max (if dO h<need then d+1 else d) (nN h 0 (if h.1=4 then(if dO h<need then d+1 else d) else(if dO h<need then d+1 else d)+1) ks):=by unfold Rose.dep;rfl
theorem vE{h:Hd}{ks:List Rose}{need:Int}{d:Nat}(a:¬dO h<need):(Rose.mk h ks).dep need d=max d (nN h 0 (if h.1=4 then d else d+1) ks):=by
 rw[qAl];simp only[if_neg a]
theorem QJ{h:Hd}{ks:List Rose}{need:Int}{d:Nat}(a:dO h<need):(Rose.mk h ks).dep need d=(Rose.mk h ks).dep 0 (d+1):=by
 obtain⟨n,e,-⟩:=QO h
 rw[qAl,vE (need:=0) (by omega)];simp only[if_pos a]
section
variable (ts:List bQ) (ps:List BA)
def IN(k d:Nat)(t:Rose):Prop:=∀i l bl,iI ts i (iK (t.pc ps 0 bl))->NextOk 1 ts (i+(t.pc ps 0 bl).length)->l.length+t.size<=256->Res (cZ ts ps k (i,l)) (t.dep 0 d<=32) ((i+(t.pc ps 0 bl).length,l++t.flat l.length),l.length+t.size-1)
structure Pk(t:Rose):Prop where
 p0:∀k d,k+d=33->IN ts ps k d t
 en:∀k d,k+d=32->∀n:Nat,2<=n->n<=4->Fac ts ps (cZ ts ps k) n (fun bl=>t.pc ps (n:Int) bl) (t.dep (n:Int) d<=32) t
 es:∀k d,k+d=32->∀L:Nat,2<=L->L<=3->Spi ts ps (cZ ts ps k) L (fun bl=>t.pc ps (L:Int) bl) (t.dep (L:Int) d<=32) t
end
section
variable {ts:List bQ} {ps:List BA}
theorem tY{h:Hd}{ks:List Rose}{need:Int}(a:¬dO h<need)(bl:List UInt8):(Rose.mk h ks).pc ps need bl=oG ps h (iG ps h 0 ks) bl:=by rw[MC,if_neg a]
theorem HW{h:Hd}{ks:List Rose}{need:Int}(a:dO h<need)(bl:List UInt8):(Rose.mk h ks).pc ps need bl=bV [40] []::((Rose.mk h ks).pc ps 0 []++[bV [41] bl]):=by
 obtain⟨n,e,-⟩:=QO h
 rw[MC,if_pos a,tY (by omega)]
theorem QD{t:Rose}{k d:Nat}(r:k+d=32)(f:IN ts ps k (d+1) t):Fac ts ps (cZ ts ps k) 4 (fun bl=>bV [40] []::(t.pc ps 0 []++[bV [41] bl])) (t.dep 0 (d+1)<=32) t:=by
 intro i l bl o e n
 simp only[jD,jC,jF] at e ⊢
 obtain⟨b,c⟩:=o
 obtain⟨c,a⟩:=qV c
 obtain⟨a,-⟩:=a
 have p:=e.1
 have g:=f (i+1) l [] c (zG OR a (by omega) 1) n
 have h:PL ts ps (cZ ts ps k) 4 (i,l)=bC (cZ ts ps k (i+1,l)) fun q=>bC (dP ts eL q.1.1) fun j=> .inr ((j,q.1.2),q.2):=by
  show nL ts ps (cZ ts ps k) (i,l)=_
  unfold nL
  dsimp only
  rw[if_neg (by rw[sP b];show ¬(4:Int)=2;decide),if_neg (by rw[GW b (by decide+kernel)];decide),if_pos (yX (s:=lH) b rfl)]
 rw[h]
 refine g.bind (g':=True) (fun _=> .pure trivial ?_) (by simp)
 refine Eq.trans (congrArg (fun z=>bC z _) (nJ (s:=eL) a rfl)) ?_
 show Sum.inr _=Sum.inr _
 rw[show i+1+(t.pc ps 0 []).length+1=i+((t.pc ps 0 []).length+(0+1)+1) by omega]
theorem qNi(t:Rose)(d:Nat):d<=t.dep 0 d:=by
 cases t with
 |mk h ks=>
  obtain⟨n,e,-⟩:=QO h
  rw[vE (by omega)]
  exact Nat.le_max_left ..
theorem qAt{t:Rose}{d:Nat}(a:0+d=33):IN ts ps 0 d t:=by
 intro i l bl _ _ _
 have:=qNi t d
 refine⟨fun g=>by omega,fun _=>⟨(aJ ts i).2.2.2,?_⟩⟩
 rfl
theorem IF{h:Hd}{ks:List Rose}{lv:Nat}(t:dO h=(lv:Int))(s:1<=lv)(o:lv<=4)
  (p:∀i bl,iI ts i (iK ((Rose.mk h ks).pc ps 0 bl))->bP ts 1 pA i=false)
  (g:∀k d,k+d=32->Fac ts ps (cZ ts ps k) lv (fun bl=>(Rose.mk h ks).pc ps 0 bl) ((Rose.mk h ks).dep 0 d<=32) (.mk h ks))
  (q:∀k d,k+d=32->lv=2\/lv=3->Spi ts ps (cZ ts ps k) lv (fun bl=>(Rose.mk h ks).pc ps 0 bl) ((Rose.mk h ks).dep 0 d<=32) (.mk h ks)):Pk ts ps (.mk h ks):=by
 have f:∀k d,k+d=33->IN ts ps k d (.mk h ks):=by
  intro k d b
  cases k with
  |zero=>exact qAt b
  |succ k=>
   intro i l bl c a r
   rw[cZ,if_neg (by rw[p i bl c];decide)]
   exact(g k d (by omega)).lifts (jT 1) s o i l bl c a r
 have un:∀{n:Nat},n<=lv->(fun bl=>(Rose.mk h ks).pc ps (n:Int) bl)=fun bl=>(Rose.mk h ks).pc ps 0 bl:=fun {n} a=>by
  funext bl
  rw[tY (by omega),tY (by omega)]
 have und:∀{n d:Nat},n<=lv->(Rose.mk h ks).dep (n:Int) d=(Rose.mk h ks).dep 0 d:=fun {n d} a=>by
  rw[vE (by omega),vE (by omega)]
 have pr:∀{n:Nat},lv<n->(fun bl=>(Rose.mk h ks).pc ps (n:Int) bl)=fun bl=>bV [40] []::((Rose.mk h ks).pc ps 0 []++[bV [41] bl]):=fun {n} a=>by
  funext bl
  rw[HW (by omega)]
 have c:∀k d,k+d=32->∀n:Nat,lv<n->Fac ts ps (cZ ts ps k) 4 (fun bl=>(Rose.mk h ks).pc ps (n:Int) bl) ((Rose.mk h ks).dep (n:Int) d<=32) (.mk h ks):=fun k d b n a=>by
  rw[pr a,QJ (by omega)]
  exact QD b (f k (d+1) (by omega))
 refine⟨f,fun k d b n u r=> ?_,fun k d b L L2 L3=> ?_⟩
 .by_cases a:n<=lv
  .rw[un a,und a]
   exact(g k d b).lifts (by omega) a o
  exact(c k d b n (by omega)).lifts (by omega) r (by omega)
 by_cases a:L<=lv
 .rw[un a,und a]
  by_cases e:L=lv
  .subst e
   exact q k d b (by omega)
  exact((g k d b).lifts (m:=L+1) (by omega) (by omega) o).spi
 exact((c k d b L (by omega)).lifts (m:=L+1) (by omega) (by omega) (by omega)).spi
theorem LE{h:Hd}(c:dO h=4)
  (o:∀i bl,iI ts i (iK (oG ps h [] bl))->bP ts 1 pA i=false)
  (n:∀k i l bl,iI ts i (iK (oG ps h [] bl))->NextOk 4 ts (i+(oG ps h [] bl).length)->l.length+1<=256->nL ts ps (cZ ts ps k) (i,l)= .inr ((i+(oG ps h [] bl).length,l++[eD h []]),l.length)):Pk ts ps (.mk h []):=by
 have e:∀bl,(Rose.mk h []).pc ps 0 bl=oG ps h [] bl:=fun bl=>tY (by omega) bl
 refine IF (lv:=4) c (by decide) (by decide) (fun i bl a=>o i bl (by rw[<-e];exact a)) (fun k d p=> ?_) fun _ _ _ h=>by omega
 intro i l bl a f b
 simp only[e] at a f ⊢
 have g:(Rose.mk h []).size=1:=rfl
 rw[g] at b ⊢
 refine .pure ?_ (n k i l bl a f b)
 rw[vE (by omega)]
 show max d 0<=32
 omega
theorem GV{s:BA}(h:dH s=true):s∉[rA,qY,rC,rB,rQ]/\qG s=false/\s≠pA:=by
 unfold dH at h
 simp only[jM,dC] at h
 have a:¬s∈wordsR:=by
  have:=h.2
  unfold qG at this
  exact of_decide_eq_false this
 refine⟨fun g=>a ?_,h.2,fun g=>a ?_⟩
 .simp only[jR,gK,dG] at g
  unfold wordsR
  simp only[jR,gK,dG]
  rcases g with g|g|g|g|g<;>simp[g]
 rw[g];unfold wordsR
 simp
section
variable {i:Nat} {l:List Ex} {E:Ps->PM Nat}
theorem sE{w:List UInt8}(h:eC (aJ ts i)=eE (1,w))(a:(⟨⟨w⟩⟩:BA)≠pA):bP ts 1 pA i=false:=by
 rw[pR (mC h),jX a];rfl
theorem QX{w:List UInt8}(h:eC (aJ ts i)=eE (4,w)):bP ts 1 pA i=false:=by
 rw[pR (KJ h)];rfl
theorem ZV{w:List UInt8}(h:eC (aJ ts i)=eE (2,w)):bP ts 1 pA i=false:=by
 rw[pR h];rfl
theorem qMb{n:Nat}(c:n<=9007199254740992)(h:eC (aJ ts i)=eE (2,Lib.decDigits n))(b:l.length+1<=256):nL ts ps E (i,l)= .inr ((i+1,l++[(1,(n:Int),0,⟨#[]⟩,[])]),l.length):=by
 unfold nL
 dsimp only
 have a:=KZ c h
 rw[if_pos (sP a),sC b,tk3 a]
theorem qMr{n:Nat}(d:n<=9007199254740992)(h:eC (aJ ts i)=eE (4,[45]))(b:eC (aJ ts (i+1))=eE (2,Lib.decDigits n))(c:l.length+1<=256):nL ts ps E (i,l)= .inr ((i+1+1,l++[(1,-(n:Int),0,⟨#[]⟩,[])]),l.length):=by
 unfold nL
 dsimp only
 have a:=KZ d b
 rw[if_neg (by rw[sP h];show ¬(4:Int)=2;decide),if_pos (yX (s:=RG) h rfl)]
 unfold mS
 rw[if_pos (sP a)]
 show iQ (aJ ts i) (1,IntKind.wrap .i64 (0-(aJ ts (i+1)).2.2.1),0,⟨#[]⟩,[]) (i+1+1,l)=_
 have e3:(aJ ts (i+1)).2.2.1=(n:Int):=tk3 a
 rw[sC c,e3,bX (by omega) (by omega),Int.zero_sub]
theorem HG{w:List UInt8}(h:eC (aJ ts i)=eE (1,w)):nL ts ps E (i,l)=
  if(⟨⟨w⟩⟩:BA)∈[rA,qY,rC,rB,rQ] then rK ts E (aJ ts i) (i+1,l)
  else if qG ⟨⟨w⟩⟩ then dX (aJ ts i) 9
  else if bP ts 4 lH (i+1) then bC (yZ ts E (i+1,l)) fun q=>iQ (aJ ts i) (3,0,0,⟨⟨w⟩⟩,q.2) q.1
  else match ps.findIdx? (fun x=>decide (x=⟨⟨w⟩⟩)) with
   |some j=>iQ (aJ ts i) (2,(j:Int),0,⟨#[]⟩,[]) (i+1,l)
   |none=>dX (aJ ts i) 9:=by
 unfold nL
 dsimp only
 have a:=mC h
 rw[if_neg (by rw[sP a];show ¬(1:Int)=2;decide),if_neg (by rw[pR a];exact kJ),if_neg (by rw[pR a];exact kJ),if_neg (by rw[sP a];exact fun h=>h rfl),oN a]
 first
 |done
 |rfl
end
end
section
variable {ts:List bQ} {ps:List BA} {i:Nat} {l:List Ex} {E:Ps->PM Nat}
theorem KY{c:lZ}{k:Int}(h:eC (aJ ts i)=c)(a:c.1=k):mS ts k i= .inr (i+1,aJ ts i):=by
 unfold mS
 rw[if_pos ((sP h).trans a)]
theorem KT{w:List UInt8}(h:eC (aJ ts i)=eE (3,w))(a:iN w=true):pH ts i= .inr (i+1,aJ ts i):=by
 unfold pH
 rw[KY (zA h) rfl]
 simp only[bC]
 have e:(aJ ts i).2.1=⟨⟨w⟩⟩:=oN (zA h)
 rw[e,if_pos a]
theorem qIg{s:BA}(h:eC (aJ ts i)=eE (3,s.data.toList))(a:lR s=true):vH ts i= .inr (i+1,aJ ts i):=by
 unfold vH
 rw[KY (zA h) rfl]
 simp only[bC]
 have e:(aJ ts i).2.1=s:=oN (zA h)
 rw[e,if_pos a]
theorem qIs{w:List UInt8}{k:Int}{s:BA}(n:(⟨⟨w⟩⟩:BA)=qY/\k=7/\iN s.data.toList=true\/(⟨⟨w⟩⟩:BA)=rC/\k=8/\iN s.data.toList=true\/(⟨⟨w⟩⟩:BA)=rB/\k=9/\lR s=true)
  (h:eC (aJ ts i)=eE (1,w)) (e:eC (aJ ts (i+1))=eE (4,[40])) (c:eC (aJ ts (i+1+1))=eE (3,s.data.toList)) (f:eC (aJ ts (i+1+1+1))=eE (4,[41])) (g:l.length+1<=256):
  nL ts ps E (i,l)= .inr ((i+1+1+1+1,l++[(k,0,0,s,[])]),l.length):=by
 have d:(aJ ts i).2.1=⟨⟨w⟩⟩:=oN (mC h)
 have e3:(aJ ts (i+1+1)).2.1=s:=oN (zA c)
 rw[HG h]
 rcases n with ⟨a,rfl,b⟩|⟨a,rfl,b⟩|⟨a,rfl,b⟩
 .rw[if_pos (by rw[a];decide+kernel)]
  unfold rK
  dsimp only
  rw[nJ (s:=lH) e rfl]
  simp only[bC]
  rw[d,a,if_neg (by decide+kernel),if_pos rfl,KT c b]
  simp only[bC]
  rw[nJ (s:=eL) f rfl]
  simp only[bC]
  rw[sC g,e3]
 .rw[if_pos (by rw[a];decide+kernel)]
  unfold rK
  dsimp only
  rw[nJ (s:=lH) e rfl]
  simp only[bC]
  rw[d,a,if_neg (by decide+kernel),if_neg (by decide+kernel),if_pos rfl,KT c b]
  simp only[bC]
  rw[nJ (s:=eL) f rfl]
  simp only[bC]
  rw[sC g,e3]
 rw[if_pos (by rw[a];decide+kernel)]
 unfold rK
 dsimp only
 rw[nJ (s:=lH) e rfl]
 simp only[bC]
 rw[d,a,if_neg (by decide+kernel),if_neg (by decide+kernel),if_neg (by decide+kernel),if_pos rfl,qIg c b]
 simp only[bC]
 rw[nJ (s:=eL) f rfl]
 simp only[bC]
 rw[sC g,e3]
theorem qJk{n:Nat}(g:n<64)(a:eC (aJ ts i)=eE (1,wZ))(d:eC (aJ ts (i+1))=eE (4,[40]))(b:eC (aJ ts (i+1+1))=eE (2,Lib.decDigits n))(e:eC (aJ ts (i+1+1+1))=eE (4,[41]))(f:l.length+1<=256):
  nL ts ps E (i,l)= .inr ((i+1+1+1+1,l++[(10,(n:Int),0,⟨#[]⟩,[])]),l.length):=by
 have c:(aJ ts i).2.1=rQ:=oN (mC a)
 have e3:(aJ ts (i+1+1)).2.2.1=(n:Int):=tk3 (KZ (by omega) b)
 rw[HG a,if_pos (by decide+kernel)]
 unfold rK
 dsimp only
 rw[nJ (s:=lH) d rfl]
 simp only[bC]
 rw[c,if_neg (by decide+kernel),if_neg (by decide+kernel),if_neg (by decide+kernel),if_neg (by decide+kernel),KY (KZ (by omega) b) rfl]
 simp only[bC]
 rw[e3,if_neg (by omega)]
 simp only
 rw[nJ (s:=eL) e rfl]
 simp only[bC]
 rw[sC f]
theorem qOd{n:Int}(f: -9007199254740992<=n)(g:n<=9007199254740992):Pk ts ps (.mk (1,n,0,bU) []):=by
 have e:∀bl,oG ps (1,n,0,bU) [] bl=qE n bl:=fun bl=>rfl
 refine LE rfl (fun i bl a=> ?_) fun k i l bl a h b=> ?_
 .rw[e] at a
  unfold qE at a
  split at a
  .exact QX a.1
  exact ZV a.1
 rw[e] at a ⊢
 unfold qE at a ⊢
 split at a
 .rename_i hneg
  rw[if_pos hneg]
  obtain⟨c,d,-⟩:=a
  rw[qMr (n:=n.natAbs) (by omega) c d b,show-(n.natAbs:Int)=n by omega]
  rfl
 rename_i hneg
 rw[if_neg hneg]
 rw[qMb (n:=n.toNat) (by omega) a.1 b,show(n.toNat:Int)=n by omega]
 rfl
theorem qNp{j:Nat}(d:j<ps.length)(h:∀s∈ps,dH s=true)(b:ps.findIdx? (fun x=>decide (x=ps.getD j ⟨#[]⟩))=some j):Pk ts ps (.mk (2,(j:Int),0,bU) []):=by
 have e:∀bl,oG ps (2,(j:Int),0,bU) [] bl=[cS (ps.getD j ⟨#[]⟩).data.toList bl]:=fun bl=>rfl
 have c:ps.getD j ⟨#[]⟩∈ps:=by
  rw[kA,List.getElem?_eq_getElem d]
  exact jN d
 obtain⟨n,o,p⟩:=GV (h _ c)
 generalize ps.getD j ⟨#[]⟩=s at e n o p b
 refine LE rfl (fun i bl a=> ?_) fun k i l bl a f q=> ?_
 .rw[e] at a
  exact sE a.1 p
 rw[e] at a f ⊢
 have g:bP ts 4 lH (i+1)=false:=f.2.1
 rw[HG a.1,if_neg n,if_neg (by rw[show qG (⟨⟨s.data.toList⟩⟩:BA)=false from o];exact kJ),if_neg (by rw[g];exact kJ)]
 rw[show ps.findIdx? (fun x=>decide (x=(⟨⟨s.data.toList⟩⟩:BA)))=some j from b]
 simp only
 rw[sC q]
 rfl
theorem ZA{k:Int}{s:BA}(c:(k=7\/k=8)/\iN s.data.toList=true\/k=9/\lR s=true):Pk ts ps (.mk (k,0,0,s) []):=by
 have hk':k=7\/k=8\/k=9:=by
  rcases c with ⟨h|h,-⟩|⟨h,-⟩
  .exact .inl h
  .exact .inr (.inl h)
  exact .inr (.inr h)
 have e:∀bl,oG ps (k,0,0,s) [] bl=[cS (nF k).data.toList [],bV [40] [],pK s.data.toList [],bV [41] bl]:=fun bl=>by
  rcases hk' with rfl|rfl|rfl<;>rfl
 have f:(⟨⟨(nF k).data.toList⟩⟩:BA)≠pA:=by rcases hk' with rfl|rfl|rfl<;>decide+kernel
 refine LE (by rcases hk' with rfl|rfl|rfl<;>rfl) (fun i bl a=> ?_) fun r i l bl a q d=> ?_
 .rw[e] at a
  exact sE a.1 f
 rw[e] at a ⊢
 obtain⟨g,n,o,p,-⟩:=a
 refine Eq.trans (qIs (k:=k) (s:=s) ?_ g n o p d) rfl
 rcases c with ⟨rfl|rfl,b⟩|⟨rfl,b⟩
 .exact .inl ⟨rfl,rfl,b⟩
 .exact .inr (.inl ⟨rfl,rfl,b⟩)
 exact .inr (.inr ⟨rfl,rfl,b⟩)
theorem qLi{n:Nat}(c:n<64):Pk ts ps (.mk (10,(n:Int),0,bU) []):=by
 have e:∀bl,oG ps (10,(n:Int),0,bU) [] bl=[cS wZ [],bV [40] [],((2,Lib.decDigits n),[]),bV [41] bl]:=fun bl=>by
  show cS wZ []::bV [40] []::(qE (n:Int) []++[bV [41] bl])=_
  unfold qE
  rw[if_neg (by omega),jS]
  rfl
 refine LE rfl (fun i bl a=> ?_) fun k i l bl a _ b=> ?_
 .rw[e] at a
  exact sE a.1 (by decide+kernel)
 rw[e] at a ⊢
 obtain⟨d,f,g,h,-⟩:=a
 exact Eq.trans (qJk c d f g h b) rfl
end
section
variable {ts:List bQ} {ps:List BA}
theorem qOo(h:Hd)(a b:Rose)(d:Nat):nN h 0 d [a,b]=max (a.dep (dV h 0) d) (max (b.dep (dV h 1) d) 0):=rfl
theorem qBk{op:Int}(a:1<=op)(b:op<=7):dO (4,0,op,bU)=(tE op:Int)/\1<=tE op/\tE op<=3:=by
 rcases(by omega:op=1\/op=2\/op=3\/op=4\/op=5\/op=6\/op=7) with rfl|rfl|rfl|rfl|rfl|rfl|rfl<;>decide+kernel
theorem qPn(h:Hd)(a b:Rose)(n:Nat):(Rose.mk h [a,b]).flat n=a.flat n++b.flat (n+a.size)++[eD h [((n+a.size-1:Nat):Int),((n+a.size+b.size-1:Nat):Int)]]:=by
 show(a.flat n++(b.flat (n+a.size)++[]))++_=_
 rw[jV];rfl
theorem qOt(h:Hd)(a b c:Rose)(n:Nat):(Rose.mk h [a,b,c]).flat n=a.flat n++b.flat (n+a.size)++c.flat (n+a.size+b.size)++[eD h [((n+a.size-1:Nat):Int),((n+a.size+b.size-1:Nat):Int),((n+a.size+b.size+c.size-1:Nat):Int)]]:=by
 show(a.flat n++(b.flat (n+a.size)++(c.flat (n+a.size+b.size)++[])))++_=_
 rw[jV,<-jE];rfl
theorem qOx(h:Hd)(a:Rose)(n:Nat):(Rose.mk h [a]).flat n=a.flat n++[eD h [((n+a.size-1:Nat):Int)]]:=by
 show(a.flat n++[])++_=_
 rw[jV];rfl
theorem LZ(h:Hd)(a b:Rose):(Rose.mk h [a,b]).size=a.size+b.size+1:=by show a.size+(b.size+0)+1=_;omega
theorem qPh(h:Hd)(a b c:Rose):(Rose.mk h [a,b,c]).size=a.size+b.size+c.size+1:=by show a.size+(b.size+(c.size+0))+1=_;omega
theorem qOz(h:Hd)(a:Rose):(Rose.mk h [a]).size=a.size+1:=by show a.size+0+1=_;omega
theorem qNo{op:Int}{a b:Rose}(G:1<=op)(H:op<=7)(V:Pk ts ps a)(hb:Pk ts ps b)(U:∀n:Nat,1<=n->∀i bl,iI ts i (iK (a.pc ps (n:Int) bl))->bP ts 1 pA i=false):Pk ts ps (.mk (4,0,op,bU) [a,b]):=by
 obtain⟨e,D,E⟩:=qBk G H
 generalize hL:tE op=L at e D E
 -- what the operands need
 obtain⟨nl,enl,nl2,nl3⟩:∃nl:Nat,dV (4,0,op,bU) 0=(nl:Int)/\(L=1->nl=2)/\(L≠1->nl=L):=by
  unfold dV
  rw[if_pos rfl,if_pos rfl,e]
  by_cases h:L=1
  .exact⟨2,by rw[if_pos (by omega)];rfl,fun _=>rfl,fun g=>absurd h g⟩
  exact⟨L,by rw[if_neg (by omega)],fun g=>absurd g h,fun _=>rfl⟩
 have enr:dV (4,0,op,bU) 1=((L+1:Nat):Int):=by
  unfold dV
  rw[if_pos rfl,if_neg (by decide),e];rfl
 have y:∀bl,(Rose.mk (4,0,op,bU) [a,b]).pc ps 0 bl=a.pc ps (nl:Int) [32]++(bV (pI op).data.toList [32]::b.pc ps ((L+1:Nat):Int) bl):=fun bl=>by
  rw[tY (by omega),<-enl,<-enr];rfl
 have v:∀d,d<=32->((Rose.mk (4,0,op,bU) [a,b]).dep 0 d<=32↔a.dep (nl:Int) d<=32/\b.dep ((L+1:Nat):Int) d<=32):=fun d K=>by
  rw[vE (by omega),if_pos rfl,qOo,enl,enr];omega
 -- the operator and the second operand
 have tail:∀k d,k+d=32->∀i l bl m,iI ts i (iK (bV (pI op).data.toList [32]::b.pc ps ((L+1:Nat):Int) bl))->NextOk (L+1) ts (i+(1+(b.pc ps ((L+1:Nat):Int) bl).length))->a.size<=l.length->l.length+b.size+1<=256->
   ∀x:Nat,(b.dep ((L+1:Nat):Int) d<=32->mI ts L (PL ts ps (cZ ts ps k) (L+1)) (m+1) x (i,l)=if L=1 then .inr ((i+(1+(b.pc ps ((L+1:Nat):Int) bl).length),l++b.flat l.length++[(4,0,op,⟨#[]⟩,[(x:Int),((l.length+b.size-1:Nat):Int)])]),l.length+b.size)
    else mI ts L (PL ts ps (cZ ts ps k) (L+1)) m (l.length+b.size) (i+(1+(b.pc ps ((L+1:Nat):Int) bl).length),l++b.flat l.length++[(4,0,op,⟨#[]⟩,[(x:Int),((l.length+b.size-1:Nat):Int)])]))/\
   (¬b.dep ((L+1:Nat):Int) d<=32->∃z,mI ts L (PL ts ps (cZ ts ps k) (L+1)) (m+1) x (i,l)= .inl (z,2)):=by
  intro k d o i l bl m f c R B x
  obtain⟨A,t⟩:=f
  obtain⟨-,o2⟩:=YO G H A
  have u:mA ts L i=op:=by rw[o2 L D E,if_pos hL]
  have p:=hb.en k d o (L+1) (by omega) (by omega) (i+1) l bl t (by rw[show i+1+(b.pc ps ((L+1:Nat):Int) bl).length=i+(1+(b.pc ps ((L+1:Nat):Int) bl).length) by omega];exact c) (by omega)
  have F:mI ts L (PL ts ps (cZ ts ps k) (L+1)) (m+1) x (i,l)=bC (PL ts ps (cZ ts ps k) (L+1) (i+1,l)) fun q=>bC (iQ (aJ ts i) (4,0,op,⟨#[]⟩,[(x:Int),(q.2:Int)]) q.1) fun r=>if L=1 then .inr r else mI ts L (PL ts ps (cZ ts ps k) (L+1)) m r.2 r.1:=by
   conv=>lhs;unfold mI
   dsimp only
   rw[u,if_neg (by omega)]
  rw[F]
  constructor
  .intro s
   rw[p.1 s]
   simp only[bC]
   have fl:(b.flat l.length).length=b.size:=iP ..
   rw[sC (by rw[jC,fl];omega)]
   simp only[jC,fl]
   rw[show i+1+(b.pc ps ((L+1:Nat):Int) bl).length=i+(1+(b.pc ps ((L+1:Nat):Int) bl).length) by omega]
  intro s
  obtain⟨z,M⟩:=p.2 s
  exact⟨z,by rw[M];rfl⟩
 have p:∀n,(a.flat n).length=a.size:=fun n=>iP ..
 have nxt:∀{i:Nat},eC (aJ ts i)=eE (4,(pI op).data.toList)->i<ts.length->NextOk (L+1) ts i:=fun {i} f hi=>by
  obtain⟨R,o2⟩:=YO G H f
  exact⟨hi,R,fun L' S u F=>by rw[o2 L' u F,if_neg (by omega)]⟩
 have S:∀i bl,iI ts i (iK ((Rose.mk (4,0,op,bU) [a,b]).pc ps 0 bl))->bP ts 1 pA i=false:=fun i bl f=>by
  rw[y] at f
  refine U nl ?_ i [32] (qV f).1
  by_cases h:L=1
  .rw[nl2 h];decide
  rw[nl3 h];omega
 have fin:∀(l:List Ex) (x:Nat),x=l.length+a.size-1->l++a.flat l.length++b.flat (l++a.flat l.length).length++[((4,0,op,⟨#[]⟩,[(x:Int),(((l++a.flat l.length).length+b.size-1:Nat):Int)]):Ex)]=l++(Rose.mk (4,0,op,bU) [a,b]).flat l.length:=fun l x hx=>by
  rw[qPn,jC,p,hx]
  simp only[jE]
  rfl
 by_cases h1L:L=1
 .-- a comparison
  subst h1L
  obtain rfl:=nl2 rfl
  refine IF (lv:=1) e (by decide) (by decide) S (fun k d o=> ?_) fun _ _ _ h=>by omega
  intro i l bl f c B
  simp only[y] at f c ⊢
  rw[LZ] at B
  obtain⟨A,t⟩:=qV f
  simp only[jC,jD] at c ⊢
  have F:=V.en k d o 2 (by decide) (by decide) i l [32] A (nxt t.1 (by have:=c.1;show i+(a.pc ps ((2:Nat):Int) [32]).length<ts.length;omega)) (by omega)
  have u:=tail k d o (i+(a.pc ps ((2:Nat):Int) [32]).length) (l++a.flat l.length) bl ts.length t (by rw[show i+(a.pc ps ((2:Nat):Int) [32]).length+(1+(b.pc ps ((1+1:Nat):Int) bl).length)=i+((a.pc ps ((2:Nat):Int) [32]).length+((b.pc ps ((1+1:Nat):Int) bl).length+1)) by omega];exact c.up (by decide)) (by rw[jC,p];omega) (by rw[jC,p];omega) (l.length+a.size-1)
  rw[RH _ (by decide) (by decide)]
  unfold pS
  refine F.bind (g':=b.dep ((1+1:Nat):Int) d<=32) (fun _=> ?_) (v d (by omega))
  refine⟨fun s=> ?_,u.2⟩
  have:=u.1 s
  rw[if_pos rfl] at this
  refine Eq.trans this ?_
  rw[fin l _ rfl,LZ,jC,p]
  show Sum.inr _=Sum.inr _
  have:=a.pos
  rw[show i+(a.pc ps ((2:Nat):Int) [32]).length+(1+(b.pc ps ((1+1:Nat):Int) bl).length)=i+((a.pc ps ((2:Nat):Int) [32]).length+((b.pc ps ((1+1:Nat):Int) bl).length+1)) by omega,show l.length+(a.size+b.size+1)-1=l.length+a.size+b.size by omega]
 -- a sum or a term
 obtain rfl:=nl3 h1L
 have spi:∀k d,k+d=32->Spi ts ps (cZ ts ps k) nl (fun bl=>(Rose.mk (4,0,op,bU) [a,b]).pc ps 0 bl) ((Rose.mk (4,0,op,bU) [a,b]).dep 0 d<=32) (.mk (4,0,op,bU) [a,b]):=by
  intro k d o i l bl f c B
  simp only[y] at f c ⊢
  rw[LZ] at B
  obtain⟨A,t⟩:=qV f
  simp only[jC,jD] at c ⊢
  obtain⟨R,Y⟩:=V.es k d o nl (by omega) E i l [32] A (nxt t.1 (by have:=c.1;show i+(a.pc ps (nl:Int) [32]).length<ts.length;omega)) (by omega)
  dsimp only at R Y
  have a0:=c.1
  have K:=v d (by omega)
  have u:=fun m=>tail k d o (i+(a.pc ps (nl:Int) [32]).length) (l++a.flat l.length) bl m t (by rw[show i+(a.pc ps (nl:Int) [32]).length+(1+(b.pc ps ((nl+1:Nat):Int) bl).length)=i+((a.pc ps (nl:Int) [32]).length+((b.pc ps ((nl+1:Nat):Int) bl).length+1)) by omega];exact c) (by rw[jC,p];omega) (by rw[jC,p];omega) (l.length+a.size-1)
  constructor
  .intro s
   obtain⟨ga,gb⟩:=K.1 s
   obtain⟨n',Z,F⟩:=R ga
   obtain⟨m,rfl⟩:∃m,n'=m+1:=⟨n'-1,by omega⟩
   refine⟨m,by omega,?_⟩
   rw[F,(u m).1 gb,if_neg h1L,fin l _ rfl,LZ,jC,p]
   rw[show i+(a.pc ps (nl:Int) [32]).length+(1+(b.pc ps ((nl+1:Nat):Int) bl).length)=i+((a.pc ps (nl:Int) [32]).length+((b.pc ps ((nl+1:Nat):Int) bl).length+1)) by omega,show l.length+(a.size+b.size+1)-1=l.length+a.size+b.size by omega]
  intro s
  by_cases ga:a.dep (nl:Int) d<=32
  .obtain⟨n',Z,F⟩:=R ga
   obtain⟨m,rfl⟩:∃m,n'=m+1:=⟨n'-1,by omega⟩
   obtain⟨z,M⟩:=(u m).2 fun gb=>s (K.2 ⟨ga,gb⟩)
   exact⟨z,by rw[F,M]⟩
  exact Y ga
 exact IF (lv:=nl) e D (by omega) S (fun k d o=>(spi k d o).fac D E) fun k d o _=>spi k d o
end
section
variable {ts:List bQ} {ps:List BA}
def Pn(ts:List bQ)(ps:List BA)(t:Rose):Prop:=∀n:Nat,1<=n->∀i bl,iI ts i (iK (t.pc ps (n:Int) bl))->bP ts 1 pA i=false
theorem vK{h:Hd}{ks:List Rose}(b:1<=dO h->∀i bl,iI ts i (iK (oG ps h (iG ps h 0 ks) bl))->bP ts 1 pA i=false):Pn ts ps (.mk h ks):=by
 intro n c i bl a
 by_cases hl:dO h<(n:Int)
 .rw[HW hl] at a
  exact QX a.1
 rw[tY hl] at a
 exact b (by omega) i bl a
theorem Res.step{α β:Type}{x:bZ⊕α}{v:α}{f:α->bZ⊕β}{g:Prop}{w:β}(h:x= .inr v)(r:Res (f v) g w):Res (bC x f) g w:=by
 rw[h];exact r
theorem qNh{a b c:Rose}(v:Pk ts ps a)(y:Pk ts ps b)(z:Pk ts ps c):Pk ts ps (.mk (5,0,0,bU) [a,b,c]):=by
 have E:dO (5,0,0,bU)=0:=rfl
 have r:∀bl,(Rose.mk (5,0,0,bU) [a,b,c]).pc ps 0 bl=cS EA [32]::(a.pc ps 0 [32]++(cS DR [32]::(b.pc ps 0 [32]++(cS DQ [32]::c.pc ps 0 bl)))):=fun bl=>by
  rw[tY (by omega)];rfl
 have p:∀d,d<=32->((Rose.mk (5,0,0,bU) [a,b,c]).dep 0 d<=32↔a.dep 0 (d+1)<=32/\(b.dep 0 (d+1)<=32/\(c.dep 0 (d+1)<=32/\True))):=fun d F=>by
  have e:(Rose.mk (5,0,0,bU) [a,b,c]).dep 0 d=max d (max (a.dep 0 (d+1)) (max (b.dep 0 (d+1)) (max (c.dep 0 (d+1)) 0))):=by
   rw[vE (by omega)];rfl
  rw[e];simp only[and_true];omega
 have h:∀k d,k+d=33->IN ts ps k d (.mk (5,0,0,bU) [a,b,c]):=by
  intro k d g
  cases k with
  |zero=>exact qAt g
  |succ k=>
   intro i l bl t o A
   rw[r] at t o ⊢
   simp only[jD,jC] at o ⊢
   rw[qPh] at A ⊢
   obtain⟨D,f⟩:=t
   obtain⟨sa,f⟩:=qV f
   obtain⟨st,f⟩:=f
   obtain⟨sb,f⟩:=qV f
   obtain⟨se,sc⟩:=f
   have B:=o.1
   have fa:(a.flat l.length).length=a.size:=iP ..
   have q:bP ts 1 pA i=true:=by rw[pR (mC D)];rfl
   rw[cZ,if_pos q]
   have RA:=v.p0 k (d+1) (by omega) (i+1) l [32] sa (zG qKh st (by omega) 1) (by omega)
   refine RA.bind (fun _=> ?_) (p d (by omega))
   dsimp only
   refine Res.step (PX (s:=IE) st rfl) ?_
   have RB:=y.p0 k (d+1) (by omega) (i+1+(a.pc ps 0 [32]).length+1) (l++a.flat l.length) [32] sb (zG qKl se (by omega) 1) (by rw[jC,fa];omega)
   refine Res.bind (x:=cZ ts ps k (i+1+(a.pc ps 0 [32]).length+1,l++a.flat l.length)) RB (fun _=> ?_) Iff.rfl
   dsimp only
   refine Res.step (PX (s:=IG) se rfl) ?_
   have fb:(b.flat (l++a.flat l.length).length).length=b.size:=iP ..
   have fc:∀n,(c.flat n).length=c.size:=fun n=>iP ..
   have RC:=z.p0 k (d+1) (by omega) (i+1+(a.pc ps 0 [32]).length+1+(b.pc ps 0 [32]).length+1) ((l++a.flat l.length)++b.flat (l++a.flat l.length).length) bl sc (by
    rw[show i+1+(a.pc ps 0 [32]).length+1+(b.pc ps 0 [32]).length+1+(c.pc ps 0 bl).length=i+((a.pc ps 0 [32]).length+((b.pc ps 0 [32]).length+((c.pc ps 0 bl).length+1)+1)+1) by omega]
    exact o) (by rw[jC,fb,jC,fa];omega)
   refine Res.bind (x:=cZ ts ps k (i+1+(a.pc ps 0 [32]).length+1+(b.pc ps 0 [32]).length+1,(l++a.flat l.length)++b.flat (l++a.flat l.length).length)) RC (fun _=> .pure trivial ?_) Iff.rfl
   dsimp only
   have pa:=a.pos
   have pb:=b.pos
   have pc:=c.pos
   rw[sC (by simp only[jC,fa,fb,fc];simp only[jC,fa] at fb;omega)]
   simp only[jC,fa,fc]
   rw[show(b.flat (l.length+a.size)).length=b.size from iP ..]
   rw[qOt]
   have u:i+1+(a.pc ps 0 [32]).length+1+(b.pc ps 0 [32]).length+1+(c.pc ps 0 bl).length=i+((a.pc ps 0 [32]).length+((b.pc ps 0 [32]).length+((c.pc ps 0 bl).length+1)+1)+1):=by omega
   rw[u,show l.length+(a.size+b.size+c.size+1)-1=l.length+a.size+b.size+c.size by omega]
   simp only[jE]
   rfl
 refine⟨h,fun k d g n o f=> ?_,fun k d g L L2 L3=> ?_⟩
 .have e:(fun bl=>(Rose.mk (5,0,0,bU) [a,b,c]).pc ps (n:Int) bl)=fun bl=>bV [40] []::((Rose.mk (5,0,0,bU) [a,b,c]).pc ps 0 []++[bV [41] bl]):=by
   funext bl;rw[HW (by omega)]
  rw[e,QJ (by omega)]
  exact(QD g (h k (d+1) (by omega))).lifts (by omega) f (by omega)
 have e:(fun bl=>(Rose.mk (5,0,0,bU) [a,b,c]).pc ps (L:Int) bl)=fun bl=>bV [40] []::((Rose.mk (5,0,0,bU) [a,b,c]).pc ps 0 []++[bV [41] bl]):=by
  funext bl;rw[HW (by omega)]
 rw[e,QJ (by omega)]
 exact((QD g (h k (d+1) (by omega))).lifts (m:=L+1) (by omega) (by omega) (by omega)).spi
theorem qLw{s:BA}{a:Rose}(y:iN s.data.toList=true)(t:Pk ts ps a):Pk ts ps (.mk (6,0,0,s) [a]):=by
 have n:dO (6,0,0,s)=4:=rfl
 have c:∀bl,(Rose.mk (6,0,0,s) [a]).pc ps 0 bl=cS DS []::bV [40] []::pK s.data.toList []::bV [44] [32]::(a.pc ps 0 []++[bV [41] bl]):=fun bl=>by
  rw[tY (by omega)];rfl
 refine IF (lv:=4) n (by decide) (by decide) (fun i bl b=>by rw[c] at b;exact sE b.1 (by decide+kernel)) (fun k d E=> ?_) fun _ _ _ h=>by omega
 have f:(Rose.mk (6,0,0,s) [a]).dep 0 d<=32↔a.dep 0 (d+1)<=32/\True:=by
  have e:(Rose.mk (6,0,0,s) [a]).dep 0 d=max d (max (a.dep 0 (d+1)) 0):=by
   rw[vE (by omega)];rfl
  rw[e];simp only[and_true];omega
 intro i l bl b g v
 simp only[c] at b g ⊢
 simp only[jD,jC,jF] at g ⊢
 rw[qOz] at v ⊢
 obtain⟨o,A,p,B,D⟩:=b
 obtain⟨sa,sz,-⟩:=qV D
 have x:=g.1
 have r:(aJ ts i).2.1=rA:=oN (mC o)
 have e3:(aJ ts (i+1+1)).2.1=s:=oN (zA p)
 have fa:(a.flat l.length).length=a.size:=iP ..
 have u:PL ts ps (cZ ts ps k) 4 (i,l)=bC (cZ ts ps k (i+1+1+1+1,l)) fun q=>bC (dP ts eL q.1.1) fun j=>iQ (aJ ts i) (6,0,0,s,[(q.2:Int)]) (j,q.1.2):=by
  show nL ts ps (cZ ts ps k) (i,l)=_
  rw[HG o,if_pos (by decide+kernel)]
  unfold rK
  dsimp only
  rw[nJ (s:=lH) A rfl]
  simp only[bC]
  rw[r,if_pos rfl,KT p y]
  simp only[bC]
  rw[nJ (s:=pQ) B rfl]
  simp only[bC]
  rw[e3]
  cases cZ ts ps k (i+1+1+1+1,l) with
  |inl z=>rfl
  |inr q=>rfl
 rw[u]
 have RA:=t.p0 k (d+1) (by omega) (i+1+1+1+1) l [] sa (zG OR sz (by omega) 1) (by omega)
 refine RA.bind (fun _=> .pure trivial ?_) f
 dsimp only
 refine Eq.trans (congrArg (fun z=>bC z _) (nJ (s:=eL) sz rfl)) ?_
 simp only[bC]
 have pa:=a.pos
 rw[sC (by rw[jC,fa];omega),qOx,jC,fa]
 rw[show i+1+1+1+1+(a.pc ps 0 []).length+1=i+((a.pc ps 0 []).length+(0+1)+1+1+1+1) by omega,show l.length+(a.size+1)-1=l.length+a.size by omega,<-jE]
 rfl
end
section
variable {ts:List bQ} {ps:List BA}
def Pz(ts:List bQ)(ps:List BA)(t:Rose):Prop:=∀(n:Nat) i bl,iI ts i (iK (t.pc ps (n:Int) bl))->bP ts 4 eL i=false
theorem vM{h:Hd}{ks:List Rose}(b:∀i bl,iI ts i (iK (oG ps h (iG ps h 0 ks) bl))->bP ts 4 eL i=false):Pz ts ps (.mk h ks):=by
 intro n i bl a
 by_cases hl:dO h<(n:Int)
 .rw[HW hl] at a
  exact GW a.1 (by decide+kernel)
 rw[tY hl] at a
 exact b i bl a
theorem wU{i:Nat}{w:List UInt8}(h:eC (aJ ts i)=eE (1,w)):bP ts 4 eL i=false:=by
 rw[pR (mC h)];rfl
theorem qOh{i:Nat}{w:List UInt8}(h:eC (aJ ts i)=eE (2,w)):bP ts 4 eL i=false:=by
 rw[pR h];rfl
theorem UJ{n:Int}{i:Nat}{bl:List UInt8}(a:iI ts i (iK (qE n bl))):bP ts 1 pA i=false/\bP ts 4 eL i=false:=by
 unfold qE at a
 split at a
 .exact⟨QX a.1,GW a.1 (by decide+kernel)⟩
 exact⟨ZV a.1,qOh a.1⟩
theorem VQ:∀(ws:List Pf) (j:Nat),ws.length<=(lG (j+1) ws).length
 |[],_=>gC _
 |w::ws,j=>by
  have:=VQ ws (j+1)
  show ws.length+1<=((if j+1=0 then[] else[bV [44] [32]])++(w []++lG (j+1+1) ws)).length
  rw[if_neg (by omega)]
  simp only[jC,jD,jF]
  omega
theorem XT(s:BA){k d:Nat}(g:k+(d+1)=33):∀(ks:List Rose) (t:Rose) (m j:Nat) (acc:List Int) (i:Nat) (l:List Ex) (bl:List UInt8),(∀u∈t::ks,Pk ts ps u)->
  iI ts i (iK (t.pc ps 0 []++(lG (j+1) (iG ps (3,0,0,s) (j+1) ks)++[bV [41] bl])))->i+((t.pc ps 0 []).length+((lG (j+1) (iG ps (3,0,0,s) (j+1) ks)).length+1))<ts.length->l.length+t.size+aY ks<=256->ks.length<m->
  Res (sY ts (cZ ts ps k) m acc (i,l)) (max (t.dep 0 (d+1)) (nN (3,0,0,s) (j+1) (d+1) ks)<=32) ((i+((t.pc ps 0 []).length+((lG (j+1) (iG ps (3,0,0,s) (j+1) ks)).length+1)),l++(t.flat l.length++dS (l.length+t.size) ks)),acc++bW l.length (t::ks))
 |_,_,0,_,_,_,_,_,_,_,_,_,h=>absurd h (kP _)
 |[],t,m+1,j,acc,i,l,bl,f,c,b,n,_=>by
  obtain⟨o,a⟩:=qV c
  have a:eC (aJ ts (i+(t.pc ps 0 []).length))=eE (4,[41]):=a.1
  have x:(lG (j+1) (iG ps (3,0,0,s) (j+1) [])).length=0:=rfl
  rw[x] at b ⊢
  have e:aY []=0:=rfl
  rw[e] at n
  have RA:=(f t (jH ..)).p0 k (d+1) g i l [] o (zG OR a (by omega) 1) (by omega)
  unfold sY
  refine RA.bind (g':=True) (fun _=> .pure trivial ?_) (by show max _ 0<=32↔_;simp only[and_true];omega)
  dsimp only
  rw[if_neg (by rw[GW a (by decide+kernel)];exact kJ)]
  refine Eq.trans (congrArg (fun z=>bC z _) (nJ (s:=eL) a rfl)) ?_
  simp only[bC]
  show Sum.inr _=Sum.inr _
  rw[show dS (l.length+t.size) []=[] from rfl,jV,kO,<-gS]
  rfl
 |u::us,t,m+1,j,acc,i,l,bl,f,c,b,n,y=>by
  have p:lG (j+1) (iG ps (3,0,0,s) (j+1) (u::us))=bV [44] [32]::(u.pc ps 0 []++lG (j+1+1) (iG ps (3,0,0,s) (j+1+1) us)):=by
   show(if j+1=0 then[] else[bV [44] [32]])++(u.pc ps (dV (3,0,0,s) (j+1)) []++lG (j+1+1) (iG ps (3,0,0,s) (j+1+1) us))=_
   rw[if_neg (by omega)];rfl
  rw[p] at c b ⊢
  rw[jO,jE] at c
  simp only[jD,jC] at b ⊢
  have e:aY (u::us)=u.size+aY us:=rfl
  rw[e] at n
  obtain⟨o,a⟩:=qV c
  obtain⟨a,B⟩:=a
  have a:eC (aJ ts (i+(t.pc ps 0 []).length))=eE (4,[44]):=a
  have ft:(t.flat l.length).length=t.size:=iP ..
  have RA:=(f t (jH ..)).p0 k (d+1) g i l [] o (zG qIk a (by omega) 1) (by omega)
  have RB:=XT s g us u m (j+1) (acc++[((l.length+t.size-1:Nat):Int)]) (i+(t.pc ps 0 []).length+1) (l++t.flat l.length) bl (fun v A=>f v (jK _ A)) B (by omega) (by rw[jC,ft];omega) (by simp only[jD] at y;omega)
  unfold sY
  refine RA.bind (fun _=> ?_) (g':=max (u.dep 0 (d+1)) (nN (3,0,0,s) (j+1+1) (d+1) us)<=32) (by show max _ (max (u.dep 0 (d+1)) _)<=32↔_;omega)
  dsimp only
  rw[if_pos (yX (s:=pQ) a rfl)]
  rw[jC,ft] at RB
  have q:i+(t.pc ps 0 []).length+1+((u.pc ps 0 []).length+((lG (j+1+1) (iG ps (3,0,0,s) (j+1+1) us)).length+1))=i+((t.pc ps 0 []).length+((u.pc ps 0 []).length+(lG (j+1+1) (iG ps (3,0,0,s) (j+1+1) us)).length+1+1)):=by omega
  rw[q] at RB
  have r:l++t.flat l.length++(u.flat (l.length+t.size)++dS (l.length+t.size+u.size) us)=l++(t.flat l.length++dS (l.length+t.size) (u::us)):=by
   rw[jE];rfl
  rw[r] at RB
  have e3:acc++[((l.length+t.size-1:Nat):Int)]++bW (l.length+t.size) (u::us)=acc++bW l.length (t::u::us):=by
   rw[jE];rfl
  rw[e3] at RB
  exact RB
theorem qLf{s:BA}{ks:List Rose}(h:dH s=true)(o:∀t∈ks,Pk ts ps t/\Pz ts ps t):Pk ts ps (.mk (3,0,0,s) ks):=by
 have F:dO (3,0,0,s)=4:=rfl
 obtain⟨S,U,V⟩:=GV h
 have x:∀bl,(Rose.mk (3,0,0,s) ks).pc ps 0 bl=cS s.data.toList []::bV [40] []::(lG 0 (iG ps (3,0,0,s) 0 ks)++[bV [41] bl]):=fun bl=>by
  rw[tY (by omega)];rfl
 refine IF (lv:=4) F (by decide) (by decide) (fun i bl y=>by rw[x] at y;exact sE y.1 V) (fun k d Z=> ?_) fun _ _ _ h=>by omega
 intro i l bl y p z
 have g:(Rose.mk (3,0,0,s) ks).flat l.length=dS l.length ks++[eD (3,0,0,s) (bW l.length ks)]:=by unfold Rose.flat;rfl
 have b:(Rose.mk (3,0,0,s) ks).size=aY ks+1:=rfl
 have n:(Rose.mk (3,0,0,s) ks).dep 0 d=max d (nN (3,0,0,s) 0 (d+1) ks):=by rw[vE (by omega)];rfl
 simp only[x] at y p ⊢
 rw[b] at z
 rw[g,b,n]
 simp only[jD,jC,jF] at p ⊢
 obtain⟨Y,H,e⟩:=y
 have f:=p.1
 have E:PL ts ps (cZ ts ps k) 4 (i,l)=bC (yZ ts (cZ ts ps k) (i+1,l)) fun q=>iQ (aJ ts i) (3,0,0,s,q.2) q.1:=by
  show nL ts ps (cZ ts ps k) (i,l)=_
  rw[HG Y,if_neg S,if_neg (by rw[show qG (⟨⟨s.data.toList⟩⟩:BA)=false from U];exact kJ),if_pos (yX (s:=lH) H rfl)]
 have D:yZ ts (cZ ts ps k) (i+1,l)=if bP ts 4 eL (i+1+1) then .inr ((i+1+1+1,l),[]) else sY ts (cZ ts ps k) (ts.length+1) [] (i+1+1,l):=by
  unfold yZ
  dsimp only
  rw[nJ (s:=lH) H rfl]
  rfl
 rw[E,D]
 cases ks with
 |nil=>
  have e:eC (aJ ts (i+1+1))=eE (4,[41]):=e.1
  have A:(lG 0 (iG ps (3,0,0,s) 0 [])).length=0:=rfl
  rw[A] at p ⊢
  have c:aY []=0:=rfl
  rw[c] at z
  rw[if_pos (yX (s:=eL) e rfl)]
  refine .pure (by show max d 0<=32;omega) ?_
  simp only[bC]
  rw[sC (by omega),show i+1+1+1=i+(0+(0+1)+1+1) by omega]
  rfl
 |cons u us=>
  have B:lG 0 (iG ps (3,0,0,s) 0 (u::us))=u.pc ps 0 []++lG (0+1) (iG ps (3,0,0,s) (0+1) us):=rfl
  rw[B] at e f ⊢
  simp only[jC] at f ⊢
  rw[jE] at e
  have R:bP ts 4 eL (i+1+1)=false:=(o u (jH ..)).2 0 (i+1+1) [] (qV e).1
  rw[if_neg (by rw[R];exact kJ)]
  have c:aY (u::us)=u.size+aY us:=rfl
  rw[c] at z
  have A:=VQ (iG ps (3,0,0,s) (0+1) us) 0
  have G:(iG ps (3,0,0,s) (0+1) us).length=us.length:=by
   clear A f e B x o g b n p z c E D
   generalize 0+1=j
   induction us generalizing j with
   |nil=>rfl
   |cons a r K=>show(iG ps (3,0,0,s) (j+1) r).length+1=_;rw[K];rfl
  rw[G] at A
  have RA:=XT s (k:=k) (d:=d) (by omega) us u (ts.length+1) 0 [] (i+1+1) l bl (fun v M=>(o v M).1) e (by omega) (by omega) (by omega)
  refine RA.bind (g':=True) (fun _=> .pure trivial ?_) (by show max d (max (u.dep 0 (d+1)) _)<=32↔_;simp only[and_true];omega)
  dsimp only
  have fl:(u.flat l.length++dS (l.length+u.size) us).length=u.size+aY us:=by
   rw[jC,iP,qP]
  rw[sC (by rw[jC,fl];omega),jC,fl]
  have K:i+1+1+((u.pc ps 0 []).length+((lG (0+1) (iG ps (3,0,0,s) (0+1) us)).length+1))=i+((u.pc ps 0 []).length+(lG (0+1) (iG ps (3,0,0,s) (0+1) us)).length+(0+1)+1+1):=by omega
  rw[K,jE,c,show l.length+(u.size+aY us+1)-1=l.length+(u.size+aY us) by omega]
  rfl
theorem qLd(r:∀s∈ps,dH s=true)(v:∀j,j<ps.length->ps.findIdx? (fun x=>decide (x=ps.getD j ⟨#[]⟩))=some j){t:Rose}(B:Fine ps.length t):Pk ts ps t/\Pn ts ps t/\Pz ts ps t:=by
 induction B with
 |num n l o=>exact⟨qOd l o,vK fun _ i bl d=>(UJ d).1,vM fun i bl d=>(UJ d).2⟩
 |par i h=>
  have f:ps.getD i ⟨#[]⟩∈ps:=by
   rw[kA,List.getElem?_eq_getElem h]
   exact jN h
  exact⟨qNp h r (v i h),vK fun _ j bl d=>sE d.1 (GV (r _ f)).2.2,vM fun j bl d=>wU d.1⟩
 |call s ks h q z=>exact⟨qLf h fun t y=>⟨(z t y).1,(z t y).2.2⟩,vK fun _ j bl d=>sE d.1 (GV h).2.2,vM fun j bl d=>wU d.1⟩
 |bin op a b l o u p f g=>
  obtain⟨e,A,D⟩:=qBk l o
  obtain⟨nl,enl,hnl⟩:∃nl:Nat,dV (4,0,op,bU) 0=(nl:Int)/\1<=nl:=by
   unfold dV
   rw[if_pos rfl,if_pos rfl,e]
   split
   .exact⟨2,rfl,by decide⟩
   exact⟨tE op,rfl,A⟩
  have p:∀bl,oG ps (4,0,op,bU) (iG ps (4,0,op,bU) 0 [a,b]) bl=a.pc ps (nl:Int) [32]++(bV (pI op).data.toList [32]::b.pc ps (dV (4,0,op,bU) 1) bl):=fun bl=>by
   rw[<-enl];rfl
  exact⟨qNo l o f.1 g.1 f.2.1,vK fun _ i bl d=>by rw[p] at d;exact f.2.1 nl hnl i [32] (qV d).1,vM fun i bl d=>by rw[p] at d;exact f.2.2 nl i [32] (qV d).1⟩
 |ite a b c u p D f g A=>exact⟨qNh f.1 g.1 A.1,vK fun h=>absurd h (by decide),vM fun i bl d=>wU d.1⟩
 |read s a h u f=>exact⟨qLw h f.1,vK fun _ i bl d=>sE d.1 (by decide+kernel),vM fun i bl d=>wU d.1⟩
 |look k s q h=>
  refine⟨ZA (.inl ⟨q,h⟩),vK fun _ i bl d=> ?_,vM fun i bl d=> ?_⟩
  .rcases q with rfl|rfl
   .exact sE (w:=(nF 7).data.toList) d.1 (by decide+kernel)
   exact sE (w:=(nF 8).data.toList) d.1 (by decide+kernel)
  rcases q with rfl|rfl<;>exact wU d.1
 |env s h=>exact⟨ZA (.inr ⟨rfl,h⟩),vK fun _ i bl d=>sE (w:=(nF 9).data.toList) d.1 (by decide+kernel),vM fun i bl d=>wU d.1⟩
 |flip n h=>exact⟨qLi h,vK fun _ i bl d=>sE d.1 (by decide+kernel),vM fun i bl d=>wU d.1⟩
end
theorem CU{α:Type}[DecidableEq α]:∀{l seen:List α},mD seen l=false->∀y∈l,y∉seen
 |[],_,_,y,a=>by cases a
 |x::l,seen,h,y,a=>by
  unfold mD at h
  simp only[kZ,decide_eq_false_iff_not] at h
  rcases jR.1 a with rfl|a
  .exact h.1
  exact fun g=>CU h.2 y a (kD _ g)
theorem YH:∀{l seen:List BA},mD seen l=false->∀j,j<l.length->l.findIdx? (fun x=>decide (x=l.getD j ⟨#[]⟩))=some j
 |[],_,_,j,a=>by cases a
 |x::l,seen,h,0,_=>by
  rw[List.findIdx?_cons]
  have:decide (x=(x::l).getD 0 ⟨#[]⟩)=true:=kC rfl
  rw[if_pos this]
 |x::l,seen,h,j+1,a=>by
  have b:=h
  unfold mD at b
  simp only[kZ] at b
  have a:j<l.length:=by simpa using a
  have e:(x::l).getD (j+1) ⟨#[]⟩=l.getD j ⟨#[]⟩:=rfl
  have c:x≠l.getD j ⟨#[]⟩:=fun g=>by
   have d:l.getD j ⟨#[]⟩∈l:=by
    rw[kA,List.getElem?_eq_getElem a]
    exact jN a
   refine CU b.2 _ d ?_
   rw[<-g]
   exact kM _ (kI.2 rfl)
  rw[List.findIdx?_cons,e,if_neg (by simpa using c),YH b.2 j a]
  rfl
def DP:List UInt8:=[102,117,110,99]
def IA:List UInt8:=[116,101,115,116]
def IJ:List UInt8:=[103,101,110]
def RW:List UInt8:=[112,97,99,107,97,103,101]
def RV:List UInt8:=[105,109,112,111,114,116]
def iV:Nat->List BA->List Pc
 |_,[]=>[]
 |k,p::r=>(if k=0 then[] else[bV [44] [32]])++(cS p.data.toList []::iV (k+1) r)
def sF(d:Dl):List Pc:=
 if d.1=1 then cS DP [32]::cS d.2.1.data.toList []::bV [40] []::(iV 0 d.2.2.1++[bV [41] [32]])
 else if d.1=2 then[cS IA [32],cS d.2.1.data.toList [32]]
 else[cS IJ [32],pK d.2.1.data.toList [32]]
def pG(d:Dl):List Pc:=match AF d.2.2.2 with
 |some t=>t.pc d.2.2.1 0 []
 |none=>[]
def mH(d:Dl):List Pc:=sF d++(bV [61] [32]::(pG d++[bV [59] [10]]))
def pT(s:BA):List Pc:=[cS RV [32],cS s.data.toList [],bV [59] [10]]
def zS(f:Sr):List Pc:=cS RW [32]::cS f.1.data.toList []::bV [59] [10]::(f.2.1.flatMap pT++f.2.2.flatMap mH)
structure OkD(d:Dl):Prop where
 good:GoodD d
 pars:d.2.2.1.length<=8
 body:d.2.2.2.length<=256
 dup:lC d.2.2.1=false
theorem OkD.tree{d:Dl}(h:OkD d):∃t,AF d.2.2.2=some t/\d.2.2.2=t.flat 0/\Fine d.2.2.1.length t:=by
 obtain⟨t,b,a⟩:=HM h.good.tree
 exact⟨t,b,a,qLb t 0 fun x c=>h.good.nodes x (by rw[a];exact c)⟩
theorem OkD.kind{d:Dl}(h:OkD d):(d.1=1\/d.1=2)/\dH d.2.1=true\/d.1=3/\iN d.2.1.data.toList=true:=by
 have:=h.good.head
 unfold vO at this
 split at this
 .rename_i g;exact .inl ⟨g,this⟩
 split at this
 .rename_i g;exact .inr ⟨g,this⟩
 cases this
theorem OkD.nopars{d:Dl}(h:OkD d)(a:d.1≠1):d.2.2.1=[]:=by
 cases hp:d.2.2.1 with
 |nil=>rfl
 |cons p r=>exact absurd (h.good.pars p (by rw[hp];exact jH ..)).1 a
theorem OkD.names{d:Dl}(h:OkD d):∀s∈d.2.2.1,dH s=true:=fun s a=>(h.good.pars s a).2
theorem qFv{d:Dl}(h:OkD d):cT (pG d)=pW d:=by
 obtain⟨t,a,-,b⟩:=h.tree
 unfold pG pW
 rw[a]
 simp only
 rw[qHt b,jV]
theorem UU:∀(l:List BA) (k:Nat),cT (iV k l)=iR k (l.map fun s=>s.data.toList)
 |[],_=>rfl
 |p::l,k=>by
  simp only[iV,kG,iR,qO,cS,oB,rF,UU l,jQ]
  congr 1
  unfold lB
  split
  .rfl
  rfl
theorem qLp(l:List UInt8):(cQ l).data.toList=l:=rfl
theorem qFs{d:Dl}(h:OkD d):cT (mH d)=lY d:=by
 unfold mH lY
 rw[qO]
 have e:cT (sF d)=(vN d).data.toList++[32]:=by
  unfold sF vN
  by_cases h1:d.1=1
  .rw[if_pos h1,if_pos h1]
   simp only[cS,bV,oB,qO,UU,rF,rY,cT,lA,rT,tD,DP,jV,jQ,jE,jO]
  rw[if_neg h1,if_neg h1]
  by_cases h2:d.1=2
  .rw[if_pos h2,if_pos h2]
   simp only[cS,oB,rF,cT,lA,rT,IA,jV,jQ,jE,jO]
  rw[if_neg h2,if_neg h2]
  simp only[cS,pK,oB,rF,IV,cT,lA,rT,IJ,jV,jQ,jE,jO]
 rw[e]
 simp only[bV,oB,qO,qFv h,rY,cT,lA,rT,qLp,jV,jQ,jE,jO]
theorem qGt(s:BA):cT (pT s)=lI s:=by
 unfold pT lI
 simp only[cS,bV,oB,rF,rY,cT,lA,rT,RV,jV,jQ,jE,jO]
theorem NW{α:Type}(g:α->List Pc)(h:α->List UInt8):∀(l:List α),(∀x∈l,cT (g x)=h x)->cT (l.flatMap g)=l.flatMap h
 |[],_=>rfl
 |x::l,a=>by
  rw[kF,kF,qO,a x (jH ..),NW g h l fun y b=>a y (jK _ b)]
theorem DM{f:Sr}(h:GoodS f):∀d∈f.2.2,OkD d:=fun d e=>by
 obtain⟨a,b,c,-⟩:=h.decs d e
 refine⟨a,b,c,?_⟩
 have:=h.once
 unfold wV at this
 simp only[kZ,List.any_eq_false] at this
 exact(Bool.not_eq_true _).mp (this.1 d e)
theorem qFd{f:Sr}(h:GoodS f):cT (zS f)=nO f:=by
 unfold zS nO oW
 simp only[cS,bV,oB,qO,rF,rY,lA,rT,RW,jQ,jE,jO]
 rw[NW pT lI _ fun s _=>qGt s,NW mH lY _ fun d a=>qFs (DM h d a)]
theorem RZ:uC [10]:=fun x h=>by rw[kI.1 h];kernel_rfl
theorem gdE{rest:List Pc}(a:eT rest):eT (bV [61] [32]::rest):=
 ⟨.inr (.inr (.inr ⟨rfl,by decide⟩)),oJ,fun x r h=>by
  obtain⟨rfl,-⟩:=List.cons.inj (show 32::cT rest=x::r from h)
  kernel_rfl,a⟩
theorem qNu:oY (1,DP):= .inl ⟨rfl,⟨102,_,rfl,by kernel_rfl⟩,by decide+kernel,by decide⟩
theorem qOi:oY (1,IA):= .inl ⟨rfl,⟨116,_,rfl,by kernel_rfl⟩,by decide+kernel,by decide⟩
theorem qPf:oY (1,IJ):= .inl ⟨rfl,⟨103,_,rfl,by kernel_rfl⟩,by decide+kernel,by decide⟩
theorem qPg:oY (1,RW):= .inl ⟨rfl,⟨112,_,rfl,by kernel_rfl⟩,by decide+kernel,by decide⟩
theorem qPc:oY (1,RV):= .inl ⟨rfl,⟨105,_,rfl,by kernel_rfl⟩,by decide+kernel,by decide⟩
theorem qJf{l:List BA}{k:Nat}{rest:List Pc}(a:pU (cT rest)=true):pU (cT (iV (k+1) l++rest))=true:=by
 cases l with
 |nil=>exact a
 |cons p r=>
  show pU (cT (((if k+1=0 then[] else[bV [44] [32]])++(cS p.data.toList []::iV (k+1+1) r))++rest))=true
  rw[if_neg (by omega)]
  kernel_rfl
theorem ZZ:∀(l:List BA) (k:Nat) (rest:List Pc),(∀s∈l,dH s=true)->pU (cT rest)=true->eT rest->eT (iV k l++rest)
 |[],_,_,_,_,b=>b
 |p::l,k,rest,d,a,b=>by
  have e:=ZZ l (k+1) rest (fun s a=>d s (jK _ a)) a b
  have c:eT (cS p.data.toList []::(iV (k+1) l++rest)):=nP (zF (yW (d p (jH ..)))) lJ (qJf a) e
  show eT (((if k=0 then[] else[bV [44] [32]])++(cS p.data.toList []::iV (k+1) l))++rest)
  rw[jE]
  split
  .exact c
  exact mF (by decide) (by decide) oJ c
theorem qLh{d:Dl}(h:OkD d){rest:List Pc}(k:eT rest):eT (mH d++rest):=by
 obtain⟨t,f,-,g⟩:=h.tree
 have e:∀s∈d.2.2.1,lR s=true:=fun s l=>yW (h.names s l)
 have a:eT (bV [61] [32]::((pG d++[bV [59] [10]])++rest)):=by
  refine gdE ?_
  unfold pG
  rw[f,jE]
  exact qMk e g 0 [] _ lJ (by kernel_rfl) (mF (by decide) (by decide) RZ k)
 unfold mH
 rw[jE,jO]
 generalize hR:bV [61] [32]::((pG d++[bV [59] [10]])++rest)=R at a
 unfold sF
 rcases h.kind with ⟨c,b⟩|⟨c,b⟩
 .by_cases k1:d.1=1
  .rw[if_pos k1]
   show eT (cS DP [32]::cS d.2.1.data.toList []::bV [40] []::((iV 0 d.2.2.1++[bV [41] [32]])++R))
   rw[jE]
   exact nP qNu oJ (by kernel_rfl) (nP (zF (yW b)) lJ (by kernel_rfl) (mF (by decide) (by decide) lJ (ZZ _ 0 _ h.names (by kernel_rfl) (mF (by decide) (by decide) oJ a))))
  rw[if_neg k1,if_pos (c.resolve_left k1)]
  exact nP qOi oJ (by kernel_rfl) (nP (zF (yW b)) oJ (by kernel_rfl) a)
 rw[if_neg (by omega),if_neg (by omega)]
 obtain⟨p1,p2⟩:=PY b
 exact nP qPf oJ (by kernel_rfl) (IT p1 p2 oJ a)
theorem QM{α:Type}(g:α->List Pc):∀(l:List α) (rest:List Pc),(∀x∈l,∀r,eT r->eT (g x++r))->eT rest->eT (l.flatMap g++rest)
 |[],_,_,a=>a
 |x::l,rest,b,a=>by
  rw[kF,jE]
  exact b x (jH ..) _ (QM g l rest (fun y c=>b y (jK _ c)) a)
theorem qMa{f:Sr}(h:GoodS f):eT (zS f):=by
 have a:=QM mH f.2.2 [] (fun d a r b=>qLh (DM h d a) b) trivial
 rw[jV] at a
 have hi:=QM pT f.2.1 (f.2.2.flatMap mH) (fun s c r b=>nP qPc oJ (by kernel_rfl) (nP (zF (yW (h.imps s c))) lJ (by kernel_rfl) (mF (by decide) (by decide) RZ b))) a
 exact nP qPg oJ (by kernel_rfl) (nP (zF (yW h.pkg)) lJ (by kernel_rfl) (mF (by decide) (by decide) RZ hi))
section
variable {ts:List bQ} {i:Nat}
theorem CY{s:BA}(h:eC (aJ ts i)=eE (1,s.data.toList))(a:dH s=true):nE ts i= .inr (i+1,aJ ts i):=by
 unfold nE
 rw[KY (mC h) rfl]
 simp only[bC]
 have e:(aJ ts i).2.1=s:=oN (mC h)
 rw[e,if_neg (by rw[(GV a).2.1];exact kJ)]
theorem ZO:∀(l:List BA) (j:Nat),l.length<=(iV (j+1) l).length
 |[],_=>gC _
 |p::l,j=>by
  have:=ZO l (j+1)
  show l.length+1<=((if j+1=0 then[] else[bV [44] [32]])++(cS p.data.toList []::iV (j+1+1) l)).length
  rw[if_neg (by omega)]
  simp only[jC,jD,jF]
  omega
theorem WE:∀(r:List BA) (p:BA) (n j:Nat) (acc:List BA) (i:Nat) (bl:List UInt8),(∀s∈p::r,dH s=true)->mD acc (p::r)=false->acc.length+r.length+1<=8->iI ts i (iK (cS p.data.toList []::(iV (j+1) r++[bV [41] bl])))->r.length<n->
  sU ts n acc i= .inr (i+(1+(iV (j+1) r).length+1),acc++p::r)
 |_,_,0,_,_,_,_,_,_,_,_,h=>absurd h (kP _)
 |[],p,n+1,j,acc,i,bl,g,b,f,c,_=>by
  obtain⟨d,k,-⟩:=c
  have e:(aJ ts i).2.1=p:=oN (mC d)
  have a:=CU b p (jH ..)
  unfold sU
  rw[CY d (g p (jH ..))]
  simp only[bC]
  rw[if_neg (by simp only[jF] at f;omega),e,if_neg a,if_neg (by rw[GW k (by decide+kernel)];exact kJ),nJ (s:=eL) k rfl]
  rfl
 |q::r,p,n+1,j,acc,i,bl,g,b,f,c,o=>by
  have l:iV (j+1) (q::r)=bV [44] [32]::(cS q.data.toList []::iV (j+1+1) r):=by
   show(if j+1=0 then[] else[bV [44] [32]])++(cS q.data.toList []::iV (j+1+1) r)=_
   rw[if_neg (by omega)];rfl
  rw[l] at c ⊢
  obtain⟨d,k,u⟩:=c
  have e:(aJ ts i).2.1=p:=oN (mC d)
  have a:=CU b p (jH ..)
  unfold mD at b
  simp only[kZ] at b
  have t:=WE r q n (j+1) (acc++[p]) (i+1+1) bl (fun s c=>g s (jK _ c)) b.2 (by simp only[jC,jD,jF] at f ⊢;omega) u (by simp only[jD] at o;omega)
  unfold sU
  rw[CY d (g p (jH ..))]
  simp only[bC]
  rw[if_neg (by simp only[jD] at f;omega),e,if_neg a,if_pos (yX (s:=pQ) k rfl),t]
  simp only[jD,jE,jO,jQ]
  show Sum.inr _=Sum.inr _
  rw[show i+1+1+(1+(iV (j+1+1) r).length+1)=i+(1+((iV (j+1+1) r).length+1+1)+1) by omega]
theorem qEp{l:List BA}{bl:List UInt8}(f:∀s∈l,dH s=true)(d:lC l=false)(e:l.length<=8)(g:iI ts i (iK (bV [40] []::(iV 0 l++[bV [41] bl]))))(b:i+(iV 0 l).length+2<ts.length):
  uR ts i= .inr (i+(1+(iV 0 l).length+1),l):=by
 obtain⟨h,a⟩:=g
 unfold uR
 rw[nJ (s:=lH) h rfl]
 simp only[bC]
 cases l with
 |nil=>
  have a:eC (aJ ts (i+1))=eE (4,[41]):=a.1
  rw[if_pos (yX (s:=eL) a rfl)]
  rfl
 |cons p r=>
  have c:iV 0 (p::r)=cS p.data.toList []::iV (0+1) r:=rfl
  rw[c] at a b ⊢
  have k:=ZO r 0
  simp only[jD] at b e ⊢
  rw[if_neg (by rw[wU a.1];exact kJ)]
  have:=WE r p (ts.length+1) 0 [] (i+1) bl f d (by simp only[jF];omega) a (by omega)
  rw[this,jQ,show i+1+(1+(iV (0+1) r).length+1)=i+(1+((iV (0+1) r).length+1)+1) by omega]
end
theorem Res.stepR{α β:Type}{x:bZ⊕α}{v:α}{f:α->bZ⊕β}{g:Prop}{w:β}(h:x= .inr v)(r:Res (f v) g w):Res (bC x f) g w:=by
 rw[h];exact r
section
variable {ts:List bQ}
theorem qJs{d:Dl}(h:OkD d){i:Nat}{k:Int}{nm:BA}(l:iI ts i (iK (bV [61] [32]::(pG d++[bV [59] [10]]))))(b:i+((pG d).length+1+1)<ts.length):
  Res (bC (dP ts vX i) fun j=>bC (cZ ts d.2.2.1 32 (j,[])) fun c=>bC (dP ts qD c.1.1) fun m=>(.inr (m,(k,nm,d.2.2.1,c.1.2)):bZ⊕(Nat×Dl))) (lS d<=32) (i+((pG d).length+1+1),(k,nm,d.2.2.1,d.2.2.2)):=by
 obtain⟨t,f,g,p⟩:=h.tree
 have et:pG d=t.pc d.2.2.1 0 []:=by unfold pG;rw[f]
 have ed:lS d=t.dep 0 1:=by unfold lS;rw[f]
 rw[et] at l b ⊢
 rw[ed]
 obtain⟨r,e⟩:=l
 obtain⟨e,a⟩:=qV e
 have a:eC (aJ ts (i+1+(t.pc d.2.2.1 0 []).length))=eE (4,[59]):=a.1
 have q:=(qLd (ts:=ts) h.names (YH h.dup) p).1
 have n:t.size=d.2.2.2.length:=by
  have:=iP t 0
  rw[<-g] at this;exact this.symm
 have o:=h.body
 have RA:=q.p0 32 1 (by decide) (i+1) [] [] e (zG qJz a (by omega) 1) (by rw[n];simpa using h.body)
 refine Res.stepR (nJ (s:=vX) r rfl) ?_
 refine RA.bind (g':=True) (fun _=> .pure trivial ?_) (by simp)
 dsimp only
 rw[nJ (s:=qD) a rfl]
 simp only[bC,jQ,jF]
 rw[<-g,show i+1+(t.pc d.2.2.1 0 []).length+1=i+((t.pc d.2.2.1 0 []).length+1+1) by omega]
theorem qJl{d:Dl}(h:OkD d){i:Nat}{before:List Dl}(v:before.length<64)(e:before.any (fun x=>x.1==d.1&&decide (x.2.1=d.2.1))=false)(s:iI ts i (iK (mH d)))(a:i+(mH d).length<ts.length):
  Res (qF ts before i) (lS d<=32) (i+(mH d).length,d):=by
 unfold mH at s a ⊢
 simp only[jC,jD,jF] at a ⊢
 obtain⟨n,u⟩:=qV s
 have r:((d.1,d.2.1,d.2.2.1,d.2.2.2):Dl)=d:=rfl
 have T:=fun(j:Nat) (t:j=i+(sF d).length)=>qJs (ts:=ts) h (i:=j) (k:=d.1) (nm:=d.2.1) (by rw[t];exact u) (by omega)
 unfold qF
 dsimp only
 by_cases k1:d.1=1
 .have eh:sF d=cS DP [32]::cS d.2.1.data.toList []::bV [40] []::(iV 0 d.2.2.1++[bV [41] [32]]):=if_pos k1
  have q:dH d.2.1=true:=by
   rcases h.kind with ⟨-,g⟩|⟨g,-⟩
   .exact g
   omega
  rw[eh] at n T a ⊢
  simp only[jC,jD,jF] at T a ⊢
  obtain⟨b,c,f⟩:=n
  have o:(aJ ts i).2.1=IH:=oN (mC b)
  have p:(aJ ts (i+1)).2.1=d.2.1:=oN (mC c)
  have ek:AC (aJ ts i).2.1=1:=by rw[o];decide+kernel
  rw[if_neg (by rw[ek,sP (mC b)];show ¬((1:Int)≠1\/(1:Int)=0);decide),if_neg (by omega),ek,if_neg (by decide),CY c q]
  simp only[bC]
  rw[p,if_neg (by rw[<-k1,e];exact kJ),if_pos trivial,qEp h.names h.dup h.pars f (by omega)]
  simp only
  rw[<-k1]
  have:=T (i+1+1+(1+(iV 0 d.2.2.1).length+1)) (by omega)
  rw[show i+1+1+(1+(iV 0 d.2.2.1).length+1)+((pG d).length+1+1)=i+((iV 0 d.2.2.1).length+(0+1)+1+1+1+((pG d).length+(0+1)+1)) by omega] at this
  exact this
 have f:=h.nopars k1
 rcases h.kind with ⟨l,q⟩|⟨k3,q⟩
 .have l:d.1=2:=l.resolve_left k1
  have eh:sF d=[cS IA [32],cS d.2.1.data.toList [32]]:=by unfold sF;rw[if_neg k1,if_pos l]
  rw[eh] at n T a ⊢
  simp only[jD,jF] at T a ⊢
  obtain⟨b,c,-⟩:=n
  have o:(aJ ts i).2.1=HZ:=oN (mC b)
  have p:(aJ ts (i+1)).2.1=d.2.1:=oN (mC c)
  have ek:AC (aJ ts i).2.1=2:=by rw[o];decide+kernel
  rw[if_neg (by rw[ek,sP (mC b)];show ¬((1:Int)≠1\/(2:Int)=0);decide),if_neg (by omega),ek,if_neg (by decide),CY c q]
  simp only[bC]
  rw[p,if_neg (by rw[<-l,e];exact kJ),if_neg (by decide)]
  simp only
  have:=T (i+1+1) (by omega)
  rw[f,l,show i+1+1+((pG d).length+1+1)=i+(0+1+1+((pG d).length+(0+1)+1)) by omega] at this
  refine Eq.mp (congrArg (Res _ _) ?_) this
  rw[<-r,f,l]
 have eh:sF d=[cS IJ [32],pK d.2.1.data.toList [32]]:=by unfold sF;rw[if_neg k1,if_neg (by omega)]
 rw[eh] at n T a ⊢
 simp only[jD,jF] at T a ⊢
 obtain⟨b,c,-⟩:=n
 have o:(aJ ts i).2.1=IP:=oN (mC b)
 have p:(aJ ts (i+1)).2.1=d.2.1:=oN (zA c)
 have ek:AC (aJ ts i).2.1=3:=by rw[o];decide+kernel
 rw[if_neg (by rw[ek,sP (mC b)];show ¬((1:Int)≠1\/(3:Int)=0);decide),if_neg (by omega),ek,if_pos rfl,KT c q]
 simp only[bC]
 rw[p,if_neg (by rw[<-k3,e];exact kJ),if_neg (by decide)]
 simp only
 have:=T (i+1+1) (by omega)
 rw[f,k3,show i+1+1+((pG d).length+1+1)=i+(0+1+1+((pG d).length+(0+1)+1)) by omega] at this
 refine Eq.mp (congrArg (Res _ _) ?_) this
 rw[<-r,f,k3]
theorem WV:∀(ds before:List Dl) (n i:Nat),(∀d∈ds,OkD d)->before.length+ds.length<=64->mD (before.map mP) (ds.map mP)=false->iI ts i (iK (ds.flatMap mH)++[((5,⟨#[]⟩,0):lZ)])->i+(ds.flatMap mH).length<ts.length->ds.length<n->
  Res (wW ts n before i) (∀d∈ds,lS d<=32) (before++ds)
 |_,_,0,_,_,_,_,_,_,h=>absurd h (kP _)
 |[],before,n+1,i,_,_,_,e,_,_=>by
  have f:eC (aJ ts i)=(5,⟨#[]⟩,0):=e.1
  unfold wW
  rw[if_pos (sP f),jV]
  exact .pure (fun d t=>by cases t) rfl
 |d::ds,before,n+1,i,g,u,a,e,c,v=>by
  rw[kF] at e c
  rw[KV,jE,zP] at e
  obtain⟨f,p⟩:=e
  have o:(iK (mH d)).length=(mH d).length:=gJ ..
  rw[o] at p
  rw[jC] at c
  simp only[jD] at u v
  have b:(aJ ts i).1≠5:=by
   have k:∃w r,mH d=cS w [32]::r:=by
    unfold mH sF
    split
    .exact⟨_,_,rfl⟩
    split
    .exact⟨_,_,rfl⟩
    exact⟨_,_,rfl⟩
   obtain⟨w,r,l⟩:=k
   rw[l] at f
   rw[sP (mC f.1)]
   show(1:Int)≠5
   decide
  have k:before.any (fun x=>x.1==d.1&&decide (x.2.1=d.2.1))=false:=by
   have:=CU a (mP d) (jH ..)
   rw[List.any_eq_false]
   intro x l
   simp only[jM,kN,jA]
   rintro⟨q,s⟩
   exact this (fT.2 ⟨x,l,Prod.ext q s⟩)
  rw[kG] at a
  unfold mD at a
  simp only[kZ] at a
  have RA:=qJl (ts:=ts) (g d (jH ..)) (i:=i) (before:=before) (by omega) k f (by omega)
  have RB:=WV ds (before++[d]) n (i+(mH d).length) (fun x l=>g x (jK _ l)) (by simp only[jC,jD,jF];omega) (by rw[fB];exact a.2) p (by omega) (by omega)
  unfold wW
  rw[if_neg b]
  refine RA.bind (fun _=> ?_) (g':=∀x∈ds,lS x<=32) (by simp)
  rw[jE] at RB
  exact RB
theorem UR{pkg:BA}:∀(r acc:List BA) (n i:Nat) (c:lZ),(∀s∈r,dH s=true)->acc.length+r.length<=8->mD acc r=false->pkg∉r->iI ts i (iK (r.flatMap pT)++[c])->(c.1==1&&decide (c.2.1=vA))=false->r.length<n->
  qQ ts pkg n acc i= .inr (i+(r.flatMap pT).length,acc++r)
 |_,_,0,_,_,_,_,_,_,_,_,h=>absurd h (kP _)
 |[],acc,n+1,i,c,_,_,_,_,b,d,_=>by
  have f:eC (aJ ts i)=c:=b.1
  unfold qQ
  rw[pR f,d,if_neg kJ,jV]
  rfl
 |s::r,acc,n+1,i,c,l,t,a,o,b,d,u=>by
  rw[kF,KV,jE,zP] at b
  obtain⟨⟨f,p,z,-⟩,A⟩:=b
  have q:(aJ ts (i+1)).2.1=s:=oN (mC p)
  have e:=CU a s (jH ..)
  unfold mD at a
  simp only[kZ] at a
  simp only[jD] at t u
  have y:=UR (pkg:=pkg) r (acc++[s]) n (i+1+1+1) c (fun x v=>l x (jK _ v)) (by simp only[jC,jD,jF];omega) a.2 (fun g=>o (jK _ g)) A d (by omega)
  have k:bP ts 1 vA i=true:=by rw[pR (mC f)];decide+kernel
  unfold qQ
  rw[if_pos k,if_neg (by omega),CY p (l s (jH ..))]
  simp only[bC]
  rw[q,if_neg (by
   rintro(g|g)
   .exact o (by rw[g];exact jH ..)
   exact e g),nJ (s:=qD) z rfl]
  simp only
  rw[y,kF,jC,jE]
  show Sum.inr _=Sum.inr _
  rw[show i+1+1+1+(r.flatMap pT).length=i+((pT s).length+(r.flatMap pT).length) by show _=i+(3+_);omega]
  rfl
end
end
end Go.Proofs.YthbfjomffkpjdaaGreatDoor
