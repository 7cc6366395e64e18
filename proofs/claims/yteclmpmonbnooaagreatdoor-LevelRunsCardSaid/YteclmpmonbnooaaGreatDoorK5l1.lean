/- No condition but those of each theorem. -/
import Derived.Test.YteclmpmonbnooaaGreatDoorProg
import Derived.WalkKit
import Derived.Deep.LoopGhost
import Derived.KernelRfl
import Derived.OrdersHeld
import Derived.OrdersIn
import Derived.LoopNIn
import Derived.Sort.LoopGhostIn
import Derived.Laws.AppendOwn
import Derived.RangeFuncLeaves
import Derived.RangeFuncRecord
import Derived.MapKept
import Derived.Maps.RangeRun
import Derived.ChangeKeysEq
import Derived.HandedShaped
import Derived.ChangeStays
import Derived.ChangeSame
import Derived.OpenShut
import Derived.WideShapes
import Derived.JoinedOf
import Derived.ReadAgain
import Derived.ChangeAt
import Derived.RowKit
import Derived.Lib.Overlaps
import Derived.Shelf.SlSortCmp.NoneTotal
import Derived.WalkSmall
import Derived.Recover
import Derived.Lib.Bytealg
import Derived.Lib.ItoaNum
import Derived.Test.YteclmpmonbnooaaGreatDoorK4l1
namespace Go.Proofs.YteclmpmonbnooaaGreatDoor
section
open Go Go.Dc Go.Proofs
theorem II{α:Type}[DecidableEq α]:∀{l seen:List α},pP seen l=false->∀y∈l,y∉seen
 |[],_,_,y,a=>by cases a
 |x::l,seen,h,y,a=>by
  unfold pP at h
  simp only[kV,decide_eq_false_iff_not] at h
  rcases jJ.1 a with rfl|a
  .exact h.1
  exact fun g=>II h.2 y a (kE _ g)
theorem qNw:∀{l seen:List BA},pP seen l=false->∀j,j<l.length->l.findIdx? (fun x=>decide (x=l.getD j ⟨#[]⟩))=some j
 |[],_,_,j,a=>by cases a
 |x::l,seen,h,0,_=>by
  rw[List.findIdx?_cons]
  have:decide (x=(x::l).getD 0 ⟨#[]⟩)=true:=jR rfl
  rw[if_pos this]
 |x::l,seen,h,j+1,a=>by
  have b:=h
  unfold pP at b
  simp only[kV] at b
  have a:j<l.length:=by simpa using a
  have e:(x::l).getD (j+1) ⟨#[]⟩=l.getD j ⟨#[]⟩:=rfl
  have c:x≠l.getD j ⟨#[]⟩:=fun g=>by
   have d:l.getD j ⟨#[]⟩∈l:=by
    rw[jS,List.getElem?_eq_getElem a]
    exact jM a
   refine II b.2 _ d ?_
   rw[<-g]
   exact kW _ (jL.2 rfl)
  rw[List.findIdx?_cons,e,if_neg (by simpa using c),qNw b.2 j a]
  rfl
def JB:List UInt8:=[102,117,110,99]
def OL:List UInt8:=[116,101,115,116]
def PA:List UInt8:=[103,101,110]
def qCd:List UInt8:=[112,97,99,107,97,103,101]
def qCg:List UInt8:=[105,109,112,111,114,116]
def nN:Nat->List BA->List Pc
 |_,[]=>[]
 |k,p::r=>(if k=0 then[] else[cG [44] [32]])++(eM p.data.toList []::nN (k+1) r)
def wW(d:Dl):List Pc:=
 if d.1=1 then eM JB [32]::eM d.2.1.data.toList []::cG [40] []::(nN 0 d.2.2.1++[cG [41] [32]])
 else if d.1=2 then[eM OL [32],eM d.2.1.data.toList [32]]
 else[eM PA [32],sW d.2.1.data.toList [32]]
def sL(d:Dl):List Pc:=match zJ d.2.2.2 with
 |some t=>t.pc d.2.2.1 0 []
 |none=>[]
def pK(d:Dl):List Pc:=wW d++(cG [61] [32]::(sL d++[cG [59] [10]]))
def tG(s:BA):List Pc:=[eM qCg [32],eM s.data.toList [],cG [59] [10]]
def tD(f:Sr):List Pc:=eM qCd [32]::eM f.1.data.toList []::cG [59] [10]::(f.2.1.flatMap tG++f.2.2.flatMap pK)
structure OkD(d:Dl):Prop where
 good:GoodD d
 pars:d.2.2.1.length<=8
 body:d.2.2.2.length<=256
 dup:nZ d.2.2.1=false
theorem OkD.tree{d:Dl}(h:OkD d):∃t,zJ d.2.2.2=some t/\d.2.2.2=t.flat 0/\Fine d.2.2.1.length t:=by
 obtain⟨t,b,a⟩:=ZC h.good.tree
 exact⟨t,b,a,zEu t 0 fun x c=>h.good.nodes x (by rw[a];exact c)⟩
theorem OkD.kind{d:Dl}(h:OkD d):(d.1=1\/d.1=2)/\iC d.2.1=true\/d.1=3/\iF d.2.1.data.toList=true:=by
 have:=h.good.head
 unfold CT at this
 split at this
 .rename_i g;exact .inl ⟨g,this⟩
 split at this
 .rename_i g;exact .inr ⟨g,this⟩
 cases this
theorem OkD.nopars{d:Dl}(h:OkD d)(a:d.1≠1):d.2.2.1=[]:=by
 cases hp:d.2.2.1 with
 |nil=>rfl
 |cons p r=>exact absurd (h.good.pars p (by rw[hp];exact jF ..)).1 a
theorem OkD.names{d:Dl}(h:OkD d):∀s∈d.2.2.1,iC s=true:=fun s a=>(h.good.pars s a).2
theorem qVr{d:Dl}(h:OkD d):eZ (sL d)=yI d:=by
 obtain⟨t,a,-,b⟩:=h.tree
 unfold sL yI
 rw[a]
 simp only
 rw[qXq b,jV]
theorem qFu:∀(l:List BA) (k:Nat),eZ (nN k l)=rD k (l.map fun s=>s.data.toList)
 |[],_=>rfl
 |p::l,k=>by
  simp only[nN,kF,rD,uU,eM,qX,vM,qFu l,jP]
  congr 1
  unfold qF
  split
  .rfl
  rfl
theorem zDi(l:List UInt8):(eJ l).data.toList=l:=rfl
theorem qWf{d:Dl}(h:OkD d):eZ (pK d)=rY d:=by
 unfold pK rY
 rw[uU]
 have e:eZ (wW d)=(AR d).data.toList++[32]:=by
  unfold wW AR
  by_cases h1:d.1=1
  .rw[if_pos h1,if_pos h1]
   simp only[eM,cG,qX,uU,qFu,vM,wL,eZ,pI,wJ,IV,JB,jV,jP,jE,jT]
  rw[if_neg h1,if_neg h1]
  by_cases h2:d.1=2
  .rw[if_pos h2,if_pos h2]
   simp only[eM,qX,vM,eZ,pI,wJ,OL,jV,jP,jE,jT]
  rw[if_neg h2,if_neg h2]
  simp only[eM,sW,qX,vM,PU,eZ,pI,wJ,PA,jV,jP,jE,jT]
 rw[e]
 simp only[cG,qX,uU,qVr h,wL,eZ,pI,wJ,zDi,jV,jP,jE,jT]
theorem qWl(s:BA):eZ (tG s)=qH s:=by
 unfold tG qH
 simp only[eM,cG,qX,vM,wL,eZ,pI,wJ,qCg,jV,jP,jE,jT]
theorem WZ{α:Type}(g:α->List Pc)(h:α->List UInt8):∀(l:List α),(∀x∈l,eZ (g x)=h x)->eZ (l.flatMap g)=l.flatMap h
 |[],_=>rfl
 |x::l,a=>by
  rw[kL,kL,uU,a x (jF ..),WZ g h l fun y b=>a y (jH _ b)]
theorem OE{f:Sr}(h:GoodS f):∀d∈f.2.2,OkD d:=fun d e=>by
 obtain⟨a,b,c,-⟩:=h.decs d e
 refine⟨a,b,c,?_⟩
 have:=h.once
 unfold AP at this
 simp only[kV,fJ] at this
 exact(Bool.not_eq_true _).mp (this.1 d e)
theorem qFm{f:Sr}(h:GoodS f):eZ (tD f)=FZ f:=by
 unfold tD FZ zP
 simp only[eM,cG,qX,uU,vM,wL,pI,wJ,qCd,jP,jE,jT]
 rw[WZ tG qH _ fun s _=>qWl s,WZ pK rY _ fun d a=>qWf (OE h d a)]
theorem qCe:zW [10]:=fun x h=>by rw[jL.1 h];kernel_rfl
theorem gdE{rest:List Pc}(a:lX rest):lX (cG [61] [32]::rest):=
 ⟨.inr (.inr (.inr ⟨rfl,by decide⟩)),rH,fun x r h=>by
  obtain⟨rfl,-⟩:=List.cons.inj (show 32::eZ rest=x::r from h)
  kernel_rfl,a⟩
theorem zFb:sE (1,JB):= .inl ⟨rfl,⟨102,_,rfl,by kernel_rfl⟩,by decide+kernel,by decide⟩
theorem zGo:sE (1,OL):= .inl ⟨rfl,⟨116,_,rfl,by kernel_rfl⟩,by decide+kernel,by decide⟩
theorem zHl:sE (1,PA):= .inl ⟨rfl,⟨103,_,rfl,by kernel_rfl⟩,by decide+kernel,by decide⟩
theorem zIi:sE (1,qCd):= .inl ⟨rfl,⟨112,_,rfl,by kernel_rfl⟩,by decide+kernel,by decide⟩
theorem zHz:sE (1,qCg):= .inl ⟨rfl,⟨105,_,rfl,by kernel_rfl⟩,by decide+kernel,by decide⟩
theorem zBy{l:List BA}{k:Nat}{rest:List Pc}(a:tK (eZ rest)=true):tK (eZ (nN (k+1) l++rest))=true:=by
 cases l with
 |nil=>exact a
 |cons p r=>
  show tK (eZ (((if k+1=0 then[] else[cG [44] [32]])++(eM p.data.toList []::nN (k+1+1) r))++rest))=true
  rw[if_neg aa]
  kernel_rfl
theorem qOr:∀(l:List BA) (k:Nat) (rest:List Pc),(∀s∈l,iC s=true)->tK (eZ rest)=true->lX rest->lX (nN k l++rest)
 |[],_,_,_,_,b=>b
 |p::l,k,rest,d,a,b=>by
  have e:=qOr l (k+1) rest (fun s a=>d s (jH _ a)) a b
  have c:lX (eM p.data.toList []::(nN (k+1) l++rest)):=qV (EW (EJ (d p (jF ..)))) oA (zBy a) e
  show lX (((if k=0 then[] else[cG [44] [32]])++(eM p.data.toList []::nN (k+1) l))++rest)
  rw[jE]
  split
  .exact c
  exact pE ac ac rH c
theorem zEn{d:Dl}(h:OkD d){rest:List Pc}(k:lX rest):lX (pK d++rest):=by
 obtain⟨t,f,-,g⟩:=h.tree
 have e:∀s∈d.2.2.1,iR s=true:=fun s l=>EJ (h.names s l)
 have a:lX (cG [61] [32]::((sL d++[cG [59] [10]])++rest)):=by
  refine gdE ?_
  unfold sL
  rw[f,jE]
  exact zDr e g 0 [] _ oA af (pE ac ac qCe k)
 unfold pK
 rw[jE,jT]
 generalize hR:cG [61] [32]::((sL d++[cG [59] [10]])++rest)=R at a
 unfold wW
 rcases h.kind with ⟨c,b⟩|⟨c,b⟩
 .by_cases k1:d.1=1
  .rw[if_pos k1]
   show lX (eM JB [32]::eM d.2.1.data.toList []::cG [40] []::((nN 0 d.2.2.1++[cG [41] [32]])++R))
   rw[jE]
   exact qV zFb rH af (qV (EW (EJ b)) oA af (pE ac ac oA (qOr _ 0 _ h.names af (pE ac ac rH a))))
  rw[if_neg k1,if_pos (c.resolve_left k1)]
  exact qV zGo rH af (qV (EW (EJ b)) rH af a)
 rw[if_neg aa,if_neg aa]
 obtain⟨p1,p2⟩:=ZR b
 exact qV zHl rH af (PS p1 p2 rH a)
theorem ZW{α:Type}(g:α->List Pc):∀(l:List α) (rest:List Pc),(∀x∈l,∀r,lX r->lX (g x++r))->lX rest->lX (l.flatMap g++rest)
 |[],_,_,a=>a
 |x::l,rest,b,a=>by
  rw[kL,jE]
  exact b x (jF ..) _ (ZW g l rest (fun y c=>b y (jH _ c)) a)
theorem qMv{f:Sr}(h:GoodS f):lX (tD f):=by
 have a:=ZW pK f.2.2 [] (fun d a r b=>zEn (OE h d a) b) trivial
 rw[jV] at a
 have hi:=ZW tG f.2.1 (f.2.2.flatMap pK) (fun s c r b=>qV zHz rH af (qV (EW (EJ (h.imps s c))) oA af (pE ac ac qCe b))) a
 exact qV zIi rH af (qV (EW (EJ h.pkg)) oA af (pE ac ac qCe hi))
section
variable {ts:List bD} {i:Nat}
theorem IE{s:BA}(h:iV (aA ts i)=iZ (1,s.data.toList))(a:iC s=true):pC ts i= .inr (i+1,aA ts i):=by
 unfold pC
 rw[UA (pA h) rfl]
 simp only[aQ]
 have e:(aA ts i).2.1=s:=rK (pA h)
 rw[e,if_neg (by rw[(MV a).2.1];exact kH)]
theorem qNz:∀(l:List BA) (j:Nat),l.length<=(nN (j+1) l).length
 |[],_=>jW _
 |p::l,j=>by
  have:=qNz l (j+1)
  show l.length+1<=((if j+1=0 then[] else[cG [44] [32]])++(eM p.data.toList []::nN (j+1+1) l)).length
  rw[if_neg aa]
  simp only[jB,jC,jD]
  omega
theorem qJm:∀(r:List BA) (p:BA) (n j:Nat) (acc:List BA) (i:Nat) (bl:List UInt8),(∀s∈p::r,iC s=true)->pP acc (p::r)=false->acc.length+r.length+1<=8->mN ts i (mW (eM p.data.toList []::(nN (j+1) r++[cG [41] bl])))->r.length<n->
  uY ts n acc i= .inr (i+(1+(nN (j+1) r).length+1),acc++p::r)
 |_,_,0,_,_,_,_,_,_,_,_,h=>absurd h (kK _)
 |[],p,n+1,j,acc,i,bl,f,b,d,c,_=>by
  obtain⟨s1,g,-⟩:=c
  have e:(aA ts i).2.1=p:=rK (pA s1)
  have a:=II b p (jF ..)
  unfold uY
  rw[IE s1 (f p (jF ..))]
  simp only[aQ]
  rw[if_neg (by simp only[jD] at d;omega),e,if_neg a,if_neg (by rw[MR g ah];exact kH),qM (s:=sClose) g rfl]
  rfl
 |q::r,p,n+1,j,acc,i,bl,f,b,d,c,l=>by
  have k:nN (j+1) (q::r)=cG [44] [32]::(eM q.data.toList []::nN (j+1+1) r):=by
   show(if j+1=0 then[] else[cG [44] [32]])++(eM q.data.toList []::nN (j+1+1) r)=_
   rw[if_neg aa];rfl
  rw[k] at c ⊢
  obtain⟨s1,g,t⟩:=c
  have e:(aA ts i).2.1=p:=rK (pA s1)
  have a:=II b p (jF ..)
  unfold pP at b
  simp only[kV] at b
  have o:=qJm r q n (j+1) (acc++[p]) (i+1+1) bl (fun s c=>f s (jH _ c)) b.2 (by simp only[jB,jC,jD] at d ⊢;omega) t (by simp only[jC] at l;omega)
  unfold uY
  rw[IE s1 (f p (jF ..))]
  simp only[aQ]
  rw[if_neg (by simp only[jC] at d;omega),e,if_neg a,if_pos (EI (s:=sComma) g rfl),o]
  simp only[jC,jE,jT,jP]
  show Sum.inr _=Sum.inr _
  rw[show i+1+1+(1+(nN (j+1+1) r).length+1)=i+(1+((nN (j+1+1) r).length+1+1)+1) by omega]
theorem qUd{l:List BA}{bl:List UInt8}(f:∀s∈l,iC s=true)(d:nZ l=false)(e:l.length<=8)(g:mN ts i (mW (cG [40] []::(nN 0 l++[cG [41] bl]))))(b:i+(nN 0 l).length+2<ts.length):
  xR ts i= .inr (i+(1+(nN 0 l).length+1),l):=by
 obtain⟨s1,a⟩:=g
 unfold xR
 rw[qM (s:=sOpen) s1 rfl]
 simp only[aQ]
 cases l with
 |nil=>
  have a:iV (aA ts (i+1))=iZ (4,[41]):=a.1
  rw[if_pos (EI (s:=sClose) a rfl)]
  rfl
 |cons p r=>
  have c:nN 0 (p::r)=eM p.data.toList []::nN (0+1) r:=rfl
  rw[c] at a b ⊢
  have h:=qNz r 0
  simp only[jC] at b e ⊢
  rw[if_neg (by rw[CM a.1];exact kH)]
  have:=qJm r p (ts.length+1) 0 [] (i+1) bl f d (by simp only[jD];omega) a aa
  rw[this,jP,show i+1+(1+(nN (0+1) r).length+1)=i+(1+((nN (0+1) r).length+1)+1) by omega]
end
theorem Res.stepR{α β:Type}{x:cD⊕α}{v:α}{f:α->cD⊕β}{g:Prop}{w:β}(h:x= .inr v)(r:Res (f v) g w):Res (aQ x f) g w:=by
 rw[h];exact r
section
variable {ts:List bD}
theorem zAj{d:Dl}(h:OkD d){i:Nat}{k:Int}{nm:BA}(l:mN ts i (mW (cG [61] [32]::(sL d++[cG [59] [10]]))))(b:i+((sL d).length+1+1)<ts.length):
  Res (aQ (iD ts sEq i) fun j=>aQ (eP ts d.2.2.1 32 (j,[])) fun c=>aQ (iD ts sSemi c.1.1) fun m=>(.inr (m,(k,nm,d.2.2.1,c.1.2)):cD⊕(Nat×Dl))) (vH d<=32) (i+((sL d).length+1+1),(k,nm,d.2.2.1,d.2.2.2)):=by
 obtain⟨t,f,g,p⟩:=h.tree
 have et:sL d=t.pc d.2.2.1 0 []:=by unfold sL;rw[f]
 have ed:vH d=t.dep 0 1:=by unfold vH;rw[f]
 rw[et] at l b ⊢
 rw[ed]
 obtain⟨s1,e⟩:=l
 obtain⟨e,a⟩:=vD e
 have a:iV (aA ts (i+1+(t.pc d.2.2.1 0 []).length))=iZ (4,[59]):=a.1
 have q:=(zEj (ts:=ts) h.names (qNw h.dup) p).1
 have n:t.size=d.2.2.2.length:=by
  have:=lP t 0
  rw[<-g] at this;exact this.symm
 have o:=h.body
 have RA:=q.p0 32 1 ac (i+1) [] [] e (ER zBs a aa 1) (by rw[n];simpa using h.body)
 refine Res.stepR (qM (s:=sEq) s1 rfl) ?_
 refine RA.bind (g':=True) (fun _=> .pure trivial ?_) ae
 dsimp only
 rw[qM (s:=sSemi) a rfl]
 simp only[aQ,jP,jD]
 rw[<-g,show i+1+(t.pc d.2.2.1 0 []).length+1=i+((t.pc d.2.2.1 0 []).length+1+1) by omega]
theorem zCh{d:Dl}(h:OkD d){i:Nat}{before:List Dl}(v:before.length<64)(e:before.any (fun x=>x.1==d.1&&decide (x.2.1=d.2.1))=false)(s:mN ts i (mW (pK d)))(a:i+(pK d).length<ts.length):
  Res (pM ts before i) (vH d<=32) (i+(pK d).length,d):=by
 unfold pK at s a ⊢
 simp only[jB,jC,jD] at a ⊢
 obtain⟨s1,u⟩:=vD s
 have q:((d.1,d.2.1,d.2.2.1,d.2.2.2):Dl)=d:=rfl
 have T:=fun(j:Nat) (t:j=i+(wW d).length)=>zAj (ts:=ts) h (i:=j) (k:=d.1) (nm:=d.2.1) (by rw[t];exact u) aa
 unfold pM
 dsimp only
 by_cases k1:d.1=1
 .have eh:wW d=eM JB [32]::eM d.2.1.data.toList []::cG [40] []::(nN 0 d.2.2.1++[cG [41] [32]]):=if_pos k1
  have p:iC d.2.1=true:=by
   rcases h.kind with ⟨-,g⟩|⟨g,-⟩
   .exact g
   omega
  rw[eh] at s1 T a ⊢
  simp only[jB,jC,jD] at T a ⊢
  obtain⟨b,c,f⟩:=s1
  have n:(aA ts i).2.1=OQ:=rK (pA b)
  have o:(aA ts (i+1)).2.1=d.2.1:=rK (pA c)
  have ek:uF (aA ts i).2.1=1:=by rw[n];decide+kernel
  rw[if_neg (by rw[ek,xH (pA b)];show ¬((1:Int)≠1\/(1:Int)=0);decide),if_neg aa,ek,if_neg ac,IE c p]
  simp only[aQ]
  rw[o,if_neg (by rw[<-k1,e];exact kH),if_pos trivial,qUd h.names h.dup h.pars f aa]
  simp only
  rw[<-k1]
  have:=T (i+1+1+(1+(nN 0 d.2.2.1).length+1)) aa
  rw[show i+1+1+(1+(nN 0 d.2.2.1).length+1)+((sL d).length+1+1)=i+((nN 0 d.2.2.1).length+(0+1)+1+1+1+((sL d).length+(0+1)+1)) by omega] at this
  exact this
 have f:=h.nopars k1
 rcases h.kind with ⟨l,p⟩|⟨r,p⟩
 .have l:d.1=2:=l.resolve_left k1
  have eh:wW d=[eM OL [32],eM d.2.1.data.toList [32]]:=by unfold wW;rw[if_neg k1,if_pos l]
  rw[eh] at s1 T a ⊢
  simp only[jC,jD] at T a ⊢
  obtain⟨b,c,-⟩:=s1
  have n:(aA ts i).2.1=OS:=rK (pA b)
  have o:(aA ts (i+1)).2.1=d.2.1:=rK (pA c)
  have ek:uF (aA ts i).2.1=2:=by rw[n];decide+kernel
  rw[if_neg (by rw[ek,xH (pA b)];show ¬((1:Int)≠1\/(2:Int)=0);decide),if_neg aa,ek,if_neg ac,IE c p]
  simp only[aQ]
  rw[o,if_neg (by rw[<-l,e];exact kH),if_neg ac]
  simp only
  have:=T (i+1+1) aa
  rw[f,l,show i+1+1+((sL d).length+1+1)=i+(0+1+1+((sL d).length+(0+1)+1)) by omega] at this
  refine Eq.mp (congrArg (Res _ _) ?_) this
  rw[<-q,f,l]
 have eh:wW d=[eM PA [32],sW d.2.1.data.toList [32]]:=by unfold wW;rw[if_neg k1,if_neg aa]
 rw[eh] at s1 T a ⊢
 simp only[jC,jD] at T a ⊢
 obtain⟨b,c,-⟩:=s1
 have n:(aA ts i).2.1=OU:=rK (pA b)
 have o:(aA ts (i+1)).2.1=d.2.1:=rK (EO c)
 have ek:uF (aA ts i).2.1=3:=by rw[n];decide+kernel
 rw[if_neg (by rw[ek,xH (pA b)];show ¬((1:Int)≠1\/(3:Int)=0);decide),if_neg aa,ek,if_pos rfl,UC c p]
 simp only[aQ]
 rw[o,if_neg (by rw[<-r,e];exact kH),if_neg ac]
 simp only
 have:=T (i+1+1) aa
 rw[f,r,show i+1+1+((sL d).length+1+1)=i+(0+1+1+((sL d).length+(0+1)+1)) by omega] at this
 refine Eq.mp (congrArg (Res _ _) ?_) this
 rw[<-q,f,r]
theorem qIl:∀(ds before:List Dl) (n i:Nat),(∀d∈ds,OkD d)->before.length+ds.length<=64->pP (before.map pU) (ds.map pU)=false->mN ts i (mW (ds.flatMap pK)++[((5,⟨#[]⟩,0):oV)])->i+(ds.flatMap pK).length<ts.length->ds.length<n->
  Res (rX ts n before i) (∀d∈ds,vH d<=32) (before++ds)
 |_,_,0,_,_,_,_,_,_,h=>absurd h (kK _)
 |[],before,n+1,i,_,_,_,e,_,_=>by
  have s1:iV (aA ts i)=(5,⟨#[]⟩,0):=e.1
  unfold rX
  rw[if_pos (xH s1),jV]
  exact .pure (fun d s=>by cases s) rfl
 |d::ds,before,n+1,i,f,t,a,e,c,u=>by
  rw[kL] at e c
  rw[TR,jE,FA] at e
  obtain⟨s1,o⟩:=e
  have l:(mW (pK d)).length=(pK d).length:=gA ..
  rw[l] at o
  rw[jB] at c
  simp only[jC] at t u
  have b:(aA ts i).1≠5:=by
   have g:∃w r,pK d=eM w [32]::r:=by
    unfold pK wW
    split
    .exact⟨_,_,rfl⟩
    split
    .exact⟨_,_,rfl⟩
    exact⟨_,_,rfl⟩
   obtain⟨w,r,k⟩:=g
   rw[k] at s1
   rw[xH (pA s1.1)]
   show(1:Int)≠5
   decide
  have g:before.any (fun x=>x.1==d.1&&decide (x.2.1=d.2.1))=false:=by
   have:=II a (pU d) (jF ..)
   rw[fJ]
   intro x k
   simp only[jK,kI,j7]
   rintro⟨p,q⟩
   exact this (gL.2 ⟨x,k,Prod.ext p q⟩)
  rw[kF] at a
  unfold pP at a
  simp only[kV] at a
  have RA:=zCh (ts:=ts) (f d (jF ..)) (i:=i) (before:=before) aa g s1 aa
  have RB:=qIl ds (before++[d]) n (i+(pK d).length) (fun x k=>f x (jH _ k)) aj (by rw[gT];exact a.2) o aa aa
  unfold rX
  rw[if_neg b]
  refine RA.bind (fun _=> ?_) (g':=∀x∈ds,vH x<=32) ae
  rw[jE] at RB
  exact RB
theorem qGc{pkg:BA}:∀(r acc:List BA) (n i:Nat) (c:oV),(∀s∈r,iC s=true)->acc.length+r.length<=8->pP acc r=false->pkg∉r->mN ts i (mW (r.flatMap tG)++[c])->(c.1==1&&decide (c.2.1=CN))=false->r.length<n->
  qL ts pkg n acc i= .inr (i+(r.flatMap tG).length,acc++r)
 |_,_,0,_,_,_,_,_,_,_,_,h=>absurd h (kK _)
 |[],acc,n+1,i,c,_,_,_,_,b,d,_=>by
  have s1:iV (aA ts i)=c:=b.1
  unfold qL
  rw[tC s1,d,if_neg kH,jV]
  rfl
 |s::r,acc,n+1,i,c,k,q,a,l,b,d,t=>by
  rw[kL,TR,jE,FA] at b
  obtain⟨⟨s1,o,y,-⟩,z⟩:=b
  have p:(aA ts (i+1)).2.1=s:=rK (pA o)
  have e:=II a s (jF ..)
  unfold pP at a
  simp only[kV] at a
  simp only[jC] at q t
  have v:=qGc (pkg:=pkg) r (acc++[s]) n (i+1+1+1) c (fun x u=>k x (jH _ u)) aj a.2 (fun g=>l (jH _ g)) z d aa
  have f:bX ts 1 CN i=true:=by rw[tC (pA s1)];decide+kernel
  unfold qL
  rw[if_pos f,if_neg aa,IE o (k s (jF ..))]
  simp only[aQ]
  rw[p,if_neg (by
   rintro(g|g)
   .exact l (by rw[g];exact jF ..)
   exact e g),qM (s:=sSemi) y rfl]
  simp only
  rw[v,kL,jB,jE]
  show Sum.inr _=Sum.inr _
  rw[show i+1+1+1+(r.flatMap tG).length=i+((tG s).length+(r.flatMap tG).length) by show _=i+(3+_);omega]
  rfl
end
theorem qPo{ts:List bD}:∀(cs:List oV) (j:Nat),(∀n,∀a:n<cs.length,iV (aA ts (j+n))=cs[n])->mN ts j cs
 |[],_,_=>trivial
 |c::cs,j,h=>⟨h 0 ae,qPo cs (j+1) fun n a=>by
  have:=h (n+1) (by simpa using a)
  rw[show j+1+n=j+(n+1) by omega,this]
  rfl⟩
theorem qMp{ts:List bD}{cs:List oV}(h:ts.map iV=cs):mN ts 0 cs:=by
 subst h
 refine qPo _ 0 fun n a=> ?_
 have a:n<ts.length:=by simpa using a
 rw[kT,dY]
 unfold aA
 rw[jS,List.getElem?_eq_getElem a]
 rfl
theorem YU{α:Type}(g:α->List Pc)(k:Nat):∀(l:List α),(∀x∈l,k<=(g x).length)->k*l.length<=(l.flatMap g).length
 |[],_=>by simp
 |x::l,h=>by
  have b:=h x (jF ..)
  have c:=YU g k l fun y a=>h y (jH _ a)
  rw[kL,jB,jC,Nat.mul_add];omega
theorem qEn(d:Dl):∃w r,pK d=eM w [32]::r/\(w=JB\/w=OL\/w=PA):=by
 unfold pK wW
 split
 .exact⟨_,_,rfl,.inl rfl⟩
 split
 .exact⟨_,_,rfl,.inr (.inl rfl)⟩
 exact⟨_,_,rfl,.inr (.inr rfl)⟩
theorem qKi{ts:List bD}{f:Sr}(h:GoodS f)(o:mN ts 0 (mW (tD f)++[((5,⟨#[]⟩,0):oV)]))(e:(tD f).length<ts.length):Res (tH ts) (∀d∈f.2.2,vH d<=32) f:=by
 have g:=h.once
 unfold AP at g
 simp only[kV,decide_eq_false_iff_not] at g
 obtain⟨-,t1,t2,u⟩:=g
 unfold tD at o e
 obtain⟨s1,p,t,a⟩:=o
 have a:mN ts 3 (mW (f.2.1.flatMap tG++f.2.2.flatMap pK)++[((5,⟨#[]⟩,0):oV)]):=a
 rw[TR,jE] at a
 simp only[jC,jB] at e
 have q:(aA ts (0+1)).2.1=f.1:=rK (pA p)
 have li:=YU tG 1 f.2.1 fun s _=>by show 1<=3;decide
 have ld:=YU pK 1 f.2.2 fun d _=>by
  obtain⟨w,r,b,-⟩:=qEn d
  rw[b];simp
 have hi:∃c,mN ts 3 (mW (f.2.1.flatMap tG)++[c])/\(c.1==1&&decide (c.2.1=CN))=false:=by
  cases hd:f.2.2 with
  |nil=>
   rw[hd] at a
   exact⟨(5,⟨#[]⟩,0),a,rfl⟩
  |cons d ds=>
   rw[hd,kL] at a
   obtain⟨w,r,b,k⟩:=qEn d
   rw[b] at a
   rw[FA] at a
   refine⟨iZ (1,w),FA.2 ⟨a.1,a.2.1,trivial⟩,?_⟩
   rcases k with rfl|rfl|rfl<;>decide+kernel
 obtain⟨c,k,l⟩:=hi
 have b:=qGc (pkg:=f.1) f.2.1 [] (ts.length+1) 3 c h.imps (by simpa using h.impn) t2 t1 k l aa
 rw[jP] at b
 have n:(mW (f.2.1.flatMap tG)).length=(f.2.1.flatMap tG).length:=gA ..
 rw[FA,n] at a
 have RD:=qIl f.2.2 [] (ts.length+1) (3+(f.2.1.flatMap tG).length) (OE h) (by simpa using h.decn) u a.2 aa aa
 rw[jP] at RD
 unfold tH
 refine Res.stepR (YZ (s:=sPackage) s1 rfl) ?_
 refine Res.stepR (IE p h.pkg) ?_
 refine Res.stepR (qM (s:=sSemi) t rfl) ?_
 dsimp only
 rw[q]
 refine Res.stepR b ?_
 refine RD.bind (g':=True) (fun _=> .pure trivial rfl) ae
theorem NJ{N:Nat}{s:BA}(a:100<N):xO N s=some (iC s):=by
 simp only[xO,HP a,qQh a,j0]
 unfold iC
 cases iR s<;>rfl
def BM(k:Int):Int:=if k=3 then-1 else if k=4 then 2 else if k=5 then 3 else if k=6 then 1 else 0
def vO(x:Ex):Bool:=(x.1==3)||(qR x==BM x.1)
def wB(np:Int)(x:Ex):Bool:=
 if x.1=1 then decide (x.2.2.2.1=bZ)&&(x.2.2.1==0&&(decide (x.2.1>=-9007199254740992)&&decide (x.2.1<=9007199254740992)))
 else if x.1=2 then decide (x.2.2.2.1=bZ)&&(x.2.2.1==0&&(decide (x.2.1>=0)&&decide (x.2.1<np)))
 else if x.1=3 then x.2.1==0&&(x.2.2.1==0&&iC x.2.2.2.1)
 else if x.1=4 then x.2.1==0&&(decide (x.2.2.2.1=bZ)&&(decide (x.2.2.1>=1)&&decide (x.2.2.1<=7)))
 else if x.1=5 then x.2.1==0&&(decide (x.2.2.2.1=bZ)&&x.2.2.1==0)
 else if x.1=6 then x.2.1==0&&(x.2.2.1==0&&iF x.2.2.2.1.data.toList)
 else if x.1=7\/x.1=8 then x.2.1==0&&(x.2.2.1==0&&iF x.2.2.2.1.data.toList)
 else if x.1=9 then x.2.1==0&&(x.2.2.1==0&&iR x.2.2.2.1)
 else if x.1=10 then decide (x.2.2.2.1=bZ)&&(x.2.2.1==0&&(decide (x.2.1>=0)&&decide (x.2.1<64)))
 else false
theorem qXj(np:Int)(x:Ex):nX np x=(wB np x&&vO x):=by
 unfold nX wB vO BM
 by_cases h1:x.1=1
 .simp[h1];ac_rfl
 by_cases h2:x.1=2
 .simp[h2];ac_rfl
 by_cases h3:x.1=3
 .simp[h3]
 by_cases h4:x.1=4
 .simp[h4];ac_rfl
 by_cases h5:x.1=5
 .simp[h5];ac_rfl
 by_cases h6:x.1=6
 .simp[h6];ac_rfl
 by_cases h7:x.1=7
 .simp[h7];ac_rfl
 by_cases h8:x.1=8
 .simp[h8];ac_rfl
 by_cases h9:x.1=9
 .simp[h9];ac_rfl
 by_cases h10:x.1=10
 .simp[h10];ac_rfl
 simp[h1,h2,h3,h4,h5,h6,h7,h8,h9,h10]
theorem zBp{N:Nat}{np:Int}{x:Ex}(d:100<N):RY N x np=some (wB np x):=by
 simp only[RY,eqE,HQ (s:=x.2.2.2.1) d,HP (s:=x.2.2.2.1) d,NJ (s:=x.2.2.2.1) d,j0,zGz]
 unfold wB
 by_cases h1:x.1=1
 .by_cases a:x.2.2.2.1=bZ<;>by_cases b:x.2.2.1=0<;>simp[h1,a,b]
 by_cases h2:x.1=2
 .by_cases a:x.2.2.2.1=bZ<;>by_cases b:x.2.2.1=0<;>simp[h2,a,b]
 by_cases h3:x.1=3
 .by_cases a:x.2.1=0<;>by_cases b:x.2.2.1=0<;>simp[h3,a,b]
 by_cases h4:x.1=4
 .by_cases a:x.2.1=0<;>by_cases b:x.2.2.2.1=bZ<;>simp[h4,a,b]
 by_cases h5:x.1=5
 .by_cases a:x.2.1=0<;>by_cases b:x.2.2.2.1=bZ<;>by_cases c:x.2.2.1=0<;>simp[h5,a,b,c]
 by_cases h6:x.1=6
 .by_cases a:x.2.1=0<;>by_cases b:x.2.2.1=0<;>simp[h6,a,b]
 by_cases h7:x.1=7
 .by_cases a:x.2.1=0<;>by_cases b:x.2.2.1=0<;>simp[h7,a,b]
 by_cases h8:x.1=8
 .by_cases a:x.2.1=0<;>by_cases b:x.2.2.1=0<;>simp[h8,a,b]
 by_cases h9:x.1=9
 .by_cases a:x.2.1=0<;>by_cases b:x.2.2.1=0<;>simp[h9,a,b]
 by_cases h10:x.1=10
 .by_cases a:x.2.2.2.1=bZ<;>by_cases b:x.2.2.1=0<;>simp[h10,a,b]
 by_cases c:x.1<1
 .simp[h1,h2,h3,h4,h5,h6,h7,h8,h9,h10,c]
 have e:x.1>10:=by omega
 simp[h1,h2,h3,h4,h5,h6,h7,h8,h9,h10,c,e]
theorem zBh{N:Nat}(k:Int):SD N k=some (BM k):=by
 unfold SD BM
 by_cases h3:k=3
 .simp[h3]
 by_cases h4:k=4
 .simp[h4]
 by_cases h5:k=5
 .simp[h5]
 by_cases h6:k=6
 .simp[h6]
 simp[h3,h4,h5,h6]
theorem qPd{N m n:Nat}{st args:List Int}{x:Ex}{i:Int}(f:x.2.2.2.2=args)(p:args.length=n)(q:st.length=m+n)(l:st.length<4000000):∀(d k M:Nat),k+d=n->d<M->
  aB (KK N (st,i) x (n:Int)) M (k:Int)=some (if st.drop (m+k)=args.drop k then .inl () else .inr false)
 |_,_,0,_,h=>absurd h (kK _)
 |0,k,M+1,o,_=>by
  simp only[aB,KK]
  rw[if_neg ad,if_pos (by rw[jU aa,jU aa])]
  rfl
 |d+1,k,M+1,o,r=>by
  subst f
  have b:k<x.2.2.2.2.length:=by omega
  have a:m+k<st.length:=by omega
  have ew:IntKind.wrap .i64 ((k:Int)+1)=((k+1:Nat):Int):=by rw[bB aa aa];omega
  have e0:IntKind.wrap .i64 ((st.length:Int)-(n:Int))=(m:Int):=by rw[bB aa aa];omega
  have c:IntKind.wrap .i64 ((m:Int)+(k:Int))=((m+k:Nat):Int):=by rw[bB aa aa];omega
  simp only[aB,KK]
  rw[if_pos ad,cQ b,e0,c,cQ a]
  simp only[j0,ew]
  rw[uS b,uS a]
  by_cases e:x.2.2.2.2[k]=st[m+k]
  .rw[if_neg (by simpa using e)]
   simp only[j0]
   rw[qPd rfl p q l d (k+1) M aa aa,e]
   simp only[gK,true_and]
   rfl
  rw[if_pos (by simpa using e),if_neg (fun g=>e (List.cons.inj g).1.symm)]
  rfl
def DE(l:List Ex)(k:Nat)(st:List Int):Option (List Int):=if l.all vO then sR l k st else none
theorem qWw{N:Nat}{l:List Ex}(v:l.length<2000000)(s:∀x∈l,x.2.2.2.2.length<2000000)(u:3000000<N):RH N l=some (oneP (DE l 0 [])):=by
 have q:=sK (L:=l) (fun(t:List Int×Nat) (i:Nat)=>(t.1,(i:Int))) (f:=KN N l)
  (fun t x=>if vO x=true/\x.2.2.2.2.length<=t.1.length/\t.1.drop (t.1.length-x.2.2.2.2.length)=x.2.2.2.2 then .inl (t.1.take (t.1.length-x.2.2.2.2.length)++[(t.2:Int)],t.2+1) else .inr (.inr false)) (fun t=>(.inl t.1:List Int⊕Bool)) (fun i t=>t.2=i/\t.1.length<=i) (by
   rintro⟨st,k⟩ i hi ⟨rfl,d⟩
   simp only at d hi ⊢
   have p:=s _ (jM hi)
   simp only[KN]
   rw[if_pos ad,cQ hi]
   generalize l[k]=x at p
   simp only[j0,zBh]
   have ew:IntKind.wrap .i64 ((k:Int)+1)=((k+1:Nat):Int):=by rw[bB aa aa];omega
   have e0:IntKind.wrap .i64 ((st.length:Int)-(x.2.2.2.2.length:Int))=(st.length:Int)-(x.2.2.2.2.length:Int):=by
    rw[bB aa aa]
   by_cases a:vO x=true
   .have n:(if decide (BM x.1<0)then some (x.2.2.2.2.length:Int) else some (BM x.1):Option Int)=some (x.2.2.2.2.length:Int):=by
     unfold vO qR at a
     simp only[fM,kI] at a
     rcases a with a|a
     .rw[a];rfl
     rw[<-a,if_neg ae]
    rw[n]
    simp only[j0]
    rw[if_neg ae]
    simp only[j0]
    by_cases b:x.2.2.2.2.length<=st.length
    .rw[if_neg ad]
     have e:=qPd (N:=N) (m:=st.length-x.2.2.2.2.length) (st:=st) (x:=x) (i:=(k:Int)) rfl rfl aa aa x.2.2.2.2.length 0 N aa aa
     rw[show((0:Nat):Int)=0 from rfl,gY,kC] at e
     rw[e]
     simp only[j0]
     by_cases c:st.drop (st.length-x.2.2.2.2.length)=x.2.2.2.2
     .rw[if_pos c,if_pos ⟨a,b,c⟩]
      simp only
      rw[e0,MZ aa aa aa]
      simp only[j0,fU,kC]
      rw[show((st.length:Int)-(x.2.2.2.2.length:Int)).toNat=st.length-x.2.2.2.2.length by omega,mC (by simp only[kN,jC,jD];omega) aa]
      simp only[j0,ew]
     rw[if_neg c,if_neg (fun g=>c g.2.2)]
    rw[if_pos ad,if_neg (fun g=>b g.2.1)]
   .have e:¬(vO x=true/\x.2.2.2.2.length<=st.length/\st.drop (st.length-x.2.2.2.2.length)=x.2.2.2.2):=fun g=>a g.1
    rw[if_neg e]
    have n:x.1≠3:=fun g=>a (by unfold vO;rw[g];rfl)
    have o:¬BM x.1<0:=by
     unfold BM
     rw[if_neg n]
     split
     .decide
     split
     .decide
     split<;>decide
    have c:(x.2.2.2.2.length:Int)≠BM x.1:=fun g=>a (by unfold vO qR;rw[g,fF,Bool.or_true])
    rw[if_neg (by simpa using o)]
    simp only[j0]
    rw[if_pos (by simpa using c)]
    rfl) (by
   rintro⟨st,k⟩ i hi t' ⟨rfl,d⟩ h
   simp only at d h
   split at h
   .rename_i g
    obtain rfl:=(Sum.inl.inj h).symm
    refine⟨rfl,?_⟩
    simp only[jB,kN,jC,jD]
    omega
   .cases h) (by
   rintro⟨st,k⟩ ⟨rfl,d⟩
   simp only[KN]
   rw[if_neg ae]) (M:=N) (t:=([],0)) aa ⟨rfl,jN _⟩
 unfold RH
 rw[show((([]:List Int),(0:Int)))=((([]:List Int),0).1,(((0:Nat)):Int)) from rfl]
 rw[q]
 have key:∀(l:List Ex) (st:List Int) (k:Nat),run (fun(t:List Int×Nat) (x:Ex)=>if vO x=true/\x.2.2.2.2.length<=t.1.length/\t.1.drop (t.1.length-x.2.2.2.2.length)=x.2.2.2.2 then(.inl (t.1.take (t.1.length-x.2.2.2.2.length)++[(t.2:Int)],t.2+1):(List Int×Nat)⊕(List Int⊕Bool)) else .inr (.inr false)) (fun t=>(.inl t.1:List Int⊕Bool)) l (st,k)=match DE l k st with
   |some r=> .inl r
   |none=> .inr false:=by
  intro l
  induction l with
  |nil=>intro st k;rfl
  |cons x l c=>
   intro st k
   simp only[run]
   unfold DE at c ⊢
   rw[List.all_cons]
   by_cases a:vO x=true
   .rw[a,fH]
    by_cases b:x.2.2.2.2.length<=st.length/\st.drop (st.length-x.2.2.2.2.length)=x.2.2.2.2
    .rw[if_pos ⟨rfl,b⟩]
     simp only
     rw[c]
     simp only[sR]
     rw[if_pos b]
    rw[if_neg (fun g=>b g.2)]
    simp only[sR]
    rw[if_neg b,ite_self]
   rw[if_neg (fun g=>a g.1),show vO x=false by simpa using a,Bool.false_and]
   rfl
 rw[key]
 cases DE l 0 [] with
 |none=>rfl
 |some r=>
  simp only[j0]
  congr 1
  match r with
  |[]=>rfl
  |[_]=>rfl
  |_::_::r=>
   show(((r.length+1+1:Nat):Int)==1)=false
   rw[beq_eq_false_iff_ne];omega
mutual
theorem qIs(t:Rose)(d:Nat):t.deepen (d+1)=t.deepen d+1:=by
 match t with
 | .mk h ks=>
  simp only[Rose.deepen]
  by_cases h4:h.1=4
  .rw[if_pos h4,if_pos h4]
   by_cases hk:ks=[]
   .rw[hk];simp[tX]
   rw[XM ks d hk];omega
  rw[if_neg h4,if_neg h4]
  by_cases hk:ks=[]
  .rw[hk];simp[tX]
  rw[XM ks (d+1) hk];omega
theorem XM(l:List Rose)(d:Nat)(a:l≠[]):tX (d+1) l=tX d l+1:=by
 match l with
 |[]=>exact absurd rfl a
 |t::l=>
  have b:=qIs t d
  simp only[tX]
  by_cases hk:l=[]
  .rw[hk];simp only[tX];omega
  rw[XM l d hk];omega
end
theorem qYz{d:Nat}:∀(n:Nat) (t:Rose),t.size<=n->t.deepen d<=d+t.size/\d<=t.deepen d:=by
 intro n
 induction n generalizing d with
 |zero=>intro t h;have:=t.pos;omega
 |succ n k=>
  intro t g
  match t with
  | .mk h ks=>
   have key:∀(e:Nat) (l:List Rose),cM l<=n->tX e l<=e+cM l:=by
    intro e l
    induction l with
    |nil=>intro _;exact jW _
    |cons u l c=>
     intro f
     have o:=u.pos
     simp only[cM] at f
     have a:=(k (d:=e) u aa).1
     have b:=c aa
     simp only[tX,cM];omega
   simp only[Rose.size] at g ⊢
   simp only[Rose.deepen]
   by_cases h4:h.1=4
   .have:=key d ks aa
    rw[if_pos h4];omega
   have:=key (d+1) ks aa
   rw[if_neg h4];omega
theorem qMj{N D:Nat}{l:List Ex}{x:Ex}{i:Nat}(r:l[i]? =some x)(s:x.2.2.2.2.length<2000000):∀(ks:List Rose) (k b M m:Nat),(∀t∈ks,∀b,AtT l b t->DZ N D l ((b+t.size-1:Nat):Int)=some ((t.deepen 1:Nat):Int))->x.2.2.2.2.drop k=eO b ks->k<=x.2.2.2.2.length->AtTs l b ks->cM ks<=300->ks.length<M->
  aB (LF N (DZ N D) l (i:Int) x) M ((m:Int),(k:Int))=some ((max m (tX (if x.1=4 then 1 else 2) ks):Nat):Int)
 |_,_,_,0,_,_,_,_,_,_,h=>absurd h (kK _)
 |[],k,b,M+1,m,_,a,z,_,_,_=>by
  have F:k=x.2.2.2.2.length:=by
   have:=congrArg List.length a
   rw[gF] at this
   simp only[eO,jD] at this
   omega
  simp only[aB,LF]
  rw[if_neg ad]
  simp only[j0,tX,Nat.max_zero]
 |t::ks,k,b,M+1,m,e,a,z,n,q,y=>by
  have A:=t.pos
  simp only[cM] at q
  have c:k<x.2.2.2.2.length:=by
   by_cases hh:k<x.2.2.2.2.length
   .exact hh
   rw[jU aa] at a;cases a
  rw[uS c] at a
  obtain⟨o,p⟩:=List.cons.inj a
  obtain⟨f,g⟩:=n.head
  have E:=(qYz (d:=1) t.size t (jN _)).1
  have ew:IntKind.wrap .i64 ((k:Int)+1)=((k+1:Nat):Int):=by rw[bB aa aa];omega
  have ed:IntKind.wrap .i64 (((t.deepen 1:Nat):Int)+1)=((t.deepen 2:Nat):Int):=by
   have:=qIs t 1
   rw[bB aa aa,show t.deepen 2=t.deepen 1+1 from this];omega
  simp only[aB,LF]
  rw[if_pos ad,cQ c,o]
  simp only[j0]
  rw[e t (jF ..) b f,yA r]
  simp only[j0,ed,ew]
  have v:(if(x.1 !=4)then some ((t.deepen 2:Nat):Int) else some ((t.deepen 1:Nat):Int):Option Int)=some ((t.deepen (if x.1=4 then 1 else 2):Nat):Int):=by
   by_cases h4:x.1=4
   .rw[if_neg (by simp[h4]),if_pos h4]
   rw[if_pos (by simpa using h4),if_neg h4]
  rw[v]
  simp only[j0,zGx]
  rw[qMj r s ks (k+1) (b+t.size) M _ (fun u B=>e u (jH _ B)) p aa g aa (by simp only[jC] at y;omega)]
  simp only[tX,Nat.max_assoc]
theorem qNd{N:Nat}{l:List Ex}(o:∀x∈l,x.2.2.2.2.length<2000000)(q:3000000<N):∀(n:Nat) (t:Rose) (b D:Nat),t.size<=n->n<=300->n<=D->AtT l b t->DZ N D l ((b+t.size-1:Nat):Int)=some ((t.deepen 1:Nat):Int)
 |0,t,_,_,h,_,_,_=>by have:=t.pos;omega
 |n+1,.mk h ks,b,D,f,v,s,e=>by
  simp only[Rose.size] at f ⊢
  obtain⟨D,rfl⟩:∃D',D=D'+1:=⟨D-1,by omega⟩
  rw[show b+(cM ks+1)-1=b+cM ks by omega]
  obtain⟨d,c⟩:=e.args
  have g:=o _ (dJ d)
  have p:=WT ks
  have k:∀t∈ks,t.size<=cM ks:=by
   intro t a
   clear c d g p f e
   induction ks with
   |nil=>cases a
   |cons u l r=>
    simp only[cM]
    rcases jJ.1 a with rfl|a
    .omega
    have:=r a;omega
  have r:=qMj (N:=N) (D:=D) d g ks 0 b N 1 (fun t a b' hat'=>qNd o q n t b' D (by have:=k t a;omega) aa aa hat') (by rw[kC];rfl) (jW _) c aa aa
  show RR N (DZ N D) l _=_
  unfold RR
  rw[yA d]
  simp only[j0]
  rw[show((1:Int),(0:Int))=(((1:Nat):Int),((0:Nat):Int)) from rfl,r]
  simp only[j0,Rose.deepen]
  rfl
theorem zDv{N:Nat}{l:List Ex}(f:oneP (sR l 0 [])=true)(h:l.length<=256)(e:∀x∈l,x.2.2.2.2.length<2000000)(d:3000000<N):∃v:Int,SF N l (IntKind.wrap .i64 ((l.length:Int)-1))=some v/\(decide (v>32))=IW l:=by
 obtain⟨t,c,a⟩:=ZC f
 have g:t.size=l.length:=by
  have:=lP t 0
  rw[<-a] at this;exact this.symm
 have k:=t.pos
 have b:AtT l 0 t:=by
  have:=AtT.whole t
  rw[<-a] at this;exact this
 refine⟨((t.deepen 1:Nat):Int),?_,?_⟩
 .unfold SF
  have:=qNd e d t.size t 0 N (jN _) aa aa b
  rw[bB aa aa,show(l.length:Int)-1=((0+t.size-1:Nat):Int) by omega]
  exact this
 unfold IW
 rw[c]
 simp only
 congr 1
 rw[eq_iff_iff];omega
def SmE(d:Dl):Prop:=d.2.2.1.length<2000000/\d.2.2.2.length<2000000/\∀x∈d.2.2.2,x.2.2.2.2.length<2000000
def BO(f:Sr):Prop:=f.2.1.length<2000000/\f.2.2.length<2000000/\∀d∈f.2.2,SmE d
theorem SmSr.r{f:Sr}(h:SmSr f):BO f:=⟨h.1,h.2.1,fun d a=>⟨(h.2.2 d a).2.1,(h.2.2 d a).2.2.1,fun x b=>((h.2.2 d a).2.2.2 x b).2⟩⟩
theorem zIk{N:Nat}{f:Sr}(a:BO f)(d:3000000<N):aB (GT N f) N 0=some (if f.2.1.all iC then .inl () else .inr 9):=by
 obtain⟨c,-,-⟩:=a
 have h:=sK (L:=f.2.1) (fun(_:Unit) (i:Nat)=>(i:Int)) (f:=GT N f)
  (fun _ s=>if(!iC s)then .inr (.inr 9) else .inl ()) (fun _=>(.inl ():Unit⊕Int)) (fun _ _=>True) (by
   intro t i hi _
   simp only[GT]
   rw[if_pos ad,cQ hi]
   have ew:IntKind.wrap .i64 ((i:Int)+1)=((i+1:Nat):Int):=by rw[bB aa aa];omega
   simp only[j0,NJ (s:=f.2.1[i]) (show 100<N by omega),ew]
   cases iC f.2.1[i]<;>rfl) (fun _ _ _ _ _ _=>trivial) (by
   intro t _
   simp only[GT]
   rw[if_neg ae]) (M:=N) (t:=()) aa trivial
 rw[show((0:Nat):Int)=0 from rfl] at h
 rw[h,IN (b:=(.inr 9:Unit⊕Int)) (fun s=> !iC s) (fun x=>rfl),fZ]
 cases(f.2.1.any fun s=> !iC s)<;>rfl
theorem zHt{N:Nat}{d:Dl}(a:SmE d)(e:3000000<N):aB (GV N d) N 0=some (if d.2.2.1.all iC then .inl () else .inr 9):=by
 obtain⟨c,-,-⟩:=a
 have h:=sK (L:=d.2.2.1) (fun(_:Unit) (i:Nat)=>(i:Int)) (f:=GV N d)
  (fun _ s=>if(!iC s)then .inr (.inr 9) else .inl ()) (fun _=>(.inl ():Unit⊕Int)) (fun _ _=>True) (by
   intro t i hi _
   simp only[GV]
   rw[if_pos ad,cQ hi]
   have ew:IntKind.wrap .i64 ((i:Int)+1)=((i+1:Nat):Int):=by rw[bB aa aa];omega
   simp only[j0,NJ (s:=d.2.2.1[i]) (show 100<N by omega),ew]
   cases iC d.2.2.1[i]<;>rfl) (fun _ _ _ _ _ _=>trivial) (by
   intro t _
   simp only[GV]
   rw[if_neg ae]) (M:=N) (t:=()) aa trivial
 rw[show((0:Nat):Int)=0 from rfl] at h
 rw[h,IN (b:=(.inr 9:Unit⊕Int)) (fun s=> !iC s) (fun x=>rfl),fZ]
 cases(d.2.2.1.any fun s=> !iC s)<;>rfl
theorem zIl{N:Nat}{d:Dl}(a:SmE d)(e:3000000<N):aB (GR N d) N 0=some (if d.2.2.2.all (wB (d.2.2.1.length:Int))then .inl () else .inr 9):=by
 obtain⟨-,c,-⟩:=a
 have h:=sK (L:=d.2.2.2) (fun(_:Unit) (i:Nat)=>(i:Int)) (f:=GR N d)
  (fun _ x=>if(!wB (d.2.2.1.length:Int) x)then .inr (.inr 9) else .inl ()) (fun _=>(.inl ():Unit⊕Int)) (fun _ _=>True) (by
   intro t i hi _
   simp only[GR]
   rw[if_pos ad,cQ hi]
   have ew:IntKind.wrap .i64 ((i:Int)+1)=((i+1:Nat):Int):=by rw[bB aa aa];omega
   simp only[j0,zBp (x:=d.2.2.2[i]) (np:=(d.2.2.1.length:Int)) (show 100<N by omega),ew]
   cases wB (d.2.2.1.length:Int) d.2.2.2[i]<;>rfl) (fun _ _ _ _ _ _=>trivial) (by
   intro t _
   simp only[GR]
   rw[if_neg ae]) (M:=N) (t:=()) aa trivial
 rw[show((0:Nat):Int)=0 from rfl] at h
 rw[h,IN (b:=(.inr 9:Unit⊕Int)) (fun x=> !wB (d.2.2.1.length:Int) x) (fun x=>rfl),fZ]
 cases(d.2.2.2.any fun x=> !wB (d.2.2.1.length:Int) x)<;>rfl
def OO(d:Dl):Bool:=(d.1==1||(d.2.2.1.isEmpty&&(d.1==2||d.1==3)))&&(if d.1=3 then iF d.2.1.data.toList else iC d.2.1)
theorem qTq(d:Dl):vW d=(OO d&&(d.2.2.1.all iC&&(d.2.2.2.all (wB (d.2.2.1.length:Int))&&oneP (DE d.2.2.2 0 [])))):=by
 have f:OM d=(d.2.2.2.all (wB (d.2.2.1.length:Int))&&oneP (DE d.2.2.2 0 [])):=by
  unfold OM DE
  have e:d.2.2.2.all (nX (d.2.2.1.length:Int))=(d.2.2.2.all (wB (d.2.2.1.length:Int))&&d.2.2.2.all vO):=by
   rw[kP]
   simp only[jZ,jK,qXj]
   exact⟨fun h=>⟨fun x b=>(h x b).1,fun x b=>(h x b).2⟩,fun h x b=>⟨h.1 x b,h.2 x b⟩⟩
  rw[e]
  cases d.2.2.2.all vO with
  |true=>simp
  |false=>simp[oneP]
 unfold vW
 rw[f]
 unfold CT VA OO
 by_cases k1:d.1=1
 .simp[k1]
 by_cases b:d.1=2
 .cases hp:d.2.2.1 with
  |nil=>simp[b]
  |cons a l=>simp[b]
 by_cases c:d.1=3
 .cases hp:d.2.2.1 with
  |nil=>simp[c]
  |cons a l=>simp[c]
 simp[k1,b,c]
theorem zHv{N:Nat}{f:Sr}(q:BO f)(k:3000000<N):aB (GY N f) N 0=some (if f.2.2.all vW then .inl () else .inr 9):=by
 obtain⟨-,v,p⟩:=q
 have h:=sK (L:=f.2.2) (fun(_:Unit) (i:Nat)=>(i:Int)) (f:=GY N f)
  (fun _ d=>if(!vW d)then .inr (.inr 9) else .inl ()) (fun _=>(.inl ():Unit⊕Int)) (fun _ _=>True) (by
   intro t i hi _
   have c:=p _ (jM hi)
   obtain⟨-,n,o⟩:=id c
   simp only[GY]
   rw[if_pos ad,cQ hi]
   generalize f.2.2[i]=d at c n o
   have ew:IntKind.wrap .i64 ((i:Int)+1)=((i+1:Nat):Int):=by rw[bB aa aa];omega
   simp only[j0,NJ (s:=d.2.1) (show 100<N by omega),HQ (s:=d.2.1) (show 100<N by omega),zHt c k,zIl c k,qWw n o k,ew]
   rw[qTq]
   have r:(if decide (d.1<1)then some true else if decide (d.1>3)then some true else if(d.1 !=1)then(if decide ((d.2.2.1.length:Int)>0)then some true else if(d.1==3)then(if(!iF d.2.1.data.toList)then some true else if(d.1 !=3)then some (!iC d.2.1) else some false) else if(d.1 !=3)then some (!iC d.2.1) else some false) else if(d.1==3)then(if(!iF d.2.1.data.toList)then some true else if(d.1 !=3)then some (!iC d.2.1) else some false) else if(d.1 !=3)then some (!iC d.2.1) else some false:Option Bool)=some (!OO d):=by
    unfold OO
    by_cases k1:d.1=1
    .simp[k1]
    by_cases e:d.1=2
    .cases hp:d.2.2.1 with
     |nil=>simp[e]
     |cons a l=>simp[e]
    by_cases g:d.1=3
    .cases hp:d.2.2.1 with
     |nil=>simp[g];cases iF d.2.1.data.toList<;>rfl
     |cons a l=>simp[g]
    by_cases k4:d.1<1
    .simp[k1,e,g,k4]
    have u:d.1>3:=by omega
    simp[k1,e,g,k4,u]
   refine Eq.trans (congrArg (fun z=>Option.bind z _) r) ?_
   simp only[j0]
   cases OO d with
   |false=>rfl
   |true=>
    rw[if_neg ac,fH]
    cases d.2.2.1.all iC with
    |false=>rfl
    |true=>
     rw[if_pos rfl,fH]
     simp only
     cases d.2.2.2.all (wB (d.2.2.1.length:Int)) with
     |false=>rfl
     |true=>
      rw[if_pos rfl,fH]
      simp only
      cases oneP (DE d.2.2.2 0 [])<;>rfl) (fun _ _ _ _ _ _=>trivial) (by
   intro t _
   simp only[GY]
   rw[if_neg ae]) (M:=N) (t:=()) aa trivial
 rw[show((0:Nat):Int)=0 from rfl] at h
 rw[h,IN (b:=(.inr 9:Unit⊕Int)) (fun d=> !vW d) (fun x=>rfl),fZ]
 cases(f.2.2.any fun d=> !vW d)<;>rfl
theorem zHg{N:Nat}{f:Sr}(b:BO f)(e:3000000<N):aB (GU N f) N 0=some (if(decide (f.1∈f.2.1)||nZ f.2.1)then .inr 10 else .inl ()):=by
 obtain⟨d,-,-⟩:=b
 have h:=sK (L:=f.2.1) (fun(_:List BA) (i:Nat)=>(i:Int)) (f:=GU N f)
  (fun t s=>if(decide (s=f.1)||decide (s∈t))then .inr (.inr 10) else .inl (t++[s])) (fun _=>(.inl ():Unit⊕Int)) (fun i t=>t=f.2.1.take i) (by
   rintro t i hi rfl
   simp only[GU]
   rw[if_pos ad,cQ hi]
   have ew:IntKind.wrap .i64 ((i:Int)+1)=((i+1:Nat):Int):=by rw[bB aa aa];omega
   simp only[j0]
   rw[MZ aa aa aa]
   simp only[j0,jQ,fU,kC,oZ,ew]
   rw[OZ (by rw[kN];omega) (by rw[kN];omega)]
   simp only[j0]
   cases decide (f.2.1[i]=f.1)<;>cases decide (f.2.1[i]∈f.2.1.take i)<;>rfl) (by
   rintro t i hi t' rfl a
   split at a
   .cases a
   .obtain rfl:=(Sum.inl.inj a).symm
    rw[TK hi]) (by
   intro t _
   simp only[GU]
   rw[if_neg ae]) (M:=N) (t:=[]) aa ae
 rw[show((0:Nat):Int)=0 from rfl] at h
 rw[h]
 congr 1
 have key:∀(l t:List BA),run (fun t s=>if(decide (s=f.1)||decide (s∈t))then(.inr (.inr 10):List BA⊕(Unit⊕Int)) else .inl (t++[s])) (fun _=>(.inl ():Unit⊕Int)) l t=if(decide (f.1∈l)||pP t l)then .inr 10 else .inl ():=by
  intro l
  induction l with
  |nil=>intro t;rfl
  |cons s l c=>
   intro t
   simp only[run,pP,jJ]
   by_cases e1:s=f.1
   .simp[e1]
   by_cases e2:s∈t
   .simp[e2]
   rw[jX e1,jX e2]
   simp only[Bool.or_self,jA,jG,gX]
   rw[c]
   have a:decide (f.1=s\/f.1∈l)=decide (f.1∈l):=by
    rw[decide_eq_decide]
    exact⟨fun h=>h.resolve_left (fun g=>e1 g.symm),.inr⟩
   rw[a]
 exact key _ _
theorem zIt{N:Nat}{d:Dl}(b:SmE d)(e:3000000<N):aB (GW N d) N 0=some (if nZ d.2.2.1 then .inr 10 else .inl ()):=by
 obtain⟨c,-,-⟩:=b
 have h:=sK (L:=d.2.2.1) (fun(_:List BA) (i:Nat)=>(i:Int)) (f:=GW N d)
  (fun t s=>if decide (s∈t)then .inr (.inr 10) else .inl (t++[s])) (fun _=>(.inl ():Unit⊕Int)) (fun i t=>t=d.2.2.1.take i) (by
   rintro t i hi rfl
   simp only[GW]
   rw[if_pos ad,cQ hi]
   have ew:IntKind.wrap .i64 ((i:Int)+1)=((i+1:Nat):Int):=by rw[bB aa aa];omega
   simp only[j0]
   rw[MZ aa aa aa]
   simp only[j0,jQ,fU,kC,ew]
   rw[OZ (by rw[kN];omega) (by rw[kN];omega)]
   simp only[j0]
   cases decide (d.2.2.1[i]∈d.2.2.1.take i)<;>rfl) (by
   rintro t i hi t' rfl a
   split at a
   .cases a
   .obtain rfl:=(Sum.inl.inj a).symm
    rw[TK hi]) (by
   intro t _
   simp only[GW]
   rw[if_neg ae]) (M:=N) (t:=[]) aa ae
 rw[show((0:Nat):Int)=0 from rfl] at h
 rw[h]
 congr 1
 have key:∀(l t:List BA),run (fun t s=>if decide (s∈t)then(.inr (.inr 10):List BA⊕(Unit⊕Int)) else .inl (t++[s])) (fun _=>(.inl ():Unit⊕Int)) l t=if pP t l then .inr 10 else .inl ():=by
  intro l
  induction l with
  |nil=>intro t;rfl
  |cons s l a=>
   intro t
   simp only[run]
   rw[show pP t (s::l)=(decide (s∈t)||pP (t++[s]) l) from rfl]
   by_cases e2:s∈t
   .simp[e2]
   rw[jX e2]
   simp only[jA,jG,gX]
   rw[a]
 exact key _ _
theorem qXa(l:List Dl)(d:Dl):(l.any fun x=>x.1==d.1&&decide (x.2.1=d.2.1))=decide (pU d∈l.map pU):=by
 rw[kP]
 simp only[fG,jK,kI,j7,gL]
 constructor
 .rintro⟨x,a,b,c⟩
  exact⟨x,a,Prod.ext b c⟩
 rintro⟨x,a,h⟩
 exact⟨x,a,congrArg (fun z:KA=>z.1) h,congrArg (fun z:KA=>z.2) h⟩
theorem zHj{N:Nat}{f:Sr}(g:BO f)(c:3000000<N):aB (GX N f) N 0=some (if(nZ (f.2.2.map pU)||f.2.2.any (fun d=>nZ d.2.2.1))then .inr 10 else .inl ()):=by
 obtain⟨-,k,b⟩:=g
 have h:=sK (L:=f.2.2) (fun(_:List Dl) (i:Nat)=>(i:Int)) (f:=GX N f)
  (fun t d=>if(decide (pU d∈t.map pU)||nZ d.2.2.1)then .inr (.inr 10) else .inl (t++[d])) (fun _=>(.inl ():Unit⊕Int)) (fun i t=>t=f.2.2.take i) (by
   rintro t i hi rfl
   have e:=b _ (jM hi)
   simp only[GX]
   rw[if_pos ad,cQ hi]
   have ew:IntKind.wrap .i64 ((i:Int)+1)=((i+1:Nat):Int):=by rw[bB aa aa];omega
   simp only[j0]
   rw[MZ aa aa aa]
   simp only[j0,jQ,fU,kC,ew]
   rw[qOn (by show(f.2.2.take i).length<_;rw[kN];omega) (by show(f.2.2.take i).length<_;rw[kN];omega)]
   simp only[j0]
   rw[show((((⟨#[]⟩:BA),([]:List BA),f.2.2.take i):Sr).2.2.any fun x=>x.1==f.2.2[i].1&&decide (x.2.1=f.2.2[i].2.1))=_ from qXa (f.2.2.take i) f.2.2[i],zIt e c]
   cases decide (pU f.2.2[i]∈(f.2.2.take i).map pU)<;>cases nZ f.2.2[i].2.2.1<;>rfl) (by
   rintro t i hi t' rfl a
   split at a
   .cases a
   .obtain rfl:=(Sum.inl.inj a).symm
    rw[TK hi]) (by
   intro t _
   simp only[GX]
   rw[if_neg ae]) (M:=N) (t:=[]) aa ae
 rw[show((0:Nat):Int)=0 from rfl] at h
 rw[h]
 congr 1
 have key:∀(l t:List Dl),run (fun t d=>if(decide (pU d∈t.map pU)||nZ d.2.2.1)then(.inr (.inr 10):List Dl⊕(Unit⊕Int)) else .inl (t++[d])) (fun _=>(.inl ():Unit⊕Int)) l t=if(pP (t.map pU) (l.map pU)||l.any (fun d=>nZ d.2.2.1))then .inr 10 else .inl ():=by
  intro l
  induction l with
  |nil=>intro t;rfl
  |cons d l a=>
   intro t
   simp only[run,kF,pP,dI]
   by_cases e1:pU d∈t.map pU
   .simp[e1]
   rw[jX e1]
   cases e2:nZ d.2.2.1 with
   |true=>simp
   |false=>
    simp only[Bool.or_self,jA,jG,gX]
    rw[a,gT,List.map_singleton]
 exact key _ _
theorem zId{N:Nat}{f:Sr}(n:BO f)(o:f.2.2.all vW=true)(l:3000000<N):aB (GS N f) N 0=some (if f.2.2.any AY then .inr 2 else .inl ()):=by
 obtain⟨-,s,k⟩:=n
 have h:=sK (L:=f.2.2) (fun(_:Unit) (i:Nat)=>(i:Int)) (f:=GS N f)
  (fun _ d=>if AY d then .inr (.inr 2) else .inl ()) (fun _=>(.inl ():Unit⊕Int)) (fun _ _=>True) (by
   intro t i hi _
   obtain⟨p,q,e⟩:=k _ (jM hi)
   have c:=(qLf (jZ.1 o _ (jM hi))).tree
   simp only[GS]
   rw[if_pos ad,cQ hi]
   generalize f.2.2[i]=d at p q e c
   have ew:IntKind.wrap .i64 ((i:Int)+1)=((i+1:Nat):Int):=by rw[bB aa aa];omega
   have g:decide ((d.2.2.1.length:Int)>8)=decide (8<d.2.2.1.length):=by congr 1;rw[eq_iff_iff];omega
   have a:decide ((d.2.2.2.length:Int)>256)=decide (256<d.2.2.2.length):=by congr 1;rw[eq_iff_iff];omega
   simp only[j0,g,a,ew]
   unfold AY
   cases c8:decide (8<d.2.2.1.length) with
   |true=>rfl
   |false=>
    simp only[jA,jG,gX]
    cases c256:decide (256<d.2.2.2.length) with
    |true=>rfl
    |false=>
     have u:=of_decide_eq_false c256
     obtain⟨v,r,v2⟩:=zDv c aa e l
     simp only[jA,jG,gX,r,j0,v2]
     cases IW d.2.2.2<;>rfl) (fun _ _ _ _ _ _=>trivial) (by
   intro t _
   simp only[GS]
   rw[if_neg ae]) (M:=N) (t:=()) aa trivial
 rw[show((0:Nat):Int)=0 from rfl] at h
 rw[h,IN (b:=(.inr 2:Unit⊕Int)) AY (fun x=>rfl)]
theorem qIe{N:Nat}{f:Sr}(b:BO f)(a:3000000<N):LT N f=some (zD f):=by
 unfold LT zD OY
 rw[NJ aa,zIk b a,zHv b a,zHg b a,zHj b a]
 simp only[j0]
 cases iC f.1 with
 |false=>rfl
 |true=>
  rw[if_neg ac,fH]
  cases f.2.1.all iC with
  |false=>rfl
  |true=>
   rw[if_pos rfl,fH]
   simp only
   cases hs:f.2.2.all vW with
   |false=>rfl
   |true=>
    rw[if_pos rfl,if_pos rfl,zId b hs a]
    simp only
    unfold AP IY
    have e:decide ((f.2.1.length:Int)>8)=decide (8<f.2.1.length):=by congr 1;rw[eq_iff_iff];omega
    have c:decide ((f.2.2.length:Int)>64)=decide (64<f.2.2.length):=by congr 1;rw[eq_iff_iff];omega
    rw[e,c]
    cases decide (f.1∈f.2.1)<;>cases nZ f.2.1<;>cases nZ (f.2.2.map pU)<;>cases f.2.2.any (fun d=>nZ d.2.2.1)<;>(try rfl)
    cases decide (8<f.2.1.length)<;>cases decide (64<f.2.2.length)<;>cases f.2.2.any AY<;>rfl
theorem UX{N:Nat}:∀(D k n:Nat),n<10^(k+1)->n<10000000000000000->k<D->KZ N D (n:Int)=some (rN (n:Int))
 |0,_,_,_,_,h=>absurd h (kK _)
 |D+1,k,n,h,e,d=>by
  show QZ N (KZ N D) (n:Int)=_
  unfold QZ
  by_cases h10:n<10
  .have c:ByteArray.size (⟨#[48,49,50,51,52,53,54,55,56,57]⟩:BA)=10:=rfl
   rw[if_pos ad,FS aa aa,MT aa aa aa]
   simp only[j0,jQ]
   rw[show((n:Int)+1).toNat=n+1 by omega]
   congr 1
   refine xA ?_
   rw[CJ,Lib.decDigits_one h10]
   exact zDf ⟨n,h10⟩
  rw[if_neg ad]
  obtain⟨k,rfl⟩:∃k',k=k'+1:=by
   cases k with
   |zero=>simp at h;omega
   |succ k=>exact⟨k,rfl⟩
  rw[hZ] at h
  have a:IntKind.wrap .u64 (Int.tdiv (n:Int) 10)=((n/10:Nat):Int):=by
   rw[show(10:Int)=((10:Nat):Int) from rfl,<-Int.ofNat_tdiv,FS aa aa]
  have b:Int.tmod (n:Int) 10=((n%10:Nat):Int):=by
   rw[show(10:Int)=((10:Nat):Int) from rfl,<-Int.ofNat_tmod]
  rw[a,b,UX D k (n/10) aa aa aa,UX D 0 (n%10) aa aa aa]
  simp only[j0]
  have f:=FB 15 (n/10) aa
  have g:=FB 15 (n%10) aa
  have s1:(rN ((n/10:Nat):Int)).size=(Lib.decDigits (n/10)).length:=by rw[<-CJ,lM]
  have l:(rN ((n%10:Nat):Int)).size=(Lib.decDigits (n%10)).length:=by rw[<-CJ,lM]
  rw[lA aa]
  simp only[j0]
  congr 1
  refine xA ?_
  rw[pI,CJ,CJ,CJ,TQ h10,Lib.decDigits_one (show n%10<10 by omega)]
theorem XO{N:Nat}{n:Int}(a: -9007199254740992<=n)(b:n<=9007199254740992)(c:100<N):EA N n=some (rN n):=by
 unfold EA RV
 by_cases h:n<0
 .rw[if_pos (by simpa using h),bB (show-9223372036854775808<=n+1 by omega) aa,bB aa aa,FS (show 0<=0-(n+1) by omega) aa,FS aa aa]
  obtain⟨m,rfl⟩:∃m:Nat,n= -(m:Int):=⟨n.natAbs,by omega⟩
  rw[show(0-(-(m:Int)+1)+1)=(m:Int) by omega,UX N 15 m aa aa aa]
  have d:=FB 15 m aa
  have s1:(rN (m:Int)).size=(Lib.decDigits m).length:=by rw[<-CJ,lM]
  have z:(⟨#[45]⟩:BA).size=1:=rfl
  simp only[j0]
  rw[lA aa]
  simp only[j0]
  congr 1
  refine xA ?_
  rw[pI,CJ]
  show[45]++Lib.decDigits m=Lib.itoa (-(m:Int))
  unfold Lib.itoa
  rw[if_pos aa,show(-(m:Int)).natAbs=m by omega]
  rfl
 rw[if_neg (by simpa using h),FS aa aa]
 obtain⟨m,rfl⟩:∃m:Nat,n=(m:Int):=⟨n.toNat,by omega⟩
 rw[UX N 15 m aa aa aa]
 rfl
theorem qJy{N:Nat}(x:Ex):CA N x=some (iH (x.1,x.2.1,x.2.2.1,x.2.2.2.1)):=by
 unfold CA iH
 by_cases h5:x.1=5
 .simp[h5]
 by_cases h4:x.1=4
 .by_cases o1:x.2.2.1=1
  .simp[h4,o1]
  by_cases o2:x.2.2.1=2
  .simp[h4,o2]
  by_cases o6:x.2.2.1=6
  .simp[h4,o6]
  by_cases o7:x.2.2.1=7
  .simp[h4,o7]
  simp[h4,o6,o7,o1,o2]
 simp[h5,h4]
theorem AJ{N:Nat}{h:Hd}{args:List Int}{need:Int}{B:List UInt8}(e:B.length<=100000):(Option.bind (some (eJ B)) fun a=>(CA N (iS h args)).bind fun d=>if(decide (d<need))then((bG (⟨#[40]⟩:BA) a).bind fun b=>(bG b (⟨#[41]⟩:BA)).bind fun c=>some c) else(some a))=some (eJ (if iH h<need then 40::(B++[41]) else B)):=by
 have f:(⟨#[40]⟩:BA).size=1:=rfl
 have g:(⟨#[41]⟩:BA).size=1:=rfl
 rw[show CA N (iS h args)=some (iH h) from qJy _]
 simp only[j0]
 by_cases h:iH h<need
 .rw[if_pos (by simpa using h),if_pos h,lA (by rw[mG];omega)]
  simp only[j0]
  rw[lA (by rw[ByteArray.size_append,mG];omega)]
  rfl
 rw[if_neg (by simpa using h),if_neg h]
theorem zCj{op:Int}(a:1<=op)(b:op<=7):aO ([(⟨#[]⟩:BA),(⟨#[43]⟩:BA),(⟨#[45]⟩:BA),(⟨#[42]⟩:BA),(⟨#[47]⟩:BA),(⟨#[37]⟩:BA),(⟨#[60]⟩:BA),(⟨#[61,61]⟩:BA)]) op=some (qP op):=by
 rcases(by omega:op=1\/op=2\/op=3\/op=4\/op=5\/op=6\/op=7) with rfl|rfl|rfl|rfl|rfl|rfl|rfl<;>rfl
section
variable {N:Nat} {l:List Ex} {ps:List BA}
def qQu(N:Nat)(l:List Ex)(ps:List BA)(t:Rose):Prop:=∀(b D:Nat) (need:Int),AtT l b t->t.size<=300->t.size<=D->0<=need->DW N D l ((b+t.size-1:Nat):Int) ps need=some (eJ (t.wr ps need))/\(t.wr ps need).length+2<=110*t.size
theorem nd0{h:Hd}(a:h.1≠4)(k:Nat):iJ h k=0:=by unfold iJ;rw[if_neg a]
theorem qPu{D:Nat}{h:Hd}{x:Ex}(y:3000000<N)(p:h.1≠4)(G:x.2.2.2.2.length<2000000):∀(ks:List Rose) (k b M:Nat) (s:List UInt8),(∀t∈ks,qQu N l ps t/\t.size<=300/\t.size<=D)->x.2.2.2.2.drop k=eO b ks->k<=x.2.2.2.2.length->AtTs l b ks->s.length+110*cM ks<=100000->ks.length<M->
  aB (KV N (DW N D) l ps x) M (eJ s,(k:Int))=some (eJ (s++rD k (lT ps h k ks)))
 |_,_,_,0,_,_,_,_,_,_,e=>absurd e (kK _)
 |[],k,b,M+1,s,_,a,A,_,_,_=>by
  have U:k=x.2.2.2.2.length:=by
   have:=congrArg List.length a
   rw[gF] at this
   simp only[eO,jD] at this
   omega
  simp only[aB,KV]
  rw[if_neg ad]
  simp only[j0,lT,rD,jV]
 |t::ks,k,b,M+1,s,d,a,A,q,E,e=>by
  have B:=t.pos
  simp only[cM] at E
  have c:k<x.2.2.2.2.length:=by
   by_cases hh:k<x.2.2.2.2.length
   .exact hh
   rw[jU aa] at a;cases a
  rw[uS c] at a
  obtain⟨r,v⟩:=List.cons.inj a
  obtain⟨n,o⟩:=q.head
  obtain⟨t1,t2,K⟩:=d t (jF ..)
  obtain⟨R,V⟩:=t1 b D 0 n t2 K (gW 0)
  have ew:IntKind.wrap .i64 ((k:Int)+1)=((k+1:Nat):Int):=by rw[bB aa aa];omega
  have z:(⟨#[44,32]⟩:BA).size=2:=rfl
  simp only[aB,KV]
  rw[if_pos ad,cQ c,r]
  have g:(if(decide ((k:Int)>0))then((bG (eJ s) (⟨#[44,32]⟩:BA)).bind fun H=>some H) else(some (eJ s)):Option BA)=some (eJ (s++qF k)):=by
   unfold qF
   by_cases h0:k=0
   .subst h0
    rw[if_neg ac,if_pos rfl,jV]
   rw[if_pos ad,if_neg h0,lA (by rw[mG];omega)]
   rfl
  have S:(s++qF k).length<=s.length+2:=by
   unfold qF
   split<;>simp
  simp only[j0,g,R]
  rw[lA (by rw[mG,mG];omega)]
  simp only[j0,ew]
  have f:eJ (s++qF k)++eJ (t.wr ps 0)=eJ ((s++qF k)++t.wr ps 0):=by
   refine xA ?_
   rw[pI,rU,rU,rU]
  rw[f,qPu y p G ks (k+1) (b+t.size) M _ (fun u F=>d u (jH _ F)) v aa o (by rw[jB];omega) (by simp only[jC] at e;omega)]
  simp only[lT,rD,nd0 p,jE]
theorem zEg(hN:3000000<N)(a2:∀s∈ps,s.size<=24)(hl:∀x∈l,nX (ps.length:Int) x=true){t:Rose}(hf:Fine ps.length t):qQu N l ps t:=by
 have F:∀(t:Rose) (b:Nat) (need:Int),AtT l b t->(t.wr ps need).length+2<=110*t.size:=fun t b need f=>by
  obtain⟨p,q,rfl,-⟩:=f
  exact qBc a2 t b need fun x g=>hl x (kE _ (kW _ g))
 -- a node, from what its body is
 have node:∀(h:Hd) (ks:List Rose) (b D:Nat) (need:Int),AtT l b (.mk h ks)->(Rose.mk h ks).size<=300->(∀D',D=D'+1->(qD ps h (lT ps h 0 ks)).length<=100000->wO N (DW N D') l ((b+cM ks:Nat):Int) ps need=some (eJ (if iH h<need then 40::(qD ps h (lT ps h 0 ks)++[41]) else qD ps h (lT ps h 0 ks))))->(Rose.mk h ks).size<=D->
   DW N D l ((b+(Rose.mk h ks).size-1:Nat):Int) ps need=some (eJ ((Rose.mk h ks).wr ps need))/\((Rose.mk h ks).wr ps need).length+2<=110*(Rose.mk h ks).size:=by
  intro h ks b D need f g y r
  have v:=F _ b need f
  refine⟨?_,v⟩
  simp only[Rose.size] at g r v ⊢
  obtain⟨D,rfl⟩:∃D',D=D'+1:=⟨D-1,by omega⟩
  have E:(qD ps h (lT ps h 0 ks)).length<=100000:=by
   have o:=F _ b 0 f
   simp only[Rose.wr,Rose.size] at o
   split at o
   .simp only[jC,jB] at o;omega
   omega
  rw[show b+(cM ks+1)-1=b+cM ks by omega]
  simp only[Rose.wr]
  exact y D rfl E
 have sub:∀{t:Rose} {ks:List Rose},t∈ks->t.size<=cM ks:=by
  intro t ks v
  induction ks with
  |nil=>cases v
  |cons u l Z=>
   simp only[cM]
   rcases jJ.1 v with rfl|v
   .omega
   have:=Z v;omega
 have z0:(⟨#[32]⟩:BA).size=1:=rfl
 have z1:(⟨#[40]⟩:BA).size=1:=rfl
 have z2:(⟨#[41]⟩:BA).size=1:=rfl
 have z3:(⟨#[105,102,32]⟩:BA).size=3:=rfl
 have z4:(⟨#[32,116,104,101,110,32]⟩:BA).size=6:=rfl
 have z5:(⟨#[32,101,108,115,101,32]⟩:BA).size=6:=rfl
 have z6:(⟨#[114,101,97,100,40,34]⟩:BA).size=6:=rfl
 have z7:(⟨#[34,44,32]⟩:BA).size=3:=rfl
 have z8:(⟨#[115,105,122,101,40,34]⟩:BA).size=6:=rfl
 have z9:(⟨#[104,97,115,40,34]⟩:BA).size=5:=rfl
 have za:(⟨#[101,110,118,40,34]⟩:BA).size=5:=rfl
 have zb:(⟨#[34,41]⟩:BA).size=2:=rfl
 have zc:(⟨#[102,108,105,112,40]⟩:BA).size=5:=rfl
 induction hf with
 |num n R S=>
  intro b D need f g r B
  refine node _ _ b D need f g (fun D' _ o=> ?_) r
  unfold wO
  rw[yA f.args.1]
  simp only[j0]
  refine Eq.trans (congrArg (fun z=>Option.bind z _) (?_:_=some (eJ _))) (AJ o)
  refine Eq.trans (if_pos rfl) ?_
  show(EA N n).bind _=_
  rw[XO R S aa]
  rfl
 |par i h=>
  intro b D need f g r B
  refine node _ _ b D need f g (fun D' _ o=> ?_) r
  unfold wO
  rw[yA f.args.1]
  simp only[j0]
  refine Eq.trans (congrArg (fun z=>Option.bind z _) (?_:_=some (eJ _))) (AJ o)
  refine Eq.trans (if_neg (by show ¬((2:Int)==1)=true;decide)) ?_
  refine Eq.trans (if_pos rfl) ?_
  show(aO ps (i:Int)).bind _=_
  have e:ps.getD i ⟨#[]⟩=ps[i]:=by rw[jS,List.getElem?_eq_getElem h];rfl
  rw[cQ h]
  show some ps[i]=some (eJ (ps.getD (Int.toNat (i:Int)) ⟨#[]⟩).data.toList)
  rw[jQ,e]
  rfl
 |call s ks h hk Z=>
  intro b D need f g r B
  refine node _ _ b D need f g (fun D' hD' o=> ?_) r
  subst hD'
  simp only[Rose.size] at g r
  have V:=wS h
  unfold wO
  rw[yA f.args.1]
  simp only[j0]
  refine Eq.trans (congrArg (fun z=>Option.bind z _) (?_:_=some (eJ _))) (AJ o)
  have G:=WT ks
  refine Eq.trans (if_neg (by show ¬((3:Int)==1)=true;decide)) ?_
  refine Eq.trans (if_neg (by show ¬((3:Int)==2)=true;decide)) ?_
  refine Eq.trans (if_pos rfl) ?_
  show(bG s (⟨#[40]⟩:BA)).bind _=_
  rw[lA aa]
  simp only[j0]
  have A:=qPu (D:=D') (h:=(3,0,0,s)) (x:=iS (3,0,0,s) (eO b ks)) hN (by show(3:Int)≠4;decide) (by show(eO b ks).length<_;rw[xT];omega) ks 0 b N (s++(⟨#[40]⟩:BA)).data.toList (fun t v=>⟨Z t v,by have:=sub v;omega,by have:=sub v;omega⟩) (by rw[kC];rfl) (jW _) f.args.2 (by rw[lM,ByteArray.size_append];omega) aa
  rw[show eJ (s++(⟨#[40]⟩:BA)).data.toList=s++(⟨#[40]⟩:BA) from xA (rU _),show((0:Nat):Int)=0 from rfl] at A
  rw[A]
  simp only[j0]
  have y:=F _ b 0 f
  simp only[Rose.wr,Rose.size] at y
  rw[if_neg (by show ¬(4:Int)<0;decide)] at y
  have E:qD ps (3,0,0,s) (lT ps (3,0,0,s) 0 ks)=(s++(⟨#[40]⟩:BA)).data.toList++(rD 0 (lT ps (3,0,0,s) 0 ks)++[41]):=rfl
  rw[E] at y ⊢
  simp only[jB,jC,jD] at y
  rw[lA (by rw[mG];simp only[jB];omega)]
  simp only[j0]
  congr 1
  refine xA ?_
  rw[pI,rU,rU,jE]
 |bin op a c R S ha hc E M=>
  intro b D need f g r B
  refine node _ _ b D need f g (fun D' hD' o=> ?_) r
  subst hD'
  obtain⟨v,y⟩:=f.args
  obtain⟨A,atr⟩:=y.head
  obtain⟨G,-⟩:=atr.head
  simp only[Rose.size,cM] at g r
  have U:=a.pos
  have a1:=c.pos
  obtain⟨e,-,l3⟩:(iH (4,0,op,bZ)=1\/iH (4,0,op,bZ)=2\/iH (4,0,op,bZ)=3)/\True/\True:=by
   rcases(by omega:op=1\/op=2\/op=3\/op=4\/op=5\/op=6\/op=7) with rfl|rfl|rfl|rfl|rfl|rfl|rfl<;>decide
  have n0:iJ (4,0,op,bZ) 0=if iH (4,0,op,bZ)=1 then 2 else iH (4,0,op,bZ):=by unfold iJ;rw[if_pos rfl,if_pos rfl]
  have n1:iJ (4,0,op,bZ) 1=iH (4,0,op,bZ)+1:=by unfold iJ;rw[if_pos rfl,if_neg ac]
  obtain⟨wa,la⟩:=E b D' (iJ (4,0,op,bZ) 0) A aa aa (by rw[n0];split<;>omega)
  obtain⟨wc,lc⟩:=M (b+a.size) D' (iJ (4,0,op,bZ) 1) G aa aa (by rw[n1];omega)
  have a0:=qJk R S
  unfold wO
  rw[yA v]
  simp only[j0]
  refine Eq.trans (congrArg (fun z=>Option.bind z _) (?_:_=some (eJ _))) (AJ o)
  refine Eq.trans (if_neg (by show ¬((4:Int)==1)=true;decide)) ?_
  refine Eq.trans (if_neg (by show ¬((4:Int)==2)=true;decide)) ?_
  refine Eq.trans (if_neg (by show ¬((4:Int)==3)=true;decide)) ?_
  refine Eq.trans (if_pos rfl) ?_
  rw[show CA N (iS (4,0,op,bZ) (eO b [a,c]))=some (iH (4,0,op,bZ)) from qJy _]
  simp only[j0]
  have H:(if(iH (4,0,op,bZ)==1)then some 2 else some (iH (4,0,op,bZ)):Option Int)=some (iJ (4,0,op,bZ) 0):=by
   rw[n0]
   by_cases e:iH (4,0,op,bZ)=1
   .rw[if_pos (by simpa using e),if_pos e]
   rw[if_neg (by simpa using e),if_neg e]
  have K:aO (iS (4,0,op,bZ) (eO b [a,c])).2.2.2.2 0=some ((b+a.size-1:Nat):Int):=rfl
  have Y:aO (iS (4,0,op,bZ) (eO b [a,c])).2.2.2.2 1=some ((b+a.size+c.size-1:Nat):Int):=rfl
  have ew:IntKind.wrap .i64 (iH (4,0,op,bZ)+1)=iJ (4,0,op,bZ) 1:=by rw[n1,bB aa aa]
  rw[H,K,Y]
  simp only[j0,wa,ew,wc]
  rw[lA (by rw[mG];omega)]
  simp only[j0]
  rw[show(iS (4,0,op,bZ) (eO b [a,c])).2.2.1=op from rfl,zCj R S]
  simp only[j0]
  rw[lA (by rw[ByteArray.size_append,mG];omega)]
  simp only[j0]
  rw[lA (by simp only[ByteArray.size_append,mG];omega)]
  simp only[j0]
  rw[lA (by simp only[ByteArray.size_append,mG];omega)]
  simp only[j0]
  congr 1
  refine xA ?_
  show _=a.wr ps (iJ (4,0,op,bZ) 0)++((((⟨#[32]⟩:BA)++qP op)++(⟨#[32]⟩:BA)).data.toList++c.wr ps (iJ (4,0,op,bZ) 1))
  simp only[pI,rU,jE]
 |ite a c d ha hc hd E M a3=>
  intro b D need f g r B
  refine node _ _ b D need f g (fun D' hD' o=> ?_) r
  subst hD'
  obtain⟨v,y⟩:=f.args
  obtain⟨A,atr⟩:=y.head
  obtain⟨G,atr⟩:=atr.head
  obtain⟨a0,-⟩:=atr.head
  simp only[Rose.size,cM] at g r
  have U:=a.pos
  have a1:=c.pos
  have a4:=d.pos
  have H:∀k,iJ (5,0,0,bZ) k=0:=nd0 (by show(5:Int)≠4;decide)
  obtain⟨wa,la⟩:=E b D' 0 A aa aa (gW 0)
  obtain⟨wc,lc⟩:=M (b+a.size) D' 0 G aa aa (gW 0)
  obtain⟨wd,ld⟩:=a3 (b+a.size+c.size) D' 0 a0 aa aa (gW 0)
  unfold wO
  rw[yA v]
  simp only[j0]
  refine Eq.trans (congrArg (fun z=>Option.bind z _) (?_:_=some (eJ _))) (AJ o)
  refine Eq.trans (if_neg (by show ¬((5:Int)==1)=true;decide)) ?_
  refine Eq.trans (if_neg (by show ¬((5:Int)==2)=true;decide)) ?_
  refine Eq.trans (if_neg (by show ¬((5:Int)==3)=true;decide)) ?_
  refine Eq.trans (if_neg (by show ¬((5:Int)==4)=true;decide)) ?_
  refine Eq.trans (if_pos rfl) ?_
  have K:aO (iS (5,0,0,bZ) (eO b [a,c,d])).2.2.2.2 0=some ((b+a.size-1:Nat):Int):=rfl
  have Y:aO (iS (5,0,0,bZ) (eO b [a,c,d])).2.2.2.2 1=some ((b+a.size+c.size-1:Nat):Int):=rfl
  have i2:aO (iS (5,0,0,bZ) (eO b [a,c,d])).2.2.2.2 2=some ((b+a.size+c.size+d.size-1:Nat):Int):=rfl
  rw[K,Y,i2]
  simp only[j0,wa]
  rw[lA (by rw[mG];omega)]
  simp only[j0]
  rw[lA (by simp only[ByteArray.size_append,mG];omega)]
  simp only[j0,wc]
  rw[lA (by simp only[ByteArray.size_append,mG];omega)]
  simp only[j0]
  rw[lA (by simp only[ByteArray.size_append,mG];omega)]
  simp only[j0,wd]
  rw[lA (by simp only[ByteArray.size_append,mG];omega)]
  simp only[j0]
  congr 1
  refine xA ?_
  show _=tI++(a.wr ps (iJ (5,0,0,bZ) 0)++(tThen++(c.wr ps (iJ (5,0,0,bZ) 1)++(tElse++d.wr ps (iJ (5,0,0,bZ) 2)))))
  simp only[pI,rU,jE,H]
  rfl
 |read s a h ha E=>
  intro b D need f g r B
  refine node _ _ b D need f g (fun D' hD' o=> ?_) r
  subst hD'
  obtain⟨v,y⟩:=f.args
  obtain⟨A,-⟩:=y.head
  simp only[Rose.size,cM] at g r
  have U:=a.pos
  have V:=HW h
  have H:∀k,iJ (6,0,0,s) k=0:=nd0 (by show(6:Int)≠4;decide)
  obtain⟨wa,la⟩:=E b D' 0 A aa aa (gW 0)
  unfold wO
  rw[yA v]
  simp only[j0]
  refine Eq.trans (congrArg (fun z=>Option.bind z _) (?_:_=some (eJ _))) (AJ o)
  refine Eq.trans (if_neg (by show ¬((6:Int)==1)=true;decide)) ?_
  refine Eq.trans (if_neg (by show ¬((6:Int)==2)=true;decide)) ?_
  refine Eq.trans (if_neg (by show ¬((6:Int)==3)=true;decide)) ?_
  refine Eq.trans (if_neg (by show ¬((6:Int)==4)=true;decide)) ?_
  refine Eq.trans (if_neg (by show ¬((6:Int)==5)=true;decide)) ?_
  refine Eq.trans (if_pos rfl) ?_
  have K:aO (iS (6,0,0,s) (eO b [a])).2.2.2.2 0=some ((b+a.size-1:Nat):Int):=rfl
  rw[show(iS (6,0,0,s) (eO b [a])).2.2.2.1=s from rfl,K,lA aa]
  simp only[j0]
  rw[lA (by rw[ByteArray.size_append];omega)]
  simp only[j0,wa]
  rw[lA (by simp only[ByteArray.size_append,mG];omega)]
  simp only[j0]
  rw[lA (by simp only[ByteArray.size_append,mG];omega)]
  simp only[j0]
  congr 1
  refine xA ?_
  show _=(((⟨#[114,101,97,100,40,34]⟩:BA)++s)++(⟨#[34,44,32]⟩:BA)).data.toList++(a.wr ps (iJ (6,0,0,s) 0)++[41])
  simp only[pI,rU,jE,H]
 |look k s hk h=>
  intro b D need f g r B
  refine node _ _ b D need f g (fun D' _ o=> ?_) r
  have V:=HW h
  unfold wO
  rw[yA f.args.1]
  simp only[j0]
  refine Eq.trans (congrArg (fun z=>Option.bind z _) (?_:_=some (eJ _))) (AJ o)
  rcases hk with rfl|rfl
  .refine Eq.trans (if_neg (by show ¬((7:Int)==1)=true;decide)) ?_
   refine Eq.trans (if_neg (by show ¬((7:Int)==2)=true;decide)) ?_
   refine Eq.trans (if_neg (by show ¬((7:Int)==3)=true;decide)) ?_
   refine Eq.trans (if_neg (by show ¬((7:Int)==4)=true;decide)) ?_
   refine Eq.trans (if_neg (by show ¬((7:Int)==5)=true;decide)) ?_
   refine Eq.trans (if_neg (by show ¬((7:Int)==6)=true;decide)) ?_
   refine Eq.trans (if_pos rfl) ?_
   rw[show(iS (7,0,0,s) (eO b [])).2.2.2.1=s from rfl,lA aa]
   simp only[j0]
   rw[lA (by rw[ByteArray.size_append];omega)]
   simp only[j0]
   congr 1
  refine Eq.trans (if_neg (by show ¬((8:Int)==1)=true;decide)) ?_
  refine Eq.trans (if_neg (by show ¬((8:Int)==2)=true;decide)) ?_
  refine Eq.trans (if_neg (by show ¬((8:Int)==3)=true;decide)) ?_
  refine Eq.trans (if_neg (by show ¬((8:Int)==4)=true;decide)) ?_
  refine Eq.trans (if_neg (by show ¬((8:Int)==5)=true;decide)) ?_
  refine Eq.trans (if_neg (by show ¬((8:Int)==6)=true;decide)) ?_
  refine Eq.trans (if_neg (by show ¬((8:Int)==7)=true;decide)) ?_
  refine Eq.trans (if_pos rfl) ?_
  rw[show(iS (8,0,0,s) (eO b [])).2.2.2.1=s from rfl,lA aa]
  simp only[j0]
  rw[lA (by rw[ByteArray.size_append];omega)]
  simp only[j0]
  congr 1
 |env s h=>
  intro b D need f g r B
  refine node _ _ b D need f g (fun D' _ o=> ?_) r
  have V:=MY h
  unfold wO
  rw[yA f.args.1]
  simp only[j0]
  refine Eq.trans (congrArg (fun z=>Option.bind z _) (?_:_=some (eJ _))) (AJ o)
  refine Eq.trans (if_neg (by show ¬((9:Int)==1)=true;decide)) ?_
  refine Eq.trans (if_neg (by show ¬((9:Int)==2)=true;decide)) ?_
  refine Eq.trans (if_neg (by show ¬((9:Int)==3)=true;decide)) ?_
  refine Eq.trans (if_neg (by show ¬((9:Int)==4)=true;decide)) ?_
  refine Eq.trans (if_neg (by show ¬((9:Int)==5)=true;decide)) ?_
  refine Eq.trans (if_neg (by show ¬((9:Int)==6)=true;decide)) ?_
  refine Eq.trans (if_neg (by show ¬((9:Int)==7)=true;decide)) ?_
  refine Eq.trans (if_neg (by show ¬((9:Int)==8)=true;decide)) ?_
  refine Eq.trans (if_pos rfl) ?_
  rw[show(iS (9,0,0,s) (eO b [])).2.2.2.1=s from rfl,lA aa]
  simp only[j0]
  rw[lA (by rw[ByteArray.size_append];omega)]
  simp only[j0]
  congr 1
 |flip n h=>
  intro b D need f g r B
  refine node _ _ b D need f g (fun D' _ o=> ?_) r
  unfold wO
  rw[yA f.args.1]
  simp only[j0]
  refine Eq.trans (congrArg (fun z=>Option.bind z _) (?_:_=some (eJ _))) (AJ o)
  have hi:=UI (n:=(n:Int)) aa aa
  refine Eq.trans (if_neg (by show ¬((10:Int)==1)=true;decide)) ?_
  refine Eq.trans (if_neg (by show ¬((10:Int)==2)=true;decide)) ?_
  refine Eq.trans (if_neg (by show ¬((10:Int)==3)=true;decide)) ?_
  refine Eq.trans (if_neg (by show ¬((10:Int)==4)=true;decide)) ?_
  refine Eq.trans (if_neg (by show ¬((10:Int)==5)=true;decide)) ?_
  refine Eq.trans (if_neg (by show ¬((10:Int)==6)=true;decide)) ?_
  refine Eq.trans (if_neg (by show ¬((10:Int)==7)=true;decide)) ?_
  refine Eq.trans (if_neg (by show ¬((10:Int)==8)=true;decide)) ?_
  refine Eq.trans (if_neg (by show ¬((10:Int)==9)=true;decide)) ?_
  refine Eq.trans (if_pos rfl) ?_
  rw[show(iS (10,(n:Int),0,bZ) (eO b [])).2.1=(n:Int) from rfl,XO aa aa aa]
  simp only[j0]
  rw[lA aa]
  simp only[j0]
  rw[lA (by rw[ByteArray.size_append];omega)]
  simp only[j0]
  congr 1
end
theorem qXv{N:Nat}{d:Dl}(h:OkD d)(f:3000000<N):SA N d.2.2.2 (IntKind.wrap .i64 ((d.2.2.2.length:Int)-1)) d.2.2.1 0=some (eJ (yI d)):=by
 obtain⟨t,c,a,e⟩:=h.tree
 have n:t.size=d.2.2.2.length:=by
  have:=lP t 0
  rw[<-a] at this;exact this.symm
 have p:=t.pos
 have o:=h.body
 have b:AtT d.2.2.2 0 t:=by
  have:=AtT.whole t
  rw[<-a] at this;exact this
 have l:yI d=t.wr d.2.2.1 0:=by unfold yI;rw[c]
 have g:=(zEg f (fun s k=>wS (h.names s k)) h.good.nodes e 0 N 0 b aa aa (gW 0)).1
 unfold SA
 rw[bB aa aa,l,show(d.2.2.2.length:Int)-1=((0+t.size-1:Nat):Int) by omega]
 exact g
theorem NP(a b:List UInt8):eJ a++eJ b=eJ (a++b):=xA (by rw[pI,rU,rU,rU])
theorem OI(s:BA):eJ s.data.toList=s:=xA (rU _)
theorem qNi{d:Dl}(a:GoodD d)(n:d.2.2.2.length<=256):(yI d).length<=30000:=by
 obtain⟨t,c,b⟩:=ZC a.tree
 have k:t.size=d.2.2.2.length:=by
  have:=lP t 0
  rw[<-b] at this;exact this.symm
 have f:∀x∈t.flat 0,nX (d.2.2.1.length:Int) x=true:=fun x h=>a.nodes x (by rw[b];exact h)
 have l:=qBc (ps:=d.2.2.1) (fun s e=>wS (a.pars s e).2) t 0 0 f
 have g:yI d=t.wr d.2.2.1 0:=by unfold yI;rw[c]
 rw[g];omega
theorem qJn{d:Dl}(h:OkD d):(rY d).length<=31000:=by
 have a:=qLd h.good h.pars
 have b:=qNi h.good h.body
 have c:(⟨#[32,61,32]⟩:BA).size=3:=rfl
 have e:(⟨#[59,10]⟩:BA).size=2:=rfl
 unfold rY
 simp only[jB,lM,ByteArray.size_append,mG];omega
theorem zCr{l:List BA}(h:∀s∈l,iC s=true):(l.flatMap qH).length<=40*l.length:=by
 induction l with
 |nil=>exact jW _
 |cons s l b=>
  have c:=wS (h s (jF ..))
  have d:=b fun x a=>h x (jH _ a)
  have f:(⟨#[105,109,112,111,114,116,32]⟩:BA).size=7:=rfl
  have g:(⟨#[59,10]⟩:BA).size=2:=rfl
  have e:(qH s).length<=40:=by unfold qH;simp only[lM,ByteArray.size_append];omega
  simp only[kL,jB,jC];omega
theorem qKp{N:Nat}{f:Sr}(h:GoodS f)(n:3000000<N):MB N f=some (eJ (zP f.1++f.2.1.flatMap qH))/\(zP f.1++f.2.1.flatMap qH).length<=600:=by
 have o:=h.impn
 have g:=wS h.pkg
 have p:(⟨#[112,97,99,107,97,103,101,32]⟩:BA).size=8:=rfl
 have q:(⟨#[59,10]⟩:BA).size=2:=rfl
 have r:(⟨#[105,109,112,111,114,116,32]⟩:BA).size=7:=rfl
 have k:(zP f.1).length<=100:=by unfold zP;simp only[lM,ByteArray.size_append];omega
 refine⟨?_,by have:=zCr h.imps;rw[jB];omega⟩
 have a:∀s∈f.2.1,(qH s).length<=40:=fun s e=>by
  have:=wS (h.imps s e)
  unfold qH
  simp only[lM,ByteArray.size_append];omega
 have d:=sK (L:=f.2.1) (fun(t:List UInt8) (i:Nat)=>(eJ t,(i:Int))) (f:=LK N f)
  (fun t s=> .inl (t++qH s)) (fun t=>eJ t) (fun i t=>t.length<=100+40*i) (by
   intro t i hi b
   have l:=wS (h.imps _ (jM hi))
   simp only[LK]
   rw[if_pos ad,cQ hi]
   have ew:IntKind.wrap .i64 ((i:Int)+1)=((i+1:Nat):Int):=by rw[bB aa aa];omega
   simp only[j0]
   rw[lA aa]
   simp only[j0]
   rw[lA (by rw[ByteArray.size_append];omega)]
   simp only[j0]
   rw[lA (by simp only[ByteArray.size_append,mG];omega)]
   simp only[j0,ew]
   rw[<-NP,show eJ (qH f.2.1[i])=_ from OI _]) (by
   intro t i hi t' b c
   cases c
   have:=a _ (jM hi)
   simp only[jB];omega) (by
   intro t b
   simp only[LK]
   rw[if_neg ae]) (M:=N) (t:=zP f.1) aa aa
 unfold MB
 rw[lA aa]
 simp only[j0]
 rw[lA (by rw[ByteArray.size_append];omega)]
 simp only[j0]
 rw[show((⟨#[112,97,99,107,97,103,101,32]⟩:BA)++f.1)++(⟨#[59,10]⟩:BA)=eJ (zP f.1) from(OI _).symm,show(0:Int)=((0:Nat):Int) from rfl,d]
 simp only[j0]
 rw[EQ (fun t s=>t++qH s) (fun _ _=>rfl),qGq]
theorem zFt{N:Nat}{d:Dl}(h:OkD d)(p:3000000<N){s:BA}(r:s.size<=200):aB (DV N d) N (s,0)=some (s++IV d.2.2.1):=by
 have q:=h.pars
 have c:=sK (L:=d.2.2.1) (fun(t:List UInt8×Nat) (i:Nat)=>(eJ t.1,(i:Int))) (f:=DV N d)
  (fun t x=> .inl ((t.1++qF t.2)++x.data.toList,t.2+1)) (fun t=>eJ t.1) (fun i t=>t.2=i/\t.1.length<=200+40*i) (by
   rintro⟨t,k⟩ i hi ⟨rfl,a⟩
   simp only at a hi ⊢
   have g:=wS (h.names _ (jM hi))
   have z:(⟨#[44,32]⟩:BA).size=2:=rfl
   simp only[DV]
   rw[if_pos ad,cQ hi]
   have ew:IntKind.wrap .i64 ((k:Int)+1)=((k+1:Nat):Int):=by rw[bB aa aa];omega
   have b:(if(decide ((k:Int)>0))then((bG (eJ t) (⟨#[44,32]⟩:BA)).bind fun o=>some o) else(some (eJ t)):Option BA)=some (eJ (t++qF k)):=by
    unfold qF
    by_cases h0:k=0
    .subst h0
     rw[if_neg ac,if_pos rfl,jV]
    rw[if_pos ad,if_neg h0,lA (by rw[mG];omega)]
    rfl
   have e:(t++qF k).length<=t.length+2:=by
    unfold qF
    split<;>simp
   simp only[j0,b]
   rw[lA (by rw[mG];omega)]
   simp only[j0,ew]
   rw[<-NP (t++qF k),OI]) (by
   rintro⟨t,k⟩ i hi t' ⟨rfl,a⟩ n
   obtain rfl:=(Sum.inl.inj n).symm
   have g:(d.2.2.1[k]).size<=24:=wS (h.names _ (jM hi))
   have e:(qF k).length<=2:=by
    unfold qF
    split<;>simp
   refine⟨rfl,?_⟩
   show((t++qF k)++(d.2.2.1[k]).data.toList).length<=200+40*(k+1)
   simp only at a
   simp only[jB,lM]
   omega) (by
   rintro⟨t,k⟩ ⟨rfl,a⟩
   simp only[DV]
   rw[if_neg ae]) (M:=N) (t:=(s.data.toList,0)) aa ⟨rfl,by rw[lM];omega⟩
 rw[show eJ (s.data.toList,0).1=s from OI s,show((0:Nat):Int)=0 from rfl] at c
 rw[c]
 have key:∀(l:List BA) (t:List UInt8) (k:Nat),run (fun(t:List UInt8×Nat) (x:BA)=>(.inl ((t.1++qF t.2)++x.data.toList,t.2+1):(List UInt8×Nat)⊕BA)) (fun t=>eJ t.1) l (t,k)=eJ (t++rD k (l.map fun s=>s.data.toList)):=by
  intro l
  induction l with
  |nil=>intro t k;simp[run,rD]
  |cons x l a=>
   intro t k
   simp only[run,kF,rD]
   rw[a]
   simp only[jE]
 rw[key,<-NP,OI]
 rfl
theorem qKz{N:Nat}{d:Dl}(h:OkD d)(e:3000000<N):MA N d=some (eJ (rY d)):=by
 have c:=qLd h.good h.pars
 have p:=qLg h.good
 have q:=qNi h.good h.body
 have y1:(⟨#[102,117,110,99,32]⟩:BA).size=5:=rfl
 have r:(⟨#[40]⟩:BA).size=1:=rfl
 have s:(⟨#[41]⟩:BA).size=1:=rfl
 have t:(⟨#[116,101,115,116,32]⟩:BA).size=5:=rfl
 have y5:(⟨#[103,101,110,32,34]⟩:BA).size=5:=rfl
 have u:(⟨#[34]⟩:BA).size=1:=rfl
 have v:(⟨#[32,61,32]⟩:BA).size=3:=rfl
 have x:(⟨#[59,10]⟩:BA).size=2:=rfl
 have a:(if(d.1==1)then((bG (⟨#[102,117,110,99,32]⟩:BA) d.2.1).bind fun s1=>(bG s1 (⟨#[40]⟩:BA)).bind fun g=>(aB (DV N d) N (g,0)).bind fun o2=>(bG o2 (⟨#[41]⟩:BA)).bind fun k=>some k) else(if(d.1==2)then((bG (⟨#[116,101,115,116,32]⟩:BA) d.2.1).bind fun l=>some l) else(if(d.1==3)then((bG (⟨#[103,101,110,32,34]⟩:BA) d.2.1).bind fun n=>(bG n (⟨#[34]⟩:BA)).bind fun o=>some o) else(some (⟨#[]⟩:BA)))):Option (BA))=some (AR d):=by
  unfold AR at c ⊢
  by_cases k1:d.1=1
  .rw[if_pos k1] at c
   simp only[ByteArray.size_append] at c
   rw[if_pos (by simpa using k1),if_pos k1,lA aa]
   simp only[j0]
   rw[lA (by rw[ByteArray.size_append];omega)]
   simp only[j0]
   rw[zFt h e (by simp only[ByteArray.size_append];omega)]
   simp only[j0]
   rw[lA (by simp only[ByteArray.size_append];omega)]
   rfl
  rw[if_neg (by simpa using k1),if_neg k1]
  by_cases b:d.1=2
  .rw[if_pos (by simpa using b),if_pos b,lA aa]
   rfl
  have f:d.1=3:=by
   rcases h.kind with ⟨h,-⟩|⟨h,-⟩<;>omega
  rw[if_neg (by simpa using b),if_neg b,if_pos (by simpa using f),lA aa]
  simp only[j0]
  rw[lA (by rw[ByteArray.size_append];omega)]
  rfl
 unfold MA
 refine Eq.trans (congrArg (fun z=>Option.bind z _) a) ?_
 simp only[j0]
 rw[lA aa]
 simp only[j0]
 rw[qXv h e]
 simp only[j0]
 rw[lA (by rw[ByteArray.size_append,mG];omega)]
 simp only[j0]
 rw[lA (by simp only[ByteArray.size_append,mG];omega)]
 simp only[j0]
 congr 1
 refine xA ?_
 unfold rY
 simp only[pI,rU,jE]
end
section
open Go Go.Dc
def Ok{α:Type}(x:Option α)(Q:α->Prop):Prop:=∃a,x=some a/\Q a
section
variable {α β γ:Type} {Q:β->Prop}
theorem Ok.mk{a:β}(h:Q a):Ok (some a) Q:=⟨a,rfl,h⟩
theorem Ok.bind{x:Option α}{P:α->Prop}{f:α->Option β}(h:Ok x P)(k:∀a,P a->Ok (f a) Q):Ok (x.bind f) Q:=by
 obtain⟨a,rfl,b⟩:=h
 exact k a b
theorem Ok.mono{x:Option β}{P:β->Prop}(h:Ok x P)(k:∀a,P a->Q a):Ok x Q:=by
 obtain⟨a,e,b⟩:=h
 exact⟨a,e,k a b⟩
theorem Ok.assoc{x:Option α}{g:α->Option γ}{f:γ->Option β}(h:Ok (x.bind fun a=>(g a).bind f) Q):Ok ((x.bind g).bind f) Q:=by
 rw[fI];exact h
theorem Ok.ite{c:Prop}[Decidable c]{x y:Option β}(a:c->Ok x Q)(b:¬c->Ok y Q):Ok (if c then x else y) Q:=by
 by_cases h:c
 .rw[if_pos h];exact a h
 rw[if_neg h];exact b h
theorem Ok.iteb{c:Prop}[Decidable c]{x y:Option α}{f:α->Option β}(a:c->Ok (x.bind f) Q)(b:¬c->Ok (y.bind f) Q):Ok ((if c then x else y).bind f) Q:=by
 by_cases h:c
 .rw[if_pos h];exact a h
 rw[if_neg h];exact b h
theorem Ok.tt[Decidable (true=true)]{x y:Option β}(h:Ok x Q):Ok (if true then x else y) Q:=by rw[if_pos rfl];exact h
theorem Ok.ff[Decidable (false=true)]{x y:Option β}(h:Ok y Q):Ok (if false then x else y) Q:=by rw[if_neg kH];exact h
theorem Ok.ttb[Decidable (true=true)]{x y:Option α}{f:α->Option β}(h:Ok (x.bind f) Q):Ok ((if true then x else y).bind f) Q:=by rw[if_pos rfl];exact h
theorem Ok.ffb[Decidable (false=true)]{x y:Option α}{f:α->Option β}(h:Ok (y.bind f) Q):Ok ((if false then x else y).bind f) Q:=by rw[if_neg kH];exact h
theorem Ok.someb{a:α}{f:α->Option β}(h:Ok (f a) Q):Ok ((some a).bind f) Q:=h
theorem Ok.mapb{a:α}{g:α->γ}{f:γ->Option β}(h:Ok (f (g a)) Q):Ok (((some a).map g).bind f) Q:=h
theorem Ok.cat{x y:BA}{f:BA->Option β}(a:x.size+y.size<=1000000000)(h:∀s:BA,s.size=x.size+y.size->Ok (f s) Q):Ok ((bG x y).bind f) Q:=by
 unfold bG
 rw[if_pos (by simp only[maxLen];omega)]
 exact h _ ae
theorem Ok.app{b:Nat}{l k:List α}{f:List α->Option β}(c:(l.length+k.length)*b<=140737488355328)(a:0<b)(h:Ok (f (l++k)) Q):Ok ((iU b l k).bind f) Q:=by
 rw[mC c a];exact h
theorem Ok.loop{σ:Type}{f:σ->Option (σ⊕α)}{g:α->Option β}{s:σ}{N:Nat}(I:σ->Prop)(μ:σ->Nat)(R:α->Prop)
  (h:∀s,I s->Ok (f s) fun r=>match r with| .inl s'=>I s'/\μ s'<μ s| .inr b=>R b) (d:I s) (e:μ s<N) (k:∀b,R b->Ok (g b) Q):Ok ((aB f N s).bind g) Q:=by
 obtain⟨b,c,a⟩:=ZA I μ R (fun s d=>by
  obtain⟨r,c,a⟩:=h s d
  cases r with
  |inl s'=>exact .inr ⟨s',c,a.1,a.2⟩
  |inr b=>exact .inl ⟨b,c,a⟩) N s d e
 rw[c];exact k b a
end
theorem qE(a:Array UInt8):(⟨a⟩:BA).size=a.size:=rfl
theorem zCg{N:Nat}{v n:Int}(d:n<=9223372036854775807):∃r,SL N v n=some r/\0<=r/\(1<=n->r<n):=by
 simp only[SL]
 by_cases h:n<=1
 .exact⟨0,by simp[h],by omega,by omega⟩
 have a:n≠0:=by omega
 have b:=Int.tmod_lt_of_pos v (show 0<n by omega)
 have c:=Int.lt_tmod_of_pos v (show 0<n by omega)
 simp only[h,decide_false,jA,jG,FV,a,j0]
 by_cases h3:Int.tmod v n<0
 .refine⟨Int.tmod v n+n,?_,by omega,by omega⟩
  simp only[h3,decide_true,jI,j0]
  rw[bB aa aa]
 exact⟨Int.tmod v n,by simp only[h3,decide_false,jA,jG,j0],by omega,by omega⟩
theorem TT{N:Nat}{l:List Int}{a n:Int}(c:0<=a)(o:a<4611686018427387904)(f:n<=9223372036854775807):∃r,sJ N (l,a) n=some ((l,a+1),r)/\0<=r/\(1<=n->r<n):=by
 simp only[sJ]
 have b:∃v,(if(decide (a<(List.length l:Int)))then((aO l a).bind fun k=>some k) else(some (Int.tmod (IntKind.wrap .i64 (a*7)) 11)):Option Int)=some v:=by
  by_cases h:a<(l.length:Int)
  .exact⟨_,by simp only[h,decide_true,jI];rw[ZO c aa];rfl⟩
  exact⟨_,by simp only[h,decide_false,jA,jG];rfl⟩
 obtain⟨v,b⟩:=b
 obtain⟨r,g,d,e⟩:=zCg (N:=N) (v:=v) f
 exact⟨r,by simp only[b,j0,g];rw[bB aa aa],d,e⟩
section
variable {β:Type} {Q:β->Prop} {N:Nat} {l:List Int} {a:Int}
theorem Ok.next{n:Int}{f:(List Int×Int)×Int->Option β}(d:0<=a)(e:a<4611686018427387904)(g:1<=n)(o:n<=1000000)(h:∀r,0<=r->r<n->Ok (f ((l,a+1),r)) Q):Ok ((sJ N (l,a) n).bind f) Q:=by
 obtain⟨r,k,b,c⟩:=TT (N:=N) (l:=l) d e (show n<=9223372036854775807 by omega)
 rw[k];exact h r b (c g)
theorem Ok.chance{n m:Int}{f:(List Int×Int)×Bool->Option β}(b:0<=a)(c:a<4611686018427387904)(o:1<=m)(e:m<=1000000)(h:∀r,Ok (f ((l,a+1),r)) Q):Ok ((uP N (l,a) n m).bind f) Q:=by
 obtain⟨r,d,g,k⟩:=TT (N:=N) (l:=l) b c (show m<=9223372036854775807 by omega)
 simp only[uP,d,j0]
 exact h _
theorem Ok.one{L:List BA}{f:(List Int×Int)×BA->Option β}(e:0<=a)(g:a<4611686018427387904)(o:0<L.length)(n:L.length<1000)(h:∀x∈L,Ok (f ((l,a+1),x)) Q):Ok ((oI N (l,a) L).bind f) Q:=by
 obtain⟨r,k,d,c⟩:=TT (N:=N) (l:=l) e g (show(L.length:Int)<=9223372036854775807 by omega)
 have c:=c aa
 have b:r.toNat<L.length:=by omega
 simp only[oI]
 rw[if_neg (by rw[kI];omega),k]
 simp only[j0]
 rw[ZO d b]
 exact h _ (jM b)
theorem Ok.oneP{L:List BA}{f:(List Int×Int)×BA->Option β}(d:0<=a)(e:a<4611686018427387904)(g:decide ((List.length L:Int)>0)=true)(b:L.length<1000)(c:∀x∈L,x.size<=12)(h:∀x:BA,x.size<=12->Ok (f ((l,a+1),x)) Q):Ok ((oI N (l,a) L).bind f) Q:=
 Ok.one d e (by have:=gH g;omega) b fun x k=>h x (c x k)
theorem Ok.oneS{L:List BA}{f:(List Int×Int)×BA->Option β}(c:0<=a)(d:a<4611686018427387904)(b:(decide (0<L.length)&&decide (L.length<1000)&&L.all fun x=>decide (x.size<=12))=true)(h:∀x:BA,x.size<=12->Ok (f ((l,a+1),x)) Q):Ok ((oI N (l,a) L).bind f) Q:=by
 simp only[jK,j7] at b
 exact Ok.one c d b.1.1 b.1.2 fun x e=>h x (by simpa using jZ.1 b.2 x e)
theorem Ok.pick{L:List Int}{f:(List Int×Int)×Int->Option β}(e:0<=a)(g:a<4611686018427387904)(o:0<L.length)(n:L.length<1000)(h:∀x∈L,Ok (f ((l,a+1),x)) Q):Ok ((AD N (l,a) L).bind f) Q:=by
 obtain⟨r,k,d,c⟩:=TT (N:=N) (l:=l) e g (show(L.length:Int)<=9223372036854775807 by omega)
 have c:=c aa
 have b:r.toNat<L.length:=by omega
 simp only[AD]
 rw[if_neg (by rw[kI];omega),k]
 simp only[j0]
 rw[ZO d b]
 exact h _ (jM b)
theorem Ok.pickS{L:List Int}{f:(List Int×Int)×Int->Option β}(c:0<=a)(d:a<4611686018427387904)(b:(decide (0<L.length)&&decide (L.length<1000)&&L.all fun x=>decide (0<=x/\x<=9007199254740992))=true)(h:∀x:Int,0<=x->x<=9007199254740992->Ok (f ((l,a+1),x)) Q):Ok ((AD N (l,a) L).bind f) Q:=by
 simp only[jK,j7] at b
 exact Ok.pick c d b.1.1 b.1.2 fun x e=>by
  have:=jZ.1 b.2 x e
  simp only[j7] at this
  exact h x this.1 this.2
theorem ZN:∀(k D:Nat) (x:Int),k<D->k<=100->0<=x->x<10^(k+1)->x<=9223372036854775806->Ok (LJ N D x) fun s=>s.size<=k+1
 |_,0,_,h,_,_,_,_=>absurd h (kK _)
 |k,D+1,x,l,f,a,e,g=>by
  show Ok (RI N (LJ N D) x) _
  unfold RI
  have b:ByteArray.size (⟨#[48,49,50,51,52,53,54,55,56,57]⟩:BA)=10:=rfl
  by_cases hx:x<10
  .rw[if_pos (by simpa using hx),bB aa aa,MT a aa aa]
   refine Ok.mk ?_
   simp only[ByteArray.size_extract,b];omega
  rw[if_neg (by simpa using hx)]
  obtain⟨k,rfl⟩:∃k',k=k'+1:=by
   cases k with
   |zero=>simp at e;omega
   |succ k=>exact⟨k,rfl⟩
  obtain⟨D,rfl⟩:∃D',D=D'+1:=⟨D-1,by omega⟩
  have c:Int.tdiv x 10=x/10:=Int.tdiv_eq_ediv_of_nonneg a
  have d:Int.tmod x 10=x%10:=Int.tmod_eq_emod_of_nonneg a
  have n:(10:Int)^(k+1+1)=10*10^(k+1):=by rw[Int.pow_succ];omega
  rw[c,d,bB aa aa]
  refine Ok.bind (ZN k (D+1) (x/10) aa aa aa aa aa) fun s o=> ?_
  refine Ok.bind (ZN 0 (D+1) (x%10) aa aa aa ai aa) fun t p=> ?_
  exact Ok.cat aa fun u q=>Ok.mk aa
theorem qZg{x:Int}(a:0<=x)(b:x<=9007199254740992)(c:100<N):Ok (xN N x) fun s=>s.size<=16:=
 ZN 15 N x aa aa a (by rw[show(10:Int)^(15+1)=10000000000000000 from by kernel_rfl];omega) aa
theorem Ok.digits{x:Int}{f:BA->Option β}(a:0<=x)(b:x<=9007199254740992)(c:100<N)(h:∀s:BA,s.size<=16->Ok (f s) Q):Ok ((xN N x).bind f) Q:=Ok.bind (qZg a b c) h
end
def rE:Nat->Nat
 |0=>8
 |d+1=>3*rE d+8
def vE:Nat->Nat
 |0=>22
 |d+1=>3*vE d+20
theorem qLe:∀d,22<=vE d
 |0=>jN _
 |d+1=>by have:=qLe d;simp only[vE];omega
section
variable {N:Nat} {l:List Int}
def FE(N:Nat)(l:List Int)(E:(List Int×Int)->Int->List BA->Option ((List Int×Int)×BA))(d:Nat)(ps:List BA):Prop:=
 ∀a:Int,0<=a->a+rE d<2000000000000000000->Ok (E (l,a) (d:Int) ps) fun y=>∃a' s,y=((l,a'),s)/\a<=a'/\a'<=a+rE d/\s.size<=vE d
theorem Ok.expr{β:Type}{Q:β->Prop}{E:(List Int×Int)->Int->List BA->Option ((List Int×Int)×BA)}{d:Nat}{ps:List BA}(n:FE N l E d ps){a:Int}{f:(List Int×Int)×BA->Option β}(g:0<=a)(k:a+rE d<2000000000000000000)
  (h:∀(a':Int) (s:BA),a<=a'->a'<=a+rE d->s.size<=vE d->Ok (f ((l,a'),s)) Q):Ok ((E (l,a) (d:Int) ps).bind f) Q:=
 Ok.bind (n a g k) fun y o=>by
  obtain⟨a',s,rfl,b,c,e⟩:=o
  exact h a' s b c e
theorem qGx(d:Nat)(a:d<=5):rE d<=10000/\vE d<=20000:=by
 match d,a with
 |0,_=>decide
 |1,_=>decide
 |2,_=>decide
 |3,_=>decide
 |4,_=>decide
 |5,_=>decide
set_option maxHeartbeats 4000000 in
theorem qYl{E:(List Int×Int)->Int->List BA->Option ((List Int×Int)×BA)}{d:Nat}{ps:List BA}(g:d=0)(c:ps.length<1000)(b:∀x∈ps,x.size<=12)(e:100<N):FE N l (HE N E) d ps:=by
 subst g
 intro a n o
 have f:rE 0=8:=rfl
 have k:vE 0=22:=rfl
 simp only[HE,f,k,CB,RE]
 rw[if_pos (show decide (((0:Nat):Int)<=0)=true by decide)]
 repeat' first
  |with_reducible apply Ok.tt
  |with_reducible apply Ok.ff
  |with_reducible apply Ok.ttb
  |with_reducible apply Ok.ffb
  |with_reducible apply Ok.assoc
  |((with_reducible apply Ok.iteb)<;>intro _)
  |((with_reducible apply Ok.ite)<;>intro _)
  |with_reducible apply Ok.someb
  |with_reducible apply Ok.mapb
  |((with_reducible refine Ok.mk ⟨_,_,rfl,?_,?_,?_⟩)<;>omega)
  |((with_reducible refine Ok.next ?_ ?_ ?_ ?_ (fun _ _ _=> ?_))<;>try omega)
  |((with_reducible refine Ok.chance ?_ ?_ ?_ ?_ (fun _=> ?_))<;>try omega)
  |((with_reducible refine Ok.pickS ?_ ?_ ac (fun _ _ _=> ?_))<;>try omega)
  |((with_reducible refine Ok.oneP ?_ ?_ (by assumption) c b (fun _ _=> ?_))<;>try omega)
  |((with_reducible refine Ok.oneS ?_ ?_ ac (fun _ _=> ?_))<;>try omega)
  |((with_reducible refine Ok.digits ?_ ?_ e (fun _ _=> ?_))<;>try omega)
  |((with_reducible refine Ok.cat ?_ (fun _ h=> ?_))<;>simp only[qE,kD,jC,jD,Nat.reduceAdd] at* <;>try omega)
  |((with_reducible refine Ok.cat ?_ (fun _ _=> ?_))<;>try omega)
  |(apply Ok.iteb<;>intro _)
  |dsimp only
 all_goals omega
theorem Ok.pick01{β:Type}{Q:β->Prop}{a:Int}{f:(List Int×Int)×Int->Option β}(b:0<=a)(c:a<4611686018427387904)(h:∀x:Int,x=0\/x=1->Ok (f ((l,a+1),x)) Q):Ok ((AD N (l,a) [0,0,0,1]).bind f) Q:=
 Ok.pick b c ac ac fun x d=>h x (by simp at d;omega)
theorem Ok.exprloop{β:Type}{Q:β->Prop}{E:(List Int×Int)->Int->List BA->Option ((List Int×Int)×BA)}{d:Nat}{ps:List BA}(r:FE N l E d ps)(x:d<=5){p1:Int}(y:IntKind.wrap .i64 (p1-1)=(d:Int)){s:BA}{n a:Int}{f:BA×List Int×Int->Option β}
  (D:n=0\/n=1) (p:0<=a) (q:a+rE d<2000000000000000000) (F:s.size<=100000000) (B:100<N) (h:∀(s':BA) (a':Int),a<=a'->a'<=a+rE d->s'.size<=s.size+vE d+2->Ok (f (s',l,a')) Q):Ok ((aB (RU N E p1 ps) N (s,n,l,a)).bind f) Q:=by
 have A:=qGx d x
 refine Ok.loop (fun st=>∃s' n' a',st=(s',n',l,a')/\((n'=n/\a'=a/\s'=s)\/(n'=0/\a<=a'/\a'<=a+rE d/\s'.size<=s.size+vE d+2))) (fun st=>st.2.1.toNat) (fun b=>∃s' a',b=(s',l,a')/\a<=a'/\a'<=a+rE d/\s'.size<=s.size+vE d+2) ?_ ⟨s,n,a,rfl,.inl ⟨rfl,rfl,rfl⟩⟩ ak ?_
 .rintro _ ⟨s',n',a',rfl,k⟩
  simp only[RU]
  by_cases hn0:n'>0
  .rw[if_pos (by simpa using hn0),y]
   have k:n'=n/\a'=a/\s'=s:=k.resolve_right fun h=>by omega
   obtain⟨rfl,rfl,rfl⟩:=k
   refine Ok.expr r p q fun o t c e g=> ?_
   refine Ok.cat (by simp only[qE,kD,jC,jD,Nat.reduceAdd];omega) fun u z=> ?_
   simp only[qE,kD,jC,jD,Nat.reduceAdd] at z
   refine Ok.cat aa fun v G=> ?_
   refine Ok.mk ⟨⟨v,_,o,rfl,.inr ⟨by rw[bB aa aa];omega,c,e,by omega⟩⟩,?_⟩
   simp only
   rw[bB aa aa]
   omega
  rw[if_neg (by simpa using hn0)]
  refine Ok.mk ⟨s',a',rfl,?_⟩
  rcases k with ⟨_,rfl,rfl⟩|⟨_,c,e,g⟩
  .omega
  exact⟨c,e,g⟩
 rintro _ ⟨s',a',rfl,c,e,g⟩
 exact h s' a' c e g
set_option maxHeartbeats 8000000 in
theorem qZn{E:(List Int×Int)->Int->List BA->Option ((List Int×Int)×BA)}{d:Nat}{ps:List BA}(c:FE N l E d ps)(s:d<=4)(f:ps.length<1000)(b:∀x∈ps,x.size<=12)(e:100<N):FE N l (HE N E) (d+1) ps:=by
 intro a q r
 have k:rE (d+1)=3*rE d+8:=rfl
 have n:vE (d+1)=3*vE d+20:=rfl
 have o:=qLe d
 have p:=qGx d aa
 have g:IntKind.wrap .i64 (((d+1:Nat):Int)-1)=(d:Int):=by rw[bB aa aa];omega
 simp only[HE,k,n,CB,RE,LC,g]
 repeat' first
  |with_reducible apply Ok.tt
  |with_reducible apply Ok.ff
  |with_reducible apply Ok.ttb
  |with_reducible apply Ok.ffb
  |with_reducible apply Ok.assoc
  |((with_reducible apply Ok.iteb)<;>intro _)
  |((with_reducible apply Ok.ite)<;>intro _)
  |with_reducible apply Ok.someb
  |with_reducible apply Ok.mapb
  |((with_reducible refine Ok.mk ⟨_,_,rfl,?_,?_,?_⟩)<;>omega)
  |((with_reducible refine Ok.next ?_ ?_ ?_ ?_ (fun _ _ _=> ?_))<;>try omega)
  |((with_reducible refine Ok.chance ?_ ?_ ?_ ?_ (fun _=> ?_))<;>try omega)
  |((with_reducible refine Ok.pick01 ?_ ?_ (fun _ _=> ?_))<;>try omega)
  |((with_reducible refine Ok.exprloop c aa g (by assumption) ?_ ?_ ?_ e (fun _ _ _ _ _=> ?_))<;>try omega)
  |((with_reducible refine Ok.expr c ?_ ?_ (fun _ _ _ _ _=> ?_))<;>try omega)
  |((with_reducible refine Ok.pickS ?_ ?_ ac (fun _ _ _=> ?_))<;>try omega)
  |((with_reducible refine Ok.oneP ?_ ?_ (by assumption) f b (fun _ _=> ?_))<;>try omega)
  |((with_reducible refine Ok.oneS ?_ ?_ ac (fun _ _=> ?_))<;>try omega)
  |((with_reducible refine Ok.digits ?_ ?_ e (fun _ _=> ?_))<;>try omega)
  |((with_reducible refine Ok.cat ?_ (fun _ h=> ?_))<;>simp only[qE,kD,jC,jD,Nat.reduceAdd] at* <;>try omega)
  |((with_reducible refine Ok.cat ?_ (fun _ _=> ?_))<;>try omega)
  |(apply Ok.iteb<;>intro _)
  |dsimp only
 all_goals omega
theorem qPj:∀(d D:Nat) (ps:List BA),d<D->d<=5->ps.length<1000->(∀x∈ps,x.size<=12)->100<N->FE N l (LU N D) d ps
 |_,0,_,h,_,_,_,_=>absurd h (kK _)
 |0,D+1,ps,_,_,a,b,c=>qYl (E:=LU N D) rfl a b c
 |d+1,D+1,ps,h,e,a,b,c=>qZn (qPj d D ps aa aa a b c) aa a b c
theorem qNj{d:Nat}{ps:List BA}(e:d<=5)(a:ps.length<1000)(b:∀x∈ps,x.size<=12)(c:100<N):FE N l (EE N) d ps:=qPj d N ps aa e a b c
theorem Ok.expr3{β:Type}{Q:β->Prop}{ps:List BA}{a:Int}{f:(List Int×Int)×BA->Option β}(g:100<N)(e:0<=a)(o:a+10000<2000000000000000000)(b:ps.length<=2/\∀x∈ps,x.size<=12)
  (h:∀(a':Int) (s:BA),a<=a'->a'<=a+10000->s.size<=854->Ok (f ((l,a'),s)) Q):Ok ((EE N (l,a) 3 ps).bind f) Q:=
 Ok.expr (d:=3) (qNj aa aa b.2 g) e (by have:rE 3=320:=rfl;have:rE 2=104:=rfl;omega) fun a' s c k n=>h a' s c (by have:rE 3=320:=rfl;omega) (by have:vE 3=854:=rfl;omega)
theorem Ok.expr2{β:Type}{Q:β->Prop}{ps:List BA}{a:Int}{f:(List Int×Int)×BA->Option β}(g:100<N)(e:0<=a)(o:a+10000<2000000000000000000)(b:ps.length<=2/\∀x∈ps,x.size<=12)
  (h:∀(a':Int) (s:BA),a<=a'->a'<=a+10000->s.size<=854->Ok (f ((l,a'),s)) Q):Ok ((EE N (l,a) 2 ps).bind f) Q:=
 Ok.expr (d:=2) (qNj aa aa b.2 g) e (by have:rE 3=320:=rfl;have:rE 2=104:=rfl;omega) fun a' s c k n=>h a' s c (by have:rE 2=104:=rfl;omega) (by have:vE 2=278:=rfl;omega)
set_option maxHeartbeats 8000000 in
theorem zDd{a:Int}(b:100<N)(c:0<=a)(d:a<1000000000000000000):Ok (HJ N (l,a)) fun y=>∃a' s,y=((l,a'),s)/\a<=a'/\a'<=a+10010/\s.size<=890:=by
 simp only[HJ,LY,CB,LC]
 repeat' first
  |with_reducible apply Ok.tt
  |with_reducible apply Ok.ff
  |with_reducible apply Ok.ttb
  |with_reducible apply Ok.ffb
  |with_reducible apply Ok.assoc
  |((with_reducible apply Ok.iteb)<;>intro _)
  |((with_reducible apply Ok.ite)<;>intro _)
  |with_reducible apply Ok.someb
  |with_reducible apply Ok.mapb
  |((with_reducible refine Ok.mk ⟨_,_,rfl,?_,?_,?_⟩)<;>omega)
  |((with_reducible refine Ok.next ?_ ?_ ?_ ?_ (fun _ _ _=> ?_))<;>try omega)
  |((with_reducible refine Ok.chance ?_ ?_ ?_ ?_ (fun _=> ?_))<;>try omega)
  |((with_reducible refine Ok.expr3 b ?_ ?_ ?_ (fun _ _ _ _ _=> ?_))<;>first|omega|exact⟨by decide,by decide⟩|skip)
  |((with_reducible refine Ok.expr2 b ?_ ?_ ?_ (fun _ _ _ _ _=> ?_))<;>first|omega|exact⟨by decide,by decide⟩|skip)
  |(with_reducible refine Ok.app ae ac ?_)
  |((with_reducible refine Ok.pickS ?_ ?_ ac (fun _ _ _=> ?_))<;>try omega)
  |((with_reducible refine Ok.oneS ?_ ?_ ac (fun _ _=> ?_))<;>try omega)
  |((with_reducible refine Ok.digits ?_ ?_ b (fun _ _=> ?_))<;>try omega)
  |((with_reducible refine Ok.cat ?_ (fun _ h=> ?_))<;>simp only[qE,kD,jC,jD,Nat.reduceAdd] at* <;>try omega)
  |((with_reducible refine Ok.cat ?_ (fun _ _=> ?_))<;>try omega)
  |(apply Ok.iteb<;>intro _)
  |dsimp only
 all_goals omega
theorem zFu{L:List BA}{x:BA}(a:L.length<1000000)(c:L.length<N):Ok (HK N L x) fun _=>True:=by
 unfold HK
 refine Ok.loop (fun st=>∃j:Nat,st=(j:Int)/\j<=L.length) (fun st=>L.length-st.toNat) (fun _=>True) ?_ ⟨0,rfl,jW _⟩ (by show L.length-(0:Int).toNat<N;omega) ?_
 .rintro _ ⟨j,rfl,d⟩
  simp only[WK]
  by_cases h:j<L.length
  .rw[if_pos (by simpa using h),cQ h]
   simp only[j0]
   refine Ok.ite (fun _=>Ok.mk trivial) fun _=>Ok.mk ⟨⟨j+1,by rw[bB aa aa];omega,by omega⟩,?_⟩
   rw[bB aa aa];omega
  rw[if_neg (by simpa using h)];exact Ok.mk trivial
 intro b _
 cases b<;>exact Ok.mk trivial
theorem Ok.has{β:Type}{Q:β->Prop}{L:List BA}{x:BA}{f:Bool->Option β}(a:L.length<1000000)(c:L.length<N)(h:∀b,Ok (f b) Q):Ok ((HK N L x).bind f) Q:=Ok.bind (zFu a c) fun b _=>h b
theorem Ok.decl{β:Type}{Q:β->Prop}{a:Int}{f:(List Int×Int)×BA->Option β}(k:100<N)(e:0<=a)(g:a<1000000000000000000)
  (h:∀(a':Int) (s:BA),a<=a'->a'<=a+10010->s.size<=890->Ok (f ((l,a'),s)) Q):Ok ((HJ N (l,a)).bind f) Q:=
 Ok.bind (zDd k e g) fun y n=>by
  obtain⟨a',s,rfl,b,c,d⟩:=n
  exact h a' s b c d
theorem zEd{β:Type}{Q:β->Prop}{y:(List Int×Int)×BA}{f:BA->Option β}(d:y.2.size<=890)(a:3000<N)(h:∀s:BA,Ok (f s) Q):Ok ((aB (QW N y) N (y.2,0)).bind f) Q:=by
 refine Ok.loop (fun st=>∃j:Nat,st.2=(j:Int)/\j<=y.2.size) (fun st=>y.2.size-st.2.toNat) (fun _=>True) ?_ ⟨0,rfl,jW _⟩ ak (fun b _=>h b)
 rintro⟨s,_⟩ ⟨j,rfl,c⟩
 simp only[QW]
 by_cases hlt:j<y.2.size
 .rw[if_pos (by simpa using hlt),ZQ hlt]
  simp only[j0]
  refine Ok.bind (P:=fun _=>True) (Ok.ite (fun _=>Ok.mk trivial) fun _=>Ok.mk trivial) fun b _=> ?_
  refine Ok.ite (fun _=> ?_) fun _=> ?_
  .rw[MT aa aa aa];exact Ok.mk trivial
  refine Ok.mk ⟨⟨j+1,by simp only;rw[bB aa aa];omega,by omega⟩,?_⟩
  simp only;rw[bB aa aa];omega
 rw[if_neg (by simpa using hlt)];exact Ok.mk trivial
theorem XW{a:Int}{pk:BA}(D:3000<N)(A:0<=a)(h1:a<100000000000000000)(hp:pk.size<=12):Ok (EC N (l,a) pk) fun y=>∃a' s,y=((l,a'),s)/\a<=a'/\a'<=a+100000/\s.size<=4700:=by
 simp only[EC]
 refine Ok.cat (by simp only[qE,kD,jC,jD,Nat.reduceAdd];omega) fun s1 q=> ?_
 simp only[qE,kD,jC,jD,Nat.reduceAdd] at q
 refine Ok.cat (by simp only[qE,kD,jC,jD,Nat.reduceAdd];omega) fun s2 u=> ?_
 simp only[qE,kD,jC,jD,Nat.reduceAdd] at u
 refine Ok.chance A aa aa aa fun c=> ?_
 refine Ok.bind (P:=fun s:BA=>s.size<=60) (Ok.ite (fun _=>Ok.cat (by simp only[qE,kD,jC,jD,Nat.reduceAdd];omega) fun s3 h=>Ok.mk (by simp only[qE,kD,jC,jD,Nat.reduceAdd] at h;omega)) fun _=>Ok.mk aa) fun R h=> ?_
 dsimp only
 refine Ok.next aa aa aa aa fun r z g2=> ?_
 dsimp only
 -- imports
 refine Ok.loop (fun st=>∃s L n a',st=(s,L,n,l,a')/\0<=n/\n<=2/\(L.length:Int)+n<=2/\(s.size:Int)<=60+30*(2-n)/\a<=a'/\a'<=a+10+(2-n)) (fun st=>st.2.2.1.toNat) (fun b=>∃s a',b=(s,l,a')/\s.size<=120/\a<=a'/\a'<=a+20) ?_ ⟨R,[],r,a+1+1,rfl,z,by omega,by simp only[jD];omega,by omega,by omega,by omega⟩ ak ?_
 .rintro _ ⟨s,L,n,a',rfl,F,G,H,K,f,M⟩
  simp only[WC,AE]
  by_cases hn:n>0
  .rw[if_pos (by simpa using hn)]
   refine Ok.assoc (Ok.someb ?_)
   refine Ok.assoc (Ok.oneS aa aa ac fun x E=> ?_)
   dsimp only
   refine Ok.assoc (Ok.bind (P:=fun _=>True) (Ok.ite (fun _=>Ok.has aa aa fun b=>Ok.mk trivial) fun _=>Ok.mk trivial) fun p _=> ?_)
   refine Ok.iteb (fun _=> ?_) fun _=> ?_
   .refine Ok.assoc (Ok.app ag ac ?_)
    refine Ok.assoc (Ok.cat (by simp only[qE,kD,jC,jD,Nat.reduceAdd];omega) fun t1 k=> ?_)
    simp only[qE,kD,jC,jD,Nat.reduceAdd] at k
    refine Ok.assoc (Ok.cat (by simp only[qE,kD,jC,jD,Nat.reduceAdd];omega) fun t2 e=> ?_)
    simp only[qE,kD,jC,jD,Nat.reduceAdd] at e
    refine Ok.assoc (Ok.cat aa fun g v=>Ok.someb (Ok.mk ?_))
    dsimp only
    rw[bB aa aa]
    exact⟨⟨g,_,_,_,rfl,by omega,by omega,by simp only[jB,jC,jD];omega,by omega,by omega,by omega⟩,by omega⟩
   refine Ok.someb (Ok.mk ?_)
   dsimp only
   rw[bB aa aa]
   exact⟨⟨s,_,_,_,rfl,by omega,by omega,by omega,by omega,by omega,by omega⟩,by omega⟩
  rw[if_neg (by simpa using hn)]
  exact Ok.mk ⟨s,a',rfl,by omega,f,by omega⟩
 rintro _ ⟨s,p,rfl,q1,q2,q3⟩
 dsimp only
 refine Ok.next aa aa aa aa fun r2 g3 g4=> ?_
 dsimp only
 -- declarations
 refine Ok.loop (fun st=>∃s L n a',st=(s,L,n,l,a')/\0<=n/\n<=5/\(L.length:Int)+n<=5/\(s.size:Int)<=120+890*(5-n)/\a<=a'/\a'<=a+100+10020*(5-n)) (fun st=>st.2.2.1.toNat) (fun b=>∃s a',b=(s,l,a')/\s.size<=4580/\a<=a'/\a'<=a+60000) ?_ ⟨s,[],_,p+1,rfl,by rw[bB aa aa];omega,by rw[bB aa aa];omega,by rw[bB aa aa];simp only[jD];omega,by rw[bB aa aa];omega,by omega,by rw[bB aa aa];omega⟩ (by simp only;rw[bB aa aa];omega) ?_
 .rintro _ ⟨s,L,n,a',rfl,F,G,H,K,f,M⟩
  simp only[VZ]
  by_cases hn:n>0
  .rw[if_pos (by simpa using hn)]
   refine Ok.assoc (Ok.decl aa aa aa fun e d v1 v2 U=> ?_)
   refine Ok.assoc (zEd (y:=((l,e),d)) U D fun hd=> ?_)
   dsimp only
   refine Ok.assoc (Ok.bind (P:=fun o:Bool×List Int×Int=>o.2.1=l/\e<=o.2.2/\o.2.2<=e+1) (Ok.has aa aa fun b=>Ok.ite (fun _=>Ok.mk ⟨rfl,by simp only;omega,by simp only;omega⟩) fun _=>Ok.chance aa aa aa aa fun c=>Ok.mk ⟨rfl,by simp only;omega,by simp only;omega⟩) fun S B=> ?_)
   obtain⟨b9,l9,Z⟩:=S
   obtain⟨rfl,V,Y⟩:=B
   dsimp only at V Y ⊢
   refine Ok.iteb (fun _=> ?_) fun _=> ?_
   .refine Ok.assoc (Ok.app ag ac ?_)
    refine Ok.assoc (Ok.cat aa fun g v=>Ok.someb (Ok.mk ?_))
    dsimp only
    rw[bB aa aa]
    exact⟨⟨g,_,_,_,rfl,by omega,by omega,by simp only[jB,jC,jD];omega,by omega,by omega,by omega⟩,by omega⟩
   refine Ok.someb (Ok.mk ?_)
   dsimp only
   rw[bB aa aa]
   exact⟨⟨s,_,_,_,rfl,by omega,by omega,by omega,by omega,by omega,by omega⟩,by omega⟩
  rw[if_neg (by simpa using hn)]
  exact Ok.mk ⟨s,a',rfl,by omega,f,by omega⟩
 rintro _ ⟨s,e,rfl,f,g,v⟩
 dsimp only
 refine Ok.chance aa aa aa aa fun c=> ?_
 dsimp only
 refine Ok.iteb (fun _=> ?_) fun _=> ?_
 .refine Ok.assoc (Ok.oneS aa aa ac fun x E=> ?_)
  dsimp only
  refine Ok.assoc (Ok.cat aa fun t k=>Ok.someb (Ok.mk ?_))
  dsimp only
  refine⟨_,_,rfl,?_,?_,?_⟩<;>omega
 refine Ok.someb (Ok.mk ?_)
 dsimp only
 refine⟨_,_,rfl,?_,?_,?_⟩<;>omega
end
theorem MI{N:Nat}{L:List bS}{p b:BA}(s:L.length<1000000)(n:Asc L):∀(d i M:Nat) (done:Bool) (acc:List bS),i+d=L.length->d<M->acc.length<=i+done.toNat->(done=true->∀f∈L.drop i,f.1≠p)->
  Ok (aB (LD N L (p,b)) M (done,(i:Int),acc)) fun o=>o.2.length<=L.length+1/\(if o.1 then o.2 else o.2++[(p,b)])=acc++(if done then L.drop i else pD (L.drop i) p b)
 |_,_,0,_,_,_,h,_,_=>by omega
 |0,i,M+1,done,acc,v,_,g,_=>by
  refine⟨(done,acc),?_,by simp only;cases done<;>simp only[Bool.toNat_true,Bool.toNat_false] at g<;>omega,?_⟩
  .simp only[aB,LD]
   rw[if_neg ad]
   rfl
  rw[jU aa]
  cases done<;>simp[pD]
 |d+1,i,M+1,done,acc,v,x,g,r=>by
  have hi:i<L.length:=by omega
  have u:(i:Int)+1=((i+1:Nat):Int):=by omega
  have t:∀f∈L.drop (i+1),blt (L[i]).1 f.1=true:=by
   have:=(kS.1 (by rw[<-kA hi];exact List.Pairwise.sublist (List.drop_sublist _ _) n:Asc (L[i]::L.drop (i+1)))).1
   exact this
  simp only[aB,LD]
  rw[if_pos ad,cQ hi,bB aa aa,u]
  rw[kA hi] at r ⊢
  simp only[j0,uO]
  cases done with
  |true=>
   simp only[Bool.toNat_true] at g
   have a:=r rfl _ (jF ..)
   have k:=MI (N:=N) (p:=p) (b:=b) s n d (i+1) M true (acc++[((L[i]).1,(L[i]).2)]) aa aa ai (fun h f q=>r rfl f (jH _ q))
   simp only[kY,jA,jG,j0]
   rw[if_pos (by simp[a]),mC ag aa]
   simp only[j0]
   refine k.mono fun o c=>⟨c.1,?_⟩
   rw[c.2];simp only[jI,jE,jT,jP]
  |false=>
   simp only[Bool.toNat_false] at g
   simp only[gB,jI,j0]
   rcases TG p (L[i]).1 with h|h|h
   .have h':Op.bytesLess p.toList (L[i]).1.toList=true:=h
    have a:(L[i]).1≠p:=fun e=>UZ h e.symm
    have k:=MI (N:=N) (p:=p) (b:=b) s n d (i+1) M true ((acc++[(p,b)])++[((L[i]).1,(L[i]).2)]) aa aa ai (fun _ f q e=>by
     have:=IB h (t f q);rw[e,CE] at this;cases this)
    rw[h',Bool.true_or,if_pos rfl,mC ag aa]
    simp only[j0]
    rw[if_pos (by simp[a]),mC aj aa]
    simp only[j0]
    refine k.mono fun o c=>⟨c.1,?_⟩
    have l:pD (L[i]::L.drop (i+1)) p b=(p,b)::L[i]::L.drop (i+1):=by rw[pD,if_pos h]
    rw[c.2,l];simp only[jI,jE,jT,jP,jA,jG]
   .have k:=MI (N:=N) (p:=p) (b:=b) s n d (i+1) M true (acc++[(p,b)]) aa aa ai (fun _ f q e=>by
     have:=t f q;rw[<-h,e,CE] at this;cases this)
    rw[jR h,Bool.or_true,if_pos rfl,mC ag aa]
    simp only[j0]
    rw[if_neg (by simp[h])]
    simp only[j0]
    refine k.mono fun o c=>⟨c.1,?_⟩
    have l:pD (L[i]::L.drop (i+1)) p b=(p,b)::L.drop (i+1):=by rw[pD,if_neg (by rw[h,CE];simp),if_pos h.symm]
    rw[c.2,l];simp only[jI,jE,jT,jP,jA,jG]
   have a:(L[i]).1≠p:=UZ h
   have h':Op.bytesLess p.toList (L[i]).1.toList=false:=qHz h
   have k:=MI (N:=N) (p:=p) (b:=b) s n d (i+1) M false (acc++[((L[i]).1,(L[i]).2)]) aa aa ai (fun h=>by cases h)
   rw[h',jX (fun e=>a e.symm),Bool.or_false,if_neg ae]
   simp only[j0]
   rw[if_pos (by simp[a]),mC ag aa]
   simp only[j0]
   refine k.mono fun o c=>⟨c.1,?_⟩
   have l:pD (L[i]::L.drop (i+1)) p b=L[i]::pD (L.drop (i+1)) p b:=by rw[pD,if_neg (by rw[show blt p (L[i]).1=false from h'];simp),if_neg a]
   rw[c.2,l];simp only[jE,jT,jP,jA,jG]
theorem AG{N:Nat}{L:List bS}(p b:BA)(g:L.length<1000000)(f:Asc L)(e:L.length<N):uQ N L (p,b)=some (pD L p b):=by
 obtain⟨o,c,k,a⟩:=MI (N:=N) (p:=p) (b:=b) g f L.length 0 N false [] aa e ae (fun h=>by cases h)
 simp only[uQ]
 rw[show((0:Nat):Int)=0 from rfl] at c
 rw[c]
 simp only[kC,jP,jA,jG] at a
 simp only[j0]
 cases d:o.1 with
 |true=>rw[d] at a;simp only[jI] at a;simp[a]
 |false=>
  rw[d] at a
  simp only[jA,jG] at a
  simp only[gB,jI]
  rw[mC ag aa,a]
  rfl
def srcL:List BA:=[(⟨#[97,46,115,114,99]⟩:BA),(⟨#[98,46,115,114,99]⟩:BA),(⟨#[100,47,99,46,115,114,99]⟩:BA),(⟨#[120,46,115,114,99]⟩:BA)]
def datL:List BA:=[(⟨#[97,46,100,97,116]⟩:BA),(⟨#[100,47,98,46,100,97,116]⟩:BA),(⟨#[99]⟩:BA)]
theorem qNb:(srcL.all fun p=>iF p.data.toList)=true:=by kernel_rfl
theorem qNf:(datL.all fun p=>iF p.data.toList)=true:=by kernel_rfl
def Made(L:List bS):Prop:=Asc L/\∀f∈L,f.1∈srcL++datL/\f.2.size<=4700
theorem Made.put{L:List bS}(h:Made L){p b:BA}(d:p∈srcL++datL)(c:b.size<=4700):Made (pD L p b):=
 ⟨h.1.put p b,fun f a=>by
  rcases TP a with rfl|a
  .exact⟨d,c⟩
  exact h.2 f a⟩
theorem Made.path{L:List bS}(h:Made L){f:bS}(a:f∈L):iF f.1.data.toList=true:=by
 rcases kJ.1 (h.2 f a).1 with h|h
 .exact jZ.1 qNb _ h
 exact jZ.1 qNf _ h
theorem zAz{N:Nat}{y1:List BA}{s1:Int×(List (BA×BA))×List (Int)×Int}:QQ N y1 s1=
 if(decide (s1.1<(List.length y1:Int)))then(((aO y1 s1.1).bind fun c=>(uP N (s1.2.2.1,s1.2.2.2) 3 4).bind fun a=>if a.2 then((AE N).bind fun d=>(oI N (a.1.1,a.1.2) d).bind fun b=>(EC N (b.1.1,b.1.2) b.2).bind fun y5=>(uQ N s1.2.1 (c,y5.2)).bind fun e=>some (e,y5.1.1,y5.1.2)) else(some (s1.2.1,a.1.1,a.1.2)):Option ((List (BA×BA))×List (Int)×Int)).bind fun o2=>some (.inl (IntKind.wrap .i64 (s1.1+1),o2.1,o2.2.1,o2.2.2))) else(some (.inr (s1.2.1,s1.2.2.1,s1.2.2.2))):=rfl
theorem zBz{N:Nat}{a:Int×(List (BA×BA))×List (Int)×Int}:VU N a=
 if(decide (a.1<(List.length datL:Int)))then(((aO datL a.1).bind fun e=>(uP N (a.2.2.1,a.2.2.2) 1 3).bind fun b=>if b.2 then((HI N (b.1.1,b.1.2)).bind fun d=>(uQ N a.2.1 (e,d.2)).bind fun f=>some (f,d.1.1,d.1.2)) else(some (a.2.1,b.1.1,b.1.2)):Option ((List (BA×BA))×List (Int)×Int)).bind fun c=>some (.inl (IntKind.wrap .i64 (a.1+1),c.1,c.2.1,c.2.2))) else(some (.inr (a.2.1,a.2.2.1,a.2.2.2))):=rfl
theorem qOc{N:Nat}{l:List Int}{a:Int}(p:100<N)(k:0<=a)(o:a<1000000000000000000):Ok (HI N (l,a)) fun y=>∃a' s,y=((l,a'),s)/\a<=a'/\a'<=a+10/\s.size<=10:=by
 simp only[HI]
 refine Ok.next aa aa aa aa fun r g h=> ?_
 dsimp only
 simp only[WB]
 refine Ok.assoc ?_
 refine Ok.loop (fun st=>∃L n a',st=(L,n,l,a')/\0<=n/\n<=r/\(L.length:Int)=n/\a<=a'/\a'<=a+1+n) (fun st=>(r-st.2.1).toNat) (fun b=>∃L a',b=(L,l,a')/\L.length<=4/\a<=a'/\a'<=a+5) ?_ ⟨[],0,a+1,rfl,by omega,by omega,rfl,by omega,by omega⟩ (by dsimp only;omega) ?_
 .rintro _ ⟨L,n,a',rfl,t,u,v,x,z⟩
  have c:ByteArray.size (⟨#[97,98,0,255,48]⟩:BA)=5:=rfl
  simp only[VT,c]
  by_cases hn:n<r
  .rw[if_pos (by simpa using hn)]
   refine Ok.next aa aa aa aa fun q d v2=> ?_
   dsimp only
   have e:q.toNat<ByteArray.size (⟨#[97,98,0,255,48]⟩:BA):=by rw[c];omega
   have f:lI (⟨#[97,98,0,255,48]⟩:BA) q=some ((⟨#[97,98,0,255,48]⟩:BA)[q.toNat]):=by
    have:=ZQ e
    rw[Int.toNat_of_nonneg d] at this
    exact this
   rw[f]
   refine Ok.someb (Ok.app ag ac (Ok.mk ?_))
   dsimp only
   rw[bB aa aa]
   exact⟨⟨_,_,_,rfl,by omega,by omega,by simp only[jB,jC,jD];omega,by omega,by omega⟩,by omega⟩
  rw[if_neg (by simpa using hn)]
  exact Ok.mk ⟨L,a',rfl,by omega,by omega,by omega⟩
 rintro _ ⟨L,a',rfl,d,v2,c⟩
 refine Ok.someb (Ok.mk ?_)
 dsimp only
 refine⟨_,_,rfl,?_,?_,?_⟩
 .omega
 .omega
 rw[mG];omega
theorem qUz{N:Nat}{l:List Int}{a:Int}(k:3000<N)(z:0<=a)(A:a<10000000000000000):Ok (RJ N (l,a)) fun y=>∃a' L,y=((l,a'),L)/\a<=a'/\a'<=a+1000000/\Made L/\L.length<=7:=by
 simp only[RJ,LN]
 refine Ok.someb ?_
 show Ok ((aB (QQ N srcL) N (0,[],l,a)).bind _) _
 refine Ok.loop (fun st=>∃(n:Nat) (L:List bS) (a':Int),st=((n:Int),L,l,a')/\n<=4/\L.length<=n/\Made L/\a<=a'/\a'<=a+100010*n) (fun st=>4-st.1.toNat) (fun b=>∃L a',b=(L,l,a')/\L.length<=4/\Made L/\a<=a'/\a'<=a+500000) ?_ ⟨0,[],a,rfl,by omega,by simp,⟨List.Pairwise.nil,by simp⟩,by omega,by omega⟩ (by dsimp only;omega) ?_
 .rintro _ ⟨n,L,a',rfl,p,q,e,r,t⟩
  rw[zAz]
  have d:srcL.length=4:=rfl
  dsimp only
  by_cases hn:n<4
  .rw[if_pos (by simp only[j7,d];omega),cQ (l:=srcL) aa]
   refine Ok.assoc (Ok.someb ?_)
   refine Ok.assoc (Ok.chance aa aa aa aa fun c=> ?_)
   dsimp only
   refine Ok.iteb (fun _=> ?_) fun _=> ?_
   .refine Ok.assoc (Ok.someb ?_)
    refine Ok.assoc (Ok.oneS aa aa ac fun x h=> ?_)
    dsimp only
    refine Ok.assoc (Ok.bind (XW k aa aa h) ?_)
    rintro _ ⟨f,s,rfl,v,v2,g⟩
    dsimp only
    rw[AG _ _ aa e.1 aa]
    refine Ok.assoc (Ok.someb (Ok.someb (Ok.mk ?_)))
    dsimp only
    have o:=SZ L (srcL[n]) s
    refine⟨⟨n+1,_,_,by rw[bB aa aa];rfl,by omega,by omega,e.put (kE _ (jM _)) g,by omega,by omega⟩,?_⟩
    rw[bB aa aa];omega
   refine Ok.someb (Ok.mk ?_)
   dsimp only
   refine⟨⟨n+1,_,_,by rw[bB aa aa];rfl,by omega,by omega,e,by omega,by omega⟩,?_⟩
   rw[bB aa aa];omega
  rw[if_neg (by simp only[j7,d];omega)]
  exact Ok.mk ⟨L,a',rfl,by omega,e,by omega,by omega⟩
 rintro _ ⟨L1,h,rfl,B,u,D,E⟩
 dsimp only
 refine Ok.loop (fun st=>∃(n:Nat) (L:List bS) (a':Int),st=((n:Int),L,l,a')/\n<=3/\L.length<=4+n/\Made L/\a<=a'/\a'<=a+500000+20*n) (fun st=>3-st.1.toNat) (fun b=>∃L a',b=(L,l,a')/\L.length<=7/\Made L/\a<=a'/\a'<=a+600000) ?_ ⟨0,L1,h,rfl,by omega,by omega,u,by omega,by omega⟩ (by dsimp only;omega) ?_
 .rintro _ ⟨n,L,a',rfl,p,q,e,r,t⟩
  rw[zBz]
  have d:datL.length=3:=rfl
  dsimp only
  by_cases hn:n<3
  .rw[if_pos (by simp only[j7,d];omega),cQ (l:=datL) aa]
   refine Ok.assoc (Ok.someb ?_)
   refine Ok.assoc (Ok.chance aa aa aa aa fun c=> ?_)
   dsimp only
   refine Ok.iteb (fun _=> ?_) fun _=> ?_
   .refine Ok.assoc (Ok.bind (qOc aa aa aa) ?_)
    rintro _ ⟨f,s,rfl,v,v2,g⟩
    dsimp only
    rw[AG _ _ aa e.1 aa]
    refine Ok.assoc (Ok.someb (Ok.someb (Ok.mk ?_)))
    dsimp only
    have o:=SZ L (datL[n]) s
    refine⟨⟨n+1,_,_,by rw[bB aa aa];rfl,by omega,by omega,e.put (kW _ (jM _)) aa,by omega,by omega⟩,?_⟩
    rw[bB aa aa];omega
   refine Ok.someb (Ok.mk ?_)
   dsimp only
   refine⟨⟨n+1,_,_,by rw[bB aa aa];rfl,by omega,by omega,e,by omega,by omega⟩,?_⟩
   rw[bB aa aa];omega
  rw[if_neg (by simp only[j7,d];omega)]
  exact Ok.mk ⟨L,a',rfl,by omega,e,by omega,by omega⟩
 rintro _ ⟨L2,f,rfl,d,e,g,o⟩
 refine Ok.mk ?_
 exact⟨f,L2,rfl,by omega,by omega,e,d⟩
theorem Made.wf{L:List bS}(h:Made L)(b:L.length<=64):WF L:=⟨b,h.1,fun f a=>⟨h.path a,gJ (h.2 f a).2 ac⟩⟩
def MadeE(K:Nat)(L:List bS):Prop:=Asc L/\∀f∈L,iF f.1.data.toList=true/\f.2.size<=K
theorem Made.e{L:List bS}(h:Made L):MadeE 4700 L:=⟨h.1,fun f a=>⟨h.path a,(h.2 f a).2⟩⟩
theorem MadeE.put{K:Nat}{L:List bS}(h:MadeE K L){p b:BA}(d:iF p.data.toList=true)(c:b.size<=K):MadeE K (pD L p b):=
 ⟨h.1.put p b,fun f a=>by
  rcases TP a with rfl|a
  .exact⟨d,c⟩
  exact h.2 f a⟩
theorem MadeE.del{K:Nat}{L:List bS}(h:MadeE K L)(p:BA):MadeE K (BD L p):=⟨h.1.del p,fun f a=>h.2 f (gQ.1 a).1⟩
theorem MadeE.more{K K':Nat}{L:List bS}(h:MadeE K L)(b:K<=K'):MadeE K' L:=⟨h.1,fun f a=>⟨(h.2 f a).1,gJ (h.2 f a).2 b⟩⟩
theorem MadeE.wf{K:Nat}{L:List bS}(h:MadeE K L)(b:K<=16384)(c:L.length<=64):WF L:=⟨c,h.1,fun f a=>⟨(h.2 f a).1,gJ (h.2 f a).2 b⟩⟩
theorem qIp{N:Nat}{L:List bS}{p:BA}(g:L.length<1000000)(d:L.length<N):LV N L p=some (BD L p):=by
 have h:=sK (L:=L) (fun(t:List bS) i=>((i:Int),t)) (f:=KR N L p) (fun t f=>(.inl (if decide (f.1≠p)then t++[f] else t):List bS⊕List bS)) (fun t=>t) (fun i t=>t.length<=i) (fun t i hi e=>by
   have b:((i:Int)<(L.length:Int)):=by omega
   have w:IntKind.wrap .i64 ((i:Int)+1)=((i+1:Nat):Int):=by rw[bB aa aa];omega
   simp only[KR,b,decide_true,jI,cQ hi,j0,w,uO]
   by_cases hp:L[i].1=p
   .simp[hp]
   .simp only[hp,decide_false,gB,jI,uB,dD,decide_true]
    rw[mC ag ac]
    rfl) (fun t i hi t' e c=>by
   simp only[Sum.inl.injEq] at c
   subst c
   split
   .simp only[jB,jC,jD];omega
   .omega) (fun t _=>by
   have b:¬((L.length:Int)<(L.length:Int)):=by omega
   simp only[KR,b,decide_false,jA,jG]) (t:=[]) d (jW _)
 rw[show((0:Nat):Int)=0 from rfl] at h
 have b:=EQ (step:=fun(t:List bS) (f:bS)=>(.inl (if decide (f.1≠p)then t++[f] else t):List bS⊕List bS)) (fin:=fun t=>t) (fun(t:List bS) (f:bS)=>if decide (f.1≠p)then t++[f] else t) (fun _ _=>rfl) L []
 unfold LV
 rw[h,b]
 simp only[j0]
 congr 1
 have:∀(a t:List bS),a.foldl (fun t f=>if decide (f.1≠p)then t++[f] else t) t=t++BD a p:=by
  intro a
  induction a with
  |nil=>intro t;simp[BD]
  |cons x a c=>
   intro t
   rw[gG,c]
   unfold BD
   rw[fQ]
   split<;>simp
 rw[this];rfl
theorem qNk(L:List bS)(p:BA):(BD L p).length<=L.length:=List.length_filter_le _ _
def FU(l:List Int)(a:Int)(K:Nat)(L:List bS)(z:(List Int×Int)×List bS):Prop:=∃a' L',z=((l,a'),L')/\a<=a'/\a'<=a+200000/\MadeE (K+900) L'/\L'.length<=L.length+1
section
variable {N:Nat} {l:List Int} {a:Int} {K:Nat} {L:List bS}
theorem TJ{f:Int->Option (Int⊕(Unit⊕((List Int×Int)×List bS)))}{Q:(List Int×Int)×List bS->Prop}{p:BA}(n:L.length<=100)(l:200<N)
  (g:∀j,∀d:j<L.length,L[j].1=p->Ok (f (j:Int)) fun r=>∃z,r= .inr (.inr z)/\Q z) (h:∀j,∀d:j<L.length,¬L[j].1=p->f (j:Int)=some (.inl ((j+1:Nat):Int))) (e:f (L.length:Int)=some (.inr (.inl ()))):
  Ok (aB f N 0) fun o=>o= .inl ()\/∃z,o= .inr z/\Q z:=by
 obtain⟨b,a,c⟩:=ZA (f:=f) (fun s=>∃j:Nat,s=(j:Int)/\j<=L.length) (fun s=>L.length-s.toNat) (fun o=>o= .inl ()\/∃z,o= .inr z/\Q z) (fun s k=>by
  obtain⟨j,rfl,d⟩:=k
  by_cases hlt:j<L.length
  .by_cases hp:L[j].1=p
   .obtain⟨r,a,z,rfl,c⟩:=g j hlt hp
    exact .inl ⟨_,a,.inr ⟨z,rfl,c⟩⟩
   exact .inr ⟨_,h j hlt hp,⟨j+1,rfl,hlt⟩,by simp only[jQ];omega⟩
  have:j=L.length:=by omega
  subst this
  exact .inl ⟨_,e,.inl rfl⟩) N 0 ⟨0,rfl,jW _⟩ (by simp only[fU];omega)
 exact⟨b,a,c⟩
theorem zGe(M:Nat):xN (M+1) 0=some (⟨#[48]⟩:BA)/\xN (M+1) 1=some (⟨#[49]⟩:BA)/\xN (M+1) 2=some (⟨#[50]⟩:BA):=⟨by kernel_rfl,by kernel_rfl,by kernel_rfl⟩
theorem IG{x y z:BA}(h:x++y=z)(a:x.size+y.size<=1000):bG x y=some z:=by
 unfold bG
 rw[if_pos (by simp only[maxLen];omega),h]
theorem zHn{x:Int}(d:0<=x)(e:x<3){M:Nat}:∃s t p:BA,xN (M+1) x=some s/\bG (⟨#[122]⟩:BA) s=some t/\bG t (⟨#[46,115,114,99]⟩:BA)=some p/\iF p.data.toList=true:=by
 obtain⟨d0,a,b⟩:=zGe M
 have c:x=0\/x=1\/x=2:=by omega
 rcases c with rfl|rfl|rfl
 .exact⟨_,⟨#[122,48]⟩,⟨#[122,48,46,115,114,99]⟩,d0,IG ah ac,IG ah ac,by kernel_rfl⟩
 .exact⟨_,⟨#[122,49]⟩,⟨#[122,49,46,115,114,99]⟩,a,IG ah ac,IG ah ac,by kernel_rfl⟩
 exact⟨_,⟨#[122,50]⟩,⟨#[122,50,46,115,114,99]⟩,b,IG ah ac,IG ah ac,by kernel_rfl⟩
theorem zCn{p:BA}(h:p∈srcL):iF p.data.toList=true:=jZ.1 qNb p h
theorem zAr{p:BA}(h:p∈datL):iF p.data.toList=true:=jZ.1 qNf p h
theorem zEk(hN:3000<N)(V:0<=a)(h1:a<10000000000000000)(g:MadeE K L)(hK:4700<=K)(a0:K<=100000)(h:L.length<=100):Ok (SK N (l,a) L) (FU l a K L):=by
 obtain⟨M,rfl⟩:∃M,N=M+1:=⟨N-1,by omega⟩
 have y:MadeE (K+900) L:=g.more aa
 have f:∀(a':Int) {p b:BA},a<=a'->a'<=a+200000->iF p.data.toList=true->b.size<=K+900->FU l a K L ((l,a'),pD L p b):=fun a' {p b} F G E Z=>
  ⟨a',_,rfl,F,G,y.put E Z,SZ L p b⟩
 unfold SK LN
 refine Ok.someb (Ok.one V aa ac ac fun p E=> ?_)
 have n:=zCn E
 refine Ok.next al al ac ac fun r r0 r1=> ?_
 dsimp only
 refine Ok.bind (P:=fun q=>q= .inl ()\/∃z,q= .inr z/\FU l a K L z) ?_ ?_
 .refine Ok.ite (fun _=> ?_) fun _=>Ok.ite (fun _=> ?_) fun _=>Ok.ite (fun _=> ?_) fun _=>Ok.ite (fun _=> ?_) fun _=>Ok.ite (fun _=> ?_) fun _=>Ok.ite (fun _=> ?_) fun _=>Ok.mk (.inl rfl)
  .refine Ok.one aa aa ac ac fun q u=> ?_
   have u:q∈datL:=u
   dsimp only
   refine Ok.bind (qOc aa aa aa) ?_
   rintro _ ⟨v,s,rfl,B,v2,R⟩
   dsimp only
   rw[AG _ _ aa g.1 aa]
   exact Ok.mk (.inr ⟨_,rfl,f v aa aa (zAr u) aa⟩)
  .refine Ok.one aa aa ac ac fun q u=> ?_
   dsimp only
   rw[qIp aa aa]
   exact Ok.mk (.inr ⟨_,rfl,_,_,rfl,by omega,by omega,y.del q,by have:=qNk L q;omega⟩)
  .refine Ok.someb (Ok.oneS aa aa ac fun q u=> ?_)
   refine Ok.bind (XW aa al al u) ?_
   rintro _ ⟨v,s,rfl,B,v2,R⟩
   dsimp only at B v2 ⊢
   rw[AG _ _ aa g.1 aa]
   exact Ok.mk (.inr ⟨_,rfl,f v aa aa n aa⟩)
  .refine Ok.bind (TJ (L:=L) (p:=p) (Q:=FU l a K L) h aa (fun j e d=> ?_) (fun j e d=> ?_) ?_) ?_
   .have c:((j:Int)<(L.length:Int)):=by omega
    simp only[LS,c,decide_true,jI,cQ e,j0,uO,d]
    rw[qIp aa aa]
    refine Ok.someb (Ok.next aa aa ac ac fun x S U=> ?_)
    obtain⟨s,t,q,k,A,D,H⟩:=zHn S U (M:=M)
    simp only[k,A,D,j0]
    have Y:=qNk L p
    rw[AG _ _ aa (g.1.del p) aa]
    refine Ok.mk ⟨_,rfl,_,_,rfl,by omega,by omega,(y.del p).put H (by have:=(g.2 L[j] (jM e)).2;omega),?_⟩
    have:=SZ (BD L p) q L[j].2
    omega
   .have c:((j:Int)<(L.length:Int)):=by omega
    have w:IntKind.wrap .i64 ((j:Int)+1)=((j+1:Nat):Int):=by rw[bB aa aa];omega
    simp only[LS,c,decide_true,jI,cQ e,j0,uO,d,decide_false,jA,jG,w]
   .have c:¬((L.length:Int)<(L.length:Int)):=by omega
    simp only[LS,c,decide_false,jA,jG]
   rintro o (rfl|⟨z,rfl,k⟩)
   .exact Ok.mk (.inl rfl)
   exact Ok.mk (.inr ⟨z,rfl,k⟩)
  .refine Ok.bind (TJ (L:=L) (p:=p) (Q:=FU l a K L) h aa (fun j e d=> ?_) (fun j e d=> ?_) ?_) ?_
   .have c:((j:Int)<(L.length:Int)):=by omega
    have D:=(g.2 L[j] (jM e)).2
    simp only[LR,c,decide_true,jI,cQ e,j0,uO,d]
    refine Ok.next aa aa ac ac fun x S U=> ?_
    refine Ok.digits aa aa aa fun s hs=> ?_
    refine Ok.cat (by simp only[qE,kD,jC,jD];omega) fun H A=> ?_
    simp only[qE,kD,jC,jD] at A
    refine Ok.cat (by simp only[qE,kD,jC,jD];omega) fun s6 Y=> ?_
    simp only[qE,kD,jC,jD] at Y
    refine Ok.cat aa fun s7 h7=> ?_
    rw[AG _ _ aa g.1 aa]
    exact Ok.mk ⟨_,rfl,f _ al al n aa⟩
   .have c:((j:Int)<(L.length:Int)):=by omega
    have w:IntKind.wrap .i64 ((j:Int)+1)=((j+1:Nat):Int):=by rw[bB aa aa];omega
    simp only[LR,c,decide_true,jI,cQ e,j0,uO,d,decide_false,jA,jG,w]
   .have c:¬((L.length:Int)<(L.length:Int)):=by omega
    simp only[LR,c,decide_false,jA,jG]
   rintro o (rfl|⟨z,rfl,k⟩)
   .exact Ok.mk (.inl rfl)
   exact Ok.mk (.inr ⟨z,rfl,k⟩)
  refine Ok.bind (TJ (L:=L) (p:=p) (Q:=FU l a K L) h aa (fun j e d=> ?_) (fun j e d=> ?_) ?_) ?_
  .have c:((j:Int)<(L.length:Int)):=by omega
   have D:=(g.2 L[j] (jM e)).2
   simp only[LL,c,decide_true,jI,cQ e,j0,uO,d]
   refine Ok.cat (by simp only[qE,kD,jC,jD];omega) fun H A=> ?_
   simp only[qE,kD,jC,jD] at A
   rw[AG _ _ aa g.1 aa]
   exact Ok.mk ⟨_,rfl,f _ al al n aa⟩
  .have c:((j:Int)<(L.length:Int)):=by omega
   have w:IntKind.wrap .i64 ((j:Int)+1)=((j+1:Nat):Int):=by rw[bB aa aa];omega
   simp only[LL,c,decide_true,jI,cQ e,j0,uO,d,decide_false,jA,jG,w]
  .have c:¬((L.length:Int)<(L.length:Int)):=by omega
   simp only[LL,c,decide_false,jA,jG]
  rintro o (rfl|⟨z,rfl,k⟩)
  .exact Ok.mk (.inl rfl)
  exact Ok.mk (.inr ⟨z,rfl,k⟩)
 rintro q (rfl|⟨z,rfl,k⟩)
 .dsimp only
  refine Ok.bind (TJ (L:=L) (p:=p) (Q:=FU l a K L) h aa (fun j e d=> ?_) (fun j e d=> ?_) ?_) ?_
  .have c:((j:Int)<(L.length:Int)):=by omega
   have D:=(g.2 L[j] (jM e)).2
   simp only[LM,c,decide_true,jI,cQ e,j0,uO,d]
   refine Ok.decl aa aa aa fun v s F G S=> ?_
   dsimp only
   refine Ok.cat aa fun H A=> ?_
   rw[AG _ _ aa g.1 aa]
   exact Ok.mk ⟨_,rfl,f v aa aa n aa⟩
  .have c:((j:Int)<(L.length:Int)):=by omega
   have w:IntKind.wrap .i64 ((j:Int)+1)=((j+1:Nat):Int):=by rw[bB aa aa];omega
   simp only[LM,c,decide_true,jI,cQ e,j0,uO,d,decide_false,jA,jG,w]
  .have c:¬((L.length:Int)<(L.length:Int)):=by omega
   simp only[LM,c,decide_false,jA,jG]
  rintro o (rfl|⟨z,rfl,k⟩)
  .dsimp only
   refine Ok.someb (Ok.oneS aa aa ac fun q u=> ?_)
   refine Ok.bind (XW aa al al u) ?_
   rintro _ ⟨v,s,rfl,B,v2,R⟩
   dsimp only at B v2 ⊢
   rw[AG _ _ aa g.1 aa]
   exact Ok.mk (f v aa aa n aa)
  exact Ok.mk k
 exact Ok.mk k
end
def rG:Nat->Nat->List UInt8
 |0,n=>[UInt8.ofNat n]
 |k+1,n=>if n<128 then[UInt8.ofNat n] else UInt8.ofNat (n%128+128)::rG k (n/128)
def vG(n:Nat):List UInt8:=rG 9 n
theorem ZH:∀k n,(rG k n).length<=k+1
 |0,n=>by simp[rG]
 |k+1,n=>by
  simp only[rG]
  split
  .simp
  have:=ZH k (n/128);simp only[jC];omega
theorem xU(n:Nat):(vG n).length<=10:=ZH 9 n
theorem qYn(n:Nat):xC (n:Int)=UInt8.ofNat n:=by simp[xC]
theorem qHn(n:Nat):xC (IntKind.wrap .u8 (n:Int))=UInt8.ofNat n:=by
 rw[zAx,show((n:Int)%256)=((n%256:Nat):Int) by omega,qYn]
 apply UInt8.toNat_inj.1
 simp[UInt8.toNat_ofNat']
theorem qKt(f:Int×List UInt8->Option ((Int×List UInt8)⊕(Int×List UInt8)))
  (c:∀(n:Nat) (out:List UInt8),128<=n->n<18446744073709551616->out.length+1<=140737488355328->f ((n:Int),out)=some (.inl (((n/128:Nat):Int),out++[UInt8.ofNat (n%128+128)])))
  (b:∀(n:Nat) (out:List UInt8),n<128->f ((n:Int),out)=some (.inr ((n:Int),out))):
  ∀(k N n:Nat) (out:List UInt8),n<18446744073709551616->n<128^(k+1)->k<N->out.length+k<=140737488355328->
   ∃(r:Nat) (o:List UInt8),aB f N ((n:Int),out)=some ((r:Int),o)/\r<128/\o++[UInt8.ofNat r]=out++rG k n
 |k,0,_,_,_,_,h,_=>absurd h (kK _)
 |0,N+1,n,out,_,a,_,_=>⟨n,out,by simp[aB,b n out (by simpa using a)],by simpa using a,by simp[rG]⟩
 |k+1,N+1,n,out,l,a,p,q=>by
  by_cases h:n<128
  .exact⟨n,out,by simp[aB,b n out h],h,by simp[rG,h]⟩
  obtain⟨r,o,d,e,g⟩:=qKt f c b k N (n/128) (out++[UInt8.ofNat (n%128+128)]) aa (by rw[hZ] at a;omega) aa aj
  refine⟨r,o,?_,e,by rw[g];simp[rG,h]⟩
  simp only[aB,c n out aa l aa,j0,d]
theorem qTt{N:Nat}{l:List UInt8}{n:Nat}(k:n<18446744073709551616)(g:9<N)(p:l.length+10<=140737488355328):RO N l (n:Int)=some (l++vG n):=by
 obtain⟨r,o,b,f,a⟩:=qKt (KL N) (fun n out b f a=>by
  have e:((n:Int)>=128):=by omega
  simp only[KL,e,decide_true,jI]
  have c:Int.tmod (n:Int) 128=((n%128:Nat):Int):=rfl
  have d:Int.tdiv (n:Int) 128=((n/128:Nat):Int):=rfl
  rw[c,d,wu8 (x:=((n%128:Nat):Int)) aa aa,show(((n%128:Nat):Int)+128)=((n%128+128:Nat):Int) by omega,qHn,mC (by simpa using a) aa,FS aa aa];rfl) (fun n out h=>by
  have e:¬((n:Int)>=128):=by omega
  simp[KL,e]) 9 N n l k aa g aa
 have c:o.length+1=l.length+(rG 9 n).length:=by have:=congrArg List.length a;simpa using this
 have:=ZH 9 n
 simp only[RO]
 rw[mC ai aa]
 simp only[j0,jP,b]
 rw[qHn,mC ai aa,a];rfl
theorem SO{N:Nat}{l:List UInt8}{s:BA}(a:9<N)(b:l.length+10+s.size<=140737488355328):DX N l s=some (l++vG s.size++s.data.toList):=by
 have:=xU s.size
 simp only[DX,FS (x:=(s.size:Int)) aa aa,qTt (l:=l) (n:=s.size) aa a aa,j0]
 rw[mC (by simp only[jB,fO,ByteArray.size_data];omega) aa];rfl
def qBx(l:List UInt8)(a:Nat):Nat:=a+((l.drop a).takeWhile (fun b=>decide (128<=b.toNat))).length
def JG(l:List UInt8)(a:Nat):Nat->Nat->Nat
 |0,n=>n
 |k+1,n=>JG l a k ((n*128+(l.getD (a+k) 0).toNat%128)%18446744073709551616)
def qPz(l:List UInt8)(i:Int):Int×Int×Int:=
 if i<0\/i>l.length then(0,0,3) else
  let a:=i.toNat
  let e:=qBx l a
  if e=l.length then(0,0,7) else
   if e-a>=10\/(e-a=9/\(l.getD e 0).toNat>1)\/(a<e/\(l.getD e 0).toNat=0) then(0,0,6) else
    ((JG l a (e-a+1) 0:Nat),(e:Int)+1,0)
def xJ:List UInt8->Nat
 |[]=>0
 |b::r=>b.toNat%128+128*xJ r
theorem zCa(xs:List UInt8)(x:UInt8):xJ (xs++[x])=xJ xs+128^xs.length*(x.toNat%128):=by
 induction xs with
 |nil=>simp[xJ]
 |cons y r a=>
  simp only[jT,xJ,a,jC,hZ]
  rw[Nat.mul_add,<-Nat.mul_assoc,dT 128 (128^r.length)];omega
theorem qMx(l:List UInt8)(a:Nat):∀k n,a+k<=l.length->n<18446744073709551616->JG l a k n=(n*128^k+xJ ((l.drop a).take k))%18446744073709551616
 |0,n,_,h=>by simp[JG,xJ,Nat.mod_eq_of_lt h]
 |k+1,n,h,o=>by
  have b:a+k<l.length:=by omega
  have e:(l.drop a).take (k+1)=(l.drop a).take k++[l[a+k]]:=by
   rw[List.take_add_one]
   simp[b]
  have c:((l.drop a).take k).length=k:=by simp;omega
  rw[JG,qMx l a k _ aa (Nat.mod_lt _ aa),e,zCa,c]
  have g:l.getD (a+k) 0=l[a+k]:=by simp[List.getD,b]
  rw[g]
  generalize xJ ((l.drop a).take k)=D
  generalize l[a+k].toNat%128=d
  have f:n*128^(k+1)+(D+128^k*d)=(n*128+d)*128^k+D:=by
   rw[hZ,kX,dT (128^k) 128,Nat.mul_assoc,dT d];omega
  rw[f,Nat.add_mod,Nat.mul_mod,Nat.mod_mod,<-Nat.mul_mod,<-Nat.add_mod]
theorem qIx:∀k n,n<128^(k+1)->∃ini:List UInt8,∃b:UInt8,rG k n=ini++[b]/\b.toNat=n/128^ini.length/\b.toNat<128/\(ini≠[]->1<=b.toNat)/\(∀x∈ini,128<=x.toNat)/\ini.length<=k/\xJ (rG k n)=n
 |0,n,h=>by
  refine⟨[],UInt8.ofNat n,rfl,?_,?_,by simp,by simp,by simp,?_⟩
  .simp[UInt8.toNat_ofNat'];omega
  .simp[UInt8.toNat_ofNat'];omega
  simp[rG,xJ,UInt8.toNat_ofNat'];omega
 |k+1,n,h=>by
  by_cases hn:n<128
  .refine⟨[],UInt8.ofNat n,by simp[rG,hn],?_,?_,by simp,by simp,by simp,?_⟩
   .simp[UInt8.toNat_ofNat'];omega
   .simp[UInt8.toNat_ofNat'];omega
   simp[rG,hn,xJ,UInt8.toNat_ofNat']
   try omega
  obtain⟨ini,b,d,c,e,f,g,l,o⟩:=qIx k (n/128) (by rw[hZ] at h;omega)
  refine⟨UInt8.ofNat (n%128+128)::ini,b,by simp[rG,hn,d],?_,e,fun _=> ?_,?_,by simpa using l,?_⟩
  .rw[c,jC,hZ,dT,Nat.div_div_eq_div_mul]
  .cases ini with
   |nil=>simp at c;omega
   |cons y r=>exact f ae
  .intro x a
   rcases jJ.1 a with rfl|a
   .simp[UInt8.toNat_ofNat'];omega
   exact g x a
  simp only[rG,hn,jG,xJ,o]
  simp[UInt8.toNat_ofNat'];omega
theorem qTy{p:UInt8->Bool}{ini post:List UInt8}{b:UInt8}(h:∀x∈ini,p x=true)(a:p b=false):(ini++b::post).takeWhile p=ini:=by
 induction ini with
 |nil=>simp[a]
 |cons y r d=>
  rw[jT,List.takeWhile_cons,h y (jF ..)]
  simp[d (fun x c=>h x (jH _ c))]
theorem qJq{pre post:List UInt8}{n:Nat}(z:n<18446744073709551616):qPz (pre++(vG n++post)) (pre.length:Int)=((n:Int),((pre.length+(vG n).length:Nat):Int),0):=by
 obtain⟨ini,b,f,k,v,o,p,y,q⟩:=qIx 9 n aa
 have a:vG n=ini++[b]:=f
 generalize hl:pre++(vG n++post)=l
 have u:l.length=pre.length+(ini.length+1)+post.length:=by rw[<-hl,a];simp;omega
 have g:l.drop pre.length=ini++b::post:=by rw[<-hl,a];simp
 have d:qBx l pre.length=pre.length+ini.length:=by
  unfold qBx
  rw[g,qTy (fun x c=>by simp[p x c]) ai]
 have s:l.getD (pre.length+ini.length) 0=b:=by
  rw[<-hl,a];simp[List.getD]
 have t:JG l pre.length (ini.length+1) 0=n:=by
  rw[qMx _ _ _ _ aa aa,g]
  have:(ini++b::post).take (ini.length+1)=rG 9 n:=by rw[f];simp[List.take_append,kZ]
  rw[this,q];simp;omega
 have c:ini.length=9->b.toNat<=1:=by intro r;rw[k,r];omega
 simp only[qPz]
 rw[if_neg aa]
 simp only[jQ,d,s]
 have e:pre.length+ini.length-pre.length=ini.length:=by omega
 rw[if_neg aa,e,if_neg (by
  rintro(h|h|h)
  .omega
  .have:=c h.1;omega
  have:ini≠[]:=by rintro rfl;simp at h
  have:=o this;omega),t,a]
 simp;omega
end
section
open Go Go.Dc Go.Proofs
def mV(s:BA):List UInt8:=vG s.size++s.data.toList
theorem qNu(n:Nat):vG n≠[]:=by
 unfold vG rG
 split<;>simp
theorem zAp{n m:Nat}{r r':List UInt8}(d:n<18446744073709551616)(c:m<18446744073709551616)(h:vG n++r=vG m++r'):n=m/\r=r':=by
 have a:=qJq (pre:=[]) (post:=r) d
 have b:=qJq (pre:=[]) (post:=r') c
 rw[jP] at a b
 rw[h] at a
 have e:=a.symm.trans b
 have f:(n:Int)=(m:Int):=congrArg (fun z=>z.1) e
 obtain rfl:n=m:=by omega
 exact⟨rfl,List.append_cancel_left h⟩
theorem qKc{s t:BA}{r r':List UInt8}(f:s.size<18446744073709551616)(g:t.size<18446744073709551616)(h:mV s++r=mV t++r'):s=t/\r=r':=by
 unfold mV at h
 rw[jE,jE] at h
 obtain⟨a,b⟩:=zAp f g h
 have e:s.data.toList.length=t.data.toList.length:=by simpa using a
 obtain⟨c,d⟩:=List.append_inj b e
 exact⟨ByteArray.ext (Array.ext' c),d⟩
def qS(l:List (BA×BA)):List UInt8:=l.flatMap fun f=>mV f.1++mV f.2
theorem ZD:∀{l k:List (BA×BA)},(∀f∈l,f.1.size<18446744073709551616/\f.2.size<18446744073709551616)->(∀f∈k,f.1.size<18446744073709551616/\f.2.size<18446744073709551616)->qS l=qS k->l=k
 |[],[],_,_,_=>rfl
 |[],f::k,_,_,h=>by
  have:=congrArg List.length h
  have a:=qNu f.1.size
  have s:0<(vG f.1.size).length:=fL.2 a
  simp only[qS,dZ,kL,mV,jB,jD] at this
  omega
 |f::l,[],_,_,h=>by
  have:=congrArg List.length h
  have a:=qNu f.1.size
  have s:0<(vG f.1.size).length:=fL.2 a
  simp only[qS,dZ,kL,mV,jB,jD] at this
  omega
 |f::l,g::k,d,c,h=>by
  obtain⟨o,p⟩:=d f (jF ..)
  obtain⟨q,r⟩:=c g (jF ..)
  have h:(mV f.1++mV f.2)++qS l=(mV g.1++mV g.2)++qS k:=h
  rw[jE,jE] at h
  obtain⟨e,h⟩:=qKc o q h
  obtain⟨n,h⟩:=qKc p r h
  rw[ZD (fun x b=>d x (jH _ b)) (fun x b=>c x (jH _ b)) h]
  rw[show f=g from Prod.ext e n]
abbrev Ld:=BA×Sr
def wE(pkg:BA)(l:List Ld):List Ld:=l.filter fun x=>decide (x.2.1=pkg)
theorem qLx{kind:Int}{pkg name:BA}(b:kind≠3)(l:List Ld):nF (oK l) kind pkg name=nF (oK (wE pkg l)) kind pkg name:=by
 unfold nF
 generalize xG kind pkg name=e
 induction l generalizing e with
 |nil=>rfl
 |cons x l a=>
  unfold wE at a ⊢
  rw[show oK (x::l)=sO x.1 x.2.1 0 x.2.2.2++oK l from rfl,fW,fQ]
  by_cases h:x.2.1=pkg
  .rw[if_pos (by simpa using h),show oK (x::l.filter fun x=>decide (x.2.1=pkg))=sO x.1 x.2.1 0 x.2.2.2++oK (l.filter fun x=>decide (x.2.1=pkg)) from rfl,fW,a]
  rw[if_neg (by simpa using h),qBq b h,a]
theorem qGz(kind:Int)(pkg name:BA):∀(O:List rM) (e:mX),(O.foldl (lR kind pkg name) e).2.2.2.1=e.2.2.2.1/\(O.foldl (lR kind pkg name) e).2.2.2.2.2=e.2.2.2.2.2\/(∃o∈O,(O.foldl (lR kind pkg name) e).2.2.2.1=o.2.2.2.1)\/(O.foldl (lR kind pkg name) e).2.2.2.1=e.2.2.2.1/\e.2.2.2.2.2≠0
 |[],e=> .inl ⟨rfl,rfl⟩
 |o::O,e=>by
  rw[gG]
  have a:(lR kind pkg name e o=e)\/(lR kind pkg name e o).2.2.2.1=o.2.2.2.1\/(lR kind pkg name e o).2.2.2.1=e.2.2.2.1/\e.2.2.2.2.2≠0:=by
   unfold lR
   split
   .split
    .exact .inr (.inl rfl)
    rename_i h;exact .inr (.inr ⟨rfl,h⟩)
   exact .inl rfl
  rcases qGz kind pkg name O (lR kind pkg name e o) with ⟨b,c⟩|⟨o',f,h⟩|⟨b,c⟩
  .rcases a with a|a|⟨a,d⟩
   .rw[a] at b c ⊢;exact .inl ⟨b,c⟩
   .exact .inr (.inl ⟨o,jF ..,b.trans a⟩)
   exact .inr (.inr ⟨b.trans a,d⟩)
  .exact .inr (.inl ⟨o',jH _ f,h⟩)
  rcases a with a|a|⟨a,d⟩
  .rw[a] at b c ⊢;exact .inr (.inr ⟨b,c⟩)
  .exact .inr (.inl ⟨o,jF ..,b.trans a⟩)
  exact .inr (.inr ⟨b.trans a,d⟩)
theorem qHh(path pkg:BA):∀(l:List Dl) (i:Nat),∀o∈sO path pkg i l,o.2.2.2.1=path
 |[],_,o,h=>by cases h
 |d::l,i,o,h=>by
  rcases jJ.1 h with rfl|h
  .rfl
  exact qHh path pkg l (i+1) o h
theorem qXo{l:List Ld}{o:rM}(h:o∈oK l):∃x∈l,o.2.2.2.1=x.1:=by
 obtain⟨x,b,a⟩:=fP.1 h
 exact⟨x,b,qHh _ _ _ _ _ a⟩
theorem qYb{l:List Ld}{kind:Int}{pkg name:BA}(h:(nF (oK l) kind pkg name).2.2.2.2.2≠0):∃x∈l,(nF (oK l) kind pkg name).2.2.2.1=x.1:=by
 rcases qGz kind pkg name (oK l) (xG kind pkg name) with ⟨-,a⟩|⟨o,c,b⟩|⟨-,a⟩
 .exact absurd a h
 .obtain⟨x,d,e⟩:=qXo c
  exact⟨x,d,b.trans e⟩
 exact absurd rfl a
def tE(l:List Ld)(place:BA)(i:Int):Sr×Int:=match l.find? fun x=>decide (x.1=place) with
 |some x=>(x.2,i)
 |none=>(uE,0)
theorem NA:∀{l:List Ld},(l.map (·.1)).Nodup->∀x∈l,l.find? (fun y=>decide (y.1=x.1))=some x
 |[],_,x,a=>by cases a
 |y::l,b,x,a=>by
  rw[kF,fE] at b
  rcases jJ.1 a with rfl|a
  .rw[List.find?_cons_of_pos ae]
  have c:y.1≠x.1:=fun e=>b.1 (by rw[e];exact gV a)
  rw[List.find?_cons_of_neg (by simpa using c),NA b.2 x a]
theorem qYw{l k:List Ld}{kind:Int}{pkg name:BA}(d:kind≠3)(o:(l.map (·.1)).Nodup)(e:(k.map (·.1)).Nodup)(h:wE pkg l=wE pkg k):
  nF (oK l) kind pkg name=nF (oK k) kind pkg name/\((nF (oK l) kind pkg name).2.2.2.2.2≠0->∀i,tE l (nF (oK l) kind pkg name).2.2.2.1 i=tE k (nF (oK l) kind pkg name).2.2.2.1 i):=by
 have b:=qLx (name:=name) (pkg:=pkg) d l
 have n:=qLx (name:=name) (pkg:=pkg) d k
 refine⟨by rw[b,n,h],fun c i=> ?_⟩
 rw[b] at c ⊢
 obtain⟨x,a,p⟩:=qYb c
 have f:x∈l:=(gQ.1 a).1
 have g:x∈k:=by
  rw[h] at a
  exact(gQ.1 a).1
 unfold tE
 rw[p,NA o x f,NA e x g]
abbrev Pd:=List BA×List Sr
def eW(l:List Ld):Pd:=(l.map (·.1),l.map (·.2))
theorem HZ{N:Nat}{l:List Ld}{e:mX}(n:l.length<=64)(k:1000<N):BX N (eW l) e=some (tE l e.2.2.2.1 e.2.2.2.2.1):=by
 have a:=sK (L:=l) (fun(_:Unit) (i:Nat)=>(i:Int)) (f:=KO N (eW l) e)
  (fun _ x=>if decide (x.1=e.2.2.2.1)then .inr (.inr (x.2,e.2.2.2.2.1)) else .inl ()) (fun _=>(.inl ():Unit⊕(Sr×Int))) (fun _ _=>True) (by
   intro t i hi _
   have d:i<(eW l).1.length:=by simpa[eW] using hi
   have g:i<(eW l).2.length:=by simpa[eW] using hi
   have b:(eW l).1[i]=(l[i]).1:=by simp[eW]
   have c:(eW l).2[i]=(l[i]).2:=by simp[eW]
   have ew:IntKind.wrap .i64 ((i:Int)+1)=((i+1:Nat):Int):=by rw[bB aa aa];omega
   simp only[KO]
   rw[if_pos ad,cQ d]
   simp only[j0,oZ,b,ew]
   rw[cQ g]
   simp only[j0,c]
   cases decide ((l[i]).1=e.2.2.2.1)<;>rfl) (fun _ _ _ _ _ _=>trivial) (by
   intro t _
   simp only[KO]
   rw[if_neg (by simp[eW])]) (M:=N) (t:=()) aa trivial
 rw[show((0:Nat):Int)=0 from rfl] at a
 have key:∀l:List Ld,run (fun(_:Unit) (x:Ld)=>if decide (x.1=e.2.2.2.1)then(.inr (.inr (x.2,e.2.2.2.2.1)):Unit⊕(Unit⊕(Sr×Int))) else .inl ()) (fun _=>(.inl ():Unit⊕(Sr×Int))) l ()=match l.find? fun x=>decide (x.1=e.2.2.2.1) with
   |some x=> .inr (x.2,e.2.2.2.2.1)
   |none=> .inl ():=by
  intro l
  induction l with
  |nil=>rfl
  |cons x l b=>
   simp only[run]
   by_cases h:x.1=e.2.2.2.1
   .rw[List.find?_cons_of_pos (by simpa using h),if_pos (by simpa using h)]
   rw[List.find?_cons_of_neg (by simpa using h),if_neg (by simpa using h)]
   exact b
 unfold BX tE
 rw[a,key]
 simp only[j0]
 cases l.find? fun x=>decide (x.1=e.2.2.2.1) with
 |none=>rfl
 |some x=>rfl
theorem qPm{f:Sr}(h:FT f):BO f:=⟨by have:=h.1;omega,by have:=h.2.1;omega,fun d e=>by
 obtain⟨a,b,c⟩:=h.2.2 d e
 exact⟨by omega,by omega,fun x g=>by have:=c x g;omega⟩⟩
theorem zBu{N:Nat}{f:Sr}{i:Int}(q:FT f)(a:3000000<N):Ok (HG N f i) fun y=>y.1.size<=40000:=by
 unfold HG
 rw[qIe (qPm q) a]
 refine Ok.someb (Ok.ite (fun _=>Ok.mk (by show 0<=40000;omega)) fun e=> ?_)
 have p:zD f=0:=by simpa using e
 have c:=UB p
 refine Ok.bind (P:=fun b=>b=false->0<=i/\i<(f.2.2.length:Int)) (Ok.ite (fun _=>Ok.mk fun h=>by cases h) fun g=>Ok.mk fun l=> ?_) fun b o=> ?_
 .simp only[j7] at g
  simp only[decide_eq_false_iff_not] at l
  omega
 refine Ok.ite (fun _=>Ok.mk (by show 0<=40000;omega)) fun n=> ?_
 obtain⟨u,v⟩:=o (by simpa using n)
 obtain⟨k,rfl⟩:∃k:Nat,i=(k:Int):=⟨i.toNat,by omega⟩
 have d:k<f.2.2.length:=by omega
 have od:=OE c _ (jM d)
 obtain⟨t,x⟩:=qKp c a
 have z:=qJn od
 rw[cQ d]
 refine Ok.someb ?_
 rw[t]
 refine Ok.someb ?_
 rw[qKz od a]
 refine Ok.someb (Ok.cat (by rw[mG,mG];omega) fun s r=>Ok.mk ?_)
 rw[mG,mG] at r
 show s.size<=40000
 omega
structure Ldd(l:List Ld):Prop where
 len:l.length<=64
 nod:(l.map (·.1)).Nodup
 ok:∀x∈l,FT x.2
theorem Ldd.decs{l:List Ld}(h:Ldd l):∀x∈l,x.2.2.2.length<=64:=fun x a=>(h.ok x a).2.1
theorem zAf{l:List Ld}(h:Ldd l)(p:BA)(i:Int):FT (tE l p i).1:=by
 unfold tE
 cases hf:l.find? fun x=>decide (x.1=p) with
 |none=>exact ZM
 |some x=>exact h.ok x (fT hf)
theorem qJb{N:Nat}{l:List Ld}(h:Ldd l)(kind:Int)(pkg name:BA)(a:3000000<N):Ok (tT N (eW l) kind pkg name) fun s=>s.size<=50000:=by
 unfold tT
 rw[show wP N (eW l) kind pkg name=_ from HX kind pkg name h.len h.decs aa]
 refine Ok.someb (Ok.ite (fun _=>Ok.mk (by show 1<=50000;omega)) fun _=>Ok.ite (fun _=>Ok.mk (by show 1<=50000;omega)) fun _=> ?_)
 rw[HZ h.len aa]
 refine Ok.someb (Ok.bind (zBu (zAf h _ _) a) fun y c=> ?_)
 have z:(⟨#[61]⟩:BA).size=1:=rfl
 exact Ok.cat aa fun s b=>Ok.mk aa
theorem qVk{N:Nat}{l k:List Ld}(b:Ldd l)(a:Ldd k){kind:Int}{pkg name:BA}(e:kind≠3)(h:wE pkg l=wE pkg k)(f:3000000<N):tT N (eW l) kind pkg name=tT N (eW k) kind pkg name:=by
 obtain⟨c,d⟩:=qYw (name:=name) e b.nod a.nod h
 unfold tT
 rw[show wP N (eW l) kind pkg name=_ from HX kind pkg name b.len b.decs aa,show wP N (eW k) kind pkg name=_ from HX kind pkg name a.len a.decs aa,<-c]
 simp only[j0]
 by_cases hc:(nF (oK l) kind pkg name).2.2.2.2.2=0
 .rw[if_pos (by simpa using hc),if_pos (by simpa using hc)]
 rw[HZ b.len aa,HZ a.len aa,d hc]
def xY(L:List bS)(l:List Ld)(pkg:BA):List (BA×BA):=(wE pkg l).map fun x=>(x.1,(pN L x.1).1)
def eqB1:BA:=⟨#[61]⟩
theorem zAh{N:Nat}{L:List bS}{l:List Ld}{K:Nat}(pkg:BA)(k:l.length<=64)(a:∀x∈l,x.1.size<=100)(b:∀x∈l,(pN L x.1).1.size<=K)(B:K<=100000)(D:3000000<N):
  HD N L (eW l) pkg=some (eqB1++eJ (qS (xY L l pkg)))/\(qS (xY L l pkg)).length<=l.length*(K+120):=by
 have d:(qS (xY L l pkg)).length<=l.length*(K+120):=by
  clear k
  unfold xY wE
  induction l with
  |nil=>simp[qS]
  |cons x l e=>
   have o:=e (fun y c=>a y (jH _ c)) (fun y c=>b y (jH _ c))
   have g:=a x (jF ..)
   have h:=b x (jF ..)
   have n:=xU x.1.size
   have A:=xU (pN L x.1).1.size
   rw[fQ,jC,Nat.succ_mul]
   split
   .rw[kF]
    show(((mV x.1++mV (pN L x.1).1)++qS _).length)<=_
    simp only[jB,mV,lM]
    omega
   omega
 refine⟨?_,d⟩
 have c:=sK (L:=l) (fun(t:List UInt8) (i:Nat)=>(t,(i:Int))) (f:=KS N L (eW l) pkg)
  (fun t x=> .inl (if decide (x.2.1=pkg)then t++(mV x.1++mV (pN L x.1).1) else t)) (fun t=>t) (fun i t=>t.length<=i*(K+120)) (by
   intro t i hi q
   have u:i<(eW l).1.length:=by simpa[eW] using hi
   have v:i<(eW l).2.length:=by simpa[eW] using hi
   have o:(eW l).1[i]=(l[i]).1:=by simp[eW]
   have p:(eW l).2[i]=(l[i]).2:=by simp[eW]
   have g:=a _ (jM hi)
   have h:=b _ (jM hi)
   have s:i*(K+120)<=64*(K+120):=kQ _ aa
   have ew:IntKind.wrap .i64 ((i:Int)+1)=((i+1:Nat):Int):=by rw[bB aa aa];omega
   have n:=xU (l[i]).1.size
   simp only[KS]
   rw[if_pos ad,cQ v]
   simp only[j0,oZ,p,ew]
   by_cases hp:(l[i]).2.1=pkg
   .rw[if_pos (by simpa using hp),if_pos (by simpa using hp),cQ u]
    simp only[j0,o]
    rw[HR _ aa]
    simp only[j0]
    rw[SO aa aa]
    simp only[j0]
    rw[SO aa (by simp only[jB,lM];omega)]
    simp only[j0,mV,jE]
   .rw[if_neg (by simpa using hp),if_neg (by simpa using hp)]
    rfl) (by
   intro t i hi t' q r
   obtain rfl:=(Sum.inl.inj r).symm
   have g:=a _ (jM hi)
   have h:=b _ (jM hi)
   have n:=xU (l[i]).1.size
   have A:=xU (pN L (l[i]).1).1.size
   rw[Nat.succ_mul]
   split
   .simp only[jB,mV,lM];omega
   .omega) (by
   intro t _
   simp only[KS]
   rw[if_neg (by simp[eW])]) (M:=N) (t:=[]) aa ae
 rw[show((0:Nat):Int)=0 from rfl] at c
 have s:l.length*(K+120)<=64*(K+120):=kQ _ k
 have z:(⟨#[61]⟩:BA).size=1:=rfl
 have key:∀(l:List Ld) (t:List UInt8),l.foldl (fun t x=>if decide (x.2.1=pkg)then t++(mV x.1++mV (pN L x.1).1) else t) t=t++qS (xY L l pkg):=by
  intro l
  induction l with
  |nil=>intro t;simp[xY,wE,qS]
  |cons x l e=>
   intro t
   rw[gG,e]
   unfold xY wE
   rw[fQ]
   by_cases hp:x.2.1=pkg
   .rw[if_pos (by simpa using hp),if_pos (by simpa using hp),kF,jE]
    rfl
   rw[if_neg (by simpa using hp),if_neg (by simpa using hp)]
 unfold HD
 rw[c,EQ (fun(t:List UInt8) (x:Ld)=>if decide (x.2.1=pkg)then t++(mV x.1++mV (pN L x.1).1) else t) (fun _ _=>rfl),key,jP]
 simp only[j0]
 rw[lA (by rw[mG];omega)]
 rfl
theorem qHb{ts:List bD}{pkg:BA}(g:∀j,(aA ts j).2.1.size<100000):∀(n:Nat) (l:List BA) (i:Nat) (r:Nat×List BA),(∀s∈l,s.size<100000)->qL ts pkg n l i= .inr r->∀s∈r.2,s.size<100000
 |0,_,_,_,_,h=>by cases h
 |n+1,l,i,r,f,h=>by
  unfold qL at h
  split at h
  .split at h
   .cases h
   obtain⟨a,c,h⟩:=bM h
   split at h
   .cases h
   obtain⟨j,-,h⟩:=bM h
   have e:a.2=aA ts (i+1):=by
    obtain⟨b,d,c⟩:=bM c
    split at c
    .cases c
    obtain rfl:=Sum.inr.inj c
    unfold oC at d
    split at d
    .rw[<-Sum.inr.inj d]
    cases d
   refine qHb g n _ _ r (fun s d=> ?_) h
   rcases kJ.1 d with d|d
   .exact f s d
   rw[jL.1 d,e];exact g _
  obtain rfl:=(Sum.inr.inj h).symm
  exact f
theorem qZx(x:BA):∀s∈(lD x).1.2.1,s.size<100000:=by
 have g:∀s∈uE.2.1,s.size<100000:=fun s d=>by cases d
 unfold lD
 split
 .exact g
 rename_i e
 have e:(mP x).2.2=0:=by simpa using e
 split
 .exact g
 rename_i f c
 unfold tH at c
 obtain⟨i,-,c⟩:=bM c
 obtain⟨a,-,c⟩:=bM c
 obtain⟨j,-,c⟩:=bM c
 obtain⟨b,h,c⟩:=bM c
 obtain⟨l,-,c⟩:=bM c
 obtain rfl:=(Sum.inr.inj c).symm
 exact qHb (MO e).2.2 _ [] _ b (fun s d=>by cases d) h
theorem qEb{α:Type}[DecidableEq α]:∀{l k:List α},l.Nodup->(∀x∈l,x∈k)->l.length<=k.length
 |[],_,_,_=>jW _
 |x::l,k,a,b=>by
  rw[fE] at a
  have c:=b x (jF ..)
  have g:=List.length_pos_of_mem c
  have f:=qEb (l:=l) (k:=k.erase x) a.2 fun y d=>(List.mem_erase_of_ne (fun e=>a.1 (by rw[<-e];exact d))).2 (b y (jH _ d))
  rw[List.length_erase_of_mem c] at f
  rw[jC];omega
def JI(l:List Ld):List BA:=l.flatMap fun x=>x.2.2.1
theorem qLa:∀{l:List Ld},(∀x∈l,FT x.2)->(JI l).length<=8*l.length
 |[],_=>jW _
 |x::l,h=>by
  have c:=(h x (jF ..)).1
  have b:=qLa fun y a=>h y (jH _ a)
  unfold JI at b ⊢
  rw[kL,jB,jC];omega
def TrI(l:List Ld)(pkg:BA)(b:Nat)(t:List BA):Prop:=t.Nodup/\(∀x∈t,x∈pkg::JI l)/\pkg∈t/\b<=t.length
theorem TrI.len{l:List Ld}{pkg:BA}{b:Nat}{t:List BA}(c:Ldd l)(h:TrI l pkg b t):t.length<=8*l.length+1:=by
 have a:=qEb h.1 h.2.1
 have d:=qLa c.ok
 rw[jC] at a;omega
section
variable {N:Nat} {l:List Ld} {pkg:BA}
theorem qNy{s:BA}{t:List BA}{z:Int}(a:t.length<1000000):∀(d i M:Nat),i+d=t.length->d<M->
  aB (LG N (t,z) s) M (i:Int)=some (if s∈t.drop i then .inr true else .inl ())
 |d,i,0,_,h=>by omega
 |0,i,M+1,h,_=>by
  have:t.drop i=[]:=jU aa
  simp only[aB,LG,this]
  rw[if_neg ad]
  rfl
 |d+1,i,M+1,h,c=>by
  have hi:i<t.length:=by omega
  have b:=qNy (s:=s) (z:=z) a d (i+1) M aa aa
  have ew:IntKind.wrap .i64 ((i:Int)+1)=((i+1:Nat):Int):=by rw[bB aa aa];omega
  simp only[aB,LG]
  rw[if_pos ad,cQ hi,kA hi]
  simp only[j0,oZ,j7,jJ]
  by_cases hs:t[i]=s
  .rw[if_pos hs,if_pos (.inl hs.symm)];rfl
  rw[if_neg hs]
  simp only[j0,ew,b]
  by_cases h2:s∈t.drop (i+1)
  .rw[if_pos h2,if_pos (.inr h2)]
  rw[if_neg h2,if_neg (fun h=>h.elim (fun e=>hs e.symm) h2)]
theorem zEo{β:Type}{Q:β->Prop}{g:List BA->Option β}(S:1000000<N)(r:Ldd l){x:Ld}(A:x∈l){s1:List BA×Int}{i b:Nat}(hi:s1.2=(i:Int))(H:i<b){t:List BA}(d:TrI l pkg b t)
  (k:∀t,TrI l pkg b t->Ok (g t) Q):Ok ((aB (RG N s1 x.2) N (t,0)).bind g) Q:=by
 have K:=(r.ok x A).1
 refine Ok.loop (fun s=>0<=s.2/\s.2<=(x.2.2.1.length:Int)/\TrI l pkg b s.1) (fun s=>((x.2.2.1.length:Int)-s.2).toNat) (TrI l pkg b) (fun s E=> ?_) ⟨gW _,by simp only;omega,d⟩ ak k
 obtain⟨t,j⟩:=s
 obtain⟨F,G,d⟩:=E
 simp only at F G d
 have M:=r.len
 have R:=d.len r
 obtain⟨n,rfl⟩:∃n:Nat,j=(n:Int):=⟨j.toNat,by omega⟩
 unfold RG
 refine Ok.ite (fun f=> ?_) fun f=>Ok.mk d
 have f:n<x.2.2.1.length:=by simp only[j7] at f;omega
 have u:i<t.length:=by have:=d.2.2.2;omega
 refine Ok.bind (P:=TrI l pkg b) ?_ fun U q=>Ok.mk ?_
 .rw[cQ f]
  refine Ok.someb (Ok.bind (P:=fun o=>o=true->x.2.2.1[n]∉t) ?_ fun V B=> ?_)
  .rw[show s1.2=(i:Int) from hi,show(t,(n:Int)).1=t from rfl,cQ u]
   refine Ok.someb (Ok.ite (fun _=> ?_) fun _=>Ok.mk fun h=>by cases h)
   have q:=qNy (N:=N) (s:=x.2.2.1[n]) (z:=(n:Int)) (t:=t) aa t.length 0 N aa aa
   rw[show((0:Nat):Int)=0 from rfl,kC] at q
   rw[q]
   by_cases hm:x.2.2.1[n]∈t
   .rw[if_pos hm]
    exact Ok.mk fun h=>by cases h
   rw[if_neg hm]
   exact Ok.mk fun _=>hm
  refine Ok.ite (fun h=> ?_) fun _=>Ok.mk d
  refine Ok.app ag ac (Ok.mk ?_)
  have v:=B h
  refine⟨?_,fun y p=> ?_,kE _ d.2.2.1,by have:=d.2.2.2;show b<=(t++[x.2.2.1[n]]).length;rw[jB];omega⟩
  .rw[dR]
   refine⟨d.1,by simp,fun a D c hc' e=> ?_⟩
   rw[jL.1 hc'] at e
   exact v (by rw[<-e];exact D)
  rcases kJ.1 p with p|p
  .exact d.2.1 y p
  rw[jL.1 p]
  exact jH _ (fP.2 ⟨x,A,jM f⟩)
 have ew:IntKind.wrap .i64 ((n:Int)+1)=((n+1:Nat):Int):=by rw[bB aa aa];omega
 simp only[ew]
 exact⟨⟨by omega,by omega,q⟩,by omega⟩
theorem zDc{β:Type}{Q:β->Prop}{g:List BA->Option β}(o:1000000<N)(f:Ldd l){s1:List BA×Int}{i b:Nat}(hi:s1.2=(i:Int))(e:i<b){t:List BA}(a:TrI l pkg b t)
  (k:∀t,TrI l pkg b t->Ok (g t) Q):Ok ((aB (RP N (eW l) s1) N (t,0)).bind g) Q:=by
 have u:=f.len
 have e0:(eW l).2.length=l.length:=by simp[eW]
 refine Ok.loop (fun s=>0<=s.2/\s.2<=(l.length:Int)/\TrI l pkg b s.1) (fun s=>((l.length:Int)-s.2).toNat) (TrI l pkg b) (fun s p=> ?_) ⟨gW _,by simp only;omega,a⟩ ak k
 obtain⟨t,j⟩:=s
 obtain⟨q,r,a⟩:=p
 simp only at q r a
 obtain⟨n,rfl⟩:∃n:Nat,j=(n:Int):=⟨j.toNat,by omega⟩
 unfold RP
 refine Ok.ite (fun c=> ?_) fun c=>Ok.mk a
 have c:n<(eW l).2.length:=by simp only[j7] at c;omega
 have d:n<l.length:=by omega
 rw[cQ c]
 refine Ok.someb ?_
 rw[show(eW l).2[n]=(l[n]).2 by simp[eW]]
 refine zEo (x:=l[n]) o f (jM d) hi e a fun v h=>Ok.mk ?_
 have ew:IntKind.wrap .i64 ((n:Int)+1)=((n+1:Nat):Int):=by rw[bB aa aa];omega
 simp only[ew]
 exact⟨⟨by omega,by omega,h⟩,by omega⟩
theorem zCe{t:List BA}{k:Nat}{x y p:BA}(b:k+1<t.length)(d:t[k]? =some x)(e:t[k+1]? =some y)(c:p∈t):p∈(t.set (k+1) x).set k y:=by
 obtain⟨j,a⟩:=dB.1 c
 refine dB.2 ?_
 by_cases h1:j=k
 .subst h1
  refine⟨j+1,?_⟩
  rw[List.getElem?_set_ne aa,List.getElem?_set_self b,<-d,a]
 by_cases h2:j=k+1
 .subst h2
  refine⟨k,?_⟩
  rw[List.getElem?_set_self (by rw[dQ];omega),<-e,a]
 exact⟨j,by rw[List.getElem?_set_ne aa,List.getElem?_set_ne aa,a]⟩
theorem zDl{β:Type}{Q:β->Prop}{g:List BA->Option β}{t S:List BA}{n i:Nat}(A:1000000<N)(B:n<=600)(a:t.length=n)(v:pkg∈t)(r:∀x∈t,x∈S)(hi:i<n)
  (k:∀t,t.length=n->pkg∈t->(∀x∈t,x∈S)->Ok (g t) Q):Ok ((aB (RK N) N ((i:Int),t)).bind g) Q:=by
 refine Ok.loop (fun s=>∃j:Nat,s.1=(j:Int)/\j<n/\s.2.length=n/\pkg∈s.2/\∀x∈s.2,x∈S) (fun s=>s.1.toNat) (fun t=>t.length=n/\pkg∈t/\∀x∈t,x∈S) (fun s y=> ?_) ⟨i,rfl,hi,a,v,r⟩ ak fun t a=>k t a.1 a.2.1 a.2.2
 obtain⟨z,t⟩:=s
 obtain⟨j,rfl,D,l,p,c⟩:=y
 simp only at l p c
 unfold RK
 simp only
 refine Ok.bind (P:=fun o=>o=true->0<j) (Ok.ite (fun f=> ?_) fun _=>Ok.mk fun h=>by cases h) fun o u=>Ok.ite (fun h=> ?_) fun _=>Ok.mk ⟨l,p,c⟩
 .have f:0<j:=by simp only[j7] at f;omega
  have ew:IntKind.wrap .i64 ((j:Int)-1)=((j-1:Nat):Int):=by rw[bB aa aa];omega
  rw[ew,cQ (show j<t.length by omega)]
  refine Ok.someb ?_
  rw[cQ (show j-1<t.length by omega)]
  exact Ok.mk fun _=>f
 have f:=u h
 obtain⟨q,rfl⟩:∃q,j=q+1:=⟨j-1,by omega⟩
 have ew:IntKind.wrap .i64 (((q+1:Nat):Int)-1)=(q:Int):=by rw[bB aa aa];omega
 have e:q+1<t.length:=by omega
 have d:q<t.length:=by omega
 rw[ew,cQ d,cQ e]
 refine Ok.someb (Ok.someb (Ok.someb ?_))
 rw[jQ,jQ,cQ (show q<(t.set (q+1) t[q]).length by rw[dQ];exact d)]
 refine Ok.mk ⟨⟨q,rfl,by omega,by simp only[dQ];exact l,?_,fun x b=> ?_⟩,by simp only;omega⟩
 .exact zCe e (List.getElem?_eq_getElem d) (List.getElem?_eq_getElem e) p
 rcases List.mem_or_eq_of_mem_set b with b|rfl
 .rcases List.mem_or_eq_of_mem_set b with b|rfl
  .exact c x b
  exact c _ (jM d)
 exact c _ (jM e)
theorem zDk(o:1000000<N)(e:Ldd l)(pkg:BA):Ok (SG N (eW l) pkg) fun t=>pkg∈t/\t.length<=8*l.length+1/\∀x∈t,x∈pkg::JI l:=by
 have r:=e.len
 unfold SG
 refine Ok.loop (fun s=>∃i:Nat,s.2=(i:Int)/\TrI l pkg 1 s.1/\i<=s.1.length) (fun s=>600-s.2.toNat) (TrI l pkg 1) (fun s h=> ?_) ⟨0,rfl,⟨by simp,fun x p=>by rw[jL.1 p];exact jF ..,jL.2 rfl,jN _⟩,jW _⟩ ak fun f g=> ?_
 .obtain⟨t,z⟩:=s
  obtain⟨i,rfl,c,hi⟩:=h
  simp only at c hi
  have k:=c.len e
  unfold WI
  refine Ok.ite (fun a=> ?_) fun a=>Ok.mk c
  have a:i<t.length:=by simp only[j7] at a;omega
  refine zDc (i:=i) (b:=t.length) o e rfl a ⟨c.1,c.2.1,c.2.2.1,jN _⟩ fun o2 d=>Ok.mk ?_
  have ew:IntKind.wrap .i64 ((i:Int)+1)=((i+1:Nat):Int):=by rw[bB aa aa];omega
  have n:=d.2.2.2
  have q:=d.len e
  simp only[ew]
  exact⟨⟨i+1,rfl,⟨d.1,d.2.1,d.2.2.1,by omega⟩,by omega⟩,by omega⟩
 have u:=g.len e
 refine Ok.loop (fun s=>∃i:Nat,s.1=(i:Int)/\i<=f.length/\s.2.length=f.length/\pkg∈s.2/\∀x∈s.2,x∈pkg::JI l) (fun s=>((f.length:Int)-s.1).toNat) (fun t=>t.length=f.length/\pkg∈t/\∀x∈t,x∈pkg::JI l) (fun s h=> ?_) ⟨0,rfl,jW _,rfl,g.2.2.1,g.2.1⟩ ak fun y n=>Ok.mk ⟨n.2.1,by omega,n.2.2⟩
 obtain⟨z,t⟩:=s
 obtain⟨i,rfl,v,c,d,k⟩:=h
 simp only at c d k
 unfold WH
 refine Ok.ite (fun a=> ?_) fun a=>Ok.mk ⟨c,d,k⟩
 have a:i<f.length:=by simp only[j7] at a;omega
 refine zDl (i:=i) o aa c d k a fun t' t1 t2 q=>Ok.mk ?_
 have ew:IntKind.wrap .i64 ((i:Int)+1)=((i+1:Nat):Int):=by rw[bB aa aa];omega
 simp only[ew]
 exact⟨⟨i+1,rfl,by omega,t1,t2,q⟩,by omega⟩
end
abbrev PR:=Int×BA×BA
abbrev DD:=List (BA×Int)
structure SmF(L:List bS):Prop where
 asc:Asc L
 len:L.length<=20
 ok:∀f∈L,iF f.1.data.toList=true/\f.2.size<=10000
theorem qZu{L:List bS}(h:Asc L):(L.map (·.1)).Nodup:=by
 unfold List.Nodup
 rw[List.pairwise_map]
 exact List.Pairwise.imp (fun {f g} a e=>by rw[e,CE] at a;cases a) h
theorem ES{L:List bS}(h:SmF L):Ldd (eG L)/\(eG L).length<=20/\(∀x∈eG L,x.1.size<=100)/\(∀x∈eG L,(pN L x.1).1.size<=10000)/\∀x∈eG L,x.2=(lD (pN L x.1).1).1:=by
 unfold eG
 by_cases hc:lB L=0
 .rw[if_pos hc]
  have d:=(yW.1 hc).2.1
  have k:=qJv L
  have b:∀x∈oJ L,∃f∈L,x=(f.1,(lD f.2).1):=fun x a=>by
   obtain⟨f,c,-,g⟩:=XY a
   exact⟨f,c,g⟩
  have c:∀f∈L,pN L f.1=(f.2,true):=fun f c=>by
   unfold pN
   rw[if_pos hc,qFe d c]
   rfl
  have g:=h.len
  refine⟨⟨by omega,?_,fun x a=> ?_⟩,by omega,fun x a=> ?_,fun x a=> ?_,fun x a=> ?_⟩
  .have e:(oJ L).map (·.1)=(L.filter uH).map (·.1):=by unfold oJ;rw[List.map_map];rfl
   rw[e]
   exact(qZu d).sublist (List.filter_sublist.map _)
  .obtain⟨f,-,rfl⟩:=b x a
   exact qJo _
  .obtain⟨f,b,rfl⟩:=b x a
   have:=HW (h.ok f b).1
   show f.1.size<=100
   omega
  .obtain⟨f,b,rfl⟩:=b x a
   rw[c f b]
   exact(h.ok f b).2
  obtain⟨f,b,rfl⟩:=b x a
  rw[c f b]
 rw[if_neg hc]
 exact⟨⟨jW _,List.nodup_nil,fun x a=>(by cases a)⟩,jW _,fun x a=>(by cases a),fun x a=>(by cases a),fun x a=>(by cases a)⟩
def pV(L:List bS)(pkg:BA):BA:=eqB1++eJ (qS (xY L (eG L) pkg))
theorem MQ{N:Nat}{L:List bS}(h:SmF L)(pkg:BA)(f:3000000<N):HD N L (eW (eG L)) pkg=some (pV L pkg)/\(pV L pkg).size<=300000:=by
 obtain⟨b,c,d,e,-⟩:=ES h
 obtain⟨a,g⟩:=zAh (N:=N) (K:=10000) pkg b.len d e ac f
 refine⟨a,?_⟩
 have z:eqB1.size=1:=rfl
 have k:(eG L).length*(10000+120)<=20*(10000+120):=kQ _ c
 unfold pV
 rw[ByteArray.size_append,mG];omega
theorem qLz{a b:List UInt8}(h:eqB1++eJ a=eqB1++eJ b):a=b:=by
 have:=congrArg (fun s:BA=>s.data.toList) h
 simp only[pI,rU] at this
 exact List.append_cancel_left this
theorem qYh{L L':List bS}(h:SmF L)(h':SmF L'){pkg:BA}(e:pV L pkg=pV L' pkg):wE pkg (eG L)=wE pkg (eG L'):=by
 obtain⟨-,-,c,d,g⟩:=ES h
 obtain⟨-,-,k,l,n⟩:=ES h'
 have o:=qLz e
 have b:∀{M:List bS},(∀x∈eG M,x.1.size<=100)->(∀x∈eG M,(pN M x.1).1.size<=10000)->∀f∈xY M (eG M) pkg,f.1.size<18446744073709551616/\f.2.size<18446744073709551616:=fun {M} s t f r=>by
  obtain⟨x,a,rfl⟩:=gL.1 r
  have a:=(gQ.1 a).1
  have:=s x a
  have:=t x a
  exact⟨by simp only;omega,by simp only;omega⟩
 have p:=ZD (b c d) (b k l) o
 have back:∀{M:List bS},(∀x∈eG M,x.2=(lD (pN M x.1).1).1)->wE pkg (eG M)=(xY M (eG M) pkg).map fun y=>(y.1,(lD y.2).1):=fun {M} q=>by
  unfold xY
  rw[List.map_map]
  refine(List.map_id _).symm.trans (dN fun x a=> ?_)
  have a:=(gQ.1 a).1
  show x=(x.1,(lD (pN M x.1).1).1)
  rw[<-q x a]
 rw[back g,back n,p]
def FP(env:DD):Prop:=env.length<=10/\∀v∈env,-9007199254740992<=v.2/\v.2<=9007199254740992
theorem qVs{N:Nat}{env:DD}(h:FP env)(s:BA)(e:1000<N):Ok (BT N env s) fun y=> -9007199254740992<=y.1/\y.1<=9007199254740992:=by
 have f:=h.1
 unfold BT
 refine Ok.loop (fun s=>∃i:Nat,s=(i:Int)/\i<=env.length) (fun s=>env.length-s.toNat) (fun o=>∀y,o= .inr y->-9007199254740992<=y.1/\y.1<=9007199254740992) (fun s d=> ?_) ⟨0,rfl,jW _⟩ aa fun o c=> ?_
 .obtain⟨i,rfl,hi⟩:=d
  unfold GM
  refine Ok.ite (fun a=> ?_) fun a=>Ok.mk fun y b=>by cases b
  have a:i<env.length:=by simp only[j7] at a;omega
  rw[cQ a]
  refine Ok.someb (Ok.ite (fun _=>Ok.mk fun y b=> ?_) fun _=>Ok.mk ?_)
  .obtain rfl:=(Sum.inr.inj b).symm
   exact h.2 _ (jM a)
  have ew:IntKind.wrap .i64 ((i:Int)+1)=((i+1:Nat):Int):=by rw[bB aa aa];omega
  simp only[ew]
  exact⟨⟨i+1,rfl,by omega⟩,by omega⟩
 cases o with
 |inl u=>exact Ok.mk ⟨by decide,by decide⟩
 |inr y=>exact Ok.mk (c y rfl)
theorem qVq{N:Nat}{env:DD}(e:1000<N):Ok (zX N env) fun _=>True:=by
 unfold zX
 refine Ok.ite (fun _=>Ok.mk trivial) fun c=> ?_
 have c:env.length<=16:=by simp only[j7] at c;omega
 refine Ok.loop (fun s=>∃i:Nat,s=(i:Int)/\i<=env.length) (fun s=>env.length-s.toNat) (fun _=>True) (fun s d=> ?_) ⟨0,rfl,jW _⟩ aa fun o _=> ?_
 .obtain⟨i,rfl,hi⟩:=d
  unfold VL
  refine Ok.ite (fun a=> ?_) fun a=>Ok.mk trivial
  have a:i<env.length:=by simp only[j7] at a;omega
  rw[cQ a]
  refine Ok.someb ?_
  rw[HP aa]
  refine Ok.someb ?_
  refine Ok.bind (P:=fun _=>True) (Ok.ite (fun _=>Ok.mk trivial) fun _=>Ok.ite (fun _=>Ok.mk trivial) fun _=>Ok.ite (fun _=>Ok.mk trivial) fun _=>Ok.ite (fun b=> ?_) fun _=>Ok.mk trivial) fun o _=>Ok.ite (fun _=>Ok.mk trivial) fun _=>Ok.mk ?_
  .have b:0<i:=by simp only[j7] at b;omega
   have ew:IntKind.wrap .i64 ((i:Int)-1)=((i-1:Nat):Int):=by rw[bB aa aa];omega
   rw[ew,cQ (show i-1<env.length by omega)]
   exact Ok.mk trivial
  have ew:IntKind.wrap .i64 ((i:Int)+1)=((i+1:Nat):Int):=by rw[bB aa aa];omega
  simp only[ew]
  exact⟨⟨i+1,rfl,by omega⟩,by omega⟩
 cases o<;>exact Ok.mk trivial
section
variable {N:Nat} {L:List bS} {env:DD}
theorem qAl(h:SmF L)(e:3000000<N){k:PR}(v:k.1=7)(G:k.2.1.size<=1000):∃t:List BA,k.2.1∈t/\(∀q∈t,q.size<=1000000)/\nS N L (eW (eG L)) env k=some (eqB1++eJ (qS (t.map fun q=>(q,pV L q)))):=by
 obtain⟨r,F,-,-,s⟩:=ES h
 obtain⟨t,A,B,K,D⟩:=zDk (N:=N) aa r k.2.1
 have c:∀q∈t,q.size<=1000000:=fun q a=>by
  rcases jJ.1 (D q a) with rfl|a
  .omega
  obtain⟨x,l,a⟩:=fP.1 a
  rw[s x l] at a
  have:=qZx _ q a
  omega
 refine⟨t,B,c,?_⟩
 unfold nS
 rw[v,if_neg ac,if_neg ac,if_neg ac,if_neg ac,if_neg ac,if_neg ac,A]
 simp only[j0]
 have d:=sK (L:=t) (fun(b:List UInt8) (i:Nat)=>(b,(i:Int))) (f:=LW N L (eW (eG L)) t)
  (fun b q=> .inl (b++(mV q++mV (pV L q)))) (fun b=>b) (fun i b=>b.length<=i*2000000) (by
   intro b i hi n
   have a:=c _ (jM hi)
   obtain⟨g,o⟩:=MQ (N:=N) h t[i] e
   have y:i*2000000<=200*2000000:=kQ _ aa
   have p:=xU (t[i]).size
   have ew:IntKind.wrap .i64 ((i:Int)+1)=((i+1:Nat):Int):=by rw[bB aa aa];omega
   simp only[LW]
   rw[if_pos ad,cQ hi]
   simp only[j0,ew]
   rw[SO aa aa]
   simp only[j0,g]
   rw[SO aa (by simp only[jB,lM];omega)]
   simp only[j0,mV,jE]) (by
   intro b i hi b' n u
   obtain rfl:=(Sum.inl.inj u).symm
   have a:=c _ (jM hi)
   obtain⟨-,o⟩:=MQ (N:=N) h t[i] e
   have p:=xU (t[i]).size
   have E:=xU (pV L t[i]).size
   rw[Nat.succ_mul]
   simp only[jB,mV,lM];omega) (by
   intro b _
   simp only[LW]
   rw[if_neg ae]) (M:=N) (t:=[]) aa ae
 rw[show((0:Nat):Int)=0 from rfl] at d
 have key:∀(t:List BA) (b:List UInt8),t.foldl (fun b q=>b++(mV q++mV (pV L q))) b=b++qS (t.map fun q=>(q,pV L q)):=by
  intro t
  induction t with
  |nil=>intro b;simp[qS]
  |cons q t n=>
   intro b
   rw[gG,n,kF,jE]
   rfl
 have g:∀(t:List BA),(∀q∈t,q.size<=1000000)->(qS (t.map fun q=>(q,pV L q))).length<=t.length*2000000:=by
  intro t
  induction t with
  |nil=>intro _;simp[qS]
  |cons q t n=>
   intro a
   have u:=n fun x l=>a x (jH _ l)
   have H:=a q (jF ..)
   obtain⟨-,o⟩:=MQ (N:=N) h q e
   have p:=xU q.size
   have E:=xU (pV L q).size
   rw[kF,jC,Nat.succ_mul]
   show(((mV q++mV (pV L q))++qS _).length)<=_
   simp only[jB,mV,lM];omega
 have l:=g t c
 have y:t.length*2000000<=200*2000000:=kQ _ aa
 rw[d,EQ (fun b q=>b++(mV q++mV (pV L q))) (fun _ _=>rfl),key,jP]
 simp only[j0]
 have z:(⟨#[61]⟩:BA).size=1:=rfl
 rw[lA (by rw[mG];omega)]
 rfl
theorem NF(h:SmF L)(a:3000000<N){k:PR}(b:k.1=6):nS N L (eW (eG L)) env k=some (pV L k.2.1):=by
 unfold nS
 rw[b,if_neg ac,if_neg ac,if_neg ac,if_neg ac,if_neg ac,if_pos ac,(MQ h _ a).1]
 rfl
theorem NR(b:3000000<N){k:PR}(a:k.1=1\/k.1=2):nS N L (eW (eG L)) env k=tT N (eW (eG L)) k.1 k.2.1 k.2.2:=by
 unfold nS
 rcases a with a|a
 .rw[a,if_pos ac]
  cases tT N (eW (eG L)) 1 k.2.1 k.2.2<;>rfl
 rw[a,if_neg ac,if_pos ac]
 cases tT N (eW (eG L)) 2 k.2.1 k.2.2<;>rfl
theorem zHh(h:SmF L)(g:FP env)(c:3000000<N){k:PR}(l:k.2.1.size<=1000)(n:1<=k.1)(o:k.1<=7):∃v,nS N L (eW (eG L)) env k=some v:=by
 obtain⟨f,p,-⟩:=ES h
 have any:∀{x:Option BA} {P:BA->Prop},Ok x P->∃v,x=some v:=fun e=>⟨e.choose,e.choose_spec.1⟩
 have z:(⟨#[61]⟩:BA).size=1:=rfl
 rcases(by omega:(k.1=1\/k.1=2)\/k.1=3\/k.1=4\/k.1=5\/k.1=6\/k.1=7) with a|a|a|a|a|a
 .rw[NR c a]
  exact any (qJb f _ _ _ c)
 .unfold nS
  rw[a,if_neg ac,if_neg ac,if_pos ac]
  exact any (Ok.bind (qJb f 3 _ k.2.1 c) fun y _=>Ok.mk (Q:=fun _=>True) trivial)
 .unfold nS
  rw[a,if_neg ac,if_neg ac,if_neg ac,if_pos ac,HR _ aa]
  refine any (P:=fun _=>True) (Ok.someb (Ok.ite (fun _=> ?_) fun _=>Ok.mk trivial))
  refine Ok.cat ?_ fun s _=>Ok.mk trivial
  have:(pN L k.2.1).1.size<=10000:=by
   unfold pN
   split
   .cases hg:mH L k.2.1 with
    |none=>show 0<=10000;omega
    |some b=>
     exact(h.ok _ (ZE hg)).2
   show 0<=10000;omega
  omega
 .unfold nS
  rw[a,if_neg ac,if_neg ac,if_neg ac,if_neg ac,if_pos ac]
  refine any (P:=fun _=>True) (Ok.bind (qVs g _ aa) fun y d=>Ok.ite (fun _=> ?_) fun _=>Ok.mk trivial)
  rw[XO d.1 d.2 aa]
  have:=UI d.1 d.2
  exact Ok.someb (Ok.cat aa fun s _=>Ok.mk trivial)
 .exact⟨_,NF h c a⟩
 obtain⟨t,-,-,d⟩:=qAl (env:=env) h c a l
 exact⟨_,d⟩
end
section
variable {N:Nat} {L L':List bS} {env env':DD}
theorem qWp(h:SmF L)(h':SmF L')(c:3000000<N){a:BA}{b b':BA}(g:a.size<=1000)(e:nS N L (eW (eG L)) env (7,a,b)=nS N L' (eW (eG L')) env' (7,a,b)):
  nS N L (eW (eG L)) env (6,a,b')=nS N L' (eW (eG L')) env' (6,a,b'):=by
 obtain⟨t,t1,t2,z⟩:=qAl (env:=env) (k:=(7,a,b)) h c rfl g
 obtain⟨u,D,A,B⟩:=qAl (env:=env') (k:=(7,a,b)) h' c rfl g
 rw[z,B] at e
 have p:=qLz (kG e)
 have n:∀{M:List bS} (_:SmF M) {w:List BA},(∀q∈w,q.size<=1000000)->∀f∈w.map (fun q=>(q,pV M q)),f.1.size<18446744073709551616/\f.2.size<18446744073709551616:=fun {M} s {w} x f v=>by
  obtain⟨q,d,rfl⟩:=gL.1 v
  have l:=x q d
  have o:=(MQ (N:=N) s q c).2
  exact⟨by simp only;omega,by simp only;omega⟩
 have r:=ZD (n h t2) (n h' A) p
 have l:(a,pV L a)∈t.map fun q=>(q,pV L q):=gL.2 ⟨a,t1,rfl⟩
 rw[r] at l
 obtain⟨q,-,d⟩:=gL.1 l
 have y:q=a:=congrArg Prod.fst d
 have o:pV L' q=pV L a:=congrArg Prod.snd d
 rw[y] at o
 rw[NF (k:=(6,a,b')) h c rfl,NF (k:=(6,a,b')) h' c rfl]
 show some (pV L a)=some (pV L' a)
 rw[o]
theorem qGu(h:SmF L)(h':SmF L')(a:3000000<N){k:PR}(c:k.1=1\/k.1=2){b:BA}(e:nS N L (eW (eG L)) env (6,k.2.1,b)=nS N L' (eW (eG L')) env' (6,k.2.1,b)):
  nS N L (eW (eG L)) env k=nS N L' (eW (eG L')) env' k:=by
 rw[NF (k:=(6,k.2.1,b)) h a rfl,NF (k:=(6,k.2.1,b)) h' a rfl] at e
 have d:=qYh h h' (kG e)
 rw[NR a c,NR a c]
 exact qVk (ES h).1 (ES h').1 aa d a
end
end
section
open Go Go.Dc Go.Sort Go.Proofs
def oE{α:Type}[DecidableEq α]:List α->List α
 |[]=>[]
 |[x]=>[x]
 |x::y::l=>if x=y then oE (y::l) else x::oE (y::l)
theorem XU{α:Type}[DecidableEq α]:∀(l:List α) (z:α),z∈oE l↔z∈l
 |[],z=>Iff.rfl
 |[x],z=>Iff.rfl
 |x::y::l,z=>by
  have a:=XU (y::l) z
  simp only[oE]
  split
  .rename_i h
   rw[a,h];simp
  rw[jJ,a];simp
def OC{α:Type}(c:α->α->Int)(l:List α):Prop:=l.Pairwise fun x y=>c x y<0
def qQj{α:Type}(c:α->α->Int)(l:List α):Prop:=l.Pairwise fun x y=>c x y<=0
theorem qEv{α:Type}[DecidableEq α]{c:α->α->Int}(e:Lin c):∀{l:List α},qQj c l->OC c (oE l)
 |[],_=>List.Pairwise.nil
 |[x],_=>by simp[OC,oE]
 |x::y::l,h=>by
  obtain⟨p,k⟩:=kS.1 h
  have o:=qEv e (l:=y::l) k
  simp only[oE]
  split
  .exact o
  rename_i hne
  refine kS.2 ⟨fun z f=> ?_,o⟩
  rw[XU] at f
  have d:c x y<0:=by
   have a:=p y (jF ..)
   have b:=e.zero x y
   rcases Int.lt_or_eq_of_le a with g|g
   .exact g
   exact absurd (b.1 g) hne
  rcases jJ.1 f with rfl|f
  .exact d
  have n:=(kS.1 k).1 z f
  rcases Int.lt_or_eq_of_le n with g|g
  .exact e.trans _ _ _ d g
  rw[<-(e.zero y z).1 g];exact d
theorem qFr{α:Type}{c:α->α->Int}(b:Lin c):∀{l k:List α},OC c l->OC c k->(∀z,z∈l↔z∈k)->l=k
 |[],[],_,_,_=>rfl
 |[],y::k,_,_,h=>by have:=(h y).2 (jF ..);cases this
 |x::l,[],_,_,h=>by have:=(h x).1 (jF ..);cases this
 |x::l,y::k,s,t,h=>by
  obtain⟨d,o⟩:=kS.1 s
  obtain⟨f,r⟩:=kS.1 t
  have irr:∀z,¬c z z<0:=fun z=>by have:=(b.zero z z).2 rfl;omega
  have n:x=y:=by
   rcases jJ.1 ((h x).1 (jF ..)) with e|e
   .exact e
   rcases jJ.1 ((h y).2 (jF ..)) with g|g
   .exact g.symm
   have p:=f x e;have q:=d y g
   exact absurd (b.trans _ _ _ p q) (irr y)
  subst n
  have:l=k:=qFr b o r fun z=>by
   constructor
   .intro a
    rcases jJ.1 ((h z).1 (jH _ a)) with e|e
    .rw[e] at a;exact absurd (d x a) (irr x)
    exact e
   intro a
   rcases jJ.1 ((h z).2 (jH _ a)) with e|e
   .rw[e] at a;exact absurd (f x a) (irr x)
   exact e
  rw[this]
theorem qYv{α:Type}{c:α->α->Int}(a:Lin c)(l:List α):qQj c (l.mergeSort fun x y=> !(ltOf c) y x):=by
 have:=List.pairwise_mergeSort (le:=fun x y=> !(ltOf c) y x) (fun x y z b d=>by
  simp only[fK,ltOf,decide_eq_false_iff_not] at*
  intro e
  have s:=a.swo.ntrans z y x (by simpa[ltOf] using d) (by simpa[ltOf] using b)
  simp[ltOf] at s;omega) (fun x y=>by
  simp only[fM,fK,ltOf,decide_eq_false_iff_not]
  have:=a.anti x y;omega) l
 refine this.imp fun h=> ?_
 rename_i x y
 simp only[fK,ltOf,decide_eq_false_iff_not] at h
 have:=a.anti y x;have:=a.anti x y
 omega
theorem qHm{α:Type}[DecidableEq α]:∀(l:List α) (z x:α),oE (l++[z,x])=if z=x then oE (l++[z]) else oE (l++[z])++[x]
 |[],z,x=>by
  simp only[jP,oE]
  split
  .rename_i h;simp[h]
  simp
 |[a],z,x=>by
  simp only[jT,jP,oE]
  by_cases h1:a=z
  .by_cases h2:z=x<;>simp[h1,h2]
  by_cases h2:z=x<;>simp[h1,h2]
 |a::b::l,z,x=>by
  have c:=qHm (b::l) z x
  simp only[jT] at c ⊢
  simp only[oE]
  by_cases h1:a=b
  .rw[if_pos h1,if_pos h1];exact c
  rw[if_neg h1,if_neg h1,c]
  split<;>simp
abbrev Ky:=Int×BA×BA
abbrev cK:Ky->Ky->Int:=qG sS (qG oU oU)
theorem qBg:Lin cK:=IC cmpI_lin (IC cmpS_lin cmpS_lin)
theorem qBo(x y:Ky):((x.1==y.1)&&((x.2.1.toList==y.2.1.toList)&&((x.2.2.toList==y.2.2.toList)&&true)))=decide (x=y):=by
 have bt:∀a b:BA,(a.toList==b.toList)=decide (a=b):=fun a b=>by
  rw[kP]
  simp only[kI,j7]
  constructor
  .intro h
   rw[ByteArray.toList_eq,ByteArray.toList_eq] at h
   exact Go.WideShapes.bytes_inj h
  rintro rfl;rfl
 rw[bt,bt,Bool.and_true,kP]
 simp only[jK,kI,j7]
 exact⟨fun h=>Prod.ext h.1 (Prod.ext h.2.1 h.2.2),fun h=>by subst h;exact⟨rfl,rfl,rfl⟩⟩
section
variable {α:Type} [DecidableEq α]
theorem qFs(y:List α)(k:Nat)(c:k+1<y.length):oE (y.take (k+2))=if y[k]=y[k+1] then oE (y.take (k+1)) else oE (y.take (k+1))++[y[k+1]]:=by
 have a:y.take (k+1)=y.take k++[y[k]]:=kU aa
 have b:y.take (k+2)=y.take k++[y[k],y[k+1]]:=by
  rw[kU (show k+1<y.length from c),a,jE];rfl
 rw[b,qHm,<-a]
theorem qYq(y:List α)(h:0<y.length):oE (y.take 1)=y.take 1:=by
 cases y with
 |nil=>simp at h
 |cons a y=>simp[oE]
end
theorem qBs{N:Nat}{y:List Ky}{k:Nat}(c:y.length<5000000):∀(d j a M:Nat) (l:List Ky),k+j+d=y.length->d<M->1<=j->k<=a->a+1<=k+j->l.length=y.length->l.drop a=y.drop a->l.take a=oE (y.take (k+j))->
  ∃(p:Nat) (q:List Ky),aB (MM N y (k:Int)) M ((a:Int),(j:Int),l)=some ((p:Int),q)/\p<y.length/\q.length=y.length/\q.take p=oE y
 |d,j,a,0,l,_,h,_,_,_,_,_,_=>absurd h (kK _)
 |d,j,a,M+1,l,B,D,E,s,F,f,g,n=>by
  have elen:Int.toNat (List.length y:Int)=y.length:=by simp
  have etk:Int.toNat (k:Int)=k:=by simp
  have get:∀i,a<=i->(hi:i<y.length)->l[i]? =some y[i]:=fun i hi t=>by
   have b:(l.drop a)[i-a]? =(y.drop a)[i-a]? :=by rw[g]
   rw[List.getElem?_drop,List.getElem?_drop] at b
   have:a+(i-a)=i:=by omega
   rw[this] at b
   rw[b];simp[t]
  simp only[aB,MM,elen,etk]
  rw[kZ aa]
  cases d with
  |zero=>
   have o:¬((j:Int)<((y.length-k:Nat):Int)):=by omega
   simp only[o,decide_false,jA,jG,j0]
   refine⟨a,l,rfl,by omega,f,?_⟩
   rw[n,kZ aa]
  |succ d=>
   have o:((j:Int)<((y.length-k:Nat):Int)):=by omega
   have u:IntKind.wrap .i64 ((j:Int)-1)=((j-1:Nat):Int):=by rw[bB aa aa];omega
   have r:IntKind.wrap .i64 ((j:Int)+1)=((j+1:Nat):Int):=by rw[bB aa aa];omega
   have v:IntKind.wrap .i64 ((a:Int)+1)=((a+1:Nat):Int):=by rw[bB aa aa];omega
   have x:aO (l.drop k) (j:Int)=some (y[k+j]' aa):=by
    simp only[aO,Int.natCast_nonneg,jI,jQ,List.getElem?_drop]
    exact get (k+j) aa aa
   have z:aO (l.drop k) ((j-1:Nat):Int)=some (y[k+(j-1)]' aa):=by
    simp only[aO,Int.natCast_nonneg,jI,jQ,List.getElem?_drop]
    exact get (k+(j-1)) aa aa
   have A:aO l (a:Int)=some (l[a]' aa):=cQ aa
   have ejj:k+(j-1)+1=k+j:=by omega
   have b:=qFs y (k+(j-1)) aa
   have ed:k+(j-1)+2=k+j+1:=by omega
   simp only[ed,ejj] at b
   simp only[o,decide_true,jI,u,x,z,j0,qBo]
   by_cases heq:y[k+j]' aa=y[k+(j-1)]' aa
   .simp only[heq,decide_true,kY,jA,jG,j0,r]
    rw[if_pos heq.symm] at b
    exact qBs c d (j+1) a M l aa aa aa s aa f g (by rw[n,<-b];rfl)
   simp only[heq,decide_false,gB,jI,j0,A,v,r]
   rw[if_neg (fun e=>heq e.symm)] at b
   refine qBs c d (j+1) (a+1) M _ aa aa aa aa aa (by simpa using f) ?_ ?_
   .simp only[jQ]
    rw[List.drop_set_of_lt aa]
    have:=congrArg (List.drop 1) g
    simpa[List.drop_drop] using this
   simp only[jQ]
   rw[kU ai]
   simp only[List.getElem_set_self]
   rw[List.take_set_of_le aa,n]
   exact b.symm
theorem qPx{N:Nat}{y1 y:List Ky}(c:y.length<5000000)(p:y1.length=y.length)(v:y.length<N):∀(d k M:Nat),k+1+d=y.length->d<M->oE (y.take (k+1))=y.take (k+1)->
  ∃o,aB (ML N y1 y) M ((k+1:Nat):Int)=some o/\(o= .inl ()/\oE y=y\/o= .inr (oE y))
 |d,k,0,_,h,_=>absurd h (kK _)
 |d,k,M+1,F,G,f=>by
  simp only[aB,ML,p]
  cases d with
  |zero=>
   have q:¬(((k+1:Nat):Int)<(y.length:Int)):=by omega
   simp only[q,decide_false,jA,jG,j0]
   refine⟨_,rfl,.inl ⟨rfl,?_⟩⟩
   rw[kZ aa] at f;exact f
  |succ d=>
   have q:(((k+1:Nat):Int)<(y.length:Int)):=by omega
   have x:IntKind.wrap .i64 (((k+1:Nat):Int)-1)=(k:Int):=by rw[bB aa aa];omega
   have z:IntKind.wrap .i64 (((k+1:Nat):Int)+1)=((k+1+1:Nat):Int):=by rw[bB aa aa];omega
   have A:aO y ((k+1:Nat):Int)=some (y[k+1]' aa):=cQ aa
   have B:aO y (k:Int)=some (y[k]' aa):=cQ aa
   have n:=qFs y k aa
   simp only[q,decide_true,jI,x,A,B,j0,qBo]
   by_cases heq:y[k+1]' aa=y[k]' aa
   .rw[if_pos heq.symm] at n
    simp only[heq,decide_true,jI]
    have r:pW y ((k+1:Nat):Int) (y.length:Int)=some ():=by unfold pW;rw[if_pos aa]
    obtain⟨a,b,t,D,E,u⟩:=qBs (N:=N) (y:=y) (k:=k+1) c (y.length-(k+2)) 1 (k+1) N y aa aa aa aa aa rfl rfl (by rw[show k+1+1=k+2 by omega,n,f])
    have e1':aB (MM N y ((k+1:Nat):Int)) N (((k+1:Nat):Int),1,y)=some ((a:Int),b):=t
    simp only[r,e1',j0]
    have g:pW b (a:Int) (b.length:Int)=some ():=by unfold pW;rw[if_pos aa]
    have s:FC b (a:Int) ((0,(⟨#[]⟩:BA),(⟨#[]⟩:BA)):Ky)=some (b.take a++List.replicate (b.length-a) (0,(⟨#[]⟩:BA),(⟨#[]⟩:BA))):=by
     unfold FC;rw[if_pos aa];simp
    have l:pW (b.take a++List.replicate (b.length-a) ((0,(⟨#[]⟩:BA),(⟨#[]⟩:BA)):Ky)) 0 (a:Int)=some ():=by
     unfold pW;rw[if_pos];simp only[jB,kN,dC];omega
    simp only[g,s,l,j0]
    refine⟨_,rfl,.inr ?_⟩
    simp only[jQ]
    rw[gC (by simp only[kN];omega),List.take_take,Nat.min_self,u]
   rw[if_neg (fun e=>heq e.symm)] at n
   simp only[heq,decide_false,jA,jG,z,j0]
   refine qPx c p v d (k+1) M aa aa ?_
   rw[show k+1+1=k+2 by omega,n,f,kU (show k+1<y.length by omega)]
theorem qIf{α:Type}[DecidableEq α]:∀l:List α,(oE l).length<=l.length
 |[]=>jN _
 |[x]=>jN _
 |x::y::l=>by
  have:=qIf (y::l)
  simp only[oE]
  split
  .simp only[jC] at*;omega
  simp only[jC] at*;omega
def rF(L:List Ky):List Ky:=oE (L.mergeSort fun x y=> !(ltOf cK) y x)
theorem qEj(L:List Ky):OC cK (rF L):=qEv qBg (qYv qBg L)
theorem TI{L:List Ky}{z:Ky}:z∈rF L↔z∈L:=by unfold rF;rw[XU];exact List.mem_mergeSort
theorem qZm(L:List Ky):(rF L).length<=L.length:=by
 have:=qIf (L.mergeSort fun x y=> !(ltOf cK) y x)
 simpa[rF] using this
theorem qZf{L K:List Ky}(h:∀z,z∈L↔z∈K):rF L=rF K:=qFr qBg (qEj L) (qEj K) fun z=>by rw[TI,TI];exact h z
theorem qEs{N:Nat}{L:List Ky}(k:L.length<5000000)(l:L.length+10<N):TM N L=some (rF L):=by
 have n:(maxLen:Nat)=9223372036854775807:=rfl
 have g:KG L=some L:=by
  unfold KG JJ;rw[if_pos aa]
 have c:DR N L=some (L.mergeSort fun x y=> !(ltOf cK) y x):=by
  unfold DR;rw[if_pos aa]
 unfold rF
 generalize hy:(L.mergeSort fun x y=> !(ltOf cK) y x)=y at c
 have d:y.length=L.length:=by rw[<-hy];simp
 simp only[TM,g,c,j0]
 by_cases hc:(L.length:Int)<2
 .simp only[hc,decide_true,jI,j0]
  rcases y with _|⟨a,_|⟨b,y⟩⟩
  .rfl
  .rfl
  simp only[jC] at d;omega
 simp only[hc,decide_false,jA,jG,j0]
 obtain⟨o,e,f⟩:=qPx (N:=N) (y1:=L) (y:=y) aa aa aa (y.length-1) 0 N aa aa (qYq y aa)
 have e1':aB (ML N L y) N 1=some o:=e
 rcases f with ⟨rfl,h⟩|rfl
 .simp only[e1',j0,h]
 simp only[e1',j0]
def e0:BA:=⟨#[]⟩
def pkgL:List BA:=[⟨#[112]⟩,⟨#[113]⟩,⟨#[115]⟩]
def fnL:List BA:=[⟨#[102]⟩,⟨#[103]⟩,⟨#[104]⟩,⟨#[107]⟩]
def tsL:List BA:=[⟨#[116]⟩,⟨#[117]⟩,⟨#[118]⟩]
def paL:List BA:=[⟨#[97,46,100,97,116]⟩,⟨#[100,47,98,46,100,97,116]⟩,⟨#[99]⟩,⟨#[97,46,115,114,99]⟩,⟨#[120,46,115,114,99]⟩]
def vaL:List BA:=[⟨#[110]⟩,⟨#[109]⟩]
def madeL:List Ky:=
 (pkgL.flatMap fun p=>fnL.map fun f=>(1,p,f))++(pkgL.flatMap fun p=>tsL.map fun f=>(2,p,f))++paL.map (fun p=>(3,p,e0))++paL.map (fun p=>(4,p,e0))++vaL.map (fun p=>(5,p,e0))++pkgL.map (fun p=>(6,p,e0))++pkgL.map (fun p=>(7,p,e0))
def rB(k:Ky):Bool:=
 if k.1=1\/k.1=2 then iR k.2.1&&iR k.2.2 else if k.1=3\/k.1=4 then iF k.2.1.data.toList&&decide (k.2.2=e0) else if k.1=5\/k.1=6\/k.1=7 then iR k.2.1&&decide (k.2.2=e0) else false
theorem qPb(s:BA):(s.toList==(⟨#[]⟩:BA).toList)=decide (s=e0):=by
 rw[kP]
 simp only[kI,j7]
 constructor
 .intro h
  rw[ByteArray.toList_eq,ByteArray.toList_eq] at h
  exact Go.WideShapes.bytes_inj h
 rintro rfl;rfl
theorem qEa{N:Nat}{k:Ky}(a:k.2.1.size<100000000)(b:2*k.2.1.size+1000<N):EK N k=some (rB k):=by
 obtain⟨q,x,y⟩:=k
 try simp only at a b
 simp only[EK,rB,qNq (N:=N) (s:=x) aa,qNq (N:=N) (s:=y) aa,zEq a b,j0,qPb]
 by_cases g1:q=1
 .subst g1;simp;cases iR x<;>rfl
 by_cases g2:q=2
 .subst g2;simp;cases iR x<;>rfl
 by_cases g3:q=3
 .subst g3;simp;cases iF x.data.toList<;>rfl
 by_cases g4:q=4
 .subst g4;simp;cases iF x.data.toList<;>rfl
 by_cases g5:q=5
 .subst g5;simp;cases iR x<;>rfl
 by_cases g6:q=6
 .subst g6;simp;cases iR x<;>rfl
 by_cases g7:q=7
 .subst g7;simp;cases iR x<;>rfl
 simp[g1,g2,g3,g4,g5,g6,g7]
theorem qWd:(madeL.all fun k=>rB k&&decide (k.2.1.size<100))=true:=by kernel_rfl
theorem qWn{N:Nat}(b:2000<=N){k:Ky}(a:k∈madeL):EK N k=some true:=by
 have h:=jZ.1 qWd k a
 simp only[jK,j7] at h
 rw[qEa aa aa,h.1]
theorem qXu:(madeL.all fun k=>decide (1<=k.1/\k.1<=7))=true:=by kernel_rfl
def nJ(n:Int)(k:Ky):Ky:=if n=2/\(k.1=1\/k.1=2) then(6,k.2.1,e0) else if n=3/\(k.1=1\/k.1=2\/k.1=6) then(7,k.2.1,e0) else k
theorem TU{N:Nat}{n:Int}(a:1<=n)(b:n<=3):EH N n=some true:=by
 simp only[EH,ge_iff_le,a,decide_true,jI,b,j0]
theorem qEd{N:Nat}(f:2000<=N){n:Int}(b:1<=n)(e:n<=3){k:Ky}(a:k∈madeL):EM N k n=some (nJ n k,0):=by
 have c:=qWn f a
 have d:=gH (jZ.1 qXu k a)
 simp only[EM,TU b e,j0,kY,jA,jG]
 rw[show EK N (k.1,k.2.1,k.2.2)=some true from c]
 simp only[j0,kY,jA,jG]
 have g:n=1\/n=2\/n=3:=by omega
 obtain⟨q,x,y⟩:=k
 try simp only at d
 have h:q=1\/q=2\/q=3\/q=4\/q=5\/q=6\/q=7:=by omega
 rcases h with rfl|rfl|rfl|rfl|rfl|rfl|rfl<;>rcases g with rfl|rfl|rfl<;>rfl
theorem qJw{N:Nat}(g:2000<=N){n:Int}(c:1<=n)(e:n<=3){L:List Ky}(l:L.length<1000000)(f:∀k∈L,k∈madeL):∀(d i M:Nat),i+d=L.length->d<M->
  aB (CD N L n) M ((L.take i).map (nJ n),(i:Int))=some (.inl (L.map (nJ n)))
 |_,_,0,_,h=>absurd h (kK _)
 |d,i,M+1,p,q=>by
  simp only[aB,CD]
  cases d with
  |zero=>
   have a:¬((i:Int)<(L.length:Int)):=by omega
   simp only[a,decide_false,jA,jG,j0]
   rw[kZ aa]
  |succ d=>
   have hi:i<L.length:=by omega
   have a:((i:Int)<(L.length:Int)):=by omega
   have o:IntKind.wrap .i64 ((i:Int)+1)=((i+1:Nat):Int):=by rw[bB aa aa];omega
   have b:=qEd g c e (f L[i] (jM hi))
   simp only[a,decide_true,jI,cQ hi,j0,b,fB,jA,jG]
   rw[mC (by simp only[gA,kN,jC,jD];omega) ac]
   simp only[j0,o]
   have:=qJw g c e l f d (i+1) M aa aa
   rw[kU hi,gT] at this
   exact this
theorem zDz{N:Nat}{n:Int}(a:1<=n)(b:n<=3){L:List Ky}(e:L.length<1000000)(f:L.length+2000<N)(d:∀k∈L,k∈madeL):CF N L n=some (rF (L.map (nJ n)),0):=by
 have c:=qJw (N:=N) aa a b e d L.length 0 N aa aa
 have h1':aB (CD N L n) N (([]:List (Int×BA×BA)),0)=some (.inl (L.map (nJ n))):=c
 simp only[CF,TU a b,j0,kY,jA,jG,h1']
 rw[qEs (by simp only[gA];omega) (by simp only[gA];omega)]
 rfl
theorem qOf{k:Ky}(h:(madeL.any fun k'=>decide (k'=k))=true):k∈madeL:=by
 obtain⟨k',a,b⟩:=fG.1 h
 rw[<-gH b];exact a
theorem XA{N:Nat}(f:3000<N):LX N=some true:=by
 have p1:((1,(⟨#[112]⟩:BA),(⟨#[102]⟩:BA)):Ky)∈madeL:=qOf af
 have p2:((2,(⟨#[112]⟩:BA),(⟨#[116]⟩:BA)):Ky)∈madeL:=qOf af
 have a:=qEd (N:=N) aa (n:=2) ac ac p1
 have c:=zDz (N:=N) (n:=3) ac ac (L:=[((1,(⟨#[112]⟩:BA),(⟨#[102]⟩:BA)):Ky),(2,(⟨#[112]⟩:BA),(⟨#[116]⟩:BA))]) ae ag (fun k a=>by
  simp only[jJ,gE,hU] at a
  rcases a with rfl|rfl
  .exact p1
  exact p2)
 have d:rF ([((1,(⟨#[112]⟩:BA),(⟨#[102]⟩:BA)):Ky),(2,(⟨#[112]⟩:BA),(⟨#[116]⟩:BA))].map (nJ 3))=[(7,(⟨#[112]⟩:BA),e0)]:=by
  have e:rF [((7,(⟨#[112]⟩:BA),e0):Ky)]=[(7,(⟨#[112]⟩:BA),e0)]:=by simp[rF,oE]
  rw[<-e]
  exact qZf fun z=>by simp[nJ]
 rw[d] at c
 have e:XD N 1 2=some true:=by kernel_rfl
 simp only[LX,a,c,e,j0]
 have x:aO [((7,(⟨#[112]⟩:BA),e0):Ky)] 0=some (7,(⟨#[112]⟩:BA),e0):=rfl
 simp only[x,j0]
 refine Eq.trans (b:=some true) ?_ rfl
 kernel_rfl
section
variable {N:Nat}
theorem qYs{k:Ky}(a:100<N):SC N k=some (rB k):=by
 obtain⟨q,x,y⟩:=k
 simp only[SC,rB,HP (N:=N) (s:=x) a,HP (N:=N) (s:=y) a,HQ (N:=N) (s:=x) a,j0,qPb]
 by_cases g1:q=1
 .subst g1;simp;cases iR x<;>rfl
 by_cases g2:q=2
 .subst g2;simp;cases iR x<;>rfl
 by_cases g3:q=3
 .subst g3;simp;cases iF x.data.toList<;>rfl
 by_cases g4:q=4
 .subst g4;simp;cases iF x.data.toList<;>rfl
 by_cases g5:q=5
 .subst g5;simp;cases iR x<;>rfl
 by_cases g6:q=6
 .subst g6;simp;cases iR x<;>rfl
 by_cases g7:q=7
 .subst g7;simp;cases iR x<;>rfl
 simp[g1,g2,g3,g4,g5,g6,g7]
theorem qTo{l:List Int}{a:Int}(t:100<N)(p:0<=a)(q:a<1000000000000000000):Ok (QR N (l,a)) fun y=>∃a' e,y=((l,a'),e)/\a<=a'/\a'<=a+4/\FP e:=by
 unfold QR
 refine Ok.loop (fun s=>∃(i:Nat) (e:DD) (b:Int),s=((i:Int),e,l,b)/\i<=2/\e.length<=i/\a<=b/\b<=a+2*i/\∀v∈e,-9007199254740992<=v.2/\v.2<=9007199254740992) (fun s=>2-s.1.toNat)
  (fun o=>∃(e:DD) (b:Int),o=(e,l,b)/\a<=b/\b<=a+4/\FP e) (fun s g=> ?_) ⟨0,[],a,rfl,by omega,by simp,by omega,by omega,fun v c=>by cases c⟩ ak ?_
 .obtain⟨i,e,b,rfl,hi,u,f,n,c⟩:=g
  unfold VR
  refine Ok.ite (fun d=> ?_) fun d=>Ok.mk ?_
  .have d:i<2:=by simp only[j7,jC,jD] at d;omega
   have ew:IntKind.wrap .i64 ((i:Int)+1)=((i+1:Nat):Int):=by rw[bB aa aa];omega
   dsimp only
   rw[cQ (show i<[(⟨#[109]⟩:BA),(⟨#[110]⟩:BA)].length from d)]
   simp only[j0,ew]
   refine Ok.assoc (Ok.chance aa aa ac ac fun r=> ?_)
   cases r with
   |true=>
    refine Ok.ttb (Ok.assoc (Ok.pick aa aa ac ac fun z k=> ?_))
    refine Ok.assoc (Ok.app ag ac ?_)
    refine Ok.someb (Ok.mk ⟨⟨i+1,_,b+1+1,rfl,by omega,by simp only[jB,jC,jD];omega,by omega,by omega,fun v h=> ?_⟩,by simp only;omega⟩)
    rcases kJ.1 h with h|h
    .exact c v h
    rw[jL.1 h]
    simp only[jJ,gE,hU] at k
    show-9007199254740992<=z/\z<=9007199254740992
    omega
   |false=>
    refine Ok.ffb (Ok.someb (Ok.mk ⟨⟨i+1,e,b+1,rfl,by omega,by omega,by omega,by omega,c⟩,by simp only;omega⟩))
  exact⟨e,b,rfl,f,by omega,by omega,c⟩
 rintro _ ⟨e,b,rfl,c,d,f⟩
 exact Ok.mk ⟨b,e,rfl,c,d,f⟩
theorem qHu{α β:Type}(V:α->β):∀(x:List α) (b:List β),x.foldl (fun b k=>b++[V k]) b=b++x.map V
 |[],b=>by simp
 |k::x,b=>by rw[gG,qHu V x,kF,jE];rfl
end
section
variable {N:Nat} {L L':List bS} {env env':DD} {V V':Ky->BA} {ok ok':Bool} {K:List Ky}
theorem Made.sm{L:List bS}(h:Made L)(b:L.length<=7):SmF L:=⟨h.1,by omega,fun f a=>⟨h.path a,gJ (h.2 f a).2 ac⟩⟩
theorem MadeE.sm{J:Nat}{L:List bS}(h:MadeE J L)(b:J<=10000)(c:L.length<=20):SmF L:=⟨h.1,c,fun f a=>⟨(h.2 f a).1,gJ (h.2 f a).2 b⟩⟩
end
end
section
open Go Go.Dc Go.Proofs
theorem qOk(h:Hd):0<=iH h:=by
 unfold iH
 split
 .decide
 split
 .split
  .decide
  split<;>decide
 decide
theorem zHs{ps:List BA}{t:Rose}{a b:Int}(h:a<=b):(t.wr ps a).length<=(t.wr ps b).length:=by
 cases t with
 |mk c ks=>
  simp only[Rose.wr]
  by_cases h1:iH c<a
  .rw[if_pos h1,if_pos aa];exact jN _
  rw[if_neg h1]
  split
  .simp only[jC,jB];omega
  exact jN _
theorem zFk{ps:List BA}{t:Rose}{a:Int}:(t.wr ps a).length<=(t.wr ps 0).length+2:=by
 cases t with
 |mk b ks=>
  have:=qOk b
  simp only[Rose.wr]
  rw[if_neg (show ¬iH b<0 by omega)]
  split
  .simp only[jC,jB,jD];omega
  omega
mutual
theorem zAd(t:Rose)(n:Int){d e:Nat}(a:d<=e):t.dep n d<=t.dep n e:=by
 match t with
 | .mk h ks=>
  have b:=yV ks h 0 a
  have c:=yV ks h 0 (Nat.add_le_add_right a 1)
  have f:=yV ks h 0 (Nat.add_le_add_right a 2)
  simp only[Rose.dep]
  by_cases h1:iH h<n
  .by_cases h4:h.1=4
   .simp only[if_pos h1,if_pos h4];omega
   simp only[if_pos h1,if_neg h4]
   rw[show d+1+1=d+2 by omega,show e+1+1=e+2 by omega];omega
  by_cases h4:h.1=4
  .simp only[if_neg h1,if_pos h4];omega
  simp only[if_neg h1,if_neg h4];omega
theorem yV(l:List Rose)(h:Hd)(k:Nat){d e:Nat}(a:d<=e):sB h k d l<=sB h k e l:=by
 match l with
 |[]=>exact jN _
 |t::l=>
  have b:=zAd t (iJ h k) a
  have c:=yV l h (k+1) a
  simp only[sB];omega
end
theorem zCf(t:Rose){a b:Int}(c:a<=b)(d:Nat):t.dep a d<=t.dep b d:=by
 cases t with
 |mk h ks=>
  have e:=yV ks h 0 (show d<=d+1 by omega)
  have f:=yV ks h 0 (show d+1<=d+1+1 by omega)
  simp only[Rose.dep]
  by_cases h1:iH h<a
  .simp only[if_pos h1,if_pos (show iH h<b by omega)];exact jN _
  by_cases h2:iH h<b
  .by_cases h4:h.1=4
   .simp only[if_neg h1,if_pos h2,if_pos h4];omega
   simp only[if_neg h1,if_pos h2,if_neg h4];omega
  simp only[if_neg h1,if_neg h2];exact jN _
theorem zHb(t:Rose)(n:Int)(d:Nat):t.dep n d<=t.dep 0 (d+1):=by
 cases t with
 |mk h ks=>
  have a:=yV ks h 0 (show d<=d+1 by omega)
  have b:=yV ks h 0 (show d+1<=d+1+1 by omega)
  have:=qOk h
  simp only[Rose.dep,if_neg (show ¬iH h<0 by omega)]
  by_cases h1:iH h<n
  .simp only[if_pos h1];exact jN _
  by_cases h4:h.1=4
  .simp only[if_neg h1,if_pos h4];omega
  simp only[if_neg h1,if_neg h4];omega
mutual
theorem qHe(t:Rose)(n:Int)(d:Nat):t.deepen d<=t.dep n d:=by
 match t with
 | .mk h ks=>
  obtain⟨e,he1,he2⟩:∃e,e=(if iH h<n then d+1 else d)/\d<=e:=⟨_,rfl,by split<;>omega⟩
  have b:=XC ks h 0 d
  have c:=XC ks h 0 (d+1)
  have f:=yV ks h 0 he2
  have a:=yV ks h 0 (Nat.succ_le_succ he2)
  simp only[Rose.deepen,Rose.dep]
  rw[<-he1]
  by_cases h4:h.1=4
  .rw[if_pos h4,if_pos h4];omega
  rw[if_neg h4,if_neg h4]
  simp only[Nat.succ_eq_add_one] at a
  omega
theorem XC(l:List Rose)(h:Hd)(k d:Nat):tX d l<=sB h k d l:=by
 match l with
 |[]=>exact jN _
 |t::l=>
  have a:=qHe t (iJ h k) d
  have b:=XC l h (k+1) d
  simp only[tX,sB];omega
end
def co(t:bD):Nat:=if t.1=5 then 0 else if t.1=2 then 3*(Lib.decDigits t.2.2.1.toNat).length else if t.1=3 then 3*t.2.1.size+6 else 3*t.2.1.size
def cs(ts:List bD)(i:Nat):Nat:=((ts.take i).map co).sum
section
variable {ts:List bD} {ps:List BA} {E S:Ps->PM Nat}
theorem qN(i:Nat):cs ts (i+1)=cs ts i+co (aA ts i):=by
 unfold cs
 by_cases h:i<ts.length
 .have e:aA ts i=ts[i]:=by
   unfold aA
   rw[jS,List.getElem?_eq_getElem h];rfl
  rw[TK h,gT,List.sum_append,e]
  simp
 have e:aA ts i=(5,⟨#[]⟩,0,0):=by
  unfold aA
  rw[jS,List.getElem?_eq_none aa];rfl
 rw[kZ aa,kZ aa,e]
 rfl
theorem yB{k:Int}{s:BA}{i:Nat}(h:bX ts k s i=true)(a:k=1\/k=4):co (aA ts i)=3*s.size:=by
 simp only[bX,jK,kI,j7] at h
 unfold co
 rw[if_neg aa,if_neg aa,if_neg aa,h.2]
theorem UP{i:Nat}(h:(aA ts i).1=1):co (aA ts i)=3*(aA ts i).2.1.size:=by
 unfold co
 rw[if_neg aa,if_neg aa,if_neg aa]
theorem qMz{i:Nat}(h:(aA ts i).1=3):co (aA ts i)=3*(aA ts i).2.1.size+6:=by
 unfold co
 rw[if_neg aa,if_neg aa,if_pos h]
theorem qBb{i:Nat}(h:(aA ts i).1=2):co (aA ts i)=3*(Lib.decDigits (aA ts i).2.2.1.toNat).length:=by
 unfold co
 rw[if_neg aa,if_pos h]
theorem xK{s:BA}{i j:Nat}(h:iD ts s i= .inr j):j=i+1/\cs ts j=cs ts i+3*s.size:=by
 unfold iD at h
 split at h
 .rename_i g
  obtain rfl:=(Sum.inr.inj h).symm
  exact⟨rfl,by rw[qN,yB g (.inr rfl)]⟩
 cases h
theorem wdI{s:BA}{i j:Nat}(h:wI ts s i= .inr j):j=i+1/\cs ts j=cs ts i+3*s.size:=by
 unfold wI at h
 split at h
 .rename_i g
  obtain rfl:=(Sum.inr.inj h).symm
  exact⟨rfl,by rw[qN,yB g (.inl rfl)]⟩
 cases h
theorem PD{k:Int}{i:Nat}{a:Nat×bD}(h:oC ts k i= .inr a):a=(i+1,aA ts i)/\(aA ts i).1=k:=by
 unfold oC at h
 split at h
 .rename_i g
  exact⟨(Sum.inr.inj h).symm,g⟩
 cases h
theorem nmI{i:Nat}{a:Nat×bD}(h:pC ts i= .inr a):a=(i+1,aA ts i)/\(aA ts i).1=1/\uM (aA ts i).2.1=false/\cs ts (i+1)=cs ts i+3*(aA ts i).2.1.size:=by
 obtain⟨b,d,c⟩:=bM h
 obtain⟨rfl,g⟩:=PD d
 split at c
 .cases c
 rename_i g3
 obtain rfl:=Sum.inr.inj c
 exact⟨rfl,g,by simpa using g3,by rw[qN,UP g]⟩
theorem ptI{i:Nat}{a:Nat×bD}(h:qQ ts i= .inr a):a=(i+1,aA ts i)/\iF (aA ts i).2.1.data.toList=true/\cs ts (i+1)=cs ts i+(3*(aA ts i).2.1.size+6):=by
 obtain⟨b,d,c⟩:=bM h
 obtain⟨rfl,g⟩:=PD d
 split at c
 .rename_i g3
  obtain rfl:=Sum.inr.inj c
  exact⟨rfl,g3,by rw[qN,qMz g]⟩
 cases c
theorem lnI{i:Nat}{a:Nat×bD}(h:wX ts i= .inr a):a=(i+1,aA ts i)/\iR (aA ts i).2.1=true/\cs ts (i+1)=cs ts i+(3*(aA ts i).2.1.size+6):=by
 obtain⟨b,d,c⟩:=bM h
 obtain⟨rfl,g⟩:=PD d
 split at c
 .rename_i g3
  obtain rfl:=Sum.inr.inj c
  exact⟨rfl,g3,by rw[qN,qMz g]⟩
 cases c
def wM(ts:List bD):Prop:=∀i,((aA ts i).1=1->iR (aA ts i).2.1=true)/\((aA ts i).1=2->0<=(aA ts i).2.2.1/\(aA ts i).2.2.1<=9007199254740992)
def Snd(ts:List bD)(ps:List BA)(n:Int)(d:Nat)(p:Ps)(r:Ps×Nat):Prop:=
 ∃t,Fine ps.length t/\r.1.2=p.2++t.flat p.2.length/\r.2+1=p.2.length+t.size/\p.2.length+t.size<=256/\cs ts p.1+(t.wr ps n).length<=cs ts r.1.1/\t.dep n d<=32
def yO(ts:List bD)(ps:List BA)(n:Int)(d:Nat)(E:Ps->PM Nat):Prop:=∀p r,p.2.length<=256->E p= .inr r->Snd ts ps n d p r
theorem Snd.less{n m:Int}{d:Nat}{p:Ps}{r:Ps×Nat}(h:Snd ts ps n d p r)(c:m<=n):Snd ts ps m d p r:=by
 obtain⟨t,e,f,g,k,l,o⟩:=h
 have a:=zHs (ps:=ps) (t:=t) c
 have b:=zCf t c d
 exact⟨t,e,f,g,k,by omega,by omega⟩
theorem EZ{h:Hd}{d:Nat}{p:Ps}{j:Nat}{tok:bD}{r:Ps×Nat}(e:p.2.length<=256)(c:mL tok (h.1,h.2.1,h.2.2.1,h.2.2.2,[]) (j,p.2)= .inr r)(b:Fine ps.length (.mk h []))(k:iH h=4)(f:d<=32)(a:cs ts p.1+(qD ps h []).length<=cs ts j):Snd ts ps 4 d p r:=by
 obtain⟨q,i⟩:=r
 obtain⟨rfl,rfl,g⟩:=EV c
 have g:p.2.length≠256:=g
 refine⟨.mk h [],b,rfl,rfl,by show _+(0+1)<=_;omega,?_,?_⟩
 .simp only[Rose.wr,lT]
  rw[if_neg aa]
  exact a
 simp only[Rose.dep,sB]
 rw[if_neg aa]
 omega
end
section
variable {ts:List bD} {ps:List BA} {E S:Ps->PM Nat} {d:Nat}
theorem IT{h:Hd}(a:h.1≠4)(k:Nat):iJ h k=0:=by unfold iJ;rw[if_neg a]
theorem qLs(v:yO ts ps 0 (d+1) E){h:Hd}(b:h.1≠4):∀(n:Nat) (k:Nat) (l:List Int) (p q:Ps) (x:List Int),p.2.length<=256->tZ ts E n l p= .inr (q,x)->
  ∃ks,(∀t∈ks,Fine ps.length t)/\q.2=p.2++lH p.2.length ks/\x=l++eO p.2.length ks/\p.2.length+cM ks<=256/\cs ts p.1+qT (lT ps h k ks)+1<=cs ts q.1/\sB h k (d+1) ks<=32
 |0,_,_,_,_,_,_,f=>by cases f
 |n+1,k,l,p,q,x,D,f=>by
  obtain⟨a,B,g⟩:=bM (show aQ (E p) _=_ from f)
  obtain⟨t,t1,t2,R,S,U,V⟩:=v p a D B
  have K:=t.pos
  have s:((a.2:Nat):Int)=((p.2.length+t.size-1:Nat):Int):=by omega
  have F:a.1.2.length=p.2.length+t.size:=by rw[t2,jB,lP]
  split at g
  .rename_i hc
   obtain⟨ks,G,o,r,A,H,M⟩:=qLs v b n (k+1) _ (a.1.1+1,a.1.2) q x (by show a.1.2.length<=256;omega) g
   have y:cs ts (a.1.1+1)=cs ts a.1.1+3:=by rw[qN,yB hc (.inr rfl)];rfl
   simp only at o r A H
   rw[F] at o r A
   refine⟨t::ks,?_,?_,?_,?_,?_,?_⟩
   .intro u c
    rcases jJ.1 c with rfl|c
    .exact t1
    exact G u c
   .rw[o,t2,jE];rfl
   .rw[r,jE,s];rfl
   .show p.2.length+(t.size+cM ks)<=256;omega
   .show cs ts p.1+qT (t.wr ps (iJ h k)::lT ps h (k+1) ks)+1<=_
    have e:qT (t.wr ps (iJ h k)::lT ps h (k+1) ks)=((t.wr ps (iJ h k)).length+2)+qT (lT ps h (k+1) ks):=by simp[qT]
    rw[e,IT b];omega
   show max (t.dep (iJ h k) (d+1)) (sB h (k+1) (d+1) ks)<=32
   rw[IT b];omega
  obtain⟨j,r,o⟩:=bM g
  obtain⟨rfl,y⟩:=xK r
  obtain⟨rfl,rfl⟩:=Prod.mk.inj (Sum.inr.inj o)
  have z:sClose.size=1:=rfl
  refine⟨[t],?_,?_,?_,?_,?_,?_⟩
  .intro u c
   rw[jL.1 c];exact t1
  .rw[t2];simp[lH]
  .rw[s];rfl
  .show p.2.length+(t.size+0)<=256;omega
  .have e:qT (lT ps h k [t])=(t.wr ps (iJ h k)).length+2:=by simp[qT,lT]
   rw[e,IT b]
   show _<=cs ts (a.1.1+1)
   omega
  show max (t.dep (iJ h k) (d+1)) 0<=32
  rw[IT b];omega
theorem qUi(e:yO ts ps 0 (d+1) E){h:Hd}(c:h.1≠4){p q:Ps}{x:List Int}(f:p.2.length<=256)(b:xS ts E p= .inr (q,x)):
  ∃ks,(∀t∈ks,Fine ps.length t)/\q.2=p.2++lH p.2.length ks/\x=eO p.2.length ks/\p.2.length+cM ks<=256/\cs ts p.1+qT (lT ps h 0 ks)+2<=cs ts q.1/\sB h 0 (d+1) ks<=32:=by
 obtain⟨j,k,a⟩:=bM b
 obtain⟨rfl,u⟩:=xK k
 have z:sOpen.size=1:=rfl
 split at a
 .rename_i hc
  obtain⟨rfl,rfl⟩:=Prod.mk.inj (Sum.inr.inj a)
  have g:cs ts (p.1+1+1)=cs ts (p.1+1)+3:=by rw[qN,yB hc (.inr rfl)];rfl
  refine⟨[],fun t l=>(gE l).elim,by simp[lH],rfl,by show p.2.length+0<=256;omega,?_,jW _⟩
  show cs ts p.1+0+2<=cs ts (p.1+1+1)
  omega
 obtain⟨ks,g,l,n,o,r,s⟩:=qLs e c _ 0 [] (p.1+1,p.2) q x f a
 simp only at r
 exact⟨ks,g,l,by rw[n,jP],o,by omega,s⟩
theorem zDj:sRead.size=4/\sSize.size=4/\sHas.size=3/\sEnv.size=3/\sFlip.size=4/\sOpen.size=1/\sClose.size=1/\sComma.size=1:=by decide+kernel
theorem qXr:(pO 7).size=4/\(pO 8).size=3/\(pO 9).size=3:=by decide+kernel
theorem qMl{n:Int}(h:0<=n):(rN n).data.toList.length=(Lib.decDigits n.toNat).length:=by
 show(Lib.itoa n).length=_
 unfold Lib.itoa
 rw[if_neg aa]
theorem zEf{n:Int}(h:0<=n):(rN (-n)).data.toList.length<=(Lib.decDigits n.toNat).length+1:=by
 show(Lib.itoa (-n)).length<=_
 unfold Lib.itoa
 split
 .rw[show(-n).natAbs=n.toNat by omega,jC];exact jN _
 rw[show(-n).toNat=n.toNat by omega];omega
theorem qWg(U:wM ts)(S:yO ts ps 0 (d+1) E)(x:d<=32){p0:Nat}{l:List Ex}{r:Ps×Nat}(u:l.length<=256)(Y:(aA ts p0).1=1)(v:(aA ts p0).2.1∈[sRead,sSize,sHas,sEnv,sFlip])(A:rV ts E (aA ts p0) (p0+1,l)= .inr r):Snd ts ps 4 d (p0,l) r:=by
 obtain⟨z1,z2,z3,z4,z5,z6,z7,z8⟩:=zDj
 obtain⟨w7,w8,w9⟩:=qXr
 unfold rV at A
 obtain⟨j,V,B⟩:=bM A
 obtain⟨rfl,F⟩:=xK V
 have p:cs ts (p0+1)=cs ts p0+3*(aA ts p0).2.1.size:=by rw[qN,UP Y]
 simp only at F B
 obtain⟨q,c,R⟩:=bM B
 obtain⟨j2,H,s⟩:=bM R
 obtain⟨rfl,f⟩:=xK H
 have y1:(⟨#[40,34]⟩:BA).size=2:=rfl
 have y2:(⟨#[34,41]⟩:BA).size=2:=rfl
 have y3:(⟨#[114,101,97,100,40,34]⟩:BA).size=6:=rfl
 have y4:(⟨#[34,44,32]⟩:BA).size=3:=rfl
 have y5:(⟨#[102,108,105,112,40]⟩:BA).size=5:=rfl
 have y6:(⟨#[41]⟩:BA).size=1:=rfl
 simp only[jJ,gE,hU] at v
 split at c
 .rename_i e
  rw[e,z1] at p
  obtain⟨a,o,c⟩:=bM c
  obtain⟨rfl,k,y⟩:=ptI o
  obtain⟨i3,G,c⟩:=bM c
  obtain⟨rfl,z⟩:=xK G
  obtain⟨b,D,c⟩:=bM c
  obtain⟨t,t1,t2,Z,t4,t5,t6⟩:=S _ b u D
  obtain rfl:=(Sum.inr.inj c).symm
  have hp:=t.pos
  simp only at t2 Z t4 t5 z f s
  obtain⟨q,i⟩:=r
  obtain⟨rfl,rfl,g⟩:=EV s
  have K:b.1.2.length=l.length+t.size:=by rw[t2,jB,lP]
  simp only at g
  have M:((b.2:Nat):Int)=((l.length+t.size-1:Nat):Int):=by omega
  refine⟨.mk (6,0,0,(aA ts (p0+1+1)).2.1) [t],.read _ t k t1,?_,?_,?_,?_,?_⟩
  .show b.1.2++_=l++_
   rw[t2,qBl,jE,M]
   rfl
  .show b.1.2.length+1=l.length+((t.size+0)+1)
   omega
  .show l.length+((t.size+0)+1)<=256
   omega
  .simp only[Rose.wr,lT]
   rw[if_neg (show ¬iH ((6,0,0,(aA ts (p0+1+1)).2.1):Hd)<4 from(by show ¬(4:Int)<4;decide)),IT (by show(6:Int)≠4;decide)]
   show cs ts p0+((((⟨#[114,101,97,100,40,34]⟩:BA)++(aA ts (p0+1+1)).2.1)++(⟨#[34,44,32]⟩:BA)).data.toList++(t.wr ps 0++[41])).length<=cs ts (b.1.1+1)
   simp only[jB,lM,ByteArray.size_append,jC,jD]
   omega
  show max (if(4:Int)<4 then d+1 else d) (max (t.dep 0 ((if(4:Int)<4 then d+1 else d)+1)) 0)<=32
  rw[if_neg ac];omega
 split at c
 .rename_i e
  rw[e,z2] at p
  obtain⟨a,o,c⟩:=bM c
  obtain⟨rfl,k,y⟩:=ptI o
  obtain rfl:=(Sum.inr.inj c).symm
  refine EZ (h:=(7,0,0,(aA ts (p0+1+1)).2.1)) u s (.look 7 _ (.inl rfl) k) rfl x ?_
  show cs ts p0+(((pO 7++(⟨#[40,34]⟩:BA))++(aA ts (p0+1+1)).2.1)++(⟨#[34,41]⟩:BA)).data.toList.length<=_
  simp only[lM,ByteArray.size_append]
  simp only at f
  omega
 split at c
 .rename_i e
  rw[e,z3] at p
  obtain⟨a,o,c⟩:=bM c
  obtain⟨rfl,k,y⟩:=ptI o
  obtain rfl:=(Sum.inr.inj c).symm
  refine EZ (h:=(8,0,0,(aA ts (p0+1+1)).2.1)) u s (.look 8 _ (.inr rfl) k) rfl x ?_
  show cs ts p0+(((pO 8++(⟨#[40,34]⟩:BA))++(aA ts (p0+1+1)).2.1)++(⟨#[34,41]⟩:BA)).data.toList.length<=_
  simp only[lM,ByteArray.size_append]
  simp only at f
  omega
 split at c
 .rename_i e
  rw[e,z4] at p
  obtain⟨a,o,c⟩:=bM c
  obtain⟨rfl,k,y⟩:=lnI o
  obtain rfl:=(Sum.inr.inj c).symm
  refine EZ (h:=(9,0,0,(aA ts (p0+1+1)).2.1)) u s (.env _ k) rfl x ?_
  show cs ts p0+(((pO 9++(⟨#[40,34]⟩:BA))++(aA ts (p0+1+1)).2.1)++(⟨#[34,41]⟩:BA)).data.toList.length<=_
  simp only[lM,ByteArray.size_append]
  simp only at f
  omega
 rename_i n1 n2 n3 n4
 have e:(aA ts p0).2.1=sFlip:=by
  rcases v with h|h|h|h|h
  .exact absurd h n1
  .exact absurd h n2
  .exact absurd h n3
  .exact absurd h n4
  exact h
 rw[e,z5] at p
 obtain⟨a,o,c⟩:=bM c
 obtain⟨rfl,k⟩:=PD o
 split at c
 .cases c
 rename_i y
 obtain rfl:=(Sum.inr.inj c).symm
 have D:=((U (p0+1+1)).2 k).1
 have y:¬(aA ts (p0+1+1)).2.2.1>=64:=y
 obtain⟨m,v⟩:∃m:Nat,(aA ts (p0+1+1)).2.2.1=(m:Int):=⟨(aA ts (p0+1+1)).2.2.1.toNat,by omega⟩
 have z:cs ts (p0+1+1+1)=cs ts (p0+1+1)+3*(Lib.decDigits m).length:=by rw[qN,qBb k,v];rfl
 simp only[v] at s
 have K:=qMl (n:=(m:Int)) aa
 rw[jQ,lM] at K
 refine EZ (h:=(10,(m:Int),0,bZ)) u s (.flip m aa) rfl x ?_
 show cs ts p0+(((⟨#[102,108,105,112,40]⟩:BA)++rN (m:Int))++(⟨#[41]⟩:BA)).data.toList.length<=_
 simp only[lM,ByteArray.size_append]
 simp only at f
 omega
theorem qWk(o:wM ts)(y:yO ts ps 0 (d+1) E)(s:d<=32):yO ts ps 4 d (nT ts ps E):=by
 intro p r k b
 obtain⟨i,l⟩:=p
 unfold nT at b
 simp only at b k
 split at b
 .rename_i c
  have v:=(o i).2 c
  refine EZ (h:=(1,(aA ts i).2.2.1,0,bZ)) k b (.num _ aa v.2) rfl s ?_
  show cs ts i+(rN (aA ts i).2.2.1).data.toList.length<=cs ts (i+1)
  rw[qMl v.1,qN,qBb c];omega
 split at b
 .rename_i hm
  obtain⟨a,n,f⟩:=bM b
  obtain⟨rfl,c⟩:=PD n
  have v:=(o (i+1)).2 c
  have ew:IntKind.wrap .i64 (0-(aA ts (i+1)).2.2.1)= -(aA ts (i+1)).2.2.1:=by rw[bB aa aa];omega
  simp only at f
  rw[ew] at f
  refine EZ (h:=(1,-(aA ts (i+1)).2.2.1,0,bZ)) k f (.num _ aa aa) rfl s ?_
  show cs ts i+(rN (-(aA ts (i+1)).2.2.1)).data.toList.length<=cs ts (i+1+1)
  have:=zEf v.1
  have z:sMinus.size=1:=rfl
  rw[qN,qN,qBb c,yB hm (.inr rfl)];omega
 split at b
 .rename_i hm
  obtain⟨a,n,f⟩:=bM b
  obtain⟨j,v,A⟩:=bM f
  obtain⟨rfl,G⟩:=xK v
  obtain rfl:=(Sum.inr.inj A).symm
  obtain⟨t,t1,t2,B,D,F,K⟩:=y _ a k n
  have w:=zFk (ps:=ps) (t:=t) (a:=4)
  have u:=zHb t 4 d
  have z:sOpen.size=1:=rfl
  have M:sClose.size=1:=rfl
  have H:cs ts (i+1)=cs ts i+3:=by rw[qN,yB hm (.inr rfl)];rfl
  simp only at F
  refine⟨t,t1,t2,B,D,?_,by omega⟩
  show cs ts i+(t.wr ps 4).length<=cs ts (a.1.1+1)
  omega
 split at b
 .cases b
 rename_i c
 have c:(aA ts i).1=1:=by simpa using c
 split at b
 .rename_i hm
  exact qWg o y s k c hm b
 split at b
 .cases b
 rename_i hres
 have B:iC (aA ts i).2.1=true:=by
  unfold iC
  rw[(o i).1 c,show uM (aA ts i).2.1=false by simpa using hres];rfl
 have K:cs ts (i+1)=cs ts i+3*(aA ts i).2.1.size:=by rw[qN,UP c]
 split at b
 .obtain⟨a,n,f⟩:=bM b
  obtain⟨ks,F,A,D,G,H,R⟩:=qUi (h:=(3,0,0,(aA ts i).2.1)) (ps:=ps) y (by show(3:Int)≠4;decide) (p:=(i+1,l)) (q:=a.1) (x:=a.2) k n
  obtain⟨q,x⟩:=r
  obtain⟨rfl,rfl,g⟩:=EV f
  simp only at A D G H
  have M:a.1.2.length=l.length+cM ks:=by rw[A,jB,IA]
  refine⟨.mk (3,0,0,(aA ts i).2.1) ks,.call _ ks B F,?_,?_,?_,?_,?_⟩
  .show a.1.2++_=l++(lH l.length ks++_)
   rw[A,jE,D];rfl
  .show a.1.2.length+1=l.length+(cM ks+1)
   omega
  .show l.length+(cM ks+1)<=256
   omega
  .have v:=MW (lT ps (3,0,0,(aA ts i).2.1) 0 ks) 0
   have S:(⟨#[40]⟩:BA).size=1:=rfl
   simp only[Rose.wr]
   rw[if_neg (show ¬iH ((3,0,0,(aA ts i).2.1):Hd)<4 from(by show ¬(4:Int)<4;decide))]
   show cs ts i+(((aA ts i).2.1++(⟨#[40]⟩:BA)).data.toList++(rD 0 (lT ps (3,0,0,(aA ts i).2.1) 0 ks)++[41])).length<=cs ts a.1.1
   simp only[jB,lM,ByteArray.size_append,jC,jD]
   omega
  show max (if(4:Int)<4 then d+1 else d) (sB (3,0,0,(aA ts i).2.1) 0 ((if(4:Int)<4 then d+1 else d)+1) ks)<=32
  rw[if_neg ac];omega
 split at b
 .rename_i j v
  obtain⟨n,f,-⟩:=List.findIdx?_eq_some_iff_getElem.1 v
  have f:ps[j]=(aA ts i).2.1:=gH f
  refine EZ (h:=(2,(j:Int),0,bZ)) k b (.par j n) rfl s ?_
  show cs ts i+(ps.getD (Int.toNat (j:Int)) ⟨#[]⟩).data.toList.length<=cs ts (i+1)
  have e:ps.getD j ⟨#[]⟩=ps[j]:=by rw[jS,List.getElem?_eq_getElem n];rfl
  rw[jQ,e,f,lM];omega
 cases b
def CY(level:Nat):Int:=if level=1 then 2 else level
theorem zGw{level i:Nat}(h:mY ts level i≠0):1<=mY ts level i/\mY ts level i<=7/\xF (mY ts level i)=level/\bX ts 4 (qP (mY ts level i)) i=true:=by
 have e:mY ts level i=match opsC.find? (yF ts level i) with
  |some o=>o.1
  |none=>0:=rfl
 cases ho:opsC.find? (yF ts level i) with
 |none=>
  rw[ho] at e
  exact absurd e h
 |some o=>
  rw[ho] at e
  have e:mY ts level i=o.1:=e
  have a:=List.find?_some ho
  have c:=fT ho
  simp only[yF,jK,j7] at a
  have b:(1<=o.1/\o.1<=7)/\o.2=qP o.1:=by
   simp only[opsC,jJ,gE,hU] at c
   rcases c with rfl|rfl|rfl|rfl|rfl|rfl|rfl<;>decide+kernel
  rw[e]
  exact⟨b.1.1,b.1.2,a.2,by rw[<-b.2];exact a.1⟩
theorem zBt{op:Int}(a:1<=op)(b:op<=7):1<=(qP op).size:=by
 rcases(by omega:op=1\/op=2\/op=3\/op=4\/op=5\/op=6\/op=7) with rfl|rfl|rfl|rfl|rfl|rfl|rfl<;>decide+kernel
theorem qLo{level:Nat}(o:yO ts ps ((level:Int)+1) d S)(h1l:1<=level)(R:d<=32){p0:Ps}:∀(n x:Nat) (p:Ps) (r:Ps×Nat),Snd ts ps (CY level) d p0 (p,x)->nR ts level S n x p= .inr r->Snd ts ps level d p0 r
 |0,_,_,_,_,c=>by cases c
 |n+1,x,p,r,v,c=>by
  unfold nR at c
  have s:(level:Int)<=CY level:=by unfold CY;split<;>omega
  split at c
  .obtain rfl:=Sum.inr.inj c
   exact v.less s
  rename_i hop
  obtain⟨f,o2,D,E⟩:=zGw hop
  generalize mY ts level p.1=op at c f o2 D E
  obtain⟨e,-,-⟩:=qCi f o2
  rw[D] at e
  have V:=zBt f o2
  have a0:cs ts (p.1+1)=cs ts p.1+3*(qP op).size:=by rw[qN,yB E (.inr rfl)]
  obtain⟨a,K,H⟩:=bM c
  obtain⟨b,M,l⟩:=bM H
  obtain⟨t,t1,t2,Y,t4,Z,t6⟩:=v
  simp only at t2 Y Z
  have U:p.2.length=p0.2.length+t.size:=by rw[t2,jB,lP]
  obtain⟨u,u1,k,F,G,u5,u6⟩:=o (p.1+1,p.2) a (by show p.2.length<=256;omega) K
  simp only at k F G u5
  rw[U] at k F G
  have a1:a.1.2.length=p0.2.length+t.size+u.size:=by rw[k,t2];simp only[jB,lP]
  obtain⟨q,y⟩:=b
  obtain⟨rfl,rfl,g⟩:=EV M
  have a2:=t.pos
  have a3:=u.pos
  have A:iJ (4,0,op,bZ) 0=CY level:=by
   unfold iJ CY
   rw[if_pos rfl,if_pos rfl,e]
   by_cases h:level=1
   .rw[if_pos h,if_pos aa]
   rw[if_neg h,if_neg aa]
  have B:iJ (4,0,op,bZ) 1=(level:Int)+1:=by
   unfold iJ
   rw[if_pos rfl,if_neg ac,e]
  have key:∀m:Int,m<=level->Snd ts ps m d p0 ((a.1.1,a.1.2++[((4,0,op,⟨#[]⟩,[(x:Int),(a.2:Int)]):Ex)]),a.1.2.length):=by
   intro m hm
   refine⟨.mk (4,0,op,bZ) [t,u],.bin op t u f o2 t1 u1,?_,?_,?_,?_,?_⟩
   .show a.1.2++_=p0.2++_
    rw[k,t2,qBn,show(x:Int)=((p0.2.length+t.size-1:Nat):Int) by omega,show(a.2:Int)=((p0.2.length+t.size+u.size-1:Nat):Int) by omega]
    simp only[jE]
    rfl
   .show a.1.2.length+1=p0.2.length+(t.size+(u.size+0)+1)
    omega
   .show p0.2.length+(t.size+(u.size+0)+1)<=256
    try simp only at g
    omega
   .simp only[Rose.wr,lT,A,B]
    rw[if_neg (by rw[e];omega)]
    show cs ts p0.1+(t.wr ps (CY level)++((((⟨#[32]⟩:BA)++qP op)++(⟨#[32]⟩:BA)).data.toList++u.wr ps ((level:Int)+1))).length<=cs ts a.1.1
    have z:(⟨#[32]⟩:BA).size=1:=rfl
    simp only[jB,lM,ByteArray.size_append]
    omega
   show max (if iH (4,0,op,bZ)<m then d+1 else d) (max (t.dep (iJ (4,0,op,bZ) 0) (if iH (4,0,op,bZ)<m then d+1 else d)) (max (u.dep (iJ (4,0,op,bZ) 1) (if iH (4,0,op,bZ)<m then d+1 else d)) 0))<=32
   rw[if_neg (by rw[e];omega),A,B]
   omega
  split at l
  .obtain rfl:=Sum.inr.inj l
   exact key _ (gW _)
  rename_i hne
  refine qLo o h1l R n _ _ r ?_ l
  refine key _ ?_
  unfold CY
  rw[if_neg hne];exact gW _
theorem XN{level:Nat}(b:yO ts ps ((level:Int)+1) d S)(h1l:1<=level)(h:d<=32):yO ts ps level d (qO ts level S):=by
 intro p r g c
 obtain⟨a,f,e⟩:=bM c
 have:=b p a g f
 refine qLo b h1l h _ a.2 a.1 r (this.less ?_) e
 unfold CY
 split<;>omega
theorem qVt(c:wM ts)(b:yO ts ps 0 (d+1) E)(a:d<=32):yO ts ps 1 d (TN ts ps E):=
 XN (level:=1) (XN (level:=2) (XN (level:=3) (qWk c b a) ac a) ac a) ac a
end
theorem qLc{ts:List bD}{ps:List BA}(o:wM ts):∀(k d:Nat),d+k=33->yO ts ps 0 d (eP ts ps k)
 |0,_,_=>fun p r _ h=>by cases h
 |k+1,d,hk=>by
  have n:=qLc (ps:=ps) o k (d+1) aa
  intro p r s l
  unfold eP at l
  split at l
  .rename_i hif
   obtain⟨a,F,e⟩:=bM l
   obtain⟨i,hi,e⟩:=bM e
   obtain⟨b,x,e⟩:=bM e
   obtain⟨j,H,e⟩:=bM e
   obtain⟨c,G,E⟩:=bM e
   obtain⟨t,t1,t2,R,S,U,t6⟩:=n (p.1+1,p.2) a s F
   simp only at t2 R S U
   have K:a.1.2.length=p.2.length+t.size:=by rw[t2,jB,lP]
   obtain⟨rfl,ci⟩:=wdI hi
   obtain⟨u,V,f,z,A,Y,u6⟩:=n _ b (by show a.1.2.length<=256;omega) x
   simp only at f z A Y
   rw[K] at f z A
   have M:b.1.2.length=p.2.length+t.size+u.size:=by rw[f,t2];simp only[jB,lP]
   obtain⟨rfl,cj⟩:=wdI H
   obtain⟨v,Z,v2,B,D,v5,v6⟩:=n _ c (by show b.1.2.length<=256;omega) G
   simp only at v2 B D v5
   rw[M] at v2 B D
   have l3:c.1.2.length=p.2.length+t.size+u.size+v.size:=by rw[v2,f,t2];simp only[jB,lP]
   obtain⟨q,y⟩:=r
   obtain⟨rfl,rfl,g⟩:=EV E
   have a0:=t.pos
   have a1:=u.pos
   have a2:=v.pos
   have h0:cs ts (p.1+1)=cs ts p.1+6:=by rw[qN,yB hif (.inl rfl)];rfl
   have z1:sThen.size=4:=rfl
   have z2:sElse.size=4:=rfl
   have nd:∀k,iJ (5,0,0,bZ) k=0:=IT (by show(5:Int)≠4;decide)
   refine⟨.mk (5,0,0,bZ) [t,u,v],.ite t u v t1 V Z,?_,?_,?_,?_,?_⟩
   .show c.1.2++_=p.2++_
    rw[v2,f,t2,qBt,show(a.2:Int)=((p.2.length+t.size-1:Nat):Int) by omega,show(b.2:Int)=((p.2.length+t.size+u.size-1:Nat):Int) by omega,show(c.2:Int)=((p.2.length+t.size+u.size+v.size-1:Nat):Int) by omega]
    simp only[jE]
    rfl
   .show c.1.2.length+1=p.2.length+(t.size+(u.size+(v.size+0))+1)
    omega
   .show p.2.length+(t.size+(u.size+(v.size+0))+1)<=256
    try simp only at g
    omega
   .simp only[Rose.wr,lT,nd]
    rw[if_neg ac]
    show cs ts p.1+(tI++(t.wr ps 0++(tThen++(u.wr ps 0++(tElse++v.wr ps 0))))).length<=cs ts c.1.1
    have y1:tI.length=3:=rfl
    have y2:tThen.length=6:=rfl
    have y3:tElse.length=6:=rfl
    simp only[jB]
    omega
   show max (if(0:Int)<0 then d+1 else d) (max (t.dep (iJ (5,0,0,bZ) 0) ((if(0:Int)<0 then d+1 else d)+1)) (max (u.dep (iJ (5,0,0,bZ) 1) ((if(0:Int)<0 then d+1 else d)+1)) (max (v.dep (iJ (5,0,0,bZ) 2) ((if(0:Int)<0 then d+1 else d)+1)) 0)))<=32
   rw[if_neg ac,nd,nd,nd]
   omega
  exact(qVt o n aa p r s l).less ac
mutual
theorem qGm(t:Rose)(b:Nat)(rest:List Ex)(fs:List Rose):yD (t.flat b++rest) fs=yD rest (fs++[t]):=by
 match t with
 | .mk h ks=>
  unfold Rose.flat
  rw[jE,qFk ks b,List.singleton_append]
  have e:(iS h (eO b ks)).2.2.2.2.length=ks.length:=xT ks b
  have a:(fs++ks).length-ks.length=fs.length:=by rw[jB];omega
  show yD rest ((fs++ks).take ((fs++ks).length-(iS h (eO b ks)).2.2.2.2.length)++[Rose.mk h ((fs++ks).drop ((fs++ks).length-(iS h (eO b ks)).2.2.2.2.length))])=_
  rw[e,a,hH,dS]
theorem qFk(l:List Rose)(b:Nat)(rest:List Ex)(fs:List Rose):yD (lH b l++rest) fs=yD rest (fs++l):=by
 match l with
 |[]=>simp[lH]
 |t::l=>
  unfold lH
  rw[jE,qGm t b,qFk l (b+t.size),jE]
  rfl
end
theorem qWx(t:Rose):zJ (t.flat 0)=some t:=by
 have:=qGm t 0 [] []
 rw[jV] at this
 unfold zJ
 rw[this]
 rfl
theorem zBe(t:Rose):oneP (sR (t.flat 0) 0 [])=true:=by
 have:=qJs t 0 [] []
 rw[jV] at this
 rw[this]
 rfl
theorem qXl{np:Nat}{t:Rose}(h:Fine np t):∀b,∀x∈t.flat b,nX (np:Int) x=true:=by
 have leaf:∀(o:Hd) (b:Nat),nX (np:Int) (iS o [])=true->∀x∈(Rose.mk o []).flat b,nX (np:Int) x=true:=fun o b B x d=>by
  have d:x∈[iS o []]:=d
  rw[jL.1 d];exact B
 induction h with
 |num n p q=>
  refine fun b=>leaf _ b ?_
  simp[nX,iS,qR,p,q]
 |par i h=>
  refine fun b=>leaf _ b ?_
  simp[nX,iS,qR,h]
 |call s ks h r y=>
  intro b x d
  have d:x∈lH b ks++[iS (3,0,0,s) (eO b ks)]:=by unfold Rose.flat at d;exact d
  rcases kJ.1 d with d|d
  .clear r
   induction ks generalizing b with
   |nil=>cases d
   |cons t l f=>
    have d:x∈t.flat b++lH (b+t.size) l:=d
    rcases kJ.1 d with d|d
    .exact y t (jF ..) b x d
    exact f (fun u g=>y u (jH _ g)) (b+t.size) (kE _ d) (kE _ d) d
  rw[jL.1 d]
  simp[nX,iS,h]
 |bin op a c p q v A f g=>
  intro b x d
  rw[qBn] at d
  rcases kJ.1 d with d|d
  .rcases kJ.1 d with d|d
   .exact f b x d
   exact g _ x d
  rw[jL.1 d]
  simp[nX,iS,qR,p,q]
 |ite a c e v A D f g z=>
  intro b x d
  rw[qBt] at d
  rcases kJ.1 d with d|d
  .rcases kJ.1 d with d|d
   .rcases kJ.1 d with d|d
    .exact f b x d
    exact g _ x d
   exact z _ x d
  rw[jL.1 d]
  simp[nX,iS,qR]
 |read s a h v f=>
  intro b x d
  rw[qBl] at d
  rcases kJ.1 d with d|d
  .exact f b x d
  rw[jL.1 d]
  simp[nX,iS,qR,h]
 |look k s r h=>
  refine fun b=>leaf _ b ?_
  rcases r with rfl|rfl<;>simp[nX,iS,qR,h]
 |env s h=>
  refine fun b=>leaf _ b ?_
  simp[nX,iS,qR,h]
 |flip n h=>
  refine fun b=>leaf _ b ?_
  have:(n:Int)<64:=by omega
  simp[nX,iS,qR,this]
theorem qIw{α:Type}[DecidableEq α]{x:α}:∀{l seen:List α},pP seen l=false->x∉seen->x∉l->pP seen (l++[x])=false
 |[],seen,_,h,_=>by
  show(decide (x∈seen)||false)=false
  rw[jX h];rfl
 |y::l,seen,a,h,b=>by
  unfold pP at a
  rw[kV] at a
  show(decide (y∈seen)||pP (seen++[y]) (l++[x]))=false
  rw[a.1,gX]
  refine qIw a.2 (fun g=> ?_) fun g=>b (jH _ g)
  rcases kJ.1 g with g|g
  .exact h g
  exact b (by rw[jL.1 g];exact jF ..)
theorem YT{α:Type}[DecidableEq α]{x:α}{l:List α}(h:nZ l=false)(a:x∉l):nZ (l++[x])=false:=qIw h (fun g=>by cases g) a
section
variable {ts:List bD}
def yC(l:List BA):Nat:=qT (l.map fun s=>s.data.toList)
theorem qXb(l:List BA)(x:BA):yC (l++[x])=yC l+(x.size+2):=by simp[yC,qT]
theorem qGa(f:wM ts):∀(n:Nat) (l:List BA) (i:Nat) (r:Nat×List BA),(∀s∈l,iC s=true)->nZ l=false->l.length<=8->uY ts n l i= .inr r->
  (∀s∈r.2,iC s=true)/\nZ r.2=false/\r.2.length<=8/\cs ts i+yC r.2+1<=cs ts r.1+yC l
 |0,_,_,_,_,_,_,h=>by cases h
 |n+1,l,i,r,u,v,E,h=>by
  obtain⟨a,x,h⟩:=bM h
  obtain⟨rfl,k,t,D⟩:=nmI x
  simp only at h
  split at h
  .cases h
  rename_i h8
  split at h
  .cases h
  rename_i hm
  have y:iC (aA ts i).2.1=true:=by unfold iC;rw[(f i).1 k,t];rfl
  have c:∀s∈l++[(aA ts i).2.1],iC s=true:=fun s b=>by
   rcases kJ.1 b with b|b
   .exact u s b
   rw[jL.1 b];exact y
  have d:=YT v hm
  have e:(l++[(aA ts i).2.1]).length<=8:=by rw[jB,gD];omega
  have A:=qXb l (aA ts i).2.1
  split at h
  .rename_i hc
   obtain⟨o,p,q,B⟩:=qGa f n _ (i+1+1) r c d e h
   have g:cs ts (i+1+1)=cs ts (i+1)+3:=by rw[qN,yB hc (.inr rfl)];rfl
   exact⟨o,p,q,by omega⟩
  obtain⟨j,o,h⟩:=bM h
  obtain⟨rfl,g⟩:=xK o
  obtain rfl:=(Sum.inr.inj h).symm
  have z:sClose.size=1:=rfl
  refine⟨c,d,e,?_⟩
  show cs ts i+yC (l++[(aA ts i).2.1])+1<=cs ts (i+1+1)+yC l
  omega
theorem qTr(f:wM ts){i:Nat}{r:Nat×List BA}(h:xR ts i= .inr r):(∀s∈r.2,iC s=true)/\nZ r.2=false/\r.2.length<=8/\cs ts i+yC r.2+2<=cs ts r.1:=by
 obtain⟨j,k,h⟩:=bM h
 obtain⟨rfl,l⟩:=xK k
 have z:sOpen.size=1:=rfl
 split at h
 .rename_i hc
  obtain rfl:=(Sum.inr.inj h).symm
  have g:cs ts (i+1+1)=cs ts (i+1)+3:=by rw[qN,yB hc (.inr rfl)];rfl
  refine⟨fun s d=>(by cases d),rfl,jW _,?_⟩
  show cs ts i+0+2<=cs ts (i+1+1)
  omega
 obtain⟨a,b,c,e⟩:=qGa f _ [] (i+1) r (fun s d=>by cases d) rfl (jW _) h
 exact⟨a,b,c,by show _+2<=_;have:yC []=0:=rfl;omega⟩
def OkL(d:Dl):Prop:=vW d=true/\AY d=false/\nZ d.2.2.1=false/\vH d<=32
theorem zAi(l:List BA):(IV l).size<=yC l:=by
 rw[<-lM]
 exact MW _ 0
theorem qXp{s:BA}(h:uF s≠0):uF s=1/\s.size=4\/uF s=2/\s.size=4\/uF s=3/\s.size=3:=by
 unfold uF at h ⊢
 by_cases h1:s=OQ
 .rw[if_pos h1,h1];exact .inl ⟨rfl,rfl⟩
 rw[if_neg h1] at h ⊢
 by_cases h2:s=OS
 .rw[if_pos h2,h2];exact .inr (.inl ⟨rfl,rfl⟩)
 rw[if_neg h2] at h ⊢
 by_cases h3:s=OU
 .rw[if_pos h3,h3];exact .inr (.inr ⟨rfl,rfl⟩)
 rw[if_neg h3] at h;exact absurd rfl h
theorem zBm(u:wM ts){before:List Dl}{i:Nat}{r:Nat×Dl}(h:pM ts before i= .inr r):OkL r.2/\before.length≠64/\pU r.2∉before.map pU/\cs ts i+(rY r.2).length<=cs ts r.1:=by
 unfold pM at h
 simp only at h
 split at h
 .cases h
 rename_i hk
 have B:(aA ts i).1=1:=by
  refine Classical.byContradiction fun g=>hk (.inl g)
 have D:uF (aA ts i).2.1≠0:=fun g=>hk (.inr g)
 have Z:cs ts (i+1)=cs ts i+3*(aA ts i).2.1.size:=by rw[qN,UP B]
 have q:=qXp D
 generalize uF (aA ts i).2.1=k at h q
 split at h
 .cases h
 rename_i h64
 obtain⟨a,n,h⟩:=bM h
 split at h
 .cases h
 rename_i hany
 obtain⟨b,o,h⟩:=bM h
 obtain⟨j,A,h⟩:=bM h
 obtain⟨rfl,cj⟩:=xK A
 obtain⟨c,H,h⟩:=bM h
 obtain⟨m,R,h⟩:=bM h
 obtain⟨rfl,cm⟩:=xK R
 obtain rfl:=(Sum.inr.inj h).symm
 -- the name
 have p:CT (k,a.2.2.1,b.2,c.1.2)=true/\cs ts (i+1)+(if k=3 then 3*a.2.2.1.size+6 else 3*a.2.2.1.size)=cs ts a.1:=by
  by_cases k3:k=3
  .rw[if_pos k3] at n ⊢
   obtain⟨rfl,f,l⟩:=ptI n
   refine⟨?_,l.symm⟩
   unfold CT
   rw[if_neg ak,if_pos k3];exact f
  rw[if_neg k3] at n ⊢
  obtain⟨rfl,g,f,l⟩:=nmI n
  refine⟨?_,l.symm⟩
  unfold CT
  rw[if_pos ak]
  unfold iC
  rw[(u (i+1)).1 g,f];rfl
 -- the parameters
 have y:(∀s∈b.2,k=1/\iC s=true)/\nZ b.2=false/\b.2.length<=8/\cs ts a.1+(if k=1 then yC b.2+2 else 0)<=cs ts b.1:=by
  by_cases k1:k=1
  .rw[if_pos k1] at o ⊢
   obtain⟨p1,p2,p3,p4⟩:=qTr u o
   exact⟨fun s l=>⟨k1,p1 s l⟩,p2,p3,by omega⟩
  rw[if_neg k1] at o ⊢
  obtain rfl:=(Sum.inr.inj o).symm
  exact⟨fun s l=>(by cases l),rfl,jW _,jN _⟩
 obtain⟨p1,p2,p3,p4⟩:=y
 obtain⟨S,z⟩:=p
 -- the body
 obtain⟨t,t1,t2,U,V,E,Y⟩:=qLc (ps:=b.2) u 32 1 rfl _ c (by show 0<=256;decide) H
 simp only[jP,jD,kT] at t2 U V E
 have f:zJ c.1.2=some t:=by rw[t2];exact qWx t
 have M:c.1.2.length=t.size:=by rw[t2,lP]
 have z1:sEq.size=1:=rfl
 have z2:sSemi.size=1:=rfl
 refine⟨⟨?_,?_,p2,?_⟩,h64,?_,?_⟩
 .unfold vW VA OM
  simp only[jK,jZ,kI]
  refine⟨S,p1,?_,?_⟩
  .intro x v
   rw[t2] at v
   exact qXl t1 0 x v
  rw[t2];exact zBe t
 .unfold AY IW
  simp only[f]
  have:=qHe t 0 1
  simp only[kV,decide_eq_false_iff_not]
  exact⟨by omega,by omega,by omega⟩
 .unfold vH
  simp only[f]
  exact Y
 .intro v
  obtain⟨d,K,e⟩:=gL.1 v
  refine hany (fG.2 ⟨d,K,?_⟩)
  have F:d.1=k:=congrArg Prod.fst e
  have G:d.2.1=a.2.2.1:=congrArg Prod.snd e
  rw[F,G]
  simp
 have v:yI (k,a.2.2.1,b.2,c.1.2)=t.wr b.2 0:=by
  unfold yI
  simp only[f]
 have y1:(⟨#[32,61,32]⟩:BA).size=3:=rfl
 have y2:(⟨#[59,10]⟩:BA).size=2:=rfl
 have F:cs ts i+(AR (k,a.2.2.1,b.2,c.1.2)).size<=cs ts b.1:=by
  have A:=zAi b.2
  have G:(⟨#[102,117,110,99,32]⟩:BA).size=5:=rfl
  have K:(⟨#[40]⟩:BA).size=1:=rfl
  have x3:(⟨#[41]⟩:BA).size=1:=rfl
  have x4:(⟨#[116,101,115,116,32]⟩:BA).size=5:=rfl
  have x5:(⟨#[103,101,110,32,34]⟩:BA).size=5:=rfl
  have x6:(⟨#[34]⟩:BA).size=1:=rfl
  unfold AR
  rcases q with ⟨rfl,l⟩|⟨rfl,l⟩|⟨rfl,l⟩
  .rw[if_neg ac] at z
   rw[if_pos rfl] at p4
   rw[if_pos rfl]
   simp only[ByteArray.size_append];omega
  .rw[if_neg ac] at z
   rw[if_neg ac] at p4
   dsimp only
   rw[if_neg ac,if_pos rfl]
   simp only[ByteArray.size_append];omega
  rw[if_pos rfl] at z
  rw[if_neg ac] at p4
  dsimp only
  rw[if_neg ac,if_neg ac]
  simp only[ByteArray.size_append];omega
 unfold rY
 rw[v]
 simp only[jB,lM,ByteArray.size_append,mG]
 try simp only at E
 omega
theorem qFj(o:wM ts){pkg:BA}:∀(n:Nat) (l:List BA) (i:Nat) (r:Nat×List BA),(∀s∈l,iC s=true)->nZ l=false->pkg∉l->l.length<=8->qL ts pkg n l i= .inr r->
  (∀s∈r.2,iC s=true)/\nZ r.2=false/\pkg∉r.2/\r.2.length<=8/\cs ts i+(r.2.flatMap qH).length<=cs ts r.1+(l.flatMap qH).length
 |0,_,_,_,_,_,_,_,h=>by cases h
 |n+1,l,i,r,c,d,f,x,h=>by
  unfold qL at h
  split at h
  .rename_i hi
   split at h
   .cases h
   rename_i h8
   obtain⟨a,y,h⟩:=bM h
   obtain⟨rfl,k,v,F⟩:=nmI y
   simp only at h
   split at h
   .cases h
   rename_i hno
   obtain⟨j,A,h⟩:=bM h
   obtain⟨rfl,cj⟩:=xK A
   have B:iC (aA ts (i+1)).2.1=true:=by unfold iC;rw[(o (i+1)).1 k,v];rfl
   obtain⟨p,q,t,u,D⟩:=qFj o n _ _ r (fun s b=>by
    rcases kJ.1 b with b|b
    .exact c s b
    .rw[jL.1 b];exact B) (YT d fun g=>hno (.inr g)) (fun g=>by
    rcases kJ.1 g with g|g
    .exact f g
    exact hno (.inl (jL.1 g).symm)) (by rw[jB,gD];omega) h
   have E:cs ts (i+1)=cs ts i+18:=by rw[qN,yB hi (.inl rfl)];rfl
   have z:sSemi.size=1:=rfl
   have y1:(⟨#[105,109,112,111,114,116,32]⟩:BA).size=7:=rfl
   have G:(⟨#[59,10]⟩:BA).size=2:=rfl
   have e:((l++[(aA ts (i+1)).2.1]).flatMap qH).length=(l.flatMap qH).length+(7+(aA ts (i+1)).2.1.size+2):=by
    rw[fC,jB]
    congr 1
    show(qH (aA ts (i+1)).2.1++[]).length=_
    rw[jV]
    unfold qH
    simp only[lM,ByteArray.size_append];omega
   exact⟨p,q,t,u,by omega⟩
  obtain rfl:=(Sum.inr.inj h).symm
  exact⟨c,d,f,x,jN _⟩
theorem qJd(g:wM ts):∀(n:Nat) (l:List Dl) (i:Nat) (r:List Dl),(∀d∈l,OkL d)->nZ (l.map pU)=false->l.length<=64->rX ts n l i= .inr r->
  (∀d∈r,OkL d)/\nZ (r.map pU)=false/\r.length<=64/\∃e,cs ts i+(r.flatMap rY).length<=cs ts e+(l.flatMap rY).length
 |0,_,_,_,_,_,_,h=>by cases h
 |n+1,l,i,r,c,f,t,h=>by
  unfold rX at h
  split at h
  .obtain rfl:=(Sum.inr.inj h).symm
   exact⟨c,f,t,i,jN _⟩
  obtain⟨a,u,h⟩:=bM h
  obtain⟨q,y,s,z⟩:=zBm g u
  obtain⟨k,o,p,e,v⟩:=qJd g n _ _ r (fun d b=>by
   rcases kJ.1 b with b|b
   .exact c d b
   rw[jL.1 b];exact q) (by rw[gT,List.map_singleton];exact YT f s) (by rw[jB,gD];omega) h
  refine⟨k,o,p,e,?_⟩
  have x:((l++[a.2]).flatMap rY).length=(l.flatMap rY).length+(rY a.2).length:=by
   rw[fC,jB]
   congr 1
   show(rY a.2++[]).length=_
   rw[jV]
  omega
theorem zBi(o:wM ts){f:Sr}(h:tH ts= .inr f):zD f=0/\(∀d∈f.2.2,vH d<=32)/\∃e,(FZ f).length<=cs ts e:=by
 unfold tH at h
 obtain⟨i,hi,h⟩:=bM h
 obtain⟨rfl,M⟩:=wdI hi
 obtain⟨a,x,h⟩:=bM h
 obtain⟨rfl,k,v,S⟩:=nmI x
 obtain⟨j,A,h⟩:=bM h
 obtain⟨rfl,r⟩:=xK A
 obtain⟨b,y,h⟩:=bM h
 obtain⟨l,B,h⟩:=bM h
 obtain rfl:=(Sum.inr.inj h).symm
 have D:iC (aA ts (0+1)).2.1=true:=by unfold iC;rw[(o (0+1)).1 k,v];rfl
 obtain⟨E,F,G,U,q⟩:=qFj o _ [] _ b (fun s p=>by cases p) rfl (fun g=>by cases g) (jW _) y
 obtain⟨n,t,R,e,u⟩:=qJd o _ [] _ l (fun s p=>by cases p) rfl (jW _) B
 refine⟨?_,fun d c=>(n d c).2.2.2,e,?_⟩
 .have s1:OY ((aA ts (0+1)).2.1,b.2,l)=true:=by
   unfold OY
   simp only[jK,jZ]
   exact⟨D,E,fun d c=>(n d c).1⟩
  have H:AP ((aA ts (0+1)).2.1,b.2,l)=false:=by
   unfold AP
   simp only[kV,fJ,decide_eq_false_iff_not]
   exact⟨fun d c=>by rw[(n d c).2.2.1];exact kH,G,F,t⟩
  have K:IY ((aA ts (0+1)).2.1,b.2,l)=false:=by
   unfold IY
   simp only[kV,fJ,decide_eq_false_iff_not]
   exact⟨by omega,by omega,fun d c=>by rw[(n d c).2.1];exact kH⟩
  unfold zD
  rw[if_pos s1,H,K]
  rfl
 have z:sPackage.size=7:=rfl
 have K:sSemi.size=1:=rfl
 have y1:(⟨#[112,97,99,107,97,103,101,32]⟩:BA).size=8:=rfl
 have H:(⟨#[59,10]⟩:BA).size=2:=rfl
 unfold FZ zP
 simp only[jB,lM,ByteArray.size_append]
 simp only[dZ,jD,gY] at q u
 simp only at r q
 omega
end
theorem qGp:∀(n:Nat) (ds:List UInt8),ds.length=n->(∀c∈ds,kd c=2)->0<=sQ ds/\sQ ds<((10^ds.length:Nat):Int)
 |0,ds,b,_=>by
  obtain rfl:=gI.1 b
  exact⟨by decide,by decide⟩
 |n+1,ds,b,d=>by
  rcases List.eq_nil_or_concat ds with rfl|⟨a,c,rfl⟩
  .cases b
  rw[List.concat_eq_append] at*
  have e:a.length=n:=by simpa using b
  obtain⟨k,l⟩:=qGp n a e fun x g=>d x (kE _ g)
  have h:=qKg c (d c (kW _ (jL.2 rfl)))
  have f:(10^(a++[c]).length:Nat)=10^a.length*10:=by rw[jB,gD,hZ]
  rw[XV,f]
  unfold DG
  split<;>omega
def qPs(t:bD):Prop:=(t.1=1->iR t.2.1=true)/\(t.1=2->0<=t.2.2.1/\t.2.2.1<=9007199254740992)
theorem qZd{s:BA}{i:Nat}(a:Int)(hi:i<s.data.toList.length)(h:(iT s i).2.2=0):qPs ((iT s i).1.1,(iT s i).1.2.1,(iT s i).1.2.2.1,a)/\co ((iT s i).1.1,(iT s i).1.2.1,(iT s i).1.2.2.1,a)+3*i<=3*(iT s i).2.1.toNat:=by
 have t:=mZ s
 unfold iT at h ⊢
 rw[qZ hi] at h ⊢
 by_cases h1:kd (s.data.toList[i])=1
 .rw[if_pos h1] at h ⊢
  split at h
  .cases h
  rename_i h24
  rw[if_neg h24]
  have f:=sN (p:=bN [1,2,3]) (l:=s.data.toList) (a:=i) aa
  have k:=AQ (p:=bN [1,2,3]) hi (NI ae h1)
  have d:(s.extract i (tw (bN [1,2,3]) s.data.toList i)).size=tw (bN [1,2,3]) s.data.toList i-i:=by rw[ByteArray.size_extract];omega
  refine⟨⟨fun _=> ?_,fun h=>by cases h⟩,?_⟩
  .show iR (s.extract i (tw (bN [1,2,3]) s.data.toList i))=true
   have g:(s.extract i (tw (bN [1,2,3]) s.data.toList i)).data.toList.length=tw (bN [1,2,3]) s.data.toList i-i:=by rw[<-d,lM]
   have b:=qUc (s:=s) (p:=bN [1,2,3]) (i:=i)
   generalize s.extract i (tw (bN [1,2,3]) s.data.toList i)=X at g b
   unfold iR
   refine jR ⟨by omega,by omega,?_,?_⟩
   .rw[b,uS hi,gM (NI ae h1)]
    exact h1
   show 0+((X.data.toList.drop 0).takeWhile (bN [1,2,3])).length=X.data.toList.length
   have e:=SQ (p:=bN [1,2,3]) (a:=(s.data.toList.drop i).takeWhile (bN [1,2,3])) (r:=[]) (fun x d=>qAs x d) (fun x q h=>by cases h)
   rw[jV] at e
   rw[kC,kT,b,e]
  show 3*(s.extract i (tw (bN [1,2,3]) s.data.toList i)).size+3*i<=3*(tw (bN [1,2,3]) s.data.toList i)
  omega
 rw[if_neg h1] at h ⊢
 by_cases h2:kd (s.data.toList[i])=2
 .rw[if_pos h2] at h ⊢
  split at h
  .cases h
  rename_i h24
  rw[if_neg h24]
  have k:=AQ (p:=bN [2]) hi (NI ae h2)
  have g:tw (bN [2]) s.data.toList i=i+((s.data.toList.drop i).takeWhile (bN [2])).length:=rfl
  have b:∀c∈(s.data.toList.drop i).takeWhile (bN [2]),kd c=2:=fun c e=>by
   have:=jZ.1 (List.all_takeWhile (p:=bN [2]) (l:=s.data.toList.drop i)) c e
   exact UO.1 this
  obtain⟨d,n⟩:=qGp _ _ rfl b
  generalize (s.data.toList.drop i).takeWhile (bN [2])=ds at*
  refine⟨⟨fun h=>(by cases h),fun _=>⟨d,by show sQ ds<=_;omega⟩⟩,?_⟩
  show 3*(Lib.decDigits (sQ ds).toNat).length+3*i<=3*(tw (bN [2]) s.data.toList i)
  have o:=FB (ds.length-1) (sQ ds).toNat (by
   rw[show ds.length-1+1=ds.length by omega];omega)
  omega
 rw[if_neg h2] at h ⊢
 by_cases h7:kd (s.data.toList[i])=7
 .rw[if_pos h7] at h ⊢
  split at h
  .rename_i h24
   rw[if_pos h24]
   have f:=sN (p:=oT) (l:=s.data.toList) (a:=i+1) aa
   have b:tw oT s.data.toList (i+1)<s.data.toList.length:=IF (by rw[h24];decide)
   refine⟨⟨fun h=>(by cases h),fun h=>by cases h⟩,?_⟩
   show 3*(s.extract (i+1) (tw oT s.data.toList (i+1))).size+6+3*i<=3*(tw oT s.data.toList (i+1)+1)
   rw[ByteArray.size_extract];omega
  cases h
 rw[if_neg h7] at h ⊢
 by_cases h8:kd (s.data.toList[i])=8
 .rw[if_pos h8] at h ⊢
  refine⟨⟨fun h=>(by cases h),fun h=>by cases h⟩,?_⟩
  show 3*(s.extract i (uD s.data.toList i)).size+3*i<=3*(uD s.data.toList i)
  rw[ByteArray.size_extract]
  have:i<=uD s.data.toList i:=by unfold uD;split<;>omega
  omega
 rw[if_neg h8] at h
 cases h
theorem YJ{s:BA}:∀(k i:Nat) (r:List bD),i<=s.data.toList.length->s.data.toList.length<i+k->oM k s i= .inr r->(∀t∈r,qPs t)/\(r.map co).sum+3*i<=3*s.data.toList.length
 |0,i,r,v,B,c=>by omega
 |k+1,i,r,v,B,c=>by
  have D:=sN (p:=bN [5]) (l:=s.data.toList) (a:=i) v
  simp only[oM] at c
  generalize hE:tw (bN [5]) s.data.toList i=a at D c
  split at c
  .obtain rfl:=(Sum.inr.inj c).symm
   refine⟨fun t f=> ?_,?_⟩
   .rw[jL.1 f]
    exact⟨fun h=>(by cases h),fun h=>by cases h⟩
   show 0+0+3*i<=_
   omega
  rename_i he
  have d:a<s.data.toList.length:=by omega
  split at c
  .rename_i h6
   have n:=sN (p:=oR) (l:=s.data.toList) (a:=a) aa
   have g:=AQ (p:=oR) d (by
    rw[qZ d] at h6
    simp only[oR,dE,uB]
    intro e;rw[e] at h6;exact absurd h6 ac)
   obtain⟨o,A⟩:=YJ k _ r n.2 aa c
   exact⟨o,by omega⟩
  split at c
  .cases c
  rename_i g
  have g:(iT s a).2.2=0:=by simpa using g
  obtain⟨b,y,n,z,-⟩:=UJ d g
  obtain⟨E,F⟩:=qZd (a:Int) d g
  rw[y,jQ] at c F
  cases u:oM k s b with
  |inl x=>rw[u] at c;cases c
  |inr q=>
   rw[u] at c
   obtain rfl:=(Sum.inr.inj c).symm
   obtain⟨o,A⟩:=YJ k b q z aa u
   refine⟨fun t f=> ?_,?_⟩
   .rcases jJ.1 f with rfl|f
    .exact E
    exact o t f
   rw[kF,dF];omega
theorem qFo{s:BA}(h:(mP s).2.2=0):wM (mP s).1/\∀e,cs (mP s).1 e<=3*s.size:=by
 have d:=mZ s
 unfold mP at h ⊢
 split at h
 .cases h
 rename_i hl
 rw[if_neg hl]
 cases hG:oM (s.data.toList.length+1) s 0 with
 |inl x=>
  rw[hG] at h
  exact absurd h (TY _ 0 x aa aa hG).2.2
 |inr r=>
  obtain⟨a,b⟩:=YJ _ 0 r aa aa hG
  show wM ([]++r)/\∀e,cs ([]++r) e<=3*s.size
  rw[jP]
  refine⟨fun i=> ?_,fun e=> ?_⟩
  .by_cases hi:i<r.length
   .have e:aA r i=r[i]:=by
     unfold aA
     rw[jS,List.getElem?_eq_getElem hi];rfl
    rw[e]
    exact a _ (jM hi)
   have e:aA r i=(5,⟨#[]⟩,0,0):=by
    unfold aA
    rw[jS,List.getElem?_eq_none aa];rfl
   rw[e]
   exact⟨fun h=>(by cases h),fun h=>by cases h⟩
  unfold cs
  have c:(r.map co).sum=((r.take e).map co).sum+((r.drop e).map co).sum:=by
   rw[<-List.sum_append,<-gT,fD]
  omega
def NZ{α:Type}(x:cD⊕α):Prop:=∀z,x= .inl z->z.2≠0
theorem NZ.ok{α:Type}{a:α}:NZ (.inr a:cD⊕α):=fun z h=>by cases h
theorem NZ.fail{α:Type}{t:bD}{e:Int}(a:e≠0):NZ (iM t e:cD⊕α):=fun z h=>by
 obtain rfl:=Sum.inl.inj h
 exact a
theorem NZ.bind{α β:Type}{x:cD⊕α}{f:α->cD⊕β}(h:NZ x)(c:∀a,NZ (f a)):NZ (aQ x f):=fun z b=>by
 cases x with
 |inl y=>
  obtain rfl:=Sum.inl.inj (show(Sum.inl y:cD⊕β)= .inl z from b)
  exact h _ rfl
 |inr a=>exact c a z b
theorem NZ.ite{α:Type}{c:Prop}[Decidable c]{x y:cD⊕α}(a:NZ x)(b:NZ y):NZ (if c then x else y):=by
 split
 .exact a
 exact b
section
variable {ts:List bD} {ps:List BA} {E S:Ps->PM Nat}
theorem wZ{s:BA}{i:Nat}:NZ (iD ts s i):= .ite .ok (.fail ac)
theorem qAz{s:BA}{i:Nat}:NZ (wI ts s i):= .ite .ok (.fail ac)
theorem NW{k:Int}{i:Nat}:NZ (oC ts k i):= .ite .ok (.fail ac)
theorem UV{i:Nat}:NZ (pC ts i):= .bind NW fun _=> .ite (.fail ac) .ok
theorem UY{i:Nat}:NZ (qQ ts i):= .bind NW fun _=> .ite .ok (.fail ac)
theorem zDg{i:Nat}:NZ (wX ts i):= .bind NW fun _=> .ite .ok (.fail ac)
theorem FH{t:bD}{x:Ex}{p:Ps}:NZ (mL t x p):= .ite (.fail ac) .ok
theorem qPg(a:∀p,NZ (E p)):∀(n:Nat) (l:List Int) (p:Ps),NZ (tZ ts E n l p)
 |0,_,_=> .fail ac
 |n+1,_,p=> .bind (a p) fun _=> .ite (qPg a n _ _) (.bind wZ fun _=> .ok)
theorem qVg(a:∀p,NZ (E p))(p:Ps):NZ (xS ts E p):= .bind wZ fun _=> .ite .ok (qPg a _ _ _)
theorem qYc(a:∀p,NZ (E p))(t:bD)(p:Ps):NZ (rV ts E t p):=
 .bind wZ fun _=> .bind (.ite (.bind UY fun _=> .bind wZ fun _=> .bind (a _) fun _=> .ok) (.ite (.bind UY fun _=> .ok) (.ite (.bind UY fun _=> .ok) (.ite (.bind zDg fun _=> .ok) (.bind NW fun _=> .ite (.fail ac) .ok))))) fun _=> .bind wZ fun _=>FH
theorem zAg(a:∀p,NZ (E p))(p:Ps):NZ (nT ts ps E p):=by
 unfold nT
 refine .ite FH (.ite (.bind NW fun _=>FH) (.ite (.bind (a _) fun _=> .bind wZ fun _=> .ok) (.ite (.fail ac) (.ite (qYc a _ _) (.ite (.fail ac) (.ite (.bind (qVg a _) fun _=>FH) ?_))))))
 split
 .exact FH
 exact .fail ac
theorem qOi{level:Nat}(a:∀p,NZ (S p)):∀(n x:Nat) (p:Ps),NZ (nR ts level S n x p)
 |0,_,_=> .fail ac
 |n+1,_,p=> .ite .ok (.bind (a _) fun _=> .bind FH fun _=> .ite .ok (qOi a n _ _))
theorem qAi{level:Nat}(a:∀p,NZ (S p))(p:Ps):NZ (qO ts level S p):= .bind (a p) fun _=>qOi a _ _ _
theorem OJ:∀(k:Nat) (p:Ps),NZ (eP ts ps k p)
 |0,_=> .fail ac
 |k+1,p=> .ite (.bind (OJ k _) fun _=> .bind qAz fun _=> .bind (OJ k _) fun _=> .bind qAz fun _=> .bind (OJ k _) fun _=>FH) (qAi (qAi (qAi (zAg (OJ k)))) p)
theorem qKn:∀(n:Nat) (l:List BA) (i:Nat),NZ (uY ts n l i)
 |0,_,_=> .fail ac
 |n+1,_,_=> .bind UV fun _=> .ite (.fail ac) (.ite (.fail ac) (.ite (qKn n _ _) (.bind wZ fun _=> .ok)))
theorem zGl(before:List Dl)(i:Nat):NZ (pM ts before i):=by
 unfold pM
 refine .ite (.fail ac) (.ite (.fail ac) (.bind (.ite UY UV) fun _=> .ite (.fail ac) (.bind (.ite (.bind wZ fun _=> .ite .ok (qKn _ _ _)) .ok) fun _=> .bind wZ fun _=> .bind (OJ _ _) fun _=> .bind wZ fun _=> .ok)))
theorem qIv{pkg:BA}:∀(n:Nat) (l:List BA) (i:Nat),NZ (qL ts pkg n l i)
 |0,_,_=> .fail ac
 |n+1,_,_=> .ite (.ite (.fail ac) (.bind UV fun _=> .ite (.fail ac) (.bind wZ fun _=>qIv n _ _))) .ok
theorem qMo:∀(n:Nat) (l:List Dl) (i:Nat),NZ (rX ts n l i)
 |0,_,_=> .fail ac
 |n+1,_,_=> .ite .ok (.bind (zGl _ _) fun _=>qMo n _ _)
theorem qBd:NZ (tH ts):= .bind qAz fun _=> .bind UV fun _=> .bind wZ fun _=> .bind (qIv _ _ _) fun _=> .bind (qMo _ _ _) fun _=> .ok
end
theorem qIr{s:BA}{f:Sr}(h:lD s=(f,0,0)):zD f=0/\(∀d∈f.2.2,vH d<=32)/\(FZ f).length<=3*s.size:=by
 unfold lD at h
 split at h
 .rename_i hn
  exact absurd (congrArg (fun z=>z.2.2) h) hn
 rename_i k
 have k:(mP s).2.2=0:=by simpa using k
 obtain⟨l,n⟩:=qFo k
 split at h
 .rename_i z hz0
  exact absurd (congrArg (fun y=>y.2.2) h) (qBd z hz0)
 rename_i g hg
 obtain rfl:g=f:=congrArg (fun z=>z.1) h
 obtain⟨a,b,e,c⟩:=zBi l hg
 exact⟨a,b,gJ c (n e)⟩
def CZ(f:Sr)(d:Dl):List UInt8:=(zP f.1++f.2.1.flatMap qH)++rY d
def tN(f:Sr)(d:Dl):Sr:=(f.1,f.2.1,[d])
theorem qLi{f:Sr}(h:GoodS f){d:Dl}(c:d∈f.2.2):GoodS (tN f d):=by
 have a:=h.once
 unfold AP at a
 simp only[kV,fJ] at a
 refine⟨h.pkg,h.imps,h.impn,by show 1<=64;decide,fun e b=> ?_,?_⟩
 .rw[jL.1 b];exact h.decs d c
 unfold AP tN
 simp only[kV,fJ]
 refine⟨fun e b=> ?_,a.2.1,a.2.2.1,rfl⟩
 rw[jL.1 b]
 exact a.1 d c
theorem qLu(f:Sr)(d:Dl):FZ (tN f d)=CZ f d:=by
 unfold FZ tN CZ
 simp
theorem apart{f g:Sr}(o:GoodS f)(q:GoodS g){d e:Dl}(l:d∈f.2.2)(n:e∈g.2.2)(pd:vH d<=32)(pe:vH e<=32)(h:CZ f d=CZ g e):f.1=g.1/\f.2.1=g.2.1/\d=e:=by
 have gf:=qLi o l
 have gg:=qLi q n
 have t:eZ (tD (tN f d))=eZ (tD (tN g e)):=by rw[qFm gf,qFm gg,qLu,qLu,h]
 obtain⟨ts,t1,t2⟩:=XJ (s:=⟨⟨eZ (tD (tN f d))⟩⟩) (tD (tN f d)) [] [] ((tD (tN f d)).length+(tD (tN g e)).length+1) rfl (fun x h=>by cases h) (qMv gf) aa
 obtain⟨us,c,k⟩:=XJ (s:=⟨⟨eZ (tD (tN f d))⟩⟩) (tD (tN g e)) [] [] ((tD (tN f d)).length+(tD (tN g e)).length+1) t (fun x h=>by cases h) (qMv gg) aa
 rw[t1] at c
 obtain rfl:=Sum.inr.inj c
 have a:∀p:List Pc,ts.map iV=p.map (fun p=>iZ p.1)++[(5,⟨#[]⟩,0)]->p.length<ts.length:=fun p r=>by
  have:=congrArg List.length r
  simp only[gA,jB,jC,jD] at this
  omega
 have R1:=(qKi gf (qMp t2) (a _ t2)).1 (fun x b=>by rw[jL.1 b];exact pd)
 have R2:=(qKi gg (qMp k) (a _ k)).1 (fun x b=>by rw[jL.1 b];exact pe)
 rw[R1] at R2
 have e0:tN f d=tN g e:=Sum.inr.inj R2
 exact⟨congrArg (fun x=>x.1) e0,congrArg (fun x=>x.2.1) e0,(List.cons.inj (congrArg (fun x=>x.2.2) e0)).1⟩
end
section
open Go Go.Dc
abbrev Aa:=Sr×Dl
abbrev Es:=List Ky×Nat×Bool
abbrev Eo(α:Type):=Es×(Int⊕α)
structure Lk where
 cl:Sr->BA->List Ky×(Int⊕Aa)
 dt:BA->List Ky×(Int⊕(BA⊕Aa))
 en:BA->Option Int
 bt:Int->Int
 ar:Int->Int->Int->Int⊕Int
abbrev yN:=Nat->Aa->List Int->Int->Es->Eo Int
def bE{α β:Type}(o:Eo α)(k:α->Es->Eo β):Eo β:=
 match o with
 |(s,.inl e)=>(s,.inl e)
 |(s,.inr v)=>k v s
def uI(F:Int->Es->Eo Int):List Int->Es->Eo (List Int)
 |[],s=>(s,.inr [])
 |i::l,s=>bE (F i s) fun v s=>bE (uI F l s) fun vs s=>(s,.inr (v::vs))
def pT(F:yN)(a:Nat)(t:Aa)(vs:List Int)(s:Es):Eo Int:=
 if a=64 then(s,.inl 17) else F (a+1) t vs ((t.2.2.2.2.length:Int)-1) s
def lJ(s:Es)(l:List Ky):Es:=(s.1++l,s.2)
def qW(x:Ex)(k:Nat):Int:=x.2.2.2.2.getD k 0
def yH(I:Lk)(F:yN)(a:Nat)(c:Aa)(vs:List Int)(x:Ex)(s:Es):Eo Int:=
 if x.1=1 then(s,.inr x.2.1)
 else if x.1=2 then(s,.inr (vs.getD x.2.1.toNat 0))
 else if x.1=3 then
  bE (lJ s (I.cl c.1 x.2.2.2.1).1,(I.cl c.1 x.2.2.2.1).2) fun t s=>bE (uI (F a c vs) x.2.2.2.2 s) fun us s=>
   if us.length=t.2.2.2.1.length then pT F a t us s else(s,.inl 13)
 else if x.1=4 then bE (F a c vs (qW x 0) s) fun p s=>bE (F a c vs (qW x 1) s) fun q s=>(s,I.ar x.2.2.1 p q)
 else if x.1=5 then bE (F a c vs (qW x 0) s) fun p s=>F a c vs (qW x (if p=0 then 2 else 1)) s
 else if x.1=6 then
  bE (lJ s (I.dt x.2.2.2.1).1,(I.dt x.2.2.2.1).2) fun t s=>bE (F a c vs (qW x 0) s) fun i s=>
   match t with
   | .inl b=>if 0<=i/\i<b.size then(s,.inr ((b.data.toList.getD i.toNat 0).toNat:Int)) else(s,.inl 3)
   | .inr t=>if i=0 then bE (pT F a t [] s) fun v s=>(s,.inr (v%256)) else(s,.inl 3)
 else if x.1=7 then
  bE (lJ s (I.dt x.2.2.2.1).1,(I.dt x.2.2.2.1).2) fun t s=>(s,.inr (match t with| .inl b=>(b.size:Int)| .inr _=>1))
 else if x.1=8 then(lJ s (I.dt x.2.2.2.1).1,.inr (match(I.dt x.2.2.2.1).2 with| .inl e=>(if e=14 then 0 else 1)| .inr _=>1))
 else if x.1=9 then(lJ s [(5,x.2.2.2.1,⟨#[]⟩)],match I.en x.2.2.2.1 with|some v=> .inr v|none=> .inl 15)
 else((s.1,s.2.1,true),.inr (I.bt x.2.1))
def ev(I:Lk):Nat->yN
 |0,_,_,_,_,s=>(s,.inl 16)
 |n+1,a,c,vs,i,s=>
  if s.2.1=20000 then(s,.inl 16) else
  match c.2.2.2.2[i.toNat]? with
  |none=>(s,.inl 0)
  |some x=>yH I (ev I n) a c vs x (s.1,s.2.1+1,s.2.2)
def Gr(s s':Es):Prop:=(∃l,s'.1=s.1++l)/\s.2.1<=s'.2.1/\(s.2.1<=20000->s'.2.1<=20000)/\(s.2.2=true->s'.2.2=true)
theorem Gr.rfl'(s:Es):Gr s s:=⟨⟨[],(jV _).symm⟩,jN _,id,id⟩
theorem Gr.tr{s t u:Es}(h:Gr s t)(g:Gr t u):Gr s u:=by
 obtain⟨⟨l,e⟩,f,n,o⟩:=h
 obtain⟨⟨k,a⟩,b,c,d⟩:=g
 exact⟨⟨l++k,by rw[a,e,jE]⟩,gJ f b,fun h=>c (n h),fun h=>d (o h)⟩
theorem Gr.see(s:Es)(l:List Ky):Gr s (lJ s l):=⟨⟨l,rfl⟩,jN _,id,id⟩
theorem Gr.bE{α β:Type}{s:Es}{o:Eo α}{k:α->Es->Eo β}(h:Gr s o.1)(a:∀v u,Gr u (k v u).1):Gr s (bE o k).1:=by
 obtain⟨u,e|v⟩:=o
 .exact h
 exact h.tr (a v u)
def GrF(F:yN):Prop:=∀a c vs i s,Gr s (F a c vs i s).1
theorem Gr.seq{F:Int->Es->Eo Int}(h:∀i s,Gr s (F i s).1):∀(l:List Int) (s:Es),Gr s (uI F l s).1
 |[],s=> .rfl' s
 |i::l,s=>(h i s).bE fun _ u=>(Gr.seq h l u).bE fun _ u=> .rfl' u
theorem Gr.enter{F:yN}(h:GrF F)(a:Nat)(t:Aa)(vs:List Int)(s:Es):Gr s (pT F a t vs s).1:=by
 unfold pT
 split
 .exact .rfl' s
 exact h ..
theorem Gr.node{I:Lk}{F:yN}(h:GrF F)(a:Nat)(c:Aa)(vs:List Int)(x:Ex)(s:Es):Gr s (yH I F a c vs x s).1:=by
 unfold yH
 split
 .exact .rfl' s
 split
 .exact .rfl' s
 split
 .refine(Gr.see s _).bE fun t u=>(Gr.seq (fun i s=>h ..) _ u).bE fun us u=> ?_
  split
  .exact .enter h ..
  exact .rfl' u
 split
 .exact(h ..).bE fun _ u=>(h ..).bE fun _ u=> .rfl' u
 split
 .exact(h ..).bE fun _ u=>h ..
 split
 .refine(Gr.see s _).bE fun t u=>(h ..).bE fun i u=> ?_
  cases t with
  |inl b=>dsimp only;split<;>exact .rfl' u
  |inr t=>
   dsimp only
   split
   .exact(Gr.enter h ..).bE fun _ u=> .rfl' u
   exact .rfl' u
 split
 .exact(Gr.see s _).bE fun _ u=> .rfl' u
 split
 .exact .see ..
 split
 .exact .see ..
 exact⟨⟨[],(jV _).symm⟩,jN _,id,fun _=>rfl⟩
theorem Gr.ev(I:Lk):∀n,GrF (ev I n)
 |0,_,_,_,_,s=> .rfl' s
 |n+1,a,c,vs,i,s=>by
  unfold Go.Proofs.YteclmpmonbnooaaGreatDoor.ev
  split
  .exact .rfl' s
  rename_i hs
  split
  .exact .rfl' s
  exact Gr.tr (t:=(s.1,s.2.1+1,s.2.2)) ⟨⟨[],(jV _).symm⟩,Nat.le_succ _,fun h=>show s.2.1+1<=20000 by omega,id⟩ (.node (Gr.ev I n) ..)
def qQf(G:Aa->Aa->Prop):Int⊕Aa->Int⊕Aa->Prop
 | .inl e,.inl e'=>e=e'
 | .inr t,.inr t'=>G t t'
 |_,_=>False
def qQq(G:Aa->Aa->Prop):Int⊕(BA⊕Aa)->Int⊕(BA⊕Aa)->Prop
 | .inl e,.inl e'=>e=e'
 | .inr (.inl b),.inr (.inl b')=>b=b'
 | .inr (.inr t),.inr (.inr t')=>G t t'
 |_,_=>False
structure Agr(I J:Lk)(C:Es->Prop)(G:Aa->Aa->Prop):Prop where
 anti:∀s s',Gr s s'->C s'->C s
 body:∀t t',G t t'->t'.2.2.2=t.2.2.2
 ar:J.ar=I.ar
 cl:∀t t' x s,G t t'->x∈t.2.2.2.2->x.1=3->C (lJ s (I.cl t.1 x.2.2.2.1).1)->(J.cl t'.1 x.2.2.2.1).1=(I.cl t.1 x.2.2.2.1).1/\qQf G (I.cl t.1 x.2.2.2.1).2 (J.cl t'.1 x.2.2.2.1).2
 dt:∀t t' x s,G t t'->x∈t.2.2.2.2->(x.1=6\/x.1=7\/x.1=8)->C (lJ s (I.dt x.2.2.2.1).1)->(J.dt x.2.2.2.1).1=(I.dt x.2.2.2.1).1/\qQq G (I.dt x.2.2.2.1).2 (J.dt x.2.2.2.1).2
 en:∀t t' x s,G t t'->x∈t.2.2.2.2->x.1=9->C (lJ s [(5,x.2.2.2.1,⟨#[]⟩)])->J.en x.2.2.2.1=I.en x.2.2.2.1
 bt:∀t t' x (s:Es),G t t'->x∈t.2.2.2.2->(∀k:Int,0<k->k<10->x.1≠k)->C (s.1,s.2.1,true)->J.bt x.2.1=I.bt x.2.1
section
variable {I J:Lk} {C:Es->Prop} {G:Aa->Aa->Prop} {F F':yN}
theorem AK{α β:Type}{o o':Eo α}{k k':α->Es->Eo β}(c:∀s s',Gr s s'->C s'->C s)(d:∀v u,Gr u (k v u).1)(a:C (bE o k).1)(f:C o.1->o'=o)(h:∀v u,C (k v u).1->k' v u=k v u):bE o' k'=bE o k:=by
 have b:C o.1:=c _ _ (Gr.bE (s:=o.1) (.rfl' _) d) a
 rw[f b]
 obtain⟨u,e|v⟩:=o
 .rfl
 exact h v u a
def qCa(C:Es->Prop)(G:Aa->Aa->Prop)(F F':yN):Prop:=∀a t t' vs i s,G t t'->C (F a t vs i s).1->F' a t' vs i s=F a t vs i s
theorem qMn(a:∀s s',Gr s s'->C s'->C s){f f':Int->Es->Eo Int}(c:∀i s,Gr s (f i s).1)(h:∀i s,C (f i s).1->f' i s=f i s):∀(l:List Int) (s:Es),C (uI f l s).1->uI f' l s=uI f l s
 |[],_,_=>rfl
 |i::l,s,b=>AK a (fun _ u=>(Gr.seq c l u).bE fun _ u=> .rfl' u) b (h i s) fun _ u b=>AK a (fun _ u=> .rfl' u) b (qMn a c h l u) fun _ _ _=>rfl
theorem YG(d:Agr I J C G)(h:qCa C G F F'){a:Nat}{t t':Aa}{vs:List Int}{s:Es}(c:G t t')(b:C (pT F a t vs s).1):pT F' a t' vs s=pT F a t vs s:=by
 unfold pT at b ⊢
 rw[d.body t t' c]
 split at b
 .rename_i h1;rw[if_pos h1,if_pos h1]
 rename_i h1;rw[if_neg h1,if_neg h1];exact h _ _ _ _ _ _ c b
theorem zAm(r:Agr I J C G)(z:GrF F)(h:qCa C G F F'){a:Nat}{t t':Aa}{vs:List Int}{x:Ex}{s:Es}(g:G t t')(D:x∈t.2.2.2.2)(c:C (yH I F a t vs x s).1):
  yH J F' a t' vs x s=yH I F a t vs x s:=by
 have n:=r.anti
 unfold yH at c ⊢
 by_cases k1:x.1=1
 .rw[if_pos k1,if_pos k1]
 rw[if_neg k1] at c;rw[if_neg k1,if_neg k1]
 by_cases k2:x.1=2
 .rw[if_pos k2,if_pos k2]
 rw[if_neg k2] at c;rw[if_neg k2,if_neg k2]
 by_cases k3:x.1=3
 .rw[if_pos k3] at c;rw[if_pos k3,if_pos k3]
  have gk:∀(d:Aa) (us:List Int) (u:Es),Gr u (if us.length=d.2.2.2.1.length then pT F a d us u else(u,.inl 13)).1:=fun d us u=>by
   split
   .exact .enter z ..
   exact .rfl' u
  have gs:∀(d:Aa) (u:Es),Gr u (bE (uI (F a t vs) x.2.2.2.2 u) fun us s=>if us.length=d.2.2.2.1.length then pT F a d us s else(s,.inl 13)).1:=fun d u=>(Gr.seq (fun i s=>z ..) _ u).bE fun us u=>gk d us u
  have B:C (lJ s (I.cl t.1 x.2.2.2.1).1):=n _ _ (Gr.bE (o:=(lJ s (I.cl t.1 x.2.2.2.1).1,(I.cl t.1 x.2.2.2.1).2)) (.rfl' _) gs) c
  obtain⟨y,f⟩:=r.cl t t' x s g D k3 B
  rw[y]
  generalize (I.cl t.1 x.2.2.2.1).2=p at f c ⊢
  generalize (J.cl t'.1 x.2.2.2.1).2=q at f ⊢
  cases p with
  |inl e=>cases q with
   |inl e'=>rw[show e=e' from f];rfl
   |inr d'=>exact f.elim
  |inr d=>cases q with
   |inl e'=>exact f.elim
   |inr d'=>
    refine AK (o:=uI (F a t vs) x.2.2.2.2 _) n (fun us u=>gk d us u) c (fun c=>qMn n (fun i s=>z ..) (fun i s c=>h _ _ _ _ _ _ g c) _ _ c) fun us u c=> ?_
    rw[r.body d d' f]
    split at c
    .rename_i l;rw[if_pos l,if_pos l];exact YG r h f c
    rename_i l;rw[if_neg l,if_neg l]
 rw[if_neg k3] at c;rw[if_neg k3,if_neg k3]
 by_cases k4:x.1=4
 .rw[if_pos k4] at c;rw[if_pos k4,if_pos k4]
  refine AK n (fun p u=>(z ..).bE fun q u=> .rfl' u) c (fun c=>h _ _ _ _ _ _ g c) fun p u c=> ?_
  refine AK n (fun q u=> .rfl' u) c (fun c=>h _ _ _ _ _ _ g c) fun q u _=> ?_
  rw[r.ar]
 rw[if_neg k4] at c;rw[if_neg k4,if_neg k4]
 by_cases k5:x.1=5
 .rw[if_pos k5] at c;rw[if_pos k5,if_pos k5]
  exact AK n (fun p u=>z ..) c (fun c=>h _ _ _ _ _ _ g c) fun p u c=>h _ _ _ _ _ _ g c
 rw[if_neg k5] at c;rw[if_neg k5,if_neg k5]
 by_cases k6:x.1=6
 .rw[if_pos k6] at c;rw[if_pos k6,if_pos k6]
  have gk:∀(d:BA⊕Aa) (i:Int) (u:Es),Gr u (match d with
   | .inl b=>if 0<=i/\i<b.size then(u,.inr ((b.data.toList.getD i.toNat 0).toNat:Int)) else(u,.inl 3)
   | .inr t=>if i=0 then bE (pT F a t [] u) fun v s=>(s,.inr (v%256)) else(u,.inl 3):Eo Int).1:=fun d i u=>by
   cases d with
   |inl b=>dsimp only;split<;>exact .rfl' u
   |inr t=>
    dsimp only
    split
    .exact(Gr.enter z ..).bE fun _ u=> .rfl' u
    exact .rfl' u
  have B:C (lJ s (I.dt x.2.2.2.1).1):=n _ _ (Gr.bE (o:=(lJ s (I.dt x.2.2.2.1).1,(I.dt x.2.2.2.1).2)) (.rfl' _) (fun d u=>(z ..).bE fun i u=>gk d i u)) c
  obtain⟨y,f⟩:=r.dt t t' x s g D (.inl k6) B
  rw[y]
  generalize (I.dt x.2.2.2.1).2=p at f c ⊢
  generalize (J.dt x.2.2.2.1).2=q at f ⊢
  obtain e|b|d:=p<;>obtain e'|b'|d':=q<;>first|exact f.elim|skip
  .rw[show e=e' from f];rfl
  .rw[<-show b=b' from f]
   exact AK (o:=F a t vs (qW x 0) _) n (fun i u=>gk (.inl b) i u) c (fun c=>h _ _ _ _ _ _ g c) fun i u _=>rfl
  refine AK (o:=F a t vs (qW x 0) _) n (fun i u=>gk (.inr d) i u) c (fun c=>h _ _ _ _ _ _ g c) fun i u c=> ?_
  dsimp only at c ⊢
  split at c
  .rename_i l;rw[if_pos l,if_pos l]
   exact AK n (fun _ u=> .rfl' u) c (fun c=>YG r h f c) fun _ _ _=>rfl
  rename_i l;rw[if_neg l,if_neg l]
 rw[if_neg k6] at c;rw[if_neg k6,if_neg k6]
 by_cases k7:x.1=7
 .rw[if_pos k7] at c;rw[if_pos k7,if_pos k7]
  have B:C (lJ s (I.dt x.2.2.2.1).1):=n _ _ (Gr.bE (o:=(lJ s (I.dt x.2.2.2.1).1,(I.dt x.2.2.2.1).2)) (.rfl' _) (fun d u=> .rfl' u)) c
  obtain⟨y,f⟩:=r.dt t t' x s g D (.inr (.inl k7)) B
  rw[y]
  generalize (I.dt x.2.2.2.1).2=p at f ⊢
  generalize (J.dt x.2.2.2.1).2=q at f ⊢
  obtain e|b|d:=p<;>obtain e'|b'|d':=q<;>first|exact f.elim|skip
  .rw[show e=e' from f]
  .rw[show b=b' from f]
  rfl
 rw[if_neg k7] at c;rw[if_neg k7,if_neg k7]
 by_cases A:x.1=8
 .rw[if_pos A] at c;rw[if_pos A,if_pos A]
  obtain⟨y,f⟩:=r.dt t t' x s g D (.inr (.inr A)) c
  rw[y]
  generalize (I.dt x.2.2.2.1).2=p at f ⊢
  generalize (J.dt x.2.2.2.1).2=q at f ⊢
  obtain e|b|d:=p<;>obtain e'|b'|d':=q<;>first|exact f.elim|skip
  .rw[show e=e' from f]
  .rfl
  rfl
 rw[if_neg A] at c;rw[if_neg A,if_neg A]
 by_cases f:x.1=9
 .rw[if_pos f] at c;rw[if_pos f,if_pos f,r.en t t' x s g D f c]
 rw[if_neg f] at c;rw[if_neg f,if_neg f]
 have y:∀k:Int,0<k->k<10->x.1≠k:=fun k B l e=>by
  rcases(by omega:k=1\/k=2\/k=3\/k=4\/k=5\/k=6\/k=7\/k=8\/k=9) with rfl|rfl|rfl|rfl|rfl|rfl|rfl|rfl|rfl<;>contradiction
 rw[r.bt t t' x s g D y c]
theorem qOl(c:Agr I J C G):∀n,qCa C G (ev I n) (ev J n)
 |0,_,_,_,_,_,_,_,_=>rfl
 |n+1,a,t,t',vs,i,s,d,b=>by
  unfold ev at b ⊢
  rw[c.body t t' d]
  split at b
  .rename_i h;rw[if_pos h,if_pos h]
  rename_i h
  rw[if_neg h,if_neg h]
  split at b
  .rfl
  rename_i x hx
  exact zAm c (Gr.ev I n) (qOl c n) d (dJ hx) b
end
def PB{α:Type}(P:α->Prop)(x:cD⊕α):Prop:=∀a,x= .inr a->P a
theorem PB.fail{α:Type}{P:α->Prop}{t:bD}{e:Int}:PB P (iM t e):=fun _ h=>by cases h
theorem PB.ok{α:Type}{P:α->Prop}{a:α}(h:P a):PB P (.inr a):=fun b e=>by cases e;exact h
theorem PB.bind{α β:Type}{P:α->Prop}{Q:β->Prop}{x:cD⊕α}{f:α->cD⊕β}(h:PB P x)(b:∀a,P a->PB Q (f a)):PB Q (aQ x f):=by
 cases x with
 |inl z=>exact fun _ e=>by cases e
 |inr a=>exact b a (h a rfl)
theorem PB.any{α:Type}{x:cD⊕α}:PB (fun _=>True) x:=fun _ _=>trivial
theorem PB.ite{α:Type}{P:α->Prop}{c:Prop}[Decidable c]{x y:cD⊕α}(a:c->PB P x)(b:¬c->PB P y):PB P (if c then x else y):=by
 split
 .exact a ‹_›
 exact b ‹_›
def okX(Z:Int->BA->Prop)(F:Int->Prop)(np i:Nat)(x:Ex):Prop:=
 (x.1=1/\-9007199254740992<=x.2.1/\x.2.1<=9007199254740992)\/(x.1=2/\0<=x.2.1/\x.2.1<np)\/(x.1=3/\Z 3 x.2.2.2.1/\x.2.2.2.2.length<=20000/\∀j∈x.2.2.2.2,0<=j/\j<(i:Int))\/
 (x.1=4/\∃j k:Nat,x.2.2.2.2=[(j:Int),(k:Int)]/\j<i/\k<i)\/(x.1=5/\∃j k l:Nat,x.2.2.2.2=[(j:Int),(k:Int),(l:Int)]/\j<i/\k<i/\l<i)\/
 (x.1=6/\Z 6 x.2.2.2.1/\∃j:Nat,x.2.2.2.2=[(j:Int)]/\j<i)\/((x.1=7\/x.1=8\/x.1=9)/\Z x.1 x.2.2.2.1)\/(x.1=10/\0<=x.2.1/\x.2.1<64/\F x.2.1)
def qQg(Z:Int->BA->Prop)(F:Int->Prop)(t:bD):Prop:=
 (t.1=1->Z 3 t.2.1)/\(t.1=3->(iF t.2.1.data.toList=true->Z 6 t.2.1/\Z 7 t.2.1/\Z 8 t.2.1)/\(iR t.2.1=true->Z 9 t.2.1))/\(t.1=2->(0<=t.2.2.1/\t.2.2.1<=9007199254740992)/\(t.2.2.1<64->F t.2.2.1))
def OB(Z:Int->BA->Prop)(F:Int->Prop)(np:Nat)(l:List Ex):Prop:=(∀(i:Nat) x,l[i]? =some x->okX Z F np i x)/\l.length<=256
def JY(Z:Int->BA->Prop)(F:Int->Prop)(d:Dl):Prop:=OB Z F d.2.2.1.length d.2.2.2/\0<d.2.2.2.length/\d.2.2.1.length<=8/\(d.1≠1->d.2.2.1=[])
def okF(Z:Int->BA->Prop)(F:Int->Prop)(f:Sr):Prop:=(Z 3 f.1/\∀q∈f.2.1,Z 3 q)/\f.2.1.length<=8/\f.2.2.length<=64/\∀d∈f.2.2,JY Z F d
section
variable {Z:Int->BA->Prop} {F:Int->Prop} {ts:List bD} {ps:List BA} {E S:Ps->PM Nat}
def yJ(Z:Int->BA->Prop)(F:Int->Prop)(ts:List bD):Prop:=∀j,qQg Z F (aA ts j)
def Stp(Z:Int->BA->Prop)(F:Int->Prop)(np:Nat)(p:Ps)(r:Ps×Nat):Prop:=OB Z F np r.1.2/\p.2.length<=r.1.2.length/\r.2<r.1.2.length
def BN(Z:Int->BA->Prop)(F:Int->Prop)(np:Nat)(E:Ps->PM Nat):Prop:=∀p,OB Z F np p.2->PB (Stp Z F np p) (E p)
theorem NV(b:yJ Z F ts){k:Int}{i:Nat}:PB (fun a=>qQg Z F a.2/\a.2.1=k) (oC ts k i):= .ite (fun h=> .ok ⟨b i,h⟩) fun _=> .fail
theorem qOm(b:yJ Z F ts){i:Nat}:PB (fun a=>Z 3 a.2.2.1) (pC ts i):= .bind (NV b) fun _ h=> .ite (fun _=> .fail) fun _=> .ok (h.1.1 h.2)
theorem qAw(b:yJ Z F ts){i:Nat}:PB (fun a=>Z 6 a.2.2.1/\Z 7 a.2.2.1/\Z 8 a.2.2.1) (qQ ts i):= .bind (NV b) fun _ h=> .ite (fun g=> .ok ((h.1.2.1 h.2).1 g)) fun _=> .fail
theorem zDh(b:yJ Z F ts){i:Nat}:PB (fun a=>Z 9 a.2.2.1) (wX ts i):= .bind (NV b) fun _ h=> .ite (fun g=> .ok ((h.1.2.1 h.2).2 g)) fun _=> .fail
theorem FD{np:Nat}{t:bD}{x:Ex}{p q:Ps}(b:OB Z F np p.2)(d:q.2.length<=p.2.length)(c:okX Z F np p.2.length x):PB (Stp Z F np q) (mL t x p):= .ite (fun _=> .fail) fun h=> .ok (by
 refine⟨⟨fun i y a=> ?_,?_⟩,?_,?_⟩
 .rw[List.getElem?_append] at a
  split at a
  .exact b.1 i y a
  rename_i hi
  obtain⟨k,e⟩:=List.getElem?_eq_some_iff.1 a
  obtain rfl:i=p.2.length:=by simp only[gD] at k;omega
  rw[Nat.sub_self] at a
  cases a
  exact c
 .show(p.2++[x]).length<=256
  have:=b.2
  rw[jB,gD];omega
 .show q.2.length<=(p.2++[x]).length
  rw[jB];omega
 show p.2.length<(p.2++[x]).length
 rw[jB,gD];omega)
def OpL(n:Nat)(l:List Int):Prop:=∀j∈l,0<=j/\j<(n:Int)
theorem OpL.snoc{n m:Nat}{l:List Int}{k:Nat}(h:OpL n l)(c:n<=m)(b:k<m):OpL m (l++[(k:Int)]):=fun j a=>by
 rcases kJ.1 a with a|a
 .have:=h j a;omega
 rw[jL.1 a];omega
variable {np:Nat}
theorem qPi(c:BN Z F np E){q:Ps}:∀(n:Nat) (l:List Int) (p:Ps),OB Z F np p.2->q.2.length<=p.2.length->OpL p.2.length l->PB (fun r=>OB Z F np r.1.2/\q.2.length<=r.1.2.length/\OpL r.1.2.length r.2/\r.2.length<=l.length+n) (tZ ts E n l p)
 |0,_,_,_,_,_=> .fail
 |n+1,l,p,t,f,d=> .bind (c p t) fun a h=> .ite (fun _ b e=>by
  obtain⟨g,k,o,s⟩:=qPi c n (l++[(a.2:Int)]) (a.1.1+1,a.1.2) h.1 (gJ f h.2.1) (d.snoc h.2.1 h.2.2) b e
  exact⟨g,k,o,by rw[jB,gD] at s;omega⟩) fun _=> .bind .any fun _ _=> .ok ⟨h.1,gJ f h.2.1,d.snoc h.2.1 h.2.2,by rw[jB,gD];omega⟩
theorem qVd(d:BN Z F np E){p:Ps}(c:OB Z F np p.2):PB (fun r=>OB Z F np r.1.2/\p.2.length<=r.1.2.length/\OpL r.1.2.length r.2/\r.2.length<=ts.length+1) (xS ts E p):=
 .bind .any fun i _=> .ite (fun _=> .ok ⟨c,jN _,fun _ a=>(by cases a),jW _⟩) fun _ b e=>by
  have:=qPi d (q:=p) _ [] (i,p.2) c (jN _) (fun _ a=>by cases a) b e
  rwa[jD,kT] at this
theorem qZq(d:yJ Z F ts)(e:BN Z F np E){t:bD}{p q:Ps}(b:OB Z F np p.2)(c:q.2.length<=p.2.length):PB (Stp Z F np q) (rV ts E t p):=
 .bind .any fun _ _=> .bind (P:=fun r=>OB Z F np r.1.2/\q.2.length<=r.1.2.length/\okX Z F np r.1.2.length r.2)
  (.ite (fun _=> .bind (qAw d) fun _ h=> .bind .any fun _ _=> .bind (e _ b) fun a g=> .ok ⟨g.1,gJ c g.2.1,.inr (.inr (.inr (.inr (.inr (.inl ⟨rfl,h.1,a.2,rfl,g.2.2⟩)))))⟩) fun _=>
   .ite (fun _=> .bind (qAw d) fun _ h=> .ok ⟨b,c,.inr (.inr (.inr (.inr (.inr (.inr (.inl ⟨.inl rfl,h.2.1⟩))))))⟩) fun _=>
   .ite (fun _=> .bind (qAw d) fun _ h=> .ok ⟨b,c,.inr (.inr (.inr (.inr (.inr (.inr (.inl ⟨.inr (.inl rfl),h.2.2⟩))))))⟩) fun _=>
   .ite (fun _=> .bind (zDh d) fun _ h=> .ok ⟨b,c,.inr (.inr (.inr (.inr (.inr (.inr (.inl ⟨.inr (.inr rfl),h⟩))))))⟩) fun _=>
   .bind (NV d) fun a h=> .ite (fun _=> .fail) fun g=> .ok ⟨b,c,.inr (.inr (.inr (.inr (.inr (.inr (.inr ⟨rfl,(h.1.2.2 h.2).1.1,Int.not_le.1 g,(h.1.2.2 h.2).2 (Int.not_le.1 g)⟩))))))⟩)
  fun _ h=> .bind .any fun _ _=>FD h.1 h.2.1 h.2.2
theorem zDw{n:Int}(h:0<=n/\n<=9007199254740992): -9007199254740992<=n/\n<=9007199254740992:=by omega
theorem zDb{n:Int}(h:0<=n/\n<=9007199254740992): -9007199254740992<=IntKind.wrap .i64 (0-n)/\IntKind.wrap .i64 (0-n)<=9007199254740992:=by
 rw[bB aa aa];omega
theorem zBx(c:yJ Z F ts)(f:ts.length<=16385)(d:BN Z F ps.length E):BN Z F ps.length (nT ts ps E):=by
 intro p b
 unfold nT
 refine .ite (fun h=>FD b (jN _) (.inl ⟨rfl,zDw ((c _).2.2 h).1⟩)) fun _=> .ite (fun _=> .bind (NV c) fun _ h=>FD b (jN _) (.inl ⟨rfl,zDb (h.1.2.2 h.2).1⟩)) fun _=> .ite (fun _=> .bind (d _ b) fun _ h=> .bind .any fun _ _=> .ok h) fun _=>
  .ite (fun _=> .fail) fun e=> .ite (fun _=>qZq c d b (jN _)) fun _=> .ite (fun _=> .fail) fun _=>
  .ite (fun _=> .bind (qVd d b) fun a h=>FD h.1 h.2.1 (.inr (.inr (.inl ⟨rfl,(c _).1 (Decidable.not_not.1 e),by show a.2.length<=20000;omega,h.2.2.1⟩)))) fun _=> ?_
 split
 .rename_i i hi
  obtain⟨e,-⟩:=List.findIdx?_eq_some_iff_getElem.1 hi
  exact FD b (jN _) (.inr (.inl ⟨rfl,Int.natCast_nonneg i,Int.ofNat_lt.2 e⟩))
 exact .fail
theorem qPf{level:Nat}(b:BN Z F np S){q:Ps}:∀(n x:Nat) (p:Ps),OB Z F np p.2->q.2.length<=p.2.length->x<p.2.length->PB (Stp Z F np q) (nR ts level S n x p)
 |0,_,_,_,_,_=> .fail
 |n+1,x,p,c,d,e=> .ite (fun _=> .ok ⟨c,d,e⟩) fun _=> .bind (b _ c) fun a h=> .bind (FD (q:=q) h.1 (gJ d h.2.1) (.inr (.inr (.inr (.inl ⟨rfl,x,a.2,rfl,hY e h.2.1,h.2.2⟩))))) fun _ g=> .ite (fun _=> .ok g) fun _=>qPf b n _ _ g.1 g.2.1 g.2.2
theorem ZZ{level:Nat}(a:BN Z F np S):BN Z F np (qO ts level S):=fun p b=> .bind (a p b) fun _ h=>qPf a _ _ _ h.1 h.2.1 h.2.2
theorem NU(f:yJ Z F ts)(d:ts.length<=16385):∀k:Nat,BN Z F ps.length (eP ts ps k)
 |0=>fun _ _=> .fail
 |k+1=>fun p l=> .ite (fun _=> .bind (NU f d k _ l) fun a h=> .bind .any fun _ _=> .bind (NU f d k _ h.1) fun b g=> .bind .any fun _ _=> .bind (NU f d k _ g.1) fun c e=>
   FD e.1 (gJ h.2.1 (gJ g.2.1 e.2.1)) (.inr (.inr (.inr (.inr (.inl ⟨rfl,a.2,b.2,c.2,rfl,hY h.2.2 (gJ g.2.1 e.2.1),hY g.2.2 e.2.1,e.2.2⟩)))))) fun _=>
  ZZ (ZZ (ZZ (zBx f d (NU f d k)))) p l
theorem qKj:∀(n:Nat) (l:List BA) (i:Nat),l.length<=8->PB (fun r=>r.2.length<=8) (uY ts n l i)
 |0,_,_,_=> .fail
 |n+1,l,i,a=> .bind .any fun _ _=> .ite (fun _=> .fail) fun h=> .ite (fun _=> .fail) fun _=>
  .ite (fun _=>qKj n _ _ (by rw[jB,gD];omega)) fun _=> .bind .any fun _ _=> .ok (by show(l++[_]).length<=8;rw[jB,gD];omega)
theorem qUu{i:Nat}:PB (fun r=>r.2.length<=8) (xR ts i):= .bind .any fun _ _=> .ite (fun _=> .ok (jW _)) fun _=>qKj _ _ _ (jW _)
theorem zHc(l:yJ Z F ts)(f:ts.length<=16385)(before:List Dl)(i:Nat):PB (fun a=>JY Z F a.2) (pM ts before i):=by
 unfold pM
 exact .ite (fun _=> .fail) fun _=> .ite (fun _=> .fail) fun _=> .bind .any fun _ _=> .ite (fun _=> .fail) fun _=>
  .bind (P:=fun b=>b.2.length<=8/\(uF (aA ts i).2.1≠1->b.2=[])) (.ite (fun h b e=>⟨qUu b e,fun k=>absurd h k⟩) fun _=> .ok ⟨jW _,fun _=>rfl⟩) fun b d=> .bind .any fun _ _=>
  .bind (NU l f _ (_,[]) ⟨fun i x h=>(by simp at h),jW _⟩) fun c g=> .bind .any fun _ _=> .ok ⟨g.1,Nat.lt_of_le_of_lt (jW _) g.2.2,d.1,d.2⟩
theorem qMw(e:yJ Z F ts)(b:ts.length<=16385):∀(n:Nat) (l:List Dl) (i:Nat),(∀d∈l,JY Z F d)->PB (fun r=>∀d∈r,JY Z F d) (rX ts n l i)
 |0,_,_,_=> .fail
 |n+1,l,i,c=> .ite (fun _=> .ok c) fun _=> .bind (zHc e b _ _) fun _ h=>qMw e b n _ _ fun d a=>by
  rcases kJ.1 a with a|a
  .exact c d a
  rw[jL.1 a];exact h
theorem qJe(d:yJ Z F ts){pkg:BA}:∀(n:Nat) (l:List BA) (i:Nat),(∀q∈l,Z 3 q)->l.length<=8->PB (fun r=>(∀q∈r.2,Z 3 q)/\r.2.length<=8) (qL ts pkg n l i)
 |0,_,_,_,_=> .fail
 |n+1,l,i,c,e=> .ite (fun _=> .ite (fun _=> .fail) fun h=> .bind (qOm d) fun a f=> .ite (fun _=> .fail) fun _=> .bind .any fun _ _=>qJe d n _ _ (fun q b=>by
  rcases kJ.1 b with b|b
  .exact c q b
  rw[jL.1 b];exact f) (by rw[jB,gD];omega)) fun _=> .ok ⟨c,e⟩
end
end
section
open Go Go.Dc Go.Sort Go.Proofs
theorem qIq:∀a b:List UInt8,Op.bytesLess a b=decide (oF a b<0)
 |[],[]=>rfl
 |[],_::_=>rfl
 |_::_,[]=>rfl
 |x::a,y::b=>by
  rw[show Op.bytesLess (x::a) (y::b)=(decide (x<y)||((x==y)&&Op.bytesLess a b)) from rfl,qIq a b]
  by_cases h:x=y
  .subst h
   have c:¬x<x:=by simp only[qBu];omega
   have e:oF (x::a) (x::b)=oF a b:=by simp[oF]
   simp[c,e]
  have d:(x==y)=false:=by simpa using h
  by_cases h3:x<y
  .have e:oF (x::a) (y::b)= -1:=by simp[oF,h,h3]
   simp[h3,e]
  have e:oF (x::a) (y::b)=1:=by simp[oF,h,h3]
  simp[d,h3,e]
theorem qYj(a b:BA):Op.bytesLess a.toList b.toList=decide (oU a b<0):=by
 rw[qIq,NN,ByteArray.toList_eq,ByteArray.toList_eq]
theorem btK(a b:BA):(a.toList==b.toList)=decide (a=b):=by
 rw[kP]
 simp only[kI,j7]
 constructor
 .intro h
  rw[ByteArray.toList_eq,ByteArray.toList_eq] at h
  exact Go.WideShapes.bytes_inj h
 rintro rfl;rfl
theorem zBg{x y:Int}(h:x≠y):sS x y<0↔x<y:=by
 unfold sS;split<;>(try split)<;>omega
theorem qWu{N:Nat}(x y:Ky):SH N x y=some (decide (cK x y<0)):=by
 have e:=cmpI_lin.zero x.1 y.1
 have f:=cmpS_lin.zero x.2.1 y.2.1
 simp only[SH,btK,qYj]
 by_cases h1:x.1=y.1
 .have e0:sS x.1 y.1=0:=e.2 h1
  have b:(x.1 !=y.1)=false:=by simp[h1]
  rw[b]
  simp only[jA,jG]
  have a:cK x y=qG oU oU x.2 y.2:=by simp only[cK,qG,e0,uB,not_true_eq_false,jG]
  by_cases h2:x.2.1=y.2.1
  .have c:oU x.2.1 y.2.1=0:=f.2 h2
   have d:cK x y=oU x.2.2 y.2.2:=by rw[a];simp only[qG,c,uB,not_true_eq_false,jG]
   rw[d];simp[h2]
  have c:oU x.2.1 y.2.1≠0:=fun g=>h2 (f.1 g)
  have d:cK x y=oU x.2.1 y.2.1:=by rw[a];simp only[qG,uB,c,dD,jI]
  rw[d];simp[h2]
 have e0:sS x.1 y.1≠0:=fun g=>h1 (e.1 g)
 have b:(x.1 !=y.1)=true:=by simp[h1]
 have a:cK x y=sS x.1 y.1:=by simp only[cK,qG,uB,e0,dD,jI]
 rw[b,if_pos rfl,a]
 simp only[zBg h1]
def tM:List Ky->Ky->List Ky
 |[],x=>[x]
 |y::L,x=>if cK y x<0 then y::tM L x else if y=x then y::L else x::y::L
def vF:List Ky->Ky->Nat
 |[],_=>0
 |y::L,x=>if cK y x<0 then vF L x+1 else 0
theorem qNv:∀(L:List Ky) (x:Ky),vF L x<=L.length
 |[],_=>jN _
 |y::L,x=>by
  have:=qNv L x
  simp only[vF,jC]
  split<;>omega
theorem qKo:∀(L:List Ky) (x:Ky),tM L x=if L[vF L x]? =some x then L else L.take (vF L x)++x::L.drop (vF L x)
 |[],x=>by simp[tM,vF]
 |y::L,x=>by
  simp only[tM,vF]
  by_cases h:cK y x<0
  .simp only[h,jI,List.getElem?_cons_succ,List.take_succ_cons,List.drop_succ_cons]
   rw[qKo L x]
   split<;>rfl
  simp only[h,jG,List.getElem?_cons_zero,jO,List.take_zero,kC,jP]
theorem qLw:∀{L:List Ky} {x z:Ky},z∈tM L x↔z=x\/z∈L
 |[],x,z=>by simp[tM]
 |y::L,x,z=>by
  simp only[tM]
  split
  .simp only[jJ,qLw (L:=L)]
   constructor
   .rintro(h|h|h)
    .exact .inr (.inl h)
    .exact .inl h
    exact .inr (.inr h)
   rintro(h|h|h)
   .exact .inr (.inl h)
   .exact .inl h
   exact .inr (.inr h)
  split
  .rename_i e;subst e
   simp only[jJ]
   constructor
   .exact fun h=> .inr h
   rintro(h|h)
   .exact .inl h
   exact h
  simp only[jJ]
theorem ZL:∀(L:List Ky) (x:Ky),(tM L x).length<=L.length+1
 |[],_=>jN _
 |y::L,x=>by
  have:=ZL L x
  simp only[tM]
  split
  .simp only[jC];omega
  split<;>simp only[jC]<;>omega
theorem qIo{N:Nat}{L:List Ky}{x:Ky}(e:L.length<25000000):∀(d i M:Nat),i+d=L.length->d<M->aB (KQ N L x) M (i:Int)=some ((i+vF (L.drop i) x:Nat):Int)
 |_,_,0,_,h=>absurd h (kK _)
 |d,i,M+1,g,k=>by
  simp only[aB,KQ]
  cases d with
  |zero=>
   have b:¬((i:Int)<(L.length:Int)):=by omega
   simp only[b,decide_false,jA,jG,j0]
   rw[List.drop_of_length_le aa];rfl
  |succ d=>
   have hi:i<L.length:=by omega
   have b:((i:Int)<(L.length:Int)):=by omega
   have f:IntKind.wrap .i64 ((i:Int)+1)=((i+1:Nat):Int):=by rw[bB aa aa];omega
   have c:=qWu (N:=N) L[i] x
   simp only[b,decide_true,jI,cQ hi,j0]
   rw[c]
   have a:L.drop i=L[i]::L.drop (i+1):=(hQ hi).symm
   simp only[j0]
   rw[a]
   simp only[vF]
   by_cases hbb:cK L[i] x<0
   .simp only[hbb,decide_true,jI,f,j0]
    rw[qIo e d (i+1) M aa aa]
    congr 2;omega
   simp[hbb]
theorem qZp{N:Nat}{L:List Ky}(x:Ky)(s:L.length<25000000)(r:L.length<N):RQ N L x=some (tM L x):=by
 have c:=qIo (N:=N) (L:=L) (x:=x) s L.length 0 N aa r
 have h1':aB (KQ N L x) N 0=some ((vF L x:Nat):Int):=by
  have e:(0+vF (L.drop 0) x:Nat)=vF L x:=by rw[kC,kT]
  rw[e] at c;exact c
 have f:=qNv L x
 rw[qKo]
 generalize hk:vF L x=k at*
 have w:IntKind.wrap .i64 ((k:Int)+1)=((k+1:Nat):Int):=by rw[bB aa aa];omega
 have fin:∀(_:L[k]?≠some x),((iU 40 L [((0,(⟨#[]⟩:BA),(⟨#[]⟩:BA)):Ky)]).bind fun b=>(pW b (IntKind.wrap .i64 ((k:Int)+1)) (List.length b:Int)).bind fun _=>(pW b (k:Int) (List.length b:Int)).bind fun _=>(CV b (IntKind.wrap .i64 ((k:Int)+1)) (k:Int)).bind fun h=>(aO h (k:Int)).bind fun _=>some (List.set h (Int.toNat (k:Int)) (x.1,x.2.1,x.2.2)))=some (L.take k++x::L.drop k):=by
  intro _
  rw[w,mC ag ac]
  simp only[j0]
  generalize hz:((0,(⟨#[]⟩:BA),(⟨#[]⟩:BA)):Ky)=z
  have a:(L++[z]).length=L.length+1:=by simp
  have l:pW (L++[z]) ((k+1:Nat):Int) ((L++[z]).length:Int)=some ():=by unfold pW;rw[if_pos (by rw[a];omega)]
  have n:pW (L++[z]) (k:Int) ((L++[z]).length:Int)=some ():=by unfold pW;rw[if_pos (by rw[a];omega)]
  have o:CV (L++[z]) ((k+1:Nat):Int) (k:Int)=some (wG (L++[z]) (k+1) k):=by unfold CV;rw[if_pos (by rw[a];omega)];rfl
  simp only[l,n,o,j0]
  have e:wG (L++[z]) (k+1) k=(L++[z]).take (k+1)++L.drop k:=by
   have t1:((L++[z]).drop k).take (L.length-k)=L.drop k:=by
    rw[gN f,gC (by rw[gF];omega),kZ (by rw[gF];omega)]
   have t2:(L++[z]).drop (L.length+1)=[]:=List.drop_of_length_le (by rw[a];omega)
   unfold wG
   rw[a,show min (L.length+1-k) (L.length+1-(k+1))=L.length-k by omega,show k+1+(L.length-k)=L.length+1 by omega,t1,t2,jV]
  have d:k<(wG (L++[z]) (k+1) k).length:=by rw[e];simp only[jB,kN,jC,jD,gF];omega
  rw[cQ d]
  simp only[j0,jQ]
  congr 1
  rw[e]
  have p:(L++[z]).take (k+1)=L.take k++[((L++[z])[k]'(by rw[a];omega))]:=by
   rw[kU (by rw[a];omega),gC f]
  rw[p,jE,List.set_append_right _ _ (by simp only[kN];omega)]
  have q:k-(L.take k).length=0:=by simp only[kN];omega
  rw[q];rfl
 simp only[RQ,h1',j0]
 by_cases hc:(k:Int)<(L.length:Int)
 .have hi:k<L.length:=by omega
  simp only[hc,decide_true,jI,cQ hi,j0,qBo]
  by_cases he:L[k]=x
  .simp only[he,decide_true,jI]
   rw[if_pos (by rw[List.getElem?_eq_getElem hi,he])]
  simp only[he,decide_false,jA,jG]
  have a:L[k]?≠some x:=by rw[List.getElem?_eq_getElem hi];intro g;exact he (kG g)
  rw[if_neg a]
  exact fin a
 simp only[hc,decide_false,jA,jG,j0]
 have a:L[k]?≠some x:=by rw[List.getElem?_eq_none aa];intro g;cases g
 rw[if_neg a]
 exact fin a
theorem qIg:∀{L S:List Ky} {z:Ky},z∈L.foldl tM S↔z∈L\/z∈S
 |[],S,z=>by simp
 |x::L,S,z=>by
  simp only[gG,jJ]
  rw[qIg,qLw]
  constructor
  .rintro(h|h|h)
   .exact .inl (.inr h)
   .exact .inl (.inl h)
   exact .inr h
  rintro((h|h)|h)
  .exact .inr (.inl h)
  .exact .inl h
  exact .inr (.inr h)
end
section
open Go Go.Dc Go.Proofs
def JH(e:mX):rM:=(e.1,e.2.1,e.2.2.1,e.2.2.2.1,e.2.2.2.2.1)
theorem qOd{O:List rM}{k:Int}{p n:BA}(h:(nF O k p n).2.2.2.2.2≠0):∃o∈O,zO o=uL k p n/\JH (nF O k p n)=o:=by
 suffices g:∀(O J:List rM) (e:mX),(0<=e.2.2.2.2.2)->(e.2.2.2.2.2≠0->∃o∈J,zO o=uL k p n/\JH e=o)->(O.foldl (lR k p n) e).2.2.2.2.2≠0->∃o∈J++O,zO o=uL k p n/\JH (O.foldl (lR k p n) e)=o by
  have:=g O [] (xG k p n) (gW 0) (fun h=>absurd rfl h) h
  rwa[jP] at this
 intro O
 induction O with
 |nil=>intro J e _ b c;rw[jV];exact b c
 |cons o O r=>
  intro J e q b c
  rw[show J++o::O=(J++[o])++O by simp,gG]
  rw[gG] at c
  refine r (J++[o]) (lR k p n e o) ?_ ?_ c
  .unfold lR
   split
   .split
    .exact(show(0:Int)<=1 by decide)
    simp only[];omega
   exact q
  unfold lR
  by_cases hk:zO o=uL k p n
  .rw[if_pos hk]
   by_cases a:e.2.2.2.2.2=0
   .rw[if_pos a]
    intro _
    obtain⟨d,f,-⟩:=ND (show uL o.2.2.1 o.1 o.2.1=uL k p n from hk)
    refine⟨o,by simp,hk,?_⟩
    unfold JH
    simp only
    rw[<-d,<-f]
   rw[if_neg a]
   intro _
   obtain⟨o',d,f,l⟩:=b a
   exact⟨o',kE _ d,f,l⟩
  rw[if_neg hk]
  intro a
  obtain⟨o',d,f,l⟩:=b a
  exact⟨o',kE _ d,f,l⟩
theorem qIb{path pkg:BA}{o:rM}:∀{l:List Dl} {i:Nat},o∈sO path pkg i l->∃j d,l[j]? =some d/\o=(pkg,d.2.1,d.1,path,((i+j:Nat):Int))
 |[],_,h=>by cases h
 |d::l,i,h=>by
  rcases jJ.1 h with rfl|h
  .exact⟨0,d,rfl,rfl⟩
  obtain⟨j,d',a,b⟩:=qIb h
  exact⟨j+1,d',by simpa using a,by rw[b,show i+1+j=i+(j+1) by omega]⟩
theorem qIz{L:List bS}{o:rM}(h:o∈oK (oJ L)):∃f∈L,uH f=true/\∃(j:Nat) (d:Dl),(lD f.2).1.2.2[j]? =some d/\o=((lD f.2).1.1,d.2.1,d.1,f.1,(j:Int)):=by
 unfold oK at h
 obtain⟨x,g,h⟩:=fP.1 h
 obtain⟨f,c,e,rfl⟩:=XY g
 obtain⟨j,d,a,b⟩:=qIb h
 exact⟨f,c,e,j,d,a,by rw[b,kT]⟩
abbrev rJ:=List (BA×Int)
def VB(v:Int):Prop:= -9223372036854775808<=v/\v<=9223372036854775807
theorem NS(v:Int):VB (IntKind.wrap .i64 v):=by unfold VB;simp only[IntKind.wrap,IntKind.signed,IntKind.bits];simp;omega
abbrev Rrn:=(Int×Int×Int)×Bool×List Ky×Int
abbrev zS:=Rrn×Int×Int
abbrev Rmc:=List bS×Pd×rJ×Int×Rrn×Int×Int
abbrev pF(L:List bS)(env:rJ)(w:Int)(t:zS):Rmc:=(L,eW (eG L),env,w,t.1,t.2.1,t.2.2)
def pX(ks:List Ky):List Ky:=ks.foldl tM []
abbrev mE(s:Es)(e a:Int):zS:=(((0,0,0),s.2.2,pX s.1,(s.2.1:Int)),e,a)
theorem qDz:∀(ks l:List Ky),(ks.foldl tM l).length<=l.length+ks.length
 |[],l=>jN _
 |k::ks,l=>by
  have:=qDz ks (tM l k)
  have:=ZL l k
  simp only[gG,jC];omega
theorem qNp(ks:List Ky):(pX ks).length<=ks.length:=by unfold pX;have:=qDz ks [];simpa using this
section
variable {N:Nat} {L:List bS} {env:rJ} {w:Int}
theorem wV(t:zS)(h:t.2.1=0)(e:Int):oH N (pF L env w t) e=some ((t.1,e,t.2.2),0):=by
 unfold oH
 rw[if_pos (by simp[h])];rfl
theorem qMb{p:List Ky}(b:p.length<1000000):∀(d i M:Nat) (l:List Ky),i+d=p.length->d<M->l.length+d<20000000->l.length+d<N->aB (GI N p) M ((i:Int),l)=some ((p.drop i).foldl tM l)
 |_,_,0,_,_,h,_,_=>absurd h (kK _)
 |0,i,M+1,l,a,_,_,_=>by
  simp only[aB,GI]
  rw[if_neg ad,jU aa];rfl
 |d+1,i,M+1,l,a,c,e,f=>by
  have hi:i<p.length:=by omega
  have g:=ZL l p[i]
  simp only[aB,GI]
  rw[if_pos ad,cQ hi,j0,qZp _ aa aa,j0,bB aa aa]
  simp only[j0]
  rw[show((i:Int)+1)=((i+1:Nat):Int) by omega,qMb b d (i+1) M _ aa aa aa aa,uS hi,gG]
theorem zGd{s:Es}{e a:Int}{ks:List Ky}(h:s.1.length+ks.length<10000000)(c:10000000<N)(b:ks.length<1000000):pR N (pF L env w (mE s e a)) ks=some (mE (lJ s ks) e a):=by
 have d:=qNp s.1
 have:=qMb (N:=N) b ks.length 0 N (pX s.1) aa aa aa aa
 rw[show((0:Nat):Int)=0 from rfl,kC] at this
 unfold pR
 rw[show aB (GI N ks) N (0,(pF L env w (mE s e a)).2.2.2.2.1.2.2.1)=_ from this]
 show some (((0,0,0),s.2.2,ks.foldl tM (pX s.1),(s.2.1:Int)),e,a)=some (mE (lJ s ks) e a)
 show _=some (((0,0,0),s.2.2,pX (s.1++ks),(s.2.1:Int)),e,a)
 unfold pX
 rw[fW]
def VH(v:Int):Int⊕Int:=if v< -9007199254740992\/9007199254740992<v then .inl 3 else .inr v
def DI(v:Int):Int:=if v<0 then IntKind.wrap .i64 (0-v) else v
def arR(op a b:Int):Int⊕Int:=
 if op=1 then VH (IntKind.wrap .i64 (a+b)) else if op=2 then VH (IntKind.wrap .i64 (a-b))
 else if op=3 then(if a=0\/b=0 then .inr 0 else if DI a>(DC .i64 9007199254740992 (DI b)).getD 0 then .inl 3 else .inr (IntKind.wrap .i64 (a*b)))
 else if op=6 then .inr (if a<b then 1 else 0) else if op=7 then .inr (if a=b then 1 else 0)
 else if b=0 then .inl 4 else if op=4 then .inr ((DC .i64 a b).getD 0) else .inr ((FV a b).getD 0)
def RelR(a:Nat)(o:Eo Int)(r:Option (zS×Int)):Prop:=match o.2 with
 | .inr v=>r=some (mE o.1 0 a,v)/\VB v
 | .inl e=>e≠0/\∃v,r=some (mE o.1 e a,v)
theorem RelR.err{a:Nat}{s:Es}{e v:Int}{r:Option (zS×Int)}(b:e≠0)(h:r=some (mE s e a,v)):RelR a (s,.inl e) r:=⟨b,v,h⟩
theorem RelR.val{a:Nat}{s:Es}{v:Int}{r:Option (zS×Int)}(b:VB v)(h:r=some (mE s 0 a,v)):RelR a (s,.inr v) r:=⟨h,b⟩
theorem qOx{s:Es}{a:Nat}{v:Int}(b:VB v):RelR a (s,VH v) (KH N (pF L env w (mE s 0 a)) v):=by
 unfold KH VH
 have e:(if decide (v< -9007199254740992)then some true else some (decide (v>9007199254740992)):Option Bool)=some (decide (v< -9007199254740992\/9007199254740992<v)):=by
  by_cases h:v< -9007199254740992
  .rw[if_pos (jR h),jR (Or.inl h)]
  rw[if_neg (by simpa using h)]
  by_cases g:v>9007199254740992
  .rw[jR g,jR (Or.inr g)]
  rw[jX g,jX aa]
 rw[e,j0]
 by_cases h:v< -9007199254740992\/9007199254740992<v
 .rw[if_pos h,if_pos (jR h),show oH N _ 3=_ from wV (mE s 0 a) rfl 3]
  exact RelR.err ac rfl
 rw[if_neg h,if_neg (show ¬decide (v< -9007199254740992\/9007199254740992<v)=true by simpa using h)]
 exact RelR.val b rfl
theorem qLy{a b:Int}(c:b≠0):∃v,DC .i64 a b=some v/\VB v:=by
 unfold DC
 rw[if_neg c]
 exact⟨_,rfl,NS _⟩
theorem zHd{b:Int}(a:b≠0)(c:VB b):DI b≠0:=by
 unfold VB at c;unfold DI
 by_cases h:b= -9223372036854775808
 .subst h;decide
 split
 .rw[bB aa aa];omega
 exact a
theorem qPc(b:Int):(if decide (b<0)then some (IntKind.wrap .i64 (0-b)) else some b:Option Int)=some (DI b):=by
 unfold DI
 by_cases h:b<0
 .rw[if_pos (jR h),if_pos h]
 rw[if_neg (by simpa using h),if_neg h]
theorem zDo{a b:Int}(h:VB a):VB (Int.tmod a b):=by
 unfold VB at*
 have d:(Int.tmod a b).natAbs<=a.natAbs:=by rw[Int.natAbs_tmod];exact Nat.mod_le _ _
 by_cases g:0<=a
 .omega
 have c:=Int.tmod_nonneg b (show 0<=-a by omega)
 rw[Int.neg_tmod] at c
 omega
theorem qYf{s:Es}{a:Nat}{op p q:Int}(l:VB p)(n:VB q):RelR a (s,arR op p q) (QI N (pF L env w (mE s 0 a)) op p q):=by
 have pass:∀{x:Int⊕Int} {r:Option (zS×Int)},RelR a (s,x) r->RelR a (s,x) (r.bind fun y=>some (((y.1.1.1,y.1.1.2.1,y.1.1.2.2.1,y.1.1.2.2.2),y.1.2.1,y.1.2.2),y.2)):=fun {x r} h=>by
  cases x with
  |inl e=>obtain⟨b,v,c⟩:=h;rw[c];exact⟨b,v,rfl⟩
  |inr v=>obtain⟨b,c⟩:=h;rw[b];exact⟨rfl,c⟩
 unfold QI arR
 by_cases b:op=1
 .rw[if_pos b,if_pos (show(op==1)=true by simp[b])];exact pass (qOx (NS _))
 rw[if_neg b,if_neg (show ¬(op==1)=true by simpa using b)]
 by_cases c:op=2
 .rw[if_pos c,if_pos (show(op==2)=true by simp[c])];exact pass (qOx (NS _))
 rw[if_neg c,if_neg (show ¬(op==2)=true by simpa using c)]
 by_cases h3:op=3
 .rw[if_pos h3,if_pos (show(op==3)=true by simp[h3])]
  refine pass ?_
  unfold VP
  have e:(if(p==0)then some true else some (q==0):Option Bool)=some (decide (p=0\/q=0)):=by
   by_cases g:p=0
   .rw[if_pos (by simp[g]),jR (Or.inl g)]
   rw[if_neg (by simpa using g)]
   by_cases k:q=0
   .rw[jR (Or.inr k)];simp[k]
   rw[jX (by simp[g,k])];simp[k]
  rw[e,j0]
  by_cases h:p=0\/q=0
  .rw[if_pos h,if_pos (jR h)];exact RelR.val (by unfold VB;omega) rfl
  rw[if_neg h,if_neg (show ¬decide (p=0\/q=0)=true by simpa using h),qPc,j0,qPc,j0]
  obtain⟨v,d,-⟩:=qLy (a:=9007199254740992) (zHd (fun g=>h (.inr g)) n)
  rw[d,j0,dW]
  by_cases g:DI p>v
  .rw[if_pos g,if_pos (jR g),show oH N _ 3=_ from wV (mE s 0 a) rfl 3]
   exact RelR.err ac rfl
  rw[if_neg g,if_neg (show ¬decide (DI p>v)=true by simpa using g)]
  exact RelR.val (NS _) rfl
 rw[if_neg h3,if_neg (show ¬(op==3)=true by simpa using h3)]
 by_cases h6:op=6
 .rw[if_pos h6,if_pos (show(op==6)=true by simp[h6])]
  by_cases g:p<q
  .rw[if_pos g,if_pos (jR g)];exact RelR.val (by unfold VB;omega) rfl
  rw[if_neg g,if_neg (show ¬decide (p<q)=true by simpa using g)];exact RelR.val (by unfold VB;omega) rfl
 rw[if_neg h6,if_neg (show ¬(op==6)=true by simpa using h6)]
 by_cases h7:op=7
 .rw[if_pos h7,if_pos (show(op==7)=true by simp[h7])]
  by_cases g:p=q
  .rw[if_pos g,if_pos (by simp[g])];exact RelR.val (by unfold VB;omega) rfl
  rw[if_neg g,if_neg (show ¬(p==q)=true by simpa using g)];exact RelR.val (by unfold VB;omega) rfl
 rw[if_neg h7,if_neg (show ¬(op==7)=true by simpa using h7)]
 by_cases h0:q=0
 .rw[if_pos h0,if_pos (show(q==0)=true by simp[h0]),show oH N _ 4=_ from wV (mE s 0 a) rfl 4]
  exact RelR.err ac rfl
 rw[if_neg h0,if_neg (show ¬(q==0)=true by simpa using h0)]
 by_cases h4:op=4
 .obtain⟨v,d,f⟩:=qLy (a:=p) h0
  rw[if_pos h4,if_pos (show(op==4)=true by simp[h4]),d]
  exact RelR.val f rfl
 rw[if_neg h4,if_neg (show ¬(op==4)=true by simpa using h4),show FV p q=some (Int.tmod p q) from if_neg h0]
 exact RelR.val (zDo l) rfl
end
def nM(L:List bS)(e:mX):Aa:=((tE (eG L) e.2.2.2.1 e.2.2.2.2.1).1,(tE (eG L) e.2.2.2.1 e.2.2.2.2.1).1.2.2.getD (tE (eG L) e.2.2.2.1 e.2.2.2.2.1).2.toNat (0,⟨#[]⟩,[],[]))
def wH(L:List bS)(r:mX×List K3×Int):List Ky×(Int⊕Aa):=(r.2.1,if r.2.2=0 then .inr (nM L r.1) else .inl r.2.2)
def nY(L:List bS)(p:BA):List Ky×(Int⊕(BA⊕Aa)):=match mH L p with
 |some b=>([(4,p,⟨#[]⟩)],.inr (.inl b))
 |none=>([(4,p,⟨#[]⟩),(3,p,⟨#[]⟩)],if(bT L 3 lE p).2.2.2.2.2=0 then .inl 14 else if 1<(bT L 3 lE p).2.2.2.2.2 then .inl 12 else .inr (.inr (nM L (bT L 3 lE p))))
def DH(env:rJ)(nm:BA):Option Int:=(env.find? fun v=>v.1.toList==nm.toList).map (·.2)
def qCc(w k:Int):Int:=IntKind.wrap .i64 (qQn .u64 ((FR .u64 w k).getD 0) 1)
def mJ(L:List bS)(env:rJ)(w:Int):Lk where
 cl f nm:=if 8<f.2.1.length then([],.inl 0) else wH L (nC (fun p=>bT L 1 p nm) nm (f.1::f.2.1) [])
 dt:=nY L
 en:=DH env
 bt:=qCc w
 ar:=arR
abbrev F1:Int->Prop:=fun _=>True
def Zk(k:Int)(nm:BA):Prop:=if k=3\/k=9 then iR nm=true else iF nm.data.toList=true
def BK(t:Aa):Prop:=JY Zk F1 t.2/\t.1.2.1.length<=8/\iR t.1.1=true/\∀q∈t.1.2.1,iR q=true
structure Wrr(N:Nat)(L:List bS)(env:rJ):Prop where
 hN:20000000<N
 hc:lB L=0
 env:env.length<=16/\∀v∈env,VB v.2
theorem qYa{s:BA}(h:(lD s).2.2=0):okF Zk F1 (lD s).1:=by
 have a:=qHc (s:=s)
 unfold lD at h a ⊢
 by_cases h0:(mP s).2.2=0
 .rw[if_neg (not_not_intro h0)] at h a ⊢
  obtain⟨n,c,-⟩:=MO h0
  have e:yJ Zk F1 (mP s).1:=fun j=>by
   have:=(qFo h0).1 j
   refine⟨fun h=> ?_,fun _=>⟨fun h=> ?_,fun h=> ?_⟩,fun h=>⟨this.2 h,fun _=>trivial⟩⟩
   .unfold Zk;rw[if_pos (.inl rfl)];exact this.1 h
   .unfold Zk;rw[if_neg ac,if_neg ac,if_neg ac];exact⟨h,h,h⟩
   unfold Zk;rw[if_pos (.inr rfl)];exact h
  cases b:tH (mP s).1 with
  |inl z=>rw[b] at h;exact absurd h (qBd z b)
  |inr f=>
   rw[b] at a
   have key:PB (fun f=>(Zk 3 f.1/\∀q∈f.2.1,Zk 3 q)/\f.2.1.length<=8/\∀d∈f.2.2,JY Zk F1 d) (tH (mP s).1):=
    .bind .any fun _ _=> .bind (qOm e) fun _ k=> .bind .any fun _ _=> .bind (qJe e _ [] _ (fun _ h=>by cases h) (jW _)) fun _ g=> .bind (qMw e c _ [] _ fun _ h=>by cases h) fun _ l=> .ok ⟨⟨k,g.1⟩,g.2,l⟩
   obtain⟨g,k,l⟩:=key f b
   exact⟨g,k,a,l⟩
 rw[if_pos h0] at h;exact absurd h h0
theorem Zk3{nm:BA}(h:Zk 3 nm):iR nm=true:=by unfold Zk at h;rwa[if_pos (.inl rfl)] at h
theorem qKf{f:bS}(h:uH f=true):(lD f.2).2.2=0:=by unfold uH at h;rw[jK] at h;exact gH h.2
section
variable {N:Nat} {L:List bS} {env:rJ} {w:Int}
theorem UF(a:lB L=0):eG L=oJ L:=by unfold eG;rw[if_pos a]
theorem qGo(a:lB L=0):((eG L).map (·.1)).Nodup:=by
 rw[UF a]
 unfold oJ
 rw[List.map_map]
 exact List.pairwise_map.2 ((List.Pairwise.filter _ (yW.1 a).2.1).imp fun h=>UZ h)
theorem qKy(b:lB L=0){k:Int}{p n:BA}(c:(bT L k p n).2.2.2.2.2=1):
  ∃(f:bS) (j:Nat) (d:Dl),f∈L/\uH f=true/\(lD f.2).1.2.2[j]? =some d/\d.1=k/\tE (eG L) (bT L k p n).2.2.2.1 (bT L k p n).2.2.2.2.1=((lD f.2).1,(j:Int)):=by
 have e:bT L k p n=nF (oK (oJ L)) k p n:=by unfold bT;rw[if_pos b]
 rw[e] at c ⊢
 obtain⟨o,r,q,a⟩:=qOd (O:=oK (oJ L)) (k:=k) (p:=p) (n:=n) (by rw[c];decide)
 obtain⟨f,g,h,j,d,l,rfl⟩:=qIz r
 unfold JH at a
 simp only[Prod.mk.injEq] at a
 refine⟨f,j,d,g,h,l,(ND q).1,?_⟩
 rw[a.2.2.2.1,a.2.2.2.2]
 have s:(f.1,(lD f.2).1)∈eG L:=by
  rw[UF b]
  exact gL.2 ⟨f,gQ.2 ⟨g,h⟩,rfl⟩
 unfold tE
 rw[NA (qGo b) _ s]
theorem EY(h:lB L=0){k:Int}{p n:BA}(g:(bT L k p n).2.2.2.2.2=1):
  (∃i:Int,tE (eG L) (bT L k p n).2.2.2.1 (bT L k p n).2.2.2.2.1=((nM L (bT L k p n)).1,i)/\aO (nM L (bT L k p n)).1.2.2 i=some (nM L (bT L k p n)).2)/\BK (nM L (bT L k p n))/\(nM L (bT L k p n)).2.1=k:=by
 obtain⟨f,j,d,u,o,a,l,e⟩:=qKy h g
 have et:nM L (bT L k p n)=((lD f.2).1,d):=by
  unfold nM
  rw[e,jQ,jS,a];rfl
 obtain⟨b,rfl⟩:=List.getElem?_eq_some_iff.1 a
 obtain⟨c,s,v,t⟩:=qYa (qKf o)
 refine⟨⟨(j:Int),by rw[et];exact e,by rw[et];exact cQ b⟩,by rw[et];exact⟨t _ (jM b),s,Zk3 c.1,fun q r=>Zk3 (c.2 q r)⟩,by rw[et];exact l⟩
theorem qLl(a:lB L=0)(b:1000<N)(k:Int)(p n:BA):wP N (eW (eG L)) k p n=some (bT L k p n):=by
 unfold eW
 rw[HX k p n (AH L).1 (AH L).2 b]
 unfold bT
 rw[if_pos a,UF a]
theorem zCs(b:lB L=0)(a:1000005<N){f:Sr}(c:f.2.1.length<900)(nm:BA):LP N (eW (eG L)) f nm=some (nC (fun p=>bT L 1 p nm) nm (f.1::f.2.1) []):=by
 simp only[LP]
 rw[mC ag aa]
 have:=qEp (N:=N) (L:=L) (name:=nm) (l:=f.1::f.2.1) b (by simp only[jC];omega) a (f.1::f.2.1).length 0 N [] aa (by simp only[jC];omega) (jW _)
 rw[kC] at this
 simp only[j0]
 rw[show([f.1]++f.2.1:List BA)=f.1::f.2.1 from rfl]
 exact this
theorem zAo(a:lB L=0)(c:1000005<N)(p:BA):rT N L (eW (eG L)) p=some (match mH L p with
  |some _=>(1,CX,[(4,p,lE)],0)
  |none=>if(bT L 3 lE p).2.2.2.2.2=0 then(0,CX,[(4,p,lE),(3,p,lE)],14)
   else if 1<(bT L 3 lE p).2.2.2.2.2 then(3,CX,[(4,p,lE),(3,p,lE)],12)
   else(2,bT L 3 lE p,[(4,p,lE),(3,p,lE)],0)):=by
 simp only[rT,HR p (show 100<N by omega),pN,if_pos a,j0]
 cases hg:mH L p with
 |some b=>rfl
 |none=>
  simp only[jA,jG]
  rw[mC ag aa]
  simp only[j0,qLl a (show 1000<N by omega)]
  have d:=vV L 3 lE p
  have e:(⟨#[]⟩:BA)=lE:=rfl
  rw[e]
  by_cases h0:(bT L 3 lE p).2.2.2.2.2=0
  .rw[if_neg (show ¬((bT L 3 lE p).2.2.2.2.2==1)=true by rw[h0];decide),if_neg (show ¬decide ((bT L 3 lE p).2.2.2.2.2>1)=true by rw[h0];decide),if_pos h0];rfl
  rw[if_neg h0]
  by_cases h1:1<(bT L 3 lE p).2.2.2.2.2
  .rw[if_neg (show ¬((bT L 3 lE p).2.2.2.2.2==1)=true by rw[kI];omega),if_pos (jR h1),if_pos h1];rfl
  rw[if_pos (show((bT L 3 lE p).2.2.2.2.2==1)=true by rw[kI];omega),if_neg h1];rfl
theorem qLb{nm:BA}(c:env.length<=16):∀(d i M:Nat),i+d=env.length->d<M->aB (GM N env nm) M (i:Int)=some (match DH (env.drop i) nm with|some v=> .inr (v,true)|none=> .inl ())
 |_,_,0,_,h=>absurd h (kK _)
 |0,i,M+1,a,b=>by
  simp only[aB,GM]
  rw[if_neg ad,jU aa];rfl
 |d+1,i,M+1,a,b=>by
  have hi:i<env.length:=by omega
  simp only[aB,GM]
  rw[if_pos ad,cQ hi,uS hi,j0]
  unfold DH
  by_cases h:((env[i]).1.toList==nm.toList)=true
  .rw[if_pos h];simp only[List.find?_cons,h];rfl
  have h':((env[i]).1.toList==nm.toList)=false:=by simpa using h
  rw[if_neg h,bB aa aa]
  simp only[j0,List.find?_cons,h']
  rw[show((i:Int)+1)=((i+1:Nat):Int) by omega,qLb c d (i+1) M aa aa]
  rfl
theorem zFe(a:env.length<=16)(b:100<N)(nm:BA):BT N env nm=some (match DH env nm with|some v=>(v,true)|none=>(0,false)):=by
 unfold BT
 have:=qLb (N:=N) (nm:=nm) a env.length 0 N aa aa
 rw[show((0:Nat):Int)=0 from rfl,kC] at this
 rw[this]
 cases DH env nm<;>rfl
def Qk(s:Es):Prop:=s.1.length<=10*s.2.1+1
theorem Qk.bE{α β:Type}{o:Eo α}{k:α->Es->Eo β}(h:Qk o.1)(a:∀v u,Qk u->Qk (k v u).1):Qk (bE o k).1:=by
 obtain⟨u,e|v⟩:=o
 .exact h
 exact a v u h
def QkF(F:yN):Prop:=∀a c vs i s,Qk s->Qk (F a c vs i s).1
theorem Qk.seq{F:Int->Es->Eo Int}(h:∀i s,Qk s->Qk (F i s).1):∀(l:List Int) (s:Es),Qk s->Qk (uI F l s).1
 |[],_,a=>a
 |i::l,s,a=>(h i s a).bE fun _ u b=>(Qk.seq h l u b).bE fun _ _ b=>b
theorem Qk.enter{F:yN}(h:QkF F)(a:Nat)(t:Aa)(vs:List Int)(s:Es)(b:Qk s):Qk (pT F a t vs s).1:=by
 unfold pT
 split
 .exact b
 exact h _ _ _ _ _ b
theorem DF{s:Es}{l:List Ky}(h:s.1.length+9<=10*s.2.1+1)(a:l.length<=9):Qk (lJ s l):=by
 show(s.1++l).length<=10*s.2.1+1
 rw[jB];omega
theorem Qk.node{I:Lk}{F:yN}(k:(∀f nm,(I.cl f nm).1.length<=9)/\∀p,(I.dt p).1.length<=9)(h:QkF F)(a:Nat)(c:Aa)(vs:List Int)(x:Ex)(s:Es)(e:s.1.length+9<=10*s.2.1+1):Qk (yH I F a c vs x s).1:=by
 have g:Qk s:=by unfold Qk;omega
 unfold yH
 split
 .exact g
 split
 .exact g
 split
 .refine Qk.bE (o:=(lJ s _,_)) (DF e (k.1 ..)) fun t u d=>(Qk.seq (fun i s e=>h _ _ _ _ _ e) _ u d).bE fun us u d=> ?_
  split
  .exact .enter h _ _ _ _ d
  exact d
 split
 .exact(h _ _ _ _ _ g).bE fun _ u d=>(h _ _ _ _ _ d).bE fun _ u d=>d
 split
 .exact(h _ _ _ _ _ g).bE fun _ u d=>h _ _ _ _ _ d
 split
 .refine Qk.bE (o:=(lJ s _,_)) (DF e (k.2 ..)) fun t u d=>(h _ _ _ _ _ d).bE fun i u d=> ?_
  cases t with
  |inl b=>dsimp only;split<;>exact d
  |inr t=>
   dsimp only
   split
   .exact(Qk.enter h _ _ _ _ d).bE fun _ u d=>d
   exact d
 split
 .exact Qk.bE (o:=(lJ s _,_)) (DF e (k.2 ..)) fun _ u d=>d
 split
 .exact DF e (k.2 ..)
 split
 .exact DF e (by show 1<=9;decide)
 exact g
theorem Qk.ev{I:Lk}(d:(∀f nm,(I.cl f nm).1.length<=9)/\∀p,(I.dt p).1.length<=9):∀n,QkF (ev I n)
 |0,_,_,_,_,_,b=>b
 |n+1,a,c,vs,i,s,b=>by
  unfold Go.Proofs.YteclmpmonbnooaaGreatDoor.ev
  split
  .exact b
  split
  .exact b
  exact .node d (Qk.ev d n) _ _ _ _ _ (by unfold Qk at b;show s.1.length+9<=10*(s.2.1+1)+1;omega)
theorem UD{E:BA->mX}{nm:BA}(a:∀p,0<=(E p).2.2.2.2.2):∀(l:List BA) (acc:List K3),
  ((nC E nm l acc).2.2=0->∃p,(nC E nm l acc).1=E p/\(E p).2.2.2.2.2=1)/\(nC E nm l acc).2.1.length<=acc.length+l.length
 |[],acc=>⟨fun h=>absurd h (by show ¬((11:Int)=0);decide),jN _⟩
 |p::l,acc=>by
  unfold nC
  split
  .obtain⟨b,c⟩:=UD a l (acc++[(1,p,nm)])
   exact⟨b,by simp only[jB,jC,jD] at c ⊢;omega⟩
  split
  .exact⟨fun h=>absurd h (by show ¬((12:Int)=0);decide),by simp only[jB,jC,jD];omega⟩
  exact⟨fun _=>⟨p,rfl,by have:=a p;omega⟩,by simp only[jB,jC,jD];omega⟩
theorem IR(L:List bS)(env:rJ)(w:Int):(∀f nm,((mJ L env w).cl f nm).1.length<=9)/\∀p,((mJ L env w).dt p).1.length<=9:=by
 refine⟨fun f nm=> ?_,fun p=> ?_⟩
 .show(if 8<f.2.1.length then([],.inl 0) else wH L _:List Ky×(Int⊕Aa)).1.length<=9
  split
  .exact jW _
  have:=(UD (E:=fun p=>bT L 1 p nm) (nm:=nm) (fun p=>vV L 1 p _) (f.1::f.2.1) []).2
  simp only[jC,jD] at this
  show(nC (fun p=>bT L 1 p nm) nm (f.1::f.2.1) []).2.1.length<=9
  omega
 show(nY L p).1.length<=9
 unfold nY
 split
 .show 1<=9;decide
 show 2<=9;decide
end
abbrev JU(N D:Nat):=(oO N D).1
abbrev JK(N D:Nat):=(oO N D).2.1
abbrev nP(N D:Nat):=(oO N D).2.2.1
abbrev DM(N D:Nat):=(oO N D).2.2.2
theorem uV(r:Option (zS×Int)):(r.bind fun y=>some (((y.1.1.1,y.1.1.2.1,y.1.1.2.2.1,y.1.1.2.2.2),y.1.2.1,y.1.2.2),y.2))=r:=by cases r<;>rfl
def Cnd(n:Nat)(s:Es):Prop:=s.2.1<=20000/\20000<s.2.1+n
theorem Cnd.gr{n:Nat}{s s':Es}(h:Cnd n s)(g:Gr s s'):Cnd n s':=⟨g.2.2.1 h.1,hY h.2 (Nat.add_le_add_right g.2.1 n)⟩
section
variable {N:Nat} {L:List bS} {env:rJ} {w:Int} {n D a:Nat} {t:Aa} {vs:List Int} {s:Es} {x:Ex}
theorem qJi{e b:Int}(a:e≠0)(f:Sr)(l:List Ex)(i:Int)(us:List Int):nP N (D+1) (pF L env w (mE s e b)) f l i us=some (mE s e b,0):=by
 show GG N (JU N D) (JK N D) (nP N D) (DM N D) (pF L env w (mE s e b)) f l i us=_
 unfold GG
 rw[if_pos (by simpa using a)]
abbrev PJ(N:Nat)(L:List bS)(env:rJ)(w:Int)(n:Nat):Prop:=
 ∀(D a:Nat) (t:Aa) (vs:List Int) (i:Int) (s:Es),Cnd n s->Qk s->3*n<=D->a<=64->BK t->t.2.2.2.1.length=vs.length->(∀v∈vs,VB v)->0<=i->i<t.2.2.2.2.length->
  RelR a (ev (mJ L env w) n a t vs i s) (nP N D (pF L env w (mE s 0 a)) t.1 t.2.2.2.2 i vs)
theorem ZJ(y:PJ N L env w n){k:Int}(l:Cnd n s)(u:Qk s)(f:3*n<=D)(z:a<=64)(q:aO t.1.2.2 k=some t.2)(c:BK t)(r:t.2.2.2.1.length=vs.length)(x:∀v∈vs,VB v):
  RelR a (pT (ev (mJ L env w) n) a t vs s) (DM N (D+1) (pF L env w (mE s 0 a)) t.1 k vs):=by
 show RelR a _ (QJ N (JU N D) (JK N D) (nP N D) (DM N D) (pF L env w (mE s 0 a)) t.1 k vs)
 unfold QJ pT
 by_cases h64:a=64
 .subst h64
  rw[if_pos rfl,if_pos (by rfl),show oH N _ 17=_ from wV (mE s 0 (64:Nat)) rfl 17]
  exact RelR.err ac rfl
 have A:=c.1.2.1
 have e:=c.1.1.2
 rw[if_neg h64,if_neg (show ¬(((a:Nat):Int)==64)=true by simpa using(show ¬(a:Int)=64 by omega)),q,j0]
 rw[show IntKind.wrap .i64 ((pF L env w (mE s 0 a)).2.2.2.2.2.2+1)=((a+1:Nat):Int) from by show IntKind.wrap .i64 ((a:Int)+1)=_;rw[bB aa aa];rfl]
 rw[show IntKind.wrap .i64 ((t.2.2.2.2.length:Int)-1)=(t.2.2.2.2.length:Int)-1 from bB aa aa]
 have d:=y D (a+1) t vs ((t.2.2.2.2.length:Int)-1) s l u f aa c r x aa aa
 have b:IntKind.wrap .i64 (((a+1:Nat):Int)-1)=(a:Int):=by rw[bB aa aa];omega
 revert d
 generalize ev (mJ L env w) n (a+1) t vs ((t.2.2.2.2.length:Int)-1) s=o
 obtain⟨s',er|v⟩:=o
 .rintro⟨p,v,h⟩
  rw[show nP N D _ t.1 _ _ vs=_ from h]
  exact RelR.err p (v:=v) (by simp only[j0,b])
 rintro⟨h,g⟩
 rw[show nP N D _ t.1 _ _ vs=_ from h]
 exact RelR.val g (by simp only[j0,b])
abbrev qQv:=List Int×Int×Int×Int×Bool×List Ky×Int×Int×Int
abbrev PE(us:List Int)(s:Es)(e a:Int):qQv:=(us,0,0,0,s.2.2,pX s.1,(s.2.1:Int),e,a)
abbrev DO(us:List Int)(i:Int)(s:Es)(e a:Int):List Int×Int×Int×Int×Int×Bool×List Ky×Int×Int×Int:=(us,i,0,0,0,s.2.2,pX s.1,(s.2.1:Int),e,a)
theorem qLh{m0:Rmc}(g:∃t0,m0=pF L env w t0){e:Int}(c:e≠0)(o:x.2.2.2.2.length<=20000):∀(d i M:Nat) (acc:List Int),i+d=x.2.2.2.2.length->d<M->acc.length<=i->
  ∃us,aB (tQ N (nP N (D+1)) m0 t.1 t.2.2.2.2 x vs) M (DO acc (i:Int) s e a)=some (PE us s e a)
 |_,_,0,_,_,h,_=>absurd h (kK _)
 |0,i,M+1,acc,k,l,n=>by
  refine⟨acc,?_⟩
  simp only[aB,tQ]
  rw[if_neg ad];rfl
 |d+1,i,M+1,acc,k,l,n=>by
  obtain⟨t0,rfl⟩:=g
  have hi:i<x.2.2.2.2.length:=by omega
  obtain⟨us,h⟩:=qLh (m0:=pF L env w t0) ⟨t0,rfl⟩ c o d (i+1) M (acc++[0]) aa aa aj
  refine⟨us,?_⟩
  have f:tQ N (nP N (D+1)) (pF L env w t0) t.1 t.2.2.2.2 x vs (DO acc (i:Int) s e a)=some (.inl (DO (acc++[0]) ((i+1:Nat):Int) s e a)):=by
   simp only[tQ]
   rw[if_pos (by simpa using hi),cQ hi,j0,show nP N (D+1) _ t.1 _ _ vs=_ from qJi (s:=s) (b:=(a:Int)) c t.1 _ _ vs]
   simp only[j0]
   rw[mC ag aa,j0,bB aa aa];rfl
  simp only[aB,f,j0]
  exact h
def qCh(a:Nat)(acc:List Int)(k:Nat)(o:Eo (List Int))(r:Option qQv):Prop:=match o.2 with
 | .inr us=>r=some (PE (acc++us) o.1 0 a)/\(∀u∈us,VB u)/\us.length=k
 | .inl e=>e≠0/\∃us,r=some (PE us o.1 e a)
theorem qJz(K:PJ N L env w n)(y:3*n<=D+1)(z:a<=64)(F:BK t)(B:t.2.2.2.1.length=vs.length)(G:∀v∈vs,VB v){t0:zS}
  (H:x.2.2.2.2.length<=20000) (E:∀j∈x.2.2.2.2,0<=j/\j<(t.2.2.2.2.length:Int)):∀(d i M:Nat) (acc:List Int) (s:Es),i+d=x.2.2.2.2.length->d<M->acc.length<=i->Cnd n s->Qk s->
  qCh a acc d (uI (ev (mJ L env w) n a t vs) (x.2.2.2.2.drop i) s) (aB (tQ N (nP N (D+1)) (pF L env w t0) t.1 t.2.2.2.2 x vs) M (DO acc (i:Int) s 0 a))
 |_,_,0,_,_,_,h,_,_,_=>absurd h (kK _)
 |0,i,M+1,acc,s,S,c,k,l,r=>by
  rw[jU aa]
  refine⟨?_,fun u b=>(by cases b),rfl⟩
  simp only[aB,tQ]
  rw[if_neg ad,jV];rfl
 |d+1,i,M+1,acc,s,S,c,k,l,r=>by
  have hi:i<x.2.2.2.2.length:=by omega
  rw[uS hi]
  have A:=E _ (jM hi)
  have U:=K (D+1) a t vs x.2.2.2.2[i] s l r y z F B G A.1 A.2
  have p:=Gr.ev (mJ L env w) n a t vs x.2.2.2.2[i] s
  have q:=Qk.ev (IR L env w) n a t vs x.2.2.2.2[i] s r
  unfold uI
  revert U p q
  generalize ev (mJ L env w) n a t vs x.2.2.2.2[i] s=o
  obtain⟨s',er|v⟩:=o
  .rintro⟨e,v,h⟩ _ _
   obtain⟨us,b⟩:=qLh (D:=D) (vs:=vs) (a:=a) (t:=t) (s:=s') (m0:=pF L env w t0) (N:=N) ⟨t0,rfl⟩ e H d (i+1) M (acc++[v]) aa aa aj
   refine⟨e,us,?_⟩
   have f:tQ N (nP N (D+1)) (pF L env w t0) t.1 t.2.2.2.2 x vs (DO acc (i:Int) s 0 a)=some (.inl (DO (acc++[v]) ((i+1:Nat):Int) s' er a)):=by
    simp only[tQ]
    rw[if_pos (by simpa using hi),cQ hi,j0,show nP N (D+1) _ t.1 _ _ vs=_ from h]
    simp only[j0]
    rw[mC ag aa,j0,bB aa aa];rfl
   simp only[aB,f,j0]
   exact b
  rintro⟨h,g⟩ p q
  have f:tQ N (nP N (D+1)) (pF L env w t0) t.1 t.2.2.2.2 x vs (DO acc (i:Int) s 0 a)=some (.inl (DO (acc++[v]) ((i+1:Nat):Int) s' 0 a)):=by
   simp only[tQ]
   rw[if_pos (by simpa using hi),cQ hi,j0,show nP N (D+1) _ t.1 _ _ vs=_ from h]
   simp only[j0]
   rw[mC ag aa,j0,bB aa aa];rfl
  simp only[aB,f,j0]
  have rc:=qJz K y z F B G (t0:=t0) H E d (i+1) M (acc++[v]) s' aa aa aj (l.gr p) q
  revert rc
  show qCh a (acc++[v]) d _ _->qCh a acc (d+1) (bE (s',Sum.inr v) _) _
  simp only[bE]
  generalize uI (ev (mJ L env w) n a t vs) (x.2.2.2.2.drop (i+1)) s'=o2
  obtain⟨R,er|us⟩:=o2
  .rintro⟨e,us,c⟩
   exact⟨e,us,c⟩
  rintro⟨c,k,e⟩
  refine⟨c.trans ?_,fun u b=> ?_,by show(v::us).length=d+1;rw[jC,e]⟩
  .show some (PE ((acc++[v])++us) R 0 a)=some (PE (acc++(v::us)) R 0 a)
   rw[jE];rfl
  rcases jJ.1 b with rfl|b
  .exact g
  exact k u b
end
section
variable {N:Nat} {L:List bS} {env:rJ} {w:Int} {n D a:Nat} {t:Aa} {vs:List Int} {s:Es} {x:Ex}
theorem xB(a:20000000<N)(d:s.1.length<=300000){e b:Int}(ks:List Ky)(c:ks.length<=9):pR N (pF L env w (mE s e b)) ks=some (mE (lJ s ks) e b):=zGd aa aa aa
theorem zCi(H:Wrr N L env)(M:PJ N L env w n)(q:Cnd n s)(hq:s.1.length+9<=10*s.2.1+1)(U:3*n<=D)(F:a<=64)(K:BK t)(Y:t.2.2.2.1.length=vs.length)(hv:∀v∈vs,VB v)
  (hx:x.2.2.2.2.length<=20000) (Z:∀j∈x.2.2.2.2,0<=j/\j<(t.2.2.2.2.length:Int)):
  RelR a (bE (lJ s (wH L (nC (fun p=>bT L 1 p x.2.2.2.1) x.2.2.2.1 (t.1.1::t.1.2.1) [])).1,(wH L (nC (fun p=>bT L 1 p x.2.2.2.1) x.2.2.2.1 (t.1.1::t.1.2.1) [])).2) fun u s=>bE (uI (ev (mJ L env w) n a t vs) x.2.2.2.2 s) fun us s=>
   if us.length=u.2.2.2.1.length then pT (ev (mJ L env w) n) a u us s else(s,.inl 13)) (JU N (D+2) (pF L env w (mE s 0 a)) t.1 t.2.2.2.2 x vs):=by
 have V:=H.hN
 have h8:=K.2.1
 have a0:=q.1
 show RelR a _ (QL N (JU N (D+1)) (JK N (D+1)) (nP N (D+1)) (DM N (D+1)) (pF L env w (mE s 0 a)) t.1 t.2.2.2.2 x vs)
 unfold QL
 rw[show LP N _ t.1 x.2.2.2.1=_ from zCs H.hc aa (f:=t.1) aa x.2.2.2.1,j0]
 obtain⟨A,B⟩:=UD (E:=fun p=>bT L 1 p x.2.2.2.1) (nm:=x.2.2.2.1) (fun p=>vV L 1 p _) (t.1.1::t.1.2.1) []
 generalize nC (fun p=>bT L 1 p x.2.2.2.1) x.2.2.2.1 (t.1.1::t.1.2.1) []=r at A B
 obtain⟨e,ks,k⟩:=r
 simp only[jC,jD] at B
 have g:ks.length<=9:=by omega
 rw[show pR N _ ks=_ from xB (L:=L) (env:=env) (w:=w) (e:=0) (b:=(a:Int)) V aa ks g,j0]
 unfold wH
 dsimp only
 have l:Qk (lJ s ks):=DF hq g
 by_cases hk:k=0
 .subst hk
  obtain⟨p,rfl,y⟩:=A rfl
  obtain⟨⟨i,R,f1'⟩,S,f3⟩:=EY H.hc y
  rw[if_pos rfl,if_neg ac]
  simp only[bE]
  have z:=Gr.seq (fun i s=>Gr.ev (mJ L env w) n a t vs i s) x.2.2.2.2 (lJ s ks)
  have d:=Qk.seq (fun i s h=>Qk.ev (IR L env w) n a t vs i s h) x.2.2.2.2 (lJ s ks) l
  have c:=qJz M (D:=D) aa F K Y hv (t0:=mE s 0 a) hx Z x.2.2.2.2.length 0 N [] (lJ s ks) aa aa (jN _) (q.gr (Gr.see s ks)) l
  rw[kC,show((0:Nat):Int)=0 from rfl] at c
  revert c z d
  generalize uI (ev (mJ L env w) n a t vs) x.2.2.2.2 (lJ s ks)=o
  obtain⟨s',er|us⟩:=o
  .rintro _ _ ⟨G,us,h⟩
   rw[show aB (tQ N (nP N (D+1)) _ t.1 _ x vs) N _=_ from h,j0,if_pos (show(er !=0)=true by simpa using G)]
   exact RelR.err G rfl
  rintro z d ⟨h,G,h3⟩
  rw[show aB (tQ N (nP N (D+1)) _ t.1 _ x vs) N _=_ from h,j0,if_neg (show ¬((0:Int) !=0)=true by decide)]
  rw[show BX N _ (bT L 1 p x.2.2.2.1)=_ from HZ (AH L).1 aa,j0,R]
  dsimp only
  rw[f1',j0]
  simp only[jP]
  by_cases hlen:us.length=(nM L (bT L 1 p x.2.2.2.1)).2.2.2.1.length
  .rw[if_pos hlen,if_neg (by simp[hlen]),uV]
   exact ZJ M ((q.gr (Gr.see s ks)).gr z) d U F f1' S hlen.symm G
  rw[if_neg hlen,if_pos ai,uV,show oH N _ 13=_ from wV (mE s' 0 a) rfl 13]
  exact RelR.err ac rfl
 rw[if_neg hk,if_pos (show(k !=0)=true by simpa using hk),uV,show oH N _ k=_ from wV (mE (lJ s ks) 0 a) rfl k]
 exact RelR.err hk rfl
theorem XB(a:lB L=0)(c:1000005<N)(p:BA):(∃b,b.size<=16384/\nY L p=([(4,p,⟨#[]⟩)],.inr (.inl b))/\rT N L (eW (eG L)) p=some (1,CX,[(4,p,⟨#[]⟩)],0)/\uR N L p=some (b,true))\/
  (∃(ks:List Ky) (e k:Int),ks.length<=2/\e≠0/\(k≠0↔e≠14)/\nY L p=(ks,.inl e)/\rT N L (eW (eG L)) p=some (k,CX,ks,e))\/
  (∃ks:List Ky,ks.length<=2/\(bT L 3 lE p).2.2.2.2.2=1/\nY L p=(ks,.inr (.inr (nM L (bT L 3 lE p))))/\rT N L (eW (eG L)) p=some (2,bT L 3 lE p,ks,0)/\∃z,uR N L p=some (z,false)):=by
 rw[zAo a c p,HR p (show 100<N by omega)]
 unfold nY pN
 rw[if_pos a]
 cases d:mH L p with
 |some b=>exact .inl ⟨b,((yW.1 a).2.2 _ (ZE d)).2,rfl,rfl,rfl⟩
 |none=>
  have h:=vV L 3 lE p
  by_cases h0:(bT L 3 lE p).2.2.2.2.2=0
  .exact .inr (.inl ⟨[(4,p,⟨#[]⟩),(3,p,⟨#[]⟩)],14,0,jN 2,by decide,by decide,by simp only[if_pos h0],by simp only[if_pos h0];rfl⟩)
  by_cases h1:1<(bT L 3 lE p).2.2.2.2.2
  .exact .inr (.inl ⟨[(4,p,⟨#[]⟩),(3,p,⟨#[]⟩)],12,3,jN 2,by decide,by decide,by simp only[if_neg h0,if_pos h1],by simp only[if_neg h0,if_pos h1];rfl⟩)
  exact .inr (.inr ⟨[(4,p,⟨#[]⟩),(3,p,⟨#[]⟩)],jN 2,by omega,by simp only[if_neg h0,if_neg h1],by simp only[if_neg h0,if_neg h1];rfl,_,rfl⟩)
theorem qNh{v:Int}:(if decide (Int.tmod v 256<0)then some (IntKind.wrap .i64 (Int.tmod v 256+256)) else some (Int.tmod v 256):Option Int)=some (v%256):=by
 have d: -256<Int.tmod v 256/\Int.tmod v 256<256:=by
  constructor
  .have:=Int.lt_tmod_of_pos v (show(0:Int)<256 by decide);omega
  exact Int.tmod_lt_of_pos v ac
 have c:=Int.tmod_eq_emod (a:=v) (b:=256)
 by_cases h:Int.tmod v 256<0
 .rw[if_pos (jR h),bB aa aa]
  congr 1
  split at c<;>omega
 rw[if_neg (by simpa using h)]
 congr 1
 split at c<;>omega
theorem qOs(i m:Int):(if decide (i<0)then some true else some (decide (i>=m)):Option Bool)=some (!decide (0<=i/\i<m)):=by
 by_cases h:i<0
 .rw[if_pos (jR h),jX aa];rfl
 rw[if_neg (by simpa using h)]
 by_cases g:i<m
 .rw[jR (show 0<=i/\i<m by omega),jX aa];rfl
 rw[jX (show ¬(0<=i/\i<m) by omega),jR aa];rfl
theorem zAy(H:Wrr N L env)(S:PJ N L env w n)(G:Cnd n s)(hq:s.1.length+9<=10*s.2.1+1)(hD:3*n<=D)(F:a<=64)(ht:BK t)(Z:t.2.2.2.1.length=vs.length)(q:∀v∈vs,VB v){j:Nat}(hx:x.2.2.2.2=[(j:Int)])(hj:j<t.2.2.2.2.length):
  RelR a (bE (lJ s (nY L x.2.2.2.1).1,(nY L x.2.2.2.1).2) fun u s=>bE (ev (mJ L env w) n a t vs (qW x 0) s) fun i s=>
   match u with
   | .inl b=>if 0<=i/\i<b.size then(s,.inr ((b.data.toList.getD i.toNat 0).toNat:Int)) else(s,.inl 3)
   | .inr u=>if i=0 then bE (pT (ev (mJ L env w) n) a u [] s) fun v s=>(s,.inr (v%256)) else(s,.inl 3)) (JK N (D+2) (pF L env w (mE s 0 a)) t.1 t.2.2.2.2 x vs):=by
 have E:=H.hN
 have a0:=G.1
 show RelR a _ (QK N (JU N (D+1)) (JK N (D+1)) (nP N (D+1)) (DM N (D+1)) (pF L env w (mE s 0 a)) t.1 t.2.2.2.2 x vs)
 unfold QK
 have o0:qW x 0=(j:Int):=by unfold qW;rw[hx];rfl
 have i0:aO x.2.2.2.2 0=some (j:Int):=by rw[hx];rfl
 rw[o0]
 rcases XB H.hc (show 1000005<N by omega) x.2.2.2.1 with ⟨b,hb,g,l,A⟩|⟨ks,e,k,p,c,-,g,l⟩|⟨ks,p,K,g,l,z,A⟩
 .rw[g,show rT N _ _ x.2.2.2.1=_ from l,j0,show pR N _ [(4,x.2.2.2.1,(⟨#[]⟩:BA))]=_ from xB (L:=L) (env:=env) (w:=w) (e:=0) (b:=(a:Int)) E aa [(4,x.2.2.2.1,⟨#[]⟩)] (by show 1<=9;decide),j0,if_neg (show ¬((0:Int) !=0)=true by decide),i0]
  simp only[bE,j0]
  have f:Qk (lJ s [(4,x.2.2.2.1,⟨#[]⟩)]):=DF hq (by show 1<=9;decide)
  have d:=G.gr (Gr.see s [(4,x.2.2.2.1,⟨#[]⟩)])
  have V:=S (D+1) a t vs j _ d f aa F ht Z q aa aa
  revert V
  generalize ev (mJ L env w) n a t vs j _=o
  obtain⟨s1,er|i⟩:=o
  .rintro⟨c,v,h⟩
   rw[show nP N (D+1) _ t.1 _ (j:Int) vs=_ from h,j0,if_pos (show(er !=0)=true by simpa using c)]
   exact RelR.err c rfl
  rintro⟨h,hp⟩
  rw[show nP N (D+1) _ t.1 _ (j:Int) vs=_ from h,j0,if_neg (show ¬((0:Int) !=0)=true by decide),show uR N _ x.2.2.2.1=_ from A,j0,if_neg (show ¬((1:Int)==2)=true by decide),j0]
  rw[show(if decide (i<0)then some true else some (decide (i>=(b.size:Int))):Option Bool)=_ from qOs i b.size,j0]
  dsimp only
  by_cases hi:0<=i/\i<b.size
  .rw[if_pos hi,jR hi,if_neg ac,if_pos ac]
   obtain⟨k,rfl⟩:∃k:Nat,i=(k:Int):=⟨i.toNat,by omega⟩
   have p:k<b.data.toList.length:=by have:=hi.2;simp only[ByteArray.size] at this;simp only[fO];omega
   have r:(b.data.toList[k]).toNat<256:=UInt8.toNat_lt _
   rw[qK p,j0,bB aa aa,jQ,jS,List.getElem?_eq_getElem p,dW]
   exact RelR.val (by unfold VB;omega) rfl
  rw[if_neg hi,jX hi,if_pos ac,uV,show oH N _ 3=_ from wV (mE s1 0 a) rfl 3]
  exact RelR.err ac rfl
 .rw[g,show rT N _ _ x.2.2.2.1=_ from l,j0,show pR N _ ks=_ from xB (L:=L) (env:=env) (w:=w) (e:=0) (b:=(a:Int)) E aa ks aa,j0,if_pos (show(e !=0)=true by simpa using c),uV,show oH N _ e=_ from wV (mE (lJ s ks) 0 a) rfl e]
  exact RelR.err c rfl
 obtain⟨⟨y,f1,f1'⟩,Y,f3⟩:=EY H.hc K
 have R:(nM L (bT L 3 lE x.2.2.2.1)).2.2.2.1=[]:=Y.1.2.2.2 (by rw[f3];decide)
 rw[g,show rT N _ _ x.2.2.2.1=_ from l,j0,show pR N _ ks=_ from xB (L:=L) (env:=env) (w:=w) (e:=0) (b:=(a:Int)) E aa ks aa,j0,if_neg (show ¬((0:Int) !=0)=true by decide),i0]
 simp only[bE,j0]
 have f:Qk (lJ s ks):=DF hq aa
 have d:=G.gr (Gr.see s ks)
 have V:=S (D+1) a t vs j _ d f aa F ht Z q aa aa
 have r:=Gr.ev (mJ L env w) n a t vs j (lJ s ks)
 have U:=Qk.ev (IR L env w) n a t vs j (lJ s ks) f
 revert V r U
 generalize ev (mJ L env w) n a t vs j _=o
 obtain⟨s1,er|i⟩:=o
 .rintro⟨c,v,h⟩ _ _
  rw[show nP N (D+1) _ t.1 _ (j:Int) vs=_ from h,j0,if_pos (show(er !=0)=true by simpa using c)]
  exact RelR.err c rfl
 rintro⟨h,hp⟩ r U
 rw[show nP N (D+1) _ t.1 _ (j:Int) vs=_ from h,j0,if_neg (show ¬((0:Int) !=0)=true by decide),show uR N _ x.2.2.2.1=_ from A,j0,if_pos (show((2:Int)==2)=true by decide),j0]
 rw[show(if decide (i<0)then some true else some (decide (i>=(1:Int))):Option Bool)=_ from qOs i 1,j0]
 dsimp only
 by_cases hi:i=0
 .subst hi
  rw[if_pos rfl,jR (show(0:Int)<=0/\(0:Int)<1 by decide),if_neg ac,if_neg (show ¬((2:Int)==1)=true by decide)]
  rw[show BX N _ (bT L 3 lE x.2.2.2.1)=_ from HZ (AH L).1 aa,j0,f1]
  have M:=ZJ (k:=y) (t:=nM L (bT L 3 lE x.2.2.2.1)) (vs:=[]) S (d.gr r) U hD F f1' Y (by rw[R];rfl) (fun v q=>by cases q)
  revert M
  dsimp only
  generalize pT (ev (mJ L env w) n) a (nM L (bT L 3 lE x.2.2.2.1)) [] s1=o2
  obtain⟨s2,er|v⟩:=o2
  .rintro⟨c,v,B⟩
   rw[show DM N (D+1) _ _ y []=_ from B,j0,qNh]
   exact RelR.err c rfl
  rintro⟨B,h5⟩
  rw[show DM N (D+1) _ _ y []=_ from B,j0,qNh]
  exact RelR.val (by unfold VB;omega) rfl
 rw[if_neg hi,jX (show ¬(0<=i/\i<1) by omega),if_pos ac,uV,show oH N _ 3=_ from wV (mE s1 0 a) rfl 3]
 exact RelR.err ac rfl
end
section
variable {N:Nat} {L:List bS} {env:rJ} {w:Int}
theorem zCd{k:Int}(h:0<=k)(w:Int):∃z,FR .u64 w k=some z:=by
 unfold FR
 rw[if_neg aa]
 exact⟨_,rfl⟩
theorem qQa(H:Wrr N L env)(hE:∀v∈env,VB v.2):∀n,PJ N L env w n
 |0,_,_,_,_,_,s,hc,_,_,_,_,_,_,_,_=>by have:=hc.1;have:=hc.2;omega
 |n+1,D,a,t,vs,i,s,hc,hq,hD,U,M,Y,R,h0,hi=>by
  have Z:=qQa H hE n
  have S:=H.hN
  have a6:=hc.1
  obtain⟨D,rfl⟩:∃D',D=D'+3:=⟨D-3,by omega⟩
  have hD':3*n<=D:=by omega
  have a7:s.1.length<=10*s.2.1+1:=hq
  show RelR a _ (GG N (JU N (D+2)) (JK N (D+2)) (nP N (D+2)) (DM N (D+2)) (pF L env w (mE s 0 a)) t.1 t.2.2.2.2 i vs)
  unfold ev GG
  rw[if_neg (show ¬((0:Int) !=0)=true by decide)]
  by_cases hs:s.2.1=20000
  .rw[if_pos hs,if_pos (show(((s.2.1:Nat):Int)==20000)=true by simp[hs]),uV,show oH N _ 16=_ from wV (mE s 0 a) rfl 16]
   exact RelR.err ac rfl
  rw[if_neg hs,if_neg (show ¬(((s.2.1:Nat):Int)==20000)=true by simpa using(show ¬((s.2.1:Nat):Int)=20000 by omega))]
  obtain⟨k,rfl⟩:∃k:Nat,i=(k:Int):=⟨i.toNat,by omega⟩
  have V:k<t.2.2.2.2.length:=by omega
  rw[jQ,List.getElem?_eq_getElem V]
  dsimp only
  rw[cQ V,j0]
  have a3:=M.1.1.1 k _ (List.getElem?_eq_getElem V)
  generalize t.2.2.2.2[k]=x at a3
  rw[show IntKind.wrap .i64 ((s.2.1:Int)+1)=((s.2.1+1:Nat):Int) from by rw[bB aa aa];rfl]
  have E:Cnd n (s.1,s.2.1+1,s.2.2):=⟨by show s.2.1+1<=20000;omega,by have:=hc.2;show 20000<s.2.1+1+n;omega⟩
  have a4:(s.1,s.2.1+1,s.2.2).1.length+9<=10*(s.1,s.2.1+1,s.2.2).2.1+1:=by show s.1.length+9<=10*(s.2.1+1)+1;omega
  have a1:Qk (s.1,s.2.1+1,s.2.2):=by show s.1.length<=10*(s.2.1+1)+1;omega
  have K:∀j:Nat,j<k->j<t.2.2.2.2.length:=fun j hj=>by omega
  have c:∀k:Int,x.1≠k->¬(x.1==k)=true:=fun k h=>by simpa using h
  have d:∀k:Int,x.1=k->(x.1==k)=true:=fun k h=>by simpa using h
  generalize hs1:(s.1,s.2.1+1,s.2.2)=s1 at*
  have e1:s1.1=s.1:=by rw[<-hs1]
  have e2:s1.2.1=s.2.1+1:=by rw[<-hs1]
  have e3:s1.2.2=s.2.2:=by rw[<-hs1]
  rw[<-e1,<-e2,<-e3]
  have F:s1.1.length<=300000:=by rw[e1];omega
  unfold yH
  rcases a3 with ⟨f,r,G⟩|⟨f,r,G⟩|⟨f,-,r,G⟩|⟨f,j,l,r,G,h4⟩|⟨f,j,l,m,r,G,h4,h5⟩|⟨f,-,j,r,G⟩|⟨f,-⟩|⟨f,r,G,-⟩
  .rw[if_pos f,if_pos (d 1 f)]
   exact RelR.val (by unfold VB;omega) rfl
  .obtain⟨p,hp⟩:∃p:Nat,x.2.1=(p:Int):=⟨x.2.1.toNat,by omega⟩
   have u:p<vs.length:=by omega
   rw[if_neg aa,if_pos f,if_neg (c 1 aa),if_pos (d 2 f),hp,cQ u,j0,jQ,jS,List.getElem?_eq_getElem u]
   exact RelR.val (R _ (jM u)) rfl
  .rw[if_neg aa,if_neg aa,if_pos f,if_neg (c 1 aa),if_neg (c 2 aa),if_pos (d 3 f),uV,show(mJ L env w).cl t.1 x.2.2.2.1=_ from if_neg (by have:=M.2.1;omega)]
   exact zCi H Z E a4 hD' U M Y R r fun j hj=>by have:=G j hj;omega
  .have o0:qW x 0=(j:Int):=by unfold qW;rw[r];rfl
   have o1:qW x 1=(l:Int):=by unfold qW;rw[r];rfl
   have i0:aO x.2.2.2.2 0=some (j:Int):=by rw[r];rfl
   have i1:aO x.2.2.2.2 1=some (l:Int):=by rw[r];rfl
   rw[if_neg aa,if_neg aa,if_neg aa,if_pos f,if_neg (c 1 aa),if_neg (c 2 aa),if_neg (c 3 aa),if_pos (d 4 f),i0,j0,o0,o1]
   have r0:=Z (D+2) a t vs j s1 E a1 aa U M Y R aa (by have:=K _ G;omega)
   have A:=Gr.ev (mJ L env w) n a t vs j s1
   have B:=Qk.ev (IR L env w) n a t vs j s1 a1
   revert r0 A B
   generalize ev (mJ L env w) n a t vs j s1=o
   obtain⟨s2,er|p⟩:=o
   .rintro⟨u,v,h⟩ _ _
    rw[show nP N (D+2) _ t.1 _ (j:Int) vs=_ from h,j0,i1,j0,show nP N (D+2) _ t.1 _ (l:Int) vs=_ from qJi (D:=D+1) (s:=s2) (b:=(a:Int)) u t.1 _ _ vs,j0,if_pos (show(er !=0)=true by simpa using u)]
    exact RelR.err u rfl
   rintro⟨h,hp⟩ A B
   rw[show nP N (D+2) _ t.1 _ (j:Int) vs=_ from h,j0,i1,j0]
   simp only[bE]
   have r1:=Z (D+2) a t vs l s2 (E.gr A) B aa U M Y R aa (by have:=K _ h4;omega)
   revert r1
   generalize ev (mJ L env w) n a t vs l s2=o
   obtain⟨s3,er|q⟩:=o
   .rintro⟨u,v,h⟩
    rw[show nP N (D+2) _ t.1 _ (l:Int) vs=_ from h,j0,if_pos (show(er !=0)=true by simpa using u)]
    exact RelR.err u rfl
   rintro⟨h',hq'⟩
   rw[show nP N (D+2) _ t.1 _ (l:Int) vs=_ from h',j0,if_neg (show ¬((0:Int) !=0)=true by decide),uV]
   exact qYf hp hq'
  .have o0:qW x 0=(j:Int):=by unfold qW;rw[r];rfl
   have i0:aO x.2.2.2.2 0=some (j:Int):=by rw[r];rfl
   have i1:aO x.2.2.2.2 1=some (l:Int):=by rw[r];rfl
   have i2:aO x.2.2.2.2 2=some (m:Int):=by rw[r];rfl
   rw[if_neg aa,if_neg aa,if_neg aa,if_neg aa,if_pos f,if_neg (c 1 aa),if_neg (c 2 aa),if_neg (c 3 aa),if_neg (c 4 aa),if_pos (d 5 f),i0,j0,o0]
   have r0:=Z (D+2) a t vs j s1 E a1 aa U M Y R aa (by have:=K _ G;omega)
   have A:=Gr.ev (mJ L env w) n a t vs j s1
   have B:=Qk.ev (IR L env w) n a t vs j s1 a1
   revert r0 A B
   generalize ev (mJ L env w) n a t vs j s1=o
   obtain⟨s2,er|p⟩:=o
   .rintro⟨u,v,h⟩ _ _
    rw[show nP N (D+2) _ t.1 _ (j:Int) vs=_ from h,j0,if_pos (show(er !=0)=true by simpa using u)]
    exact RelR.err u rfl
   rintro⟨h,hp⟩ A B
   rw[show nP N (D+2) _ t.1 _ (j:Int) vs=_ from h,j0,if_neg (show ¬((0:Int) !=0)=true by decide)]
   simp only[bE]
   by_cases hp0:p=0
   .rw[if_pos hp0,if_neg (show ¬(p !=0)=true by simp[hp0]),i2,j0,uV,show qW x 2=(m:Int) by unfold qW;rw[r];rfl]
    exact Z (D+2) a t vs m s2 (E.gr A) B aa U M Y R aa (by have:=K _ h5;omega)
   rw[if_neg hp0,if_pos (show(p !=0)=true by simpa using hp0),i1,j0,uV,show qW x 1=(l:Int) by unfold qW;rw[r];rfl]
   exact Z (D+2) a t vs l s2 (E.gr A) B aa U M Y R aa (by have:=K _ h4;omega)
  .rw[if_neg aa,if_neg aa,if_neg aa,if_neg aa,if_neg aa,if_pos f,if_neg (c 1 aa),if_neg (c 2 aa),if_neg (c 3 aa),if_neg (c 4 aa),if_neg (c 5 aa),if_pos (d 6 f),uV]
   exact zAy H Z E a4 hD' U M Y R r (K _ G)
  .rcases f with f|f|f
   .rw[if_neg aa,if_neg aa,if_neg aa,if_neg aa,if_neg aa,if_neg aa,if_pos f,if_neg (c 1 aa),if_neg (c 2 aa),if_neg (c 3 aa),if_neg (c 4 aa),if_neg (c 5 aa),if_neg (c 6 aa),if_pos (d 7 f)]
    show RelR a (bE (lJ s1 (nY L x.2.2.2.1).1,(nY L x.2.2.2.1).2) fun t s=>(s,.inr (match t with| .inl b=>(b.size:Int)| .inr _=>1))) _
    rcases XB H.hc (show 1000005<N by omega) x.2.2.2.1 with ⟨b,hb,A,B,g3⟩|⟨ks,e,k,V,u,-,A,B⟩|⟨ks,V,a5,A,B,z,g3⟩
    .rw[A,show rT N _ _ x.2.2.2.1=_ from B,j0,show pR N _ [(4,x.2.2.2.1,(⟨#[]⟩:BA))]=_ from xB (L:=L) (env:=env) (w:=w) (s:=s1) (e:=0) (b:=(a:Int)) S F [(4,x.2.2.2.1,⟨#[]⟩)] (by show 1<=9;decide),j0,if_neg (show ¬((0:Int) !=0)=true by decide),if_neg (show ¬((1:Int)==2)=true by decide),show uR N _ x.2.2.2.1=_ from g3,j0]
     exact RelR.val (by unfold VB;dsimp only;omega) rfl
    .rw[A,show rT N _ _ x.2.2.2.1=_ from B,j0,show pR N _ ks=_ from xB (L:=L) (env:=env) (w:=w) (s:=s1) (e:=0) (b:=(a:Int)) S F ks aa,j0,if_pos (show(e !=0)=true by simpa using u),uV,show oH N _ e=_ from wV (mE (lJ s1 ks) 0 a) rfl e]
     exact RelR.err u rfl
    rw[A,show rT N _ _ x.2.2.2.1=_ from B,j0,show pR N _ ks=_ from xB (L:=L) (env:=env) (w:=w) (s:=s1) (e:=0) (b:=(a:Int)) S F ks aa,j0,if_neg (show ¬((0:Int) !=0)=true by decide),if_pos (show((2:Int)==2)=true by decide)]
    exact RelR.val (by unfold VB;dsimp only;omega) rfl
   .rw[if_neg aa,if_neg aa,if_neg aa,if_neg aa,if_neg aa,if_neg aa,if_neg aa,if_pos f,if_neg (c 1 aa),if_neg (c 2 aa),if_neg (c 3 aa),if_neg (c 4 aa),if_neg (c 5 aa),if_neg (c 6 aa),if_neg (c 7 aa),if_pos (d 8 f)]
    show RelR a (lJ s1 (nY L x.2.2.2.1).1,.inr (match(nY L x.2.2.2.1).2 with| .inl e=>(if e=14 then 0 else 1)| .inr _=>1)) _
    rcases XB H.hc (show 1000005<N by omega) x.2.2.2.1 with ⟨b,hb,A,B,g3⟩|⟨ks,e,k,V,u,a2,A,B⟩|⟨ks,V,a5,A,B,z,g3⟩
    .rw[A,show rT N _ _ x.2.2.2.1=_ from B,j0,show pR N _ [(4,x.2.2.2.1,(⟨#[]⟩:BA))]=_ from xB (L:=L) (env:=env) (w:=w) (s:=s1) (e:=0) (b:=(a:Int)) S F [(4,x.2.2.2.1,⟨#[]⟩)] (by show 1<=9;decide),j0,if_pos (show((1:Int) !=0)=true by decide)]
     exact RelR.val (by unfold VB;dsimp only;omega) rfl
    .rw[A,show rT N _ _ x.2.2.2.1=_ from B,j0,show pR N _ ks=_ from xB (L:=L) (env:=env) (w:=w) (s:=s1) (e:=0) (b:=(a:Int)) S F ks aa,j0]
     dsimp only
     by_cases a0:e=14
     .rw[if_pos a0,if_neg (show ¬(k !=0)=true by have:k=0:=Decidable.not_not.1 fun g=>a2.1 g a0;simp[this])]
      exact RelR.val (by unfold VB;omega) rfl
     rw[if_neg a0,if_pos (show(k !=0)=true by have:=a2.2 a0;simpa using this)]
     exact RelR.val (by unfold VB;omega) rfl
    rw[A,show rT N _ _ x.2.2.2.1=_ from B,j0,show pR N _ ks=_ from xB (L:=L) (env:=env) (w:=w) (s:=s1) (e:=0) (b:=(a:Int)) S F ks aa,j0,if_pos (show((2:Int) !=0)=true by decide)]
    exact RelR.val (by unfold VB;dsimp only;omega) rfl
   rw[if_neg aa,if_neg aa,if_neg aa,if_neg aa,if_neg aa,if_neg aa,if_neg aa,if_neg aa,if_pos f,if_neg (c 1 aa),if_neg (c 2 aa),if_neg (c 3 aa),if_neg (c 4 aa),if_neg (c 5 aa),if_neg (c 6 aa),if_neg (c 7 aa),if_neg (c 8 aa),if_pos (d 9 f)]
   rw[show pR N _ [(5,x.2.2.2.1,(⟨#[]⟩:BA))]=_ from xB (L:=L) (env:=env) (w:=w) (s:=s1) (e:=0) (b:=(a:Int)) S F [(5,x.2.2.2.1,⟨#[]⟩)] (by show 1<=9;decide),j0,show BT N _ x.2.2.2.1=_ from zFe H.env.1 aa x.2.2.2.1,j0]
   show RelR a (lJ s1 [(5,x.2.2.2.1,⟨#[]⟩)],match DH env x.2.2.2.1 with|some v=> .inr v|none=> .inl 15) _
   cases hvar:DH env x.2.2.2.1 with
   |none=>
    dsimp only
    rw[if_pos ac,uV,show oH N _ 15=_ from wV (mE (lJ s1 [(5,x.2.2.2.1,⟨#[]⟩)]) 0 a) rfl 15]
    exact RelR.err ac rfl
   |some v=>
    dsimp only
    rw[if_neg ac]
    refine RelR.val ?_ rfl
    unfold DH at hvar
    obtain⟨y,u,rfl⟩:=jY.1 hvar
    exact hE y (fT u)
  rw[if_neg aa,if_neg aa,if_neg aa,if_neg aa,if_neg aa,if_neg aa,if_neg aa,if_neg aa,if_neg aa,if_neg (c 1 aa),if_neg (c 2 aa),if_neg (c 3 aa),if_neg (c 4 aa),if_neg (c 5 aa),if_neg (c 6 aa),if_neg (c 7 aa),if_neg (c 8 aa),if_neg (c 9 aa)]
  obtain⟨z,u⟩:=zCd r w
  rw[show FR .u64 _ x.2.1=_ from u,j0]
  refine RelR.val (v:=qCc w x.2.1) (NS _) ?_
  unfold qCc
  rw[u];rfl
end
end
end Go.Proofs.YteclmpmonbnooaaGreatDoor
