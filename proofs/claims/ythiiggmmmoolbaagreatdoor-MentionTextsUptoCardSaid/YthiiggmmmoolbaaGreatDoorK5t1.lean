/- No condition but those of each theorem. -/
import Derived.Test.YthiiggmmmoolbaaGreatDoorProg
import Derived.WalkKit
import Derived.Deep.LoopGhost
import Derived.KernelRfl
import Derived.OrdersHeld
import Derived.OrdersIn
import Derived.LoopNIn
import Derived.Sort.LoopGhostIn
import Derived.Laws.AppendOwn
import Derived.RangeFuncLeaves
import Derived.RangeFuncRecord
import Derived.MapKept
import Derived.Maps.RangeRun
import Derived.ChangeKeysEq
import Derived.HandedShaped
import Derived.ChangeStays
import Derived.ChangeSame
import Derived.OpenShut
import Derived.WideShapes
import Derived.JoinedOf
import Derived.ReadAgain
import Derived.ChangeAt
import Derived.RowKit
import Derived.Lib.Overlaps
import Derived.Shelf.Sort.Plain
import Derived.Shelf.Slices.In.SortNone
import Derived.WalkSmall
import Derived.Recover
import Derived.Lib.Builder
import Derived.Lib.UnsafeStr
import Derived.Shelf.Strconv.Itoa3
import Derived.Room.Shelf.Join48
import Derived.Test.YthiiggmmmoolbaaGreatDoorRows
import Derived.Lib.Bytealg
import Derived.Test.YthiiggmmmoolbaaGreatDoorK4t1
namespace Go.Proofs.YthiiggmmmoolbaaGreatDoor
section
open Go Go.Dc
def OkT(ts:List bP):Prop:=ts≠[]/\∀i,i<ts.length->((aN ts i).1=5↔i+1=ts.length)
theorem cQ{α β:Type}{x:bU⊕α}{f:α->bU⊕β}{b:β}(h:bG x f= .inr b):∃a,x= .inr a/\f a= .inr b:=by
 cases x with
 |inl z=>cases h
 |inr a=>exact⟨a,rfl,h⟩
section
variable {ts:List bP} {params:List BA} {E S:Ps->PM Nat}
theorem OkT.next(h:OkT ts){i:Nat}(hi:i<ts.length)(a:(aN ts i).1≠5):i+1<ts.length:=by
 have b:¬i+1=ts.length:=fun e=>a ((h.2 i hi).2 e)
 omega
theorem KD{k:Int}{s:BA}{i:Nat}(h:bT ts k s i=true):(aN ts i).1=k:=by
 simp only[bT,jK,kD] at h;exact h.1
theorem iX(h:OkT ts){k:Int}{s:BA}{i:Nat}(hi:i<ts.length)(b:k≠5)(a:bT ts k s i=true):i+1<ts.length:=h.next hi (by rw[KD a];exact b)
theorem iR(h:OkT ts){s:BA}{i j:Nat}(hi:i<ts.length)(a:cS ts s i= .inr j):j=i+1/\j<ts.length/\bT ts 4 s i=true:=by
 unfold cS at a
 split at a
 .rename_i h2
  obtain rfl:=Sum.inr.inj a
  exact⟨rfl,iX h hi (by decide) h2,h2⟩
 cases a
theorem CC(h:OkT ts){s:BA}{i j:Nat}(hi:i<ts.length)(a:qK ts s i= .inr j):j=i+1/\j<ts.length/\bT ts 1 s i=true:=by
 unfold qK at a
 split at a
 .rename_i h2
  obtain rfl:=Sum.inr.inj a
  exact⟨rfl,iX h hi (by decide) h2,h2⟩
 cases a
theorem tY(h:OkT ts){k:Int}(c:k≠5){i:Nat}{a:Nat×bP}(hi:i<ts.length)(b:lB ts k i= .inr a):a=(i+1,aN ts i)/\i+1<ts.length/\(aN ts i).1=k:=by
 unfold lB at b
 split at b
 .rename_i h2
  obtain rfl:=Sum.inr.inj b
  exact⟨rfl,h.next hi (by rw[h2];exact c),h2⟩
 cases b
theorem qE(h:OkT ts){i:Nat}{a:Nat×bP}(hi:i<ts.length)(f:lA ts i= .inr a):a=(i+1,aN ts i)/\i+1<ts.length/\(aN ts i).1=1/\rF (aN ts i).2.1=false:=by
 obtain⟨b,g,c⟩:=cQ f
 obtain⟨rfl,d,e⟩:=tY h (by decide) hi g
 split at c
 .cases c
 rename_i g3
 obtain rfl:=Sum.inr.inj c
 exact⟨rfl,d,e,by simpa using g3⟩
theorem qW(h:OkT ts){i:Nat}{a:Nat×bP}(hi:i<ts.length)(f:lT ts i= .inr a):a=(i+1,aN ts i)/\i+1<ts.length/\(aN ts i).1=3/\lM (aN ts i).2.1.data.toList=true:=by
 obtain⟨b,g,c⟩:=cQ f
 obtain⟨rfl,d,e⟩:=tY h (by decide) hi g
 split at c
 .rename_i g3
  obtain rfl:=Sum.inr.inj c
  exact⟨rfl,d,e,g3⟩
 cases c
theorem UT(h:OkT ts){i:Nat}{a:Nat×bP}(hi:i<ts.length)(f:uD ts i= .inr a):a=(i+1,aN ts i)/\i+1<ts.length/\(aN ts i).1=3/\oA (aN ts i).2.1=true:=by
 obtain⟨b,g,c⟩:=cQ f
 obtain⟨rfl,d,e⟩:=tY h (by decide) hi g
 split at c
 .rename_i g3
  obtain rfl:=Sum.inr.inj c
  exact⟨rfl,d,e,g3⟩
 cases c
theorem WX{t:bP}{x:Ex}{p q:Ps}{i:Nat}(h:iI t x p= .inr (q,i)):q=(p.1,p.2++[x])/\i=p.2.length/\p.2.length≠256:=by
 unfold iI at h
 split at h
 .cases h
 rename_i h1
 obtain⟨rfl,rfl⟩:=Prod.mk.inj (Sum.inr.inj h)
 exact⟨rfl,rfl,h1⟩
def DI(ts:List bP)(p q:Ps):Prop:=p.1<q.1/\q.1<ts.length/\p.2.length<=q.2.length/\q.2.length<=256
def iP(ts:List bP)(S:Ps->PM Nat):Prop:=∀(p q:Ps) (x:Nat),p.1<ts.length->p.2.length<=256->S p= .inr (q,x)->DI ts p q/\x<q.2.length
theorem tX{t:bP}{x:Ex}{p r q:Ps}{i:Nat}(b:p.1<r.1)(c:r.1<ts.length)(d:p.2.length<=r.2.length)(a:r.2.length<=256)(h:iI t x r= .inr (q,i)):DI ts p q/\i<q.2.length:=by
 obtain⟨rfl,rfl,g⟩:=WX h
 refine⟨⟨b,c,?_,?_⟩,?_⟩<;>simp only[jC,jD,jE]<;>omega
theorem NO(h:OkT ts)(f:iP ts E):∀(n:Nat) (l:List Int) (p q:Ps) (x:List Int),p.1<ts.length->p.2.length<=256->rU ts E n l p= .inr (q,x)->DI ts p q
 |0,_,_,_,_,_,_,b=>by cases b
 |n+1,l,p,q,x,v,t,b=>by
  obtain⟨a,s,c⟩:=cQ (show bG (E p) _=_ from b)
  obtain⟨⟨D,d,k,e⟩,F⟩:=f p a.1 a.2 v t s
  split at c
  .rename_i hc
   have g:=iX h d (by decide) hc
   obtain⟨y,z,A,B⟩:=NO h f n _ (a.1.1+1,a.1.2) q x g e c
   exact⟨by simp only at y;omega,z,by simp only at A;omega,B⟩
  obtain⟨j,u,r⟩:=cQ c
  obtain⟨rfl,o,-⟩:=iR h d u
  obtain⟨rfl,-⟩:=Prod.mk.inj (Sum.inr.inj r)
  exact⟨by simp only;omega,o,k,e⟩
theorem SB(h:OkT ts)(e:iP ts E){p q:Ps}{x:List Int}(f:p.1<ts.length)(c:p.2.length<=256)(d:sK ts E p= .inr (q,x)):DI ts p q:=by
 obtain⟨i,hi,a⟩:=cQ d
 obtain⟨rfl,b,-⟩:=iR h f hi
 split at a
 .rename_i hc
  obtain⟨rfl,-⟩:=Prod.mk.inj (Sum.inr.inj a)
  exact⟨by simp only;omega,iX h b (by decide) hc,jP _,c⟩
 obtain⟨g,k,l,n⟩:=NO h e _ _ (p.1+1,p.2) q x b c a
 exact⟨by simp only at g;omega,k,l,n⟩
theorem qEf(h:OkT ts)(K:iP ts E){t:bP}{p q:Ps}{x:Nat}(R:p.1<ts.length)(n:p.2.length<=256)(D:pI ts E t p= .inr (q,x)):DI ts p q/\x<q.2.length:=by
 obtain⟨i,hi,F⟩:=cQ D
 obtain⟨rfl,l,-⟩:=iR h R hi
 obtain⟨a,g,G⟩:=cQ F
 obtain⟨j,M,H⟩:=cQ G
 have key:DI ts (p.1+1,p.2) a.1:=by
  split at g
  .obtain⟨b,f,e⟩:=cQ g
   obtain⟨rfl,k,-⟩:=qW h l f
   obtain⟨c,y,z⟩:=cQ e
   obtain⟨rfl,S,-⟩:=iR h k y
   obtain⟨d,A,B⟩:=cQ z
   obtain⟨⟨o,s,u,v⟩,-⟩:=K (p.1+1+1+1,p.2) d.1 d.2 S n A
   obtain rfl:=Sum.inr.inj B
   exact⟨by simp only at o ⊢;omega,s,u,v⟩
  split at g
  .obtain⟨b,f,e⟩:=cQ g
   obtain⟨rfl,k,-⟩:=qW h l f
   obtain rfl:=Sum.inr.inj e
   exact⟨by simp only;omega,k,jP _,n⟩
  split at g
  .obtain⟨b,f,e⟩:=cQ g
   obtain⟨rfl,k,-⟩:=qW h l f
   obtain rfl:=Sum.inr.inj e
   exact⟨by simp only;omega,k,jP _,n⟩
  split at g
  .obtain⟨b,f,e⟩:=cQ g
   obtain⟨rfl,k,-⟩:=UT h l f
   obtain rfl:=Sum.inr.inj e
   exact⟨by simp only;omega,k,jP _,n⟩
  obtain⟨b,f,e⟩:=cQ g
  obtain⟨rfl,k,-⟩:=tY h (by decide) l f
  split at e
  .cases e
  obtain rfl:=Sum.inr.inj e
  exact⟨by simp only;omega,k,jP _,n⟩
 obtain⟨o,s,u,v⟩:=key
 obtain⟨rfl,e,-⟩:=iR h s M
 exact tX (r:=(a.1.1+1,a.1.2)) (by simp only at o ⊢;omega) e u v H
theorem MX(h:OkT ts)(u:iP ts E):iP ts (oV ts params E):=by
 intro p q x o c b
 unfold oV at b
 dsimp only at b
 split at b
 .rename_i hk
  exact tX (r:=(p.1+1,p.2)) (by simp only;omega) (h.next o (by rw[hk];decide)) (jP _) c b
 split at b
 .rename_i hc
  have g:=iX h o (by decide) hc
  obtain⟨a,n,l⟩:=cQ b
  obtain⟨rfl,t,-⟩:=tY h (by decide) g n
  exact tX (r:=(p.1+1+1,p.2)) (by simp only;omega) t (jP _) c l
 split at b
 .rename_i hc
  have g:=iX h o (by decide) hc
  obtain⟨a,n,l⟩:=cQ b
  obtain⟨⟨d,e,f,k⟩,s⟩:=u (p.1+1,p.2) a.1 a.2 g c n
  obtain⟨j,y,v⟩:=cQ l
  obtain⟨rfl,t,-⟩:=iR h e y
  obtain⟨rfl,rfl⟩:=Prod.mk.inj (Sum.inr.inj v)
  exact⟨⟨by simp only at d ⊢;omega,t,f,k⟩,s⟩
 split at b
 .cases b
 rename_i hk
 have g:=h.next o (show(aN ts p.1).1≠5 by simp only[ne_eq,Decidable.not_not] at hk;rw[hk];decide)
 split at b
 .obtain⟨⟨d,e,f,k⟩,s⟩:=qEf h u (p:=(p.1+1,p.2)) g c b
  exact⟨⟨by simp only at d;omega,e,f,k⟩,s⟩
 split at b
 .cases b
 split at b
 .obtain⟨a,n,l⟩:=cQ b
  obtain⟨d,e,f,k⟩:=SB h u (p:=(p.1+1,p.2)) g c n
  exact tX (by simp only at d;omega) e f k l
 split at b
 .exact tX (r:=(p.1+1,p.2)) (by simp only;omega) g (jP _) c b
 cases b
theorem UY(h:OkT ts){level:Nat}(d:iP ts S):∀(n x:Nat) (p q:Ps) (y:Nat),p.1<ts.length->p.2.length<=256->x<p.2.length->mQ ts level S n x p= .inr (q,y)->p.1<=q.1/\q.1<ts.length/\p.2.length<=q.2.length/\q.2.length<=256/\y<q.2.length
 |0,_,_,_,_,_,_,_,b=>by cases b
 |n+1,x,p,q,y,k,e,F,b=>by
  unfold mQ at b
  split at b
  .obtain⟨rfl,rfl⟩:=Prod.mk.inj (Sum.inr.inj b)
   exact⟨jP _,k,jP _,e,F⟩
  rename_i hop
  have f:(aN ts p.1).1≠5:=by
   intro f
   apply hop
   unfold lC
   have:opsC.find? (nU ts level p.1)=none:=by
    rw[List.find?_eq_none]
    intro o _ c
    simp only[nU,jK] at c
    have:=KD c.1
    omega
   rw[this]
  have g:=h.next k f
  obtain⟨a,D,B⟩:=cQ b
  obtain⟨⟨u,v,z,A⟩,R⟩:=d (p.1+1,p.2) a.1 a.2 g e D
  obtain⟨r,E,c⟩:=cQ B
  obtain⟨⟨Y,l,M,s⟩,t⟩:=tX (ts:=ts) (p:=p) (by simp only at u;omega) v z A E
  split at c
  .obtain⟨rfl,rfl⟩:=Prod.mk.inj (Sum.inr.inj c)
   exact⟨by omega,l,M,s,t⟩
  obtain⟨U,G,V,H,K⟩:=UY h d n _ _ q y l s t c
  exact⟨by omega,G,by omega,H,K⟩
theorem yM(h:OkT ts){level:Nat}(b:iP ts S):iP ts (oW ts level S):=by
 intro p q x n l f
 obtain⟨a,k,g⟩:=cQ f
 obtain⟨⟨t,c,u,d⟩,e⟩:=b p a.1 a.2 n l k
 obtain⟨v,o,y,r,s⟩:=UY h b _ _ _ q x c d e g
 exact⟨⟨by omega,o,by omega,r⟩,s⟩
theorem sM(h:OkT ts):∀k,iP ts (dL ts params k)
 |0=>fun _ _ _ _ _ d=>by cases d
 |k+1=>by
  intro p q x n e d
  unfold dL at d
  split at d
  .rename_i hc
   have g:=iX h n (by decide) hc
   obtain⟨a,U,H⟩:=cQ d
   obtain⟨⟨o,r,s,t⟩,-⟩:=sM h k (p.1+1,p.2) a.1 a.2 g e U
   obtain⟨i,hi,K⟩:=cQ H
   obtain⟨rfl,F,-⟩:=CC h r hi
   obtain⟨b,f,M⟩:=cQ K
   obtain⟨⟨u,v,y,z⟩,-⟩:=sM h k (a.1.1+1,a.1.2) b.1 b.2 F t f
   obtain⟨j,V,R⟩:=cQ M
   obtain⟨rfl,G,-⟩:=CC h v V
   obtain⟨c,l,S⟩:=cQ R
   obtain⟨⟨A,B,D,E⟩,-⟩:=sM h k (b.1.1+1,b.1.2) c.1 c.2 G z l
   simp only at o s u y A D
   exact tX (by omega) B (by omega) E S
  exact yM h (yM h (yM h (MX h (sM h k)))) p q x n e d
end
theorem YV{ts:List bP}{i:Nat}(hi:i<ts.length):idx ts (i:Int)=some (aN ts i):=by
 rw[dX hi]
 simp[aN,kO,hi]
theorem mC{i:Nat}(h:i<1000000):IntKind.wrap .i64 ((i:Int)+1)=((i+1:Nat):Int):=by rw[bQ (by omega) (by omega)];omega
section
variable {N:Nat} {ts:List bP} {pr:List BA} {b:List Ex} {i:Nat}
theorem qX(hi:i<ts.length):oQ N (ts,(i:Int),pr,b)=some ((ts,(i:Int),pr,b),aN ts i):=by
 simp only[oQ,YV hi,j0]
theorem CR(hi:i<ts.length)(k:Int)(s:BA):sG N (ts,(i:Int),pr,b) k s=some ((ts,(i:Int),pr,b),bT ts k s i):=by
 simp only[sG,qX hi,j0,iQ,bT]
 cases h:(aN ts i).1==k<;>simp[h]
theorem PQ(hi:i<ts.length)(a:ts.length<1000000)(s:BA):xU N (ts,(i:Int),pr,b) s=some (Sum.map id (fun j:Nat=>(ts,(j:Int),pr,b)) (qK ts s i)):=by
 simp only[xU,CR hi,qX hi,j0,iK,qK]
 cases h:bT ts 1 s i
 .simp[dO]
 simp[mC (show i<1000000 by omega)]
theorem qY(hi:i<ts.length)(a:ts.length<1000000)(s:BA):mY N (ts,(i:Int),pr,b) s=some (Sum.map id (fun j:Nat=>(ts,(j:Int),pr,b)) (cS ts s i)):=by
 simp only[mY,CR hi,qX hi,j0,iK,cS]
 cases h:bT ts 4 s i
 .simp[dO]
 simp[mC (show i<1000000 by omega)]
theorem CA(hi:i<ts.length)(a:ts.length<1000000)(s:BA):sF N (ts,(i:Int),pr,b) s=some (if bT ts 4 s i then((ts,((i+1:Nat):Int),pr,b),true) else((ts,(i:Int),pr,b),false)):=by
 simp only[sF,CR hi,j0]
 cases h:bT ts 4 s i
 .simp
 simp[mC (show i<1000000 by omega)]
theorem GN(hi:i<ts.length)(f:ts.length<1000000){k:Int}(e:k≠5):tO N (ts,(i:Int),pr,b) k=some (Sum.map id (fun a:Nat×bP=>((ts,(a.1:Int),pr,b),a.2)) (lB ts k i)):=by
 simp only[tO,qX hi,j0,iK,lB]
 have d:(k !=5)=true:=by simpa using e
 by_cases h:(aN ts i).1=k
 .have c:((aN ts i).1 !=k)=false:=by simp[h]
  simp only[c,d,jB,jF,jH,j0,if_pos h,mC (show i<1000000 by omega),kJ]
 have c:((aN ts i).1 !=k)=true:=by simp[h]
 simp only[c,jH,j0,if_neg h,dO,Sum.map_inl,id]
theorem orS(a b:Bool):(if a=true then some a else some b)=some (a||b):=by
 cases a<;>simp
theorem qNi(b:Bool):(if b=true then some true else some false)=some b:=by cases b<;>simp
theorem MW(s:BA):xX N s=some (rF s):=by
 simp only[xX,iQ,rF,wordsR,GH,yV,HC,HB,HP,HW,HD,HG,oB,nZ,oD,oC,oZ,jV,fA,or_false]
 simp only[orS,j0,qNi,jI]
 simp only[Bool.decide_or]
theorem KN(hi:i<ts.length)(c:ts.length<1000000):tN N (ts,(i:Int),pr,b)=some (Sum.map id (fun a:Nat×bP=>((ts,(a.1:Int),pr,b),a.2)) (lA ts i)):=by
 simp only[tN,GN hi c (show(1:Int)≠5 by decide),j0,iK,lA]
 cases h:lB ts 1 i with
 |inl z=>simp[bG]
 |inr a=>
  simp only[kJ,MW,j0,bG]
  cases h2:rF a.2.2.1<;>simp[dO]
theorem KT(hi:i<ts.length)(d:ts.length<1000000)(g:300000<N)(f:∀j,(aN ts j).2.1.size<100000):tL N (ts,(i:Int),pr,b)=some (Sum.map id (fun a:Nat×bP=>((ts,(a.1:Int),pr,b),a.2)) (lT ts i)):=by
 simp only[tL,GN hi d (show(3:Int)≠5 by decide),j0,iK,lT]
 cases h:lB ts 3 i with
 |inl z=>simp[bG]
 |inr a=>
  have c:a.2=aN ts i:=by
   unfold lB at h
   split at h
   .rw[<-Sum.inr.inj h]
   cases h
  have e:=f i
  rw[<-c] at e
  simp only[kJ,OY (N:=N) (s:=a.2.2.1) (by omega) (by omega),j0,bG]
  cases h2:lM a.2.2.1.data.toList<;>simp[dO]
theorem yW(t:bP)(x:Ex)(d:b.length<=256)(n:Nat):qU N (ts,(n:Int),pr,b) t x=some (Sum.map id (fun q:Ps×Nat=>((ts,(q.1.1:Int),pr,q.1.2),(q.2:Int))) (iI t x (n,b))):=by
 simp only[qU,iK,j0,iI]
 by_cases h:b.length=256
 .simp[h,dO]
 have a:((b.length:Int)==256)=false:=by simp;omega
 have c:IntKind.wrap .i64 (((b.length+1:Nat):Int)-1)=(b.length:Int):=by rw[bQ (by omega) (by omega)];omega
 simp only[a,jB,jF,j0,if_neg h,kJ]
 rw[lU (by simp only[jD,jE];omega) (by omega)]
 simp only[j0,jC,jD,jE,kF,c]
end
theorem TP{N:Nat}{s:BA}{l:List BA}(a:l.length<1000000):∀(d i M:Nat),i+d=l.length->d<M->
  aI (tE N l s) M (i:Int)=some (match(l.drop i).findIdx? (fun x=>decide (x=s)) with|some j=> .inr (((i+j:Nat):Int))|none=> .inl ())
 |d,i,0,_,h=>by omega
 |0,i,M+1,h,_=>by
  have:l.drop i=[]:=jM (by omega)
  simp only[aI,tE,this,List.findIdx?_nil]
  rw[if_neg (by simp only[jA];omega)]
  rfl
 |d+1,i,M+1,h,c=>by
  have hi:i<l.length:=by omega
  have b:=TP (N:=N) (s:=s) a d (i+1) M (by omega) (by omega)
  simp only[aI,tE]
  rw[if_pos (by simp only[jA];omega),dX hi,jN hi,List.findIdx?_cons]
  simp only[j0,iQ,jA]
  by_cases hs:l[i]=s
  .rw[if_pos hs.symm,if_pos hs];simp
  rw[if_neg (fun e=>hs e.symm),if_neg hs]
  simp only[j0,mC (show i<1000000 by omega),b]
  cases(l.drop (i+1)).findIdx? (fun x=>decide (x=s)) with
  |none=>rfl
  |some j=>simp only[kP];congr 2;omega
theorem WQ{N:Nat}{s:BA}{l:List BA}(b:l.length<1000000)(a:l.length<N):
  wU N l s=some (match l.findIdx? (fun x=>decide (x=s)) with|some j=>(j:Int)|none=> -1):=by
 have h:=TP (N:=N) (s:=s) b l.length 0 N (by omega) a
 simp only[jT,kF] at h
 simp only[wU]
 rw[show(0:Int)=((0:Nat):Int) from rfl,h]
 simp only[j0]
 cases l.findIdx? (fun x=>decide (x=s))<;>rfl
theorem qFk{s:BA}{l:List BA}:(l.findIdx? (fun x=>decide (x=s))).isSome=decide (s∈l):=by
 rw[List.findIdx?_isSome]
 rw[kC]
 simp only[fH,jA]
 exact⟨fun⟨x,a,b⟩=>b▸a,fun h=>⟨s,h,rfl⟩⟩
theorem TA{N:Nat}{s:BA}{l:List BA}(b:l.length<1000000)(a:l.length<N):
  sB N l s=some (decide (s∈l)):=by
 simp only[sB,WQ b a,j0,<-qFk]
 cases l.findIdx? (fun x=>decide (x=s)) with
 |none=>rfl
 |some j=>simp only[Option.isSome_some];rw[jU (show(j:Int)>=0 by omega)]
theorem qHw{α:Type}{g:α->Bool}{l k:List α}(n:∀a∈l,∀b∈l,g a=true->g b=true->a=b)(d:k.Perm l):k.find? g=l.find? g:=by
 cases h:l.find? g with
 |none=>
  rw[List.find?_eq_none] at h ⊢
  exact fun x c=>h x (d.mem_iff.1 c)
 |some a=>
  have e:=fL h
  have f:=List.find?_some h
  cases c:k.find? g with
  |none=>exact absurd f (by simpa using List.find?_eq_none.1 c a (d.mem_iff.2 e))
  |some b=>rw[n b (d.mem_iff.1 (fL c)) a e (List.find?_some c) f]
theorem qKd:∀a∈opsC,∀b∈opsC,a.2=b.2->a=b:=by
 have h:(opsC.all fun a=>opsC.all fun b=> !(decide (a.2=b.2))||decide (a=b))=true:=by kernel_rfl
 intro a c b d e
 have:=jW.1 (jW.1 h a c) b d
 simpa[e] using this
section
variable {N:Nat} {ts:List bP} {pr:List BA} {b:List Ex} {i:Nat}
theorem qJy(op:Int):yB N op=some ((uQ op:Nat):Int):=by
 by_cases h1:op=6
 .subst h1;rfl
 by_cases h2:op=7
 .subst h2;rfl
 by_cases h3:op=1
 .subst h3;rfl
 by_cases h4:op=2
 .subst h4;rfl
 simp[yB,uQ,h1,h2,h3,h4]
theorem YM(level:Nat){t:bP}(a:t=aN ts i):∀k:List (Int×BA),lW (uX N (level:Int) ((ts,(i:Int),pr,b),t)) k ()=
  some (match k.find? (nU ts level i) with|some o=> .inr ((ts,(i:Int),pr,b),o.1)|none=> .inl ())
 |[]=>rfl
 |o::k=>by
  have key:uX N (level:Int) ((ts,(i:Int),pr,b),t) (some o) ()=some (if nU ts level i o then .inr (.inr ((ts,(i:Int),pr,b),o.1)) else .inl ()):=by
   subst a
   simp only[uX,qJy,j0,iQ,nU,bT]
   have c:(((uQ o.1:Nat):Int)==(level:Int))=decide (uQ o.1=level):=by
    rw[kC];simp only[kD,jA];omega
   rw[c]
   by_cases h1:(aN ts i).1=4<;>by_cases h2:(aN ts i).2.1=o.2<;>by_cases h3:uQ o.1=level<;>simp[h1,h2,h3]
  simp only[lW,key,j0,List.find?_cons]
  cases h:nU ts level i o with
  |true=>rfl
  |false=>exact YM level a k
theorem qJl:BN N=some (some opsC):=by kernel_rfl
theorem qFm(hi:i<ts.length)(level:Nat):EN N (ts,(i:Int),pr,b) (level:Int)=some ((ts,(i:Int),pr,b),lC ts level i):=by
 simp only[EN,qX hi,qJl,j0,isQ,kP,Option.getD_some]
 have h:∀a∈opsC,∀b∈opsC,nU ts level i a=true->nU ts level i b=true->a=b:=by
  intro a e b g c d
  simp only[nU,bT,jK,jA] at c d
  exact qKd a e b g (c.1.2.symm.trans d.1.2)
 have key:=VH (f:=uX N (level:Int) ((ts,(i:Int),pr,b),aN ts i)) (l:=opsC) (s:=()) fun k c=>by
  rw[YM level rfl k,qHw h c]
 rw[key]
 unfold lC
 cases opsC.find? (nU ts level i)<;>rfl
end
abbrev iU:=List bP×Int×List BA×List Ex
def dT(ts:List bP)(pr:List BA)(p:Ps):iU:=(ts,(p.1:Int),pr,p.2)
def iF(ts:List bP)(pr:List BA):PM Nat->bU⊕(iU×Int):=Sum.map id fun q=>(dT ts pr q.1,(q.2:Int))
def DB(ts:List bP)(pr:List BA):PM (List Int)->bU⊕(iU×List Int):=Sum.map id fun q=>(dT ts pr q.1,q.2)
section
variable {N:Nat} {ts:List bP} {pr:List BA} {E S:Ps->PM Nat} {d:Int}
variable {r1:iU->bP->Int->Option (bU⊕(iU×Int))} {r2:iU->Int->Option (bU⊕(iU×List Int))} {r3:iU->Int->Option (bU⊕(iU×Int))} {r4:iU->Int->Int->Option (bU⊕(iU×Int))} {r5:iU->Int->Option (bU⊕(iU×Int))}
theorem UO(k:OkT ts)(r:ts.length<1000000)(t:iP ts E)(u:∀p:Ps,p.1<ts.length->p.2.length<=256->r5 (dT ts pr p) (IntKind.wrap .i64 (d+1))=some (iF ts pr (E p))):
  ∀(n M:Nat) (l:List Int) (p:Ps),p.1<ts.length->p.2.length<=256->l.length<=p.1->ts.length<p.1+n->ts.length<p.1+M->
  ((aI (DT N r5 d) M (l,ts,(p.1:Int),pr,p.2)).bind fun s=>(match s with| .inl a=>(mY N (a.2.1,a.2.2.1,a.2.2.2.1,a.2.2.2.2) (⟨#[41]⟩:BA)).bind fun A=>(match A with| .inl B=>some (.inl B)| .inr e=>some (.inr ((e.1,e.2.1,e.2.2.1,e.2.2.2),a.1)))| .inr (z)=>some z))=some (DB ts pr (rU ts E n l p))
 |0,M,l,p,c,_,_,h,_=>by omega
 |n+1,0,l,p,c,_,_,_,h=>by omega
 |n+1,M+1,l,p,c,v,D,R,K=>by
  have f:=u p c v
  simp only[dT] at f
  simp only[aI,DT,rU,f,j0]
  cases hq:E p with
  |inl z=>simp only[iF,Sum.map_inl,id,bG,DB,j0]
  |inr q=>
   obtain⟨⟨F,o,G,x⟩,H⟩:=t p q.1 q.2 c v hq
   simp only[iF,kJ,bG,dT]
   rw[lU (by simp only[jD,jE];omega) (by omega)]
   simp only[j0,CA o r,oM]
   rcases eA (bT ts 4 ⟨#[44]⟩ q.1.1) with b|b
   .have g:=iX k o (by decide) b
    have y:=UO k r t u n M (l++[(q.2:Int)]) (q.1.1+1,q.1.2) g x (by simp only[jC,jD,jE];omega) (by simp only;omega) (by simp only;omega)
    simp only[b,jH,kI,jB,jF,j0]
    exact y
   simp only[b,jB,jF,kH,jH,j0,qY o r,iM]
   cases cS ts ⟨#[41]⟩ q.1.1 with
   |inl z=>rfl
   |inr j=>rfl
theorem qFd(a:OkT ts)(c:ts.length<1000000)(n:ts.length<N)(f:iP ts E)(k:∀p:Ps,p.1<ts.length->p.2.length<=256->r5 (dT ts pr p) (IntKind.wrap .i64 (d+1))=some (iF ts pr (E p)))
  (p:Ps) (e:p.1<ts.length) (l:p.2.length<=256):DW N r1 r2 r3 r4 r5 (dT ts pr p) d=some (DB ts pr (sK ts E p)):=by
 simp only[DW,dT,qY e c,j0,sK,mM]
 cases h:cS ts ⟨#[40]⟩ p.1 with
 |inl z=>rfl
 |inr i=>
  obtain⟨rfl,g,-⟩:=iR a e h
  simp only[kJ,bG,CA g c,j0,iM]
  rcases eA (bT ts 4 ⟨#[41]⟩ (p.1+1)) with b|b
  .simp only[b,jH];rfl
  simp only[b,jB,jF]
  exact UO a c f k (ts.length+1) N [] (p.1+1,p.2) g l (by simp) (by simp only;omega) (by simp only;omega)
theorem qHv(c:OkT ts)(f:ts.length<1000000)(n:300000<N)(o:∀j,(aN ts j).2.1.size<100000)(A:iP ts E)(B:∀p:Ps,p.1<ts.length->p.2.length<=256->r5 (dT ts pr p) (IntKind.wrap .i64 (d+1))=some (iF ts pr (E p)))
  (t:bP) (p:Ps) (s:p.1<ts.length) (l:p.2.length<=256):EE N r1 r2 r3 r4 r5 (dT ts pr p) t d=some (iF ts pr (pI ts E t p)):=by
 have fin:∀(b:Int×Int×BA×List Int×iU) (q:Ps) (x:Ex),b.2.2.2.2=dT ts pr q->x=(b.1,b.2.1,0,b.2.2.1,b.2.2.2.1)->q.1<ts.length->q.2.length<=256->
   ((mY N (b.2.2.2.2.1,b.2.2.2.2.2.1,b.2.2.2.2.2.2.1,b.2.2.2.2.2.2.2) (⟨#[41]⟩:BA)).bind fun r=>(match r with| .inl v=>some (.inl v)| .inr k=>(qU N (k.1,k.2.1,k.2.2.1,k.2.2.2) (t.1,t.2.1,t.2.2.1,t.2.2.2) (b.1,b.2.1,0,b.2.2.1,b.2.2.2.1)).bind fun u=>(match u with| .inl y=>some (.inl y)| .inr e=>some (.inr ((e.1.1,e.1.2.1,e.1.2.2.1,e.1.2.2.2),e.2)))))=
   some (iF ts pr (bG (cS ts iM q.1) fun i=>iI t x (i,q.2))):=by
  intro b q x k u r e
  subst u
  rw[k]
  simp only[dT,qY r f,j0,iM]
  cases hj:cS ts ⟨#[41]⟩ q.1 with
  |inl z=>rfl
  |inr j=>
   simp only[kJ,bG,yW _ _ e,j0]
   cases iI t (b.1,b.2.1,0,b.2.2.1,b.2.2.2.1) (j,q.2)<;>rfl
 simp only[EE,dT,qY s f,j0,pI,mM]
 cases h:cS ts ⟨#[40]⟩ p.1 with
 |inl z=>rfl
 |inr i=>
  obtain⟨rfl,g,-⟩:=iR c s h
  simp only[kJ,bG,iQ,jA]
  by_cases k1:t.2.1=oB
  .rw[if_pos (show t.2.1=(⟨#[114,101,97,100]⟩:BA) from k1),if_pos k1]
   simp only[KT g f n o,j0]
   cases h1:lT ts (p.1+1) with
   |inl z=>rfl
   |inr a=>
    obtain⟨rfl,e,-⟩:=qW c g h1
    simp only[kJ,qY e f,j0,oM]
    cases h2:cS ts ⟨#[44]⟩ (p.1+1+1) with
    |inl z=>rfl
    |inr j=>
     obtain⟨rfl,r,-⟩:=iR c e h2
     have k:=B (p.1+1+1+1,p.2) r l
     simp only[dT] at k
     simp only[kJ,k,j0]
     cases h3:E (p.1+1+1+1,p.2) with
     |inl z=>rfl
     |inr q=>
      obtain⟨⟨y,u,D,v⟩,F⟩:=A (p.1+1+1+1,p.2) q.1 q.2 r l h3
      exact fin (6,0,(aN ts (p.1+1)).2.1,[(q.2:Int)],ts,(q.1.1:Int),pr,q.1.2) q.1 _ rfl rfl u v
  rw[if_neg (show ¬t.2.1=(⟨#[114,101,97,100]⟩:BA) from k1),if_neg k1]
  by_cases k2:t.2.1=nZ
  .rw[if_pos (show t.2.1=(⟨#[115,105,122,101]⟩:BA) from k2),if_pos k2]
   simp only[KT g f n o,j0]
   cases h1:lT ts (p.1+1) with
   |inl z=>rfl
   |inr a=>
    obtain⟨rfl,e,-⟩:=qW c g h1
    exact fin (7,0,(aN ts (p.1+1)).2.1,[],ts,((p.1+1+1:Nat):Int),pr,p.2) (p.1+1+1,p.2) _ rfl rfl e l
  rw[if_neg (show ¬t.2.1=(⟨#[115,105,122,101]⟩:BA) from k2),if_neg k2]
  by_cases k3:t.2.1=oD
  .rw[if_pos (show t.2.1=(⟨#[104,97,115]⟩:BA) from k3),if_pos k3]
   simp only[KT g f n o,j0]
   cases h1:lT ts (p.1+1) with
   |inl z=>rfl
   |inr a=>
    obtain⟨rfl,e,-⟩:=qW c g h1
    exact fin (8,0,(aN ts (p.1+1)).2.1,[],ts,((p.1+1+1:Nat):Int),pr,p.2) (p.1+1+1,p.2) _ rfl rfl e l
  rw[if_neg (show ¬t.2.1=(⟨#[104,97,115]⟩:BA) from k3),if_neg k3]
  by_cases k4:t.2.1=oC
  .rw[if_pos (show t.2.1=(⟨#[101,110,118]⟩:BA) from k4),if_pos k4]
   simp only[GN g f (show(3:Int)≠5 by decide),j0,uD]
   cases h1:lB ts 3 (p.1+1) with
   |inl z=>rfl
   |inr a=>
    obtain⟨rfl,e,-⟩:=tY c (by decide) g h1
    simp only[kJ,PJ (N:=N) (by omega),j0,bG,iK]
    cases h2:oA (aN ts (p.1+1)).2.1 with
    |false=>rfl
    |true=>exact fin (9,0,(aN ts (p.1+1)).2.1,[],ts,((p.1+1+1:Nat):Int),pr,p.2) (p.1+1+1,p.2) _ rfl rfl e l
  rw[if_neg (show ¬t.2.1=(⟨#[101,110,118]⟩:BA) from k4),if_neg k4]
  simp only[GN g f (show(2:Int)≠5 by decide),j0]
  cases h1:lB ts 2 (p.1+1) with
  |inl z=>rfl
  |inr a=>
   obtain⟨rfl,e,-⟩:=tY c (by decide) g h1
   simp only[kJ,iK,j0]
   by_cases h2:(aN ts (p.1+1)).2.2.1>=64
   .simp only[if_pos h2,j0];rfl
   simp only[if_neg h2,j0]
   exact fin (10,(aN ts (p.1+1)).2.2.1,⟨#[]⟩,[],ts,((p.1+1+1:Nat):Int),pr,p.2) (p.1+1+1,p.2) _ rfl rfl e l
end
section
variable {N:Nat} {ts:List bP} {pr:List BA} {E S:Ps->PM Nat} {d:Int}
variable {r1:iU->bP->Int->Option (bU⊕(iU×Int))} {r2:iU->Int->Option (bU⊕(iU×List Int))} {r3:iU->Int->Option (bU⊕(iU×Int))} {r4:iU->Int->Int->Option (bU⊕(iU×Int))} {r5:iU->Int->Option (bU⊕(iU×Int))}
theorem qMx(x:BA):(decide (x=(⟨#[114,101,97,100]⟩:BA))||(decide (x=(⟨#[115,105,122,101]⟩:BA))||(decide (x=(⟨#[104,97,115]⟩:BA))||(decide (x=(⟨#[101,110,118]⟩:BA))||decide (x=(⟨#[102,108,105,112]⟩:BA))))))=decide (x∈[oB,nZ,oD,oC,oZ]):=by
 simp only[oB,nZ,oD,oC,oZ,jV,fA,or_false,Bool.decide_or]
theorem qJt(c:OkT ts)(o:ts.length<1000000)(K:pr.length<1000)(M:300000<N)(y:iP ts E)(H:∀p:Ps,p.1<ts.length->p.2.length<=256->r5 (dT ts pr p) (IntKind.wrap .i64 (d+1))=some (iF ts pr (E p)))
  (F:∀(t:bP) (p:Ps),p.1<ts.length->p.2.length<=256->r1 (dT ts pr p) t d=some (iF ts pr (pI ts E t p)))
  (G:∀p:Ps,p.1<ts.length->p.2.length<=256->r2 (dT ts pr p) d=some (DB ts pr (sK ts E p)))
  (p:Ps) (k:p.1<ts.length) (b:p.2.length<=256):EM N r1 r2 r3 r4 r5 (dT ts pr p) d=some (iF ts pr (oV ts pr E p)):=by
 have A:=mC (show p.1<1000000 by omega)
 simp only[EM,dT,qX k,j0,oV]
 by_cases k1:(aN ts p.1).1=2
 .rw[if_pos (show((aN ts p.1).1==2)=true by simpa using k1),if_pos k1,A]
  simp only[yW _ _ b,j0]
  cases iI (aN ts p.1) (1,(aN ts p.1).2.2.1,0,⟨#[]⟩,[]) (p.1+1,p.2)<;>rfl
 rw[if_neg (show ¬((aN ts p.1).1==2)=true by simpa using k1),if_neg k1]
 simp only[CA k o,j0]
 rcases eA (bT ts 4 QE p.1) with e|e
 .have c1':bT ts 4 ⟨#[45]⟩ p.1=true:=e
  have g:=iX c k (by decide) e
  simp only[e,c1',jH,GN g o (show(2:Int)≠5 by decide),j0]
  cases h:lB ts 2 (p.1+1) with
  |inl z=>rfl
  |inr a=>
   simp only[kJ,bG,yW _ _ b,j0]
   cases iI (aN ts p.1) (1,IntKind.wrap .i64 (0-a.2.2.2.1),0,⟨#[]⟩,[]) (a.1,p.2)<;>rfl
 have c1':bT ts 4 ⟨#[45]⟩ p.1=false:=e
 simp only[e,c1',jB,jF,CA k o,j0]
 rcases eA (bT ts 4 mM p.1) with f|f
 .have c2':bT ts 4 ⟨#[40]⟩ p.1=true:=f
  have g:=iX c k (by decide) f
  have n:=H (p.1+1,p.2) g b
  simp only[dT] at n
  simp only[f,c2',jH,n,j0]
  cases h:E (p.1+1,p.2) with
  |inl z=>rfl
  |inr q=>
   obtain⟨⟨B,u,D,v⟩,r⟩:=y (p.1+1,p.2) q.1 q.2 g b h
   simp only[iF,kJ,bG,dT,qY u o,j0,iM]
   cases cS ts ⟨#[41]⟩ q.1.1<;>rfl
 have c2':bT ts 4 ⟨#[40]⟩ p.1=false:=f
 simp only[f,c2',jB,jF,iK,j0]
 by_cases k2:(aN ts p.1).1=1
 rotate_left
 .rw[if_pos (show((aN ts p.1).1 !=1)=true by simpa using k2),if_pos k2];rfl
 rw[if_neg (show ¬((aN ts p.1).1 !=1)=true by simpa using k2),if_neg (show ¬(aN ts p.1).1≠1 by simpa using k2)]
 have g:=c.next k (show(aN ts p.1).1≠5 by rw[k2];decide)
 simp only[j0,iQ,orS,qMx,A]
 by_cases k3:(aN ts p.1).2.1∈[oB,nZ,oD,oC,oZ]
 .rw[if_pos (show decide ((aN ts p.1).2.1∈[oB,nZ,oD,oC,oZ])=true from jU k3),if_pos k3]
  have h1p:=F (aN ts p.1) (p.1+1,p.2) g b
  simp only[dT] at h1p
  simp only[h1p,j0]
  cases pI ts E (aN ts p.1) (p.1+1,p.2)<;>rfl
 rw[if_neg (show ¬decide ((aN ts p.1).2.1∈[oB,nZ,oD,oC,oZ])=true by simpa using k3),if_neg k3]
 simp only[MW,j0]
 rcases eA (rF (aN ts p.1).2.1) with r|r
 .simp only[r,jH,j0];rfl
 simp only[r,jB,jF,j0,CR g]
 rcases eA (bT ts 4 mM (p.1+1)) with n|n
 .have c4':bT ts 4 ⟨#[40]⟩ (p.1+1)=true:=n
  have h2p:=G (p.1+1,p.2) g b
  simp only[dT] at h2p
  simp only[n,c4',jH,h2p,j0]
  cases h:sK ts E (p.1+1,p.2) with
  |inl z=>rfl
  |inr q=>
   obtain⟨B,u,D,v⟩:=SB c y (p:=(p.1+1,p.2)) g b h
   simp only[DB,kJ,bG,dT,yW _ _ v,j0]
   cases iI (aN ts p.1) (3,0,0,(aN ts p.1).2.1,q.2) (q.1.1,q.1.2)<;>rfl
 have c4':bT ts 4 ⟨#[40]⟩ (p.1+1)=false:=n
 simp only[n,c4',jB,jF,WQ (N:=N) (l:=pr) (s:=(aN ts p.1).2.1) (by omega) (by omega),j0]
 cases pr.findIdx? (fun x=>decide (x=(aN ts p.1).2.1)) with
 |none=>rfl
 |some j=>
  simp only[jA]
  rw[if_neg (by omega)]
  simp only[j0,yW _ _ b]
  cases iI (aN ts p.1) (2,(j:Int),0,⟨#[]⟩,[]) (p.1+1,p.2)<;>rfl
theorem qJh(a:∀p:Ps,p.1<ts.length->p.2.length<=256->r3 (dT ts pr p) d=some (iF ts pr (S p)))(p:Ps)(c:p.1<ts.length)(b:p.2.length<=256):
  xF N r1 r2 r3 r4 r5 (dT ts pr p) 4 d=some (iF ts pr (S p)):=by
 have h3p:=a p c b
 simp only[dT] at h3p
 simp only[xF,dT,h3p,j0]
 cases S p<;>rfl
theorem VS(c:OkT ts)(B:ts.length<1000000)(k:iP ts S){L:Nat}(A:L<4)(f:∀p:Ps,p.1<ts.length->p.2.length<=256->r4 (dT ts pr p) ((L:Int)+1) d=some (iF ts pr (S p))):
  ∀(n M x:Nat) (p:Ps),p.1<ts.length->p.2.length<=256->x<p.2.length->ts.length<p.1+n->ts.length<p.1+M->
  aI (EA N r4 (L:Int) d) M ((x:Int),ts,(p.1:Int),pr,p.2)=some (iF ts pr (mQ ts L S n x p))
 |0,M,x,p,b,_,_,h,_=>by omega
 |n+1,0,x,p,b,_,_,_,h=>by omega
 |n+1,M+1,x,p,b,l,U,R,K=>by
  have D:=mC (show p.1<1000000 by omega)
  have t:IntKind.wrap .i64 ((L:Int)+1)=(L:Int)+1:=bQ (by omega) (by omega)
  simp only[aI,EA,mQ,qFm b,j0]
  by_cases a:lC ts L p.1=0
  .rw[if_pos (show(lC ts L p.1==0)=true by simpa using a),if_pos a];rfl
  rw[if_neg (show ¬(lC ts L p.1==0)=true by simpa using a),if_neg a]
  have s:(aN ts p.1).1≠5:=by
   intro s
   apply a
   unfold lC
   have:opsC.find? (nU ts L p.1)=none:=by
    rw[List.find?_eq_none]
    intro o _ e
    simp only[nU,jK] at e
    have:=KD e.1
    omega
   rw[this]
  have g:=c.next b s
  have h4p:=f (p.1+1,p.2) g l
  simp only[dT] at h4p
  simp only[qX b,j0,D,t,h4p]
  cases h:S (p.1+1,p.2) with
  |inl z=>rfl
  |inr q=>
   obtain⟨⟨u,v,y,e⟩,H⟩:=k (p.1+1,p.2) q.1 q.2 g l h
   simp only[iF,kJ,bG,dT,yW _ _ e,j0]
   cases hn2:iI (aN ts p.1) (4,0,lC ts L p.1,⟨#[]⟩,[(x:Int),(q.2:Int)]) (q.1.1,q.1.2) with
   |inl z=>rfl
   |inr r=>
    obtain⟨⟨a,E,V,F⟩,G⟩:=tX (ts:=ts) (p:=p) (r:=(q.1.1,q.1.2)) (by simp only at u ⊢;omega) v y e hn2
    simp only[kJ]
    by_cases k6:L=1
    .subst k6
     rfl
    rw[if_neg (show ¬((L:Int)==1)=true by simp;omega),if_neg k6]
    simp only[j0]
    exact VS c B k A f n M r.2 r.1 E F G (by omega) (by omega)
theorem OG(e:OkT ts)(r:ts.length<1000000)(u:1000001<N)(b:iP ts S){L:Nat}(o:L<4)(a:∀p:Ps,p.1<ts.length->p.2.length<=256->r4 (dT ts pr p) ((L:Int)+1) d=some (iF ts pr (S p)))
  (p:Ps) (f:p.1<ts.length) (c:p.2.length<=256):xF N r1 r2 r3 r4 r5 (dT ts pr p) (L:Int) d=some (iF ts pr (oW ts L S p)):=by
 have g:IntKind.wrap .i64 ((L:Int)+1)=(L:Int)+1:=bQ (by omega) (by omega)
 have h4p:=a p f c
 simp only[dT] at h4p
 simp only[xF,dT,oW,g,h4p,j0]
 rw[if_neg (show ¬((L:Int)==4)=true by simp;omega)]
 cases h:S p with
 |inl z=>rfl
 |inr q=>
  obtain⟨⟨s,k,t,l⟩,n⟩:=b p q.1 q.2 f c h
  simp only[iF,kJ,bG,dT]
  rw[VS e r b o a (ts.length+1) N q.2 q.1 k l n (by omega) (by omega)]
  rfl
theorem qMm{k:Nat}(f:OkT ts)(B:ts.length<1000000)(Z:d+k=32)(hk:k<33)(q:iP ts (dL ts pr k))(r:∀p:Ps,p.1<ts.length->p.2.length<=256->r5 (dT ts pr p) (IntKind.wrap .i64 (d+1))=some (iF ts pr (dL ts pr k p)))
  (E:∀p:Ps,p.1<ts.length->p.2.length<=256->r4 (dT ts pr p) 1 d=some (iF ts pr (CD ts pr (dL ts pr k) p)))
  (p:Ps) (h:p.1<ts.length) (s:p.2.length<=256):xQ N r1 r2 r3 r4 r5 (dT ts pr p) d=some (iF ts pr (dL ts pr (k+1) p)):=by
 have F:=mC (show p.1<1000000 by omega)
 simp only[xQ,dT,qX h,j0,dL]
 rw[if_neg (show ¬decide (d>32)=true by simp only[jA];omega)]
 simp only[j0,CR h]
 rcases eA (bT ts 1 HW p.1) with e|e
 rotate_left
 .have c1':bT ts 1 ⟨#[105,102]⟩ p.1=false:=e
  have h4p:=E p h s
  simp only[dT] at h4p
  simp only[e,c1',kH,jH,jB,jF,h4p,j0]
  cases CD ts pr (dL ts pr k) p<;>rfl
 have c1':bT ts 1 ⟨#[105,102]⟩ p.1=true:=e
 have g:=iX f h (by decide) e
 have l:=r (p.1+1,p.2) g s
 simp only[dT] at l
 simp only[e,c1',kI,jH,jB,jF,F,l,j0]
 cases ha:dL ts pr k (p.1+1,p.2) with
 |inl z=>rfl
 |inr a=>
  obtain⟨⟨G,t,H,u⟩,K⟩:=q (p.1+1,p.2) a.1 a.2 g s ha
  simp only[iF,kJ,bG,dT,PQ t B,j0,HD]
  cases hi:qK ts ⟨#[116,104,101,110]⟩ a.1.1 with
  |inl z=>rfl
  |inr i=>
   obtain⟨rfl,y,-⟩:=CC f t hi
   have n:=r (a.1.1+1,a.1.2) y u
   simp only[dT] at n
   simp only[kJ,n,j0]
   cases hb1:dL ts pr k (a.1.1+1,a.1.2) with
   |inl z=>rfl
   |inr b=>
    obtain⟨⟨M,v,R,x⟩,S⟩:=q (a.1.1+1,a.1.2) b.1 b.2 y u hb1
    simp only[iF,kJ,bG,dT,PQ v B,j0,HG]
    cases hj:qK ts ⟨#[101,108,115,101]⟩ b.1.1 with
    |inl z=>rfl
    |inr j=>
     obtain⟨rfl,A,-⟩:=CC f v hj
     have o:=r (b.1.1+1,b.1.2) A x
     simp only[dT] at o
     simp only[kJ,o,j0]
     cases hc1:dL ts pr k (b.1.1+1,b.1.2) with
     |inl z=>rfl
     |inr c=>
      obtain⟨⟨e,U,V,D⟩,Y⟩:=q (b.1.1+1,b.1.2) c.1 c.2 A x hc1
      simp only[iF,kJ,bG,dT,yW _ _ D,j0]
      cases iI (aN ts p.1) (5,0,0,⟨#[]⟩,[(a.2:Int),(b.2:Int),(c.2:Int)]) (c.1.1,c.1.2)<;>rfl
theorem qKr(a:d>32)(p:Ps)(b:p.1<ts.length):xQ N r1 r2 r3 r4 r5 (dT ts pr p) d=some (iF ts pr (dL ts pr 0 p)):=by
 simp only[xQ,dT,qX b,j0,dL]
 rw[if_pos (show decide (d>32)=true by simpa using a)]
 rfl
theorem YG(b:OkT ts)(e:ts.length<1000000)(n:pr.length<1000)(l:1000001<N)(r:∀j,(aN ts j).2.1.size<100000):∀(k D:Nat),k<=32->7*k+1<=D->∀p:Ps,p.1<ts.length->p.2.length<=256->
  (eH N D).2.2.2.2 (dT ts pr p) (33-(k:Int))=some (iF ts pr (dL ts pr k p))
 |0,0,_,h,_,_,_=>by omega
 |0,D+1,_,_,p,a,_=>by simp only[eH];exact qKr (by omega) p a
 |k+1,D,E,d,p,a,c=>by
  have f:=sM (ts:=ts) (params:=pr) b k
  have o:=MX (params:=pr) b f
  have q:iP ts (CY ts pr (dL ts pr k)):=yM b o
  have B:iP ts (rX ts pr (dL ts pr k)):=yM b q
  have g:∀D,7*k+1<=D->∀p:Ps,p.1<ts.length->p.2.length<=256->(eH N D).2.2.2.2 (dT ts pr p) (IntKind.wrap .i64 (32-(k:Int)+1))=some (iF ts pr (dL ts pr k p)):=by
   intro D d p a c
   rw[bQ (by omega) (by omega),show 32-(k:Int)+1=33-(k:Int) by omega]
   exact YG b e n l r k D (by omega) d p a c
  have y:∀D,7*k+2<=D->∀(t:bP) (p:Ps),p.1<ts.length->p.2.length<=256->(eH N D).1 (dT ts pr p) t (32-(k:Int))=some (iF ts pr (pI ts (dL ts pr k) t p)):=by
   intro D d t p a c
   obtain⟨D',rfl⟩:∃D',D=D'+1:=⟨D-1,by omega⟩
   simp only[eH]
   exact qHv b e (by omega) r f (g D' (by omega)) t p a c
  have z:∀D,7*k+2<=D->∀p:Ps,p.1<ts.length->p.2.length<=256->(eH N D).2.1 (dT ts pr p) (32-(k:Int))=some (DB ts pr (sK ts (dL ts pr k) p)):=by
   intro D d p a c
   obtain⟨D',rfl⟩:∃D',D=D'+1:=⟨D-1,by omega⟩
   simp only[eH]
   exact qFd b e (by omega) f (g D' (by omega)) p a c
  have A:∀D,7*k+3<=D->∀p:Ps,p.1<ts.length->p.2.length<=256->(eH N D).2.2.1 (dT ts pr p) (32-(k:Int))=some (iF ts pr (oV ts pr (dL ts pr k) p)):=by
   intro D d p a c
   obtain⟨D',rfl⟩:∃D',D=D'+1:=⟨D-1,by omega⟩
   simp only[eH]
   exact qJt b e n (by omega) f (g D' (by omega)) (y D' (by omega)) (z D' (by omega)) p a c
  have x:∀D,7*k+4<=D->∀p:Ps,p.1<ts.length->p.2.length<=256->(eH N D).2.2.2.1 (dT ts pr p) 4 (32-(k:Int))=some (iF ts pr (oV ts pr (dL ts pr k) p)):=by
   intro D d p a c
   obtain⟨D',rfl⟩:∃D',D=D'+1:=⟨D-1,by omega⟩
   simp only[eH]
   exact qJh (A D' (by omega)) p a c
  have v:∀D,7*k+5<=D->∀p:Ps,p.1<ts.length->p.2.length<=256->(eH N D).2.2.2.1 (dT ts pr p) 3 (32-(k:Int))=some (iF ts pr (CY ts pr (dL ts pr k) p)):=by
   intro D d p a c
   obtain⟨D',rfl⟩:∃D',D=D'+1:=⟨D-1,by omega⟩
   simp only[eH]
   exact OG b e l o (L:=3) (by omega) (x D' (by omega)) p a c
  have u:∀D,7*k+6<=D->∀p:Ps,p.1<ts.length->p.2.length<=256->(eH N D).2.2.2.1 (dT ts pr p) 2 (32-(k:Int))=some (iF ts pr (rX ts pr (dL ts pr k) p)):=by
   intro D d p a c
   obtain⟨D',rfl⟩:∃D',D=D'+1:=⟨D-1,by omega⟩
   simp only[eH]
   exact OG b e l q (L:=2) (by omega) (v D' (by omega)) p a c
  have s:∀D,7*k+7<=D->∀p:Ps,p.1<ts.length->p.2.length<=256->(eH N D).2.2.2.1 (dT ts pr p) 1 (32-(k:Int))=some (iF ts pr (CD ts pr (dL ts pr k) p)):=by
   intro D d p a c
   obtain⟨D',rfl⟩:∃D',D=D'+1:=⟨D-1,by omega⟩
   simp only[eH]
   exact OG b e l B (L:=1) (by omega) (u D' (by omega)) p a c
  obtain⟨D',rfl⟩:∃D',D=D'+1:=⟨D-1,by omega⟩
  rw[show(33:Int)-((k+1:Nat):Int)=32-(k:Int) by omega]
  simp only[eH]
  exact qMm b e (by omega) (by omega) f (g D' (by omega)) (s D' (by omega)) p a c
theorem qKf(a:OkT ts)(e:ts.length<1000000)(b:pr.length<1000)(c:1000001<N)(g:∀j,(aN ts j).2.1.size<100000)(p:Ps)(f:p.1<ts.length)(d:p.2.length<=256):
  MB N (ts,(p.1:Int),pr,p.2) 1=some (iF ts pr (dL ts pr 32 p)):=by
 have:=YG a e b c g 32 N (by omega) (by omega) p f d
 exact this
end
section
variable {N:Nat} {ts:List bP} {pr:List BA} {b:List Ex}
theorem MY(h:OkT ts):∀(n:Nat) (l:List BA) (i:Nat) (a:Nat×List BA),i<ts.length->l.length<=8->sO ts n l i= .inr a->i<a.1/\a.1<ts.length/\a.2.length<=8
 |0,_,_,_,_,_,d=>by cases d
 |n+1,l,i,a,hi,q,d=>by
  obtain⟨x,k,b⟩:=cQ (show bG (lA ts i) _=_ from d)
  obtain⟨rfl,e,-⟩:=qE h hi k
  split at b
  .cases b
  rename_i k1
  split at b
  .cases b
  split at b
  .rename_i k3
   have c:=iX h e (by decide) k3
   obtain⟨r,o,p⟩:=MY h n _ _ a c (by simp only[jC,jD,jE];omega) b
   exact⟨by omega,o,p⟩
  obtain⟨j,g,f⟩:=cQ b
  obtain⟨rfl,c,-⟩:=iR h e g
  obtain rfl:=Sum.inr.inj f
  exact⟨by simp only;omega,c,by simp only[jC,jD,jE];omega⟩
theorem MI(h:OkT ts){i:Nat}{a:Nat×List BA}(hi:i<ts.length)(c:qV ts i= .inr a):i<a.1/\a.1<ts.length/\a.2.length<=8:=by
 obtain⟨j,d,b⟩:=cQ c
 obtain⟨rfl,g,-⟩:=iR h hi d
 split at b
 .rename_i k
  obtain rfl:=Sum.inr.inj b
  exact⟨by simp only;omega,iX h g (by decide) k,by simp⟩
 obtain⟨l,e,f⟩:=MY h _ _ _ a g (by simp) b
 exact⟨by omega,e,f⟩
theorem SX(d:OkT ts)(k:ts.length<1000000)(r:1000000<N):∀(n M:Nat) (l:List BA) (i:Nat),i<ts.length->l.length<=8->ts.length<i+n->ts.length<i+M->
  ((aI (DR N) M (l,ts,(i:Int),pr,b)).bind fun p=>(match p with| .inl e=>(mY N (e.2.1,e.2.2.1,e.2.2.2.1,e.2.2.2.2) (⟨#[41]⟩:BA)).bind fun q=>(match q with| .inl t=>some (.inl t)| .inr c=>some (.inr ((c.1,c.2.1,c.2.2.1,c.2.2.2),e.1)))| .inr (z)=>some z))=some (Sum.map id (fun a:Nat×List BA=>((ts,(a.1:Int),pr,b),a.2)) (sO ts n l i))
 |0,M,l,i,hi,_,h,_=>by omega
 |n+1,0,l,i,hi,_,_,h=>by omega
 |n+1,M+1,l,i,hi,u,y,v=>by
  simp only[aI,DR,sO,KN hi k,j0]
  cases hx:lA ts i with
  |inl z=>rfl
  |inr x=>
   obtain⟨rfl,o,-⟩:=qE d hi hx
   simp only[kJ,bG,iK,j0]
   by_cases k1:l.length=8
   .rw[if_pos (show((l.length:Int)==8)=true by simp;omega),if_pos k1];rfl
   rw[if_neg (show ¬((l.length:Int)==8)=true by simp;omega),if_neg k1]
   simp only[j0,TA (N:=N) (l:=l) (s:=(aN ts i).2.1) (by omega) (by omega)]
   by_cases k2:(aN ts i).2.1∈l
   .rw[if_pos (jU k2),if_pos k2];rfl
   rw[if_neg (show ¬decide ((aN ts i).2.1∈l)=true by simpa using k2),if_neg k2]
   simp only[j0]
   rw[lU (by simp only[jD,jE];omega) (by omega)]
   simp only[j0,CA o k,oM]
   rcases eA (bT ts 4 ⟨#[44]⟩ (i+1)) with f|f
   .have g:=iX d o (by decide) f
    simp only[f,jH,kI,jB,jF,j0]
    exact SX d k r n M _ (i+1+1) g (by simp only[jC,jD,jE];omega) (by omega) (by omega)
   simp only[f,jB,jF,kH,jH,j0,qY o k,iM]
   cases cS ts ⟨#[41]⟩ (i+1)<;>rfl
theorem qDr(c:OkT ts)(e:ts.length<1000000)(f:1000000<N){i:Nat}(hi:i<ts.length):
  zW N (ts,(i:Int),pr,b)=some (Sum.map id (fun a:Nat×List BA=>((ts,(a.1:Int),pr,b),a.2)) (qV ts i)):=by
 simp only[zW,qY hi e,j0,qV,mM]
 cases h:cS ts ⟨#[40]⟩ i with
 |inl z=>rfl
 |inr j=>
  obtain⟨rfl,g,-⟩:=iR c hi h
  simp only[kJ,bG,CA g e,j0,iM]
  rcases eA (bT ts 4 ⟨#[41]⟩ (i+1)) with d|d
  .simp only[d,jH];rfl
  simp only[d,jB,jF]
  exact SX c e f (ts.length+1) N [] (i+1) g (by simp) (by omega) (by omega)
def KX:List (BA×Int):=[(⟨#[102,117,110,99]⟩,1),(⟨#[103,101,110]⟩,3),(⟨#[116,101,115,116]⟩,2)]
theorem qIq:((iH (some []:Option (List (BA×Int))) (⟨#[102,117,110,99]⟩:BA) 1).bind fun a=>(iH a (⟨#[116,101,115,116]⟩:BA) 2).bind fun b=>iH b (⟨#[103,101,110]⟩:BA) 3)=some (some KX):=by kernel_rfl
theorem WC(s:BA):((cX (some KX) s).getD 0)=lF s:=by
 simp only[cX,KX,j0,dP,lF,HC,HB,HP]
 by_cases h1:s=⟨#[102,117,110,99]⟩
 .simp[h1]
 by_cases h2:s=⟨#[116,101,115,116]⟩
 .subst h2;rfl
 by_cases h3:s=⟨#[103,101,110]⟩
 .subst h3;rfl
 simp[h1,h2,h3]
theorem TO{before:List Dl}{y1:iU×bP}{o4:List bP×Int×List BA×List Ex×Int×BA×Int×Int}(c:before.length<=64):∀(d i M:Nat),i+d=before.length->d<M->
  ((aI (AM N before (some KX) y1 o4) M (i:Int)).bind fun a=>(match a with| .inl f=>some (-1)| .inr (z)=>some z):Option Int)=some (match(before.drop i).findIdx? (fun d=>d.1==lF y1.2.2.1&&decide (d.2.1=o4.2.2.2.2.2.1)) with|some j=>((i+j:Nat):Int)|none=> -1)
 |d,i,0,_,h=>by omega
 |0,i,M+1,h,_=>by
  have:before.drop i=[]:=jM (by omega)
  simp only[aI,AM,this,List.findIdx?_nil]
  rw[if_neg (by simp only[jA];omega)]
  rfl
 |d+1,i,M+1,h,e=>by
  have hi:i<before.length:=by omega
  have b:=TO (y1:=y1) (o4:=o4) c d (i+1) M (by omega) (by omega)
  simp only[aI,AM]
  rw[if_pos (by simp only[jA];omega),dX hi,jN hi,List.findIdx?_cons]
  simp only[j0,iQ,WC]
  by_cases k1:(before[i].1==lF y1.2.2.1)=true
  .by_cases k2:before[i].2.1=o4.2.2.2.2.2.1
   .simp[k1,k2]
   simp only[k1,k2,jH,decide_false,j0,jB,jF,mC (show i<1000000 by omega),Bool.and_false]
   rw[b]
   cases(before.drop (i+1)).findIdx? (fun d=>d.1==lF y1.2.2.1&&decide (d.2.1=o4.2.2.2.2.2.1)) with
   |none=>rfl
   |some j=>simp only[kP];rw[show i+1+j=i+(j+1) by omega]
  simp only[k1,jB,jF,j0,mC (show i<1000000 by omega),Bool.false_and]
  rw[b]
  cases(before.drop (i+1)).findIdx? (fun d=>d.1==lF y1.2.2.1&&decide (d.2.1=o4.2.2.2.2.2.1)) with
  |none=>rfl
  |some j=>simp only[kP];rw[show i+1+j=i+(j+1) by omega]
theorem FZ(h:OkT ts){before:List Dl}{i:Nat}{a:Nat×Dl}(hi:i<ts.length)(b:mE ts before i= .inr a):i<a.1/\a.1<ts.length/\before.length≠64:=by
 unfold mE at b
 dsimp only at b
 split at b
 .cases b
 rename_i k1
 split at b
 .cases b
 rename_i k2
 have g:=h.next hi (show(aN ts i).1≠5 by intro e;apply k1;left;rw[e];decide)
 obtain⟨x,k,f⟩:=cQ b
 have gx:x.1=i+1+1/\x.1<ts.length:=by
  split at k
  .obtain⟨rfl,d,-⟩:=qW h g k;exact⟨rfl,d⟩
  obtain⟨rfl,d,-⟩:=qE h g k;exact⟨rfl,d⟩
 split at f
 .cases f
 obtain⟨y,l,q⟩:=cQ f
 have gy:x.1<=y.1/\y.1<ts.length:=by
  split at l
  .obtain⟨d,n,-⟩:=MI h gx.2 l;exact⟨by omega,n⟩
  obtain rfl:=Sum.inr.inj l;exact⟨jP _,gx.2⟩
 obtain⟨j,v,r⟩:=cQ q
 obtain⟨rfl,o,-⟩:=iR h gy.2 v
 obtain⟨c,u,s⟩:=cQ r
 obtain⟨⟨d,n,A,B⟩,-⟩:=sM h 32 (y.1+1,[]) c.1 c.2 o (by simp) u
 obtain⟨m,z,t⟩:=cQ s
 obtain⟨rfl,p,-⟩:=iR h n z
 obtain rfl:=Sum.inr.inj t
 exact⟨by simp only at d ⊢;omega,p,k2⟩
theorem qLw{before:List Dl}{f:Dl->Bool}:(decide ((match before.findIdx? f with|some j=>((0+j:Nat):Int)|none=> -1)>=0))=before.any f:=by
 have:=List.findIdx?_isSome (xs:=before) (p:=f)
 rw[<-this]
 cases before.findIdx? f with
 |none=>rfl
 |some j=>simp only[Option.isSome_some];exact jU (by omega)
end
section
variable {N:Nat} {ts:List bP} {pr:List BA} {b:List Ex}
theorem qMa(e:OkT ts)(n:ts.length<1000000)(E:1000001<N)(A:∀j,(aN ts j).2.1.size<100000){before:List Dl}(F:before.length<=64){i:Nat}(hi:i<ts.length):
  FG N (ts,(i:Int),pr,b) before=some (Sum.map id (fun a:Nat×Dl=>((ts,(a.1:Int),a.2.2.2.1,a.2.2.2.2),a.2)) (mE ts before i)):=by
 have K:=mC (show i<1000000 by omega)
 unfold FG
 obtain⟨Z,t,G⟩:=jJ.1 qIq
 obtain⟨a1,u,v⟩:=jJ.1 G
 rw[t];simp only[j0]
 rw[u];simp only[j0]
 rw[v];simp only[j0,qX hi,WC,iK,mE]
 by_cases o:(aN ts i).1≠1\/lF (aN ts i).2.1=0
 .rw[if_pos o]
  have:((if((aN ts i).1 !=1)=true then some true else some (lF (aN ts i).2.1==0)):Option Bool)=some true:=by
   rcases o with h|h
   .simp[h]
   simp[h]
  rw[this];rfl
 rw[if_neg o]
 have k1a:(aN ts i).1=1:=by
  apply Decidable.byContradiction
  intro h;exact o (.inl h)
 have k1b:¬lF (aN ts i).2.1=0:=fun h=>o (.inr h)
 have:((if((aN ts i).1 !=1)=true then some true else some (lF (aN ts i).2.1==0)):Option Bool)=some false:=by simp[k1a,k1b]
 rw[this]
 simp only[j0,jB,jF]
 by_cases k2:before.length=64
 .rw[if_pos (show((before.length:Int)==64)=true by simp;omega),if_pos k2];rfl
 rw[if_neg (show ¬((before.length:Int)==64)=true by simp;omega),if_neg k2]
 have g:=e.next hi (show(aN ts i).1≠5 by rw[k1a];decide)
 simp only[j0,K]
 have M:(if(lF (aN ts i).2.1==3)=true then((tL N (ts,((i+1:Nat):Int),pr,b)).bind fun R=>(match R with| .inl U=>some (.inr (.inl U))| .inr k=>some (.inl (k.1.1,k.1.2.1,k.1.2.2.1,k.1.2.2.2,k.2.1,k.2.2.1,k.2.2.2.1,k.2.2.2.2)))) else((tN N (ts,((i+1:Nat):Int),pr,b)).bind fun S=>(match S with| .inl V=>some (.inr (.inl V))| .inr l=>some (.inl (l.1.1,l.1.2.1,l.1.2.2.1,l.1.2.2.2,l.2.1,l.2.2.1,l.2.2.2.1,l.2.2.2.2)))):Option ((List bP×Int×List BA×List Ex×Int×BA×Int×Int)⊕(bU⊕(iU×Dl))))=
   some (match(if lF (aN ts i).2.1=3 then lT ts (i+1) else lA ts (i+1)) with| .inl z=> .inr (.inl z)| .inr a=> .inl (ts,(a.1:Int),pr,b,a.2.1,a.2.2.1,a.2.2.2.1,a.2.2.2.2)):=by
  by_cases k3:lF (aN ts i).2.1=3
  .rw[if_pos (show(lF (aN ts i).2.1==3)=true by simpa using k3),if_pos k3,KT g n (by omega) A]
   cases lT ts (i+1)<;>rfl
  rw[if_neg (show ¬(lF (aN ts i).2.1==3)=true by simpa using k3),if_neg k3,KN g n]
  cases lA ts (i+1)<;>rfl
 refine Eq.trans (congrArg (fun z=>Option.bind z _) M) ?_
 simp only[j0]
 cases hX:(if lF (aN ts i).2.1=3 then lT ts (i+1) else lA ts (i+1)) with
 |inl z=>rfl
 |inr x=>
  have gx:x.1=i+1+1/\x.1<ts.length:=by
   split at hX
   .obtain⟨rfl,p,-⟩:=qW e g hX;exact⟨rfl,p⟩
   obtain⟨rfl,p,-⟩:=qE e g hX;exact⟨rfl,p⟩
  simp only[bG]
  have s:=TO (N:=N) (before:=before) (y1:=((ts,(i:Int),pr,b),aN ts i)) (o4:=(ts,(x.1:Int),pr,b,x.2.1,x.2.2.1,x.2.2.2.1,x.2.2.2.2)) F before.length 0 N (by omega) (by omega)
  simp only[jT] at s
  refine Eq.trans (congrArg (fun z=>Option.bind z _) s) ?_
  simp only[j0,qLw]
  rcases eA (before.any fun d=>d.1==lF (aN ts i).2.1&&decide (d.2.1=x.2.2.1)) with r|r
  .simp only[r,jH];rfl
  simp only[r,jB,jF,j0]
  have H:(if(lF (aN ts i).2.1==1)=true then((zW N (ts,(x.1:Int),pr,b)).bind fun B=>(match B with| .inl Y=>some (.inr (.inl Y))| .inr f=>some (.inl (f.2,f.1.1,f.1.2.1,f.1.2.2.1,f.1.2.2.2)))) else(some (.inl (([]:List (BA)),ts,(x.1:Int),pr,b))):Option ((List BA×iU)⊕(bU⊕(iU×Dl))))=
    some (match(if lF (aN ts i).2.1=1 then qV ts x.1 else .inr (x.1,[])) with| .inl z=> .inr (.inl z)| .inr a=> .inl (a.2,ts,(a.1:Int),pr,b)):=by
   by_cases k5:lF (aN ts i).2.1=1
   .rw[if_pos (show(lF (aN ts i).2.1==1)=true by simpa using k5),if_pos k5,qDr e n (by omega) gx.2]
    cases qV ts x.1<;>rfl
   rw[if_neg (show ¬(lF (aN ts i).2.1==1)=true by simpa using k5),if_neg k5]
  refine Eq.trans (congrArg (fun z=>Option.bind z _) H) ?_
  simp only[j0]
  cases hY:(if lF (aN ts i).2.1=1 then qV ts x.1 else .inr (x.1,[]):bU⊕(Nat×List BA)) with
  |inl z=>rfl
  |inr y=>
   have gy:x.1<=y.1/\y.1<ts.length/\y.2.length<=8:=by
    split at hY
    .obtain⟨p,D,q⟩:=MI e gx.2 hY;exact⟨by omega,D,q⟩
    obtain rfl:=Sum.inr.inj hY;exact⟨jP _,gx.2,by simp⟩
   simp only[qY gy.2.1 n,j0,wP]
   cases hj:cS ts ⟨#[61]⟩ y.1 with
   |inl z=>rfl
   |inr j=>
    obtain⟨rfl,q,-⟩:=iR e gy.2.1 hj
    have p:=qKf (N:=N) (pr:=y.2) e n (by omega) E A (y.1+1,[]) q (by simp)
    simp only at p
    simp only[kJ,p,j0]
    cases hc:dL ts y.2 32 (y.1+1,[]) with
    |inl z=>rfl
    |inr c=>
     obtain⟨⟨f1,D,f3,f4⟩,-⟩:=sM e 32 (y.1+1,[]) c.1 c.2 q (by simp) hc
     simp only[iF,kJ,dT,qY D n,j0,pP]
     cases cS ts ⟨#[59]⟩ c.1.1<;>rfl
theorem SQ(c:OkT ts)(k:ts.length<1000000)(q:1000000<N){e:iU×bP}:∀(n M:Nat) (l:List BA) (i:Nat),i<ts.length->l.length<=8->ts.length<i+n->ts.length<i+M->
  aI (EU N e) M (ts,(i:Int),pr,b,l)=some (match pJ ts e.2.2.1 n l i with| .inl z=> .inr (.inl z)| .inr a=> .inl (ts,(a.1:Int),pr,b,a.2))
 |0,M,l,i,hi,_,h,_=>by omega
 |n+1,0,l,i,hi,_,_,h=>by omega
 |n+1,M+1,l,i,hi,t,v,u=>by
  have r:=mC (show i<1000000 by omega)
  simp only[aI,EU,pJ,CR hi,j0,yV]
  rcases eA (bT ts 1 ⟨#[105,109,112,111,114,116]⟩ i) with f|f
  rotate_left
  .simp only[f,jB,jF,j0]
  have g:=iX c hi (by decide) f
  simp only[f,jH]
  by_cases k2:l.length=8
  .rw[if_pos (show((l.length:Int)==8)=true by simp;omega),if_pos k2]
   simp only[qX hi,j0,iK];rfl
  rw[if_neg (show ¬((l.length:Int)==8)=true by simp;omega),if_neg k2]
  simp only[j0,r,KN g k]
  cases hx:lA ts (i+1) with
  |inl z=>rfl
  |inr x=>
   obtain⟨rfl,o,-⟩:=qE c g hx
   simp only[kJ,bG,iK,j0,iQ,TA (N:=N) (l:=l) (s:=(aN ts (i+1)).2.1) (by omega) (by omega)]
   by_cases d:(aN ts (i+1)).2.1=e.2.2.1\/(aN ts (i+1)).2.1∈l
   .rw[if_pos d]
    have:((if decide ((aN ts (i+1)).2.1=e.2.2.1)=true then some true else some (decide ((aN ts (i+1)).2.1∈l))):Option Bool)=some true:=by
     rcases d with h|h
     .rw[if_pos (jU h)]
     rw[jU h];split<;>rfl
    rw[this];rfl
   rw[if_neg d]
   have:((if decide ((aN ts (i+1)).2.1=e.2.2.1)=true then some true else some (decide ((aN ts (i+1)).2.1∈l))):Option Bool)=some false:=by
    rw[if_neg (by simp only[jA];exact fun h=>d (.inl h)),jQ (fun h=>d (.inr h))]
   rw[this]
   simp only[j0,jB,jF]
   rw[lU (by simp only[jD,jE];omega) (by omega)]
   simp only[j0,qY o k,pP]
   cases hj:cS ts ⟨#[59]⟩ (i+1+1) with
   |inl z=>rfl
   |inr j=>
    obtain⟨rfl,p,-⟩:=iR c o hj
    exact SQ c k q n M _ (i+1+1+1) p (by simp only[jC,jD,jE];omega) (by omega) (by omega)
theorem JS(h:OkT ts){pkg:BA}:∀(n:Nat) (l:List BA) (i:Nat) (a:Nat×List BA),i<ts.length->l.length<=8->pJ ts pkg n l i= .inr a->i<=a.1/\a.1<ts.length/\a.2.length<=8
 |0,_,_,_,_,_,b=>by cases b
 |n+1,l,i,a,hi,p,b=>by
  unfold pJ at b
  split at b
  .rename_i k
   have g:=iX h hi (by decide) k
   split at b
   .cases b
   rename_i k2
   obtain⟨x,q,c⟩:=cQ b
   obtain⟨rfl,d,-⟩:=qE h g q
   split at c
   .cases c
   obtain⟨j,o,f⟩:=cQ c
   obtain⟨rfl,e,-⟩:=iR h d o
   obtain⟨t,r,s⟩:=JS h n _ _ a e (by simp only[jC,jD,jE];omega) f
   exact⟨by omega,r,s⟩
  obtain rfl:=Sum.inr.inj b
  exact⟨jP _,hi,p⟩
theorem TJ(c:OkT ts)(f:ts.length<1000000)(e:1000001<N)(k:∀j,(aN ts j).2.1.size<100000):∀(n M:Nat) (l:List Dl) (i:Nat) (pr:List BA) (b:List Ex),i<ts.length->l.length<=64->ts.length<i+n->ts.length<i+M->
  match qJ ts n l i with
  | .inl z=>aI (vA N) M (ts,(i:Int),pr,b,l)=some (.inr (.inl z))
  | .inr a=>∃i' pr' b',aI (vA N) M (ts,(i:Int),pr,b,l)=some (.inl (ts,i',pr',b',a))
 |0,M,l,i,_,_,hi,_,h,_=>by omega
 |n+1,0,l,i,_,_,hi,_,_,h=>by omega
 |n+1,M+1,l,i,pr,b,hi,g,s,r=>by
  have o:aI (vA N) (M+1) (ts,(i:Int),pr,b,l)=(if(aN ts i).1=5 then some (.inl (ts,(i:Int),pr,b,l)) else
    match mE ts l i with
    | .inl z=>some (.inr (.inl z))
    | .inr a=>aI (vA N) M (ts,(a.1:Int),a.2.2.2.1,a.2.2.2.2,l++[a.2])):=by
   simp only[aI,vA,qX hi,j0,qMa c f e k g hi]
   by_cases k1:(aN ts i).1=5
   .rw[if_neg (show ¬((aN ts i).1 !=5)=true by simpa using k1),if_pos k1];rfl
   rw[if_pos (show((aN ts i).1 !=5)=true by simpa using k1),if_neg k1]
   cases hd:mE ts l i with
   |inl z=>rfl
   |inr a=>
    obtain⟨p,d,q⟩:=FZ c hi hd
    simp only[kJ]
    rw[lU (by simp only[jD,jE];omega) (by omega)]
    rfl
  rw[o]
  simp only[qJ]
  by_cases k1:(aN ts i).1=5
  .simp only[if_pos k1];exact⟨_,_,_,rfl⟩
  simp only[if_neg k1]
  cases hd:mE ts l i with
  |inl z=>rfl
  |inr a=>
   obtain⟨p,d,q⟩:=FZ c hi hd
   exact TJ c f e k n M (l++[a.2]) a.1 _ _ d (by simp only[jC,jD,jE];omega) (by omega) (by omega)
theorem qLq(a:OkT ts)(d:ts.length<1000000)(n:1000001<N)(o:∀j,(aN ts j).2.1.size<100000):
  match rS ts with
  | .inl z=>AS N (ts,0,pr,b)=some (.inl z)
  | .inr f=>∃i' pr' b',AS N (ts,0,pr,b)=some (.inr ((ts,i',pr',b'),f)):=by
 have k:0<ts.length:=fD.2 a.1
 simp only[AS,rS]
 rw[show(0:Int)=((0:Nat):Int) from rfl]
 simp only[PQ k d,j0,GH]
 cases h1:qK ts ⟨#[112,97,99,107,97,103,101]⟩ 0 with
 |inl z=>rfl
 |inr i=>
  obtain⟨rfl,e,-⟩:=CC a k h1
  simp only[kJ,bG,KN e d,j0]
  cases h2:lA ts (0+1) with
  |inl z=>rfl
  |inr x=>
   obtain⟨rfl,g,-⟩:=qE a e h2
   simp only[kJ,qY g d,j0,pP]
   cases h3:cS ts ⟨#[59]⟩ (0+1+1) with
   |inl z=>rfl
   |inr j=>
    obtain⟨rfl,h,-⟩:=iR a g h3
    simp only[kJ,SQ a d (by omega:1000000<N) (ts.length+1) N [] (0+1+1+1) h (by simp) (by omega) (by omega),j0]
    cases h4:pJ ts (aN ts (0+1)).2.1 (ts.length+1) [] (0+1+1+1) with
    |inl z=>rfl
    |inr y=>
     obtain⟨q,p,r⟩:=JS a _ _ _ y h (by simp) h4
     have c:=TJ (N:=N) a d n o (ts.length+1) N [] y.1 pr b p (by simp) (by omega) (by omega)
     simp only[]
     cases h5:qJ ts (ts.length+1) [] y.1 with
     |inl z=>
      rw[h5] at c
      simp only[c,j0]
     |inr l=>
      rw[h5] at c
      obtain⟨i',pr',b',c⟩:=c
      refine⟨i',pr',b',?_⟩
      simp only[c,j0]
end
theorem WK{s:BA}:∀(l:List bP) (e:Int),0<=e->QI s e l->∀i,i<l.length->((aN l i).1=5↔i+1=l.length)/\((aN l i).2.1.size:Int)<=s.size/\0<=(aN l i).2.2.2
 |[],_,_,_,i,hi=>by simp at hi
 |t::r,e,k,h,i,hi=>by
  obtain⟨d,f,b,g,c⟩:=h
  have a:0<=wJ t:=by unfold wJ;split<;>omega
  cases i with
  |zero=>
   refine⟨?_,?_,?_⟩
   .show t.1=5↔0+1=r.length+1
    rw[b,<-gA];omega
   .show((t.2.1.size:Nat):Int)<=s.size
    omega
   show 0<=t.2.2.2
   omega
  |succ i=>
   have:=WK r _ a c i (by simpa using hi)
   have e:aN (t::r) (i+1)=aN r i:=by simp[aN]
   rw[e,jD]
   exact⟨⟨fun h=>by have:=this.1.1 h;omega,fun h=>this.1.2 (by omega)⟩,this.2⟩
theorem JV{s:BA}(h:(iS s).2.2=0):OkT (iS s).1/\(iS s).1.length<=16385/\∀j,(aN (iS s).1 j).2.1.size<100000:=by
 unfold iS at h ⊢
 split at h
 .simp at h
 rename_i hs
 rw[if_neg hs]
 cases hG:mF (s.data.toList.length+1) s 0 with
 |inl x=>
  obtain⟨_,_,a⟩:=OP _ 0 x (by omega) (by omega) hG
  rw[hG] at h
  exact absurd h a
 |inr r=>
  obtain⟨c,d,g⟩:=NE _ 0 0 r (by omega) (by omega) (by omega) hG
  simp only[uO,kT]
  have b:=WK r 0 (by omega) c
  refine⟨⟨d,fun i hi=>(b i hi).1⟩,by omega,fun j=> ?_⟩
  rcases fW j r.length with a|a
  .have:=(b j a).2.1
   have f:=iC s
   omega
  have e:aN r j=(5,⟨#[]⟩,0,0):=by simp[aN,kO,List.getElem?_eq_none a]
  rw[e];decide
theorem qJd{N:Nat}(s:BA)(e:1000001<N):FO N s=some (rO s):=by
 simp only[FO,qGy (N:=N) (by omega),j0,rO]
 by_cases h:(iS s).2.2=0
 .rw[if_neg (show ¬((iS s).2.2 !=0)=true by simpa using h),if_neg (show ¬(iS s).2.2≠0 by simpa using h)]
  obtain⟨c,g,d⟩:=JV h
  have a:=qLq (N:=N) (pr:=[]) (b:=[]) c (by omega) e d
  cases hF:rS (iS s).1 with
  |inl z=>
   rw[hF] at a
   simp only[a,j0];rfl
  |inr f=>
   rw[hF] at a
   obtain⟨i',pr',b',a⟩:=a
   simp only[a,j0]
 rw[if_pos (show((iS s).2.2 !=0)=true by simpa using h),if_pos h];rfl
abbrev RT:=List bP×Int×Int×Int×List BA×List Ex×List Int
def gR(ts:List bP)(pr:List BA)(p:Ps):RT:=(ts,(p.1:Int),0,0,pr,p.2,[])
def bR(ts:List bP)(z:bU)(i:Nat)(pr:List BA)(b:List Ex):RT:=(ts,(i:Int),z.1,z.2,pr,b,[])
section
variable {N:Nat} {ts:List bP} {pr:List BA} {b:List Ex} {i:Nat} {z:bU}
theorem qAa{st:Int×Int×List BA×List Ex×List Int}(hi:i<ts.length):eQ N (ts,(i:Int),st.1,st.2.1,st.2.2.1,st.2.2.2.1,st.2.2.2.2)=some ((ts,(i:Int),st.1,st.2.1,st.2.2.1,st.2.2.2.1,st.2.2.2.2),aN ts i):=by
 simp only[eQ,YV hi,j0]
theorem iZ(p:Ps)(hi:p.1<ts.length):eQ N (gR ts pr p)=some (gR ts pr p,aN ts p.1):=qAa (st:=(0,0,pr,p.2,[])) hi
theorem pN(hi:i<ts.length):eQ N (bR ts z i pr b)=some (bR ts z i pr b,aN ts i):=qAa (st:=(z.1,z.2,pr,b,[])) hi
theorem oT(p:Ps)(hi:p.1<ts.length)(b:ts.length<1000000)(s:BA):mU N (gR ts pr p) s=some (if bT ts 1 s p.1 then(gR ts pr (p.1+1,p.2),true) else(gR ts pr p,false)):=by
 have a:eQ N (ts,(p.1:Int),0,0,pr,p.2,[])=some ((ts,(p.1:Int),0,0,pr,p.2,[]),aN ts p.1):=iZ p hi
 simp only[mU,gR,a,j0,iQ,bT,kS,jH]
 by_cases h1:(aN ts p.1).1=1<;>by_cases h2:(aN ts p.1).2.1=s<;>simp[h1,h2,mC (show p.1<1000000 by omega)]
theorem PC(a:z.2≠0)(s:BA):mU N (bR ts z i pr b) s=some (bR ts z i pr b,false):=by
 simp[mU,bR,a]
theorem nQ(p:Ps)(hi:p.1<ts.length)(b:ts.length<1000000)(s:BA):mV N (gR ts pr p) s=some (if bT ts 4 s p.1 then(gR ts pr (p.1+1,p.2),true) else(gR ts pr p,false)):=by
 have a:eQ N (ts,(p.1:Int),0,0,pr,p.2,[])=some ((ts,(p.1:Int),0,0,pr,p.2,[]),aN ts p.1):=iZ p hi
 simp only[mV,gR,a,j0,iQ,bT,kS,jH]
 by_cases h1:(aN ts p.1).1=4<;>by_cases h2:(aN ts p.1).2.1=s<;>simp[h1,h2,mC (show p.1<1000000 by omega)]
theorem KU(a:z.2≠0)(s:BA):mV N (bR ts z i pr b) s=some (bR ts z i pr b,false):=by
 simp[mV,bR,a]
theorem nC(p:Ps)(a e:Int):eW N (gR ts pr p) a e=some (bR ts (a,e) p.1 pr p.2):=by
 simp[eW,gR,bR]
theorem qF(c:z.2≠0)(a e:Int):eW N (bR ts z i pr b) a e=some (bR ts z i pr b):=by
 simp[eW,bR,c]
theorem qH(p:Ps)(hi:p.1<ts.length)(d:ts.length<1000000)(s:BA):eN N (gR ts pr p) s=some (match cS ts s p.1 with| .inl z=>bR ts z p.1 pr p.2| .inr j=>gR ts pr (j,p.2)):=by
 have a:=nQ (N:=N) (pr:=pr) p hi d s
 have b:=iZ (N:=N) (pr:=pr) p hi
 have c:=nC (N:=N) (ts:=ts) (pr:=pr) p (aN ts p.1).2.2.2 9
 simp only[gR] at a b c
 simp only[eN,gR,a,j0,cS]
 rcases eA (bT ts 4 s p.1) with h|h
 .simp only[h,jH,kI,jB,jF]
 simp only[h,jH,kH,jB,jF,b,j0,c,dO]
theorem pL(e:z.2≠0)(hi:i<ts.length)(s:BA):eN N (bR ts z i pr b) s=some (bR ts z i pr b):=by
 have a:=KU (N:=N) (ts:=ts) (i:=i) (pr:=pr) (b:=b) e s
 have c:=pN (N:=N) (ts:=ts) (i:=i) (pr:=pr) (b:=b) (z:=z) hi
 have d:=qF (N:=N) (ts:=ts) (i:=i) (pr:=pr) (b:=b) e (aN ts i).2.2.2 9
 simp only[bR] at a c d
 simp only[eN,bR,a,j0,kH,jH,c,d]
theorem UL{s:BA}:∀(d k M:Nat),k+d=wordsR.length->d<M->aI (wW N s) M (k:Int)=some (if s∈wordsR.drop k then .inr true else .inl ())
 |d,k,0,_,h=>by omega
 |0,k,M+1,h,_=>by
  have:wordsR.drop k=[]:=jM (by omega)
  simp only[aI,wW,this]
  rw[if_neg (by simp only[jA];have:wordsR.length=13:=rfl;simp only[jD,jE];omega)]
  rfl
 |d+1,k,M+1,h,g=>by
  have a:k<wordsR.length:=by omega
  have c:=UL (s:=s) d (k+1) M (by omega) (by omega)
  simp only[aI]
  have e:wW N s (k:Int)=some (if s=wordsR[k] then .inr (.inr true) else .inl (((k+1:Nat):Int))):=by
   have f:wordsR.length=13:=rfl
   have b:idx ([(⟨#[112,97,99,107,97,103,101]⟩:BA),(⟨#[105,109,112,111,114,116]⟩:BA),(⟨#[102,117,110,99]⟩:BA),(⟨#[116,101,115,116]⟩:BA),(⟨#[103,101,110]⟩:BA),(⟨#[105,102]⟩:BA),(⟨#[116,104,101,110]⟩:BA),(⟨#[101,108,115,101]⟩:BA),(⟨#[114,101,97,100]⟩:BA),(⟨#[115,105,122,101]⟩:BA),(⟨#[104,97,115]⟩:BA),(⟨#[101,110,118]⟩:BA),(⟨#[102,108,105,112]⟩:BA)]) (k:Int)=some wordsR[k]:=dX (l:=wordsR) a
   simp only[wW]
   rw[if_pos (by simp only[jA,jD,jE];omega),b]
   simp only[j0,iQ,jA,mC (show k<1000000 by omega)]
   split<;>rfl
  rw[e,jN a]
  simp only[j0,jV]
  by_cases hs:s=wordsR[k]
  .rw[if_pos hs,if_pos (.inl hs)]
  rw[if_neg hs]
  simp only[c]
  by_cases h2:s∈wordsR.drop (k+1)
  .rw[if_pos h2,if_pos (.inr h2)]
  rw[if_neg h2,if_neg (fun h=>h.elim hs h2)]
theorem qAe(a:100<N)(s:BA):AE N s=some (rF s):=by
 have h:=UL (N:=N) (s:=s) 13 0 N rfl (by omega)
 simp only[jT] at h
 simp only[AE]
 rw[show(0:Int)=((0:Nat):Int) from rfl,h]
 simp only[rF,j0]
 by_cases h2:s∈wordsR
 .rw[if_pos h2,jU h2]
 rw[if_neg h2,jQ h2]
theorem CL(p:Ps)(hi:p.1<ts.length)(f:ts.length<1000000)(e:100<N):lZ N (gR ts pr p)=some (match lA ts p.1 with| .inl z=>(bR ts z p.1 pr p.2,⟨#[]⟩)| .inr a=>(gR ts pr (a.1,p.2),a.2.2.1)):=by
 have d:=iZ (N:=N) (pr:=pr) p hi
 have b:=nC (N:=N) (ts:=ts) (pr:=pr) p (aN ts p.1).2.2.2 9
 simp only[gR] at d b
 simp only[lZ,gR,d,j0,qAe e,lA,lB,gU,jB,jF]
 by_cases k1:(aN ts p.1).1=1
 .have k1':((aN ts p.1).1 !=1)=false:=by simp[k1]
  simp only[k1',jB,jF,j0,if_pos k1,bG]
  rcases eA (rF (aN ts p.1).2.1) with c|c
  .simp only[c,jH,b,j0,dO]
  simp only[c,jB,jF,mC (show p.1<1000000 by omega)]
 have k1':((aN ts p.1).1 !=1)=true:=by simp[k1]
 simp only[k1',jH,j0,if_neg k1,bG,b,dO]
theorem KS(d:z.2≠0)(hi:i<ts.length):lZ N (bR ts z i pr b)=some (bR ts z i pr b,⟨#[]⟩):=by
 have a:=pN (N:=N) (ts:=ts) (i:=i) (pr:=pr) (b:=b) (z:=z) hi
 have c:=qF (N:=N) (ts:=ts) (i:=i) (pr:=pr) (b:=b) d (aN ts i).2.2.2 9
 have hz':(z.2 !=0)=true:=by simpa using d
 simp only[bR] at a c
 simp only[lZ,bR,a,j0,hz',jH,c]
theorem NM(p:Ps)(hi:p.1<ts.length)(d:ts.length<1000000):sC N (gR ts pr p)=some (match lB ts 2 p.1 with| .inl z=>(bR ts z p.1 pr p.2,0)| .inr a=>(gR ts pr (a.1,p.2),a.2.2.2.1)):=by
 have b:=iZ (N:=N) (pr:=pr) p hi
 have c:=nC (N:=N) (ts:=ts) (pr:=pr) p (aN ts p.1).2.2.2 9
 simp only[gR] at b c
 simp only[sC,gR,b,j0,lB,gU,jB,jF]
 by_cases k1:(aN ts p.1).1=2
 .have k1':((aN ts p.1).1 !=2)=false:=by simp[k1]
  simp only[k1',jB,jF,if_pos k1,mC (show p.1<1000000 by omega)]
 have k1':((aN ts p.1).1 !=2)=true:=by simp[k1]
 simp only[k1',jH,if_neg k1,c,j0,dO]
theorem qHn(d:z.2≠0)(hi:i<ts.length):sC N (bR ts z i pr b)=some (bR ts z i pr b,0):=by
 have a:=pN (N:=N) (ts:=ts) (i:=i) (pr:=pr) (b:=b) (z:=z) hi
 have c:=qF (N:=N) (ts:=ts) (i:=i) (pr:=pr) (b:=b) d (aN ts i).2.2.2 9
 have hz':(z.2 !=0)=true:=by simpa using d
 simp only[bR] at a c
 simp only[sC,bR,a,j0,hz',jH,c]
theorem XM(t:bP)(x:Ex)(p:Ps)(c:p.2.length<=256):∃v,iG N (gR ts pr p) x t.2.2.2=some (match iI t x p with| .inl z=>(bR ts z p.1 pr p.2,v)| .inr q=>(gR ts pr q.1,(q.2:Int))):=by
 refine⟨IntKind.wrap .i64 ((p.2.length:Int)-1),?_⟩
 have a:=nC (N:=N) (ts:=ts) (pr:=pr) p t.2.2.2 2
 simp only[gR] at a
 simp only[iG,gR,kS,jH,j0,iI]
 by_cases k1:p.2.length=256
 .have k1':((p.2.length:Int)==256)=true:=by simp;omega
  simp only[k1',jH,a,j0,bR]
  simp[k1,dO]
 have k1':((p.2.length:Int)==256)=false:=by simp;omega
 have b:IntKind.wrap .i64 (((p.2.length+1:Nat):Int)-1)=(p.2.length:Int):=by rw[bQ (by omega) (by omega)];omega
 simp only[k1',jB,jF,j0,if_neg k1,kS,jH]
 rw[lU (by simp only[jD,jE];omega) (by omega)]
 simp only[j0,jC,jD,jE,kF,b]
theorem YD(c:z.2≠0)(x:Ex)(a:Int):∃v,iG N (bR ts z i pr b) x a=some (bR ts z i pr b,v):=by
 refine⟨IntKind.wrap .i64 ((b.length:Int)-1),?_⟩
 have hz':(z.2==0)=false:=by simpa using c
 simp only[iG,bR,hz',jB,jF,j0]
end
section
variable {N:Nat} {ts:List bP} {pr:List BA} {b:List Ex} {i:Nat} {z:bU}
theorem OX(p:Ps)(hi:p.1<ts.length)(f:ts.length<1000000)(e:100<N)(pth:Bool):oH N (gR ts pr p) pth=some (match(if pth=true then lT ts p.1 else uD ts p.1) with| .inl z=>(bR ts z p.1 pr p.2,⟨#[]⟩)| .inr a=>(gR ts pr (a.1,p.2),a.2.2.1)):=by
 have d:=iZ (N:=N) (pr:=pr) p hi
 have c:=nC (N:=N) (ts:=ts) (pr:=pr) p (aN ts p.1).2.2.2 9
 simp only[gR] at d c
 simp only[oH,gR,d,j0,NB e,NF e,lT,uD,lB,gU,jB,jF]
 by_cases k1:(aN ts p.1).1=3
 .have k1':((aN ts p.1).1 !=3)=false:=by simp[k1]
  simp only[k1',jB,jF,j0,if_pos k1,bG]
  cases pth with
  |true=>
   simp only[jH,kI,jB,jF]
   rcases eA (lM (aN ts p.1).2.1.data.toList) with b|b
   .simp only[b,kI,jB,jF,j0,jH,mC (show p.1<1000000 by omega)]
   simp only[b,kH,jB,jF,j0,jH,c,dO]
  |false=>
   simp only[jH,kH,jB,jF]
   rcases eA (oA (aN ts p.1).2.1) with b|b
   .simp only[b,kI,jB,jF,j0,jH,mC (show p.1<1000000 by omega)]
   simp only[b,kH,jB,jF,j0,jH,c,dO]
 have k1':((aN ts p.1).1 !=3)=true:=by simp[k1]
 simp only[k1',jH,j0,if_neg k1,bG,c,dO]
 cases pth<;>rfl
theorem PI(d:z.2≠0)(hi:i<ts.length)(pth:Bool):oH N (bR ts z i pr b) pth=some (bR ts z i pr b,⟨#[]⟩):=by
 have a:=pN (N:=N) (ts:=ts) (i:=i) (pr:=pr) (b:=b) (z:=z) hi
 have c:=qF (N:=N) (ts:=ts) (i:=i) (pr:=pr) (b:=b) d (aN ts i).2.2.2 9
 have hz':(z.2 !=0)=true:=by simpa using d
 simp only[bR] at a c
 simp only[oH,bR,a,j0,hz',jH,c]
theorem XQ{i:Nat}(h:i<2000000):IntKind.wrap .i64 ((i:Int)+1)=((i+1:Nat):Int):=by rw[bQ (by omega) (by omega)];omega
theorem UM{s:BA}{l:List BA}(a:l.length<2000000):∀(d i M:Nat),i+d=l.length->d<M->
  aI (AN N l s) M (i:Int)=some (if s∈l.drop i then .inr true else .inl ())
 |d,i,0,_,h=>by omega
 |0,i,M+1,h,_=>by
  have:l.drop i=[]:=jM (by omega)
  simp only[aI,AN,this]
  rw[if_neg (by simp only[jA];omega)]
  rfl
 |d+1,i,M+1,h,c=>by
  have hi:i<l.length:=by omega
  have b:=UM (s:=s) a d (i+1) M (by omega) (by omega)
  simp only[aI,AN]
  rw[if_pos (by simp only[jA];omega),dX hi,jN hi]
  simp only[j0,iQ,jA,jV]
  by_cases hs:l[i]=s
  .rw[if_pos hs,if_pos (.inl hs.symm)];rfl
  rw[if_neg hs]
  simp only[j0,XQ (show i<2000000 by omega),b]
  by_cases h2:s∈l.drop (i+1)
  .rw[if_pos h2,if_pos (.inr h2)]
  rw[if_neg h2,if_neg (fun h=>h.elim (fun e=>hs e.symm) h2)]
theorem HL{s:BA}{l:List BA}(b:l.length<2000000)(a:l.length<N):oI N l s=some (decide (s∈l)):=by
 have h:=UM (N:=N) (s:=s) b l.length 0 N (by omega) a
 simp only[jT] at h
 simp only[oI]
 rw[show(0:Int)=((0:Nat):Int) from rfl,h]
 simp only[j0]
 by_cases h2:s∈l
 .rw[if_pos h2,jU h2]
 rw[if_neg h2,jQ h2]
theorem andS(a b:Bool):(if a=true then some b else some false)=some (a&&b):=by cases a<;>rfl
theorem TD{s:BA}{k:Int}{f:Sr}(b:f.2.2.length<2000000):∀(d i M:Nat),i+d=f.2.2.length->d<M->
  aI (AF N f k s) M (i:Int)=some (if(f.2.2.drop i).any (fun d=>d.1==k&&decide (d.2.1=s))=true then .inr true else .inl ())
 |d,i,0,_,h=>by omega
 |0,i,M+1,h,_=>by
  have:f.2.2.drop i=[]:=jM (by omega)
  simp only[aI,AF,this]
  rw[if_neg (by simp only[jA];omega)]
  rfl
 |d+1,i,M+1,h,e=>by
  have hi:i<f.2.2.length:=by omega
  have c:=TD (s:=s) (k:=k) b d (i+1) M (by omega) (by omega)
  simp only[aI,AF]
  rw[if_pos (by simp only[jA];omega),dX hi,jN hi,fZ]
  simp only[j0,iQ,XQ (show i<2000000 by omega),andS]
  rcases eA (f.2.2[i].1==k&&decide (f.2.2[i].2.1=s)) with a|a
  .simp only[a,jH,j0,Bool.true_or]
  simp only[a,jB,jF,j0,c,kW]
theorem ZB{s:BA}{k:Int}{f:Sr}(c:f.2.2.length<2000000)(b:f.2.2.length<N):tH N f k s=some (f.2.2.any fun d=>d.1==k&&decide (d.2.1=s)):=by
 have h:=TD (N:=N) (s:=s) (k:=k) c f.2.2.length 0 N (by omega) b
 simp only[jT] at h
 simp only[tH]
 rw[show(0:Int)=((0:Nat):Int) from rfl,h]
 simp only[j0]
 rcases eA (f.2.2.any fun d=>d.1==k&&decide (d.2.1=s)) with a|a
 .rw[if_pos a,a]
 rw[if_neg (by rw[a];decide),a]
theorem op_3:lC ts 3 i=if bT ts 4 ⟨#[42]⟩ i=true then 3 else if bT ts 4 ⟨#[47]⟩ i=true then 4 else if bT ts 4 ⟨#[37]⟩ i=true then 5 else 0:=by
 unfold lC opsC
 simp only[List.find?,nU,uQ]
 rcases eA (bT ts 4 ⟨#[42]⟩ i) with a|a<;>rcases eA (bT ts 4 ⟨#[47]⟩ i) with b|b<;>rcases eA (bT ts 4 ⟨#[37]⟩ i) with c|c<;>simp[a,b,c]
theorem op_2:lC ts 2 i=if bT ts 4 ⟨#[43]⟩ i=true then 1 else if bT ts 4 ⟨#[45]⟩ i=true then 2 else 0:=by
 unfold lC opsC
 simp only[List.find?,nU,uQ]
 rcases eA (bT ts 4 ⟨#[43]⟩ i) with a|a<;>rcases eA (bT ts 4 ⟨#[45]⟩ i) with b|b<;>simp[a,b]
theorem op_1:lC ts 1 i=if bT ts 4 ⟨#[60]⟩ i=true then 6 else if bT ts 4 ⟨#[61,61]⟩ i=true then 7 else 0:=by
 unfold lC opsC
 simp only[List.find?,nU,uQ]
 rcases eA (bT ts 4 ⟨#[60]⟩ i) with a|a<;>rcases eA (bT ts 4 ⟨#[61,61]⟩ i) with b|b<;>simp[a,b]
theorem CN{α:Type}{t:bP}{e:Int}(a:e≠0)(h:(dO t e:bU⊕α)= .inl z):z.2≠0:=by
 obtain rfl:=Sum.inl.inj h;exact a
theorem oU{s:BA}(h:cS ts s i= .inl z):z.2≠0:=by
 unfold cS at h;split at h
 .cases h
 exact CN (by decide) h
theorem GQ{k:Int}(h:lB ts k i= .inl z):z.2≠0:=by
 unfold lB at h;split at h
 .cases h
 exact CN (by decide) h
theorem PK{α β:Type}{x:bU⊕α}{f:α->bU⊕β}(h:bG x f= .inl z):x= .inl z\/∃a,x= .inr a/\f a= .inl z:=by
 cases x with
 |inl y=>obtain rfl:=Sum.inl.inj h;exact .inl rfl
 |inr a=>exact .inr ⟨a,rfl,h⟩
theorem KL(h:lA ts i= .inl z):z.2≠0:=by
 rcases PK h with h|⟨a,_,h⟩
 .exact GQ h
 split at h
 .exact CN (by decide) h
 cases h
theorem KR(h:lT ts i= .inl z):z.2≠0:=by
 rcases PK h with h|⟨a,_,h⟩
 .exact GQ h
 split at h
 .cases h
 exact CN (by decide) h
theorem qJv(h:uD ts i= .inl z):z.2≠0:=by
 rcases PK h with h|⟨a,_,h⟩
 .exact GQ h
 split at h
 .cases h
 exact CN (by decide) h
theorem PD{t:bP}{x:Ex}{p:Ps}(h:iI t x p= .inl z):z.2≠0:=by
 unfold iI at h;split at h
 .exact CN (by decide) h
 cases h
end
def rH(ts:List bP)(z:bU)(st:RT):Prop:=z.2≠0/\∃(i:Nat) (pr:List BA) (b:List Ex),i<ts.length/\st=bR ts z i pr b
def eX(ts:List bP)(pr:List BA)(r:PM Nat)(o:RT×Int):Prop:=
 match r with
 | .inl z=>rH ts z o.1
 | .inr q=>o=(gR ts pr q.1,(q.2:Int))
section
variable {N:Nat} {ts:List bP} {pr:List BA} {E S:Ps->PM Nat} {d:Int}
variable {r1 r2 r3 r4:RT->Int->Option (RT×Int)}
theorem qG{z:bU}{i:Nat}{pr':List BA}{b:List Ex}{v:Int}(a:z.2≠0)(hi:i<ts.length):eX ts pr (.inl z) (bR ts z i pr' b,v):=⟨a,i,pr',b,hi,rfl⟩
theorem yR(t:bP)(x:Ex)(p:Ps)(c:p.1<ts.length)(b:p.2.length<=256):∃o,iG N (gR ts pr p) x t.2.2.2=some o/\eX ts pr (iI t x p) o:=by
 obtain⟨v,h⟩:=XM (N:=N) (ts:=ts) (pr:=pr) t x p b
 cases a:iI t x p with
 |inl z=>rw[a] at h;exact⟨_,h,qG (PD a) c⟩
 |inr q=>rw[a] at h;exact⟨_,h,rfl⟩
theorem CB{z:bU}{i:Nat}{pr':List BA}{b:List Ex}(c:z.2≠0)(hi:i<ts.length)(x:Ex)(a:Int):∃o,iG N (bR ts z i pr' b) x a=some o/\eX ts pr (.inl z) o:=by
 obtain⟨v,h⟩:=YD (N:=N) (ts:=ts) (pr:=pr') (b:=b) (i:=i) c x a
 exact⟨_,h,qG c hi⟩
theorem NN(t:bP)(x:Ex)(p:Ps)(b:OkT ts)(d:ts.length<1000000)(a:p.1<ts.length)(c:p.2.length<=256):∃o,
  ((eN N (gR ts pr p) (⟨#[41]⟩:BA)).bind fun y=>iG N y x t.2.2.2)=some o/\eX ts pr (bG (cS ts iM p.1) fun i=>iI t x (i,p.2)) o:=by
 have e:=qH (N:=N) (pr:=pr) p a d ⟨#[41]⟩
 simp only[e,j0,iM]
 cases h:cS ts ⟨#[41]⟩ p.1 with
 |inl z=>exact CB (oU h) a x _
 |inr j=>
  obtain⟨rfl,g,-⟩:=iR b a h
  exact yR t x (p.1+1,p.2) g c
theorem yN{z:bU}{i:Nat}{pr':List BA}{b:List Ex}(c:z.2≠0)(hi:i<ts.length)(x:Ex)(a:Int):∃o,
  ((eN N (bR ts z i pr' b) (⟨#[41]⟩:BA)).bind fun y=>iG N y x a)=some o/\eX ts pr (.inl z) o:=by
 simp only[pL c hi,j0]
 exact CB c hi x a
variable (hEg:∀p:Ps,p.1<ts.length->p.2.length<=256->∃o,r4 (gR ts pr p) (IntKind.wrap .i64 (d+1))=some o/\eX ts pr (E p) o)
variable (hEb:∀(z:bU) (i:Nat) (pr':List BA) (b:List Ex),z.2≠0->i<ts.length->∃v,r4 (bR ts z i pr' b) (IntKind.wrap .i64 (d+1))=some (bR ts z i pr' b,v))
def LE(ts:List bP)(E:Ps->PM Nat)(n:Nat)(l:List Int)(p:Ps):PM (List Int):=
 if bT ts 4 oM p.1 then rU ts E n l (p.1+1,p.2) else bG (cS ts iM p.1) fun i=> .inr ((i,p.2),l)
theorem KJ(n:Nat)(l:List Int)(p:Ps):rU ts E (n+1) l p=bG (E p) fun q=>LE ts E n (l++[(q.2:Int)]) q.1:=rfl
def ZZ(ts:List bP)(pr:List BA)(r:PM (List Int))(o:List Int×RT):Prop:=
 match r with
 | .inl z=>rH ts z o.2
 | .inr q=>o=(q.2,gR ts pr q.1)
theorem NV{z:bU}{i:Nat}{pr':List BA}{b:List Ex}(a:z.2≠0)(M:Nat)(l:List Int):aI (tC N r4 d) (M+1) (l,bR ts z i pr' b)=some (l,bR ts z i pr' b):=by
 have hz':(z.2==0)=false:=by simpa using a
 simp only[aI,tC,bR,hz',jB,jF,j0]
include hEg hEb in
theorem UD(k:OkT ts)(s:ts.length<1000000)(u:iP ts E):∀(n M:Nat) (l:List Int) (p:Ps),l≠[]->p.1<ts.length->p.2.length<=256->l.length<=p.1->ts.length<p.1+n->ts.length+2<p.1+M->
  ∃o,aI (tC N r4 d) M (l,gR ts pr p)=some o/\ZZ ts pr (LE ts E n l p) o
 |0,M,l,p,_,c,_,_,h,_=>by omega
 |n+1,0,l,p,_,c,_,_,_,h=>by omega
 |n+1,M+1,l,p,A,c,x,R,Y,V=>by
  have K:=nQ (N:=N) (pr:=pr) p c s ⟨#[41]⟩
  have t:decide ((l.length:Int)>0)=true:=by
   have:=fD.2 A
   exact jU (by omega)
  have G:((gR ts pr p).2.2.2.1==0)=true:=rfl
  simp only[aI,tC,Prod.eta,G,jH,K,j0]
  rcases eA (bT ts 4 ⟨#[41]⟩ p.1) with a|a
  .simp only[a,jH,kI,jB,jF]
   refine⟨_,rfl,?_⟩
   have e:bT ts 4 oM p.1=false:=by
    simp only[bT,jK,jA] at a
    simp[bT,a.2,oM]
   have r:cS ts iM p.1= .inr (p.1+1):=by simp[cS,iM,a]
   simp only[LE,e,jB,jF,r,bG]
   rfl
  simp only[a,jB,jF,kH,jH,t,Prod.eta,qH p c s,j0]
  have y:bT ts 4 oM p.1=bT ts 4 ⟨#[44]⟩ p.1:=rfl
  simp only[LE,y,cS]
  rcases eA (bT ts 4 ⟨#[44]⟩ p.1) with e|e
  .have g:=iX k c (by decide) e
   simp only[e,jH]
   obtain⟨o,H,f⟩:=hEg (p.1+1,p.2) g x
   simp only[H,j0]
   cases hE:E (p.1+1,p.2) with
   |inl z=>
    rw[hE] at f
    obtain⟨D,i,pr',b,hi,B⟩:=f
    rw[lU (by simp only[jD,jE];omega) (by omega)]
    simp only[j0,B]
    cases M with
    |zero=>omega
    |succ M=>
     refine⟨_,NV D M _,?_⟩
     rw[KJ,hE]
     exact⟨D,i,pr',b,hi,rfl⟩
   |inr q=>
    rw[hE] at f
    obtain⟨⟨B,D,S,F⟩,U⟩:=u (p.1+1,p.2) q.1 q.2 g x hE
    simp only at B
    rw[lU (by simp only[jD,jE];omega) (by omega)]
    have hr':o=(gR ts pr q.1,(q.2:Int)):=f
    simp only[j0,hr']
    rw[KJ,hE]
    exact UD k s u n M (l++[(q.2:Int)]) q.1 (by simp) D F (by simp only[jC,jD,jE];omega) (by omega) (by omega)
  simp only[e,jB,jF]
  have r:bT ts 4 iM p.1=false:=a
  simp only[r,jB,jF,dO,bG]
  obtain⟨v,f⟩:=hEb ((aN ts p.1).2.2.2,9) p.1 pr p.2 (show(9:Int)≠0 by decide) c
  simp only[f,j0]
  rw[lU (by simp only[jD,jE];omega) (by omega)]
  simp only[j0]
  cases M with
  |zero=>omega
  |succ M=>exact⟨_,NV (z:=((aN ts p.1).2.2.2,9)) (show(9:Int)≠0 by decide) M _,show(9:Int)≠0 by decide,p.1,pr,p.2,c,rfl⟩
include hEg hEb in
theorem qOj(n:OkT ts)(k:ts.length<1000000)(A:1000002<N)(g:iP ts E)(p:Ps)(f:p.1<ts.length)(h:p.2.length<=256):
  ∃o,aI (tC N r4 d) N ([],gR ts pr p)=some o/\ZZ ts pr (if bT ts 4 iM p.1 then .inr ((p.1+1,p.2),[]) else rU ts E (ts.length+1) [] p) o:=by
 obtain⟨M,rfl⟩:∃M,N=M+1:=⟨N-1,by omega⟩
 have u:=nQ (N:=M+1) (pr:=pr) p f k ⟨#[41]⟩
 have s:((gR ts pr p).2.2.2.1==0)=true:=rfl
 have e:decide ((([]:List Int).length:Int)>0)=false:=rfl
 simp only[aI,tC,Prod.eta,s,jH,u,j0,iM]
 rcases eA (bT ts 4 ⟨#[41]⟩ p.1) with c|c
 .simp only[c,jH,kI,jB,jF]
  exact⟨_,rfl,rfl⟩
 simp only[c,jB,jF,kH,jH,e,Prod.eta,j0]
 obtain⟨o,t,a⟩:=hEg p f h
 simp only[t,j0]
 cases hE:E p with
 |inl z=>
  rw[hE] at a
  obtain⟨r,i,pr',b,hi,l⟩:=a
  rw[lU (by simp) (by omega)]
  simp only[j0,l]
  cases M with
  |zero=>omega
  |succ M=>
   refine⟨_,NV r M _,?_⟩
   rw[KJ,hE]
   exact⟨r,i,pr',b,hi,rfl⟩
 |inr q=>
  rw[hE] at a
  obtain⟨⟨v,l,x,r⟩,y⟩:=g p q.1 q.2 f h hE
  rw[lU (by simp) (by omega)]
  have hr':o=(gR ts pr q.1,(q.2:Int)):=a
  simp only[j0,hr']
  rw[KJ,hE]
  exact UD hEg hEb n k g ts.length M ([]++[(q.2:Int)]) q.1 (by simp) l r (by simp only[jC,jD,jE];omega) (by omega) (by omega)
end
section
variable {N:Nat} {ts:List bP} {pr:List BA} {E S:Ps->PM Nat} {d:Int}
variable {r1 r2 r3 r4:RT->Int->Option (RT×Int)}
theorem VX{y1:RT×bP}{y31:RT×BA}{p:Ps}(a:pr.length<1000):∀(k i M:Nat),i+k=pr.length->k<M->
  aI (tD N y1 y31 (gR ts pr p,false)) M (i:Int)=(match(pr.drop i).findIdx? (fun x=>decide (x=y31.2)) with
   |some j=>(iG N (gR ts pr p) (2,((i+j:Nat):Int),0,⟨#[]⟩,[]) y1.2.2.2.2).bind fun y=>some (.inr y)
   |none=>some (.inl ()))
 |k,i,0,_,h=>by omega
 |0,i,M+1,h,_=>by
  have:pr.drop i=[]:=jM (by omega)
  have c:decide ((i:Int)<((gR ts pr p).2.2.2.2.1.length:Int))=false:=jQ (by simp only[gR];omega)
  simp only[aI,tD,this,List.findIdx?_nil,c,jB,jF,j0]
 |k+1,i,M+1,h,e=>by
  have hi:i<pr.length:=by omega
  have d:=VX (y1:=y1) (y31:=y31) (p:=p) a k (i+1) M (by omega) (by omega)
  have c:decide ((i:Int)<((gR ts pr p).2.2.2.2.1.length:Int))=true:=jU (by simp only[gR];omega)
  have x:idx (gR ts pr p).2.2.2.2.1 (i:Int)=some pr[i]:=dX hi
  have b:((gR ts pr p).2.2.2.1==0)=true:=rfl
  rw[jN hi,List.findIdx?_cons]
  simp only[aI,tD,b,Prod.eta,c,x,jH,j0,iQ,jA]
  by_cases hs:pr[i]=y31.2
  .simp only[if_pos hs,jH,j0,gP]
   cases iG N (gR ts pr p) (2,(i:Int),0,⟨#[]⟩,[]) y1.2.2.2.2<;>rfl
  simp only[if_neg hs,j0,jB,jF,mC (show i<1000000 by omega),d]
  cases(pr.drop (i+1)).findIdx? (fun x=>decide (x=y31.2)) with
  |none=>rfl
  |some j=>simp only[kP];rw[show i+1+j=i+(j+1) by omega]
theorem OT{y1:RT×bP}{y31:RT×BA}{z:bU}{j:Nat}{pr':List BA}{b:List Ex}(d:z.2≠0)(a:pr'.length<1000):∀(k i M:Nat),i+k=pr'.length->k<M->
  aI (tD N y1 y31 (bR ts z j pr' b,false)) M (i:Int)=some (.inl ())
 |k,i,0,_,h=>by omega
 |0,i,M+1,h,_=>by
  have c:decide ((i:Int)<((bR ts z j pr' b).2.2.2.2.1.length:Int))=false:=jQ (by simp only[bR];omega)
  simp only[aI,tD,c,jB,jF,j0]
 |k+1,i,M+1,h,g=>by
  have hi:i<pr'.length:=by omega
  have f:=OT (y1:=y1) (y31:=y31) (j:=j) (b:=b) d a k (i+1) M (by omega) (by omega)
  have c:decide ((i:Int)<((bR ts z j pr' b).2.2.2.2.1.length:Int))=true:=jU (by simp only[bR];omega)
  have x:idx (bR ts z j pr' b).2.2.2.2.1 (i:Int)=some pr'[i]:=dX hi
  have e:((bR ts z j pr' b).2.2.2.1==0)=false:=by simpa[bR] using d
  simp only[aI,tD,e,Prod.eta,c,x,jH,j0,iQ,jA]
  have:((if pr'[i]=y31.2 then some false else some false):Option Bool)=some false:=by split<;>rfl
  simp only[this,j0,jB,jF,mC (show i<1000000 by omega),f]
variable (hEg:∀p:Ps,p.1<ts.length->p.2.length<=256->∃o,r4 (gR ts pr p) (IntKind.wrap .i64 (d+1))=some o/\eX ts pr (E p) o)
variable (hEb:∀(z:bU) (i:Nat) (pr':List BA) (b:List Ex),z.2≠0->i<ts.length->∃v,r4 (bR ts z i pr' b) (IntKind.wrap .i64 (d+1))=some (bR ts z i pr' b,v))
include hEg hEb in
theorem qKu(e:OkT ts)(k:ts.length<1000000)(H:100<N)(G:iP ts E)(t:bP)(p:Ps)(f:p.1<ts.length)(A:p.2.length<=256):∃o,
  ((eN N (gR ts pr p) (⟨#[40]⟩:BA)).bind fun D=>(oH N D true).bind fun r=>(eN N r.1 (⟨#[44]⟩:BA)).bind fun F=>(r4 F (IntKind.wrap .i64 (d+1))).bind fun c=>(eN N c.1 (⟨#[41]⟩:BA)).bind fun g=>iG N g (6,0,0,r.2,[c.2]) t.2.2.2)=some o/\
  eX ts pr (bG (cS ts mM p.1) fun i=>bG (bG (lT ts i) fun a=>bG (cS ts oM a.1) fun i=>bG (E (i,p.2)) fun q=>(.inr (q.1,((6,0,0,a.2.2.1,[(q.2:Int)]):Ex)):bU⊕(Ps×Ex))) fun q=>bG (cS ts iM q.1.1) fun i=>iI t q.2 (i,q.1.2)) o:=by
 have bad:∀{z:bU} {i:Nat} {pr':List BA} {b:List Ex} (x:BA),z.2≠0->i<ts.length->∃o,((r4 (bR ts z i pr' b) (IntKind.wrap .i64 (d+1))).bind fun c=>(eN N c.1 (⟨#[41]⟩:BA)).bind fun g=>iG N g (6,0,0,x,[c.2]) t.2.2.2)=some o/\eX ts pr (.inl z) o:=by
  intro z i pr' b x n hi
  obtain⟨v,h⟩:=hEb z i pr' b n hi
  simp only[h,j0]
  exact yN n hi _ _
 simp only[qH p f k,j0,mM]
 cases h1:cS ts ⟨#[40]⟩ p.1 with
 |inl z=>
  simp only[PI (oU h1) f,pL (oU h1) f,j0]
  exact bad _ (oU h1) f
 |inr i=>
  obtain⟨rfl,h,-⟩:=iR e f h1
  simp only[OX (p.1+1,p.2) h k H,j0,jH,bG]
  cases h2:lT ts (p.1+1) with
  |inl z=>
   simp only[pL (KR h2) h,j0]
   exact bad _ (KR h2) h
  |inr a=>
   obtain⟨rfl,s,-⟩:=qW e h h2
   simp only[qH (p.1+1+1,p.2) s k,j0,oM]
   cases y:cS ts ⟨#[44]⟩ (p.1+1+1) with
   |inl z=>exact bad _ (oU y) s
   |inr j=>
    obtain⟨rfl,u,-⟩:=iR e s y
    obtain⟨o,K,l⟩:=hEg (p.1+1+1+1,p.2) u A
    simp only[K,j0]
    cases h4:E (p.1+1+1+1,p.2) with
    |inl z=>
     rw[h4] at l
     obtain⟨n,i,pr',b,hi,B⟩:=l
     simp only[B]
     exact yN n hi _ _
    |inr q=>
     rw[h4] at l
     obtain⟨⟨M,n,R,B⟩,S⟩:=G (p.1+1+1+1,p.2) q.1 q.2 u A h4
     have hr':o=(gR ts pr q.1,(q.2:Int)):=l
     simp only[hr']
     exact NN t _ q.1 e k n B
theorem PZ(c:OkT ts)(h:ts.length<1000000)(r:100<N)(k:Int)(pth:Bool)(t:bP)(p:Ps)(f:p.1<ts.length)(s:p.2.length<=256):∃o,
  ((eN N (gR ts pr p) (⟨#[40]⟩:BA)).bind fun l=>(oH N l pth).bind fun g=>(eN N g.1 (⟨#[41]⟩:BA)).bind fun n=>iG N n (k,0,0,g.2,[]) t.2.2.2)=some o/\
  eX ts pr (bG (cS ts mM p.1) fun i=>bG (bG (if pth=true then lT ts i else uD ts i) fun a=>(.inr ((a.1,p.2),((k,0,0,a.2.2.1,[]):Ex)):bU⊕(Ps×Ex))) fun q=>bG (cS ts iM q.1.1) fun i=>iI t q.2 (i,q.1.2)) o:=by
 simp only[qH p f h,j0,mM]
 cases h1:cS ts ⟨#[40]⟩ p.1 with
 |inl z=>
  simp only[PI (oU h1) f,j0]
  exact yN (oU h1) f _ _
 |inr i=>
  obtain⟨rfl,d,-⟩:=iR c f h1
  simp only[OX (p.1+1,p.2) d h r,j0,bG]
  cases h2:(if pth=true then lT ts (p.1+1) else uD ts (p.1+1)) with
  |inl z=>
   have b:z.2≠0:=by
    split at h2
    .exact KR h2
    exact qJv h2
   exact yN b d _ _
  |inr a=>
   have b:a=(p.1+1+1,aN ts (p.1+1))/\p.1+1+1<ts.length:=by
    split at h2
    .obtain⟨e,b,-⟩:=qW c d h2;exact⟨e,b⟩
    obtain⟨e,b,-⟩:=UT c d h2;exact⟨e,b⟩
   obtain⟨rfl,b⟩:=b
   exact NN t _ (p.1+1+1,p.2) c h b s
theorem qMe(c:OkT ts)(h:ts.length<1000000)(t:bP)(p:Ps)(d:p.1<ts.length)(u:p.2.length<=256):∃o,
  ((eN N (gR ts pr p) (⟨#[40]⟩:BA)).bind fun n=>(eQ N n).bind fun g=>(sC N g.1).bind fun b=>(if(decide (b.2>=64))=true then((eW N b.1 g.2.2.2.2 9).bind fun r=>some r) else(some b.1):Option RT).bind fun v=>(eN N v (⟨#[41]⟩:BA)).bind fun s=>iG N s (10,b.2,0,⟨#[]⟩,[]) t.2.2.2)=some o/\
  eX ts pr (bG (cS ts mM p.1) fun i=>bG (bG (lB ts 2 i) fun a=>if a.2.2.2.1>=64 then dO a.2 9 else(.inr ((a.1,p.2),((10,a.2.2.2.1,0,⟨#[]⟩,[]):Ex)):bU⊕(Ps×Ex))) fun q=>bG (cS ts iM q.1.1) fun i=>iI t q.2 (i,q.1.2)) o:=by
 have f:¬decide ((0:Int)>=64)=true:=by decide
 simp only[qH p d h,j0,mM]
 cases h1:cS ts ⟨#[40]⟩ p.1 with
 |inl z=>
  simp only[pN d,qHn (oU h1) d,j0,if_neg f]
  exact yN (oU h1) d _ _
 |inr i=>
  obtain⟨rfl,e,-⟩:=iR c d h1
  simp only[iZ (p.1+1,p.2) e,NM (p.1+1,p.2) e h,j0,bG]
  cases h2:lB ts 2 (p.1+1) with
  |inl z=>
   simp only[if_neg f,j0]
   exact yN (GQ h2) e _ _
  |inr a=>
   obtain⟨rfl,l,-⟩:=tY c (by decide) e h2
   by_cases k:(aN ts (p.1+1)).2.2.1>=64
   .simp only[if_pos k,jA,jH,nC,j0]
    exact yN (show(9:Int)≠0 by decide) l _ _
   simp only[if_neg k,jA,j0]
   exact NN t _ (p.1+1+1,p.2) c h l u
end
section
variable {N:Nat} {ts:List bP} {pr:List BA} {E S:Ps->PM Nat} {d:Int}
variable {r1 r2 r3 r4:RT->Int->Option (RT×Int)}
theorem VZ{s:BA}{i:Nat}(h:(aN ts i).1=1):bT ts 1 s i=decide ((aN ts i).2.1=s):=by simp[bT,h]
theorem YU{k:Int}{s:BA}{i:Nat}(h:(aN ts i).1≠k):bT ts k s i=false:=by simp[bT,h]
theorem oE{α:Type}(x:Option α):(x.bind fun y=>some y)=x:=by cases x<;>rfl
theorem qHb{z:bU}{i:Nat}{pr':List BA}{b:List Ex}(c:z.2≠0)(hi:i<ts.length):wS N r1 r2 r3 r4 (bR ts z i pr' b) d=some (bR ts z i pr' b,0):=by
 have a:((bR ts z i pr' b).2.2.2.1 !=0)=true:=by simpa[bR] using c
 simp only[wS,Prod.eta,pN hi,j0,a,jH]
variable (hEg:∀p:Ps,p.1<ts.length->p.2.length<=256->∃o,r4 (gR ts pr p) (IntKind.wrap .i64 (d+1))=some o/\eX ts pr (E p) o)
variable (hEb:∀(z:bU) (i:Nat) (pr':List BA) (b:List Ex),z.2≠0->i<ts.length->∃v,r4 (bR ts z i pr' b) (IntKind.wrap .i64 (d+1))=some (bR ts z i pr' b,v))
include hEg hEb in
theorem qLk(e:OkT ts)(f:ts.length<1000000)(H:pr.length<1000)(hN:1000002<N)(M:iP ts E)(p:Ps)(l:p.1<ts.length)(t:p.2.length<=256):
  ∃o,wS N r1 r2 r3 r4 (gR ts pr p) d=some o/\eX ts pr (oV ts pr E p) o:=by
 have Y:((gR ts pr p).2.2.2.1 !=0)=false:=rfl
 simp only[wS,Prod.eta,iZ p l,j0,Y,jB,jF]
 unfold oV
 dsimp only
 by_cases k1:(aN ts p.1).1=2
 .have k1':((aN ts p.1).1==2)=true:=by simpa using k1
  have g:=e.next l (show(aN ts p.1).1≠5 by rw[k1];decide)
  rw[if_pos k1]
  simp only[k1',jH,NM p l f,lB,if_pos k1,j0]
  obtain⟨o,k,c⟩:=yR (N:=N) (pr:=pr) (aN ts p.1) (1,(aN ts p.1).2.2.1,0,⟨#[]⟩,[]) (p.1+1,p.2) g t
  simp only[k,j0]
  exact⟨_,rfl,c⟩
 have k1':((aN ts p.1).1==2)=false:=by simpa using k1
 rw[if_neg k1]
 simp only[k1',jB,jF,nQ p l f,j0]
 rcases eA (bT ts 4 QE p.1) with B|B
 .have c1':bT ts 4 ⟨#[45]⟩ p.1=true:=B
  have g:=iX e l (by decide) B
  simp only[B,c1',jH,NM (p.1+1,p.2) g f,j0]
  cases h:lB ts 2 (p.1+1) with
  |inl z=>
   obtain⟨o,k,c⟩:=CB (N:=N) (pr:=pr) (pr':=pr) (b:=p.2) (GQ h) g (1,IntKind.wrap .i64 (0-0),0,⟨#[]⟩,[]) (aN ts p.1).2.2.2
   simp only[k,j0]
   exact⟨_,rfl,c⟩
  |inr a=>
   obtain⟨rfl,F,-⟩:=tY e (by decide) g h
   obtain⟨o,k,c⟩:=yR (N:=N) (pr:=pr) (aN ts p.1) (1,IntKind.wrap .i64 (0-(aN ts (p.1+1)).2.2.1),0,⟨#[]⟩,[]) (p.1+1+1,p.2) F t
   simp only[k,j0,bG]
   exact⟨_,rfl,c⟩
 have c1':bT ts 4 ⟨#[45]⟩ p.1=false:=B
 simp only[B,c1',jB,jF,nQ p l f,j0]
 rcases eA (bT ts 4 mM p.1) with D|D
 .have c2':bT ts 4 ⟨#[40]⟩ p.1=true:=D
  have g:=iX e l (by decide) D
  obtain⟨o,k,c⟩:=hEg (p.1+1,p.2) g t
  simp only[D,c2',jH,k,j0]
  cases h:E (p.1+1,p.2) with
  |inl z=>
   rw[h] at c
   obtain⟨r,i,pr',b,hi,G⟩:=c
   simp only[G,pL r hi,j0,bG]
   exact⟨_,rfl,qG r hi⟩
  |inr q=>
   rw[h] at c
   obtain⟨⟨U,K,V,S⟩,v⟩:=M (p.1+1,p.2) q.1 q.2 g t h
   have hr':o=(gR ts pr q.1,(q.2:Int)):=c
   simp only[hr',qH q.1 K f,j0,bG,iM]
   cases u:cS ts ⟨#[41]⟩ q.1.1 with
   |inl z=>exact⟨_,rfl,qG (oU u) K⟩
   |inr j=>exact⟨_,rfl,rfl⟩
 have c2':bT ts 4 ⟨#[40]⟩ p.1=false:=D
 simp only[D,c2',jB,jF,oT p l f,j0]
 by_cases k2:(aN ts p.1).1=1
 rotate_left
 .-- no name
  rw[if_pos k2]
  have n:∀s,bT ts 1 s p.1=false:=fun s=>YU k2
  have v:lA ts p.1= .inl ((aN ts p.1).2.2.2,9):=by simp[lA,lB,k2,bG,dO]
  simp only[n,jB,jF,oT p l f,j0,CL p l f (by omega:100<N),v]
  have r:(((aN ts p.1).2.2.2,(9:Int)):bU).2≠0:=show(9:Int)≠0 by decide
  have u:=OT (N:=N) (ts:=ts) (y1:=(gR ts pr p,aN ts p.1)) (y31:=(bR ts ((aN ts p.1).2.2.2,9) p.1 pr p.2,(⟨#[]⟩:BA))) (j:=p.1) (pr':=pr) (b:=p.2) r H pr.length 0 N (by omega) (by omega)
  rw[show((0:Nat):Int)=0 from rfl] at u
  simp only[KU r,j0,kH,jH,u,qF r]
  exact⟨_,rfl,qG r l⟩
 rw[if_neg (show ¬(aN ts p.1).1≠1 by simpa using k2)]
 have g:=e.next l (show(aN ts p.1).1≠5 by rw[k2];decide)
 have n:∀s,bT ts 1 s p.1=decide ((aN ts p.1).2.1=s):=fun s=>VZ k2
 simp only[n,oT p l f,j0]
 by_cases w1:(aN ts p.1).2.1=oB
 .rw[if_pos (show(aN ts p.1).2.1∈[oB,nZ,oD,oC,oZ] by rw[w1];simp)]
  have w1':decide ((aN ts p.1).2.1=(⟨#[114,101,97,100]⟩:BA))=true:=jU w1
  simp only[w1',jH]
  obtain⟨o,k,c⟩:=qKu (N:=N) hEg hEb e f (by omega) M (aN ts p.1) (p.1+1,p.2) g t
  refine⟨o,Eq.trans ?_ k,?_⟩
  .simp only[oE]
  simp only[pI,if_pos w1]
  exact c
 have w1':decide ((aN ts p.1).2.1=(⟨#[114,101,97,100]⟩:BA))=false:=jQ w1
 simp only[w1',jB,jF,oT p l f,j0,n]
 by_cases w2:(aN ts p.1).2.1=nZ
 .rw[if_pos (show(aN ts p.1).2.1∈[oB,nZ,oD,oC,oZ] by rw[w2];simp)]
  have w2':decide ((aN ts p.1).2.1=(⟨#[115,105,122,101]⟩:BA))=true:=jU w2
  have wx:((aN ts p.1).2.1.toList==(⟨#[104,97,115]⟩:BA).toList)=false:=by rw[iQ,w2];decide
  have wy:((aN ts p.1).2.1.toList==(⟨#[101,110,118]⟩:BA).toList)=false:=by rw[iQ,w2];decide
  simp only[w2',jH,j0,wx,wy,jB,jF]
  obtain⟨o,k,c⟩:=PZ (N:=N) (pr:=pr) e f (by omega) 7 true (aN ts p.1) (p.1+1,p.2) g t
  refine⟨o,Eq.trans ?_ k,?_⟩
  .simp only[oE];rfl
  simp only[pI,if_neg w1,if_pos w2]
  exact c
 have w2':decide ((aN ts p.1).2.1=(⟨#[115,105,122,101]⟩:BA))=false:=jQ w2
 simp only[w2',jB,jF,oT p l f,j0,n]
 by_cases w3:(aN ts p.1).2.1=oD
 .rw[if_pos (show(aN ts p.1).2.1∈[oB,nZ,oD,oC,oZ] by rw[w3];simp)]
  have w3':decide ((aN ts p.1).2.1=(⟨#[104,97,115]⟩:BA))=true:=jU w3
  have wx:((aN ts p.1).2.1.toList==(⟨#[104,97,115]⟩:BA).toList)=true:=by rw[iQ,w3']
  simp only[w3',jH,j0,wx]
  obtain⟨o,k,c⟩:=PZ (N:=N) (pr:=pr) e f (by omega) 8 true (aN ts p.1) (p.1+1,p.2) g t
  refine⟨o,Eq.trans ?_ k,?_⟩
  .simp only[oE];rfl
  simp only[pI,if_neg w1,if_neg w2,if_pos w3]
  exact c
 have w3':decide ((aN ts p.1).2.1=(⟨#[104,97,115]⟩:BA))=false:=jQ w3
 simp only[w3',jB,jF,oT p l f,j0,n]
 by_cases w4:(aN ts p.1).2.1=oC
 .rw[if_pos (show(aN ts p.1).2.1∈[oB,nZ,oD,oC,oZ] by rw[w4];simp)]
  have w4':decide ((aN ts p.1).2.1=(⟨#[101,110,118]⟩:BA))=true:=jU w4
  have wx:((aN ts p.1).2.1.toList==(⟨#[104,97,115]⟩:BA).toList)=false:=by rw[iQ,w4];decide
  have wy:((aN ts p.1).2.1.toList==(⟨#[101,110,118]⟩:BA).toList)=true:=by rw[iQ,w4']
  simp only[w4',jH,j0,wx,wy,jB,jF]
  obtain⟨o,k,c⟩:=PZ (N:=N) (pr:=pr) e f (by omega) 9 false (aN ts p.1) (p.1+1,p.2) g t
  refine⟨o,Eq.trans ?_ k,?_⟩
  .simp only[oE];rfl
  simp only[pI,if_neg w1,if_neg w2,if_neg w3,if_pos w4]
  exact c
 have w4':decide ((aN ts p.1).2.1=(⟨#[101,110,118]⟩:BA))=false:=jQ w4
 simp only[w4',jB,jF,oT p l f,j0,n]
 by_cases w5:(aN ts p.1).2.1=oZ
 .rw[if_pos (show(aN ts p.1).2.1∈[oB,nZ,oD,oC,oZ] by rw[w5];simp)]
  have w5':decide ((aN ts p.1).2.1=(⟨#[102,108,105,112]⟩:BA))=true:=jU w5
  simp only[w5',jH]
  obtain⟨o,k,c⟩:=qMe (N:=N) (pr:=pr) e f (aN ts p.1) (p.1+1,p.2) g t
  refine⟨o,Eq.trans ?_ k,?_⟩
  .simp only[oE]
  simp only[pI,if_neg w1,if_neg w2,if_neg w3,if_neg w4]
  exact c
 have w5':decide ((aN ts p.1).2.1=(⟨#[102,108,105,112]⟩:BA))=false:=jQ w5
 rw[if_neg (show ¬(aN ts p.1).2.1∈[oB,nZ,oD,oC,oZ] by simp[w1,w2,w3,w4,w5])]
 simp only[w5',jB,jF,CL p l f (by omega:100<N),j0,lA,lB,if_pos k2,bG]
 rcases eA (rF (aN ts p.1).2.1) with R|R
 .simp only[R,jH,dO]
  have r:(((aN ts p.1).2.2.2,(9:Int)):bU).2≠0:=show(9:Int)≠0 by decide
  have u:=OT (N:=N) (ts:=ts) (y1:=(gR ts pr p,aN ts p.1)) (y31:=(bR ts ((aN ts p.1).2.2.2,9) p.1 pr p.2,(⟨#[]⟩:BA))) (j:=p.1) (pr':=pr) (b:=p.2) r H pr.length 0 N (by omega) (by omega)
  rw[show((0:Nat):Int)=0 from rfl] at u
  simp only[KU r,j0,kH,jH,u,qF r]
  exact⟨_,rfl,qG r l⟩
 simp only[R,jB,jF,nQ (p.1+1,p.2) g f,j0]
 rcases eA (bT ts 4 mM (p.1+1)) with A|A
 .have c4':bT ts 4 ⟨#[40]⟩ (p.1+1)=true:=A
  have F:=iX e g (by decide) A
  simp only[A,c4',jH,kI,jB,jF]
  have Z:cS ts mM (p.1+1)= .inr (p.1+1+1):=by simp[cS,A]
  simp only[sK,Z,bG]
  obtain⟨o,k,c⟩:=qOj (N:=N) hEg hEb e f (by omega) M (p.1+1+1,p.2) F t
  simp only[k,j0]
  cases ha:(if bT ts 4 iM (p.1+1+1)=true then .inr ((p.1+1+1+1,p.2),[]) else rU ts E (ts.length+1) [] (p.1+1+1,p.2):PM (List Int)) with
  |inl z=>
   rw[ha] at c
   obtain⟨r,i,pr',b,hi,G⟩:=c
   simp only[G]
   obtain⟨o2,v,y⟩:=CB (N:=N) (pr:=pr) (pr':=pr') (b:=b) r hi (3,0,0,(aN ts p.1).2.1,o.1) (aN ts p.1).2.2.2
   simp only[v,j0]
   exact⟨_,rfl,y⟩
  |inr q=>
   rw[ha] at c
   have hr':o=(q.2,gR ts pr q.1):=c
   have r:q.1.1<ts.length/\q.1.2.length<=256:=by
    split at ha
    .rename_i hc
     obtain rfl:=Sum.inr.inj ha
     exact⟨iX e F (by decide) hc,t⟩
    obtain⟨U,K,V,S⟩:=NO e M _ _ (p.1+1+1,p.2) q.1 q.2 F t ha
    exact⟨K,S⟩
   simp only[hr']
   obtain⟨o2,v,y⟩:=yR (N:=N) (pr:=pr) (aN ts p.1) (3,0,0,(aN ts p.1).2.1,q.2) q.1 r.1 r.2
   simp only[v,j0]
   exact⟨_,rfl,y⟩
 have c4':bT ts 4 ⟨#[40]⟩ (p.1+1)=false:=A
 simp only[A,c4',jB,jF,kH,jH]
 have u:=VX (N:=N) (ts:=ts) (pr:=pr) (y1:=(gR ts pr p,aN ts p.1)) (y31:=(gR ts pr (p.1+1,p.2),(aN ts p.1).2.1)) (p:=(p.1+1,p.2)) H pr.length 0 N (by omega) (by omega)
 rw[show((0:Nat):Int)=0 from rfl] at u
 simp only[u,jT,kF]
 cases hi:pr.findIdx? (fun x=>decide (x=(aN ts p.1).2.1)) with
 |none=>
  simp only[j0,nC]
  exact⟨_,rfl,qG (show(9:Int)≠0 by decide) g⟩
 |some j=>
  obtain⟨o2,v,y⟩:=yR (N:=N) (pr:=pr) (aN ts p.1) (2,(j:Int),0,⟨#[]⟩,[]) (p.1+1,p.2) g t
  simp only[v,j0]
  exact⟨_,rfl,y⟩
end
section
variable {N:Nat} {ts:List bP} {pr:List BA} {E S:Ps->PM Nat} {d:Int}
variable {r r1 r2 r3 r4:RT->Int->Option (RT×Int)}
theorem YA{L i:Nat}(h:lC ts L i≠0):(aN ts i).1=4:=by
 apply Decidable.byContradiction
 intro b
 apply h
 unfold lC
 have:opsC.find? (nU ts L i)=none:=by
  rw[List.find?_eq_none]
  intro o _ a
  simp only[nU,jK] at a
  exact b (KD a.1)
 rw[this]
theorem ZP{f:Int×RT->Option ((Int×RT)⊕(Int×RT))}{L:Nat}(A:OkT ts)(H:iP ts S)
  (t:∀p:Ps,p.1<ts.length->p.2.length<=256->∃o,r (gR ts pr p) d=some o/\eX ts pr (S p) o)
  (a1:∀(z:bU) (i:Nat) (pr':List BA) (b:List Ex),z.2≠0->i<ts.length->∃v,r (bR ts z i pr' b) d=some (bR ts z i pr' b,v))
  (y:∀(z:bU) (i:Nat) (pr':List BA) (b:List Ex) (v:Int),z.2≠0->f (v,bR ts z i pr' b)=some (.inr (v,bR ts z i pr' b)))
  {n M x:Nat} {p:Ps} (R:p.1<ts.length) (u:p.2.length<=256) (hM:0<M) (G:L≠1) (e:lC ts L p.1≠0)
  (U:∀(x:Nat) (q:Ps),q.1<ts.length->p.1<q.1->q.2.length<=256->x<q.2.length->∃o,aI f M ((x:Int),gR ts pr q)=some o/\eX ts pr (mQ ts L S n x q) (o.2,o.1)):
  ∃o,((r (gR ts pr (p.1+1,p.2)) d).bind fun B=>(iG N B.1 (4,0,lC ts L p.1,⟨#[]⟩,[(x:Int),B.2]) (aN ts p.1).2.2.2).bind fun D=>aI f M (D.2,D.1))=some o/\eX ts pr (mQ ts L S (n+1) x p) (o.2,o.1):=by
 have g:=A.next R (show(aN ts p.1).1≠5 by rw[YA e];decide)
 obtain⟨o,K,c⟩:=t (p.1+1,p.2) g u
 obtain⟨M',rfl⟩:∃M',M=M'+1:=⟨M-1,by omega⟩
 have bad:∀(z:bU) (i:Nat) (pr':List BA) (b:List Ex) (v:Int),z.2≠0->aI f (M'+1) (v,bR ts z i pr' b)=some (v,bR ts z i pr' b):=by
  intro z i pr' b v a
  simp only[aI,y z i pr' b v a,j0]
 simp only[K,j0,mQ]
 rw[if_neg e]
 cases h:S (p.1+1,p.2) with
 |inl z=>
  rw[h] at c
  obtain⟨a,i,pr',b,hi,l⟩:=c
  simp only[l,bG]
  obtain⟨v,k⟩:=YD (N:=N) (ts:=ts) (pr:=pr') (b:=b) (i:=i) a (4,0,lC ts L p.1,⟨#[]⟩,[(x:Int),o.2]) (aN ts p.1).2.2.2
  simp only[k,j0,bad _ _ _ _ _ a]
  exact⟨_,rfl,qG a hi⟩
 |inr q=>
  rw[h] at c
  obtain⟨⟨E,a,F,l⟩,f5⟩:=H (p.1+1,p.2) q.1 q.2 g u h
  have hr':o=(gR ts pr q.1,(q.2:Int)):=c
  simp only[hr',bG]
  obtain⟨v,k⟩:=XM (N:=N) (ts:=ts) (pr:=pr) (aN ts p.1) (4,0,lC ts L p.1,⟨#[]⟩,[(x:Int),(q.2:Int)]) q.1 l
  simp only[k,j0]
  cases hn:iI (aN ts p.1) (4,0,lC ts L p.1,⟨#[]⟩,[(x:Int),(q.2:Int)]) q.1 with
  |inl z=>
   simp only[bad _ _ _ _ _ (PD hn)]
   exact⟨_,rfl,qG (PD hn) a⟩
  |inr s=>
   obtain⟨⟨V,Y,k3,Z⟩,k5⟩:=tX (ts:=ts) (p:=p) (r:=q.1) (by simp only at E;omega) a F l hn
   simp only[if_neg G]
   exact U s.2 s.1 Y V Z k5
theorem ZQ{L n x:Nat}{p:Ps}(a:lC ts L p.1=0):eX ts pr (mQ ts L S (n+1) x p) (gR ts pr p,(x:Int)):=by
 simp only[mQ]
 rw[if_pos a]
 rfl
theorem ON(z:bU)(i:Nat)(pr':List BA)(b:List Ex)(v:Int)(c:z.2≠0):rJ N r d (v,bR ts z i pr' b)=some (.inr (v,bR ts z i pr' b)):=by
 have a:((bR ts z i pr' b).2.2.2.1==0)=false:=by simpa[bR] using c
 simp only[rJ,a,jB,jF,Prod.eta]
theorem PA(z:bU)(i:Nat)(pr':List BA)(b:List Ex)(v:Int)(c:z.2≠0):sD N r d (v,bR ts z i pr' b)=some (.inr (v,bR ts z i pr' b)):=by
 have a:((bR ts z i pr' b).2.2.2.1==0)=false:=by simpa[bR] using c
 simp only[sD,a,jB,jF,Prod.eta]
theorem UA(B:OkT ts)(k:ts.length<1000000)(D:iP ts S)
  (A:∀p:Ps,p.1<ts.length->p.2.length<=256->∃o,r (gR ts pr p) d=some o/\eX ts pr (S p) o)
  (u:∀(z:bU) (i:Nat) (pr':List BA) (b:List Ex),z.2≠0->i<ts.length->∃v,r (bR ts z i pr' b) d=some (bR ts z i pr' b,v)):
  ∀(n M x:Nat) (p:Ps),p.1<ts.length->p.2.length<=256->x<p.2.length->ts.length<p.1+n->ts.length+1<p.1+M->
  ∃o,aI (rJ N r d) M ((x:Int),gR ts pr p)=some o/\eX ts pr (mQ ts 3 S n x p) (o.2,o.1)
 |0,M,x,p,c,_,_,h,_=>by omega
 |n+1,0,x,p,c,_,_,_,h=>by omega
 |n+1,M+1,x,p,c,H,Y,V,U=>by
  have t:((gR ts pr p).2.2.2.1==0)=true:=rfl
  have K:∀(x:Nat) (q:Ps),q.1<ts.length->p.1<q.1->q.2.length<=256->x<q.2.length->∃o,aI (rJ N r d) M ((x:Int),gR ts pr q)=some o/\eX ts pr (mQ ts 3 S n x q) (o.2,o.1):=
   fun x q F R a G=>UA B k D A u n M x q F a G (by omega) (by omega)
  have go:=fun E=>ZP (N:=N) (n:=n) (x:=x) B D A u (ON (N:=N) (r:=r) (d:=d)) c H (show 0<M by omega) (show 3≠1 by decide) E K
  have a:=op_3 (ts:=ts) (i:=p.1)
  rcases eA (bT ts 4 ⟨#[42]⟩ p.1) with e|e
  .simp only[e,jH] at a
   obtain⟨o,l,s⟩:=go (by rw[a];decide)
   refine⟨o,Eq.trans ?_ l,s⟩
   simp only[aI,rJ,Prod.eta,t,jH,iZ p c,nQ p c k,j0,e,a]
   cases r (gR ts pr (p.1+1,p.2)) d with
   |none=>rfl
   |some y=>simp only[j0];cases iG N y.1 (4,0,3,⟨#[]⟩,[(x:Int),y.2]) (aN ts p.1).2.2.2<;>rfl
  rcases eA (bT ts 4 ⟨#[47]⟩ p.1) with f|f
  .simp only[e,f,jH,jB,jF] at a
   obtain⟨o,l,s⟩:=go (by rw[a];decide)
   refine⟨o,Eq.trans ?_ l,s⟩
   simp only[aI,rJ,Prod.eta,t,jH,iZ p c,nQ p c k,j0,e,f,a,jB,jF]
   cases r (gR ts pr (p.1+1,p.2)) d with
   |none=>rfl
   |some y=>simp only[j0];cases iG N y.1 (4,0,4,⟨#[]⟩,[(x:Int),y.2]) (aN ts p.1).2.2.2<;>rfl
  rcases eA (bT ts 4 ⟨#[37]⟩ p.1) with g|g
  .simp only[e,f,g,jH,jB,jF] at a
   obtain⟨o,l,s⟩:=go (by rw[a];decide)
   refine⟨o,Eq.trans ?_ l,s⟩
   simp only[aI,rJ,Prod.eta,t,jH,iZ p c,nQ p c k,j0,e,f,g,a,jB,jF]
   cases r (gR ts pr (p.1+1,p.2)) d with
   |none=>rfl
   |some y=>simp only[j0];cases iG N y.1 (4,0,5,⟨#[]⟩,[(x:Int),y.2]) (aN ts p.1).2.2.2<;>rfl
  simp only[e,f,g,jB,jF] at a
  simp only[aI,rJ,Prod.eta,t,jH,iZ p c,nQ p c k,j0,e,f,g,jB,jF]
  exact⟨_,rfl,ZQ a⟩
theorem UI(s:OkT ts)(g:ts.length<1000000)(B:iP ts S)
  (l:∀p:Ps,p.1<ts.length->p.2.length<=256->∃o,r (gR ts pr p) d=some o/\eX ts pr (S p) o)
  (k:∀(z:bU) (i:Nat) (pr':List BA) (b:List Ex),z.2≠0->i<ts.length->∃v,r (bR ts z i pr' b) d=some (bR ts z i pr' b,v)):
  ∀(n M x:Nat) (p:Ps),p.1<ts.length->p.2.length<=256->x<p.2.length->ts.length<p.1+n->ts.length+1<p.1+M->
  ∃o,aI (sD N r d) M ((x:Int),gR ts pr p)=some o/\eX ts pr (mQ ts 2 S n x p) (o.2,o.1)
 |0,M,x,p,c,_,_,h,_=>by omega
 |n+1,0,x,p,c,_,_,_,h=>by omega
 |n+1,M+1,x,p,c,G,V,U,R=>by
  have t:((gR ts pr p).2.2.2.1==0)=true:=rfl
  have H:∀(x:Nat) (q:Ps),q.1<ts.length->p.1<q.1->q.2.length<=256->x<q.2.length->∃o,aI (sD N r d) M ((x:Int),gR ts pr q)=some o/\eX ts pr (mQ ts 2 S n x q) (o.2,o.1):=
   fun x q E K a F=>UI s g B l k n M x q E a F (by omega) (by omega)
  have go:=fun D=>ZP (N:=N) (n:=n) (x:=x) s B l k (PA (N:=N) (r:=r) (d:=d)) c G (show 0<M by omega) (show 2≠1 by decide) D H
  have a:=op_2 (ts:=ts) (i:=p.1)
  rcases eA (bT ts 4 ⟨#[43]⟩ p.1) with e|e
  .simp only[e,jH] at a
   obtain⟨o,u,A⟩:=go (by rw[a];decide)
   refine⟨o,Eq.trans ?_ u,A⟩
   simp only[aI,sD,Prod.eta,t,jH,iZ p c,nQ p c g,j0,e,a]
   cases r (gR ts pr (p.1+1,p.2)) d with
   |none=>rfl
   |some y=>simp only[j0];cases iG N y.1 (4,0,1,⟨#[]⟩,[(x:Int),y.2]) (aN ts p.1).2.2.2<;>rfl
  rcases eA (bT ts 4 ⟨#[45]⟩ p.1) with f|f
  .simp only[e,f,jH,jB,jF] at a
   obtain⟨o,u,A⟩:=go (by rw[a];decide)
   refine⟨o,Eq.trans ?_ u,A⟩
   simp only[aI,sD,Prod.eta,t,jH,iZ p c,nQ p c g,j0,e,f,a,jB,jF]
   cases r (gR ts pr (p.1+1,p.2)) d with
   |none=>rfl
   |some y=>simp only[j0];cases iG N y.1 (4,0,2,⟨#[]⟩,[(x:Int),y.2]) (aN ts p.1).2.2.2<;>rfl
  simp only[e,f,jB,jF] at a
  simp only[aI,sD,Prod.eta,t,jH,iZ p c,nQ p c g,j0,e,f,jB,jF]
  exact⟨_,rfl,ZQ a⟩
theorem qNn(k:OkT ts)(u:ts.length<1000000)(B:1000002<N)(e:iP ts S)
  (c:∀p:Ps,p.1<ts.length->p.2.length<=256->∃o,r1 (gR ts pr p) d=some o/\eX ts pr (S p) o)
  (h1b:∀(z:bU) (i:Nat) (pr':List BA) (b:List Ex),z.2≠0->i<ts.length->∃v,r1 (bR ts z i pr' b) d=some (bR ts z i pr' b,v))
  (p:Ps) (l:p.1<ts.length) (f:p.2.length<=256):∃o,wT N r1 r2 r3 r4 (gR ts pr p) d=some o/\eX ts pr (oW ts 3 S p) o:=by
 obtain⟨o,x,a⟩:=c p l f
 simp only[wT,Prod.eta,x,j0,oW]
 cases h:S p with
 |inl z=>
  rw[h] at a
  obtain⟨n,i,pr',b,hi,g⟩:=a
  obtain⟨M,rfl⟩:∃M,N=M+1:=⟨N-1,by omega⟩
  simp only[g,bG,aI,ON z i pr' b _ n,j0]
  exact⟨_,rfl,qG n hi⟩
 |inr q=>
  rw[h] at a
  obtain⟨⟨y,r,A,s⟩,t⟩:=e p q.1 q.2 l f h
  have hr':o=(gR ts pr q.1,(q.2:Int)):=a
  obtain⟨o2,g,n⟩:=UA (N:=N) k u e c h1b (ts.length+1) N q.2 q.1 r s t (by omega) (by omega)
  simp only[hr',bG,g,j0]
  exact⟨_,rfl,n⟩
theorem qKp(h1b:∀(z:bU) (i:Nat) (pr':List BA) (b:List Ex),z.2≠0->i<ts.length->∃v,r1 (bR ts z i pr' b) d=some (bR ts z i pr' b,v))(e:0<N)
  (z:bU) (i:Nat) (pr':List BA) (b:List Ex) (a:z.2≠0) (hi:i<ts.length):∃v,wT N r1 r2 r3 r4 (bR ts z i pr' b) d=some (bR ts z i pr' b,v):=by
 obtain⟨v,c⟩:=h1b z i pr' b a hi
 obtain⟨M,rfl⟩:∃M,N=M+1:=⟨N-1,by omega⟩
 simp only[wT,Prod.eta,c,j0,aI,ON z i pr' b _ a]
 exact⟨_,rfl⟩
theorem rsum(k:OkT ts)(u:ts.length<1000000)(B:1000002<N)(e:iP ts S)
  (c:∀p:Ps,p.1<ts.length->p.2.length<=256->∃o,r2 (gR ts pr p) d=some o/\eX ts pr (S p) o)
  (h2b:∀(z:bU) (i:Nat) (pr':List BA) (b:List Ex),z.2≠0->i<ts.length->∃v,r2 (bR ts z i pr' b) d=some (bR ts z i pr' b,v))
  (p:Ps) (l:p.1<ts.length) (f:p.2.length<=256):∃o,wV N r1 r2 r3 r4 (gR ts pr p) d=some o/\eX ts pr (oW ts 2 S p) o:=by
 obtain⟨o,x,a⟩:=c p l f
 simp only[wV,Prod.eta,x,j0,oW]
 cases h:S p with
 |inl z=>
  rw[h] at a
  obtain⟨n,i,pr',b,hi,g⟩:=a
  obtain⟨M,rfl⟩:∃M,N=M+1:=⟨N-1,by omega⟩
  simp only[g,bG,aI,PA z i pr' b _ n,j0]
  exact⟨_,rfl,qG n hi⟩
 |inr q=>
  rw[h] at a
  obtain⟨⟨y,r,A,s⟩,t⟩:=e p q.1 q.2 l f h
  have hr':o=(gR ts pr q.1,(q.2:Int)):=a
  obtain⟨o2,g,n⟩:=UI (N:=N) k u e c h2b (ts.length+1) N q.2 q.1 r s t (by omega) (by omega)
  simp only[hr',bG,g,j0]
  exact⟨_,rfl,n⟩
theorem qNe(h2b:∀(z:bU) (i:Nat) (pr':List BA) (b:List Ex),z.2≠0->i<ts.length->∃v,r2 (bR ts z i pr' b) d=some (bR ts z i pr' b,v))(e:0<N)
  (z:bU) (i:Nat) (pr':List BA) (b:List Ex) (a:z.2≠0) (hi:i<ts.length):∃v,wV N r1 r2 r3 r4 (bR ts z i pr' b) d=some (bR ts z i pr' b,v):=by
 obtain⟨v,c⟩:=h2b z i pr' b a hi
 obtain⟨M,rfl⟩:∃M,N=M+1:=⟨N-1,by omega⟩
 simp only[wV,Prod.eta,c,j0,aI,PA z i pr' b _ a]
 exact⟨_,rfl⟩
theorem qLm(z:bU)(i:Nat)(pr':List BA)(b:List Ex)(a:z.2≠0)(hi:i<ts.length):tF N r1 r2 r3 r4 (bR ts z i pr' b) d=some (bR ts z i pr' b,0):=by
 have c:((bR ts z i pr' b).2.2.2.1 !=0)=true:=by simpa[bR] using a
 simp only[tF,Prod.eta,pN hi,j0,qF a]
 have:((if decide (d>32)=true then some (bR ts z i pr' b) else some (bR ts z i pr' b)):Option RT)=some (bR ts z i pr' b):=by split<;>rfl
 simp only[this,j0,c,jH]
theorem qLj(c:d>32)(p:Ps)(a:p.1<ts.length):∃o,tF N r1 r2 r3 r4 (gR ts pr p) d=some o/\eX ts pr (dL ts pr 0 p) o:=by
 have hd':decide (d>32)=true:=by simpa using c
 simp only[tF,Prod.eta,iZ p a,j0,hd',jH,nC]
 have b:((bR ts ((aN ts p.1).2.2.2,2) p.1 pr p.2).2.2.2.1 !=0)=true:=by rfl
 simp only[b,jH]
 exact⟨_,rfl,qG (show(2:Int)≠0 by decide) a⟩
theorem qNx{k:Nat}(A:OkT ts)(F:ts.length<1000000)(hd:d+k=32)(S:iP ts (dL ts pr k))(hS:iP ts (rX ts pr (dL ts pr k)))
  (H:∀p:Ps,p.1<ts.length->p.2.length<=256->∃o,r4 (gR ts pr p) (IntKind.wrap .i64 (d+1))=some o/\eX ts pr (dL ts pr k p) o)
  (u:∀(z:bU) (i:Nat) (pr':List BA) (b:List Ex),z.2≠0->i<ts.length->∃v,r4 (bR ts z i pr' b) (IntKind.wrap .i64 (d+1))=some (bR ts z i pr' b,v))
  (Z:∀p:Ps,p.1<ts.length->p.2.length<=256->∃o,r3 (gR ts pr p) d=some o/\eX ts pr (rX ts pr (dL ts pr k) p) o)
  (h3b:∀(z:bU) (i:Nat) (pr':List BA) (b:List Ex),z.2≠0->i<ts.length->∃v,r3 (bR ts z i pr' b) d=some (bR ts z i pr' b,v))
  (p:Ps) (K:p.1<ts.length) (M:p.2.length<=256):∃o,tF N r1 r2 r3 r4 (gR ts pr p) d=some o/\eX ts pr (dL ts pr (k+1) p) o:=by
 have hd':decide (d>32)=false:=jQ (by omega)
 have g0:((gR ts pr p).2.2.2.1 !=0)=false:=rfl
 simp only[tF,Prod.eta,iZ p K,j0,hd',jB,jF,g0,oT p K F,dL]
 rcases eA (bT ts 1 HW p.1) with s|s
 rotate_left
 .have c1':bT ts 1 ⟨#[105,102]⟩ p.1=false:=s
  simp only[s,c1',jB,jF]
  obtain⟨o,ho,G⟩:=Z p K M
  simp only[ho,j0,CD,oW]
  cases h:rX ts pr (dL ts pr k) p with
  |inl z=>
   rw[h] at G
   obtain⟨e,i,pr',b,hi,l⟩:=G
   simp only[l,pN hi,KU e,j0,jB,jF,bG]
   exact⟨_,rfl,qG e hi⟩
  |inr q=>
   rw[h] at G
   obtain⟨⟨f1,B,f3,U⟩,f5⟩:=hS p q.1 q.2 K M h
   have hr':o=(gR ts pr q.1,(q.2:Int)):=G
   simp only[hr',iZ q.1 B,nQ q.1 B F,j0,bG,mQ]
   have go:∀op,op≠0->lC ts 1 q.1.1=op->∃o,((r3 (gR ts pr (q.1.1+1,q.1.2)) d).bind fun R=>(iG N R.1 (4,0,op,⟨#[]⟩,[(q.2:Int),R.2]) (aN ts q.1.1).2.2.2).bind fun Y=>some Y)=some o/\
     eX ts pr (if lC ts 1 q.1.1=0 then .inr (q.1,q.2) else bG (rX ts pr (dL ts pr k) (q.1.1+1,q.1.2)) fun a=>bG (iI (aN ts q.1.1) (4,0,lC ts 1 q.1.1,⟨#[]⟩,[(q.2:Int),(a.2:Int)]) a.1) fun r=> .inr r) o:=by
    intro op n t
    have g:=A.next B (show(aN ts q.1.1).1≠5 by rw[YA (L:=1) (by rw[t];exact n)];decide)
    obtain⟨o2,E,f⟩:=Z (q.1.1+1,q.1.2) g U
    rw[t,if_neg n]
    simp only[E,j0,oE]
    cases h2:rX ts pr (dL ts pr k) (q.1.1+1,q.1.2) with
    |inl z=>
     rw[h2] at f
     obtain⟨e,i,pr',b,hi,l⟩:=f
     simp only[l,bG]
     exact CB e hi _ _
    |inr a=>
     rw[h2] at f
     obtain⟨⟨j1,j2,j3,j4⟩,j5⟩:=hS (q.1.1+1,q.1.2) a.1 a.2 g U h2
     have hr2':o2=(gR ts pr a.1,(a.2:Int)):=f
     simp only[hr2',bG]
     obtain⟨o3,V,D⟩:=yR (N:=N) (pr:=pr) (aN ts q.1.1) (4,0,op,⟨#[]⟩,[(q.2:Int),(a.2:Int)]) a.1 j2 j4
     refine⟨o3,V,?_⟩
     cases hn:iI (aN ts q.1.1) (4,0,op,⟨#[]⟩,[(q.2:Int),(a.2:Int)]) a.1<;>rw[hn] at D<;>exact D
   have t:=op_1 (ts:=ts) (i:=q.1.1)
   rcases eA (bT ts 4 ⟨#[60]⟩ q.1.1) with f|f
   .simp only[f,jH] at t
    obtain⟨o4,D,E⟩:=go 6 (by decide) t
    simp only[f,jH,j0]
    exact⟨o4,D,by simpa only[bG] using E⟩
   rcases eA (bT ts 4 ⟨#[61,61]⟩ q.1.1) with n|n
   .simp only[f,n,jH,jB,jF] at t
    obtain⟨o4,D,E⟩:=go 7 (by decide) t
    simp only[f,n,jH,j0,jB,jF,nQ q.1 B F]
    exact⟨o4,D,by simpa only[bG] using E⟩
   simp only[f,n,jB,jF] at t
   simp only[f,n,j0,jB,jF,nQ q.1 B F]
   rw[if_pos t]
   exact⟨_,rfl,rfl⟩
 have c1':bT ts 1 ⟨#[105,102]⟩ p.1=true:=s
 have g:=iX A K (by decide) s
 simp only[s,c1',jH]
 -- behind an error
 have badN:∀{z:bU} {i:Nat} {pr':List BA} {b:List Ex} (x y w:Int),z.2≠0->i<ts.length->∃o,((iG N (bR ts z i pr' b) (5,0,0,⟨#[]⟩,[x,y,w]) (aN ts p.1).2.2.2).bind fun b6=>some b6)=some o/\eX ts pr (.inl z) o:=by
  intro z i pr' b x y w e hi
  simp only[oE]
  exact CB e hi _ _
 have nf:∀b:Bool,(if(!b)=true then(0:Nat) else 1)=if b=true then 1 else 0:=by intro b;cases b<;>rfl
 obtain⟨oa,a7,B⟩:=H (p.1+1,p.2) g M
 simp only[a7,j0]
 cases ha:dL ts pr k (p.1+1,p.2) with
 |inl z=>
  rw[ha] at B
  obtain⟨e,i,pr',b,hi,l⟩:=B
  obtain⟨v,t⟩:=u z i pr' b e hi
  simp only[l,PC e,j0,kH,jH,pN hi,qF e,t,bG]
  exact badN _ _ _ e hi
 |inr a=>
  rw[ha] at B
  obtain⟨⟨a1,E,a3,R⟩,a5⟩:=S (p.1+1,p.2) a.1 a.2 g M ha
  have hra':oa=(gR ts pr a.1,(a.2:Int)):=B
  have b0:qK ts HD a.1.1=if bT ts 1 ⟨#[116,104,101,110]⟩ a.1.1=true then .inr (a.1.1+1) else dO (aN ts a.1.1) 9:=rfl
  simp only[hra',oT a.1 E F,j0,bG,b0]
  rcases eA (bT ts 1 ⟨#[116,104,101,110]⟩ a.1.1) with f|f
  rotate_left
  .have e:(((aN ts a.1.1).2.2.2,(9:Int)):bU).2≠0:=show(9:Int)≠0 by decide
   obtain⟨v,t⟩:=u ((aN ts a.1.1).2.2.2,9) a.1.1 pr a.1.2 e E
   simp only[f,jB,jF,kH,jH,iZ a.1 E,nC,j0,t,PC e,pN E,qF e,dO]
   exact badN _ _ _ e E
  have V:=iX A E (by decide) f
  obtain⟨ob,a8,D⟩:=H (a.1.1+1,a.1.2) V R
  simp only[f,jH,kI,jB,jF,j0,a8]
  cases hb1:dL ts pr k (a.1.1+1,a.1.2) with
  |inl z=>
   rw[hb1] at D
   obtain⟨e,i,pr',b,hi,l⟩:=D
   obtain⟨v,t⟩:=u z i pr' b e hi
   simp only[l,PC e,j0,kH,jH,pN hi,qF e,t]
   exact badN _ _ _ e hi
  |inr b=>
   rw[hb1] at D
   obtain⟨⟨b1,G,b3,U⟩,b5⟩:=S (a.1.1+1,a.1.2) b.1 b.2 V R hb1
   have hrb':ob=(gR ts pr b.1,(b.2:Int)):=D
   have a6:qK ts HG b.1.1=if bT ts 1 ⟨#[101,108,115,101]⟩ b.1.1=true then .inr (b.1.1+1) else dO (aN ts b.1.1) 9:=rfl
   simp only[hrb',oT b.1 G F,j0,a6]
   rcases eA (bT ts 1 ⟨#[101,108,115,101]⟩ b.1.1) with n|n
   rotate_left
   .have e:(((aN ts b.1.1).2.2.2,(9:Int)):bU).2≠0:=show(9:Int)≠0 by decide
    obtain⟨v,t⟩:=u ((aN ts b.1.1).2.2.2,9) b.1.1 pr b.1.2 e G
    simp only[n,jB,jF,kH,jH,iZ b.1 G,nC,j0,t,dO]
    exact badN _ _ _ e G
   have Y:=iX A G (by decide) n
   obtain⟨oc,a9,t⟩:=H (b.1.1+1,b.1.2) Y U
   simp only[n,jH,kI,jB,jF,j0,a9]
   cases hc1:dL ts pr k (b.1.1+1,b.1.2) with
   |inl z=>
    rw[hc1] at t
    obtain⟨e,i,pr',b',hi,l⟩:=t
    simp only[l]
    exact badN _ _ _ e hi
   |inr c=>
    rw[hc1] at t
    obtain⟨⟨s,f,n,e⟩,l⟩:=S (b.1.1+1,b.1.2) c.1 c.2 Y U hc1
    have hrc':oc=(gR ts pr c.1,(c.2:Int)):=t
    simp only[hrc',oE]
    exact yR (N:=N) (pr:=pr) (aN ts p.1) (5,0,0,⟨#[]⟩,[(a.2:Int),(b.2:Int),(c.2:Int)]) c.1 f e
end
section
variable {N:Nat} {ts:List bP} {pr:List BA}
theorem OH(D:Nat)(c:1<=D)(d:Int)(z:bU)(i:Nat)(pr':List BA)(b:List Ex)(a:z.2≠0)(hi:i<ts.length):∃v,(eV N D).2.2.2 (bR ts z i pr' b) d=some (bR ts z i pr' b,v):=by
 obtain⟨D',rfl⟩:∃D',D=D'+1:=⟨D-1,by omega⟩
 simp only[eV]
 exact⟨_,qLm z i pr' b a hi⟩
theorem TM(D:Nat)(c:1<=D)(d:Int)(z:bU)(i:Nat)(pr':List BA)(b:List Ex)(a:z.2≠0)(hi:i<ts.length):∃v,(eV N D).1 (bR ts z i pr' b) d=some (bR ts z i pr' b,v):=by
 obtain⟨D',rfl⟩:∃D',D=D'+1:=⟨D-1,by omega⟩
 simp only[eV]
 exact⟨_,qHb a hi⟩
theorem WG(c:0<N)(D:Nat)(e:2<=D)(d:Int)(z:bU)(i:Nat)(pr':List BA)(b:List Ex)(a:z.2≠0)(hi:i<ts.length):∃v,(eV N D).2.1 (bR ts z i pr' b) d=some (bR ts z i pr' b,v):=by
 obtain⟨D',rfl⟩:∃D',D=D'+1:=⟨D-1,by omega⟩
 simp only[eV]
 exact qKp (fun z i pr' b a hi=>TM D' (by omega) d z i pr' b a hi) c z i pr' b a hi
theorem qKg(c:0<N)(D:Nat)(e:3<=D)(d:Int)(z:bU)(i:Nat)(pr':List BA)(b:List Ex)(a:z.2≠0)(hi:i<ts.length):∃v,(eV N D).2.2.1 (bR ts z i pr' b) d=some (bR ts z i pr' b,v):=by
 obtain⟨D',rfl⟩:∃D',D=D'+1:=⟨D-1,by omega⟩
 simp only[eV]
 exact qNe (fun z i pr' b a hi=>WG c D' (by omega) d z i pr' b a hi) c z i pr' b a hi
theorem XL(a:OkT ts)(g:ts.length<1000000)(n:pr.length<1000)(l:1000002<N):∀(k D:Nat),k<=32->4*k+1<=D->∀p:Ps,p.1<ts.length->p.2.length<=256->
  ∃o,(eV N D).2.2.2 (gR ts pr p) (33-(k:Int))=some o/\eX ts pr (dL ts pr k p) o
 |0,0,_,h,_,_,_=>by omega
 |0,D+1,_,_,p,c,_=>by simp only[eV];exact qLj (by omega) p c
 |k+1,D,A,f,p,c,d=>by
  have q:=sM (ts:=ts) (params:=pr) a k
  have s:=MX (params:=pr) a q
  have t:iP ts (CY ts pr (dL ts pr k)):=yM a s
  have y:iP ts (rX ts pr (dL ts pr k)):=yM a t
  have r:∀D,4*k+1<=D->∀p:Ps,p.1<ts.length->p.2.length<=256->∃o,(eV N D).2.2.2 (gR ts pr p) (IntKind.wrap .i64 (32-(k:Int)+1))=some o/\eX ts pr (dL ts pr k p) o:=by
   intro D f p c d
   rw[bQ (by omega) (by omega),show 32-(k:Int)+1=33-(k:Int) by omega]
   exact XL a g n l k D (by omega) f p c d
  have u:∀D,4*k+2<=D->∀p:Ps,p.1<ts.length->p.2.length<=256->∃o,(eV N D).1 (gR ts pr p) (32-(k:Int))=some o/\eX ts pr (oV ts pr (dL ts pr k) p) o:=by
   intro D f p c d
   obtain⟨D',rfl⟩:∃D',D=D'+1:=⟨D-1,by omega⟩
   simp only[eV]
   exact qLk (r D' (by omega)) (fun z i pr' b e hi=>OH D' (by omega) _ z i pr' b e hi) a g n l q p c d
  have v:∀D,4*k+3<=D->∀p:Ps,p.1<ts.length->p.2.length<=256->∃o,(eV N D).2.1 (gR ts pr p) (32-(k:Int))=some o/\eX ts pr (CY ts pr (dL ts pr k) p) o:=by
   intro D f p c d
   obtain⟨D',rfl⟩:∃D',D=D'+1:=⟨D-1,by omega⟩
   simp only[eV]
   exact qNn a g l s (u D' (by omega)) (fun z i pr' b e hi=>TM D' (by omega) _ z i pr' b e hi) p c d
  have x:∀D,4*k+4<=D->∀p:Ps,p.1<ts.length->p.2.length<=256->∃o,(eV N D).2.2.1 (gR ts pr p) (32-(k:Int))=some o/\eX ts pr (rX ts pr (dL ts pr k) p) o:=by
   intro D f p c d
   obtain⟨D',rfl⟩:∃D',D=D'+1:=⟨D-1,by omega⟩
   simp only[eV]
   exact rsum a g l t (v D' (by omega)) (fun z i pr' b e hi=>WG (by omega) D' (by omega) _ z i pr' b e hi) p c d
  obtain⟨D',rfl⟩:∃D',D=D'+1:=⟨D-1,by omega⟩
  rw[show(33:Int)-((k+1:Nat):Int)=32-(k:Int) by omega]
  simp only[eV]
  exact qNx a g (by omega) q y (r D' (by omega)) (fun z i pr' b e hi=>OH D' (by omega) _ z i pr' b e hi) (x D' (by omega)) (fun z i pr' b e hi=>qKg (by omega) D' (by omega) _ z i pr' b e hi) p c d
theorem qJa(a:OkT ts)(e:ts.length<1000000)(b:pr.length<1000)(c:1000002<N)(p:Ps)(f:p.1<ts.length)(d:p.2.length<=256):
 ∃o,uV N (gR ts pr p) 1=some o/\eX ts pr (dL ts pr 32 p) o:=XL a e b c 32 N (by omega) (by omega) p f d
theorem NJ(a:1<=N)(z:bU)(i:Nat)(pr':List BA)(b:List Ex)(c:z.2≠0)(hi:i<ts.length):∃v,uV N (bR ts z i pr' b) 1=some (bR ts z i pr' b,v):=OH N a 1 z i pr' b c hi
abbrev RL:=List bP×Int×Int×Int×List BA×List Ex×List Int×List BA
def bS(st:RT)(l:List BA):RL:=(st.1,st.2.1,st.2.2.1,st.2.2.2.1,st.2.2.2.2.1,st.2.2.2.2.2.1,st.2.2.2.2.2.2,l)
def GW(ts:List bP)(n:Nat)(l:List BA)(i:Nat):bU⊕(Nat×List BA):=
 if bT ts 4 oM i then sO ts n l (i+1) else bG (cS ts iM i) fun j=> .inr (j,l)
theorem qFt(n:Nat)(l:List BA)(i:Nat):sO ts (n+1) l i=bG (lA ts i) fun a=>if l.length=8 then dO a.2 2 else if a.2.2.1∈l then dO a.2 10 else GW ts n (l++[a.2.2.1]) a.1:=rfl
def DC(ts:List bP)(pr:List BA)(b:List Ex)(r:bU⊕(Nat×List BA))(o:RL):Prop:=
 match r with
 | .inl z=>∃st l,rH ts z st/\o=bS st l
 | .inr q=>o=bS (gR ts pr (q.1,b)) q.2
theorem FS{z:bU}{i:Nat}{pr':List BA}{b:List Ex}(a:z.2≠0)(M:Nat)(l:List BA):aI (mK N) (M+1) (bS (bR ts z i pr' b) l)=some (bS (bR ts z i pr' b) l):=by
 have hz':((bS (bR ts z i pr' b) l).2.2.2.1==0)=false:=by simpa[bR,bS] using a
 simp only[aI,mK,hz',jB,jF,j0]
theorem UC(A:ts.length<1000000)(E:1000002<N){i:Nat}{b:List Ex}{l:List BA}(hi:i<ts.length)(D:l.length<=8){G:RL->Option RL}{n:Nat}
  (f:∀(z:bU) (i:Nat) (pr':List BA) (b:List Ex) (l:List BA),z.2≠0->G (bS (bR ts z i pr' b) l)=some (bS (bR ts z i pr' b) l))
  (u:OkT ts)
  (B:∀(s:BA),i+1<ts.length->l.length<8->∃o,G (bS (gR ts pr (i+1,b)) (l++[s]))=some o/\DC ts pr b (GW ts n (l++[s]) (i+1)) o):
  ∃o,((eQ N (gR ts pr (i,b))).bind fun k=>(lZ N k.1).bind fun d=>(if((l.length:Int)==8)=true then((eW N d.1 k.2.2.2.2 2).bind fun v=>some v) else(some d.1):Option RT).bind fun r=>(oI N l d.2).bind fun p=>(if p=true then((eW N r k.2.2.2.2 10).bind fun y=>some y) else(some r):Option RT).bind fun h=>(cW 16 l ([d.2])).bind fun t=>G (bS h t))=some o/\
   DC ts pr b (sO ts (n+1) l i) o:=by
 rw[qFt]
 simp only[iZ (i,b) hi,j0,CL (i,b) hi A (by omega:100<N),oE]
 have c:∀s:BA,cW 16 l [s]=some (l++[s]):=fun s=>lU (by simp only[jD,jE];omega) (by omega)
 have g:∀s,oI N l s=some (decide (s∈l)):=fun s=>HL (by omega) (by omega)
 -- behind an error
 have q:∀(z:bU) (i:Nat) (pr':List BA) (b':List Ex) (s:BA) (a:Int),z.2≠0->i<ts.length->∃o,((oI N l s).bind fun p=>(if p=true then eW N (bR ts z i pr' b') a 10 else(some (bR ts z i pr' b')):Option RT).bind fun h=>(cW 16 l ([s])).bind fun t=>G (bS h t))=some o/\DC ts pr b (.inl z) o:=by
  intro z i pr' b' s a e hi
  simp only[g,j0,qF e]
  have:((if decide (s∈l)=true then some (bR ts z i pr' b') else some (bR ts z i pr' b')):Option RT)=some (bR ts z i pr' b'):=by split<;>rfl
  simp only[this,j0,c,f _ _ _ _ _ e]
  exact⟨_,rfl,bR ts z i pr' b',_,⟨e,i,pr',b',hi,rfl⟩,rfl⟩
 cases hx:lA ts i with
 |inl z=>
  have e:=KL hx
  have:((if((l.length:Int)==8)=true then eW N (bR ts z i pr b) (aN ts i).2.2.2 2 else some (bR ts z i pr b)):Option RT)=some (bR ts z i pr b):=by
   rw[qF e];split<;>rfl
  simp only[this,j0,bG]
  exact q z i pr b _ _ e hi
 |inr x=>
  obtain⟨rfl,e,-⟩:=qE u hi hx
  simp only[bG]
  by_cases k1:l.length=8
  .have k1':((l.length:Int)==8)=true:=by simp;omega
   rw[if_pos k1]
   simp only[k1',jH,nC,j0,dO]
   exact q _ _ _ _ _ _ (show(2:Int)≠0 by decide) e
  have k1':((l.length:Int)==8)=false:=by simp;omega
  rw[if_neg k1]
  simp only[k1',jB,jF,j0,g]
  by_cases k2:(aN ts i).2.1∈l
  .rw[if_pos k2]
   simp only[jU k2,jH,nC,j0,c,dO]
   refine⟨_,f _ _ _ _ _ (show(10:Int)≠0 by decide),bR ts ((aN ts i).2.2.2,10) (i+1) pr b,_,⟨show(10:Int)≠0 by decide,i+1,pr,b,e,rfl⟩,rfl⟩
  rw[if_neg k2]
  simp only[jQ k2,jB,jF,j0,c]
  exact B _ e (by omega)
theorem qFf(x:1000002<N){b:List Ex}{l:List BA}(v:l.length<=8){G:RL->Option RL}
  (g:∀(z:bU) (i:Nat) (pr':List BA) (b:List Ex) (l:List BA),z.2≠0->G (bS (bR ts z i pr' b) l)=some (bS (bR ts z i pr' b) l))
  {z:bU} {i:Nat} {pr':List BA} {b':List Ex} (d:z.2≠0) (hi:i<ts.length):
  ∃o,((eQ N (bR ts z i pr' b')).bind fun c=>(lZ N c.1).bind fun a=>(if((l.length:Int)==8)=true then((eW N a.1 c.2.2.2.2 2).bind fun n=>some n) else(some a.1):Option RT).bind fun e=>(oI N l a.2).bind fun p=>(if p=true then((eW N e c.2.2.2.2 10).bind fun q=>some q) else(some e):Option RT).bind fun k=>(cW 16 l ([a.2])).bind fun u=>G (bS k u))=some o/\
   DC ts pr b (.inl z) o:=by
 have f:∀s:BA,cW 16 l [s]=some (l++[s]):=fun s=>lU (by simp only[jD,jE];omega) (by omega)
 have h:∀s,oI N l s=some (decide (s∈l)):=fun s=>HL (by omega) (by omega)
 have r:((if((l.length:Int)==8)=true then some (bR ts z i pr' b') else some (bR ts z i pr' b')):Option RT)=some (bR ts z i pr' b'):=by split<;>rfl
 have t:((if decide ((⟨#[]⟩:BA)∈l)=true then some (bR ts z i pr' b') else some (bR ts z i pr' b')):Option RT)=some (bR ts z i pr' b'):=by split<;>rfl
 simp only[pN hi,j0,KS d hi,oE,qF d,r,h,t,f,g _ _ _ _ _ d]
 exact⟨_,rfl,bR ts z i pr' b',_,⟨d,i,pr',b',hi,rfl⟩,rfl⟩
theorem SL(d:OkT ts)(e:ts.length<1000000)(k:1000002<N){b:List Ex}:∀(n M:Nat) (l:List BA) (i:Nat),l≠[]->i<ts.length->l.length<=8->ts.length<i+n->ts.length+2<i+M->
  ∃o,aI (mK N) M (bS (gR ts pr (i,b)) l)=some o/\DC ts pr b (GW ts n l i) o
 |0,M,l,i,_,hi,_,h,_=>by omega
 |n+1,0,l,i,_,hi,_,_,h=>by omega
 |n+1,M+1,l,i,v,hi,f,H,F=>by
  have D:=nQ (N:=N) (pr:=pr) (i,b) hi e ⟨#[41]⟩
  have q:decide ((l.length:Int)>0)=true:=by
   have:=fD.2 v
   exact jU (by omega)
  have A:((bS (gR ts pr (i,b)) l).2.2.2.1==0)=true:=rfl
  have x:∀st:RT,∀l,((bS st l).1,(bS st l).2.1,(bS st l).2.2.1,(bS st l).2.2.2.1,(bS st l).2.2.2.2.1,(bS st l).2.2.2.2.2.1,(bS st l).2.2.2.2.2.2.1)=st:=fun _ _=>rfl
  have y:∀st:RT,∀l,(bS st l).2.2.2.2.2.2.2=l:=fun _ _=>rfl
  simp only[aI,mK,A,jH,x,y,D,j0,q]
  rcases eA (bT ts 4 ⟨#[41]⟩ i) with a|a
  .simp only[a,jH,kI,jB,jF]
   refine⟨_,rfl,?_⟩
   have c:bT ts 4 oM i=false:=by
    simp only[bT,jK,jA] at a
    simp[bT,a.2,oM]
   have p:cS ts iM i= .inr (i+1):=by simp[cS,iM,a]
   simp only[GW,c,jB,jF,p,bG]
   rfl
  have u:bT ts 4 oM i=bT ts 4 ⟨#[44]⟩ i:=rfl
  simp only[a,jB,jF,kH,jH,Prod.eta,qH (i,b) hi e,j0,GW,u,cS]
  rcases eA (bT ts 4 ⟨#[44]⟩ i) with c|c
  .have g:=iX d hi (by decide) c
   simp only[c,jH]
   obtain⟨o,p,r⟩:=UC (N:=N) (pr:=pr) (b:=b) (l:=l) (n:=n) (G:=aI (mK N) M) e k g f (fun z i pr' b l t=>by
    obtain⟨M',rfl⟩:∃M',M=M'+1:=⟨M-1,by omega⟩
    exact FS t M' l) d (fun s B E=>SL d e k n M (l++[s]) (i+1+1) (by simp) B (by simp only[jC,jD,jE];omega) (by omega) (by omega))
   refine⟨o,Eq.trans ?_ p,r⟩
   simp only[fC,j0]
   rfl
  have c1':bT ts 4 iM i=false:=a
  simp only[c,c1',jB,jF,dO,bG]
  obtain⟨o,p,r⟩:=qFf (N:=N) (pr:=pr) (b:=b) (l:=l) (z:=((aN ts i).2.2.2,9)) (i:=i) (pr':=pr) (b':=b) (G:=aI (mK N) M) k f (fun z i pr' b l t=>by
   obtain⟨M',rfl⟩:∃M',M=M'+1:=⟨M-1,by omega⟩
   exact FS t M' l) (show(9:Int)≠0 by decide) hi
  refine⟨o,Eq.trans ?_ p,r⟩
  simp only[fC,j0]
  rfl
theorem qMf(a:OkT ts)(d:ts.length<1000000)(x:1000005<N){b:List Ex}(i:Nat)(hi:i<ts.length):
  ∃o,aI (mK N) N (bS (gR ts pr (i,b)) [])=some o/\DC ts pr b (if bT ts 4 iM i then .inr (i+1,[]) else sO ts (ts.length+1) [] i) o:=by
 obtain⟨M,hM⟩:∃M,N=M+1:=⟨N-1,by omega⟩
 have t:=nQ (N:=N) (pr:=pr) (i,b) hi d ⟨#[41]⟩
 have k:((bS (gR ts pr (i,b)) []).2.2.2.1==0)=true:=rfl
 have e:decide ((([]:List BA).length:Int)>0)=false:=rfl
 have g:∀st:RT,∀l,((bS st l).1,(bS st l).2.1,(bS st l).2.2.1,(bS st l).2.2.2.1,(bS st l).2.2.2.2.1,(bS st l).2.2.2.2.2.1,(bS st l).2.2.2.2.2.2.1)=st:=fun _ _=>rfl
 have h:∀st:RT,∀l,(bS st l).2.2.2.2.2.2.2=l:=fun _ _=>rfl
 have f:aI (mK N) N (bS (gR ts pr (i,b)) [])=aI (mK N) (M+1) (bS (gR ts pr (i,b)) []):=by rw[<-hM]
 rw[f]
 simp only[aI,mK,k,jH,g,h,t,j0,e,iM]
 rcases eA (bT ts 4 ⟨#[41]⟩ i) with c|c
 .simp only[c,jH,kI,jB,jF]
  exact⟨_,rfl,rfl⟩
 simp only[c,jB,jF,kH,jH,Prod.eta,j0]
 obtain⟨o,q,r⟩:=UC (N:=N) (pr:=pr) (b:=b) (l:=[]) (n:=ts.length) (G:=aI (mK N) M) d (by omega) hi (by simp) (fun z i pr' b l u=>by
  obtain⟨M',rfl⟩:∃M',M=M'+1:=⟨M-1,by omega⟩
  exact FS u M' l) a (fun s p v=>SL a d (by omega) ts.length M ([]++[s]) (i+1) (by simp) p (by simp) (by omega) (by omega))
 refine⟨o,Eq.trans ?_ q,r⟩
 simp only[fC,j0]
 rfl
end
section
variable {N:Nat} {ts:List bP} {pr:List BA}
def HN(ts:List bP)(r:bU⊕(Nat×Dl))(o:RT×Dl):Prop:=
 match r with
 | .inl z=>rH ts z o.1
 | .inr a=>o=(gR ts a.2.2.2.1 (a.1,a.2.2.2.2),a.2)
def sP(N:Nat)(st:RT)(k:Int)(nm:BA):Option (RT×Dl):=
 ((if(k==1)=true then((eN N st (⟨#[40]⟩:BA)).bind fun a=>aI (mK N) N (bS a [])) else(some (bS st [])):Option RL)).bind fun a=>
 (eN N (a.1,a.2.1,a.2.2.1,a.2.2.2.1,a.2.2.2.2.2.2.2,a.2.2.2.2.2.1,a.2.2.2.2.2.2.1) (⟨#[61]⟩:BA)).bind fun b=>
 (uV N b 1).bind fun b=>(eN N b.1 (⟨#[59]⟩:BA)).bind fun b=>some (b,(k,nm,a.2.2.2.2.2.2.2,b.2.2.2.2.2.1))
theorem OA(h:1000005<N){z:bU}{i:Nat}{b:List Ex}(a:z.2≠0)(hi:i<ts.length)(k:Int)(nm:BA):∃o,sP N (bR ts z i pr b) k nm=some o/\rH ts z o.1:=by
 have tail:∀(i:Nat) (pr:List BA) (b:List Ex) (l:List BA),i<ts.length->∃o,((eN N ((bS (bR ts z i pr b) l).1,(bS (bR ts z i pr b) l).2.1,(bS (bR ts z i pr b) l).2.2.1,(bS (bR ts z i pr b) l).2.2.2.1,(bS (bR ts z i pr b) l).2.2.2.2.2.2.2,(bS (bR ts z i pr b) l).2.2.2.2.2.1,(bS (bR ts z i pr b) l).2.2.2.2.2.2.1) (⟨#[61]⟩:BA)).bind fun f=>
   (uV N f 1).bind fun g=>(eN N g.1 (⟨#[59]⟩:BA)).bind fun d=>some (d,(k,nm,(bS (bR ts z i pr b) l).2.2.2.2.2.2.2,d.2.2.2.2.2.1)))=some o/\rH ts z o.1:=by
  intro i pr b l hi
  have e:((bS (bR ts z i pr b) l).1,(bS (bR ts z i pr b) l).2.1,(bS (bR ts z i pr b) l).2.2.1,(bS (bR ts z i pr b) l).2.2.2.1,(bS (bR ts z i pr b) l).2.2.2.2.2.2.2,(bS (bR ts z i pr b) l).2.2.2.2.2.1,(bS (bR ts z i pr b) l).2.2.2.2.2.2.1)=bR ts z i l b:=rfl
  obtain⟨v,d⟩:=NJ (N:=N) (by omega) z i l b a hi
  simp only[e,pL a hi,j0,d]
  exact⟨_,rfl,a,i,l,b,hi,rfl⟩
 obtain⟨M,hM⟩:∃M,N=M+1:=⟨N-1,by omega⟩
 have g:aI (mK N) N (bS (bR ts z i pr b) [])=some (bS (bR ts z i pr b) []):=by
  have d:aI (mK N) N (bS (bR ts z i pr b) [])=aI (mK N) (M+1) (bS (bR ts z i pr b) []):=by rw[<-hM]
  rw[d];exact FS a M []
 unfold sP
 rcases eA (k==1) with c|c
 .simp only[c,jH,pL a hi,j0,g]
  exact tail i pr b [] hi
 simp only[c,jB,jF,j0]
 exact tail i pr b [] hi
theorem qGv(d:OkT ts)(h:ts.length<1000000)(x:1000005<N)(i:Nat)(hi:i<ts.length)(k:Int)(nm:BA):∃o,sP N (gR ts pr (i,[])) k nm=some o/\
  HN ts (bG (if k=1 then qV ts i else .inr (i,[])) fun bq=>bG (cS ts wP bq.1) fun j=>bG (dL ts bq.2 32 (j,[])) fun c=>bG (cS ts pP c.1.1) fun m=> .inr (m,(k,nm,bq.2,c.1.2))) o:=by
 have badt:∀(z:bU) (st:RT) (l:List BA),rH ts z st->∃o,((eN N ((bS st l).1,(bS st l).2.1,(bS st l).2.2.1,(bS st l).2.2.2.1,(bS st l).2.2.2.2.2.2.2,(bS st l).2.2.2.2.2.1,(bS st l).2.2.2.2.2.2.1) (⟨#[61]⟩:BA)).bind fun n=>
   (uV N n 1).bind fun g=>(eN N g.1 (⟨#[59]⟩:BA)).bind fun f=>some (f,(k,nm,(bS st l).2.2.2.2.2.2.2,f.2.2.2.2.2.1)))=some o/\rH ts z o.1:=by
  rintro z st l ⟨a,i,pr,b,hi,rfl⟩
  have e:((bS (bR ts z i pr b) l).1,(bS (bR ts z i pr b) l).2.1,(bS (bR ts z i pr b) l).2.2.1,(bS (bR ts z i pr b) l).2.2.2.1,(bS (bR ts z i pr b) l).2.2.2.2.2.2.2,(bS (bR ts z i pr b) l).2.2.2.2.2.1,(bS (bR ts z i pr b) l).2.2.2.2.2.2.1)=bR ts z i l b:=rfl
  obtain⟨v,p⟩:=NJ (N:=N) (by omega) z i l b a hi
  simp only[e,pL a hi,j0,p]
  exact⟨_,rfl,a,i,l,b,hi,rfl⟩
 have goodt:∀(q:Nat×List BA),q.1<ts.length->q.2.length<=8->∃o,((eN N ((bS (gR ts pr (q.1,[])) q.2).1,(bS (gR ts pr (q.1,[])) q.2).2.1,(bS (gR ts pr (q.1,[])) q.2).2.2.1,(bS (gR ts pr (q.1,[])) q.2).2.2.2.1,(bS (gR ts pr (q.1,[])) q.2).2.2.2.2.2.2.2,(bS (gR ts pr (q.1,[])) q.2).2.2.2.2.2.1,(bS (gR ts pr (q.1,[])) q.2).2.2.2.2.2.2.1) (⟨#[61]⟩:BA)).bind fun n=>
   (uV N n 1).bind fun g=>(eN N g.1 (⟨#[59]⟩:BA)).bind fun f=>some (f,(k,nm,(bS (gR ts pr (q.1,[])) q.2).2.2.2.2.2.2.2,f.2.2.2.2.2.1)))=some o/\
   HN ts (bG (cS ts wP q.1) fun j=>bG (dL ts q.2 32 (j,[])) fun c=>bG (cS ts pP c.1.1) fun m=> .inr (m,(k,nm,q.2,c.1.2))) o:=by
  intro q g A
  have e:((bS (gR ts pr (q.1,[])) q.2).1,(bS (gR ts pr (q.1,[])) q.2).2.1,(bS (gR ts pr (q.1,[])) q.2).2.2.1,(bS (gR ts pr (q.1,[])) q.2).2.2.2.1,(bS (gR ts pr (q.1,[])) q.2).2.2.2.2.2.2.2,(bS (gR ts pr (q.1,[])) q.2).2.2.2.2.2.1,(bS (gR ts pr (q.1,[])) q.2).2.2.2.2.2.2.1)=gR ts q.2 (q.1,[]):=rfl
  have u:(bS (gR ts pr (q.1,[])) q.2).2.2.2.2.2.2.2=q.2:=rfl
  rw[e]
  simp only[u,qH (q.1,[]) g h,j0,wP]
  cases hj:cS ts ⟨#[61]⟩ q.1 with
  |inl z=>
   have a:=oU hj
   obtain⟨v,p⟩:=NJ (N:=N) (by omega) z q.1 q.2 [] a g
   simp only[p,j0,pL a g,bG]
   exact⟨_,rfl,a,q.1,q.2,[],g,rfl⟩
  |inr j=>
   obtain⟨rfl,r,-⟩:=iR d g hj
   obtain⟨o,s,f⟩:=qJa (N:=N) (pr:=q.2) d h (by omega) (by omega) (q.1+1,[]) r (by simp)
   simp only[s,j0,bG]
   cases hc:dL ts q.2 32 (q.1+1,[]) with
   |inl z=>
    rw[hc] at f
    obtain⟨a,i,pr',b,hi,p⟩:=f
    simp only[p,pL a hi,j0]
    exact⟨_,rfl,a,i,pr',b,hi,rfl⟩
   |inr c=>
    rw[hc] at f
    obtain⟨⟨B,p,t,D⟩,-⟩:=sM d 32 (q.1+1,[]) c.1 c.2 r (by simp) hc
    have hr':o=(gR ts q.2 c.1,(c.2:Int)):=f
    simp only[hr',qH c.1 p h,j0,pP]
    cases y:cS ts ⟨#[59]⟩ c.1.1 with
    |inl z=>exact⟨_,rfl,oU y,c.1.1,q.2,c.1.2,p,rfl⟩
    |inr m=>exact⟨_,rfl,rfl⟩
 unfold sP
 by_cases c:k=1
 .have c':(k==1)=true:=by simpa using c
  simp only[c',jH,qH (i,[]) hi h,j0,if_pos c,qV,mM]
  cases h1:cS ts ⟨#[40]⟩ i with
  |inl z=>
   have a:=oU h1
   obtain⟨M,hM⟩:∃M,N=M+1:=⟨N-1,by omega⟩
   have u:aI (mK N) N (bS (bR ts z i pr []) [])=some (bS (bR ts z i pr []) []):=by
    have r:aI (mK N) N (bS (bR ts z i pr []) [])=aI (mK N) (M+1) (bS (bR ts z i pr []) []):=by rw[<-hM]
    rw[r];exact FS a M []
   simp only[u,j0,bG]
   exact badt z _ [] ⟨a,i,pr,[],hi,rfl⟩
  |inr j=>
   obtain⟨rfl,a,-⟩:=iR d hi h1
   obtain⟨o,s,f⟩:=qMf (N:=N) (pr:=pr) (b:=[]) d h x (i+1) a
   simp only[s,j0,bG]
   cases hP:(if bT ts 4 iM (i+1)=true then .inr (i+1+1,[]) else sO ts (ts.length+1) [] (i+1):bU⊕(Nat×List BA)) with
   |inl z=>
    rw[hP] at f
    obtain⟨st,l,r,rfl⟩:=f
    exact badt z st l r
   |inr q=>
    rw[hP] at f
    have hr':o=bS (gR ts pr (q.1,[])) q.2:=f
    have g:q.1<ts.length/\q.2.length<=8:=by
     split at hP
     .rename_i hc
      obtain rfl:=Sum.inr.inj hP
      exact⟨iX d a (by decide) hc,by simp⟩
     obtain⟨_,p,t⟩:=MY d _ _ _ q a (by simp) hP
     exact⟨p,t⟩
    rw[hr']
    exact goodt q g.1 g.2
 have c':(k==1)=false:=by simpa using c
 simp only[c',jB,jF,j0,if_neg c]
 exact goodt (i,[]) hi (by simp)
def GG(N:Nat)(f:Sr)(t:bP)(st:RT)(k:Int):Option (RT×Dl):=
 ((if((List.length f.2.2:Int)==64)=true then eW N st t.2.2.2 2 else some st):Option RT).bind fun o2=>(eQ N o2).bind fun b=>
 ((if(k==3)=true then oH N b.1 true else lZ N b.1):Option (RT×BA)).bind fun a=>
 ((if(a.1.2.2.2.1==0)=true then tH N f k a.2 else some false):Option Bool).bind fun o4=>
 ((if o4=true then eW N a.1 b.2.2.2.2 10 else some a.1):Option RT).bind fun b=>sP N b k a.2
theorem qGi(g:1000005<N){f:Sr}{t:bP}{z:bU}{i:Nat}{b:List Ex}(c:z.2≠0)(hi:i<ts.length)(k:Int):∃o,
  ((eQ N (bR ts z i pr b)).bind fun d=>((if(k==3)=true then oH N d.1 true else lZ N d.1):Option (RT×BA)).bind fun a=>
   ((if(a.1.2.2.2.1==0)=true then tH N f k a.2 else some false):Option Bool).bind fun o4=>
   ((if o4=true then eW N a.1 d.2.2.2.2 10 else some a.1):Option RT).bind fun h=>sP N h k a.2)=some o/\rH ts z o.1:=by
 have hz':((bR ts z i pr b).2.2.2.1==0)=false:=by simpa[bR] using c
 have e:((if(k==3)=true then oH N (bR ts z i pr b) true else lZ N (bR ts z i pr b)):Option (RT×BA))=some (bR ts z i pr b,⟨#[]⟩):=by
  rw[PI c hi,KS c hi];split<;>rfl
 simp only[pN hi,j0,e,hz',jB,jF]
 exact OA g c hi k _
theorem qFq(h:OkT ts)(p:ts.length<1000000)(n:1000005<N){f:Sr}(r:f.2.2.length<=64)(t:bP)(i:Nat)(hi:i<ts.length)(k:Int):∃o,GG N f t (gR ts pr (i,[])) k=some o/\
  HN ts (if f.2.2.length=64 then dO t 2 else bG (if k=3 then lT ts i else lA ts i) fun a=>
   if f.2.2.any (fun d=>d.1==k&&decide (d.2.1=a.2.2.1)) then dO a.2 10
   else bG (if k=1 then qV ts a.1 else .inr (a.1,[])) fun b=>
    bG (cS ts wP b.1) fun j=>bG (dL ts b.2 32 (j,[])) fun c=>
    bG (cS ts pP c.1.1) fun m=> .inr (m,(k,a.2.2.1,b.2,c.1.2))) o:=by
 unfold GG
 by_cases k1:f.2.2.length=64
 .have k1':((f.2.2.length:Int)==64)=true:=by simp;omega
  rw[if_pos k1]
  simp only[k1',jH,nC,j0,dO]
  exact qGi (t:=t) n (show(2:Int)≠0 by decide) hi k
 have k1':((f.2.2.length:Int)==64)=false:=by simp;omega
 rw[if_neg k1]
 simp only[k1',jB,jF,j0,iZ (i,[]) hi]
 have e:((if(k==3)=true then oH N (gR ts pr (i,[])) true else lZ N (gR ts pr (i,[]))):Option (RT×BA))=
   some (match(if k=3 then lT ts i else lA ts i) with| .inl z=>(bR ts z i pr [],⟨#[]⟩)| .inr a=>(gR ts pr (a.1,[]),a.2.2.1)):=by
  by_cases k3:k=3
  .have k3':(k==3)=true:=by simpa using k3
   rw[if_pos k3',if_pos k3,OX (i,[]) hi p (by omega)]<;>rfl
  have k3':(k==3)=false:=by simpa using k3
  rw[if_neg (by rw[k3'];decide),if_neg k3,CL (i,[]) hi p (by omega)]<;>rfl
 rw[e]
 simp only[j0]
 cases hX:(if k=3 then lT ts i else lA ts i) with
 |inl z=>
  have g:z.2≠0:=by
   split at hX
   .exact KR hX
   exact KL hX
  have hz':((bR ts z i pr []).2.2.2.1==0)=false:=by simpa[bR] using g
  simp only[hz',jB,jF,j0,bG]
  exact OA n g hi k _
 |inr a=>
  have ga:a=(i+1,aN ts i)/\i+1<ts.length:=by
   split at hX
   .obtain⟨e,g,-⟩:=qW h hi hX;exact⟨e,g⟩
   obtain⟨e,g,-⟩:=qE h hi hX;exact⟨e,g⟩
  obtain⟨rfl,g⟩:=ga
  have q:((gR ts pr (i+1,[])).2.2.2.1==0)=true:=rfl
  simp only[q,jH,ZB (N:=N) (f:=f) (k:=k) (s:=(aN ts i).2.1) (by omega) (by omega),j0]
  rw[show bG (Sum.inr (i+1,aN ts i)) (fun a:Nat×bP=>if f.2.2.any (fun d=>d.1==k&&decide (d.2.1=a.2.2.1))=true then dO a.2 10
   else bG (if k=1 then qV ts a.1 else .inr (a.1,[])) fun b=>
    bG (cS ts wP b.1) fun j=>bG (dL ts b.2 32 (j,[])) fun c=>
    bG (cS ts pP c.1.1) fun m=>(.inr (m,(k,a.2.2.1,b.2,c.1.2)):bU⊕(Nat×Dl)))=(if f.2.2.any (fun d=>d.1==k&&decide (d.2.1=(aN ts i).2.1))=true then dO (aN ts i) 10
   else bG (if k=1 then qV ts (i+1) else .inr (i+1,[])) fun b=>
    bG (cS ts wP b.1) fun j=>bG (dL ts b.2 32 (j,[])) fun c=>
    bG (cS ts pP c.1.1) fun m=>(.inr (m,(k,(aN ts i).2.1,b.2,c.1.2)):bU⊕(Nat×Dl))) from rfl]
  rcases eA (f.2.2.any fun d=>d.1==k&&decide (d.2.1=(aN ts i).2.1)) with l|l
  .rw[if_pos l]
   simp only[l,jH,nC,j0,dO]
   exact OA n (show(10:Int)≠0 by decide) g k _
  rw[if_neg (by rw[l];decide)]
  simp only[l,jB,jF,j0]
  exact qGv h p n (i+1) g k _
end
section
variable {N:Nat} {ts:List bP} {pr:List BA}
abbrev RN:=List bP×Int×Int×Int×List BA×List Ex×List Int×BA
def ZW(st:RT)(l:BA):RN:=(st.1,st.2.1,st.2.2.1,st.2.2.2.1,st.2.2.2.2.1,st.2.2.2.2.2.1,st.2.2.2.2.2.2,l)
theorem qOm(r:OkT ts)(p:ts.length<1000000)(B:1000005<N){f:Sr}(D:f.2.2.length<=64)(i:Nat)(b:List Ex)(hi:i<ts.length):∃o,DX N (gR ts pr (i,b)) f=some o/\HN ts (mE ts f.2.2 i) o:=by
 have A:((gR ts pr (i,b)).1,(gR ts pr (i,b)).2.1,(gR ts pr (i,b)).2.2.1,(gR ts pr (i,b)).2.2.2.1,([]:List BA),([]:List Ex),(gR ts pr (i,b)).2.2.2.2.2.2)=gR ts [] (i,[]):=rfl
 have rest:∀(st:RT) (k:Int),(((if((List.length f.2.2:Int)==64)=true then((eW N st (aN ts i).2.2.2 2).bind fun F=>some F) else(some st)):Option RT).bind fun o2=>(eQ N o2).bind fun q=>((if(k==3)=true then((oH N q.1 true).bind fun y=>some (ZW y.1 y.2)) else((lZ N q.1).bind fun z=>some (ZW z.1 z.2))):Option RN).bind fun a=>((if(a.2.2.2.1==0)=true then((tH N f k a.2.2.2.2.2.2.2).bind fun v=>some v) else(some false)):Option Bool).bind fun o4=>((if o4=true then((eW N (a.1,a.2.1,a.2.2.1,a.2.2.2.1,a.2.2.2.2.1,a.2.2.2.2.2.1,a.2.2.2.2.2.2.1) q.2.2.2.2 10).bind fun x=>some x) else(some (a.1,a.2.1,a.2.2.1,a.2.2.2.1,a.2.2.2.2.1,a.2.2.2.2.2.1,a.2.2.2.2.2.2.1))):Option RT).bind fun E=>sP N E k a.2.2.2.2.2.2.2)=GG N f (aN ts i) st k:=by
  intro st k
  unfold GG
  simp only[oE]
  refine congrArg _ (funext fun o2=>congrArg _ (funext fun q=> ?_))
  rcases eA (k==3) with c|c<;>simp only[c,jH,jB,jF,fC,j0]<;>rfl
 have fin:∀(k:Int),k≠0->lF (aN ts i).2.1=k->(aN ts i).1=1->∃o,GG N f (aN ts i) (gR ts [] (i+1,[])) k=some o/\HN ts (mE ts f.2.2 i) o:=by
  intro k u t d
  have g:=r.next hi (show(aN ts i).1≠5 by rw[d];decide)
  obtain⟨o,e,l⟩:=qFq (N:=N) (pr:=[]) r p B D (aN ts i) (i+1) g k
  refine⟨o,e,?_⟩
  unfold mE
  dsimp only
  rw[t,if_neg (by rintro(h|h);exact h d;exact u h)]
  exact l
 simp only[DX,A,iZ (i,[]) hi,j0,Prod.eta,oT (i,[]) hi p]
 by_cases d:(aN ts i).1=1
 .have n:∀s,bT ts 1 s i=decide ((aN ts i).2.1=s):=fun s=>VZ d
  simp only[n]
  by_cases w1:(aN ts i).2.1=(⟨#[102,117,110,99]⟩:BA)
  .simp only[jU w1,jH,j0]
   obtain⟨o,e,l⟩:=fin 1 (by decide) (by rw[w1];rfl) d
   refine⟨o,Eq.trans ?_ e,l⟩
   refine Eq.trans ?_ (rest (gR ts [] (i+1,[])) 1)
   simp only[oE,sP]
   rfl
  simp only[jQ w1,jB,jF,j0,oT (i,[]) hi p,n,Prod.eta]
  by_cases w2:(aN ts i).2.1=(⟨#[116,101,115,116]⟩:BA)
  .simp only[jU w2,jH,j0]
   obtain⟨o,e,l⟩:=fin 2 (by decide) (by rw[w2];rfl) d
   refine⟨o,Eq.trans ?_ e,l⟩
   refine Eq.trans ?_ (rest (gR ts [] (i+1,[])) 2)
   simp only[oE,sP]
   rfl
  simp only[jQ w2,jB,jF,j0,oT (i,[]) hi p,n,Prod.eta]
  by_cases w3:(aN ts i).2.1=(⟨#[103,101,110]⟩:BA)
  .simp only[jU w3,jH,j0]
   obtain⟨o,e,l⟩:=fin 3 (by decide) (by rw[w3];rfl) d
   refine⟨o,Eq.trans ?_ e,l⟩
   refine Eq.trans ?_ (rest (gR ts [] (i+1,[])) 3)
   simp only[oE,sP]
   rfl
  simp only[jQ w3,jB,jF,j0,nC,Prod.eta]
  refine⟨_,rfl,?_⟩
  have t:lF (aN ts i).2.1=0:=by
   unfold lF
   rw[if_neg (show ¬(aN ts i).2.1=HC from w1),if_neg (show ¬(aN ts i).2.1=HB from w2),if_neg (show ¬(aN ts i).2.1=HP from w3)]
  unfold mE
  dsimp only
  rw[if_pos (.inr t)]
  exact⟨show(9:Int)≠0 by decide,i,[],[],hi,rfl⟩
 have n:∀s,bT ts 1 s i=false:=fun s=>YU d
 simp only[n,jB,jF,j0,oT (i,[]) hi p,nC,Prod.eta]
 refine⟨_,rfl,?_⟩
 unfold mE
 dsimp only
 rw[if_pos (.inl d)]
 exact⟨show(9:Int)≠0 by decide,i,[],[],hi,rfl⟩
def QK(ts:List bP)(pr:List BA)(b:List Ex)(r:bU⊕(Nat×List BA))(o:RL):Prop:=
 match r with
 | .inl z=>∃st l,rH ts z st/\o=bS st l
 | .inr q=>o=bS (gR ts pr (q.1,b)) q.2
theorem SP{y5:RT×BA}{z:bU}{i:Nat}{pr':List BA}{b:List Ex}(a:z.2≠0)(M:Nat)(l:List BA):aI (nX N y5) (M+1) (bS (bR ts z i pr' b) l)=some (bS (bR ts z i pr' b) l):=by
 have hz':((bS (bR ts z i pr' b) l).2.2.2.1==0)=false:=by simpa[bR,bS] using a
 simp only[aI,nX,hz',jB,jF,j0]
theorem SE(k:OkT ts)(v:ts.length<1000000)(H:1000005<N){y5:RT×BA}{b:List Ex}:∀(n M:Nat) (l:List BA) (i:Nat),i<ts.length->l.length<=8->ts.length<i+n->ts.length+2<i+M->
  ∃o,aI (nX N y5) M (bS (gR ts pr (i,b)) l)=some o/\QK ts pr b (pJ ts y5.2 n l i) o
 |0,M,l,i,hi,_,h,_=>by omega
 |n+1,0,l,i,hi,_,_,h=>by omega
 |n+1,M+1,l,i,hi,R,U,S=>by
  have G:((bS (gR ts pr (i,b)) l).2.2.2.1==0)=true:=rfl
  have E:∀st:RT,∀l,((bS st l).1,(bS st l).2.1,(bS st l).2.2.1,(bS st l).2.2.2.1,(bS st l).2.2.2.2.1,(bS st l).2.2.2.2.2.1,(bS st l).2.2.2.2.2.2.1)=st:=fun _ _=>rfl
  have F:∀st:RT,∀l,(bS st l).2.2.2.2.2.2.2=l:=fun _ _=>rfl
  have e:∀s:BA,cW 16 l [s]=some (l++[s]):=fun s=>lU (by simp only[jD,jE];omega) (by omega)
  have u:∀s,oI N l s=some (decide (s∈l)):=fun s=>HL (by omega) (by omega)
  have bad:∀(z:bU) (i:Nat) (pr':List BA) (b':List Ex) (l:List BA),z.2≠0->i<ts.length->∃o,aI (nX N y5) M (bS (bR ts z i pr' b') l)=some o/\QK ts pr b (.inl z) o:=by
   intro z i pr' b' l c hi
   obtain⟨M',rfl⟩:∃M',M=M'+1:=⟨M-1,by omega⟩
   exact⟨_,SP c M' l,_,_,⟨c,i,pr',b',hi,rfl⟩,rfl⟩
  -- from the import's name on, behind an error
  have badn:∀(z:bU) (i:Nat) (pr':List BA) (b':List Ex),z.2≠0->i<ts.length->∃o,((eQ N (bR ts z i pr' b')).bind fun f=>(lZ N f.1).bind fun a=>((if(a.1.2.2.2.1==0)=true then(if(a.2.toList==y5.2.toList)=true then(some true) else(oI N l a.2)) else(some false)):Option Bool).bind fun A=>((if A=true then eW N a.1 f.2.2.2.2 10 else some a.1):Option RT).bind fun B=>(eN N B (⟨#[59]⟩:BA)).bind fun r=>(cW 16 l ([a.2])).bind fun y=>aI (nX N y5) M (bS r y))=some o/\QK ts pr b (.inl z) o:=by
   intro z i pr' b' c hi
   have hz':((bR ts z i pr' b').2.2.2.1==0)=false:=by simpa[bR] using c
   simp only[pN hi,KS c hi,j0,hz',jB,jF,pL c hi,e]
   exact bad z i pr' b' _ c hi
  -- the step
  have step:aI (nX N y5) (M+1) (bS (gR ts pr (i,b)) l)=(if bT ts 1 yV i=true then
    ((if((l.length:Int)==8)=true then some (bR ts ((aN ts i).2.2.2,2) (i+1) pr b) else some (gR ts pr (i+1,b))):Option RT).bind fun st=>((eQ N st).bind fun f=>(lZ N f.1).bind fun a=>((if(a.1.2.2.2.1==0)=true then(if(a.2.toList==y5.2.toList)=true then(some true) else(oI N l a.2)) else(some false)):Option Bool).bind fun A=>((if A=true then eW N a.1 f.2.2.2.2 10 else some a.1):Option RT).bind fun B=>(eN N B (⟨#[59]⟩:BA)).bind fun r=>(cW 16 l ([a.2])).bind fun y=>aI (nX N y5) M (bS r y))
    else some (bS (gR ts pr (i,b)) l)):=by
   have K:bT ts 1 yV i=((aN ts i).1==1&&decide ((aN ts i).2.1=(⟨#[105,109,112,111,114,116]⟩:BA))):=rfl
   have D:=mC (show i<1000000 by omega)
   simp only[aI,nX,G,jH,E,F,iZ (i,b) hi,j0,Prod.eta,iQ,K]
   rcases eA ((aN ts i).1==1) with d|d
   rotate_left
   .simp only[d,jB,jF,j0,Bool.false_and]
    rfl
   rcases eA (decide ((aN ts i).2.1=(⟨#[105,109,112,111,114,116]⟩:BA))) with p|p
   rotate_left
   .simp only[d,p,jB,jF,jH,j0,Bool.and_false]
    rfl
   simp only[d,p,jH,j0,Bool.and_true]
   rcases eA ((l.length:Int)==8) with q|q
   .simp only[q,jH,j0,iZ (i,b) hi,nC,oE]
    have t:((bR ts ((aN ts i).2.2.2,2) i pr b).1,IntKind.wrap .i64 ((bR ts ((aN ts i).2.2.2,2) i pr b).2.1+1),(bR ts ((aN ts i).2.2.2,2) i pr b).2.2.1,(bR ts ((aN ts i).2.2.2,2) i pr b).2.2.2.1,(bR ts ((aN ts i).2.2.2,2) i pr b).2.2.2.2.1,(bR ts ((aN ts i).2.2.2,2) i pr b).2.2.2.2.2.1,(bR ts ((aN ts i).2.2.2,2) i pr b).2.2.2.2.2.2)=bR ts ((aN ts i).2.2.2,2) (i+1) pr b:=by
     show(ts,IntKind.wrap .i64 ((i:Int)+1),(aN ts i).2.2.2,(2:Int),pr,b,([]:List Int))=_
     rw[D];rfl
    rw[t]
    simp only[fC,j0]
    rfl
   simp only[q,jB,jF,j0,oE]
   have t:((gR ts pr (i,b)).1,IntKind.wrap .i64 ((gR ts pr (i,b)).2.1+1),(gR ts pr (i,b)).2.2.1,(gR ts pr (i,b)).2.2.2.1,(gR ts pr (i,b)).2.2.2.2.1,(gR ts pr (i,b)).2.2.2.2.2.1,(gR ts pr (i,b)).2.2.2.2.2.2)=gR ts pr (i+1,b):=by
    show(ts,IntKind.wrap .i64 ((i:Int)+1),(0:Int),(0:Int),pr,b,([]:List Int))=_
    rw[D];rfl
   rw[t]
   simp only[fC,j0]
   rfl
  rw[step]
  simp only[pJ]
  rcases eA (bT ts 1 yV i) with d|d
  rotate_left
  .simp only[d,jB,jF]
   exact⟨_,rfl,rfl⟩
  have g:=iX k hi (by decide) d
  simp only[d,jH]
  by_cases k2:l.length=8
  .have k2':((l.length:Int)==8)=true:=by simp;omega
   rw[if_pos k2]
   simp only[k2',jH,j0,dO]
   exact badn _ _ _ _ (show(2:Int)≠0 by decide) g
  have k2':((l.length:Int)==8)=false:=by simp;omega
  rw[if_neg k2]
  simp only[k2',jB,jF,j0,iZ (i+1,b) g,CL (i+1,b) g v (by omega:100<N)]
  cases hx:lA ts (i+1) with
  |inl z=>
   have c:=KL hx
   have hz':((bR ts z (i+1) pr b).2.2.2.1==0)=false:=by simpa[bR] using c
   simp only[hz',jB,jF,j0,pL c g,e,bG]
   exact bad _ _ _ _ _ c g
  |inr x=>
   obtain⟨rfl,p,-⟩:=qE k g hx
   have t:((gR ts pr (i+1+1,b)).2.2.2.1==0)=true:=rfl
   simp only[t,jH,iQ,u,bG]
   by_cases q:(aN ts (i+1)).2.1=y5.2\/(aN ts (i+1)).2.1∈l
   .rw[if_pos q]
    have:((if decide ((aN ts (i+1)).2.1=y5.2)=true then some true else some (decide ((aN ts (i+1)).2.1∈l))):Option Bool)=some true:=by
     rcases q with h|h
     .rw[if_pos (jU h)]
     rw[jU h];split<;>rfl
    rw[this]
    simp only[j0,jH,nC,e,dO]
    have c:(((aN ts (i+1)).2.2.2,(10:Int)):bU).2≠0:=show(10:Int)≠0 by decide
    simp only[pL c p,j0]
    exact bad _ _ _ _ _ c p
   rw[if_neg q]
   have:((if decide ((aN ts (i+1)).2.1=y5.2)=true then some true else some (decide ((aN ts (i+1)).2.1∈l))):Option Bool)=some false:=by
    rw[if_neg (by simp only[jA];exact fun h=>q (.inl h)),jQ (fun h=>q (.inr h))]
   rw[this]
   simp only[j0,jB,jF,qH (i+1+1,b) p v,e,pP]
   cases c:cS ts ⟨#[59]⟩ (i+1+1) with
   |inl z=>exact bad _ _ _ _ _ (oU c) p
   |inr j=>
    obtain⟨rfl,D,-⟩:=iR k p c
    exact SE k v H n M _ (i+1+1+1) D (by simp only[jC,jD,jE];omega) (by omega) (by omega)
end
section
variable {N:Nat} {ts:List bP} {pr:List BA}
abbrev RD:=List bP×Int×Int×Int×List BA×List Ex×List Int×List Dl
def lI(st:RT)(l:List Dl):RD:=(st.1,st.2.1,st.2.2.1,st.2.2.2.1,st.2.2.2.2.1,st.2.2.2.2.2.1,st.2.2.2.2.2.2,l)
def relS(ts:List bP)(r:bU⊕List Dl)(o:RD):Prop:=
 match r with
 | .inl z=>∃st l,rH ts z st/\o=lI st l
 | .inr a=>∃pr p,o=lI (gR ts pr p) a
theorem TI{y5:RT×BA}{o2:RL}{z:bU}{i:Nat}{pr':List BA}{b:List Ex}(a:z.2≠0)(M:Nat)(l:List Dl):aI (pG N y5 o2) (M+1) (lI (bR ts z i pr' b) l)=some (lI (bR ts z i pr' b) l):=by
 have hz':((lI (bR ts z i pr' b) l).2.2.2.1==0)=false:=by simpa[bR,lI] using a
 simp only[aI,pG,hz',jB,jF,j0]
theorem TE(c:OkT ts)(k:ts.length<1000000)(g:1000005<N){y5:RT×BA}{o2:RL}:∀(n M:Nat) (l:List Dl) (i:Nat) (pr:List BA) (b:List Ex),i<ts.length->l.length<=64->ts.length<i+n->ts.length+2<i+M->
  ∃o,aI (pG N y5 o2) M (lI (gR ts pr (i,b)) l)=some o/\relS ts (qJ ts n l i) o
 |0,M,l,i,_,_,hi,_,h,_=>by omega
 |n+1,0,l,i,_,_,hi,_,_,h=>by omega
 |n+1,M+1,l,i,pr,b,hi,e,y,x=>by
  have t:((lI (gR ts pr (i,b)) l).2.2.2.1==0)=true:=rfl
  have r:∀st:RT,∀l,((lI st l).1,(lI st l).2.1,(lI st l).2.2.1,(lI st l).2.2.2.1,(lI st l).2.2.2.2.1,(lI st l).2.2.2.2.2.1,(lI st l).2.2.2.2.2.2.1)=st:=fun _ _=>rfl
  have s:∀st:RT,∀l,(lI st l).2.2.2.2.2.2.2=l:=fun _ _=>rfl
  simp only[aI,pG,t,jH,r,s,iZ (i,b) hi,j0,Prod.eta,qJ]
  by_cases k1:(aN ts i).1=5
  .have k1':((aN ts i).1 !=5)=false:=by simp[k1]
   rw[if_pos k1]
   simp only[k1',jB,jF,j0]
   exact⟨_,rfl,pr,(i,b),rfl⟩
  have k1':((aN ts i).1 !=5)=true:=by simp[k1]
  rw[if_neg k1]
  simp only[k1',jH]
  obtain⟨o,v,d⟩:=qOm (N:=N) (pr:=pr) (f:=(y5.2,o2.2.2.2.2.2.2.2,l)) c k g e i b hi
  simp only[v,j0]
  rw[lU (by simp only[jD,jE];omega) (by omega)]
  simp only[j0]
  cases hd:mE ts l i with
  |inl z=>
   rw[show mE ts (y5.2,o2.2.2.2.2.2.2.2,l).2.2 i=mE ts l i from rfl,hd] at d
   obtain⟨q,j,pr',b',u,p⟩:=d
   obtain⟨M',rfl⟩:∃M',M=M'+1:=⟨M-1,by omega⟩
   rw[p]
   exact⟨_,TI q M' _,_,_,⟨q,j,pr',b',u,rfl⟩,rfl⟩
  |inr a=>
   rw[show mE ts (y5.2,o2.2.2.2.2.2.2.2,l).2.2 i=mE ts l i from rfl,hd] at d
   obtain⟨q,p,u⟩:=FZ c hi hd
   have hr':o=(gR ts a.2.2.2.1 (a.1,a.2.2.2.2),a.2):=d
   rw[hr']
   exact TE c k g n M (l++[a.2]) a.1 _ _ p (by simp only[jC,jD,jE];omega) (by omega) (by omega)
theorem qOf(d:OkT ts)(h:ts.length<1000000)(A:1000005<N):
  ((mU N (ts,0,0,0,[],[],[]) (⟨#[112,97,99,107,97,103,101]⟩:BA)).bind fun s=>((if(!s.2)=true then((eQ N s.1).bind fun D=>eW N D.1 D.2.2.2.2 9) else(some s.1)):Option RT).bind fun K=>(lZ N K).bind fun y5=>(eN N y5.1 (⟨#[59]⟩:BA)).bind fun t=>(aI (nX N y5) N (bS t [])).bind fun o2=>(aI (pG N y5 o2) N (o2.1,o2.2.1,o2.2.2.1,o2.2.2.2.1,o2.2.2.2.2.1,o2.2.2.2.2.2.1,o2.2.2.2.2.2.2.1,[])).bind fun a=>if(a.2.2.2.1 !=0)=true then(some (rT,a.2.2.1,a.2.2.2.1)) else(some (((y5.2,o2.2.2.2.2.2.2.2,a.2.2.2.2.2.2.2):Sr),(0:Int),(0:Int))))=some (match rS ts with| .inl z=>(rT,z.1,z.2)| .inr f=>(f,0,0)):=by
 have p:0<ts.length:=fD.2 d.1
 obtain⟨M,hM⟩:∃M,N=M+1:=⟨N-1,by omega⟩
 have E:((ts,(0:Int),(0:Int),(0:Int),[],[],[]):RT)=gR ts [] (0,[]):=rfl
 -- the loops behind an error
 have badD:∀(y5:RT×BA) (o2:RL) (z:bU) (st:RT),rH ts z st->((aI (pG N y5 o2) N (lI st [])).bind fun a=>if(a.2.2.2.1 !=0)=true then(some (rT,a.2.2.1,a.2.2.2.1)) else(some (((y5.2,o2.2.2.2.2.2.2.2,a.2.2.2.2.2.2.2):Sr),(0:Int),(0:Int))))=some (rT,z.1,z.2):=by
  rintro y5 o2 z st ⟨c,i,pr',b,hi,rfl⟩
  have g:aI (pG N y5 o2) N (lI (bR ts z i pr' b) [])=some (lI (bR ts z i pr' b) []):=by
   have e:aI (pG N y5 o2) N (lI (bR ts z i pr' b) [])=aI (pG N y5 o2) (M+1) (lI (bR ts z i pr' b) []):=by rw[<-hM]
   rw[e];exact TI c M []
  have hz':((lI (bR ts z i pr' b) []).2.2.2.1 !=0)=true:=by simpa[bR,lI] using c
  rw[g]
  simp only[j0,hz',jH]
  rfl
 have badI:∀(y5:RT×BA) (z:bU) (i:Nat) (pr':List BA) (b:List Ex),z.2≠0->i<ts.length->((aI (nX N y5) N (bS (bR ts z i pr' b) [])).bind fun o2=>(aI (pG N y5 o2) N (o2.1,o2.2.1,o2.2.2.1,o2.2.2.2.1,o2.2.2.2.2.1,o2.2.2.2.2.2.1,o2.2.2.2.2.2.2.1,[])).bind fun a=>if(a.2.2.2.1 !=0)=true then(some (rT,a.2.2.1,a.2.2.2.1)) else(some (((y5.2,o2.2.2.2.2.2.2.2,a.2.2.2.2.2.2.2):Sr),(0:Int),(0:Int))))=some (rT,z.1,z.2):=by
  intro y5 z i pr' b c hi
  have g:aI (nX N y5) N (bS (bR ts z i pr' b) [])=some (bS (bR ts z i pr' b) []):=by
   have e:aI (nX N y5) N (bS (bR ts z i pr' b) [])=aI (nX N y5) (M+1) (bS (bR ts z i pr' b) []):=by rw[<-hM]
   rw[e];exact SP c M []
  rw[g]
  simp only[j0]
  exact badD y5 (bS (bR ts z i pr' b) []) z (bR ts z i pr' b) ⟨c,i,pr',b,hi,rfl⟩
 have bad:∀(z:bU) (i:Nat) (pr':List BA) (b:List Ex),z.2≠0->i<ts.length->((lZ N (bR ts z i pr' b)).bind fun y5=>(eN N y5.1 (⟨#[59]⟩:BA)).bind fun t=>(aI (nX N y5) N (bS t [])).bind fun o2=>(aI (pG N y5 o2) N (o2.1,o2.2.1,o2.2.2.1,o2.2.2.2.1,o2.2.2.2.2.1,o2.2.2.2.2.2.1,o2.2.2.2.2.2.2.1,[])).bind fun a=>if(a.2.2.2.1 !=0)=true then(some (rT,a.2.2.1,a.2.2.2.1)) else(some (((y5.2,o2.2.2.2.2.2.2.2,a.2.2.2.2.2.2.2):Sr),(0:Int),(0:Int))))=some (rT,z.1,z.2):=by
  intro z i pr' b c hi
  simp only[KS c hi,pL c hi,j0]
  exact badI _ z i pr' b c hi
 rw[E]
 simp only[oT (0,[]) p h,j0,rS,qK,GH]
 rcases eA (bT ts 1 ⟨#[112,97,99,107,97,103,101]⟩ 0) with k|k
 rotate_left
 .simp only[k,jB,jF,kH,jH,iZ (0,[]) p,nC,j0,dO,bG]
  exact bad _ _ _ _ (show(9:Int)≠0 by decide) p
 have n:=iX d p (by decide) k
 simp only[k,jH,kI,jB,jF,j0,CL (0+1,[]) n h (by omega:100<N),bG]
 cases h2:lA ts (0+1) with
 |inl z=>
  have c:=KL h2
  simp only[pL c n,j0]
  exact badI _ z _ _ _ c n
 |inr x=>
  obtain⟨rfl,r,-⟩:=qE d n h2
  simp only[qH (0+1+1,[]) r h,j0,pP]
  cases v:cS ts ⟨#[59]⟩ (0+1+1) with
  |inl z=>exact badI _ z _ _ _ (oU v) r
  |inr j=>
   obtain⟨rfl,u,-⟩:=iR d r v
   obtain⟨o,G,q⟩:=SE (N:=N) (pr:=[]) (b:=[]) (y5:=(gR ts [] (0+1+1,[]),(aN ts (0+1)).2.1)) d h A (ts.length+1) N [] (0+1+1+1) u (by simp) (by omega) (by omega)
   simp only[G,j0]
   cases h4:pJ ts (aN ts (0+1)).2.1 (ts.length+1) [] (0+1+1+1) with
   |inl z=>
    rw[show pJ ts ((gR ts [] (0+1+1,[]),(aN ts (0+1)).2.1):RT×BA).2 (ts.length+1) [] (0+1+1+1)=pJ ts (aN ts (0+1)).2.1 (ts.length+1) [] (0+1+1+1) from rfl,h4] at q
    obtain⟨st,l,g,rfl⟩:=q
    exact badD _ (bS st l) z st g
   |inr y=>
    rw[show pJ ts ((gR ts [] (0+1+1,[]),(aN ts (0+1)).2.1):RT×BA).2 (ts.length+1) [] (0+1+1+1)=pJ ts (aN ts (0+1)).2.1 (ts.length+1) [] (0+1+1+1) from rfl,h4] at q
    have hr':o=bS (gR ts [] (y.1,[])) y.2:=q
    obtain⟨R,H,S⟩:=JS d _ _ _ y u (by simp) h4
    obtain⟨o2,B,g⟩:=TE (N:=N) (y5:=(gR ts [] (0+1+1,[]),(aN ts (0+1)).2.1)) (o2:=o) d h A (ts.length+1) N [] y.1 [] [] H (by simp) (by omega) (by omega)
    have F:(o.1,o.2.1,o.2.2.1,o.2.2.2.1,o.2.2.2.2.1,o.2.2.2.2.2.1,o.2.2.2.2.2.2.1,([]:List Dl))=lI (gR ts [] (y.1,[])) []:=by rw[hr'];rfl
    rw[F,B]
    simp only[j0]
    cases h5:qJ ts (ts.length+1) [] y.1 with
    |inl z=>
     rw[h5] at g
     obtain⟨st,l,⟨c,i,pr',b,hi,rfl⟩,rfl⟩:=g
     have hz':((lI (bR ts z i pr' b) l).2.2.2.1 !=0)=true:=by simpa[bR,lI] using c
     simp only[hz',jH]
     rfl
    |inr l=>
     rw[h5] at g
     obtain⟨pr',p',rfl⟩:=g
     have hz':((lI (gR ts pr' p') l).2.2.2.1 !=0)=false:=rfl
     simp only[hz',jB,jF]
     rw[hr']
     rfl
end
theorem MZ{N:Nat}(s:BA)(b:1000005<N):vG N s=some (rO s):=by
 simp only[vG,qEc (N:=N) (by omega),j0,rO]
 by_cases h:(iS s).2.2=0
 .rw[if_neg (show ¬((iS s).2.2 !=0)=true by simpa using h),if_neg (show ¬(iS s).2.2≠0 by simpa using h)]
  obtain⟨a,d,e⟩:=JV h
  have c:=qOf (N:=N) a (by omega) b
  refine Eq.trans ?_ (Eq.trans c ?_)
  .simp only[Prod.eta,oE];rfl
  cases rS (iS s).1<;>rfl
 rw[if_pos (show((iS s).2.2 !=0)=true by simpa using h),if_pos h];rfl
abbrev Hd:=Int×Int×Int×BA
inductive Rose where
 |mk (h:Hd) (ks:List Rose)
def Rose.hd:Rose->Hd
 | .mk h _=>h
def Rose.ks:Rose->List Rose
 | .mk _ ks=>ks
mutual
def Rose.size:Rose->Nat
 | .mk _ ks=>aY ks+1
def aY:List Rose->Nat
 |[]=>0
 |t::l=>t.size+aY l
end
def bY:Nat->List Rose->List Int
 |_,[]=>[]
 |b,t::l=>((b+t.size-1:Nat):Int)::bY (b+t.size) l
def eM(h:Hd)(args:List Int):Ex:=(h.1,h.2.1,h.2.2.1,h.2.2.2,args)
mutual
def Rose.flat(b:Nat):Rose->List Ex
 | .mk h ks=>dY b ks++[eM h (bY b ks)]
def dY(b:Nat):List Rose->List Ex
 |[]=>[]
 |t::l=>t.flat b++dY (b+t.size) l
end
theorem Rose.pos(t:Rose):0<t.size:=by cases t;unfold Rose.size;omega
mutual
theorem lS(t:Rose)(b:Nat):(t.flat b).length=t.size:=by
 match t with
 | .mk h ks=>unfold Rose.flat Rose.size;rw[jC,qD ks b];rfl
theorem qD(l:List Rose)(b:Nat):(dY b l).length=aY l:=by
 match l with
 |[]=>rfl
 |t::l=>unfold dY aY;rw[jC,lS t b,qD l (b+t.size)]
end
theorem oS:∀(l:List Rose) (b:Nat),(bY b l).length=l.length
 |[],_=>rfl
 |t::l,b=>by simp only[bY,jD,oS l]
theorem tV:∀(l k:List Rose),aY (l++k)=aY l+aY k
 |[],k=>by rw[kT,show aY []=0 from rfl,kF]
 |t::l,k=>by
  have a:=tV l k
  rw[gF,show aY (t::(l++k))=t.size+aY (l++k) from rfl,show aY (t::l)=t.size+aY l from rfl];omega
theorem FW:∀(l k:List Rose) (b:Nat),bY b (l++k)=bY b l++bY (b+aY l) k
 |[],k,b=>by simp[bY,aY]
 |t::l,k,b=>by
  rw[gF]
  simp only[bY,aY,FW l k,gF]
  rw[gL]
theorem BV:∀(l k:List Rose) (b:Nat),dY b (l++k)=dY b l++dY (b+aY l) k
 |[],k,b=>by simp[dY,aY]
 |t::l,k,b=>by
  rw[gF]
  simp only[dY,aY,BV l k,jL]
  rw[gL]
theorem JR:∀l:List Rose,l.length<=aY l
 |[]=>kK _
 |t::l=>by
  have:=JR l
  have:=t.pos
  simp only[aY,jD];omega
def nI:List Ex->Nat->List Int->Option (List Int)
 |[],_,st=>some st
 |x::l,i,st=>if x.2.2.2.2.length<=st.length/\st.drop (st.length-x.2.2.2.2.length)=x.2.2.2.2 then nI l (i+1) (st.take (st.length-x.2.2.2.2.length)++[(i:Int)]) else none
theorem TC{fs:List Rose}{h:Hd}{args:List Int}{m:Nat}(n:args.length<=fs.length)(o:fs.length-args.length=m)(e:(bY 0 fs).drop m=args):
  aY (fs.take m++[Rose.mk h (fs.drop m)])=aY fs+1/\bY 0 (fs.take m++[Rose.mk h (fs.drop m)])=(bY 0 fs).take m++[((aY fs:Nat):Int)]/\dY 0 (fs.take m++[Rose.mk h (fs.drop m)])=dY 0 fs++[eM h args]:=by
 have a:fs=fs.take m++fs.drop m:=(gH m fs).symm
 have b:(fs.take m).length=m:=by rw[kG];omega
 have c:bY 0 fs=bY 0 (fs.take m)++bY (aY (fs.take m)) (fs.drop m):=by
  conv=>lhs;rw[a]
  rw[FW,kF]
 have g:dY 0 fs=dY 0 (fs.take m)++dY (aY (fs.take m)) (fs.drop m):=by
  conv=>lhs;rw[a]
  rw[BV,kF]
 have d:aY fs=aY (fs.take m)+aY (fs.drop m):=by
  conv=>lhs;rw[a]
  rw[tV]
 have l:(bY 0 (fs.take m)).length=m:=by rw[oS,b]
 have f:args=bY (aY (fs.take m)) (fs.drop m):=by
  rw[<-e,c,gE (by omega),jM (by omega),kT]
 have k:(bY 0 fs).take m=bY 0 (fs.take m):=by
  rw[c,kX (by omega),gT (by omega)]
 rw[k]
 refine⟨?_,?_,?_⟩
 .rw[tV,d];simp only[aY,Rose.size];omega
 .rw[FW,kF]
  simp only[bY,Rose.size]
  rw[d,show aY (fs.take m)+(aY (fs.drop m)+1)-1=aY (fs.take m)+aY (fs.drop m) by omega]
 rw[BV,kF,g,jL]
 simp only[dY,Rose.flat,gZ,<-f]
theorem NZ(x:Ex)(l:List Ex)(i:Nat)(st a:List Int)(h:x.2.2.2.2=a):nI (x::l) i st=if a.length<=st.length/\st.drop (st.length-a.length)=a then nI l (i+1) (st.take (st.length-a.length)++[(i:Int)]) else none:=by
 subst h;rfl
def AtT(l:List Ex)(b:Nat)(t:Rose):Prop:=∃p q,l=p++t.flat b++q/\p.length=b
def AtTs(l:List Ex)(b:Nat)(ts:List Rose):Prop:=∃p q,l=p++dY b ts++q/\p.length=b
theorem AtT.whole(t:Rose):AtT (t.flat 0) 0 t:=⟨[],[],by simp,rfl⟩
theorem AtT.args{l:List Ex}{b:Nat}{h:Hd}{ks:List Rose}(g:AtT l b (.mk h ks)):l[b+aY ks]? =some (eM h (bY b ks))/\AtTs l b ks:=by
 obtain⟨p,q,rfl,rfl⟩:=g
 unfold Rose.flat
 constructor
 .rw[jL,List.getElem?_append_right (by omega),jL,List.getElem?_append_right (by rw[qD];omega),qD]
  rw[show p.length+aY ks-p.length-aY ks=0 by omega]
  rfl
 exact⟨p,[eM h (bY p.length ks)]++q,by simp only[jL],rfl⟩
theorem AtTs.head{l:List Ex}{b:Nat}{t:Rose}{ts:List Rose}(g:AtTs l b (t::ts)):AtT l b t/\AtTs l (b+t.size) ts:=by
 obtain⟨p,q,rfl,rfl⟩:=g
 unfold dY
 exact⟨⟨p,dY (p.length+t.size) ts++q,by simp only[jL],rfl⟩,⟨p++t.flat p.length,q,by simp only[jL],by rw[jC,lS]⟩⟩
theorem AtT.le{l:List Ex}{b:Nat}{t:Rose}(g:AtT l b t):b+t.size<=l.length:=by
 obtain⟨p,q,rfl,rfl⟩:=g
 rw[jC,jC,lS];omega
def dZ(s:BA):Bool:=oA s&& !rF s
theorem GJ{N:Nat}{s:BA}(a:100<N):sJ N s=some (dZ s):=by
 simp only[sJ,PJ a,MW,j0]
 unfold dZ
 cases oA s<;>rfl
def emB:BA:=⟨#[]⟩
theorem YT(a b:Bool):(if a=true then some b else some false:Option Bool)=some (a&&b):=by cases a<;>rfl
theorem eqE(s:BA):(s.toList==(⟨#[]⟩:BA).toList)=decide (s=emB):=iQ _ _
def qM(x:Ex):Int:=(x.2.2.2.2.length:Int)
def iJ(np:Int)(x:Ex):Bool:=
 if x.1=1 then decide (x.2.2.2.1=emB)&&(x.2.2.1==0&&(qM x==0&&(decide (x.2.1>=-9007199254740992)&&decide (x.2.1<=9007199254740992))))
 else if x.1=2 then decide (x.2.2.2.1=emB)&&(x.2.2.1==0&&(qM x==0&&(decide (x.2.1>=0)&&decide (x.2.1<np))))
 else if x.1=3 then x.2.1==0&&(x.2.2.1==0&&dZ x.2.2.2.1)
 else if x.1=4 then x.2.1==0&&(decide (x.2.2.2.1=emB)&&(qM x==2&&(decide (x.2.2.1>=1)&&decide (x.2.2.1<=7))))
 else if x.1=5 then x.2.1==0&&(decide (x.2.2.2.1=emB)&&(x.2.2.1==0&&qM x==3))
 else if x.1=6 then x.2.1==0&&(x.2.2.1==0&&(qM x==1&&lM x.2.2.2.1.data.toList))
 else if x.1=7\/x.1=8 then x.2.1==0&&(x.2.2.1==0&&(qM x==0&&lM x.2.2.2.1.data.toList))
 else if x.1=9 then x.2.1==0&&(x.2.2.1==0&&(qM x==0&&oA x.2.2.2.1))
 else if x.1=10 then decide (x.2.2.2.1=emB)&&(x.2.2.1==0&&(qM x==0&&(decide (x.2.1>=0)&&decide (x.2.1<64))))
 else false
theorem qLh{N:Nat}{np:Int}{x:Ex}(b:x.2.2.2.1.size<=1048576)(a:3000000<N):BQ N x np=some (iJ np x):=by
 simp only[BQ,eqE,OY (s:=x.2.2.2.1) (N:=N) (by omega) (by omega),PJ (s:=x.2.2.2.1) (show 100<N by omega),GJ (s:=x.2.2.2.1) (show 100<N by omega),j0,YT]
 unfold iJ qM
 by_cases h1:x.1=1
 .simp[h1]
 by_cases h2:x.1=2
 .simp[h2]
 by_cases h3:x.1=3
 .simp[h3]
 by_cases h4:x.1=4
 .simp[h4]
 by_cases h5:x.1=5
 .simp[h5]
 by_cases h6:x.1=6
 .simp[h6]
 by_cases h7:x.1=7
 .simp[h7]
 by_cases h8:x.1=8
 .simp[h8]
 by_cases h9:x.1=9
 .simp[h9]
 by_cases h10:x.1=10
 .simp[h10]
 simp[h1,h2,h3,h4,h5,h6,h7,h8,h9,h10]
def StOk(st:List Int):Nat->List Rose->Prop
 |_,[]=>True
 |b,t::l=>st[b+t.size-1]? =some (b:Int)/\StOk st (b+t.size) l
theorem StOk.app{st:List Int}:∀{l k:List Rose} {b:Nat},StOk st b (l++k)↔StOk st b l/\StOk st (b+aY l) k
 |[],k,b=>by simp[StOk,aY]
 |t::l,k,b=>by
  rw[gF]
  simp only[StOk,aY,StOk.app (l:=l)]
  rw[and_assoc,gL]
theorem StOk.set{st:List Int}{i:Nat}{v:Int}:∀{l:List Rose} {b:Nat},StOk st b l->b+aY l<=i->StOk (st.set i v) b l
 |[],_,_,_=>trivial
 |t::l,b,h,hi=>by
  have a:=t.pos
  simp only[aY] at hi
  exact⟨by rw[List.getElem?_set_ne (by omega)];exact h.1,h.2.set (by omega)⟩
theorem mD{α:Type}{l:List α}{i:Nat}{v:α}(h:l[i]? =some v):idx l (i:Int)=some v:=by
 have hi:i<l.length:=by
  by_cases hl:i<l.length
  .exact hl
  rw[List.getElem?_eq_none (by omega)] at h;cases h
 rw[dX hi]
 rw[List.getElem?_eq_getElem hi] at h
 exact h
theorem XH{st:List Int}{i:Nat}{v:Int}(h:st[i]? =some v):st.set i v=st:=by
 refine fU fun j=> ?_
 rw[List.getElem?_set]
 by_cases e:i=j
 .subst e
  have hi:i<st.length:=by
   by_cases hl:i<st.length
   .exact hl
   rw[List.getElem?_eq_none (by omega)] at h;cases h
  rw[if_pos rfl,if_pos hi,h]
 rw[if_neg e]
theorem YL{N i:Nat}{x:Ex}{so:List Int}:∀(k M:Nat) (pre:List Rose) (st:List Int),k<=x.2.2.2.2.length->k<M->StOk st 0 pre->st[i]? =some ((aY pre:Nat):Int)->aY pre<=i->i<2000000->k<2000000->
  aI (AV N ((i:Int),so) x) M ((k:Int)-1,st)=some (if k<=pre.length/\(bY 0 pre).drop (pre.length-k)=x.2.2.2.2.take k then .inl (st.set i ((aY (pre.take (pre.length-k)):Nat):Int)) else .inr false)
 |_,0,_,_,_,h,_,_,_,_,_=>absurd h (kQ _)
 |0,M+1,pre,st,_,_,_,hi,_,_,_=>by
  simp only[aI,AV]
  rw[if_neg (by simp),if_pos ⟨kK _,by rw[dJ,List.drop_of_length_le (by rw[oS];exact jP _),List.take_zero]⟩]
  rw[dJ,gQ,XH hi]
  rfl
 |k+1,M+1,pre,st,A,z,q,hi,d,u,y=>by
  have c:k<x.2.2.2.2.length:=by omega
  have ek:((k+1:Nat):Int)-1=(k:Int):=by omega
  have wk:IntKind.wrap .i64 ((k:Int)-1)=(k:Int)-1:=by rw[bQ (by omega) (by omega)]
  simp only[aI,AV]
  rw[ek,if_pos (by simp),dX c,mD hi]
  simp only[j0]
  have wc:IntKind.wrap .i64 (((aY pre:Nat):Int)-1)=((aY pre:Nat):Int)-1:=by rw[bQ (by omega) (by omega)]
  rw[wc]
  have n:x.2.2.2.2.take (k+1)=x.2.2.2.2.take k++[x.2.2.2.2[k]]:=BZ c
  rcases hJ pre with rfl|⟨pre',t,rfl⟩
  .have b:¬(k+1<=([]:List Rose).length/\(bY 0 []).drop (([]:List Rose).length-(k+1))=x.2.2.2.2.take (k+1)):=by
    rintro⟨h,-⟩
    exact absurd h (by simp)
   rw[if_neg b]
   by_cases a:x.2.2.2.2[k]=((aY []:Nat):Int)-1
   .have g:x.2.2.2.2[k]<0:=by rw[a];simp[aY]
    rw[if_neg (by simpa using a)]
    simp only[j0,jU g,jH]
   rw[if_pos (by simpa using a)]
   rfl
  rw[List.concat_eq_append] at q hi d ⊢
  have s:aY (pre'++[t])=aY pre'+t.size:=by rw[tV];simp[aY]
  have B:=t.pos
  obtain⟨r,e,-⟩:=StOk.app.1 q
  rw[kF] at e
  have v:bY 0 (pre'++[t])=bY 0 pre'++[((aY pre'+t.size-1:Nat):Int)]:=by
   rw[FW,kF];rfl
  have l:k<=pre'.length->(bY 0 (pre'++[t])).drop ((pre'++[t]).length-(k+1))=(bY 0 pre').drop (pre'.length-k)++[((aY pre'+t.size-1:Nat):Int)]:=fun h=>by
   rw[v,jC,gY,show pre'.length+1-(k+1)=pre'.length-k by omega,gE (by rw[oS];omega)]
  rw[s] at hi d ⊢
  by_cases a:x.2.2.2.2[k]=((aY pre'+t.size:Nat):Int)-1
  .have g:decide (x.2.2.2.2[k]<0)=false:=jQ (by omega)
   have o:x.2.2.2.2[k]=((aY pre'+t.size-1:Nat):Int):=by omega
   rw[if_neg (by simpa using a)]
   simp only[j0,g,jB,jF]
   rw[o,mD e]
   simp only[j0,jO,wk]
   have p:i<st.length:=by
    by_cases hl:i<st.length
    .exact hl
    rw[List.getElem?_eq_none (by omega)] at hi;cases hi
   rw[YL k M pre' _ (by omega) (by omega) (r.set (by omega)) (by rw[List.getElem?_set_self p]) (by omega) u (by omega),List.set_set]
   congr 1
   by_cases hc:k<=pre'.length/\(bY 0 pre').drop (pre'.length-k)=x.2.2.2.2.take k
   .rw[if_pos hc,if_pos ⟨by simp only[jC,gY];omega,by rw[l hc.1,n,hc.2,o]⟩]
    rw[jC,gY,show pre'.length+1-(k+1)=pre'.length-k by omega,kX (by omega)]
   rw[if_neg hc,if_neg]
   rintro⟨f,b⟩
   simp only[jC,gY] at f
   rw[l (by omega),n] at b
   exact hc ⟨by omega,(List.append_inj' b rfl).1⟩
  rw[if_pos (by simpa using a),if_neg]
  .rfl
  rintro⟨f,b⟩
  simp only[jC,gY] at f
  rw[l (by omega),n] at b
  have:=(List.append_inj' b rfl).2
  simp only[kV,and_true] at this
  exact a (by omega)
theorem XJ{N:Nat}{d:Dl}(o:d.2.2.2.length<2000000)(k:∀x∈d.2.2.2,x.2.2.2.1.size<=1048576/\x.2.2.2.2.length<2000000)(v:3000000<N):∀(M:Nat) (fs:List Rose) (st:List Int),dY 0 fs=d.2.2.2.take (aY fs)->aY fs<=d.2.2.2.length->st.length=d.2.2.2.length->StOk st 0 fs->d.2.2.2.length-aY fs<M->
  ∃out,aI (vK N d) M (((aY fs:Nat):Int),st)=some out/\(match out with
   | .inl st'=>(∀x∈d.2.2.2.drop (aY fs),iJ (d.2.2.1.length:Int) x=true)/\∃fs',nI (d.2.2.2.drop (aY fs)) (aY fs) (bY 0 fs)=some (bY 0 fs')/\StOk st' 0 fs'/\st'.length=d.2.2.2.length/\aY fs'=d.2.2.2.length
   | .inr b=>b=false/\¬((∀x∈d.2.2.2.drop (aY fs),iJ (d.2.2.1.length:Int) x=true)/\∃r,nI (d.2.2.2.drop (aY fs)) (aY fs) (bY 0 fs)=some r))
 |0,_,_,_,_,_,_,h=>absurd h (kQ _)
 |M+1,fs,st,F,H,l,q,K=>by
  by_cases hi:aY fs<d.2.2.2.length
  .have z:d.2.2.2.drop (aY fs)=d.2.2.2[aY fs]::d.2.2.2.drop (aY fs+1):=tU hi
   obtain⟨A,B⟩:=k _ (jR hi)
   rw[z]
   generalize g:d.2.2.2[aY fs]=x at A B
   have wi:IntKind.wrap .i64 (((aY fs:Nat):Int)+1)=((aY fs+1:Nat):Int):=by rw[bQ (by omega) (by omega)];omega
   have wl:IntKind.wrap .i64 ((x.2.2.2.2.length:Int)-1)=(x.2.2.2.2.length:Int)-1:=by rw[bQ (by omega) (by omega)]
   have c:aY fs<st.length:=by omega
   have n:(vK N d (((aY fs:Nat):Int),st))=if iJ (d.2.2.1.length:Int) x=true then(if x.2.2.2.2.length<=fs.length/\(bY 0 fs).drop (fs.length-x.2.2.2.2.length)=x.2.2.2.2 then some (.inl (((aY fs+1:Nat):Int),(st.set (aY fs) ((aY fs:Nat):Int)).set (aY fs) ((aY (fs.take (fs.length-x.2.2.2.2.length)):Nat):Int))) else some (.inr (.inr false))) else some (.inr (.inr false)):=by
    simp only[vK]
    rw[if_pos (by simp only[jA];omega),dX hi]
    simp only[j0,g]
    rw[show BQ N (x.1,x.2.1,x.2.2.1,x.2.2.2.1,x.2.2.2.2) (d.2.2.1.length:Int)=_ from qLh A v]
    simp only[j0]
    by_cases a:iJ (d.2.2.1.length:Int) x=true
    .rw[if_pos a,a,if_neg (by decide),dX c]
     simp only[j0,jO,wi,wl]
     have f:=YL (N:=N) (i:=aY fs) (x:=x) (so:=st) x.2.2.2.2.length N fs (st.set (aY fs) ((aY fs:Nat):Int)) (jP _) (by omega) (q.set (by omega)) (List.getElem?_set_self c) (jP _) (by omega) B
     rw[gQ] at f
     rw[f]
     simp only[j0]
     by_cases hc:x.2.2.2.2.length<=fs.length/\(bY 0 fs).drop (fs.length-x.2.2.2.2.length)=x.2.2.2.2
     .rw[if_pos hc,if_pos hc]
     rw[if_neg hc,if_neg hc]
    rw[if_neg a,show iJ (d.2.2.1.length:Int) x=false by simpa using a]
    rfl
   simp only[aI,n]
   by_cases a:iJ (d.2.2.1.length:Int) x=true
   .rw[if_pos a]
    by_cases hc:x.2.2.2.2.length<=fs.length/\(bY 0 fs).drop (fs.length-x.2.2.2.2.length)=x.2.2.2.2
    .rw[if_pos hc]
     simp only[j0]
     obtain⟨f,E,u⟩:=TC (h:=(x.1,x.2.1,x.2.2.1,x.2.2.2.1)) hc.1 rfl hc.2
     have hx':eM (x.1,x.2.1,x.2.2.1,x.2.2.2.1) x.2.2.2.2=x:=rfl
     rw[hx'] at u
     rw[List.set_set]
     have s:StOk (st.set (aY fs) ((aY (fs.take (fs.length-x.2.2.2.2.length)):Nat):Int)) 0 (fs.take (fs.length-x.2.2.2.2.length)++[Rose.mk (x.1,x.2.1,x.2.2.1,x.2.2.2.1) (fs.drop (fs.length-x.2.2.2.2.length))]):=by
      refine StOk.app.2 ⟨?_,?_,trivial⟩
      .have p:=q
       rw[<-gH (fs.length-x.2.2.2.2.length) fs] at p
       refine(StOk.app.1 p).1.set ?_
       have:=tV (fs.take (fs.length-x.2.2.2.2.length)) (fs.drop (fs.length-x.2.2.2.2.length))
       rw[gH] at this
       omega
      have:=tV (fs.take (fs.length-x.2.2.2.2.length)) (fs.drop (fs.length-x.2.2.2.2.length))
      rw[gH] at this
      rw[kF,show aY (fs.take (fs.length-x.2.2.2.2.length))+(Rose.mk (x.1,x.2.1,x.2.2.1,x.2.2.2.1) (fs.drop (fs.length-x.2.2.2.2.length))).size-1=aY fs by simp only[Rose.size];omega]
      exact List.getElem?_set_self c
     have G:d.2.2.2.take (aY fs+1)=d.2.2.2.take (aY fs)++[x]:=by rw[BZ hi,g]
     obtain⟨out,D,o2⟩:=XJ o k v M _ (st.set (aY fs) ((aY (fs.take (fs.length-x.2.2.2.2.length)):Nat):Int)) (by rw[u,f,G,F]) (by rw[f];omega) (by rw[gK];exact l) s (by rw[f];omega)
     rw[f] at D o2
     refine⟨out,D,?_⟩
     have p:nI (x::d.2.2.2.drop (aY fs+1)) (aY fs) (bY 0 fs)=nI (d.2.2.2.drop (aY fs+1)) (aY fs+1) (bY 0 (fs.take (fs.length-x.2.2.2.2.length)++[Rose.mk (x.1,x.2.1,x.2.2.1,x.2.2.2.1) (fs.drop (fs.length-x.2.2.2.2.length))])):=by
      rw[NZ x _ _ _ x.2.2.2.2 rfl,oS,if_pos hc,E]
     rw[p]
     cases out with
     |inl st'=>exact⟨fun y t=>(jV.1 t).elim (fun e=>e▸a) (o2.1 y),o2.2⟩
     |inr b=>exact⟨o2.1,fun h=>o2.2 ⟨fun y t=>h.1 y (jX _ t),h.2⟩⟩
    rw[if_neg hc]
    refine⟨_,rfl,rfl,?_⟩
    rintro⟨-,r,f⟩
    rw[NZ x _ _ _ x.2.2.2.2 rfl,oS,if_neg hc] at f
    cases f
   rw[if_neg a]
   exact⟨_,rfl,rfl,fun h=>a (h.1 x (jS ..))⟩
  have c:aY fs=d.2.2.2.length:=by omega
  have a:d.2.2.2.drop (aY fs)=[]:=jM (by omega)
  have n:(vK N d (((aY fs:Nat):Int),st))=some (.inr (.inl st)):=by
   simp only[vK]
   rw[if_neg (by simp only[jA];omega)]
  simp only[aI,n,j0]
  refine⟨.inl st,rfl,?_⟩
  dsimp only
  rw[a]
  exact⟨fun x g=>(by cases g),fs,rfl,q,l,c⟩
def oneP:Option (List Int)->Bool
 |some [_]=>true
 |_=>false
def wI(d:Dl):Bool:=d.2.2.2.all (iJ (d.2.2.1.length:Int))&&oneP (nI d.2.2.2 0 [])
def uK(d:Dl):Bool:=if d.1=1\/d.1=2 then dZ d.2.1 else if d.1=3 then lM d.2.1.data.toList else false
def wH(d:Dl):Bool:=d.2.2.1.all fun s=>d.1==1&&dZ s
def mN(d:Dl):Bool:=uK d&&(wH d&&wI d)
def SmD(d:Dl):Prop:=d.2.1.size<=1048576/\d.2.2.1.length<2000000/\d.2.2.2.length<2000000/\∀x∈d.2.2.2,x.2.2.2.1.size<=1048576/\x.2.2.2.2.length<2000000
theorem qHp{N:Nat}{d:Dl}(e:SmD d)(k:3000000<N):aI (xT N d) N 0=some (if wH d=true then .inl () else .inr false):=by
 obtain⟨-,g,-,-⟩:=e
 have h:=oK (L:=d.2.2.1) (fun(_:Unit) (i:Nat)=>(i:Int)) (f:=xT N d)
  (fun _ s=>if(!(d.1==1&&dZ s))=true then .inr (.inr false) else .inl ()) (fun _=>(.inl ():Unit⊕Bool)) (fun _ _=>True) (by
   intro t i hi _
   simp only[xT]
   rw[if_pos (by simp only[jA];omega),dX hi]
   have ew:IntKind.wrap .i64 ((i:Int)+1)=((i+1:Nat):Int):=by rw[bQ (by omega) (by omega)];omega
   simp only[j0,GJ (s:=d.2.2.1[i]) (show 100<N by omega),ew]
   by_cases hk:d.1=1
   .have a:(d.1 !=1)=false:=by simp[hk]
    have c:(d.1==1)=true:=by simp[hk]
    simp only[a,c,jB,jF,j0,gC]
    cases dZ d.2.2.1[i]<;>rfl
   .have a:(d.1 !=1)=true:=by simp[hk]
    have c:(d.1==1)=false:=by simp[hk]
    simp only[a,c,jH,j0,Bool.false_and,kH]) (fun _ _ _ _ _ _=>trivial) (by
   intro t _
   simp only[xT]
   rw[if_neg (by simp)]) (M:=N) (t:=()) (by omega) trivial
 rw[show((0:Nat):Int)=0 from rfl] at h
 rw[h,sN (b:=(.inr false:Unit⊕Bool)) (fun s=> !(d.1==1&&dZ s)) (fun x=>rfl)]
 unfold wH
 rw[gI]
 cases(d.2.2.1.any fun s=> !(d.1==1&&dZ s))<;>rfl
theorem qFc{N:Nat}{d:Dl}(l:SmD d)(k:3000000<N):BD N d=some (mN d):=by
 obtain⟨B,E,q,v⟩:=id l
 unfold BD
 have e:((if(d.1==1)=true then(some (d.1==1)) else(some (d.1==2)):Option (Bool)).bind fun o2=>if o2=true then((sJ N d.2.1).bind fun y1=>if(!y1)=true then(some (.inr false)) else(some (.inl ()))) else(if(d.1==3)=true then((tT N d.2.1).bind fun z=>if(!z)=true then(some (.inr false)) else(some (.inl ()))) else(some (.inr false))):Option ((Unit)⊕(Bool)))=some (if uK d=true then .inl () else .inr false):=by
  simp only[GJ (s:=d.2.1) (show 100<N by omega),OY (s:=d.2.1) (N:=N) (by omega) (by omega),j0]
  unfold uK
  by_cases k1:d.1=1
  .simp only[k1,kS,jH,j0,true_or]
   cases dZ d.2.1<;>rfl
  have a:(d.1==1)=false:=by simpa using k1
  by_cases k2:d.1=2
  .simp only[a,k2,kS,jB,jF,jH,j0,or_true]
   cases dZ d.2.1<;>rfl
  have f:(d.1==2)=false:=by simpa using k2
  by_cases k3:d.1=3
  .have c:(d.1==3)=true:=by simpa using k3
   rw[if_neg (show ¬(d.1=1\/d.1=2) by omega),if_pos k3]
   simp only[a,f,c,jB,jF,jH,j0]
   cases lM d.2.1.data.toList<;>rfl
  have c:(d.1==3)=false:=by simpa using k3
  rw[if_neg (show ¬(d.1=1\/d.1=2) by omega),if_neg k3]
  simp only[a,f,c,jB,jF,j0]
 rw[e]
 simp only[j0]
 unfold mN
 by_cases hh:uK d=true
 .rw[if_pos hh,hh,gC]
  simp only[qHp l k,j0]
  by_cases c:wH d=true
  .rw[if_pos c,c,gC]
   have A:(maxLen:Int)=9223372036854775807:=rfl
   have n:qL 8 (0:Int) (d.2.2.2.length:Int)=some (List.replicate d.2.2.2.length 0):=by
    unfold qL;rw[if_pos (by omega),jO]
   simp only[n,j0]
   obtain⟨out,o,o2⟩:=XJ (N:=N) q v k N [] (List.replicate d.2.2.2.length 0) (by simp[dY,aY]) (kK _) (by simp) trivial (by omega)
   have p:((aY []:Nat):Int)=0:=rfl
   rw[p] at o
   rw[o]
   simp only[j0]
   rw[show aY []=0 from rfl,jT] at o2
   cases out with
   |inr b=>
    obtain⟨rfl,f⟩:=o2
    dsimp only
    congr 1
    unfold wI
    cases g:d.2.2.2.all (iJ (d.2.2.1.length:Int)) with
    |false=>rfl
    |true=>
     rw[gC]
     cases h:nI d.2.2.2 0 [] with
     |none=>rfl
     |some r=>exact absurd ⟨jW.1 g,r,h⟩ f
   |inl st=>
    obtain⟨g,fs,h,x,F,y⟩:=o2
    dsimp only
    have ha':d.2.2.2.all (iJ (d.2.2.1.length:Int))=true:=jW.2 g
    have ho':nI d.2.2.2 0 []=some (bY 0 fs):=h
    unfold wI
    rw[ha',ho',gC]
    rcases hJ fs with rfl|⟨pre,t,rfl⟩
    .have f:d.2.2.2.length=0:=by rw[<-y];rfl
     rw[if_neg (by simp[f])]
     rfl
    rw[List.concat_eq_append] at*
    have D:aY (pre++[t])=aY pre+t.size:=by rw[tV];simp[aY]
    have c:=t.pos
    obtain⟨-,f,-⟩:=StOk.app.1 x
    rw[kF] at f
    have w:IntKind.wrap .i64 ((d.2.2.2.length:Int)-1)=((aY pre+t.size-1:Nat):Int):=by rw[bQ (by omega) (by omega)];omega
    rw[if_pos (by simp only[jA];omega),w,mD f]
    simp only[j0]
    congr 1
    rw[FW,kF]
    cases pre with
    |nil=>rfl
    |cons u pre=>
     have G:=u.pos
     have a:((((aY (u::pre):Nat)):Int)==0)=false:=by
      simp only[aY,beq_eq_false_iff_ne];omega
     rw[a]
     cases pre<;>rfl
  rw[if_neg c,show wH d=false by simpa using c]
  rfl
 rw[if_neg hh,show uK d=false by simpa using hh]
 rfl
def SmSr(f:Sr):Prop:=f.2.1.length<2000000/\f.2.2.length<2000000/\∀d∈f.2.2,SmD d
def sT(f:Sr):Bool:=dZ f.1&&(f.2.1.all dZ&&f.2.2.all mN)
theorem qGw{N:Nat}{f:Sr}(h:SmSr f)(g:3000000<N):BJ N f=some (sT f):=by
 obtain⟨k,l,e⟩:=h
 unfold BJ
 rw[GJ (by omega)]
 simp only[j0]
 unfold sT
 by_cases hn:dZ f.1=true
 .rw[hn,if_neg (by decide),gC]
  have a:=oK (L:=f.2.1) (fun(_:Unit) (i:Nat)=>(i:Int)) (f:=AZ N f)
   (fun _ s=>if(!dZ s)=true then .inr (.inr false) else .inl ()) (fun _=>(.inl ():Unit⊕Bool)) (fun _ _=>True) (by
    intro t i hi _
    simp only[AZ]
    rw[if_pos (by simp only[jA];omega),dX hi]
    have ew:IntKind.wrap .i64 ((i:Int)+1)=((i+1:Nat):Int):=by rw[bQ (by omega) (by omega)];omega
    simp only[j0,GJ (s:=f.2.1[i]) (show 100<N by omega),ew]
    cases dZ f.2.1[i]<;>rfl) (fun _ _ _ _ _ _=>trivial) (by
    intro t _
    simp only[AZ]
    rw[if_neg (by simp)]) (M:=N) (t:=()) (by omega) trivial
  have c:=NS (L:=f.2.2) (fun(_:Unit) (i:Nat)=>(i:Int)) (f:=AY N f)
   (fun _ d=>if(!mN d)=true then .inr (.inr false) else .inl ()) (fun _=>(.inl ():Unit⊕Bool)) (fun _ _=>True) (by
    intro t i hi _
    simp only[AY]
    rw[if_pos (by simp only[jA];omega),dX hi]
    have ew:IntKind.wrap .i64 ((i:Int)+1)=((i+1:Nat):Int):=by rw[bQ (by omega) (by omega)];omega
    simp only[j0,ew]
    rw[show BD N (f.2.2[i].1,f.2.2[i].2.1,f.2.2[i].2.2.1,f.2.2[i].2.2.2)=_ from qFc (e _ (jR hi)) g]
    simp only[j0]
    cases mN f.2.2[i]<;>rfl) (fun _ _ _ _ _ _=>trivial) (by
    intro t _
    simp only[AY]
    rw[if_neg (by simp)]) f.2.2.length 0 N () (by omega) (by omega) trivial
  rw[show((0:Nat):Int)=0 from rfl] at a c
  rw[a,sN (b:=(.inr false:Unit⊕Bool)) (fun s=> !dZ s) (fun x=>rfl),gI]
  cases ha:(f.2.1.any fun s=> !dZ s) with
  |true=>rfl
  |false=>
   simp only[jB,jF,j0,kH,gC]
   rw[c,jT,sN (b:=(.inr false:Unit⊕Bool)) (fun s=> !mN s) (fun x=>rfl),gI]
   cases(f.2.2.any fun s=> !mN s)<;>rfl
 rw[show dZ f.1=false by simpa using hn]
 rfl
def pQ{α:Type}[DecidableEq α]:List α->List α->Bool
 |_,[]=>false
 |seen,x::l=>decide (x∈seen)||pQ (seen++[x]) l
def iO{α:Type}[DecidableEq α](l:List α):Bool:=pQ [] l
theorem XC{α:Type}[DecidableEq α]{l:List α}{f:Int->Option (Int⊕(Unit⊕Bool))}(b:∀(i:Nat) (hi:i<l.length),f (i:Int)=some (if l[i]∈l.take i then .inr (.inr true) else .inl ((i+1:Nat):Int)))
  (a:f (l.length:Int)=some (.inr (.inl ()))):∀(d i M:Nat),i+d=l.length->d<M->aI f M (i:Int)=some (if pQ (l.take i) (l.drop i)=true then .inr true else .inl ())
 |_,_,0,_,h=>absurd h (kQ _)
 |0,i,M+1,c,_=>by
  have:i=l.length:=by omega
  subst this
  simp only[aI,a,j0,hK,pQ]
  rfl
 |d+1,i,M+1,c,g=>by
  have hi:i<l.length:=by omega
  simp only[aI,b i hi,j0]
  rw[tU hi]
  by_cases hm:l[i]∈l.take i
  .have e:pQ (l.take i) (l[i]::l.drop (i+1))=true:=by
    show(decide _||_)=true
    rw[jU hm,Bool.true_or]
   rw[if_pos hm,if_pos e]
  have e:pQ (l.take i) (l[i]::l.drop (i+1))=pQ (l.take (i+1)) (l.drop (i+1)):=by
   show(decide _||_)=_
   rw[jQ hm,kW,BZ hi]
  rw[if_neg hm,e]
  exact XC b a d (i+1) M (by omega) (by omega)
theorem VG{α:Type}[DecidableEq α]{l:List α}{f:Int->Option (Int⊕(Unit⊕Bool))}(c:∀(i:Nat) (hi:i<l.length),f (i:Int)=some (if l[i]∈l.take i then .inr (.inr true) else .inl ((i+1:Nat):Int)))
  (b:f (l.length:Int)=some (.inr (.inl ()))) {M:Nat} (a:l.length<M):aI f M 0=some (if iO l=true then .inr true else .inl ()):=by
 have h:=XC c b l.length 0 M (by omega) a
 rw[List.take_zero,jT] at h
 exact h
theorem OO{α:Type}[DecidableEq α]{l:List α}{x:α}{f:Int->Option (Int⊕(Unit⊕Int))}(c:∀(i:Nat) (hi:i<l.length),f (i:Int)=some (if x=l[i] then .inr (.inr (i:Int)) else .inl ((i+1:Nat):Int)))
  (b:f (l.length:Int)=some (.inr (.inl ()))):∀(d i M:Nat),i+d=l.length->d<M->∃o,aI f M (i:Int)=some o/\(match o with| .inl _=>x∉l.drop i| .inr j=>x∈l.drop i/\0<=j)
 |_,_,0,_,h=>absurd h (kQ _)
 |0,i,M+1,e,_=>by
  have:i=l.length:=by omega
  subst this
  simp only[aI,b,j0,hK]
  exact⟨.inl (),rfl,fA⟩
 |d+1,i,M+1,e,k=>by
  have hi:i<l.length:=by omega
  simp only[aI,c i hi,j0]
  rw[tU hi]
  by_cases a:x=l[i]
  .rw[if_pos a]
   exact⟨.inr (i:Int),rfl,by rw[a];exact jS ..,by omega⟩
  rw[if_neg a]
  simp only
  obtain⟨o,g,o2⟩:=OO c b d (i+1) M (by omega) (by omega)
  refine⟨o,g,?_⟩
  cases o with
  |inl u=>exact fun h=>(jV.1 h).elim a o2
  |inr j=>exact⟨jX _ o2.1,o2.2⟩
theorem SJ{N:Nat}{s:BA}{l:List BA}(c:l.length<2000000)(b:l.length<N):sB N l s=some (decide (s∈l)):=by
 obtain⟨o,a,o2⟩:=OO (l:=l) (x:=s) (f:=tE N l s) (fun i hi=>by
  simp only[tE]
  rw[if_pos (by simp only[jA];omega),dX hi]
  have ew:IntKind.wrap .i64 ((i:Int)+1)=((i+1:Nat):Int):=by rw[bQ (by omega) (by omega)];omega
  simp only[j0,iQ,jA,ew]
  split<;>rfl) (by
  simp only[tE]
  rw[if_neg (by simp)]) l.length 0 N (by omega) b
 rw[show((0:Nat):Int)=0 from rfl] at a
 rw[jT] at o2
 simp only[sB,wU,a,j0]
 cases o with
 |inl u=>
  simp only at o2
  rw[jQ o2];rfl
 |inr j=>
  simp only at o2 ⊢
  rw[jU o2.1]
  simp[o2.2]
theorem VL{N:Nat}{l:List BA}(b:l.length<2000000)(a:l.length<N):AQ N l=some (iO l):=by
 have h:=VG (l:=l) (f:=AB N l) (fun i hi=>by
  simp only[AB]
  rw[if_pos (by simp only[jA];omega),dX hi,vO (by omega) (by omega) (by omega)]
  have ew:IntKind.wrap .i64 ((i:Int)+1)=((i+1:Nat):Int):=by rw[bQ (by omega) (by omega)];omega
  simp only[j0,jO,gX,jT,ew]
  rw[SJ (by rw[kG];omega) (by rw[kG];omega)]
  simp only[j0,jA]
  split<;>rfl) (by
  simp only[AB]
  rw[if_neg (by simp)]) a
 simp only[AQ,h,j0]
 cases iO l<;>rfl
abbrev qQ:=Int×BA
instance decMemN(s:qQ)(l:List qQ):Decidable (s∈l):=@List.instDecidableMemOfLawfulBEq qQ instBEqOfDecidableEq inferInstance s l
theorem qEm{N:Nat}{s:qQ}{l:List qQ}(c:l.length<2000000)(b:l.length<N):DO N l s=some (decide (s∈l)):=by
 obtain⟨o,a,o2⟩:=OO (l:=l) (x:=s) (f:=zN N l s) (fun i hi=>by
  simp only[zN]
  rw[if_pos (by simp only[jA];omega),dX hi]
  have ew:IntKind.wrap .i64 ((i:Int)+1)=((i+1:Nat):Int):=by rw[bQ (by omega) (by omega)];omega
  have ee:((s.1==l[i].1)&&((s.2.toList==l[i].2.toList)&&true))=decide (s=l[i]):=by
   rw[kC]
   simp only[iQ,jK,kD,jA,and_true,Prod.ext_iff]
  simp only[j0,ee,jA,ew]
  split<;>rfl) (by
  simp only[zN]
  rw[if_neg (by simp)]) l.length 0 N (by omega) b
 rw[show((0:Nat):Int)=0 from rfl] at a
 rw[jT] at o2
 simp only[DO,IL,a,j0]
 cases o with
 |inl u=>
  simp only at o2
  rw[jQ o2];rfl
 |inr j=>
  simp only at o2 ⊢
  rw[jU o2.1]
  simp[o2.2]
theorem qHh{N:Nat}{l:List qQ}(b:l.length<2000000)(a:l.length<N):DY N l=some (iO l):=by
 have h:=VG (l:=l) (f:=zR N l) (fun i hi=>by
  simp only[zR]
  rw[if_pos (by simp only[jA];omega),dX hi,vO (by omega) (by omega) (by omega)]
  have ew:IntKind.wrap .i64 ((i:Int)+1)=((i+1:Nat):Int):=by rw[bQ (by omega) (by omega)];omega
  simp only[j0,jO,gX,jT,ew]
  rw[qEm (by rw[kG];omega) (by rw[kG];omega)]
  simp only[j0,jA]
  split<;>rfl) (by
  simp only[zR]
  rw[if_neg (by simp)]) a
 simp only[DY,h,j0]
 cases iO l<;>rfl
def nE(d:Dl):qQ:=(d.1,d.2.1)
def uH(f:Sr):Bool:=f.2.2.any (fun d=>iO d.2.2.1)||(decide (f.1∈f.2.1)||(iO f.2.1||iO (f.2.2.map nE)))
theorem qIx{N:Nat}{f:Sr}(c:SmSr f)(o:3000000<N):aI (xY N f) N ([],0)=some (if f.2.2.any (fun d=>iO d.2.2.1)=true then .inr true else .inl (f.2.2.map nE)):=by
 obtain⟨k,n,b⟩:=c
 have h:=oK (L:=f.2.2) (fun(t:List qQ) (i:Nat)=>(t,(i:Int))) (f:=xY N f)
  (fun t d=>if iO d.2.2.1=true then .inr (.inr true) else .inl (t++[nE d])) (fun t=>(.inl t:List qQ⊕Bool)) (fun i t=>t.length<=i) (by
   intro t i hi a
   obtain⟨-,e,-,-⟩:=b _ (jR hi)
   simp only[xY]
   rw[if_pos (by simp only[jA];omega),dX hi]
   have ew:IntKind.wrap .i64 ((i:Int)+1)=((i+1:Nat):Int):=by rw[bQ (by omega) (by omega)];omega
   simp only[j0,VL e (show(f.2.2[i]).2.2.1.length<N by omega),ew]
   rw[lU (by simp only[jD,jE];omega) (by omega)]
   simp only[j0]
   split<;>rfl) (by
   intro t i hi t' a h
   split at h
   .cases h
   .cases h
    simp only[jC,jD,jE];omega) (by
   intro t a
   simp only[xY]
   rw[if_neg (by simp)]) (M:=N) (t:=[]) (by omega) (jP _)
 rw[show((0:Nat):Int)=0 from rfl] at h
 rw[h]
 congr 1
 suffices g:∀(l:List Dl) (t:List qQ),run (fun t d=>if iO d.2.2.1=true then .inr (.inr true) else .inl (t++[nE d])) (fun t=>(.inl t:List qQ⊕Bool)) l t=if l.any (fun d=>iO d.2.2.1)=true then .inr true else .inl (t++l.map nE) by
  have:=g f.2.2 []
  rw[kT] at this
  exact this
 intro l
 induction l with
 |nil=>intro t;simp[run]
 |cons d l a=>
  intro t
  simp only[run,fZ,jZ]
  cases hd:iO d.2.2.1 with
  |true=>simp
  |false=>
   simp only[jB,jF,kW]
   rw[a,jL];rfl
theorem qIp{N:Nat}{f:Sr}(b:SmSr f)(e:3000000<N):BL N f=some (uH f):=by
 obtain⟨a,c,g⟩:=id b
 unfold BL
 rw[qIx b e]
 simp only[j0]
 unfold uH
 cases ha:f.2.2.any (fun d=>iO d.2.2.1) with
 |true=>rfl
 |false=>
  simp only[jB,jF,kW]
  rw[SJ a (by omega),VL a (by omega),qHh (by rw[gN];exact c) (by rw[gN];omega)]
  simp only[j0]
  cases decide (f.1∈f.2.1)<;>cases iO f.2.1<;>rfl
def CQ:List Ex->List Rose->List Rose
 |[],fs=>fs
 |x::l,fs=>CQ l (fs.take (fs.length-x.2.2.2.2.length)++[Rose.mk (x.1,x.2.1,x.2.2.1,x.2.2.2.1) (fs.drop (fs.length-x.2.2.2.2.length))])
def CU(l:List Ex):Option Rose:=match CQ l [] with
 |[t]=>some t
 |_=>none
theorem WW:∀(l:List Ex) (fs:List Rose) {st:List Int},nI l (aY fs) (bY 0 fs)=some st->dY 0 (CQ l fs)=dY 0 fs++l/\st=bY 0 (CQ l fs)
 |[],fs,st,h=>⟨by simp[CQ],(jG h).symm⟩
 |x::l,fs,st,h=>by
  rw[NZ x _ _ _ x.2.2.2.2 rfl] at h
  split at h
  .rename_i hc
   obtain⟨a,b⟩:=hc
   rw[oS] at a b h
   obtain⟨c,d,e⟩:=TC (h:=(x.1,x.2.1,x.2.2.1,x.2.2.2.1)) a rfl b
   rw[<-c,<-d] at h
   obtain⟨f,g⟩:=WW l _ h
   exact⟨by rw[CQ,f,e,jL];rfl,g⟩
  cases h
theorem GL{l:List Ex}(h:oneP (nI l 0 [])=true):∃t,CU l=some t/\l=t.flat 0:=by
 cases a:nI l 0 [] with
 |none=>rw[a] at h;cases h
 |some st=>
  rw[a] at h
  obtain⟨b,e⟩:=WW l [] a
  have c:st.length=1:=by
   match st,h with
   |[x],_=>rfl
  rw[e,oS] at c
  obtain⟨t,d⟩:=List.length_eq_one_iff.1 c
  refine⟨t,by unfold CU;rw[d],?_⟩
  rw[d] at b
  simpa[dY] using b.symm
mutual
def Rose.deepen(d:Nat):Rose->Nat
 | .mk h ks=>max d (nD (if h.1=4 then d else d+1) ks)
def nD(d:Nat):List Rose->Nat
 |[]=>0
 |t::l=>max (t.deepen d) (nD d l)
end
theorem MV{d:Nat}:∀{l:List Rose},(32<nD d l)↔∃t∈l,32<t.deepen d
 |[]=>by simp[nD]
 |t::l=>by
  have a:=MV (d:=d) (l:=l)
  simp only[nD,jV,exists_eq_or_imp,<-a]
  omega
def rB(dp:List Int)(a:List Int)(v:Int):List Int:=a.foldl (fun dp a=>dp.set a.toNat v) dp
theorem TR:∀(a:List Int) (dp:List Int) (v:Int),(rB dp a v).length=dp.length
 |[],_,_=>rfl
 |x::a,dp,v=>by
  show(rB (dp.set x.toNat v) a v).length=_
  rw[TR a,gK]
theorem NL{j:Nat}{v:Int}:∀(ks:List Rose) (b:Nat) (dp:List Int),j<b->(rB dp (bY b ks) v)[j]? =dp[j]?
 |[],_,_,_=>rfl
 |t::l,b,dp,h=>by
  have a:=t.pos
  show(rB (dp.set (((b+t.size-1:Nat):Int)).toNat v) (bY (b+t.size) l) v)[j]? =_
  rw[NL l (b+t.size) _ (by omega),jO,List.getElem?_set_ne (by omega)]
def DpOk(dp:List Int):Nat->List (Rose×Nat)->Prop
 |_,[]=>True
 |b,p::l=>(∃v:Int,dp[b+p.1.size-1]? =some v/\(v=(p.2:Int)\/v=0/\p.2=1))/\DpOk dp (b+p.1.size) l
theorem DpOk.app{dp:List Int}:∀{l k:List (Rose×Nat)} {b:Nat},DpOk dp b (l++k)↔DpOk dp b l/\DpOk dp (b+aY (l.map (·.1))) k
 |[],k,b=>by simp[DpOk,aY]
 |t::l,k,b=>by
  rw[gF]
  simp only[DpOk,jZ,aY,DpOk.app (l:=l)]
  rw[and_assoc,gL]
theorem DpOk.congr{dp dp':List Int}:∀{l:List (Rose×Nat)} {b:Nat},DpOk dp b l->(∀j,j<b+aY (l.map (·.1))->dp'[j]? =dp[j]?)->DpOk dp' b l
 |[],_,_,_=>trivial
 |t::l,b,h,a=>by
  have e:=t.1.pos
  simp only[jZ,aY] at a
  refine⟨?_,h.2.congr fun j h=>a j (by omega)⟩
  obtain⟨v,c,d⟩:=h.1
  exact⟨v,by rw[a _ (by omega)];exact c,d⟩
theorem DpOk.kids{d:Nat}:∀{ks:List Rose} {b:Nat} {dp:List Int},b+aY ks<=dp.length->DpOk (rB dp (bY b ks) (d:Int)) b (ks.map fun t=>(t,d))
 |[],_,_,_=>trivial
 |t::l,b,dp,h=>by
  have a:=t.pos
  simp only[aY] at h
  show DpOk (rB (dp.set (((b+t.size-1:Nat):Int)).toNat d) (bY (b+t.size) l) d) b ((t,d)::l.map fun t=>(t,d))
  refine⟨⟨d,?_,.inl rfl⟩,DpOk.kids (by rw[gK];omega)⟩
  rw[NL l (b+t.size) _ (by show b+t.size-1<b+t.size;omega),jO,List.getElem?_set_self (by omega)]
theorem PO{N i d:Nat}{x1:Dl}{x5:Ex}{so:List Int}(o:x1.2.2.2[i]? =some x5)(l:∀a∈x5.2.2.2.2,0<=a/\a<(i:Int))(g:x5.2.2.2.2.length<2000000)(q:d<=1000):∀(k j M:Nat) (dp:List Int),j+k=x5.2.2.2.2.length->k<M->i<dp.length->dp[i]? =some (d:Int)->
  aI (BF N x1 ((i:Int),so) x5) M ((j:Int),dp)=some (rB dp (x5.2.2.2.2.drop j) (if x5.1=4 then(d:Int) else((d+1:Nat):Int)))
 |_,_,0,_,_,h,_,_=>absurd h (kQ _)
 |0,j,M+1,dp,s,_,_,_=>by
  have:j=x5.2.2.2.2.length:=by omega
  subst this
  simp only[aI,BF]
  rw[if_neg (by simp),hK]
  rfl
 |k+1,j,M+1,dp,s,u,hi,c=>by
  have f:j<x5.2.2.2.2.length:=by omega
  obtain⟨a0,t⟩:=l _ (jR f)
  obtain⟨a,ea⟩:∃a:Nat,x5.2.2.2.2[j]=(a:Int):=⟨(x5.2.2.2.2[j]).toNat,by omega⟩
  have r:a<i:=by omega
  have ew:IntKind.wrap .i64 ((j:Int)+1)=((j+1:Nat):Int):=by rw[bQ (by omega) (by omega)];omega
  have ed:IntKind.wrap .i64 ((d:Int)+1)=((d+1:Nat):Int):=by rw[bQ (by omega) (by omega)];omega
  simp only[aI,BF]
  rw[if_pos (by simp only[jA];omega),dX f,ea]
  have p:idx dp (a:Int)=some dp[a]:=dX (by omega)
  have n:idx (dp.set a (d:Int)) (a:Int)=some (d:Int):=mD (List.getElem?_set_self (by omega))
  simp only[j0,mD c,p,mD o,jO,n,ed,ew]
  rw[tU f,ea]
  have b:∀v:Int,rB dp ((a:Int)::x5.2.2.2.2.drop (j+1)) v=rB (dp.set a v) (x5.2.2.2.2.drop (j+1)) v:=fun v=>by
   show rB (dp.set ((a:Int)).toNat v) _ v=_
   rw[jO]
  by_cases hk:x5.1=4
  .have e:(x5.1 !=4)=false:=by simp[hk]
   simp only[e,jB,jF,j0]
   rw[PO o l g q k (j+1) M _ (by omega) (by omega) (by rw[gK];exact hi) (by rw[List.getElem?_set_ne (by omega)];exact c),if_pos hk,b]
  have e:(x5.1 !=4)=true:=by simp[hk]
  simp only[e,jH,j0,List.set_set]
  rw[PO o l g q k (j+1) M _ (by omega) (by omega) (by rw[gK];exact hi) (by rw[List.getElem?_set_ne (by omega)];exact c),if_neg hk,b]
theorem VV:∀{ks:List Rose} {b:Nat},∀a∈bY b ks,(b:Int)<=a/\a<((b+aY ks:Nat):Int)
 |[],_,a,h=>by cases h
 |t::l,b,a,h=>by
  have c:=t.pos
  simp only[aY]
  rcases jV.1 h with rfl|h
  .omega
  have:=VV (ks:=l) (b:=b+t.size) a h
  omega
theorem XS{N:Nat}{x1:Dl}(E:x1.2.2.2.length<=256)(g:∀x∈x1.2.2.2,x.2.2.2.2.length<2000000)(hN:3000000<N):∀(M:Nat) (F:List (Rose×Nat)) (dp:List Int),dY 0 (F.map (·.1))=x1.2.2.2.take (aY (F.map (·.1)))->aY (F.map (·.1))<=x1.2.2.2.length->dp.length=x1.2.2.2.length->DpOk dp 0 F->(∀p∈F,1<=p.2/\p.2<=33)->aY (F.map (·.1))<M->
  ∃o,aI (yC N x1) M (((aY (F.map (·.1)):Nat):Int)-1,dp)=some o/\(match o with
   | .inl _=>¬∃p∈F,32<p.1.deepen p.2
   | .inr b=>b=true/\∃p∈F,32<p.1.deepen p.2)
 |0,_,_,_,_,_,_,_,h=>absurd h (kQ _)
 |M+1,F,dp,s,A,S,U,z,R=>by
  rcases hJ F with rfl|⟨pre,⟨⟨h,ks⟩,d⟩,rfl⟩
  .simp only[aI,yC]
   rw[if_neg (by simp[aY])]
   exact⟨_,rfl,by simp⟩
  rw[List.concat_eq_append] at*
  obtain⟨g1,g2⟩:=z (Rose.mk h ks,d) (by simp)
  simp only at g1 g2
  rw[fT,List.map_singleton] at s A R ⊢
  have r:aY (pre.map (·.1)++[Rose.mk h ks])=aY (pre.map (·.1))+(aY ks+1):=by rw[tV];simp[aY,Rose.size]
  generalize hb:aY (pre.map (·.1))=b at r
  obtain⟨d1,K,-⟩:=DpOk.app.1 U
  rw[kF,hb] at K
  obtain⟨v,v1,v2⟩:=K
  simp only[Rose.size] at v1
  rw[show b+(aY ks+1)-1=b+aY ks by omega] at v1
  rw[r] at A R ⊢
  have hi:b+aY ks<dp.length:=by omega
  have ei:((b+(aY ks+1):Nat):Int)-1=((b+aY ks:Nat):Int):=by omega
  -- the node
  have f:x1.2.2.2[b+aY ks]? =some (eM h (bY b ks)):=by
   have e:x1.2.2.2.take (b+(aY ks+1))=dY 0 (pre.map (·.1))++(dY b ks++[eM h (bY b ks)]):=by
    rw[r] at s
    rw[<-s,BV,kF,hb]
    simp[dY,Rose.flat]
   have c:(x1.2.2.2.take (b+(aY ks+1)))[b+aY ks]? =some (eM h (bY b ks)):=by
    rw[e,List.getElem?_append_right (by rw[qD,hb];omega),List.getElem?_append_right (by rw[qD,qD,hb];omega),qD,qD,hb,show b+aY ks-b-aY ks=0 by omega]
    rfl
   rw[List.getElem?_take_of_lt (by omega)] at c
   exact c
  have wi:IntKind.wrap .i64 (((b+aY ks:Nat):Int)-1)=((b+aY ks:Nat):Int)-1:=by rw[bQ (by omega) (by omega)]
  -- the node's depth is laid
  have G:(if(v==0)=true then some (dp.set (b+aY ks) 1) else some dp:Option (List Int))=some (dp.set (b+aY ks) (d:Int)):=by
   rcases v2 with rfl|⟨rfl,rfl⟩
   .have:((d:Int)==0)=false:=by rw[beq_eq_false_iff_ne];omega
    rw[this,XH v1];rfl
   rfl
  have hd':(dp.set (b+aY ks) (d:Int))[b+aY ks]? =some (d:Int):=List.getElem?_set_self hi
  simp only[aI,yC]
  rw[ei,if_pos (by simp only[jA];omega),mD v1]
  simp only[j0,jO,G,mD hd',mD f]
  have c:(Rose.mk h ks).deepen d=max d (nD (if h.1=4 then d else d+1) ks):=by simp only[Rose.deepen]
  by_cases a1:32<d
  .rw[if_pos (by simp only[jA];omega)]
   refine⟨.inr true,rfl,rfl,(Rose.mk h ks,d),by simp,?_⟩
   simp only[c];omega
  rw[if_neg (by simp only[jA];omega)]
  have Z:∀a∈bY b ks,0<=a/\a<((b+aY ks:Nat):Int):=fun a ha=>by
   have:=VV a ha;omega
  have D:=PO (N:=N) (i:=b+aY ks) (d:=d) (x1:=x1) (x5:=eM h (bY b ks)) (so:=dp) f Z (by
   have:=g _ (fM f);exact this) (by omega) (bY b ks).length 0 N (dp.set (b+aY ks) (d:Int)) (by show 0+_=(bY b ks).length;omega) (by
   have:=g _ (fM f)
   have:(bY b ks).length<2000000:=this
   omega) (by rw[gK];exact hi) hd'
  rw[jT] at D
  rw[show(((0:Nat):Int))=0 from rfl] at D
  rw[D]
  simp only[j0,wi]
  have hv:(if(eM h (bY b ks)).1=4 then(d:Int) else((d+1:Nat):Int))=(((if h.1=4 then d else d+1:Nat)):Int):=by
   show(if h.1=4 then(d:Int) else((d+1:Nat):Int))=_
   split<;>rfl
  rw[hv]
  show ∃o,aI (yC N x1) M (((b+aY ks:Nat):Int)-1,rB (dp.set (b+aY ks) (d:Int)) (bY b ks) _)=some o/\_
  generalize hd2:(if h.1=4 then d else d+1:Nat)=d'
  rw[hd2] at c
  have hd2':1<=d'/\d'<=33:=by rw[<-hd2];split<;>omega
  have B:∀l:List Rose,(l.map fun t=>(t,d')).map (·.1)=l:=fun l=>by rw[List.map_map];exact List.map_id _
  have n:aY ((pre++ks.map fun t=>(t,d')).map (·.1))=b+aY ks:=by rw[fT,B,tV,hb]
  have V:dY 0 ((pre++ks.map fun t=>(t,d')).map (·.1))=x1.2.2.2.take (b+aY ks):=by
   rw[fT,B,BV,kF,hb]
   have e:x1.2.2.2.take (b+(aY ks+1))=dY 0 (pre.map (·.1))++(dY b ks++[eM h (bY b ks)]):=by
    rw[r] at s
    rw[<-s,BV,kF,hb]
    simp[dY,Rose.flat]
   have k:=congrArg (List.take (b+aY ks)) e
   rw[List.take_take,Nat.min_eq_left (by omega),<-jL,kX (by rw[jC,qD,qD,hb];exact jP _),gT (show(dY 0 (pre.map (·.1))++dY b ks).length<=b+aY ks by rw[jC,qD,qD,hb];exact jP _)] at k
   exact k.symm
  obtain⟨o,o1,o2⟩:=XS E g hN M (pre++ks.map fun t=>(t,d')) (rB (dp.set (b+aY ks) (d:Int)) (bY b ks) (d':Int)) (by rw[n];exact V) (by rw[n];omega) (by rw[TR,gK];exact S) (DpOk.app.2 ⟨d1.congr fun j Y=>by
    rw[kF,hb] at Y
    rw[NL ks b _ Y,List.getElem?_set_ne (by omega)],by
    rw[kF,hb]
    exact DpOk.kids (by rw[gK];omega)⟩) (fun p k=>by
    rcases gJ.1 k with k|k
    .exact z p (jY _ k)
    obtain⟨t,-,rfl⟩:=fX.1 k
    exact hd2') (by rw[n];omega)
  rw[n] at o1
  refine⟨o,o1,?_⟩
  have y:(∃p∈pre++ks.map fun t=>(t,d'),32<p.1.deepen p.2)↔∃p∈pre++[(Rose.mk h ks,d)],32<p.1.deepen p.2:=by
   simp only[gJ,fX,kL]
   constructor
   .rintro⟨p,k|⟨t,H,rfl⟩,q⟩
    .exact⟨p,.inl k,q⟩
    refine⟨_,.inr rfl,?_⟩
    simp only[c]
    have:32<nD d' ks:=MV.2 ⟨t,H,q⟩
    omega
   rintro⟨p,k|rfl,q⟩
   .exact⟨p,.inl k,q⟩
   simp only[c] at q
   obtain⟨t,H,q⟩:=MV.1 (show 32<nD d' ks by omega)
   exact⟨_,.inr ⟨t,H,rfl⟩,q⟩
  cases o with
  |inl u=>exact fun k=>o2 (y.2 k)
  |inr u=>exact⟨o2.1,y.1 o2.2⟩
def rV(l:List Ex):Bool:=match CU l with
 |some t=>decide (32<t.deepen 1)
 |none=>false
def rD(d:Dl):Bool:=decide (8<d.2.2.1.length)||(decide (256<d.2.2.2.length)||rV d.2.2.2)
def uN(f:Sr):Bool:=decide (8<f.2.1.length)||(decide (64<f.2.2.length)||f.2.2.any rD)
def oL(f:Sr):Int:=if sT f=true then if uH f=true then 10 else if uN f=true then 2 else 0 else 9
theorem qLe{N:Nat}{f:Sr}(E:SmSr f)(p:sT f=true)(B:3000000<N):BP N f=some (uN f):=by
 obtain⟨S,U,A⟩:=id E
 have c:∀d∈f.2.2,oneP (nI d.2.2.2 0 [])=true:=fun d D=>by
  unfold sT mN wI at p
  simp only[jK,jW] at p
  exact(p.2.2 d D).2.2.2
 have q:=oK (L:=f.2.2) (fun(_:Unit) (i:Nat)=>(i:Int)) (f:=BG N f)
  (fun _ d=>if rD d=true then .inr (.inr true) else .inl ()) (fun _=>(.inl ():Unit⊕Bool)) (fun _ _=>True) (by
   intro t i hi _
   obtain⟨-,G,H,y⟩:=A _ (jR hi)
   have r:=c _ (jR hi)
   simp only[BG]
   rw[if_pos (by simp only[jA];omega),dX hi]
   generalize f.2.2[i]=d at G H y r
   have ew:IntKind.wrap .i64 ((i:Int)+1)=((i+1:Nat):Int):=by rw[bQ (by omega) (by omega)];omega
   have n:decide ((d.2.2.1.length:Int)>8)=decide (8<d.2.2.1.length):=by congr 1;rw[eq_iff_iff];omega
   have l:decide ((d.2.2.2.length:Int)>256)=decide (256<d.2.2.2.length):=by congr 1;rw[eq_iff_iff];omega
   simp only[j0,n,l,ew]
   unfold rD
   cases c8:decide (8<d.2.2.1.length) with
   |true=>rfl
   |false=>
    simp only[jB,jF,j0,kW]
    cases c256:decide (256<d.2.2.2.length) with
    |true=>rfl
    |false=>
     have V:=of_decide_eq_false c256
     have R:(maxLen:Int)=9223372036854775807:=rfl
     have s:qL 8 (0:Int) (d.2.2.2.length:Int)=some (List.replicate d.2.2.2.length 0):=by
      unfold qL;rw[if_pos (by omega),jO]
     obtain⟨t,v,h⟩:=GL r
     have k:t.size=d.2.2.2.length:=by
      have:=lS t 0
      rw[<-h] at this;exact this.symm
     have Y:=t.pos
     simp only[jB,jF,s,j0,kW]
     have a:aY ([(t,1)].map (·.1))=d.2.2.2.length:=by simp[aY,k]
     obtain⟨o,z,o2⟩:=XS (N:=N) (x1:=d) (by omega) (fun x F=>(y x F).2) B N [(t,1)] (List.replicate d.2.2.2.length 0) (by
      rw[a,gQ]
      simp only[jZ,List.map_nil,dY,gZ]
      exact h.symm) (by rw[a];exact jP _) (by simp) ⟨⟨0,by rw[kF,k,List.getElem?_replicate,if_pos (by omega)],.inr ⟨rfl,rfl⟩⟩,trivial⟩ (by simp) (by rw[a];omega)
     rw[a] at z
     rw[bQ (by omega) (by omega),z]
     have g:rV d.2.2.2=decide (32<t.deepen 1):=by unfold rV;rw[v]
     simp only[j0]
     cases o with
     |inl u=>
      simp only[kL,exists_eq_left] at o2
      have e:rV d.2.2.2=false:=by rw[g];exact jQ o2
      rw[e]
      rfl
     |inr u=>
      simp only[kL,exists_eq_left] at o2
      obtain⟨rfl,K⟩:=o2
      have e:rV d.2.2.2=true:=by rw[g];exact jU K
      rw[e]
      rfl) (fun _ _ _ _ _ _=>trivial) (by
   intro t _
   simp only[BG]
   rw[if_neg (by simp)]) (M:=N) (t:=()) (by omega) trivial
 rw[show((0:Nat):Int)=0 from rfl] at q
 unfold BP
 have n:decide ((f.2.1.length:Int)>8)=decide (8<f.2.1.length):=by congr 1;rw[eq_iff_iff];omega
 have a:decide ((f.2.2.length:Int)>64)=decide (64<f.2.2.length):=by congr 1;rw[eq_iff_iff];omega
 rw[n,a]
 unfold uN
 cases c8:decide (8<f.2.1.length) with
 |true=>rfl
 |false=>
  simp only[jB,jF,j0,kW]
  cases c64:decide (64<f.2.2.length) with
  |true=>rfl
  |false=>
   simp only[jB,jF,kW]
   rw[q,sN (b:=(.inr true:Unit⊕Bool)) rD (fun x=>rfl)]
   cases f.2.2.any rD<;>rfl
theorem GD{N:Nat}{f:Sr}(b:SmSr f)(a:3000000<N):qC N f=some (oL f):=by
 unfold qC
 rw[show BJ N (f.1,f.2.1,f.2.2)=_ from qGw b a,show BL N (f.1,f.2.1,f.2.2)=_ from qIp b a]
 simp only[j0]
 unfold oL
 cases hs:sT f with
 |false=>rfl
 |true=>
  rw[show BP N (f.1,f.2.1,f.2.2)=_ from qLe b hs a]
  simp only[kI,jB,jF,j0,jH]
  cases uH f<;>cases uN f<;>rfl
end
section
open Go Go.Dc Go.Proofs
def eO(h:Hd):Int:=if h.1=5 then 0 else if h.1=4 then(if h.2.2.1=6\/h.2.2.1=7 then 1 else if h.2.2.1=1\/h.2.2.1=2 then 2 else 3) else 4
def eU(h:Hd)(k:Nat):Int:=if h.1=4 then(if k=0 then(if eO h=1 then 2 else eO h) else eO h+1) else 0
def PY:List (Int×BA):=[(1,⟨#[43]⟩),(2,⟨#[45]⟩),(3,⟨#[42]⟩),(4,⟨#[47]⟩),(5,⟨#[37]⟩),(6,⟨#[60]⟩),(7,⟨#[61,61]⟩)]
def zD(op:Int):BA:=(cX (some PY) op).getD ⟨#[]⟩
def LH:List (Int×BA):=[(7,⟨#[115,105,122,101]⟩),(8,⟨#[104,97,115]⟩),(9,⟨#[101,110,118]⟩)]
def zG(k:Int):BA:=(cX (some LH) k).getD ⟨#[]⟩
def tI:List UInt8:=[105,102,32]
def tThen:List UInt8:=[32,116,104,101,110,32]
def tElse:List UInt8:=[32,101,108,115,101,32]
def lJ(k:Nat):List UInt8:=if k=0 then[] else[44,32]
def lH:Nat->List (List UInt8)->List UInt8
 |_,[]=>[]
 |k,w::ws=>lJ k++(w++lH (k+1) ws)
def eL(ps:List BA)(h:Hd)(ws:List (List UInt8)):List UInt8:=
 if h.1=1 then(nK h.2.1).data.toList
 else if h.1=2 then(ps.getD h.2.1.toNat ⟨#[]⟩).data.toList
 else if h.1=4 then ws.getD 0 []++((((⟨#[32]⟩:BA)++zD h.2.2.1)++(⟨#[32]⟩:BA)).data.toList++ws.getD 1 [])
 else if h.1=5 then tI++(ws.getD 0 []++(tThen++(ws.getD 1 []++(tElse++ws.getD 2 []))))
 else if h.1=3 then(h.2.2.2++(⟨#[40]⟩:BA)).data.toList++(lH 0 ws++[41])
 else if h.1=6 then(((⟨#[114,101,97,100,40,34]⟩:BA)++h.2.2.2)++(⟨#[34,44,32]⟩:BA)).data.toList++(ws.getD 0 []++[41])
 else if h.1=10 then(((⟨#[102,108,105,112,40]⟩:BA)++nK h.2.1)++(⟨#[41]⟩:BA)).data.toList
 else(((zG h.1++(⟨#[40,34]⟩:BA))++h.2.2.2)++(⟨#[34,41]⟩:BA)).data.toList
mutual
def Rose.wr(ps:List BA)(need:Int):Rose->List UInt8
 | .mk h ks=>if eO h<need then 40::(eL ps h (eG ps h 0 ks)++[41]) else eL ps h (eG ps h 0 ks)
def eG(ps:List BA)(h:Hd)(k:Nat):List Rose->List (List UInt8)
 |[]=>[]
 |t::l=>t.wr ps (eU h k)::eG ps h (k+1) l
end
mutual
def Rose.dep(need:Int)(d:Nat):Rose->Nat
 | .mk h ks=>max (if eO h<need then d+1 else d) (pR h 0 (if h.1=4 then(if eO h<need then d+1 else d) else(if eO h<need then d+1 else d)+1) ks)
def pR(h:Hd)(k d:Nat):List Rose->Nat
 |[]=>0
 |t::l=>max (t.dep (eU h k) d) (pR h (k+1) d l)
end
theorem WP{N:Nat}(x:Ex):vL N x=some (eO (x.1,x.2.1,x.2.2.1,x.2.2.2.1)):=by
 unfold vL yB eO
 by_cases h5:x.1=5
 .simp[h5]
 by_cases h4:x.1=4
 .by_cases o6:x.2.2.1=6
  .simp[h4,o6]
  by_cases o7:x.2.2.1=7
  .simp[h4,o7]
  by_cases o1:x.2.2.1=1
  .simp[h4,o1]
  by_cases o2:x.2.2.1=2
  .simp[h4,o2]
  simp[h4,o6,o7,o1,o2]
 simp[h5,h4]
theorem qJn{N:Nat}:BN N=some (some PY):=by kernel_rfl
theorem mG{l k:List UInt8}(h:l.length+k.length<=1000000000):cW 1 l k=some (l++k):=lU (by omega) (by decide)
theorem cR{x y:BA}(h:x.size+y.size<=1000000000):bH x y=some (x++y):=by
 unfold bH
 rw[if_pos (Nat.le_trans h (by decide))]
theorem eD(x:BA):x.data.toList.length=x.size:=by simp
theorem sQ(m d:Nat):(if(d:Int)>(m:Int) then(d:Int) else(m:Int))=((max m d:Nat):Int):=by
 split<;>omega
section
variable (N:Nat) (l:List Ex) (ps:List BA)
def CZ(t:Rose):Prop:=∀(D b:Nat) (buf:List UInt8) (s:Bool) (m d:Nat) (need:Int),AtT l b t->(∀x∈t.flat b,iJ (ps.length:Int) x=true)->2*t.size<=D->buf.length+(t.wr ps need).length<=1000000000->d+2*t.size<=100000000->0<=need->
 vE N D ((s,buf),l,ps,(m:Int)) ((b+t.size-1:Nat):Int) need (d:Int)=some ((true,buf++t.wr ps need),l,ps,((max m (t.dep need d):Nat):Int))
variable {N l ps}
theorem UQ{h:Hd}{x1:Ex}{D d:Nat}(F:3000000<N)(e:x1.2.2.2.2.length<2000000)(G:d<100000000):∀(ks:List Rose) (k b M m:Nat) (buf:List UInt8),(∀t∈ks,CZ N l ps t)->x1.2.2.2.2.drop k=bY b ks->k<=x1.2.2.2.2.length->AtTs l b ks->(∀x∈dY b ks,iJ (ps.length:Int) x=true)->2*aY ks<=D->h.1≠4->
  buf.length+(lH k (eG ps h k ks)).length<=1000000000->d+1+2*aY ks<=100000000->ks.length<M->
  aI (AK N (vE N D) (d:Int) x1) M ((k:Int),true,buf,l,ps,(m:Int))=some (true,buf++lH k (eG ps h k ks),l,ps,((max m (pR h k (d+1) ks):Nat):Int))
 |_,_,_,0,_,_,_,_,_,_,_,_,_,_,_,n=>absurd n (kQ _)
 |[],k,b,M+1,m,buf,_,a,H,_,_,_,_,_,_,_=>by
  have U:k=x1.2.2.2.2.length:=by
   have:=congrArg List.length a
   rw[kY] at this
   simp only[bY,jE] at this
   omega
  simp only[aI,AK]
  rw[if_neg (by simp only[jA];omega)]
  simp only[j0,eG,lH,gZ,pR,fI]
 |t::ks,k,b,M+1,m,buf,g,a,H,s,B,E,r,c,v,n=>by
  have K:=t.pos
  simp only[aY] at E v
  have f:k<x1.2.2.2.2.length:=by
   by_cases hh:k<x1.2.2.2.2.length
   .exact hh
   rw[jM (by omega)] at a;cases a
  rw[tU f] at a
  obtain⟨z,A⟩:=List.cons.inj a
  obtain⟨p,q⟩:=s.head
  have y:eU h k=0:=by unfold eU;rw[if_neg r]
  simp only[eG,lH,y] at c ⊢
  simp only[jC] at c
  have ew:IntKind.wrap .i64 ((k:Int)+1)=((k+1:Nat):Int):=by rw[bQ (by omega) (by omega)];omega
  have ed:IntKind.wrap .i64 ((d:Int)+1)=((d+1:Nat):Int):=by rw[bQ (by omega) (by omega)];omega
  simp only[aI,AK]
  rw[if_pos (by simp only[jA];omega),dX f,z]
  have o:(if(decide ((k:Int)>0))=true then((cW 1 buf ((⟨#[44,32]⟩:BA).data.toList)).bind fun S=>some (true,S)) else(some (true,buf)):Option (Bool×List (UInt8)))=some (true,buf++lJ k):=by
   unfold lJ at c ⊢
   by_cases h0:k=0
   .subst h0
    rw[if_neg (by decide),if_pos rfl,gZ]
   rw[if_neg h0] at c
   rw[if_pos (by simp only[jA];omega),if_neg h0,mG (by show buf.length+2<=_;simp only[jD,jE] at c;omega)]
   rfl
  simp only[j0,o,ew,ed]
  rw[g t (jS ..) D b (buf++lJ k) true m (d+1) 0 p (fun x e=>B x (by unfold dY;exact jY _ e)) (by omega) (by rw[jC];omega) (by omega) (fE 0)]
  simp only[j0]
  rw[UQ F e G ks (k+1) (b+t.size) M (max m (t.dep 0 (d+1))) ((buf++lJ k)++t.wr ps 0) (fun u R=>g u (jX _ R)) A (by omega) q (fun x e=>B x (by unfold dY;exact kM _ e)) (by omega) r (by simp only[jC];omega) (by omega) (by simp only[jD] at n;omega)]
  simp only[jL,pR,y,dC]
theorem GC{np:Int}{x:Ex}(h:iJ np x=true):
  (x.1=1/\x.2.2.2.2.length=0/\-9007199254740992<=x.2.1/\x.2.1<=9007199254740992/\x.2.2.1=0/\x.2.2.2.1=emB)\/(x.1=2/\x.2.2.2.2.length=0/\0<=x.2.1/\x.2.1<np/\x.2.2.1=0/\x.2.2.2.1=emB)\/(x.1=3/\dZ x.2.2.2.1=true/\x.2.1=0/\x.2.2.1=0)\/(x.1=4/\x.2.2.2.2.length=2/\1<=x.2.2.1/\x.2.2.1<=7/\x.2.1=0/\x.2.2.2.1=emB)\/
  (x.1=5/\x.2.2.2.2.length=3/\x.2.1=0/\x.2.2.1=0/\x.2.2.2.1=emB)\/(x.1=6/\x.2.2.2.2.length=1/\lM x.2.2.2.1.data.toList=true/\x.2.1=0/\x.2.2.1=0)\/((x.1=7\/x.1=8)/\x.2.2.2.2.length=0/\lM x.2.2.2.1.data.toList=true/\x.2.1=0/\x.2.2.1=0)\/(x.1=9/\x.2.2.2.2.length=0/\oA x.2.2.2.1=true/\x.2.1=0/\x.2.2.1=0)\/
  (x.1=10/\x.2.2.2.2.length=0/\0<=x.2.1/\x.2.1<64/\x.2.2.1=0/\x.2.2.2.1=emB):=by
 unfold iJ qM at h
 by_cases h1:x.1=1
 .simp only[if_pos h1,jK,jA,kD] at h
  exact .inl ⟨h1,by omega,h.2.2.2.1,h.2.2.2.2,h.2.1,h.1⟩
 rw[if_neg h1] at h
 by_cases h2:x.1=2
 .simp only[if_pos h2,jK,jA,kD] at h
  exact .inr (.inl ⟨h2,by omega,h.2.2.2.1,h.2.2.2.2,h.2.1,h.1⟩)
 rw[if_neg h2] at h
 by_cases h3:x.1=3
 .simp only[if_pos h3,jK,jA,kD] at h
  exact .inr (.inr (.inl ⟨h3,h.2.2,h.1,h.2.1⟩))
 rw[if_neg h3] at h
 by_cases h4:x.1=4
 .simp only[if_pos h4,jK,jA,kD] at h
  exact .inr (.inr (.inr (.inl ⟨h4,by omega,h.2.2.2.1,h.2.2.2.2,h.1,h.2.1⟩)))
 rw[if_neg h4] at h
 by_cases h5:x.1=5
 .simp only[if_pos h5,jK,jA,kD] at h
  exact .inr (.inr (.inr (.inr (.inl ⟨h5,by omega,h.1,h.2.2.1,h.2.1⟩))))
 rw[if_neg h5] at h
 by_cases h6:x.1=6
 .simp only[if_pos h6,jK,jA,kD] at h
  exact .inr (.inr (.inr (.inr (.inr (.inl ⟨h6,by omega,h.2.2.2,h.1,h.2.1⟩)))))
 rw[if_neg h6] at h
 by_cases h7:x.1=7\/x.1=8
 .simp only[if_pos h7,jK,jA,kD] at h
  exact .inr (.inr (.inr (.inr (.inr (.inr (.inl ⟨h7,by omega,h.2.2.2,h.1,h.2.1⟩))))))
 rw[if_neg h7] at h
 by_cases h9:x.1=9
 .simp only[if_pos h9,jK,jA,kD] at h
  exact .inr (.inr (.inr (.inr (.inr (.inr (.inr (.inl ⟨h9,by omega,h.2.2.2,h.1,h.2.1⟩)))))))
 rw[if_neg h9] at h
 by_cases h10:x.1=10
 .simp only[if_pos h10,jK,jA,kD] at h
  exact .inr (.inr (.inr (.inr (.inr (.inr (.inr (.inr ⟨h10,by omega,h.2.2.2.1,h.2.2.2.2,h.2.1,h.1⟩)))))))
 rw[if_neg h10] at h
 cases h
end
section
variable {N:Nat} {l:List Ex} {ps:List BA}
theorem LL{b:Nat}{ks:List Rose}(h:(bY b ks).length=0):ks=[]:=by
 rw[oS] at h
 exact gA.1 h
theorem qAf{b:Nat}{ks:List Rose}(h:(bY b ks).length=1):∃t,ks=[t]:=by
 rw[oS] at h
 exact List.length_eq_one_iff.1 h
theorem ZX{b:Nat}{ks:List Rose}(h:(bY b ks).length=2):∃t u,ks=[t,u]:=by
 rw[oS] at h
 match ks,h with
 |[t,u],_=>exact⟨t,u,rfl⟩
theorem ZS{b:Nat}{ks:List Rose}(h:(bY b ks).length=3):∃t u v,ks=[t,u,v]:=by
 rw[oS] at h
 match ks,h with
 |[t,u,v],_=>exact⟨t,u,v,rfl⟩
theorem XT{N:Nat}{n:Int}(a: -9007199254740992<=n)(b:n<=9007199254740992):strconv_Itoa N n=some (nK n):=by
 unfold strconv_Itoa LI
 rw[if_pos ⟨by omega,by omega⟩]
theorem wm1:iH (some []:Option (List (Int×BA))) 7 (⟨#[115,105,122,101]⟩:BA)=some (some [(7,⟨#[115,105,122,101]⟩)]):=by kernel_rfl
theorem wm2:iH (some [(7,⟨#[115,105,122,101]⟩)]:Option (List (Int×BA))) 8 (⟨#[104,97,115]⟩:BA)=some (some [(7,⟨#[115,105,122,101]⟩),(8,⟨#[104,97,115]⟩)]):=by kernel_rfl
theorem wm3:iH (some [(7,⟨#[115,105,122,101]⟩),(8,⟨#[104,97,115]⟩)]:Option (List (Int×BA))) 9 (⟨#[101,110,118]⟩:BA)=some (some LH):=by kernel_rfl
theorem XP{h:Hd}{ks:List Rose}(hN:3000000<N)(r:∀t∈ks,CZ N l ps t){D b m d:Nat}{buf:List UInt8}{s:Bool}{need:Int}(a3:AtT l b (.mk h ks))(hv:∀x∈(Rose.mk h ks).flat b,iJ (ps.length:Int) x=true)(H:2*aY ks<=D)
  (n:buf.length+(eL ps h (eG ps h 0 ks)).length<=1000000000) (V:d+(2*aY ks+1)<=100000000) (hl:¬eO h<need) (a6:ks.length<2000000):
  vE N (D+1) ((s,buf),l,ps,(m:Int)) ((b+aY ks:Nat):Int) need (d:Int)=some ((true,buf++eL ps h (eG ps h 0 ks)),l,ps,((max m (max d (pR h 0 (if h.1=4 then d else d+1) ks)):Nat):Int)):=by
 obtain⟨Y,A⟩:=a3.args
 have Y:l[b+aY ks]? =some (h.1,h.2.1,h.2.2.1,h.2.2.2,bY b ks):=Y
 have K:iJ (ps.length:Int) (h.1,h.2.1,h.2.2.1,h.2.2.2,bY b ks)=true:=hv (eM h (bY b ks)) (by unfold Rose.flat;exact kM _ (jS ..))
 have o:∀x∈dY b ks,iJ (ps.length:Int) x=true:=fun x q=>hv x (by unfold Rose.flat;exact jY _ q)
 have ed:IntKind.wrap .i64 ((d:Int)+1)=((d+1:Nat):Int):=by rw[bQ (by omega) (by omega)];omega
 show xP N (vE N D) _ _ _ _=_
 unfold xP
 dsimp only
 rw[mD Y]
 simp only[j0]
 rw[show vL N (h.1,h.2.1,h.2.2.1,h.2.2.2,bY b ks)=some (eO h) from WP _]
 simp only[j0]
 rw[if_neg (by simpa using hl)]
 rcases GC K with ⟨k,a,z,F,-,-⟩|⟨k,a,z,F,-,-⟩|⟨k,a,-,-⟩|⟨k,a,z,F,-,-⟩|⟨k,a,-,-,-⟩|⟨k,a,z,-,-⟩|⟨k,a,z,-,-⟩|⟨k,a,z,-,-⟩|⟨k,a,z,F,-,-⟩
 all_goals dsimp only at k a
 .obtain rfl:=LL a
  have eb:eL ps h (eG ps h 0 [])=(nK h.2.1).data.toList:=by unfold eL;rw[if_pos k]
  rw[eb] at n ⊢
  dsimp only at z F
  rw[if_pos (by simpa using k),XT z F]
  simp only[j0]
  rw[mG n]
  simp only[j0,sQ,pR,fI]
 .obtain rfl:=LL a
  dsimp only at z F
  have c:h.1≠1:=by omega
  have eb:eL ps h (eG ps h 0 [])=(ps.getD h.2.1.toNat ⟨#[]⟩).data.toList:=by unfold eL;rw[if_neg c,if_pos k]
  rw[eb] at n ⊢
  have f:h.2.1.toNat<ps.length:=by omega
  rw[if_neg (by simpa using c),if_pos (by simpa using k),KF z f]
  simp only[j0]
  have e:ps.getD h.2.1.toNat ⟨#[]⟩=ps[h.2.1.toNat]:=by rw[kO,List.getElem?_eq_getElem f];rfl
  rw[e] at n ⊢
  rw[mG n]
  simp only[j0,sQ,pR,fI]
 .have c:h.1≠1:=by omega
  have g:h.1≠2:=by omega
  have f:h.1≠4:=by omega
  have p:h.1≠5:=by omega
  have eb:eL ps h (eG ps h 0 ks)=(h.2.2.2++(⟨#[40]⟩:BA)).data.toList++(lH 0 (eG ps h 0 ks)++[41]):=by unfold eL;rw[if_neg c,if_neg g,if_neg f,if_neg p,if_pos k]
  rw[eb] at n ⊢
  rw[if_neg (by simpa using c),if_neg (by simpa using g),if_neg (by simpa using f),if_neg (by simpa using p),if_pos (by simpa using k)]
  simp only[jC,eD,ByteArray.size_append,jD,jE] at n
  have a5:(⟨#[40]⟩:BA).size=1:=rfl
  rw[cR (by omega)]
  simp only[j0]
  rw[mG (by rw[eD,ByteArray.size_append];omega)]
  simp only[j0,sQ]
  have y:=UQ (N:=N) (l:=l) (ps:=ps) (h:=h) (x1:=(h.1,h.2.1,h.2.2.1,h.2.2.2,bY b ks)) (D:=D) (d:=d) hN (by show(bY b ks).length<_;rw[oS];exact a6) (by omega) ks 0 b N (max m d) (buf++(h.2.2.2++(⟨#[40]⟩:BA)).data.toList) r rfl (kK _) A o H f
   (by simp only[jC,eD,ByteArray.size_append];omega) (by omega) (by omega)
  rw[show((0:Nat):Int)=0 from rfl] at y
  rw[y]
  simp only[j0]
  rw[mG (by simp only[jC,eD,ByteArray.size_append,jD,jE];omega)]
  simp only[j0,jL,if_neg f,dC]
 .obtain⟨t,u,rfl⟩:=ZX a
  have c:h.1≠1:=by omega
  have g:h.1≠2:=by omega
  simp only[aY,gP] at H V o
  obtain⟨B,atr⟩:=A.head
  obtain⟨y,-⟩:=atr.head
  have a7:1<=eO h/\eO h<=3:=by
   unfold eO
   rw[if_neg (show h.1≠5 by omega),if_pos k]
   split<;>(try split)<;>omega
  have R:eU h 0=if eO h=1 then 2 else eO h:=by unfold eU;rw[if_pos k,if_pos rfl]
  have S:eU h 1=eO h+1:=by unfold eU;rw[if_pos k,if_neg (by decide)]
  have eb:eL ps h (eG ps h 0 [t,u])=t.wr ps (eU h 0)++((((⟨#[32]⟩:BA)++zD h.2.2.1)++(⟨#[32]⟩:BA)).data.toList++u.wr ps (eU h 1)):=by unfold eL;rw[if_neg c,if_neg g,if_pos k];rfl
  rw[eb] at n ⊢
  rw[if_neg (by simpa using c),if_neg (by simpa using g),if_pos (by simpa using k)]
  have E:(if(eO h==1)=true then(some (IntKind.wrap .i64 (eO h+1))) else(some (eO h)):Option (Int))=some (eU h 0):=by
   rw[R]
   by_cases e:eO h=1
   .rw[if_pos (by simpa using e),if_pos e,bQ (by omega) (by omega),e];rfl
   rw[if_neg (by simpa using e),if_neg e]
  have w1:IntKind.wrap .i64 (eO h+1)=eU h 1:=by rw[S,bQ (by omega) (by omega)]
  have G:idx (bY b [t,u]) 0=some ((b+t.size-1:Nat):Int):=rfl
  have Z:idx (bY b [t,u]) 1=some ((b+t.size+u.size-1:Nat):Int):=rfl
  simp only[j0,E,G,Z,sQ]
  rw[w1]
  simp only[jC,eD,ByteArray.size_append] at n
  have a5:(⟨#[32]⟩:BA).size=1:=rfl
  have U:=t.pos
  have a4:=u.pos
  have q0:0<=eU h 0:=by rw[R];split<;>omega
  have q1:0<=eU h 1:=by rw[S];omega
  rw[r t (jS ..) D b buf s (max m d) d (eU h 0) B (fun x q=>o x (by unfold dY;exact jY _ q)) (by omega) (by omega) (by omega) q0]
  simp only[j0,qJn]
  rw[show(cX (some PY) h.2.2.1).getD (⟨#[]⟩:BA)=zD h.2.2.1 from rfl,cR (by omega)]
  simp only[j0]
  rw[cR (by rw[ByteArray.size_append];omega)]
  simp only[j0]
  rw[mG (by simp only[jC,eD,ByteArray.size_append];omega)]
  simp only[j0]
  rw[r u (jX _ (jS ..)) D (b+t.size) _ true _ d (eU h 1) y (fun x q=>o x (by unfold dY;refine kM _ ?_;unfold dY;exact jY _ q)) (by omega) (by simp only[jC,eD,ByteArray.size_append];omega) (by omega) q1]
  simp only[j0,jL,if_pos k,pR,fI,dC]
 .obtain⟨t,u,v,rfl⟩:=ZS a
  have c:h.1≠1:=by omega
  have g:h.1≠2:=by omega
  have f:h.1≠4:=by omega
  simp only[aY,gP] at H V o
  obtain⟨B,atr⟩:=A.head
  obtain⟨y,atr⟩:=atr.head
  obtain⟨R,-⟩:=atr.head
  have E:∀j,eU h j=0:=fun j=>by unfold eU;rw[if_neg f]
  have eb:eL ps h (eG ps h 0 [t,u,v])=tI++(t.wr ps 0++(tThen++(u.wr ps 0++(tElse++v.wr ps 0)))):=by
   unfold eL;rw[if_neg c,if_neg g,if_neg f,if_pos k]
   simp only[eG,E];rfl
  rw[eb] at n ⊢
  rw[if_neg (by simpa using c),if_neg (by simpa using g),if_neg (by simpa using f),if_pos (by simpa using k)]
  have U:=t.pos
  have a4:=u.pos
  have a5:=v.pos
  have l1:tI.length=3:=rfl
  have l2:tThen.length=6:=rfl
  have l3:tElse.length=6:=rfl
  simp only[jC] at n
  obtain⟨M,rfl⟩:∃M,N=M+4:=⟨N-4,by omega⟩
  have G:idx (bY b [t,u,v]) 0=some ((b+t.size-1:Nat):Int):=rfl
  have Z:idx (bY b [t,u,v]) 1=some ((b+t.size+u.size-1:Nat):Int):=rfl
  have i2:idx (bY b [t,u,v]) 2=some ((b+t.size+u.size+v.size-1:Nat):Int):=rfl
  have a0:∀L:List UInt8,L.length+3<=1000000000->cW 1 L [105,102,32]=some (L++tI):=fun L h=>mG h
  have S:∀L:List UInt8,L.length+6<=1000000000->cW 1 L [32,116,104,101,110,32]=some (L++tThen):=fun L h=>mG h
  have a2:∀L:List UInt8,L.length+6<=1000000000->cW 1 L [32,101,108,115,101,32]=some (L++tElse):=fun L h=>mG h
  have w0:IntKind.wrap .i64 ((0:Int)+1)=1:=by decide
  have w1:IntKind.wrap .i64 ((1:Int)+1)=2:=by decide
  have w2:IntKind.wrap .i64 ((2:Int)+1)=3:=by decide
  have s0:idx ([(⟨#[105,102,32]⟩:BA),(⟨#[32,116,104,101,110,32]⟩:BA),(⟨#[32,101,108,115,101,32]⟩:BA)]) 0=some ⟨#[105,102,32]⟩:=rfl
  have s1:idx ([(⟨#[105,102,32]⟩:BA),(⟨#[32,116,104,101,110,32]⟩:BA),(⟨#[32,101,108,115,101,32]⟩:BA)]) 1=some ⟨#[32,116,104,101,110,32]⟩:=rfl
  have s2:idx ([(⟨#[105,102,32]⟩:BA),(⟨#[32,116,104,101,110,32]⟩:BA),(⟨#[32,101,108,115,101,32]⟩:BA)]) 2=some ⟨#[32,101,108,115,101,32]⟩:=rfl
  have c0:decide ((0:Int)<(List.length ([(⟨#[105,102,32]⟩:BA),(⟨#[32,116,104,101,110,32]⟩:BA),(⟨#[32,101,108,115,101,32]⟩:BA)]):Int))=true:=by decide
  have c1:decide ((1:Int)<(List.length ([(⟨#[105,102,32]⟩:BA),(⟨#[32,116,104,101,110,32]⟩:BA),(⟨#[32,101,108,115,101,32]⟩:BA)]):Int))=true:=by decide
  have c2:decide ((2:Int)<(List.length ([(⟨#[105,102,32]⟩:BA),(⟨#[32,116,104,101,110,32]⟩:BA),(⟨#[32,101,108,115,101,32]⟩:BA)]):Int))=true:=by decide
  have c3:decide ((3:Int)<(List.length ([(⟨#[105,102,32]⟩:BA),(⟨#[32,116,104,101,110,32]⟩:BA),(⟨#[32,101,108,115,101,32]⟩:BA)]):Int))=false:=by decide
  simp only[aI,IZ,c0,jH,s0,j0,G,ed,sQ]
  rw[a0 _ (by omega)]
  simp only[j0]
  rw[r t (by simp) D b (buf++tI) true (max m d) (d+1) 0 B (fun x q=>o x (by unfold dY;exact jY _ q)) (by omega) (by rw[jC];omega) (by omega) (fE 0)]
  simp only[j0,w0,c1,jH,s1,Z]
  rw[S _ (by simp only[jC];omega)]
  simp only[j0]
  rw[r u (by simp) D (b+t.size) _ true _ (d+1) 0 y (fun x q=>o x (by unfold dY;refine kM _ ?_;unfold dY;exact jY _ q)) (by omega) (by simp only[jC];omega) (by omega) (fE 0)]
  simp only[j0,w1,c2,jH,s2,i2]
  rw[a2 _ (by simp only[jC];omega)]
  simp only[j0]
  rw[r v (by simp) D (b+t.size+u.size) _ true _ (d+1) 0 R (fun x q=>o x (by unfold dY;refine kM _ ?_;unfold dY;refine kM _ ?_;unfold dY;exact jY _ q)) (by omega) (by simp only[jC];omega) (by omega) (fE 0)]
  simp only[j0,w2,c3,jB,jF,jL,if_neg f,pR,E,fI,dC]
 .obtain⟨t,rfl⟩:=qAf a
  have c:h.1≠1:=by omega
  have g:h.1≠2:=by omega
  have f:h.1≠4:=by omega
  have p:h.1≠5:=by omega
  have y:h.1≠3:=by omega
  simp only[aY,gP] at H V o
  obtain⟨B,-⟩:=A.head
  have E:∀j,eU h j=0:=fun j=>by unfold eU;rw[if_neg f]
  have eb:eL ps h (eG ps h 0 [t])=(((⟨#[114,101,97,100,40,34]⟩:BA)++h.2.2.2)++(⟨#[34,44,32]⟩:BA)).data.toList++(t.wr ps 0++[41]):=by
   unfold eL;rw[if_neg c,if_neg g,if_neg f,if_neg p,if_neg y,if_pos k]
   simp only[eG,E];rfl
  rw[eb] at n ⊢
  rw[if_neg (by simpa using c),if_neg (by simpa using g),if_neg (by simpa using f),if_neg (by simpa using p),if_neg (by simpa using y),if_pos (by simpa using k)]
  have U:=t.pos
  have G:idx (bY b [t]) 0=some ((b+t.size-1:Nat):Int):=rfl
  have R:(⟨#[114,101,97,100,40,34]⟩:BA).size=6:=rfl
  have S:(⟨#[34,44,32]⟩:BA).size=3:=rfl
  simp only[jC,eD,ByteArray.size_append,jD,jE] at n
  rw[cR (by omega)]
  simp only[j0]
  rw[cR (by rw[ByteArray.size_append];omega)]
  simp only[j0]
  rw[mG (by simp only[eD,ByteArray.size_append];omega)]
  simp only[j0,G,ed,sQ]
  rw[r t (by simp) D b _ true (max m d) (d+1) 0 B (fun x q=>o x (by unfold dY;exact jY _ q)) (by omega) (by simp only[jC,eD,ByteArray.size_append];omega) (by omega) (fE 0)]
  simp only[j0]
  rw[mG (by simp only[jC,eD,ByteArray.size_append,jD,jE];omega)]
  simp only[j0,jL,if_neg f,pR,E,fI,dC]
 all_goals obtain rfl:=LL a
 .have c:h.1≠1:=by omega
  have g:h.1≠2:=by omega
  have f:h.1≠4:=by omega
  have p:h.1≠5:=by omega
  have y:h.1≠3:=by omega
  have E:h.1≠6:=by omega
  have B:h.1≠10:=by omega
  have eb:eL ps h (eG ps h 0 [])=(((zG h.1++(⟨#[40,34]⟩:BA))++h.2.2.2)++(⟨#[34,41]⟩:BA)).data.toList:=by
   unfold eL;rw[if_neg c,if_neg g,if_neg f,if_neg p,if_neg y,if_neg E,if_neg B]
  rw[eb] at n ⊢
  rw[if_neg (by simpa using c),if_neg (by simpa using g),if_neg (by simpa using f),if_neg (by simpa using p),if_neg (by simpa using y),if_neg (by simpa using E),if_neg (by simpa using B)]
  simp only[eD,ByteArray.size_append] at n
  have R:(⟨#[40,34]⟩:BA).size=2:=rfl
  have S:(⟨#[34,41]⟩:BA).size=2:=rfl
  simp only[wm1,wm2,wm3,j0]
  rw[show(cX (some LH) h.1).getD (⟨#[]⟩:BA)=zG h.1 from rfl,cR (by omega)]
  simp only[j0]
  rw[cR (by rw[ByteArray.size_append];omega)]
  simp only[j0]
  rw[cR (by rw[ByteArray.size_append,ByteArray.size_append];omega)]
  simp only[j0]
  rw[mG (by simp only[eD,ByteArray.size_append];omega)]
  simp only[j0,sQ,pR,fI]
 .have c:h.1≠1:=by omega
  have g:h.1≠2:=by omega
  have f:h.1≠4:=by omega
  have p:h.1≠5:=by omega
  have y:h.1≠3:=by omega
  have E:h.1≠6:=by omega
  have B:h.1≠10:=by omega
  have eb:eL ps h (eG ps h 0 [])=(((zG h.1++(⟨#[40,34]⟩:BA))++h.2.2.2)++(⟨#[34,41]⟩:BA)).data.toList:=by
   unfold eL;rw[if_neg c,if_neg g,if_neg f,if_neg p,if_neg y,if_neg E,if_neg B]
  rw[eb] at n ⊢
  rw[if_neg (by simpa using c),if_neg (by simpa using g),if_neg (by simpa using f),if_neg (by simpa using p),if_neg (by simpa using y),if_neg (by simpa using E),if_neg (by simpa using B)]
  simp only[eD,ByteArray.size_append] at n
  have R:(⟨#[40,34]⟩:BA).size=2:=rfl
  have S:(⟨#[34,41]⟩:BA).size=2:=rfl
  simp only[wm1,wm2,wm3,j0]
  rw[show(cX (some LH) h.1).getD (⟨#[]⟩:BA)=zG h.1 from rfl,cR (by omega)]
  simp only[j0]
  rw[cR (by rw[ByteArray.size_append];omega)]
  simp only[j0]
  rw[cR (by rw[ByteArray.size_append,ByteArray.size_append];omega)]
  simp only[j0]
  rw[mG (by simp only[eD,ByteArray.size_append];omega)]
  simp only[j0,sQ,pR,fI]
 have c:h.1≠1:=by omega
 have g:h.1≠2:=by omega
 have f:h.1≠4:=by omega
 have p:h.1≠5:=by omega
 have y:h.1≠3:=by omega
 have E:h.1≠6:=by omega
 dsimp only at z F
 have eb:eL ps h (eG ps h 0 [])=(((⟨#[102,108,105,112,40]⟩:BA)++nK h.2.1)++(⟨#[41]⟩:BA)).data.toList:=by
  unfold eL;rw[if_neg c,if_neg g,if_neg f,if_neg p,if_neg y,if_neg E,if_pos k]
 rw[eb] at n ⊢
 rw[if_neg (by simpa using c),if_neg (by simpa using g),if_neg (by simpa using f),if_neg (by simpa using p),if_neg (by simpa using y),if_neg (by simpa using E),if_pos (by simpa using k),XT (by omega) (by omega)]
 simp only[eD,ByteArray.size_append] at n
 simp only[j0]
 rw[cR (by omega)]
 simp only[j0]
 rw[cR (by rw[ByteArray.size_append];omega)]
 simp only[j0]
 rw[mG (by simp only[eD,ByteArray.size_append];omega)]
 simp only[j0,sQ,pR,fI]
theorem qLv{h:Hd}{ks:List Rose}(k:3000000<N)(e:∀t∈ks,CZ N l ps t)(f:ks.length<2000000):CZ N l ps (.mk h ks):=by
 intro D b buf s m d need a o q c r p
 simp only[Rose.size] at q r ⊢
 rw[show b+(aY ks+1)-1=b+aY ks by omega]
 simp only[Rose.wr,Rose.dep] at c ⊢
 by_cases hl:eO h<need
 .rw[if_pos hl] at c ⊢
  simp only[if_pos hl]
  simp only[jD,jC,jE] at c
  obtain⟨D,rfl⟩:∃D',D=D'+2:=⟨D-2,by omega⟩
  have n:¬eO h<0:=by
   unfold eO
   split
   .omega
   split
   .split
    .omega
    split<;>omega
   omega
  obtain⟨g,-⟩:=a.args
  have g:l[b+aY ks]? =some (h.1,h.2.1,h.2.2.1,h.2.2.2,bY b ks):=g
  have ed:IntKind.wrap .i64 ((d:Int)+1)=((d+1:Nat):Int):=by rw[bQ (by omega) (by omega)];omega
  show xP N (vE N (D+1)) _ _ _ _=_
  unfold xP
  dsimp only
  rw[mD g]
  simp only[j0]
  rw[show vL N (h.1,h.2.1,h.2.2.1,h.2.2.2,bY b ks)=some (eO h) from WP _]
  simp only[j0]
  rw[if_pos (by simpa using hl),mG (by simp only[jD,jE];omega)]
  simp only[j0,ed]
  rw[XP k e a o (by omega) (by simp only[jC,jD,jE];omega) (by omega) n f]
  simp only[j0]
  rw[mG (by simp only[jC,jD,jE];omega)]
  simp only[j0,jL,gF,kT]
 rw[if_neg hl] at c ⊢
 simp only[if_neg hl]
 obtain⟨D,rfl⟩:∃D',D=D'+1:=⟨D-1,by omega⟩
 exact XP k e a o (by omega) c (by omega) hl f
end
mutual
theorem ZO{N:Nat}{l:List Ex}{ps:List BA}(a:3000000<N)(t:Rose)(b:t.size<2000000):CZ N l ps t:=by
 match t with
 | .mk h ks=>
  have c:aY ks<2000000:=by simp only[Rose.size] at b;omega
  exact qLv a (YX a ks c) (by have:=JR ks;omega)
theorem YX{N:Nat}{l:List Ex}{ps:List BA}(c:3000000<N)(ks:List Rose)(a:aY ks<2000000):∀t∈ks,CZ N l ps t:=by
 match ks with
 |[]=>intro t h;cases h
 |t::ks=>
  have d:t.size<2000000:=by simp only[aY] at a;omega
  have e:aY ks<2000000:=by simp only[aY] at a;omega
  have f:=ZO (l:=l) (ps:=ps) c t d
  have g:=YX (l:=l) (ps:=ps) c ks e
  intro u b
  rcases jV.1 b with rfl|b
  .exact f
  exact g u b
end
end
section
open Go Go.Dc
abbrev Ct:=Int×List UInt8
abbrev LN:=Int×BA×Int
def qNq(c:Ct):LN:=(c.1,if c.1=2 then⟨#[]⟩ else⟨⟨c.2⟩⟩,if c.1=2 then pB c.2 else 0)
def qOc(t:bP):LN:=(t.1,t.2.1,t.2.2.1)
abbrev Pc:=Ct×List UInt8
end
section
open Go Go.Dc Go.Proofs
theorem XD{n:Nat}(h:¬n<10):Lib.decDigits n=Lib.decDigits (n/10)++[UInt8.ofNat (48+n%10)]:=by rw[Lib.decDigits,dif_neg h]
theorem qNf(n:Nat):Lib.decDigits n≠[]:=by
 intro h
 have:=Lib.decDigits_length n
 rw[h] at this
 have:=Lib.nDigits_pos n
 simp only[jE] at*;omega
theorem CM:∀(k n:Nat),n<10^(k+1)->(Lib.decDigits n).length<=k+1
 |0,n,h=>by rw[Lib.decDigits_one (by simpa using h)];exact jP _
 |k+1,n,h=>by
  by_cases h10:n<10
  .rw[Lib.decDigits_one h10];simp
  rw[Nat.pow_succ] at h
  have:=CM k (n/10) (by omega)
  rw[XD h10,jC,gY];omega
theorem tZ(n:Nat):(nK (n:Int)).data.toList=Lib.decDigits n:=by
 unfold nK Lib.itoa
 rw[if_neg (by omega),jO]
theorem oX{x y:BA}(h:x.data.toList=y.data.toList):x=y:=ByteArray.ext (Array.ext' h)
theorem nP(x y:BA):(x++y).data.toList=x.data.toList++y.data.toList:=by
 rw[ByteArray.data_append,Array.toList_append]
theorem qKl:∀i:Fin 10,((⟨#[48,49,50,51,52,53,54,55,56,57]⟩:BA).extract i.val (i.val+1)).data.toList=[UInt8.ofNat (48+i.val)]:=by decide+kernel
theorem KA{s:BA}(h:oA s=true):s.size<=24:=by
 have:=(fB h).2.1
 rw[eD] at this;exact this
theorem yO{s:BA}(h:lM s.data.toList=true):s.size<=80:=by
 have:s.data.toList.length<=80:=(fB h).1
 rw[eD] at this;exact this
theorem nA{s:BA}(h:dZ s=true):s.size<=24:=by
 unfold dZ at h
 rw[jK] at h
 exact KA h.1
theorem VP{op:Int}(a:1<=op)(b:op<=7):(zD op).size<=2:=by
 rcases(by omega:op=1\/op=2\/op=3\/op=4\/op=5\/op=6\/op=7) with rfl|rfl|rfl|rfl|rfl|rfl|rfl<;>decide+kernel
theorem VI{k:Int}(h:k=7\/k=8\/k=9):(zG k).size<=4:=by
 rcases h with rfl|rfl|rfl<;>decide+kernel
theorem PP{n:Int}(a: -9007199254740992<=n)(b:n<=9007199254740992):(nK n).size<=17:=by
 rw[<-eD]
 show(Lib.itoa n).length<=17
 unfold Lib.itoa
 split
 .have:=CM 15 n.natAbs (by omega)
  simp only[jD];omega
 have:=CM 15 n.toNat (by omega)
 omega
def sU(ws:List (List UInt8)):Nat:=(ws.map fun w=>w.length+2).sum
theorem NW:∀(ws:List (List UInt8)) (k:Nat),(lH k ws).length<=sU ws
 |[],_=>kK _
 |w::ws,k=>by
  have b:=NW ws (k+1)
  have a:(lJ k).length<=2:=by unfold lJ;split<;>simp
  unfold sU at*
  simp only[lH,jC,jZ,dE];omega
theorem qKb{ps:List BA}{h:Hd}{ks:List Rose}{b:Nat}(B:∀s∈ps,s.size<=24)(D:iJ (ps.length:Int) (eM h (bY b ks))=true):(eL ps h (eG ps h 0 ks)).length<=100+sU (eG ps h 0 ks):=by
 rcases GC D with ⟨k,a,d,p,-,-⟩|⟨k,a,d,p,-,-⟩|⟨k,a,-,-⟩|⟨k,a,d,p,-,-⟩|⟨k,a,-,-,-⟩|⟨k,a,d,-,-⟩|⟨k,a,d,-,-⟩|⟨k,a,d,-,-⟩|⟨k,a,d,p,-,-⟩
 all_goals (try simp only[eM] at k)<;>(try simp only[eM] at a)
 .have:(nK h.2.1).size<=17:=PP d p
  unfold eL
  rw[if_pos k,eD];omega
 .have c:h.1≠1:=by omega
  try simp only[eM] at d p
  have f:h.2.1.toNat<ps.length:=by omega
  have e:ps.getD h.2.1.toNat ⟨#[]⟩=ps[h.2.1.toNat]:=by rw[kO,List.getElem?_eq_getElem f];rfl
  have:=B _ (jR f)
  unfold eL
  rw[if_neg c,if_pos k,e,eD];omega
 .have c:h.1≠1:=by omega
  have f:h.1≠2:=by omega
  have l:h.1≠4:=by omega
  have o:h.1≠5:=by omega
  have g:=nA a
  have A:=NW (eG ps h 0 ks) 0
  have x:(⟨#[40]⟩:BA).size=1:=rfl
  unfold eL
  rw[if_neg c,if_neg f,if_neg l,if_neg o,if_pos k]
  try simp only[eM] at g
  simp only[jC,eD,ByteArray.size_append,jD,jE];omega
 .obtain⟨t,u,rfl⟩:=ZX a
  have c:h.1≠1:=by omega
  have f:h.1≠2:=by omega
  have g:=VP d p
  have x:(⟨#[32]⟩:BA).size=1:=rfl
  try simp only[eM] at g
  unfold eL
  rw[if_neg c,if_neg f,if_pos k]
  simp only[eG,sU,jZ,List.map_nil,dE,List.sum_nil,List.getD_cons_zero,List.getD_cons_succ,jC,eD,ByteArray.size_append];omega
 .obtain⟨t,u,v,rfl⟩:=ZS a
  have c:h.1≠1:=by omega
  have f:h.1≠2:=by omega
  have l:h.1≠4:=by omega
  have q:tI.length=3:=rfl
  have r:tThen.length=6:=rfl
  have y:tElse.length=6:=rfl
  unfold eL
  rw[if_neg c,if_neg f,if_neg l,if_pos k]
  simp only[eG,sU,jZ,List.map_nil,dE,List.sum_nil,List.getD_cons_zero,List.getD_cons_succ,jC];omega
 .obtain⟨t,rfl⟩:=qAf a
  have c:h.1≠1:=by omega
  have f:h.1≠2:=by omega
  have l:h.1≠4:=by omega
  have o:h.1≠5:=by omega
  have r:h.1≠3:=by omega
  have g:=yO d
  have x:(⟨#[114,101,97,100,40,34]⟩:BA).size=6:=rfl
  have z:(⟨#[34,44,32]⟩:BA).size=3:=rfl
  try simp only[eM] at g
  unfold eL
  rw[if_neg c,if_neg f,if_neg l,if_neg o,if_neg r,if_pos k]
  simp only[eG,sU,jZ,List.map_nil,dE,List.sum_nil,List.getD_cons_zero,jC,eD,ByteArray.size_append,jD,jE];omega
 all_goals obtain rfl:=LL a
 all_goals have c:h.1≠1:=by omega
 all_goals have f:h.1≠2:=by omega
 all_goals have l:h.1≠4:=by omega
 all_goals have o:h.1≠5:=by omega
 all_goals have r:h.1≠3:=by omega
 all_goals have y:h.1≠6:=by omega
 .have q:h.1≠10:=by omega
  have g:=yO d
  have A:=VI (k:=h.1) (by omega)
  have x:(⟨#[40,34]⟩:BA).size=2:=rfl
  have z:(⟨#[34,41]⟩:BA).size=2:=rfl
  try simp only[eM] at g
  unfold eL
  rw[if_neg c,if_neg f,if_neg l,if_neg o,if_neg r,if_neg y,if_neg q]
  simp only[eD,ByteArray.size_append];omega
 .have q:h.1≠10:=by omega
  have g:=KA d
  have A:=VI (k:=h.1) (by omega)
  have x:(⟨#[40,34]⟩:BA).size=2:=rfl
  have z:(⟨#[34,41]⟩:BA).size=2:=rfl
  try simp only[eM] at g
  unfold eL
  rw[if_neg c,if_neg f,if_neg l,if_neg o,if_neg r,if_neg y,if_neg q]
  simp only[eD,ByteArray.size_append];omega
 try simp only[eM] at d p
 have g:=PP (n:=h.2.1) (by omega) (by omega)
 have x:(⟨#[102,108,105,112,40]⟩:BA).size=5:=rfl
 have z:(⟨#[41]⟩:BA).size=1:=rfl
 unfold eL
 rw[if_neg c,if_neg f,if_neg l,if_neg o,if_neg r,if_neg y,if_pos k]
 simp only[eD,ByteArray.size_append];omega
mutual
theorem KW{ps:List BA}(a:∀s∈ps,s.size<=24)(t:Rose)(b:Nat)(need:Int)(c:∀x∈t.flat b,iJ (ps.length:Int) x=true):(t.wr ps need).length+2<=110*t.size:=by
 match t with
 | .mk h ks=>
  have e:=YO a ks h 0 b (fun x d=>c x (by unfold Rose.flat;exact jY _ d))
  have f:=qKb (b:=b) a (c (eM h (bY b ks)) (by unfold Rose.flat;exact kM _ (jS ..)))
  simp only[Rose.wr,Rose.size]
  split
  .simp only[jD,jC,jE];omega
  omega
theorem YO{ps:List BA}(a:∀s∈ps,s.size<=24)(l:List Rose)(h:Hd)(k b:Nat)(d:∀x∈dY b l,iJ (ps.length:Int) x=true):sU (eG ps h k l)<=110*aY l:=by
 match l with
 |[]=>exact kK _
 |t::l=>
  have e:=KW a t b (eU h k) (fun x c=>d x (by unfold dY;exact jY _ c))
  have f:=YO a l h (k+1) (b+t.size) (fun x c=>d x (by unfold dY;exact kM _ c))
  simp only[eG,sU,jZ,dE,aY] at*
  omega
end
def nV(d:Dl):List UInt8:=match CU d.2.2.2 with
 |some t=>t.wr d.2.2.1 0
 |none=>[]
def HI(d:Dl):Nat:=match CU d.2.2.2 with
 |some t=>t.dep 0 1
 |none=>0
structure GoodD(d:Dl):Prop where
 head:uK d=true
 pars:∀s∈d.2.2.1,d.1=1/\dZ s=true
 nodes:∀x∈d.2.2.2,iJ (d.2.2.1.length:Int) x=true
 tree:oneP (nI d.2.2.2 0 [])=true
theorem XB{d:Dl}(h:mN d=true):GoodD d:=by
 unfold mN wH wI at h
 simp only[jK,jW,kD] at h
 exact⟨h.1,h.2.1,h.2.2.1,h.2.2.2⟩
theorem qJp{ps:List BA}{h:Hd}{ks:List Rose}{b:Nat}(r:∀s∈ps,s.data.toList≠[])(t:iJ (ps.length:Int) (eM h (bY b ks))=true):eL ps h (eG ps h 0 ks)≠[]:=by
 have ne:∀{x y:List UInt8},y≠[]->x++y≠[]:=fun h e=>h (dH.1 e).2
 have nel:∀{x y:List UInt8},x≠[]->x++y≠[]:=fun h e=>h (dH.1 e).1
 rcases GC t with ⟨k,a,g,p,-,-⟩|⟨k,a,g,p,-,-⟩|⟨k,a,-,-⟩|⟨k,a,g,p,-,-⟩|⟨k,a,-,-,-⟩|⟨k,a,g,-,-⟩|⟨k,a,g,-,-⟩|⟨k,a,g,-,-⟩|⟨k,a,g,p,-,-⟩
 all_goals try simp only[eM] at k
 .unfold eL
  rw[if_pos k]
  show Lib.itoa h.2.1≠[]
  unfold Lib.itoa
  split
  .simp
  exact qNf _
 .have c:h.1≠1:=by omega
  try simp only[eM] at g p
  have d:h.2.1.toNat<ps.length:=by omega
  have e:ps.getD h.2.1.toNat ⟨#[]⟩=ps[h.2.1.toNat]:=by rw[kO,List.getElem?_eq_getElem d];rfl
  unfold eL
  rw[if_neg c,if_pos k,e]
  exact r _ (jR d)
 all_goals have c:h.1≠1:=by omega
 all_goals have d:h.1≠2:=by omega
 .have f:h.1≠4:=by omega
  have l:h.1≠5:=by omega
  unfold eL
  rw[if_neg c,if_neg d,if_neg f,if_neg l,if_pos k]
  exact ne (ne (by simp))
 .unfold eL
  rw[if_neg c,if_neg d,if_pos k]
  refine ne (nel ?_)
  rw[nP,nP]
  exact ne (by simp)
 all_goals have f:h.1≠4:=by omega
 .unfold eL
  rw[if_neg c,if_neg d,if_neg f,if_pos k]
  exact nel (by simp[tI])
 all_goals have l:h.1≠5:=by omega
 all_goals have o:h.1≠3:=by omega
 .unfold eL
  rw[if_neg c,if_neg d,if_neg f,if_neg l,if_neg o,if_pos k]
  exact ne (ne (by simp))
 all_goals have q:h.1≠6:=by omega
 .have n:h.1≠10:=by omega
  unfold eL
  rw[if_neg c,if_neg d,if_neg f,if_neg l,if_neg o,if_neg q,if_neg n,nP]
  exact ne (by simp)
 .have n:h.1≠10:=by omega
  unfold eL
  rw[if_neg c,if_neg d,if_neg f,if_neg l,if_neg o,if_neg q,if_neg n,nP]
  exact ne (by simp)
 unfold eL
 rw[if_neg c,if_neg d,if_neg f,if_neg l,if_neg o,if_neg q,if_pos k,nP]
 exact ne (by simp)
theorem qNm{ps:List BA}(a:∀s∈ps,s.data.toList≠[])(t:Rose)(b:Nat)(need:Int)(c:∀x∈t.flat b,iJ (ps.length:Int) x=true):t.wr ps need≠[]:=by
 cases t with
 |mk h ks=>
  simp only[Rose.wr]
  split
  .simp
  exact qJp (b:=b) a (c (eM h (bY b ks)) (by unfold Rose.flat;exact kM _ (jS ..)))
theorem qJw{s:BA}(h:dZ s=true):s.data.toList≠[]:=by
 unfold dZ at h
 rw[jK] at h
 have:=(fB h.1).1
 intro e
 rw[e] at this
 simp at this
theorem OM{N:Nat}{d:Dl}(b:GoodD d)(A:d.2.2.2.length<=256)(r:3000000<N):yG N d.2.2.2 d.2.2.1=some (cN (nV d),(HI d:Int))/\(nV d).length<=30000:=by
 obtain⟨t,g,c⟩:=GL b.tree
 have y:t.size=d.2.2.2.length:=by
  have:=lS t 0
  rw[<-c] at this;exact this.symm
 have B:=t.pos
 have f:∀x∈t.flat 0,iJ (d.2.2.1.length:Int) x=true:=fun x v=>b.nodes x (by rw[c];exact v)
 have z:=KW (ps:=d.2.2.1) (fun s e=>nA (b.pars s e).2) t 0 0 f
 have h:AtT d.2.2.2 0 t:=by
  have:=AtT.whole t
  rw[<-c] at this;exact this
 have q:nV d=t.wr d.2.2.1 0:=by unfold nV;rw[g]
 have k:HI d=t.dep 0 1:=by unfold HI;rw[g]
 refine⟨?_,by rw[q];omega⟩
 unfold yG
 rw[bQ (by omega) (by omega)]
 have p:=ZO (l:=d.2.2.2) (ps:=d.2.2.1) r t (by omega) N 0 [] false 0 1 0 h f (by omega) (by simp only[jE];omega) (by omega) (fE 0)
 rw[show(((0+t.size-1:Nat)):Int)=(d.2.2.2.length:Int)-1 by omega,show((0:Nat):Int)=0 from rfl,show((1:Nat):Int)=1 from rfl] at p
 rw[show MA N ((false,([]:List (UInt8))),d.2.2.2,d.2.2.1,0) ((d.2.2.2.length:Int)-1) 0 1=_ from p]
 simp only[j0,kT]
 have n:=qNm (ps:=d.2.2.1) (fun s e=>qJw (b.pars s e).2) t 0 0 f
 have o:HO (t.wr d.2.2.1 0)=some ():=by
  cases u:t.wr d.2.2.1 0 with
  |nil=>exact absurd u n
  |cons a l=>rfl
 rw[o,q,k]
 simp only[j0,Nat.zero_max]
def uL(l:List BA):BA:=⟨⟨lH 0 (l.map fun s=>s.data.toList)⟩⟩
def uM(d:Dl):BA:=
 if d.1=1 then((((⟨#[102,117,110,99,32]⟩:BA)++d.2.1)++(⟨#[40]⟩:BA))++uL d.2.2.1)++(⟨#[41]⟩:BA)
 else if d.1=2 then(⟨#[116,101,115,116,32]⟩:BA)++d.2.1
 else((⟨#[103,101,110,32,34]⟩:BA)++d.2.1)++(⟨#[34]⟩:BA)
def sS(d:Dl):List UInt8:=(uM d).data.toList++(((⟨#[32,61,32]⟩:BA)++cN (nV d))++(⟨#[59,10]⟩:BA)).data.toList
def rW(s:BA):List UInt8:=(((⟨#[112,97,99,107,97,103,101,32]⟩:BA)++s)++(⟨#[59,10]⟩:BA)).data.toList
def mS(s:BA):List UInt8:=(((⟨#[105,109,112,111,114,116,32]⟩:BA)++s)++(⟨#[59,10]⟩:BA)).data.toList
theorem NG{α:Type}(g:α->List UInt8):∀(l:List α) (t:List UInt8),l.foldl (fun t x=>t++g x) t=t++l.flatMap g
 |[],t=>by simp
 |x::l,t=>by rw[List.foldl_cons,NG g l,kZ,jL]
structure GoodS(f:Sr):Prop where
 pkg:dZ f.1=true
 imps:∀s∈f.2.1,dZ s=true
 impn:f.2.1.length<=8
 decn:f.2.2.length<=64
 decs:∀d∈f.2.2,GoodD d/\d.2.2.1.length<=8/\d.2.2.2.length<=256/\rV d.2.2.2=false
 once:uH f=false
theorem yT{f:Sr}(h:oL f=0):GoodS f:=by
 unfold oL at h
 split at h
 .rename_i hs
  split at h
  .cases h
  rename_i ht
  split at h
  .cases h
  rename_i a
  have a:uN f=false:=by simpa using a
  unfold sT at hs
  unfold uN at a
  simp only[jK,jW] at hs
  simp only[fN,decide_eq_false_iff_not,List.any_eq_false] at a
  refine⟨hs.1,hs.2.1,by omega,by omega,fun d c=> ?_,by simpa using ht⟩
  have b:=a.2.2 d c
  unfold rD at b
  simp only[Bool.not_eq_true,fN,decide_eq_false_iff_not] at b
  exact⟨XB (hs.2.2 d c),by omega,by omega,b.2.2⟩
 cases h
theorem OL{l:List BA}(h:∀s∈l,s.size<=24):(uL l).size<=26*l.length:=by
 have a:=NW (l.map fun s=>s.data.toList) 0
 have d:sU (l.map fun s=>s.data.toList)<=26*l.length:=by
  clear a
  induction l with
  |nil=>exact kK _
  |cons s l c=>
   have e:=h s (jS ..)
   have f:=c fun x b=>h x (jX _ b)
   unfold sU at*
   simp only[jZ,dE,jD,eD] at*
   omega
 have b:(uL l).size=(lH 0 (l.map fun s=>s.data.toList)).length:=by rw[<-eD];rfl
 omega
theorem KI{d:Dl}(h:GoodD d):d.2.1.size<=80:=by
 have:=h.head
 unfold uK at this
 split at this
 .have:=nA this;omega
 split at this
 .exact yO this
 cases this
theorem OE{d:Dl}(h:GoodD d)(e:d.2.2.1.length<=8):(uM d).size<=400:=by
 have b:=KI h
 have c:=OL (l:=d.2.2.1) fun s a=>nA (h.pars s a).2
 have f:(⟨#[102,117,110,99,32]⟩:BA).size=5:=rfl
 have g:(⟨#[40]⟩:BA).size=1:=rfl
 have k:(⟨#[41]⟩:BA).size=1:=rfl
 have n:(⟨#[116,101,115,116,32]⟩:BA).size=5:=rfl
 have o:(⟨#[103,101,110,32,34]⟩:BA).size=5:=rfl
 have p:(⟨#[34]⟩:BA).size=1:=rfl
 unfold uM
 split
 .simp only[ByteArray.size_append];omega
 split
 .simp only[ByteArray.size_append];omega
 simp only[ByteArray.size_append];omega
theorem oR(l:List UInt8):(cN l).data.toList=l:=rfl
theorem iW(l:List UInt8):(cN l).size=l.length:=by rw[<-eD,oR]
theorem qJz{N:Nat}{l:List BA}(h:l.length<=1):tR N l (⟨#[44,32]⟩:BA)=some (uL l):=by
 unfold tR
 rw[if_neg (by omega)]
 unfold JN
 match l,h with
 |[],_=>rfl
 |[x],_=>
  simp only[jD,jE]
  rw[if_neg (by decide),if_pos (by decide),show idx [x] 0=some x from rfl]
  simp only[j0]
  congr 1
  refine oX ?_
  show x.data.toList=lH 0 [x.data.toList]
  simp[lH,lJ]
section
variable {ts:List bP} {params:List BA} {E S:Ps->PM Nat} {B:Nat}
def BE(B:Nat)(l:List Ex):Prop:=∀x∈l,x.2.2.2.2.length<=B
def uP(B:Nat)(E:Ps->PM Nat):Prop:=∀(p q:Ps) (x:Nat),BE B p.2->E p= .inr (q,x)->BE B q.2
theorem zB{t:bP}{x:Ex}{p q:Ps}{i:Nat}(b:BE B p.2)(c:x.2.2.2.2.length<=B)(h:iI t x p= .inr (q,i)):BE B q.2:=by
 obtain⟨rfl,-,-⟩:=WX h
 intro y a
 rcases gJ.1 a with a|a
 .exact b y a
 rw[kL.1 a];exact c
theorem YQ(e:uP B E):∀(n:Nat) (l:List Int) (p q:Ps) (x:List Int),BE B p.2->rU ts E n l p= .inr (q,x)->BE B q.2/\x.length<=l.length+n
 |0,_,_,_,_,_,c=>by cases c
 |n+1,l,p,q,x,h,c=>by
  obtain⟨a,g,d⟩:=cQ (show bG (E p) _=_ from c)
  have b:=e p a.1 a.2 h g
  split at d
  .obtain⟨k,o⟩:=YQ e n _ (a.1.1+1,a.1.2) q x b d
   exact⟨k,by simp only[jC,jD,jE] at o;omega⟩
  obtain⟨j,r,f⟩:=cQ d
  obtain⟨rfl,rfl⟩:=Prod.mk.inj (Sum.inr.inj f)
  exact⟨b,by simp only[jC,jD,jE];omega⟩
theorem qFp(d:uP B E){p q:Ps}{x:List Int}(b:BE B p.2)(c:sK ts E p= .inr (q,x)):BE B q.2/\x.length<=ts.length+1:=by
 obtain⟨i,hi,a⟩:=cQ c
 split at a
 .obtain⟨rfl,rfl⟩:=Prod.mk.inj (Sum.inr.inj a)
  exact⟨b,kK _⟩
 obtain⟨e,f⟩:=YQ d _ _ (i,p.2) q x b a
 exact⟨e,by simpa using f⟩
theorem qHs(z:3<=B)(v:uP B E){t:bP}{p q:Ps}{x:Nat}(h:BE B p.2)(o:pI ts E t p= .inr (q,x)):BE B q.2:=by
 obtain⟨i,hi,r⟩:=cQ o
 obtain⟨a,f,s⟩:=cQ r
 obtain⟨j,A,u⟩:=cQ s
 have key:BE B a.1.2/\a.2.2.2.2.2.length<=B:=by
  split at f
  .obtain⟨b,g,e⟩:=cQ f
   obtain⟨c,y,k⟩:=cQ e
   obtain⟨d,l,n⟩:=cQ k
   have:=v (c,p.2) d.1 d.2 h l
   obtain rfl:=Sum.inr.inj n
   exact⟨this,by show 1<=B;omega⟩
  split at f
  .obtain⟨b,g,e⟩:=cQ f
   obtain rfl:=Sum.inr.inj e
   exact⟨h,kK _⟩
  split at f
  .obtain⟨b,g,e⟩:=cQ f
   obtain rfl:=Sum.inr.inj e
   exact⟨h,kK _⟩
  split at f
  .obtain⟨b,g,e⟩:=cQ f
   obtain rfl:=Sum.inr.inj e
   exact⟨h,kK _⟩
  obtain⟨b,g,e⟩:=cQ f
  split at e
  .cases e
  obtain rfl:=Sum.inr.inj e
  exact⟨h,kK _⟩
 exact zB (p:=(j,a.1.2)) key.1 key.2 u
theorem qJj(h:ts.length+3<=B)(f:uP B E):uP B (oV ts params E):=by
 intro p q x c b
 unfold oV at b
 dsimp only at b
 split at b
 .exact zB (p:=(p.1+1,p.2)) c (kK _) b
 split at b
 .obtain⟨a,e,d⟩:=cQ b
  exact zB (p:=(a.1,p.2)) c (kK _) d
 split at b
 .obtain⟨a,e,d⟩:=cQ b
  have:=f (p.1+1,p.2) a.1 a.2 c e
  obtain⟨j,k,g⟩:=cQ d
  obtain⟨rfl,rfl⟩:=Prod.mk.inj (Sum.inr.inj g)
  exact this
 split at b
 .cases b
 split at b
 .exact qHs (by omega) f (p:=(p.1+1,p.2)) c b
 split at b
 .cases b
 split at b
 .obtain⟨a,e,d⟩:=cQ b
  obtain⟨g,k⟩:=qFp f (p:=(p.1+1,p.2)) c e
  exact zB (p:=a.1) g (by show a.2.length<=B;omega) d
 split at b
 .exact zB (p:=(p.1+1,p.2)) c (kK _) b
 cases b
theorem ZD(h:3<=B){level:Nat}(d:uP B S):∀(n x:Nat) (p q:Ps) (y:Nat),BE B p.2->mQ ts level S n x p= .inr (q,y)->BE B q.2
 |0,_,_,_,_,_,b=>by cases b
 |n+1,x,p,q,y,e,b=>by
  unfold mQ at b
  split at b
  .obtain⟨rfl,rfl⟩:=Prod.mk.inj (Sum.inr.inj b)
   exact e
  obtain⟨a,l,g⟩:=cQ b
  have f:=d (p.1+1,p.2) a.1 a.2 e l
  obtain⟨r,o,c⟩:=cQ g
  have k:BE B r.1.2:=by
   refine zB (p:=a.1) f ?_ o
   show 2<=B
   omega
  split at c
  .obtain⟨rfl,rfl⟩:=Prod.mk.inj (Sum.inr.inj c)
   exact k
  exact ZD h d n _ _ q y k c
theorem PF(e:3<=B){level:Nat}(b:uP B S):uP B (oW ts level S):=by
 intro p q x g c
 obtain⟨a,f,d⟩:=cQ c
 exact ZD e b _ _ _ q x (b p a.1 a.2 g f) d
theorem GV(e:ts.length+3<=B):∀k,uP B (dL ts params k)
 |0=>fun _ _ _ _ d=>by cases d
 |k+1=>by
  intro p q x f d
  unfold dL at d
  split at d
  .obtain⟨a,y,r⟩:=cQ d
   have l:=GV e k (p.1+1,p.2) a.1 a.2 f y
   obtain⟨i,hi,s⟩:=cQ r
   obtain⟨b,g,t⟩:=cQ s
   have n:=GV e k (i,a.1.2) b.1 b.2 l g
   obtain⟨j,z,u⟩:=cQ t
   obtain⟨c,h,v⟩:=cQ u
   have o:=GV e k (j,b.1.2) c.1 c.2 n h
   refine zB (p:=c.1) o ?_ v
   show 3<=B
   omega
  exact PF (by omega) (PF (by omega) (PF (by omega) (qJj e (GV e k)))) p q x f d
def HK(d:Dl):Prop:=d.2.2.1.length<=8/\d.2.2.2.length<=256/\BE 20000 d.2.2.2
theorem qMg(b:OkT ts)(A:ts.length<=16385){before:List Dl}{i:Nat}{a:Nat×Dl}(hi:i<ts.length)(d:mE ts before i= .inr a):HK a.2:=by
 unfold mE at d
 dsimp only at d
 split at d
 .cases d
 rename_i k1
 split at d
 .cases d
 have g:=b.next hi (show(aN ts i).1≠5 by intro e;apply k1;left;rw[e];decide)
 obtain⟨x,k,h⟩:=cQ d
 have gx:x.1<ts.length:=by
  split at k
  .obtain⟨rfl,f,-⟩:=qW b g k;exact f
  obtain⟨rfl,f,-⟩:=qE b g k;exact f
 split at h
 .cases h
 obtain⟨y,l,q⟩:=cQ h
 have gy:y.1<ts.length/\y.2.length<=8:=by
  split at l
  .obtain⟨-,n,f⟩:=MI b gx l;exact⟨n,f⟩
  obtain rfl:=Sum.inr.inj l;exact⟨gx,kK _⟩
 obtain⟨j,u,r⟩:=cQ q
 obtain⟨rfl,f,-⟩:=iR b gy.1 u
 obtain⟨c,n,s⟩:=cQ r
 obtain⟨⟨-,-,-,o⟩,-⟩:=sM b 32 (y.1+1,[]) c.1 c.2 f (by simp) n
 have p:=GV (B:=20000) (by omega) 32 (y.1+1,[]) c.1 c.2 (fun z v=>by cases v) n
 obtain⟨m,D,t⟩:=cQ s
 obtain rfl:=Sum.inr.inj t
 exact⟨gy.2,o,p⟩
theorem XZ(c:OkT ts)(e:ts.length<=16385):∀(n:Nat) (l:List Dl) (i:Nat) {r:List Dl},(∀d∈l,HK d)->i<ts.length->qJ ts n l i= .inr r->∀d∈r,HK d
 |0,_,_,_,_,_,a=>by cases a
 |n+1,l,i,r,f,hi,a=>by
  unfold qJ at a
  split at a
  .cases a;exact f
  obtain⟨x,g,k⟩:=cQ a
  obtain⟨-,h,-⟩:=FZ c hi g
  refine XZ c e n _ _ (fun d b=> ?_) h k
  rcases gJ.1 b with b|b
  .exact f d b
  rw[kL.1 b];exact qMg c e hi g
end
def okSr(f:Sr):Prop:=f.2.1.length<=8/\f.2.2.length<=64/\∀d∈f.2.2,HK d
theorem YB{ts:List bP}(h:OkT ts):∀(n:Nat) (l:List Dl) (i:Nat) {r:List Dl},l.length<=64->i<ts.length->qJ ts n l i= .inr r->r.length<=64
 |0,_,_,_,_,_,a=>by cases a
 |n+1,l,i,r,d,hi,a=>by
  unfold qJ at a
  split at a
  .cases a;exact d
  obtain⟨x,e,c⟩:=cQ a
  obtain⟨-,b,f⟩:=FZ h hi e
  exact YB h n _ _ (by simp only[jC,jD,jE];omega) b c
theorem GF:okSr rT:=⟨kK _,kK _,fun d a=>by cases a⟩
theorem VT(s:BA):okSr (rO s).1:=by
 unfold rO
 by_cases h0:(iS s).2.2=0
 .rw[if_neg (not_not_intro h0)]
  obtain⟨e,g,E⟩:=JV h0
  have k:0<(iS s).1.length:=by
   cases h:(iS s).1 with
   |nil=>exact absurd h e.1
   |cons a l=>exact Nat.succ_pos _
  cases c:rS (iS s).1 with
  |inl z=>exact GF
  |inr f=>
   simp only
   unfold rS at c
   obtain⟨i,v,c⟩:=cQ c
   obtain⟨rfl,r,-⟩:=CC e k v
   obtain⟨a,x,c⟩:=cQ c
   obtain⟨rfl,t,-⟩:=qE e r x
   obtain⟨j,y,c⟩:=cQ c
   obtain⟨rfl,u,-⟩:=iR e t y
   obtain⟨b,A,c⟩:=cQ c
   obtain⟨-,o,D⟩:=JS e _ _ _ b u (by simp) A
   obtain⟨l,n,c⟩:=cQ c
   have p:=YB e _ _ _ (by simp) o n
   have q:=XZ e g _ _ _ (fun d B=>by cases B) o n
   cases c
   exact⟨D,p,q⟩
 rw[if_pos h0];exact GF
theorem UR{β:Type}{b:β}{n:Nat}{f:Int->Option (Int⊕β)}(c:∀i,i<n->f (i:Int)=some (.inl ((i+1:Nat):Int)))(a:f (n:Int)=some (.inr b)):∀(d i M:Nat),i+d=n->d<M->aI f M (i:Int)=some b
 |_,_,0,_,h=>absurd h (kQ _)
 |0,i,M+1,e,_=>by
  have:i=n:=by omega
  subst this
  simp only[aI,a,j0]
 |d+1,i,M+1,e,g=>by
  simp only[aI,c i (by omega),j0]
  exact UR c a d (i+1) M (by omega) (by omega)
theorem HH{β:Type}{b:β}{n M:Nat}{f:Int->Option (Int⊕β)}(d:∀i,i<n->f (i:Int)=some (.inl ((i+1:Nat):Int)))(c:f (n:Int)=some (.inr b))(a:n<M):aI f M 0=some b:=
 UR d c n 0 M (by omega) a
theorem SI{N:Nat}{l:List BA}(h:l.length<1000000)(a:l.length<N):zZ N l l=some true:=by
 unfold zZ
 rw[if_neg (by simp),HH (n:=l.length) (b:=(.inl ():Unit⊕Bool)) (fun i hi=>by
  simp only[DS]
  rw[if_pos (by simp only[jA];omega),dX hi]
  have ew:IntKind.wrap .i64 ((i:Int)+1)=((i+1:Nat):Int):=by rw[bQ (by omega) (by omega)];omega
  simp only[j0,kS,kI,jB,jF,ew]) (by
  simp only[DS]
  rw[if_neg (by simp)]) a]
 rfl
theorem qEj{N:Nat}{x:Ex}(h:x.2.2.2.2.length<1000000)(a:x.2.2.2.2.length<N):EI N x x=some true:=by
 unfold EI
 have c:=HH (n:=x.2.2.2.2.length) (M:=N) (b:=(.inl ():Unit⊕Bool)) (f:=zU N x x) (fun i hi=>by
  simp only[zU]
  rw[if_pos (by simp only[jA];omega),dX hi]
  have ew:IntKind.wrap .i64 ((i:Int)+1)=((i+1:Nat):Int):=by rw[bQ (by omega) (by omega)];omega
  simp only[j0,gU,jB,jF,ew]) (by
  simp only[zU]
  rw[if_neg (by simp)]) a
 simp only[gU,jB,jF,kS,kI,j0,c]
theorem qEp{N:Nat}{d:Dl}(h:HK d)(k:100000<N):EG N d d=some true:=by
 obtain⟨e,g,a⟩:=h
 unfold EG
 have c:=HH (n:=d.2.2.2.length) (M:=N) (b:=(.inl ():Unit⊕Bool)) (f:=zT N d d) (fun i hi=>by
  simp only[zT]
  rw[if_pos (by simp only[jA];omega),dX hi]
  have ew:IntKind.wrap .i64 ((i:Int)+1)=((i+1:Nat):Int):=by rw[bQ (by omega) (by omega)];omega
  have o:=a _ (jR hi)
  simp only[j0]
  rw[qEj (by omega) (by omega)]
  simp only[j0,kI,jB,jF,ew]) (by
  simp only[zT]
  rw[if_neg (by simp)]) (by omega)
 rw[SI (l:=d.2.2.1) (by omega) (by omega)]
 simp only[gU,jB,jF,kS,kI,j0,c]
theorem qEo{N:Nat}{f:Sr}(h:okSr f)(c:100000<N):AW N f f=some true:=by
 obtain⟨e,g,a⟩:=h
 unfold AW
 have d:=HH (n:=f.2.2.length) (M:=N) (b:=(.inl ():Unit⊕Bool)) (f:=AI N f f) (fun i hi=>by
  simp only[AI]
  rw[if_pos (by simp only[jA];omega),dX hi]
  have ew:IntKind.wrap .i64 ((i:Int)+1)=((i+1:Nat):Int):=by rw[bQ (by omega) (by omega)];omega
  simp only[j0]
  rw[qEp (a _ (jR hi)) c]
  simp only[j0,kI,jB,jF,ew]) (by
  simp only[AI]
  rw[if_neg (by simp)]) (by omega)
 rw[SI (l:=f.2.1) (by omega) (by omega)]
 simp only[gU,jB,jF,kS,kI,j0,d]
end
section
open Go Go.Dc
def PB{α:Type}(P:α->Prop)(x:bU⊕α):Prop:=∀a,x= .inr a->P a
theorem PB.fail{α:Type}{P:α->Prop}{t:bP}{e:Int}:PB P (dO t e):=fun _ h=>by cases h
theorem PB.ok{α:Type}{P:α->Prop}{a:α}(h:P a):PB P (.inr a):=fun b e=>by cases e;exact h
theorem PB.bind{α β:Type}{P:α->Prop}{Q:β->Prop}{x:bU⊕α}{f:α->bU⊕β}(h:PB P x)(b:∀a,P a->PB Q (f a)):PB Q (bG x f):=by
 cases x with
 |inl z=>exact fun _ e=>by cases e
 |inr a=>exact b a (h a rfl)
theorem PB.any{α:Type}{x:bU⊕α}:PB (fun _=>True) x:=fun _ _=>trivial
theorem PB.ite{α:Type}{P:α->Prop}{c:Prop}[Decidable c]{x y:bU⊕α}(a:PB P x)(b:PB P y):PB P (if c then x else y):=by
 split
 .exact a
 exact b
section
variable {ts:List bP} {ps:List BA} {E S:Ps->PM Nat}
def pV(l:List Ex):Prop:=∀x∈l,x.2.2.2.1.size<100000
def uT(E:Ps->PM Nat):Prop:=∀p,pV p.2->PB (fun r=>pV r.1.2) (E p)
def sZ(ts:List bP):Prop:=∀j,(aN ts j).2.1.size<100000
theorem GS(b:sZ ts){k:Int}{i:Nat}:PB (fun a=>a.2.2.1.size<100000) (lB ts k i):= .ite (.ok (b i)) .fail
theorem qMq(b:sZ ts){i:Nat}:PB (fun a=>a.2.2.1.size<100000) (lA ts i):= .bind (GS b) fun _ h=> .ite .fail (.ok h)
theorem LB(b:sZ ts){i:Nat}:PB (fun a=>a.2.2.1.size<100000) (lT ts i):= .bind (GS b) fun _ h=> .ite (.ok h) .fail
theorem qLa(b:sZ ts){i:Nat}:PB (fun a=>a.2.2.1.size<100000) (uD ts i):= .bind (GS b) fun _ h=> .ite (.ok h) .fail
theorem yY{t:bP}{x:Ex}{p:Ps}(b:pV p.2)(c:x.2.2.2.1.size<100000):PB (fun r=>pV r.1.2) (iI t x p):= .ite .fail (.ok fun y a=>by
 rcases gJ.1 a with a|a
 .exact b y a
 rw[kL.1 a];exact c)
theorem DF:(⟨#[]⟩:BA).size<100000:=by decide
theorem YZ(a:uT E):∀(n:Nat) (l:List Int) (p:Ps),pV p.2->PB (fun r=>pV r.1.2) (rU ts E n l p)
 |0,_,_,_=> .fail
 |n+1,_,p,b=> .bind (a p b) fun _ h=> .ite (YZ a n _ _ h) (.bind .any fun _ _=> .ok h)
theorem qFh(b:uT E){p:Ps}(a:pV p.2):PB (fun r=>pV r.1.2) (sK ts E p):= .bind .any fun _ _=> .ite (.ok a) (YZ b _ _ _ a)
theorem qHe(b:sZ ts)(c:uT E){t:bP}{p:Ps}(a:pV p.2):PB (fun r=>pV r.1.2) (pI ts E t p):=
 .bind .any fun _ _=> .bind (P:=fun r=>pV r.1.2/\r.2.2.2.2.1.size<100000) (.ite (.bind (LB b) fun _ h=> .bind .any fun _ _=> .bind (c _ a) fun _ g=> .ok ⟨g,h⟩) (.ite (.bind (LB b) fun _ h=> .ok ⟨a,h⟩) (.ite (.bind (LB b) fun _ h=> .ok ⟨a,h⟩) (.ite (.bind (qLa b) fun _ h=> .ok ⟨a,h⟩) (.bind (GS b) fun _ _=> .ite .fail (.ok ⟨a,DF⟩)))))) fun _ h=> .bind .any fun _ _=>yY h.1 h.2
theorem qJi(c:sZ ts)(b:uT E):uT (oV ts ps E):=by
 intro p a
 unfold oV
 refine .ite (yY a DF) (.ite (.bind (GS c) fun _ _=>yY a DF) (.ite (.bind (b _ a) fun _ h=> .bind .any fun _ _=> .ok h) (.ite .fail (.ite (qHe c b a) (.ite .fail (.ite (.bind (qFh b a) fun _ h=>yY h (c _)) ?_))))))
 split
 .exact yY a DF
 exact .fail
theorem YS{level:Nat}(a:uT S):∀(n x:Nat) (p:Ps),pV p.2->PB (fun r=>pV r.1.2) (mQ ts level S n x p)
 |0,_,_,_=> .fail
 |n+1,_,p,b=> .ite (.ok b) (.bind (a _ b) fun _ h=> .bind (yY h DF) fun _ g=> .ite (.ok g) (YS a n _ _ g))
theorem PE{level:Nat}(a:uT S):uT (oW ts level S):=fun p b=> .bind (a p b) fun _ h=>YS a _ _ _ h
theorem GR(a:sZ ts):∀k:Nat,uT (dL ts ps k)
 |0=>fun _ _=> .fail
 |k+1=>fun p b=> .ite (.bind (GR a k _ b) fun _ c=> .bind .any fun _ _=> .bind (GR a k _ c) fun _ d=> .bind .any fun _ _=> .bind (GR a k _ d) fun _ e=>yY e DF) (PE (PE (PE (qJi a (GR a k)))) p b)
def IE(d:Dl):Prop:=d.2.1.size<100000/\pV d.2.2.2
theorem qMo(b:sZ ts)(before:List Dl)(i:Nat):PB (fun a=>IE a.2) (mE ts before i):=by
 unfold mE
 exact .ite .fail (.ite .fail (.bind (.ite (LB b) (qMq b)) fun _ h=> .ite .fail (.bind .any fun _ _=> .bind .any fun _ _=> .bind (GR b _ _ fun x c=>by cases c) fun _ g=> .bind .any fun _ _=> .ok ⟨h,g⟩)))
theorem YF(c:sZ ts):∀(n:Nat) (l:List Dl) (i:Nat),(∀d∈l,IE d)->PB (fun r=>∀d∈r,IE d) (qJ ts n l i)
 |0,_,_,_=> .fail
 |n+1,l,i,b=> .ite (.ok b) (.bind (qMo c _ _) fun _ h=>YF c n _ _ fun d a=>by
  rcases gJ.1 a with a|a
  .exact b d a
  rw[kL.1 a];exact h)
theorem qMz(b:sZ ts):PB (fun f=>∀d∈f.2.2,IE d) (rS ts):= .bind .any fun _ _=> .bind .any fun _ _=> .bind .any fun _ _=> .bind .any fun _ _=> .bind (YF b _ _ _ fun d a=>by cases a) fun _ h=> .ok h
end
theorem qIy(s:BA):∀d∈(rO s).1.2.2,IE d:=by
 unfold rO
 by_cases h0:(iS s).2.2=0
 .rw[if_neg (not_not_intro h0)]
  obtain⟨-,-,b⟩:=JV h0
  cases hf:rS (iS s).1 with
  |inl z=>exact fun d a=>by cases a
  |inr f=>exact qMz (b) f hf
 rw[if_pos h0];exact fun d a=>by cases a
end
section
open Go Go.Dc Go.Proofs
theorem qKa{P:Rose->Prop}(h:∀b ks,(∀t∈ks,P t)->P (.mk b ks))(t:Rose):P t:=by
 have key:∀(n:Nat) (t:Rose),t.size<=n->P t:=by
  intro n
  induction n with
  |zero=>intro t d;have:=t.pos;omega
  |succ n e=>
   intro t d
   match t with
   | .mk b ks=>
    refine h b ks fun u c=>e u ?_
    have g:u.size<=aY ks:=by
     clear d e h
     induction ks with
     |nil=>cases c
     |cons a l f=>
      rcases jV.1 c with rfl|c
      .show _<=u.size+aY l;omega
      have:=f c
      show _<=a.size+aY l;omega
    have:(Rose.mk b ks).size=aY ks+1:=rfl
    omega
 exact key t.size t (jP _)
inductive Fine(np:Nat):Rose->Prop
 |num (n:Int) (h0: -9007199254740992<=n) (h1:n<=9007199254740992):Fine np (.mk (1,n,0,emB) [])
 |par (i:Nat) (h:i<np):Fine np (.mk (2,(i:Int),0,emB) [])
 |call (s:BA) (ks:List Rose) (h:dZ s=true) (hk:∀t∈ks,Fine np t):Fine np (.mk (3,0,0,s) ks)
 |bin (op:Int) (a b:Rose) (h0:1<=op) (h1:op<=7) (ha:Fine np a) (hb:Fine np b):Fine np (.mk (4,0,op,emB) [a,b])
 |ite (a b c:Rose) (ha:Fine np a) (hb:Fine np b) (hc:Fine np c):Fine np (.mk (5,0,0,emB) [a,b,c])
 |read (s:BA) (a:Rose) (h:lM s.data.toList=true) (ha:Fine np a):Fine np (.mk (6,0,0,s) [a])
 |look (k:Int) (s:BA) (hk:k=7\/k=8) (h:lM s.data.toList=true):Fine np (.mk (k,0,0,s) [])
 |env (s:BA) (h:oA s=true):Fine np (.mk (9,0,0,s) [])
 |flip (n:Nat) (h:n<64):Fine np (.mk (10,(n:Int),0,emB) [])
theorem qKq{np:Nat}(t:Rose):∀b,(∀x∈t.flat b,iJ (np:Int) x=true)->Fine np t:=by
 refine qKa (P:=fun t=>∀b,(∀x∈t.flat b,iJ (np:Int) x=true)->Fine np t) ?_ t
 intro z ks B b y
 have A:iJ (np:Int) (eM z (bY b ks))=true:=y _ (by unfold Rose.flat;exact kM _ (kL.2 rfl))
 have q:∀t∈ks,Fine np t:=by
  have g:∀x∈dY b ks,iJ (np:Int) x=true:=fun x f=>y x (by unfold Rose.flat;exact jY _ f)
  clear y A
  induction ks generalizing b with
  |nil=>intro t e;cases e
  |cons a l h=>
   intro t e
   rcases jV.1 e with rfl|e
   .exact B t (jS ..) b fun x f=>g x (by unfold dY;exact jY _ f)
   exact h (fun u p=>B u (jX _ p)) (b+a.size) (fun x f=>g x (by unfold dY;exact kM _ f)) t e
 obtain⟨k,n,o,s⟩:=z
 have r:(eM (k,n,o,s) (bY b ks)).2.2.2.2.length=ks.length:=oS ks b
 rcases GC A with ⟨e,h,p,g,f,v⟩|⟨e,h,p,g,f,v⟩|⟨e,h,p,g⟩|⟨e,h,p,g,f,v⟩|⟨e,h,p,g,f⟩|⟨e,h,p,g,f⟩|⟨e,h,p,g,f⟩|⟨e,h,p,g,f⟩|⟨e,h,p,g,f,v⟩
 .have e:k=1:=e
  have f:o=0:=f
  have v:s=emB:=v
  rw[r] at h
  obtain rfl:=gA.1 h
  subst e f v
  exact .num n p g
 .have e:k=2:=e
  have f:o=0:=f
  have v:s=emB:=v
  have p:0<=n:=p
  have g:n<(np:Int):=g
  rw[r] at h
  obtain rfl:=gA.1 h
  subst e f v
  obtain⟨i,rfl⟩:∃i:Nat,n=(i:Int):=⟨n.toNat,by omega⟩
  exact .par i (by omega)
 .have e:k=3:=e
  have p:n=0:=p
  have g:o=0:=g
  subst e p g
  exact .call s ks h q
 .have e:k=4:=e
  have f:n=0:=f
  have v:s=emB:=v
  rw[r] at h
  subst e f v
  match ks,h,q with
  |[a,c],_,q=>exact .bin o a c p g (q a (by simp)) (q c (by simp))
 .have e:k=5:=e
  have p:n=0:=p
  have g:o=0:=g
  have f:s=emB:=f
  rw[r] at h
  subst e p g f
  match ks,h,q with
  |[a,c,d],_,q=>exact .ite a c d (q a (by simp)) (q c (by simp)) (q d (by simp))
 .have e:k=6:=e
  have g:n=0:=g
  have f:o=0:=f
  rw[r] at h
  subst e g f
  match ks,h,q with
  |[a],_,q=>exact .read s a p (q a (by simp))
 .have e:k=7\/k=8:=e
  have g:n=0:=g
  have f:o=0:=f
  rw[r] at h
  obtain rfl:=gA.1 h
  subst g f
  exact .look k s e p
 .have e:k=9:=e
  have g:n=0:=g
  have f:o=0:=f
  rw[r] at h
  obtain rfl:=gA.1 h
  subst e g f
  exact .env s p
 have e:k=10:=e
 have p:0<=n:=p
 have g:n<64:=g
 have f:o=0:=f
 have v:s=emB:=v
 rw[r] at h
 obtain rfl:=gA.1 h
 subst e f v
 obtain⟨i,rfl⟩:∃i:Nat,n=(i:Int):=⟨n.toNat,by omega⟩
 exact .flip i (by omega)
abbrev Pf:=List UInt8->List Pc
def pS(l:List UInt8)(bl:List UInt8):Pc:=((4,l),bl)
def wR(l:List UInt8)(bl:List UInt8):Pc:=((1,l),bl)
def txP(l:List UInt8)(bl:List UInt8):Pc:=((3,l),bl)
def ZM(n:Int)(bl:List UInt8):List Pc:=if n<0 then[pS [45] [],((2,Lib.decDigits n.natAbs),bl)] else[((2,Lib.decDigits n.toNat),bl)]
def ZJ:Nat->List Pf->List Pc
 |_,[]=>[]
 |k,w::ws=>(if k=0 then[] else[pS [44] [32]])++(w []++ZJ (k+1) ws)
def wIf:List UInt8:=[105,102]
def qOg:List UInt8:=[116,104,101,110]
def qOh:List UInt8:=[101,108,115,101]
def qOb:List UInt8:=[114,101,97,100]
def qOd:List UInt8:=[102,108,105,112]
def DL:Pf:=fun _=>[]
def ZF(ps:List BA)(h:Hd)(ws:List Pf)(bl:List UInt8):List Pc:=
 if h.1=1 then ZM h.2.1 bl
 else if h.1=2 then[wR (ps.getD h.2.1.toNat ⟨#[]⟩).data.toList bl]
 else if h.1=4 then(ws.getD 0 DL) [32]++(pS (zD h.2.2.1).data.toList [32]::(ws.getD 1 DL) bl)
 else if h.1=5 then wR wIf [32]::((ws.getD 0 DL) [32]++(wR qOg [32]::((ws.getD 1 DL) [32]++(wR qOh [32]::(ws.getD 2 DL) bl))))
 else if h.1=3 then wR h.2.2.2.data.toList []::pS [40] []::(ZJ 0 ws++[pS [41] bl])
 else if h.1=6 then wR qOb []::pS [40] []::txP h.2.2.2.data.toList []::pS [44] [32]::((ws.getD 0 DL) []++[pS [41] bl])
 else if h.1=10 then wR qOd []::pS [40] []::(ZM h.2.1 []++[pS [41] bl])
 else[wR (zG h.1).data.toList [],pS [40] [],txP h.2.2.2.data.toList [],pS [41] bl]
mutual
def Rose.pc(ps:List BA)(need:Int)(bl:List UInt8):Rose->List Pc
 | .mk h ks=>if eO h<need then pS [40] []::(ZF ps h (pcs ps h 0 ks) []++[pS [41] bl]) else ZF ps h (pcs ps h 0 ks) bl
def pcs(ps:List BA)(h:Hd)(k:Nat):List Rose->List Pf
 |[]=>[]
 |t::l=>(fun bl=>t.pc ps (eU h k) bl)::pcs ps h (k+1) l
end
theorem LJ{a:Array UInt8}:(⟨a⟩:BA).data.toList=a.toList:=rfl
end
section
open Go Go.Dc Go.Proofs
end
section
open Go Go.Dc Go.Proofs
def QJ(l:List Pc):List LN:=l.map fun p=>qNq p.1
def Seg(ts:List bP):Nat->List LN->Prop
 |_,[]=>True
 |i,c::cs=>qOc (aN ts i)=c/\Seg ts (i+1) cs
section
variable {ts:List bP} {ps:List BA} {i:Nat}
def NextOk(n:Nat)(ts:List bP)(i:Nat):Prop:=i<ts.length/\bT ts 4 mM i=false/\∀L,n<=L->1<=L->L<=3->lC ts L i=0
theorem NextOk.up{n m:Nat}(h:NextOk n ts i)(a:n<=m):NextOk m ts i:=⟨h.1,h.2.1,fun L b=>h.2.2 L (by omega)⟩
def Res{α:Type}(x:bU⊕α)(g:Prop)(v:α):Prop:=(g->x= .inr v)/\(¬g->∃z,x= .inl (z,2))
theorem Res.bind{α β:Type}{x:bU⊕α}{g g' G:Prop}{v:α}{f:α->bU⊕β}{v':β}(h:Res x g v)(c:g->Res (f v) g' v')(d:G↔g/\g'):Res (bG x f) G v':=by
 constructor
 .intro e
  obtain⟨a,b⟩:=d.1 e
  rw[h.1 a]
  exact(c a).1 b
 intro e
 by_cases a:g
 .rw[h.1 a]
  exact(c a).2 fun b=>e (d.2 ⟨a,b⟩)
 obtain⟨z,k⟩:=h.2 a
 exact⟨z,by rw[k];rfl⟩
theorem Res.pure{α:Type}{x:bU⊕α}{g:Prop}{v:α}(a:g)(h:x= .inr v):Res x g v:=⟨fun _=>h,fun n=>absurd a n⟩
def PL(ts:List bP)(ps:List BA)(E:Ps->PM Nat):Nat->Ps->PM Nat
 |1=>CD ts ps E
 |2=>rX ts ps E
 |3=>CY ts ps E
 |_=>oV ts ps E
def Fac(ts:List bP)(ps:List BA)(E:Ps->PM Nat)(n:Nat)(pf:Pf)(g:Prop)(t:Rose):Prop:=
 ∀i l bl,Seg ts i (QJ (pf bl))->NextOk n ts (i+(pf bl).length)->l.length+t.size<=256->Res (PL ts ps E n (i,l)) g ((i+(pf bl).length,l++t.flat l.length),l.length+t.size-1)
def Spi(ts:List bP)(ps:List BA)(E:Ps->PM Nat)(L:Nat)(pf:Pf)(g:Prop)(t:Rose):Prop:=
 ∀i l bl,Seg ts i (QJ (pf bl))->NextOk (L+1) ts (i+(pf bl).length)->l.length+t.size<=256->
  (g->∃n',ts.length+1<=n'+(pf bl).length/\oW ts L (PL ts ps E (L+1)) (i,l)=mQ ts L (PL ts ps E (L+1)) n' (l.length+t.size-1) (i+(pf bl).length,l++t.flat l.length))/\
  (¬g->∃z,oW ts L (PL ts ps E (L+1)) (i,l)= .inl (z,2))
variable {E:Ps->PM Nat} {pf:Pf} {g:Prop} {t:Rose}
end
section
variable (ts:List bP) (ps:List BA)
def Pos0(k d:Nat)(t:Rose):Prop:=∀i l bl,Seg ts i (QJ (t.pc ps 0 bl))->NextOk 1 ts (i+(t.pc ps 0 bl).length)->l.length+t.size<=256->Res (dL ts ps k (i,l)) (t.dep 0 d<=32) ((i+(t.pc ps 0 bl).length,l++t.flat l.length),l.length+t.size-1)
structure Pk(t:Rose):Prop where
 p0:∀k d,k+d=33->Pos0 ts ps k d t
 en:∀k d,k+d=32->∀n:Nat,2<=n->n<=4->Fac ts ps (dL ts ps k) n (fun bl=>t.pc ps (n:Int) bl) (t.dep (n:Int) d<=32) t
 es:∀k d,k+d=32->∀L:Nat,2<=L->L<=3->Spi ts ps (dL ts ps k) L (fun bl=>t.pc ps (L:Int) bl) (t.dep (L:Int) d<=32) t
end
end
section
open Go Go.Dc Go.Proofs
end
section
open Go Go.Dc Go.Proofs
end
section
open Go Go.Dc Go.Proofs
section
variable {ts:List bP} {ps:List BA}
theorem Res.step{α β:Type}{x:bU⊕α}{v:α}{f:α->bU⊕β}{g:Prop}{w:β}(h:x= .inr v)(r:Res (f v) g w):Res (bG x f) g w:=by
 rw[h];exact r
end
end
section
open Go Go.Dc Go.Proofs
end
section
open Go Go.Dc Go.Proofs
structure OkD(d:Dl):Prop where
 good:GoodD d
 pars:d.2.2.1.length<=8
 body:d.2.2.2.length<=256
 dup:iO d.2.2.1=false
theorem OkD.tree{d:Dl}(h:OkD d):∃t,CU d.2.2.2=some t/\d.2.2.2=t.flat 0/\Fine d.2.2.1.length t:=by
 obtain⟨t,b,a⟩:=GL h.good.tree
 exact⟨t,b,a,qKq t 0 fun x c=>h.good.nodes x (by rw[a];exact c)⟩
theorem OkD.kind{d:Dl}(h:OkD d):(d.1=1\/d.1=2)/\dZ d.2.1=true\/d.1=3/\lM d.2.1.data.toList=true:=by
 have:=h.good.head
 unfold uK at this
 split at this
 .rename_i g;exact .inl ⟨g,this⟩
 split at this
 .rename_i g;exact .inr ⟨g,this⟩
 cases this
theorem OkD.names{d:Dl}(h:OkD d):∀s∈d.2.2.1,dZ s=true:=fun s a=>(h.good.pars s a).2
theorem PW{f:Sr}(h:GoodS f):∀d∈f.2.2,OkD d:=fun d e=>by
 obtain⟨a,b,c,-⟩:=h.decs d e
 refine⟨a,b,c,?_⟩
 have:=h.once
 unfold uH at this
 simp only[fN,List.any_eq_false] at this
 exact(Bool.not_eq_true _).mp (this.1 d e)
end
section
open Go Go.Dc Go.Proofs
end
section
open Go Go.Dc Go.Proofs
end
section
open Go Go.Dc Go.Proofs
theorem TY:∀(ws:List (List UInt8)) (k:Nat),lH (k+1) ws=Lib.joinTail [44,32] ws
 |[],_=>rfl
 |w::ws,k=>by
  have a:=TY ws (k+1)
  show lJ (k+1)++(w++lH (k+1+1) ws)=_
  rw[a]
  unfold lJ
  rw[if_neg (by omega)]
  simp[Lib.joinTail]
theorem qFw(ws:List (List UInt8)):lH 0 ws=Lib.join ws [44,32]:=by
 cases ws with
 |nil=>rfl
 |cons w ws=>
  rw[Lib.join_cons,<-TY ws 0]
  rfl
theorem qKh(l:List BA):CV l (⟨#[44,32]⟩:BA)=uL l:=by
 refine oX ?_
 show Lib.join (l.map (·.data.toList)) [44,32]=lH 0 (l.map fun s=>s.data.toList)
 rw[qFw]
theorem qIr{N:Nat}{l:List BA}(d:l.length<=8)(c:∀s∈l,s.size<=24):tR N l (⟨#[44,32]⟩:BA)=some (uL l):=by
 by_cases h1:l.length<=1
 .exact qJz h1
 have b:=OL c
 have a:0<(uL l).size:=by
  match l,h1 with
  |x::y::r,_=>
   show 0<(lH 0 (x.data.toList::y.data.toList::r.map fun s=>s.data.toList)).length
   simp only[lH,jC]
   have:(lJ (0+1)).length=2:=rfl
   omega
  |[],h=>exact absurd (kK 1) h
  |[x],h=>exact absurd (jP 1) h
 unfold tR
 rw[if_pos (by omega)]
 unfold LK
 rw[qKh,if_pos ⟨a,by omega,by omega⟩]
end
section
open Go Go.Dc
def Ok{α:Type}(x:Option α)(Q:α->Prop):Prop:=∃a,x=some a/\Q a
section
variable {α β γ:Type} {Q:β->Prop}
theorem Ok.mk{a:β}(h:Q a):Ok (some a) Q:=⟨a,rfl,h⟩
theorem Ok.bind{x:Option α}{P:α->Prop}{f:α->Option β}(h:Ok x P)(k:∀a,P a->Ok (f a) Q):Ok (x.bind f) Q:=by
 obtain⟨a,rfl,b⟩:=h
 exact k a b
theorem Ok.mono{x:Option β}{P:β->Prop}(h:Ok x P)(k:∀a,P a->Q a):Ok x Q:=by
 obtain⟨a,e,b⟩:=h
 exact⟨a,e,k a b⟩
theorem Ok.assoc{x:Option α}{g:α->Option γ}{f:γ->Option β}(h:Ok (x.bind fun a=>(g a).bind f) Q):Ok ((x.bind g).bind f) Q:=by
 rw[fC];exact h
theorem Ok.ite{c:Prop}[Decidable c]{x y:Option β}(a:c->Ok x Q)(b:¬c->Ok y Q):Ok (if c then x else y) Q:=by
 by_cases h:c
 .rw[if_pos h];exact a h
 rw[if_neg h];exact b h
theorem Ok.iteb{c:Prop}[Decidable c]{x y:Option α}{f:α->Option β}(a:c->Ok (x.bind f) Q)(b:¬c->Ok (y.bind f) Q):Ok ((if c then x else y).bind f) Q:=by
 by_cases h:c
 .rw[if_pos h];exact a h
 rw[if_neg h];exact b h
theorem Ok.tt[Decidable (true=true)]{x y:Option β}(h:Ok x Q):Ok (if true=true then x else y) Q:=by rw[if_pos rfl];exact h
theorem Ok.ff[Decidable (false=true)]{x y:Option β}(h:Ok y Q):Ok (if false=true then x else y) Q:=by rw[if_neg gO];exact h
theorem Ok.ttb[Decidable (true=true)]{x y:Option α}{f:α->Option β}(h:Ok (x.bind f) Q):Ok ((if true=true then x else y).bind f) Q:=by rw[if_pos rfl];exact h
theorem Ok.ffb[Decidable (false=true)]{x y:Option α}{f:α->Option β}(h:Ok (y.bind f) Q):Ok ((if false=true then x else y).bind f) Q:=by rw[if_neg gO];exact h
theorem Ok.someb{a:α}{f:α->Option β}(h:Ok (f a) Q):Ok ((some a).bind f) Q:=h
theorem Ok.mapb{a:α}{g:α->γ}{f:γ->Option β}(h:Ok (f (g a)) Q):Ok (((some a).map g).bind f) Q:=h
theorem Ok.cat{x y:BA}{f:BA->Option β}(a:x.size+y.size<=1000000000)(h:∀s:BA,s.size=x.size+y.size->Ok (f s) Q):Ok ((bH x y).bind f) Q:=by
 unfold bH
 rw[if_pos (by simp only[maxLen];omega)]
 exact h _ (by simp)
theorem Ok.app{b:Nat}{l k:List α}{f:List α->Option β}(c:(l.length+k.length)*b<=140737488355328)(a:0<b)(h:Ok (f (l++k)) Q):Ok ((cW b l k).bind f) Q:=by
 rw[lU c a];exact h
theorem Ok.loop{σ:Type}{f:σ->Option (σ⊕α)}{g:α->Option β}{s:σ}{N:Nat}(I:σ->Prop)(μ:σ->Nat)(R:α->Prop)
  (h:∀s,I s->Ok (f s) fun r=>match r with| .inl s'=>I s'/\μ s'<μ s| .inr b=>R b) (d:I s) (e:μ s<N) (k:∀b,R b->Ok (g b) Q):Ok ((aI f N s).bind g) Q:=by
 obtain⟨b,c,a⟩:=WD I μ R (fun s d=>by
  obtain⟨r,c,a⟩:=h s d
  cases r with
  |inl s'=>exact .inr ⟨s',c,a.1,a.2⟩
  |inr b=>exact .inl ⟨b,c,a⟩) N s d e
 rw[c];exact k b a
end
theorem pA(a:Array UInt8):(⟨a⟩:BA).size=a.size:=rfl
theorem qJc{N:Nat}{v n:Int}(d:n<=9223372036854775807):∃r,FI N v n=some r/\0<=r/\(1<=n->r<n):=by
 simp only[FI]
 by_cases h:n<=1
 .exact⟨0,by simp[h],by omega,by omega⟩
 have a:n≠0:=by omega
 have b:=Int.tmod_lt_of_pos v (show 0<n by omega)
 have c:=Int.lt_tmod_of_pos v (show 0<n by omega)
 simp only[h,decide_false,jB,jF,LM,a,j0]
 by_cases h3:Int.tmod v n<0
 .refine⟨Int.tmod v n+n,?_,by omega,by omega⟩
  simp only[h3,decide_true,jH,j0]
  rw[bQ (by omega) (by omega)]
 exact⟨Int.tmod v n,by simp only[h3,decide_false,jB,jF,j0],by omega,by omega⟩
theorem KG{N:Nat}{l:List Int}{a n:Int}(c:0<=a)(k:a<4611686018427387904)(f:n<=9223372036854775807):∃r,pZ N (l,a) n=some ((l,a+1),r)/\0<=r/\(1<=n->r<n):=by
 simp only[pZ]
 have b:∃v,(if(decide (a<(List.length l:Int)))=true then((idx l a).bind fun x1=>some x1) else(some (Int.tmod (IntKind.wrap .i64 (a*7)) 11)):Option Int)=some v:=by
  by_cases h:a<(l.length:Int)
  .exact⟨_,by simp only[h,decide_true,jH];rw[KF c (by omega)];rfl⟩
  exact⟨_,by simp only[h,decide_false,jB,jF];rfl⟩
 obtain⟨v,b⟩:=b
 obtain⟨r,g,d,e⟩:=qJc (N:=N) (v:=v) f
 exact⟨r,by simp only[b,j0,g];rw[bQ (by omega) (by omega)],d,e⟩
section
variable {β:Type} {Q:β->Prop} {N:Nat} {l:List Int} {a:Int}
theorem Ok.next{n:Int}{f:(List Int×Int)×Int->Option β}(d:0<=a)(e:a<4611686018427387904)(g:1<=n)(o:n<=1000000)(h:∀r,0<=r->r<n->Ok (f ((l,a+1),r)) Q):Ok ((pZ N (l,a) n).bind f) Q:=by
 obtain⟨r,k,b,c⟩:=KG (N:=N) (l:=l) d e (show n<=9223372036854775807 by omega)
 rw[k];exact h r b (c g)
theorem Ok.chance{n m:Int}{f:(List Int×Int)×Bool->Option β}(b:0<=a)(c:a<4611686018427387904)(o:1<=m)(e:m<=1000000)(h:∀r,Ok (f ((l,a+1),r)) Q):Ok ((sE N (l,a) n m).bind f) Q:=by
 obtain⟨r,d,g,k⟩:=KG (N:=N) (l:=l) b c (show m<=9223372036854775807 by omega)
 simp only[sE,d,j0]
 exact h _
theorem Ok.one{L:List BA}{f:(List Int×Int)×BA->Option β}(e:0<=a)(g:a<4611686018427387904)(o:0<L.length)(n:L.length<1000)(h:∀x∈L,Ok (f ((l,a+1),x)) Q):Ok ((mW N (l,a) L).bind f) Q:=by
 obtain⟨r,k,d,c⟩:=KG (N:=N) (l:=l) e g (show(L.length:Int)<=9223372036854775807 by omega)
 have c:=c (by omega)
 have b:r.toNat<L.length:=by omega
 simp only[mW]
 rw[if_neg (by rw[kD];omega),k]
 simp only[j0]
 rw[KF d b]
 exact h _ (jR b)
theorem Ok.oneP{L:List BA}{f:(List Int×Int)×BA->Option β}(d:0<=a)(e:a<4611686018427387904)(g:decide ((List.length L:Int)>0)=true)(b:L.length<1000)(c:∀x∈L,x.size<=12)(h:∀x:BA,x.size<=12->Ok (f ((l,a+1),x)) Q):Ok ((mW N (l,a) L).bind f) Q:=
 Ok.one d e (by have:=fB g;omega) b fun x k=>h x (c x k)
theorem Ok.oneS{L:List BA}{f:(List Int×Int)×BA->Option β}(c:0<=a)(d:a<4611686018427387904)(b:(decide (0<L.length)&&decide (L.length<1000)&&L.all fun x=>decide (x.size<=12))=true)(h:∀x:BA,x.size<=12->Ok (f ((l,a+1),x)) Q):Ok ((mW N (l,a) L).bind f) Q:=by
 simp only[jK,jA] at b
 exact Ok.one c d b.1.1 b.1.2 fun x e=>h x (by simpa using jW.1 b.2 x e)
theorem Ok.pick{L:List Int}{f:(List Int×Int)×Int->Option β}(e:0<=a)(g:a<4611686018427387904)(o:0<L.length)(n:L.length<1000)(h:∀x∈L,Ok (f ((l,a+1),x)) Q):Ok ((tG N (l,a) L).bind f) Q:=by
 obtain⟨r,k,d,c⟩:=KG (N:=N) (l:=l) e g (show(L.length:Int)<=9223372036854775807 by omega)
 have c:=c (by omega)
 have b:r.toNat<L.length:=by omega
 simp only[tG]
 rw[if_neg (by rw[kD];omega),k]
 simp only[j0]
 rw[KF d b]
 exact h _ (jR b)
theorem Ok.pickS{L:List Int}{f:(List Int×Int)×Int->Option β}(c:0<=a)(d:a<4611686018427387904)(b:(decide (0<L.length)&&decide (L.length<1000)&&L.all fun x=>decide (0<=x/\x<=9007199254740992))=true)(h:∀x:Int,0<=x->x<=9007199254740992->Ok (f ((l,a+1),x)) Q):Ok ((tG N (l,a) L).bind f) Q:=by
 simp only[jK,jA] at b
 exact Ok.pick c d b.1.1 b.1.2 fun x e=>by
  have:=jW.1 b.2 x e
  simp only[jA] at this
  exact h x this.1 this.2
theorem OR:∀(k D:Nat) (x:Int),k<D->k<=100->0<=x->x<10^(k+1)->x<=9223372036854775806->Ok (ER N D x) fun s=>s.size<=k+1
 |_,0,_,h,_,_,_,_=>absurd h (kQ _)
 |k,D+1,x,l,f,a,e,g=>by
  show Ok (ES N (ER N D) x) _
  unfold ES
  have b:ByteArray.size (⟨#[48,49,50,51,52,53,54,55,56,57]⟩:BA)=10:=rfl
  by_cases hx:x<10
  .rw[if_pos (by simpa using hx),bQ (by omega) (by omega),FV a (by omega) (by omega)]
   refine Ok.mk ?_
   simp only[ByteArray.size_extract,b];omega
  rw[if_neg (by simpa using hx)]
  obtain⟨k,rfl⟩:∃k',k=k'+1:=by
   cases k with
   |zero=>simp at e;omega
   |succ k=>exact⟨k,rfl⟩
  obtain⟨D,rfl⟩:∃D',D=D'+1:=⟨D-1,by omega⟩
  have c:Int.tdiv x 10=x/10:=Int.tdiv_eq_ediv_of_nonneg a
  have d:Int.tmod x 10=x%10:=Int.tmod_eq_emod_of_nonneg a
  have n:(10:Int)^(k+1+1)=10*10^(k+1):=by rw[Int.pow_succ];omega
  rw[c,d,bQ (by omega) (by omega)]
  refine Ok.bind (OR k (D+1) (x/10) (by omega) (by omega) (by omega) (by omega) (by omega)) fun s o=> ?_
  refine Ok.bind (OR 0 (D+1) (x%10) (by omega) (by omega) (by omega) (by simp;omega) (by omega)) fun t p=> ?_
  exact Ok.cat (by omega) fun u q=>Ok.mk (by omega)
theorem qHc{x:Int}(a:0<=x)(b:x<=9007199254740992)(c:100<N):Ok (FC N x) fun s=>s.size<=16:=
 OR 15 N x (by omega) (by omega) a (by rw[show(10:Int)^(15+1)=10000000000000000 from by kernel_rfl];omega) (by omega)
theorem Ok.digits{x:Int}{f:BA->Option β}(a:0<=x)(b:x<=9007199254740992)(c:100<N)(h:∀s:BA,s.size<=16->Ok (f s) Q):Ok ((FC N x).bind f) Q:=Ok.bind (qHc a b c) h
end
def nG:Nat->Nat
 |0=>8
 |d+1=>3*nG d+8
def pO:Nat->Nat
 |0=>22
 |d+1=>3*pO d+20
theorem WB:∀d,22<=pO d
 |0=>jP _
 |d+1=>by have:=WB d;simp only[pO];omega
section
variable {N:Nat} {l:List Int}
def yZ(N:Nat)(l:List Int)(E:(List Int×Int)->Int->List BA->Option ((List Int×Int)×BA))(d:Nat)(ps:List BA):Prop:=
 ∀a:Int,0<=a->a+nG d<2000000000000000000->Ok (E (l,a) (d:Int) ps) fun y=>∃a' s,y=((l,a'),s)/\a<=a'/\a'<=a+nG d/\s.size<=pO d
theorem Ok.expr{β:Type}{Q:β->Prop}{E:(List Int×Int)->Int->List BA->Option ((List Int×Int)×BA)}{d:Nat}{ps:List BA}(n:yZ N l E d ps){a:Int}{f:(List Int×Int)×BA->Option β}(g:0<=a)(k:a+nG d<2000000000000000000)
  (h:∀(a':Int) (s:BA),a<=a'->a'<=a+nG d->s.size<=pO d->Ok (f ((l,a'),s)) Q):Ok ((E (l,a) (d:Int) ps).bind f) Q:=
 Ok.bind (n a g k) fun y o=>by
  obtain⟨a',s,rfl,b,c,e⟩:=o
  exact h a' s b c e
theorem TH(d:Nat)(a:d<=5):nG d<=10000/\pO d<=20000:=by
 match d,a with
 |0,_=>decide
 |1,_=>decide
 |2,_=>decide
 |3,_=>decide
 |4,_=>decide
 |5,_=>decide
set_option maxHeartbeats 4000000 in
theorem qHi{E:(List Int×Int)->Int->List BA->Option ((List Int×Int)×BA)}{d:Nat}{ps:List BA}(g:d=0)(c:ps.length<1000)(b:∀x∈ps,x.size<=12)(e:100<N):yZ N l (xS N E) d ps:=by
 subst g
 intro a n o
 have f:nG 0=8:=rfl
 have k:pO 0=22:=rfl
 simp only[xS,f,k,tM,EH]
 rw[if_pos (show decide (((0:Nat):Int)<=0)=true by decide)]
 repeat' first
  |with_reducible apply Ok.tt
  |with_reducible apply Ok.ff
  |with_reducible apply Ok.ttb
  |with_reducible apply Ok.ffb
  |with_reducible apply Ok.assoc
  |((with_reducible apply Ok.iteb)<;>intro _)
  |((with_reducible apply Ok.ite)<;>intro _)
  |with_reducible apply Ok.someb
  |with_reducible apply Ok.mapb
  |((with_reducible refine Ok.mk ⟨_,_,rfl,?_,?_,?_⟩)<;>omega)
  |((with_reducible refine Ok.next ?_ ?_ ?_ ?_ (fun _ _ _=> ?_))<;>try omega)
  |((with_reducible refine Ok.chance ?_ ?_ ?_ ?_ (fun _=> ?_))<;>try omega)
  |((with_reducible refine Ok.pickS ?_ ?_ (by decide) (fun _ _ _=> ?_))<;>try omega)
  |((with_reducible refine Ok.oneP ?_ ?_ (by assumption) c b (fun _ _=> ?_))<;>try omega)
  |((with_reducible refine Ok.oneS ?_ ?_ (by decide) (fun _ _=> ?_))<;>try omega)
  |((with_reducible refine Ok.digits ?_ ?_ e (fun _ _=> ?_))<;>try omega)
  |((with_reducible refine Ok.cat ?_ (fun _ h=> ?_))<;>simp only[pA,kE,jD,jE,Nat.reduceAdd] at* <;>try omega)
  |((with_reducible refine Ok.cat ?_ (fun _ _=> ?_))<;>try omega)
  |(apply Ok.iteb<;>intro _)
  |dsimp only
 all_goals omega
theorem Ok.pick01{β:Type}{Q:β->Prop}{a:Int}{f:(List Int×Int)×Int->Option β}(b:0<=a)(c:a<4611686018427387904)(h:∀x:Int,x=0\/x=1->Ok (f ((l,a+1),x)) Q):Ok ((tG N (l,a) [0,0,0,1]).bind f) Q:=
 Ok.pick b c (by decide) (by decide) fun x d=>h x (by simp at d;omega)
theorem Ok.exprloop{β:Type}{Q:β->Prop}{E:(List Int×Int)->Int->List BA->Option ((List Int×Int)×BA)}{d:Nat}{ps:List BA}(r:yZ N l E d ps)(x:d<=5){p1:Int}(y:IntKind.wrap .i64 (p1-1)=(d:Int)){s:BA}{n a:Int}{f:BA×List Int×Int->Option β}
  (D:n=0\/n=1) (p:0<=a) (q:a+nG d<2000000000000000000) (F:s.size<=100000000) (B:100<N) (h:∀(s':BA) (a':Int),a<=a'->a'<=a+nG d->s'.size<=s.size+pO d+2->Ok (f (s',l,a')) Q):Ok ((aI (EW N E p1 ps) N (s,n,l,a)).bind f) Q:=by
 have A:=TH d x
 refine Ok.loop (fun st=>∃s' n' a',st=(s',n',l,a')/\((n'=n/\a'=a/\s'=s)\/(n'=0/\a<=a'/\a'<=a+nG d/\s'.size<=s.size+pO d+2))) (fun st=>st.2.1.toNat) (fun b=>∃s' a',b=(s',l,a')/\a<=a'/\a'<=a+nG d/\s'.size<=s.size+pO d+2) ?_ ⟨s,n,a,rfl,.inl ⟨rfl,rfl,rfl⟩⟩ (by simp only;omega) ?_
 .rintro _ ⟨s',n',a',rfl,k⟩
  simp only[EW]
  by_cases hn0:n'>0
  .rw[if_pos (by simpa using hn0),y]
   have k:n'=n/\a'=a/\s'=s:=k.resolve_right fun h=>by omega
   obtain⟨rfl,rfl,rfl⟩:=k
   refine Ok.expr r p q fun o t c e g=> ?_
   refine Ok.cat (by simp only[pA,kE,jD,jE,Nat.reduceAdd];omega) fun u z=> ?_
   simp only[pA,kE,jD,jE,Nat.reduceAdd] at z
   refine Ok.cat (by omega) fun v G=> ?_
   refine Ok.mk ⟨⟨v,_,o,rfl,.inr ⟨by rw[bQ (by omega) (by omega)];omega,c,e,by omega⟩⟩,?_⟩
   simp only
   rw[bQ (by omega) (by omega)]
   omega
  rw[if_neg (by simpa using hn0)]
  refine Ok.mk ⟨s',a',rfl,?_⟩
  rcases k with ⟨_,rfl,rfl⟩|⟨_,c,e,g⟩
  .omega
  exact⟨c,e,g⟩
 rintro _ ⟨s',a',rfl,c,e,g⟩
 exact h s' a' c e g
set_option maxHeartbeats 8000000 in
theorem qHo{E:(List Int×Int)->Int->List BA->Option ((List Int×Int)×BA)}{d:Nat}{ps:List BA}(c:yZ N l E d ps)(s:d<=4)(f:ps.length<1000)(b:∀x∈ps,x.size<=12)(e:100<N):yZ N l (xS N E) (d+1) ps:=by
 intro a q r
 have k:nG (d+1)=3*nG d+8:=rfl
 have n:pO (d+1)=3*pO d+20:=rfl
 have o:=WB d
 have p:=TH d (by omega)
 have g:IntKind.wrap .i64 (((d+1:Nat):Int)-1)=(d:Int):=by rw[bQ (by omega) (by omega)];omega
 simp only[xS,k,n,tM,EH,AA,g]
 repeat' first
  |with_reducible apply Ok.tt
  |with_reducible apply Ok.ff
  |with_reducible apply Ok.ttb
  |with_reducible apply Ok.ffb
  |with_reducible apply Ok.assoc
  |((with_reducible apply Ok.iteb)<;>intro _)
  |((with_reducible apply Ok.ite)<;>intro _)
  |with_reducible apply Ok.someb
  |with_reducible apply Ok.mapb
  |((with_reducible refine Ok.mk ⟨_,_,rfl,?_,?_,?_⟩)<;>omega)
  |((with_reducible refine Ok.next ?_ ?_ ?_ ?_ (fun _ _ _=> ?_))<;>try omega)
  |((with_reducible refine Ok.chance ?_ ?_ ?_ ?_ (fun _=> ?_))<;>try omega)
  |((with_reducible refine Ok.pick01 ?_ ?_ (fun _ _=> ?_))<;>try omega)
  |((with_reducible refine Ok.exprloop c (by omega) g (by assumption) ?_ ?_ ?_ e (fun _ _ _ _ _=> ?_))<;>try omega)
  |((with_reducible refine Ok.expr c ?_ ?_ (fun _ _ _ _ _=> ?_))<;>try omega)
  |((with_reducible refine Ok.pickS ?_ ?_ (by decide) (fun _ _ _=> ?_))<;>try omega)
  |((with_reducible refine Ok.oneP ?_ ?_ (by assumption) f b (fun _ _=> ?_))<;>try omega)
  |((with_reducible refine Ok.oneS ?_ ?_ (by decide) (fun _ _=> ?_))<;>try omega)
  |((with_reducible refine Ok.digits ?_ ?_ e (fun _ _=> ?_))<;>try omega)
  |((with_reducible refine Ok.cat ?_ (fun _ h=> ?_))<;>simp only[pA,kE,jD,jE,Nat.reduceAdd] at* <;>try omega)
  |((with_reducible refine Ok.cat ?_ (fun _ _=> ?_))<;>try omega)
  |(apply Ok.iteb<;>intro _)
  |dsimp only
 all_goals omega
theorem YR:∀(d D:Nat) (ps:List BA),d<D->d<=5->ps.length<1000->(∀x∈ps,x.size<=12)->100<N->yZ N l (FF N D) d ps
 |_,0,_,h,_,_,_,_=>absurd h (kQ _)
 |0,D+1,ps,_,_,a,b,c=>qHi (E:=FF N D) rfl a b c
 |d+1,D+1,ps,h,e,a,b,c=>qHo (YR d D ps (by omega) (by omega) a b c) (by omega) a b c
theorem YC{d:Nat}{ps:List BA}(e:d<=5)(a:ps.length<1000)(b:∀x∈ps,x.size<=12)(c:100<N):yZ N l (xV N) d ps:=YR d N ps (by omega) e a b c
theorem Ok.expr3{β:Type}{Q:β->Prop}{ps:List BA}{a:Int}{f:(List Int×Int)×BA->Option β}(g:100<N)(e:0<=a)(o:a+10000<2000000000000000000)(b:ps.length<=2/\∀x∈ps,x.size<=12)
  (h:∀(a':Int) (s:BA),a<=a'->a'<=a+10000->s.size<=854->Ok (f ((l,a'),s)) Q):Ok ((xV N (l,a) 3 ps).bind f) Q:=
 Ok.expr (d:=3) (YC (by omega) (by omega) b.2 g) e (by have:nG 3=320:=rfl;have:nG 2=104:=rfl;omega) fun a' s c k n=>h a' s c (by have:nG 3=320:=rfl;omega) (by have:pO 3=854:=rfl;omega)
theorem Ok.expr2{β:Type}{Q:β->Prop}{ps:List BA}{a:Int}{f:(List Int×Int)×BA->Option β}(g:100<N)(e:0<=a)(o:a+10000<2000000000000000000)(b:ps.length<=2/\∀x∈ps,x.size<=12)
  (h:∀(a':Int) (s:BA),a<=a'->a'<=a+10000->s.size<=854->Ok (f ((l,a'),s)) Q):Ok ((xV N (l,a) 2 ps).bind f) Q:=
 Ok.expr (d:=2) (YC (by omega) (by omega) b.2 g) e (by have:nG 3=320:=rfl;have:nG 2=104:=rfl;omega) fun a' s c k n=>h a' s c (by have:nG 2=104:=rfl;omega) (by have:pO 2=278:=rfl;omega)
set_option maxHeartbeats 8000000 in
theorem qLz{a:Int}(b:100<N)(c:0<=a)(d:a<1000000000000000000):Ok (AX N (l,a)) fun y=>∃a' s,y=((l,a'),s)/\a<=a'/\a'<=a+10010/\s.size<=890:=by
 simp only[AX,JG,tM,AA]
 repeat' first
  |with_reducible apply Ok.tt
  |with_reducible apply Ok.ff
  |with_reducible apply Ok.ttb
  |with_reducible apply Ok.ffb
  |with_reducible apply Ok.assoc
  |((with_reducible apply Ok.iteb)<;>intro _)
  |((with_reducible apply Ok.ite)<;>intro _)
  |with_reducible apply Ok.someb
  |with_reducible apply Ok.mapb
  |((with_reducible refine Ok.mk ⟨_,_,rfl,?_,?_,?_⟩)<;>omega)
  |((with_reducible refine Ok.next ?_ ?_ ?_ ?_ (fun _ _ _=> ?_))<;>try omega)
  |((with_reducible refine Ok.chance ?_ ?_ ?_ ?_ (fun _=> ?_))<;>try omega)
  |((with_reducible refine Ok.expr3 b ?_ ?_ ?_ (fun _ _ _ _ _=> ?_))<;>first|omega|exact⟨by decide,by decide⟩|skip)
  |((with_reducible refine Ok.expr2 b ?_ ?_ ?_ (fun _ _ _ _ _=> ?_))<;>first|omega|exact⟨by decide,by decide⟩|skip)
  |(with_reducible refine Ok.app (by simp) (by decide) ?_)
  |((with_reducible refine Ok.pickS ?_ ?_ (by decide) (fun _ _ _=> ?_))<;>try omega)
  |((with_reducible refine Ok.oneS ?_ ?_ (by decide) (fun _ _=> ?_))<;>try omega)
  |((with_reducible refine Ok.digits ?_ ?_ b (fun _ _=> ?_))<;>try omega)
  |((with_reducible refine Ok.cat ?_ (fun _ h=> ?_))<;>simp only[pA,kE,jD,jE,Nat.reduceAdd] at* <;>try omega)
  |((with_reducible refine Ok.cat ?_ (fun _ _=> ?_))<;>try omega)
  |(apply Ok.iteb<;>intro _)
  |dsimp only
 all_goals omega
theorem qMh{L:List BA}{x:BA}(a:L.length<1000000)(c:L.length<N):Ok (xW N L x) fun _=>True:=by
 unfold xW
 refine Ok.loop (fun st=>∃j:Nat,st=(j:Int)/\j<=L.length) (fun st=>L.length-st.toNat) (fun _=>True) ?_ ⟨0,rfl,kK _⟩ (by show L.length-(0:Int).toNat<N;omega) ?_
 .rintro _ ⟨j,rfl,d⟩
  simp only[JF]
  by_cases h:j<L.length
  .rw[if_pos (by simpa using h),dX h]
   simp only[j0]
   refine Ok.ite (fun _=>Ok.mk trivial) fun _=>Ok.mk ⟨⟨j+1,by rw[bQ (by omega) (by omega)];omega,by omega⟩,?_⟩
   rw[bQ (by omega) (by omega)];omega
  rw[if_neg (by simpa using h)];exact Ok.mk trivial
 intro b _
 cases b<;>exact Ok.mk trivial
theorem Ok.has{β:Type}{Q:β->Prop}{L:List BA}{x:BA}{f:Bool->Option β}(a:L.length<1000000)(c:L.length<N)(h:∀b,Ok (f b) Q):Ok ((xW N L x).bind f) Q:=Ok.bind (qMh a c) fun b _=>h b
theorem Ok.decl{β:Type}{Q:β->Prop}{a:Int}{f:(List Int×Int)×BA->Option β}(k:100<N)(e:0<=a)(g:a<1000000000000000000)
  (h:∀(a':Int) (s:BA),a<=a'->a'<=a+10010->s.size<=890->Ok (f ((l,a'),s)) Q):Ok ((AX N (l,a)).bind f) Q:=
 Ok.bind (qLz k e g) fun y n=>by
  obtain⟨a',s,rfl,b,c,d⟩:=n
  exact h a' s b c d
theorem qKk{β:Type}{Q:β->Prop}{y:(List Int×Int)×BA}{f:BA->Option β}(d:y.2.size<=890)(a:3000<N)(h:∀s:BA,Ok (f s) Q):Ok ((aI (EL N y) N (y.2,0)).bind f) Q:=by
 refine Ok.loop (fun st=>∃j:Nat,st.2=(j:Int)/\j<=y.2.size) (fun st=>y.2.size-st.2.toNat) (fun _=>True) ?_ ⟨0,rfl,kK _⟩ (by simp only;omega) (fun b _=>h b)
 rintro⟨s,_⟩ ⟨j,rfl,c⟩
 simp only[EL]
 by_cases hlt:j<y.2.size
 .rw[if_pos (by simpa using hlt),WL hlt]
  simp only[j0]
  refine Ok.bind (P:=fun _=>True) (Ok.ite (fun _=>Ok.mk trivial) fun _=>Ok.mk trivial) fun b _=> ?_
  refine Ok.ite (fun _=> ?_) fun _=> ?_
  .rw[FV (by omega) (by omega) (by omega)];exact Ok.mk trivial
  refine Ok.mk ⟨⟨j+1,by simp only;rw[bQ (by omega) (by omega)];omega,by omega⟩,?_⟩
  simp only;rw[bQ (by omega) (by omega)];omega
 rw[if_neg (by simpa using hlt)];exact Ok.mk trivial
theorem UV{a:Int}{pk:BA}(D:3000<N)(A:0<=a)(h1:a<100000000000000000)(hp:pk.size<=12):Ok (AO N (l,a) pk) fun y=>∃a' s,y=((l,a'),s)/\a<=a'/\a'<=a+100000/\s.size<=4700:=by
 simp only[AO]
 refine Ok.cat (by simp only[pA,kE,jD,jE,Nat.reduceAdd];omega) fun s1 q=> ?_
 simp only[pA,kE,jD,jE,Nat.reduceAdd] at q
 refine Ok.cat (by simp only[pA,kE,jD,jE,Nat.reduceAdd];omega) fun s2 u=> ?_
 simp only[pA,kE,jD,jE,Nat.reduceAdd] at u
 refine Ok.chance A (by omega) (by omega) (by omega) fun c=> ?_
 refine Ok.bind (P:=fun s:BA=>s.size<=60) (Ok.ite (fun _=>Ok.cat (by simp only[pA,kE,jD,jE,Nat.reduceAdd];omega) fun s3 h=>Ok.mk (by simp only[pA,kE,jD,jE,Nat.reduceAdd] at h;omega)) fun _=>Ok.mk (by omega)) fun R h=> ?_
 dsimp only
 refine Ok.next (by omega) (by omega) (by omega) (by omega) fun r z g2=> ?_
 dsimp only
 -- imports
 refine Ok.loop (fun st=>∃s L n a',st=(s,L,n,l,a')/\0<=n/\n<=2/\(L.length:Int)+n<=2/\(s.size:Int)<=60+30*(2-n)/\a<=a'/\a'<=a+10+(2-n)) (fun st=>st.2.2.1.toNat) (fun b=>∃s a',b=(s,l,a')/\s.size<=120/\a<=a'/\a'<=a+20) ?_ ⟨R,[],r,a+1+1,rfl,z,by omega,by simp only[jE];omega,by omega,by omega,by omega⟩ (by simp only;omega) ?_
 .rintro _ ⟨s,L,n,a',rfl,F,G,H,K,f,M⟩
  simp only[IU,AL]
  by_cases hn:n>0
  .rw[if_pos (by simpa using hn)]
   refine Ok.assoc (Ok.someb ?_)
   refine Ok.assoc (Ok.oneS (by omega) (by omega) (by decide) fun x E=> ?_)
   dsimp only
   refine Ok.assoc (Ok.bind (P:=fun _=>True) (Ok.ite (fun _=>Ok.has (by omega) (by omega) fun b=>Ok.mk trivial) fun _=>Ok.mk trivial) fun o4 _=> ?_)
   refine Ok.iteb (fun _=> ?_) fun _=> ?_
   .refine Ok.assoc (Ok.app (by simp only[jD,jE];omega) (by decide) ?_)
    refine Ok.assoc (Ok.cat (by simp only[pA,kE,jD,jE,Nat.reduceAdd];omega) fun t1 k=> ?_)
    simp only[pA,kE,jD,jE,Nat.reduceAdd] at k
    refine Ok.assoc (Ok.cat (by simp only[pA,kE,jD,jE,Nat.reduceAdd];omega) fun t2 e=> ?_)
    simp only[pA,kE,jD,jE,Nat.reduceAdd] at e
    refine Ok.assoc (Ok.cat (by omega) fun g v=>Ok.someb (Ok.mk ?_))
    dsimp only
    rw[bQ (by omega) (by omega)]
    exact⟨⟨g,_,_,_,rfl,by omega,by omega,by simp only[jC,jD,jE];omega,by omega,by omega,by omega⟩,by omega⟩
   refine Ok.someb (Ok.mk ?_)
   dsimp only
   rw[bQ (by omega) (by omega)]
   exact⟨⟨s,_,_,_,rfl,by omega,by omega,by omega,by omega,by omega,by omega⟩,by omega⟩
  rw[if_neg (by simpa using hn)]
  exact Ok.mk ⟨s,a',rfl,by omega,f,by omega⟩
 rintro _ ⟨s,p,rfl,q1,q2,q3⟩
 dsimp only
 refine Ok.next (by omega) (by omega) (by omega) (by omega) fun r2 g3 g4=> ?_
 dsimp only
 -- declarations
 refine Ok.loop (fun st=>∃s L n a',st=(s,L,n,l,a')/\0<=n/\n<=5/\(L.length:Int)+n<=5/\(s.size:Int)<=120+890*(5-n)/\a<=a'/\a'<=a+100+10020*(5-n)) (fun st=>st.2.2.1.toNat) (fun b=>∃s a',b=(s,l,a')/\s.size<=4580/\a<=a'/\a'<=a+60000) ?_ ⟨s,[],_,p+1,rfl,by rw[bQ (by omega) (by omega)];omega,by rw[bQ (by omega) (by omega)];omega,by rw[bQ (by omega) (by omega)];simp only[jE];omega,by rw[bQ (by omega) (by omega)];omega,by omega,by rw[bQ (by omega) (by omega)];omega⟩ (by simp only;rw[bQ (by omega) (by omega)];omega) ?_
 .rintro _ ⟨s,L,n,a',rfl,F,G,H,K,f,M⟩
  simp only[IV]
  by_cases hn:n>0
  .rw[if_pos (by simpa using hn)]
   refine Ok.assoc (Ok.decl (by omega) (by omega) (by omega) fun e d v1 v2 U=> ?_)
   refine Ok.assoc (qKk (y:=((l,e),d)) U D fun hd=> ?_)
   dsimp only
   refine Ok.assoc (Ok.bind (P:=fun o:Bool×List Int×Int=>o.2.1=l/\e<=o.2.2/\o.2.2<=e+1) (Ok.has (by omega) (by omega) fun b=>Ok.ite (fun _=>Ok.mk ⟨rfl,by simp only;omega,by simp only;omega⟩) fun _=>Ok.chance (by omega) (by omega) (by omega) (by omega) fun c=>Ok.mk ⟨rfl,by simp only;omega,by simp only;omega⟩) fun S B=> ?_)
   obtain⟨b9,l9,Z⟩:=S
   obtain⟨rfl,V,Y⟩:=B
   dsimp only at V Y ⊢
   refine Ok.iteb (fun _=> ?_) fun _=> ?_
   .refine Ok.assoc (Ok.app (by simp only[jD,jE];omega) (by decide) ?_)
    refine Ok.assoc (Ok.cat (by omega) fun g v=>Ok.someb (Ok.mk ?_))
    dsimp only
    rw[bQ (by omega) (by omega)]
    exact⟨⟨g,_,_,_,rfl,by omega,by omega,by simp only[jC,jD,jE];omega,by omega,by omega,by omega⟩,by omega⟩
   refine Ok.someb (Ok.mk ?_)
   dsimp only
   rw[bQ (by omega) (by omega)]
   exact⟨⟨s,_,_,_,rfl,by omega,by omega,by omega,by omega,by omega,by omega⟩,by omega⟩
  rw[if_neg (by simpa using hn)]
  exact Ok.mk ⟨s,a',rfl,by omega,f,by omega⟩
 rintro _ ⟨s,e,rfl,f,g,v⟩
 dsimp only
 refine Ok.chance (by omega) (by omega) (by omega) (by omega) fun c=> ?_
 dsimp only
 refine Ok.iteb (fun _=> ?_) fun _=> ?_
 .refine Ok.assoc (Ok.oneS (by omega) (by omega) (by decide) fun x E=> ?_)
  dsimp only
  refine Ok.assoc (Ok.cat (by omega) fun t k=>Ok.someb (Ok.mk ?_))
  dsimp only
  refine⟨_,_,rfl,?_,?_,?_⟩<;>omega
 refine Ok.someb (Ok.mk ?_)
 dsimp only
 refine⟨_,_,rfl,?_,?_,?_⟩<;>omega
end
end
section
open Go Go.Dc Go.Proofs
def mnT:BA:=⟨#[112,97,99,107,97,103,101,32,112,59,32,105,109,112,111,114,116,32,113,59,32,116,101,115,116,32,116,32,61,32,102,40,114,101,97,100,40,34,97,46,100,97,116,34,44,32,102,108,105,112,40,48,41,41,41,59]⟩
def mnS:BA:=⟨#[112,97,99,107,97,103,101,32,112,59,10,105,109,112,111,114,116,32,113,59,10,116,101,115,116,32,116,32,61,32,102,40,114,101,97,100,40,34,97,46,100,97,116,34,44,32,102,108,105,112,40,48,41,41,41,59,10]⟩
def DJ(a:Int):List Ex:=[(10,a,0,emB,[]),(6,0,0,⟨#[97,46,100,97,116]⟩,[0]),(3,0,0,⟨#[102]⟩,[1])]
def pX(a:Int):Dl:=(2,⟨#[116]⟩,[],DJ a)
def DG:Sr:=(⟨#[112]⟩,[⟨#[113]⟩],[pX 0])
def mnF:Sr:=(⟨#[112]⟩,[],[(1,⟨#[102]⟩,[],DJ 0)])
theorem mn_p:rO mnT=(DG,0,0):=by kernel_rfl
theorem PR:oL DG=0:=by kernel_rfl
theorem qLy:oL mnF=0:=by kernel_rfl
theorem WJ:∀e∈DJ 0,e.2.2.2.1.size<=1048576/\e.2.2.2.2.length<2000000:=fun e a=>by
 have a:e∈[((10,0,0,emB,[]):Ex),(6,0,0,⟨#[97,46,100,97,116]⟩,[0]),(3,0,0,⟨#[102]⟩,[1])]:=a
 simp only[jV,fA,or_false] at a
 rcases a with rfl|rfl|rfl
 .exact⟨by show 0<=1048576;decide,by decide⟩
 .exact⟨by show 5<=1048576;decide,by decide⟩
 exact⟨by show 1<=1048576;decide,by decide⟩
theorem qOa:SmSr DG:=by
 refine⟨by show 1<2000000;decide,by show 1<2000000;decide,fun d a=> ?_⟩
 have a:d=pX 0:=kL.1 a
 subst a
 exact⟨by show(1:Nat)<=1048576;decide,by show 0<2000000;decide,by show 3<2000000;decide,WJ⟩
theorem qMl:SmSr mnF:=by
 refine⟨by show 0<2000000;decide,by show 1<2000000;decide,fun d a=> ?_⟩
 have a:d=(1,⟨#[102]⟩,[],DJ 0):=kL.1 a
 subst a
 exact⟨by show(1:Nat)<=1048576;decide,by show 0<2000000;decide,by show 3<2000000;decide,WJ⟩
theorem it0:nK 0=⟨#[48]⟩:=oX (by
 rw[show nK 0=nK ((0:Nat):Int) from rfl,tZ,Lib.decDigits_one (by decide)]
 rfl)
theorem mn_w(a:Int):nV (pX a)=((⟨#[102]⟩:BA)++(⟨#[40]⟩:BA)).data.toList++(lH 0 [(((⟨#[114,101,97,100,40,34]⟩:BA)++(⟨#[97,46,100,97,116]⟩:BA))++(⟨#[34,44,32]⟩:BA)).data.toList++((((⟨#[102,108,105,112,40]⟩:BA)++nK a)++(⟨#[41]⟩:BA)).data.toList++[41])]++[41]):=by kernel_rfl
def mnW:List UInt8:=[102,40,114,101,97,100,40,34,97,46,100,97,116,34,44,32,102,108,105,112,40,48,41,41,41]
theorem qOe:nV (pX 0)=mnW:=by
 rw[mn_w,it0]
 rfl
theorem mB{α β:Type}{x:Option α}{v:α}{f:α->Option β}{r:Option β}(h:x=some v)(a:f v=r):Option.bind x f=r:=by
 subst h;exact a
theorem qKo{N:Nat}(a:3000000<N):yI N (DJ 0) []=some (cN mnW,0):=by
 have b:qC N mnF=_:=GD qMl a
 rw[qLy] at b
 obtain⟨c,-,d,-⟩:=(yT PR).decs (pX 0) (kL.2 rfl)
 have e:yG N (DJ 0) []=some (cN (nV (pX 0)),(HI (pX 0):Int)):=(OM c d a).1
 unfold yI
 refine mB (show qC N mnF=some 0 from b) ?_
 refine Eq.trans (if_neg (by decide)) ?_
 refine mB e ?_
 rw[qOe]
theorem ZC{N:Nat}{f:Sr}(h:GoodS f)(o:3000000<N){t0:List UInt8}(q:t0.length<=100):aI (xZ N f) N (0,t0)=some (t0++f.2.1.flatMap mS)/\(t0++f.2.1.flatMap mS).length<=600:=by
 have p:=h.impn
 have b:∀s∈f.2.1,(mS s).length<=40:=fun s e=>by
  have:=nA (h.imps s e)
  have g:(⟨#[105,109,112,111,114,116,32]⟩:BA).size=7:=rfl
  have k:(⟨#[59,10]⟩:BA).size=2:=rfl
  unfold mS
  simp only[eD,ByteArray.size_append];omega
 constructor
 .have a:=oK (L:=f.2.1) (fun(t:List UInt8) (i:Nat)=>((i:Int),t)) (f:=xZ N f)
   (fun t s=> .inl (t++mS s)) (fun t=>t) (fun i t=>t.length<=100+40*i) (by
    intro t i hi c
    have n:=nA (h.imps _ (jR hi))
    simp only[xZ]
    rw[if_pos (by simp only[jA];omega),dX hi]
    have ew:IntKind.wrap .i64 ((i:Int)+1)=((i+1:Nat):Int):=by rw[bQ (by omega) (by omega)];omega
    have g:(⟨#[105,109,112,111,114,116,32]⟩:BA).size=7:=rfl
    have k:(⟨#[59,10]⟩:BA).size=2:=rfl
    simp only[j0]
    rw[cR (by omega)]
    simp only[j0]
    rw[cR (by rw[ByteArray.size_append];omega)]
    simp only[j0]
    rw[mG (by simp only[eD,ByteArray.size_append];omega)]
    simp only[j0,ew]
    rfl) (by
    intro t i hi t' c d
    cases d
    have:=b _ (jR hi)
    simp only[jC];omega) (by
    intro t c
    simp only[xZ]
    rw[if_neg (by simp)]) (M:=N) (t:=t0) (by omega) (by omega)
  rw[show((0:Nat):Int)=0 from rfl] at a
  rw[a,OQ (fun t s=>t++mS s) (fun _ _=>rfl),NG]
 have:∀l:List BA,(∀s∈l,(mS s).length<=40)->(l.flatMap mS).length<=40*l.length:=fun l=>by
  induction l with
  |nil=>intro _;exact kK _
  |cons s l d=>
   intro a
   have g:=a s (jS ..)
   have k:=d fun x c=>a x (jX _ c)
   simp only[kZ,jC,jD];omega
 have:=this _ b
 rw[jC];omega
theorem qLi{N:Nat}(a:3000000<N):oJ N DG 0=some (mnS,0):=by
 have b:qC N DG=_:=GD qOa a
 rw[PR] at b
 unfold oJ
 refine mB b ?_
 refine Eq.trans (if_neg (by decide)) ?_
 refine mB (v:=false) rfl ?_
 refine Eq.trans (if_neg (by decide)) ?_
 refine mB (v:=pX 0) rfl ?_
 refine mB (qKo a) ?_
 refine Eq.trans (if_neg (by decide)) ?_
 refine mB (v:=(⟨#[112,97,99,107,97,103,101,32,112]⟩:BA)) rfl ?_
 refine mB (v:=(⟨#[112,97,99,107,97,103,101,32,112,59,10]⟩:BA)) rfl ?_
 refine mB (v:=([112,97,99,107,97,103,101,32,112,59,10]:List UInt8)) rfl ?_
 refine mB (v:=([112,97,99,107,97,103,101,32,112,59,10,105,109,112,111,114,116,32,113,59,10]:List UInt8)) ?_ ?_
 .exact(ZC (yT PR) a (t0:=([112,97,99,107,97,103,101,32,112,59,10]:List UInt8)) (by decide)).1
 refine mB (v:=([112,97,99,107,97,103,101,32,112,59,10,105,109,112,111,114,116,32,113,59,10,116,101,115,116,32,116,32,61,32]:List UInt8)) rfl ?_
 rfl
theorem qNr(M:Nat):JP (M+100) (pX 0)=some [⟨#[102]⟩]:=by kernel_rfl
theorem qNo(M:Nat):JM (M+100) (pX 0)=some [⟨#[97,46,100,97,116]⟩]:=by kernel_rfl
theorem qNs(M:Nat):JO (M+100) (pX 0)=some true:=by kernel_rfl
theorem qIm{N:Nat}(e:3000000<N):FD N=some true:=by
 have d:vG N mnT=some (DG,0,0):=by rw[MZ _ (by omega),mn_p]
 obtain⟨M,rfl⟩:∃M,N=M+100:=⟨N-100,by omega⟩
 have a:=qNr M
 have b:=qNo M
 have c:=qNs M
 unfold FD
 refine mB d ?_
 refine Eq.trans (if_neg (by decide)) ?_
 refine mB (qLi e) ?_
 refine mB (v:=pX 0) rfl ?_
 refine mB (v:=pX 0) rfl ?_
 refine mB a ?_
 refine mB b ?_
 refine mB (v:=true) ?_ rfl
 refine Eq.trans (if_pos rfl) (Eq.trans (if_pos (kS mnS.toList)) (Eq.trans (if_pos rfl) ?_))
 refine mB (v:=(⟨#[102]⟩:BA)) rfl ?_
 refine Eq.trans (if_pos (kS (⟨#[102]⟩:BA).toList)) (Eq.trans (if_pos rfl) ?_)
 refine mB (v:=(⟨#[97,46,100,97,116]⟩:BA)) rfl ?_
 refine Eq.trans (if_pos (kS (⟨#[97,46,100,97,116]⟩:BA).toList)) ?_
 refine mB (v:=pX 0) rfl ?_
 refine mB c ?_
 rfl
end
end Go.Proofs.YthiiggmmmoolbaaGreatDoor
