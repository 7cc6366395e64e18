/- No condition but those of each theorem. -/
import Derived.Test.YteclmpmonbnooaaGreatDoorProg
import Derived.WalkKit
import Derived.Deep.LoopGhost
import Derived.KernelRfl
import Derived.OrdersHeld
import Derived.OrdersIn
import Derived.LoopNIn
import Derived.Sort.LoopGhostIn
import Derived.Laws.AppendOwn
import Derived.RangeFuncLeaves
import Derived.RangeFuncRecord
import Derived.MapKept
import Derived.Maps.RangeRun
import Derived.ChangeKeysEq
import Derived.HandedShaped
import Derived.ChangeStays
import Derived.ChangeSame
import Derived.OpenShut
import Derived.WideShapes
import Derived.JoinedOf
import Derived.ReadAgain
import Derived.ChangeAt
import Derived.RowKit
import Derived.Lib.Overlaps
import Derived.Shelf.SlSortCmp.NoneTotal
import Derived.WalkSmall
import Derived.Recover
import Derived.Lib.Bytealg
import Derived.Lib.ItoaNum
import Derived.Test.YteclmpmonbnooaaGreatDoorK5l1
namespace Go.Proofs.YteclmpmonbnooaaGreatDoor
section
open Go Go.Dc Go.Proofs
def oB(L:List bS)(env:rJ)(w:Int)(P T:BA):Eo Int:=pT (ev (mJ L env w) 20001) 0 (nM L (bT L 2 P T)) [] ([(2,P,T)],0,false)
def qQd(o:Eo Int):Int×Int×Int:=match o.2 with
 | .inr v=>if v=0 then(2,0,0) else(1,v,0)
 | .inl e=>(3,0,e)
def BC(o:Eo Int):Rrn:=(qQd o,o.1.2.2,pX o.1.1,(o.1.2.1:Int))
section
variable {N:Nat} {L:List bS} {env:rJ} {w:Int} {P T:BA}
theorem qNx(H:Wrr N L env)(b:zX N env=some true)(a:(bT L 2 P T).2.2.2.2.2≠1):yR N L env w (P,T)=some (((0,0,0),false,[],0),18):=by
 have c:=H.hN
 unfold yR
 rw[EG (show 100<N by omega),H.hc,j0,if_neg ac,b,j0,j0,if_neg ac,show HH N L 2 P T=_ from qFb 2 P T aa,j0,if_pos (by simpa using a)]
theorem zDy(H:Wrr N L env){k:Int}{p n:BA}(q:(bT L k p n).2.2.2.2.2=1):∃i:Int,SI N L (bT L k p n)=some ((nM L (bT L k p n)).1,i,true)/\aO (nM L (bT L k p n)).1.2.2 i=some (nM L (bT L k p n)).2:=by
 have F:=H.hN
 have a:=H.hc
 have e:bT L k p n=nF (oK (oJ L)) k p n:=by unfold bT;rw[if_pos a]
 obtain⟨o,z,G,b⟩:=qOd (O:=oK (oJ L)) (k:=k) (p:=p) (n:=n) (by rw[<-e,q];decide)
 obtain⟨f,s,g,j,d,x,rfl⟩:=qIz z
 unfold JH at b
 rw[<-e] at b
 simp only[Prod.mk.injEq] at b
 obtain⟨E,t,u,h,l⟩:=b
 obtain⟨⟨i,c,f1'⟩,-,-⟩:=EY a q
 have A:(f.1,(lD f.2).1)∈eG L:=by
  rw[UF a]
  exact gL.2 ⟨f,gQ.2 ⟨s,g⟩,rfl⟩
 have v:tE (eG L) (bT L k p n).2.2.2.1 (bT L k p n).2.2.2.2.1=((lD f.2).1,(j:Int)):=by
  rw[h,l]
  unfold tE
  rw[NA (qGo a) _ A]
 obtain⟨ht,rfl⟩:(lD f.2).1=(nM L (bT L k p n)).1/\(j:Int)=i:=by
  rw[v] at c
  exact⟨congrArg (·.1) c,congrArg (·.2) c⟩
 obtain⟨y,r⟩:=List.getElem?_eq_some_iff.1 x
 refine⟨(j:Int),?_,f1'⟩
 unfold SI
 obtain⟨B,D⟩:=qKu a s
 rw[h,qEq aa,j0,B,g,D g,<-ht,l]
 rw[if_neg ac,if_neg (show ¬decide ((j:Int)<0)=true by simp),if_neg (show ¬decide ((j:Int)>=((lD f.2).1.2.2.length:Int))=true by simp only[j7];omega),cQ y,j0,r]
 rw[if_neg (show ¬(d.1 !=(bT L k p n).2.2.1)=true by rw[u];simp),j0,t]
 simp
theorem qAq(H:Wrr N L env)(u:zX N env=some true)(d:(bT L 2 P T).2.2.2.2.2=1):yR N L env w (P,T)=some (BC (oB L env w P T),0):=by
 have x:=H.hN
 obtain⟨M,rfl⟩:∃M,N=M+70000:=⟨N-70000,by omega⟩
 obtain⟨i,l,p⟩:=zDy H d
 obtain⟨-,g,q⟩:=EY H.hc d
 have f:(nM L (bT L 2 P T)).2.2.2.1=[]:=g.1.2.2.2 (by rw[q];decide)
 unfold yR
 rw[EG aa,H.hc,j0,if_neg ac,u,j0,j0,if_neg ac,show HH (M+70000) L 2 P T=_ from qFb 2 P T aa,j0,if_neg (by simp[d]),l,j0,XF aa,j0]
 rw[show pR (M+70000) (L,((eG L).map (·.1),(eG L).map (·.2)),env,w,((0,0,0),false,[],0),0,0) [(2,(P,T).1,(P,T).2)]=_ from xB (L:=L) (env:=env) (w:=w) (s:=([],0,false)) (e:=0) (b:=0) x (by show 0<=300000;omega) [(2,P,T)] (by show 1<=9;decide),j0]
 have y:=ZJ (N:=M+70000) (L:=L) (env:=env) (w:=w) (n:=20001) (D:=M+69999) (a:=0) (s:=([(2,P,T)],0,false)) (t:=nM L (bT L 2 P T)) (vs:=[]) (qQa H H.env.2 20001) (k:=i) ⟨jW _,by show 20000<0+20001;decide⟩ (by show 1<=10*0+1;decide) aa ac p g (by rw[f];rfl) (fun v A=>by cases A)
 have key:∀(o:Eo Int) (r:Option (zS×Int)),RelR 0 o r->(r.bind fun c=>(if(c.1.2.1 !=0)then some ((3:Int),(0:Int),c.1.2.1) else if(c.2==0)then some (2,0,0) else some (1,c.2,0):Option (Int×Int×Int)).bind fun o2=>some ((o2,c.1.1.2.1,c.1.1.2.2.1,c.1.1.2.2.2),(0:Int)))=some (BC o,0):=fun o r h=>by
  obtain⟨s,e|v⟩:=o
  .obtain⟨z,v,h⟩:=h
   rw[h,j0,if_pos (show(e !=0)=true by simpa using z)];rfl
  obtain⟨h,-⟩:=h
  rw[h,j0,if_neg (show ¬((0:Int) !=0)=true by decide)]
  unfold BC qQd
  dsimp only
  by_cases h0:v=0
  .rw[if_pos (show(v==0)=true by simp[h0]),if_pos h0];rfl
  rw[if_neg (show ¬(v==0)=true by simpa using h0),if_neg h0];rfl
 exact key _ _ y
def Kg(k:Ky):Prop:=rB k=true/\1<=k.1/\k.1<=5
def Kgs(s:Es):Prop:=∀k∈s.1,Kg k
theorem Kgs.see{s:Es}{l:List Ky}(h:Kgs s)(b:∀k∈l,Kg k):Kgs (lJ s l):=fun k a=>by
 rcases kJ.1 a with a|a
 .exact h k a
 exact b k a
theorem Kgs.bE{α β:Type}{o:Eo α}{k:α->Es->Eo β}(h:Kgs o.1)(a:∀v u,o.2= .inr v->Kgs u->Kgs (k v u).1):Kgs (bE o k).1:=by
 obtain⟨u,e|v⟩:=o
 .exact h
 exact a v u rfl h
theorem qGg{E:BA->mX}{nm:BA}(c:iR nm=true):∀(l:List BA) (acc:List K3),(∀p∈l,iR p=true)->(∀k∈acc,Kg k)->∀k∈(nC E nm l acc).2.1,Kg k
 |[],acc,_,h=>h
 |p::l,acc,d,h=>by
  have b:∀k∈acc++[(1,p,nm)],Kg k:=fun k a=>by
   rcases kJ.1 a with a|a
   .exact h k a
   rw[jL.1 a]
   refine⟨?_,by show(1:Int)<=1;decide,by show(1:Int)<=5;decide⟩
   unfold rB
   rw[if_pos (.inl rfl),d p (jF ..),c];rfl
  unfold nC
  split
  .exact qGg c l _ (fun q e=>d q (jH _ e)) b
  split
  .exact b
  exact b
theorem YE(L:List bS){p:BA}(b:iF p.data.toList=true):∀k∈(nY L p).1,Kg k:=by
 have h:∀i:Int,i=3\/i=4->Kg (i,p,⟨#[]⟩):=fun i hi=>by
  refine⟨?_,by show(1:Int)<=i;omega,by show i<=(5:Int);omega⟩
  unfold rB
  rw[if_neg (show ¬(i=1\/i=2) by omega),if_pos (show i=3\/i=4 from hi),b];rfl
 unfold nY
 intro k a
 split at a
 .rw[jL.1 a];exact h 4 (.inr rfl)
 rcases jJ.1 a with rfl|a
 .exact h 4 (.inr rfl)
 rw[jL.1 a];exact h 3 (.inl rfl)
theorem qMh(B:lB L=0):∀n (a:Nat) (t:Aa) (vs:List Int) (i:Int) (s:Es),BK t->Kgs s->Kgs (ev (mJ L env w) n a t vs i s).1
 |0,_,_,_,_,_,_,h=>h
 |n+1,a,t,vs,i,s,e,h=>by
  have r:=qMh B n
  have v:∀(t:Aa) (us:List Int) (s:Es),BK t->Kgs s->Kgs (pT (ev (mJ L env w) n) a t us s).1:=fun t us s e h=>by
   unfold pT
   split
   .exact h
   exact r _ _ _ _ _ e h
  have F:∀(l:List Int) (s:Es),Kgs s->Kgs (uI (ev (mJ L env w) n a t vs) l s).1:=fun l=>by
   induction l with
   |nil=>exact fun _ h=>h
   |cons i l il=>exact fun s h=>Kgs.bE (r _ _ _ _ _ e h) fun _ u _ c=>Kgs.bE (il u c) fun _ _ _ c=>c
  have y:∀p u,(nY L p).2= .inr (.inr u)->BK u:=fun p u c=>by
   unfold nY at c
   split at c
   .cases c
   split at c
   .cases c
   split at c
   .cases c
   cases c
   exact(EY B (by have:=vV L 3 lE p;omega)).2.1
  unfold ev
  split
  .exact h
  split
  .exact h
  rename_i x hx
  have g:Kgs (s.1,s.2.1+1,s.2.2):=h
  have H:=e.1.1.1 _ x hx
  have A:∀k:Int,k=6\/k=7\/k=8->Zk k x.2.2.2.1->iF x.2.2.2.1.data.toList=true:=fun k z h=>by unfold Zk at h;rwa[if_neg aa] at h
  unfold yH
  rcases H with ⟨d,-⟩|⟨d,-⟩|⟨d,f,-,-⟩|⟨d,-⟩|⟨d,-⟩|⟨d,f,-⟩|⟨d,f⟩|⟨d,-⟩
  .rw[if_pos d];exact g
  .rw[if_neg aa,if_pos d];exact g
  .rw[if_neg aa,if_neg aa,if_pos d,show(mJ L env w).cl t.1 x.2.2.2.1=_ from if_neg (by have:=e.2.1;omega)]
   have G:=qGg (E:=fun p=>bT L 1 p x.2.2.2.1) (Zk3 f) (t.1.1::t.1.2.1) [] (fun p D=>by
    rcases jJ.1 D with rfl|D
    .exact e.2.2.1
    exact e.2.2.2 p D) (fun k z=>by cases z)
   refine Kgs.bE (o:=(lJ _ _,_)) (Kgs.see g G) fun u s c q=>Kgs.bE (F _ s q) fun us s _ q=> ?_
   split
   .refine v u us s ?_ q
    unfold wH at c
    dsimp only at c
    split at c
    .rename_i h0
     cases c
     obtain⟨p,K,M⟩:=(UD (E:=fun p=>bT L 1 p x.2.2.2.1) (nm:=x.2.2.2.1) (fun p=>vV L 1 p _) (t.1.1::t.1.2.1) []).1 h0
     rw[K]
     exact(EY B M).2.1
    cases c
   exact q
  .rw[if_neg aa,if_neg aa,if_neg aa,if_pos d]
   exact Kgs.bE (r _ _ _ _ _ e g) fun _ u _ c=>Kgs.bE (r _ _ _ _ _ e c) fun _ _ _ c=>c
  .rw[if_neg aa,if_neg aa,if_neg aa,if_neg aa,if_pos d]
   exact Kgs.bE (r _ _ _ _ _ e g) fun _ u _ c=>r _ _ _ _ _ e c
  .rw[if_neg aa,if_neg aa,if_neg aa,if_neg aa,if_neg aa,if_pos d]
   refine Kgs.bE (o:=(lJ _ (nY L x.2.2.2.1).1,(nY L x.2.2.2.1).2)) (Kgs.see g (YE L (A 6 (.inl rfl) f))) fun u s c q=>Kgs.bE (r _ _ _ _ _ e q) fun i s _ q=> ?_
   cases u with
   |inl b=>dsimp only;split<;>exact q
   |inr u=>
    dsimp only
    split
    .exact Kgs.bE (v u _ s (y _ u c) q) fun _ _ _ c=>c
    exact q
  .rcases d with d|d|d
   .rw[if_neg aa,if_neg aa,if_neg aa,if_neg aa,if_neg aa,if_neg aa,if_pos d]
    exact Kgs.bE (o:=(lJ _ (nY L x.2.2.2.1).1,(nY L x.2.2.2.1).2)) (Kgs.see g (YE L (A _ aa f))) fun _ _ _ c=>c
   .rw[if_neg aa,if_neg aa,if_neg aa,if_neg aa,if_neg aa,if_neg aa,if_neg aa,if_pos d]
    exact Kgs.see g (YE L (A _ aa f))
   rw[if_neg aa,if_neg aa,if_neg aa,if_neg aa,if_neg aa,if_neg aa,if_neg aa,if_neg aa,if_pos d]
   refine Kgs.see g fun k z=> ?_
   rw[jL.1 z]
   rw[d] at f
   refine⟨?_,by show(1:Int)<=5;decide,by show(5:Int)<=5;decide⟩
   unfold Zk at f
   rw[if_pos (.inr rfl)] at f
   unfold rB
   rw[if_neg (by show ¬((5:Int)=1\/(5:Int)=2);decide),if_neg (by show ¬((5:Int)=3\/(5:Int)=4);decide),if_pos (.inl rfl),f];rfl
  rw[if_neg aa,if_neg aa,if_neg aa,if_neg aa,if_neg aa,if_neg aa,if_neg aa,if_neg aa,if_neg aa]
  exact g
theorem qWt(a:lB L=0)(b:(bT L 2 P T).2.2.2.2.2=1)(c:iR P=true)(d:iR T=true):Kgs (oB L env w P T).1:=by
 have f:Kgs ([(2,P,T)],0,false):=fun k e=>by
  rw[jL.1 e]
  refine⟨?_,by show(1:Int)<=2;decide,by show(2:Int)<=5;decide⟩
  unfold rB
  rw[if_pos (.inr rfl),c,d];rfl
 unfold oB pT
 rw[if_neg ac]
 exact qMh a _ _ _ _ _ _ (EY a b).2.1 f
end
section
variable {N:Nat}
theorem qZz{f:Sr}(h:BO f)(b:zD f=0)(a:3000000<N){i:Nat}(hi:i<f.2.2.length):HG N f (i:Int)=some (eJ (CZ f f.2.2[i]),0)/\(CZ f f.2.2[i]).length<=40000:=by
 have d:=UB b
 have c:=OE d _ (jM hi)
 obtain⟨g,k⟩:=qKp d a
 have l:=qJn c
 refine⟨?_,by unfold CZ;rw[jB];omega⟩
 unfold HG
 rw[show LT N (f.1,f.2.1,f.2.2)=_ from qIe h a,b]
 simp only[j0]
 rw[if_neg ac]
 have e:(if(decide ((i:Int)<0))then(some true) else(some (decide ((i:Int)>=(List.length f.2.2:Int)))):Option (Bool))=some false:=by
  rw[if_neg ad,jX aa]
 rw[e]
 simp only[j0]
 rw[if_neg ac,cQ hi]
 simp only[j0]
 rw[show MB N (f.1,f.2.1,f.2.2)=_ from g]
 simp only[j0]
 rw[show MA N (f.2.2[i].1,f.2.2[i].2.1,f.2.2[i].2.2.1,f.2.2[i].2.2.2)=some (eJ (rY f.2.2[i])) from qKz c a]
 simp only[j0]
 rw[lA (by rw[mG,mG];omega),NP]
 rfl
end
theorem ZS{f:bS}(a:uH f=true):zD (lD f.2).1=0/\∀d∈(lD f.2).1.2.2,vH d<=32:=by
 have h:lD f.2=((lD f.2).1,0,0):=by
  have h:=qKf a
  generalize f.2=s at h ⊢
  unfold lD at h ⊢
  split at h
  .rename_i h0;exact absurd h h0
  rename_i h0
  rw[if_neg h0]
  split at h
  .rename_i z hz;exact absurd h (qBd z hz)
  rfl
 exact⟨(qIr h).1,(qIr h).2.1⟩
def Gt(t t':Aa):Prop:=t'.1.1=t.1.1/\t'.1.2.1=t.1.2.1/\t'.2=t.2
theorem qIa{a b:List UInt8}(h:eJ a=eJ b):a=b:=by rw[<-rU a,<-rU b,h]
section
variable {N:Nat} {L L':List bS} {env:rJ} {w:Int}
def vK(L:List bS)(k:Int)(p n:BA):List UInt8:=
 if(bT L k p n).2.2.2.2.2=0 then[45] else if 1<(bT L k p n).2.2.2.2.2 then[63] else 61::CZ (nM L (bT L k p n)).1 (nM L (bT L k p n)).2
theorem qAx(c:lB L=0){k:Int}{p n:BA}(b:(bT L k p n).2.2.2.2.2=1):∃(f:bS) (j:Nat) (a:j<(lD f.2).1.2.2.length),uH f=true/\tE (eG L) (bT L k p n).2.2.2.1 (bT L k p n).2.2.2.2.1=((lD f.2).1,(j:Int))/\nM L (bT L k p n)=((lD f.2).1,(lD f.2).1.2.2[j]):=by
 obtain⟨f,j,d,o,g,a,l,e⟩:=qKy c b
 obtain⟨h,rfl⟩:=List.getElem?_eq_some_iff.1 a
 refine⟨f,j,h,g,e,?_⟩
 unfold nM
 rw[e,jQ,jS,a];rfl
theorem XK(a:lB L=0)(b:3000000<N)(k:Int)(p n:BA):tT N (eW (eG L)) k p n=some (eJ (vK L k p n)):=by
 unfold tT vK
 rw[qLl a aa,j0]
 have g:=vV L k p n
 by_cases h0:(bT L k p n).2.2.2.2.2=0
 .rw[if_pos (by simpa using h0),if_pos h0];rfl
 rw[if_neg (by simpa using h0),if_neg h0]
 by_cases h1:1<(bT L k p n).2.2.2.2.2
 .rw[if_pos (jR h1),if_pos h1];rfl
 rw[if_neg (by simpa using h1),if_neg h1]
 obtain⟨f,j,d,c,e,et⟩:=qAx a (k:=k) (p:=p) (n:=n) aa
 obtain⟨t1,t2⟩:=qZz (N:=N) (qPm (qJo f.2)) (ZS c).1 b d
 rw[HZ (AH L).1 aa,j0,e]
 dsimp only
 rw[t1,j0,et]
 dsimp only
 have z:(⟨#[61]⟩:BA)=eJ [61]:=rfl
 rw[z,lA (by rw[mG,mG];simp only[jC,jD];omega),NP]
 rfl
theorem XT(g:lB L=0)(hc':lB L'=0){k:Int}{p n:BA}(h:vK L k p n=vK L' k p n):
  ((bT L' k p n).2.2.2.2.2=0↔(bT L k p n).2.2.2.2.2=0)/\(1<(bT L' k p n).2.2.2.2.2↔1<(bT L k p n).2.2.2.2.2)/\((bT L k p n).2.2.2.2.2=1->Gt (nM L (bT L k p n)) (nM L' (bT L' k p n))):=by
 have q:=vV L k p n
 have hp':=vV L' k p n
 unfold vK at h
 by_cases a0:(bT L k p n).2.2.2.2.2=0
 .rw[if_pos a0] at h
  by_cases b0:(bT L' k p n).2.2.2.2.2=0
  .exact⟨by omega,by omega,by omega⟩
  rw[if_neg b0] at h
  split at h<;>exact absurd (List.cons.inj h).1 ac
 rw[if_neg a0] at h
 by_cases a1:1<(bT L k p n).2.2.2.2.2
 .rw[if_pos a1] at h
  by_cases b0:(bT L' k p n).2.2.2.2.2=0
  .rw[if_pos b0] at h;exact absurd (List.cons.inj h).1 ac
  rw[if_neg b0] at h
  by_cases b1:1<(bT L' k p n).2.2.2.2.2
  .exact⟨by omega,by omega,by omega⟩
  rw[if_neg b1] at h;exact absurd (List.cons.inj h).1 ac
 rw[if_neg a1] at h
 by_cases b0:(bT L' k p n).2.2.2.2.2=0
 .rw[if_pos b0] at h;exact absurd (List.cons.inj h).1 ac
 rw[if_neg b0] at h
 by_cases b1:1<(bT L' k p n).2.2.2.2.2
 .rw[if_pos b1] at h;exact absurd (List.cons.inj h).1 ac
 rw[if_neg b1] at h
 refine⟨by omega,by omega,fun _=> ?_⟩
 have b:=(List.cons.inj h).2
 obtain⟨f,j,a,l,-,et⟩:=qAx g (k:=k) (p:=p) (n:=n) aa
 obtain⟨f',j',hj',hg',-,et'⟩:=qAx hc' (k:=k) (p:=p) (n:=n) aa
 rw[et,et'] at b ⊢
 obtain⟨s1,o⟩:=ZS l
 obtain⟨s1',s2'⟩:=ZS hg'
 obtain⟨c,d,e⟩:=apart (UB s1) (UB s1') (jM a) (jM hj') (o _ (jM a)) (s2' _ (jM hj')) b
 exact⟨c.symm,d.symm,e.symm⟩
def tO(N:Nat)(L L':List bS)(env:rJ)(k:Ky):Prop:=nS N L (eW (eG L)) env k=nS N L' (eW (eG L')) env k
theorem qOh(c:lB L=0)(hc':lB L'=0)(a:3000000<N){k:Ky}(b:k.1=1\/k.1=2)(h:tO N L L' env k):vK L k.1 k.2.1 k.2.2=vK L' k.1 k.2.1 k.2.2:=by
 unfold tO at h
 rw[NR (N:=N) a b,NR (N:=N) a b,XK c a,XK hc' a] at h
 exact qIa (kG h)
theorem zFq(c:lB L=0)(hc':lB L'=0)(b:3000000<N){p e:BA}(h:tO N L L' env (3,p,e)):vK L 3 lE p=vK L' 3 lE p:=by
 have key:∀M:List bS,lB M=0->nS N M (eW (eG M)) env (3,p,e)=some (eJ (vK M 3 lE p)):=fun M a=>by
  unfold nS
  dsimp only
  rw[if_neg ac,if_neg ac,if_pos ac,show tT N (eW (eG M)) 3 (⟨#[]⟩:BA) p=_ from XK a b 3 lE p];rfl
 unfold tO at h
 rw[key L c,key L' hc'] at h
 exact qIa (kG h)
theorem zDm(f:lB L=0)(hc':lB L'=0)(g:3000000<N){p e:BA}(h:tO N L L' env (4,p,e)):mH L' p=mH L p:=by
 have key:∀M:List bS,lB M=0->nS N M (eW (eG M)) env (4,p,e)=some (match mH M p with|some b=>⟨#[61]⟩++b|none=>⟨#[45]⟩):=fun M d=>by
  unfold nS
  dsimp only
  rw[if_neg ac,if_neg ac,if_neg ac,if_pos ac,HR p (show 100<N by omega)]
  simp only[j0,pN,if_pos d]
  cases hg:mH M p with
  |none=>rfl
  |some b=>
   have a:b.size<=16384:=((yW.1 d).2.2 _ (ZE hg)).2
   show((bG (⟨#[61]⟩:BA) b).bind fun s1=>some s1)=_
   rw[lA (by show 1+b.size<=_;omega)];rfl
 unfold tO at h
 rw[key L f,key L' hc'] at h
 have h:=kG h
 have c:∀b:BA,((⟨#[61]⟩:BA)++b).data.toList=61::b.data.toList:=fun b=>by simp
 cases h1:mH L p with
 |none=>cases a:mH L' p with
  |none=>rfl
  |some b=>
   rw[h1,a] at h
   have:=congrArg (fun x:BA=>x.data.toList) h
   rw[c] at this
   exact absurd (List.cons.inj this).1 ac
 |some b=>cases a:mH L' p with
  |none=>
   rw[h1,a] at h
   have:=congrArg (fun x:BA=>x.data.toList) h
   rw[c] at this
   exact absurd (List.cons.inj this).1 ac
  |some b'=>
   rw[h1,a] at h
   have:=congrArg (fun x:BA=>x.data.toList) h
   rw[c,c] at this
   have e:=(List.cons.inj this).2
   rw[show b=b' from ByteArray.ext (Array.ext' e)]
def PV(N:Nat)(L L':List bS)(env:rJ)(s:Es):Prop:=∀k∈s.1,tO N L L' env k
theorem qGb{E:BA->mX}{nm:BA}:∀(l:List BA) (acc:List K3),∀k∈acc,k∈(nC E nm l acc).2.1
 |[],_,_,h=>h
 |p::l,acc,k,h=>by
  unfold nC
  split
  .exact qGb l _ k (kE _ h)
  split
  .exact kE _ h
  exact kE _ h
theorem qIj(a:lB L=0)(hc':lB L'=0)(d:3000000<N){nm:BA}:∀(l:List BA) (acc:List K3),(∀k∈(nC (fun p=>bT L 1 p nm) nm l acc).2.1,tO N L L' env k)->
  (nC (fun p=>bT L' 1 p nm) nm l acc).2=(nC (fun p=>bT L 1 p nm) nm l acc).2/\((nC (fun p=>bT L 1 p nm) nm l acc).2.2=0->Gt (nM L (nC (fun p=>bT L 1 p nm) nm l acc).1) (nM L' (nC (fun p=>bT L' 1 p nm) nm l acc).1))
 |[],_,_=>⟨rfl,fun h=>absurd h (by show ¬((11:Int)=0);decide)⟩
 |p::l,acc,h=>by
  have n:tO N L L' env (1,p,nm):=h _ (by
   unfold nC
   split
   .exact qGb l _ _ (kW _ (jL.2 rfl))
   split
   .exact kW _ (jL.2 rfl)
   exact kW _ (jL.2 rfl))
  have f:vK L 1 p nm=vK L' 1 p nm:=qOh a hc' d (.inl rfl) n
  obtain⟨b,c,e⟩:=XT a hc' f
  have o:=vV L 1 p nm
  unfold nC at h ⊢
  by_cases c0:(bT L 1 p nm).2.2.2.2.2=0
  .rw[if_pos c0] at h
   rw[if_pos c0,if_pos (b.2 c0)]
   exact qIj a hc' d l _ h
  rw[if_neg c0,if_neg fun g=>c0 (b.1 g)]
  by_cases c1:1<(bT L 1 p nm).2.2.2.2.2
  .rw[if_pos c1,if_pos (c.2 c1)]
   exact⟨rfl,fun h=>absurd h (by show ¬((12:Int)=0);decide)⟩
  rw[if_neg c1,if_neg fun g=>c1 (c.1 g)]
  exact⟨rfl,fun _=>e aa⟩
theorem zBv(a:lB L=0)(hc':lB L'=0)(d:3000000<N){P T:BA}(u:(bT L 2 P T).2.2.2.2.2=1)(q:PV N L L' env (oB L env w P T).1):
  (bT L' 2 P T).2.2.2.2.2=1/\oB L' env w P T=oB L env w P T:=by
 have r:Agr (mJ L env w) (mJ L' env w) (PV N L L' env) Gt:={
  anti:=fun s s' g h k c=>h k (by obtain⟨l,e⟩:=g.1;rw[e];exact kE _ c)
  body:=fun t t' e=>by rw[e.2.2]
  ar:=rfl
  cl:=fun t t' x s e B c h=>by
   have f:(mJ L' env w).cl t'.1 x.2.2.2.1=(mJ L' env w).cl t.1 x.2.2.2.1:=by
    show(if 8<t'.1.2.1.length then([],.inl 0) else wH L' (nC (fun p=>bT L' 1 p x.2.2.2.1) x.2.2.2.1 (t'.1.1::t'.1.2.1) []):List Ky×(Int⊕Aa))=_
    rw[e.1,e.2.1];rfl
   rw[f]
   have h:PV N L L' env (lJ s (if 8<t.1.2.1.length then([],.inl 0) else wH L (nC (fun p=>bT L 1 p x.2.2.2.1) x.2.2.2.1 (t.1.1::t.1.2.1) []):List Ky×(Int⊕Aa)).1):=h
   show(if 8<t.1.2.1.length then([],.inl 0) else wH L' (nC (fun p=>bT L' 1 p x.2.2.2.1) x.2.2.2.1 (t.1.1::t.1.2.1) []):List Ky×(Int⊕Aa)).1=(if 8<t.1.2.1.length then([],.inl 0) else wH L (nC (fun p=>bT L 1 p x.2.2.2.1) x.2.2.2.1 (t.1.1::t.1.2.1) []):List Ky×(Int⊕Aa)).1/\
    qQf Gt (if 8<t.1.2.1.length then([],.inl 0) else wH L (nC (fun p=>bT L 1 p x.2.2.2.1) x.2.2.2.1 (t.1.1::t.1.2.1) []):List Ky×(Int⊕Aa)).2 (if 8<t.1.2.1.length then([],.inl 0) else wH L' (nC (fun p=>bT L' 1 p x.2.2.2.1) x.2.2.2.1 (t.1.1::t.1.2.1) []):List Ky×(Int⊕Aa)).2
   by_cases h8:8<t.1.2.1.length
   .rw[if_pos h8,if_pos h8];exact⟨rfl,rfl⟩
   rw[if_neg h8] at h
   rw[if_neg h8,if_neg h8]
   obtain⟨n,o⟩:=qIj (nm:=x.2.2.2.1) a hc' d (t.1.1::t.1.2.1) [] fun k c=>h k (kW _ c)
   unfold wH
   dsimp only
   rw[n]
   refine⟨rfl,?_⟩
   by_cases h0:(nC (fun p=>bT L 1 p x.2.2.2.1) x.2.2.2.1 (t.1.1::t.1.2.1) []).2.2=0
   .rw[if_pos h0,if_pos h0];exact o h0
   rw[if_neg h0,if_neg h0];exact rfl
  dt:=fun t t' x s e B c h=>by
   have h:PV N L L' env (lJ s (nY L x.2.2.2.1).1):=h
   show(nY L' x.2.2.2.1).1=(nY L x.2.2.2.1).1/\qQq Gt (nY L x.2.2.2.1).2 (nY L' x.2.2.2.1).2
   have y:tO N L L' env (4,x.2.2.2.1,⟨#[]⟩):=h _ (kW _ (by unfold nY;split<;>exact jF ..))
   have z:=zDm a hc' d y
   unfold nY at h ⊢
   rw[z]
   cases hg:mH L x.2.2.2.1 with
   |some b=>exact⟨rfl,rfl⟩
   |none=>
    rw[hg] at h
    have v:tO N L L' env (3,x.2.2.2.1,⟨#[]⟩):=h _ (kW _ (jH _ (jL.2 rfl)))
    obtain⟨f,n,o⟩:=XT a hc' (zFq a hc' d v)
    have A:=vV L 3 lE x.2.2.2.1
    refine⟨rfl,?_⟩
    dsimp only
    by_cases c0:(bT L 3 lE x.2.2.2.1).2.2.2.2.2=0
    .rw[if_pos c0,if_pos (f.2 c0)];exact rfl
    rw[if_neg c0,if_neg fun g=>c0 (f.1 g)]
    by_cases c1:1<(bT L 3 lE x.2.2.2.1).2.2.2.2.2
    .rw[if_pos c1,if_pos (n.2 c1)];exact rfl
    rw[if_neg c1,if_neg fun g=>c1 (n.1 g)];exact o aa
  en:=fun _ _ _ _ _ _ _ _=>rfl
  bt:=fun _ _ _ _ _ _ _ _=>rfl}
 have c:tO N L L' env (2,P,T):=by
  obtain⟨l,e⟩:=(Gr.enter (Gr.ev (mJ L env w) 20001) 0 (nM L (bT L 2 P T)) [] ([(2,P,T)],0,false)).1
  exact q _ (by unfold oB;rw[e];exact jF ..)
 have v:vK L 2 P T=vK L' 2 P T:=qOh a hc' d (.inr rfl) c
 obtain⟨f,n,o⟩:=XT a hc' v
 have A:=vV L' 2 P T
 refine⟨by omega,?_⟩
 exact YG r (qOl r 20001) (o u) q
end
def Kc(k:Ky):Prop:=rB k=true
theorem zGs{p:BA}(h:iF p.data.toList=true):p.size<=80:=by
 have:p.data.toList.length<=80:=(gH h).1
 have e:=mZ p
 omega
theorem Kc.kind{k:Ky}(h:Kc k):1<=k.1/\k.1<=7:=by
 unfold Kc rB at h
 split at h
 .omega
 split at h
 .omega
 split at h
 .omega
 cases h
theorem Kc.size{k:Ky}(h:Kc k):k.2.1.size<=80:=by
 unfold Kc rB at h
 split at h
 .rw[jK] at h;have:=MY h.1;omega
 split at h
 .rw[jK] at h;exact zGs h.1
 split at h
 .rw[jK] at h;have:=MY h.1;omega
 cases h
theorem qPn{n:Int}{k:Ky}(h:Kc k):Kc (nJ n k):=by
 have b:k.1=1\/k.1=2\/k.1=6->iR k.2.1=true:=fun a=>by
  unfold Kc rB at h
  rcases a with a|a|a
  .rw[if_pos (.inl a),jK] at h;exact h.1
  .rw[if_pos (.inr a),jK] at h;exact h.1
  rw[if_neg aa,if_neg aa,if_pos (.inr (.inl a)),jK] at h;exact h.1
 unfold nJ
 split
 .rename_i g
  have:=b aa
  show rB (6,k.2.1,e0)=true
  unfold rB
  rw[if_neg (by show ¬((6:Int)=1\/(6:Int)=2);decide),if_neg (by show ¬((6:Int)=3\/(6:Int)=4);decide),if_pos (.inr (.inl rfl)),this];rfl
 split
 .rename_i g
  have:=b g.2
  show rB (7,k.2.1,e0)=true
  unfold rB
  rw[if_neg (by show ¬((7:Int)=1\/(7:Int)=2);decide),if_neg (by show ¬((7:Int)=3\/(7:Int)=4);decide),if_pos (.inr (.inr rfl)),this];rfl
 exact h
section
variable {N:Nat}
theorem qVh(g:2000<=N){n:Int}(b:1<=n)(d:n<=3){k:Ky}(a:Kc k):EM N k n=some (nJ n k,0):=by
 have c:=a.kind
 have h:=a.size
 simp only[EM,TU b d,j0,kY,jA,jG]
 rw[show EK N (k.1,k.2.1,k.2.2)=some true from(qEa (k:=k) aa aa).trans (congrArg some a)]
 simp only[j0,kY,jA,jG]
 have e:n=1\/n=2\/n=3:=by omega
 obtain⟨q,x,y⟩:=k
 try simp only at c
 have f:q=1\/q=2\/q=3\/q=4\/q=5\/q=6\/q=7:=by omega
 rcases f with rfl|rfl|rfl|rfl|rfl|rfl|rfl<;>rcases e with rfl|rfl|rfl<;>rfl
theorem qEz(g:2000<=N){n:Int}(c:1<=n)(e:n<=3){K:List Ky}(l:K.length<1000000)(f:∀k∈K,Kc k):∀(d i M:Nat),i+d=K.length->d<M->
  aB (CD N K n) M ((K.take i).map (nJ n),(i:Int))=some (.inl (K.map (nJ n)))
 |_,_,0,_,h=>absurd h (kK _)
 |d,i,M+1,p,q=>by
  simp only[aB,CD]
  cases d with
  |zero=>
   have a:¬((i:Int)<(K.length:Int)):=by omega
   simp only[a,decide_false,jA,jG,j0]
   rw[kZ aa]
  |succ d=>
   have hi:i<K.length:=by omega
   have a:((i:Int)<(K.length:Int)):=by omega
   have o:IntKind.wrap .i64 ((i:Int)+1)=((i+1:Nat):Int):=by rw[bB aa aa];omega
   have b:=qVh g c e (f K[i] (jM hi))
   simp only[a,decide_true,jI,cQ hi,j0,b,fB,jA,jG]
   rw[mC (by simp only[gA,kN,jC,jD];omega) ac]
   simp only[j0,o]
   have:=qEz g c e l f d (i+1) M aa aa
   rw[kU hi,gT] at this
   exact this
theorem zFn{n:Int}(a:1<=n)(b:n<=3){K:List Ky}(e:K.length<1000000)(f:K.length+2000<N)(d:∀k∈K,Kc k):CF N K n=some (rF (K.map (nJ n)),0):=by
 have c:=qEz (N:=N) aa a b e d K.length 0 N aa aa
 have h1':aB (CD N K n) N (([]:List (Int×BA×BA)),0)=some (.inl (K.map (nJ n))):=c
 simp only[CF,TU a b,j0,kY,jA,jG,h1']
 rw[qEs (by simp only[gA];omega) (by simp only[gA];omega)]
 rfl
variable {L L':List bS} {env:rJ}
def BI(N:Nat)(L:List bS)(env:rJ)(k:Ky):BA:=(nS N L (eW (eG L)) env k).getD e0
theorem qAy(h:SmF L)(c:FP env)(b:3000000<N){k:Ky}(a:Kc k):nS N L (eW (eG L)) env k=some (BI N L env k):=by
 obtain⟨v,d⟩:=zHh (N:=N) (env:=env) (k:=k) h c b (by have:=a.size;omega) a.kind.1 a.kind.2
 unfold BI
 rw[d];rfl
theorem qGe(h:SmF L)(l:lB L=0)(n:FP env)(c:zX N env=some true)(g:3000000<N){x:List Ky}(p:∀k∈x,Kc k)(q:x.length<1000000):KT N L env x=some (x.map (BI N L env),0):=by
 unfold KT
 rw[EG aa,c,l]
 have a:=sK (L:=x) (fun(b:List BA) (i:Nat)=>(b,(i:Int))) (f:=KJ N L env x (eW (eG L)))
  (fun b k=> .inl (b++[BI N L env k])) (fun b=> .inl b) (fun i b=>b.length<=i) (by
   intro b i hi e
   have ew:IntKind.wrap .i64 ((i:Int)+1)=((i+1:Nat):Int):=by rw[bB aa aa];omega
   have d:=p _ (jM hi)
   simp only[KJ]
   rw[if_pos ad,cQ hi]
   simp only[j0,ew]
   rw[qYs aa,show rB x[i]=true from d]
   simp only[j0,kY,jA,jG]
   rw[qAy h n g d]
   simp only[j0]
   rw[mC ag ac]
   rfl) (by
   intro b i hi b' e o
   obtain rfl:=(Sum.inl.inj o).symm
   simp only[jB,jC,jD];omega) (by
   intro b _
   simp only[KJ]
   rw[if_neg ae]) (M:=N) (t:=[]) aa ae
 rw[show((0:Nat):Int)=0 from rfl] at a
 rw[XF aa]
 simp only[j0,fB,jA,jG,kY]
 rw[show((eG L).map (·.1),(eG L).map (·.2))=eW (eG L) from rfl,a,EQ (fun b k=>b++[BI N L env k]) (fun _ _=>rfl),qHu]
 rfl
theorem qHa{t u:List BA}(l:u.length<1000000)(c:t.length=u.length):∀(d i M:Nat),i+d=u.length->d<M->
  ∃o:Unit⊕(Int×Int),aB (KX N t (u,0)) M (i:Int)=some o/\((o= .inl ()/\u.drop i=t.drop i)\/(∃j:Nat,o= .inr ((j:Int),0)/\u.drop i≠t.drop i))
 |_,_,0,_,h=>absurd h (kK _)
 |0,i,M+1,f,k=>by
  refine⟨.inl (),?_,.inl ⟨rfl,by rw[jU aa,jU aa]⟩⟩
  simp only[aB,KX]
  rw[if_neg ad];rfl
 |d+1,i,M+1,f,k=>by
  have hi:i<u.length:=by omega
  have hi':i<t.length:=by omega
  simp only[aB,KX]
  rw[if_pos ad,cQ hi,j0,cQ hi',j0,oZ]
  by_cases he:u[i]=t[i]
  .rw[jR he,if_neg ac,bB aa aa,show((i:Int)+1)=((i+1:Nat):Int) by omega]
   obtain⟨o,e,a⟩:=qHa l c d (i+1) M aa aa
   refine⟨o,e,?_⟩
   rw[uS hi,uS hi',he]
   rcases a with ⟨a,b⟩|⟨j,a,b⟩
   .exact .inl ⟨a,by rw[b]⟩
   exact .inr ⟨j,a,fun g=>b (List.cons.inj g).2⟩
  rw[jX he,if_pos ac]
  refine⟨.inr ((i:Int),0),rfl,.inr ⟨i,rfl,fun g=>he ?_⟩⟩
  rw[uS hi,uS hi'] at g
  exact(List.cons.inj g).1
theorem zEp(h:SmF L')(l:lB L'=0)(n:FP env)(b:zX N env=some true)(g:3000000<N){x:List Ky}(p:∀k∈x,Kc k)(c:x.length<1000000){t:List BA}(d:t.length=x.length):
  ∃z:Int,SE N L' env x t=some (z,0)/\(z= -1->x.map (BI N L' env)=t):=by
 unfold SE
 rw[qGe h l n b g p c,j0,if_neg ae]
 rw[show((x.length:Int) !=(t.length:Int))=false by simp[d],j0,if_neg ac]
 obtain⟨o,e,f⟩:=qHa (N:=N) (t:=t) (u:=x.map (BI N L' env)) (by rw[gA];exact c) (by rw[gA];exact d) (x.map (BI N L' env)).length 0 N aa (by rw[gA];omega)
 rw[show((0:Nat):Int)=0 from rfl,kC,kC] at*
 rw[e,j0]
 rcases f with ⟨rfl,a⟩|⟨j,rfl,a⟩
 .exact⟨-1,rfl,fun _=>a⟩
 exact⟨(j:Int),rfl,fun h=>by omega⟩
theorem down(h:SmF L)(h':SmF L')(c:3000000<N){k:Ky}(d:Kg k){n:Int}(p:1<=n)(r:n<=3)(a:tO N L L' env (nJ n k)):tO N L L' env k:=by
 have o:=Kc.size d.1
 obtain⟨-,f,g⟩:=d
 unfold tO at*
 obtain⟨q,x,y⟩:=k
 simp only at o f g
 by_cases hq:q=1\/q=2
 .have l:n=1\/n=2\/n=3:=by omega
  have hq':q=1\/q=2\/q=6:=by omega
  rcases l with rfl|rfl|rfl
  .have b:nJ 1 (q,x,y)=(q,x,y):=by simp[nJ]
   rwa[b] at a
  .have b:nJ 2 (q,x,y)=(6,x,e0):=by simp[nJ,hq]
   rw[b] at a
   exact qGu h h' c hq a
  have b:nJ 3 (q,x,y)=(7,x,e0):=by simp[nJ,hq']
  rw[b] at a
  exact qGu h h' c hq (qWp (b':=e0) h h' c (show x.size<=1000 by omega) a)
 have hq':¬(q=1\/q=2\/q=6):=by omega
 have e:nJ n (q,x,y)=(q,x,y):=by simp[nJ,hq,hq']
 rwa[e] at a
theorem qYk{r:Rrn}(b:r.2.2.1.length<1000000)(a:r.2.2.1.length<N):LB N r r=some true:=by
 unfold LB
 rw[if_neg ae,if_neg ae,if_neg ae]
 simp only[fB,j0,jA,jG]
 have:=YY (f:=GN N r r) (fun i=>(i:Int)) r.2.2.1.length (.inl ()) (fun i hi=>by
  simp only[GN]
  rw[if_pos (by simpa using hi),cQ hi,j0,j0,if_neg ae,bB aa aa];rfl) (by simp only[GN];rw[if_neg ae]) a
 rw[show aB (GN N r r) N 0=_ from this];rfl
theorem qLm:([(⟨#[112]⟩:BA),(⟨#[113]⟩:BA),(⟨#[115]⟩:BA),(⟨#[116]⟩:BA),(⟨#[117]⟩:BA),(⟨#[118]⟩:BA)].all iR)=true:=by kernel_rfl
theorem qZb(b:lB L=0){w:Int}{P T:BA}:(pX (oB L env w P T).1.1).length<1000000:=by
 have a:Qk (oB L env w P T).1:=Qk.enter (Qk.ev (IR L env w) 20001) _ _ _ _ (by show 1<=10*0+1;decide)
 have c:(oB L env w P T).1.2.1<=20000:=(Gr.enter (Gr.ev (mJ L env w) 20001) 0 (nM L (bT L 2 P T)) [] ([(2,P,T)],0,false)).2.2.1 (jW _)
 have:=qNp (oB L env w P T).1.1
 unfold Qk at a
 omega
end
theorem qUo{N:Nat}(Y:20000000<N)(l:List Int):Ok (QV N l) fun z=>z=true:=by
 unfold QV
 refine Ok.bind (qUz aa ac ac) ?_
 rintro _ ⟨F,L,rfl,p1,p2,R,hl⟩
 dsimp only
 refine Ok.bind (zEk (K:=4700) aa aa aa R.e ac ac aa) ?_
 rintro _ ⟨G,L',rfl,q1,q2,hL',hl'⟩
 dsimp only
 refine Ok.bind (qTo aa aa aa) ?_
 rintro _ ⟨u,env,rfl,s1,s2,f⟩
 dsimp only
 have hT:Ok (SJ N (l,u)) fun y=>iR y.2.1=true/\iR y.2.2=true:=by
  unfold SJ AE LY
  refine Ok.someb (Ok.one aa aa ac ac fun p a=>Ok.someb (Ok.one aa aa ac ac fun t b=>Ok.mk ⟨?_,?_⟩))
  .exact jZ.1 qLm p (by simp only[jJ,gE,hU] at a ⊢;rcases a with h|h|h<;>simp[h])
  exact jZ.1 qLm t (by simp only[jJ,gE,hU] at b ⊢;rcases b with h|h|h<;>simp[h])
 refine Ok.bind hT ?_
 rintro⟨ta,P,T⟩ ⟨A,B⟩
 dsimp only at A B ⊢
 have S:=R.sm hl
 have hm':=hL'.sm ac aa
 have d:lB L=0:=yW.2 (R.wf aa)
 have hc':lB L'=0:=yW.2 (hL'.wf ac aa)
 have g:env.length<=16/\∀v∈env,VB v.2:=⟨by have:=f.1;omega,fun v hv=>by have:=f.2 v hv;unfold VB;omega⟩
 have H:Wrr N L env:=⟨Y,d,g⟩
 have H':Wrr N L' env:=⟨Y,hc',g⟩
 obtain⟨c,a,-⟩:=qVq (N:=N) (env:=env) aa
 cases c with
 |false=>
  refine Ok.bind (P:=fun y=>y=(((0,0,0),false,[],0),1)) ⟨_,by unfold yR;rw[EG aa,d,j0,if_neg ac,a];rfl,rfl⟩ ?_
  rintro _ rfl
  rw[if_pos ac,XA aa]
  exact Ok.mk rfl
 |true=>
  by_cases h1:(bT L 2 P T).2.2.2.2.2=1
  .refine Ok.bind (P:=fun y=>y=(BC (oB L env 5 P T),0)) ⟨_,qAq H a h1,rfl⟩ ?_
   rintro _ rfl
   rw[if_neg ae]
   have o:=qWt (env:=env) (w:=5) d h1 A B
   have D:=qZb (L:=L) (env:=env) (w:=5) (P:=P) (T:=T) d
   have s:∀k,k∈pX (oB L env 5 P T).1.1↔k∈(oB L env 5 P T).1.1:=fun k=>by unfold pX;rw[qIg];simp
   have V:∀k∈pX (oB L env 5 P T).1.1,Kc k:=fun k b=>(o k ((s k).1 b)).1
   have step:∀n:Int,1<=n->n<=3->DS N ((l,F),L) ((l,G),L') ((l,u),env) (ta,P,T) (BC (oB L env 5 P T),0) n=some (.inl (n+1)):=fun n n1 U=>by
    unfold DS
    dsimp only
    rw[if_pos (jR U),show CF N (BC (oB L env 5 P T)).2.2.1 n=some (rF ((pX (oB L env 5 P T).1.1).map (nJ n)),0) from zFn n1 U D (by show(pX _).length+2000<N;omega) V,j0,if_neg ae]
    dsimp only
    have hx:∀k∈rF ((pX (oB L env 5 P T).1.1).map (nJ n)),Kc k:=fun k b=>by
     rw[TI,gL] at b
     obtain⟨k',h,rfl⟩:=b
     exact qPn (V k' h)
    have E:(rF ((pX (oB L env 5 P T).1.1).map (nJ n))).length<1000000:=by
     have:=qZm ((pX (oB L env 5 P T).1.1).map (nJ n))
     rw[gA] at this
     omega
    rw[qGe S d f a aa hx E,j0]
    obtain⟨z,z1,z2⟩:=zEp (t:=(rF ((pX (oB L env 5 P T).1.1).map (nJ n))).map (BI N L env)) hm' hc' f a aa hx E (by rw[gA])
    dsimp only
    rw[z1,j0]
    dsimp only
    have ew:IntKind.wrap .i64 (n+1)=n+1:=bB aa aa
    by_cases hz:z= -1
    .have hC:PV N L L' env (oB L env 5 P T).1:=fun k b=>by
      refine down S hm' aa (o k b) n1 U ?_
      have x:Kc (nJ n k):=qPn (o k b).1
      have Z:nJ n k∈rF ((pX (oB L env 5 P T).1.1).map (nJ n)):=by
       rw[TI]
       exact gL.2 ⟨k,(s k).2 b,rfl⟩
      unfold tO
      rw[qAy S f aa x,qAy hm' f aa x]
      exact congrArg some ((dG.1 (z2 hz)) _ Z).symm
     obtain⟨x,Z⟩:=zBv d hc' aa h1 hC
     rw[show yR N L' env 5 (P,T)=_ from qAq H' a x,Z,j0]
     dsimp only
     rw[if_pos (show(z== -1)=true by simp[hz]),if_neg (show ¬((0:Int) !=0)=true by decide)]
     rw[show LB N _ _=_ from qYk (r:=BC (oB L env 5 P T)) D (by show(pX _).length<N;omega),j0,j0,if_neg ac,ew]
    have x:∃q,yR N L' env 5 (P,T)=some q:=by
     by_cases h2:(bT L' 2 P T).2.2.2.2.2=1
     .exact⟨_,qAq H' a h2⟩
     exact⟨_,qNx H' a h2⟩
    obtain⟨q,Z⟩:=x
    rw[Z,j0,if_neg (show ¬(z== -1)=true by simpa using hz),j0,if_neg ac,ew]
   have last:DS N ((l,F),L) ((l,G),L') ((l,u),env) (ta,P,T) (BC (oB L env 5 P T),0) 4=some (.inr (.inl ())):=by
    unfold DS
    rw[if_neg ac]
   have x:aB (DS N ((l,F),L) ((l,G),L') ((l,u),env) (ta,P,T) (BC (oB L env 5 P T),0)) N 1=some (.inl ()):=by
    obtain⟨M,rfl⟩:∃M,N=M+4:=⟨N-4,by omega⟩
    simp only[aB,step 1 ac ac,step 2 ac ac,step 3 ac ac,last,j0,show(1:Int)+1=2 from rfl,show(2:Int)+1=3 from rfl,show(3:Int)+1=4 from rfl]
   rw[x,j0]
   dsimp only
   rw[XA aa]
   exact Ok.mk rfl
  refine Ok.bind (P:=fun y=>y=(((0,0,0),false,[],0),18)) ⟨_,qNx H a h1,rfl⟩ ?_
  rintro _ rfl
  rw[if_pos ac,XA aa]
  exact Ok.mk rfl
theorem testgatelaw12_LevelRuns_true(l:List Int){G:Prop}(_gl:G):∃N,QV N l=some true:=by
 obtain⟨z,a,rfl⟩:=qUo (N:=20000001) ac l
 exact⟨_,a⟩
end
end Go.Proofs.YteclmpmonbnooaaGreatDoor
