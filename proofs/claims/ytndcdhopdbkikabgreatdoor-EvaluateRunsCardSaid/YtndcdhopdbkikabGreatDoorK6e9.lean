/- No condition but those of each theorem. -/
import Derived.Test.YtndcdhopdbkikabGreatDoorK5e9
namespace Go.Proofs.YtndcdhopdbkikabGreatDoor
section
open Go Go.Dc Go.Proofs
abbrev EKy:=Int×BA×BA
abbrev ON:=BA×BA×Int×BA×Int×Int
abbrev EEx:=Int×Int×Int×BA×List Int
abbrev Bj:=Int×BA×List BA×List EEx
abbrev Bn:=BA×List BA×List Bj
abbrev EF:=List (BA×BA)×Bool×Option (List (BA×Bn))×List BA×Option (List (EKy×ON))
abbrev IS:=Option (List (EKy×Bool))
abbrev oY:=IS×Int×Int×Bool
abbrev rH:=(Int×oY)⊕(oY×Int)
abbrev PD:=Bn×Bj×List Int
abbrev UY:=EF×List (BA×Int)×Int×IS×Int×Int×Bool×Option (List (Int×Option Nat))
def ndC:Option (List (Int×Option Nat)):=some [(1,some 54),(2,some 55),(3,some 56),(4,some 57),(5,some 58),(6,some 59),(7,some 60),(8,some 61),(9,some 62),(10,some 63)]
abbrev eP(W:EF)(env:List (BA×Int))(w:Int)(t:oY):UY:=(W,env,w,t.1,t.2.1,t.2.2.1,t.2.2.2,ndC)
abbrev GN(N D:Nat):=(lN N D).1
abbrev GE(N D:Nat):=(lN N D).2.1
abbrev GC(N D:Nat):=(lN N D).2.2.1
abbrev GB(N D:Nat):=(lN N D).2.2.2.1
abbrev GI(N D:Nat):=(lN N D).2.2.2.2.1
abbrev GR(N D:Nat):=(lN N D).2.2.2.2.2
theorem xW(N:Nat)(b:Bool)(e:Int):wU N b e=some (bif b then .inl e else .inr ()):=by cases b<;>rfl
theorem Iy(N:Nat)(b:Bool):MC N b=some (bif b then 1 else 0):=by cases b<;>rfl
def xG(v:Int):Bool:=decide (-9007199254740992<=v)&&decide (v<=9007199254740992)
theorem Gy(N:Nat)(v:Int):AX N v=some (xG v):=by
 unfold AX xG
 by_cases h:(-9007199254740992)<=v
 .rw[jB (by simpa using h)];simp[h]
 rw[jA (by simpa using h)];simp[h]
variable {N D:Nat} {W:EF} {env:List (BA×Int)} {w:Int} {t:oY} {c:PD} {i:Int} {x:EEx}
abbrev up(t:oY):oY:=(t.1,wI (t.2.1+1),t.2.2.1,t.2.2.2)
theorem Zo(d:t.2.1=20000):GN N (D+1) (eP W env w t) c i=some (.inl (16,t)):=by
 obtain⟨a,s,b,r⟩:=t
 simp only at d
 subst d
 rfl
theorem xX(e:t.2.1≠20000)(g:bC c.2.1.2.2.2 i=some x){f:Nat}(b:cR ndC x.1=some (some f)){o:Option rH}
  (d:(if f=54 then QO N (eP W env w (up t)) c x else if f=55 then FP N (eP W env w (up t)) c x else if f=56 then GC N D (eP W env w (up t)) c x else
   if f=57 then GB N D (eP W env w (up t)) c x else if f=58 then GI N D (eP W env w (up t)) c x else if f=59 then GR N D (eP W env w (up t)) c x else
   if f=60 then FU N (eP W env w (up t)) c x else if f=61 then GG N (eP W env w (up t)) c x else if f=62 then EZ N (eP W env w (up t)) c x else if f=63 then FX N (eP W env w (up t)) c x else none)=o):
  GN N (D+1) (eP W env w t) c i=o:=by
 have a:(t.2.1==20000)=false:=by simpa using e
 show QQ N (GN N D) (GE N D) (GC N D) (GB N D) (GI N D) (GR N D) (eP W env w t) c i=o
 unfold QQ
 simp only[xW,a,cond_false,j0,g,b,gP]
 rw[<-d]
 cases hz:(if f=54 then QO N (eP W env w (up t)) c x else if f=55 then FP N (eP W env w (up t)) c x else if f=56 then GC N D (eP W env w (up t)) c x else
   if f=57 then GB N D (eP W env w (up t)) c x else if f=58 then GI N D (eP W env w (up t)) c x else if f=59 then GR N D (eP W env w (up t)) c x else
   if f=60 then FU N (eP W env w (up t)) c x else if f=61 then GG N (eP W env w (up t)) c x else if f=62 then EZ N (eP W env w (up t)) c x else if f=63 then FX N (eP W env w (up t)) c x else none:Option rH) with
 |none=>rfl
 |some o=>cases o<;>rfl
theorem qBb(b:t.2.1≠20000)(d:bC c.2.1.2.2.2 i=some x)(a:x.1=1):GN N (D+1) (eP W env w t) c i=some (.inr (up t,x.2.1)):=
 xX b d (f:=54) (by rw[a];rfl) rfl
theorem Zm(b:t.2.1≠20000)(e:bC c.2.1.2.2.2 i=some x)(a:x.1=2){v:Int}(d:bC c.2.2 x.2.1=some v):GN N (D+1) (eP W env w t) c i=some (.inr (up t,v)):=
 xX b e (f:=55) (by rw[a];rfl) (by show FP N (eP W env w (up t)) c x=_;unfold FP;rw[d];rfl)
theorem Xa(b:t.2.1≠20000)(d:bC c.2.1.2.2.2 i=some x)(a:x.1=3):GN N (D+1) (eP W env w t) c i=GC N D (eP W env w (up t)) c x:=
 xX b d (f:=56) (by rw[a];rfl) rfl
theorem qAy(b:t.2.1≠20000)(d:bC c.2.1.2.2.2 i=some x)(a:x.1=4):GN N (D+1) (eP W env w t) c i=GB N D (eP W env w (up t)) c x:=
 xX b d (f:=57) (by rw[a];rfl) rfl
theorem qCb(b:t.2.1≠20000)(d:bC c.2.1.2.2.2 i=some x)(a:x.1=5):GN N (D+1) (eP W env w t) c i=GI N D (eP W env w (up t)) c x:=
 xX b d (f:=58) (by rw[a];rfl) rfl
def sB(v:Int)(t:oY):rH:=bif xG v then .inr (t,v) else .inl (3,t)
def CG(op a b:Int)(t:oY):Option rH:=
 if op=1 then some (sB (wI (a+b)) t) else if op=2 then some (sB (wI (a-b)) t) else
 if op=3 then((if b≠0 then(rK .i64 9007199254740992 (if wI (0-b)>b then wI (0-b) else b)).bind λq=>some (decide ((if wI (0-a)>a then wI (0-a) else a)>q)) else some false).bind λo=>
  some (bif o then .inl (3,t) else sB (wI (a*b)) t)) else
 if op=4\/op=5 then(if b=0 then some (.inl (4,t)) else(rK .i64 a b).bind λq=>if op=5 then(wH a b).bind λr=>some (sB r t) else some (sB q t)) else
 if op=6 then some (sB (bif decide (a<b) then 1 else 0) t) else some (sB (bif a==b then 1 else 0) t)
theorem qDp{g k a b:Int}{t1 t2:oY}(y:bC x.2.2.2.2 0=some g)(z:bC x.2.2.2.2 1=some k)(s:GN N D (eP W env w t) c g=some (.inr (t1,a)))(u:GN N D (eP W env w t1) c k=some (.inr (t2,b))):
  GB N (D+1) (eP W env w t) c x=CG x.2.2.1 a b t2:=by
 show AP N (GN N D) (GE N D) (GC N D) (GB N D) (GI N D) (GR N D) (eP W env w t) c x=_
 unfold AP
 obtain⟨o,s1,p,E⟩:=t1
 rw[y,j0,show GN N D _ _ g=some (.inr ((o,s1,p,E),a)) from s,j0]
 dsimp only
 rw[z,j0,show GN N D _ _ k=some (.inr (t2,b)) from u,j0]
 dsimp only
 generalize x.2.2.1=op
 have fin:∀v:Int,((AX N v).bind λf=>(wU N (!f) 3).bind λn=>(match n with| .inl l=>(some (.inl (l,t2)):Option rH)| .inr _=>some (.inr (t2,v))))=some (sB v t2):=λv=>by
  simp only[Gy,xW,j0,sB]
  cases xG v<;>rfl
 have d:∀v:Int,((AX N v).bind λf=>(match(bif !f then .inl 3 else .inr ():Int⊕Unit) with| .inl l=>(some (.inl (l,t2)):Option rH)| .inr _=>some (.inr (t2,v))))=some (sB v t2):=λv=>by
  simp only[Gy,j0,sB]
  cases xG v<;>rfl
 unfold CG
 by_cases p1:op=1
 .rw[jB (by simpa using p1),jB p1];exact fin _
 rw[jA (by simpa using p1),jA p1]
 by_cases p2:op=2
 .rw[jB (by simpa using p2),jB p2];exact fin _
 rw[jA (by simpa using p2),jA p2]
 by_cases p3:op=3
 .rw[jB (by simpa using p3),jB p3]
  by_cases hb:b=0
  .rw[jA (by simpa using hb),jA (by simpa using hb)];exact fin _
  rw[jB (by simpa using hb),jB hb]
  cases hq:rK .i64 9007199254740992 (if wI (0-b)>b then wI (0-b) else b) with
  |none=>rfl
  |some q=>
   simp only[j0,xW]
   cases decide ((if wI (0-a)>a then wI (0-a) else a)>q) with
   |true=>rfl
   |false=>exact d _
 rw[jA (by simpa using p3),jA p3]
 by_cases p4:op=4\/op=5
 .rw[jB p4]
  have e:(if(op==4)then some (op==4) else some (op==5):Option Bool)=some true:=by
   rcases p4 with rfl|rfl<;>rfl
  rw[e]
  simp only[j0,jH,xW]
  by_cases hb:b=0
  .subst hb;rfl
  rw[show(b==0)=false by simpa using hb,jA hb]
  dsimp only[cond_false]
  cases hq:rK .i64 a b with
  |none=>rfl
  |some q=>
   simp only[j0]
   by_cases p5:op=5
   .rw[jB (by simpa using p5),jB p5]
    cases hr:wH a b with
    |none=>rfl
    |some r=>exact d _
   rw[jA (by simpa using p5),jA p5];exact d _
 rw[jA p4]
 have A:op≠4:=λh=>p4 (.inl h)
 have B:op≠5:=λh=>p4 (.inr h)
 have e:(if(op==4)then some (op==4) else some (op==5):Option Bool)=some false:=by
  rw[jA (by simpa using A)];simpa using B
 rw[e]
 simp only[j0,j9,jF,Iy]
 by_cases p6:op=6
 .rw[jB (by simpa using p6),jB p6];exact fin _
 rw[jA (by simpa using p6),jA p6];exact fin _
theorem qAz{a:Int}{z:Int×oY}(d:bC x.2.2.2.2 0=some a)(b:GN N D (eP W env w t) c a=some (.inl z)):GB N (D+1) (eP W env w t) c x=some (.inl z):=by
 show AP N (GN N D) (GE N D) (GC N D) (GB N D) (GI N D) (GR N D) (eP W env w t) c x=_
 unfold AP
 rw[d,j0,show GN N D _ _ a=some (.inl z) from b];rfl
theorem qAd{b d a:Int}{t1:oY}{z:Int×oY}(k:bC x.2.2.2.2 0=some b)(l:bC x.2.2.2.2 1=some d)(g:GN N D (eP W env w t) c b=some (.inr (t1,a)))(h:GN N D (eP W env w t1) c d=some (.inl z)):
  GB N (D+1) (eP W env w t) c x=some (.inl z):=by
 show AP N (GN N D) (GE N D) (GC N D) (GB N D) (GI N D) (GR N D) (eP W env w t) c x=_
 unfold AP
 obtain⟨e,s1,f,n⟩:=t1
 rw[k,j0,show GN N D _ _ b=some (.inr ((e,s1,f,n),a)) from g,j0]
 dsimp only
 rw[l,j0,show GN N D _ _ d=some (.inl z) from h];rfl
abbrev yG(W:EF)(E:ON):Bn:=(cR W.2.2.1 E.2.2.2.1).getD ((⟨#[]⟩:BA),[],[])
def Mk:rH->rH
 | .inl z=> .inl z
 | .inr y=> .inr ((y.1.1,y.1.2.1,wI (y.1.2.2.1-1),y.1.2.2.2),y.2)
theorem Zr{E:ON}{d:Bj}{args:List Int}{o:rH}(b:t.2.2.1≠64)(c:bC (yG W E).2.2 E.2.2.2.2.1=some d)
  (e:GN N D (eP W env w (t.1,t.2.1,wI (t.2.2.1+1),t.2.2.2)) (yG W E,d,args) (wI ((d.2.2.2.length:Int)-1))=some o):
  GE N (D+1) (eP W env w t) E args=some (Mk o):=by
 have a:(t.2.2.1==64)=false:=by simpa using b
 show FJ N (GN N D) (GE N D) (GC N D) (GB N D) (GI N D) (GR N D) (eP W env w t) E args=_
 unfold FJ
 simp only[xW,a,cond_false,j0,c]
 rw[show GN N D _ _ _=some o from e]
 cases o<;>rfl
def UV:rH->Int
 | .inl _=>0
 | .inr y=>y.2
def UZ:rH->Int
 | .inl z=>z.1
 | .inr _=>0
def VA:rH->Int
 | .inl _=>3
 | .inr y=>if y.2=0 then 2 else 1
def EA:rH->oY
 | .inl z=>z.2
 | .inr y=>y.1
theorem Yx{N:Nat}{m:UY}{E:ON}{args:List Int}{o:rH}(h:FS N m E args=some o):KP N m E args=some (EA o,(VA o,UV o,UZ o)):=by
 unfold KP
 rw[show FS N _ _ _=some o from h,j0]
 cases o with
 |inl z=>rfl
 |inr y=>
  dsimp only
  by_cases h0:y.2=0
  .rw[jB (by simpa using h0)];simp only[VA,UV,UZ,EA,h0,jB]
  rw[jA (by simpa using h0)];simp only[VA,UV,UZ,EA,h0,jA,jF]
end
section
open Go Go.Dc
abbrev Aa:=Sr×Dl
abbrev Es:=List Ky×Nat×Bool
abbrev Eo(α:Type):=Es×(Int⊕α)
structure Lk where
 cl:Sr->BA->List Ky×(Int⊕Aa)
 dt:BA->List Ky×(Int⊕(BA⊕Aa))
 en:BA->Option Int
 bt:Int->Int
 ar:Int->Int->Int->Int⊕Int
abbrev xJ:=Nat->Aa->List Int->Int->Es->Eo Int
def bE{α β:Type}(o:Eo α)(k:α->Es->Eo β):Eo β:=
 match o with
 |(s,.inl e)=>(s,.inl e)
 |(s,.inr v)=>k v s
def tO(F:Int->Es->Eo Int):List Int->Es->Eo (List Int)
 |[],s=>(s,.inr [])
 |i::l,s=>bE (F i s) λv s=>bE (tO F l s) λvs s=>(s,.inr (v::vs))
def pZ(F:xJ)(a:Nat)(t:Aa)(vs:List Int)(s:Es):Eo Int:=
 if a=64 then(s,.inl 17) else F (a+1) t vs ((t.2.2.2.2.length:Int)-1) s
def lT(s:Es)(l:List Ky):Es:=(s.1++l,s.2)
def nN(x:Ex)(k:Nat):Int:=x.2.2.2.2.getD k 0
def yM(I:Lk)(F:xJ)(a:Nat)(c:Aa)(vs:List Int)(x:Ex)(s:Es):Eo Int:=
 if x.1=1 then(s,.inr x.2.1)
 else if x.1=2 then(s,.inr (vs.getD x.2.1.toNat 0))
 else if x.1=3 then
  bE (lT s (I.cl c.1 x.2.2.2.1).1,(I.cl c.1 x.2.2.2.1).2) λt s=>bE (tO (F a c vs) x.2.2.2.2 s) λus s=>
   if us.length=t.2.2.2.1.length then pZ F a t us s else(s,.inl 13)
 else if x.1=4 then bE (F a c vs (nN x 0) s) λp s=>bE (F a c vs (nN x 1) s) λq s=>(s,I.ar x.2.2.1 p q)
 else if x.1=5 then bE (F a c vs (nN x 0) s) λp s=>F a c vs (nN x (if p=0 then 2 else 1)) s
 else if x.1=6 then
  bE (lT s (I.dt x.2.2.2.1).1,(I.dt x.2.2.2.1).2) λt s=>bE (F a c vs (nN x 0) s) λi s=>
   match t with
   | .inl b=>if 0<=i/\i<b.size then(s,.inr ((b.data.toList.getD i.toNat 0).toNat:Int)) else(s,.inl 3)
   | .inr t=>if i=0 then bE (pZ F a t [] s) λv s=>(s,.inr (v%256)) else(s,.inl 3)
 else if x.1=7 then
  bE (lT s (I.dt x.2.2.2.1).1,(I.dt x.2.2.2.1).2) λt s=>(s,.inr (match t with| .inl b=>(b.size:Int)| .inr _=>1))
 else if x.1=8 then(lT s (I.dt x.2.2.2.1).1,.inr (match(I.dt x.2.2.2.1).2 with| .inl e=>(if e=14 then 0 else 1)| .inr _=>1))
 else if x.1=9 then(lT s [(5,x.2.2.2.1,⟨#[]⟩)],match I.en x.2.2.2.1 with|some v=> .inr v|none=> .inl 15)
 else((s.1,s.2.1,true),.inr (I.bt x.2.1))
def ev(I:Lk):Nat->xJ
 |0,_,_,_,_,s=>(s,.inl 16)
 |n+1,a,c,vs,i,s=>
  if s.2.1=20000 then(s,.inl 16) else
  match c.2.2.2.2[i.toNat]? with
  |none=>(s,.inl 0)
  |some x=>yM I (ev I n) a c vs x (s.1,s.2.1+1,s.2.2)
def Gr(s s':Es):Prop:=(∃l,s'.1=s.1++l)/\s.2.1<=s'.2.1/\(s.2.1<=20000->s'.2.1<=20000)/\(s.2.2=true->s'.2.2=true)
theorem Gr.rfl'(s:Es):Gr s s:=⟨⟨[],(gH _).symm⟩,jN _,id,id⟩
theorem Gr.tr{s t u:Es}(h:Gr s t)(g:Gr t u):Gr s u:=by
 obtain⟨⟨l,e⟩,f,n,o⟩:=h
 obtain⟨⟨k,a⟩,b,c,d⟩:=g
 exact⟨⟨l++k,by rw[a,e,kU]⟩,gC f b,λh=>c (n h),λh=>d (o h)⟩
theorem Gr.see(s:Es)(l:List Ky):Gr s (lT s l):=⟨⟨l,rfl⟩,jN _,id,id⟩
theorem Gr.bE{α β:Type}{s:Es}{o:Eo α}{k:α->Es->Eo β}(h:Gr s o.1)(a:∀v u,Gr u (k v u).1):Gr s (bE o k).1:=by
 obtain⟨u,e|v⟩:=o
 .exact h
 exact h.tr (a v u)
def GrF(F:xJ):Prop:=∀a c vs i s,Gr s (F a c vs i s).1
theorem Gr.seq{F:Int->Es->Eo Int}(h:∀i s,Gr s (F i s).1):∀(l:List Int) (s:Es),Gr s (tO F l s).1
 |[],s=> .rfl' s
 |i::l,s=>(h i s).bE λ_ u=>(Gr.seq h l u).bE λ_ u=> .rfl' u
theorem Gr.enter{F:xJ}(h:GrF F)(a:Nat)(t:Aa)(vs:List Int)(s:Es):Gr s (pZ F a t vs s).1:=by
 unfold pZ
 split
 .exact .rfl' s
 exact h ..
theorem Gr.node{I:Lk}{F:xJ}(h:GrF F)(a:Nat)(c:Aa)(vs:List Int)(x:Ex)(s:Es):Gr s (yM I F a c vs x s).1:=by
 unfold yM
 split
 .exact .rfl' s
 split
 .exact .rfl' s
 split
 .refine(Gr.see s _).bE λt u=>(Gr.seq (λi s=>h ..) _ u).bE λus u=> ?_
  split
  .exact .enter h ..
  exact .rfl' u
 split
 .exact(h ..).bE λ_ u=>(h ..).bE λ_ u=> .rfl' u
 split
 .exact(h ..).bE λ_ u=>h ..
 split
 .refine(Gr.see s _).bE λt u=>(h ..).bE λi u=> ?_
  cases t with
  |inl b=>dsimp only;split<;>exact .rfl' u
  |inr t=>
   dsimp only
   split
   .exact(Gr.enter h ..).bE λ_ u=> .rfl' u
   exact .rfl' u
 split
 .exact(Gr.see s _).bE λ_ u=> .rfl' u
 split
 .exact .see ..
 split
 .exact .see ..
 exact⟨⟨[],(gH _).symm⟩,jN _,id,λ_=>rfl⟩
theorem Gr.ev(I:Lk):∀n,GrF (ev I n)
 |0,_,_,_,_,s=> .rfl' s
 |n+1,a,c,vs,i,s=>by
  unfold Go.Proofs.YtndcdhopdbkikabGreatDoor.ev
  split
  .exact .rfl' s
  rename_i hs
  split
  .exact .rfl' s
  exact Gr.tr (t:=(s.1,s.2.1+1,s.2.2)) ⟨⟨[],(gH _).symm⟩,Nat.le_succ _,λh=>show s.2.1+1<=20000 by omega,id⟩ (.node (Gr.ev I n) ..)
end
section
open Go Go.Dc Go.Proofs
def VB(v:Int):Prop:= -9223372036854775808<=v/\v<=9223372036854775807
theorem HT(v:Int):VB (wI v):=by unfold VB;simp only[wI,IntKind.wrap,IntKind.signed,IntKind.bits];simp;omega
abbrev mR:=List (BA×Int)
def nY(L:List bT)(e:eU):Aa:=(yG (lD L) e,(yG (lD L) e).2.2.getD e.2.2.2.2.1.toNat (0,⟨#[]⟩,[],[]))
def UU(o:Option rH):Int⊕Int:=match o with
 |some (.inl z)=> .inl z.1
 |some (.inr y)=> .inr y.2
 |none=> .inl 0
def JS(op a b:Int):Int⊕Int:=UU (CG op a b (none,0,0,false))
def BS(w k:Int):Int:=wI (IU .u64 ((wK .u64 w k).getD 0) 1)
def DV(L:List bT)(r:eU×List K3×Int):List Ky×(Int⊕Aa):=(r.2.1,if r.2.2=0 then .inr (nY L r.1) else .inl r.2.2)
def rB(L:List bT)(p:BA):List Ky×(Int⊕(BA⊕Aa)):=match mF L p with
 |some b=>([(4,p,⟨#[]⟩)],.inr (.inl b))
 |none=>([(4,p,⟨#[]⟩),(3,p,⟨#[]⟩)],if(bB L 3 eA p).2.2.2.2.2=0 then .inl 14 else if 1<(bB L 3 eA p).2.2.2.2.2 then .inl 12 else .inr (.inr (nY L (bB L 3 eA p))))
def tN(env:mR)(nm:BA):Option Int:=(env.find? λv=>v.1.toList==nm.toList).map (·.2)
def nH(L:List bT)(env:mR)(w:Int):Lk where
 cl f nm:=if 8<f.2.1.length then([],.inl 0) else DV L (oX (λp=>bB L 1 p nm) nm (f.1::f.2.1) [])
 dt:=rB L
 en:=tN env
 bt:=BS w
 ar:=JS
def pV(ks:List Ky):IS:=some (ks.foldl (λM k=>mset M k true) [])
abbrev nQ(s:Es)(a:Nat):oY:=(pV s.1,(s.2.1:Int),(a:Int),s.2.2)
def tP(a:Nat)(o:Eo Int)(r:Option rH):Prop:=match o.2 with
 | .inr v=>r=some (.inr (nQ o.1 a,v))/\VB v
 | .inl e=>∃a':Int,r=some (.inl (e,(pV o.1.1,(o.1.2.1:Int),a',o.1.2.2)))
def Cnd(n:Nat)(s:Es):Prop:=s.2.1<=20000/\20000<s.2.1+n
theorem Cnd.gr{n:Nat}{s s':Es}(h:Cnd n s)(g:Gr s s'):Cnd n s':=⟨g.2.2.1 h.1,fT h.2 (Nat.add_le_add_right g.2.1 n)⟩
theorem qEf{v:Int}(h:xG v=true):VB v:=by
 unfold xG at h;unfold VB
 simp only[jS,j6] at h
 omega
theorem qEc{b:Int}(c:b≠0)(a:VB b):(if wI (0-b)>b then wI (0-b) else b)≠0:=by
 unfold VB at a
 by_cases h:b= -9223372036854775808
 .subst h;decide
 rw[bP aa aa];split<;>omega
theorem qEg(v:Int)(t:oY):(∃e,∀t:oY,sB v t= .inl (e,t))\/((∀t:oY,sB v t= .inr (t,v))/\VB v):=by
 unfold sB
 cases h:xG v with
 |true=>exact .inr ⟨λ_=>rfl,qEf h⟩
 |false=>exact .inl ⟨3,λ_=>rfl⟩
theorem qFu(op a b:Int)(c:VB b):(∃e,∀t:oY,CG op a b t=some (.inl (e,t)))\/(∃v,(∀t:oY,CG op a b t=some (.inr (t,v)))/\VB v):=by
 have lift:∀v,((∃e,∀t:oY,some (sB v t)=some (.inl (e,t)))\/(∃v',(∀t:oY,some (sB v t)=some (.inr (t,v')))/\VB v')):=λv=>by
  rcases qEg v (none,0,0,false) with ⟨e,h⟩|⟨h,g⟩
  .exact .inl ⟨e,λt=>by rw[h t]⟩
  exact .inr ⟨v,λt=>by rw[h t],g⟩
 unfold CG
 by_cases p1:op=1
 .simp only[jB p1];exact lift _
 simp only[jA p1]
 by_cases p2:op=2
 .simp only[jB p2];exact lift _
 simp only[jA p2]
 by_cases p3:op=3
 .simp only[jB p3]
  by_cases h0:b≠0
  .simp only[jB h0,rK,jA (qEc h0 c),j0]
   cases decide ((if wI (0-a)>a then wI (0-a) else a)>wI ((9007199254740992:Int).tdiv (if wI (0-b)>b then wI (0-b) else b))) with
   |true=>exact .inl ⟨3,λ_=>rfl⟩
   |false=>exact lift _
  simp only[jA h0,j0];exact lift _
 simp only[jA p3]
 by_cases p4:op=4\/op=5
 .simp only[jB p4]
  by_cases h0:b=0
  .simp only[jB h0];exact .inl ⟨4,λ_=>rfl⟩
  simp only[jA h0,rK,wH,j0]
  by_cases p5:op=5
  .simp only[jB p5];exact lift _
  simp only[jA p5];exact lift _
 simp only[jA p4]
 by_cases p6:op=6
 .simp only[jB p6];exact lift _
 simp only[jA p6];exact lift _
theorem qDt{op p q:Int}(b:VB q)(a:Nat)(s:Es):tP a (s,JS op p q) (CG op p q (nQ s a)):=by
 unfold JS UU tP
 rcases qFu op p q b with ⟨e,h⟩|⟨v,h,g⟩
 .rw[h,h];exact⟨_,rfl⟩
 rw[h,h];exact⟨rfl,g⟩
theorem qBl{N:Nat}{m:UY}{M:List (EKy×Bool)}{ks:List Ky}(b:m.2.2.2.1=some M)(c:ks.length<1000000)(a:ks.length<N):
  sK N m ks=some (some (ks.foldl (λM k=>mset M k true) M),m.2.2.2.2.1,m.2.2.2.2.2.1,m.2.2.2.2.2.2.1):=by
 unfold sK
 rw[b]
 have:=HM (f:=KH N ks) (λi=>((i:Int),some ((ks.take i).foldl (λM k=>mset M k true) M))) ks.length (some (ks.foldl (λM k=>mset M k true) M)) (λi hi=>by
  simp only[KH]
  rw[jB (by simpa using hi),eZ hi]
  simp only[j0,iI,kL]
  rw[bP aa aa,kT hi,fC]
  rfl) (by simp only[KH];rw[jA ae,fO]) a
 rw[show((0:Int),some M)=(((0:Nat):Int),some ((ks.take 0).foldl (λM k=>mset M k true) M)) from rfl,this];rfl
theorem NL{N:Nat}{W:EF}{env:mR}{w:Int}{s:Es}{a:Nat}{ks:List Ky}(c:ks.length<1000000)(b:ks.length<N):sK N (eP W env w (nQ s a)) ks=some (nQ (lT s ks) a):=by
 rw[qBl (M:=s.1.foldl (λM k=>mset M k true) []) rfl c b]
 show some (some _,_,_,_)=some (pV (s.1++ks),_,_,_)
 unfold pV
 rw[fC];rfl
structure Wrl(N:Nat)(L:List bT)(env:mR)(Z:Int->BA->Prop)(F:Int->Prop):Prop where
 hN:2000000<N
 hc:nE L=0
 src:∀f∈L,sP f=true->okF Z F (lS f.2).1
 env:env.length<=16/\∀v∈env,VB v.2
def CC(Z:Int->BA->Prop)(F:Int->Prop)(t:Aa):Prop:=EN Z F t.2/\t.1.2.1.length<=8/\Z 3 t.1.1/\∀q∈t.1.2.1,Z 3 q
variable {N:Nat} {L:List bT} {env:mR} {w:Int} {Z:Int->BA->Prop} {F:Int->Prop}
theorem Wrl.asc(H:Wrl N L env Z F):Asc L:=(uI.1 H.hc).2.1
theorem Ab(H:Wrl N L env Z F){k:Int}{p n:BA}(l:(bB L k p n).2.2.2.2.2=1):
  bC (yG (lD L) (bB L k p n)).2.2 (bB L k p n).2.2.2.2.1=some (nY L (bB L k p n)).2/\CC Z F (nY L (bB L k p n))/\(nY L (bB L k p n)).2.1=k:=by
 have e:bB L k p n=nW (lW (iZ L)) k p n:=by unfold bB;rw[jB H.hc]
 rw[e] at l
 obtain⟨o,u,h,a⟩:=UB (O:=lW (iZ L)) (k:=k) (p:=p) (n:=n) (by rw[l];decide)
 obtain⟨f,r,s,j,d,g,rfl⟩:=TF u
 have v:(lD L).2.2.1=some (UQ L):=by unfold lD;rw[jB H.hc];rfl
 have b:(bB L k p n).2.2.2.1=f.1/\(bB L k p n).2.2.2.2.1=(j:Int):=by
  rw[e];unfold BW at a;simp only[Prod.mk.injEq] at a;exact⟨a.2.2.2.1,a.2.2.2.2⟩
 have q:yG (lD L) (bB L k p n)=(lS f.2).1:=by
  unfold yG
  rw[b.1,v,cR,j0,Fx H.asc r,jB s];rfl
 have c:(nY L (bB L k p n))=((lS f.2).1,d):=by
  unfold nY
  rw[q,b.2,jZ,jV,g];rfl
 obtain⟨x,y,A,z⟩:=H.src f r s
 refine⟨?_,?_,?_⟩
 .obtain⟨t,rfl⟩:=List.getElem?_eq_some_iff.1 g
  rw[c,q,b.2,eZ t]
 .rw[c];exact⟨z d (gY g),y,x⟩
 rw[c]
 unfold vM qP at h
 simp only[Prod.mk.injEq] at h
 exact h.1
theorem DE{E:BA->eU}{nm:BA}(a:∀p,0<=(E p).2.2.2.2.2):∀(l:List BA) (acc:List K3),
  ((oX E nm l acc).2.2=0->∃p,(oX E nm l acc).1=E p/\(E p).2.2.2.2.2=1)/\(oX E nm l acc).2.1.length<=acc.length+l.length
 |[],acc=>⟨λh=>absurd h (by show ¬((11:Int)=0);decide),jN _⟩
 |p::l,acc=>by
  unfold oX
  split
  .obtain⟨b,c⟩:=DE a l (acc++[(1,p,nm)])
   exact⟨b,by simp only[jG,jC,jD] at c ⊢;omega⟩
  split
  .exact⟨λh=>absurd h (by show ¬((12:Int)=0);decide),by simp only[jG,jC,jD];omega⟩
  exact⟨λ_=>⟨p,rfl,by have:=a p;omega⟩,by simp only[jG,jC,jD];omega⟩
theorem Xt(H:Wrl N L env Z F)(p:BA):ME N (lD L) p=some (match mF L p with
  |some _=>(1,qO,[(4,p,eA)],0)
  |none=>if(bB L 3 eA p).2.2.2.2.2=0 then(0,qO,[(4,p,eA),(3,p,eA)],14)
   else if 1<(bB L 3 eA p).2.2.2.2.2 then(3,qO,[(4,p,eA),(3,p,eA)],12)
   else(2,bB L 3 eA p,[(4,p,eA),(3,p,eA)],0)):=by
 have a:=H.hN
 simp only[ME,Im p (uI.1 H.hc).1 (show 100<N by omega),j0]
 cases hg:mF L p with
 |some b=>simp only[IF];rfl
 |none=>
  simp only[IF,j9,jF]
  rw[lQ af aa]
  simp only[j0,NA]
  have e:(⟨#[]⟩:BA)=eA:=rfl
  rw[e]
  by_cases h0:(bB L 3 eA p).2.2.2.2.2=0
  .rw[jB (by simp[h0]),jB h0];rfl
  rw[jA (by simp[h0]),jA h0]
  by_cases h1:1<(bB L 3 eA p).2.2.2.2.2
  .rw[jB (jI h1),jB h1];rfl
  rw[jA (by simpa using h1),jA h1];rfl
def IJ(L:List bT)(p:BA):Bool×eU×BA×Int:=match mF L p with
 |some b=>(false,qO,b,0)
 |none=>if(bB L 3 eA p).2.2.2.2.2=0 then(true,qO,eA,14) else if 1<(bB L 3 eA p).2.2.2.2.2 then(true,qO,eA,12) else(true,bB L 3 eA p,eA,0)
theorem ZQ(H:Wrl N L env Z F)(p:BA)(s:Es)(a:Nat):yW N (eP (lD L) env w (nQ s a)) p=some (nQ (lT s (rB L p).1) a,IJ L p):=by
 have e:=H.hN
 unfold yW
 rw[show ME N _ p=_ from Xt H p,j0]
 have c:xT N (lD L) p=some (IF (mF L p)):=Im p (uI.1 H.hc).1 aa
 unfold rB IJ
 cases hg:mF L p with
 |some b=>
  rw[hg] at c
  rw[show sK N _ _=_ from NL (N:=N) (W:=lD L) (env:=env) (w:=w) (s:=s) (a:=a) (ks:=[(4,p,eA)]) (by show 1<1000000;decide) (by show 1<N;omega),j0]
  rw[show xT N _ p=_ from c,j0];rfl
 |none=>
  rw[hg] at c
  have d:=NL (N:=N) (W:=lD L) (env:=env) (w:=w) (s:=s) (a:=a) (ks:=[(4,p,eA),(3,p,eA)]) (by show 2<1000000;decide) (by show 2<N;omega)
  dsimp only
  by_cases h0:(bB L 3 eA p).2.2.2.2.2=0
  .rw[jB h0,jB h0,show sK N _ _=_ from d,j0]
   rw[show xT N _ p=_ from c,j0];rfl
  rw[jA h0,jA h0]
  by_cases h1:1<(bB L 3 eA p).2.2.2.2.2
  .rw[jB h1,jB h1,show sK N _ _=_ from d,j0]
   rw[show xT N _ p=_ from c,j0];rfl
  rw[jA h1,jA h1,show sK N _ _=_ from d,j0]
  rw[show xT N _ p=_ from c,j0];rfl
theorem Ux(H:Wrl N L env Z F)(nm:BA):LV N env nm=some (match tN env nm with|some v=>(v,true)|none=>(0,false)):=by
 have c:=H.hN
 have a:=H.env.1
 have:=BD (L:=env) (f:=GD N env nm) (λ(_:Unit) i=>(i:Int)) (λ_ v=>if(v.1.toList==nm.toList)then .inr (.inr (v.2,true)) else .inl ()) (λ_=> .inl ()) (λ_ _=>True)
  (λt i hi _=>by
   simp only[GD]
   rw[jB (by simpa using hi),eZ hi,j0]
   split
   .rfl
   rw[bP aa aa];rfl) (λ_ _ _ _ _ _=>trivial) (λ_ _=>by simp only[GD];rw[jA ae]) (M:=N) (t:=()) aa trivial
 unfold LV
 rw[show aC (GD N env nm) N 0=_ from this,j0]
 unfold tN
 clear this a
 have key:∀l:mR,(match run (λ(_:Unit) (v:BA×Int)=>if(v.1.toList==nm.toList)then(.inr (.inr (v.2,true)):Unit⊕(Unit⊕(Int×Bool))) else .inl ()) (λ_=> .inl ()) l () with| .inl _=>some ((0:Int),false)| .inr z=>some z)=
   some (match(l.find? λv=>v.1.toList==nm.toList).map (·.2) with|some v=>(v,true)|none=>(0,false)):=λl=>by
  induction l with
  |nil=>rfl
  |cons v l b=>
   simp only[run,List.find?_cons]
   cases hv:v.1.toList==nm.toList with
   |true=>simp
   |false=>simpa using b
 exact key env
theorem Ae(e:Int):GV N e=some (bif decide (e≠0) then .inl e else .inr ()):=by
 unfold GV
 by_cases h:e=0
 .simp[h]
 simp[h]
variable {x:Ex} {c:PD} {s:Es} {a:Nat}
theorem UL:VB 1:=⟨by decide,by decide⟩
theorem qDg:VB 0:=⟨by decide,by decide⟩
theorem XS(H:Wrl N L env Z F)(p:BA):(∃b,b.size<=16384/\rB L p=([(4,p,⟨#[]⟩)],.inr (.inl b))/\IJ L p=(false,qO,b,0))\/(∃ks e,e≠0/\rB L p=(ks,.inl e)/\IJ L p=(true,qO,eA,e))\/
  ((bB L 3 eA p).2.2.2.2.2=1/\∃ks,rB L p=(ks,.inr (.inr (nY L (bB L 3 eA p))))/\IJ L p=(true,bB L 3 eA p,eA,0)):=by
 unfold IJ rB
 cases hg:mF L p with
 |some b=>
  exact .inl ⟨b,((uI.1 H.hc).2.2 _ (ZP hg)).2,rfl,rfl⟩
 |none=>
  have h:=uY L 3 eA p
  by_cases h0:(bB L 3 eA p).2.2.2.2.2=0
  .exact .inr (.inl ⟨[(4,p,⟨#[]⟩),(3,p,⟨#[]⟩)],14,by decide,by simp only[jB h0],by simp only[jB h0]⟩)
  by_cases h1:1<(bB L 3 eA p).2.2.2.2.2
  .exact .inr (.inl ⟨[(4,p,⟨#[]⟩),(3,p,⟨#[]⟩)],12,by decide,by simp only[jA h0,jB h1],by simp only[jA h0,jB h1]⟩)
  exact .inr (.inr ⟨by omega,[(4,p,⟨#[]⟩),(3,p,⟨#[]⟩)],by simp only[jA h0,jA h1],by simp only[jA h0,jA h1]⟩)
theorem qBm(H:Wrl N L env Z F):tP a (bE (lT s (rB L x.2.2.2.1).1,(rB L x.2.2.2.1).2) λt s=>(s,.inr (match t with| .inl b=>(b.size:Int)| .inr _=>1))) (FU N (eP (lD L) env w (nQ s a)) c x):=by
 unfold FU
 rw[show yW N _ _=_ from ZQ (w:=w) H x.2.2.2.1 s a,j0,Ae]
 rcases XS H x.2.2.2.1 with ⟨b,h,d,f⟩|⟨ks,e,g,d,f⟩|⟨-,ks,d,f⟩
 .rw[d,f];exact⟨rfl,by unfold VB;dsimp only;omega⟩
 .rw[d,f];dsimp only;rw[jI g];exact⟨_,rfl⟩
 rw[d,f];exact⟨rfl,UL⟩
theorem qEv(H:Wrl N L env Z F):tP a (lT s (rB L x.2.2.2.1).1,.inr (match(rB L x.2.2.2.1).2 with| .inl e=>(if e=14 then 0 else 1)| .inr _=>1)) (GG N (eP (lD L) env w (nQ s a)) c x):=by
 unfold GG
 rw[show yW N _ _=_ from ZQ (w:=w) H x.2.2.2.1 s a,j0,Iy]
 rcases XS H x.2.2.2.1 with ⟨b,g,d,f⟩|⟨ks,e,h,d,f⟩|⟨-,ks,d,f⟩
 .rw[d,f];exact⟨rfl,UL⟩
 .rw[d,f];dsimp only
  by_cases h14:e=14
  .subst h14;exact⟨rfl,qDg⟩
  rw[jA h14,show(e !=14)=true by simpa using h14];exact⟨rfl,UL⟩
 rw[d,f];exact⟨rfl,UL⟩
theorem qDy(H:Wrl N L env Z F):tP a (lT s [(5,x.2.2.2.1,⟨#[]⟩)],match tN env x.2.2.2.1 with|some v=> .inr v|none=> .inl 15) (EZ N (eP (lD L) env w (nQ s a)) c x):=by
 have d:=H.hN
 unfold EZ
 rw[show sK N _ _=_ from NL (N:=N) (W:=lD L) (env:=env) (w:=w) (s:=s) (a:=a) (ks:=[(5,x.2.2.2.1,⟨#[]⟩)]) (by show 1<1000000;decide) (by show 1<N;omega),j0]
 rw[show LV N _ x.2.2.2.1=_ from Ux H x.2.2.2.1,j0,xW]
 cases hv:tN env x.2.2.2.1 with
 |some v=>
  refine⟨rfl,?_⟩
  unfold tN at hv
  obtain⟨y,b,rfl⟩:=jL.1 hv
  exact H.env.2 y (kZ b)
 |none=>exact⟨_,rfl⟩
theorem qBs(d:0<=x.2.1):tP a ((s.1,s.2.1,true),.inr (BS w x.2.1)) (FX N (eP (lD L) env w (nQ s a)) c x):=by
 unfold FX BS
 have b:wK .u64 w x.2.1=some (w.fdiv (2^(min x.2.1.toNat IntKind.u64.bits))):=by unfold wK;rw[jA aa]
 rw[show wK .u64 _ x.2.1=_ from b,j0]
 exact⟨rfl,HT _⟩
variable {n:Nat}
abbrev EP(N:Nat)(L:List bT)(env:mR)(w:Int)(Z:Int->BA->Prop)(F:Int->Prop)(n:Nat):Prop:=
 ∀(D a:Nat) (t:Aa) (vs:List Int) (i:Int) (s:Es),Cnd n s->3*n<=D->a<=64->CC Z F t->t.2.2.2.1.length=vs.length->(∀v∈vs,VB v)->0<=i->i<t.2.2.2.2.length->
  tP a (ev (nH L env w) n a t vs i s) (GN N D (eP (lD L) env w (nQ s a)) (t.1,t.2,vs) i)
theorem YJ(u:EP N L env w Z F n){D a:Nat}{s:Es}{e:eU}{vs:List Int}(k:Cnd n s)(f:3*n<=D)(x:a<=64)(l:bC (yG (lD L) e).2.2 e.2.2.2.2.1=some (nY L e).2)(b:CC Z F (nY L e))
  (p:(nY L e).2.2.2.1.length=vs.length) (r:∀v∈vs,VB v):tP a (pZ (ev (nH L env w) n) a (nY L e) vs s) (GE N (D+1) (eP (lD L) env w (nQ s a)) e vs):=by
 unfold pZ
 by_cases h64:a=64
 .subst h64
  rw[jB rfl]
  refine⟨((64:Nat):Int),?_⟩
  show FJ N (GN N D) (GE N D) (GC N D) (GB N D) (GI N D) (GR N D) (eP (lD L) env w (nQ s 64)) e vs=_
  unfold FJ
  rw[xW];rfl
 rw[jA h64]
 have y:=b.1.2.1
 have d:=b.1.1.2
 have c:=u D (a+1) (nY L e) vs (((nY L e).2.2.2.2.length:Int)-1) s k f aa b p r aa aa
 have key:∀o,GN N D (eP (lD L) env w (nQ s (a+1))) ((nY L e).1,(nY L e).2,vs) (((nY L e).2.2.2.2.length:Int)-1)=some o->GE N (D+1) (eP (lD L) env w (nQ s a)) e vs=some (Mk o):=λo q=>
  Zr (t:=nQ s a) (by show((a:Nat):Int)≠64;omega) l (by
   rw[show wI ((nQ s a).2.2.1+1)=((a+1:Nat):Int) from by show wI ((a:Int)+1)=_;rw[bP aa aa];rfl]
   rw[bP aa aa]
   exact q)
 revert c
 generalize ev (nH L env w) n (a+1) (nY L e) vs (((nY L e).2.2.2.2.length:Int)-1) s=o
 obtain⟨s',er|v⟩:=o
 .rintro⟨a',h⟩
  exact⟨a',key _ h⟩
 rintro⟨h,g⟩
 refine⟨(key _ h).trans ?_,g⟩
 show some (Sum.inr ((pV s'.1,(s'.2.1:Int),wI (((a+1:Nat):Int)-1),s'.2.2),v))=_
 rw[bP aa aa,show(((a+1:Nat):Int)-1)=(a:Int) from by omega]
def Bm(a:Nat)(acc:List Int)(k:Nat)(o:Eo (List Int))(r:Option ((List Int×Int×Int×Bool×IS)⊕rH)):Prop:=match o.2 with
 | .inr us=>r=some (.inl (acc++us,(o.1.2.1:Int),(a:Int),o.1.2.2,pV o.1.1))/\(∀u∈us,VB u)/\us.length=k
 | .inl e=>∃a':Int,r=some (.inr (.inl (e,(pV o.1.1,(o.1.2.1:Int),a',o.1.2.2))))
theorem Io(E:EP N L env w Z F n){D a:Nat}{t:Aa}{vs:List Int}(p:3*n<=D)(q:a<=64)(A:CC Z F t)(y:t.2.2.2.1.length=vs.length)(B:∀v∈vs,VB v){x:Ex}{t0:oY}
  (R:x.2.2.2.2.length<=20000) (z:∀j∈x.2.2.2.2,0<=j/\j<(t.2.2.2.2.length:Int)):∀(d i M:Nat) (acc:List Int) (s:Es),i+d=x.2.2.2.2.length->d<M->acc.length<=i->Cnd n s->
  Bm a acc d (tO (ev (nH L env w) n a t vs) (x.2.2.2.2.drop i) s) (aC (wQ N (GN N D) (eP (lD L) env w t0) (t.1,t.2,vs) x) M (acc,(i:Int),(s.2.1:Int),(a:Int),s.2.2,pV s.1))
 |_,_,0,_,_,_,h,_,_=>absurd h (kS _)
 |0,i,M+1,acc,s,G,b,f,k=>by
  rw[jO aa]
  refine⟨?_,λu c=>(by cases c),rfl⟩
  simp only[aC,wQ]
  rw[jA ah,gH];rfl
 |d+1,i,M+1,acc,s,G,b,f,k=>by
  have hi:i<x.2.2.2.2.length:=by omega
  rw[zI hi]
  have r:=z _ (kE hi)
  have K:=E D a t vs x.2.2.2.2[i] s k p q A y B r.1 r.2
  have l:=Gr.ev (nH L env w) n a t vs x.2.2.2.2[i] s
  unfold tO
  revert K l
  generalize ev (nH L env w) n a t vs x.2.2.2.2[i] s=o
  obtain⟨s',er|v⟩:=o
  .rintro⟨a',h⟩ _
   have e:wQ N (GN N D) (eP (lD L) env w t0) (t.1,t.2,vs) x (acc,(i:Int),(s.2.1:Int),(a:Int),s.2.2,pV s.1)=some (.inr (.inr (.inl (er,(pV s'.1,(s'.2.1:Int),a',s'.2.2))))):=by
    simp only[wQ]
    rw[jB (by simpa using hi),eZ hi,j0,show GN N D _ _ _=_ from h];rfl
   refine⟨a',?_⟩
   simp only[aC,e,j0];rfl
  rintro⟨h,g⟩ l
  have e:wQ N (GN N D) (eP (lD L) env w t0) (t.1,t.2,vs) x (acc,(i:Int),(s.2.1:Int),(a:Int),s.2.2,pV s.1)=some (.inl (acc++[v],((i+1:Nat):Int),(s'.2.1:Int),(a:Int),s'.2.2,pV s'.1)):=by
   simp only[wQ]
   rw[jB (by simpa using hi),eZ hi,j0,show GN N D _ _ _=_ from h]
   simp only[j0,nQ]
   rw[lQ af aa,j0,bP aa aa];rfl
  simp only[aC,e,j0]
  have rc:=Io E p q A y B (t0:=t0) R z d (i+1) M (acc++[v]) s' aa aa aj (k.gr l)
  revert rc
  show Bm a (acc++[v]) d _ _->Bm a acc (d+1) (bE (s',Sum.inr v) _) _
  simp only[bE]
  generalize tO (ev (nH L env w) n a t vs) (x.2.2.2.2.drop (i+1)) s'=o2
  obtain⟨s2,er|us⟩:=o2
  .rintro⟨a',b⟩
   exact⟨a',b⟩
  rintro⟨b,f,H⟩
  refine⟨b.trans ?_,λu c=> ?_,by show(v::us).length=d+1;rw[jC,H]⟩
  .show some (Sum.inl ((acc++[v])++us,_))=some (Sum.inl (acc++(v::us),_))
   rw[kU];rfl
  rcases jK.1 c with rfl|c
  .exact g
  exact f u c
theorem qBa(H:Wrl N L env Z F)(M:EP N L env w Z F n){D a:Nat}{t:Aa}{vs:List Int}{s:Es}{x:Ex}(G:Cnd n s)(V:3*n<=D)(B:a<=64)(K:CC Z F t)(Y:t.2.2.2.1.length=vs.length)(hv:∀v∈vs,VB v)
  (hx:x.2.2.2.2.length<=20000) (ho:∀j∈x.2.2.2.2,0<=j/\j<(t.2.2.2.2.length:Int)):
  tP a (bE (lT s (DV L (oX (λp=>bB L 1 p x.2.2.2.1) x.2.2.2.1 (t.1.1::t.1.2.1) [])).1,(DV L (oX (λp=>bB L 1 p x.2.2.2.1) x.2.2.2.1 (t.1.1::t.1.2.1) [])).2) λu s=>bE (tO (ev (nH L env w) n a t vs) x.2.2.2.2 s) λus s=>
   if us.length=u.2.2.2.1.length then pZ (ev (nH L env w) n) a u us s else(s,.inl 13)) (GC N (D+2) (eP (lD L) env w (nQ s a)) (t.1,t.2,vs) x):=by
 have hN:=H.hN
 have h8:=K.2.1
 show tP a _ (QV N (GN N (D+1)) (GE N (D+1)) (GC N (D+1)) (GB N (D+1)) (GI N (D+1)) (GR N (D+1)) (eP (lD L) env w (nQ s a)) (t.1,t.2,vs) x)
 unfold QV
 have c:GU N (lD L) t.1 x.2.2.2.1=some (oX (λp=>bB L 1 p x.2.2.2.1) x.2.2.2.1 (t.1.1::t.1.2.1) []):=Ya (f:=t.1) aa aa
 rw[show GU N _ _ x.2.2.2.1=_ from c,j0]
 obtain⟨y,z⟩:=DE (E:=λp=>bB L 1 p x.2.2.2.1) (nm:=x.2.2.2.1) (λp=>uY L 1 p _) (t.1.1::t.1.2.1) []
 generalize oX (λp=>bB L 1 p x.2.2.2.1) x.2.2.2.1 (t.1.1::t.1.2.1) []=r at y z
 obtain⟨e,ks,k⟩:=r
 simp only[jC,jD] at z
 rw[show sK N _ ks=_ from NL (N:=N) (W:=lD L) (env:=env) (w:=w) (s:=s) (a:=a) (ks:=ks) aa aa,j0,Ae]
 unfold DV
 dsimp only
 by_cases hk:k=0
 .subst hk
  obtain⟨p,rfl,g⟩:=y rfl
  obtain⟨A,R,f3⟩:=Ab H g
  rw[jB rfl]
  simp only[bE]
  rw[show(bif decide ((0:Int)≠0) then(.inl 0:Int⊕Unit) else .inr ())= .inr () from rfl,j0]
  dsimp only
  have q:=Gr.seq (λi s=>Gr.ev (nH L env w) n a t vs i s) x.2.2.2.2 (lT s ks)
  have b:=Io M (D:=D+1) aa B K Y hv (t0:=nQ s a) hx ho x.2.2.2.2.length 0 N [] (lT s ks) aa aa (jN _) (G.gr (Gr.see s ks))
  rw[jX,show((0:Nat):Int)=0 from rfl] at b
  revert b q
  generalize tO (ev (nH L env w) n a t vs) x.2.2.2.2 (lT s ks)=o
  obtain⟨s',er|us⟩:=o
  .rintro _ ⟨a',h⟩
   rw[show aC (wQ N (GN N (D+1)) _ _ x) N _=_ from h,j0]
   exact⟨a',rfl⟩
  rintro q ⟨h,S,h3⟩
  rw[show aC (wQ N (GN N (D+1)) _ _ x) N _=_ from h,j0]
  dsimp only
  rw[show bC _ _=_ from A,j0,xW]
  simp only[kH]
  by_cases hlen:us.length=(nY L (bB L 1 p x.2.2.2.1)).2.2.2.1.length
  .rw[jB hlen,show((us.length:Int) !=((nY L (bB L 1 p x.2.2.2.1)).2.2.2.1.length:Int))=false from by simp[hlen],cond_false,j0]
   have l:=YJ M (a:=a) ((G.gr (Gr.see s ks)).gr q) V B A R hlen.symm S
   revert l
   dsimp only
   generalize pZ (ev (nH L env w) n) a (nY L (bB L 1 p x.2.2.2.1)) us s'=o2
   obtain⟨s2,er|v⟩:=o2
   .rintro⟨a',d⟩
    rw[show GE N (D+1) _ _ us=_ from d]
    exact⟨a',rfl⟩
   rintro⟨d,U⟩
   rw[show GE N (D+1) _ _ us=_ from d]
   exact⟨rfl,U⟩
  rw[jA hlen,show((us.length:Int) !=((nY L (bB L 1 p x.2.2.2.1)).2.2.2.1.length:Int))=true from by simp;omega,cond_true,j0]
  exact⟨_,rfl⟩
 rw[jA hk,jI hk]
 exact⟨_,rfl⟩
variable {D:Nat} {t:Aa} {vs:List Int}
theorem qBz(A:EP N L env w Z F n)(l:Cnd n s)(f:3*n<=D)(g:a<=64)(u:CC Z F t)(r:t.2.2.2.1.length=vs.length)(y:∀v∈vs,VB v){j k:Nat}(b:x.2.2.2.2=[(j:Int),(k:Int)])(M:j<t.2.2.2.2.length)(R:k<t.2.2.2.2.length):
  tP a (bE (ev (nH L env w) n a t vs (nN x 0) s) λp s=>bE (ev (nH L env w) n a t vs (nN x 1) s) λq s=>(s,JS x.2.2.1 p q)) (GB N (D+1) (eP (lD L) env w (nQ s a)) (t.1,t.2,vs) x):=by
 have E:nN x 0=(j:Int):=by unfold nN;rw[b];rfl
 have G:nN x 1=(k:Int):=by unfold nN;rw[b];rfl
 have e:bC x.2.2.2.2 0=some (j:Int):=by rw[b];rfl
 have z:bC x.2.2.2.2 1=some (k:Int):=by rw[b];rfl
 rw[E,G]
 have H:=A D a t vs j s l f g u r y aa aa
 have c:=Gr.ev (nH L env w) n a t vs j s
 revert H c
 generalize ev (nH L env w) n a t vs j s=o
 obtain⟨s1,er|p⟩:=o
 .rintro⟨a',h⟩ _;exact⟨a',qAz e h⟩
 rintro⟨h,S⟩ c
 have K:=A D a t vs k s1 (l.gr c) f g u r y aa aa
 simp only[bE]
 revert K
 generalize ev (nH L env w) n a t vs k s1=o
 obtain⟨s2,er|q⟩:=o
 .rintro⟨a',d⟩;exact⟨a',qAd e z h d⟩
 rintro⟨d,B⟩
 rw[qDp e z h d]
 exact qDt B a s2
theorem qBv{m:oY}{W:EF}{c:PD}{a:Int}{z:Int×oY}(d:bC x.2.2.2.2 0=some a)(b:GN N D (eP W env w m) c a=some (.inl z)):GI N (D+1) (eP W env w m) c x=some (.inl z):=by
 show FB N (GN N D) (GE N D) (GC N D) (GB N D) (GI N D) (GR N D) (eP W env w m) c x=_
 unfold FB
 rw[d,j0,show GN N D _ _ a=some (.inl z) from b];rfl
theorem Ly{m d:oY}{W:EF}{c:PD}{b j p:Int}{o:rH}(k:bC x.2.2.2.2 0=some b)(a:bC x.2.2.2.2 (if p=0 then 2 else 1)=some j)(h:GN N D (eP W env w m) c b=some (.inr (d,p)))(e:GN N D (eP W env w d) c j=some o):
  GI N (D+1) (eP W env w m) c x=some o:=by
 show FB N (GN N D) (GE N D) (GC N D) (GB N D) (GI N D) (GR N D) (eP W env w m) c x=_
 unfold FB
 obtain⟨f,s1,g,l⟩:=d
 rw[k,j0,show GN N D _ _ b=some (.inr ((f,s1,g,l),p)) from h,j0]
 dsimp only
 by_cases hp:p=0
 .rw[jB hp] at a
  rw[jA (by simpa using hp),a,j0,show GN N D _ _ j=some o from e]
  cases o<;>rfl
 rw[jA hp] at a
 rw[jB (by simpa using hp),a,j0,show GN N D _ _ j=some o from e]
 cases o<;>rfl
theorem qDq(G:EP N L env w Z F n)(r:Cnd n s)(f:3*n<=D)(g:a<=64)(B:CC Z F t)(z:t.2.2.2.1.length=vs.length)(E:∀v∈vs,VB v){j k l:Nat}(d:x.2.2.2.2=[(j:Int),(k:Int),(l:Int)])(V:j<t.2.2.2.2.length)(K:k<t.2.2.2.2.length)(A:l<t.2.2.2.2.length):
  tP a (bE (ev (nH L env w) n a t vs (nN x 0) s) λp s=>ev (nH L env w) n a t vs (nN x (if p=0 then 2 else 1)) s) (GI N (D+1) (eP (lD L) env w (nQ s a)) (t.1,t.2,vs) x):=by
 have R:nN x 0=(j:Int):=by unfold nN;rw[d];rfl
 have e:bC x.2.2.2.2 0=some (j:Int):=by rw[d];rfl
 rw[R]
 have S:=G D a t vs j s r f g B z E aa aa
 have b:=Gr.ev (nH L env w) n a t vs j s
 revert S b
 generalize ev (nH L env w) n a t vs j s=o
 obtain⟨s1,er|p⟩:=o
 .rintro⟨a',h⟩ _;exact⟨a',qBv e h⟩
 rintro⟨h,Y⟩ b
 simp only[bE]
 have u:∃y:Nat,nN x (if p=0 then 2 else 1)=(y:Int)/\bC x.2.2.2.2 (if p=0 then 2 else 1)=some (y:Int)/\y<t.2.2.2.2.length:=by
  unfold nN
  rw[d]
  split
  .exact⟨l,rfl,rfl,A⟩
  exact⟨k,rfl,rfl,K⟩
 obtain⟨y,y1,H,y3⟩:=u
 rw[y1]
 have U:=G D a t vs y s1 (r.gr b) f g B z E aa aa
 revert U
 generalize ev (nH L env w) n a t vs y s1=o
 obtain⟨s2,er|q⟩:=o
 .rintro⟨a',c⟩;exact⟨a',Ly e H h c⟩
 rintro⟨c,M⟩;exact⟨Ly e H h c,M⟩
theorem qDu{v:Int}:Int.tmod (wI ((Int.tmod v 256)+256)) 256=v%256:=by
 have e: -256<Int.tmod v 256/\Int.tmod v 256<256:=by
  constructor
  .have:=Int.lt_tmod_of_pos v (show(0:Int)<256 by decide);omega
  exact Int.tmod_lt_of_pos v ac
 rw[bP aa aa]
 have c:Int.tmod (Int.tmod v 256+256) 256=(Int.tmod v 256+256)%256:=Int.tmod_eq_emod_of_nonneg aa
 rw[c]
 have d:=Int.tmod_eq_emod (a:=v) (b:=256)
 rw[d]
 split<;>omega
theorem UO(i m:Int):(if decide (i<0)then some true else some (decide (i>=m)):Option Bool)=some (!decide (0<=i/\i<m)):=by
 by_cases h:i<0
 .rw[jB (jI h),jP aa];rfl
 rw[jA (by simpa using h)]
 by_cases g:i<m
 .rw[jI (show 0<=i/\i<m by omega),jP aa];rfl
 rw[jP (show ¬(0<=i/\i<m) by omega),jI aa];rfl
theorem qAo(H:Wrl N L env Z F)(K:EP N L env w Z F n)(U:Cnd n s)(S:3*n<=D)(B:a<=64)(ht:CC Z F t)(Y:t.2.2.2.1.length=vs.length)(z:∀v∈vs,VB v){j:Nat}(E:x.2.2.2.2=[(j:Int)])(hj:j<t.2.2.2.2.length):
  tP a (bE (lT s (rB L x.2.2.2.1).1,(rB L x.2.2.2.1).2) λu s=>bE (ev (nH L env w) n a t vs (nN x 0) s) λi s=>
   match u with
   | .inl b=>if 0<=i/\i<b.size then(s,.inr ((b.data.toList.getD i.toNat 0).toNat:Int)) else(s,.inl 3)
   | .inr u=>if i=0 then bE (pZ (ev (nH L env w) n) a u [] s) λv s=>(s,.inr (v%256)) else(s,.inl 3)) (GR N (D+2) (eP (lD L) env w (nQ s a)) (t.1,t.2,vs) x):=by
 show tP a _ (QU N (GN N (D+1)) (GE N (D+1)) (GC N (D+1)) (GB N (D+1)) (GI N (D+1)) (GR N (D+1)) (eP (lD L) env w (nQ s a)) (t.1,t.2,vs) x)
 unfold QU
 have o0:nN x 0=(j:Int):=by unfold nN;rw[E];rfl
 have G:bC x.2.2.2.2 0=some (j:Int):=by rw[E];rfl
 rw[show yW N _ _=_ from ZQ (w:=w) H x.2.2.2.1 s a,j0,Ae,o0]
 have d:=U.gr (Gr.see s (rB L x.2.2.2.1).1)
 have l:=K (D+1) a t vs j _ d aa B ht Y z aa aa
 have c:=Gr.ev (nH L env w) n a t vs j (lT s (rB L x.2.2.2.1).1)
 rcases XS H x.2.2.2.1 with ⟨b,hb,f,g⟩|⟨ks,e,V,f,g⟩|⟨q,ks,f,g⟩
 .rw[f] at l c d ⊢
  rw[g]
  rw[show(bif decide ((false,qO,b,(0:Int)).2.2.2≠0) then(.inl (false,qO,b,(0:Int)).2.2.2:Int⊕Unit) else .inr ())= .inr () from rfl,j0]
  simp only[bE,j9,jF,j0,G]
  revert l c
  generalize ev (nH L env w) n a t vs j _=o
  obtain⟨s1,er|i⟩:=o
  .rintro _ ⟨a',h⟩
   rw[show GN N (D+1) _ _ (j:Int)=_ from h]
   exact⟨a',rfl⟩
  rintro c ⟨h,hp⟩
  rw[show GN N (D+1) _ _ (j:Int)=_ from h]
  simp only[j0]
  rw[UO,j0,xW,j0]
  by_cases hi:0<=i/\i<b.size
  .rw[jB hi,jI hi]
   obtain⟨k,rfl⟩:∃k:Nat,i=(k:Int):=⟨i.toNat,by omega⟩
   have p:k<b.data.toList.length:=by have:=hi.2;simp only[ByteArray.size] at this;simp only[dF];omega
   show tP a _ ((lH b (k:Int)).bind λy=>some (Sum.inr (nQ s1 a,wI (y.toNat:Int))))
   have r:(b.data.toList[k]).toNat<256:=UInt8.toNat_lt _
   rw[pD p,j0,bP aa aa,jZ,jV,List.getElem?_eq_getElem p,gP]
   exact⟨rfl,by unfold VB;omega⟩
  rw[jA hi,jP hi]
  exact⟨_,rfl⟩
 .rw[f,g,jI V]
  exact⟨_,rfl⟩
 rw[f] at l c d ⊢
 rw[g]
 obtain⟨M,A,R⟩:=Ab H q
 have y:(nY L (bB L 3 eA x.2.2.2.1)).2.2.2.1=[]:=A.1.2.2.2 (by rw[R];decide)
 rw[show(bif decide ((true,bB L 3 eA x.2.2.2.1,eA,(0:Int)).2.2.2≠0) then(.inl (true,bB L 3 eA x.2.2.2.1,eA,(0:Int)).2.2.2:Int⊕Unit) else .inr ())= .inr () from rfl,j0]
 simp only[bE,jH,j0,G]
 revert l c
 generalize ev (nH L env w) n a t vs j _=o
 obtain⟨s1,er|i⟩:=o
 .rintro _ ⟨a',h⟩
  rw[show GN N (D+1) _ _ (j:Int)=_ from h]
  exact⟨a',rfl⟩
 rintro c ⟨h,hp⟩
 rw[show GN N (D+1) _ _ (j:Int)=_ from h]
 simp only[j0]
 rw[UO,j0,xW,j0]
 by_cases hi:i=0
 .subst hi
  have r:=YJ K (a:=a) (d.gr c) S B M A (vs:=[]) (by rw[y];rfl) (λv z=>by cases z)
  rw[jB rfl,jI (show(0:Int)<=0/\(0:Int)<1 by decide)]
  simp only[kP,cond_false,j9,jF]
  revert r
  generalize pZ (ev (nH L env w) n) a (nY L (bB L 3 eA x.2.2.2.1)) [] s1=o2
  obtain⟨s2,er|v⟩:=o2
  .rintro⟨a',p⟩
   rw[show GE N (D+1) _ _ []=_ from p]
   exact⟨a',rfl⟩
  rintro⟨p,h5⟩
  rw[show GE N (D+1) _ _ []=_ from p]
  simp only[j0,qDu]
  exact⟨rfl,by unfold VB;omega⟩
 rw[jA hi,jP (show ¬(0<=i/\i<1) by omega)]
 exact⟨_,rfl⟩
theorem Mp(H:Wrl N L env Z F):∀n,EP N L env w Z F n
 |0,_,_,_,_,_,s,r,_,_,_,_,_,_,_=>by have:=r.1;have:=r.2;omega
 |n+1,D,a,t,vs,i,s,r,Y,A,u,B,z,V,hi=>by
  have E:=Mp H n
  obtain⟨D,rfl⟩:∃D',D=D'+3:=⟨D-3,by omega⟩
  have hD':3*n<=D:=by omega
  unfold ev
  by_cases hs:s.2.1=20000
  .rw[jB hs]
   exact⟨(a:Int),Zo (t:=nQ s a) (by show((s.2.1:Nat):Int)=20000;omega)⟩
  rw[jA hs]
  have hs':(nQ s a).2.1≠20000:=by show((s.2.1:Nat):Int)≠20000;omega
  obtain⟨k,rfl⟩:∃k:Nat,i=(k:Int):=⟨i.toNat,by omega⟩
  have M:k<t.2.2.2.2.length:=by omega
  rw[jZ,List.getElem?_eq_getElem M]
  dsimp only
  have g:bC ((t.1,t.2,vs):PD).2.1.2.2.2 (k:Int)=some t.2.2.2.2[k]:=eZ M
  have G:=u.1.1.1 k _ (List.getElem?_eq_getElem M)
  generalize t.2.2.2.2[k]=x at g G
  have d:up (nQ s a)=nQ (s.1,s.2.1+1,s.2.2) a:=by
   show(pV s.1,wI ((s.2.1:Int)+1),(a:Int),s.2.2)=(pV s.1,((s.2.1+1:Nat):Int),(a:Int),s.2.2)
   have:=r.1
   rw[bP aa aa];rfl
  have q:Cnd n (s.1,s.2.1+1,s.2.2):=⟨by have:=r.1;show s.2.1+1<=20000;omega,by have:=r.2;show 20000<s.2.1+1+n;omega⟩
  have o:∀j:Nat,j<k->j<t.2.2.2.2.length:=λj R=>by omega
  unfold yM
  rcases G with ⟨b,e,h⟩|⟨b,e,h⟩|⟨b,-,e,h⟩|⟨b,-,j,l,e,h,K⟩|⟨b,j,l,m,e,h,K,U⟩|⟨b,-,j,e,h⟩|⟨b,-⟩|⟨b,e,h,-⟩
  .rw[jB b,qBb hs' g b,d]
   exact⟨rfl,by unfold VB;omega⟩
  .obtain⟨p,S⟩:∃p:Nat,x.2.1=(p:Int):=⟨x.2.1.toNat,by omega⟩
   have y:p<vs.length:=by omega
   rw[jA aa,jB b,Zm hs' g b (v:=vs[p]) (by rw[S];exact eZ y),d,S,jZ,jV,List.getElem?_eq_getElem y]
   exact⟨rfl,z _ (kE y)⟩
  .rw[jA aa,jA aa,jB b,Xa hs' g b,d,show(nH L env w).cl t.1 x.2.2.2.1=_ from jA (by have:=u.2.1;omega)]
   exact qBa H E q hD' A u B z e λj R=>by have:=h j R;omega
  .rw[jA aa,jA aa,jA aa,jB b,qAy hs' g b,d]
   exact qBz E q aa A u B z e (o _ h) (o _ K)
  .rw[jA aa,jA aa,jA aa,jA aa,jB b,qCb hs' g b,d]
   exact qDq E q aa A u B z e (o _ h) (o _ K) (o _ U)
  .rw[jA aa,jA aa,jA aa,jA aa,jA aa,jB b]
   rw[xX (f:=59) hs' g (by rw[b];rfl) rfl,d]
   exact qAo H E q hD' A u B z e (o _ h)
  .rcases b with b|b|b
   .rw[jA aa,jA aa,jA aa,jA aa,jA aa,jA aa,jB b]
    rw[xX (f:=60) hs' g (by rw[b];rfl) rfl,d]
    exact qBm (c:=(t.1,t.2,vs)) H
   .rw[jA aa,jA aa,jA aa,jA aa,jA aa,jA aa,jA aa,jB b]
    rw[xX (f:=61) hs' g (by rw[b];rfl) rfl,d]
    exact qEv (c:=(t.1,t.2,vs)) H
   rw[jA aa,jA aa,jA aa,jA aa,jA aa,jA aa,jA aa,jA aa,jB b]
   rw[xX (f:=62) hs' g (by rw[b];rfl) rfl,d]
   exact qDy (c:=(t.1,t.2,vs)) H
  rw[jA aa,jA aa,jA aa,jA aa,jA aa,jA aa,jA aa,jA aa,jA aa]
  rw[xX (f:=63) hs' g (by rw[b];rfl) rfl,d]
  exact qBs (N:=N) (c:=(t.1,t.2,vs)) e
abbrev IG:Ky->Ky->Int:=qQ sX (qQ pH pH)
theorem cmpKy_lin:Lin IG:=HN cmpI_lin (HN cmpS_lin cmpS_lin)
def AD(o:IS):List Ky:=BL (ltOf IG) ((Option.getD o []).map (·.1))
theorem Wy{l k:List Ky}(h:l.Perm k):BL (ltOf IG) l=BL (ltOf IG) k:=
 SU (r:=λx y=>ltOf IG y x=false) (λx y a b=>cmpKy_lin.total x y b a) ((CY l).trans (h.trans (CY k).symm)) (MM cmpKy_lin l) (MM cmpKy_lin k)
theorem Ml{N:Nat}:∀(k:List (Ky×Bool)) (acc:List Ky),acc.length+k.length<1000000->mY (KM N) k acc=some (acc++k.map (·.1))
 |[],acc,_=>by simp[mY,KM]
 |x::k,acc,h=>by
  simp only[jC] at h
  simp only[mY,KM]
  rw[show iK 40 acc [(x.1.1,x.1.2.1,x.1.2.2)]=some (acc++[x.1]) from lQ af aa]
  simp only[j0]
  rw[Ml k (acc++[x.1]) aj]
  simp
def IM(o:Eo Int):Int×Int×Int:=match o.2 with
 | .inr v=>if v=0 then(2,0,0) else(1,v,0)
 | .inl e=>(3,0,e)
theorem qCq{N:Nat}{m:UY}{E:ON}{args:List Int}{o:Eo Int}{a:Nat}(p:40<N)(h:tP a o (FS N m E args))(r:(Option.getD (pV o.1.1) []).length<1000000):
  ∃t,CR N m E args=some (t,(IM o,o.1.2.2,AD (pV o.1.1),(o.1.2.1:Int))):=by
 have key:∀(q:rH),(EA q).1=pV o.1.1->(EA q).2.1=(o.1.2.1:Int)->(EA q).2.2.2=o.1.2.2->(VA q,UV q,UZ q)=IM o->FS N m E args=some q->∃t,CR N m E args=some (t,(IM o,o.1.2.2,AD (pV o.1.1),(o.1.2.1:Int))):=λq c d f g l=>by
  refine⟨EA q,?_⟩
  unfold CR
  rw[show KP N _ _ _=_ from Yx l,j0]
  dsimp only
  rw[c,d,f,g]
  rw[show PJ (pV o.1.1)=some () from rfl,j0]
  refine Wd λk b=> ?_
  rw[Ml k [] (by rw[jD,b.length_eq];omega),kH,j0]
  have n:CJ N (k.map (·.1))=some (AD (pV o.1.1)):=by
   unfold CJ
   rw[jB ⟨by omega,by rw[gN,b.length_eq];omega⟩]
   unfold AD
   exact kF some (Wy (b.map _))
  rw[n];rfl
 obtain⟨s,e|v⟩:=o
 .obtain⟨a',h⟩:=h
  exact key _ rfl rfl rfl rfl h
 obtain⟨h,-⟩:=h
 refine key _ rfl rfl rfl ?_ h
 show(if v=0 then 2 else 1,v,0)=IM (s,.inr v)
 unfold IM
 dsimp only
 split
 .rename_i h0;rw[h0]
 rfl
def zV(L:List bT)(env:mR)(w:Int)(P T:BA):Eo Int:=pZ (ev (nH L env w) 20001) 0 (nY L (bB L 2 P T)) [] ([(2,P,T)],0,false)
def Bl(o:Eo Int):(Int×Int×Int)×Bool×List Ky×Int:=(IM o,o.1.2.2,AD (pV o.1.1),(o.1.2.1:Int))
theorem ZR:∀(ks:List Ky) (M:List (Ky×Bool)),(M.map (·.1)).Nodup->((ks.foldl (λM k=>mset M k true) M).map (·.1)).Nodup/\(ks.foldl (λM k=>mset M k true) M).length<=M.length+ks.length
 |[],M,h=>⟨h,jN _⟩
 |k::ks,M,h=>by
  rw[kD,jC]
  have c:=qAs h k true
  obtain⟨a,b⟩:=ZR ks (mset M k true) (SR h k true)
  exact⟨a,by omega⟩
def Qk(s:Es):Prop:=s.1.length<=10*s.2.1+1
theorem Qk.bE{α β:Type}{o:Eo α}{k:α->Es->Eo β}(h:Qk o.1)(a:∀v u,Qk u->Qk (k v u).1):Qk (bE o k).1:=by
 obtain⟨u,e|v⟩:=o
 .exact h
 exact a v u h
def QkF(F:xJ):Prop:=∀a c vs i s,Qk s->Qk (F a c vs i s).1
theorem Qk.seq{F:Int->Es->Eo Int}(h:∀i s,Qk s->Qk (F i s).1):∀(l:List Int) (s:Es),Qk s->Qk (tO F l s).1
 |[],_,a=>a
 |i::l,s,a=>(h i s a).bE λ_ u b=>(Qk.seq h l u b).bE λ_ _ b=>b
theorem Qk.enter{F:xJ}(h:QkF F)(a:Nat)(t:Aa)(vs:List Int)(s:Es)(b:Qk s):Qk (pZ F a t vs s).1:=by
 unfold pZ
 split
 .exact b
 exact h _ _ _ _ _ b
theorem BV{s:Es}{l:List Ky}(h:s.1.length+9<=10*s.2.1+1)(a:l.length<=9):Qk (lT s l):=by
 show(s.1++l).length<=10*s.2.1+1
 rw[jG];omega
theorem Qk.node{I:Lk}{F:xJ}(k:(∀f nm,(I.cl f nm).1.length<=9)/\∀p,(I.dt p).1.length<=9)(h:QkF F)(a:Nat)(c:Aa)(vs:List Int)(x:Ex)(s:Es)(e:s.1.length+9<=10*s.2.1+1):Qk (yM I F a c vs x s).1:=by
 have g:Qk s:=by unfold Qk;omega
 unfold yM
 split
 .exact g
 split
 .exact g
 split
 .refine Qk.bE (o:=(lT s _,_)) (BV e (k.1 ..)) λt u d=>(Qk.seq (λi s e=>h _ _ _ _ _ e) _ u d).bE λus u d=> ?_
  split
  .exact .enter h _ _ _ _ d
  exact d
 split
 .exact(h _ _ _ _ _ g).bE λ_ u d=>(h _ _ _ _ _ d).bE λ_ u d=>d
 split
 .exact(h _ _ _ _ _ g).bE λ_ u d=>h _ _ _ _ _ d
 split
 .refine Qk.bE (o:=(lT s _,_)) (BV e (k.2 ..)) λt u d=>(h _ _ _ _ _ d).bE λi u d=> ?_
  cases t with
  |inl b=>dsimp only;split<;>exact d
  |inr t=>
   dsimp only
   split
   .exact(Qk.enter h _ _ _ _ d).bE λ_ u d=>d
   exact d
 split
 .exact Qk.bE (o:=(lT s _,_)) (BV e (k.2 ..)) λ_ u d=>d
 split
 .exact BV e (k.2 ..)
 split
 .exact BV e (by show 1<=9;decide)
 exact g
theorem Qk.ev{I:Lk}(d:(∀f nm,(I.cl f nm).1.length<=9)/\∀p,(I.dt p).1.length<=9):∀n,QkF (ev I n)
 |0,_,_,_,_,_,b=>b
 |n+1,a,c,vs,i,s,b=>by
  unfold Go.Proofs.YtndcdhopdbkikabGreatDoor.ev
  split
  .exact b
  split
  .exact b
  exact .node d (Qk.ev d n) _ _ _ _ _ (by unfold Qk at b;show s.1.length+9<=10*(s.2.1+1)+1;omega)
theorem qDn(L:List bT)(env:mR)(w:Int):(∀f nm,((nH L env w).cl f nm).1.length<=9)/\∀p,((nH L env w).dt p).1.length<=9:=by
 refine⟨λf nm=> ?_,λp=> ?_⟩
 .show(if 8<f.2.1.length then([],.inl 0) else DV L _:List Ky×(Int⊕Aa)).1.length<=9
  split
  .exact kK _
  have:=(DE (E:=λp=>bB L 1 p nm) (nm:=nm) (λp=>uY L 1 p _) (f.1::f.2.1) []).2
  simp only[jC,jD] at this
  show(oX (λp=>bB L 1 p nm) nm (f.1::f.2.1) []).2.1.length<=9
  omega
 show(rB L p).1.length<=9
 unfold rB
 split
 .show 1<=9;decide
 show 2<=9;decide
theorem Gw(L:List bT)(env:mR)(w:Int)(P T:BA):(Option.getD (pV (zV L env w P T).1.1) []).length<1000000:=by
 have a:Qk (zV L env w P T).1:=Qk.enter (Qk.ev (qDn L env w) 20001) _ _ _ _ (by show 1<=10*0+1;decide)
 have b:(zV L env w P T).1.2.1<=20000:=(Gr.enter (Gr.ev (nH L env w) 20001) 0 (nY L (bB L 2 P T)) [] ([(2,P,T)],0,false)).2.2.1 (kK _)
 have:=(ZR (zV L env w P T).1.1 [] hQ).2
 unfold Qk at a
 show((zV L env w P T).1.1.foldl (λM k=>mset M k true) []).length<1000000
 simp only[jD] at this
 omega
theorem qAg{o:IS}(h:(Option.getD o []).length<1000000):(AD o).length<1000000:=by
 unfold AD
 rw[(CY _).length_eq,gN];exact h
theorem qEo(H:Wrl N L env Z F)(B:HS N L)(A:CK N env=some true){P T:BA}(h:(bB L 2 P T).2.2.2.2.2=1):
  zD N L env w (P,T)=some (Bl (zV L env w P T),0):=by
 have U:=H.hN
 obtain⟨M,rfl⟩:∃M,N=M+70000:=⟨N-70000,by omega⟩
 obtain⟨y,g,z⟩:=Ab H h
 have f:(nY L (bB L 2 P T)).2.2.2.1=[]:=g.1.2.2.2 (by rw[z];decide)
 unfold zD
 have eW:(lD L).2.1=true:=by unfold lD;rw[jB H.hc]
 rw[Mi B aa,j0,jA (by rw[eW];decide),A]
 simp only[j0]
 rw[jA ac,show xS (M+70000) _ 2 P T=_ from NA 2 P T,j0,jA (by rw[h];decide)]
 have G:∀{α:Type} (K:Option (List (Int×Option Nat))->Option α),((iI (some []:Option (List (Int×Option Nat))) 1 (some 54:Option Nat)).bind λk=>(iI k 2 (some 55:Option Nat)).bind λl=>(iI l 3 (some 56:Option Nat)).bind λn=>(iI n 4 (some 57:Option Nat)).bind λo=>(iI o 5 (some 58:Option Nat)).bind λp=>(iI p 6 (some 59:Option Nat)).bind λq=>(iI q 7 (some 60:Option Nat)).bind λr=>(iI r 8 (some 61:Option Nat)).bind λu=>(iI u 9 (some 62:Option Nat)).bind λx=>(iI x 10 (some 63:Option Nat)).bind K)=K ndC:=λK=>by rfl
 rw[G]
 have b:sK (M+70000) (eP (lD L) env w (some [],0,0,false)) [(2,P,T)]=some (nQ ([(2,P,T)],0,false) 0):=NL (N:=M+70000) (W:=lD L) (env:=env) (w:=w) (s:=([],0,false)) (a:=0) (ks:=[(2,P,T)]) (by show 1<1000000;decide) (by show 1<M+70000;omega)
 rw[show sK (M+70000) _ [(2,P,T)]=_ from b,j0]
 have c:=YJ (Mp (w:=w) H 20001) (D:=M+69999) (a:=0) (s:=([(2,P,T)],0,false)) (e:=bB L 2 P T) (vs:=[]) ⟨kK _,by show 20000<0+20001;decide⟩ aa ac y g (by rw[f];rfl) (λv S=>by cases S)
 have d:=Gw L env w P T
 obtain⟨t,R⟩:=qCq (N:=M+70000) (m:=eP (lD L) env w (nQ ([(2,P,T)],0,false) 0)) (E:=bB L 2 P T) (args:=[]) aa c d
 rw[show CR (M+70000) _ _ []=_ from R]
 rfl
abbrev OQ:=(Int×Int×Int)×Bool×List Ky×Int
abbrev yR:=OQ×Int×Int
abbrev Rmc:=List bT×Pd×mR×Int×OQ×Int×Int
abbrev pT(L:List bT)(env:mR)(w:Int)(t:yR):Rmc:=(L,rG (mX L),env,w,t.1,t.2.1,t.2.2)
def vN(ks:List Ky):List Ky:=ks.foldl rI []
abbrev mW(s:Es)(e a:Int):yR:=(((0,0,0),s.2.2,vN s.1,(s.2.1:Int)),e,a)
theorem Dm:∀(ks l:List Ky),(ks.foldl rI l).length<=l.length+ks.length
 |[],l=>jN _
 |k::ks,l=>by
  have:=Dm ks (rI l k)
  have:=YU l k
  simp only[kD,jC];omega
theorem qCd(ks:List Ky):(vN ks).length<=ks.length:=by unfold vN;have:=Dm ks [];simpa using this
theorem wA(t:yR)(h:t.2.1=0)(e:Int):oT N (pT L env w t) e=some ((t.1,e,t.2.2),0):=by
 unfold oT
 rw[jB (by simp[h])];rfl
theorem Jr{p:List Ky}(b:p.length<1000000):∀(d i M:Nat) (l:List Ky),i+d=p.length->d<M->l.length+d<20000000->l.length+d<N->aC (EU N p) M ((i:Int),l)=some ((p.drop i).foldl rI l)
 |_,_,0,_,_,h,_,_=>absurd h (kS _)
 |0,i,M+1,l,a,_,_,_=>by
  simp only[aC,EU]
  rw[jA ad,jO aa];rfl
 |d+1,i,M+1,l,a,c,e,f=>by
  have hi:i<p.length:=by omega
  have g:=YU l p[i]
  simp only[aC,EU]
  rw[jB ad,eZ hi,j0,Yf _ aa aa,j0,bP aa aa]
  simp only[j0]
  rw[show((i:Int)+1)=((i+1:Nat):Int) by omega,Jr b d (i+1) M _ aa aa aa aa,zI hi,kD]
theorem qEt{s:Es}{e a:Int}{ks:List Ky}(h:s.1.length+ks.length<10000000)(c:10000000<N)(b:ks.length<1000000):pX N (pT L env w (mW s e a)) ks=some (mW (lT s ks) e a):=by
 have d:=qCd s.1
 have:=Jr (N:=N) b ks.length 0 N (vN s.1) aa aa aa aa
 rw[show((0:Nat):Int)=0 from rfl,jX] at this
 unfold pX
 rw[show aC (EU N ks) N (0,(pT L env w (mW s e a)).2.2.2.2.1.2.2.1)=_ from this]
 show some (((0,0,0),s.2.2,ks.foldl rI (vN s.1),(s.2.1:Int)),e,a)=some (mW (lT s ks) e a)
 show _=some (((0,0,0),s.2.2,vN (s.1++ks),(s.2.1:Int)),e,a)
 unfold vN
 rw[fC]
def yL(v:Int):Int⊕Int:=if v< -9007199254740992\/9007199254740992<v then .inl 3 else .inr v
def yJ(v:Int):Int:=if v<0 then wI (0-v) else v
def JB(op a b:Int):Int⊕Int:=
 if op=1 then yL (wI (a+b)) else if op=2 then yL (wI (a-b))
 else if op=3 then(if a=0\/b=0 then .inr 0 else if yJ a>(rK .i64 9007199254740992 (yJ b)).getD 0 then .inl 3 else .inr (wI (a*b)))
 else if op=6 then .inr (if a<b then 1 else 0) else if op=7 then .inr (if a=b then 1 else 0)
 else if b=0 then .inl 4 else if op=4 then .inr ((rK .i64 a b).getD 0) else .inr ((wH a b).getD 0)
def RelR(a:Nat)(o:Eo Int)(r:Option (yR×Int)):Prop:=match o.2 with
 | .inr v=>r=some (mW o.1 0 a,v)/\VB v
 | .inl e=>e≠0/\∃v,r=some (mW o.1 e a,v)
theorem RelR.err{a:Nat}{s:Es}{e v:Int}{r:Option (yR×Int)}(b:e≠0)(h:r=some (mW s e a,v)):RelR a (s,.inl e) r:=⟨b,v,h⟩
theorem RelR.val{a:Nat}{s:Es}{v:Int}{r:Option (yR×Int)}(b:VB v)(h:r=some (mW s 0 a,v)):RelR a (s,.inr v) r:=⟨h,b⟩
theorem Mc{s:Es}{a:Nat}{v:Int}(b:VB v):RelR a (s,yL v) (JZ N (pT L env w (mW s 0 a)) v):=by
 unfold JZ yL
 have e:(if decide (v< -9007199254740992)then some true else some (decide (v>9007199254740992)):Option Bool)=some (decide (v< -9007199254740992\/9007199254740992<v)):=by
  by_cases h:v< -9007199254740992
  .rw[jB (jI h),jI (Or.inl h)]
  rw[jA (by simpa using h)]
  by_cases g:v>9007199254740992
  .rw[jI g,jI (Or.inr g)]
  rw[jP g,jP aa]
 rw[e,j0]
 by_cases h:v< -9007199254740992\/9007199254740992<v
 .rw[jB h,jB (jI h),show oT N _ 3=_ from wA (mW s 0 a) rfl 3]
  exact RelR.err ac rfl
 rw[jA h,jA (show ¬decide (v< -9007199254740992\/9007199254740992<v)=true by simpa using h)]
 exact RelR.val b rfl
theorem Jv{a b:Int}(c:b≠0):∃v,rK .i64 a b=some v/\VB v:=by
 unfold rK
 rw[jA c]
 exact⟨_,rfl,HT _⟩
theorem qDs{b:Int}(a:b≠0)(c:VB b):yJ b≠0:=by
 unfold VB at c;unfold yJ
 by_cases h:b= -9223372036854775808
 .subst h;decide
 split
 .rw[bP aa aa];omega
 exact a
theorem Lx(b:Int):(if decide (b<0)then some (wI (0-b)) else some b:Option Int)=some (yJ b):=by
 unfold yJ
 by_cases h:b<0
 .rw[jB (jI h),jB h]
 rw[jA (by simpa using h),jA h]
theorem qCh{a b:Int}(h:VB a):VB (Int.tmod a b):=by
 unfold VB at*
 have d:(Int.tmod a b).natAbs<=a.natAbs:=by rw[Int.natAbs_tmod];exact Nat.mod_le _ _
 by_cases g:0<=a
 .omega
 have c:=Int.tmod_nonneg b (show 0<=-a by omega)
 rw[Int.neg_tmod] at c
 omega
theorem Ym{s:Es}{a:Nat}{op p q:Int}(l:VB p)(n:VB q):RelR a (s,JB op p q) (PZ N (pT L env w (mW s 0 a)) op p q):=by
 have pass:∀{x:Int⊕Int} {r:Option (yR×Int)},RelR a (s,x) r->RelR a (s,x) (r.bind λy=>some (((y.1.1.1,y.1.1.2.1,y.1.1.2.2.1,y.1.1.2.2.2),y.1.2.1,y.1.2.2),y.2)):=λ{x r} h=>by
  cases x with
  |inl e=>obtain⟨b,v,c⟩:=h;rw[c];exact⟨b,v,rfl⟩
  |inr v=>obtain⟨b,c⟩:=h;rw[b];exact⟨rfl,c⟩
 unfold PZ JB
 by_cases b:op=1
 .rw[jB b,jB (show(op==1)=true by simp[b])];exact pass (Mc (HT _))
 rw[jA b,jA (show ¬(op==1)=true by simpa using b)]
 by_cases c:op=2
 .rw[jB c,jB (show(op==2)=true by simp[c])];exact pass (Mc (HT _))
 rw[jA c,jA (show ¬(op==2)=true by simpa using c)]
 by_cases h3:op=3
 .rw[jB h3,jB (show(op==3)=true by simp[h3])]
  refine pass ?_
  unfold VG
  have e:(if(p==0)then some true else some (q==0):Option Bool)=some (decide (p=0\/q=0)):=by
   by_cases g:p=0
   .rw[jB (by simp[g]),jI (Or.inl g)]
   rw[jA (by simpa using g)]
   by_cases k:q=0
   .rw[jI (Or.inr k)];simp[k]
   rw[jP (by simp[g,k])];simp[k]
  rw[e,j0]
  by_cases h:p=0\/q=0
  .rw[jB h,jB (jI h)];exact RelR.val (by unfold VB;omega) rfl
  rw[jA h,jA (show ¬decide (p=0\/q=0)=true by simpa using h),Lx,j0,Lx,j0]
  obtain⟨v,d,-⟩:=Jv (a:=9007199254740992) (qDs (λg=>h (.inr g)) n)
  rw[d,j0,gP]
  by_cases g:yJ p>v
  .rw[jB g,jB (jI g),show oT N _ 3=_ from wA (mW s 0 a) rfl 3]
   exact RelR.err ac rfl
  rw[jA g,jA (show ¬decide (yJ p>v)=true by simpa using g)]
  exact RelR.val (HT _) rfl
 rw[jA h3,jA (show ¬(op==3)=true by simpa using h3)]
 by_cases h6:op=6
 .rw[jB h6,jB (show(op==6)=true by simp[h6])]
  by_cases g:p<q
  .rw[jB g,jB (jI g)];exact RelR.val (by unfold VB;omega) rfl
  rw[jA g,jA (show ¬decide (p<q)=true by simpa using g)];exact RelR.val (by unfold VB;omega) rfl
 rw[jA h6,jA (show ¬(op==6)=true by simpa using h6)]
 by_cases h7:op=7
 .rw[jB h7,jB (show(op==7)=true by simp[h7])]
  by_cases g:p=q
  .rw[jB g,jB (by simp[g])];exact RelR.val (by unfold VB;omega) rfl
  rw[jA g,jA (show ¬(p==q)=true by simpa using g)];exact RelR.val (by unfold VB;omega) rfl
 rw[jA h7,jA (show ¬(op==7)=true by simpa using h7)]
 by_cases h0:q=0
 .rw[jB h0,jB (show(q==0)=true by simp[h0]),show oT N _ 4=_ from wA (mW s 0 a) rfl 4]
  exact RelR.err ac rfl
 rw[jA h0,jA (show ¬(q==0)=true by simpa using h0)]
 by_cases h4:op=4
 .obtain⟨v,d,f⟩:=Jv (a:=p) h0
  rw[jB h4,jB (show(op==4)=true by simp[h4]),d]
  exact RelR.val f rfl
 rw[jA h4,jA (show ¬(op==4)=true by simpa using h4),show wH p q=some (Int.tmod p q) from jA h0]
 exact RelR.val (qCh l) rfl
def pS(L:List bT)(e:eU):Aa:=((wZ (mX L) e.2.2.2.1 e.2.2.2.2.1).1,(wZ (mX L) e.2.2.2.1 e.2.2.2.2.1).1.2.2.getD (wZ (mX L) e.2.2.2.1 e.2.2.2.2.1).2.toNat (0,⟨#[]⟩,[],[]))
def zY(L:List bT)(r:eU×List K3×Int):List Ky×(Int⊕Aa):=(r.2.1,if r.2.2=0 then .inr (pS L r.1) else .inl r.2.2)
def rC(L:List bT)(p:BA):List Ky×(Int⊕(BA⊕Aa)):=match mF L p with
 |some b=>([(4,p,⟨#[]⟩)],.inr (.inl b))
 |none=>([(4,p,⟨#[]⟩),(3,p,⟨#[]⟩)],if(bB L 3 eA p).2.2.2.2.2=0 then .inl 14 else if 1<(bB L 3 eA p).2.2.2.2.2 then .inl 12 else .inr (.inr (pS L (bB L 3 eA p))))
def oS(L:List bT)(env:mR)(w:Int):Lk where
 cl f nm:=if 8<f.2.1.length then([],.inl 0) else zY L (oX (λp=>bB L 1 p nm) nm (f.1::f.2.1) [])
 dt:=rC L
 en:=tN env
 bt:=BS w
 ar:=JB
def JH(t:Aa):Prop:=EN ZT F1 t.2/\t.1.2.1.length<=8/\True/\True
structure Wrr(N:Nat)(L:List bT)(env:mR):Prop where
 hN:20000000<N
 hc:nE L=0
 env:env.length<=16/\∀v∈env,VB v.2
theorem NK(a:nE L=0):mX L=iZ L:=by unfold mX;rw[jB a]
theorem XV(a:nE L=0):((mX L).map (·.1)).Nodup:=by
 rw[NK a]
 unfold iZ
 rw[List.map_map]
 exact List.pairwise_map.2 ((List.Pairwise.filter _ (uI.1 a).2.1).imp λh=>NO h)
theorem Jt(b:nE L=0){k:Int}{p n:BA}(c:(bB L k p n).2.2.2.2.2=1):
  ∃(f:bT) (j:Nat) (d:Dl),f∈L/\sP f=true/\(lS f.2).1.2.2[j]? =some d/\d.1=k/\wZ (mX L) (bB L k p n).2.2.2.1 (bB L k p n).2.2.2.2.1=((lS f.2).1,(j:Int)):=by
 have e:bB L k p n=nW (lW (iZ L)) k p n:=by unfold bB;rw[jB b]
 rw[e] at c ⊢
 obtain⟨o,r,q,a⟩:=UB (O:=lW (iZ L)) (k:=k) (p:=p) (n:=n) (by rw[c];decide)
 obtain⟨f,g,h,j,d,l,rfl⟩:=TF r
 unfold BW at a
 simp only[Prod.mk.injEq] at a
 refine⟨f,j,d,g,h,l,(ND q).1,?_⟩
 rw[a.2.2.2.1,a.2.2.2.2]
 have s:(f.1,(lS f.2).1)∈mX L:=by
  rw[NK b]
  exact gW.2 ⟨f,gM.2 ⟨g,h⟩,rfl⟩
 unfold wZ
 rw[TI (XV b) _ s]
theorem NB(g:nE L=0){k:Int}{p n:BA}(c:(bB L k p n).2.2.2.2.2=1):
  (∃i:Int,wZ (mX L) (bB L k p n).2.2.2.1 (bB L k p n).2.2.2.2.1=((pS L (bB L k p n)).1,i)/\bC (pS L (bB L k p n)).1.2.2 i=some (pS L (bB L k p n)).2)/\JH (pS L (bB L k p n))/\(pS L (bB L k p n)).2.1=k:=by
 obtain⟨f,j,d,q,r,a,h,e⟩:=Jt g c
 have et:pS L (bB L k p n)=((lS f.2).1,d):=by
  unfold pS
  rw[e,jZ,jV,a];rfl
 obtain⟨b,rfl⟩:=List.getElem?_eq_some_iff.1 a
 obtain⟨s,l,t,o⟩:=Lg f.2
 refine⟨⟨(j:Int),by rw[et];exact e,by rw[et];exact eZ b⟩,by rw[et];exact⟨o _ (kE b),l,trivial,trivial⟩,by rw[et];exact h⟩
theorem Zs(a:nE L=0)(b:1000<N)(k:Int)(p n:BA):yZ N (rG (mX L)) k p n=some (bB L k p n):=by
 unfold rG
 rw[TD k p n (zP L).1 (zP L).2 b]
 unfold bB
 rw[jB a,NK a]
theorem Zw(b:nE L=0)(a:1000005<N){f:Sr}(c:f.2.1.length<900)(nm:BA):LL N (rG (mX L)) f nm=some (oX (λp=>bB L 1 p nm) nm (f.1::f.2.1) []):=by
 simp only[LL]
 rw[lQ af aa]
 have:=Dy (N:=N) (L:=L) (name:=nm) (l:=f.1::f.2.1) b (by simp only[jC];omega) a (f.1::f.2.1).length 0 N [] aa (by simp only[jC];omega) (kK _)
 rw[jX] at this
 simp only[j0]
 rw[show([f.1]++f.2.1:List BA)=f.1::f.2.1 from rfl]
 exact this
theorem qBc(a:nE L=0)(c:1000005<N)(p:BA):rS N L (rG (mX L)) p=some (match mF L p with
  |some _=>(1,qO,[(4,p,eA)],0)
  |none=>if(bB L 3 eA p).2.2.2.2.2=0 then(0,qO,[(4,p,eA),(3,p,eA)],14)
   else if 1<(bB L 3 eA p).2.2.2.2.2 then(3,qO,[(4,p,eA),(3,p,eA)],12)
   else(2,bB L 3 eA p,[(4,p,eA),(3,p,eA)],0)):=by
 simp only[rS,XR p (show 100<N by omega),OC,jB a,j0]
 cases hg:mF L p with
 |some b=>rfl
 |none=>
  simp only[j9,jF]
  rw[lQ af aa]
  simp only[j0,Zs a (show 1000<N by omega)]
  have d:=uY L 3 eA p
  have e:(⟨#[]⟩:BA)=eA:=rfl
  rw[e]
  by_cases h0:(bB L 3 eA p).2.2.2.2.2=0
  .rw[jA (show ¬((bB L 3 eA p).2.2.2.2.2==1)=true by rw[h0];decide),jA (show ¬decide ((bB L 3 eA p).2.2.2.2.2>1)=true by rw[h0];decide),jB h0];rfl
  rw[jA h0]
  by_cases h1:1<(bB L 3 eA p).2.2.2.2.2
  .rw[jA (show ¬((bB L 3 eA p).2.2.2.2.2==1)=true by rw[kG];omega),jB (jI h1),jB h1];rfl
  rw[jB (show((bB L 3 eA p).2.2.2.2.2==1)=true by rw[kG];omega),jA h1];rfl
theorem Jl{nm:BA}(c:env.length<=16):∀(d i M:Nat),i+d=env.length->d<M->aC (KF N env nm) M (i:Int)=some (match tN (env.drop i) nm with|some v=> .inr (v,true)|none=> .inl ())
 |_,_,0,_,h=>absurd h (kS _)
 |0,i,M+1,a,b=>by
  simp only[aC,KF]
  rw[jA ad,jO aa];rfl
 |d+1,i,M+1,a,b=>by
  have hi:i<env.length:=by omega
  simp only[aC,KF]
  rw[jB ad,eZ hi,zI hi,j0]
  unfold tN
  by_cases h:((env[i]).1.toList==nm.toList)=true
  .rw[jB h];simp only[List.find?_cons,h];rfl
  have h':((env[i]).1.toList==nm.toList)=false:=by simpa using h
  rw[jA h,bP aa aa]
  simp only[j0,List.find?_cons,h']
  rw[show((i:Int)+1)=((i+1:Nat):Int) by omega,Jl c d (i+1) M aa aa]
  rfl
theorem qEm(a:env.length<=16)(b:100<N)(nm:BA):KV N env nm=some (match tN env nm with|some v=>(v,true)|none=>(0,false)):=by
 unfold KV
 have:=Jl (N:=N) (nm:=nm) a env.length 0 N aa aa
 rw[show((0:Nat):Int)=0 from rfl,jX] at this
 rw[this]
 cases tN env nm<;>rfl
theorem NH(L:List bT)(env:mR)(w:Int):(∀f nm,((oS L env w).cl f nm).1.length<=9)/\∀p,((oS L env w).dt p).1.length<=9:=by
 refine⟨λf nm=> ?_,λp=> ?_⟩
 .show(if 8<f.2.1.length then([],.inl 0) else zY L _:List Ky×(Int⊕Aa)).1.length<=9
  split
  .exact kK _
  have:=(DE (E:=λp=>bB L 1 p nm) (nm:=nm) (λp=>uY L 1 p _) (f.1::f.2.1) []).2
  simp only[jC,jD] at this
  show(oX (λp=>bB L 1 p nm) nm (f.1::f.2.1) []).2.1.length<=9
  omega
 show(rC L p).1.length<=9
 unfold rC
 split
 .show 1<=9;decide
 show 2<=9;decide
abbrev JQ(N D:Nat):=(pB N D).1
abbrev JA(N D:Nat):=(pB N D).2.1
abbrev nZ(N D:Nat):=(pB N D).2.2.1
abbrev CH(N D:Nat):=(pB N D).2.2.2
theorem uL(r:Option (yR×Int)):(r.bind λy=>some (((y.1.1.1,y.1.1.2.1,y.1.1.2.2.1,y.1.1.2.2.2),y.1.2.1,y.1.2.2),y.2))=r:=by cases r<;>rfl
theorem Hp{e b:Int}(a:e≠0)(f:Sr)(l:List Ex)(i:Int)(us:List Int):nZ N (D+1) (pT L env w (mW s e b)) f l i us=some (mW s e b,0):=by
 show ET N (JQ N D) (JA N D) (nZ N D) (CH N D) (pT L env w (mW s e b)) f l i us=_
 unfold ET
 rw[jB (by simpa using a)]
abbrev PA(N:Nat)(L:List bT)(env:mR)(w:Int)(n:Nat):Prop:=
 ∀(D a:Nat) (t:Aa) (vs:List Int) (i:Int) (s:Es),Cnd n s->Qk s->3*n<=D->a<=64->JH t->t.2.2.2.1.length=vs.length->(∀v∈vs,VB v)->0<=i->i<t.2.2.2.2.length->
  RelR a (ev (oS L env w) n a t vs i s) (nZ N D (pT L env w (mW s 0 a)) t.1 t.2.2.2.2 i vs)
theorem ZC(y:PA N L env w n){k:Int}(l:Cnd n s)(u:Qk s)(f:3*n<=D)(z:a<=64)(q:bC t.1.2.2 k=some t.2)(c:JH t)(r:t.2.2.2.1.length=vs.length)(x:∀v∈vs,VB v):
  RelR a (pZ (ev (oS L env w) n) a t vs s) (CH N (D+1) (pT L env w (mW s 0 a)) t.1 k vs):=by
 show RelR a _ (QA N (JQ N D) (JA N D) (nZ N D) (CH N D) (pT L env w (mW s 0 a)) t.1 k vs)
 unfold QA pZ
 by_cases h64:a=64
 .subst h64
  rw[jB rfl,jB (by rfl),show oT N _ 17=_ from wA (mW s 0 (64:Nat)) rfl 17]
  exact RelR.err ac rfl
 have A:=c.1.2.1
 have e:=c.1.1.2
 rw[jA h64,jA (show ¬(((a:Nat):Int)==64)=true by simpa using(show ¬(a:Int)=64 by omega)),q,j0]
 rw[show wI ((pT L env w (mW s 0 a)).2.2.2.2.2.2+1)=((a+1:Nat):Int) from by show wI ((a:Int)+1)=_;rw[bP aa aa];rfl]
 rw[show wI ((t.2.2.2.2.length:Int)-1)=(t.2.2.2.2.length:Int)-1 from bP aa aa]
 have d:=y D (a+1) t vs ((t.2.2.2.2.length:Int)-1) s l u f aa c r x aa aa
 have b:wI (((a+1:Nat):Int)-1)=(a:Int):=by rw[bP aa aa];omega
 revert d
 generalize ev (oS L env w) n (a+1) t vs ((t.2.2.2.2.length:Int)-1) s=o
 obtain⟨s',er|v⟩:=o
 .rintro⟨p,v,h⟩
  rw[show nZ N D _ t.1 _ _ vs=_ from h]
  exact RelR.err p (v:=v) (by simp only[j0,b])
 rintro⟨h,g⟩
 rw[show nZ N D _ t.1 _ _ vs=_ from h]
 exact RelR.val g (by simp only[j0,b])
abbrev Nf:=List Int×Int×Int×Int×Bool×List Ky×Int×Int×Int
abbrev PR(us:List Int)(s:Es)(e a:Int):Nf:=(us,0,0,0,s.2.2,vN s.1,(s.2.1:Int),e,a)
abbrev BZ(us:List Int)(i:Int)(s:Es)(e a:Int):List Int×Int×Int×Int×Int×Bool×List Ky×Int×Int×Int:=(us,i,0,0,0,s.2.2,vN s.1,(s.2.1:Int),e,a)
theorem Il{m0:Rmc}(g:∃t0,m0=pT L env w t0){e:Int}(c:e≠0)(o:x.2.2.2.2.length<=20000):∀(d i M:Nat) (acc:List Int),i+d=x.2.2.2.2.length->d<M->acc.length<=i->
  ∃us,aC (tS N (nZ N (D+1)) m0 t.1 t.2.2.2.2 x vs) M (BZ acc (i:Int) s e a)=some (PR us s e a)
 |_,_,0,_,_,h,_=>absurd h (kS _)
 |0,i,M+1,acc,k,l,n=>by
  refine⟨acc,?_⟩
  simp only[aC,tS]
  rw[jA ad];rfl
 |d+1,i,M+1,acc,k,l,n=>by
  obtain⟨t0,rfl⟩:=g
  have hi:i<x.2.2.2.2.length:=by omega
  obtain⟨us,h⟩:=Il (m0:=pT L env w t0) ⟨t0,rfl⟩ c o d (i+1) M (acc++[0]) aa aa aj
  refine⟨us,?_⟩
  have f:tS N (nZ N (D+1)) (pT L env w t0) t.1 t.2.2.2.2 x vs (BZ acc (i:Int) s e a)=some (.inl (BZ (acc++[0]) ((i+1:Nat):Int) s e a)):=by
   simp only[tS]
   rw[jB (by simpa using hi),eZ hi,j0,show nZ N (D+1) _ t.1 _ _ vs=_ from Hp (s:=s) (b:=(a:Int)) c t.1 _ _ vs]
   simp only[j0]
   rw[lQ af aa,j0,bP aa aa];rfl
  simp only[aC,f,j0]
  exact h
def Ax(a:Nat)(acc:List Int)(k:Nat)(o:Eo (List Int))(r:Option Nf):Prop:=match o.2 with
 | .inr us=>r=some (PR (acc++us) o.1 0 a)/\(∀u∈us,VB u)/\us.length=k
 | .inl e=>e≠0/\∃us,r=some (PR us o.1 e a)
theorem Gn(K:PA N L env w n)(y:3*n<=D+1)(z:a<=64)(F:JH t)(B:t.2.2.2.1.length=vs.length)(G:∀v∈vs,VB v){t0:yR}
  (H:x.2.2.2.2.length<=20000) (E:∀j∈x.2.2.2.2,0<=j/\j<(t.2.2.2.2.length:Int)):∀(d i M:Nat) (acc:List Int) (s:Es),i+d=x.2.2.2.2.length->d<M->acc.length<=i->Cnd n s->Qk s->
  Ax a acc d (tO (ev (oS L env w) n a t vs) (x.2.2.2.2.drop i) s) (aC (tS N (nZ N (D+1)) (pT L env w t0) t.1 t.2.2.2.2 x vs) M (BZ acc (i:Int) s 0 a))
 |_,_,0,_,_,_,h,_,_,_=>absurd h (kS _)
 |0,i,M+1,acc,s,R,c,k,l,r=>by
  rw[jO aa]
  refine⟨?_,λu b=>(by cases b),rfl⟩
  simp only[aC,tS]
  rw[jA ad,gH];rfl
 |d+1,i,M+1,acc,s,R,c,k,l,r=>by
  have hi:i<x.2.2.2.2.length:=by omega
  rw[zI hi]
  have A:=E _ (kE hi)
  have S:=K (D+1) a t vs x.2.2.2.2[i] s l r y z F B G A.1 A.2
  have p:=Gr.ev (oS L env w) n a t vs x.2.2.2.2[i] s
  have q:=Qk.ev (NH L env w) n a t vs x.2.2.2.2[i] s r
  unfold tO
  revert S p q
  generalize ev (oS L env w) n a t vs x.2.2.2.2[i] s=o
  obtain⟨s',er|v⟩:=o
  .rintro⟨e,v,h⟩ _ _
   obtain⟨us,b⟩:=Il (D:=D) (vs:=vs) (a:=a) (t:=t) (s:=s') (m0:=pT L env w t0) (N:=N) ⟨t0,rfl⟩ e H d (i+1) M (acc++[v]) aa aa aj
   refine⟨e,us,?_⟩
   have f:tS N (nZ N (D+1)) (pT L env w t0) t.1 t.2.2.2.2 x vs (BZ acc (i:Int) s 0 a)=some (.inl (BZ (acc++[v]) ((i+1:Nat):Int) s' er a)):=by
    simp only[tS]
    rw[jB (by simpa using hi),eZ hi,j0,show nZ N (D+1) _ t.1 _ _ vs=_ from h]
    simp only[j0]
    rw[lQ af aa,j0,bP aa aa];rfl
   simp only[aC,f,j0]
   exact b
  rintro⟨h,g⟩ p q
  have f:tS N (nZ N (D+1)) (pT L env w t0) t.1 t.2.2.2.2 x vs (BZ acc (i:Int) s 0 a)=some (.inl (BZ (acc++[v]) ((i+1:Nat):Int) s' 0 a)):=by
   simp only[tS]
   rw[jB (by simpa using hi),eZ hi,j0,show nZ N (D+1) _ t.1 _ _ vs=_ from h]
   simp only[j0]
   rw[lQ af aa,j0,bP aa aa];rfl
  simp only[aC,f,j0]
  have rc:=Gn K y z F B G (t0:=t0) H E d (i+1) M (acc++[v]) s' aa aa aj (l.gr p) q
  revert rc
  show Ax a (acc++[v]) d _ _->Ax a acc (d+1) (bE (s',Sum.inr v) _) _
  simp only[bE]
  generalize tO (ev (oS L env w) n a t vs) (x.2.2.2.2.drop (i+1)) s'=o2
  obtain⟨s2,er|us⟩:=o2
  .rintro⟨e,us,c⟩
   exact⟨e,us,c⟩
  rintro⟨c,k,e⟩
  refine⟨c.trans ?_,λu b=> ?_,by show(v::us).length=d+1;rw[jC,e]⟩
  .show some (PR ((acc++[v])++us) s2 0 a)=some (PR (acc++(v::us)) s2 0 a)
   rw[kU];rfl
  rcases jK.1 b with rfl|b
  .exact g
  exact k u b
theorem wG(a:20000000<N)(d:s.1.length<=300000){e b:Int}(ks:List Ky)(c:ks.length<=9):pX N (pT L env w (mW s e b)) ks=some (mW (lT s ks) e b):=qEt aa aa aa
theorem Yr(H:Wrr N L env)(M:PA N L env w n)(q:Cnd n s)(hq:s.1.length+9<=10*s.2.1+1)(U:3*n<=D)(F:a<=64)(K:JH t)(Y:t.2.2.2.1.length=vs.length)(hv:∀v∈vs,VB v)
  (hx:x.2.2.2.2.length<=20000) (Z:∀j∈x.2.2.2.2,0<=j/\j<(t.2.2.2.2.length:Int)):
  RelR a (bE (lT s (zY L (oX (λp=>bB L 1 p x.2.2.2.1) x.2.2.2.1 (t.1.1::t.1.2.1) [])).1,(zY L (oX (λp=>bB L 1 p x.2.2.2.1) x.2.2.2.1 (t.1.1::t.1.2.1) [])).2) λu s=>bE (tO (ev (oS L env w) n a t vs) x.2.2.2.2 s) λus s=>
   if us.length=u.2.2.2.1.length then pZ (ev (oS L env w) n) a u us s else(s,.inl 13)) (JQ N (D+2) (pT L env w (mW s 0 a)) t.1 t.2.2.2.2 x vs):=by
 have V:=H.hN
 have h8:=K.2.1
 have a1:=q.1
 show RelR a _ (QF N (JQ N (D+1)) (JA N (D+1)) (nZ N (D+1)) (CH N (D+1)) (pT L env w (mW s 0 a)) t.1 t.2.2.2.2 x vs)
 unfold QF
 rw[show LL N _ t.1 x.2.2.2.1=_ from Zw H.hc aa (f:=t.1) aa x.2.2.2.1,j0]
 obtain⟨A,B⟩:=DE (E:=λp=>bB L 1 p x.2.2.2.1) (nm:=x.2.2.2.1) (λp=>uY L 1 p _) (t.1.1::t.1.2.1) []
 generalize oX (λp=>bB L 1 p x.2.2.2.1) x.2.2.2.1 (t.1.1::t.1.2.1) []=r at A B
 obtain⟨e,ks,k⟩:=r
 simp only[jC,jD] at B
 have g:ks.length<=9:=by omega
 rw[show pX N _ ks=_ from wG (L:=L) (env:=env) (w:=w) (e:=0) (b:=(a:Int)) V aa ks g,j0]
 unfold zY
 dsimp only
 have l:Qk (lT s ks):=BV hq g
 by_cases hk:k=0
 .subst hk
  obtain⟨p,rfl,y⟩:=A rfl
  obtain⟨⟨i,R,f1'⟩,S,f3⟩:=NB H.hc y
  rw[jB rfl,jA ac]
  simp only[bE]
  have z:=Gr.seq (λi s=>Gr.ev (oS L env w) n a t vs i s) x.2.2.2.2 (lT s ks)
  have d:=Qk.seq (λi s h=>Qk.ev (NH L env w) n a t vs i s h) x.2.2.2.2 (lT s ks) l
  have c:=Gn M (D:=D) aa F K Y hv (t0:=mW s 0 a) hx Z x.2.2.2.2.length 0 N [] (lT s ks) aa aa (jN _) (q.gr (Gr.see s ks)) l
  rw[jX,show((0:Nat):Int)=0 from rfl] at c
  revert c z d
  generalize tO (ev (oS L env w) n a t vs) x.2.2.2.2 (lT s ks)=o
  obtain⟨s',er|us⟩:=o
  .rintro _ _ ⟨G,us,h⟩
   rw[show aC (tS N (nZ N (D+1)) _ t.1 _ x vs) N _=_ from h,j0,jB (show(er !=0)=true by simpa using G)]
   exact RelR.err G rfl
  rintro z d ⟨h,G,h3⟩
  rw[show aC (tS N (nZ N (D+1)) _ t.1 _ x vs) N _=_ from h,j0,jA (show ¬((0:Int) !=0)=true by decide)]
  rw[show CQ N _ (bB L 1 p x.2.2.2.1)=_ from Hq (zP L).1 aa,j0,R]
  dsimp only
  rw[f1',j0]
  simp only[kH]
  by_cases hlen:us.length=(pS L (bB L 1 p x.2.2.2.1)).2.2.2.1.length
  .rw[jB hlen,jA (by simp[hlen]),uL]
   exact ZC M ((q.gr (Gr.see s ks)).gr z) d U F f1' S hlen.symm G
  rw[jA hlen,jB ah,uL,show oT N _ 13=_ from wA (mW s' 0 a) rfl 13]
  exact RelR.err ac rfl
 rw[jA hk,jB (show(k !=0)=true by simpa using hk),uL,show oT N _ k=_ from wA (mW (lT s ks) 0 a) rfl k]
 exact RelR.err hk rfl
theorem XG(a:nE L=0)(c:1000005<N)(p:BA):(∃b,b.size<=16384/\rC L p=([(4,p,⟨#[]⟩)],.inr (.inl b))/\rS N L (rG (mX L)) p=some (1,qO,[(4,p,⟨#[]⟩)],0)/\vW N L p=some (b,true))\/
  (∃(ks:List Ky) (e k:Int),ks.length<=2/\e≠0/\(k≠0↔e≠14)/\rC L p=(ks,.inl e)/\rS N L (rG (mX L)) p=some (k,qO,ks,e))\/
  (∃ks:List Ky,ks.length<=2/\(bB L 3 eA p).2.2.2.2.2=1/\rC L p=(ks,.inr (.inr (pS L (bB L 3 eA p))))/\rS N L (rG (mX L)) p=some (2,bB L 3 eA p,ks,0)/\∃z,vW N L p=some (z,false)):=by
 rw[qBc a c p,XR p (show 100<N by omega)]
 unfold rC OC
 rw[jB a]
 cases d:mF L p with
 |some b=>exact .inl ⟨b,((uI.1 a).2.2 _ (ZP d)).2,rfl,rfl,rfl⟩
 |none=>
  have h:=uY L 3 eA p
  by_cases h0:(bB L 3 eA p).2.2.2.2.2=0
  .exact .inr (.inl ⟨[(4,p,⟨#[]⟩),(3,p,⟨#[]⟩)],14,0,jN 2,by decide,by decide,by simp only[jB h0],by simp only[jB h0];rfl⟩)
  by_cases h1:1<(bB L 3 eA p).2.2.2.2.2
  .exact .inr (.inl ⟨[(4,p,⟨#[]⟩),(3,p,⟨#[]⟩)],12,3,jN 2,by decide,by decide,by simp only[jA h0,jB h1],by simp only[jA h0,jB h1];rfl⟩)
  exact .inr (.inr ⟨[(4,p,⟨#[]⟩),(3,p,⟨#[]⟩)],jN 2,by omega,by simp only[jA h0,jA h1],by simp only[jA h0,jA h1];rfl,_,rfl⟩)
theorem Le{v:Int}:(if decide (Int.tmod v 256<0)then some (wI (Int.tmod v 256+256)) else some (Int.tmod v 256):Option Int)=some (v%256):=by
 have d: -256<Int.tmod v 256/\Int.tmod v 256<256:=by
  constructor
  .have:=Int.lt_tmod_of_pos v (show(0:Int)<256 by decide);omega
  exact Int.tmod_lt_of_pos v ac
 have c:=Int.tmod_eq_emod (a:=v) (b:=256)
 by_cases h:Int.tmod v 256<0
 .rw[jB (jI h),bP aa aa]
  congr 1
  split at c<;>omega
 rw[jA (by simpa using h)]
 congr 1
 split at c<;>omega
theorem Yo(H:Wrr N L env)(S:PA N L env w n)(G:Cnd n s)(hq:s.1.length+9<=10*s.2.1+1)(hD:3*n<=D)(F:a<=64)(ht:JH t)(Z:t.2.2.2.1.length=vs.length)(q:∀v∈vs,VB v){j:Nat}(hx:x.2.2.2.2=[(j:Int)])(hj:j<t.2.2.2.2.length):
  RelR a (bE (lT s (rC L x.2.2.2.1).1,(rC L x.2.2.2.1).2) λu s=>bE (ev (oS L env w) n a t vs (nN x 0) s) λi s=>
   match u with
   | .inl b=>if 0<=i/\i<b.size then(s,.inr ((b.data.toList.getD i.toNat 0).toNat:Int)) else(s,.inl 3)
   | .inr u=>if i=0 then bE (pZ (ev (oS L env w) n) a u [] s) λv s=>(s,.inr (v%256)) else(s,.inl 3)) (JA N (D+2) (pT L env w (mW s 0 a)) t.1 t.2.2.2.2 x vs):=by
 have E:=H.hN
 have a1:=G.1
 show RelR a _ (QE N (JQ N (D+1)) (JA N (D+1)) (nZ N (D+1)) (CH N (D+1)) (pT L env w (mW s 0 a)) t.1 t.2.2.2.2 x vs)
 unfold QE
 have o0:nN x 0=(j:Int):=by unfold nN;rw[hx];rfl
 have i0:bC x.2.2.2.2 0=some (j:Int):=by rw[hx];rfl
 rw[o0]
 rcases XG H.hc (show 1000005<N by omega) x.2.2.2.1 with ⟨b,hb,g,l,A⟩|⟨ks,e,k,p,c,-,g,l⟩|⟨ks,p,K,g,l,z,A⟩
 .rw[g,show rS N _ _ x.2.2.2.1=_ from l,j0,show pX N _ [(4,x.2.2.2.1,(⟨#[]⟩:BA))]=_ from wG (L:=L) (env:=env) (w:=w) (e:=0) (b:=(a:Int)) E aa [(4,x.2.2.2.1,⟨#[]⟩)] (by show 1<=9;decide),j0,jA (show ¬((0:Int) !=0)=true by decide),i0]
  simp only[bE,j0]
  have f:Qk (lT s [(4,x.2.2.2.1,⟨#[]⟩)]):=BV hq (by show 1<=9;decide)
  have d:=G.gr (Gr.see s [(4,x.2.2.2.1,⟨#[]⟩)])
  have V:=S (D+1) a t vs j _ d f aa F ht Z q aa aa
  revert V
  generalize ev (oS L env w) n a t vs j _=o
  obtain⟨s1,er|i⟩:=o
  .rintro⟨c,v,h⟩
   rw[show nZ N (D+1) _ t.1 _ (j:Int) vs=_ from h,j0,jB (show(er !=0)=true by simpa using c)]
   exact RelR.err c rfl
  rintro⟨h,hp⟩
  rw[show nZ N (D+1) _ t.1 _ (j:Int) vs=_ from h,j0,jA (show ¬((0:Int) !=0)=true by decide),show vW N _ x.2.2.2.1=_ from A,j0,jA (show ¬((1:Int)==2)=true by decide),j0]
  rw[show(if decide (i<0)then some true else some (decide (i>=(b.size:Int))):Option Bool)=_ from UO i b.size,j0]
  dsimp only
  by_cases hi:0<=i/\i<b.size
  .rw[jB hi,jI hi,jA ac,jB ac]
   obtain⟨k,rfl⟩:∃k:Nat,i=(k:Int):=⟨i.toNat,by omega⟩
   have p:k<b.data.toList.length:=by have:=hi.2;simp only[ByteArray.size] at this;simp only[dF];omega
   have r:(b.data.toList[k]).toNat<256:=UInt8.toNat_lt _
   rw[pD p,j0,bP aa aa,jZ,jV,List.getElem?_eq_getElem p,gP]
   exact RelR.val (by unfold VB;omega) rfl
  rw[jA hi,jP hi,jB ac,uL,show oT N _ 3=_ from wA (mW s1 0 a) rfl 3]
  exact RelR.err ac rfl
 .rw[g,show rS N _ _ x.2.2.2.1=_ from l,j0,show pX N _ ks=_ from wG (L:=L) (env:=env) (w:=w) (e:=0) (b:=(a:Int)) E aa ks aa,j0,jB (show(e !=0)=true by simpa using c),uL,show oT N _ e=_ from wA (mW (lT s ks) 0 a) rfl e]
  exact RelR.err c rfl
 obtain⟨⟨y,f1,f1'⟩,Y,f3⟩:=NB H.hc K
 have R:(pS L (bB L 3 eA x.2.2.2.1)).2.2.2.1=[]:=Y.1.2.2.2 (by rw[f3];decide)
 rw[g,show rS N _ _ x.2.2.2.1=_ from l,j0,show pX N _ ks=_ from wG (L:=L) (env:=env) (w:=w) (e:=0) (b:=(a:Int)) E aa ks aa,j0,jA (show ¬((0:Int) !=0)=true by decide),i0]
 simp only[bE,j0]
 have f:Qk (lT s ks):=BV hq aa
 have d:=G.gr (Gr.see s ks)
 have V:=S (D+1) a t vs j _ d f aa F ht Z q aa aa
 have r:=Gr.ev (oS L env w) n a t vs j (lT s ks)
 have U:=Qk.ev (NH L env w) n a t vs j (lT s ks) f
 revert V r U
 generalize ev (oS L env w) n a t vs j _=o
 obtain⟨s1,er|i⟩:=o
 .rintro⟨c,v,h⟩ _ _
  rw[show nZ N (D+1) _ t.1 _ (j:Int) vs=_ from h,j0,jB (show(er !=0)=true by simpa using c)]
  exact RelR.err c rfl
 rintro⟨h,hp⟩ r U
 rw[show nZ N (D+1) _ t.1 _ (j:Int) vs=_ from h,j0,jA (show ¬((0:Int) !=0)=true by decide),show vW N _ x.2.2.2.1=_ from A,j0,jB (show((2:Int)==2)=true by decide),j0]
 rw[show(if decide (i<0)then some true else some (decide (i>=(1:Int))):Option Bool)=_ from UO i 1,j0]
 dsimp only
 by_cases hi:i=0
 .subst hi
  rw[jB rfl,jI (show(0:Int)<=0/\(0:Int)<1 by decide),jA ac,jA (show ¬((2:Int)==1)=true by decide)]
  rw[show CQ N _ (bB L 3 eA x.2.2.2.1)=_ from Hq (zP L).1 aa,j0,f1]
  have M:=ZC (k:=y) (t:=pS L (bB L 3 eA x.2.2.2.1)) (vs:=[]) S (d.gr r) U hD F f1' Y (by rw[R];rfl) (λv q=>by cases q)
  revert M
  dsimp only
  generalize pZ (ev (oS L env w) n) a (pS L (bB L 3 eA x.2.2.2.1)) [] s1=o2
  obtain⟨s2,er|v⟩:=o2
  .rintro⟨c,v,B⟩
   rw[show CH N (D+1) _ _ y []=_ from B,j0,Le]
   exact RelR.err c rfl
  rintro⟨B,h5⟩
  rw[show CH N (D+1) _ _ y []=_ from B,j0,Le]
  exact RelR.val (by unfold VB;omega) rfl
 rw[jA hi,jP (show ¬(0<=i/\i<1) by omega),jB ac,uL,show oT N _ 3=_ from wA (mW s1 0 a) rfl 3]
 exact RelR.err ac rfl
theorem qBg{k:Int}(h:0<=k)(w:Int):∃z,wK .u64 w k=some z:=by
 unfold wK
 rw[jA aa]
 exact⟨_,rfl⟩
theorem Mt(H:Wrr N L env)(hE:∀v∈env,VB v.2):∀n,PA N L env w n
 |0,_,_,_,_,_,s,hc,_,_,_,_,_,_,_,_=>by have:=hc.1;have:=hc.2;omega
 |n+1,D,a,t,vs,i,s,hc,hq,hD,U,M,Y,R,h0,hi=>by
  have Z:=Mt H hE n
  have S:=H.hN
  have a7:=hc.1
  obtain⟨D,rfl⟩:∃D',D=D'+3:=⟨D-3,by omega⟩
  have hD':3*n<=D:=by omega
  have a8:s.1.length<=10*s.2.1+1:=hq
  show RelR a _ (ET N (JQ N (D+2)) (JA N (D+2)) (nZ N (D+2)) (CH N (D+2)) (pT L env w (mW s 0 a)) t.1 t.2.2.2.2 i vs)
  unfold ev ET
  rw[jA (show ¬((0:Int) !=0)=true by decide)]
  by_cases hs:s.2.1=20000
  .rw[jB hs,jB (show(((s.2.1:Nat):Int)==20000)=true by simp[hs]),uL,show oT N _ 16=_ from wA (mW s 0 a) rfl 16]
   exact RelR.err ac rfl
  rw[jA hs,jA (show ¬(((s.2.1:Nat):Int)==20000)=true by simpa using(show ¬((s.2.1:Nat):Int)=20000 by omega))]
  obtain⟨k,rfl⟩:∃k:Nat,i=(k:Int):=⟨i.toNat,by omega⟩
  have V:k<t.2.2.2.2.length:=by omega
  rw[jZ,List.getElem?_eq_getElem V]
  dsimp only
  rw[eZ V,j0]
  have a4:=M.1.1.1 k _ (List.getElem?_eq_getElem V)
  generalize t.2.2.2.2[k]=x at a4
  rw[show wI ((s.2.1:Int)+1)=((s.2.1+1:Nat):Int) from by rw[bP aa aa];rfl]
  have E:Cnd n (s.1,s.2.1+1,s.2.2):=⟨by show s.2.1+1<=20000;omega,by have:=hc.2;show 20000<s.2.1+1+n;omega⟩
  have a5:(s.1,s.2.1+1,s.2.2).1.length+9<=10*(s.1,s.2.1+1,s.2.2).2.1+1:=by show s.1.length+9<=10*(s.2.1+1)+1;omega
  have a2:Qk (s.1,s.2.1+1,s.2.2):=by show s.1.length<=10*(s.2.1+1)+1;omega
  have K:∀j:Nat,j<k->j<t.2.2.2.2.length:=λj hj=>by omega
  have c:∀k:Int,x.1≠k->¬(x.1==k)=true:=λk h=>by simpa using h
  have d:∀k:Int,x.1=k->(x.1==k)=true:=λk h=>by simpa using h
  generalize hs1:(s.1,s.2.1+1,s.2.2)=s1 at*
  have e1:s1.1=s.1:=by rw[<-hs1]
  have e2:s1.2.1=s.2.1+1:=by rw[<-hs1]
  have e3:s1.2.2=s.2.2:=by rw[<-hs1]
  rw[<-e1,<-e2,<-e3]
  have F:s1.1.length<=300000:=by rw[e1];omega
  unfold yM
  rcases a4 with ⟨f,r,G⟩|⟨f,r,G⟩|⟨f,-,r,G⟩|⟨f,-,j,l,r,G,h4⟩|⟨f,j,l,m,r,G,h4,h5⟩|⟨f,-,j,r,G⟩|⟨f,-⟩|⟨f,r,G,-⟩
  .rw[jB f,jB (d 1 f)]
   exact RelR.val (by unfold VB;omega) rfl
  .obtain⟨p,hp⟩:∃p:Nat,x.2.1=(p:Int):=⟨x.2.1.toNat,by omega⟩
   have u:p<vs.length:=by omega
   rw[jA aa,jB f,jA (c 1 aa),jB (d 2 f),hp,eZ u,j0,jZ,jV,List.getElem?_eq_getElem u]
   exact RelR.val (R _ (kE u)) rfl
  .rw[jA aa,jA aa,jB f,jA (c 1 aa),jA (c 2 aa),jB (d 3 f),uL,show(oS L env w).cl t.1 x.2.2.2.1=_ from jA (by have:=M.2.1;omega)]
   exact Yr H Z E a5 hD' U M Y R r λj hj=>by have:=G j hj;omega
  .have o0:nN x 0=(j:Int):=by unfold nN;rw[r];rfl
   have o1:nN x 1=(l:Int):=by unfold nN;rw[r];rfl
   have i0:bC x.2.2.2.2 0=some (j:Int):=by rw[r];rfl
   have i1:bC x.2.2.2.2 1=some (l:Int):=by rw[r];rfl
   rw[jA aa,jA aa,jA aa,jB f,jA (c 1 aa),jA (c 2 aa),jA (c 3 aa),jB (d 4 f),i0,j0,o0,o1]
   have r0:=Z (D+2) a t vs j s1 E a2 aa U M Y R aa (by have:=K _ G;omega)
   have A:=Gr.ev (oS L env w) n a t vs j s1
   have B:=Qk.ev (NH L env w) n a t vs j s1 a2
   revert r0 A B
   generalize ev (oS L env w) n a t vs j s1=o
   obtain⟨s2,er|p⟩:=o
   .rintro⟨u,v,h⟩ _ _
    rw[show nZ N (D+2) _ t.1 _ (j:Int) vs=_ from h,j0,i1,j0,show nZ N (D+2) _ t.1 _ (l:Int) vs=_ from Hp (D:=D+1) (s:=s2) (b:=(a:Int)) u t.1 _ _ vs,j0,jB (show(er !=0)=true by simpa using u)]
    exact RelR.err u rfl
   rintro⟨h,hp⟩ A B
   rw[show nZ N (D+2) _ t.1 _ (j:Int) vs=_ from h,j0,i1,j0]
   simp only[bE]
   have r1:=Z (D+2) a t vs l s2 (E.gr A) B aa U M Y R aa (by have:=K _ h4;omega)
   revert r1
   generalize ev (oS L env w) n a t vs l s2=o
   obtain⟨s3,er|q⟩:=o
   .rintro⟨u,v,h⟩
    rw[show nZ N (D+2) _ t.1 _ (l:Int) vs=_ from h,j0,jB (show(er !=0)=true by simpa using u)]
    exact RelR.err u rfl
   rintro⟨h',hq'⟩
   rw[show nZ N (D+2) _ t.1 _ (l:Int) vs=_ from h',j0,jA (show ¬((0:Int) !=0)=true by decide),uL]
   exact Ym hp hq'
  .have o0:nN x 0=(j:Int):=by unfold nN;rw[r];rfl
   have i0:bC x.2.2.2.2 0=some (j:Int):=by rw[r];rfl
   have i1:bC x.2.2.2.2 1=some (l:Int):=by rw[r];rfl
   have i2:bC x.2.2.2.2 2=some (m:Int):=by rw[r];rfl
   rw[jA aa,jA aa,jA aa,jA aa,jB f,jA (c 1 aa),jA (c 2 aa),jA (c 3 aa),jA (c 4 aa),jB (d 5 f),i0,j0,o0]
   have r0:=Z (D+2) a t vs j s1 E a2 aa U M Y R aa (by have:=K _ G;omega)
   have A:=Gr.ev (oS L env w) n a t vs j s1
   have B:=Qk.ev (NH L env w) n a t vs j s1 a2
   revert r0 A B
   generalize ev (oS L env w) n a t vs j s1=o
   obtain⟨s2,er|p⟩:=o
   .rintro⟨u,v,h⟩ _ _
    rw[show nZ N (D+2) _ t.1 _ (j:Int) vs=_ from h,j0,jB (show(er !=0)=true by simpa using u)]
    exact RelR.err u rfl
   rintro⟨h,hp⟩ A B
   rw[show nZ N (D+2) _ t.1 _ (j:Int) vs=_ from h,j0,jA (show ¬((0:Int) !=0)=true by decide)]
   simp only[bE]
   by_cases hp0:p=0
   .rw[jB hp0,jA (show ¬(p !=0)=true by simp[hp0]),i2,j0,uL,show nN x 2=(m:Int) by unfold nN;rw[r];rfl]
    exact Z (D+2) a t vs m s2 (E.gr A) B aa U M Y R aa (by have:=K _ h5;omega)
   rw[jA hp0,jB (show(p !=0)=true by simpa using hp0),i1,j0,uL,show nN x 1=(l:Int) by unfold nN;rw[r];rfl]
   exact Z (D+2) a t vs l s2 (E.gr A) B aa U M Y R aa (by have:=K _ h4;omega)
  .rw[jA aa,jA aa,jA aa,jA aa,jA aa,jB f,jA (c 1 aa),jA (c 2 aa),jA (c 3 aa),jA (c 4 aa),jA (c 5 aa),jB (d 6 f),uL]
   exact Yo H Z E a5 hD' U M Y R r (K _ G)
  .rcases f with f|f|f
   .rw[jA aa,jA aa,jA aa,jA aa,jA aa,jA aa,jB f,jA (c 1 aa),jA (c 2 aa),jA (c 3 aa),jA (c 4 aa),jA (c 5 aa),jA (c 6 aa),jB (d 7 f)]
    show RelR a (bE (lT s1 (rC L x.2.2.2.1).1,(rC L x.2.2.2.1).2) λt s=>(s,.inr (match t with| .inl b=>(b.size:Int)| .inr _=>1))) _
    rcases XG H.hc (show 1000005<N by omega) x.2.2.2.1 with ⟨b,hb,A,B,g3⟩|⟨ks,e,k,V,u,-,A,B⟩|⟨ks,V,a6,A,B,z,g3⟩
    .rw[A,show rS N _ _ x.2.2.2.1=_ from B,j0,show pX N _ [(4,x.2.2.2.1,(⟨#[]⟩:BA))]=_ from wG (L:=L) (env:=env) (w:=w) (s:=s1) (e:=0) (b:=(a:Int)) S F [(4,x.2.2.2.1,⟨#[]⟩)] (by show 1<=9;decide),j0,jA (show ¬((0:Int) !=0)=true by decide),jA (show ¬((1:Int)==2)=true by decide),show vW N _ x.2.2.2.1=_ from g3,j0]
     exact RelR.val (by unfold VB;dsimp only;omega) rfl
    .rw[A,show rS N _ _ x.2.2.2.1=_ from B,j0,show pX N _ ks=_ from wG (L:=L) (env:=env) (w:=w) (s:=s1) (e:=0) (b:=(a:Int)) S F ks aa,j0,jB (show(e !=0)=true by simpa using u),uL,show oT N _ e=_ from wA (mW (lT s1 ks) 0 a) rfl e]
     exact RelR.err u rfl
    rw[A,show rS N _ _ x.2.2.2.1=_ from B,j0,show pX N _ ks=_ from wG (L:=L) (env:=env) (w:=w) (s:=s1) (e:=0) (b:=(a:Int)) S F ks aa,j0,jA (show ¬((0:Int) !=0)=true by decide),jB (show((2:Int)==2)=true by decide)]
    exact RelR.val (by unfold VB;dsimp only;omega) rfl
   .rw[jA aa,jA aa,jA aa,jA aa,jA aa,jA aa,jA aa,jB f,jA (c 1 aa),jA (c 2 aa),jA (c 3 aa),jA (c 4 aa),jA (c 5 aa),jA (c 6 aa),jA (c 7 aa),jB (d 8 f)]
    show RelR a (lT s1 (rC L x.2.2.2.1).1,.inr (match(rC L x.2.2.2.1).2 with| .inl e=>(if e=14 then 0 else 1)| .inr _=>1)) _
    rcases XG H.hc (show 1000005<N by omega) x.2.2.2.1 with ⟨b,hb,A,B,g3⟩|⟨ks,e,k,V,u,a3,A,B⟩|⟨ks,V,a6,A,B,z,g3⟩
    .rw[A,show rS N _ _ x.2.2.2.1=_ from B,j0,show pX N _ [(4,x.2.2.2.1,(⟨#[]⟩:BA))]=_ from wG (L:=L) (env:=env) (w:=w) (s:=s1) (e:=0) (b:=(a:Int)) S F [(4,x.2.2.2.1,⟨#[]⟩)] (by show 1<=9;decide),j0,jB (show((1:Int) !=0)=true by decide)]
     exact RelR.val (by unfold VB;dsimp only;omega) rfl
    .rw[A,show rS N _ _ x.2.2.2.1=_ from B,j0,show pX N _ ks=_ from wG (L:=L) (env:=env) (w:=w) (s:=s1) (e:=0) (b:=(a:Int)) S F ks aa,j0]
     dsimp only
     by_cases a1:e=14
     .rw[jB a1,jA (show ¬(k !=0)=true by have:k=0:=Decidable.not_not.1 λg=>a3.1 g a1;simp[this])]
      exact RelR.val (by unfold VB;omega) rfl
     rw[jA a1,jB (show(k !=0)=true by have:=a3.2 a1;simpa using this)]
     exact RelR.val (by unfold VB;omega) rfl
    rw[A,show rS N _ _ x.2.2.2.1=_ from B,j0,show pX N _ ks=_ from wG (L:=L) (env:=env) (w:=w) (s:=s1) (e:=0) (b:=(a:Int)) S F ks aa,j0,jB (show((2:Int) !=0)=true by decide)]
    exact RelR.val (by unfold VB;dsimp only;omega) rfl
   rw[jA aa,jA aa,jA aa,jA aa,jA aa,jA aa,jA aa,jA aa,jB f,jA (c 1 aa),jA (c 2 aa),jA (c 3 aa),jA (c 4 aa),jA (c 5 aa),jA (c 6 aa),jA (c 7 aa),jA (c 8 aa),jB (d 9 f)]
   rw[show pX N _ [(5,x.2.2.2.1,(⟨#[]⟩:BA))]=_ from wG (L:=L) (env:=env) (w:=w) (s:=s1) (e:=0) (b:=(a:Int)) S F [(5,x.2.2.2.1,⟨#[]⟩)] (by show 1<=9;decide),j0,show KV N _ x.2.2.2.1=_ from qEm H.env.1 aa x.2.2.2.1,j0]
   show RelR a (lT s1 [(5,x.2.2.2.1,⟨#[]⟩)],match tN env x.2.2.2.1 with|some v=> .inr v|none=> .inl 15) _
   cases hvar:tN env x.2.2.2.1 with
   |none=>
    dsimp only
    rw[jB ac,uL,show oT N _ 15=_ from wA (mW (lT s1 [(5,x.2.2.2.1,⟨#[]⟩)]) 0 a) rfl 15]
    exact RelR.err ac rfl
   |some v=>
    dsimp only
    rw[jA ac]
    refine RelR.val ?_ rfl
    unfold tN at hvar
    obtain⟨y,u,rfl⟩:=jL.1 hvar
    exact hE y (kZ u)
  rw[jA aa,jA aa,jA aa,jA aa,jA aa,jA aa,jA aa,jA aa,jA aa,jA (c 1 aa),jA (c 2 aa),jA (c 3 aa),jA (c 4 aa),jA (c 5 aa),jA (c 6 aa),jA (c 7 aa),jA (c 8 aa),jA (c 9 aa)]
  obtain⟨z,u⟩:=qBg r w
  rw[show wK .u64 _ x.2.1=_ from u,j0]
  refine RelR.val (v:=BS w x.2.1) (HT _) ?_
  unfold BS
  rw[u];rfl
def UG(L:List bT)(env:mR)(w:Int)(P T:BA):Eo Int:=pZ (ev (oS L env w) 20001) 0 (pS L (bB L 2 P T)) [] ([(2,P,T)],0,false)
def Mz(o:Eo Int):Int×Int×Int:=match o.2 with
 | .inr v=>if v=0 then(2,0,0) else(1,v,0)
 | .inl e=>(3,0,e)
def OM(o:Eo Int):OQ:=(Mz o,o.1.2.2,vN o.1.1,(o.1.2.1:Int))
variable {P T:BA}
theorem qCu(H:Wrr N L env)(b:EQ N env=some true)(a:(bB L 2 P T).2.2.2.2.2≠1):AW N L env w (P,T)=some (((0,0,0),false,[],0),18):=by
 have c:=H.hN
 unfold AW
 rw[HC (show 100<N by omega),H.hc,j0,jA ac,b,j0,j0,jA ac,show GM N L 2 P T=_ from Em 2 P T aa,j0,jB (by simpa using a)]
theorem qCg(H:Wrr N L env){k:Int}{p n:BA}(q:(bB L k p n).2.2.2.2.2=1):∃i:Int,RZ N L (bB L k p n)=some ((pS L (bB L k p n)).1,i,true)/\bC (pS L (bB L k p n)).1.2.2 i=some (pS L (bB L k p n)).2:=by
 have F:=H.hN
 have a:=H.hc
 have e:bB L k p n=nW (lW (iZ L)) k p n:=by unfold bB;rw[jB a]
 obtain⟨o,z,G,b⟩:=UB (O:=lW (iZ L)) (k:=k) (p:=p) (n:=n) (by rw[<-e,q];decide)
 obtain⟨f,s,g,j,d,x,rfl⟩:=TF z
 unfold BW at b
 rw[<-e] at b
 simp only[Prod.mk.injEq] at b
 obtain⟨E,t,u,h,l⟩:=b
 obtain⟨⟨i,c,f1'⟩,-,-⟩:=NB a q
 have A:(f.1,(lS f.2).1)∈mX L:=by
  rw[NK a]
  exact gW.2 ⟨f,gM.2 ⟨s,g⟩,rfl⟩
 have v:wZ (mX L) (bB L k p n).2.2.2.1 (bB L k p n).2.2.2.2.1=((lS f.2).1,(j:Int)):=by
  rw[h,l]
  unfold wZ
  rw[TI (XV a) _ A]
 obtain⟨ht,rfl⟩:(lS f.2).1=(pS L (bB L k p n)).1/\(j:Int)=i:=by
  rw[v] at c
  exact⟨kF (·.1) c,kF (·.2) c⟩
 obtain⟨y,r⟩:=List.getElem?_eq_some_iff.1 x
 refine⟨(j:Int),?_,f1'⟩
 unfold RZ
 obtain⟨B,D⟩:=Jd a s
 rw[h,Ee aa,j0,B,g,D g,<-ht,l]
 rw[jA ac,jA (show ¬decide ((j:Int)<0)=true by simp),jA (show ¬decide ((j:Int)>=((lS f.2).1.2.2.length:Int))=true by simp only[j6];omega),eZ y,j0,r]
 rw[jA (show ¬(d.1 !=(bB L k p n).2.2.1)=true by rw[u];simp),j0,t]
 simp
theorem qCe(H:Wrr N L env)(u:EQ N env=some true)(d:(bB L 2 P T).2.2.2.2.2=1):AW N L env w (P,T)=some (OM (UG L env w P T),0):=by
 have x:=H.hN
 obtain⟨M,rfl⟩:∃M,N=M+70000:=⟨N-70000,by omega⟩
 obtain⟨i,l,p⟩:=qCg H d
 obtain⟨-,g,q⟩:=NB H.hc d
 have f:(pS L (bB L 2 P T)).2.2.2.1=[]:=g.1.2.2.2 (by rw[q];decide)
 unfold AW
 rw[HC aa,H.hc,j0,jA ac,u,j0,j0,jA ac,show GM (M+70000) L 2 P T=_ from Em 2 P T aa,j0,jA (by simp[d]),l,j0,XQ aa,j0]
 rw[show pX (M+70000) (L,((mX L).map (·.1),(mX L).map (·.2)),env,w,((0,0,0),false,[],0),0,0) [(2,(P,T).1,(P,T).2)]=_ from wG (L:=L) (env:=env) (w:=w) (s:=([],0,false)) (e:=0) (b:=0) x (by show 0<=300000;omega) [(2,P,T)] (by show 1<=9;decide),j0]
 have y:=ZC (N:=M+70000) (L:=L) (env:=env) (w:=w) (n:=20001) (D:=M+69999) (a:=0) (s:=([(2,P,T)],0,false)) (t:=pS L (bB L 2 P T)) (vs:=[]) (Mt H H.env.2 20001) (k:=i) ⟨kK _,by show 20000<0+20001;decide⟩ (by show 1<=10*0+1;decide) aa ac p g (by rw[f];rfl) (λv A=>by cases A)
 have key:∀(o:Eo Int) (r:Option (yR×Int)),RelR 0 o r->(r.bind λc=>(if(c.1.2.1 !=0)then some ((3:Int),(0:Int),c.1.2.1) else if(c.2==0)then some (2,0,0) else some (1,c.2,0):Option (Int×Int×Int)).bind λo2=>some ((o2,c.1.1.2.1,c.1.1.2.2.1,c.1.1.2.2.2),(0:Int)))=some (OM o,0):=λo r h=>by
  obtain⟨s,e|v⟩:=o
  .obtain⟨z,v,h⟩:=h
   rw[h,j0,jB (show(e !=0)=true by simpa using z)];rfl
  obtain⟨h,-⟩:=h
  rw[h,j0,jA (show ¬((0:Int) !=0)=true by decide)]
  unfold OM Mz
  dsimp only
  by_cases h0:v=0
  .rw[jB (show(v==0)=true by simp[h0]),jB h0];rfl
  rw[jA (show ¬(v==0)=true by simpa using h0),jA h0];rfl
 exact key _ _ y
def lC(v:Int):Prop:= -9007199254740992<=v/\v<=9007199254740992
def Twn{α:Type}(P:α->Prop)(x y:Eo α):Prop:=y=x/\∀v,x.2= .inr v->P v
theorem Twn.bE{α β:Type}{P:α->Prop}{Q:β->Prop}{o o':Eo α}{k k':α->Es->Eo β}(h:Twn P o o')(a:∀v u,P v->Twn Q (k v u) (k' v u)):Twn Q (bE o k) (bE o' k'):=by
 obtain⟨rfl,h⟩:=h
 obtain⟨u,e|v⟩:=o'
 .exact⟨rfl,λv b=>by cases b⟩
 exact a v u (h v rfl)
theorem Twn.val{α:Type}{P:α->Prop}{s:Es}{v:α}(h:P v):Twn P (s,.inr v) (s,.inr v):=⟨rfl,λw a=>by cases a;exact h⟩
theorem Twn.err{α:Type}{P:α->Prop}{s:Es}{e:Int}:Twn P (s,.inl e) (s,.inl e):=⟨rfl,λw a=>by cases a⟩
def CA(t:Aa):Prop:=∀x∈t.2.2.2.2,(x.1=1->lC x.2.1)/\(x.1=4->1<=x.2.2.1/\x.2.2.1<=7)
structure Sml(I J:Lk):Prop where
 cl:J.cl=I.cl
 clT:∀f nm t,(I.cl f nm).2= .inr t->CA t
 dt:J.dt=I.dt
 dtT:∀p t,(I.dt p).2= .inr (.inr t)->CA t
 dtB:∀p b,(I.dt p).2= .inr (.inl b)->b.size<=16384
 en:J.en=I.en
 enV:∀p v,I.en p=some v->lC v
 bt:J.bt=I.bt
 btV:∀k,lC (I.bt k)
 ar:∀op a b,1<=op->op<=7->lC a->lC b->J.ar op a b=I.ar op a b/\∀v,I.ar op a b= .inr v->lC v
end
section
open Go Go.Dc Go.Proofs
variable {I J:Lk} {F F':xJ}
def Bo(F F':xJ):Prop:=∀a c vs i s,CA c->(∀v∈vs,lC v)->Twn lC (F a c vs i s) (F' a c vs i s)
theorem Twn.seq{f f':Int->Es->Eo Int}(h:∀i s,Twn lC (f i s) (f' i s)):∀(l:List Int) (s:Es),Twn (λvs=>∀v∈vs,lC v) (tO f l s) (tO f' l s)
 |[],s=> .val λ_ h=>by cases h
 |i::l,s=>(h i s).bE λv u c=>(Twn.seq h l u).bE λvs u b=> .val λw a=>by
  rcases jK.1 a with rfl|a
  .exact c
  exact b w a
theorem Twn.enter(h:Bo F F')(a:Nat){t:Aa}(b:CA t){vs:List Int}(c:∀v∈vs,lC v)(s:Es):Twn lC (pZ F a t vs s) (pZ F' a t vs s):=by
 unfold pZ
 by_cases ha:a=64
 .simp only[jB ha];exact .err
 simp only[jA ha];exact h _ _ _ _ _ b c
theorem Zu{vs:List Int}(a:∀v∈vs,lC v)(k:Nat):lC (vs.getD k 0):=by
 rw[jV]
 cases h:vs[k]? with
 |none=>show lC 0;unfold lC;omega
 |some v=>exact a v (gY h)
theorem Twn.node(H:Sml I J)(h:Bo F F')(a:Nat){c:Aa}(g:CA c){vs:List Int}(f:∀v∈vs,lC v){x:Ex}(l:x∈c.2.2.2.2)(s:Es):Twn lC (yM I F a c vs x s) (yM J F' a c vs x s):=by
 unfold yM
 rw[H.cl,H.dt,H.en,H.bt]
 by_cases h1:x.1=1
 .simp only[jB h1];exact .val ((g x l).1 h1)
 by_cases h2:x.1=2
 .simp only[jA h1,jB h2];exact .val (Zu f _)
 by_cases h3:x.1=3
 .simp only[jA h1,jA h2,jB h3]
  refine Twn.bE (P:=CA) ⟨rfl,λt d=>H.clT _ _ t d⟩ λt u d=>(Twn.seq (λi s=>h a c vs i s g f) _ u).bE λus u k=> ?_
  by_cases hl:us.length=t.2.2.2.1.length
  .simp only[jB hl];exact .enter h a d k u
  simp only[jA hl];exact .err
 by_cases h4:x.1=4
 .simp only[jA h1,jA h2,jA h3,jB h4]
  refine(h a c vs _ _ g f).bE λp u k=>(h a c vs _ _ g f).bE λq u r=> ?_
  obtain⟨y,o2⟩:=(g x l).2 h4
  obtain⟨n,o⟩:=H.ar x.2.2.1 p q y o2 k r
  rw[n]
  exact⟨rfl,o⟩
 by_cases h5:x.1=5
 .simp only[jA h1,jA h2,jA h3,jA h4,jB h5]
  exact(h a c vs _ _ g f).bE λp u k=>h a c vs _ _ g f
 by_cases h6:x.1=6
 .simp only[jA h1,jA h2,jA h3,jA h4,jA h5,jB h6]
  refine Twn.bE (P:=λt=>∀t',t= .inr t'->CA t') ⟨rfl,λt d t' e=>H.dtT _ t' (by subst e;exact d)⟩ λt u d=>(h a c vs _ _ g f).bE λi u hi=> ?_
  cases t with
  |inl b=>
   dsimp only
   split
   .refine .val ?_
    have:=(b.data.toList.getD i.toNat 0).toNat_lt
    unfold lC;omega
   exact .err
  |inr t=>
   dsimp only
   by_cases h0:i=0
   .simp only[jB h0]
    refine(Twn.enter h a (d t rfl) (λv f=>by cases f) u).bE λv u _=> .val ?_
    unfold lC;omega
   simp only[jA h0];exact .err
 by_cases h7:x.1=7
 .simp only[jA h1,jA h2,jA h3,jA h4,jA h5,jA h6,jB h7]
  refine Twn.bE (P:=λt=>∀b,t= .inl b->b.size<=16384) ⟨rfl,λt d b e=>H.dtB _ b (by subst e;exact d)⟩ λt u d=> .val ?_
  cases t with
  |inl b=>have:=d b rfl;dsimp only;unfold lC;omega
  |inr t=>dsimp only;unfold lC;omega
 by_cases h8:x.1=8
 .simp only[jA h1,jA h2,jA h3,jA h4,jA h5,jA h6,jA h7,jB h8]
  refine .val ?_
  split
  .split<;>(unfold lC;omega)
  unfold lC;omega
 by_cases h9:x.1=9
 .simp only[jA h1,jA h2,jA h3,jA h4,jA h5,jA h6,jA h7,jA h8,jB h9]
  cases he:I.en x.2.2.2.1 with
  |none=>exact .err
  |some v=>exact .val (H.enV _ v he)
 simp only[jA h1,jA h2,jA h3,jA h4,jA h5,jA h6,jA h7,jA h8,jA h9]
 exact .val (H.btV _)
theorem Twn.ev(H:Sml I J):∀n,Bo (ev I n) (ev J n)
 |0,_,_,_,_,_,_,_=> .err
 |n+1,a,c,vs,i,s,b,d=>by
  unfold Go.Proofs.YtndcdhopdbkikabGreatDoor.ev
  by_cases hs:s.2.1=20000
  .simp only[jB hs];exact .err
  simp only[jA hs]
  cases hx:c.2.2.2.2[i.toNat]? with
  |none=>exact .err
  |some x=>exact .node H (Twn.ev H n) a b d (gY hx) _
theorem zS(v:Int)(t:oY):UU (some (sB v t))=yL v:=by
 unfold sB yL UU
 cases h:xG v with
 |true=>
  unfold xG at h
  simp only[jS,j6] at h
  rw[jA aa];rfl
 |false=>
  unfold xG at h
  rw[jB (by simp only[Bool.and_eq_false_iff,decide_eq_false_iff_not] at h;omega)];rfl
theorem Kp{v w:Int}(h:yL v= .inr w):lC w:=by
 unfold yL at h
 split at h
 .cases h
 cases h;unfold lC;omega
theorem NT{v:Int}(h:lC v):yL v= .inr v:=by unfold yL;unfold lC at h;rw[jA aa]
theorem Kf{v:Int}(h:lC v):yJ v=(v.natAbs:Int):=by
 unfold lC at h;unfold yJ
 split
 .rw[bP aa aa];omega
 omega
theorem Kj{v:Int}(h:lC v):(if wI (0-v)>v then wI (0-v) else v)=(v.natAbs:Int):=by
 unfold lC at h
 rw[bP aa aa]
 split<;>omega
theorem ZS{v:Int}(h:v.natAbs<=9007199254740992):lC v:=by unfold lC;omega
theorem Lb{v:Int}(h:lC v):v.natAbs<=9007199254740992:=by unfold lC at h;omega
theorem qBx(op a b:Int)(o:1<=op)(o2:op<=7)(f:lC a)(g:lC b):JS op a b=JB op a b/\∀v,JB op a b= .inr v->lC v:=by
 have ha':=Lb f
 have hb':=Lb g
 unfold JS CG JB
 by_cases p1:op=1
 .simp only[jB p1,zS];exact⟨trivial,λv=>Kp⟩
 by_cases p2:op=2
 .simp only[jA p1,jB p2,zS];exact⟨trivial,λv=>Kp⟩
 by_cases p3:op=3
 .simp only[jA p1,jA p2,jB p3]
  by_cases hb0:b=0
  .rw[jA (not_not_intro hb0),jB (Or.inr hb0),j0]
   simp only[cond_false,zS,hb0,Int.mul_zero]
   exact⟨by decide,λv h=>by cases h;unfold lC;omega⟩
  obtain⟨z,hz,e,d⟩:∃z:Nat,z<=9007199254740992/\rK .i64 9007199254740992 (b.natAbs:Int)=some (z:Int)/\∀n:Nat,n<=z->n*b.natAbs<=9007199254740992:=by
   refine⟨9007199254740992/b.natAbs,Nat.div_le_self _ _,?_,λn h=>(Nat.le_div_iff_mul_le aa).1 h⟩
   unfold rK
   rw[jA aa,Int.tdiv_eq_ediv_of_nonneg aa]
   have k:=Nat.div_le_self 9007199254740992 b.natAbs
   rw[show((9007199254740992:Int)/(b.natAbs:Int))=((9007199254740992/b.natAbs:Nat):Int) by rw[Int.natCast_ediv];rfl]
   generalize 9007199254740992/b.natAbs=z at k
   exact kF some (bP aa aa)
  rw[jB hb0,Kj g,Kj f,Kf f,Kf g,e]
  simp only[j0,gP]
  by_cases ha0:a=0
  .subst ha0
   rw[jB (Or.inl rfl),jP (by simp only[Int.natAbs_zero];omega)]
   simp only[cond_false,zS,Int.zero_mul]
   exact⟨by decide,λv h=>by cases h;unfold lC;omega⟩
  rw[jA aa]
  by_cases hg:(a.natAbs:Int)>(z:Int)
  .rw[jB hg,jI hg]
   exact⟨rfl,λv h=>by cases h⟩
  have d:lC (a*b):=ZS (by
   rw[Int.natAbs_mul]
   exact d _ aa)
  rw[jA hg,jP hg]
  have k:wI (a*b)=a*b:=by unfold lC at d;exact bP aa aa
  simp only[cond_false,zS,k,NT d]
  exact⟨trivial,λv h=>by cases h;exact d⟩
 have d:∀c:Bool,lC (bif c then 1 else 0):=λc=>by cases c<;>(unfold lC;decide)
 by_cases p6:op=6
 .simp only[jA p1,jA p2,jA p3,jA (show ¬(op=4\/op=5) by omega),jB p6,zS]
  rw[NT (d _)]
  by_cases h:a<b
  .rw[jB h,jI h];exact⟨rfl,λv h=>by cases h;exact d true⟩
  rw[jA h,jP h];exact⟨rfl,λv h=>by cases h;exact d false⟩
 by_cases p7:op=7
 .simp only[jA p1,jA p2,jA p3,jA (show ¬(op=4\/op=5) by omega),jA p6,jB p7,zS]
  rw[NT (d _)]
  by_cases h:a=b
  .rw[jB h,show(a==b)=true by simpa using h];exact⟨rfl,λv h=>by cases h;exact d true⟩
  rw[jA h,show(a==b)=false by simpa using h];exact⟨rfl,λv h=>by cases h;exact d false⟩
 simp only[jA p1,jA p2,jA p3,jB (show op=4\/op=5 by omega),jA p6,jA p7]
 by_cases hb0:b=0
 .rw[jB hb0,jB hb0];exact⟨rfl,λv h=>by cases h⟩
 rw[jA hb0,jA hb0]
 have e:lC (a.tdiv b):=ZS (by rw[Int.natAbs_tdiv];exact gC (Nat.div_le_self _ _) ha')
 have l:lC (a.tmod b):=ZS (by rw[Int.natAbs_tmod];exact gC (Nat.mod_le _ _) ha')
 have k:wI (a.tdiv b)=a.tdiv b:=by unfold lC at e;exact bP aa aa
 simp only[rK,wH,jA hb0,j0,gP,k]
 by_cases p5:op=5
 .rw[jB p5,jA aa]
  simp only[zS,NT l]
  exact⟨trivial,λv h=>by cases h;exact l⟩
 rw[jA p5,jB aa]
 simp only[zS,NT e]
 exact⟨trivial,λv h=>by cases h;exact e⟩
variable {N:Nat} {L:List bT} {env:mR} {w:Int}
theorem Wrr.wrl(H:Wrr N L env):Wrl N L env ZT F1:=⟨by have:=H.hN;omega,H.hc,λf _ _=>Lg f.2,H.env⟩
theorem Ay(H:Wrr N L env){k:Int}{p n:BA}(g:(bB L k p n).2.2.2.2.2=1):nY L (bB L k p n)=pS L (bB L k p n):=by
 obtain⟨f,j,d,s,t,u,-,e⟩:=Jt H.hc g
 have ew:(lD L).2.2.1=some (UQ L):=by unfold lD;rw[jB H.hc];rfl
 have b:bB L k p n=nW (lW (iZ L)) k p n:=by unfold bB;rw[jB H.hc]
 obtain⟨o,q,-,a⟩:=UB (O:=lW (iZ L)) (k:=k) (p:=p) (n:=n) (by rw[<-b,g];decide)
 obtain⟨f',hf',hg',j',d',hj',rfl⟩:=TF q
 unfold BW at a
 rw[<-b] at a
 simp only[Prod.mk.injEq] at a
 obtain⟨-,-,-,c,h⟩:=a
 have r:(f'.1,(lS f'.2).1)∈mX L:=by
  rw[NK H.hc]
  exact gW.2 ⟨f',gM.2 ⟨hf',hg'⟩,rfl⟩
 have l:yG (lD L) (bB L k p n)=(lS f'.2).1:=by
  unfold yG
  rw[c,ew,cR,j0,Fx H.wrl.asc hf',jB hg'];rfl
 unfold nY pS
 rw[l,c,h]
 unfold wZ
 rw[TI (XV H.hc) _ r]
theorem Bc(H:Wrr N L env){k:Int}{p n:BA}(a:(bB L k p n).2.2.2.2.2=1):CA (pS L (bB L k p n)):=λx e=>by
 obtain⟨-,b,-⟩:=NB H.hc a
 obtain⟨i,hi⟩:=List.getElem?_of_mem e
 have c:=b.1.1.1 i x hi
 unfold lC
 rcases c with ⟨a,b,d⟩|⟨a,-⟩|⟨a,-⟩|⟨a,b,-⟩|⟨a,-⟩|⟨a,-⟩|⟨a,-⟩|⟨a,-⟩
 .exact⟨λ_=>⟨b,d⟩,λh=>by omega⟩
 .exact⟨λh=>by omega,λh=>by omega⟩
 .exact⟨λh=>by omega,λh=>by omega⟩
 .exact⟨λh=>by omega,λ_=>b⟩
 .exact⟨λh=>by omega,λh=>by omega⟩
 .exact⟨λh=>by omega,λh=>by omega⟩
 .exact⟨λh=>by rcases a with a|a|a<;>omega,λh=>by rcases a with a|a|a<;>omega⟩
 exact⟨λh=>by omega,λh=>by omega⟩
theorem Xy(w k:Int):lC (BS w k):=by
 unfold BS
 generalize (wK .u64 w k).getD 0=x
 have h:0<=IU .u64 x 1/\IU .u64 x 1<=1:=by
  show 0<=IntKind.wrap .u64 ((BitVec.ofInt 64 x&&&BitVec.ofInt 64 1).toNat:Int)/\IntKind.wrap .u64 ((BitVec.ofInt 64 x&&&BitVec.ofInt 64 1).toNat:Int)<=1
  rw[show BitVec.ofInt 64 1=1#64 by decide,BitVec.toNat_and,show(1#64).toNat=1 from rfl,Nat.and_one_is_mod,Xh]
  omega
 rw[bP aa aa]
 unfold lC;omega
theorem qDm(H:Wrr N L env)(g:∀v∈env,lC v.2):Sml (oS L env w) (nH L env w) where
 cl:=by
  funext f nm
  show(if 8<f.2.1.length then([],.inl 0) else DV L _:List Ky×(Int⊕Aa))=(if 8<f.2.1.length then([],.inl 0) else zY L _:List Ky×(Int⊕Aa))
  split
  .rfl
  have d:=(DE (E:=λp=>bB L 1 p nm) (nm:=nm) (λp=>uY L 1 p _) (f.1::f.2.1) []).1
  unfold DV zY
  by_cases h0:(oX (λp=>bB L 1 p nm) nm (f.1::f.2.1) []).2.2=0
  .obtain⟨p,e,a⟩:=d h0
   rw[jB h0,jB h0,e,Ay H a]
  rw[jA h0,jA h0]
 clT:=λf nm t h=>by
  have h:(if 8<f.2.1.length then([],.inl 0) else zY L (oX (λp=>bB L 1 p nm) nm (f.1::f.2.1) []):List Ky×(Int⊕Aa)).2= .inr t:=h
  split at h
  .cases h
  have d:=(DE (E:=λp=>bB L 1 p nm) (nm:=nm) (λp=>uY L 1 p _) (f.1::f.2.1) []).1
  unfold zY at h
  by_cases h0:(oX (λp=>bB L 1 p nm) nm (f.1::f.2.1) []).2.2=0
  .obtain⟨p,e,a⟩:=d h0
   rw[jB h0,e] at h
   cases h
   exact Bc H a
  rw[jA h0] at h;cases h
 dt:=by
  funext p
  show rB L p=rC L p
  unfold rB rC
  cases mF L p with
  |some b=>rfl
  |none=>
   dsimp only
   by_cases h0:(bB L 3 eA p).2.2.2.2.2=0
   .rw[jB h0,jB h0]
   by_cases a:1<(bB L 3 eA p).2.2.2.2.2
   .rw[jA h0,jA h0,jB a,jB a]
   rw[jA h0,jA h0,jA a,jA a,Ay H (by have:=uY L 3 eA p;omega)]
 dtT:=λp t h=>by
  have h:(rC L p).2= .inr (.inr t):=h
  unfold rC at h
  cases d:mF L p with
  |some b=>rw[d] at h;cases h
  |none=>
   rw[d] at h
   dsimp only at h
   by_cases h0:(bB L 3 eA p).2.2.2.2.2=0
   .rw[jB h0] at h;cases h
   by_cases a:1<(bB L 3 eA p).2.2.2.2.2
   .rw[jA h0,jB a] at h;cases h
   rw[jA h0,jA a] at h
   cases h
   exact Bc H (by have:=uY L 3 eA p;omega)
 dtB:=λp b h=>by
  have h:(rC L p).2= .inr (.inl b):=h
  unfold rC at h
  cases d:mF L p with
  |none=>
   rw[d] at h
   dsimp only at h
   split at h
   .cases h
   split at h<;>cases h
  |some c=>
   rw[d] at h
   cases h
   exact((uI.1 H.hc).2.2 _ (ZP d)).2
 en:=rfl
 enV:=λp v h=>by
  have h:tN env p=some v:=h
  unfold tN at h
  obtain⟨y,a,rfl⟩:=jL.1 h
  exact g y (kZ a)
 bt:=rfl
 btV:=Xy w
 ar:=qBx
theorem Xf(ks:List Ky):AD (pV ks)=vN ks:=by
 have g:∀(ks:List Ky) (M:List (Ky×Bool)),(M.map (·.1)).Nodup->∀z,z∈(ks.foldl (λM k=>mset M k true) M).map (·.1)↔z∈ks\/z∈M.map (·.1):=by
  intro ks
  induction ks with
  |nil=>intro M _ z;simp
  |cons k ks c=>
   intro M b z
   rw[kD,c _ (SR b k true),Xq b,jK]
   exact⟨λh=>by rcases h with h|h|h<;>simp[h],λh=>by rcases h with (h|h)|h<;>simp[h]⟩
 have b:NW cK (vN ks):=Du ks [] List.Pairwise.nil
 unfold AD
 refine SU (r:=λx y=>ltOf IG y x=false) (λx y d f=>cmpKy_lin.total x y f d) ((CY _).trans ((List.perm_ext_iff_of_nodup (ZR ks [] hQ).1 (b.imp λh e=> ?_)).2 λz=> ?_)) (MM cmpKy_lin _) (b.imp λh=> ?_)
 .subst e
  have c:∀a:Ky,cK a a=0:=λa=>(cK_lin.zero a a).2 rfl
  rw[c] at h
  omega
 .unfold vN
  rw[g ks [] hQ z,Ib];simp
 have:=(cmpKy_lin.anti _ _).1 h
 unfold ltOf
 simp only[decide_eq_false_iff_not]
 omega
theorem Ye(H:Wrr N L env)(b:∀v∈env,lC v.2){P T:BA}(a:(bB L 2 P T).2.2.2.2.2=1):Bl (zV L env w P T)=OM (UG L env w P T):=by
 have h:zV L env w P T=UG L env w P T:=by
  unfold zV UG
  rw[Ay H a]
  exact(Twn.enter (Twn.ev (qDm H b) 20001) 0 (Bc H a) (λv c=>by cases c) _).1
 rw[h]
 unfold Bl OM
 rw[Xf]
 rfl
theorem qAn(H:Wrr N L env)(c:HS N L)(b:CK N env=some true){P T:BA}(a:(bB L 2 P T).2.2.2.2.2≠1):zD N L env w (P,T)=some (((0,0,0),false,[],0),18):=by
 have d:=H.hN
 have eW:(lD L).2.1=true:=by unfold lD;rw[jB H.hc]
 unfold zD
 rw[Mi c aa,j0,jA (by rw[eW];decide),b]
 simp only[j0]
 rw[jA ac,show xS N _ 2 P T=_ from NA 2 P T,j0,jB (by simpa using a)]
def envV:List Int:=[0,1,(-1),5,9007199254740992,(-9007199254740992)]
def IQ(L:List mR)(nm:BA):List mR:=L.flatMap λe=>e::envV.map λv=>e++[(nm,v)]
def EC:Nat->List mR
 |0=>[[]]
 |1=>IQ [[]] ⟨#[109]⟩
 |_=>IQ (IQ [[]] ⟨#[109]⟩) ⟨#[110]⟩
theorem qBo(M:Nat):((EC 2).all λe=>decide (CK (M+300) e=some true)&&decide (EQ (M+300) e=some true)&&decide (e.length<=16)&&e.all λv=>decide (-9007199254740992<=v.2)&&decide (v.2<=9007199254740992))=true:=by kernel_rfl
theorem Yn{L:List mR}{nm:BA}{e:mR}(h:e∈L):e∈IQ L nm:=fP.2 ⟨e,h,jR ..⟩
theorem Zb{L:List mR}{nm:BA}{e:mR}(h:e∈L){v:Int}(a:v∈envV):e++[(nm,v)]∈IQ L nm:=fP.2 ⟨e,h,jU _ (gW.2 ⟨v,a,rfl⟩)⟩
theorem Hk{i:Nat}(hi:i<2):EC (i+1)=IQ (EC i) ([(⟨#[109]⟩:BA),(⟨#[110]⟩:BA)][i]):=by
 rcases(by omega:i=0\/i=1) with rfl|rfl<;>rfl
theorem Sc{N:Nat}{l:List Int}{a:Int}(t:100<N)(p:0<=a)(q:a<1000000000000000000):Ok (QN N (l,a)) λy=>∃a' e,y=((l,a'),e)/\a<=a'/\a'<=a+4/\e∈EC 2:=by
 unfold QN
 have g:∀e∈EC 2,True:=λ_ _=>trivial
 refine Ok.loop (λs=>∃(i:Nat) (e:mR) (b:Int),s=((i:Int),e,l,b)/\i<=2/\e.length<=i/\a<=b/\b<=a+2*i/\e∈EC i) (λs=>2-s.1.toNat)
  (λo=>∃(e:mR) (b:Int),o=(e,l,b)/\a<=b/\b<=a+4/\e∈EC 2) (λs h=> ?_) ⟨0,[],a,rfl,by omega,by simp,by omega,by omega,gX.2 rfl⟩ ak ?_
 .obtain⟨i,e,b,rfl,hi,u,f,n,d⟩:=h
  unfold VI
  refine Ok.ite (λc=> ?_) λc=>Ok.mk ?_
  .have c:i<2:=by simp only[j6,jC,jD] at c;omega
   have ew:wI ((i:Int)+1)=((i+1:Nat):Int):=by rw[bP aa aa];omega
   dsimp only
   rw[eZ (show i<[(⟨#[109]⟩:BA),(⟨#[110]⟩:BA)].length from c)]
   simp only[j0,ew]
   refine Ok.assoc (Ok.chance aa aa ac ac λr=> ?_)
   cases r with
   |true=>
    refine Ok.ttb (Ok.assoc (Ok.pick aa aa ac ac λz k=> ?_))
    refine Ok.assoc (Ok.app af ac ?_)
    refine Ok.someb (Ok.mk ⟨⟨i+1,_,b+1+1,rfl,by omega,by simp only[jG,jC,jD];omega,by omega,by omega,?_⟩,by simp only;omega⟩)
    rw[Hk c]
    exact Zb d k
   |false=>
    refine Ok.ffb (Ok.someb (Ok.mk ⟨⟨i+1,e,b+1,rfl,by omega,by omega,by omega,by omega,?_⟩,by simp only;omega⟩))
    rw[Hk c]
    exact Yn d
  obtain rfl:i=2:=by simp only[j6,jC,jD] at c;omega
  exact⟨e,b,rfl,f,by omega,d⟩
 rintro _ ⟨e,b,rfl,c,d,f⟩
 exact Ok.mk ⟨b,e,rfl,c,d,f⟩
def qEe(N:Nat)(y:(List Int×Int)×List bT×mR×Int):Prop:=HS N y.2.1/\CK N y.2.2.1=some true/\EQ N y.2.2.1=some true/\nE y.2.1=0/\y.2.2.1.length<=16/\(∀v∈y.2.2.1,lC v.2)/\0<=y.1.2/\y.1.2<1000000000000
theorem qBp{N:Nat}{l:List Int}(D:3000000<N):Ok (RX N (l,0)) (qEe N):=by
 unfold RX
 refine Ok.bind (Uj (l:=l) (a:=0) aa ac ac) ?_
 rintro _ ⟨h,A,rfl,G,H,u,R⟩
 dsimp only
 refine Ok.next aa aa ac ac λn s F=> ?_
 dsimp only
 refine Ok.loop (λst=>∃(j:Nat) (a':Int) (B:List bT),st=((j:Int),l,a',B)/\j<=3/\0<=a'/\a'<=2000000+200000*(3-j)/\MadeE (4700+950*(3-j)) B/\B.length<=7+(3-j)) (λst=>st.1.toNat) (λb=>∃a' B,b=(l,a',B)/\0<=a'/\a'<=10000000/\MadeE 10000 B/\B.length<=10) ?_ ⟨n.toNat,h+1,A,by rw[Int.toNat_of_nonneg s],by omega,by omega,by omega,u.e.more aa,by omega⟩ (by show n.toNat<N;omega) ?_
 .rintro _ ⟨j,a',B,rfl,k,g,o,c,p⟩
  unfold VP
  dsimp only
  by_cases hlt:0<j
  .rw[jB ad]
   refine Ok.bind (qCc (K:=4700+950*(3-j)) aa aa aa c aa aa aa) ?_
   rintro _ ⟨f,C,rfl,q,v2,d,t⟩
   dsimp only
   have w:wI ((j:Int)-1)=((j-1:Nat):Int):=by rw[bP aa aa];omega
   rw[w]
   exact Ok.mk ⟨⟨j-1,f,C,rfl,by omega,by omega,by omega,d.more aa,by omega⟩,by simp only[jZ];omega⟩
  rw[jA ad]
  exact Ok.mk ⟨a',B,rfl,g,by omega,c.more aa,by omega⟩
 rintro _ ⟨a',B,rfl,g,o,c,p⟩
 dsimp only
 refine Ok.bind (Sc aa g aa) ?_
 rintro _ ⟨f,e,rfl,x,y,k⟩
 dsimp only
 unfold WH
 refine Ok.assoc (Ok.pick aa aa ac ac λz E=> ?_)
 obtain⟨r,t,-⟩:=NE (N:=N) (l:=l) (a:=f+1) (n:=1073741824) aa aa ac
 dsimp only
 rw[t]
 refine Ok.someb (Ok.someb (Ok.mk ?_))
 obtain⟨M,rfl⟩:∃M,N=M+300:=⟨N-300,by omega⟩
 have d:=jW.1 (qBo M) e k
 simp only[jS,j6,jW] at d
 exact⟨Wf c aa,d.1.1.1,d.1.1.2,uI.2 (c.wf ac aa),d.1.2,λv q=>d.2 v q,by dsimp only;omega,by dsimp only;omega⟩
theorem Ut(M:Nat):WD (M+800)=some true:=by kernel_rfl
theorem Xm{N:Nat}{r:OQ}(b:r.2.2.1.length<1000000)(a:r.2.2.1.length<N):FQ N r r=some true:=by
 unfold FQ
 rw[jA ae,jA ae,jA ae]
 simp only[fY,j0,j9,jF]
 have:=HM (f:=FE N r r) (λi=>(i:Int)) r.2.2.1.length (.inl ()) (λi hi=>by
  simp only[FE]
  rw[jB (by simpa using hi),eZ hi,j0,j0,jA ae,bP aa aa];rfl) (by simp only[FE];rw[jA ae]) a
 rw[show aC (FE N r r) N 0=_ from this];rfl
theorem Rx{N:Nat}(B:20000000<N)(l:List Int):Ok (QJ N l) λz=>z=true:=by
 unfold QJ
 refine Ok.bind (qBp (l:=l) aa) λy K=> ?_
 obtain⟨k,g,n,u,x,d,o,s⟩:=K
 obtain⟨T,t1,t2⟩:=Sq u (N:=N) aa
 rw[t1,j0]
 have D:∃q,LY N y.1=some q:=by
  obtain⟨⟨l',a⟩,y'⟩:=y
  dsimp only at o s
  have h:Ok (LY N (l',a)) λ_=>True:=by
   unfold LY yX LT
   exact Ok.someb (Ok.one aa aa ac ac λp _=>Ok.someb (Ok.one aa aa ac ac λt _=>Ok.mk trivial))
  exact⟨_,h.choose_spec.1⟩
 obtain⟨q,E⟩:=D
 rw[E,j0,lQ af aa,j0]
 have H:Wrr N y.2.1 y.2.2.1:=⟨B,u,x,λv G=>by have:=d v G;unfold lC at this;unfold VB;omega⟩
 generalize hS:T++[q.2]=S
 have U:S.length<2000000:=by rw[<-hS,jG,jC,jD];omega
 have:=HM (f:=ES N y S) (λi=>(i:Int)) S.length (.inl ()) (λi hi=>by
  simp only[ES]
  rw[jB (by simpa using hi),eZ hi,j0]
  have fin:∀r:OQ,r.2.2.1.length<1000000->∀e:Int,zD N y.2.1 y.2.2.1 y.2.2.2 S[i]=some (r,e)->AW N y.2.1 y.2.2.1 y.2.2.2 S[i]=some (r,e)->
    ((zD N y.2.1 y.2.2.1 y.2.2.2 S[i]).bind λc=>(AW N y.2.1 y.2.2.1 y.2.2.2 S[i]).bind λy5=>(if(c.2 !=y5.2)then(some true) else((FQ N (c.1.1,c.1.2.1,c.1.2.2.1,c.1.2.2.2) (y5.1.1,y5.1.2.1,y5.1.2.2.1,y5.1.2.2.2)).bind λR=>some (!R)):Option (Bool)).bind λo2=>if o2 then(some (.inr (.inr (false)))) else(some (.inl (wI ((i:Int)+1)))):Option (Int⊕(Unit⊕Bool)))=some (.inl ((i+1:Nat):Int)):=λr F e b A=>by
   rw[b,A]
   simp only[j0]
   rw[jA ae,show FQ N _ _=_ from Xm (r:=r) F aa]
   simp only[j0]
   rw[jA ac,bP aa aa];rfl
  by_cases b:(bB y.2.1 2 S[i].1 S[i].2).2.2.2.2.2=1
  .have A:=qEo (w:=y.2.2.2) H.wrl k g b
   have c:=qCe (w:=y.2.2.2) H n b
   rw[<-Ye H d b] at c
   exact fin _ (qAg (Gw y.2.1 y.2.2.1 y.2.2.2 S[i].1 S[i].2)) 0 A c
  exact fin _ (by show 0<1000000;decide) 18 (qAn H k g b) (qCu H n b)) (by simp only[ES];rw[jA ae]) (N:=N) aa
 rw[show aC (ES N y S) N 0=_ from this,j0]
 dsimp only
 obtain⟨M,rfl⟩:∃M,N=M+800:=⟨N-800,by omega⟩
 rw[Ut M]
 exact Ok.mk rfl
theorem testgatelaw10_EvaluateRuns_true(l:List Int){G:Prop}(_gl:G):∃N,QJ N l=some true:=by
 obtain⟨z,a,rfl⟩:=Rx (N:=20000001) ac l
 exact⟨_,a⟩
end
end Go.Proofs.YtndcdhopdbkikabGreatDoor
