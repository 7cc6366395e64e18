/- No condition but those of each theorem. -/
import Derived.Test.YtadnagdgimicdaaGreatDoorProg
import Derived.WalkKit
import Derived.Deep.LoopGhost
import Derived.KernelRfl
import Derived.OrdersHeld
import Derived.OrdersIn
import Derived.LoopNIn
import Derived.Sort.LoopGhostIn
import Derived.Laws.AppendOwn
import Derived.RangeFuncLeaves
import Derived.RangeFuncRecord
import Derived.MapKept
import Derived.Maps.RangeRun
import Derived.ChangeKeysEq
import Derived.HandedShaped
import Derived.ChangeStays
import Derived.ChangeSame
import Derived.OpenShut
import Derived.WideShapes
import Derived.JoinedOf
import Derived.ReadAgain
import Derived.ChangeAt
import Derived.RowKit
import Derived.Lib.Overlaps
import Derived.Shelf.SlSortCmp.NoneTotal
import Derived.WalkSmall
import Derived.Recover
namespace Go
section
abbrev j0:=@Option.bind_some
abbrev j6:=@Option.some.inj
abbrev j9:=@Option.some.injEq
abbrev jA:=@Nat.lt_succ_self
abbrev jB:=@Option.bind_eq_some_iff
abbrev jC:=@List.eq_nil_of_length_eq_zero
abbrev jD:=@List.mem_cons
abbrev jE:=@Nat.add_mul
abbrev jF:=@List.map_cons
abbrev jG:=@Bool.false_eq_true
abbrev jH:=@List.all_eq_true
abbrev jI:=@Bool.and_eq_true
abbrev jJ:=@List.mem_cons_self
abbrev jK:=@Nat.le_of_ble_eq_true
abbrev jL:=@Option.map_eq_some_iff
abbrev jM:=@List.pairwise_cons
abbrev jN:=@List.length_append
abbrev jO:=@List.perm_middle
abbrev jP:=@if_true
abbrev jQ:=@Option.map_some
abbrev jR:=@Nat.mul_le_mul_right
abbrev jS:=@List.mem_cons_of_mem
abbrev jT:=@Nat.le_refl
abbrev jU:=@List.map_inj_left
abbrev jV:=@List.flatMap_cons
abbrev jW:=@List.cons.injEq
abbrev jX:=@Array.toList_modify
abbrev jY:=@if_false
abbrev jZ:=@List.nodup_cons
abbrev k7:=@Array.toList_push
abbrev k8:=@List.mem_map_of_mem
abbrev k9:=@List.filterMap_cons
abbrev kA:=@List.take_append_of_le_length
abbrev kC:=@List.drop_append_of_le_length
abbrev kD:=@List.drop_eq_nil_of_le
abbrev kE:=@Nat.eq_of_beq_eq_true
abbrev kF:=@Nat.add_comm
abbrev kH:=@List.nil_append
abbrev kI:=@Nat.add_assoc
abbrev kJ:=@Array.size_append
abbrev kK:=@List.mem_append_left
abbrev kL:=@Array.size_replicate
abbrev kM:=@List.not_mem_nil
abbrev kN:=@List.getElem_modify
abbrev kO:=@Nat.add_sub_cancel
abbrev kP:=@List.mem_append
abbrev kQ:=@Bool.or_eq_true
abbrev kS:=@Bool.false_ne_true
abbrev kT:=@Nat.one_mul
abbrev kU:=@List.size_toArray
abbrev kV:=@Bool.not_eq_true'
abbrev kW:=@Nat.zero_add
abbrev kX:=@Nat.add_zero
abbrev kY:=@List.length_cons
abbrev kZ:=@List.drop_append
abbrev g9:=@List.any_eq_true
abbrev gA:=@Nat.one_pos
end
end Go
namespace Go.Dc
section
theorem kr{p:Prop}(h:p:=by kernel_rfl):p:=h
abbrev Env:=List (Nat×Value)
def look:Env->Nat->Option Value
 |[],_=>none
 |(k,v)::L,t=>bif Nat.beq k t then some v else look L t
theorem qRy(A L:Env)(t:Nat):look (A++L) t=(look A t).or (look L t):=by
 induction A with
 |nil=>simp[look]
 |cons p A ih=>obtain⟨k,v⟩:=p;simp only[List.cons_append,look];cases Nat.beq k t<;>simp[ih]
def evL(L:Env):Operand->Option Value
 | .tmp t=>look L t
 | .const v=>some v
 | .global g=>some (.pointer (some ⟨g,0,none⟩))
 | .func f=>some (.func (.func f) #[] #[])
theorem ev{L:Env}{x:Operand}(v:Value)(h:evL L x=some v:=by kernel_rfl):evL L x=some v:=h
def evD(L:Env)(x:Operand):Value:=(evL L x).getD undef
structure Fr where
 sz:Nat
 marks:List Deferred
instance:Coe Fr Nat:=⟨Fr.sz⟩
def qQm(D:Nat):Deferred:={target:= .collected D,args:= #[]}
def Fits(n:Fr)(a:Act)(L:Env):Prop:=a.tmps.size=n.sz/\a.defers=n.marks/\∀t v,look L t=some v->a.tmps[t]? =some v
theorem Fits.ev{n:Fr}{a:Act}{L:Env}(h:Fits n a L){x:Operand}{v:Value}(hx:evL L x=some v):a.eval x=v:=by
 cases x with
 |tmp t=>simp[Act.eval,h.2.2 t v hx]
 |const u=>simp[evL] at hx;simp[Act.eval,hx]
 |global g=>simp[evL] at hx;simp[Act.eval,hx]
 |func f=>simp[evL] at hx;simp[Act.eval,hx]
def qRi:Op->Bool
 | .select .. =>false
 |_=>true
def qPu(L:Env):List Operand->Bool
 |[]=>true
 |x::l=>(evL L x).isSome&&qPu L l
def opOK(L:Env)(o:Op):Bool:=qRi o&&qPu L o.operands.toList
theorem qSh{L:Env}{l:List Operand}(h:qPu L l=true):∀x∈l,(evL L x).isSome=true:=by
 induction l with
 |nil=>simp
 |cons y l ih=>
  simp only[qPu,jI] at h
  intro x hx
  rcases jD.1 hx with rfl|hx
  .exact h.1
  exact ih h.2 x hx
theorem Fits.exec{n:Fr}{a:Act}{L:Env}(h:Fits n a L){o:Oper}(ok:opOK L o.op=true):execOp a.eval o=execOp (evD L) o:=by
 simp only[opOK,jI] at ok
 refine execOp_congr o ?_ ?_
 .intro cs b hs;rw[hs] at ok;simp[qRi] at ok
 intro x hx
 have:=qSh ok.2 x (by simpa using hx)
 obtain⟨v,hv⟩:=Option.isSome_iff_exists.1 this
 rw[h.ev hv];simp[evD,hv]
theorem Fits.put{n:Fr}{a:Act}{L:Env}(h:Fits n a L){d:Nat}(hd:Nat.blt d n=true)(v:Value):Fits n (a.put (some d) v) ((d,v)::L):=by
 obtain⟨h1,h2,h3⟩:=h
 have hd':d<n:=by simpa[Nat.blt_eq] using hd
 refine⟨by simp[Act.put,h1],by simp[Act.put,h2],?_⟩
 intro t u hu
 simp only[look] at hu
 simp only[Act.put]
 by_cases hdt:d=t
 .subst hdt
  simp at hu;subst hu
  simp[Array.getElem?_setIfInBounds,h1,hd']
 have:Nat.beq d t=false:=by cases hb:Nat.beq d t<;>simp_all [Nat.beq_eq]
 rw[this] at hu
 simp[Array.getElem?_setIfInBounds,hdt,h3 t u hu]
theorem Fits.sub{n:Fr}{a:Act}{L L':Env}(h:Fits n a L)(hs:∀t v,look L' t=some v->look L t=some v):Fits n a L':=
 ⟨h.1,h.2.1,fun t v hv=>h.2.2 t v (hs t v hv)⟩
def ev0(P:Program){α:Type}:Sem α->Option α
 | .pure a=>some a
 | .program k=>ev0 P (k P)
 | .mark _ k=>ev0 P k
 |_=>none
theorem qLh{P:Program}{α:Type}{s:Sem α}{a:α}(h:ev0 P s=some a)(w:World):s.run P w= .ok a w:=by
 induction s with
 |pure b=>simp[ev0] at h;subst h;rfl
 |program k ih=>exact ih P h
 |mark m k ih=>exact ih h
 |_=>simp[ev0] at h
def qFf(ops:Array Oper)(L:Env)(g:Option (Nat×Bool)):Option Bool:=
 match g with
 |none=>some true
 |some (j,want)=>match(ops[j]?).bind (·.dst) with
  |none=>some false
  |some t=>match look L t with
   |none=>none
   |some (.bool b)=>some (bif want then b else !b)
   |some _=>some false
theorem Fits.wanted{n:Fr}{a:Act}{L:Env}(h:Fits n a L){ops:Array Oper}{o:Oper}{b:Bool}(hw:qFf ops L o.guard=some b):
  Region.wanted o (yielded ops a.tmps)=b:=by
 unfold qFf at hw
 unfold Region.wanted
 cases hg:o.guard with
 |none=>simp[hg] at hw;simp[hw]
 |some jw=>
  obtain⟨j,want⟩:=jw
  simp only[hg] at hw
  simp only[yielded]
  cases hd:(ops[j]?).bind (·.dst) with
  |none=>simp[hd] at hw;subst hw;rfl
  |some t=>
   simp only[hd] at hw
   cases ht:look L t with
   |none=>simp[ht] at hw
   |some v=>
    have:=h.2.2 t v ht
    simp only[ht] at hw
    cases v<;>simp_all<;>(subst hw;cases want<;>simp)
def putL(n:Nat)(d:Option Nat)(v:Value)(L:Env):Option Env:=
 match d with
 |none=>some L
 |some d=>bif Nat.blt d n then some ((d,v)::L) else none
def asV:Option Next->Option Value
 |some (.value v)=>some v
 |some .skip=>some undef
 |_=>none
def seg(P:Program)(n:Nat)(ops:Array Oper):Nat->Nat->Env->Option Env
 |0,_,L=>some L
 |k+1,i,L=>match ops[i]? with
  |none=>none
  |some o=>match qFf ops L o.guard with
   |none=>none
   |some false=>(putL n o.dst undef L).bind fun L=>seg P n ops k (i+1) L
   |some true=>bif opOK L o.op then(asV (ev0 P (execOp (evD L) o))).bind fun v=>(putL n o.dst v L).bind fun L=>seg P n ops k (i+1) L else none
def wrs(ops:Array Oper):Nat->Nat->List Nat
 |0,_=>[]
 |k+1,i=>((ops[i]?).bind (·.dst)).toList++wrs ops k (i+1)
def fen(ρ:Option Nat):Fence:={Fence.wide with round:=ρ}
def opW(P:Program)(ops:Array Oper)(Q:Exit->Act->World->Prop)(i:Nat)(K:Act->World->Prop)(a:Act)(w:World):Prop:=
 match ops[i]? with
 |none=>K a w
 |some o=>if Region.wanted o (yielded ops a.tmps) then o.uponIn Fence.wide 0 P a K Q ((execOp a.eval o).run P w) else K (a.put o.dst undef) w
def opsW(P:Program)(ops:Array Oper)(Q:Exit->Act->World->Prop):List Nat->Act->World->Prop
 |[],a,w=>Q .normal a w
 |i::rest,a,w=>opW P ops Q i (opsW P ops Q rest) a w
theorem qPa{ρ:Option Nat}{P:Program}{o:Oper}{a:Act}{K K':Act->World->Prop}{Q:Exit->Act->World->Prop}{r:Result Next}(h:∀a w,K a w->K' a w)(hh:o.uponIn Fence.wide 0 P a K Q r):o.uponIn (fen ρ) 0 P a K' Q r:=by
 cases r with
 |ok x w'=>
  cases x<;>simp only[Oper.uponIn] at hh ⊢ <;>
   first
    |exact h _ _ hh
    |exact⟨fun e=>by simp[fen,Fence.wide] at e,CallsIn.mono (F:=fen ρ) hh.2 (fun e w'' he=>by cases e<;>first|exact h _ _ he|exact he)⟩
    |exact⟨fun e=>by simp[fen,Fence.wide] at e,RowsIn.mono (F:=fen ρ) hh.2 (fun _ _ he=>h _ _ he)⟩
    |exact⟨fun e=>by simp[fen,Fence.wide] at e,RoundIn.mono (F:=fen ρ) hh.2 (fun e w'' he=>by cases e<;>first|exact h _ _ he|exact he)⟩
 |halt x w'=>cases x<;>simp only[Oper.uponIn] at hh ⊢ <;>exact hh
theorem qOf{P:Program}{ops:Array Oper}{Q:Exit->Act->World->Prop}{i:Nat}{K K':Act->World->Prop}{a:Act}{w:World}(h:∀a w,K a w->K' a w)(hh:opW P ops Q i K a w):opW P ops Q i K' a w:=by
 unfold opW at*
 split
 .rename_i ho;simp only[ho] at hh;exact h _ _ hh
 rename_i o ho
 simp only[ho] at hh
 split
 .rename_i hw;simp only[hw,jP] at hh;exact qPa (ρ:=none) h hh
 rename_i hw;simp only[hw] at hh;exact h _ _ hh
def qNr(ρ:Option Nat)(ops:Array Oper):Bool:=
 match ρ with
 |none=>true
 |some _=>ops.toList.all fun o=>match o.op with
  | .defer _=>false
  |_=>true
theorem qRu{ρ:Option Nat}{ops:Array Oper}(h:qNr ρ ops=true){i:Nat}{o:Oper}(ho:ops[i]? =some o)(ev:Operand->Value):o.semAt ρ ev=execOp ev o:=by
 cases ρ with
 |none=>rfl
 |some l=>
  refine Oper.semAt_eq _ _ _ fun c hc=> ?_
  have:=jH.1 h o (by simpa using Array.mem_of_getElem? ho)
  rw[hc] at this
  exact kS this
theorem qWq{ρ:Option Nat}{P:Program}{ops:Array Oper}{Q:Exit->Act->World->Prop}(hd:qNr ρ ops=true){i:Nat}{K K':Act->World->Prop}(hk:∀a w,K a w->K' a w){a:Act}{w:World}(h:opW P ops Q i K a w):wpOpIn (fen ρ) 0 P ops Q i K' a w:=by
 unfold opW at h
 unfold wpOpIn
 cases ho:ops[i]? with
 |none=>simp only[ho] at h ⊢;exact hk _ _ h
 |some o=>
  simp only[ho] at h ⊢
  by_cases hw:Region.wanted o (yielded ops a.tmps)=true
  .simp only[hw,jP] at h ⊢
   refine⟨fun _ _=>trivial,?_⟩
   have hs:o.semAt (fen ρ).round a.eval=execOp a.eval o:=qRu hd ho a.eval
   rw[hs]
   exact qPa hk h
  simp only[hw] at h ⊢
  exact⟨fun _ _=>trivial,hk _ _ h⟩
theorem qVa{ρ:Option Nat}{P:Program}{ops:Array Oper}{Q:Exit->Act->World->Prop}(hd:qNr ρ ops=true):∀(l:List Nat) (a:Act) (w:World),opsW P ops Q l a w->wpOpsIn (fen ρ) 0 P ops Q l a w
 |[],_,_,h=>h
 |i::rest,a,w,h=>by
  rw[wpOpsIn_cons]
  exact qWq hd (qVa hd rest) h
def WO(P:Program)(n:Fr)(ops:Array Oper)(Q:Exit->Act->World->Prop)(i:Nat)(L:Env)(w:World):Prop:=
 ∀a,Fits n a L->opsW P ops Q (List.range' i (ops.size-i)) a w
theorem qLn{ops:Array Oper}{i:Nat}{o:Oper}(h:ops[i]? =some o):List.range' i (ops.size-i)=i::List.range' (i+1) (ops.size-(i+1)):=by
 have hi:i<ops.size:=(Array.getElem?_eq_some_iff.1 h).1
 have:ops.size-i=(ops.size-(i+1))+1:=by omega
 rw[this,List.range'_succ]
theorem Fits.putL{n:Fr}{a:Act}{L L':Env}(h:Fits n a L){d:Option Nat}{v:Value}(hp:Dc.putL n d v L=some L'):Fits n (a.put d v) L':=by
 cases d with
 |none=>simp[Dc.putL] at hp;subst hp;exact h
 |some d=>
  simp only[Dc.putL] at hp
  cases hb:Nat.blt d n with
  |false=>simp[hb] at hp
  |true=>simp[hb] at hp;subst hp;exact h.put hb v
section
variable {P:Program} {n:Fr} {ops:Array Oper} {Q:Exit->Act->World->Prop}
theorem qSf:∀(k i:Nat) (L L':Env) (w:World),seg P n ops k i L=some L'->WO P n ops Q (i+k) L' w->WO P n ops Q i L w
 |0,i,L,L',w,h,hk=>by simp[seg] at h;subst h;exact hk
 |k+1,i,L,L',w,h,hk=>by
  intro a ha
  simp only[seg] at h
  cases ho:ops[i]? with
  |none=>simp[ho] at h
  |some o=>
   simp only[ho] at h
   rw[qLn ho]
   simp only[opsW,opW,ho]
   cases hw:qFf ops L o.guard with
   |none=>simp[hw] at h
   |some b=>
    have hwant:=ha.wanted hw
    cases b with
    |false=>
     simp only[hw] at h
     obtain⟨L1,h1,h2⟩:=jB.1 h
     simp only[hwant,jG,jY]
     exact qSf k (i+1) L1 L' w h2 (by rw[kI,kF 1 k];exact hk) _ (ha.putL h1)
    |true=>
     simp only[hw] at h
     cases hok:opOK L o.op with
     |false=>simp[hok] at h
     |true=>
      simp only[hok,cond_true] at h
      obtain⟨v,hv,h⟩:=jB.1 h
      obtain⟨L1,h1,h2⟩:=jB.1 h
      simp only[hwant,jP]
      have next:=qSf k (i+1) L1 L' w h2 (by rw[kI,kF 1 k];exact hk) _ (ha.putL h1)
      rw[ha.exec hok]
      cases hev:ev0 P (execOp (evD L) o) with
      |none=>simp[hev,asV] at hv
      |some nx=>
       rw[qLh hev w]
       cases nx<;>simp[hev,asV] at hv
       case value u=>subst hv;exact next
       case skip=>subst hv;exact next
def qRp(P:Program)(n:Nat)(ops:Array Oper)(k i:Nat)(L:Env)(ks:List Nat):Option (List (Option Value)):=(seg P n ops k i L).map fun L'=>ks.map (look L')
def memN(d:Nat):Env->Bool
 |[]=>false
 |p::l=>Nat.beq p.1 d||memN d l
def qKu(L new:Env):List Nat->Bool
 |[]=>true
 |d::l=>(memN d new||(look L d).isNone)&&qKu L new l
theorem qQs{d:Nat}:∀{l:Env},memN d l=true->∃v,look l d=some v
 |[],h=>by simp[memN] at h
 |(k,v)::l,h=>by
  simp only[memN,kQ] at h
  simp only[look]
  cases hb:Nat.beq k d with
  |true=>exact⟨v,rfl⟩
  |false=>simp[hb] at h;exact qQs h
theorem qIt{d:Nat}{v:Value}:∀{l:Env},look l d=some v->(d,v)∈l
 |[],h=>by simp[look] at h
 |(k,u)::l,h=>by
  simp only[look] at h
  cases hb:Nat.beq k d with
  |true=>simp[hb] at h;subst h;have:=kE hb;subst this;exact jJ ..
  |false=>simp[hb] at h;exact jS _ (qIt h)
theorem qOc{L new:Env}:∀{l:List Nat},qKu L new l=true->∀d∈l,memN d new=true\/look L d=none
 |[],_=>by simp
 |e::l,h=>by
  simp only[qKu,jI,kQ,Option.isNone_iff_eq_none] at h
  intro d hd
  rcases jD.1 hd with rfl|hd
  .exact h.1
  exact qOc h.2 d hd
theorem qOw:∀(k i:Nat) (L L':Env),seg P n ops k i L=some L'->∀t,t∉wrs ops k i->look L' t=look L t
 |0,i,L,L',h,t,_=>by simp[seg] at h;subst h;rfl
 |k+1,i,L,L',h,t,ht=>by
  simp only[seg] at h
  cases ho:ops[i]? with
  |none=>simp[ho] at h
  |some o=>
   simp only[ho] at h
   simp only[wrs,ho,j0,kP,not_or] at ht
   have put:∀v L1,putL n o.dst v L=some L1->look L1 t=look L t:=by
    intro v L1 h1
    cases hd:o.dst with
    |none=>simp[putL,hd] at h1;subst h1;rfl
    |some d=>
     simp only[putL,hd] at h1
     cases hb:Nat.blt d n with
     |false=>simp[hb] at h1
     |true=>
      simp[hb] at h1;subst h1
      have hne:d≠t:=by rintro rfl;exact ht.1 (by simp[hd])
      have:Nat.beq d t=false:=by cases hq:Nat.beq d t<;>simp_all [Nat.beq_eq]
      simp[look,this]
   cases hw:qFf ops L o.guard with
   |none=>simp[hw] at h
   |some b=>
    cases b with
    |false=>
     simp only[hw] at h
     obtain⟨L1,h1,h2⟩:=jB.1 h
     rw[qOw k (i+1) L1 L' h2 t ht.2,put _ _ h1]
    |true=>
     simp only[hw] at h
     cases hok:opOK L o.op with
     |false=>simp[hok] at h
     |true=>
      simp only[hok,cond_true] at h
      obtain⟨v,hv,h⟩:=jB.1 h
      obtain⟨L1,h1,h2⟩:=jB.1 h
      rw[qOw k (i+1) L1 L' h2 t ht.2,put _ _ h1]
theorem qUw{i:Nat}{L:Env}{w:World}(k:Nat)(new:Env)(h1:qRp P n ops k i L (new.map (·.1))=some (new.map fun p=>some p.2))
  (h2:qKu L new (wrs ops k i)=true) (h:WO P n ops Q (i+k) (new++L) w):WO P n ops Q i L w:=by
 simp only[qRp,jL] at h1
 obtain⟨L',hs,hm⟩:=h1
 refine qSf k i L L' w hs ?_
 intro a ha
 refine h a (ha.sub ?_)
 intro t v hv
 rw[qRy] at hv
 cases hn:look new t with
 |some u=>
  simp[hn] at hv;subst hv
  have hmem:=qIt hn
  have:∀(l:Env),l.map (look L'∘(·.1))=l.map (fun p=>some p.2)->∀p∈l,look L' p.1=some p.2:=by
   intro l hl p hp
   induction l with
   |nil=>simp at hp
   |cons q l ih=>
    simp only[jF,jW,Function.comp] at hl
    rcases jD.1 hp with rfl|hp
    .exact hl.1
    exact ih (by simpa[Function.comp] using hl.2) hp
  exact this new (by simpa using hm) (t,u) hmem
 |none=>
  simp[hn] at hv
  by_cases hw:t∈wrs ops k i
  .rcases qOc h2 t hw with hmn|hno
   .obtain⟨u,hu⟩:=qQs hmn;rw[hu] at hn;cases hn
   rw[hno] at hv;cases hv
  rw[qOw k i L L' hs t hw];exact hv
def opAt(ops:Array Oper)(L:Env)(i:Nat):Option (Option Nat×Op):=
 match ops[i]? with
 |none=>none
 |some o=>match qFf ops L o.guard with
  |some true=>bif opOK L o.op then some (o.dst,o.op) else none
  |_=>none
theorem qKj{L:Env}{i:Nat}{d:Option Nat}{op:Op}(h:opAt ops L i=some (d,op)):
  ∃o,ops[i]? =some o/\o.dst=d/\o.op=op/\qFf ops L o.guard=some true/\opOK L o.op=true:=by
 unfold opAt at h
 cases ho:ops[i]? with
 |none=>simp[ho] at h
 |some o=>
  simp only[ho] at h
  cases hw:qFf ops L o.guard with
  |none=>simp[hw] at h
  |some b=>
   cases b with
   |false=>simp[hw] at h
   |true=>
    simp only[hw] at h
    cases hk:opOK L o.op with
    |false=>simp[hk] at h
    |true=>
     simp[hk] at h
     exact⟨o,rfl,h.1,h.2,hw,hk⟩
def One(P:Program)(n:Fr)(ops:Array Oper)(Q:Exit->Act->World->Prop)(i:Nat)(N:Env->World->Prop)(L:Env)(w:World):Prop:=
 ∀a,Fits n a L->opW P ops Q i (fun a' w'=>∃L',Fits n a' L'/\N L' w') a w
theorem qAa{i:Nat}{L:Env}{w:World}(hi:Nat.blt i ops.size=true)(h:One P n ops Q i (fun L w=>WO P n ops Q (i+1) L w) L w):WO P n ops Q i L w:=by
 have hi':i<ops.size:=by simpa[Nat.blt_eq] using hi
 intro a ha
 have ho:ops[i]? =some ops[i]:=Array.getElem?_eq_getElem hi'
 rw[qLn ho]
 have fin:∀a' w',(∃L',Fits n a' L'/\WO P n ops Q (i+1) L' w')->opsW P ops Q (List.range' (i+1) (ops.size-(i+1))) a' w':=fun a' w' ⟨L',h1,h2⟩=>h2 a' h1
 exact qOf fin (h a ha)
section
variable {N:Env->World->Prop}
theorem qFc{i d:Nat}{op:Op}{L:Env}{w w':World}{v:Value}(ho:opAt ops L i=some (some d,op))(hd:Nat.blt d n=true)
  (hrun:∀o:Oper,o.op=op->(execOp (evD L) o).run P w= .ok (.value v) w')
  (h:N ((d,v)::L) w'):One P n ops Q i N L w:=by
 obtain⟨o,h1,h2,h3,h4,h5⟩:=qKj ho
 intro a ha
 unfold opW
 simp only[h1,ha.wanted h4,jP]
 rw[ha.exec h5,hrun o h3,Oper.uponIn_value,h2]
 exact⟨_,ha.put hd v,h⟩
theorem qLz{i:Nat}{op:Op}{L:Env}{w w':World}(ho:opAt ops L i=some (none,op))
  (hrun:∀o:Oper,o.op=op->(execOp (evD L) o).run P w= .ok .skip w')
  (h:N L w'):One P n ops Q i N L w:=by
 obtain⟨o,h1,h2,h3,h4,h5⟩:=qKj ho
 intro a ha
 unfold opW
 simp only[h1,ha.wanted h4,jP]
 rw[ha.exec h5,hrun o h3,Oper.uponIn_skip,h2]
 exact⟨_,ha,h⟩
theorem qMw{i d:Nat}{op:Op}{L:Env}{w w':World}{v:Value}(ho:opAt ops L i=some (some d,op))(hd:Nat.blt d n=true)
  (hrun:∀o:Oper,o.op=op->∃v' w',(execOp (evD L) o).run P w= .ok (.value v') w'/\N ((d,v')::L) w'):One P n ops Q i N L w:=by
 obtain⟨o,h1,h2,h3,h4,h5⟩:=qKj ho
 obtain⟨v',w'',hr,hk⟩:=hrun o h3
 intro a ha
 unfold opW
 simp only[h1,ha.wanted h4,jP]
 rw[ha.exec h5,hr,Oper.uponIn_value,h2]
 exact⟨_,ha.put hd v',hk⟩
def qNb(P:Program)(ops:Array Oper)(L:Env)(i:Nat):Option (Option Nat×Nat×Array Value):=
 match ops[i]? with
 |none=>none
 |some o=>match qFf ops L o.guard with
  |some true=>bif opOK L o.op then(match ev0 P (execOp (evD L) o) with
   |some (.enter f args)=>some (o.dst,f,args)
   |_=>none) else none
  |_=>none
theorem qOs{L:Env}{i f:Nat}{d:Option Nat}{args:Array Value}(h:qNb P ops L i=some (d,f,args)):
  ∃o,ops[i]? =some o/\o.dst=d/\qFf ops L o.guard=some true/\opOK L o.op=true/\ev0 P (execOp (evD L) o)=some (.enter f args):=by
 unfold qNb at h
 cases h1:ops[i]? with
 |none=>simp[h1] at h
 |some o=>
  simp only[h1] at h
  cases hw:qFf ops L o.guard with
  |none=>simp[hw] at h
  |some b=>
   cases b with
   |false=>simp[hw] at h
   |true=>
    simp only[hw] at h
    cases hk:opOK L o.op with
    |false=>simp[hk] at h
    |true=>
     simp only[hk,cond_true] at h
     split at h
     .rename_i f' args' he
      simp only[j9,Prod.mk.injEq] at h
      obtain⟨h2,rfl,rfl⟩:=h
      exact⟨o,rfl,h2,hw,hk,he⟩
     cases h
theorem qLb{i:Nat}{L:Env}{w:World}(d f:Nat)(args:Array Value)(ho:qNb P ops L i=some (some d,f,args))(hd:Nat.blt d n=true)
  (h:Calls P f args w fun e w'=>∃v,e= .returned v/\N ((d,v)::L) w'):One P n ops Q i N L w:=by
 obtain⟨o,h1,h2,hw,hk,he⟩:=qOs ho
 intro a ha
 unfold opW
 simp only[h1,ha.wanted hw,jP]
 rw[ha.exec hk,qLh he w,Oper.uponIn_enter]
 refine⟨fun e=>by simp[Fence.wide] at e,CallsIn.mono (callsIn_wide.2 h) ?_⟩
 rintro e w' ⟨v,rfl,hk'⟩
 rw[h2]
 exact⟨_,ha.put hd v,hk'⟩
end
theorem qBa{L:Env}{w:World}{i:Nat}(hi:ops.size=i)(h:∀a,Fits n a L->Q .normal a w):WO P n ops Q i L w:=by
 intro a ha
 subst hi
 simp only[Nat.sub_self,List.range'_zero,opsW]
 exact h a ha
theorem qBq{i:Nat}{L:Env}{w:World}(L':Env)(hs:L'.map (fun p=>look L p.1)=L'.map fun p=>some p.2)(h:WO P n ops Q i L' w):WO P n ops Q i L w:=by
 intro a ha
 refine h a (ha.sub ?_)
 intro t v hv
 have hm:=qIt hv
 have:=(jU.1 hs) (t,v) hm
 exact this
end
def W(ρ:Option Nat)(P:Program)(n:Fr)(c:Code)(Q:Exit->Act->World->Prop)(L:Env)(w:World):Prop:=∀a,Fits n a L->c.wpIn (fen ρ) 0 P Q a w
def X(n:Fr)(Q:Exit->Act->World->Prop)(e:Exit)(L:Env)(w:World):Prop:=∀a,Fits n a L->Q e a w
section
variable {ρ:Option Nat} {P:Program} {n:Fr} {Q:Exit->Act->World->Prop} {L:Env} {w:World}
theorem qAj{y:Code}(h:W ρ P n y Q L w):X n (Exit.then (fun a w=>y.wpIn (fen ρ) 0 P Q a w) Q) .normal L w:=h
theorem qAp{K:Act->World->Prop}{id:Nat}(h:X n Q (.exit id) L w):X n (Exit.then K Q) (.exit id) L w:=h
theorem qAi{K:Act->World->Prop}(h:X n Q .ret L w):X n (Exit.then K Q) .ret L w:=h
theorem qBm{id:Nat}(h:X n Q .normal L w):X n (Exit.inBlock id Q) .normal L w:=h
theorem qAo{id:Nat}(h:X n Q .ret L w):X n (Exit.inBlock id Q) .ret L w:=h
theorem qBo{id:Nat}(h:X n Q .normal L w):X n (Exit.inBlock id Q) (.exit id) L w:=by
 intro a ha;simp only[Exit.inBlock,jP];exact h a ha
theorem qIe{id id':Nat}(hne:Nat.beq id' id=false)(h:X n Q (.exit id') L w):X n (Exit.inBlock id Q) (.exit id') L w:=by
 intro a ha
 have:¬id'=id:=by rintro rfl;simp at hne
 simp only[Exit.inBlock,if_neg this];exact h a ha
theorem qAt{x y:Code}(h:W ρ P n x (Exit.then (fun a w=>y.wpIn (fen ρ) 0 P Q a w) Q) L w):W ρ P n (.seq x y) Q L w:=fun a ha=>wpIn_seq (h a ha)
theorem qAq(h:X n Q .normal L w):W ρ P n .skip Q L w:=fun a ha=>wpIn_skip (h a ha)
theorem qBc(h:X n Q .ret L w):W ρ P n .ret Q L w:=fun a ha=>wpIn_ret (h a ha)
theorem qEd{id:Nat}(h:X n Q (.exit id) L w):W ρ P n (.exit id) Q L w:=fun a ha=>wpIn_exit (h a ha)
theorem qBd{id:Nat}{c:Code}(h:W ρ P n c (Exit.inBlock id Q) L w):W ρ P n (.block id c) Q L w:=fun a ha=>wpIn_block (h a ha)
theorem qHn{id:Nat}{ops:Array Oper}(hd:qNr ρ ops=true)(h:WO P n ops Q 0 L w):W ρ P n (.region id ops false) Q L w:=by
 intro a ha
 refine wpIn_region (qVa hd _ _ _ ?_)
 have:=h a ha
 simpa[List.range_eq_range'] using this
theorem qAs{id:Nat}{ops:Array Oper}(h:WO P n ops Q 0 L w):W none P n (.region id ops false) Q L w:=qHn rfl h
theorem qHs{c:Operand}{x y:Code}(b:Bool)(hc:evL L c=some (.bool b))(ht:b=true->W ρ P n x Q L w)(hf:b=false->W ρ P n y Q L w):W ρ P n (.cond c x y) Q L w:=
 fun a ha=>wpIn_cond_split (ha.ev hc) (fun h=>ht h a ha) (fun h=>hf h a ha)
theorem qHe{c:Code}(L':Env)(hs:L'.map (fun p=>look L p.1)=L'.map fun p=>some p.2)(h:W ρ P n c Q L' w):W ρ P n c Q L w:=by
 intro a ha
 refine h a (ha.sub ?_)
 intro t v hv
 exact(jU.1 hs) (t,v) (qIt hv)
theorem qMc{e:Exit}(L':Env)(hs:L'.map (fun p=>look L p.1)=L'.map fun p=>some p.2)(h:X n Q e L' w):X n Q e L w:=by
 intro a ha
 refine h a (ha.sub ?_)
 intro t v hv
 exact(jU.1 hs) (t,v) (qIt hv)
theorem qEz{c:Code}(I:Nat->Env->World->Prop)(k:Nat)(h0:I k L w)
  (round:∀k L w,I k L w->W ρ P n c (Exit.then (fun a' w'=>∃k' L',k'<k/\Fits n a' L'/\I k' L' w') Q) L w):W ρ P n (.loop c) Q L w:=by
 intro a ha
 refine wpIn_loop_ghost (fun k a w=>∃L,Fits n a L/\I k L w) k ⟨L,ha,h0⟩ ?_
 rintro k a w ⟨L,ha,hI⟩
 refine wpIn_mono (round k L w hI a ha) ?_
 intro e a' w' hq
 cases e with
 |normal=>obtain⟨k',L',h1,h2,h3⟩:=hq;exact⟨k',h1,L',h2,h3⟩
 |_=>exact hq
theorem qDj{k:Nat}{I:Nat->Env->World->Prop}(k':Nat)(hk:k'<k)(h:I k' L w):X n (Exit.then (fun a' w'=>∃k' L',k'<k/\Fits n a' L'/\I k' L' w') Q) .normal L w:=
 fun _ ha=>⟨k',L,hk,ha,h⟩
theorem qXf{f:FuncId}{fn:Func}{c:Code}{args:Array Value}{R:Ending->World->Prop}(hf:P.funcs[f]? =some fn)(hb:fn.body=some c){k:Nat}(hn:fn.ntmps=k)(L:Env)
  (hL:L.map (fun p=>(args[p.1]?))=L.map fun p=>some p.2) (hsz:Nat.ble args.size k=true) (h:W none P ⟨k,[]⟩ c (bodyPost P fn R) L w):Calls P f args w R:=by
 refine calls_of_wp hf hb (wpIn_wide.1 (h _ ⟨?_,rfl,?_⟩))
 .subst hn
  have:args.size<=fn.ntmps:=jK hsz
  simp only[kJ,kL];omega
 intro t v hv
 have:=(jU.1 hL) (t,v) (qIt hv)
 have ht:t<args.size:=(Array.getElem?_eq_some_iff.1 this).1
 simp only[Array.getElem?_append,ht,jP]
 exact this
end
attribute [irreducible] opsW
end
section
def tabs:List (Nat×Array Value):=[]
structure Mem where
 cell:Nat->Nat->Option Value
 obj:Nat->Option Obj
 wd:World
 ht:∀p∈tabs,∃t f,obj p.1=some (.cells p.2 t f)
def qWx:Bool:=true
def Step(w w':World):Prop:=(w'.os=w.os/\w'.output=w.output)/\w'.tape=w.tape/\(qWx=true->w.drawn<=w'.drawn)
theorem dle{p:Prop}(h:p:=by first|exact fun _=>jT _|exact fun _=>Nat.le_succ _):p:=h
theorem Step.refl(w:World):Step w w:=⟨⟨rfl,rfl⟩,rfl,dle⟩
theorem Step.trans{w1 w2 w3:World}(h1:Step w1 w2)(h2:Step w2 w3):Step w1 w3:=⟨⟨h2.1.1.trans h1.1.1,h2.1.2.trans h1.1.2⟩,h2.2.1.trans h1.2.1,fun h=>Nat.le_trans (h1.2.2 h) (h2.2.2 h)⟩
def Mem.le(m m':Mem):Prop:=(∀b o v,m.cell b o=some v->m'.cell b o=some v)/\(∀b x,m.obj b=some x->m'.obj b=some x)/\m.wd=m'.wd
theorem Mem.le_refl(m:Mem):m.le m:=⟨fun _ _ _ h=>h,fun _ _ h=>h,rfl⟩
theorem Mem.le_trans{m1 m2 m3:Mem}(h1:m1.le m2)(h2:m2.le m3):m1.le m3:=⟨fun _ _ _ h=>h2.1 _ _ _ (h1.1 _ _ _ h),fun _ _ h=>h2.2.1 _ _ (h1.2.1 _ _ h),h1.2.2.trans h2.2.2⟩
def Inv(m:Mem)(w:World):Prop:=
 (∀b o v,m.cell b o=some v->∃c e f,w.heap[b]? =some (.cells c e f)/\c[o]? =some v)/\(∀b x,m.obj b=some x->w.heap[b]? =some x)/\Step m.wd w
inductive Piece where
 |blk (b:Nat) (o:Obj)
 |room (a:Option Addr) (n cap:Nat) (e:TypeId) (sz:Nat)
def Piece.block:Piece->Option Nat
 | .blk b _=>some b
 | .room a _ _ _ _=>a.map (·.block)
def Free(m:Mem)(b:Nat):Prop:=(∀o,m.cell b o=none)/\m.obj b=none
def Piece.holds(m:Mem)(w:World):Piece->Prop
 | .blk b o=>w.heap[b]? =some o/\Free m b
 | .room none n cap _ _=>n=0/\cap=0
 | .room (some p) n cap e sz=>p.off=0/\p.spot=none/\n<=cap/\cap<=maxLen/\(∃cur,w.heap[p.block]? =some (.cells cur e (0,0))/\cur.size=cap*sz)/\
  (∀o,n*sz<=o->m.cell p.block o=none)/\m.obj p.block=none
def St(m:Mem)(own:List Piece)(w:World):Prop:=Inv m w/\(∀p∈own,p.holds m w)/\(own.filterMap Piece.block).Nodup
theorem qIl{w:World}{b:Nat}{x:Obj}(h:w.heap[b]? =some x):b<w.heap.size:=(Array.getElem?_eq_some_iff.1 h).1
theorem Piece.holds_lt{m:Mem}{w:World}{p:Piece}(h:p.holds m w){b:Nat}(hb:p.block=some b):b<w.heap.size:=by
 cases p with
 |blk c o=>simp[Piece.block] at hb;subst hb;exact qIl h.1
 |room a n cap e sz=>
  cases a with
  |none=>simp[Piece.block] at hb
  |some q=>simp[Piece.block] at hb;subst hb;obtain⟨_,_,_,_,⟨cur,hc,_⟩,_⟩:=h;exact qIl hc
theorem St.inv{m:Mem}{own:List Piece}{w:World}(h:St m own w):Inv m w:=h.1
theorem St.fresh_free{m:Mem}{own:List Piece}{w:World}(h:St m own w):Free m w.heap.size:=by
 constructor
 .intro o
  cases hc:m.cell w.heap.size o with
  |none=>rfl
  |some v=>
   obtain⟨c,e,f,hb,_⟩:=h.1.1 _ _ _ hc
   have:=qIl hb;omega
 cases hc:m.obj w.heap.size with
 |none=>rfl
 |some x=>have:=qIl (h.1.2.1 _ _ hc);omega
theorem Inv.keep{m:Mem}{w w':World}(h:Inv m w)(hs:Step w w')(hk:∀b,(∃x,w.heap[b]? =some x)->¬Free m b->w'.heap[b]? =w.heap[b]?):Inv m w':=by
 refine⟨?_,?_,h.2.2.trans hs⟩
 .intro b o v hv
  obtain⟨c,e,f,hb,hc⟩:=h.1 b o v hv
  exact⟨c,e,f,by rw[hk b ⟨_,hb⟩ (fun hf=>by rw[hf.1 o] at hv;cases hv)];exact hb,hc⟩
 intro b x hx
 have hb:=h.2.1 b x hx
 rw[hk b ⟨_,hb⟩ (fun hf=>by rw[hf.2] at hx;cases hx)];exact hb
theorem Piece.holds_keep{m:Mem}{w w':World}{p:Piece}(h:p.holds m w)(hk:∀b,p.block=some b->w'.heap[b]? =w.heap[b]?):p.holds m w':=by
 cases p with
 |blk c o=>exact⟨by rw[hk c rfl];exact h.1,h.2⟩
 |room a n cap e sz=>
  cases a with
  |none=>exact h
  |some q=>
   obtain⟨h1,h2,h3,h4,⟨cur,h5,h6⟩,h7⟩:=h
   exact⟨h1,h2,h3,h4,⟨cur,by rw[hk _ rfl];exact h5,h6⟩,h7⟩
theorem St.grow{m:Mem}{own:List Piece}{w w':World}(h:St m own w)(hs:Step w w')(hk:∀b,b<w.heap.size->w'.heap[b]? =w.heap[b]?):St m own w':=
 ⟨h.1.keep hs fun b ⟨_,hx⟩ _=>hk b (qIl hx),fun p hp=>Piece.holds_keep (h.2.1 p hp) fun b hb=>hk b (Piece.holds_lt (h.2.1 p hp) hb),h.2.2⟩
theorem qMq{own:List Piece}{b:Nat}:b∈own.filterMap Piece.block↔∃p∈own,p.block=some b:=by simp[List.mem_filterMap]
theorem St.block_lt{m:Mem}{own:List Piece}{w:World}(h:St m own w){b:Nat}(hb:b∈own.filterMap Piece.block):b<w.heap.size:=by
 obtain⟨p,hp,hpb⟩:=qMq.1 hb
 exact Piece.holds_lt (h.2.1 p hp) hpb
theorem St.alloc{m:Mem}{own:List Piece}{w w':World}(h:St m own w){o:Obj}(hs:Step w w')(hw:w'.heap=w.heap.push o):St m (.blk w.heap.size o::own) w':=by
 have hg:=h.grow (w':=w') hs (fun b hb=>by rw[hw,Array.getElem?_push];simp[Nat.ne_of_lt hb])
 refine⟨hg.1,?_,?_⟩
 .intro p hp
  rcases jD.1 hp with rfl|hp
  .exact⟨by rw[hw];simp,h.fresh_free⟩
  exact hg.2.1 p hp
 have hd:List.filterMap Piece.block (.blk w.heap.size o::own)=w.heap.size::own.filterMap Piece.block:=rfl
 rw[hd,jZ]
 exact⟨fun hm=>by have:=h.block_lt hm;omega,h.2.2⟩
theorem St.tail{m:Mem}{p:Piece}{own:List Piece}{w:World}(h:St m (p::own) w):St m own w:=by
 refine⟨h.1,fun q hq=>h.2.1 q (jS _ hq),?_⟩
 have:=h.2.2
 cases hb:p.block with
 |none=>simpa[k9,hb] using this
 |some b=>simp only[k9,hb,jZ] at this;exact this.2
theorem St.head{m:Mem}{p:Piece}{own:List Piece}{w:World}(h:St m (p::own) w):p.holds m w:=h.2.1 p (jJ ..)
theorem St.head_ne{m:Mem}{p:Piece}{own:List Piece}{w:World}(h:St m (p::own) w){b:Nat}(hb:p.block=some b):b∉own.filterMap Piece.block:=by
 have:=h.2.2
 simp only[k9,hb,jZ] at this
 exact this.1
theorem St.cons{m:Mem}{p:Piece}{own:List Piece}{w:World}(h:St m own w)(hp:p.holds m w)(hn:∀b,p.block=some b->b∉own.filterMap Piece.block):St m (p::own) w:=by
 refine⟨h.1,fun q hq=> ?_,?_⟩
 .rcases jD.1 hq with rfl|hq
  .exact hp
  exact h.2.1 q hq
 cases hb:p.block with
 |none=>simpa[k9,hb] using h.2.2
 |some b=>simp only[k9,hb,jZ];exact⟨hn b hb,h.2.2⟩
theorem St.perm{m:Mem}{own own':List Piece}{w:World}(h:St m own w)(hp:own.Perm own'):St m own' w:=
 ⟨h.1,fun p hm=>h.2.1 p (hp.mem_iff.2 hm),(hp.filterMap _).nodup_iff.1 h.2.2⟩
theorem St.front1{m:Mem}{a b:Piece}{own:List Piece}{w:World}(h:St m (a::b::own) w):St m (b::a::own) w:=h.perm (.swap b a own)
theorem St.front2{m:Mem}{a b c:Piece}{own:List Piece}{w:World}(h:St m (a::b::c::own) w):St m (c::a::b::own) w:=
 h.perm ((List.Perm.cons a (.swap c b own)).trans (.swap c a _))
theorem St.front3{m:Mem}{a b c d:Piece}{own:List Piece}{w:World}(h:St m (a::b::c::d::own) w):St m (d::a::b::c::own) w:=
 h.perm (((List.Perm.cons a ((List.Perm.cons b (.swap d c own)).trans (.swap d b _)))).trans (.swap d a _))
theorem St.front4{m:Mem}{a b c d e:Piece}{own:List Piece}{w:World}(h:St m (a::b::c::d::e::own) w):St m (e::a::b::c::d::own) w:=by
 refine h.perm ?_
 have:List.Perm (b::c::d::e::own) (e::b::c::d::own):=(List.Perm.cons b ((List.Perm.cons c (.swap e d own)).trans (.swap e c _))).trans (.swap e b _)
 exact(List.Perm.cons a this).trans (.swap e a _)
theorem St.front5{m:Mem}{p0 p1 p2 p3 p4 p5:Piece}{own:List Piece}{w:World}(h:St m (p0::p1::p2::p3::p4::p5::own) w):St m (p5::p0::p1::p2::p3::p4::own) w:=
 h.perm (jO (a:=p5) (l₁:=[p0,p1,p2,p3,p4]) (l₂:=own))
theorem St.front6{m:Mem}{p0 p1 p2 p3 p4 p5 p6:Piece}{own:List Piece}{w:World}(h:St m (p0::p1::p2::p3::p4::p5::p6::own) w):St m (p6::p0::p1::p2::p3::p4::p5::own) w:=
 h.perm (jO (a:=p6) (l₁:=[p0,p1,p2,p3,p4,p5]) (l₂:=own))
theorem St.front7{m:Mem}{p0 p1 p2 p3 p4 p5 p6 p7:Piece}{own:List Piece}{w:World}(h:St m (p0::p1::p2::p3::p4::p5::p6::p7::own) w):St m (p7::p0::p1::p2::p3::p4::p5::p6::own) w:=
 h.perm (jO (a:=p7) (l₁:=[p0,p1,p2,p3,p4,p5,p6]) (l₂:=own))
theorem St.front8{m:Mem}{p0 p1 p2 p3 p4 p5 p6 p7 p8:Piece}{own:List Piece}{w:World}(h:St m (p0::p1::p2::p3::p4::p5::p6::p7::p8::own) w):St m (p8::p0::p1::p2::p3::p4::p5::p6::p7::own) w:=
 h.perm (jO (a:=p8) (l₁:=[p0,p1,p2,p3,p4,p5,p6,p7]) (l₂:=own))
theorem St.front9{m:Mem}{p0 p1 p2 p3 p4 p5 p6 p7 p8 p9:Piece}{own:List Piece}{w:World}(h:St m (p0::p1::p2::p3::p4::p5::p6::p7::p8::p9::own) w):St m (p9::p0::p1::p2::p3::p4::p5::p6::p7::p8::own) w:=
 h.perm (jO (a:=p9) (l₁:=[p0,p1,p2,p3,p4,p5,p6,p7,p8]) (l₂:=own))
theorem St.front10{m:Mem}{p0 p1 p2 p3 p4 p5 p6 p7 p8 p9 p10:Piece}{own:List Piece}{w:World}(h:St m (p0::p1::p2::p3::p4::p5::p6::p7::p8::p9::p10::own) w):St m (p10::p0::p1::p2::p3::p4::p5::p6::p7::p8::p9::own) w:=
 h.perm (jO (a:=p10) (l₁:=[p0,p1,p2,p3,p4,p5,p6,p7,p8,p9]) (l₂:=own))
theorem St.front11{m:Mem}{p0 p1 p2 p3 p4 p5 p6 p7 p8 p9 p10 p11:Piece}{own:List Piece}{w:World}(h:St m (p0::p1::p2::p3::p4::p5::p6::p7::p8::p9::p10::p11::own) w):St m (p11::p0::p1::p2::p3::p4::p5::p6::p7::p8::p9::p10::own) w:=
 h.perm (jO (a:=p11) (l₁:=[p0,p1,p2,p3,p4,p5,p6,p7,p8,p9,p10]) (l₂:=own))
theorem St.set{m:Mem}{own:List Piece}{w w':World}{b:Nat}{o o':Obj}(h:St m (.blk b o::own) w)(hs:Step w w')(hb:w'.heap[b]? =some o')
  (hk:∀k,k<w.heap.size->k≠b->w'.heap[k]? =w.heap[k]?):St m (.blk b o'::own) w':=by
 have hh:=h.head
 have hne:=h.head_ne (b:=b) rfl
 have ht:=h.tail
 refine St.cons ⟨ht.1.keep hs fun k ⟨x,hx⟩ hf=>hk k (qIl hx) (fun e=>hf (e▸hh.2)),fun p hp=>Piece.holds_keep (ht.2.1 p hp) fun k hkb=>hk k (Piece.holds_lt (ht.2.1 p hp) hkb) (fun e=>hne (qMq.2 ⟨p,hp,e▸hkb⟩)),ht.2.2⟩ ⟨hb,hh.2⟩ ?_
 intro k hkk;simp only[Piece.block,j9] at hkk;subst hkk;exact hne
def Mem.addCells(m:Mem)(b:Nat)(f:Nat->Option Value):Mem:={m with cell:=fun k o=>if k=b then(match m.cell k o with|some v=>some v|none=>f o) else m.cell k o}
theorem Mem.le_addCells(m:Mem)(b:Nat)(f:Nat->Option Value):m.le (m.addCells b f):=by
 refine⟨fun k o v h=> ?_,fun _ _ h=>h,rfl⟩
 simp only[addCells]
 split
 .simp[h]
 exact h
theorem Piece.holds_addCells{m:Mem}{w:World}{p:Piece}{b:Nat}{f:Nat->Option Value}(h:p.holds m w)(hne:p.block≠some b):p.holds (m.addCells b f) w:=by
 cases p with
 |blk c o=>
  have:c≠b:=fun e=>hne (by simp[Piece.block,e])
  exact⟨h.1,fun o=>by simp[Mem.addCells,this,h.2.1 o],h.2.2⟩
 |room a n cap e sz=>
  cases a with
  |none=>exact h
  |some q=>
   have:q.block≠b:=fun e=>hne (by simp[Piece.block,e])
   obtain⟨h1,h2,h3,h4,h5,h6,h7⟩:=h
   exact⟨h1,h2,h3,h4,h5,fun o ho=>by simp[Mem.addCells,this,h6 o ho],h7⟩
theorem St.addCells{m:Mem}{own:List Piece}{w:World}(h:St m own w){b:Nat}{f:Nat->Option Value}(hb:b∉own.filterMap Piece.block)
  (hf:∀o v,f o=some v->∃c e fr,w.heap[b]? =some (.cells c e fr)/\c[o]? =some v):St (m.addCells b f) own w:=by
 refine⟨⟨?_,h.1.2⟩,fun p hp=>Piece.holds_addCells (h.2.1 p hp) fun e=>hb (qMq.2 ⟨p,hp,e⟩),h.2.2⟩
 intro k o v hv
 simp only[Mem.addCells] at hv
 split at hv
 .rename_i hk;subst hk
  cases hc:m.cell k o with
  |some u=>simp[hc] at hv;subst hv;exact h.1.1 _ _ _ hc
  |none=>simp[hc] at hv;exact hf o v hv
 exact h.1.1 _ _ _ hv
def MRow(m:Mem)(b o:Nat)(cs:List Value):Prop:=∀j v,cs[j]? =some v->m.cell b (o+j)=some v
theorem MRow.mono{m m':Mem}{b o:Nat}{cs:List Value}(h:MRow m b o cs)(hle:m.le m'):MRow m' b o cs:=fun j v hv=>hle.1 _ _ _ (h j v hv)
theorem MRow.drop{m:Mem}{b o:Nat}{cs:List Value}(h:MRow m b o cs)(k:Nat):MRow m b (o+k) (cs.drop k):=by
 intro j v hv
 have:=h (k+j) v (by simpa[List.getElem?_drop] using hv)
 rw[kI];exact this
structure Codec(α:Type) where
 sz:Nat
 pos:0<sz
 rep:Mem->α->List Value->Prop
 len:∀m x cs,rep m x cs->cs.length=sz
 one:∀m x cs,rep m x cs->∀v∈cs,v.oneCell'=true
 mono:∀m m' x cs,m.le m'->rep m x cs->rep m' x cs
def RepS{α:Type}(c:Codec α)(m:Mem)(a:Option Addr)(cap:Nat)(l:List α):Prop:=
 l.length<=cap/\cap<=maxLen/\match a with
  |none=>cap=0
  |some p=>(p.spot=none\/l=[])/\∀i x,l[i]? =some x->∃cs,c.rep m x cs/\MRow m p.block (p.off+i*c.sz) cs
theorem RepS.mono{α:Type}{c:Codec α}{m m':Mem}{a:Option Addr}{cap:Nat}{l:List α}(h:RepS c m a cap l)(hle:m.le m'):RepS c m' a cap l:=by
 refine⟨h.1,h.2.1,?_⟩
 cases a with
 |none=>exact h.2.2
 |some p=>
  refine⟨h.2.2.1,fun i x hx=> ?_⟩
  obtain⟨cs,h1,h2⟩:=h.2.2.2 i x hx
  exact⟨cs,c.mono _ _ _ _ hle h1,h2.mono hle⟩
theorem RepS.nil{α:Type}(c:Codec α)(m:Mem):RepS c m none 0 []:=⟨jT _,Nat.zero_le _,rfl⟩
theorem RepS.cells{α:Type}{c:Codec α}{m:Mem}{p:Addr}{cap:Nat}{l:List α}(h:RepS c m (some p) cap l):
  ∃cs,cs.length=l.length*c.sz/\(∀v∈cs,v.oneCell'=true)/\MRow m p.block p.off cs/\∀i x,l[i]? =some x->c.rep m x ((cs.drop (i*c.sz)).take c.sz):=by
 have key:∀(l:List α) (o:Nat),(∀i x,l[i]? =some x->∃cs,c.rep m x cs/\MRow m p.block (o+i*c.sz) cs)->
   ∃cs,cs.length=l.length*c.sz/\(∀v∈cs,v.oneCell'=true)/\MRow m p.block o cs/\∀i x,l[i]? =some x->c.rep m x ((cs.drop (i*c.sz)).take c.sz):=by
  intro l
  induction l with
  |nil=>intro o _;exact⟨[],by simp,by simp,fun j v h=>by simp at h,fun i x h=>by simp at h⟩
  |cons y l ih=>
   intro o h
   obtain⟨c1,hr,hm⟩:=h 0 y rfl
   have hl1:=c.len _ _ _ hr
   obtain⟨c2,h1,h2,h3,h4⟩:=ih (o+c.sz) (fun i x hx=>by
    obtain⟨cs,a,b⟩:=h (i+1) x (by simpa using hx)
    exact⟨cs,a,by rw[jE,kT,kF (i*c.sz),<-kI] at b;exact b⟩)
   refine⟨c1++c2,by simp[hl1,h1,jE,kF],?_,?_,?_⟩
   .intro v hv
    rcases kP.1 hv with hv|hv
    .exact c.one _ _ _ hr v hv
    exact h2 v hv
   .intro j v hv
    rw[List.getElem?_append] at hv
    split at hv
    .simpa using hm j v hv
    rename_i hj
    have:=h3 _ v hv
    rw[hl1] at this hj
    have e:o+c.sz+(j-c.sz)=o+j:=by omega
    rw[e] at this;exact this
   intro i x hx
   cases i with
   |zero=>simp at hx;subst hx;simp[hl1▸List.take_left (l₁:=c1) (l₂:=c2)];exact hr
   |succ i=>
    have:=h4 i x (by simpa using hx)
    have e:(c1++c2).drop ((i+1)*c.sz)=c2.drop (i*c.sz):=by
     rw[kZ,kD (by rw[hl1,jE];omega),kH,hl1,jE,kT,kO]
    rw[e];exact this
 exact key l p.off (h.2.2.2)
def qIg(P:Program)(t:TypeId):Option (TypeId×Nat×Nat×Nat):=
 match P.underlying t with
 |some (.slice e)=>match P.info? e with
  |some i=>match i.zero with
   |some z=>some (e,i.size,i.bytes,z.cells.size)
   |none=>none
  |none=>none
 |_=>none
theorem qJx{P:Program}{t e sz by_ zs:Nat}(h:qIg P t=some (e,sz,by_,zs)):
  P.underlying t=some (.slice e)/\∃i z,P.info? e=some i/\i.zero=some z/\i.size=sz/\i.bytes=by_/\z.cells.size=zs:=by
 unfold qIg at h
 split at h
 .rename_i e' he
  split at h
  .rename_i i hi
   split at h
   .rename_i z hz
    simp only[j9,Prod.mk.injEq] at h
    obtain⟨rfl,h2,h3,h4⟩:=h
    exact⟨he,i,z,hi,hz,h2,h3,h4⟩
   cases h
  cases h
 cases h
def qQv(P:Program)(u e:TypeId):Prop:=P.underlying u=some (.slice e)\/P.underlying u=some .string
theorem qNf(g o j:Nat):(⟨g,o,none⟩:Addr).add j=⟨g,o+j,none⟩:=by unfold Addr.add;split<;>simp_all
theorem qMr{p:Addr}(hs:p.spot=none)(j:Nat):p.add j=⟨p.block,p.off+j,none⟩:=by
 obtain⟨b,o,s⟩:=p
 simp only at hs;subst hs
 exact qNf b o j
section
variable {P:Program}
def Src(P:Program)(w:World)(sz:Nat)(x:Value)(n:Nat)(news:List Value):Prop:=
 (Builtin.lenOf x).run P w= .ok n w/\(Builtin.firstCells sz n x).run P w= .ok news.toArray w/\news.length=n*sz/\∀v∈news,v.oneCell'=true
theorem qNc(w:World)(t u ty e:TypeId)(i:TypeInfo)(ht:P.underlying t=some (.slice e))(hu:qQv P u e)(hi:P.info? e=some i){x:Value}{n:Nat}{news:List Value}
  (hsrc:Src P w i.size x n news) (g sLen sCap:Nat) (cur:Array Value) (hg:w.heap[g]? =some (.cells cur e (0,0))) (hroom:sLen+n<=sCap) (hfit:sLen*i.size+news.length<=cur.size):
  (Builtin.append_ #[t,u] ty #[.slice (some ⟨g,0,none⟩) sLen sCap,x]).run P w=
   .ok (.slice (some ⟨g,0,none⟩) (sLen+n) sCap) (w.setRow g (cur.toList.take (sLen*i.size)++news++cur.toList.drop (sLen*i.size+news.length)).toArray):=by
 obtain⟨h1,h2,h3,h4⟩:=hsrc
 have hst:=run_storeCells_at P g (sLen*i.size) e news 0 cur w hg (by simpa using hfit) h4
 simp only[kX] at hst
 rcases hu with hdu|hdu<;>simp[Builtin.append_,run_underlying ht,run_underlying hdu,sizeOf,typeInfo,hi,h1,hroom,h2,qNf,hst]
theorem qLw(w:World)(t u ty e:TypeId)(i:TypeInfo)(ht:P.underlying t=some (.slice e))(hu:qQv P u e)(hi:P.info? e=some i){x:Value}{news:List Value}
  (hsrc:Src P w i.size x 0 news):(Builtin.append_ #[t,u] ty #[.slice none 0 0,x]).run P w= .ok (.slice none 0 0) w:=by
 obtain⟨h1,h2,h3,h4⟩:=hsrc
 rcases hu with hdu|hdu<;>simp[Builtin.append_,run_underlying ht,run_underlying hdu,sizeOf,typeInfo,hi,h1,h2]
theorem qMh(w:World)(t u ty e:TypeId)(i:TypeInfo)(z:Value)(ht:P.underlying t=some (.slice e))(hu:qQv P u e)(hi:P.info? e=some i)(hz:i.zero=some z){x:Value}{n:Nat}{news:List Value}
  (hsrc:Src P w i.size x n news) (base:Option Addr) (sLen sCap:Nat) (olds:List Value)
  (hold:∀w':World,Step w w'->w'.heap=w.heap->(Builtin.firstCells i.size sLen (.slice base sLen sCap)).run P w'= .ok olds.toArray w')
  (hsrc':∀w':World,Step w w'->w'.heap=w.heap->(Builtin.firstCells i.size n x).run P w'= .ok news.toArray w')
  (hg:sCap<sLen+n) (hb:(sLen+n)*i.bytes<=140737488355328) (h63:sLen+n<=maxLen):
  (Builtin.append_ #[t,u] ty #[.slice base sLen sCap,x]).run P w=
   .ok (.slice (some ⟨w.heap.size,0,none⟩) (sLen+n) (grownCap w (sLen+n) sCap e))
    (w.drew.alloc (.cells ((olds++news).toArray++Builtin.zeroCells z.cells (grownCap w (sLen+n) sCap e-(sLen+n))) e)):=by
 obtain⟨h1,h2,h3,h4⟩:=hsrc
 have hn:¬(sLen+n<=sCap):=by omega
 have h63':¬(9223372036854775807<(sLen:Int)+(n:Int)):=by simp only[maxLen] at h63;omega
 have hfit:=growslice_fits (need:=sLen+n) (old:=sCap) (bytes:=i.bytes) hg hb
 have hfit':¬(281474976710656<Builtin.nextslicecap (sLen+n) sCap*i.bytes):=by omega
 have hmax:IntKind.i64.max=9223372036854775807:=by decide
 have ho:=hold w.drew ⟨⟨rfl,rfl⟩,rfl,dle⟩ rfl
 have hs:=hsrc' w.drew ⟨⟨rfl,rfl⟩,rfl,dle⟩ rfl
 have hforced:(Question.appendCap (sLen+n) sCap e).forced=false:=rfl
 rcases hu with hdu|hdu<;>
  simp[Builtin.append_,run_underlying ht,run_underlying hdu,sizeOf,typeInfo,zeroValue,hi,hz,h1,hn,h63',hfit',hmax,hforced,ho,hs,newRow,grownCap]<;>(congr 2;apply Array.ext';simp)
def qFb{α:Type}(by_:Nat)(l k:List α):Option (List α):=if(l.length+k.length)*by_<=140737488355328/\l.length+k.length<=maxLen then some (l++k) else none
theorem RepS.of_cells{α:Type}{c:Codec α}{m:Mem}{b cap:Nat}{l:List α}{cs:List Value}(h1:l.length<=cap)(h2:cap<=maxLen)
  (h3:∀i x,l[i]? =some x->c.rep m x ((cs.drop (i*c.sz)).take c.sz)) (h4:MRow m b 0 cs):RepS c m (some ⟨b,0,none⟩) cap l:=by
 refine⟨h1,h2,.inl rfl,fun i x hx=>⟨_,h3 i x hx,?_⟩⟩
 intro j v hv
 rw[List.getElem?_take] at hv
 split at hv
 .rw[List.getElem?_drop] at hv
  have:=h4 _ v hv
  simp only[kW] at this ⊢
  exact this
 cases hv
theorem RepS.cellsA{α:Type}{c:Codec α}{m:Mem}{a:Option Addr}{cap:Nat}{l:List α}(h:RepS c m a cap l):
  ∃cs,cs.length=l.length*c.sz/\(∀v∈cs,v.oneCell'=true)/\(∀p,a=some p->MRow m p.block p.off cs)/\∀i x,l[i]? =some x->c.rep m x ((cs.drop (i*c.sz)).take c.sz):=by
 cases a with
 |none=>
  obtain⟨h1,_,h3⟩:=h
  have:l=[]:=jC (by simp only at h3;omega)
  subst this
  exact⟨[],by simp,by simp,by simp,by simp⟩
 |some p=>
  obtain⟨cs,h1,h2,h3,h4⟩:=h.cells
  exact⟨cs,h1,h2,fun q hq=>by cases hq;exact h3,h4⟩
theorem Inv.cell{m:Mem}{w:World}(h:Inv m w){b o:Nat}{v:Value}(hv:m.cell b o=some v):w.cell? ⟨b,o,none⟩=some v:=by
 obtain⟨c,e,f,hb,hc⟩:=h.1 b o v hv
 simp[World.cell?,hb,hc]
theorem qSy{m:Mem}{w:World}(hi:Inv m w){a:Option Addr}{n cap sz:Nat}{cs:List Value}(hl:cs.length=n*sz)(hs:∀p,a=some p->(p.spot=none\/cs=[])/\MRow m p.block p.off cs)(ha:a=none->cs=[]):
  (Builtin.firstCells sz n (.slice a n cap)).run P w= .ok cs.toArray w:=by
 cases a with
 |none=>rw[ha rfl];simp[Builtin.firstCells]
 |some p=>
  obtain⟨h1,h2⟩:=hs p rfl
  exact run_firstCells_some w sz n p n cap cs hl fun j v hv=>by
   rcases h1 with h1|h1
   .rw[qMr h1];exact hi.cell (h2 j v hv)
   subst h1;simp at hv
theorem RepS.none_nil{α:Type}{c:Codec α}{m:Mem}{cap:Nat}{l:List α}(h:RepS c m none cap l):l=[]/\cap=0:=by
 obtain⟨h1,_,h3⟩:=h
 simp only at h3
 exact⟨jC (by omega),h3⟩
theorem RepS.spot{α:Type}{c:Codec α}{m:Mem}{p:Addr}{cap:Nat}{l:List α}(h:RepS c m (some p) cap l)(hn:l≠[]):p.spot=none:=h.2.2.1.resolve_right hn
def qUa{α:Type}(P:Program)(c:Codec α)(m:Mem)(x:Value)(k:List α):Prop:=
 ∃cs,(∀w:World,Inv m w->Src P w c.sz x k.length cs)/\(∀i y,k[i]? =some y->c.rep m y ((cs.drop (i*c.sz)).take c.sz))
theorem RepS.src{α:Type}{c:Codec α}{m:Mem}{a:Option Addr}{cap:Nat}{l:List α}(h:RepS c m a cap l):qUa P c m (.slice a l.length cap) l:=by
 obtain⟨cs,h1,h2,h3,h4⟩:=h.cellsA
 refine⟨cs,fun w hi=>⟨by simp[Builtin.lenOf],qSy hi h1 (fun p hp=> ?_) (fun ha=> ?_),h1,h2⟩,h4⟩
 .subst hp;exact⟨h.2.2.1.imp id (fun e=>by subst e;exact jC (by simpa using h1)),h3 p rfl⟩
 subst ha;obtain⟨rfl,rfl⟩:=h.none_nil;exact jC (by simpa using h1)
theorem qWc{α:Type}{c:Codec α}{m:Mem}{l k:List α}{c1 c2:List Value}(hl:c1.length=l.length*c.sz)
  (h1:∀i x,l[i]? =some x->c.rep m x ((c1.drop (i*c.sz)).take c.sz)) (h2:∀i x,k[i]? =some x->c.rep m x ((c2.drop (i*c.sz)).take c.sz)):
  ∀i x,(l++k)[i]? =some x->c.rep m x (((c1++c2).drop (i*c.sz)).take c.sz):=by
 intro i x hx
 rw[List.getElem?_append] at hx
 split at hx
 .rename_i hi
  have hle:i*c.sz+c.sz<=c1.length:=by
   rw[hl]
   calc i*c.sz+c.sz=(i+1)*c.sz:=by rw[jE,kT]
    _<=l.length*c.sz:=jR _ hi
  have:((c1++c2).drop (i*c.sz)).take c.sz=(c1.drop (i*c.sz)).take c.sz:=by
   rw[kC (by omega),kA (by simp;omega)]
  rw[this];exact h1 i x hx
 rename_i hi
 have hle:c1.length<=i*c.sz:=by rw[hl];exact jR _ (by omega)
 have:(c1++c2).drop (i*c.sz)=c2.drop ((i-l.length)*c.sz):=by
  rw[kZ,kD hle,kH,hl,Nat.sub_mul]
 rw[this];exact h2 _ x hx
theorem qSp{m:Mem}{w:World}(hi:Inv m w){b:Nat}{cs:List Value}(hm:MRow m b 0 cs){cur:Array Value}{e:TypeId}{f:Nat×Nat}(hb:w.heap[b]? =some (.cells cur e f)):cur.toList.take cs.length=cs:=by
 apply List.ext_getElem?
 intro j
 rw[List.getElem?_take]
 by_cases hj:j<cs.length
 .rw[if_pos hj]
  have:=hm j cs[j] (by simp[hj])
  obtain⟨c,e',f',h1,h2⟩:=hi.1 _ _ _ this
  rw[hb] at h1
  simp only[j9,Obj.cells.injEq] at h1
  obtain⟨rfl,_,_⟩:=h1
  simp only[kW] at h2
  simp[h2,hj]
 rw[if_neg hj];simp[Nat.le_of_not_lt hj]
theorem St.know{m:Mem}{own:List Piece}{w:World}{b:Nat}{cs:List Value}{cur:Array Value}{e:TypeId}{f:Nat×Nat}(h:St m own w)(hb:b∉own.filterMap Piece.block)
  (hw:w.heap[b]? =some (.cells cur e f)) (ht:cur.toList.take cs.length=cs) (hold:∀o v,m.cell b o=some v->cs[o]? =some v):
  ∃m',m.le m'/\St m' own w/\MRow m' b 0 cs/\(∀o,cs.length<=o->m'.cell b o=none)/\m'.obj=m.obj/\∀k,k≠b->m'.cell k=m.cell k:=by
 refine⟨m.addCells b (fun o=>cs[o]?),m.le_addCells b _,h.addCells hb ?_,?_,?_,rfl,?_⟩
 .intro o v hv
  refine⟨cur,e,f,hw,?_⟩
  rw[<-ht,List.getElem?_take] at hv
  split at hv
  .simpa using hv
  cases hv
 .intro j v hv
  simp only[Mem.addCells,kW,jP]
  cases hc:m.cell b j with
  |none=>simp[hv]
  |some u=>have:=hold j u hc;rw[hv] at this;simp_all
 .intro o ho
  simp only[Mem.addCells,jP]
  cases hc:m.cell b o with
  |none=>simp[ho]
  |some u=>
   have:=hold o u hc
   have hlt:=(List.getElem?_eq_some_iff.1 this).1
   omega
 intro k hk;funext o;simp[Mem.addCells,hk]
theorem qRx{α:Type}{c:Codec α}{m:Mem}{own:List Piece}{w:World}{t u ty e by_:Nat}(hinfo:qIg P t=some (e,c.sz,by_,c.sz))(hu:qQv P u e)
  {a:Option Addr} {cap:Nat} {l k r:List α} {x:Value} (hst:St m (.room a l.length cap e c.sz::own) w) (hr:RepS c m a cap l)
  (hx:qUa P c m x k)
  (hs:qFb by_ l k=some r):
  ∃a' cap' m' w',(Builtin.append_ #[t,u] ty #[.slice a l.length cap,x]).run P w= .ok (.slice a' r.length cap') w'/\m.le m'/\St m' (.room a' r.length cap' e c.sz::own) w'/\RepS c m' a' cap' r:=by
 obtain⟨ht,i,z,hi,hz,hsz,hby,hzs⟩:=qJx hinfo
 unfold qFb at hs
 split at hs
 .rename_i hfit
  simp only[j9] at hs
  subst hs
  obtain⟨hfit,h63⟩:=hfit
  have hinv:=hst.inv
  obtain⟨cs2,hsrcs,hrep2⟩:=hx
  have hsrc:=hsrcs w hinv
  obtain⟨cs1,hl1,ho1,hm1,hrep1⟩:=hr.cellsA
  have hl2:cs2.length=k.length*c.sz:=hsrc.2.2.1
  have hlen:(cs1++cs2).length=(l++k).length*c.sz:=by simp[hl1,hl2,jE]
  have hjoin:∀m',m.le m'->∀i y,(l++k)[i]? =some y->c.rep m' y (((cs1++cs2).drop (i*c.sz)).take c.sz):=fun m' hle=>
   qWc hl1 (fun i y hy=>c.mono _ _ _ _ hle (hrep1 i y hy)) (fun i y hy=>c.mono _ _ _ _ hle (hrep2 i y hy))
  have htail:=hst.tail
  -- a new block
  have out:cap<l.length+k.length->(∀w':World,Step w w'->w'.heap=w.heap->(Builtin.firstCells i.size l.length (.slice a l.length cap)).run P w'= .ok cs1.toArray w')->
    ∃a' cap' m' w',(Builtin.append_ #[t,u] ty #[.slice a l.length cap,x]).run P w= .ok (.slice a' (l++k).length cap') w'/\m.le m'/\St m' (.room a' (l++k).length cap' e c.sz::own) w'/\RepS c m' a' cap' (l++k):=by
   intro hlt hold
   have hinv':∀w':World,Step w w'->w'.heap=w.heap->Inv m w':=fun w' hs hw=>hinv.keep hs (fun b _ _=>by rw[hw])
   have hrun:=qMh w t u ty e i z ht hu hi hz (n:=k.length) (news:=cs2) (by rw[hsz];exact hsrc) a l.length cap cs1 hold
    (fun w' hs hw=>by rw[hsz];exact(hsrcs w' (hinv' w' hs hw)).2.1) hlt (by rw[hby];exact hfit) h63
   generalize hgc:grownCap w (l.length+k.length) cap e=gc at hrun
   have hge:l.length+k.length<=gc:=hgc▸grownCap_ge _ _ _ _
   have hgm:gc<=maxLen:=hgc▸grownCap_le_maxLen _ _ _ _ h63
   generalize hcur:(cs1++cs2).toArray++Builtin.zeroCells z.cells (gc-(l.length+k.length))=cur at hrun
   have hcs:cur.size=gc*c.sz:=by
    rw[<-hcur]
    simp only[kJ,kU,size_zeroCells,hzs,hlen,jN,<-jE]
    congr 1;omega
   have hal:=htail.alloc (w':=w.drew.alloc (.cells cur e)) (o:= .cells cur e) ⟨⟨rfl,rfl⟩,rfl,dle⟩ rfl
   have htk:cur.toList.take (cs1++cs2).length=cs1++cs2:=by rw[<-hcur,Array.toList_append,List.toList_toArray,List.take_left]
   have hfresh:=htail.fresh_free
   obtain⟨m',hle,hst',hrow,hno,hobj,hoth⟩:=St.know (b:=w.heap.size) hal.tail (hal.head_ne rfl) hal.head.1 htk (fun o v hv=>by rw[hfresh.1 o] at hv;cases hv)
   refine⟨some ⟨w.heap.size,0,none⟩,gc,m',w.drew.alloc (.cells cur e),by rw[hrun,jN],hle,?_,RepS.of_cells (by simpa using hge) hgm (hjoin m' hle) hrow⟩
   refine hst'.cons ⟨rfl,rfl,by simpa using hge,hgm,⟨cur,hal.head.1,hcs⟩,?_,?_⟩ ?_
   .intro o ho;exact hno o (by rw[hlen];exact ho)
   .rw[hobj];exact hfresh.2
   intro b hb
   simp only[Piece.block,jQ,j9] at hb
   subst hb
   exact hal.head_ne rfl
  cases a with
  |none=>
   obtain⟨rfl,rfl⟩:=hr.none_nil
   have hc1:cs1=[]:=jC (by simpa using hl1)
   subst hc1
   by_cases hk:k.length=0
   .have hkn:k=[]:=jC hk
    subst hkn
    refine⟨none,0,m,w,?_,m.le_refl,hst,hr⟩
    have:=qLw w t u ty e i ht hu hi (x:=x) (news:=cs2) (by rw[hsz];exact hsrc)
    simpa using this
   exact out (by simp;omega) (fun w' _ _=>by simp[Builtin.firstCells])
  |some p=>
   obtain⟨h1,h2,h3,h4,⟨cur,h5,h6⟩,h7,h8⟩:=hst.head
   obtain⟨g,off,spot⟩:=p
   simp only at h1 h2 h5 h7 h8
   subst h1;subst h2
   have hrow1:=hm1 _ rfl
   simp only at hrow1
   by_cases hroom:l.length+k.length<=cap
   .have hfit2:l.length*i.size+cs2.length<=cur.size:=by rw[hl2,h6,hsz,<-jE];exact jR _ hroom
    have hrun:=qNc w t u ty e i ht hu hi (x:=x) (n:=k.length) (news:=cs2) (by rw[hsz];exact hsrc) g l.length cap cur h5 hroom hfit2
    rw[hsz,<-hl1] at hrun
    rw[qSp hinv hrow1 h5] at hrun
    generalize hw':w.setRow g (cs1++cs2++cur.toList.drop (cs1.length+cs2.length)).toArray=w' at hrun
    have hnew:w'.heap[g]? =some (.cells (cs1++cs2++cur.toList.drop (cs1.length+cs2.length)).toArray e (0,0)):=by rw[<-hw'];exact setRow_heap w g cur _ e _ h5
    have hoth:∀b,b≠g->w'.heap[b]? =w.heap[b]? :=fun b hb=>by rw[<-hw'];exact setRow_other w g b _ hb
    have hcs:(cs1++cs2++cur.toList.drop (cs1.length+cs2.length)).toArray.size=cap*c.sz:=by
     simp only[kU,jN,List.length_drop,Array.length_toList]
     have:l.length*c.sz+k.length*c.sz<=cap*c.sz:=by rw[<-jE];exact jR _ hroom
     omega
    have hne:=hst.head_ne (b:=g) rfl
    have hst1:St m own w':=by
     refine⟨?_,fun q hq=>Piece.holds_keep (htail.2.1 q hq) (fun b hb=>hoth b ?_),htail.2.2⟩
     .refine⟨?_,?_,hinv.2.2.trans (by rw[<-hw'];exact⟨⟨rfl,rfl⟩,rfl,dle⟩)⟩
      .intro b o v hv
       by_cases hb:b=g
       .subst hb
        refine⟨_,e,(0,0),hnew,?_⟩
        by_cases ho:o<l.length*c.sz
        .obtain⟨cc,e',f',hcc,hco⟩:=hinv.1 b o v hv
         rw[h5] at hcc
         simp only[j9,Obj.cells.injEq] at hcc
         obtain⟨rfl,_,_⟩:=hcc
         have hlt:o<cs1.length:=by rw[hl1];exact ho
         have htk:=qSp hinv hrow1 h5
         have:cs1[o]? =some v:=by
          rw[<-htk,List.getElem?_take,if_pos hlt]
          simpa using hco
         simp only[List.getElem?_toArray,List.append_assoc,List.getElem?_append,if_pos hlt]
         exact this
        rw[h7 o (by omega)] at hv;cases hv
       obtain⟨cc,e',f',hcc,hco⟩:=hinv.1 b o v hv
       exact⟨cc,e',f',by rw[hoth b hb];exact hcc,hco⟩
      intro b y hy
      have:b≠g:=by rintro rfl;rw[h8] at hy;cases hy
      rw[hoth b this];exact hinv.2.1 b y hy
     rintro rfl;exact hne (qMq.2 ⟨q,hq,hb⟩)
    obtain⟨m',hle,hst',hrow,hno,hobj,_⟩:=St.know (b:=g) (cs:=cs1++cs2) hst1 hne hnew (by rw[List.toList_toArray,List.take_left]) (fun o v hv=>by
     by_cases ho:o<l.length*c.sz
     .have hlt:o<cs1.length:=by rw[hl1];exact ho
      have:=hrow1 o cs1[o] (by simp[hlt])
      simp only[kW] at this
      rw[this] at hv
      simp only[List.getElem?_append,if_pos hlt]
      rw[<-hv];simp[hlt]
     rw[h7 o (by omega)] at hv;cases hv)
    refine⟨some ⟨g,0,none⟩,cap,m',w',by rw[hrun,jN],hle,?_,RepS.of_cells (by simpa using hroom) h4 (hjoin m' hle) hrow⟩
    refine hst'.cons ⟨rfl,rfl,by simpa using hroom,h4,⟨_,hnew,hcs⟩,?_,?_⟩ ?_
    .intro o ho;exact hno o (by rw[hlen];exact ho)
    .rw[hobj];exact h8
    intro b hb
    simp only[Piece.block,jQ,j9] at hb
    subst hb;exact hne
   exact out (by omega) (fun w' hs hw=>by
    have hinv':Inv m w':=hinv.keep hs (fun b _ _=>by rw[hw])
    rw[hsz]
    exact qSy hinv' hl1 (fun p hp=>by cases hp;exact⟨.inl rfl,hrow1⟩) (fun h=>by cases h))
 cases hs
end
def cInt(k:IntKind):Codec Int where
 sz:=1
 pos:=gA
 rep _ x cs:=cs=[.int k x]
 len:=by rintro _ _ _ rfl;rfl
 one:=by rintro _ _ _ rfl v hv;simp at hv;subst hv;rfl
 mono:=fun _ _ _ _ _ h=>h
def cU8:Codec UInt8 where
 sz:=1
 pos:=gA
 rep _ x cs:=cs=[.int .u8 (x.toNat:Int)]
 len:=by rintro _ _ _ rfl;rfl
 one:=by rintro _ _ _ rfl v hv;simp at hv;subst hv;rfl
 mono:=fun _ _ _ _ _ h=>h
def qBv:Codec Bool where
 sz:=1
 pos:=gA
 rep _ x cs:=cs=[.bool x]
 len:=by rintro _ _ _ rfl;rfl
 one:=by rintro _ _ _ rfl v hv;simp at hv;subst hv;rfl
 mono:=fun _ _ _ _ _ h=>h
def cStr:Codec ByteArray where
 sz:=1
 pos:=gA
 rep _ x cs:=cs=[.string x]
 len:=by rintro _ _ _ rfl;rfl
 one:=by rintro _ _ _ rfl v hv;simp at hv;subst hv;rfl
 mono:=fun _ _ _ _ _ h=>h
def qLf{α β:Type}(a:Codec α)(b:Codec β):Codec (α×β) where
 sz:=a.sz+b.sz
 pos:=Nat.lt_of_lt_of_le a.pos (Nat.le_add_right ..)
 rep m x cs:=∃c1 c2,cs=c1++c2/\a.rep m x.1 c1/\b.rep m x.2 c2
 len:=by rintro m x cs ⟨c1,c2,rfl,h1,h2⟩;rw[jN,a.len _ _ _ h1,b.len _ _ _ h2]
 one:=by
  rintro m x cs ⟨c1,c2,rfl,h1,h2⟩ v hv
  rcases kP.1 hv with hv|hv
  .exact a.one _ _ _ h1 v hv
  exact b.one _ _ _ h2 v hv
 mono:=by rintro m m' x cs hle ⟨c1,c2,rfl,h1,h2⟩;exact⟨c1,c2,rfl,a.mono _ _ _ _ hle h1,b.mono _ _ _ _ hle h2⟩
def cSl{α:Type}(c:Codec α):Codec (List α) where
 sz:=1
 pos:=gA
 rep m l cs:=∃a cap,cs=[.slice a l.length cap]/\RepS c m a cap l
 len:=by rintro _ _ _ ⟨a,cap,rfl,_⟩;rfl
 one:=by rintro _ _ _ ⟨a,cap,rfl,_⟩ v hv;simp at hv;subst hv;rfl
 mono:=by rintro m m' x cs hle ⟨a,cap,rfl,h⟩;exact⟨a,cap,rfl,h.mono hle⟩
theorem qJa{α:Type}{c:Codec α}{m:Mem}{a:Option Addr}{cap:Nat}{l:List α}(h:RepS c m a cap l):(cSl c).rep m l [.slice a l.length cap]:=⟨a,cap,rfl,h⟩
def RepAll{α:Type}(c:Codec α)(m:Mem):List α->List Value->Prop
 |[],cs=>cs=[]
 |x::l,cs=>∃c1 c2,cs=c1++c2/\c.rep m x c1/\RepAll c m l c2
theorem RepAll.len{α:Type}{c:Codec α}{m:Mem}:∀{l:List α} {cs:List Value},RepAll c m l cs->cs.length=l.length*c.sz
 |[],cs,h=>by simp[RepAll] at h;simp[h]
 |x::l,cs,h=>by
  obtain⟨c1,c2,rfl,h1,h2⟩:=h
  rw[jN,c.len _ _ _ h1,h2.len,kY,jE,kT,kF]
theorem RepAll.rep{α:Type}{c:Codec α}{m:Mem}:∀{l:List α} {cs:List Value},RepAll c m l cs->∀i x,l[i]? =some x->c.rep m x ((cs.drop (i*c.sz)).take c.sz)
 |[],_,_=>by simp
 |y::l,cs,h=>by
  obtain⟨c1,c2,rfl,h1,h2⟩:=h
  intro i x hx
  have hl:=c.len _ _ _ h1
  cases i with
  |zero=>simp at hx;subst hx;simp[<-hl];exact h1
  |succ i=>
   have e:(c1++c2).drop ((i+1)*c.sz)=c2.drop (i*c.sz):=by
    rw[kZ,kD (by rw[hl,jE];omega),kH,hl,jE,kT,kO]
   rw[e];exact h2.rep i x (by simpa using hx)
def qMp(P:Program)(t:TypeId)(cs:List Value):Option Value:=
 match P.underlying t with
 |some (.struct _)|some (.array _ _)=>match P.info? t with
  |some i=>bif Nat.ble i.size cs.length then some (.agg (cs.take i.size).toArray) else none
  |none=>none
 |some _=>cs.head?
 |none=>none
def qSx:TypeDesc->Bool
 | .struct _=>true
 | .array _ _=>true
 |_=>false
theorem qLl{P:Program}{w:World}{t:TypeId}{b o:Nat}{cs:List Value}{v:Value}(hc:∀j u,cs[j]? =some u->w.cell? ⟨b,o+j,none⟩=some u)(h:qMp P t cs=some v):
  (loadVar t ⟨b,o,none⟩).run P w= .ok v w:=by
 have agg:∀d,P.underlying t=some d->(isAgg t).run P w= .ok (qSx d) w:=by
  intro d hd;unfold isAgg;cases d<;>simp[run_underlying hd,qSx]
 have big:∀d,P.underlying t=some d->qSx d=true->(match P.info? t with
  |some i=>bif Nat.ble i.size cs.length then some (Value.agg (cs.take i.size).toArray) else none
  |none=>none)=some v->(loadVar t ⟨b,o,none⟩).run P w= .ok v w:=by
  intro d hd hb h
  cases hi:P.info? t with
  |none=>simp[hi] at h
  |some i=>
   simp only[hi] at h
   cases hle:Nat.ble i.size cs.length with
   |false=>simp[hle] at h
   |true=>
    simp[hle] at h
    subst h
    have hle':=jK hle
    have hl:=run_loadCells_list (P:=P) w ⟨b,o,none⟩ (cs.take i.size) (fun j u hu=>by
     rw[qNf]
     rw[List.getElem?_take] at hu
     split at hu
     .exact hc j u hu
     cases hu)
    have:(cs.take i.size).length=i.size:=by simp;omega
    rw[this] at hl
    have ha:=agg d hd
    rw[hb] at ha
    simp[loadVar,ha,sizeOf,typeInfo,hi,hl]
 unfold qMp at h
 split at h
 .rename_i hd;exact big _ hd rfl h
 .rename_i hd;exact big _ hd rfl h
 .rename_i d hn1 hn2 hd
  have ha:=agg d hd
  have hf:qSx d=false:=by
   cases d<;>first|rfl|exact(hn1 _ rfl).elim|exact(hn2 _ _ rfl).elim
  rw[hf] at ha
  have hh:cs[0]? =some v:=by rw[List.head?_eq_getElem?] at h;exact h
  have:=hc 0 v hh
  simp only[kX] at this
  simp[loadVar,ha,this]
 cases h
section
variable {P:Program} {n:Fr} {ops:Array Oper} {Q:Exit->Act->World->Prop} {i d:Nat} {L:Env} {w:World} {m:Mem} {own:List Piece} {N:Env->World->Prop}
theorem qBi{L:Env}{x:Operand}{v:Value}(h:evL L x=some v):evD L x=v:=by simp[evD,h]
theorem qCb{t:TypeId}{x:Operand}{b o:Nat}{cs:List Value}(v:Value)(ho:opAt ops L i=some (some d,.load t x))(hd:Nat.blt d n=true)
  (hx:evL L x=some (.pointer (some ⟨b,o,none⟩))) (hst:St m own w) (hr:MRow m b o cs) (hv:qMp P t cs=some v)
  (h:N ((d,v)::L) w):One P n ops Q i N L w:=by
 refine qFc ho hd (fun q hq=> ?_) h
 have hl:=qLl (P:=P) (w:=w) (t:=t) (b:=b) (o:=o) (cs:=cs) (v:=v) (fun j u hu=>hst.inv.cell (hr j u hu)) hv
 simp[execOp,hq,Instr.loadAt,qBi hx,Instr.sureAddr,hl]
theorem qNu{t e:TypeId}{x:Operand}{b o:Nat}{c:Array Value}{f:Nat×Nat}(v:Value)(ho:opAt ops L i=some (some d,.load t x))(hd:Nat.blt d n=true)
  (hx:evL L x=some (.pointer (some ⟨b,o,none⟩))) (hp:Piece.holds m w (.blk b (.cells c e f))) (hv:qMp P t (c.toList.drop o)=some v)
  (h:N ((d,v)::L) w):One P n ops Q i N L w:=by
 refine qFc ho hd (fun q hq=> ?_) h
 have hb:=hp.1
 have hl:=qLl (P:=P) (w:=w) (t:=t) (b:=b) (o:=o) (cs:=c.toList.drop o) (v:=v) (fun j u hu=>by
  rw[List.getElem?_drop] at hu
  simp only[World.cell?,hb]
  simpa using hu) hv
 simp[execOp,hq,Instr.loadAt,qBi hx,Instr.sureAddr,hl]
def qSs:List Value->Bool
 |[]=>true
 |v::l=>v.oneCell'&&qSs l
theorem qTj{l:List Value}(h:qSs l=true):∀v∈l,v.oneCell'=true:=by
 induction l with
 |nil=>simp
 |cons u l ih=>
  simp only[qSs,jI] at h
  intro v hv
  rcases jD.1 hv with rfl|hv
  .exact h.1
  exact ih h.2 v hv
def qQi(P:Program)(t:TypeId)(v:Value)(o n:Nat):Bool:=
 match P.info? t with
 |some i=>Nat.beq v.cells.size i.size&&Nat.ble (o+v.cells.size) n&&qSs v.cells.toList
 |none=>false
theorem qRa{t e:TypeId}{x y:Operand}{b o:Nat}{c c':Array Value}{v:Value}(ho:opAt ops L i=some (none,.store t x y))
  (hx:evL L x=some (.pointer (some ⟨b,o,none⟩))) (hy:evL L y=some v) (hst:St m (.blk b (.cells c e (0,0))::own) w) (hok:qQi P t v o c.size=true)
  (hc':(c.toList.take o++v.cells.toList++c.toList.drop (o+v.cells.toList.length)).toArray=c')
  (h:∀w',St m (.blk b (.cells c' e (0,0))::own) w'->N L w'):One P n ops Q i N L w:=by
 unfold qQi at hok
 cases hi:P.info? t with
 |none=>simp[hi] at hok
 |some inf=>
  simp only[hi,jI] at hok
  obtain⟨⟨h1,h2⟩,h3⟩:=hok
  have h1':=kE h1
  have h2':=jK h2
  have hrun:=run_storeCells_at P b o e v.cells.toList 0 c w hst.head.1 (by simpa using h2') (qTj h3)
  simp only[kX] at hrun
  rw[hc'] at hrun
  refine qLz ho (fun q hq=> ?_) (h (w.setRow b c') (hst.set ⟨⟨rfl,rfl⟩,rfl,dle⟩ (setRow_heap w b c c' e _ hst.head.1) (fun k _ hk=>setRow_other w b k _ hk)))
  simp[execOp,hq,Instr.storeAt,qBi hx,qBi hy,Instr.sureAddr,storeVar,sizeOf,typeInfo,hi,h1',hrun]
theorem qOt{e:TypeId}{x:Operand}(v:Value)(ho:opAt ops L i=some (some d,.box e x))(hd:Nat.blt d n=true)(hx:evL L x=some v)(hst:St m own w)
  (h:∀b w',St m (.blk b (.cells v.cells e (0,0))::own) w'->N ((d,.pointer (some ⟨b,0,none⟩))::L) w'):One P n ops Q i N L w:=by
 refine qFc (w':=w.alloc (.cells v.cells e)) ho hd (fun q hq=> ?_) (h w.heap.size _ (hst.alloc ⟨⟨rfl,rfl⟩,rfl,dle⟩ rfl))
 simp[execOp,hq,Instr.box,qBi hx,newVar,newRow]
theorem St.settle{b:Nat}{c:Array Value}{e:TypeId}{f:Nat×Nat}(h:St m (.blk b (.cells c e f)::own) w):∃m',m.le m'/\St m' own w/\MRow m' b 0 c.toList:=by
 obtain⟨m',h1,h2,h3,_⟩:=St.know (cs:=c.toList) h.tail (h.head_ne rfl) h.head.1 (List.take_of_length_le (jT _)) (fun o v hv=>by rw[h.head.2.1 o] at hv;cases hv)
 exact⟨m',h1,h2,h3⟩
theorem qWt{e:TypeId}{x:Operand}(v:Value)(ho:opAt ops L i=some (some d,.box e x))(hd:Nat.blt d n=true)(hx:evL L x=some v)(hst:St m own w)
  (h:∀b m' w',m.le m'->St m' own w'->MRow m' b 0 v.cells.toList->N ((d,.pointer (some ⟨b,0,none⟩))::L) w'):One P n ops Q i N L w:=by
 refine qOt v ho hd hx hst (fun b w' hs=> ?_)
 obtain⟨m',h1,h2,h3⟩:=hs.settle
 exact h b m' w' h1 h2 h3
def qWn(P:Program)(e:TypeId):Option Value:=(P.info? e).bind (·.zero)
theorem qVd{e:TypeId}(v:Value)(ho:opAt ops L i=some (some d,.alloc e))(hd:Nat.blt d n=true)(hz:qWn P e=some v)(hst:St m own w)
  (h:∀b w',St m (.blk b (.cells v.cells e (0,0))::own) w'->N ((d,.pointer (some ⟨b,0,none⟩))::L) w'):One P n ops Q i N L w:=by
 obtain⟨inf,hi,hz'⟩:=jB.1 hz
 refine qFc (w':=w.alloc (.cells v.cells e)) ho hd (fun q hq=> ?_) (h w.heap.size _ (hst.alloc ⟨⟨rfl,rfl⟩,rfl,dle⟩ rfl))
 simp[execOp,hq,Instr.alloc,zeroValue,typeInfo,hi,hz',newVar,newRow]
def idx{α:Type}(l:List α)(i:Int):Option α:=if 0<=i then l[i.toNat]? else none
def qJp(P:Program)(t:TypeId):Option (TypeId×Nat):=
 match P.underlying t with
 |some (.slice e)=>(P.info? e).map fun i=>(e,i.size)
 |_=>none
theorem qIu{t e sz:Nat}(h:qJp P t=some (e,sz)):P.underlying t=some (.slice e)/\∃inf,P.info? e=some inf/\inf.size=sz:=by
 unfold qJp at h
 split at h
 .rename_i e' he
  cases hi:P.info? e' with
  |none=>simp[hi] at h
  |some inf=>simp[hi] at h;obtain⟨rfl,h2⟩:=h;exact⟨he,inf,hi,h2⟩
 cases h
theorem qUv{α:Type}{t e:TypeId}{x y:Operand}(c:Codec α){a:Option Addr}{cap:Nat}{l:List α}{k:IntKind}{ix:Int}{z:α}(ho:opAt ops L i=some (some d,.indexAddr t x y))(hd:Nat.blt d n=true)
  (hx:evL L x=some (.slice a l.length cap)) (hy:evL L y=some (.int k ix)) (hi:qJp P t=some (e,c.sz)) (hr:RepS c m a cap l) (hz:idx l ix=some z)
  (h:∀b o cs,c.rep m z cs->MRow m b o cs->N ((d,.pointer (some ⟨b,o,none⟩))::L) w):One P n ops Q i N L w:=by
 obtain⟨h1,inf,h2,h3⟩:=qIu hi
 unfold idx at hz
 split at hz
 .rename_i h0
  have hlt:ix.toNat<l.length:=(List.getElem?_eq_some_iff.1 hz).1
  cases a with
  |none=>obtain⟨rfl,_⟩:=hr.none_nil;simp at hlt
  |some p=>
   obtain⟨cs,hc,hm⟩:=hr.2.2.2 _ _ hz
   refine qFc ho hd (fun q hq=> ?_) (h p.block (p.off+ix.toNat*c.sz) cs hc hm)
   have hlt':ix<(l.length:Int):=by omega
   simp[execOp,hq,Instr.indexAt,qBi hx,qBi hy,asIntOf,run_underlying h1,h0,hlt',sizeOf,typeInfo,h2,h3,qMr (hr.spot (fun e=>by rw[e] at hlt;simp at hlt))]
 cases hz
theorem qTk{α:Type}{t u e by_:Nat}{x y:Operand}(c:Codec α){a:Option Addr}{cap:Nat}{l k r:List α}{v:Value}
  (ho:opAt ops L i=some (some d,.call {callee:= .builtin .append,args:= #[x,y],argTypes:= #[t,u]})) (hd:Nat.blt d n=true)
  (hx:evL L x=some (.slice a l.length cap)) (hy:evL L y=some v) (hst:St m (.room a l.length cap e c.sz::own) w) (hi:qIg P t=some (e,c.sz,by_,c.sz)) (hu:qQv P u e)
  (hr:RepS c m a cap l) (hg:qUa P c m v k) (hs:qFb by_ l k=some r)
  (h:∀a' cap' m' w',m.le m'->St m' (.room a' r.length cap' e c.sz::own) w'->RepS c m' a' cap' r->N ((d,.slice a' r.length cap')::L) w'):One P n ops Q i N L w:=by
 refine qMw (v:=undef) (w':=w) ho hd (fun o h3=> ?_)
 obtain⟨a',cap',m',w',hrun,hle,hst',hrep⟩:=qRx (P:=P) (ty:=o.type) hi hu hst hr hg hs
 refine⟨_,w',?_,h a' cap' m' w' hle hst' hrep⟩
 simp[execOp,h3,resolve,invoke,builtin,qBi hx,qBi hy,hrun]
theorem St.nilroom(h:St m own w)(e sz:Nat):St m (.room none 0 0 e sz::own) w:=h.cons ⟨rfl,rfl⟩ (by simp[Piece.block])
theorem qAx{α:Type}{t e:TypeId}{len:Nat}{parts:Array (Nat×Operand)}(c:Codec α){xs:List α}(cs:List Value)(ho:opAt ops L i=some (some d,.buildSlice t len parts))(hd:Nat.blt d n=true)
  (hrun:∀w:World,(Instr.buildSlice t len (parts.map fun p=>(p.1,evD L p.2))).run P w= .ok (.slice (some ⟨w.heap.size,0,none⟩) len len) (w.alloc (.cells cs.toArray e)))
  (hlen:len=xs.length) (hmax:Nat.ble len maxLen=true) (hst:St m own w) (hr:RepAll c m xs cs)
  (h:∀b m' w',m.le m'->St m' (.room (some ⟨b,0,none⟩) xs.length len e c.sz::own) w'->RepS c m' (some ⟨b,0,none⟩) len xs->N ((d,.slice (some ⟨b,0,none⟩) xs.length len)::L) w'):One P n ops Q i N L w:=by
 subst hlen
 have hal:=hst.alloc (w':=w.alloc (.cells cs.toArray e)) ⟨⟨rfl,rfl⟩,rfl,dle⟩ rfl
 have hfresh:=hst.fresh_free
 obtain⟨m',h1,h2,h3,h4,h5,_⟩:=St.know (cs:=cs) hal.tail (hal.head_ne rfl) hal.head.1 (by simp) (fun o v hv=>by rw[hfresh.1 o] at hv;cases hv)
 have hmx:=jK hmax
 refine qFc ho hd (fun q hq=> ?_) (h w.heap.size m' _ h1 (h2.cons ⟨rfl,rfl,jT _,hmx,⟨cs.toArray,hal.head.1,by simp[hr.len]⟩,?_,?_⟩ ?_) (RepS.of_cells (jT _) hmx (fun j x hx=>c.mono _ _ _ _ h1 (hr.rep j x hx)) h3))
 .simp[execOp,hq,hrun w]
 .intro o ho';exact h4 o (by rw[hr.len];exact ho')
 .rw[h5];exact hfresh.2
 intro b hb;simp only[Piece.block,jQ,j9] at hb;subst hb;exact hal.head_ne rfl
def qPl(P:Program)(t:TypeId)(len:Nat)(parts:List (Nat×Value)):Option (TypeId×List Value):=
 match P.underlying t with
 |some (.slice e)=>match P.info? e with
  |some inf=>bif Nat.ble (len*inf.size) (2^24)&&Nat.blt 0 (len*inf.size) then
   (match inf.zero with
   |some z=>(Instr.fill (fun i=>some (i*inf.size,inf.size)) ((Array.range (len*inf.size)).map (z.cells[· %z.cells.size]!)) parts).map fun a=>(e,a.toList)
   |none=>none) else none
  |none=>none
 |_=>none
theorem qAy{t e:TypeId}{len:Nat}{parts:Array (Nat×Value)}{cs:List Value}(h:qPl P t len parts.toList=some (e,cs))(w:World):
  (Instr.buildSlice t len parts).run P w= .ok (.slice (some ⟨w.heap.size,0,none⟩) len len) (w.alloc (.cells cs.toArray e)):=by
 unfold qPl at h
 split at h
 .rename_i e' he
  split at h
  .rename_i inf hi
   cases hb:(Nat.ble (len*inf.size) (2^24)&&Nat.blt 0 (len*inf.size)) with
   |false=>simp[hb] at h
   |true=>
    simp only[hb,cond_true] at h
    simp only[jI] at hb
    have h1:=jK hb.1
    have h2:0<len*inf.size:=by simpa[Nat.blt_eq] using hb.2
    have h1':¬(16777216<len*inf.size):=by omega
    have h2':¬(len*inf.size=0):=by omega
    split at h
    .rename_i z hz
     obtain⟨a,ha,hp⟩:=jL.1 h
     simp only[Prod.mk.injEq] at hp
     obtain⟨rfl,rfl⟩:=hp
     simp[Instr.buildSlice,run_underlying he,sizeOf,typeInfo,zeroValue,hi,hz,h1',ha,newRow]
     intro h0;exact absurd h0 h2'
    cases h
  cases h
 cases h
def subS{α:Type}(l:List α)(lo hi:Int):Option (List α):=if 0<=lo/\lo<=hi/\hi<=l.length then some ((l.take hi.toNat).drop lo.toNat) else none
theorem RepS.sub{α:Type}{c:Codec α}{a:Option Addr}{cap:Nat}{l:List α}(h:RepS c m a cap l){lo hi:Nat}(h1:lo<=hi)(h2:hi<=l.length):
  RepS c m (if cap=lo then a else a.map (·.add (lo*c.sz))) (cap-lo) ((l.take hi).drop lo)/\((l.take hi).drop lo).length=hi-lo:=by
 have hlen:((l.take hi).drop lo).length=hi-lo:=by simp;omega
 refine⟨⟨by rw[hlen];have:=h.1;omega,by have:=h.2.1;omega,?_⟩,hlen⟩
 cases a with
 |none=>
  obtain⟨rfl,hc⟩:=h.none_nil
  have:(if cap=lo then(none:Option Addr) else(none:Option Addr).map (·.add (lo*c.sz)))=none:=by split<;>rfl
  rw[this]
  simp[hc]
 |some p=>
  by_cases hl:l=[]
  .subst hl
   have h0:lo=0:=by simp at h2;omega
   subst h0
   simp[Addr.add]
  have hs:=h.spot hl
  by_cases hc:cap=lo
  .rw[if_pos hc]
   refine⟨.inl hs,fun j x hx=> ?_⟩
   have hj:=(List.getElem?_eq_some_iff.1 hx).1
   have:=h.1
   omega
  rw[if_neg hc]
  simp only[jQ]
  rw[qMr hs]
  refine⟨.inl rfl,fun j x hx=> ?_⟩
  rw[List.getElem?_drop,List.getElem?_take] at hx
  split at hx
  .obtain⟨cs,hr,hm⟩:=h.2.2.2 _ _ hx
   refine⟨cs,hr,?_⟩
   rw[kI,<-jE];exact hm
  cases hx
theorem qVl{α:Type}{t e:TypeId}{x:Operand}{lo hi:Option Operand}(c:Codec α){a:Option Addr}{cap:Nat}{l r:List α}{li hix:Int}
  (hx:evL L x=some (.slice a l.length cap)) (hI:qJp P t=some (e,c.sz)) (hr:RepS c m a cap l)
  (hlo:(lo=none/\li=0)\/∃y k,lo=some y/\evL L y=some (.int k li)) (hhi:(hi=none/\hix=l.length)\/∃y k,hi=some y/\evL L y=some (.int k hix)) (hs:subS l li hix=some r):
  ∃v,(∀o:Oper,o.op= .slice t x lo hi none->∀w:World,(execOp (evD L) o).run P w= .ok (.value v) w)/\∃a' cap',v= .slice a' r.length cap'/\RepS c m a' cap' r:=by
 obtain⟨h1,inf,h2,h3⟩:=qIu hI
 unfold subS at hs
 split at hs
 .rename_i hb
  obtain⟨b1,b2,b3⟩:=hb
  simp only[j9] at hs
  have hsub:=hr.sub (lo:=li.toNat) (hi:=hix.toNat) (by omega) (by omega)
  rw[hs] at hsub
  refine⟨_,fun q hq w=> ?_,_,_,rfl,hsub.1⟩
  have hcap:hix<=(cap:Int):=by have:=hr.1;omega
  have hpos:0<=hix:=by omega
  have hll:li<=max hix 0:=by omega
  rcases hlo with ⟨rfl,rfl⟩|⟨y,k,rfl,hy⟩<;>rcases hhi with ⟨rfl,rfl⟩|⟨y',k',rfl,hy'⟩
  .simp[execOp,hq,Instr.sliceAt,Instr.slice,Instr.sliceBounds,run_underlying h1,qBi hx,sizeOf,typeInfo,h2,h3] at*
   exact hsub.2.symm
  .simp[execOp,hq,Instr.sliceAt,Instr.slice,Instr.sliceBounds,Instr.sliceBound,asIntOf,run_underlying h1,qBi hx,qBi hy',sizeOf,typeInfo,h2,h3,hpos,hcap] at*
   exact hsub.2.symm
  .have:li<=(l.length:Int):=b2
   simp[execOp,hq,Instr.sliceAt,Instr.slice,Instr.sliceBounds,Instr.sliceBound,asIntOf,run_underlying h1,qBi hx,qBi hy,sizeOf,typeInfo,h2,h3,b1,this] at*
   exact hsub.2.symm
  simp[execOp,hq,Instr.sliceAt,Instr.slice,Instr.sliceBounds,Instr.sliceBound,asIntOf,run_underlying h1,qBi hx,qBi hy,qBi hy',sizeOf,typeInfo,h2,h3,hpos,hcap,b1,hll] at*
  exact hsub.2.symm
 cases hs
theorem qTs{α:Type}{t e:TypeId}{x:Operand}{lo hi:Option Operand}(c:Codec α){a:Option Addr}{cap:Nat}{l r:List α}{li hix:Int}
  (ho:opAt ops L i=some (some d,.slice t x lo hi none)) (hd:Nat.blt d n=true) (hx:evL L x=some (.slice a l.length cap)) (hI:qJp P t=some (e,c.sz)) (hr:RepS c m a cap l)
  (hlo:(lo=none/\li=0)\/∃y k,lo=some y/\evL L y=some (.int k li)) (hhi:(hi=none/\hix=l.length)\/∃y k,hi=some y/\evL L y=some (.int k hix)) (hs:subS l li hix=some r)
  (h:∀a' cap',RepS c m a' cap' r->N ((d,.slice a' r.length cap')::L) w):One P n ops Q i N L w:=by
 obtain⟨v,hv,a',cap',rfl,hrep⟩:=qVl (P:=P) (L:=L) c hx hI hr hlo hhi hs
 exact qFc ho hd (fun q hq=>hv q hq w) (h a' cap' hrep)
end
end
end Go.Dc
section
namespace Go.Dc
def iAnd(k:IntKind)(a b:Int):Int:=k.wrap ((BitVec.ofInt k.bits a&&&BitVec.ofInt k.bits b).toNat:Int)
def shlS(k:IntKind)(x y:Int):Option Int:=if y<0 then none else some (k.wrap (x*2^(min y.toNat k.bits)))
def shrS(k:IntKind)(x y:Int):Option Int:=if y<0 then none else some (x.fdiv (2^(min y.toNat k.bits)))
def quoS(k:IntKind)(x y:Int):Option Int:=if y=0 then none else some (k.wrap (x.tdiv y))
def remS(x y:Int):Option Int:=if y=0 then none else some (x.tmod y)
def qCr{σ β:Type}(f:σ->Option (σ⊕β)):Nat->σ->Option β
 |0,_=>none
 |k+1,s=>(f s).bind fun
  | .inl s'=>qCr f k s'
  | .inr b=>some b
theorem qBy{σ β:Type}{f:σ->Option (σ⊕β)}{k:Nat}{s:σ}{b:β}(h:qCr f (k+1) s=some b):∃c,f s=some c/\(∀s',c= .inl s'->qCr f k s'=some b)/\(∀b',c= .inr b'->b'=b):=by
 simp only[qCr] at h
 obtain⟨c,h1,h2⟩:=jB.1 h
 refine⟨c,h1,?_,?_⟩
 .rintro s' rfl;exact h2
 rintro b' rfl;simpa using h2
section
variable {ρ:Option Nat} {P:Program} {n:Fr} {ops:Array Oper} {Q:Exit->Act->World->Prop} {i d:Nat} {L:Env} {w:World} {m:Mem} {own:List Piece} {N:Env->World->Prop}
theorem qUo{t:Nat}{b:Bool}(e:Bool)(h1:look L t=some (.bool e))(h2:e=b)(h:WO P n ops Q i ((t,.bool b)::L) w):WO P n ops Q i L w:=by
 intro a ha
 refine h a (ha.sub ?_)
 intro u v hv
 simp only[look] at hv
 cases hb:Nat.beq t u with
 |true=>
  simp only[hb,cond_true] at hv
  have:=kE hb;subst this
  rw[h1,h2];exact hv
 |false=>simp only[hb,cond_false] at hv;exact hv
theorem qGj{j:Nat}(I:Env->World->Prop)(hend:∀L' w',I L' w'->WO P n ops Q j L' w')(hreg:(∀L' w',I L' w'->WO P n ops Q j L' w')->WO P n ops Q i L w):WO P n ops Q i L w:=hreg hend
theorem qCz{c:Code}(e:Exit)(I:Env->World->Prop)(hend:∀L' w',I L' w'->X n Q e L' w')(hbody:(∀L' w',I L' w'->X n Q e L' w')->W ρ P n c Q L w):W ρ P n c Q L w:=hbody hend
theorem qVk{t t2:TypeId}{x y:Operand}{k k2:IntKind}{a b r:Int}(ho:opAt ops L i=some (some d,.binOp .shl t x y t2))(hd:Nat.blt d n=true)(hx:evL L x=some (.int k a))(hy:evL L y=some (.int k2 b))
  (hs:shlS k a b=some r) (h:N ((d,.int k r)::L) w):One P n ops Q i N L w:=by
 unfold shlS at hs
 split at hs
 .cases hs
 rename_i hb
 simp only[j9] at hs;subst hs
 refine qFc ho hd (fun q hq=> ?_) h
 simp[execOp,hq,qBi hx,qBi hy,eqGuard,binOp,Op.shift,hb]
theorem qXk{t t2:TypeId}{x y:Operand}{k k2:IntKind}{a b r:Int}(ho:opAt ops L i=some (some d,.binOp .shr t x y t2))(hd:Nat.blt d n=true)(hx:evL L x=some (.int k a))(hy:evL L y=some (.int k2 b))
  (hs:shrS k a b=some r) (h:N ((d,.int k r)::L) w):One P n ops Q i N L w:=by
 unfold shrS at hs
 split at hs
 .cases hs
 rename_i hb
 simp only[j9] at hs;subst hs
 refine qFc ho hd (fun q hq=> ?_) h
 simp[execOp,hq,qBi hx,qBi hy,eqGuard,binOp,Op.shift,hb]
theorem qTu{t t2:TypeId}{x y:Operand}{k:IntKind}{a b r:Int}(ho:opAt ops L i=some (some d,.binOp .quo t x y t2))(hd:Nat.blt d n=true)(hx:evL L x=some (.int k a))(hy:evL L y=some (.int k b))
  (hs:quoS k a b=some r) (h:N ((d,.int k r)::L) w):One P n ops Q i N L w:=by
 unfold quoS at hs
 split at hs
 .cases hs
 rename_i hb
 simp only[j9] at hs;subst hs
 refine qFc ho hd (fun q hq=> ?_) h
 simp[execOp,hq,qBi hx,qBi hy,eqGuard,binOp,Op.intDiv,hb]
theorem qWu{t t2:TypeId}{x y:Operand}{k:IntKind}{a b r:Int}(ho:opAt ops L i=some (some d,.binOp .rem t x y t2))(hd:Nat.blt d n=true)(hx:evL L x=some (.int k a))(hy:evL L y=some (.int k b))
  (hs:remS a b=some r) (h:N ((d,.int k r)::L) w):One P n ops Q i N L w:=by
 unfold remS at hs
 split at hs
 .cases hs
 rename_i hb
 simp only[j9] at hs;subst hs
 refine qFc ho hd (fun q hq=> ?_) h
 simp[execOp,hq,qBi hx,qBi hy,eqGuard,binOp,Op.intDiv,hb]
def subB(s:ByteArray)(lo hi:Int):Option ByteArray:=if 0<=lo/\lo<=hi/\hi<=s.size then some ⟨((s.data.toList.drop lo.toNat).take (hi.toNat-lo.toNat)).toArray⟩ else none
theorem qVm(s:ByteArray)(lo hi:Int):subB s lo hi=if 0<=lo/\lo<=hi/\hi<=s.size then some (s.extract lo.toNat hi.toNat) else none:=by
 have:s.extract lo.toNat hi.toNat=⟨((s.data.toList.drop lo.toNat).take (hi.toNat-lo.toNat)).toArray⟩:=by
  apply ByteArray.ext
  rw[ByteArray.data_extract]
  apply Array.ext'
  simp[List.extract_eq_take_drop]
 rw[this];rfl
def idxB(s:ByteArray)(i:Int):Option UInt8:=if 0<=i then s[i.toNat]? else none
theorem qRb{t:TypeId}{x y:Operand}{s:ByteArray}{k:IntKind}{ix:Int}{z:UInt8}(ho:opAt ops L i=some (some d,.index t x y))(hd:Nat.blt d n=true)(hx:evL L x=some (.string s))(hy:evL L y=some (.int k ix))
  (hu:P.underlying t=some .string) (hs:idxB s ix=some z) (h:N ((d,.int .u8 (z.toNat:Int))::L) w):One P n ops Q i N L w:=by
 unfold idxB at hs
 split at hs
 .rename_i h0
  refine qFc ho hd (fun q hq=> ?_) h
  simp[execOp,hq,qBi hx,qBi hy,Instr.index,asIntOf,run_underlying hu,h0,hs]
 cases hs
theorem qEi{t:TypeId}{x:Operand}{lo hi:Option Operand}{s r:ByteArray}{li hix:Int}(ho:opAt ops L i=some (some d,.slice t x lo hi none))(hd:Nat.blt d n=true)(hx:evL L x=some (.string s))
  (hu:P.underlying t=some .string) (hlo:(lo=none/\li=0)\/∃y k,lo=some y/\evL L y=some (.int k li)) (hhi:(hi=none/\hix=s.size)\/∃y k,hi=some y/\evL L y=some (.int k hix)) (hs:subB s li hix=some r)
  (h:N ((d,.string r)::L) w):One P n ops Q i N L w:=by
 rw[qVm] at hs
 split at hs
 .rename_i hb
  obtain⟨b1,b2,b3⟩:=hb
  simp only[j9] at hs;subst hs
  refine qFc ho hd (fun q hq=> ?_) h
  have hpos:0<=hix:=by omega
  have hll:li<=max hix 0:=by omega
  rcases hlo with ⟨rfl,rfl⟩|⟨y,k,rfl,hy⟩<;>rcases hhi with ⟨rfl,rfl⟩|⟨y',k',rfl,hy'⟩
  .simp[execOp,hq,Instr.sliceAt,Instr.slice,Instr.sliceBounds,run_underlying hu,qBi hx]
  .simp[execOp,hq,Instr.sliceAt,Instr.slice,Instr.sliceBounds,Instr.sliceBound,asIntOf,run_underlying hu,qBi hx,qBi hy',hpos,b3]
  .have:li<=(s.size:Int):=b2
   simp[execOp,hq,Instr.sliceAt,Instr.slice,Instr.sliceBounds,Instr.sliceBound,asIntOf,run_underlying hu,qBi hx,qBi hy,b1,this]
  simp[execOp,hq,Instr.sliceAt,Instr.slice,Instr.sliceBounds,Instr.sliceBound,asIntOf,run_underlying hu,qBi hx,qBi hy,qBi hy',hpos,b3,b1,hll]
 cases hs
def ResAt(P:Program)(w:World)(L:Env)(rv:ResultVar)(v:Value):Prop:=
 match rv with
 | .tmp t=>look L t=some v
 | .cell a t=>∃b o cs,look L a=some (.pointer (some ⟨b,o,none⟩))/\(∀j u,cs[j]? =some u->w.cell? ⟨b,o+j,none⟩=some u)/\qMp P t cs=some v
def ResAll(P:Program)(w:World)(L:Env):List ResultVar->List Value->Prop
 |[],vs=>vs=[]
 |rv::l,vs=>∃v vs',vs=v::vs'/\ResAt P w L rv v/\ResAll P w L l vs'
def qKv:List Value->Value
 |[v]=>v
 |vs=> .tuple vs.toArray
theorem ResAt.row{t:TypeId}{a:Nat}{b o:Nat}{cs:List Value}{v:Value}(h1:look L a=some (.pointer (some ⟨b,o,none⟩)))(hst:St m own w)(hr:MRow m b o cs)(hv:qMp P t cs=some v):ResAt P w L (.cell a t) v:=
 ⟨b,o,cs,h1,fun j u hu=>hst.inv.cell (hr j u hu),hv⟩
theorem ResAt.blk{t e:TypeId}{a:Nat}{b o:Nat}{c:Array Value}{f:Nat×Nat}{v:Value}(h1:look L a=some (.pointer (some ⟨b,o,none⟩)))(hp:Piece.holds m w (.blk b (.cells c e f)))(hv:qMp P t (c.toList.drop o)=some v):ResAt P w L (.cell a t) v:=
 ⟨b,o,c.toList.drop o,h1,fun j u hu=>by
  rw[List.getElem?_drop] at hu
  simp only[World.cell?,hp.1]
  simpa using hu,hv⟩
def qQz(tmps:Array Value):ResultVar->Sem Value
 | .tmp t=>pure (tmps.getD t undef)
 | .cell a t=>do loadVar t (<-asAddr (tmps.getD a undef))
theorem qTp(fn:Func)(tmps:Array Value):results fn tmps=(do let vs <-fn.results.mapM (qQz tmps);pure (if h:vs.size=1 then vs[0] else .tuple vs)):=by
 unfold results
 congr 2
theorem qFu{k:Nat}{fn:Func}{R:Ending->World->Prop}(rvs:List ResultVar)(vs:List Value)(hf:fn.results=rvs.toArray)(hr:ResAll P w L rvs vs)(h:R (.returned (qKv vs)) w):X ⟨k,[]⟩ (bodyPost P fn R) .ret L w:=by
 intro a ha
 refine⟨ha.2.1,qKv vs,?_,h⟩
 have key:∀(l:List ResultVar) (us:List Value),ResAll P w L l us->Sem.run P (l.mapM (qQz a.tmps)) w= .ok us w:=by
  intro l
  induction l with
  |nil=>intro us h;simp[ResAll] at h;subst h;simp
  |cons r l ih=>
   rintro us ⟨v,vs',rfl,h1,h2⟩
   have hh:Sem.run P (qQz a.tmps r) w= .ok v w:=by
    cases r with
    |tmp t=>
     have hl:a.tmps[t]? =some v:=ha.2.2 t v h1
     simp[qQz,hl]
    |cell x t=>
     obtain⟨b,o,cs,h3,h4,h5⟩:=h1
     have hl:a.tmps[x]? =some (.pointer (some ⟨b,o,none⟩)):=ha.2.2 x _ h3
     have:=qLl (P:=P) h4 h5
     simp[qQz,hl,asAddr,this]
   rw[List.mapM_cons]
   simp only[Sem.run_bind,hh,Result.andThen_ok,ih vs' h2,Sem.run_pure]
 have hk:=key rvs vs hr
 rw[qTp,hf]
 simp only[Sem.run_bind,List.mapM_toArray,Sem.run_map,hk,Result.andThen_ok,Sem.run_pure]
 rcases vs with _|⟨v,_|⟨u,r⟩⟩
 .rfl
 .rfl
 simp[qKv]
end
end Go.Dc
namespace Go.Dc
theorem not_true{e:Bool}(h:e=false):¬e=true:=by rw[h];exact kS
theorem ResAt.tmp{P:Program}{w:World}{L:Env}{t:Nat}{v:Value}(h:look L t=some v):ResAt P w L (.tmp t) v:=h
theorem ResAll.nil{P:Program}{w:World}{L:Env}:ResAll P w L [] []:=rfl
theorem ResAll.cons{P:Program}{w:World}{L:Env}{rv:ResultVar}{l:List ResultVar}{v:Value}{vs:List Value}(h1:ResAt P w L rv v)(h2:ResAll P w L l vs):ResAll P w L (rv::l) (v::vs):=⟨v,vs,rfl,h1,h2⟩
theorem qAu{α β:Type}{x:Option α}{f:α->Option β}{b:β}(h:x.bind f=some b):∃a,x=some a/\f a=some b:=jB.1 h
end Go.Dc
namespace Go.Dc
theorem qQt(e:Bool):e=true\/e=false:=by cases e<;>simp
end Go.Dc
namespace Go.Dc
theorem qBz{σ β:Type}{f:σ->Option (σ⊕β)}{s:σ}{b:β}{p:Prop}(h:qCr f 0 s=some b):p:=by simp[qCr] at h
end Go.Dc
namespace Go.Dc
section
variable {ρ:Option Nat} {P:Program} {n:Fr} {ops:Array Oper} {Q:Exit->Act->World->Prop} {L:Env} {w:World} {m:Mem} {own:List Piece}
def TS:List (Nat×(World->Prop))->Array Bool->World->Prop
 |[],_,_=>True
 |p::ks,l,w=>(l.getD p.1 false=true\/p.2 w)/\TS ks l w
theorem qVh{ks:List (Nat×(World->Prop))}{l:Array Bool}{w:World}:TS ks l w↔∀p∈ks,l.getD p.1 false=true\/p.2 w:=by
 induction ks with
 |nil=>simp[TS]
 |cons p ks ih=>simp[TS,ih]
def qUb(ks:List (Nat×(World->Prop)))(i:Nat):Bool:=ks.all fun p=> !Nat.beq p.1 i
theorem qRk{ks:List (Nat×(World->Prop))}{i:Nat}(h:qUb ks i=true):∀p∈ks,p.1≠i:=by
 intro p hp e
 have:=jH.1 h p hp
 subst e
 simp at this
def qRh(P:Program)(ops:Array Oper)(Q:Exit->Act->World->Prop)(ks:List (Nat×(World->Prop))):Nat->Array Bool->Act->World->Prop
 |0,listed,a,w=>Region.ready .any ops listed=[]/\Q .normal a w
 |fuel+1,listed,a,w=>
  (Region.ready .any ops listed=[]->Q .normal a w)/\
  ∀i∈Region.ready .any ops listed,opW P ops Q i (fun a' w'=>TS ks (listed.setIfInBounds i true) w'/\qRh P ops Q ks fuel (listed.setIfInBounds i true) a' w') a w
theorem qPf{ρ:Option Nat}(hd:qNr ρ ops=true){ks:List (Nat×(World->Prop))}:∀(fuel:Nat) (listed:Array Bool) (a:Act) (w:World),qRh P ops Q ks fuel listed a w->wpAnyIn (fen ρ) 0 P .any ops Q fuel listed a w
 |0,_,_,_,h=>h
 |fuel+1,_,_,_,h=>⟨h.1,fun i hi=>qWq hd (fun a' w' h'=>qPf hd fuel _ a' w' h'.2) (h.2 i hi)⟩
theorem qNw{S:World->Prop}{i:Nat}{o:Oper}{v:Value}{a:Act}(hy:YieldsIf P ops S o v a)(hi:ops[i]? =some o)
  {K:Act->World->Prop} {w:World} (hS:S w) (h:K (a.put o.dst v) w):opW P ops Q i K a w:=by
 unfold opW
 simp only[hi]
 rcases hy with ⟨hw,hv⟩|⟨hw,rfl⟩
 .simp only[hw,jP,hv w hS,Oper.uponIn];exact h
 simp only[hw,jG,jY];exact h
theorem qVg{S:World->Prop}{j:Nat}{oi oj:Oper}{v:Value}(hj:ops[j]? =some oj)(hap:oi.apart ops oj=true)
  (hsi:∀cs b,oi.op≠ .select cs b) (hsj:∀cs b,oj.op≠ .select cs b)
  (hQ:∀c a w,Q (.panic c) (a.put oi.dst v) w->Q (.panic c) a w) {K:Act->World->Prop} {a:Act} {w:World}
  (hy:YieldsIf P ops S oi v a) (h:opW P ops Q j K (a.put oi.dst v) w):
  opW P ops Q j (fun a' w'=>YieldsIf P ops S oi v a'/\K (a'.put oi.dst v) w') a w:=by
 obtain⟨h1,h2,h3⟩:=Oper.apart_spec hap
 have keep:∀(a:Act),YieldsIf P ops S oi v a->∀u,YieldsIf P ops S oi v (a.put oj.dst u):=fun a hy u=>
  hy.of_same (execOp_put oi hsi a oj.dst u h3) (wanted_put oi a oj.dst u h3)
 have keepD:∀d,YieldsIf P ops S oi v {a with defers:=d::a.defers}:=fun d=>hy.of_same rfl rfl
 unfold opW at*
 simp only[hj] at*
 rw[wanted_put oj a oi.dst v h1] at h
 split
 .rename_i hw
  simp only[hw,jP] at h
  rw[execOp_put oj hsj a oi.dst v h1] at h
  generalize (execOp a.eval oj).run P w=r at*
  cases r with
  |ok x w'=>
   cases x<;>simp only[Oper.uponIn] at h ⊢
   case value u=>exact⟨keep a hy u,by rw[<-Act.put_comm a v u h2];exact h⟩
   case skip=>exact⟨keep a hy _,by rw[<-Act.put_comm a v undef h2];exact h⟩
   case defer d=>
    refine⟨keep _ (keepD d) _,?_⟩
    rw[<-Act.put_comm _ v undef h2,<-Act.put_defers]
    exact h
   case enter f args=>
    refine⟨h.1,CallsIn.mono h.2 fun e w'' he=> ?_⟩
    cases e with
    |returned u=>exact⟨keep a hy u,by rw[<-Act.put_comm a v u h2];exact he⟩
    |panicked c=>exact hQ _ _ _ he
    |outgrown=>exact he
   case row row args=>exact⟨h.1,RowsIn.mono h.2 fun u w'' he=>⟨keep a hy u,by rw[<-Act.put_comm a v u h2];exact he⟩⟩
   case round l f tmps assign body=>
    refine⟨h.1,RoundIn.mono h.2 fun e w'' he=> ?_⟩
    cases e with
    |returned u=>exact⟨keep a hy u,by rw[<-Act.put_comm a v u h2];exact he⟩
    |panicked c=>exact hQ _ _ _ he
    |outgrown=>exact he
  |halt x w'=>
   cases x<;>simp only[Oper.uponIn] at h ⊢
   case panic u=>exact hQ _ _ _ h
 rename_i hw
 simp only[hw] at h
 exact⟨keep a hy _,by rw[<-Act.put_comm a v undef h2];exact h⟩
def qOg(ops:Array Oper)(k i:Nat):Bool:=
 match ops[k]? with
 |none=>true
 |some o=>o.after.any fun e=>Region.binds .any e&&e.on==i
theorem qQa{k i:Nat}(h:qOg ops k i=true){listed:Array Bool}(hi:listed.getD i true=false):k∉Region.ready .any ops listed:=by
 intro hk
 obtain⟨_,o,ho,hall⟩:=mem_ready.1 hk
 simp only[qOg,ho] at h
 obtain⟨e,he,hb⟩:=Array.any_eq_true'.1 h
 simp only[jI,beq_iff_eq] at hb
 have h1:=hall e he hb.1
 rw[hb.2] at h1
 rcases Nat.lt_or_ge i listed.size with h'|h'
 .simp[h'] at hi h1;rw[hi] at h1;cases h1
 simp[Array.getElem?_eq_none h'] at h1
theorem qUn{ks:List (Nat×(World->Prop))}{l:Array Bool}{w:World}{i:Nat}(h:TS ks l w):TS ks (l.setIfInBounds i true) w:=by
 rw[qVh] at*
 intro p hp
 rcases h p hp with h|h
 .left
  by_cases hi:i=p.1
  .subst hi
   rcases Nat.lt_or_ge p.1 l.size with h'|h'
   .simp[h']
   simp[Array.getElem?_eq_none h'] at h
  rw[getD_set_ne false hi];exact h
 exact .inr h
theorem qWd{ks:List (Nat×(World->Prop))}{l:Array Bool}{w:World}{i j:Nat}(hk:∀p∈ks,p.1≠i)(h:TS ks ((l.setIfInBounds i true).setIfInBounds j true) w):TS ks (l.setIfInBounds j true) w:=by
 by_cases hij:i=j
 .subst hij;simpa using h
 rw[qVh] at*
 intro p hp
 rcases h p hp with h|h
 .left
  by_cases hj:j=p.1
  .subst hj
   rcases Nat.lt_or_ge p.1 l.size with h'|h'
   .simp[h']
   simp[Array.getElem?_eq_none h'] at h;omega
  rw[getD_set_ne false hj] at h ⊢
  rw[getD_set_ne false (Ne.symm (hk p hp))] at h;exact h
 exact .inr h
theorem qRl{k i:Nat}{S:World->Prop}{ks:List (Nat×(World->Prop))}(hmem:(k,S)∈ks)(hks:∀p∈ks,p.1≠i){oi:Oper}{v:Value}(hki:qOg ops k i=true)(hi:ops[i]? =some oi)(hsel:∀(j:Nat) (o:Oper) cs b,ops[j]? =some o->o.op≠ .select cs b)
  (hQ:∀c a w,Q (.panic c) (a.put oi.dst v) w->Q (.panic c) a w):
  ∀(fuel:Nat) (listed:Array Bool) (a:Act) (w:World),listed.getD k false=false->
   (∀j oj,ops[j]? =some oj->j≠i->listed.getD j true=false->(∀e∈oj.after,Region.binds .any e=true->e.on≠i)->oi.apart ops oj=true)->
   i∈Region.ready .any ops listed->YieldsIf P ops S oi v a->TS ks listed w->
   qRh P ops Q ks fuel (listed.setIfInBounds i true) (a.put oi.dst v) w->qRh P ops Q ks (fuel+1) listed a w:=by
 have hne:k≠i:=hks _ hmem
 have getS:∀{l:Array Bool} {w:World},l.getD k false=false->TS ks l w->S w:=fun h0 h=>by
  rcases qVh.1 h _ hmem with h|h
  .simp only at h;rw[h0] at h;cases h
  exact h
 intro fuel
 induction fuel with
 |zero=>
  intro listed a w hk0 _ hr hy hT H
  refine⟨fun h=>(by rw[h] at hr;cases hr),fun j hj=> ?_⟩
  by_cases hji:j=i
  .subst hji;exact qNw hy hi (getS hk0 hT) ⟨qUn hT,H⟩
  have:=ready_mono hj hji
  rw[H.1] at this
  cases this
 |succ fuel ih=>
  intro listed a w hk0 hfree hr hy hT H
  refine⟨fun h=>(by rw[h] at hr;cases hr),fun j hj=> ?_⟩
  by_cases hji:j=i
  .subst hji;exact qNw hy hi (getS hk0 hT) ⟨qUn hT,H⟩
  have hjk:j≠k:=by
   rintro rfl
   exact qQa hki (mem_ready.1 hr).1 hj
  have h1:=H.2 j (ready_mono hj hji)
  obtain⟨hjun,oj,hoj,hall⟩:=mem_ready.1 hj
  have hnot:∀e∈oj.after,Region.binds .any e=true->e.on≠i:=fun e he hb heq=>by
   have h1:=hall e he hb
   have h0:=(mem_ready.1 hr).1
   rw[heq] at h1
   rcases Nat.lt_or_ge i listed.size with h'|h'
   .simp[h'] at h0 h1;rw[h0] at h1;cases h1
   simp[Array.getElem?_eq_none h'] at h1
  have h2:=qVg hoj (hfree j oj hoj hji hjun hnot) (fun cs b=>hsel i oi cs b hi) (fun cs b=>hsel j oj cs b hoj) hQ hy h1
  have hfree':∀q ok,ops[q]? =some ok->q≠i->(listed.setIfInBounds j true).getD q true=false->
    (∀e∈ok.after,Region.binds .any e=true->e.on≠i)->oi.apart ops ok=true:=fun q ok hk hki hun hno=>by
   refine hfree q ok hk hki ?_ hno
   by_cases hjk:j=q
   .subst hjk;exact hjun
   rw[getD_set_ne true hjk] at hun;exact hun
  have hk0':(listed.setIfInBounds j true).getD k false=false:=by rw[getD_set_ne false hjk];exact hk0
  refine qOf (fun a' w' h3=> ?_) h2
  have hT':TS ks (listed.setIfInBounds j true) w':=qWd hks h3.2.1
  refine⟨hT',ih (listed.setIfInBounds j true) a' w' hk0' hfree' (ready_mono hr (Ne.symm hji)) h3.1 hT' ?_⟩
  rw[Array.setIfInBounds_comm _ _ hji]
  exact h3.2.2
def QP(Q:Exit->Act->World->Prop):Prop:=∀c a w d v,Q (.panic c) (Act.put a d v) w->Q (.panic c) a w
theorem qEn{K:Act->World->Prop}(h:QP Q):QP (Exit.then K Q):=h
theorem qIs{id:Nat}(h:QP Q):QP (Exit.inBlock id Q):=h
theorem qHh{fn:Func}{R:Ending->World->Prop}:QP (bodyPost P fn R):=by
 rintro c a w d v ⟨h1,h2⟩
 refine⟨?_,h2⟩
 cases d<;>exact h1
def marks(l:List Nat)(n:Nat):Array Bool:=l.foldl (fun a i=>a.setIfInBounds i true) (Array.replicate n false)
def WA(P:Program)(n:Fr)(ops:Array Oper)(Q:Exit->Act->World->Prop)(ks:List (Nat×(World->Prop)))(fuel:Nat)(done:List Nat)(L:Env)(w:World):Prop:=
 TS ks (marks done ops.size) w->∀a,Fits n a L->qRh P ops Q ks fuel (marks done ops.size) a w
theorem qIv(l:List Nat)(i n:Nat):marks (l++[i]) n=(marks l n).setIfInBounds i true:=by simp[marks,List.foldl_append]
theorem qWv{id:Nat}(hd:qNr ρ ops=true)(ks:List (Nat×(World->Prop)))(hm:P.follows .mixedOrders=true)(st:St m own w)(h:∀w',w'.heap=w.heap->St m own w'->TS ks (marks [] ops.size) w'/\WA P n ops Q ks ops.size [] L w'):W ρ P n (.region id ops true) Q L w:=by
 intro a ha
 have hh:=h {w with drawn:=w.drawn+1} rfl (st.grow ⟨⟨rfl,rfl⟩,rfl,dle⟩ fun _ _=>rfl)
 exact wpIn_region_any hm (qPf hd (ks:=ks) _ _ _ _ (hh.2 hh.1 a ha))
theorem qDi{id:Nat}(ks:List (Nat×(World->Prop)))(hm:P.follows .mixedOrders=true)(st:St m own w)(h:∀w',w'.heap=w.heap->St m own w'->TS ks (marks [] ops.size) w'/\WA P n ops Q ks ops.size [] L w'):W none P n (.region id ops true) Q L w:=qWv rfl ks hm st h
def qLa(ops:Array Oper)(ks:List (Nat×(World->Prop)))(k i:Nat)(done:List Nat):Bool:=
 Region.noSelect ops&&Region.free .any ops (marks done ops.size) i&&(Region.ready .any ops (marks done ops.size)).contains i&&qOg ops k i&&qUb ks i&& !((marks done ops.size).getD k false)
section
variable {ks:List (Nat×(World->Prop))}
theorem qPr{k fuel:Nat}{S:World->Prop}{done:List Nat}{i:Nat}{o:Oper}{v:Value}{L':Env}(h1:ops[i]? =some o)(hs:qLa ops ks k i done=true)(hmem:(k,S)∈ks)(hq:QP Q)
  (hy:∀a,Fits n a L->YieldsIf P ops S o v a) (hL:∀a,Fits n a L->Fits n (a.put o.dst v) L') (h:WA P n ops Q ks fuel (done++[i]) L' w):WA P n ops Q ks (fuel+1) done L w:=by
 simp only[qLa,jI,kV] at hs
 obtain⟨⟨⟨⟨⟨s1,s2⟩,s3⟩,s4⟩,s5⟩,s6⟩:=hs
 intro hT a ha
 have hT':TS ks (marks (done++[i]) ops.size) w:=by rw[qIv];exact qUn hT
 have:=h hT' (a.put o.dst v) (hL a ha)
 rw[qIv] at this
 exact qRl hmem (qRk s5) s4 h1 (Region.noSelect_spec s1) (fun c a w=>hq c a w _ _) fuel _ a w s6 (Region.free_spec h1 s2) (by simpa using s3) (hy a ha) hT this
theorem qRv{k fuel:Nat}{S:World->Prop}{done:List Nat}(i d:Nat)(op:Op)(v:Value)(ho:opAt ops L i=some (some d,op))(hd:Nat.blt d n=true)
  (hs:qLa ops ks k i done=true) (hmem:(k,S)∈ks)
  (hq:QP Q) (hrun:∀o:Oper,o.op=op->∀w,S w->(execOp (evD L) o).run P w= .ok (.value v) w)
  (h:WA P n ops Q ks fuel (done++[i]) ((d,v)::L) w):WA P n ops Q ks (fuel+1) done L w:=by
 obtain⟨o,h1,h2,h3,h4,h5⟩:=qKj ho
 exact qPr h1 hs hmem hq (v:=v) (fun a ha=> .inl ⟨ha.wanted h4,fun w' hw'=>by rw[ha.exec h5];exact hrun o h3 w' hw'⟩) (fun a ha=>by rw[h2];exact ha.put hd v) h
theorem qYj{k fuel:Nat}{S:World->Prop}{done:List Nat}(i d:Nat)(ho:((ops[i]?).bind fun o=>(qFf ops L o.guard).map fun b=>(o.dst,b))=some (some d,false))(hd:Nat.blt d n=true)
  (hs:qLa ops ks k i done=true) (hmem:(k,S)∈ks)
  (hq:QP Q) (h:WA P n ops Q ks fuel (done++[i]) ((d,undef)::L) w):WA P n ops Q ks (fuel+1) done L w:=by
 obtain⟨o,h1,h2⟩:=jB.1 ho
 obtain⟨b,h3,h4⟩:=jL.1 h2
 simp only[Prod.mk.injEq] at h4
 obtain⟨h4,rfl⟩:=h4
 exact qPr h1 hs hmem hq (v:=undef) (fun a ha=> .inr ⟨ha.wanted h3,rfl⟩) (fun a ha=>by rw[h4];exact ha.put hd undef) h
theorem qBh{fuel:Nat}{done:List Nat}(i:Nat)(hr:Region.ready .any ops (marks done ops.size)=[i])
  (h:One P n ops Q i (fun L' w'=>TS ks (marks (done++[i]) ops.size) w'/\WA P n ops Q ks fuel (done++[i]) L' w') L w):WA P n ops Q ks (fuel+1) done L w:=by
 intro _ a ha
 refine⟨fun h0=>(by rw[hr] at h0;cases h0),fun j hj=> ?_⟩
 rw[hr] at hj
 simp only[List.mem_singleton] at hj
 subst hj
 refine qOf (fun a' w' h'=> ?_) (h a ha)
 obtain⟨L',h1,h2,h3⟩:=h'
 have:=h3 h2 a' h1
 rw[qIv] at h2
 rw[qIv] at this
 exact⟨h2,this⟩
theorem qBk{fuel:Nat}{done:List Nat}(hr:Region.ready .any ops (marks done ops.size)=[])(h:X n Q .normal L w):WA P n ops Q ks fuel done L w:=by
 intro _ a ha
 cases fuel with
 |zero=>exact⟨hr,h a ha⟩
 |succ f=>exact⟨fun _=>h a ha,(by rw[hr];simp)⟩
theorem qKa{fuel:Nat}{done:List Nat}{t:Nat}{b:Bool}(e:Bool)(h1:look L t=some (.bool e))(h2:e=b)(h:WA P n ops Q ks fuel done ((t,.bool b)::L) w):WA P n ops Q ks fuel done L w:=by
 intro hT a ha
 refine h hT a (ha.sub ?_)
 intro u v hv
 simp only[look] at hv
 cases hb:Nat.beq t u with
 |true=>
  simp only[hb,cond_true] at hv
  have:=kE hb;subst this
  rw[h1,h2];exact hv
 |false=>simp only[hb,cond_false] at hv;exact hv
end
theorem Inv.anti{m':Mem}(h:Inv m' w)(hle:m.le m'):Inv m w:=⟨fun b o v hv=>h.1 b o v (hle.1 _ _ _ hv),fun b x hx=>h.2.1 b x (hle.2.1 _ _ hx),hle.2.2▸h.2.2⟩
theorem Piece.holds_anti{m':Mem}{b:Nat}{o:Obj}(h:Piece.holds m' w (.blk b o))(hle:m.le m'):Piece.holds m w (.blk b o):=by
 refine⟨h.1,fun q=> ?_,?_⟩
 .cases hc:m.cell b q with
  |none=>rfl
  |some v=>rw[<-h.2.1 q,hle.1 _ _ _ hc]
 cases hc:m.obj b with
 |none=>rfl
 |some v=>rw[<-h.2.2,hle.2.1 _ _ hc]
def qUr(P:Program)(ops:Array Oper)(L:Env)(i:Nat):Option (Nat×Value):=
 match ops[i]? with
 |none=>none
 |some o=>match qFf ops L o.guard with
  |some true=>bif opOK L o.op then(match o.dst,ev0 P (execOp (evD L) o) with
   |some d,some (.value v)=>some (d,v)
   |_,_=>none) else none
  |_=>none
theorem qXg{ks:List (Nat×(World->Prop))}{k fuel:Nat}{S:World->Prop}{done:List Nat}(i d:Nat)(v:Value)(ho:qUr P ops L i=some (d,v))(hd:Nat.blt d n=true)(hs:qLa ops ks k i done=true)(hmem:(k,S)∈ks)(hq:QP Q)
  (h:WA P n ops Q ks fuel (done++[i]) ((d,v)::L) w):WA P n ops Q ks (fuel+1) done L w:=by
 unfold qUr at ho
 cases h1:ops[i]? with
 |none=>simp[h1] at ho
 |some o=>
  simp only[h1] at ho
  cases hw:qFf ops L o.guard with
  |none=>simp[hw] at ho
  |some b=>
   cases b with
   |false=>simp[hw] at ho
   |true=>
    simp only[hw] at ho
    cases hk:opOK L o.op with
    |false=>simp[hk] at ho
    |true=>
     simp only[hk,cond_true] at ho
     split at ho
     .rename_i d' v' hd' he
      simp only[j9,Prod.mk.injEq] at ho
      obtain⟨rfl,rfl⟩:=ho
      exact qPr h1 hs hmem hq (v:=v') (fun a ha=> .inl ⟨ha.wanted hw,fun w' _=>by rw[ha.exec hk];exact qLh he w'⟩) (fun a ha=>by rw[hd'];exact ha.put hd v') h
     cases ho
theorem qRq{ks:List (Nat×(World->Prop))}{k fuel:Nat}{S:World->Prop}{done:List Nat}{t:TypeId}{x:Operand}{b o:Nat}{cs:List Value}(i d:Nat)(v:Value)(ho:opAt ops L i=some (some d,.load t x))(hd:Nat.blt d n=true)
  (hs:qLa ops ks k i done=true) (hmem:(k,S)∈ks) (hq:QP Q) (hI:∀w,S w->Inv m w) (hx:evL L x=some (.pointer (some ⟨b,o,none⟩))) (hr:MRow m b o cs) (hv:qMp P t cs=some v)
  (h:WA P n ops Q ks fuel (done++[i]) ((d,v)::L) w):WA P n ops Q ks (fuel+1) done L w:=by
 refine qRv i d _ v ho hd hs hmem hq (fun q hq w' hw'=> ?_) h
 have hl:=qLl (P:=P) (w:=w') (t:=t) (b:=b) (o:=o) (cs:=cs) (v:=v) (fun j u hu=>(hI w' hw').cell (hr j u hu)) hv
 simp[execOp,hq,Instr.loadAt,qBi hx,Instr.sureAddr,hl]
theorem qRz{ks:List (Nat×(World->Prop))}{k fuel:Nat}{S:World->Prop}{done:List Nat}{t e:TypeId}{x:Operand}{b o:Nat}{c:Array Value}{f:Nat×Nat}(i d:Nat)(v:Value)(ho:opAt ops L i=some (some d,.load t x))(hd:Nat.blt d n=true)
  (hs:qLa ops ks k i done=true) (hmem:(k,S)∈ks) (hq:QP Q) (hI:∀w,S w->Piece.holds m w (.blk b (.cells c e f))) (hx:evL L x=some (.pointer (some ⟨b,o,none⟩))) (hv:qMp P t (c.toList.drop o)=some v)
  (h:WA P n ops Q ks fuel (done++[i]) ((d,v)::L) w):WA P n ops Q ks (fuel+1) done L w:=by
 refine qRv i d _ v ho hd hs hmem hq (fun q hq w' hw'=> ?_) h
 have hb:=(hI w' hw').1
 have hl:=qLl (P:=P) (w:=w') (t:=t) (b:=b) (o:=o) (cs:=c.toList.drop o) (v:=v) (fun j u hu=>by
  rw[List.getElem?_drop] at hu
  simp only[World.cell?,hb]
  simpa using hu) hv
 simp[execOp,hq,Instr.loadAt,qBi hx,Instr.sureAddr,hl]
theorem qGq{α:Type}{ks:List (Nat×(World->Prop))}{k fuel:Nat}{S:World->Prop}{done:List Nat}{t e:TypeId}{x y:Operand}(i d:Nat)(c:Codec α){a:Option Addr}{cap:Nat}{l:List α}{kd:IntKind}{ix:Int}{z:α}(ho:opAt ops L i=some (some d,.indexAddr t x y))(hd:Nat.blt d n=true)
  (hs:qLa ops ks k i done=true) (hmem:(k,S)∈ks) (hq:QP Q)
  (hx:evL L x=some (.slice a l.length cap)) (hy:evL L y=some (.int kd ix)) (hi:qJp P t=some (e,c.sz)) (hr:RepS c m a cap l) (hz:idx l ix=some z)
  (h:∀b o cs,c.rep m z cs->MRow m b o cs->WA P n ops Q ks fuel (done++[i]) ((d,.pointer (some ⟨b,o,none⟩))::L) w):WA P n ops Q ks (fuel+1) done L w:=by
 obtain⟨h1,inf,h2,h3⟩:=qIu hi
 unfold idx at hz
 split at hz
 .rename_i h0
  have hlt:ix.toNat<l.length:=(List.getElem?_eq_some_iff.1 hz).1
  cases a with
  |none=>obtain⟨rfl,_⟩:=hr.none_nil;simp at hlt
  |some p=>
   obtain⟨cs,hc,hm⟩:=hr.2.2.2 _ _ hz
   refine qRv i d _ _ ho hd hs hmem hq (fun q hq w' _=> ?_) (h p.block (p.off+ix.toNat*c.sz) cs hc hm)
   have hlt':ix<(l.length:Int):=by omega
   simp[execOp,hq,Instr.indexAt,qBi hx,qBi hy,asIntOf,run_underlying h1,h0,hlt',sizeOf,typeInfo,h2,h3,qMr (hr.spot (fun e=>by rw[e] at hlt;simp at hlt))]
 cases hz
end
end Go.Dc
namespace Go.Dc
end Go.Dc
namespace Go.Dc
section
variable {ρ:Option Nat} {P:Program} {n:Fr} {ops:Array Oper} {Q:Exit->Act->World->Prop} {i d:Nat} {L:Env} {w:World} {m:Mem} {own:List Piece} {N:Env->World->Prop}
def qSe(P:Program)(t:TypeId):Option TypeId:=
 match P.underlying t with
 |some (.slice e)=>match P.underlying e with
  |some (.int .u8)=>some e
  |_=>none
 |_=>none
theorem qQw{t e:TypeId}(h:qSe P t=some e):P.underlying t=some (.slice e)/\P.underlying e=some (.int .u8):=by
 unfold qSe at h
 split at h
 .rename_i e' he
  split at h
  .rename_i he';simp only[j9] at h;subst h;exact⟨he,he'⟩
  cases h
 cases h
def qNo(s:ByteArray):Option (List UInt8):=if s.size<=maxLen then some s.data.toList else none
theorem qNx{t1 t2 e:TypeId}{x:Operand}{s:ByteArray}{l:List UInt8}(ho:opAt ops L i=some (some d,.convert t1 t2 x))(hd:Nat.blt d n=true)(hx:evL L x=some (.string s))
  (h1:qSe P t2=some e) (h2:P.underlying t1=some .string) (st:St m own w) (hs:qNo s=some l)
  (h:∀b cap m' w',m.le m'->St m' own w'->RepS cU8 m' (some ⟨b,0,none⟩) cap l->N ((d,.slice (some ⟨b,0,none⟩) l.length cap)::L) w'):One P n ops Q i N L w:=by
 obtain⟨g1,g2⟩:=qQw h1
 unfold qNo at hs
 split at hs
 .rename_i hmx
  simp only[j9] at hs;subst hs
  generalize hgc:grownCap w s.size 0 e=gc
  have hge:s.size<=gc:=hgc▸grownCap_ge _ _ _ _
  have hgm:gc<=maxLen:=hgc▸grownCap_le_maxLen _ _ _ _ hmx
  generalize hcur:(s.data.map fun b=>Value.int .u8 (b.toNat:Int))++Array.replicate (gc-s.size) (.int .u8 0)=cur
  have hrun:(convert t1 t2 (.string s)).run P w= .ok (.slice (some ⟨w.heap.size,0,none⟩) s.size gc) (w.drew.alloc (.cells cur e (cur.size,cur.size+1))):=by
   have hforced:(Question.appendCap s.size 0 e).forced=false:=rfl
   have hcut:(Question.appendCap s.size 0 e).cut (w.tape w.drawn (Question.appendCap s.size 0 e))=gc:=hgc
   have hal:(w.drew.alloc (.cells cur e)).heap[w.heap.size]? =some (.cells cur e):=by
    show(w.heap.push (.cells cur e))[w.heap.size]? =_
    simp
   have hsh:(w.drew.alloc (.cells cur e)).shape? w.heap.size=some (e,cur.size):=by
    unfold World.shape?
    rw[hal]
   have hfr:∀k:Nat,(w.drew.alloc (.cells cur e)).freeze ⟨w.heap.size,k,none⟩ 1=w.drew.alloc (.cells cur e (k,k+1)):=fun k=>by
    unfold World.freeze World.alloc World.drew
    simp only[Nat.one_ne_zero,jY]
    congr 1
    apply Array.ext
    .simp
    intro j h1 h2
    simp only[Array.getElem_modify]
    by_cases hj:w.heap.size=j
    .subst hj;simp
    have:j<w.heap.size:=by simp at h1;omega
    simp[hj,Array.getElem_push_lt this]
   have hmk:(markStringish ⟨w.heap.size,0,none⟩).run P (w.drew.alloc (.cells cur e))= .ok () (w.drew.alloc (.cells cur e (cur.size,cur.size+1))):=by
    simp[markStringish,hsh,hfr]
   have hnr:(newRow e cur).run P w.drew= .ok ⟨w.heap.size,0,none⟩ (w.drew.alloc (.cells cur e)):=rfl
   have hst:(Conv.stringToBytes e s).run P w= .ok (.slice (some ⟨w.heap.size,0,none⟩) s.size gc) (w.drew.alloc (.cells cur e (cur.size,cur.size+1))):=by
    unfold Conv.stringToBytes
    simp only[Sem.run_bind,run_choose,hforced,jG,jY,Result.andThen_ok,hcut,hcur]
    show((newRow e cur).run P w.drew).andThen _=_
    rw[hnr]
    simp only[Result.andThen_ok,hmk,Sem.run_pure]
   simp[convert,run_underlying h2,run_underlying g1,run_underlying g2,hst]
  have hal:=st.alloc (w':=w.drew.alloc (.cells cur e (cur.size,cur.size+1))) (o:= .cells cur e (cur.size,cur.size+1)) ⟨⟨rfl,rfl⟩,rfl,dle⟩ rfl
  have hfresh:=st.fresh_free
  have htk:cur.toList.take (s.data.toList.map fun b=>Value.int .u8 (b.toNat:Int)).length=s.data.toList.map fun b=>Value.int .u8 (b.toNat:Int):=by
   rw[<-hcur,Array.toList_append,Array.toList_map,List.take_left]
  obtain⟨m',k1,k2,k3,_⟩:=St.know (b:=w.heap.size) (cs:=s.data.toList.map fun b=>Value.int .u8 (b.toNat:Int)) hal.tail (hal.head_ne rfl) hal.head.1 htk (fun o v hv=>by rw[hfresh.1 o] at hv;cases hv)
  have hrep:RepS cU8 m' (some ⟨w.heap.size,0,none⟩) gc s.data.toList:=RepS.of_cells (by simpa using hge) hgm (fun j x hx=>by
   have hlt:=(List.getElem?_eq_some_iff.1 hx).1
   have he:=(List.getElem?_eq_some_iff.1 hx).2
   show List.take 1 (List.drop (j*1) _)=_
   rw[Nat.mul_one,<-List.map_drop,<-List.map_take,List.drop_eq_getElem_cons hlt,he]
   rfl) k3
  have hlen:s.data.toList.length=s.size:=by simp
  refine qFc ho hd (fun q hq=> ?_) (h w.heap.size gc m' _ k1 k2 hrep)
  simp only[execOp,hq,qBi hx,Sem.run_bind,hrun,Result.andThen_ok,Sem.run_pure,hlen]
 cases hs
end
end Go.Dc
namespace Go.Dc
section
variable {ρ:Option Nat} {P:Program} {n:Fr} {ops:Array Oper} {Q:Exit->Act->World->Prop} {i d:Nat} {L:Env} {w:World} {m:Mem} {own:List Piece} {N:Env->World->Prop}
theorem qMx{f:FuncId}{args:Array Value}{R:Ending->World->Prop}(I:Value->World->Prop)(hend:∀v w',I v w'->R (.returned v) w')(h:Calls P f args w fun e w'=>∃v,e= .returned v/\I v w'):Calls P f args w R:=
 h.mono fun e w' ⟨v,he,hi⟩=>he▸hend v w' hi
theorem qKh{k:Nat}{fn:Func}{R:Ending->World->Prop}(rvs:List ResultVar)(vs:List Value)(hf:fn.results=rvs.toArray)(hr:ResAll P w L rvs vs)(h:R (.returned (qKv vs)) w):X ⟨k,[]⟩ (bodyPost P fn R) .normal L w:=qFu (P:=P) (fn:=fn) (R:=R) rvs vs hf hr h
end
end Go.Dc
end
namespace Go.Dc
section
def qUk(P:Program)(fn:Func)(R:Ending->World->Prop):Exit->Act->World->Prop
 | .normal,a,w=>LeavesInM Fence.wide 0 P fn a.tmps R a.defers .returning w
 | .ret,a,w=>LeavesInM Fence.wide 0 P fn a.tmps R a.defers .returning w
 |_,_,_=>False
section
variable {ρ:Option Nat} {P:Program} {n:Fr} {ops:Array Oper} {Q:Exit->Act->World->Prop} {i d:Nat} {L:Env} {w:World} {m:Mem} {own:List Piece} {N:Env->World->Prop}
theorem qWi{f:FuncId}{fn:Func}{c:Code}{args:Array Value}{R:Ending->World->Prop}(hf:P.funcs[f]? =some fn)(hb:fn.body=some c){k:Nat}(hn:fn.ntmps=k)(L:Env)
  (hL:L.map (fun p=>(args[p.1]?))=L.map fun p=>some p.2) (hsz:Nat.ble args.size k=true) (h:W none P ⟨k,[]⟩ c (qUk P fn R) L w):Calls P f args w R:=by
 refine callsIn_wide.1 (callsIn_of_wp_marks (F:=Fence.wide) (n:=0) hf hb trivial (wpIn_mono (h _ ⟨?_,rfl,?_⟩) ?_) rfl)
 .subst hn
  have:args.size<=fn.ntmps:=jK hsz
  simp only[kJ,kL];omega
 .intro t v hv
  have:=(jU.1 hL) (t,v) (qIt hv)
  have ht:t<args.size:=(Array.getElem?_eq_some_iff.1 this).1
  simp only[Array.getElem?_append,ht,jP]
  exact this
 intro e a w h
 cases e<;>first|exact h|exact h.elim
theorem qPo{k D:Nat}{M:List Deferred}{fn:Func}{R:Ending->World->Prop}(st:St m (.blk D (.deferred (some []))::own) w)(h:∀w',St m own w'->X ⟨k,M⟩ (qUk P fn R) .ret L w'):X ⟨k,qQm D::M⟩ (qUk P fn R) .ret L w:=by
 intro a ha
 obtain⟨h1,h2,h3⟩:=ha
 have hD:w.heap[D]? =some (.deferred (some [])):=st.head.1
 have hlt:=qIl hD
 have st':St m (.blk D (.deferred none)::own) (w.putObj D (.deferred none)):=
  St.set (o:= .deferred (some [])) (o':= .deferred none) st ⟨⟨rfl,rfl⟩,rfl,dle⟩ (by simp[World.putObj,hlt]) (fun k _ hk=>by simp[World.putObj,Array.getElem?_setIfInBounds,Ne.symm hk])
 have st':=st'.tail
 have:=h _ st' {a with defers:=M} ⟨h1,rfl,h3⟩
 show LeavesInM Fence.wide 0 P fn a.tmps R a.defers .returning w
 rw[h2]
 exact⟨by simp,.inl ⟨D,_,rfl,run_takeDeferred hD,this⟩⟩
theorem qPh{k:Nat}{fn:Func}{R:Ending->World->Prop}(rvs:List ResultVar)(vs:List Value)(hf:fn.results=rvs.toArray)(hr:ResAll P w L rvs vs)(h:R (.returned (qKv vs)) w):X ⟨k,[]⟩ (qUk P fn R) .ret L w:=by
 intro a ha
 obtain⟨h1,h2⟩:=qFu (P:=P) (fn:=fn) (R:=R) rvs vs hf hr h a ha
 show LeavesInM Fence.wide 0 P fn a.tmps R a.defers .returning w
 rw[h1]
 exact h2
structure LoopQ where
 fn:Nat
 tmps:Array Value
 ps:Array Tmp
 assign:Code
 body:Code
 D:Nat
def qQx:List Code->Nat->Option Code
 |_,0=>none
 |js,k+1=>js[k]?
def lrec(q:LoopQ)(s:LoopState)(pe:Option Code):Loop:={state:=s,pending:=pe,fn:=q.fn,tmps:=q.tmps,params:=q.ps,assign:=q.assign,body:=q.body,defers:=q.D}
def qKi(l:Nat)(q:LoopQ)(js:List Code)(j:Nat):Piece:= .blk l (.loop (lrec q (if j=0 then .ready else .done) (qQx js j)))
def qQo(l:Nat)(q:LoopQ):Piece:= .blk l (.loop (lrec q .busy none))
def qRf(D:Nat):Piece:= .blk D (.deferred (some []))
def FitsT(sz:Nat)(T:Array Value)(L:Env):Prop:=T.size=sz/\∀t v,look L t=some v->T[t]? =some v
theorem St.setLoop{l:Nat}{r:Loop}(r':Loop)(st:St m (.blk l (.loop r)::own) w):St m (.blk l (.loop r')::own) (w.putObj l (.loop r')):=by
 have hlt:=qIl st.head.1
 exact St.set (o:= .loop r) (o':= .loop r') st ⟨⟨rfl,rfl⟩,rfl,dle⟩ (by simp[World.putObj,hlt]) (fun k _ hk=>by simp[World.putObj,Array.getElem?_setIfInBounds,Ne.symm hk])
theorem qKl {f : FuncId} {fn : Func} (hf : P.funcs[f]? = some fn) (h : (fn.name == "runtime.NumGoroutine", fn.body.isNone) = (false, false)) (args : Array Value) (w : World) : (callFunc f args).run P w = .ok (.enter f args) w := by
 simp only[Prod.mk.injEq] at h
 have h1 : ¬ fn.name = "runtime.NumGoroutine" := by simpa using h.1
 have h2:¬fn.body=none:=fun e=>by rw[e] at h;simp at h
 simp[callFunc,hf,h1,h2]
def qWs(l:Nat)(P:Program)(n:Fr)(Q:Exit->Act->World->Prop)(L:Env)(w:World):Prop:=
 ∃j w',(Instr.endLoop l).run P w= .ok j w'/\match j with
  |none=>X n Q .normal L w'
  |some c=>W none P n c Q L w'
theorem qTg{l:Nat}{q:LoopQ}{js:List Code}(j:Nat)(st:St m (qKi l q js j::own) w)(hj:qQx js j=none)(h:∀w',St m own w'->X n Q .normal L w'):qWs l P n Q L w:=by
 have hl:=st.head.1
 have hb:(lrec q (if j=0 then LoopState.ready else LoopState.done) (qQx js j)).state≠LoopState.busy:=by simp only[lrec];split<;>simp
 exact⟨qQx js j,_,run_endLoop (P:=P) hl hb,by rw[hj];exact h _ (St.setLoop _ st).tail⟩
theorem qTq{l:Nat}{q:LoopQ}{js:List Code}(j:Nat){c:Code}(st:St m (qKi l q js j::own) w)(hj:qQx js j=some c)(h:∀w',St m own w'->W none P n c Q L w'):qWs l P n Q L w:=by
 have hl:=st.head.1
 have hb:(lrec q (if j=0 then LoopState.ready else LoopState.done) (qQx js j)).state≠LoopState.busy:=by simp only[lrec];split<;>simp
 exact⟨qQx js j,_,run_endLoop (P:=P) hl hb,by rw[hj];exact h _ (St.setLoop _ st).tail⟩
theorem qSc{g:Operand}{ps:Array Tmp}{assign body:Code}{f:Nat}{cap:Array Value}(js:List Code)(hg:evL L g=some (.func (.func f) #[] cap))(eg:∀args w,(callFunc f args).run P w= .ok (.enter f args) w)(st:St m own w)
  (h:∀(q:LoopQ) (l:Nat) (w':World),q.ps=ps->q.assign=assign->q.body=body->FitsT n.sz q.tmps L->St m (qKi l q js 0::qRf q.D::own) w'->
   Calls P f (#[.func (.yield l) #[] #[]]++cap) w' fun e w''=>∃v,e= .returned v/\qWs l P ⟨n.sz,qQm q.D::n.marks⟩ Q L w''):
  W none P n (.rangeFunc g ps assign body) Q L w:=by
 intro a ha
 have hev:=ha.ev hg
 refine wpIn_rangeFunc fun fn _=> ?_
 obtain⟨q,hq⟩:∃q:LoopQ,q={fn,tmps:=a.tmps,ps,assign,body,D:=w.heap.size}:=⟨_,rfl⟩
 have s1:=st.alloc (w':=w.alloc (.deferred (some []))) (o:= .deferred (some [])) ⟨⟨rfl,rfl⟩,rfl,dle⟩ rfl
 have s2:=s1.alloc (w':=(w.alloc (.deferred (some []))).alloc (.loop (lrec q .ready none))) (o:= .loop (lrec q .ready none)) ⟨⟨rfl,rfl⟩,rfl,dle⟩ rfl
 have hsz:(w.alloc (.deferred (some []))).heap.size=w.heap.size+1:=World.size_alloc _ _
 rw[hsz] at s2
 have hD:q.D=w.heap.size:=by rw[hq]
 have hc:=h q (w.heap.size+1) _ (by rw[hq]) (by rw[hq]) (by rw[hq]) (by rw[hq];exact⟨ha.1,ha.2.2⟩) (by rw[qRf,hD];exact s2)
 obtain⟨W1,hW1⟩:∃W1,(w.alloc (.deferred (some []))).alloc (.loop (lrec q .ready none))=W1:=⟨_,rfl⟩
 rw[hW1] at hc
 refine⟨w.heap.size+1,[qQm w.heap.size],W1,{target:= .fn (.func f) cap,args:= #[.func (.yield (w.heap.size+1)) #[] #[]]},W1,f,#[.func (.yield (w.heap.size+1)) #[] #[]]++cap,W1,?_,?_,fun _ _=>trivial,?_,fun e=>by simp[fen,Fence.wide] at e,?_⟩
 .rw[<-hW1,hq];exact run_enterLoop_outer _ _ _ _ _
 .simp only[resolve,hev]
  simp[go_sem]
 .simp[invoke,go_sem,eg]
 have hc':CallsIn (fen none) 0 P f (#[.func (.yield (w.heap.size+1)) #[] #[]]++cap) W1 _:=callsIn_wide.2 hc
 refine CallsIn.mono hc' ?_
 rintro e w'' ⟨v,rfl,j,w4,h1,h2⟩
 refine⟨j,w4,h1,?_⟩
 have fits:Fits ⟨n.sz,qQm q.D::n.marks⟩ {a with defers:=[qQm w.heap.size]++a.defers} L:=⟨ha.1,by simp[ha.2.1,hD],ha.2.2⟩
 cases j with
 |none=>exact h2 _ fits
 |some c=>exact h2 _ fits
def qVb(P:Program)(l:Nat)(body:Code)(R:Ending->World->Prop):Exit->Act->World->Prop:=
 Exit.then (fun a₁ w₁=>∃w₂,(Instr.beginRound l).run P w₁= .ok () w₂/\body.wpIn (fen (some l)) 0 P (roundPost P l R) a₁ w₂) (fun _ _ _=>False)
theorem qUc{l:Nat}{q:LoopQ}{js:List Code}{body:Code}{R:Ending->World->Prop}(st:St m (qKi l q js 0::own) w)(h:∀w',St m (qQo l q::own) w'->W (some l) P n body (roundPost P l R) L w'):X n (qVb P l body R) .normal L w:=by
 intro a ha
 exact⟨_,run_beginRound (P:=P) st.head.1 rfl,h _ (St.setLoop _ st) a ha⟩
theorem qQe{l:Nat}{q:LoopQ}(js:List Code)(st:St m (qQo l q::own) w):∃w',(Instr.endRound l none).run P w= .ok (.bool true) w'/\St m (qKi l q js 0::own) w':=
 ⟨_,run_endRound (P:=P) none st.head.1,St.setLoop (lrec q .ready none) st⟩
theorem qQj{l:Nat}{q:LoopQ}{js:List Code}(k:Nat){c:Code}(hc:js[k]? =some c)(st:St m (qQo l q::own) w):∃w',(Instr.endRound l (some c)).run P w= .ok (.bool false) w'/\St m (qKi l q js (k+1)::own) w':=
 ⟨_,run_endRound (P:=P) (some c) st.head.1,by have:=St.setLoop (lrec q .done (some c)) st;simp only[qKi,qQx,hc];exact this⟩
theorem qSo{l:Nat}{q:LoopQ}(js:List Code){R:Ending->World->Prop}(st:St m (qQo l q::own) w)(h:∀w',St m (qKi l q js 0::own) w'->R (.returned (.bool true)) w'):X n (roundPost P l R) .normal L w:=by
 obtain⟨w',h1,h2⟩:=qQe (P:=P) js st
 exact fun _ _=>⟨_,w',h1,h w' h2⟩
theorem qTd{l id:Nat}{q:LoopQ}(js:List Code)(k:Nat){R:Ending->World->Prop}(hc:js[k]? =some (.exit id))(st:St m (qQo l q::own) w)(h:∀w',St m (qKi l q js (k+1)::own) w'->R (.returned (.bool false)) w'):X n (roundPost P l R) (.exit id) L w:=by
 obtain⟨w',h1,h2⟩:=qQj (P:=P) k hc st
 exact fun _ _=>⟨_,w',h1,h w' h2⟩
def zipL:List Nat->List Value->Env->Env
 |p::ps,v::vs,L=>zipL ps vs ((p,v)::L)
 |_,_,L=>L
theorem FitsT.set{sz:Nat}{T:Array Value}{L:Env}(h:FitsT sz T L){p:Nat}(hp:p<sz)(v:Value):FitsT sz (T.setIfInBounds p v) ((p,v)::L):=by
 obtain⟨h1,h2⟩:=h
 refine⟨by simp[h1],fun t u hu=> ?_⟩
 simp only[look] at hu
 by_cases hpt:p=t
 .subst hpt
  simp at hu;subst hu
  simp[Array.getElem?_setIfInBounds,h1,hp]
 have:Nat.beq p t=false:=by cases hb:Nat.beq p t<;>simp_all [Nat.beq_eq]
 rw[this] at hu
 simp[Array.getElem?_setIfInBounds,hpt,h2 t u hu]
theorem FitsT.zip{sz:Nat}:∀(ps:List Nat) (vs:List Value) {T:Array Value} {L:Env},FitsT sz T L->(ps.all fun p=>Nat.blt p sz)=true->
  FitsT sz ((ps.zip vs).foldl (fun t (p,v)=>t.setIfInBounds p v) T) (zipL ps vs L)
 |[],_,_,_,h,_=>by simpa[zipL] using h
 |_::_,[],_,_,h,_=>by simpa[zipL] using h
 |p::ps,v::vs,T,L,h,hp=>by
  simp only[List.all_cons,jI] at hp
  simp only[List.zip_cons_cons,List.foldl_cons,zipL]
  exact FitsT.zip ps vs (h.set (by simpa[Nat.blt_eq] using hp.1) v) hp.2
theorem qRg{l sz:Nat}{x:Operand}{xs:Array Operand}{ts:Array TypeId}{q:LoopQ}{js:List Code}{L0:Env}{ps:Array Nat}{assign body:Code}(vs:List Value)(ho:opAt ops L i=some (some d,.call {callee:= .value x,args:=xs,argTypes:=ts}))(hd:Nat.blt d n=true)
  (hx:evL L x=some (.func (.yield l) #[] #[])) (hv:xs.map (evD L)=vs.toArray) (hT:FitsT sz q.tmps L0) (hp:q.ps=ps) (hA:q.assign=assign) (hB:q.body=body) (hz:vs.length=ps.size) (hps:(ps.toList.all fun p=>Nat.blt p sz)=true) (st:St m (qKi l q js 0::own) w)
  (h:∀R:Ending->World->Prop,(∀b w',N ((d,.bool b)::L) w'->R (.returned (.bool b)) w')->W (some l) P ⟨sz,[]⟩ assign (qVb P l body R) (zipL ps.toList vs L0) w):One P n ops Q i N L w:=by
 subst hp hA hB
 obtain⟨o,h1,h2,h3,h4,h5⟩:=qKj ho
 intro a ha
 unfold opW
 simp only[h1,ha.wanted h4,jP]
 have hy:=run_yield (P:=P) (args:=vs.toArray) st.head.1 (by simp only[lrec];simp[hz])
 have hrun:(execOp (evD L) o).run P w=(Instr.yield l vs.toArray).run P w:=by
  simp[execOp,h3,resolve,qBi hx,hv,invoke,go_sem]
 rw[ha.exec h5,hrun,hy,Oper.uponIn_round]
 refine⟨fun e=>by simp[Fence.wide] at e,roundIn_of_wpIn trivial ?_⟩
 have hz:=FitsT.zip q.ps.toList vs hT hps
 have hfold:(q.ps.zip vs.toArray).foldl (fun tmps (t,a)=>tmps.setIfInBounds t a) q.tmps=(q.ps.toList.zip vs).foldl (fun t (p,v)=>t.setIfInBounds p v) q.tmps:=by
  rw[<-Array.foldl_toList,Array.toList_zip]
 refine h _ ?_ {tmps:=_,defers:=[]} ⟨?_,rfl,?_⟩
 .intro b w' hN
  rw[h2]
  exact⟨_,ha.put hd _,hN⟩
 .show((q.ps.zip vs.toArray).foldl (fun tmps (t,a)=>tmps.setIfInBounds t a) q.tmps).size=_
  rw[hfold];exact hz.1
 intro t v hv
 show((q.ps.zip vs.toArray).foldl (fun tmps (t,a)=>tmps.setIfInBounds t a) q.tmps)[t]? =_
 rw[hfold];exact hz.2 t v hv
end
end
end Go.Dc
section
namespace Go.Dc
def mget{κ ν:Type}[DecidableEq κ]:List (κ×ν)->κ->Option ν
 |[],_=>none
 |p::l,k=>if k=p.1 then some p.2 else mget l k
def qMa{κ ν:Type}[DecidableEq κ]:List (κ×ν)->κ->ν->List (κ×ν)
 |[],k,v=>[(k,v)]
 |p::l,k,v=>if k=p.1 then(k,v)::l else p::qMa l k v
class KOrd(κ:Type) where
 lt:κ->κ->Bool
instance:KOrd Int:=⟨fun a b=>decide (a<b)⟩
instance:KOrd ByteArray:=⟨fun a b=>decide (a.data.toList<b.data.toList)⟩
instance{α β:Type}[DecidableEq α][KOrd α][KOrd β]:KOrd (α×β):=⟨fun a b=>KOrd.lt a.1 b.1||(decide (a.1=b.1)&&KOrd.lt a.2 b.2)⟩
def mins{κ ν:Type}[KOrd κ]:List (κ×ν)->κ->ν->List (κ×ν)
 |[],k,v=>[(k,v)]
 |p::l,k,v=>if KOrd.lt k p.1=true then(k,v)::p::l else p::mins l k v
def mset{κ ν:Type}[DecidableEq κ][KOrd κ](l:List (κ×ν))(k:κ)(v:ν):List (κ×ν):=
 if(mget l k).isSome=true then l.map fun p=>if k=p.1 then(k,v) else p else mins l k v
theorem qOo{κ ν:Type}[DecidableEq κ]{l:List (κ×ν)}{k:κ}:mget l k=none↔k∉l.map (·.1):=by
 induction l with
 |nil=>simp[mget]
 |cons p l ih=>
  simp only[mget,jF,jD,not_or]
  split
  .rename_i h;simp[h]
  rename_i h;rw[ih];exact⟨fun g=>⟨h,g⟩,fun g=>g.2⟩
theorem qPs{κ ν:Type}[DecidableEq κ]{l:List (κ×ν)}{k:κ}{v:ν}(hn:(l.map (·.1)).Nodup):mget l k=some v↔(k,v)∈l:=by
 induction l with
 |nil=>simp[mget]
 |cons p l ih=>
  simp only[jF,jZ] at hn
  simp only[mget,jD]
  split
  .rename_i h
   subst h
   constructor
   .intro e;left;simp at e;rw[<-e]
   rintro(e|e)
   .rw[<-e]
   exact absurd (k8 (f:=(·.1)) e) hn.1
  rename_i h
  rw[ih hn.2]
  constructor
  .intro e;exact .inr e
  rintro(e|e)
  .exact absurd (congrArg Prod.fst e) h
  exact e
theorem qRj{κ ν:Type}[DecidableEq κ]{l l':List (κ×ν)}(hp:l'.Perm l)(hn:(l'.map (·.1)).Nodup)(k:κ):mget l' k=mget l k:=by
 have hn':(l.map (·.1)).Nodup:=(hp.map _).nodup_iff.1 hn
 cases h:mget l k with
 |none=>rw[qOo] at h ⊢;exact fun g=>h ((hp.map _).mem_iff.1 g)
 |some v=>rw[qPs hn'] at h;rw[qPs hn];exact hp.mem_iff.2 h
theorem qRc{κ ν:Type}[DecidableEq κ]{l:List (κ×ν)}{k:κ}{v:ν}(h:mget l k=none):qMa l k v=l++[(k,v)]:=by
 induction l with
 |nil=>rfl
 |cons p l ih=>
  simp only[mget] at h
  split at h
  .cases h
  rename_i hk;simp[qMa,hk,ih h]
theorem qQu{κ ν:Type}[DecidableEq κ]{l:List (κ×ν)}{k:κ}{v:ν}(hn:(l.map (·.1)).Nodup)(h:mget l k≠none):qMa l k v=l.map fun p=>if k=p.1 then(k,v) else p:=by
 induction l with
 |nil=>exact absurd rfl h
 |cons p l ih=>
  simp only[jF,jZ] at hn
  simp only[qMa,jF]
  by_cases hk:k=p.1
  .simp only[hk,jP]
   congr 1
   rw[<-hk]
   refine(List.map_congr_left fun q hq=> ?_).trans (List.map_id _)|>.symm
   have:k≠q.1:=fun e=>hn.1 (by rw[<-hk,e];exact k8 (f:=(·.1)) hq)
   simp[this]
  simp only[hk,jY]
  rw[ih hn.2 (by simpa[mget,hk] using h)]
theorem qRd{κ ν:Type}[KOrd κ](l:List (κ×ν))(k:κ)(v:ν):(mins l k v).Perm ((k,v)::l):=by
 induction l with
 |nil=>exact .refl _
 |cons p l ih=>
  simp only[mins]
  split
  .exact .refl _
  exact(List.Perm.cons p ih).trans (.swap _ _ _)
theorem qMt{κ ν:Type}[DecidableEq κ][KOrd κ]{l l':List (κ×ν)}(hp:l'.Perm l)(hn:(l'.map (·.1)).Nodup)(k:κ)(v:ν):(qMa l' k v).Perm (mset l k v):=by
 have hg:=qRj hp hn k
 unfold mset
 cases h:mget l k with
 |none=>
  rw[qRc (by rw[hg,h])]
  simp only[Option.isSome_none,jG,jY]
  exact(List.perm_append_comm.trans (List.Perm.cons _ hp)).trans (qRd l k v).symm
 |some u=>
  rw[qQu hn (by rw[hg,h];simp)]
  simp only[Option.isSome_some,jP]
  exact hp.map _
theorem qKr{κ ν:Type}[DecidableEq κ]{l:List (κ×ν)}(hn:(l.map (·.1)).Nodup)(k:κ)(v:ν):((qMa l k v).map (·.1)).Nodup:=by
 cases h:mget l k with
 |none=>
  rw[qRc h,List.map_append,List.nodup_append]
  refine⟨hn,by simp,?_⟩
  intro a ha b hb e
  simp at hb;subst hb e
  exact qOo.1 h ha
 |some u=>
  rw[qQu hn (by rw[h];simp)]
  have:(l.map fun p=>if k=p.1 then(k,v) else p).map (·.1)=l.map (·.1):=by
   rw[List.map_map]
   refine List.map_congr_left fun q _=> ?_
   simp only[Function.comp]
   split
   .rename_i e;exact e
   rfl
  rw[this];exact hn
def mkV(agg:Bool)(cs:List Value):Value:=bif agg then .agg cs.toArray else cs.headD undef
def MapL{κ ν:Type}(ek:κ->Value)(c:Codec ν)(agg:Bool)(m:Mem):List MapEntry->List (κ×ν)->Prop
 |[],l=>l=[]
 |e::es,l=>∃k v l',l=(k,v)::l'/\e.key=ek k/\(∃cs,c.rep m v cs/\e.val=mkV agg cs)/\MapL ek c agg m es l'
def Born(es:List MapEntry)(ck:Nat):Prop:=(∀e∈es,e.born<ck)/\(es.map (·.born)).Nodup
def MapQ{κ ν:Type}(ek:κ->Value)(c:Codec ν)(agg:Bool)(m:Mem)(q:Option Nat)(es:Array MapEntry)(ck:Nat)(o:Option (List (κ×ν))):Prop:=
 match q with
 |none=>o=none
 |some _=>∃l l',o=some l/\l'.Perm l/\(l'.map (·.1)).Nodup/\MapL ek c agg m es.toList l'/\Born es.toList ck
theorem MapL.mono{κ ν:Type}{ek:κ->Value}{c:Codec ν}{agg:Bool}{m m':Mem}(hle:m.le m'):∀{es:List MapEntry} {l:List (κ×ν)},MapL ek c agg m es l->MapL ek c agg m' es l
 |[],_,h=>h
 |_::_,_,⟨k,v,l',h1,h2,⟨cs,h3,h4⟩,h5⟩=>⟨k,v,l',h1,h2,⟨cs,c.mono _ _ _ _ hle h3,h4⟩,h5.mono hle⟩
theorem MapQ.mono{κ ν:Type}{ek:κ->Value}{c:Codec ν}{agg:Bool}{m m':Mem}{q:Option Nat}{es:Array MapEntry}{ck:Nat}{o:Option (List (κ×ν))}(h:MapQ ek c agg m q es ck o)(hle:m.le m'):MapQ ek c agg m' q es ck o:=by
 cases q with
 |none=>exact h
 |some b=>obtain⟨l,l',h1,h2,h3,h4,h5⟩:=h;exact⟨l,l',h1,h2,h3,h4.mono hle,h5⟩
def qPc{κ:Type}[DecidableEq κ](k:κ):List κ->List MapEntry->Nat->Option (Nat×Value)
 |k'::ks,e::es,i=>if k=k' then some (i,e.val) else qPc k ks es (i+1)
 |_,_,_=>none
structure KeyOK{κ:Type}[DecidableEq κ](P:Program)(kt:TypeId)(ek:κ->Value):Prop where
 find:∀(k:κ) (ks:List κ) (es:List MapEntry) (w:World),es.map (·.key)=ks.map ek->(Instr.findKey kt (ek k) es).run P w= .ok (qPc k ks es 0) w
 chk:∀(e:Bool) (a:κ) (w:World),(Instr.checkKey e 10000 kt (ek a)).run P w= .ok () w
 stay:∀(a:κ) (w:World),(Instr.keyThatStays (ek a) (ek a)).run P w= .ok (ek a) w
 inj:∀a b,ek a=ek b->a=b
theorem qXj(a b:Int):(a==b)=decide (a=b):=by rw[Bool.eq_iff_iff];simp
theorem qNp(a b:ByteArray):(a==b)=decide (a=b):=by
 rw[Bool.eq_iff_iff]
 have:=Go.MapKept.bytes_beq a b
 simpa using this
theorem qPg{κ:Type}[DecidableEq κ]{dd:TypeDesc}{ek:κ->Value}(hk:∀a b,Instr.sameNow dd (ek a) (ek b)=some (decide (a=b)))(k:κ):∀(ks:List κ) (es:List MapEntry) (j:Nat),es.map (·.key)=ks.map ek->Instr.findNow dd (ek k) es j=some (qPc k ks es j)
 |[],[],j,_=>rfl
 |[],e::es,j,h=>by simp at h
 |k'::ks,[],j,h=>by simp at h
 |k'::ks,e::es,j,h=>by
  simp only[jF,jW] at h
  simp only[Instr.findNow,h.1,hk,qPc]
  by_cases hkk:k=k'
  .subst hkk;simp
  simp only[hkk,decide_false,jY]
  exact qPg hk k ks es (j+1) h.2
theorem qXr{P:Program}{kt:TypeId}{q q':IntKind}(h:P.underlying kt=some (.int q))(e:Bool)(z:Int)(w:World):∀n,(Instr.checkKey e (n+1) kt (.int q' z)).run P w= .ok () w:=fun n=>by simp[Instr.checkKey,run_underlying h]
theorem qYg{P:Program}{kt:TypeId}(h:P.underlying kt=some .string)(e:Bool)(z:ByteArray)(w:World):∀n,(Instr.checkKey e (n+1) kt (.string z)).run P w= .ok () w:=fun n=>by simp[Instr.checkKey,run_underlying h]
theorem qWo{κ:Type}[DecidableEq κ]{P:Program}{kt:TypeId}{ek:κ->Value}{d:TypeDesc}(hd:P.underlying kt=some d)(hk:∀a b,Instr.sameNow d (ek a) (ek b)=some (decide (a=b)))
  (hc:∀(e:Bool) (a:κ) (w:World),(Instr.checkKey e 10000 kt (ek a)).run P w= .ok () w) (hb:∀n a,Instr.sameBits n (ek a) (ek a)=true):KeyOK P kt ek where
 find k ks es w h:=by simp[Instr.findKey,run_underlying hd,qPg hk k ks es 0 h]
 chk:=hc
 stay a w:=by simp[Instr.keyThatStays,hb]
 inj a b h:=by
  have e1:=hk a b
  rw[h,hk b b] at e1
  simpa using e1.symm
theorem qDp{P:Program}{kt:TypeId}{q:IntKind}(h:P.underlying kt=some (.int q)):KeyOK P kt (fun n:Int=>Value.int q n):=
 qWo h (fun a b=>by simp[Instr.sameNow];exact qXj a b) (fun e v w=>qXr h e v w 9999) (fun n a=>by cases n<;>simp[Instr.sameBits])
theorem qMi{P:Program}{kt:TypeId}(h:P.underlying kt=some .string):KeyOK P kt (fun s:ByteArray=>Value.string s):=
 qWo h (fun a b=>by simp[Instr.sameNow];exact qNp a b) (fun e v w=>qYg h e v w 9999) (fun n a=>by cases n<;>simp[Instr.sameBits,qNp])
section
variable {m:Mem} {κ ν:Type} {ek:κ->Value} {c:Codec ν} {agg:Bool}
theorem MapL.snoc:∀{es:List MapEntry} {l:List (κ×ν)} {e:MapEntry} {k:κ} {y:ν} {cs:List Value},MapL ek c agg m es l->e.key=ek k->c.rep m y cs->e.val=mkV agg cs->MapL ek c agg m (es++[e]) (l++[(k,y)])
 |[],l,e,k,y,cs,h,h1,h2,h3=>by
  simp only[MapL] at h;subst h
  exact⟨k,y,[],rfl,h1,⟨cs,h2,h3⟩,rfl⟩
 |e'::es,l,e,k,y,cs,⟨k',v',l',g1,g2,g3,g4⟩,h1,h2,h3=>by
  subst g1
  exact⟨k',v',l'++[(k,y)],rfl,g2,g3,g4.snoc h1 h2 h3⟩
theorem qLt:∀{es:List MapEntry} {l:List (κ×ν)},MapL ek c agg m es l->es.map (·.key)=(l.map (·.1)).map ek
 |[],l,h=>by simp only[MapL] at h;subst h;rfl
 |e::es,l,⟨k',v',l',h0,h1,_,h4⟩=>by subst h0;simp only[jF,h1,qLt h4]
theorem MapQ.new(ek:κ->Value)(c:Codec ν)(agg:Bool)(m:Mem)(b:Nat):MapQ ek c agg m (some b) #[] 0 (some []):=⟨[],[],rfl,.refl _,by simp,rfl,by simp[Born]⟩
theorem MapQ.nil(ek:κ->Value)(c:Codec ν)(agg:Bool)(m:Mem)(es:Array MapEntry)(ck:Nat):MapQ ek c agg m none es ck (none:Option (List (κ×ν))):=rfl
end
section
variable {P:Program} {n:Fr} {ops:Array Oper} {Q:Exit->Act->World->Prop} {i d:Nat} {L:Env} {w:World} {m:Mem} {own:List Piece} {N:Env->World->Prop}
variable {κ ν:Type} [DecidableEq κ] {ek:κ->Value} {c:Codec ν} {agg:Bool}
theorem qNa(k:κ):∀(es:List MapEntry) (l:List (κ×ν)) (j:Nat),MapL ek c agg m es l->
  ∃r,qPc k (l.map (·.1)) es j=r/\match r with
   |none=>mget l k=none/\qMa l k=fun v=>l++[(k,v)]
   |some (q,v)=>∃x cs,mget l k=some x/\c.rep m x cs/\v=mkV agg cs/\j<=q/\q<j+es.length/\(∃e,es[q-j]? =some e/\e.key=ek k)/\
     ∀(y:ν) (cs':List Value) (f:MapEntry->MapEntry),c.rep m y cs'->(∀e,(f e).key=ek k/\(f e).val=mkV agg cs')->MapL ek c agg m (es.modify (q-j) f) (qMa l k y)
 |[],l,j,h=>by
  simp only[MapL] at h;subst h
  exact⟨none,rfl,rfl,by funext v;rfl⟩
 |e::es,l,j,h=>by
  obtain⟨k',v',l',rfl,h1,⟨cs,h2,h3⟩,h4⟩:=h
  simp only[jF,qPc]
  by_cases hkk:k=k'
  .subst hkk
   simp only[jP]
   refine⟨_,rfl,v',cs,by simp[mget],h2,h3,jT _,by simp,⟨e,by simp,h1⟩,?_⟩
   intro y cs' f hy hf
   simp only[Nat.sub_self,List.modify_zero_cons,qMa,jP]
   exact⟨k,y,l',rfl,(hf e).1,⟨cs',hy,(hf e).2⟩,h4⟩
  simp only[hkk,jY]
  obtain⟨r,hr,hrest⟩:=qNa k es l' (j+1) h4
  refine⟨r,hr,?_⟩
  cases r with
  |none=>
   obtain⟨g1,g2⟩:=hrest
   exact⟨by simp[mget,hkk,g1],by funext v;simp[qMa,hkk,g2]⟩
  |some qv=>
   obtain⟨q,v⟩:=qv
   obtain⟨x,cs1,g1,g2,g3,g4,g5,⟨e1,g6,g7⟩,g8⟩:=hrest
   have hq:q-j=(q-(j+1))+1:=by omega
   refine⟨x,cs1,by simp[mget,hkk,g1],g2,g3,by omega,by simp;omega,⟨e1,by rw[hq];simpa using g6,g7⟩,?_⟩
   intro y cs' f hy hf
   rw[hq]
   simp only[List.modify_succ_cons,qMa,if_neg hkk]
   exact⟨k',v',_,rfl,h1,⟨cs,h2,h3⟩,g8 y cs' f hy hf⟩
def qNk(P:Program)(t:TypeId):Option (TypeId×TypeId×Value):=
 match P.underlying t with
 |some (.map k e)=>match P.info? e with
  |some i=>i.zero.map fun z=>(k,e,z)
  |none=>none
 |_=>none
theorem qLs{t kt et:TypeId}{z:Value}(h:qNk P t=some (kt,et,z)):P.underlying t=some (.map kt et)/\∀w:World,(zeroValue et).run P w= .ok z w:=by
 unfold qNk at h
 split at h
 .rename_i k e he
  split at h
  .rename_i inf hi
   obtain⟨z',hz,hp⟩:=jL.1 h
   simp only[Prod.mk.injEq] at hp
   obtain⟨rfl,rfl,rfl⟩:=hp
   exact⟨he,fun w=>by simp[zeroValue,typeInfo,hi,hz]⟩
  cases h
 cases h
def qAb(q:Option Nat)(es:Array MapEntry)(ck:Nat):Piece:=
 match q with
 |none=> .room none 0 0 0 0
 |some b=> .blk b (.map es ck)
def qAm(o:Option (List (κ×ν)))(k:κ):Option ν:=o.bind fun l=>mget l k
def qDy[KOrd κ](o:Option (List (κ×ν)))(k:κ)(v:ν):Option (Option (List (κ×ν))):=o.map fun l=>some (mset l k v)
theorem qCn{t:TypeId}(ho:opAt ops L i=some (some d,.makeMap t none))(hd:Nat.blt d n=true)(st:St m own w)
  (h:∀b w',St m (qAb (some b) #[] 0::own) w'->N ((d,.map (some b))::L) w'):One P n ops Q i N L w:=by
 refine qFc (w':=w.alloc (.map #[] 0)) ho hd (fun q hq=> ?_) (h w.heap.size _ (st.alloc ⟨⟨rfl,rfl⟩,rfl,dle⟩ rfl))
 simp[execOp,hq,Instr.makeMap]
theorem qTf{t kt et:TypeId}{z:Value}(hI:qNk P t=some (kt,et,z))(hk:KeyOK P kt ek){q:Option Nat}{es:Array MapEntry}{ck:Nat}{o:Option (List (κ×ν))}(hp:Piece.holds m w (qAb q es ck))(hr:MapQ ek c agg m q es ck o)
  {zx:ν} {zcs:List Value} (hz:c.rep m zx zcs) (hzv:z=mkV agg zcs) (k:κ) (ok:Bool):
  ∃cs,c.rep m ((qAm o k).getD zx) cs/\(Instr.lookup t (.map q) (ek k) ok).run P w= .ok (bif ok then .tuple #[mkV agg cs,.bool (qAm o k).isSome] else mkV agg cs) w:=by
 obtain⟨h1,h2⟩:=qLs hI
 have main:∀(es:List MapEntry) (l:List (κ×ν)),MapL ek c agg m es l->∃cs r,c.rep m ((mget l k).getD zx) cs/\(Instr.findKey kt (ek k) es).run P w= .ok r w/\
   (match r with|some (_,v)=>v=mkV agg cs/\(mget l k).isSome=true|none=>mkV agg cs=z/\(mget l k).isSome=false):=by
  intro es l hl
  obtain⟨r,hr,hrest⟩:=qNa (c:=c) (agg:=agg) k es l 0 hl
  cases r with
  |none=>exact⟨zcs,none,by simp[hrest.1,hz],by rw[hk.find k _ es w (qLt hl),hr],hzv.symm,by simp[hrest.1]⟩
  |some qv=>
   obtain⟨q,v⟩:=qv
   obtain⟨x,cs,g1,g2,g3,_⟩:=hrest
   exact⟨cs,some (q,v),by simp[g1,g2],by rw[hk.find k _ es w (qLt hl),hr],g3,by simp[g1]⟩
 cases q with
 |none=>
  simp only[MapQ] at hr
  subst hr
  obtain⟨cs,r,g1,g2,g3⟩:=main [] [] rfl
  refine⟨cs,by simpa[qAm,mget] using g1,?_⟩
  have hc:=hk.chk true k w
  cases r with
  |none=>cases ok<;>simp[Instr.lookup,run_underlying h1,hc,g2,h2,g3.1,qAm]
  |some r=>simp[mget] at g3
 |some b=>
  obtain⟨l0,l,rfl,hperm,hnd,hl,_⟩:=hr
  obtain⟨cs,r,g1,g2,g3⟩:=main es.toList l hl
  rw[qRj hperm hnd] at g1 g3
  refine⟨cs,by simpa[qAm] using g1,?_⟩
  have hb:w.heap[b]? =some (.map es ck):=hp.1
  have hget:(getObj b).run P w= .ok (.map es ck) w:=by simp[getObj,Sem.run,hb]
  have hc:=hk.chk es.isEmpty k w
  cases r with
  |none=>cases ok<;>simp[Instr.lookup,run_underlying h1,hget,hc,g2,h2,g3.1,g3.2,qAm]
  |some r=>
   obtain⟨_,v⟩:=r
   cases ok<;>simp[Instr.lookup,run_underlying h1,hget,hc,g2,g3.1,g3.2,qAm]
theorem qEc{t kt et:TypeId}{z:Value}{x y:Operand}{q:Option Nat}{es:Array MapEntry}{ck:Nat}{o:Option (List (κ×ν))}{k:κ}{ok:Bool}(ho:opAt ops L i=some (some d,.lookup t x y ok))(hd:Nat.blt d n=true)
  (hx:evL L x=some (.map q)) (hy:evL L y=some (ek k)) (hI:qNk P t=some (kt,et,z)) (hk:KeyOK P kt ek) (hp:Piece.holds m w (qAb q es ck)) (hr:MapQ ek c agg m q es ck o)
  {zx:ν} {zcs:List Value} (hz:c.rep m zx zcs) (hzv:z=mkV agg zcs)
  (h:∀cs,c.rep m ((qAm o k).getD zx) cs->N ((d,bif ok then .tuple #[mkV agg cs,.bool (qAm o k).isSome] else mkV agg cs)::L) w):One P n ops Q i N L w:=by
 obtain⟨cs,h1,h2⟩:=qTf hI hk hp hr hz hzv k ok
 refine qFc ho hd (fun q hq=> ?_) (h cs h1)
 simp[execOp,hq,qBi hx,qBi hy,h2]
theorem qPm{b:Nat}{o o':Obj}(hb:w.heap[b]? =some o)(hm:∀cs e f,o≠ .cells cs e f):(setObj b o').run P w= .ok () {w with heap:=w.heap.setIfInBounds b o'}:=by
 cases o<;>first|(exact absurd rfl (hm _ _ _))|simp[setObj,Sem.run,hb]
theorem qHp[KOrd κ]{t kt et:TypeId}{z v:Value}{x y u:Operand}{q:Option Nat}{es:Array MapEntry}{ck:Nat}{o o':Option (List (κ×ν))}{k:κ}{yv:ν}{cs:List Value}(ho:opAt ops L i=some (none,.mapUpdate t x y u))
  (hx:evL L x=some (.map q)) (hy:evL L y=some (ek k)) (hu:evL L u=some v) (hI:qNk P t=some (kt,et,z)) (hk:KeyOK P kt ek) (st:St m (qAb q es ck::own) w) (hr:MapQ ek c agg m q es ck o)
  (hyv:c.rep m yv cs) (hv:v=mkV agg cs) (hs:qDy o k yv=some o')
  (h:∀es' ck' w',St m (qAb q es' ck'::own) w'->MapQ ek c agg m q es' ck' o'->N L w'):One P n ops Q i N L w:=by
 obtain⟨h1,h2⟩:=qLs hI
 cases q with
 |none=>simp only[MapQ] at hr;subst hr;simp[qDy] at hs
 |some b=>
  obtain⟨l0,l,rfl,hperm,hnd,hl,hb1,hb2⟩:=hr
  simp only[qDy,jQ,j9] at hs
  subst hs
  have hb:w.heap[b]? =some (.map es ck):=st.head.1
  have hlt:=qIl hb
  have hget:(getObj b).run P w= .ok (.map es ck) w:=by simp[getObj,Sem.run,hb]
  have hset:∀o',(setObj b o').run P w= .ok () {w with heap:=w.heap.setIfInBounds b o'}:=fun o'=>qPm hb (by simp)
  have hnew:∀o',St m (.blk b o'::own) {w with heap:=w.heap.setIfInBounds b o'}:=fun o'=>
   St.set (o:= .map es ck) st ⟨⟨rfl,rfl⟩,rfl,dle⟩ (by simp[hlt]) (fun k _ hk=>by simp[Array.getElem?_setIfInBounds,Ne.symm hk])
  have hc:=hk.chk false k w
  obtain⟨r,hr,hrest⟩:=qNa (c:=c) (agg:=agg) k es.toList l 0 hl
  have hfind:(Instr.findKey kt (ek k) es.toList).run P w= .ok r w:=by rw[hk.find k _ es.toList w (qLt hl),hr]
  cases r with
  |none=>
   obtain⟨g1,g2⟩:=hrest
   refine qLz ho (fun q hq=> ?_) (h (es.push {key:=ek k,val:=v,born:=ck}) (ck+1) _ (hnew _) ⟨_,qMa l k yv,rfl,qMt hperm hnd k yv,qKr hnd k yv,?_,?_,?_⟩)
   .simp[execOp,hq,qBi hx,qBi hy,qBi hu,Instr.mapUpdate,run_underlying h1,hget,hc,hfind,hset]
   .rw[g2,k7]
    exact hl.snoc rfl hyv hv
   .intro e he
    rw[k7,kP] at he
    rcases he with he|he
    .have:=hb1 e he;omega
    simp at he;subst he;simp
   rw[k7,List.map_append,List.nodup_append]
   refine⟨hb2,by simp,?_⟩
   intro a ha b hb e
   simp at hb;subst hb e
   obtain⟨e0,he0,he1⟩:=List.mem_map.1 ha
   have:=hb1 e0 he0
   omega
  |some qv=>
   obtain⟨q,v0⟩:=qv
   obtain⟨x0,cs0,g1,g2,g3,g4,g5,⟨e0,g6,g7⟩,g8⟩:=hrest
   have he:es[q]? =some e0:=by simpa using g6
   have hstay:(Instr.keyThatStays (ek k) (ek k)).run P w= .ok (ek k) w:=hk.stay k w
   refine qLz ho (fun p hp=> ?_) (h (es.modify q fun e=>{e with key:=ek k,val:=v}) ck _ (hnew _) ⟨_,qMa l k yv,rfl,qMt hperm hnd k yv,qKr hnd k yv,?_,?_,?_⟩)
   .simp[execOp,hp,qBi hx,qBi hy,qBi hu,Instr.mapUpdate,run_underlying h1,hget,hc,hfind,he,g7,hstay,hset]
   .rw[jX]
    have:=g8 yv cs (fun e=>{e with key:=ek k,val:=v}) hyv (fun e=>⟨rfl,hv⟩)
    simpa using this
   .intro e he
    rw[jX] at he
    obtain⟨j,hj,rfl⟩:=List.mem_iff_getElem.1 he
    rw[kN]
    have hj':j<es.toList.length:=by simpa using hj
    have:=hb1 es.toList[j] (List.getElem_mem hj')
    split
    .exact this
    exact this
   rw[jX]
   have:(es.toList.modify q fun e=>{e with key:=ek k,val:=v}).map (·.born)=es.toList.map (·.born):=by
    apply List.ext_getElem
    .simp
    intro j h1 h2
    simp only[List.getElem_map,kN]
    split<;>rfl
   rw[this];exact hb2
theorem qBf[KOrd κ]{t kt et:TypeId}{z v:Value}{x y u:Operand}{q:Option Nat}{es:Array MapEntry}{ck:Nat}{o o':Option (List (κ×ν))}{k:κ}{yv:ν}{cs:List Value}(ho:opAt ops L i=some (none,.insert t x y u))
  (hx:evL L x=some (.map q)) (hy:evL L y=some (ek k)) (hu:evL L u=some v) (hI:qNk P t=some (kt,et,z)) (hk:KeyOK P kt ek) (st:St m (qAb q es ck::own) w) (hr:MapQ ek c agg m q es ck o)
  (hyv:c.rep m yv cs) (hv:v=mkV agg cs) (hs:qDy o k yv=some o')
  (h:∀es' ck' w',St m (qAb q es' ck'::own) w'->MapQ ek c agg m q es' ck' o'->N L w'):One P n ops Q i N L w:=by
 obtain⟨h1,h2⟩:=qLs hI
 cases q with
 |none=>simp only[MapQ] at hr;subst hr;simp[qDy] at hs
 |some b=>
  obtain⟨l0,l,rfl,hperm,hnd,hl,hb1,hb2⟩:=hr
  simp only[qDy,jQ,j9] at hs
  subst hs
  have hb:w.heap[b]? =some (.map es ck):=st.head.1
  have hlt:=qIl hb
  have hget:(getObj b).run P w= .ok (.map es ck) w:=by simp[getObj,Sem.run,hb]
  have hset:∀o',(setObj b o').run P w= .ok () {w with heap:=w.heap.setIfInBounds b o'}:=fun o'=>qPm hb (by simp)
  have hnew:∀o',St m (.blk b o'::own) {w with heap:=w.heap.setIfInBounds b o'}:=fun o'=>
   St.set (o:= .map es ck) st ⟨⟨rfl,rfl⟩,rfl,dle⟩ (by simp[hlt]) (fun k _ hk=>by simp[Array.getElem?_setIfInBounds,Ne.symm hk])
  have hc:=hk.chk false k w
  obtain⟨r,hr,hrest⟩:=qNa (c:=c) (agg:=agg) k es.toList l 0 hl
  have hfind:(Instr.findKey kt (ek k) es.toList).run P w= .ok r w:=by rw[hk.find k _ es.toList w (qLt hl),hr]
  cases r with
  |none=>
   obtain⟨g1,g2⟩:=hrest
   refine qLz ho (fun q hq=> ?_) (h (es.push {key:=ek k,val:=v,born:=ck}) (ck+1) _ (hnew _) ⟨_,qMa l k yv,rfl,qMt hperm hnd k yv,qKr hnd k yv,?_,?_,?_⟩)
   .simp[execOp,hq,qBi hx,qBi hy,qBi hu,Instr.mapUpdate,run_underlying h1,hget,hc,hfind,hset]
   .rw[g2,k7]
    exact hl.snoc rfl hyv hv
   .intro e he
    rw[k7,kP] at he
    rcases he with he|he
    .have:=hb1 e he;omega
    simp at he;subst he;simp
   rw[k7,List.map_append,List.nodup_append]
   refine⟨hb2,by simp,?_⟩
   intro a ha b hb e
   simp at hb;subst hb e
   obtain⟨e0,he0,he1⟩:=List.mem_map.1 ha
   have:=hb1 e0 he0
   omega
  |some qv=>
   obtain⟨q,v0⟩:=qv
   obtain⟨x0,cs0,g1,g2,g3,g4,g5,⟨e0,g6,g7⟩,g8⟩:=hrest
   have he:es[q]? =some e0:=by simpa using g6
   have hstay:(Instr.keyThatStays (ek k) (ek k)).run P w= .ok (ek k) w:=hk.stay k w
   refine qLz ho (fun p hp=> ?_) (h (es.modify q fun e=>{e with key:=ek k,val:=v}) ck _ (hnew _) ⟨_,qMa l k yv,rfl,qMt hperm hnd k yv,qKr hnd k yv,?_,?_,?_⟩)
   .simp[execOp,hp,qBi hx,qBi hy,qBi hu,Instr.mapUpdate,run_underlying h1,hget,hc,hfind,he,g7,hstay,hset]
   .rw[jX]
    have:=g8 yv cs (fun e=>{e with key:=ek k,val:=v}) hyv (fun e=>⟨rfl,hv⟩)
    simpa using this
   .intro e he
    rw[jX] at he
    obtain⟨j,hj,rfl⟩:=List.mem_iff_getElem.1 he
    rw[kN]
    have hj':j<es.toList.length:=by simpa using hj
    have:=hb1 es.toList[j] (List.getElem_mem hj')
    split
    .exact this
    exact this
   rw[jX]
   have:(es.toList.modify q fun e=>{e with key:=ek k,val:=v}).map (·.born)=es.toList.map (·.born):=by
    apply List.ext_getElem
    .simp
    intro j h1 h2
    simp only[List.getElem_map,kN]
    split<;>rfl
   rw[this];exact hb2
end
end Go.Dc
namespace Go.Dc
section
variable {P:Program} {n:Fr} {ops:Array Oper} {Q:Exit->Act->World->Prop} {i d:Nat} {L:Env} {w:World} {m:Mem} {own:List Piece} {N:Env->World->Prop}
variable {α:Type} {f:α->Value}
def qVc(by_:Nat)(z:α)(k:Int):Option (List α):=if 0<=k/\k*by_<=140737488355328/\k<=maxLen then some (List.replicate k.toNat z) else none
def qGw(f:α->Value)(l:List α)(T:List Value):Array Value:=(l.map f++T).toArray
theorem qRw{t e by_:Nat}{x y:Operand}{z:α}{k:Int}{kd kd2:IntKind}{l:List α}(f:α->Value)(ho:opAt ops L i=some (some d,.makeSlice t x y))(hd:Nat.blt d n=true)(hx:evL L x=some (.int kd k))(hy:evL L y=some (.int kd2 k))
  (hi:qIg P t=some (e,1,by_,1)) (hz:(P.info? e).bind (·.zero)=some (f z)) (hone:(f z).oneCell'=true) (st:St m own w) (hs:qVc by_ z k=some l)
  (h:∀b w',List.length l=Int.toNat k->St m (.blk b (.cells (qGw f l []) e (0,0))::own) w'->N ((d,.slice (some ⟨b,0,none⟩) (Int.toNat k) (Int.toNat k))::L) w'):One P n ops Q i N L w:=by
 obtain⟨ht,inf,zv,hinf,hzv,hsz,hby,hzs⟩:=qJx hi
 rw[hinf] at hz
 simp only[j0,hzv,j9] at hz
 subst hz
 unfold qVc at hs
 split at hs
 .rename_i hk
  obtain⟨k1,k2,k3⟩:=hk
  simp only[j9] at hs;subst hs
  have hmx:(maxLen:Int)=9223372036854775807:=rfl
  have hw:IntKind.i64.wrap k=k:=by simp[IntKind.wrap,IntKind.signed,IntKind.bits];omega
  have k2':¬(281474976710656<(by_:Int)*k):=by rw[Int.mul_comm];omega
  have hcells:(f z).cells= #[f z]:=by cases hv:f z<;>simp_all [Value.cells,Value.oneCell']
  have hac:qGw f (List.replicate k.toNat z) []=((List.replicate k.toNat z).map f).toArray:=by simp[qGw]
  refine qFc (w':=w.alloc (.cells ((List.replicate k.toNat z).map f).toArray e)) ho hd (fun q hq=> ?_) (h w.heap.size _ (by simp) (by rw[hac];exact st.alloc ⟨⟨rfl,rfl⟩,rfl,dle⟩ rfl))
  simp only[execOp,hq,qBi hx,qBi hy,Instr.makeSlice,Sem.run_bind,run_underlying ht,Result.andThen_ok,asInt,asIntOf,typeInfo,run_program,hinf,Sem.run_pure,hw,hby]
  have h1:¬(k<0):=by omega
  have hcond:(decide (k<0)||decide ((by_:Int)*k>2^48)||decide (k<0)||decide (k>k))=false:=by simp[h1];omega
  simp only[hcond,jG,jY,run_askRoom,Result.andThen_ok,sizeOf,typeInfo,Sem.run_bind,run_program,hinf,Sem.run_pure,hsz,Nat.mul_one]
  by_cases h0:k.toNat=0
  .simp[h0,newRow]
   congr 2
   first|rfl|simp
  simp[h0,zeroValue,typeInfo,hinf,hzv,hcells,newRow,Nat.mod_one]
  congr 2
  apply Array.ext
  .simp
  intro j h1 h2;simp
 cases hs
theorem qNs{t e:TypeId}{x y:Operand}{b nn cc:Nat}{l:List α}{k:IntKind}{ix:Int}{z:α}(ho:opAt ops L i=some (some d,.indexAddr t x y))(hd:Nat.blt d n=true)
  (hx:evL L x=some (.slice (some ⟨b,0,none⟩) nn cc)) (hy:evL L y=some (.int k ix)) (hi:qJp P t=some (e,1)) (hn:List.length l=nn) (hz:idx l ix=some z)
  (h:N ((d,.pointer (some ⟨b,ix.toNat,none⟩))::L) w):One P n ops Q i N L w:=by
 obtain⟨h1,inf,h2,h3⟩:=qIu hi
 unfold idx at hz
 split at hz
 .rename_i h0
  have hlt:ix.toNat<l.length:=(List.getElem?_eq_some_iff.1 hz).1
  refine qFc ho hd (fun q hq=> ?_) h
  have hlt':ix<(nn:Int):=by omega
  simp[execOp,hq,Instr.indexAt,qBi hx,qBi hy,asIntOf,run_underlying h1,h0,hlt',sizeOf,typeInfo,h2,h3,qNf]
 cases hz
theorem qNy{t e:TypeId}{x y:Operand}{b:Nat}{l:List α}{T:List Value}{ix:Int}{z u:α}(ho:opAt ops L i=some (none,.store t x y))
  (hx:evL L x=some (.pointer (some ⟨b,ix.toNat,none⟩))) (hy:evL L y=some (f u)) (st:St m (.blk b (.cells (qGw f l T) e (0,0))::own) w) (hz:idx l ix=some z) (hone:(f u).oneCell'=true) (hsz:(P.info? t).map (·.size)=some 1)
  (h:∀w',St m (.blk b (.cells (qGw f (l.set ix.toNat u) T) e (0,0))::own) w'->N L w'):One P n ops Q i N L w:=by
 unfold idx at hz
 split at hz
 .have hlt:ix.toNat<l.length:=(List.getElem?_eq_some_iff.1 hz).1
  have hcells:(f u).cells= #[f u]:=by cases hv:f u<;>simp_all [Value.cells,Value.oneCell']
  have hb:=st.head.1
  have hrun:=run_storeCells_at P b ix.toNat e [f u] 0 (qGw f l T) w hb (by simp[qGw];omega) (by simp[hone])
  simp only[kX] at hrun
  have harr:((qGw f l T).toList.take ix.toNat++[f u]++(qGw f l T).toList.drop (ix.toNat+[f u].length)).toArray=qGw f (l.set ix.toNat u) T:=by
   apply congrArg List.toArray
   simp only[qGw,List.toList_toArray]
   rw[List.map_set,List.set_eq_take_append_cons_drop,if_pos (by simpa using hlt)]
   rw[kA (by simp;omega),kC (by simp;omega)]
   simp
  rw[harr] at hrun
  cases hi:P.info? t with
  |none=>simp[hi] at hsz
  |some inf=>
   simp only[hi,jQ,j9] at hsz
   refine qLz ho (fun q hq=> ?_) (h (w.setRow b (qGw f (l.set ix.toNat u) T)) (st.set ⟨⟨rfl,rfl⟩,rfl,dle⟩ (setRow_heap w b (qGw f l T) _ e _ hb) (fun k _ hk=>setRow_other w b k _ hk)))
   simp[execOp,hq,Instr.storeAt,qBi hx,qBi hy,Instr.sureAddr,storeVar,sizeOf,typeInfo,hi,hcells,hsz,hrun]
 cases hz
theorem St.freeze{c:Codec α}{b e nn cc:Nat}{l:List α}{T:List Value}(st:St m (.blk b (.cells (qGw f l T) e (0,0))::own) w)(hn:List.length l=nn)(hcc:nn<=cc)(hmx:cc<=maxLen)(hT:(qGw f l T).size=cc)(hsz:c.sz=1)(hc:∀m x,c.rep m x [f x]):
  ∃m',m.le m'/\St m' (.room (some ⟨b,0,none⟩) (List.length l) cc e 1::own) w/\RepS c m' (some ⟨b,0,none⟩) cc l:=by
 have htk:(qGw f l T).toList.take (l.map f).length=l.map f:=by simp[qGw]
 obtain⟨m',h1,h2,h3,h4,h5,h6⟩:=St.know (b:=b) (cs:=l.map f) st.tail (st.head_ne rfl) st.head.1 htk (fun o v hv=>by rw[st.head.2.1 o] at hv;cases hv)
 refine⟨m',h1,h2.cons ⟨rfl,rfl,by omega,hmx,⟨_,st.head.1,by rw[hT,Nat.mul_one]⟩,fun o ho=>h4 o (by simpa using ho),by rw[h5];exact st.head.2.2⟩ ?_,?_⟩
 .intro k hk;simp[Piece.block] at hk;subst hk;exact st.head_ne rfl
 exact RepS.of_cells (cs:=l.map f) (by omega) hmx (fun j x hx=>by
  have hlt:=(List.getElem?_eq_some_iff.1 hx).1
  have he:=(List.getElem?_eq_some_iff.1 hx).2
  rw[hsz,Nat.mul_one,<-List.map_drop,<-List.map_take,List.drop_eq_getElem_cons hlt,he]
  exact hc m' x) h3
theorem qWb{by_:Nat}{z:α}{k:Int}{l:List α}(h:qVc by_ z k=some l):k.toNat<=maxLen:=by
 unfold qVc at h
 split at h
 .rename_i hk;have:=hk.2.2;have hmx:(maxLen:Int)=9223372036854775807:=rfl;omega
 cases h
theorem qSj{l:List α}{T:List Value}{nn cc:Nat}(h:List.length l=nn)(hT:nn+T.length=cc):(qGw f l T).size=cc:=by simp[qGw];omega
end
end Go.Dc
namespace Go.Dc
theorem qUq{α:Type}{l:List α}{n:Nat}(h:List.length l=n)(i:Nat)(a:α):List.length (List.set l i a)=n:=by rw[List.length_set];exact h
end Go.Dc
end
namespace Go.Dc
section
def qGt{α σ β:Type}(f:Option α->σ->Option (σ⊕β)):List α->σ->Option β
 |[],s=>(f none s).bind fun
  | .inl _=>none
  | .inr b=>some b
 |e::l,s=>(f (some e) s).bind fun
  | .inl s'=>qGt f l s'
  | .inr b=>some b
def qOm{α:Type}(x:α):List α->List (List α)
 |[]=>[[x]]
 |y::l=>(x::y::l)::(qOm x l).map (y:: ·)
def qPq{α:Type}:List α->List (List α)
 |[]=>[[]]
 |x::l=>(qPq l).flatMap (qOm x)
theorem qKs{α:Type}{x:α}:∀{l k:List α},k∈qOm x l↔∃a b,l=a++b/\k=a++x::b
 |[],k=>by
  simp only[qOm,List.mem_singleton]
  constructor
  .rintro rfl;exact⟨[],[],rfl,rfl⟩
  rintro⟨a,b,h,rfl⟩
  simp only[List.nil_eq,List.append_eq_nil_iff] at h
  obtain⟨rfl,rfl⟩:=h;rfl
 |y::l,k=>by
  simp only[qOm,jD,List.mem_map]
  constructor
  .rintro(rfl|⟨k',hk,rfl⟩)
   .exact⟨[],y::l,rfl,rfl⟩
   obtain⟨a,b,rfl,rfl⟩:=qKs.1 hk
   exact⟨y::a,b,rfl,rfl⟩
  rintro⟨a,b,h,rfl⟩
  cases a with
  |nil=>left;simp only[kH] at h;rw[<-h];rfl
  |cons z a=>
   simp only[List.cons_append,jW] at h
   obtain⟨rfl,rfl⟩:=h
   right
   exact⟨a++x::b,qKs.2 ⟨a,b,rfl,rfl⟩,rfl⟩
theorem qOr{α:Type}:∀{l k:List α},k.Perm l->k∈qPq l
 |[],k,h=>by rw[List.perm_nil] at h;subst h;simp[qPq]
 |x::l,k,h=>by
  have hx:x∈k:=h.mem_iff.2 (jJ ..)
  obtain⟨a,b,rfl⟩:=List.append_of_mem hx
  have h':(a++b).Perm l:=(jO.symm.trans h).cons_inv
  simp only[qPq,List.mem_flatMap]
  exact⟨a++b,qOr h',qKs.2 ⟨a,b,rfl,rfl⟩⟩
theorem qNj{α:Type}:∀{l k:List α},k∈qPq l->k.Perm l
 |[],k,h=>by simp[qPq] at h;subst h;exact .refl _
 |x::l,k,h=>by
  simp only[qPq,List.mem_flatMap] at h
  obtain⟨k',h1,h2⟩:=h
  obtain⟨a,b,rfl,rfl⟩:=qKs.1 h2
  exact jO.trans ((qNj h1).cons x)
class Triv(σ:Type) where
 one:Bool
 eq:one=true->∀a b:σ,a=b
instance trivNo{σ:Type}:Triv σ:=⟨false,fun h=>by cases h⟩
instance trivU:Triv Unit:=⟨true,fun _ _ _=>rfl⟩
def qXb{α σ β:Type}[DecidableEq β][Triv σ](f:Option α->σ->Option (σ⊕β))(l:List α)(s:σ)(b:β):Bool:=
 Triv.one σ&&l.all fun x=>match f (some x) s with
  |some (.inl _)=>true
  |some (.inr c)=>decide (c=b)
  |none=>false
theorem qNi{α σ β:Type}{f:Option α->σ->Option (σ⊕β)}{s:σ}{b:β}(h1:∀a c:σ,a=c):∀k:List α,(∀x∈k,(∃s',f (some x) s=some (.inl s'))\/f (some x) s=some (.inr b))->
  (qGt f k s=some b/\∃x∈k,f (some x) s=some (.inr b))\/qGt f k s=qGt f [] s/\∀x∈k,f (some x) s≠some (.inr b)
 |[],_=> .inr ⟨rfl,by simp⟩
 |x::k,h=>by
  rcases h x (jJ ..) with ⟨s',hx⟩|hx
  .have e:qGt f (x::k) s=qGt f k s:=by rw[qGt,hx,h1 s' s];rfl
   rcases qNi h1 k fun y hy=>h y (jS _ hy) with ⟨h2,y,hy,h3⟩|⟨h2,h3⟩
   .exact .inl ⟨e.trans h2,y,jS _ hy,h3⟩
   refine .inr ⟨e.trans h2,fun y hy=> ?_⟩
   rcases jD.1 hy with rfl|hy
   .rw[hx];simp
   exact h3 y hy
  exact .inl ⟨by rw[qGt,hx];rfl,x,jJ ..,hx⟩
theorem qWh{α σ β:Type}[DecidableEq β][Triv σ]{f:Option α->σ->Option (σ⊕β)}{l:List α}{s:σ}{b:β}(h0:qGt f l s=some b)(hq:qXb f l s b=true)(k:List α)(hk:k.Perm l):qGt f k s=some b:=by
 unfold qXb at hq
 rw[jI] at hq
 have good:∀x∈l,(∃s',f (some x) s=some (.inl s'))\/f (some x) s=some (.inr b):=fun x hx=>by
  have:=jH.1 hq.2 x hx
  split at this
  .rename_i s' h;exact .inl ⟨s',h⟩
  .rename_i c h;rw[h,of_decide_eq_true this];exact .inr rfl
  cases this
 have h1:=Triv.eq hq.1
 rcases qNi h1 k fun x hx=>good x (hk.mem_iff.1 hx) with h|⟨h2,h3⟩
 .exact h.1
 rcases qNi h1 l good with ⟨_,x,hx,hb⟩|⟨h4,_⟩
 .exact absurd hb (h3 x (hk.mem_iff.2 hx))
 rw[h2,<-h4,h0]
def qMy{α σ β:Type}[DecidableEq β][Triv σ](f:Option α->σ->Option (σ⊕β))(l:List α)(s:σ):Option β:=
 match qGt f l s with
 |none=>none
 |some b=>if(qXb f l s b||(qPq l).all fun k=>decide (qGt f k s=some b))=true then some b else none
theorem qTl{α σ β:Type}[DecidableEq β][Triv σ]{f:Option α->σ->Option (σ⊕β)}{l:List α}{s:σ}{b:β}(h:qMy f l s=some b):∀k,k.Perm l->qGt f k s=some b:=by
 unfold qMy at h
 split at h
 .cases h
 rename_i b' hb
 split at h
 .rename_i hall
  simp only[j9] at h;subst h
  intro k hk
  rcases kQ _ _▸hall with hq|hall
  .exact qWh hb hq k hk
  have:=jH.1 hall k (qOr hk)
  simpa using this
 cases h
theorem qUx{α σ β:Type}[DecidableEq β][Triv σ]{f:Option α->σ->Option (σ⊕β)}{l:List α}{s:σ}{b:β}(h:∀k,k.Perm l->qGt f k s=some b):qMy f l s=some b:=by
 unfold qMy
 rw[h l (.refl _)]
 simp only
 rw[if_pos]
 rw[kQ]
 exact .inr (jH.2 fun k hk=>by simpa using h k (qNj hk))
def LoopE{α σ β:Type}(f:Option α->σ->Option (σ⊕β))(rem:List α)(s:σ)(b:β)(k:Nat):Prop:=(∀l,l.Perm rem->qGt f l s=some b)/\rem.length<k
theorem LoopE.start{α σ β:Type}[DecidableEq β][Triv σ]{f:Option α->σ->Option (σ⊕β)}{l:List α}{s:σ}{b:β}(h:qMy f l s=some b):LoopE f l s b (l.length+1):=⟨qTl h,jA _⟩
theorem LoopE.zero{α σ β:Type}{f:Option α->σ->Option (σ⊕β)}{rem:List α}{s:σ}{b:β}{p:Prop}(h:LoopE f rem s b 0):p:=absurd h.2 (Nat.not_lt_zero _)
theorem LoopE.nil{α σ β:Type}{f:Option α->σ->Option (σ⊕β)}{rem:List α}{s:σ}{b:β}{k:Nat}(h:LoopE f rem s b (k+1))(hr:rem=[]):
  ∃c,f none s=some c/\(∀s',c= .inl s'->LoopE f rem s' b k)/\(∀b',c= .inr b'->b'=b):=by
 subst hr
 have:=h.1 [] (.refl _)
 simp only[qGt] at this
 obtain⟨c,h1,h2⟩:=jB.1 this
 refine⟨c,h1,?_,?_⟩
 .rintro s' rfl;simp at h2
 rintro b' rfl;simpa using h2
theorem LoopE.cons{α σ β:Type}{f:Option α->σ->Option (σ⊕β)}{rem rest:List α}{e:α}{s:σ}{b:β}{k:Nat}(h:LoopE f rem s b (k+1))(hr:rem.Perm (e::rest)):
  ∃c,f (some e) s=some c/\(∀s',c= .inl s'->LoopE f rest s' b k)/\(∀b',c= .inr b'->b'=b):=by
 have hlen:rem.length=rest.length+1:=by simpa using hr.length_eq
 have key:∀l,l.Perm rest->qGt f (e::l) s=some b:=fun l hl=>h.1 _ ((hl.cons e).trans hr.symm)
 have h0:=key rest (.refl _)
 simp only[qGt] at h0
 obtain⟨c,h1,h2⟩:=jB.1 h0
 refine⟨c,h1,?_,?_⟩
 .rintro s' rfl
  refine⟨fun l hl=> ?_,by have:=h.2;omega⟩
  have:=key l hl
  simp only[qGt,h1,j0] at this
  exact this
 rintro b' rfl;simpa using h2
def qGs(r:Nat)(q:Option Nat)(ck:Nat)(seen:Array Nat):Piece:= .blk r (.mapIter q ck seen ck)
def qRr(es:Array MapEntry)(seen:Array Nat):List MapEntry:=es.toList.filter fun e=> !seen.contains e.born
def ItR{κ ν:Type}(ek:κ->Value)(c:Codec ν)(agg:Bool)(m:Mem)(es:Array MapEntry)(seen:Array Nat)(rem:List (κ×ν)):Prop:=∃l',l'.Perm rem/\MapL ek c agg m (qRr es seen) l'
def Ent(es:Array MapEntry)(seen:Array Nat)(k v:Value):Prop:=∃(s0:Array Nat) (e:MapEntry),seen=s0.push e.born/\e∈es.toList/\e.key=k/\e.val=v
theorem ItR.mono{κ ν:Type}{ek:κ->Value}{c:Codec ν}{agg:Bool}{m m':Mem}{es:Array MapEntry}{seen:Array Nat}{rem:List (κ×ν)}(h:ItR ek c agg m es seen rem)(hle:m.le m'):ItR ek c agg m' es seen rem:=by
 obtain⟨l',h1,h2⟩:=h;exact⟨l',h1,h2.mono hle⟩
section
variable {P:Program} {n:Fr} {ops:Array Oper} {Q:Exit->Act->World->Prop} {i d:Nat} {L:Env} {w:World} {m:Mem} {own:List Piece} {N:Env->World->Prop}
variable {κ ν:Type} {ek:κ->Value} {c:Codec ν} {agg:Bool}
theorem qOk{t kt et:TypeId}{x:Operand}{b:Nat}{es:Array MapEntry}{ck:Nat}{o:Option (List (κ×ν))}(ho:opAt ops L i=some (some d,.range t x))(hd:Nat.blt d n=true)(hx:evL L x=some (.map (some b)))
  (ht:P.underlying t=some (.map kt et)) (st:St m (qAb (some b) es ck::own) w) (hr:MapQ ek c agg m (some b) es ck o)
  (h:∀r w',St m (qGs r (some b) ck #[]::qAb (some b) es ck::own) w'->ItR ek c agg m es #[] (o.getD [])->N ((d,.pointer (some ⟨r,0,none⟩))::L) w'):One P n ops Q i N L w:=by
 obtain⟨l,l',rfl,hperm,hnd,hl,hb⟩:=hr
 have hget:(getObj b).run P w= .ok (.map es ck) w:=by
  have hh:w.heap[b]? =some (.map es ck):=st.head.1
  simp[getObj,Sem.run,hh]
 have hal:=st.alloc (w':=w.alloc (.mapIter (some b) ck #[] ck)) (o:= .mapIter (some b) ck #[] ck) ⟨⟨rfl,rfl⟩,rfl,dle⟩ rfl
 have hnew:∀o,(newObj o).run P w= .ok w.heap.size (w.alloc o):=fun o=>rfl
 refine qFc ho hd (fun q hq=> ?_) (h w.heap.size _ hal ⟨l',hperm,by rw[show qRr es #[]=es.toList from List.filter_eq_self.2 (fun _ _=>by simp)];exact hl⟩)
 simp[execOp,hq,qBi hx,Instr.range,run_underlying ht,hget,hnew]
theorem qUy:∀{es:List MapEntry} {l:List (κ×ν)} {j:Nat} {e:MapEntry},MapL ek c agg m es l->es[j]? =some e->∃k v cs,l[j]? =some (k,v)/\e.key=ek k/\c.rep m v cs/\e.val=mkV agg cs/\MapL ek c agg m (es.eraseIdx j) (l.eraseIdx j)
 |e0::es,l,0,e,⟨k,v,l',h1,h2,⟨cs,h3,h4⟩,h5⟩,he=>by
  simp at he;subst he h1
  exact⟨k,v,cs,rfl,h2,h3,h4,by simpa using h5⟩
 |e0::es,l,j+1,e,⟨k,v,l',h1,h2,h3,h5⟩,he=>by
  subst h1
  obtain⟨k1,v1,cs,g1,g2,g3,g4,g5⟩:=qUy h5 (by simpa using he)
  exact⟨k1,v1,cs,by simpa using g1,g2,g3,g4,by simp only[List.eraseIdx_cons_succ];exact⟨k,v,_,rfl,h2,h3,g5⟩⟩
theorem qRm{es:List MapEntry}(hn:(es.map (·.born)).Nodup){seen:Array Nat}{j:Nat}{e:MapEntry}(h:(es.filter fun e=> !seen.contains e.born)[j]? =some e):
  (es.filter fun e'=> !(seen.push e.born).contains e'.born)=(es.filter fun e=> !seen.contains e.born).eraseIdx j:=by
 induction es generalizing j with
 |nil=>simp at h
 |cons x es ih=>
  simp only[jF,jZ] at hn
  simp only[List.filter_cons] at h ⊢
  have hc:∀y:MapEntry,(seen.push e.born).contains y.born=(seen.contains y.born||(y.born==e.born)):=fun y=>by
   rw[Array.contains_push]
  by_cases hx:seen.contains x.born=true
  .simp only[hx,Bool.not_true,jG,jY] at h ⊢
   rw[hc,hx]
   simp only[Bool.true_or,Bool.not_true,jG,jY]
   exact ih hn.2 h
  have hx':seen.contains x.born=false:=by simpa using hx
  simp only[hx',Bool.not_false,jP] at h ⊢
  rw[hc,hx']
  cases j with
  |zero=>
   simp at h
   subst h
   simp only[Bool.false_or,beq_self_eq_true,Bool.not_true,jG,jY,List.eraseIdx_cons_zero]
   refine List.filter_congr fun y hy=> ?_
   rw[hc]
   have:¬y.born=x.born:=fun e=>hn.1 (by rw[<-e];exact k8 hy)
   simp[this]
  |succ j=>
   have h':(es.filter fun e=> !seen.contains e.born)[j]? =some e:=by simpa using h
   have hmem:e∈es:=(List.mem_filter.1 (List.mem_of_getElem? h')).1
   have hne:¬x.born=e.born:=fun he=>hn.1 (by rw[he];exact k8 hmem)
   simp only[Bool.false_or,beq_iff_eq,hne,Bool.not_eq_eq_eq_not,Bool.not_true,beq_eq_false_iff_ne,ne_eq,not_false_eq_true,jP,List.eraseIdx_cons_succ]
   congr 1
   exact ih hn.2 h'
theorem qSu(es:Array MapEntry)(seen:Array Nat):(leftOf es seen).toList=qRr es seen:=by simp[leftOf,qRr]
theorem St.setIt{r:Nat}{q:Option Nat}{ck:Nat}{seen:Array Nat}{w1:World}(seen':Array Nat)(st:St m (qGs r q ck seen::own) w)(h1:w1=w\/w1=w.drew):St m (qGs r q ck seen'::own) (Go.ChangeMaps.setBlock w1 r (.mapIter q ck seen' ck)):=by
 have hlt:=qIl st.head.1
 refine St.set (o:= .mapIter q ck seen ck) (o':= .mapIter q ck seen' ck) st ?_ ?_ ?_
 .rcases h1 with rfl|rfl<;>exact⟨⟨rfl,rfl⟩,rfl,dle⟩
 .have:(w.heap.setIfInBounds r (.mapIter q ck seen' ck))[r]? =some (.mapIter q ck seen' ck):=by simp[hlt]
  rcases h1 with rfl|rfl<;>exact this
 intro k _ hk
 have:(w.heap.setIfInBounds r (.mapIter q ck seen' ck))[k]? =w.heap[k]? :=by simp[Array.getElem?_setIfInBounds,Ne.symm hk]
 rcases h1 with rfl|rfl<;>exact this
theorem qQk{x:Operand}{r b ck:Nat}{es:Array MapEntry}{seen:Array Nat}{o:Option (List (κ×ν))}{rem:List (κ×ν)}(ho:opAt ops L i=some (some d,.next x false))(hd:Nat.blt d n=true)(hx:evL L x=some (.pointer (some ⟨r,0,none⟩)))
  (st:St m (qGs r (some b) ck seen::qAb (some b) es ck::own) w) (hq:MapQ ek c agg m (some b) es ck o) (hr:ItR ek c agg m es seen rem)
  (h0:rem=[]->∀w',St m (qGs r (some b) ck seen::qAb (some b) es ck::own) w'->N ((d,.tuple #[.bool false])::L) w')
  (h1:∀(e:κ×ν) (rest:List (κ×ν)) (seen':Array Nat) (cs:List Value) (w':World),rem.Perm (e::rest)->c.rep m e.2 cs->St m (qGs r (some b) ck seen'::qAb (some b) es ck::own) w'->ItR ek c agg m es seen' rest->Ent es seen' (ek e.1) (mkV agg cs)->
   N ((d,.tuple #[.bool true,ek e.1,mkV agg cs])::L) w'):One P n ops Q i N L w:=by
 obtain⟨_,_,_,_,_,_,hb1,hb2⟩:=hq
 obtain⟨l',hperm,hl⟩:=hr
 have hit:w.heap[r]? =some (.mapIter (some b) ck seen ck):=st.head.1
 have hmp:w.heap[b]? =some (.map es ck):=st.tail.head.1
 refine qMw (v:=undef) (w':=w) ho hd (fun q hq=> ?_)
 rcases run_next_at (P:=P) w q.type r b ck ck seen es ck hit hmp hb1 (jT _) with ⟨hz,hrun⟩|⟨e,he,w1,hw1,hrun⟩
 .have hnil:qRr es seen=[]:=by rw[<-qSu];exact jC (by simpa using hz)
  rw[hnil] at hl
  have hl':l'=[]:=hl
  subst hl'
  refine⟨_,w,?_,h0 (List.nil_perm.1 hperm) w st⟩
  simp[execOp,hq,qBi hx,hrun]
 rw[qSu] at he
 obtain⟨j,hj⟩:=List.mem_iff_getElem?.1 he
 obtain⟨k,v,cs,g1,g2,g3,g4,g5⟩:=qUy hl hj
 have hjl:=(List.getElem?_eq_some_iff.1 g1).1
 have hsplit:l'.Perm ((k,v)::l'.eraseIdx j):=by
  have e1:l'[j]=(k,v):=(List.getElem?_eq_some_iff.1 g1).2
  have e2:l'=l'.take j++(k,v)::l'.drop (j+1):=by rw[<-e1,List.getElem_cons_drop,List.take_append_drop]
  rw[List.eraseIdx_eq_take_drop_succ]
  exact(List.Perm.of_eq e2).trans jO
 have hmem:e∈es.toList:=(List.mem_filter.1 he).1
 have hleft:qRr es (seen.push e.born)=(qRr es seen).eraseIdx j:=qRm hb2 hj
 refine⟨_,_,?_,h1 (k,v) (l'.eraseIdx j) (seen.push e.born) cs _ (hperm.symm.trans hsplit) g3 (St.setIt _ st hw1) ⟨_,.refl _,by rw[hleft];exact g5⟩ ⟨seen,e,rfl,hmem,g2,g4⟩⟩
 simp[execOp,hq,qBi hx,hrun,g2,g4]
theorem qOi{x:Operand}{r b ck:Nat}{es:Array MapEntry}{seen:Array Nat}{o:Option (List (κ×ν))}{K V:Value}(ho:opAt ops L i=some (some d,.entry x))(hd:Nat.blt d n=true)(hx:evL L x=some (.pointer (some ⟨r,0,none⟩)))
  (st:St m (qGs r (some b) ck seen::qAb (some b) es ck::own) w) (hq:MapQ ek c agg m (some b) es ck o) (he:Ent es seen K V)
  (h:N ((d,.tuple #[K,V])::L) w):One P n ops Q i N L w:=by
 obtain⟨_,_,_,_,_,_,hb1,hb2⟩:=hq
 obtain⟨seen0,e,rfl,hmem,rfl,rfl⟩:=he
 have hit:w.heap[r]? =some (.mapIter (some b) ck (seen0.push e.born) ck):=st.head.1
 have hmp:w.heap[b]? =some (.map es ck):=st.tail.head.1
 have hrun:=run_entry_at (P:=P) w r b ck seen0 es ck e hit hmp hmem hb2
 refine qFc ho hd (fun q hq=> ?_) h
 simp[execOp,hq,qBi hx,hrun]
end
end
end Go.Dc
section
namespace Go.Dc
def ixB(s:ByteArray)(c:Int):Int:=
 match(List.range s.size).find? fun i=>s[i]! ==c.toNat.toUInt8 with
 |some i=>(i:Int)
 |none=> -1
def cntB(s:ByteArray)(c:Int):Int:=s.foldl (fun n x=>if x==c.toNat.toUInt8 then n+1 else n) ((0:Nat):Int)
section
variable {ρ:Option Nat} {P:Program} {n:Fr} {ops:Array Oper} {Q:Exit->Act->World->Prop} {i d:Nat} {L:Env} {w:World} {m:Mem} {own:List Piece} {N:Env->World->Prop}
theorem qNm{f:FuncId}{fn:Func}{e:Array Value->Sem Value}{xs:Array Operand}{ts:Array TypeId}(vs:List Value)(v:Value)(ho:opAt ops L i=some (some d,.call {callee:= .value (.func f),args:=xs,argTypes:=ts}))(hd:Nat.blt d n=true)
  (hv : xs.map (evD L) = vs.toArray) (hf : P.funcs[f]? = some fn) (h1 : (fn.name == "runtime.NumGoroutine", fn.body.isNone, (Extern.findNext fn).isNone) = (false, true, true)) (h2 : Extern.find fn = some e)
  (hrun:(e vs.toArray).run P w= .ok v w) (h:N ((d,v)::L) w):One P n ops Q i N L w:=by
 simp only[Prod.mk.injEq] at h1
 obtain⟨g1,g2,g3⟩:=h1
 have g1' : ¬ fn.name = "runtime.NumGoroutine" := by simpa using g1
 have g2':fn.body=none:=by simpa using g2
 have g3':Extern.findNext fn=none:=by simpa using g3
 refine qFc ho hd (fun q hq=> ?_) h
 have hev:evD L (.func f)= .func (.func f) #[] #[]:=rfl
 simp[execOp,hq,resolve,hev,hv,Deferred.ofValue,invoke,callFunc,hf,g1',g2',g3',h2,hrun]
theorem qQb{f:FuncId}{fn:Func}{x y:Operand}{ts:Array TypeId}{s:ByteArray}{c:Int}(ho:opAt ops L i=some (some d,.call {callee:= .value (.func f),args:= #[x,y],argTypes:=ts}))(hd:Nat.blt d n=true)
  (hx : evL L x = some (.string s)) (hy : evL L y = some (.int .u8 c)) (hf : P.funcs[f]? = some fn) (h1 : (fn.name == "runtime.NumGoroutine", fn.body.isNone, (Extern.findNext fn).isNone) = (false, true, true)) (h2 : Extern.find fn = some Extern.BytealgIndexByte.indexByte)
  (h:N ((d,.int .i64 (ixB s c))::L) w):One P n ops Q i N L w:=by
 refine qNm [.string s,.int .u8 c] _ ho hd (by simp[qBi hx,qBi hy]) hf h1 h2 ?_ h
 have e:Extern.BytealgIndexByte.indexByte #[.string s,.int .u8 c]=(match(List.range s.size).find? fun i=>s[i]! ==c.toNat.toUInt8 with
  |some i=>pure (goInt i)
  |none=>pure (goInt (-1))):=rfl
 show(Extern.BytealgIndexByte.indexByte #[.string s,.int .u8 c]).run P w=_
 rw[e]
 unfold ixB
 split<;>rfl
theorem qQf{f:FuncId}{fn:Func}{x y:Operand}{ts:Array TypeId}{s:ByteArray}{c:Int}(ho:opAt ops L i=some (some d,.call {callee:= .value (.func f),args:= #[x,y],argTypes:=ts}))(hd:Nat.blt d n=true)
  (hx : evL L x = some (.string s)) (hy : evL L y = some (.int .u8 c)) (hf : P.funcs[f]? = some fn) (h1 : (fn.name == "runtime.NumGoroutine", fn.body.isNone, (Extern.findNext fn).isNone) = (false, true, true)) (h2 : Extern.find fn = some Extern.BytealgCount.count)
  (h:N ((d,.int .i64 (cntB s c))::L) w):One P n ops Q i N L w:=by
 refine qNm [.string s,.int .u8 c] _ ho hd (by simp[qBi hx,qBi hy]) hf h1 h2 ?_ h
 have e:Extern.BytealgCount.count #[.string s,.int .u8 c]=pure (goInt (s.foldl (fun n x=>if x==c.toNat.toUInt8 then n+1 else n) (0:Nat))):=rfl
 show(Extern.BytealgCount.count #[.string s,.int .u8 c]).run P w=_
 rw[e]
 unfold cntB goInt
 simp only[Sem.run_pure]
theorem qId{b:Frame}{a:Act}{k:List Item}{cs:List Frame}{c:Code}:step P (lone (b.atR a (.code (.scope c)::k)) cs w)= .next (lone (b.atR a (.code c:: .inScope c::k)) cs w):=
 step_lone_go (by simp[stepG,stepG.exec,Frame.atR])
theorem qPv{b:Frame}{a:Act}{k:List Item}{cs:List Frame}{c:Code}:step P (lone (b.atR a (.inScope c::k)) cs w)= .next (lone (b.atR a k) cs w):=
 step_lone_go (by simp[stepG,stepG.exec,Frame.atR])
def qTb(Q:Exit->Act->World->Prop):Exit->Act->World->Prop
 | .goto _,_,_=>False
 | .normal,a,w=>Q .normal a w
 | .exit id,a,w=>Q (.exit id) a w
 | .ret,a,w=>Q .ret a w
 | .panic c,a,w=>Q (.panic c) a w
 | .outgrown,a,w=>Q .outgrown a w
theorem qMo{F:Fence}{m:Nat}{a:Act}{c:Code}(h:c.wpIn F m P (qTb Q) a w):(Code.scope c).wpIn F m P Q a w:=by
 intro b k cs hro hb hr
 have h0:(lone (b.atR a (.code (.scope c)::k)) cs w).fenced P F:=fenced_calm hb hr rfl
 obtain⟨e,a₁,w₁,hq,harr⟩:=h b (.inScope c::k) cs hro hb hr
 cases e with
 |normal=>exact⟨.normal,a₁,w₁,hq,.head h0 qId (StepsIn.trans harr (.one (fenced_calm hb hr rfl) qPv))⟩
 |exit id=>
  have hx:exitTo id (.inScope c::k)=exitTo id k:=by simp[exitTo]
  exact⟨.exit id,a₁,w₁,hq,fun k' hk=> .head h0 qId (harr.1 k' (by rw[hx];exact hk)),
   fun hr' hk=>let ⟨k₁,h1,h2⟩:=harr.2 hr' (by rw[hx];exact hk);⟨k₁,h1,.head h0 qId h2⟩⟩
 |goto l=>exact hq.elim
 |ret=>exact⟨_,a₁,w₁,hq,.of_steps (.one h0 qId) harr⟩
 |panic ch=>exact⟨_,a₁,w₁,hq,.of_steps (.one h0 qId) harr⟩
 |outgrown=>exact⟨_,a₁,w₁,hq,.of_steps (.one h0 qId) harr⟩
theorem qTy{c:Code}(h:W ρ P n c (qTb Q) L w):W ρ P n (.scope c) Q L w:=fun a ha=>qMo (h a ha)
theorem qFx(h:X n Q .ret L w):X n (qTb Q) .ret L w:=h
theorem qTz{l:Nat}(h:X n Q .normal L w):W ρ P n (.label l) Q L w:=fun a ha=>wpIn_label (h a ha)
end
end Go.Dc
namespace Go.Dc
def qUg(P:Program)(t:TypeId):Value->Value->Option Bool
 | .int k a,.int k' b=>match P.underlying t with
  |some (.int _)=>bif decide (k=k') then some (a==b) else none
  |_=>none
 | .bool a,.bool b=>match P.underlying t with
  |some .bool=>some (a==b)
  |_=>none
 | .string a,.string b=>match P.underlying t with
  |some .string=>some (a.toList==b.toList)
  |_=>none
 |_,_=>none
def eqFs(P:Program)(xs ys:Array Value):List Field->Option Bool
 |[]=>some true
 |f::fs=>match xs[f.offset]?,ys[f.offset]? with
  | some a, some b => bif f.name == "_" || !P.plainKey f.type then none else (qUg P f.type a b).bind fun r => (eqFs P xs ys fs).map fun s => r && s
  |_,_=>none
section
variable {P:Program} {n:Fr} {ops:Array Oper} {Q:Exit->Act->World->Prop} {i d:Nat} {L:Env} {w:World} {N:Env->World->Prop}
theorem qTh{t:TypeId}{a b:Value}{r:Bool}(dp:Nat)(h:qUg P t a b=some r):(Op.equalIn (dp+1) t a b).run P w= .ok r w:=by
 unfold qUg at h
 split at h
 .split at h
  .rename_i hu
   rename_i k a k' b _ q
   by_cases hk:k=k'
   .subst hk
    simp only[decide_true,cond_true,j9] at h
    subst h
    exact run_equalIn_int w dp t k _ a b hu
   simp[hk] at h
  cases h
 .split at h
  .rename_i hu;cases h;exact run_equalIn_bool w dp t _ _ hu
  cases h
 .split at h
  .rename_i hu;cases h;exact run_equalIn_string w dp t _ _ hu
  cases h
 cases h
theorem qSz{xs ys:Array Value}(dp:Nat):∀{fs:List Field} {r:Bool},eqFs P xs ys fs=some r->(Op.eqFields (dp+1) xs ys fs).run P w= .ok r w
 |[],r,h=>by simp[eqFs] at h;subst h;simp[Op.eqFields]
 |f::fs,r,h=>by
  simp only[eqFs] at h
  split at h
  .rename_i a b ha hb
   cases hc : (f.name == "_" || !P.plainKey f.type) with
   |true=>simp[hc] at h
   |false=>
    simp only[hc,cond_false] at h
    simp only[Bool.or_eq_false_iff,Bool.not_eq_false'] at hc
    obtain⟨s,h1,h2⟩:=jB.1 h
    obtain⟨u,h3,h4⟩:=jL.1 h2
    have hn : f.name ≠ "_" := by simpa using hc.1
    have p1:=run_part_plain (P:=P) (w:=w) hc.2 ha
    have p2:=run_part_plain (P:=P) (w:=w) hc.2 hb
    have p3:=qTh (w:=w) dp h1
    have p4:=qSz dp h3
    subst h4
    simp only[Op.eqFields,hn,ne_eq,not_false_eq_true,jP,Sem.run_bind,p1,p2,p3,Result.andThen_ok]
    cases s<;>simp[p4]
  cases h
theorem qNz{t:TypeId}{xs ys:Array Value}{r:Bool}(ht:P.underlying t=some (.struct (P.fieldsOf t)))(hs:P.stoodInHeld t=false)(h:eqFs P xs ys (P.fieldsOf t).toList=some r):(Op.equal t (.agg xs) (.agg ys)).run P w= .ok r w:=by
 have e:Op.equal t (.agg xs) (.agg ys)=Op.equalIn (9999+1) t (.agg xs) (.agg ys):=rfl
 rw[e,run_equalIn_struct w 9999 t xs ys ht hs]
 exact qSz (w:=w) 9998 h
abbrev qAz(x:Int×ByteArray×ByteArray):Value:= .agg #[.int .i64 x.1,.string x.2.1,.string x.2.2]
theorem qOv{kt:TypeId}(hu:P.underlying kt=some (.struct (P.fieldsOf kt)))(hs:P.stoodInHeld kt=false)
  (heq:∀a b:Int×ByteArray×ByteArray,eqFs P #[.int .i64 a.1,.string a.2.1,.string a.2.2] #[.int .i64 b.1,.string b.2.1,.string b.2.2] (P.fieldsOf kt).toList=some ((a.1==b.1)&&((a.2.1.toList==b.2.1.toList)&&((a.2.2.toList==b.2.2.toList)&&true))))
  (hc:∀(e:Bool) (a:Int×ByteArray×ByteArray),ev0 P (Instr.checkKey e 10000 kt (qAz a))=some ()):KeyOK P kt qAz where
 find k ks es w h:=by
  have hr:∀a b:Int×ByteArray×ByteArray,(Op.equal kt (qAz a) (qAz b)).run P w= .ok (decide (a=b)) w:=by
   intro a b
   rw[qNz (w:=w) hu hs (heq a b)]
   congr 1
   obtain⟨a1,a2,a3⟩:=a
   obtain⟨b1,b2,b3⟩:=b
   have tl:∀x y:ByteArray,x.toList=y.toList->x=y:=fun x y h=>by
    rw[ByteArray.toList_eq,ByteArray.toList_eq] at h
    exact Go.WideShapes.bytes_inj h
   simp only[Bool.and_true]
   rw[Bool.eq_iff_iff]
   simp only[jI,beq_iff_eq,decide_eq_true_eq,Prod.mk.injEq]
   exact⟨fun h=>⟨h.1,tl _ _ h.2.1,tl _ _ h.2.2⟩,fun h=>⟨h.1,by rw[h.2.1],by rw[h.2.2]⟩⟩
  have ask:∀(ks:List (Int×ByteArray×ByteArray)) (es:List MapEntry) (j:Nat),es.map (·.key)=ks.map qAz->(Instr.findAsking kt (qAz k) es j).run P w= .ok (qPc k ks es j) w:=by
   intro ks
   induction ks with
   |nil=>intro es j h;cases es with
    |nil=>simp[Instr.findAsking,qPc]
    |cons e es=>simp at h
   |cons k' ks ih=>intro es j h;cases es with
    |nil=>simp at h
    |cons e es=>
     simp only[jF,jW] at h
     simp only[Instr.findAsking,h.1,Sem.run_bind,hr,Result.andThen_ok,qPc]
     by_cases hk:k=k'
     .simp[hk]
     simp[hk,ih es (j+1) h.2]
  cases es with
  |nil=>cases ks with
   |nil=>simp[Instr.findKey,run_underlying hu,Instr.findNow,qPc]
   |cons k' ks=>simp at h
  |cons e es=>
   have h0:=h
   cases ks with
   |nil=>simp at h
   |cons k' ks=>
    simp only[jF,jW] at h
    have hn:Instr.findNow (.struct (P.fieldsOf kt)) (qAz k) (e::es) 0=none:=by simp[Instr.findNow,h.1,Instr.sameNow]
    simp only[Instr.findKey,Sem.run_bind,run_underlying hu,Result.andThen_ok,hn]
    exact ask _ _ 0 h0
 chk e a w:=qLh (hc e a) w
 stay a w:=by simp[Instr.keyThatStays,Instr.sameBits,qNp]
 inj a b h:=by
  obtain⟨a1,a2,a3⟩:=a
  obtain⟨b1,b2,b3⟩:=b
  simp at h
  obtain⟨h1,h2,h3⟩:=h
  subst h1 h2 h3
  rfl
theorem qQy{t t2:TypeId}{x y:Operand}{xs ys:Array Value}(r:Bool)(ho:opAt ops L i=some (some d,.binOp .eql t x y t2))(hd:Nat.blt d n=true)(hx:evL L x=some (.agg xs))(hy:evL L y=some (.agg ys))
  (ht:P.underlying t=some (.struct (P.fieldsOf t))) (hs:(P.stoodInHeld t,P.eqGuardType P.depth t)=(false,false)) (h0:eqFs P xs ys (P.fieldsOf t).toList=some r) (h:N ((d,.bool r)::L) w):One P n ops Q i N L w:=by
 simp only[Prod.mk.injEq] at hs
 refine qFc ho hd (fun q hq=> ?_) h
 simp[execOp,hq,qBi hx,qBi hy,eqGuard,hs.2,binOp,qNz ht hs.1 h0]
end
end Go.Dc
end
namespace Go.Dc
section
open Go.ChangeShapes Go.WideShapes Go.ChangeAt Go.RowKit
class TabW(w:World):Prop where
 ht:∀p∈tabs,∃t f,w.heap[p.1]? =some (.cells p.2 t f)
instance tabW0(w:World):TabW w:=⟨fun p hp=>by cases hp⟩
def snap(w:World)[TabW w]:Mem:={cell:=fun b o=>w.cell? ⟨b,o,none⟩,obj:=fun b=>w.heap[b]?,wd:=w,ht:=TabW.ht}
theorem qTv(w:World)[TabW w]:St (snap w) [] w:=by
 refine⟨⟨fun b o v h=> ?_,fun _ _ h=>h,Step.refl w⟩,⟨fun p hp=>absurd hp (kM),List.nodup_nil⟩⟩
 simp only[snap,World.cell?] at h
 split at h
 .rename_i c e f hb
  exact⟨_,_,_,hb,by simpa using h⟩
 cases h
theorem qTo{w w':World}[TabW w]{m':Mem}{own:List Piece}(hle:Mem.le (snap w) m')(st:St m' own w'):
  w'.os=w.os/\w'.output=w.output/\∀(b:Nat) (x:Obj),w.heap[b]? =some x->w'.heap[b]? =some x:=by
 have hs:=st.1.2.2
 have hw:m'.wd=w:=hle.2.2.symm
 rw[hw] at hs
 exact⟨hs.1.1,hs.1.2,fun b x hb=>st.1.2.1 b x (hle.2.1 b x hb)⟩
theorem qXe{w w':World}(h1:w'.os=w.os)(h2:w'.output=w.output)(h3:∀(b:Nat) (x:Obj),w.heap[b]? =some x->w'.heap[b]? =some x)(may:MemPlace->Prop):w.keptBut w' may:=by
 refine⟨h1,h2,fun i hi=> ?_⟩
 obtain⟨x,hx⟩:∃x,w.heap[i]? =some x:=⟨w.heap[i],by simp[hi]⟩
 rw[h3 i x hx,hx]
 cases x<;>simp
theorem qXc{w w':World}(h3:∀(b:Nat) (x:Obj),w.heap[b]? =some x->w'.heap[b]? =some x){p:MemPlace}(hp:p.block<w.heap.size):w.sameAt w' p:=by
 obtain⟨x,hx⟩:∃x,w.heap[p.block]? =some x:=⟨w.heap[p.block],by simp[hp]⟩
 cases p with
 |cell b off=>simp only[World.sameAt,World.cell?,MemPlace.block] at hx ⊢;rw[h3 b x hx,hx]
 |map b=>simp only[World.sameAt,MemPlace.block] at hx ⊢;rw[h3 b x hx,hx]
section
variable {H:Type} {enc:TypeId×Value->H} {P:Program}
theorem qOa{w w':World}{sp:Nat->Bool}{T:TypeId->Prop}(K:Kids P T)(hz:∀{t e:TypeId},T t->P.underlying t=some (.slice e)->0<P.cellsOf e)
  (h3:∀(b:Nat) (x:Obj),w.heap[b]? =some x->w'.heap[b]? =some x):∀{ts:List TypeId} {vs:List Value} {ds:List (DataW H)} {ps:List MemPlace},(∀t∈ts,T t)->
  DataW.TrodAll enc P w 0 (fun _=>true) true ts vs ds ps->(∀p∈ps,p.block<w.heap.size)->(∀p∈ps,sp p.block=true)->DataW.TrodAll enc P w' 0 sp true ts vs ds ps
 |[],[],[],_,_,h,_,_=>h
 |t::ts,v::vs,d::ds,ps,ht,h,hl,hs=>by
  obtain⟨p,q,⟨fuel,h1⟩,h2,rfl⟩:=h
  exact⟨p,q,⟨fuel,DataW.trod_stays K hz (fun e=>by cases e) (ht t (jJ ..)) h1 (fun x hx=>qXc h3 (hl x (kK _ hx))) (fun x hx=>hs x (kK _ hx))⟩,
   qOa K hz h3 (fun u hu=>ht u (jS _ hu)) h2 (fun x hx=>hl x (List.mem_append_right _ hx)) (fun x hx=>hs x (List.mem_append_right _ hx)),rfl⟩
 |[],_::_,_,_,_,h,_,_=>by simp[DataW.TrodAll] at h
 |[],[],_::_,_,_,h,_,_=>by simp[DataW.TrodAll] at h
 |_::_,[],_,_,_,h,_,_=>by simp[DataW.TrodAll] at h
 |_::_,_::_,[],_,_,h,_,_=>by simp[DataW.TrodAll] at h
theorem qWg{f:Func}{s:ChangeSpec}{apart fresh handsOn:Bool}{W W':World}{args:Array Value}{ds gs:List (DataW H)}{before:List MemPlace}{tb:TypeId}{T:TypeId->Prop}[TabW W](K:Kids P T)
  (hz:∀{t e:TypeId},T t->P.underlying t=some (.slice e)->0<P.cellsOf e) (hts:∀t∈f.params.toList,T t)
  (hr:f.resultTypes= #[tb]) (htb:P.underlying tb=some .bool) (hv:s.vars=[]) (hfn:s.fn H (ds++gs)={results:=[.lit (.bool true)],args:=ds})
  (hW:DataW.Whole enc P f.params.toList s.vars apart W args.toList ds gs before) {m':Mem} {own:List Piece} (hle:Mem.le (snap W) m') (st:St m' own W'):
  s.post enc P f apart fresh handsOn false W args (.bool true) W':=by
 obtain⟨h1,h2,h3⟩:=qTo hle st
 have hW':=hW
 obtain⟨p,q,hA,hV,rfl,hfz,hnd⟩:=hW
 have hlt:∀x∈p++q,x.block<W.heap.size:=fun x hx=>hW'.lt x hx
 rw[hv] at hV
 have hq:q=[]:=by
  cases gs with
  |nil=>exact hV
  |cons g r=>simp[DataW.TrodVars] at hV
 subst hq
 refine⟨ds,gs,_,[],p,[],hW',?_,?_,?_,qXe h1 h2 h3 _,fun e=>by cases e⟩
 .rw[hfn,hr]
  exact⟨[],[],⟨1,by simp[DataW.trod,Value.cells,htb]⟩,rfl,rfl⟩
 .rw[hfn]
  exact qOa K hz h3 hts hA (fun x hx=>hlt x (kK _ hx)) (fun x hx=>by simpa using hlt x (kK _ hx))
 rw[hfn,hv];rfl
theorem qWr{W:World}{base:Nat}{t:TypeId}{v:Value}{d:DataW H}{ps:List MemPlace}{k:IntKind}(ht:P.underlying t=some (.int k))(hval:Value.okWide P W .any base t v)(h:DataW.Trod enc P W 0 (fun _=>true) true t v d ps):∃x,v= .int k x/\(Lit.int k x).wf=true:=by
 obtain⟨n,h1,_,_,h2⟩:=open_int ht hval h
 exact⟨n,h1,h2⟩
variable {W:World} [TabW W]
variable {base:Nat} {t:TypeId} {v:Value} {d:DataW H} {ps:List MemPlace}
end
def qTx(P:Program):Bool:=(List.range P.types.size).all fun t=>match P.underlying t with
 |some (.slice e)=>Nat.blt 0 (P.cellsOf e)
 |_=>true
theorem qUu{P:Program}(h:qTx P=true){t e:TypeId}(ht:t<P.types.size)(he:P.underlying t=some (.slice e)):0<P.cellsOf e:=by
 have:=jH.1 h t (List.mem_range.2 ht)
 rw[he] at this
 simp only at this
 exact jK this
end
section
theorem wi64{x:Int}(h1: -9223372036854775808<=x)(h2:x<=9223372036854775807):IntKind.wrap .i64 x=x:=by simp[IntKind.wrap,IntKind.signed,IntKind.bits];omega
theorem qUm{α:Type}{l:List α}{i:Nat}(h:i<l.length):idx l (i:Int)=some l[i]:=by simp[idx,h]
end
end Go.Dc
section
namespace Go.Dc
def ab(a:Option Addr):Nat:=match a with|some p=>p.block|none=>0
def opc(a:Option Addr)(cs:Array Value)(e:TypeId):Piece:=match a with
 |none=> .room none 0 0 0 0
 |some p=> .blk p.block (.cells cs e (0,0))
def qBx{α:Type}(f:α->List Value)(l:List α)(T:List Value):Array Value:=(l.flatMap f++T).toArray
def OAS(a:Option Addr)(n cap k:Nat)(T:List Value):Prop:=
 n<=cap/\cap<=maxLen/\match a with
  |none=>cap=0
  |some p=>p=⟨p.block,0,none⟩/\n*k+T.length=cap*k
theorem OAS.nil(k:Nat):OAS none 0 0 k []:=⟨jT _,Nat.zero_le _,rfl⟩
theorem qJm{α:Type}{f:α->List Value}{k:Nat}(hf:∀x,(f x).length=k):∀l:List α,(l.flatMap f).length=l.length*k
 |[]=>by simp
 |x::l=>by simp[jV,hf,qJm hf l,jE,kF]
theorem qQd{α:Type}{f:α->List Value}{k:Nat}(hf:∀x,(f x).length=k):∀(l:List α) (i:Nat) (z:α) (j:Nat),l[i]? =some z->j<k->(l.flatMap f)[i*k+j]? =(f z)[j]?
 |[],i,z,j,h,_=>by simp at h
 |x::l,0,z,j,h,hj=>by
  simp at h;subst h
  simp[jV,List.getElem?_append,hf,hj]
 |x::l,i+1,z,j,h,hj=>by
  have:=qQd hf l i z j (by simpa using h) hj
  rw[jV,List.getElem?_append_right (by rw[hf,jE];omega),hf]
  have e:(i+1)*k+j-k=i*k+j:=by rw[jE];omega
  rw[e];exact this
section
variable {P:Program} {n:Fr} {ops:Array Oper} {Q:Exit->Act->World->Prop} {i d:Nat} {L:Env} {w:World} {m:Mem} {own:List Piece} {N:Env->World->Prop}
variable {α:Type} {f:α->List Value}
theorem OAS.some{a:Option Addr}{nn cap k:Nat}{T:List Value}(h:OAS a nn cap k T){l:List α}(hn:List.length l=nn){j:Nat}(hj:j<l.length):a=Option.some ⟨ab a,0,none⟩:=by
 obtain⟨h1,h2,h3⟩:=h
 cases a with
 |none=>simp only at h3;omega
 |some p=>simp only at h3;exact congrArg Option.some h3.1
theorem St.freezeM{c:Codec α}{a:Option Addr}{e nn cc:Nat}{l:List α}{T:List Value}(st:St m (opc a (qBx f l T) e::own) w)(hs:OAS a nn cc c.sz T)(hn:List.length l=nn)(hf:∀x,(f x).length=c.sz)(hc:∀m x,c.rep m x (f x)):
  ∃m',m.le m'/\St m' (.room a (List.length l) cc e c.sz::own) w/\RepS c m' a cc l:=by
 obtain⟨h1,h2,h3⟩:=hs
 cases a with
 |none=>
  simp only at h3
  have hl:l=[]:=jC (by omega)
  subst hl;subst h3
  exact⟨m,m.le_refl,st.tail.nilroom e c.sz,RepS.nil c m⟩
 |some p=>
  simp only at h3
  obtain⟨hp,hT⟩:=h3
  obtain⟨b,o,s⟩:=p
  simp only[Addr.mk.injEq,true_and] at hp
  obtain⟨rfl,rfl⟩:=hp
  have hfl:=qJm hf l
  have htk:(qBx f l T).toList.take (l.flatMap f).length=l.flatMap f:=by simp[qBx]
  have st0:St m (.blk b (.cells (qBx f l T) e (0,0))::own) w:=st
  obtain⟨m',k1,k2,k3,k4,k5,k6⟩:=St.know (b:=b) (cs:=l.flatMap f) st0.tail (st0.head_ne rfl) st0.head.1 htk (fun o v hv=>by rw[st0.head.2.1 o] at hv;cases hv)
  have hsize:(qBx f l T).size=cc*c.sz:=by simp[qBx,hfl,hn,hT]
  refine⟨m',k1,k2.cons ⟨rfl,rfl,by omega,h2,⟨_,st0.head.1,hsize⟩,fun o ho=>k4 o (by rw[hfl];exact ho),by rw[k5];exact st0.head.2.2⟩ ?_,?_⟩
  .intro k hk;simp[Piece.block] at hk;subst hk;exact st0.head_ne rfl
  exact RepS.of_cells (cs:=l.flatMap f) (by omega) h2 (fun j x hx=>by
   have e2:((l.flatMap f).drop (j*c.sz)).take c.sz=f x:=by
    apply List.ext_getElem?
    intro q
    rw[List.getElem?_take]
    split
    .rename_i hq
     rw[List.getElem?_drop,qQd hf l j x q hx hq]
    rename_i hq;rw[List.getElem?_eq_none (by rw[hf];omega)]
   rw[e2];exact hc m' x) k3
end
end Go.Dc
namespace Go.Dc
end Go.Dc
namespace Go.Dc
section
variable {P:Program} {n:Fr} {ops:Array Oper} {Q:Exit->Act->World->Prop} {L:Env} {w:World} {m:Mem} {own:List Piece}
variable {ks:List (Nat×(World->Prop))} {fuel:Nat} {done:List Nat} {α:Type} {f:α->List Value}
theorem qLo(is:List Nat)(hr:Region.ready .any ops (marks done ops.size)=is)(hne:is≠[])
  (h:∀i∈is,One P n ops Q i (fun L' w'=>TS ks (marks (done++[i]) ops.size) w'/\WA P n ops Q ks fuel (done++[i]) L' w') L w):WA P n ops Q ks (fuel+1) done L w:=by
 intro _ a ha
 refine⟨fun h0=>(by rw[hr] at h0;exact absurd h0 hne),fun j hj=> ?_⟩
 rw[hr] at hj
 refine qOf (fun a' w' h'=> ?_) (h j hj a ha)
 obtain⟨L',h1,h2,h3⟩:=h'
 have:=h3 h2 a' h1
 rw[qIv] at h2
 rw[qIv] at this
 exact⟨h2,this⟩
theorem qMk{p:Nat->Prop}{a b:Nat}(ha:p a)(hb:p b):∀i∈[a,b],p i:=by
 intro i hi;simp only[jD,kM,or_false] at hi
 rcases hi with rfl|rfl<;>assumption
theorem qUs{p:Nat->Prop}{a b c:Nat}(ha:p a)(hb:p b)(hc:p c):∀i∈[a,b,c],p i:=by
 intro i hi;simp only[jD,kM,or_false] at hi
 rcases hi with rfl|rfl|rfl<;>assumption
end
end Go.Dc
namespace Go.Dc
section
variable {P:Program} {n:Fr} {ops:Array Oper} {Q:Exit->Act->World->Prop} {i d:Nat} {L:Env} {w:World} {m:Mem} {own:List Piece} {N:Env->World->Prop}
variable {α:Type} {f:α->List Value}
theorem qRt{c:Codec α}(hfr:∀m x cs,c.rep m x cs->cs=f x){k:List α}{cs:List Value}(hl:cs.length=k.length*c.sz)(hrep:∀i y,k[i]? =some y->c.rep m y ((cs.drop (i*c.sz)).take c.sz)):cs=k.flatMap f:=by
 induction k generalizing cs with
 |nil=>simp at hl;subst hl;rfl
 |cons x k ih=>
  have h0:=hfr _ _ _ (hrep 0 x rfl)
  simp only[Nat.zero_mul,List.drop_zero] at h0
  have h1:=ih (cs:=cs.drop c.sz) (by simp only[List.length_drop,hl,kY,jE];omega) (fun i y hy=>by
   have:=hrep (i+1) y (by simpa using hy)
   rw[List.drop_drop]
   have e:c.sz+i*c.sz=(i+1)*c.sz:=by rw[jE];omega
   rw[e];exact this)
  rw[jV,<-h0,<-h1,List.take_append_drop]
theorem qWl{a:Option Addr}{e sz:Nat}(st:St m (.room a 0 0 e sz::own) w):St m (opc a (qBx f [] []) e::own) w:=by
 cases a with
 |none=>exact st.tail.nilroom 0 0
 |some p=>
  obtain⟨q1,q2,q3,q4,⟨cur,q5,q6⟩,q7,q8⟩:=st.head
  have hc:cur=qBx f [] []:=by
   have:cur.size=0:=by omega
   rw[Array.size_eq_zero_iff.1 this];rfl
  refine st.tail.cons ⟨by rw[q5,hc],⟨fun o=>q7 o (by omega),q8⟩⟩ ?_
  intro k hk
  have hk':some p.block=some k:=hk
  simp only[j9] at hk';subst hk'
  exact st.head_ne rfl
end
end Go.Dc
namespace Go.Dc
end Go.Dc
namespace Go.Dc
section
variable {P:Program} {n:Fr} {ops:Array Oper} {Q:Exit->Act->World->Prop} {L:Env} {w:World}
theorem W_sr{id:Nat}{y:Code}(h:WO P n ops (Exit.then (fun a w=>y.wpIn (fen none) 0 P Q a w) Q) 0 L w):W none P n (.seq (.region id ops false) y) Q L w:=qAt (qAs h)
theorem qXn{i:Nat}{ρ:Option Nat}{y:Code}(hi:ops.size=i)(h:W ρ P n y Q L w):WO P n ops (Exit.then (fun a w=>y.wpIn (fen ρ) 0 P Q a w) Q) i L w:=qBa hi (qAj h)
end
end Go.Dc
namespace Go.Dc
section
variable {P:Program} {n:Fr} {ops:Array Oper} {Q:Exit->Act->World->Prop} {i d:Nat} {L:Env} {w:World} {m:Mem} {own:List Piece} {N:Env->World->Prop}
theorem qUe{b o k nn cap sl:Nat}{C:Array Value}{e:TypeId}{S:List Value}(hb:w.heap[b]? =some (.cells C e (0,0)))(hS:(C.toList.drop o).take (nn*k)=S)(hl:S.length=nn*k):
  (Builtin.firstCells k nn (.slice (some ⟨b,o,none⟩) sl cap)).run P w= .ok S.toArray w:=by
 refine run_firstCells_some w k nn ⟨b,o,none⟩ sl cap S hl fun j v hv=> ?_
 rw[<-hS,List.getElem?_take] at hv
 split at hv
 .rw[List.getElem?_drop] at hv
  rw[qNf]
  simp only[World.cell?,hb]
  simpa using hv
 cases hv
end
end Go.Dc
namespace Go.Dc
end Go.Dc
end
namespace Go.Dc
section
variable {P:Program} {n:Fr} {ops:Array Oper} {Q:Exit->Act->World->Prop} {i d:Nat} {L:Env} {w:World} {m:Mem} {own:List Piece} {N:Env->World->Prop}
variable {ks:List (Nat×(World->Prop))} {fuel:Nat} {done:List Nat}
def cmpS(a b:ByteArray):Int:=
 match(List.range (min a.size b.size)).find? fun i=>a[i]! !=b[i]! with
 |some i=>if a[i]! <b[i]! then-1 else 1
 |none=>if a.size<b.size then-1 else if a.size>b.size then 1 else 0
theorem qTm{f:FuncId}{fn:Func}{x y:Operand}{ts:Array TypeId}{s u:ByteArray}(ho:opAt ops L i=some (some d,.call {callee:= .value (.func f),args:= #[x,y],argTypes:=ts}))(hd:Nat.blt d n=true)
  (hx : evL L x = some (.string s)) (hy : evL L y = some (.string u)) (hf : P.funcs[f]? = some fn) (h1 : (fn.name == "runtime.NumGoroutine", fn.body.isNone, (Extern.findNext fn).isNone) = (false, true, true)) (h2 : Extern.find fn = some Extern.BytealgCompare.compare)
  (h:N ((d,.int .i64 (cmpS s u))::L) w):One P n ops Q i N L w:=by
 refine qNm [.string s,.string u] _ ho hd (by simp[qBi hx,qBi hy]) hf h1 h2 ?_ h
 rfl
end
section
variable {P:Program} {n:Fr} {ops:Array Oper} {Q:Exit->Act->World->Prop} {i d:Nat} {L:Env} {w:World} {m:Mem} {own:List Piece} {N:Env->World->Prop} {α:Type} {f:α->List Value}
theorem qQn{k:Nat}(hf:∀x,(f x).length=k):∀(l:List α) (j:Nat),(l.flatMap f).take (j*k)=(l.take j).flatMap f
 |[],j=>by simp
 |x::l,0=>by simp
 |x::l,j+1=>by
  rw[jV,List.take_succ_cons,jV,List.take_append,hf,show(j+1)*k-k=j*k by rw[jE,kT,kO],qQn hf l j,List.take_of_length_le (by rw[hf,jE];omega)]
theorem qQl{k:Nat}(hf:∀x,(f x).length=k):∀(l:List α) (j:Nat),(l.flatMap f).drop (j*k)=(l.drop j).flatMap f
 |[],j=>by simp
 |x::l,0=>by simp
 |x::l,j+1=>by
  rw[jV,List.drop_succ_cons,kZ,hf,show(j+1)*k-k=j*k by rw[jE,kT,kO],qQl hf l j,kD (by rw[hf,jE];omega),kH]
theorem qNv{k:Nat}(hf:∀x,(f x).length=k){l:List α}{T:List Value}{j:Nat}(hj:j<=l.length):(qBx f l T).toList.take (j*k)=(l.take j).flatMap f:=by
 have hfl:=qJm hf l
 simp only[qBx]
 rw[kA (by rw[hfl];exact jR _ hj),qQn hf]
theorem qRe{k:Nat}(hf:∀x,(f x).length=k){l:List α}{T:List Value}{j:Nat}(hj:j<=l.length):(qBx f l T).toList.drop (j*k)=(l.drop j).flatMap f++T:=by
 have hfl:=qJm hf l
 simp only[qBx]
 rw[kC (by rw[hfl];exact jR _ hj),qQl hf]
theorem qPz{t u e by_ kk:Nat}{x y:Operand}{f:α->List Value}{v:Value}{a:Option Addr}{nn cc:Nat}{T:List Value}{l k r:List α}(hf:∀x,(f x).length=kk)
  (ho:opAt ops L i=some (some d,.call {callee:= .builtin .append,args:= #[x,y],argTypes:= #[t,u]})) (hd:Nat.blt d n=true)
  (hx:evL L x=some (.slice a nn cc)) (hy:evL L y=some v) (st:St m (opc a (qBx f l T) e::own) w) (hs:OAS a nn cc kk T) (hn:List.length l=nn) (hi:qIg P t=some (e,kk,by_,kk)) (hu:qQv P u e)
  (hsrc:∀w':World,Step w w'->w'.heap=w.heap->Src P w' kk v k.length (k.flatMap f)) (hz:qFb by_ l k=some r)
  (h:∀a' cap T' w',OAS a' (List.length r) cap kk T'->St m (opc a' (qBx f r T') e::own) w'->N ((d,.slice a' (List.length r) cap)::L) w'):One P n ops Q i N L w:=by
 obtain⟨ht,inf,z,hinf,hz',hisz,hby,hzs⟩:=qJx hi
 unfold qFb at hz
 split at hz
 .rename_i hk
  obtain⟨k1,k2⟩:=hk
  simp only[j9] at hz;subst hz
  subst hn
  have hsrc0:=hsrc w (Step.refl w) rfl
  have hfl:=qJm hf l
  have hfk:=qJm hf k
  obtain⟨q1,q2,q3⟩:=hs
  by_cases hroom:l.length+k.length<=cc
  .cases a with
   |none=>
    simp only at q3
    have hl0:l=[]:=jC (by omega)
    have hk0:k=[]:=jC (by omega)
    subst hl0;subst hk0;subst q3
    refine qMw (v:=undef) (w':=w) ho hd (fun o h3=> ?_)
    have hrun:=qLw w t u o.type e inf ht hu hinf (x:=v) (news:=[]) (by rw[hisz];exact hsrc0)
    refine⟨_,_,?_,h none 0 [] w ⟨jT _,Nat.zero_le _,rfl⟩ st⟩
    simp only[execOp,h3,resolve,Sem.run_bind,Sem.run_pure,Result.andThen_ok,invoke,builtin]
    simp only[List.length_nil] at hx
    simp[qBi hx,qBi hy,hrun]
   |some p=>
    simp only at q3
    obtain⟨hp,hT⟩:=q3
    obtain⟨b,o,s⟩:=p
    simp only[Addr.mk.injEq,true_and] at hp
    obtain⟨rfl,rfl⟩:=hp
    have st0:St m (.blk b (.cells (qBx f l T) e (0,0))::own) w:=st
    have hsz:(qBx f l T).size=cc*kk:=by
     simp only[qBx,kU,jN,hfl];omega
    have hle:l.length*kk+k.length*kk<=cc*kk:=by rw[<-jE];exact jR _ hroom
    have hC:(qBx f l T).toList.take (l.length*inf.size)++k.flatMap f++(qBx f l T).toList.drop (l.length*inf.size+(k.flatMap f).length)=(qBx f (l++k) (T.drop (k.length*kk))).toList:=by
     rw[hisz,hfk]
     have e1:(qBx f l T).toList.take (l.length*kk)=l.flatMap f:=by
      have:=qNv (T:=T) hf (jT l.length)
      rwa[List.take_length] at this
     have e2:(qBx f l T).toList.drop (l.length*kk+k.length*kk)=T.drop (k.length*kk):=by
      have:=qRe (T:=T) hf (jT l.length)
      rw[List.drop_length,List.flatMap_nil,kH] at this
      rw[<-List.drop_drop,this]
     rw[e1,e2]
     simp[qBx,List.flatMap_append]
    refine qMw (v:=undef) (w':=w) ho hd (fun q h3=> ?_)
    have hrun:=qNc w t u q.type e inf ht hu hinf (x:=v) (n:=k.length) (news:=k.flatMap f) (by rw[hisz];exact hsrc0) b l.length cc (qBx f l T) st0.head.1 hroom (by rw[hisz,hfk,hsz];exact hle)
    rw[hC] at hrun
    have st':=st0.set (w':=w.setRow b (qBx f (l++k) (T.drop (k.length*kk))).toList.toArray) (o':= .cells (qBx f (l++k) (T.drop (k.length*kk))).toList.toArray e (0,0)) ⟨⟨rfl,rfl⟩,rfl,dle⟩ (setRow_heap w b (qBx f l T) _ e _ st0.head.1) (fun j _ hj=>setRow_other w b j _ hj)
    have st2:St m (opc (some ⟨b,0,none⟩) (qBx f (l++k) (T.drop (k.length*kk))) e::own) (w.setRow b (qBx f (l++k) (T.drop (k.length*kk))).toList.toArray):=by simpa[opc] using st'
    have hll:(l++k).length=l.length+k.length:=jN
    refine⟨.slice (some ⟨b,0,none⟩) (l++k).length cc,_,?_,h (some ⟨b,0,none⟩) cc (T.drop (k.length*kk)) _ ⟨by rw[hll];exact hroom,q2,rfl,?_⟩ st2⟩
    .simp only[execOp,h3,resolve,Sem.run_bind,Sem.run_pure,Result.andThen_ok,invoke,builtin]
     simp[qBi hx,qBi hy,hrun,hll]
    rw[hll,jE,List.length_drop];omega
  have hlt:cc<l.length+k.length:=by omega
  refine qMw (v:=undef) (w':=w) ho hd (fun o h3=> ?_)
  have hold:∀w':World,Step w w'->w'.heap=w.heap->(Builtin.firstCells inf.size l.length (.slice a l.length cc)).run P w'= .ok (l.flatMap f).toArray w':=fun w' _ hw=>by
   cases a with
   |none=>
    simp only at q3
    have hl0:l=[]:=jC (by omega)
    subst hl0
    simp[Builtin.firstCells]
   |some p=>
    simp only at q3
    obtain⟨hp,hT⟩:=q3
    obtain⟨b,o,s⟩:=p
    simp only[Addr.mk.injEq,true_and] at hp
    obtain⟨rfl,rfl⟩:=hp
    have st0:St m (.blk b (.cells (qBx f l T) e (0,0))::own) w:=st
    rw[hisz]
    refine qUe (o:=0) (C:=qBx f l T) (e:=e) (by rw[hw];exact st0.head.1) ?_ hfl
    rw[List.drop_zero]
    have:=qNv (T:=T) hf (jT l.length)
    rwa[List.take_length] at this
  have hrun:=qMh (ty:=o.type) w t u e inf z ht hu hinf hz' (n:=k.length) (news:=k.flatMap f) (by rw[hisz];exact hsrc0) a l.length cc (l.flatMap f)
   hold (fun w' hs hw=>by rw[hisz];exact(hsrc w' hs hw).2.1) hlt (by rw[hby];exact k1) k2
  generalize hgc:grownCap w (l.length+k.length) cc e=gc at hrun
  have hge:l.length+k.length<=gc:=hgc▸grownCap_ge _ _ _ _
  have hgm:gc<=maxLen:=hgc▸grownCap_le_maxLen _ _ _ _ k2
  have hac:(l.flatMap f++k.flatMap f).toArray++Builtin.zeroCells z.cells (gc-(l.length+k.length))=qBx f (l++k) (Builtin.zeroCells z.cells (gc-(l.length+k.length))).toList:=by
   apply Array.ext';simp[qBx]
  rw[hac] at hrun
  have hll:(l++k).length=l.length+k.length:=jN
  refine⟨.slice (some ⟨w.heap.size,0,none⟩) (l++k).length gc,_,?_,h (some ⟨w.heap.size,0,none⟩) gc _ _ ⟨by omega,hgm,rfl,?_⟩ (st.tail.alloc (w':=w.drew.alloc (.cells (qBx f (l++k) (Builtin.zeroCells z.cells (gc-(l.length+k.length))).toList) e)) ⟨⟨rfl,rfl⟩,rfl,dle⟩ rfl)⟩
  .simp only[execOp,h3,resolve,Sem.run_bind,Sem.run_pure,Result.andThen_ok,invoke,builtin]
   simp[qBi hx,qBi hy,hrun,hll]
  simp only[Array.length_toList,size_zeroCells,hzs,hll,<-jE]
  congr 1;omega
 cases hz
theorem qSa{t u e by_:Nat}{x y:Operand}{c:Codec α}{v:Value}{a:Option Addr}{nn cc:Nat}{T:List Value}{l k r:List α}(hfr:∀m x cs,c.rep m x cs->cs=f x)(hf:∀x,(f x).length=c.sz)
  (ho:opAt ops L i=some (some d,.call {callee:= .builtin .append,args:= #[x,y],argTypes:= #[t,u]})) (hd:Nat.blt d n=true)
  (hx:evL L x=some (.slice a nn cc)) (hy:evL L y=some v) (st:St m (opc a (qBx f l T) e::own) w) (hs:OAS a nn cc c.sz T) (hn:List.length l=nn) (hi:qIg P t=some (e,c.sz,by_,c.sz)) (hu:qQv P u e)
  (hg:qUa P c m v k) (hz:qFb by_ l k=some r)
  (h:∀a' cap T' w',OAS a' (List.length r) cap c.sz T'->St m (opc a' (qBx f r T') e::own) w'->N ((d,.slice a' (List.length r) cap)::L) w'):One P n ops Q i N L w:=by
 obtain⟨cs,hsrcs,hrep⟩:=hg
 obtain rfl:cs=k.flatMap f:=qRt hfr (hsrcs w st.inv).2.2.1 hrep
 exact qPz hf ho hd hx hy st hs hn hi hu (fun w' h1 h2=>hsrcs w' (st.inv.keep h1 (fun b _ _=>by rw[h2]))) hz h
end
end Go.Dc
section
namespace Go.Dc
def qNq{α σ β ρ:Type}[DecidableEq ρ](f:Option α->σ->Option (σ⊕β))(l:List α)(s:σ)(K:β->Option ρ):Option ρ:=
 match(qGt f l s).bind K with
 |none=>none
 |some b=>if((qPq l).all fun k=>decide ((qGt f k s).bind K=some b))=true then some b else none
theorem qRs{α σ β ρ:Type}[DecidableEq ρ]{f:Option α->σ->Option (σ⊕β)}{l:List α}{s:σ}{K:β->Option ρ}{b:ρ}(h:qNq f l s K=some b):∀k,k.Perm l->(qGt f k s).bind K=some b:=by
 unfold qNq at h
 split at h
 .cases h
 rename_i b' hb
 split at h
 .rename_i hall
  simp only[j9] at h;subst h
  intro k hk
  have:=jH.1 hall k (qOr hk)
  simpa using this
 cases h
theorem qTi{α σ β ρ:Type}[DecidableEq ρ]{f:Option α->σ->Option (σ⊕β)}{l:List α}{s:σ}{K:β->Option ρ}{b:ρ}(h:∀k,k.Perm l->(qGt f k s).bind K=some b):qNq f l s K=some b:=by
 unfold qNq
 rw[h l (.refl _)]
 simp only
 rw[if_pos]
 exact jH.2 fun k hk=>by simpa using h k (qNj hk)
def LoopP{α σ β:Type}(f:Option α->σ->Option (σ⊕β))(rem:List α)(s:σ)(Pk:β->Prop)(k:Nat):Prop:=(∀l,l.Perm rem->∃b,qGt f l s=some b/\Pk b)/\rem.length<k
theorem LoopP.start{α σ β ρ:Type}[DecidableEq ρ]{f:Option α->σ->Option (σ⊕β)}{l:List α}{s:σ}{K:β->Option ρ}{b:ρ}(h:qNq f l s K=some b):∃Pk:β->Prop,(∀o,Pk o->K o=some b)/\LoopP f l s Pk (l.length+1):=
 ⟨fun o=>K o=some b,fun _ h=>h,fun k hk=>by obtain⟨o,h1,h2⟩:=jB.1 (qRs h k hk);exact⟨o,h1,h2⟩,jA _⟩
theorem LoopP.zero{α σ β:Type}{f:Option α->σ->Option (σ⊕β)}{rem:List α}{s:σ}{b:β->Prop}{p:Prop}(h:LoopP f rem s b 0):p:=absurd h.2 (Nat.not_lt_zero _)
theorem LoopP.nil{α σ β:Type}{f:Option α->σ->Option (σ⊕β)}{rem:List α}{s:σ}{b:β->Prop}{k:Nat}(h:LoopP f rem s b (k+1))(hr:rem=[]):
  ∃c,f none s=some c/\(∀s',c= .inl s'->LoopP f rem s' b k)/\(∀b',c= .inr b'->b b'):=by
 subst hr
 obtain⟨o,this,hp⟩:=h.1 [] (.refl _)
 simp only[qGt] at this
 obtain⟨c,h1,h2⟩:=jB.1 this
 refine⟨c,h1,?_,?_⟩
 .rintro s' rfl;simp at h2
 rintro b' rfl
 simp only[j9] at h2
 subst h2;exact hp
theorem LoopP.cons{α σ β:Type}{f:Option α->σ->Option (σ⊕β)}{rem rest:List α}{e:α}{s:σ}{b:β->Prop}{k:Nat}(h:LoopP f rem s b (k+1))(hr:rem.Perm (e::rest)):
  ∃c,f (some e) s=some c/\(∀s',c= .inl s'->LoopP f rest s' b k)/\(∀b',c= .inr b'->b b'):=by
 have hlen:rem.length=rest.length+1:=by simpa using hr.length_eq
 have key:∀l,l.Perm rest->∃o,qGt f (e::l) s=some o/\b o:=fun l hl=>h.1 _ ((hl.cons e).trans hr.symm)
 obtain⟨o,h0,hp⟩:=key rest (.refl _)
 simp only[qGt] at h0
 obtain⟨c,h1,h2⟩:=jB.1 h0
 refine⟨c,h1,?_,?_⟩
 .rintro s' rfl
  refine⟨fun l hl=> ?_,by have:=h.2;omega⟩
  obtain⟨o2,h3,h4⟩:=key l hl
  simp only[qGt,h1,j0] at h3
  exact⟨o2,h3,h4⟩
 rintro b' rfl
 simp only[j9] at h2
 subst h2;exact hp
end Go.Dc
namespace Go.Dc
end Go.Dc
end
namespace Go.Dc
section
open Go.Proofs Go.Shelf Go.Sort
theorem qWa{w w':World}{m':Mem}{own:List Piece}(hle:Mem.le (snap w) m')(st:St m' own w'):∃q os,w'=grow (w.drewN q) os:=by
 have hs:=st.1.2.2
 have hw:m'.wd=w:=hle.2.2.symm
 rw[hw] at hs
 obtain⟨⟨h1,h2⟩,h3,h4⟩:=hs
 have h4:=h4 rfl
 have hh:∀(b:Nat) (x:Obj),w.heap[b]? =some x->w'.heap[b]? =some x:=fun b x hb=>st.1.2.1 b x (hle.2.1 b x hb)
 refine⟨w'.drawn-w.drawn,w'.heap.extract w.heap.size w'.heap.size,?_⟩
 have hsz:w.heap.size<=w'.heap.size:=by
  rcases Nat.eq_zero_or_pos w.heap.size with h|h
  .omega
  have:=hh (w.heap.size-1) _ (Array.getElem?_eq_getElem (show w.heap.size-1<w.heap.size by omega))
  have:=(Array.getElem?_eq_some_iff.1 this).1
  omega
 have hheap:w.heap++w'.heap.extract w.heap.size w'.heap.size=w'.heap:=by
  apply Array.ext
  .simp;omega
  intro i h5 h6
  rw[Array.getElem_append]
  split
  .rename_i h7
   have:=hh i _ (Array.getElem?_eq_getElem h7)
   exact((Array.getElem?_eq_some_iff.1 this).2).symm
  rename_i h7
  rw[Array.getElem_extract]
  congr 1;omega
 have hd:w.drawn+(w'.drawn-w.drawn)=w'.drawn:=by omega
 cases w'
 simp only at h1 h2 h3 hheap hd
 simp only[grow,World.drewN,h1,h2,h3,hheap,hd]
theorem qPj{α:Type}[Inhabited α]{f:α->List Value}{k:Nat}(hf:∀x,(f x).length=k)(l:List α)(t:Nat)(ht:t<l.length*k):(l.flatMap f)[t]? =some (flatK f k l.toArray)[t]! :=by
 have hk:0<k:=Nat.pos_of_ne_zero fun h0=>by(subst h0;simp at ht)
 have hd:t/k<l.length:=(Nat.div_lt_iff_lt_mul hk).2 ht
 have hm:=Nat.mod_lt t hk
 have hx:l[t/k]? =some l[t/k]:=by simp[hd]
 have e:t=(t/k)*k+t%k:=by rw[Nat.mul_comm];exact(Nat.div_add_mod t k).symm
 have h1:=qQd hf l (t/k) _ (t%k) hx hm
 rw[<-e] at h1
 rw[get_flatK _ _ _ t (by simpa using ht),h1]
 simp[hd,hf,hm]
variable {P:Program} {ρ:Ren} {α:Type} [Inhabited α] {m:Mem} {own:List Piece} {w:World}
theorem qSg(L:SlLaysF0.n6 P ρ){k:Nat}{f:α->List Value}(aE:∀w,(isAgg (ρ.t 24)).run P w= .ok true w)(zE:∀w,(Go.sizeOf (ρ.t 24)).run P w= .ok k w)(hf:∀x,(f x).length=k)(h1:∀x,∀v∈f x,v.oneCell'=true)
  (cf:α->α->Int) (hO:SWO (ltOf cf)) (hT:∀x y,(ltOf cf) x y=false->(ltOf cf) y x=false->x=y) (g:Nat) (eg:∀args w,(callFunc g args).run P w= .ok (.enter g args) w)
  (hcl:∀(x y:α) (W:World),Calls P g #[.agg (f x).toArray,.agg (f y).toArray] W fun r w'=>∃m',r= .returned (.int .i64 (cf x y))/\(snap W).le m'/\St m' [] w')
  {a:Option Addr} {l:List α} {cap:Nat} {T:List Value} {e:TypeId} (st:St m (opc a (qBx f l T) e::own) w) (hs:OAS a l.length cap k T) (hlen:l.length<4611686018427387904):
  Calls P (ρ.f 6) #[.slice a l.length cap,.func (.func g) #[] #[]] w fun r w'=>r= .returned (.tuple #[])/\St m (opc a (qBx f (l.mergeSort fun x y=> !(ltOf cf) y x) T) e::own) w':=by
 obtain⟨q1,q2,q3⟩:=hs
 cases a with
 |none=>
  simp only at q3
  have hl:l=[]:=jC (by omega)
  subst hl
  refine(AnyF.slices_SortFunc_none {L with} none cap (.func (.func g) #[] #[]) w).mono fun r w' h=> ?_
  obtain⟨rfl,rfl⟩:=h
  exact⟨rfl,by simpa using st⟩
 |some p=>
  simp only at q3
  obtain⟨hp,hT'⟩:=q3
  obtain⟨b,o,s⟩:=p
  simp only[Addr.mk.injEq,true_and] at hp
  obtain⟨rfl,rfl⟩:=hp
  have st0:St m (.blk b (.cells (qBx f l T) e (0,0))::own) w:=st
  have hb:=st0.head.1
  have hlt:=qIl hb
  have hfl:=qJm hf l
  have hH:HoldsK f k w b 0 l.toArray:=by
   intro j hj
   have hj':j<l.length*k:=by simpa using hj
   have hc:(qBx f l T)[j]? =some (flatK f k l.toArray)[j]! :=by
    simp only[qBx,List.getElem?_toArray]
    rw[List.getElem?_append_left (by omega),qPj hf l j hj']
   refine⟨?_,?_⟩
   .simp only[World.cell?,hb,kW]
    simpa using hc
   simp[World.frozen?,hb]
  refine(AnyQ.slices_SortFunc_total L k aE zE f hf h1 cf hO g #[] b 0 cap l.toArray w eg (fun m' os dk _ x y=> ?_) hH hlt (by simpa using hlen) hT).mono fun r w' h=> ?_
  .refine(hcl x y _).mono fun r w' h=> ?_
   obtain⟨m',rfl,hle,st'⟩:=h
   exact⟨rfl,qWa hle st'⟩
  obtain⟨rfl,n,os,rfl⟩:=h
  refine⟨rfl,?_⟩
  generalize hl':l.mergeSort (fun x y=> !(ltOf cf) y x)=l'
  have hll:l'.length=l.length:=by rw[<-hl'];simp
  have hfl':=qJm hf l'
  have hcells:putCells id 0 (flatK f k l'.toArray) (qBx f l T)=qBx f l' T:=by
   apply Array.ext_getElem?
   intro t
   simp only[putCells,Array.getElem?_mapIdx,qBx,List.getElem?_toArray,size_flatK,kU,kW,Nat.zero_le,true_and,Nat.sub_zero,id]
   by_cases ht:t<l'.length*k
   .rw[List.getElem?_append_left (l₁:=l'.flatMap f) (by omega),qPj hf l' t ht]
    have:(l.flatMap f++T)[t]? =some ((l.flatMap f++T)[t]'(by simp only[jN];rw[hfl,<-hll];omega)):=by simp
    rw[this]
    simp[ht]
   rw[List.getElem?_append_right (l₁:=l'.flatMap f) (by omega),List.getElem?_append_right (l₁:=l.flatMap f) (by rw[hfl,<-hll];omega),hfl,hfl',hll]
   rw[hll] at ht
   simp[ht,hll]
  refine(st0.set (w':=sortWorldK f k w b 0 n l'.toArray os) (o':= .cells (qBx f l' T) e (0,0)) ⟨⟨rfl,rfl⟩,rfl,?_⟩ ?_ ?_:St m (.blk b (.cells (qBx f l' T) e (0,0))::own) _)
  .intro _;show w.drawn<=w.drawn+n;omega
  .show((w.heap.modify b (onCells (putCells id 0 (flatK f k l'.toArray))))++os)[b]? =_
   rw[Array.getElem?_append_left (by simpa using hlt),Array.getElem?_modify,if_pos rfl,hb]
   simp only[jQ,onCells,hcells]
  intro j hj hne
  show((w.heap.modify b (onCells (putCells id 0 (flatK f k l'.toArray))))++os)[j]? =_
  rw[Array.getElem?_append_left (by simpa using hj),Array.getElem?_modify,if_neg (Ne.symm hne)]
end
section
open Go.Proofs Go.Shelf Go.Sort
structure Lin{α:Type}(c:α->α->Int):Prop where
 zero:∀x y,c x y=0↔x=y
 anti:∀x y,c x y<0↔0<c y x
 trans:∀x y z,c x y<0->c y z<0->c x z<0
theorem Lin.swo{α:Type}{c:α->α->Int}(h:Lin c):SWO (ltOf c) where
 irrefl x:=by simp only[ltOf,decide_eq_false_iff_not];have:=(h.zero x x).2 rfl;omega
 trans x y z h1 h2:=by simp only[ltOf,decide_eq_true_eq] at*;exact h.trans x y z h1 h2
 ntrans x y z h1 h2:=by
  simp only[ltOf,decide_eq_false_iff_not] at*
  intro h3
  have a1:=h.anti x y;have a2:=h.anti y x;have a3:=h.anti y z;have a4:=h.anti z y
  by_cases e1:c x y=0
  .rw[(h.zero x y).1 e1] at h3;exact h2 h3
  by_cases e2:c y z=0
  .rw[<-(h.zero y z).1 e2] at h3;exact h1 h3
  have b1:c y x<0:=a2.2 (by omega)
  have b2:c z y<0:=a4.2 (by omega)
  have b3:=h.trans z y x b2 b1
  have:=(h.anti x z).1 h3
  omega
theorem Lin.total{α:Type}{c:α->α->Int}(h:Lin c)(x y:α)(h1:ltOf c x y=false)(h2:ltOf c y x=false):x=y:=by
 simp only[ltOf,decide_eq_false_iff_not] at*
 have:=h.anti y x
 exact(h.zero x y).1 (by omega)
def cmpI(x y:Int):Int:=if x<y then-1 else if x>y then 1 else 0
theorem qVw:Lin cmpI where
 zero x y:=by unfold cmpI;split<;>(try split)<;>omega
 anti x y:=by unfold cmpI;repeat' split<;>omega
 trans x y z:=by unfold cmpI;repeat' split<;>omega
def lexC{α β:Type}(c:α->α->Int)(d:β->β->Int)(x y:α×β):Int:=if c x.1 y.1≠0 then c x.1 y.1 else d x.2 y.2
theorem qTe{α β:Type}{c:α->α->Int}{d:β->β->Int}(hc:Lin c)(hd:Lin d):Lin (lexC c d) where
 zero x y:=by
  have h1:=hc.zero x.1 y.1;have h2:=hd.zero x.2 y.2
  unfold lexC
  split
  .rename_i h;exact⟨fun g=>absurd g h,fun g=>absurd (h1.2 (by rw[g])) h⟩
  rename_i h
  have h:=h1.1 (Decidable.of_not_not h)
  rw[h2];exact⟨fun g=>Prod.ext h g,fun g=>by rw[g]⟩
 anti x y:=by
  have h1:=hc.anti x.1 y.1;have h2:=hd.anti x.2 y.2;have h3:=hc.zero x.1 y.1;have h4:=hc.zero y.1 x.1
  unfold lexC
  by_cases e:x.1=y.1
  .rw[if_neg (by rw[ne_eq,Decidable.not_not,h3];exact e),if_neg (by rw[ne_eq,Decidable.not_not,h4];exact e.symm)];exact h2
  rw[if_pos (fun g=>e (h3.1 g)),if_pos (fun g=>e (h4.1 g).symm)];exact h1
 trans x y z g1 g2:=by
  have h1:=hc.zero x.1 y.1;have h2:=hc.zero y.1 z.1;have h3:=hc.zero x.1 z.1
  unfold lexC at*
  by_cases e1:x.1=y.1
  .rw[if_neg (by rw[ne_eq,Decidable.not_not,h1];exact e1)] at g1
   by_cases e2:y.1=z.1
   .rw[if_neg (by rw[ne_eq,Decidable.not_not,h2];exact e2)] at g2
    rw[if_neg (by rw[ne_eq,Decidable.not_not,h3];exact e1.trans e2)]
    exact hd.trans _ _ _ g1 g2
   rw[if_pos (fun g=>e2 (h2.1 g))] at g2
   rw[if_pos (fun g=>e2 (e1.symm.trans (h3.1 g))),e1];exact g2
  rw[if_pos (fun g=>e1 (h1.1 g))] at g1
  by_cases e2:y.1=z.1
  .rw[if_pos (fun g=>e1 ((h3.1 g).trans e2.symm)),<-e2];exact g1
  rw[if_pos (fun g=>e2 (h2.1 g))] at g2
  have g3:=hc.trans _ _ _ g1 g2
  rw[if_pos (by omega)];exact g3
def cmpL:List UInt8->List UInt8->Int
 |[],[]=>0
 |[],_::_=> -1
 |_::_,[]=>1
 |x::l,y::k=>if x=y then cmpL l k else if x<y then-1 else 1
theorem qXy(x y:UInt8):x<y↔x.toNat<y.toNat:=Iff.rfl
theorem u8_eq{x y:UInt8}(h:x.toNat=y.toNat):x=y:=UInt8.toNat_inj.1 h
theorem cmpL_lin:Lin cmpL where
 zero:=by
  intro l
  induction l with
  |nil=>intro k;cases k<;>simp[cmpL]
  |cons x l ih=>
   intro k
   cases k with
   |nil=>simp[cmpL]
   |cons y k=>
    simp only[cmpL]
    by_cases h:x=y
    .rw[if_pos h,ih k,h];simp
    rw[if_neg h];split<;>simp[h]
 anti:=by
  intro l
  induction l with
  |nil=>intro k;cases k<;>simp[cmpL]
  |cons x l ih=>
   intro k
   cases k with
   |nil=>simp[cmpL]
   |cons y k=>
    simp only[cmpL]
    by_cases h:x=y
    .rw[if_pos h,if_pos h.symm];exact ih k
    rw[if_neg h,if_neg (Ne.symm h)]
    have:¬x.toNat=y.toNat:=fun e=>h (u8_eq e)
    simp only[qXy]
    split<;>split<;>omega
 trans:=by
  intro l
  induction l with
  |nil=>intro k m h1 h2;cases k<;>cases m<;>simp[cmpL] at*
  |cons x l ih=>
   intro k m h1 h2
   cases k with
   |nil=>simp[cmpL] at h1
   |cons y k=>
    cases m with
    |nil=>simp[cmpL] at h2
    |cons z m=>
     simp only[cmpL,qXy] at*
     by_cases e1:x=y
     .subst e1
      rw[if_pos rfl] at h1
      by_cases e2:x=z
      .rw[if_pos e2] at h2 ⊢;exact ih k m h1 h2
      rw[if_neg e2] at h2 ⊢;exact h2
     rw[if_neg e1] at h1
     have hlt:x.toNat<y.toNat:=by
      by_cases g:x.toNat<y.toNat
      .exact g
      rw[if_neg g] at h1;omega
     by_cases e2:y=z
     .subst e2;rw[if_neg e1,if_pos hlt];omega
     rw[if_neg e2] at h2
     have hlt2:y.toNat<z.toNat:=by
      by_cases g:y.toNat<z.toNat
      .exact g
      rw[if_neg g] at h2;omega
     rw[if_neg (fun e=>by rw[e] at hlt;omega),if_pos (by omega)];omega
def cmpF(l k:List UInt8):Int:=match(List.range (min l.length k.length)).find? fun i=>l.getD i 0 !=k.getD i 0 with
 |some i=>if l.getD i 0<k.getD i 0 then-1 else 1
 |none=>if l.length<k.length then-1 else if l.length>k.length then 1 else 0
theorem qUd:∀l k:List UInt8,cmpF l k=cmpL l k
 |[],[]=>by simp[cmpF,cmpL]
 |[],_::_=>by simp[cmpF,cmpL]
 |_::_,[]=>by simp[cmpF,cmpL]
 |x::l,y::k=>by
  have ih:=qUd l k
  unfold cmpF at ih ⊢
  rw[show min (x::l).length (y::k).length=min l.length k.length+1 by simp only[kY];omega,List.range_succ_eq_map,List.find?_cons]
  by_cases h:x=y
  .subst h
   have e0:((x::l).getD 0 0 !=(x::k).getD 0 0)=false:=by simp
   rw[e0]
   simp only[List.find?_map,Function.comp_def,cmpL,jP]
   rw[<-ih]
   have e1:(fun i=>(x::l).getD (Nat.succ i) 0 !=(x::k).getD (Nat.succ i) 0)=fun i=>l.getD i 0 !=k.getD i 0:=by
    funext i;simp
   rw[e1]
   cases(List.range (min l.length k.length)).find? fun i=>l.getD i 0 !=k.getD i 0 with
   |none=>simp
   |some i=>simp
  have e0:((x::l).getD 0 0 !=(y::k).getD 0 0)=true:=by simpa using h
  rw[e0]
  simp[cmpL,h]
theorem qVv(a:ByteArray)(i:Nat):a[i]! =a.data.toList.getD i 0:=by
 by_cases h:i<a.size
 .have h2:i<a.data.toList.length:=by simpa using h
  rw[getElem!_pos a i h,List.getD_eq_getElem?_getD,List.getElem?_eq_getElem h2]
  simp
  rfl
 have h2:¬i<a.data.toList.length:=by simpa using h
 rw[getElem!_neg a i h,List.getD_eq_getElem?_getD,List.getElem?_eq_none (by omega)]
 rfl
theorem qPw(a b:ByteArray):cmpS a b=cmpL a.data.toList b.data.toList:=by
 rw[<-qUd]
 have e1:a.data.toList.length=a.size:=by simp
 have e2:b.data.toList.length=b.size:=by simp
 unfold cmpS cmpF
 rw[e1,e2]
 simp only[qVv]
 all_goals (generalize List.find? (fun i=>a.data.toList.getD i 0 !=b.data.toList.getD i 0) (List.range (min a.size b.size))=o;cases o<;>rfl)
theorem qSl:Lin cmpS where
 zero x y:=by
  rw[qPw,cmpL_lin.zero]
  exact⟨fun h=>by cases x;cases y;simp at h;subst h;rfl,fun h=>by rw[h]⟩
 anti x y:=by rw[qPw,qPw];exact cmpL_lin.anti _ _
 trans x y z h1 h2:=by rw[qPw] at*;exact cmpL_lin.trans _ _ _ h1 h2
def insL{α:Type}(lt:α->α->Bool)(x:α):List α->List α
 |[]=>[x]
 |y::l=>bif lt y x then y::insL lt x l else x::y::l
def qRn{α:Type}(lt:α->α->Bool):List α->List α
 |[]=>[]
 |x::l=>insL lt x (qRn lt l)
theorem qOj{α:Type}{lt:α->α->Bool}{x:α}:∀l:List α,(insL lt x l).Perm (x::l)
 |[]=> .refl _
 |y::l=>by
  unfold insL
  cases lt y x with
  |true=>exact((qOj l).cons y).trans (.swap x y l)
  |false=>exact .refl _
theorem qMn{α:Type}{lt:α->α->Bool}:∀l:List α,(qRn lt l).Perm l
 |[]=> .refl _
 |x::l=>(qOj _).trans ((qMn l).cons x)
theorem qQq{α:Type}{c:α->α->Int}(h:Lin c){x:α}:∀{l:List α},(l.Pairwise fun x y=>ltOf c y x=false)->(insL (ltOf c) x l).Pairwise fun x y=>ltOf c y x=false
 |[],_=>by simp[insL]
 |y::l,hl=>by
  have hl':=jM.1 hl
  unfold insL
  cases e:ltOf c y x with
  |true=>
   refine jM.2 ⟨fun z hz=> ?_,qQq h hl'.2⟩
   rcases jD.1 ((qOj l).mem_iff.1 hz) with rfl|hz
   .cases e2:ltOf c z y with
    |false=>rfl
    |true=>have:=h.swo.trans _ _ _ e e2;rw[h.swo.irrefl] at this;cases this
   exact hl'.1 z hz
  |false=>
   refine jM.2 ⟨fun z hz=> ?_,hl⟩
   rcases jD.1 hz with rfl|hz
   .exact e
   exact h.swo.ntrans z y x (hl'.1 z hz) e
theorem qOl{α:Type}{c:α->α->Int}(h:Lin c):∀l:List α,(qRn (ltOf c) l).Pairwise fun x y=>ltOf c y x=false
 |[]=> .nil
 |_::l=>qQq h (qOl h l)
theorem qOz{α:Type}{r:α->α->Prop}(anti:∀x y,r x y->r y x->x=y):∀{l k:List α},l.Perm k->l.Pairwise r->k.Pairwise r->l=k
 |[],_,h,_,_=>h.nil_eq
 |x::l,[],h,_,_=>absurd h.length_eq (by simp)
 |x::l,y::k,h,hl,hk=>by
  have hl':=jM.1 hl
  have hk':=jM.1 hk
  have e:x=y:=by
   rcases jD.1 (h.mem_iff.1 (jJ ..)) with e|hx
   .exact e
   rcases jD.1 (h.mem_iff.2 (jJ ..)) with e|hy
   .exact e.symm
   exact anti _ _ (hl'.1 _ hy) (hk'.1 _ hx)
  subst e
  rw[qOz anti h.cons_inv hl'.2 hk'.2]
theorem qTw{α:Type}{c:α->α->Int}(h:Lin c)(l:List α):(l.mergeSort fun x y=> !(ltOf c y x))=qRn (ltOf c) l:=by
 refine qOz (r:=fun x y=>ltOf c y x=false) (fun x y h1 h2=>h.total x y h2 h1) ((List.mergeSort_perm l _).trans (qMn l).symm) ?_ (qOl h l)
 have:=List.pairwise_mergeSort (le:=fun x y=> !(ltOf c) y x) (fun x y z h1 h2=>by
  simp only[kV] at*
  exact h.swo.ntrans z y x h2 h1) (fun x y=>by
  simp only[kQ,kV,ltOf,decide_eq_false_iff_not]
  have:=h.anti x y;omega) l
 exact this.imp fun h=>by simpa only[kV] using h
end
section
def isQ{α:Type}(o:Option α):Option Unit:=o.map fun _=>()
theorem MapQ.at{κ ν:Type}{ek:κ->Value}{c:Codec ν}{agg:Bool}{m:Mem}{q:Option Nat}{es:Array MapEntry}{ck:Nat}{o:Option (List (κ×ν))}(h:MapQ ek c agg m q es ck o){u:Unit}(ho:isQ o=some u):∃b,q=some b:=by
 cases q with
 |none=>
  have h:o=none:=h
  subst h
  cases ho
 |some b=>exact⟨b,rfl⟩
section
variable {P:Program} {n:Fr} {ops:Array Oper} {Q:Exit->Act->World->Prop} {L:Env} {w:World} {ch:List PanicEntry}
theorem qAc{K:Act->World->Prop}(h:X n Q (.panic ch) L w):X n (Exit.then K Q) (.panic ch) L w:=h
theorem qAr{id:Nat}(h:X n Q (.panic ch) L w):X n (Exit.inBlock id Q) (.panic ch) L w:=h
theorem qAf{k:Nat}{fn:Func}{R:Ending->World->Prop}(h:R (.panicked ch) w):X ⟨k,[]⟩ (bodyPost P fn R) (.panic ch) L w:=fun _ ha=>⟨ha.2.1,h⟩
variable {N:Env->World->Prop}
theorem qHd{i:Nat}(d f:Nat)(args:Array Value)(ho:qNb P ops L i=some (some d,f,args))(hd:Nat.blt d n=true)
  (h:Calls P f args w fun e w'=>(∃v,e= .returned v/\N ((d,v)::L) w')\/∃ch,e= .panicked ch/\X n Q (.panic ch) L w'):One P n ops Q i N L w:=by
 obtain⟨o,h1,h2,hw,hk,he⟩:=qOs ho
 intro a ha
 unfold opW
 simp only[h1,ha.wanted hw,jP]
 rw[ha.exec hk,qLh he w,Oper.uponIn_enter]
 refine⟨fun e=>by simp[Fence.wide] at e,CallsIn.mono (callsIn_wide.2 h) ?_⟩
 rintro e w' (⟨v,rfl,hk'⟩|⟨ch,rfl,hk'⟩)
 .rw[h2];exact⟨_,ha.put hd v,hk'⟩
 exact hk' _ ha
theorem qOu{i:Nat}{x:Operand}{T:TypeId}{v:Value}(ho:opAt ops L i=some (none,.panic x))(hx:evL L x=some (.iface T v))
  (h:X n Q (.panic [{v:= .iface T v,recovered:=false}]) L w):One P n ops Q i N L w:=by
 obtain⟨o,h1,h2,h3,h4,h5⟩:=qKj ho
 intro a ha
 unfold opW
 simp only[h1,ha.wanted h4,jP]
 rw[ha.exec h5]
 have hrun:(execOp (evD L) o).run P w= .halt (.panic (.iface T v)) w:=by
  simp[execOp,h3,qBi hx,Instr.panic]
 rw[hrun]
 exact h _ ha
end
def fnV:Option Nat->Value
 |some f=> .func (.func f) #[] #[]
 |none=> .nilFunc
def cFn:Codec (Option Nat) where
 sz:=1
 pos:=gA
 rep _ x cs:=cs=[fnV x]
 len:=by rintro _ _ _ rfl;rfl
 one:=by rintro _ x _ rfl v hv;simp at hv;subst hv;cases x<;>rfl
 mono:=fun _ _ _ _ _ h=>h
theorem dynM{α:Type}{f g:Nat}{a b:Option α}{y:α}(hx:(if f=g then a else b)=some y):f=g\/b=some y:=by
 by_cases h:f=g
 .exact .inl h
 rw[if_neg h] at hx;exact .inr hx
theorem dynC{α:Type}{P:Program}{f g:Nat}{a b:Option α}{y:α}{args:Array Value}{w:World}{R:Ending->World->Prop}(hx:(if f=g then a else b)=some y)
  (h1:a=some y->Calls P g args w R) (h2:b=some y->Calls P f args w R):Calls P f args w R:=by
 by_cases h:f=g
 .subst h;rw[if_pos rfl] at hx;exact h1 hx
 rw[if_neg h] at hx;exact h2 hx
section
variable {P:Program} {n:Fr} {ops:Array Oper} {Q:Exit->Act->World->Prop} {L:Env} {w:World} {i:Nat}
theorem qSm{f:FuncId}{fn:Func}{c:Code}{args:Array Value}{R:Ending->World->Prop}(hf:P.funcs[f]? =some fn)(hb:fn.body=some c){k:Nat}(hn:fn.ntmps=k)(L:Env)
  (hL:L.map (fun p=>(args[p.1]?))=L.map fun p=>some p.2) (hsz:Nat.ble args.size k=true) (h:W none P ⟨k,[]⟩ c (bodyPostD P fn R) L w):Calls P f args w R:=by
 refine calls_of_wp_defers hf hb (wpIn_wide.1 (h _ ⟨?_,rfl,?_⟩))
 .subst hn
  have:args.size<=fn.ntmps:=jK hsz
  simp only[kJ,kL];omega
 intro t v hv
 have:=(jU.1 hL) (t,v) (qIt hv)
 have ht:t<args.size:=(Array.getElem?_eq_some_iff.1 this).1
 simp only[Array.getElem?_append,ht,jP]
 exact this
def qSi(P:Program)(ops:Array Oper)(L:Env)(i:Nat):Option (Option Nat×Deferred):=
 match ops[i]? with
 |none=>none
 |some o=>match qFf ops L o.guard with
  |some true=>bif opOK L o.op then(match ev0 P (execOp (evD L) o) with
   |some (.defer d)=>some (o.dst,d)
   |_=>none) else none
  |_=>none
theorem qRo{d:Option Nat}{x:Deferred}(h:qSi P ops L i=some (d,x)):
  ∃o,ops[i]? =some o/\o.dst=d/\qFf ops L o.guard=some true/\opOK L o.op=true/\ev0 P (execOp (evD L) o)=some (.defer x):=by
 unfold qSi at h
 cases h1:ops[i]? with
 |none=>simp[h1] at h
 |some o=>
  simp only[h1] at h
  cases hw:qFf ops L o.guard with
  |none=>simp[hw] at h
  |some b=>
   cases b with
   |false=>simp[hw] at h
   |true=>
    simp only[hw] at h
    cases hk:opOK L o.op with
    |false=>simp[hk] at h
    |true=>
     simp only[hk,cond_true] at h
     split at h
     .rename_i f' he
      simp only[j9,Prod.mk.injEq] at h
      obtain⟨h2,rfl⟩:=h
      exact⟨o,rfl,h2,hw,hk,he⟩
     cases h
theorem qSr(x:Deferred)(hi:Nat.blt i ops.size=true)(ho:qSi P ops L i=some (none,x))(h:WO P ⟨n.sz,x::n.marks⟩ ops Q (i+1) L w):WO P n ops Q i L w:=by
 obtain⟨o,h1,h2,hw,hk,he⟩:=qRo ho
 intro a ha
 rw[qLn h1,opsW]
 unfold opW
 simp only[h1,ha.wanted hw,jP]
 rw[ha.exec hk,qLh he w,Oper.uponIn_defer,h2]
 exact h _ ⟨ha.1,congrArg (x:: ·) ha.2.1,ha.2.2⟩
def noP(Q:Exit->Act->World->Prop):Exit->Act->World->Prop
 | .panic _,_,_=>False
 |e,a,w=>Q e a w
theorem qNg{ρ:Option Nat}{y:Code}{Q':Exit->Act->World->Prop}(h:W ρ P n y Q L w):X n (Exit.then (fun a w=>y.wpIn (fen ρ) 0 P Q a w) Q') .normal L w:=h
theorem qTt(h:X n Q .ret L w):X n (noP Q) .ret L w:=h
theorem qPi{ρ:Option Nat}{x y:Code}(h:W ρ P n x (Exit.then (fun a w=>y.wpIn (fen ρ) 0 P Q a w) (noP Q)) L w):W ρ P n (.seq x y) Q L w:=fun a ha=>by
 refine wpIn_seq (wpIn_mono (h a ha) ?_)
 intro e a' w' hq
 cases e with
 |panic c=>exact hq.elim
 |_=>exact hq
theorem qXo{k:Nat}{fn:Func}{R:Ending->World->Prop}(rvs:List ResultVar)(vs:List Value)(hf:fn.results=rvs.toArray)(hr:ResAll P w L rvs vs)(h:R (.returned (qKv vs)) w):X ⟨k,[]⟩ (bodyPostD P fn R) .ret L w:=by
 intro a ha
 obtain⟨h1,h2⟩:=qFu (P:=P) (fn:=fn) (R:=R) rvs vs hf hr h a ha
 show Leaves P fn a.tmps R a.defers .returning w
 rw[h1]
 exact h2
theorem qVe{k g:Nat}{cap:Array Value}{fn:Func}{R:Ending->World->Prop}(rvs:List ResultVar)(hf:fn.results=rvs.toArray)(hg:∀args w,(callFunc g args).run P w= .ok (.enter g args) w)
  (h:CallsD P g (#[]++cap) .returning w fun e u w'=>u= .returning/\∃v,e= .returned v/\∃vs,ResAll P w' L rvs vs/\R (.returned (qKv vs)) w'):
  X ⟨k,[{target:= .fn (.func g) cap,args:= #[]}]⟩ (bodyPostD P fn R) .ret L w:=by
 intro a ha
 show Leaves P fn a.tmps R a.defers .returning w
 rw[ha.2.1]
 refine leaves_cons (by simp) (f:=g) (args:= #[]++cap) (by simp only[invoke];exact hg _ _) (h.mono ?_)
 rintro e u w' ⟨rfl,v,rfl,vs,hr,hR⟩
 obtain⟨_,v',hv,hR'⟩:=qFu (P:=P) (k:=a.tmps.size) (fn:=fn) (R:=R) rvs vs hf hr hR {a with defers:=[]} ⟨rfl,rfl,ha.2.2⟩
 exact⟨v',hv,hR'⟩
theorem qWp{k g:Nat}{cap:Array Value}{fn:Func}{z:Value}{R:Ending->World->Prop}(rvs:List ResultVar)(hf:fn.results=rvs.toArray)(hg:∀args w,(callFunc g args).run P w= .ok (.enter g args) w)
  (h:CallsD P g (#[]++cap) (.panicking [{v:=z,recovered:=false}]) w fun e u w'=>u= .panicking [{v:=z,recovered:=true}]/\∃v,e= .returned v/\∃vs,ResAll P w' L rvs vs/\R (.returned (qKv vs)) w'):
  X ⟨k,[{target:= .fn (.func g) cap,args:= #[]}]⟩ (bodyPostD P fn R) (.panic [{v:=z,recovered:=false}]) L w:=by
 intro a ha
 show Leaves P fn a.tmps R a.defers (.panicking [{v:=z,recovered:=false}]) w
 rw[ha.2.1]
 refine leaves_cons (by simp) (f:=g) (args:= #[]++cap) (by simp only[invoke];exact hg _ _) (h.mono ?_)
 rintro e u w' ⟨rfl,v,rfl,vs,hr,hR⟩
 obtain⟨_,v',hv,hR'⟩:=qFu (P:=P) (k:=a.tmps.size) (fn:=fn) (R:=R) rvs vs hf hr hR {a with defers:=[]} ⟨rfl,rfl,ha.2.2⟩
 exact⟨v',hv,hR'⟩
def qWz(P:Program)(ops:Array Oper)(L:Env)(i:Nat):Option Nat:=
 match ops[i]? with
 |none=>none
 |some o=>match qFf ops L o.guard with
  |some true=>bif opOK L o.op then(match ev0 P (execOp (evD L) o) with
   |some .recover=>o.dst
   |_=>none) else none
  |_=>none
theorem qTn{d:Nat}(h:qWz P ops L i=some d):
  ∃o,ops[i]? =some o/\o.dst=some d/\qFf ops L o.guard=some true/\opOK L o.op=true/\ev0 P (execOp (evD L) o)=some .recover:=by
 unfold qWz at h
 cases h1:ops[i]? with
 |none=>simp[h1] at h
 |some o=>
  simp only[h1] at h
  cases hw:qFf ops L o.guard with
  |none=>simp[hw] at h
  |some b=>
   cases b with
   |false=>simp[hw] at h
   |true=>
    simp only[hw] at h
    cases hk:opOK L o.op with
    |false=>simp[hk] at h
    |true=>
     simp only[hk,cond_true] at h
     split at h
     .rename_i he;exact⟨o,rfl,h,hw,hk,he⟩
     cases h
theorem qQg{QS:Exit->Act->List Frame->World->Prop}{cs:List Frame}:∀(k i:Nat) (L L':Env) (w:World),seg P n ops k i L=some L'->
  (∀a,Fits n a L'->wpOpsS P ops QS (List.range' (i+k) (ops.size-(i+k))) a cs w)->∀a,Fits n a L->wpOpsS P ops QS (List.range' i (ops.size-i)) a cs w
 |0,i,L,L',w,h,hk=>by simp[seg] at h;subst h;exact hk
 |k+1,i,L,L',w,h,hk=>by
  intro a ha
  simp only[seg] at h
  cases ho:ops[i]? with
  |none=>simp[ho] at h
  |some o=>
   simp only[ho] at h
   rw[qLn ho]
   simp only[wpOpsS,ho]
   cases hw:qFf ops L o.guard with
   |none=>simp[hw] at h
   |some b=>
    have hwant:=ha.wanted hw
    cases b with
    |false=>
     simp only[hw] at h
     obtain⟨L1,h1,h2⟩:=jB.1 h
     simp only[hwant,jG,jY]
     exact qQg k (i+1) L1 L' w h2 (by rw[kI,kF 1 k];exact hk) _ (ha.putL h1)
    |true=>
     simp only[hw] at h
     cases hok:opOK L o.op with
     |false=>simp[hok] at h
     |true=>
      simp only[hok,cond_true] at h
      obtain⟨v,hv,h⟩:=jB.1 h
      obtain⟨L1,h1,h2⟩:=jB.1 h
      simp only[hwant,jP]
      have next:=qQg k (i+1) L1 L' w h2 (by rw[kI,kF 1 k];exact hk) _ (ha.putL h1)
      rw[ha.exec hok]
      cases hev:ev0 P (execOp (evD L) o) with
      |none=>simp[hev,asV] at hv
      |some nx=>
       rw[qLh hev w]
       cases nx<;>simp[hev,asV] at hv
       case value u=>subst hv;exact next
       case skip=>subst hv;exact next
theorem qVf{fn:Func}{args:Array Value}{k:Nat}(hn:fn.ntmps=k)(hL:L.map (fun p=>(args[p.1]?))=L.map fun p=>some p.2)(hsz:Nat.ble args.size k=true):
  Fits ⟨k,[]⟩ {tmps:=args++Array.replicate (fn.ntmps-args.size) undef,defers:=[]} L:=by
 refine⟨?_,rfl,?_⟩
 .subst hn
  have:args.size<=fn.ntmps:=jK hsz
  simp only[kJ,kL];omega
 intro t v hv
 have:=(jU.1 hL) (t,v) (qIt hv)
 have ht:t<args.size:=(Array.getElem?_eq_some_iff.1 this).1
 simp only[Array.getElem?_append,ht,jP]
 exact this
def recU:FrameMode->Value×FrameMode
 | .panicking ({v,recovered:=false,goexit:=false}::older)=>(v,.panicking ({v,recovered:=true}::older))
 |u=>(.nilIface,u)
theorem qKn{g:FuncId}{fn:Func}{id:Nat}{rest:Code}{args:Array Value}{R:Ending->World->Prop}(u:FrameMode)(hf:P.funcs[g]? =some fn)(hb:fn.body=some (.seq (.region id ops false) rest)){k:Nat}(hn:fn.ntmps=k)(L:Env)
  (hL:L.map (fun p=>(args[p.1]?))=L.map fun p=>some p.2) (hsz:Nat.ble args.size k=true) {d:Nat} (hr:qWz P ops L 0=some d) (hd:Nat.blt d k=true) (L':Env) (v:Value) (u':FrameMode) (hu':recU u=(v,u'))
  (hs:seg P k ops (ops.size-1) 1 ((d,v)::L)=some L')
  (h:W none P ⟨k,[]⟩ rest (bodyPost P fn R) L' w):CallsD P g args u w fun e u1 w'=>u1=u'/\R e w':=by
 refine callsD_of_wpS hf hb fun c₀ cs hu=> ?_
 apply wpS_seq
 apply wpS_region
 have ha:Fits ⟨k,[]⟩ _ L:=qVf hn hL hsz
 revert ha
 generalize ({tmps:=args++Array.replicate (fn.ntmps-args.size) undef,defers:=[]}:Act)=a
 intro ha
 obtain⟨o,h1,h2,hw,hk,he⟩:=qTn hr
 have e0:List.range ops.size=List.range' 0 (ops.size-0):=by rw[List.range_eq_range',Nat.sub_zero]
 rw[e0,qLn h1]
 simp only[wpOpsS,h1,ha.wanted hw,jP]
 rw[ha.exec hk,qLh he w]
 have hmono:∀cs',(∃u1,u1=u'/\cs'={c₀ with mode:=u1}::cs)->∀a,Fits ⟨k,[]⟩ a ((d,v)::L)->wpOpsS P ops (Exit.thenS (rest.wpS P (bodyPostS P fn c₀ cs fun e u1 w'=>u1=u'/\R e w')) (bodyPostS P fn c₀ cs fun e u1 w'=>u1=u'/\R e w')) (List.range' (0+1) (ops.size-(0+1))) a cs' w:=by
  rintro cs' ⟨u1,rfl,rfl⟩
  refine qQg _ 1 _ _ w hs ?_
  intro a1 ha1
  have:ops.size-(1+(ops.size-1))=0:=by omega
  rw[this]
  simp only[List.range'_zero,wpOpsS,Exit.thenS]
  refine wpS_of_wp (wpIn_wide.1 (wpIn_mono (h a1 ha1) ?_))
  intro e a2 w2 hq
  cases e with
  |normal=>obtain⟨q1,q2,q3,q4⟩:=hq;exact⟨q1,_,rfl,q2,q3,rfl,q4⟩
  |ret=>obtain⟨q1,q2,q3,q4⟩:=hq;exact⟨q1,_,rfl,q2,q3,rfl,q4⟩
  |panic ch=>obtain⟨q1,q2⟩:=hq;exact⟨q1,_,rfl,rfl,q2⟩
  |outgrown=>exact⟨_,rfl,hq⟩
  |exit _=>exact hq.elim
  |goto _=>exact hq.elim
 subst hu
 have key:recoverD (c₀::cs)=(match recU c₀.mode with|(v,u1)=>match c₀.mode with
   | .panicking ({v:=_,recovered:=false,goexit:=false}::_)=>some (v,{c₀ with mode:=u1}::cs)
   |_=>none):=by
  unfold recoverD recU
  dsimp only
  split<;>simp_all
 rw[key,hu']
 dsimp only
 split
 .rename_i v1 cs1 hm
  split at hm
  .obtain⟨rfl,rfl⟩:=Prod.mk.inj (j6 hm)
   rw[h2]
   exact hmono _ ⟨_,rfl,rfl⟩ _ (ha.put hd v)
  cases hm
 rename_i hm
 have hx:recU c₀.mode=(.nilIface,c₀.mode):=by
  unfold recU
  split
  .rename_i hc;rw[hc] at hm;cases hm
  rfl
 rw[hx] at hu'
 obtain⟨rfl,rfl⟩:=Prod.mk.inj hu'
 rw[h2]
 exact hmono _ ⟨_,rfl,by cases c₀;rfl⟩ _ (ha.put hd _)
end
theorem qVn{σ β:Type}{f:σ->Option (σ⊕β)}(st:Nat->σ)(k:Nat)(res:β)(step:∀i,i<k->f (st i)=some (.inl (st (i+1))))(stop:f (st k)=some (.inr res)){N:Nat}(hN:k<N):qCr f N (st 0)=some res:=by
 have key:∀d i M,i+d=k->d<M->qCr f M (st i)=some res:=by
  intro d
  induction d with
  |zero=>intro i M h hM;obtain⟨M',rfl⟩:∃M',M=M'+1:=⟨M-1,by omega⟩;simp only[kX] at h;subst h;simp[qCr,stop]
  |succ d ih=>
   intro i M h hM
   obtain⟨M',rfl⟩:∃M',M=M'+1:=⟨M-1,by omega⟩
   have:=ih (i+1) M' (by omega) (by omega)
   simp[qCr,step i (by omega),this]
 exact key k 0 N (by omega) hN
section
variable {ν:Type}
theorem qSd{l:List (Int×ν)}{k c:Int}{v:ν}(h:c≠k):mget (l.map fun p=>if k=p.1 then(k,v) else p) c=mget l c:=by
 induction l with
 |nil=>rfl
 |cons p l ih=>
  simp only[jF,mget]
  by_cases hk:k=p.1
  .subst hk;rw[if_pos rfl,if_neg h,if_neg h,ih]
  rw[if_neg hk,ih]
theorem qSb{l:List (Int×ν)}{k:Int}{v:ν}(h:(mget l k).isSome=true):mget (l.map fun p=>if k=p.1 then(k,v) else p) k=some v:=by
 induction l with
 |nil=>cases h
 |cons p l ih=>
  simp only[jF,mget] at h ⊢
  by_cases hk:k=p.1
  .subst hk;simp
  rw[if_neg hk] at h ⊢
  rw[if_neg hk]
  exact ih h
theorem qUp{l:List (Int×ν)}{k:Int}{v:ν}(h:mget l k=none)(c:Int):mget (mins l k v) c=if c=k then some v else mget l c:=by
 induction l with
 |nil=>rfl
 |cons p l ih=>
  simp only[mget] at h
  split at h
  .cases h
  rename_i hk
  simp only[mins]
  split
  .simp only[mget]
  simp only[mget,ih h]
  by_cases hc:c=k
  .subst hc;simp[hk]
  simp[hc]
theorem qUz(l:List (Int×ν))(k:Int)(v:ν)(c:Int):mget (mset l k v) c=if c=k then some v else mget l c:=by
 unfold mset
 split
 .rename_i h
  split
  .rename_i hc;subst hc;exact qSb h
  rename_i hc;exact qSd hc
 rename_i h
 exact qUp (by simpa using h) c
def Srt(l:List (Int×ν)):Prop:=(l.map (·.1)).Pairwise (· < ·)
theorem Srt.nil:Srt ([]:List (Int×ν)):=List.Pairwise.nil
theorem Srt.mins{l:List (Int×ν)}{k:Int}{v:ν}(hs:Srt l)(h:mget l k=none):Srt (mins l k v):=by
 induction l with
 |nil=>simp[Srt,Go.Dc.mins]
 |cons p l ih=>
  have hs':=hs
  simp only[Srt,jF,jM] at hs
  simp only[mget] at h
  split at h
  .cases h
  rename_i hk
  simp only[Go.Dc.mins]
  split
  .rename_i hlt
   have hlt:k<p.1:=by simpa[KOrd.lt] using hlt
   refine jM.2 ⟨fun a ha=> ?_,hs'⟩
   simp only[jF,jD] at ha
   rcases ha with rfl|ha
   .exact hlt
   exact Int.lt_trans hlt (hs.1 a ha)
  rename_i hlt
  have hlt:¬k<p.1:=by simpa[KOrd.lt] using hlt
  refine jM.2 ⟨fun a ha=> ?_,ih hs.2 h⟩
  obtain⟨q,hq,rfl⟩:=List.mem_map.1 ha
  rcases jD.1 ((qRd l k v).mem_iff.1 hq) with rfl|hq
  .show p.1<k;omega
  exact hs.1 _ (k8 hq)
theorem Srt.mset{l:List (Int×ν)}(hs:Srt l)(k:Int)(v:ν):Srt (mset l k v):=by
 unfold Go.Dc.mset
 split
 .unfold Srt
  have:(l.map fun p=>if k=p.1 then(k,v) else p).map (·.1)=l.map (·.1):=by
   rw[List.map_map]
   refine List.map_congr_left fun p _=> ?_
   simp only[Function.comp_apply]
   split
   .rename_i h;exact h
   rfl
  rw[this];exact hs
 rename_i h
 exact hs.mins (by simpa using h)
theorem Srt.out{l:List (Int×ν)}{c:Int}(h:∀a∈l.map (·.1),c<a):mget l c=none:=by
 rw[qOo];intro hm;exact Int.lt_irrefl _ (h c hm)
theorem Srt.ext:∀{l k:List (Int×ν)},Srt l->Srt k->(∀c,mget l c=mget k c)->l=k
 |[],[],_,_,_=>rfl
 |[],q::k,_,_,h=>by have:=h q.1;simp[mget] at this
 |p::l,[],_,_,h=>by have:=h p.1;simp[mget] at this
 |p::l,q::k,hl,hk,h=>by
  have hl':(∀a∈l.map (·.1),p.1<a)/\Srt l:=jM.1 hl
  have hk':(∀a∈k.map (·.1),q.1<a)/\Srt k:=jM.1 hk
  have h1:p.1=q.1:=by
   rcases Int.lt_trichotomy p.1 q.1 with hlt|he|hlt
   .have:=h p.1
    rw[Srt.out (l:=q::k) (c:=p.1)] at this
    .simp[mget] at this
    intro a ha
    rcases jD.1 ha with rfl|ha
    .exact hlt
    exact Int.lt_trans hlt (hk'.1 a ha)
   .exact he
   have:=h q.1
   rw[Srt.out (l:=p::l) (c:=q.1)] at this
   .simp[mget] at this
   intro a ha
   rcases jD.1 ha with rfl|ha
   .exact hlt
   exact Int.lt_trans hlt (hl'.1 a ha)
  have h2:p.2=q.2:=by have:=h p.1;simpa[mget,h1] using this
  have h3:l=k:=by
   refine Srt.ext hl'.2 hk'.2 fun c=> ?_
   by_cases hc:c=p.1
   .rw[Srt.out (l:=l) (fun a ha=>hc▸hl'.1 a ha),Srt.out (l:=k) (fun a ha=>by rw[hc,h1];exact hk'.1 a ha)]
   have:=h c
   simpa[mget,hc,h1▸hc] using this
  rw[h3,Prod.ext h1 h2]
def qJl(v:ν)(m:List (Int×ν))(xs:List UInt8):List (Int×ν):=xs.foldl (fun m x=>mset m (x.toNat:Int) v) m
theorem qPe{v:ν}:∀{xs:List UInt8} {m:List (Int×ν)},Srt m->Srt (qJl v m xs)
 |[],_,h=>h
 |_::xs,_,h=>qPe (xs:=xs) (h.mset _ _)
theorem qPk{v:ν}(c:Int):∀(xs:List UInt8) (m:List (Int×ν)),mget (qJl v m xs) c=if xs.any (fun x=>decide ((x.toNat:Int)=c))=true then some v else mget m c
 |[],m=>by simp[qJl]
 |x::xs,m=>by
  have:=qPk (v:=v) c xs (mset m (x.toNat:Int) v)
  rw[show qJl v m (x::xs)=qJl v (mset m (x.toNat:Int) v) xs from rfl,this,qUz]
  by_cases h1:xs.any (fun x=>decide ((x.toNat:Int)=c))=true
  .simp[h1]
  by_cases h2:(x.toNat:Int)=c
  .subst h2;simp[h1]
  have h3:¬c=(x.toNat:Int):=fun e=>h2 e.symm
  simp[h1,h2,h3]
end
theorem Mem.le.t{a b c:Mem}(h:a.le b)(k:b.le c):a.le c:=Mem.le_trans h k
theorem sI{α:Type}{a b:α}(h:some a=some b):a=b:=j6 h
abbrev GoOn(K:Value->Prop):Ending->Prop
 | .returned v=>K v
 |_=>False
abbrev GoOnF(K:Value->Prop)(F:List PanicEntry->Prop):Ending->Prop
 | .returned v=>K v
 | .panicked ch=>F ch
 |_=>False
theorem GoOn.out{K:Value->Prop}{e:Ending}(h:GoOn K e):∃v,e= .returned v/\K v:=by
 cases e<;>first|exact⟨_,rfl,h⟩|exact h.elim
theorem GoOnF.out{K:Value->Prop}{F:List PanicEntry->Prop}{e:Ending}(h:GoOnF K F e):(∃v,e= .returned v/\K v)\/∃ch,e= .panicked ch/\F ch:=by
 cases e<;>first|exact .inl ⟨_,rfl,h⟩|exact .inr ⟨_,rfl,h⟩|exact h.elim
section
variable {ρ:Option Nat} {P:Program} {n:Fr} {ops:Array Oper} {Q:Exit->Act->World->Prop} {i:Nat} {L:Env} {w:World} {m:Mem} {own:List Piece} {N:Env->World->Prop}
theorem qXi{α β:Type}{f:Nat}{args:Array Value}{x:Option β}{k:β->Option α}{r:α}{T:β->Ending->World->Prop}(d:Nat)(hr:x.bind k=some r)(hF:∀y,x=some y->Calls P f args w (T y))
  (h:∀y,k y=some r->∀e w',T y e w'->GoOn (fun v=>N ((d,v)::L) w') e) (ho:qNb P ops L i=some (some d,f,args):=by kernel_rfl) (hd:Nat.blt d n=true:=by exact rfl):One P n ops Q i N L w:=by
 obtain⟨y,h1,h2⟩:=jB.1 hr
 exact qLb d f args ho hd ((hF y h1).mono fun e w' ht=>(h y h2 e w' ht).out)
theorem qHf{α β:Type}{f:Nat}{args:Array Value}{x:Option β}{k:β->Option α}{r:α}{T:β->Ending->World->Prop}(d:Nat)(hr:x.bind k=some r)(hF:∀y,x=some y->Calls P f args w (T y))
  (h:∀y,k y=some r->∀e w',T y e w'->∃v,e= .returned v/\N ((d,v)::L) w') (ho:qNb P ops L i=some (some d,f,args):=by kernel_rfl) (hd:Nat.blt d n=true:=by exact rfl):One P n ops Q i N L w:=by
 obtain⟨y,h1,h2⟩:=jB.1 hr
 exact qLb d f args ho hd ((hF y h1).mono fun e w' ht=>h y h2 e w' ht)
theorem qBe{α β:Type}{f:Nat}{args:Array Value}{x:Option β}{k:β->Option α}{r:α}{T:β->Ending->World->Prop}(d:Nat)(hr:x.bind k=some r)(hF:∀y,x=some y->Calls P f args w (T y))
  (h:∀y,k y=some r->∀e w',T y e w'->GoOn (fun v=>WO P n ops Q (i+1) ((d,v)::L) w') e) (ho:qNb P ops L i=some (some d,f,args):=by kernel_rfl) (hd:Nat.blt d n=true:=by exact rfl) (hi:Nat.blt i ops.size=true:=by exact rfl):WO P n ops Q i L w:=
 qAa hi (qXi d hr hF h ho hd)
theorem qVr{α β:Type}{f:Nat}{args:Array Value}{x:Option β}{k:β->Option α}{r:α}{T:β->Ending->World->Prop}(d:Nat)(hr:x.bind k=some r)(hF:∀y,x=some y->Calls P f args w (T y))
  (h:∀y,k y=some r->∀e w',T y e w'->GoOnF (fun v=>N ((d,v)::L) w') (fun ch=>X n Q (.panic ch) L w') e) (ho:qNb P ops L i=some (some d,f,args):=by kernel_rfl) (hd:Nat.blt d n=true:=by exact rfl):One P n ops Q i N L w:=by
 obtain⟨y,h1,h2⟩:=jB.1 hr
 exact qHd d f args ho hd ((hF y h1).mono fun e w' ht=>(h y h2 e w' ht).out)
theorem qBb{α β:Type}{f:Nat}{args:Array Value}{x:Option β}{k:β->Option α}{r:α}{T:β->Ending->World->Prop}(d:Nat)(hr:x.bind k=some r)(hF:∀y,x=some y->Calls P f args w (T y))
  (h:∀y,k y=some r->∀e w',T y e w'->GoOnF (fun v=>WO P n ops Q (i+1) ((d,v)::L) w') (fun ch=>X n Q (.panic ch) L w') e) (ho:qNb P ops L i=some (some d,f,args):=by kernel_rfl) (hd:Nat.blt d n=true:=by exact rfl) (hi:Nat.blt i ops.size=true:=by exact rfl):WO P n ops Q i L w:=
 qAa hi (qVr d hr hF h ho hd)
def qPn:List Value->Nat->Env
 |[],_=>[]
 |v::l,k=>(k,v)::qPn l (k+1)
theorem qQp:∀(l:List Value) (k:Nat) (pre:List Value),pre.length=k->(qPn l k).map (fun p=>((pre++l).toArray[p.1]?))=(qPn l k).map fun p=>some p.2
 |[],_,_,_=>rfl
 |v::l,k,pre,h=>by
  simp only[qPn,jF]
  have h1:=qQp l (k+1) (pre++[v]) (by simp[h])
  rw[show pre++[v]++l=pre++v::l by simp] at h1
  rw[h1]
  congr 1
  subst h
  simp
theorem W_cA{f:FuncId}{fn:Func}{c:Code}{args:Array Value}{R:Ending->World->Prop}{k:Nat}(hf:P.funcs[f]? =some fn)(hb:fn.body=some c)(hn:fn.ntmps=k)(h:W none P ⟨k,[]⟩ c (bodyPost P fn R) (qPn args.toList 0) w)
  (hsz:Nat.ble args.size k=true:=by exact rfl):Calls P f args w R:=
 qXf hf hb hn (qPn args.toList 0) (by have:=qQp args.toList 0 [] rfl;simpa using this) hsz h
theorem W_if{α:Type}{c:Operand}{x y:Code}{b:Bool}{A B:Option α}{r:α}(hr:(if b=true then A else B)=some r)
  (ht:b=true->A=some r->W ρ P n x Q L w) (hf:b=false->B=some r->W ρ P n y Q L w) (hc:evL L c=some (.bool b):=by kernel_rfl):W ρ P n (.cond c x y) Q L w:=
 qHs b hc (fun h=>ht h (by rw[if_pos h] at hr;exact hr)) (fun h=>hf h (by rw[if_neg (by rw[h];exact kS)] at hr;exact hr))
theorem WO_e{y:Code}(h:W ρ P n y Q L w)(hi:ops.size=i:=by exact rfl):WO P n ops (Exit.then (fun a w=>y.wpIn (fen ρ) 0 P Q a w) Q) i L w:=qXn hi h
theorem qAd(k:Nat)(new:Env)(h:WO P n ops Q (i+k) (new++L) w)(h1:qRp P n ops k i L (new.map (·.1))=some (new.map fun p=>some p.2):=by kernel_rfl)
 (h2:qKu L new (wrs ops k i)=true:=by kernel_rfl):WO P n ops Q i L w:=qUw k new h1 h2 h
theorem qCc{e:TypeId}{b:Nat}{c:Array Value}{f:Nat×Nat}(k d t x o:Nat)(v:Value)(hp:Piece.holds m w (.blk b (.cells c e f)))(h:WO P n ops Q (i+k+1) ((d,v)::(x,.pointer (some ⟨b,o,none⟩))::L) w)
  (h1:qRp P n ops k i L [x]=some [some (.pointer (some ⟨b,o,none⟩))]:=by kernel_rfl) (h2:qKu L [(x,.pointer (some ⟨b,o,none⟩))] (wrs ops k i)=true:=by kernel_rfl)
  (ho:opAt ops ((x,.pointer (some ⟨b,o,none⟩))::L) (i+k)=some (some d,.load t (.tmp x)):=by kernel_rfl) (hd:Nat.blt d n=true:=by exact rfl) (hv:qMp P t (c.toList.drop o)=some v:=by kernel_rfl) (hi:Nat.blt (i+k) ops.size=true:=by exact rfl):WO P n ops Q i L w:=
 qUw k [(x,.pointer (some ⟨b,o,none⟩))] h1 h2 (qAa hi (qNu v ho hd (by simp[evL,look]) hp hv h))
theorem qAh{y:Code}(k:Nat)(new:Env)(h:W ρ P n y Q (new++L) w)(h1:qRp P n ops k i L (new.map (·.1))=some (new.map fun p=>some p.2):=by kernel_rfl)
 (h2:qKu L new (wrs ops k i)=true:=by kernel_rfl) (hi:ops.size=i+k:=by exact rfl):WO P n ops (Exit.then (fun a w=>y.wpIn (fen ρ) 0 P Q a w) Q) i L w:=qUw k new h1 h2 (qXn hi h)
theorem qEo{b:Nat}{cs:List Value}(d t x o:Nat)(v:Value)(hst:St m own w)(hr:MRow m b o cs)(h:WO P n ops Q (i+1) ((d,v)::L) w)
 (ho:opAt ops L i=some (some d,.load t (.tmp x)):=by kernel_rfl) (hd:Nat.blt d n=true:=by exact rfl) (hx:evL L (.tmp x)=some (.pointer (some ⟨b,o,none⟩)):=by kernel_rfl) (hv:qMp P t cs=some v:=by kernel_rfl)
 (hi:Nat.blt i ops.size=true:=by exact rfl):WO P n ops Q i L w:=qAa hi (qCb v ho hd hx hst hr hv h)
theorem X_rt{k:Nat}{fn:Func}{R:Ending->World->Prop}(ts:List Nat)(vs:List Value)(h:R (.returned (qKv vs)) w)(hf:fn.results=(ts.map ResultVar.tmp).toArray:=by exact rfl)(hl:ts.map (look L)=vs.map some:=by kernel_rfl):X ⟨k,[]⟩ (bodyPost P fn R) .ret L w:=by
 refine qFu (ts.map .tmp) vs hf ?_ h
 clear hf h
 induction ts generalizing vs with
 |nil=>cases vs with
  |nil=>rfl
  |cons v vs=>cases hl
 |cons t ts ih=>cases vs with
  |nil=>cases hl
  |cons v vs=>
   rw[jF,jF,jW] at hl
   exact ResAll.cons (ResAt.tmp hl.1) (ih vs hl.2)
instance opTmp(k:Nat):OfNat Operand k:=⟨.tmp k⟩
theorem qBj{e:TypeId}{b:Nat}{c:Array Value}{f:Nat×Nat}(d t:Nat)(x:Operand)(o:Nat)(v:Value)(hp:Piece.holds m w (.blk b (.cells c e f)))(h:N ((d,v)::L) w)
 (ho:opAt ops L i=some (some d,.load t x):=by kernel_rfl) (hd:Nat.blt d n=true:=by exact rfl) (hx:evL L x=some (.pointer (some ⟨b,o,none⟩)):=by kernel_rfl) (hv:qMp P t (c.toList.drop o)=some v:=by kernel_rfl):One P n ops Q i N L w:=qNu v ho hd hx hp hv h
theorem qFp{e:TypeId}{b:Nat}{c:Array Value}(t:Nat)(x y:Operand)(o:Nat)(v:Value)(c':Array Value)(hst:St m (.blk b (.cells c e (0,0))::own) w)(h:∀w',St m (.blk b (.cells c' e (0,0))::own) w'->N L w')
 (ho:opAt ops L i=some (none,.store t x y):=by kernel_rfl) (hx:evL L x=some (.pointer (some ⟨b,o,none⟩)):=by kernel_rfl) (hy:evL L y=some v:=by kernel_rfl) (hok:qQi P t v o c.size=true:=by kernel_rfl)
 (hc':(c.toList.take o++v.cells.toList++c.toList.drop (o+v.cells.toList.length)).toArray=c':=by kernel_rfl):One P n ops Q i N L w:=qRa ho hx hy hst hok hc' h
theorem qAw{e:TypeId}{b:Nat}{c:Array Value}(t:Nat)(x y:Operand)(v:Value)(hst:St m (.blk b (.cells c e (0,0))::own) w)(h:∀w',St m (.blk b (.cells v.cells e (0,0))::own) w'->N L w')
 (ho:opAt ops L i=some (none,.store t x y):=by kernel_rfl) (hx:evL L x=some (.pointer (some ⟨b,0,none⟩)):=by kernel_rfl) (hy:evL L y=some v:=by kernel_rfl) (hok:qQi P t v 0 c.size=true:=by kernel_rfl)
 (hc':(c.toList.take 0++v.cells.toList++c.toList.drop (0+v.cells.toList.length)).toArray=v.cells:=by kernel_rfl):One P n ops Q i N L w:=qRa ho hx hy hst hok hc' h
theorem qBn(d e:Nat)(v:Value)(hst:St m own w)(h:∀b w',St m (.blk b (.cells v.cells e (0,0))::own) w'->N ((d,.pointer (some ⟨b,0,none⟩))::L) w')
 (ho:opAt ops L i=some (some d,.alloc e):=by kernel_rfl) (hd:Nat.blt d n=true:=by exact rfl) (hz:qWn P e=some v:=by kernel_rfl):One P n ops Q i N L w:=qVd v ho hd hz hst h
theorem qLr(d e:Nat)(x:Operand)(v:Value)(hst:St m own w)(h:∀b w',St m (.blk b (.cells v.cells e (0,0))::own) w'->N ((d,.pointer (some ⟨b,0,none⟩))::L) w')
 (ho:opAt ops L i=some (some d,.box e x):=by kernel_rfl) (hd:Nat.blt d n=true:=by exact rfl) (hx:evL L x=some v:=by kernel_rfl):One P n ops Q i N L w:=qOt v ho hd hx hst h
theorem qDd(d e:Nat)(x:Operand)(v:Value)(hst:St m own w)(h:∀b m' w',m.le m'->St m' own w'->MRow m' b 0 v.cells.toList->N ((d,.pointer (some ⟨b,0,none⟩))::L) w')
 (ho:opAt ops L i=some (some d,.box e x):=by kernel_rfl) (hd:Nat.blt d n=true:=by exact rfl) (hx:evL L x=some v:=by kernel_rfl):One P n ops Q i N L w:=qWt v ho hd hx hst h
theorem xE{e:Exit}{L':Env}(h:X n Q e L' w)(hs:L'.map (fun p=>look L p.1)=L'.map fun p=>some p.2:=by kernel_rfl):X n Q e L w:=qMc L' hs h
theorem iA{m':Mem}{p:Prop}(st:St m' own w)(h:m.le m'):p\/Inv m w/\True:= .inr ⟨Inv.anti st.inv h,trivial⟩
theorem qKb{α:Type}{k:UInt8->Option α}{r:α}{s:ByteArray}{ix:Int}(d t:Nat)(x y:Operand)(hr:(idxB s ix).bind k=some r)(h:∀z:UInt8,k z=some r->N ((d,.int .u8 (z.toNat:Int))::L) w)
  (ho:opAt ops L i=some (some d,.index t x y):=by kernel_rfl) (hd:Nat.blt d n=true:=by exact rfl) (hx:evL L x=some (.string s):=by kernel_rfl) (hy:evL L y=some (.int .i64 ix):=by kernel_rfl) (hu:P.underlying t=some .string:=by kernel_rfl):One P n ops Q i N L w:=by
 obtain⟨z,h1,h2⟩:=qAu hr;exact qRb (k:= .i64) ho hd hx hy hu h1 (h z h2)
theorem qFe{α β:Type}{c:Codec α}{a:Option Addr}{cap:Nat}{l:List α}{ix:Int}{k:α->Option β}{r:β}(d t e:Nat)(x y:Operand)(hrp:RepS c m a cap l)(hr:(idx l ix).bind k=some r)
  (h:∀z,k z=some r->∀b o cs,c.rep m z cs->MRow m b o cs->N ((d,.pointer (some ⟨b,o,none⟩))::L) w) (ho:opAt ops L i=some (some d,.indexAddr t x y):=by kernel_rfl) (hd:Nat.blt d n=true:=by exact rfl)
  (hx:evL L x=some (.slice a l.length cap):=by kernel_rfl) (hy:evL L y=some (.int .i64 ix):=by kernel_rfl) (hi:qJp P t=some (e,c.sz):=by kernel_rfl):One P n ops Q i N L w:=by
 obtain⟨z,h1,h2⟩:=qAu hr;exact qUv (k:= .i64) c ho hd hx hy hi hrp h1 (h z h2)
theorem qHt{α β:Type}{c:Codec α}{a:Option Addr}{cap:Nat}{l k:List α}{v:Value}{f:List α->Option β}{r:β}(d t u e by_:Nat)(x y:Operand)(hst:St m (.room a l.length cap e c.sz::own) w)(hu:qQv P u e)(hrp:RepS c m a cap l)(hg:qUa P c m v k)(hr:(qFb by_ l k).bind f=some r)
  (h:∀z,f z=some r->∀a' cap' m' w',m.le m'->St m' (.room a' (List.length z) cap' e c.sz::own) w'->RepS c m' a' cap' z->N ((d,.slice a' (List.length z) cap')::L) w')
  (ho:opAt ops L i=some (some d,.call {callee:= .builtin .append,args:= #[x,y],argTypes:= #[t,u]}):=by kernel_rfl) (hd:Nat.blt d n=true:=by exact rfl) (hx:evL L x=some (.slice a l.length cap):=by kernel_rfl) (hy:evL L y=some v:=by kernel_rfl)
  (hi:qIg P t=some (e,c.sz,by_,c.sz):=by kernel_rfl):One P n ops Q i N L w:=by
 obtain⟨z,h1,h2⟩:=qAu hr;exact qTk c ho hd hx hy hst hi hu hrp hg h1 (h z h2)
theorem qEt{α:Type}{b:Bool}{A B:Option α}{r:α}(t:Nat)(hr:(if b=true then A else B)=some r)(ht:b=true->A=some r->WO P n ops Q i ((t,.bool true)::L) w)(hf:b=false->B=some r->WO P n ops Q i ((t,.bool false)::L) w)
  (hl:look L t=some (.bool b):=by kernel_rfl):WO P n ops Q i L w:=by
 cases b with
 |true=>exact qUo true hl rfl (ht rfl (by rw[if_pos rfl] at hr;exact hr))
 |false=>exact qUo false hl rfl (hf rfl (by rw[if_neg kS] at hr;exact hr))
theorem tA{m':Mem}{p x:Prop}(st:St m' own w)(h:m.le m')(k:x):((p\/Inv m w/\True)/\True)/\x:=⟨⟨iA st h,trivial⟩,k⟩
class QC(Q:Exit->Act->World->Prop):Prop where
 out:QP Q
instance qc1{K:Act->World->Prop}[h:QC Q]:QC (Exit.then K Q):=⟨qEn h.out⟩
instance qc2{id:Nat}[h:QC Q]:QC (Exit.inBlock id Q):=⟨qIs h.out⟩
instance qc3{fn:Func}{R:Ending->World->Prop}:QC (bodyPost P fn R):=⟨qHh⟩
instance qc4[h:QC Q]:QC (qTb Q):=⟨h.out⟩
instance qc5{fn:Func}{R:Ending->World->Prop}:QC (qUk P fn R):=⟨fun _ _ _ _ _ h=>h⟩
instance qc6{l:Nat}{R:Ending->World->Prop}:QC (roundPost P l R):=⟨fun _ _ _ _ _ h=>h⟩
instance qc7{l:Nat}{body:Code}{R:Ending->World->Prop}:QC (qVb P l body R):=⟨fun _ _ _ _ _ h=>h⟩
instance qc8:QC (noP Q):=⟨fun _ _ _ _ _ h=>h⟩
variable [hq:QC Q] {ks:List (Nat×(World->Prop))} {k fuel:Nat} {S:World->Prop} {done:List Nat}
theorem qAn(i d:Nat)(v:Value)(hmem:(k,S)∈ks)(h:WA P n ops Q ks fuel (done++[i]) ((d,v)::L) w)(ho:qUr P ops L i=some (d,v):=by kernel_rfl)(hd:Nat.blt d n=true:=by exact rfl)(hs:qLa ops ks k i done=true:=by kernel_rfl):WA P n ops Q ks (fuel+1) done L w:=
 qXg i d v ho hd hs hmem hq.out h
theorem qDo(i d:Nat)(hmem:(k,S)∈ks)(h:WA P n ops Q ks fuel (done++[i]) ((d,undef)::L) w)(ho:((ops[i]?).bind fun o=>(qFf ops L o.guard).map fun b=>(o.dst,b))=some (some d,false):=by kernel_rfl)(hd:Nat.blt d n=true:=by exact rfl)
 (hs:qLa ops ks k i done=true:=by kernel_rfl):WA P n ops Q ks (fuel+1) done L w:=qYj i d ho hd hs hmem hq.out h
theorem qDb{e:Nat}{b:Nat}{c:Array Value}{f:Nat×Nat}(t':Nat)(x:Operand)(i d o:Nat)(v:Value)(hmem:(k,S)∈ks)(hI:∀w,S w->Piece.holds m w (.blk b (.cells c e f)))(h:WA P n ops Q ks fuel (done++[i]) ((d,v)::L) w)
  (ho:opAt ops L i=some (some d,.load t' x):=by kernel_rfl) (hd:Nat.blt d n=true:=by exact rfl) (hs:qLa ops ks k i done=true:=by kernel_rfl) (hx:evL L x=some (.pointer (some ⟨b,o,none⟩)):=by kernel_rfl) (hv:qMp P t' (c.toList.drop o)=some v:=by kernel_rfl):WA P n ops Q ks (fuel+1) done L w:=
 qRz i d v ho hd hs hmem hq.out hI hx hv h
theorem qFn{b:Nat}{cs:List Value}(t:Nat)(x:Operand)(i d o:Nat)(v:Value)(hmem:(k,S)∈ks)(hI:∀w,S w->Inv m w)(hr:MRow m b o cs)(h:WA P n ops Q ks fuel (done++[i]) ((d,v)::L) w)
  (ho:opAt ops L i=some (some d,.load t x):=by kernel_rfl) (hd:Nat.blt d n=true:=by exact rfl) (hs:qLa ops ks k i done=true:=by kernel_rfl) (hx:evL L x=some (.pointer (some ⟨b,o,none⟩)):=by kernel_rfl) (hv:qMp P t cs=some v:=by kernel_rfl):WA P n ops Q ks (fuel+1) done L w:=
 qRq i d v ho hd hs hmem hq.out hI hx hr hv h
end
end
end Go.Dc
section
abbrev Prod.d{α β γ:Type}(x:α×β×γ):γ:=x.2.2
abbrev Prod.e{α β γ δ:Type}(x:α×β×γ×δ):δ:=x.2.2.2
abbrev Prod.f{α β γ δ ε:Type}(x:α×β×γ×δ×ε):ε:=x.2.2.2.2
abbrev Prod.h{α β γ δ ε ζ:Type}(x:α×β×γ×δ×ε×ζ):ζ:=x.2.2.2.2.2
abbrev Prod.j{α β γ δ ε ζ η:Type}(x:α×β×γ×δ×ε×ζ×η):η:=x.2.2.2.2.2.2
abbrev Prod.k{α β γ δ ε ζ η θ:Type}(x:α×β×γ×δ×ε×ζ×η×θ):θ:=x.2.2.2.2.2.2.2
namespace Go.Dc
class Enc{α:Type}(c:Codec α) where
 enc:α->List Value
 ok:∀m x,c.rep m x (enc x)
instance encStr:Enc cStr:=⟨fun x=>[.string x],fun _ _=>rfl⟩
instance encInt{k:IntKind}:Enc (cInt k):=⟨fun x=>[.int k x],fun _ _=>rfl⟩
instance encBool:Enc qBv:=⟨fun x=>[.bool x],fun _ _=>rfl⟩
instance encPair{α β:Type}{a:Codec α}{b:Codec β}[A:Enc a][B:Enc b]:Enc (qLf a b):=⟨fun x=>A.enc x.1++B.enc x.2,fun m x=>⟨_,_,rfl,A.ok m x.1,B.ok m x.2⟩⟩
section
variable {ρ:Option Nat} {P:Program} {n:Fr} {ops:Array Oper} {Q:Exit->Act->World->Prop} {i:Nat} {L:Env} {w:World} {m:Mem} {own:List Piece}
class RetQ(P:outParam Program)(Q:Exit->Act->World->Prop)(fn:outParam Func)(R:outParam (Ending->World->Prop)):Prop where
 out:∀a w,bodyPost P fn R .ret a w->Q .ret a w
instance rq1{fn:Func}{R:Ending->World->Prop}:RetQ P (bodyPost P fn R) fn R:=⟨fun _ _ h=>h⟩
instance rq2{fn:Func}{R:Ending->World->Prop}{K:Act->World->Prop}[h:RetQ P Q fn R]:RetQ P (Exit.then K Q) fn R:=⟨h.out⟩
instance rq3{fn:Func}{R:Ending->World->Prop}{id:Nat}[h:RetQ P Q fn R]:RetQ P (Exit.inBlock id Q) fn R:=⟨h.out⟩
end
end Go.Dc
end
namespace Go.Proofs.YtadnagdgimicdaaGreatDoor
section
open Go Go.Dc
abbrev T4:=Option Int
abbrev T5:=Option Bool
abbrev T6:=ByteArray
abbrev T7:=T6×Int
abbrev T8:=List T6
abbrev T9:=T6×Int×T8
abbrev Ta:=Int×T6
abbrev Tb:=Int×Int
abbrev Tc:=List Tb
abbrev Td:=Option Tc
abbrev Te:=List Ta
abbrev Tf:=Option Nat
abbrev Tg:=List Int
abbrev Th:=T6×T6
abbrev Ti:=List Th
abbrev Tj:=Int×T6×Tb
abbrev Tk:=List Tj
abbrev Tl:=Int×Int×Int×T6×Tg
abbrev Tm:=List Tl
abbrev Tn:=Tk×Int×T8×Tm
abbrev To:=Tn×Tj
abbrev Tp:=Tb⊕Tn
abbrev Tq:=Tn⊕Tp
abbrev Tr:=Tb⊕To
abbrev Ts:=Unit⊕Tr
abbrev Tt:=T8×Tn
abbrev Tu:=Tb⊕Tn×T8
abbrev Tv:=Unit⊕Tt⊕Tt⊕Tu
abbrev Tw:=Tn×Int
abbrev Tx:=Tb⊕Tw
abbrev Ty:=Option Tx
abbrev Tz:=Unit⊕Tx
abbrev T10:=Tn×Tg
abbrev T11:=Tb⊕T10
abbrev T12:=Option T11
abbrev T13:=Tg×Tn
abbrev T14:=Int×Int×T6×T13⊕Tx
abbrev T15:=Unit⊕T14
abbrev T16:=Int×T6×T8×Tm
abbrev T17:=List T16
abbrev T18:=List T7
abbrev T19:=Tk×Int×T8×Tm×Tj
abbrev T1a:=Tb⊕Tn×T16
abbrev T1b:=Unit⊕T1a
abbrev T1c:=Tk×Int×T8×Tm×T8
abbrev T1d:=T6×T8×T17
abbrev T1e:=Tb⊕Tn×T1d
abbrev T1f:=T1c⊕T1c⊕T1e
abbrev T1g:=Tk×Int×T8×Tm×T17
abbrev T1h:=Int×Th
abbrev T1i:=T6×T6×Tj
abbrev T1j:=Option (List (T1h×T1i))
abbrev T1k:=T6×T1d
abbrev T1l:=T8×Option (List T1k)×T1j
abbrev T1m:=Ti×Bool×Option (List T1k)×T8×T1j
abbrev T1n:=Option (List (T1h×Bool))
abbrev T1o:=T1m×T18×Int×T1n×Int×Int×Bool×Option (List (Int×Tf))
abbrev T1p:=T1d×T16×Tg
abbrev T1q:=T1n×Int×Int×Bool
abbrev T1r:=Int×T1q
abbrev T1s:=T1q×Int
abbrev T1t:=T1r⊕T1s
abbrev T1u:=Option T1t
abbrev T1v:=List T1h
abbrev T1w:=T6×T6×Int×T6×Int×Int×T1v
abbrev T1x:=T1i×T1v×Int
abbrev T1y:=Int×Int×Bool×T1n
abbrev T1z:=Tg×Int×T1y
abbrev T20:=(Int×Tb)×Bool×T1v×Int
abbrev T21:=T1q×T20
abbrev C1:=qLf cStr cStr
abbrev C2:=cInt .i64
abbrev C3:=qLf C2 (qLf cStr (qLf C2 C2))
abbrev C4:=qLf C2 (qLf C2 (qLf C2 (qLf cStr (cSl C2))))
abbrev C5:=qLf C2 (qLf cStr (qLf (cSl cStr) (cSl C4)))
abbrev C6:=qLf cStr (qLf (cSl cStr) (cSl C5))
abbrev C7:=qLf cStr (qLf cStr C3)
abbrev C8:=qLf cStr C2
abbrev C9:=qLf C2 C1
abbrev vS{α:Type}(a:Option Addr)(l:List α)(c:Nat):Value:= .slice a (List.length l) c
abbrev vP(b o:Nat):Value:= .pointer (some ⟨b,o,none⟩)
abbrev vI(x:Int):Value:= .int .i64 x
abbrev vT(s:ByteArray):Value:= .string s
abbrev vB(b:Bool):Value:= .bool b
abbrev eB:ByteArray:=⟨#[]⟩
abbrev aP(b:Nat):Option Addr:=some ⟨b,0,none⟩
abbrev kB(b:Nat)(c:Array Value)(e:Nat):Piece:= .blk b (.cells c e (0,0))
abbrev kR{α:Type}(a:Option Addr)(l:List α)(c e s:Nat):Piece:= .room a (List.length l) c e s
abbrev V1(p:ByteArray×ByteArray):Array Value:= #[vT p.1,vT p.2]
abbrev V2(p:Int×ByteArray×Int×Int):Array Value:= #[vI p.1,vT p.2.1,vI p.2.2.1,vI p.2.2.2]
abbrev V3(x0:Int)(x1:ByteArray)(x2:Int)(x3:Int):Array Value:= #[vI x0,vT x1,vI x2,vI x3]
abbrev V4{α0:Type}{α2:Type}{α3:Type}(p:List α0×Int×List α2×List α3)(a0:Option Addr)(c0:Nat)(a2:Option Addr)(c2:Nat)(a3:Option Addr)(c3:Nat):Array Value:= #[vS a0 p.1 c0,vI p.2.1,vS a2 p.2.2.1 c2,vS a3 p.2.2.2 c3]
abbrev V5(p:Int×Int):Array Value:= #[vI p.1,vI p.2]
abbrev V6{α4:Type}(p:Int×Int×Int×ByteArray×List α4)(a4:Option Addr)(c4:Nat):Array Value:= #[vI p.1,vI p.2.1,vI p.2.2.1,vT p.2.2.2.1,vS a4 p.2.2.2.2 c4]
abbrev V7{α4:Type}(p:Int×Int×Int×ByteArray×List α4)(a4:Option Addr)(c4:Nat):List Value:=[vI p.1,vI p.2.1,vI p.2.2.1,vT p.2.2.2.1,vS a4 p.2.2.2.2 c4]
abbrev V8{α2:Type}{α3:Type}(p:Int×ByteArray×List α2×List α3)(a2:Option Addr)(c2:Nat)(a3:Option Addr)(c3:Nat):Array Value:= #[vI p.1,vT p.2.1,vS a2 p.2.2.1 c2,vS a3 p.2.2.2 c3]
abbrev V9{α1:Type}{α2:Type}(p:ByteArray×List α1×List α2)(a1:Option Addr)(c1:Nat)(a2:Option Addr)(c2:Nat):Array Value:= #[vT p.1,vS a1 p.2.1 c1,vS a2 p.2.2 c2]
abbrev Va(x0:Int)(x1:ByteArray)(x2:ByteArray):Array Value:= #[vI x0,vT x1,vT x2]
abbrev Vb(p:Int×ByteArray×ByteArray):Array Value:= #[vI p.1,vT p.2.1,vT p.2.2]
abbrev Vc(x0:ByteArray)(x1:ByteArray)(x2:Int)(x3:ByteArray)(x4:Int)(x5:Int):Array Value:= #[vT x0,vT x1,vI x2,vT x3,vI x4,vI x5]
abbrev Vd(p:ByteArray×ByteArray×Int×ByteArray×Int×Int):Array Value:= #[vT p.1,vT p.2.1,vI p.2.2.1,vT p.2.2.2.1,vI p.2.2.2.2.1,vI p.2.2.2.2.2]
abbrev Ve{α1:Type}{α2:Type}{α5:Type}{α6:Type}{α7:Type}(x0:ByteArray)(a1:Option Addr)(l1:List α1)(c1:Nat)(a2:Option Addr)(l2:List α2)(c2:Nat)(x3:Int)(x4:ByteArray)(a5:Option Addr)(l5:List α5)(c5:Nat)(a6:Option Addr)(l6:List α6)(c6:Nat)(a7:Option Addr)(l7:List α7)(c7:Nat):Array Value:= #[vT x0,vS a1 l1 c1,vS a2 l2 c2,vI x3,vT x4,vS a5 l5 c5,vS a6 l6 c6,vS a7 l7 c7]
abbrev Vf(p:Int×Int×Int):Array Value:= #[vI p.1,vI p.2.1,vI p.2.2]
abbrev Vg(x0:Int)(x1:Int)(x2:Int):Array Value:= #[vI x0,vI x1,vI x2]
abbrev Vh(p:Int×ByteArray×ByteArray):List Value:=[vI p.1,vT p.2.1,vT p.2.2]
abbrev Vi{α4:Type}(x0:Int)(x1:Int)(x2:Int)(x3:Bool)(a4:Option Addr)(l4:List α4)(c4:Nat)(x5:Int):Array Value:= #[vI x0,vI x1,vI x2,vB x3,vS a4 l4 c4,vI x5]
abbrev ba:ByteArray:=⟨#[97,98,99,100,101,102,103,104,105,106,107,108,109,110,111,112,113,114,115,116,117,118,119,120,121,122]⟩
abbrev bb:ByteArray:=⟨#[48,49,50,51,52,53,54,55,56,57]⟩
abbrev bc:ByteArray:=⟨#[95]⟩
abbrev bd:ByteArray:=⟨#[46]⟩
abbrev be:ByteArray:=⟨#[9,10,13,32]⟩
abbrev bf:ByteArray:=⟨#[35]⟩
abbrev bg:ByteArray:=⟨#[34]⟩
abbrev bh:ByteArray:=⟨#[59,44,40,41,43,45,42,47,37,60,61]⟩
abbrev bi:ByteArray:=⟨#[102,117,110,99]⟩
abbrev bj:ByteArray:=⟨#[116,101,115,116]⟩
abbrev bk:ByteArray:=⟨#[103,101,110]⟩
abbrev bl:ByteArray:=⟨#[114,101,97,100]⟩
abbrev bm:ByteArray:=⟨#[115,105,122,101]⟩
abbrev bn:ByteArray:=⟨#[104,97,115]⟩
abbrev bo:ByteArray:=⟨#[101,110,118]⟩
abbrev bp:ByteArray:=⟨#[43]⟩
abbrev bq:ByteArray:=⟨#[45]⟩
abbrev br:ByteArray:=⟨#[42]⟩
abbrev bs:ByteArray:=⟨#[47]⟩
abbrev bt:ByteArray:=⟨#[37]⟩
abbrev bu:ByteArray:=⟨#[60]⟩
abbrev bv:ByteArray:=⟨#[61,61]⟩
abbrev bw:ByteArray:=⟨#[97,46,115,114,99]⟩
abbrev bx:ByteArray:=⟨#[112,97,99,107,97,103,101,32,112,59,32,102,117,110,99,32,102,40,120,41,32,61,32,120,32,42,32,120,59,32,116,101,115,116,32,116,32,61,32,102,40,50,41,32,61,61,32,52,59]⟩
abbrev bz:ByteArray:=⟨#[112]⟩
abbrev b17:ByteArray:=⟨#[116]⟩
abbrev b18:ByteArray:=⟨#[112,97,99,107,97,103,101,32,112,59,32,102,117,110,99,32,102,40,110,41,32,61,32,105,102,32,110,32,60,32,49,32,116,104,101,110,32,55,32,101,108,115,101,32,102,40,110,32,45,32,49,41,59,32,102,117,110,99,32,103,40,110,41,32,61,32,105,102,32,110,32,60,32,49,32,116,104,101,110,32,49,32,101,108,115,101,32,103,40,110,32,45,32,49,41,32,43,32,103,40,110,32,45,32,49,41,59,32,103,101,110,32,34,99,34,32,61,32,51,48,48,59,32,102,117,110,99,32,104,40,110,41,32,61,32,114,101,97,100,40,34,99,34,44,32,110,41,32,43,32,114,101,97,100,40,34,99,34,44,32,48,41,59,32,103,101,110,32,34,100,34,32,61,32,114,101,97,100,40,34,100,34,44,32,48,41,59,32,116,101,115,116,32,116,32,61,32,114,101,97,100,40,34,100,34,44,32,48,41,59]⟩
abbrev P1{X1:Type}(m:Mem)(a0:Option Addr)(c0:Nat)(a1:Option Addr)(c1:Nat)(a2:Option Addr)(c2:Nat)(p:(List ((Int)×((ByteArray)×((Int)×(Int)))))×((X1)×((List (ByteArray))×(List ((Int)×((Int)×((Int)×((ByteArray)×(List (Int)))))))))):Prop:=RepS C3 m a0 c0 p.1/\RepS cStr m a1 c1 p.2.2.1/\RepS C4 m a2 c2 p.2.2.2
abbrev P2{X1:Type}(m:Mem)(a0:Option Addr)(c0:Nat)(a1:Option Addr)(c1:Nat)(a2:Option Addr)(c2:Nat)(a3:Option Addr)(c3:Nat)(p:((List ((Int)×((ByteArray)×((Int)×(Int)))))×((X1)×((List (ByteArray))×(List ((Int)×((Int)×((Int)×((ByteArray)×(List (Int))))))))))×(List (Int))):Prop:=RepS C3 m a0 c0 p.1.1/\RepS cStr m a1 c1 p.1.2.2.1/\RepS C4 m a2 c2 p.1.2.2.2/\RepS (cInt .i64) m a3 c3 p.2
abbrev P3{X1:Type}(m:Mem)(a0:Option Addr)(c0:Nat)(a1:Option Addr)(c1:Nat)(a2:Option Addr)(c2:Nat)(a3:Option Addr)(c3:Nat)(p:(List (Int))×((List ((Int)×((ByteArray)×((Int)×(Int)))))×((X1)×((List (ByteArray))×(List ((Int)×((Int)×((Int)×((ByteArray)×(List (Int))))))))))):Prop:=RepS (cInt .i64) m a0 c0 p.1/\RepS C3 m a1 c1 p.2.1/\RepS cStr m a2 c2 p.2.2.2.1/\RepS C4 m a3 c3 p.2.2.2.2
abbrev _root_.Go.Dc.St.f1:=@Go.Dc.St.front1
abbrev _root_.Go.Dc.St.f10:=@Go.Dc.St.front10
abbrev _root_.Go.Dc.St.f11:=@Go.Dc.St.front11
abbrev _root_.Go.Dc.St.f2:=@Go.Dc.St.front2
abbrev _root_.Go.Dc.St.f3:=@Go.Dc.St.front3
abbrev _root_.Go.Dc.St.f4:=@Go.Dc.St.front4
abbrev _root_.Go.Dc.St.f5:=@Go.Dc.St.front5
abbrev _root_.Go.Dc.St.f6:=@Go.Dc.St.front6
abbrev _root_.Go.Dc.St.f7:=@Go.Dc.St.front7
abbrev _root_.Go.Dc.St.f8:=@Go.Dc.St.front8
abbrev _root_.Go.Dc.St.f9:=@Go.Dc.St.front9
abbrev _root_.Go.Dc.St.h:=@Go.Dc.St.head
abbrev _root_.Go.Dc.St.t:=@Go.Dc.St.tail
abbrev wr(x:Int):Int:=IntKind.wrap .i64 x
abbrev v1:Value:=vS none ([]:T8) 0
abbrev v2:Value:=vS none ([]:Tk) 0
abbrev v6:Value:= .slice none 0 0
abbrev v7:Value:=vS none ([]:Tg) 0
abbrev v8:Value:=vS none ([]:Tm) 0
abbrev va:Value:=vS none ([]:T17) 0
abbrev vb:Value:=vS none ([]:T1v) 0
abbrev vc:Value:=vS none ([]:T18) 0
end
end Go.Proofs.YtadnagdgimicdaaGreatDoor
