/- No condition but those of each theorem. -/
import Derived.Test.YtfbdkahdgbimeaaGreatDoorProg
import Derived.WalkKit
import Derived.Deep.LoopGhost
import Derived.KernelRfl
import Derived.OrdersHeld
import Derived.OrdersIn
import Derived.LoopNIn
import Derived.Sort.LoopGhostIn
import Derived.Laws.AppendOwn
import Derived.RangeFuncLeaves
import Derived.RangeFuncRecord
import Derived.MapKept
import Derived.Maps.RangeRun
import Derived.ChangeKeysEq
import Derived.HandedShaped
import Derived.ChangeStays
import Derived.ChangeSame
import Derived.OpenShut
import Derived.WideShapes
import Derived.JoinedOf
import Derived.ReadAgain
import Derived.ChangeAt
import Derived.RowKit
import Derived.Lib.Overlaps
import Derived.Shelf.SlSortCmp.NoneTotal
import Derived.WalkSmall
import Derived.Recover
namespace Go
section
abbrev jA:=@Option.bind_some
abbrev jB:=@decide_eq_true_eq
abbrev jC:=@Bool.false_eq_true
abbrev jD:=@List.length_cons
abbrev jE:=@List.length_nil
abbrev jF:=@List.length_append
abbrev jG:=@Nat.lt_succ_self
abbrev jH:=@if_false
abbrev jI:=@if_true
abbrev jJ:=@List.mem_cons_self
abbrev jK:=@Option.some.injEq
abbrev jL:=@List.mem_cons_of_mem
abbrev jM:=@List.mem_cons
abbrev jN:=@Bool.and_eq_true
abbrev jO:=@List.append_assoc
abbrev jP:=@List.getElem_mem
abbrev jQ:=@List.drop_eq_nil_of_le
abbrev jR:=@List.drop_eq_getElem_cons
abbrev jS:=@Int.toNat_natCast
abbrev jT:=@List.all_eq_true
abbrev jU:=@Nat.le_refl
abbrev jV:=@Option.bind_eq_some_iff
abbrev jW:=@List.size_toArray
abbrev jX:=@List.eq_nil_of_length_eq_zero
abbrev jY:=@decide_eq_false
abbrev jZ:=@Option.some.inj
abbrev k0:=@Nat.zero_le
abbrev k9:=@List.map_cons
abbrev kA:=@List.drop_zero
abbrev kC:=@beq_iff_eq
abbrev kD:=@List.pairwise_cons
abbrev kE:=@Bool.eq_iff_iff
abbrev kF:=@List.nil_append
abbrev kG:=@decide_eq_true
abbrev kH:=@Nat.mul_le_mul_right
abbrev kI:=@Nat.add_mul
abbrev kJ:=@Bool.not_false
abbrev kK:=@Nat.zero_add
abbrev kL:=@List.mem_append
abbrev kM:=@Bool.not_true
abbrev kN:=@List.length_take
abbrev kO:=@List.take_succ_eq_append_getElem
abbrev kP:=@List.flatMap_cons
abbrev kQ:=@List.cons_append
abbrev kS:=@List.mem_append_left
abbrev kT:=@List.length_eq_zero_iff
abbrev kU:=@List.mem_map
abbrev kV:=@Nat.not_lt_zero
abbrev kW:=@List.take_of_length_le
abbrev kX:=@List.getD_eq_getElem?_getD
abbrev kY:=@List.mem_singleton
abbrev kZ:=@List.foldl_cons
abbrev g9:=@List.cons.injEq
abbrev gA:=@List.take_append_of_le_length
abbrev gB:=@List.mem_flatMap
abbrev gC:=@of_decide_eq_true
abbrev gD:=@Nat.le_of_ble_eq_true
abbrev gE:=@List.mem_append_right
abbrev gF:=@List.length_map
abbrev gG:=@List.length_drop
abbrev gH:=@List.perm_middle
abbrev gI:=@List.drop_append_of_le_length
abbrev gJ:=@List.mem_map_of_mem
abbrev gK:=@bne_self_eq_false
abbrev gL:=@Option.map_some
abbrev gM:=@List.mem_filter
abbrev gN:=@Bool.false_ne_true
abbrev gO:=@List.takeWhile_cons_of_pos
abbrev gP:=@Option.map_eq_some_iff
abbrev gQ:=@Nat.add_assoc
abbrev gS:=@Bool.false_or
abbrev gT:=@List.nodup_cons
abbrev gU:=@beq_self_eq_true
abbrev gV:=@List.any_eq_true
abbrev gW:=@Bool.true_and
abbrev gX:=@Nat.add_zero
abbrev gY:=@Option.bind_assoc
abbrev gZ:=@List.length_pos_iff
abbrev f0:=@Int.le_refl
abbrev fA:=@Array.toList_modify
abbrev fB:=@Array.length_toList
abbrev fC:=@List.takeWhile_cons_of_neg
abbrev fD:=@List.not_mem_nil
abbrev fE:=@List.filter_cons
abbrev fF:=@Int.natCast_succ
abbrev fG:=@Nat.eq_of_beq_eq_true
abbrev fH:=@List.take_append_drop
abbrev fI:=@Int.toNat_zero
abbrev fJ:=@List.append_nil
abbrev fK:=@Array.toList_push
abbrev fL:=@Nat.le_trans
abbrev fM:=@List.filterMap_cons
abbrev fN:=@List.all_eq_not_any_not
abbrev fO:=@List.mem_iff_getElem?
abbrev fP:=@List.length_replicate
abbrev fQ:=@Bool.or_eq_true
abbrev fR:=@bne_iff_ne
abbrev fS:=@List.map_inj_left
abbrev fT:=@List.foldl_append
abbrev fU:=@List.ext_getElem?
abbrev fV:=@Bool.not_eq_true'
abbrev fW:=@Bool.or_eq_false_iff
abbrev fX:=@List.mem_range
abbrev fY:=@List.extract_eq_take_drop
abbrev fZ:=@List.drop_append
abbrev hU:=@Nat.one_mul
abbrev hY:=@List.toList_toArray
abbrev hZ:=@List.map_congr_left
abbrev dA:=@List.getElem_modify
abbrev dB:=@List.flatMap_append
abbrev dC:=@Nat.pow_succ
abbrev dD:=@Nat.add_sub_cancel
abbrev dE:=@List.sum_cons
abbrev dF:=@List.map_append
abbrev dG:=@List.length_set
abbrev dH:=@List.getElem_cons_drop
abbrev dI:=@List.nodup_append
abbrev dJ:=@Nat.mul_comm
abbrev dK:=@Nat.lt_or_ge
abbrev dL:=@Nat.add_comm
abbrev dM:=@List.take_length
abbrev dN:=@List.any_cons
abbrev dO:=@Nat.mul_one
end
end Go
namespace Go.Dc
section
theorem kr{p:Prop}(h:p:=by kernel_rfl):p:=h
abbrev Env:=List (Nat×Value)
def look:Env→Nat→Option Value
 |[],_=>none
 |(k,v)::L,t=>bif Nat.beq k t then some v else look L t
theorem zHx(A L:Env)(t:Nat):look (A++L) t=(look A t).or (look L t):=by
 induction A with
 |nil=>simp[look]
 |cons p A ih=>obtain⟨k,v⟩:=p;simp only[kQ,look];cases Nat.beq k t<;>simp[ih]
def evL(L:Env):Operand→Option Value
 | .tmp t=>look L t
 | .const v=>some v
 | .global g=>some (.pointer (some ⟨g,0,none⟩))
 | .func f=>some (.func (.func f) #[] #[])
theorem ev{L:Env}{x:Operand}(v:Value)(h:evL L x=some v:=by kernel_rfl):evL L x=some v:=h
def evD(L:Env)(x:Operand):Value:=(evL L x).getD undef
structure Fr where
 sz:Nat
 marks:List Deferred
instance:Coe Fr Nat:=⟨Fr.sz⟩
def Fits(n:Fr)(a:Act)(L:Env):Prop:=a.tmps.size=n.sz∧a.defers=n.marks∧∀t v,look L t=some v→a.tmps[t]? =some v
theorem Fits.ev{n:Fr}{a:Act}{L:Env}(h:Fits n a L){x:Operand}{v:Value}(hx:evL L x=some v):a.eval x=v:=by
 cases x with
 |tmp t=>simp[Act.eval,h.2.2 t v hx]
 |const u=>simp[evL] at hx;simp[Act.eval,hx]
 |global g=>simp[evL] at hx;simp[Act.eval,hx]
 |func f=>simp[evL] at hx;simp[Act.eval,hx]
def zFh:Op→Bool
 | .select .. =>false
 |_=>true
def zEj(L:Env):List Operand→Bool
 |[]=>true
 |x::l=>(evL L x).isSome&&zEj L l
def opOK(L:Env)(o:Op):Bool:=zFh o&&zEj L o.operands.toList
theorem zIi{L:Env}{l:List Operand}(h:zEj L l=true):∀x∈l,(evL L x).isSome=true:=by
 induction l with
 |nil=>simp
 |cons y l ih=>
  simp only[zEj,jN] at h
  intro x hx
  rcases jM.1 hx with rfl|hx
  ·exact h.1
  ·exact ih h.2 x hx
theorem Fits.exec{n:Fr}{a:Act}{L:Env}(h:Fits n a L){o:Oper}(ok:opOK L o.op=true):execOp a.eval o=execOp (evD L) o:=by
 simp only[opOK,jN] at ok
 refine execOp_congr o ?_ ?_
 ·intro cs b hs;rw[hs] at ok;simp[zFh] at ok
 ·intro x hx
  have:=zIi ok.2 x (by simpa using hx)
  obtain⟨v,hv⟩:=Option.isSome_iff_exists.1 this
  rw[h.ev hv];simp[evD,hv]
theorem Fits.put{n:Fr}{a:Act}{L:Env}(h:Fits n a L){d:Nat}(hd:Nat.blt d n=true)(v:Value):Fits n (a.put (some d) v) ((d,v)::L):=by
 obtain⟨h1,h2,h3⟩:=h
 have hd':d<n:=by simpa[Nat.blt_eq] using hd
 refine⟨by simp[Act.put,h1],by simp[Act.put,h2],?_⟩
 intro t u hu
 simp only[look] at hu
 simp only[Act.put]
 by_cases hdt:d=t
 ·subst hdt
  simp at hu;subst hu
  simp[Array.getElem?_setIfInBounds,h1,hd']
 ·have:Nat.beq d t=false:=by cases hb:Nat.beq d t<;>simp_all [Nat.beq_eq]
  rw[this] at hu
  simp[Array.getElem?_setIfInBounds,hdt,h3 t u hu]
theorem Fits.sub{n:Fr}{a:Act}{L L':Env}(h:Fits n a L)(hs:∀t v,look L' t=some v→look L t=some v):Fits n a L':=
 ⟨h.1,h.2.1,fun t v hv=>h.2.2 t v (hs t v hv)⟩
def ev0(P:Program){α:Type}:Sem α→Option α
 | .pure a=>some a
 | .program k=>ev0 P (k P)
 | .mark _ k=>ev0 P k
 |_=>none
theorem zIv{P:Program}{α:Type}{s:Sem α}{a:α}(h:ev0 P s=some a)(w:World):s.run P w= .ok a w:=by
 induction s with
 |pure b=>simp[ev0] at h;subst h;rfl
 |program k ih=>exact ih P h
 |mark m k ih=>exact ih h
 |_=>simp[ev0] at h
def qMq(ops:Array Oper)(L:Env)(g:Option (Nat×Bool)):Option Bool:=
 match g with
 |none=>some true
 |some (j,want)=>match(ops[j]?).bind (·.dst) with
  |none=>some false
  |some t=>match look L t with
   |none=>none
   |some (.bool b)=>some (bif want then b else !b)
   |some _=>some false
theorem Fits.wanted{n:Fr}{a:Act}{L:Env}(h:Fits n a L){ops:Array Oper}{o:Oper}{b:Bool}(hw:qMq ops L o.guard=some b):
  Region.wanted o (yielded ops a.tmps)=b:=by
 unfold qMq at hw
 unfold Region.wanted
 cases hg:o.guard with
 |none=>simp[hg] at hw;simp[hw]
 |some jw=>
  obtain⟨j,want⟩:=jw
  simp only[hg] at hw
  simp only[yielded]
  cases hd:(ops[j]?).bind (·.dst) with
  |none=>simp[hd] at hw;subst hw;rfl
  |some t=>
   simp only[hd] at hw
   cases ht:look L t with
   |none=>simp[ht] at hw
   |some v=>
    have:=h.2.2 t v ht
    simp only[ht] at hw
    cases v<;>simp_all<;>(subst hw;cases want<;>simp)
def putL(n:Nat)(d:Option Nat)(v:Value)(L:Env):Option Env:=
 match d with
 |none=>some L
 |some d=>bif Nat.blt d n then some ((d,v)::L) else none
def asV:Option Next→Option Value
 |some (.value v)=>some v
 |some .skip=>some undef
 |_=>none
def seg(P:Program)(n:Nat)(ops:Array Oper):Nat→Nat→Env→Option Env
 |0,_,L=>some L
 |k+1,i,L=>match ops[i]? with
  |none=>none
  |some o=>match qMq ops L o.guard with
   |none=>none
   |some false=>(putL n o.dst undef L).bind fun L=>seg P n ops k (i+1) L
   |some true=>bif opOK L o.op then(asV (ev0 P (execOp (evD L) o))).bind fun v=>(putL n o.dst v L).bind fun L=>seg P n ops k (i+1) L else none
def wrs(ops:Array Oper):Nat→Nat→List Nat
 |0,_=>[]
 |k+1,i=>((ops[i]?).bind (·.dst)).toList++wrs ops k (i+1)
def fen(ρ:Option Nat):Fence:={Fence.wide with round:=ρ}
def opW(P:Program)(ops:Array Oper)(Q:Exit→Act→World→Prop)(i:Nat)(K:Act→World→Prop)(a:Act)(w:World):Prop:=
 match ops[i]? with
 |none=>K a w
 |some o=>if Region.wanted o (yielded ops a.tmps) then o.uponIn Fence.wide 0 P a K Q ((execOp a.eval o).run P w) else K (a.put o.dst undef) w
def opsW(P:Program)(ops:Array Oper)(Q:Exit→Act→World→Prop):List Nat→Act→World→Prop
 |[],a,w=>Q .normal a w
 |i::rest,a,w=>opW P ops Q i (opsW P ops Q rest) a w
theorem zAc{ρ:Option Nat}{P:Program}{o:Oper}{a:Act}{K K':Act→World→Prop}{Q:Exit→Act→World→Prop}{r:Result Next}(h:∀a w,K a w→K' a w)(hh:o.uponIn Fence.wide 0 P a K Q r):o.uponIn (fen ρ) 0 P a K' Q r:=by
 cases r with
 |ok x w'=>
  cases x<;>simp only[Oper.uponIn] at hh ⊢ <;>
   first
    |exact h _ _ hh
    |exact⟨fun e=>by simp[fen,Fence.wide] at e,CallsIn.mono (F:=fen ρ) hh.2 (fun e w'' he=>by cases e<;>first|exact h _ _ he|exact he)⟩
    |exact⟨fun e=>by simp[fen,Fence.wide] at e,RowsIn.mono (F:=fen ρ) hh.2 (fun _ _ he=>h _ _ he)⟩
    |exact⟨fun e=>by simp[fen,Fence.wide] at e,RoundIn.mono (F:=fen ρ) hh.2 (fun e w'' he=>by cases e<;>first|exact h _ _ he|exact he)⟩
 |halt x w'=>cases x<;>simp only[Oper.uponIn] at hh ⊢ <;>exact hh
theorem qYe{P:Program}{ops:Array Oper}{Q:Exit→Act→World→Prop}{i:Nat}{K K':Act→World→Prop}{a:Act}{w:World}(h:∀a w,K a w→K' a w)(hh:opW P ops Q i K a w):opW P ops Q i K' a w:=by
 unfold opW at*
 split
 ·rename_i ho;simp only[ho] at hh;exact h _ _ hh
 ·rename_i o ho
  simp only[ho] at hh
  split
  ·rename_i hw;simp only[hw,jI] at hh;exact zAc (ρ:=none) h hh
  ·rename_i hw;simp only[hw] at hh;exact h _ _ hh
def qWy(ρ:Option Nat)(ops:Array Oper):Bool:=
 match ρ with
 |none=>true
 |some _=>ops.toList.all fun o=>match o.op with
  | .defer _=>false
  |_=>true
theorem zIn{ρ:Option Nat}{ops:Array Oper}(h:qWy ρ ops=true){i:Nat}{o:Oper}(ho:ops[i]? =some o)(ev:Operand→Value):o.semAt ρ ev=execOp ev o:=by
 cases ρ with
 |none=>rfl
 |some l=>
  refine Oper.semAt_eq _ _ _ fun c hc=> ?_
  have:=jT.1 h o (by simpa using Array.mem_of_getElem? ho)
  rw[hc] at this
  exact gN this
theorem zSv{ρ:Option Nat}{P:Program}{ops:Array Oper}{Q:Exit→Act→World→Prop}(hd:qWy ρ ops=true){i:Nat}{K K':Act→World→Prop}(hk:∀a w,K a w→K' a w){a:Act}{w:World}(h:opW P ops Q i K a w):wpOpIn (fen ρ) 0 P ops Q i K' a w:=by
 unfold opW at h
 unfold wpOpIn
 cases ho:ops[i]? with
 |none=>simp only[ho] at h ⊢;exact hk _ _ h
 |some o=>
  simp only[ho] at h ⊢
  by_cases hw:Region.wanted o (yielded ops a.tmps)=true
  ·simp only[hw,jI] at h ⊢
   refine⟨fun _ _=>trivial,?_⟩
   have hs:o.semAt (fen ρ).round a.eval=execOp a.eval o:=zIn hd ho a.eval
   rw[hs]
   exact zAc hk h
  ·simp only[hw] at h ⊢
   exact⟨fun _ _=>trivial,hk _ _ h⟩
theorem zNh{ρ:Option Nat}{P:Program}{ops:Array Oper}{Q:Exit→Act→World→Prop}(hd:qWy ρ ops=true):∀(l:List Nat) (a:Act) (w:World),opsW P ops Q l a w→wpOpsIn (fen ρ) 0 P ops Q l a w
 |[],_,_,h=>h
 |i::rest,a,w,h=>by
  rw[wpOpsIn_cons]
  exact zSv hd (zNh hd rest) h
def WO(P:Program)(n:Fr)(ops:Array Oper)(Q:Exit→Act→World→Prop)(i:Nat)(L:Env)(w:World):Prop:=
 ∀a,Fits n a L→opsW P ops Q (List.range' i (ops.size-i)) a w
theorem zFw{ops:Array Oper}{i:Nat}{o:Oper}(h:ops[i]? =some o):List.range' i (ops.size-i)=i::List.range' (i+1) (ops.size-(i+1)):=by
 have hi:i<ops.size:=(Array.getElem?_eq_some_iff.1 h).1
 have:ops.size-i=(ops.size-(i+1))+1:=by omega
 rw[this,List.range'_succ]
theorem Fits.putL{n:Fr}{a:Act}{L L':Env}(h:Fits n a L){d:Option Nat}{v:Value}(hp:Dc.putL n d v L=some L'):Fits n (a.put d v) L':=by
 cases d with
 |none=>simp[Dc.putL] at hp;subst hp;exact h
 |some d=>
  simp only[Dc.putL] at hp
  cases hb:Nat.blt d n with
  |false=>simp[hb] at hp
  |true=>simp[hb] at hp;subst hp;exact h.put hb v
section
variable {P:Program} {n:Fr} {ops:Array Oper} {Q:Exit→Act→World→Prop}
theorem zIp:∀(k i:Nat) (L L':Env) (w:World),seg P n ops k i L=some L'→WO P n ops Q (i+k) L' w→WO P n ops Q i L w
 |0,i,L,L',w,h,hk=>by simp[seg] at h;subst h;exact hk
 |k+1,i,L,L',w,h,hk=>by
  intro a ha
  simp only[seg] at h
  cases ho:ops[i]? with
  |none=>simp[ho] at h
  |some o=>
   simp only[ho] at h
   rw[zFw ho]
   simp only[opsW,opW,ho]
   cases hw:qMq ops L o.guard with
   |none=>simp[hw] at h
   |some b=>
    have hwant:=ha.wanted hw
    cases b with
    |false=>
     simp only[hw] at h
     obtain⟨L1,h1,h2⟩:=jV.1 h
     simp only[hwant,jC,jH]
     exact zIp k (i+1) L1 L' w h2 (by rw[gQ,dL 1 k];exact hk) _ (ha.putL h1)
    |true=>
     simp only[hw] at h
     cases hok:opOK L o.op with
     |false=>simp[hok] at h
     |true=>
      simp only[hok,cond_true] at h
      obtain⟨v,hv,h⟩:=jV.1 h
      obtain⟨L1,h1,h2⟩:=jV.1 h
      simp only[hwant,jI]
      have next:=zIp k (i+1) L1 L' w h2 (by rw[gQ,dL 1 k];exact hk) _ (ha.putL h1)
      rw[ha.exec hok]
      cases hev:ev0 P (execOp (evD L) o) with
      |none=>simp[hev,asV] at hv
      |some nx=>
       rw[zIv hev w]
       cases nx<;>simp[hev,asV] at hv
       case value u=>subst hv;exact next
       case skip=>subst hv;exact next
def zGi(P:Program)(n:Nat)(ops:Array Oper)(k i:Nat)(L:Env)(ks:List Nat):Option (List (Option Value)):=(seg P n ops k i L).map fun L'=>ks.map (look L')
def memN(d:Nat):Env→Bool
 |[]=>false
 |p::l=>Nat.beq p.1 d||memN d l
def qRq(L new:Env):List Nat→Bool
 |[]=>true
 |d::l=>(memN d new||(look L d).isNone)&&qRq L new l
theorem zHd{d:Nat}:∀{l:Env},memN d l=true→∃v,look l d=some v
 |[],h=>by simp[memN] at h
 |(k,v)::l,h=>by
  simp only[memN,fQ] at h
  simp only[look]
  cases hb:Nat.beq k d with
  |true=>exact⟨v,rfl⟩
  |false=>simp[hb] at h;exact zHd h
theorem qUj{d:Nat}{v:Value}:∀{l:Env},look l d=some v→(d,v)∈l
 |[],h=>by simp[look] at h
 |(k,u)::l,h=>by
  simp only[look] at h
  cases hb:Nat.beq k d with
  |true=>simp[hb] at h;subst h;have:=fG hb;subst this;exact jJ ..
  |false=>simp[hb] at h;exact jL _ (qUj h)
theorem qXx{L new:Env}:∀{l:List Nat},qRq L new l=true→∀d∈l,memN d new=true∨look L d=none
 |[],_=>by simp
 |e::l,h=>by
  simp only[qRq,jN,fQ,Option.isNone_iff_eq_none] at h
  intro d hd
  rcases jM.1 hd with rfl|hd
  ·exact h.1
  ·exact qXx h.2 d hd
theorem qZu:∀(k i:Nat) (L L':Env),seg P n ops k i L=some L'→∀t,t∉wrs ops k i→look L' t=look L t
 |0,i,L,L',h,t,_=>by simp[seg] at h;subst h;rfl
 |k+1,i,L,L',h,t,ht=>by
  simp only[seg] at h
  cases ho:ops[i]? with
  |none=>simp[ho] at h
  |some o=>
   simp only[ho] at h
   simp only[wrs,ho,jA,kL,not_or] at ht
   have put:∀v L1,putL n o.dst v L=some L1→look L1 t=look L t:=by
    intro v L1 h1
    cases hd:o.dst with
    |none=>simp[putL,hd] at h1;subst h1;rfl
    |some d=>
     simp only[putL,hd] at h1
     cases hb:Nat.blt d n with
     |false=>simp[hb] at h1
     |true=>
      simp[hb] at h1;subst h1
      have hne:d≠t:=by rintro rfl;exact ht.1 (by simp[hd])
      have:Nat.beq d t=false:=by cases hq:Nat.beq d t<;>simp_all [Nat.beq_eq]
      simp[look,this]
   cases hw:qMq ops L o.guard with
   |none=>simp[hw] at h
   |some b=>
    cases b with
    |false=>
     simp only[hw] at h
     obtain⟨L1,h1,h2⟩:=jV.1 h
     rw[qZu k (i+1) L1 L' h2 t ht.2,put _ _ h1]
    |true=>
     simp only[hw] at h
     cases hok:opOK L o.op with
     |false=>simp[hok] at h
     |true=>
      simp only[hok,cond_true] at h
      obtain⟨v,hv,h⟩:=jV.1 h
      obtain⟨L1,h1,h2⟩:=jV.1 h
      rw[qZu k (i+1) L1 L' h2 t ht.2,put _ _ h1]
theorem zPr{i:Nat}{L:Env}{w:World}(k:Nat)(new:Env)(h1:zGi P n ops k i L (new.map (·.1))=some (new.map fun p=>some p.2))
  (h2:qRq L new (wrs ops k i)=true) (h:WO P n ops Q (i+k) (new++L) w):WO P n ops Q i L w:=by
 simp only[zGi,gP] at h1
 obtain⟨L',hs,hm⟩:=h1
 refine zIp k i L L' w hs ?_
 intro a ha
 refine h a (ha.sub ?_)
 intro t v hv
 rw[zHx] at hv
 cases hn:look new t with
 |some u=>
  simp[hn] at hv;subst hv
  have hmem:=qUj hn
  have:∀(l:Env),l.map (look L'∘(·.1))=l.map (fun p=>some p.2)→∀p∈l,look L' p.1=some p.2:=by
   intro l hl p hp
   induction l with
   |nil=>simp at hp
   |cons q l ih=>
    simp only[k9,g9,Function.comp] at hl
    rcases jM.1 hp with rfl|hp
    ·exact hl.1
    ·exact ih (by simpa[Function.comp] using hl.2) hp
  exact this new (by simpa using hm) (t,u) hmem
 |none=>
  simp[hn] at hv
  by_cases hw:t∈wrs ops k i
  ·rcases qXx h2 t hw with hmn|hno
   ·obtain⟨u,hu⟩:=zHd hmn;rw[hu] at hn;cases hn
   ·rw[hno] at hv;cases hv
  ·rw[qZu k i L L' hs t hw];exact hv
def opAt(ops:Array Oper)(L:Env)(i:Nat):Option (Option Nat×Op):=
 match ops[i]? with
 |none=>none
 |some o=>match qMq ops L o.guard with
  |some true=>bif opOK L o.op then some (o.dst,o.op) else none
  |_=>none
theorem qTf{L:Env}{i:Nat}{d:Option Nat}{op:Op}(h:opAt ops L i=some (d,op)):
  ∃o,ops[i]? =some o∧o.dst=d∧o.op=op∧qMq ops L o.guard=some true∧opOK L o.op=true:=by
 unfold opAt at h
 cases ho:ops[i]? with
 |none=>simp[ho] at h
 |some o=>
  simp only[ho] at h
  cases hw:qMq ops L o.guard with
  |none=>simp[hw] at h
  |some b=>
   cases b with
   |false=>simp[hw] at h
   |true=>
    simp only[hw] at h
    cases hk:opOK L o.op with
    |false=>simp[hk] at h
    |true=>
     simp[hk] at h
     exact⟨o,rfl,h.1,h.2,hw,hk⟩
def One(P:Program)(n:Fr)(ops:Array Oper)(Q:Exit→Act→World→Prop)(i:Nat)(N:Env→World→Prop)(L:Env)(w:World):Prop:=
 ∀a,Fits n a L→opW P ops Q i (fun a' w'=>∃L',Fits n a' L'∧N L' w') a w
theorem qAb{i:Nat}{L:Env}{w:World}(hi:Nat.blt i ops.size=true)(h:One P n ops Q i (fun L w=>WO P n ops Q (i+1) L w) L w):WO P n ops Q i L w:=by
 have hi':i<ops.size:=by simpa[Nat.blt_eq] using hi
 intro a ha
 have ho:ops[i]? =some ops[i]:=Array.getElem?_eq_getElem hi'
 rw[zFw ho]
 have fin:∀a' w',(∃L',Fits n a' L'∧WO P n ops Q (i+1) L' w')→opsW P ops Q (List.range' (i+1) (ops.size-(i+1))) a' w':=fun a' w' ⟨L',h1,h2⟩=>h2 a' h1
 exact qYe fin (h a ha)
section
variable {N:Env→World→Prop}
theorem qHb{i d:Nat}{op:Op}{L:Env}{w w':World}{v:Value}(ho:opAt ops L i=some (some d,op))(hd:Nat.blt d n=true)
  (hrun:∀o:Oper,o.op=op→(execOp (evD L) o).run P w= .ok (.value v) w')
  (h:N ((d,v)::L) w'):One P n ops Q i N L w:=by
 obtain⟨o,h1,h2,h3,h4,h5⟩:=qTf ho
 intro a ha
 unfold opW
 simp only[h1,ha.wanted h4,jI]
 rw[ha.exec h5,hrun o h3,Oper.uponIn_value,h2]
 exact⟨_,ha.put hd v,h⟩
theorem qRw{i:Nat}{op:Op}{L:Env}{w w':World}(ho:opAt ops L i=some (none,op))
  (hrun:∀o:Oper,o.op=op→(execOp (evD L) o).run P w= .ok .skip w')
  (h:N L w'):One P n ops Q i N L w:=by
 obtain⟨o,h1,h2,h3,h4,h5⟩:=qTf ho
 intro a ha
 unfold opW
 simp only[h1,ha.wanted h4,jI]
 rw[ha.exec h5,hrun o h3,Oper.uponIn_skip,h2]
 exact⟨_,ha,h⟩
theorem qQb{i d:Nat}{op:Op}{L:Env}{w w':World}{v:Value}(ho:opAt ops L i=some (some d,op))(hd:Nat.blt d n=true)
  (hrun:∀o:Oper,o.op=op→∃v' w',(execOp (evD L) o).run P w= .ok (.value v') w'∧N ((d,v')::L) w'):One P n ops Q i N L w:=by
 obtain⟨o,h1,h2,h3,h4,h5⟩:=qTf ho
 obtain⟨v',w'',hr,hk⟩:=hrun o h3
 intro a ha
 unfold opW
 simp only[h1,ha.wanted h4,jI]
 rw[ha.exec h5,hr,Oper.uponIn_value,h2]
 exact⟨_,ha.put hd v',hk⟩
def zBw(P:Program)(ops:Array Oper)(L:Env)(i:Nat):Option (Option Nat×Nat×Array Value):=
 match ops[i]? with
 |none=>none
 |some o=>match qMq ops L o.guard with
  |some true=>bif opOK L o.op then(match ev0 P (execOp (evD L) o) with
   |some (.enter f args)=>some (o.dst,f,args)
   |_=>none) else none
  |_=>none
theorem zIb{L:Env}{i f:Nat}{d:Option Nat}{args:Array Value}(h:zBw P ops L i=some (d,f,args)):
  ∃o,ops[i]? =some o∧o.dst=d∧qMq ops L o.guard=some true∧opOK L o.op=true∧ev0 P (execOp (evD L) o)=some (.enter f args):=by
 unfold zBw at h
 cases h1:ops[i]? with
 |none=>simp[h1] at h
 |some o=>
  simp only[h1] at h
  cases hw:qMq ops L o.guard with
  |none=>simp[hw] at h
  |some b=>
   cases b with
   |false=>simp[hw] at h
   |true=>
    simp only[hw] at h
    cases hk:opOK L o.op with
    |false=>simp[hk] at h
    |true=>
     simp only[hk,cond_true] at h
     split at h
     ·rename_i f' args' he
      simp only[jK,Prod.mk.injEq] at h
      obtain⟨h2,rfl,rfl⟩:=h
      exact⟨o,rfl,h2,hw,hk,he⟩
     ·cases h
theorem qPa{i:Nat}{L:Env}{w:World}(d f:Nat)(args:Array Value)(ho:zBw P ops L i=some (some d,f,args))(hd:Nat.blt d n=true)
  (h:Calls P f args w fun e w'=>∃v,e= .returned v∧N ((d,v)::L) w'):One P n ops Q i N L w:=by
 obtain⟨o,h1,h2,hw,hk,he⟩:=zIb ho
 intro a ha
 unfold opW
 simp only[h1,ha.wanted hw,jI]
 rw[ha.exec hk,zIv he w,Oper.uponIn_enter]
 refine⟨fun e=>by simp[Fence.wide] at e,CallsIn.mono (callsIn_wide.2 h) ?_⟩
 rintro e w' ⟨v,rfl,hk'⟩
 rw[h2]
 exact⟨_,ha.put hd v,hk'⟩
end
theorem qAx{L:Env}{w:World}{i:Nat}(hi:ops.size=i)(h:∀a,Fits n a L→Q .normal a w):WO P n ops Q i L w:=by
 intro a ha
 subst hi
 simp only[Nat.sub_self,List.range'_zero,opsW]
 exact h a ha
theorem qBe{i:Nat}{L:Env}{w:World}(L':Env)(hs:L'.map (fun p=>look L p.1)=L'.map fun p=>some p.2)(h:WO P n ops Q i L' w):WO P n ops Q i L w:=by
 intro a ha
 refine h a (ha.sub ?_)
 intro t v hv
 have hm:=qUj hv
 have:=(fS.1 hs) (t,v) hm
 exact this
end
def W(ρ:Option Nat)(P:Program)(n:Fr)(c:Code)(Q:Exit→Act→World→Prop)(L:Env)(w:World):Prop:=∀a,Fits n a L→c.wpIn (fen ρ) 0 P Q a w
def X(n:Fr)(Q:Exit→Act→World→Prop)(e:Exit)(L:Env)(w:World):Prop:=∀a,Fits n a L→Q e a w
section
variable {ρ:Option Nat} {P:Program} {n:Fr} {Q:Exit→Act→World→Prop} {L:Env} {w:World}
theorem qAg{y:Code}(h:W ρ P n y Q L w):X n (Exit.then (fun a w=>y.wpIn (fen ρ) 0 P Q a w) Q) .normal L w:=h
theorem qAe{K:Act→World→Prop}{id:Nat}(h:X n Q (.exit id) L w):X n (Exit.then K Q) (.exit id) L w:=h
theorem qAc{K:Act→World→Prop}(h:X n Q .ret L w):X n (Exit.then K Q) .ret L w:=h
theorem qBc{id:Nat}(h:X n Q .normal L w):X n (Exit.inBlock id Q) .normal L w:=h
theorem qAf{id:Nat}(h:X n Q .ret L w):X n (Exit.inBlock id Q) .ret L w:=h
theorem qBd{id:Nat}(h:X n Q .normal L w):X n (Exit.inBlock id Q) (.exit id) L w:=by
 intro a ha;simp only[Exit.inBlock,jI];exact h a ha
theorem qQy{id id':Nat}(hne:Nat.beq id' id=false)(h:X n Q (.exit id') L w):X n (Exit.inBlock id Q) (.exit id') L w:=by
 intro a ha
 have:¬id'=id:=by rintro rfl;simp at hne
 simp only[Exit.inBlock,if_neg this];exact h a ha
theorem qAq{x y:Code}(h:W ρ P n x (Exit.then (fun a w=>y.wpIn (fen ρ) 0 P Q a w) Q) L w):W ρ P n (.seq x y) Q L w:=fun a ha=>wpIn_seq (h a ha)
theorem qAn(h:X n Q .normal L w):W ρ P n .skip Q L w:=fun a ha=>wpIn_skip (h a ha)
theorem qBj(h:X n Q .ret L w):W ρ P n .ret Q L w:=fun a ha=>wpIn_ret (h a ha)
theorem qCv{id:Nat}(h:X n Q (.exit id) L w):W ρ P n (.exit id) Q L w:=fun a ha=>wpIn_exit (h a ha)
theorem qAr{id:Nat}{c:Code}(h:W ρ P n c (Exit.inBlock id Q) L w):W ρ P n (.block id c) Q L w:=fun a ha=>wpIn_block (h a ha)
theorem zQb{id:Nat}{ops:Array Oper}(hd:qWy ρ ops=true)(h:WO P n ops Q 0 L w):W ρ P n (.region id ops false) Q L w:=by
 intro a ha
 refine wpIn_region (zNh hd _ _ _ ?_)
 have:=h a ha
 simpa[List.range_eq_range'] using this
theorem qAm{id:Nat}{ops:Array Oper}(h:WO P n ops Q 0 L w):W none P n (.region id ops false) Q L w:=zQb rfl h
theorem zGq{c:Operand}{x y:Code}(b:Bool)(hc:evL L c=some (.bool b))(ht:b=true→W ρ P n x Q L w)(hf:b=false→W ρ P n y Q L w):W ρ P n (.cond c x y) Q L w:=
 fun a ha=>wpIn_cond_split (ha.ev hc) (fun h=>ht h a ha) (fun h=>hf h a ha)
theorem qEk{c:Code}(L':Env)(hs:L'.map (fun p=>look L p.1)=L'.map fun p=>some p.2)(h:W ρ P n c Q L' w):W ρ P n c Q L w:=by
 intro a ha
 refine h a (ha.sub ?_)
 intro t v hv
 exact(fS.1 hs) (t,v) (qUj hv)
theorem qQo{e:Exit}(L':Env)(hs:L'.map (fun p=>look L p.1)=L'.map fun p=>some p.2)(h:X n Q e L' w):X n Q e L w:=by
 intro a ha
 refine h a (ha.sub ?_)
 intro t v hv
 exact(fS.1 hs) (t,v) (qUj hv)
theorem qDa{c:Code}(I:Nat→Env→World→Prop)(k:Nat)(h0:I k L w)
  (round:∀k L w,I k L w→W ρ P n c (Exit.then (fun a' w'=>∃k' L',k'<k∧Fits n a' L'∧I k' L' w') Q) L w):W ρ P n (.loop c) Q L w:=by
 intro a ha
 refine wpIn_loop_ghost (fun k a w=>∃L,Fits n a L∧I k L w) k ⟨L,ha,h0⟩ ?_
 rintro k a w ⟨L,ha,hI⟩
 refine wpIn_mono (round k L w hI a ha) ?_
 intro e a' w' hq
 cases e with
 |normal=>obtain⟨k',L',h1,h2,h3⟩:=hq;exact⟨k',h1,L',h2,h3⟩
 |_=>exact hq
theorem qCd{k:Nat}{I:Nat→Env→World→Prop}(k':Nat)(hk:k'<k)(h:I k' L w):X n (Exit.then (fun a' w'=>∃k' L',k'<k∧Fits n a' L'∧I k' L' w') Q) .normal L w:=
 fun _ ha=>⟨k',L,hk,ha,h⟩
theorem zTb{f:FuncId}{fn:Func}{c:Code}{args:Array Value}{R:Ending→World→Prop}(hf:P.funcs[f]? =some fn)(hb:fn.body=some c){k:Nat}(hn:fn.ntmps=k)(L:Env)
  (hL:L.map (fun p=>(args[p.1]?))=L.map fun p=>some p.2) (hsz:Nat.ble args.size k=true) (h:W none P ⟨k,[]⟩ c (bodyPost P fn R) L w):Calls P f args w R:=by
 refine calls_of_wp hf hb (wpIn_wide.1 (h _ ⟨?_,rfl,?_⟩))
 ·subst hn
  have:args.size≤fn.ntmps:=gD hsz
  simp only[Array.size_append,Array.size_replicate];omega
 ·intro t v hv
  have:=(fS.1 hL) (t,v) (qUj hv)
  have ht:t<args.size:=(Array.getElem?_eq_some_iff.1 this).1
  simp only[Array.getElem?_append,ht,jI]
  exact this
end
attribute [irreducible] opsW
end
section
def tabs:List (Nat×Array Value):=[]
structure Mem where
 cell:Nat→Nat→Option Value
 obj:Nat→Option Obj
 wd:World
 ht:∀p∈tabs,∃t f,obj p.1=some (.cells p.2 t f)
def zTe:Bool:=true
def Step(w w':World):Prop:=(w'.os=w.os∧w'.output=w.output)∧w'.tape=w.tape∧(zTe=true→w.drawn≤w'.drawn)
theorem dle{p:Prop}(h:p:=by first|exact fun _=>jU _|exact fun _=>Nat.le_succ _):p:=h
theorem Step.refl(w:World):Step w w:=⟨⟨rfl,rfl⟩,rfl,dle⟩
theorem Step.trans{w1 w2 w3:World}(h1:Step w1 w2)(h2:Step w2 w3):Step w1 w3:=⟨⟨h2.1.1.trans h1.1.1,h2.1.2.trans h1.1.2⟩,h2.2.1.trans h1.2.1,fun h=>fL (h1.2.2 h) (h2.2.2 h)⟩
def Mem.le(m m':Mem):Prop:=(∀b o v,m.cell b o=some v→m'.cell b o=some v)∧(∀b x,m.obj b=some x→m'.obj b=some x)∧m.wd=m'.wd
theorem Mem.le_refl(m:Mem):m.le m:=⟨fun _ _ _ h=>h,fun _ _ h=>h,rfl⟩
theorem Mem.le_trans{m1 m2 m3:Mem}(h1:m1.le m2)(h2:m2.le m3):m1.le m3:=⟨fun _ _ _ h=>h2.1 _ _ _ (h1.1 _ _ _ h),fun _ _ h=>h2.2.1 _ _ (h1.2.1 _ _ h),h1.2.2.trans h2.2.2⟩
def Inv(m:Mem)(w:World):Prop:=
 (∀b o v,m.cell b o=some v→∃c e f,w.heap[b]? =some (.cells c e f)∧c[o]? =some v)∧(∀b x,m.obj b=some x→w.heap[b]? =some x)∧Step m.wd w
inductive Piece where
 |blk (b:Nat) (o:Obj)
 |room (a:Option Addr) (n cap:Nat) (e:TypeId) (sz:Nat)
def Piece.block:Piece→Option Nat
 | .blk b _=>some b
 | .room a _ _ _ _=>a.map (·.block)
def Free(m:Mem)(b:Nat):Prop:=(∀o,m.cell b o=none)∧m.obj b=none
def Piece.holds(m:Mem)(w:World):Piece→Prop
 | .blk b o=>w.heap[b]? =some o∧Free m b
 | .room none n cap _ _=>n=0∧cap=0
 | .room (some p) n cap e sz=>p.off=0∧p.spot=none∧n≤cap∧cap≤maxLen∧(∃cur,w.heap[p.block]? =some (.cells cur e (0,0))∧cur.size=cap*sz)∧
  (∀o,n*sz≤o→m.cell p.block o=none)∧m.obj p.block=none
def St(m:Mem)(own:List Piece)(w:World):Prop:=Inv m w∧(∀p∈own,p.holds m w)∧(own.filterMap Piece.block).Nodup
theorem qPv{w:World}{b:Nat}{x:Obj}(h:w.heap[b]? =some x):b<w.heap.size:=(Array.getElem?_eq_some_iff.1 h).1
theorem Piece.holds_lt{m:Mem}{w:World}{p:Piece}(h:p.holds m w){b:Nat}(hb:p.block=some b):b<w.heap.size:=by
 cases p with
 |blk c o=>simp[Piece.block] at hb;subst hb;exact qPv h.1
 |room a n cap e sz=>
  cases a with
  |none=>simp[Piece.block] at hb
  |some q=>simp[Piece.block] at hb;subst hb;obtain⟨_,_,_,_,⟨cur,hc,_⟩,_⟩:=h;exact qPv hc
theorem St.inv{m:Mem}{own:List Piece}{w:World}(h:St m own w):Inv m w:=h.1
theorem St.fresh_free{m:Mem}{own:List Piece}{w:World}(h:St m own w):Free m w.heap.size:=by
 constructor
 ·intro o
  cases hc:m.cell w.heap.size o with
  |none=>rfl
  |some v=>
   obtain⟨c,e,f,hb,_⟩:=h.1.1 _ _ _ hc
   have:=qPv hb;omega
 ·cases hc:m.obj w.heap.size with
  |none=>rfl
  |some x=>have:=qPv (h.1.2.1 _ _ hc);omega
theorem Inv.keep{m:Mem}{w w':World}(h:Inv m w)(hs:Step w w')(hk:∀b,(∃x,w.heap[b]? =some x)→¬Free m b→w'.heap[b]? =w.heap[b]?):Inv m w':=by
 refine⟨?_,?_,h.2.2.trans hs⟩
 ·intro b o v hv
  obtain⟨c,e,f,hb,hc⟩:=h.1 b o v hv
  exact⟨c,e,f,by rw[hk b ⟨_,hb⟩ (fun hf=>by rw[hf.1 o] at hv;cases hv)];exact hb,hc⟩
 ·intro b x hx
  have hb:=h.2.1 b x hx
  rw[hk b ⟨_,hb⟩ (fun hf=>by rw[hf.2] at hx;cases hx)];exact hb
theorem Piece.holds_keep{m:Mem}{w w':World}{p:Piece}(h:p.holds m w)(hk:∀b,p.block=some b→w'.heap[b]? =w.heap[b]?):p.holds m w':=by
 cases p with
 |blk c o=>exact⟨by rw[hk c rfl];exact h.1,h.2⟩
 |room a n cap e sz=>
  cases a with
  |none=>exact h
  |some q=>
   obtain⟨h1,h2,h3,h4,⟨cur,h5,h6⟩,h7⟩:=h
   exact⟨h1,h2,h3,h4,⟨cur,by rw[hk _ rfl];exact h5,h6⟩,h7⟩
theorem St.grow{m:Mem}{own:List Piece}{w w':World}(h:St m own w)(hs:Step w w')(hk:∀b,b<w.heap.size→w'.heap[b]? =w.heap[b]?):St m own w':=
 ⟨h.1.keep hs fun b ⟨_,hx⟩ _=>hk b (qPv hx),fun p hp=>Piece.holds_keep (h.2.1 p hp) fun b hb=>hk b (Piece.holds_lt (h.2.1 p hp) hb),h.2.2⟩
theorem qTt{own:List Piece}{b:Nat}:b∈own.filterMap Piece.block↔∃p∈own,p.block=some b:=by simp[List.mem_filterMap]
theorem St.block_lt{m:Mem}{own:List Piece}{w:World}(h:St m own w){b:Nat}(hb:b∈own.filterMap Piece.block):b<w.heap.size:=by
 obtain⟨p,hp,hpb⟩:=qTt.1 hb
 exact Piece.holds_lt (h.2.1 p hp) hpb
theorem St.alloc{m:Mem}{own:List Piece}{w w':World}(h:St m own w){o:Obj}(hs:Step w w')(hw:w'.heap=w.heap.push o):St m (.blk w.heap.size o::own) w':=by
 have hg:=h.grow (w':=w') hs (fun b hb=>by rw[hw,Array.getElem?_push];simp[Nat.ne_of_lt hb])
 refine⟨hg.1,?_,?_⟩
 ·intro p hp
  rcases jM.1 hp with rfl|hp
  ·exact⟨by rw[hw];simp,h.fresh_free⟩
  ·exact hg.2.1 p hp
 ·have hd:List.filterMap Piece.block (.blk w.heap.size o::own)=w.heap.size::own.filterMap Piece.block:=rfl
  rw[hd,gT]
  exact⟨fun hm=>by have:=h.block_lt hm;omega,h.2.2⟩
theorem St.tail{m:Mem}{p:Piece}{own:List Piece}{w:World}(h:St m (p::own) w):St m own w:=by
 refine⟨h.1,fun q hq=>h.2.1 q (jL _ hq),?_⟩
 have:=h.2.2
 cases hb:p.block with
 |none=>simpa[fM,hb] using this
 |some b=>simp only[fM,hb,gT] at this;exact this.2
theorem St.head{m:Mem}{p:Piece}{own:List Piece}{w:World}(h:St m (p::own) w):p.holds m w:=h.2.1 p (jJ ..)
theorem St.head_ne{m:Mem}{p:Piece}{own:List Piece}{w:World}(h:St m (p::own) w){b:Nat}(hb:p.block=some b):b∉own.filterMap Piece.block:=by
 have:=h.2.2
 simp only[fM,hb,gT] at this
 exact this.1
theorem St.cons{m:Mem}{p:Piece}{own:List Piece}{w:World}(h:St m own w)(hp:p.holds m w)(hn:∀b,p.block=some b→b∉own.filterMap Piece.block):St m (p::own) w:=by
 refine⟨h.1,fun q hq=> ?_,?_⟩
 ·rcases jM.1 hq with rfl|hq
  ·exact hp
  ·exact h.2.1 q hq
 ·cases hb:p.block with
  |none=>simpa[fM,hb] using h.2.2
  |some b=>simp only[fM,hb,gT];exact⟨hn b hb,h.2.2⟩
theorem St.perm{m:Mem}{own own':List Piece}{w:World}(h:St m own w)(hp:own.Perm own'):St m own' w:=
 ⟨h.1,fun p hm=>h.2.1 p (hp.mem_iff.2 hm),(hp.filterMap _).nodup_iff.1 h.2.2⟩
theorem St.front1{m:Mem}{a b:Piece}{own:List Piece}{w:World}(h:St m (a::b::own) w):St m (b::a::own) w:=h.perm (.swap b a own)
theorem St.front2{m:Mem}{a b c:Piece}{own:List Piece}{w:World}(h:St m (a::b::c::own) w):St m (c::a::b::own) w:=
 h.perm ((List.Perm.cons a (.swap c b own)).trans (.swap c a _))
theorem St.front3{m:Mem}{a b c d:Piece}{own:List Piece}{w:World}(h:St m (a::b::c::d::own) w):St m (d::a::b::c::own) w:=
 h.perm (((List.Perm.cons a ((List.Perm.cons b (.swap d c own)).trans (.swap d b _)))).trans (.swap d a _))
theorem St.front4{m:Mem}{a b c d e:Piece}{own:List Piece}{w:World}(h:St m (a::b::c::d::e::own) w):St m (e::a::b::c::d::own) w:=by
 refine h.perm ?_
 have:List.Perm (b::c::d::e::own) (e::b::c::d::own):=(List.Perm.cons b ((List.Perm.cons c (.swap e d own)).trans (.swap e c _))).trans (.swap e b _)
 exact(List.Perm.cons a this).trans (.swap e a _)
theorem St.front5{m:Mem}{p0 p1 p2 p3 p4 p5:Piece}{own:List Piece}{w:World}(h:St m (p0::p1::p2::p3::p4::p5::own) w):St m (p5::p0::p1::p2::p3::p4::own) w:=
 h.perm (gH (a:=p5) (l₁:=[p0,p1,p2,p3,p4]) (l₂:=own))
theorem St.front6{m:Mem}{p0 p1 p2 p3 p4 p5 p6:Piece}{own:List Piece}{w:World}(h:St m (p0::p1::p2::p3::p4::p5::p6::own) w):St m (p6::p0::p1::p2::p3::p4::p5::own) w:=
 h.perm (gH (a:=p6) (l₁:=[p0,p1,p2,p3,p4,p5]) (l₂:=own))
theorem St.front7{m:Mem}{p0 p1 p2 p3 p4 p5 p6 p7:Piece}{own:List Piece}{w:World}(h:St m (p0::p1::p2::p3::p4::p5::p6::p7::own) w):St m (p7::p0::p1::p2::p3::p4::p5::p6::own) w:=
 h.perm (gH (a:=p7) (l₁:=[p0,p1,p2,p3,p4,p5,p6]) (l₂:=own))
theorem St.front8{m:Mem}{p0 p1 p2 p3 p4 p5 p6 p7 p8:Piece}{own:List Piece}{w:World}(h:St m (p0::p1::p2::p3::p4::p5::p6::p7::p8::own) w):St m (p8::p0::p1::p2::p3::p4::p5::p6::p7::own) w:=
 h.perm (gH (a:=p8) (l₁:=[p0,p1,p2,p3,p4,p5,p6,p7]) (l₂:=own))
theorem St.front9{m:Mem}{p0 p1 p2 p3 p4 p5 p6 p7 p8 p9:Piece}{own:List Piece}{w:World}(h:St m (p0::p1::p2::p3::p4::p5::p6::p7::p8::p9::own) w):St m (p9::p0::p1::p2::p3::p4::p5::p6::p7::p8::own) w:=
 h.perm (gH (a:=p9) (l₁:=[p0,p1,p2,p3,p4,p5,p6,p7,p8]) (l₂:=own))
theorem St.front10{m:Mem}{p0 p1 p2 p3 p4 p5 p6 p7 p8 p9 p10:Piece}{own:List Piece}{w:World}(h:St m (p0::p1::p2::p3::p4::p5::p6::p7::p8::p9::p10::own) w):St m (p10::p0::p1::p2::p3::p4::p5::p6::p7::p8::p9::own) w:=
 h.perm (gH (a:=p10) (l₁:=[p0,p1,p2,p3,p4,p5,p6,p7,p8,p9]) (l₂:=own))
theorem St.front11{m:Mem}{p0 p1 p2 p3 p4 p5 p6 p7 p8 p9 p10 p11:Piece}{own:List Piece}{w:World}(h:St m (p0::p1::p2::p3::p4::p5::p6::p7::p8::p9::p10::p11::own) w):St m (p11::p0::p1::p2::p3::p4::p5::p6::p7::p8::p9::p10::own) w:=
 h.perm (gH (a:=p11) (l₁:=[p0,p1,p2,p3,p4,p5,p6,p7,p8,p9,p10]) (l₂:=own))
theorem St.set{m:Mem}{own:List Piece}{w w':World}{b:Nat}{o o':Obj}(h:St m (.blk b o::own) w)(hs:Step w w')(hb:w'.heap[b]? =some o')
  (hk:∀k,k<w.heap.size→k≠b→w'.heap[k]? =w.heap[k]?):St m (.blk b o'::own) w':=by
 have hh:=h.head
 have hne:=h.head_ne (b:=b) rfl
 have ht:=h.tail
 refine St.cons ⟨ht.1.keep hs fun k ⟨x,hx⟩ hf=>hk k (qPv hx) (fun e=>hf (e▸hh.2)),fun p hp=>Piece.holds_keep (ht.2.1 p hp) fun k hkb=>hk k (Piece.holds_lt (ht.2.1 p hp) hkb) (fun e=>hne (qTt.2 ⟨p,hp,e▸hkb⟩)),ht.2.2⟩ ⟨hb,hh.2⟩ ?_
 intro k hkk;simp only[Piece.block,jK] at hkk;subst hkk;exact hne
def Mem.addCells(m:Mem)(b:Nat)(f:Nat→Option Value):Mem:={m with cell:=fun k o=>if k=b then(match m.cell k o with|some v=>some v|none=>f o) else m.cell k o}
theorem Mem.le_addCells(m:Mem)(b:Nat)(f:Nat→Option Value):m.le (m.addCells b f):=by
 refine⟨fun k o v h=> ?_,fun _ _ h=>h,rfl⟩
 simp only[addCells]
 split
 ·simp[h]
 ·exact h
theorem Piece.holds_addCells{m:Mem}{w:World}{p:Piece}{b:Nat}{f:Nat→Option Value}(h:p.holds m w)(hne:p.block≠some b):p.holds (m.addCells b f) w:=by
 cases p with
 |blk c o=>
  have:c≠b:=fun e=>hne (by simp[Piece.block,e])
  exact⟨h.1,fun o=>by simp[Mem.addCells,this,h.2.1 o],h.2.2⟩
 |room a n cap e sz=>
  cases a with
  |none=>exact h
  |some q=>
   have:q.block≠b:=fun e=>hne (by simp[Piece.block,e])
   obtain⟨h1,h2,h3,h4,h5,h6,h7⟩:=h
   exact⟨h1,h2,h3,h4,h5,fun o ho=>by simp[Mem.addCells,this,h6 o ho],h7⟩
theorem St.addCells{m:Mem}{own:List Piece}{w:World}(h:St m own w){b:Nat}{f:Nat→Option Value}(hb:b∉own.filterMap Piece.block)
  (hf:∀o v,f o=some v→∃c e fr,w.heap[b]? =some (.cells c e fr)∧c[o]? =some v):St (m.addCells b f) own w:=by
 refine⟨⟨?_,h.1.2⟩,fun p hp=>Piece.holds_addCells (h.2.1 p hp) fun e=>hb (qTt.2 ⟨p,hp,e⟩),h.2.2⟩
 intro k o v hv
 simp only[Mem.addCells] at hv
 split at hv
 ·rename_i hk;subst hk
  cases hc:m.cell k o with
  |some u=>simp[hc] at hv;subst hv;exact h.1.1 _ _ _ hc
  |none=>simp[hc] at hv;exact hf o v hv
 ·exact h.1.1 _ _ _ hv
def MRow(m:Mem)(b o:Nat)(cs:List Value):Prop:=∀j v,cs[j]? =some v→m.cell b (o+j)=some v
theorem MRow.mono{m m':Mem}{b o:Nat}{cs:List Value}(h:MRow m b o cs)(hle:m.le m'):MRow m' b o cs:=fun j v hv=>hle.1 _ _ _ (h j v hv)
theorem MRow.drop{m:Mem}{b o:Nat}{cs:List Value}(h:MRow m b o cs)(k:Nat):MRow m b (o+k) (cs.drop k):=by
 intro j v hv
 have:=h (k+j) v (by simpa[List.getElem?_drop] using hv)
 rw[gQ];exact this
structure Codec(α:Type) where
 sz:Nat
 pos:0<sz
 rep:Mem→α→List Value→Prop
 len:∀m x cs,rep m x cs→cs.length=sz
 one:∀m x cs,rep m x cs→∀v∈cs,v.oneCell'=true
 mono:∀m m' x cs,m.le m'→rep m x cs→rep m' x cs
def RepS{α:Type}(c:Codec α)(m:Mem)(a:Option Addr)(cap:Nat)(l:List α):Prop:=
 l.length≤cap∧cap≤maxLen∧match a with
  |none=>cap=0
  |some p=>(p.spot=none∨l=[])∧∀i x,l[i]? =some x→∃cs,c.rep m x cs∧MRow m p.block (p.off+i*c.sz) cs
theorem RepS.mono{α:Type}{c:Codec α}{m m':Mem}{a:Option Addr}{cap:Nat}{l:List α}(h:RepS c m a cap l)(hle:m.le m'):RepS c m' a cap l:=by
 refine⟨h.1,h.2.1,?_⟩
 cases a with
 |none=>exact h.2.2
 |some p=>
  refine⟨h.2.2.1,fun i x hx=> ?_⟩
  obtain⟨cs,h1,h2⟩:=h.2.2.2 i x hx
  exact⟨cs,c.mono _ _ _ _ hle h1,h2.mono hle⟩
theorem RepS.nil{α:Type}(c:Codec α)(m:Mem):RepS c m none 0 []:=⟨jU _,k0 _,rfl⟩
theorem RepS.cells{α:Type}{c:Codec α}{m:Mem}{p:Addr}{cap:Nat}{l:List α}(h:RepS c m (some p) cap l):
  ∃cs,cs.length=l.length*c.sz∧(∀v∈cs,v.oneCell'=true)∧MRow m p.block p.off cs∧∀i x,l[i]? =some x→c.rep m x ((cs.drop (i*c.sz)).take c.sz):=by
 have key:∀(l:List α) (o:Nat),(∀i x,l[i]? =some x→∃cs,c.rep m x cs∧MRow m p.block (o+i*c.sz) cs)→
   ∃cs,cs.length=l.length*c.sz∧(∀v∈cs,v.oneCell'=true)∧MRow m p.block o cs∧∀i x,l[i]? =some x→c.rep m x ((cs.drop (i*c.sz)).take c.sz):=by
  intro l
  induction l with
  |nil=>intro o _;exact⟨[],by simp,by simp,fun j v h=>by simp at h,fun i x h=>by simp at h⟩
  |cons y l ih=>
   intro o h
   obtain⟨c1,hr,hm⟩:=h 0 y rfl
   have hl1:=c.len _ _ _ hr
   obtain⟨c2,h1,h2,h3,h4⟩:=ih (o+c.sz) (fun i x hx=>by
    obtain⟨cs,a,b⟩:=h (i+1) x (by simpa using hx)
    exact⟨cs,a,by rw[kI,hU,dL (i*c.sz),←gQ] at b;exact b⟩)
   refine⟨c1++c2,by simp[hl1,h1,kI,dL],?_,?_,?_⟩
   ·intro v hv
    rcases kL.1 hv with hv|hv
    ·exact c.one _ _ _ hr v hv
    ·exact h2 v hv
   ·intro j v hv
    rw[List.getElem?_append] at hv
    split at hv
    ·simpa using hm j v hv
    ·rename_i hj
     have:=h3 _ v hv
     rw[hl1] at this hj
     have e:o+c.sz+(j-c.sz)=o+j:=by omega
     rw[e] at this;exact this
   ·intro i x hx
    cases i with
    |zero=>simp at hx;subst hx;simp[hl1▸List.take_left (l₁:=c1) (l₂:=c2)];exact hr
    |succ i=>
     have:=h4 i x (by simpa using hx)
     have e:(c1++c2).drop ((i+1)*c.sz)=c2.drop (i*c.sz):=by
      rw[fZ,jQ (by rw[hl1,kI];omega),kF,hl1,kI,hU,dD]
     rw[e];exact this
 exact key l p.off (h.2.2.2)
end
section
def qOr(P:Program)(t:TypeId):Option (TypeId×Nat×Nat×Nat):=
 match P.underlying t with
 |some (.slice e)=>match P.info? e with
  |some i=>match i.zero with
   |some z=>some (e,i.size,i.bytes,z.cells.size)
   |none=>none
  |none=>none
 |_=>none
theorem qOi{P:Program}{t e sz by_ zs:Nat}(h:qOr P t=some (e,sz,by_,zs)):
  P.underlying t=some (.slice e)∧∃i z,P.info? e=some i∧i.zero=some z∧i.size=sz∧i.bytes=by_∧z.cells.size=zs:=by
 unfold qOr at h
 split at h
 ·rename_i e' he
  split at h
  ·rename_i i hi
   split at h
   ·rename_i z hz
    simp only[jK,Prod.mk.injEq] at h
    obtain⟨rfl,h2,h3,h4⟩:=h
    exact⟨he,i,z,hi,hz,h2,h3,h4⟩
   ·cases h
  ·cases h
 ·cases h
def zEr(P:Program)(u e:TypeId):Prop:=P.underlying u=some (.slice e)∨P.underlying u=some .string
theorem qOj(g o j:Nat):(⟨g,o,none⟩:Addr).add j=⟨g,o+j,none⟩:=by unfold Addr.add;split<;>simp_all
theorem qRd{p:Addr}(hs:p.spot=none)(j:Nat):p.add j=⟨p.block,p.off+j,none⟩:=by
 obtain⟨b,o,s⟩:=p
 simp only at hs;subst hs
 exact qOj b o j
section
variable {P:Program}
def Src(P:Program)(w:World)(sz:Nat)(x:Value)(n:Nat)(news:List Value):Prop:=
 (Builtin.lenOf x).run P w= .ok n w∧(Builtin.firstCells sz n x).run P w= .ok news.toArray w∧news.length=n*sz∧∀v∈news,v.oneCell'=true
theorem qSa(w:World)(t u ty e:TypeId)(i:TypeInfo)(ht:P.underlying t=some (.slice e))(hu:zEr P u e)(hi:P.info? e=some i){x:Value}{n:Nat}{news:List Value}
  (hsrc:Src P w i.size x n news) (g sLen sCap:Nat) (cur:Array Value) (hg:w.heap[g]? =some (.cells cur e (0,0))) (hroom:sLen+n≤sCap) (hfit:sLen*i.size+news.length≤cur.size):
  (Builtin.append_ #[t,u] ty #[.slice (some ⟨g,0,none⟩) sLen sCap,x]).run P w=
   .ok (.slice (some ⟨g,0,none⟩) (sLen+n) sCap) (w.setRow g (cur.toList.take (sLen*i.size)++news++cur.toList.drop (sLen*i.size+news.length)).toArray):=by
 obtain⟨h1,h2,h3,h4⟩:=hsrc
 have hst:=run_storeCells_at P g (sLen*i.size) e news 0 cur w hg (by simpa using hfit) h4
 simp only[gX] at hst
 rcases hu with hdu|hdu<;>simp[Builtin.append_,run_underlying ht,run_underlying hdu,sizeOf,typeInfo,hi,h1,hroom,h2,qOj,hst]
theorem qPn(w:World)(t u ty e:TypeId)(i:TypeInfo)(ht:P.underlying t=some (.slice e))(hu:zEr P u e)(hi:P.info? e=some i){x:Value}{news:List Value}
  (hsrc:Src P w i.size x 0 news):(Builtin.append_ #[t,u] ty #[.slice none 0 0,x]).run P w= .ok (.slice none 0 0) w:=by
 obtain⟨h1,h2,h3,h4⟩:=hsrc
 rcases hu with hdu|hdu<;>simp[Builtin.append_,run_underlying ht,run_underlying hdu,sizeOf,typeInfo,hi,h1,h2]
theorem qQl(w:World)(t u ty e:TypeId)(i:TypeInfo)(z:Value)(ht:P.underlying t=some (.slice e))(hu:zEr P u e)(hi:P.info? e=some i)(hz:i.zero=some z){x:Value}{n:Nat}{news:List Value}
  (hsrc:Src P w i.size x n news) (base:Option Addr) (sLen sCap:Nat) (olds:List Value)
  (hold:∀w':World,Step w w'→w'.heap=w.heap→(Builtin.firstCells i.size sLen (.slice base sLen sCap)).run P w'= .ok olds.toArray w')
  (hsrc':∀w':World,Step w w'→w'.heap=w.heap→(Builtin.firstCells i.size n x).run P w'= .ok news.toArray w')
  (hg:sCap<sLen+n) (hb:(sLen+n)*i.bytes≤140737488355328) (h63:sLen+n≤maxLen):
  (Builtin.append_ #[t,u] ty #[.slice base sLen sCap,x]).run P w=
   .ok (.slice (some ⟨w.heap.size,0,none⟩) (sLen+n) (grownCap w (sLen+n) sCap e))
    (w.drew.alloc (.cells ((olds++news).toArray++Builtin.zeroCells z.cells (grownCap w (sLen+n) sCap e-(sLen+n))) e)):=by
 obtain⟨h1,h2,h3,h4⟩:=hsrc
 have hn:¬(sLen+n≤sCap):=by omega
 have h63':¬(9223372036854775807<(sLen:Int)+(n:Int)):=by simp only[maxLen] at h63;omega
 have hfit:=growslice_fits (need:=sLen+n) (old:=sCap) (bytes:=i.bytes) hg hb
 have hfit':¬(281474976710656<Builtin.nextslicecap (sLen+n) sCap*i.bytes):=by omega
 have hmax:IntKind.i64.max=9223372036854775807:=by decide
 have ho:=hold w.drew ⟨⟨rfl,rfl⟩,rfl,dle⟩ rfl
 have hs:=hsrc' w.drew ⟨⟨rfl,rfl⟩,rfl,dle⟩ rfl
 have hforced:(Question.appendCap (sLen+n) sCap e).forced=false:=rfl
 rcases hu with hdu|hdu<;>
  simp[Builtin.append_,run_underlying ht,run_underlying hdu,sizeOf,typeInfo,zeroValue,hi,hz,h1,hn,h63',hfit',hmax,hforced,ho,hs,newRow,grownCap]<;>(congr 2;apply Array.ext';simp)
def qEb{α:Type}(by_:Nat)(l k:List α):Option (List α):=if(l.length+k.length)*by_≤140737488355328∧l.length+k.length≤maxLen then some (l++k) else none
theorem RepS.of_cells{α:Type}{c:Codec α}{m:Mem}{b cap:Nat}{l:List α}{cs:List Value}(h1:l.length≤cap)(h2:cap≤maxLen)
  (h3:∀i x,l[i]? =some x→c.rep m x ((cs.drop (i*c.sz)).take c.sz)) (h4:MRow m b 0 cs):RepS c m (some ⟨b,0,none⟩) cap l:=by
 refine⟨h1,h2,.inl rfl,fun i x hx=>⟨_,h3 i x hx,?_⟩⟩
 intro j v hv
 rw[List.getElem?_take] at hv
 split at hv
 ·rw[List.getElem?_drop] at hv
  have:=h4 _ v hv
  simp only[kK] at this ⊢
  exact this
 ·cases hv
theorem RepS.cellsA{α:Type}{c:Codec α}{m:Mem}{a:Option Addr}{cap:Nat}{l:List α}(h:RepS c m a cap l):
  ∃cs,cs.length=l.length*c.sz∧(∀v∈cs,v.oneCell'=true)∧(∀p,a=some p→MRow m p.block p.off cs)∧∀i x,l[i]? =some x→c.rep m x ((cs.drop (i*c.sz)).take c.sz):=by
 cases a with
 |none=>
  obtain⟨h1,_,h3⟩:=h
  have:l=[]:=jX (by simp only at h3;omega)
  subst this
  exact⟨[],by simp,by simp,by simp,by simp⟩
 |some p=>
  obtain⟨cs,h1,h2,h3,h4⟩:=h.cells
  exact⟨cs,h1,h2,fun q hq=>by cases hq;exact h3,h4⟩
theorem Inv.cell{m:Mem}{w:World}(h:Inv m w){b o:Nat}{v:Value}(hv:m.cell b o=some v):w.cell? ⟨b,o,none⟩=some v:=by
 obtain⟨c,e,f,hb,hc⟩:=h.1 b o v hv
 simp[World.cell?,hb,hc]
theorem zJs{m:Mem}{w:World}(hi:Inv m w){a:Option Addr}{n cap sz:Nat}{cs:List Value}(hl:cs.length=n*sz)(hs:∀p,a=some p→(p.spot=none∨cs=[])∧MRow m p.block p.off cs)(ha:a=none→cs=[]):
  (Builtin.firstCells sz n (.slice a n cap)).run P w= .ok cs.toArray w:=by
 cases a with
 |none=>rw[ha rfl];simp[Builtin.firstCells]
 |some p=>
  obtain⟨h1,h2⟩:=hs p rfl
  exact run_firstCells_some w sz n p n cap cs hl fun j v hv=>by
   rcases h1 with h1|h1
   ·rw[qRd h1];exact hi.cell (h2 j v hv)
   ·subst h1;simp at hv
theorem RepS.none_nil{α:Type}{c:Codec α}{m:Mem}{cap:Nat}{l:List α}(h:RepS c m none cap l):l=[]∧cap=0:=by
 obtain⟨h1,_,h3⟩:=h
 simp only at h3
 exact⟨jX (by omega),h3⟩
theorem RepS.spot{α:Type}{c:Codec α}{m:Mem}{p:Addr}{cap:Nat}{l:List α}(h:RepS c m (some p) cap l)(hn:l≠[]):p.spot=none:=h.2.2.1.resolve_right hn
def Gives{α:Type}(P:Program)(c:Codec α)(m:Mem)(x:Value)(k:List α):Prop:=
 ∃cs,(∀w:World,Inv m w→Src P w c.sz x k.length cs)∧(∀i y,k[i]? =some y→c.rep m y ((cs.drop (i*c.sz)).take c.sz))
theorem RepS.src{α:Type}{c:Codec α}{m:Mem}{a:Option Addr}{cap:Nat}{l:List α}(h:RepS c m a cap l):Gives P c m (.slice a l.length cap) l:=by
 obtain⟨cs,h1,h2,h3,h4⟩:=h.cellsA
 refine⟨cs,fun w hi=>⟨by simp[Builtin.lenOf],zJs hi h1 (fun p hp=> ?_) (fun ha=> ?_),h1,h2⟩,h4⟩
 ·subst hp;exact⟨h.2.2.1.imp id (fun e=>by subst e;exact jX (by simpa using h1)),h3 p rfl⟩
 ·subst ha;obtain⟨rfl,rfl⟩:=h.none_nil;exact jX (by simpa using h1)
theorem zQg{α:Type}{c:Codec α}{m:Mem}{l k:List α}{c1 c2:List Value}(hl:c1.length=l.length*c.sz)
  (h1:∀i x,l[i]? =some x→c.rep m x ((c1.drop (i*c.sz)).take c.sz)) (h2:∀i x,k[i]? =some x→c.rep m x ((c2.drop (i*c.sz)).take c.sz)):
  ∀i x,(l++k)[i]? =some x→c.rep m x (((c1++c2).drop (i*c.sz)).take c.sz):=by
 intro i x hx
 rw[List.getElem?_append] at hx
 split at hx
 ·rename_i hi
  have hle:i*c.sz+c.sz≤c1.length:=by
   rw[hl]
   calc i*c.sz+c.sz=(i+1)*c.sz:=by rw[kI,hU]
    _≤l.length*c.sz:=kH _ hi
  have:((c1++c2).drop (i*c.sz)).take c.sz=(c1.drop (i*c.sz)).take c.sz:=by
   rw[gI (by omega),gA (by simp;omega)]
  rw[this];exact h1 i x hx
 ·rename_i hi
  have hle:c1.length≤i*c.sz:=by rw[hl];exact kH _ (by omega)
  have:(c1++c2).drop (i*c.sz)=c2.drop ((i-l.length)*c.sz):=by
   rw[fZ,jQ hle,kF,hl,Nat.sub_mul]
  rw[this];exact h2 _ x hx
theorem zKp{m:Mem}{w:World}(hi:Inv m w){b:Nat}{cs:List Value}(hm:MRow m b 0 cs){cur:Array Value}{e:TypeId}{f:Nat×Nat}(hb:w.heap[b]? =some (.cells cur e f)):cur.toList.take cs.length=cs:=by
 apply fU
 intro j
 rw[List.getElem?_take]
 by_cases hj:j<cs.length
 ·rw[if_pos hj]
  have:=hm j cs[j] (by simp[hj])
  obtain⟨c,e',f',h1,h2⟩:=hi.1 _ _ _ this
  rw[hb] at h1
  simp only[jK,Obj.cells.injEq] at h1
  obtain⟨rfl,_,_⟩:=h1
  simp only[kK] at h2
  simp[h2,hj]
 ·rw[if_neg hj];simp[Nat.le_of_not_lt hj]
theorem St.know{m:Mem}{own:List Piece}{w:World}{b:Nat}{cs:List Value}{cur:Array Value}{e:TypeId}{f:Nat×Nat}(h:St m own w)(hb:b∉own.filterMap Piece.block)
  (hw:w.heap[b]? =some (.cells cur e f)) (ht:cur.toList.take cs.length=cs) (hold:∀o v,m.cell b o=some v→cs[o]? =some v):
  ∃m',m.le m'∧St m' own w∧MRow m' b 0 cs∧(∀o,cs.length≤o→m'.cell b o=none)∧m'.obj=m.obj∧∀k,k≠b→m'.cell k=m.cell k:=by
 refine⟨m.addCells b (fun o=>cs[o]?),m.le_addCells b _,h.addCells hb ?_,?_,?_,rfl,?_⟩
 ·intro o v hv
  refine⟨cur,e,f,hw,?_⟩
  rw[←ht,List.getElem?_take] at hv
  split at hv
  ·simpa using hv
  ·cases hv
 ·intro j v hv
  simp only[Mem.addCells,kK,jI]
  cases hc:m.cell b j with
  |none=>simp[hv]
  |some u=>have:=hold j u hc;rw[hv] at this;simp_all
 ·intro o ho
  simp only[Mem.addCells,jI]
  cases hc:m.cell b o with
  |none=>simp[ho]
  |some u=>
   have:=hold o u hc
   have hlt:=(List.getElem?_eq_some_iff.1 this).1
   omega
 ·intro k hk;funext o;simp[Mem.addCells,hk]
theorem zHm{α:Type}{c:Codec α}{m:Mem}{own:List Piece}{w:World}{t u ty e by_:Nat}(hinfo:qOr P t=some (e,c.sz,by_,c.sz))(hu:zEr P u e)
  {a:Option Addr} {cap:Nat} {l k r:List α} {x:Value} (hst:St m (.room a l.length cap e c.sz::own) w) (hr:RepS c m a cap l)
  (hx:Gives P c m x k)
  (hs:qEb by_ l k=some r):
  ∃a' cap' m' w',(Builtin.append_ #[t,u] ty #[.slice a l.length cap,x]).run P w= .ok (.slice a' r.length cap') w'∧m.le m'∧St m' (.room a' r.length cap' e c.sz::own) w'∧RepS c m' a' cap' r:=by
 obtain⟨ht,i,z,hi,hz,hsz,hby,hzs⟩:=qOi hinfo
 unfold qEb at hs
 split at hs
 ·rename_i hfit
  simp only[jK] at hs
  subst hs
  obtain⟨hfit,h63⟩:=hfit
  have hinv:=hst.inv
  obtain⟨cs2,hsrcs,hrep2⟩:=hx
  have hsrc:=hsrcs w hinv
  obtain⟨cs1,hl1,ho1,hm1,hrep1⟩:=hr.cellsA
  have hl2:cs2.length=k.length*c.sz:=hsrc.2.2.1
  have hlen:(cs1++cs2).length=(l++k).length*c.sz:=by simp[hl1,hl2,kI]
  have hjoin:∀m',m.le m'→∀i y,(l++k)[i]? =some y→c.rep m' y (((cs1++cs2).drop (i*c.sz)).take c.sz):=fun m' hle=>
   zQg hl1 (fun i y hy=>c.mono _ _ _ _ hle (hrep1 i y hy)) (fun i y hy=>c.mono _ _ _ _ hle (hrep2 i y hy))
  have htail:=hst.tail
  -- a new block
  have out:cap<l.length+k.length→(∀w':World,Step w w'→w'.heap=w.heap→(Builtin.firstCells i.size l.length (.slice a l.length cap)).run P w'= .ok cs1.toArray w')→
    ∃a' cap' m' w',(Builtin.append_ #[t,u] ty #[.slice a l.length cap,x]).run P w= .ok (.slice a' (l++k).length cap') w'∧m.le m'∧St m' (.room a' (l++k).length cap' e c.sz::own) w'∧RepS c m' a' cap' (l++k):=by
   intro hlt hold
   have hinv':∀w':World,Step w w'→w'.heap=w.heap→Inv m w':=fun w' hs hw=>hinv.keep hs (fun b _ _=>by rw[hw])
   have hrun:=qQl w t u ty e i z ht hu hi hz (n:=k.length) (news:=cs2) (by rw[hsz];exact hsrc) a l.length cap cs1 hold
    (fun w' hs hw=>by rw[hsz];exact(hsrcs w' (hinv' w' hs hw)).2.1) hlt (by rw[hby];exact hfit) h63
   generalize hgc:grownCap w (l.length+k.length) cap e=gc at hrun
   have hge:l.length+k.length≤gc:=hgc▸grownCap_ge _ _ _ _
   have hgm:gc≤maxLen:=hgc▸grownCap_le_maxLen _ _ _ _ h63
   generalize hcur:(cs1++cs2).toArray++Builtin.zeroCells z.cells (gc-(l.length+k.length))=cur at hrun
   have hcs:cur.size=gc*c.sz:=by
    rw[←hcur]
    simp only[Array.size_append,jW,size_zeroCells,hzs,hlen,jF,←kI]
    congr 1;omega
   have hal:=htail.alloc (w':=w.drew.alloc (.cells cur e)) (o:= .cells cur e) ⟨⟨rfl,rfl⟩,rfl,dle⟩ rfl
   have htk:cur.toList.take (cs1++cs2).length=cs1++cs2:=by rw[←hcur,Array.toList_append,hY,List.take_left]
   have hfresh:=htail.fresh_free
   obtain⟨m',hle,hst',hrow,hno,hobj,hoth⟩:=St.know (b:=w.heap.size) hal.tail (hal.head_ne rfl) hal.head.1 htk (fun o v hv=>by rw[hfresh.1 o] at hv;cases hv)
   refine⟨some ⟨w.heap.size,0,none⟩,gc,m',w.drew.alloc (.cells cur e),by rw[hrun,jF],hle,?_,RepS.of_cells (by simpa using hge) hgm (hjoin m' hle) hrow⟩
   refine hst'.cons ⟨rfl,rfl,by simpa using hge,hgm,⟨cur,hal.head.1,hcs⟩,?_,?_⟩ ?_
   ·intro o ho;exact hno o (by rw[hlen];exact ho)
   ·rw[hobj];exact hfresh.2
   ·intro b hb
    simp only[Piece.block,gL,jK] at hb
    subst hb
    exact hal.head_ne rfl
  cases a with
  |none=>
   obtain⟨rfl,rfl⟩:=hr.none_nil
   have hc1:cs1=[]:=jX (by simpa using hl1)
   subst hc1
   by_cases hk:k.length=0
   ·have hkn:k=[]:=jX hk
    subst hkn
    refine⟨none,0,m,w,?_,m.le_refl,hst,hr⟩
    have:=qPn w t u ty e i ht hu hi (x:=x) (news:=cs2) (by rw[hsz];exact hsrc)
    simpa using this
   ·exact out (by simp;omega) (fun w' _ _=>by simp[Builtin.firstCells])
  |some p=>
   obtain⟨h1,h2,h3,h4,⟨cur,h5,h6⟩,h7,h8⟩:=hst.head
   obtain⟨g,off,spot⟩:=p
   simp only at h1 h2 h5 h7 h8
   subst h1;subst h2
   have hrow1:=hm1 _ rfl
   simp only at hrow1
   by_cases hroom:l.length+k.length≤cap
   ·have hfit2:l.length*i.size+cs2.length≤cur.size:=by rw[hl2,h6,hsz,←kI];exact kH _ hroom
    have hrun:=qSa w t u ty e i ht hu hi (x:=x) (n:=k.length) (news:=cs2) (by rw[hsz];exact hsrc) g l.length cap cur h5 hroom hfit2
    rw[hsz,←hl1] at hrun
    rw[zKp hinv hrow1 h5] at hrun
    generalize hw':w.setRow g (cs1++cs2++cur.toList.drop (cs1.length+cs2.length)).toArray=w' at hrun
    have hnew:w'.heap[g]? =some (.cells (cs1++cs2++cur.toList.drop (cs1.length+cs2.length)).toArray e (0,0)):=by rw[←hw'];exact setRow_heap w g cur _ e _ h5
    have hoth:∀b,b≠g→w'.heap[b]? =w.heap[b]? :=fun b hb=>by rw[←hw'];exact setRow_other w g b _ hb
    have hcs:(cs1++cs2++cur.toList.drop (cs1.length+cs2.length)).toArray.size=cap*c.sz:=by
     simp only[jW,jF,gG,fB]
     have:l.length*c.sz+k.length*c.sz≤cap*c.sz:=by rw[←kI];exact kH _ hroom
     omega
    have hne:=hst.head_ne (b:=g) rfl
    have hst1:St m own w':=by
     refine⟨?_,fun q hq=>Piece.holds_keep (htail.2.1 q hq) (fun b hb=>hoth b ?_),htail.2.2⟩
     ·refine⟨?_,?_,hinv.2.2.trans (by rw[←hw'];exact⟨⟨rfl,rfl⟩,rfl,dle⟩)⟩
      ·intro b o v hv
       by_cases hb:b=g
       ·subst hb
        refine⟨_,e,(0,0),hnew,?_⟩
        by_cases ho:o<l.length*c.sz
        ·obtain⟨cc,e',f',hcc,hco⟩:=hinv.1 b o v hv
         rw[h5] at hcc
         simp only[jK,Obj.cells.injEq] at hcc
         obtain⟨rfl,_,_⟩:=hcc
         have hlt:o<cs1.length:=by rw[hl1];exact ho
         have htk:=zKp hinv hrow1 h5
         have:cs1[o]? =some v:=by
          rw[←htk,List.getElem?_take,if_pos hlt]
          simpa using hco
         simp only[List.getElem?_toArray,jO,List.getElem?_append,if_pos hlt]
         exact this
        ·rw[h7 o (by omega)] at hv;cases hv
       ·obtain⟨cc,e',f',hcc,hco⟩:=hinv.1 b o v hv
        exact⟨cc,e',f',by rw[hoth b hb];exact hcc,hco⟩
      ·intro b y hy
       have:b≠g:=by rintro rfl;rw[h8] at hy;cases hy
       rw[hoth b this];exact hinv.2.1 b y hy
     ·rintro rfl;exact hne (qTt.2 ⟨q,hq,hb⟩)
    obtain⟨m',hle,hst',hrow,hno,hobj,_⟩:=St.know (b:=g) (cs:=cs1++cs2) hst1 hne hnew (by rw[hY,List.take_left]) (fun o v hv=>by
     by_cases ho:o<l.length*c.sz
     ·have hlt:o<cs1.length:=by rw[hl1];exact ho
      have:=hrow1 o cs1[o] (by simp[hlt])
      simp only[kK] at this
      rw[this] at hv
      simp only[List.getElem?_append,if_pos hlt]
      rw[←hv];simp[hlt]
     ·rw[h7 o (by omega)] at hv;cases hv)
    refine⟨some ⟨g,0,none⟩,cap,m',w',by rw[hrun,jF],hle,?_,RepS.of_cells (by simpa using hroom) h4 (hjoin m' hle) hrow⟩
    refine hst'.cons ⟨rfl,rfl,by simpa using hroom,h4,⟨_,hnew,hcs⟩,?_,?_⟩ ?_
    ·intro o ho;exact hno o (by rw[hlen];exact ho)
    ·rw[hobj];exact h8
    ·intro b hb
     simp only[Piece.block,gL,jK] at hb
     subst hb;exact hne
   ·exact out (by omega) (fun w' hs hw=>by
     have hinv':Inv m w':=hinv.keep hs (fun b _ _=>by rw[hw])
     rw[hsz]
     exact zJs hinv' hl1 (fun p hp=>by cases hp;exact⟨.inl rfl,hrow1⟩) (fun h=>by cases h))
 ·cases hs
end
end
section
def cInt(k:IntKind):Codec Int where
 sz:=1
 pos:=Nat.one_pos
 rep _ x cs:=cs=[.int k x]
 len:=by rintro _ _ _ rfl;rfl
 one:=by rintro _ _ _ rfl v hv;simp at hv;subst hv;rfl
 mono:=fun _ _ _ _ _ h=>h
def cU8:Codec UInt8 where
 sz:=1
 pos:=Nat.one_pos
 rep _ x cs:=cs=[.int .u8 (x.toNat:Int)]
 len:=by rintro _ _ _ rfl;rfl
 one:=by rintro _ _ _ rfl v hv;simp at hv;subst hv;rfl
 mono:=fun _ _ _ _ _ h=>h
def cStr:Codec ByteArray where
 sz:=1
 pos:=Nat.one_pos
 rep _ x cs:=cs=[.string x]
 len:=by rintro _ _ _ rfl;rfl
 one:=by rintro _ _ _ rfl v hv;simp at hv;subst hv;rfl
 mono:=fun _ _ _ _ _ h=>h
def qVi{α β:Type}(a:Codec α)(b:Codec β):Codec (α×β) where
 sz:=a.sz+b.sz
 pos:=Nat.lt_of_lt_of_le a.pos (Nat.le_add_right ..)
 rep m x cs:=∃c1 c2,cs=c1++c2∧a.rep m x.1 c1∧b.rep m x.2 c2
 len:=by rintro m x cs ⟨c1,c2,rfl,h1,h2⟩;rw[jF,a.len _ _ _ h1,b.len _ _ _ h2]
 one:=by
  rintro m x cs ⟨c1,c2,rfl,h1,h2⟩ v hv
  rcases kL.1 hv with hv|hv
  ·exact a.one _ _ _ h1 v hv
  ·exact b.one _ _ _ h2 v hv
 mono:=by rintro m m' x cs hle ⟨c1,c2,rfl,h1,h2⟩;exact⟨c1,c2,rfl,a.mono _ _ _ _ hle h1,b.mono _ _ _ _ hle h2⟩
def cSl{α:Type}(c:Codec α):Codec (List α) where
 sz:=1
 pos:=Nat.one_pos
 rep m l cs:=∃a cap,cs=[.slice a l.length cap]∧RepS c m a cap l
 len:=by rintro _ _ _ ⟨a,cap,rfl,_⟩;rfl
 one:=by rintro _ _ _ ⟨a,cap,rfl,_⟩ v hv;simp at hv;subst hv;rfl
 mono:=by rintro m m' x cs hle ⟨a,cap,rfl,h⟩;exact⟨a,cap,rfl,h.mono hle⟩
theorem qVu{α:Type}{c:Codec α}{m:Mem}{a:Option Addr}{cap:Nat}{l:List α}(h:RepS c m a cap l):(cSl c).rep m l [.slice a l.length cap]:=⟨a,cap,rfl,h⟩
def RepAll{α:Type}(c:Codec α)(m:Mem):List α→List Value→Prop
 |[],cs=>cs=[]
 |x::l,cs=>∃c1 c2,cs=c1++c2∧c.rep m x c1∧RepAll c m l c2
theorem RepAll.len{α:Type}{c:Codec α}{m:Mem}:∀{l:List α} {cs:List Value},RepAll c m l cs→cs.length=l.length*c.sz
 |[],cs,h=>by simp[RepAll] at h;simp[h]
 |x::l,cs,h=>by
  obtain⟨c1,c2,rfl,h1,h2⟩:=h
  rw[jF,c.len _ _ _ h1,h2.len,jD,kI,hU,dL]
theorem RepAll.rep{α:Type}{c:Codec α}{m:Mem}:∀{l:List α} {cs:List Value},RepAll c m l cs→∀i x,l[i]? =some x→c.rep m x ((cs.drop (i*c.sz)).take c.sz)
 |[],_,_=>by simp
 |y::l,cs,h=>by
  obtain⟨c1,c2,rfl,h1,h2⟩:=h
  intro i x hx
  have hl:=c.len _ _ _ h1
  cases i with
  |zero=>simp at hx;subst hx;simp[←hl];exact h1
  |succ i=>
   have e:(c1++c2).drop ((i+1)*c.sz)=c2.drop (i*c.sz):=by
    rw[fZ,jQ (by rw[hl,kI];omega),kF,hl,kI,hU,dD]
   rw[e];exact h2.rep i x (by simpa using hx)
def qUt(P:Program)(t:TypeId)(cs:List Value):Option Value:=
 match P.underlying t with
 |some (.struct _)|some (.array _ _)=>match P.info? t with
  |some i=>bif Nat.ble i.size cs.length then some (.agg (cs.take i.size).toArray) else none
  |none=>none
 |some _=>cs.head?
 |none=>none
def zJi:TypeDesc→Bool
 | .struct _=>true
 | .array _ _=>true
 |_=>false
theorem qPq{P:Program}{w:World}{t:TypeId}{b o:Nat}{cs:List Value}{v:Value}(hc:∀j u,cs[j]? =some u→w.cell? ⟨b,o+j,none⟩=some u)(h:qUt P t cs=some v):
  (loadVar t ⟨b,o,none⟩).run P w= .ok v w:=by
 have agg:∀d,P.underlying t=some d→(isAgg t).run P w= .ok (zJi d) w:=by
  intro d hd;unfold isAgg;cases d<;>simp[run_underlying hd,zJi]
 have big:∀d,P.underlying t=some d→zJi d=true→(match P.info? t with
  |some i=>bif Nat.ble i.size cs.length then some (Value.agg (cs.take i.size).toArray) else none
  |none=>none)=some v→(loadVar t ⟨b,o,none⟩).run P w= .ok v w:=by
  intro d hd hb h
  cases hi:P.info? t with
  |none=>simp[hi] at h
  |some i=>
   simp only[hi] at h
   cases hle:Nat.ble i.size cs.length with
   |false=>simp[hle] at h
   |true=>
    simp[hle] at h
    subst h
    have hle':=gD hle
    have hl:=run_loadCells_list (P:=P) w ⟨b,o,none⟩ (cs.take i.size) (fun j u hu=>by
     rw[qOj]
     rw[List.getElem?_take] at hu
     split at hu
     ·exact hc j u hu
     ·cases hu)
    have:(cs.take i.size).length=i.size:=by simp;omega
    rw[this] at hl
    have ha:=agg d hd
    rw[hb] at ha
    simp[loadVar,ha,sizeOf,typeInfo,hi,hl]
 unfold qUt at h
 split at h
 ·rename_i hd;exact big _ hd rfl h
 ·rename_i hd;exact big _ hd rfl h
 ·rename_i d hn1 hn2 hd
  have ha:=agg d hd
  have hf:zJi d=false:=by
   cases d<;>first|rfl|exact(hn1 _ rfl).elim|exact(hn2 _ _ rfl).elim
  rw[hf] at ha
  have hh:cs[0]? =some v:=by rw[List.head?_eq_getElem?] at h;exact h
  have:=hc 0 v hh
  simp only[gX] at this
  simp[loadVar,ha,this]
 ·cases h
section
variable {P:Program} {n:Fr} {ops:Array Oper} {Q:Exit→Act→World→Prop} {i d:Nat} {L:Env} {w:World} {m:Mem} {own:List Piece} {N:Env→World→Prop}
theorem qCc{L:Env}{x:Operand}{v:Value}(h:evL L x=some v):evD L x=v:=by simp[evD,h]
theorem qAw{t:TypeId}{x:Operand}{b o:Nat}{cs:List Value}(v:Value)(ho:opAt ops L i=some (some d,.load t x))(hd:Nat.blt d n=true)
  (hx:evL L x=some (.pointer (some ⟨b,o,none⟩))) (hst:St m own w) (hr:MRow m b o cs) (hv:qUt P t cs=some v)
  (h:N ((d,v)::L) w):One P n ops Q i N L w:=by
 refine qHb ho hd (fun q hq=> ?_) h
 have hl:=qPq (P:=P) (w:=w) (t:=t) (b:=b) (o:=o) (cs:=cs) (v:=v) (fun j u hu=>hst.inv.cell (hr j u hu)) hv
 simp[execOp,hq,Instr.loadAt,qCc hx,Instr.sureAddr,hl]
theorem qXr{t e:TypeId}{x:Operand}{b o:Nat}{c:Array Value}{f:Nat×Nat}(v:Value)(ho:opAt ops L i=some (some d,.load t x))(hd:Nat.blt d n=true)
  (hx:evL L x=some (.pointer (some ⟨b,o,none⟩))) (hp:Piece.holds m w (.blk b (.cells c e f))) (hv:qUt P t (c.toList.drop o)=some v)
  (h:N ((d,v)::L) w):One P n ops Q i N L w:=by
 refine qHb ho hd (fun q hq=> ?_) h
 have hb:=hp.1
 have hl:=qPq (P:=P) (w:=w) (t:=t) (b:=b) (o:=o) (cs:=c.toList.drop o) (v:=v) (fun j u hu=>by
  rw[List.getElem?_drop] at hu
  simp only[World.cell?,hb]
  simpa using hu) hv
 simp[execOp,hq,Instr.loadAt,qCc hx,Instr.sureAddr,hl]
def zJv:List Value→Bool
 |[]=>true
 |v::l=>v.oneCell'&&zJv l
theorem zCd{l:List Value}(h:zJv l=true):∀v∈l,v.oneCell'=true:=by
 induction l with
 |nil=>simp
 |cons u l ih=>
  simp only[zJv,jN] at h
  intro v hv
  rcases jM.1 hv with rfl|hv
  ·exact h.1
  ·exact ih h.2 v hv
def qWn(P:Program)(t:TypeId)(v:Value)(o n:Nat):Bool:=
 match P.info? t with
 |some i=>Nat.beq v.cells.size i.size&&Nat.ble (o+v.cells.size) n&&zJv v.cells.toList
 |none=>false
theorem zEt{t e:TypeId}{x y:Operand}{b o:Nat}{c c':Array Value}{v:Value}(ho:opAt ops L i=some (none,.store t x y))
  (hx:evL L x=some (.pointer (some ⟨b,o,none⟩))) (hy:evL L y=some v) (hst:St m (.blk b (.cells c e (0,0))::own) w) (hok:qWn P t v o c.size=true)
  (hc':(c.toList.take o++v.cells.toList++c.toList.drop (o+v.cells.toList.length)).toArray=c')
  (h:∀w',St m (.blk b (.cells c' e (0,0))::own) w'→N L w'):One P n ops Q i N L w:=by
 unfold qWn at hok
 cases hi:P.info? t with
 |none=>simp[hi] at hok
 |some inf=>
  simp only[hi,jN] at hok
  obtain⟨⟨h1,h2⟩,h3⟩:=hok
  have h1':=fG h1
  have h2':=gD h2
  have hrun:=run_storeCells_at P b o e v.cells.toList 0 c w hst.head.1 (by simpa using h2') (zCd h3)
  simp only[gX] at hrun
  rw[hc'] at hrun
  refine qRw ho (fun q hq=> ?_) (h (w.setRow b c') (hst.set ⟨⟨rfl,rfl⟩,rfl,dle⟩ (setRow_heap w b c c' e _ hst.head.1) (fun k _ hk=>setRow_other w b k _ hk)))
  simp[execOp,hq,Instr.storeAt,qCc hx,qCc hy,Instr.sureAddr,storeVar,sizeOf,typeInfo,hi,h1',hrun]
theorem zAf{e:TypeId}{x:Operand}(v:Value)(ho:opAt ops L i=some (some d,.box e x))(hd:Nat.blt d n=true)(hx:evL L x=some v)(hst:St m own w)
  (h:∀b w',St m (.blk b (.cells v.cells e (0,0))::own) w'→N ((d,.pointer (some ⟨b,0,none⟩))::L) w'):One P n ops Q i N L w:=by
 refine qHb (w':=w.alloc (.cells v.cells e)) ho hd (fun q hq=> ?_) (h w.heap.size _ (hst.alloc ⟨⟨rfl,rfl⟩,rfl,dle⟩ rfl))
 simp[execOp,hq,Instr.box,qCc hx,newVar,newRow]
theorem St.settle{b:Nat}{c:Array Value}{e:TypeId}{f:Nat×Nat}(h:St m (.blk b (.cells c e f)::own) w):∃m',m.le m'∧St m' own w∧MRow m' b 0 c.toList:=by
 obtain⟨m',h1,h2,h3,_⟩:=St.know (cs:=c.toList) h.tail (h.head_ne rfl) h.head.1 (kW (jU _)) (fun o v hv=>by rw[h.head.2.1 o] at hv;cases hv)
 exact⟨m',h1,h2,h3⟩
theorem zUm{e:TypeId}{x:Operand}(v:Value)(ho:opAt ops L i=some (some d,.box e x))(hd:Nat.blt d n=true)(hx:evL L x=some v)(hst:St m own w)
  (h:∀b m' w',m.le m'→St m' own w'→MRow m' b 0 v.cells.toList→N ((d,.pointer (some ⟨b,0,none⟩))::L) w'):One P n ops Q i N L w:=by
 refine zAf v ho hd hx hst (fun b w' hs=> ?_)
 obtain⟨m',h1,h2,h3⟩:=hs.settle
 exact h b m' w' h1 h2 h3
def zSk(P:Program)(e:TypeId):Option Value:=(P.info? e).bind (·.zero)
theorem zMn{e:TypeId}(v:Value)(ho:opAt ops L i=some (some d,.alloc e))(hd:Nat.blt d n=true)(hz:zSk P e=some v)(hst:St m own w)
  (h:∀b w',St m (.blk b (.cells v.cells e (0,0))::own) w'→N ((d,.pointer (some ⟨b,0,none⟩))::L) w'):One P n ops Q i N L w:=by
 obtain⟨inf,hi,hz'⟩:=jV.1 hz
 refine qHb (w':=w.alloc (.cells v.cells e)) ho hd (fun q hq=> ?_) (h w.heap.size _ (hst.alloc ⟨⟨rfl,rfl⟩,rfl,dle⟩ rfl))
 simp[execOp,hq,Instr.alloc,zeroValue,typeInfo,hi,hz',newVar,newRow]
def idx{α:Type}(l:List α)(i:Int):Option α:=if 0≤i then l[i.toNat]? else none
def qJf(P:Program)(t:TypeId):Option (TypeId×Nat):=
 match P.underlying t with
 |some (.slice e)=>(P.info? e).map fun i=>(e,i.size)
 |_=>none
theorem qJq{t e sz:Nat}(h:qJf P t=some (e,sz)):P.underlying t=some (.slice e)∧∃inf,P.info? e=some inf∧inf.size=sz:=by
 unfold qJf at h
 split at h
 ·rename_i e' he
  cases hi:P.info? e' with
  |none=>simp[hi] at h
  |some inf=>simp[hi] at h;obtain⟨rfl,h2⟩:=h;exact⟨he,inf,hi,h2⟩
 ·cases h
theorem zPo{α:Type}{t e:TypeId}{x y:Operand}(c:Codec α){a:Option Addr}{cap:Nat}{l:List α}{k:IntKind}{ix:Int}{z:α}(ho:opAt ops L i=some (some d,.indexAddr t x y))(hd:Nat.blt d n=true)
  (hx:evL L x=some (.slice a l.length cap)) (hy:evL L y=some (.int k ix)) (hi:qJf P t=some (e,c.sz)) (hr:RepS c m a cap l) (hz:idx l ix=some z)
  (h:∀b o cs,c.rep m z cs→MRow m b o cs→N ((d,.pointer (some ⟨b,o,none⟩))::L) w):One P n ops Q i N L w:=by
 obtain⟨h1,inf,h2,h3⟩:=qJq hi
 unfold idx at hz
 split at hz
 ·rename_i h0
  have hlt:ix.toNat<l.length:=(List.getElem?_eq_some_iff.1 hz).1
  cases a with
  |none=>obtain⟨rfl,_⟩:=hr.none_nil;simp at hlt
  |some p=>
   obtain⟨cs,hc,hm⟩:=hr.2.2.2 _ _ hz
   refine qHb ho hd (fun q hq=> ?_) (h p.block (p.off+ix.toNat*c.sz) cs hc hm)
   have hlt':ix<(l.length:Int):=by omega
   simp[execOp,hq,Instr.indexAt,qCc hx,qCc hy,asIntOf,run_underlying h1,h0,hlt',sizeOf,typeInfo,h2,h3,qRd (hr.spot (fun e=>by rw[e] at hlt;simp at hlt))]
 ·cases hz
theorem zLl{α:Type}{t u e by_:Nat}{x y:Operand}(c:Codec α){a:Option Addr}{cap:Nat}{l k r:List α}{v:Value}
  (ho:opAt ops L i=some (some d,.call {callee:= .builtin .append,args:= #[x,y],argTypes:= #[t,u]})) (hd:Nat.blt d n=true)
  (hx:evL L x=some (.slice a l.length cap)) (hy:evL L y=some v) (hst:St m (.room a l.length cap e c.sz::own) w) (hi:qOr P t=some (e,c.sz,by_,c.sz)) (hu:zEr P u e)
  (hr:RepS c m a cap l) (hg:Gives P c m v k) (hs:qEb by_ l k=some r)
  (h:∀a' cap' m' w',m.le m'→St m' (.room a' r.length cap' e c.sz::own) w'→RepS c m' a' cap' r→N ((d,.slice a' r.length cap')::L) w'):One P n ops Q i N L w:=by
 refine qQb (v:=undef) (w':=w) ho hd (fun o h3=> ?_)
 obtain⟨a',cap',m',w',hrun,hle,hst',hrep⟩:=zHm (P:=P) (ty:=o.type) hi hu hst hr hg hs
 refine⟨_,w',?_,h a' cap' m' w' hle hst' hrep⟩
 simp[execOp,h3,resolve,invoke,builtin,qCc hx,qCc hy,hrun]
theorem St.nilroom(h:St m own w)(e sz:Nat):St m (.room none 0 0 e sz::own) w:=h.cons ⟨rfl,rfl⟩ (by simp[Piece.block])
theorem Gives.str(s:ByteArray):Gives P cU8 m (.string s) s.data.toList:=by
 refine⟨s.data.toList.map fun b=> .int .u8 (b.toNat:Int),fun w _=>⟨?_,?_,?_,?_⟩,?_⟩
 ·simp[Builtin.lenOf]
 ·have:s.extract 0 s.size=s:=by simp
  simp only[Builtin.firstCells,Sem.run_pure]
  congr 1
  apply Array.ext'
  simp
 ·simp[cU8]
 ·intro v hv;simp at hv;obtain⟨b,_,rfl⟩:=hv;rfl
 ·intro j x hx
  show List.take 1 (List.drop (j*1) _)=_
  rw[dO,←List.map_drop,←List.map_take]
  have hlt:=(List.getElem?_eq_some_iff.1 hx).1
  have he:=(List.getElem?_eq_some_iff.1 hx).2
  rw[jR hlt,he]
  rfl
theorem qAu{α:Type}{t e:TypeId}{len:Nat}{parts:Array (Nat×Operand)}(c:Codec α){xs:List α}(cs:List Value)(ho:opAt ops L i=some (some d,.buildSlice t len parts))(hd:Nat.blt d n=true)
  (hrun:∀w:World,(Instr.buildSlice t len (parts.map fun p=>(p.1,evD L p.2))).run P w= .ok (.slice (some ⟨w.heap.size,0,none⟩) len len) (w.alloc (.cells cs.toArray e)))
  (hlen:len=xs.length) (hmax:Nat.ble len maxLen=true) (hst:St m own w) (hr:RepAll c m xs cs)
  (h:∀b m' w',m.le m'→St m' (.room (some ⟨b,0,none⟩) xs.length len e c.sz::own) w'→RepS c m' (some ⟨b,0,none⟩) len xs→N ((d,.slice (some ⟨b,0,none⟩) xs.length len)::L) w'):One P n ops Q i N L w:=by
 subst hlen
 have hal:=hst.alloc (w':=w.alloc (.cells cs.toArray e)) ⟨⟨rfl,rfl⟩,rfl,dle⟩ rfl
 have hfresh:=hst.fresh_free
 obtain⟨m',h1,h2,h3,h4,h5,_⟩:=St.know (cs:=cs) hal.tail (hal.head_ne rfl) hal.head.1 (by simp) (fun o v hv=>by rw[hfresh.1 o] at hv;cases hv)
 have hmx:=gD hmax
 refine qHb ho hd (fun q hq=> ?_) (h w.heap.size m' _ h1 (h2.cons ⟨rfl,rfl,jU _,hmx,⟨cs.toArray,hal.head.1,by simp[hr.len]⟩,?_,?_⟩ ?_) (RepS.of_cells (jU _) hmx (fun j x hx=>c.mono _ _ _ _ h1 (hr.rep j x hx)) h3))
 ·simp[execOp,hq,hrun w]
 ·intro o ho';exact h4 o (by rw[hr.len];exact ho')
 ·rw[h5];exact hfresh.2
 ·intro b hb;simp only[Piece.block,gL,jK] at hb;subst hb;exact hal.head_ne rfl
def zCi(P:Program)(t:TypeId)(len:Nat)(parts:List (Nat×Value)):Option (TypeId×List Value):=
 match P.underlying t with
 |some (.slice e)=>match P.info? e with
  |some inf=>bif Nat.ble (len*inf.size) (2^24)&&Nat.blt 0 (len*inf.size) then
   (match inf.zero with
   |some z=>(Instr.fill (fun i=>some (i*inf.size,inf.size)) ((Array.range (len*inf.size)).map (z.cells[· %z.cells.size]!)) parts).map fun a=>(e,a.toList)
   |none=>none) else none
  |none=>none
 |_=>none
theorem zBb{t e:TypeId}{parts:Array (Nat×Value)}{cs:List Value}(hp:parts= #[])(h:(P.underlying t,(P.info? e).isSome,cs)=(some (.slice e),true,[]))(w:World):
  (Instr.buildSlice t 0 parts).run P w= .ok (.slice (some ⟨w.heap.size,0,none⟩) 0 0) (w.alloc (.cells cs.toArray e)):=by
 simp only[Prod.mk.injEq] at h
 obtain⟨h1,h2,rfl⟩:=h
 subst hp
 obtain⟨inf,hi⟩:=Option.isSome_iff_exists.1 h2
 have hn:∀(z:Value),(newRow e (Array.map (fun _=>z) (Array.range 0))).run P w= .ok ⟨w.heap.size,0,none⟩ (w.alloc (.cells #[] e)):=fun z=>by rw[show Array.range 0= #[] by simp,show Array.map (fun _=>z) (#[]:Array Nat)= #[] by simp];rfl
 simp[Instr.buildSlice,run_underlying h1,sizeOf,typeInfo,hi,Instr.fill,hn]
theorem qAv{t e:TypeId}{len:Nat}{parts:Array (Nat×Value)}{cs:List Value}(h:zCi P t len parts.toList=some (e,cs))(w:World):
  (Instr.buildSlice t len parts).run P w= .ok (.slice (some ⟨w.heap.size,0,none⟩) len len) (w.alloc (.cells cs.toArray e)):=by
 unfold zCi at h
 split at h
 ·rename_i e' he
  split at h
  ·rename_i inf hi
   cases hb:(Nat.ble (len*inf.size) (2^24)&&Nat.blt 0 (len*inf.size)) with
   |false=>simp[hb] at h
   |true=>
    simp only[hb,cond_true] at h
    simp only[jN] at hb
    have h1:=gD hb.1
    have h2:0<len*inf.size:=by simpa[Nat.blt_eq] using hb.2
    have h1':¬(16777216<len*inf.size):=by omega
    have h2':¬(len*inf.size=0):=by omega
    split at h
    ·rename_i z hz
     obtain⟨a,ha,hp⟩:=gP.1 h
     simp only[Prod.mk.injEq] at hp
     obtain⟨rfl,rfl⟩:=hp
     simp[Instr.buildSlice,run_underlying he,sizeOf,typeInfo,zeroValue,hi,hz,h1',ha,newRow]
     intro h0;exact absurd h0 h2'
    ·cases h
  ·cases h
 ·cases h
def subS{α:Type}(l:List α)(lo hi:Int):Option (List α):=if 0≤lo∧lo≤hi∧hi≤l.length then some ((l.take hi.toNat).drop lo.toNat) else none
theorem RepS.sub{α:Type}{c:Codec α}{a:Option Addr}{cap:Nat}{l:List α}(h:RepS c m a cap l){lo hi:Nat}(h1:lo≤hi)(h2:hi≤l.length):
  RepS c m (if cap=lo then a else a.map (·.add (lo*c.sz))) (cap-lo) ((l.take hi).drop lo)∧((l.take hi).drop lo).length=hi-lo:=by
 have hlen:((l.take hi).drop lo).length=hi-lo:=by simp;omega
 refine⟨⟨by rw[hlen];have:=h.1;omega,by have:=h.2.1;omega,?_⟩,hlen⟩
 cases a with
 |none=>
  obtain⟨rfl,hc⟩:=h.none_nil
  have:(if cap=lo then(none:Option Addr) else(none:Option Addr).map (·.add (lo*c.sz)))=none:=by split<;>rfl
  rw[this]
  simp[hc]
 |some p=>
  by_cases hl:l=[]
  ·subst hl
   have h0:lo=0:=by simp at h2;omega
   subst h0
   simp[Addr.add]
  have hs:=h.spot hl
  by_cases hc:cap=lo
  ·rw[if_pos hc]
   refine⟨.inl hs,fun j x hx=> ?_⟩
   have hj:=(List.getElem?_eq_some_iff.1 hx).1
   have:=h.1
   omega
  ·rw[if_neg hc]
   simp only[gL]
   rw[qRd hs]
   refine⟨.inl rfl,fun j x hx=> ?_⟩
   rw[List.getElem?_drop,List.getElem?_take] at hx
   split at hx
   ·obtain⟨cs,hr,hm⟩:=h.2.2.2 _ _ hx
    refine⟨cs,hr,?_⟩
    rw[gQ,←kI];exact hm
   ·cases hx
theorem zEq{α:Type}{t e:TypeId}{x:Operand}{lo hi:Option Operand}(c:Codec α){a:Option Addr}{cap:Nat}{l r:List α}{li hix:Int}
  (hx:evL L x=some (.slice a l.length cap)) (hI:qJf P t=some (e,c.sz)) (hr:RepS c m a cap l)
  (hlo:(lo=none∧li=0)∨∃y k,lo=some y∧evL L y=some (.int k li)) (hhi:(hi=none∧hix=l.length)∨∃y k,hi=some y∧evL L y=some (.int k hix)) (hs:subS l li hix=some r):
  ∃v,(∀o:Oper,o.op= .slice t x lo hi none→∀w:World,(execOp (evD L) o).run P w= .ok (.value v) w)∧∃a' cap',v= .slice a' r.length cap'∧RepS c m a' cap' r:=by
 obtain⟨h1,inf,h2,h3⟩:=qJq hI
 unfold subS at hs
 split at hs
 ·rename_i hb
  obtain⟨b1,b2,b3⟩:=hb
  simp only[jK] at hs
  have hsub:=hr.sub (lo:=li.toNat) (hi:=hix.toNat) (by omega) (by omega)
  rw[hs] at hsub
  refine⟨_,fun q hq w=> ?_,_,_,rfl,hsub.1⟩
  have hcap:hix≤(cap:Int):=by have:=hr.1;omega
  have hpos:0≤hix:=by omega
  have hll:li≤max hix 0:=by omega
  rcases hlo with ⟨rfl,rfl⟩|⟨y,k,rfl,hy⟩<;>rcases hhi with ⟨rfl,rfl⟩|⟨y',k',rfl,hy'⟩
  ·simp[execOp,hq,Instr.sliceAt,Instr.slice,Instr.sliceBounds,run_underlying h1,qCc hx,sizeOf,typeInfo,h2,h3] at*
   exact hsub.2.symm
  ·simp[execOp,hq,Instr.sliceAt,Instr.slice,Instr.sliceBounds,Instr.sliceBound,asIntOf,run_underlying h1,qCc hx,qCc hy',sizeOf,typeInfo,h2,h3,hpos,hcap] at*
   exact hsub.2.symm
  ·have:li≤(l.length:Int):=b2
   simp[execOp,hq,Instr.sliceAt,Instr.slice,Instr.sliceBounds,Instr.sliceBound,asIntOf,run_underlying h1,qCc hx,qCc hy,sizeOf,typeInfo,h2,h3,b1,this] at*
   exact hsub.2.symm
  ·simp[execOp,hq,Instr.sliceAt,Instr.slice,Instr.sliceBounds,Instr.sliceBound,asIntOf,run_underlying h1,qCc hx,qCc hy,qCc hy',sizeOf,typeInfo,h2,h3,hpos,hcap,b1,hll] at*
   exact hsub.2.symm
 ·cases hs
theorem zAq{α:Type}{t e:TypeId}{x:Operand}{lo hi:Option Operand}(c:Codec α){a:Option Addr}{cap:Nat}{l r:List α}{li hix:Int}
  (ho:opAt ops L i=some (some d,.slice t x lo hi none)) (hd:Nat.blt d n=true) (hx:evL L x=some (.slice a l.length cap)) (hI:qJf P t=some (e,c.sz)) (hr:RepS c m a cap l)
  (hlo:(lo=none∧li=0)∨∃y k,lo=some y∧evL L y=some (.int k li)) (hhi:(hi=none∧hix=l.length)∨∃y k,hi=some y∧evL L y=some (.int k hix)) (hs:subS l li hix=some r)
  (h:∀a' cap',RepS c m a' cap' r→N ((d,.slice a' r.length cap')::L) w):One P n ops Q i N L w:=by
 obtain⟨v,hv,a',cap',rfl,hrep⟩:=zEq (P:=P) (L:=L) c hx hI hr hlo hhi hs
 exact qHb ho hd (fun q hq=>hv q hq w) (h a' cap' hrep)
end
end
end Go.Dc
section
namespace Go.Dc
def remS(x y:Int):Option Int:=if y=0 then none else some (x.tmod y)
def toU8(x:Int):UInt8:=UInt8.ofNat x.toNat
theorem zPj(z:Int):((toU8 (IntKind.wrap .u8 z)).toNat:Int)=IntKind.wrap .u8 z:=by
 have h:IntKind.wrap .u8 z=z%256:=by simp[IntKind.wrap,IntKind.signed,IntKind.bits]
 rw[h]
 have h1:0≤z%256:=by omega
 have h2:z%256<256:=by omega
 simp only[toU8]
 rw[UInt8.toNat_ofNat']
 omega
theorem rep_u8{m:Mem}{z:Int}(h:((toU8 z).toNat:Int)=z):cU8.rep m (toU8 z) [.int .u8 z]:=by
 show _=_
 rw[h]
theorem qYq{m:Mem}(z:Int):cU8.rep m (toU8 (IntKind.wrap .u8 z)) [.int .u8 (IntKind.wrap .u8 z)]:=rep_u8 (zPj z)
def qAs{σ β:Type}(f:σ→Option (σ⊕β)):Nat→σ→Option β
 |0,_=>none
 |k+1,s=>(f s).bind fun
  | .inl s'=>qAs f k s'
  | .inr b=>some b
theorem qBf{σ β:Type}{f:σ→Option (σ⊕β)}{k:Nat}{s:σ}{b:β}(h:qAs f (k+1) s=some b):∃c,f s=some c∧(∀s',c= .inl s'→qAs f k s'=some b)∧(∀b',c= .inr b'→b'=b):=by
 simp only[qAs] at h
 obtain⟨c,h1,h2⟩:=jV.1 h
 refine⟨c,h1,?_,?_⟩
 ·rintro s' rfl;exact h2
 ·rintro b' rfl;simpa using h2
section
variable {ρ:Option Nat} {P:Program} {n:Fr} {ops:Array Oper} {Q:Exit→Act→World→Prop} {i d:Nat} {L:Env} {w:World} {m:Mem} {own:List Piece} {N:Env→World→Prop}
theorem zMi{t:Nat}{b:Bool}(e:Bool)(h1:look L t=some (.bool e))(h2:e=b)(h:WO P n ops Q i ((t,.bool b)::L) w):WO P n ops Q i L w:=by
 intro a ha
 refine h a (ha.sub ?_)
 intro u v hv
 simp only[look] at hv
 cases hb:Nat.beq t u with
 |true=>
  simp only[hb,cond_true] at hv
  have:=fG hb;subst this
  rw[h1,h2];exact hv
 |false=>simp only[hb,cond_false] at hv;exact hv
theorem qDo{j:Nat}(I:Env→World→Prop)(hend:∀L' w',I L' w'→WO P n ops Q j L' w')(hreg:(∀L' w',I L' w'→WO P n ops Q j L' w')→WO P n ops Q i L w):WO P n ops Q i L w:=hreg hend
theorem qCf{c:Code}(e:Exit)(I:Env→World→Prop)(hend:∀L' w',I L' w'→X n Q e L' w')(hbody:(∀L' w',I L' w'→X n Q e L' w')→W ρ P n c Q L w):W ρ P n c Q L w:=hbody hend
theorem zTp{t t2:TypeId}{x y:Operand}{k:IntKind}{a b r:Int}(ho:opAt ops L i=some (some d,.binOp .rem t x y t2))(hd:Nat.blt d n=true)(hx:evL L x=some (.int k a))(hy:evL L y=some (.int k b))
  (hs:remS a b=some r) (h:N ((d,.int k r)::L) w):One P n ops Q i N L w:=by
 unfold remS at hs
 split at hs
 ·cases hs
 ·rename_i hb
  simp only[jK] at hs;subst hs
  refine qHb ho hd (fun q hq=> ?_) h
  simp[execOp,hq,qCc hx,qCc hy,eqGuard,binOp,Op.intDiv,hb]
def subB(s:ByteArray)(lo hi:Int):Option ByteArray:=if 0≤lo∧lo≤hi∧hi≤s.size then some (s.extract lo.toNat hi.toNat) else none
def idxB(s:ByteArray)(i:Int):Option UInt8:=if 0≤i then s[i.toNat]? else none
def catB(s t:ByteArray):Option ByteArray:=if s.size+t.size≤maxLen then some (s++t) else none
def qFv(l:List UInt8):ByteArray:=⟨l.toArray⟩
theorem zEm{t:TypeId}{x y:Operand}{s:ByteArray}{k:IntKind}{ix:Int}{z:UInt8}(ho:opAt ops L i=some (some d,.index t x y))(hd:Nat.blt d n=true)(hx:evL L x=some (.string s))(hy:evL L y=some (.int k ix))
  (hu:P.underlying t=some .string) (hs:idxB s ix=some z) (h:N ((d,.int .u8 (z.toNat:Int))::L) w):One P n ops Q i N L w:=by
 unfold idxB at hs
 split at hs
 ·rename_i h0
  refine qHb ho hd (fun q hq=> ?_) h
  simp[execOp,hq,qCc hx,qCc hy,Instr.index,asIntOf,run_underlying hu,h0,hs]
 ·cases hs
theorem qJs{t:TypeId}{x:Operand}{lo hi:Option Operand}{s r:ByteArray}{li hix:Int}(ho:opAt ops L i=some (some d,.slice t x lo hi none))(hd:Nat.blt d n=true)(hx:evL L x=some (.string s))
  (hu:P.underlying t=some .string) (hlo:(lo=none∧li=0)∨∃y k,lo=some y∧evL L y=some (.int k li)) (hhi:(hi=none∧hix=s.size)∨∃y k,hi=some y∧evL L y=some (.int k hix)) (hs:subB s li hix=some r)
  (h:N ((d,.string r)::L) w):One P n ops Q i N L w:=by
 unfold subB at hs
 split at hs
 ·rename_i hb
  obtain⟨b1,b2,b3⟩:=hb
  simp only[jK] at hs;subst hs
  refine qHb ho hd (fun q hq=> ?_) h
  have hpos:0≤hix:=by omega
  have hll:li≤max hix 0:=by omega
  rcases hlo with ⟨rfl,rfl⟩|⟨y,k,rfl,hy⟩<;>rcases hhi with ⟨rfl,rfl⟩|⟨y',k',rfl,hy'⟩
  ·simp[execOp,hq,Instr.sliceAt,Instr.slice,Instr.sliceBounds,run_underlying hu,qCc hx]
  ·simp[execOp,hq,Instr.sliceAt,Instr.slice,Instr.sliceBounds,Instr.sliceBound,asIntOf,run_underlying hu,qCc hx,qCc hy',hpos,b3]
  ·have:li≤(s.size:Int):=b2
   simp[execOp,hq,Instr.sliceAt,Instr.slice,Instr.sliceBounds,Instr.sliceBound,asIntOf,run_underlying hu,qCc hx,qCc hy,b1,this]
  ·simp[execOp,hq,Instr.sliceAt,Instr.slice,Instr.sliceBounds,Instr.sliceBound,asIntOf,run_underlying hu,qCc hx,qCc hy,qCc hy',hpos,b3,b1,hll]
 ·cases hs
theorem zTo{t t2:TypeId}{x y:Operand}{a b r:ByteArray}(ho:opAt ops L i=some (some d,.binOp .add t x y t2))(hd:Nat.blt d n=true)(hx:evL L x=some (.string a))(hy:evL L y=some (.string b))
  (hs:catB a b=some r) (h:N ((d,.string r)::L) w):One P n ops Q i N L w:=by
 unfold catB at hs
 split at hs
 ·rename_i hb
  simp only[jK] at hs;subst hs
  refine qHb ho hd (fun q hq=> ?_) h
  have hmax:IntKind.i64.max=9223372036854775807:=by decide
  have hb':¬(9223372036854775807<(a.size:Int)+(b.size:Int)):=by simp only[maxLen] at hb;omega
  simp[execOp,hq,qCc hx,qCc hy,eqGuard,binOp,Op.stringOp,hmax,hb']
 ·cases hs
def ResAt(P:Program)(w:World)(L:Env)(rv:ResultVar)(v:Value):Prop:=
 match rv with
 | .tmp t=>look L t=some v
 | .cell a t=>∃b o cs,look L a=some (.pointer (some ⟨b,o,none⟩))∧(∀j u,cs[j]? =some u→w.cell? ⟨b,o+j,none⟩=some u)∧qUt P t cs=some v
def ResAll(P:Program)(w:World)(L:Env):List ResultVar→List Value→Prop
 |[],vs=>vs=[]
 |rv::l,vs=>∃v vs',vs=v::vs'∧ResAt P w L rv v∧ResAll P w L l vs'
def zAu:List Value→Value
 |[v]=>v
 |vs=> .tuple vs.toArray
theorem ResAt.row{t:TypeId}{a:Nat}{b o:Nat}{cs:List Value}{v:Value}(h1:look L a=some (.pointer (some ⟨b,o,none⟩)))(hst:St m own w)(hr:MRow m b o cs)(hv:qUt P t cs=some v):ResAt P w L (.cell a t) v:=
 ⟨b,o,cs,h1,fun j u hu=>hst.inv.cell (hr j u hu),hv⟩
theorem ResAt.blk{t e:TypeId}{a:Nat}{b o:Nat}{c:Array Value}{f:Nat×Nat}{v:Value}(h1:look L a=some (.pointer (some ⟨b,o,none⟩)))(hp:Piece.holds m w (.blk b (.cells c e f)))(hv:qUt P t (c.toList.drop o)=some v):ResAt P w L (.cell a t) v:=
 ⟨b,o,c.toList.drop o,h1,fun j u hu=>by
  rw[List.getElem?_drop] at hu
  simp only[World.cell?,hp.1]
  simpa using hu,hv⟩
def zFe(tmps:Array Value):ResultVar→Sem Value
 | .tmp t=>pure (tmps.getD t undef)
 | .cell a t=>do loadVar t (←asAddr (tmps.getD a undef))
theorem zLt(fn:Func)(tmps:Array Value):results fn tmps=(do let vs ←fn.results.mapM (zFe tmps);pure (if h:vs.size=1 then vs[0] else .tuple vs)):=by
 unfold results
 congr 2
theorem qKx{k:Nat}{fn:Func}{R:Ending→World→Prop}(rvs:List ResultVar)(vs:List Value)(hf:fn.results=rvs.toArray)(hr:ResAll P w L rvs vs)(h:R (.returned (zAu vs)) w):X ⟨k,[]⟩ (bodyPost P fn R) .ret L w:=by
 intro a ha
 refine⟨ha.2.1,zAu vs,?_,h⟩
 have key:∀(l:List ResultVar) (us:List Value),ResAll P w L l us→Sem.run P (l.mapM (zFe a.tmps)) w= .ok us w:=by
  intro l
  induction l with
  |nil=>intro us h;simp[ResAll] at h;subst h;simp
  |cons r l ih=>
   rintro us ⟨v,vs',rfl,h1,h2⟩
   have hh:Sem.run P (zFe a.tmps r) w= .ok v w:=by
    cases r with
    |tmp t=>
     have hl:a.tmps[t]? =some v:=ha.2.2 t v h1
     simp[zFe,hl]
    |cell x t=>
     obtain⟨b,o,cs,h3,h4,h5⟩:=h1
     have hl:a.tmps[x]? =some (.pointer (some ⟨b,o,none⟩)):=ha.2.2 x _ h3
     have:=qPq (P:=P) h4 h5
     simp[zFe,hl,asAddr,this]
   rw[List.mapM_cons]
   simp only[Sem.run_bind,hh,Result.andThen_ok,ih vs' h2,Sem.run_pure]
 have hk:=key rvs vs hr
 rw[zLt,hf]
 simp only[Sem.run_bind,List.mapM_toArray,Sem.run_map,hk,Result.andThen_ok,Sem.run_pure]
 rcases vs with _|⟨v,_|⟨u,r⟩⟩
 ·rfl
 ·rfl
 ·simp[zAu]
end
end Go.Dc
namespace Go.Dc
theorem not_true{e:Bool}(h:e=false):¬e=true:=by rw[h];exact gN
theorem ResAt.tmp{P:Program}{w:World}{L:Env}{t:Nat}{v:Value}(h:look L t=some v):ResAt P w L (.tmp t) v:=h
theorem ResAll.nil{P:Program}{w:World}{L:Env}:ResAll P w L [] []:=rfl
theorem ResAll.cons{P:Program}{w:World}{L:Env}{rv:ResultVar}{l:List ResultVar}{v:Value}{vs:List Value}(h1:ResAt P w L rv v)(h2:ResAll P w L l vs):ResAll P w L (rv::l) (v::vs):=⟨v,vs,rfl,h1,h2⟩
theorem qAz{α β:Type}{x:Option α}{f:α→Option β}{b:β}(h:x.bind f=some b):∃a,x=some a∧f a=some b:=jV.1 h
theorem zOu{α1 α2 γ β:Type}{a1:Option α1}{a2:α1→Option α2}{c:Option γ}{k:α1→α2→γ→Option β}{r:β}(h:((a1).bind fun x1=>(a2 x1).bind fun x2=>c.bind fun y=>k x1 x2 y)=some r):(c.bind fun y=>(a1).bind fun x1=>(a2 x1).bind fun x2=>k x1 x2 y)=some r:=by
 cases c with
 |none=>simp at h
 |some y=>exact h
theorem swapB3{α1 α2 α3 γ β:Type}{a1:Option α1}{a2:α1→Option α2}{a3:α1→α2→Option α3}{c:Option γ}{k:α1→α2→α3→γ→Option β}{r:β}(h:((a1).bind fun x1=>(a2 x1).bind fun x2=>(a3 x1 x2).bind fun x3=>c.bind fun y=>k x1 x2 x3 y)=some r):(c.bind fun y=>(a1).bind fun x1=>(a2 x1).bind fun x2=>(a3 x1 x2).bind fun x3=>k x1 x2 x3 y)=some r:=by
 cases c with
 |none=>simp at h
 |some y=>exact h
end Go.Dc
namespace Go.Dc
theorem qEr(e:Bool):e=true∨e=false:=by cases e<;>simp
end Go.Dc
namespace Go.Dc
theorem qBg{σ β:Type}{f:σ→Option (σ⊕β)}{s:σ}{b:β}{p:Prop}(h:qAs f 0 s=some b):p:=by simp[qAs] at h
section
variable {P:Program} {n:Fr} {ops:Array Oper} {Q:Exit→Act→World→Prop} {i d:Nat} {L:Env} {w:World} {N:Env→World→Prop}
theorem qZh(dp:Nat){t e:TypeId}{a:Option Addr}{k c:Nat}(w:World)(ht:P.underlying t=some (.slice e)):(Op.equalIn (dp+1) t (.slice a k c) (.slice none 0 0)).run P w= .ok a.isNone w:=by
 cases a<;>simp[Op.equalIn,run_underlying ht]
theorem zDh{t e:TypeId}{a:Option Addr}{k c:Nat}(w:World)(ht:P.underlying t=some (.slice e)):(Op.equal t (.slice a k c) (.slice none 0 0)).run P w= .ok a.isNone w:=qZh 9999 w ht
theorem zFc{t t2 e:TypeId}{x y:Operand}{a:Option Addr}{k c:Nat}(b:Bool)(ho:opAt ops L i=some (some d,.binOp .eql t x y t2))(hd:Nat.blt d n=true)(hx:evL L x=some (.slice a k c))(hy:evL L y=some (.slice none 0 0))
  (ht:P.underlying t=some (.slice e)) (hb:a.isNone=b) (h:N ((d,.bool b)::L) w):One P n ops Q i N L w:=by
 subst hb
 refine qHb ho hd (fun q hq=> ?_) h
 simp[execOp,hq,qCc hx,qCc hy,eqGuard,binOp,zDh w ht]
end
end Go.Dc
end
section
namespace Go.Dc
section
variable {ρ:Option Nat} {P:Program} {n:Fr} {ops:Array Oper} {Q:Exit→Act→World→Prop} {L:Env} {w:World} {m:Mem} {own:List Piece}
def TS:List (Nat×(World→Prop))→Array Bool→World→Prop
 |[],_,_=>True
 |p::ks,l,w=>(l.getD p.1 false=true∨p.2 w)∧TS ks l w
theorem zOn{ks:List (Nat×(World→Prop))}{l:Array Bool}{w:World}:TS ks l w↔∀p∈ks,l.getD p.1 false=true∨p.2 w:=by
 induction ks with
 |nil=>simp[TS]
 |cons p ks ih=>simp[TS,ih]
def zPu(ks:List (Nat×(World→Prop)))(i:Nat):Bool:=ks.all fun p=> !Nat.beq p.1 i
theorem zHc{ks:List (Nat×(World→Prop))}{i:Nat}(h:zPu ks i=true):∀p∈ks,p.1≠i:=by
 intro p hp e
 have:=jT.1 h p hp
 subst e
 simp at this
def zEw(P:Program)(ops:Array Oper)(Q:Exit→Act→World→Prop)(ks:List (Nat×(World→Prop))):Nat→Array Bool→Act→World→Prop
 |0,listed,a,w=>Region.ready .any ops listed=[]∧Q .normal a w
 |fuel+1,listed,a,w=>
  (Region.ready .any ops listed=[]→Q .normal a w)∧
  ∀i∈Region.ready .any ops listed,opW P ops Q i (fun a' w'=>TS ks (listed.setIfInBounds i true) w'∧zEw P ops Q ks fuel (listed.setIfInBounds i true) a' w') a w
theorem zBv{ρ:Option Nat}(hd:qWy ρ ops=true){ks:List (Nat×(World→Prop))}:∀(fuel:Nat) (listed:Array Bool) (a:Act) (w:World),zEw P ops Q ks fuel listed a w→wpAnyIn (fen ρ) 0 P .any ops Q fuel listed a w
 |0,_,_,_,h=>h
 |fuel+1,_,_,_,h=>⟨h.1,fun i hi=>zSv hd (fun a' w' h'=>zBv hd fuel _ a' w' h'.2) (h.2 i hi)⟩
theorem qXm{S:World→Prop}{i:Nat}{o:Oper}{v:Value}{a:Act}(hy:YieldsIf P ops S o v a)(hi:ops[i]? =some o)
  {K:Act→World→Prop} {w:World} (hS:S w) (h:K (a.put o.dst v) w):opW P ops Q i K a w:=by
 unfold opW
 simp only[hi]
 rcases hy with ⟨hw,hv⟩|⟨hw,rfl⟩
 ·simp only[hw,jI,hv w hS,Oper.uponIn];exact h
 ·simp only[hw,jC,jH];exact h
theorem zMd{S:World→Prop}{j:Nat}{oi oj:Oper}{v:Value}(hj:ops[j]? =some oj)(hap:oi.apart ops oj=true)
  (hsi:∀cs b,oi.op≠ .select cs b) (hsj:∀cs b,oj.op≠ .select cs b)
  (hQ:∀c a w,Q (.panic c) (a.put oi.dst v) w→Q (.panic c) a w) {K:Act→World→Prop} {a:Act} {w:World}
  (hy:YieldsIf P ops S oi v a) (h:opW P ops Q j K (a.put oi.dst v) w):
  opW P ops Q j (fun a' w'=>YieldsIf P ops S oi v a'∧K (a'.put oi.dst v) w') a w:=by
 obtain⟨h1,h2,h3⟩:=Oper.apart_spec hap
 have keep:∀(a:Act),YieldsIf P ops S oi v a→∀u,YieldsIf P ops S oi v (a.put oj.dst u):=fun a hy u=>
  hy.of_same (execOp_put oi hsi a oj.dst u h3) (wanted_put oi a oj.dst u h3)
 have keepD:∀d,YieldsIf P ops S oi v {a with defers:=d::a.defers}:=fun d=>hy.of_same rfl rfl
 unfold opW at*
 simp only[hj] at*
 rw[wanted_put oj a oi.dst v h1] at h
 split
 ·rename_i hw
  simp only[hw,jI] at h
  rw[execOp_put oj hsj a oi.dst v h1] at h
  generalize (execOp a.eval oj).run P w=r at*
  cases r with
  |ok x w'=>
   cases x<;>simp only[Oper.uponIn] at h ⊢
   case value u=>exact⟨keep a hy u,by rw[←Act.put_comm a v u h2];exact h⟩
   case skip=>exact⟨keep a hy _,by rw[←Act.put_comm a v undef h2];exact h⟩
   case defer d=>
    refine⟨keep _ (keepD d) _,?_⟩
    rw[←Act.put_comm _ v undef h2,←Act.put_defers]
    exact h
   case enter f args=>
    refine⟨h.1,CallsIn.mono h.2 fun e w'' he=> ?_⟩
    cases e with
    |returned u=>exact⟨keep a hy u,by rw[←Act.put_comm a v u h2];exact he⟩
    |panicked c=>exact hQ _ _ _ he
    |outgrown=>exact he
   case row row args=>exact⟨h.1,RowsIn.mono h.2 fun u w'' he=>⟨keep a hy u,by rw[←Act.put_comm a v u h2];exact he⟩⟩
   case round l f tmps assign body=>
    refine⟨h.1,RoundIn.mono h.2 fun e w'' he=> ?_⟩
    cases e with
    |returned u=>exact⟨keep a hy u,by rw[←Act.put_comm a v u h2];exact he⟩
    |panicked c=>exact hQ _ _ _ he
    |outgrown=>exact he
  |halt x w'=>
   cases x<;>simp only[Oper.uponIn] at h ⊢
   case panic u=>exact hQ _ _ _ h
 ·rename_i hw
  simp only[hw] at h
  exact⟨keep a hy _,by rw[←Act.put_comm a v undef h2];exact h⟩
def qYh(ops:Array Oper)(k i:Nat):Bool:=
 match ops[k]? with
 |none=>true
 |some o=>o.after.any fun e=>Region.binds .any e&&e.on==i
theorem zDu{k i:Nat}(h:qYh ops k i=true){listed:Array Bool}(hi:listed.getD i true=false):k∉Region.ready .any ops listed:=by
 intro hk
 obtain⟨_,o,ho,hall⟩:=mem_ready.1 hk
 simp only[qYh,ho] at h
 obtain⟨e,he,hb⟩:=Array.any_eq_true'.1 h
 simp only[jN,kC] at hb
 have h1:=hall e he hb.1
 rw[hb.2] at h1
 rcases dK i listed.size with h'|h'
 ·simp[h'] at hi h1;rw[hi] at h1;cases h1
 ·simp[Array.getElem?_eq_none h'] at h1
theorem zOs{ks:List (Nat×(World→Prop))}{l:Array Bool}{w:World}{i:Nat}(h:TS ks l w):TS ks (l.setIfInBounds i true) w:=by
 rw[zOn] at*
 intro p hp
 rcases h p hp with h|h
 ·left
  by_cases hi:i=p.1
  ·subst hi
   rcases dK p.1 l.size with h'|h'
   ·simp[h']
   ·simp[Array.getElem?_eq_none h'] at h
  ·rw[getD_set_ne false hi];exact h
 ·exact .inr h
theorem zQq{ks:List (Nat×(World→Prop))}{l:Array Bool}{w:World}{i j:Nat}(hk:∀p∈ks,p.1≠i)(h:TS ks ((l.setIfInBounds i true).setIfInBounds j true) w):TS ks (l.setIfInBounds j true) w:=by
 by_cases hij:i=j
 ·subst hij;simpa using h
 rw[zOn] at*
 intro p hp
 rcases h p hp with h|h
 ·left
  by_cases hj:j=p.1
  ·subst hj
   rcases dK p.1 l.size with h'|h'
   ·simp[h']
   ·simp[Array.getElem?_eq_none h'] at h;omega
  ·rw[getD_set_ne false hj] at h ⊢
   rw[getD_set_ne false (Ne.symm (hk p hp))] at h;exact h
 ·exact .inr h
theorem zFn{k i:Nat}{S:World→Prop}{ks:List (Nat×(World→Prop))}(hmem:(k,S)∈ks)(hks:∀p∈ks,p.1≠i){oi:Oper}{v:Value}(hki:qYh ops k i=true)(hi:ops[i]? =some oi)(hsel:∀(j:Nat) (o:Oper) cs b,ops[j]? =some o→o.op≠ .select cs b)
  (hQ:∀c a w,Q (.panic c) (a.put oi.dst v) w→Q (.panic c) a w):
  ∀(fuel:Nat) (listed:Array Bool) (a:Act) (w:World),listed.getD k false=false→
   (∀j oj,ops[j]? =some oj→j≠i→listed.getD j true=false→(∀e∈oj.after,Region.binds .any e=true→e.on≠i)→oi.apart ops oj=true)→
   i∈Region.ready .any ops listed→YieldsIf P ops S oi v a→TS ks listed w→
   zEw P ops Q ks fuel (listed.setIfInBounds i true) (a.put oi.dst v) w→zEw P ops Q ks (fuel+1) listed a w:=by
 have hne:k≠i:=hks _ hmem
 have getS:∀{l:Array Bool} {w:World},l.getD k false=false→TS ks l w→S w:=fun h0 h=>by
  rcases zOn.1 h _ hmem with h|h
  ·simp only at h;rw[h0] at h;cases h
  ·exact h
 intro fuel
 induction fuel with
 |zero=>
  intro listed a w hk0 _ hr hy hT H
  refine⟨fun h=>(by rw[h] at hr;cases hr),fun j hj=> ?_⟩
  by_cases hji:j=i
  ·subst hji;exact qXm hy hi (getS hk0 hT) ⟨zOs hT,H⟩
  ·have:=ready_mono hj hji
   rw[H.1] at this
   cases this
 |succ fuel ih=>
  intro listed a w hk0 hfree hr hy hT H
  refine⟨fun h=>(by rw[h] at hr;cases hr),fun j hj=> ?_⟩
  by_cases hji:j=i
  ·subst hji;exact qXm hy hi (getS hk0 hT) ⟨zOs hT,H⟩
  ·have hjk:j≠k:=by
    rintro rfl
    exact zDu hki (mem_ready.1 hr).1 hj
   have h1:=H.2 j (ready_mono hj hji)
   obtain⟨hjun,oj,hoj,hall⟩:=mem_ready.1 hj
   have hnot:∀e∈oj.after,Region.binds .any e=true→e.on≠i:=fun e he hb heq=>by
    have h1:=hall e he hb
    have h0:=(mem_ready.1 hr).1
    rw[heq] at h1
    rcases dK i listed.size with h'|h'
    ·simp[h'] at h0 h1;rw[h0] at h1;cases h1
    ·simp[Array.getElem?_eq_none h'] at h1
   have h2:=zMd hoj (hfree j oj hoj hji hjun hnot) (fun cs b=>hsel i oi cs b hi) (fun cs b=>hsel j oj cs b hoj) hQ hy h1
   have hfree':∀q ok,ops[q]? =some ok→q≠i→(listed.setIfInBounds j true).getD q true=false→
     (∀e∈ok.after,Region.binds .any e=true→e.on≠i)→oi.apart ops ok=true:=fun q ok hk hki hun hno=>by
    refine hfree q ok hk hki ?_ hno
    by_cases hjk:j=q
    ·subst hjk;exact hjun
    ·rw[getD_set_ne true hjk] at hun;exact hun
   have hk0':(listed.setIfInBounds j true).getD k false=false:=by rw[getD_set_ne false hjk];exact hk0
   refine qYe (fun a' w' h3=> ?_) h2
   have hT':TS ks (listed.setIfInBounds j true) w':=zQq hks h3.2.1
   refine⟨hT',ih (listed.setIfInBounds j true) a' w' hk0' hfree' (ready_mono hr (Ne.symm hji)) h3.1 hT' ?_⟩
   rw[Array.setIfInBounds_comm _ _ hji]
   exact h3.2.2
def QP(Q:Exit→Act→World→Prop):Prop:=∀c a w d v,Q (.panic c) (Act.put a d v) w→Q (.panic c) a w
theorem qAo{K:Act→World→Prop}(h:QP Q):QP (Exit.then K Q):=h
theorem qBb{id:Nat}(h:QP Q):QP (Exit.inBlock id Q):=h
theorem qDj{fn:Func}{R:Ending→World→Prop}:QP (bodyPost P fn R):=by
 rintro c a w d v ⟨h1,h2⟩
 refine⟨?_,h2⟩
 cases d<;>exact h1
def marks(l:List Nat)(n:Nat):Array Bool:=l.foldl (fun a i=>a.setIfInBounds i true) (Array.replicate n false)
def WA(P:Program)(n:Fr)(ops:Array Oper)(Q:Exit→Act→World→Prop)(ks:List (Nat×(World→Prop)))(fuel:Nat)(done:List Nat)(L:Env)(w:World):Prop:=
 TS ks (marks done ops.size) w→∀a,Fits n a L→zEw P ops Q ks fuel (marks done ops.size) a w
theorem qPm(l:List Nat)(i n:Nat):marks (l++[i]) n=(marks l n).setIfInBounds i true:=by simp[marks,fT]
theorem zTt{id:Nat}(hd:qWy ρ ops=true)(ks:List (Nat×(World→Prop)))(hm:P.follows .mixedOrders=true)(st:St m own w)(h:∀w',w'.heap=w.heap→St m own w'→TS ks (marks [] ops.size) w'∧WA P n ops Q ks ops.size [] L w'):W ρ P n (.region id ops true) Q L w:=by
 intro a ha
 have hh:=h {w with drawn:=w.drawn+1} rfl (st.grow ⟨⟨rfl,rfl⟩,rfl,dle⟩ fun _ _=>rfl)
 exact wpIn_region_any hm (zBv hd (ks:=ks) _ _ _ _ (hh.2 hh.1 a ha))
theorem qFr{id:Nat}(ks:List (Nat×(World→Prop)))(hm:P.follows .mixedOrders=true)(st:St m own w)(h:∀w',w'.heap=w.heap→St m own w'→TS ks (marks [] ops.size) w'∧WA P n ops Q ks ops.size [] L w'):W none P n (.region id ops true) Q L w:=zTt rfl ks hm st h
def qNg(ops:Array Oper)(ks:List (Nat×(World→Prop)))(k i:Nat)(done:List Nat):Bool:=
 Region.noSelect ops&&Region.free .any ops (marks done ops.size) i&&(Region.ready .any ops (marks done ops.size)).contains i&&qYh ops k i&&zPu ks i&& !((marks done ops.size).getD k false)
section
variable {ks:List (Nat×(World→Prop))}
theorem zCz{k fuel:Nat}{S:World→Prop}{done:List Nat}{i:Nat}{o:Oper}{v:Value}{L':Env}(h1:ops[i]? =some o)(hs:qNg ops ks k i done=true)(hmem:(k,S)∈ks)(hq:QP Q)
  (hy:∀a,Fits n a L→YieldsIf P ops S o v a) (hL:∀a,Fits n a L→Fits n (a.put o.dst v) L') (h:WA P n ops Q ks fuel (done++[i]) L' w):WA P n ops Q ks (fuel+1) done L w:=by
 simp only[qNg,jN,fV] at hs
 obtain⟨⟨⟨⟨⟨s1,s2⟩,s3⟩,s4⟩,s5⟩,s6⟩:=hs
 intro hT a ha
 have hT':TS ks (marks (done++[i]) ops.size) w:=by rw[qPm];exact zOs hT
 have:=h hT' (a.put o.dst v) (hL a ha)
 rw[qPm] at this
 exact zFn hmem (zHc s5) s4 h1 (Region.noSelect_spec s1) (fun c a w=>hq c a w _ _) fuel _ a w s6 (Region.free_spec h1 s2) (by simpa using s3) (hy a ha) hT this
theorem qSe{k fuel:Nat}{S:World→Prop}{done:List Nat}(i d:Nat)(op:Op)(v:Value)(ho:opAt ops L i=some (some d,op))(hd:Nat.blt d n=true)
  (hs:qNg ops ks k i done=true) (hmem:(k,S)∈ks)
  (hq:QP Q) (hrun:∀o:Oper,o.op=op→∀w,S w→(execOp (evD L) o).run P w= .ok (.value v) w)
  (h:WA P n ops Q ks fuel (done++[i]) ((d,v)::L) w):WA P n ops Q ks (fuel+1) done L w:=by
 obtain⟨o,h1,h2,h3,h4,h5⟩:=qTf ho
 exact zCz h1 hs hmem hq (v:=v) (fun a ha=> .inl ⟨ha.wanted h4,fun w' hw'=>by rw[ha.exec h5];exact hrun o h3 w' hw'⟩) (fun a ha=>by rw[h2];exact ha.put hd v) h
theorem WA_not{k fuel:Nat}{S:World→Prop}{done:List Nat}(i d:Nat)(ho:((ops[i]?).bind fun o=>(qMq ops L o.guard).map fun b=>(o.dst,b))=some (some d,false))(hd:Nat.blt d n=true)
  (hs:qNg ops ks k i done=true) (hmem:(k,S)∈ks)
  (hq:QP Q) (h:WA P n ops Q ks fuel (done++[i]) ((d,undef)::L) w):WA P n ops Q ks (fuel+1) done L w:=by
 obtain⟨o,h1,h2⟩:=jV.1 ho
 obtain⟨b,h3,h4⟩:=gP.1 h2
 simp only[Prod.mk.injEq] at h4
 obtain⟨h4,rfl⟩:=h4
 exact zCz h1 hs hmem hq (v:=undef) (fun a ha=> .inr ⟨ha.wanted h3,rfl⟩) (fun a ha=>by rw[h4];exact ha.put hd undef) h
theorem qBv{fuel:Nat}{done:List Nat}(i:Nat)(hr:Region.ready .any ops (marks done ops.size)=[i])
  (h:One P n ops Q i (fun L' w'=>TS ks (marks (done++[i]) ops.size) w'∧WA P n ops Q ks fuel (done++[i]) L' w') L w):WA P n ops Q ks (fuel+1) done L w:=by
 intro _ a ha
 refine⟨fun h0=>(by rw[hr] at h0;cases h0),fun j hj=> ?_⟩
 rw[hr] at hj
 simp only[kY] at hj
 subst hj
 refine qYe (fun a' w' h'=> ?_) (h a ha)
 obtain⟨L',h1,h2,h3⟩:=h'
 have:=h3 h2 a' h1
 rw[qPm] at h2
 rw[qPm] at this
 exact⟨h2,this⟩
theorem qCu{fuel:Nat}{done:List Nat}(hr:Region.ready .any ops (marks done ops.size)=[])(h:X n Q .normal L w):WA P n ops Q ks fuel done L w:=by
 intro _ a ha
 cases fuel with
 |zero=>exact⟨hr,h a ha⟩
 |succ f=>exact⟨fun _=>h a ha,(by rw[hr];simp)⟩
theorem qLd{fuel:Nat}{done:List Nat}{t:Nat}{b:Bool}(e:Bool)(h1:look L t=some (.bool e))(h2:e=b)(h:WA P n ops Q ks fuel done ((t,.bool b)::L) w):WA P n ops Q ks fuel done L w:=by
 intro hT a ha
 refine h hT a (ha.sub ?_)
 intro u v hv
 simp only[look] at hv
 cases hb:Nat.beq t u with
 |true=>
  simp only[hb,cond_true] at hv
  have:=fG hb;subst this
  rw[h1,h2];exact hv
 |false=>simp only[hb,cond_false] at hv;exact hv
end
theorem Inv.anti{m':Mem}(h:Inv m' w)(hle:m.le m'):Inv m w:=⟨fun b o v hv=>h.1 b o v (hle.1 _ _ _ hv),fun b x hx=>h.2.1 b x (hle.2.1 _ _ hx),hle.2.2▸h.2.2⟩
theorem Piece.holds_anti{m':Mem}{b:Nat}{o:Obj}(h:Piece.holds m' w (.blk b o))(hle:m.le m'):Piece.holds m w (.blk b o):=by
 refine⟨h.1,fun q=> ?_,?_⟩
 ·cases hc:m.cell b q with
  |none=>rfl
  |some v=>rw[←h.2.1 q,hle.1 _ _ _ hc]
 ·cases hc:m.obj b with
  |none=>rfl
  |some v=>rw[←h.2.2,hle.2.1 _ _ hc]
def zQc(P:Program)(ops:Array Oper)(L:Env)(i:Nat):Option (Nat×Value):=
 match ops[i]? with
 |none=>none
 |some o=>match qMq ops L o.guard with
  |some true=>bif opOK L o.op then(match o.dst,ev0 P (execOp (evD L) o) with
   |some d,some (.value v)=>some (d,v)
   |_,_=>none) else none
  |_=>none
theorem zUp{ks:List (Nat×(World→Prop))}{k fuel:Nat}{S:World→Prop}{done:List Nat}(i d:Nat)(v:Value)(ho:zQc P ops L i=some (d,v))(hd:Nat.blt d n=true)(hs:qNg ops ks k i done=true)(hmem:(k,S)∈ks)(hq:QP Q)
  (h:WA P n ops Q ks fuel (done++[i]) ((d,v)::L) w):WA P n ops Q ks (fuel+1) done L w:=by
 unfold zQc at ho
 cases h1:ops[i]? with
 |none=>simp[h1] at ho
 |some o=>
  simp only[h1] at ho
  cases hw:qMq ops L o.guard with
  |none=>simp[hw] at ho
  |some b=>
   cases b with
   |false=>simp[hw] at ho
   |true=>
    simp only[hw] at ho
    cases hk:opOK L o.op with
    |false=>simp[hk] at ho
    |true=>
     simp only[hk,cond_true] at ho
     split at ho
     ·rename_i d' v' hd' he
      simp only[jK,Prod.mk.injEq] at ho
      obtain⟨rfl,rfl⟩:=ho
      exact zCz h1 hs hmem hq (v:=v') (fun a ha=> .inl ⟨ha.wanted hw,fun w' _=>by rw[ha.exec hk];exact zIv he w'⟩) (fun a ha=>by rw[hd'];exact ha.put hd v') h
     ·cases ho
theorem zHk{ks:List (Nat×(World→Prop))}{k fuel:Nat}{S:World→Prop}{done:List Nat}{t:TypeId}{x:Operand}{b o:Nat}{cs:List Value}(i d:Nat)(v:Value)(ho:opAt ops L i=some (some d,.load t x))(hd:Nat.blt d n=true)
  (hs:qNg ops ks k i done=true) (hmem:(k,S)∈ks) (hq:QP Q) (hI:∀w,S w→Inv m w) (hx:evL L x=some (.pointer (some ⟨b,o,none⟩))) (hr:MRow m b o cs) (hv:qUt P t cs=some v)
  (h:WA P n ops Q ks fuel (done++[i]) ((d,v)::L) w):WA P n ops Q ks (fuel+1) done L w:=by
 refine qSe i d _ v ho hd hs hmem hq (fun q hq w' hw'=> ?_) h
 have hl:=qPq (P:=P) (w:=w') (t:=t) (b:=b) (o:=o) (cs:=cs) (v:=v) (fun j u hu=>(hI w' hw').cell (hr j u hu)) hv
 simp[execOp,hq,Instr.loadAt,qCc hx,Instr.sureAddr,hl]
theorem zHo{ks:List (Nat×(World→Prop))}{k fuel:Nat}{S:World→Prop}{done:List Nat}{t e:TypeId}{x:Operand}{b o:Nat}{c:Array Value}{f:Nat×Nat}(i d:Nat)(v:Value)(ho:opAt ops L i=some (some d,.load t x))(hd:Nat.blt d n=true)
  (hs:qNg ops ks k i done=true) (hmem:(k,S)∈ks) (hq:QP Q) (hI:∀w,S w→Piece.holds m w (.blk b (.cells c e f))) (hx:evL L x=some (.pointer (some ⟨b,o,none⟩))) (hv:qUt P t (c.toList.drop o)=some v)
  (h:WA P n ops Q ks fuel (done++[i]) ((d,v)::L) w):WA P n ops Q ks (fuel+1) done L w:=by
 refine qSe i d _ v ho hd hs hmem hq (fun q hq w' hw'=> ?_) h
 have hb:=(hI w' hw').1
 have hl:=qPq (P:=P) (w:=w') (t:=t) (b:=b) (o:=o) (cs:=c.toList.drop o) (v:=v) (fun j u hu=>by
  rw[List.getElem?_drop] at hu
  simp only[World.cell?,hb]
  simpa using hu) hv
 simp[execOp,hq,Instr.loadAt,qCc hx,Instr.sureAddr,hl]
theorem qHu{α:Type}{ks:List (Nat×(World→Prop))}{k fuel:Nat}{S:World→Prop}{done:List Nat}{t e:TypeId}{x y:Operand}(i d:Nat)(c:Codec α){a:Option Addr}{cap:Nat}{l:List α}{kd:IntKind}{ix:Int}{z:α}(ho:opAt ops L i=some (some d,.indexAddr t x y))(hd:Nat.blt d n=true)
  (hs:qNg ops ks k i done=true) (hmem:(k,S)∈ks) (hq:QP Q)
  (hx:evL L x=some (.slice a l.length cap)) (hy:evL L y=some (.int kd ix)) (hi:qJf P t=some (e,c.sz)) (hr:RepS c m a cap l) (hz:idx l ix=some z)
  (h:∀b o cs,c.rep m z cs→MRow m b o cs→WA P n ops Q ks fuel (done++[i]) ((d,.pointer (some ⟨b,o,none⟩))::L) w):WA P n ops Q ks (fuel+1) done L w:=by
 obtain⟨h1,inf,h2,h3⟩:=qJq hi
 unfold idx at hz
 split at hz
 ·rename_i h0
  have hlt:ix.toNat<l.length:=(List.getElem?_eq_some_iff.1 hz).1
  cases a with
  |none=>obtain⟨rfl,_⟩:=hr.none_nil;simp at hlt
  |some p=>
   obtain⟨cs,hc,hm⟩:=hr.2.2.2 _ _ hz
   refine qSe i d _ _ ho hd hs hmem hq (fun q hq w' _=> ?_) (h p.block (p.off+ix.toNat*c.sz) cs hc hm)
   have hlt':ix<(l.length:Int):=by omega
   simp[execOp,hq,Instr.indexAt,qCc hx,qCc hy,asIntOf,run_underlying h1,h0,hlt',sizeOf,typeInfo,h2,h3,qRd (hr.spot (fun e=>by rw[e] at hlt;simp at hlt))]
 ·cases hz
theorem zQt{α:Type}{ks:List (Nat×(World→Prop))}{k fuel:Nat}{S:World→Prop}{done:List Nat}{t e:TypeId}{x:Operand}{lo hi:Option Operand}(i d:Nat)(c:Codec α){a:Option Addr}{cap:Nat}{l r:List α}{li hix:Int}
  (ho:opAt ops L i=some (some d,.slice t x lo hi none)) (hd:Nat.blt d n=true) (hsT:qNg ops ks k i done=true) (hmem:(k,S)∈ks) (hq:QP Q) (hx:evL L x=some (.slice a l.length cap)) (hI:qJf P t=some (e,c.sz)) (hr:RepS c m a cap l)
  (hlo:(lo=none∧li=0)∨∃y k,lo=some y∧evL L y=some (.int k li)) (hhi:(hi=none∧hix=l.length)∨∃y k,hi=some y∧evL L y=some (.int k hix)) (hs:subS l li hix=some r)
  (h:∀a' cap',RepS c m a' cap' r→WA P n ops Q ks fuel (done++[i]) ((d,.slice a' r.length cap')::L) w):WA P n ops Q ks (fuel+1) done L w:=by
 obtain⟨v,hv,a',cap',rfl,hrep⟩:=zEq (P:=P) (L:=L) c hx hI hr hlo hhi hs
 exact qSe i d _ _ ho hd hsT hmem hq (fun q hq w' _=>hv q hq w') (h a' cap' hrep)
end
end Go.Dc
namespace Go.Dc
end Go.Dc
namespace Go.Dc
section
variable {ρ:Option Nat} {P:Program} {n:Fr} {ops:Array Oper} {Q:Exit→Act→World→Prop} {i d:Nat} {L:Env} {w:World} {m:Mem} {own:List Piece} {N:Env→World→Prop}
def qYk(P:Program)(t:TypeId):Option TypeId:=
 match P.underlying t with
 |some (.slice e)=>match P.underlying e with
  |some (.int .u8)=>some e
  |_=>none
 |_=>none
theorem qTg{t e:TypeId}(h:qYk P t=some e):P.underlying t=some (.slice e)∧P.underlying e=some (.int .u8):=by
 unfold qYk at h
 split at h
 ·rename_i e' he
  split at h
  ·rename_i he';simp only[jK] at h;subst h;exact⟨he,he'⟩
  ·cases h
 ·cases h
theorem zSb{a:Option Addr}{cap:Nat}{l:List UInt8}(h:RepS cU8 m a cap l):∀p,a=some p→(p.spot=none∨l=[])∧MRow m p.block p.off (l.map fun b=> .int .u8 (b.toNat:Int)):=by
 rintro p rfl
 refine⟨h.2.2.1,fun j v hv=> ?_⟩
 rw[List.getElem?_map] at hv
 obtain⟨x,hx,rfl⟩:=gP.1 hv
 obtain⟨cs,hc,hm⟩:=h.2.2.2 j x hx
 have hcs:cs=[.int .u8 (x.toNat:Int)]:=hc
 subst hcs
 have:=hm 0 _ rfl
 have e:cU8.sz=1:=rfl
 simp only[e,dO,gX] at this
 exact this
theorem qTi{t1 t2 e:TypeId}{x:Operand}{a:Option Addr}{cap:Nat}{l:List UInt8}(ho:opAt ops L i=some (some d,.convert t1 t2 x))(hd:Nat.blt d n=true)(hx:evL L x=some (.slice a l.length cap))
  (h1:qYk P t1=some e) (h2:P.underlying t2=some .string) (st:St m own w) (hr:RepS cU8 m a cap l) (h:N ((d,.string (qFv l))::L) w):One P n ops Q i N L w:=by
 obtain⟨g1,g2⟩:=qTg h1
 refine qHb ho hd (fun q hq=> ?_) h
 cases a with
 |none=>
  obtain⟨rfl,_⟩:=hr.none_nil
  have hb:(Conv.bytesToString (.slice none 0 cap)).run P w= .ok (.string (qFv [])) w:=rfl
  simp[execOp,hq,qCc hx,run_convert_bytes_string w t1 t2 e none _ _ g1 g2 h2,hb]
 |some p=>
  obtain⟨hs,hm⟩:=zSb hr p rfl
  have hl:=run_convert_bytes_back (P:=P) w t1 t2 e p cap l g1 g2 h2 (fun j hj=>by
   rw[qRd (hs.resolve_right (fun e=>by rw[e] at hj;simp at hj))]
   exact st.inv.cell (hm j _ (by simp[hj])))
  simp[execOp,hq,qCc hx,hl,qFv]
def bytesOf(s:ByteArray):Option (List UInt8):=if s.size≤maxLen then some s.data.toList else none
theorem zGd{t1 t2 e:TypeId}{x:Operand}{s:ByteArray}{l:List UInt8}(ho:opAt ops L i=some (some d,.convert t1 t2 x))(hd:Nat.blt d n=true)(hx:evL L x=some (.string s))
  (h1:qYk P t2=some e) (h2:P.underlying t1=some .string) (st:St m own w) (hs:bytesOf s=some l)
  (h:∀b cap m' w',m.le m'→St m' own w'→RepS cU8 m' (some ⟨b,0,none⟩) cap l→N ((d,.slice (some ⟨b,0,none⟩) l.length cap)::L) w'):One P n ops Q i N L w:=by
 obtain⟨g1,g2⟩:=qTg h1
 unfold bytesOf at hs
 split at hs
 ·rename_i hmx
  simp only[jK] at hs;subst hs
  generalize hgc:grownCap w s.size 0 e=gc
  have hge:s.size≤gc:=hgc▸grownCap_ge _ _ _ _
  have hgm:gc≤maxLen:=hgc▸grownCap_le_maxLen _ _ _ _ hmx
  generalize hcur:(s.data.map fun b=>Value.int .u8 (b.toNat:Int))++Array.replicate (gc-s.size) (.int .u8 0)=cur
  have hrun:(convert t1 t2 (.string s)).run P w= .ok (.slice (some ⟨w.heap.size,0,none⟩) s.size gc) (w.drew.alloc (.cells cur e (cur.size,cur.size+1))):=by
   have hforced:(Question.appendCap s.size 0 e).forced=false:=rfl
   have hcut:(Question.appendCap s.size 0 e).cut (w.tape w.drawn (Question.appendCap s.size 0 e))=gc:=hgc
   have hal:(w.drew.alloc (.cells cur e)).heap[w.heap.size]? =some (.cells cur e):=by
    show(w.heap.push (.cells cur e))[w.heap.size]? =_
    simp
   have hsh:(w.drew.alloc (.cells cur e)).shape? w.heap.size=some (e,cur.size):=by
    unfold World.shape?
    rw[hal]
   have hfr:∀k:Nat,(w.drew.alloc (.cells cur e)).freeze ⟨w.heap.size,k,none⟩ 1=w.drew.alloc (.cells cur e (k,k+1)):=fun k=>by
    unfold World.freeze World.alloc World.drew
    simp only[Nat.one_ne_zero,jH]
    congr 1
    apply Array.ext
    ·simp
    ·intro j h1 h2
     simp only[Array.getElem_modify]
     by_cases hj:w.heap.size=j
     ·subst hj;simp
     ·have:j<w.heap.size:=by simp at h1;omega
      simp[hj,Array.getElem_push_lt this]
   have hmk:(markStringish ⟨w.heap.size,0,none⟩).run P (w.drew.alloc (.cells cur e))= .ok () (w.drew.alloc (.cells cur e (cur.size,cur.size+1))):=by
    simp[markStringish,hsh,hfr]
   have hnr:(newRow e cur).run P w.drew= .ok ⟨w.heap.size,0,none⟩ (w.drew.alloc (.cells cur e)):=rfl
   have hst:(Conv.stringToBytes e s).run P w= .ok (.slice (some ⟨w.heap.size,0,none⟩) s.size gc) (w.drew.alloc (.cells cur e (cur.size,cur.size+1))):=by
    unfold Conv.stringToBytes
    simp only[Sem.run_bind,run_choose,hforced,jC,jH,Result.andThen_ok,hcut,hcur]
    show((newRow e cur).run P w.drew).andThen _=_
    rw[hnr]
    simp only[Result.andThen_ok,hmk,Sem.run_pure]
   simp[convert,run_underlying h2,run_underlying g1,run_underlying g2,hst]
  have hal:=st.alloc (w':=w.drew.alloc (.cells cur e (cur.size,cur.size+1))) (o:= .cells cur e (cur.size,cur.size+1)) ⟨⟨rfl,rfl⟩,rfl,dle⟩ rfl
  have hfresh:=st.fresh_free
  have htk:cur.toList.take (s.data.toList.map fun b=>Value.int .u8 (b.toNat:Int)).length=s.data.toList.map fun b=>Value.int .u8 (b.toNat:Int):=by
   rw[←hcur,Array.toList_append,Array.toList_map,List.take_left]
  obtain⟨m',k1,k2,k3,_⟩:=St.know (b:=w.heap.size) (cs:=s.data.toList.map fun b=>Value.int .u8 (b.toNat:Int)) hal.tail (hal.head_ne rfl) hal.head.1 htk (fun o v hv=>by rw[hfresh.1 o] at hv;cases hv)
  have hrep:RepS cU8 m' (some ⟨w.heap.size,0,none⟩) gc s.data.toList:=RepS.of_cells (by simpa using hge) hgm (fun j x hx=>by
   have hlt:=(List.getElem?_eq_some_iff.1 hx).1
   have he:=(List.getElem?_eq_some_iff.1 hx).2
   show List.take 1 (List.drop (j*1) _)=_
   rw[dO,←List.map_drop,←List.map_take,jR hlt,he]
   rfl) k3
  have hlen:s.data.toList.length=s.size:=by simp
  refine qHb ho hd (fun q hq=> ?_) (h w.heap.size gc m' _ k1 k2 hrep)
  simp only[execOp,hq,qCc hx,Sem.run_bind,hrun,Result.andThen_ok,Sem.run_pure,hlen]
 ·cases hs
end
end Go.Dc
namespace Go.Dc
section
variable {ρ:Option Nat} {P:Program} {n:Fr} {ops:Array Oper} {Q:Exit→Act→World→Prop} {i d:Nat} {L:Env} {w:World} {m:Mem} {own:List Piece} {N:Env→World→Prop}
theorem zGz{f:FuncId}{args:Array Value}{R:Ending→World→Prop}(I:Value→World→Prop)(hend:∀v w',I v w'→R (.returned v) w')(h:Calls P f args w fun e w'=>∃v,e= .returned v∧I v w'):Calls P f args w R:=
 h.mono fun e w' ⟨v,he,hi⟩=>he▸hend v w' hi
theorem zKq{k:Nat}{fn:Func}{R:Ending→World→Prop}(rvs:List ResultVar)(vs:List Value)(hf:fn.results=rvs.toArray)(hr:ResAll P w L rvs vs)(h:R (.returned (zAu vs)) w):X ⟨k,[]⟩ (bodyPost P fn R) .normal L w:=qKx (P:=P) (fn:=fn) (R:=R) rvs vs hf hr h
end
end Go.Dc
end
namespace Go.Dc
section
def bodyQ(P:Program)(fn:Func)(R:Ending→World→Prop):Exit→Act→World→Prop
 | .normal,a,w=>LeavesInM Fence.wide 0 P fn a.tmps R a.defers .returning w
 | .ret,a,w=>LeavesInM Fence.wide 0 P fn a.tmps R a.defers .returning w
 |_,_,_=>False
section
variable {ρ:Option Nat} {P:Program} {n:Fr} {ops:Array Oper} {Q:Exit→Act→World→Prop} {i d:Nat} {L:Env} {w:World} {m:Mem} {own:List Piece} {N:Env→World→Prop}
def FitsT(sz:Nat)(T:Array Value)(L:Env):Prop:=T.size=sz∧∀t v,look L t=some v→T[t]? =some v
def roundA(P:Program)(l:Nat)(body:Code)(R:Ending→World→Prop):Exit→Act→World→Prop:=
 Exit.then (fun a₁ w₁=>∃w₂,(Instr.beginRound l).run P w₁= .ok () w₂∧body.wpIn (fen (some l)) 0 P (roundPost P l R) a₁ w₂) (fun _ _ _=>False)
theorem FitsT.set{sz:Nat}{T:Array Value}{L:Env}(h:FitsT sz T L){p:Nat}(hp:p<sz)(v:Value):FitsT sz (T.setIfInBounds p v) ((p,v)::L):=by
 obtain⟨h1,h2⟩:=h
 refine⟨by simp[h1],fun t u hu=> ?_⟩
 simp only[look] at hu
 by_cases hpt:p=t
 ·subst hpt
  simp at hu;subst hu
  simp[Array.getElem?_setIfInBounds,h1,hp]
 ·have:Nat.beq p t=false:=by cases hb:Nat.beq p t<;>simp_all [Nat.beq_eq]
  rw[this] at hu
  simp[Array.getElem?_setIfInBounds,hpt,h2 t u hu]
end
end
end Go.Dc
section
namespace Go.Dc
def mget{κ ν:Type}[DecidableEq κ]:List (κ×ν)→κ→Option ν
 |[],_=>none
 |p::l,k=>if k=p.1 then some p.2 else mget l k
def qRz{κ ν:Type}[DecidableEq κ]:List (κ×ν)→κ→ν→List (κ×ν)
 |[],k,v=>[(k,v)]
 |p::l,k,v=>if k=p.1 then(k,v)::l else p::qRz l k v
class KOrd(κ:Type) where
 lt:κ→κ→Bool
instance:KOrd Int:=⟨fun a b=>decide (a<b)⟩
instance:KOrd ByteArray:=⟨fun a b=>decide (a.data.toList<b.data.toList)⟩
instance{α β:Type}[DecidableEq α][KOrd α][KOrd β]:KOrd (α×β):=⟨fun a b=>KOrd.lt a.1 b.1||(decide (a.1=b.1)&&KOrd.lt a.2 b.2)⟩
def mins{κ ν:Type}[KOrd κ]:List (κ×ν)→κ→ν→List (κ×ν)
 |[],k,v=>[(k,v)]
 |p::l,k,v=>if KOrd.lt k p.1=true then(k,v)::p::l else p::mins l k v
def mset{κ ν:Type}[DecidableEq κ][KOrd κ](l:List (κ×ν))(k:κ)(v:ν):List (κ×ν):=
 if(mget l k).isSome=true then l.map fun p=>if k=p.1 then(k,v) else p else mins l k v
theorem qZl{κ ν:Type}[DecidableEq κ]{l:List (κ×ν)}{k:κ}:mget l k=none↔k∉l.map (·.1):=by
 induction l with
 |nil=>simp[mget]
 |cons p l ih=>
  simp only[mget,k9,jM,not_or]
  split
  ·rename_i h;simp[h]
  ·rename_i h;rw[ih];exact⟨fun g=>⟨h,g⟩,fun g=>g.2⟩
theorem zDp{κ ν:Type}[DecidableEq κ]{l:List (κ×ν)}{k:κ}{v:ν}(hn:(l.map (·.1)).Nodup):mget l k=some v↔(k,v)∈l:=by
 induction l with
 |nil=>simp[mget]
 |cons p l ih=>
  simp only[k9,gT] at hn
  simp only[mget,jM]
  split
  ·rename_i h
   subst h
   constructor
   ·intro e;left;simp at e;rw[←e]
   ·rintro(e|e)
    ·rw[←e]
    ·exact absurd (gJ (f:=(·.1)) e) hn.1
  ·rename_i h
   rw[ih hn.2]
   constructor
   ·intro e;exact .inr e
   ·rintro(e|e)
    ·exact absurd (congrArg Prod.fst e) h
    ·exact e
theorem zAi{κ ν:Type}[DecidableEq κ]{l l':List (κ×ν)}(hp:l'.Perm l)(hn:(l'.map (·.1)).Nodup)(k:κ):mget l' k=mget l k:=by
 have hn':(l.map (·.1)).Nodup:=(hp.map _).nodup_iff.1 hn
 cases h:mget l k with
 |none=>rw[qZl] at h ⊢;exact fun g=>h ((hp.map _).mem_iff.1 g)
 |some v=>rw[zDp hn'] at h;rw[zDp hn];exact hp.mem_iff.2 h
theorem zGm{κ ν:Type}[DecidableEq κ]{l:List (κ×ν)}{k:κ}{v:ν}(h:mget l k=none):qRz l k v=l++[(k,v)]:=by
 induction l with
 |nil=>rfl
 |cons p l ih=>
  simp only[mget] at h
  split at h
  ·cases h
  ·rename_i hk;simp[qRz,hk,ih h]
theorem zFt{κ ν:Type}[DecidableEq κ]{l:List (κ×ν)}{k:κ}{v:ν}(hn:(l.map (·.1)).Nodup)(h:mget l k≠none):qRz l k v=l.map fun p=>if k=p.1 then(k,v) else p:=by
 induction l with
 |nil=>exact absurd rfl h
 |cons p l ih=>
  simp only[k9,gT] at hn
  simp only[qRz,k9]
  by_cases hk:k=p.1
  ·simp only[hk,jI]
   congr 1
   rw[←hk]
   refine(hZ fun q hq=> ?_).trans (List.map_id _)|>.symm
   have:k≠q.1:=fun e=>hn.1 (by rw[←hk,e];exact gJ (f:=(·.1)) hq)
   simp[this]
  ·simp only[hk,jH]
   rw[ih hn.2 (by simpa[mget,hk] using h)]
theorem zGe{κ ν:Type}[KOrd κ](l:List (κ×ν))(k:κ)(v:ν):(mins l k v).Perm ((k,v)::l):=by
 induction l with
 |nil=>exact .refl _
 |cons p l ih=>
  simp only[mins]
  split
  ·exact .refl _
  ·exact(List.Perm.cons p ih).trans (.swap _ _ _)
theorem qRh{κ ν:Type}[DecidableEq κ][KOrd κ]{l l':List (κ×ν)}(hp:l'.Perm l)(hn:(l'.map (·.1)).Nodup)(k:κ)(v:ν):(qRz l' k v).Perm (mset l k v):=by
 have hg:=zAi hp hn k
 unfold mset
 cases h:mget l k with
 |none=>
  rw[zGm (by rw[hg,h])]
  simp only[Option.isSome_none,jC,jH]
  exact(List.perm_append_comm.trans (List.Perm.cons _ hp)).trans (zGe l k v).symm
 |some u=>
  rw[zFt hn (by rw[hg,h];simp)]
  simp only[Option.isSome_some,jI]
  exact hp.map _
theorem qNy{κ ν:Type}[DecidableEq κ]{l:List (κ×ν)}(hn:(l.map (·.1)).Nodup)(k:κ)(v:ν):((qRz l k v).map (·.1)).Nodup:=by
 cases h:mget l k with
 |none=>
  rw[zGm h,dF,dI]
  refine⟨hn,by simp,?_⟩
  intro a ha b hb e
  simp at hb;subst hb e
  exact qZl.1 h ha
 |some u=>
  rw[zFt hn (by rw[h];simp)]
  have:(l.map fun p=>if k=p.1 then(k,v) else p).map (·.1)=l.map (·.1):=by
   rw[List.map_map]
   refine hZ fun q _=> ?_
   simp only[Function.comp]
   split
   ·rename_i e;exact e
   ·rfl
  rw[this];exact hn
def mkV(agg:Bool)(cs:List Value):Value:=bif agg then .agg cs.toArray else cs.headD undef
def MapL{κ ν:Type}(ek:κ→Value)(c:Codec ν)(agg:Bool)(m:Mem):List MapEntry→List (κ×ν)→Prop
 |[],l=>l=[]
 |e::es,l=>∃k v l',l=(k,v)::l'∧e.key=ek k∧(∃cs,c.rep m v cs∧e.val=mkV agg cs)∧MapL ek c agg m es l'
def Born(es:List MapEntry)(ck:Nat):Prop:=(∀e∈es,e.born<ck)∧(es.map (·.born)).Nodup
def MapQ{κ ν:Type}(ek:κ→Value)(c:Codec ν)(agg:Bool)(m:Mem)(q:Option Nat)(es:Array MapEntry)(ck:Nat)(o:Option (List (κ×ν))):Prop:=
 match q with
 |none=>o=none
 |some _=>∃l l',o=some l∧l'.Perm l∧(l'.map (·.1)).Nodup∧MapL ek c agg m es.toList l'∧Born es.toList ck
theorem MapL.mono{κ ν:Type}{ek:κ→Value}{c:Codec ν}{agg:Bool}{m m':Mem}(hle:m.le m'):∀{es:List MapEntry} {l:List (κ×ν)},MapL ek c agg m es l→MapL ek c agg m' es l
 |[],_,h=>h
 |_::_,_,⟨k,v,l',h1,h2,⟨cs,h3,h4⟩,h5⟩=>⟨k,v,l',h1,h2,⟨cs,c.mono _ _ _ _ hle h3,h4⟩,h5.mono hle⟩
theorem MapQ.mono{κ ν:Type}{ek:κ→Value}{c:Codec ν}{agg:Bool}{m m':Mem}{q:Option Nat}{es:Array MapEntry}{ck:Nat}{o:Option (List (κ×ν))}(h:MapQ ek c agg m q es ck o)(hle:m.le m'):MapQ ek c agg m' q es ck o:=by
 cases q with
 |none=>exact h
 |some b=>obtain⟨l,l',h1,h2,h3,h4,h5⟩:=h;exact⟨l,l',h1,h2,h3,h4.mono hle,h5⟩
def zLj{κ:Type}[DecidableEq κ](k:κ):List κ→List MapEntry→Nat→Option (Nat×Value)
 |k'::ks,e::es,i=>if k=k' then some (i,e.val) else zLj k ks es (i+1)
 |_,_,_=>none
structure KeyOK{κ:Type}[DecidableEq κ](P:Program)(kt:TypeId)(ek:κ→Value):Prop where
 find:∀(k:κ) (ks:List κ) (es:List MapEntry) (w:World),es.map (·.key)=ks.map ek→(Instr.findKey kt (ek k) es).run P w= .ok (zLj k ks es 0) w
 chk:∀(e:Bool) (a:κ) (w:World),(Instr.checkKey e 10000 kt (ek a)).run P w= .ok () w
 stay:∀(a:κ) (w:World),(Instr.keyThatStays (ek a) (ek a)).run P w= .ok (ek a) w
 inj:∀a b,ek a=ek b→a=b
theorem zTv(a b:Int):(a==b)=decide (a=b):=by rw[kE];simp
theorem zCm{κ:Type}[DecidableEq κ]{dd:TypeDesc}{ek:κ→Value}(hk:∀a b,Instr.sameNow dd (ek a) (ek b)=some (decide (a=b)))(k:κ):∀(ks:List κ) (es:List MapEntry) (j:Nat),es.map (·.key)=ks.map ek→Instr.findNow dd (ek k) es j=some (zLj k ks es j)
 |[],[],j,_=>rfl
 |[],e::es,j,h=>by simp at h
 |k'::ks,[],j,h=>by simp at h
 |k'::ks,e::es,j,h=>by
  simp only[k9,g9] at h
  simp only[Instr.findNow,h.1,hk,zLj]
  by_cases hkk:k=k'
  ·subst hkk;simp
  ·simp only[hkk,decide_false,jH]
   exact zCm hk k ks es (j+1) h.2
theorem chkInt{P:Program}{kt:TypeId}{q q':IntKind}(h:P.underlying kt=some (.int q))(e:Bool)(z:Int)(w:World):∀n,(Instr.checkKey e (n+1) kt (.int q' z)).run P w= .ok () w:=fun n=>by simp[Instr.checkKey,run_underlying h]
theorem keyNow{κ:Type}[DecidableEq κ]{P:Program}{kt:TypeId}{ek:κ→Value}{d:TypeDesc}(hd:P.underlying kt=some d)(hk:∀a b,Instr.sameNow d (ek a) (ek b)=some (decide (a=b)))
  (hc:∀(e:Bool) (a:κ) (w:World),(Instr.checkKey e 10000 kt (ek a)).run P w= .ok () w) (hb:∀n a,Instr.sameBits n (ek a) (ek a)=true):KeyOK P kt ek where
 find k ks es w h:=by simp[Instr.findKey,run_underlying hd,zCm hk k ks es 0 h]
 chk:=hc
 stay a w:=by simp[Instr.keyThatStays,hb]
 inj a b h:=by
  have e1:=hk a b
  rw[h,hk b b] at e1
  simpa using e1.symm
theorem qTv{P:Program}{kt:TypeId}{q:IntKind}(h:P.underlying kt=some (.int q)):KeyOK P kt (fun n:Int=>Value.int q n):=
 keyNow h (fun a b=>by simp[Instr.sameNow];exact zTv a b) (fun e v w=>chkInt h e v w 9999) (fun n a=>by cases n<;>simp[Instr.sameBits])
section
variable {m:Mem} {κ ν:Type} {ek:κ→Value} {c:Codec ν} {agg:Bool}
theorem MapL.snoc:∀{es:List MapEntry} {l:List (κ×ν)} {e:MapEntry} {k:κ} {y:ν} {cs:List Value},MapL ek c agg m es l→e.key=ek k→c.rep m y cs→e.val=mkV agg cs→MapL ek c agg m (es++[e]) (l++[(k,y)])
 |[],l,e,k,y,cs,h,h1,h2,h3=>by
  simp only[MapL] at h;subst h
  exact⟨k,y,[],rfl,h1,⟨cs,h2,h3⟩,rfl⟩
 |e'::es,l,e,k,y,cs,⟨k',v',l',g1,g2,g3,g4⟩,h1,h2,h3=>by
  subst g1
  exact⟨k',v',l'++[(k,y)],rfl,g2,g3,g4.snoc h1 h2 h3⟩
theorem qTm:∀{es:List MapEntry} {l:List (κ×ν)},MapL ek c agg m es l→es.map (·.key)=(l.map (·.1)).map ek
 |[],l,h=>by simp only[MapL] at h;subst h;rfl
 |e::es,l,⟨k',v',l',h0,h1,_,h4⟩=>by subst h0;simp only[k9,h1,qTm h4]
theorem MapQ.new(ek:κ→Value)(c:Codec ν)(agg:Bool)(m:Mem)(b:Nat):MapQ ek c agg m (some b) #[] 0 (some []):=⟨[],[],rfl,.refl _,by simp,rfl,by simp[Born]⟩
theorem MapQ.nil(ek:κ→Value)(c:Codec ν)(agg:Bool)(m:Mem)(es:Array MapEntry)(ck:Nat):MapQ ek c agg m none es ck (none:Option (List (κ×ν))):=rfl
end
section
variable {P:Program} {n:Fr} {ops:Array Oper} {Q:Exit→Act→World→Prop} {i d:Nat} {L:Env} {w:World} {m:Mem} {own:List Piece} {N:Env→World→Prop}
variable {κ ν:Type} [DecidableEq κ] {ek:κ→Value} {c:Codec ν} {agg:Bool}
theorem qWm(k:κ):∀(es:List MapEntry) (l:List (κ×ν)) (j:Nat),MapL ek c agg m es l→
  ∃r,zLj k (l.map (·.1)) es j=r∧match r with
   |none=>mget l k=none∧qRz l k=fun v=>l++[(k,v)]
   |some (q,v)=>∃x cs,mget l k=some x∧c.rep m x cs∧v=mkV agg cs∧j≤q∧q<j+es.length∧(∃e,es[q-j]? =some e∧e.key=ek k)∧
     ∀(y:ν) (cs':List Value) (f:MapEntry→MapEntry),c.rep m y cs'→(∀e,(f e).key=ek k∧(f e).val=mkV agg cs')→MapL ek c agg m (es.modify (q-j) f) (qRz l k y)
 |[],l,j,h=>by
  simp only[MapL] at h;subst h
  exact⟨none,rfl,rfl,by funext v;rfl⟩
 |e::es,l,j,h=>by
  obtain⟨k',v',l',rfl,h1,⟨cs,h2,h3⟩,h4⟩:=h
  simp only[k9,zLj]
  by_cases hkk:k=k'
  ·subst hkk
   simp only[jI]
   refine⟨_,rfl,v',cs,by simp[mget],h2,h3,jU _,by simp,⟨e,by simp,h1⟩,?_⟩
   intro y cs' f hy hf
   simp only[Nat.sub_self,List.modify_zero_cons,qRz,jI]
   exact⟨k,y,l',rfl,(hf e).1,⟨cs',hy,(hf e).2⟩,h4⟩
  ·simp only[hkk,jH]
   obtain⟨r,hr,hrest⟩:=qWm k es l' (j+1) h4
   refine⟨r,hr,?_⟩
   cases r with
   |none=>
    obtain⟨g1,g2⟩:=hrest
    exact⟨by simp[mget,hkk,g1],by funext v;simp[qRz,hkk,g2]⟩
   |some qv=>
    obtain⟨q,v⟩:=qv
    obtain⟨x,cs1,g1,g2,g3,g4,g5,⟨e1,g6,g7⟩,g8⟩:=hrest
    have hq:q-j=(q-(j+1))+1:=by omega
    refine⟨x,cs1,by simp[mget,hkk,g1],g2,g3,by omega,by simp;omega,⟨e1,by rw[hq];simpa using g6,g7⟩,?_⟩
    intro y cs' f hy hf
    rw[hq]
    simp only[List.modify_succ_cons,qRz,if_neg hkk]
    exact⟨k',v',_,rfl,h1,⟨cs,h2,h3⟩,g8 y cs' f hy hf⟩
def qWr(P:Program)(t:TypeId):Option (TypeId×TypeId×Value):=
 match P.underlying t with
 |some (.map k e)=>match P.info? e with
  |some i=>i.zero.map fun z=>(k,e,z)
  |none=>none
 |_=>none
theorem qTx{t kt et:TypeId}{z:Value}(h:qWr P t=some (kt,et,z)):P.underlying t=some (.map kt et)∧∀w:World,(zeroValue et).run P w= .ok z w:=by
 unfold qWr at h
 split at h
 ·rename_i k e he
  split at h
  ·rename_i inf hi
   obtain⟨z',hz,hp⟩:=gP.1 h
   simp only[Prod.mk.injEq] at hp
   obtain⟨rfl,rfl,rfl⟩:=hp
   exact⟨he,fun w=>by simp[zeroValue,typeInfo,hi,hz]⟩
  ·cases h
 ·cases h
def qJp(q:Option Nat)(es:Array MapEntry)(ck:Nat):Piece:=
 match q with
 |none=> .room none 0 0 0 0
 |some b=> .blk b (.map es ck)
def qTq(o:Option (List (κ×ν)))(k:κ):Option ν:=o.bind fun l=>mget l k
def qUs[KOrd κ](o:Option (List (κ×ν)))(k:κ)(v:ν):Option (Option (List (κ×ν))):=o.map fun l=>some (mset l k v)
theorem qZj{t:TypeId}(ho:opAt ops L i=some (some d,.makeMap t none))(hd:Nat.blt d n=true)(st:St m own w)
  (h:∀b w',St m (qJp (some b) #[] 0::own) w'→N ((d,.map (some b))::L) w'):One P n ops Q i N L w:=by
 refine qHb (w':=w.alloc (.map #[] 0)) ho hd (fun q hq=> ?_) (h w.heap.size _ (st.alloc ⟨⟨rfl,rfl⟩,rfl,dle⟩ rfl))
 simp[execOp,hq,Instr.makeMap]
theorem zLd{t kt et:TypeId}{z:Value}(hI:qWr P t=some (kt,et,z))(hk:KeyOK P kt ek){q:Option Nat}{es:Array MapEntry}{ck:Nat}{o:Option (List (κ×ν))}(hp:Piece.holds m w (qJp q es ck))(hr:MapQ ek c agg m q es ck o)
  {zx:ν} {zcs:List Value} (hz:c.rep m zx zcs) (hzv:z=mkV agg zcs) (k:κ) (ok:Bool):
  ∃cs,c.rep m ((qTq o k).getD zx) cs∧(Instr.lookup t (.map q) (ek k) ok).run P w= .ok (bif ok then .tuple #[mkV agg cs,.bool (qTq o k).isSome] else mkV agg cs) w:=by
 obtain⟨h1,h2⟩:=qTx hI
 have main:∀(es:List MapEntry) (l:List (κ×ν)),MapL ek c agg m es l→∃cs r,c.rep m ((mget l k).getD zx) cs∧(Instr.findKey kt (ek k) es).run P w= .ok r w∧
   (match r with|some (_,v)=>v=mkV agg cs∧(mget l k).isSome=true|none=>mkV agg cs=z∧(mget l k).isSome=false):=by
  intro es l hl
  obtain⟨r,hr,hrest⟩:=qWm (c:=c) (agg:=agg) k es l 0 hl
  cases r with
  |none=>exact⟨zcs,none,by simp[hrest.1,hz],by rw[hk.find k _ es w (qTm hl),hr],hzv.symm,by simp[hrest.1]⟩
  |some qv=>
   obtain⟨q,v⟩:=qv
   obtain⟨x,cs,g1,g2,g3,_⟩:=hrest
   exact⟨cs,some (q,v),by simp[g1,g2],by rw[hk.find k _ es w (qTm hl),hr],g3,by simp[g1]⟩
 cases q with
 |none=>
  simp only[MapQ] at hr
  subst hr
  obtain⟨cs,r,g1,g2,g3⟩:=main [] [] rfl
  refine⟨cs,by simpa[qTq,mget] using g1,?_⟩
  have hc:=hk.chk true k w
  cases r with
  |none=>cases ok<;>simp[Instr.lookup,run_underlying h1,hc,g2,h2,g3.1,qTq]
  |some r=>simp[mget] at g3
 |some b=>
  obtain⟨l0,l,rfl,hperm,hnd,hl,_⟩:=hr
  obtain⟨cs,r,g1,g2,g3⟩:=main es.toList l hl
  rw[zAi hperm hnd] at g1 g3
  refine⟨cs,by simpa[qTq] using g1,?_⟩
  have hb:w.heap[b]? =some (.map es ck):=hp.1
  have hget:(getObj b).run P w= .ok (.map es ck) w:=by simp[getObj,Sem.run,hb]
  have hc:=hk.chk es.isEmpty k w
  cases r with
  |none=>cases ok<;>simp[Instr.lookup,run_underlying h1,hget,hc,g2,h2,g3.1,g3.2,qTq]
  |some r=>
   obtain⟨_,v⟩:=r
   cases ok<;>simp[Instr.lookup,run_underlying h1,hget,hc,g2,g3.1,g3.2,qTq]
theorem zCa{t kt et:TypeId}{z:Value}{x y:Operand}{q:Option Nat}{es:Array MapEntry}{ck:Nat}{o:Option (List (κ×ν))}{k:κ}{ok:Bool}(ho:opAt ops L i=some (some d,.lookup t x y ok))(hd:Nat.blt d n=true)
  (hx:evL L x=some (.map q)) (hy:evL L y=some (ek k)) (hI:qWr P t=some (kt,et,z)) (hk:KeyOK P kt ek) (hp:Piece.holds m w (qJp q es ck)) (hr:MapQ ek c agg m q es ck o)
  {zx:ν} {zcs:List Value} (hz:c.rep m zx zcs) (hzv:z=mkV agg zcs)
  (h:∀cs,c.rep m ((qTq o k).getD zx) cs→N ((d,bif ok then .tuple #[mkV agg cs,.bool (qTq o k).isSome] else mkV agg cs)::L) w):One P n ops Q i N L w:=by
 obtain⟨cs,h1,h2⟩:=zLd hI hk hp hr hz hzv k ok
 refine qHb ho hd (fun q hq=> ?_) (h cs h1)
 simp[execOp,hq,qCc hx,qCc hy,h2]
theorem zCb{b:Nat}{o o':Obj}(hb:w.heap[b]? =some o)(hm:∀cs e f,o≠ .cells cs e f):(setObj b o').run P w= .ok () {w with heap:=w.heap.setIfInBounds b o'}:=by
 cases o<;>first|(exact absurd rfl (hm _ _ _))|simp[setObj,Sem.run,hb]
theorem zEe[KOrd κ]{t kt et:TypeId}{z v:Value}{x y u:Operand}{q:Option Nat}{es:Array MapEntry}{ck:Nat}{o o':Option (List (κ×ν))}{k:κ}{yv:ν}{cs:List Value}(ho:opAt ops L i=some (none,.mapUpdate t x y u))
  (hx:evL L x=some (.map q)) (hy:evL L y=some (ek k)) (hu:evL L u=some v) (hI:qWr P t=some (kt,et,z)) (hk:KeyOK P kt ek) (st:St m (qJp q es ck::own) w) (hr:MapQ ek c agg m q es ck o)
  (hyv:c.rep m yv cs) (hv:v=mkV agg cs) (hs:qUs o k yv=some o')
  (h:∀es' ck' w',St m (qJp q es' ck'::own) w'→MapQ ek c agg m q es' ck' o'→N L w'):One P n ops Q i N L w:=by
 obtain⟨h1,h2⟩:=qTx hI
 cases q with
 |none=>simp only[MapQ] at hr;subst hr;simp[qUs] at hs
 |some b=>
  obtain⟨l0,l,rfl,hperm,hnd,hl,hb1,hb2⟩:=hr
  simp only[qUs,gL,jK] at hs
  subst hs
  have hb:w.heap[b]? =some (.map es ck):=st.head.1
  have hlt:=qPv hb
  have hget:(getObj b).run P w= .ok (.map es ck) w:=by simp[getObj,Sem.run,hb]
  have hset:∀o',(setObj b o').run P w= .ok () {w with heap:=w.heap.setIfInBounds b o'}:=fun o'=>zCb hb (by simp)
  have hnew:∀o',St m (.blk b o'::own) {w with heap:=w.heap.setIfInBounds b o'}:=fun o'=>
   St.set (o:= .map es ck) st ⟨⟨rfl,rfl⟩,rfl,dle⟩ (by simp[hlt]) (fun k _ hk=>by simp[Array.getElem?_setIfInBounds,Ne.symm hk])
  have hc:=hk.chk false k w
  obtain⟨r,hr,hrest⟩:=qWm (c:=c) (agg:=agg) k es.toList l 0 hl
  have hfind:(Instr.findKey kt (ek k) es.toList).run P w= .ok r w:=by rw[hk.find k _ es.toList w (qTm hl),hr]
  cases r with
  |none=>
   obtain⟨g1,g2⟩:=hrest
   refine qRw ho (fun q hq=> ?_) (h (es.push {key:=ek k,val:=v,born:=ck}) (ck+1) _ (hnew _) ⟨_,qRz l k yv,rfl,qRh hperm hnd k yv,qNy hnd k yv,?_,?_,?_⟩)
   ·simp[execOp,hq,qCc hx,qCc hy,qCc hu,Instr.mapUpdate,run_underlying h1,hget,hc,hfind,hset]
   ·rw[g2,fK]
    exact hl.snoc rfl hyv hv
   ·intro e he
    rw[fK,kL] at he
    rcases he with he|he
    ·have:=hb1 e he;omega
    ·simp at he;subst he;simp
   ·rw[fK,dF,dI]
    refine⟨hb2,by simp,?_⟩
    intro a ha b hb e
    simp at hb;subst hb e
    obtain⟨e0,he0,he1⟩:=kU.1 ha
    have:=hb1 e0 he0
    omega
  |some qv=>
   obtain⟨q,v0⟩:=qv
   obtain⟨x0,cs0,g1,g2,g3,g4,g5,⟨e0,g6,g7⟩,g8⟩:=hrest
   have he:es[q]? =some e0:=by simpa using g6
   have hstay:(Instr.keyThatStays (ek k) (ek k)).run P w= .ok (ek k) w:=hk.stay k w
   refine qRw ho (fun p hp=> ?_) (h (es.modify q fun e=>{e with key:=ek k,val:=v}) ck _ (hnew _) ⟨_,qRz l k yv,rfl,qRh hperm hnd k yv,qNy hnd k yv,?_,?_,?_⟩)
   ·simp[execOp,hp,qCc hx,qCc hy,qCc hu,Instr.mapUpdate,run_underlying h1,hget,hc,hfind,he,g7,hstay,hset]
   ·rw[fA]
    have:=g8 yv cs (fun e=>{e with key:=ek k,val:=v}) hyv (fun e=>⟨rfl,hv⟩)
    simpa using this
   ·intro e he
    rw[fA] at he
    obtain⟨j,hj,rfl⟩:=List.mem_iff_getElem.1 he
    rw[dA]
    have hj':j<es.toList.length:=by simpa using hj
    have:=hb1 es.toList[j] (jP hj')
    split
    ·exact this
    ·exact this
   ·rw[fA]
    have:(es.toList.modify q fun e=>{e with key:=ek k,val:=v}).map (·.born)=es.toList.map (·.born):=by
     apply List.ext_getElem
     ·simp
     ·intro j h1 h2
      simp only[List.getElem_map,dA]
      split<;>rfl
    rw[this];exact hb2
theorem qMw[KOrd κ]{t kt et:TypeId}{z v:Value}{x y u:Operand}{q:Option Nat}{es:Array MapEntry}{ck:Nat}{o o':Option (List (κ×ν))}{k:κ}{yv:ν}{cs:List Value}(ho:opAt ops L i=some (none,.insert t x y u))
  (hx:evL L x=some (.map q)) (hy:evL L y=some (ek k)) (hu:evL L u=some v) (hI:qWr P t=some (kt,et,z)) (hk:KeyOK P kt ek) (st:St m (qJp q es ck::own) w) (hr:MapQ ek c agg m q es ck o)
  (hyv:c.rep m yv cs) (hv:v=mkV agg cs) (hs:qUs o k yv=some o')
  (h:∀es' ck' w',St m (qJp q es' ck'::own) w'→MapQ ek c agg m q es' ck' o'→N L w'):One P n ops Q i N L w:=by
 obtain⟨h1,h2⟩:=qTx hI
 cases q with
 |none=>simp only[MapQ] at hr;subst hr;simp[qUs] at hs
 |some b=>
  obtain⟨l0,l,rfl,hperm,hnd,hl,hb1,hb2⟩:=hr
  simp only[qUs,gL,jK] at hs
  subst hs
  have hb:w.heap[b]? =some (.map es ck):=st.head.1
  have hlt:=qPv hb
  have hget:(getObj b).run P w= .ok (.map es ck) w:=by simp[getObj,Sem.run,hb]
  have hset:∀o',(setObj b o').run P w= .ok () {w with heap:=w.heap.setIfInBounds b o'}:=fun o'=>zCb hb (by simp)
  have hnew:∀o',St m (.blk b o'::own) {w with heap:=w.heap.setIfInBounds b o'}:=fun o'=>
   St.set (o:= .map es ck) st ⟨⟨rfl,rfl⟩,rfl,dle⟩ (by simp[hlt]) (fun k _ hk=>by simp[Array.getElem?_setIfInBounds,Ne.symm hk])
  have hc:=hk.chk false k w
  obtain⟨r,hr,hrest⟩:=qWm (c:=c) (agg:=agg) k es.toList l 0 hl
  have hfind:(Instr.findKey kt (ek k) es.toList).run P w= .ok r w:=by rw[hk.find k _ es.toList w (qTm hl),hr]
  cases r with
  |none=>
   obtain⟨g1,g2⟩:=hrest
   refine qRw ho (fun q hq=> ?_) (h (es.push {key:=ek k,val:=v,born:=ck}) (ck+1) _ (hnew _) ⟨_,qRz l k yv,rfl,qRh hperm hnd k yv,qNy hnd k yv,?_,?_,?_⟩)
   ·simp[execOp,hq,qCc hx,qCc hy,qCc hu,Instr.mapUpdate,run_underlying h1,hget,hc,hfind,hset]
   ·rw[g2,fK]
    exact hl.snoc rfl hyv hv
   ·intro e he
    rw[fK,kL] at he
    rcases he with he|he
    ·have:=hb1 e he;omega
    ·simp at he;subst he;simp
   ·rw[fK,dF,dI]
    refine⟨hb2,by simp,?_⟩
    intro a ha b hb e
    simp at hb;subst hb e
    obtain⟨e0,he0,he1⟩:=kU.1 ha
    have:=hb1 e0 he0
    omega
  |some qv=>
   obtain⟨q,v0⟩:=qv
   obtain⟨x0,cs0,g1,g2,g3,g4,g5,⟨e0,g6,g7⟩,g8⟩:=hrest
   have he:es[q]? =some e0:=by simpa using g6
   have hstay:(Instr.keyThatStays (ek k) (ek k)).run P w= .ok (ek k) w:=hk.stay k w
   refine qRw ho (fun p hp=> ?_) (h (es.modify q fun e=>{e with key:=ek k,val:=v}) ck _ (hnew _) ⟨_,qRz l k yv,rfl,qRh hperm hnd k yv,qNy hnd k yv,?_,?_,?_⟩)
   ·simp[execOp,hp,qCc hx,qCc hy,qCc hu,Instr.mapUpdate,run_underlying h1,hget,hc,hfind,he,g7,hstay,hset]
   ·rw[fA]
    have:=g8 yv cs (fun e=>{e with key:=ek k,val:=v}) hyv (fun e=>⟨rfl,hv⟩)
    simpa using this
   ·intro e he
    rw[fA] at he
    obtain⟨j,hj,rfl⟩:=List.mem_iff_getElem.1 he
    rw[dA]
    have hj':j<es.toList.length:=by simpa using hj
    have:=hb1 es.toList[j] (jP hj')
    split
    ·exact this
    ·exact this
   ·rw[fA]
    have:(es.toList.modify q fun e=>{e with key:=ek k,val:=v}).map (·.born)=es.toList.map (·.born):=by
     apply List.ext_getElem
     ·simp
     ·intro j h1 h2
      simp only[List.getElem_map,dA]
      split<;>rfl
    rw[this];exact hb2
end
end Go.Dc
namespace Go.Dc
section
variable {P:Program} {n:Fr} {ops:Array Oper} {Q:Exit→Act→World→Prop} {i d:Nat} {L:Env} {w:World} {m:Mem} {own:List Piece} {N:Env→World→Prop}
variable {α:Type} {f:α→Value}
def zIh(by_:Nat)(z:α)(k:Int):Option (List α):=if 0≤k∧k*by_≤140737488355328∧k≤maxLen then some (List.replicate k.toNat z) else none
def qMn(f:α→Value)(l:List α)(T:List Value):Array Value:=(l.map f++T).toArray
theorem zHf{t e by_:Nat}{x y:Operand}{z:α}{k:Int}{kd kd2:IntKind}{l:List α}(f:α→Value)(ho:opAt ops L i=some (some d,.makeSlice t x y))(hd:Nat.blt d n=true)(hx:evL L x=some (.int kd k))(hy:evL L y=some (.int kd2 k))
  (hi:qOr P t=some (e,1,by_,1)) (hz:(P.info? e).bind (·.zero)=some (f z)) (hone:(f z).oneCell'=true) (st:St m own w) (hs:zIh by_ z k=some l)
  (h:∀b w',List.length l=Int.toNat k→St m (.blk b (.cells (qMn f l []) e (0,0))::own) w'→N ((d,.slice (some ⟨b,0,none⟩) (Int.toNat k) (Int.toNat k))::L) w'):One P n ops Q i N L w:=by
 obtain⟨ht,inf,zv,hinf,hzv,hsz,hby,hzs⟩:=qOi hi
 rw[hinf] at hz
 simp only[jA,hzv,jK] at hz
 subst hz
 unfold zIh at hs
 split at hs
 ·rename_i hk
  obtain⟨k1,k2,k3⟩:=hk
  simp only[jK] at hs;subst hs
  have hmx:(maxLen:Int)=9223372036854775807:=rfl
  have hw:IntKind.i64.wrap k=k:=by simp[IntKind.wrap,IntKind.signed,IntKind.bits];omega
  have k2':¬(281474976710656<(by_:Int)*k):=by rw[Int.mul_comm];omega
  have hcells:(f z).cells= #[f z]:=by cases hv:f z<;>simp_all [Value.cells,Value.oneCell']
  have hac:qMn f (List.replicate k.toNat z) []=((List.replicate k.toNat z).map f).toArray:=by simp[qMn]
  refine qHb (w':=w.alloc (.cells ((List.replicate k.toNat z).map f).toArray e)) ho hd (fun q hq=> ?_) (h w.heap.size _ (by simp) (by rw[hac];exact st.alloc ⟨⟨rfl,rfl⟩,rfl,dle⟩ rfl))
  simp only[execOp,hq,qCc hx,qCc hy,Instr.makeSlice,Sem.run_bind,run_underlying ht,Result.andThen_ok,asInt,asIntOf,typeInfo,run_program,hinf,Sem.run_pure,hw,hby]
  have h1:¬(k<0):=by omega
  have hcond:(decide (k<0)||decide ((by_:Int)*k>2^48)||decide (k<0)||decide (k>k))=false:=by simp[h1];omega
  simp only[hcond,jC,jH,run_askRoom,Result.andThen_ok,sizeOf,typeInfo,Sem.run_bind,run_program,hinf,Sem.run_pure,hsz,dO]
  by_cases h0:k.toNat=0
  ·simp[h0,newRow]
   congr 2
   first|rfl|simp
  ·simp[h0,zeroValue,typeInfo,hinf,hzv,hcells,newRow,Nat.mod_one]
   congr 2
   apply Array.ext
   ·simp
   ·intro j h1 h2;simp
 ·cases hs
theorem qXh{t e:TypeId}{x y:Operand}{b nn cc:Nat}{l:List α}{k:IntKind}{ix:Int}{z:α}(ho:opAt ops L i=some (some d,.indexAddr t x y))(hd:Nat.blt d n=true)
  (hx:evL L x=some (.slice (some ⟨b,0,none⟩) nn cc)) (hy:evL L y=some (.int k ix)) (hi:qJf P t=some (e,1)) (hn:List.length l=nn) (hz:idx l ix=some z)
  (h:N ((d,.pointer (some ⟨b,ix.toNat,none⟩))::L) w):One P n ops Q i N L w:=by
 obtain⟨h1,inf,h2,h3⟩:=qJq hi
 unfold idx at hz
 split at hz
 ·rename_i h0
  have hlt:ix.toNat<l.length:=(List.getElem?_eq_some_iff.1 hz).1
  refine qHb ho hd (fun q hq=> ?_) h
  have hlt':ix<(nn:Int):=by omega
  simp[execOp,hq,Instr.indexAt,qCc hx,qCc hy,asIntOf,run_underlying h1,h0,hlt',sizeOf,typeInfo,h2,h3,qOj]
 ·cases hz
theorem qXt{t e:TypeId}{x y:Operand}{b:Nat}{l:List α}{T:List Value}{ix:Int}{z u:α}(ho:opAt ops L i=some (none,.store t x y))
  (hx:evL L x=some (.pointer (some ⟨b,ix.toNat,none⟩))) (hy:evL L y=some (f u)) (st:St m (.blk b (.cells (qMn f l T) e (0,0))::own) w) (hz:idx l ix=some z) (hone:(f u).oneCell'=true) (hsz:(P.info? t).map (·.size)=some 1)
  (h:∀w',St m (.blk b (.cells (qMn f (l.set ix.toNat u) T) e (0,0))::own) w'→N L w'):One P n ops Q i N L w:=by
 unfold idx at hz
 split at hz
 ·have hlt:ix.toNat<l.length:=(List.getElem?_eq_some_iff.1 hz).1
  have hcells:(f u).cells= #[f u]:=by cases hv:f u<;>simp_all [Value.cells,Value.oneCell']
  have hb:=st.head.1
  have hrun:=run_storeCells_at P b ix.toNat e [f u] 0 (qMn f l T) w hb (by simp[qMn];omega) (by simp[hone])
  simp only[gX] at hrun
  have harr:((qMn f l T).toList.take ix.toNat++[f u]++(qMn f l T).toList.drop (ix.toNat+[f u].length)).toArray=qMn f (l.set ix.toNat u) T:=by
   apply congrArg List.toArray
   simp only[qMn,hY]
   rw[List.map_set,List.set_eq_take_append_cons_drop,if_pos (by simpa using hlt)]
   rw[gA (by simp;omega),gI (by simp;omega)]
   simp
  rw[harr] at hrun
  cases hi:P.info? t with
  |none=>simp[hi] at hsz
  |some inf=>
   simp only[hi,gL,jK] at hsz
   refine qRw ho (fun q hq=> ?_) (h (w.setRow b (qMn f (l.set ix.toNat u) T)) (st.set ⟨⟨rfl,rfl⟩,rfl,dle⟩ (setRow_heap w b (qMn f l T) _ e _ hb) (fun k _ hk=>setRow_other w b k _ hk)))
   simp[execOp,hq,Instr.storeAt,qCc hx,qCc hy,Instr.sureAddr,storeVar,sizeOf,typeInfo,hi,hcells,hsz,hrun]
 ·cases hz
theorem St.freeze{c:Codec α}{b e nn cc:Nat}{l:List α}{T:List Value}(st:St m (.blk b (.cells (qMn f l T) e (0,0))::own) w)(hn:List.length l=nn)(hcc:nn≤cc)(hmx:cc≤maxLen)(hT:(qMn f l T).size=cc)(hsz:c.sz=1)(hc:∀m x,c.rep m x [f x]):
  ∃m',m.le m'∧St m' (.room (some ⟨b,0,none⟩) (List.length l) cc e 1::own) w∧RepS c m' (some ⟨b,0,none⟩) cc l:=by
 have htk:(qMn f l T).toList.take (l.map f).length=l.map f:=by simp[qMn]
 obtain⟨m',h1,h2,h3,h4,h5,h6⟩:=St.know (b:=b) (cs:=l.map f) st.tail (st.head_ne rfl) st.head.1 htk (fun o v hv=>by rw[st.head.2.1 o] at hv;cases hv)
 refine⟨m',h1,h2.cons ⟨rfl,rfl,by omega,hmx,⟨_,st.head.1,by rw[hT,dO]⟩,fun o ho=>h4 o (by simpa using ho),by rw[h5];exact st.head.2.2⟩ ?_,?_⟩
 ·intro k hk;simp[Piece.block] at hk;subst hk;exact st.head_ne rfl
 ·exact RepS.of_cells (cs:=l.map f) (by omega) hmx (fun j x hx=>by
   have hlt:=(List.getElem?_eq_some_iff.1 hx).1
   have he:=(List.getElem?_eq_some_iff.1 hx).2
   rw[hsz,dO,←List.map_drop,←List.map_take,jR hlt,he]
   exact hc m' x) h3
theorem zQx{by_:Nat}{z:α}{k:Int}{l:List α}(h:zIh by_ z k=some l):k.toNat≤maxLen:=by
 unfold zIh at h
 split at h
 ·rename_i hk;have:=hk.2.2;have hmx:(maxLen:Int)=9223372036854775807:=rfl;omega
 ·cases h
theorem zHu{l:List α}{T:List Value}{nn cc:Nat}(h:List.length l=nn)(hT:nn+T.length=cc):(qMn f l T).size=cc:=by simp[qMn];omega
end
end Go.Dc
namespace Go.Dc
theorem qYu{α:Type}{l:List α}{n:Nat}(h:List.length l=n)(i:Nat)(a:α):List.length (List.set l i a)=n:=by rw[dG];exact h
end Go.Dc
end
namespace Go.Dc
section
def qQr{α σ β:Type}(f:Option α→σ→Option (σ⊕β)):List α→σ→Option β
 |[],s=>(f none s).bind fun
  | .inl _=>none
  | .inr b=>some b
 |e::l,s=>(f (some e) s).bind fun
  | .inl s'=>qQr f l s'
  | .inr b=>some b
def qYx{α:Type}(x:α):List α→List (List α)
 |[]=>[[x]]
 |y::l=>(x::y::l)::(qYx x l).map (y:: ·)
def zDi{α:Type}:List α→List (List α)
 |[]=>[[]]
 |x::l=>(zDi l).flatMap (qYx x)
theorem qSf{α:Type}{x:α}:∀{l k:List α},k∈qYx x l↔∃a b,l=a++b∧k=a++x::b
 |[],k=>by
  simp only[qYx,kY]
  constructor
  ·rintro rfl;exact⟨[],[],rfl,rfl⟩
  ·rintro⟨a,b,h,rfl⟩
   simp only[List.nil_eq,List.append_eq_nil_iff] at h
   obtain⟨rfl,rfl⟩:=h;rfl
 |y::l,k=>by
  simp only[qYx,jM,kU]
  constructor
  ·rintro(rfl|⟨k',hk,rfl⟩)
   ·exact⟨[],y::l,rfl,rfl⟩
   ·obtain⟨a,b,rfl,rfl⟩:=qSf.1 hk
    exact⟨y::a,b,rfl,rfl⟩
  ·rintro⟨a,b,h,rfl⟩
   cases a with
   |nil=>left;simp only[kF] at h;rw[←h];rfl
   |cons z a=>
    simp only[kQ,g9] at h
    obtain⟨rfl,rfl⟩:=h
    right
    exact⟨a++x::b,qSf.2 ⟨a,b,rfl,rfl⟩,rfl⟩
theorem qZf{α:Type}:∀{l k:List α},k.Perm l→k∈zDi l
 |[],k,h=>by rw[List.perm_nil] at h;subst h;simp[zDi]
 |x::l,k,h=>by
  have hx:x∈k:=h.mem_iff.2 (jJ ..)
  obtain⟨a,b,rfl⟩:=List.append_of_mem hx
  have h':(a++b).Perm l:=(gH.symm.trans h).cons_inv
  simp only[zDi,gB]
  exact⟨a++b,qZf h',qSf.2 ⟨a,b,rfl,rfl⟩⟩
theorem zBr{α:Type}:∀{l k:List α},k∈zDi l→k.Perm l
 |[],k,h=>by simp[zDi] at h;subst h;exact .refl _
 |x::l,k,h=>by
  simp only[zDi,gB] at h
  obtain⟨k',h1,h2⟩:=h
  obtain⟨a,b,rfl,rfl⟩:=qSf.1 h2
  exact gH.trans ((zBr h1).cons x)
def qXu{α σ β:Type}[DecidableEq β](f:Option α→σ→Option (σ⊕β))(l:List α)(s:σ):Option β:=
 match qQr f l s with
 |none=>none
 |some b=>if((zDi l).all fun k=>decide (qQr f k s=some b))=true then some b else none
theorem zKy{α σ β:Type}[DecidableEq β]{f:Option α→σ→Option (σ⊕β)}{l:List α}{s:σ}{b:β}(h:qXu f l s=some b):∀k,k.Perm l→qQr f k s=some b:=by
 unfold qXu at h
 split at h
 ·cases h
 ·rename_i b' hb
  split at h
  ·rename_i hall
   simp only[jK] at h;subst h
   intro k hk
   have:=jT.1 hall k (qZf hk)
   simpa using this
  ·cases h
theorem zNd{α σ β:Type}[DecidableEq β]{f:Option α→σ→Option (σ⊕β)}{l:List α}{s:σ}{b:β}(h:∀k,k.Perm l→qQr f k s=some b):qXu f l s=some b:=by
 unfold qXu
 rw[h l (.refl _)]
 simp only
 rw[if_pos]
 exact jT.2 fun k hk=>by simpa using h k (zBr hk)
def LoopE{α σ β:Type}(f:Option α→σ→Option (σ⊕β))(rem:List α)(s:σ)(b:β)(k:Nat):Prop:=(∀l,l.Perm rem→qQr f l s=some b)∧rem.length<k
theorem LoopE.start{α σ β:Type}[DecidableEq β]{f:Option α→σ→Option (σ⊕β)}{l:List α}{s:σ}{b:β}(h:qXu f l s=some b):LoopE f l s b (l.length+1):=⟨zKy h,jG _⟩
theorem LoopE.zero{α σ β:Type}{f:Option α→σ→Option (σ⊕β)}{rem:List α}{s:σ}{b:β}{p:Prop}(h:LoopE f rem s b 0):p:=absurd h.2 (kV _)
theorem LoopE.nil{α σ β:Type}{f:Option α→σ→Option (σ⊕β)}{rem:List α}{s:σ}{b:β}{k:Nat}(h:LoopE f rem s b (k+1))(hr:rem=[]):
  ∃c,f none s=some c∧(∀s',c= .inl s'→LoopE f rem s' b k)∧(∀b',c= .inr b'→b'=b):=by
 subst hr
 have:=h.1 [] (.refl _)
 simp only[qQr] at this
 obtain⟨c,h1,h2⟩:=jV.1 this
 refine⟨c,h1,?_,?_⟩
 ·rintro s' rfl;simp at h2
 ·rintro b' rfl;simpa using h2
theorem LoopE.cons{α σ β:Type}{f:Option α→σ→Option (σ⊕β)}{rem rest:List α}{e:α}{s:σ}{b:β}{k:Nat}(h:LoopE f rem s b (k+1))(hr:rem.Perm (e::rest)):
  ∃c,f (some e) s=some c∧(∀s',c= .inl s'→LoopE f rest s' b k)∧(∀b',c= .inr b'→b'=b):=by
 have hlen:rem.length=rest.length+1:=by simpa using hr.length_eq
 have key:∀l,l.Perm rest→qQr f (e::l) s=some b:=fun l hl=>h.1 _ ((hl.cons e).trans hr.symm)
 have h0:=key rest (.refl _)
 simp only[qQr] at h0
 obtain⟨c,h1,h2⟩:=jV.1 h0
 refine⟨c,h1,?_,?_⟩
 ·rintro s' rfl
  refine⟨fun l hl=> ?_,by have:=h.2;omega⟩
  have:=key l hl
  simp only[qQr,h1,jA] at this
  exact this
 ·rintro b' rfl;simpa using h2
def qPp(r:Nat)(q:Option Nat)(ck:Nat)(seen:Array Nat):Piece:= .blk r (.mapIter q ck seen ck)
def zJc(es:Array MapEntry)(seen:Array Nat):List MapEntry:=es.toList.filter fun e=> !seen.contains e.born
def ItR{κ ν:Type}(ek:κ→Value)(c:Codec ν)(agg:Bool)(m:Mem)(es:Array MapEntry)(seen:Array Nat)(rem:List (κ×ν)):Prop:=∃l',l'.Perm rem∧MapL ek c agg m (zJc es seen) l'
def Ent(es:Array MapEntry)(seen:Array Nat)(k v:Value):Prop:=∃(s0:Array Nat) (e:MapEntry),seen=s0.push e.born∧e∈es.toList∧e.key=k∧e.val=v
theorem ItR.mono{κ ν:Type}{ek:κ→Value}{c:Codec ν}{agg:Bool}{m m':Mem}{es:Array MapEntry}{seen:Array Nat}{rem:List (κ×ν)}(h:ItR ek c agg m es seen rem)(hle:m.le m'):ItR ek c agg m' es seen rem:=by
 obtain⟨l',h1,h2⟩:=h;exact⟨l',h1,h2.mono hle⟩
section
variable {P:Program} {n:Fr} {ops:Array Oper} {Q:Exit→Act→World→Prop} {i d:Nat} {L:Env} {w:World} {m:Mem} {own:List Piece} {N:Env→World→Prop}
variable {κ ν:Type} {ek:κ→Value} {c:Codec ν} {agg:Bool}
theorem zPk{t kt et:TypeId}{x:Operand}{b:Nat}{es:Array MapEntry}{ck:Nat}{o:Option (List (κ×ν))}(ho:opAt ops L i=some (some d,.range t x))(hd:Nat.blt d n=true)(hx:evL L x=some (.map (some b)))
  (ht:P.underlying t=some (.map kt et)) (st:St m (qJp (some b) es ck::own) w) (hr:MapQ ek c agg m (some b) es ck o)
  (h:∀r w',St m (qPp r (some b) ck #[]::qJp (some b) es ck::own) w'→ItR ek c agg m es #[] (o.getD [])→N ((d,.pointer (some ⟨r,0,none⟩))::L) w'):One P n ops Q i N L w:=by
 obtain⟨l,l',rfl,hperm,hnd,hl,hb⟩:=hr
 have hget:(getObj b).run P w= .ok (.map es ck) w:=by
  have hh:w.heap[b]? =some (.map es ck):=st.head.1
  simp[getObj,Sem.run,hh]
 have hal:=st.alloc (w':=w.alloc (.mapIter (some b) ck #[] ck)) (o:= .mapIter (some b) ck #[] ck) ⟨⟨rfl,rfl⟩,rfl,dle⟩ rfl
 have hnew:∀o,(newObj o).run P w= .ok w.heap.size (w.alloc o):=fun o=>rfl
 refine qHb ho hd (fun q hq=> ?_) (h w.heap.size _ hal ⟨l',hperm,by rw[show zJc es #[]=es.toList from List.filter_eq_self.2 (fun _ _=>by simp)];exact hl⟩)
 simp[execOp,hq,qCc hx,Instr.range,run_underlying ht,hget,hnew]
theorem zNe:∀{es:List MapEntry} {l:List (κ×ν)} {j:Nat} {e:MapEntry},MapL ek c agg m es l→es[j]? =some e→∃k v cs,l[j]? =some (k,v)∧e.key=ek k∧c.rep m v cs∧e.val=mkV agg cs∧MapL ek c agg m (es.eraseIdx j) (l.eraseIdx j)
 |e0::es,l,0,e,⟨k,v,l',h1,h2,⟨cs,h3,h4⟩,h5⟩,he=>by
  simp at he;subst he h1
  exact⟨k,v,cs,rfl,h2,h3,h4,by simpa using h5⟩
 |e0::es,l,j+1,e,⟨k,v,l',h1,h2,h3,h5⟩,he=>by
  subst h1
  obtain⟨k1,v1,cs,g1,g2,g3,g4,g5⟩:=zNe h5 (by simpa using he)
  exact⟨k1,v1,cs,by simpa using g1,g2,g3,g4,by simp only[List.eraseIdx_cons_succ];exact⟨k,v,_,rfl,h2,h3,g5⟩⟩
theorem zEx{es:List MapEntry}(hn:(es.map (·.born)).Nodup){seen:Array Nat}{j:Nat}{e:MapEntry}(h:(es.filter fun e=> !seen.contains e.born)[j]? =some e):
  (es.filter fun e'=> !(seen.push e.born).contains e'.born)=(es.filter fun e=> !seen.contains e.born).eraseIdx j:=by
 induction es generalizing j with
 |nil=>simp at h
 |cons x es ih=>
  simp only[k9,gT] at hn
  simp only[fE] at h ⊢
  have hc:∀y:MapEntry,(seen.push e.born).contains y.born=(seen.contains y.born||(y.born==e.born)):=fun y=>by
   rw[Array.contains_push]
  by_cases hx:seen.contains x.born=true
  ·simp only[hx,kM,jC,jH] at h ⊢
   rw[hc,hx]
   simp only[Bool.true_or,kM,jC,jH]
   exact ih hn.2 h
  ·have hx':seen.contains x.born=false:=by simpa using hx
   simp only[hx',kJ,jI] at h ⊢
   rw[hc,hx']
   cases j with
   |zero=>
    simp at h
    subst h
    simp only[gS,gU,kM,jC,jH,List.eraseIdx_cons_zero]
    refine List.filter_congr fun y hy=> ?_
    rw[hc]
    have:¬y.born=x.born:=fun e=>hn.1 (by rw[←e];exact gJ hy)
    simp[this]
   |succ j=>
    have h':(es.filter fun e=> !seen.contains e.born)[j]? =some e:=by simpa using h
    have hmem:e∈es:=(gM.1 (List.mem_of_getElem? h')).1
    have hne:¬x.born=e.born:=fun he=>hn.1 (by rw[he];exact gJ hmem)
    simp only[gS,kC,hne,Bool.not_eq_eq_eq_not,kM,beq_eq_false_iff_ne,ne_eq,not_false_eq_true,jI,List.eraseIdx_cons_succ]
    congr 1
    exact ih hn.2 h'
theorem zJo(es:Array MapEntry)(seen:Array Nat):(leftOf es seen).toList=zJc es seen:=by simp[leftOf,zJc]
theorem St.setIt{r:Nat}{q:Option Nat}{ck:Nat}{seen:Array Nat}{w1:World}(seen':Array Nat)(st:St m (qPp r q ck seen::own) w)(h1:w1=w∨w1=w.drew):St m (qPp r q ck seen'::own) (Go.ChangeMaps.setBlock w1 r (.mapIter q ck seen' ck)):=by
 have hlt:=qPv st.head.1
 refine St.set (o:= .mapIter q ck seen ck) (o':= .mapIter q ck seen' ck) st ?_ ?_ ?_
 ·rcases h1 with rfl|rfl<;>exact⟨⟨rfl,rfl⟩,rfl,dle⟩
 ·have:(w.heap.setIfInBounds r (.mapIter q ck seen' ck))[r]? =some (.mapIter q ck seen' ck):=by simp[hlt]
  rcases h1 with rfl|rfl<;>exact this
 ·intro k _ hk
  have:(w.heap.setIfInBounds r (.mapIter q ck seen' ck))[k]? =w.heap[k]? :=by simp[Array.getElem?_setIfInBounds,Ne.symm hk]
  rcases h1 with rfl|rfl<;>exact this
theorem zRn{x:Operand}{r b ck:Nat}{es:Array MapEntry}{seen:Array Nat}{o:Option (List (κ×ν))}{rem:List (κ×ν)}(ho:opAt ops L i=some (some d,.next x false))(hd:Nat.blt d n=true)(hx:evL L x=some (.pointer (some ⟨r,0,none⟩)))
  (st:St m (qPp r (some b) ck seen::qJp (some b) es ck::own) w) (hq:MapQ ek c agg m (some b) es ck o) (hr:ItR ek c agg m es seen rem)
  (h0:rem=[]→∀w',St m (qPp r (some b) ck seen::qJp (some b) es ck::own) w'→N ((d,.tuple #[.bool false])::L) w')
  (h1:∀(e:κ×ν) (rest:List (κ×ν)) (seen':Array Nat) (cs:List Value) (w':World),rem.Perm (e::rest)→c.rep m e.2 cs→St m (qPp r (some b) ck seen'::qJp (some b) es ck::own) w'→ItR ek c agg m es seen' rest→Ent es seen' (ek e.1) (mkV agg cs)→
   N ((d,.tuple #[.bool true,ek e.1,mkV agg cs])::L) w'):One P n ops Q i N L w:=by
 obtain⟨_,_,_,_,_,_,hb1,hb2⟩:=hq
 obtain⟨l',hperm,hl⟩:=hr
 have hit:w.heap[r]? =some (.mapIter (some b) ck seen ck):=st.head.1
 have hmp:w.heap[b]? =some (.map es ck):=st.tail.head.1
 refine qQb (v:=undef) (w':=w) ho hd (fun q hq=> ?_)
 rcases run_next_at (P:=P) w q.type r b ck ck seen es ck hit hmp hb1 (jU _) with ⟨hz,hrun⟩|⟨e,he,w1,hw1,hrun⟩
 ·have hnil:zJc es seen=[]:=by rw[←zJo];exact jX (by simpa using hz)
  rw[hnil] at hl
  have hl':l'=[]:=hl
  subst hl'
  refine⟨_,w,?_,h0 (List.nil_perm.1 hperm) w st⟩
  simp[execOp,hq,qCc hx,hrun]
 ·rw[zJo] at he
  obtain⟨j,hj⟩:=fO.1 he
  obtain⟨k,v,cs,g1,g2,g3,g4,g5⟩:=zNe hl hj
  have hjl:=(List.getElem?_eq_some_iff.1 g1).1
  have hsplit:l'.Perm ((k,v)::l'.eraseIdx j):=by
   have e1:l'[j]=(k,v):=(List.getElem?_eq_some_iff.1 g1).2
   have e2:l'=l'.take j++(k,v)::l'.drop (j+1):=by rw[←e1,dH,fH]
   rw[List.eraseIdx_eq_take_drop_succ]
   exact(List.Perm.of_eq e2).trans gH
  have hmem:e∈es.toList:=(gM.1 he).1
  have hleft:zJc es (seen.push e.born)=(zJc es seen).eraseIdx j:=zEx hb2 hj
  refine⟨_,_,?_,h1 (k,v) (l'.eraseIdx j) (seen.push e.born) cs _ (hperm.symm.trans hsplit) g3 (St.setIt _ st hw1) ⟨_,.refl _,by rw[hleft];exact g5⟩ ⟨seen,e,rfl,hmem,g2,g4⟩⟩
  simp[execOp,hq,qCc hx,hrun,g2,g4]
theorem zOx{x:Operand}{r b ck:Nat}{es:Array MapEntry}{seen:Array Nat}{o:Option (List (κ×ν))}{K V:Value}(ho:opAt ops L i=some (some d,.entry x))(hd:Nat.blt d n=true)(hx:evL L x=some (.pointer (some ⟨r,0,none⟩)))
  (st:St m (qPp r (some b) ck seen::qJp (some b) es ck::own) w) (hq:MapQ ek c agg m (some b) es ck o) (he:Ent es seen K V)
  (h:N ((d,.tuple #[K,V])::L) w):One P n ops Q i N L w:=by
 obtain⟨_,_,_,_,_,_,hb1,hb2⟩:=hq
 obtain⟨seen0,e,rfl,hmem,rfl,rfl⟩:=he
 have hit:w.heap[r]? =some (.mapIter (some b) ck (seen0.push e.born) ck):=st.head.1
 have hmp:w.heap[b]? =some (.map es ck):=st.tail.head.1
 have hrun:=run_entry_at (P:=P) w r b ck seen0 es ck e hit hmp hmem hb2
 refine qHb ho hd (fun q hq=> ?_) h
 simp[execOp,hq,qCc hx,hrun]
end
end
end Go.Dc
section
namespace Go.Dc
def ixB(s:ByteArray)(c:Int):Int:=
 match(List.range s.size).find? fun i=>s[i]! ==c.toNat.toUInt8 with
 |some i=>(i:Int)
 |none=> -1
def cntB(s:ByteArray)(c:Int):Int:=s.foldl (fun n x=>if x==c.toNat.toUInt8 then n+1 else n) ((0:Nat):Int)
section
variable {ρ:Option Nat} {P:Program} {n:Fr} {ops:Array Oper} {Q:Exit→Act→World→Prop} {i d:Nat} {L:Env} {w:World} {m:Mem} {own:List Piece} {N:Env→World→Prop}
theorem qXd{f:FuncId}{fn:Func}{e:Array Value→Sem Value}{xs:Array Operand}{ts:Array TypeId}(vs:List Value)(v:Value)(ho:opAt ops L i=some (some d,.call {callee:= .value (.func f),args:=xs,argTypes:=ts}))(hd:Nat.blt d n=true)
  (hv : xs.map (evD L) = vs.toArray) (hf : P.funcs[f]? = some fn) (h1 : (fn.name == "runtime.NumGoroutine", fn.body.isNone, (Extern.findNext fn).isNone) = (false, true, true)) (h2 : Extern.find fn = some e)
  (hrun:(e vs.toArray).run P w= .ok v w) (h:N ((d,v)::L) w):One P n ops Q i N L w:=by
 simp only[Prod.mk.injEq] at h1
 obtain⟨g1,g2,g3⟩:=h1
 have g1' : ¬ fn.name = "runtime.NumGoroutine" := by simpa using g1
 have g2':fn.body=none:=by simpa using g2
 have g3':Extern.findNext fn=none:=by simpa using g3
 refine qHb ho hd (fun q hq=> ?_) h
 have hev:evD L (.func f)= .func (.func f) #[] #[]:=rfl
 simp[execOp,hq,resolve,hev,hv,Deferred.ofValue,invoke,callFunc,hf,g1',g2',g3',h2,hrun]
theorem zCu{f:FuncId}{fn:Func}{x y:Operand}{ts:Array TypeId}{s:ByteArray}{c:Int}(ho:opAt ops L i=some (some d,.call {callee:= .value (.func f),args:= #[x,y],argTypes:=ts}))(hd:Nat.blt d n=true)
  (hx : evL L x = some (.string s)) (hy : evL L y = some (.int .u8 c)) (hf : P.funcs[f]? = some fn) (h1 : (fn.name == "runtime.NumGoroutine", fn.body.isNone, (Extern.findNext fn).isNone) = (false, true, true)) (h2 : Extern.find fn = some Extern.BytealgIndexByte.indexByte)
  (h:N ((d,.int .i64 (ixB s c))::L) w):One P n ops Q i N L w:=by
 refine qXd [.string s,.int .u8 c] _ ho hd (by simp[qCc hx,qCc hy]) hf h1 h2 ?_ h
 have e:Extern.BytealgIndexByte.indexByte #[.string s,.int .u8 c]=(match(List.range s.size).find? fun i=>s[i]! ==c.toNat.toUInt8 with
  |some i=>pure (goInt i)
  |none=>pure (goInt (-1))):=rfl
 show(Extern.BytealgIndexByte.indexByte #[.string s,.int .u8 c]).run P w=_
 rw[e]
 unfold ixB
 split<;>rfl
theorem zDj{f:FuncId}{fn:Func}{x y:Operand}{ts:Array TypeId}{s:ByteArray}{c:Int}(ho:opAt ops L i=some (some d,.call {callee:= .value (.func f),args:= #[x,y],argTypes:=ts}))(hd:Nat.blt d n=true)
  (hx : evL L x = some (.string s)) (hy : evL L y = some (.int .u8 c)) (hf : P.funcs[f]? = some fn) (h1 : (fn.name == "runtime.NumGoroutine", fn.body.isNone, (Extern.findNext fn).isNone) = (false, true, true)) (h2 : Extern.find fn = some Extern.BytealgCount.count)
  (h:N ((d,.int .i64 (cntB s c))::L) w):One P n ops Q i N L w:=by
 refine qXd [.string s,.int .u8 c] _ ho hd (by simp[qCc hx,qCc hy]) hf h1 h2 ?_ h
 have e:Extern.BytealgCount.count #[.string s,.int .u8 c]=pure (goInt (s.foldl (fun n x=>if x==c.toNat.toUInt8 then n+1 else n) (0:Nat))):=rfl
 show(Extern.BytealgCount.count #[.string s,.int .u8 c]).run P w=_
 rw[e]
 unfold cntB goInt
 simp only[Sem.run_pure]
def noGoto(Q:Exit→Act→World→Prop):Exit→Act→World→Prop
 | .goto _,_,_=>False
 | .normal,a,w=>Q .normal a w
 | .exit id,a,w=>Q (.exit id) a w
 | .ret,a,w=>Q .ret a w
 | .panic c,a,w=>Q (.panic c) a w
 | .outgrown,a,w=>Q .outgrown a w
end
end Go.Dc
namespace Go.Dc
def zNv(P:Program)(t:TypeId):Value→Value→Option Bool
 | .int k a,.int k' b=>match P.underlying t with
  |some (.int _)=>bif decide (k=k') then some (a==b) else none
  |_=>none
 | .bool a,.bool b=>match P.underlying t with
  |some .bool=>some (a==b)
  |_=>none
 | .string a,.string b=>match P.underlying t with
  |some .string=>some (a.toList==b.toList)
  |_=>none
 |_,_=>none
def eqFs(P:Program)(xs ys:Array Value):List Field→Option Bool
 |[]=>some true
 |f::fs=>match xs[f.offset]?,ys[f.offset]? with
  | some a, some b => bif f.name == "_" || !P.plainKey f.type then none else (zNv P f.type a b).bind fun r => (eqFs P xs ys fs).map fun s => r && s
  |_,_=>none
section
variable {P:Program} {n:Fr} {ops:Array Oper} {Q:Exit→Act→World→Prop} {i d:Nat} {L:Env} {w:World} {N:Env→World→Prop}
theorem zLw{t:TypeId}{a b:Value}{r:Bool}(dp:Nat)(h:zNv P t a b=some r):(Op.equalIn (dp+1) t a b).run P w= .ok r w:=by
 unfold zNv at h
 split at h
 ·split at h
  ·rename_i hu
   rename_i k a k' b _ q
   by_cases hk:k=k'
   ·subst hk
    simp only[decide_true,cond_true,jK] at h
    subst h
    exact run_equalIn_int w dp t k _ a b hu
   ·simp[hk] at h
  ·cases h
 ·split at h
  ·rename_i hu;cases h;exact run_equalIn_bool w dp t _ _ hu
  ·cases h
 ·split at h
  ·rename_i hu;cases h;exact run_equalIn_string w dp t _ _ hu
  ·cases h
 ·cases h
theorem zKi{xs ys:Array Value}(dp:Nat):∀{fs:List Field} {r:Bool},eqFs P xs ys fs=some r→(Op.eqFields (dp+1) xs ys fs).run P w= .ok r w
 |[],r,h=>by simp[eqFs] at h;subst h;simp[Op.eqFields]
 |f::fs,r,h=>by
  simp only[eqFs] at h
  split at h
  ·rename_i a b ha hb
   cases hc : (f.name == "_" || !P.plainKey f.type) with
   |true=>simp[hc] at h
   |false=>
    simp only[hc,cond_false] at h
    simp only[fW,Bool.not_eq_false'] at hc
    obtain⟨s,h1,h2⟩:=jV.1 h
    obtain⟨u,h3,h4⟩:=gP.1 h2
    have hn : f.name ≠ "_" := by simpa using hc.1
    have p1:=run_part_plain (P:=P) (w:=w) hc.2 ha
    have p2:=run_part_plain (P:=P) (w:=w) hc.2 hb
    have p3:=zLw (w:=w) dp h1
    have p4:=zKi dp h3
    subst h4
    simp only[Op.eqFields,hn,ne_eq,not_false_eq_true,jI,Sem.run_bind,p1,p2,p3,Result.andThen_ok]
    cases s<;>simp[p4]
  ·cases h
theorem qXn{t:TypeId}{xs ys:Array Value}{r:Bool}(ht:P.underlying t=some (.struct (P.fieldsOf t)))(hs:P.stoodInHeld t=false)(h:eqFs P xs ys (P.fieldsOf t).toList=some r):(Op.equal t (.agg xs) (.agg ys)).run P w= .ok r w:=by
 have e:Op.equal t (.agg xs) (.agg ys)=Op.equalIn (9999+1) t (.agg xs) (.agg ys):=rfl
 rw[e,run_equalIn_struct w 9999 t xs ys ht hs]
 exact zKi (w:=w) 9998 h
theorem qZp{t t2:TypeId}{x y:Operand}{xs ys:Array Value}(r:Bool)(ho:opAt ops L i=some (some d,.binOp .eql t x y t2))(hd:Nat.blt d n=true)(hx:evL L x=some (.agg xs))(hy:evL L y=some (.agg ys))
  (ht:P.underlying t=some (.struct (P.fieldsOf t))) (hs:(P.stoodInHeld t,P.eqGuardType P.depth t)=(false,false)) (h0:eqFs P xs ys (P.fieldsOf t).toList=some r) (h:N ((d,.bool r)::L) w):One P n ops Q i N L w:=by
 simp only[Prod.mk.injEq] at hs
 refine qHb ho hd (fun q hq=> ?_) h
 simp[execOp,hq,qCc hx,qCc hy,eqGuard,hs.2,binOp,qXn ht hs.1 h0]
theorem zNs{t t2:TypeId}{x y:Operand}{xs ys:Array Value}(r:Bool)(ho:opAt ops L i=some (some d,.binOp .neq t x y t2))(hd:Nat.blt d n=true)(hx:evL L x=some (.agg xs))(hy:evL L y=some (.agg ys))
  (ht:P.underlying t=some (.struct (P.fieldsOf t))) (hs:(P.stoodInHeld t,P.eqGuardType P.depth t)=(false,false)) (h0:eqFs P xs ys (P.fieldsOf t).toList=some r) (h:N ((d,.bool (!r))::L) w):One P n ops Q i N L w:=by
 simp only[Prod.mk.injEq] at hs
 refine qHb ho hd (fun q hq=> ?_) h
 simp[execOp,hq,qCc hx,qCc hy,eqGuard,hs.2,binOp,qXn ht hs.1 h0]
theorem zDb{m:Mem}{own:List Piece}{t e e' sz b k n' cap cap':Nat}{x:Operand}(ho:opAt ops L i=some (some d,.convert t t x))(hd:Nat.blt d n=true)(hx:evL L x=some (.slice (some ⟨b,0,none⟩) k cap))
  (h1:qYk P t=some e) (st:St m (.room (some ⟨b,0,none⟩) n' cap' e' sz::own) w) (h:∀w',St m own w'→N ((d,.slice (some ⟨b,0,none⟩) k cap)::L) w'):One P n ops Q i N L w:=by
 obtain⟨g1,g2⟩:=qTg h1
 obtain⟨_,_,_,_,⟨cur,hcur,_⟩,_⟩:=st.head
 have hlt:=qPv hcur
 have hne:=st.head_ne (b:=b) rfl
 have ht:=st.tail
 obtain⟨w',hw'⟩:∃w',w'=w.freeze ⟨b,cur.size,none⟩ 1:=⟨_,rfl⟩
 have hsh:w.shape? b=some (e',cur.size):=by unfold World.shape?;rw[hcur]
 have hb:w'.heap[b]? =some (.cells cur e' (cur.size,cur.size+1)):=by
  rw[hw'];unfold World.freeze
  simp[Array.getElem?_modify,hcur]
 have ho':∀j,j≠b→w'.heap[j]? =w.heap[j]? :=fun j hj=>by
  rw[hw'];unfold World.freeze
  simp[Array.getElem?_modify,Ne.symm hj]
 have hs:Step w w':=by rw[hw'];unfold World.freeze;exact⟨⟨rfl,rfl⟩,rfl,dle⟩
 have hrun:(convert t t (.slice (some ⟨b,0,none⟩) k cap)).run P w= .ok (.slice (some ⟨b,0,none⟩) k cap) w':=by
  simp[convert,run_underlying g1,run_underlying g2,markStringish,hsh,hw']
 have st':St m own w':=by
  refine⟨⟨fun b' o v hv=> ?_,fun b' y hy=> ?_,ht.1.2.2.trans hs⟩,fun p hp=>Piece.holds_keep (ht.2.1 p hp) fun k hk=>ho' k (fun e=>hne (qTt.2 ⟨p,hp,e▸hk⟩)),ht.2.2⟩
  ·obtain⟨c,e0,f,h2,h3⟩:=ht.1.1 b' o v hv
   by_cases hbb:b'=b
   ·subst hbb
    rw[hcur] at h2
    simp only[jK,Obj.cells.injEq] at h2
    obtain⟨rfl,_,_⟩:=h2
    exact⟨_,_,_,hb,h3⟩
   ·exact⟨c,e0,f,by rw[ho' b' hbb];exact h2,h3⟩
  ·have h2:=ht.1.2.1 b' y hy
   by_cases hbb:b'=b
   ·subst hbb
    have:=st.head.2.2.2.2.2.2
    rw[this] at hy;cases hy
   ·rw[ho' b' hbb];exact h2
 refine qHb ho hd (fun q hq=> ?_) (h w' st')
 simp[execOp,hq,qCc hx,hrun]
end
end Go.Dc
end
namespace Go.Dc
section
open Go.ChangeShapes Go.WideShapes Go.ChangeAt Go.RowKit
class TabW(w:World):Prop where
 ht:∀p∈tabs,∃t f,w.heap[p.1]? =some (.cells p.2 t f)
instance tabW0(w:World):TabW w:=⟨fun p hp=>by cases hp⟩
def snap(w:World)[TabW w]:Mem:={cell:=fun b o=>w.cell? ⟨b,o,none⟩,obj:=fun b=>w.heap[b]?,wd:=w,ht:=TabW.ht}
theorem zNm(w:World)[TabW w]:St (snap w) [] w:=by
 refine⟨⟨fun b o v h=> ?_,fun _ _ h=>h,Step.refl w⟩,⟨fun p hp=>absurd hp (fD),List.nodup_nil⟩⟩
 simp only[snap,World.cell?] at h
 split at h
 ·rename_i c e f hb
  exact⟨_,_,_,hb,by simpa using h⟩
 ·cases h
theorem zLc{w w':World}[TabW w]{m':Mem}{own:List Piece}(hle:Mem.le (snap w) m')(st:St m' own w'):
  w'.os=w.os∧w'.output=w.output∧∀(b:Nat) (x:Obj),w.heap[b]? =some x→w'.heap[b]? =some x:=by
 have hs:=st.1.2.2
 have hw:m'.wd=w:=hle.2.2.symm
 rw[hw] at hs
 exact⟨hs.1.1,hs.1.2,fun b x hb=>st.1.2.1 b x (hle.2.1 b x hb)⟩
theorem zTk{w w':World}(h1:w'.os=w.os)(h2:w'.output=w.output)(h3:∀(b:Nat) (x:Obj),w.heap[b]? =some x→w'.heap[b]? =some x)(may:MemPlace→Prop):w.keptBut w' may:=by
 refine⟨h1,h2,fun i hi=> ?_⟩
 obtain⟨x,hx⟩:∃x,w.heap[i]? =some x:=⟨w.heap[i],by simp[hi]⟩
 rw[h3 i x hx,hx]
 cases x<;>simp
theorem zTy{w w':World}(h3:∀(b:Nat) (x:Obj),w.heap[b]? =some x→w'.heap[b]? =some x){p:MemPlace}(hp:p.block<w.heap.size):w.sameAt w' p:=by
 obtain⟨x,hx⟩:∃x,w.heap[p.block]? =some x:=⟨w.heap[p.block],by simp[hp]⟩
 cases p with
 |cell b off=>simp only[World.sameAt,World.cell?,MemPlace.block] at hx ⊢;rw[h3 b x hx,hx]
 |map b=>simp only[World.sameAt,MemPlace.block] at hx ⊢;rw[h3 b x hx,hx]
section
variable {H:Type} {enc:TypeId×Value→H} {P:Program}
theorem qXy{w w':World}{sp:Nat→Bool}{T:TypeId→Prop}(K:Kids P T)(hz:∀{t e:TypeId},T t→P.underlying t=some (.slice e)→0<P.cellsOf e)
  (h3:∀(b:Nat) (x:Obj),w.heap[b]? =some x→w'.heap[b]? =some x):∀{ts:List TypeId} {vs:List Value} {ds:List (DataW H)} {ps:List MemPlace},(∀t∈ts,T t)→
  DataW.TrodAll enc P w 0 (fun _=>true) true ts vs ds ps→(∀p∈ps,p.block<w.heap.size)→(∀p∈ps,sp p.block=true)→DataW.TrodAll enc P w' 0 sp true ts vs ds ps
 |[],[],[],_,_,h,_,_=>h
 |t::ts,v::vs,d::ds,ps,ht,h,hl,hs=>by
  obtain⟨p,q,⟨fuel,h1⟩,h2,rfl⟩:=h
  exact⟨p,q,⟨fuel,DataW.trod_stays K hz (fun e=>by cases e) (ht t (jJ ..)) h1 (fun x hx=>zTy h3 (hl x (kS _ hx))) (fun x hx=>hs x (kS _ hx))⟩,
   qXy K hz h3 (fun u hu=>ht u (jL _ hu)) h2 (fun x hx=>hl x (gE _ hx)) (fun x hx=>hs x (gE _ hx)),rfl⟩
 |[],_::_,_,_,_,h,_,_=>by simp[DataW.TrodAll] at h
 |[],[],_::_,_,_,h,_,_=>by simp[DataW.TrodAll] at h
 |_::_,[],_,_,_,h,_,_=>by simp[DataW.TrodAll] at h
 |_::_,_::_,[],_,_,h,_,_=>by simp[DataW.TrodAll] at h
theorem zQe{f:Func}{s:ChangeSpec}{apart fresh handsOn:Bool}{W W':World}{args:Array Value}{ds gs:List (DataW H)}{before:List MemPlace}{tb:TypeId}{T:TypeId→Prop}[TabW W](K:Kids P T)
  (hz:∀{t e:TypeId},T t→P.underlying t=some (.slice e)→0<P.cellsOf e) (hts:∀t∈f.params.toList,T t)
  (hr:f.resultTypes= #[tb]) (htb:P.underlying tb=some .bool) (hv:s.vars=[]) (hfn:s.fn H (ds++gs)={results:=[.lit (.bool true)],args:=ds})
  (hW:DataW.Whole enc P f.params.toList s.vars apart W args.toList ds gs before) {m':Mem} {own:List Piece} (hle:Mem.le (snap W) m') (st:St m' own W'):
  s.post enc P f apart fresh handsOn false W args (.bool true) W':=by
 obtain⟨h1,h2,h3⟩:=zLc hle st
 have hW':=hW
 obtain⟨p,q,hA,hV,rfl,hfz,hnd⟩:=hW
 have hlt:∀x∈p++q,x.block<W.heap.size:=fun x hx=>hW'.lt x hx
 rw[hv] at hV
 have hq:q=[]:=by
  cases gs with
  |nil=>exact hV
  |cons g r=>simp[DataW.TrodVars] at hV
 subst hq
 refine⟨ds,gs,_,[],p,[],hW',?_,?_,?_,zTk h1 h2 h3 _,fun e=>by cases e⟩
 ·rw[hfn,hr]
  exact⟨[],[],⟨1,by simp[DataW.trod,Value.cells,htb]⟩,rfl,rfl⟩
 ·rw[hfn]
  exact qXy K hz h3 hts hA (fun x hx=>hlt x (kS _ hx)) (fun x hx=>by simpa using hlt x (kS _ hx))
 ·rw[hfn,hv];rfl
def zQs{α:Type}(P:Program)(W:World)[TabW W](t:TypeId)(c:Codec α)(good:α→Prop):Prop:=
 P.cellsOf t=c.sz∧∀(H:Type) (enc:TypeId×Value→H) (n:Nat) (cs:List Value) (x:DataW H×List MemPlace),DataW.trod enc P W 0 (fun _=>true) true n t cs=some x→
  (x.1.weights P t).all (· ≤reachBytes)=true→∃a,c.rep (snap W) a cs∧good a
variable {W:World} [TabW W]
theorem zNg{t:TypeId}{k:IntKind}(ht:P.underlying t=some (.int k))(hc:P.cellsOf t=1):zQs P W t (cInt k) (fun x=>(Lit.int k x).wf=true):=by
 refine⟨hc,fun H enc n cs x h _=> ?_⟩
 obtain⟨i,rfl,_,hw⟩:=DataW.trod_int ht h
 exact⟨i,rfl,hw⟩
theorem qTd{H:Type}{e:TypeId}:∀{ds:List (DataW H)},(DataW.weightsAll P e ds).all (· ≤reachBytes)=true→∀d∈ds,(d.weights P e).all (· ≤reachBytes)=true
 |[],_,_,hd=>by cases hd
 |d::r,h,x,hx=>by
  simp only[DataW.weightsAll,List.all_append,jN] at h
  rcases jM.1 hx with rfl|hx
  ·exact h.1
  ·exact qTd h.2 x hx
theorem zSy{a:Addr}{cs:List Value}{k n:Nat}(h:W.cells? 0 (a.add k) n=some cs)(ha:a.spot=none):MRow (snap W) a.block (a.off+k) cs:=by
 obtain⟨_,hl,hc⟩:=World.cells?_some h
 intro j v hv
 have hj:j<n:=by rw[←hl];exact(List.getElem?_eq_some_iff.1 hv).1
 have:=hc j hj
 rw[hv,Go.Addr.add_add,qRd ha] at this
 simpa[snap,gQ] using this
theorem zOk{α:Type}{Q:Nat→α→List Value→Prop}:∀{n:Nat},(∀i,i<n→∃y cs,Q i y cs)→∃l:List α,l.length=n∧∀i x,l[i]? =some x→∃cs,Q i x cs
 |0,_=>⟨[],rfl,fun i x h=>by simp at h⟩
 |n+1,h=>by
  obtain⟨l,h1,h2⟩:=zOk (n:=n) (fun i hi=>h i (by omega))
  obtain⟨y,cs,hy⟩:=h n (by omega)
  refine⟨l++[y],by simp[h1],fun i x hx=> ?_⟩
  rw[List.getElem?_append] at hx
  split at hx
  ·exact h2 i x hx
  ·rename_i hi
   have:i=n:=by
    have:=(List.getElem?_eq_some_iff.1 hx).1
    simp at this;omega
   subst this
   simp[h1] at hx
   subst hx
   exact⟨cs,hy⟩
theorem zJb{α:Type}{c:Codec α}{good:α→Prop}{t e:TypeId}{by_:Nat}(ht:P.underlying t=some (.slice e))(hc:P.cellsOf t=1)(hb:P.bytesOf e=by_)(ho:zQs P W e c good):
  zQs P W t (cSl c) (fun l=>l.length*by_≤reachBytes∧∀x∈l,good x):=by
 refine⟨hc,fun H enc n cs x h hw=> ?_⟩
 rcases DataW.trod_slice ht h with ⟨rfl,rfl⟩|⟨a,len,cap,elems,rest,n',rfl,rfl,rfl,_,hl,hm,hlen,hel,_,_⟩
 ·exact⟨[],⟨none,0,rfl,RepS.nil _ _⟩,by simp,by simp⟩
 ·simp only[DataW.weights,ht,List.all_cons,List.all_append,jN,jB] at hw
  obtain⟨hw1,hw2,_⟩:=hw
  have key:∀i,i<len→∃y cs',W.cells? 0 (a.add (i*P.cellsOf e)) (P.cellsOf e)=some cs'∧c.rep (snap W) y cs'∧good y:=by
   intro i hi
   have h1:=hel i hi
   obtain⟨el,hel'⟩:∃el,elems[i]? =some el:=⟨elems[i]'(by omega),by simp⟩
   rw[hel'] at h1
   obtain⟨cs',h2,h3⟩:=jV.1 h1
   obtain⟨y,hy,hg⟩:=ho.2 H enc n' cs' el h3 (qTd hw2 el.1 (gJ (List.mem_of_getElem? hel')))
   exact⟨y,cs',h2,hy,hg⟩
  obtain⟨l,hl1,hl2⟩:=zOk key
  subst hl1
  refine⟨l,⟨some a,cap,rfl,hl,hm,?_,fun i x hx=> ?_⟩,⟨?_,fun x hx=> ?_⟩⟩
  ·cases l with
   |nil=>exact .inr rfl
   |cons y l=>
    obtain⟨cs',h2,_⟩:=hl2 0 y rfl
    obtain⟨_,hle,hcell⟩:=World.cells?_some h2
    have hp:=ho.1▸c.pos
    have h0:=hcell 0 hp
    have hlt:0<cs'.length:=by omega
    rw[List.getElem?_eq_getElem hlt] at h0
    simp only[Nat.zero_mul,Addr.add,jI] at h0
    exact .inl (World.cell?_spot h0)
  ·obtain⟨cs',h2,h3,_⟩:=hl2 i x hx
   have hsp:a.spot=none:=by
    cases l with
    |nil=>simp at hx
    |cons y l=>
     obtain⟨cs',h2,_⟩:=hl2 0 y rfl
     obtain⟨_,hle,hcell⟩:=World.cells?_some h2
     have hp:=ho.1▸c.pos
     have h0:=hcell 0 hp
     have hlt:0<cs'.length:=by omega
     rw[List.getElem?_eq_getElem hlt] at h0
     simp only[Nat.zero_mul,Addr.add,jI] at h0
     exact World.cell?_spot h0
   exact⟨cs',h3,ho.1▸zSy h2 hsp⟩
  ·rw[hb] at hw1
   simp only[gF] at hw1
   rw[hlen] at hw1
   exact fL (kH _ (Nat.le_add_right _ _)) hw1
  ·obtain⟨i,hi⟩:=fO.1 hx
   obtain⟨cs',_,_,h4⟩:=hl2 i x hi
   exact h4
variable {base:Nat} {t:TypeId} {v:Value} {d:DataW H} {ps:List MemPlace}
theorem zOd{α:Type}{c:Codec α}{good:List α→Prop}{e:TypeId}(ht:P.underlying t=some (.slice e))(ho:zQs P W t (cSl c) good)(hval:Value.okWide P W .any base t v)(h:DataW.Trod enc P W 0 (fun _=>true) true t v d ps)
  (hw:(d.weights P t).all (· ≤reachBytes)=true):∃(l:List α) (a:Option Addr) (cap:Nat),v= .slice a l.length cap∧RepS c (snap W) a cap l∧good l:=by
 obtain⟨a,len,cap,rfl⟩:=okWide_slice ht hval
 obtain⟨n,h⟩:=h
 obtain⟨l,⟨a',cap',he,hr⟩,hg⟩:=ho.2 H enc n _ _ h hw
 simp only[Value.cells,g9,Value.slice.injEq,and_true] at he
 obtain⟨rfl,rfl,rfl⟩:=he
 exact⟨l,_,_,rfl,hr,hg⟩
end
def zPq(P:Program):Bool:=(List.range P.types.size).all fun t=>match P.underlying t with
 |some (.slice e)=>Nat.blt 0 (P.cellsOf e)
 |_=>true
theorem zPi{P:Program}(h:zPq P=true){t e:TypeId}(ht:t<P.types.size)(he:P.underlying t=some (.slice e)):0<P.cellsOf e:=by
 have:=jT.1 h t (fX.2 ht)
 rw[he] at this
 simp only at this
 exact gD this
end
section
theorem wi64{x:Int}(h1: -9223372036854775808≤x)(h2:x≤9223372036854775807):IntKind.wrap .i64 x=x:=by simp[IntKind.wrap,IntKind.signed,IntKind.bits];omega
theorem wu64{x:Int}(h1:0≤x)(h2:x≤18446744073709551615):IntKind.wrap .u64 x=x:=by simp[IntKind.wrap,IntKind.signed,IntKind.bits];omega
theorem wu8{x:Int}(h1:0≤x)(h2:x≤255):IntKind.wrap .u8 x=x:=by simp[IntKind.wrap,IntKind.signed,IntKind.bits];omega
theorem zRd(x:Int):IntKind.wrap .u8 x=x%256:=by simp[IntKind.wrap,IntKind.signed,IntKind.bits]
theorem zDt{α:Type}{l:List α}{i:Int}(h0:0≤i)(h:i.toNat<l.length):idx l i=some l[i.toNat]:=by simp[idx,h0,h]
theorem qCg{α:Type}{l:List α}{i:Nat}(h:i<l.length):idx l (i:Int)=some l[i]:=by simp[idx,h]
theorem zDs{s:ByteArray}{i:Nat}(h:i<s.size):idxB s (i:Int)=some s[i]:=by simp[idxB,h]
theorem qCr{α:Type}{b:Nat}{l k:List α}(h:(l.length+k.length)*b≤140737488355328)(hb:0<b):qEb b l k=some (l++k):=by
 have:l.length+k.length≤maxLen:=by
  have:(l.length+k.length)*1≤(l.length+k.length)*b:=Nat.mul_le_mul_left _ hb
  simp only[maxLen];omega
 simp[qEb,h,this]
theorem qTl{α:Type}{l:List α}{lo hi:Int}(h1:0≤lo)(h2:lo≤hi)(h3:hi≤l.length):subS l lo hi=some ((l.take hi.toNat).drop lo.toNat):=by simp[subS,h1,h2,h3]
theorem qTn{l:ByteArray}{lo hi:Int}(h1:0≤lo)(h2:lo≤hi)(h3:hi≤l.size):subB l lo hi=some (l.extract lo.toNat hi.toNat):=by simp[subB,h1,h2,h3]
theorem zDd{σ β:Type}{f:σ→Option (σ⊕β)}(I:σ→Prop)(μ:σ→Nat)(R:β→Prop)
  (h:∀s,I s→(∃b,f s=some (.inr b)∧R b)∨∃s',f s=some (.inl s')∧I s'∧μ s'<μ s):∀(N:Nat) (s:σ),I s→μ s<N→∃b,qAs f N s=some b∧R b
 |0,_,_,hn=>absurd hn (kV _)
 |N+1,s,hs,hn=>by
  rcases h s hs with ⟨b,h1,h2⟩|⟨s',h1,h2,h3⟩
  ·exact⟨b,by simp[qAs,h1],h2⟩
  ·obtain⟨b,h4,h5⟩:=zDd I μ R h N s' h2 (by omega)
   exact⟨b,by simp[qAs,h1,h4],h5⟩
end
end Go.Dc
section
namespace Go.Dc
def ab(a:Option Addr):Nat:=match a with|some p=>p.block|none=>0
def opc(a:Option Addr)(cs:Array Value)(e:TypeId):Piece:=match a with
 |none=> .room none 0 0 0 0
 |some p=> .blk p.block (.cells cs e (0,0))
def qBn{α:Type}(f:α→List Value)(l:List α)(T:List Value):Array Value:=(l.flatMap f++T).toArray
def OAS(a:Option Addr)(n cap k:Nat)(T:List Value):Prop:=
 n≤cap∧cap≤maxLen∧match a with
  |none=>cap=0
  |some p=>p=⟨p.block,0,none⟩∧n*k+T.length=cap*k
theorem OAS.cast{α:Type}{a:Option Addr}{nn cap k:Nat}{T:List Value}{l:List α}(h:OAS a nn cap k T)(hn:List.length l=nn):OAS a (List.length l) cap k T:=by rw[hn];exact h
theorem OAS.nil(k:Nat):OAS none 0 0 k []:=⟨jU _,k0 _,rfl⟩
theorem qIq{α:Type}{f:α→List Value}{k:Nat}(hf:∀x,(f x).length=k):∀l:List α,(l.flatMap f).length=l.length*k
 |[]=>by simp
 |x::l=>by simp[kP,hf,qIq hf l,kI,dL]
theorem qPg{α:Type}{f:α→List Value}{k:Nat}(hf:∀x,(f x).length=k):∀(l:List α) (i:Nat) (z:α) (j:Nat),l[i]? =some z→j<k→(l.flatMap f)[i*k+j]? =(f z)[j]?
 |[],i,z,j,h,_=>by simp at h
 |x::l,0,z,j,h,hj=>by
  simp at h;subst h
  simp[kP,List.getElem?_append,hf,hj]
 |x::l,i+1,z,j,h,hj=>by
  have:=qPg hf l i z j (by simpa using h) hj
  rw[kP,List.getElem?_append_right (by rw[hf,kI];omega),hf]
  have e:(i+1)*k+j-k=i*k+j:=by rw[kI];omega
  rw[e];exact this
theorem zJt{α:Type}{f:α→List Value}{k:Nat}(hf:∀x,(f x).length=k):∀(l:List α) (i:Nat) (z u:α),l[i]? =some z→
  (l.set i u).flatMap f=(l.flatMap f).take (i*k)++f u++(l.flatMap f).drop (i*k+k)
 |[],i,z,u,h=>by simp at h
 |x::l,0,z,u,h=>by
  rw[List.set_cons_zero,kP,kP,Nat.zero_mul,kK,List.take_zero,kF]
  rw[fZ,jQ (by rw[hf];exact jU _),hf]
  simp
 |x::l,i+1,z,u,h=>by
  have:=zJt hf l i z u (by simpa using h)
  simp only[List.set_cons_succ,kP,this]
  have e1:(i+1)*k=(f x).length+i*k:=by rw[kI,hf];omega
  have e2:(i+1)*k+k=(f x).length+(i*k+k):=by omega
  rw[e2,e1,List.take_length_add_append,List.drop_length_add_append]
  simp[jO]
section
variable {P:Program} {n:Fr} {ops:Array Oper} {Q:Exit→Act→World→Prop} {i d:Nat} {L:Env} {w:World} {m:Mem} {own:List Piece} {N:Env→World→Prop}
variable {α:Type} {f:α→List Value}
theorem OAS.some{a:Option Addr}{nn cap k:Nat}{T:List Value}(h:OAS a nn cap k T){l:List α}(hn:List.length l=nn){j:Nat}(hj:j<l.length):a=Option.some ⟨ab a,0,none⟩:=by
 obtain⟨h1,h2,h3⟩:=h
 cases a with
 |none=>simp only at h3;omega
 |some p=>simp only at h3;exact congrArg Option.some h3.1
theorem qYd{a:Option Addr}{b:Nat}{cs:Array Value}{e:TypeId}(h:a=some ⟨b,0,none⟩):opc a cs e= .blk b (.cells cs e (0,0)):=by subst h;rfl
theorem qWi{l:List α}{ix:Int}{z:α}(h:idx l ix=some z):0≤ix∧l[ix.toNat]? =some z∧ix.toNat<l.length:=by
 unfold idx at h
 split at h
 ·rename_i h0;exact⟨h0,h,(List.getElem?_eq_some_iff.1 h).1⟩
 ·cases h
theorem qVp{t e:TypeId}{x y:Operand}{a:Option Addr}{nn cc k:Nat}{T:List Value}{l:List α}{kd:IntKind}{ix:Int}{z:α}(ho:opAt ops L i=some (some d,.indexAddr t x y))(hd:Nat.blt d n=true)
  (hx:evL L x=some (.slice a nn cc)) (hy:evL L y=some (.int kd ix)) (hi:qJf P t=some (e,k)) (hs:OAS a nn cc k T) (hn:List.length l=nn) (hz:idx l ix=some z)
  (h:N ((d,.pointer (some ⟨ab a,ix.toNat*k,none⟩))::L) w):One P n ops Q i N L w:=by
 obtain⟨h1,inf,h2,h3⟩:=qJq hi
 obtain⟨h0,_,hlt⟩:=qWi hz
 have ha:=hs.some hn hlt
 refine qHb ho hd (fun q hq=> ?_) h
 have hlt':ix<(nn:Int):=by omega
 rw[ha] at hx
 simp[execOp,hq,Instr.indexAt,qCc hx,qCc hy,asIntOf,run_underlying h1,h0,hlt',sizeOf,typeInfo,h2,h3,qOj]
theorem qXl{t e:TypeId}{x:Operand}{a:Option Addr}{nn cc k:Nat}{l:List α}{T:List Value}{ix:Int}{z:α}{o:Nat}{v:Value}(hf:∀x,(f x).length=k)(po:Nat)(hpo:po=ix.toNat*k+o)(ho:opAt ops L i=some (some d,.load t x))(hd:Nat.blt d n=true)
  (hx:evL L x=some (.pointer (some ⟨ab a,po,none⟩))) (hp:Piece.holds m w (opc a (qBn f l T) e)) (hs:OAS a nn cc k T) (hn:List.length l=nn) (hz:idx l ix=some z) (hv:qUt P t ((f z).drop o)=some v)
  (h:N ((d,v)::L) w):One P n ops Q i N L w:=by
 obtain⟨h0,hz',hlt⟩:=qWi hz
 have ha:=hs.some hn hlt
 subst hpo
 refine qHb ho hd (fun q hq=> ?_) h
 rw[qYd ha] at hp
 have hb:=hp.1
 have hl:=qPq (P:=P) (w:=w) (t:=t) (b:=ab a) (o:=ix.toNat*k+o) (cs:=(f z).drop o) (v:=v) (fun j u hu=>by
  rw[List.getElem?_drop] at hu
  have hjk:o+j<k:=by rw[←hf z];exact(List.getElem?_eq_some_iff.1 hu).1
  have hg:=qPg hf l ix.toNat z (o+j) hz' hjk
  rw[hu] at hg
  have hlt2:=(List.getElem?_eq_some_iff.1 hg).1
  simp only[World.cell?,hb,qBn,List.getElem?_toArray]
  have e:ix.toNat*k+o+j=ix.toNat*k+(o+j):=by omega
  rw[e,List.getElem?_append_left hlt2]
  simpa using hg) hv
 simp[execOp,hq,Instr.loadAt,qCc hx,Instr.sureAddr,hl]
theorem qRr{t e:TypeId}{x y:Operand}{a:Option Addr}{nn cc k:Nat}{l:List α}{T:List Value}{ix:Int}{z u:α}{o:Nat}{v:Value}(hf:∀x,(f x).length=k)(po:Nat)(hpo:po=ix.toNat*k+o)(ho:opAt ops L i=some (none,.store t x y))
  (hx:evL L x=some (.pointer (some ⟨ab a,po,none⟩))) (hy:evL L y=some v) (st:St m (opc a (qBn f l T) e::own) w) (hs:OAS a nn cc k T) (hn:List.length l=nn) (hz:idx l ix=some z) (hok:qWn P t v o k=true)
  (hu:f u=(f z).take o++v.cells.toList++(f z).drop (o+v.cells.toList.length))
  (h:∀w',St m (opc a (qBn f (l.set ix.toNat u) T) e::own) w'→N L w'):One P n ops Q i N L w:=by
 obtain⟨h0,hz',hlt⟩:=qWi hz
 have ha:=hs.some hn hlt
 subst hpo
 rw[qYd ha] at st
 have hfl:=qIq hf l
 unfold qWn at hok
 cases hi:P.info? t with
 |none=>simp[hi] at hok
 |some inf=>
  simp only[hi,jN] at hok
  obtain⟨⟨h1,h2⟩,h3⟩:=hok
  have h1':=fG h1
  have h2':=gD h2
  have hlk:ix.toNat*k+k≤l.length*k:=by
   have:=kH k (show ix.toNat+1≤l.length from hlt)
   rw[kI,hU] at this;exact this
  have hvl:v.cells.toList.length=v.cells.size:=by simp
  have hsz:ix.toNat*k+o+v.cells.toList.length≤(qBn f l T).size:=by
   simp only[qBn,jW,jF,hfl];omega
  have hrun:=run_storeCells_at P (ab a) (ix.toNat*k+o) e v.cells.toList 0 (qBn f l T) w st.head.1 (by simpa using hsz) (zCd h3)
  simp only[gX] at hrun
  have harr:((qBn f l T).toList.take (ix.toNat*k+o)++v.cells.toList++(qBn f l T).toList.drop (ix.toNat*k+o+v.cells.toList.length)).toArray=qBn f (l.set ix.toNat u) T:=by
   apply congrArg List.toArray
   simp only[qBn,hY]
   rw[zJt hf l ix.toNat z u hz',hu]
   have hA:(l.flatMap f).take (ix.toNat*k+o)=(l.flatMap f).take (ix.toNat*k)++(f z).take o:=by
    apply fU
    intro j
    rw[List.getElem?_take,List.getElem?_append]
    simp only[kN,hfl]
    split
    ·rename_i hj
     split
     ·rename_i hj2;rw[List.getElem?_take,if_pos (by omega)]
     ·rename_i hj2
      rw[List.getElem?_take,if_pos (by omega)]
      have hg:=qPg hf l ix.toNat z (j-ix.toNat*k) hz' (by omega)
      have e1:ix.toNat*k+(j-ix.toNat*k)=j:=by omega
      rw[e1] at hg
      rw[hg];congr 1;omega
    ·rename_i hj
     rw[if_neg (by omega),List.getElem?_take,if_neg (by omega)]
   have hB:(l.flatMap f).drop (ix.toNat*k+o+v.cells.toList.length)=(f z).drop (o+v.cells.toList.length)++(l.flatMap f).drop (ix.toNat*k+k):=by
    apply fU
    intro j
    rw[List.getElem?_drop,List.getElem?_append]
    simp only[gG,hf]
    split
    ·rename_i hj
     rw[List.getElem?_drop]
     have hg:=qPg hf l ix.toNat z (o+v.cells.toList.length+j) hz' (by omega)
     rw[←hg];congr 1;omega
    ·rename_i hj
     rw[List.getElem?_drop];congr 1;omega
   rw[gA (by rw[hfl];omega),gI (by rw[hfl];omega),hA,hB]
   simp only[jO]
  rw[harr] at hrun
  have st':=st.set (w':=w.setRow (ab a) (qBn f (l.set ix.toNat u) T)) (o':= .cells (qBn f (l.set ix.toNat u) T) e (0,0)) ⟨⟨rfl,rfl⟩,rfl,dle⟩ (setRow_heap w (ab a) (qBn f l T) _ e _ st.head.1) (fun j _ hj=>setRow_other w (ab a) j _ hj)
  rw[←qYd (cs:=qBn f (l.set ix.toNat u) T) (e:=e) ha] at st'
  refine qRw ho (fun q hq=> ?_) (h (w.setRow (ab a) (qBn f (l.set ix.toNat u) T)) st')
  simp[execOp,hq,Instr.storeAt,qCc hx,qCc hy,Instr.sureAddr,storeVar,sizeOf,typeInfo,hi,h1',hrun]
theorem St.freezeM{c:Codec α}{a:Option Addr}{e nn cc:Nat}{l:List α}{T:List Value}(st:St m (opc a (qBn f l T) e::own) w)(hs:OAS a nn cc c.sz T)(hn:List.length l=nn)(hf:∀x,(f x).length=c.sz)(hc:∀m x,c.rep m x (f x)):
  ∃m',m.le m'∧St m' (.room a (List.length l) cc e c.sz::own) w∧RepS c m' a cc l:=by
 obtain⟨h1,h2,h3⟩:=hs
 cases a with
 |none=>
  simp only at h3
  have hl:l=[]:=jX (by omega)
  subst hl;subst h3
  exact⟨m,m.le_refl,st.tail.nilroom e c.sz,RepS.nil c m⟩
 |some p=>
  simp only at h3
  obtain⟨hp,hT⟩:=h3
  obtain⟨b,o,s⟩:=p
  simp only[Addr.mk.injEq,true_and] at hp
  obtain⟨rfl,rfl⟩:=hp
  have hfl:=qIq hf l
  have htk:(qBn f l T).toList.take (l.flatMap f).length=l.flatMap f:=by simp[qBn]
  have st0:St m (.blk b (.cells (qBn f l T) e (0,0))::own) w:=st
  obtain⟨m',k1,k2,k3,k4,k5,k6⟩:=St.know (b:=b) (cs:=l.flatMap f) st0.tail (st0.head_ne rfl) st0.head.1 htk (fun o v hv=>by rw[st0.head.2.1 o] at hv;cases hv)
  have hsize:(qBn f l T).size=cc*c.sz:=by simp[qBn,hfl,hn,hT]
  refine⟨m',k1,k2.cons ⟨rfl,rfl,by omega,h2,⟨_,st0.head.1,hsize⟩,fun o ho=>k4 o (by rw[hfl];exact ho),by rw[k5];exact st0.head.2.2⟩ ?_,?_⟩
  ·intro k hk;simp[Piece.block] at hk;subst hk;exact st0.head_ne rfl
  ·exact RepS.of_cells (cs:=l.flatMap f) (by omega) h2 (fun j x hx=>by
    have e2:((l.flatMap f).drop (j*c.sz)).take c.sz=f x:=by
     apply fU
     intro q
     rw[List.getElem?_take]
     split
     ·rename_i hq
      rw[List.getElem?_drop,qPg hf l j x q hx hq]
     ·rename_i hq;rw[List.getElem?_eq_none (by rw[hf];omega)]
    rw[e2];exact hc m' x) k3
end
end Go.Dc
namespace Go.Dc
section
variable {P:Program} {n:Fr} {ops:Array Oper} {Q:Exit→Act→World→Prop} {L:Env} {w:World} {m:Mem} {own:List Piece}
variable {ks:List (Nat×(World→Prop))} {k fuel:Nat} {S:World→Prop} {done:List Nat}
theorem WA_cat{t t2:TypeId}{x y:Operand}{a b r:ByteArray}(i d:Nat)(ho:opAt ops L i=some (some d,.binOp .add t x y t2))(hd:Nat.blt d n=true)
  (hs:qNg ops ks k i done=true) (hmem:(k,S)∈ks) (hq:QP Q) (hx:evL L x=some (.string a)) (hy:evL L y=some (.string b)) (hc:catB a b=some r)
  (h:WA P n ops Q ks fuel (done++[i]) ((d,.string r)::L) w):WA P n ops Q ks (fuel+1) done L w:=by
 unfold catB at hc
 split at hc
 ·rename_i hb
  simp only[jK] at hc;subst hc
  refine qSe i d _ _ ho hd hs hmem hq (fun q hq w' _=> ?_) h
  have hmax:IntKind.i64.max=9223372036854775807:=by decide
  have hb':¬(9223372036854775807<(a.size:Int)+(b.size:Int)):=by simp only[maxLen] at hb;omega
  simp[execOp,hq,qCc hx,qCc hy,eqGuard,binOp,Op.stringOp,hmax,hb']
 ·cases hc
end
end Go.Dc
namespace Go.Dc
section
variable {P:Program} {n:Fr} {ops:Array Oper} {Q:Exit→Act→World→Prop} {L:Env} {w:World} {m:Mem} {own:List Piece}
variable {ks:List (Nat×(World→Prop))} {fuel:Nat} {done:List Nat} {α:Type} {f:α→List Value}
theorem qUd(is:List Nat)(hr:Region.ready .any ops (marks done ops.size)=is)(hne:is≠[])
  (h:∀i∈is,One P n ops Q i (fun L' w'=>TS ks (marks (done++[i]) ops.size) w'∧WA P n ops Q ks fuel (done++[i]) L' w') L w):WA P n ops Q ks (fuel+1) done L w:=by
 intro _ a ha
 refine⟨fun h0=>(by rw[hr] at h0;exact absurd h0 hne),fun j hj=> ?_⟩
 rw[hr] at hj
 refine qYe (fun a' w' h'=> ?_) (h j hj a ha)
 obtain⟨L',h1,h2,h3⟩:=h'
 have:=h3 h2 a' h1
 rw[qPm] at h2
 rw[qPm] at this
 exact⟨h2,this⟩
theorem qUg{p:Nat→Prop}{a b:Nat}(ha:p a)(hb:p b):∀i∈[a,b],p i:=by
 intro i hi;simp only[jM,fD,or_false] at hi
 rcases hi with rfl|rfl<;>assumption
theorem qJt{q:Nat}{S:World→Prop}{t e:TypeId}{x y:Operand}{a:Option Addr}{nn cc k:Nat}{T:List Value}{l:List α}{kd:IntKind}{ix:Int}{z:α}(i d:Nat)(ho:opAt ops L i=some (some d,.indexAddr t x y))(hd:Nat.blt d n=true)
  (hsT:qNg ops ks q i done=true) (hmem:(q,S)∈ks) (hq:QP Q)
  (hx:evL L x=some (.slice a nn cc)) (hy:evL L y=some (.int kd ix)) (hi:qJf P t=some (e,k)) (hs:OAS a nn cc k T) (hn:List.length l=nn) (hz:idx l ix=some z)
  (h:WA P n ops Q ks fuel (done++[i]) ((d,.pointer (some ⟨ab a,ix.toNat*k,none⟩))::L) w):WA P n ops Q ks (fuel+1) done L w:=by
 obtain⟨h1,inf,h2,h3⟩:=qJq hi
 obtain⟨h0,_,hlt⟩:=qWi hz
 have ha:=hs.some hn hlt
 refine qSe i d _ _ ho hd hsT hmem hq (fun q hq w' _=> ?_) h
 have hlt':ix<(nn:Int):=by omega
 rw[ha] at hx
 simp[execOp,hq,Instr.indexAt,qCc hx,qCc hy,asIntOf,run_underlying h1,h0,hlt',sizeOf,typeInfo,h2,h3,qOj]
theorem qKt{q:Nat}{S:World→Prop}{t e:TypeId}{x:Operand}{a:Option Addr}{nn cc k:Nat}{l:List α}{T:List Value}{ix:Int}{z:α}{o:Nat}{v:Value}(i d:Nat)(hf:∀x,(f x).length=k)(po:Nat)(hpo:po=ix.toNat*k+o)(ho:opAt ops L i=some (some d,.load t x))(hd:Nat.blt d n=true)
  (hsT:qNg ops ks q i done=true) (hmem:(q,S)∈ks) (hq:QP Q) (hI:∀w,S w→Piece.holds m w (opc a (qBn f l T) e))
  (hx:evL L x=some (.pointer (some ⟨ab a,po,none⟩))) (hs:OAS a nn cc k T) (hn:List.length l=nn) (hz:idx l ix=some z) (hv:qUt P t ((f z).drop o)=some v)
  (h:WA P n ops Q ks fuel (done++[i]) ((d,v)::L) w):WA P n ops Q ks (fuel+1) done L w:=by
 obtain⟨h0,hz',hlt⟩:=qWi hz
 have ha:=hs.some hn hlt
 subst hpo
 refine qSe i d _ _ ho hd hsT hmem hq (fun q hq w' hw'=> ?_) h
 have hp:=hI w' hw'
 rw[qYd ha] at hp
 have hb:=hp.1
 have hl:=qPq (P:=P) (w:=w') (t:=t) (b:=ab a) (o:=ix.toNat*k+o) (cs:=(f z).drop o) (v:=v) (fun j u hu=>by
  rw[List.getElem?_drop] at hu
  have hjk:o+j<k:=by rw[←hf z];exact(List.getElem?_eq_some_iff.1 hu).1
  have hg:=qPg hf l ix.toNat z (o+j) hz' hjk
  rw[hu] at hg
  have hlt2:=(List.getElem?_eq_some_iff.1 hg).1
  simp only[World.cell?,hb,qBn,List.getElem?_toArray]
  have e:ix.toNat*k+o+j=ix.toNat*k+(o+j):=by omega
  rw[e,List.getElem?_append_left hlt2]
  simpa using hg) hv
 simp[execOp,hq,Instr.loadAt,qCc hx,Instr.sureAddr,hl]
end
end Go.Dc
namespace Go.Dc
section
variable {P:Program} {n:Fr} {ops:Array Oper} {Q:Exit→Act→World→Prop} {i d:Nat} {L:Env} {w:World} {m:Mem} {own:List Piece} {N:Env→World→Prop}
variable {α:Type} {f:α→List Value}
def appM(by_:Nat)(k:List α):Option (List α):=if k.length*by_≤140737488355328∧k.length≤maxLen then some k else none
theorem zAp{c:Codec α}(hfr:∀m x cs,c.rep m x cs→cs=f x){k:List α}{cs:List Value}(hl:cs.length=k.length*c.sz)(hrep:∀i y,k[i]? =some y→c.rep m y ((cs.drop (i*c.sz)).take c.sz)):cs=k.flatMap f:=by
 induction k generalizing cs with
 |nil=>simp at hl;subst hl;rfl
 |cons x k ih=>
  have h0:=hfr _ _ _ (hrep 0 x rfl)
  simp only[Nat.zero_mul,kA] at h0
  have h1:=ih (cs:=cs.drop c.sz) (by simp only[gG,hl,jD,kI];omega) (fun i y hy=>by
   have:=hrep (i+1) y (by simpa using hy)
   rw[List.drop_drop]
   have e:c.sz+i*c.sz=(i+1)*c.sz:=by rw[kI];omega
   rw[e];exact this)
  rw[kP,←h0,←h1,fH]
theorem zKa{a:Option Addr}{e sz:Nat}(st:St m (.room a 0 0 e sz::own) w):St m (opc a (qBn f [] []) e::own) w:=by
 cases a with
 |none=>exact st.tail.nilroom 0 0
 |some p=>
  obtain⟨q1,q2,q3,q4,⟨cur,q5,q6⟩,q7,q8⟩:=st.head
  have hc:cur=qBn f [] []:=by
   have:cur.size=0:=by omega
   rw[Array.size_eq_zero_iff.1 this];rfl
  refine st.tail.cons ⟨by rw[q5,hc],⟨fun o=>q7 o (by omega),q8⟩⟩ ?_
  intro k hk
  have hk':some p.block=some k:=hk
  simp only[jK] at hk';subst hk'
  exact st.head_ne rfl
theorem zRk{t u e by_:Nat}{x y:Operand}{c:Codec α}{v:Value}{a:Option Addr}{k l:List α}(hfr:∀m x cs,c.rep m x cs→cs=f x)(hf:∀x,(f x).length=c.sz)
  (ho:opAt ops L i=some (some d,.call {callee:= .builtin .append,args:= #[x,y],argTypes:= #[t,u]})) (hd:Nat.blt d n=true)
  (hx:evL L x=some (.slice a 0 0)) (hy:evL L y=some v) (st:St m (.room a 0 0 e c.sz::own) w) (hi:qOr P t=some (e,c.sz,by_,c.sz)) (hu:zEr P u e)
  (hg:Gives P c m v k) (hs:appM by_ k=some l)
  (h:∀a' cap T w',OAS a' (List.length l) cap c.sz T→St m (opc a' (qBn f l T) e::own) w'→N ((d,.slice a' (List.length l) cap)::L) w'):One P n ops Q i N L w:=by
 obtain⟨ht,inf,z,hinf,hz,hisz,hby,hzs⟩:=qOi hi
 unfold appM at hs
 split at hs
 ·rename_i hk
  obtain⟨k1,k2⟩:=hk
  simp only[jK] at hs;subst hs
  obtain⟨cs,hsrcs,hrep⟩:=hg
  have hsrc:=hsrcs w st.inv
  have hl:cs.length=k.length*c.sz:=hsrc.2.2.1
  have hcs:cs=k.flatMap f:=zAp hfr hl hrep
  by_cases h0:k.length=0
  ·have hk0:=jX h0
   subst hk0
   have hcs0:cs=[]:=by simpa using hcs
   subst hcs0
   have st':=zKa (f:=f) st
   cases a with
   |none=>
    refine qQb (v:=undef) (w':=w) ho hd (fun o h3=> ?_)
    have hrun:=qPn w t u o.type e inf ht hu hinf (x:=v) (news:=[]) (by rw[hisz];exact hsrc)
    refine⟨_,_,?_,h none 0 [] w ⟨jU _,k0 _,rfl⟩ st'⟩
    simp only[execOp,h3,resolve,Sem.run_bind,Sem.run_pure,Result.andThen_ok,invoke,builtin]
    simp[qCc hx,qCc hy,hrun]
   |some p=>
    obtain⟨q1,q2,q3,q4,⟨cur,q5,q6⟩,q7,q8⟩:=st.head
    obtain⟨g,off,spot⟩:=p
    simp only at q1 q2 q5 q7 q8
    subst q1;subst q2
    refine qQb (v:=undef) (w':=w) ho hd (fun o h3=> ?_)
    have hrun:=qSa w t u o.type e inf ht hu hinf (x:=v) (n:=0) (news:=[]) (by rw[hisz];exact hsrc) g 0 0 cur q5 (by simp) (by simp)
    have hw:w.setRow g (cur.toList.take (0*inf.size)++[]++cur.toList.drop (0*inf.size+([]:List Value).length)).toArray=w:=by
     have:(cur.toList.take (0*inf.size)++[]++cur.toList.drop (0*inf.size+([]:List Value).length)).toArray=cur:=by simp
     rw[this,setRow_self w g cur e (0,0) q5]
    rw[hw] at hrun
    refine⟨_,_,?_,h (some ⟨g,0,none⟩) 0 [] w ⟨jU _,k0 _,rfl,by simp⟩ st'⟩
    simp only[execOp,h3,resolve,Sem.run_bind,Sem.run_pure,Result.andThen_ok,invoke,builtin]
    simp[qCc hx,qCc hy,hrun]
  ·have hlt:0<0+k.length:=by omega
   have hinv':∀w':World,Step w w'→w'.heap=w.heap→Inv m w':=fun w' hs hw=>st.inv.keep hs (fun b _ _=>by rw[hw])
   refine qQb (v:=undef) (w':=w) ho hd (fun o h3=> ?_)
   have hold:∀w':World,Step w w'→w'.heap=w.heap→(Builtin.firstCells inf.size 0 (.slice a 0 0)).run P w'= .ok ([]:List Value).toArray w':=fun w' _ _=>by
    cases a with
    |none=>simp[Builtin.firstCells]
    |some p=>exact run_firstCells_some w' inf.size 0 p 0 0 [] (by simp) (fun j v hv=>by simp at hv)
   have hrun:=qQl (ty:=o.type) w t u e inf z ht hu hinf hz (n:=k.length) (news:=cs) (by rw[hisz];exact hsrc) a 0 0 []
    hold (fun w' hs hw=>by rw[hisz];exact(hsrcs w' (hinv' w' hs hw)).2.1) hlt (by rw[hby,kK];exact k1) (by rw[kK];exact k2)
   generalize hgc:grownCap w (0+k.length) 0 e=gc at hrun
   have hge:0+k.length≤gc:=hgc▸grownCap_ge _ _ _ _
   have hgm:gc≤maxLen:=hgc▸grownCap_le_maxLen _ _ _ _ (by rw[kK];exact k2)
   have hac:(([]:List Value)++cs).toArray++Builtin.zeroCells z.cells (gc-(0+k.length))=qBn f k (Builtin.zeroCells z.cells (gc-(0+k.length))).toList:=by
    rw[hcs];apply Array.ext';simp[qBn]
   rw[hac] at hrun
   refine⟨_,_,?_,h (some ⟨w.heap.size,0,none⟩) gc _ _ ⟨by omega,hgm,rfl,?_⟩ (st.tail.alloc (w':=w.drew.alloc (.cells (qBn f k (Builtin.zeroCells z.cells (gc-(0+k.length))).toList) e)) ⟨⟨rfl,rfl⟩,rfl,dle⟩ rfl)⟩
   ·simp only[execOp,h3,resolve,Sem.run_bind,Sem.run_pure,Result.andThen_ok,invoke,builtin]
    simp[qCc hx,qCc hy,hrun]
   ·simp only[fB,size_zeroCells,hzs,←kI]
    congr 1;omega
 ·cases hs
end
end Go.Dc
namespace Go.Dc
theorem qPh{m m':Mem}{w:World}{a:Option Addr}{cs:Array Value}{e:TypeId}(h:Piece.holds m' w (opc a cs e))(hle:m.le m'):Piece.holds m w (opc a cs e):=by
 cases a with
 |none=>exact h
 |some p=>exact Piece.holds_anti (o:= .cells cs e (0,0)) h hle
end Go.Dc
namespace Go.Dc
section
variable {P:Program} {n:Fr} {ops:Array Oper} {Q:Exit→Act→World→Prop} {L:Env} {w:World}
theorem W_sr{id:Nat}{y:Code}(h:WO P n ops (Exit.then (fun a w=>y.wpIn (fen none) 0 P Q a w) Q) 0 L w):W none P n (.seq (.region id ops false) y) Q L w:=qAq (qAm h)
theorem WO_et{i:Nat}{ρ:Option Nat}{y:Code}(hi:ops.size=i)(h:W ρ P n y Q L w):WO P n ops (Exit.then (fun a w=>y.wpIn (fen ρ) 0 P Q a w) Q) i L w:=qAx hi (qAg h)
end
end Go.Dc
end
section
namespace Go.Dc
section
variable {P:Program} {n:Fr} {ops:Array Oper} {Q:Exit→Act→World→Prop} {i d:Nat} {L:Env} {w:World} {m:Mem} {own:List Piece} {N:Env→World→Prop}
def slA(a:Option Addr)(cap l k:Nat):Option Addr:=if cap=l then a else a.map fun p=>p.add (l*k)
theorem zJr{b o cap l k:Nat}(h:l<cap):slA (some ⟨b,o,none⟩) cap l k=some ⟨b,o+l*k,none⟩:=by
 unfold slA;rw[if_neg (by omega)];simp[qOj]
theorem zLq{t e k:Nat}{x:Operand}{lo hi:Option Operand}{a:Option Addr}{nn cap:Nat}{li hix:Int}(hx:evL L x=some (.slice a nn cap))(hI:qJf P t=some (e,k))
  (hlo:(lo=none∧li=0)∨∃y kd,lo=some y∧evL L y=some (.int kd li)) (hhi:(hi=none∧hix=nn)∨∃y kd,hi=some y∧evL L y=some (.int kd hix)) (h0:0≤li) (h1:li≤hix) (h2:hix≤cap) (q:Oper) (hq:q.op= .slice t x lo hi none) (w:World):
  (execOp (evD L) q).run P w= .ok (.value (.slice (slA a cap li.toNat k) (hix.toNat-li.toNat) (cap-li.toNat))) w:=by
 obtain⟨g1,inf,g2,g3⟩:=qJq hI
 have hp:0≤hix:=by omega
 have hll:li≤max hix 0:=by omega
 rcases hlo with ⟨rfl,rfl⟩|⟨y,kd,rfl,hy⟩<;>rcases hhi with ⟨rfl,rfl⟩|⟨y',kd',rfl,hy'⟩
 ·simp[execOp,hq,Instr.sliceAt,Instr.slice,Instr.sliceBounds,run_underlying g1,qCc hx,sizeOf,typeInfo,g2,g3,slA]
 ·simp[execOp,hq,Instr.sliceAt,Instr.slice,Instr.sliceBounds,Instr.sliceBound,asIntOf,run_underlying g1,qCc hx,qCc hy',hp,h2,sizeOf,typeInfo,g2,g3,slA]
 ·have:li≤(nn:Int):=h1
  simp[execOp,hq,Instr.sliceAt,Instr.slice,Instr.sliceBounds,Instr.sliceBound,asIntOf,run_underlying g1,qCc hx,qCc hy,h0,this,sizeOf,typeInfo,g2,g3,slA]
 ·simp[execOp,hq,Instr.sliceAt,Instr.slice,Instr.sliceBounds,Instr.sliceBound,asIntOf,run_underlying g1,qCc hx,qCc hy,qCc hy',hp,h2,h0,hll,sizeOf,typeInfo,g2,g3,slA]
theorem zCo{t e k:Nat}{x:Operand}{lo hi:Option Operand}{a:Option Addr}{nn cap:Nat}{li hix:Int}(v:Value)(ho:opAt ops L i=some (some d,.slice t x lo hi none))(hd:Nat.blt d n=true)(hx:evL L x=some (.slice a nn cap))(hI:qJf P t=some (e,k))
  (hlo:(lo=none∧li=0)∨∃y kd,lo=some y∧evL L y=some (.int kd li)) (hhi:(hi=none∧hix=nn)∨∃y kd,hi=some y∧evL L y=some (.int kd hix)) (h0:0≤li) (h1:li≤hix) (h2:hix≤cap) (hv: .slice (slA a cap li.toNat k) (hix.toNat-li.toNat) (cap-li.toNat)=v)
  (h:N ((d,v)::L) w):One P n ops Q i N L w:=by
 subst hv
 exact qHb ho hd (fun q hq=>zLq hx hI hlo hhi h0 h1 h2 q hq w) h
theorem zOg{b o k nn cap sl:Nat}{C:Array Value}{e:TypeId}{S:List Value}(hb:w.heap[b]? =some (.cells C e (0,0)))(hS:(C.toList.drop o).take (nn*k)=S)(hl:S.length=nn*k):
  (Builtin.firstCells k nn (.slice (some ⟨b,o,none⟩) sl cap)).run P w= .ok S.toArray w:=by
 refine run_firstCells_some w k nn ⟨b,o,none⟩ sl cap S hl fun j v hv=> ?_
 rw[←hS,List.getElem?_take] at hv
 split at hv
 ·rw[List.getElem?_drop] at hv
  rw[qOj]
  simp only[World.cell?,hb]
  simpa using hv
 ·cases hv
theorem zQw{i:Nat}{op:Op}{L:Env}{w w':World}{v:Value}(ho:opAt ops L i=some (none,op))
  (hrun:∀o:Oper,o.op=op→(execOp (evD L) o).run P w= .ok (.value v) w')
  (h:N L w'):One P n ops Q i N L w:=by
 obtain⟨o,h1,h2,h3,h4,h5⟩:=qTf ho
 intro a ha
 unfold opW
 simp only[h1,ha.wanted h4,jI]
 rw[ha.exec h5,hrun o h3,Oper.uponIn_value,h2]
 exact⟨_,ha,h⟩
theorem zKu{t e k zs:Nat}{x:Operand}{b o dl dc:Nat}{C:Array Value}{e0:TypeId}{z:Value}(C':List Value)(ho:opAt ops L i=some (none,.call {callee:= .builtin .clear,args:= #[x],argTypes:= #[t]}))
  (hx:evL L x=some (.slice (some ⟨b,o,none⟩) (dl+1) dc)) (hI:qJf P t=some (e,k)) (hz:(P.info? e).bind (·.zero)=some z) (hzs:z.cells.size=zs) (hone:∀v∈z.cells.toList,v.oneCell'=true) (st:St m (.blk b (.cells C e0 (0,0))::own) w)
  (hfit:o+(dl+1)*zs≤C.size) (hC:C.toList.take o++(Builtin.zeroCells z.cells (dl+1)).toList++C.toList.drop (o+(Builtin.zeroCells z.cells (dl+1)).toList.length)=C')
  (h:∀w',St m (.blk b (.cells C'.toArray e0 (0,0))::own) w'→N L w'):One P n ops Q i N L w:=by
 subst hC
 obtain⟨g1,inf,g2,g3⟩:=qJq hI
 have hlen:(Builtin.zeroCells z.cells (dl+1)).toList.length=(dl+1)*zs:=by rw[fB,size_zeroCells,hzs]
 have hone':∀v∈(Builtin.zeroCells z.cells (dl+1)).toList,v.oneCell'=true:=by
  intro v hv
  simp only[Builtin.zeroCells,Array.toList_map,kU,Array.toList_range] at hv
  obtain⟨j,hj,rfl⟩:=hv
  have hj':=fX.1 hj
  by_cases h0:z.cells.size=0
  ·simp[h0] at hj'
  ·have:j%z.cells.size<z.cells.size:=Nat.mod_lt _ (by omega)
   rw[getElem!_pos z.cells _ this]
   exact hone _ (by simp)
 have hrun:=run_storeCells_at P b o e0 _ 0 C w st.head.1 (by simpa[hlen] using hfit) hone'
 simp only[gX] at hrun
 have st':=st.set (w':=w.setRow b (C.toList.take o++(Builtin.zeroCells z.cells (dl+1)).toList++C.toList.drop (o+(Builtin.zeroCells z.cells (dl+1)).toList.length)).toArray) (o':= .cells (C.toList.take o++(Builtin.zeroCells z.cells (dl+1)).toList++C.toList.drop (o+(Builtin.zeroCells z.cells (dl+1)).toList.length)).toArray e0 (0,0)) ⟨⟨rfl,rfl⟩,rfl,dle⟩ (setRow_heap w b C _ e0 _ st.head.1) (fun j _ hj=>setRow_other w b j _ hj)
 rw[g2] at hz
 simp only[jA] at hz
 refine zQw (v:= .tuple #[]) ho (fun q h3=> ?_) (h _ st')
 simp only[execOp,h3,resolve,Sem.run_bind,Sem.run_pure,Result.andThen_ok,invoke,builtin]
 simp[qCc hx,Builtin.clear_,run_underlying g1,zeroValue,typeInfo,g2,hz,hrun]
end
end Go.Dc
namespace Go.Dc
end Go.Dc
end
namespace Go.Dc
section
variable {P:Program} {n:Fr} {ops:Array Oper} {Q:Exit→Act→World→Prop} {i d:Nat} {L:Env} {w:World} {m:Mem} {own:List Piece} {N:Env→World→Prop}
def zIr(P:Program)(t:TypeId):Option (TypeId×Nat×Nat):=
 match P.underlying t with
 |some (.array k e)=>(P.info? e).map fun i=>(e,k,i.size)
 |_=>none
theorem zGw{t e k sz:Nat}(h:zIr P t=some (e,k,sz)):P.underlying t=some (.array k e)∧∃inf,P.info? e=some inf∧inf.size=sz:=by
 unfold zIr at h
 split at h
 ·rename_i k' e' he
  cases hi:P.info? e' with
  |none=>simp[hi] at h
  |some inf=>simp[hi] at h;obtain⟨rfl,rfl,h2⟩:=h;exact⟨he,inf,hi,h2⟩
 ·cases h
theorem qVz{α:Type}{f:α→List Value}{k b:Nat}{l:List α}{ix:Int}{z:α}(hr:MRow m b 0 (l.flatMap f))(hf:∀x,(f x).length=k)(hz:idx l ix=some z):MRow m b (ix.toNat*k) (f z):=by
 obtain⟨h0,hz',hlt⟩:=qWi hz
 intro j v hv
 have hj:j<k:=by rw[←hf z];exact(List.getElem?_eq_some_iff.1 hv).1
 have hg:=qPg hf l ix.toNat z j hz' hj
 rw[hv] at hg
 have:=hr _ _ hg
 rwa[kK] at this
theorem qXo{α:Type}{l:List α}{ix:Int}{z:α}(hz:idx l ix=some z):0≤ix∧ix<(l.length:Int):=by
 obtain⟨h0,_,h1⟩:=qWi hz
 exact⟨h0,by omega⟩
variable {ks:List (Nat×(World→Prop))} {fuel:Nat} {done:List Nat}
theorem qNx{q:Nat}{S:World→Prop}{t e:TypeId}{x y:Operand}{b o nn k:Nat}{kd:IntKind}{ix:Int}(i d:Nat)(po:Nat)(hpo:po=o+ix.toNat*k)(ho:opAt ops L i=some (some d,.indexAddr t x y))(hd:Nat.blt d n=true)
  (hsT:qNg ops ks q i done=true) (hmem:(q,S)∈ks) (hq:QP Q)
  (hx:evL L x=some (.pointer (some ⟨b,o,none⟩))) (hy:evL L y=some (.int kd ix)) (hi:zIr P t=some (e,nn,k)) (h0:0≤ix) (h1:ix<(nn:Int))
  (h:WA P n ops Q ks fuel (done++[i]) ((d,.pointer (some ⟨b,po,none⟩))::L) w):WA P n ops Q ks (fuel+1) done L w:=by
 obtain⟨h2,inf,h3,h4⟩:=zGw hi
 subst hpo
 refine qSe i d _ _ ho hd hsT hmem hq (fun q hq w' _=> ?_) h
 simp[execOp,hq,Instr.indexAt,Instr.sureAddr,qCc hx,qCc hy,asIntOf,run_underlying h2,h0,h1,sizeOf,typeInfo,h3,h4,Addr.add]
def cmpS(a b:ByteArray):Int:=
 match(List.range (min a.size b.size)).find? fun i=>a[i]! !=b[i]! with
 |some i=>if a[i]! <b[i]! then-1 else 1
 |none=>if a.size<b.size then-1 else if a.size>b.size then 1 else 0
theorem zLs{f:FuncId}{fn:Func}{x y:Operand}{ts:Array TypeId}{s u:ByteArray}(ho:opAt ops L i=some (some d,.call {callee:= .value (.func f),args:= #[x,y],argTypes:=ts}))(hd:Nat.blt d n=true)
  (hx : evL L x = some (.string s)) (hy : evL L y = some (.string u)) (hf : P.funcs[f]? = some fn) (h1 : (fn.name == "runtime.NumGoroutine", fn.body.isNone, (Extern.findNext fn).isNone) = (false, true, true)) (h2 : Extern.find fn = some Extern.BytealgCompare.compare)
  (h:N ((d,.int .i64 (cmpS s u))::L) w):One P n ops Q i N L w:=by
 refine qXd [.string s,.string u] _ ho hd (by simp[qCc hx,qCc hy]) hf h1 h2 ?_ h
 rfl
end
section
variable {P:Program} {n:Fr} {ops:Array Oper} {Q:Exit→Act→World→Prop} {i d:Nat} {L:Env} {w:World} {m:Mem} {own:List Piece} {N:Env→World→Prop} {α:Type} {f:α→List Value}
def chkS(l:List α)(lo hi:Int):Option Unit:=if 0≤lo∧lo≤hi∧hi≤l.length then some () else none
theorem zHa{l:List α}{lo hi:Int}{u:Unit}(h:chkS l lo hi=some u):0≤lo∧lo≤hi∧hi≤l.length:=by
 unfold chkS at h
 split at h
 ·assumption
 ·cases h
theorem qYn{t e k:Nat}{x:Operand}{lo hi:Option Operand}{a:Option Addr}{nn cc:Nat}{T:List Value}{l:List α}{li hix:Int}{u:Unit}(ho:opAt ops L i=some (some d,.slice t x lo hi none))(hd:Nat.blt d n=true)(hx:evL L x=some (.slice a nn cc))(hI:qJf P t=some (e,k))
  (hlo:(lo=none∧li=0)∨∃y kd,lo=some y∧evL L y=some (.int kd li)) (hhi:(hi=none∧hix=nn)∨∃y kd,hi=some y∧evL L y=some (.int kd hix)) (hs:OAS a nn cc k T) (hn:List.length l=nn) (hz:chkS l li hix=some u)
  (h:N ((d,.slice (slA a cc li.toNat k) (hix.toNat-li.toNat) (cc-li.toNat))::L) w):One P n ops Q i N L w:=by
 obtain⟨h0,h1,h2⟩:=zHa hz
 have:=hs.1
 exact zCo _ ho hd hx hI hlo hhi h0 h1 (by omega) rfl h
theorem zKv{t e:TypeId}{len k:Nat}{parts:Array (Nat×Operand)}{xs:List α}{cs:List Value}(hf:∀x,(f x).length=k)(ho:opAt ops L i=some (some d,.buildSlice t len parts))(hd:Nat.blt d n=true)
  (hrun:∀w:World,(Instr.buildSlice t len (parts.map fun p=>(p.1,evD L p.2))).run P w= .ok (.slice (some ⟨w.heap.size,0,none⟩) len len) (w.alloc (.cells cs.toArray e)))
  (hcs:cs=xs.flatMap f) (hlen:len=xs.length) (hmax:Nat.ble len maxLen=true) (st:St m own w)
  (h:∀a' cap T w',OAS a' (List.length xs) cap k T→St m (opc a' (qBn f xs T) e::own) w'→N ((d,.slice a' (List.length xs) cap)::L) w'):One P n ops Q i N L w:=by
 subst hlen;subst hcs
 have hal:=st.alloc (w':=w.alloc (.cells (xs.flatMap f).toArray e)) ⟨⟨rfl,rfl⟩,rfl,dle⟩ rfl
 refine qHb (w':=w.alloc (.cells (xs.flatMap f).toArray e)) ho hd (fun q hq=> ?_) (h (some ⟨w.heap.size,0,none⟩) xs.length [] _ ⟨jU _,gD hmax,rfl,rfl⟩ ?_)
 ·simp[execOp,hq,hrun w]
 ·unfold qBn
  rw[fJ]
  exact hal
theorem zRo{t e k:Nat}{x y:Operand}{kd:IntKind}{a:Option Addr}{nn cc:Nat}{T:List Value}{l r:List α}{hix:Int}{e0:TypeId}(hf:∀x,(f x).length=k)(ho:opAt ops L i=some (some d,.slice t x none (some y) none))(hd:Nat.blt d n=true)(hx:evL L x=some (.slice a nn cc))(hy:evL L y=some (.int kd hix))(hI:qJf P t=some (e,k))
  (st:St m (opc a (qBn f l T) e0::own) w) (hs:OAS a nn cc k T) (hn:List.length l=nn) (hz:subS l 0 hix=some r)
  (h:∀T',OAS a (List.length r) cc k T'→St m (opc a (qBn f r T') e0::own) w→N ((d,.slice a (List.length r) cc)::L) w):One P n ops Q i N L w:=by
 unfold subS at hz
 split at hz
 ·rename_i hh
  obtain⟨h0,h1,h2⟩:=hh
  simp only[jK,fI,kA] at hz
  subst hz
  obtain⟨j,rfl⟩:∃j:Nat,hix=(j:Int):=⟨hix.toNat,by omega⟩
  have hj:j≤l.length:=by omega
  obtain⟨s1,s2,s3⟩:=hs
  have hlen:(l.take j).length=j:=by rw[kN];omega
  have hcells:qBn f (l.take j) ((l.drop j).flatMap f++T)=qBn f l T:=by
   unfold qBn
   rw[←jO,←dB,fH]
  have hfl:=qIq hf (l.drop j)
  have hs':OAS a (List.length (l.take j)) cc k ((l.drop j).flatMap f++T):=by
   rw[hlen]
   refine⟨by omega,s2,?_⟩
   cases a with
   |none=>exact s3
   |some p=>
    refine⟨s3.1,?_⟩
    have:=s3.2
    rw[jF,hfl,gG,←this,←hn,Nat.sub_mul]
    have:=kH k hj
    omega
  have hv:(Value.slice (slA a cc (0:Int).toNat k) ((j:Int).toNat-(0:Int).toNat) (cc-(0:Int).toNat))= .slice a (List.length (l.take j)) cc:=by
   rw[hlen]
   simp only[fI,jS,Nat.sub_zero]
   congr 1
   unfold slA
   split
   ·rfl
   ·cases a with
    |none=>rfl
    |some p=>
     have:=s3.1
     rw[Nat.zero_mul]
     show some (p.add 0)=some p
     rw[this]
     rfl
  refine zCo (li:=0) (hix:=(j:Int)) _ ho hd hx hI (.inl ⟨rfl,rfl⟩) (.inr ⟨y,kd,rfl,hy⟩) (by omega) (by omega) (by omega) hv (h _ hs' (by
   have hc:qBn f (List.take (j:Int).toNat l) ((l.drop j).flatMap f++T)=qBn f l T:=hcells
   rw[hc];exact st))
 ·cases hz
theorem zGp{k:Nat}(hf:∀x,(f x).length=k):∀(l:List α) (j:Nat),(l.flatMap f).take (j*k)=(l.take j).flatMap f
 |[],j=>by simp
 |x::l,0=>by simp
 |x::l,j+1=>by
  rw[kP,List.take_succ_cons,kP,List.take_append,hf,show(j+1)*k-k=j*k by rw[kI,hU,dD],zGp hf l j,kW (by rw[hf,kI];omega)]
theorem zFa{k:Nat}(hf:∀x,(f x).length=k):∀(l:List α) (j:Nat),(l.flatMap f).drop (j*k)=(l.drop j).flatMap f
 |[],j=>by simp
 |x::l,0=>by simp
 |x::l,j+1=>by
  rw[kP,List.drop_succ_cons,fZ,hf,show(j+1)*k-k=j*k by rw[kI,hU,dD],zFa hf l j,jQ (by rw[hf,kI];omega),kF]
theorem qTy{k:Nat}(hf:∀x,(f x).length=k){l:List α}{T:List Value}{j:Nat}(hj:j≤l.length):(qBn f l T).toList.take (j*k)=(l.take j).flatMap f:=by
 have hfl:=qIq hf l
 simp only[qBn]
 rw[gA (by rw[hfl];exact kH _ hj),zGp hf]
theorem qXg{k:Nat}(hf:∀x,(f x).length=k){l:List α}{T:List Value}{j:Nat}(hj:j≤l.length):(qBn f l T).toList.drop (j*k)=(l.drop j).flatMap f++T:=by
 have hfl:=qIq hf l
 simp only[qBn]
 rw[gI (by rw[hfl];exact kH _ hj),zFa hf]
theorem qZi{t u e by_:Nat}{x y:Operand}{c:Codec α}{v:Value}{a:Option Addr}{nn cc:Nat}{T:List Value}{l k r:List α}(hfr:∀m x cs,c.rep m x cs→cs=f x)(hf:∀x,(f x).length=c.sz)
  (ho:opAt ops L i=some (some d,.call {callee:= .builtin .append,args:= #[x,y],argTypes:= #[t,u]})) (hd:Nat.blt d n=true)
  (hx:evL L x=some (.slice a nn cc)) (hy:evL L y=some v) (st:St m (opc a (qBn f l T) e::own) w) (hs:OAS a nn cc c.sz T) (hn:List.length l=nn) (hi:qOr P t=some (e,c.sz,by_,c.sz)) (hu:zEr P u e)
  (hg:Gives P c m v k) (hz:qEb by_ l k=some r)
  (h:∀a' cap T' w',OAS a' (List.length r) cap c.sz T'→St m (opc a' (qBn f r T') e::own) w'→N ((d,.slice a' (List.length r) cap)::L) w'):One P n ops Q i N L w:=by
 obtain⟨ht,inf,z,hinf,hz',hisz,hby,hzs⟩:=qOi hi
 unfold qEb at hz
 split at hz
 ·rename_i hk
  obtain⟨k1,k2⟩:=hk
  simp only[jK] at hz;subst hz
  subst hn
  obtain⟨cs,hsrcs,hrep⟩:=hg
  have hsrc:=hsrcs w st.inv
  have hl:cs.length=k.length*c.sz:=hsrc.2.2.1
  have hcs:cs=k.flatMap f:=zAp hfr hl hrep
  have hfl:=qIq hf l
  have hfk:=qIq hf k
  obtain⟨q1,q2,q3⟩:=hs
  by_cases hroom:l.length+k.length≤cc
  ·cases a with
   |none=>
    simp only at q3
    have hl0:l=[]:=jX (by omega)
    have hk0:k=[]:=jX (by omega)
    subst hl0;subst hk0;subst q3
    have hcs0:cs=[]:=by simpa using hcs
    subst hcs0
    refine qQb (v:=undef) (w':=w) ho hd (fun o h3=> ?_)
    have hrun:=qPn w t u o.type e inf ht hu hinf (x:=v) (news:=[]) (by rw[hisz];exact hsrc)
    refine⟨_,_,?_,h none 0 [] w ⟨jU _,k0 _,rfl⟩ st⟩
    simp only[execOp,h3,resolve,Sem.run_bind,Sem.run_pure,Result.andThen_ok,invoke,builtin]
    simp only[jE] at hx
    simp[qCc hx,qCc hy,hrun]
   |some p=>
    simp only at q3
    obtain⟨hp,hT⟩:=q3
    obtain⟨b,o,s⟩:=p
    simp only[Addr.mk.injEq,true_and] at hp
    obtain⟨rfl,rfl⟩:=hp
    have st0:St m (.blk b (.cells (qBn f l T) e (0,0))::own) w:=st
    have hsz:(qBn f l T).size=cc*c.sz:=by
     simp only[qBn,jW,jF,hfl];omega
    have hle:l.length*c.sz+k.length*c.sz≤cc*c.sz:=by rw[←kI];exact kH _ hroom
    have hC:(qBn f l T).toList.take (l.length*inf.size)++cs++(qBn f l T).toList.drop (l.length*inf.size+cs.length)=(qBn f (l++k) (T.drop (k.length*c.sz))).toList:=by
     rw[hisz,hl,hcs]
     have e1:(qBn f l T).toList.take (l.length*c.sz)=l.flatMap f:=by
      have:=qTy (T:=T) hf (jU l.length)
      rwa[dM] at this
     have e2:(qBn f l T).toList.drop (l.length*c.sz+k.length*c.sz)=T.drop (k.length*c.sz):=by
      have:=qXg (T:=T) hf (jU l.length)
      rw[List.drop_length,List.flatMap_nil,kF] at this
      rw[←List.drop_drop,this]
     rw[e1,e2]
     simp[qBn,dB]
    refine qQb (v:=undef) (w':=w) ho hd (fun q h3=> ?_)
    have hrun:=qSa w t u q.type e inf ht hu hinf (x:=v) (n:=k.length) (news:=cs) (by rw[hisz];exact hsrc) b l.length cc (qBn f l T) st0.head.1 hroom (by rw[hisz,hl,hsz];exact hle)
    rw[hC] at hrun
    have st':=st0.set (w':=w.setRow b (qBn f (l++k) (T.drop (k.length*c.sz))).toList.toArray) (o':= .cells (qBn f (l++k) (T.drop (k.length*c.sz))).toList.toArray e (0,0)) ⟨⟨rfl,rfl⟩,rfl,dle⟩ (setRow_heap w b (qBn f l T) _ e _ st0.head.1) (fun j _ hj=>setRow_other w b j _ hj)
    have st2:St m (opc (some ⟨b,0,none⟩) (qBn f (l++k) (T.drop (k.length*c.sz))) e::own) (w.setRow b (qBn f (l++k) (T.drop (k.length*c.sz))).toList.toArray):=by simpa[opc] using st'
    have hll:(l++k).length=l.length+k.length:=jF
    refine⟨.slice (some ⟨b,0,none⟩) (l++k).length cc,_,?_,h (some ⟨b,0,none⟩) cc (T.drop (k.length*c.sz)) _ ⟨by rw[hll];exact hroom,q2,rfl,?_⟩ st2⟩
    ·simp only[execOp,h3,resolve,Sem.run_bind,Sem.run_pure,Result.andThen_ok,invoke,builtin]
     simp[qCc hx,qCc hy,hrun,hll]
    ·rw[hll,kI,gG];omega
  ·have hlt:cc<l.length+k.length:=by omega
   have hinv':∀w':World,Step w w'→w'.heap=w.heap→Inv m w':=fun w' hs hw=>st.inv.keep hs (fun b _ _=>by rw[hw])
   refine qQb (v:=undef) (w':=w) ho hd (fun o h3=> ?_)
   have hold:∀w':World,Step w w'→w'.heap=w.heap→(Builtin.firstCells inf.size l.length (.slice a l.length cc)).run P w'= .ok (l.flatMap f).toArray w':=fun w' _ hw=>by
    cases a with
    |none=>
     simp only at q3
     have hl0:l=[]:=jX (by omega)
     subst hl0
     simp[Builtin.firstCells]
    |some p=>
     simp only at q3
     obtain⟨hp,hT⟩:=q3
     obtain⟨b,o,s⟩:=p
     simp only[Addr.mk.injEq,true_and] at hp
     obtain⟨rfl,rfl⟩:=hp
     have st0:St m (.blk b (.cells (qBn f l T) e (0,0))::own) w:=st
     rw[hisz]
     refine zOg (o:=0) (C:=qBn f l T) (e:=e) (by rw[hw];exact st0.head.1) ?_ hfl
     rw[kA]
     have:=qTy (T:=T) hf (jU l.length)
     rwa[dM] at this
   have hrun:=qQl (ty:=o.type) w t u e inf z ht hu hinf hz' (n:=k.length) (news:=cs) (by rw[hisz];exact hsrc) a l.length cc (l.flatMap f)
    hold (fun w' hs hw=>by rw[hisz];exact(hsrcs w' (hinv' w' hs hw)).2.1) hlt (by rw[hby];exact k1) k2
   generalize hgc:grownCap w (l.length+k.length) cc e=gc at hrun
   have hge:l.length+k.length≤gc:=hgc▸grownCap_ge _ _ _ _
   have hgm:gc≤maxLen:=hgc▸grownCap_le_maxLen _ _ _ _ k2
   have hac:(l.flatMap f++cs).toArray++Builtin.zeroCells z.cells (gc-(l.length+k.length))=qBn f (l++k) (Builtin.zeroCells z.cells (gc-(l.length+k.length))).toList:=by
    rw[hcs];apply Array.ext';simp[qBn]
   rw[hac] at hrun
   have hll:(l++k).length=l.length+k.length:=jF
   refine⟨.slice (some ⟨w.heap.size,0,none⟩) (l++k).length gc,_,?_,h (some ⟨w.heap.size,0,none⟩) gc _ _ ⟨by omega,hgm,rfl,?_⟩ (st.tail.alloc (w':=w.drew.alloc (.cells (qBn f (l++k) (Builtin.zeroCells z.cells (gc-(l.length+k.length))).toList) e)) ⟨⟨rfl,rfl⟩,rfl,dle⟩ rfl)⟩
   ·simp only[execOp,h3,resolve,Sem.run_bind,Sem.run_pure,Result.andThen_ok,invoke,builtin]
    simp[qCc hx,qCc hy,hrun,hll]
   ·simp only[fB,size_zeroCells,hzs,hll,←kI]
    congr 1;omega
 ·cases hz
theorem zUn{l:List α}{lo hi:Int}{u:Unit}{nn:Nat}(h:chkS l lo hi=some u)(hn:List.length l=nn):0≤lo∧lo≤hi∧hi≤(nn:Int):=by
 obtain⟨h0,h1,h2⟩:=zHa h
 exact⟨h0,h1,by omega⟩
theorem qYf{l:List α}{lo hi ix:Int}{z:α}(h0:0≤lo)(hz:idx ((l.take hi.toNat).drop lo.toNat) ix=some z):idx l (lo+ix)=some z∧0≤ix∧lo+ix<hi:=by
 obtain⟨g0,g1,g2⟩:=qWi hz
 rw[List.getElem?_drop,List.getElem?_take] at g1
 split at g1
 ·rename_i g3
  refine⟨?_,g0,by omega⟩
  unfold idx
  rw[if_pos (by omega),show(lo+ix).toNat=lo.toNat+ix.toNat by omega]
  exact g1
 ·cases g1
theorem qVo{t e k:Nat}{x y:Operand}{a:Option Addr}{nn cc:Nat}{T:List Value}{l:List α}{kd:IntKind}{lo hi ix:Int}{z:α}(hx:evL L x=some (.slice (slA a cc lo.toNat k) (hi.toNat-lo.toNat) (cc-lo.toNat)))(hy:evL L y=some (.int kd ix))(hi':qJf P t=some (e,k))
  (hs:OAS a nn cc k T) (hn:List.length l=nn) (hv:0≤lo∧lo≤hi∧hi≤(nn:Int)) (hz:idx ((l.take hi.toNat).drop lo.toNat) ix=some z) (q:Oper) (hq:q.op= .indexAddr t x y) (w:World):
  (execOp (evD L) q).run P w= .ok (.value (.pointer (some ⟨ab a,(lo+ix).toNat*k,none⟩))) w:=by
 obtain⟨h1,inf,h2,h3⟩:=qJq hi'
 obtain⟨v0,v1,v2⟩:=hv
 obtain⟨g1,g2,g3⟩:=qYf v0 hz
 obtain⟨_,_,hlt⟩:=qWi g1
 have ha:=hs.some hn hlt
 have hcc:=hs.1
 rw[ha,zJr (by omega)] at hx
 generalize ab a=b at*
 have hlt':ix<((hi.toNat-lo.toNat:Nat):Int):=by omega
 have e1:0+lo.toNat*k+ix.toNat*k=(lo+ix).toNat*k:=by rw[kK,←kI];congr 1;omega
 have e2:lo.toNat*k+ix.toNat*k=(lo+ix).toNat*k:=by rw[←e1,kK]
 simp[execOp,hq,Instr.indexAt,qCc hx,qCc hy,asIntOf,run_underlying h1,g2,hlt',sizeOf,typeInfo,h2,h3,qOj,e2]
theorem zCv{t e k:Nat}{x y:Operand}{a:Option Addr}{nn cc:Nat}{T:List Value}{l:List α}{kd:IntKind}{lo hi ix:Int}{z:α}(ho:opAt ops L i=some (some d,.indexAddr t x y))(hd:Nat.blt d n=true)(hx:evL L x=some (.slice (slA a cc lo.toNat k) (hi.toNat-lo.toNat) (cc-lo.toNat)))(hy:evL L y=some (.int kd ix))(hi':qJf P t=some (e,k))
  (hs:OAS a nn cc k T) (hn:List.length l=nn) (hv:0≤lo∧lo≤hi∧hi≤(nn:Int)) (hz:idx ((l.take hi.toNat).drop lo.toNat) ix=some z)
  (h:N ((d,.pointer (some ⟨ab a,(lo+ix).toNat*k,none⟩))::L) w):One P n ops Q i N L w:=
 qHb ho hd (fun q hq=>qVo hx hy hi' hs hn hv hz q hq w) h
theorem qXw{ks:List (Nat×(World→Prop))}{q fuel:Nat}{S:World→Prop}{done:List Nat}{t e k:Nat}{x y:Operand}{a:Option Addr}{nn cc:Nat}{T:List Value}{l:List α}{kd:IntKind}{lo hi ix:Int}{z:α}(i d:Nat)(ho:opAt ops L i=some (some d,.indexAddr t x y))(hd:Nat.blt d n=true)
  (hsT:qNg ops ks q i done=true) (hmem:(q,S)∈ks) (hq:QP Q) (hx:evL L x=some (.slice (slA a cc lo.toNat k) (hi.toNat-lo.toNat) (cc-lo.toNat))) (hy:evL L y=some (.int kd ix)) (hi':qJf P t=some (e,k))
  (hs:OAS a nn cc k T) (hn:List.length l=nn) (hv:0≤lo∧lo≤hi∧hi≤(nn:Int)) (hz:idx ((l.take hi.toNat).drop lo.toNat) ix=some z)
  (h:WA P n ops Q ks fuel (done++[i]) ((d,.pointer (some ⟨ab a,(lo+ix).toNat*k,none⟩))::L) w):WA P n ops Q ks (fuel+1) done L w:=
 qSe i d _ _ ho hd hsT hmem hq (fun o ho w' _=>qVo hx hy hi' hs hn hv hz o ho w') h
def qZw(l:List α)(lo:Int)(z0:α):Option (List α):=if 0≤lo∧lo<l.length then some (l.take lo.toNat++List.replicate (l.length-lo.toNat) z0) else none
theorem zLf{l r:List α}{lo:Int}{z0:α}(h:qZw l lo z0=some r):r.length=l.length:=by
 unfold qZw at h
 split at h
 ·simp only[jK] at h;subst h
  simp only[jF,kN,fP];omega
 ·cases h
theorem zLi{t e k:Nat}{x:Operand}{a:Option Addr}{nn cc:Nat}{T:List Value}{l r:List α}{e0:TypeId}{lo h1:Int}{z:Value}{z0:α}(hf:∀x,(f x).length=k)(hone:∀x,∀v∈f x,v.oneCell'=true)
  (ho:opAt ops L i=some (none,.call {callee:= .builtin .clear,args:= #[x],argTypes:= #[t]}))
  (hx:evL L x=some (.slice (slA a cc lo.toNat k) (h1.toNat-lo.toNat) (cc-lo.toNat))) (e1:h1=(l.length:Int)) (hI:qJf P t=some (e,k)) (hz:(P.info? e).bind (·.zero)=some z) (hz0:z.cells.toList=f z0)
  (st:St m (opc a (qBn f l T) e0::own) w) (hs:OAS a nn cc k T) (hn:List.length l=nn) (hr:qZw l lo z0=some r)
  (h:∀w',St m (opc a (qBn f r T) e0::own) w'→N L w'):One P n ops Q i N L w:=by
 unfold qZw at hr
 split at hr
 ·rename_i hb
  simp only[jK] at hr;subst hr
  obtain⟨j,rfl⟩:∃j:Nat,lo=j:=⟨lo.toNat,by omega⟩
  have hj:j<l.length:=by omega
  have ha:=hs.some hn hj
  subst hn;subst e1
  obtain⟨q1,q2,q3⟩:=hs
  rw[ha] at q3
  simp only[true_and] at q3
  rw[ha] at hx st h
  generalize ab a=b at*
  rw[zJr (by simp only[jS];omega)] at hx
  simp only[jS,kK] at hx h
  have hfl:=qIq hf l
  have st0:St m (.blk b (.cells (qBn f l T) e0 (0,0))::own) w:=st
  have hcs:(qBn f l T).size=cc*k:=by
   simp only[qBn,jW,jF,hfl];omega
  obtain⟨dl,hdl⟩:∃dl,l.length-j=dl+1:=⟨l.length-j-1,by omega⟩
  rw[hdl] at hx
  have hzs:z.cells.size=k:=by have:=congrArg List.length hz0;rw[hf] at this;simpa using this
  have hzc:(Builtin.zeroCells z.cells (dl+1)).toList=(List.replicate (dl+1) z0).flatMap f:=by
   apply fU
   intro q
   have hlen:(Builtin.zeroCells z.cells (dl+1)).toList.length=(dl+1)*k:=by rw[fB,size_zeroCells,hzs]
   have hfr:=qIq hf (List.replicate (dl+1) z0)
   rw[fP] at hfr
   by_cases hq:q<(dl+1)*k
   ·have hk:0<k:=Nat.pos_of_ne_zero fun h0=>by(subst h0;simp at hq)
    have hd2:q/k<dl+1:=(Nat.div_lt_iff_lt_mul hk).2 hq
    have hm:=Nat.mod_lt q hk
    have e:q=(q/k)*k+q%k:=by rw[dJ];exact(Nat.div_add_mod q k).symm
    have hg:=qPg hf (List.replicate (dl+1) z0) (q/k) z0 (q%k) (by simp[hd2]) hm
    rw[←e] at hg
    rw[hg,←hz0]
    simp[Builtin.zeroCells,hzs,hq,hm]
   ·rw[List.getElem?_eq_none (by omega),List.getElem?_eq_none (by omega)]
  have hjk:j*k+(dl+1)*k≤cc*k:=by rw[←kI];exact kH _ (by omega)
  refine zKu (zs:=k) (qBn f (l.take j++List.replicate (l.length-j) z0) T).toList ho hx hI hz hzs (fun v hv=> ?_) st0 (by rw[hcs];exact hjk) ?_ ?_
  ·rw[hz0] at hv;exact hone _ v hv
  ·rw[hzc,qIq hf,fP,qTy hf (by omega),←kI,show j+(dl+1)=l.length by omega,qXg hf (jU _),hdl]
   simp[qBn,dB]
  ·intro w' st'
   have st2:St m (.blk b (.cells (qBn f (l.take j++List.replicate (l.length-j) z0) T) e0 (0,0))::own) w':=by simpa using st'
   exact h w' st2
 ·cases hr
theorem view0{a:Option Addr}{nn cc k:Nat}{T:List Value}{l:List α}{hi:Int}(hs:OAS a nn cc k T)(hn:List.length l=nn)(hv:0≤(0:Int)∧0≤hi∧hi≤(nn:Int)):
  (.slice (slA a cc (Int.toNat 0) k) (hi.toNat-Int.toNat 0) (cc-Int.toNat 0):Value)= .slice a (List.length (l.take hi.toNat)) cc:=by
 have e1:slA a cc (Int.toNat 0) k=a:=by
  unfold slA
  split
  ·rfl
  ·cases a with
   |none=>rfl
   |some p=>
    have hp:=hs.2.2
    simp only at hp
    rw[hp.1]
    simp[qOj]
 have e2:hi.toNat-Int.toNat 0=(l.take hi.toNat).length:=by rw[kN];simp;omega
 rw[e1,e2]
 rfl
theorem St.freezeView{c:Codec α}{a:Option Addr}{e nn cc:Nat}{l:List α}{T:List Value}{hi:Int}(st:St m (opc a (qBn f l T) e::own) w)(hs:OAS a nn cc c.sz T)(hn:List.length l=nn)(hf:∀x,(f x).length=c.sz)(hc:∀m x,c.rep m x (f x))(hv:0≤(0:Int)∧0≤hi∧hi≤(nn:Int)):
  ∃m',m.le m'∧St m' (.room a (List.length (l.take hi.toNat)) cc e c.sz::own) w∧RepS c m' a cc (l.take hi.toNat):=by
 have e1:qBn f l T=qBn f (l.take hi.toNat) ((l.drop hi.toNat).flatMap f++T):=by
  simp only[qBn]
  rw[←jO,←dB,fH]
 rw[e1] at st
 obtain⟨h1,h2,h3⟩:=hs
 refine St.freezeM (nn:=(l.take hi.toNat).length) st ⟨by rw[kN];omega,h2,?_⟩ rfl hf hc
 cases a with
 |none=>exact h3
 |some p=>
  simp only at h3 ⊢
  refine⟨h3.1,?_⟩
  have:=qIq hf (l.drop hi.toNat)
  rw[jF,this,←gQ,←kI,kN,gG]
  have e:min hi.toNat l.length+(l.length-hi.toNat)=nn:=by omega
  rw[e];exact h3.2
end
end Go.Dc
section
namespace Go.Dc
def zIq{α σ β ρ:Type}[DecidableEq ρ](f:Option α→σ→Option (σ⊕β))(l:List α)(s:σ)(K:β→Option ρ):Option ρ:=
 match(qQr f l s).bind K with
 |none=>none
 |some b=>if((zDi l).all fun k=>decide ((qQr f k s).bind K=some b))=true then some b else none
theorem zHz{α σ β ρ:Type}[DecidableEq ρ]{f:Option α→σ→Option (σ⊕β)}{l:List α}{s:σ}{K:β→Option ρ}{b:ρ}(h:zIq f l s K=some b):∀k,k.Perm l→(qQr f k s).bind K=some b:=by
 unfold zIq at h
 split at h
 ·cases h
 ·rename_i b' hb
  split at h
  ·rename_i hall
   simp only[jK] at h;subst h
   intro k hk
   have:=jT.1 hall k (qZf hk)
   simpa using this
  ·cases h
def LoopP{α σ β:Type}(f:Option α→σ→Option (σ⊕β))(rem:List α)(s:σ)(Pk:β→Prop)(k:Nat):Prop:=(∀l,l.Perm rem→∃b,qQr f l s=some b∧Pk b)∧rem.length<k
theorem LoopP.start{α σ β ρ:Type}[DecidableEq ρ]{f:Option α→σ→Option (σ⊕β)}{l:List α}{s:σ}{K:β→Option ρ}{b:ρ}(h:zIq f l s K=some b):∃Pk:β→Prop,(∀o,Pk o→K o=some b)∧LoopP f l s Pk (l.length+1):=
 ⟨fun o=>K o=some b,fun _ h=>h,fun k hk=>by obtain⟨o,h1,h2⟩:=jV.1 (zHz h k hk);exact⟨o,h1,h2⟩,jG _⟩
theorem LoopP.zero{α σ β:Type}{f:Option α→σ→Option (σ⊕β)}{rem:List α}{s:σ}{b:β→Prop}{p:Prop}(h:LoopP f rem s b 0):p:=absurd h.2 (kV _)
theorem LoopP.nil{α σ β:Type}{f:Option α→σ→Option (σ⊕β)}{rem:List α}{s:σ}{b:β→Prop}{k:Nat}(h:LoopP f rem s b (k+1))(hr:rem=[]):
  ∃c,f none s=some c∧(∀s',c= .inl s'→LoopP f rem s' b k)∧(∀b',c= .inr b'→b b'):=by
 subst hr
 obtain⟨o,this,hp⟩:=h.1 [] (.refl _)
 simp only[qQr] at this
 obtain⟨c,h1,h2⟩:=jV.1 this
 refine⟨c,h1,?_,?_⟩
 ·rintro s' rfl;simp at h2
 ·rintro b' rfl
  simp only[jK] at h2
  subst h2;exact hp
theorem LoopP.cons{α σ β:Type}{f:Option α→σ→Option (σ⊕β)}{rem rest:List α}{e:α}{s:σ}{b:β→Prop}{k:Nat}(h:LoopP f rem s b (k+1))(hr:rem.Perm (e::rest)):
  ∃c,f (some e) s=some c∧(∀s',c= .inl s'→LoopP f rest s' b k)∧(∀b',c= .inr b'→b b'):=by
 have hlen:rem.length=rest.length+1:=by simpa using hr.length_eq
 have key:∀l,l.Perm rest→∃o,qQr f (e::l) s=some o∧b o:=fun l hl=>h.1 _ ((hl.cons e).trans hr.symm)
 obtain⟨o,h0,hp⟩:=key rest (.refl _)
 simp only[qQr] at h0
 obtain⟨c,h1,h2⟩:=jV.1 h0
 refine⟨c,h1,?_,?_⟩
 ·rintro s' rfl
  refine⟨fun l hl=> ?_,by have:=h.2;omega⟩
  obtain⟨o2,h3,h4⟩:=key l hl
  simp only[qQr,h1,jA] at h3
  exact⟨o2,h3,h4⟩
 ·rintro b' rfl
  simp only[jK] at h2
  subst h2;exact hp
end Go.Dc
namespace Go.Dc
end Go.Dc
end
namespace Go.Dc
section
open Go.Proofs Go.Shelf Go.Sort
theorem zRa{w w':World}{m':Mem}{own:List Piece}(hle:Mem.le (snap w) m')(st:St m' own w'):∃q os,w'=grow (w.drewN q) os:=by
 have hs:=st.1.2.2
 have hw:m'.wd=w:=hle.2.2.symm
 rw[hw] at hs
 obtain⟨⟨h1,h2⟩,h3,h4⟩:=hs
 have h4:=h4 rfl
 have hh:∀(b:Nat) (x:Obj),w.heap[b]? =some x→w'.heap[b]? =some x:=fun b x hb=>st.1.2.1 b x (hle.2.1 b x hb)
 refine⟨w'.drawn-w.drawn,w'.heap.extract w.heap.size w'.heap.size,?_⟩
 have hsz:w.heap.size≤w'.heap.size:=by
  rcases Nat.eq_zero_or_pos w.heap.size with h|h
  ·omega
  ·have:=hh (w.heap.size-1) _ (Array.getElem?_eq_getElem (show w.heap.size-1<w.heap.size by omega))
   have:=(Array.getElem?_eq_some_iff.1 this).1
   omega
 have hheap:w.heap++w'.heap.extract w.heap.size w'.heap.size=w'.heap:=by
  apply Array.ext
  ·simp;omega
  ·intro i h5 h6
   rw[Array.getElem_append]
   split
   ·rename_i h7
    have:=hh i _ (Array.getElem?_eq_getElem h7)
    exact((Array.getElem?_eq_some_iff.1 this).2).symm
   ·rename_i h7
    rw[Array.getElem_extract]
    congr 1;omega
 have hd:w.drawn+(w'.drawn-w.drawn)=w'.drawn:=by omega
 cases w'
 simp only at h1 h2 h3 hheap hd
 simp only[grow,World.drewN,h1,h2,h3,hheap,hd]
theorem zBh{α:Type}[Inhabited α]{f:α→List Value}{k:Nat}(hf:∀x,(f x).length=k)(l:List α)(t:Nat)(ht:t<l.length*k):(l.flatMap f)[t]? =some (flatK f k l.toArray)[t]! :=by
 have hk:0<k:=Nat.pos_of_ne_zero fun h0=>by(subst h0;simp at ht)
 have hd:t/k<l.length:=(Nat.div_lt_iff_lt_mul hk).2 ht
 have hm:=Nat.mod_lt t hk
 have hx:l[t/k]? =some l[t/k]:=by simp[hd]
 have e:t=(t/k)*k+t%k:=by rw[dJ];exact(Nat.div_add_mod t k).symm
 have h1:=qPg hf l (t/k) _ (t%k) hx hm
 rw[←e] at h1
 rw[get_flatK _ _ _ t (by simpa using ht),h1]
 simp[hd,hf,hm]
variable {P:Program} {ρ:Ren} {α:Type} [Inhabited α] {m:Mem} {own:List Piece} {w:World}
theorem zIa(L:SlLaysF0.n6 P ρ){k:Nat}{f:α→List Value}(aE:∀w,(isAgg (ρ.t 24)).run P w= .ok true w)(zE:∀w,(Go.sizeOf (ρ.t 24)).run P w= .ok k w)(hf:∀x,(f x).length=k)(h1:∀x,∀v∈f x,v.oneCell'=true)
  (cf:α→α→Int) (hO:SWO (ltOf cf)) (hT:∀x y,(ltOf cf) x y=false→(ltOf cf) y x=false→x=y) (g:Nat) (eg:∀args w,(callFunc g args).run P w= .ok (.enter g args) w)
  (hcl:∀(x y:α) (W:World),Calls P g #[.agg (f x).toArray,.agg (f y).toArray] W fun r w'=>∃m',r= .returned (.int .i64 (cf x y))∧(snap W).le m'∧St m' [] w')
  {a:Option Addr} {l:List α} {cap:Nat} {T:List Value} {e:TypeId} (st:St m (opc a (qBn f l T) e::own) w) (hs:OAS a l.length cap k T) (hlen:l.length<4611686018427387904):
  Calls P (ρ.f 6) #[.slice a l.length cap,.func (.func g) #[] #[]] w fun r w'=>r= .returned (.tuple #[])∧St m (opc a (qBn f (l.mergeSort fun x y=> !(ltOf cf) y x) T) e::own) w':=by
 obtain⟨q1,q2,q3⟩:=hs
 cases a with
 |none=>
  simp only at q3
  have hl:l=[]:=jX (by omega)
  subst hl
  refine(AnyF.slices_SortFunc_none {L with} none cap (.func (.func g) #[] #[]) w).mono fun r w' h=> ?_
  obtain⟨rfl,rfl⟩:=h
  exact⟨rfl,by simpa using st⟩
 |some p=>
  simp only at q3
  obtain⟨hp,hT'⟩:=q3
  obtain⟨b,o,s⟩:=p
  simp only[Addr.mk.injEq,true_and] at hp
  obtain⟨rfl,rfl⟩:=hp
  have st0:St m (.blk b (.cells (qBn f l T) e (0,0))::own) w:=st
  have hb:=st0.head.1
  have hlt:=qPv hb
  have hfl:=qIq hf l
  have hH:HoldsK f k w b 0 l.toArray:=by
   intro j hj
   have hj':j<l.length*k:=by simpa using hj
   have hc:(qBn f l T)[j]? =some (flatK f k l.toArray)[j]! :=by
    simp only[qBn,List.getElem?_toArray]
    rw[List.getElem?_append_left (by omega),zBh hf l j hj']
   refine⟨?_,?_⟩
   ·simp only[World.cell?,hb,kK]
    simpa using hc
   ·simp[World.frozen?,hb]
  refine(AnyQ.slices_SortFunc_total L k aE zE f hf h1 cf hO g #[] b 0 cap l.toArray w eg (fun m' os dk _ x y=> ?_) hH hlt (by simpa using hlen) hT).mono fun r w' h=> ?_
  ·refine(hcl x y _).mono fun r w' h=> ?_
   obtain⟨m',rfl,hle,st'⟩:=h
   exact⟨rfl,zRa hle st'⟩
  ·obtain⟨rfl,n,os,rfl⟩:=h
   refine⟨rfl,?_⟩
   generalize hl':l.mergeSort (fun x y=> !(ltOf cf) y x)=l'
   have hll:l'.length=l.length:=by rw[←hl'];simp
   have hfl':=qIq hf l'
   have hcells:putCells id 0 (flatK f k l'.toArray) (qBn f l T)=qBn f l' T:=by
    apply Array.ext_getElem?
    intro t
    simp only[putCells,Array.getElem?_mapIdx,qBn,List.getElem?_toArray,size_flatK,jW,kK,k0,true_and,Nat.sub_zero,id]
    by_cases ht:t<l'.length*k
    ·rw[List.getElem?_append_left (l₁:=l'.flatMap f) (by omega),zBh hf l' t ht]
     have:(l.flatMap f++T)[t]? =some ((l.flatMap f++T)[t]'(by simp only[jF];rw[hfl,←hll];omega)):=by simp
     rw[this]
     simp[ht]
    ·rw[List.getElem?_append_right (l₁:=l'.flatMap f) (by omega),List.getElem?_append_right (l₁:=l.flatMap f) (by rw[hfl,←hll];omega),hfl,hfl',hll]
     rw[hll] at ht
     simp[ht,hll]
   refine(st0.set (w':=sortWorldK f k w b 0 n l'.toArray os) (o':= .cells (qBn f l' T) e (0,0)) ⟨⟨rfl,rfl⟩,rfl,?_⟩ ?_ ?_:St m (.blk b (.cells (qBn f l' T) e (0,0))::own) _)
   ·intro _;show w.drawn≤w.drawn+n;omega
   ·show((w.heap.modify b (onCells (putCells id 0 (flatK f k l'.toArray))))++os)[b]? =_
    rw[Array.getElem?_append_left (by simpa using hlt),Array.getElem?_modify,if_pos rfl,hb]
    simp only[gL,onCells,hcells]
   ·intro j hj hne
    show((w.heap.modify b (onCells (putCells id 0 (flatK f k l'.toArray))))++os)[j]? =_
    rw[Array.getElem?_append_left (by simpa using hj),Array.getElem?_modify,if_neg (Ne.symm hne)]
end
section
open Go.Proofs Go.Shelf Go.Sort
structure Lin{α:Type}(c:α→α→Int):Prop where
 zero:∀x y,c x y=0↔x=y
 anti:∀x y,c x y<0↔0<c y x
 trans:∀x y z,c x y<0→c y z<0→c x z<0
theorem Lin.swo{α:Type}{c:α→α→Int}(h:Lin c):SWO (ltOf c) where
 irrefl x:=by simp only[ltOf,decide_eq_false_iff_not];have:=(h.zero x x).2 rfl;omega
 trans x y z h1 h2:=by simp only[ltOf,jB] at*;exact h.trans x y z h1 h2
 ntrans x y z h1 h2:=by
  simp only[ltOf,decide_eq_false_iff_not] at*
  intro h3
  have a1:=h.anti x y;have a2:=h.anti y x;have a3:=h.anti y z;have a4:=h.anti z y
  by_cases e1:c x y=0
  ·rw[(h.zero x y).1 e1] at h3;exact h2 h3
  by_cases e2:c y z=0
  ·rw[←(h.zero y z).1 e2] at h3;exact h1 h3
  have b1:c y x<0:=a2.2 (by omega)
  have b2:c z y<0:=a4.2 (by omega)
  have b3:=h.trans z y x b2 b1
  have:=(h.anti x z).1 h3
  omega
theorem Lin.total{α:Type}{c:α→α→Int}(h:Lin c)(x y:α)(h1:ltOf c x y=false)(h2:ltOf c y x=false):x=y:=by
 simp only[ltOf,decide_eq_false_iff_not] at*
 have:=h.anti y x
 exact(h.zero x y).1 (by omega)
def cmpI(x y:Int):Int:=if x<y then-1 else if x>y then 1 else 0
theorem zEb:Lin cmpI where
 zero x y:=by unfold cmpI;split<;>(try split)<;>omega
 anti x y:=by unfold cmpI;repeat' split<;>omega
 trans x y z:=by unfold cmpI;repeat' split<;>omega
def lexC{α β:Type}(c:α→α→Int)(d:β→β→Int)(x y:α×β):Int:=if c x.1 y.1≠0 then c x.1 y.1 else d x.2 y.2
theorem qUl{α β:Type}{c:α→α→Int}{d:β→β→Int}(hc:Lin c)(hd:Lin d):Lin (lexC c d) where
 zero x y:=by
  have h1:=hc.zero x.1 y.1;have h2:=hd.zero x.2 y.2
  unfold lexC
  split
  ·rename_i h;exact⟨fun g=>absurd g h,fun g=>absurd (h1.2 (by rw[g])) h⟩
  ·rename_i h
   have h:=h1.1 (Decidable.of_not_not h)
   rw[h2];exact⟨fun g=>Prod.ext h g,fun g=>by rw[g]⟩
 anti x y:=by
  have h1:=hc.anti x.1 y.1;have h2:=hd.anti x.2 y.2;have h3:=hc.zero x.1 y.1;have h4:=hc.zero y.1 x.1
  unfold lexC
  by_cases e:x.1=y.1
  ·rw[if_neg (by rw[ne_eq,Decidable.not_not,h3];exact e),if_neg (by rw[ne_eq,Decidable.not_not,h4];exact e.symm)];exact h2
  ·rw[if_pos (fun g=>e (h3.1 g)),if_pos (fun g=>e (h4.1 g).symm)];exact h1
 trans x y z g1 g2:=by
  have h1:=hc.zero x.1 y.1;have h2:=hc.zero y.1 z.1;have h3:=hc.zero x.1 z.1
  unfold lexC at*
  by_cases e1:x.1=y.1
  ·rw[if_neg (by rw[ne_eq,Decidable.not_not,h1];exact e1)] at g1
   by_cases e2:y.1=z.1
   ·rw[if_neg (by rw[ne_eq,Decidable.not_not,h2];exact e2)] at g2
    rw[if_neg (by rw[ne_eq,Decidable.not_not,h3];exact e1.trans e2)]
    exact hd.trans _ _ _ g1 g2
   ·rw[if_pos (fun g=>e2 (h2.1 g))] at g2
    rw[if_pos (fun g=>e2 (e1.symm.trans (h3.1 g))),e1];exact g2
  ·rw[if_pos (fun g=>e1 (h1.1 g))] at g1
   by_cases e2:y.1=z.1
   ·rw[if_pos (fun g=>e1 ((h3.1 g).trans e2.symm)),←e2];exact g1
   ·rw[if_pos (fun g=>e2 (h2.1 g))] at g2
    have g3:=hc.trans _ _ _ g1 g2
    rw[if_pos (by omega)];exact g3
def cmpL:List UInt8→List UInt8→Int
 |[],[]=>0
 |[],_::_=> -1
 |_::_,[]=>1
 |x::l,y::k=>if x=y then cmpL l k else if x<y then-1 else 1
theorem u8_lt(x y:UInt8):x<y↔x.toNat<y.toNat:=Iff.rfl
theorem u8_eq{x y:UInt8}(h:x.toNat=y.toNat):x=y:=UInt8.toNat_inj.1 h
theorem cmpL_lin:Lin cmpL where
 zero:=by
  intro l
  induction l with
  |nil=>intro k;cases k<;>simp[cmpL]
  |cons x l ih=>
   intro k
   cases k with
   |nil=>simp[cmpL]
   |cons y k=>
    simp only[cmpL]
    by_cases h:x=y
    ·rw[if_pos h,ih k,h];simp
    ·rw[if_neg h];split<;>simp[h]
 anti:=by
  intro l
  induction l with
  |nil=>intro k;cases k<;>simp[cmpL]
  |cons x l ih=>
   intro k
   cases k with
   |nil=>simp[cmpL]
   |cons y k=>
    simp only[cmpL]
    by_cases h:x=y
    ·rw[if_pos h,if_pos h.symm];exact ih k
    ·rw[if_neg h,if_neg (Ne.symm h)]
     have:¬x.toNat=y.toNat:=fun e=>h (u8_eq e)
     simp only[u8_lt]
     split<;>split<;>omega
 trans:=by
  intro l
  induction l with
  |nil=>intro k m h1 h2;cases k<;>cases m<;>simp[cmpL] at*
  |cons x l ih=>
   intro k m h1 h2
   cases k with
   |nil=>simp[cmpL] at h1
   |cons y k=>
    cases m with
    |nil=>simp[cmpL] at h2
    |cons z m=>
     simp only[cmpL,u8_lt] at*
     by_cases e1:x=y
     ·subst e1
      rw[if_pos rfl] at h1
      by_cases e2:x=z
      ·rw[if_pos e2] at h2 ⊢;exact ih k m h1 h2
      ·rw[if_neg e2] at h2 ⊢;exact h2
     ·rw[if_neg e1] at h1
      have hlt:x.toNat<y.toNat:=by
       by_cases g:x.toNat<y.toNat
       ·exact g
       ·rw[if_neg g] at h1;omega
      by_cases e2:y=z
      ·subst e2;rw[if_neg e1,if_pos hlt];omega
      ·rw[if_neg e2] at h2
       have hlt2:y.toNat<z.toNat:=by
        by_cases g:y.toNat<z.toNat
        ·exact g
        ·rw[if_neg g] at h2;omega
       rw[if_neg (fun e=>by rw[e] at hlt;omega),if_pos (by omega)];omega
def cmpF(l k:List UInt8):Int:=match(List.range (min l.length k.length)).find? fun i=>l.getD i 0 !=k.getD i 0 with
 |some i=>if l.getD i 0<k.getD i 0 then-1 else 1
 |none=>if l.length<k.length then-1 else if l.length>k.length then 1 else 0
theorem zMx:∀l k:List UInt8,cmpF l k=cmpL l k
 |[],[]=>by simp[cmpF,cmpL]
 |[],_::_=>by simp[cmpF,cmpL]
 |_::_,[]=>by simp[cmpF,cmpL]
 |x::l,y::k=>by
  have ih:=zMx l k
  unfold cmpF at ih ⊢
  rw[show min (x::l).length (y::k).length=min l.length k.length+1 by simp only[jD];omega,List.range_succ_eq_map,List.find?_cons]
  by_cases h:x=y
  ·subst h
   have e0:((x::l).getD 0 0 !=(x::k).getD 0 0)=false:=by simp
   rw[e0]
   simp only[List.find?_map,Function.comp_def,cmpL,jI]
   rw[←ih]
   have e1:(fun i=>(x::l).getD (Nat.succ i) 0 !=(x::k).getD (Nat.succ i) 0)=fun i=>l.getD i 0 !=k.getD i 0:=by
    funext i;simp
   rw[e1]
   cases(List.range (min l.length k.length)).find? fun i=>l.getD i 0 !=k.getD i 0 with
   |none=>simp
   |some i=>simp
  ·have e0:((x::l).getD 0 0 !=(y::k).getD 0 0)=true:=by simpa using h
   rw[e0]
   simp[cmpL,h]
theorem zRy(a:ByteArray)(i:Nat):a[i]! =a.data.toList.getD i 0:=by
 by_cases h:i<a.size
 ·have h2:i<a.data.toList.length:=by simpa using h
  rw[getElem!_pos a i h,kX,List.getElem?_eq_getElem h2]
  simp
  rfl
 ·have h2:¬i<a.data.toList.length:=by simpa using h
  rw[getElem!_neg a i h,kX,List.getElem?_eq_none (by omega)]
  rfl
theorem zEd(a b:ByteArray):cmpS a b=cmpL a.data.toList b.data.toList:=by
 rw[←zMx]
 have e1:a.data.toList.length=a.size:=by simp
 have e2:b.data.toList.length=b.size:=by simp
 unfold cmpS cmpF
 rw[e1,e2]
 simp only[zRy]
 all_goals (generalize List.find? (fun i=>a.data.toList.getD i 0 !=b.data.toList.getD i 0) (List.range (min a.size b.size))=o;cases o<;>rfl)
theorem qUo:Lin cmpS where
 zero x y:=by
  rw[zEd,cmpL_lin.zero]
  exact⟨fun h=>by cases x;cases y;simp at h;subst h;rfl,fun h=>by rw[h]⟩
 anti x y:=by rw[zEd,zEd];exact cmpL_lin.anti _ _
 trans x y z h1 h2:=by rw[zEd] at*;exact cmpL_lin.trans _ _ _ h1 h2
end
section
def isQ{α:Type}(o:Option α):Option Unit:=o.map fun _=>()
theorem MapQ.at{κ ν:Type}{ek:κ→Value}{c:Codec ν}{agg:Bool}{m:Mem}{q:Option Nat}{es:Array MapEntry}{ck:Nat}{o:Option (List (κ×ν))}(h:MapQ ek c agg m q es ck o){u:Unit}(ho:isQ o=some u):∃b,q=some b:=by
 cases q with
 |none=>
  have h:o=none:=h
  subst h
  cases ho
 |some b=>exact⟨b,rfl⟩
end
section
section
variable {P:Program} {n:Fr} {ops:Array Oper} {Q:Exit→Act→World→Prop} {L:Env} {w:World} {i:Nat}
def noP(Q:Exit→Act→World→Prop):Exit→Act→World→Prop
 | .panic _,_,_=>False
 |e,a,w=>Q e a w
end
end
section
theorem Mem.le.t{a b c:Mem}(h:a.le b)(k:b.le c):a.le c:=Mem.le_trans h k
theorem sI{α:Type}{a b:α}(h:some a=some b):a=b:=jZ h
abbrev GoOn(K:Value→Prop):Ending→Prop
 | .returned v=>K v
 |_=>False
abbrev GoOnF(K:Value→Prop)(F:List PanicEntry→Prop):Ending→Prop
 | .returned v=>K v
 | .panicked ch=>F ch
 |_=>False
theorem GoOn.out{K:Value→Prop}{e:Ending}(h:GoOn K e):∃v,e= .returned v∧K v:=by
 cases e<;>first|exact⟨_,rfl,h⟩|exact h.elim
theorem GoOnF.out{K:Value→Prop}{F:List PanicEntry→Prop}{e:Ending}(h:GoOnF K F e):(∃v,e= .returned v∧K v)∨∃ch,e= .panicked ch∧F ch:=by
 cases e<;>first|exact .inl ⟨_,rfl,h⟩|exact .inr ⟨_,rfl,h⟩|exact h.elim
section
variable {ρ:Option Nat} {P:Program} {n:Fr} {ops:Array Oper} {Q:Exit→Act→World→Prop} {i:Nat} {L:Env} {w:World} {m:Mem} {own:List Piece} {N:Env→World→Prop}
theorem zUd{α β:Type}{f:Nat}{args:Array Value}{x:Option β}{k:β→Option α}{r:α}{T:β→Ending→World→Prop}(d:Nat)(hr:x.bind k=some r)(hF:∀y,x=some y→Calls P f args w (T y))
  (h:∀y,k y=some r→∀e w',T y e w'→GoOn (fun v=>N ((d,v)::L) w') e) (ho:zBw P ops L i=some (some d,f,args):=by kernel_rfl) (hd:Nat.blt d n=true:=by exact rfl):One P n ops Q i N L w:=by
 obtain⟨y,h1,h2⟩:=jV.1 hr
 exact qPa d f args ho hd ((hF y h1).mono fun e w' ht=>(h y h2 e w' ht).out)
theorem qCm{α β:Type}{f:Nat}{args:Array Value}{x:Option β}{k:β→Option α}{r:α}{T:β→Ending→World→Prop}(d:Nat)(hr:x.bind k=some r)(hF:∀y,x=some y→Calls P f args w (T y))
  (h:∀y,k y=some r→∀e w',T y e w'→∃v,e= .returned v∧N ((d,v)::L) w') (ho:zBw P ops L i=some (some d,f,args):=by kernel_rfl) (hd:Nat.blt d n=true:=by exact rfl):One P n ops Q i N L w:=by
 obtain⟨y,h1,h2⟩:=jV.1 hr
 exact qPa d f args ho hd ((hF y h1).mono fun e w' ht=>h y h2 e w' ht)
theorem qAj{α β:Type}{f:Nat}{args:Array Value}{x:Option β}{k:β→Option α}{r:α}{T:β→Ending→World→Prop}(d:Nat)(hr:x.bind k=some r)(hF:∀y,x=some y→Calls P f args w (T y))
  (h:∀y,k y=some r→∀e w',T y e w'→GoOn (fun v=>WO P n ops Q (i+1) ((d,v)::L) w') e) (ho:zBw P ops L i=some (some d,f,args):=by kernel_rfl) (hd:Nat.blt d n=true:=by exact rfl) (hi:Nat.blt i ops.size=true:=by exact rfl):WO P n ops Q i L w:=
 qAb hi (zUd d hr hF h ho hd)
def zBt:List Value→Nat→Env
 |[],_=>[]
 |v::l,k=>(k,v)::zBt l (k+1)
theorem zFr:∀(l:List Value) (k:Nat) (pre:List Value),pre.length=k→(zBt l k).map (fun p=>((pre++l).toArray[p.1]?))=(zBt l k).map fun p=>some p.2
 |[],_,_,_=>rfl
 |v::l,k,pre,h=>by
  simp only[zBt,k9]
  have h1:=zFr l (k+1) (pre++[v]) (by simp[h])
  rw[show pre++[v]++l=pre++v::l by simp] at h1
  rw[h1]
  congr 1
  subst h
  simp
theorem W_cA{f:FuncId}{fn:Func}{c:Code}{args:Array Value}{R:Ending→World→Prop}{k:Nat}(hf:P.funcs[f]? =some fn)(hb:fn.body=some c)(hn:fn.ntmps=k)(h:W none P ⟨k,[]⟩ c (bodyPost P fn R) (zBt args.toList 0) w)
  (hsz:Nat.ble args.size k=true:=by exact rfl):Calls P f args w R:=
 zTb hf hb hn (zBt args.toList 0) (by have:=zFr args.toList 0 [] rfl;simpa using this) hsz h
theorem W_if{α:Type}{c:Operand}{x y:Code}{b:Bool}{A B:Option α}{r:α}(hr:(if b=true then A else B)=some r)
  (ht:b=true→A=some r→W ρ P n x Q L w) (hf:b=false→B=some r→W ρ P n y Q L w) (hc:evL L c=some (.bool b):=by kernel_rfl):W ρ P n (.cond c x y) Q L w:=
 zGq b hc (fun h=>ht h (by rw[if_pos h] at hr;exact hr)) (fun h=>hf h (by rw[if_neg (by rw[h];exact gN)] at hr;exact hr))
theorem WO_e{y:Code}(h:W ρ P n y Q L w)(hi:ops.size=i:=by exact rfl):WO P n ops (Exit.then (fun a w=>y.wpIn (fen ρ) 0 P Q a w) Q) i L w:=WO_et hi h
theorem qAa(k:Nat)(new:Env)(h:WO P n ops Q (i+k) (new++L) w)(h1:zGi P n ops k i L (new.map (·.1))=some (new.map fun p=>some p.2):=by kernel_rfl)
 (h2:qRq L new (wrs ops k i)=true:=by kernel_rfl):WO P n ops Q i L w:=zPr k new h1 h2 h
theorem qDe{e:TypeId}{b:Nat}{c:Array Value}{f:Nat×Nat}(k d t x o:Nat)(v:Value)(hp:Piece.holds m w (.blk b (.cells c e f)))(h:WO P n ops Q (i+k+1) ((d,v)::(x,.pointer (some ⟨b,o,none⟩))::L) w)
  (h1:zGi P n ops k i L [x]=some [some (.pointer (some ⟨b,o,none⟩))]:=by kernel_rfl) (h2:qRq L [(x,.pointer (some ⟨b,o,none⟩))] (wrs ops k i)=true:=by kernel_rfl)
  (ho:opAt ops ((x,.pointer (some ⟨b,o,none⟩))::L) (i+k)=some (some d,.load t (.tmp x)):=by kernel_rfl) (hd:Nat.blt d n=true:=by exact rfl) (hv:qUt P t (c.toList.drop o)=some v:=by kernel_rfl) (hi:Nat.blt (i+k) ops.size=true:=by exact rfl):WO P n ops Q i L w:=
 zPr k [(x,.pointer (some ⟨b,o,none⟩))] h1 h2 (qAb hi (qXr v ho hd (by simp[evL,look]) hp hv h))
theorem qAd{y:Code}(k:Nat)(new:Env)(h:W ρ P n y Q (new++L) w)(h1:zGi P n ops k i L (new.map (·.1))=some (new.map fun p=>some p.2):=by kernel_rfl)
 (h2:qRq L new (wrs ops k i)=true:=by kernel_rfl) (hi:ops.size=i+k:=by exact rfl):WO P n ops (Exit.then (fun a w=>y.wpIn (fen ρ) 0 P Q a w) Q) i L w:=zPr k new h1 h2 (WO_et hi h)
theorem qCy{b:Nat}{cs:List Value}(d t x o:Nat)(v:Value)(hst:St m own w)(hr:MRow m b o cs)(h:WO P n ops Q (i+1) ((d,v)::L) w)
 (ho:opAt ops L i=some (some d,.load t (.tmp x)):=by kernel_rfl) (hd:Nat.blt d n=true:=by exact rfl) (hx:evL L (.tmp x)=some (.pointer (some ⟨b,o,none⟩)):=by kernel_rfl) (hv:qUt P t cs=some v:=by kernel_rfl)
 (hi:Nat.blt i ops.size=true:=by exact rfl):WO P n ops Q i L w:=qAb hi (qAw v ho hd hx hst hr hv h)
theorem X_rt{k:Nat}{fn:Func}{R:Ending→World→Prop}(ts:List Nat)(vs:List Value)(h:R (.returned (zAu vs)) w)(hf:fn.results=(ts.map ResultVar.tmp).toArray:=by exact rfl)(hl:ts.map (look L)=vs.map some:=by kernel_rfl):X ⟨k,[]⟩ (bodyPost P fn R) .ret L w:=by
 refine qKx (ts.map .tmp) vs hf ?_ h
 clear hf h
 induction ts generalizing vs with
 |nil=>cases vs with
  |nil=>rfl
  |cons v vs=>cases hl
 |cons t ts ih=>cases vs with
  |nil=>cases hl
  |cons v vs=>
   rw[k9,k9,g9] at hl
   exact ResAll.cons (ResAt.tmp hl.1) (ih vs hl.2)
instance opTmp(k:Nat):OfNat Operand k:=⟨.tmp k⟩
theorem qCk{e:TypeId}{b:Nat}{c:Array Value}{f:Nat×Nat}(d t:Nat)(x:Operand)(o:Nat)(v:Value)(hp:Piece.holds m w (.blk b (.cells c e f)))(h:N ((d,v)::L) w)
 (ho:opAt ops L i=some (some d,.load t x):=by kernel_rfl) (hd:Nat.blt d n=true:=by exact rfl) (hx:evL L x=some (.pointer (some ⟨b,o,none⟩)):=by kernel_rfl) (hv:qUt P t (c.toList.drop o)=some v:=by kernel_rfl):One P n ops Q i N L w:=qXr v ho hd hx hp hv h
theorem qHf{e:TypeId}{b:Nat}{c:Array Value}(t:Nat)(x y:Operand)(o:Nat)(v:Value)(c':Array Value)(hst:St m (.blk b (.cells c e (0,0))::own) w)(h:∀w',St m (.blk b (.cells c' e (0,0))::own) w'→N L w')
 (ho:opAt ops L i=some (none,.store t x y):=by kernel_rfl) (hx:evL L x=some (.pointer (some ⟨b,o,none⟩)):=by kernel_rfl) (hy:evL L y=some v:=by kernel_rfl) (hok:qWn P t v o c.size=true:=by kernel_rfl)
 (hc':(c.toList.take o++v.cells.toList++c.toList.drop (o+v.cells.toList.length)).toArray=c':=by kernel_rfl):One P n ops Q i N L w:=zEt ho hx hy hst hok hc' h
theorem qCn{e:TypeId}{b:Nat}{c:Array Value}(t:Nat)(x y:Operand)(v:Value)(hst:St m (.blk b (.cells c e (0,0))::own) w)(h:∀w',St m (.blk b (.cells v.cells e (0,0))::own) w'→N L w')
 (ho:opAt ops L i=some (none,.store t x y):=by kernel_rfl) (hx:evL L x=some (.pointer (some ⟨b,0,none⟩)):=by kernel_rfl) (hy:evL L y=some v:=by kernel_rfl) (hok:qWn P t v 0 c.size=true:=by kernel_rfl)
 (hc':(c.toList.take 0++v.cells.toList++c.toList.drop (0+v.cells.toList.length)).toArray=v.cells:=by kernel_rfl):One P n ops Q i N L w:=zEt ho hx hy hst hok hc' h
theorem qDn(d e:Nat)(v:Value)(hst:St m own w)(h:∀b w',St m (.blk b (.cells v.cells e (0,0))::own) w'→N ((d,.pointer (some ⟨b,0,none⟩))::L) w')
 (ho:opAt ops L i=some (some d,.alloc e):=by kernel_rfl) (hd:Nat.blt d n=true:=by exact rfl) (hz:zSk P e=some v:=by kernel_rfl):One P n ops Q i N L w:=zMn v ho hd hz hst h
theorem zGv(d e:Nat)(x:Operand)(v:Value)(hst:St m own w)(h:∀b w',St m (.blk b (.cells v.cells e (0,0))::own) w'→N ((d,.pointer (some ⟨b,0,none⟩))::L) w')
 (ho:opAt ops L i=some (some d,.box e x):=by kernel_rfl) (hd:Nat.blt d n=true:=by exact rfl) (hx:evL L x=some v:=by kernel_rfl):One P n ops Q i N L w:=zAf v ho hd hx hst h
theorem qHw(d e:Nat)(x:Operand)(v:Value)(hst:St m own w)(h:∀b m' w',m.le m'→St m' own w'→MRow m' b 0 v.cells.toList→N ((d,.pointer (some ⟨b,0,none⟩))::L) w')
 (ho:opAt ops L i=some (some d,.box e x):=by kernel_rfl) (hd:Nat.blt d n=true:=by exact rfl) (hx:evL L x=some v:=by kernel_rfl):One P n ops Q i N L w:=zUm v ho hd hx hst h
theorem xE{e:Exit}{L':Env}(h:X n Q e L' w)(hs:L'.map (fun p=>look L p.1)=L'.map fun p=>some p.2:=by kernel_rfl):X n Q e L w:=qQo L' hs h
theorem iA{m':Mem}{p:Prop}(st:St m' own w)(h:m.le m'):p∨Inv m w∧True:= .inr ⟨Inv.anti st.inv h,trivial⟩
theorem qCh{α:Type}{k:ByteArray→Option α}{r:α}{a b:ByteArray}(d t t2:Nat)(x y:Operand)(hr:(catB a b).bind k=some r)(h:∀s,k s=some r→N ((d,.string s)::L) w)
  (ho:opAt ops L i=some (some d,.binOp .add t x y t2):=by kernel_rfl) (hd:Nat.blt d n=true:=by exact rfl) (hx:evL L x=some (.string a):=by kernel_rfl) (hy:evL L y=some (.string b):=by kernel_rfl):One P n ops Q i N L w:=by
 obtain⟨s,h1,h2⟩:=qAz hr;exact zTo ho hd hx hy h1 (h s h2)
theorem qGz{α:Type}{k:UInt8→Option α}{r:α}{s:ByteArray}{ix:Int}(d t:Nat)(x y:Operand)(hr:(idxB s ix).bind k=some r)(h:∀z:UInt8,k z=some r→N ((d,.int .u8 (z.toNat:Int))::L) w)
  (ho:opAt ops L i=some (some d,.index t x y):=by kernel_rfl) (hd:Nat.blt d n=true:=by exact rfl) (hx:evL L x=some (.string s):=by kernel_rfl) (hy:evL L y=some (.int .i64 ix):=by kernel_rfl) (hu:P.underlying t=some .string:=by kernel_rfl):One P n ops Q i N L w:=by
 obtain⟨z,h1,h2⟩:=qAz hr;exact zEm (k:= .i64) ho hd hx hy hu h1 (h z h2)
theorem qDi{α β:Type}{c:Codec α}{a:Option Addr}{cap:Nat}{l:List α}{ix:Int}{k:α→Option β}{r:β}(d t e:Nat)(x y:Operand)(hrp:RepS c m a cap l)(hr:(idx l ix).bind k=some r)
  (h:∀z,k z=some r→∀b o cs,c.rep m z cs→MRow m b o cs→N ((d,.pointer (some ⟨b,o,none⟩))::L) w) (ho:opAt ops L i=some (some d,.indexAddr t x y):=by kernel_rfl) (hd:Nat.blt d n=true:=by exact rfl)
  (hx:evL L x=some (.slice a l.length cap):=by kernel_rfl) (hy:evL L y=some (.int .i64 ix):=by kernel_rfl) (hi:qJf P t=some (e,c.sz):=by kernel_rfl):One P n ops Q i N L w:=by
 obtain⟨z,h1,h2⟩:=qAz hr;exact zPo (k:= .i64) c ho hd hx hy hi hrp h1 (h z h2)
theorem qHi{α β:Type}{c:Codec α}{a:Option Addr}{cap:Nat}{l k:List α}{v:Value}{f:List α→Option β}{r:β}(d t u e by_:Nat)(x y:Operand)(hst:St m (.room a l.length cap e c.sz::own) w)(hu:zEr P u e)(hrp:RepS c m a cap l)(hg:Gives P c m v k)(hr:(qEb by_ l k).bind f=some r)
  (h:∀z,f z=some r→∀a' cap' m' w',m.le m'→St m' (.room a' (List.length z) cap' e c.sz::own) w'→RepS c m' a' cap' z→N ((d,.slice a' (List.length z) cap')::L) w')
  (ho:opAt ops L i=some (some d,.call {callee:= .builtin .append,args:= #[x,y],argTypes:= #[t,u]}):=by kernel_rfl) (hd:Nat.blt d n=true:=by exact rfl) (hx:evL L x=some (.slice a l.length cap):=by kernel_rfl) (hy:evL L y=some v:=by kernel_rfl)
  (hi:qOr P t=some (e,c.sz,by_,c.sz):=by kernel_rfl):One P n ops Q i N L w:=by
 obtain⟨z,h1,h2⟩:=qAz hr;exact zLl c ho hd hx hy hst hi hu hrp hg h1 (h z h2)
theorem qCz{α:Type}{b:Bool}{A B:Option α}{r:α}(t:Nat)(hr:(if b=true then A else B)=some r)(ht:b=true→A=some r→WO P n ops Q i ((t,.bool true)::L) w)(hf:b=false→B=some r→WO P n ops Q i ((t,.bool false)::L) w)
  (hl:look L t=some (.bool b):=by kernel_rfl):WO P n ops Q i L w:=by
 cases b with
 |true=>exact zMi true hl rfl (ht rfl (by rw[if_pos rfl] at hr;exact hr))
 |false=>exact zMi false hl rfl (hf rfl (by rw[if_neg gN] at hr;exact hr))
theorem tA{m':Mem}{p x:Prop}(st:St m' own w)(h:m.le m')(k:x):((p∨Inv m w∧True)∧True)∧x:=⟨⟨iA st h,trivial⟩,k⟩
class QC(Q:Exit→Act→World→Prop):Prop where
 out:QP Q
instance qc1{K:Act→World→Prop}[h:QC Q]:QC (Exit.then K Q):=⟨qAo h.out⟩
instance qc2{id:Nat}[h:QC Q]:QC (Exit.inBlock id Q):=⟨qBb h.out⟩
instance qc3{fn:Func}{R:Ending→World→Prop}:QC (bodyPost P fn R):=⟨qDj⟩
instance qc4[h:QC Q]:QC (noGoto Q):=⟨h.out⟩
instance qc5{fn:Func}{R:Ending→World→Prop}:QC (bodyQ P fn R):=⟨fun _ _ _ _ _ h=>h⟩
instance qc6{l:Nat}{R:Ending→World→Prop}:QC (roundPost P l R):=⟨fun _ _ _ _ _ h=>h⟩
instance qc7{l:Nat}{body:Code}{R:Ending→World→Prop}:QC (roundA P l body R):=⟨fun _ _ _ _ _ h=>h⟩
instance qc8:QC (noP Q):=⟨fun _ _ _ _ _ h=>h⟩
variable [hq:QC Q] {ks:List (Nat×(World→Prop))} {k fuel:Nat} {S:World→Prop} {done:List Nat}
theorem qBa(i d:Nat)(v:Value)(hmem:(k,S)∈ks)(h:WA P n ops Q ks fuel (done++[i]) ((d,v)::L) w)(ho:zQc P ops L i=some (d,v):=by kernel_rfl)(hd:Nat.blt d n=true:=by exact rfl)(hs:qNg ops ks k i done=true:=by kernel_rfl):WA P n ops Q ks (fuel+1) done L w:=
 zUp i d v ho hd hs hmem hq.out h
theorem qDg(i d:Nat)(hmem:(k,S)∈ks)(h:WA P n ops Q ks fuel (done++[i]) ((d,undef)::L) w)(ho:((ops[i]?).bind fun o=>(qMq ops L o.guard).map fun b=>(o.dst,b))=some (some d,false):=by kernel_rfl)(hd:Nat.blt d n=true:=by exact rfl)
 (hs:qNg ops ks k i done=true:=by kernel_rfl):WA P n ops Q ks (fuel+1) done L w:=WA_not i d ho hd hs hmem hq.out h
theorem qKa{e:Nat}{b:Nat}{c:Array Value}{f:Nat×Nat}(t':Nat)(x:Operand)(i d o:Nat)(v:Value)(hmem:(k,S)∈ks)(hI:∀w,S w→Piece.holds m w (.blk b (.cells c e f)))(h:WA P n ops Q ks fuel (done++[i]) ((d,v)::L) w)
  (ho:opAt ops L i=some (some d,.load t' x):=by kernel_rfl) (hd:Nat.blt d n=true:=by exact rfl) (hs:qNg ops ks k i done=true:=by kernel_rfl) (hx:evL L x=some (.pointer (some ⟨b,o,none⟩)):=by kernel_rfl) (hv:qUt P t' (c.toList.drop o)=some v:=by kernel_rfl):WA P n ops Q ks (fuel+1) done L w:=
 zHo i d v ho hd hs hmem hq.out hI hx hv h
theorem qJb{b:Nat}{cs:List Value}(t:Nat)(x:Operand)(i d o:Nat)(v:Value)(hmem:(k,S)∈ks)(hI:∀w,S w→Inv m w)(hr:MRow m b o cs)(h:WA P n ops Q ks fuel (done++[i]) ((d,v)::L) w)
  (ho:opAt ops L i=some (some d,.load t x):=by kernel_rfl) (hd:Nat.blt d n=true:=by exact rfl) (hs:qNg ops ks k i done=true:=by kernel_rfl) (hx:evL L x=some (.pointer (some ⟨b,o,none⟩)):=by kernel_rfl) (hv:qUt P t cs=some v:=by kernel_rfl):WA P n ops Q ks (fuel+1) done L w:=
 zHk i d v ho hd hs hmem hq.out hI hx hr hv h
theorem qDx{α:Type}{k':ByteArray→Option α}{r:α}{a b:ByteArray}(t t2:Nat)(x y:Operand)(i d:Nat)(hmem:(k,S)∈ks)(hr:(catB a b).bind k'=some r)(h:∀s,k' s=some r→WA P n ops Q ks fuel (done++[i]) ((d,.string s)::L) w)
  (ho:opAt ops L i=some (some d,.binOp .add t x y t2):=by kernel_rfl) (hd:Nat.blt d n=true:=by exact rfl) (hs:qNg ops ks k i done=true:=by kernel_rfl) (hx:evL L x=some (.string a):=by kernel_rfl) (hy:evL L y=some (.string b):=by kernel_rfl):WA P n ops Q ks (fuel+1) done L w:=by
 obtain⟨z,h1,h2⟩:=qAz hr;exact WA_cat i d ho hd hs hmem hq.out hx hy h1 (h z h2)
end
end
end Go.Dc
namespace Go.Proofs.YtfbdkahdgbimeaaGreatDoor
section
open Go Go.Dc
abbrev Ta:=ByteArray
abbrev Tb:=List Ta
abbrev Tc:=Option Tb
abbrev Td:=Option Int
abbrev Te:=List Int
abbrev Tf:=Te×Int
abbrev Tg:=Tf×Int
abbrev Th:=Tf×Ta
abbrev Ti:=Option Th
abbrev Tj:=Option (Int⊕Unit⊕Bool)
abbrev Tk:=Option Bool
abbrev Tl:=Option Ta
abbrev Tm:=Ta×Int×Tf
abbrev Tn:=Ta×Tf
abbrev To:=Ta×Tb×Int×Tf
abbrev Tp:=Ta×Int
abbrev Tq:=Tp⊕Ta
abbrev Tr:=Ta×Ta
abbrev Ts:=List Tr
abbrev Tt:=Int×Ts
abbrev Tu:=Bool×Ts
abbrev Tv:=List UInt8
abbrev Tw:=Tv×Int×Tf
abbrev Tx:=Ts×Tf
abbrev Ty:=Int×Tx
abbrev Tz:=Tf×Ts
abbrev T10:=Int⊕Unit⊕Tz
abbrev T11:=List Tp
abbrev T12:=T11×Tf
abbrev T13:=Tf×T11
abbrev T14:=Int×Tr
abbrev T15:=Int×Int
abbrev T16:=Option (List T15)
abbrev T17:=Int×Tb
abbrev T18:=Ta×T17
abbrev T19:=List T14
abbrev T1a:=Option (Int⊕Unit⊕Int)
abbrev T1b:=Int×T19
abbrev T1c:=T19×Int
abbrev T1d:=Int×Ta×T15
abbrev T1e:=List T1d
abbrev T1f:=Int×Int×Int×Ta×Te
abbrev T1g:=List T1f
abbrev T1h:=T1e×Int×Int×Int×Tb×T1g×Te
abbrev T1i:=T1h×T1d
abbrev T1j:=T1h×Bool
abbrev T1k:=Option (Bool×T1h)
abbrev T1l:=Option T1h
abbrev T1m:=T1h×Ta
abbrev T1n:=Int×Ta×Tb×T1g
abbrev T1o:=List T1n
abbrev T1p:=Ta×Tb×T1o
abbrev T1q:=T1h×Int
abbrev T1r:=Option T1q
abbrev T1s:=Te×T1h
abbrev T1t:=Int×T1h
abbrev T1u:=T1t⊕T1t
abbrev T1v:=T1t⊕T1u
abbrev T1w:=T1e×Int×Int×Int×Tb×T1g×Te×Tb
abbrev T1x:=T1h×T1n
abbrev T1y:=T1e×Int×Int×Int×Tb×T1g×Tf
abbrev T1z:=T1e×Int×Int×Int×Tb×T1g×Te×T1o
abbrev T20:=List T1p
abbrev T21:=Tb×T20
abbrev T22:=Ta×Ta×T15
abbrev T23:=Int×T22
abbrev T24:=Ta×Ta×T1d
abbrev T25:=Tv×Int
abbrev T26:=Tb×Int
abbrev T27:=T19×Int×Tf
abbrev T28:=T19×Tf
abbrev C1:=qVi cStr cStr
abbrev C2:=cInt .i64
abbrev C3:=qVi cStr C2
abbrev C4:=qVi C2 C1
abbrev C5:=qVi C2 (qVi cStr (qVi C2 C2))
abbrev C6:=qVi C2 (qVi C2 (qVi C2 (qVi cStr (cSl C2))))
abbrev C7:=qVi C2 (qVi cStr (qVi (cSl cStr) (cSl C6)))
abbrev C8:=qVi cStr (qVi (cSl cStr) (cSl C7))
abbrev vS{α:Type}(a:Option Addr)(l:List α)(c:Nat):Value:= .slice a (List.length l) c
abbrev vP(b o:Nat):Value:= .pointer (some ⟨b,o,none⟩)
abbrev vI(x:Int):Value:= .int .i64 x
abbrev vT(s:ByteArray):Value:= .string s
abbrev vB(b:Bool):Value:= .bool b
abbrev eB:ByteArray:=⟨#[]⟩
abbrev aP(b:Nat):Option Addr:=some ⟨b,0,none⟩
abbrev kB(b:Nat)(c:Array Value)(e:Nat):Piece:= .blk b (.cells c e (0,0))
abbrev kR{α:Type}(a:Option Addr)(l:List α)(c e s:Nat):Piece:= .room a (List.length l) c e s
abbrev V1{α0:Type}(p:List α0×Int)(a0:Option Addr)(c0:Nat):Array Value:= #[vS a0 p.1 c0,vI p.2]
abbrev V2(p:ByteArray×ByteArray):Array Value:= #[vT p.1,vT p.2]
abbrev V3(p:ByteArray×ByteArray):List Value:=[vT p.1,vT p.2]
abbrev V4(p:Int×ByteArray×ByteArray):Array Value:= #[vI p.1,vT p.2.1,vT p.2.2]
abbrev V5(x0:Int)(x1:ByteArray)(x2:ByteArray):Array Value:= #[vI x0,vT x1,vT x2]
abbrev V6(p:Int×ByteArray×ByteArray):List Value:=[vI p.1,vT p.2.1,vT p.2.2]
abbrev V7(p:Int×ByteArray×Int×Int):Array Value:= #[vI p.1,vT p.2.1,vI p.2.2.1,vI p.2.2.2]
abbrev V8(x0:Int)(x1:ByteArray)(x2:Int)(x3:Int):Array Value:= #[vI x0,vT x1,vI x2,vI x3]
abbrev V9{α0:Type}{α4:Type}{α5:Type}{α6:Type}(p:List α0×Int×Int×Int×List α4×List α5×List α6)(a0:Option Addr)(c0:Nat)(a4:Option Addr)(c4:Nat)(a5:Option Addr)(c5:Nat)(a6:Option Addr)(c6:Nat):Array Value:= #[vS a0 p.1 c0,vI p.2.1,vI p.2.2.1,vI p.2.2.2.1,vS a4 p.2.2.2.2.1 c4,vS a5 p.2.2.2.2.2.1 c5,vS a6 p.2.2.2.2.2.2 c6]
abbrev Va{α0:Type}{α4:Type}{α5:Type}{α6:Type}(a0:Option Addr)(l0:List α0)(c0:Nat)(x1:Int)(x2:Int)(x3:Int)(a4:Option Addr)(l4:List α4)(c4:Nat)(a5:Option Addr)(l5:List α5)(c5:Nat)(a6:Option Addr)(l6:List α6)(c6:Nat):Array Value:= #[vS a0 l0 c0,vI x1,vI x2,vI x3,vS a4 l4 c4,vS a5 l5 c5,vS a6 l6 c6]
abbrev Vb{α1:Type}{α2:Type}(p:ByteArray×List α1×List α2)(a1:Option Addr)(c1:Nat)(a2:Option Addr)(c2:Nat):Array Value:= #[vT p.1,vS a1 p.2.1 c1,vS a2 p.2.2 c2]
abbrev Vc{α2:Type}{α3:Type}(p:Int×ByteArray×List α2×List α3)(a2:Option Addr)(c2:Nat)(a3:Option Addr)(c3:Nat):Array Value:= #[vI p.1,vT p.2.1,vS a2 p.2.2.1 c2,vS a3 p.2.2.2 c3]
abbrev Vd{α4:Type}(p:Int×Int×Int×ByteArray×List α4)(a4:Option Addr)(c4:Nat):Array Value:= #[vI p.1,vI p.2.1,vI p.2.2.1,vT p.2.2.2.1,vS a4 p.2.2.2.2 c4]
abbrev Ve{α4:Type}(p:Int×Int×Int×ByteArray×List α4)(a4:Option Addr)(c4:Nat):List Value:=[vI p.1,vI p.2.1,vI p.2.2.1,vT p.2.2.2.1,vS a4 p.2.2.2.2 c4]
abbrev Vf{α1:Type}{α2:Type}(p:ByteArray×List α1×List α2)(a1:Option Addr)(c1:Nat)(a2:Option Addr)(c2:Nat):List Value:=[vT p.1,vS a1 p.2.1 c1,vS a2 p.2.2 c2]
abbrev Vg{α2:Type}{α3:Type}(p:Int×ByteArray×List α2×List α3)(a2:Option Addr)(c2:Nat)(a3:Option Addr)(c3:Nat):List Value:=[vI p.1,vT p.2.1,vS a2 p.2.2.1 c2,vS a3 p.2.2.2 c3]
abbrev Vh{α0:Type}{α1:Type}(p:List α0×List α1)(a0:Option Addr)(c0:Nat)(a1:Option Addr)(c1:Nat):Array Value:= #[vS a0 p.1 c0,vS a1 p.2 c1]
abbrev Vi(p:ByteArray×ByteArray×Int×ByteArray×Int×Int):Array Value:= #[vT p.1,vT p.2.1,vI p.2.2.1,vT p.2.2.2.1,vI p.2.2.2.2.1,vI p.2.2.2.2.2]
abbrev Vj(x0:ByteArray)(x1:ByteArray)(x2:Int)(x3:ByteArray)(x4:Int)(x5:Int):Array Value:= #[vT x0,vT x1,vI x2,vT x3,vI x4,vI x5]
abbrev Vk{α0:Type}{α1:Type}(p:List α0×List α1)(a0:Option Addr)(c0:Nat)(a1:Option Addr)(c1:Nat):List Value:=[vS a0 p.1 c0,vS a1 p.2 c1]
abbrev ba:ByteArray:=⟨#[97,46,115,114,99]⟩
abbrev bb:ByteArray:=⟨#[98,46,115,114,99]⟩
abbrev bc:ByteArray:=⟨#[100,47,99,46,115,114,99]⟩
abbrev bd:ByteArray:=⟨#[120,46,115,114,99]⟩
abbrev be:ByteArray:=⟨#[112]⟩
abbrev bf:ByteArray:=⟨#[113]⟩
abbrev bg:ByteArray:=⟨#[115]⟩
abbrev bh:ByteArray:=⟨#[116]⟩
abbrev bi:ByteArray:=⟨#[117]⟩
abbrev bj:ByteArray:=⟨#[118]⟩
abbrev bk:ByteArray:=⟨#[97,46,100,97,116]⟩
abbrev bl:ByteArray:=⟨#[100,47,98,46,100,97,116]⟩
abbrev bm:ByteArray:=⟨#[99]⟩
abbrev bn:ByteArray:=⟨#[110]⟩
abbrev bo:ByteArray:=⟨#[109]⟩
abbrev bp:ByteArray:=⟨#[48,49,50,51,52,53,54,55,56,57]⟩
abbrev bq:ByteArray:=⟨#[102]⟩
abbrev br:ByteArray:=⟨#[103]⟩
abbrev bs:ByteArray:=⟨#[104]⟩
abbrev bu:ByteArray:=⟨#[107]⟩
abbrev bv:ByteArray:=⟨#[34,41]⟩
abbrev bw:ByteArray:=⟨#[41]⟩
abbrev bx:ByteArray:=⟨#[40]⟩
abbrev bz:ByteArray:=⟨#[44,32]⟩
abbrev b14:ByteArray:=⟨#[43]⟩
abbrev b15:ByteArray:=⟨#[45]⟩
abbrev b16:ByteArray:=⟨#[42]⟩
abbrev b17:ByteArray:=⟨#[47]⟩
abbrev b18:ByteArray:=⟨#[37]⟩
abbrev b19:ByteArray:=⟨#[60]⟩
abbrev b1a:ByteArray:=⟨#[61,61]⟩
abbrev b1b:ByteArray:=⟨#[59,10]⟩
abbrev b1c:ByteArray:=⟨#[97]⟩
abbrev b1d:ByteArray:=⟨#[98]⟩
abbrev b1e:ByteArray:=⟨#[112,97,99,107,97,103,101,32]⟩
abbrev b1f:ByteArray:=⟨#[102,117,110,99]⟩
abbrev b1g:ByteArray:=⟨#[125]⟩
abbrev b1h:ByteArray:=⟨#[34]⟩
abbrev b1i:ByteArray:=⟨#[116,101,115,116,32,116,32,61,32,49,59]⟩
abbrev b1j:ByteArray:=⟨#[120]⟩
abbrev b1k:ByteArray:=⟨#[105,109,112,111,114,116,32]⟩
abbrev b1l:ByteArray:=⟨#[97,98,99,100,101,102,103,104,105,106,107,108,109,110,111,112,113,114,115,116,117,118,119,120,121,122]⟩
abbrev b1m:ByteArray:=⟨#[95]⟩
abbrev b1n:ByteArray:=⟨#[46]⟩
abbrev b1o:ByteArray:=⟨#[9,10,13,32]⟩
abbrev b1p:ByteArray:=⟨#[35]⟩
abbrev b1q:ByteArray:=⟨#[59,44,40,41,43,45,42,47,37,60,61]⟩
abbrev b1r:ByteArray:=⟨#[112,97,99,107,97,103,101]⟩
abbrev b1s:ByteArray:=⟨#[105,109,112,111,114,116]⟩
abbrev b1t:ByteArray:=⟨#[116,101,115,116]⟩
abbrev b1u:ByteArray:=⟨#[103,101,110]⟩
abbrev b1v:ByteArray:=⟨#[105,102]⟩
abbrev b1w:ByteArray:=⟨#[116,104,101,110]⟩
abbrev b1x:ByteArray:=⟨#[101,108,115,101]⟩
abbrev b1y:ByteArray:=⟨#[114,101,97,100]⟩
abbrev b1z:ByteArray:=⟨#[115,105,122,101]⟩
abbrev b20:ByteArray:=⟨#[104,97,115]⟩
abbrev b21:ByteArray:=⟨#[101,110,118]⟩
abbrev b22:ByteArray:=⟨#[102,108,105,112]⟩
abbrev b23:ByteArray:=⟨#[32]⟩
abbrev b24:ByteArray:=⟨#[61]⟩
abbrev P1{X1:Type}{X2:Type}{X3:Type}(m:Mem)(a0:Option Addr)(c0:Nat)(a1:Option Addr)(c1:Nat)(a2:Option Addr)(c2:Nat)(a3:Option Addr)(c3:Nat)(p:(List ((Int)×((ByteArray)×((Int)×(Int)))))×((X3)×((X2)×((X1)×((List (ByteArray))×((List ((Int)×((Int)×((Int)×((ByteArray)×(List (Int)))))))×(List (Int)))))))):Prop:=RepS C5 m a0 c0 p.1∧RepS cStr m a1 c1 p.2.2.2.2.1∧RepS C6 m a2 c2 p.2.2.2.2.2.1∧RepS (cInt .i64) m a3 c3 p.2.2.2.2.2.2
abbrev P2(m:Mem)(a0:Option Addr)(c0:Nat)(a1:Option Addr)(c1:Nat)(p:(List (ByteArray))×(List ((Int)×((Int)×((Int)×((ByteArray)×(List (Int)))))))):Prop:=RepS cStr m a0 c0 p.1∧RepS C6 m a1 c1 p.2
abbrev P3{X1:Type}{X2:Type}{X3:Type}{X4:Type}(m:Mem)(a0:Option Addr)(c0:Nat)(a1:Option Addr)(c1:Nat)(a2:Option Addr)(c2:Nat)(a3:Option Addr)(c3:Nat)(p:(List ((Int)×((ByteArray)×((Int)×(Int)))))×((X4)×((X3)×((X2)×((List (ByteArray))×((List ((Int)×((Int)×((Int)×((ByteArray)×(List (Int)))))))×((List (Int))×(X1)))))))):Prop:=RepS C5 m a0 c0 p.1∧RepS cStr m a1 c1 p.2.2.2.2.1∧RepS C6 m a2 c2 p.2.2.2.2.2.1∧RepS (cInt .i64) m a3 c3 p.2.2.2.2.2.2.1
abbrev P4{X1:Type}{X2:Type}{X3:Type}(m:Mem)(a0:Option Addr)(c0:Nat)(a1:Option Addr)(c1:Nat)(a2:Option Addr)(c2:Nat)(a3:Option Addr)(c3:Nat)(a4:Option Addr)(c4:Nat)(p:(List ((Int)×((ByteArray)×((Int)×(Int)))))×((X3)×((X2)×((X1)×((List (ByteArray))×((List ((Int)×((Int)×((Int)×((ByteArray)×(List (Int)))))))×((List (Int))×(List (ByteArray))))))))):Prop:=RepS C5 m a0 c0 p.1∧RepS cStr m a1 c1 p.2.2.2.2.1∧RepS C6 m a2 c2 p.2.2.2.2.2.1∧RepS (cInt .i64) m a3 c3 p.2.2.2.2.2.2.1∧RepS cStr m a4 c4 p.2.2.2.2.2.2.2
abbrev P5(m:Mem)(a0:Option Addr)(c0:Nat)(a1:Option Addr)(c1:Nat)(p:(List (ByteArray))×(List ((Int)×((ByteArray)×((List (ByteArray))×(List ((Int)×((Int)×((Int)×((ByteArray)×(List (Int)))))))))))):Prop:=RepS cStr m a0 c0 p.1∧RepS C7 m a1 c1 p.2
abbrev P6(m:Mem)(a0:Option Addr)(c0:Nat)(a1:Option Addr)(c1:Nat)(p:(List (ByteArray))×(List ((ByteArray)×((List (ByteArray))×(List ((Int)×((ByteArray)×((List (ByteArray))×(List ((Int)×((Int)×((Int)×((ByteArray)×(List (Int))))))))))))))):Prop:=RepS cStr m a0 c0 p.1∧RepS C8 m a1 c1 p.2
abbrev _root_.Go.Dc.St.f1:=@Go.Dc.St.front1
abbrev _root_.Go.Dc.St.f10:=@Go.Dc.St.front10
abbrev _root_.Go.Dc.St.f11:=@Go.Dc.St.front11
abbrev _root_.Go.Dc.St.f2:=@Go.Dc.St.front2
abbrev _root_.Go.Dc.St.f3:=@Go.Dc.St.front3
abbrev _root_.Go.Dc.St.f4:=@Go.Dc.St.front4
abbrev _root_.Go.Dc.St.f5:=@Go.Dc.St.front5
abbrev _root_.Go.Dc.St.f6:=@Go.Dc.St.front6
abbrev _root_.Go.Dc.St.f7:=@Go.Dc.St.front7
abbrev _root_.Go.Dc.St.f8:=@Go.Dc.St.front8
abbrev _root_.Go.Dc.St.f9:=@Go.Dc.St.front9
abbrev _root_.Go.Dc.St.h:=@Go.Dc.St.head
abbrev _root_.Go.Dc.St.t:=@Go.Dc.St.tail
abbrev wr(x:Int):Int:=IntKind.wrap .i64 x
abbrev v1:Value:=vS none ([]:Tb) 0
abbrev v2:Value:= .slice none 0 0
abbrev v6:Value:=vS none ([]:Ts) 0
abbrev v7:Value:=vS none ([]:T19) 0
abbrev v8:Value:=vS none ([]:T1e) 0
abbrev va:Value:=vS none ([]:Te) 0
abbrev vb:Value:=vS none ([]:T1g) 0
abbrev vc:Value:=vS none ([]:T1o) 0
abbrev vd:Value:=vS none ([]:T20) 0
end
end Go.Proofs.YtfbdkahdgbimeaaGreatDoor
