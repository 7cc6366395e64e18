/- No condition but those of each theorem. -/
import Derived.Test.YtndcdhopdbkikabGreatDoorProg
import Derived.WalkKit
import Derived.Deep.LoopGhost
import Derived.KernelRfl
import Derived.OrdersHeld
import Derived.OrdersIn
import Derived.LoopNIn
import Derived.Sort.LoopGhostIn
import Derived.Laws.AppendOwn
import Derived.RangeFuncLeaves
import Derived.RangeFuncRecord
import Derived.MapKept
import Derived.Maps.RangeRun
import Derived.ChangeKeysEq
import Derived.HandedShaped
import Derived.ChangeStays
import Derived.ChangeSame
import Derived.OpenShut
import Derived.WideShapes
import Derived.JoinedOf
import Derived.ReadAgain
import Derived.ChangeAt
import Derived.RowKit
import Derived.Lib.Overlaps
import Derived.Shelf.SlSortCmp.NoneTotal
import Derived.WalkSmall
import Derived.Recover
section
theorem aa{p:Prop}(h:p:=by omega):p:=h
theorem ac{p:Prop}(h:p:=by decide):p:=h
theorem ae{p:Prop}(h:p:=by simp):p:=h
theorem ag{p:Prop}(h:p:=by kernel_rfl):p:=h
theorem ah{p:Prop}(h:p:=by simp;omega):p:=h
theorem ai{p:Prop}(h:p:=by assumption):p:=h
theorem ak{p:Prop}(h:p:=by simp only;omega):p:=h
theorem al{p:Prop}(h:p:=by first|omega|(dsimp only;omega)):p:=h
theorem am{p:Prop}(h:p:=by decide+kernel):p:=h
namespace Go
abbrev wI(x:Int):Int:=IntKind.wrap .i64 x
abbrev j0:=@Option.bind_some
abbrev j6:=@decide_eq_true_eq
abbrev j9:=@Bool.false_eq_true
abbrev jA:=@if_neg
abbrev jB:=@if_pos
abbrev jC:=@List.length_cons
abbrev jD:=@List.length_nil
abbrev jE:=@Option.some.inj
abbrev jF:=@if_false
abbrev jG:=@List.length_append
abbrev jH:=@if_true
abbrev jI:=@decide_eq_true
abbrev jJ:=@Option.some.injEq
abbrev jK:=@List.mem_cons
abbrev jL:=@Option.map_eq_some_iff
abbrev jM:=@List.drop_eq_getElem_cons
abbrev jN:=@Nat.le_refl
abbrev jO:=@List.drop_eq_nil_of_le
abbrev jP:=@decide_eq_false
abbrev jQ:=@Option.bind_eq_some_iff
abbrev jR:=@List.mem_cons_self
abbrev jS:=@Bool.and_eq_true
abbrev jT:=@List.size_toArray
abbrev jU:=@List.mem_cons_of_mem
abbrev jV:=@List.getD_eq_getElem?_getD
abbrev jW:=@List.all_eq_true
abbrev jX:=@List.drop_zero
abbrev jY:=@List.pairwise_cons
abbrev jZ:=@Int.toNat_natCast
abbrev kA:=@Bool.eq_iff_iff
abbrev kC:=@List.eq_nil_of_length_eq_zero
abbrev kD:=@List.foldl_cons
abbrev kE:=@List.getElem_mem
abbrev kF:=@congrArg
abbrev kG:=@beq_iff_eq
abbrev kH:=@List.nil_append
abbrev kI:=@Bool.not_false
abbrev kJ:=@Sum.map_inr
abbrev kK:=@Nat.zero_le
abbrev kL:=@Option.map_some
abbrev kM:=@List.take_append_of_le_length
abbrev kN:=@Nat.add_mul
abbrev kO:=@List.length_drop
abbrev kP:=@Bool.not_true
abbrev kQ:=@List.map_cons
abbrev kS:=@Nat.not_lt_zero
abbrev kT:=@List.take_succ_eq_append_getElem
abbrev kU:=@List.append_assoc
abbrev kV:=@List.cons.injEq
abbrev kW:=@Nat.mul_le_mul_right
abbrev kX:=@List.flatMap_cons
abbrev kY:=@Nat.le_of_ble_eq_true
abbrev kZ:=@List.mem_of_find?_eq_some
abbrev gA:=@Nat.zero_add
abbrev gB:=@List.drop_append_of_le_length
abbrev gC:=@Nat.le_trans
abbrev gD:=@List.length_singleton
abbrev gE:=@List.filter_cons
abbrev gF:=@List.mem_append_left
abbrev gG:=@List.extract_eq_take_drop
abbrev gH:=@List.append_nil
abbrev gI:=@List.perm_middle
abbrev gJ:=@List.not_mem_nil
abbrev gK:=@Int.natCast_succ
abbrev gL:=@List.mem_map_of_mem
abbrev gM:=@List.mem_filter
abbrev gN:=@List.length_map
abbrev gO:=@Bool.false_ne_true
abbrev gP:=@Option.getD_some
abbrev gQ:=@List.length_take
abbrev gS:=@List.takeWhile_cons_of_pos
abbrev gT:=@List.take_of_length_le
abbrev gU:=@of_decide_eq_true
abbrev gV:=@List.nodup_cons
abbrev gW:=@List.mem_map
abbrev gX:=@List.mem_singleton
abbrev gY:=@List.mem_of_getElem?
abbrev gZ:=@Nat.add_zero
abbrev fA:=@Option.bind_assoc
abbrev fB:=@List.map_inj_left
abbrev fC:=@List.foldl_append
abbrev fD:=@List.mem_append
abbrev fE:=@Array.toList_modify
abbrev fF:=@List.takeWhile_cons_of_neg
abbrev fG:=@beq_self_eq_true
abbrev fH:=@Nat.eq_of_beq_eq_true
abbrev fI:=@Array.toList_extract
abbrev fJ:=@bne_iff_ne
abbrev fK:=@Array.toList_push
abbrev fL:=@Nat.add_assoc
abbrev fM:=@List.length_pos_iff
abbrev fN:=@List.filterMap_cons
abbrev fO:=@List.take_length
abbrev fP:=@List.mem_flatMap
abbrev fQ:=@List.any_eq_true
abbrev fR:=@List.mem_range
abbrev fS:=@List.getElem_cons_drop
abbrev fT:=@Nat.lt_of_lt_of_le
abbrev fU:=@Nat.add_comm
abbrev fV:=@List.set_append_right
abbrev fW:=@List.length_filter_le
abbrev fX:=@not_false_eq_true
abbrev fY:=@bne_self_eq_false
abbrev fZ:=@Bool.not_eq_true'
abbrev hH:=@Array.size_append
abbrev hJ:=@Array.size_replicate
abbrev hQ:=@List.nodup_nil
abbrev hU:=@List.drop_length
abbrev hZ:=@List.drop_append
abbrev dA:=@List.cons_append
abbrev dB:=@Nat.one_mul
abbrev dC:=@List.toList_toArray
abbrev dD:=@List.getElem_modify
abbrev dE:=@List.drop_succ_cons
abbrev dF:=@Array.length_toList
abbrev dG:=@Nat.lt_or_ge
abbrev dH:=@Nat.add_sub_cancel
abbrev dI:=@List.length_eq_zero_iff
abbrev dJ:=@Bool.true_and
abbrev dK:=@Bool.or_eq_true
abbrev dL:=@List.takeWhile_sublist
abbrev dM:=@List.drop_of_length_le
abbrev dN:=@List.ext_getElem?
abbrev dO:=@Int.le_refl
abbrev dP:=@List.getElem_map
abbrev dQ:=@or_false
abbrev dR:=@Bool.false_or
abbrev dS:=@Nat.one_pos
abbrev dT:=@ne_eq
abbrev BA:=ByteArray
theorem ad{p:Prop}(h:p:=by simp only[j6];omega):p:=h
theorem af{p:Prop}(h:p:=by simp only[jC,jD];omega):p:=h
theorem aj{p:Prop}(h:p:=by simp only[jG,jC,jD];omega):p:=h
end Go
end
namespace Go.Dc
section
theorem kr{p:Prop}(h:p:=by kernel_rfl):p:=h
abbrev bF:=List (Nat×Value)
def mE:bF->Nat->Option Value
 |[],_=>none
 |(k,v)::L,t=>bif Nat.beq k t then some v else mE L t
def bY(L:bF):Operand->Option Value
 | .tmp t=>mE L t
 | .const v=>some v
 | .global g=>some (.pointer (some ⟨g,0,none⟩))
 | .func f=>some (.func (.func f) #[] #[])
theorem ev{L:bF}{x:Operand}(v:Value)(h:bY L x=some v:=by kernel_rfl):bY L x=some v:=h
def oR(L:bF)(x:Operand):Value:=(bY L x).getD undef
structure Fr where
 sz:Nat
 marks:List Deferred
instance:Coe Fr Nat:=⟨Fr.sz⟩
def NP(D:Nat):Deferred:={target:= .collected D,args:= #[]}
def Fits(n:Fr)(a:Act)(L:bF):Prop:=a.tmps.size=n.sz/\a.defers=n.marks/\∀t v,mE L t=some v->a.tmps[t]? =some v
theorem Fits.ev{n:Fr}{a:Act}{L:bF}(h:Fits n a L){x:Operand}{v:Value}(b:bY L x=some v):a.eval x=v:=by
 cases x with
 |tmp t=>simp[Act.eval,h.2.2 t v b]
 |const u=>simp[bY] at b;simp[Act.eval,b]
 |global g=>simp[bY] at b;simp[Act.eval,b]
 |func f=>simp[bY] at b;simp[Act.eval,b]
def Hr:Op->Bool
 | .select .. =>false
 |_=>true
def UA(L:bF):List Operand->Bool
 |[]=>true
 |x::l=>(bY L x).isSome&&UA L l
def rL(L:bF)(o:Op):Bool:=Hr o&&UA L o.operands.toList
theorem Uk{L:bF}{l:List Operand}(h:UA L l=true):∀x∈l,(bY L x).isSome=true:=by
 induction l with
 |nil=>simp
 |cons y l b=>
  simp only[UA,jS] at h
  intro x a
  rcases jK.1 a with rfl|a
  .exact h.1
  exact b h.2 x a
theorem Fits.exec{n:Fr}{a:Act}{L:bF}(h:Fits n a L){o:Oper}(ok:rL L o.op=true):execOp a.eval o=execOp (oR L) o:=by
 simp only[rL,jS] at ok
 refine execOp_congr o ?_ ?_
 .intro cs b c;rw[c] at ok;simp[Hr] at ok
 intro x d
 have:=Uk ok.2 x (by simpa using d)
 obtain⟨v,c⟩:=Option.isSome_iff_exists.1 this
 rw[h.ev c];simp[oR,c]
theorem Fits.put{n:Fr}{a:Act}{L:bF}(h:Fits n a L){d:Nat}(g:Nat.blt d n=true)(v:Value):Fits n (a.put (some d) v) ((d,v)::L):=by
 obtain⟨c,e,f⟩:=h
 have hd':d<n:=by simpa[Nat.blt_eq] using g
 refine⟨by simp[Act.put,c],by simp[Act.put,e],?_⟩
 intro t u b
 simp only[mE] at b
 simp only[Act.put]
 by_cases hdt:d=t
 .subst hdt
  simp at b;subst b
  simp[Array.getElem?_setIfInBounds,c,hd']
 have:Nat.beq d t=false:=by cases hb:Nat.beq d t<;>simp_all [Nat.beq_eq]
 rw[this] at b
 simp[Array.getElem?_setIfInBounds,hdt,f t u b]
theorem Fits.sub{n:Fr}{a:Act}{L L':bF}(h:Fits n a L)(b:∀t v,mE L' t=some v->mE L t=some v):Fits n a L':=
 ⟨h.1,h.2.1,λt v c=>h.2.2 t v (b t v c)⟩
def tQ(P:Program){α:Type}:Sem α->Option α
 | .pure a=>some a
 | .program k=>tQ P (k P)
 | .mark _ k=>tQ P k
 |_=>none
theorem BG{P:Program}{α:Type}{s:Sem α}{a:α}(h:tQ P s=some a)(w:World):s.run P w= .ok a w:=by
 induction s with
 |pure b=>simp[tQ] at h;subst h;rfl
 |program k c=>exact c P h
 |mark m k c=>exact c h
 |_=>simp[tQ] at h
def qJ(ops:Array Oper)(L:bF)(g:Option (Nat×Bool)):Option Bool:=
 match g with
 |none=>some true
 |some (j,want)=>match(ops[j]?).bind (·.dst) with
  |none=>some false
  |some t=>match mE L t with
   |none=>none
   |some (.bool b)=>some (bif want then b else !b)
   |some _=>some false
theorem Fits.wanted{n:Fr}{a:Act}{L:bF}(h:Fits n a L){ops:Array Oper}{o:Oper}{b:Bool}(c:qJ ops L o.guard=some b):
  Region.wanted o (yielded ops a.tmps)=b:=by
 unfold qJ at c
 unfold Region.wanted
 cases f:o.guard with
 |none=>simp[f] at c;simp[c]
 |some jw=>
  obtain⟨j,want⟩:=jw
  simp only[f] at c
  simp only[yielded]
  cases e:(ops[j]?).bind (·.dst) with
  |none=>simp[e] at c;subst c;rfl
  |some t=>
   simp only[e] at c
   cases d:mE L t with
   |none=>simp[d] at c
   |some v=>
    have:=h.2.2 t v d
    simp only[d] at c
    cases v<;>simp_all<;>(subst c;cases want<;>simp)
def putL(n:Nat)(d:Option Nat)(v:Value)(L:bF):Option bF:=
 match d with
 |none=>some L
 |some d=>bif Nat.blt d n then some ((d,v)::L) else none
def PL:Option Next->Option Value
 |some (.value v)=>some v
 |some .skip=>some undef
 |_=>none
def nC(P:Program)(n:Nat)(ops:Array Oper):Nat->Nat->bF->Option bF
 |0,_,L=>some L
 |k+1,i,L=>match ops[i]? with
  |none=>none
  |some o=>match qJ ops L o.guard with
   |none=>none
   |some false=>(putL n o.dst undef L).bind λL=>nC P n ops k (i+1) L
   |some true=>bif rL L o.op then(PL (tQ P (execOp (oR L) o))).bind λv=>(putL n o.dst v L).bind λL=>nC P n ops k (i+1) L else none
def lX(ρ:Option Nat):Fence:={Fence.wide with round:=ρ}
def qD(P:Program)(ops:Array Oper)(Q:Exit->Act->World->Prop)(i:Nat)(K:Act->World->Prop)(a:Act)(w:World):Prop:=
 match ops[i]? with
 |none=>K a w
 |some o=>if Region.wanted o (yielded ops a.tmps) then o.uponIn Fence.wide 0 P a K Q ((execOp a.eval o).run P w) else K (a.put o.dst undef) w
def BT(P:Program)(ops:Array Oper)(Q:Exit->Act->World->Prop):List Nat->Act->World->Prop
 |[],a,w=>Q .normal a w
 |i::rest,a,w=>qD P ops Q i (BT P ops Q rest) a w
theorem Ew{ρ:Option Nat}{P:Program}{o:Oper}{a:Act}{K K':Act->World->Prop}{Q:Exit->Act->World->Prop}{r:Result Next}(h:∀a w,K a w->K' a w)(c:o.uponIn Fence.wide 0 P a K Q r):o.uponIn (lX ρ) 0 P a K' Q r:=by
 cases r with
 |ok x w'=>
  cases x<;>simp only[Oper.uponIn] at c ⊢ <;>
   first
    |exact h _ _ c
    |exact⟨λe=>by simp[lX,Fence.wide] at e,CallsIn.mono (F:=lX ρ) c.2 (λe w'' b=>by cases e<;>first|exact h _ _ b|exact b)⟩
    |exact⟨λe=>by simp[lX,Fence.wide] at e,RowsIn.mono (F:=lX ρ) c.2 (λ_ _ b=>h _ _ b)⟩
    |exact⟨λe=>by simp[lX,Fence.wide] at e,RoundIn.mono (F:=lX ρ) c.2 (λe w'' b=>by cases e<;>first|exact h _ _ b|exact b)⟩
 |halt x w'=>cases x<;>simp only[Oper.uponIn] at c ⊢ <;>exact c
theorem TK{P:Program}{ops:Array Oper}{Q:Exit->Act->World->Prop}{i:Nat}{K K':Act->World->Prop}{a:Act}{w:World}(h:∀a w,K a w->K' a w)(b:qD P ops Q i K a w):qD P ops Q i K' a w:=by
 unfold qD at*
 split
 .rename_i ho;simp only[ho] at b;exact h _ _ b
 rename_i o ho
 simp only[ho] at b
 split
 .rename_i hw;simp only[hw,jH] at b;exact Ew (ρ:=none) h b
 rename_i hw;simp only[hw] at b;exact h _ _ b
def HZ(ρ:Option Nat)(ops:Array Oper):Bool:=
 match ρ with
 |none=>true
 |some _=>ops.toList.all λo=>match o.op with
  | .defer _=>false
  |_=>true
theorem Up{ρ:Option Nat}{ops:Array Oper}(h:HZ ρ ops=true){i:Nat}{o:Oper}(b:ops[i]? =some o)(ev:Operand->Value):o.semAt ρ ev=execOp ev o:=by
 cases ρ with
 |none=>rfl
 |some l=>
  refine Oper.semAt_eq _ _ _ λc a=> ?_
  have:=jW.1 h o (by simpa using Array.mem_of_getElem? b)
  rw[a] at this
  exact gO this
theorem Mm{ρ:Option Nat}{P:Program}{ops:Array Oper}{Q:Exit->Act->World->Prop}(d:HZ ρ ops=true){i:Nat}{K K':Act->World->Prop}(b:∀a w,K a w->K' a w){a:Act}{w:World}(h:qD P ops Q i K a w):wpOpIn (lX ρ) 0 P ops Q i K' a w:=by
 unfold qD at h
 unfold wpOpIn
 cases c:ops[i]? with
 |none=>simp only[c] at h ⊢;exact b _ _ h
 |some o=>
  simp only[c] at h ⊢
  by_cases hw:Region.wanted o (yielded ops a.tmps)=true
  .simp only[hw,jH] at h ⊢
   refine⟨λ_ _=>trivial,?_⟩
   have e:o.semAt (lX ρ).round a.eval=execOp a.eval o:=Up d c a.eval
   rw[e]
   exact Ew b h
  simp only[hw] at h ⊢
  exact⟨λ_ _=>trivial,b _ _ h⟩
theorem Kr{ρ:Option Nat}{P:Program}{ops:Array Oper}{Q:Exit->Act->World->Prop}(b:HZ ρ ops=true):∀(l:List Nat) (a:Act) (w:World),BT P ops Q l a w->wpOpsIn (lX ρ) 0 P ops Q l a w
 |[],_,_,h=>h
 |i::rest,a,w,h=>by
  rw[wpOpsIn_cons]
  exact Mm b (Kr b rest) h
def WO(P:Program)(n:Fr)(ops:Array Oper)(Q:Exit->Act->World->Prop)(i:Nat)(L:bF)(w:World):Prop:=
 ∀a,Fits n a L->BT P ops Q (List.range' i (ops.size-i)) a w
theorem MQ{ops:Array Oper}{i:Nat}{o:Oper}(h:ops[i]? =some o):List.range' i (ops.size-i)=i::List.range' (i+1) (ops.size-(i+1)):=by
 have hi:i<ops.size:=(Array.getElem?_eq_some_iff.1 h).1
 have:ops.size-i=(ops.size-(i+1))+1:=by omega
 rw[this,List.range'_succ]
theorem Fits.putL{n:Fr}{a:Act}{L L':bF}(h:Fits n a L){d:Option Nat}{v:Value}(b:Dc.putL n d v L=some L'):Fits n (a.put d v) L':=by
 cases d with
 |none=>simp[Dc.putL] at b;subst b;exact h
 |some d=>
  simp only[Dc.putL] at b
  cases c:Nat.blt d n with
  |false=>simp[c] at b
  |true=>simp[c] at b;subst b;exact h.put c v
section
variable {P:Program} {n:Fr} {ops:Array Oper} {Q:Exit->Act->World->Prop}
theorem Ah:∀(k i:Nat) (L L':bF) (w:World),nC P n ops k i L=some L'->WO P n ops Q (i+k) L' w->WO P n ops Q i L w
 |0,i,L,L',w,h,g=>by simp[nC] at h;subst h;exact g
 |k+1,i,L,L',w,h,g=>by
  intro a f
  simp only[nC] at h
  cases l:ops[i]? with
  |none=>simp[l] at h
  |some o=>
   simp only[l] at h
   rw[MQ l]
   simp only[BT,qD,l]
   cases q:qJ ops L o.guard with
   |none=>simp[q] at h
   |some b=>
    have c:=f.wanted q
    cases b with
    |false=>
     simp only[q] at h
     obtain⟨L1,r,s⟩:=jQ.1 h
     simp only[c,j9,jF]
     exact Ah k (i+1) L1 L' w s (by rw[fL,fU 1 k];exact g) _ (f.putL r)
    |true=>
     simp only[q] at h
     cases e:rL L o.op with
     |false=>simp[e] at h
     |true=>
      simp only[e,cond_true] at h
      obtain⟨v,p,h⟩:=jQ.1 h
      obtain⟨L1,r,s⟩:=jQ.1 h
      simp only[c,jH]
      have next:=Ah k (i+1) L1 L' w s (by rw[fL,fU 1 k];exact g) _ (f.putL r)
      rw[f.exec e]
      cases d:tQ P (execOp (oR L) o) with
      |none=>simp[d,PL] at p
      |some nx=>
       rw[BG d w]
       cases nx<;>simp[d,PL] at p
       case value u=>subst p;exact next
       case skip=>subst p;exact next
theorem BE{d:Nat}{v:Value}:∀{l:bF},mE l d=some v->(d,v)∈l
 |[],h=>by simp[mE] at h
 |(k,u)::l,h=>by
  simp only[mE] at h
  cases a:Nat.beq k d with
  |true=>simp[a] at h;subst h;have:=fH a;subst this;exact jR ..
  |false=>simp[a] at h;exact jU _ (BE h)
def eN(ops:Array Oper)(L:bF)(i:Nat):Option (Option Nat×Op):=
 match ops[i]? with
 |none=>none
 |some o=>match qJ ops L o.guard with
  |some true=>bif rL L o.op then some (o.dst,o.op) else none
  |_=>none
theorem HI{L:bF}{i:Nat}{d:Option Nat}{op:Op}(h:eN ops L i=some (d,op)):
  ∃o,ops[i]? =some o/\o.dst=d/\o.op=op/\qJ ops L o.guard=some true/\rL L o.op=true:=by
 unfold eN at h
 cases e:ops[i]? with
 |none=>simp[e] at h
 |some o=>
  simp only[e] at h
  cases a:qJ ops L o.guard with
  |none=>simp[a] at h
  |some b=>
   cases b with
   |false=>simp[a] at h
   |true=>
    simp only[a] at h
    cases c:rL L o.op with
    |false=>simp[c] at h
    |true=>
     simp[c] at h
     exact⟨o,rfl,h.1,h.2,a,c⟩
def iO(P:Program)(n:Fr)(ops:Array Oper)(Q:Exit->Act->World->Prop)(i:Nat)(N:bF->World->Prop)(L:bF)(w:World):Prop:=
 ∀a,Fits n a L->qD P ops Q i (λa' w'=>∃L',Fits n a' L'/\N L' w') a w
theorem vH{i:Nat}{L:bF}{w:World}(hi:Nat.blt i ops.size=true)(h:iO P n ops Q i (λL w=>WO P n ops Q (i+1) L w) L w):WO P n ops Q i L w:=by
 have hi':i<ops.size:=by simpa[Nat.blt_eq] using hi
 intro a d
 have e:ops[i]? =some ops[i]:=Array.getElem?_eq_getElem hi'
 rw[MQ e]
 have fin:∀a' w',(∃L',Fits n a' L'/\WO P n ops Q (i+1) L' w')->BT P ops Q (List.range' (i+1) (ops.size-(i+1))) a' w':=λa' w' ⟨L',b,c⟩=>c a' b
 exact TK fin (h a d)
variable {N:bF->World->Prop}
theorem oW{i d:Nat}{op:Op}{L:bF}{w w':World}{v:Value}(q:eN ops L i=some (some d,op))(p:Nat.blt d n=true)
  (c:∀o:Oper,o.op=op->(execOp (oR L) o).run P w= .ok (.value v) w')
  (h:N ((d,v)::L) w'):iO P n ops Q i N L w:=by
 obtain⟨o,e,f,g,k,l⟩:=HI q
 intro a b
 unfold qD
 simp only[e,b.wanted k,jH]
 rw[b.exec l,c o g,Oper.uponIn_value,f]
 exact⟨_,b.put p v,h⟩
theorem DI{i:Nat}{op:Op}{L:bF}{w w':World}(l:eN ops L i=some (none,op))
  (c:∀o:Oper,o.op=op->(execOp (oR L) o).run P w= .ok .skip w')
  (h:N L w'):iO P n ops Q i N L w:=by
 obtain⟨o,d,e,f,g,k⟩:=HI l
 intro a b
 unfold qD
 simp only[d,b.wanted g,jH]
 rw[b.exec k,c o f,Oper.uponIn_skip,e]
 exact⟨_,b,h⟩
theorem HQ{i d:Nat}{op:Op}{L:bF}{w w':World}{v:Value}(q:eN ops L i=some (some d,op))(l:Nat.blt d n=true)
  (c:∀o:Oper,o.op=op->∃v' w',(execOp (oR L) o).run P w= .ok (.value v') w'/\N ((d,v')::L) w'):iO P n ops Q i N L w:=by
 obtain⟨o,e,f,g,h,k⟩:=HI q
 obtain⟨v',w'',r,p⟩:=c o g
 intro a b
 unfold qD
 simp only[e,b.wanted h,jH]
 rw[b.exec k,r,Oper.uponIn_value,f]
 exact⟨_,b.put l v',p⟩
def sN(P:Program)(ops:Array Oper)(L:bF)(i:Nat):Option (Option Nat×Nat×Array Value):=
 match ops[i]? with
 |none=>none
 |some o=>match qJ ops L o.guard with
  |some true=>bif rL L o.op then(match tQ P (execOp (oR L) o) with
   |some (.enter f args)=>some (o.dst,f,args)
   |_=>none) else none
  |_=>none
theorem Ei{L:bF}{i f:Nat}{d:Option Nat}{args:Array Value}(h:sN P ops L i=some (d,f,args)):
  ∃o,ops[i]? =some o/\o.dst=d/\qJ ops L o.guard=some true/\rL L o.op=true/\tQ P (execOp (oR L) o)=some (.enter f args):=by
 unfold sN at h
 cases e:ops[i]? with
 |none=>simp[e] at h
 |some o=>
  simp only[e] at h
  cases a:qJ ops L o.guard with
  |none=>simp[a] at h
  |some b=>
   cases b with
   |false=>simp[a] at h
   |true=>
    simp only[a] at h
    cases c:rL L o.op with
    |false=>simp[c] at h
    |true=>
     simp only[c,cond_true] at h
     split at h
     .rename_i f' args' he
      simp only[jJ,Prod.mk.injEq] at h
      obtain⟨g,rfl,rfl⟩:=h
      exact⟨o,rfl,g,a,c,he⟩
     cases h
theorem pP{i:Nat}{L:bF}{w:World}(d f:Nat)(args:Array Value)(q:sN P ops L i=some (some d,f,args))(k:Nat.blt d n=true)
  (h:Calls P f args w λe w'=>∃v,e= .returned v/\N ((d,v)::L) w'):iO P n ops Q i N L w:=by
 obtain⟨o,c,g,r,p,l⟩:=Ei q
 intro a b
 unfold qD
 simp only[c,b.wanted r,jH]
 rw[b.exec p,BG l w,Oper.uponIn_enter]
 refine⟨λe=>by simp[Fence.wide] at e,CallsIn.mono (callsIn_wide.2 h) ?_⟩
 rintro e w' ⟨v,rfl,hk'⟩
 rw[g]
 exact⟨_,b.put k v,hk'⟩
theorem Mg{L:bF}{w:World}{i:Nat}(hi:ops.size=i)(h:∀a,Fits n a L->Q .normal a w):WO P n ops Q i L w:=by
 intro a b
 subst hi
 simp only[Nat.sub_self,List.range'_zero,BT]
 exact h a b
theorem Mf{i:Nat}{L:bF}{w:World}(L':bF)(d:L'.map (λp=>mE L p.1)=L'.map λp=>some p.2)(h:WO P n ops Q i L' w):WO P n ops Q i L w:=by
 intro a b
 refine h a (b.sub ?_)
 intro t v e
 have c:=BE e
 have:=(fB.1 d) (t,v) c
 exact this
end
def W(ρ:Option Nat)(P:Program)(n:Fr)(c:Code)(Q:Exit->Act->World->Prop)(L:bF)(w:World):Prop:=∀a,Fits n a L->c.wpIn (lX ρ) 0 P Q a w
def X(n:Fr)(Q:Exit->Act->World->Prop)(e:Exit)(L:bF)(w:World):Prop:=∀a,Fits n a L->Q e a w
section
variable {ρ:Option Nat} {P:Program} {n:Fr} {Q:Exit->Act->World->Prop} {L:bF} {w:World}
theorem aV{y:Code}(h:W ρ P n y Q L w):X n (Exit.then (λa w=>y.wpIn (lX ρ) 0 P Q a w) Q) .normal L w:=h
theorem HD{K:Act->World->Prop}{id:Nat}(h:X n Q (.exit id) L w):X n (Exit.then K Q) (.exit id) L w:=h
theorem bL{K:Act->World->Prop}(h:X n Q .ret L w):X n (Exit.then K Q) .ret L w:=h
theorem iU{id:Nat}(h:X n Q .normal L w):X n (Exit.inBlock id Q) .normal L w:=h
theorem cF{id:Nat}(h:X n Q .ret L w):X n (Exit.inBlock id Q) .ret L w:=h
theorem rV{id:Nat}(h:X n Q .normal L w):X n (Exit.inBlock id Q) (.exit id) L w:=by
 intro a b;simp only[Exit.inBlock,jH];exact h a b
theorem xU{id id':Nat}(b:Nat.beq id' id=false)(h:X n Q (.exit id') L w):X n (Exit.inBlock id Q) (.exit id') L w:=by
 intro a c
 have:¬id'=id:=by rintro rfl;simp at b
 simp only[Exit.inBlock,jA this];exact h a c
theorem aJ{x y:Code}(h:W ρ P n x (Exit.then (λa w=>y.wpIn (lX ρ) 0 P Q a w) Q) L w):W ρ P n (.seq x y) Q L w:=λa b=>wpIn_seq (h a b)
theorem lB(h:X n Q .normal L w):W ρ P n .skip Q L w:=λa b=>wpIn_skip (h a b)
theorem aT(h:X n Q .ret L w):W ρ P n .ret Q L w:=λa b=>wpIn_ret (h a b)
theorem xZ{id:Nat}(h:X n Q (.exit id) L w):W ρ P n (.exit id) Q L w:=λa b=>wpIn_exit (h a b)
theorem bJ{id:Nat}{c:Code}(h:W ρ P n c (Exit.inBlock id Q) L w):W ρ P n (.block id c) Q L w:=λa b=>wpIn_block (h a b)
theorem zO{id:Nat}{ops:Array Oper}(c:HZ ρ ops=true)(h:WO P n ops Q 0 L w):W ρ P n (.region id ops false) Q L w:=by
 intro a b
 refine wpIn_region (Kr c _ _ _ ?_)
 have:=h a b
 simpa[List.range_eq_range'] using this
theorem nO{id:Nat}{ops:Array Oper}(h:WO P n ops Q 0 L w):W none P n (.region id ops false) Q L w:=zO rfl h
theorem rZ{c:Operand}{x y:Code}(b:Bool)(e:bY L c=some (.bool b))(g:b=true->W ρ P n x Q L w)(f:b=false->W ρ P n y Q L w):W ρ P n (.cond c x y) Q L w:=
 λa d=>wpIn_cond_split (d.ev e) (λh=>g h a d) (λh=>f h a d)
theorem qFk{c:Code}(L':bF)(d:L'.map (λp=>mE L p.1)=L'.map λp=>some p.2)(h:W ρ P n c Q L' w):W ρ P n c Q L w:=by
 intro a b
 refine h a (b.sub ?_)
 intro t v e
 exact(fB.1 d) (t,v) (BE e)
theorem UP{e:Exit}(L':bF)(c:L'.map (λp=>mE L p.1)=L'.map λp=>some p.2)(h:X n Q e L' w):X n Q e L w:=by
 intro a b
 refine h a (b.sub ?_)
 intro t v d
 exact(fB.1 c) (t,v) (BE d)
theorem qFa{c:Code}(I:Nat->bF->World->Prop)(k:Nat)(f:I k L w)
  (round:∀k L w,I k L w->W ρ P n c (Exit.then (λa' w'=>∃k' L',k'<k/\Fits n a' L'/\I k' L' w') Q) L w):W ρ P n (.loop c) Q L w:=by
 intro a b
 refine wpIn_loop_ghost (λk a w=>∃L,Fits n a L/\I k L w) k ⟨L,b,f⟩ ?_
 rintro k a w ⟨L,b,o⟩
 refine wpIn_mono (round k L w o a b) ?_
 intro e a' w' d
 cases e with
 |normal=>obtain⟨k',L',g,h,l⟩:=d;exact⟨k',g,L',h,l⟩
 |_=>exact d
theorem qCk{k:Nat}{I:Nat->bF->World->Prop}(k':Nat)(b:k'<k)(h:I k' L w):X n (Exit.then (λa' w'=>∃k' L',k'<k/\Fits n a' L'/\I k' L' w') Q) .normal L w:=
 λ_ a=>⟨k',L,b,a,h⟩
theorem qCo{f:FuncId}{fn:Func}{c:Code}{args:Array Value}{R:Ending->World->Prop}(e:P.funcs[f]? =some fn)(d:fn.body=some c){k:Nat}(g:fn.ntmps=k)(L:bF)
  (b:L.map (λp=>(args[p.1]?))=L.map λp=>some p.2) (a:Nat.ble args.size k=true) (h:W none P ⟨k,[]⟩ c (bodyPost P fn R) L w):Calls P f args w R:=by
 refine calls_of_wp e d (wpIn_wide.1 (h _ ⟨?_,rfl,?_⟩))
 .subst g
  have:args.size<=fn.ntmps:=kY a
  simp only[hH,hJ];omega
 intro t v n
 have:=(fB.1 b) (t,v) (BE n)
 have l:t<args.size:=(Array.getElem?_eq_some_iff.1 this).1
 simp only[Array.getElem?_append,l,jH]
 exact this
end
attribute [irreducible] BT
end
section
def Ng:List (Nat×Array Value):=[]
structure Mem where
 cell:Nat->Nat->Option Value
 obj:Nat->Option Obj
 wd:World
 ht:∀p∈Ng,∃t f,obj p.1=some (.cells p.2 t f)
def qBq:Bool:=true
def Step(w w':World):Prop:=(w'.os=w.os/\w'.output=w.output)/\w'.tape=w.tape/\(qBq=true->w.drawn<=w'.drawn)
theorem oQ{p:Prop}(h:p:=by first|exact λ_=>jN _|exact λ_=>Nat.le_succ _):p:=h
theorem Step.refl(w:World):Step w w:=⟨⟨rfl,rfl⟩,rfl,oQ⟩
theorem Step.trans{c d e:World}(a:Step c d)(b:Step d e):Step c e:=⟨⟨b.1.1.trans a.1.1,b.1.2.trans a.1.2⟩,b.2.1.trans a.2.1,λh=>gC (a.2.2 h) (b.2.2 h)⟩
def Mem.le(m m':Mem):Prop:=(∀b o v,m.cell b o=some v->m'.cell b o=some v)/\(∀b x,m.obj b=some x->m'.obj b=some x)/\m.wd=m'.wd
theorem Mem.le_refl(m:Mem):m.le m:=⟨λ_ _ _ h=>h,λ_ _ h=>h,rfl⟩
theorem Mem.le_trans{c d e:Mem}(a:c.le d)(b:d.le e):c.le e:=⟨λ_ _ _ h=>b.1 _ _ _ (a.1 _ _ _ h),λ_ _ h=>b.2.1 _ _ (a.2.1 _ _ h),a.2.2.trans b.2.2⟩
def Inv(m:Mem)(w:World):Prop:=
 (∀b o v,m.cell b o=some v->∃c e f,w.heap[b]? =some (.cells c e f)/\c[o]? =some v)/\(∀b x,m.obj b=some x->w.heap[b]? =some x)/\Step m.wd w
inductive Piece where
 |blk (b:Nat) (o:Obj)
 |room (a:Option Addr) (n cap:Nat) (e:TypeId) (sz:Nat)
def Piece.block:Piece->Option Nat
 | .blk b _=>some b
 | .room a _ _ _ _=>a.map (·.block)
def Bh(m:Mem)(b:Nat):Prop:=(∀o,m.cell b o=none)/\m.obj b=none
def Piece.holds(m:Mem)(w:World):Piece->Prop
 | .blk b o=>w.heap[b]? =some o/\Bh m b
 | .room none n cap _ _=>n=0/\cap=0
 | .room (some p) n cap e sz=>p.off=0/\p.spot=none/\n<=cap/\cap<=maxLen/\(∃cur,w.heap[p.block]? =some (.cells cur e (0,0))/\cur.size=cap*sz)/\
  (∀o,n*sz<=o->m.cell p.block o=none)/\m.obj p.block=none
def St(m:Mem)(own:List Piece)(w:World):Prop:=Inv m w/\(∀p∈own,p.holds m w)/\(own.filterMap Piece.block).Nodup
theorem vA{w:World}{b:Nat}{x:Obj}(h:w.heap[b]? =some x):b<w.heap.size:=(Array.getElem?_eq_some_iff.1 h).1
theorem Piece.holds_lt{m:Mem}{w:World}{p:Piece}(h:p.holds m w){b:Nat}(d:p.block=some b):b<w.heap.size:=by
 cases p with
 |blk c o=>simp[Piece.block] at d;subst d;exact vA h.1
 |room a n cap e sz=>
  cases a with
  |none=>simp[Piece.block] at d
  |some q=>simp[Piece.block] at d;subst d;obtain⟨_,_,_,_,⟨cur,f,_⟩,_⟩:=h;exact vA f
theorem St.inv{m:Mem}{own:List Piece}{w:World}(h:St m own w):Inv m w:=h.1
theorem St.fresh_free{m:Mem}{own:List Piece}{w:World}(h:St m own w):Bh m w.heap.size:=by
 constructor
 .intro o
  cases hc:m.cell w.heap.size o with
  |none=>rfl
  |some v=>
   obtain⟨c,e,f,a,_⟩:=h.1.1 _ _ _ hc
   have:=vA a;omega
 cases hc:m.obj w.heap.size with
 |none=>rfl
 |some x=>have:=vA (h.1.2.1 _ _ hc);omega
theorem Inv.keep{m:Mem}{w w':World}(h:Inv m w)(n:Step w w')(k:∀b,(∃x,w.heap[b]? =some x)->¬Bh m b->w'.heap[b]? =w.heap[b]?):Inv m w':=by
 refine⟨?_,?_,h.2.2.trans n⟩
 .intro b o v g
  obtain⟨c,e,f,a,l⟩:=h.1 b o v g
  exact⟨c,e,f,by rw[k b ⟨_,a⟩ (λd=>by rw[d.1 o] at g;cases g)];exact a,l⟩
 intro b x g
 have a:=h.2.1 b x g
 rw[k b ⟨_,a⟩ (λd=>by rw[d.2] at g;cases g)];exact a
theorem Piece.holds_keep{m:Mem}{w w':World}{p:Piece}(h:p.holds m w)(d:∀b,p.block=some b->w'.heap[b]? =w.heap[b]?):p.holds m w':=by
 cases p with
 |blk c o=>exact⟨by rw[d c rfl];exact h.1,h.2⟩
 |room a n cap e sz=>
  cases a with
  |none=>exact h
  |some q=>
   obtain⟨f,g,k,l,⟨cur,r,s⟩,t⟩:=h
   exact⟨f,g,k,l,⟨cur,by rw[d _ rfl];exact r,s⟩,t⟩
theorem St.grow{m:Mem}{own:List Piece}{w w':World}(h:St m own w)(e:Step w w')(a:∀b,b<w.heap.size->w'.heap[b]? =w.heap[b]?):St m own w':=
 ⟨h.1.keep e λb ⟨_,f⟩ _=>a b (vA f),λp c=>Piece.holds_keep (h.2.1 p c) λb d=>a b (Piece.holds_lt (h.2.1 p c) d),h.2.2⟩
theorem MP{own:List Piece}{b:Nat}:b∈own.filterMap Piece.block↔∃p∈own,p.block=some b:=by simp[List.mem_filterMap]
theorem St.block_lt{m:Mem}{own:List Piece}{w:World}(h:St m own w){b:Nat}(c:b∈own.filterMap Piece.block):b<w.heap.size:=by
 obtain⟨p,d,a⟩:=MP.1 c
 exact Piece.holds_lt (h.2.1 p d) a
theorem St.alloc{m:Mem}{own:List Piece}{w w':World}(h:St m own w){o:Obj}(g:Step w w')(d:w'.heap=w.heap.push o):St m (.blk w.heap.size o::own) w':=by
 have c:=h.grow (w':=w') g (λb e=>by rw[d,Array.getElem?_push];simp[Nat.ne_of_lt e])
 refine⟨c.1,?_,?_⟩
 .intro p a
  rcases jK.1 a with rfl|a
  .exact⟨by rw[d];simp,h.fresh_free⟩
  exact c.2.1 p a
 have a:List.filterMap Piece.block (.blk w.heap.size o::own)=w.heap.size::own.filterMap Piece.block:=rfl
 rw[a,gV]
 exact⟨λf=>by have:=h.block_lt f;omega,h.2.2⟩
theorem St.tail{m:Mem}{p:Piece}{own:List Piece}{w:World}(h:St m (p::own) w):St m own w:=by
 refine⟨h.1,λq c=>h.2.1 q (jU _ c),?_⟩
 have:=h.2.2
 cases a:p.block with
 |none=>simpa[fN,a] using this
 |some b=>simp only[fN,a,gV] at this;exact this.2
theorem St.head{m:Mem}{p:Piece}{own:List Piece}{w:World}(h:St m (p::own) w):p.holds m w:=h.2.1 p (jR ..)
theorem St.head_ne{m:Mem}{p:Piece}{own:List Piece}{w:World}(h:St m (p::own) w){b:Nat}(a:p.block=some b):b∉own.filterMap Piece.block:=by
 have:=h.2.2
 simp only[fN,a,gV] at this
 exact this.1
theorem St.cons{m:Mem}{p:Piece}{own:List Piece}{w:World}(h:St m own w)(e:p.holds m w)(d:∀b,p.block=some b->b∉own.filterMap Piece.block):St m (p::own) w:=by
 refine⟨h.1,λq c=> ?_,?_⟩
 .rcases jK.1 c with rfl|c
  .exact e
  exact h.2.1 q c
 cases a:p.block with
 |none=>simpa[fN,a] using h.2.2
 |some b=>simp only[fN,a,gV];exact⟨d b a,h.2.2⟩
theorem St.perm{m:Mem}{own own':List Piece}{w:World}(h:St m own w)(a:own.Perm own'):St m own' w:=
 ⟨h.1,λp b=>h.2.1 p (a.mem_iff.2 b),(a.filterMap _).nodup_iff.1 h.2.2⟩
theorem St.front1{m:Mem}{a b:Piece}{own:List Piece}{w:World}(h:St m (a::b::own) w):St m (b::a::own) w:=h.perm (.swap b a own)
theorem St.front2{m:Mem}{a b c:Piece}{own:List Piece}{w:World}(h:St m (a::b::c::own) w):St m (c::a::b::own) w:=
 h.perm ((List.Perm.cons a (.swap c b own)).trans (.swap c a _))
theorem St.front3{m:Mem}{a b c d:Piece}{own:List Piece}{w:World}(h:St m (a::b::c::d::own) w):St m (d::a::b::c::own) w:=
 h.perm (((List.Perm.cons a ((List.Perm.cons b (.swap d c own)).trans (.swap d b _)))).trans (.swap d a _))
theorem St.front4{m:Mem}{a b c d e:Piece}{own:List Piece}{w:World}(h:St m (a::b::c::d::e::own) w):St m (e::a::b::c::d::own) w:=by
 refine h.perm ?_
 have:List.Perm (b::c::d::e::own) (e::b::c::d::own):=(List.Perm.cons b ((List.Perm.cons c (.swap e d own)).trans (.swap e c _))).trans (.swap e b _)
 exact(List.Perm.cons a this).trans (.swap e a _)
theorem St.front5{m:Mem}{p0 p1 p2 p3 p4 p5:Piece}{own:List Piece}{w:World}(h:St m (p0::p1::p2::p3::p4::p5::own) w):St m (p5::p0::p1::p2::p3::p4::own) w:=
 h.perm (gI (a:=p5) (l₁:=[p0,p1,p2,p3,p4]) (l₂:=own))
theorem St.front6{m:Mem}{p0 p1 p2 p3 p4 p5 p6:Piece}{own:List Piece}{w:World}(h:St m (p0::p1::p2::p3::p4::p5::p6::own) w):St m (p6::p0::p1::p2::p3::p4::p5::own) w:=
 h.perm (gI (a:=p6) (l₁:=[p0,p1,p2,p3,p4,p5]) (l₂:=own))
theorem St.front7{m:Mem}{p0 p1 p2 p3 p4 p5 p6 p7:Piece}{own:List Piece}{w:World}(h:St m (p0::p1::p2::p3::p4::p5::p6::p7::own) w):St m (p7::p0::p1::p2::p3::p4::p5::p6::own) w:=
 h.perm (gI (a:=p7) (l₁:=[p0,p1,p2,p3,p4,p5,p6]) (l₂:=own))
theorem St.front8{m:Mem}{p0 p1 p2 p3 p4 p5 p6 p7 p8:Piece}{own:List Piece}{w:World}(h:St m (p0::p1::p2::p3::p4::p5::p6::p7::p8::own) w):St m (p8::p0::p1::p2::p3::p4::p5::p6::p7::own) w:=
 h.perm (gI (a:=p8) (l₁:=[p0,p1,p2,p3,p4,p5,p6,p7]) (l₂:=own))
theorem St.front9{m:Mem}{p0 p1 p2 p3 p4 p5 p6 p7 p8 p9:Piece}{own:List Piece}{w:World}(h:St m (p0::p1::p2::p3::p4::p5::p6::p7::p8::p9::own) w):St m (p9::p0::p1::p2::p3::p4::p5::p6::p7::p8::own) w:=
 h.perm (gI (a:=p9) (l₁:=[p0,p1,p2,p3,p4,p5,p6,p7,p8]) (l₂:=own))
theorem St.front10{m:Mem}{p0 p1 p2 p3 p4 p5 p6 p7 p8 p9 p10:Piece}{own:List Piece}{w:World}(h:St m (p0::p1::p2::p3::p4::p5::p6::p7::p8::p9::p10::own) w):St m (p10::p0::p1::p2::p3::p4::p5::p6::p7::p8::p9::own) w:=
 h.perm (gI (a:=p10) (l₁:=[p0,p1,p2,p3,p4,p5,p6,p7,p8,p9]) (l₂:=own))
theorem St.front11{m:Mem}{p0 p1 p2 p3 p4 p5 p6 p7 p8 p9 p10 p11:Piece}{own:List Piece}{w:World}(h:St m (p0::p1::p2::p3::p4::p5::p6::p7::p8::p9::p10::p11::own) w):St m (p11::p0::p1::p2::p3::p4::p5::p6::p7::p8::p9::p10::own) w:=
 h.perm (gI (a:=p11) (l₁:=[p0,p1,p2,p3,p4,p5,p6,p7,p8,p9,p10]) (l₂:=own))
theorem St.set{m:Mem}{own:List Piece}{w w':World}{b:Nat}{o o':Obj}(h:St m (.blk b o::own) w)(s:Step w w')(q:w'.heap[b]? =some o')
  (n:∀k,k<w.heap.size->k≠b->w'.heap[k]? =w.heap[k]?):St m (.blk b o'::own) w':=by
 have l:=h.head
 have f:=h.head_ne (b:=b) rfl
 have a:=h.tail
 refine St.cons ⟨a.1.keep s λk ⟨x,t⟩ r=>n k (vA t) (λe=>r (e▸l.2)),λp g=>Piece.holds_keep (a.2.1 p g) λk c=>n k (Piece.holds_lt (a.2.1 p g) c) (λe=>f (MP.2 ⟨p,g,e▸c⟩)),a.2.2⟩ ⟨q,l.2⟩ ?_
 intro k d;simp only[Piece.block,jJ] at d;subst d;exact f
def Mem.addCells(m:Mem)(b:Nat)(f:Nat->Option Value):Mem:={m with cell:=λk o=>if k=b then(match m.cell k o with|some v=>some v|none=>f o) else m.cell k o}
theorem Mem.le_addCells(m:Mem)(b:Nat)(f:Nat->Option Value):m.le (m.addCells b f):=by
 refine⟨λk o v h=> ?_,λ_ _ h=>h,rfl⟩
 simp only[addCells]
 split
 .simp[h]
 exact h
theorem Piece.holds_addCells{m:Mem}{w:World}{p:Piece}{b:Nat}{f:Nat->Option Value}(h:p.holds m w)(d:p.block≠some b):p.holds (m.addCells b f) w:=by
 cases p with
 |blk c o=>
  have:c≠b:=λe=>d (by simp[Piece.block,e])
  exact⟨h.1,λo=>by simp[Mem.addCells,this,h.2.1 o],h.2.2⟩
 |room a n cap e sz=>
  cases a with
  |none=>exact h
  |some q=>
   have:q.block≠b:=λe=>d (by simp[Piece.block,e])
   obtain⟨g,k,l,r,s,t,u⟩:=h
   exact⟨g,k,l,r,s,λo v=>by simp[Mem.addCells,this,t o v],u⟩
theorem St.addCells{m:Mem}{own:List Piece}{w:World}(h:St m own w){b:Nat}{f:Nat->Option Value}(l:b∉own.filterMap Piece.block)
  (n:∀o v,f o=some v->∃c e fr,w.heap[b]? =some (.cells c e fr)/\c[o]? =some v):St (m.addCells b f) own w:=by
 refine⟨⟨?_,h.1.2⟩,λp g=>Piece.holds_addCells (h.2.1 p g) λe=>l (MP.2 ⟨p,g,e⟩),h.2.2⟩
 intro k o v a
 simp only[Mem.addCells] at a
 split at a
 .rename_i hk;subst hk
  cases d:m.cell k o with
  |some u=>simp[d] at a;subst a;exact h.1.1 _ _ _ d
  |none=>simp[d] at a;exact n o v a
 exact h.1.1 _ _ _ a
def MRow(m:Mem)(b o:Nat)(cs:List Value):Prop:=∀j v,cs[j]? =some v->m.cell b (o+j)=some v
theorem MRow.mono{m m':Mem}{b o:Nat}{cs:List Value}(h:MRow m b o cs)(a:m.le m'):MRow m' b o cs:=λj v c=>a.1 _ _ _ (h j v c)
theorem MRow.drop{m:Mem}{b o:Nat}{cs:List Value}(h:MRow m b o cs)(k:Nat):MRow m b (o+k) (cs.drop k):=by
 intro j v a
 have:=h (k+j) v (by simpa[List.getElem?_drop] using a)
 rw[fL];exact this
structure Codec(α:Type) where
 sz:Nat
 pos:0<sz
 rep:Mem->α->List Value->Prop
 len:∀m x cs,rep m x cs->cs.length=sz
 one:∀m x cs,rep m x cs->∀v∈cs,v.oneCell'=true
 mono:∀m m' x cs,m.le m'->rep m x cs->rep m' x cs
def RepS{α:Type}(c:Codec α)(m:Mem)(a:Option Addr)(cap:Nat)(l:List α):Prop:=
 l.length<=cap/\cap<=maxLen/\match a with
  |none=>cap=0
  |some p=>(p.spot=none\/l=[])/\∀i x,l[i]? =some x->∃cs,c.rep m x cs/\MRow m p.block (p.off+i*c.sz) cs
theorem RepS.mono{α:Type}{c:Codec α}{m m':Mem}{a:Option Addr}{cap:Nat}{l:List α}(h:RepS c m a cap l)(b:m.le m'):RepS c m' a cap l:=by
 refine⟨h.1,h.2.1,?_⟩
 cases a with
 |none=>exact h.2.2
 |some p=>
  refine⟨h.2.2.1,λi x f=> ?_⟩
  obtain⟨cs,d,e⟩:=h.2.2.2 i x f
  exact⟨cs,c.mono _ _ _ _ b d,e.mono b⟩
theorem RepS.nil{α:Type}(c:Codec α)(m:Mem):RepS c m none 0 []:=⟨jN _,kK _,rfl⟩
theorem RepS.cells{α:Type}{c:Codec α}{m:Mem}{p:Addr}{cap:Nat}{l:List α}(h:RepS c m (some p) cap l):
  ∃cs,cs.length=l.length*c.sz/\(∀v∈cs,v.oneCell'=true)/\MRow m p.block p.off cs/\∀i x,l[i]? =some x->c.rep m x ((cs.drop (i*c.sz)).take c.sz):=by
 have key:∀(l:List α) (o:Nat),(∀i x,l[i]? =some x->∃cs,c.rep m x cs/\MRow m p.block (o+i*c.sz) cs)->
   ∃cs,cs.length=l.length*c.sz/\(∀v∈cs,v.oneCell'=true)/\MRow m p.block o cs/\∀i x,l[i]? =some x->c.rep m x ((cs.drop (i*c.sz)).take c.sz):=by
  intro l
  induction l with
  |nil=>intro o _;exact⟨[],by simp,by simp,λj v h=>by simp at h,λi x h=>by simp at h⟩
  |cons y l A=>
   intro o h
   obtain⟨n,q,z⟩:=h 0 y rfl
   have f:=c.len _ _ _ q
   obtain⟨k,r,s,t,u⟩:=A (o+c.sz) (λi x g=>by
    obtain⟨cs,a,b⟩:=h (i+1) x (by simpa using g)
    exact⟨cs,a,by rw[kN,dB,fU (i*c.sz),<-fL] at b;exact b⟩)
   refine⟨n++k,by simp[f,r,kN,fU],?_,?_,?_⟩
   .intro v d
    rcases fD.1 d with d|d
    .exact c.one _ _ _ q v d
    exact s v d
   .intro j v d
    rw[List.getElem?_append] at d
    split at d
    .simpa using z j v d
    rename_i hj
    have:=t _ v d
    rw[f] at this hj
    have e:o+c.sz+(j-c.sz)=o+j:=by omega
    rw[e] at this;exact this
   intro i x g
   cases i with
   |zero=>simp at g;subst g;simp[f▸List.take_left (l₁:=n) (l₂:=k)];exact q
   |succ i=>
    have:=u i x (by simpa using g)
    have e:(n++k).drop ((i+1)*c.sz)=k.drop (i*c.sz):=by
     rw[hZ,jO (by rw[f,kN];omega),kH,f,kN,dB,dH]
    rw[e];exact this
 exact key l p.off (h.2.2.2)
def zM(P:Program)(t:TypeId):Option (TypeId×Nat×Nat×Nat):=
 match P.underlying t with
 |some (.slice e)=>match P.info? e with
  |some i=>match i.zero with
   |some z=>some (e,i.size,i.bytes,z.cells.size)
   |none=>none
  |none=>none
 |_=>none
theorem WR{P:Program}{t e sz by_ zs:Nat}(h:zM P t=some (e,sz,by_,zs)):
  P.underlying t=some (.slice e)/\∃i z,P.info? e=some i/\i.zero=some z/\i.size=sz/\i.bytes=by_/\z.cells.size=zs:=by
 unfold zM at h
 split at h
 .rename_i e' he
  split at h
  .rename_i i hi
   split at h
   .rename_i z hz
    simp only[jJ,Prod.mk.injEq] at h
    obtain⟨rfl,a,b,c⟩:=h
    exact⟨he,i,z,hi,hz,a,b,c⟩
   cases h
  cases h
 cases h
def zX(P:Program)(u e:TypeId):Prop:=P.underlying u=some (.slice e)\/P.underlying u=some .string
theorem BF(g o j:Nat):(⟨g,o,none⟩:Addr).add j=⟨g,o+j,none⟩:=by unfold Addr.add;split<;>simp_all
theorem HH{p:Addr}(a:p.spot=none)(j:Nat):p.add j=⟨p.block,p.off+j,none⟩:=by
 obtain⟨b,o,s⟩:=p
 simp only at a;subst a
 exact BF b o j
variable {P:Program}
def PO(P:Program)(w:World)(sz:Nat)(x:Value)(n:Nat)(news:List Value):Prop:=
 (Builtin.lenOf x).run P w= .ok n w/\(Builtin.firstCells sz n x).run P w= .ok news.toArray w/\news.length=n*sz/\∀v∈news,v.oneCell'=true
theorem Dh(w:World)(t u ty e:TypeId)(i:TypeInfo)(p:P.underlying t=some (.slice e))(q:zX P u e)(hi:P.info? e=some i){x:Value}{n:Nat}{news:List Value}
  (f:PO P w i.size x n news) (g sLen sCap:Nat) (cur:Array Value) (o:w.heap[g]? =some (.cells cur e (0,0))) (a:sLen+n<=sCap) (d:sLen*i.size+news.length<=cur.size):
  (Builtin.append_ #[t,u] ty #[.slice (some ⟨g,0,none⟩) sLen sCap,x]).run P w=
   .ok (.slice (some ⟨g,0,none⟩) (sLen+n) sCap) (w.setRow g (cur.toList.take (sLen*i.size)++news++cur.toList.drop (sLen*i.size+news.length)).toArray):=by
 obtain⟨h,k,r,l⟩:=f
 have c:=run_storeCells_at P g (sLen*i.size) e news 0 cur w o (by simpa using d) l
 simp only[gZ] at c
 rcases q with b|b<;>simp[Builtin.append_,run_underlying p,run_underlying b,sizeOf,typeInfo,hi,h,a,k,BF,c]
theorem Db(w:World)(t u ty e:TypeId)(i:TypeInfo)(f:P.underlying t=some (.slice e))(g:zX P u e)(hi:P.info? e=some i){x:Value}{news:List Value}
  (b:PO P w i.size x 0 news):(Builtin.append_ #[t,u] ty #[.slice none 0 0,x]).run P w= .ok (.slice none 0 0) w:=by
 obtain⟨c,d,h,k⟩:=b
 rcases g with a|a<;>simp[Builtin.append_,run_underlying f,run_underlying a,sizeOf,typeInfo,hi,c,d]
theorem De(w:World)(t u ty e:TypeId)(i:TypeInfo)(z:Value)(s:P.underlying t=some (.slice e))(v:zX P u e)(hi:P.info? e=some i)(y:i.zero=some z){x:Value}{n:Nat}{news:List Value}
  (f:PO P w i.size x n news) (base:Option Addr) (sLen sCap:Nat) (olds:List Value)
  (d:∀w':World,Step w w'->w'.heap=w.heap->(Builtin.firstCells i.size sLen (.slice base sLen sCap)).run P w'= .ok olds.toArray w')
  (hsrc':∀w':World,Step w w'->w'.heap=w.heap->(Builtin.firstCells i.size n x).run P w'= .ok news.toArray w')
  (o:sCap<sLen+n) (k:(sLen+n)*i.bytes<=140737488355328) (g:sLen+n<=maxLen):
  (Builtin.append_ #[t,u] ty #[.slice base sLen sCap,x]).run P w=
   .ok (.slice (some ⟨w.heap.size,0,none⟩) (sLen+n) (grownCap w (sLen+n) sCap e))
    (w.drew.alloc (.cells ((olds++news).toArray++Builtin.zeroCells z.cells (grownCap w (sLen+n) sCap e-(sLen+n))) e)):=by
 obtain⟨h,A,B,D⟩:=f
 have p:¬(sLen+n<=sCap):=by omega
 have h63':¬(9223372036854775807<(sLen:Int)+(n:Int)):=by simp only[maxLen] at g;omega
 have l:=growslice_fits (need:=sLen+n) (old:=sCap) (bytes:=i.bytes) o k
 have hfit':¬(281474976710656<Builtin.nextslicecap (sLen+n) sCap*i.bytes):=by omega
 have c:IntKind.i64.max=9223372036854775807:=by decide
 have q:=d w.drew ⟨⟨rfl,rfl⟩,rfl,oQ⟩ rfl
 have r:=hsrc' w.drew ⟨⟨rfl,rfl⟩,rfl,oQ⟩ rfl
 have a:(Question.appendCap (sLen+n) sCap e).forced=false:=rfl
 rcases v with b|b<;>
  simp[Builtin.append_,run_underlying s,run_underlying b,sizeOf,typeInfo,zeroValue,hi,y,h,p,h63',hfit',c,a,q,r,newRow,grownCap]<;>(congr 2;apply Array.ext';simp)
def iK{α:Type}(by_:Nat)(l k:List α):Option (List α):=if(l.length+k.length)*by_<=140737488355328/\l.length+k.length<=maxLen then some (l++k) else none
theorem RepS.of_cells{α:Type}{c:Codec α}{m:Mem}{b cap:Nat}{l:List α}{cs:List Value}(d:l.length<=cap)(e:cap<=maxLen)
  (f:∀i x,l[i]? =some x->c.rep m x ((cs.drop (i*c.sz)).take c.sz)) (g:MRow m b 0 cs):RepS c m (some ⟨b,0,none⟩) cap l:=by
 refine⟨d,e,.inl rfl,λi x h=>⟨_,f i x h,?_⟩⟩
 intro j v a
 rw[List.getElem?_take] at a
 split at a
 .rw[List.getElem?_drop] at a
  have:=g _ v a
  simp only[gA] at this ⊢
  exact this
 cases a
theorem RepS.cellsA{α:Type}{c:Codec α}{m:Mem}{a:Option Addr}{cap:Nat}{l:List α}(h:RepS c m a cap l):
  ∃cs,cs.length=l.length*c.sz/\(∀v∈cs,v.oneCell'=true)/\(∀p,a=some p->MRow m p.block p.off cs)/\∀i x,l[i]? =some x->c.rep m x ((cs.drop (i*c.sz)).take c.sz):=by
 cases a with
 |none=>
  obtain⟨d,_,b⟩:=h
  have:l=[]:=kC (by simp only at b;omega)
  subst this
  exact⟨[],by simp,by simp,by simp,by simp⟩
 |some p=>
  obtain⟨cs,d,e,b,f⟩:=h.cells
  exact⟨cs,d,e,λq g=>by cases g;exact b,f⟩
theorem Inv.cell{m:Mem}{w:World}(h:Inv m w){b o:Nat}{v:Value}(g:m.cell b o=some v):w.cell? ⟨b,o,none⟩=some v:=by
 obtain⟨c,e,f,a,d⟩:=h.1 b o v g
 simp[World.cell?,a,d]
theorem Ip{m:Mem}{w:World}(hi:Inv m w){a:Option Addr}{n cap sz:Nat}{cs:List Value}(f:cs.length=n*sz)(g:∀p,a=some p->(p.spot=none\/cs=[])/\MRow m p.block p.off cs)(e:a=none->cs=[]):
  (Builtin.firstCells sz n (.slice a n cap)).run P w= .ok cs.toArray w:=by
 cases a with
 |none=>rw[e rfl];simp[Builtin.firstCells]
 |some p=>
  obtain⟨b,d⟩:=g p rfl
  exact run_firstCells_some w sz n p n cap cs f λj v c=>by
   rcases b with b|b
   .rw[HH b];exact hi.cell (d j v c)
   subst b;simp at c
theorem RepS.none_nil{α:Type}{c:Codec α}{m:Mem}{cap:Nat}{l:List α}(h:RepS c m none cap l):l=[]/\cap=0:=by
 obtain⟨b,_,a⟩:=h
 simp only at a
 exact⟨kC aa,a⟩
theorem RepS.spot{α:Type}{c:Codec α}{m:Mem}{p:Addr}{cap:Nat}{l:List α}(h:RepS c m (some p) cap l)(a:l≠[]):p.spot=none:=h.2.2.1.resolve_right a
def II{α:Type}(P:Program)(c:Codec α)(m:Mem)(x:Value)(k:List α):Prop:=
 ∃cs,(∀w:World,Inv m w->PO P w c.sz x k.length cs)/\(∀i y,k[i]? =some y->c.rep m y ((cs.drop (i*c.sz)).take c.sz))
theorem RepS.src{α:Type}{c:Codec α}{m:Mem}{a:Option Addr}{cap:Nat}{l:List α}(h:RepS c m a cap l):II P c m (.slice a l.length cap) l:=by
 obtain⟨cs,b,d,f,g⟩:=h.cellsA
 refine⟨cs,λw hi=>⟨by simp[Builtin.lenOf],Ip hi b (λp n=> ?_) (λk=> ?_),b,d⟩,g⟩
 .subst n;exact⟨h.2.2.1.imp id (λe=>by subst e;exact kC (by simpa using b)),f p rfl⟩
 subst k;obtain⟨rfl,rfl⟩:=h.none_nil;exact kC (by simpa using b)
theorem qBd{α:Type}{c:Codec α}{m:Mem}{l k:List α}{a b:List Value}(f:a.length=l.length*c.sz)
  (g:∀i x,l[i]? =some x->c.rep m x ((a.drop (i*c.sz)).take c.sz)) (h:∀i x,k[i]? =some x->c.rep m x ((b.drop (i*c.sz)).take c.sz)):
  ∀i x,(l++k)[i]? =some x->c.rep m x (((a++b).drop (i*c.sz)).take c.sz):=by
 intro i x d
 rw[List.getElem?_append] at d
 split at d
 .rename_i hi
  have e:i*c.sz+c.sz<=a.length:=by
   rw[f]
   calc i*c.sz+c.sz=(i+1)*c.sz:=by rw[kN,dB]
    _<=l.length*c.sz:=kW _ hi
  have:((a++b).drop (i*c.sz)).take c.sz=(a.drop (i*c.sz)).take c.sz:=by
   rw[gB aa,kM ah]
  rw[this];exact g i x d
 rename_i hi
 have e:a.length<=i*c.sz:=by rw[f];exact kW _ aa
 have:(a++b).drop (i*c.sz)=b.drop ((i-l.length)*c.sz):=by
  rw[hZ,jO e,kH,f,Nat.sub_mul]
 rw[this];exact h _ x d
theorem Ii{m:Mem}{w:World}(hi:Inv m w){b:Nat}{cs:List Value}(h:MRow m b 0 cs){cur:Array Value}{e:TypeId}{f:Nat×Nat}(g:w.heap[b]? =some (.cells cur e f)):cur.toList.take cs.length=cs:=by
 apply dN
 intro j
 rw[List.getElem?_take]
 by_cases hj:j<cs.length
 .rw[jB hj]
  have:=h j cs[j] (by simp[hj])
  obtain⟨c,e',f',a,d⟩:=hi.1 _ _ _ this
  rw[g] at a
  simp only[jJ,Obj.cells.injEq] at a
  obtain⟨rfl,_,_⟩:=a
  simp only[gA] at d
  simp[d,hj]
 rw[jA hj];simp[Nat.le_of_not_lt hj]
theorem St.know{m:Mem}{own:List Piece}{w:World}{b:Nat}{cs:List Value}{cur:Array Value}{e:TypeId}{f:Nat×Nat}(h:St m own w)(d:b∉own.filterMap Piece.block)
  (l:w.heap[b]? =some (.cells cur e f)) (g:cur.toList.take cs.length=cs) (c:∀o v,m.cell b o=some v->cs[o]? =some v):
  ∃m',m.le m'/\St m' own w/\MRow m' b 0 cs/\(∀o,cs.length<=o->m'.cell b o=none)/\m'.obj=m.obj/\∀k,k≠b->m'.cell k=m.cell k:=by
 refine⟨m.addCells b (λo=>cs[o]?),m.le_addCells b _,h.addCells d ?_,?_,?_,rfl,?_⟩
 .intro o v a
  refine⟨cur,e,f,l,?_⟩
  rw[<-g,List.getElem?_take] at a
  split at a
  .simpa using a
  cases a
 .intro j v a
  simp only[Mem.addCells,gA,jH]
  cases hc:m.cell b j with
  |none=>simp[a]
  |some u=>have:=c j u hc;rw[a] at this;simp_all
 .intro o a
  simp only[Mem.addCells,jH]
  cases hc:m.cell b o with
  |none=>simp[a]
  |some u=>
   have:=c o u hc
   have n:=(List.getElem?_eq_some_iff.1 this).1
   omega
 intro k a;funext o;simp[Mem.addCells,a]
theorem Vs{α:Type}{c:Codec α}{m:Mem}{own:List Piece}{w:World}{t u ty e by_:Nat}(b3:zM P t=some (e,c.sz,by_,c.sz))(hu:zX P u e)
  {a:Option Addr} {cap:Nat} {l k r:List α} {x:Value} (Y:St m (.room a l.length cap e c.sz::own) w) (hr:RepS c m a cap l)
  (hx:II P c m x k)
  (M:iK by_ l k=some r):
  ∃a' cap' m' w',(Builtin.append_ #[t,u] ty #[.slice a l.length cap,x]).run P w= .ok (.slice a' r.length cap') w'/\m.le m'/\St m' (.room a' r.length cap' e c.sz::own) w'/\RepS c m' a' cap' r:=by
 obtain⟨ht,i,z,hi,hz,R,b9,c1⟩:=WR b3
 unfold iK at M
 split at M
 .rename_i Z
  simp only[jJ] at M
  subst M
  obtain⟨Z,b6⟩:=Z
  have s:=Y.inv
  obtain⟨f,a6,b5⟩:=hx
  have U:=a6 w s
  obtain⟨d,K,c2,c0,b4⟩:=hr.cellsA
  have b7:f.length=k.length*c.sz:=U.2.2.1
  have a1:(d++f).length=(l++k).length*c.sz:=by simp[K,b7,kN]
  have a5:∀m',m.le m'->∀i y,(l++k)[i]? =some y->c.rep m' y (((d++f).drop (i*c.sz)).take c.sz):=λm' D=>
   qBd K (λi y hy=>c.mono _ _ _ _ D (b4 i y hy)) (λi y hy=>c.mono _ _ _ _ D (b5 i y hy))
  have H:=Y.tail
  -- a new block
  have out:cap<l.length+k.length->(∀w':World,Step w w'->w'.heap=w.heap->(Builtin.firstCells i.size l.length (.slice a l.length cap)).run P w'= .ok d.toArray w')->
    ∃a' cap' m' w',(Builtin.append_ #[t,u] ty #[.slice a l.length cap,x]).run P w= .ok (.slice a' (l++k).length cap') w'/\m.le m'/\St m' (.room a' (l++k).length cap' e c.sz::own) w'/\RepS c m' a' cap' (l++k):=by
   intro E a9
   have hinv':∀w':World,Step w w'->w'.heap=w.heap->Inv m w':=λw' M hw=>s.keep M (λb _ _=>by rw[hw])
   have A:=De w t u ty e i z ht hu hi hz (n:=k.length) (news:=f) (by rw[R];exact U) a l.length cap d a9
    (λw' M hw=>by rw[R];exact(a6 w' (hinv' w' M hw)).2.1) E (by rw[b9];exact Z) b6
   generalize hgc:grownCap w (l.length+k.length) cap e=gc at A
   have a2:l.length+k.length<=gc:=hgc▸grownCap_ge _ _ _ _
   have a7:gc<=maxLen:=hgc▸grownCap_le_maxLen _ _ _ _ b6
   generalize hcur:(d++f).toArray++Builtin.zeroCells z.cells (gc-(l.length+k.length))=cur at A
   have a8:cur.size=gc*c.sz:=by
    rw[<-hcur]
    simp only[hH,jT,size_zeroCells,c1,a1,jG,<-kN]
    congr 1;omega
   have B:=H.alloc (w':=w.drew.alloc (.cells cur e)) (o:= .cells cur e) ⟨⟨rfl,rfl⟩,rfl,oQ⟩ rfl
   have b1:cur.toList.take (d++f).length=d++f:=by rw[<-hcur,Array.toList_append,dC,List.take_left]
   have V:=H.fresh_free
   obtain⟨m',D,hst',a4,b0,a3,S⟩:=St.know (b:=w.heap.size) B.tail (B.head_ne rfl) B.head.1 b1 (λo v G=>by rw[V.1 o] at G;cases G)
   refine⟨some ⟨w.heap.size,0,none⟩,gc,m',w.drew.alloc (.cells cur e),by rw[A,jG],D,?_,RepS.of_cells (by simpa using a2) a7 (a5 m' D) a4⟩
   refine hst'.cons ⟨rfl,rfl,by simpa using a2,a7,⟨cur,B.head.1,a8⟩,?_,?_⟩ ?_
   .intro o ho;exact b0 o (by rw[a1];exact ho)
   .rw[a3];exact V.2
   intro b F
   simp only[Piece.block,kL,jJ] at F
   subst F
   exact B.head_ne rfl
  cases a with
  |none=>
   obtain⟨rfl,rfl⟩:=hr.none_nil
   have B:d=[]:=kC (by simpa using K)
   subst B
   by_cases hk:k.length=0
   .have V:k=[]:=kC hk
    subst V
    refine⟨none,0,m,w,?_,m.le_refl,Y,hr⟩
    have:=Db w t u ty e i ht hu hi (x:=x) (news:=f) (by rw[R];exact U)
    simpa using this
   exact out ah (λw' _ _=>by simp[Builtin.firstCells])
  |some p=>
   obtain⟨h1,h2,h3,h4,⟨cur,h5,h6⟩,h7,h8⟩:=Y.head
   obtain⟨g,off,spot⟩:=p
   simp only at h1 h2 h5 h7 h8
   subst h1;subst h2
   have B:=c0 _ rfl
   simp only at B
   by_cases hroom:l.length+k.length<=cap
   .have b2:l.length*i.size+f.length<=cur.size:=by rw[b7,h6,R,<-kN];exact kW _ hroom
    have A:=Dh w t u ty e i ht hu hi (x:=x) (n:=k.length) (news:=f) (by rw[R];exact U) g l.length cap cur h5 hroom b2
    rw[R,<-K] at A
    rw[Ii s B h5] at A
    generalize hw':w.setRow g (d++f++cur.toList.drop (d.length+f.length)).toArray=w' at A
    have a2:w'.heap[g]? =some (.cells (d++f++cur.toList.drop (d.length+f.length)).toArray e (0,0)):=by rw[<-hw'];exact setRow_heap w g cur _ e _ h5
    have S:∀b,b≠g->w'.heap[b]? =w.heap[b]? :=λb F=>by rw[<-hw'];exact setRow_other w g b _ F
    have a8:(d++f++cur.toList.drop (d.length+f.length)).toArray.size=cap*c.sz:=by
     simp only[jT,jG,kO,dF]
     have:l.length*c.sz+k.length*c.sz<=cap*c.sz:=by rw[<-kN];exact kW _ hroom
     omega
    have a9:=Y.head_ne (b:=g) rfl
    have b8:St m own w':=by
     refine⟨?_,λq hq=>Piece.holds_keep (H.2.1 q hq) (λb F=>S b ?_),H.2.2⟩
     .refine⟨?_,?_,s.2.2.trans (by rw[<-hw'];exact⟨⟨rfl,rfl⟩,rfl,oQ⟩)⟩
      .intro b o v G
       by_cases F:b=g
       .subst F
        refine⟨_,e,(0,0),a2,?_⟩
        by_cases ho:o<l.length*c.sz
        .obtain⟨cc,e',f',V,a7⟩:=s.1 b o v G
         rw[h5] at V
         simp only[jJ,Obj.cells.injEq] at V
         obtain⟨rfl,_,_⟩:=V
         have E:o<d.length:=by rw[K];exact ho
         have b1:=Ii s B h5
         have:d[o]? =some v:=by
          rw[<-b1,List.getElem?_take,jB E]
          simpa using a7
         simp only[List.getElem?_toArray,kU,List.getElem?_append,jB E]
         exact this
        rw[h7 o aa] at G;cases G
       obtain⟨cc,e',f',V,a7⟩:=s.1 b o v G
       exact⟨cc,e',f',by rw[S b F];exact V,a7⟩
      intro b y hy
      have:b≠g:=by rintro rfl;rw[h8] at hy;cases hy
      rw[S b this];exact s.2.1 b y hy
     rintro rfl;exact a9 (MP.2 ⟨q,hq,F⟩)
    obtain⟨m',D,hst',a4,b0,a3,_⟩:=St.know (b:=g) (cs:=d++f) b8 a9 a2 (by rw[dC,List.take_left]) (λo v G=>by
     by_cases ho:o<l.length*c.sz
     .have E:o<d.length:=by rw[K];exact ho
      have:=B o d[o] (by simp[E])
      simp only[gA] at this
      rw[this] at G
      simp only[List.getElem?_append,jB E]
      rw[<-G];simp[E]
     rw[h7 o aa] at G;cases G)
    refine⟨some ⟨g,0,none⟩,cap,m',w',by rw[A,jG],D,?_,RepS.of_cells (by simpa using hroom) h4 (a5 m' D) a4⟩
    refine hst'.cons ⟨rfl,rfl,by simpa using hroom,h4,⟨_,a2,a8⟩,?_,?_⟩ ?_
    .intro o ho;exact b0 o (by rw[a1];exact ho)
    .rw[a3];exact h8
    intro b F
    simp only[Piece.block,kL,jJ] at F
    subst F;exact a9
   exact out aa (λw' M hw=>by
    have hinv':Inv m w':=s.keep M (λb _ _=>by rw[hw])
    rw[R]
    exact Ip hinv' K (λp A=>by cases A;exact⟨.inl rfl,B⟩) (λh=>by cases h))
 cases M
def aG(k:IntKind):Codec Int where
 sz:=1
 pos:=dS
 rep _ x cs:=cs=[.int k x]
 len:=by rintro _ _ _ rfl;rfl
 one:=by rintro _ _ _ rfl v a;simp at a;subst a;rfl
 mono:=λ_ _ _ _ _ h=>h
def cU8:Codec UInt8 where
 sz:=1
 pos:=dS
 rep _ x cs:=cs=[.int .u8 (x.toNat:Int)]
 len:=by rintro _ _ _ rfl;rfl
 one:=by rintro _ _ _ rfl v a;simp at a;subst a;rfl
 mono:=λ_ _ _ _ _ h=>h
def cO:Codec Bool where
 sz:=1
 pos:=dS
 rep _ x cs:=cs=[.bool x]
 len:=by rintro _ _ _ rfl;rfl
 one:=by rintro _ _ _ rfl v a;simp at a;subst a;rfl
 mono:=λ_ _ _ _ _ h=>h
def aB:Codec BA where
 sz:=1
 pos:=dS
 rep _ x cs:=cs=[.string x]
 len:=by rintro _ _ _ rfl;rfl
 one:=by rintro _ _ _ rfl v a;simp at a;subst a;rfl
 mono:=λ_ _ _ _ _ h=>h
def sA{α β:Type}(a:Codec α)(b:Codec β):Codec (α×β) where
 sz:=a.sz+b.sz
 pos:=fT a.pos (Nat.le_add_right ..)
 rep m x cs:=∃c d,cs=c++d/\a.rep m x.1 c/\b.rep m x.2 d
 len:=by rintro m x cs ⟨c,d,rfl,e,f⟩;rw[jG,a.len _ _ _ e,b.len _ _ _ f]
 one:=by
  rintro m x cs ⟨c,d,rfl,e,f⟩ v g
  rcases fD.1 g with g|g
  .exact a.one _ _ _ e v g
  exact b.one _ _ _ f v g
 mono:=by rintro m m' x cs g ⟨c,d,rfl,e,f⟩;exact⟨c,d,rfl,a.mono _ _ _ _ g e,b.mono _ _ _ _ g f⟩
def CB{α:Type}(c:Codec α):Codec (List α) where
 sz:=1
 pos:=dS
 rep m l cs:=∃a cap,cs=[.slice a l.length cap]/\RepS c m a cap l
 len:=by rintro _ _ _ ⟨a,cap,rfl,_⟩;rfl
 one:=by rintro _ _ _ ⟨a,cap,rfl,_⟩ v b;simp at b;subst b;rfl
 mono:=by rintro m m' x cs b ⟨a,cap,rfl,h⟩;exact⟨a,cap,rfl,h.mono b⟩
theorem pO{α:Type}{c:Codec α}{m:Mem}{a:Option Addr}{cap:Nat}{l:List α}(h:RepS c m a cap l):(CB c).rep m l [.slice a l.length cap]:=⟨a,cap,rfl,h⟩
def RepAll{α:Type}(c:Codec α)(m:Mem):List α->List Value->Prop
 |[],cs=>cs=[]
 |x::l,cs=>∃a b,cs=a++b/\c.rep m x a/\RepAll c m l b
theorem RepAll.len{α:Type}{c:Codec α}{m:Mem}:∀{l:List α} {cs:List Value},RepAll c m l cs->cs.length=l.length*c.sz
 |[],cs,h=>by simp[RepAll] at h;simp[h]
 |x::l,cs,h=>by
  obtain⟨d,e,rfl,a,b⟩:=h
  rw[jG,c.len _ _ _ a,b.len,jC,kN,dB,fU]
theorem RepAll.rep{α:Type}{c:Codec α}{m:Mem}:∀{l:List α} {cs:List Value},RepAll c m l cs->∀i x,l[i]? =some x->c.rep m x ((cs.drop (i*c.sz)).take c.sz)
 |[],_,_=>by simp
 |y::l,cs,h=>by
  obtain⟨g,d,rfl,f,k⟩:=h
  intro i x b
  have a:=c.len _ _ _ f
  cases i with
  |zero=>simp at b;subst b;simp[<-a];exact f
  |succ i=>
   have e:(g++d).drop ((i+1)*c.sz)=d.drop (i*c.sz):=by
    rw[hZ,jO (by rw[a,kN];omega),kH,a,kN,dB,dH]
   rw[e];exact k.rep i x (by simpa using b)
def tL(P:Program)(t:TypeId)(cs:List Value):Option Value:=
 match P.underlying t with
 |some (.struct _)|some (.array _ _)=>match P.info? t with
  |some i=>bif Nat.ble i.size cs.length then some (.agg (cs.take i.size).toArray) else none
  |none=>none
 |some _=>cs.head?
 |none=>none
def UN:TypeDesc->Bool
 | .struct _=>true
 | .array _ _=>true
 |_=>false
theorem HG{P:Program}{w:World}{t:TypeId}{b o:Nat}{cs:List Value}{v:Value}(g:∀j u,cs[j]? =some u->w.cell? ⟨b,o+j,none⟩=some u)(h:tL P t cs=some v):
  (loadVar t ⟨b,o,none⟩).run P w= .ok v w:=by
 have agg:∀d,P.underlying t=some d->(isAgg t).run P w= .ok (UN d) w:=by
  intro d a;unfold isAgg;cases d<;>simp[run_underlying a,UN]
 have big:∀d,P.underlying t=some d->UN d=true->(match P.info? t with
  |some i=>bif Nat.ble i.size cs.length then some (Value.agg (cs.take i.size).toArray) else none
  |none=>none)=some v->(loadVar t ⟨b,o,none⟩).run P w= .ok v w:=by
  intro d a l h
  cases hi:P.info? t with
  |none=>simp[hi] at h
  |some i=>
   simp only[hi] at h
   cases e:Nat.ble i.size cs.length with
   |false=>simp[e] at h
   |true=>
    simp[e] at h
    subst h
    have hle':=kY e
    have k:=run_loadCells_list (P:=P) w ⟨b,o,none⟩ (cs.take i.size) (λj u f=>by
     rw[BF]
     rw[List.getElem?_take] at f
     split at f
     .exact g j u f
     cases f)
    have:(cs.take i.size).length=i.size:=by simp;omega
    rw[this] at k
    have c:=agg d a
    rw[l] at c
    simp[loadVar,c,sizeOf,typeInfo,hi,k]
 unfold tL at h
 split at h
 .rename_i a;exact big _ a rfl h
 .rename_i a;exact big _ a rfl h
 .rename_i d hn1 hn2 a
  have c:=agg d a
  have e:UN d=false:=by
   cases d<;>first|rfl|exact(hn1 _ rfl).elim|exact(hn2 _ _ rfl).elim
  rw[e] at c
  have f:cs[0]? =some v:=by rw[List.head?_eq_getElem?] at h;exact h
  have:=g 0 v f
  simp only[gZ] at this
  simp[loadVar,c,this]
 cases h
variable {n:Fr} {ops:Array Oper} {Q:Exit->Act->World->Prop} {i d:Nat} {L:bF} {w:World} {m:Mem} {own:List Piece} {N:bF->World->Prop}
theorem cQ{L:bF}{x:Operand}{v:Value}(h:bY L x=some v):oR L x=v:=by simp[oR,h]
theorem Ud{t:TypeId}{x:Operand}{b o:Nat}{cs:List Value}(v:Value)(f:eN ops L i=some (some d,.load t x))(c:Nat.blt d n=true)
  (r:bY L x=some (.pointer (some ⟨b,o,none⟩))) (a:St m own w) (k:MRow m b o cs) (p:tL P t cs=some v)
  (h:N ((d,v)::L) w):iO P n ops Q i N L w:=by
 refine oW f c (λq g=> ?_) h
 have e:=HG (P:=P) (w:=w) (t:=t) (b:=b) (o:=o) (cs:=cs) (v:=v) (λj u l=>a.inv.cell (k j u l)) p
 simp[execOp,g,Instr.loadAt,cQ r,Instr.sureAddr,e]
theorem Ds{t e:TypeId}{x:Operand}{b o:Nat}{c:Array Value}{f:Nat×Nat}(v:Value)(p:eN ops L i=some (some d,.load t x))(k:Nat.blt d n=true)
  (z:bY L x=some (.pointer (some ⟨b,o,none⟩))) (r:Piece.holds m w (.blk b (.cells c e f))) (y:tL P t (c.toList.drop o)=some v)
  (h:N ((d,v)::L) w):iO P n ops Q i N L w:=by
 refine oW p k (λq s=> ?_) h
 have g:=r.1
 have l:=HG (P:=P) (w:=w) (t:=t) (b:=b) (o:=o) (cs:=c.toList.drop o) (v:=v) (λj u a=>by
  rw[List.getElem?_drop] at a
  simp only[World.cell?,g]
  simpa using a) y
 simp[execOp,s,Instr.loadAt,cQ z,Instr.sureAddr,l]
def UF:List Value->Bool
 |[]=>true
 |v::l=>v.oneCell'&&UF l
theorem Fl{l:List Value}(h:UF l=true):∀v∈l,v.oneCell'=true:=by
 induction l with
 |nil=>simp
 |cons u l b=>
  simp only[UF,jS] at h
  intro v a
  rcases jK.1 a with rfl|a
  .exact h.1
  exact b h.2 v a
def BH(P:Program)(t:TypeId)(v:Value)(o n:Nat):Bool:=
 match P.info? t with
 |some i=>Nat.beq v.cells.size i.size&&Nat.ble (o+v.cells.size) n&&UF v.cells.toList
 |none=>false
theorem XW{t e:TypeId}{x y:Operand}{b o:Nat}{c c':Array Value}{v:Value}(s:eN ops L i=some (none,.store t x y))
  (z:bY L x=some (.pointer (some ⟨b,o,none⟩))) (A:bY L y=some v) (f:St m (.blk b (.cells c e (0,0))::own) w) (d:BH P t v o c.size=true)
  (hc':(c.toList.take o++v.cells.toList++c.toList.drop (o+v.cells.toList.length)).toArray=c')
  (h:∀w',St m (.blk b (.cells c' e (0,0))::own) w'->N L w'):iO P n ops Q i N L w:=by
 unfold BH at d
 cases hi:P.info? t with
 |none=>simp[hi] at d
 |some inf=>
  simp only[hi,jS] at d
  obtain⟨⟨g,l⟩,p⟩:=d
  have h1':=fH g
  have h2':=kY l
  have a:=run_storeCells_at P b o e v.cells.toList 0 c w f.head.1 (by simpa using h2') (Fl p)
  simp only[gZ] at a
  rw[hc'] at a
  refine DI s (λq u=> ?_) (h (w.setRow b c') (f.set ⟨⟨rfl,rfl⟩,rfl,oQ⟩ (setRow_heap w b c c' e _ f.head.1) (λk _ r=>setRow_other w b k _ r)))
  simp[execOp,u,Instr.storeAt,cQ z,cQ A,Instr.sureAddr,storeVar,sizeOf,typeInfo,hi,h1',a]
theorem Ej{e:TypeId}{x:Operand}(v:Value)(f:eN ops L i=some (some d,.box e x))(c:Nat.blt d n=true)(k:bY L x=some v)(a:St m own w)
  (h:∀b w',St m (.blk b (.cells v.cells e (0,0))::own) w'->N ((d,.pointer (some ⟨b,0,none⟩))::L) w'):iO P n ops Q i N L w:=by
 refine oW (w':=w.alloc (.cells v.cells e)) f c (λq g=> ?_) (h w.heap.size _ (a.alloc ⟨⟨rfl,rfl⟩,rfl,oQ⟩ rfl))
 simp[execOp,g,Instr.box,cQ k,newVar,newRow]
theorem St.settle{b:Nat}{c:Array Value}{e:TypeId}{f:Nat×Nat}(h:St m (.blk b (.cells c e f)::own) w):∃m',m.le m'/\St m' own w/\MRow m' b 0 c.toList:=by
 obtain⟨m',d,g,k,_⟩:=St.know (cs:=c.toList) h.tail (h.head_ne rfl) h.head.1 (gT (jN _)) (λo v a=>by rw[h.head.2.1 o] at a;cases a)
 exact⟨m',d,g,k⟩
theorem qCt{e:TypeId}{x:Operand}(v:Value)(l:eN ops L i=some (some d,.box e x))(k:Nat.blt d n=true)(p:bY L x=some v)(a:St m own w)
  (h:∀b m' w',m.le m'->St m' own w'->MRow m' b 0 v.cells.toList->N ((d,.pointer (some ⟨b,0,none⟩))::L) w'):iO P n ops Q i N L w:=by
 refine Ej v l k p a (λb w' o=> ?_)
 obtain⟨m',c,f,g⟩:=o.settle
 exact h b m' w' c f g
def Ai(P:Program)(e:TypeId):Option Value:=(P.info? e).bind (·.zero)
theorem Hu{e:TypeId}(v:Value)(f:eN ops L i=some (some d,.alloc e))(c:Nat.blt d n=true)(k:Ai P e=some v)(a:St m own w)
  (h:∀b w',St m (.blk b (.cells v.cells e (0,0))::own) w'->N ((d,.pointer (some ⟨b,0,none⟩))::L) w'):iO P n ops Q i N L w:=by
 obtain⟨inf,hi,hz'⟩:=jQ.1 k
 refine oW (w':=w.alloc (.cells v.cells e)) f c (λq g=> ?_) (h w.heap.size _ (a.alloc ⟨⟨rfl,rfl⟩,rfl,oQ⟩ rfl))
 simp[execOp,g,Instr.alloc,zeroValue,typeInfo,hi,hz',newVar,newRow]
def bC{α:Type}(l:List α)(i:Int):Option α:=if 0<=i then l[i.toNat]? else none
def tY(P:Program)(t:TypeId):Option (TypeId×Nat):=
 match P.underlying t with
 |some (.slice e)=>(P.info? e).map λi=>(e,i.size)
 |_=>none
theorem BC{t e sz:Nat}(h:tY P t=some (e,sz)):P.underlying t=some (.slice e)/\∃inf,P.info? e=some inf/\inf.size=sz:=by
 unfold tY at h
 split at h
 .rename_i e' he
  cases hi:P.info? e' with
  |none=>simp[hi] at h
  |some inf=>simp[hi] at h;obtain⟨rfl,a⟩:=h;exact⟨he,inf,hi,a⟩
 cases h
theorem Yy{α:Type}{t e:TypeId}{x y:Operand}(c:Codec α){a:Option Addr}{cap:Nat}{l:List α}{k:IntKind}{ix:Int}{z:α}(E:eN ops L i=some (some d,.indexAddr t x y))(B:Nat.blt d n=true)
  (G:bY L x=some (.slice a l.length cap)) (H:bY L y=some (.int k ix)) (hi:tY P t=some (e,c.sz)) (r:RepS c m a cap l) (g:bC l ix=some z)
  (h:∀b o cs,c.rep m z cs->MRow m b o cs->N ((d,.pointer (some ⟨b,o,none⟩))::L) w):iO P n ops Q i N L w:=by
 obtain⟨s,inf,u,v⟩:=BC hi
 unfold bC at g
 split at g
 .rename_i h0
  have f:ix.toNat<l.length:=(List.getElem?_eq_some_iff.1 g).1
  cases a with
  |none=>obtain⟨rfl,_⟩:=r.none_nil;simp at f
  |some p=>
   obtain⟨cs,A,D⟩:=r.2.2.2 _ _ g
   refine oW E B (λq F=> ?_) (h p.block (p.off+ix.toNat*c.sz) cs A D)
   have hlt':ix<(l.length:Int):=by omega
   simp[execOp,F,Instr.indexAt,cQ G,cQ H,asIntOf,run_underlying s,h0,hlt',sizeOf,typeInfo,u,v,HH (r.spot (λe=>by rw[e] at f;simp at f))]
 cases g
theorem Wq{α:Type}{t u e by_:Nat}{x y:Operand}(c:Codec α){a:Option Addr}{cap:Nat}{l k r:List α}{v:Value}
  (A:eN ops L i=some (some d,.call {callee:= .builtin .append,args:= #[x,y],argTypes:= #[t,u]})) (s:Nat.blt d n=true)
  (F:bY L x=some (.slice a l.length cap)) (G:bY L y=some v) (p:St m (.room a l.length cap e c.sz::own) w) (hi:zM P t=some (e,c.sz,by_,c.sz)) (E:zX P u e)
  (B:RepS c m a cap l) (z:II P c m v k) (D:iK by_ l k=some r)
  (h:∀a' cap' m' w',m.le m'->St m' (.room a' r.length cap' e c.sz::own) w'->RepS c m' a' cap' r->N ((d,.slice a' r.length cap')::L) w'):iO P n ops Q i N L w:=by
 refine HQ (v:=undef) (w':=w) A s (λo q=> ?_)
 obtain⟨a',cap',m',w',f,g,hst',b⟩:=Vs (P:=P) (ty:=o.type) hi E p B z D
 refine⟨_,w',?_,h a' cap' m' w' g hst' b⟩
 simp[execOp,q,resolve,invoke,builtin,cQ F,cQ G,f]
theorem St.nilroom(h:St m own w)(e sz:Nat):St m (.room none 0 0 e sz::own) w:=h.cons ⟨rfl,rfl⟩ (by simp[Piece.block])
theorem qH{α:Type}{t e:TypeId}{len:Nat}{parts:Array (Nat×Operand)}(c:Codec α){xs:List α}(cs:List Value)(H:eN ops L i=some (some d,.buildSlice t len parts))(G:Nat.blt d n=true)
  (u:∀w:World,(Instr.buildSlice t len (parts.map λp=>(p.1,oR L p.2))).run P w= .ok (.slice (some ⟨w.heap.size,0,none⟩) len len) (w.alloc (.cells cs.toArray e)))
  (l:len=xs.length) (r:Nat.ble len maxLen=true) (k:St m own w) (s:RepAll c m xs cs)
  (h:∀b m' w',m.le m'->St m' (.room (some ⟨b,0,none⟩) xs.length len e c.sz::own) w'->RepS c m' (some ⟨b,0,none⟩) len xs->N ((d,.slice (some ⟨b,0,none⟩) xs.length len)::L) w'):iO P n ops Q i N L w:=by
 subst l
 have a:=k.alloc (w':=w.alloc (.cells cs.toArray e)) ⟨⟨rfl,rfl⟩,rfl,oQ⟩ rfl
 have f:=k.fresh_free
 obtain⟨m',y,B,D,E,F,_⟩:=St.know (cs:=cs) a.tail (a.head_ne rfl) a.head.1 ae (λo v A=>by rw[f.1 o] at A;cases A)
 have g:=kY r
 refine oW H G (λq K=> ?_) (h w.heap.size m' _ y (B.cons ⟨rfl,rfl,jN _,g,⟨cs.toArray,a.head.1,by simp[s.len]⟩,?_,?_⟩ ?_) (RepS.of_cells (jN _) g (λj x M=>c.mono _ _ _ _ y (s.rep j x M)) D))
 .simp[execOp,K,u w]
 .intro o ho';exact E o (by rw[s.len];exact ho')
 .rw[F];exact f.2
 intro b z;simp only[Piece.block,kL,jJ] at z;subst z;exact a.head_ne rfl
def XN(P:Program)(t:TypeId)(len:Nat)(parts:List (Nat×Value)):Option (TypeId×List Value):=
 match P.underlying t with
 |some (.slice e)=>match P.info? e with
  |some inf=>bif Nat.ble (len*inf.size) (2^24)&&Nat.blt 0 (len*inf.size) then
   (match inf.zero with
   |some z=>(Instr.fill (λi=>some (i*inf.size,inf.size)) ((Array.range (len*inf.size)).map (z.cells[· %z.cells.size]!)) parts).map λa=>(e,a.toList)
   |none=>none) else none
  |none=>none
 |_=>none
theorem qI{t e:TypeId}{len:Nat}{parts:Array (Nat×Value)}{cs:List Value}(h:XN P t len parts.toList=some (e,cs))(w:World):
  (Instr.buildSlice t len parts).run P w= .ok (.slice (some ⟨w.heap.size,0,none⟩) len len) (w.alloc (.cells cs.toArray e)):=by
 unfold XN at h
 split at h
 .rename_i e' he
  split at h
  .rename_i inf hi
   cases b:(Nat.ble (len*inf.size) (2^24)&&Nat.blt 0 (len*inf.size)) with
   |false=>simp[b] at h
   |true=>
    simp only[b,cond_true] at h
    simp only[jS] at b
    have g:=kY b.1
    have k:0<len*inf.size:=by simpa[Nat.blt_eq] using b.2
    have h1':¬(16777216<len*inf.size):=by omega
    have h2':¬(len*inf.size=0):=by omega
    split at h
    .rename_i z hz
     obtain⟨a,f,c⟩:=jL.1 h
     simp only[Prod.mk.injEq] at c
     obtain⟨rfl,rfl⟩:=c
     simp[Instr.buildSlice,run_underlying he,sizeOf,typeInfo,zeroValue,hi,hz,h1',f,newRow]
     intro d;exact absurd d h2'
    cases h
  cases h
 cases h
def IP{α:Type}(l:List α)(lo hi:Int):Option (List α):=if 0<=lo/\lo<=hi/\hi<=l.length then some ((l.take hi.toNat).drop lo.toNat) else none
theorem RepS.sub{α:Type}{c:Codec α}{a:Option Addr}{cap:Nat}{l:List α}(h:RepS c m a cap l){lo hi:Nat}(o:lo<=hi)(g:hi<=l.length):
  RepS c m (if cap=lo then a else a.map (·.add (lo*c.sz))) (cap-lo) ((l.take hi).drop lo)/\((l.take hi).drop lo).length=hi-lo:=by
 have d:((l.take hi).drop lo).length=hi-lo:=by simp;omega
 refine⟨⟨by rw[d];have:=h.1;omega,by have:=h.2.1;omega,?_⟩,d⟩
 cases a with
 |none=>
  obtain⟨rfl,e⟩:=h.none_nil
  have:(if cap=lo then(none:Option Addr) else(none:Option Addr).map (·.add (lo*c.sz)))=none:=by split<;>rfl
  rw[this]
  simp[e]
 |some p=>
  by_cases hl:l=[]
  .subst hl
   have b:lo=0:=by simp at g;omega
   subst b
   simp[Addr.add]
  have f:=h.spot hl
  by_cases e:cap=lo
  .rw[jB e]
   refine⟨.inl f,λj x b=> ?_⟩
   have k:=(List.getElem?_eq_some_iff.1 b).1
   have:=h.1
   omega
  rw[jA e]
  simp only[kL]
  rw[HH f]
  refine⟨.inl rfl,λj x b=> ?_⟩
  rw[List.getElem?_drop,List.getElem?_take] at b
  split at b
  .obtain⟨cs,n,k⟩:=h.2.2.2 _ _ b
   refine⟨cs,n,?_⟩
   rw[fL,<-kN];exact k
  cases b
theorem Yj{α:Type}{t e:TypeId}{x:Operand}{lo hi:Option Operand}(c:Codec α){a:Option Addr}{cap:Nat}{l r:List α}{li hix:Int}
  (u:bY L x=some (.slice a l.length cap)) (H:tY P t=some (e,c.sz)) (E:RepS c m a cap l)
  (D:(lo=none/\li=0)\/∃y k,lo=some y/\bY L y=some (.int k li)) (A:(hi=none/\hix=l.length)\/∃y k,hi=some y/\bY L y=some (.int k hix)) (g:IP l li hix=some r):
  ∃v,(∀o:Oper,o.op= .slice t x lo hi none->∀w:World,(execOp (oR L) o).run P w= .ok (.value v) w)/\∃a' cap',v= .slice a' r.length cap'/\RepS c m a' cap' r:=by
 obtain⟨h,inf,n,p⟩:=BC H
 unfold IP at g
 split at g
 .rename_i hb
  obtain⟨z,G,K⟩:=hb
  simp only[jJ] at g
  have b:=E.sub (lo:=li.toNat) (hi:=hix.toNat) aa aa
  rw[g] at b
  refine⟨_,λq s w=> ?_,_,_,rfl,b.1⟩
  have d:hix<=(cap:Int):=by have:=E.1;omega
  have f:0<=hix:=by omega
  have B:li<=max hix 0:=by omega
  rcases D with ⟨rfl,rfl⟩|⟨y,k,rfl,F⟩<;>rcases A with ⟨rfl,rfl⟩|⟨y',k',rfl,hy'⟩
  .simp[execOp,s,Instr.sliceAt,Instr.slice,Instr.sliceBounds,run_underlying h,cQ u,sizeOf,typeInfo,n,p] at*
   exact b.2.symm
  .simp[execOp,s,Instr.sliceAt,Instr.slice,Instr.sliceBounds,Instr.sliceBound,asIntOf,run_underlying h,cQ u,cQ hy',sizeOf,typeInfo,n,p,f,d] at*
   exact b.2.symm
  .have:li<=(l.length:Int):=G
   simp[execOp,s,Instr.sliceAt,Instr.slice,Instr.sliceBounds,Instr.sliceBound,asIntOf,run_underlying h,cQ u,cQ F,sizeOf,typeInfo,n,p,z,this] at*
   exact b.2.symm
  simp[execOp,s,Instr.sliceAt,Instr.slice,Instr.sliceBounds,Instr.sliceBound,asIntOf,run_underlying h,cQ u,cQ F,cQ hy',sizeOf,typeInfo,n,p,f,d,z,B] at*
  exact b.2.symm
 cases g
theorem Zc{α:Type}{t e:TypeId}{x:Operand}{lo hi:Option Operand}(c:Codec α){a:Option Addr}{cap:Nat}{l r:List α}{li hix:Int}
  (s:eN ops L i=some (some d,.slice t x lo hi none)) (p:Nat.blt d n=true) (D:bY L x=some (.slice a l.length cap)) (o:tY P t=some (e,c.sz)) (z:RepS c m a cap l)
  (g:(lo=none/\li=0)\/∃y k,lo=some y/\bY L y=some (.int k li)) (f:(hi=none/\hix=l.length)\/∃y k,hi=some y/\bY L y=some (.int k hix)) (A:IP l li hix=some r)
  (h:∀a' cap',RepS c m a' cap' r->N ((d,.slice a' r.length cap')::L) w):iO P n ops Q i N L w:=by
 obtain⟨v,B,a',cap',rfl,b⟩:=Yj (P:=P) (L:=L) c D o z g f A
 exact oW s p (λq u=>B q u w) (h a' cap' b)
end
end Go.Dc
section
namespace Go.Dc
def IU(k:IntKind)(a b:Int):Int:=k.wrap ((BitVec.ofInt k.bits a&&&BitVec.ofInt k.bits b).toNat:Int)
def iXor(k:IntKind)(a b:Int):Int:=k.wrap ((BitVec.ofInt k.bits a^^^BitVec.ofInt k.bits b).toNat:Int)
def wK(k:IntKind)(x y:Int):Option Int:=if y<0 then none else some (x.fdiv (2^(min y.toNat k.bits)))
def rK(k:IntKind)(x y:Int):Option Int:=if y=0 then none else some (k.wrap (x.tdiv y))
def wH(x y:Int):Option Int:=if y=0 then none else some (x.tmod y)
def aC{σ β:Type}(f:σ->Option (σ⊕β)):Nat->σ->Option β
 |0,_=>none
 |k+1,s=>(f s).bind fun
  | .inl s'=>aC f k s'
  | .inr b=>some b
theorem Vz{σ β:Type}{f:σ->Option (σ⊕β)}{k:Nat}{s:σ}{b:β}(h:aC f (k+1) s=some b):∃c,f s=some c/\(∀s',c= .inl s'->aC f k s'=some b)/\(∀b',c= .inr b'->b'=b):=by
 simp only[aC] at h
 obtain⟨c,d,a⟩:=jQ.1 h
 refine⟨c,d,?_,?_⟩
 .rintro s' rfl;exact a
 rintro b' rfl;simpa using a
section
variable {ρ:Option Nat} {P:Program} {n:Fr} {ops:Array Oper} {Q:Exit->Act->World->Prop} {i d:Nat} {L:bF} {w:World} {m:Mem} {own:List Piece} {N:bF->World->Prop}
theorem Kb{t:Nat}{b:Bool}(e:Bool)(d:mE L t=some (.bool e))(f:e=b)(h:WO P n ops Q i ((t,.bool b)::L) w):WO P n ops Q i L w:=by
 intro a g
 refine h a (g.sub ?_)
 intro u v c
 simp only[mE] at c
 cases hb:Nat.beq t u with
 |true=>
  simp only[hb,cond_true] at c
  have:=fH hb;subst this
  rw[d,f];exact c
 |false=>simp only[hb,cond_false] at c;exact c
theorem DS{j:Nat}(I:bF->World->Prop)(a:∀L' w',I L' w'->WO P n ops Q j L' w')(b:(∀L' w',I L' w'->WO P n ops Q j L' w')->WO P n ops Q i L w):WO P n ops Q i L w:=b a
theorem eS{c:Code}(e:Exit)(I:bF->World->Prop)(b:∀L' w',I L' w'->X n Q e L' w')(a:(∀L' w',I L' w'->X n Q e L' w')->W ρ P n c Q L w):W ρ P n c Q L w:=a b
theorem Kc{t t2:TypeId}{x y:Operand}{k p:IntKind}{a b r:Int}(f:eN ops L i=some (some d,.binOp .shr t x y t2))(e:Nat.blt d n=true)(l:bY L x=some (.int k a))(o:bY L y=some (.int p b))
  (c:wK k a b=some r) (h:N ((d,.int k r)::L) w):iO P n ops Q i N L w:=by
 unfold wK at c
 split at c
 .cases c
 rename_i hb
 simp only[jJ] at c;subst c
 refine oW f e (λq g=> ?_) h
 simp[execOp,g,cQ l,cQ o,eqGuard,binOp,Op.shift,hb]
theorem UD{t t2:TypeId}{x y:Operand}{k:IntKind}{a b r:Int}(f:eN ops L i=some (some d,.binOp .quo t x y t2))(e:Nat.blt d n=true)(l:bY L x=some (.int k a))(o:bY L y=some (.int k b))
  (c:rK k a b=some r) (h:N ((d,.int k r)::L) w):iO P n ops Q i N L w:=by
 unfold rK at c
 split at c
 .cases c
 rename_i hb
 simp only[jJ] at c;subst c
 refine oW f e (λq g=> ?_) h
 simp[execOp,g,cQ l,cQ o,eqGuard,binOp,Op.intDiv,hb]
theorem ZZ{t t2:TypeId}{x y:Operand}{k:IntKind}{a b r:Int}(f:eN ops L i=some (some d,.binOp .rem t x y t2))(e:Nat.blt d n=true)(l:bY L x=some (.int k a))(o:bY L y=some (.int k b))
  (c:wH a b=some r) (h:N ((d,.int k r)::L) w):iO P n ops Q i N L w:=by
 unfold wH at c
 split at c
 .cases c
 rename_i hb
 simp only[jJ] at c;subst c
 refine oW f e (λq g=> ?_) h
 simp[execOp,g,cQ l,cQ o,eqGuard,binOp,Op.intDiv,hb]
def pJ(s:BA)(lo hi:Int):Option BA:=if 0<=lo/\lo<=hi/\hi<=s.size then some ⟨((s.data.toList.drop lo.toNat).take (hi.toNat-lo.toNat)).toArray⟩ else none
theorem Jn(s:BA)(lo hi:Int):pJ s lo hi=if 0<=lo/\lo<=hi/\hi<=s.size then some (s.extract lo.toNat hi.toNat) else none:=by
 have:s.extract lo.toNat hi.toNat=⟨((s.data.toList.drop lo.toNat).take (hi.toNat-lo.toNat)).toArray⟩:=by
  apply ByteArray.ext
  rw[ByteArray.data_extract]
  apply Array.ext'
  simp[gG]
 rw[this];rfl
def lH(s:BA)(i:Int):Option UInt8:=if 0<=i then s[i.toNat]? else none
def eO(s t:BA):Option BA:=if s.size+t.size<=maxLen then some (s++t) else none
def sS(l:List UInt8):BA:=⟨l.toArray⟩
theorem Ub{t:TypeId}{x y:Operand}{s:BA}{k:IntKind}{ix:Int}{z:UInt8}(c:eN ops L i=some (some d,.index t x y))(b:Nat.blt d n=true)(g:bY L x=some (.string s))(l:bY L y=some (.int k ix))
  (f:P.underlying t=some .string) (a:lH s ix=some z) (h:N ((d,.int .u8 (z.toNat:Int))::L) w):iO P n ops Q i N L w:=by
 unfold lH at a
 split at a
 .rename_i h0
  refine oW c b (λq e=> ?_) h
  simp[execOp,e,cQ g,cQ l,Instr.index,asIntOf,run_underlying f,h0,a]
 cases a
theorem sL{t:TypeId}{x:Operand}{lo hi:Option Operand}{s r:BA}{li hix:Int}(B:eN ops L i=some (some d,.slice t x lo hi none))(A:Nat.blt d n=true)(f:bY L x=some (.string s))
  (e:P.underlying t=some .string) (u:(lo=none/\li=0)\/∃y k,lo=some y/\bY L y=some (.int k li)) (o:(hi=none/\hix=s.size)\/∃y k,hi=some y/\bY L y=some (.int k hix)) (b:pJ s li hix=some r)
  (h:N ((d,.string r)::L) w):iO P n ops Q i N L w:=by
 rw[Jn] at b
 split at b
 .rename_i hb
  obtain⟨g,z,l⟩:=hb
  simp only[jJ] at b;subst b
  refine oW B A (λq c=> ?_) h
  have a:0<=hix:=by omega
  have p:li<=max hix 0:=by omega
  rcases u with ⟨rfl,rfl⟩|⟨y,k,rfl,v⟩<;>rcases o with ⟨rfl,rfl⟩|⟨y',k',rfl,hy'⟩
  .simp[execOp,c,Instr.sliceAt,Instr.slice,Instr.sliceBounds,run_underlying e,cQ f]
  .simp[execOp,c,Instr.sliceAt,Instr.slice,Instr.sliceBounds,Instr.sliceBound,asIntOf,run_underlying e,cQ f,cQ hy',a,l]
  .have:li<=(s.size:Int):=z
   simp[execOp,c,Instr.sliceAt,Instr.slice,Instr.sliceBounds,Instr.sliceBound,asIntOf,run_underlying e,cQ f,cQ v,g,this]
  simp[execOp,c,Instr.sliceAt,Instr.slice,Instr.sliceBounds,Instr.sliceBound,asIntOf,run_underlying e,cQ f,cQ v,cQ hy',a,l,g,p]
 cases b
theorem qDo{t t2:TypeId}{x y:Operand}{a b r:BA}(g:eN ops L i=some (some d,.binOp .add t x y t2))(f:Nat.blt d n=true)(l:bY L x=some (.string a))(o:bY L y=some (.string b))
  (c:eO a b=some r) (h:N ((d,.string r)::L) w):iO P n ops Q i N L w:=by
 unfold eO at c
 split at c
 .rename_i hb
  simp only[jJ] at c;subst c
  refine oW g f (λq k=> ?_) h
  have e:IntKind.i64.max=9223372036854775807:=by decide
  have hb':¬(9223372036854775807<(a.size:Int)+(b.size:Int)):=by simp only[maxLen] at hb;omega
  simp[execOp,k,cQ l,cQ o,eqGuard,binOp,Op.stringOp,e,hb']
 cases c
def ResAt(P:Program)(w:World)(L:bF)(rv:ResultVar)(v:Value):Prop:=
 match rv with
 | .tmp t=>mE L t=some v
 | .cell a t=>∃b o cs,mE L a=some (.pointer (some ⟨b,o,none⟩))/\(∀j u,cs[j]? =some u->w.cell? ⟨b,o+j,none⟩=some u)/\tL P t cs=some v
def ResAll(P:Program)(w:World)(L:bF):List ResultVar->List Value->Prop
 |[],vs=>vs=[]
 |rv::l,vs=>∃v vs',vs=v::vs'/\ResAt P w L rv v/\ResAll P w L l vs'
def sM:List Value->Value
 |[v]=>v
 |vs=> .tuple vs.toArray
theorem ResAt.row{t:TypeId}{a:Nat}{b o:Nat}{cs:List Value}{v:Value}(d:mE L a=some (.pointer (some ⟨b,o,none⟩)))(c:St m own w)(e:MRow m b o cs)(g:tL P t cs=some v):ResAt P w L (.cell a t) v:=
 ⟨b,o,cs,d,λj u f=>c.inv.cell (e j u f),g⟩
theorem ResAt.blk{t e:TypeId}{a:Nat}{b o:Nat}{c:Array Value}{f:Nat×Nat}{v:Value}(g:mE L a=some (.pointer (some ⟨b,o,none⟩)))(h:Piece.holds m w (.blk b (.cells c e f)))(k:tL P t (c.toList.drop o)=some v):ResAt P w L (.cell a t) v:=
 ⟨b,o,c.toList.drop o,g,λj u d=>by
  rw[List.getElem?_drop] at d
  simp only[World.cell?,h.1]
  simpa using d,k⟩
def NQ(tmps:Array Value):ResultVar->Sem Value
 | .tmp t=>pure (tmps.getD t undef)
 | .cell a t=>do loadVar t (<-asAddr (tmps.getD a undef))
theorem Wx(fn:Func)(tmps:Array Value):results fn tmps=(do let vs <-fn.results.mapM (NQ tmps);pure (if h:vs.size=1 then vs[0] else .tuple vs)):=by
 unfold results
 congr 2
theorem pG{k:Nat}{fn:Func}{R:Ending->World->Prop}(rvs:List ResultVar)(vs:List Value)(q:fn.results=rvs.toArray)(y:ResAll P w L rvs vs)(h:R (.returned (sM vs)) w):X ⟨k,[]⟩ (bodyPost P fn R) .ret L w:=by
 intro a c
 refine⟨c.2.1,sM vs,?_,h⟩
 have key:∀(l:List ResultVar) (us:List Value),ResAll P w L l us->Sem.run P (l.mapM (NQ a.tmps)) w= .ok us w:=by
  intro l
  induction l with
  |nil=>intro us h;simp[ResAll] at h;subst h;simp
  |cons r l z=>
   rintro us ⟨v,vs',rfl,e,f⟩
   have s:Sem.run P (NQ a.tmps r) w= .ok v w:=by
    cases r with
    |tmp t=>
     have d:a.tmps[t]? =some v:=c.2.2 t v e
     simp[NQ,d]
    |cell x t=>
     obtain⟨b,o,cs,g,n,p⟩:=e
     have d:a.tmps[x]? =some (.pointer (some ⟨b,o,none⟩)):=c.2.2 x _ g
     have:=HG (P:=P) n p
     simp[NQ,d,asAddr,this]
   rw[List.mapM_cons]
   simp only[Sem.run_bind,s,Result.andThen_ok,z vs' f,Sem.run_pure]
 have d:=key rvs vs y
 rw[Wx,q]
 simp only[Sem.run_bind,List.mapM_toArray,Sem.run_map,d,Result.andThen_ok,Sem.run_pure]
 rcases vs with _|⟨v,_|⟨u,r⟩⟩
 .rfl
 .rfl
 simp[sM]
end
theorem not_true{e:Bool}(h:e=false):¬e=true:=by rw[h];exact gO
theorem ResAt.tmp{P:Program}{w:World}{L:bF}{t:Nat}{v:Value}(h:mE L t=some v):ResAt P w L (.tmp t) v:=h
theorem ResAll.nil{P:Program}{w:World}{L:bF}:ResAll P w L [] []:=rfl
theorem ResAll.cons{P:Program}{w:World}{L:bF}{rv:ResultVar}{l:List ResultVar}{v:Value}{vs:List Value}(a:ResAt P w L rv v)(b:ResAll P w L l vs):ResAll P w L (rv::l) (v::vs):=⟨v,vs,rfl,a,b⟩
theorem aM{α β:Type}{x:Option α}{f:α->Option β}{b:β}(h:x.bind f=some b):∃a,x=some a/\f a=some b:=jQ.1 h
theorem eX(e:Bool):e=true\/e=false:=by cases e<;>simp
theorem Wb{σ β:Type}{f:σ->Option (σ⊕β)}{s:σ}{b:β}{p:Prop}(h:aC f 0 s=some b):p:=by simp[aC] at h
section
variable {ρ:Option Nat} {P:Program} {n:Fr} {ops:Array Oper} {Q:Exit->Act->World->Prop} {L:bF} {w:World} {m:Mem} {own:List Piece}
def TS:List (Nat×(World->Prop))->Array Bool->World->Prop
 |[],_,_=>True
 |p::ks,l,w=>(l.getD p.1 false=true\/p.2 w)/\TS ks l w
theorem Am{ks:List (Nat×(World->Prop))}{l:Array Bool}{w:World}:TS ks l w↔∀p∈ks,l.getD p.1 false=true\/p.2 w:=by
 induction ks with
 |nil=>simp[TS]
 |cons p ks a=>simp[TS,a]
def Jy(ks:List (Nat×(World->Prop)))(i:Nat):Bool:=ks.all λp=> !Nat.beq p.1 i
theorem Uc{ks:List (Nat×(World->Prop))}{i:Nat}(h:Jy ks i=true):∀p∈ks,p.1≠i:=by
 intro p a e
 have:=jW.1 h p a
 subst e
 simp at this
def NV(P:Program)(ops:Array Oper)(Q:Exit->Act->World->Prop)(ks:List (Nat×(World->Prop))):Nat->Array Bool->Act->World->Prop
 |0,listed,a,w=>Region.ready .any ops listed=[]/\Q .normal a w
 |fuel+1,listed,a,w=>
  (Region.ready .any ops listed=[]->Q .normal a w)/\
  ∀i∈Region.ready .any ops listed,qD P ops Q i (λa' w'=>TS ks (listed.setIfInBounds i true) w'/\NV P ops Q ks fuel (listed.setIfInBounds i true) a' w') a w
theorem Gh{ρ:Option Nat}(b:HZ ρ ops=true){ks:List (Nat×(World->Prop))}:∀(fuel:Nat) (listed:Array Bool) (a:Act) (w:World),NV P ops Q ks fuel listed a w->wpAnyIn (lX ρ) 0 P .any ops Q fuel listed a w
 |0,_,_,_,h=>h
 |fuel+1,_,_,_,h=>⟨h.1,λi hi=>Mm b (λa' w' h'=>Gh b fuel _ a' w' h'.2) (h.2 i hi)⟩
theorem Dt{S:World->Prop}{i:Nat}{o:Oper}{v:Value}{a:Act}(e:YieldsIf P ops S o v a)(hi:ops[i]? =some o)
  {K:Act->World->Prop} {w:World} (c:S w) (h:K (a.put o.dst v) w):qD P ops Q i K a w:=by
 unfold qD
 simp only[hi]
 rcases e with ⟨b,d⟩|⟨b,rfl⟩
 .simp only[b,jH,d w c,Oper.uponIn];exact h
 simp only[b,j9,jF];exact h
theorem Yk{S:World->Prop}{j:Nat}{oi oj:Oper}{v:Value}(z:ops[j]? =some oj)(s:oi.apart ops oj=true)
  (t:∀cs b,oi.op≠ .select cs b) (y:∀cs b,oj.op≠ .select cs b)
  (o:∀c a w,Q (.panic c) (a.put oi.dst v) w->Q (.panic c) a w) {K:Act->World->Prop} {a:Act} {w:World}
  (k:YieldsIf P ops S oi v a) (h:qD P ops Q j K (a.put oi.dst v) w):
  qD P ops Q j (λa' w'=>YieldsIf P ops S oi v a'/\K (a'.put oi.dst v) w') a w:=by
 obtain⟨p,n,q⟩:=Oper.apart_spec s
 have keep:∀(a:Act),YieldsIf P ops S oi v a->∀u,YieldsIf P ops S oi v (a.put oj.dst u):=λa k u=>
  k.of_same (execOp_put oi t a oj.dst u q) (wanted_put oi a oj.dst u q)
 have keepD:∀d,YieldsIf P ops S oi v {a with defers:=d::a.defers}:=λd=>k.of_same rfl rfl
 unfold qD at*
 simp only[z] at*
 rw[wanted_put oj a oi.dst v p] at h
 split
 .rename_i hw
  simp only[hw,jH] at h
  rw[execOp_put oj y a oi.dst v p] at h
  generalize (execOp a.eval oj).run P w=r at*
  cases r with
  |ok x w'=>
   cases x<;>simp only[Oper.uponIn] at h ⊢
   case value u=>exact⟨keep a k u,by rw[<-Act.put_comm a v u n];exact h⟩
   case skip=>exact⟨keep a k _,by rw[<-Act.put_comm a v undef n];exact h⟩
   case defer d=>
    refine⟨keep _ (keepD d) _,?_⟩
    rw[<-Act.put_comm _ v undef n,<-Act.put_defers]
    exact h
   case enter f args=>
    refine⟨h.1,CallsIn.mono h.2 λe w'' g=> ?_⟩
    cases e with
    |returned u=>exact⟨keep a k u,by rw[<-Act.put_comm a v u n];exact g⟩
    |panicked c=>exact o _ _ _ g
    |outgrown=>exact g
   case row row args=>exact⟨h.1,RowsIn.mono h.2 λu w'' g=>⟨keep a k u,by rw[<-Act.put_comm a v u n];exact g⟩⟩
   case round l f tmps assign body=>
    refine⟨h.1,RoundIn.mono h.2 λe w'' g=> ?_⟩
    cases e with
    |returned u=>exact⟨keep a k u,by rw[<-Act.put_comm a v u n];exact g⟩
    |panicked c=>exact o _ _ _ g
    |outgrown=>exact g
  |halt x w'=>
   cases x<;>simp only[Oper.uponIn] at h ⊢
   case panic u=>exact o _ _ _ h
 rename_i hw
 simp only[hw] at h
 exact⟨keep a k _,by rw[<-Act.put_comm a v undef n];exact h⟩
def TM(ops:Array Oper)(k i:Nat):Bool:=
 match ops[k]? with
 |none=>true
 |some o=>o.after.any λe=>Region.binds .any e&&e.on==i
theorem Sp{k i:Nat}(h:TM ops k i=true){listed:Array Bool}(hi:listed.getD i true=false):k∉Region.ready .any ops listed:=by
 intro f
 obtain⟨_,o,g,b⟩:=mem_ready.1 f
 simp only[TM,g] at h
 obtain⟨e,d,c⟩:=Array.any_eq_true'.1 h
 simp only[jS,kG] at c
 have a:=b e d c.1
 rw[c.2] at a
 rcases dG i listed.size with h'|h'
 .simp[h'] at hi a;rw[hi] at a;cases a
 simp[Array.getElem?_eq_none h'] at a
theorem Av{ks:List (Nat×(World->Prop))}{l:Array Bool}{w:World}{i:Nat}(h:TS ks l w):TS ks (l.setIfInBounds i true) w:=by
 rw[Am] at*
 intro p a
 rcases h p a with h|h
 .left
  by_cases hi:i=p.1
  .subst hi
   rcases dG p.1 l.size with h'|h'
   .simp[h']
   simp[Array.getElem?_eq_none h'] at h
  rw[getD_set_ne false hi];exact h
 exact .inr h
theorem Zi{ks:List (Nat×(World->Prop))}{l:Array Bool}{w:World}{i j:Nat}(b:∀p∈ks,p.1≠i)(h:TS ks ((l.setIfInBounds i true).setIfInBounds j true) w):TS ks (l.setIfInBounds j true) w:=by
 by_cases hij:i=j
 .subst hij;simpa using h
 rw[Am] at*
 intro p a
 rcases h p a with h|h
 .left
  by_cases hj:j=p.1
  .subst hj
   rcases dG p.1 l.size with h'|h'
   .simp[h']
   simp[Array.getElem?_eq_none h'] at h;omega
  rw[getD_set_ne false hj] at h ⊢
  rw[getD_set_ne false (Ne.symm (b p a))] at h;exact h
 exact .inr h
theorem Su{k i:Nat}{S:World->Prop}{ks:List (Nat×(World->Prop))}(z:(k,S)∈ks)(F:∀p∈ks,p.1≠i){oi:Oper}{v:Value}(y:TM ops k i=true)(hi:ops[i]? =some oi)(B:∀(j:Nat) (o:Oper) cs b,ops[j]? =some o->o.op≠ .select cs b)
  (Y:∀c a w,Q (.panic c) (a.put oi.dst v) w->Q (.panic c) a w):
  ∀(fuel:Nat) (listed:Array Bool) (a:Act) (w:World),listed.getD k false=false->
   (∀j oj,ops[j]? =some oj->j≠i->listed.getD j true=false->(∀e∈oj.after,Region.binds .any e=true->e.on≠i)->oi.apart ops oj=true)->
   i∈Region.ready .any ops listed->YieldsIf P ops S oi v a->TS ks listed w->
   NV P ops Q ks fuel (listed.setIfInBounds i true) (a.put oi.dst v) w->NV P ops Q ks (fuel+1) listed a w:=by
 have a1:k≠i:=F _ z
 have getS:∀{l:Array Bool} {w:World},l.getD k false=false->TS ks l w->S w:=λD h=>by
  rcases Am.1 h _ z with h|h
  .simp only at h;rw[D] at h;cases h
  exact h
 intro fuel
 induction fuel with
 |zero=>
  intro listed a w s _ f E t H
  refine⟨λh=>(by rw[h] at f;cases f),λj u=> ?_⟩
  by_cases d:j=i
  .subst d;exact Dt E hi (getS s t) ⟨Av t,H⟩
  have:=ready_mono u d
  rw[H.1] at this
  cases this
 |succ fuel ih=>
  intro listed a w s n f E t H
  refine⟨λh=>(by rw[h] at f;cases f),λj u=> ?_⟩
  by_cases d:j=i
  .subst d;exact Dt E hi (getS s t) ⟨Av t,H⟩
  have r:j≠k:=by
   rintro rfl
   exact Sp y (mem_ready.1 f).1 u
  have g:=H.2 j (ready_mono u d)
  obtain⟨x,oj,A,K⟩:=mem_ready.1 u
  have M:∀e∈oj.after,Region.binds .any e=true->e.on≠i:=λe he Z R=>by
   have g:=K e he Z
   have D:=(mem_ready.1 f).1
   rw[R] at g
   rcases dG i listed.size with h'|h'
   .simp[h'] at D g;rw[D] at g;cases g
   simp[Array.getElem?_eq_none h'] at g
  have V:=Yk A (n j oj A d x M) (λcs b=>B i oi cs b hi) (λcs b=>B j oj cs b A) Y E g
  have hfree':∀q ok,ops[q]? =some ok->q≠i->(listed.setIfInBounds j true).getD q true=false->
    (∀e∈ok.after,Region.binds .any e=true->e.on≠i)->oi.apart ops ok=true:=λq ok hk y G U=>by
   refine n q ok hk y ?_ U
   by_cases r:j=q
   .subst r;exact x
   rw[getD_set_ne true r] at G;exact G
  have hk0':(listed.setIfInBounds j true).getD k false=false:=by rw[getD_set_ne false r];exact s
  refine TK (λa' w' G=> ?_) V
  have hT':TS ks (listed.setIfInBounds j true) w':=Zi F G.2.1
  refine⟨hT',ih (listed.setIfInBounds j true) a' w' hk0' hfree' (ready_mono f (Ne.symm d)) G.1 hT' ?_⟩
  rw[Array.setIfInBounds_comm _ _ d]
  exact G.2.2
def QP(Q:Exit->Act->World->Prop):Prop:=∀c a w d v,Q (.panic c) (Act.put a d v) w->Q (.panic c) a w
theorem bU{K:Act->World->Prop}(h:QP Q):QP (Exit.then K Q):=h
theorem iQ{id:Nat}(h:QP Q):QP (Exit.inBlock id Q):=h
theorem lR{fn:Func}{R:Ending->World->Prop}:QP (bodyPost P fn R):=by
 rintro c a w d v ⟨b,e⟩
 refine⟨?_,e⟩
 cases d<;>exact b
def marks(l:List Nat)(n:Nat):Array Bool:=l.foldl (λa i=>a.setIfInBounds i true) (Array.replicate n false)
def WA(P:Program)(n:Fr)(ops:Array Oper)(Q:Exit->Act->World->Prop)(ks:List (Nat×(World->Prop)))(fuel:Nat)(done:List Nat)(L:bF)(w:World):Prop:=
 TS ks (marks done ops.size) w->∀a,Fits n a L->NV P ops Q ks fuel (marks done ops.size) a w
theorem HE(l:List Nat)(i n:Nat):marks (l++[i]) n=(marks l n).setIfInBounds i true:=by simp[marks,fC]
theorem qBj{id:Nat}(d:HZ ρ ops=true)(ks:List (Nat×(World->Prop)))(e:P.follows .mixedOrders=true)(st:St m own w)(h:∀w',w'.heap=w.heap->St m own w'->TS ks (marks [] ops.size) w'/\WA P n ops Q ks ops.size [] L w'):W ρ P n (.region id ops true) Q L w:=by
 intro a c
 have b:=h {w with drawn:=w.drawn+1} rfl (st.grow ⟨⟨rfl,rfl⟩,rfl,oQ⟩ λ_ _=>rfl)
 exact wpIn_region_any e (Gh d (ks:=ks) _ _ _ _ (b.2 b.1 a c))
theorem cM{id:Nat}(ks:List (Nat×(World->Prop)))(a:P.follows .mixedOrders=true)(st:St m own w)(h:∀w',w'.heap=w.heap->St m own w'->TS ks (marks [] ops.size) w'/\WA P n ops Q ks ops.size [] L w'):W none P n (.region id ops true) Q L w:=qBj rfl ks a st h
def pE(ops:Array Oper)(ks:List (Nat×(World->Prop)))(k i:Nat)(done:List Nat):Bool:=
 Region.noSelect ops&&Region.free .any ops (marks done ops.size) i&&(Region.ready .any ops (marks done ops.size)).contains i&&TM ops k i&&Jy ks i&& !((marks done ops.size).getD k false)
variable {ks:List (Nat×(World->Prop))}
theorem YW{k fuel:Nat}{S:World->Prop}{done:List Nat}{i:Nat}{o:Oper}{v:Value}{L':bF}(d:ops[i]? =some o)(g:pE ops ks k i done=true)(b:(k,S)∈ks)(p:QP Q)
  (q:∀a,Fits n a L->YieldsIf P ops S o v a) (l:∀a,Fits n a L->Fits n (a.put o.dst v) L') (h:WA P n ops Q ks fuel (done++[i]) L' w):WA P n ops Q ks (fuel+1) done L w:=by
 simp only[pE,jS,fZ] at g
 obtain⟨⟨⟨⟨⟨s1,s2⟩,r⟩,s⟩,t⟩,u⟩:=g
 intro e a f
 have hT':TS ks (marks (done++[i]) ops.size) w:=by rw[HE];exact Av e
 have:=h hT' (a.put o.dst v) (l a f)
 rw[HE] at this
 exact Su b (Uc t) s d (Region.noSelect_spec s1) (λc a w=>p c a w _ _) fuel _ a w u (Region.free_spec d s2) (by simpa using r) (q a f) e this
theorem DK{k fuel:Nat}{S:World->Prop}{done:List Nat}(i d:Nat)(op:Op)(v:Value)(s:eN ops L i=some (some d,op))(r:Nat.blt d n=true)
  (u:pE ops ks k i done=true) (c:(k,S)∈ks)
  (t:QP Q) (e:∀o:Oper,o.op=op->∀w,S w->(execOp (oR L) o).run P w= .ok (.value v) w)
  (h:WA P n ops Q ks fuel (done++[i]) ((d,v)::L) w):WA P n ops Q ks (fuel+1) done L w:=by
 obtain⟨o,f,g,l,p,q⟩:=HI s
 exact YW f u c t (v:=v) (λa b=> .inl ⟨b.wanted p,λw' hw'=>by rw[b.exec q];exact e o l w' hw'⟩) (λa b=>by rw[g];exact b.put r v) h
theorem qEx{k fuel:Nat}{S:World->Prop}{done:List Nat}(i d:Nat)(r:((ops[i]?).bind λo=>(qJ ops L o.guard).map λb=>(o.dst,b))=some (some d,false))(q:Nat.blt d n=true)
  (t:pE ops ks k i done=true) (f:(k,S)∈ks)
  (s:QP Q) (h:WA P n ops Q ks fuel (done++[i]) ((d,undef)::L) w):WA P n ops Q ks (fuel+1) done L w:=by
 obtain⟨o,g,l⟩:=jQ.1 r
 obtain⟨b,p,c⟩:=jL.1 l
 simp only[Prod.mk.injEq] at c
 obtain⟨c,rfl⟩:=c
 exact YW g t f s (v:=undef) (λa e=> .inr ⟨e.wanted p,rfl⟩) (λa e=>by rw[c];exact e.put q undef) h
theorem aK{fuel:Nat}{done:List Nat}(i:Nat)(e:Region.ready .any ops (marks done ops.size)=[i])
  (h:iO P n ops Q i (λL' w'=>TS ks (marks (done++[i]) ops.size) w'/\WA P n ops Q ks fuel (done++[i]) L' w') L w):WA P n ops Q ks (fuel+1) done L w:=by
 intro _ a k
 refine⟨λd=>(by rw[e] at d;cases d),λj c=> ?_⟩
 rw[e] at c
 simp only[gX] at c
 subst c
 refine TK (λa' w' h'=> ?_) (h a k)
 obtain⟨L',f,b,g⟩:=h'
 have:=g b a' f
 rw[HE] at b
 rw[HE] at this
 exact⟨b,this⟩
theorem bO{fuel:Nat}{done:List Nat}(c:Region.ready .any ops (marks done ops.size)=[])(h:X n Q .normal L w):WA P n ops Q ks fuel done L w:=by
 intro _ a b
 cases fuel with
 |zero=>exact⟨c,h a b⟩
 |succ f=>exact⟨λ_=>h a b,(by rw[c];simp)⟩
theorem mO{fuel:Nat}{done:List Nat}{t:Nat}{b:Bool}(e:Bool)(d:mE L t=some (.bool e))(f:e=b)(h:WA P n ops Q ks fuel done ((t,.bool b)::L) w):WA P n ops Q ks fuel done L w:=by
 intro g a k
 refine h g a (k.sub ?_)
 intro u v c
 simp only[mE] at c
 cases hb:Nat.beq t u with
 |true=>
  simp only[hb,cond_true] at c
  have:=fH hb;subst this
  rw[d,f];exact c
 |false=>simp only[hb,cond_false] at c;exact c
theorem Inv.anti{m':Mem}(h:Inv m' w)(a:m.le m'):Inv m w:=⟨λb o v c=>h.1 b o v (a.1 _ _ _ c),λb x d=>h.2.1 b x (a.2.1 _ _ d),a.2.2▸h.2.2⟩
theorem Piece.holds_anti{m':Mem}{b:Nat}{o:Obj}(h:Piece.holds m' w (.blk b o))(a:m.le m'):Piece.holds m w (.blk b o):=by
 refine⟨h.1,λq=> ?_,?_⟩
 .cases hc:m.cell b q with
  |none=>rfl
  |some v=>rw[<-h.2.1 q,a.1 _ _ _ hc]
 cases hc:m.obj b with
 |none=>rfl
 |some v=>rw[<-h.2.2,a.2.1 _ _ hc]
def BM(P:Program)(ops:Array Oper)(L:bF)(i:Nat):Option (Nat×Value):=
 match ops[i]? with
 |none=>none
 |some o=>match qJ ops L o.guard with
  |some true=>bif rL L o.op then(match o.dst,tQ P (execOp (oR L) o) with
   |some d,some (.value v)=>some (d,v)
   |_,_=>none) else none
  |_=>none
theorem Lf{ks:List (Nat×(World->Prop))}{k fuel:Nat}{S:World->Prop}{done:List Nat}(i d:Nat)(v:Value)(c:BM P ops L i=some (d,v))(q:Nat.blt d n=true)(s:pE ops ks k i done=true)(p:(k,S)∈ks)(r:QP Q)
  (h:WA P n ops Q ks fuel (done++[i]) ((d,v)::L) w):WA P n ops Q ks (fuel+1) done L w:=by
 unfold BM at c
 cases g:ops[i]? with
 |none=>simp[g] at c
 |some o=>
  simp only[g] at c
  cases f:qJ ops L o.guard with
  |none=>simp[f] at c
  |some b=>
   cases b with
   |false=>simp[f] at c
   |true=>
    simp only[f] at c
    cases l:rL L o.op with
    |false=>simp[l] at c
    |true=>
     simp only[l,cond_true] at c
     split at c
     .rename_i d' v' hd' he
      simp only[jJ,Prod.mk.injEq] at c
      obtain⟨rfl,rfl⟩:=c
      exact YW g s p r (v:=v') (λa e=> .inl ⟨e.wanted f,λw' _=>by rw[e.exec l];exact BG he w'⟩) (λa e=>by rw[hd'];exact e.put q v') h
     cases c
theorem Ui{ks:List (Nat×(World->Prop))}{k fuel:Nat}{S:World->Prop}{done:List Nat}{t:TypeId}{x:Operand}{b o:Nat}{cs:List Value}(i d:Nat)(v:Value)(l:eN ops L i=some (some d,.load t x))(f:Nat.blt d n=true)
  (r:pE ops ks k i done=true) (a:(k,S)∈ks) (c:QP Q) (e:∀w,S w->Inv m w) (z:bY L x=some (.pointer (some ⟨b,o,none⟩))) (p:MRow m b o cs) (y:tL P t cs=some v)
  (h:WA P n ops Q ks fuel (done++[i]) ((d,v)::L) w):WA P n ops Q ks (fuel+1) done L w:=by
 refine DK i d _ v l f r a c (λq c w' hw'=> ?_) h
 have g:=HG (P:=P) (w:=w') (t:=t) (b:=b) (o:=o) (cs:=cs) (v:=v) (λj u s=>(e w' hw').cell (p j u s)) y
 simp[execOp,c,Instr.loadAt,cQ z,Instr.sureAddr,g]
theorem Ek{ks:List (Nat×(World->Prop))}{k fuel:Nat}{S:World->Prop}{done:List Nat}{t e:TypeId}{x:Operand}{b o:Nat}{c:Array Value}{f:Nat×Nat}(i d:Nat)(v:Value)(z:eN ops L i=some (some d,.load t x))(s:Nat.blt d n=true)
  (A:pE ops ks k i done=true) (a:(k,S)∈ks) (g:QP Q) (p:∀w,S w->Piece.holds m w (.blk b (.cells c e f))) (D:bY L x=some (.pointer (some ⟨b,o,none⟩))) (B:tL P t (c.toList.drop o)=some v)
  (h:WA P n ops Q ks fuel (done++[i]) ((d,v)::L) w):WA P n ops Q ks (fuel+1) done L w:=by
 refine DK i d _ v z s A a g (λq g w' hw'=> ?_) h
 have r:=(p w' hw').1
 have y:=HG (P:=P) (w:=w') (t:=t) (b:=b) (o:=o) (cs:=c.toList.drop o) (v:=v) (λj u l=>by
  rw[List.getElem?_drop] at l
  simp only[World.cell?,r]
  simpa using l) B
 simp[execOp,g,Instr.loadAt,cQ D,Instr.sureAddr,y]
theorem nP{α:Type}{ks:List (Nat×(World->Prop))}{k fuel:Nat}{S:World->Prop}{done:List Nat}{t e:TypeId}{x y:Operand}(i d:Nat)(c:Codec α){a:Option Addr}{cap:Nat}{l:List α}{kd:IntKind}{ix:Int}{z:α}(G:eN ops L i=some (some d,.indexAddr t x y))(E:Nat.blt d n=true)
  (H:pE ops ks k i done=true) (r:(k,S)∈ks) (s:QP Q)
  (K:bY L x=some (.slice a l.length cap)) (M:bY L y=some (.int kd ix)) (hi:tY P t=some (e,c.sz)) (u:RepS c m a cap l) (g:bC l ix=some z)
  (h:∀b o cs,c.rep m z cs->MRow m b o cs->WA P n ops Q ks fuel (done++[i]) ((d,.pointer (some ⟨b,o,none⟩))::L) w):WA P n ops Q ks (fuel+1) done L w:=by
 obtain⟨v,inf,A,B⟩:=BC hi
 unfold bC at g
 split at g
 .rename_i h0
  have f:ix.toNat<l.length:=(List.getElem?_eq_some_iff.1 g).1
  cases a with
  |none=>obtain⟨rfl,_⟩:=u.none_nil;simp at f
  |some p=>
   obtain⟨cs,D,F⟩:=u.2.2.2 _ _ g
   refine DK i d _ _ G E H r s (λq s w' _=> ?_) (h p.block (p.off+ix.toNat*c.sz) cs D F)
   have hlt':ix<(l.length:Int):=by omega
   simp[execOp,s,Instr.indexAt,cQ K,cQ M,asIntOf,run_underlying v,h0,hlt',sizeOf,typeInfo,A,B,HH (u.spot (λe=>by rw[e] at f;simp at f))]
 cases g
variable {i d:Nat} {N:bF->World->Prop}
def NG(P:Program)(t:TypeId):Option TypeId:=
 match P.underlying t with
 |some (.slice e)=>match P.underlying e with
  |some (.int .u8)=>some e
  |_=>none
 |_=>none
theorem WW{t e:TypeId}(h:NG P t=some e):P.underlying t=some (.slice e)/\P.underlying e=some (.int .u8):=by
 unfold NG at h
 split at h
 .rename_i e' he
  split at h
  .rename_i he';simp only[jJ] at h;subst h;exact⟨he,he'⟩
  cases h
 cases h
theorem Zp{a:Option Addr}{cap:Nat}{l:List UInt8}(h:RepS cU8 m a cap l):∀p,a=some p->(p.spot=none\/l=[])/\MRow m p.block p.off (l.map λb=> .int .u8 (b.toNat:Int)):=by
 rintro p rfl
 refine⟨h.2.2.1,λj v d=> ?_⟩
 rw[List.getElem?_map] at d
 obtain⟨x,k,rfl⟩:=jL.1 d
 obtain⟨cs,f,g⟩:=h.2.2.2 j x k
 have c:cs=[.int .u8 (x.toNat:Int)]:=f
 subst c
 have:=g 0 _ rfl
 have e:cU8.sz=1:=rfl
 simp only[e,Nat.mul_one,gZ] at this
 exact this
theorem Sv{t1 t2 e:TypeId}{x:Operand}{a:Option Addr}{cap:Nat}{l:List UInt8}(y:eN ops L i=some (some d,.convert t1 t2 x))(t:Nat.blt d n=true)(r:bY L x=some (.slice a l.length cap))
  (s:NG P t1=some e) (g:P.underlying t2=some .string) (st:St m own w) (o:RepS cU8 m a cap l) (h:N ((d,.string (sS l))::L) w):iO P n ops Q i N L w:=by
 obtain⟨c,f⟩:=WW s
 refine oW y t (λq k=> ?_) h
 cases a with
 |none=>
  obtain⟨rfl,_⟩:=o.none_nil
  have b:(Conv.bytesToString (.slice none 0 cap)).run P w= .ok (.string (sS [])) w:=rfl
  simp[execOp,k,cQ r,run_convert_bytes_string w t1 t2 e none _ _ c f g,b]
 |some p=>
  obtain⟨z,v⟩:=Zp o p rfl
  have u:=run_convert_bytes_back (P:=P) w t1 t2 e p cap l c f g (λj b=>by
   rw[HH (z.resolve_right (λe=>by rw[e] at b;simp at b))]
   exact st.inv.cell (v j _ (by simp[b])))
  simp[execOp,k,cQ r,u,sS]
def bytesOf(s:BA):Option (List UInt8):=if s.size<=maxLen then some s.data.toList else none
theorem Ea{t1 t2 e:TypeId}{x:Operand}{s:BA}{l:List UInt8}(M:eN ops L i=some (some d,.convert t1 t2 x))(K:Nat.blt d n=true)(g:bY L x=some (.string s))
  (p:NG P t2=some e) (y:P.underlying t1=some .string) (st:St m own w) (f:bytesOf s=some l)
  (h:∀b cap m' w',m.le m'->St m' own w'->RepS cU8 m' (some ⟨b,0,none⟩) cap l->N ((d,.slice (some ⟨b,0,none⟩) l.length cap)::L) w'):iO P n ops Q i N L w:=by
 obtain⟨G,H⟩:=WW p
 unfold bytesOf at f
 split at f
 .rename_i hmx
  simp only[jJ] at f;subst f
  generalize hgc:grownCap w s.size 0 e=gc
  have z:s.size<=gc:=hgc▸grownCap_ge _ _ _ _
  have A:gc<=maxLen:=hgc▸grownCap_le_maxLen _ _ _ _ hmx
  generalize hcur:(s.data.map λb=>Value.int .u8 (b.toNat:Int))++Array.replicate (gc-s.size) (.int .u8 0)=cur
  have u:(convert t1 t2 (.string s)).run P w= .ok (.slice (some ⟨w.heap.size,0,none⟩) s.size gc) (w.drew.alloc (.cells cur e (cur.size,cur.size+1))):=by
   have c:(Question.appendCap s.size 0 e).forced=false:=rfl
   have r:(Question.appendCap s.size 0 e).cut (w.tape w.drawn (Question.appendCap s.size 0 e))=gc:=hgc
   have a:(w.drew.alloc (.cells cur e)).heap[w.heap.size]? =some (.cells cur e):=by
    show(w.heap.push (.cells cur e))[w.heap.size]? =_
    simp
   have E:(w.drew.alloc (.cells cur e)).shape? w.heap.size=some (e,cur.size):=by
    unfold World.shape?
    rw[a]
   have t:∀k:Nat,(w.drew.alloc (.cells cur e)).freeze ⟨w.heap.size,k,none⟩ 1=w.drew.alloc (.cells cur e (k,k+1)):=λk=>by
    unfold World.freeze World.alloc World.drew
    simp only[Nat.one_ne_zero,jF]
    congr 1
    apply Array.ext
    .simp
    intro j p y
    simp only[Array.getElem_modify]
    by_cases hj:w.heap.size=j
    .subst hj;simp
    have:j<w.heap.size:=by simp at p;omega
    simp[hj,Array.getElem_push_lt this]
   have B:(markStringish ⟨w.heap.size,0,none⟩).run P (w.drew.alloc (.cells cur e))= .ok () (w.drew.alloc (.cells cur e (cur.size,cur.size+1))):=by
    simp[markStringish,E,t]
   have D:(newRow e cur).run P w.drew= .ok ⟨w.heap.size,0,none⟩ (w.drew.alloc (.cells cur e)):=rfl
   have F:(Conv.stringToBytes e s).run P w= .ok (.slice (some ⟨w.heap.size,0,none⟩) s.size gc) (w.drew.alloc (.cells cur e (cur.size,cur.size+1))):=by
    unfold Conv.stringToBytes
    simp only[Sem.run_bind,run_choose,c,j9,jF,Result.andThen_ok,r,hcur]
    show((newRow e cur).run P w.drew).andThen _=_
    rw[D]
    simp only[Result.andThen_ok,B,Sem.run_pure]
   simp[convert,run_underlying y,run_underlying G,run_underlying H,F]
  have a:=st.alloc (w':=w.drew.alloc (.cells cur e (cur.size,cur.size+1))) (o:= .cells cur e (cur.size,cur.size+1)) ⟨⟨rfl,rfl⟩,rfl,oQ⟩ rfl
  have c:=st.fresh_free
  have B:cur.toList.take (s.data.toList.map λb=>Value.int .u8 (b.toNat:Int)).length=s.data.toList.map λb=>Value.int .u8 (b.toNat:Int):=by
   rw[<-hcur,Array.toList_append,Array.toList_map,List.take_left]
  obtain⟨m',F,R,S,_⟩:=St.know (b:=w.heap.size) (cs:=s.data.toList.map λb=>Value.int .u8 (b.toNat:Int)) a.tail (a.head_ne rfl) a.head.1 B (λo v D=>by rw[c.1 o] at D;cases D)
  have t:RepS cU8 m' (some ⟨w.heap.size,0,none⟩) gc s.data.toList:=RepS.of_cells (by simpa using z) A (λj x g=>by
   have r:=(List.getElem?_eq_some_iff.1 g).1
   have E:=(List.getElem?_eq_some_iff.1 g).2
   show List.take 1 (List.drop (j*1) _)=_
   rw[Nat.mul_one,<-List.map_drop,<-List.map_take,jM r,E]
   rfl) S
  have r:s.data.toList.length=s.size:=by simp
  refine oW M K (λq E=> ?_) (h w.heap.size gc m' _ F R t)
  simp only[execOp,E,cQ g,Sem.run_bind,u,Result.andThen_ok,Sem.run_pure,r]
 cases f
theorem TA{f:FuncId}{args:Array Value}{R:Ending->World->Prop}(I:Value->World->Prop)(a:∀v w',I v w'->R (.returned v) w')(h:Calls P f args w λe w'=>∃v,e= .returned v/\I v w'):Calls P f args w R:=
 h.mono λe w' ⟨v,b,hi⟩=>b▸a v w' hi
theorem rY{k:Nat}{fn:Func}{R:Ending->World->Prop}(rvs:List ResultVar)(vs:List Value)(a:fn.results=rvs.toArray)(b:ResAll P w L rvs vs)(h:R (.returned (sM vs)) w):X ⟨k,[]⟩ (bodyPost P fn R) .normal L w:=pG (P:=P) (fn:=fn) (R:=R) rvs vs a b h
end
end Go.Dc
end
namespace Go.Dc
section
def OA(P:Program)(fn:Func)(R:Ending->World->Prop):Exit->Act->World->Prop
 | .normal,a,w=>LeavesInM Fence.wide 0 P fn a.tmps R a.defers .returning w
 | .ret,a,w=>LeavesInM Fence.wide 0 P fn a.tmps R a.defers .returning w
 |_,_,_=>False
variable {ρ:Option Nat} {P:Program} {n:Fr} {ops:Array Oper} {Q:Exit->Act->World->Prop} {i d:Nat} {L:bF} {w:World} {m:Mem} {own:List Piece} {N:bF->World->Prop}
theorem Zq{f:FuncId}{fn:Func}{c:Code}{args:Array Value}{R:Ending->World->Prop}(l:P.funcs[f]? =some fn)(g:fn.body=some c){k:Nat}(o:fn.ntmps=k)(L:bF)
  (d:L.map (λp=>(args[p.1]?))=L.map λp=>some p.2) (b:Nat.ble args.size k=true) (h:W none P ⟨k,[]⟩ c (OA P fn R) L w):Calls P f args w R:=by
 refine callsIn_wide.1 (callsIn_of_wp_marks (F:=Fence.wide) (n:=0) l g trivial (wpIn_mono (h _ ⟨?_,rfl,?_⟩) ?_) rfl)
 .subst o
  have:args.size<=fn.ntmps:=kY b
  simp only[hH,hJ];omega
 .intro t v r
  have:=(fB.1 d) (t,v) (BE r)
  have q:t<args.size:=(Array.getElem?_eq_some_iff.1 this).1
  simp only[Array.getElem?_append,q,jH]
  exact this
 intro e a w h
 cases e<;>first|exact h|exact h.elim
theorem IE{k D:Nat}{M:List Deferred}{fn:Func}{R:Ending->World->Prop}(st:St m (.blk D (.deferred (some []))::own) w)(h:∀w',St m own w'->X ⟨k,M⟩ (OA P fn R) .ret L w'):X ⟨k,NP D::M⟩ (OA P fn R) .ret L w:=by
 intro a g
 obtain⟨d,e,f⟩:=g
 have b:w.heap[D]? =some (.deferred (some [])):=st.head.1
 have c:=vA b
 have st':St m (.blk D (.deferred none)::own) (w.putObj D (.deferred none)):=
  St.set (o:= .deferred (some [])) (o':= .deferred none) st ⟨⟨rfl,rfl⟩,rfl,oQ⟩ (by simp[World.putObj,c]) (λk _ l=>by simp[World.putObj,Array.getElem?_setIfInBounds,Ne.symm l])
 have st':=st'.tail
 have:=h _ st' {a with defers:=M} ⟨d,rfl,f⟩
 show LeavesInM Fence.wide 0 P fn a.tmps R a.defers .returning w
 rw[e]
 exact⟨by simp,.inl ⟨D,_,rfl,run_takeDeferred b,this⟩⟩
theorem IC{k:Nat}{fn:Func}{R:Ending->World->Prop}(rvs:List ResultVar)(vs:List Value)(e:fn.results=rvs.toArray)(f:ResAll P w L rvs vs)(h:R (.returned (sM vs)) w):X ⟨k,[]⟩ (OA P fn R) .ret L w:=by
 intro a d
 obtain⟨b,c⟩:=pG (P:=P) (fn:=fn) (R:=R) rvs vs e f h a d
 show LeavesInM Fence.wide 0 P fn a.tmps R a.defers .returning w
 rw[b]
 exact c
structure LoopQ where
 fn:Nat
 tmps:Array Value
 ps:Array Tmp
 assign:Code
 body:Code
 D:Nat
def BO:List Code->Nat->Option Code
 |_,0=>none
 |js,k+1=>js[k]?
def wJ(q:LoopQ)(s:LoopState)(pe:Option Code):Loop:={state:=s,pending:=pe,fn:=q.fn,tmps:=q.tmps,params:=q.ps,assign:=q.assign,body:=q.body,defers:=q.D}
def vG(l:Nat)(q:LoopQ)(js:List Code)(j:Nat):Piece:= .blk l (.loop (wJ q (if j=0 then .ready else .done) (BO js j)))
def NX(l:Nat)(q:LoopQ):Piece:= .blk l (.loop (wJ q .busy none))
def NS(D:Nat):Piece:= .blk D (.deferred (some []))
def FitsT(sz:Nat)(T:Array Value)(L:bF):Prop:=T.size=sz/\∀t v,mE L t=some v->T[t]? =some v
theorem St.setLoop{l:Nat}{r:Loop}(r':Loop)(st:St m (.blk l (.loop r)::own) w):St m (.blk l (.loop r')::own) (w.putObj l (.loop r')):=by
 have a:=vA st.head.1
 exact St.set (o:= .loop r) (o':= .loop r') st ⟨⟨rfl,rfl⟩,rfl,oQ⟩ (by simp[World.putObj,a]) (λk _ b=>by simp[World.putObj,Array.getElem?_setIfInBounds,Ne.symm b])
theorem HF {f : FuncId} {fn : Func} (c : P.funcs[f]? = some fn) (h : (fn.name == "runtime.NumGoroutine", fn.body.isNone) = (false, false)) (args : Array Value) (w : World) : (callFunc f args).run P w = .ok (.enter f args) w := by
 simp only[Prod.mk.injEq] at h
 have a : ¬ fn.name = "runtime.NumGoroutine" := by simpa using h.1
 have b:¬fn.body=none:=λe=>by rw[e] at h;simp at h
 simp[callFunc,c,a,b]
def Az(l:Nat)(P:Program)(n:Fr)(Q:Exit->Act->World->Prop)(L:bF)(w:World):Prop:=
 ∃j w',(Instr.endLoop l).run P w= .ok j w'/\match j with
  |none=>X n Q .normal L w'
  |some c=>W none P n c Q L w'
theorem Ws{l:Nat}{q:LoopQ}{js:List Code}(j:Nat)(st:St m (vG l q js j::own) w)(b:BO js j=none)(h:∀w',St m own w'->X n Q .normal L w'):Az l P n Q L w:=by
 have c:=st.head.1
 have a:(wJ q (if j=0 then LoopState.ready else LoopState.done) (BO js j)).state≠LoopState.busy:=by simp only[wJ];split<;>simp
 exact⟨BO js j,_,run_endLoop (P:=P) c a,by rw[b];exact h _ (St.setLoop _ st).tail⟩
theorem Wc{l:Nat}{q:LoopQ}{js:List Code}(j:Nat){c:Code}(st:St m (vG l q js j::own) w)(b:BO js j=some c)(h:∀w',St m own w'->W none P n c Q L w'):Az l P n Q L w:=by
 have d:=st.head.1
 have a:(wJ q (if j=0 then LoopState.ready else LoopState.done) (BO js j)).state≠LoopState.busy:=by simp only[wJ];split<;>simp
 exact⟨BO js j,_,run_endLoop (P:=P) d a,by rw[b];exact h _ (St.setLoop _ st).tail⟩
theorem Uo{g:Operand}{ps:Array Tmp}{assign body:Code}{f:Nat}{cap:Array Value}(js:List Code)(u:bY L g=some (.func (.func f) #[] cap))(eg:∀args w,(callFunc f args).run P w= .ok (.enter f args) w)(st:St m own w)
  (h:∀(q:LoopQ) (l:Nat) (w':World),q.ps=ps->q.assign=assign->q.body=body->FitsT n.sz q.tmps L->St m (vG l q js 0::NS q.D::own) w'->
   Calls P f (#[.func (.yield l) #[] #[]]++cap) w' λe w''=>∃v,e= .returned v/\Az l P ⟨n.sz,NP q.D::n.marks⟩ Q L w''):
  W none P n (.rangeFunc g ps assign body) Q L w:=by
 intro a b
 have r:=b.ev u
 refine wpIn_rangeFunc λfn _=> ?_
 obtain⟨q,hq⟩:∃q:LoopQ,q={fn,tmps:=a.tmps,ps,assign,body,D:=w.heap.size}:=⟨_,rfl⟩
 have s1:=st.alloc (w':=w.alloc (.deferred (some []))) (o:= .deferred (some [])) ⟨⟨rfl,rfl⟩,rfl,oQ⟩ rfl
 have s2:=s1.alloc (w':=(w.alloc (.deferred (some []))).alloc (.loop (wJ q .ready none))) (o:= .loop (wJ q .ready none)) ⟨⟨rfl,rfl⟩,rfl,oQ⟩ rfl
 have s:(w.alloc (.deferred (some []))).heap.size=w.heap.size+1:=World.size_alloc _ _
 rw[s] at s2
 have k:q.D=w.heap.size:=by rw[hq]
 have p:=h q (w.heap.size+1) _ (by rw[hq]) (by rw[hq]) (by rw[hq]) (by rw[hq];exact⟨b.1,b.2.2⟩) (by rw[NS,k];exact s2)
 obtain⟨W1,hW1⟩:∃W1,(w.alloc (.deferred (some []))).alloc (.loop (wJ q .ready none))=W1:=⟨_,rfl⟩
 rw[hW1] at p
 refine⟨w.heap.size+1,[NP w.heap.size],W1,{target:= .fn (.func f) cap,args:= #[.func (.yield (w.heap.size+1)) #[] #[]]},W1,f,#[.func (.yield (w.heap.size+1)) #[] #[]]++cap,W1,?_,?_,λ_ _=>trivial,?_,λe=>by simp[lX,Fence.wide] at e,?_⟩
 .rw[<-hW1,hq];exact run_enterLoop_outer _ _ _ _ _
 .simp only[resolve,r]
  simp[go_sem]
 .simp[invoke,go_sem,eg]
 have hc':CallsIn (lX none) 0 P f (#[.func (.yield (w.heap.size+1)) #[] #[]]++cap) W1 _:=callsIn_wide.2 p
 refine CallsIn.mono hc' ?_
 rintro e w'' ⟨v,rfl,j,x,t,d⟩
 refine⟨j,x,t,?_⟩
 have fits:Fits ⟨n.sz,NP q.D::n.marks⟩ {a with defers:=[NP w.heap.size]++a.defers} L:=⟨b.1,by simp[b.2.1,k],b.2.2⟩
 cases j with
 |none=>exact d _ fits
 |some c=>exact d _ fits
def Aw(P:Program)(l:Nat)(body:Code)(R:Ending->World->Prop):Exit->Act->World->Prop:=
 Exit.then (λa₁ w₁=>∃w₂,(Instr.beginRound l).run P w₁= .ok () w₂/\body.wpIn (lX (some l)) 0 P (roundPost P l R) a₁ w₂) (λ_ _ _=>False)
theorem Lc{l:Nat}{q:LoopQ}{js:List Code}{body:Code}{R:Ending->World->Prop}(st:St m (vG l q js 0::own) w)(h:∀w',St m (NX l q::own) w'->W (some l) P n body (roundPost P l R) L w'):X n (Aw P l body R) .normal L w:=by
 intro a b
 exact⟨_,run_beginRound (P:=P) st.head.1 rfl,h _ (St.setLoop _ st) a b⟩
theorem Sm{l:Nat}{q:LoopQ}(js:List Code)(st:St m (NX l q::own) w):∃w',(Instr.endRound l none).run P w= .ok (.bool true) w'/\St m (vG l q js 0::own) w':=
 ⟨_,run_endRound (P:=P) none st.head.1,St.setLoop (wJ q .ready none) st⟩
theorem Sg{l:Nat}{q:LoopQ}{js:List Code}(k:Nat){c:Code}(a:js[k]? =some c)(st:St m (NX l q::own) w):∃w',(Instr.endRound l (some c)).run P w= .ok (.bool false) w'/\St m (vG l q js (k+1)::own) w':=
 ⟨_,run_endRound (P:=P) (some c) st.head.1,by have:=St.setLoop (wJ q .done (some c)) st;simp only[vG,BO,a];exact this⟩
theorem Je{l:Nat}{q:LoopQ}(js:List Code){R:Ending->World->Prop}(st:St m (NX l q::own) w)(h:∀w',St m (vG l q js 0::own) w'->R (.returned (.bool true)) w'):X n (roundPost P l R) .normal L w:=by
 obtain⟨w',a,b⟩:=Sm (P:=P) js st
 exact λ_ _=>⟨_,w',a,h w' b⟩
theorem Jj{l id:Nat}{q:LoopQ}(js:List Code)(k:Nat){R:Ending->World->Prop}(c:js[k]? =some (.exit id))(st:St m (NX l q::own) w)(h:∀w',St m (vG l q js (k+1)::own) w'->R (.returned (.bool false)) w'):X n (roundPost P l R) (.exit id) L w:=by
 obtain⟨w',a,b⟩:=Sg (P:=P) k c st
 exact λ_ _=>⟨_,w',a,h w' b⟩
def IL:List Nat->List Value->bF->bF
 |p::ps,v::vs,L=>IL ps vs ((p,v)::L)
 |_,_,L=>L
theorem FitsT.set{sz:Nat}{T:Array Value}{L:bF}(h:FitsT sz T L){p:Nat}(d:p<sz)(v:Value):FitsT sz (T.setIfInBounds p v) ((p,v)::L):=by
 obtain⟨b,c⟩:=h
 refine⟨by simp[b],λt u a=> ?_⟩
 simp only[mE] at a
 by_cases hpt:p=t
 .subst hpt
  simp at a;subst a
  simp[Array.getElem?_setIfInBounds,b,d]
 have:Nat.beq p t=false:=by cases hb:Nat.beq p t<;>simp_all [Nat.beq_eq]
 rw[this] at a
 simp[Array.getElem?_setIfInBounds,hpt,c t u a]
theorem FitsT.zip{sz:Nat}:∀(ps:List Nat) (vs:List Value) {T:Array Value} {L:bF},FitsT sz T L->(ps.all λp=>Nat.blt p sz)=true->
  FitsT sz ((ps.zip vs).foldl (λt (p,v)=>t.setIfInBounds p v) T) (IL ps vs L)
 |[],_,_,_,h,_=>by simpa[IL] using h
 |_::_,[],_,_,h,_=>by simpa[IL] using h
 |p::ps,v::vs,T,L,h,a=>by
  simp only[List.all_cons,jS] at a
  simp only[List.zip_cons_cons,kD,IL]
  exact FitsT.zip ps vs (h.set (by simpa[Nat.blt_eq] using a.1) v) a.2
theorem Gl{l sz:Nat}{x:Operand}{xs:Array Operand}{ts:Array TypeId}{q:LoopQ}{js:List Code}{L0:bF}{ps:Array Nat}{assign body:Code}(vs:List Value)(K:eN ops L i=some (some d,.call {callee:= .value x,args:=xs,argTypes:=ts}))(H:Nat.blt d n=true)
  (S:bY L x=some (.func (.yield l) #[] #[])) (r:xs.map (oR L)=vs.toArray) (G:FitsT sz q.tmps L0) (M:q.ps=ps) (D:q.assign=assign) (E:q.body=body) (f:vs.length=ps.size) (s:(ps.toList.all λp=>Nat.blt p sz)=true) (st:St m (vG l q js 0::own) w)
  (h:∀R:Ending->World->Prop,(∀b w',N ((d,.bool b)::L) w'->R (.returned (.bool b)) w')->W (some l) P ⟨sz,[]⟩ assign (Aw P l body R) (IL ps.toList vs L0) w):iO P n ops Q i N L w:=by
 subst M D E
 obtain⟨o,u,y,z,A,B⟩:=HI K
 intro a g
 unfold qD
 simp only[u,g.wanted A,jH]
 have U:=run_yield (P:=P) (args:=vs.toArray) st.head.1 (by simp only[wJ];simp[f])
 have k:(execOp (oR L) o).run P w=(Instr.yield l vs.toArray).run P w:=by
  simp[execOp,z,resolve,cQ S,r,invoke,go_sem]
 rw[g.exec B,k,U,Oper.uponIn_round]
 refine⟨λe=>by simp[Fence.wide] at e,roundIn_of_wpIn trivial ?_⟩
 have f:=FitsT.zip q.ps.toList vs G s
 have c:(q.ps.zip vs.toArray).foldl (λtmps (t,a)=>tmps.setIfInBounds t a) q.tmps=(q.ps.toList.zip vs).foldl (λt (p,v)=>t.setIfInBounds p v) q.tmps:=by
  rw[<-Array.foldl_toList,Array.toList_zip]
 refine h _ ?_ {tmps:=_,defers:=[]} ⟨?_,rfl,?_⟩
 .intro b w' F
  rw[y]
  exact⟨_,g.put H _,F⟩
 .show((q.ps.zip vs.toArray).foldl (λtmps (t,a)=>tmps.setIfInBounds t a) q.tmps).size=_
  rw[c];exact f.1
 intro t v r
 show((q.ps.zip vs.toArray).foldl (λtmps (t,a)=>tmps.setIfInBounds t a) q.tmps)[t]? =_
 rw[c];exact f.2 t v r
end
end Go.Dc
section
namespace Go.Dc
def eL{κ ν:Type}[DecidableEq κ]:List (κ×ν)->κ->Option ν
 |[],_=>none
 |p::l,k=>if k=p.1 then some p.2 else eL l k
def qA{κ ν:Type}[DecidableEq κ]:List (κ×ν)->κ->ν->List (κ×ν)
 |[],k,v=>[(k,v)]
 |p::l,k,v=>if k=p.1 then(k,v)::l else p::qA l k v
class KOrd(κ:Type) where
 lt:κ->κ->Bool
instance:KOrd Int:=⟨λa b=>decide (a<b)⟩
instance:KOrd BA:=⟨λa b=>decide (a.data.toList<b.data.toList)⟩
instance{α β:Type}[DecidableEq α][KOrd α][KOrd β]:KOrd (α×β):=⟨λa b=>KOrd.lt a.1 b.1||(decide (a.1=b.1)&&KOrd.lt a.2 b.2)⟩
def mins{κ ν:Type}[KOrd κ]:List (κ×ν)->κ->ν->List (κ×ν)
 |[],k,v=>[(k,v)]
 |p::l,k,v=>if KOrd.lt k p.1 then(k,v)::p::l else p::mins l k v
def mset{κ ν:Type}[DecidableEq κ][KOrd κ](l:List (κ×ν))(k:κ)(v:ν):List (κ×ν):=
 if(eL l k).isSome then l.map λp=>if k=p.1 then(k,v) else p else mins l k v
theorem MS{κ ν:Type}[DecidableEq κ]{l:List (κ×ν)}{k:κ}:eL l k=none↔k∉l.map (·.1):=by
 induction l with
 |nil=>simp[eL]
 |cons p l a=>
  simp only[eL,kQ,jK,not_or]
  split
  .rename_i h;simp[h]
  rename_i h;rw[a];exact⟨λg=>⟨h,g⟩,λg=>g.2⟩
theorem YZ{κ ν:Type}[DecidableEq κ]{l:List (κ×ν)}{k:κ}{v:ν}(a:(l.map (·.1)).Nodup):eL l k=some v↔(k,v)∈l:=by
 induction l with
 |nil=>simp[eL]
 |cons p l b=>
  simp only[kQ,gV] at a
  simp only[eL,jK]
  split
  .rename_i h
   subst h
   constructor
   .intro e;left;simp at e;rw[<-e]
   rintro(e|e)
   .rw[<-e]
   exact absurd (gL (f:=(·.1)) e) a.1
  rename_i h
  rw[b a.2]
  constructor
  .intro e;exact .inr e
  rintro(e|e)
  .exact absurd (kF Prod.fst e) h
  exact e
theorem XX{κ ν:Type}[DecidableEq κ]{l l':List (κ×ν)}(a:l'.Perm l)(b:(l'.map (·.1)).Nodup)(k:κ):eL l' k=eL l k:=by
 have hn':(l.map (·.1)).Nodup:=(a.map _).nodup_iff.1 b
 cases h:eL l k with
 |none=>rw[MS] at h ⊢;exact λg=>h ((a.map _).mem_iff.1 g)
 |some v=>rw[YZ hn'] at h;rw[YZ b];exact a.mem_iff.2 h
theorem Gm{κ ν:Type}[DecidableEq κ]{l:List (κ×ν)}{k:κ}{v:ν}(h:eL l k=none):qA l k v=l++[(k,v)]:=by
 induction l with
 |nil=>rfl
 |cons p l a=>
  simp only[eL] at h
  split at h
  .cases h
  rename_i hk;simp[qA,hk,a h]
theorem Hd{κ ν:Type}[DecidableEq κ]{l:List (κ×ν)}{k:κ}{v:ν}(a:(l.map (·.1)).Nodup)(h:eL l k≠none):qA l k v=l.map λp=>if k=p.1 then(k,v) else p:=by
 induction l with
 |nil=>exact absurd rfl h
 |cons p l c=>
  simp only[kQ,gV] at a
  simp only[qA,kQ]
  by_cases hk:k=p.1
  .simp only[hk,jH]
   congr 1
   rw[<-hk]
   refine(List.map_congr_left λq b=> ?_).trans (List.map_id _)|>.symm
   have:k≠q.1:=λe=>a.1 (by rw[<-hk,e];exact gL (f:=(·.1)) b)
   simp[this]
  simp only[hk,jF]
  rw[c a.2 (by simpa[eL,hk] using h)]
theorem Ho{κ ν:Type}[KOrd κ](l:List (κ×ν))(k:κ)(v:ν):(mins l k v).Perm ((k,v)::l):=by
 induction l with
 |nil=>exact .refl _
 |cons p l a=>
  simp only[mins]
  split
  .exact .refl _
  exact(List.Perm.cons p a).trans (.swap _ _ _)
theorem DD{κ ν:Type}[DecidableEq κ][KOrd κ]{l l':List (κ×ν)}(a:l'.Perm l)(c:(l'.map (·.1)).Nodup)(k:κ)(v:ν):(qA l' k v).Perm (mset l k v):=by
 have b:=XX a c k
 unfold mset
 cases h:eL l k with
 |none=>
  rw[Gm (by rw[b,h])]
  simp only[Option.isSome_none,j9,jF]
  exact(List.perm_append_comm.trans (List.Perm.cons _ a)).trans (Ho l k v).symm
 |some u=>
  rw[Hd c (by rw[b,h];simp)]
  simp only[Option.isSome_some,jH]
  exact a.map _
theorem HB{κ ν:Type}[DecidableEq κ]{l:List (κ×ν)}(c:(l.map (·.1)).Nodup)(k:κ)(v:ν):((qA l k v).map (·.1)).Nodup:=by
 cases h:eL l k with
 |none=>
  rw[Gm h,List.map_append,List.nodup_append]
  refine⟨c,by simp,?_⟩
  intro a f b d e
  simp at d;subst d e
  exact MS.1 h f
 |some u=>
  rw[Hd c (by rw[h];simp)]
  have:(l.map λp=>if k=p.1 then(k,v) else p).map (·.1)=l.map (·.1):=by
   rw[List.map_map]
   refine List.map_congr_left λq _=> ?_
   simp only[Function.comp]
   split
   .rename_i e;exact e
   rfl
  rw[this];exact c
def tC(agg:Bool)(cs:List Value):Value:=bif agg then .agg cs.toArray else cs.headD undef
def MapL{κ ν:Type}(ek:κ->Value)(c:Codec ν)(agg:Bool)(m:Mem):List MapEntry->List (κ×ν)->Prop
 |[],l=>l=[]
 |e::es,l=>∃k v l',l=(k,v)::l'/\e.key=ek k/\(∃cs,c.rep m v cs/\e.val=tC agg cs)/\MapL ek c agg m es l'
def Mv(es:List MapEntry)(ck:Nat):Prop:=(∀e∈es,e.born<ck)/\(es.map (·.born)).Nodup
def MapQ{κ ν:Type}(ek:κ->Value)(c:Codec ν)(agg:Bool)(m:Mem)(q:Option Nat)(es:Array MapEntry)(ck:Nat)(o:Option (List (κ×ν))):Prop:=
 match q with
 |none=>o=none
 |some _=>∃l l',o=some l/\l'.Perm l/\(l'.map (·.1)).Nodup/\MapL ek c agg m es.toList l'/\Mv es.toList ck
theorem MapL.mono{κ ν:Type}{ek:κ->Value}{c:Codec ν}{agg:Bool}{m m':Mem}(a:m.le m'):∀{es:List MapEntry} {l:List (κ×ν)},MapL ek c agg m es l->MapL ek c agg m' es l
 |[],_,h=>h
 |_::_,_,⟨k,v,l',b,d,⟨cs,e,f⟩,g⟩=>⟨k,v,l',b,d,⟨cs,c.mono _ _ _ _ a e,f⟩,g.mono a⟩
theorem MapQ.mono{κ ν:Type}{ek:κ->Value}{c:Codec ν}{agg:Bool}{m m':Mem}{q:Option Nat}{es:Array MapEntry}{ck:Nat}{o:Option (List (κ×ν))}(h:MapQ ek c agg m q es ck o)(a:m.le m'):MapQ ek c agg m' q es ck o:=by
 cases q with
 |none=>exact h
 |some b=>obtain⟨l,l',d,e,f,g,k⟩:=h;exact⟨l,l',d,e,f,g.mono a,k⟩
def yC{κ:Type}[DecidableEq κ](k:κ):List κ->List MapEntry->Nat->Option (Nat×Value)
 |k'::ks,e::es,i=>if k=k' then some (i,e.val) else yC k ks es (i+1)
 |_,_,_=>none
structure KeyOK{κ:Type}[DecidableEq κ](P:Program)(kt:TypeId)(ek:κ->Value):Prop where
 find:∀(k:κ) (ks:List κ) (es:List MapEntry) (w:World),es.map (·.key)=ks.map ek->(Instr.findKey kt (ek k) es).run P w= .ok (yC k ks es 0) w
 chk:∀(e:Bool) (a:κ) (w:World),(Instr.checkKey e 10000 kt (ek a)).run P w= .ok () w
 stay:∀(a:κ) (w:World),(Instr.keyThatStays (ek a) (ek a)).run P w= .ok (ek a) w
 inj:∀a b,ek a=ek b->a=b
theorem qDl(a b:Int):(a==b)=decide (a=b):=by rw[kA];simp
theorem XP(a b:BA):(a==b)=decide (a=b):=by
 rw[kA]
 have:=Go.MapKept.bytes_beq a b
 simpa using this
theorem Fy{κ:Type}[DecidableEq κ]{dd:TypeDesc}{ek:κ->Value}(c:∀a b,Instr.sameNow dd (ek a) (ek b)=some (decide (a=b)))(k:κ):∀(ks:List κ) (es:List MapEntry) (j:Nat),es.map (·.key)=ks.map ek->Instr.findNow dd (ek k) es j=some (yC k ks es j)
 |[],[],j,_=>rfl
 |[],e::es,j,h=>by simp at h
 |k'::ks,[],j,h=>by simp at h
 |k'::ks,e::es,j,h=>by
  simp only[kQ,kV] at h
  simp only[Instr.findNow,h.1,c,yC]
  by_cases hkk:k=k'
  .subst hkk;simp
  simp only[hkk,decide_false,jF]
  exact Fy c k ks es (j+1) h.2
theorem qEl{P:Program}{kt:TypeId}{q q':IntKind}(h:P.underlying kt=some (.int q))(e:Bool)(z:Int)(w:World):∀n,(Instr.checkKey e (n+1) kt (.int q' z)).run P w= .ok () w:=λn=>by simp[Instr.checkKey,run_underlying h]
theorem qEw{P:Program}{kt:TypeId}(h:P.underlying kt=some .string)(e:Bool)(z:BA)(w:World):∀n,(Instr.checkKey e (n+1) kt (.string z)).run P w= .ok () w:=λn=>by simp[Instr.checkKey,run_underlying h]
theorem Ls{κ:Type}[DecidableEq κ]{P:Program}{kt:TypeId}{ek:κ->Value}{d:TypeDesc}(o:P.underlying kt=some d)(c:∀a b,Instr.sameNow d (ek a) (ek b)=some (decide (a=b)))
  (l:∀(e:Bool) (a:κ) (w:World),(Instr.checkKey e 10000 kt (ek a)).run P w= .ok () w) (g:∀n a,Instr.sameBits n (ek a) (ek a)=true):KeyOK P kt ek where
 find k ks es w h:=by simp[Instr.findKey,run_underlying o,Fy c k ks es 0 h]
 chk:=l
 stay a w:=by simp[Instr.keyThatStays,g]
 inj a b h:=by
  have f:=c a b
  rw[h,c b b] at f
  simpa using f.symm
theorem mD{P:Program}{kt:TypeId}{q:IntKind}(h:P.underlying kt=some (.int q)):KeyOK P kt (λn:Int=>Value.int q n):=
 Ls h (λa b=>by simp[Instr.sameNow];exact qDl a b) (λe v w=>qEl h e v w 9999) (λn a=>by cases n<;>simp[Instr.sameBits])
theorem yA{P:Program}{kt:TypeId}(h:P.underlying kt=some .string):KeyOK P kt (λs:BA=>Value.string s):=
 Ls h (λa b=>by simp[Instr.sameNow];exact XP a b) (λe v w=>qEw h e v w 9999) (λn a=>by cases n<;>simp[Instr.sameBits,XP])
section
variable {m:Mem} {κ ν:Type} {ek:κ->Value} {c:Codec ν} {agg:Bool}
theorem MapL.snoc:∀{es:List MapEntry} {l:List (κ×ν)} {e:MapEntry} {k:κ} {y:ν} {cs:List Value},MapL ek c agg m es l->e.key=ek k->c.rep m y cs->e.val=tC agg cs->MapL ek c agg m (es++[e]) (l++[(k,y)])
 |[],l,e,k,y,cs,h,a,b,d=>by
  simp only[MapL] at h;subst h
  exact⟨k,y,[],rfl,a,⟨cs,b,d⟩,rfl⟩
 |e'::es,l,e,k,y,cs,⟨k',v',l',f,g,n,o⟩,a,b,d=>by
  subst f
  exact⟨k',v',l'++[(k,y)],rfl,g,n,o.snoc a b d⟩
theorem MT:∀{es:List MapEntry} {l:List (κ×ν)},MapL ek c agg m es l->es.map (·.key)=(l.map (·.1)).map ek
 |[],l,h=>by simp only[MapL] at h;subst h;rfl
 |e::es,l,⟨k',v',l',a,b,_,d⟩=>by subst a;simp only[kQ,b,MT d]
theorem MapQ.new(ek:κ->Value)(c:Codec ν)(agg:Bool)(m:Mem)(b:Nat):MapQ ek c agg m (some b) #[] 0 (some []):=⟨[],[],rfl,.refl _,by simp,rfl,by simp[Mv]⟩
theorem MapQ.nil(ek:κ->Value)(c:Codec ν)(agg:Bool)(m:Mem)(es:Array MapEntry)(ck:Nat):MapQ ek c agg m none es ck (none:Option (List (κ×ν))):=rfl
end
section
variable {P:Program} {n:Fr} {ops:Array Oper} {Q:Exit->Act->World->Prop} {i d:Nat} {L:bF} {w:World} {m:Mem} {own:List Piece} {N:bF->World->Prop}
variable {κ ν:Type} [DecidableEq κ] {ek:κ->Value} {c:Codec ν} {agg:Bool}
theorem TH(k:κ):∀(es:List MapEntry) (l:List (κ×ν)) (j:Nat),MapL ek c agg m es l->
  ∃r,yC k (l.map (·.1)) es j=r/\match r with
   |none=>eL l k=none/\qA l k=λv=>l++[(k,v)]
   |some (q,v)=>∃x cs,eL l k=some x/\c.rep m x cs/\v=tC agg cs/\j<=q/\q<j+es.length/\(∃e,es[q-j]? =some e/\e.key=ek k)/\
     ∀(y:ν) (cs':List Value) (f:MapEntry->MapEntry),c.rep m y cs'->(∀e,(f e).key=ek k/\(f e).val=tC agg cs')->MapL ek c agg m (es.modify (q-j) f) (qA l k y)
 |[],l,j,h=>by
  simp only[MapL] at h;subst h
  exact⟨none,rfl,rfl,by funext v;rfl⟩
 |e::es,l,j,h=>by
  obtain⟨k',v',l',rfl,p,⟨cs,s,t⟩,u⟩:=h
  simp only[kQ,yC]
  by_cases hkk:k=k'
  .subst hkk
   simp only[jH]
   refine⟨_,rfl,v',cs,by simp[eL],s,t,jN _,by simp,⟨e,by simp,p⟩,?_⟩
   intro y cs' f n b
   simp only[Nat.sub_self,List.modify_zero_cons,qA,jH]
   exact⟨k,y,l',rfl,(b e).1,⟨cs',n,(b e).2⟩,u⟩
  simp only[hkk,jF]
  obtain⟨r,G,a⟩:=TH k es l' (j+1) u
  refine⟨r,G,?_⟩
  cases r with
  |none=>
   obtain⟨d,g⟩:=a
   exact⟨by simp[eL,hkk,d],by funext v;simp[qA,hkk,g]⟩
  |some qv=>
   obtain⟨q,v⟩:=qv
   obtain⟨x,o,d,g,B,H,K,⟨A,D,E⟩,F⟩:=a
   have z:q-j=(q-(j+1))+1:=by omega
   refine⟨x,o,by simp[eL,hkk,d],g,B,by omega,by simp;omega,⟨A,by rw[z];simpa using D,E⟩,?_⟩
   intro y cs' f n b
   rw[z]
   simp only[List.modify_succ_cons,qA,jA hkk]
   exact⟨k',v',_,rfl,p,⟨cs,s,t⟩,F y cs' f n b⟩
def HV(P:Program)(t:TypeId):Option (TypeId×TypeId×Value):=
 match P.underlying t with
 |some (.map k e)=>match P.info? e with
  |some i=>i.zero.map λz=>(k,e,z)
  |none=>none
 |_=>none
theorem WY{t kt et:TypeId}{z:Value}(h:HV P t=some (kt,et,z)):P.underlying t=some (.map kt et)/\∀w:World,(zeroValue et).run P w= .ok z w:=by
 unfold HV at h
 split at h
 .rename_i k e he
  split at h
  .rename_i inf hi
   obtain⟨z',b,a⟩:=jL.1 h
   simp only[Prod.mk.injEq] at a
   obtain⟨rfl,rfl,rfl⟩:=a
   exact⟨he,λw=>by simp[zeroValue,typeInfo,hi,b]⟩
  cases h
 cases h
def aA(q:Option Nat)(es:Array MapEntry)(ck:Nat):Piece:=
 match q with
 |none=> .room none 0 0 0 0
 |some b=> .blk b (.map es ck)
def cR(o:Option (List (κ×ν)))(k:κ):Option ν:=o.bind λl=>eL l k
def iI[KOrd κ](o:Option (List (κ×ν)))(k:κ)(v:ν):Option (Option (List (κ×ν))):=o.map λl=>some (mset l k v)
theorem rU{t:TypeId}(c:eN ops L i=some (some d,.makeMap t none))(a:Nat.blt d n=true)(st:St m own w)
  (h:∀b w',St m (aA (some b) #[] 0::own) w'->N ((d,.map (some b))::L) w'):iO P n ops Q i N L w:=by
 refine oW (w':=w.alloc (.map #[] 0)) c a (λq e=> ?_) (h w.heap.size _ (st.alloc ⟨⟨rfl,rfl⟩,rfl,oQ⟩ rfl))
 simp[execOp,e,Instr.makeMap]
theorem Wl{t kt et:TypeId}{z:Value}(D:HV P t=some (kt,et,z))(p:KeyOK P kt ek){q:Option Nat}{es:Array MapEntry}{ck:Nat}{o:Option (List (κ×ν))}(F:Piece.holds m w (aA q es ck))(g:MapQ ek c agg m q es ck o)
  {zx:ν} {zcs:List Value} (G:c.rep m zx zcs) (B:z=tC agg zcs) (k:κ) (ok:Bool):
  ∃cs,c.rep m ((cR o k).getD zx) cs/\(Instr.lookup t (.map q) (ek k) ok).run P w= .ok (bif ok then .tuple #[tC agg cs,.bool (cR o k).isSome] else tC agg cs) w:=by
 obtain⟨u,y⟩:=WY D
 have main:∀(es:List MapEntry) (l:List (κ×ν)),MapL ek c agg m es l->∃cs r,c.rep m ((eL l k).getD zx) cs/\(Instr.findKey kt (ek k) es).run P w= .ok r w/\
   (match r with|some (_,v)=>v=tC agg cs/\(eL l k).isSome=true|none=>tC agg cs=z/\(eL l k).isSome=false):=by
  intro es l h
  obtain⟨r,g,d⟩:=TH (c:=c) (agg:=agg) k es l 0 h
  cases r with
  |none=>exact⟨zcs,none,by simp[d.1,G],by rw[p.find k _ es w (MT h),g],B.symm,by simp[d.1]⟩
  |some qv=>
   obtain⟨q,v⟩:=qv
   obtain⟨x,cs,e,f,a,_⟩:=d
   exact⟨cs,some (q,v),by simp[e,f],by rw[p.find k _ es w (MT h),g],a,by simp[e]⟩
 cases q with
 |none=>
  simp only[MapQ] at g
  subst g
  obtain⟨cs,r,e,f,a⟩:=main [] [] rfl
  refine⟨cs,by simpa[cR,eL] using e,?_⟩
  have n:=p.chk true k w
  cases r with
  |none=>cases ok<;>simp[Instr.lookup,run_underlying u,n,f,y,a.1,cR]
  |some r=>simp[eL] at a
 |some b=>
  obtain⟨H,l,rfl,s,A,h,_⟩:=g
  obtain⟨cs,r,e,f,a⟩:=main es.toList l h
  rw[XX s A] at e a
  refine⟨cs,by simpa[cR] using e,?_⟩
  have E:w.heap[b]? =some (.map es ck):=F.1
  have d:(getObj b).run P w= .ok (.map es ck) w:=by simp[getObj,Sem.run,E]
  have n:=p.chk es.isEmpty k w
  cases r with
  |none=>cases ok<;>simp[Instr.lookup,run_underlying u,d,n,f,y,a.1,a.2,cR]
  |some r=>
   obtain⟨_,v⟩:=r
   cases ok<;>simp[Instr.lookup,run_underlying u,d,n,f,a.1,a.2,cR]
theorem tW{t kt et:TypeId}{z:Value}{x y:Operand}{q:Option Nat}{es:Array MapEntry}{ck:Nat}{o:Option (List (κ×ν))}{k:κ}{ok:Bool}(p:eN ops L i=some (some d,.lookup t x y ok))(g:Nat.blt d n=true)
  (v:bY L x=some (.map q)) (A:bY L y=some (ek k)) (f:HV P t=some (kt,et,z)) (l:KeyOK P kt ek) (r:Piece.holds m w (aA q es ck)) (u:MapQ ek c agg m q es ck o)
  {zx:ν} {zcs:List Value} (B:c.rep m zx zcs) (a:z=tC agg zcs)
  (h:∀cs,c.rep m ((cR o k).getD zx) cs->N ((d,bif ok then .tuple #[tC agg cs,.bool (cR o k).isSome] else tC agg cs)::L) w):iO P n ops Q i N L w:=by
 obtain⟨cs,b,e⟩:=Wl f l r u B a k ok
 refine oW p g (λq s=> ?_) (h cs b)
 simp[execOp,s,cQ v,cQ A,e]
theorem Fj{b:Nat}{o o':Obj}(a:w.heap[b]? =some o)(c:∀cs e f,o≠ .cells cs e f):(setObj b o').run P w= .ok () {w with heap:=w.heap.setIfInBounds b o'}:=by
 cases o<;>first|(exact absurd rfl (c _ _ _))|simp[setObj,Sem.run,a]
theorem MH[KOrd κ]{t kt et:TypeId}{z v:Value}{x y u:Operand}{q:Option Nat}{es:Array MapEntry}{ck:Nat}{o o':Option (List (κ×ν))}{k:κ}{yv:ν}{cs:List Value}(ho:eN ops L i=some (none,.mapUpdate t x y u))
  (hx:bY L x=some (.map q)) (hy:bY L y=some (ek k)) (hu:bY L u=some v) (hI:HV P t=some (kt,et,z)) (F:KeyOK P kt ek) (st:St m (aA q es ck::own) w) (H:MapQ ek c agg m q es ck o)
  (S:c.rep m yv cs) (hv:v=tC agg cs) (Z:iI o k yv=some o')
  (h:∀es' ck' w',St m (aA q es' ck'::own) w'->MapQ ek c agg m q es' ck' o'->N L w'):iO P n ops Q i N L w:=by
 obtain⟨V,h2⟩:=WY hI
 cases q with
 |none=>simp only[MapQ] at H;subst H;simp[iI] at Z
 |some b=>
  obtain⟨l0,l,rfl,s,g,Y,D,R⟩:=H
  simp only[iI,kL,jJ] at Z
  subst Z
  have B:w.heap[b]? =some (.map es ck):=st.head.1
  have a1:=vA B
  have E:(getObj b).run P w= .ok (.map es ck) w:=by simp[getObj,Sem.run,B]
  have K:∀o',(setObj b o').run P w= .ok () {w with heap:=w.heap.setIfInBounds b o'}:=λo'=>Fj B ae
  have G:∀o',St m (.blk b o'::own) {w with heap:=w.heap.setIfInBounds b o'}:=λo'=>
   St.set (o:= .map es ck) st ⟨⟨rfl,rfl⟩,rfl,oQ⟩ (by simp[a1]) (λk _ F=>by simp[Array.getElem?_setIfInBounds,Ne.symm F])
  have hc:=F.chk false k w
  obtain⟨r,H,A⟩:=TH (c:=c) (agg:=agg) k es.toList l 0 Y
  have f:(Instr.findKey kt (ek k) es.toList).run P w= .ok r w:=by rw[F.find k _ es.toList w (MT Y),H]
  cases r with
  |none=>
   obtain⟨g1,g2⟩:=A
   refine DI ho (λq hq=> ?_) (h (es.push {key:=ek k,val:=v,born:=ck}) (ck+1) _ (G _) ⟨_,qA l k yv,rfl,DD s g k yv,HB g k yv,?_,?_,?_⟩)
   .simp[execOp,hq,cQ hx,cQ hy,cQ hu,Instr.mapUpdate,run_underlying V,E,hc,f,K]
   .rw[g2,fK]
    exact Y.snoc rfl S hv
   .intro e d
    rw[fK,fD] at d
    rcases d with d|d
    .have:=D e d;omega
    simp at d;subst d;simp
   rw[fK,List.map_append,List.nodup_append]
   refine⟨R,by simp,?_⟩
   intro a ha b B e
   simp at B;subst B e
   obtain⟨U,M,a2⟩:=gW.1 ha
   have:=D U M
   omega
  |some qv=>
   obtain⟨q,v0⟩:=qv
   obtain⟨x0,a2,g1,g2,g3,g4,g5,⟨U,g6,g7⟩,g8⟩:=A
   have d:es[q]? =some U:=by simpa using g6
   have M:(Instr.keyThatStays (ek k) (ek k)).run P w= .ok (ek k) w:=F.stay k w
   refine DI ho (λp hp=> ?_) (h (es.modify q λe=>{e with key:=ek k,val:=v}) ck _ (G _) ⟨_,qA l k yv,rfl,DD s g k yv,HB g k yv,?_,?_,?_⟩)
   .simp[execOp,hp,cQ hx,cQ hy,cQ hu,Instr.mapUpdate,run_underlying V,E,hc,f,d,g7,M,K]
   .rw[fE]
    have:=g8 yv cs (λe=>{e with key:=ek k,val:=v}) S (λe=>⟨rfl,hv⟩)
    simpa using this
   .intro e d
    rw[fE] at d
    obtain⟨j,hj,rfl⟩:=List.mem_iff_getElem.1 d
    rw[dD]
    have hj':j<es.toList.length:=by simpa using hj
    have:=D es.toList[j] (kE hj')
    split
    .exact this
    exact this
   rw[fE]
   have:(es.toList.modify q λe=>{e with key:=ek k,val:=v}).map (·.born)=es.toList.map (·.born):=by
    apply List.ext_getElem
    .simp
    intro j V h2
    simp only[dP,dD]
    split<;>rfl
   rw[this];exact R
theorem mN[KOrd κ]{t kt et:TypeId}{z v:Value}{x y u:Operand}{q:Option Nat}{es:Array MapEntry}{ck:Nat}{o o':Option (List (κ×ν))}{k:κ}{yv:ν}{cs:List Value}(ho:eN ops L i=some (none,.insert t x y u))
  (hx:bY L x=some (.map q)) (hy:bY L y=some (ek k)) (hu:bY L u=some v) (hI:HV P t=some (kt,et,z)) (F:KeyOK P kt ek) (st:St m (aA q es ck::own) w) (H:MapQ ek c agg m q es ck o)
  (S:c.rep m yv cs) (hv:v=tC agg cs) (Z:iI o k yv=some o')
  (h:∀es' ck' w',St m (aA q es' ck'::own) w'->MapQ ek c agg m q es' ck' o'->N L w'):iO P n ops Q i N L w:=by
 obtain⟨V,h2⟩:=WY hI
 cases q with
 |none=>simp only[MapQ] at H;subst H;simp[iI] at Z
 |some b=>
  obtain⟨l0,l,rfl,s,g,Y,D,R⟩:=H
  simp only[iI,kL,jJ] at Z
  subst Z
  have B:w.heap[b]? =some (.map es ck):=st.head.1
  have a1:=vA B
  have E:(getObj b).run P w= .ok (.map es ck) w:=by simp[getObj,Sem.run,B]
  have K:∀o',(setObj b o').run P w= .ok () {w with heap:=w.heap.setIfInBounds b o'}:=λo'=>Fj B ae
  have G:∀o',St m (.blk b o'::own) {w with heap:=w.heap.setIfInBounds b o'}:=λo'=>
   St.set (o:= .map es ck) st ⟨⟨rfl,rfl⟩,rfl,oQ⟩ (by simp[a1]) (λk _ F=>by simp[Array.getElem?_setIfInBounds,Ne.symm F])
  have hc:=F.chk false k w
  obtain⟨r,H,A⟩:=TH (c:=c) (agg:=agg) k es.toList l 0 Y
  have f:(Instr.findKey kt (ek k) es.toList).run P w= .ok r w:=by rw[F.find k _ es.toList w (MT Y),H]
  cases r with
  |none=>
   obtain⟨g1,g2⟩:=A
   refine DI ho (λq hq=> ?_) (h (es.push {key:=ek k,val:=v,born:=ck}) (ck+1) _ (G _) ⟨_,qA l k yv,rfl,DD s g k yv,HB g k yv,?_,?_,?_⟩)
   .simp[execOp,hq,cQ hx,cQ hy,cQ hu,Instr.mapUpdate,run_underlying V,E,hc,f,K]
   .rw[g2,fK]
    exact Y.snoc rfl S hv
   .intro e d
    rw[fK,fD] at d
    rcases d with d|d
    .have:=D e d;omega
    simp at d;subst d;simp
   rw[fK,List.map_append,List.nodup_append]
   refine⟨R,by simp,?_⟩
   intro a ha b B e
   simp at B;subst B e
   obtain⟨U,M,a2⟩:=gW.1 ha
   have:=D U M
   omega
  |some qv=>
   obtain⟨q,v0⟩:=qv
   obtain⟨x0,a2,g1,g2,g3,g4,g5,⟨U,g6,g7⟩,g8⟩:=A
   have d:es[q]? =some U:=by simpa using g6
   have M:(Instr.keyThatStays (ek k) (ek k)).run P w= .ok (ek k) w:=F.stay k w
   refine DI ho (λp hp=> ?_) (h (es.modify q λe=>{e with key:=ek k,val:=v}) ck _ (G _) ⟨_,qA l k yv,rfl,DD s g k yv,HB g k yv,?_,?_,?_⟩)
   .simp[execOp,hp,cQ hx,cQ hy,cQ hu,Instr.mapUpdate,run_underlying V,E,hc,f,d,g7,M,K]
   .rw[fE]
    have:=g8 yv cs (λe=>{e with key:=ek k,val:=v}) S (λe=>⟨rfl,hv⟩)
    simpa using this
   .intro e d
    rw[fE] at d
    obtain⟨j,hj,rfl⟩:=List.mem_iff_getElem.1 d
    rw[dD]
    have hj':j<es.toList.length:=by simpa using hj
    have:=D es.toList[j] (kE hj')
    split
    .exact this
    exact this
   rw[fE]
   have:(es.toList.modify q λe=>{e with key:=ek k,val:=v}).map (·.born)=es.toList.map (·.born):=by
    apply List.ext_getElem
    .simp
    intro j V h2
    simp only[dP,dD]
    split<;>rfl
   rw[this];exact R
end
section
variable {P:Program} {n:Fr} {ops:Array Oper} {Q:Exit->Act->World->Prop} {i d:Nat} {L:bF} {w:World} {m:Mem} {own:List Piece} {N:bF->World->Prop}
variable {α:Type} {f:α->Value}
def DW(by_:Nat)(z:α)(k:Int):Option (List α):=if 0<=k/\k*by_<=140737488355328/\k<=maxLen then some (List.replicate k.toNat z) else none
def qK(f:α->Value)(l:List α)(T:List Value):Array Value:=(l.map f++T).toArray
theorem Ue{t e by_:Nat}{x y:Operand}{z:α}{k:Int}{kd B:IntKind}{l:List α}(f:α->Value)(E:eN ops L i=some (some d,.makeSlice t x y))(D:Nat.blt d n=true)(M:bY L x=some (.int kd k))(R:bY L y=some (.int B k))
  (hi:zM P t=some (e,1,by_,1)) (r:(P.info? e).bind (·.zero)=some (f z)) (F:(f z).oneCell'=true) (st:St m own w) (g:DW by_ z k=some l)
  (h:∀b w',List.length l=Int.toNat k->St m (.blk b (.cells (qK f l []) e (0,0))::own) w'->N ((d,.slice (some ⟨b,0,none⟩) (Int.toNat k) (Int.toNat k))::L) w'):iO P n ops Q i N L w:=by
 obtain⟨H,inf,zv,a,p,A,v,U⟩:=WR hi
 rw[a] at r
 simp only[j0,p,jJ] at r
 subst r
 unfold DW at g
 split at g
 .rename_i hk
  obtain⟨Y,Z,k3⟩:=hk
  simp only[jJ] at g;subst g
  have S:(maxLen:Int)=9223372036854775807:=rfl
  have K:IntKind.i64.wrap k=k:=by simp[wI,IntKind.wrap,IntKind.signed,IntKind.bits];omega
  have k2':¬(281474976710656<(by_:Int)*k):=by rw[Int.mul_comm];omega
  have c:(f z).cells= #[f z]:=by cases hv:f z<;>simp_all [Value.cells,Value.oneCell']
  have u:qK f (List.replicate k.toNat z) []=((List.replicate k.toNat z).map f).toArray:=by simp[qK]
  refine oW (w':=w.alloc (.cells ((List.replicate k.toNat z).map f).toArray e)) E D (λq G=> ?_) (h w.heap.size _ ae (by rw[u];exact st.alloc ⟨⟨rfl,rfl⟩,rfl,oQ⟩ rfl))
  simp only[execOp,G,cQ M,cQ R,Instr.makeSlice,Sem.run_bind,run_underlying H,Result.andThen_ok,asInt,asIntOf,typeInfo,run_program,a,Sem.run_pure,K,v]
  have s:¬(k<0):=by omega
  have o:(decide (k<0)||decide ((by_:Int)*k>2^48)||decide (k<0)||decide (k>k))=false:=by simp[s];omega
  simp only[o,j9,jF,run_askRoom,Result.andThen_ok,sizeOf,typeInfo,Sem.run_bind,run_program,a,Sem.run_pure,A,Nat.mul_one]
  by_cases h0:k.toNat=0
  .simp[h0,newRow]
   congr 2
   first|rfl|simp
  simp[h0,zeroValue,typeInfo,a,p,c,newRow,Nat.mod_one]
  congr 2
  apply Array.ext
  .simp
  intro j s V;simp
 cases g
theorem Ed{t e:TypeId}{x y:Operand}{b nn cc:Nat}{l:List α}{k:IntKind}{ix:Int}{z:α}(p:eN ops L i=some (some d,.indexAddr t x y))(o:Nat.blt d n=true)
  (s:bY L x=some (.slice (some ⟨b,0,none⟩) nn cc)) (u:bY L y=some (.int k ix)) (hi:tY P t=some (e,1)) (A:List.length l=nn) (a:bC l ix=some z)
  (h:N ((d,.pointer (some ⟨b,ix.toNat,none⟩))::L) w):iO P n ops Q i N L w:=by
 obtain⟨c,inf,f,g⟩:=BC hi
 unfold bC at a
 split at a
 .rename_i h0
  have v:ix.toNat<l.length:=(List.getElem?_eq_some_iff.1 a).1
  refine oW p o (λq r=> ?_) h
  have hlt':ix<(nn:Int):=by omega
  simp[execOp,r,Instr.indexAt,cQ s,cQ u,asIntOf,run_underlying c,h0,hlt',sizeOf,typeInfo,f,g,BF]
 cases a
theorem Ec{t e:TypeId}{x y:Operand}{b:Nat}{l:List α}{T:List Value}{ix:Int}{z u:α}(A:eN ops L i=some (none,.store t x y))
  (D:bY L x=some (.pointer (some ⟨b,ix.toNat,none⟩))) (E:bY L y=some (f u)) (st:St m (.blk b (.cells (qK f l T) e (0,0))::own) w) (g:bC l ix=some z) (p:(f u).oneCell'=true) (d:(P.info? t).map (·.size)=some 1)
  (h:∀w',St m (.blk b (.cells (qK f (l.set ix.toNat u) T) e (0,0))::own) w'->N L w'):iO P n ops Q i N L w:=by
 unfold bC at g
 split at g
 .have s:ix.toNat<l.length:=(List.getElem?_eq_some_iff.1 g).1
  have c:(f u).cells= #[f u]:=by cases hv:f u<;>simp_all [Value.cells,Value.oneCell']
  have r:=st.head.1
  have a:=run_storeCells_at P b ix.toNat e [f u] 0 (qK f l T) w r (by simp[qK];omega) (by simp[p])
  simp only[gZ] at a
  have o:((qK f l T).toList.take ix.toNat++[f u]++(qK f l T).toList.drop (ix.toNat+[f u].length)).toArray=qK f (l.set ix.toNat u) T:=by
   apply kF List.toArray
   simp only[qK,dC]
   rw[List.map_set,List.set_eq_take_append_cons_drop,jB (by simpa using s)]
   rw[kM ah,gB ah]
   simp
  rw[o] at a
  cases hi:P.info? t with
  |none=>simp[hi] at d
  |some inf=>
   simp only[hi,kL,jJ] at d
   refine DI A (λq B=> ?_) (h (w.setRow b (qK f (l.set ix.toNat u) T)) (st.set ⟨⟨rfl,rfl⟩,rfl,oQ⟩ (setRow_heap w b (qK f l T) _ e _ r) (λk _ v=>setRow_other w b k _ v)))
   simp[execOp,B,Instr.storeAt,cQ D,cQ E,Instr.sureAddr,storeVar,sizeOf,typeInfo,hi,c,d,a]
 cases g
theorem St.freeze{c:Codec α}{b e nn cc:Nat}{l:List α}{T:List Value}(st:St m (.blk b (.cells (qK f l T) e (0,0))::own) w)(F:List.length l=nn)(D:nn<=cc)(a:cc<=maxLen)(y:(qK f l T).size=cc)(g:c.sz=1)(z:∀m x,c.rep m x [f x]):
  ∃m',m.le m'/\St m' (.room (some ⟨b,0,none⟩) (List.length l) cc e 1::own) w/\RepS c m' (some ⟨b,0,none⟩) cc l:=by
 have h:(qK f l T).toList.take (l.map f).length=l.map f:=by simp[qK]
 obtain⟨m',q,r,s,t,u,E⟩:=St.know (b:=b) (cs:=l.map f) st.tail (st.head_ne rfl) st.head.1 h (λo v n=>by rw[st.head.2.1 o] at n;cases n)
 refine⟨m',q,r.cons ⟨rfl,rfl,by omega,a,⟨_,st.head.1,by rw[y,Nat.mul_one]⟩,λo B=>t o (by simpa using B),by rw[u];exact st.head.2.2⟩ ?_,?_⟩
 .intro k d;simp[Piece.block] at d;subst d;exact st.head_ne rfl
 exact RepS.of_cells (cs:=l.map f) aa a (λj x p=>by
  have d:=(List.getElem?_eq_some_iff.1 p).1
  have A:=(List.getElem?_eq_some_iff.1 p).2
  rw[g,Nat.mul_one,<-List.map_drop,<-List.map_take,jM d,A]
  exact z m' x) s
theorem Zk{by_:Nat}{z:α}{k:Int}{l:List α}(h:DW by_ z k=some l):k.toNat<=maxLen:=by
 unfold DW at h
 split at h
 .rename_i hk;have:=hk.2.2;have a:(maxLen:Int)=9223372036854775807:=rfl;omega
 cases h
theorem Ul{l:List α}{T:List Value}{nn cc:Nat}(h:List.length l=nn)(a:nn+T.length=cc):(qK f l T).size=cc:=by simp[qK];omega
end
theorem TV{α:Type}{l:List α}{n:Nat}(h:List.length l=n)(i:Nat)(a:α):List.length (List.set l i a)=n:=by rw[List.length_set];exact h
end Go.Dc
end
namespace Go.Dc
section
def mY{α σ β:Type}(f:Option α->σ->Option (σ⊕β)):List α->σ->Option β
 |[],s=>(f none s).bind fun
  | .inl _=>none
  | .inr b=>some b
 |e::l,s=>(f (some e) s).bind fun
  | .inl s'=>mY f l s'
  | .inr b=>some b
def NI{α:Type}(x:α):List α->List (List α)
 |[]=>[[x]]
 |y::l=>(x::y::l)::(NI x l).map (y:: ·)
def AB{α:Type}:List α->List (List α)
 |[]=>[[]]
 |x::l=>(AB l).flatMap (NI x)
theorem SV{α:Type}{x:α}:∀{l k:List α},k∈NI x l↔∃a b,l=a++b/\k=a++x::b
 |[],k=>by
  simp only[NI,gX]
  constructor
  .rintro rfl;exact⟨[],[],rfl,rfl⟩
  rintro⟨a,b,h,rfl⟩
  simp only[List.nil_eq,List.append_eq_nil_iff] at h
  obtain⟨rfl,rfl⟩:=h;rfl
 |y::l,k=>by
  simp only[NI,jK,gW]
  constructor
  .rintro(rfl|⟨k',c,rfl⟩)
   .exact⟨[],y::l,rfl,rfl⟩
   obtain⟨a,b,rfl,rfl⟩:=SV.1 c
   exact⟨y::a,b,rfl,rfl⟩
  rintro⟨a,b,h,rfl⟩
  cases a with
  |nil=>left;simp only[kH] at h;rw[<-h];rfl
  |cons z a=>
   simp only[dA,kV] at h
   obtain⟨rfl,rfl⟩:=h
   right
   exact⟨a++x::b,SV.2 ⟨a,b,rfl,rfl⟩,rfl⟩
theorem YO{α:Type}:∀{l k:List α},k.Perm l->k∈AB l
 |[],k,h=>by rw[List.perm_nil] at h;subst h;simp[AB]
 |x::l,k,h=>by
  have c:x∈k:=h.mem_iff.2 (jR ..)
  obtain⟨a,b,rfl⟩:=List.append_of_mem c
  have h':(a++b).Perm l:=(gI.symm.trans h).cons_inv
  simp only[AB,fP]
  exact⟨a++b,YO h',SV.2 ⟨a,b,rfl,rfl⟩⟩
theorem XJ{α:Type}:∀{l k:List α},k∈AB l->k.Perm l
 |[],k,h=>by simp[AB] at h;subst h;exact .refl _
 |x::l,k,h=>by
  simp only[AB,fP] at h
  obtain⟨k',c,d⟩:=h
  obtain⟨a,b,rfl,rfl⟩:=SV.1 d
  exact gI.trans ((XJ c).cons x)
class Triv(σ:Type) where
 one:Bool
 eq:one=true->∀a b:σ,a=b
instance trivNo{σ:Type}:Triv σ:=⟨false,λh=>by cases h⟩
instance trivU:Triv Unit:=⟨true,λ_ _ _=>rfl⟩
def Bb{α σ β:Type}[DecidableEq β][Triv σ](f:Option α->σ->Option (σ⊕β))(l:List α)(s:σ)(b:β):Bool:=
 Triv.one σ&&l.all λx=>match f (some x) s with
  |some (.inl _)=>true
  |some (.inr c)=>decide (c=b)
  |none=>false
theorem XO{α σ β:Type}{f:Option α->σ->Option (σ⊕β)}{s:σ}{b:β}(o:∀a c:σ,a=c):∀k:List α,(∀x∈k,(∃s',f (some x) s=some (.inl s'))\/f (some x) s=some (.inr b))->
  (mY f k s=some b/\∃x∈k,f (some x) s=some (.inr b))\/mY f k s=mY f [] s/\∀x∈k,f (some x) s≠some (.inr b)
 |[],_=> .inr ⟨rfl,by simp⟩
 |x::k,h=>by
  rcases h x (jR ..) with ⟨s',g⟩|g
  .have e:mY f (x::k) s=mY f k s:=by rw[mY,g,o s' s];rfl
   rcases XO o k λy d=>h y (jU _ d) with ⟨l,y,d,n⟩|⟨l,n⟩
   .exact .inl ⟨e.trans l,y,jU _ d,n⟩
   refine .inr ⟨e.trans l,λy d=> ?_⟩
   rcases jK.1 d with rfl|d
   .rw[g];simp
   exact n y d
  exact .inl ⟨by rw[mY,g];rfl,x,jR ..,g⟩
theorem Ze{α σ β:Type}[DecidableEq β][Triv σ]{f:Option α->σ->Option (σ⊕β)}{l:List α}{s:σ}{b:β}(n:mY f l s=some b)(d:Bb f l s b=true)(k:List α)(g:k.Perm l):mY f k s=some b:=by
 unfold Bb at d
 rw[jS] at d
 have good:∀x∈l,(∃s',f (some x) s=some (.inl s'))\/f (some x) s=some (.inr b):=λx a=>by
  have:=jW.1 d.2 x a
  split at this
  .rename_i s' h;exact .inl ⟨s',h⟩
  .rename_i c h;rw[h,gU this];exact .inr rfl
  cases this
 have e:=Triv.eq d.1
 rcases XO e k λx a=>good x (g.mem_iff.1 a) with h|⟨o,p⟩
 .exact h.1
 rcases XO e l good with ⟨_,x,a,r⟩|⟨q,_⟩
 .exact absurd r (p x (g.mem_iff.2 a))
 rw[o,<-q,n]
def zT{α σ β:Type}[DecidableEq β][Triv σ](f:Option α->σ->Option (σ⊕β))(l:List α)(s:σ):Option β:=
 match mY f l s with
 |none=>none
 |some b=>if(Bb f l s b||(AB l).all λk=>decide (mY f k s=some b))then some b else none
theorem Wn{α σ β:Type}[DecidableEq β][Triv σ]{f:Option α->σ->Option (σ⊕β)}{l:List α}{s:σ}{b:β}(h:zT f l s=some b):∀k,k.Perm l->mY f k s=some b:=by
 unfold zT at h
 split at h
 .cases h
 rename_i b' hb
 split at h
 .rename_i a
  simp only[jJ] at h;subst h
  intro k c
  rcases dK _ _▸a with d|a
  .exact Ze hb d k c
  have:=jW.1 a k (YO c)
  simpa using this
 cases h
theorem Gz{α σ β:Type}[DecidableEq β][Triv σ]{f:Option α->σ->Option (σ⊕β)}{l:List α}{s:σ}{b:β}(h:∀k,k.Perm l->mY f k s=some b):zT f l s=some b:=by
 unfold zT
 rw[h l (.refl _)]
 simp only
 rw[jB]
 rw[dK]
 exact .inr (jW.2 λk a=>by simpa using h k (XJ a))
def LoopE{α σ β:Type}(f:Option α->σ->Option (σ⊕β))(rem:List α)(s:σ)(b:β)(k:Nat):Prop:=(∀l,l.Perm rem->mY f l s=some b)/\rem.length<k
theorem LoopE.start{α σ β:Type}[DecidableEq β][Triv σ]{f:Option α->σ->Option (σ⊕β)}{l:List α}{s:σ}{b:β}(h:zT f l s=some b):LoopE f l s b (l.length+1):=⟨Wn h,Nat.lt_succ_self _⟩
theorem LoopE.zero{α σ β:Type}{f:Option α->σ->Option (σ⊕β)}{rem:List α}{s:σ}{b:β}{p:Prop}(h:LoopE f rem s b 0):p:=absurd h.2 (kS _)
theorem LoopE.nil{α σ β:Type}{f:Option α->σ->Option (σ⊕β)}{rem:List α}{s:σ}{b:β}{k:Nat}(h:LoopE f rem s b (k+1))(e:rem=[]):
  ∃c,f none s=some c/\(∀s',c= .inl s'->LoopE f rem s' b k)/\(∀b',c= .inr b'->b'=b):=by
 subst e
 have:=h.1 [] (.refl _)
 simp only[mY] at this
 obtain⟨c,d,a⟩:=jQ.1 this
 refine⟨c,d,?_,?_⟩
 .rintro s' rfl;simp at a
 rintro b' rfl;simpa using a
theorem LoopE.cons{α σ β:Type}{f:Option α->σ->Option (σ⊕β)}{rem rest:List α}{e:α}{s:σ}{b:β}{k:Nat}(h:LoopE f rem s b (k+1))(n:rem.Perm (e::rest)):
  ∃c,f (some e) s=some c/\(∀s',c= .inl s'->LoopE f rest s' b k)/\(∀b',c= .inr b'->b'=b):=by
 have p:rem.length=rest.length+1:=by simpa using n.length_eq
 have key:∀l,l.Perm rest->mY f (e::l) s=some b:=λl a=>h.1 _ ((a.cons e).trans n.symm)
 have d:=key rest (.refl _)
 simp only[mY] at d
 obtain⟨c,g,o⟩:=jQ.1 d
 refine⟨c,g,?_,?_⟩
 .rintro s' rfl
  refine⟨λl a=> ?_,by have:=h.2;omega⟩
  have:=key l a
  simp only[mY,g,j0] at this
  exact this
 rintro b' rfl;simpa using o
def tF(r:Nat)(q:Option Nat)(ck:Nat)(seen:Array Nat):Piece:= .blk r (.mapIter q ck seen ck)
def DT(es:Array MapEntry)(seen:Array Nat):List MapEntry:=es.toList.filter λe=> !seen.contains e.born
def ItR{κ ν:Type}(ek:κ->Value)(c:Codec ν)(agg:Bool)(m:Mem)(es:Array MapEntry)(seen:Array Nat)(rem:List (κ×ν)):Prop:=∃l',l'.Perm rem/\MapL ek c agg m (DT es seen) l'
def eU(es:Array MapEntry)(seen:Array Nat)(k v:Value):Prop:=∃(s0:Array Nat) (e:MapEntry),seen=s0.push e.born/\e∈es.toList/\e.key=k/\e.val=v
theorem ItR.mono{κ ν:Type}{ek:κ->Value}{c:Codec ν}{agg:Bool}{m m':Mem}{es:Array MapEntry}{seen:Array Nat}{rem:List (κ×ν)}(h:ItR ek c agg m es seen rem)(a:m.le m'):ItR ek c agg m' es seen rem:=by
 obtain⟨l',b,d⟩:=h;exact⟨l',b,d.mono a⟩
variable {P:Program} {n:Fr} {ops:Array Oper} {Q:Exit->Act->World->Prop} {i d:Nat} {L:bF} {w:World} {m:Mem} {own:List Piece} {N:bF->World->Prop}
variable {κ ν:Type} {ek:κ->Value} {c:Codec ν} {agg:Bool}
theorem YC{t kt et:TypeId}{x:Operand}{b:Nat}{es:Array MapEntry}{ck:Nat}{o:Option (List (κ×ν))}(s:eN ops L i=some (some d,.range t x))(k:Nat.blt d n=true)(z:bY L x=some (.map (some b)))
  (y:P.underlying t=some (.map kt et)) (st:St m (aA (some b) es ck::own) w) (v:MapQ ek c agg m (some b) es ck o)
  (h:∀r w',St m (tF r (some b) ck #[]::aA (some b) es ck::own) w'->ItR ek c agg m es #[] (o.getD [])->N ((d,.pointer (some ⟨r,0,none⟩))::L) w'):iO P n ops Q i N L w:=by
 obtain⟨l,l',rfl,a,A,p,B⟩:=v
 have e:(getObj b).run P w= .ok (.map es ck) w:=by
  have f:w.heap[b]? =some (.map es ck):=st.head.1
  simp[getObj,Sem.run,f]
 have g:=st.alloc (w':=w.alloc (.mapIter (some b) ck #[] ck)) (o:= .mapIter (some b) ck #[] ck) ⟨⟨rfl,rfl⟩,rfl,oQ⟩ rfl
 have f:∀o,(newObj o).run P w= .ok w.heap.size (w.alloc o):=λo=>rfl
 refine oW s k (λq u=> ?_) (h w.heap.size _ g ⟨l',a,by rw[show DT es #[]=es.toList from List.filter_eq_self.2 (λ_ _=>by simp)];exact p⟩)
 simp[execOp,u,cQ z,Instr.range,run_underlying y,e,f]
theorem Kw:∀{es:List MapEntry} {l:List (κ×ν)} {j:Nat} {e:MapEntry},MapL ek c agg m es l->es[j]? =some e->∃k v cs,l[j]? =some (k,v)/\e.key=ek k/\c.rep m v cs/\e.val=tC agg cs/\MapL ek c agg m (es.eraseIdx j) (l.eraseIdx j)
 |h::es,l,0,e,⟨k,v,l',b,d,⟨cs,f,s⟩,g⟩,a=>by
  simp at a;subst a b
  exact⟨k,v,cs,rfl,d,f,s,by simpa using g⟩
 |h::es,l,j+1,e,⟨k,v,l',b,d,f,g⟩,a=>by
  subst b
  obtain⟨t,u,cs,n,o,p,q,r⟩:=Kw g (by simpa using a)
  exact⟨t,u,cs,by simpa using n,o,p,q,by simp only[List.eraseIdx_cons_succ];exact⟨k,v,_,rfl,d,f,r⟩⟩
theorem Sx{es:List MapEntry}(a:(es.map (·.born)).Nodup){seen:Array Nat}{j:Nat}{e:MapEntry}(h:(es.filter λe=> !seen.contains e.born)[j]? =some e):
  (es.filter λe'=> !(seen.push e.born).contains e'.born)=(es.filter λe=> !seen.contains e.born).eraseIdx j:=by
 induction es generalizing j with
 |nil=>simp at h
 |cons x es f=>
  simp only[kQ,gV] at a
  simp only[gE] at h ⊢
  have b:∀y:MapEntry,(seen.push e.born).contains y.born=(seen.contains y.born||(y.born==e.born)):=λy=>by
   rw[Array.contains_push]
  by_cases hx:seen.contains x.born=true
  .simp only[hx,kP,j9,jF] at h ⊢
   rw[b,hx]
   simp only[Bool.true_or,kP,j9,jF]
   exact f a.2 h
  have hx':seen.contains x.born=false:=by simpa using hx
  simp only[hx',kI,jH] at h ⊢
  rw[b,hx']
  cases j with
  |zero=>
   simp at h
   subst h
   simp only[dR,fG,kP,j9,jF,List.eraseIdx_cons_zero]
   refine List.filter_congr λy c=> ?_
   rw[b]
   have:¬y.born=x.born:=λe=>a.1 (by rw[<-e];exact gL c)
   simp[this]
  |succ j=>
   have h':(es.filter λe=> !seen.contains e.born)[j]? =some e:=by simpa using h
   have c:e∈es:=(gM.1 (gY h')).1
   have d:¬x.born=e.born:=λg=>a.1 (by rw[g];exact gL c)
   simp only[dR,kG,d,Bool.not_eq_eq_eq_not,kP,beq_eq_false_iff_ne,dT,fX,jH,List.eraseIdx_cons_succ]
   congr 1
   exact f a.2 h'
theorem Jc(es:Array MapEntry)(seen:Array Nat):(leftOf es seen).toList=DT es seen:=by simp[leftOf,DT]
theorem St.setIt{r:Nat}{q:Option Nat}{ck:Nat}{seen:Array Nat}{b:World}(seen':Array Nat)(st:St m (tF r q ck seen::own) w)(a:b=w\/b=w.drew):St m (tF r q ck seen'::own) (Go.ChangeMaps.setBlock b r (.mapIter q ck seen' ck)):=by
 have c:=vA st.head.1
 refine St.set (o:= .mapIter q ck seen ck) (o':= .mapIter q ck seen' ck) st ?_ ?_ ?_
 .rcases a with rfl|rfl<;>exact⟨⟨rfl,rfl⟩,rfl,oQ⟩
 .have:(w.heap.setIfInBounds r (.mapIter q ck seen' ck))[r]? =some (.mapIter q ck seen' ck):=by simp[c]
  rcases a with rfl|rfl<;>exact this
 intro k _ d
 have:(w.heap.setIfInBounds r (.mapIter q ck seen' ck))[k]? =w.heap[k]? :=by simp[Array.getElem?_setIfInBounds,Ne.symm d]
 rcases a with rfl|rfl<;>exact this
theorem ZL{x:Operand}{r b ck:Nat}{es:Array MapEntry}{seen:Array Nat}{o:Option (List (κ×ν))}{rem:List (κ×ν)}(V:eN ops L i=some (some d,.next x false))(U:Nat.blt d n=true)(H:bY L x=some (.pointer (some ⟨r,0,none⟩)))
  (st:St m (tF r (some b) ck seen::aA (some b) es ck::own) w) (l:MapQ ek c agg m (some b) es ck o) (Y:ItR ek c agg m es seen rem)
  (R:rem=[]->∀w',St m (tF r (some b) ck seen::aA (some b) es ck::own) w'->N ((d,.tuple #[.bool false])::L) w')
  (S:∀(e:κ×ν) (rest:List (κ×ν)) (seen':Array Nat) (cs:List Value) (w':World),rem.Perm (e::rest)->c.rep m e.2 cs->St m (tF r (some b) ck seen'::aA (some b) es ck::own) w'->ItR ek c agg m es seen' rest->eU es seen' (ek e.1) (tC agg cs)->
   N ((d,.tuple #[.bool true,ek e.1,tC agg cs])::L) w'):iO P n ops Q i N L w:=by
 obtain⟨_,_,_,_,_,_,A,B⟩:=l
 obtain⟨l',f,s⟩:=Y
 have D:w.heap[r]? =some (.mapIter (some b) ck seen ck):=st.head.1
 have F:w.heap[b]? =some (.map es ck):=st.tail.head.1
 refine HQ (v:=undef) (w':=w) V U (λq l=> ?_)
 rcases run_next_at (P:=P) w q.type r b ck ck seen es ck D F A (jN _) with ⟨Z,a⟩|⟨e,p,w1,G,a⟩
 .have g:DT es seen=[]:=by rw[<-Jc];exact kC (by simpa using Z)
  rw[g] at s
  have hl':l'=[]:=s
  subst hl'
  refine⟨_,w,?_,R (List.nil_perm.1 f) w st⟩
  simp[execOp,l,cQ H,a]
 rw[Jc] at p
 obtain⟨j,E⟩:=List.mem_iff_getElem?.1 p
 obtain⟨k,v,cs,u,y,K,z,M⟩:=Kw s E
 have a1:=(List.getElem?_eq_some_iff.1 u).1
 have g:l'.Perm ((k,v)::l'.eraseIdx j):=by
  have h:l'[j]=(k,v):=(List.getElem?_eq_some_iff.1 u).2
  have t:l'=l'.take j++(k,v)::l'.drop (j+1):=by rw[<-h,fS,List.take_append_drop]
  rw[List.eraseIdx_eq_take_drop_succ]
  exact(List.Perm.of_eq t).trans gI
 have t:e∈es.toList:=(gM.1 p).1
 have h:DT es (seen.push e.born)=(DT es seen).eraseIdx j:=Sx B E
 refine⟨_,_,?_,S (k,v) (l'.eraseIdx j) (seen.push e.born) cs _ (f.symm.trans g) K (St.setIt _ st G) ⟨_,.refl _,by rw[h];exact M⟩ ⟨seen,e,rfl,t,y,z⟩⟩
 simp[execOp,l,cQ H,a,y,z]
theorem YF{x:Operand}{r b ck:Nat}{es:Array MapEntry}{seen:Array Nat}{o:Option (List (κ×ν))}{K V:Value}(v:eN ops L i=some (some d,.entry x))(t:Nat.blt d n=true)(y:bY L x=some (.pointer (some ⟨r,0,none⟩)))
  (st:St m (tF r (some b) ck seen::aA (some b) es ck::own) w) (g:MapQ ek c agg m (some b) es ck o) (u:eU es seen K V)
  (h:N ((d,.tuple #[K,V])::L) w):iO P n ops Q i N L w:=by
 obtain⟨_,_,_,_,_,_,z,l⟩:=g
 obtain⟨a,e,rfl,f,rfl,rfl⟩:=u
 have p:w.heap[r]? =some (.mapIter (some b) ck (a.push e.born) ck):=st.head.1
 have s:w.heap[b]? =some (.map es ck):=st.tail.head.1
 have k:=run_entry_at (P:=P) w r b ck a es ck e p s f l
 refine oW v t (λq g=> ?_) h
 simp[execOp,g,cQ y,k]
end
end Go.Dc
section
namespace Go.Dc
def vO(s:BA)(c:Int):Int:=
 match(List.range s.size).find? λi=>s[i]! ==c.toNat.toUInt8 with
 |some i=>(i:Int)
 |none=> -1
def OI(s:BA)(c:Int):Int:=s.foldl (λn x=>if x==c.toNat.toUInt8 then n+1 else n) ((0:Nat):Int)
section
variable {ρ:Option Nat} {P:Program} {n:Fr} {ops:Array Oper} {Q:Exit->Act->World->Prop} {i d:Nat} {L:bF} {w:World} {m:Mem} {own:List Piece} {N:bF->World->Prop}
theorem XT{f:FuncId}{fn:Func}{e:Array Value->Sem Value}{xs:Array Operand}{ts:Array TypeId}(vs:List Value)(v:Value)(s:eN ops L i=some (some d,.call {callee:= .value (.func f),args:=xs,argTypes:=ts}))(p:Nat.blt d n=true)
  (u : xs.map (oR L) = vs.toArray) (r : P.funcs[f]? = some fn) (b : (fn.name == "runtime.NumGoroutine", fn.body.isNone, (Extern.findNext fn).isNone) = (false, true, true)) (o : Extern.find fn = some e)
  (a:(e vs.toArray).run P w= .ok v w) (h:N ((d,v)::L) w):iO P n ops Q i N L w:=by
 simp only[Prod.mk.injEq] at b
 obtain⟨g,k,l⟩:=b
 have g1' : ¬ fn.name = "runtime.NumGoroutine" := by simpa using g
 have g2':fn.body=none:=by simpa using k
 have g3':Extern.findNext fn=none:=by simpa using l
 refine oW s p (λq t=> ?_) h
 have c:oR L (.func f)= .func (.func f) #[] #[]:=rfl
 simp[execOp,t,resolve,c,u,Deferred.ofValue,invoke,callFunc,r,g1',g2',g3',o,a]
theorem Sk{f:FuncId}{fn:Func}{x y:Operand}{ts:Array TypeId}{s:BA}{c:Int}(l:eN ops L i=some (some d,.call {callee:= .value (.func f),args:= #[x,y],argTypes:=ts}))(g:Nat.blt d n=true)
  (o : bY L x = some (.string s)) (p : bY L y = some (.int .u8 c)) (k : P.funcs[f]? = some fn) (a : (fn.name == "runtime.NumGoroutine", fn.body.isNone, (Extern.findNext fn).isNone) = (false, true, true)) (b : Extern.find fn = some Extern.BytealgIndexByte.indexByte)
  (h:N ((d,.int .i64 (vO s c))::L) w):iO P n ops Q i N L w:=by
 refine XT [.string s,.int .u8 c] _ l g (by simp[cQ o,cQ p]) k a b ?_ h
 have e:Extern.BytealgIndexByte.indexByte #[.string s,.int .u8 c]=(match(List.range s.size).find? λi=>s[i]! ==c.toNat.toUInt8 with
  |some i=>pure (goInt i)
  |none=>pure (goInt (-1))):=rfl
 show(Extern.BytealgIndexByte.indexByte #[.string s,.int .u8 c]).run P w=_
 rw[e]
 unfold vO
 split<;>rfl
theorem Se{f:FuncId}{fn:Func}{x y:Operand}{ts:Array TypeId}{s:BA}{c:Int}(l:eN ops L i=some (some d,.call {callee:= .value (.func f),args:= #[x,y],argTypes:=ts}))(g:Nat.blt d n=true)
  (o : bY L x = some (.string s)) (p : bY L y = some (.int .u8 c)) (k : P.funcs[f]? = some fn) (a : (fn.name == "runtime.NumGoroutine", fn.body.isNone, (Extern.findNext fn).isNone) = (false, true, true)) (b : Extern.find fn = some Extern.BytealgCount.count)
  (h:N ((d,.int .i64 (OI s c))::L) w):iO P n ops Q i N L w:=by
 refine XT [.string s,.int .u8 c] _ l g (by simp[cQ o,cQ p]) k a b ?_ h
 have e:Extern.BytealgCount.count #[.string s,.int .u8 c]=pure (goInt (s.foldl (λn x=>if x==c.toNat.toUInt8 then n+1 else n) (0:Nat))):=rfl
 show(Extern.BytealgCount.count #[.string s,.int .u8 c]).run P w=_
 rw[e]
 unfold OI goInt
 simp only[Sem.run_pure]
theorem HA{b:Frame}{a:Act}{k:List Item}{cs:List Frame}{c:Code}:step P (lone (b.atR a (.code (.scope c)::k)) cs w)= .next (lone (b.atR a (.code c:: .inScope c::k)) cs w):=
 step_lone_go (by simp[stepG,stepG.exec,Frame.atR])
theorem So{b:Frame}{a:Act}{k:List Item}{cs:List Frame}{c:Code}:step P (lone (b.atR a (.inScope c::k)) cs w)= .next (lone (b.atR a k) cs w):=
 step_lone_go (by simp[stepG,stepG.exec,Frame.atR])
def UH(Q:Exit->Act->World->Prop):Exit->Act->World->Prop
 | .goto _,_,_=>False
 | .normal,a,w=>Q .normal a w
 | .exit id,a,w=>Q (.exit id) a w
 | .ret,a,w=>Q .ret a w
 | .panic c,a,w=>Q (.panic c) a w
 | .outgrown,a,w=>Q .outgrown a w
theorem Qv{F:Fence}{m:Nat}{a:Act}{c:Code}(h:c.wpIn F m P (UH Q) a w):(Code.scope c).wpIn F m P Q a w:=by
 intro b k cs q n p
 have f:(lone (b.atR a (.code (.scope c)::k)) cs w).fenced P F:=fenced_calm n p rfl
 obtain⟨e,a₁,w₁,g,d⟩:=h b (.inScope c::k) cs q n p
 cases e with
 |normal=>exact⟨.normal,a₁,w₁,g,.head f HA (StepsIn.trans d (.one (fenced_calm n p rfl) So))⟩
 |exit id=>
  have r:exitTo id (.inScope c::k)=exitTo id k:=by simp[exitTo]
  exact⟨.exit id,a₁,w₁,g,λk' o=> .head f HA (d.1 k' (by rw[r];exact o)),
   λhr' o=>let ⟨k₁,h1,h2⟩:=d.2 hr' (by rw[r];exact o);⟨k₁,h1,.head f HA h2⟩⟩
 |goto l=>exact g.elim
 |ret=>exact⟨_,a₁,w₁,g,.of_steps (.one f HA) d⟩
 |panic ch=>exact⟨_,a₁,w₁,g,.of_steps (.one f HA) d⟩
 |outgrown=>exact⟨_,a₁,w₁,g,.of_steps (.one f HA) d⟩
theorem Ln{c:Code}(h:W ρ P n c (UH Q) L w):W ρ P n (.scope c) Q L w:=λa b=>Qv (h a b)
theorem zF(h:X n Q .ret L w):X n (UH Q) .ret L w:=h
theorem Ka{l:Nat}(h:X n Q .normal L w):W ρ P n (.label l) Q L w:=λa b=>wpIn_label (h a b)
end
def Ak(P:Program)(t:TypeId):Value->Value->Option Bool
 | .int k a,.int k' b=>match P.underlying t with
  |some (.int _)=>bif decide (k=k') then some (a==b) else none
  |_=>none
 | .bool a,.bool b=>match P.underlying t with
  |some .bool=>some (a==b)
  |_=>none
 | .string a,.string b=>match P.underlying t with
  |some .string=>some (a.toList==b.toList)
  |_=>none
 |_,_=>none
def BQ(P:Program)(xs ys:Array Value):List Field->Option Bool
 |[]=>some true
 |f::fs=>match xs[f.offset]?,ys[f.offset]? with
  | some a, some b => bif f.name == "_" || !P.plainKey f.type then none else (Ak P f.type a b).bind λr => (BQ P xs ys fs).map λs => r && s
  |_,_=>none
section
variable {P:Program} {n:Fr} {ops:Array Oper} {Q:Exit->Act->World->Prop} {i d:Nat} {L:bF} {w:World} {N:bF->World->Prop}
theorem Wr{t:TypeId}{a b:Value}{r:Bool}(dp:Nat)(h:Ak P t a b=some r):(Op.equalIn (dp+1) t a b).run P w= .ok r w:=by
 unfold Ak at h
 split at h
 .split at h
  .rename_i hu
   rename_i k a k' b _ q
   by_cases hk:k=k'
   .subst hk
    simp only[decide_true,cond_true,jJ] at h
    subst h
    exact run_equalIn_int w dp t k _ a b hu
   simp[hk] at h
  cases h
 .split at h
  .rename_i hu;cases h;exact run_equalIn_bool w dp t _ _ hu
  cases h
 .split at h
  .rename_i hu;cases h;exact run_equalIn_string w dp t _ _ hu
  cases h
 cases h
theorem Iv{xs ys:Array Value}(dp:Nat):∀{fs:List Field} {r:Bool},BQ P xs ys fs=some r->(Op.eqFields (dp+1) xs ys fs).run P w= .ok r w
 |[],r,h=>by simp[BQ] at h;subst h;simp[Op.eqFields]
 |f::fs,r,h=>by
  simp only[BQ] at h
  split at h
  .rename_i a b ha hb
   cases c : (f.name == "_" || !P.plainKey f.type) with
   |true=>simp[c] at h
   |false=>
    simp only[c,cond_false] at h
    simp only[Bool.or_eq_false_iff,Bool.not_eq_false'] at c
    obtain⟨s,d,e⟩:=jQ.1 h
    obtain⟨u,g,k⟩:=jL.1 e
    have l : f.name ≠ "_" := by simpa using c.1
    have p1:=run_part_plain (P:=P) (w:=w) c.2 ha
    have p2:=run_part_plain (P:=P) (w:=w) c.2 hb
    have p3:=Wr (w:=w) dp d
    have p4:=Iv dp g
    subst k
    simp only[Op.eqFields,l,dT,fX,jH,Sem.run_bind,p1,p2,p3,Result.andThen_ok]
    cases s<;>simp[p4]
  cases h
theorem WU{t:TypeId}{xs ys:Array Value}{r:Bool}(b:P.underlying t=some (.struct (P.fieldsOf t)))(a:P.stoodInHeld t=false)(h:BQ P xs ys (P.fieldsOf t).toList=some r):(Op.equal t (.agg xs) (.agg ys)).run P w= .ok r w:=by
 have e:Op.equal t (.agg xs) (.agg ys)=Op.equalIn (9999+1) t (.agg xs) (.agg ys):=rfl
 rw[e,run_equalIn_struct w 9999 t xs ys b a]
 exact Iv (w:=w) 9998 h
abbrev aY(x:Int×BA×BA):Value:= .agg #[.int .i64 x.1,.string x.2.1,.string x.2.2]
theorem DR{kt:TypeId}(c:P.underlying kt=some (.struct (P.fieldsOf kt)))(u:P.stoodInHeld kt=false)
  (d:∀a b:Int×BA×BA,BQ P #[.int .i64 a.1,.string a.2.1,.string a.2.2] #[.int .i64 b.1,.string b.2.1,.string b.2.2] (P.fieldsOf kt).toList=some ((a.1==b.1)&&((a.2.1.toList==b.2.1.toList)&&((a.2.2.toList==b.2.2.toList)&&true))))
  (t:∀(e:Bool) (a:Int×BA×BA),tQ P (Instr.checkKey e 10000 kt (aY a))=some ()):KeyOK P kt aY where
 find k ks es w h:=by
  have s:∀a b:Int×BA×BA,(Op.equal kt (aY a) (aY b)).run P w= .ok (decide (a=b)) w:=by
   intro a b
   rw[WU (w:=w) c u (d a b)]
   congr 1
   obtain⟨f,g,l⟩:=a
   obtain⟨n,o,p⟩:=b
   have tl:∀x y:BA,x.toList=y.toList->x=y:=λx y h=>by
    rw[ByteArray.toList_eq,ByteArray.toList_eq] at h
    exact Go.WideShapes.bytes_inj h
   simp only[Bool.and_true]
   rw[kA]
   simp only[jS,kG,j6,Prod.mk.injEq]
   exact⟨λh=>⟨h.1,tl _ _ h.2.1,tl _ _ h.2.2⟩,λh=>⟨h.1,by rw[h.2.1],by rw[h.2.2]⟩⟩
  have ask:∀(ks:List (Int×BA×BA)) (es:List MapEntry) (j:Nat),es.map (·.key)=ks.map aY->(Instr.findAsking kt (aY k) es j).run P w= .ok (yC k ks es j) w:=by
   intro ks
   induction ks with
   |nil=>intro es j h;cases es with
    |nil=>simp[Instr.findAsking,yC]
    |cons e es=>simp at h
   |cons k' ks q=>intro es j h;cases es with
    |nil=>simp at h
    |cons e es=>
     simp only[kQ,kV] at h
     simp only[Instr.findAsking,h.1,Sem.run_bind,s,Result.andThen_ok,yC]
     by_cases hk:k=k'
     .simp[hk]
     simp[hk,q es (j+1) h.2]
  cases es with
  |nil=>cases ks with
   |nil=>simp[Instr.findKey,run_underlying c,Instr.findNow,yC]
   |cons k' ks=>simp at h
  |cons e es=>
   have q:=h
   cases ks with
   |nil=>simp at h
   |cons k' ks=>
    simp only[kQ,kV] at h
    have r:Instr.findNow (.struct (P.fieldsOf kt)) (aY k) (e::es) 0=none:=by simp[Instr.findNow,h.1,Instr.sameNow]
    simp only[Instr.findKey,Sem.run_bind,run_underlying c,Result.andThen_ok,r]
    exact ask _ _ 0 q
 chk e a w:=BG (t e a) w
 stay a w:=by simp[Instr.keyThatStays,Instr.sameBits,XP]
 inj a b h:=by
  obtain⟨f,g,l⟩:=a
  obtain⟨n,o,p⟩:=b
  simp at h
  obtain⟨q,r,s⟩:=h
  subst q r s
  rfl
theorem YQ{t t2:TypeId}{x y:Operand}{xs ys:Array Value}(r:Bool)(e:eN ops L i=some (some d,.binOp .eql t x y t2))(c:Nat.blt d n=true)(k:bY L x=some (.agg xs))(l:bY L y=some (.agg ys))
  (g:P.underlying t=some (.struct (P.fieldsOf t))) (a:(P.stoodInHeld t,P.eqGuardType P.depth t)=(false,false)) (b:BQ P xs ys (P.fieldsOf t).toList=some r) (h:N ((d,.bool r)::L) w):iO P n ops Q i N L w:=by
 simp only[Prod.mk.injEq] at a
 refine oW e c (λq f=> ?_) h
 simp[execOp,f,cQ k,cQ l,eqGuard,a.2,binOp,WU g a.1 b]
theorem Ih{t t2:TypeId}{x y:Operand}{xs ys:Array Value}(r:Bool)(e:eN ops L i=some (some d,.binOp .neq t x y t2))(c:Nat.blt d n=true)(k:bY L x=some (.agg xs))(l:bY L y=some (.agg ys))
  (g:P.underlying t=some (.struct (P.fieldsOf t))) (a:(P.stoodInHeld t,P.eqGuardType P.depth t)=(false,false)) (b:BQ P xs ys (P.fieldsOf t).toList=some r) (h:N ((d,.bool (!r))::L) w):iO P n ops Q i N L w:=by
 simp only[Prod.mk.injEq] at a
 refine oW e c (λq f=> ?_) h
 simp[execOp,f,cQ k,cQ l,eqGuard,a.2,binOp,WU g a.1 b]
theorem Sf{m:Mem}{own:List Piece}{t e e' sz b k n' cap cap':Nat}{x:Operand}(S:eN ops L i=some (some d,.convert t t x))(K:Nat.blt d n=true)(Y:bY L x=some (.slice (some ⟨b,0,none⟩) k cap))
  (G:NG P t=some e) (st:St m (.room (some ⟨b,0,none⟩) n' cap' e' sz::own) w) (h:∀w',St m own w'->N ((d,.slice (some ⟨b,0,none⟩) k cap)::L) w'):iO P n ops Q i N L w:=by
 obtain⟨E,F⟩:=WW G
 obtain⟨_,_,_,_,⟨cur,a,_⟩,_⟩:=st.head
 have Z:=vA a
 have z:=st.head_ne (b:=b) rfl
 have l:=st.tail
 obtain⟨w',hw'⟩:∃w',w'=w.freeze ⟨b,cur.size,none⟩ 1:=⟨_,rfl⟩
 have B:w.shape? b=some (e',cur.size):=by unfold World.shape?;rw[a]
 have H:w'.heap[b]? =some (.cells cur e' (cur.size,cur.size+1)):=by
  rw[hw'];unfold World.freeze
  simp[Array.getElem?_modify,a]
 have ho':∀j,j≠b->w'.heap[j]? =w.heap[j]? :=λj M=>by
  rw[hw'];unfold World.freeze
  simp[Array.getElem?_modify,Ne.symm M]
 have U:Step w w':=by rw[hw'];unfold World.freeze;exact⟨⟨rfl,rfl⟩,rfl,oQ⟩
 have r:(convert t t (.slice (some ⟨b,0,none⟩) k cap)).run P w= .ok (.slice (some ⟨b,0,none⟩) k cap) w':=by
  simp[convert,run_underlying E,run_underlying F,markStringish,B,hw']
 have st':St m own w':=by
  refine⟨⟨λb' o v V=> ?_,λb' y s=> ?_,l.1.2.2.trans U⟩,λp A=>Piece.holds_keep (l.2.1 p A) λk R=>ho' k (λe=>z (MP.2 ⟨p,A,e▸R⟩)),l.2.2⟩
  .obtain⟨c,D,f,g,u⟩:=l.1.1 b' o v V
   by_cases hbb:b'=b
   .subst hbb
    rw[a] at g
    simp only[jJ,Obj.cells.injEq] at g
    obtain⟨rfl,_,_⟩:=g
    exact⟨_,_,_,H,u⟩
   exact⟨c,D,f,by rw[ho' b' hbb];exact g,u⟩
  have g:=l.1.2.1 b' y s
  by_cases hbb:b'=b
  .subst hbb
   have:=st.head.2.2.2.2.2.2
   rw[this] at s;cases s
  rw[ho' b' hbb];exact g
 refine oW S K (λq g=> ?_) (h w' st')
 simp[execOp,g,cQ Y,r]
end
end Go.Dc
end
namespace Go.Dc
section
open Go.ChangeShapes Go.WideShapes Go.ChangeAt Go.RowKit
class TabW(w:World):Prop where
 ht:∀p∈Ng,∃t f,w.heap[p.1]? =some (.cells p.2 t f)
instance tabW0(w:World):TabW w:=⟨λp a=>by cases a⟩
def xB(w:World)[TabW w]:Mem:={cell:=λb o=>w.cell? ⟨b,o,none⟩,obj:=λb=>w.heap[b]?,wd:=w,ht:=TabW.ht}
theorem La(w:World)[TabW w]:St (xB w) [] w:=by
 refine⟨⟨λb o v h=> ?_,λ_ _ h=>h,Step.refl w⟩,⟨λp a=>absurd a (gJ),hQ⟩⟩
 simp only[xB,World.cell?] at h
 split at h
 .rename_i c e f hb
  exact⟨_,_,_,hb,by simpa using h⟩
 cases h
theorem Wj{w w':World}[TabW w]{m':Mem}{own:List Piece}(a:Mem.le (xB w) m')(st:St m' own w'):
  w'.os=w.os/\w'.output=w.output/\∀(b:Nat) (x:Obj),w.heap[b]? =some x->w'.heap[b]? =some x:=by
 have c:=st.1.2.2
 have e:m'.wd=w:=a.2.2.symm
 rw[e] at c
 exact⟨c.1.1,c.1.2,λb x d=>st.1.2.1 b x (a.2.1 b x d)⟩
theorem qBw{w w':World}(a:w'.os=w.os)(c:w'.output=w.output)(d:∀(b:Nat) (x:Obj),w.heap[b]? =some x->w'.heap[b]? =some x)(may:MemPlace->Prop):w.keptBut w' may:=by
 refine⟨a,c,λi hi=> ?_⟩
 obtain⟨x,hx⟩:∃x,w.heap[i]? =some x:=⟨w.heap[i],by simp[hi]⟩
 rw[d i x hx,hx]
 cases x<;>simp
theorem qCy{w w':World}(c:∀(b:Nat) (x:Obj),w.heap[b]? =some x->w'.heap[b]? =some x){p:MemPlace}(d:p.block<w.heap.size):w.sameAt w' p:=by
 obtain⟨x,a⟩:∃x,w.heap[p.block]? =some x:=⟨w.heap[p.block],by simp[d]⟩
 cases p with
 |cell b off=>simp only[World.sameAt,World.cell?,MemPlace.block] at a ⊢;rw[c b x a,a]
 |map b=>simp only[World.sameAt,MemPlace.block] at a ⊢;rw[c b x a,a]
section
variable {H:Type} {enc:TypeId×Value->H} {P:Program}
theorem Dz{w w':World}{sp:Nat->Bool}{T:TypeId->Prop}(K:Kids P T)(l:∀{t e:TypeId},T t->P.underlying t=some (.slice e)->0<P.cellsOf e)
  (c:∀(b:Nat) (x:Obj),w.heap[b]? =some x->w'.heap[b]? =some x):∀{ts:List TypeId} {vs:List Value} {ds:List (DataW H)} {ps:List MemPlace},(∀t∈ts,T t)->
  DataW.TrodAll enc P w 0 (λ_=>true) true ts vs ds ps->(∀p∈ps,p.block<w.heap.size)->(∀p∈ps,sp p.block=true)->DataW.TrodAll enc P w' 0 sp true ts vs ds ps
 |[],[],[],_,_,h,_,_=>h
 |t::ts,v::vs,d::ds,ps,k,h,f,g=>by
  obtain⟨p,q,⟨fuel,n⟩,o,rfl⟩:=h
  exact⟨p,q,⟨fuel,DataW.trod_stays K l (λe=>by cases e) (k t (jR ..)) n (λx a=>qCy c (f x (gF _ a))) (λx a=>g x (gF _ a))⟩,
   Dz K l c (λu r=>k u (jU _ r)) o (λx a=>f x (List.mem_append_right _ a)) (λx a=>g x (List.mem_append_right _ a)),rfl⟩
 |[],_::_,_,_,_,h,_,_=>by simp[DataW.TrodAll] at h
 |[],[],_::_,_,_,h,_,_=>by simp[DataW.TrodAll] at h
 |_::_,[],_,_,_,h,_,_=>by simp[DataW.TrodAll] at h
 |_::_,_::_,[],_,_,h,_,_=>by simp[DataW.TrodAll] at h
theorem qAk{f:Func}{s:ChangeSpec}{apart fresh a:Bool}{W W':World}{args:Array Value}{ds gs:List (DataW H)}{before:List MemPlace}{tb:TypeId}{T:TypeId->Prop}[TabW W](K:Kids P T)
  (E:∀{t e:TypeId},T t->P.underlying t=some (.slice e)->0<P.cellsOf e) (u:∀t∈f.params.toList,T t)
  (D:f.resultTypes= #[tb]) (o:P.underlying tb=some .bool) (v:s.vars=[]) (b:s.fn H (ds++gs)={results:=[.lit (.bool true)],args:=ds})
  (l:DataW.Whole enc P f.params.toList s.vars apart W args.toList ds gs before) {m':Mem} {own:List Piece} (n:Mem.le (xB W) m') (st:St m' own W'):
  s.post enc P f apart fresh a false W args (.bool true) W':=by
 obtain⟨y,z,k⟩:=Wj n st
 have hW':=l
 obtain⟨p,q,A,h,rfl,F,G⟩:=l
 have d:∀x∈p++q,x.block<W.heap.size:=λx c=>hW'.lt x c
 rw[v] at h
 have B:q=[]:=by
  cases gs with
  |nil=>exact h
  |cons g r=>simp[DataW.TrodVars] at h
 subst B
 refine⟨ds,gs,_,[],p,[],hW',?_,?_,?_,qBw y z k _,λe=>by cases e⟩
 .rw[b,D]
  exact⟨[],[],⟨1,by simp[DataW.trod,Value.cells,o]⟩,rfl,rfl⟩
 .rw[b]
  exact Dz K E k u A (λx c=>d x (gF _ c)) (λx c=>by simpa using d x (gF _ c))
 rw[b,v];rfl
def US{α:Type}(P:Program)(W:World)[TabW W](t:TypeId)(c:Codec α)(good:α->Prop):Prop:=
 P.cellsOf t=c.sz/\∀(H:Type) (enc:TypeId×Value->H) (n:Nat) (cs:List Value) (x:DataW H×List MemPlace),DataW.trod enc P W 0 (λ_=>true) true n t cs=some x->
  (x.1.weights P t).all (· <=reachBytes)=true->∃a,c.rep (xB W) a cs/\good a
variable {W:World} [TabW W]
theorem Xs{t:TypeId}{k:IntKind}(b:P.underlying t=some (.int k))(a:P.cellsOf t=1):US P W t (aG k) (λx=>(Lit.int k x).wf=true):=by
 refine⟨a,λH enc n cs x h _=> ?_⟩
 obtain⟨i,rfl,_,c⟩:=DataW.trod_int b h
 exact⟨i,rfl,c⟩
theorem Cy{H:Type}{e:TypeId}:∀{ds:List (DataW H)},(DataW.weightsAll P e ds).all (· <=reachBytes)=true->∀d∈ds,(d.weights P e).all (· <=reachBytes)=true
 |[],_,_,b=>by cases b
 |d::r,h,x,a=>by
  simp only[DataW.weightsAll,List.all_append,jS] at h
  rcases jK.1 a with rfl|a
  .exact h.1
  exact Cy h.2 x a
theorem qBu{a:Addr}{cs:List Value}{k n:Nat}(h:W.cells? 0 (a.add k) n=some cs)(c:a.spot=none):MRow (xB W) a.block (a.off+k) cs:=by
 obtain⟨_,f,d⟩:=World.cells?_some h
 intro j v b
 have e:j<n:=by rw[<-f];exact(List.getElem?_eq_some_iff.1 b).1
 have:=d j e
 rw[b,Go.Addr.add_add,HH c] at this
 simpa[xB,fL] using this
theorem Lo{α:Type}{Q:Nat->α->List Value->Prop}:∀{n:Nat},(∀i,i<n->∃y cs,Q i y cs)->∃l:List α,l.length=n/\∀i x,l[i]? =some x->∃cs,Q i x cs
 |0,_=>⟨[],rfl,λi x h=>by simp at h⟩
 |n+1,h=>by
  obtain⟨l,b,c⟩:=Lo (n:=n) (λi hi=>h i aa)
  obtain⟨y,cs,d⟩:=h n aa
  refine⟨l++[y],by simp[b],λi x a=> ?_⟩
  rw[List.getElem?_append] at a
  split at a
  .exact c i x a
  rename_i hi
  have:i=n:=by
   have:=(List.getElem?_eq_some_iff.1 a).1
   simp at this;omega
  subst this
  simp[b] at a
  subst a
  exact⟨cs,d⟩
theorem Ur{α:Type}{c:Codec α}{good:α->Prop}{t e:TypeId}{by_:Nat}(D:P.underlying t=some (.slice e))(K:P.cellsOf t=1)(G:P.bytesOf e=by_)(p:US P W e c good):
  US P W t (CB c) (λl=>l.length*by_<=reachBytes/\∀x∈l,good x):=by
 refine⟨K,λH enc n cs x h E=> ?_⟩
 rcases DataW.trod_slice D h with ⟨rfl,rfl⟩|⟨a,len,cap,elems,rest,n',rfl,rfl,rfl,_,M,R,s,v,_,_⟩
 .exact⟨[],⟨none,0,rfl,RepS.nil _ _⟩,by simp,by simp⟩
 simp only[DataW.weights,D,List.all_cons,List.all_append,jS,j6] at E
 obtain⟨k,F,_⟩:=E
 have key:∀i,i<len->∃y cs',W.cells? 0 (a.add (i*P.cellsOf e)) (P.cellsOf e)=some cs'/\c.rep (xB W) y cs'/\good y:=by
  intro i hi
  have b:=v i hi
  obtain⟨el,hel'⟩:∃el,elems[i]? =some el:=⟨elems[i]' aa,by simp⟩
  rw[hel'] at b
  obtain⟨cs',f,r⟩:=jQ.1 b
  obtain⟨y,g,d⟩:=p.2 H enc n' cs' el r (Cy F el.1 (gL (gY hel')))
  exact⟨y,cs',f,g,d⟩
 obtain⟨l,z,g⟩:=Lo key
 subst z
 refine⟨l,⟨some a,cap,rfl,M,R,?_,λi x q=> ?_⟩,⟨?_,λx q=> ?_⟩⟩
 .cases l with
  |nil=>exact .inr rfl
  |cons y l=>
   obtain⟨cs',f,_⟩:=g 0 y rfl
   obtain⟨_,A,b⟩:=World.cells?_some f
   have u:=p.1▸c.pos
   have d:=b 0 u
   have o:0<cs'.length:=by omega
   rw[List.getElem?_eq_getElem o] at d
   simp only[Nat.zero_mul,Addr.add,jH] at d
   exact .inl (World.cell?_spot d)
 .obtain⟨cs',f,r,_⟩:=g i x q
  have B:a.spot=none:=by
   cases l with
   |nil=>simp at q
   |cons y l=>
    obtain⟨cs',f,_⟩:=g 0 y rfl
    obtain⟨_,A,b⟩:=World.cells?_some f
    have u:=p.1▸c.pos
    have d:=b 0 u
    have o:0<cs'.length:=by omega
    rw[List.getElem?_eq_getElem o] at d
    simp only[Nat.zero_mul,Addr.add,jH] at d
    exact World.cell?_spot d
  exact⟨cs',r,p.1▸qBu f B⟩
 .rw[G] at k
  simp only[gN] at k
  rw[s] at k
  exact gC (kW _ (Nat.le_add_right _ _)) k
 obtain⟨i,hi⟩:=List.mem_iff_getElem?.1 q
 obtain⟨cs',_,_,b⟩:=g i x hi
 exact b
variable {base:Nat} {t:TypeId} {v:Value} {d:DataW H} {ps:List MemPlace}
theorem Ys{α:Type}{c:Codec α}{good:List α->Prop}{e:TypeId}(p:P.underlying t=some (.slice e))(k:US P W t (CB c) good)(b:Value.okWide P W .any base t v)(h:DataW.Trod enc P W 0 (λ_=>true) true t v d ps)
  (q:(d.weights P t).all (· <=reachBytes)=true):∃(l:List α) (a:Option Addr) (cap:Nat),v= .slice a l.length cap/\RepS c (xB W) a cap l/\good l:=by
 obtain⟨a,len,cap,rfl⟩:=okWide_slice p b
 obtain⟨n,h⟩:=h
 obtain⟨l,⟨a',cap',f,o⟩,g⟩:=k.2 H enc n _ _ h q
 simp only[Value.cells,kV,Value.slice.injEq,and_true] at f
 obtain⟨rfl,rfl,rfl⟩:=f
 exact⟨l,_,_,rfl,o,g⟩
end
def Lm(P:Program):Bool:=(List.range P.types.size).all λt=>match P.underlying t with
 |some (.slice e)=>Nat.blt 0 (P.cellsOf e)
 |_=>true
theorem Xe{P:Program}(h:Lm P=true){t e:TypeId}(b:t<P.types.size)(a:P.underlying t=some (.slice e)):0<P.cellsOf e:=by
 have:=jW.1 h t (fR.2 b)
 rw[a] at this
 simp only at this
 exact kY this
end
section
theorem bP{x:Int}(a: -9223372036854775808<=x)(b:x<=9223372036854775807):wI x=x:=by simp[wI,IntKind.wrap,IntKind.signed,IntKind.bits];omega
theorem wu8{x:Int}(a:0<=x)(b:x<=255):IntKind.wrap .u8 x=x:=by simp[wI,IntKind.wrap,IntKind.signed,IntKind.bits];omega
theorem Xh(x:Int):IntKind.wrap .u64 x=x%18446744073709551616:=by simp[wI,IntKind.wrap,IntKind.signed,IntKind.bits]
theorem YY{α:Type}{l:List α}{i:Int}(a:0<=i)(h:i.toNat<l.length):bC l i=some l[i.toNat]:=by simp[bC,a,h]
theorem eZ{α:Type}{l:List α}{i:Nat}(h:i<l.length):bC l (i:Int)=some l[i]:=by simp[bC,h]
theorem ZN{s:BA}{i:Nat}(h:i<s.size):lH s (i:Int)=some s[i]:=by simp[lH,h]
theorem lQ{α:Type}{b:Nat}{l k:List α}(h:(l.length+k.length)*b<=140737488355328)(a:0<b):iK b l k=some (l++k):=by
 have:l.length+k.length<=maxLen:=by
  have:(l.length+k.length)*1<=(l.length+k.length)*b:=Nat.mul_le_mul_left _ a
  simp only[maxLen];omega
 simp[iK,h,this]
theorem Yh{α:Type}{l:List α}{lo hi:Int}(a:0<=lo)(b:lo<=hi)(c:hi<=l.length):IP l lo hi=some ((l.take hi.toNat).drop lo.toNat):=by simp[IP,a,b,c]
theorem MR{l:BA}{lo hi:Int}(a:0<=lo)(b:lo<=hi)(c:hi<=l.size):pJ l lo hi=some (l.extract lo.toNat hi.toNat):=by simp[Jn,a,b,c]
theorem ZA{σ β:Type}{f:σ->Option (σ⊕β)}(I:σ->Prop)(μ:σ->Nat)(R:β->Prop)
  (h:∀s,I s->(∃b,f s=some (.inr b)/\R b)\/∃s',f s=some (.inl s')/\I s'/\μ s'<μ s):∀(N:Nat) (s:σ),I s->μ s<N->∃b,aC f N s=some b/\R b
 |0,_,_,d=>absurd d (kS _)
 |N+1,s,k,d=>by
  rcases h s k with ⟨b,a,c⟩|⟨s',a,c,l⟩
  .exact⟨b,by simp[aC,a],c⟩
  obtain⟨b,e,g⟩:=ZA I μ R h N s' c aa
  exact⟨b,by simp[aC,a,e],g⟩
end
end Go.Dc
section
namespace Go.Dc
def ab(a:Option Addr):Nat:=match a with|some p=>p.block|none=>0
def cT(a:Option Addr)(cs:Array Value)(e:TypeId):Piece:=match a with
 |none=> .room none 0 0 0 0
 |some p=> .blk p.block (.cells cs e (0,0))
def bM{α:Type}(f:α->List Value)(l:List α)(T:List Value):Array Value:=(l.flatMap f++T).toArray
def OAS(a:Option Addr)(n cap k:Nat)(T:List Value):Prop:=
 n<=cap/\cap<=maxLen/\match a with
  |none=>cap=0
  |some p=>p=⟨p.block,0,none⟩/\n*k+T.length=cap*k
theorem OAS.cast{α:Type}{a:Option Addr}{nn cap k:Nat}{T:List Value}{l:List α}(h:OAS a nn cap k T)(b:List.length l=nn):OAS a (List.length l) cap k T:=by rw[b];exact h
theorem OAS.nil(k:Nat):OAS none 0 0 k []:=⟨jN _,kK _,rfl⟩
theorem vZ{α:Type}{f:α->List Value}{k:Nat}(a:∀x,(f x).length=k):∀l:List α,(l.flatMap f).length=l.length*k
 |[]=>by simp
 |x::l=>by simp[kX,a,vZ a l,kN,fU]
theorem HL{α:Type}{f:α->List Value}{k:Nat}(a:∀x,(f x).length=k):∀(l:List α) (i:Nat) (z:α) (j:Nat),l[i]? =some z->j<k->(l.flatMap f)[i*k+j]? =(f z)[j]?
 |[],i,z,j,h,_=>by simp at h
 |x::l,0,z,j,h,b=>by
  simp at h;subst h
  simp[kX,List.getElem?_append,a,b]
 |x::l,i+1,z,j,h,b=>by
  have:=HL a l i z j (by simpa using h) b
  rw[kX,List.getElem?_append_right (by rw[a,kN];omega),a]
  have e:(i+1)*k+j-k=i*k+j:=by rw[kN];omega
  rw[e];exact this
theorem Ji{α:Type}{f:α->List Value}{k:Nat}(a:∀x,(f x).length=k):∀(l:List α) (i:Nat) (z u:α),l[i]? =some z->
  (l.set i u).flatMap f=(l.flatMap f).take (i*k)++f u++(l.flatMap f).drop (i*k+k)
 |[],i,z,u,h=>by simp at h
 |x::l,0,z,u,h=>by
  rw[List.set_cons_zero,kX,kX,Nat.zero_mul,gA,List.take_zero,kH]
  rw[hZ,jO (by rw[a];exact jN _),a]
  simp
 |x::l,i+1,z,u,h=>by
  have:=Ji a l i z u (by simpa using h)
  simp only[List.set_cons_succ,kX,this]
  have b:(i+1)*k=(f x).length+i*k:=by rw[kN,a];omega
  have c:(i+1)*k+k=(f x).length+(i*k+k):=by omega
  rw[c,b,List.take_length_add_append,List.drop_length_add_append]
  simp[kU]
section
variable {P:Program} {n:Fr} {ops:Array Oper} {Q:Exit->Act->World->Prop} {i d:Nat} {L:bF} {w:World} {m:Mem} {own:List Piece} {N:bF->World->Prop}
variable {α:Type} {f:α->List Value}
theorem OAS.some{a:Option Addr}{nn cap k:Nat}{T:List Value}(h:OAS a nn cap k T){l:List α}(f:List.length l=nn){j:Nat}(e:j<l.length):a=Option.some ⟨ab a,0,none⟩:=by
 obtain⟨c,d,b⟩:=h
 cases a with
 |none=>simp only at b;omega
 |some p=>simp only at b;exact kF Option.some b.1
theorem YX{a:Option Addr}{b:Nat}{cs:Array Value}{e:TypeId}(h:a=some ⟨b,0,none⟩):cT a cs e= .blk b (.cells cs e (0,0)):=by subst h;rfl
theorem UK{l:List α}{ix:Int}{z:α}(h:bC l ix=some z):0<=ix/\l[ix.toNat]? =some z/\ix.toNat<l.length:=by
 unfold bC at h
 split at h
 .rename_i h0;exact⟨h0,h,(List.getElem?_eq_some_iff.1 h).1⟩
 cases h
theorem Di{t e:TypeId}{x y:Operand}{a:Option Addr}{nn cc k:Nat}{T:List Value}{l:List α}{kd:IntKind}{ix:Int}{z:α}(v:eN ops L i=some (some d,.indexAddr t x y))(s:Nat.blt d n=true)
  (c:bY L x=some (.slice a nn cc)) (D:bY L y=some (.int kd ix)) (hi:tY P t=some (e,k)) (B:OAS a nn cc k T) (u:List.length l=nn) (E:bC l ix=some z)
  (h:N ((d,.pointer (some ⟨ab a,ix.toNat*k,none⟩))::L) w):iO P n ops Q i N L w:=by
 obtain⟨g,inf,o,p⟩:=BC hi
 obtain⟨f,_,b⟩:=UK E
 have r:=B.some u b
 refine oW v s (λq A=> ?_) h
 have hlt':ix<(nn:Int):=by omega
 rw[r] at c
 simp[execOp,A,Instr.indexAt,cQ c,cQ D,asIntOf,run_underlying g,f,hlt',sizeOf,typeInfo,o,p,BF]
theorem Dk{t e:TypeId}{x y:Operand}{a:Option Addr}{nn cc k:Nat}{l:List α}{T:List Value}{ix:Int}{z u:α}{o:Nat}{v:Value}(g:∀x,(f x).length=k)(po:Nat)(D:po=ix.toNat*k+o)(S:eN ops L i=some (none,.store t x y))
  (Y:bY L x=some (.pointer (some ⟨ab a,po,none⟩))) (Z:bY L y=some v) (st:St m (cT a (bM f l T) e::own) w) (U:OAS a nn cc k T) (R:List.length l=nn) (hz:bC l ix=some z) (d:BH P t v o k=true)
  (V:f u=(f z).take o++v.cells.toList++(f z).drop (o+v.cells.toList.length))
  (h:∀w',St m (cT a (bM f (l.set ix.toNat u) T) e::own) w'->N L w'):iO P n ops Q i N L w:=by
 obtain⟨h0,hz',s⟩:=UK hz
 have B:=U.some R s
 subst D
 rw[YX B] at st
 have c:=vZ g l
 unfold BH at d
 cases hi:P.info? t with
 |none=>simp[hi] at d
 |some inf=>
  simp only[hi,jS] at d
  obtain⟨⟨G,H⟩,K⟩:=d
  have h1':=fH G
  have h2':=kY H
  have a1:ix.toNat*k+k<=l.length*k:=by
   have:=kW k (show ix.toNat+1<=l.length from s)
   rw[kN,dB] at this;exact this
  have a2:v.cells.toList.length=v.cells.size:=by simp
  have E:ix.toNat*k+o+v.cells.toList.length<=(bM f l T).size:=by
   simp only[bM,jT,jG,c];omega
  have b:=run_storeCells_at P (ab a) (ix.toNat*k+o) e v.cells.toList 0 (bM f l T) w st.head.1 (by simpa using E) (Fl K)
  simp only[gZ] at b
  have A:((bM f l T).toList.take (ix.toNat*k+o)++v.cells.toList++(bM f l T).toList.drop (ix.toNat*k+o+v.cells.toList.length)).toArray=bM f (l.set ix.toNat u) T:=by
   apply kF List.toArray
   simp only[bM,dC]
   rw[Ji g l ix.toNat z u hz',V]
   have M:(l.flatMap f).take (ix.toNat*k+o)=(l.flatMap f).take (ix.toNat*k)++(f z).take o:=by
    apply dN
    intro j
    rw[List.getElem?_take,List.getElem?_append]
    simp only[gQ,c]
    split
    .rename_i p
     split
     .rename_i hj2;rw[List.getElem?_take,jB aa]
     rename_i hj2
     rw[List.getElem?_take,jB aa]
     have r:=HL g l ix.toNat z (j-ix.toNat*k) hz' aa
     have F:ix.toNat*k+(j-ix.toNat*k)=j:=by omega
     rw[F] at r
     rw[r];congr 1;omega
    rename_i p
    rw[jA aa,List.getElem?_take,jA aa]
   have F:(l.flatMap f).drop (ix.toNat*k+o+v.cells.toList.length)=(f z).drop (o+v.cells.toList.length)++(l.flatMap f).drop (ix.toNat*k+k):=by
    apply dN
    intro j
    rw[List.getElem?_drop,List.getElem?_append]
    simp only[kO,g]
    split
    .rename_i p
     rw[List.getElem?_drop]
     have r:=HL g l ix.toNat z (o+v.cells.toList.length+j) hz' aa
     rw[<-r];congr 1;omega
    rename_i p
    rw[List.getElem?_drop];congr 1;omega
   rw[kM (by rw[c];omega),gB (by rw[c];omega),M,F]
   simp only[kU]
  rw[A] at b
  have st':=st.set (w':=w.setRow (ab a) (bM f (l.set ix.toNat u) T)) (o':= .cells (bM f (l.set ix.toNat u) T) e (0,0)) ⟨⟨rfl,rfl⟩,rfl,oQ⟩ (setRow_heap w (ab a) (bM f l T) _ e _ st.head.1) (λj _ p=>setRow_other w (ab a) j _ p)
  rw[<-YX (cs:=bM f (l.set ix.toNat u) T) (e:=e) B] at st'
  refine DI S (λq r=> ?_) (h (w.setRow (ab a) (bM f (l.set ix.toNat u) T)) st')
  simp[execOp,r,Instr.storeAt,cQ Y,cQ Z,Instr.sureAddr,storeVar,sizeOf,typeInfo,hi,h1',b]
theorem St.freezeM{c:Codec α}{a:Option Addr}{e nn cc:Nat}{l:List α}{T:List Value}(st:St m (cT a (bM f l T) e::own) w)(G:OAS a nn cc c.sz T)(E:List.length l=nn)(r:∀x,(f x).length=c.sz)(D:∀m x,c.rep m x (f x)):
  ∃m',m.le m'/\St m' (.room a (List.length l) cc e c.sz::own) w/\RepS c m' a cc l:=by
 obtain⟨V,t,g⟩:=G
 cases a with
 |none=>
  simp only at g
  have d:l=[]:=kC aa
  subst d;subst g
  exact⟨m,m.le_refl,st.tail.nilroom e c.sz,RepS.nil c m⟩
 |some p=>
  simp only at g
  obtain⟨y,B⟩:=g
  obtain⟨b,o,s⟩:=p
  simp only[Addr.mk.injEq,true_and] at y
  obtain⟨rfl,rfl⟩:=y
  have n:=vZ r l
  have z:(bM f l T).toList.take (l.flatMap f).length=l.flatMap f:=by simp[bM]
  have d:St m (.blk b (.cells (bM f l T) e (0,0))::own) w:=st
  obtain⟨m',K,M,R,S,U,Y⟩:=St.know (b:=b) (cs:=l.flatMap f) d.tail (d.head_ne rfl) d.head.1 z (λo v A=>by rw[d.head.2.1 o] at A;cases A)
  have h:(bM f l T).size=cc*c.sz:=by simp[bM,n,E,B]
  refine⟨m',K,M.cons ⟨rfl,rfl,by omega,t,⟨_,d.head.1,h⟩,λo F=>S o (by rw[n];exact F),by rw[U];exact d.head.2.2⟩ ?_,?_⟩
  .intro k u;simp[Piece.block] at u;subst u;exact d.head_ne rfl
  exact RepS.of_cells (cs:=l.flatMap f) aa t (λj x H=>by
   have u:((l.flatMap f).drop (j*c.sz)).take c.sz=f x:=by
    apply dN
    intro q
    rw[List.getElem?_take]
    split
    .rename_i hq
     rw[List.getElem?_drop,HL r l j x q H hq]
    rename_i hq;rw[List.getElem?_eq_none (by rw[r];omega)]
   rw[u];exact D m' x) R
variable {ks:List (Nat×(World->Prop))} {k fuel:Nat} {S:World->Prop} {done:List Nat}
theorem qEk{t t2:TypeId}{x y:Operand}{a b r:BA}(i d:Nat)(o:eN ops L i=some (some d,.binOp .add t x y t2))(l:Nat.blt d n=true)
  (p:pE ops ks k i done=true) (f:(k,S)∈ks) (g:QP Q) (s:bY L x=some (.string a)) (u:bY L y=some (.string b)) (c:eO a b=some r)
  (h:WA P n ops Q ks fuel (done++[i]) ((d,.string r)::L) w):WA P n ops Q ks (fuel+1) done L w:=by
 unfold eO at c
 split at c
 .rename_i hb
  simp only[jJ] at c;subst c
  refine DK i d _ _ o l p f g (λq g w' _=> ?_) h
  have e:IntKind.i64.max=9223372036854775807:=by decide
  have hb':¬(9223372036854775807<(a.size:Int)+(b.size:Int)):=by simp only[maxLen] at hb;omega
  simp[execOp,g,cQ s,cQ u,eqGuard,binOp,Op.stringOp,e,hb']
 cases c
theorem qZ(is:List Nat)(f:Region.ready .any ops (marks done ops.size)=is)(e:is≠[])
  (h:∀i∈is,iO P n ops Q i (λL' w'=>TS ks (marks (done++[i]) ops.size) w'/\WA P n ops Q ks fuel (done++[i]) L' w') L w):WA P n ops Q ks (fuel+1) done L w:=by
 intro _ a l
 refine⟨λc=>(by rw[f] at c;exact absurd c e),λj d=> ?_⟩
 rw[f] at d
 refine TK (λa' w' h'=> ?_) (h j d a l)
 obtain⟨L',g,b,k⟩:=h'
 have:=k b a' g
 rw[HE] at b
 rw[HE] at this
 exact⟨b,this⟩
theorem rW{p:Nat->Prop}{a b:Nat}(c:p a)(d:p b):∀i∈[a,b],p i:=by
 intro i hi;simp only[jK,gJ,dQ] at hi
 rcases hi with rfl|rfl<;>assumption
theorem Yu{p:Nat->Prop}{a b c:Nat}(d:p a)(e:p b)(f:p c):∀i∈[a,b,c],p i:=by
 intro i hi;simp only[jK,gJ,dQ] at hi
 rcases hi with rfl|rfl|rfl<;>assumption
theorem SO{q:Nat}{S:World->Prop}{t e:TypeId}{x y:Operand}{a:Option Addr}{nn cc k:Nat}{T:List Value}{l:List α}{kd:IntKind}{ix:Int}{z:α}(i d:Nat)(D:eN ops L i=some (some d,.indexAddr t x y))(A:Nat.blt d n=true)
  (g:pE ops ks q i done=true) (b:(q,S)∈ks) (c:QP Q)
  (o:bY L x=some (.slice a nn cc)) (F:bY L y=some (.int kd ix)) (hi:tY P t=some (e,k)) (E:OAS a nn cc k T) (B:List.length l=nn) (G:bC l ix=some z)
  (h:WA P n ops Q ks fuel (done++[i]) ((d,.pointer (some ⟨ab a,ix.toNat*k,none⟩))::L) w):WA P n ops Q ks (fuel+1) done L w:=by
 obtain⟨r,inf,s,u⟩:=BC hi
 obtain⟨p,_,f⟩:=UK G
 have v:=E.some B f
 refine DK i d _ _ D A g b c (λq c w' _=> ?_) h
 have hlt':ix<(nn:Int):=by omega
 rw[v] at o
 simp[execOp,c,Instr.indexAt,cQ o,cQ F,asIntOf,run_underlying r,p,hlt',sizeOf,typeInfo,s,u,BF]
theorem SQ{q:Nat}{S:World->Prop}{t e:TypeId}{x:Operand}{a:Option Addr}{nn cc k:Nat}{l:List α}{T:List Value}{ix:Int}{z:α}{o:Nat}{v:Value}(i d:Nat)(y:∀x,(f x).length=k)(po:Nat)(E:po=ix.toNat*k+o)(V:eN ops L i=some (some d,.load t x))(M:Nat.blt d n=true)
  (F:pE ops ks q i done=true) (p:(q,S)∈ks) (r:QP Q) (G:∀w,S w->Piece.holds m w (cT a (bM f l T) e))
  (hx:bY L x=some (.pointer (some ⟨ab a,po,none⟩))) (Y:OAS a nn cc k T) (U:List.length l=nn) (hz:bC l ix=some z) (Z:tL P t ((f z).drop o)=some v)
  (h:WA P n ops Q ks fuel (done++[i]) ((d,v)::L) w):WA P n ops Q ks (fuel+1) done L w:=by
 obtain⟨h0,hz',B⟩:=UK hz
 have H:=Y.some U B
 subst E
 refine DK i d _ _ V M F p r (λq r w' hw'=> ?_) h
 have D:=G w' hw'
 rw[YX H] at D
 have K:=D.1
 have R:=HG (P:=P) (w:=w') (t:=t) (b:=ab a) (o:=ix.toNat*k+o) (cs:=(f z).drop o) (v:=v) (λj u s=>by
  rw[List.getElem?_drop] at s
  have A:o+j<k:=by rw[<-y z];exact(List.getElem?_eq_some_iff.1 s).1
  have c:=HL y l ix.toNat z (o+j) hz' A
  rw[s] at c
  have g:=(List.getElem?_eq_some_iff.1 c).1
  simp only[World.cell?,K,bM,List.getElem?_toArray]
  have e:ix.toNat*k+o+j=ix.toNat*k+(o+j):=by omega
  rw[e,List.getElem?_append_left g]
  simpa using c) Z
 simp[execOp,r,Instr.loadAt,cQ hx,Instr.sureAddr,R]
theorem Ug{c:Codec α}(g:∀m x cs,c.rep m x cs->cs=f x){k:List α}{cs:List Value}(b:cs.length=k.length*c.sz)(a:∀i y,k[i]? =some y->c.rep m y ((cs.drop (i*c.sz)).take c.sz)):cs=k.flatMap f:=by
 induction k generalizing cs with
 |nil=>simp at b;subst b;rfl
 |cons x k n=>
  have d:=g _ _ _ (a 0 x rfl)
  simp only[Nat.zero_mul,jX] at d
  have h:=n (cs:=cs.drop c.sz) (by simp only[kO,b,jC,kN];omega) (λi y l=>by
   have:=a (i+1) y (by simpa using l)
   rw[List.drop_drop]
   have e:c.sz+i*c.sz=(i+1)*c.sz:=by rw[kN];omega
   rw[e];exact this)
  rw[kX,<-d,<-h,List.take_append_drop]
theorem ZK{a:Option Addr}{e sz:Nat}(st:St m (.room a 0 0 e sz::own) w):St m (cT a (bM f [] []) e::own) w:=by
 cases a with
 |none=>exact st.tail.nilroom 0 0
 |some p=>
  obtain⟨l,n,q,r,⟨cur,d,s⟩,g,h⟩:=st.head
  have b:cur=bM f [] []:=by
   have:cur.size=0:=by omega
   rw[Array.size_eq_zero_iff.1 this];rfl
  refine st.tail.cons ⟨by rw[d,b],⟨λo=>g o aa,h⟩⟩ ?_
  intro k c
  have hk':some p.block=some k:=c
  simp only[jJ] at hk';subst hk'
  exact st.head_ne rfl
end
theorem qAi{m m':Mem}{w:World}{a:Option Addr}{cs:Array Value}{e:TypeId}(h:Piece.holds m' w (cT a cs e))(b:m.le m'):Piece.holds m w (cT a cs e):=by
 cases a with
 |none=>exact h
 |some p=>exact Piece.holds_anti (o:= .cells cs e (0,0)) h b
section
variable {P:Program} {n:Fr} {ops:Array Oper} {Q:Exit->Act->World->Prop} {L:bF} {w:World}
theorem aD{id:Nat}{y:Code}(h:WO P n ops (Exit.then (λa w=>y.wpIn (lX none) 0 P Q a w) Q) 0 L w):W none P n (.seq (.region id ops false) y) Q L w:=aJ (nO h)
theorem Bf{i:Nat}{ρ:Option Nat}{y:Code}(hi:ops.size=i)(h:W ρ P n y Q L w):WO P n ops (Exit.then (λa w=>y.wpIn (lX ρ) 0 P Q a w) Q) i L w:=Mg hi (aV h)
end
end Go.Dc
end
section
namespace Go.Dc
section
variable {P:Program} {n:Fr} {ops:Array Oper} {Q:Exit->Act->World->Prop} {i d:Nat} {L:bF} {w:World} {m:Mem} {own:List Piece} {N:bF->World->Prop}
def tB(a:Option Addr)(cap l k:Nat):Option Addr:=if cap=l then a else a.map λp=>p.add (l*k)
theorem qAb{b o cap l k:Nat}(h:l<cap):tB (some ⟨b,o,none⟩) cap l k=some ⟨b,o+l*k,none⟩:=by
 unfold tB;rw[jA aa];simp[BF]
theorem Wt{t e k:Nat}{x:Operand}{lo hi:Option Operand}{a:Option Addr}{nn cap:Nat}{li hix:Int}(g:bY L x=some (.slice a nn cap))(v:tY P t=some (e,k))
  (p:(lo=none/\li=0)\/∃y kd,lo=some y/\bY L y=some (.int kd li)) (n:(hi=none/\hix=nn)\/∃y kd,hi=some y/\bY L y=some (.int kd hix)) (h:0<=li) (u:li<=hix) (l:hix<=cap) (q:Oper) (f:q.op= .slice t x lo hi none) (w:World):
  (execOp (oR L) q).run P w= .ok (.value (.slice (tB a cap li.toNat k) (hix.toNat-li.toNat) (cap-li.toNat))) w:=by
 obtain⟨b,inf,c,d⟩:=BC v
 have r:0<=hix:=by omega
 have o:li<=max hix 0:=by omega
 rcases p with ⟨rfl,rfl⟩|⟨y,kd,rfl,s⟩<;>rcases n with ⟨rfl,rfl⟩|⟨y',kd',rfl,hy'⟩
 .simp[execOp,f,Instr.sliceAt,Instr.slice,Instr.sliceBounds,run_underlying b,cQ g,sizeOf,typeInfo,c,d,tB]
 .simp[execOp,f,Instr.sliceAt,Instr.slice,Instr.sliceBounds,Instr.sliceBound,asIntOf,run_underlying b,cQ g,cQ hy',r,l,sizeOf,typeInfo,c,d,tB]
 .have:li<=(nn:Int):=u
  simp[execOp,f,Instr.sliceAt,Instr.slice,Instr.sliceBounds,Instr.sliceBound,asIntOf,run_underlying b,cQ g,cQ s,h,this,sizeOf,typeInfo,c,d,tB]
 simp[execOp,f,Instr.sliceAt,Instr.slice,Instr.sliceBounds,Instr.sliceBound,asIntOf,run_underlying b,cQ g,cQ s,cQ hy',r,l,h,o,sizeOf,typeInfo,c,d,tB]
theorem Yd{ks:List (Nat×(World->Prop))}{q fuel:Nat}{S:World->Prop}{done:List Nat}{t e k:Nat}{x:Operand}{lo hi:Option Operand}{a:Option Addr}{nn cap:Nat}{li hix:Int}(i d:Nat)(v:Value)(c:eN ops L i=some (some d,.slice t x lo hi none))(z:Nat.blt d n=true)
  (l:pE ops ks q i done=true) (b:(q,S)∈ks) (A:QP Q) (D:bY L x=some (.slice a nn cap)) (u:tY P t=some (e,k))
  (g:(lo=none/\li=0)\/∃y kd,lo=some y/\bY L y=some (.int kd li)) (f:(hi=none/\hix=nn)\/∃y kd,hi=some y/\bY L y=some (.int kd hix)) (p:0<=li) (r:li<=hix) (s:hix<=cap) (B: .slice (tB a cap li.toNat k) (hix.toNat-li.toNat) (cap-li.toNat)=v)
  (h:WA P n ops Q ks fuel (done++[i]) ((d,v)::L) w):WA P n ops Q ks (fuel+1) done L w:=by
 subst B
 exact DK i d _ _ c z l b A (λo c w' _=>Wt D u g f p r s o c w') h
theorem Ig{b o k nn cap sl:Nat}{C:Array Value}{e:TypeId}{S:List Value}(d:w.heap[b]? =some (.cells C e (0,0)))(c:(C.toList.drop o).take (nn*k)=S)(f:S.length=nn*k):
  (Builtin.firstCells k nn (.slice (some ⟨b,o,none⟩) sl cap)).run P w= .ok S.toArray w:=by
 refine run_firstCells_some w k nn ⟨b,o,none⟩ sl cap S f λj v a=> ?_
 rw[<-c,List.getElem?_take] at a
 split at a
 .rw[List.getElem?_drop] at a
  rw[BF]
  simp only[World.cell?,d]
  simpa using a
 cases a
theorem Xu{t u e k:Nat}{x y:Operand}{b o dl dc sl sc:Nat}{a:Option Addr}{C:Array Value}{c:TypeId}(S C':List Value)(G:eN ops L i=some (some d,.call {callee:= .builtin .copy,args:= #[x,y],argTypes:= #[t,u]}))(E:Nat.blt d n=true)
  (H:bY L x=some (.slice (some ⟨b,o,none⟩) dl dc)) (K:bY L y=some (.slice a sl sc)) (D:tY P t=some (e,k)) (st:St m (.blk b (.cells C c (0,0))::own) w)
  (p:(Builtin.firstCells k (Nat.min sl dl) (.slice a sl sc)).run P w= .ok S.toArray w) (g:o+S.length<=C.size) (l:∀v∈S,v.oneCell'=true) (B:C.toList.take o++S++C.toList.drop (o+S.length)=C')
  (h:∀w',St m (.blk b (.cells C'.toArray c (0,0))::own) w'->N ((d,.int .i64 ((Nat.min sl dl:Nat):Int))::L) w'):iO P n ops Q i N L w:=by
 subst B
 obtain⟨r,inf,s,z⟩:=BC D
 have f:=run_storeCells_at P b o c S 0 C w st.head.1 (by simpa using g) l
 simp only[gZ] at f
 have st':=st.set (w':=w.setRow b (C.toList.take o++S++C.toList.drop (o+S.length)).toArray) (o':= .cells (C.toList.take o++S++C.toList.drop (o+S.length)).toArray c (0,0)) ⟨⟨rfl,rfl⟩,rfl,oQ⟩ (setRow_heap w b C _ c _ st.head.1) (λj _ F=>setRow_other w b j _ F)
 refine HQ (v:=undef) (w':=w) G E (λq A=> ?_)
 refine⟨_,_,?_,h _ st'⟩
 rw[<-z] at p
 simp only[execOp,A,resolve,Sem.run_bind,Sem.run_pure,Result.andThen_ok,invoke,builtin]
 simp[cQ H,cQ K,Builtin.copy_,run_underlying r,sizeOf,typeInfo,s,Builtin.lenOf,p,f,goInt]
end
end Go.Dc
end
namespace Go.Dc
section
variable {P:Program} {n:Fr} {ops:Array Oper} {Q:Exit->Act->World->Prop} {i d:Nat} {L:bF} {w:World} {m:Mem} {own:List Piece} {N:bF->World->Prop}
variable {ks:List (Nat×(World->Prop))} {fuel:Nat} {done:List Nat}
def pH(a b:BA):Int:=
 match(List.range (min a.size b.size)).find? λi=>a[i]! !=b[i]! with
 |some i=>if a[i]! <b[i]! then-1 else 1
 |none=>if a.size<b.size then-1 else if a.size>b.size then 1 else 0
theorem Wi{f:FuncId}{fn:Func}{x y:Operand}{ts:Array TypeId}{s u:BA}(g:eN ops L i=some (some d,.call {callee:= .value (.func f),args:= #[x,y],argTypes:=ts}))(c:Nat.blt d n=true)
  (k : bY L x = some (.string s)) (l : bY L y = some (.string u)) (e : P.funcs[f]? = some fn) (a : (fn.name == "runtime.NumGoroutine", fn.body.isNone, (Extern.findNext fn).isNone) = (false, true, true)) (b : Extern.find fn = some Extern.BytealgCompare.compare)
  (h:N ((d,.int .i64 (pH s u))::L) w):iO P n ops Q i N L w:=by
 refine XT [.string s,.string u] _ g c (by simp[cQ k,cQ l]) e a b ?_ h
 rfl
variable {α:Type} {f:α->List Value}
def qB(l:List α)(lo hi:Int):Option Unit:=if 0<=lo/\lo<=hi/\hi<=l.length then some () else none
theorem Hs{l:List α}{lo hi:Int}{u:Unit}(h:qB l lo hi=some u):0<=lo/\lo<=hi/\hi<=l.length:=by
 unfold qB at h
 split at h
 .assumption
 cases h
theorem TN{ks:List (Nat×(World->Prop))}{q fuel:Nat}{S:World->Prop}{done:List Nat}{t e k:Nat}{x:Operand}{lo hi:Option Operand}{a:Option Addr}{nn cc:Nat}{T:List Value}{l:List α}{li hix:Int}{u:Unit}(i d:Nat)(v:eN ops L i=some (some d,.slice t x lo hi none))(s:Nat.blt d n=true)
  (g:pE ops ks q i done=true) (b:(q,S)∈ks) (z:QP Q) (B:bY L x=some (.slice a nn cc)) (r:tY P t=some (e,k))
  (f:(lo=none/\li=0)\/∃y kd,lo=some y/\bY L y=some (.int kd li)) (c:(hi=none/\hix=nn)\/∃y kd,hi=some y/\bY L y=some (.int kd hix)) (A:OAS a nn cc k T) (F:List.length l=nn) (D:qB l li hix=some u)
  (h:WA P n ops Q ks fuel (done++[i]) ((d,.slice (tB a cc li.toNat k) (hix.toNat-li.toNat) (cc-li.toNat))::L) w):WA P n ops Q ks (fuel+1) done L w:=by
 obtain⟨o,p,E⟩:=Hs D
 have:=A.1
 exact Yd i d _ v s g b z B r f c o p aa rfl h
def sR(l:List α)(d0 s0:Nat):List α:=l.take d0++(l.drop s0).take (min (l.length-s0) (l.length-d0))++l.drop (d0+min (l.length-s0) (l.length-d0))
def vL(l:List α)(d0 s0:Int):Option (List α):=if 0<=d0/\d0<=l.length/\0<=s0/\s0<=l.length/\0<l.length then some (sR l d0.toNat s0.toNat) else none
theorem Xb{l:List α}{d0 s0:Nat}(a:d0<=l.length):(sR l d0 s0).length=l.length:=by
 simp only[sR,jG,gQ,kO];omega
theorem Fm{l r:List α}{d0 s0:Int}(h:vL l d0 s0=some r):∃d s:Nat,d0=(d:Int)/\s0=(s:Int)/\d<=l.length/\s<=l.length/\0<l.length/\r=sR l d s:=by
 unfold vL at h
 split at h
 .rename_i hb
  simp only[jJ] at h
  exact⟨d0.toNat,s0.toNat,by omega,by omega,by omega,by omega,hb.2.2.2.2,h.symm⟩
 cases h
theorem Gs{l r:List α}{d0 s0:Int}(h:vL l d0 s0=some r):r.length=l.length:=by
 obtain⟨d,s,_,_,a,_,_,rfl⟩:=Fm h
 exact Xb a
theorem YG{k:Nat}(a:∀x,(f x).length=k):∀(l:List α) (j:Nat),(l.flatMap f).take (j*k)=(l.take j).flatMap f
 |[],j=>by simp
 |x::l,0=>by simp
 |x::l,j+1=>by
  rw[kX,List.take_succ_cons,kX,List.take_append,a,show(j+1)*k-k=j*k by rw[kN,dB,dH],YG a l j,gT (by rw[a,kN];omega)]
theorem Gk{k:Nat}(a:∀x,(f x).length=k):∀(l:List α) (j:Nat),(l.flatMap f).drop (j*k)=(l.drop j).flatMap f
 |[],j=>by simp
 |x::l,0=>by simp
 |x::l,j+1=>by
  rw[kX,dE,hZ,a,show(j+1)*k-k=j*k by rw[kN,dB,dH],Gk a l j,jO (by rw[a,kN];omega),kH]
theorem XA{k:Nat}(a:∀x,(f x).length=k){l:List α}{T:List Value}{j:Nat}(c:j<=l.length):(bM f l T).toList.take (j*k)=(l.take j).flatMap f:=by
 have b:=vZ a l
 simp only[bM]
 rw[kM (by rw[b];exact kW _ c),YG a]
theorem WV{k:Nat}(a:∀x,(f x).length=k){l:List α}{T:List Value}{j:Nat}(c:j<=l.length):(bM f l T).toList.drop (j*k)=(l.drop j).flatMap f++T:=by
 have b:=vZ a l
 simp only[bM]
 rw[gB (by rw[b];exact kW _ c),Gk a]
theorem Hj{t u e k:Nat}{x y:Operand}{a:Option Addr}{nn cc:Nat}{T:List Value}{l r:List α}{s:TypeId}{d0 s0 G H:Int}(c:∀x,(f x).length=k)(D:∀x,∀v∈f x,v.oneCell'=true)(hk:0<k)
  (ho:eN ops L i=some (some d,.call {callee:= .builtin .copy,args:= #[x,y],argTypes:= #[t,u]})) (hd:Nat.blt d n=true)
  (p:bY L x=some (.slice (tB a cc d0.toNat k) (G.toNat-d0.toNat) (cc-d0.toNat))) (z:bY L y=some (.slice (tB a cc s0.toNat k) (H.toNat-s0.toNat) (cc-s0.toNat))) (e1:G=(l.length:Int)) (e2:H=(l.length:Int)) (hI:tY P t=some (e,k))
  (st:St m (cT a (bM f l T) s::own) w) (U:OAS a nn cc k T) (S:List.length l=nn) (hz:vL l d0 s0=some r)
  (h:∀(v:Int) w',St m (cT a (bM f r T) s::own) w'->N ((d,.int .i64 v)::L) w'):iO P n ops Q i N L w:=by
 obtain⟨dd,ss,rfl,rfl,E,F,g3,rfl⟩:=Fm hz
 have B:=U.some S (show 0<l.length from g3)
 subst S
 obtain⟨q1,q2,q3⟩:=U
 rw[B] at q3
 simp only[true_and] at q3
 subst e1;subst e2
 rw[B] at p z st
 rw[B] at h
 generalize ab a=b at*
 have R:=vZ c l
 simp only[jZ] at p z
 have A:St m (.blk b (.cells (bM f l T) s (0,0))::own) w:=st
 have K:(bM f l T).size=cc*k:=by
  simp only[bM,jT,jG,R];omega
 have sl:∀j,j<=l.length->∃o,tB (some ⟨b,0,none⟩) cc j k=some ⟨b,o,none⟩/\o<=j*k/\(j<l.length->o=j*k):=by
  intro j g
  by_cases hc:cc=j
  .exact⟨0,by simp[tB,hc],kK _,λh=>by omega⟩
  exact⟨j*k,by rw[qAb aa,gA],jN _,λ_=>rfl⟩
 obtain⟨o1,V,a3,Y⟩:=sl dd E
 obtain⟨o2,Z,a4,a1⟩:=sl ss F
 rw[V] at p
 rw[Z] at z
 generalize hM:min (l.length-ss) (l.length-dd)=M
 have hM':Nat.min (l.length-ss) (l.length-dd)=M:=hM
 have q:(((l.drop ss).take M).flatMap f).length=M*k:=by rw[vZ c,gQ,kO];congr 1;omega
 have a2:dd*k+M*k<=cc*k:=by rw[<-kN];exact kW _ aa
 refine Xu (((l.drop ss).take M).flatMap f) (bM f (sR l dd ss) T).toList ho hd p z hI A ?_ ?_ ?_ ?_ ?_
 .rw[hM']
  refine Ig A.head.1 ?_ q
  rcases Nat.eq_zero_or_pos M with g|g
  .simp[g]
  rw[a1 aa,WV c F,kM (by rw[vZ c,kO];exact kW _ aa),YG c]
 .rw[q,K];omega
 .intro v hv
  obtain⟨x,_,p⟩:=fP.1 hv
  exact D x v p
 .rw[q]
  rcases Nat.eq_zero_or_pos M with g|g
  .have:sR l dd ss=l:=by simp only[sR,hM,g];simp
   rw[this,g];simp
  rw[Y aa,XA c E,<-kN,WV c (show dd+M<=l.length by omega)]
  simp only[sR,hM,bM,List.flatMap_append,kU]
 intro w' st'
 rw[hM']
 have g:St m (.blk b (.cells (bM f (sR l dd ss) T) s (0,0))::own) w':=by simpa using st'
 exact h _ w' g
theorem Sj{t u e by_ kk:Nat}{x y:Operand}{f:α->List Value}{v:Value}{a:Option Addr}{nn cc:Nat}{T:List Value}{l k r:List α}(H:∀x,(f x).length=kk)
  (ho:eN ops L i=some (some d,.call {callee:= .builtin .append,args:= #[x,y],argTypes:= #[t,u]})) (Z:Nat.blt d n=true)
  (U:bY L x=some (.slice a nn cc)) (hy:bY L y=some v) (st:St m (cT a (bM f l T) e::own) w) (hs:OAS a nn cc kk T) (hn:List.length l=nn) (hi:zM P t=some (e,kk,by_,kk)) (hu:zX P u e)
  (R:∀w':World,Step w w'->w'.heap=w.heap->PO P w' kk v k.length (k.flatMap f)) (S:iK by_ l k=some r)
  (h:∀a' cap T' w',OAS a' (List.length r) cap kk T'->St m (cT a' (bM f r T') e::own) w'->N ((d,.slice a' (List.length r) cap)::L) w'):iO P n ops Q i N L w:=by
 obtain⟨ht,inf,z,E,hz',g,a2,a4⟩:=WR hi
 unfold iK at S
 split at S
 .rename_i hk
  obtain⟨k1,k2⟩:=hk
  simp only[jJ] at S;subst S
  subst hn
  have B:=R w (Step.refl w) rfl
  have Y:=vZ H l
  have V:=vZ H k
  obtain⟨q1,q2,F⟩:=hs
  by_cases hroom:l.length+k.length<=cc
  .cases a with
   |none=>
    simp only at F
    have K:l=[]:=kC aa
    have A:k=[]:=kC aa
    subst K;subst A;subst F
    refine HQ (v:=undef) (w':=w) ho Z (λo G=> ?_)
    have c:=Db w t u o.type e inf ht hu E (x:=v) (news:=[]) (by rw[g];exact B)
    refine⟨_,_,?_,h none 0 [] w ⟨jN _,kK _,rfl⟩ st⟩
    simp only[execOp,G,resolve,Sem.run_bind,Sem.run_pure,Result.andThen_ok,invoke,builtin]
    simp only[jD] at U
    simp[cQ U,cQ hy,c]
   |some p=>
    simp only at F
    obtain⟨M,hT⟩:=F
    obtain⟨b,o,s⟩:=p
    simp only[Addr.mk.injEq,true_and] at M
    obtain⟨rfl,rfl⟩:=M
    have D:St m (.blk b (.cells (bM f l T) e (0,0))::own) w:=st
    have a3:(bM f l T).size=cc*kk:=by
     simp only[bM,jT,jG,Y];omega
    have a1:l.length*kk+k.length*kk<=cc*kk:=by rw[<-kN];exact kW _ hroom
    have hC:(bM f l T).toList.take (l.length*inf.size)++k.flatMap f++(bM f l T).toList.drop (l.length*inf.size+(k.flatMap f).length)=(bM f (l++k) (T.drop (k.length*kk))).toList:=by
     rw[g,V]
     have A:(bM f l T).toList.take (l.length*kk)=l.flatMap f:=by
      have:=XA (T:=T) H (jN l.length)
      rwa[fO] at this
     have e2:(bM f l T).toList.drop (l.length*kk+k.length*kk)=T.drop (k.length*kk):=by
      have:=WV (T:=T) H (jN l.length)
      rw[hU,List.flatMap_nil,kH] at this
      rw[<-List.drop_drop,this]
     rw[A,e2]
     simp[bM,List.flatMap_append]
    refine HQ (v:=undef) (w':=w) ho Z (λq G=> ?_)
    have c:=Dh w t u q.type e inf ht hu E (x:=v) (n:=k.length) (news:=k.flatMap f) (by rw[g];exact B) b l.length cc (bM f l T) D.head.1 hroom (by rw[g,V,a3];exact a1)
    rw[hC] at c
    have st':=D.set (w':=w.setRow b (bM f (l++k) (T.drop (k.length*kk))).toList.toArray) (o':= .cells (bM f (l++k) (T.drop (k.length*kk))).toList.toArray e (0,0)) ⟨⟨rfl,rfl⟩,rfl,oQ⟩ (setRow_heap w b (bM f l T) _ e _ D.head.1) (λj _ hj=>setRow_other w b j _ hj)
    have a5:St m (cT (some ⟨b,0,none⟩) (bM f (l++k) (T.drop (k.length*kk))) e::own) (w.setRow b (bM f (l++k) (T.drop (k.length*kk))).toList.toArray):=by simpa[cT] using st'
    have A:(l++k).length=l.length+k.length:=jG
    refine⟨.slice (some ⟨b,0,none⟩) (l++k).length cc,_,?_,h (some ⟨b,0,none⟩) cc (T.drop (k.length*kk)) _ ⟨by rw[A];exact hroom,q2,rfl,?_⟩ a5⟩
    .simp only[execOp,G,resolve,Sem.run_bind,Sem.run_pure,Result.andThen_ok,invoke,builtin]
     simp[cQ U,cQ hy,c,A]
    rw[A,kN,kO];omega
  have a3:cc<l.length+k.length:=by omega
  refine HQ (v:=undef) (w':=w) ho Z (λo G=> ?_)
  have a1:∀w':World,Step w w'->w'.heap=w.heap->(Builtin.firstCells inf.size l.length (.slice a l.length cc)).run P w'= .ok (l.flatMap f).toArray w':=λw' _ hw=>by
   cases a with
   |none=>
    simp only at F
    have K:l=[]:=kC aa
    subst K
    simp[Builtin.firstCells]
   |some p=>
    simp only at F
    obtain⟨M,hT⟩:=F
    obtain⟨b,o,s⟩:=p
    simp only[Addr.mk.injEq,true_and] at M
    obtain⟨rfl,rfl⟩:=M
    have D:St m (.blk b (.cells (bM f l T) e (0,0))::own) w:=st
    rw[g]
    refine Ig (o:=0) (C:=bM f l T) (e:=e) (by rw[hw];exact D.head.1) ?_ Y
    rw[jX]
    have:=XA (T:=T) H (jN l.length)
    rwa[fO] at this
  have c:=De (ty:=o.type) w t u e inf z ht hu E hz' (n:=k.length) (news:=k.flatMap f) (by rw[g];exact B) a l.length cc (l.flatMap f)
   a1 (λw' hs hw=>by rw[g];exact(R w' hs hw).2.1) a3 (by rw[a2];exact k1) k2
  generalize hgc:grownCap w (l.length+k.length) cc e=gc at c
  have M:l.length+k.length<=gc:=hgc▸grownCap_ge _ _ _ _
  have K:gc<=maxLen:=hgc▸grownCap_le_maxLen _ _ _ _ k2
  have D:(l.flatMap f++k.flatMap f).toArray++Builtin.zeroCells z.cells (gc-(l.length+k.length))=bM f (l++k) (Builtin.zeroCells z.cells (gc-(l.length+k.length))).toList:=by
   apply Array.ext';simp[bM]
  rw[D] at c
  have A:(l++k).length=l.length+k.length:=jG
  refine⟨.slice (some ⟨w.heap.size,0,none⟩) (l++k).length gc,_,?_,h (some ⟨w.heap.size,0,none⟩) gc _ _ ⟨by omega,K,rfl,?_⟩ (st.tail.alloc (w':=w.drew.alloc (.cells (bM f (l++k) (Builtin.zeroCells z.cells (gc-(l.length+k.length))).toList) e)) ⟨⟨rfl,rfl⟩,rfl,oQ⟩ rfl)⟩
  .simp only[execOp,G,resolve,Sem.run_bind,Sem.run_pure,Result.andThen_ok,invoke,builtin]
   simp[cQ U,cQ hy,c,A]
  simp only[dF,size_zeroCells,a4,A,<-kN]
  congr 1;omega
 cases S
theorem XC{t u e by_:Nat}{x y:Operand}{c:Codec α}{v:Value}{a:Option Addr}{nn cc:Nat}{T:List Value}{l k r:List α}(p:∀m x cs,c.rep m x cs->cs=f x)(A:∀x,(f x).length=c.sz)
  (E:eN ops L i=some (some d,.call {callee:= .builtin .append,args:= #[x,y],argTypes:= #[t,u]})) (z:Nat.blt d n=true)
  (H:bY L x=some (.slice a nn cc)) (K:bY L y=some v) (st:St m (cT a (bM f l T) e::own) w) (F:OAS a nn cc c.sz T) (D:List.length l=nn) (hi:zM P t=some (e,c.sz,by_,c.sz)) (G:zX P u e)
  (B:II P c m v k) (M:iK by_ l k=some r)
  (h:∀a' cap T' w',OAS a' (List.length r) cap c.sz T'->St m (cT a' (bM f r T') e::own) w'->N ((d,.slice a' (List.length r) cap)::L) w'):iO P n ops Q i N L w:=by
 obtain⟨cs,g,o⟩:=B
 obtain rfl:cs=k.flatMap f:=Ug p (g w st.inv).2.2.1 o
 exact Sj A E z H K st F D hi G (λw' q s=>g w' (st.inv.keep q (λb _ _=>by rw[s]))) M h
theorem UT{l:List α}{lo hi:Int}{u:Unit}{nn:Nat}(h:qB l lo hi=some u)(d:List.length l=nn):0<=lo/\lo<=hi/\hi<=(nn:Int):=by
 obtain⟨a,b,c⟩:=Hs h
 exact⟨a,b,by omega⟩
end
end Go.Dc
section
namespace Go.Dc
def IA{α σ β ρ:Type}[DecidableEq ρ](f:Option α->σ->Option (σ⊕β))(l:List α)(s:σ)(K:β->Option ρ):Option ρ:=
 match(mY f l s).bind K with
 |none=>none
 |some b=>if((AB l).all λk=>decide ((mY f k s).bind K=some b))then some b else none
theorem Vr{α σ β ρ:Type}[DecidableEq ρ]{f:Option α->σ->Option (σ⊕β)}{l:List α}{s:σ}{K:β->Option ρ}{b:ρ}(h:IA f l s K=some b):∀k,k.Perm l->(mY f k s).bind K=some b:=by
 unfold IA at h
 split at h
 .cases h
 rename_i b' hb
 split at h
 .rename_i hall
  simp only[jJ] at h;subst h
  intro k a
  have:=jW.1 hall k (YO a)
  simpa using this
 cases h
theorem Wd{α σ β ρ:Type}[DecidableEq ρ]{f:Option α->σ->Option (σ⊕β)}{l:List α}{s:σ}{K:β->Option ρ}{b:ρ}(h:∀k,k.Perm l->(mY f k s).bind K=some b):IA f l s K=some b:=by
 unfold IA
 rw[h l (.refl _)]
 simp only
 rw[jB]
 exact jW.2 λk a=>by simpa using h k (XJ a)
def LoopP{α σ β:Type}(f:Option α->σ->Option (σ⊕β))(rem:List α)(s:σ)(Pk:β->Prop)(k:Nat):Prop:=(∀l,l.Perm rem->∃b,mY f l s=some b/\Pk b)/\rem.length<k
theorem LoopP.start{α σ β ρ:Type}[DecidableEq ρ]{f:Option α->σ->Option (σ⊕β)}{l:List α}{s:σ}{K:β->Option ρ}{b:ρ}(h:IA f l s K=some b):∃Pk:β->Prop,(∀o,Pk o->K o=some b)/\LoopP f l s Pk (l.length+1):=
 ⟨λo=>K o=some b,λ_ h=>h,λk d=>by obtain⟨o,a,c⟩:=jQ.1 (Vr h k d);exact⟨o,a,c⟩,Nat.lt_succ_self _⟩
theorem LoopP.zero{α σ β:Type}{f:Option α->σ->Option (σ⊕β)}{rem:List α}{s:σ}{b:β->Prop}{p:Prop}(h:LoopP f rem s b 0):p:=absurd h.2 (kS _)
theorem LoopP.nil{α σ β:Type}{f:Option α->σ->Option (σ⊕β)}{rem:List α}{s:σ}{b:β->Prop}{k:Nat}(h:LoopP f rem s b (k+1))(g:rem=[]):
  ∃c,f none s=some c/\(∀s',c= .inl s'->LoopP f rem s' b k)/\(∀b',c= .inr b'->b b'):=by
 subst g
 obtain⟨o,this,e⟩:=h.1 [] (.refl _)
 simp only[mY] at this
 obtain⟨c,d,a⟩:=jQ.1 this
 refine⟨c,d,?_,?_⟩
 .rintro s' rfl;simp at a
 rintro b' rfl
 simp only[jJ] at a
 subst a;exact e
theorem LoopP.cons{α σ β:Type}{f:Option α->σ->Option (σ⊕β)}{rem rest:List α}{e:α}{s:σ}{b:β->Prop}{k:Nat}(h:LoopP f rem s b (k+1))(q:rem.Perm (e::rest)):
  ∃c,f (some e) s=some c/\(∀s',c= .inl s'->LoopP f rest s' b k)/\(∀b',c= .inr b'->b b'):=by
 have t:rem.length=rest.length+1:=by simpa using q.length_eq
 have key:∀l,l.Perm rest->∃o,mY f (e::l) s=some o/\b o:=λl a=>h.1 _ ((a.cons e).trans q.symm)
 obtain⟨o,d,u⟩:=key rest (.refl _)
 simp only[mY] at d
 obtain⟨c,g,n⟩:=jQ.1 d
 refine⟨c,g,?_,?_⟩
 .rintro s' rfl
  refine⟨λl a=> ?_,by have:=h.2;omega⟩
  obtain⟨o2,p,r⟩:=key l a
  simp only[mY,g,j0] at p
  exact⟨o2,p,r⟩
 rintro b' rfl
 simp only[jJ] at n
 subst n;exact u
end Go.Dc
end
namespace Go.Dc
section
open Go.Proofs Go.Shelf Go.Sort
theorem qAc{w w':World}{m':Mem}{own:List Piece}(c:Mem.le (xB w) m')(st:St m' own w'):∃q os,w'=grow (w.drewN q) os:=by
 have n:=st.1.2.2
 have p:m'.wd=w:=c.2.2.symm
 rw[p] at n
 obtain⟨⟨d,e⟩,f,g⟩:=n
 have g:=g rfl
 have l:∀(b:Nat) (x:Obj),w.heap[b]? =some x->w'.heap[b]? =some x:=λb x o=>st.1.2.1 b x (c.2.1 b x o)
 refine⟨w'.drawn-w.drawn,w'.heap.extract w.heap.size w'.heap.size,?_⟩
 have r:w.heap.size<=w'.heap.size:=by
  rcases Nat.eq_zero_or_pos w.heap.size with h|h
  .omega
  have:=l (w.heap.size-1) _ (Array.getElem?_eq_getElem (show w.heap.size-1<w.heap.size by omega))
  have:=(Array.getElem?_eq_some_iff.1 this).1
  omega
 have a:w.heap++w'.heap.extract w.heap.size w'.heap.size=w'.heap:=by
  apply Array.ext
  .simp;omega
  intro i k s
  rw[Array.getElem_append]
  split
  .rename_i h7
   have:=l i _ (Array.getElem?_eq_getElem h7)
   exact((Array.getElem?_eq_some_iff.1 this).2).symm
  rename_i h7
  rw[Array.getElem_extract]
  congr 1;omega
 have k:w.drawn+(w'.drawn-w.drawn)=w'.drawn:=by omega
 cases w'
 simp only at d e f a k
 simp only[grow,World.drewN,d,e,f,a,k]
theorem Fz{α:Type}[Inhabited α]{f:α->List Value}{k:Nat}(d:∀x,(f x).length=k)(l:List α)(t:Nat)(a:t<l.length*k):(l.flatMap f)[t]? =some (flatK f k l.toArray)[t]! :=by
 have g:0<k:=Nat.pos_of_ne_zero λn=>by(subst n;simp at a)
 have c:t/k<l.length:=(Nat.div_lt_iff_lt_mul g).2 a
 have h:=Nat.mod_lt t g
 have o:l[t/k]? =some l[t/k]:=by simp[c]
 have e:t=(t/k)*k+t%k:=by rw[Nat.mul_comm];exact(Nat.div_add_mod t k).symm
 have b:=HL d l (t/k) _ (t%k) o h
 rw[<-e] at b
 rw[get_flatK _ _ _ t (by simpa using a),b]
 simp[c,d,h]
variable {P:Program} {ρ:Ren} {α:Type} [Inhabited α] {m:Mem} {own:List Piece} {w:World}
theorem Uq(L:SlLaysF0.n6 P ρ){k:Nat}{f:α->List Value}(aE:∀w,(isAgg (ρ.t 24)).run P w= .ok true w)(zE:∀w,(Go.sizeOf (ρ.t 24)).run P w= .ok k w)(q:∀x,(f x).length=k)(M:∀x,∀v∈f x,v.oneCell'=true)
  (cf:α->α->Int) (S:SWO (ltOf cf)) (U:∀x y,(ltOf cf) x y=false->(ltOf cf) y x=false->x=y) (g:Nat) (eg:∀args w,(callFunc g args).run P w= .ok (.enter g args) w)
  (G:∀(x y:α) (W:World),Calls P g #[.agg (f x).toArray,.agg (f y).toArray] W λr w'=>∃m',r= .returned (.int .i64 (cf x y))/\(xB W).le m'/\St m' [] w')
  {a:Option Addr} {l:List α} {cap:Nat} {T:List Value} {e:TypeId} (st:St m (cT a (bM f l T) e::own) w) (V:OAS a l.length cap k T) (E:l.length<4611686018427387904):
  Calls P (ρ.f 6) #[.slice a l.length cap,.func (.func g) #[] #[]] w λr w'=>r= .returned (.tuple #[])/\St m (cT a (bM f (l.mergeSort λx y=> !(ltOf cf) y x) T) e::own) w':=by
 obtain⟨Y,Z,F⟩:=V
 cases a with
 |none=>
  simp only at F
  have c:l=[]:=kC aa
  subst c
  refine(AnyF.slices_SortFunc_none {L with} none cap (.func (.func g) #[] #[]) w).mono λr w' h=> ?_
  obtain⟨rfl,rfl⟩:=h
  exact⟨rfl,by simpa using st⟩
 |some p=>
  simp only at F
  obtain⟨K,hT'⟩:=F
  obtain⟨b,o,s⟩:=p
  simp only[Addr.mk.injEq,true_and] at K
  obtain⟨rfl,rfl⟩:=K
  have B:St m (.blk b (.cells (bM f l T) e (0,0))::own) w:=st
  have z:=B.head.1
  have A:=vA z
  have u:=vZ q l
  have R:HoldsK f k w b 0 l.toArray:=by
   intro j D
   have hj':j<l.length*k:=by simpa using D
   have c:(bM f l T)[j]? =some (flatK f k l.toArray)[j]! :=by
    simp only[bM,List.getElem?_toArray]
    rw[List.getElem?_append_left aa,Fz q l j hj']
   refine⟨?_,?_⟩
   .simp only[World.cell?,z,gA]
    simpa using c
   simp[World.frozen?,z]
  refine(AnyQ.slices_SortFunc_total L k aE zE f q M cf S g #[] b 0 cap l.toArray w eg (λm' os dk _ x y=> ?_) R A (by simpa using E) U).mono λr w' h=> ?_
  .refine(G x y _).mono λr w' h=> ?_
   obtain⟨m',rfl,c,st'⟩:=h
   exact⟨rfl,qAc c st'⟩
  obtain⟨rfl,n,os,rfl⟩:=h
  refine⟨rfl,?_⟩
  generalize hl':l.mergeSort (λx y=> !(ltOf cf) y x)=l'
  have c:l'.length=l.length:=by rw[<-hl'];simp
  have hfl':=vZ q l'
  have d:putCells id 0 (flatK f k l'.toArray) (bM f l T)=bM f l' T:=by
   apply Array.ext_getElem?
   intro t
   simp only[putCells,Array.getElem?_mapIdx,bM,List.getElem?_toArray,size_flatK,jT,gA,kK,true_and,Nat.sub_zero,id]
   by_cases ht:t<l'.length*k
   .rw[List.getElem?_append_left (l₁:=l'.flatMap f) aa,Fz q l' t ht]
    have:(l.flatMap f++T)[t]? =some ((l.flatMap f++T)[t]'(by simp only[jG];rw[u,<-c];omega)):=by simp
    rw[this]
    simp[ht]
   rw[List.getElem?_append_right (l₁:=l'.flatMap f) aa,List.getElem?_append_right (l₁:=l.flatMap f) (by rw[u,<-c];omega),u,hfl',c]
   rw[c] at ht
   simp[ht,c]
  refine(B.set (w':=sortWorldK f k w b 0 n l'.toArray os) (o':= .cells (bM f l' T) e (0,0)) ⟨⟨rfl,rfl⟩,rfl,?_⟩ ?_ ?_:St m (.blk b (.cells (bM f l' T) e (0,0))::own) _)
  .intro _;show w.drawn<=w.drawn+n;omega
  .show((w.heap.modify b (onCells (putCells id 0 (flatK f k l'.toArray))))++os)[b]? =_
   rw[Array.getElem?_append_left (by simpa using A),Array.getElem?_modify,jB rfl,z]
   simp only[kL,onCells,d]
  intro j D H
  show((w.heap.modify b (onCells (putCells id 0 (flatK f k l'.toArray))))++os)[j]? =_
  rw[Array.getElem?_append_left (by simpa using D),Array.getElem?_modify,jA (Ne.symm H)]
end
section
open Go.Proofs Go.Shelf Go.Sort
structure Lin{α:Type}(c:α->α->Int):Prop where
 zero:∀x y,c x y=0↔x=y
 anti:∀x y,c x y<0↔0<c y x
 trans:∀x y z,c x y<0->c y z<0->c x z<0
theorem Lin.swo{α:Type}{c:α->α->Int}(h:Lin c):SWO (ltOf c) where
 irrefl x:=by simp only[ltOf,decide_eq_false_iff_not];have:=(h.zero x x).2 rfl;omega
 trans x y z h1 h2:=by simp only[ltOf,j6] at*;exact h.trans x y z h1 h2
 ntrans x y z h1 h2:=by
  simp only[ltOf,decide_eq_false_iff_not] at*
  intro a
  have g:=h.anti x y;have b:=h.anti y x;have k:=h.anti y z;have d:=h.anti z y
  by_cases e1:c x y=0
  .rw[(h.zero x y).1 e1] at a;exact h2 a
  by_cases e2:c y z=0
  .rw[<-(h.zero y z).1 e2] at a;exact h1 a
  have e:c y x<0:=b.2 aa
  have f:c z y<0:=d.2 aa
  have l:=h.trans z y x f e
  have:=(h.anti x z).1 a
  omega
theorem Lin.total{α:Type}{c:α->α->Int}(h:Lin c)(x y:α)(a:ltOf c x y=false)(b:ltOf c y x=false):x=y:=by
 simp only[ltOf,decide_eq_false_iff_not] at*
 have:=h.anti y x
 exact(h.zero x y).1 aa
def sX(x y:Int):Int:=if x<y then-1 else if x>y then 1 else 0
theorem cmpI_lin:Lin sX where
 zero x y:=by unfold sX;split<;>(try split)<;>omega
 anti x y:=by unfold sX;repeat' split<;>omega
 trans x y z:=by unfold sX;repeat' split<;>omega
def qQ{α β:Type}(c:α->α->Int)(d:β->β->Int)(x y:α×β):Int:=if c x.1 y.1≠0 then c x.1 y.1 else d x.2 y.2
theorem HN{α β:Type}{c:α->α->Int}{d:β->β->Int}(a:Lin c)(l:Lin d):Lin (qQ c d) where
 zero x y:=by
  have b:=a.zero x.1 y.1;have f:=l.zero x.2 y.2
  unfold qQ
  split
  .rename_i h;exact⟨λg=>absurd g h,λg=>absurd (b.2 (by rw[g])) h⟩
  rename_i h
  have h:=b.1 (Decidable.of_not_not h)
  rw[f];exact⟨λg=>Prod.ext h g,λg=>by rw[g]⟩
 anti x y:=by
  have b:=a.anti x.1 y.1;have f:=l.anti x.2 y.2;have k:=a.zero x.1 y.1;have n:=a.zero y.1 x.1
  unfold qQ
  by_cases e:x.1=y.1
  .rw[jA (by rw[dT,Decidable.not_not,k];exact e),jA (by rw[dT,Decidable.not_not,n];exact e.symm)];exact f
  rw[jB (λg=>e (k.1 g)),jB (λg=>e (n.1 g).symm)];exact b
 trans x y z g1 g2:=by
  have b:=a.zero x.1 y.1;have f:=a.zero y.1 z.1;have k:=a.zero x.1 z.1
  unfold qQ at*
  by_cases e1:x.1=y.1
  .rw[jA (by rw[dT,Decidable.not_not,b];exact e1)] at g1
   by_cases e2:y.1=z.1
   .rw[jA (by rw[dT,Decidable.not_not,f];exact e2)] at g2
    rw[jA (by rw[dT,Decidable.not_not,k];exact e1.trans e2)]
    exact l.trans _ _ _ g1 g2
   rw[jB (λg=>e2 (f.1 g))] at g2
   rw[jB (λg=>e2 (e1.symm.trans (k.1 g))),e1];exact g2
  rw[jB (λg=>e1 (b.1 g))] at g1
  by_cases e2:y.1=z.1
  .rw[jB (λg=>e1 ((k.1 g).trans e2.symm)),<-e2];exact g1
  rw[jB (λg=>e2 (f.1 g))] at g2
  have n:=a.trans _ _ _ g1 g2
  rw[jB aa];exact n
def oP:List UInt8->List UInt8->Int
 |[],[]=>0
 |[],_::_=> -1
 |_::_,[]=>1
 |x::l,y::k=>if x=y then oP l k else if x<y then-1 else 1
theorem Ba(x y:UInt8):x<y↔x.toNat<y.toNat:=Iff.rfl
theorem qFh{x y:UInt8}(h:x.toNat=y.toNat):x=y:=UInt8.toNat_inj.1 h
theorem cmpL_lin:Lin oP where
 zero:=by
  intro l
  induction l with
  |nil=>intro k;cases k<;>simp[oP]
  |cons x l c=>
   intro k
   cases k with
   |nil=>simp[oP]
   |cons y k=>
    simp only[oP]
    by_cases h:x=y
    .rw[jB h,c k,h];simp
    rw[jA h];split<;>simp[h]
 anti:=by
  intro l
  induction l with
  |nil=>intro k;cases k<;>simp[oP]
  |cons x l c=>
   intro k
   cases k with
   |nil=>simp[oP]
   |cons y k=>
    simp only[oP]
    by_cases h:x=y
    .rw[jB h,jB h.symm];exact c k
    rw[jA h,jA (Ne.symm h)]
    have:¬x.toNat=y.toNat:=λe=>h (qFh e)
    simp only[Ba]
    split<;>split<;>omega
 trans:=by
  intro l
  induction l with
  |nil=>intro k m b a;cases k<;>cases m<;>simp[oP] at*
  |cons x l c=>
   intro k m b a
   cases k with
   |nil=>simp[oP] at b
   |cons y k=>
    cases m with
    |nil=>simp[oP] at a
    |cons z m=>
     simp only[oP,Ba] at*
     by_cases e1:x=y
     .subst e1
      rw[jB rfl] at b
      by_cases e2:x=z
      .rw[jB e2] at a ⊢;exact c k m b a
      rw[jA e2] at a ⊢;exact a
     rw[jA e1] at b
     have d:x.toNat<y.toNat:=by
      by_cases g:x.toNat<y.toNat
      .exact g
      rw[jA g] at b;omega
     by_cases e2:y=z
     .subst e2;rw[jA e1,jB d];omega
     rw[jA e2] at a
     have f:y.toNat<z.toNat:=by
      by_cases g:y.toNat<z.toNat
      .exact g
      rw[jA g] at a;omega
     rw[jA (λe=>by rw[e] at d;omega),jB aa];omega
def IT(l k:List UInt8):Int:=match(List.range (min l.length k.length)).find? λi=>l.getD i 0 !=k.getD i 0 with
 |some i=>if l.getD i 0<k.getD i 0 then-1 else 1
 |none=>if l.length<k.length then-1 else if l.length>k.length then 1 else 0
theorem Km:∀l k:List UInt8,IT l k=oP l k
 |[],[]=>by simp[IT,oP]
 |[],_::_=>by simp[IT,oP]
 |_::_,[]=>by simp[IT,oP]
 |x::l,y::k=>by
  have b:=Km l k
  unfold IT at b ⊢
  rw[show min (x::l).length (y::k).length=min l.length k.length+1 by simp only[jC];omega,List.range_succ_eq_map,List.find?_cons]
  by_cases h:x=y
  .subst h
   have a:((x::l).getD 0 0 !=(x::k).getD 0 0)=false:=by simp
   rw[a]
   simp only[List.find?_map,Function.comp_def,oP,jH]
   rw[<-b]
   have c:(λi=>(x::l).getD (Nat.succ i) 0 !=(x::k).getD (Nat.succ i) 0)=λi=>l.getD i 0 !=k.getD i 0:=by
    funext i;simp
   rw[c]
   cases(List.range (min l.length k.length)).find? λi=>l.getD i 0 !=k.getD i 0 with
   |none=>simp
   |some i=>simp
  have a:((x::l).getD 0 0 !=(y::k).getD 0 0)=true:=by simpa using h
  rw[a]
  simp[oP,h]
theorem qAe(a:BA)(i:Nat):a[i]! =a.data.toList.getD i 0:=by
 by_cases h:i<a.size
 .have b:i<a.data.toList.length:=by simpa using h
  rw[getElem!_pos a i h,jV,List.getElem?_eq_getElem b]
  simp
  rfl
 have b:¬i<a.data.toList.length:=by simpa using h
 rw[getElem!_neg a i h,jV,List.getElem?_eq_none aa]
 rfl
theorem NF(a b:BA):pH a b=oP a.data.toList b.data.toList:=by
 rw[<-Km]
 have c:a.data.toList.length=a.size:=by simp
 have d:b.data.toList.length=b.size:=by simp
 unfold pH IT
 rw[c,d]
 simp only[qAe]
 all_goals (generalize List.find? (λi=>a.data.toList.getD i 0 !=b.data.toList.getD i 0) (List.range (min a.size b.size))=o;cases o<;>rfl)
theorem cmpS_lin:Lin pH where
 zero x y:=by
  rw[NF,cmpL_lin.zero]
  exact⟨λh=>by cases x;cases y;simp at h;subst h;rfl,λh=>by rw[h]⟩
 anti x y:=by rw[NF,NF];exact cmpL_lin.anti _ _
 trans x y z h1 h2:=by rw[NF] at*;exact cmpL_lin.trans _ _ _ h1 h2
def ED{α:Type}(lt:α->α->Bool)(x:α):List α->List α
 |[]=>[x]
 |y::l=>bif lt y x then y::ED lt x l else x::y::l
def BL{α:Type}(lt:α->α->Bool):List α->List α
 |[]=>[]
 |x::l=>ED lt x (BL lt l)
theorem YK{α:Type}{lt:α->α->Bool}{x:α}:∀l:List α,(ED lt x l).Perm (x::l)
 |[]=> .refl _
 |y::l=>by
  unfold ED
  cases lt y x with
  |true=>exact((YK l).cons y).trans (.swap x y l)
  |false=>exact .refl _
theorem CY{α:Type}{lt:α->α->Bool}:∀l:List α,(BL lt l).Perm l
 |[]=> .refl _
 |x::l=>(YK _).trans ((CY l).cons x)
theorem Hg{α:Type}{c:α->α->Int}(h:Lin c){x:α}:∀{l:List α},(l.Pairwise λx y=>ltOf c y x=false)->(ED (ltOf c) x l).Pairwise λx y=>ltOf c y x=false
 |[],_=>by simp[ED]
 |y::l,b=>by
  have hl':=jY.1 b
  unfold ED
  cases e:ltOf c y x with
  |true=>
   refine jY.2 ⟨λz a=> ?_,Hg h hl'.2⟩
   rcases jK.1 ((YK l).mem_iff.1 a) with rfl|a
   .cases e2:ltOf c z y with
    |false=>rfl
    |true=>have:=h.swo.trans _ _ _ e e2;rw[h.swo.irrefl] at this;cases this
   exact hl'.1 z a
  |false=>
   refine jY.2 ⟨λz a=> ?_,b⟩
   rcases jK.1 a with rfl|a
   .exact e
   exact h.swo.ntrans z y x (hl'.1 z a) e
theorem MM{α:Type}{c:α->α->Int}(h:Lin c):∀l:List α,(BL (ltOf c) l).Pairwise λx y=>ltOf c y x=false
 |[]=> .nil
 |_::l=>Hg h (MM h l)
theorem SU{α:Type}{r:α->α->Prop}(anti:∀x y,r x y->r y x->x=y):∀{l k:List α},l.Perm k->l.Pairwise r->k.Pairwise r->l=k
 |[],_,h,_,_=>h.nil_eq
 |x::l,[],h,_,_=>absurd h.length_eq ae
 |x::l,y::k,h,b,a=>by
  have hl':=jY.1 b
  have hk':=jY.1 a
  have e:x=y:=by
   rcases jK.1 (h.mem_iff.1 (jR ..)) with e|c
   .exact e
   rcases jK.1 (h.mem_iff.2 (jR ..)) with e|d
   .exact e.symm
   exact anti _ _ (hl'.1 _ d) (hk'.1 _ c)
  subst e
  rw[SU anti h.cons_inv hl'.2 hk'.2]
theorem Xc{α:Type}{c:α->α->Int}(h:Lin c)(l:List α):(l.mergeSort λx y=> !(ltOf c y x))=BL (ltOf c) l:=by
 refine SU (r:=λx y=>ltOf c y x=false) (λx y a b=>h.total x y b a) ((List.mergeSort_perm l _).trans (CY l).symm) ?_ (MM h l)
 have:=List.pairwise_mergeSort (le:=λx y=> !(ltOf c) y x) (λx y z a b=>by
  simp only[fZ] at*
  exact h.swo.ntrans z y x b a) (λx y=>by
  simp only[dK,fZ,ltOf,decide_eq_false_iff_not]
  have:=h.anti x y;omega) l
 exact this.imp λh=>by simpa only[fZ] using h
end
section
def PJ{α:Type}(o:Option α):Option Unit:=o.map λ_=>()
theorem MapQ.at{κ ν:Type}{ek:κ->Value}{c:Codec ν}{agg:Bool}{m:Mem}{q:Option Nat}{es:Array MapEntry}{ck:Nat}{o:Option (List (κ×ν))}(h:MapQ ek c agg m q es ck o){u:Unit}(a:PJ o=some u):∃b,q=some b:=by
 cases q with
 |none=>
  have h:o=none:=h
  subst h
  cases a
 |some b=>exact⟨b,rfl⟩
section
variable {P:Program} {n:Fr} {ops:Array Oper} {Q:Exit->Act->World->Prop} {L:bF} {w:World} {ch:List PanicEntry}
theorem bQ{K:Act->World->Prop}(h:X n Q (.panic ch) L w):X n (Exit.then K Q) (.panic ch) L w:=h
theorem lU{id:Nat}(h:X n Q (.panic ch) L w):X n (Exit.inBlock id Q) (.panic ch) L w:=h
theorem cU{k:Nat}{fn:Func}{R:Ending->World->Prop}(h:R (.panicked ch) w):X ⟨k,[]⟩ (bodyPost P fn R) (.panic ch) L w:=λ_ a=>⟨a.2.1,h⟩
variable {N:bF->World->Prop}
theorem tZ{i:Nat}(d f:Nat)(args:Array Value)(q:sN P ops L i=some (some d,f,args))(k:Nat.blt d n=true)
  (h:Calls P f args w λe w'=>(∃v,e= .returned v/\N ((d,v)::L) w')\/∃ch,e= .panicked ch/\X n Q (.panic ch) L w'):iO P n ops Q i N L w:=by
 obtain⟨o,c,g,r,p,l⟩:=Ei q
 intro a b
 unfold qD
 simp only[c,b.wanted r,jH]
 rw[b.exec p,BG l w,Oper.uponIn_enter]
 refine⟨λe=>by simp[Fence.wide] at e,CallsIn.mono (callsIn_wide.2 h) ?_⟩
 rintro e w' (⟨v,rfl,hk'⟩|⟨ch,rfl,hk'⟩)
 .rw[g];exact⟨_,b.put k v,hk'⟩
 exact hk' _ b
theorem XZ{i:Nat}{x:Operand}{T:TypeId}{v:Value}(k:eN ops L i=some (none,.panic x))(l:bY L x=some (.iface T v))
  (h:X n Q (.panic [{v:= .iface T v,recovered:=false}]) L w):iO P n ops Q i N L w:=by
 obtain⟨o,d,p,e,f,g⟩:=HI k
 intro a b
 unfold qD
 simp only[d,b.wanted f,jH]
 rw[b.exec g]
 have c:(execOp (oR L) o).run P w= .halt (.panic (.iface T v)) w:=by
  simp[execOp,e,cQ l,Instr.panic]
 rw[c]
 exact h _ b
end
def fnV:Option Nat->Value
 |some f=> .func (.func f) #[] #[]
 |none=> .nilFunc
def iJ:Codec (Option Nat) where
 sz:=1
 pos:=dS
 rep _ x cs:=cs=[fnV x]
 len:=by rintro _ _ _ rfl;rfl
 one:=by rintro _ x _ rfl v a;simp at a;subst a;cases x<;>rfl
 mono:=λ_ _ _ _ _ h=>h
theorem dynM{α:Type}{f g:Nat}{a b:Option α}{y:α}(c:(if f=g then a else b)=some y):f=g\/b=some y:=by
 by_cases h:f=g
 .exact .inl h
 rw[jA h] at c;exact .inr c
theorem yK{α:Type}{P:Program}{f g:Nat}{a b:Option α}{y:α}{args:Array Value}{w:World}{R:Ending->World->Prop}(c:(if f=g then a else b)=some y)
  (d:a=some y->Calls P g args w R) (e:b=some y->Calls P f args w R):Calls P f args w R:=by
 by_cases h:f=g
 .subst h;rw[jB rfl] at c;exact d c
 rw[jA h] at c;exact e c
section
variable {P:Program} {n:Fr} {ops:Array Oper} {Q:Exit->Act->World->Prop} {L:bF} {w:World} {i:Nat}
theorem Ir{f:FuncId}{fn:Func}{c:Code}{args:Array Value}{R:Ending->World->Prop}(e:P.funcs[f]? =some fn)(d:fn.body=some c){k:Nat}(g:fn.ntmps=k)(L:bF)
  (b:L.map (λp=>(args[p.1]?))=L.map λp=>some p.2) (a:Nat.ble args.size k=true) (h:W none P ⟨k,[]⟩ c (bodyPostD P fn R) L w):Calls P f args w R:=by
 refine calls_of_wp_defers e d (wpIn_wide.1 (h _ ⟨?_,rfl,?_⟩))
 .subst g
  have:args.size<=fn.ntmps:=kY a
  simp only[hH,hJ];omega
 intro t v n
 have:=(fB.1 b) (t,v) (BE n)
 have l:t<args.size:=(Array.getElem?_eq_some_iff.1 this).1
 simp only[Array.getElem?_append,l,jH]
 exact this
def ZW(P:Program)(ops:Array Oper)(L:bF)(i:Nat):Option (Option Nat×Deferred):=
 match ops[i]? with
 |none=>none
 |some o=>match qJ ops L o.guard with
  |some true=>bif rL L o.op then(match tQ P (execOp (oR L) o) with
   |some (.defer d)=>some (o.dst,d)
   |_=>none) else none
  |_=>none
theorem Sz{d:Option Nat}{x:Deferred}(h:ZW P ops L i=some (d,x)):
  ∃o,ops[i]? =some o/\o.dst=d/\qJ ops L o.guard=some true/\rL L o.op=true/\tQ P (execOp (oR L) o)=some (.defer x):=by
 unfold ZW at h
 cases e:ops[i]? with
 |none=>simp[e] at h
 |some o=>
  simp only[e] at h
  cases a:qJ ops L o.guard with
  |none=>simp[a] at h
  |some b=>
   cases b with
   |false=>simp[a] at h
   |true=>
    simp only[a] at h
    cases c:rL L o.op with
    |false=>simp[c] at h
    |true=>
     simp only[c,cond_true] at h
     split at h
     .rename_i f' he
      simp only[jJ,Prod.mk.injEq] at h
      obtain⟨f,rfl⟩:=h
      exact⟨o,rfl,f,a,c,he⟩
     cases h
theorem Ij(x:Deferred)(hi:Nat.blt i ops.size=true)(g:ZW P ops L i=some (none,x))(h:WO P ⟨n.sz,x::n.marks⟩ ops Q (i+1) L w):WO P n ops Q i L w:=by
 obtain⟨o,c,d,k,f,e⟩:=Sz g
 intro a b
 rw[MQ c,BT]
 unfold qD
 simp only[c,b.wanted k,jH]
 rw[b.exec f,BG e w,Oper.uponIn_defer,d]
 exact h _ ⟨b.1,kF (x:: ·) b.2.1,b.2.2⟩
def noP(Q:Exit->Act->World->Prop):Exit->Act->World->Prop
 | .panic _,_,_=>False
 |e,a,w=>Q e a w
theorem HY{ρ:Option Nat}{y:Code}{Q':Exit->Act->World->Prop}(h:W ρ P n y Q L w):X n (Exit.then (λa w=>y.wpIn (lX ρ) 0 P Q a w) Q') .normal L w:=h
theorem Yl(h:X n Q .ret L w):X n (noP Q) .ret L w:=h
theorem ID{ρ:Option Nat}{x y:Code}(h:W ρ P n x (Exit.then (λa w=>y.wpIn (lX ρ) 0 P Q a w) (noP Q)) L w):W ρ P n (.seq x y) Q L w:=λa d=>by
 refine wpIn_seq (wpIn_mono (h a d) ?_)
 intro e a' w' b
 cases e with
 |panic c=>exact b.elim
 |_=>exact b
theorem qDv{k:Nat}{fn:Func}{R:Ending->World->Prop}(rvs:List ResultVar)(vs:List Value)(e:fn.results=rvs.toArray)(f:ResAll P w L rvs vs)(h:R (.returned (sM vs)) w):X ⟨k,[]⟩ (bodyPostD P fn R) .ret L w:=by
 intro a d
 obtain⟨b,c⟩:=pG (P:=P) (fn:=fn) (R:=R) rvs vs e f h a d
 show Leaves P fn a.tmps R a.defers .returning w
 rw[b]
 exact c
theorem Aq{k g:Nat}{cap:Array Value}{fn:Func}{R:Ending->World->Prop}(rvs:List ResultVar)(d:fn.results=rvs.toArray)(l:∀args w,(callFunc g args).run P w= .ok (.enter g args) w)
  (h:CallsD P g (#[]++cap) .returning w λe u w'=>u= .returning/\∃v,e= .returned v/\∃vs,ResAll P w' L rvs vs/\R (.returned (sM vs)) w'):
  X ⟨k,[{target:= .fn (.func g) cap,args:= #[]}]⟩ (bodyPostD P fn R) .ret L w:=by
 intro a b
 show Leaves P fn a.tmps R a.defers .returning w
 rw[b.2.1]
 refine leaves_cons ae (f:=g) (args:= #[]++cap) (by simp only[invoke];exact l _ _) (h.mono ?_)
 rintro e u w' ⟨rfl,v,rfl,vs,n,c⟩
 obtain⟨_,v',o,hR'⟩:=pG (P:=P) (k:=a.tmps.size) (fn:=fn) (R:=R) rvs vs d n c {a with defers:=[]} ⟨rfl,rfl,b.2.2⟩
 exact⟨v',o,hR'⟩
theorem Lr{k g:Nat}{cap:Array Value}{fn:Func}{z:Value}{R:Ending->World->Prop}(rvs:List ResultVar)(d:fn.results=rvs.toArray)(l:∀args w,(callFunc g args).run P w= .ok (.enter g args) w)
  (h:CallsD P g (#[]++cap) (.panicking [{v:=z,recovered:=false}]) w λe u w'=>u= .panicking [{v:=z,recovered:=true}]/\∃v,e= .returned v/\∃vs,ResAll P w' L rvs vs/\R (.returned (sM vs)) w'):
  X ⟨k,[{target:= .fn (.func g) cap,args:= #[]}]⟩ (bodyPostD P fn R) (.panic [{v:=z,recovered:=false}]) L w:=by
 intro a b
 show Leaves P fn a.tmps R a.defers (.panicking [{v:=z,recovered:=false}]) w
 rw[b.2.1]
 refine leaves_cons ae (f:=g) (args:= #[]++cap) (by simp only[invoke];exact l _ _) (h.mono ?_)
 rintro e u w' ⟨rfl,v,rfl,vs,n,c⟩
 obtain⟨_,v',o,hR'⟩:=pG (P:=P) (k:=a.tmps.size) (fn:=fn) (R:=R) rvs vs d n c {a with defers:=[]} ⟨rfl,rfl,b.2.2⟩
 exact⟨v',o,hR'⟩
def Be(P:Program)(ops:Array Oper)(L:bF)(i:Nat):Option Nat:=
 match ops[i]? with
 |none=>none
 |some o=>match qJ ops L o.guard with
  |some true=>bif rL L o.op then(match tQ P (execOp (oR L) o) with
   |some .recover=>o.dst
   |_=>none) else none
  |_=>none
theorem Wh{d:Nat}(h:Be P ops L i=some d):
  ∃o,ops[i]? =some o/\o.dst=some d/\qJ ops L o.guard=some true/\rL L o.op=true/\tQ P (execOp (oR L) o)=some .recover:=by
 unfold Be at h
 cases e:ops[i]? with
 |none=>simp[e] at h
 |some o=>
  simp only[e] at h
  cases a:qJ ops L o.guard with
  |none=>simp[a] at h
  |some b=>
   cases b with
   |false=>simp[a] at h
   |true=>
    simp only[a] at h
    cases c:rL L o.op with
    |false=>simp[c] at h
    |true=>
     simp only[c,cond_true] at h
     split at h
     .rename_i he;exact⟨o,rfl,h,a,c,he⟩
     cases h
theorem ZF{QS:Exit->Act->List Frame->World->Prop}{cs:List Frame}:∀(k i:Nat) (L L':bF) (w:World),nC P n ops k i L=some L'->
  (∀a,Fits n a L'->wpOpsS P ops QS (List.range' (i+k) (ops.size-(i+k))) a cs w)->∀a,Fits n a L->wpOpsS P ops QS (List.range' i (ops.size-i)) a cs w
 |0,i,L,L',w,h,g=>by simp[nC] at h;subst h;exact g
 |k+1,i,L,L',w,h,g=>by
  intro a f
  simp only[nC] at h
  cases l:ops[i]? with
  |none=>simp[l] at h
  |some o=>
   simp only[l] at h
   rw[MQ l]
   simp only[wpOpsS,l]
   cases q:qJ ops L o.guard with
   |none=>simp[q] at h
   |some b=>
    have c:=f.wanted q
    cases b with
    |false=>
     simp only[q] at h
     obtain⟨L1,r,s⟩:=jQ.1 h
     simp only[c,j9,jF]
     exact ZF k (i+1) L1 L' w s (by rw[fL,fU 1 k];exact g) _ (f.putL r)
    |true=>
     simp only[q] at h
     cases e:rL L o.op with
     |false=>simp[e] at h
     |true=>
      simp only[e,cond_true] at h
      obtain⟨v,p,h⟩:=jQ.1 h
      obtain⟨L1,r,s⟩:=jQ.1 h
      simp only[c,jH]
      have next:=ZF k (i+1) L1 L' w s (by rw[fL,fU 1 k];exact g) _ (f.putL r)
      rw[f.exec e]
      cases d:tQ P (execOp (oR L) o) with
      |none=>simp[d,PL] at p
      |some nx=>
       rw[BG d w]
       cases nx<;>simp[d,PL] at p
       case value u=>subst p;exact next
       case skip=>subst p;exact next
theorem Xp{fn:Func}{args:Array Value}{k:Nat}(c:fn.ntmps=k)(b:L.map (λp=>(args[p.1]?))=L.map λp=>some p.2)(a:Nat.ble args.size k=true):
  Fits ⟨k,[]⟩ {tmps:=args++Array.replicate (fn.ntmps-args.size) undef,defers:=[]} L:=by
 refine⟨?_,rfl,?_⟩
 .subst c
  have:args.size<=fn.ntmps:=kY a
  simp only[hH,hJ];omega
 intro t v e
 have:=(fB.1 b) (t,v) (BE e)
 have d:t<args.size:=(Array.getElem?_eq_some_iff.1 this).1
 simp only[Array.getElem?_append,d,jH]
 exact this
def OK:FrameMode->Value×FrameMode
 | .panicking ({v,recovered:=false,goexit:=false}::older)=>(v,.panicking ({v,recovered:=true}::older))
 |u=>(.nilIface,u)
theorem MN{g:FuncId}{fn:Func}{id:Nat}{rest:Code}{args:Array Value}{R:Ending->World->Prop}(u:FrameMode)(H:P.funcs[g]? =some fn)(F:fn.body=some (.seq (.region id ops false) rest)){k:Nat}(M:fn.ntmps=k)(L:bF)
  (E:L.map (λp=>(args[p.1]?))=L.map λp=>some p.2) (A:Nat.ble args.size k=true) {d:Nat} (S:Be P ops L 0=some d) (z:Nat.blt d k=true) (L':bF) (v:Value) (u':FrameMode) (hu':OK u=(v,u'))
  (U:nC P k ops (ops.size-1) 1 ((d,v)::L)=some L')
  (h:W none P ⟨k,[]⟩ rest (bodyPost P fn R) L' w):CallsD P g args u w λe b w'=>b=u'/\R e w':=by
 refine callsD_of_wpS H F λc₀ cs V=> ?_
 apply wpS_seq
 apply wpS_region
 have f:Fits ⟨k,[]⟩ _ L:=Xp M E A
 revert f
 generalize ({tmps:=args++Array.replicate (fn.ntmps-args.size) undef,defers:=[]}:Act)=a
 intro f
 obtain⟨o,t,x,Y,K,G⟩:=Wh S
 have D:List.range ops.size=List.range' 0 (ops.size-0):=by rw[List.range_eq_range',Nat.sub_zero]
 rw[D,MQ t]
 simp only[wpOpsS,t,f.wanted Y,jH]
 rw[f.exec K,BG G w]
 have c:∀cs',(∃b,b=u'/\cs'={c₀ with mode:=b}::cs)->∀a,Fits ⟨k,[]⟩ a ((d,v)::L)->wpOpsS P ops (Exit.thenS (rest.wpS P (bodyPostS P fn c₀ cs λe b w'=>b=u'/\R e w')) (bodyPostS P fn c₀ cs λe b w'=>b=u'/\R e w')) (List.range' (0+1) (ops.size-(0+1))) a cs' w:=by
  rintro cs' ⟨b,rfl,rfl⟩
  refine ZF _ 1 _ _ w U ?_
  intro B y
  have:ops.size-(1+(ops.size-1))=0:=by omega
  rw[this]
  simp only[List.range'_zero,wpOpsS,Exit.thenS]
  refine wpS_of_wp (wpIn_wide.1 (wpIn_mono (h B y) ?_))
  intro e Z w2 l
  cases e with
  |normal=>obtain⟨n,q,r,s⟩:=l;exact⟨n,_,rfl,q,r,rfl,s⟩
  |ret=>obtain⟨n,q,r,s⟩:=l;exact⟨n,_,rfl,q,r,rfl,s⟩
  |panic ch=>obtain⟨n,q⟩:=l;exact⟨n,_,rfl,rfl,q⟩
  |outgrown=>exact⟨_,rfl,l⟩
  |exit _=>exact l.elim
  |goto _=>exact l.elim
 subst V
 have key:recoverD (c₀::cs)=(match OK c₀.mode with|(v,b)=>match c₀.mode with
   | .panicking ({v:=_,recovered:=false,goexit:=false}::_)=>some (v,{c₀ with mode:=b}::cs)
   |_=>none):=by
  unfold recoverD OK
  dsimp only
  split<;>simp_all
 rw[key,hu']
 dsimp only
 split
 .rename_i v1 cs1 hm
  split at hm
  .obtain⟨rfl,rfl⟩:=Prod.mk.inj (jE hm)
   rw[x]
   exact c _ ⟨_,rfl,rfl⟩ _ (f.put z v)
  cases hm
 rename_i hm
 have l:OK c₀.mode=(.nilIface,c₀.mode):=by
  unfold OK
  split
  .rename_i hc;rw[hc] at hm;cases hm
  rfl
 rw[l] at hu'
 obtain⟨rfl,rfl⟩:=Prod.mk.inj hu'
 rw[x]
 exact c _ ⟨_,rfl,by cases c₀;rfl⟩ _ (f.put z _)
end
theorem HM{σ β:Type}{f:σ->Option (σ⊕β)}(st:Nat->σ)(k:Nat)(res:β)(step:∀i,i<k->f (st i)=some (.inl (st (i+1))))(stop:f (st k)=some (.inr res)){N:Nat}(b:k<N):aC f N (st 0)=some res:=by
 have key:∀d i M,i+d=k->d<M->aC f M (st i)=some res:=by
  intro d
  induction d with
  |zero=>intro i M h a;obtain⟨M',rfl⟩:∃M',M=M'+1:=⟨M-1,by omega⟩;simp only[gZ] at h;subst h;simp[aC,stop]
  |succ d c=>
   intro i M h a
   obtain⟨M',rfl⟩:∃M',M=M'+1:=⟨M-1,by omega⟩
   have:=c (i+1) M' aa aa
   simp[aC,step i aa,this]
 exact key k 0 N aa b
section
variable {ν:Type}
theorem Um{l:List (Int×ν)}{k c:Int}{v:ν}(h:c≠k):eL (l.map λp=>if k=p.1 then(k,v) else p) c=eL l c:=by
 induction l with
 |nil=>rfl
 |cons p l a=>
  simp only[kQ,eL]
  by_cases hk:k=p.1
  .subst hk;rw[jB rfl,jA h,jA h,a]
  rw[jA hk,a]
theorem Uv{l:List (Int×ν)}{k:Int}{v:ν}(h:(eL l k).isSome=true):eL (l.map λp=>if k=p.1 then(k,v) else p) k=some v:=by
 induction l with
 |nil=>cases h
 |cons p l a=>
  simp only[kQ,eL] at h ⊢
  by_cases hk:k=p.1
  .subst hk;simp
  rw[jA hk] at h ⊢
  rw[jA hk]
  exact a h
theorem Xj{l:List (Int×ν)}{k:Int}{v:ν}(h:eL l k=none)(c:Int):eL (mins l k v) c=if c=k then some v else eL l c:=by
 induction l with
 |nil=>rfl
 |cons p l a=>
  simp only[eL] at h
  split at h
  .cases h
  rename_i hk
  simp only[mins]
  split
  .simp only[eL]
  simp only[eL,a h]
  by_cases hc:c=k
  .subst hc;simp[hk]
  simp[hc]
theorem Yw(l:List (Int×ν))(k:Int)(v:ν)(c:Int):eL (mset l k v) c=if c=k then some v else eL l c:=by
 unfold mset
 split
 .rename_i h
  split
  .rename_i hc;subst hc;exact Uv h
  rename_i hc;exact Um hc
 rename_i h
 exact Xj (by simpa using h) c
def Srt(l:List (Int×ν)):Prop:=(l.map (·.1)).Pairwise (· < ·)
theorem Srt.nil:Srt ([]:List (Int×ν)):=List.Pairwise.nil
theorem Srt.mins{l:List (Int×ν)}{k:Int}{v:ν}(d:Srt l)(h:eL l k=none):Srt (mins l k v):=by
 induction l with
 |nil=>simp[Srt,Go.Dc.mins]
 |cons p l f=>
  have hs':=d
  simp only[Srt,kQ,jY] at d
  simp only[eL] at h
  split at h
  .cases h
  rename_i hk
  simp only[Go.Dc.mins]
  split
  .rename_i b
   have b:k<p.1:=by simpa[KOrd.lt] using b
   refine jY.2 ⟨λa c=> ?_,hs'⟩
   simp only[kQ,jK] at c
   rcases c with rfl|c
   .exact b
   exact Int.lt_trans b (d.1 a c)
  rename_i b
  have b:¬k<p.1:=by simpa[KOrd.lt] using b
  refine jY.2 ⟨λa c=> ?_,f d.2 h⟩
  obtain⟨q,e,rfl⟩:=gW.1 c
  rcases jK.1 ((Ho l k v).mem_iff.1 e) with rfl|e
  .show p.1<k;omega
  exact d.1 _ (gL e)
theorem Srt.mset{l:List (Int×ν)}(a:Srt l)(k:Int)(v:ν):Srt (mset l k v):=by
 unfold Go.Dc.mset
 split
 .unfold Srt
  have:(l.map λp=>if k=p.1 then(k,v) else p).map (·.1)=l.map (·.1):=by
   rw[List.map_map]
   refine List.map_congr_left λp _=> ?_
   simp only[Function.comp_apply]
   split
   .rename_i h;exact h
   rfl
  rw[this];exact a
 rename_i h
 exact a.mins (by simpa using h)
theorem Srt.out{l:List (Int×ν)}{c:Int}(h:∀a∈l.map (·.1),c<a):eL l c=none:=by
 rw[MS];intro b;exact Int.lt_irrefl _ (h c b)
theorem Srt.ext:∀{l k:List (Int×ν)},Srt l->Srt k->(∀c,eL l c=eL k c)->l=k
 |[],[],_,_,_=>rfl
 |[],q::k,_,_,h=>by have:=h q.1;simp[eL] at this
 |p::l,[],_,_,h=>by have:=h p.1;simp[eL] at this
 |p::l,q::k,n,g,h=>by
  have hl':(∀a∈l.map (·.1),p.1<a)/\Srt l:=jY.1 n
  have hk':(∀a∈k.map (·.1),q.1<a)/\Srt k:=jY.1 g
  have e:p.1=q.1:=by
   rcases Int.lt_trichotomy p.1 q.1 with d|f|d
   .have:=h p.1
    rw[Srt.out (l:=q::k) (c:=p.1)] at this
    .simp[eL] at this
    intro a b
    rcases jK.1 b with rfl|b
    .exact d
    exact Int.lt_trans d (hk'.1 a b)
   .exact f
   have:=h q.1
   rw[Srt.out (l:=p::l) (c:=q.1)] at this
   .simp[eL] at this
   intro a b
   rcases jK.1 b with rfl|b
   .exact d
   exact Int.lt_trans d (hl'.1 a b)
  have d:p.2=q.2:=by have:=h p.1;simpa[eL,e] using this
  have f:l=k:=by
   refine Srt.ext hl'.2 hk'.2 λc=> ?_
   by_cases hc:c=p.1
   .rw[Srt.out (l:=l) (λa b=>hc▸hl'.1 a b),Srt.out (l:=k) (λa b=>by rw[hc,e];exact hk'.1 a b)]
   have:=h c
   simpa[eL,hc,e▸hc] using this
  rw[f,Prod.ext e d]
def uM(v:ν)(m:List (Int×ν))(xs:List UInt8):List (Int×ν):=xs.foldl (λm x=>mset m (x.toNat:Int) v) m
theorem Fo{v:ν}:∀{xs:List UInt8} {m:List (Int×ν)},Srt m->Srt (uM v m xs)
 |[],_,h=>h
 |_::xs,_,h=>Fo (xs:=xs) (h.mset _ _)
theorem Gd{v:ν}(c:Int):∀(xs:List UInt8) (m:List (Int×ν)),eL (uM v m xs) c=if xs.any (λx=>decide ((x.toNat:Int)=c))then some v else eL m c
 |[],m=>by simp[uM]
 |x::xs,m=>by
  have:=Gd (v:=v) c xs (mset m (x.toNat:Int) v)
  rw[show uM v m (x::xs)=uM v (mset m (x.toNat:Int) v) xs from rfl,this,Yw]
  by_cases h1:xs.any (λx=>decide ((x.toNat:Int)=c))=true
  .simp[h1]
  by_cases h2:(x.toNat:Int)=c
  .subst h2;simp[h1]
  have a:¬c=(x.toNat:Int):=λe=>h2 e.symm
  simp[h1,h2,a]
end
theorem Mem.le.t{a b c:Mem}(h:a.le b)(k:b.le c):a.le c:=Mem.le_trans h k
theorem sI{α:Type}{a b:α}(h:some a=some b):a=b:=jE h
abbrev GoOn(K:Value->Prop):Ending->Prop
 | .returned v=>K v
 |_=>False
abbrev GoOnF(K:Value->Prop)(F:List PanicEntry->Prop):Ending->Prop
 | .returned v=>K v
 | .panicked ch=>F ch
 |_=>False
theorem GoOn.out{K:Value->Prop}{e:Ending}(h:GoOn K e):∃v,e= .returned v/\K v:=by
 cases e<;>first|exact⟨_,rfl,h⟩|exact h.elim
theorem GoOnF.out{K:Value->Prop}{F:List PanicEntry->Prop}{e:Ending}(h:GoOnF K F e):(∃v,e= .returned v/\K v)\/∃ch,e= .panicked ch/\F ch:=by
 cases e<;>first|exact .inl ⟨_,rfl,h⟩|exact .inr ⟨_,rfl,h⟩|exact h.elim
section
variable {ρ:Option Nat} {P:Program} {n:Fr} {ops:Array Oper} {Q:Exit->Act->World->Prop} {i:Nat} {L:bF} {w:World} {m:Mem} {own:List Piece} {N:bF->World->Prop}
theorem qCv{α β:Type}{f:Nat}{args:Array Value}{x:Option β}{k:β->Option α}{r:α}{T:β->Ending->World->Prop}(d:Nat)(o:x.bind k=some r)(c:∀y,x=some y->Calls P f args w (T y))
  (h:∀y,k y=some r->∀e w',T y e w'->GoOn (λv=>N ((d,v)::L) w') e) (l:sN P ops L i=some (some d,f,args):=by kernel_rfl) (g:Nat.blt d n=true:=by exact rfl):iO P n ops Q i N L w:=by
 obtain⟨y,a,b⟩:=jQ.1 o
 exact pP d f args l g ((c y a).mono λe w' p=>(h y b e w' p).out)
theorem qCa{α β:Type}{f:Nat}{args:Array Value}{x:Option β}{k:β->Option α}{r:α}{T:β->Ending->World->Prop}(d:Nat)(o:x.bind k=some r)(c:∀y,x=some y->Calls P f args w (T y))
  (h:∀y,k y=some r->∀e w',T y e w'->∃v,e= .returned v/\N ((d,v)::L) w') (l:sN P ops L i=some (some d,f,args):=by kernel_rfl) (g:Nat.blt d n=true:=by exact rfl):iO P n ops Q i N L w:=by
 obtain⟨y,a,b⟩:=jQ.1 o
 exact pP d f args l g ((c y a).mono λe w' p=>h y b e w' p)
theorem qEi{α β:Type}{f:Nat}{args:Array Value}{x:Option β}{k:β->Option α}{r:α}{T:β->Ending->World->Prop}(d:Nat)(g:x.bind k=some r)(a:∀y,x=some y->Calls P f args w (T y))
  (h:∀y,k y=some r->∀e w',T y e w'->GoOn (λv=>WO P n ops Q (i+1) ((d,v)::L) w') e) (c:sN P ops L i=some (some d,f,args):=by kernel_rfl) (b:Nat.blt d n=true:=by exact rfl) (hi:Nat.blt i ops.size=true:=by exact rfl):WO P n ops Q i L w:=
 vH hi (qCv d g a h c b)
theorem qAu{α β:Type}{f:Nat}{args:Array Value}{x:Option β}{k:β->Option α}{r:α}{T:β->Ending->World->Prop}(d:Nat)(o:x.bind k=some r)(c:∀y,x=some y->Calls P f args w (T y))
  (h:∀y,k y=some r->∀e w',T y e w'->GoOnF (λv=>N ((d,v)::L) w') (λch=>X n Q (.panic ch) L w') e) (l:sN P ops L i=some (some d,f,args):=by kernel_rfl) (g:Nat.blt d n=true:=by exact rfl):iO P n ops Q i N L w:=by
 obtain⟨y,a,b⟩:=jQ.1 o
 exact tZ d f args l g ((c y a).mono λe w' p=>(h y b e w' p).out)
theorem qCm{α β:Type}{f:Nat}{args:Array Value}{x:Option β}{k:β->Option α}{r:α}{T:β->Ending->World->Prop}(d:Nat)(g:x.bind k=some r)(a:∀y,x=some y->Calls P f args w (T y))
  (h:∀y,k y=some r->∀e w',T y e w'->GoOnF (λv=>WO P n ops Q (i+1) ((d,v)::L) w') (λch=>X n Q (.panic ch) L w') e) (c:sN P ops L i=some (some d,f,args):=by kernel_rfl) (b:Nat.blt d n=true:=by exact rfl) (hi:Nat.blt i ops.size=true:=by exact rfl):WO P n ops Q i L w:=
 vH hi (qAu d g a h c b)
def DQ:List Value->Nat->bF
 |[],_=>[]
 |v::l,k=>(k,v)::DQ l (k+1)
theorem Hh:∀(l:List Value) (k:Nat) (pre:List Value),pre.length=k->(DQ l k).map (λp=>((pre++l).toArray[p.1]?))=(DQ l k).map λp=>some p.2
 |[],_,_,_=>rfl
 |v::l,k,pre,h=>by
  simp only[DQ,kQ]
  have a:=Hh l (k+1) (pre++[v]) (by simp[h])
  rw[show pre++[v]++l=pre++v::l by simp] at a
  rw[a]
  congr 1
  subst h
  simp
theorem pU{f:FuncId}{fn:Func}{c:Code}{args:Array Value}{R:Ending->World->Prop}{k:Nat}(d:P.funcs[f]? =some fn)(b:fn.body=some c)(e:fn.ntmps=k)(h:W none P ⟨k,[]⟩ c (bodyPost P fn R) (DQ args.toList 0) w)
  (a:Nat.ble args.size k=true:=by exact rfl):Calls P f args w R:=
 qCo d b e (DQ args.toList 0) (by have:=Hh args.toList 0 [] rfl;simpa using this) a h
theorem aO{α:Type}{c:Operand}{x y:Code}{b:Bool}{A B:Option α}{r:α}(a:(if b then A else B)=some r)
  (f:b=true->A=some r->W ρ P n x Q L w) (e:b=false->B=some r->W ρ P n y Q L w) (d:bY L c=some (.bool b):=by kernel_rfl):W ρ P n (.cond c x y) Q L w:=
 rZ b d (λh=>f h (by rw[jB h] at a;exact a)) (λh=>e h (by rw[jA (by rw[h];exact gO)] at a;exact a))
theorem aI{y:Code}(h:W ρ P n y Q L w)(hi:ops.size=i:=by exact rfl):WO P n ops (Exit.then (λa w=>y.wpIn (lX ρ) 0 P Q a w) Q) i L w:=Bf hi h
theorem lJ{k:Nat}{fn:Func}{R:Ending->World->Prop}(ts:List Nat)(vs:List Value)(h:R (.returned (sM vs)) w)(b:fn.results=(ts.map ResultVar.tmp).toArray:=by exact rfl)(a:ts.map (mE L)=vs.map some:=by kernel_rfl):X ⟨k,[]⟩ (bodyPost P fn R) .ret L w:=by
 refine pG (ts.map .tmp) vs b ?_ h
 clear b h
 induction ts generalizing vs with
 |nil=>cases vs with
  |nil=>rfl
  |cons v vs=>cases a
 |cons t ts c=>cases vs with
  |nil=>cases a
  |cons v vs=>
   rw[kQ,kQ,kV] at a
   exact ResAll.cons (ResAt.tmp a.1) (c vs a.2)
instance opTmp(k:Nat):OfNat Operand k:=⟨.tmp k⟩
theorem qEp{e:TypeId}{b:Nat}{c:Array Value}{f:Nat×Nat}(d t:Nat)(x:Operand)(o:Nat)(v:Value)(k:Piece.holds m w (.blk b (.cells c e f)))(h:N ((d,v)::L) w)
 (g:eN ops L i=some (some d,.load t x):=by kernel_rfl) (a:Nat.blt d n=true:=by exact rfl) (p:bY L x=some (.pointer (some ⟨b,o,none⟩)):=by kernel_rfl) (l:tL P t (c.toList.drop o)=some v:=by kernel_rfl):iO P n ops Q i N L w:=Ds v g a p k l h
theorem tI{e:TypeId}{b:Nat}{c:Array Value}(t:Nat)(x y:Operand)(o:Nat)(v:Value)(c':Array Value)(d:St m (.blk b (.cells c e (0,0))::own) w)(h:∀w',St m (.blk b (.cells c' e (0,0))::own) w'->N L w')
 (f:eN ops L i=some (none,.store t x y):=by kernel_rfl) (g:bY L x=some (.pointer (some ⟨b,o,none⟩)):=by kernel_rfl) (k:bY L y=some v:=by kernel_rfl) (a:BH P t v o c.size=true:=by kernel_rfl)
 (hc':(c.toList.take o++v.cells.toList++c.toList.drop (o+v.cells.toList.length)).toArray=c':=by kernel_rfl):iO P n ops Q i N L w:=XW f g k d a hc' h
theorem iV{e:TypeId}{b:Nat}{c:Array Value}(t:Nat)(x y:Operand)(v:Value)(d:St m (.blk b (.cells c e (0,0))::own) w)(h:∀w',St m (.blk b (.cells v.cells e (0,0))::own) w'->N L w')
 (f:eN ops L i=some (none,.store t x y):=by kernel_rfl) (g:bY L x=some (.pointer (some ⟨b,0,none⟩)):=by kernel_rfl) (k:bY L y=some v:=by kernel_rfl) (a:BH P t v 0 c.size=true:=by kernel_rfl)
 (hc':(c.toList.take 0++v.cells.toList++c.toList.drop (0+v.cells.toList.length)).toArray=v.cells:=by kernel_rfl):iO P n ops Q i N L w:=XW f g k d a hc' h
theorem pN(d e:Nat)(v:Value)(a:St m own w)(h:∀b w',St m (.blk b (.cells v.cells e (0,0))::own) w'->N ((d,.pointer (some ⟨b,0,none⟩))::L) w')
 (f:eN ops L i=some (some d,.alloc e):=by kernel_rfl) (c:Nat.blt d n=true:=by exact rfl) (g:Ai P e=some v:=by kernel_rfl):iO P n ops Q i N L w:=Hu v f c g a h
theorem sO(d e:Nat)(x:Operand)(v:Value)(a:St m own w)(h:∀b w',St m (.blk b (.cells v.cells e (0,0))::own) w'->N ((d,.pointer (some ⟨b,0,none⟩))::L) w')
 (f:eN ops L i=some (some d,.box e x):=by kernel_rfl) (c:Nat.blt d n=true:=by exact rfl) (g:bY L x=some v:=by kernel_rfl):iO P n ops Q i N L w:=Ej v f c g a h
theorem xE{e:Exit}{L':bF}(h:X n Q e L' w)(a:L'.map (λp=>mE L p.1)=L'.map λp=>some p.2:=by kernel_rfl):X n Q e L w:=UP L' a h
theorem iA{m':Mem}{p:Prop}(st:St m' own w)(h:m.le m'):p\/Inv m w/\True:= .inr ⟨Inv.anti st.inv h,trivial⟩
theorem uK{α β:Type}{c:Codec α}{a:Option Addr}{cap:Nat}{l k:List α}{v:Value}{f:List α->Option β}{r:β}(d t u e by_:Nat)(x y:Operand)(g:St m (.room a l.length cap e c.sz::own) w)(D:zX P u e)(b:RepS c m a cap l)(s:II P c m v k)(B:(iK by_ l k).bind f=some r)
  (h:∀z,f z=some r->∀a' cap' m' w',m.le m'->St m' (.room a' (List.length z) cap' e c.sz::own) w'->RepS c m' a' cap' z->N ((d,.slice a' (List.length z) cap')::L) w')
  (A:eN ops L i=some (some d,.call {callee:= .builtin .append,args:= #[x,y],argTypes:= #[t,u]}):=by kernel_rfl) (q:Nat.blt d n=true:=by exact rfl) (E:bY L x=some (.slice a l.length cap):=by kernel_rfl) (F:bY L y=some v:=by kernel_rfl)
  (hi:zM P t=some (e,c.sz,by_,c.sz):=by kernel_rfl):iO P n ops Q i N L w:=by
 obtain⟨z,o,p⟩:=aM B;exact Wq c A q E F g hi D b s o (h z p)
theorem qGa{α:Type}{b:Bool}{A B:Option α}{r:α}(t:Nat)(a:(if b then A else B)=some r)(e:b=true->A=some r->WO P n ops Q i ((t,.bool true)::L) w)(d:b=false->B=some r->WO P n ops Q i ((t,.bool false)::L) w)
  (c:mE L t=some (.bool b):=by kernel_rfl):WO P n ops Q i L w:=by
 cases b with
 |true=>exact Kb true c rfl (e rfl (by rw[jB rfl] at a;exact a))
 |false=>exact Kb false c rfl (d rfl (by rw[jA gO] at a;exact a))
theorem tA{m':Mem}{p x:Prop}(st:St m' own w)(h:m.le m')(k:x):((p\/Inv m w/\True)/\True)/\x:=⟨⟨iA st h,trivial⟩,k⟩
class QC(Q:Exit->Act->World->Prop):Prop where
 out:QP Q
instance qc1{K:Act->World->Prop}[h:QC Q]:QC (Exit.then K Q):=⟨bU h.out⟩
instance qc2{id:Nat}[h:QC Q]:QC (Exit.inBlock id Q):=⟨iQ h.out⟩
instance qc3{fn:Func}{R:Ending->World->Prop}:QC (bodyPost P fn R):=⟨lR⟩
instance qc4[h:QC Q]:QC (UH Q):=⟨h.out⟩
instance qc5{fn:Func}{R:Ending->World->Prop}:QC (OA P fn R):=⟨λ_ _ _ _ _ h=>h⟩
instance qc6{l:Nat}{R:Ending->World->Prop}:QC (roundPost P l R):=⟨λ_ _ _ _ _ h=>h⟩
instance qc7{l:Nat}{body:Code}{R:Ending->World->Prop}:QC (Aw P l body R):=⟨λ_ _ _ _ _ h=>h⟩
instance qc8:QC (noP Q):=⟨λ_ _ _ _ _ h=>h⟩
variable [hq:QC Q] {ks:List (Nat×(World->Prop))} {k fuel:Nat} {S:World->Prop} {done:List Nat}
theorem qFj(i d:Nat)(v:Value)(a:(k,S)∈ks)(h:WA P n ops Q ks fuel (done++[i]) ((d,v)::L) w)(c:BM P ops L i=some (d,v):=by kernel_rfl)(b:Nat.blt d n=true:=by exact rfl)(e:pE ops ks k i done=true:=by kernel_rfl):WA P n ops Q ks (fuel+1) done L w:=
 Lf i d v c b e a hq.out h
theorem rF{e:Nat}{b:Nat}{c:Array Value}{f:Nat×Nat}(t':Nat)(x:Operand)(i d o:Nat)(v:Value)(a:(k,S)∈ks)(g:∀w,S w->Piece.holds m w (.blk b (.cells c e f)))(h:WA P n ops Q ks fuel (done++[i]) ((d,v)::L) w)
  (p:eN ops L i=some (some d,.load t' x):=by kernel_rfl) (l:Nat.blt d n=true:=by exact rfl) (q:pE ops ks k i done=true:=by kernel_rfl) (s:bY L x=some (.pointer (some ⟨b,o,none⟩)):=by kernel_rfl) (r:tL P t' (c.toList.drop o)=some v:=by kernel_rfl):WA P n ops Q ks (fuel+1) done L w:=
 Ek i d v p l q a hq.out g s r h
theorem qEu{α:Type}{k':BA->Option α}{r:α}{a b:BA}(t t2:Nat)(x y:Operand)(i d:Nat)(c:(k,S)∈ks)(o:(eO a b).bind k'=some r)(h:∀s,k' s=some r->WA P n ops Q ks fuel (done++[i]) ((d,.string s)::L) w)
  (l:eN ops L i=some (some d,.binOp .add t x y t2):=by kernel_rfl) (g:Nat.blt d n=true:=by exact rfl) (p:pE ops ks k i done=true:=by kernel_rfl) (q:bY L x=some (.string a):=by kernel_rfl) (u:bY L y=some (.string b):=by kernel_rfl):WA P n ops Q ks (fuel+1) done L w:=by
 obtain⟨z,e,f⟩:=aM o;exact qEk i d l g p c hq.out q u e (h z f)
def UR(P:Program)(n:Fr)(ops:Array Oper)(ks:List (Nat×(World->Prop)))(k i:Nat)(done:List Nat)(L:bF):Option (Nat×Value):=
 bif pE ops ks k i done then
  (match BM P ops L i with
  |some q=>bif Nat.blt q.1 n then some q else none
  |none=>(match((ops[i]?).bind λo=>(qJ ops L o.guard).map λb=>(o.dst,b)) with
   |some (some d,false)=>bif Nat.blt d n then some (d,undef) else none
   |_=>none))
 else none
def DU(P:Program)(n:Fr)(ops:Array Oper)(ks:List (Nat×(World->Prop)))(k:Nat):List Nat->List Nat->bF->Option bF
 |[],_,_=>some []
 |i::l,done,L=>match UR P n ops ks k i done L with
  |some q=>(match DU P n ops ks k l (done++[i]) (q::L) with
   |some r=>some (q::r)
   |none=>none)
  |none=>none
def Bp(L:bF):bF->bF
 |[]=>L
 |q::r=>Bp (q::L) r
theorem qFf{i:Nat}{q:Nat×Value}(c:(k,S)∈ks)(a:UR P n ops ks k i done L=some q)(h:WA P n ops Q ks fuel (done++[i]) (q::L) w):WA P n ops Q ks (fuel+1) done L w:=by
 unfold UR at a
 cases e:pE ops ks k i done with
 |false=>rw[e] at a;cases a
 |true=>
  rw[e] at a
  cases hp:BM P ops L i with
  |some z=>
   rw[hp] at a
   cases b:Nat.blt z.1 n with
   |false=>simp only[b,cond_true,cond_false] at a;cases a
   |true=>
    simp only[b,cond_true] at a
    cases a
    exact Lf i q.1 q.2 hp b e c hq.out h
  |none=>
   rw[hp] at a
   simp only[cond_true] at a
   split at a
   .rename_i d ho
    cases b:Nat.blt d n with
    |false=>rw[b] at a;cases a
    |true=>
     rw[b] at a
     cases a
     exact qEx i d ho b e c hq.out h
   cases a
end
theorem qEz{m m':Mem}{own:List Piece}{w:World}{b:Nat}{o:Obj}(g:St m' own w)(a:m.le m')(c:Piece.blk b o∈own):Piece.holds m w (.blk b o):=Piece.holds_anti (g.2.1 _ c) a
theorem qEj{m m':Mem}{own:List Piece}{w:World}{a:Option Addr}{cs:Array Value}{e:TypeId}(g:St m' own w)(b:m.le m')(c:cT a cs e∈own):Piece.holds m w (cT a cs e):=qAi (g.2.1 _ c) b
end
end Go.Dc
section
abbrev Prod.d{α β γ:Type}(x:α×β×γ):γ:=x.2.2
abbrev Prod.e{α β γ δ:Type}(x:α×β×γ×δ):δ:=x.2.2.2
abbrev Prod.f{α β γ δ ε:Type}(x:α×β×γ×δ×ε):ε:=x.2.2.2.2
abbrev Prod.h{α β γ δ ε ζ:Type}(x:α×β×γ×δ×ε×ζ):ζ:=x.2.2.2.2.2
abbrev Prod.j{α β γ δ ε ζ η:Type}(x:α×β×γ×δ×ε×ζ×η):η:=x.2.2.2.2.2.2
abbrev Prod.k{α β γ δ ε ζ η θ:Type}(x:α×β×γ×δ×ε×ζ×η×θ):θ:=x.2.2.2.2.2.2.2
namespace Go.Dc
class Enc{α:Type}(c:Codec α) where
 enc:α->List Value
 ok:∀m x,c.rep m x (enc x)
instance encStr:Enc aB:=⟨λx=>[.string x],λ_ _=>rfl⟩
instance encInt{k:IntKind}:Enc (aG k):=⟨λx=>[.int k x],λ_ _=>rfl⟩
instance encBool:Enc cO:=⟨λx=>[.bool x],λ_ _=>rfl⟩
instance encPair{α β:Type}{a:Codec α}{b:Codec β}[A:Enc a][B:Enc b]:Enc (sA a b):=⟨λx=>A.enc x.1++B.enc x.2,λm x=>⟨_,_,rfl,A.ok m x.1,B.ok m x.2⟩⟩
def Bq{α:Type}(c:Codec α)[E:Enc c]:List α->List Value
 |[]=>[]
 |x::l=>E.enc x++Bq c l
theorem Jm{α:Type}{c:Codec α}[E:Enc c]{m:Mem}:∀l:List α,RepAll c m l (Bq c l)
 |[]=>rfl
 |x::l=>⟨_,_,rfl,E.ok m x,Jm l⟩
section
variable {ρ:Option Nat} {P:Program} {n:Fr} {ops:Array Oper} {Q:Exit->Act->World->Prop} {i:Nat} {L:bF} {w:World} {m:Mem} {own:List Piece}
def My(P:Program)(ops:Array Oper)(L:bF)(i:Nat):Option (Nat×Nat×TypeId×List Value):=
 match eN ops L i with
 |some (some d,.buildSlice t len parts)=>(XN P t len (parts.map λp=>(p.1,oR L p.2)).toList).map λz=>(d,len,z)
 |_=>none
theorem iF{α:Type}(d e len:Nat)(c:Codec α)[E:Enc c](xs:List α)(k:St m own w)
  (h:∀b m' w',m.le m'->St m' (.room (some ⟨b,0,none⟩) xs.length len e c.sz::own) w'->RepS c m' (some ⟨b,0,none⟩) len xs->WO P n ops Q (i+1) ((d,.slice (some ⟨b,0,none⟩) xs.length len)::L) w')
  (a:My P ops L i=some (d,len,e,Bq c xs):=by kernel_rfl) (l:Nat.blt d n=true:=by exact rfl) (f:len=xs.length:=by exact rfl) (g:Nat.ble len maxLen=true:=by exact rfl) (hi:Nat.blt i ops.size=true:=by exact rfl):WO P n ops Q i L w:=by
 unfold My at a
 split at a
 .rename_i ha
  simp only[jL,Prod.mk.injEq] at a
  obtain⟨z,o,rfl,rfl,rfl⟩:=a
  exact vH hi (qH c _ ha l (λ_=>qI o _) f g k (Jm xs) h)
 cases a
def BP(P:Program)(ops:Array Oper)(L:bF)(i:Nat)(c:List Value):Option (Nat×Nat×Value):=
 match eN ops L i with
 |some (some d,.load t x)=>match bY L x with
  |some (.pointer (some ⟨b,o,none⟩))=>(tL P t (c.drop o)).map λv=>(d,b,v)
  |_=>none
 |_=>none
theorem qFe{e:TypeId}{b:Nat}{c:Array Value}{f:Nat×Nat}(d:Nat)(v:Value)(k:Piece.holds m w (.blk b (.cells c e f)))(h:WO P n ops Q (i+1) ((d,v)::L) w)
  (a:BP P ops L i c.toList=some (d,b,v):=by kernel_rfl) (g:Nat.blt d n=true:=by exact rfl) (hi:Nat.blt i ops.size=true:=by exact rfl):WO P n ops Q i L w:=by
 unfold BP at a
 split at a
 .rename_i ha
  split at a
  .rename_i hb
   simp only[jL,Prod.mk.injEq] at a
   obtain⟨z,l,rfl,rfl,rfl⟩:=a
   exact vH hi (Ds _ ha g hb k l h)
  cases a
 cases a
def AC(P:Program)(ops:Array Oper)(L:bF)(i:Nat)(c:List Value):Option (Nat×Nat×Nat×Value):=
 match eN ops L i with
 |some (some d,.load t x)=>match bY L x with
  |some (.pointer (some ⟨b,o,none⟩))=>(tL P t c).map λv=>(d,b,o,v)
  |_=>none
 |_=>none
theorem qFz{b o:Nat}{cs:List Value}(d:Nat)(v:Value)(c:St m own w)(f:MRow m b o cs)(h:WO P n ops Q (i+1) ((d,v)::L) w)
  (a:AC P ops L i cs=some (d,b,o,v):=by kernel_rfl) (e:Nat.blt d n=true:=by exact rfl) (hi:Nat.blt i ops.size=true:=by exact rfl):WO P n ops Q i L w:=by
 unfold AC at a
 split at a
 .rename_i ha
  split at a
  .rename_i hb
   simp only[jL,Prod.mk.injEq] at a
   obtain⟨z,g,rfl,rfl,rfl,rfl⟩:=a
   exact vH hi (Ud _ ha e hb c f g h)
  cases a
 cases a
def Bk(P:Program)(ops:Array Oper)(L:bF)(i:Nat)(c:Array Value):Option (Nat×Array Value):=
 match eN ops L i with
 |some (none,.store t x y)=>match bY L x with
  |some (.pointer (some ⟨b,o,none⟩))=>match bY L y with
   |some v=>bif BH P t v o c.size then some (b,(c.toList.take o++v.cells.toList++c.toList.drop (o+v.cells.toList.length)).toArray) else none
   |none=>none
  |_=>none
 |_=>none
theorem lA{e:TypeId}{b:Nat}{c:Array Value}(c':Array Value)(d:St m (.blk b (.cells c e (0,0))::own) w)(h:∀w',St m (.blk b (.cells c' e (0,0))::own) w'->WO P n ops Q (i+1) L w')
  (a:Bk P ops L i c=some (b,c'):=by kernel_rfl) (hi:Nat.blt i ops.size=true:=by exact rfl):WO P n ops Q i L w:=by
 unfold Bk at a
 split at a
 .rename_i ha
  split at a
  .rename_i hb
   split at a
   .rename_i hv
    cases hk:BH P _ _ _ c.size with
    |true=>
     rw[hk,cond_true] at a
     simp only[jJ,Prod.mk.injEq] at a
     obtain⟨rfl,f⟩:=a
     exact vH hi (XW ha hb hv d hk f h)
    |false=>rw[hk,cond_false] at a;cases a
   cases a
  cases a
 cases a
theorem aZ{e:TypeId}{b:Nat}{c:Array Value}(v:Value)(a:St m (.blk b (.cells c e (0,0))::own) w)(h:∀w',St m (.blk b (.cells v.cells e (0,0))::own) w'->WO P n ops Q (i+1) L w')
 (d:Bk P ops L i c=some (b,v.cells):=by kernel_rfl) (hi:Nat.blt i ops.size=true:=by exact rfl):WO P n ops Q i L w:=lA v.cells a h d hi
def Mw(P:Program)(ops:Array Oper)(L:bF)(i:Nat):Option (Nat×Nat×Value):=
 match eN ops L i with
 |some (some d,.alloc e)=>(Ai P e).map λv=>(d,e,v)
 |_=>none
theorem bX(d e:Nat)(v:Value)(c:St m own w)(h:∀b w',St m (.blk b (.cells v.cells e (0,0))::own) w'->WO P n ops Q (i+1) ((d,.pointer (some ⟨b,0,none⟩))::L) w')
  (a:Mw P ops L i=some (d,e,v):=by kernel_rfl) (f:Nat.blt d n=true:=by exact rfl) (hi:Nat.blt i ops.size=true:=by exact rfl):WO P n ops Q i L w:=by
 unfold Mw at a
 split at a
 .rename_i ha
  simp only[jL,Prod.mk.injEq] at a
  obtain⟨z,g,rfl,rfl,rfl⟩:=a
  exact vH hi (Hu _ ha f g c h)
 cases a
def Mx(ops:Array Oper)(L:bF)(i:Nat):Option (Nat×Nat×Value):=
 match eN ops L i with
 |some (some d,.box e x)=>(bY L x).map λv=>(d,e,v)
 |_=>none
theorem eC(d e:Nat)(v:Value)(c:St m own w)(h:∀b m' w',m.le m'->St m' own w'->MRow m' b 0 v.cells.toList->WO P n ops Q (i+1) ((d,.pointer (some ⟨b,0,none⟩))::L) w')
  (a:Mx ops L i=some (d,e,v):=by kernel_rfl) (f:Nat.blt d n=true:=by exact rfl) (hi:Nat.blt i ops.size=true:=by exact rfl):WO P n ops Q i L w:=by
 unfold Mx at a
 split at a
 .rename_i ha
  simp only[jL,Prod.mk.injEq] at a
  obtain⟨z,g,rfl,rfl,rfl⟩:=a
  exact vH hi (qCt _ ha f g c h)
 cases a
def Nd(P:Program)(ops:Array Oper)(L:bF)(i:Nat):Option (Nat×BA×Int):=
 match eN ops L i with
 |some (some d,.index t x y)=>match bY L x with
  |some (.string s)=>match bY L y with
   |some (.int .i64 z)=>match P.underlying t with
    |some .string=>some (d,s,z)
    |_=>none
   |_=>none
  |_=>none
 |_=>none
theorem mP{α:Type}{k:UInt8->Option α}{r:α}{s:BA}{ix:Int}(d:Nat)(f:(lH s ix).bind k=some r)(h:∀z:UInt8,k z=some r->WO P n ops Q (i+1) ((d,.int .u8 (z.toNat:Int))::L) w)
  (a:Nd P ops L i=some (d,s,ix):=by kernel_rfl) (e:Nat.blt d n=true:=by exact rfl) (hi:Nat.blt i ops.size=true:=by exact rfl):WO P n ops Q i L w:=by
 obtain⟨z,b,c⟩:=aM f
 unfold Nd at a
 split at a
 .rename_i ha
  split at a
  .rename_i hb
   split at a
   .rename_i hc
    split at a
    .rename_i hu
     cases a
     exact vH hi (Ub (k:= .i64) ha e hb hc hu b (h z c))
    cases a
   cases a
  cases a
 cases a
def UW(ops:Array Oper)(L:bF)(i:Nat):Option (Nat×BA×BA):=
 match eN ops L i with
 |some (some d,.binOp .add _ x y _)=>match bY L x with
  |some (.string s)=>match bY L y with
   |some (.string z)=>some (d,s,z)
   |_=>none
  |_=>none
 |_=>none
theorem qFn{α:Type}{k:BA->Option α}{r:α}{a b:BA}(d:Nat)(l:(eO a b).bind k=some r)(h:∀s,k s=some r->WO P n ops Q (i+1) ((d,.string s)::L) w)
  (c:UW ops L i=some (d,a,b):=by kernel_rfl) (g:Nat.blt d n=true:=by exact rfl) (hi:Nat.blt i ops.size=true:=by exact rfl):WO P n ops Q i L w:=by
 obtain⟨z,e,f⟩:=aM l
 unfold UW at c
 split at c
 .rename_i ha
  split at c
  .rename_i hb
   split at c
   .rename_i hc
    cases c
    exact vH hi (qDo ha g hb hc e (h z f))
   cases c
  cases c
 cases c
def UX(P:Program)(ops:Array Oper)(L:bF)(i:Nat):Option (Nat×Value×Int×Nat):=
 match eN ops L i with
 |some (some d,.indexAddr t x y)=>match bY L x with
  |some v=>match bY L y with
   |some (.int .i64 z)=>(tY P t).map λq=>(d,v,z,q.2)
   |_=>none
  |_=>none
 |_=>none
theorem qFc{α β:Type}{c:Codec α}{a:Option Addr}{cap:Nat}{l:List α}{ix:Int}{k:α->Option β}{r:β}(d:Nat)(g:RepS c m a cap l)(x:(bC l ix).bind k=some r)
  (h:∀z,k z=some r->∀b o cs,c.rep m z cs->MRow m b o cs->WO P n ops Q (i+1) ((d,.pointer (some ⟨b,o,none⟩))::L) w)
  (f:UX P ops L i=some (d,.slice a l.length cap,ix,c.sz):=by kernel_rfl) (u:Nat.blt d n=true:=by exact rfl) (hi:Nat.blt i ops.size=true:=by exact rfl):WO P n ops Q i L w:=by
 obtain⟨z,q,t⟩:=aM x
 unfold UX at f
 split at f
 .rename_i ha
  split at f
  .rename_i hb
   split at f
   .rename_i hc
    simp only[jL,Prod.mk.injEq] at f
    obtain⟨⟨e,s⟩,v,rfl,rfl,rfl,p⟩:=f
    simp only at p
    subst p
    exact vH hi (Yy (k:= .i64) c ha u hb hc v g q (h z t))
   cases f
  cases f
 cases f
theorem oB{α β:Type}{c:Codec α}{a:Option Addr}{cap:Nat}{l k:List α}{v:Value}{f:List α->Option β}{r:β}(d t u e by_:Nat)(x y:Operand)(g:St m (.room a l.length cap e c.sz::own) w)(B:zX P u e)(b:RepS c m a cap l)(p:II P c m v k)(A:(iK by_ l k).bind f=some r)
 (h:∀z,f z=some r->∀a' cap' m' w',m.le m'->St m' (.room a' (List.length z) cap' e c.sz::own) w'->RepS c m' a' cap' z->WO P n ops Q (i+1) ((d,.slice a' (List.length z) cap')::L) w')
 (s:eN ops L i=some (some d,.call {callee:= .builtin .append,args:= #[x,y],argTypes:= #[t,u]}):=by kernel_rfl) (o:Nat.blt d n=true:=by exact rfl) (D:bY L x=some (.slice a l.length cap):=by kernel_rfl) (E:bY L y=some v:=by kernel_rfl)
 (hi:zM P t=some (e,c.sz,by_,c.sz):=by kernel_rfl) (q:Nat.blt i ops.size=true:=by exact rfl):WO P n ops Q i L w:=vH q (uK d t u e by_ x y g B b p A h s o D E hi)
theorem Xv{σ β:Type}{f:σ->Option (σ⊕β)}{k:Nat}{s:σ}{b:β}(h:aC f (k+1) s=some b):∃c,f s=some c/\(∀s',.inl s'=c->aC f k s'=some b)/\(∀b',.inr b'=c->b'=b):=by
 obtain⟨c,a,d,g⟩:=Vz h
 exact⟨c,a,λs' e=>d s' e.symm,λb' e=>g b' e.symm⟩
theorem X_rd{k:Nat}{I:Nat->bF->World->Prop}(h:I k L w):X n (Exit.then (λa' w'=>∃k' L',k'<k+1/\Fits n a' L'/\I k' L' w') Q) .normal L w:=qCk k (Nat.lt_succ_self k) h
theorem qFq{α β:Type}{x:Option α}{f:α->Option β}{b:β}{c:Code}(e:Exit)(k:x.bind f=some b)(I:α->bF->World->Prop)(d:∀o,f o=some b->∀L' w',I o L' w'->X n Q e L' w')
  (a:∀o,x=some o->(∀L' w',I o L' w'->X n Q e L' w')->W ρ P n c Q L w):W ρ P n c Q L w:=by
 obtain⟨o,g,h⟩:=aM k
 exact a o g (d o h)
theorem qEq{α β:Type}{x:Option α}{f:α->Option β}{b:β}(j:Nat)(g:x.bind f=some b)(I:α->bF->World->Prop)(a:∀o,f o=some b->∀L' w',I o L' w'->WO P n ops Q j L' w')
  (c:∀o,x=some o->(∀L' w',I o L' w'->WO P n ops Q j L' w')->WO P n ops Q i L w):WO P n ops Q i L w:=by
 obtain⟨o,d,e⟩:=aM g
 exact c o d (a o e)
class RetQ(P:outParam Program)(Q:Exit->Act->World->Prop)(fn:outParam Func)(R:outParam (Ending->World->Prop)):Prop where
 out:∀a w,bodyPost P fn R .ret a w->Q .ret a w
instance rq1{fn:Func}{R:Ending->World->Prop}:RetQ P (bodyPost P fn R) fn R:=⟨λ_ _ h=>h⟩
instance rq2{fn:Func}{R:Ending->World->Prop}{K:Act->World->Prop}[h:RetQ P Q fn R]:RetQ P (Exit.then K Q) fn R:=⟨h.out⟩
instance rq3{fn:Func}{R:Ending->World->Prop}{id:Nat}[h:RetQ P Q fn R]:RetQ P (Exit.inBlock id Q) fn R:=⟨h.out⟩
theorem tM{k:Nat}{fn:Func}{R:Ending->World->Prop}[hq:RetQ P Q fn R]{b e:Nat}{c:Array Value}{f:Nat×Nat}(s t:Nat)(ts:List Nat)(vs:List Value)(n:Piece.holds m w (.blk b (.cells c e f)))(h:R (.returned (sM (.agg c::vs))) w)
  (l:fn.results=(ResultVar.cell s t::ts.map ResultVar.tmp).toArray:=by exact rfl) (p:mE L s=some (.pointer (some ⟨b,0,none⟩)):=by kernel_rfl) (q:tL P t c.toList=some (.agg c):=by kernel_rfl) (d:ts.map (mE L)=vs.map some:=by kernel_rfl):X ⟨k,[]⟩ Q .ret L w:=by
 refine λa g=>hq.out a w (pG (ResultVar.cell s t::ts.map .tmp) (.agg c::vs) l (ResAll.cons (ResAt.blk (o:=0) p n (by simpa using q)) ?_) h a g)
 clear l h p q n g hq
 induction ts generalizing vs with
 |nil=>cases vs with
  |nil=>rfl
  |cons v vs=>cases d
 |cons t ts r=>cases vs with
  |nil=>cases d
  |cons v vs=>
   rw[kQ,kQ,kV] at d
   exact ResAll.cons (ResAt.tmp d.1) (r vs d.2)
end
end Go.Dc
end
namespace Go.Dc
section
section
variable {ρ:Option Nat} {P:Program} {n:Fr} {ops:Array Oper} {Q:Exit->Act->World->Prop} {i:Nat} {L:bF} {w:World} {m:Mem} {own:List Piece}
theorem bH{f:FuncId}{fn:Func}{c:Code}{args:Array Value}{R:Ending->World->Prop}{k:Nat}(_g:St m own w)(hf:P.funcs[f]? =some fn)(hb:fn.body=some c)(hn:fn.ntmps=k)(h:m.le m->W none P ⟨k,[]⟩ c (bodyPost P fn R) (DQ args.toList 0) w)
 (hsz:Nat.ble args.size k=true:=by exact rfl):Calls P f args w R:=pU hf hb hn (h m.le_refl) hsz
theorem eH{σ β:Type}{f:σ->Option (σ⊕β)}{k:Nat}{s:σ}{b:β}(h:aC f k s=some b):∃k' c,k=k'+1/\f s=some c/\(∀s',.inl s'=c->aC f k' s'=some b)/\(∀b',.inr b'=c->b'=b):=by
 cases k with
 |zero=>exact Wb h
 |succ k=>
  obtain⟨c,h1,h2,h3⟩:=Xv h
  exact⟨k,c,rfl,h1,h2,h3⟩
theorem eF{c:Code}{L':bF}(I:Nat->bF->World->Prop)(k:Nat)(h0:I k L' w)
 (round:∀k L w,I k L w->W ρ P n c (Exit.then (λa' w'=>∃k' L',k'<k/\Fits n a' L'/\I k' L' w') Q) L w) (hs:L'.map (λp=>mE L p.1)=L'.map λp=>some p.2:=by kernel_rfl):W ρ P n (.loop c) Q L w:=qFk L' hs (qFa I k h0 round)
theorem dX{k:Nat}{I:Nat->bF->World->Prop}{L':bF}(h:I k L' w)(hs:L'.map (λp=>mE L p.1)=L'.map λp=>some p.2:=by kernel_rfl):X n (Exit.then (λa' w'=>∃k' L',k'<k+1/\Fits n a' L'/\I k' L' w') Q) .normal L w:=UP L' hs (X_rd h)
theorem cX(h:X n Q .normal L w)(hi:ops.size=i:=by exact rfl):WO P n ops Q i L w:=Mg hi h
theorem bS(h:iO P n ops Q i (λL' w'=>WO P n ops Q (i+1) L' w') L w)(hi:Nat.blt i ops.size=true:=by exact rfl):WO P n ops Q i L w:=vH hi h
theorem Mu{L':bF}(h:WO P n ops Q i L' w)(hs:L'.map (λp=>mE L p.1)=L'.map λp=>some p.2:=by kernel_rfl):WO P n ops Q i L w:=Mf L' hs h
theorem cE{α β:Type}{x:Option α}{f:α->Option β}{b:β}{c:Code}(e:Exit)(hr:x.bind f=some b)(I:α->bF->World->Prop)(hend:∀o,f o=some b->∀L' w',I o L' w'->X n Q e L' w')
  (hbody:∀o,x=some o->(∀{a:α} {L':bF} {w':World},some a=some o->I a L' w'->X n Q e L' w')->W ρ P n c Q L w):W ρ P n c Q L w:=
 qFq e hr I hend λo h K=>hbody o h λh' k=>K _ _ (sI h'▸k)
theorem iY{α β:Type}{x:Option α}{f:α->Option β}{b:β}(j:Nat)(hr:x.bind f=some b)(I:α->bF->World->Prop)(hend:∀o,f o=some b->∀L' w',I o L' w'->WO P n ops Q j L' w')
  (hreg:∀o,x=some o->(∀{a:α} {L':bF} {w':World},some a=some o->I a L' w'->WO P n ops Q j L' w')->WO P n ops Q i L w):WO P n ops Q i L w:=
 qEq j hr I hend λo h K=>hreg o h λh' k=>K _ _ (sI h'▸k)
variable [hq:QC Q] {ks':List (Nat×(World->Prop))} {k fuel:Nat} {S:World->Prop} {done:List Nat}
theorem qFr(i d:Nat)(v:Value)(h:WA P n ops Q ((k,S)::ks') fuel (done++[i]) ((d,v)::L) w)(ho:BM P ops L i=some (d,v):=by kernel_rfl)(hd:Nat.blt d n=true:=by exact rfl)(hs:pE ops ((k,S)::ks') k i done=true:=by kernel_rfl):WA P n ops Q ((k,S)::ks') (fuel+1) done L w:=
 qFj i d v (.head _) h ho hd hs
theorem nU{α:Type}{k':BA->Option α}{r:α}{a b:BA}(t t2:Nat)(x y:Operand)(i d:Nat)(hr:(eO a b).bind k'=some r)(h:∀s,k' s=some r->WA P n ops Q ((k,S)::ks') fuel (done++[i]) ((d,.string s)::L) w)
  (ho:eN ops L i=some (some d,.binOp .add t x y t2):=by kernel_rfl) (hd:Nat.blt d n=true:=by exact rfl) (hs:pE ops ((k,S)::ks') k i done=true:=by kernel_rfl) (hx:bY L x=some (.string a):=by kernel_rfl) (hy:bY L y=some (.string b):=by kernel_rfl):WA P n ops Q ((k,S)::ks') (fuel+1) done L w:=
 qEu t t2 x y i d (.head _) hr h ho hd hs hx hy
theorem qFd{e:Nat}{b:Nat}{c:Array Value}{f:Nat×Nat}(i d:Nat)(v:Value)(hI:∀w,S w->Piece.holds m w (.blk b (.cells c e f)))(h:WA P n ops Q ((k,S)::ks') fuel (done++[i]) ((d,v)::L) w)
  (ho:BP P ops L i c.toList=some (d,b,v):=by kernel_rfl) (hd:Nat.blt d n=true:=by exact rfl) (hs:pE ops ((k,S)::ks') k i done=true:=by kernel_rfl):WA P n ops Q ((k,S)::ks') (fuel+1) done L w:=by
 unfold BP at ho
 split at ho
 .rename_i ha
  split at ho
  .rename_i hb
   simp only[jL,Prod.mk.injEq] at ho
   obtain⟨z,hz,rfl,rfl,rfl⟩:=ho
   exact Ek i _ _ ha hd hs (.head _) hq.out hI hb hz h
  cases ho
 cases ho
theorem qFt{b o:Nat}{cs:List Value}(i d:Nat)(v:Value)(hr:MRow m b o cs)(h:WA P n ops Q ((k,λw=>Inv m w/\S w)::ks') fuel (done++[i]) ((d,v)::L) w)
  (ho:AC P ops L i cs=some (d,b,o,v):=by kernel_rfl) (hd:Nat.blt d n=true:=by exact rfl) (hs:pE ops ((k,λw=>Inv m w/\S w)::ks') k i done=true:=by kernel_rfl):WA P n ops Q ((k,λw=>Inv m w/\S w)::ks') (fuel+1) done L w:=by
 unfold AC at ho
 split at ho
 .rename_i ha
  split at ho
  .rename_i hb
   simp only[jL,Prod.mk.injEq] at ho
   obtain⟨z,hz,rfl,rfl,rfl,rfl⟩:=ho
   exact Ui i _ _ ha hd hs (.head _) hq.out (λ_ h=>h.1) hb hr hz h
  cases ho
 cases ho
end
theorem cH{A B C:World->Prop}(w:World)(h:A w/\B w/\C w):B w:=h.2.1
theorem nV{A B C D:World->Prop}(w:World)(h:A w/\B w/\C w/\D w):C w:=h.2.2.1
theorem EG{A B C D E:World->Prop}(w:World)(h:A w/\B w/\C w/\D w/\E w):D w:=h.2.2.2.1
theorem RepS.o{α:Type}{c:Codec α}{m m':Mem}{a:Option Addr}{cap:Nat}{l:List α}(h:RepS c m a cap l)(hle:m.le m'):RepS c m' a cap l:=h.mono hle
theorem MRow.o{m m':Mem}{b o:Nat}{cs:List Value}(h:MRow m b o cs)(hle:m.le m'):MRow m' b o cs:=h.mono hle
theorem MapQ.o{κ ν:Type}{ek:κ->Value}{c:Codec ν}{agg:Bool}{m m':Mem}{q:Option Nat}{es:Array MapEntry}{ck:Nat}{o:Option (List (κ×ν))}(h:MapQ ek c agg m q es ck o)(hle:m.le m'):MapQ ek c agg m' q es ck o:=h.mono hle
theorem ItR.o{κ ν:Type}{ek:κ->Value}{c:Codec ν}{agg:Bool}{m m':Mem}{es:Array MapEntry}{seen:Array Nat}{rem:List (κ×ν)}(h:ItR ek c agg m es seen rem)(hle:m.le m'):ItR ek c agg m' es seen rem:=h.mono hle
theorem aF{m m':Mem}{own:List Piece}{w:World}{p:Prop}(st:St m' own w)(hle:m.le m')(h:Inv m w->(∀{b:Nat} {o:Obj},List.Mem (Piece.blk b o) own->Piece.holds m w (.blk b o))->(∀{a:Option Addr} {cs:Array Value} {e:TypeId},List.Mem (cT a cs e) own->Piece.holds m w (cT a cs e))->p:=by
 intro hI hB hO
 repeat' first
  |with_reducible exact hI
  |with_reducible exact trivial
  |with_reducible refine And.intro ?_ ?_
  |with_reducible (refine hB ?_;(repeat' first|exact List.Mem.head _|apply List.Mem.tail);done)
  |with_reducible (refine hO ?_;(repeat' first|exact List.Mem.head _|apply List.Mem.tail);done)
  |(refine hB ?_;(repeat' first|exact List.Mem.head _|apply List.Mem.tail);done)
  |(refine hO ?_;(repeat' first|exact List.Mem.head _|apply List.Mem.tail);done)):p:=h (Inv.anti st.inv hle) (λhm=>qEz st hle hm) (λhm=>qEj st hle hm)
theorem aL{A S:Prop}(h:S):(A\/S)/\True:=⟨.inr h,trivial⟩
theorem rJ{A B S T:Prop}(h:S)(b:B:=by kernel_rfl):(A\/S)/\(B\/T)/\True:=⟨.inr h,.inl b,trivial⟩
theorem lI{A B S T:Prop}(h:S)(k:T):(A\/S)/\(B\/T)/\True:=⟨.inr h,.inr k,trivial⟩
abbrev cZ(s:BA):Value:= .string s
abbrev cS(n:Int):Value:= .int .i64 n
abbrev iL(m m':Mem)(e:Ending)(v:Value)(X:List Piece)(w:World):Prop:=e= .returned v/\m.le m'/\St m' X w
abbrev bN(m m':Mem)(e:Ending)(v:Value)(X:List Piece)(w:World)(R:Prop):Prop:=e= .returned v/\m.le m'/\St m' X w/\R
abbrev pnW(t:Nat)(m m':Mem)(e:Ending)(v:Int)(X:List Piece)(w:World):Prop:=e= .panicked [{v:= .iface t (.agg #[.int .i64 v]),recovered:=false}]/\m.le m'/\St m' X w
abbrev pM(t:Nat)(m m':Mem)(e:Ending)(v:Int)(X:List Piece)(w:World)(R:Prop):Prop:=e= .panicked [{v:= .iface t (.agg #[.int .i64 v]),recovered:=false}]/\m.le m'/\St m' X w/\R
section
variable {ρ:Option Nat} {P:Program} {n:Fr} {ops:Array Oper} {Q:Exit->Act->World->Prop} {i:Nat} {L:bF} {w:World} {m:Mem} {own:List Piece} {N:bF->World->Prop}
def nA(P:Program)(n:Nat)(ops:Array Oper)(k i:Nat)(L:bF):bF:=(nC P n ops k i L).getD []
theorem aX(k:Nat)(h:WO P n ops Q (i+k) (nA P n ops k i L) w)(h1:(nC P n ops k i L).isSome=true:=by kernel_rfl):WO P n ops Q i L w:=by
 cases hs:nC P n ops k i L with
 |none=>rw[hs] at h1;cases h1
 |some L'=>
  rw[nA,hs] at h
  exact Ah k i L L' w hs h
theorem aW{y:Code}(h:W ρ P n y Q (nA P n ops (ops.size-i) i L) w)(h1:(nC P n ops (ops.size-i) i L).isSome=true:=by kernel_rfl)(hi:ops.size=i+(ops.size-i):=by kernel_rfl):
 WO P n ops (Exit.then (λa w=>y.wpIn (lX ρ) 0 P Q a w) Q) i L w:=aX (ops.size-i) (Bf hi h) h1
theorem bK{id:Nat}{y:Code}(h:W none P n y Q (nA P n ops ops.size 0 L) w)(h1:(nC P n ops ops.size 0 L).isSome=true:=by kernel_rfl):W none P n (.seq (.region id ops false) y) Q L w:=
 aD (aX ops.size (Bf aa h) h1)
theorem aR{id:Nat}{y:Code}(k:Nat)(h:WO P n ops (Exit.then (λa w=>y.wpIn (lX none) 0 P Q a w) Q) (0+k) (nA P n ops k 0 L) w)(h1:(nC P n ops k 0 L).isSome=true:=by kernel_rfl):W none P n (.seq (.region id ops false) y) Q L w:=
 aD (aX k h h1)
def IR(P:Program)(ops:Array Oper)(L:bF)(i:Nat)(cs:List Value):bF:=
 match AC P ops L i cs with
 |some q=>(q.1,q.2.2.2)::L
 |none=>L
theorem dU{b o:Nat}{cs:List Value}(hst:St m own w)(hr:MRow m b o cs)(h:WO P n ops Q (i+1) (IR P ops L i cs) w)
  (ho:(AC P ops L i cs).map (λq=>(q.2.1,q.2.2.1,Nat.blt q.1 n))=some (b,o,true):=by kernel_rfl) (hi:Nat.blt i ops.size=true:=by exact rfl):WO P n ops Q i L w:=by
 simp only[jL,Prod.mk.injEq] at ho
 obtain⟨⟨d,b',o',v⟩,ho,rfl,rfl,hd⟩:=ho
 simp only[IR,ho] at h
 exact qFz d v hst hr h ho hd hi
def PF(P:Program)(ops:Array Oper)(L:bF)(i:Nat)(cs:List Value):bF:=
 match BP P ops L i cs with
 |some q=>(q.1,q.2.2)::L
 |none=>L
theorem bD{e:TypeId}{b:Nat}{c:Array Value}{f:Nat×Nat}(hp:Piece.holds m w (.blk b (.cells c e f)))(h:WO P n ops Q (i+1) (PF P ops L i c.toList) w)
  (ho:(BP P ops L i c.toList).map (λq=>(q.2.1,Nat.blt q.1 n))=some (b,true):=by kernel_rfl) (hi:Nat.blt i ops.size=true:=by exact rfl):WO P n ops Q i L w:=by
 simp only[jL,Prod.mk.injEq] at ho
 obtain⟨⟨d,b',v⟩,ho,rfl,hd⟩:=ho
 simp only[PF,ho] at h
 exact qFe d v hp h ho hd hi
theorem aS{e:TypeId}{b:Nat}{c:Array Value}{f:Nat×Nat}(k:Nat)(hp:Piece.holds m w (.blk b (.cells c e f)))(h:WO P n ops Q (i+k+1) (PF P ops (nA P n ops k i L) (i+k) c.toList) w)
  (h1:(nC P n ops k i L).isSome=true:=by kernel_rfl) (ho:(BP P ops (nA P n ops k i L) (i+k) c.toList).map (λq=>(q.2.1,Nat.blt q.1 n))=some (b,true):=by kernel_rfl) (hi:Nat.blt (i+k) ops.size=true:=by exact rfl):WO P n ops Q i L w:=
 aX k (bD hp h ho hi) h1
def yB(P:Program)(ops:Array Oper)(L:bF)(i:Nat)(v:Value):bF:=
 match sN P ops L i with
 |some (some d,_)=>(d,v)::L
 |_=>L
theorem ZM{L:bF}{i f:Nat}{args:Array Value}{v:Value}(h:(sN P ops L i).map (λq=>(q.1.map λd=>Nat.blt d n,q.2))=some (some true,f,args)):
  ∃d,sN P ops L i=some (some d,f,args)/\Nat.blt d n=true/\yB P ops L i v=(d,v)::L:=by
 simp only[jL,Prod.mk.injEq] at h
 obtain⟨⟨d',q⟩,h1,⟨d,rfl,hd⟩,rfl⟩:=h
 exact⟨d,h1,hd,by simp only[yB,h1]⟩
theorem bW{α β:Type}{f:Nat}{args:Array Value}{x:Option β}{k:β->Option α}{r:α}{T:β->Ending->World->Prop}(hr:x.bind k=some r)(hF:∀{y},x=some y->Calls P f args w (T y))
  (h:∀y,k y=some r->∀e w',T y e w'->GoOn (λv=>WO P n ops Q (i+1) (yB P ops L i v) w') e) (ho:(sN P ops L i).map (λq=>(q.1.map λd=>Nat.blt d n,q.2))=some (some true,f,args):=by kernel_rfl) (hi:Nat.blt i ops.size=true:=by exact rfl):WO P n ops Q i L w:=by
 obtain⟨d,h1,hd,_⟩:=ZM (v:=undef) ho
 refine qEi d hr (λ_=>hF) (λy hy e w' ht=> ?_) h1 hd hi
 have:=h y hy e w' ht
 simpa only[yB,h1] using this
theorem eG{α β:Type}{f:Nat}{args:Array Value}{x:Option β}{k:β->Option α}{r:α}{T:β->Ending->World->Prop}(hr:x.bind k=some r)(hF:∀{y},x=some y->Calls P f args w (T y))
  (h:∀y,k y=some r->∀e w',T y e w'->GoOnF (λv=>WO P n ops Q (i+1) (yB P ops L i v) w') (λch=>X n Q (.panic ch) L w') e) (ho:(sN P ops L i).map (λq=>(q.1.map λd=>Nat.blt d n,q.2))=some (some true,f,args):=by kernel_rfl) (hi:Nat.blt i ops.size=true:=by exact rfl):WO P n ops Q i L w:=by
 obtain⟨d,h1,hd,_⟩:=ZM (v:=undef) ho
 refine qCm d hr (λ_=>hF) (λy hy e w' ht=> ?_) h1 hd hi
 have:=h y hy e w' ht
 simpa only[yB,h1] using this
theorem cY{α β:Type}{f:Nat}{args:Array Value}{x:Option β}{k:β->Option α}{r:α}{T:β->Ending->World->Prop}(hr:x.bind k=some r)(hF:∀y,x=some y->Calls P f args w (T y))
  (h:∀y,k y=some r->∀e w',T y e w'->∃v,e= .returned v/\N (yB P ops L i v) w') (ho:(sN P ops L i).map (λq=>(q.1.map λd=>Nat.blt d n,q.2))=some (some true,f,args):=by kernel_rfl):iO P n ops Q i N L w:=by
 obtain⟨d,h1,hd,_⟩:=ZM (v:=undef) ho
 refine qCa d hr hF (λy hy e w' ht=> ?_) h1 hd
 have:=h y hy e w' ht
 simpa only[yB,h1] using this
def yH(L:bF):List ResultVar->Option (List Value)
 |[]=>some []
 | .tmp t::l=>match mE L t with
  |some v=>(yH L l).map λvs=>v::vs
  |none=>none
 |_::_=>none
theorem ZE:∀(l:List ResultVar) (vs:List Value),yH L l=some vs->ResAll P w L l vs
 |[],vs,h=>by cases h;rfl
 | .tmp t::l,vs,h=>by
  simp only[yH] at h
  split at h
  .rename_i v hv
   simp only[jL] at h
   obtain⟨vs',h1,rfl⟩:=h
   exact ResAll.cons (ResAt.tmp hv) (ZE l vs' h1)
  cases h
 | .cell _ _::_,_,h=>by cases h
theorem xC{k:Nat}{fn:Func}{R:Ending->World->Prop}{v:Value}(h:R (.returned v) w)(hl:(yH L fn.results.toList).map sM=some v:=by kernel_rfl):X ⟨k,[]⟩ (bodyPost P fn R) .ret L w:=by
 simp only[jL] at hl
 obtain⟨vs,h1,rfl⟩:=hl
 exact pG fn.results.toList vs ae (ZE _ _ h1) h
theorem mH{k:Nat}{fn:Func}{R:Ending->World->Prop}[hq:RetQ P Q fn R]{v:Value}(h:R (.returned v) w)(hl:(yH L fn.results.toList).map sM=some v:=by kernel_rfl):X ⟨k,[]⟩ Q .ret L w:=
 λa ha=>hq.out a w (xC h hl a ha)
theorem pK{k:Nat}{fn:Func}{R:Ending->World->Prop}[hq:RetQ P Q fn R]{v:Value}(h:R (.returned v) w)(hl:(yH L fn.results.toList).map sM=some v:=by kernel_rfl):W ρ P ⟨k,[]⟩ .ret Q L w:=aT (mH h hl)
theorem nX{k:Nat}{fn:Func}{R:Ending->World->Prop}[hq:RetQ P Q fn R]{v:Value}(h:R (.returned v) w)(hl:(yH L fn.results.toList).map sM=some v:=by kernel_rfl):X ⟨k,[]⟩ (Exit.then (λa w=>Code.ret.wpIn (lX ρ) 0 P Q a w) Q) .normal L w:=aV (pK h hl)
theorem iC{k:Nat}{fn:Func}{R:Ending->World->Prop}[hq:RetQ P Q fn R]{v:Value}(h:R (.returned v) w)(hl:(yH (nA P k ops (ops.size-i) i L) fn.results.toList).map sM=some v:=by kernel_rfl)(h1:(nC P k ops (ops.size-i) i L).isSome=true:=by kernel_rfl)(hi:ops.size=i+(ops.size-i):=by kernel_rfl):
 WO P ⟨k,[]⟩ ops (Exit.then (λa w=>Code.ret.wpIn (lX ρ) 0 P Q a w) Q) i L w:=aW (pK h hl) h1 hi
theorem eD{id k:Nat}{fn:Func}{R:Ending->World->Prop}[hq:RetQ P Q fn R]{v:Value}(h:R (.returned v) w)(hl:(yH (nA P k ops ops.size 0 L) fn.results.toList).map sM=some v:=by kernel_rfl)(h1:(nC P k ops ops.size 0 L).isSome=true:=by kernel_rfl):
 W none P ⟨k,[]⟩ (.seq (.region id ops false) .ret) Q L w:=bK (pK h hl) h1
def Nb(P:Program)(L:bF)(c:Array Value):List ResultVar->Option (Option Value×Option Value×Value)
 | .cell s t::l=>(yH L l).map λvs=>(mE L s,tL P t c.toList,sM (.agg c::vs))
 |_=>none
theorem lE{k:Nat}{fn:Func}{R:Ending->World->Prop}[hq:RetQ P Q fn R]{b e:Nat}{c:Array Value}{f:Nat×Nat}{v:Value}(hp:Piece.holds m w (.blk b (.cells c e f)))(h:R (.returned v) w)
  (ho:Nb P L c fn.results.toList=some (some (.pointer (some ⟨b,0,none⟩)),some (.agg c),v):=by kernel_rfl):X ⟨k,[]⟩ Q .ret L w:=by
 cases hf:fn.results.toList with
 |nil=>rw[hf] at ho;cases ho
 |cons x l=>
  rw[hf] at ho
  cases x with
  |tmp t=>cases ho
  |cell s t=>
   simp only[Nb,jL,Prod.mk.injEq] at ho
   obtain⟨vs,h1,h2,h3,rfl⟩:=ho
   exact λa ha=>hq.out a w (pG (ResultVar.cell s t::l) (.agg c::vs) (by rw[<-hf]) (ResAll.cons (ResAt.blk (o:=0) h2 hp (by simpa using h3)) (ZE _ _ h1)) h a ha)
theorem iP{α β:Type}{c:Codec α}{a:Option Addr}{cap:Nat}{l:List α}{ix:Int}{k:α->Option β}{r:β}(hrp:RepS c m a cap l)(hr:(bC l ix).bind k=some r)
  (h:∀z,k z=some r->∀b o cs,c.rep m z cs->MRow m b o cs->WO P n ops Q (i+1) ((((UX P ops L i).map (·.1)).getD 0,.pointer (some ⟨b,o,none⟩))::L) w)
  (ho:(UX P ops L i).map (λq=>(Nat.blt q.1 n,q.2))=some (true,.slice a l.length cap,ix,c.sz):=by kernel_rfl) (hi:Nat.blt i ops.size=true:=by exact rfl):WO P n ops Q i L w:=by
 simp only[jL,Prod.mk.injEq] at ho
 obtain⟨⟨d,q⟩,ho,hd,rfl⟩:=ho
 simp only[ho,kL,gP] at h
 exact qFc d hrp hr h ho hd hi
theorem mU{α:Type}{k:BA->Option α}{r:α}{a b:BA}(hr:(eO a b).bind k=some r)(h:∀s,k s=some r->WO P n ops Q (i+1) ((((UW ops L i).map (·.1)).getD 0,.string s)::L) w)
  (ho:(UW ops L i).map (λq=>(Nat.blt q.1 n,q.2))=some (true,a,b):=by kernel_rfl) (hi:Nat.blt i ops.size=true:=by exact rfl):WO P n ops Q i L w:=by
 simp only[jL,Prod.mk.injEq] at ho
 obtain⟨⟨d,q⟩,ho,hd,rfl⟩:=ho
 simp only[ho,kL,gP] at h
 exact qFn d hr h ho hd hi
theorem bG{L':bF}(k:Nat)(h:WO P n ops Q (i+k) L' w)(h1:(nC P n ops k i L).isSome=true:=by kernel_rfl)(hs:L'.map (λp=>mE (nA P n ops k i L) p.1)=L'.map λp=>some p.2:=by kernel_rfl):WO P n ops Q i L w:=aX k (Mu h hs) h1
theorem eJ(k:Nat)(h:X n Q .normal (nA P n ops k i L) w)(h1:(nC P n ops k i L).isSome=true:=by kernel_rfl)(hi:ops.size=i+k:=by exact rfl):WO P n ops Q i L w:=aX k (cX h hi) h1
theorem aQ{y:Code}(h:W ρ P n y Q L w):W ρ P n .skip (Exit.then (λa w=>y.wpIn (lX ρ) 0 P Q a w) Q) L w:=lB (aV h)
theorem iD{L':bF}(h:X n Q .normal L' w)(hs:L'.map (λp=>mE L p.1)=L'.map λp=>some p.2:=by kernel_rfl):W ρ P n .skip Q L w:=lB (xE h hs)
theorem lG{x y:Code}(h:W ρ P n x (Exit.then (λa w=>y.wpIn (lX ρ) 0 P Q a w) Q) L w):X n (Exit.then (λa w=>(Code.seq x y).wpIn (lX ρ) 0 P Q a w) Q) .normal L w:=aV (aJ h)
theorem oN{id:Nat}{y:Code}(k:Nat)(h:WO P n ops (Exit.then (λa w=>y.wpIn (lX none) 0 P Q a w) Q) (0+k) (nA P n ops k 0 L) w)(h1:(nC P n ops k 0 L).isSome=true:=by kernel_rfl):X n (Exit.then (λa w=>(Code.seq (.region id ops false) y).wpIn (lX none) 0 P Q a w) Q) .normal L w:=aV (aR k h h1)
theorem eE{id:Nat}{K:Act->World->Prop}(h:X n Q (.exit id) L w):W ρ P n (.exit id) (Exit.then K Q) L w:=xZ (HD h)
theorem dY{id:Nat}{K:Act->World->Prop}{L':bF}(h:X n Q (.exit id) L' w)(hs:L'.map (λp=>mE L p.1)=L'.map λp=>some p.2:=by kernel_rfl):X n (Exit.then K Q) (.exit id) L w:=HD (xE h hs)
theorem cG{id:Nat}{x y:Code}(h:W none P n x (Exit.then (λa w=>y.wpIn (lX none) 0 P Q a w) Q) (nA P n ops ops.size 0 L) w)(h1:(nC P n ops ops.size 0 L).isSome=true:=by kernel_rfl):W none P n (.seq (.region id ops false) (.seq x y)) Q L w:=bK (aJ h) h1
theorem eI{x y:Code}(h:W ρ P n x (Exit.then (λa w=>y.wpIn (lX ρ) 0 P Q a w) Q) (nA P n ops (ops.size-i) i L) w)(h1:(nC P n ops (ops.size-i) i L).isSome=true:=by kernel_rfl)(hi:ops.size=i+(ops.size-i):=by kernel_rfl):
 WO P n ops (Exit.then (λa w=>(Code.seq x y).wpIn (lX ρ) 0 P Q a w) Q) i L w:=aW (aJ h) h1 hi
theorem oA{id id':Nat}{y:Code}{ops':Array Oper}(h:WO P n ops' (Exit.then (λa w=>y.wpIn (lX none) 0 P Q a w) Q) 0 (nA P n ops ops.size 0 L) w)(h1:(nC P n ops ops.size 0 L).isSome=true:=by kernel_rfl):W none P n (.seq (.region id ops false) (.seq (.region id' ops' false) y)) Q L w:=bK (aD h) h1
theorem tH{id:Nat}{y:Code}{ops':Array Oper}(h:WO P n ops' (Exit.then (λa w=>y.wpIn (lX none) 0 P Q a w) Q) 0 (nA P n ops (ops.size-i) i L) w)(h1:(nC P n ops (ops.size-i) i L).isSome=true:=by kernel_rfl)(hi:ops.size=i+(ops.size-i):=by kernel_rfl):
 WO P n ops (Exit.then (λa w=>(Code.seq (.region id ops' false) y).wpIn (lX none) 0 P Q a w) Q) i L w:=aW (aD h) h1 hi
theorem mA{id:Nat}{c:Code}(h:W ρ P n c (Exit.inBlock id Q) (nA P n ops (ops.size-i) i L) w)(h1:(nC P n ops (ops.size-i) i L).isSome=true:=by kernel_rfl)(hi:ops.size=i+(ops.size-i):=by kernel_rfl):
 WO P n ops (Exit.then (λa w=>(Code.block id c).wpIn (lX ρ) 0 P Q a w) Q) i L w:=aW (bJ h) h1 hi
theorem eQ{id:Nat}(k:Nat)(h:WO P n ops Q (0+k) (nA P n ops k 0 L) w)(h1:(nC P n ops k 0 L).isSome=true:=by kernel_rfl):W none P n (.region id ops false) Q L w:=nO (aX k h h1)
theorem cP{id:Nat}(k:Nat)(h:X n Q .normal (nA P n ops k 0 L) w)(h1:(nC P n ops k 0 L).isSome=true:=by kernel_rfl)(hi:ops.size=0+k:=by exact rfl):W none P n (.region id ops false) Q L w:=nO (eJ k h h1 hi)
theorem sW{id:Nat}{y:Code}(h:W ρ P n y Q L w):X n (Exit.inBlock id (Exit.then (λa w=>y.wpIn (lX ρ) 0 P Q a w) Q)) .normal L w:=iU (aV h)
theorem eY{id:Nat}{y:Code}(h:W ρ P n y Q L w):X n (Exit.inBlock id (Exit.then (λa w=>y.wpIn (lX ρ) 0 P Q a w) Q)) (.exit id) L w:=rV (aV h)
theorem lP{id:Nat}{y:Code}(h:W ρ P n y Q L w):W ρ P n .skip (Exit.inBlock id (Exit.then (λa w=>y.wpIn (lX ρ) 0 P Q a w) Q)) L w:=lB (sW h)
theorem oK{id:Nat}{L':bF}(h:X n Q .normal L' w)(hs:L'.map (λp=>mE L p.1)=L'.map λp=>some p.2:=by kernel_rfl):X n (Exit.inBlock id Q) .normal L w:=iU (xE h hs)
theorem qM{L':bF}(h:X n Q .normal L' w)(hi:ops.size=i:=by exact rfl)(hs:L'.map (λp=>mE L p.1)=L'.map λp=>some p.2:=by kernel_rfl):WO P n ops Q i L w:=cX (xE h hs) hi
theorem iH{α β:Type}{f:Nat}{args:Array Value}{x:Option β}{k:β->Option α}{r:α}{T:β->Ending->World->Prop}(j:Nat)(hr:x.bind k=some r)(hF:∀{y},x=some y->Calls P f args w (T y))
 (h:∀y,k y=some r->∀e w',T y e w'->GoOn (λv=>WO P n ops Q (i+j+1) (yB P ops (nA P n ops j i L) (i+j) v) w') e) (h1:(nC P n ops j i L).isSome=true:=by kernel_rfl) (ho:(sN P ops (nA P n ops j i L) (i+j)).map (λq=>(q.1.map λd=>Nat.blt d n,q.2))=some (some true,f,args):=by kernel_rfl)
 (hi:Nat.blt (i+j) ops.size=true:=by exact rfl):WO P n ops Q i L w:=aX j (bW hr hF h ho hi) h1
theorem bA{id:Nat}{y':Code}{α β:Type}{f:Nat}{args:Array Value}{x:Option β}{k:β->Option α}{r:α}{T:β->Ending->World->Prop}(j:Nat)(hr:x.bind k=some r)(hF:∀{y},x=some y->Calls P f args w (T y))
 (h:∀y,k y=some r->∀e w',T y e w'->GoOn (λv=>WO P n ops (Exit.then (λa w=>y'.wpIn (lX none) 0 P Q a w) Q) (0+j+1) (yB P ops (nA P n ops j 0 L) (0+j) v) w') e) (h1:(nC P n ops j 0 L).isSome=true:=by kernel_rfl) (ho:(sN P ops (nA P n ops j 0 L) (0+j)).map (λq=>(q.1.map λd=>Nat.blt d n,q.2))=some (some true,f,args):=by kernel_rfl)
 (hi:Nat.blt (0+j) ops.size=true:=by exact rfl):W none P n (.seq (.region id ops false) y') Q L w:=aD (iH j hr hF h h1 ho hi)
theorem mB{b o:Nat}{cs:List Value}(k:Nat)(hst:St m own w)(hr:MRow m b o cs)(h:WO P n ops Q (i+k+1) (IR P ops (nA P n ops k i L) (i+k) cs) w)
 (h1:(nC P n ops k i L).isSome=true:=by kernel_rfl) (ho:(AC P ops (nA P n ops k i L) (i+k) cs).map (λq=>(q.2.1,q.2.2.1,Nat.blt q.1 n))=some (b,o,true):=by kernel_rfl) (hi:Nat.blt (i+k) ops.size=true:=by exact rfl):WO P n ops Q i L w:=aX k (dU hst hr h ho hi) h1
theorem iG{id:Nat}{y:Code}{b o:Nat}{cs:List Value}(k:Nat)(hst:St m own w)(hr:MRow m b o cs)(h:WO P n ops (Exit.then (λa w=>y.wpIn (lX none) 0 P Q a w) Q) (0+k+1) (IR P ops (nA P n ops k 0 L) (0+k) cs) w)
 (h1:(nC P n ops k 0 L).isSome=true:=by kernel_rfl) (ho:(AC P ops (nA P n ops k 0 L) (0+k) cs).map (λq=>(q.2.1,q.2.2.1,Nat.blt q.1 n))=some (b,o,true):=by kernel_rfl) (hi:Nat.blt (0+k) ops.size=true:=by exact rfl):W none P n (.seq (.region id ops false) y) Q L w:=aD (mB k hst hr h h1 ho hi)
theorem cW{α:Type}{b:Bool}{A B:Option α}{r:α}(k t:Nat)(hr:(if b then A else B)=some r)(ht:b=true->A=some r->WO P n ops Q (i+k) ((t,.bool true)::nA P n ops k i L) w)(hf:b=false->B=some r->WO P n ops Q (i+k) ((t,.bool false)::nA P n ops k i L) w)
 (h1:(nC P n ops k i L).isSome=true:=by kernel_rfl) (hl:mE (nA P n ops k i L) t=some (.bool b):=by kernel_rfl):WO P n ops Q i L w:=aX k (qGa t hr ht hf hl) h1
theorem cV{α:Type}{y z:Code}{c:Operand}{b:Bool}{A B:Option α}{r:α}(hr:(if b then A else B)=some r)(ht:b=true->A=some r->W ρ P n y Q (nA P n ops (ops.size-i) i L) w)(hf:b=false->B=some r->W ρ P n z Q (nA P n ops (ops.size-i) i L) w)
 (h1:(nC P n ops (ops.size-i) i L).isSome=true:=by kernel_rfl) (hi:ops.size=i+(ops.size-i):=by kernel_rfl) (hc:bY (nA P n ops (ops.size-i) i L) c=some (.bool b):=by kernel_rfl):
 WO P n ops (Exit.then (λa w=>(Code.cond c y z).wpIn (lX ρ) 0 P Q a w) Q) i L w:=aW (aO hr ht hf hc) h1 hi
theorem bV{id:Nat}{α:Type}{y z:Code}{c:Operand}{b:Bool}{A B:Option α}{r:α}(hr:(if b then A else B)=some r)(ht:b=true->A=some r->W none P n y Q (nA P n ops ops.size 0 L) w)(hf:b=false->B=some r->W none P n z Q (nA P n ops ops.size 0 L) w)
 (h1:(nC P n ops ops.size 0 L).isSome=true:=by kernel_rfl) (hc:bY (nA P n ops ops.size 0 L) c=some (.bool b):=by kernel_rfl):W none P n (.seq (.region id ops false) (.cond c y z)) Q L w:=bK (aO hr ht hf hc) h1
variable [hq:QC Q] {ks':List (Nat×(World->Prop))} {k fuel:Nat} {S:World->Prop} {done:List Nat}
def psD(P:Program)(n:Fr)(ops:Array Oper)(ks:List (Nat×(World->Prop)))(k:Nat)(l done:List Nat)(L:bF):bF:=Bp L ((DU P n ops ks k l done L).getD [])
theorem Md{ks:List (Nat×(World->Prop))}(hmem:(k,S)∈ks):∀(l:List Nat) (fuel:Nat) (done:List Nat) (L r:bF),DU P n ops ks k l done L=some r->WA P n ops Q ks fuel (done++l) (Bp L r) w->WA P n ops Q ks (fuel+l.length) done L w
 |[],_,done,L,r,hg,h=>by cases hg;rw[gH] at h;exact h
 |x::l,fuel,done,L,r,hg,h=>by
  simp only[DU] at hg
  cases h1:UR P n ops ks k x done L with
  |none=>rw[h1] at hg;cases hg
  |some q=>
   rw[h1] at hg
   dsimp only at hg
   cases h2:DU P n ops ks k l (done++[x]) (q::L) with
   |none=>rw[h2] at hg;cases hg
   |some r'=>
    rw[h2] at hg
    cases hg
    refine qFf hmem h1 (Md hmem l fuel (done++[x]) (q::L) r' h2 ?_)
    rw[kU]
    exact h
theorem aU(m:Nat)(l:List Nat)(h:WA P n ops Q ((k,S)::ks') fuel (done++l) (psD P n ops ((k,S)::ks') k l done L) w)
  (hg:(DU P n ops ((k,S)::ks') k l done L).isSome=true:=by kernel_rfl) (hm:l.length=m:=by exact rfl):WA P n ops Q ((k,S)::ks') (fuel+m) done L w:=by
 subst hm
 cases hs:DU P n ops ((k,S)::ks') k l done L with
 |none=>rw[hs] at hg;cases hg
 |some r=>
  rw[psD,hs] at h
  exact Md (List.Mem.head _) l fuel done L r hs h
def Mr(P:Program)(ops:Array Oper)(L:bF)(i:Nat):bF:=
 match BM P ops L i with
 |some q=>q::L
 |none=>L
theorem aN(i:Nat)(h:WA P n ops Q ((k,S)::ks') fuel (done++[i]) (Mr P ops L i) w)(ho:(BM P ops L i).map (λq=>Nat.blt q.1 n)=some true:=by kernel_rfl)(hs:pE ops ((k,S)::ks') k i done=true:=by kernel_rfl):WA P n ops Q ((k,S)::ks') (fuel+1) done L w:=by
 simp only[jL] at ho
 obtain⟨⟨d,v⟩,ho,hd⟩:=ho
 simp only[Mr,ho] at h
 exact qFr i d v h ho hd hs
theorem bZ{e:Nat}{b:Nat}{c:Array Value}{f:Nat×Nat}(i:Nat)(hI:∀w,S w->Piece.holds m w (.blk b (.cells c e f)))(h:WA P n ops Q ((k,S)::ks') fuel (done++[i]) (PF P ops L i c.toList) w)
  (ho:(BP P ops L i c.toList).map (λq=>(q.2.1,Nat.blt q.1 n))=some (b,true):=by kernel_rfl) (hs:pE ops ((k,S)::ks') k i done=true:=by kernel_rfl):WA P n ops Q ((k,S)::ks') (fuel+1) done L w:=by
 simp only[jL,Prod.mk.injEq] at ho
 obtain⟨⟨d,b',v⟩,ho,rfl,hd⟩:=ho
 simp only[PF,ho] at h
 exact qFd i d v hI h ho hd hs
theorem cN{b o:Nat}{cs:List Value}(i:Nat)(hr:MRow m b o cs)(h:WA P n ops Q ((k,λw=>Inv m w/\S w)::ks') fuel (done++[i]) (IR P ops L i cs) w)
  (ho:(AC P ops L i cs).map (λq=>(q.2.1,q.2.2.1,Nat.blt q.1 n))=some (b,o,true):=by kernel_rfl) (hs:pE ops ((k,λw=>Inv m w/\S w)::ks') k i done=true:=by kernel_rfl):WA P n ops Q ((k,λw=>Inv m w/\S w)::ks') (fuel+1) done L w:=by
 simp only[jL,Prod.mk.injEq] at ho
 obtain⟨⟨d,b',o',v⟩,ho,rfl,rfl,hd⟩:=ho
 simp only[IR,ho] at h
 exact qFt i d v hr h ho hd hs
end
theorem andL{a b:Prop}(hb:b)(ha:a):a/\b:=⟨ha,hb⟩
theorem leL{m m':Mem}{b:Prop}(hb:b)(ha:m.le m'):m.le m'/\b:=⟨ha,hb⟩
theorem zl1{m m':Mem}(h:m.le m':=by first|assumption|exact(λb a=>Mem.le_trans a b) ai ai|exact Mem.le_trans ai ai):m.le m':=h
theorem xM{m m':Mem}(h:m.le m':=by first|exact zl1|exact(λb a=>Mem.le_trans a b) ai zl1|exact Mem.le_trans ai zl1):m.le m':=h
theorem zl3{m m':Mem}(h:m.le m':=by first|exact xM|exact(λb a=>Mem.le_trans a b) ai xM|exact Mem.le_trans ai xM):m.le m':=h
theorem zA{m1:Mem}{own:List Piece}{w:World}{p:Prop}(g:St m1 own w)(h:St m1 own w->p:=by
 intro g
 repeat (with_reducible apply Exists.intro)
 repeat (first
  |with_reducible apply leL
  |refine And.intro (by first
   |with_reducible exact g
   |with_reducible assumption
   |exact RepS.nil _ _
   |with_reducible exact RepS.o ai xM
   |with_reducible exact MRow.o ai xM
   |with_reducible exact MapQ.o ai xM
   |with_reducible exact ItR.o ai xM) ?_
  |with_reducible apply andL)
 first
  |with_reducible exact g
  |with_reducible assumption
  |exact RepS.nil _ _
  |with_reducible exact RepS.o ai xM
  |with_reducible exact MRow.o ai xM
  |with_reducible exact MapQ.o ai xM
  |with_reducible exact ItR.o ai xM
  |exact g
  |exact rfl
  |assumption
 all_goals (first
  |exact rfl
  |with_reducible exact zl3
  |exact Mem.le_refl _
  |exact g)
 done):p:=h g
theorem zE{m m1:Mem}{own:List Piece}{w:World}{p:Prop}(g:St m1 own w)(q:m.le m1)(h:St m1 own w->m.le m1->p:=by intro g q;exact zA g):p:=h g q
theorem zH{α:Type}{a b:α}{m1:Mem}{own:List Piece}{w:World}{p:Prop}(hr:some a=some b)(g:St m1 own w)(h:some a=some b->St m1 own w->p:=by intro hr g;(first|cases hr|obtain rfl:=jE hr);exact zA g):p:=h hr g
theorem zL{α β:Type}{j:α->β}{P:α->Prop}{a:α}{d:β}{m1:Mem}{own:List Piece}{w:World}{p:Prop}(c:∀x,j x=d->P x)(hr:some (j a)=some d)(g:St m1 own w)(h:P a->St m1 own w->p:=by intro hL g;exact zA g):p:=h (c a (jE hr)) g
end
end Go.Dc
