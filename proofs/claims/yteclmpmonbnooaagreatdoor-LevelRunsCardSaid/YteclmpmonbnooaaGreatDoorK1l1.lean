/- No condition but those of each theorem. -/
import Derived.Test.YteclmpmonbnooaaGreatDoorProg
import Derived.WalkKit
import Derived.Deep.LoopGhost
import Derived.KernelRfl
import Derived.OrdersHeld
import Derived.OrdersIn
import Derived.LoopNIn
import Derived.Sort.LoopGhostIn
import Derived.Laws.AppendOwn
import Derived.RangeFuncLeaves
import Derived.RangeFuncRecord
import Derived.MapKept
import Derived.Maps.RangeRun
import Derived.ChangeKeysEq
import Derived.HandedShaped
import Derived.ChangeStays
import Derived.ChangeSame
import Derived.OpenShut
import Derived.WideShapes
import Derived.JoinedOf
import Derived.ReadAgain
import Derived.ChangeAt
import Derived.RowKit
import Derived.Lib.Overlaps
import Derived.Shelf.SlSortCmp.NoneTotal
import Derived.WalkSmall
import Derived.Recover
section
theorem aa{p:Prop}(h:p:=by omega):p:=h
theorem ac{p:Prop}(h:p:=by decide):p:=h
theorem ae{p:Prop}(h:p:=by simp):p:=h
theorem af{p:Prop}(h:p:=by kernel_rfl):p:=h
theorem ah{p:Prop}(h:p:=by decide+kernel):p:=h
theorem ai{p:Prop}(h:p:=by simp;omega):p:=h
theorem ak{p:Prop}(h:p:=by simp only;omega):p:=h
theorem al{p:Prop}(h:p:=by first|omega|(dsimp only;omega)):p:=h
namespace Go
abbrev j0:=@Option.bind_some
abbrev j7:=@decide_eq_true_eq
abbrev jA:=@Bool.false_eq_true
abbrev jB:=@List.length_append
abbrev jC:=@List.length_cons
abbrev jD:=@List.length_nil
abbrev jE:=@List.append_assoc
abbrev jF:=@List.mem_cons_self
abbrev jG:=@if_false
abbrev jH:=@List.mem_cons_of_mem
abbrev jI:=@if_true
abbrev jJ:=@List.mem_cons
abbrev jK:=@Bool.and_eq_true
abbrev jL:=@List.mem_singleton
abbrev jM:=@List.getElem_mem
abbrev jN:=@Nat.le_refl
abbrev jO:=@Option.some.injEq
abbrev jP:=@List.nil_append
abbrev jQ:=@Int.toNat_natCast
abbrev jR:=@decide_eq_true
abbrev jS:=@List.getD_eq_getElem?_getD
abbrev jT:=@List.cons_append
abbrev jU:=@List.drop_eq_nil_of_le
abbrev jV:=@List.append_nil
abbrev jW:=@Nat.zero_le
abbrev jX:=@decide_eq_false
abbrev jY:=@Option.map_eq_some_iff
abbrev jZ:=@List.all_eq_true
abbrev kA:=@List.drop_eq_getElem_cons
abbrev kC:=@List.drop_zero
abbrev kD:=@List.size_toArray
abbrev kE:=@List.mem_append_left
abbrev kF:=@List.map_cons
abbrev kG:=@Option.some.inj
abbrev kH:=@Bool.false_ne_true
abbrev kI:=@beq_iff_eq
abbrev kJ:=@List.mem_append
abbrev kK:=@Nat.not_lt_zero
abbrev kL:=@List.flatMap_cons
abbrev kM:=@Option.bind_eq_some_iff
abbrev kN:=@List.length_take
abbrev kO:=@List.eq_nil_of_length_eq_zero
abbrev kP:=@Bool.eq_iff_iff
abbrev kQ:=@Nat.mul_le_mul_right
abbrev kS:=@List.pairwise_cons
abbrev kT:=@Nat.zero_add
abbrev kU:=@List.take_succ_eq_append_getElem
abbrev kV:=@Bool.or_eq_false_iff
abbrev kW:=@List.mem_append_right
abbrev kX:=@Nat.add_mul
abbrev kY:=@Bool.not_true
abbrev kZ:=@List.take_of_length_le
abbrev gA:=@List.length_map
abbrev gB:=@Bool.not_false
abbrev gC:=@List.take_append_of_le_length
abbrev gD:=@List.length_singleton
abbrev gE:=@List.not_mem_nil
abbrev gF:=@List.length_drop
abbrev gG:=@List.foldl_cons
abbrev gH:=@of_decide_eq_true
abbrev gI:=@List.length_eq_zero_iff
abbrev gJ:=@Nat.le_trans
abbrev gK:=@List.cons.injEq
abbrev gL:=@List.mem_map
abbrev gM:=@List.takeWhile_cons_of_pos
abbrev gN:=@List.drop_append_of_le_length
abbrev gO:=@Option.map_some
abbrev gP:=@Nat.le_of_ble_eq_true
abbrev gQ:=@List.mem_filter
abbrev gS:=@Nat.add_assoc
abbrev gT:=@List.map_append
abbrev gU:=@List.extract_eq_take_drop
abbrev gV:=@List.mem_map_of_mem
abbrev gW:=@Int.le_refl
abbrev gX:=@Bool.false_or
abbrev gY:=@Nat.add_zero
abbrev gZ:=@List.perm_middle
abbrev fA:=@List.takeWhile_cons_of_neg
abbrev fB:=@bne_self_eq_false
abbrev fC:=@List.flatMap_append
abbrev fD:=@List.take_append_drop
abbrev fE:=@List.nodup_cons
abbrev fF:=@beq_self_eq_true
abbrev fG:=@List.any_eq_true
abbrev fH:=@Bool.true_and
abbrev fI:=@Option.bind_assoc
abbrev fJ:=@List.any_eq_false
abbrev fK:=@Bool.not_eq_true'
abbrev fL:=@List.length_pos_iff
abbrev fM:=@Bool.or_eq_true
abbrev fN:=@Array.toList_modify
abbrev fO:=@Array.length_toList
abbrev fP:=@List.mem_flatMap
abbrev fQ:=@List.filter_cons
abbrev fR:=@Int.natCast_succ
abbrev fS:=@Nat.eq_of_beq_eq_true
abbrev fT:=@List.mem_of_find?_eq_some
abbrev fU:=@Int.toNat_zero
abbrev fV:=@Array.toList_extract
abbrev fW:=@List.foldl_append
abbrev fX:=@Array.toList_push
abbrev fY:=@List.filterMap_cons
abbrev fZ:=@List.all_eq_not_any_not
abbrev hH:=@List.take_left
abbrev hJ:=@List.mem_range
abbrev hQ:=@List.getElem_cons_drop
abbrev hU:=@or_false
abbrev hY:=@Nat.lt_of_lt_of_le
abbrev hZ:=@Nat.pow_succ
abbrev dA:=@List.takeWhile_prefix
abbrev dB:=@List.mem_iff_getElem?
abbrev dC:=@List.length_replicate
abbrev dD:=@not_false_eq_true
abbrev dE:=@bne_iff_ne
abbrev dF:=@List.sum_cons
abbrev dG:=@List.map_inj_left
abbrev dH:=@List.ext_getElem?
abbrev dI:=@List.any_cons
abbrev dJ:=@List.mem_of_getElem?
abbrev dK:=@List.drop_append
abbrev dL:=@Nat.one_mul
abbrev dM:=@List.toList_toArray
abbrev dN:=@List.map_congr_left
abbrev dO:=@List.getElem_modify
abbrev dP:=@Nat.add_sub_cancel
abbrev dQ:=@List.length_set
abbrev dR:=@List.nodup_append
abbrev dS:=@List.drop_left
abbrev dT:=@Nat.mul_comm
abbrev dU:=@Nat.lt_or_ge
abbrev dV:=@Nat.add_comm
abbrev dW:=@Option.getD_some
abbrev dX:=@List.take_length
abbrev dY:=@List.getElem_map
abbrev dZ:=@List.flatMap_nil
abbrev uA:=@Nat.mul_one
abbrev uB:=@ne_eq
abbrev BA:=ByteArray
theorem ad{p:Prop}(h:p:=by simp only[j7];omega):p:=h
theorem ag{p:Prop}(h:p:=by simp only[jC,jD];omega):p:=h
theorem aj{p:Prop}(h:p:=by simp only[jB,jC,jD];omega):p:=h
end Go
end
namespace Go.Dc
section
theorem kr{p:Prop}(h:p:=by kernel_rfl):p:=h
abbrev aZ:=List (Nat×Value)
def look:aZ->Nat->Option Value
 |[],_=>none
 |(k,v)::L,t=>bif Nat.beq k t then some v else look L t
def aW(L:aZ):Operand->Option Value
 | .tmp t=>look L t
 | .const v=>some v
 | .global g=>some (.pointer (some ⟨g,0,none⟩))
 | .func f=>some (.func (.func f) #[] #[])
theorem ev{L:aZ}{x:Operand}(v:Value)(h:aW L x=some v:=by kernel_rfl):aW L x=some v:=h
def pY(L:aZ)(x:Operand):Value:=(aW L x).getD undef
structure Fr where
 sz:Nat
 marks:List Deferred
instance:Coe Fr Nat:=⟨Fr.sz⟩
def Fits(n:Fr)(a:Act)(L:aZ):Prop:=a.tmps.size=n.sz/\a.defers=n.marks/\∀t v,look L t=some v->a.tmps[t]? =some v
theorem Fits.ev{n:Fr}{a:Act}{L:aZ}(h:Fits n a L){x:Operand}{v:Value}(b:aW L x=some v):a.eval x=v:=by
 cases x with
 |tmp t=>simp[Act.eval,h.2.2 t v b]
 |const u=>simp[aW] at b;simp[Act.eval,b]
 |global g=>simp[aW] at b;simp[Act.eval,b]
 |func f=>simp[aW] at b;simp[Act.eval,b]
def qJg:Op->Bool
 | .select .. =>false
 |_=>true
def UQ(L:aZ):List Operand->Bool
 |[]=>true
 |x::l=>(aW L x).isSome&&UQ L l
def xD(L:aZ)(o:Op):Bool:=qJg o&&UQ L o.operands.toList
theorem qVz{L:aZ}{l:List Operand}(h:UQ L l=true):∀x∈l,(aW L x).isSome=true:=by
 induction l with
 |nil=>simp
 |cons y l b=>
  simp only[UQ,jK] at h
  intro x a
  rcases jJ.1 a with rfl|a
  .exact h.1
  exact b h.2 x a
theorem Fits.exec{n:Fr}{a:Act}{L:aZ}(h:Fits n a L){o:Oper}(ok:xD L o.op=true):execOp a.eval o=execOp (pY L) o:=by
 simp only[xD,jK] at ok
 refine execOp_congr o ?_ ?_
 .intro cs b c;rw[c] at ok;simp[qJg] at ok
 intro x d
 have:=qVz ok.2 x (by simpa using d)
 obtain⟨v,c⟩:=Option.isSome_iff_exists.1 this
 rw[h.ev c];simp[pY,c]
theorem Fits.put{n:Fr}{a:Act}{L:aZ}(h:Fits n a L){d:Nat}(g:Nat.blt d n=true)(v:Value):Fits n (a.put (some d) v) ((d,v)::L):=by
 obtain⟨c,e,f⟩:=h
 have hd':d<n:=by simpa[Nat.blt_eq] using g
 refine⟨by simp[Act.put,c],by simp[Act.put,e],?_⟩
 intro t u b
 simp only[look] at b
 simp only[Act.put]
 by_cases hdt:d=t
 .subst hdt
  simp at b;subst b
  simp[Array.getElem?_setIfInBounds,c,hd']
 have:Nat.beq d t=false:=by cases hb:Nat.beq d t<;>simp_all [Nat.beq_eq]
 rw[this] at b
 simp[Array.getElem?_setIfInBounds,hdt,f t u b]
theorem Fits.sub{n:Fr}{a:Act}{L L':aZ}(h:Fits n a L)(b:∀t v,look L' t=some v->look L t=some v):Fits n a L':=
 ⟨h.1,h.2.1,fun t v c=>h.2.2 t v (b t v c)⟩
def zV(P:Program){α:Type}:Sem α->Option α
 | .pure a=>some a
 | .program k=>zV P (k P)
 | .mark _ k=>zV P k
 |_=>none
theorem qAa{P:Program}{α:Type}{s:Sem α}{a:α}(h:zV P s=some a)(w:World):s.run P w= .ok a w:=by
 induction s with
 |pure b=>simp[zV] at h;subst h;rfl
 |program k c=>exact c P h
 |mark m k c=>exact c h
 |_=>simp[zV] at h
def uX(ops:Array Oper)(L:aZ)(g:Option (Nat×Bool)):Option Bool:=
 match g with
 |none=>some true
 |some (j,want)=>match(ops[j]?).bind (·.dst) with
  |none=>some false
  |some t=>match look L t with
   |none=>none
   |some (.bool b)=>some (bif want then b else !b)
   |some _=>some false
theorem Fits.wanted{n:Fr}{a:Act}{L:aZ}(h:Fits n a L){ops:Array Oper}{o:Oper}{b:Bool}(c:uX ops L o.guard=some b):
  Region.wanted o (yielded ops a.tmps)=b:=by
 unfold uX at c
 unfold Region.wanted
 cases f:o.guard with
 |none=>simp[f] at c;simp[c]
 |some jw=>
  obtain⟨j,want⟩:=jw
  simp only[f] at c
  simp only[yielded]
  cases e:(ops[j]?).bind (·.dst) with
  |none=>simp[e] at c;subst c;rfl
  |some t=>
   simp only[e] at c
   cases d:look L t with
   |none=>simp[d] at c
   |some v=>
    have:=h.2.2 t v d
    simp only[d] at c
    cases v<;>simp_all<;>(subst c;cases want<;>simp)
def putL(n:Nat)(d:Option Nat)(v:Value)(L:aZ):Option aZ:=
 match d with
 |none=>some L
 |some d=>bif Nat.blt d n then some ((d,v)::L) else none
def asV:Option Next->Option Value
 |some (.value v)=>some v
 |some .skip=>some undef
 |_=>none
def nK(P:Program)(n:Nat)(ops:Array Oper):Nat->Nat->aZ->Option aZ
 |0,_,L=>some L
 |k+1,i,L=>match ops[i]? with
  |none=>none
  |some o=>match uX ops L o.guard with
   |none=>none
   |some false=>(putL n o.dst undef L).bind fun L=>nK P n ops k (i+1) L
   |some true=>bif xD L o.op then(asV (zV P (execOp (pY L) o))).bind fun v=>(putL n o.dst v L).bind fun L=>nK P n ops k (i+1) L else none
def lT(ops:Array Oper):Nat->Nat->List Nat
 |0,_=>[]
 |k+1,i=>((ops[i]?).bind (·.dst)).toList++lT ops k (i+1)
def lV(ρ:Option Nat):Fence:={Fence.wide with round:=ρ}
def rO(P:Program)(ops:Array Oper)(Q:Exit->Act->World->Prop)(i:Nat)(K:Act->World->Prop)(a:Act)(w:World):Prop:=
 match ops[i]? with
 |none=>K a w
 |some o=>if Region.wanted o (yielded ops a.tmps) then o.uponIn Fence.wide 0 P a K Q ((execOp a.eval o).run P w) else K (a.put o.dst undef) w
def FX(P:Program)(ops:Array Oper)(Q:Exit->Act->World->Prop):List Nat->Act->World->Prop
 |[],a,w=>Q .normal a w
 |i::rest,a,w=>rO P ops Q i (FX P ops Q rest) a w
theorem qFn{ρ:Option Nat}{P:Program}{o:Oper}{a:Act}{K K':Act->World->Prop}{Q:Exit->Act->World->Prop}{r:Result Next}(h:∀a w,K a w->K' a w)(c:o.uponIn Fence.wide 0 P a K Q r):o.uponIn (lV ρ) 0 P a K' Q r:=by
 cases r with
 |ok x w'=>
  cases x<;>simp only[Oper.uponIn] at c ⊢ <;>
   first
    |exact h _ _ c
    |exact⟨fun e=>by simp[lV,Fence.wide] at e,CallsIn.mono (F:=lV ρ) c.2 (fun e w'' b=>by cases e<;>first|exact h _ _ b|exact b)⟩
    |exact⟨fun e=>by simp[lV,Fence.wide] at e,RowsIn.mono (F:=lV ρ) c.2 (fun _ _ b=>h _ _ b)⟩
    |exact⟨fun e=>by simp[lV,Fence.wide] at e,RoundIn.mono (F:=lV ρ) c.2 (fun e w'' b=>by cases e<;>first|exact h _ _ b|exact b)⟩
 |halt x w'=>cases x<;>simp only[Oper.uponIn] at c ⊢ <;>exact c
theorem TX{P:Program}{ops:Array Oper}{Q:Exit->Act->World->Prop}{i:Nat}{K K':Act->World->Prop}{a:Act}{w:World}(h:∀a w,K a w->K' a w)(b:rO P ops Q i K a w):rO P ops Q i K' a w:=by
 unfold rO at*
 split
 .rename_i ho;simp only[ho] at b;exact h _ _ b
 rename_i o ho
 simp only[ho] at b
 split
 .rename_i hw;simp only[hw,jI] at b;exact qFn (ρ:=none) h b
 rename_i hw;simp only[hw] at b;exact h _ _ b
def IP(ρ:Option Nat)(ops:Array Oper):Bool:=
 match ρ with
 |none=>true
 |some _=>ops.toList.all fun o=>match o.op with
  | .defer _=>false
  |_=>true
theorem qVn{ρ:Option Nat}{ops:Array Oper}(h:IP ρ ops=true){i:Nat}{o:Oper}(b:ops[i]? =some o)(ev:Operand->Value):o.semAt ρ ev=execOp ev o:=by
 cases ρ with
 |none=>rfl
 |some l=>
  refine Oper.semAt_eq _ _ _ fun c a=> ?_
  have:=jZ.1 h o (by simpa using Array.mem_of_getElem? b)
  rw[a] at this
  exact kH this
theorem qPk{ρ:Option Nat}{P:Program}{ops:Array Oper}{Q:Exit->Act->World->Prop}(d:IP ρ ops=true){i:Nat}{K K':Act->World->Prop}(b:∀a w,K a w->K' a w){a:Act}{w:World}(h:rO P ops Q i K a w):wpOpIn (lV ρ) 0 P ops Q i K' a w:=by
 unfold rO at h
 unfold wpOpIn
 cases c:ops[i]? with
 |none=>simp only[c] at h ⊢;exact b _ _ h
 |some o=>
  simp only[c] at h ⊢
  by_cases hw:Region.wanted o (yielded ops a.tmps)=true
  .simp only[hw,jI] at h ⊢
   refine⟨fun _ _=>trivial,?_⟩
   have e:o.semAt (lV ρ).round a.eval=execOp a.eval o:=qVn d c a.eval
   rw[e]
   exact qFn b h
  simp only[hw] at h ⊢
  exact⟨fun _ _=>trivial,b _ _ h⟩
theorem qOa{ρ:Option Nat}{P:Program}{ops:Array Oper}{Q:Exit->Act->World->Prop}(b:IP ρ ops=true):∀(l:List Nat) (a:Act) (w:World),FX P ops Q l a w->wpOpsIn (lV ρ) 0 P ops Q l a w
 |[],_,_,h=>h
 |i::rest,a,w,h=>by
  rw[wpOpsIn_cons]
  exact qPk b (qOa b rest) h
def WO(P:Program)(n:Fr)(ops:Array Oper)(Q:Exit->Act->World->Prop)(i:Nat)(L:aZ)(w:World):Prop:=
 ∀a,Fits n a L->FX P ops Q (List.range' i (ops.size-i)) a w
theorem qJu{ops:Array Oper}{i:Nat}{o:Oper}(h:ops[i]? =some o):List.range' i (ops.size-i)=i::List.range' (i+1) (ops.size-(i+1)):=by
 have hi:i<ops.size:=(Array.getElem?_eq_some_iff.1 h).1
 have:ops.size-i=(ops.size-(i+1))+1:=by omega
 rw[this,List.range'_succ]
theorem Fits.putL{n:Fr}{a:Act}{L L':aZ}(h:Fits n a L){d:Option Nat}{v:Value}(b:Dc.putL n d v L=some L'):Fits n (a.put d v) L':=by
 cases d with
 |none=>simp[Dc.putL] at b;subst b;exact h
 |some d=>
  simp only[Dc.putL] at b
  cases c:Nat.blt d n with
  |false=>simp[c] at b
  |true=>simp[c] at b;subst b;exact h.put c v
section
variable {P:Program} {n:Fr} {ops:Array Oper} {Q:Exit->Act->World->Prop}
theorem qAj:∀(k i:Nat) (L L':aZ) (w:World),nK P n ops k i L=some L'->WO P n ops Q (i+k) L' w->WO P n ops Q i L w
 |0,i,L,L',w,h,g=>by simp[nK] at h;subst h;exact g
 |k+1,i,L,L',w,h,g=>by
  intro a f
  simp only[nK] at h
  cases l:ops[i]? with
  |none=>simp[l] at h
  |some o=>
   simp only[l] at h
   rw[qJu l]
   simp only[FX,rO,l]
   cases q:uX ops L o.guard with
   |none=>simp[q] at h
   |some b=>
    have c:=f.wanted q
    cases b with
    |false=>
     simp only[q] at h
     obtain⟨L1,r,s⟩:=kM.1 h
     simp only[c,jA,jG]
     exact qAj k (i+1) L1 L' w s (by rw[gS,dV 1 k];exact g) _ (f.putL r)
    |true=>
     simp only[q] at h
     cases e:xD L o.op with
     |false=>simp[e] at h
     |true=>
      simp only[e,cond_true] at h
      obtain⟨v,p,h⟩:=kM.1 h
      obtain⟨L1,r,s⟩:=kM.1 h
      simp only[c,jI]
      have next:=qAj k (i+1) L1 L' w s (by rw[gS,dV 1 k];exact g) _ (f.putL r)
      rw[f.exec e]
      cases d:zV P (execOp (pY L) o) with
      |none=>simp[d,asV] at p
      |some nx=>
       rw[qAa d w]
       cases nx<;>simp[d,asV] at p
       case value u=>subst p;exact next
       case skip=>subst p;exact next
theorem NC{d:Nat}{v:Value}:∀{l:aZ},look l d=some v->(d,v)∈l
 |[],h=>by simp[look] at h
 |(k,u)::l,h=>by
  simp only[look] at h
  cases a:Nat.beq k d with
  |true=>simp[a] at h;subst h;have:=fS a;subst this;exact jF ..
  |false=>simp[a] at h;exact jH _ (NC h)
def cT(ops:Array Oper)(L:aZ)(i:Nat):Option (Option Nat×Op):=
 match ops[i]? with
 |none=>none
 |some o=>match uX ops L o.guard with
  |some true=>bif xD L o.op then some (o.dst,o.op) else none
  |_=>none
theorem MX{L:aZ}{i:Nat}{d:Option Nat}{op:Op}(h:cT ops L i=some (d,op)):
  ∃o,ops[i]? =some o/\o.dst=d/\o.op=op/\uX ops L o.guard=some true/\xD L o.op=true:=by
 unfold cT at h
 cases e:ops[i]? with
 |none=>simp[e] at h
 |some o=>
  simp only[e] at h
  cases a:uX ops L o.guard with
  |none=>simp[a] at h
  |some b=>
   cases b with
   |false=>simp[a] at h
   |true=>
    simp only[a] at h
    cases c:xD L o.op with
    |false=>simp[c] at h
    |true=>
     simp[c] at h
     exact⟨o,rfl,h.1,h.2,a,c⟩
def iB(P:Program)(n:Fr)(ops:Array Oper)(Q:Exit->Act->World->Prop)(i:Nat)(N:aZ->World->Prop)(L:aZ)(w:World):Prop:=
 ∀a,Fits n a L->rO P ops Q i (fun a' w'=>∃L',Fits n a' L'/\N L' w') a w
theorem wY{i:Nat}{L:aZ}{w:World}(hi:Nat.blt i ops.size=true)(h:iB P n ops Q i (fun L w=>WO P n ops Q (i+1) L w) L w):WO P n ops Q i L w:=by
 have hi':i<ops.size:=by simpa[Nat.blt_eq] using hi
 intro a d
 have e:ops[i]? =some ops[i]:=Array.getElem?_eq_getElem hi'
 rw[qJu e]
 have fin:∀a' w',(∃L',Fits n a' L'/\WO P n ops Q (i+1) L' w')->FX P ops Q (List.range' (i+1) (ops.size-(i+1))) a' w':=fun a' w' ⟨L',b,c⟩=>c a' b
 exact TX fin (h a d)
section
variable {N:aZ->World->Prop}
theorem nH{i d:Nat}{op:Op}{L:aZ}{w w':World}{v:Value}(q:cT ops L i=some (some d,op))(p:Nat.blt d n=true)
  (c:∀o:Oper,o.op=op->(execOp (pY L) o).run P w= .ok (.value v) w')
  (h:N ((d,v)::L) w'):iB P n ops Q i N L w:=by
 obtain⟨o,e,f,g,k,l⟩:=MX q
 intro a b
 unfold rO
 simp only[e,b.wanted k,jI]
 rw[b.exec l,c o g,Oper.uponIn_value,f]
 exact⟨_,b.put p v,h⟩
theorem EP{i:Nat}{op:Op}{L:aZ}{w w':World}(l:cT ops L i=some (none,op))
  (c:∀o:Oper,o.op=op->(execOp (pY L) o).run P w= .ok .skip w')
  (h:N L w'):iB P n ops Q i N L w:=by
 obtain⟨o,d,e,f,g,k⟩:=MX l
 intro a b
 unfold rO
 simp only[d,b.wanted g,jI]
 rw[b.exec k,c o f,Oper.uponIn_skip,e]
 exact⟨_,b,h⟩
theorem ID{i d:Nat}{op:Op}{L:aZ}{w w':World}{v:Value}(q:cT ops L i=some (some d,op))(l:Nat.blt d n=true)
  (c:∀o:Oper,o.op=op->∃v' w',(execOp (pY L) o).run P w= .ok (.value v') w'/\N ((d,v')::L) w'):iB P n ops Q i N L w:=by
 obtain⟨o,e,f,g,h,k⟩:=MX q
 obtain⟨v',w'',r,p⟩:=c o g
 intro a b
 unfold rO
 simp only[e,b.wanted h,jI]
 rw[b.exec k,r,Oper.uponIn_value,f]
 exact⟨_,b.put l v',p⟩
def wC(P:Program)(ops:Array Oper)(L:aZ)(i:Nat):Option (Option Nat×Nat×Array Value):=
 match ops[i]? with
 |none=>none
 |some o=>match uX ops L o.guard with
  |some true=>bif xD L o.op then(match zV P (execOp (pY L) o) with
   |some (.enter f args)=>some (o.dst,f,args)
   |_=>none) else none
  |_=>none
theorem qWc{L:aZ}{i f:Nat}{d:Option Nat}{args:Array Value}(h:wC P ops L i=some (d,f,args)):
  ∃o,ops[i]? =some o/\o.dst=d/\uX ops L o.guard=some true/\xD L o.op=true/\zV P (execOp (pY L) o)=some (.enter f args):=by
 unfold wC at h
 cases e:ops[i]? with
 |none=>simp[e] at h
 |some o=>
  simp only[e] at h
  cases a:uX ops L o.guard with
  |none=>simp[a] at h
  |some b=>
   cases b with
   |false=>simp[a] at h
   |true=>
    simp only[a] at h
    cases c:xD L o.op with
    |false=>simp[c] at h
    |true=>
     simp only[c,cond_true] at h
     split at h
     .rename_i f' args' he
      simp only[jO,Prod.mk.injEq] at h
      obtain⟨g,rfl,rfl⟩:=h
      exact⟨o,rfl,g,a,c,he⟩
     cases h
theorem sM{i:Nat}{L:aZ}{w:World}(d f:Nat)(args:Array Value)(q:wC P ops L i=some (some d,f,args))(k:Nat.blt d n=true)
  (h:Calls P f args w fun e w'=>∃v,e= .returned v/\N ((d,v)::L) w'):iB P n ops Q i N L w:=by
 obtain⟨o,c,g,r,p,l⟩:=qWc q
 intro a b
 unfold rO
 simp only[c,b.wanted r,jI]
 rw[b.exec p,qAa l w,Oper.uponIn_enter]
 refine⟨fun e=>by simp[Fence.wide] at e,CallsIn.mono (callsIn_wide.2 h) ?_⟩
 rintro e w' ⟨v,rfl,hk'⟩
 rw[g]
 exact⟨_,b.put k v,hk'⟩
end
theorem qOu{L:aZ}{w:World}{i:Nat}(hi:ops.size=i)(h:∀a,Fits n a L->Q .normal a w):WO P n ops Q i L w:=by
 intro a b
 subst hi
 simp only[Nat.sub_self,List.range'_zero,FX]
 exact h a b
theorem qOo{i:Nat}{L:aZ}{w:World}(L':aZ)(d:L'.map (fun p=>look L p.1)=L'.map fun p=>some p.2)(h:WO P n ops Q i L' w):WO P n ops Q i L w:=by
 intro a b
 refine h a (b.sub ?_)
 intro t v e
 have c:=NC e
 have:=(dG.1 d) (t,v) c
 exact this
end
def W(ρ:Option Nat)(P:Program)(n:Fr)(c:Code)(Q:Exit->Act->World->Prop)(L:aZ)(w:World):Prop:=∀a,Fits n a L->c.wpIn (lV ρ) 0 P Q a w
def X(n:Fr)(Q:Exit->Act->World->Prop)(e:Exit)(L:aZ)(w:World):Prop:=∀a,Fits n a L->Q e a w
section
variable {ρ:Option Nat} {P:Program} {n:Fr} {Q:Exit->Act->World->Prop} {L:aZ} {w:World}
theorem bC{y:Code}(h:W ρ P n y Q L w):X n (Exit.then (fun a w=>y.wpIn (lV ρ) 0 P Q a w) Q) .normal L w:=h
theorem MK{K:Act->World->Prop}{id:Nat}(h:X n Q (.exit id) L w):X n (Exit.then K Q) (.exit id) L w:=h
theorem bL{K:Act->World->Prop}(h:X n Q .ret L w):X n (Exit.then K Q) .ret L w:=h
theorem nA{id:Nat}(h:X n Q .normal L w):X n (Exit.inBlock id Q) .normal L w:=h
theorem cN{id:Nat}(h:X n Q .ret L w):X n (Exit.inBlock id Q) .ret L w:=h
theorem uT{id:Nat}(h:X n Q .normal L w):X n (Exit.inBlock id Q) (.exit id) L w:=by
 intro a b;simp only[Exit.inBlock,jI];exact h a b
theorem MN{id id':Nat}(b:Nat.beq id' id=false)(h:X n Q (.exit id') L w):X n (Exit.inBlock id Q) (.exit id') L w:=by
 intro a c
 have:¬id'=id:=by rintro rfl;simp at b
 simp only[Exit.inBlock,if_neg this];exact h a c
theorem aG{x y:Code}(h:W ρ P n x (Exit.then (fun a w=>y.wpIn (lV ρ) 0 P Q a w) Q) L w):W ρ P n (.seq x y) Q L w:=fun a b=>wpIn_seq (h a b)
theorem oQ(h:X n Q .normal L w):W ρ P n .skip Q L w:=fun a b=>wpIn_skip (h a b)
theorem bU(h:X n Q .ret L w):W ρ P n .ret Q L w:=fun a b=>wpIn_ret (h a b)
theorem UT{id:Nat}(h:X n Q (.exit id) L w):W ρ P n (.exit id) Q L w:=fun a b=>wpIn_exit (h a b)
theorem bA{id:Nat}{c:Code}(h:W ρ P n c (Exit.inBlock id Q) L w):W ρ P n (.block id c) Q L w:=fun a b=>wpIn_block (h a b)
theorem qYe{id:Nat}{ops:Array Oper}(c:IP ρ ops=true)(h:WO P n ops Q 0 L w):W ρ P n (.region id ops false) Q L w:=by
 intro a b
 refine wpIn_region (qOa c _ _ _ ?_)
 have:=h a b
 simpa[List.range_eq_range'] using this
theorem tV{id:Nat}{ops:Array Oper}(h:WO P n ops Q 0 L w):W none P n (.region id ops false) Q L w:=qYe rfl h
theorem NT{c:Operand}{x y:Code}(b:Bool)(e:aW L c=some (.bool b))(g:b=true->W ρ P n x Q L w)(f:b=false->W ρ P n y Q L w):W ρ P n (.cond c x y) Q L w:=
 fun a d=>wpIn_cond_split (d.ev e) (fun h=>g h a d) (fun h=>f h a d)
theorem zHo{c:Code}(L':aZ)(d:L'.map (fun p=>look L p.1)=L'.map fun p=>some p.2)(h:W ρ P n c Q L' w):W ρ P n c Q L w:=by
 intro a b
 refine h a (b.sub ?_)
 intro t v e
 exact(dG.1 d) (t,v) (NC e)
theorem JC{e:Exit}(L':aZ)(c:L'.map (fun p=>look L p.1)=L'.map fun p=>some p.2)(h:X n Q e L' w):X n Q e L w:=by
 intro a b
 refine h a (b.sub ?_)
 intro t v d
 exact(dG.1 c) (t,v) (NC d)
theorem zGt{c:Code}(I:Nat->aZ->World->Prop)(k:Nat)(f:I k L w)
  (round:∀k L w,I k L w->W ρ P n c (Exit.then (fun a' w'=>∃k' L',k'<k/\Fits n a' L'/\I k' L' w') Q) L w):W ρ P n (.loop c) Q L w:=by
 intro a b
 refine wpIn_loop_ghost (fun k a w=>∃L,Fits n a L/\I k L w) k ⟨L,b,f⟩ ?_
 rintro k a w ⟨L,b,o⟩
 refine wpIn_mono (round k L w o a b) ?_
 intro e a' w' d
 cases e with
 |normal=>obtain⟨k',L',g,h,l⟩:=d;exact⟨k',g,L',h,l⟩
 |_=>exact d
theorem zEc{k:Nat}{I:Nat->aZ->World->Prop}(k':Nat)(b:k'<k)(h:I k' L w):X n (Exit.then (fun a' w'=>∃k' L',k'<k/\Fits n a' L'/\I k' L' w') Q) .normal L w:=
 fun _ a=>⟨k',L,b,a,h⟩
theorem zEs{f:FuncId}{fn:Func}{c:Code}{args:Array Value}{R:Ending->World->Prop}(e:P.funcs[f]? =some fn)(d:fn.body=some c){k:Nat}(g:fn.ntmps=k)(L:aZ)
  (b:L.map (fun p=>(args[p.1]?))=L.map fun p=>some p.2) (a:Nat.ble args.size k=true) (h:W none P ⟨k,[]⟩ c (bodyPost P fn R) L w):Calls P f args w R:=by
 refine calls_of_wp e d (wpIn_wide.1 (h _ ⟨?_,rfl,?_⟩))
 .subst g
  have:args.size<=fn.ntmps:=gP a
  simp only[Array.size_append,Array.size_replicate];omega
 intro t v n
 have:=(dG.1 b) (t,v) (NC n)
 have l:t<args.size:=(Array.getElem?_eq_some_iff.1 this).1
 simp only[Array.getElem?_append,l,jI]
 exact this
end
attribute [irreducible] FX
end
section
def qQe:List (Nat×Array Value):=[]
structure Mem where
 cell:Nat->Nat->Option Value
 obj:Nat->Option Obj
 wd:World
 ht:∀p∈qQe,∃t f,obj p.1=some (.cells p.2 t f)
def zEi:Bool:=true
def Step(w w':World):Prop:=(w'.os=w.os/\w'.output=w.output)/\w'.tape=w.tape/\(zEi=true->w.drawn<=w'.drawn)
theorem oW{p:Prop}(h:p:=by first|exact fun _=>jN _|exact fun _=>Nat.le_succ _):p:=h
theorem Step.refl(w:World):Step w w:=⟨⟨rfl,rfl⟩,rfl,oW⟩
theorem Step.trans{c d e:World}(a:Step c d)(b:Step d e):Step c e:=⟨⟨b.1.1.trans a.1.1,b.1.2.trans a.1.2⟩,b.2.1.trans a.2.1,fun h=>gJ (a.2.2 h) (b.2.2 h)⟩
def Mem.le(m m':Mem):Prop:=(∀b o v,m.cell b o=some v->m'.cell b o=some v)/\(∀b x,m.obj b=some x->m'.obj b=some x)/\m.wd=m'.wd
theorem Mem.le_refl(m:Mem):m.le m:=⟨fun _ _ _ h=>h,fun _ _ h=>h,rfl⟩
theorem Mem.le_trans{c d e:Mem}(a:c.le d)(b:d.le e):c.le e:=⟨fun _ _ _ h=>b.1 _ _ _ (a.1 _ _ _ h),fun _ _ h=>b.2.1 _ _ (a.2.1 _ _ h),a.2.2.trans b.2.2⟩
def Inv(m:Mem)(w:World):Prop:=
 (∀b o v,m.cell b o=some v->∃c e f,w.heap[b]? =some (.cells c e f)/\c[o]? =some v)/\(∀b x,m.obj b=some x->w.heap[b]? =some x)/\Step m.wd w
inductive Piece where
 |blk (b:Nat) (o:Obj)
 |room (a:Option Addr) (n cap:Nat) (e:TypeId) (sz:Nat)
def Piece.block:Piece->Option Nat
 | .blk b _=>some b
 | .room a _ _ _ _=>a.map (·.block)
def qCf(m:Mem)(b:Nat):Prop:=(∀o,m.cell b o=none)/\m.obj b=none
def Piece.holds(m:Mem)(w:World):Piece->Prop
 | .blk b o=>w.heap[b]? =some o/\qCf m b
 | .room none n cap _ _=>n=0/\cap=0
 | .room (some p) n cap e sz=>p.off=0/\p.spot=none/\n<=cap/\cap<=maxLen/\(∃cur,w.heap[p.block]? =some (.cells cur e (0,0))/\cur.size=cap*sz)/\
  (∀o,n*sz<=o->m.cell p.block o=none)/\m.obj p.block=none
def St(m:Mem)(own:List Piece)(w:World):Prop:=Inv m w/\(∀p∈own,p.holds m w)/\(own.filterMap Piece.block).Nodup
theorem xX{w:World}{b:Nat}{x:Obj}(h:w.heap[b]? =some x):b<w.heap.size:=(Array.getElem?_eq_some_iff.1 h).1
theorem Piece.holds_lt{m:Mem}{w:World}{p:Piece}(h:p.holds m w){b:Nat}(d:p.block=some b):b<w.heap.size:=by
 cases p with
 |blk c o=>simp[Piece.block] at d;subst d;exact xX h.1
 |room a n cap e sz=>
  cases a with
  |none=>simp[Piece.block] at d
  |some q=>simp[Piece.block] at d;subst d;obtain⟨_,_,_,_,⟨cur,f,_⟩,_⟩:=h;exact xX f
theorem St.inv{m:Mem}{own:List Piece}{w:World}(h:St m own w):Inv m w:=h.1
theorem St.fresh_free{m:Mem}{own:List Piece}{w:World}(h:St m own w):qCf m w.heap.size:=by
 constructor
 .intro o
  cases hc:m.cell w.heap.size o with
  |none=>rfl
  |some v=>
   obtain⟨c,e,f,a,_⟩:=h.1.1 _ _ _ hc
   have:=xX a;omega
 cases hc:m.obj w.heap.size with
 |none=>rfl
 |some x=>have:=xX (h.1.2.1 _ _ hc);omega
theorem Inv.keep{m:Mem}{w w':World}(h:Inv m w)(n:Step w w')(k:∀b,(∃x,w.heap[b]? =some x)->¬qCf m b->w'.heap[b]? =w.heap[b]?):Inv m w':=by
 refine⟨?_,?_,h.2.2.trans n⟩
 .intro b o v g
  obtain⟨c,e,f,a,l⟩:=h.1 b o v g
  exact⟨c,e,f,by rw[k b ⟨_,a⟩ (fun d=>by rw[d.1 o] at g;cases g)];exact a,l⟩
 intro b x g
 have a:=h.2.1 b x g
 rw[k b ⟨_,a⟩ (fun d=>by rw[d.2] at g;cases g)];exact a
theorem Piece.holds_keep{m:Mem}{w w':World}{p:Piece}(h:p.holds m w)(d:∀b,p.block=some b->w'.heap[b]? =w.heap[b]?):p.holds m w':=by
 cases p with
 |blk c o=>exact⟨by rw[d c rfl];exact h.1,h.2⟩
 |room a n cap e sz=>
  cases a with
  |none=>exact h
  |some q=>
   obtain⟨f,g,k,l,⟨cur,r,s⟩,t⟩:=h
   exact⟨f,g,k,l,⟨cur,by rw[d _ rfl];exact r,s⟩,t⟩
theorem St.grow{m:Mem}{own:List Piece}{w w':World}(h:St m own w)(e:Step w w')(a:∀b,b<w.heap.size->w'.heap[b]? =w.heap[b]?):St m own w':=
 ⟨h.1.keep e fun b ⟨_,f⟩ _=>a b (xX f),fun p c=>Piece.holds_keep (h.2.1 p c) fun b d=>a b (Piece.holds_lt (h.2.1 p c) d),h.2.2⟩
theorem MU{own:List Piece}{b:Nat}:b∈own.filterMap Piece.block↔∃p∈own,p.block=some b:=by simp[List.mem_filterMap]
theorem St.block_lt{m:Mem}{own:List Piece}{w:World}(h:St m own w){b:Nat}(c:b∈own.filterMap Piece.block):b<w.heap.size:=by
 obtain⟨p,d,a⟩:=MU.1 c
 exact Piece.holds_lt (h.2.1 p d) a
theorem St.alloc{m:Mem}{own:List Piece}{w w':World}(h:St m own w){o:Obj}(g:Step w w')(d:w'.heap=w.heap.push o):St m (.blk w.heap.size o::own) w':=by
 have c:=h.grow (w':=w') g (fun b e=>by rw[d,Array.getElem?_push];simp[Nat.ne_of_lt e])
 refine⟨c.1,?_,?_⟩
 .intro p a
  rcases jJ.1 a with rfl|a
  .exact⟨by rw[d];simp,h.fresh_free⟩
  exact c.2.1 p a
 have a:List.filterMap Piece.block (.blk w.heap.size o::own)=w.heap.size::own.filterMap Piece.block:=rfl
 rw[a,fE]
 exact⟨fun f=>by have:=h.block_lt f;omega,h.2.2⟩
theorem St.tail{m:Mem}{p:Piece}{own:List Piece}{w:World}(h:St m (p::own) w):St m own w:=by
 refine⟨h.1,fun q c=>h.2.1 q (jH _ c),?_⟩
 have:=h.2.2
 cases a:p.block with
 |none=>simpa[fY,a] using this
 |some b=>simp only[fY,a,fE] at this;exact this.2
theorem St.head{m:Mem}{p:Piece}{own:List Piece}{w:World}(h:St m (p::own) w):p.holds m w:=h.2.1 p (jF ..)
theorem St.head_ne{m:Mem}{p:Piece}{own:List Piece}{w:World}(h:St m (p::own) w){b:Nat}(a:p.block=some b):b∉own.filterMap Piece.block:=by
 have:=h.2.2
 simp only[fY,a,fE] at this
 exact this.1
theorem St.cons{m:Mem}{p:Piece}{own:List Piece}{w:World}(h:St m own w)(e:p.holds m w)(d:∀b,p.block=some b->b∉own.filterMap Piece.block):St m (p::own) w:=by
 refine⟨h.1,fun q c=> ?_,?_⟩
 .rcases jJ.1 c with rfl|c
  .exact e
  exact h.2.1 q c
 cases a:p.block with
 |none=>simpa[fY,a] using h.2.2
 |some b=>simp only[fY,a,fE];exact⟨d b a,h.2.2⟩
theorem St.perm{m:Mem}{own own':List Piece}{w:World}(h:St m own w)(a:own.Perm own'):St m own' w:=
 ⟨h.1,fun p b=>h.2.1 p (a.mem_iff.2 b),(a.filterMap _).nodup_iff.1 h.2.2⟩
theorem St.front1{m:Mem}{a b:Piece}{own:List Piece}{w:World}(h:St m (a::b::own) w):St m (b::a::own) w:=h.perm (.swap b a own)
theorem St.front2{m:Mem}{a b c:Piece}{own:List Piece}{w:World}(h:St m (a::b::c::own) w):St m (c::a::b::own) w:=
 h.perm ((List.Perm.cons a (.swap c b own)).trans (.swap c a _))
theorem St.front3{m:Mem}{a b c d:Piece}{own:List Piece}{w:World}(h:St m (a::b::c::d::own) w):St m (d::a::b::c::own) w:=
 h.perm (((List.Perm.cons a ((List.Perm.cons b (.swap d c own)).trans (.swap d b _)))).trans (.swap d a _))
theorem St.front4{m:Mem}{a b c d e:Piece}{own:List Piece}{w:World}(h:St m (a::b::c::d::e::own) w):St m (e::a::b::c::d::own) w:=by
 refine h.perm ?_
 have:List.Perm (b::c::d::e::own) (e::b::c::d::own):=(List.Perm.cons b ((List.Perm.cons c (.swap e d own)).trans (.swap e c _))).trans (.swap e b _)
 exact(List.Perm.cons a this).trans (.swap e a _)
theorem St.front5{m:Mem}{p0 p1 p2 p3 p4 p5:Piece}{own:List Piece}{w:World}(h:St m (p0::p1::p2::p3::p4::p5::own) w):St m (p5::p0::p1::p2::p3::p4::own) w:=
 h.perm (gZ (a:=p5) (l₁:=[p0,p1,p2,p3,p4]) (l₂:=own))
theorem St.front6{m:Mem}{p0 p1 p2 p3 p4 p5 p6:Piece}{own:List Piece}{w:World}(h:St m (p0::p1::p2::p3::p4::p5::p6::own) w):St m (p6::p0::p1::p2::p3::p4::p5::own) w:=
 h.perm (gZ (a:=p6) (l₁:=[p0,p1,p2,p3,p4,p5]) (l₂:=own))
theorem St.front7{m:Mem}{p0 p1 p2 p3 p4 p5 p6 p7:Piece}{own:List Piece}{w:World}(h:St m (p0::p1::p2::p3::p4::p5::p6::p7::own) w):St m (p7::p0::p1::p2::p3::p4::p5::p6::own) w:=
 h.perm (gZ (a:=p7) (l₁:=[p0,p1,p2,p3,p4,p5,p6]) (l₂:=own))
theorem St.front8{m:Mem}{p0 p1 p2 p3 p4 p5 p6 p7 p8:Piece}{own:List Piece}{w:World}(h:St m (p0::p1::p2::p3::p4::p5::p6::p7::p8::own) w):St m (p8::p0::p1::p2::p3::p4::p5::p6::p7::own) w:=
 h.perm (gZ (a:=p8) (l₁:=[p0,p1,p2,p3,p4,p5,p6,p7]) (l₂:=own))
theorem St.front9{m:Mem}{p0 p1 p2 p3 p4 p5 p6 p7 p8 p9:Piece}{own:List Piece}{w:World}(h:St m (p0::p1::p2::p3::p4::p5::p6::p7::p8::p9::own) w):St m (p9::p0::p1::p2::p3::p4::p5::p6::p7::p8::own) w:=
 h.perm (gZ (a:=p9) (l₁:=[p0,p1,p2,p3,p4,p5,p6,p7,p8]) (l₂:=own))
theorem St.front11{m:Mem}{p0 p1 p2 p3 p4 p5 p6 p7 p8 p9 p10 p11:Piece}{own:List Piece}{w:World}(h:St m (p0::p1::p2::p3::p4::p5::p6::p7::p8::p9::p10::p11::own) w):St m (p11::p0::p1::p2::p3::p4::p5::p6::p7::p8::p9::p10::own) w:=
 h.perm (gZ (a:=p11) (l₁:=[p0,p1,p2,p3,p4,p5,p6,p7,p8,p9,p10]) (l₂:=own))
theorem St.set{m:Mem}{own:List Piece}{w w':World}{b:Nat}{o o':Obj}(h:St m (.blk b o::own) w)(s:Step w w')(q:w'.heap[b]? =some o')
  (n:∀k,k<w.heap.size->k≠b->w'.heap[k]? =w.heap[k]?):St m (.blk b o'::own) w':=by
 have l:=h.head
 have f:=h.head_ne (b:=b) rfl
 have a:=h.tail
 refine St.cons ⟨a.1.keep s fun k ⟨x,t⟩ r=>n k (xX t) (fun e=>r (e▸l.2)),fun p g=>Piece.holds_keep (a.2.1 p g) fun k c=>n k (Piece.holds_lt (a.2.1 p g) c) (fun e=>f (MU.2 ⟨p,g,e▸c⟩)),a.2.2⟩ ⟨q,l.2⟩ ?_
 intro k d;simp only[Piece.block,jO] at d;subst d;exact f
def Mem.addCells(m:Mem)(b:Nat)(f:Nat->Option Value):Mem:={m with cell:=fun k o=>if k=b then(match m.cell k o with|some v=>some v|none=>f o) else m.cell k o}
theorem Mem.le_addCells(m:Mem)(b:Nat)(f:Nat->Option Value):m.le (m.addCells b f):=by
 refine⟨fun k o v h=> ?_,fun _ _ h=>h,rfl⟩
 simp only[addCells]
 split
 .simp[h]
 exact h
theorem Piece.holds_addCells{m:Mem}{w:World}{p:Piece}{b:Nat}{f:Nat->Option Value}(h:p.holds m w)(d:p.block≠some b):p.holds (m.addCells b f) w:=by
 cases p with
 |blk c o=>
  have:c≠b:=fun e=>d (by simp[Piece.block,e])
  exact⟨h.1,fun o=>by simp[Mem.addCells,this,h.2.1 o],h.2.2⟩
 |room a n cap e sz=>
  cases a with
  |none=>exact h
  |some q=>
   have:q.block≠b:=fun e=>d (by simp[Piece.block,e])
   obtain⟨g,k,l,r,s,t,u⟩:=h
   exact⟨g,k,l,r,s,fun o v=>by simp[Mem.addCells,this,t o v],u⟩
theorem St.addCells{m:Mem}{own:List Piece}{w:World}(h:St m own w){b:Nat}{f:Nat->Option Value}(l:b∉own.filterMap Piece.block)
  (n:∀o v,f o=some v->∃c e fr,w.heap[b]? =some (.cells c e fr)/\c[o]? =some v):St (m.addCells b f) own w:=by
 refine⟨⟨?_,h.1.2⟩,fun p g=>Piece.holds_addCells (h.2.1 p g) fun e=>l (MU.2 ⟨p,g,e⟩),h.2.2⟩
 intro k o v a
 simp only[Mem.addCells] at a
 split at a
 .rename_i hk;subst hk
  cases d:m.cell k o with
  |some u=>simp[d] at a;subst a;exact h.1.1 _ _ _ d
  |none=>simp[d] at a;exact n o v a
 exact h.1.1 _ _ _ a
def MRow(m:Mem)(b o:Nat)(cs:List Value):Prop:=∀j v,cs[j]? =some v->m.cell b (o+j)=some v
theorem MRow.mono{m m':Mem}{b o:Nat}{cs:List Value}(h:MRow m b o cs)(a:m.le m'):MRow m' b o cs:=fun j v c=>a.1 _ _ _ (h j v c)
theorem MRow.drop{m:Mem}{b o:Nat}{cs:List Value}(h:MRow m b o cs)(k:Nat):MRow m b (o+k) (cs.drop k):=by
 intro j v a
 have:=h (k+j) v (by simpa[List.getElem?_drop] using a)
 rw[gS];exact this
structure Codec(α:Type) where
 sz:Nat
 pos:0<sz
 rep:Mem->α->List Value->Prop
 len:∀m x cs,rep m x cs->cs.length=sz
 one:∀m x cs,rep m x cs->∀v∈cs,v.oneCell'=true
 mono:∀m m' x cs,m.le m'->rep m x cs->rep m' x cs
def RepS{α:Type}(c:Codec α)(m:Mem)(a:Option Addr)(cap:Nat)(l:List α):Prop:=
 l.length<=cap/\cap<=maxLen/\match a with
  |none=>cap=0
  |some p=>(p.spot=none\/l=[])/\∀i x,l[i]? =some x->∃cs,c.rep m x cs/\MRow m p.block (p.off+i*c.sz) cs
theorem RepS.mono{α:Type}{c:Codec α}{m m':Mem}{a:Option Addr}{cap:Nat}{l:List α}(h:RepS c m a cap l)(b:m.le m'):RepS c m' a cap l:=by
 refine⟨h.1,h.2.1,?_⟩
 cases a with
 |none=>exact h.2.2
 |some p=>
  refine⟨h.2.2.1,fun i x f=> ?_⟩
  obtain⟨cs,d,e⟩:=h.2.2.2 i x f
  exact⟨cs,c.mono _ _ _ _ b d,e.mono b⟩
theorem RepS.nil{α:Type}(c:Codec α)(m:Mem):RepS c m none 0 []:=⟨jN _,jW _,rfl⟩
theorem RepS.cells{α:Type}{c:Codec α}{m:Mem}{p:Addr}{cap:Nat}{l:List α}(h:RepS c m (some p) cap l):
  ∃cs,cs.length=l.length*c.sz/\(∀v∈cs,v.oneCell'=true)/\MRow m p.block p.off cs/\∀i x,l[i]? =some x->c.rep m x ((cs.drop (i*c.sz)).take c.sz):=by
 have key:∀(l:List α) (o:Nat),(∀i x,l[i]? =some x->∃cs,c.rep m x cs/\MRow m p.block (o+i*c.sz) cs)->
   ∃cs,cs.length=l.length*c.sz/\(∀v∈cs,v.oneCell'=true)/\MRow m p.block o cs/\∀i x,l[i]? =some x->c.rep m x ((cs.drop (i*c.sz)).take c.sz):=by
  intro l
  induction l with
  |nil=>intro o _;exact⟨[],by simp,by simp,fun j v h=>by simp at h,fun i x h=>by simp at h⟩
  |cons y l A=>
   intro o h
   obtain⟨n,q,z⟩:=h 0 y rfl
   have f:=c.len _ _ _ q
   obtain⟨k,r,s,t,u⟩:=A (o+c.sz) (fun i x g=>by
    obtain⟨cs,a,b⟩:=h (i+1) x (by simpa using g)
    exact⟨cs,a,by rw[kX,dL,dV (i*c.sz),<-gS] at b;exact b⟩)
   refine⟨n++k,by simp[f,r,kX,dV],?_,?_,?_⟩
   .intro v d
    rcases kJ.1 d with d|d
    .exact c.one _ _ _ q v d
    exact s v d
   .intro j v d
    rw[List.getElem?_append] at d
    split at d
    .simpa using z j v d
    rename_i hj
    have:=t _ v d
    rw[f] at this hj
    have e:o+c.sz+(j-c.sz)=o+j:=by omega
    rw[e] at this;exact this
   intro i x g
   cases i with
   |zero=>simp at g;subst g;simp[f▸hH (l₁:=n) (l₂:=k)];exact q
   |succ i=>
    have:=u i x (by simpa using g)
    have e:(n++k).drop ((i+1)*c.sz)=k.drop (i*c.sz):=by
     rw[dK,jU (by rw[f,kX];omega),jP,f,kX,dL,dP]
    rw[e];exact this
 exact key l p.off (h.2.2.2)
def yU(P:Program)(t:TypeId):Option (TypeId×Nat×Nat×Nat):=
 match P.underlying t with
 |some (.slice e)=>match P.info? e with
  |some i=>match i.zero with
   |some z=>some (e,i.size,i.bytes,z.cells.size)
   |none=>none
  |none=>none
 |_=>none
theorem WM{P:Program}{t e sz by_ zs:Nat}(h:yU P t=some (e,sz,by_,zs)):
  P.underlying t=some (.slice e)/\∃i z,P.info? e=some i/\i.zero=some z/\i.size=sz/\i.bytes=by_/\z.cells.size=zs:=by
 unfold yU at h
 split at h
 .rename_i e' he
  split at h
  .rename_i i hi
   split at h
   .rename_i z hz
    simp only[jO,Prod.mk.injEq] at h
    obtain⟨rfl,a,b,c⟩:=h
    exact⟨he,i,z,hi,hz,a,b,c⟩
   cases h
  cases h
 cases h
def zL(P:Program)(u e:TypeId):Prop:=P.underlying u=some (.slice e)\/P.underlying u=some .string
theorem yZ(g o j:Nat):(⟨g,o,none⟩:Addr).add j=⟨g,o+j,none⟩:=by unfold Addr.add;split<;>simp_all
theorem HV{p:Addr}(a:p.spot=none)(j:Nat):p.add j=⟨p.block,p.off+j,none⟩:=by
 obtain⟨b,o,s⟩:=p
 simp only at a;subst a
 exact yZ b o j
section
variable {P:Program}
def PH(P:Program)(w:World)(sz:Nat)(x:Value)(n:Nat)(news:List Value):Prop:=
 (Builtin.lenOf x).run P w= .ok n w/\(Builtin.firstCells sz n x).run P w= .ok news.toArray w/\news.length=n*sz/\∀v∈news,v.oneCell'=true
theorem qDw(w:World)(t u ty e:TypeId)(i:TypeInfo)(p:P.underlying t=some (.slice e))(q:zL P u e)(hi:P.info? e=some i){x:Value}{n:Nat}{news:List Value}
  (f:PH P w i.size x n news) (g sLen sCap:Nat) (cur:Array Value) (o:w.heap[g]? =some (.cells cur e (0,0))) (a:sLen+n<=sCap) (d:sLen*i.size+news.length<=cur.size):
  (Builtin.append_ #[t,u] ty #[.slice (some ⟨g,0,none⟩) sLen sCap,x]).run P w=
   .ok (.slice (some ⟨g,0,none⟩) (sLen+n) sCap) (w.setRow g (cur.toList.take (sLen*i.size)++news++cur.toList.drop (sLen*i.size+news.length)).toArray):=by
 obtain⟨h,k,r,l⟩:=f
 have c:=run_storeCells_at P g (sLen*i.size) e news 0 cur w o (by simpa using d) l
 simp only[gY] at c
 rcases q with b|b<;>simp[Builtin.append_,run_underlying p,run_underlying b,sizeOf,typeInfo,hi,h,a,k,yZ,c]
theorem qDr(w:World)(t u ty e:TypeId)(i:TypeInfo)(f:P.underlying t=some (.slice e))(g:zL P u e)(hi:P.info? e=some i){x:Value}{news:List Value}
  (b:PH P w i.size x 0 news):(Builtin.append_ #[t,u] ty #[.slice none 0 0,x]).run P w= .ok (.slice none 0 0) w:=by
 obtain⟨c,d,h,k⟩:=b
 rcases g with a|a<;>simp[Builtin.append_,run_underlying f,run_underlying a,sizeOf,typeInfo,hi,c,d]
theorem qDv(w:World)(t u ty e:TypeId)(i:TypeInfo)(z:Value)(s:P.underlying t=some (.slice e))(v:zL P u e)(hi:P.info? e=some i)(y:i.zero=some z){x:Value}{n:Nat}{news:List Value}
  (f:PH P w i.size x n news) (base:Option Addr) (sLen sCap:Nat) (olds:List Value)
  (d:∀w':World,Step w w'->w'.heap=w.heap->(Builtin.firstCells i.size sLen (.slice base sLen sCap)).run P w'= .ok olds.toArray w')
  (hsrc':∀w':World,Step w w'->w'.heap=w.heap->(Builtin.firstCells i.size n x).run P w'= .ok news.toArray w')
  (o:sCap<sLen+n) (k:(sLen+n)*i.bytes<=140737488355328) (g:sLen+n<=maxLen):
  (Builtin.append_ #[t,u] ty #[.slice base sLen sCap,x]).run P w=
   .ok (.slice (some ⟨w.heap.size,0,none⟩) (sLen+n) (grownCap w (sLen+n) sCap e))
    (w.drew.alloc (.cells ((olds++news).toArray++Builtin.zeroCells z.cells (grownCap w (sLen+n) sCap e-(sLen+n))) e)):=by
 obtain⟨h,A,B,D⟩:=f
 have p:¬(sLen+n<=sCap):=by omega
 have h63':¬(9223372036854775807<(sLen:Int)+(n:Int)):=by simp only[maxLen] at g;omega
 have l:=growslice_fits (need:=sLen+n) (old:=sCap) (bytes:=i.bytes) o k
 have hfit':¬(281474976710656<Builtin.nextslicecap (sLen+n) sCap*i.bytes):=by omega
 have c:IntKind.i64.max=9223372036854775807:=by decide
 have q:=d w.drew ⟨⟨rfl,rfl⟩,rfl,oW⟩ rfl
 have r:=hsrc' w.drew ⟨⟨rfl,rfl⟩,rfl,oW⟩ rfl
 have a:(Question.appendCap (sLen+n) sCap e).forced=false:=rfl
 rcases v with b|b<;>
  simp[Builtin.append_,run_underlying s,run_underlying b,sizeOf,typeInfo,zeroValue,hi,y,h,p,h63',hfit',c,a,q,r,newRow,grownCap]<;>(congr 2;apply Array.ext';simp)
def iU{α:Type}(by_:Nat)(l k:List α):Option (List α):=if(l.length+k.length)*by_<=140737488355328/\l.length+k.length<=maxLen then some (l++k) else none
theorem RepS.of_cells{α:Type}{c:Codec α}{m:Mem}{b cap:Nat}{l:List α}{cs:List Value}(d:l.length<=cap)(e:cap<=maxLen)
  (f:∀i x,l[i]? =some x->c.rep m x ((cs.drop (i*c.sz)).take c.sz)) (g:MRow m b 0 cs):RepS c m (some ⟨b,0,none⟩) cap l:=by
 refine⟨d,e,.inl rfl,fun i x h=>⟨_,f i x h,?_⟩⟩
 intro j v a
 rw[List.getElem?_take] at a
 split at a
 .rw[List.getElem?_drop] at a
  have:=g _ v a
  simp only[kT] at this ⊢
  exact this
 cases a
theorem RepS.cellsA{α:Type}{c:Codec α}{m:Mem}{a:Option Addr}{cap:Nat}{l:List α}(h:RepS c m a cap l):
  ∃cs,cs.length=l.length*c.sz/\(∀v∈cs,v.oneCell'=true)/\(∀p,a=some p->MRow m p.block p.off cs)/\∀i x,l[i]? =some x->c.rep m x ((cs.drop (i*c.sz)).take c.sz):=by
 cases a with
 |none=>
  obtain⟨d,_,b⟩:=h
  have:l=[]:=kO (by simp only at b;omega)
  subst this
  exact⟨[],by simp,by simp,by simp,by simp⟩
 |some p=>
  obtain⟨cs,d,e,b,f⟩:=h.cells
  exact⟨cs,d,e,fun q g=>by cases g;exact b,f⟩
theorem Inv.cell{m:Mem}{w:World}(h:Inv m w){b o:Nat}{v:Value}(g:m.cell b o=some v):w.cell? ⟨b,o,none⟩=some v:=by
 obtain⟨c,e,f,a,d⟩:=h.1 b o v g
 simp[World.cell?,a,d]
theorem qMc{m:Mem}{w:World}(hi:Inv m w){a:Option Addr}{n cap sz:Nat}{cs:List Value}(f:cs.length=n*sz)(g:∀p,a=some p->(p.spot=none\/cs=[])/\MRow m p.block p.off cs)(e:a=none->cs=[]):
  (Builtin.firstCells sz n (.slice a n cap)).run P w= .ok cs.toArray w:=by
 cases a with
 |none=>rw[e rfl];simp[Builtin.firstCells]
 |some p=>
  obtain⟨b,d⟩:=g p rfl
  exact run_firstCells_some w sz n p n cap cs f fun j v c=>by
   rcases b with b|b
   .rw[HV b];exact hi.cell (d j v c)
   subst b;simp at c
theorem RepS.none_nil{α:Type}{c:Codec α}{m:Mem}{cap:Nat}{l:List α}(h:RepS c m none cap l):l=[]/\cap=0:=by
 obtain⟨b,_,a⟩:=h
 simp only at a
 exact⟨kO aa,a⟩
theorem RepS.spot{α:Type}{c:Codec α}{m:Mem}{p:Addr}{cap:Nat}{l:List α}(h:RepS c m (some p) cap l)(a:l≠[]):p.spot=none:=h.2.2.1.resolve_right a
def Gives{α:Type}(P:Program)(c:Codec α)(m:Mem)(x:Value)(k:List α):Prop:=
 ∃cs,(∀w:World,Inv m w->PH P w c.sz x k.length cs)/\(∀i y,k[i]? =some y->c.rep m y ((cs.drop (i*c.sz)).take c.sz))
theorem RepS.src{α:Type}{c:Codec α}{m:Mem}{a:Option Addr}{cap:Nat}{l:List α}(h:RepS c m a cap l):Gives P c m (.slice a l.length cap) l:=by
 obtain⟨cs,b,d,f,g⟩:=h.cellsA
 refine⟨cs,fun w hi=>⟨by simp[Builtin.lenOf],qMc hi b (fun p n=> ?_) (fun k=> ?_),b,d⟩,g⟩
 .subst n;exact⟨h.2.2.1.imp id (fun e=>by subst e;exact kO (by simpa using b)),f p rfl⟩
 subst k;obtain⟨rfl,rfl⟩:=h.none_nil;exact kO (by simpa using b)
theorem zAv{α:Type}{c:Codec α}{m:Mem}{l k:List α}{a b:List Value}(f:a.length=l.length*c.sz)
  (g:∀i x,l[i]? =some x->c.rep m x ((a.drop (i*c.sz)).take c.sz)) (h:∀i x,k[i]? =some x->c.rep m x ((b.drop (i*c.sz)).take c.sz)):
  ∀i x,(l++k)[i]? =some x->c.rep m x (((a++b).drop (i*c.sz)).take c.sz):=by
 intro i x d
 rw[List.getElem?_append] at d
 split at d
 .rename_i hi
  have e:i*c.sz+c.sz<=a.length:=by
   rw[f]
   calc i*c.sz+c.sz=(i+1)*c.sz:=by rw[kX,dL]
    _<=l.length*c.sz:=kQ _ hi
  have:((a++b).drop (i*c.sz)).take c.sz=(a.drop (i*c.sz)).take c.sz:=by
   rw[gN aa,gC ai]
  rw[this];exact g i x d
 rename_i hi
 have e:a.length<=i*c.sz:=by rw[f];exact kQ _ aa
 have:(a++b).drop (i*c.sz)=b.drop ((i-l.length)*c.sz):=by
  rw[dK,jU e,jP,f,Nat.sub_mul]
 rw[this];exact h _ x d
theorem qLv{m:Mem}{w:World}(hi:Inv m w){b:Nat}{cs:List Value}(h:MRow m b 0 cs){cur:Array Value}{e:TypeId}{f:Nat×Nat}(g:w.heap[b]? =some (.cells cur e f)):cur.toList.take cs.length=cs:=by
 apply dH
 intro j
 rw[List.getElem?_take]
 by_cases hj:j<cs.length
 .rw[if_pos hj]
  have:=h j cs[j] (by simp[hj])
  obtain⟨c,e',f',a,d⟩:=hi.1 _ _ _ this
  rw[g] at a
  simp only[jO,Obj.cells.injEq] at a
  obtain⟨rfl,_,_⟩:=a
  simp only[kT] at d
  simp[d,hj]
 rw[if_neg hj];simp[Nat.le_of_not_lt hj]
theorem St.know{m:Mem}{own:List Piece}{w:World}{b:Nat}{cs:List Value}{cur:Array Value}{e:TypeId}{f:Nat×Nat}(h:St m own w)(d:b∉own.filterMap Piece.block)
  (l:w.heap[b]? =some (.cells cur e f)) (g:cur.toList.take cs.length=cs) (c:∀o v,m.cell b o=some v->cs[o]? =some v):
  ∃m',m.le m'/\St m' own w/\MRow m' b 0 cs/\(∀o,cs.length<=o->m'.cell b o=none)/\m'.obj=m.obj/\∀k,k≠b->m'.cell k=m.cell k:=by
 refine⟨m.addCells b (fun o=>cs[o]?),m.le_addCells b _,h.addCells d ?_,?_,?_,rfl,?_⟩
 .intro o v a
  refine⟨cur,e,f,l,?_⟩
  rw[<-g,List.getElem?_take] at a
  split at a
  .simpa using a
  cases a
 .intro j v a
  simp only[Mem.addCells,kT,jI]
  cases hc:m.cell b j with
  |none=>simp[a]
  |some u=>have:=c j u hc;rw[a] at this;simp_all
 .intro o a
  simp only[Mem.addCells,jI]
  cases hc:m.cell b o with
  |none=>simp[a]
  |some u=>
   have:=c o u hc
   have n:=(List.getElem?_eq_some_iff.1 this).1
   omega
 intro k a;funext o;simp[Mem.addCells,a]
theorem qVv{α:Type}{c:Codec α}{m:Mem}{own:List Piece}{w:World}{t u ty e by_:Nat}(b2:yU P t=some (e,c.sz,by_,c.sz))(hu:zL P u e)
  {a:Option Addr} {cap:Nat} {l k r:List α} {x:Value} (Y:St m (.room a l.length cap e c.sz::own) w) (hr:RepS c m a cap l)
  (hx:Gives P c m x k)
  (M:iU by_ l k=some r):
  ∃a' cap' m' w',(Builtin.append_ #[t,u] ty #[.slice a l.length cap,x]).run P w= .ok (.slice a' r.length cap') w'/\m.le m'/\St m' (.room a' r.length cap' e c.sz::own) w'/\RepS c m' a' cap' r:=by
 obtain⟨ht,i,z,hi,hz,R,b8,c0⟩:=WM b2
 unfold iU at M
 split at M
 .rename_i Z
  simp only[jO] at M
  subst M
  obtain⟨Z,b5⟩:=Z
  have s:=Y.inv
  obtain⟨f,a5,b4⟩:=hx
  have U:=a5 w s
  obtain⟨d,K,c1,b9,b3⟩:=hr.cellsA
  have b6:f.length=k.length*c.sz:=U.2.2.1
  have a0:(d++f).length=(l++k).length*c.sz:=by simp[K,b6,kX]
  have a4:∀m',m.le m'->∀i y,(l++k)[i]? =some y->c.rep m' y (((d++f).drop (i*c.sz)).take c.sz):=fun m' D=>
   zAv K (fun i y hy=>c.mono _ _ _ _ D (b3 i y hy)) (fun i y hy=>c.mono _ _ _ _ D (b4 i y hy))
  have H:=Y.tail
  -- a new block
  have out:cap<l.length+k.length->(∀w':World,Step w w'->w'.heap=w.heap->(Builtin.firstCells i.size l.length (.slice a l.length cap)).run P w'= .ok d.toArray w')->
    ∃a' cap' m' w',(Builtin.append_ #[t,u] ty #[.slice a l.length cap,x]).run P w= .ok (.slice a' (l++k).length cap') w'/\m.le m'/\St m' (.room a' (l++k).length cap' e c.sz::own) w'/\RepS c m' a' cap' (l++k):=by
   intro E a8
   have hinv':∀w':World,Step w w'->w'.heap=w.heap->Inv m w':=fun w' M hw=>s.keep M (fun b _ _=>by rw[hw])
   have A:=qDv w t u ty e i z ht hu hi hz (n:=k.length) (news:=f) (by rw[R];exact U) a l.length cap d a8
    (fun w' M hw=>by rw[R];exact(a5 w' (hinv' w' M hw)).2.1) E (by rw[b8];exact Z) b5
   generalize hgc:grownCap w (l.length+k.length) cap e=gc at A
   have a1:l.length+k.length<=gc:=hgc▸grownCap_ge _ _ _ _
   have a6:gc<=maxLen:=hgc▸grownCap_le_maxLen _ _ _ _ b5
   generalize hcur:(d++f).toArray++Builtin.zeroCells z.cells (gc-(l.length+k.length))=cur at A
   have a7:cur.size=gc*c.sz:=by
    rw[<-hcur]
    simp only[Array.size_append,kD,size_zeroCells,c0,a0,jB,<-kX]
    congr 1;omega
   have B:=H.alloc (w':=w.drew.alloc (.cells cur e)) (o:= .cells cur e) ⟨⟨rfl,rfl⟩,rfl,oW⟩ rfl
   have b0:cur.toList.take (d++f).length=d++f:=by rw[<-hcur,Array.toList_append,dM,hH]
   have V:=H.fresh_free
   obtain⟨m',D,hst',a3,a9,a2,S⟩:=St.know (b:=w.heap.size) B.tail (B.head_ne rfl) B.head.1 b0 (fun o v G=>by rw[V.1 o] at G;cases G)
   refine⟨some ⟨w.heap.size,0,none⟩,gc,m',w.drew.alloc (.cells cur e),by rw[A,jB],D,?_,RepS.of_cells (by simpa using a1) a6 (a4 m' D) a3⟩
   refine hst'.cons ⟨rfl,rfl,by simpa using a1,a6,⟨cur,B.head.1,a7⟩,?_,?_⟩ ?_
   .intro o ho;exact a9 o (by rw[a0];exact ho)
   .rw[a2];exact V.2
   intro b F
   simp only[Piece.block,gO,jO] at F
   subst F
   exact B.head_ne rfl
  cases a with
  |none=>
   obtain⟨rfl,rfl⟩:=hr.none_nil
   have B:d=[]:=kO (by simpa using K)
   subst B
   by_cases hk:k.length=0
   .have V:k=[]:=kO hk
    subst V
    refine⟨none,0,m,w,?_,m.le_refl,Y,hr⟩
    have:=qDr w t u ty e i ht hu hi (x:=x) (news:=f) (by rw[R];exact U)
    simpa using this
   exact out ai (fun w' _ _=>by simp[Builtin.firstCells])
  |some p=>
   obtain⟨h1,h2,h3,h4,⟨cur,h5,h6⟩,h7,h8⟩:=Y.head
   obtain⟨g,off,spot⟩:=p
   simp only at h1 h2 h5 h7 h8
   subst h1;subst h2
   have B:=b9 _ rfl
   simp only at B
   by_cases hroom:l.length+k.length<=cap
   .have b1:l.length*i.size+f.length<=cur.size:=by rw[b6,h6,R,<-kX];exact kQ _ hroom
    have A:=qDw w t u ty e i ht hu hi (x:=x) (n:=k.length) (news:=f) (by rw[R];exact U) g l.length cap cur h5 hroom b1
    rw[R,<-K] at A
    rw[qLv s B h5] at A
    generalize hw':w.setRow g (d++f++cur.toList.drop (d.length+f.length)).toArray=w' at A
    have a1:w'.heap[g]? =some (.cells (d++f++cur.toList.drop (d.length+f.length)).toArray e (0,0)):=by rw[<-hw'];exact setRow_heap w g cur _ e _ h5
    have S:∀b,b≠g->w'.heap[b]? =w.heap[b]? :=fun b F=>by rw[<-hw'];exact setRow_other w g b _ F
    have a7:(d++f++cur.toList.drop (d.length+f.length)).toArray.size=cap*c.sz:=by
     simp only[kD,jB,gF,fO]
     have:l.length*c.sz+k.length*c.sz<=cap*c.sz:=by rw[<-kX];exact kQ _ hroom
     omega
    have a8:=Y.head_ne (b:=g) rfl
    have b7:St m own w':=by
     refine⟨?_,fun q hq=>Piece.holds_keep (H.2.1 q hq) (fun b F=>S b ?_),H.2.2⟩
     .refine⟨?_,?_,s.2.2.trans (by rw[<-hw'];exact⟨⟨rfl,rfl⟩,rfl,oW⟩)⟩
      .intro b o v G
       by_cases F:b=g
       .subst F
        refine⟨_,e,(0,0),a1,?_⟩
        by_cases ho:o<l.length*c.sz
        .obtain⟨cc,e',f',V,a6⟩:=s.1 b o v G
         rw[h5] at V
         simp only[jO,Obj.cells.injEq] at V
         obtain⟨rfl,_,_⟩:=V
         have E:o<d.length:=by rw[K];exact ho
         have b0:=qLv s B h5
         have:d[o]? =some v:=by
          rw[<-b0,List.getElem?_take,if_pos E]
          simpa using a6
         simp only[List.getElem?_toArray,jE,List.getElem?_append,if_pos E]
         exact this
        rw[h7 o aa] at G;cases G
       obtain⟨cc,e',f',V,a6⟩:=s.1 b o v G
       exact⟨cc,e',f',by rw[S b F];exact V,a6⟩
      intro b y hy
      have:b≠g:=by rintro rfl;rw[h8] at hy;cases hy
      rw[S b this];exact s.2.1 b y hy
     rintro rfl;exact a8 (MU.2 ⟨q,hq,F⟩)
    obtain⟨m',D,hst',a3,a9,a2,_⟩:=St.know (b:=g) (cs:=d++f) b7 a8 a1 (by rw[dM,hH]) (fun o v G=>by
     by_cases ho:o<l.length*c.sz
     .have E:o<d.length:=by rw[K];exact ho
      have:=B o d[o] (by simp[E])
      simp only[kT] at this
      rw[this] at G
      simp only[List.getElem?_append,if_pos E]
      rw[<-G];simp[E]
     rw[h7 o aa] at G;cases G)
    refine⟨some ⟨g,0,none⟩,cap,m',w',by rw[A,jB],D,?_,RepS.of_cells (by simpa using hroom) h4 (a4 m' D) a3⟩
    refine hst'.cons ⟨rfl,rfl,by simpa using hroom,h4,⟨_,a1,a7⟩,?_,?_⟩ ?_
    .intro o ho;exact a9 o (by rw[a0];exact ho)
    .rw[a2];exact h8
    intro b F
    simp only[Piece.block,gO,jO] at F
    subst F;exact a8
   exact out aa (fun w' M hw=>by
    have hinv':Inv m w':=s.keep M (fun b _ _=>by rw[hw])
    rw[R]
    exact qMc hinv' K (fun p A=>by cases A;exact⟨.inl rfl,B⟩) (fun h=>by cases h))
 cases M
end
def aI(k:IntKind):Codec Int where
 sz:=1
 pos:=Nat.one_pos
 rep _ x cs:=cs=[.int k x]
 len:=by rintro _ _ _ rfl;rfl
 one:=by rintro _ _ _ rfl v a;simp at a;subst a;rfl
 mono:=fun _ _ _ _ _ h=>h
def cU8:Codec UInt8 where
 sz:=1
 pos:=Nat.one_pos
 rep _ x cs:=cs=[.int .u8 (x.toNat:Int)]
 len:=by rintro _ _ _ rfl;rfl
 one:=by rintro _ _ _ rfl v a;simp at a;subst a;rfl
 mono:=fun _ _ _ _ _ h=>h
def zHi:Codec Bool where
 sz:=1
 pos:=Nat.one_pos
 rep _ x cs:=cs=[.bool x]
 len:=by rintro _ _ _ rfl;rfl
 one:=by rintro _ _ _ rfl v a;simp at a;subst a;rfl
 mono:=fun _ _ _ _ _ h=>h
def aD:Codec BA where
 sz:=1
 pos:=Nat.one_pos
 rep _ x cs:=cs=[.string x]
 len:=by rintro _ _ _ rfl;rfl
 one:=by rintro _ _ _ rfl v a;simp at a;subst a;rfl
 mono:=fun _ _ _ _ _ h=>h
def tL{α β:Type}(a:Codec α)(b:Codec β):Codec (α×β) where
 sz:=a.sz+b.sz
 pos:=hY a.pos (Nat.le_add_right ..)
 rep m x cs:=∃c d,cs=c++d/\a.rep m x.1 c/\b.rep m x.2 d
 len:=by rintro m x cs ⟨c,d,rfl,e,f⟩;rw[jB,a.len _ _ _ e,b.len _ _ _ f]
 one:=by
  rintro m x cs ⟨c,d,rfl,e,f⟩ v g
  rcases kJ.1 g with g|g
  .exact a.one _ _ _ e v g
  exact b.one _ _ _ f v g
 mono:=by rintro m m' x cs g ⟨c,d,rfl,e,f⟩;exact⟨c,d,rfl,a.mono _ _ _ _ g e,b.mono _ _ _ _ g f⟩
def DN{α:Type}(c:Codec α):Codec (List α) where
 sz:=1
 pos:=Nat.one_pos
 rep m l cs:=∃a cap,cs=[.slice a l.length cap]/\RepS c m a cap l
 len:=by rintro _ _ _ ⟨a,cap,rfl,_⟩;rfl
 one:=by rintro _ _ _ ⟨a,cap,rfl,_⟩ v b;simp at b;subst b;rfl
 mono:=by rintro m m' x cs b ⟨a,cap,rfl,h⟩;exact⟨a,cap,rfl,h.mono b⟩
theorem AN{α:Type}{c:Codec α}{m:Mem}{a:Option Addr}{cap:Nat}{l:List α}(h:RepS c m a cap l):(DN c).rep m l [.slice a l.length cap]:=⟨a,cap,rfl,h⟩
def RepAll{α:Type}(c:Codec α)(m:Mem):List α->List Value->Prop
 |[],cs=>cs=[]
 |x::l,cs=>∃a b,cs=a++b/\c.rep m x a/\RepAll c m l b
theorem RepAll.len{α:Type}{c:Codec α}{m:Mem}:∀{l:List α} {cs:List Value},RepAll c m l cs->cs.length=l.length*c.sz
 |[],cs,h=>by simp[RepAll] at h;simp[h]
 |x::l,cs,h=>by
  obtain⟨d,e,rfl,a,b⟩:=h
  rw[jB,c.len _ _ _ a,b.len,jC,kX,dL,dV]
theorem RepAll.rep{α:Type}{c:Codec α}{m:Mem}:∀{l:List α} {cs:List Value},RepAll c m l cs->∀i x,l[i]? =some x->c.rep m x ((cs.drop (i*c.sz)).take c.sz)
 |[],_,_=>by simp
 |y::l,cs,h=>by
  obtain⟨g,d,rfl,f,k⟩:=h
  intro i x b
  have a:=c.len _ _ _ f
  cases i with
  |zero=>simp at b;subst b;simp[<-a];exact f
  |succ i=>
   have e:(g++d).drop ((i+1)*c.sz)=d.drop (i*c.sz):=by
    rw[dK,jU (by rw[a,kX];omega),jP,a,kX,dL,dP]
   rw[e];exact k.rep i x (by simpa using b)
def tF(P:Program)(t:TypeId)(cs:List Value):Option Value:=
 match P.underlying t with
 |some (.struct _)|some (.array _ _)=>match P.info? t with
  |some i=>bif Nat.ble i.size cs.length then some (.agg (cs.take i.size).toArray) else none
  |none=>none
 |some _=>cs.head?
 |none=>none
def UW:TypeDesc->Bool
 | .struct _=>true
 | .array _ _=>true
 |_=>false
theorem EN{P:Program}{w:World}{t:TypeId}{b o:Nat}{cs:List Value}{v:Value}(g:∀j u,cs[j]? =some u->w.cell? ⟨b,o+j,none⟩=some u)(h:tF P t cs=some v):
  (loadVar t ⟨b,o,none⟩).run P w= .ok v w:=by
 have agg:∀d,P.underlying t=some d->(isAgg t).run P w= .ok (UW d) w:=by
  intro d a;unfold isAgg;cases d<;>simp[run_underlying a,UW]
 have big:∀d,P.underlying t=some d->UW d=true->(match P.info? t with
  |some i=>bif Nat.ble i.size cs.length then some (Value.agg (cs.take i.size).toArray) else none
  |none=>none)=some v->(loadVar t ⟨b,o,none⟩).run P w= .ok v w:=by
  intro d a l h
  cases hi:P.info? t with
  |none=>simp[hi] at h
  |some i=>
   simp only[hi] at h
   cases e:Nat.ble i.size cs.length with
   |false=>simp[e] at h
   |true=>
    simp[e] at h
    subst h
    have hle':=gP e
    have k:=run_loadCells_list (P:=P) w ⟨b,o,none⟩ (cs.take i.size) (fun j u f=>by
     rw[yZ]
     rw[List.getElem?_take] at f
     split at f
     .exact g j u f
     cases f)
    have:(cs.take i.size).length=i.size:=by simp;omega
    rw[this] at k
    have c:=agg d a
    rw[l] at c
    simp[loadVar,c,sizeOf,typeInfo,hi,k]
 unfold tF at h
 split at h
 .rename_i a;exact big _ a rfl h
 .rename_i a;exact big _ a rfl h
 .rename_i d hn1 hn2 a
  have c:=agg d a
  have e:UW d=false:=by
   cases d<;>first|rfl|exact(hn1 _ rfl).elim|exact(hn2 _ _ rfl).elim
  rw[e] at c
  have f:cs[0]? =some v:=by rw[List.head?_eq_getElem?] at h;exact h
  have:=g 0 v f
  simp only[gY] at this
  simp[loadVar,c,this]
 cases h
section
variable {P:Program} {n:Fr} {ops:Array Oper} {Q:Exit->Act->World->Prop} {i d:Nat} {L:aZ} {w:World} {m:Mem} {own:List Piece} {N:aZ->World->Prop}
theorem cC{L:aZ}{x:Operand}{v:Value}(h:aW L x=some v):pY L x=v:=by simp[pY,h]
theorem EF{t:TypeId}{x:Operand}{b o:Nat}{cs:List Value}(v:Value)(f:cT ops L i=some (some d,.load t x))(c:Nat.blt d n=true)
  (r:aW L x=some (.pointer (some ⟨b,o,none⟩))) (a:St m own w) (k:MRow m b o cs) (p:tF P t cs=some v)
  (h:N ((d,v)::L) w):iB P n ops Q i N L w:=by
 refine nH f c (fun q g=> ?_) h
 have e:=EN (P:=P) (w:=w) (t:=t) (b:=b) (o:=o) (cs:=cs) (v:=v) (fun j u l=>a.inv.cell (k j u l)) p
 simp[execOp,g,Instr.loadAt,cC r,Instr.sureAddr,e]
theorem qUw{t e:TypeId}{x:Operand}{b o:Nat}{c:Array Value}{f:Nat×Nat}(v:Value)(p:cT ops L i=some (some d,.load t x))(k:Nat.blt d n=true)
  (z:aW L x=some (.pointer (some ⟨b,o,none⟩))) (r:Piece.holds m w (.blk b (.cells c e f))) (y:tF P t (c.toList.drop o)=some v)
  (h:N ((d,v)::L) w):iB P n ops Q i N L w:=by
 refine nH p k (fun q s=> ?_) h
 have g:=r.1
 have l:=EN (P:=P) (w:=w) (t:=t) (b:=b) (o:=o) (cs:=c.toList.drop o) (v:=v) (fun j u a=>by
  rw[List.getElem?_drop] at a
  simp only[World.cell?,g]
  simpa using a) y
 simp[execOp,s,Instr.loadAt,cC z,Instr.sureAddr,l]
def UR:List Value->Bool
 |[]=>true
 |v::l=>v.oneCell'&&UR l
theorem qHg{l:List Value}(h:UR l=true):∀v∈l,v.oneCell'=true:=by
 induction l with
 |nil=>simp
 |cons u l b=>
  simp only[UR,jK] at h
  intro v a
  rcases jJ.1 a with rfl|a
  .exact h.1
  exact b h.2 v a
def CO(P:Program)(t:TypeId)(v:Value)(o n:Nat):Bool:=
 match P.info? t with
 |some i=>Nat.beq v.cells.size i.size&&Nat.ble (o+v.cells.size) n&&UR v.cells.toList
 |none=>false
theorem YI{t e:TypeId}{x y:Operand}{b o:Nat}{c c':Array Value}{v:Value}(s:cT ops L i=some (none,.store t x y))
  (z:aW L x=some (.pointer (some ⟨b,o,none⟩))) (A:aW L y=some v) (f:St m (.blk b (.cells c e (0,0))::own) w) (d:CO P t v o c.size=true)
  (hc':(c.toList.take o++v.cells.toList++c.toList.drop (o+v.cells.toList.length)).toArray=c')
  (h:∀w',St m (.blk b (.cells c' e (0,0))::own) w'->N L w'):iB P n ops Q i N L w:=by
 unfold CO at d
 cases hi:P.info? t with
 |none=>simp[hi] at d
 |some inf=>
  simp only[hi,jK] at d
  obtain⟨⟨g,l⟩,p⟩:=d
  have h1':=fS g
  have h2':=gP l
  have a:=run_storeCells_at P b o e v.cells.toList 0 c w f.head.1 (by simpa using h2') (qHg p)
  simp only[gY] at a
  rw[hc'] at a
  refine EP s (fun q u=> ?_) (h (w.setRow b c') (f.set ⟨⟨rfl,rfl⟩,rfl,oW⟩ (setRow_heap w b c c' e _ f.head.1) (fun k _ r=>setRow_other w b k _ r)))
  simp[execOp,u,Instr.storeAt,cC z,cC A,Instr.sureAddr,storeVar,sizeOf,typeInfo,hi,h1',a]
theorem qFc{e:TypeId}{x:Operand}(v:Value)(f:cT ops L i=some (some d,.box e x))(c:Nat.blt d n=true)(k:aW L x=some v)(a:St m own w)
  (h:∀b w',St m (.blk b (.cells v.cells e (0,0))::own) w'->N ((d,.pointer (some ⟨b,0,none⟩))::L) w'):iB P n ops Q i N L w:=by
 refine nH (w':=w.alloc (.cells v.cells e)) f c (fun q g=> ?_) (h w.heap.size _ (a.alloc ⟨⟨rfl,rfl⟩,rfl,oW⟩ rfl))
 simp[execOp,g,Instr.box,cC k,newVar,newRow]
theorem St.settle{b:Nat}{c:Array Value}{e:TypeId}{f:Nat×Nat}(h:St m (.blk b (.cells c e f)::own) w):∃m',m.le m'/\St m' own w/\MRow m' b 0 c.toList:=by
 obtain⟨m',d,g,k,_⟩:=St.know (cs:=c.toList) h.tail (h.head_ne rfl) h.head.1 (kZ (jN _)) (fun o v a=>by rw[h.head.2.1 o] at a;cases a)
 exact⟨m',d,g,k⟩
theorem zEl{e:TypeId}{x:Operand}(v:Value)(l:cT ops L i=some (some d,.box e x))(k:Nat.blt d n=true)(p:aW L x=some v)(a:St m own w)
  (h:∀b m' w',m.le m'->St m' own w'->MRow m' b 0 v.cells.toList->N ((d,.pointer (some ⟨b,0,none⟩))::L) w'):iB P n ops Q i N L w:=by
 refine qFc v l k p a (fun b w' o=> ?_)
 obtain⟨m',c,f,g⟩:=o.settle
 exact h b m' w' c f g
def qAu(P:Program)(e:TypeId):Option Value:=(P.info? e).bind (·.zero)
theorem qJf{e:TypeId}(v:Value)(f:cT ops L i=some (some d,.alloc e))(c:Nat.blt d n=true)(k:qAu P e=some v)(a:St m own w)
  (h:∀b w',St m (.blk b (.cells v.cells e (0,0))::own) w'->N ((d,.pointer (some ⟨b,0,none⟩))::L) w'):iB P n ops Q i N L w:=by
 obtain⟨inf,hi,hz'⟩:=kM.1 k
 refine nH (w':=w.alloc (.cells v.cells e)) f c (fun q g=> ?_) (h w.heap.size _ (a.alloc ⟨⟨rfl,rfl⟩,rfl,oW⟩ rfl))
 simp[execOp,g,Instr.alloc,zeroValue,typeInfo,hi,hz',newVar,newRow]
def aO{α:Type}(l:List α)(i:Int):Option α:=if 0<=i then l[i.toNat]? else none
def pB(P:Program)(t:TypeId):Option (TypeId×Nat):=
 match P.underlying t with
 |some (.slice e)=>(P.info? e).map fun i=>(e,i.size)
 |_=>none
theorem yS{t e sz:Nat}(h:pB P t=some (e,sz)):P.underlying t=some (.slice e)/\∃inf,P.info? e=some inf/\inf.size=sz:=by
 unfold pB at h
 split at h
 .rename_i e' he
  cases hi:P.info? e' with
  |none=>simp[hi] at h
  |some inf=>simp[hi] at h;obtain⟨rfl,a⟩:=h;exact⟨he,inf,hi,a⟩
 cases h
theorem qZi{α:Type}{t e:TypeId}{x y:Operand}(c:Codec α){a:Option Addr}{cap:Nat}{l:List α}{k:IntKind}{ix:Int}{z:α}(E:cT ops L i=some (some d,.indexAddr t x y))(B:Nat.blt d n=true)
  (G:aW L x=some (.slice a l.length cap)) (H:aW L y=some (.int k ix)) (hi:pB P t=some (e,c.sz)) (r:RepS c m a cap l) (g:aO l ix=some z)
  (h:∀b o cs,c.rep m z cs->MRow m b o cs->N ((d,.pointer (some ⟨b,o,none⟩))::L) w):iB P n ops Q i N L w:=by
 obtain⟨s,inf,u,v⟩:=yS hi
 unfold aO at g
 split at g
 .rename_i h0
  have f:ix.toNat<l.length:=(List.getElem?_eq_some_iff.1 g).1
  cases a with
  |none=>obtain⟨rfl,_⟩:=r.none_nil;simp at f
  |some p=>
   obtain⟨cs,A,D⟩:=r.2.2.2 _ _ g
   refine nH E B (fun q F=> ?_) (h p.block (p.off+ix.toNat*c.sz) cs A D)
   have hlt':ix<(l.length:Int):=by omega
   simp[execOp,F,Instr.indexAt,cC G,cC H,asIntOf,run_underlying s,h0,hlt',sizeOf,typeInfo,u,v,HV (r.spot (fun e=>by rw[e] at f;simp at f))]
 cases g
theorem qXn{α:Type}{t u e by_:Nat}{x y:Operand}(c:Codec α){a:Option Addr}{cap:Nat}{l k r:List α}{v:Value}
  (A:cT ops L i=some (some d,.call {callee:= .builtin .append,args:= #[x,y],argTypes:= #[t,u]})) (s:Nat.blt d n=true)
  (F:aW L x=some (.slice a l.length cap)) (G:aW L y=some v) (p:St m (.room a l.length cap e c.sz::own) w) (hi:yU P t=some (e,c.sz,by_,c.sz)) (E:zL P u e)
  (B:RepS c m a cap l) (z:Gives P c m v k) (D:iU by_ l k=some r)
  (h:∀a' cap' m' w',m.le m'->St m' (.room a' r.length cap' e c.sz::own) w'->RepS c m' a' cap' r->N ((d,.slice a' r.length cap')::L) w'):iB P n ops Q i N L w:=by
 refine ID (v:=undef) (w':=w) A s (fun o q=> ?_)
 obtain⟨a',cap',m',w',f,g,hst',b⟩:=qVv (P:=P) (ty:=o.type) hi E p B z D
 refine⟨_,w',?_,h a' cap' m' w' g hst' b⟩
 simp[execOp,q,resolve,invoke,builtin,cC F,cC G,f]
theorem St.nilroom(h:St m own w)(e sz:Nat):St m (.room none 0 0 e sz::own) w:=h.cons ⟨rfl,rfl⟩ (by simp[Piece.block])
theorem Gives.str(s:BA):Gives P cU8 m (.string s) s.data.toList:=by
 refine⟨s.data.toList.map fun b=> .int .u8 (b.toNat:Int),fun w _=>⟨?_,?_,?_,?_⟩,?_⟩
 .simp[Builtin.lenOf]
 .have:s.extract 0 s.size=s:=by simp
  simp only[Builtin.firstCells,Sem.run_pure]
  congr 1
  apply Array.ext'
  simp
 .simp[cU8]
 .intro v a;simp at a;obtain⟨b,_,rfl⟩:=a;rfl
 intro j x c
 show List.take 1 (List.drop (j*1) _)=_
 rw[uA,<-List.map_drop,<-List.map_take]
 have a:=(List.getElem?_eq_some_iff.1 c).1
 have d:=(List.getElem?_eq_some_iff.1 c).2
 rw[kA a,d]
 rfl
theorem oX{α:Type}{t e:TypeId}{len:Nat}{parts:Array (Nat×Operand)}(c:Codec α){xs:List α}(cs:List Value)(H:cT ops L i=some (some d,.buildSlice t len parts))(G:Nat.blt d n=true)
  (u:∀w:World,(Instr.buildSlice t len (parts.map fun p=>(p.1,pY L p.2))).run P w= .ok (.slice (some ⟨w.heap.size,0,none⟩) len len) (w.alloc (.cells cs.toArray e)))
  (l:len=xs.length) (r:Nat.ble len maxLen=true) (k:St m own w) (s:RepAll c m xs cs)
  (h:∀b m' w',m.le m'->St m' (.room (some ⟨b,0,none⟩) xs.length len e c.sz::own) w'->RepS c m' (some ⟨b,0,none⟩) len xs->N ((d,.slice (some ⟨b,0,none⟩) xs.length len)::L) w'):iB P n ops Q i N L w:=by
 subst l
 have a:=k.alloc (w':=w.alloc (.cells cs.toArray e)) ⟨⟨rfl,rfl⟩,rfl,oW⟩ rfl
 have f:=k.fresh_free
 obtain⟨m',y,B,D,E,F,_⟩:=St.know (cs:=cs) a.tail (a.head_ne rfl) a.head.1 ae (fun o v A=>by rw[f.1 o] at A;cases A)
 have g:=gP r
 refine nH H G (fun q K=> ?_) (h w.heap.size m' _ y (B.cons ⟨rfl,rfl,jN _,g,⟨cs.toArray,a.head.1,by simp[s.len]⟩,?_,?_⟩ ?_) (RepS.of_cells (jN _) g (fun j x M=>c.mono _ _ _ _ y (s.rep j x M)) D))
 .simp[execOp,K,u w]
 .intro o ho';exact E o (by rw[s.len];exact ho')
 .rw[F];exact f.2
 intro b z;simp only[Piece.block,gO,jO] at z;subst z;exact a.head_ne rfl
def XH(P:Program)(t:TypeId)(len:Nat)(parts:List (Nat×Value)):Option (TypeId×List Value):=
 match P.underlying t with
 |some (.slice e)=>match P.info? e with
  |some inf=>bif Nat.ble (len*inf.size) (2^24)&&Nat.blt 0 (len*inf.size) then
   (match inf.zero with
   |some z=>(Instr.fill (fun i=>some (i*inf.size,inf.size)) ((Array.range (len*inf.size)).map (z.cells[· %z.cells.size]!)) parts).map fun a=>(e,a.toList)
   |none=>none) else none
  |none=>none
 |_=>none
theorem qTs{t e:TypeId}{parts:Array (Nat×Value)}{cs:List Value}(d:parts= #[])(h:(P.underlying t,(P.info? e).isSome,cs)=(some (.slice e),true,[]))(w:World):
  (Instr.buildSlice t 0 parts).run P w= .ok (.slice (some ⟨w.heap.size,0,none⟩) 0 0) (w.alloc (.cells cs.toArray e)):=by
 simp only[Prod.mk.injEq] at h
 obtain⟨a,b,rfl⟩:=h
 subst d
 obtain⟨inf,hi⟩:=Option.isSome_iff_exists.1 b
 have c:∀(z:Value),(newRow e (Array.map (fun _=>z) (Array.range 0))).run P w= .ok ⟨w.heap.size,0,none⟩ (w.alloc (.cells #[] e)):=fun z=>by rw[show Array.range 0= #[] by simp,show Array.map (fun _=>z) (#[]:Array Nat)= #[] by simp];rfl
 simp[Instr.buildSlice,run_underlying a,sizeOf,typeInfo,hi,Instr.fill,c]
theorem oY{t e:TypeId}{len:Nat}{parts:Array (Nat×Value)}{cs:List Value}(h:XH P t len parts.toList=some (e,cs))(w:World):
  (Instr.buildSlice t len parts).run P w= .ok (.slice (some ⟨w.heap.size,0,none⟩) len len) (w.alloc (.cells cs.toArray e)):=by
 unfold XH at h
 split at h
 .rename_i e' he
  split at h
  .rename_i inf hi
   cases b:(Nat.ble (len*inf.size) (2^24)&&Nat.blt 0 (len*inf.size)) with
   |false=>simp[b] at h
   |true=>
    simp only[b,cond_true] at h
    simp only[jK] at b
    have g:=gP b.1
    have k:0<len*inf.size:=by simpa[Nat.blt_eq] using b.2
    have h1':¬(16777216<len*inf.size):=by omega
    have h2':¬(len*inf.size=0):=by omega
    split at h
    .rename_i z hz
     obtain⟨a,f,c⟩:=jY.1 h
     simp only[Prod.mk.injEq] at c
     obtain⟨rfl,rfl⟩:=c
     simp[Instr.buildSlice,run_underlying he,sizeOf,typeInfo,zeroValue,hi,hz,h1',f,newRow]
     intro d;exact absurd d h2'
    cases h
  cases h
 cases h
def wK{α:Type}(l:List α)(lo hi:Int):Option (List α):=if 0<=lo/\lo<=hi/\hi<=l.length then some ((l.take hi.toNat).drop lo.toNat) else none
theorem RepS.sub{α:Type}{c:Codec α}{a:Option Addr}{cap:Nat}{l:List α}(h:RepS c m a cap l){lo hi:Nat}(o:lo<=hi)(g:hi<=l.length):
  RepS c m (if cap=lo then a else a.map (·.add (lo*c.sz))) (cap-lo) ((l.take hi).drop lo)/\((l.take hi).drop lo).length=hi-lo:=by
 have d:((l.take hi).drop lo).length=hi-lo:=by simp;omega
 refine⟨⟨by rw[d];have:=h.1;omega,by have:=h.2.1;omega,?_⟩,d⟩
 cases a with
 |none=>
  obtain⟨rfl,e⟩:=h.none_nil
  have:(if cap=lo then(none:Option Addr) else(none:Option Addr).map (·.add (lo*c.sz)))=none:=by split<;>rfl
  rw[this]
  simp[e]
 |some p=>
  by_cases hl:l=[]
  .subst hl
   have b:lo=0:=by simp at g;omega
   subst b
   simp[Addr.add]
  have f:=h.spot hl
  by_cases e:cap=lo
  .rw[if_pos e]
   refine⟨.inl f,fun j x b=> ?_⟩
   have k:=(List.getElem?_eq_some_iff.1 b).1
   have:=h.1
   omega
  rw[if_neg e]
  simp only[gO]
  rw[HV f]
  refine⟨.inl rfl,fun j x b=> ?_⟩
  rw[List.getElem?_drop,List.getElem?_take] at b
  split at b
  .obtain⟨cs,n,k⟩:=h.2.2.2 _ _ b
   refine⟨cs,n,?_⟩
   rw[gS,<-kX];exact k
  cases b
theorem qHy{α:Type}{t e:TypeId}{x:Operand}{lo hi:Option Operand}(c:Codec α){a:Option Addr}{cap:Nat}{l r:List α}{li hix:Int}
  (u:aW L x=some (.slice a l.length cap)) (H:pB P t=some (e,c.sz)) (E:RepS c m a cap l)
  (D:(lo=none/\li=0)\/∃y k,lo=some y/\aW L y=some (.int k li)) (A:(hi=none/\hix=l.length)\/∃y k,hi=some y/\aW L y=some (.int k hix)) (g:wK l li hix=some r):
  ∃v,(∀o:Oper,o.op= .slice t x lo hi none->∀w:World,(execOp (pY L) o).run P w= .ok (.value v) w)/\∃a' cap',v= .slice a' r.length cap'/\RepS c m a' cap' r:=by
 obtain⟨h,inf,n,p⟩:=yS H
 unfold wK at g
 split at g
 .rename_i hb
  obtain⟨z,G,K⟩:=hb
  simp only[jO] at g
  have b:=E.sub (lo:=li.toNat) (hi:=hix.toNat) aa aa
  rw[g] at b
  refine⟨_,fun q s w=> ?_,_,_,rfl,b.1⟩
  have d:hix<=(cap:Int):=by have:=E.1;omega
  have f:0<=hix:=by omega
  have B:li<=max hix 0:=by omega
  rcases D with ⟨rfl,rfl⟩|⟨y,k,rfl,F⟩<;>rcases A with ⟨rfl,rfl⟩|⟨y',k',rfl,hy'⟩
  .simp[execOp,s,Instr.sliceAt,Instr.slice,Instr.sliceBounds,run_underlying h,cC u,sizeOf,typeInfo,n,p] at*
   exact b.2.symm
  .simp[execOp,s,Instr.sliceAt,Instr.slice,Instr.sliceBounds,Instr.sliceBound,asIntOf,run_underlying h,cC u,cC hy',sizeOf,typeInfo,n,p,f,d] at*
   exact b.2.symm
  .have:li<=(l.length:Int):=G
   simp[execOp,s,Instr.sliceAt,Instr.slice,Instr.sliceBounds,Instr.sliceBound,asIntOf,run_underlying h,cC u,cC F,sizeOf,typeInfo,n,p,z,this] at*
   exact b.2.symm
  simp[execOp,s,Instr.sliceAt,Instr.slice,Instr.sliceBounds,Instr.sliceBound,asIntOf,run_underlying h,cC u,cC F,cC hy',sizeOf,typeInfo,n,p,f,d,z,B] at*
  exact b.2.symm
 cases g
theorem YS{α:Type}{t e:TypeId}{x:Operand}{lo hi:Option Operand}(c:Codec α){a:Option Addr}{cap:Nat}{l r:List α}{li hix:Int}
  (s:cT ops L i=some (some d,.slice t x lo hi none)) (p:Nat.blt d n=true) (D:aW L x=some (.slice a l.length cap)) (o:pB P t=some (e,c.sz)) (z:RepS c m a cap l)
  (g:(lo=none/\li=0)\/∃y k,lo=some y/\aW L y=some (.int k li)) (f:(hi=none/\hix=l.length)\/∃y k,hi=some y/\aW L y=some (.int k hix)) (A:wK l li hix=some r)
  (h:∀a' cap',RepS c m a' cap' r->N ((d,.slice a' r.length cap')::L) w):iB P n ops Q i N L w:=by
 obtain⟨v,B,a',cap',rfl,b⟩:=qHy (P:=P) (L:=L) c D o z g f A
 exact nH s p (fun q u=>B q u w) (h a' cap' b)
end
end
end Go.Dc
section
namespace Go.Dc
def qQn(k:IntKind)(a b:Int):Int:=k.wrap ((BitVec.ofInt k.bits a&&&BitVec.ofInt k.bits b).toNat:Int)
def FR(k:IntKind)(x y:Int):Option Int:=if y<0 then none else some (x.fdiv (2^(min y.toNat k.bits)))
def DC(k:IntKind)(x y:Int):Option Int:=if y=0 then none else some (k.wrap (x.tdiv y))
def FV(x y:Int):Option Int:=if y=0 then none else some (x.tmod y)
def xC(x:Int):UInt8:=UInt8.ofNat x.toNat
theorem qYi(z:Int):((xC (IntKind.wrap .u8 z)).toNat:Int)=IntKind.wrap .u8 z:=by
 have h:IntKind.wrap .u8 z=z%256:=by simp[IntKind.wrap,IntKind.signed,IntKind.bits]
 rw[h]
 have a:0<=z%256:=by omega
 have b:z%256<256:=by omega
 simp only[xC]
 rw[UInt8.toNat_ofNat']
 omega
theorem zFz{m:Mem}{z:Int}(h:((xC z).toNat:Int)=z):cU8.rep m (xC z) [.int .u8 z]:=by
 show _=_
 rw[h]
theorem qFa{m:Mem}(z:Int):cU8.rep m (xC (IntKind.wrap .u8 z)) [.int .u8 (IntKind.wrap .u8 z)]:=zFz (qYi z)
def aB{σ β:Type}(f:σ->Option (σ⊕β)):Nat->σ->Option β
 |0,_=>none
 |k+1,s=>(f s).bind fun
  | .inl s'=>aB f k s'
  | .inr b=>some b
theorem qWz{σ β:Type}{f:σ->Option (σ⊕β)}{k:Nat}{s:σ}{b:β}(h:aB f (k+1) s=some b):∃c,f s=some c/\(∀s',c= .inl s'->aB f k s'=some b)/\(∀b',c= .inr b'->b'=b):=by
 simp only[aB] at h
 obtain⟨c,d,a⟩:=kM.1 h
 refine⟨c,d,?_,?_⟩
 .rintro s' rfl;exact a
 rintro b' rfl;simpa using a
section
variable {ρ:Option Nat} {P:Program} {n:Fr} {ops:Array Oper} {Q:Exit->Act->World->Prop} {i d:Nat} {L:aZ} {w:World} {m:Mem} {own:List Piece} {N:aZ->World->Prop}
theorem qNl{t:Nat}{b:Bool}(e:Bool)(d:look L t=some (.bool e))(f:e=b)(h:WO P n ops Q i ((t,.bool b)::L) w):WO P n ops Q i L w:=by
 intro a g
 refine h a (g.sub ?_)
 intro u v c
 simp only[look] at c
 cases hb:Nat.beq t u with
 |true=>
  simp only[hb,cond_true] at c
  have:=fS hb;subst this
  rw[d,f];exact c
 |false=>simp only[hb,cond_false] at c;exact c
theorem zG{j:Nat}(I:aZ->World->Prop)(a:∀L' w',I L' w'->WO P n ops Q j L' w')(b:(∀L' w',I L' w'->WO P n ops Q j L' w')->WO P n ops Q i L w):WO P n ops Q i L w:=b a
theorem lF{c:Code}(e:Exit)(I:aZ->World->Prop)(b:∀L' w',I L' w'->X n Q e L' w')(a:(∀L' w',I L' w'->X n Q e L' w')->W ρ P n c Q L w):W ρ P n c Q L w:=a b
theorem zDe{t t2:TypeId}{x y:Operand}{k p:IntKind}{a b r:Int}(f:cT ops L i=some (some d,.binOp .shr t x y t2))(e:Nat.blt d n=true)(l:aW L x=some (.int k a))(o:aW L y=some (.int p b))
  (c:FR k a b=some r) (h:N ((d,.int k r)::L) w):iB P n ops Q i N L w:=by
 unfold FR at c
 split at c
 .cases c
 rename_i hb
 simp only[jO] at c;subst c
 refine nH f e (fun q g=> ?_) h
 simp[execOp,g,cC l,cC o,eqGuard,binOp,Op.shift,hb]
theorem qMe{t t2:TypeId}{x y:Operand}{k:IntKind}{a b r:Int}(f:cT ops L i=some (some d,.binOp .quo t x y t2))(e:Nat.blt d n=true)(l:aW L x=some (.int k a))(o:aW L y=some (.int k b))
  (c:DC k a b=some r) (h:N ((d,.int k r)::L) w):iB P n ops Q i N L w:=by
 unfold DC at c
 split at c
 .cases c
 rename_i hb
 simp only[jO] at c;subst c
 refine nH f e (fun q g=> ?_) h
 simp[execOp,g,cC l,cC o,eqGuard,binOp,Op.intDiv,hb]
theorem qMu{t t2:TypeId}{x y:Operand}{k:IntKind}{a b r:Int}(f:cT ops L i=some (some d,.binOp .rem t x y t2))(e:Nat.blt d n=true)(l:aW L x=some (.int k a))(o:aW L y=some (.int k b))
  (c:FV a b=some r) (h:N ((d,.int k r)::L) w):iB P n ops Q i N L w:=by
 unfold FV at c
 split at c
 .cases c
 rename_i hb
 simp only[jO] at c;subst c
 refine nH f e (fun q g=> ?_) h
 simp[execOp,g,cC l,cC o,eqGuard,binOp,Op.intDiv,hb]
def sP(s:BA)(lo hi:Int):Option BA:=if 0<=lo/\lo<=hi/\hi<=s.size then some ⟨((s.data.toList.drop lo.toNat).take (hi.toNat-lo.toNat)).toArray⟩ else none
theorem qLj(s:BA)(lo hi:Int):sP s lo hi=if 0<=lo/\lo<=hi/\hi<=s.size then some (s.extract lo.toNat hi.toNat) else none:=by
 have:s.extract lo.toNat hi.toNat=⟨((s.data.toList.drop lo.toNat).take (hi.toNat-lo.toNat)).toArray⟩:=by
  apply ByteArray.ext
  rw[ByteArray.data_extract]
  apply Array.ext'
  simp[gU]
 rw[this];rfl
def lI(s:BA)(i:Int):Option UInt8:=if 0<=i then s[i.toNat]? else none
def bG(s t:BA):Option BA:=if s.size+t.size<=maxLen then some (s++t) else none
def eJ(l:List UInt8):BA:=⟨l.toArray⟩
theorem qUn{t:TypeId}{x y:Operand}{s:BA}{k:IntKind}{ix:Int}{z:UInt8}(c:cT ops L i=some (some d,.index t x y))(b:Nat.blt d n=true)(g:aW L x=some (.string s))(l:aW L y=some (.int k ix))
  (f:P.underlying t=some .string) (a:lI s ix=some z) (h:N ((d,.int .u8 (z.toNat:Int))::L) w):iB P n ops Q i N L w:=by
 unfold lI at a
 split at a
 .rename_i h0
  refine nH c b (fun q e=> ?_) h
  simp[execOp,e,cC g,cC l,Instr.index,asIntOf,run_underlying f,h0,a]
 cases a
theorem yT{t:TypeId}{x:Operand}{lo hi:Option Operand}{s r:BA}{li hix:Int}(B:cT ops L i=some (some d,.slice t x lo hi none))(A:Nat.blt d n=true)(f:aW L x=some (.string s))
  (e:P.underlying t=some .string) (u:(lo=none/\li=0)\/∃y k,lo=some y/\aW L y=some (.int k li)) (o:(hi=none/\hix=s.size)\/∃y k,hi=some y/\aW L y=some (.int k hix)) (b:sP s li hix=some r)
  (h:N ((d,.string r)::L) w):iB P n ops Q i N L w:=by
 rw[qLj] at b
 split at b
 .rename_i hb
  obtain⟨g,z,l⟩:=hb
  simp only[jO] at b;subst b
  refine nH B A (fun q c=> ?_) h
  have a:0<=hix:=by omega
  have p:li<=max hix 0:=by omega
  rcases u with ⟨rfl,rfl⟩|⟨y,k,rfl,v⟩<;>rcases o with ⟨rfl,rfl⟩|⟨y',k',rfl,hy'⟩
  .simp[execOp,c,Instr.sliceAt,Instr.slice,Instr.sliceBounds,run_underlying e,cC f]
  .simp[execOp,c,Instr.sliceAt,Instr.slice,Instr.sliceBounds,Instr.sliceBound,asIntOf,run_underlying e,cC f,cC hy',a,l]
  .have:li<=(s.size:Int):=z
   simp[execOp,c,Instr.sliceAt,Instr.slice,Instr.sliceBounds,Instr.sliceBound,asIntOf,run_underlying e,cC f,cC v,g,this]
  simp[execOp,c,Instr.sliceAt,Instr.slice,Instr.sliceBounds,Instr.sliceBound,asIntOf,run_underlying e,cC f,cC v,cC hy',a,l,g,p]
 cases b
theorem zEa{t t2:TypeId}{x y:Operand}{a b r:BA}(g:cT ops L i=some (some d,.binOp .add t x y t2))(f:Nat.blt d n=true)(l:aW L x=some (.string a))(o:aW L y=some (.string b))
  (c:bG a b=some r) (h:N ((d,.string r)::L) w):iB P n ops Q i N L w:=by
 unfold bG at c
 split at c
 .rename_i hb
  simp only[jO] at c;subst c
  refine nH g f (fun q k=> ?_) h
  have e:IntKind.i64.max=9223372036854775807:=by decide
  have hb':¬(9223372036854775807<(a.size:Int)+(b.size:Int)):=by simp only[maxLen] at hb;omega
  simp[execOp,k,cC l,cC o,eqGuard,binOp,Op.stringOp,e,hb']
 cases c
def ResAt(P:Program)(w:World)(L:aZ)(rv:ResultVar)(v:Value):Prop:=
 match rv with
 | .tmp t=>look L t=some v
 | .cell a t=>∃b o cs,look L a=some (.pointer (some ⟨b,o,none⟩))/\(∀j u,cs[j]? =some u->w.cell? ⟨b,o+j,none⟩=some u)/\tF P t cs=some v
def ResAll(P:Program)(w:World)(L:aZ):List ResultVar->List Value->Prop
 |[],vs=>vs=[]
 |rv::l,vs=>∃v vs',vs=v::vs'/\ResAt P w L rv v/\ResAll P w L l vs'
def vX:List Value->Value
 |[v]=>v
 |vs=> .tuple vs.toArray
theorem ResAt.row{t:TypeId}{a:Nat}{b o:Nat}{cs:List Value}{v:Value}(d:look L a=some (.pointer (some ⟨b,o,none⟩)))(c:St m own w)(e:MRow m b o cs)(g:tF P t cs=some v):ResAt P w L (.cell a t) v:=
 ⟨b,o,cs,d,fun j u f=>c.inv.cell (e j u f),g⟩
theorem ResAt.blk{t e:TypeId}{a:Nat}{b o:Nat}{c:Array Value}{f:Nat×Nat}{v:Value}(g:look L a=some (.pointer (some ⟨b,o,none⟩)))(h:Piece.holds m w (.blk b (.cells c e f)))(k:tF P t (c.toList.drop o)=some v):ResAt P w L (.cell a t) v:=
 ⟨b,o,c.toList.drop o,g,fun j u d=>by
  rw[List.getElem?_drop] at d
  simp only[World.cell?,h.1]
  simpa using d,k⟩
def OD(tmps:Array Value):ResultVar->Sem Value
 | .tmp t=>pure (tmps.getD t undef)
 | .cell a t=>do loadVar t (<-asAddr (tmps.getD a undef))
theorem qXd(fn:Func)(tmps:Array Value):results fn tmps=(do let vs <-fn.results.mapM (OD tmps);pure (if h:vs.size=1 then vs[0] else .tuple vs)):=by
 unfold results
 congr 2
theorem AS{k:Nat}{fn:Func}{R:Ending->World->Prop}(rvs:List ResultVar)(vs:List Value)(q:fn.results=rvs.toArray)(y:ResAll P w L rvs vs)(h:R (.returned (vX vs)) w):X ⟨k,[]⟩ (bodyPost P fn R) .ret L w:=by
 intro a c
 refine⟨c.2.1,vX vs,?_,h⟩
 have key:∀(l:List ResultVar) (us:List Value),ResAll P w L l us->Sem.run P (l.mapM (OD a.tmps)) w= .ok us w:=by
  intro l
  induction l with
  |nil=>intro us h;simp[ResAll] at h;subst h;simp
  |cons r l z=>
   rintro us ⟨v,vs',rfl,e,f⟩
   have s:Sem.run P (OD a.tmps r) w= .ok v w:=by
    cases r with
    |tmp t=>
     have d:a.tmps[t]? =some v:=c.2.2 t v e
     simp[OD,d]
    |cell x t=>
     obtain⟨b,o,cs,g,n,p⟩:=e
     have d:a.tmps[x]? =some (.pointer (some ⟨b,o,none⟩)):=c.2.2 x _ g
     have:=EN (P:=P) n p
     simp[OD,d,asAddr,this]
   rw[List.mapM_cons]
   simp only[Sem.run_bind,s,Result.andThen_ok,z vs' f,Sem.run_pure]
 have d:=key rvs vs y
 rw[qXd,q]
 simp only[Sem.run_bind,List.mapM_toArray,Sem.run_map,d,Result.andThen_ok,Sem.run_pure]
 rcases vs with _|⟨v,_|⟨u,r⟩⟩
 .rfl
 .rfl
 simp[vX]
end
end Go.Dc
namespace Go.Dc
theorem not_true{e:Bool}(h:e=false):¬e=true:=by rw[h];exact kH
theorem ResAt.tmp{P:Program}{w:World}{L:aZ}{t:Nat}{v:Value}(h:look L t=some v):ResAt P w L (.tmp t) v:=h
theorem ResAll.nil{P:Program}{w:World}{L:aZ}:ResAll P w L [] []:=rfl
theorem ResAll.cons{P:Program}{w:World}{L:aZ}{rv:ResultVar}{l:List ResultVar}{v:Value}{vs:List Value}(a:ResAt P w L rv v)(b:ResAll P w L l vs):ResAll P w L (rv::l) (v::vs):=⟨v,vs,rfl,a,b⟩
theorem aU{α β:Type}{x:Option α}{f:α->Option β}{b:β}(h:x.bind f=some b):∃a,x=some a/\f a=some b:=kM.1 h
theorem qBk{α1 α2 γ β:Type}{d:Option α1}{e:α1->Option α2}{c:Option γ}{k:α1->α2->γ->Option β}{r:β}(h:((d).bind fun a=>(e a).bind fun b=>c.bind fun y=>k a b y)=some r):(c.bind fun y=>(d).bind fun a=>(e a).bind fun b=>k a b y)=some r:=by
 cases c with
 |none=>simp at h
 |some y=>exact h
theorem zFm{α1 α2 α3 γ β:Type}{e:Option α1}{f:α1->Option α2}{g:α1->α2->Option α3}{c:Option γ}{k:α1->α2->α3->γ->Option β}{r:β}(h:((e).bind fun a=>(f a).bind fun b=>(g a b).bind fun d=>c.bind fun y=>k a b d y)=some r):(c.bind fun y=>(e).bind fun a=>(f a).bind fun b=>(g a b).bind fun d=>k a b d y)=some r:=by
 cases c with
 |none=>simp at h
 |some y=>exact h
end Go.Dc
namespace Go.Dc
theorem iO(e:Bool):e=true\/e=false:=by cases e<;>simp
end Go.Dc
namespace Go.Dc
theorem qXg{σ β:Type}{f:σ->Option (σ⊕β)}{s:σ}{b:β}{p:Prop}(h:aB f 0 s=some b):p:=by simp[aB] at h
section
variable {P:Program} {n:Fr} {ops:Array Oper} {Q:Exit->Act->World->Prop} {i d:Nat} {L:aZ} {w:World} {N:aZ->World->Prop}
theorem qTm(dp:Nat){t e:TypeId}{a:Option Addr}{k c:Nat}(w:World)(b:P.underlying t=some (.slice e)):(Op.equalIn (dp+1) t (.slice a k c) (.slice none 0 0)).run P w= .ok a.isNone w:=by
 cases a<;>simp[Op.equalIn,run_underlying b]
theorem qUk{t e:TypeId}{a:Option Addr}{k c:Nat}(w:World)(b:P.underlying t=some (.slice e)):(Op.equal t (.slice a k c) (.slice none 0 0)).run P w= .ok a.isNone w:=qTm 9999 w b
theorem qJr{t t2 e:TypeId}{x y:Operand}{a:Option Addr}{k c:Nat}(b:Bool)(l:cT ops L i=some (some d,.binOp .eql t x y t2))(g:Nat.blt d n=true)(r:aW L x=some (.slice a k c))(s:aW L y=some (.slice none 0 0))
  (p:P.underlying t=some (.slice e)) (f:a.isNone=b) (h:N ((d,.bool b)::L) w):iB P n ops Q i N L w:=by
 subst f
 refine nH l g (fun q o=> ?_) h
 simp[execOp,o,cC r,cC s,eqGuard,binOp,qUk w p]
end
end Go.Dc
namespace Go.Dc
section
variable {ρ:Option Nat} {P:Program} {n:Fr} {ops:Array Oper} {Q:Exit->Act->World->Prop} {L:aZ} {w:World} {m:Mem} {own:List Piece}
def TS:List (Nat×(World->Prop))->Array Bool->World->Prop
 |[],_,_=>True
 |p::ks,l,w=>(l.getD p.1 false=true\/p.2 w)/\TS ks l w
theorem qBa{ks:List (Nat×(World->Prop))}{l:Array Bool}{w:World}:TS ks l w↔∀p∈ks,l.getD p.1 false=true\/p.2 w:=by
 induction ks with
 |nil=>simp[TS]
 |cons p ks a=>simp[TS,a]
def qOb(ks:List (Nat×(World->Prop)))(i:Nat):Bool:=ks.all fun p=> !Nat.beq p.1 i
theorem qUr{ks:List (Nat×(World->Prop))}{i:Nat}(h:qOb ks i=true):∀p∈ks,p.1≠i:=by
 intro p a e
 have:=jZ.1 h p a
 subst e
 simp at this
def NX(P:Program)(ops:Array Oper)(Q:Exit->Act->World->Prop)(ks:List (Nat×(World->Prop))):Nat->Array Bool->Act->World->Prop
 |0,listed,a,w=>Region.ready .any ops listed=[]/\Q .normal a w
 |fuel+1,listed,a,w=>
  (Region.ready .any ops listed=[]->Q .normal a w)/\
  ∀i∈Region.ready .any ops listed,rO P ops Q i (fun a' w'=>TS ks (listed.setIfInBounds i true) w'/\NX P ops Q ks fuel (listed.setIfInBounds i true) a' w') a w
theorem qGi{ρ:Option Nat}(b:IP ρ ops=true){ks:List (Nat×(World->Prop))}:∀(fuel:Nat) (listed:Array Bool) (a:Act) (w:World),NX P ops Q ks fuel listed a w->wpAnyIn (lV ρ) 0 P .any ops Q fuel listed a w
 |0,_,_,_,h=>h
 |fuel+1,_,_,_,h=>⟨h.1,fun i hi=>qPk b (fun a' w' h'=>qGi b fuel _ a' w' h'.2) (h.2 i hi)⟩
theorem qEg{S:World->Prop}{i:Nat}{o:Oper}{v:Value}{a:Act}(e:YieldsIf P ops S o v a)(hi:ops[i]? =some o)
  {K:Act->World->Prop} {w:World} (c:S w) (h:K (a.put o.dst v) w):rO P ops Q i K a w:=by
 unfold rO
 simp only[hi]
 rcases e with ⟨b,d⟩|⟨b,rfl⟩
 .simp only[b,jI,d w c,Oper.uponIn];exact h
 simp only[b,jA,jG];exact h
theorem qZj{S:World->Prop}{j:Nat}{oi oj:Oper}{v:Value}(z:ops[j]? =some oj)(s:oi.apart ops oj=true)
  (t:∀cs b,oi.op≠ .select cs b) (y:∀cs b,oj.op≠ .select cs b)
  (o:∀c a w,Q (.panic c) (a.put oi.dst v) w->Q (.panic c) a w) {K:Act->World->Prop} {a:Act} {w:World}
  (k:YieldsIf P ops S oi v a) (h:rO P ops Q j K (a.put oi.dst v) w):
  rO P ops Q j (fun a' w'=>YieldsIf P ops S oi v a'/\K (a'.put oi.dst v) w') a w:=by
 obtain⟨p,n,q⟩:=Oper.apart_spec s
 have keep:∀(a:Act),YieldsIf P ops S oi v a->∀u,YieldsIf P ops S oi v (a.put oj.dst u):=fun a k u=>
  k.of_same (execOp_put oi t a oj.dst u q) (wanted_put oi a oj.dst u q)
 have keepD:∀d,YieldsIf P ops S oi v {a with defers:=d::a.defers}:=fun d=>k.of_same rfl rfl
 unfold rO at*
 simp only[z] at*
 rw[wanted_put oj a oi.dst v p] at h
 split
 .rename_i hw
  simp only[hw,jI] at h
  rw[execOp_put oj y a oi.dst v p] at h
  generalize (execOp a.eval oj).run P w=r at*
  cases r with
  |ok x w'=>
   cases x<;>simp only[Oper.uponIn] at h ⊢
   case value u=>exact⟨keep a k u,by rw[<-Act.put_comm a v u n];exact h⟩
   case skip=>exact⟨keep a k _,by rw[<-Act.put_comm a v undef n];exact h⟩
   case defer d=>
    refine⟨keep _ (keepD d) _,?_⟩
    rw[<-Act.put_comm _ v undef n,<-Act.put_defers]
    exact h
   case enter f args=>
    refine⟨h.1,CallsIn.mono h.2 fun e w'' g=> ?_⟩
    cases e with
    |returned u=>exact⟨keep a k u,by rw[<-Act.put_comm a v u n];exact g⟩
    |panicked c=>exact o _ _ _ g
    |outgrown=>exact g
   case row row args=>exact⟨h.1,RowsIn.mono h.2 fun u w'' g=>⟨keep a k u,by rw[<-Act.put_comm a v u n];exact g⟩⟩
   case round l f tmps assign body=>
    refine⟨h.1,RoundIn.mono h.2 fun e w'' g=> ?_⟩
    cases e with
    |returned u=>exact⟨keep a k u,by rw[<-Act.put_comm a v u n];exact g⟩
    |panicked c=>exact o _ _ _ g
    |outgrown=>exact g
  |halt x w'=>
   cases x<;>simp only[Oper.uponIn] at h ⊢
   case panic u=>exact o _ _ _ h
 rename_i hw
 simp only[hw] at h
 exact⟨keep a k _,by rw[<-Act.put_comm a v undef n];exact h⟩
def UE(ops:Array Oper)(k i:Nat):Bool:=
 match ops[k]? with
 |none=>true
 |some o=>o.after.any fun e=>Region.binds .any e&&e.on==i
theorem qTx{k i:Nat}(h:UE ops k i=true){listed:Array Bool}(hi:listed.getD i true=false):k∉Region.ready .any ops listed:=by
 intro f
 obtain⟨_,o,g,b⟩:=mem_ready.1 f
 simp only[UE,g] at h
 obtain⟨e,d,c⟩:=Array.any_eq_true'.1 h
 simp only[jK,kI] at c
 have a:=b e d c.1
 rw[c.2] at a
 rcases dU i listed.size with h'|h'
 .simp[h'] at hi a;rw[hi] at a;cases a
 simp[Array.getElem?_eq_none h'] at a
theorem qBi{ks:List (Nat×(World->Prop))}{l:Array Bool}{w:World}{i:Nat}(h:TS ks l w):TS ks (l.setIfInBounds i true) w:=by
 rw[qBa] at*
 intro p a
 rcases h p a with h|h
 .left
  by_cases hi:i=p.1
  .subst hi
   rcases dU p.1 l.size with h'|h'
   .simp[h']
   simp[Array.getElem?_eq_none h'] at h
  rw[getD_set_ne false hi];exact h
 exact .inr h
theorem zAs{ks:List (Nat×(World->Prop))}{l:Array Bool}{w:World}{i j:Nat}(b:∀p∈ks,p.1≠i)(h:TS ks ((l.setIfInBounds i true).setIfInBounds j true) w):TS ks (l.setIfInBounds j true) w:=by
 by_cases hij:i=j
 .subst hij;simpa using h
 rw[qBa] at*
 intro p a
 rcases h p a with h|h
 .left
  by_cases hj:j=p.1
  .subst hj
   rcases dU p.1 l.size with h'|h'
   .simp[h']
   simp[Array.getElem?_eq_none h'] at h;omega
  rw[getD_set_ne false hj] at h ⊢
  rw[getD_set_ne false (Ne.symm (b p a))] at h;exact h
 exact .inr h
theorem qUx{k i:Nat}{S:World->Prop}{ks:List (Nat×(World->Prop))}(z:(k,S)∈ks)(F:∀p∈ks,p.1≠i){oi:Oper}{v:Value}(y:UE ops k i=true)(hi:ops[i]? =some oi)(B:∀(j:Nat) (o:Oper) cs b,ops[j]? =some o->o.op≠ .select cs b)
  (Y:∀c a w,Q (.panic c) (a.put oi.dst v) w->Q (.panic c) a w):
  ∀(fuel:Nat) (listed:Array Bool) (a:Act) (w:World),listed.getD k false=false->
   (∀j oj,ops[j]? =some oj->j≠i->listed.getD j true=false->(∀e∈oj.after,Region.binds .any e=true->e.on≠i)->oi.apart ops oj=true)->
   i∈Region.ready .any ops listed->YieldsIf P ops S oi v a->TS ks listed w->
   NX P ops Q ks fuel (listed.setIfInBounds i true) (a.put oi.dst v) w->NX P ops Q ks (fuel+1) listed a w:=by
 have a0:k≠i:=F _ z
 have getS:∀{l:Array Bool} {w:World},l.getD k false=false->TS ks l w->S w:=fun D h=>by
  rcases qBa.1 h _ z with h|h
  .simp only at h;rw[D] at h;cases h
  exact h
 intro fuel
 induction fuel with
 |zero=>
  intro listed a w s _ f E t H
  refine⟨fun h=>(by rw[h] at f;cases f),fun j u=> ?_⟩
  by_cases d:j=i
  .subst d;exact qEg E hi (getS s t) ⟨qBi t,H⟩
  have:=ready_mono u d
  rw[H.1] at this
  cases this
 |succ fuel ih=>
  intro listed a w s n f E t H
  refine⟨fun h=>(by rw[h] at f;cases f),fun j u=> ?_⟩
  by_cases d:j=i
  .subst d;exact qEg E hi (getS s t) ⟨qBi t,H⟩
  have r:j≠k:=by
   rintro rfl
   exact qTx y (mem_ready.1 f).1 u
  have g:=H.2 j (ready_mono u d)
  obtain⟨x,oj,A,K⟩:=mem_ready.1 u
  have M:∀e∈oj.after,Region.binds .any e=true->e.on≠i:=fun e he Z R=>by
   have g:=K e he Z
   have D:=(mem_ready.1 f).1
   rw[R] at g
   rcases dU i listed.size with h'|h'
   .simp[h'] at D g;rw[D] at g;cases g
   simp[Array.getElem?_eq_none h'] at g
  have V:=qZj A (n j oj A d x M) (fun cs b=>B i oi cs b hi) (fun cs b=>B j oj cs b A) Y E g
  have hfree':∀q ok,ops[q]? =some ok->q≠i->(listed.setIfInBounds j true).getD q true=false->
    (∀e∈ok.after,Region.binds .any e=true->e.on≠i)->oi.apart ops ok=true:=fun q ok hk y G U=>by
   refine n q ok hk y ?_ U
   by_cases r:j=q
   .subst r;exact x
   rw[getD_set_ne true r] at G;exact G
  have hk0':(listed.setIfInBounds j true).getD k false=false:=by rw[getD_set_ne false r];exact s
  refine TX (fun a' w' G=> ?_) V
  have hT':TS ks (listed.setIfInBounds j true) w':=zAs F G.2.1
  refine⟨hT',ih (listed.setIfInBounds j true) a' w' hk0' hfree' (ready_mono f (Ne.symm d)) G.1 hT' ?_⟩
  rw[Array.setIfInBounds_comm _ _ d]
  exact G.2.2
def QP(Q:Exit->Act->World->Prop):Prop:=∀c a w d v,Q (.panic c) (Act.put a d v) w->Q (.panic c) a w
theorem aH{K:Act->World->Prop}(h:QP Q):QP (Exit.then K Q):=h
theorem bQ{id:Nat}(h:QP Q):QP (Exit.inBlock id Q):=h
theorem eY{fn:Func}{R:Ending->World->Prop}:QP (bodyPost P fn R):=by
 rintro c a w d v ⟨b,e⟩
 refine⟨?_,e⟩
 cases d<;>exact b
def marks(l:List Nat)(n:Nat):Array Bool:=l.foldl (fun a i=>a.setIfInBounds i true) (Array.replicate n false)
def WA(P:Program)(n:Fr)(ops:Array Oper)(Q:Exit->Act->World->Prop)(ks:List (Nat×(World->Prop)))(fuel:Nat)(done:List Nat)(L:aZ)(w:World):Prop:=
 TS ks (marks done ops.size) w->∀a,Fits n a L->NX P ops Q ks fuel (marks done ops.size) a w
theorem HT(l:List Nat)(i n:Nat):marks (l++[i]) n=(marks l n).setIfInBounds i true:=by simp[marks,fW]
theorem zCx{id:Nat}(d:IP ρ ops=true)(ks:List (Nat×(World->Prop)))(e:P.follows .mixedOrders=true)(st:St m own w)(h:∀w',w'.heap=w.heap->St m own w'->TS ks (marks [] ops.size) w'/\WA P n ops Q ks ops.size [] L w'):W ρ P n (.region id ops true) Q L w:=by
 intro a c
 have b:=h {w with drawn:=w.drawn+1} rfl (st.grow ⟨⟨rfl,rfl⟩,rfl,oW⟩ fun _ _=>rfl)
 exact wpIn_region_any e (qGi d (ks:=ks) _ _ _ _ (b.2 b.1 a c))
theorem eH{id:Nat}(ks:List (Nat×(World->Prop)))(a:P.follows .mixedOrders=true)(st:St m own w)(h:∀w',w'.heap=w.heap->St m own w'->TS ks (marks [] ops.size) w'/\WA P n ops Q ks ops.size [] L w'):W none P n (.region id ops true) Q L w:=zCx rfl ks a st h
def nW(ops:Array Oper)(ks:List (Nat×(World->Prop)))(k i:Nat)(done:List Nat):Bool:=
 Region.noSelect ops&&Region.free .any ops (marks done ops.size) i&&(Region.ready .any ops (marks done ops.size)).contains i&&UE ops k i&&qOb ks i&& !((marks done ops.size).getD k false)
section
variable {ks:List (Nat×(World->Prop))}
theorem ZG{k fuel:Nat}{S:World->Prop}{done:List Nat}{i:Nat}{o:Oper}{v:Value}{L':aZ}(d:ops[i]? =some o)(g:nW ops ks k i done=true)(b:(k,S)∈ks)(p:QP Q)
  (q:∀a,Fits n a L->YieldsIf P ops S o v a) (l:∀a,Fits n a L->Fits n (a.put o.dst v) L') (h:WA P n ops Q ks fuel (done++[i]) L' w):WA P n ops Q ks (fuel+1) done L w:=by
 simp only[nW,jK,fK] at g
 obtain⟨⟨⟨⟨⟨s1,r⟩,s⟩,t⟩,u⟩,x⟩:=g
 intro e a f
 have hT':TS ks (marks (done++[i]) ops.size) w:=by rw[HT];exact qBi e
 have:=h hT' (a.put o.dst v) (l a f)
 rw[HT] at this
 exact qUx b (qUr u) t d (Region.noSelect_spec s1) (fun c a w=>p c a w _ _) fuel _ a w x (Region.free_spec d r) (by simpa using s) (q a f) e this
theorem zB{k fuel:Nat}{S:World->Prop}{done:List Nat}(i d:Nat)(op:Op)(v:Value)(s:cT ops L i=some (some d,op))(r:Nat.blt d n=true)
  (u:nW ops ks k i done=true) (c:(k,S)∈ks)
  (t:QP Q) (e:∀o:Oper,o.op=op->∀w,S w->(execOp (pY L) o).run P w= .ok (.value v) w)
  (h:WA P n ops Q ks fuel (done++[i]) ((d,v)::L) w):WA P n ops Q ks (fuel+1) done L w:=by
 obtain⟨o,f,g,l,p,q⟩:=MX s
 exact ZG f u c t (v:=v) (fun a b=> .inl ⟨b.wanted p,fun w' hw'=>by rw[b.exec q];exact e o l w' hw'⟩) (fun a b=>by rw[g];exact b.put r v) h
theorem zFw{k fuel:Nat}{S:World->Prop}{done:List Nat}(i d:Nat)(r:((ops[i]?).bind fun o=>(uX ops L o.guard).map fun b=>(o.dst,b))=some (some d,false))(q:Nat.blt d n=true)
  (t:nW ops ks k i done=true) (f:(k,S)∈ks)
  (s:QP Q) (h:WA P n ops Q ks fuel (done++[i]) ((d,undef)::L) w):WA P n ops Q ks (fuel+1) done L w:=by
 obtain⟨o,g,l⟩:=kM.1 r
 obtain⟨b,p,c⟩:=jY.1 l
 simp only[Prod.mk.injEq] at c
 obtain⟨c,rfl⟩:=c
 exact ZG g t f s (v:=undef) (fun a e=> .inr ⟨e.wanted p,rfl⟩) (fun a e=>by rw[c];exact e.put q undef) h
theorem aR{fuel:Nat}{done:List Nat}(i:Nat)(e:Region.ready .any ops (marks done ops.size)=[i])
  (h:iB P n ops Q i (fun L' w'=>TS ks (marks (done++[i]) ops.size) w'/\WA P n ops Q ks fuel (done++[i]) L' w') L w):WA P n ops Q ks (fuel+1) done L w:=by
 intro _ a k
 refine⟨fun d=>(by rw[e] at d;cases d),fun j c=> ?_⟩
 rw[e] at c
 simp only[jL] at c
 subst c
 refine TX (fun a' w' h'=> ?_) (h a k)
 obtain⟨L',f,b,g⟩:=h'
 have:=g b a' f
 rw[HT] at b
 rw[HT] at this
 exact⟨b,this⟩
theorem cE{fuel:Nat}{done:List Nat}(c:Region.ready .any ops (marks done ops.size)=[])(h:X n Q .normal L w):WA P n ops Q ks fuel done L w:=by
 intro _ a b
 cases fuel with
 |zero=>exact⟨c,h a b⟩
 |succ f=>exact⟨fun _=>h a b,(by rw[c];simp)⟩
theorem nB{fuel:Nat}{done:List Nat}{t:Nat}{b:Bool}(e:Bool)(d:look L t=some (.bool e))(f:e=b)(h:WA P n ops Q ks fuel done ((t,.bool b)::L) w):WA P n ops Q ks fuel done L w:=by
 intro g a k
 refine h g a (k.sub ?_)
 intro u v c
 simp only[look] at c
 cases hb:Nat.beq t u with
 |true=>
  simp only[hb,cond_true] at c
  have:=fS hb;subst this
  rw[d,f];exact c
 |false=>simp only[hb,cond_false] at c;exact c
end
theorem Inv.anti{m':Mem}(h:Inv m' w)(a:m.le m'):Inv m w:=⟨fun b o v c=>h.1 b o v (a.1 _ _ _ c),fun b x d=>h.2.1 b x (a.2.1 _ _ d),a.2.2▸h.2.2⟩
theorem Piece.holds_anti{m':Mem}{b:Nat}{o:Obj}(h:Piece.holds m' w (.blk b o))(a:m.le m'):Piece.holds m w (.blk b o):=by
 refine⟨h.1,fun q=> ?_,?_⟩
 .cases hc:m.cell b q with
  |none=>rfl
  |some v=>rw[<-h.2.1 q,a.1 _ _ _ hc]
 cases hc:m.obj b with
 |none=>rfl
 |some v=>rw[<-h.2.2,a.2.1 _ _ hc]
def CP(P:Program)(ops:Array Oper)(L:aZ)(i:Nat):Option (Nat×Value):=
 match ops[i]? with
 |none=>none
 |some o=>match uX ops L o.guard with
  |some true=>bif xD L o.op then(match o.dst,zV P (execOp (pY L) o) with
   |some d,some (.value v)=>some (d,v)
   |_,_=>none) else none
  |_=>none
theorem qOe{ks:List (Nat×(World->Prop))}{k fuel:Nat}{S:World->Prop}{done:List Nat}(i d:Nat)(v:Value)(c:CP P ops L i=some (d,v))(q:Nat.blt d n=true)(s:nW ops ks k i done=true)(p:(k,S)∈ks)(r:QP Q)
  (h:WA P n ops Q ks fuel (done++[i]) ((d,v)::L) w):WA P n ops Q ks (fuel+1) done L w:=by
 unfold CP at c
 cases g:ops[i]? with
 |none=>simp[g] at c
 |some o=>
  simp only[g] at c
  cases f:uX ops L o.guard with
  |none=>simp[f] at c
  |some b=>
   cases b with
   |false=>simp[f] at c
   |true=>
    simp only[f] at c
    cases l:xD L o.op with
    |false=>simp[l] at c
    |true=>
     simp only[l,cond_true] at c
     split at c
     .rename_i d' v' hd' he
      simp only[jO,Prod.mk.injEq] at c
      obtain⟨rfl,rfl⟩:=c
      exact ZG g s p r (v:=v') (fun a e=> .inl ⟨e.wanted f,fun w' _=>by rw[e.exec l];exact qAa he w'⟩) (fun a e=>by rw[hd'];exact e.put q v') h
     cases c
theorem qVf{ks:List (Nat×(World->Prop))}{k fuel:Nat}{S:World->Prop}{done:List Nat}{t:TypeId}{x:Operand}{b o:Nat}{cs:List Value}(i d:Nat)(v:Value)(l:cT ops L i=some (some d,.load t x))(f:Nat.blt d n=true)
  (r:nW ops ks k i done=true) (a:(k,S)∈ks) (c:QP Q) (e:∀w,S w->Inv m w) (z:aW L x=some (.pointer (some ⟨b,o,none⟩))) (p:MRow m b o cs) (y:tF P t cs=some v)
  (h:WA P n ops Q ks fuel (done++[i]) ((d,v)::L) w):WA P n ops Q ks (fuel+1) done L w:=by
 refine zB i d _ v l f r a c (fun q c w' hw'=> ?_) h
 have g:=EN (P:=P) (w:=w') (t:=t) (b:=b) (o:=o) (cs:=cs) (v:=v) (fun j u s=>(e w' hw').cell (p j u s)) y
 simp[execOp,c,Instr.loadAt,cC z,Instr.sureAddr,g]
theorem qFd{ks:List (Nat×(World->Prop))}{k fuel:Nat}{S:World->Prop}{done:List Nat}{t e:TypeId}{x:Operand}{b o:Nat}{c:Array Value}{f:Nat×Nat}(i d:Nat)(v:Value)(z:cT ops L i=some (some d,.load t x))(s:Nat.blt d n=true)
  (A:nW ops ks k i done=true) (a:(k,S)∈ks) (g:QP Q) (p:∀w,S w->Piece.holds m w (.blk b (.cells c e f))) (D:aW L x=some (.pointer (some ⟨b,o,none⟩))) (B:tF P t (c.toList.drop o)=some v)
  (h:WA P n ops Q ks fuel (done++[i]) ((d,v)::L) w):WA P n ops Q ks (fuel+1) done L w:=by
 refine zB i d _ v z s A a g (fun q g w' hw'=> ?_) h
 have r:=(p w' hw').1
 have y:=EN (P:=P) (w:=w') (t:=t) (b:=b) (o:=o) (cs:=c.toList.drop o) (v:=v) (fun j u l=>by
  rw[List.getElem?_drop] at l
  simp only[World.cell?,r]
  simpa using l) B
 simp[execOp,g,Instr.loadAt,cC D,Instr.sureAddr,y]
theorem mT{α:Type}{ks:List (Nat×(World->Prop))}{k fuel:Nat}{S:World->Prop}{done:List Nat}{t e:TypeId}{x y:Operand}(i d:Nat)(c:Codec α){a:Option Addr}{cap:Nat}{l:List α}{kd:IntKind}{ix:Int}{z:α}(G:cT ops L i=some (some d,.indexAddr t x y))(E:Nat.blt d n=true)
  (H:nW ops ks k i done=true) (r:(k,S)∈ks) (s:QP Q)
  (K:aW L x=some (.slice a l.length cap)) (M:aW L y=some (.int kd ix)) (hi:pB P t=some (e,c.sz)) (u:RepS c m a cap l) (g:aO l ix=some z)
  (h:∀b o cs,c.rep m z cs->MRow m b o cs->WA P n ops Q ks fuel (done++[i]) ((d,.pointer (some ⟨b,o,none⟩))::L) w):WA P n ops Q ks (fuel+1) done L w:=by
 obtain⟨v,inf,A,B⟩:=yS hi
 unfold aO at g
 split at g
 .rename_i h0
  have f:ix.toNat<l.length:=(List.getElem?_eq_some_iff.1 g).1
  cases a with
  |none=>obtain⟨rfl,_⟩:=u.none_nil;simp at f
  |some p=>
   obtain⟨cs,D,F⟩:=u.2.2.2 _ _ g
   refine zB i d _ _ G E H r s (fun q s w' _=> ?_) (h p.block (p.off+ix.toNat*c.sz) cs D F)
   have hlt':ix<(l.length:Int):=by omega
   simp[execOp,s,Instr.indexAt,cC K,cC M,asIntOf,run_underlying v,h0,hlt',sizeOf,typeInfo,A,B,HV (u.spot (fun e=>by rw[e] at f;simp at f))]
 cases g
theorem zCk{α:Type}{ks:List (Nat×(World->Prop))}{k fuel:Nat}{S:World->Prop}{done:List Nat}{t e:TypeId}{x:Operand}{lo hi:Option Operand}(i d:Nat)(c:Codec α){a:Option Addr}{cap:Nat}{l r:List α}{li hix:Int}
  (A:cT ops L i=some (some d,.slice t x lo hi none)) (z:Nat.blt d n=true) (s:nW ops ks k i done=true) (b:(k,S)∈ks) (f:QP Q) (F:aW L x=some (.slice a l.length cap)) (u:pB P t=some (e,c.sz)) (B:RepS c m a cap l)
  (p:(lo=none/\li=0)\/∃y k,lo=some y/\aW L y=some (.int k li)) (o:(hi=none/\hix=l.length)\/∃y k,hi=some y/\aW L y=some (.int k hix)) (D:wK l li hix=some r)
  (h:∀a' cap',RepS c m a' cap' r->WA P n ops Q ks fuel (done++[i]) ((d,.slice a' r.length cap')::L) w):WA P n ops Q ks (fuel+1) done L w:=by
 obtain⟨v,E,a',cap',rfl,g⟩:=qHy (P:=P) (L:=L) c F u B p o D
 exact zB i d _ _ A z s b f (fun q f w' _=>E q f w') (h a' cap' g)
end
end Go.Dc
namespace Go.Dc
end Go.Dc
namespace Go.Dc
section
variable {ρ:Option Nat} {P:Program} {n:Fr} {ops:Array Oper} {Q:Exit->Act->World->Prop} {i d:Nat} {L:aZ} {w:World} {m:Mem} {own:List Piece} {N:aZ->World->Prop}
def NK(P:Program)(t:TypeId):Option TypeId:=
 match P.underlying t with
 |some (.slice e)=>match P.underlying e with
  |some (.int .u8)=>some e
  |_=>none
 |_=>none
theorem WS{t e:TypeId}(h:NK P t=some e):P.underlying t=some (.slice e)/\P.underlying e=some (.int .u8):=by
 unfold NK at h
 split at h
 .rename_i e' he
  split at h
  .rename_i he';simp only[jO] at h;subst h;exact⟨he,he'⟩
  cases h
 cases h
theorem zCl{a:Option Addr}{cap:Nat}{l:List UInt8}(h:RepS cU8 m a cap l):∀p,a=some p->(p.spot=none\/l=[])/\MRow m p.block p.off (l.map fun b=> .int .u8 (b.toNat:Int)):=by
 rintro p rfl
 refine⟨h.2.2.1,fun j v d=> ?_⟩
 rw[List.getElem?_map] at d
 obtain⟨x,k,rfl⟩:=jY.1 d
 obtain⟨cs,f,g⟩:=h.2.2.2 j x k
 have c:cs=[.int .u8 (x.toNat:Int)]:=f
 subst c
 have:=g 0 _ rfl
 have e:cU8.sz=1:=rfl
 simp only[e,uA,gY] at this
 exact this
theorem WU{t1 t2 e:TypeId}{x:Operand}{a:Option Addr}{cap:Nat}{l:List UInt8}(y:cT ops L i=some (some d,.convert t1 t2 x))(t:Nat.blt d n=true)(r:aW L x=some (.slice a l.length cap))
  (s:NK P t1=some e) (g:P.underlying t2=some .string) (st:St m own w) (o:RepS cU8 m a cap l) (h:N ((d,.string (eJ l))::L) w):iB P n ops Q i N L w:=by
 obtain⟨c,f⟩:=WS s
 refine nH y t (fun q k=> ?_) h
 cases a with
 |none=>
  obtain⟨rfl,_⟩:=o.none_nil
  have b:(Conv.bytesToString (.slice none 0 cap)).run P w= .ok (.string (eJ [])) w:=rfl
  simp[execOp,k,cC r,run_convert_bytes_string w t1 t2 e none _ _ c f g,b]
 |some p=>
  obtain⟨z,v⟩:=zCl o p rfl
  have u:=run_convert_bytes_back (P:=P) w t1 t2 e p cap l c f g (fun j b=>by
   rw[HV (z.resolve_right (fun e=>by rw[e] at b;simp at b))]
   exact st.inv.cell (v j _ (by simp[b])))
  simp[execOp,k,cC r,u,eJ]
def bytesOf(s:BA):Option (List UInt8):=if s.size<=maxLen then some s.data.toList else none
theorem qUv{t1 t2 e:TypeId}{x:Operand}{s:BA}{l:List UInt8}(M:cT ops L i=some (some d,.convert t1 t2 x))(K:Nat.blt d n=true)(g:aW L x=some (.string s))
  (p:NK P t2=some e) (y:P.underlying t1=some .string) (st:St m own w) (f:bytesOf s=some l)
  (h:∀b cap m' w',m.le m'->St m' own w'->RepS cU8 m' (some ⟨b,0,none⟩) cap l->N ((d,.slice (some ⟨b,0,none⟩) l.length cap)::L) w'):iB P n ops Q i N L w:=by
 obtain⟨G,H⟩:=WS p
 unfold bytesOf at f
 split at f
 .rename_i hmx
  simp only[jO] at f;subst f
  generalize hgc:grownCap w s.size 0 e=gc
  have z:s.size<=gc:=hgc▸grownCap_ge _ _ _ _
  have A:gc<=maxLen:=hgc▸grownCap_le_maxLen _ _ _ _ hmx
  generalize hcur:(s.data.map fun b=>Value.int .u8 (b.toNat:Int))++Array.replicate (gc-s.size) (.int .u8 0)=cur
  have u:(convert t1 t2 (.string s)).run P w= .ok (.slice (some ⟨w.heap.size,0,none⟩) s.size gc) (w.drew.alloc (.cells cur e (cur.size,cur.size+1))):=by
   have c:(Question.appendCap s.size 0 e).forced=false:=rfl
   have r:(Question.appendCap s.size 0 e).cut (w.tape w.drawn (Question.appendCap s.size 0 e))=gc:=hgc
   have a:(w.drew.alloc (.cells cur e)).heap[w.heap.size]? =some (.cells cur e):=by
    show(w.heap.push (.cells cur e))[w.heap.size]? =_
    simp
   have E:(w.drew.alloc (.cells cur e)).shape? w.heap.size=some (e,cur.size):=by
    unfold World.shape?
    rw[a]
   have t:∀k:Nat,(w.drew.alloc (.cells cur e)).freeze ⟨w.heap.size,k,none⟩ 1=w.drew.alloc (.cells cur e (k,k+1)):=fun k=>by
    unfold World.freeze World.alloc World.drew
    simp only[Nat.one_ne_zero,jG]
    congr 1
    apply Array.ext
    .simp
    intro j p y
    simp only[Array.getElem_modify]
    by_cases hj:w.heap.size=j
    .subst hj;simp
    have:j<w.heap.size:=by simp at p;omega
    simp[hj,Array.getElem_push_lt this]
   have B:(markStringish ⟨w.heap.size,0,none⟩).run P (w.drew.alloc (.cells cur e))= .ok () (w.drew.alloc (.cells cur e (cur.size,cur.size+1))):=by
    simp[markStringish,E,t]
   have D:(newRow e cur).run P w.drew= .ok ⟨w.heap.size,0,none⟩ (w.drew.alloc (.cells cur e)):=rfl
   have F:(Conv.stringToBytes e s).run P w= .ok (.slice (some ⟨w.heap.size,0,none⟩) s.size gc) (w.drew.alloc (.cells cur e (cur.size,cur.size+1))):=by
    unfold Conv.stringToBytes
    simp only[Sem.run_bind,run_choose,c,jA,jG,Result.andThen_ok,r,hcur]
    show((newRow e cur).run P w.drew).andThen _=_
    rw[D]
    simp only[Result.andThen_ok,B,Sem.run_pure]
   simp[convert,run_underlying y,run_underlying G,run_underlying H,F]
  have a:=st.alloc (w':=w.drew.alloc (.cells cur e (cur.size,cur.size+1))) (o:= .cells cur e (cur.size,cur.size+1)) ⟨⟨rfl,rfl⟩,rfl,oW⟩ rfl
  have c:=st.fresh_free
  have B:cur.toList.take (s.data.toList.map fun b=>Value.int .u8 (b.toNat:Int)).length=s.data.toList.map fun b=>Value.int .u8 (b.toNat:Int):=by
   rw[<-hcur,Array.toList_append,Array.toList_map,hH]
  obtain⟨m',F,R,S,_⟩:=St.know (b:=w.heap.size) (cs:=s.data.toList.map fun b=>Value.int .u8 (b.toNat:Int)) a.tail (a.head_ne rfl) a.head.1 B (fun o v D=>by rw[c.1 o] at D;cases D)
  have t:RepS cU8 m' (some ⟨w.heap.size,0,none⟩) gc s.data.toList:=RepS.of_cells (by simpa using z) A (fun j x g=>by
   have r:=(List.getElem?_eq_some_iff.1 g).1
   have E:=(List.getElem?_eq_some_iff.1 g).2
   show List.take 1 (List.drop (j*1) _)=_
   rw[uA,<-List.map_drop,<-List.map_take,kA r,E]
   rfl) S
  have r:s.data.toList.length=s.size:=by simp
  refine nH M K (fun q E=> ?_) (h w.heap.size gc m' _ F R t)
  simp only[execOp,E,cC g,Sem.run_bind,u,Result.andThen_ok,Sem.run_pure,r]
 cases f
end
end Go.Dc
namespace Go.Dc
section
variable {ρ:Option Nat} {P:Program} {n:Fr} {ops:Array Oper} {Q:Exit->Act->World->Prop} {i d:Nat} {L:aZ} {w:World} {m:Mem} {own:List Piece} {N:aZ->World->Prop}
theorem qHx{f:FuncId}{args:Array Value}{R:Ending->World->Prop}(I:Value->World->Prop)(a:∀v w',I v w'->R (.returned v) w')(h:Calls P f args w fun e w'=>∃v,e= .returned v/\I v w'):Calls P f args w R:=
 h.mono fun e w' ⟨v,b,hi⟩=>b▸a v w' hi
theorem OF{k:Nat}{fn:Func}{R:Ending->World->Prop}(rvs:List ResultVar)(vs:List Value)(a:fn.results=rvs.toArray)(b:ResAll P w L rvs vs)(h:R (.returned (vX vs)) w):X ⟨k,[]⟩ (bodyPost P fn R) .normal L w:=AS (P:=P) (fn:=fn) (R:=R) rvs vs a b h
end
end Go.Dc
end
namespace Go.Dc
section
def zHe(P:Program)(fn:Func)(R:Ending->World->Prop):Exit->Act->World->Prop
 | .normal,a,w=>LeavesInM Fence.wide 0 P fn a.tmps R a.defers .returning w
 | .ret,a,w=>LeavesInM Fence.wide 0 P fn a.tmps R a.defers .returning w
 |_,_,_=>False
section
variable {ρ:Option Nat} {P:Program} {n:Fr} {ops:Array Oper} {Q:Exit->Act->World->Prop} {i d:Nat} {L:aZ} {w:World} {m:Mem} {own:List Piece} {N:aZ->World->Prop}
def FitsT(sz:Nat)(T:Array Value)(L:aZ):Prop:=T.size=sz/\∀t v,look L t=some v->T[t]? =some v
def zFf(P:Program)(l:Nat)(body:Code)(R:Ending->World->Prop):Exit->Act->World->Prop:=
 Exit.then (fun a₁ w₁=>∃w₂,(Instr.beginRound l).run P w₁= .ok () w₂/\body.wpIn (lV (some l)) 0 P (roundPost P l R) a₁ w₂) (fun _ _ _=>False)
theorem FitsT.set{sz:Nat}{T:Array Value}{L:aZ}(h:FitsT sz T L){p:Nat}(d:p<sz)(v:Value):FitsT sz (T.setIfInBounds p v) ((p,v)::L):=by
 obtain⟨b,c⟩:=h
 refine⟨by simp[b],fun t u a=> ?_⟩
 simp only[look] at a
 by_cases hpt:p=t
 .subst hpt
  simp at a;subst a
  simp[Array.getElem?_setIfInBounds,b,d]
 have:Nat.beq p t=false:=by cases hb:Nat.beq p t<;>simp_all [Nat.beq_eq]
 rw[this] at a
 simp[Array.getElem?_setIfInBounds,hpt,c t u a]
end
end
end Go.Dc
section
namespace Go.Dc
def eV{κ ν:Type}[DecidableEq κ]:List (κ×ν)->κ->Option ν
 |[],_=>none
 |p::l,k=>if k=p.1 then some p.2 else eV l k
def rC{κ ν:Type}[DecidableEq κ]:List (κ×ν)->κ->ν->List (κ×ν)
 |[],k,v=>[(k,v)]
 |p::l,k,v=>if k=p.1 then(k,v)::l else p::rC l k v
class KOrd(κ:Type) where
 lt:κ->κ->Bool
instance:KOrd Int:=⟨fun a b=>decide (a<b)⟩
instance:KOrd BA:=⟨fun a b=>decide (a.data.toList<b.data.toList)⟩
instance{α β:Type}[DecidableEq α][KOrd α][KOrd β]:KOrd (α×β):=⟨fun a b=>KOrd.lt a.1 b.1||(decide (a.1=b.1)&&KOrd.lt a.2 b.2)⟩
def mins{κ ν:Type}[KOrd κ]:List (κ×ν)->κ->ν->List (κ×ν)
 |[],k,v=>[(k,v)]
 |p::l,k,v=>if KOrd.lt k p.1 then(k,v)::p::l else p::mins l k v
def mset{κ ν:Type}[DecidableEq κ][KOrd κ](l:List (κ×ν))(k:κ)(v:ν):List (κ×ν):=
 if(eV l k).isSome then l.map fun p=>if k=p.1 then(k,v) else p else mins l k v
theorem YL{κ ν:Type}[DecidableEq κ]{l:List (κ×ν)}{k:κ}:eV l k=none↔k∉l.map (·.1):=by
 induction l with
 |nil=>simp[eV]
 |cons p l a=>
  simp only[eV,kF,jJ,not_or]
  split
  .rename_i h;simp[h]
  rename_i h;rw[a];exact⟨fun g=>⟨h,g⟩,fun g=>g.2⟩
theorem ZF{κ ν:Type}[DecidableEq κ]{l:List (κ×ν)}{k:κ}{v:ν}(a:(l.map (·.1)).Nodup):eV l k=some v↔(k,v)∈l:=by
 induction l with
 |nil=>simp[eV]
 |cons p l b=>
  simp only[kF,fE] at a
  simp only[eV,jJ]
  split
  .rename_i h
   subst h
   constructor
   .intro e;left;simp at e;rw[<-e]
   rintro(e|e)
   .rw[<-e]
   exact absurd (gV (f:=(·.1)) e) a.1
  rename_i h
  rw[b a.2]
  constructor
  .intro e;exact .inr e
  rintro(e|e)
  .exact absurd (congrArg Prod.fst e) h
  exact e
theorem YP{κ ν:Type}[DecidableEq κ]{l l':List (κ×ν)}(a:l'.Perm l)(b:(l'.map (·.1)).Nodup)(k:κ):eV l' k=eV l k:=by
 have hn':(l.map (·.1)).Nodup:=(a.map _).nodup_iff.1 b
 cases h:eV l k with
 |none=>rw[YL] at h ⊢;exact fun g=>h ((a.map _).mem_iff.1 g)
 |some v=>rw[ZF hn'] at h;rw[ZF b];exact a.mem_iff.2 h
theorem qIt{κ ν:Type}[DecidableEq κ]{l:List (κ×ν)}{k:κ}{v:ν}(h:eV l k=none):rC l k v=l++[(k,v)]:=by
 induction l with
 |nil=>rfl
 |cons p l a=>
  simp only[eV] at h
  split at h
  .cases h
  rename_i hk;simp[rC,hk,a h]
theorem qHt{κ ν:Type}[DecidableEq κ]{l:List (κ×ν)}{k:κ}{v:ν}(a:(l.map (·.1)).Nodup)(h:eV l k≠none):rC l k v=l.map fun p=>if k=p.1 then(k,v) else p:=by
 induction l with
 |nil=>exact absurd rfl h
 |cons p l c=>
  simp only[kF,fE] at a
  simp only[rC,kF]
  by_cases hk:k=p.1
  .simp only[hk,jI]
   congr 1
   rw[<-hk]
   refine(dN fun q b=> ?_).trans (List.map_id _)|>.symm
   have:k≠q.1:=fun e=>a.1 (by rw[<-hk,e];exact gV (f:=(·.1)) b)
   simp[this]
  simp only[hk,jG]
  rw[c a.2 (by simpa[eV,hk] using h)]
theorem qHq{κ ν:Type}[KOrd κ](l:List (κ×ν))(k:κ)(v:ν):(mins l k v).Perm ((k,v)::l):=by
 induction l with
 |nil=>exact .refl _
 |cons p l a=>
  simp only[mins]
  split
  .exact .refl _
  exact(List.Perm.cons p a).trans (.swap _ _ _)
theorem HY{κ ν:Type}[DecidableEq κ][KOrd κ]{l l':List (κ×ν)}(a:l'.Perm l)(c:(l'.map (·.1)).Nodup)(k:κ)(v:ν):(rC l' k v).Perm (mset l k v):=by
 have b:=YP a c k
 unfold mset
 cases h:eV l k with
 |none=>
  rw[qIt (by rw[b,h])]
  simp only[Option.isSome_none,jA,jG]
  exact(List.perm_append_comm.trans (List.Perm.cons _ a)).trans (qHq l k v).symm
 |some u=>
  rw[qHt c (by rw[b,h];simp)]
  simp only[Option.isSome_some,jI]
  exact a.map _
theorem HN{κ ν:Type}[DecidableEq κ]{l:List (κ×ν)}(c:(l.map (·.1)).Nodup)(k:κ)(v:ν):((rC l k v).map (·.1)).Nodup:=by
 cases h:eV l k with
 |none=>
  rw[qIt h,gT,dR]
  refine⟨c,by simp,?_⟩
  intro a f b d e
  simp at d;subst d e
  exact YL.1 h f
 |some u=>
  rw[qHt c (by rw[h];simp)]
  have:(l.map fun p=>if k=p.1 then(k,v) else p).map (·.1)=l.map (·.1):=by
   rw[List.map_map]
   refine dN fun q _=> ?_
   simp only[Function.comp]
   split
   .rename_i e;exact e
   rfl
  rw[this];exact c
def sT(agg:Bool)(cs:List Value):Value:=bif agg then .agg cs.toArray else cs.headD undef
def MapL{κ ν:Type}(ek:κ->Value)(c:Codec ν)(agg:Bool)(m:Mem):List MapEntry->List (κ×ν)->Prop
 |[],l=>l=[]
 |e::es,l=>∃k v l',l=(k,v)::l'/\e.key=ek k/\(∃cs,c.rep m v cs/\e.val=sT agg cs)/\MapL ek c agg m es l'
def qQs(es:List MapEntry)(ck:Nat):Prop:=(∀e∈es,e.born<ck)/\(es.map (·.born)).Nodup
def MapQ{κ ν:Type}(ek:κ->Value)(c:Codec ν)(agg:Bool)(m:Mem)(q:Option Nat)(es:Array MapEntry)(ck:Nat)(o:Option (List (κ×ν))):Prop:=
 match q with
 |none=>o=none
 |some _=>∃l l',o=some l/\l'.Perm l/\(l'.map (·.1)).Nodup/\MapL ek c agg m es.toList l'/\qQs es.toList ck
theorem MapL.mono{κ ν:Type}{ek:κ->Value}{c:Codec ν}{agg:Bool}{m m':Mem}(a:m.le m'):∀{es:List MapEntry} {l:List (κ×ν)},MapL ek c agg m es l->MapL ek c agg m' es l
 |[],_,h=>h
 |_::_,_,⟨k,v,l',b,d,⟨cs,e,f⟩,g⟩=>⟨k,v,l',b,d,⟨cs,c.mono _ _ _ _ a e,f⟩,g.mono a⟩
theorem MapQ.mono{κ ν:Type}{ek:κ->Value}{c:Codec ν}{agg:Bool}{m m':Mem}{q:Option Nat}{es:Array MapEntry}{ck:Nat}{o:Option (List (κ×ν))}(h:MapQ ek c agg m q es ck o)(a:m.le m'):MapQ ek c agg m' q es ck o:=by
 cases q with
 |none=>exact h
 |some b=>obtain⟨l,l',d,e,f,g,k⟩:=h;exact⟨l,l',d,e,f,g.mono a,k⟩
def JA{κ:Type}[DecidableEq κ](k:κ):List κ->List MapEntry->Nat->Option (Nat×Value)
 |k'::ks,e::es,i=>if k=k' then some (i,e.val) else JA k ks es (i+1)
 |_,_,_=>none
structure KeyOK{κ:Type}[DecidableEq κ](P:Program)(kt:TypeId)(ek:κ->Value):Prop where
 find:∀(k:κ) (ks:List κ) (es:List MapEntry) (w:World),es.map (·.key)=ks.map ek->(Instr.findKey kt (ek k) es).run P w= .ok (JA k ks es 0) w
 chk:∀(e:Bool) (a:κ) (w:World),(Instr.checkKey e 10000 kt (ek a)).run P w= .ok () w
 stay:∀(a:κ) (w:World),(Instr.keyThatStays (ek a) (ek a)).run P w= .ok (ek a) w
 inj:∀a b,ek a=ek b->a=b
theorem zDn(a b:Int):(a==b)=decide (a=b):=by rw[kP];simp
theorem qGy{κ:Type}[DecidableEq κ]{dd:TypeDesc}{ek:κ->Value}(c:∀a b,Instr.sameNow dd (ek a) (ek b)=some (decide (a=b)))(k:κ):∀(ks:List κ) (es:List MapEntry) (j:Nat),es.map (·.key)=ks.map ek->Instr.findNow dd (ek k) es j=some (JA k ks es j)
 |[],[],j,_=>rfl
 |[],e::es,j,h=>by simp at h
 |k'::ks,[],j,h=>by simp at h
 |k'::ks,e::es,j,h=>by
  simp only[kF,gK] at h
  simp only[Instr.findNow,h.1,c,JA]
  by_cases hkk:k=k'
  .subst hkk;simp
  simp only[hkk,decide_false,jG]
  exact qGy c k ks es (j+1) h.2
theorem zGp{P:Program}{kt:TypeId}{q q':IntKind}(h:P.underlying kt=some (.int q))(e:Bool)(z:Int)(w:World):∀n,(Instr.checkKey e (n+1) kt (.int q' z)).run P w= .ok () w:=fun n=>by simp[Instr.checkKey,run_underlying h]
theorem zFi{κ:Type}[DecidableEq κ]{P:Program}{kt:TypeId}{ek:κ->Value}{d:TypeDesc}(o:P.underlying kt=some d)(c:∀a b,Instr.sameNow d (ek a) (ek b)=some (decide (a=b)))
  (l:∀(e:Bool) (a:κ) (w:World),(Instr.checkKey e 10000 kt (ek a)).run P w= .ok () w) (g:∀n a,Instr.sameBits n (ek a) (ek a)=true):KeyOK P kt ek where
 find k ks es w h:=by simp[Instr.findKey,run_underlying o,qGy c k ks es 0 h]
 chk:=l
 stay a w:=by simp[Instr.keyThatStays,g]
 inj a b h:=by
  have f:=c a b
  rw[h,c b b] at f
  simpa using f.symm
theorem xZ{P:Program}{kt:TypeId}{q:IntKind}(h:P.underlying kt=some (.int q)):KeyOK P kt (fun n:Int=>Value.int q n):=
 zFi h (fun a b=>by simp[Instr.sameNow];exact zDn a b) (fun e v w=>zGp h e v w 9999) (fun n a=>by cases n<;>simp[Instr.sameBits])
section
variable {m:Mem} {κ ν:Type} {ek:κ->Value} {c:Codec ν} {agg:Bool}
theorem MapL.snoc:∀{es:List MapEntry} {l:List (κ×ν)} {e:MapEntry} {k:κ} {y:ν} {cs:List Value},MapL ek c agg m es l->e.key=ek k->c.rep m y cs->e.val=sT agg cs->MapL ek c agg m (es++[e]) (l++[(k,y)])
 |[],l,e,k,y,cs,h,a,b,d=>by
  simp only[MapL] at h;subst h
  exact⟨k,y,[],rfl,a,⟨cs,b,d⟩,rfl⟩
 |e'::es,l,e,k,y,cs,⟨k',v',l',f,g,n,o⟩,a,b,d=>by
  subst f
  exact⟨k',v',l'++[(k,y)],rfl,g,n,o.snoc a b d⟩
theorem MS:∀{es:List MapEntry} {l:List (κ×ν)},MapL ek c agg m es l->es.map (·.key)=(l.map (·.1)).map ek
 |[],l,h=>by simp only[MapL] at h;subst h;rfl
 |e::es,l,⟨k',v',l',a,b,_,d⟩=>by subst a;simp only[kF,b,MS d]
theorem MapQ.new(ek:κ->Value)(c:Codec ν)(agg:Bool)(m:Mem)(b:Nat):MapQ ek c agg m (some b) #[] 0 (some []):=⟨[],[],rfl,.refl _,by simp,rfl,by simp[qQs]⟩
theorem MapQ.nil(ek:κ->Value)(c:Codec ν)(agg:Bool)(m:Mem)(es:Array MapEntry)(ck:Nat):MapQ ek c agg m none es ck (none:Option (List (κ×ν))):=rfl
end
section
variable {P:Program} {n:Fr} {ops:Array Oper} {Q:Exit->Act->World->Prop} {i d:Nat} {L:aZ} {w:World} {m:Mem} {own:List Piece} {N:aZ->World->Prop}
variable {κ ν:Type} [DecidableEq κ] {ek:κ->Value} {c:Codec ν} {agg:Bool}
theorem TH(k:κ):∀(es:List MapEntry) (l:List (κ×ν)) (j:Nat),MapL ek c agg m es l->
  ∃r,JA k (l.map (·.1)) es j=r/\match r with
   |none=>eV l k=none/\rC l k=fun v=>l++[(k,v)]
   |some (q,v)=>∃x cs,eV l k=some x/\c.rep m x cs/\v=sT agg cs/\j<=q/\q<j+es.length/\(∃e,es[q-j]? =some e/\e.key=ek k)/\
     ∀(y:ν) (cs':List Value) (f:MapEntry->MapEntry),c.rep m y cs'->(∀e,(f e).key=ek k/\(f e).val=sT agg cs')->MapL ek c agg m (es.modify (q-j) f) (rC l k y)
 |[],l,j,h=>by
  simp only[MapL] at h;subst h
  exact⟨none,rfl,rfl,by funext v;rfl⟩
 |e::es,l,j,h=>by
  obtain⟨k',v',l',rfl,p,⟨cs,s,t⟩,u⟩:=h
  simp only[kF,JA]
  by_cases hkk:k=k'
  .subst hkk
   simp only[jI]
   refine⟨_,rfl,v',cs,by simp[eV],s,t,jN _,by simp,⟨e,by simp,p⟩,?_⟩
   intro y cs' f n b
   simp only[Nat.sub_self,List.modify_zero_cons,rC,jI]
   exact⟨k,y,l',rfl,(b e).1,⟨cs',n,(b e).2⟩,u⟩
  simp only[hkk,jG]
  obtain⟨r,G,a⟩:=TH k es l' (j+1) u
  refine⟨r,G,?_⟩
  cases r with
  |none=>
   obtain⟨d,g⟩:=a
   exact⟨by simp[eV,hkk,d],by funext v;simp[rC,hkk,g]⟩
  |some qv=>
   obtain⟨q,v⟩:=qv
   obtain⟨x,o,d,g,B,H,K,⟨A,D,E⟩,F⟩:=a
   have z:q-j=(q-(j+1))+1:=by omega
   refine⟨x,o,by simp[eV,hkk,d],g,B,by omega,by simp;omega,⟨A,by rw[z];simpa using D,E⟩,?_⟩
   intro y cs' f n b
   rw[z]
   simp only[List.modify_succ_cons,rC,if_neg hkk]
   exact⟨k',v',_,rfl,p,⟨cs,s,t⟩,F y cs' f n b⟩
def IM(P:Program)(t:TypeId):Option (TypeId×TypeId×Value):=
 match P.underlying t with
 |some (.map k e)=>match P.info? e with
  |some i=>i.zero.map fun z=>(k,e,z)
  |none=>none
 |_=>none
theorem WW{t kt et:TypeId}{z:Value}(h:IM P t=some (kt,et,z)):P.underlying t=some (.map kt et)/\∀w:World,(zeroValue et).run P w= .ok z w:=by
 unfold IM at h
 split at h
 .rename_i k e he
  split at h
  .rename_i inf hi
   obtain⟨z',b,a⟩:=jY.1 h
   simp only[Prod.mk.injEq] at a
   obtain⟨rfl,rfl,rfl⟩:=a
   exact⟨he,fun w=>by simp[zeroValue,typeInfo,hi,b]⟩
  cases h
 cases h
def mU(q:Option Nat)(es:Array MapEntry)(ck:Nat):Piece:=
 match q with
 |none=> .room none 0 0 0 0
 |some b=> .blk b (.map es ck)
def uC(o:Option (List (κ×ν)))(k:κ):Option ν:=o.bind fun l=>eV l k
def tJ[KOrd κ](o:Option (List (κ×ν)))(k:κ)(v:ν):Option (Option (List (κ×ν))):=o.map fun l=>some (mset l k v)
theorem qFh{t:TypeId}(c:cT ops L i=some (some d,.makeMap t none))(a:Nat.blt d n=true)(st:St m own w)
  (h:∀b w',St m (mU (some b) #[] 0::own) w'->N ((d,.map (some b))::L) w'):iB P n ops Q i N L w:=by
 refine nH (w':=w.alloc (.map #[] 0)) c a (fun q e=> ?_) (h w.heap.size _ (st.alloc ⟨⟨rfl,rfl⟩,rfl,oW⟩ rfl))
 simp[execOp,e,Instr.makeMap]
theorem qXm{t kt et:TypeId}{z:Value}(D:IM P t=some (kt,et,z))(p:KeyOK P kt ek){q:Option Nat}{es:Array MapEntry}{ck:Nat}{o:Option (List (κ×ν))}(F:Piece.holds m w (mU q es ck))(g:MapQ ek c agg m q es ck o)
  {zx:ν} {zcs:List Value} (G:c.rep m zx zcs) (B:z=sT agg zcs) (k:κ) (ok:Bool):
  ∃cs,c.rep m ((uC o k).getD zx) cs/\(Instr.lookup t (.map q) (ek k) ok).run P w= .ok (bif ok then .tuple #[sT agg cs,.bool (uC o k).isSome] else sT agg cs) w:=by
 obtain⟨u,y⟩:=WW D
 have main:∀(es:List MapEntry) (l:List (κ×ν)),MapL ek c agg m es l->∃cs r,c.rep m ((eV l k).getD zx) cs/\(Instr.findKey kt (ek k) es).run P w= .ok r w/\
   (match r with|some (_,v)=>v=sT agg cs/\(eV l k).isSome=true|none=>sT agg cs=z/\(eV l k).isSome=false):=by
  intro es l h
  obtain⟨r,g,d⟩:=TH (c:=c) (agg:=agg) k es l 0 h
  cases r with
  |none=>exact⟨zcs,none,by simp[d.1,G],by rw[p.find k _ es w (MS h),g],B.symm,by simp[d.1]⟩
  |some qv=>
   obtain⟨q,v⟩:=qv
   obtain⟨x,cs,e,f,a,_⟩:=d
   exact⟨cs,some (q,v),by simp[e,f],by rw[p.find k _ es w (MS h),g],a,by simp[e]⟩
 cases q with
 |none=>
  simp only[MapQ] at g
  subst g
  obtain⟨cs,r,e,f,a⟩:=main [] [] rfl
  refine⟨cs,by simpa[uC,eV] using e,?_⟩
  have n:=p.chk true k w
  cases r with
  |none=>cases ok<;>simp[Instr.lookup,run_underlying u,n,f,y,a.1,uC]
  |some r=>simp[eV] at a
 |some b=>
  obtain⟨H,l,rfl,s,A,h,_⟩:=g
  obtain⟨cs,r,e,f,a⟩:=main es.toList l h
  rw[YP s A] at e a
  refine⟨cs,by simpa[uC] using e,?_⟩
  have E:w.heap[b]? =some (.map es ck):=F.1
  have d:(getObj b).run P w= .ok (.map es ck) w:=by simp[getObj,Sem.run,E]
  have n:=p.chk es.isEmpty k w
  cases r with
  |none=>cases ok<;>simp[Instr.lookup,run_underlying u,d,n,f,y,a.1,a.2,uC]
  |some r=>
   obtain⟨_,v⟩:=r
   cases ok<;>simp[Instr.lookup,run_underlying u,d,n,f,a.1,a.2,uC]
theorem qGw{t kt et:TypeId}{z:Value}{x y:Operand}{q:Option Nat}{es:Array MapEntry}{ck:Nat}{o:Option (List (κ×ν))}{k:κ}{ok:Bool}(p:cT ops L i=some (some d,.lookup t x y ok))(g:Nat.blt d n=true)
  (v:aW L x=some (.map q)) (A:aW L y=some (ek k)) (f:IM P t=some (kt,et,z)) (l:KeyOK P kt ek) (r:Piece.holds m w (mU q es ck)) (u:MapQ ek c agg m q es ck o)
  {zx:ν} {zcs:List Value} (B:c.rep m zx zcs) (a:z=sT agg zcs)
  (h:∀cs,c.rep m ((uC o k).getD zx) cs->N ((d,bif ok then .tuple #[sT agg cs,.bool (uC o k).isSome] else sT agg cs)::L) w):iB P n ops Q i N L w:=by
 obtain⟨cs,b,e⟩:=qXm f l r u B a k ok
 refine nH p g (fun q s=> ?_) (h cs b)
 simp[execOp,s,cC v,cC A,e]
theorem qGl{b:Nat}{o o':Obj}(a:w.heap[b]? =some o)(c:∀cs e f,o≠ .cells cs e f):(setObj b o').run P w= .ok () {w with heap:=w.heap.setIfInBounds b o'}:=by
 cases o<;>first|(exact absurd rfl (c _ _ _))|simp[setObj,Sem.run,a]
theorem qUj[KOrd κ]{t kt et:TypeId}{z v:Value}{x y u:Operand}{q:Option Nat}{es:Array MapEntry}{ck:Nat}{o o':Option (List (κ×ν))}{k:κ}{yv:ν}{cs:List Value}(ho:cT ops L i=some (none,.mapUpdate t x y u))
  (hx:aW L x=some (.map q)) (hy:aW L y=some (ek k)) (hu:aW L u=some v) (hI:IM P t=some (kt,et,z)) (F:KeyOK P kt ek) (st:St m (mU q es ck::own) w) (H:MapQ ek c agg m q es ck o)
  (S:c.rep m yv cs) (hv:v=sT agg cs) (Y:tJ o k yv=some o')
  (h:∀es' ck' w',St m (mU q es' ck'::own) w'->MapQ ek c agg m q es' ck' o'->N L w'):iB P n ops Q i N L w:=by
 obtain⟨U,h2⟩:=WW hI
 cases q with
 |none=>simp only[MapQ] at H;subst H;simp[tJ] at Y
 |some b=>
  obtain⟨l0,l,rfl,s,g,V,D,R⟩:=H
  simp only[tJ,gO,jO] at Y
  subst Y
  have B:w.heap[b]? =some (.map es ck):=st.head.1
  have a0:=xX B
  have E:(getObj b).run P w= .ok (.map es ck) w:=by simp[getObj,Sem.run,B]
  have K:∀o',(setObj b o').run P w= .ok () {w with heap:=w.heap.setIfInBounds b o'}:=fun o'=>qGl B ae
  have G:∀o',St m (.blk b o'::own) {w with heap:=w.heap.setIfInBounds b o'}:=fun o'=>
   St.set (o:= .map es ck) st ⟨⟨rfl,rfl⟩,rfl,oW⟩ (by simp[a0]) (fun k _ F=>by simp[Array.getElem?_setIfInBounds,Ne.symm F])
  have hc:=F.chk false k w
  obtain⟨r,H,A⟩:=TH (c:=c) (agg:=agg) k es.toList l 0 V
  have f:(Instr.findKey kt (ek k) es.toList).run P w= .ok r w:=by rw[F.find k _ es.toList w (MS V),H]
  cases r with
  |none=>
   obtain⟨g1,Z⟩:=A
   refine EP ho (fun q hq=> ?_) (h (es.push {key:=ek k,val:=v,born:=ck}) (ck+1) _ (G _) ⟨_,rC l k yv,rfl,HY s g k yv,HN g k yv,?_,?_,?_⟩)
   .simp[execOp,hq,cC hx,cC hy,cC hu,Instr.mapUpdate,run_underlying U,E,hc,f,K]
   .rw[Z,fX]
    exact V.snoc rfl S hv
   .intro e d
    rw[fX,kJ] at d
    rcases d with d|d
    .have:=D e d;omega
    simp at d;subst d;simp
   rw[fX,gT,dR]
   refine⟨R,by simp,?_⟩
   intro a ha b B e
   simp at B;subst B e
   obtain⟨e0,M,a1⟩:=gL.1 ha
   have:=D e0 M
   omega
  |some qv=>
   obtain⟨q,v0⟩:=qv
   obtain⟨x0,a1,g1,Z,g3,g4,g5,⟨e0,g6,g7⟩,g8⟩:=A
   have d:es[q]? =some e0:=by simpa using g6
   have M:(Instr.keyThatStays (ek k) (ek k)).run P w= .ok (ek k) w:=F.stay k w
   refine EP ho (fun p hp=> ?_) (h (es.modify q fun e=>{e with key:=ek k,val:=v}) ck _ (G _) ⟨_,rC l k yv,rfl,HY s g k yv,HN g k yv,?_,?_,?_⟩)
   .simp[execOp,hp,cC hx,cC hy,cC hu,Instr.mapUpdate,run_underlying U,E,hc,f,d,g7,M,K]
   .rw[fN]
    have:=g8 yv cs (fun e=>{e with key:=ek k,val:=v}) S (fun e=>⟨rfl,hv⟩)
    simpa using this
   .intro e d
    rw[fN] at d
    obtain⟨j,hj,rfl⟩:=List.mem_iff_getElem.1 d
    rw[dO]
    have hj':j<es.toList.length:=by simpa using hj
    have:=D es.toList[j] (jM hj')
    split
    .exact this
    exact this
   rw[fN]
   have:(es.toList.modify q fun e=>{e with key:=ek k,val:=v}).map (·.born)=es.toList.map (·.born):=by
    apply List.ext_getElem
    .simp
    intro j U h2
    simp only[dY,dO]
    split<;>rfl
   rw[this];exact R
theorem CG[KOrd κ]{t kt et:TypeId}{z v:Value}{x y u:Operand}{q:Option Nat}{es:Array MapEntry}{ck:Nat}{o o':Option (List (κ×ν))}{k:κ}{yv:ν}{cs:List Value}(ho:cT ops L i=some (none,.insert t x y u))
  (hx:aW L x=some (.map q)) (hy:aW L y=some (ek k)) (hu:aW L u=some v) (hI:IM P t=some (kt,et,z)) (F:KeyOK P kt ek) (st:St m (mU q es ck::own) w) (H:MapQ ek c agg m q es ck o)
  (S:c.rep m yv cs) (hv:v=sT agg cs) (Y:tJ o k yv=some o')
  (h:∀es' ck' w',St m (mU q es' ck'::own) w'->MapQ ek c agg m q es' ck' o'->N L w'):iB P n ops Q i N L w:=by
 obtain⟨U,h2⟩:=WW hI
 cases q with
 |none=>simp only[MapQ] at H;subst H;simp[tJ] at Y
 |some b=>
  obtain⟨l0,l,rfl,s,g,V,D,R⟩:=H
  simp only[tJ,gO,jO] at Y
  subst Y
  have B:w.heap[b]? =some (.map es ck):=st.head.1
  have a0:=xX B
  have E:(getObj b).run P w= .ok (.map es ck) w:=by simp[getObj,Sem.run,B]
  have K:∀o',(setObj b o').run P w= .ok () {w with heap:=w.heap.setIfInBounds b o'}:=fun o'=>qGl B ae
  have G:∀o',St m (.blk b o'::own) {w with heap:=w.heap.setIfInBounds b o'}:=fun o'=>
   St.set (o:= .map es ck) st ⟨⟨rfl,rfl⟩,rfl,oW⟩ (by simp[a0]) (fun k _ F=>by simp[Array.getElem?_setIfInBounds,Ne.symm F])
  have hc:=F.chk false k w
  obtain⟨r,H,A⟩:=TH (c:=c) (agg:=agg) k es.toList l 0 V
  have f:(Instr.findKey kt (ek k) es.toList).run P w= .ok r w:=by rw[F.find k _ es.toList w (MS V),H]
  cases r with
  |none=>
   obtain⟨g1,Z⟩:=A
   refine EP ho (fun q hq=> ?_) (h (es.push {key:=ek k,val:=v,born:=ck}) (ck+1) _ (G _) ⟨_,rC l k yv,rfl,HY s g k yv,HN g k yv,?_,?_,?_⟩)
   .simp[execOp,hq,cC hx,cC hy,cC hu,Instr.mapUpdate,run_underlying U,E,hc,f,K]
   .rw[Z,fX]
    exact V.snoc rfl S hv
   .intro e d
    rw[fX,kJ] at d
    rcases d with d|d
    .have:=D e d;omega
    simp at d;subst d;simp
   rw[fX,gT,dR]
   refine⟨R,by simp,?_⟩
   intro a ha b B e
   simp at B;subst B e
   obtain⟨e0,M,a1⟩:=gL.1 ha
   have:=D e0 M
   omega
  |some qv=>
   obtain⟨q,v0⟩:=qv
   obtain⟨x0,a1,g1,Z,g3,g4,g5,⟨e0,g6,g7⟩,g8⟩:=A
   have d:es[q]? =some e0:=by simpa using g6
   have M:(Instr.keyThatStays (ek k) (ek k)).run P w= .ok (ek k) w:=F.stay k w
   refine EP ho (fun p hp=> ?_) (h (es.modify q fun e=>{e with key:=ek k,val:=v}) ck _ (G _) ⟨_,rC l k yv,rfl,HY s g k yv,HN g k yv,?_,?_,?_⟩)
   .simp[execOp,hp,cC hx,cC hy,cC hu,Instr.mapUpdate,run_underlying U,E,hc,f,d,g7,M,K]
   .rw[fN]
    have:=g8 yv cs (fun e=>{e with key:=ek k,val:=v}) S (fun e=>⟨rfl,hv⟩)
    simpa using this
   .intro e d
    rw[fN] at d
    obtain⟨j,hj,rfl⟩:=List.mem_iff_getElem.1 d
    rw[dO]
    have hj':j<es.toList.length:=by simpa using hj
    have:=D es.toList[j] (jM hj')
    split
    .exact this
    exact this
   rw[fN]
   have:(es.toList.modify q fun e=>{e with key:=ek k,val:=v}).map (·.born)=es.toList.map (·.born):=by
    apply List.ext_getElem
    .simp
    intro j U h2
    simp only[dY,dO]
    split<;>rfl
   rw[this];exact R
end
end Go.Dc
namespace Go.Dc
section
variable {P:Program} {n:Fr} {ops:Array Oper} {Q:Exit->Act->World->Prop} {i d:Nat} {L:aZ} {w:World} {m:Mem} {own:List Piece} {N:aZ->World->Prop}
variable {α:Type} {f:α->Value}
def FL(by_:Nat)(z:α)(k:Int):Option (List α):=if 0<=k/\k*by_<=140737488355328/\k<=maxLen then some (List.replicate k.toNat z) else none
def qC(f:α->Value)(l:List α)(T:List Value):Array Value:=(l.map f++T).toArray
theorem qVe{t e by_:Nat}{x y:Operand}{z:α}{k:Int}{kd B:IntKind}{l:List α}(f:α->Value)(E:cT ops L i=some (some d,.makeSlice t x y))(D:Nat.blt d n=true)(M:aW L x=some (.int kd k))(R:aW L y=some (.int B k))
  (hi:yU P t=some (e,1,by_,1)) (r:(P.info? e).bind (·.zero)=some (f z)) (F:(f z).oneCell'=true) (st:St m own w) (g:FL by_ z k=some l)
  (h:∀b w',List.length l=Int.toNat k->St m (.blk b (.cells (qC f l []) e (0,0))::own) w'->N ((d,.slice (some ⟨b,0,none⟩) (Int.toNat k) (Int.toNat k))::L) w'):iB P n ops Q i N L w:=by
 obtain⟨H,inf,zv,a,p,A,v,U⟩:=WM hi
 rw[a] at r
 simp only[j0,p,jO] at r
 subst r
 unfold FL at g
 split at g
 .rename_i hk
  obtain⟨Y,Z,k3⟩:=hk
  simp only[jO] at g;subst g
  have S:(maxLen:Int)=9223372036854775807:=rfl
  have K:IntKind.i64.wrap k=k:=by simp[IntKind.wrap,IntKind.signed,IntKind.bits];omega
  have k2':¬(281474976710656<(by_:Int)*k):=by rw[Int.mul_comm];omega
  have c:(f z).cells= #[f z]:=by cases hv:f z<;>simp_all [Value.cells,Value.oneCell']
  have u:qC f (List.replicate k.toNat z) []=((List.replicate k.toNat z).map f).toArray:=by simp[qC]
  refine nH (w':=w.alloc (.cells ((List.replicate k.toNat z).map f).toArray e)) E D (fun q G=> ?_) (h w.heap.size _ ae (by rw[u];exact st.alloc ⟨⟨rfl,rfl⟩,rfl,oW⟩ rfl))
  simp only[execOp,G,cC M,cC R,Instr.makeSlice,Sem.run_bind,run_underlying H,Result.andThen_ok,asInt,asIntOf,typeInfo,run_program,a,Sem.run_pure,K,v]
  have s:¬(k<0):=by omega
  have o:(decide (k<0)||decide ((by_:Int)*k>2^48)||decide (k<0)||decide (k>k))=false:=by simp[s];omega
  simp only[o,jA,jG,run_askRoom,Result.andThen_ok,sizeOf,typeInfo,Sem.run_bind,run_program,a,Sem.run_pure,A,uA]
  by_cases h0:k.toNat=0
  .simp[h0,newRow]
   congr 2
   first|rfl|simp
  simp[h0,zeroValue,typeInfo,a,p,c,newRow,Nat.mod_one]
  congr 2
  apply Array.ext
  .simp
  intro j s V;simp
 cases g
theorem qEl{t e:TypeId}{x y:Operand}{b nn cc:Nat}{l:List α}{k:IntKind}{ix:Int}{z:α}(p:cT ops L i=some (some d,.indexAddr t x y))(o:Nat.blt d n=true)
  (s:aW L x=some (.slice (some ⟨b,0,none⟩) nn cc)) (u:aW L y=some (.int k ix)) (hi:pB P t=some (e,1)) (A:List.length l=nn) (a:aO l ix=some z)
  (h:N ((d,.pointer (some ⟨b,ix.toNat,none⟩))::L) w):iB P n ops Q i N L w:=by
 obtain⟨c,inf,f,g⟩:=yS hi
 unfold aO at a
 split at a
 .rename_i h0
  have v:ix.toNat<l.length:=(List.getElem?_eq_some_iff.1 a).1
  refine nH p o (fun q r=> ?_) h
  have hlt':ix<(nn:Int):=by omega
  simp[execOp,r,Instr.indexAt,cC s,cC u,asIntOf,run_underlying c,h0,hlt',sizeOf,typeInfo,f,g,yZ]
 cases a
theorem qEw{t e:TypeId}{x y:Operand}{b:Nat}{l:List α}{T:List Value}{ix:Int}{z u:α}(A:cT ops L i=some (none,.store t x y))
  (D:aW L x=some (.pointer (some ⟨b,ix.toNat,none⟩))) (E:aW L y=some (f u)) (st:St m (.blk b (.cells (qC f l T) e (0,0))::own) w) (g:aO l ix=some z) (p:(f u).oneCell'=true) (d:(P.info? t).map (·.size)=some 1)
  (h:∀w',St m (.blk b (.cells (qC f (l.set ix.toNat u) T) e (0,0))::own) w'->N L w'):iB P n ops Q i N L w:=by
 unfold aO at g
 split at g
 .have s:ix.toNat<l.length:=(List.getElem?_eq_some_iff.1 g).1
  have c:(f u).cells= #[f u]:=by cases hv:f u<;>simp_all [Value.cells,Value.oneCell']
  have r:=st.head.1
  have a:=run_storeCells_at P b ix.toNat e [f u] 0 (qC f l T) w r (by simp[qC];omega) (by simp[p])
  simp only[gY] at a
  have o:((qC f l T).toList.take ix.toNat++[f u]++(qC f l T).toList.drop (ix.toNat+[f u].length)).toArray=qC f (l.set ix.toNat u) T:=by
   apply congrArg List.toArray
   simp only[qC,dM]
   rw[List.map_set,List.set_eq_take_append_cons_drop,if_pos (by simpa using s)]
   rw[gC ai,gN ai]
   simp
  rw[o] at a
  cases hi:P.info? t with
  |none=>simp[hi] at d
  |some inf=>
   simp only[hi,gO,jO] at d
   refine EP A (fun q B=> ?_) (h (w.setRow b (qC f (l.set ix.toNat u) T)) (st.set ⟨⟨rfl,rfl⟩,rfl,oW⟩ (setRow_heap w b (qC f l T) _ e _ r) (fun k _ v=>setRow_other w b k _ v)))
   simp[execOp,B,Instr.storeAt,cC D,cC E,Instr.sureAddr,storeVar,sizeOf,typeInfo,hi,c,d,a]
 cases g
theorem St.freeze{c:Codec α}{b e nn cc:Nat}{l:List α}{T:List Value}(st:St m (.blk b (.cells (qC f l T) e (0,0))::own) w)(F:List.length l=nn)(D:nn<=cc)(a:cc<=maxLen)(y:(qC f l T).size=cc)(g:c.sz=1)(z:∀m x,c.rep m x [f x]):
  ∃m',m.le m'/\St m' (.room (some ⟨b,0,none⟩) (List.length l) cc e 1::own) w/\RepS c m' (some ⟨b,0,none⟩) cc l:=by
 have h:(qC f l T).toList.take (l.map f).length=l.map f:=by simp[qC]
 obtain⟨m',q,r,s,t,u,E⟩:=St.know (b:=b) (cs:=l.map f) st.tail (st.head_ne rfl) st.head.1 h (fun o v n=>by rw[st.head.2.1 o] at n;cases n)
 refine⟨m',q,r.cons ⟨rfl,rfl,by omega,a,⟨_,st.head.1,by rw[y,uA]⟩,fun o B=>t o (by simpa using B),by rw[u];exact st.head.2.2⟩ ?_,?_⟩
 .intro k d;simp[Piece.block] at d;subst d;exact st.head_ne rfl
 exact RepS.of_cells (cs:=l.map f) aa a (fun j x p=>by
  have d:=(List.getElem?_eq_some_iff.1 p).1
  have A:=(List.getElem?_eq_some_iff.1 p).2
  rw[g,uA,<-List.map_drop,<-List.map_take,kA d,A]
  exact z m' x) s
theorem zAl{by_:Nat}{z:α}{k:Int}{l:List α}(h:FL by_ z k=some l):k.toNat<=maxLen:=by
 unfold FL at h
 split at h
 .rename_i hk;have:=hk.2.2;have a:(maxLen:Int)=9223372036854775807:=rfl;omega
 cases h
theorem qVp{l:List α}{T:List Value}{nn cc:Nat}(h:List.length l=nn)(a:nn+T.length=cc):(qC f l T).size=cc:=by simp[qC];omega
end
end Go.Dc
namespace Go.Dc
theorem IJ{α:Type}{l:List α}{n:Nat}(h:List.length l=n)(i:Nat)(a:α):List.length (List.set l i a)=n:=by rw[dQ];exact h
end Go.Dc
end
namespace Go.Dc
section
def nO{α σ β:Type}(f:Option α->σ->Option (σ⊕β)):List α->σ->Option β
 |[],s=>(f none s).bind fun
  | .inl _=>none
  | .inr b=>some b
 |e::l,s=>(f (some e) s).bind fun
  | .inl s'=>nO f l s'
  | .inr b=>some b
def NL{α:Type}(x:α):List α->List (List α)
 |[]=>[[x]]
 |y::l=>(x::y::l)::(NL x l).map (y:: ·)
def AV{α:Type}:List α->List (List α)
 |[]=>[[]]
 |x::l=>(AV l).flatMap (NL x)
theorem SX{α:Type}{x:α}:∀{l k:List α},k∈NL x l↔∃a b,l=a++b/\k=a++x::b
 |[],k=>by
  simp only[NL,jL]
  constructor
  .rintro rfl;exact⟨[],[],rfl,rfl⟩
  rintro⟨a,b,h,rfl⟩
  simp only[List.nil_eq,List.append_eq_nil_iff] at h
  obtain⟨rfl,rfl⟩:=h;rfl
 |y::l,k=>by
  simp only[NL,jJ,gL]
  constructor
  .rintro(rfl|⟨k',c,rfl⟩)
   .exact⟨[],y::l,rfl,rfl⟩
   obtain⟨a,b,rfl,rfl⟩:=SX.1 c
   exact⟨y::a,b,rfl,rfl⟩
  rintro⟨a,b,h,rfl⟩
  cases a with
  |nil=>left;simp only[jP] at h;rw[<-h];rfl
  |cons z a=>
   simp only[jT,gK] at h
   obtain⟨rfl,rfl⟩:=h
   right
   exact⟨a++x::b,SX.2 ⟨a,b,rfl,rfl⟩,rfl⟩
theorem YR{α:Type}:∀{l k:List α},k.Perm l->k∈AV l
 |[],k,h=>by rw[List.perm_nil] at h;subst h;simp[AV]
 |x::l,k,h=>by
  have c:x∈k:=h.mem_iff.2 (jF ..)
  obtain⟨a,b,rfl⟩:=List.append_of_mem c
  have h':(a++b).Perm l:=(gZ.symm.trans h).cons_inv
  simp only[AV,fP]
  exact⟨a++b,YR h',SX.2 ⟨a,b,rfl,rfl⟩⟩
theorem qGs{α:Type}:∀{l k:List α},k∈AV l->k.Perm l
 |[],k,h=>by simp[AV] at h;subst h;exact .refl _
 |x::l,k,h=>by
  simp only[AV,fP] at h
  obtain⟨k',c,d⟩:=h
  obtain⟨a,b,rfl,rfl⟩:=SX.1 d
  exact gZ.trans ((qGs c).cons x)
class Triv(σ:Type) where
 one:Bool
 eq:one=true->∀a b:σ,a=b
instance trivNo{σ:Type}:Triv σ:=⟨false,fun h=>by cases h⟩
instance trivU:Triv Unit:=⟨true,fun _ _ _=>rfl⟩
def qBr{α σ β:Type}[DecidableEq β][Triv σ](f:Option α->σ->Option (σ⊕β))(l:List α)(s:σ)(b:β):Bool:=
 Triv.one σ&&l.all fun x=>match f (some x) s with
  |some (.inl _)=>true
  |some (.inr c)=>decide (c=b)
  |none=>false
theorem XG{α σ β:Type}{f:Option α->σ->Option (σ⊕β)}{s:σ}{b:β}(o:∀a c:σ,a=c):∀k:List α,(∀x∈k,(∃s',f (some x) s=some (.inl s'))\/f (some x) s=some (.inr b))->
  (nO f k s=some b/\∃x∈k,f (some x) s=some (.inr b))\/nO f k s=nO f [] s/\∀x∈k,f (some x) s≠some (.inr b)
 |[],_=> .inr ⟨rfl,by simp⟩
 |x::k,h=>by
  rcases h x (jF ..) with ⟨s',g⟩|g
  .have e:nO f (x::k) s=nO f k s:=by rw[nO,g,o s' s];rfl
   rcases XG o k fun y d=>h y (jH _ d) with ⟨l,y,d,n⟩|⟨l,n⟩
   .exact .inl ⟨e.trans l,y,jH _ d,n⟩
   refine .inr ⟨e.trans l,fun y d=> ?_⟩
   rcases jJ.1 d with rfl|d
   .rw[g];simp
   exact n y d
  exact .inl ⟨by rw[nO,g];rfl,x,jF ..,g⟩
theorem zBq{α σ β:Type}[DecidableEq β][Triv σ]{f:Option α->σ->Option (σ⊕β)}{l:List α}{s:σ}{b:β}(n:nO f l s=some b)(d:qBr f l s b=true)(k:List α)(g:k.Perm l):nO f k s=some b:=by
 unfold qBr at d
 rw[jK] at d
 have good:∀x∈l,(∃s',f (some x) s=some (.inl s'))\/f (some x) s=some (.inr b):=fun x a=>by
  have:=jZ.1 d.2 x a
  split at this
  .rename_i s' h;exact .inl ⟨s',h⟩
  .rename_i c h;rw[h,gH this];exact .inr rfl
  cases this
 have e:=Triv.eq d.1
 rcases XG e k fun x a=>good x (g.mem_iff.1 a) with h|⟨o,p⟩
 .exact h.1
 rcases XG e l good with ⟨_,x,a,r⟩|⟨q,_⟩
 .exact absurd r (p x (g.mem_iff.2 a))
 rw[o,<-q,n]
def CQ{α σ β:Type}[DecidableEq β][Triv σ](f:Option α->σ->Option (σ⊕β))(l:List α)(s:σ):Option β:=
 match nO f l s with
 |none=>none
 |some b=>if(qBr f l s b||(AV l).all fun k=>decide (nO f k s=some b))then some b else none
theorem qWr{α σ β:Type}[DecidableEq β][Triv σ]{f:Option α->σ->Option (σ⊕β)}{l:List α}{s:σ}{b:β}(h:CQ f l s=some b):∀k,k.Perm l->nO f k s=some b:=by
 unfold CQ at h
 split at h
 .cases h
 rename_i b' hb
 split at h
 .rename_i a
  simp only[jO] at h;subst h
  intro k c
  rcases fM _ _▸a with d|a
  .exact zBq hb d k c
  have:=jZ.1 a k (YR c)
  simpa using this
 cases h
theorem qZv{α σ β:Type}[DecidableEq β][Triv σ]{f:Option α->σ->Option (σ⊕β)}{l:List α}{s:σ}{b:β}(h:∀k,k.Perm l->nO f k s=some b):CQ f l s=some b:=by
 unfold CQ
 rw[h l (.refl _)]
 simp only
 rw[if_pos]
 rw[fM]
 exact .inr (jZ.2 fun k a=>by simpa using h k (qGs a))
def LoopE{α σ β:Type}(f:Option α->σ->Option (σ⊕β))(rem:List α)(s:σ)(b:β)(k:Nat):Prop:=(∀l,l.Perm rem->nO f l s=some b)/\rem.length<k
theorem LoopE.start{α σ β:Type}[DecidableEq β][Triv σ]{f:Option α->σ->Option (σ⊕β)}{l:List α}{s:σ}{b:β}(h:CQ f l s=some b):LoopE f l s b (l.length+1):=⟨qWr h,Nat.lt_succ_self _⟩
theorem LoopE.zero{α σ β:Type}{f:Option α->σ->Option (σ⊕β)}{rem:List α}{s:σ}{b:β}{p:Prop}(h:LoopE f rem s b 0):p:=absurd h.2 (kK _)
theorem LoopE.nil{α σ β:Type}{f:Option α->σ->Option (σ⊕β)}{rem:List α}{s:σ}{b:β}{k:Nat}(h:LoopE f rem s b (k+1))(e:rem=[]):
  ∃c,f none s=some c/\(∀s',c= .inl s'->LoopE f rem s' b k)/\(∀b',c= .inr b'->b'=b):=by
 subst e
 have:=h.1 [] (.refl _)
 simp only[nO] at this
 obtain⟨c,d,a⟩:=kM.1 this
 refine⟨c,d,?_,?_⟩
 .rintro s' rfl;simp at a
 rintro b' rfl;simpa using a
theorem LoopE.cons{α σ β:Type}{f:Option α->σ->Option (σ⊕β)}{rem rest:List α}{e:α}{s:σ}{b:β}{k:Nat}(h:LoopE f rem s b (k+1))(n:rem.Perm (e::rest)):
  ∃c,f (some e) s=some c/\(∀s',c= .inl s'->LoopE f rest s' b k)/\(∀b',c= .inr b'->b'=b):=by
 have p:rem.length=rest.length+1:=by simpa using n.length_eq
 have key:∀l,l.Perm rest->nO f (e::l) s=some b:=fun l a=>h.1 _ ((a.cons e).trans n.symm)
 have d:=key rest (.refl _)
 simp only[nO] at d
 obtain⟨c,g,o⟩:=kM.1 d
 refine⟨c,g,?_,?_⟩
 .rintro s' rfl
  refine⟨fun l a=> ?_,by have:=h.2;omega⟩
  have:=key l a
  simp only[nO,g,j0] at this
  exact this
 rintro b' rfl;simpa using o
def xW(r:Nat)(q:Option Nat)(ck:Nat)(seen:Array Nat):Piece:= .blk r (.mapIter q ck seen ck)
def FQ(es:Array MapEntry)(seen:Array Nat):List MapEntry:=es.toList.filter fun e=> !seen.contains e.born
def ItR{κ ν:Type}(ek:κ->Value)(c:Codec ν)(agg:Bool)(m:Mem)(es:Array MapEntry)(seen:Array Nat)(rem:List (κ×ν)):Prop:=∃l',l'.Perm rem/\MapL ek c agg m (FQ es seen) l'
def mX(es:Array MapEntry)(seen:Array Nat)(k v:Value):Prop:=∃(s0:Array Nat) (e:MapEntry),seen=s0.push e.born/\e∈es.toList/\e.key=k/\e.val=v
theorem ItR.mono{κ ν:Type}{ek:κ->Value}{c:Codec ν}{agg:Bool}{m m':Mem}{es:Array MapEntry}{seen:Array Nat}{rem:List (κ×ν)}(h:ItR ek c agg m es seen rem)(a:m.le m'):ItR ek c agg m' es seen rem:=by
 obtain⟨l',b,d⟩:=h;exact⟨l',b,d.mono a⟩
section
variable {P:Program} {n:Fr} {ops:Array Oper} {Q:Exit->Act->World->Prop} {i d:Nat} {L:aZ} {w:World} {m:Mem} {own:List Piece} {N:aZ->World->Prop}
variable {κ ν:Type} {ek:κ->Value} {c:Codec ν} {agg:Bool}
theorem qYg{t kt et:TypeId}{x:Operand}{b:Nat}{es:Array MapEntry}{ck:Nat}{o:Option (List (κ×ν))}(s:cT ops L i=some (some d,.range t x))(k:Nat.blt d n=true)(z:aW L x=some (.map (some b)))
  (y:P.underlying t=some (.map kt et)) (st:St m (mU (some b) es ck::own) w) (v:MapQ ek c agg m (some b) es ck o)
  (h:∀r w',St m (xW r (some b) ck #[]::mU (some b) es ck::own) w'->ItR ek c agg m es #[] (o.getD [])->N ((d,.pointer (some ⟨r,0,none⟩))::L) w'):iB P n ops Q i N L w:=by
 obtain⟨l,l',rfl,a,A,p,B⟩:=v
 have e:(getObj b).run P w= .ok (.map es ck) w:=by
  have f:w.heap[b]? =some (.map es ck):=st.head.1
  simp[getObj,Sem.run,f]
 have g:=st.alloc (w':=w.alloc (.mapIter (some b) ck #[] ck)) (o:= .mapIter (some b) ck #[] ck) ⟨⟨rfl,rfl⟩,rfl,oW⟩ rfl
 have f:∀o,(newObj o).run P w= .ok w.heap.size (w.alloc o):=fun o=>rfl
 refine nH s k (fun q u=> ?_) (h w.heap.size _ g ⟨l',a,by rw[show FQ es #[]=es.toList from List.filter_eq_self.2 (fun _ _=>by simp)];exact p⟩)
 simp[execOp,u,cC z,Instr.range,run_underlying y,e,f]
theorem qNc:∀{es:List MapEntry} {l:List (κ×ν)} {j:Nat} {e:MapEntry},MapL ek c agg m es l->es[j]? =some e->∃k v cs,l[j]? =some (k,v)/\e.key=ek k/\c.rep m v cs/\e.val=sT agg cs/\MapL ek c agg m (es.eraseIdx j) (l.eraseIdx j)
 |e0::es,l,0,e,⟨k,v,l',b,d,⟨cs,f,r⟩,g⟩,a=>by
  simp at a;subst a b
  exact⟨k,v,cs,rfl,d,f,r,by simpa using g⟩
 |e0::es,l,j+1,e,⟨k,v,l',b,d,f,g⟩,a=>by
  subst b
  obtain⟨s,t,cs,h,n,o,p,q⟩:=qNc g (by simpa using a)
  exact⟨s,t,cs,by simpa using h,n,o,p,by simp only[List.eraseIdx_cons_succ];exact⟨k,v,_,rfl,d,f,q⟩⟩
theorem qUq{es:List MapEntry}(a:(es.map (·.born)).Nodup){seen:Array Nat}{j:Nat}{e:MapEntry}(h:(es.filter fun e=> !seen.contains e.born)[j]? =some e):
  (es.filter fun e'=> !(seen.push e.born).contains e'.born)=(es.filter fun e=> !seen.contains e.born).eraseIdx j:=by
 induction es generalizing j with
 |nil=>simp at h
 |cons x es f=>
  simp only[kF,fE] at a
  simp only[fQ] at h ⊢
  have b:∀y:MapEntry,(seen.push e.born).contains y.born=(seen.contains y.born||(y.born==e.born)):=fun y=>by
   rw[Array.contains_push]
  by_cases hx:seen.contains x.born=true
  .simp only[hx,kY,jA,jG] at h ⊢
   rw[b,hx]
   simp only[Bool.true_or,kY,jA,jG]
   exact f a.2 h
  have hx':seen.contains x.born=false:=by simpa using hx
  simp only[hx',gB,jI] at h ⊢
  rw[b,hx']
  cases j with
  |zero=>
   simp at h
   subst h
   simp only[gX,fF,kY,jA,jG,List.eraseIdx_cons_zero]
   refine List.filter_congr fun y c=> ?_
   rw[b]
   have:¬y.born=x.born:=fun e=>a.1 (by rw[<-e];exact gV c)
   simp[this]
  |succ j=>
   have h':(es.filter fun e=> !seen.contains e.born)[j]? =some e:=by simpa using h
   have c:e∈es:=(gQ.1 (dJ h')).1
   have d:¬x.born=e.born:=fun g=>a.1 (by rw[g];exact gV c)
   simp only[gX,kI,d,Bool.not_eq_eq_eq_not,kY,beq_eq_false_iff_ne,uB,dD,jI,List.eraseIdx_cons_succ]
   congr 1
   exact f a.2 h'
theorem qKs(es:Array MapEntry)(seen:Array Nat):(leftOf es seen).toList=FQ es seen:=by simp[leftOf,FQ]
theorem St.setIt{r:Nat}{q:Option Nat}{ck:Nat}{seen:Array Nat}{b:World}(seen':Array Nat)(st:St m (xW r q ck seen::own) w)(a:b=w\/b=w.drew):St m (xW r q ck seen'::own) (Go.ChangeMaps.setBlock b r (.mapIter q ck seen' ck)):=by
 have c:=xX st.head.1
 refine St.set (o:= .mapIter q ck seen ck) (o':= .mapIter q ck seen' ck) st ?_ ?_ ?_
 .rcases a with rfl|rfl<;>exact⟨⟨rfl,rfl⟩,rfl,oW⟩
 .have:(w.heap.setIfInBounds r (.mapIter q ck seen' ck))[r]? =some (.mapIter q ck seen' ck):=by simp[c]
  rcases a with rfl|rfl<;>exact this
 intro k _ d
 have:(w.heap.setIfInBounds r (.mapIter q ck seen' ck))[k]? =w.heap[k]? :=by simp[Array.getElem?_setIfInBounds,Ne.symm d]
 rcases a with rfl|rfl<;>exact this
theorem zBo{x:Operand}{r b ck:Nat}{es:Array MapEntry}{seen:Array Nat}{o:Option (List (κ×ν))}{rem:List (κ×ν)}(V:cT ops L i=some (some d,.next x false))(U:Nat.blt d n=true)(H:aW L x=some (.pointer (some ⟨r,0,none⟩)))
  (st:St m (xW r (some b) ck seen::mU (some b) es ck::own) w) (l:MapQ ek c agg m (some b) es ck o) (Y:ItR ek c agg m es seen rem)
  (R:rem=[]->∀w',St m (xW r (some b) ck seen::mU (some b) es ck::own) w'->N ((d,.tuple #[.bool false])::L) w')
  (S:∀(e:κ×ν) (rest:List (κ×ν)) (seen':Array Nat) (cs:List Value) (w':World),rem.Perm (e::rest)->c.rep m e.2 cs->St m (xW r (some b) ck seen'::mU (some b) es ck::own) w'->ItR ek c agg m es seen' rest->mX es seen' (ek e.1) (sT agg cs)->
   N ((d,.tuple #[.bool true,ek e.1,sT agg cs])::L) w'):iB P n ops Q i N L w:=by
 obtain⟨_,_,_,_,_,_,A,B⟩:=l
 obtain⟨l',f,s⟩:=Y
 have D:w.heap[r]? =some (.mapIter (some b) ck seen ck):=st.head.1
 have F:w.heap[b]? =some (.map es ck):=st.tail.head.1
 refine ID (v:=undef) (w':=w) V U (fun q l=> ?_)
 rcases run_next_at (P:=P) w q.type r b ck ck seen es ck D F A (jN _) with ⟨Z,a⟩|⟨e,p,w1,G,a⟩
 .have g:FQ es seen=[]:=by rw[<-qKs];exact kO (by simpa using Z)
  rw[g] at s
  have hl':l'=[]:=s
  subst hl'
  refine⟨_,w,?_,R (List.nil_perm.1 f) w st⟩
  simp[execOp,l,cC H,a]
 rw[qKs] at p
 obtain⟨j,E⟩:=dB.1 p
 obtain⟨k,v,cs,u,y,K,z,M⟩:=qNc s E
 have a0:=(List.getElem?_eq_some_iff.1 u).1
 have g:l'.Perm ((k,v)::l'.eraseIdx j):=by
  have h:l'[j]=(k,v):=(List.getElem?_eq_some_iff.1 u).2
  have t:l'=l'.take j++(k,v)::l'.drop (j+1):=by rw[<-h,hQ,fD]
  rw[List.eraseIdx_eq_take_drop_succ]
  exact(List.Perm.of_eq t).trans gZ
 have t:e∈es.toList:=(gQ.1 p).1
 have h:FQ es (seen.push e.born)=(FQ es seen).eraseIdx j:=qUq B E
 refine⟨_,_,?_,S (k,v) (l'.eraseIdx j) (seen.push e.born) cs _ (f.symm.trans g) K (St.setIt _ st G) ⟨_,.refl _,by rw[h];exact M⟩ ⟨seen,e,rfl,t,y,z⟩⟩
 simp[execOp,l,cC H,a,y,z]
theorem qYd{x:Operand}{r b ck:Nat}{es:Array MapEntry}{seen:Array Nat}{o:Option (List (κ×ν))}{K V:Value}(v:cT ops L i=some (some d,.entry x))(t:Nat.blt d n=true)(y:aW L x=some (.pointer (some ⟨r,0,none⟩)))
  (st:St m (xW r (some b) ck seen::mU (some b) es ck::own) w) (g:MapQ ek c agg m (some b) es ck o) (u:mX es seen K V)
  (h:N ((d,.tuple #[K,V])::L) w):iB P n ops Q i N L w:=by
 obtain⟨_,_,_,_,_,_,z,l⟩:=g
 obtain⟨a,e,rfl,f,rfl,rfl⟩:=u
 have p:w.heap[r]? =some (.mapIter (some b) ck (a.push e.born) ck):=st.head.1
 have s:w.heap[b]? =some (.map es ck):=st.tail.head.1
 have k:=run_entry_at (P:=P) w r b ck a es ck e p s f l
 refine nH v t (fun q g=> ?_) h
 simp[execOp,g,cC y,k]
end
end
end Go.Dc
section
namespace Go.Dc
def GC(s:BA)(c:Int):Int:=
 match(List.range s.size).find? fun i=>s[i]! ==c.toNat.toUInt8 with
 |some i=>(i:Int)
 |none=> -1
def OV(s:BA)(c:Int):Int:=s.foldl (fun n x=>if x==c.toNat.toUInt8 then n+1 else n) ((0:Nat):Int)
section
variable {ρ:Option Nat} {P:Program} {n:Fr} {ops:Array Oper} {Q:Exit->Act->World->Prop} {i d:Nat} {L:aZ} {w:World} {m:Mem} {own:List Piece} {N:aZ->World->Prop}
theorem XL{f:FuncId}{fn:Func}{e:Array Value->Sem Value}{xs:Array Operand}{ts:Array TypeId}(vs:List Value)(v:Value)(s:cT ops L i=some (some d,.call {callee:= .value (.func f),args:=xs,argTypes:=ts}))(p:Nat.blt d n=true)
  (u : xs.map (pY L) = vs.toArray) (r : P.funcs[f]? = some fn) (b : (fn.name == "runtime.NumGoroutine", fn.body.isNone, (Extern.findNext fn).isNone) = (false, true, true)) (o : Extern.find fn = some e)
  (a:(e vs.toArray).run P w= .ok v w) (h:N ((d,v)::L) w):iB P n ops Q i N L w:=by
 simp only[Prod.mk.injEq] at b
 obtain⟨g,k,l⟩:=b
 have g1' : ¬ fn.name = "runtime.NumGoroutine" := by simpa using g
 have g2':fn.body=none:=by simpa using k
 have g3':Extern.findNext fn=none:=by simpa using l
 refine nH s p (fun q t=> ?_) h
 have c:pY L (.func f)= .func (.func f) #[] #[]:=rfl
 simp[execOp,t,resolve,c,u,Deferred.ofValue,invoke,callFunc,r,g1',g2',g3',o,a]
theorem qUm{f:FuncId}{fn:Func}{x y:Operand}{ts:Array TypeId}{s:BA}{c:Int}(l:cT ops L i=some (some d,.call {callee:= .value (.func f),args:= #[x,y],argTypes:=ts}))(g:Nat.blt d n=true)
  (o : aW L x = some (.string s)) (p : aW L y = some (.int .u8 c)) (k : P.funcs[f]? = some fn) (a : (fn.name == "runtime.NumGoroutine", fn.body.isNone, (Extern.findNext fn).isNone) = (false, true, true)) (b : Extern.find fn = some Extern.BytealgIndexByte.indexByte)
  (h:N ((d,.int .i64 (GC s c))::L) w):iB P n ops Q i N L w:=by
 refine XL [.string s,.int .u8 c] _ l g (by simp[cC o,cC p]) k a b ?_ h
 have e:Extern.BytealgIndexByte.indexByte #[.string s,.int .u8 c]=(match(List.range s.size).find? fun i=>s[i]! ==c.toNat.toUInt8 with
  |some i=>pure (goInt i)
  |none=>pure (goInt (-1))):=rfl
 show(Extern.BytealgIndexByte.indexByte #[.string s,.int .u8 c]).run P w=_
 rw[e]
 unfold GC
 split<;>rfl
theorem qUh{f:FuncId}{fn:Func}{x y:Operand}{ts:Array TypeId}{s:BA}{c:Int}(l:cT ops L i=some (some d,.call {callee:= .value (.func f),args:= #[x,y],argTypes:=ts}))(g:Nat.blt d n=true)
  (o : aW L x = some (.string s)) (p : aW L y = some (.int .u8 c)) (k : P.funcs[f]? = some fn) (a : (fn.name == "runtime.NumGoroutine", fn.body.isNone, (Extern.findNext fn).isNone) = (false, true, true)) (b : Extern.find fn = some Extern.BytealgCount.count)
  (h:N ((d,.int .i64 (OV s c))::L) w):iB P n ops Q i N L w:=by
 refine XL [.string s,.int .u8 c] _ l g (by simp[cC o,cC p]) k a b ?_ h
 have e:Extern.BytealgCount.count #[.string s,.int .u8 c]=pure (goInt (s.foldl (fun n x=>if x==c.toNat.toUInt8 then n+1 else n) (0:Nat))):=rfl
 show(Extern.BytealgCount.count #[.string s,.int .u8 c]).run P w=_
 rw[e]
 unfold OV goInt
 simp only[Sem.run_pure]
def zFy(Q:Exit->Act->World->Prop):Exit->Act->World->Prop
 | .goto _,_,_=>False
 | .normal,a,w=>Q .normal a w
 | .exit id,a,w=>Q (.exit id) a w
 | .ret,a,w=>Q .ret a w
 | .panic c,a,w=>Q (.panic c) a w
 | .outgrown,a,w=>Q .outgrown a w
end
end Go.Dc
namespace Go.Dc
def qAr(P:Program)(t:TypeId):Value->Value->Option Bool
 | .int k a,.int k' b=>match P.underlying t with
  |some (.int _)=>bif decide (k=k') then some (a==b) else none
  |_=>none
 | .bool a,.bool b=>match P.underlying t with
  |some .bool=>some (a==b)
  |_=>none
 | .string a,.string b=>match P.underlying t with
  |some .string=>some (a.toList==b.toList)
  |_=>none
 |_,_=>none
def FW(P:Program)(xs ys:Array Value):List Field->Option Bool
 |[]=>some true
 |f::fs=>match xs[f.offset]?,ys[f.offset]? with
  | some a, some b => bif f.name == "_" || !P.plainKey f.type then none else (qAr P f.type a b).bind fun r => (FW P xs ys fs).map fun s => r && s
  |_,_=>none
section
variable {P:Program} {n:Fr} {ops:Array Oper} {Q:Exit->Act->World->Prop} {i d:Nat} {L:aZ} {w:World} {N:aZ->World->Prop}
theorem qWy{t:TypeId}{a b:Value}{r:Bool}(dp:Nat)(h:qAr P t a b=some r):(Op.equalIn (dp+1) t a b).run P w= .ok r w:=by
 unfold qAr at h
 split at h
 .split at h
  .rename_i hu
   rename_i k a k' b _ q
   by_cases hk:k=k'
   .subst hk
    simp only[decide_true,cond_true,jO] at h
    subst h
    exact run_equalIn_int w dp t k _ a b hu
   simp[hk] at h
  cases h
 .split at h
  .rename_i hu;cases h;exact run_equalIn_bool w dp t _ _ hu
  cases h
 .split at h
  .rename_i hu;cases h;exact run_equalIn_string w dp t _ _ hu
  cases h
 cases h
theorem qLk{xs ys:Array Value}(dp:Nat):∀{fs:List Field} {r:Bool},FW P xs ys fs=some r->(Op.eqFields (dp+1) xs ys fs).run P w= .ok r w
 |[],r,h=>by simp[FW] at h;subst h;simp[Op.eqFields]
 |f::fs,r,h=>by
  simp only[FW] at h
  split at h
  .rename_i a b ha hb
   cases c : (f.name == "_" || !P.plainKey f.type) with
   |true=>simp[c] at h
   |false=>
    simp only[c,cond_false] at h
    simp only[kV,Bool.not_eq_false'] at c
    obtain⟨s,d,e⟩:=kM.1 h
    obtain⟨u,g,k⟩:=jY.1 e
    have l : f.name ≠ "_" := by simpa using c.1
    have p1:=run_part_plain (P:=P) (w:=w) c.2 ha
    have p2:=run_part_plain (P:=P) (w:=w) c.2 hb
    have p3:=qWy (w:=w) dp d
    have p4:=qLk dp g
    subst k
    simp only[Op.eqFields,l,uB,dD,jI,Sem.run_bind,p1,p2,p3,Result.andThen_ok]
    cases s<;>simp[p4]
  cases h
theorem qEr{t:TypeId}{xs ys:Array Value}{r:Bool}(b:P.underlying t=some (.struct (P.fieldsOf t)))(a:P.stoodInHeld t=false)(h:FW P xs ys (P.fieldsOf t).toList=some r):(Op.equal t (.agg xs) (.agg ys)).run P w= .ok r w:=by
 have e:Op.equal t (.agg xs) (.agg ys)=Op.equalIn (9999+1) t (.agg xs) (.agg ys):=rfl
 rw[e,run_equalIn_struct w 9999 t xs ys b a]
 exact qLk (w:=w) 9998 h
theorem TE{t t2:TypeId}{x y:Operand}{xs ys:Array Value}(r:Bool)(e:cT ops L i=some (some d,.binOp .eql t x y t2))(c:Nat.blt d n=true)(k:aW L x=some (.agg xs))(l:aW L y=some (.agg ys))
  (g:P.underlying t=some (.struct (P.fieldsOf t))) (a:(P.stoodInHeld t,P.eqGuardType P.depth t)=(false,false)) (b:FW P xs ys (P.fieldsOf t).toList=some r) (h:N ((d,.bool r)::L) w):iB P n ops Q i N L w:=by
 simp only[Prod.mk.injEq] at a
 refine nH e c (fun q f=> ?_) h
 simp[execOp,f,cC k,cC l,eqGuard,a.2,binOp,qEr g a.1 b]
theorem YN{t t2:TypeId}{x y:Operand}{xs ys:Array Value}(r:Bool)(e:cT ops L i=some (some d,.binOp .neq t x y t2))(c:Nat.blt d n=true)(k:aW L x=some (.agg xs))(l:aW L y=some (.agg ys))
  (g:P.underlying t=some (.struct (P.fieldsOf t))) (a:(P.stoodInHeld t,P.eqGuardType P.depth t)=(false,false)) (b:FW P xs ys (P.fieldsOf t).toList=some r) (h:N ((d,.bool (!r))::L) w):iB P n ops Q i N L w:=by
 simp only[Prod.mk.injEq] at a
 refine nH e c (fun q f=> ?_) h
 simp[execOp,f,cC k,cC l,eqGuard,a.2,binOp,qEr g a.1 b]
theorem qUl{m:Mem}{own:List Piece}{t e e' sz b k n' cap cap':Nat}{x:Operand}(R:cT ops L i=some (some d,.convert t t x))(H:Nat.blt d n=true)(V:aW L x=some (.slice (some ⟨b,0,none⟩) k cap))
  (F:NK P t=some e) (st:St m (.room (some ⟨b,0,none⟩) n' cap' e' sz::own) w) (h:∀w',St m own w'->N ((d,.slice (some ⟨b,0,none⟩) k cap)::L) w'):iB P n ops Q i N L w:=by
 obtain⟨D,E⟩:=WS F
 obtain⟨_,_,_,_,⟨cur,a,_⟩,_⟩:=st.head
 have Y:=xX a
 have z:=st.head_ne (b:=b) rfl
 have l:=st.tail
 obtain⟨w',hw'⟩:∃w',w'=w.freeze ⟨b,cur.size,none⟩ 1:=⟨_,rfl⟩
 have B:w.shape? b=some (e',cur.size):=by unfold World.shape?;rw[a]
 have G:w'.heap[b]? =some (.cells cur e' (cur.size,cur.size+1)):=by
  rw[hw'];unfold World.freeze
  simp[Array.getElem?_modify,a]
 have ho':∀j,j≠b->w'.heap[j]? =w.heap[j]? :=fun j K=>by
  rw[hw'];unfold World.freeze
  simp[Array.getElem?_modify,Ne.symm K]
 have S:Step w w':=by rw[hw'];unfold World.freeze;exact⟨⟨rfl,rfl⟩,rfl,oW⟩
 have r:(convert t t (.slice (some ⟨b,0,none⟩) k cap)).run P w= .ok (.slice (some ⟨b,0,none⟩) k cap) w':=by
  simp[convert,run_underlying D,run_underlying E,markStringish,B,hw']
 have st':St m own w':=by
  refine⟨⟨fun b' o v U=> ?_,fun b' y s=> ?_,l.1.2.2.trans S⟩,fun p A=>Piece.holds_keep (l.2.1 p A) fun k M=>ho' k (fun e=>z (MU.2 ⟨p,A,e▸M⟩)),l.2.2⟩
  .obtain⟨c,e0,f,g,u⟩:=l.1.1 b' o v U
   by_cases hbb:b'=b
   .subst hbb
    rw[a] at g
    simp only[jO,Obj.cells.injEq] at g
    obtain⟨rfl,_,_⟩:=g
    exact⟨_,_,_,G,u⟩
   exact⟨c,e0,f,by rw[ho' b' hbb];exact g,u⟩
  have g:=l.1.2.1 b' y s
  by_cases hbb:b'=b
  .subst hbb
   have:=st.head.2.2.2.2.2.2
   rw[this] at s;cases s
  rw[ho' b' hbb];exact g
 refine nH R H (fun q g=> ?_) (h w' st')
 simp[execOp,g,cC V,r]
end
end Go.Dc
end
namespace Go.Dc
section
open Go.ChangeShapes Go.WideShapes Go.ChangeAt Go.RowKit
class TabW(w:World):Prop where
 ht:∀p∈qQe,∃t f,w.heap[p.1]? =some (.cells p.2 t f)
instance tabW0(w:World):TabW w:=⟨fun p a=>by cases a⟩
def yE(w:World)[TabW w]:Mem:={cell:=fun b o=>w.cell? ⟨b,o,none⟩,obj:=fun b=>w.heap[b]?,wd:=w,ht:=TabW.ht}
theorem qMm(w:World)[TabW w]:St (yE w) [] w:=by
 refine⟨⟨fun b o v h=> ?_,fun _ _ h=>h,Step.refl w⟩,⟨fun p a=>absurd a (gE),List.nodup_nil⟩⟩
 simp only[yE,World.cell?] at h
 split at h
 .rename_i c e f hb
  exact⟨_,_,_,hb,by simpa using h⟩
 cases h
theorem qXh{w w':World}[TabW w]{m':Mem}{own:List Piece}(a:Mem.le (yE w) m')(st:St m' own w'):
  w'.os=w.os/\w'.output=w.output/\∀(b:Nat) (x:Obj),w.heap[b]? =some x->w'.heap[b]? =some x:=by
 have c:=st.1.2.2
 have e:m'.wd=w:=a.2.2.symm
 rw[e] at c
 exact⟨c.1.1,c.1.2,fun b x d=>st.1.2.1 b x (a.2.1 b x d)⟩
theorem zDu{w w':World}(a:w'.os=w.os)(c:w'.output=w.output)(d:∀(b:Nat) (x:Obj),w.heap[b]? =some x->w'.heap[b]? =some x)(may:MemPlace->Prop):w.keptBut w' may:=by
 refine⟨a,c,fun i hi=> ?_⟩
 obtain⟨x,hx⟩:∃x,w.heap[i]? =some x:=⟨w.heap[i],by simp[hi]⟩
 rw[d i x hx,hx]
 cases x<;>simp
theorem zEe{w w':World}(c:∀(b:Nat) (x:Obj),w.heap[b]? =some x->w'.heap[b]? =some x){p:MemPlace}(d:p.block<w.heap.size):w.sameAt w' p:=by
 obtain⟨x,a⟩:∃x,w.heap[p.block]? =some x:=⟨w.heap[p.block],by simp[d]⟩
 cases p with
 |cell b off=>simp only[World.sameAt,World.cell?,MemPlace.block] at a ⊢;rw[c b x a,a]
 |map b=>simp only[World.sameAt,MemPlace.block] at a ⊢;rw[c b x a,a]
section
variable {H:Type} {enc:TypeId×Value->H} {P:Program}
theorem qEi{w w':World}{sp:Nat->Bool}{T:TypeId->Prop}(K:Kids P T)(l:∀{t e:TypeId},T t->P.underlying t=some (.slice e)->0<P.cellsOf e)
  (c:∀(b:Nat) (x:Obj),w.heap[b]? =some x->w'.heap[b]? =some x):∀{ts:List TypeId} {vs:List Value} {ds:List (DataW H)} {ps:List MemPlace},(∀t∈ts,T t)->
  DataW.TrodAll enc P w 0 (fun _=>true) true ts vs ds ps->(∀p∈ps,p.block<w.heap.size)->(∀p∈ps,sp p.block=true)->DataW.TrodAll enc P w' 0 sp true ts vs ds ps
 |[],[],[],_,_,h,_,_=>h
 |t::ts,v::vs,d::ds,ps,k,h,f,g=>by
  obtain⟨p,q,⟨fuel,n⟩,o,rfl⟩:=h
  exact⟨p,q,⟨fuel,DataW.trod_stays K l (fun e=>by cases e) (k t (jF ..)) n (fun x a=>zEe c (f x (kE _ a))) (fun x a=>g x (kE _ a))⟩,
   qEi K l c (fun u r=>k u (jH _ r)) o (fun x a=>f x (kW _ a)) (fun x a=>g x (kW _ a)),rfl⟩
 |[],_::_,_,_,_,h,_,_=>by simp[DataW.TrodAll] at h
 |[],[],_::_,_,_,h,_,_=>by simp[DataW.TrodAll] at h
 |_::_,[],_,_,_,h,_,_=>by simp[DataW.TrodAll] at h
 |_::_,_::_,[],_,_,h,_,_=>by simp[DataW.TrodAll] at h
theorem zAt{f:Func}{s:ChangeSpec}{apart fresh a:Bool}{W W':World}{args:Array Value}{ds gs:List (DataW H)}{before:List MemPlace}{tb:TypeId}{T:TypeId->Prop}[TabW W](K:Kids P T)
  (E:∀{t e:TypeId},T t->P.underlying t=some (.slice e)->0<P.cellsOf e) (u:∀t∈f.params.toList,T t)
  (D:f.resultTypes= #[tb]) (o:P.underlying tb=some .bool) (v:s.vars=[]) (b:s.fn H (ds++gs)={results:=[.lit (.bool true)],args:=ds})
  (l:DataW.Whole enc P f.params.toList s.vars apart W args.toList ds gs before) {m':Mem} {own:List Piece} (n:Mem.le (yE W) m') (st:St m' own W'):
  s.post enc P f apart fresh a false W args (.bool true) W':=by
 obtain⟨y,z,k⟩:=qXh n st
 have hW':=l
 obtain⟨p,q,A,h,rfl,F,G⟩:=l
 have d:∀x∈p++q,x.block<W.heap.size:=fun x c=>hW'.lt x c
 rw[v] at h
 have B:q=[]:=by
  cases gs with
  |nil=>exact h
  |cons g r=>simp[DataW.TrodVars] at h
 subst B
 refine⟨ds,gs,_,[],p,[],hW',?_,?_,?_,zDu y z k _,fun e=>by cases e⟩
 .rw[b,D]
  exact⟨[],[],⟨1,by simp[DataW.trod,Value.cells,o]⟩,rfl,rfl⟩
 .rw[b]
  exact qEi K E k u A (fun x c=>d x (kE _ c)) (fun x c=>by simpa using d x (kE _ c))
 rw[b,v];rfl
def VF{α:Type}(P:Program)(W:World)[TabW W](t:TypeId)(c:Codec α)(good:α->Prop):Prop:=
 P.cellsOf t=c.sz/\∀(H:Type) (enc:TypeId×Value->H) (n:Nat) (cs:List Value) (x:DataW H×List MemPlace),DataW.trod enc P W 0 (fun _=>true) true n t cs=some x->
  (x.1.weights P t).all (· <=reachBytes)=true->∃a,c.rep (yE W) a cs/\good a
variable {W:World} [TabW W]
theorem qZk{t:TypeId}{k:IntKind}(b:P.underlying t=some (.int k))(a:P.cellsOf t=1):VF P W t (aI k) (fun x=>(Lit.int k x).wf=true):=by
 refine⟨a,fun H enc n cs x h _=> ?_⟩
 obtain⟨i,rfl,_,c⟩:=DataW.trod_int b h
 exact⟨i,rfl,c⟩
theorem qDp{H:Type}{e:TypeId}:∀{ds:List (DataW H)},(DataW.weightsAll P e ds).all (· <=reachBytes)=true->∀d∈ds,(d.weights P e).all (· <=reachBytes)=true
 |[],_,_,b=>by cases b
 |d::r,h,x,a=>by
  simp only[DataW.weightsAll,List.all_append,jK] at h
  rcases jJ.1 a with rfl|a
  .exact h.1
  exact qDp h.2 x a
theorem zEb{a:Addr}{cs:List Value}{k n:Nat}(h:W.cells? 0 (a.add k) n=some cs)(c:a.spot=none):MRow (yE W) a.block (a.off+k) cs:=by
 obtain⟨_,f,d⟩:=World.cells?_some h
 intro j v b
 have e:j<n:=by rw[<-f];exact(List.getElem?_eq_some_iff.1 b).1
 have:=d j e
 rw[b,Go.Addr.add_add,HV c] at this
 simpa[yE,gS] using this
theorem qOg{α:Type}{Q:Nat->α->List Value->Prop}:∀{n:Nat},(∀i,i<n->∃y cs,Q i y cs)->∃l:List α,l.length=n/\∀i x,l[i]? =some x->∃cs,Q i x cs
 |0,_=>⟨[],rfl,fun i x h=>by simp at h⟩
 |n+1,h=>by
  obtain⟨l,b,c⟩:=qOg (n:=n) (fun i hi=>h i aa)
  obtain⟨y,cs,d⟩:=h n aa
  refine⟨l++[y],by simp[b],fun i x a=> ?_⟩
  rw[List.getElem?_append] at a
  split at a
  .exact c i x a
  rename_i hi
  have:i=n:=by
   have:=(List.getElem?_eq_some_iff.1 a).1
   simp at this;omega
  subst this
  simp[b] at a
  subst a
  exact⟨cs,d⟩
theorem qVu{α:Type}{c:Codec α}{good:α->Prop}{t e:TypeId}{by_:Nat}(D:P.underlying t=some (.slice e))(K:P.cellsOf t=1)(G:P.bytesOf e=by_)(p:VF P W e c good):
  VF P W t (DN c) (fun l=>l.length*by_<=reachBytes/\∀x∈l,good x):=by
 refine⟨K,fun H enc n cs x h E=> ?_⟩
 rcases DataW.trod_slice D h with ⟨rfl,rfl⟩|⟨a,len,cap,elems,rest,n',rfl,rfl,rfl,_,M,R,s,v,_,_⟩
 .exact⟨[],⟨none,0,rfl,RepS.nil _ _⟩,by simp,by simp⟩
 simp only[DataW.weights,D,List.all_cons,List.all_append,jK,j7] at E
 obtain⟨k,F,_⟩:=E
 have key:∀i,i<len->∃y cs',W.cells? 0 (a.add (i*P.cellsOf e)) (P.cellsOf e)=some cs'/\c.rep (yE W) y cs'/\good y:=by
  intro i hi
  have b:=v i hi
  obtain⟨el,hel'⟩:∃el,elems[i]? =some el:=⟨elems[i]' aa,by simp⟩
  rw[hel'] at b
  obtain⟨cs',f,r⟩:=kM.1 b
  obtain⟨y,g,d⟩:=p.2 H enc n' cs' el r (qDp F el.1 (gV (dJ hel')))
  exact⟨y,cs',f,g,d⟩
 obtain⟨l,z,g⟩:=qOg key
 subst z
 refine⟨l,⟨some a,cap,rfl,M,R,?_,fun i x q=> ?_⟩,⟨?_,fun x q=> ?_⟩⟩
 .cases l with
  |nil=>exact .inr rfl
  |cons y l=>
   obtain⟨cs',f,_⟩:=g 0 y rfl
   obtain⟨_,A,b⟩:=World.cells?_some f
   have u:=p.1▸c.pos
   have d:=b 0 u
   have o:0<cs'.length:=by omega
   rw[List.getElem?_eq_getElem o] at d
   simp only[Nat.zero_mul,Addr.add,jI] at d
   exact .inl (World.cell?_spot d)
 .obtain⟨cs',f,r,_⟩:=g i x q
  have B:a.spot=none:=by
   cases l with
   |nil=>simp at q
   |cons y l=>
    obtain⟨cs',f,_⟩:=g 0 y rfl
    obtain⟨_,A,b⟩:=World.cells?_some f
    have u:=p.1▸c.pos
    have d:=b 0 u
    have o:0<cs'.length:=by omega
    rw[List.getElem?_eq_getElem o] at d
    simp only[Nat.zero_mul,Addr.add,jI] at d
    exact World.cell?_spot d
  exact⟨cs',r,p.1▸zEb f B⟩
 .rw[G] at k
  simp only[gA] at k
  rw[s] at k
  exact gJ (kQ _ (Nat.le_add_right _ _)) k
 obtain⟨i,hi⟩:=dB.1 q
 obtain⟨cs',_,_,b⟩:=g i x hi
 exact b
variable {base:Nat} {t:TypeId} {v:Value} {d:DataW H} {ps:List MemPlace}
theorem qZo{α:Type}{c:Codec α}{good:List α->Prop}{e:TypeId}(p:P.underlying t=some (.slice e))(k:VF P W t (DN c) good)(b:Value.okWide P W .any base t v)(h:DataW.Trod enc P W 0 (fun _=>true) true t v d ps)
  (q:(d.weights P t).all (· <=reachBytes)=true):∃(l:List α) (a:Option Addr) (cap:Nat),v= .slice a l.length cap/\RepS c (yE W) a cap l/\good l:=by
 obtain⟨a,len,cap,rfl⟩:=okWide_slice p b
 obtain⟨n,h⟩:=h
 obtain⟨l,⟨a',cap',f,o⟩,g⟩:=k.2 H enc n _ _ h q
 simp only[Value.cells,gK,Value.slice.injEq,and_true] at f
 obtain⟨rfl,rfl,rfl⟩:=f
 exact⟨l,_,_,rfl,o,g⟩
end
def qMk(P:Program):Bool:=(List.range P.types.size).all fun t=>match P.underlying t with
 |some (.slice e)=>Nat.blt 0 (P.cellsOf e)
 |_=>true
theorem qXw{P:Program}(h:qMk P=true){t e:TypeId}(b:t<P.types.size)(a:P.underlying t=some (.slice e)):0<P.cellsOf e:=by
 have:=jZ.1 h t (hJ.2 b)
 rw[a] at this
 simp only at this
 exact gP this
end
section
theorem bB{x:Int}(a: -9223372036854775808<=x)(b:x<=9223372036854775807):IntKind.wrap .i64 x=x:=by simp[IntKind.wrap,IntKind.signed,IntKind.bits];omega
theorem FS{x:Int}(a:0<=x)(b:x<=18446744073709551615):IntKind.wrap .u64 x=x:=by simp[IntKind.wrap,IntKind.signed,IntKind.bits];omega
theorem wu8{x:Int}(a:0<=x)(b:x<=255):IntKind.wrap .u8 x=x:=by simp[IntKind.wrap,IntKind.signed,IntKind.bits];omega
theorem zAx(x:Int):IntKind.wrap .u8 x=x%256:=by simp[IntKind.wrap,IntKind.signed,IntKind.bits]
theorem ZO{α:Type}{l:List α}{i:Int}(a:0<=i)(h:i.toNat<l.length):aO l i=some l[i.toNat]:=by simp[aO,a,h]
theorem cQ{α:Type}{l:List α}{i:Nat}(h:i<l.length):aO l (i:Int)=some l[i]:=by simp[aO,h]
theorem ZQ{s:BA}{i:Nat}(h:i<s.size):lI s (i:Int)=some s[i]:=by simp[lI,h]
theorem mC{α:Type}{b:Nat}{l k:List α}(h:(l.length+k.length)*b<=140737488355328)(a:0<b):iU b l k=some (l++k):=by
 have:l.length+k.length<=maxLen:=by
  have:(l.length+k.length)*1<=(l.length+k.length)*b:=Nat.mul_le_mul_left _ a
  simp only[maxLen];omega
 simp[iU,h,this]
theorem MZ{α:Type}{l:List α}{lo hi:Int}(a:0<=lo)(b:lo<=hi)(c:hi<=l.length):wK l lo hi=some ((l.take hi.toNat).drop lo.toNat):=by simp[wK,a,b,c]
theorem MT{l:BA}{lo hi:Int}(a:0<=lo)(b:lo<=hi)(c:hi<=l.size):sP l lo hi=some (l.extract lo.toNat hi.toNat):=by simp[qLj,a,b,c]
theorem ZA{σ β:Type}{f:σ->Option (σ⊕β)}(I:σ->Prop)(μ:σ->Nat)(R:β->Prop)
  (h:∀s,I s->(∃b,f s=some (.inr b)/\R b)\/∃s',f s=some (.inl s')/\I s'/\μ s'<μ s):∀(N:Nat) (s:σ),I s->μ s<N->∃b,aB f N s=some b/\R b
 |0,_,_,d=>absurd d (kK _)
 |N+1,s,k,d=>by
  rcases h s k with ⟨b,a,c⟩|⟨s',a,c,l⟩
  .exact⟨b,by simp[aB,a],c⟩
  obtain⟨b,e,g⟩:=ZA I μ R h N s' c aa
  exact⟨b,by simp[aB,a,e],g⟩
end
end Go.Dc
section
namespace Go.Dc
def ab(a:Option Addr):Nat:=match a with|some p=>p.block|none=>0
def bO(a:Option Addr)(cs:Array Value)(e:TypeId):Piece:=match a with
 |none=> .room none 0 0 0 0
 |some p=> .blk p.block (.cells cs e (0,0))
def aN{α:Type}(f:α->List Value)(l:List α)(T:List Value):Array Value:=(l.flatMap f++T).toArray
def OAS(a:Option Addr)(n cap k:Nat)(T:List Value):Prop:=
 n<=cap/\cap<=maxLen/\match a with
  |none=>cap=0
  |some p=>p=⟨p.block,0,none⟩/\n*k+T.length=cap*k
theorem OAS.cast{α:Type}{a:Option Addr}{nn cap k:Nat}{T:List Value}{l:List α}(h:OAS a nn cap k T)(b:List.length l=nn):OAS a (List.length l) cap k T:=by rw[b];exact h
theorem OAS.nil(k:Nat):OAS none 0 0 k []:=⟨jN _,jW _,rfl⟩
theorem lP{α:Type}{f:α->List Value}{k:Nat}(a:∀x,(f x).length=k):∀l:List α,(l.flatMap f).length=l.length*k
 |[]=>by simp
 |x::l=>by simp[kL,a,lP a l,kX,dV]
theorem AI{α:Type}{f:α->List Value}{k:Nat}(a:∀x,(f x).length=k):∀(l:List α) (i:Nat) (z:α) (j:Nat),l[i]? =some z->j<k->(l.flatMap f)[i*k+j]? =(f z)[j]?
 |[],i,z,j,h,_=>by simp at h
 |x::l,0,z,j,h,b=>by
  simp at h;subst h
  simp[kL,List.getElem?_append,a,b]
 |x::l,i+1,z,j,h,b=>by
  have:=AI a l i z j (by simpa using h) b
  rw[kL,List.getElem?_append_right (by rw[a,kX];omega),a]
  have e:(i+1)*k+j-k=i*k+j:=by rw[kX];omega
  rw[e];exact this
theorem qKl{α:Type}{f:α->List Value}{k:Nat}(a:∀x,(f x).length=k):∀(l:List α) (i:Nat) (z u:α),l[i]? =some z->
  (l.set i u).flatMap f=(l.flatMap f).take (i*k)++f u++(l.flatMap f).drop (i*k+k)
 |[],i,z,u,h=>by simp at h
 |x::l,0,z,u,h=>by
  rw[List.set_cons_zero,kL,kL,Nat.zero_mul,kT,List.take_zero,jP]
  rw[dK,jU (by rw[a];exact jN _),a]
  simp
 |x::l,i+1,z,u,h=>by
  have:=qKl a l i z u (by simpa using h)
  simp only[List.set_cons_succ,kL,this]
  have b:(i+1)*k=(f x).length+i*k:=by rw[kX,a];omega
  have c:(i+1)*k+k=(f x).length+(i*k+k):=by omega
  rw[c,b,List.take_length_add_append,List.drop_length_add_append]
  simp[jE]
section
variable {P:Program} {n:Fr} {ops:Array Oper} {Q:Exit->Act->World->Prop} {i d:Nat} {L:aZ} {w:World} {m:Mem} {own:List Piece} {N:aZ->World->Prop}
variable {α:Type} {f:α->List Value}
theorem OAS.some{a:Option Addr}{nn cap k:Nat}{T:List Value}(h:OAS a nn cap k T){l:List α}(f:List.length l=nn){j:Nat}(e:j<l.length):a=Option.some ⟨ab a,0,none⟩:=by
 obtain⟨c,d,b⟩:=h
 cases a with
 |none=>simp only at b;omega
 |some p=>simp only at b;exact congrArg Option.some b.1
theorem TV{a:Option Addr}{b:Nat}{cs:Array Value}{e:TypeId}(h:a=some ⟨b,0,none⟩):bO a cs e= .blk b (.cells cs e (0,0)):=by subst h;rfl
theorem AM{l:List α}{ix:Int}{z:α}(h:aO l ix=some z):0<=ix/\l[ix.toNat]? =some z/\ix.toNat<l.length:=by
 unfold aO at h
 split at h
 .rename_i h0;exact⟨h0,h,(List.getElem?_eq_some_iff.1 h).1⟩
 cases h
theorem WP{t e:TypeId}{x y:Operand}{a:Option Addr}{nn cc k:Nat}{T:List Value}{l:List α}{kd:IntKind}{ix:Int}{z:α}(v:cT ops L i=some (some d,.indexAddr t x y))(s:Nat.blt d n=true)
  (c:aW L x=some (.slice a nn cc)) (D:aW L y=some (.int kd ix)) (hi:pB P t=some (e,k)) (B:OAS a nn cc k T) (u:List.length l=nn) (E:aO l ix=some z)
  (h:N ((d,.pointer (some ⟨ab a,ix.toNat*k,none⟩))::L) w):iB P n ops Q i N L w:=by
 obtain⟨g,inf,o,p⟩:=yS hi
 obtain⟨f,_,b⟩:=AM E
 have r:=B.some u b
 refine nH v s (fun q A=> ?_) h
 have hlt':ix<(nn:Int):=by omega
 rw[r] at c
 simp[execOp,A,Instr.indexAt,cC c,cC D,asIntOf,run_underlying g,f,hlt',sizeOf,typeInfo,o,p,yZ]
theorem qEt{t e:TypeId}{x:Operand}{a:Option Addr}{nn cc k:Nat}{l:List α}{T:List Value}{ix:Int}{z:α}{o:Nat}{v:Value}(r:∀x,(f x).length=k)(po:Nat)(B:po=ix.toNat*k+o)(K:cT ops L i=some (some d,.load t x))(F:Nat.blt d n=true)
  (U:aW L x=some (.pointer (some ⟨ab a,po,none⟩))) (A:Piece.holds m w (bO a (aN f l T) e)) (R:OAS a nn cc k T) (H:List.length l=nn) (V:aO l ix=some z) (S:tF P t ((f z).drop o)=some v)
  (h:N ((d,v)::L) w):iB P n ops Q i N L w:=by
 obtain⟨Y,hz',y⟩:=AM V
 have D:=R.some H y
 subst B
 refine nH K F (fun q M=> ?_) h
 rw[TV D] at A
 have E:=A.1
 have G:=EN (P:=P) (w:=w) (t:=t) (b:=ab a) (o:=ix.toNat*k+o) (cs:=(f z).drop o) (v:=v) (fun j u p=>by
  rw[List.getElem?_drop] at p
  have s:o+j<k:=by rw[<-r z];exact(List.getElem?_eq_some_iff.1 p).1
  have c:=AI r l ix.toNat z (o+j) hz' s
  rw[p] at c
  have g:=(List.getElem?_eq_some_iff.1 c).1
  simp only[World.cell?,E,aN,List.getElem?_toArray]
  have e:ix.toNat*k+o+j=ix.toNat*k+(o+j):=by omega
  rw[e,List.getElem?_append_left g]
  simpa using c) S
 simp[execOp,M,Instr.loadAt,cC U,Instr.sureAddr,G]
theorem SS{t e:TypeId}{x y:Operand}{a:Option Addr}{nn cc k:Nat}{l:List α}{T:List Value}{ix:Int}{z u:α}{o:Nat}{v:Value}(g:∀x,(f x).length=k)(po:Nat)(D:po=ix.toNat*k+o)(S:cT ops L i=some (none,.store t x y))
  (Y:aW L x=some (.pointer (some ⟨ab a,po,none⟩))) (Z:aW L y=some v) (st:St m (bO a (aN f l T) e::own) w) (U:OAS a nn cc k T) (R:List.length l=nn) (hz:aO l ix=some z) (d:CO P t v o k=true)
  (V:f u=(f z).take o++v.cells.toList++(f z).drop (o+v.cells.toList.length))
  (h:∀w',St m (bO a (aN f (l.set ix.toNat u) T) e::own) w'->N L w'):iB P n ops Q i N L w:=by
 obtain⟨h0,hz',s⟩:=AM hz
 have B:=U.some R s
 subst D
 rw[TV B] at st
 have c:=lP g l
 unfold CO at d
 cases hi:P.info? t with
 |none=>simp[hi] at d
 |some inf=>
  simp only[hi,jK] at d
  obtain⟨⟨G,H⟩,K⟩:=d
  have h1':=fS G
  have h2':=gP H
  have a0:ix.toNat*k+k<=l.length*k:=by
   have:=kQ k (show ix.toNat+1<=l.length from s)
   rw[kX,dL] at this;exact this
  have a1:v.cells.toList.length=v.cells.size:=by simp
  have E:ix.toNat*k+o+v.cells.toList.length<=(aN f l T).size:=by
   simp only[aN,kD,jB,c];omega
  have b:=run_storeCells_at P (ab a) (ix.toNat*k+o) e v.cells.toList 0 (aN f l T) w st.head.1 (by simpa using E) (qHg K)
  simp only[gY] at b
  have A:((aN f l T).toList.take (ix.toNat*k+o)++v.cells.toList++(aN f l T).toList.drop (ix.toNat*k+o+v.cells.toList.length)).toArray=aN f (l.set ix.toNat u) T:=by
   apply congrArg List.toArray
   simp only[aN,dM]
   rw[qKl g l ix.toNat z u hz',V]
   have M:(l.flatMap f).take (ix.toNat*k+o)=(l.flatMap f).take (ix.toNat*k)++(f z).take o:=by
    apply dH
    intro j
    rw[List.getElem?_take,List.getElem?_append]
    simp only[kN,c]
    split
    .rename_i p
     split
     .rename_i hj2;rw[List.getElem?_take,if_pos aa]
     rename_i hj2
     rw[List.getElem?_take,if_pos aa]
     have r:=AI g l ix.toNat z (j-ix.toNat*k) hz' aa
     have F:ix.toNat*k+(j-ix.toNat*k)=j:=by omega
     rw[F] at r
     rw[r];congr 1;omega
    rename_i p
    rw[if_neg aa,List.getElem?_take,if_neg aa]
   have F:(l.flatMap f).drop (ix.toNat*k+o+v.cells.toList.length)=(f z).drop (o+v.cells.toList.length)++(l.flatMap f).drop (ix.toNat*k+k):=by
    apply dH
    intro j
    rw[List.getElem?_drop,List.getElem?_append]
    simp only[gF,g]
    split
    .rename_i p
     rw[List.getElem?_drop]
     have r:=AI g l ix.toNat z (o+v.cells.toList.length+j) hz' aa
     rw[<-r];congr 1;omega
    rename_i p
    rw[List.getElem?_drop];congr 1;omega
   rw[gC (by rw[c];omega),gN (by rw[c];omega),M,F]
   simp only[jE]
  rw[A] at b
  have st':=st.set (w':=w.setRow (ab a) (aN f (l.set ix.toNat u) T)) (o':= .cells (aN f (l.set ix.toNat u) T) e (0,0)) ⟨⟨rfl,rfl⟩,rfl,oW⟩ (setRow_heap w (ab a) (aN f l T) _ e _ st.head.1) (fun j _ p=>setRow_other w (ab a) j _ p)
  rw[<-TV (cs:=aN f (l.set ix.toNat u) T) (e:=e) B] at st'
  refine EP S (fun q r=> ?_) (h (w.setRow (ab a) (aN f (l.set ix.toNat u) T)) st')
  simp[execOp,r,Instr.storeAt,cC Y,cC Z,Instr.sureAddr,storeVar,sizeOf,typeInfo,hi,h1',b]
theorem St.freezeM{c:Codec α}{a:Option Addr}{e nn cc:Nat}{l:List α}{T:List Value}(st:St m (bO a (aN f l T) e::own) w)(G:OAS a nn cc c.sz T)(E:List.length l=nn)(r:∀x,(f x).length=c.sz)(D:∀m x,c.rep m x (f x)):
  ∃m',m.le m'/\St m' (.room a (List.length l) cc e c.sz::own) w/\RepS c m' a cc l:=by
 obtain⟨V,t,g⟩:=G
 cases a with
 |none=>
  simp only at g
  have d:l=[]:=kO aa
  subst d;subst g
  exact⟨m,m.le_refl,st.tail.nilroom e c.sz,RepS.nil c m⟩
 |some p=>
  simp only at g
  obtain⟨y,B⟩:=g
  obtain⟨b,o,s⟩:=p
  simp only[Addr.mk.injEq,true_and] at y
  obtain⟨rfl,rfl⟩:=y
  have n:=lP r l
  have z:(aN f l T).toList.take (l.flatMap f).length=l.flatMap f:=by simp[aN]
  have d:St m (.blk b (.cells (aN f l T) e (0,0))::own) w:=st
  obtain⟨m',K,M,R,S,U,Y⟩:=St.know (b:=b) (cs:=l.flatMap f) d.tail (d.head_ne rfl) d.head.1 z (fun o v A=>by rw[d.head.2.1 o] at A;cases A)
  have h:(aN f l T).size=cc*c.sz:=by simp[aN,n,E,B]
  refine⟨m',K,M.cons ⟨rfl,rfl,by omega,t,⟨_,d.head.1,h⟩,fun o F=>S o (by rw[n];exact F),by rw[U];exact d.head.2.2⟩ ?_,?_⟩
  .intro k u;simp[Piece.block] at u;subst u;exact d.head_ne rfl
  exact RepS.of_cells (cs:=l.flatMap f) aa t (fun j x H=>by
   have u:((l.flatMap f).drop (j*c.sz)).take c.sz=f x:=by
    apply dH
    intro q
    rw[List.getElem?_take]
    split
    .rename_i hq
     rw[List.getElem?_drop,AI r l j x q H hq]
    rename_i hq;rw[List.getElem?_eq_none (by rw[r];omega)]
   rw[u];exact D m' x) R
end
end Go.Dc
namespace Go.Dc
section
variable {P:Program} {n:Fr} {ops:Array Oper} {Q:Exit->Act->World->Prop} {L:aZ} {w:World} {m:Mem} {own:List Piece}
variable {ks:List (Nat×(World->Prop))} {k fuel:Nat} {S:World->Prop} {done:List Nat}
theorem zFd{t t2:TypeId}{x y:Operand}{a b r:BA}(i d:Nat)(o:cT ops L i=some (some d,.binOp .add t x y t2))(l:Nat.blt d n=true)
  (p:nW ops ks k i done=true) (f:(k,S)∈ks) (g:QP Q) (s:aW L x=some (.string a)) (u:aW L y=some (.string b)) (c:bG a b=some r)
  (h:WA P n ops Q ks fuel (done++[i]) ((d,.string r)::L) w):WA P n ops Q ks (fuel+1) done L w:=by
 unfold bG at c
 split at c
 .rename_i hb
  simp only[jO] at c;subst c
  refine zB i d _ _ o l p f g (fun q g w' _=> ?_) h
  have e:IntKind.i64.max=9223372036854775807:=by decide
  have hb':¬(9223372036854775807<(a.size:Int)+(b.size:Int)):=by simp only[maxLen] at hb;omega
  simp[execOp,g,cC s,cC u,eqGuard,binOp,Op.stringOp,e,hb']
 cases c
end
end Go.Dc
namespace Go.Dc
section
variable {P:Program} {n:Fr} {ops:Array Oper} {Q:Exit->Act->World->Prop} {L:aZ} {w:World} {m:Mem} {own:List Piece}
variable {ks:List (Nat×(World->Prop))} {fuel:Nat} {done:List Nat} {α:Type} {f:α->List Value}
theorem sZ(is:List Nat)(f:Region.ready .any ops (marks done ops.size)=is)(e:is≠[])
  (h:∀i∈is,iB P n ops Q i (fun L' w'=>TS ks (marks (done++[i]) ops.size) w'/\WA P n ops Q ks fuel (done++[i]) L' w') L w):WA P n ops Q ks (fuel+1) done L w:=by
 intro _ a l
 refine⟨fun c=>(by rw[f] at c;exact absurd c e),fun j d=> ?_⟩
 rw[f] at d
 refine TX (fun a' w' h'=> ?_) (h j d a l)
 obtain⟨L',g,b,k⟩:=h'
 have:=k b a' g
 rw[HT] at b
 rw[HT] at this
 exact⟨b,this⟩
theorem sY{p:Nat->Prop}{a b:Nat}(c:p a)(d:p b):∀i∈[a,b],p i:=by
 intro i hi;simp only[jJ,gE,hU] at hi
 rcases hi with rfl|rfl<;>assumption
theorem wQ{q:Nat}{S:World->Prop}{t e:TypeId}{x y:Operand}{a:Option Addr}{nn cc k:Nat}{T:List Value}{l:List α}{kd:IntKind}{ix:Int}{z:α}(i d:Nat)(D:cT ops L i=some (some d,.indexAddr t x y))(A:Nat.blt d n=true)
  (g:nW ops ks q i done=true) (b:(q,S)∈ks) (c:QP Q)
  (o:aW L x=some (.slice a nn cc)) (F:aW L y=some (.int kd ix)) (hi:pB P t=some (e,k)) (E:OAS a nn cc k T) (B:List.length l=nn) (G:aO l ix=some z)
  (h:WA P n ops Q ks fuel (done++[i]) ((d,.pointer (some ⟨ab a,ix.toNat*k,none⟩))::L) w):WA P n ops Q ks (fuel+1) done L w:=by
 obtain⟨r,inf,s,u⟩:=yS hi
 obtain⟨p,_,f⟩:=AM G
 have v:=E.some B f
 refine zB i d _ _ D A g b c (fun q c w' _=> ?_) h
 have hlt':ix<(nn:Int):=by omega
 rw[v] at o
 simp[execOp,c,Instr.indexAt,cC o,cC F,asIntOf,run_underlying r,p,hlt',sizeOf,typeInfo,s,u,yZ]
theorem wR{q:Nat}{S:World->Prop}{t e:TypeId}{x:Operand}{a:Option Addr}{nn cc k:Nat}{l:List α}{T:List Value}{ix:Int}{z:α}{o:Nat}{v:Value}(i d:Nat)(y:∀x,(f x).length=k)(po:Nat)(E:po=ix.toNat*k+o)(V:cT ops L i=some (some d,.load t x))(M:Nat.blt d n=true)
  (F:nW ops ks q i done=true) (p:(q,S)∈ks) (r:QP Q) (G:∀w,S w->Piece.holds m w (bO a (aN f l T) e))
  (hx:aW L x=some (.pointer (some ⟨ab a,po,none⟩))) (Y:OAS a nn cc k T) (U:List.length l=nn) (hz:aO l ix=some z) (Z:tF P t ((f z).drop o)=some v)
  (h:WA P n ops Q ks fuel (done++[i]) ((d,v)::L) w):WA P n ops Q ks (fuel+1) done L w:=by
 obtain⟨h0,hz',B⟩:=AM hz
 have H:=Y.some U B
 subst E
 refine zB i d _ _ V M F p r (fun q r w' hw'=> ?_) h
 have D:=G w' hw'
 rw[TV H] at D
 have K:=D.1
 have R:=EN (P:=P) (w:=w') (t:=t) (b:=ab a) (o:=ix.toNat*k+o) (cs:=(f z).drop o) (v:=v) (fun j u s=>by
  rw[List.getElem?_drop] at s
  have A:o+j<k:=by rw[<-y z];exact(List.getElem?_eq_some_iff.1 s).1
  have c:=AI y l ix.toNat z (o+j) hz' A
  rw[s] at c
  have g:=(List.getElem?_eq_some_iff.1 c).1
  simp only[World.cell?,K,aN,List.getElem?_toArray]
  have e:ix.toNat*k+o+j=ix.toNat*k+(o+j):=by omega
  rw[e,List.getElem?_append_left g]
  simpa using c) Z
 simp[execOp,r,Instr.loadAt,cC hx,Instr.sureAddr,R]
end
end Go.Dc
namespace Go.Dc
section
variable {P:Program} {n:Fr} {ops:Array Oper} {Q:Exit->Act->World->Prop} {i d:Nat} {L:aZ} {w:World} {m:Mem} {own:List Piece} {N:aZ->World->Prop}
variable {α:Type} {f:α->List Value}
def JJ(by_:Nat)(k:List α):Option (List α):=if k.length*by_<=140737488355328/\k.length<=maxLen then some k else none
theorem qVl{c:Codec α}(g:∀m x cs,c.rep m x cs->cs=f x){k:List α}{cs:List Value}(b:cs.length=k.length*c.sz)(a:∀i y,k[i]? =some y->c.rep m y ((cs.drop (i*c.sz)).take c.sz)):cs=k.flatMap f:=by
 induction k generalizing cs with
 |nil=>simp at b;subst b;rfl
 |cons x k n=>
  have d:=g _ _ _ (a 0 x rfl)
  simp only[Nat.zero_mul,kC] at d
  have h:=n (cs:=cs.drop c.sz) (by simp only[gF,b,jC,kX];omega) (fun i y l=>by
   have:=a (i+1) y (by simpa using l)
   rw[List.drop_drop]
   have e:c.sz+i*c.sz=(i+1)*c.sz:=by rw[kX];omega
   rw[e];exact this)
  rw[kL,<-d,<-h,fD]
theorem ZK{a:Option Addr}{e sz:Nat}(st:St m (.room a 0 0 e sz::own) w):St m (bO a (aN f [] []) e::own) w:=by
 cases a with
 |none=>exact st.tail.nilroom 0 0
 |some p=>
  obtain⟨l,n,q,r,⟨cur,d,s⟩,g,h⟩:=st.head
  have b:cur=aN f [] []:=by
   have:cur.size=0:=by omega
   rw[Array.size_eq_zero_iff.1 this];rfl
  refine st.tail.cons ⟨by rw[d,b],⟨fun o=>g o aa,h⟩⟩ ?_
  intro k c
  have hk':some p.block=some k:=c
  simp only[jO] at hk';subst hk'
  exact st.head_ne rfl
end
end Go.Dc
namespace Go.Dc
theorem zBf{m m':Mem}{w:World}{a:Option Addr}{cs:Array Value}{e:TypeId}(h:Piece.holds m' w (bO a cs e))(b:m.le m'):Piece.holds m w (bO a cs e):=by
 cases a with
 |none=>exact h
 |some p=>exact Piece.holds_anti (o:= .cells cs e (0,0)) h b
end Go.Dc
namespace Go.Dc
section
variable {P:Program} {n:Fr} {ops:Array Oper} {Q:Exit->Act->World->Prop} {L:aZ} {w:World}
theorem aC{id:Nat}{y:Code}(h:WO P n ops (Exit.then (fun a w=>y.wpIn (lV none) 0 P Q a w) Q) 0 L w):W none P n (.seq (.region id ops false) y) Q L w:=aG (tV h)
theorem qBm{i:Nat}{ρ:Option Nat}{y:Code}(hi:ops.size=i)(h:W ρ P n y Q L w):WO P n ops (Exit.then (fun a w=>y.wpIn (lV ρ) 0 P Q a w) Q) i L w:=qOu hi (bC h)
end
end Go.Dc
end
section
namespace Go.Dc
section
variable {P:Program} {n:Fr} {ops:Array Oper} {Q:Exit->Act->World->Prop} {i d:Nat} {L:aZ} {w:World} {m:Mem} {own:List Piece} {N:aZ->World->Prop}
def nG(a:Option Addr)(cap l k:Nat):Option Addr:=if cap=l then a else a.map fun p=>p.add (l*k)
theorem ZP{b o cap l k:Nat}(h:l<cap):nG (some ⟨b,o,none⟩) cap l k=some ⟨b,o+l*k,none⟩:=by
 unfold nG;rw[if_neg aa];simp[yZ]
theorem qHl{t e k:Nat}{x:Operand}{lo hi:Option Operand}{a:Option Addr}{nn cap:Nat}{li hix:Int}(g:aW L x=some (.slice a nn cap))(v:pB P t=some (e,k))
  (p:(lo=none/\li=0)\/∃y kd,lo=some y/\aW L y=some (.int kd li)) (n:(hi=none/\hix=nn)\/∃y kd,hi=some y/\aW L y=some (.int kd hix)) (h:0<=li) (u:li<=hix) (l:hix<=cap) (q:Oper) (f:q.op= .slice t x lo hi none) (w:World):
  (execOp (pY L) q).run P w= .ok (.value (.slice (nG a cap li.toNat k) (hix.toNat-li.toNat) (cap-li.toNat))) w:=by
 obtain⟨b,inf,c,d⟩:=yS v
 have r:0<=hix:=by omega
 have o:li<=max hix 0:=by omega
 rcases p with ⟨rfl,rfl⟩|⟨y,kd,rfl,s⟩<;>rcases n with ⟨rfl,rfl⟩|⟨y',kd',rfl,hy'⟩
 .simp[execOp,f,Instr.sliceAt,Instr.slice,Instr.sliceBounds,run_underlying b,cC g,sizeOf,typeInfo,c,d,nG]
 .simp[execOp,f,Instr.sliceAt,Instr.slice,Instr.sliceBounds,Instr.sliceBound,asIntOf,run_underlying b,cC g,cC hy',r,l,sizeOf,typeInfo,c,d,nG]
 .have:li<=(nn:Int):=u
  simp[execOp,f,Instr.sliceAt,Instr.slice,Instr.sliceBounds,Instr.sliceBound,asIntOf,run_underlying b,cC g,cC s,h,this,sizeOf,typeInfo,c,d,nG]
 simp[execOp,f,Instr.sliceAt,Instr.slice,Instr.sliceBounds,Instr.sliceBound,asIntOf,run_underlying b,cC g,cC s,cC hy',r,l,h,o,sizeOf,typeInfo,c,d,nG]
theorem qHi{t e k:Nat}{x:Operand}{lo hi:Option Operand}{a:Option Addr}{nn cap:Nat}{li hix:Int}(v:Value)(r:cT ops L i=some (some d,.slice t x lo hi none))(p:Nat.blt d n=true)(z:aW L x=some (.slice a nn cap))(o:pB P t=some (e,k))
  (c:(lo=none/\li=0)\/∃y kd,lo=some y/\aW L y=some (.int kd li)) (b:(hi=none/\hix=nn)\/∃y kd,hi=some y/\aW L y=some (.int kd hix)) (f:0<=li) (g:li<=hix) (l:hix<=cap) (u: .slice (nG a cap li.toNat k) (hix.toNat-li.toNat) (cap-li.toNat)=v)
  (h:N ((d,v)::L) w):iB P n ops Q i N L w:=by
 subst u
 exact nH r p (fun q s=>qHl z o c b f g l q s w) h
theorem qXt{ks:List (Nat×(World->Prop))}{q fuel:Nat}{S:World->Prop}{done:List Nat}{t e k:Nat}{x:Operand}{lo hi:Option Operand}{a:Option Addr}{nn cap:Nat}{li hix:Int}(i d:Nat)(v:Value)(c:cT ops L i=some (some d,.slice t x lo hi none))(z:Nat.blt d n=true)
  (l:nW ops ks q i done=true) (b:(q,S)∈ks) (A:QP Q) (D:aW L x=some (.slice a nn cap)) (u:pB P t=some (e,k))
  (g:(lo=none/\li=0)\/∃y kd,lo=some y/\aW L y=some (.int kd li)) (f:(hi=none/\hix=nn)\/∃y kd,hi=some y/\aW L y=some (.int kd hix)) (p:0<=li) (r:li<=hix) (s:hix<=cap) (B: .slice (nG a cap li.toNat k) (hix.toNat-li.toNat) (cap-li.toNat)=v)
  (h:WA P n ops Q ks fuel (done++[i]) ((d,v)::L) w):WA P n ops Q ks (fuel+1) done L w:=by
 subst B
 exact zB i d _ _ c z l b A (fun o c w' _=>qHl D u g f p r s o c w') h
theorem qHr{b o k nn cap sl:Nat}{C:Array Value}{e:TypeId}{S:List Value}(d:w.heap[b]? =some (.cells C e (0,0)))(c:(C.toList.drop o).take (nn*k)=S)(f:S.length=nn*k):
  (Builtin.firstCells k nn (.slice (some ⟨b,o,none⟩) sl cap)).run P w= .ok S.toArray w:=by
 refine run_firstCells_some w k nn ⟨b,o,none⟩ sl cap S f fun j v a=> ?_
 rw[<-c,List.getElem?_take] at a
 split at a
 .rw[List.getElem?_drop] at a
  rw[yZ]
  simp only[World.cell?,d]
  simpa using a
 cases a
theorem qZt{t u e k:Nat}{x y:Operand}{b o dl dc sl sc:Nat}{a:Option Addr}{C:Array Value}{e0:TypeId}(S C':List Value)(F:cT ops L i=some (some d,.call {callee:= .builtin .copy,args:= #[x,y],argTypes:= #[t,u]}))(D:Nat.blt d n=true)
  (G:aW L x=some (.slice (some ⟨b,o,none⟩) dl dc)) (H:aW L y=some (.slice a sl sc)) (B:pB P t=some (e,k)) (st:St m (.blk b (.cells C e0 (0,0))::own) w)
  (l:(Builtin.firstCells k (Nat.min sl dl) (.slice a sl sc)).run P w= .ok S.toArray w) (f:o+S.length<=C.size) (g:∀v∈S,v.oneCell'=true) (A:C.toList.take o++S++C.toList.drop (o+S.length)=C')
  (h:∀w',St m (.blk b (.cells C'.toArray e0 (0,0))::own) w'->N ((d,.int .i64 ((Nat.min sl dl:Nat):Int))::L) w'):iB P n ops Q i N L w:=by
 subst A
 obtain⟨p,inf,r,s⟩:=yS B
 have c:=run_storeCells_at P b o e0 S 0 C w st.head.1 (by simpa using f) g
 simp only[gY] at c
 have st':=st.set (w':=w.setRow b (C.toList.take o++S++C.toList.drop (o+S.length)).toArray) (o':= .cells (C.toList.take o++S++C.toList.drop (o+S.length)).toArray e0 (0,0)) ⟨⟨rfl,rfl⟩,rfl,oW⟩ (setRow_heap w b C _ e0 _ st.head.1) (fun j _ E=>setRow_other w b j _ E)
 refine ID (v:=undef) (w':=w) F D (fun q z=> ?_)
 refine⟨_,_,?_,h _ st'⟩
 rw[<-s] at l
 simp only[execOp,z,resolve,Sem.run_bind,Sem.run_pure,Result.andThen_ok,invoke,builtin]
 simp[cC G,cC H,Builtin.copy_,run_underlying p,sizeOf,typeInfo,r,Builtin.lenOf,l,c,goInt]
theorem zBn{i:Nat}{op:Op}{L:aZ}{w w':World}{v:Value}(l:cT ops L i=some (none,op))
  (c:∀o:Oper,o.op=op->(execOp (pY L) o).run P w= .ok (.value v) w')
  (h:N L w'):iB P n ops Q i N L w:=by
 obtain⟨o,d,e,f,g,k⟩:=MX l
 intro a b
 unfold rO
 simp only[d,b.wanted g,jI]
 rw[b.exec k,c o f,Oper.uponIn_value,e]
 exact⟨_,b,h⟩
theorem qXc{t e k zs:Nat}{x:Operand}{b o dl dc:Nat}{C:Array Value}{e0:TypeId}{z:Value}(C':List Value)(B:cT ops L i=some (none,.call {callee:= .builtin .clear,args:= #[x],argTypes:= #[t]}))
  (D:aW L x=some (.slice (some ⟨b,o,none⟩) (dl+1) dc)) (A:pB P t=some (e,k)) (l:(P.info? e).bind (·.zero)=some z) (r:z.cells.size=zs) (g:∀v∈z.cells.toList,v.oneCell'=true) (st:St m (.blk b (.cells C e0 (0,0))::own) w)
  (c:o+(dl+1)*zs<=C.size) (y:C.toList.take o++(Builtin.zeroCells z.cells (dl+1)).toList++C.toList.drop (o+(Builtin.zeroCells z.cells (dl+1)).toList.length)=C')
  (h:∀w',St m (.blk b (.cells C'.toArray e0 (0,0))::own) w'->N L w'):iB P n ops Q i N L w:=by
 subst y
 obtain⟨s,inf,p,E⟩:=yS A
 have f:(Builtin.zeroCells z.cells (dl+1)).toList.length=(dl+1)*zs:=by rw[fO,size_zeroCells,r]
 have hone':∀v∈(Builtin.zeroCells z.cells (dl+1)).toList,v.oneCell'=true:=by
  intro v a
  simp only[Builtin.zeroCells,Array.toList_map,gL,Array.toList_range] at a
  obtain⟨j,d,rfl⟩:=a
  have hj':=hJ.1 d
  by_cases h0:z.cells.size=0
  .simp[h0] at hj'
  have:j%z.cells.size<z.cells.size:=Nat.mod_lt _ aa
  rw[getElem!_pos z.cells _ this]
  exact g _ ae
 have a:=run_storeCells_at P b o e0 _ 0 C w st.head.1 (by simpa[f] using c) hone'
 simp only[gY] at a
 have st':=st.set (w':=w.setRow b (C.toList.take o++(Builtin.zeroCells z.cells (dl+1)).toList++C.toList.drop (o+(Builtin.zeroCells z.cells (dl+1)).toList.length)).toArray) (o':= .cells (C.toList.take o++(Builtin.zeroCells z.cells (dl+1)).toList++C.toList.drop (o+(Builtin.zeroCells z.cells (dl+1)).toList.length)).toArray e0 (0,0)) ⟨⟨rfl,rfl⟩,rfl,oW⟩ (setRow_heap w b C _ e0 _ st.head.1) (fun j _ d=>setRow_other w b j _ d)
 rw[p] at l
 simp only[j0] at l
 refine zBn (v:= .tuple #[]) B (fun q u=> ?_) (h _ st')
 simp only[execOp,u,resolve,Sem.run_bind,Sem.run_pure,Result.andThen_ok,invoke,builtin]
 simp[cC D,Builtin.clear_,run_underlying s,zeroValue,typeInfo,p,l,a]
end
end Go.Dc
namespace Go.Dc
end Go.Dc
end
namespace Go.Dc
section
variable {P:Program} {n:Fr} {ops:Array Oper} {Q:Exit->Act->World->Prop} {i d:Nat} {L:aZ} {w:World} {m:Mem} {own:List Piece} {N:aZ->World->Prop}
def qAk(P:Program)(t:TypeId):Option (TypeId×Nat×Nat):=
 match P.underlying t with
 |some (.array k e)=>(P.info? e).map fun i=>(e,k,i.size)
 |_=>none
theorem qUs{t e k sz:Nat}(h:qAk P t=some (e,k,sz)):P.underlying t=some (.array k e)/\∃inf,P.info? e=some inf/\inf.size=sz:=by
 unfold qAk at h
 split at h
 .rename_i k' e' he
  cases hi:P.info? e' with
  |none=>simp[hi] at h
  |some inf=>simp[hi] at h;obtain⟨rfl,rfl,a⟩:=h;exact⟨he,inf,hi,a⟩
 cases h
theorem TC{α:Type}{f:α->List Value}{k b:Nat}{l:List α}{ix:Int}{z:α}(g:MRow m b 0 (l.flatMap f))(a:∀x,(f x).length=k)(h:aO l ix=some z):MRow m b (ix.toNat*k) (f z):=by
 obtain⟨o,hz',n⟩:=AM h
 intro j v d
 have e:j<k:=by rw[<-a z];exact(List.getElem?_eq_some_iff.1 d).1
 have c:=AI a l ix.toNat z j hz' e
 rw[d] at c
 have:=g _ _ c
 rwa[kT] at this
theorem CR{α:Type}{l:List α}{ix:Int}{z:α}(b:aO l ix=some z):0<=ix/\ix<(l.length:Int):=by
 obtain⟨a,_,c⟩:=AM b
 exact⟨a,by omega⟩
variable {ks:List (Nat×(World->Prop))} {fuel:Nat} {done:List Nat}
theorem HO{q:Nat}{S:World->Prop}{t e:TypeId}{x y:Operand}{b o nn k:Nat}{kd:IntKind}{ix:Int}(i d:Nat)(po:Nat)(f:po=o+ix.toNat*k)(z:cT ops L i=some (some d,.indexAddr t x y))(v:Nat.blt d n=true)
  (g:nW ops ks q i done=true) (a:(q,S)∈ks) (c:QP Q)
  (A:aW L x=some (.pointer (some ⟨b,o,none⟩))) (B:aW L y=some (.int kd ix)) (hi:qAk P t=some (e,nn,k)) (l:0<=ix) (p:ix<(nn:Int))
  (h:WA P n ops Q ks fuel (done++[i]) ((d,.pointer (some ⟨b,po,none⟩))::L) w):WA P n ops Q ks (fuel+1) done L w:=by
 obtain⟨r,inf,s,u⟩:=qUs hi
 subst f
 refine zB i d _ _ z v g a c (fun q c w' _=> ?_) h
 simp[execOp,c,Instr.indexAt,Instr.sureAddr,cC A,cC B,asIntOf,run_underlying r,l,p,sizeOf,typeInfo,s,u,Addr.add]
def oU(a b:BA):Int:=
 match(List.range (min a.size b.size)).find? fun i=>a[i]! !=b[i]! with
 |some i=>if a[i]! <b[i]! then-1 else 1
 |none=>if a.size<b.size then-1 else if a.size>b.size then 1 else 0
theorem qXi{f:FuncId}{fn:Func}{x y:Operand}{ts:Array TypeId}{s u:BA}(g:cT ops L i=some (some d,.call {callee:= .value (.func f),args:= #[x,y],argTypes:=ts}))(c:Nat.blt d n=true)
  (k : aW L x = some (.string s)) (l : aW L y = some (.string u)) (e : P.funcs[f]? = some fn) (a : (fn.name == "runtime.NumGoroutine", fn.body.isNone, (Extern.findNext fn).isNone) = (false, true, true)) (b : Extern.find fn = some Extern.BytealgCompare.compare)
  (h:N ((d,.int .i64 (oU s u))::L) w):iB P n ops Q i N L w:=by
 refine XL [.string s,.string u] _ g c (by simp[cC k,cC l]) e a b ?_ h
 rfl
end
section
variable {P:Program} {n:Fr} {ops:Array Oper} {Q:Exit->Act->World->Prop} {i d:Nat} {L:aZ} {w:World} {m:Mem} {own:List Piece} {N:aZ->World->Prop} {α:Type} {f:α->List Value}
def pW(l:List α)(lo hi:Int):Option Unit:=if 0<=lo/\lo<=hi/\hi<=l.length then some () else none
theorem XZ{l:List α}{lo hi:Int}{u:Unit}(h:pW l lo hi=some u):0<=lo/\lo<=hi/\hi<=l.length:=by
 unfold pW at h
 split at h
 .assumption
 cases h
theorem YO{t e k:Nat}{x:Operand}{lo hi:Option Operand}{a:Option Addr}{nn cc:Nat}{T:List Value}{l:List α}{li hix:Int}{u:Unit}(q:cT ops L i=some (some d,.slice t x lo hi none))(p:Nat.blt d n=true)(s:aW L x=some (.slice a nn cc))(o:pB P t=some (e,k))
  (c:(lo=none/\li=0)\/∃y kd,lo=some y/\aW L y=some (.int kd li)) (b:(hi=none/\hix=nn)\/∃y kd,hi=some y/\aW L y=some (.int kd hix)) (r:OAS a nn cc k T) (A:List.length l=nn) (v:pW l li hix=some u)
  (h:N ((d,.slice (nG a cc li.toNat k) (hix.toNat-li.toNat) (cc-li.toNat))::L) w):iB P n ops Q i N L w:=by
 obtain⟨f,g,z⟩:=XZ v
 have:=r.1
 exact qHi _ q p s o c b f g aa rfl h
theorem qLq{ks:List (Nat×(World->Prop))}{q fuel:Nat}{S:World->Prop}{done:List Nat}{t e k:Nat}{x:Operand}{lo hi:Option Operand}{a:Option Addr}{nn cc:Nat}{T:List Value}{l:List α}{li hix:Int}{u:Unit}(i d:Nat)(v:cT ops L i=some (some d,.slice t x lo hi none))(s:Nat.blt d n=true)
  (g:nW ops ks q i done=true) (b:(q,S)∈ks) (z:QP Q) (B:aW L x=some (.slice a nn cc)) (r:pB P t=some (e,k))
  (f:(lo=none/\li=0)\/∃y kd,lo=some y/\aW L y=some (.int kd li)) (c:(hi=none/\hix=nn)\/∃y kd,hi=some y/\aW L y=some (.int kd hix)) (A:OAS a nn cc k T) (F:List.length l=nn) (D:pW l li hix=some u)
  (h:WA P n ops Q ks fuel (done++[i]) ((d,.slice (nG a cc li.toNat k) (hix.toNat-li.toNat) (cc-li.toNat))::L) w):WA P n ops Q ks (fuel+1) done L w:=by
 obtain⟨o,p,E⟩:=XZ D
 have:=A.1
 exact qXt i d _ v s g b z B r f c o p aa rfl h
theorem qXe{t e:TypeId}{len k:Nat}{parts:Array (Nat×Operand)}{xs:List α}{cs:List Value}(u:∀x,(f x).length=k)(r:cT ops L i=some (some d,.buildSlice t len parts))(o:Nat.blt d n=true)
  (c:∀w:World,(Instr.buildSlice t len (parts.map fun p=>(p.1,pY L p.2))).run P w= .ok (.slice (some ⟨w.heap.size,0,none⟩) len len) (w.alloc (.cells cs.toArray e)))
  (l:cs=xs.flatMap f) (a:len=xs.length) (b:Nat.ble len maxLen=true) (st:St m own w)
  (h:∀a' cap T w',OAS a' (List.length xs) cap k T->St m (bO a' (aN f xs T) e::own) w'->N ((d,.slice a' (List.length xs) cap)::L) w'):iB P n ops Q i N L w:=by
 subst a;subst l
 have g:=st.alloc (w':=w.alloc (.cells (xs.flatMap f).toArray e)) ⟨⟨rfl,rfl⟩,rfl,oW⟩ rfl
 refine nH (w':=w.alloc (.cells (xs.flatMap f).toArray e)) r o (fun q s=> ?_) (h (some ⟨w.heap.size,0,none⟩) xs.length [] _ ⟨jN _,gP b,rfl,rfl⟩ ?_)
 .simp[execOp,s,c w]
 unfold aN
 rw[jV]
 exact g
theorem zCb{t e k:Nat}{x y:Operand}{kd:IntKind}{a:Option Addr}{nn cc:Nat}{T:List Value}{l r:List α}{hix:Int}{e0:TypeId}(z:∀x,(f x).length=k)(D:cT ops L i=some (some d,.slice t x none (some y) none))(v:Nat.blt d n=true)(G:aW L x=some (.slice a nn cc))(H:aW L y=some (.int kd hix))(s:pB P t=some (e,k))
  (st:St m (bO a (aN f l T) e0::own) w) (E:OAS a nn cc k T) (B:List.length l=nn) (g:wK l 0 hix=some r)
  (h:∀T',OAS a (List.length r) cc k T'->St m (bO a (aN f r T') e0::own) w->N ((d,.slice a (List.length r) cc)::L) w):iB P n ops Q i N L w:=by
 unfold wK at g
 split at g
 .rename_i hh
  obtain⟨M,R,S⟩:=hh
  simp only[jO,fU,kC] at g
  subst g
  obtain⟨j,rfl⟩:∃j:Nat,hix=(j:Int):=⟨hix.toNat,by omega⟩
  have A:j<=l.length:=by omega
  obtain⟨s1,K,o⟩:=E
  have c:(l.take j).length=j:=by rw[kN];omega
  have b:aN f (l.take j) ((l.drop j).flatMap f++T)=aN f l T:=by
   unfold aN
   rw[<-jE,<-fC,fD]
  have q:=lP z (l.drop j)
  have hs':OAS a (List.length (l.take j)) cc k ((l.drop j).flatMap f++T):=by
   rw[c]
   refine⟨by omega,K,?_⟩
   cases a with
   |none=>exact o
   |some p=>
    refine⟨o.1,?_⟩
    have:=o.2
    rw[jB,q,gF,<-this,<-B,Nat.sub_mul]
    have:=kQ k A
    omega
  have F:(Value.slice (nG a cc (0:Int).toNat k) ((j:Int).toNat-(0:Int).toNat) (cc-(0:Int).toNat))= .slice a (List.length (l.take j)) cc:=by
   rw[c]
   simp only[fU,jQ,Nat.sub_zero]
   congr 1
   unfold nG
   split
   .rfl
   cases a with
   |none=>rfl
   |some p=>
    have:=o.1
    rw[Nat.zero_mul]
    show some (p.add 0)=some p
    rw[this]
    rfl
  refine qHi (li:=0) (hix:=(j:Int)) _ D v G s (.inl ⟨rfl,rfl⟩) (.inr ⟨y,kd,rfl,H⟩) aa aa aa F (h _ hs' (by
   have u:aN f (List.take (j:Int).toNat l) ((l.drop j).flatMap f++T)=aN f l T:=b
   rw[u];exact st))
 cases g
def wG(l:List α)(d0 s0:Nat):List α:=l.take d0++(l.drop s0).take (min (l.length-s0) (l.length-d0))++l.drop (d0+min (l.length-s0) (l.length-d0))
def CV(l:List α)(d0 s0:Int):Option (List α):=if 0<=d0/\d0<=l.length/\0<=s0/\s0<=l.length/\0<l.length then some (wG l d0.toNat s0.toNat) else none
theorem qYu{l:List α}{d0 s0:Nat}(a:d0<=l.length):(wG l d0 s0).length=l.length:=by
 simp only[wG,jB,kN,gF];omega
theorem qHp{l r:List α}{d0 s0:Int}(h:CV l d0 s0=some r):∃d s:Nat,d0=(d:Int)/\s0=(s:Int)/\d<=l.length/\s<=l.length/\0<l.length/\r=wG l d s:=by
 unfold CV at h
 split at h
 .rename_i hb
  simp only[jO] at h
  exact⟨d0.toNat,s0.toNat,by omega,by omega,by omega,by omega,hb.2.2.2.2,h.symm⟩
 cases h
theorem qZc{l r:List α}{d0 s0:Int}(h:CV l d0 s0=some r):r.length=l.length:=by
 obtain⟨d,s,_,_,a,_,_,rfl⟩:=qHp h
 exact qYu a
theorem XP{k:Nat}(a:∀x,(f x).length=k):∀(l:List α) (j:Nat),(l.flatMap f).take (j*k)=(l.take j).flatMap f
 |[],j=>by simp
 |x::l,0=>by simp
 |x::l,j+1=>by
  rw[kL,List.take_succ_cons,kL,List.take_append,a,show(j+1)*k-k=j*k by rw[kX,dL,dP],XP a l j,kZ (by rw[a,kX];omega)]
theorem qJx{k:Nat}(a:∀x,(f x).length=k):∀(l:List α) (j:Nat),(l.flatMap f).drop (j*k)=(l.drop j).flatMap f
 |[],j=>by simp
 |x::l,0=>by simp
 |x::l,j+1=>by
  rw[kL,List.drop_succ_cons,dK,a,show(j+1)*k-k=j*k by rw[kX,dL,dP],qJx a l j,jU (by rw[a,kX];omega),jP]
theorem ST{k:Nat}(a:∀x,(f x).length=k){l:List α}{T:List Value}{j:Nat}(c:j<=l.length):(aN f l T).toList.take (j*k)=(l.take j).flatMap f:=by
 have b:=lP a l
 simp only[aN]
 rw[gC (by rw[b];exact kQ _ c),XP a]
theorem SV{k:Nat}(a:∀x,(f x).length=k){l:List α}{T:List Value}{j:Nat}(c:j<=l.length):(aN f l T).toList.drop (j*k)=(l.drop j).flatMap f++T:=by
 have b:=lP a l
 simp only[aN]
 rw[gN (by rw[b];exact kQ _ c),qJx a]
theorem qXs{t u e k:Nat}{x y:Operand}{a:Option Addr}{nn cc:Nat}{T:List Value}{l r:List α}{e0:TypeId}{d0 s0 F G:Int}(c:∀x,(f x).length=k)(B:∀x,∀v∈f x,v.oneCell'=true)(hk:0<k)
  (ho:cT ops L i=some (some d,.call {callee:= .builtin .copy,args:= #[x,y],argTypes:= #[t,u]})) (hd:Nat.blt d n=true)
  (p:aW L x=some (.slice (nG a cc d0.toNat k) (F.toNat-d0.toNat) (cc-d0.toNat))) (s:aW L y=some (.slice (nG a cc s0.toNat k) (G.toNat-s0.toNat) (cc-s0.toNat))) (e1:F=(l.length:Int)) (e2:G=(l.length:Int)) (hI:pB P t=some (e,k))
  (st:St m (bO a (aN f l T) e0::own) w) (S:OAS a nn cc k T) (R:List.length l=nn) (hz:CV l d0 s0=some r)
  (h:∀(v:Int) w',St m (bO a (aN f r T) e0::own) w'->N ((d,.int .i64 v)::L) w'):iB P n ops Q i N L w:=by
 obtain⟨dd,ss,rfl,rfl,D,E,g3,rfl⟩:=qHp hz
 have A:=S.some R (show 0<l.length from g3)
 subst R
 obtain⟨q1,q2,q3⟩:=S
 rw[A] at q3
 simp only[true_and] at q3
 subst e1;subst e2
 rw[A] at p s st
 rw[A] at h
 generalize ab a=b at*
 have K:=lP c l
 simp only[jQ] at p s
 have z:St m (.blk b (.cells (aN f l T) e0 (0,0))::own) w:=st
 have H:(aN f l T).size=cc*k:=by
  simp only[aN,kD,jB,K];omega
 have sl:∀j,j<=l.length->∃o,nG (some ⟨b,0,none⟩) cc j k=some ⟨b,o,none⟩/\o<=j*k/\(j<l.length->o=j*k):=by
  intro j g
  by_cases hc:cc=j
  .exact⟨0,by simp[nG,hc],jW _,fun h=>by omega⟩
  exact⟨j*k,by rw[ZP aa,kT],jN _,fun _=>rfl⟩
 obtain⟨o1,U,a1,V⟩:=sl dd D
 obtain⟨o2,Y,a2,Z⟩:=sl ss E
 rw[U] at p
 rw[Y] at s
 generalize hM:min (l.length-ss) (l.length-dd)=M
 have hM':Nat.min (l.length-ss) (l.length-dd)=M:=hM
 have q:(((l.drop ss).take M).flatMap f).length=M*k:=by rw[lP c,kN,gF];congr 1;omega
 have a0:dd*k+M*k<=cc*k:=by rw[<-kX];exact kQ _ aa
 refine qZt (((l.drop ss).take M).flatMap f) (aN f (wG l dd ss) T).toList ho hd p s hI z ?_ ?_ ?_ ?_ ?_
 .rw[hM']
  refine qHr z.head.1 ?_ q
  rcases Nat.eq_zero_or_pos M with g|g
  .simp[g]
  rw[Z aa,SV c E,gC (by rw[lP c,gF];exact kQ _ aa),XP c]
 .rw[q,H];omega
 .intro v hv
  obtain⟨x,_,p⟩:=fP.1 hv
  exact B x v p
 .rw[q]
  rcases Nat.eq_zero_or_pos M with g|g
  .have:wG l dd ss=l:=by simp only[wG,hM,g];simp
   rw[this,g];simp
  rw[V aa,ST c D,<-kX,SV c (show dd+M<=l.length by omega)]
  simp only[wG,hM,aN,fC,jE]
 intro w' st'
 rw[hM']
 have g:St m (.blk b (.cells (aN f (wG l dd ss) T) e0 (0,0))::own) w':=by simpa using st'
 exact h _ w' g
theorem qTz{t u e by_ kk:Nat}{x y:Operand}{f:α->List Value}{v:Value}{a:Option Addr}{nn cc:Nat}{T:List Value}{l k r:List α}(H:∀x,(f x).length=kk)
  (ho:cT ops L i=some (some d,.call {callee:= .builtin .append,args:= #[x,y],argTypes:= #[t,u]})) (Z:Nat.blt d n=true)
  (U:aW L x=some (.slice a nn cc)) (hy:aW L y=some v) (st:St m (bO a (aN f l T) e::own) w) (hs:OAS a nn cc kk T) (hn:List.length l=nn) (hi:yU P t=some (e,kk,by_,kk)) (hu:zL P u e)
  (R:∀w':World,Step w w'->w'.heap=w.heap->PH P w' kk v k.length (k.flatMap f)) (S:iU by_ l k=some r)
  (h:∀a' cap T' w',OAS a' (List.length r) cap kk T'->St m (bO a' (aN f r T') e::own) w'->N ((d,.slice a' (List.length r) cap)::L) w'):iB P n ops Q i N L w:=by
 obtain⟨ht,inf,z,E,hz',g,a1,a3⟩:=WM hi
 unfold iU at S
 split at S
 .rename_i hk
  obtain⟨k1,k2⟩:=hk
  simp only[jO] at S;subst S
  subst hn
  have B:=R w (Step.refl w) rfl
  have Y:=lP H l
  have V:=lP H k
  obtain⟨q1,q2,F⟩:=hs
  by_cases hroom:l.length+k.length<=cc
  .cases a with
   |none=>
    simp only at F
    have K:l=[]:=kO aa
    have A:k=[]:=kO aa
    subst K;subst A;subst F
    refine ID (v:=undef) (w':=w) ho Z (fun o G=> ?_)
    have c:=qDr w t u o.type e inf ht hu E (x:=v) (news:=[]) (by rw[g];exact B)
    refine⟨_,_,?_,h none 0 [] w ⟨jN _,jW _,rfl⟩ st⟩
    simp only[execOp,G,resolve,Sem.run_bind,Sem.run_pure,Result.andThen_ok,invoke,builtin]
    simp only[jD] at U
    simp[cC U,cC hy,c]
   |some p=>
    simp only at F
    obtain⟨M,hT⟩:=F
    obtain⟨b,o,s⟩:=p
    simp only[Addr.mk.injEq,true_and] at M
    obtain⟨rfl,rfl⟩:=M
    have D:St m (.blk b (.cells (aN f l T) e (0,0))::own) w:=st
    have a2:(aN f l T).size=cc*kk:=by
     simp only[aN,kD,jB,Y];omega
    have a0:l.length*kk+k.length*kk<=cc*kk:=by rw[<-kX];exact kQ _ hroom
    have hC:(aN f l T).toList.take (l.length*inf.size)++k.flatMap f++(aN f l T).toList.drop (l.length*inf.size+(k.flatMap f).length)=(aN f (l++k) (T.drop (k.length*kk))).toList:=by
     rw[g,V]
     have A:(aN f l T).toList.take (l.length*kk)=l.flatMap f:=by
      have:=ST (T:=T) H (jN l.length)
      rwa[dX] at this
     have e2:(aN f l T).toList.drop (l.length*kk+k.length*kk)=T.drop (k.length*kk):=by
      have:=SV (T:=T) H (jN l.length)
      rw[List.drop_length,dZ,jP] at this
      rw[<-List.drop_drop,this]
     rw[A,e2]
     simp[aN,fC]
    refine ID (v:=undef) (w':=w) ho Z (fun q G=> ?_)
    have c:=qDw w t u q.type e inf ht hu E (x:=v) (n:=k.length) (news:=k.flatMap f) (by rw[g];exact B) b l.length cc (aN f l T) D.head.1 hroom (by rw[g,V,a2];exact a0)
    rw[hC] at c
    have st':=D.set (w':=w.setRow b (aN f (l++k) (T.drop (k.length*kk))).toList.toArray) (o':= .cells (aN f (l++k) (T.drop (k.length*kk))).toList.toArray e (0,0)) ⟨⟨rfl,rfl⟩,rfl,oW⟩ (setRow_heap w b (aN f l T) _ e _ D.head.1) (fun j _ hj=>setRow_other w b j _ hj)
    have a4:St m (bO (some ⟨b,0,none⟩) (aN f (l++k) (T.drop (k.length*kk))) e::own) (w.setRow b (aN f (l++k) (T.drop (k.length*kk))).toList.toArray):=by simpa[bO] using st'
    have A:(l++k).length=l.length+k.length:=jB
    refine⟨.slice (some ⟨b,0,none⟩) (l++k).length cc,_,?_,h (some ⟨b,0,none⟩) cc (T.drop (k.length*kk)) _ ⟨by rw[A];exact hroom,q2,rfl,?_⟩ a4⟩
    .simp only[execOp,G,resolve,Sem.run_bind,Sem.run_pure,Result.andThen_ok,invoke,builtin]
     simp[cC U,cC hy,c,A]
    rw[A,kX,gF];omega
  have a2:cc<l.length+k.length:=by omega
  refine ID (v:=undef) (w':=w) ho Z (fun o G=> ?_)
  have a0:∀w':World,Step w w'->w'.heap=w.heap->(Builtin.firstCells inf.size l.length (.slice a l.length cc)).run P w'= .ok (l.flatMap f).toArray w':=fun w' _ hw=>by
   cases a with
   |none=>
    simp only at F
    have K:l=[]:=kO aa
    subst K
    simp[Builtin.firstCells]
   |some p=>
    simp only at F
    obtain⟨M,hT⟩:=F
    obtain⟨b,o,s⟩:=p
    simp only[Addr.mk.injEq,true_and] at M
    obtain⟨rfl,rfl⟩:=M
    have D:St m (.blk b (.cells (aN f l T) e (0,0))::own) w:=st
    rw[g]
    refine qHr (o:=0) (C:=aN f l T) (e:=e) (by rw[hw];exact D.head.1) ?_ Y
    rw[kC]
    have:=ST (T:=T) H (jN l.length)
    rwa[dX] at this
  have c:=qDv (ty:=o.type) w t u e inf z ht hu E hz' (n:=k.length) (news:=k.flatMap f) (by rw[g];exact B) a l.length cc (l.flatMap f)
   a0 (fun w' hs hw=>by rw[g];exact(R w' hs hw).2.1) a2 (by rw[a1];exact k1) k2
  generalize hgc:grownCap w (l.length+k.length) cc e=gc at c
  have M:l.length+k.length<=gc:=hgc▸grownCap_ge _ _ _ _
  have K:gc<=maxLen:=hgc▸grownCap_le_maxLen _ _ _ _ k2
  have D:(l.flatMap f++k.flatMap f).toArray++Builtin.zeroCells z.cells (gc-(l.length+k.length))=aN f (l++k) (Builtin.zeroCells z.cells (gc-(l.length+k.length))).toList:=by
   apply Array.ext';simp[aN]
  rw[D] at c
  have A:(l++k).length=l.length+k.length:=jB
  refine⟨.slice (some ⟨w.heap.size,0,none⟩) (l++k).length gc,_,?_,h (some ⟨w.heap.size,0,none⟩) gc _ _ ⟨by omega,K,rfl,?_⟩ (st.tail.alloc (w':=w.drew.alloc (.cells (aN f (l++k) (Builtin.zeroCells z.cells (gc-(l.length+k.length))).toList) e)) ⟨⟨rfl,rfl⟩,rfl,oW⟩ rfl)⟩
  .simp only[execOp,G,resolve,Sem.run_bind,Sem.run_pure,Result.andThen_ok,invoke,builtin]
   simp[cC U,cC hy,c,A]
  simp only[fO,size_zeroCells,a3,A,<-kX]
  congr 1;omega
 cases S
theorem SY{t u e by_:Nat}{x y:Operand}{c:Codec α}{v:Value}{a:Option Addr}{nn cc:Nat}{T:List Value}{l k r:List α}(p:∀m x cs,c.rep m x cs->cs=f x)(A:∀x,(f x).length=c.sz)
  (E:cT ops L i=some (some d,.call {callee:= .builtin .append,args:= #[x,y],argTypes:= #[t,u]})) (z:Nat.blt d n=true)
  (H:aW L x=some (.slice a nn cc)) (K:aW L y=some v) (st:St m (bO a (aN f l T) e::own) w) (F:OAS a nn cc c.sz T) (D:List.length l=nn) (hi:yU P t=some (e,c.sz,by_,c.sz)) (G:zL P u e)
  (B:Gives P c m v k) (M:iU by_ l k=some r)
  (h:∀a' cap T' w',OAS a' (List.length r) cap c.sz T'->St m (bO a' (aN f r T') e::own) w'->N ((d,.slice a' (List.length r) cap)::L) w'):iB P n ops Q i N L w:=by
 obtain⟨cs,g,o⟩:=B
 obtain rfl:cs=k.flatMap f:=qVl p (g w st.inv).2.2.1 o
 exact qTz A E z H K st F D hi G (fun w' q s=>g w' (st.inv.keep q (fun b _ _=>by rw[s]))) M h
theorem zGa{by_:Nat}{k l:List α}(a:JJ by_ k=some l):iU by_ [] k=some l:=by
 unfold JJ at a
 unfold iU
 simpa using a
theorem zCp{a:Option Addr}{e k:Nat}(st:St m (.room a 0 0 e k::own) w):OAS a 0 0 k []:=by
 cases a with
 |none=>exact OAS.nil _
 |some p=>
  obtain⟨b,c,_⟩:=st.head
  obtain⟨g,off,spot⟩:=p
  simp only at b c
  subst b;subst c
  exact⟨jN _,jW _,rfl,by simp⟩
theorem zAu{t u e by_:Nat}{x y:Operand}{c:Codec α}{v:Value}{a:Option Addr}{k l:List α}(b:∀m x cs,c.rep m x cs->cs=f x)(o:∀x,(f x).length=c.sz)
  (q:cT ops L i=some (some d,.call {callee:= .builtin .append,args:= #[x,y],argTypes:= #[t,u]})) (g:Nat.blt d n=true)
  (z:aW L x=some (.slice a 0 0)) (A:aW L y=some v) (st:St m (.room a 0 0 e c.sz::own) w) (hi:yU P t=some (e,c.sz,by_,c.sz)) (s:zL P u e)
  (p:Gives P c m v k) (r:JJ by_ k=some l)
  (h:∀a' cap T w',OAS a' (List.length l) cap c.sz T->St m (bO a' (aN f l T) e::own) w'->N ((d,.slice a' (List.length l) cap)::L) w'):iB P n ops Q i N L w:=
 SY (l:=[]) b o q g z A (ZK st) (zCp st) rfl hi s p (zGa r) h
theorem OK{l:List α}{lo hi:Int}{u:Unit}{nn:Nat}(h:pW l lo hi=some u)(d:List.length l=nn):0<=lo/\lo<=hi/\hi<=(nn:Int):=by
 obtain⟨a,b,c⟩:=XZ h
 exact⟨a,b,by omega⟩
theorem TO{l:List α}{lo hi ix:Int}{z:α}(e:0<=lo)(c:aO ((l.take hi.toNat).drop lo.toNat) ix=some z):aO l (lo+ix)=some z/\0<=ix/\lo+ix<hi:=by
 obtain⟨b,a,d⟩:=AM c
 rw[List.getElem?_drop,List.getElem?_take] at a
 split at a
 .rename_i g3
  refine⟨?_,b,by omega⟩
  unfold aO
  rw[if_pos aa,show(lo+ix).toNat=lo.toNat+ix.toNat by omega]
  exact a
 cases a
theorem qEc{t e k:Nat}{x y:Operand}{a:Option Addr}{nn cc:Nat}{T:List Value}{l:List α}{kd:IntKind}{lo hi ix:Int}{z:α}(f:aW L x=some (.slice (nG a cc lo.toNat k) (hi.toNat-lo.toNat) (cc-lo.toNat)))(D:aW L y=some (.int kd ix))(hi':pB P t=some (e,k))
  (d:OAS a nn cc k T) (v:List.length l=nn) (B:0<=lo/\lo<=hi/\hi<=(nn:Int)) (E:aO ((l.take hi.toNat).drop lo.toNat) ix=some z) (q:Oper) (A:q.op= .indexAddr t x y) (w:World):
  (execOp (pY L) q).run P w= .ok (.value (.pointer (some ⟨ab a,(lo+ix).toNat*k,none⟩))) w:=by
 obtain⟨p,inf,r,s⟩:=yS hi'
 obtain⟨F,K,v2⟩:=B
 obtain⟨n,o,H⟩:=TO F E
 obtain⟨_,_,c⟩:=AM n
 have u:=d.some v c
 have G:=d.1
 rw[u,ZP aa] at f
 generalize ab a=b at*
 have hlt':ix<((hi.toNat-lo.toNat:Nat):Int):=by omega
 have g:0+lo.toNat*k+ix.toNat*k=(lo+ix).toNat*k:=by rw[kT,<-kX];congr 1;omega
 have h:lo.toNat*k+ix.toNat*k=(lo+ix).toNat*k:=by rw[<-g,kT]
 simp[execOp,A,Instr.indexAt,cC f,cC D,asIntOf,run_underlying p,o,hlt',sizeOf,typeInfo,r,s,yZ,h]
theorem qUf{t e k:Nat}{x y:Operand}{a:Option Addr}{nn cc:Nat}{T:List Value}{l:List α}{kd:IntKind}{lo hi ix:Int}{z:α}(f:cT ops L i=some (some d,.indexAddr t x y))(b:Nat.blt d n=true)(r:aW L x=some (.slice (nG a cc lo.toNat k) (hi.toNat-lo.toNat) (cc-lo.toNat)))(s:aW L y=some (.int kd ix))(hi':pB P t=some (e,k))
  (o:OAS a nn cc k T) (c:List.length l=nn) (p:0<=lo/\lo<=hi/\hi<=(nn:Int)) (u:aO ((l.take hi.toNat).drop lo.toNat) ix=some z)
  (h:N ((d,.pointer (some ⟨ab a,(lo+ix).toNat*k,none⟩))::L) w):iB P n ops Q i N L w:=
 nH f b (fun q g=>qEc r s hi' o c p u q g w) h
theorem qEk{ks:List (Nat×(World->Prop))}{q fuel:Nat}{S:World->Prop}{done:List Nat}{t e k:Nat}{x y:Operand}{a:Option Addr}{nn cc:Nat}{T:List Value}{l:List α}{kd:IntKind}{lo hi ix:Int}{z:α}(i d:Nat)(c:cT ops L i=some (some d,.indexAddr t x y))(g:Nat.blt d n=true)
  (f:nW ops ks q i done=true) (b:(q,S)∈ks) (r:QP Q) (v:aW L x=some (.slice (nG a cc lo.toNat k) (hi.toNat-lo.toNat) (cc-lo.toNat))) (A:aW L y=some (.int kd ix)) (hi':pB P t=some (e,k))
  (s:OAS a nn cc k T) (p:List.length l=nn) (u:0<=lo/\lo<=hi/\hi<=(nn:Int)) (B:aO ((l.take hi.toNat).drop lo.toNat) ix=some z)
  (h:WA P n ops Q ks fuel (done++[i]) ((d,.pointer (some ⟨ab a,(lo+ix).toNat*k,none⟩))::L) w):WA P n ops Q ks (fuel+1) done L w:=
 zB i d _ _ c g f b r (fun o c w' _=>qEc v A hi' s p u B o c w') h
def FC(l:List α)(lo:Int)(z0:α):Option (List α):=if 0<=lo/\lo<l.length then some (l.take lo.toNat++List.replicate (l.length-lo.toNat) z0) else none
theorem qWo{l r:List α}{lo:Int}{z0:α}(h:FC l lo z0=some r):r.length=l.length:=by
 unfold FC at h
 split at h
 .simp only[jO] at h;subst h
  simp only[jB,kN,dC];omega
 cases h
theorem qWh{t e k:Nat}{x:Operand}{a:Option Addr}{nn cc:Nat}{T:List Value}{l r:List α}{e0:TypeId}{lo u:Int}{z:Value}{z0:α}(c:∀x,(f x).length=k)(s:∀x,∀v∈f x,v.oneCell'=true)
  (ho:cT ops L i=some (none,.call {callee:= .builtin .clear,args:= #[x],argTypes:= #[t]}))
  (g:aW L x=some (.slice (nG a cc lo.toNat k) (u.toNat-lo.toNat) (cc-lo.toNat))) (V:u=(l.length:Int)) (Z:pB P t=some (e,k)) (hz:(P.info? e).bind (·.zero)=some z) (o:z.cells.toList=f z0)
  (st:St m (bO a (aN f l T) e0::own) w) (M:OAS a nn cc k T) (K:List.length l=nn) (d:FC l lo z0=some r)
  (h:∀w',St m (bO a (aN f r T) e0::own) w'->N L w'):iB P n ops Q i N L w:=by
 unfold FC at d
 split at d
 .rename_i hb
  simp only[jO] at d;subst d
  obtain⟨j,rfl⟩:∃j:Nat,lo=j:=⟨lo.toNat,by omega⟩
  have hj:j<l.length:=by omega
  have y:=M.some K hj
  subst K;subst V
  obtain⟨q1,q2,S⟩:=M
  rw[y] at S
  simp only[true_and] at S
  rw[y] at g st h
  generalize ab a=b at*
  rw[ZP (by simp only[jQ];omega)] at g
  simp only[jQ,kT] at g h
  have D:=lP c l
  have U:St m (.blk b (.cells (aN f l T) e0 (0,0))::own) w:=st
  have A:(aN f l T).size=cc*k:=by
   simp only[aN,kD,jB,D];omega
  obtain⟨dl,hdl⟩:∃dl,l.length-j=dl+1:=⟨l.length-j-1,by omega⟩
  rw[hdl] at g
  have p:z.cells.size=k:=by have:=congrArg List.length o;rw[c] at this;simpa using this
  have R:(Builtin.zeroCells z.cells (dl+1)).toList=(List.replicate (dl+1) z0).flatMap f:=by
   apply dH
   intro q
   have a0:(Builtin.zeroCells z.cells (dl+1)).toList.length=(dl+1)*k:=by rw[fO,size_zeroCells,p]
   have E:=lP c (List.replicate (dl+1) z0)
   rw[dC] at E
   by_cases hq:q<(dl+1)*k
   .have G:0<k:=Nat.pos_of_ne_zero fun Y=>by(subst Y;simp at hq)
    have B:q/k<dl+1:=(Nat.div_lt_iff_lt_mul G).2 hq
    have H:=Nat.mod_lt q G
    have e:q=(q/k)*k+q%k:=by rw[dT];exact(Nat.div_add_mod q k).symm
    have F:=AI c (List.replicate (dl+1) z0) (q/k) z0 (q%k) (by simp[B]) H
    rw[<-e] at F
    rw[F,<-o]
    simp[Builtin.zeroCells,p,hq,H]
   rw[List.getElem?_eq_none aa,List.getElem?_eq_none aa]
  have B:j*k+(dl+1)*k<=cc*k:=by rw[<-kX];exact kQ _ aa
  refine qXc (zs:=k) (aN f (l.take j++List.replicate (l.length-j) z0) T).toList ho g Z hz p (fun v E=> ?_) U (by rw[A];exact B) ?_ ?_
  .rw[o] at E;exact s _ v E
  .rw[R,lP c,dC,ST c aa,<-kX,show j+(dl+1)=l.length by omega,SV c (jN _),hdl]
   simp[aN,fC]
  intro w' st'
  have F:St m (.blk b (.cells (aN f (l.take j++List.replicate (l.length-j) z0) T) e0 (0,0))::own) w':=by simpa using st'
  exact h w' F
 cases d
theorem zIn{a:Option Addr}{nn cc k:Nat}{T:List Value}{l:List α}{hi:Int}(d:OAS a nn cc k T)(e:List.length l=nn)(f:0<=(0:Int)/\0<=hi/\hi<=(nn:Int)):
  (.slice (nG a cc (Int.toNat 0) k) (hi.toNat-Int.toNat 0) (cc-Int.toNat 0):Value)= .slice a (List.length (l.take hi.toNat)) cc:=by
 have c:nG a cc (Int.toNat 0) k=a:=by
  unfold nG
  split
  .rfl
  cases a with
  |none=>rfl
  |some p=>
   have b:=d.2.2
   simp only at b
   rw[b.1]
   simp[yZ]
 have b:hi.toNat-Int.toNat 0=(l.take hi.toNat).length:=by rw[kN];simp;omega
 rw[c,b]
 rfl
theorem St.freezeView{c:Codec α}{a:Option Addr}{e nn cc:Nat}{l:List α}{T:List Value}{hi:Int}(st:St m (bO a (aN f l T) e::own) w)(n:OAS a nn cc c.sz T)(q:List.length l=nn)(d:∀x,(f x).length=c.sz)(k:∀m x,c.rep m x (f x))(r:0<=(0:Int)/\0<=hi/\hi<=(nn:Int)):
  ∃m',m.le m'/\St m' (.room a (List.length (l.take hi.toNat)) cc e c.sz::own) w/\RepS c m' a cc (l.take hi.toNat):=by
 have g:aN f l T=aN f (l.take hi.toNat) ((l.drop hi.toNat).flatMap f++T):=by
  simp only[aN]
  rw[<-jE,<-fC,fD]
 rw[g] at st
 obtain⟨o,h,b⟩:=n
 refine St.freezeM (nn:=(l.take hi.toNat).length) st ⟨by rw[kN];omega,h,?_⟩ rfl d k
 cases a with
 |none=>exact b
 |some p=>
  simp only at b ⊢
  refine⟨b.1,?_⟩
  have:=lP d (l.drop hi.toNat)
  rw[jB,this,<-gS,<-kX,kN,gF]
  have e:min hi.toNat l.length+(l.length-hi.toNat)=nn:=by omega
  rw[e];exact b.2
end
end Go.Dc
section
namespace Go.Dc
def ZV{α σ β ρ:Type}[DecidableEq ρ](f:Option α->σ->Option (σ⊕β))(l:List α)(s:σ)(K:β->Option ρ):Option ρ:=
 match(nO f l s).bind K with
 |none=>none
 |some b=>if((AV l).all fun k=>decide ((nO f k s).bind K=some b))then some b else none
theorem qVa{α σ β ρ:Type}[DecidableEq ρ]{f:Option α->σ->Option (σ⊕β)}{l:List α}{s:σ}{K:β->Option ρ}{b:ρ}(h:ZV f l s K=some b):∀k,k.Perm l->(nO f k s).bind K=some b:=by
 unfold ZV at h
 split at h
 .cases h
 rename_i b' hb
 split at h
 .rename_i hall
  simp only[jO] at h;subst h
  intro k a
  have:=jZ.1 hall k (YR a)
  simpa using this
 cases h
def LoopP{α σ β:Type}(f:Option α->σ->Option (σ⊕β))(rem:List α)(s:σ)(Pk:β->Prop)(k:Nat):Prop:=(∀l,l.Perm rem->∃b,nO f l s=some b/\Pk b)/\rem.length<k
theorem LoopP.start{α σ β ρ:Type}[DecidableEq ρ]{f:Option α->σ->Option (σ⊕β)}{l:List α}{s:σ}{K:β->Option ρ}{b:ρ}(h:ZV f l s K=some b):∃Pk:β->Prop,(∀o,Pk o->K o=some b)/\LoopP f l s Pk (l.length+1):=
 ⟨fun o=>K o=some b,fun _ h=>h,fun k d=>by obtain⟨o,a,c⟩:=kM.1 (qVa h k d);exact⟨o,a,c⟩,Nat.lt_succ_self _⟩
theorem LoopP.zero{α σ β:Type}{f:Option α->σ->Option (σ⊕β)}{rem:List α}{s:σ}{b:β->Prop}{p:Prop}(h:LoopP f rem s b 0):p:=absurd h.2 (kK _)
theorem LoopP.nil{α σ β:Type}{f:Option α->σ->Option (σ⊕β)}{rem:List α}{s:σ}{b:β->Prop}{k:Nat}(h:LoopP f rem s b (k+1))(g:rem=[]):
  ∃c,f none s=some c/\(∀s',c= .inl s'->LoopP f rem s' b k)/\(∀b',c= .inr b'->b b'):=by
 subst g
 obtain⟨o,this,e⟩:=h.1 [] (.refl _)
 simp only[nO] at this
 obtain⟨c,d,a⟩:=kM.1 this
 refine⟨c,d,?_,?_⟩
 .rintro s' rfl;simp at a
 rintro b' rfl
 simp only[jO] at a
 subst a;exact e
theorem LoopP.cons{α σ β:Type}{f:Option α->σ->Option (σ⊕β)}{rem rest:List α}{e:α}{s:σ}{b:β->Prop}{k:Nat}(h:LoopP f rem s b (k+1))(q:rem.Perm (e::rest)):
  ∃c,f (some e) s=some c/\(∀s',c= .inl s'->LoopP f rest s' b k)/\(∀b',c= .inr b'->b b'):=by
 have t:rem.length=rest.length+1:=by simpa using q.length_eq
 have key:∀l,l.Perm rest->∃o,nO f (e::l) s=some o/\b o:=fun l a=>h.1 _ ((a.cons e).trans q.symm)
 obtain⟨o,d,u⟩:=key rest (.refl _)
 simp only[nO] at d
 obtain⟨c,g,n⟩:=kM.1 d
 refine⟨c,g,?_,?_⟩
 .rintro s' rfl
  refine⟨fun l a=> ?_,by have:=h.2;omega⟩
  obtain⟨o2,p,r⟩:=key l a
  simp only[nO,g,j0] at p
  exact⟨o2,p,r⟩
 rintro b' rfl
 simp only[jO] at n
 subst n;exact u
end Go.Dc
namespace Go.Dc
end Go.Dc
end
namespace Go.Dc
section
open Go.Proofs Go.Shelf Go.Sort
theorem zCq{w w':World}{m':Mem}{own:List Piece}(c:Mem.le (yE w) m')(st:St m' own w'):∃q os,w'=grow (w.drewN q) os:=by
 have n:=st.1.2.2
 have p:m'.wd=w:=c.2.2.symm
 rw[p] at n
 obtain⟨⟨d,e⟩,f,g⟩:=n
 have g:=g rfl
 have l:∀(b:Nat) (x:Obj),w.heap[b]? =some x->w'.heap[b]? =some x:=fun b x o=>st.1.2.1 b x (c.2.1 b x o)
 refine⟨w'.drawn-w.drawn,w'.heap.extract w.heap.size w'.heap.size,?_⟩
 have r:w.heap.size<=w'.heap.size:=by
  rcases Nat.eq_zero_or_pos w.heap.size with h|h
  .omega
  have:=l (w.heap.size-1) _ (Array.getElem?_eq_getElem (show w.heap.size-1<w.heap.size by omega))
  have:=(Array.getElem?_eq_some_iff.1 this).1
  omega
 have a:w.heap++w'.heap.extract w.heap.size w'.heap.size=w'.heap:=by
  apply Array.ext
  .simp;omega
  intro i k s
  rw[Array.getElem_append]
  split
  .rename_i h7
   have:=l i _ (Array.getElem?_eq_getElem h7)
   exact((Array.getElem?_eq_some_iff.1 this).2).symm
  rename_i h7
  rw[Array.getElem_extract]
  congr 1;omega
 have k:w.drawn+(w'.drawn-w.drawn)=w'.drawn:=by omega
 cases w'
 simp only at d e f a k
 simp only[grow,World.drewN,d,e,f,a,k]
theorem qGh{α:Type}[Inhabited α]{f:α->List Value}{k:Nat}(d:∀x,(f x).length=k)(l:List α)(t:Nat)(a:t<l.length*k):(l.flatMap f)[t]? =some (flatK f k l.toArray)[t]! :=by
 have g:0<k:=Nat.pos_of_ne_zero fun n=>by(subst n;simp at a)
 have c:t/k<l.length:=(Nat.div_lt_iff_lt_mul g).2 a
 have h:=Nat.mod_lt t g
 have o:l[t/k]? =some l[t/k]:=by simp[c]
 have e:t=(t/k)*k+t%k:=by rw[dT];exact(Nat.div_add_mod t k).symm
 have b:=AI d l (t/k) _ (t%k) o h
 rw[<-e] at b
 rw[get_flatK _ _ _ t (by simpa using a),b]
 simp[c,d,h]
variable {P:Program} {ρ:Ren} {α:Type} [Inhabited α] {m:Mem} {own:List Piece} {w:World}
theorem qVb(L:SlLaysF0.n6 P ρ){k:Nat}{f:α->List Value}(aE:∀w,(isAgg (ρ.t 24)).run P w= .ok true w)(zE:∀w,(Go.sizeOf (ρ.t 24)).run P w= .ok k w)(q:∀x,(f x).length=k)(M:∀x,∀v∈f x,v.oneCell'=true)
  (cf:α->α->Int) (S:SWO (ltOf cf)) (U:∀x y,(ltOf cf) x y=false->(ltOf cf) y x=false->x=y) (g:Nat) (eg:∀args w,(callFunc g args).run P w= .ok (.enter g args) w)
  (G:∀(x y:α) (W:World),Calls P g #[.agg (f x).toArray,.agg (f y).toArray] W fun r w'=>∃m',r= .returned (.int .i64 (cf x y))/\(yE W).le m'/\St m' [] w')
  {a:Option Addr} {l:List α} {cap:Nat} {T:List Value} {e:TypeId} (st:St m (bO a (aN f l T) e::own) w) (V:OAS a l.length cap k T) (E:l.length<4611686018427387904):
  Calls P (ρ.f 6) #[.slice a l.length cap,.func (.func g) #[] #[]] w fun r w'=>r= .returned (.tuple #[])/\St m (bO a (aN f (l.mergeSort fun x y=> !(ltOf cf) y x) T) e::own) w':=by
 obtain⟨Y,Z,F⟩:=V
 cases a with
 |none=>
  simp only at F
  have c:l=[]:=kO aa
  subst c
  refine(AnyF.slices_SortFunc_none {L with} none cap (.func (.func g) #[] #[]) w).mono fun r w' h=> ?_
  obtain⟨rfl,rfl⟩:=h
  exact⟨rfl,by simpa using st⟩
 |some p=>
  simp only at F
  obtain⟨K,hT'⟩:=F
  obtain⟨b,o,s⟩:=p
  simp only[Addr.mk.injEq,true_and] at K
  obtain⟨rfl,rfl⟩:=K
  have B:St m (.blk b (.cells (aN f l T) e (0,0))::own) w:=st
  have z:=B.head.1
  have A:=xX z
  have u:=lP q l
  have R:HoldsK f k w b 0 l.toArray:=by
   intro j D
   have hj':j<l.length*k:=by simpa using D
   have c:(aN f l T)[j]? =some (flatK f k l.toArray)[j]! :=by
    simp only[aN,List.getElem?_toArray]
    rw[List.getElem?_append_left aa,qGh q l j hj']
   refine⟨?_,?_⟩
   .simp only[World.cell?,z,kT]
    simpa using c
   simp[World.frozen?,z]
  refine(AnyQ.slices_SortFunc_total L k aE zE f q M cf S g #[] b 0 cap l.toArray w eg (fun m' os dk _ x y=> ?_) R A (by simpa using E) U).mono fun r w' h=> ?_
  .refine(G x y _).mono fun r w' h=> ?_
   obtain⟨m',rfl,c,st'⟩:=h
   exact⟨rfl,zCq c st'⟩
  obtain⟨rfl,n,os,rfl⟩:=h
  refine⟨rfl,?_⟩
  generalize hl':l.mergeSort (fun x y=> !(ltOf cf) y x)=l'
  have c:l'.length=l.length:=by rw[<-hl'];simp
  have hfl':=lP q l'
  have d:putCells id 0 (flatK f k l'.toArray) (aN f l T)=aN f l' T:=by
   apply Array.ext_getElem?
   intro t
   simp only[putCells,Array.getElem?_mapIdx,aN,List.getElem?_toArray,size_flatK,kD,kT,jW,true_and,Nat.sub_zero,id]
   by_cases ht:t<l'.length*k
   .rw[List.getElem?_append_left (l₁:=l'.flatMap f) aa,qGh q l' t ht]
    have:(l.flatMap f++T)[t]? =some ((l.flatMap f++T)[t]'(by simp only[jB];rw[u,<-c];omega)):=by simp
    rw[this]
    simp[ht]
   rw[List.getElem?_append_right (l₁:=l'.flatMap f) aa,List.getElem?_append_right (l₁:=l.flatMap f) (by rw[u,<-c];omega),u,hfl',c]
   rw[c] at ht
   simp[ht,c]
  refine(B.set (w':=sortWorldK f k w b 0 n l'.toArray os) (o':= .cells (aN f l' T) e (0,0)) ⟨⟨rfl,rfl⟩,rfl,?_⟩ ?_ ?_:St m (.blk b (.cells (aN f l' T) e (0,0))::own) _)
  .intro _;show w.drawn<=w.drawn+n;omega
  .show((w.heap.modify b (onCells (putCells id 0 (flatK f k l'.toArray))))++os)[b]? =_
   rw[Array.getElem?_append_left (by simpa using A),Array.getElem?_modify,if_pos rfl,z]
   simp only[gO,onCells,d]
  intro j D H
  show((w.heap.modify b (onCells (putCells id 0 (flatK f k l'.toArray))))++os)[j]? =_
  rw[Array.getElem?_append_left (by simpa using D),Array.getElem?_modify,if_neg (Ne.symm H)]
end
section
open Go.Proofs Go.Shelf Go.Sort
structure Lin{α:Type}(c:α->α->Int):Prop where
 zero:∀x y,c x y=0↔x=y
 anti:∀x y,c x y<0↔0<c y x
 trans:∀x y z,c x y<0->c y z<0->c x z<0
theorem Lin.swo{α:Type}{c:α->α->Int}(h:Lin c):SWO (ltOf c) where
 irrefl x:=by simp only[ltOf,decide_eq_false_iff_not];have:=(h.zero x x).2 rfl;omega
 trans x y z h1 h2:=by simp only[ltOf,j7] at*;exact h.trans x y z h1 h2
 ntrans x y z h1 h2:=by
  simp only[ltOf,decide_eq_false_iff_not] at*
  intro a
  have g:=h.anti x y;have b:=h.anti y x;have k:=h.anti y z;have d:=h.anti z y
  by_cases e1:c x y=0
  .rw[(h.zero x y).1 e1] at a;exact h2 a
  by_cases e2:c y z=0
  .rw[<-(h.zero y z).1 e2] at a;exact h1 a
  have e:c y x<0:=b.2 aa
  have f:c z y<0:=d.2 aa
  have l:=h.trans z y x f e
  have:=(h.anti x z).1 a
  omega
theorem Lin.total{α:Type}{c:α->α->Int}(h:Lin c)(x y:α)(a:ltOf c x y=false)(b:ltOf c y x=false):x=y:=by
 simp only[ltOf,decide_eq_false_iff_not] at*
 have:=h.anti y x
 exact(h.zero x y).1 aa
def sS(x y:Int):Int:=if x<y then-1 else if x>y then 1 else 0
theorem cmpI_lin:Lin sS where
 zero x y:=by unfold sS;split<;>(try split)<;>omega
 anti x y:=by unfold sS;repeat' split<;>omega
 trans x y z:=by unfold sS;repeat' split<;>omega
def qG{α β:Type}(c:α->α->Int)(d:β->β->Int)(x y:α×β):Int:=if c x.1 y.1≠0 then c x.1 y.1 else d x.2 y.2
theorem IC{α β:Type}{c:α->α->Int}{d:β->β->Int}(a:Lin c)(l:Lin d):Lin (qG c d) where
 zero x y:=by
  have b:=a.zero x.1 y.1;have f:=l.zero x.2 y.2
  unfold qG
  split
  .rename_i h;exact⟨fun g=>absurd g h,fun g=>absurd (b.2 (by rw[g])) h⟩
  rename_i h
  have h:=b.1 (Decidable.of_not_not h)
  rw[f];exact⟨fun g=>Prod.ext h g,fun g=>by rw[g]⟩
 anti x y:=by
  have b:=a.anti x.1 y.1;have f:=l.anti x.2 y.2;have k:=a.zero x.1 y.1;have n:=a.zero y.1 x.1
  unfold qG
  by_cases e:x.1=y.1
  .rw[if_neg (by rw[uB,Decidable.not_not,k];exact e),if_neg (by rw[uB,Decidable.not_not,n];exact e.symm)];exact f
  rw[if_pos (fun g=>e (k.1 g)),if_pos (fun g=>e (n.1 g).symm)];exact b
 trans x y z g1 g2:=by
  have b:=a.zero x.1 y.1;have f:=a.zero y.1 z.1;have k:=a.zero x.1 z.1
  unfold qG at*
  by_cases e1:x.1=y.1
  .rw[if_neg (by rw[uB,Decidable.not_not,b];exact e1)] at g1
   by_cases e2:y.1=z.1
   .rw[if_neg (by rw[uB,Decidable.not_not,f];exact e2)] at g2
    rw[if_neg (by rw[uB,Decidable.not_not,k];exact e1.trans e2)]
    exact l.trans _ _ _ g1 g2
   rw[if_pos (fun g=>e2 (f.1 g))] at g2
   rw[if_pos (fun g=>e2 (e1.symm.trans (k.1 g))),e1];exact g2
  rw[if_pos (fun g=>e1 (b.1 g))] at g1
  by_cases e2:y.1=z.1
  .rw[if_pos (fun g=>e1 ((k.1 g).trans e2.symm)),<-e2];exact g1
  rw[if_pos (fun g=>e2 (f.1 g))] at g2
  have n:=a.trans _ _ _ g1 g2
  rw[if_pos aa];exact n
def oF:List UInt8->List UInt8->Int
 |[],[]=>0
 |[],_::_=> -1
 |_::_,[]=>1
 |x::l,y::k=>if x=y then oF l k else if x<y then-1 else 1
theorem qBu(x y:UInt8):x<y↔x.toNat<y.toNat:=Iff.rfl
theorem zHu{x y:UInt8}(h:x.toNat=y.toNat):x=y:=UInt8.toNat_inj.1 h
theorem cmpL_lin:Lin oF where
 zero:=by
  intro l
  induction l with
  |nil=>intro k;cases k<;>simp[oF]
  |cons x l c=>
   intro k
   cases k with
   |nil=>simp[oF]
   |cons y k=>
    simp only[oF]
    by_cases h:x=y
    .rw[if_pos h,c k,h];simp
    rw[if_neg h];split<;>simp[h]
 anti:=by
  intro l
  induction l with
  |nil=>intro k;cases k<;>simp[oF]
  |cons x l c=>
   intro k
   cases k with
   |nil=>simp[oF]
   |cons y k=>
    simp only[oF]
    by_cases h:x=y
    .rw[if_pos h,if_pos h.symm];exact c k
    rw[if_neg h,if_neg (Ne.symm h)]
    have:¬x.toNat=y.toNat:=fun e=>h (zHu e)
    simp only[qBu]
    split<;>split<;>omega
 trans:=by
  intro l
  induction l with
  |nil=>intro k m b a;cases k<;>cases m<;>simp[oF] at*
  |cons x l c=>
   intro k m b a
   cases k with
   |nil=>simp[oF] at b
   |cons y k=>
    cases m with
    |nil=>simp[oF] at a
    |cons z m=>
     simp only[oF,qBu] at*
     by_cases e1:x=y
     .subst e1
      rw[if_pos rfl] at b
      by_cases e2:x=z
      .rw[if_pos e2] at a ⊢;exact c k m b a
      rw[if_neg e2] at a ⊢;exact a
     rw[if_neg e1] at b
     have d:x.toNat<y.toNat:=by
      by_cases g:x.toNat<y.toNat
      .exact g
      rw[if_neg g] at b;omega
     by_cases e2:y=z
     .subst e2;rw[if_neg e1,if_pos d];omega
     rw[if_neg e2] at a
     have f:y.toNat<z.toNat:=by
      by_cases g:y.toNat<z.toNat
      .exact g
      rw[if_neg g] at a;omega
     rw[if_neg (fun e=>by rw[e] at d;omega),if_pos aa];omega
def JE(l k:List UInt8):Int:=match(List.range (min l.length k.length)).find? fun i=>l.getD i 0 !=k.getD i 0 with
 |some i=>if l.getD i 0<k.getD i 0 then-1 else 1
 |none=>if l.length<k.length then-1 else if l.length>k.length then 1 else 0
theorem qMg:∀l k:List UInt8,JE l k=oF l k
 |[],[]=>by simp[JE,oF]
 |[],_::_=>by simp[JE,oF]
 |_::_,[]=>by simp[JE,oF]
 |x::l,y::k=>by
  have a:=qMg l k
  unfold JE at a ⊢
  rw[show min (x::l).length (y::k).length=min l.length k.length+1 by simp only[jC];omega,List.range_succ_eq_map,List.find?_cons]
  by_cases h:x=y
  .subst h
   have e0:((x::l).getD 0 0 !=(x::k).getD 0 0)=false:=by simp
   rw[e0]
   simp only[List.find?_map,Function.comp_def,oF,jI]
   rw[<-a]
   have b:(fun i=>(x::l).getD (Nat.succ i) 0 !=(x::k).getD (Nat.succ i) 0)=fun i=>l.getD i 0 !=k.getD i 0:=by
    funext i;simp
   rw[b]
   cases(List.range (min l.length k.length)).find? fun i=>l.getD i 0 !=k.getD i 0 with
   |none=>simp
   |some i=>simp
  have e0:((x::l).getD 0 0 !=(y::k).getD 0 0)=true:=by simpa using h
  rw[e0]
  simp[oF,h]
theorem zAk(a:BA)(i:Nat):a[i]! =a.data.toList.getD i 0:=by
 by_cases h:i<a.size
 .have b:i<a.data.toList.length:=by simpa using h
  rw[getElem!_pos a i h,jS,List.getElem?_eq_getElem b]
  simp
  rfl
 have b:¬i<a.data.toList.length:=by simpa using h
 rw[getElem!_neg a i h,jS,List.getElem?_eq_none aa]
 rfl
theorem NN(a b:BA):oU a b=oF a.data.toList b.data.toList:=by
 rw[<-qMg]
 have c:a.data.toList.length=a.size:=by simp
 have d:b.data.toList.length=b.size:=by simp
 unfold oU JE
 rw[c,d]
 simp only[zAk]
 all_goals (generalize List.find? (fun i=>a.data.toList.getD i 0 !=b.data.toList.getD i 0) (List.range (min a.size b.size))=o;cases o<;>rfl)
theorem cmpS_lin:Lin oU where
 zero x y:=by
  rw[NN,cmpL_lin.zero]
  exact⟨fun h=>by cases x;cases y;simp at h;subst h;rfl,fun h=>by rw[h]⟩
 anti x y:=by rw[NN,NN];exact cmpL_lin.anti _ _
 trans x y z h1 h2:=by rw[NN] at*;exact cmpL_lin.trans _ _ _ h1 h2
end
section
def isQ{α:Type}(o:Option α):Option Unit:=o.map fun _=>()
theorem MapQ.at{κ ν:Type}{ek:κ->Value}{c:Codec ν}{agg:Bool}{m:Mem}{q:Option Nat}{es:Array MapEntry}{ck:Nat}{o:Option (List (κ×ν))}(h:MapQ ek c agg m q es ck o){u:Unit}(a:isQ o=some u):∃b,q=some b:=by
 cases q with
 |none=>
  have h:o=none:=h
  subst h
  cases a
 |some b=>exact⟨b,rfl⟩
section
variable {P:Program} {n:Fr} {ops:Array Oper} {Q:Exit->Act->World->Prop} {L:aZ} {w:World} {i:Nat}
def noP(Q:Exit->Act->World->Prop):Exit->Act->World->Prop
 | .panic _,_,_=>False
 |e,a,w=>Q e a w
end
theorem Mem.le.t{a b c:Mem}(h:a.le b)(k:b.le c):a.le c:=Mem.le_trans h k
theorem sI{α:Type}{a b:α}(h:some a=some b):a=b:=kG h
abbrev GoOn(K:Value->Prop):Ending->Prop
 | .returned v=>K v
 |_=>False
abbrev GoOnF(K:Value->Prop)(F:List PanicEntry->Prop):Ending->Prop
 | .returned v=>K v
 | .panicked ch=>F ch
 |_=>False
theorem GoOn.out{K:Value->Prop}{e:Ending}(h:GoOn K e):∃v,e= .returned v/\K v:=by
 cases e<;>first|exact⟨_,rfl,h⟩|exact h.elim
theorem GoOnF.out{K:Value->Prop}{F:List PanicEntry->Prop}{e:Ending}(h:GoOnF K F e):(∃v,e= .returned v/\K v)\/∃ch,e= .panicked ch/\F ch:=by
 cases e<;>first|exact .inl ⟨_,rfl,h⟩|exact .inr ⟨_,rfl,h⟩|exact h.elim
section
variable {ρ:Option Nat} {P:Program} {n:Fr} {ops:Array Oper} {Q:Exit->Act->World->Prop} {i:Nat} {L:aZ} {w:World} {m:Mem} {own:List Piece} {N:aZ->World->Prop}
theorem zDq{α β:Type}{f:Nat}{args:Array Value}{x:Option β}{k:β->Option α}{r:α}{T:β->Ending->World->Prop}(d:Nat)(o:x.bind k=some r)(c:∀y,x=some y->Calls P f args w (T y))
  (h:∀y,k y=some r->∀e w',T y e w'->GoOn (fun v=>N ((d,v)::L) w') e) (l:wC P ops L i=some (some d,f,args):=by kernel_rfl) (g:Nat.blt d n=true:=by exact rfl):iB P n ops Q i N L w:=by
 obtain⟨y,a,b⟩:=kM.1 o
 exact sM d f args l g ((c y a).mono fun e w' p=>(h y b e w' p).out)
theorem zCt{α β:Type}{f:Nat}{args:Array Value}{x:Option β}{k:β->Option α}{r:α}{T:β->Ending->World->Prop}(d:Nat)(o:x.bind k=some r)(c:∀y,x=some y->Calls P f args w (T y))
  (h:∀y,k y=some r->∀e w',T y e w'->∃v,e= .returned v/\N ((d,v)::L) w') (l:wC P ops L i=some (some d,f,args):=by kernel_rfl) (g:Nat.blt d n=true:=by exact rfl):iB P n ops Q i N L w:=by
 obtain⟨y,a,b⟩:=kM.1 o
 exact sM d f args l g ((c y a).mono fun e w' p=>h y b e w' p)
theorem zFs{α β:Type}{f:Nat}{args:Array Value}{x:Option β}{k:β->Option α}{r:α}{T:β->Ending->World->Prop}(d:Nat)(g:x.bind k=some r)(a:∀y,x=some y->Calls P f args w (T y))
  (h:∀y,k y=some r->∀e w',T y e w'->GoOn (fun v=>WO P n ops Q (i+1) ((d,v)::L) w') e) (c:wC P ops L i=some (some d,f,args):=by kernel_rfl) (b:Nat.blt d n=true:=by exact rfl) (hi:Nat.blt i ops.size=true:=by exact rfl):WO P n ops Q i L w:=
 wY hi (zDq d g a h c b)
def FG:List Value->Nat->aZ
 |[],_=>[]
 |v::l,k=>(k,v)::FG l (k+1)
theorem qIy:∀(l:List Value) (k:Nat) (pre:List Value),pre.length=k->(FG l k).map (fun p=>((pre++l).toArray[p.1]?))=(FG l k).map fun p=>some p.2
 |[],_,_,_=>rfl
 |v::l,k,pre,h=>by
  simp only[FG,kF]
  have a:=qIy l (k+1) (pre++[v]) (by simp[h])
  rw[show pre++[v]++l=pre++v::l by simp] at a
  rw[a]
  congr 1
  subst h
  simp
theorem uJ{f:FuncId}{fn:Func}{c:Code}{args:Array Value}{R:Ending->World->Prop}{k:Nat}(d:P.funcs[f]? =some fn)(b:fn.body=some c)(e:fn.ntmps=k)(h:W none P ⟨k,[]⟩ c (bodyPost P fn R) (FG args.toList 0) w)
  (a:Nat.ble args.size k=true:=by exact rfl):Calls P f args w R:=
 zEs d b e (FG args.toList 0) (by have:=qIy args.toList 0 [] rfl;simpa using this) a h
theorem aK{α:Type}{c:Operand}{x y:Code}{b:Bool}{A B:Option α}{r:α}(a:(if b then A else B)=some r)
  (f:b=true->A=some r->W ρ P n x Q L w) (e:b=false->B=some r->W ρ P n y Q L w) (d:aW L c=some (.bool b):=by kernel_rfl):W ρ P n (.cond c x y) Q L w:=
 NT b d (fun h=>f h (by rw[if_pos h] at a;exact a)) (fun h=>e h (by rw[if_neg (by rw[h];exact kH)] at a;exact a))
theorem aJ{y:Code}(h:W ρ P n y Q L w)(hi:ops.size=i:=by exact rfl):WO P n ops (Exit.then (fun a w=>y.wpIn (lV ρ) 0 P Q a w) Q) i L w:=qBm hi h
theorem vL{k:Nat}{fn:Func}{R:Ending->World->Prop}(ts:List Nat)(vs:List Value)(h:R (.returned (vX vs)) w)(b:fn.results=(ts.map ResultVar.tmp).toArray:=by exact rfl)(a:ts.map (look L)=vs.map some:=by kernel_rfl):X ⟨k,[]⟩ (bodyPost P fn R) .ret L w:=by
 refine AS (ts.map .tmp) vs b ?_ h
 clear b h
 induction ts generalizing vs with
 |nil=>cases vs with
  |nil=>rfl
  |cons v vs=>cases a
 |cons t ts c=>cases vs with
  |nil=>cases a
  |cons v vs=>
   rw[kF,kF,gK] at a
   exact ResAll.cons (ResAt.tmp a.1) (c vs a.2)
instance opTmp(k:Nat):OfNat Operand k:=⟨.tmp k⟩
theorem wD{e:TypeId}{b:Nat}{c:Array Value}(t:Nat)(x y:Operand)(o:Nat)(v:Value)(c':Array Value)(d:St m (.blk b (.cells c e (0,0))::own) w)(h:∀w',St m (.blk b (.cells c' e (0,0))::own) w'->N L w')
 (f:cT ops L i=some (none,.store t x y):=by kernel_rfl) (g:aW L x=some (.pointer (some ⟨b,o,none⟩)):=by kernel_rfl) (k:aW L y=some v:=by kernel_rfl) (a:CO P t v o c.size=true:=by kernel_rfl)
 (hc':(c.toList.take o++v.cells.toList++c.toList.drop (o+v.cells.toList.length)).toArray=c':=by kernel_rfl):iB P n ops Q i N L w:=YI f g k d a hc' h
theorem nI{e:TypeId}{b:Nat}{c:Array Value}(t:Nat)(x y:Operand)(v:Value)(d:St m (.blk b (.cells c e (0,0))::own) w)(h:∀w',St m (.blk b (.cells v.cells e (0,0))::own) w'->N L w')
 (f:cT ops L i=some (none,.store t x y):=by kernel_rfl) (g:aW L x=some (.pointer (some ⟨b,0,none⟩)):=by kernel_rfl) (k:aW L y=some v:=by kernel_rfl) (a:CO P t v 0 c.size=true:=by kernel_rfl)
 (hc':(c.toList.take 0++v.cells.toList++c.toList.drop (0+v.cells.toList.length)).toArray=v.cells:=by kernel_rfl):iB P n ops Q i N L w:=YI f g k d a hc' h
theorem tB(d e:Nat)(v:Value)(a:St m own w)(h:∀b w',St m (.blk b (.cells v.cells e (0,0))::own) w'->N ((d,.pointer (some ⟨b,0,none⟩))::L) w')
 (f:cT ops L i=some (some d,.alloc e):=by kernel_rfl) (c:Nat.blt d n=true:=by exact rfl) (g:qAu P e=some v:=by kernel_rfl):iB P n ops Q i N L w:=qJf v f c g a h
theorem IS(d e:Nat)(x:Operand)(v:Value)(a:St m own w)(h:∀b w',St m (.blk b (.cells v.cells e (0,0))::own) w'->N ((d,.pointer (some ⟨b,0,none⟩))::L) w')
 (f:cT ops L i=some (some d,.box e x):=by kernel_rfl) (c:Nat.blt d n=true:=by exact rfl) (g:aW L x=some v:=by kernel_rfl):iB P n ops Q i N L w:=qFc v f c g a h
theorem xE{e:Exit}{L':aZ}(h:X n Q e L' w)(a:L'.map (fun p=>look L p.1)=L'.map fun p=>some p.2:=by kernel_rfl):X n Q e L w:=JC L' a h
theorem iA{m':Mem}{p:Prop}(st:St m' own w)(h:m.le m'):p\/Inv m w/\True:= .inr ⟨Inv.anti st.inv h,trivial⟩
theorem xV{α β:Type}{c:Codec α}{a:Option Addr}{cap:Nat}{l k:List α}{v:Value}{f:List α->Option β}{r:β}(d t u e by_:Nat)(x y:Operand)(g:St m (.room a l.length cap e c.sz::own) w)(D:zL P u e)(b:RepS c m a cap l)(s:Gives P c m v k)(B:(iU by_ l k).bind f=some r)
  (h:∀z,f z=some r->∀a' cap' m' w',m.le m'->St m' (.room a' (List.length z) cap' e c.sz::own) w'->RepS c m' a' cap' z->N ((d,.slice a' (List.length z) cap')::L) w')
  (A:cT ops L i=some (some d,.call {callee:= .builtin .append,args:= #[x,y],argTypes:= #[t,u]}):=by kernel_rfl) (q:Nat.blt d n=true:=by exact rfl) (E:aW L x=some (.slice a l.length cap):=by kernel_rfl) (F:aW L y=some v:=by kernel_rfl)
  (hi:yU P t=some (e,c.sz,by_,c.sz):=by kernel_rfl):iB P n ops Q i N L w:=by
 obtain⟨z,o,p⟩:=aU B;exact qXn c A q E F g hi D b s o (h z p)
theorem zIe{α:Type}{b:Bool}{A B:Option α}{r:α}(t:Nat)(a:(if b then A else B)=some r)(e:b=true->A=some r->WO P n ops Q i ((t,.bool true)::L) w)(d:b=false->B=some r->WO P n ops Q i ((t,.bool false)::L) w)
  (c:look L t=some (.bool b):=by kernel_rfl):WO P n ops Q i L w:=by
 cases b with
 |true=>exact qNl true c rfl (e rfl (by rw[if_pos rfl] at a;exact a))
 |false=>exact qNl false c rfl (d rfl (by rw[if_neg kH] at a;exact a))
theorem tA{m':Mem}{p x:Prop}(st:St m' own w)(h:m.le m')(k:x):((p\/Inv m w/\True)/\True)/\x:=⟨⟨iA st h,trivial⟩,k⟩
class QC(Q:Exit->Act->World->Prop):Prop where
 out:QP Q
instance qc1{K:Act->World->Prop}[h:QC Q]:QC (Exit.then K Q):=⟨aH h.out⟩
instance qc2{id:Nat}[h:QC Q]:QC (Exit.inBlock id Q):=⟨bQ h.out⟩
instance qc3{fn:Func}{R:Ending->World->Prop}:QC (bodyPost P fn R):=⟨eY⟩
instance qc4[h:QC Q]:QC (zFy Q):=⟨h.out⟩
instance qc5{fn:Func}{R:Ending->World->Prop}:QC (zHe P fn R):=⟨fun _ _ _ _ _ h=>h⟩
instance qc6{l:Nat}{R:Ending->World->Prop}:QC (roundPost P l R):=⟨fun _ _ _ _ _ h=>h⟩
instance qc7{l:Nat}{body:Code}{R:Ending->World->Prop}:QC (zFf P l body R):=⟨fun _ _ _ _ _ h=>h⟩
instance qc8:QC (noP Q):=⟨fun _ _ _ _ _ h=>h⟩
variable [hq:QC Q] {ks:List (Nat×(World->Prop))} {k fuel:Nat} {S:World->Prop} {done:List Nat}
theorem zIv(i d:Nat)(v:Value)(a:(k,S)∈ks)(h:WA P n ops Q ks fuel (done++[i]) ((d,v)::L) w)(c:CP P ops L i=some (d,v):=by kernel_rfl)(b:Nat.blt d n=true:=by exact rfl)(e:nW ops ks k i done=true:=by kernel_rfl):WA P n ops Q ks (fuel+1) done L w:=
 qOe i d v c b e a hq.out h
theorem zK{e:Nat}{b:Nat}{c:Array Value}{f:Nat×Nat}(t':Nat)(x:Operand)(i d o:Nat)(v:Value)(a:(k,S)∈ks)(g:∀w,S w->Piece.holds m w (.blk b (.cells c e f)))(h:WA P n ops Q ks fuel (done++[i]) ((d,v)::L) w)
  (p:cT ops L i=some (some d,.load t' x):=by kernel_rfl) (l:Nat.blt d n=true:=by exact rfl) (q:nW ops ks k i done=true:=by kernel_rfl) (s:aW L x=some (.pointer (some ⟨b,o,none⟩)):=by kernel_rfl) (r:tF P t' (c.toList.drop o)=some v:=by kernel_rfl):WA P n ops Q ks (fuel+1) done L w:=
 qFd i d v p l q a hq.out g s r h
theorem zGu{α:Type}{k':BA->Option α}{r:α}{a b:BA}(t t2:Nat)(x y:Operand)(i d:Nat)(c:(k,S)∈ks)(o:(bG a b).bind k'=some r)(h:∀s,k' s=some r->WA P n ops Q ks fuel (done++[i]) ((d,.string s)::L) w)
  (l:cT ops L i=some (some d,.binOp .add t x y t2):=by kernel_rfl) (g:Nat.blt d n=true:=by exact rfl) (p:nW ops ks k i done=true:=by kernel_rfl) (q:aW L x=some (.string a):=by kernel_rfl) (u:aW L y=some (.string b):=by kernel_rfl):WA P n ops Q ks (fuel+1) done L w:=by
 obtain⟨z,e,f⟩:=aU o;exact zFd i d l g p c hq.out q u e (h z f)
def VD(P:Program)(n:Fr)(ops:Array Oper)(ks:List (Nat×(World->Prop)))(k i:Nat)(done:List Nat)(L:aZ):Option (Nat×Value):=
 bif nW ops ks k i done then
  (match CP P ops L i with
  |some q=>bif Nat.blt q.1 n then some q else none
  |none=>(match((ops[i]?).bind fun o=>(uX ops L o.guard).map fun b=>(o.dst,b)) with
   |some (some d,false)=>bif Nat.blt d n then some (d,undef) else none
   |_=>none))
 else none
def FJ(P:Program)(n:Fr)(ops:Array Oper)(ks:List (Nat×(World->Prop)))(k:Nat):List Nat->List Nat->aZ->Option aZ
 |[],_,_=>some []
 |i::l,done,L=>match VD P n ops ks k i done L with
  |some q=>(match FJ P n ops ks k l (done++[i]) (q::L) with
   |some r=>some (q::r)
   |none=>none)
  |none=>none
def qBz(L:aZ):aZ->aZ
 |[]=>L
 |q::r=>qBz (q::L) r
theorem zHw{i:Nat}{q:Nat×Value}(c:(k,S)∈ks)(a:VD P n ops ks k i done L=some q)(h:WA P n ops Q ks fuel (done++[i]) (q::L) w):WA P n ops Q ks (fuel+1) done L w:=by
 unfold VD at a
 cases e:nW ops ks k i done with
 |false=>rw[e] at a;cases a
 |true=>
  rw[e] at a
  cases hp:CP P ops L i with
  |some z=>
   rw[hp] at a
   cases b:Nat.blt z.1 n with
   |false=>simp only[b,cond_true,cond_false] at a;cases a
   |true=>
    simp only[b,cond_true] at a
    cases a
    exact qOe i q.1 q.2 hp b e c hq.out h
  |none=>
   rw[hp] at a
   simp only[cond_true] at a
   split at a
   .rename_i d ho
    cases b:Nat.blt d n with
    |false=>rw[b] at a;cases a
    |true=>
     rw[b] at a
     cases a
     exact zFw i d ho b e c hq.out h
   cases a
end
theorem zFv{m m':Mem}{own:List Piece}{w:World}{b:Nat}{o:Obj}(g:St m' own w)(a:m.le m')(c:Piece.blk b o∈own):Piece.holds m w (.blk b o):=Piece.holds_anti (g.2.1 _ c) a
theorem zFc{m m':Mem}{own:List Piece}{w:World}{a:Option Addr}{cs:Array Value}{e:TypeId}(g:St m' own w)(b:m.le m')(c:bO a cs e∈own):Piece.holds m w (bO a cs e):=zBf (g.2.1 _ c) b
end
end Go.Dc
section
abbrev Prod.d{α β γ:Type}(x:α×β×γ):γ:=x.2.2
abbrev Prod.e{α β γ δ:Type}(x:α×β×γ×δ):δ:=x.2.2.2
abbrev Prod.f{α β γ δ ε:Type}(x:α×β×γ×δ×ε):ε:=x.2.2.2.2
abbrev Prod.h{α β γ δ ε ζ:Type}(x:α×β×γ×δ×ε×ζ):ζ:=x.2.2.2.2.2
abbrev Prod.j{α β γ δ ε ζ η:Type}(x:α×β×γ×δ×ε×ζ×η):η:=x.2.2.2.2.2.2
abbrev Prod.k{α β γ δ ε ζ η θ:Type}(x:α×β×γ×δ×ε×ζ×η×θ):θ:=x.2.2.2.2.2.2.2
namespace Go.Dc
class Enc{α:Type}(c:Codec α) where
 enc:α->List Value
 ok:∀m x,c.rep m x (enc x)
instance encStr:Enc aD:=⟨fun x=>[.string x],fun _ _=>rfl⟩
instance encInt{k:IntKind}:Enc (aI k):=⟨fun x=>[.int k x],fun _ _=>rfl⟩
instance encBool:Enc zHi:=⟨fun x=>[.bool x],fun _ _=>rfl⟩
instance encPair{α β:Type}{a:Codec α}{b:Codec β}[A:Enc a][B:Enc b]:Enc (tL a b):=⟨fun x=>A.enc x.1++B.enc x.2,fun m x=>⟨_,_,rfl,A.ok m x.1,B.ok m x.2⟩⟩
def qBv{α:Type}(c:Codec α)[E:Enc c]:List α->List Value
 |[]=>[]
 |x::l=>E.enc x++qBv c l
theorem qMa{α:Type}{c:Codec α}[E:Enc c]{m:Mem}:∀l:List α,RepAll c m l (qBv c l)
 |[]=>rfl
 |x::l=>⟨_,_,rfl,E.ok m x,qMa l⟩
section
variable {ρ:Option Nat} {P:Program} {n:Fr} {ops:Array Oper} {Q:Exit->Act->World->Prop} {i:Nat} {L:aZ} {w:World} {m:Mem} {own:List Piece}
def qQl(P:Program)(ops:Array Oper)(L:aZ)(i:Nat):Option (Nat×Nat×TypeId×List Value):=
 match cT ops L i with
 |some (some d,.buildSlice t len parts)=>(XH P t len (parts.map fun p=>(p.1,pY L p.2)).toList).map fun z=>(d,len,z)
 |_=>none
theorem lG{α:Type}(d e len:Nat)(c:Codec α)[E:Enc c](xs:List α)(k:St m own w)
  (h:∀b m' w',m.le m'->St m' (.room (some ⟨b,0,none⟩) xs.length len e c.sz::own) w'->RepS c m' (some ⟨b,0,none⟩) len xs->WO P n ops Q (i+1) ((d,.slice (some ⟨b,0,none⟩) xs.length len)::L) w')
  (a:qQl P ops L i=some (d,len,e,qBv c xs):=by kernel_rfl) (l:Nat.blt d n=true:=by exact rfl) (f:len=xs.length:=by exact rfl) (g:Nat.ble len maxLen=true:=by exact rfl) (hi:Nat.blt i ops.size=true:=by exact rfl):WO P n ops Q i L w:=by
 unfold qQl at a
 split at a
 .rename_i ha
  simp only[jY,Prod.mk.injEq] at a
  obtain⟨z,o,rfl,rfl,rfl⟩:=a
  exact wY hi (oX c _ ha l (fun _=>oY o _) f g k (qMa xs) h)
 cases a
def DJ(P:Program)(ops:Array Oper)(L:aZ)(i:Nat)(c:List Value):Option (Nat×Nat×Value):=
 match cT ops L i with
 |some (some d,.load t x)=>match aW L x with
  |some (.pointer (some ⟨b,o,none⟩))=>(tF P t (c.drop o)).map fun v=>(d,b,v)
  |_=>none
 |_=>none
theorem zHm{e:TypeId}{b:Nat}{c:Array Value}{f:Nat×Nat}(d:Nat)(v:Value)(k:Piece.holds m w (.blk b (.cells c e f)))(h:WO P n ops Q (i+1) ((d,v)::L) w)
  (a:DJ P ops L i c.toList=some (d,b,v):=by kernel_rfl) (g:Nat.blt d n=true:=by exact rfl) (hi:Nat.blt i ops.size=true:=by exact rfl):WO P n ops Q i L w:=by
 unfold DJ at a
 split at a
 .rename_i ha
  split at a
  .rename_i hb
   simp only[jY,Prod.mk.injEq] at a
   obtain⟨z,l,rfl,rfl,rfl⟩:=a
   exact wY hi (qUw _ ha g hb k l h)
  cases a
 cases a
def AW(P:Program)(ops:Array Oper)(L:aZ)(i:Nat)(c:List Value):Option (Nat×Nat×Nat×Value):=
 match cT ops L i with
 |some (some d,.load t x)=>match aW L x with
  |some (.pointer (some ⟨b,o,none⟩))=>(tF P t c).map fun v=>(d,b,o,v)
  |_=>none
 |_=>none
theorem zHx{b o:Nat}{cs:List Value}(d:Nat)(v:Value)(c:St m own w)(f:MRow m b o cs)(h:WO P n ops Q (i+1) ((d,v)::L) w)
  (a:AW P ops L i cs=some (d,b,o,v):=by kernel_rfl) (e:Nat.blt d n=true:=by exact rfl) (hi:Nat.blt i ops.size=true:=by exact rfl):WO P n ops Q i L w:=by
 unfold AW at a
 split at a
 .rename_i ha
  split at a
  .rename_i hb
   simp only[jY,Prod.mk.injEq] at a
   obtain⟨z,g,rfl,rfl,rfl,rfl⟩:=a
   exact wY hi (EF _ ha e hb c f g h)
  cases a
 cases a
def qBy(P:Program)(ops:Array Oper)(L:aZ)(i:Nat)(c:Array Value):Option (Nat×Array Value):=
 match cT ops L i with
 |some (none,.store t x y)=>match aW L x with
  |some (.pointer (some ⟨b,o,none⟩))=>match aW L y with
   |some v=>bif CO P t v o c.size then some (b,(c.toList.take o++v.cells.toList++c.toList.drop (o+v.cells.toList.length)).toArray) else none
   |none=>none
  |_=>none
 |_=>none
theorem nD{e:TypeId}{b:Nat}{c:Array Value}(c':Array Value)(d:St m (.blk b (.cells c e (0,0))::own) w)(h:∀w',St m (.blk b (.cells c' e (0,0))::own) w'->WO P n ops Q (i+1) L w')
  (a:qBy P ops L i c=some (b,c'):=by kernel_rfl) (hi:Nat.blt i ops.size=true:=by exact rfl):WO P n ops Q i L w:=by
 unfold qBy at a
 split at a
 .rename_i ha
  split at a
  .rename_i hb
   split at a
   .rename_i hv
    cases hk:CO P _ _ _ c.size with
    |true=>
     rw[hk,cond_true] at a
     simp only[jO,Prod.mk.injEq] at a
     obtain⟨rfl,f⟩:=a
     exact wY hi (YI ha hb hv d hk f h)
    |false=>rw[hk,cond_false] at a;cases a
   cases a
  cases a
 cases a
theorem cL{e:TypeId}{b:Nat}{c:Array Value}(v:Value)(a:St m (.blk b (.cells c e (0,0))::own) w)(h:∀w',St m (.blk b (.cells v.cells e (0,0))::own) w'->WO P n ops Q (i+1) L w')
 (d:qBy P ops L i c=some (b,v.cells):=by kernel_rfl) (hi:Nat.blt i ops.size=true:=by exact rfl):WO P n ops Q i L w:=nD v.cells a h d hi
def qQp(P:Program)(ops:Array Oper)(L:aZ)(i:Nat):Option (Nat×Nat×Value):=
 match cT ops L i with
 |some (some d,.alloc e)=>(qAu P e).map fun v=>(d,e,v)
 |_=>none
theorem eE(d e:Nat)(v:Value)(c:St m own w)(h:∀b w',St m (.blk b (.cells v.cells e (0,0))::own) w'->WO P n ops Q (i+1) ((d,.pointer (some ⟨b,0,none⟩))::L) w')
  (a:qQp P ops L i=some (d,e,v):=by kernel_rfl) (f:Nat.blt d n=true:=by exact rfl) (hi:Nat.blt i ops.size=true:=by exact rfl):WO P n ops Q i L w:=by
 unfold qQp at a
 split at a
 .rename_i ha
  simp only[jY,Prod.mk.injEq] at a
  obtain⟨z,g,rfl,rfl,rfl⟩:=a
  exact wY hi (qJf _ ha f g c h)
 cases a
def qQi(ops:Array Oper)(L:aZ)(i:Nat):Option (Nat×Nat×Value):=
 match cT ops L i with
 |some (some d,.box e x)=>(aW L x).map fun v=>(d,e,v)
 |_=>none
theorem iK(d e:Nat)(v:Value)(c:St m own w)(h:∀b m' w',m.le m'->St m' own w'->MRow m' b 0 v.cells.toList->WO P n ops Q (i+1) ((d,.pointer (some ⟨b,0,none⟩))::L) w')
  (a:qQi ops L i=some (d,e,v):=by kernel_rfl) (f:Nat.blt d n=true:=by exact rfl) (hi:Nat.blt i ops.size=true:=by exact rfl):WO P n ops Q i L w:=by
 unfold qQi at a
 split at a
 .rename_i ha
  simp only[jY,Prod.mk.injEq] at a
  obtain⟨z,g,rfl,rfl,rfl⟩:=a
  exact wY hi (zEl _ ha f g c h)
 cases a
def qQk(P:Program)(ops:Array Oper)(L:aZ)(i:Nat):Option (Nat×BA×Int):=
 match cT ops L i with
 |some (some d,.index t x y)=>match aW L x with
  |some (.string s)=>match aW L y with
   |some (.int .i64 z)=>match P.underlying t with
    |some .string=>some (d,s,z)
    |_=>none
   |_=>none
  |_=>none
 |_=>none
theorem nE{α:Type}{k:UInt8->Option α}{r:α}{s:BA}{ix:Int}(d:Nat)(f:(lI s ix).bind k=some r)(h:∀z:UInt8,k z=some r->WO P n ops Q (i+1) ((d,.int .u8 (z.toNat:Int))::L) w)
  (a:qQk P ops L i=some (d,s,ix):=by kernel_rfl) (e:Nat.blt d n=true:=by exact rfl) (hi:Nat.blt i ops.size=true:=by exact rfl):WO P n ops Q i L w:=by
 obtain⟨z,b,c⟩:=aU f
 unfold qQk at a
 split at a
 .rename_i ha
  split at a
  .rename_i hb
   split at a
   .rename_i hc
    split at a
    .rename_i hu
     cases a
     exact wY hi (qUn (k:= .i64) ha e hb hc hu b (h z c))
    cases a
   cases a
  cases a
 cases a
def VJ(ops:Array Oper)(L:aZ)(i:Nat):Option (Nat×BA×BA):=
 match cT ops L i with
 |some (some d,.binOp .add _ x y _)=>match aW L x with
  |some (.string s)=>match aW L y with
   |some (.string z)=>some (d,s,z)
   |_=>none
  |_=>none
 |_=>none
theorem zHq{α:Type}{k:BA->Option α}{r:α}{a b:BA}(d:Nat)(l:(bG a b).bind k=some r)(h:∀s,k s=some r->WO P n ops Q (i+1) ((d,.string s)::L) w)
  (c:VJ ops L i=some (d,a,b):=by kernel_rfl) (g:Nat.blt d n=true:=by exact rfl) (hi:Nat.blt i ops.size=true:=by exact rfl):WO P n ops Q i L w:=by
 obtain⟨z,e,f⟩:=aU l
 unfold VJ at c
 split at c
 .rename_i ha
  split at c
  .rename_i hb
   split at c
   .rename_i hc
    cases c
    exact wY hi (zEa ha g hb hc e (h z f))
   cases c
  cases c
 cases c
def VI(P:Program)(ops:Array Oper)(L:aZ)(i:Nat):Option (Nat×Value×Int×Nat):=
 match cT ops L i with
 |some (some d,.indexAddr t x y)=>match aW L x with
  |some v=>match aW L y with
   |some (.int .i64 z)=>(pB P t).map fun q=>(d,v,z,q.2)
   |_=>none
  |_=>none
 |_=>none
theorem zHr{α β:Type}{c:Codec α}{a:Option Addr}{cap:Nat}{l:List α}{ix:Int}{k:α->Option β}{r:β}(d:Nat)(g:RepS c m a cap l)(x:(aO l ix).bind k=some r)
  (h:∀z,k z=some r->∀b o cs,c.rep m z cs->MRow m b o cs->WO P n ops Q (i+1) ((d,.pointer (some ⟨b,o,none⟩))::L) w)
  (f:VI P ops L i=some (d,.slice a l.length cap,ix,c.sz):=by kernel_rfl) (u:Nat.blt d n=true:=by exact rfl) (hi:Nat.blt i ops.size=true:=by exact rfl):WO P n ops Q i L w:=by
 obtain⟨z,q,t⟩:=aU x
 unfold VI at f
 split at f
 .rename_i ha
  split at f
  .rename_i hb
   split at f
   .rename_i hc
    simp only[jY,Prod.mk.injEq] at f
    obtain⟨⟨e,s⟩,v,rfl,rfl,rfl,p⟩:=f
    simp only at p
    subst p
    exact wY hi (qZi (k:= .i64) c ha u hb hc v g q (h z t))
   cases f
  cases f
 cases f
theorem pL{α β:Type}{c:Codec α}{a:Option Addr}{cap:Nat}{l k:List α}{v:Value}{f:List α->Option β}{r:β}(d t u e by_:Nat)(x y:Operand)(g:St m (.room a l.length cap e c.sz::own) w)(B:zL P u e)(b:RepS c m a cap l)(p:Gives P c m v k)(A:(iU by_ l k).bind f=some r)
 (h:∀z,f z=some r->∀a' cap' m' w',m.le m'->St m' (.room a' (List.length z) cap' e c.sz::own) w'->RepS c m' a' cap' z->WO P n ops Q (i+1) ((d,.slice a' (List.length z) cap')::L) w')
 (s:cT ops L i=some (some d,.call {callee:= .builtin .append,args:= #[x,y],argTypes:= #[t,u]}):=by kernel_rfl) (o:Nat.blt d n=true:=by exact rfl) (D:aW L x=some (.slice a l.length cap):=by kernel_rfl) (E:aW L y=some v:=by kernel_rfl)
 (hi:yU P t=some (e,c.sz,by_,c.sz):=by kernel_rfl) (q:Nat.blt i ops.size=true:=by exact rfl):WO P n ops Q i L w:=wY q (xV d t u e by_ x y g B b p A h s o D E hi)
theorem qXy{σ β:Type}{f:σ->Option (σ⊕β)}{k:Nat}{s:σ}{b:β}(h:aB f (k+1) s=some b):∃c,f s=some c/\(∀s',.inl s'=c->aB f k s'=some b)/\(∀b',.inr b'=c->b'=b):=by
 obtain⟨c,a,d,g⟩:=qWz h
 exact⟨c,a,fun s' e=>d s' e.symm,fun b' e=>g b' e.symm⟩
theorem X_rd{k:Nat}{I:Nat->aZ->World->Prop}(h:I k L w):X n (Exit.then (fun a' w'=>∃k' L',k'<k+1/\Fits n a' L'/\I k' L' w') Q) .normal L w:=zEc k (Nat.lt_succ_self k) h
theorem zIo{α β:Type}{x:Option α}{f:α->Option β}{b:β}{c:Code}(e:Exit)(k:x.bind f=some b)(I:α->aZ->World->Prop)(d:∀o,f o=some b->∀L' w',I o L' w'->X n Q e L' w')
  (a:∀o,x=some o->(∀L' w',I o L' w'->X n Q e L' w')->W ρ P n c Q L w):W ρ P n c Q L w:=by
 obtain⟨o,g,h⟩:=aU k
 exact a o g (d o h)
theorem zGm{α β:Type}{x:Option α}{f:α->Option β}{b:β}(j:Nat)(g:x.bind f=some b)(I:α->aZ->World->Prop)(a:∀o,f o=some b->∀L' w',I o L' w'->WO P n ops Q j L' w')
  (c:∀o,x=some o->(∀L' w',I o L' w'->WO P n ops Q j L' w')->WO P n ops Q i L w):WO P n ops Q i L w:=by
 obtain⟨o,d,e⟩:=aU g
 exact c o d (a o e)
class RetQ(P:outParam Program)(Q:Exit->Act->World->Prop)(fn:outParam Func)(R:outParam (Ending->World->Prop)):Prop where
 out:∀a w,bodyPost P fn R .ret a w->Q .ret a w
instance rq1{fn:Func}{R:Ending->World->Prop}:RetQ P (bodyPost P fn R) fn R:=⟨fun _ _ h=>h⟩
instance rq2{fn:Func}{R:Ending->World->Prop}{K:Act->World->Prop}[h:RetQ P Q fn R]:RetQ P (Exit.then K Q) fn R:=⟨h.out⟩
instance rq3{fn:Func}{R:Ending->World->Prop}{id:Nat}[h:RetQ P Q fn R]:RetQ P (Exit.inBlock id Q) fn R:=⟨h.out⟩
theorem BF{k:Nat}{fn:Func}{R:Ending->World->Prop}[hq:RetQ P Q fn R]{b e:Nat}{c:Array Value}{f:Nat×Nat}(s t:Nat)(ts:List Nat)(vs:List Value)(n:Piece.holds m w (.blk b (.cells c e f)))(h:R (.returned (vX (.agg c::vs))) w)
  (l:fn.results=(ResultVar.cell s t::ts.map ResultVar.tmp).toArray:=by exact rfl) (p:look L s=some (.pointer (some ⟨b,0,none⟩)):=by kernel_rfl) (q:tF P t c.toList=some (.agg c):=by kernel_rfl) (d:ts.map (look L)=vs.map some:=by kernel_rfl):X ⟨k,[]⟩ Q .ret L w:=by
 refine fun a g=>hq.out a w (AS (ResultVar.cell s t::ts.map .tmp) (.agg c::vs) l (ResAll.cons (ResAt.blk (o:=0) p n (by simpa using q)) ?_) h a g)
 clear l h p q n g hq
 induction ts generalizing vs with
 |nil=>cases vs with
  |nil=>rfl
  |cons v vs=>cases d
 |cons t ts r=>cases vs with
  |nil=>cases d
  |cons v vs=>
   rw[kF,kF,gK] at d
   exact ResAll.cons (ResAt.tmp d.1) (r vs d.2)
end
end Go.Dc
end
namespace Go.Dc
section
section
variable {ρ:Option Nat} {P:Program} {n:Fr} {ops:Array Oper} {Q:Exit->Act->World->Prop} {i:Nat} {L:aZ} {w:World} {m:Mem} {own:List Piece}
theorem bY{f:FuncId}{fn:Func}{c:Code}{args:Array Value}{R:Ending->World->Prop}{k:Nat}(_g:St m own w)(hf:P.funcs[f]? =some fn)(hb:fn.body=some c)(hn:fn.ntmps=k)(h:m.le m->W none P ⟨k,[]⟩ c (bodyPost P fn R) (FG args.toList 0) w)
 (hsz:Nat.ble args.size k=true:=by exact rfl):Calls P f args w R:=uJ hf hb hn (h m.le_refl) hsz
theorem cZ{σ β:Type}{f:σ->Option (σ⊕β)}{k:Nat}{s:σ}{b:β}(h:aB f k s=some b):∃k' c,k=k'+1/\f s=some c/\(∀s',.inl s'=c->aB f k' s'=some b)/\(∀b',.inr b'=c->b'=b):=by
 cases k with
 |zero=>exact qXg h
 |succ k=>
  obtain⟨c,h1,h2,h3⟩:=qXy h
  exact⟨k,c,rfl,h1,h2,h3⟩
theorem cY{c:Code}{L':aZ}(I:Nat->aZ->World->Prop)(k:Nat)(h0:I k L' w)
 (round:∀k L w,I k L w->W ρ P n c (Exit.then (fun a' w'=>∃k' L',k'<k/\Fits n a' L'/\I k' L' w') Q) L w) (hs:L'.map (fun p=>look L p.1)=L'.map fun p=>some p.2:=by kernel_rfl):W ρ P n (.loop c) Q L w:=zHo L' hs (zGt I k h0 round)
theorem cX{k:Nat}{I:Nat->aZ->World->Prop}{L':aZ}(h:I k L' w)(hs:L'.map (fun p=>look L p.1)=L'.map fun p=>some p.2:=by kernel_rfl):X n (Exit.then (fun a' w'=>∃k' L',k'<k+1/\Fits n a' L'/\I k' L' w') Q) .normal L w:=JC L' hs (X_rd h)
theorem lK(h:X n Q .normal L w)(hi:ops.size=i:=by exact rfl):WO P n ops Q i L w:=qOu hi h
theorem cU(h:iB P n ops Q i (fun L' w'=>WO P n ops Q (i+1) L' w') L w)(hi:Nat.blt i ops.size=true:=by exact rfl):WO P n ops Q i L w:=wY hi h
theorem qQc{L':aZ}(h:WO P n ops Q i L' w)(hs:L'.map (fun p=>look L p.1)=L'.map fun p=>some p.2:=by kernel_rfl):WO P n ops Q i L w:=qOo L' hs h
theorem bV{α β:Type}{x:Option α}{f:α->Option β}{b:β}{c:Code}(e:Exit)(hr:x.bind f=some b)(I:α->aZ->World->Prop)(hend:∀o,f o=some b->∀L' w',I o L' w'->X n Q e L' w')
  (hbody:∀o,x=some o->(∀{a:α} {L':aZ} {w':World},some a=some o->I a L' w'->X n Q e L' w')->W ρ P n c Q L w):W ρ P n c Q L w:=
 zIo e hr I hend fun o h K=>hbody o h fun h' k=>K _ _ (sI h'▸k)
theorem iG{α β:Type}{x:Option α}{f:α->Option β}{b:β}(j:Nat)(hr:x.bind f=some b)(I:α->aZ->World->Prop)(hend:∀o,f o=some b->∀L' w',I o L' w'->WO P n ops Q j L' w')
  (hreg:∀o,x=some o->(∀{a:α} {L':aZ} {w':World},some a=some o->I a L' w'->WO P n ops Q j L' w')->WO P n ops Q i L w):WO P n ops Q i L w:=
 zGm j hr I hend fun o h K=>hreg o h fun h' k=>K _ _ (sI h'▸k)
variable [hq:QC Q] {ks':List (Nat×(World->Prop))} {k fuel:Nat} {S:World->Prop} {done:List Nat}
theorem zHk(i d:Nat)(v:Value)(h:WA P n ops Q ((k,S)::ks') fuel (done++[i]) ((d,v)::L) w)(ho:CP P ops L i=some (d,v):=by kernel_rfl)(hd:Nat.blt d n=true:=by exact rfl)(hs:nW ops ((k,S)::ks') k i done=true:=by kernel_rfl):WA P n ops Q ((k,S)::ks') (fuel+1) done L w:=
 zIv i d v (.head _) h ho hd hs
theorem iI{α:Type}{k':BA->Option α}{r:α}{a b:BA}(t t2:Nat)(x y:Operand)(i d:Nat)(hr:(bG a b).bind k'=some r)(h:∀s,k' s=some r->WA P n ops Q ((k,S)::ks') fuel (done++[i]) ((d,.string s)::L) w)
  (ho:cT ops L i=some (some d,.binOp .add t x y t2):=by kernel_rfl) (hd:Nat.blt d n=true:=by exact rfl) (hs:nW ops ((k,S)::ks') k i done=true:=by kernel_rfl) (hx:aW L x=some (.string a):=by kernel_rfl) (hy:aW L y=some (.string b):=by kernel_rfl):WA P n ops Q ((k,S)::ks') (fuel+1) done L w:=
 zGu t t2 x y i d (.head _) hr h ho hd hs hx hy
theorem zHy{e:Nat}{b:Nat}{c:Array Value}{f:Nat×Nat}(i d:Nat)(v:Value)(hI:∀w,S w->Piece.holds m w (.blk b (.cells c e f)))(h:WA P n ops Q ((k,S)::ks') fuel (done++[i]) ((d,v)::L) w)
  (ho:DJ P ops L i c.toList=some (d,b,v):=by kernel_rfl) (hd:Nat.blt d n=true:=by exact rfl) (hs:nW ops ((k,S)::ks') k i done=true:=by kernel_rfl):WA P n ops Q ((k,S)::ks') (fuel+1) done L w:=by
 unfold DJ at ho
 split at ho
 .rename_i ha
  split at ho
  .rename_i hb
   simp only[jY,Prod.mk.injEq] at ho
   obtain⟨z,hz,rfl,rfl,rfl⟩:=ho
   exact qFd i _ _ ha hd hs (.head _) hq.out hI hb hz h
  cases ho
 cases ho
theorem zIg{b o:Nat}{cs:List Value}(i d:Nat)(v:Value)(hr:MRow m b o cs)(h:WA P n ops Q ((k,fun w=>Inv m w/\S w)::ks') fuel (done++[i]) ((d,v)::L) w)
  (ho:AW P ops L i cs=some (d,b,o,v):=by kernel_rfl) (hd:Nat.blt d n=true:=by exact rfl) (hs:nW ops ((k,fun w=>Inv m w/\S w)::ks') k i done=true:=by kernel_rfl):WA P n ops Q ((k,fun w=>Inv m w/\S w)::ks') (fuel+1) done L w:=by
 unfold AW at ho
 split at ho
 .rename_i ha
  split at ho
  .rename_i hb
   simp only[jY,Prod.mk.injEq] at ho
   obtain⟨z,hz,rfl,rfl,rfl,rfl⟩:=ho
   exact qVf i _ _ ha hd hs (.head _) hq.out (fun _ h=>h.1) hb hr hz h
  cases ho
 cases ho
end
theorem eC{A B C:World->Prop}(w:World)(h:A w/\B w/\C w):B w:=h.2.1
theorem uN{A B C D:World->Prop}(w:World)(h:A w/\B w/\C w/\D w):C w:=h.2.2.1
theorem RepS.o{α:Type}{c:Codec α}{m m':Mem}{a:Option Addr}{cap:Nat}{l:List α}(h:RepS c m a cap l)(hle:m.le m'):RepS c m' a cap l:=h.mono hle
theorem MRow.o{m m':Mem}{b o:Nat}{cs:List Value}(h:MRow m b o cs)(hle:m.le m'):MRow m' b o cs:=h.mono hle
theorem MapQ.o{κ ν:Type}{ek:κ->Value}{c:Codec ν}{agg:Bool}{m m':Mem}{q:Option Nat}{es:Array MapEntry}{ck:Nat}{o:Option (List (κ×ν))}(h:MapQ ek c agg m q es ck o)(hle:m.le m'):MapQ ek c agg m' q es ck o:=h.mono hle
theorem ItR.o{κ ν:Type}{ek:κ->Value}{c:Codec ν}{agg:Bool}{m m':Mem}{es:Array MapEntry}{seen:Array Nat}{rem:List (κ×ν)}(h:ItR ek c agg m es seen rem)(hle:m.le m'):ItR ek c agg m' es seen rem:=h.mono hle
theorem aF{m m':Mem}{own:List Piece}{w:World}{p:Prop}(st:St m' own w)(hle:m.le m')(h:Inv m w->(∀{b:Nat} {o:Obj},List.Mem (Piece.blk b o) own->Piece.holds m w (.blk b o))->(∀{a:Option Addr} {cs:Array Value} {e:TypeId},List.Mem (bO a cs e) own->Piece.holds m w (bO a cs e))->p:=by
 intro hI hB hO
 repeat' first
  |with_reducible exact hI
  |with_reducible exact trivial
  |with_reducible refine And.intro ?_ ?_
  |with_reducible (refine hB ?_;(repeat' first|exact List.Mem.head _|apply List.Mem.tail);done)
  |with_reducible (refine hO ?_;(repeat' first|exact List.Mem.head _|apply List.Mem.tail);done)
  |(refine hB ?_;(repeat' first|exact List.Mem.head _|apply List.Mem.tail);done)
  |(refine hO ?_;(repeat' first|exact List.Mem.head _|apply List.Mem.tail);done)):p:=h (Inv.anti st.inv hle) (fun hm=>zFv st hle hm) (fun hm=>zFc st hle hm)
theorem aS{A S:Prop}(h:S):(A\/S)/\True:=⟨.inr h,trivial⟩
theorem uK{A B S T:Prop}(h:S)(b:B:=by kernel_rfl):(A\/S)/\(B\/T)/\True:=⟨.inr h,.inl b,trivial⟩
theorem lZ{A B S T:Prop}(h:S)(k:T):(A\/S)/\(B\/T)/\True:=⟨.inr h,.inr k,trivial⟩
abbrev PX(s:BA):Value:= .string s
abbrev qU(n:Int):Value:= .int .i64 n
abbrev eU(m m':Mem)(e:Ending)(v:Value)(X:List Piece)(w:World):Prop:=e= .returned v/\m.le m'/\St m' X w
abbrev eA(m m':Mem)(e:Ending)(v:Value)(X:List Piece)(w:World)(R:Prop):Prop:=e= .returned v/\m.le m'/\St m' X w/\R
section
variable {ρ:Option Nat} {P:Program} {n:Fr} {ops:Array Oper} {Q:Exit->Act->World->Prop} {i:Nat} {L:aZ} {w:World} {m:Mem} {own:List Piece} {N:aZ->World->Prop}
def mI(P:Program)(n:Nat)(ops:Array Oper)(k i:Nat)(L:aZ):aZ:=(nK P n ops k i L).getD []
theorem cH(k:Nat)(h:WO P n ops Q (i+k) (mI P n ops k i L) w)(h1:(nK P n ops k i L).isSome=true:=by kernel_rfl):WO P n ops Q i L w:=by
 cases hs:nK P n ops k i L with
 |none=>rw[hs] at h1;cases h1
 |some L'=>
  rw[mI,hs] at h
  exact qAj k i L L' w hs h
theorem bH{y:Code}(h:W ρ P n y Q (mI P n ops (ops.size-i) i L) w)(h1:(nK P n ops (ops.size-i) i L).isSome=true:=by kernel_rfl)(hi:ops.size=i+(ops.size-i):=by kernel_rfl):
 WO P n ops (Exit.then (fun a w=>y.wpIn (lV ρ) 0 P Q a w) Q) i L w:=cH (ops.size-i) (qBm hi h) h1
theorem bJ{id:Nat}{y:Code}(h:W none P n y Q (mI P n ops ops.size 0 L) w)(h1:(nK P n ops ops.size 0 L).isSome=true:=by kernel_rfl):W none P n (.seq (.region id ops false) y) Q L w:=
 aC (cH ops.size (qBm aa h) h1)
theorem bK{id:Nat}{y:Code}(k:Nat)(h:WO P n ops (Exit.then (fun a w=>y.wpIn (lV none) 0 P Q a w) Q) (0+k) (mI P n ops k 0 L) w)(h1:(nK P n ops k 0 L).isSome=true:=by kernel_rfl):W none P n (.seq (.region id ops false) y) Q L w:=
 aC (cH k h h1)
def JD(P:Program)(ops:Array Oper)(L:aZ)(i:Nat)(cs:List Value):aZ:=
 match AW P ops L i cs with
 |some q=>(q.1,q.2.2.2)::L
 |none=>L
theorem cI{b o:Nat}{cs:List Value}(hst:St m own w)(hr:MRow m b o cs)(h:WO P n ops Q (i+1) (JD P ops L i cs) w)
  (ho:(AW P ops L i cs).map (fun q=>(q.2.1,q.2.2.1,Nat.blt q.1 n))=some (b,o,true):=by kernel_rfl) (hi:Nat.blt i ops.size=true:=by exact rfl):WO P n ops Q i L w:=by
 simp only[jY,Prod.mk.injEq] at ho
 obtain⟨⟨d,b',o',v⟩,ho,rfl,rfl,hd⟩:=ho
 simp only[JD,ho] at h
 exact zHx d v hst hr h ho hd hi
def PO(P:Program)(ops:Array Oper)(L:aZ)(i:Nat)(cs:List Value):aZ:=
 match DJ P ops L i cs with
 |some q=>(q.1,q.2.2)::L
 |none=>L
theorem cF{e:TypeId}{b:Nat}{c:Array Value}{f:Nat×Nat}(hp:Piece.holds m w (.blk b (.cells c e f)))(h:WO P n ops Q (i+1) (PO P ops L i c.toList) w)
  (ho:(DJ P ops L i c.toList).map (fun q=>(q.2.1,Nat.blt q.1 n))=some (b,true):=by kernel_rfl) (hi:Nat.blt i ops.size=true:=by exact rfl):WO P n ops Q i L w:=by
 simp only[jY,Prod.mk.injEq] at ho
 obtain⟨⟨d,b',v⟩,ho,rfl,hd⟩:=ho
 simp only[PO,ho] at h
 exact zHm d v hp h ho hd hi
theorem aV{e:TypeId}{b:Nat}{c:Array Value}{f:Nat×Nat}(k:Nat)(hp:Piece.holds m w (.blk b (.cells c e f)))(h:WO P n ops Q (i+k+1) (PO P ops (mI P n ops k i L) (i+k) c.toList) w)
  (h1:(nK P n ops k i L).isSome=true:=by kernel_rfl) (ho:(DJ P ops (mI P n ops k i L) (i+k) c.toList).map (fun q=>(q.2.1,Nat.blt q.1 n))=some (b,true):=by kernel_rfl) (hi:Nat.blt (i+k) ops.size=true:=by exact rfl):WO P n ops Q i L w:=
 cH k (cF hp h ho hi) h1
def CU(P:Program)(ops:Array Oper)(L:aZ)(i:Nat)(v:Value):aZ:=
 match wC P ops L i with
 |some (some d,_)=>(d,v)::L
 |_=>L
theorem qLt{L:aZ}{i f:Nat}{args:Array Value}{v:Value}(h:(wC P ops L i).map (fun q=>(q.1.map fun d=>Nat.blt d n,q.2))=some (some true,f,args)):
  ∃d,wC P ops L i=some (some d,f,args)/\Nat.blt d n=true/\CU P ops L i v=(d,v)::L:=by
 simp only[jY,Prod.mk.injEq] at h
 obtain⟨⟨d',q⟩,h1,⟨d,rfl,hd⟩,rfl⟩:=h
 exact⟨d,h1,hd,by simp only[CU,h1]⟩
theorem bI{α β:Type}{f:Nat}{args:Array Value}{x:Option β}{k:β->Option α}{r:α}{T:β->Ending->World->Prop}(hr:x.bind k=some r)(hF:∀{y},x=some y->Calls P f args w (T y))
  (h:∀y,k y=some r->∀e w',T y e w'->GoOn (fun v=>WO P n ops Q (i+1) (CU P ops L i v) w') e) (ho:(wC P ops L i).map (fun q=>(q.1.map fun d=>Nat.blt d n,q.2))=some (some true,f,args):=by kernel_rfl) (hi:Nat.blt i ops.size=true:=by exact rfl):WO P n ops Q i L w:=by
 obtain⟨d,h1,hd,_⟩:=qLt (v:=undef) ho
 refine zFs d hr (fun _=>hF) (fun y hy e w' ht=> ?_) h1 hd hi
 have:=h y hy e w' ht
 simpa only[CU,h1] using this
theorem cJ{α β:Type}{f:Nat}{args:Array Value}{x:Option β}{k:β->Option α}{r:α}{T:β->Ending->World->Prop}(hr:x.bind k=some r)(hF:∀y,x=some y->Calls P f args w (T y))
  (h:∀y,k y=some r->∀e w',T y e w'->∃v,e= .returned v/\N (CU P ops L i v) w') (ho:(wC P ops L i).map (fun q=>(q.1.map fun d=>Nat.blt d n,q.2))=some (some true,f,args):=by kernel_rfl):iB P n ops Q i N L w:=by
 obtain⟨d,h1,hd,_⟩:=qLt (v:=undef) ho
 refine zCt d hr hF (fun y hy e w' ht=> ?_) h1 hd
 have:=h y hy e w' ht
 simpa only[CU,h1] using this
def zN(L:aZ):List ResultVar->Option (List Value)
 |[]=>some []
 | .tmp t::l=>match look L t with
  |some v=>(zN L l).map fun vs=>v::vs
  |none=>none
 |_::_=>none
theorem ZI:∀(l:List ResultVar) (vs:List Value),zN L l=some vs->ResAll P w L l vs
 |[],vs,h=>by cases h;rfl
 | .tmp t::l,vs,h=>by
  simp only[zN] at h
  split at h
  .rename_i v hv
   simp only[jY] at h
   obtain⟨vs',h1,rfl⟩:=h
   exact ResAll.cons (ResAt.tmp hv) (ZI l vs' h1)
  cases h
 | .cell _ _::_,_,h=>by cases h
theorem vJ{k:Nat}{fn:Func}{R:Ending->World->Prop}{v:Value}(h:R (.returned v) w)(hl:(zN L fn.results.toList).map vX=some v:=by kernel_rfl):X ⟨k,[]⟩ (bodyPost P fn R) .ret L w:=by
 simp only[jY] at hl
 obtain⟨vs,h1,rfl⟩:=hl
 exact AS fn.results.toList vs ae (ZI _ _ h1) h
theorem lO{k:Nat}{fn:Func}{R:Ending->World->Prop}[hq:RetQ P Q fn R]{v:Value}(h:R (.returned v) w)(hl:(zN L fn.results.toList).map vX=some v:=by kernel_rfl):X ⟨k,[]⟩ Q .ret L w:=
 fun a ha=>hq.out a w (vJ h hl a ha)
theorem lY{k:Nat}{fn:Func}{R:Ending->World->Prop}[hq:RetQ P Q fn R]{v:Value}(h:R (.returned v) w)(hl:(zN L fn.results.toList).map vX=some v:=by kernel_rfl):W ρ P ⟨k,[]⟩ .ret Q L w:=bU (lO h hl)
theorem mM{k:Nat}{fn:Func}{R:Ending->World->Prop}[hq:RetQ P Q fn R]{v:Value}(h:R (.returned v) w)(hl:(zN L fn.results.toList).map vX=some v:=by kernel_rfl):X ⟨k,[]⟩ (Exit.then (fun a w=>Code.ret.wpIn (lV ρ) 0 P Q a w) Q) .normal L w:=bC (lY h hl)
theorem eT{k:Nat}{fn:Func}{R:Ending->World->Prop}[hq:RetQ P Q fn R]{v:Value}(h:R (.returned v) w)(hl:(zN (mI P k ops (ops.size-i) i L) fn.results.toList).map vX=some v:=by kernel_rfl)(h1:(nK P k ops (ops.size-i) i L).isSome=true:=by kernel_rfl)(hi:ops.size=i+(ops.size-i):=by kernel_rfl):
 WO P ⟨k,[]⟩ ops (Exit.then (fun a w=>Code.ret.wpIn (lV ρ) 0 P Q a w) Q) i L w:=bH (lY h hl) h1 hi
theorem cO{id k:Nat}{fn:Func}{R:Ending->World->Prop}[hq:RetQ P Q fn R]{v:Value}(h:R (.returned v) w)(hl:(zN (mI P k ops ops.size 0 L) fn.results.toList).map vX=some v:=by kernel_rfl)(h1:(nK P k ops ops.size 0 L).isSome=true:=by kernel_rfl):
 W none P ⟨k,[]⟩ (.seq (.region id ops false) .ret) Q L w:=bJ (lY h hl) h1
def qQr(P:Program)(L:aZ)(c:Array Value):List ResultVar->Option (Option Value×Option Value×Value)
 | .cell s t::l=>(zN L l).map fun vs=>(look L s,tF P t c.toList,vX (.agg c::vs))
 |_=>none
theorem lQ{k:Nat}{fn:Func}{R:Ending->World->Prop}[hq:RetQ P Q fn R]{b e:Nat}{c:Array Value}{f:Nat×Nat}{v:Value}(hp:Piece.holds m w (.blk b (.cells c e f)))(h:R (.returned v) w)
  (ho:qQr P L c fn.results.toList=some (some (.pointer (some ⟨b,0,none⟩)),some (.agg c),v):=by kernel_rfl):X ⟨k,[]⟩ Q .ret L w:=by
 cases hf:fn.results.toList with
 |nil=>rw[hf] at ho;cases ho
 |cons x l=>
  rw[hf] at ho
  cases x with
  |tmp t=>cases ho
  |cell s t=>
   simp only[qQr,jY,Prod.mk.injEq] at ho
   obtain⟨vs,h1,h2,h3,rfl⟩:=ho
   exact fun a ha=>hq.out a w (AS (ResultVar.cell s t::l) (.agg c::vs) (by rw[<-hf]) (ResAll.cons (ResAt.blk (o:=0) h2 hp (by simpa using h3)) (ZI _ _ h1)) h a ha)
theorem iE{α β:Type}{c:Codec α}{a:Option Addr}{cap:Nat}{l:List α}{ix:Int}{k:α->Option β}{r:β}(hrp:RepS c m a cap l)(hr:(aO l ix).bind k=some r)
  (h:∀z,k z=some r->∀b o cs,c.rep m z cs->MRow m b o cs->WO P n ops Q (i+1) ((((VI P ops L i).map (·.1)).getD 0,.pointer (some ⟨b,o,none⟩))::L) w)
  (ho:(VI P ops L i).map (fun q=>(Nat.blt q.1 n,q.2))=some (true,.slice a l.length cap,ix,c.sz):=by kernel_rfl) (hi:Nat.blt i ops.size=true:=by exact rfl):WO P n ops Q i L w:=by
 simp only[jY,Prod.mk.injEq] at ho
 obtain⟨⟨d,q⟩,ho,hd,rfl⟩:=ho
 simp only[ho,gO,dW] at h
 exact zHr d hrp hr h ho hd hi
theorem eN{α:Type}{k:BA->Option α}{r:α}{a b:BA}(hr:(bG a b).bind k=some r)(h:∀s,k s=some r->WO P n ops Q (i+1) ((((VJ ops L i).map (·.1)).getD 0,.string s)::L) w)
  (ho:(VJ ops L i).map (fun q=>(Nat.blt q.1 n,q.2))=some (true,a,b):=by kernel_rfl) (hi:Nat.blt i ops.size=true:=by exact rfl):WO P n ops Q i L w:=by
 simp only[jY,Prod.mk.injEq] at ho
 obtain⟨⟨d,q⟩,ho,hd,rfl⟩:=ho
 simp only[ho,gO,dW] at h
 exact zHq d hr h ho hd hi
theorem aM{L':aZ}(k:Nat)(h:WO P n ops Q (i+k) L' w)(h1:(nK P n ops k i L).isSome=true:=by kernel_rfl)(hs:L'.map (fun p=>look (mI P n ops k i L) p.1)=L'.map fun p=>some p.2:=by kernel_rfl):WO P n ops Q i L w:=cH k (qQc h hs) h1
theorem eD(k:Nat)(h:X n Q .normal (mI P n ops k i L) w)(h1:(nK P n ops k i L).isSome=true:=by kernel_rfl)(hi:ops.size=i+k:=by exact rfl):WO P n ops Q i L w:=cH k (lK h hi) h1
theorem aL{y:Code}(h:W ρ P n y Q L w):W ρ P n .skip (Exit.then (fun a w=>y.wpIn (lV ρ) 0 P Q a w) Q) L w:=oQ (bC h)
theorem iL{L':aZ}(h:X n Q .normal L' w)(hs:L'.map (fun p=>look L p.1)=L'.map fun p=>some p.2:=by kernel_rfl):W ρ P n .skip Q L w:=oQ (xE h hs)
theorem mD{x y:Code}(h:W ρ P n x (Exit.then (fun a w=>y.wpIn (lV ρ) 0 P Q a w) Q) L w):X n (Exit.then (fun a w=>(Code.seq x y).wpIn (lV ρ) 0 P Q a w) Q) .normal L w:=bC (aG h)
theorem yG{id:Nat}{y:Code}(k:Nat)(h:WO P n ops (Exit.then (fun a w=>y.wpIn (lV none) 0 P Q a w) Q) (0+k) (mI P n ops k 0 L) w)(h1:(nK P n ops k 0 L).isSome=true:=by kernel_rfl):X n (Exit.then (fun a w=>(Code.seq (.region id ops false) y).wpIn (lV none) 0 P Q a w) Q) .normal L w:=bC (bK k h h1)
theorem cV{id:Nat}{K:Act->World->Prop}(h:X n Q (.exit id) L w):W ρ P n (.exit id) (Exit.then K Q) L w:=UT (MK h)
theorem cS{id:Nat}{K:Act->World->Prop}{L':aZ}(h:X n Q (.exit id) L' w)(hs:L'.map (fun p=>look L p.1)=L'.map fun p=>some p.2:=by kernel_rfl):X n (Exit.then K Q) (.exit id) L w:=MK (xE h hs)
theorem cA{id:Nat}{x y:Code}(h:W none P n x (Exit.then (fun a w=>y.wpIn (lV none) 0 P Q a w) Q) (mI P n ops ops.size 0 L) w)(h1:(nK P n ops ops.size 0 L).isSome=true:=by kernel_rfl):W none P n (.seq (.region id ops false) (.seq x y)) Q L w:=bJ (aG h) h1
theorem eF{x y:Code}(h:W ρ P n x (Exit.then (fun a w=>y.wpIn (lV ρ) 0 P Q a w) Q) (mI P n ops (ops.size-i) i L) w)(h1:(nK P n ops (ops.size-i) i L).isSome=true:=by kernel_rfl)(hi:ops.size=i+(ops.size-i):=by kernel_rfl):
 WO P n ops (Exit.then (fun a w=>(Code.seq x y).wpIn (lV ρ) 0 P Q a w) Q) i L w:=bH (aG h) h1 hi
theorem oL{id id':Nat}{y:Code}{ops':Array Oper}(h:WO P n ops' (Exit.then (fun a w=>y.wpIn (lV none) 0 P Q a w) Q) 0 (mI P n ops ops.size 0 L) w)(h1:(nK P n ops ops.size 0 L).isSome=true:=by kernel_rfl):W none P n (.seq (.region id ops false) (.seq (.region id' ops' false) y)) Q L w:=bJ (aC h) h1
theorem vA{id:Nat}{y:Code}{ops':Array Oper}(h:WO P n ops' (Exit.then (fun a w=>y.wpIn (lV none) 0 P Q a w) Q) 0 (mI P n ops (ops.size-i) i L) w)(h1:(nK P n ops (ops.size-i) i L).isSome=true:=by kernel_rfl)(hi:ops.size=i+(ops.size-i):=by kernel_rfl):
 WO P n ops (Exit.then (fun a w=>(Code.seq (.region id ops' false) y).wpIn (lV none) 0 P Q a w) Q) i L w:=bH (aC h) h1 hi
theorem lL{id:Nat}{c:Code}(h:W ρ P n c (Exit.inBlock id Q) (mI P n ops (ops.size-i) i L) w)(h1:(nK P n ops (ops.size-i) i L).isSome=true:=by kernel_rfl)(hi:ops.size=i+(ops.size-i):=by kernel_rfl):
 WO P n ops (Exit.then (fun a w=>(Code.block id c).wpIn (lV ρ) 0 P Q a w) Q) i L w:=bH (bA h) h1 hi
theorem iN{id:Nat}(k:Nat)(h:WO P n ops Q (0+k) (mI P n ops k 0 L) w)(h1:(nK P n ops k 0 L).isSome=true:=by kernel_rfl):W none P n (.region id ops false) Q L w:=tV (cH k h h1)
theorem cB{id:Nat}(k:Nat)(h:X n Q .normal (mI P n ops k 0 L) w)(h1:(nK P n ops k 0 L).isSome=true:=by kernel_rfl)(hi:ops.size=0+k:=by exact rfl):W none P n (.region id ops false) Q L w:=tV (eD k h h1 hi)
theorem qI{id:Nat}{y:Code}(h:W ρ P n y Q L w):X n (Exit.inBlock id (Exit.then (fun a w=>y.wpIn (lV ρ) 0 P Q a w) Q)) .normal L w:=nA (bC h)
theorem eS{id:Nat}{y:Code}(h:W ρ P n y Q L w):X n (Exit.inBlock id (Exit.then (fun a w=>y.wpIn (lV ρ) 0 P Q a w) Q)) (.exit id) L w:=uT (bC h)
theorem lC{id:Nat}{y:Code}(h:W ρ P n y Q L w):W ρ P n .skip (Exit.inBlock id (Exit.then (fun a w=>y.wpIn (lV ρ) 0 P Q a w) Q)) L w:=oQ (qI h)
theorem iX{id:Nat}{L':aZ}(h:X n Q .normal L' w)(hs:L'.map (fun p=>look L p.1)=L'.map fun p=>some p.2:=by kernel_rfl):X n (Exit.inBlock id Q) .normal L w:=nA (xE h hs)
theorem rZ{L':aZ}(h:X n Q .normal L' w)(hi:ops.size=i:=by exact rfl)(hs:L'.map (fun p=>look L p.1)=L'.map fun p=>some p.2:=by kernel_rfl):WO P n ops Q i L w:=lK (xE h hs) hi
theorem eR{α β:Type}{f:Nat}{args:Array Value}{x:Option β}{k:β->Option α}{r:α}{T:β->Ending->World->Prop}(j:Nat)(hr:x.bind k=some r)(hF:∀{y},x=some y->Calls P f args w (T y))
 (h:∀y,k y=some r->∀e w',T y e w'->GoOn (fun v=>WO P n ops Q (i+j+1) (CU P ops (mI P n ops j i L) (i+j) v) w') e) (h1:(nK P n ops j i L).isSome=true:=by kernel_rfl) (ho:(wC P ops (mI P n ops j i L) (i+j)).map (fun q=>(q.1.map fun d=>Nat.blt d n,q.2))=some (some true,f,args):=by kernel_rfl)
 (hi:Nat.blt (i+j) ops.size=true:=by exact rfl):WO P n ops Q i L w:=cH j (bI hr hF h ho hi) h1
theorem aY{id:Nat}{y':Code}{α β:Type}{f:Nat}{args:Array Value}{x:Option β}{k:β->Option α}{r:α}{T:β->Ending->World->Prop}(j:Nat)(hr:x.bind k=some r)(hF:∀{y},x=some y->Calls P f args w (T y))
 (h:∀y,k y=some r->∀e w',T y e w'->GoOn (fun v=>WO P n ops (Exit.then (fun a w=>y'.wpIn (lV none) 0 P Q a w) Q) (0+j+1) (CU P ops (mI P n ops j 0 L) (0+j) v) w') e) (h1:(nK P n ops j 0 L).isSome=true:=by kernel_rfl) (ho:(wC P ops (mI P n ops j 0 L) (0+j)).map (fun q=>(q.1.map fun d=>Nat.blt d n,q.2))=some (some true,f,args):=by kernel_rfl)
 (hi:Nat.blt (0+j) ops.size=true:=by exact rfl):W none P n (.seq (.region id ops false) y') Q L w:=aC (eR j hr hF h h1 ho hi)
theorem cW{b o:Nat}{cs:List Value}(k:Nat)(hst:St m own w)(hr:MRow m b o cs)(h:WO P n ops Q (i+k+1) (JD P ops (mI P n ops k i L) (i+k) cs) w)
 (h1:(nK P n ops k i L).isSome=true:=by kernel_rfl) (ho:(AW P ops (mI P n ops k i L) (i+k) cs).map (fun q=>(q.2.1,q.2.2.1,Nat.blt q.1 n))=some (b,o,true):=by kernel_rfl) (hi:Nat.blt (i+k) ops.size=true:=by exact rfl):WO P n ops Q i L w:=cH k (cI hst hr h ho hi) h1
theorem iQ{id:Nat}{y:Code}{b o:Nat}{cs:List Value}(k:Nat)(hst:St m own w)(hr:MRow m b o cs)(h:WO P n ops (Exit.then (fun a w=>y.wpIn (lV none) 0 P Q a w) Q) (0+k+1) (JD P ops (mI P n ops k 0 L) (0+k) cs) w)
 (h1:(nK P n ops k 0 L).isSome=true:=by kernel_rfl) (ho:(AW P ops (mI P n ops k 0 L) (0+k) cs).map (fun q=>(q.2.1,q.2.2.1,Nat.blt q.1 n))=some (b,o,true):=by kernel_rfl) (hi:Nat.blt (0+k) ops.size=true:=by exact rfl):W none P n (.seq (.region id ops false) y) Q L w:=aC (cW k hst hr h h1 ho hi)
theorem bP{α:Type}{b:Bool}{A B:Option α}{r:α}(k t:Nat)(hr:(if b then A else B)=some r)(ht:b=true->A=some r->WO P n ops Q (i+k) ((t,.bool true)::mI P n ops k i L) w)(hf:b=false->B=some r->WO P n ops Q (i+k) ((t,.bool false)::mI P n ops k i L) w)
 (h1:(nK P n ops k i L).isSome=true:=by kernel_rfl) (hl:look (mI P n ops k i L) t=some (.bool b):=by kernel_rfl):WO P n ops Q i L w:=cH k (zIe t hr ht hf hl) h1
theorem eK{α:Type}{y z:Code}{c:Operand}{b:Bool}{A B:Option α}{r:α}(hr:(if b then A else B)=some r)(ht:b=true->A=some r->W ρ P n y Q (mI P n ops (ops.size-i) i L) w)(hf:b=false->B=some r->W ρ P n z Q (mI P n ops (ops.size-i) i L) w)
 (h1:(nK P n ops (ops.size-i) i L).isSome=true:=by kernel_rfl) (hi:ops.size=i+(ops.size-i):=by kernel_rfl) (hc:aW (mI P n ops (ops.size-i) i L) c=some (.bool b):=by kernel_rfl):
 WO P n ops (Exit.then (fun a w=>(Code.cond c y z).wpIn (lV ρ) 0 P Q a w) Q) i L w:=bH (aK hr ht hf hc) h1 hi
theorem bF{id:Nat}{α:Type}{y z:Code}{c:Operand}{b:Bool}{A B:Option α}{r:α}(hr:(if b then A else B)=some r)(ht:b=true->A=some r->W none P n y Q (mI P n ops ops.size 0 L) w)(hf:b=false->B=some r->W none P n z Q (mI P n ops ops.size 0 L) w)
 (h1:(nK P n ops ops.size 0 L).isSome=true:=by kernel_rfl) (hc:aW (mI P n ops ops.size 0 L) c=some (.bool b):=by kernel_rfl):W none P n (.seq (.region id ops false) (.cond c y z)) Q L w:=bJ (aK hr ht hf hc) h1
variable [hq:QC Q] {ks':List (Nat×(World->Prop))} {k fuel:Nat} {S:World->Prop} {done:List Nat}
def psD(P:Program)(n:Fr)(ops:Array Oper)(ks:List (Nat×(World->Prop)))(k:Nat)(l done:List Nat)(L:aZ):aZ:=qBz L ((FJ P n ops ks k l done L).getD [])
theorem qOj{ks:List (Nat×(World->Prop))}(hmem:(k,S)∈ks):∀(l:List Nat) (fuel:Nat) (done:List Nat) (L r:aZ),FJ P n ops ks k l done L=some r->WA P n ops Q ks fuel (done++l) (qBz L r) w->WA P n ops Q ks (fuel+l.length) done L w
 |[],_,done,L,r,hg,h=>by cases hg;rw[jV] at h;exact h
 |x::l,fuel,done,L,r,hg,h=>by
  simp only[FJ] at hg
  cases h1:VD P n ops ks k x done L with
  |none=>rw[h1] at hg;cases hg
  |some q=>
   rw[h1] at hg
   dsimp only at hg
   cases h2:FJ P n ops ks k l (done++[x]) (q::L) with
   |none=>rw[h2] at hg;cases hg
   |some r'=>
    rw[h2] at hg
    cases hg
    refine zHw hmem h1 (qOj hmem l fuel (done++[x]) (q::L) r' h2 ?_)
    rw[jE]
    exact h
theorem aX(m:Nat)(l:List Nat)(h:WA P n ops Q ((k,S)::ks') fuel (done++l) (psD P n ops ((k,S)::ks') k l done L) w)
  (hg:(FJ P n ops ((k,S)::ks') k l done L).isSome=true:=by kernel_rfl) (hm:l.length=m:=by exact rfl):WA P n ops Q ((k,S)::ks') (fuel+m) done L w:=by
 subst hm
 cases hs:FJ P n ops ((k,S)::ks') k l done L with
 |none=>rw[hs] at hg;cases hg
 |some r=>
  rw[psD,hs] at h
  exact qOj (List.Mem.head _) l fuel done L r hs h
def qPw(P:Program)(ops:Array Oper)(L:aZ)(i:Nat):aZ:=
 match CP P ops L i with
 |some q=>q::L
 |none=>L
theorem aT(i:Nat)(h:WA P n ops Q ((k,S)::ks') fuel (done++[i]) (qPw P ops L i) w)(ho:(CP P ops L i).map (fun q=>Nat.blt q.1 n)=some true:=by kernel_rfl)(hs:nW ops ((k,S)::ks') k i done=true:=by kernel_rfl):WA P n ops Q ((k,S)::ks') (fuel+1) done L w:=by
 simp only[jY] at ho
 obtain⟨⟨d,v⟩,ho,hd⟩:=ho
 simp only[qPw,ho] at h
 exact zHk i d v h ho hd hs
theorem eI{e:Nat}{b:Nat}{c:Array Value}{f:Nat×Nat}(i:Nat)(hI:∀w,S w->Piece.holds m w (.blk b (.cells c e f)))(h:WA P n ops Q ((k,S)::ks') fuel (done++[i]) (PO P ops L i c.toList) w)
  (ho:(DJ P ops L i c.toList).map (fun q=>(q.2.1,Nat.blt q.1 n))=some (b,true):=by kernel_rfl) (hs:nW ops ((k,S)::ks') k i done=true:=by kernel_rfl):WA P n ops Q ((k,S)::ks') (fuel+1) done L w:=by
 simp only[jY,Prod.mk.injEq] at ho
 obtain⟨⟨d,b',v⟩,ho,rfl,hd⟩:=ho
 simp only[PO,ho] at h
 exact zHy i d v hI h ho hd hs
theorem cR{b o:Nat}{cs:List Value}(i:Nat)(hr:MRow m b o cs)(h:WA P n ops Q ((k,fun w=>Inv m w/\S w)::ks') fuel (done++[i]) (JD P ops L i cs) w)
  (ho:(AW P ops L i cs).map (fun q=>(q.2.1,q.2.2.1,Nat.blt q.1 n))=some (b,o,true):=by kernel_rfl) (hs:nW ops ((k,fun w=>Inv m w/\S w)::ks') k i done=true:=by kernel_rfl):WA P n ops Q ((k,fun w=>Inv m w/\S w)::ks') (fuel+1) done L w:=by
 simp only[jY,Prod.mk.injEq] at ho
 obtain⟨⟨d,b',o',v⟩,ho,rfl,rfl,hd⟩:=ho
 simp only[JD,ho] at h
 exact zIg i d v hr h ho hd hs
end
end
end Go.Dc
namespace Go.Proofs.YteclmpmonbnooaaGreatDoor
section
open Go Go.Dc
abbrev Ta:=BA
abbrev Tb:=List Ta
abbrev Tc:=Option Tb
abbrev Td:=Option Int
abbrev Te:=List Int
abbrev Tf:=Te×Int
abbrev Tg:=Tf×Int
abbrev Th:=Tf×Ta
abbrev Ti:=Option Th
abbrev Tj:=Option (Int⊕Unit⊕Bool)
abbrev Tk:=Option Bool
abbrev Tl:=Option Ta
abbrev Tm:=Ta×Int×Tf
abbrev Tn:=Ta×Tf
abbrev To:=Ta×Tb×Int×Tf
abbrev Tp:=Ta×Int
abbrev Tq:=Tp⊕Ta
abbrev Tr:=Ta×Ta
abbrev Ts:=List Tr
abbrev Tt:=Int×Ts
abbrev Tu:=Bool×Ts
abbrev Tv:=List UInt8
abbrev Tw:=Tv×Int×Tf
abbrev Tx:=Ts×Tf
abbrev Ty:=Int×Tx
abbrev Tz:=Tf×Ts
abbrev T16:=Int⊕Unit⊕Tz
abbrev pQ:=List Tp
abbrev JZ:=pQ×Tf
abbrev T19:=Tf×pQ
abbrev T1a:=Tf×Tr
abbrev mF:=Int×Int
abbrev DP:=Int×mF
abbrev zR:=Option (Int⊕Unit⊕Int)
abbrev JS:=Int×Ta×mF
abbrev sF:=List JS
abbrev nL:=Int×Int×Int×Ta×Te
abbrev eX:=List nL
abbrev eQ:=sF×Int×Int×Int×Tb×eX×Te
abbrev T1j:=eQ×JS
abbrev PQ:=eQ×Bool
abbrev GA:=Option (Bool×eQ)
abbrev tP:=Option eQ
abbrev GE:=eQ×Ta
abbrev DQ:=Int×Ta×Tb×eX
abbrev zQ:=List DQ
abbrev eL:=Ta×Tb×zQ
abbrev rI:=eQ×Int
abbrev mS:=Option rI
abbrev PF:=Te×eQ
abbrev vN:=Int×eQ
abbrev T1v:=vN⊕vN
abbrev T1w:=vN⊕T1v
abbrev xI:=sF×Int×Int×Int×Tb×eX×Te×Tb
abbrev T1y:=eQ×DQ
abbrev T1z:=sF×Int×Int×Int×Tb×eX×Tf
abbrev PI:=sF×Int×Int×Int×Tb×eX×Te×zQ
abbrev PC:=List eL
abbrev mQ:=Tb×PC
abbrev GB:=Ta×Ta×mF
abbrev GF:=Int×GB
abbrev DL:=Ta×Ta×JS
abbrev pG:=Int×Tr
abbrev iW:=List pG
abbrev BJ:=Int×iW
abbrev yK:=iW×Int
abbrev zU:=DP×Bool×yK
abbrev T2b:=zU×mF
abbrev iY:=Ts×mQ×pQ×Int×T2b
abbrev sD:=T2b×Int
abbrev mR:=Option sD
abbrev PY:=DL×yK
abbrev T2g:=Int×Int×Int×Bool×iW×DP
abbrev T2h:=Te×Int×T2g
abbrev sC:=Option (List mF)
abbrev GD:=Int×Tb
abbrev PT:=Ta×GD
abbrev KB:=Tv×Int
abbrev rL:=Tb×Int
abbrev C1:=tL aD aD
abbrev C2:=aI .i64
abbrev C3:=tL aD C2
abbrev C4:=tL C2 (tL aD (tL C2 C2))
abbrev C5:=tL C2 (tL C2 (tL C2 (tL aD (DN C2))))
abbrev C6:=tL C2 (tL aD (tL (DN aD) (DN C5)))
abbrev C7:=tL aD (tL (DN aD) (DN C6))
abbrev C8:=tL C2 C1
abbrev vS{α:Type}(a:Option Addr)(l:List α)(c:Nat):Value:= .slice a (List.length l) c
abbrev vP(b o:Nat):Value:= .pointer (some ⟨b,o,none⟩)
abbrev vI(x:Int):Value:= .int .i64 x
abbrev vT(s:BA):Value:= .string s
abbrev vB(b:Bool):Value:= .bool b
abbrev eB:BA:=⟨#[]⟩
abbrev aP(b:Nat):Option Addr:=some ⟨b,0,none⟩
abbrev kB(b:Nat)(c:Array Value)(e:Nat):Piece:= .blk b (.cells c e (0,0))
abbrev kR{α:Type}(a:Option Addr)(l:List α)(c e s:Nat):Piece:= .room a (List.length l) c e s
abbrev V1{α0:Type}(p:List α0×Int)(a0:Option Addr)(c0:Nat):Array Value:= #[vS a0 p.1 c0,vI p.2]
abbrev V2(p:BA×BA):Array Value:= #[vT p.1,vT p.2]
abbrev V3(p:Int×BA×Int×Int):Array Value:= #[vI p.1,vT p.2.1,vI p.2.2.1,vI p.2.2.2]
abbrev V4(x0:Int)(x1:BA)(x2:Int)(x3:Int):Array Value:= #[vI x0,vT x1,vI x2,vI x3]
abbrev V5{α0:Type}{α4:Type}{α5:Type}{α6:Type}(p:List α0×Int×Int×Int×List α4×List α5×List α6)(a0:Option Addr)(c0:Nat)(a4:Option Addr)(c4:Nat)(a5:Option Addr)(c5:Nat)(a6:Option Addr)(c6:Nat):Array Value:= #[vS a0 p.1 c0,vI p.2.1,vI p.2.2.1,vI p.2.2.2.1,vS a4 p.2.2.2.2.1 c4,vS a5 p.2.2.2.2.2.1 c5,vS a6 p.2.2.2.2.2.2 c6]
abbrev V6{α0:Type}{α4:Type}{α5:Type}{α6:Type}(a0:Option Addr)(l0:List α0)(c0:Nat)(x1:Int)(x2:Int)(x3:Int)(a4:Option Addr)(l4:List α4)(c4:Nat)(a5:Option Addr)(l5:List α5)(c5:Nat)(a6:Option Addr)(l6:List α6)(c6:Nat):Array Value:= #[vS a0 l0 c0,vI x1,vI x2,vI x3,vS a4 l4 c4,vS a5 l5 c5,vS a6 l6 c6]
abbrev V7{α1:Type}{α2:Type}(p:BA×List α1×List α2)(a1:Option Addr)(c1:Nat)(a2:Option Addr)(c2:Nat):Array Value:= #[vT p.1,vS a1 p.2.1 c1,vS a2 p.2.2 c2]
abbrev V8{α2:Type}{α3:Type}(p:Int×BA×List α2×List α3)(a2:Option Addr)(c2:Nat)(a3:Option Addr)(c3:Nat):Array Value:= #[vI p.1,vT p.2.1,vS a2 p.2.2.1 c2,vS a3 p.2.2.2 c3]
abbrev V9{α4:Type}(p:Int×Int×Int×BA×List α4)(a4:Option Addr)(c4:Nat):Array Value:= #[vI p.1,vI p.2.1,vI p.2.2.1,vT p.2.2.2.1,vS a4 p.2.2.2.2 c4]
abbrev Va{α4:Type}(p:Int×Int×Int×BA×List α4)(a4:Option Addr)(c4:Nat):List Value:=[vI p.1,vI p.2.1,vI p.2.2.1,vT p.2.2.2.1,vS a4 p.2.2.2.2 c4]
abbrev Vb{α1:Type}{α2:Type}(p:BA×List α1×List α2)(a1:Option Addr)(c1:Nat)(a2:Option Addr)(c2:Nat):List Value:=[vT p.1,vS a1 p.2.1 c1,vS a2 p.2.2 c2]
abbrev Vc{α2:Type}{α3:Type}(p:Int×BA×List α2×List α3)(a2:Option Addr)(c2:Nat)(a3:Option Addr)(c3:Nat):List Value:=[vI p.1,vT p.2.1,vS a2 p.2.2.1 c2,vS a3 p.2.2.2 c3]
abbrev Vd{α0:Type}{α1:Type}(p:List α0×List α1)(a0:Option Addr)(c0:Nat)(a1:Option Addr)(c1:Nat):Array Value:= #[vS a0 p.1 c0,vS a1 p.2 c1]
abbrev Ve(p:BA×BA×Int×BA×Int×Int):Array Value:= #[vT p.1,vT p.2.1,vI p.2.2.1,vT p.2.2.2.1,vI p.2.2.2.2.1,vI p.2.2.2.2.2]
abbrev Vf(x0:BA)(x1:BA)(x2:Int)(x3:BA)(x4:Int)(x5:Int):Array Value:= #[vT x0,vT x1,vI x2,vT x3,vI x4,vI x5]
abbrev Vg{α0:Type}{α1:Type}(p:List α0×List α1)(a0:Option Addr)(c0:Nat)(a1:Option Addr)(c1:Nat):List Value:=[vS a0 p.1 c0,vS a1 p.2 c1]
abbrev Vh(p:Int×BA×BA):Array Value:= #[vI p.1,vT p.2.1,vT p.2.2]
abbrev Vi(p:Int×BA×BA):List Value:=[vI p.1,vT p.2.1,vT p.2.2]
abbrev Vj(x0:Int)(x1:BA)(x2:BA):Array Value:= #[vI x0,vT x1,vT x2]
abbrev Vk{α4:Type}(x0:Int)(x1:Int)(x2:Int)(x3:Bool)(a4:Option Addr)(l4:List α4)(c4:Nat)(x5:Int):Array Value:= #[vI x0,vI x1,vI x2,vB x3,vS a4 l4 c4,vI x5]
abbrev Vl(p:Int×Int×Int):Array Value:= #[vI p.1,vI p.2.1,vI p.2.2]
abbrev ba:BA:=⟨#[97,46,115,114,99]⟩
abbrev bb:BA:=⟨#[98,46,115,114,99]⟩
abbrev bc:BA:=⟨#[100,47,99,46,115,114,99]⟩
abbrev bd:BA:=⟨#[120,46,115,114,99]⟩
abbrev be:BA:=⟨#[112]⟩
abbrev bf:BA:=⟨#[116]⟩
abbrev bg:BA:=⟨#[97,46,100,97,116]⟩
abbrev bh:BA:=⟨#[100,47,98,46,100,97,116]⟩
abbrev bi:BA:=⟨#[99]⟩
abbrev bj:BA:=⟨#[110]⟩
abbrev bk:BA:=⟨#[109]⟩
abbrev bl:BA:=⟨#[48,49,50,51,52,53,54,55,56,57]⟩
abbrev bm:BA:=⟨#[102]⟩
abbrev bn:BA:=⟨#[34,41]⟩
abbrev bo:BA:=⟨#[41]⟩
abbrev bp:BA:=⟨#[43]⟩
abbrev bq:BA:=⟨#[45]⟩
abbrev br:BA:=⟨#[42]⟩
abbrev bs:BA:=⟨#[47]⟩
abbrev bu:BA:=⟨#[37]⟩
abbrev bv:BA:=⟨#[60]⟩
abbrev bw:BA:=⟨#[61,61]⟩
abbrev bx:BA:=⟨#[102,117,110,99]⟩
abbrev bz:BA:=⟨#[34]⟩
abbrev JT:BA:=⟨#[112,97,99,107,97,103,101]⟩
abbrev JV:BA:=⟨#[105,109,112,111,114,116]⟩
abbrev JL:BA:=⟨#[116,101,115,116]⟩
abbrev JN:BA:=⟨#[103,101,110]⟩
abbrev KF:BA:=⟨#[105,102]⟩
abbrev KD:BA:=⟨#[116,104,101,110]⟩
abbrev JR:BA:=⟨#[101,108,115,101]⟩
abbrev JP:BA:=⟨#[114,101,97,100]⟩
abbrev JW:BA:=⟨#[115,105,122,101]⟩
abbrev JQ:BA:=⟨#[104,97,115]⟩
abbrev JX:BA:=⟨#[101,110,118]⟩
abbrev KC:BA:=⟨#[102,108,105,112]⟩
abbrev PK:BA:=⟨#[97,98,99,100,101,102,103,104,105,106,107,108,109,110,111,112,113,114,115,116,117,118,119,120,121,122]⟩
abbrev PP:BA:=⟨#[95]⟩
abbrev PW:BA:=⟨#[46]⟩
abbrev PG:BA:=⟨#[9,10,13,32]⟩
abbrev PN:BA:=⟨#[35]⟩
abbrev PZ:BA:=⟨#[59,44,40,41,43,45,42,47,37,60,61]⟩
abbrev BH:BA:=⟨#[32]⟩
abbrev P1{X1:Type}{X2:Type}{X3:Type}(m:Mem)(a0:Option Addr)(c0:Nat)(a1:Option Addr)(c1:Nat)(a2:Option Addr)(c2:Nat)(a3:Option Addr)(c3:Nat)(p:(List ((Int)×((BA)×((Int)×(Int)))))×((X3)×((X2)×((X1)×((List (BA))×((List ((Int)×((Int)×((Int)×((BA)×(List (Int)))))))×(List (Int)))))))):Prop:=RepS C4 m a0 c0 p.1/\RepS aD m a1 c1 p.2.2.2.2.1/\RepS C5 m a2 c2 p.2.2.2.2.2.1/\RepS (aI .i64) m a3 c3 p.2.2.2.2.2.2
abbrev P2(m:Mem)(a0:Option Addr)(c0:Nat)(a1:Option Addr)(c1:Nat)(p:(List (BA))×(List ((Int)×((Int)×((Int)×((BA)×(List (Int)))))))):Prop:=RepS aD m a0 c0 p.1/\RepS C5 m a1 c1 p.2
abbrev P3{X1:Type}{X2:Type}{X3:Type}{X4:Type}(m:Mem)(a0:Option Addr)(c0:Nat)(a1:Option Addr)(c1:Nat)(a2:Option Addr)(c2:Nat)(a3:Option Addr)(c3:Nat)(p:(List ((Int)×((BA)×((Int)×(Int)))))×((X4)×((X3)×((X2)×((List (BA))×((List ((Int)×((Int)×((Int)×((BA)×(List (Int)))))))×((List (Int))×(X1)))))))):Prop:=RepS C4 m a0 c0 p.1/\RepS aD m a1 c1 p.2.2.2.2.1/\RepS C5 m a2 c2 p.2.2.2.2.2.1/\RepS (aI .i64) m a3 c3 p.2.2.2.2.2.2.1
abbrev P4{X1:Type}{X2:Type}{X3:Type}(m:Mem)(a0:Option Addr)(c0:Nat)(a1:Option Addr)(c1:Nat)(a2:Option Addr)(c2:Nat)(a3:Option Addr)(c3:Nat)(a4:Option Addr)(c4:Nat)(p:(List ((Int)×((BA)×((Int)×(Int)))))×((X3)×((X2)×((X1)×((List (BA))×((List ((Int)×((Int)×((Int)×((BA)×(List (Int)))))))×((List (Int))×(List (BA))))))))):Prop:=RepS C4 m a0 c0 p.1/\RepS aD m a1 c1 p.2.2.2.2.1/\RepS C5 m a2 c2 p.2.2.2.2.2.1/\RepS (aI .i64) m a3 c3 p.2.2.2.2.2.2.1/\RepS aD m a4 c4 p.2.2.2.2.2.2.2
abbrev P5(m:Mem)(a0:Option Addr)(c0:Nat)(a1:Option Addr)(c1:Nat)(p:(List (BA))×(List ((Int)×((BA)×((List (BA))×(List ((Int)×((Int)×((Int)×((BA)×(List (Int)))))))))))):Prop:=RepS aD m a0 c0 p.1/\RepS C6 m a1 c1 p.2
abbrev P6(m:Mem)(a0:Option Addr)(c0:Nat)(a1:Option Addr)(c1:Nat)(p:(List (BA))×(List ((BA)×((List (BA))×(List ((Int)×((BA)×((List (BA))×(List ((Int)×((Int)×((Int)×((BA)×(List (Int))))))))))))))):Prop:=RepS aD m a0 c0 p.1/\RepS C7 m a1 c1 p.2
abbrev P7{X1:Type}(m:Mem)(a0:Option Addr)(c0:Nat)(a1:Option Addr)(c1:Nat)(a2:Option Addr)(c2:Nat)(a3:Option Addr)(c3:Nat)(p:(List ((BA)×(BA)))×(((List (BA))×(List ((BA)×((List (BA))×(List ((Int)×((BA)×((List (BA))×(List ((Int)×((Int)×((Int)×((BA)×(List (Int)))))))))))))))×((List ((BA)×(Int)))×(X1)))):Prop:=RepS C1 m a0 c0 p.1/\RepS aD m a1 c1 p.2.1.1/\RepS C7 m a2 c2 p.2.1.2/\RepS C3 m a3 c3 p.2.2.1
abbrev _root_.Go.Dc.St.f1:=@Go.Dc.St.front1
abbrev _root_.Go.Dc.St.f11:=@Go.Dc.St.front11
abbrev _root_.Go.Dc.St.f2:=@Go.Dc.St.front2
abbrev _root_.Go.Dc.St.f3:=@Go.Dc.St.front3
abbrev _root_.Go.Dc.St.f4:=@Go.Dc.St.front4
abbrev _root_.Go.Dc.St.f5:=@Go.Dc.St.front5
abbrev _root_.Go.Dc.St.f6:=@Go.Dc.St.front6
abbrev _root_.Go.Dc.St.f7:=@Go.Dc.St.front7
abbrev _root_.Go.Dc.St.f8:=@Go.Dc.St.front8
abbrev _root_.Go.Dc.St.f9:=@Go.Dc.St.front9
abbrev _root_.Go.Dc.St.h:=@Go.Dc.St.head
abbrev _root_.Go.Dc.St.t:=@Go.Dc.St.tail
abbrev wr(x:Int):Int:=IntKind.wrap .i64 x
abbrev v2:Value:=vS none ([]:Tb) 0
abbrev v6:Value:= .slice none 0 0
abbrev v7:Value:=vS none ([]:Ts) 0
abbrev v8:Value:=vS none ([]:sF) 0
abbrev va:Value:=vS none ([]:Te) 0
abbrev vb:Value:=vS none ([]:eX) 0
abbrev vc:Value:=vS none ([]:zQ) 0
abbrev vd:Value:=vS none ([]:PC) 0
abbrev ve:Value:=vS none ([]:iW) 0
abbrev cP(x:pG):List Value:=Vi x
abbrev nQ(x:BA):List Value:=[vT x]
abbrev wF{α β γ δ ε φ:Type}(b:Nat)(a:Option Addr)(a1:Nat)(c1:Option Addr)(a2:Nat)(c2:Option Addr)(a3:Nat)(c3:Option Addr)(c:Nat)(p:List α×(List β×List γ)×List δ×Int×φ)(x y z:Int)(u:Bool)(a':Option Addr)(l:List ε)(c':Nat)(v e d:Int):Piece:=kB b #[vS a p.1 a1,vS c1 p.2.1.1 a2,vS c2 p.2.1.2 a3,vS c3 p.2.2.1 c,.int .u64 p.2.2.2.1,vI x,vI y,vI z,vB u,vS a' l c',vI v,vI e,vI d] 87
abbrev iP{α β γ δ ε φ:Type}(b:Nat)(a:Option Addr)(a1:Nat)(c1:Option Addr)(a2:Nat)(c2:Option Addr)(a3:Nat)(c3:Option Addr)(c:Nat)(p:List α×(List β×List γ)×List δ×Int×φ)(r:(Int×Int×Int)×Bool×List ε×Int)(a':Option Addr)(c':Nat)(e d:Int):Piece:=wF b a a1 c1 a2 c2 a3 c3 c p r.1.1 r.1.2.1 r.1.2.2 r.2.1 a' r.2.2.1 c' r.2.2.2 e d
abbrev oN:Array Value:=V4 0 eB 0 0
abbrev lU:Array Value:=Vf eB eB 0 eB 0 0
abbrev BL:Array Value:=Vj 0 eB eB
end
end Go.Proofs.YteclmpmonbnooaaGreatDoor
