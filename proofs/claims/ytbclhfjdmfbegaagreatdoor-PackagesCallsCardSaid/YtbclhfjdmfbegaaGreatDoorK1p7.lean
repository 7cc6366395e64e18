/- No condition but those of each theorem. -/
import Derived.Test.YtbclhfjdmfbegaaGreatDoorProg
import Derived.WalkKit
import Derived.Deep.LoopGhost
import Derived.KernelRfl
import Derived.OrdersHeld
import Derived.OrdersIn
import Derived.LoopNIn
import Derived.Sort.LoopGhostIn
import Derived.Laws.AppendOwn
import Derived.RangeFuncLeaves
import Derived.RangeFuncRecord
import Derived.MapKept
import Derived.Maps.RangeRun
import Derived.ChangeKeysEq
import Derived.HandedShaped
import Derived.ChangeStays
import Derived.ChangeSame
import Derived.OpenShut
import Derived.WideShapes
import Derived.JoinedOf
import Derived.ReadAgain
import Derived.ChangeAt
import Derived.RowKit
import Derived.Lib.Overlaps
import Derived.Shelf.SlSortCmp.NoneTotal
import Derived.Shelf.Sort.Plain
import Derived.Shelf.Slices.In.SortNone
import Derived.WalkSmall
import Derived.Recover
namespace Go
section
abbrev j0:=@Option.bind_some
abbrev j6:=@decide_eq_true_eq
abbrev j9:=@Bool.false_eq_true
abbrev jA:=@List.length_cons
abbrev jB:=@List.length_nil
abbrev jC:=@if_false
abbrev jD:=@Option.some.inj
abbrev jE:=@if_true
abbrev jF:=@List.length_append
abbrev jG:=@Option.some.injEq
abbrev jH:=@Option.bind_eq_some_iff
abbrev jI:=@List.mem_cons
abbrev jJ:=@List.drop_eq_getElem_cons
abbrev jK:=@List.mem_cons_self
abbrev jL:=@decide_eq_true
abbrev jM:=@List.foldl_cons
abbrev jN:=@Nat.le_refl
abbrev jO:=@List.size_toArray
abbrev jP:=@Bool.not_true
abbrev jQ:=@List.mem_cons_of_mem
abbrev jR:=@Bool.and_eq_true
abbrev jS:=@decide_eq_false
abbrev jT:=@List.drop_eq_nil_of_le
abbrev jU:=@List.eq_nil_of_length_eq_zero
abbrev jV:=@List.pairwise_cons
abbrev jW:=@List.getElem_mem
abbrev jX:=@List.all_eq_true
abbrev jY:=@Bool.eq_iff_iff
abbrev jZ:=@Nat.zero_le
abbrev kA:=@List.drop_zero
abbrev kC:=@Bool.not_false
abbrev kD:=@Sum.map_inr
abbrev kE:=@beq_iff_eq
abbrev kF:=@Nat.add_mul
abbrev kG:=@Option.map_some
abbrev kH:=@Option.map_eq_some_iff
abbrev kI:=@Int.toNat_natCast
abbrev kJ:=@List.map_cons
abbrev kK:=@List.nil_append
abbrev kL:=@List.cons.injEq
abbrev kM:=@List.flatMap_cons
abbrev kN:=@beq_self_eq_true
abbrev kO:=@Nat.mul_le_mul_right
abbrev kP:=@List.getD_eq_getElem?_getD
abbrev kQ:=@List.take_append_of_le_length
abbrev kS:=@List.length_drop
abbrev kT:=@Nat.zero_add
abbrev kU:=@List.length_map
abbrev kV:=@Nat.le_of_ble_eq_true
abbrev kW:=@List.filter_cons
abbrev kX:=@List.take_succ_eq_append_getElem
abbrev kY:=@Nat.not_lt_zero
abbrev kZ:=@List.not_mem_nil
abbrev gA:=@List.drop_append_of_le_length
abbrev gB:=@Int.natCast_succ
abbrev gC:=@of_decide_eq_true
abbrev gD:=@List.append_assoc
abbrev gE:=@Bool.false_ne_true
abbrev gF:=@List.perm_middle
abbrev gG:=@List.takeWhile_cons_of_pos
abbrev gH:=@bne_self_eq_false
abbrev gI:=@List.mem_map_of_mem
abbrev gJ:=@List.nodup_nil
abbrev gK:=@List.extract_eq_take_drop
abbrev gL:=@List.length_filter_le
abbrev gM:=@List.mem_append_left
abbrev gN:=@Bool.true_and
abbrev gO:=@Nat.add_zero
abbrev gP:=@Option.bind_assoc
abbrev gQ:=@List.nodup_cons
abbrev gS:=@List.mem_append
abbrev gT:=@Array.toList_modify
abbrev gU:=@List.take_of_length_le
abbrev gV:=@List.takeWhile_cons_of_neg
abbrev gW:=@Option.getD_some
abbrev gX:=@Nat.eq_of_beq_eq_true
abbrev gY:=@List.mem_map
abbrev gZ:=@List.mem_of_find?_eq_some
abbrev fA:=@Array.toList_extract
abbrev fB:=@bne_iff_ne
abbrev fC:=@List.mem_filter
abbrev fD:=@List.map_inj_left
abbrev fE:=@Bool.or_eq_true
abbrev fF:=@Array.toList_push
abbrev fG:=@Nat.lt_or_ge
abbrev fH:=@Nat.le_trans
abbrev fI:=@Nat.add_assoc
abbrev fJ:=@List.length_pos_iff
abbrev fK:=@List.filterMap_cons
abbrev fL:=@List.length_take
abbrev fM:=@List.cons_append
abbrev fN:=@List.any_eq_true
abbrev fO:=@List.mem_range
abbrev fP:=@Nat.add_comm
abbrev fQ:=@List.foldl_append
abbrev fR:=@Bool.not_eq_true'
abbrev fT:=@List.take_length
abbrev fU:=@List.drop_length
abbrev fV:=@List.drop_append
abbrev fW:=@Nat.one_mul
abbrev fX:=@List.toList_toArray
abbrev fY:=@List.map_congr_left
abbrev fZ:=@List.getElem_modify
abbrev hB:=@Option.isSome_iff_exists
abbrev hD:=@Option.isSome_some
abbrev hH:=@Nat.add_sub_cancel
abbrev hJ:=@List.mem_singleton
abbrev hO:=@List.length_eq_zero_iff
abbrev hQ:=@List.takeWhile_sublist
abbrev hU:=@List.getElem_cons_drop
abbrev hZ:=@List.ext_getElem?
abbrev dA:=@Array.size_append
abbrev dB:=@Bool.false_and
abbrev dC:=@List.getElem_map
abbrev dD:=@or_false
abbrev dE:=@Bool.false_or
abbrev dF:=@Bool.and_true
abbrev BA:=ByteArray
end
end Go
namespace Go.Dc
section
theorem kr{p:Prop}(h:p:=by kernel_rfl):p:=h
abbrev bP:=List (Nat×Value)
def eH:bP->Nat->Option Value
 |[],_=>none
 |(k,v)::L,t=>bif Nat.beq k t then some v else eH L t
theorem qFo(A L:bP)(t:Nat):eH (A++L) t=(eH A t).or (eH L t):=by
 induction A with
 |nil=>simp[eH]
 |cons p A a=>obtain⟨k,v⟩:=p;simp only[fM,eH];cases Nat.beq k t<;>simp[a]
def bU(L:bP):Operand->Option Value
 | .tmp t=>eH L t
 | .const v=>some v
 | .global g=>some (.pointer (some ⟨g,0,none⟩))
 | .func f=>some (.func (.func f) #[] #[])
theorem ev{L:bP}{x:Operand}(v:Value)(h:bU L x=some v:=by kernel_rfl):bU L x=some v:=h
def lU(L:bP)(x:Operand):Value:=(bU L x).getD undef
structure Fr where
 sz:Nat
 marks:List Deferred
instance:Coe Fr Nat:=⟨Fr.sz⟩
def Fits(n:Fr)(a:Act)(L:bP):Prop:=a.tmps.size=n.sz/\a.defers=n.marks/\∀t v,eH L t=some v->a.tmps[t]? =some v
theorem Fits.ev{n:Fr}{a:Act}{L:bP}(h:Fits n a L){x:Operand}{v:Value}(b:bU L x=some v):a.eval x=v:=by
 cases x with
 |tmp t=>simp[Act.eval,h.2.2 t v b]
 |const u=>simp[bU] at b;simp[Act.eval,b]
 |global g=>simp[bU] at b;simp[Act.eval,b]
 |func f=>simp[bU] at b;simp[Act.eval,b]
def VV:Op->Bool
 | .select .. =>false
 |_=>true
def LP(L:bP):List Operand->Bool
 |[]=>true
 |x::l=>(bU L x).isSome&&LP L l
def nA(L:bP)(o:Op):Bool:=VV o&&LP L o.operands.toList
theorem qFf{L:bP}{l:List Operand}(h:LP L l=true):∀x∈l,(bU L x).isSome=true:=by
 induction l with
 |nil=>simp
 |cons y l b=>
  simp only[LP,jR] at h
  intro x a
  rcases jI.1 a with rfl|a
  .exact h.1
  exact b h.2 x a
theorem Fits.exec{n:Fr}{a:Act}{L:bP}(h:Fits n a L){o:Oper}(ok:nA L o.op=true):execOp a.eval o=execOp (lU L) o:=by
 simp only[nA,jR] at ok
 refine execOp_congr o ?_ ?_
 .intro cs b c;rw[c] at ok;simp[VV] at ok
 intro x d
 have:=qFf ok.2 x (by simpa using d)
 obtain⟨v,c⟩:=hB.1 this
 rw[h.ev c];simp[lU,c]
theorem Fits.put{n:Fr}{a:Act}{L:bP}(h:Fits n a L){d:Nat}(g:Nat.blt d n=true)(v:Value):Fits n (a.put (some d) v) ((d,v)::L):=by
 obtain⟨c,e,f⟩:=h
 have hd':d<n:=by simpa[Nat.blt_eq] using g
 refine⟨by simp[Act.put,c],by simp[Act.put,e],?_⟩
 intro t u b
 simp only[eH] at b
 simp only[Act.put]
 by_cases hdt:d=t
 .subst hdt
  simp at b;subst b
  simp[Array.getElem?_setIfInBounds,c,hd']
 have:Nat.beq d t=false:=by cases hb:Nat.beq d t<;>simp_all [Nat.beq_eq]
 rw[this] at b
 simp[Array.getElem?_setIfInBounds,hdt,f t u b]
theorem Fits.sub{n:Fr}{a:Act}{L L':bP}(h:Fits n a L)(b:∀t v,eH L' t=some v->eH L t=some v):Fits n a L':=
 ⟨h.1,h.2.1,fun t v c=>h.2.2 t v (b t v c)⟩
def oZ(P:Program){α:Type}:Sem α->Option α
 | .pure a=>some a
 | .program k=>oZ P (k P)
 | .mark _ k=>oZ P k
 |_=>none
theorem vU{P:Program}{α:Type}{s:Sem α}{a:α}(h:oZ P s=some a)(w:World):s.run P w= .ok a w:=by
 induction s with
 |pure b=>simp[oZ] at h;subst h;rfl
 |program k c=>exact c P h
 |mark m k c=>exact c h
 |_=>simp[oZ] at h
def mG(ops:Array Oper)(L:bP)(g:Option (Nat×Bool)):Option Bool:=
 match g with
 |none=>some true
 |some (j,want)=>match(ops[j]?).bind (·.dst) with
  |none=>some false
  |some t=>match eH L t with
   |none=>none
   |some (.bool b)=>some (bif want then b else !b)
   |some _=>some false
theorem Fits.wanted{n:Fr}{a:Act}{L:bP}(h:Fits n a L){ops:Array Oper}{o:Oper}{b:Bool}(c:mG ops L o.guard=some b):
  Region.wanted o (yielded ops a.tmps)=b:=by
 unfold mG at c
 unfold Region.wanted
 cases f:o.guard with
 |none=>simp[f] at c;simp[c]
 |some jw=>
  obtain⟨j,want⟩:=jw
  simp only[f] at c
  simp only[yielded]
  cases e:(ops[j]?).bind (·.dst) with
  |none=>simp[e] at c;subst c;rfl
  |some t=>
   simp only[e] at c
   cases d:eH L t with
   |none=>simp[d] at c
   |some v=>
    have:=h.2.2 t v d
    simp only[d] at c
    cases v<;>simp_all<;>(subst c;cases want<;>simp)
def putL(n:Nat)(d:Option Nat)(v:Value)(L:bP):Option bP:=
 match d with
 |none=>some L
 |some d=>bif Nat.blt d n then some ((d,v)::L) else none
def IY:Option Next->Option Value
 |some (.value v)=>some v
 |some .skip=>some undef
 |_=>none
def qT(P:Program)(n:Nat)(ops:Array Oper):Nat->Nat->bP->Option bP
 |0,_,L=>some L
 |k+1,i,L=>match ops[i]? with
  |none=>none
  |some o=>match mG ops L o.guard with
   |none=>none
   |some false=>(putL n o.dst undef L).bind fun L=>qT P n ops k (i+1) L
   |some true=>bif nA L o.op then(IY (oZ P (execOp (lU L) o))).bind fun v=>(putL n o.dst v L).bind fun L=>qT P n ops k (i+1) L else none
def tE(ops:Array Oper):Nat->Nat->List Nat
 |0,_=>[]
 |k+1,i=>((ops[i]?).bind (·.dst)).toList++tE ops k (i+1)
def mO(ρ:Option Nat):Fence:={Fence.wide with round:=ρ}
def mV(P:Program)(ops:Array Oper)(Q:Exit->Act->World->Prop)(i:Nat)(K:Act->World->Prop)(a:Act)(w:World):Prop:=
 match ops[i]? with
 |none=>K a w
 |some o=>if Region.wanted o (yielded ops a.tmps) then o.uponIn Fence.wide 0 P a K Q ((execOp a.eval o).run P w) else K (a.put o.dst undef) w
def wF(P:Program)(ops:Array Oper)(Q:Exit->Act->World->Prop):List Nat->Act->World->Prop
 |[],a,w=>Q .normal a w
 |i::rest,a,w=>mV P ops Q i (wF P ops Q rest) a w
theorem TR{ρ:Option Nat}{P:Program}{o:Oper}{a:Act}{K K':Act->World->Prop}{Q:Exit->Act->World->Prop}{r:Result Next}(h:∀a w,K a w->K' a w)(c:o.uponIn Fence.wide 0 P a K Q r):o.uponIn (mO ρ) 0 P a K' Q r:=by
 cases r with
 |ok x w'=>
  cases x<;>simp only[Oper.uponIn] at c ⊢ <;>
   first
    |exact h _ _ c
    |exact⟨fun e=>by simp[mO,Fence.wide] at e,CallsIn.mono (F:=mO ρ) c.2 (fun e w'' b=>by cases e<;>first|exact h _ _ b|exact b)⟩
    |exact⟨fun e=>by simp[mO,Fence.wide] at e,RowsIn.mono (F:=mO ρ) c.2 (fun _ _ b=>h _ _ b)⟩
    |exact⟨fun e=>by simp[mO,Fence.wide] at e,RoundIn.mono (F:=mO ρ) c.2 (fun e w'' b=>by cases e<;>first|exact h _ _ b|exact b)⟩
 |halt x w'=>cases x<;>simp only[Oper.uponIn] at c ⊢ <;>exact c
theorem LE{P:Program}{ops:Array Oper}{Q:Exit->Act->World->Prop}{i:Nat}{K K':Act->World->Prop}{a:Act}{w:World}(h:∀a w,K a w->K' a w)(b:mV P ops Q i K a w):mV P ops Q i K' a w:=by
 unfold mV at*
 split
 .rename_i ho;simp only[ho] at b;exact h _ _ b
 rename_i o ho
 simp only[ho] at b
 split
 .rename_i hw;simp only[hw,jE] at b;exact TR (ρ:=none) h b
 rename_i hw;simp only[hw] at b;exact h _ _ b
def CK(ρ:Option Nat)(ops:Array Oper):Bool:=
 match ρ with
 |none=>true
 |some _=>ops.toList.all fun o=>match o.op with
  | .defer _=>false
  |_=>true
theorem qFb{ρ:Option Nat}{ops:Array Oper}(h:CK ρ ops=true){i:Nat}{o:Oper}(b:ops[i]? =some o)(ev:Operand->Value):o.semAt ρ ev=execOp ev o:=by
 cases ρ with
 |none=>rfl
 |some l=>
  refine Oper.semAt_eq _ _ _ fun c a=> ?_
  have:=jX.1 h o (by simpa using Array.mem_of_getElem? b)
  rw[a] at this
  exact gE this
theorem qAb{ρ:Option Nat}{P:Program}{ops:Array Oper}{Q:Exit->Act->World->Prop}(d:CK ρ ops=true){i:Nat}{K K':Act->World->Prop}(b:∀a w,K a w->K' a w){a:Act}{w:World}(h:mV P ops Q i K a w):wpOpIn (mO ρ) 0 P ops Q i K' a w:=by
 unfold mV at h
 unfold wpOpIn
 cases c:ops[i]? with
 |none=>simp only[c] at h ⊢;exact b _ _ h
 |some o=>
  simp only[c] at h ⊢
  by_cases hw:Region.wanted o (yielded ops a.tmps)=true
  .simp only[hw,jE] at h ⊢
   refine⟨fun _ _=>trivial,?_⟩
   have e:o.semAt (mO ρ).round a.eval=execOp a.eval o:=qFb d c a.eval
   rw[e]
   exact TR b h
  simp only[hw] at h ⊢
  exact⟨fun _ _=>trivial,b _ _ h⟩
theorem ZS{ρ:Option Nat}{P:Program}{ops:Array Oper}{Q:Exit->Act->World->Prop}(b:CK ρ ops=true):∀(l:List Nat) (a:Act) (w:World),wF P ops Q l a w->wpOpsIn (mO ρ) 0 P ops Q l a w
 |[],_,_,h=>h
 |i::rest,a,w,h=>by
  rw[wpOpsIn_cons]
  exact qAb b (ZS b rest) h
def WO(P:Program)(n:Fr)(ops:Array Oper)(Q:Exit->Act->World->Prop)(i:Nat)(L:bP)(w:World):Prop:=
 ∀a,Fits n a L->wF P ops Q (List.range' i (ops.size-i)) a w
theorem GT{ops:Array Oper}{i:Nat}{o:Oper}(h:ops[i]? =some o):List.range' i (ops.size-i)=i::List.range' (i+1) (ops.size-(i+1)):=by
 have hi:i<ops.size:=(Array.getElem?_eq_some_iff.1 h).1
 have:ops.size-i=(ops.size-(i+1))+1:=by omega
 rw[this,List.range'_succ]
theorem Fits.putL{n:Fr}{a:Act}{L L':bP}(h:Fits n a L){d:Option Nat}{v:Value}(b:Dc.putL n d v L=some L'):Fits n (a.put d v) L':=by
 cases d with
 |none=>simp[Dc.putL] at b;subst b;exact h
 |some d=>
  simp only[Dc.putL] at b
  cases c:Nat.blt d n with
  |false=>simp[c] at b
  |true=>simp[c] at b;subst b;exact h.put c v
section
variable {P:Program} {n:Fr} {ops:Array Oper} {Q:Exit->Act->World->Prop}
theorem PP:∀(k i:Nat) (L L':bP) (w:World),qT P n ops k i L=some L'->WO P n ops Q (i+k) L' w->WO P n ops Q i L w
 |0,i,L,L',w,h,g=>by simp[qT] at h;subst h;exact g
 |k+1,i,L,L',w,h,g=>by
  intro a f
  simp only[qT] at h
  cases l:ops[i]? with
  |none=>simp[l] at h
  |some o=>
   simp only[l] at h
   rw[GT l]
   simp only[wF,mV,l]
   cases q:mG ops L o.guard with
   |none=>simp[q] at h
   |some b=>
    have c:=f.wanted q
    cases b with
    |false=>
     simp only[q] at h
     obtain⟨L1,r,s⟩:=jH.1 h
     simp only[c,j9,jC]
     exact PP k (i+1) L1 L' w s (by rw[fI,fP 1 k];exact g) _ (f.putL r)
    |true=>
     simp only[q] at h
     cases e:nA L o.op with
     |false=>simp[e] at h
     |true=>
      simp only[e,cond_true] at h
      obtain⟨v,p,h⟩:=jH.1 h
      obtain⟨L1,r,s⟩:=jH.1 h
      simp only[c,jE]
      have next:=PP k (i+1) L1 L' w s (by rw[fI,fP 1 k];exact g) _ (f.putL r)
      rw[f.exec e]
      cases d:oZ P (execOp (lU L) o) with
      |none=>simp[d,IY] at p
      |some nx=>
       rw[vU d w]
       cases nx<;>simp[d,IY] at p
       case value u=>subst p;exact next
       case skip=>subst p;exact next
def yM(P:Program)(n:Nat)(ops:Array Oper)(k i:Nat)(L:bP)(ks:List Nat):Option (List (Option Value)):=(qT P n ops k i L).map fun L'=>ks.map (eH L')
def DC(d:Nat):bP->Bool
 |[]=>false
 |p::l=>Nat.beq p.1 d||DC d l
def tY(L new:bP):List Nat->Bool
 |[]=>true
 |d::l=>(DC d new||(eH L d).isNone)&&tY L new l
theorem VZ{d:Nat}:∀{l:bP},DC d l=true->∃v,eH l d=some v
 |[],h=>by simp[DC] at h
 |(k,v)::l,h=>by
  simp only[DC,fE] at h
  simp only[eH]
  cases hb:Nat.beq k d with
  |true=>exact⟨v,rfl⟩
  |false=>simp[hb] at h;exact VZ h
theorem vN{d:Nat}{v:Value}:∀{l:bP},eH l d=some v->(d,v)∈l
 |[],h=>by simp[eH] at h
 |(k,u)::l,h=>by
  simp only[eH] at h
  cases a:Nat.beq k d with
  |true=>simp[a] at h;subst h;have:=gX a;subst this;exact jK ..
  |false=>simp[a] at h;exact jQ _ (vN h)
theorem TB{L new:bP}:∀{l:List Nat},tY L new l=true->∀d∈l,DC d new=true\/eH L d=none
 |[],_=>by simp
 |e::l,h=>by
  simp only[tY,jR,fE,Option.isNone_iff_eq_none] at h
  intro d a
  rcases jI.1 a with rfl|a
  .exact h.1
  exact TB h.2 d a
theorem ON:∀(k i:Nat) (L L':bP),qT P n ops k i L=some L'->∀t,t∉tE ops k i->eH L' t=eH L t
 |0,i,L,L',h,t,_=>by simp[qT] at h;subst h;rfl
 |k+1,i,L,L',h,t,c=>by
  simp only[qT] at h
  cases g:ops[i]? with
  |none=>simp[g] at h
  |some o=>
   simp only[g] at h
   simp only[tE,g,j0,gS,not_or] at c
   have put:∀v L1,putL n o.dst v L=some L1->eH L1 t=eH L t:=by
    intro v L1 a
    cases e:o.dst with
    |none=>simp[putL,e] at a;subst a;rfl
    |some d=>
     simp only[putL,e] at a
     cases f:Nat.blt d n with
     |false=>simp[f] at a
     |true=>
      simp[f] at a;subst a
      have l:d≠t:=by rintro rfl;exact c.1 (by simp[e])
      have:Nat.beq d t=false:=by cases hq:Nat.beq d t<;>simp_all [Nat.beq_eq]
      simp[eH,this]
   cases l:mG ops L o.guard with
   |none=>simp[l] at h
   |some b=>
    cases b with
    |false=>
     simp only[l] at h
     obtain⟨L1,a,f⟩:=jH.1 h
     rw[ON k (i+1) L1 L' f t c.2,put _ _ a]
    |true=>
     simp only[l] at h
     cases e:nA L o.op with
     |false=>simp[e] at h
     |true=>
      simp only[e,cond_true] at h
      obtain⟨v,p,h⟩:=jH.1 h
      obtain⟨L1,a,f⟩:=jH.1 h
      rw[ON k (i+1) L1 L' f t c.2,put _ _ a]
theorem QB{i:Nat}{L:bP}{w:World}(k:Nat)(new:bP)(f:yM P n ops k i L (new.map (·.1))=some (new.map fun p=>some p.2))
  (o:tY L new (tE ops k i)=true) (h:WO P n ops Q (i+k) (new++L) w):WO P n ops Q i L w:=by
 simp only[yM,kH] at f
 obtain⟨L',g,s⟩:=f
 refine PP k i L L' w g ?_
 intro a r
 refine h a (r.sub ?_)
 intro t v b
 rw[qFo] at b
 cases hn:eH new t with
 |some u=>
  simp[hn] at b;subst b
  have e:=vN hn
  have:∀(l:bP),l.map (eH L'∘(·.1))=l.map (fun p=>some p.2)->∀p∈l,eH L' p.1=some p.2:=by
   intro l d p c
   induction l with
   |nil=>simp at c
   |cons q l x=>
    simp only[kJ,kL,Function.comp] at d
    rcases jI.1 c with rfl|c
    .exact d.1
    exact x (by simpa[Function.comp] using d.2) c
  exact this new (by simpa using s) (t,u) e
 |none=>
  simp[hn] at b
  by_cases hw:t∈tE ops k i
  .rcases TB o t hw with c|d
   .obtain⟨u,e⟩:=VZ c;rw[e] at hn;cases hn
   rw[d] at b;cases b
  rw[ON k i L L' g t hw];exact b
def cX(ops:Array Oper)(L:bP)(i:Nat):Option (Option Nat×Op):=
 match ops[i]? with
 |none=>none
 |some o=>match mG ops L o.guard with
  |some true=>bif nA L o.op then some (o.dst,o.op) else none
  |_=>none
theorem GZ{L:bP}{i:Nat}{d:Option Nat}{op:Op}(h:cX ops L i=some (d,op)):
  ∃o,ops[i]? =some o/\o.dst=d/\o.op=op/\mG ops L o.guard=some true/\nA L o.op=true:=by
 unfold cX at h
 cases e:ops[i]? with
 |none=>simp[e] at h
 |some o=>
  simp only[e] at h
  cases a:mG ops L o.guard with
  |none=>simp[a] at h
  |some b=>
   cases b with
   |false=>simp[a] at h
   |true=>
    simp only[a] at h
    cases c:nA L o.op with
    |false=>simp[c] at h
    |true=>
     simp[c] at h
     exact⟨o,rfl,h.1,h.2,a,c⟩
def dX(P:Program)(n:Fr)(ops:Array Oper)(Q:Exit->Act->World->Prop)(i:Nat)(N:bP->World->Prop)(L:bP)(w:World):Prop:=
 ∀a,Fits n a L->mV P ops Q i (fun a' w'=>∃L',Fits n a' L'/\N L' w') a w
theorem bQ{i:Nat}{L:bP}{w:World}(hi:Nat.blt i ops.size=true)(h:dX P n ops Q i (fun L w=>WO P n ops Q (i+1) L w) L w):WO P n ops Q i L w:=by
 have hi':i<ops.size:=by simpa[Nat.blt_eq] using hi
 intro a d
 have e:ops[i]? =some ops[i]:=Array.getElem?_eq_getElem hi'
 rw[GT e]
 have fin:∀a' w',(∃L',Fits n a' L'/\WO P n ops Q (i+1) L' w')->wF P ops Q (List.range' (i+1) (ops.size-(i+1))) a' w':=fun a' w' ⟨L',b,c⟩=>c a' b
 exact LE fin (h a d)
section
variable {N:bP->World->Prop}
theorem lQ{i d:Nat}{op:Op}{L:bP}{w w':World}{v:Value}(q:cX ops L i=some (some d,op))(p:Nat.blt d n=true)
  (c:∀o:Oper,o.op=op->(execOp (lU L) o).run P w= .ok (.value v) w')
  (h:N ((d,v)::L) w'):dX P n ops Q i N L w:=by
 obtain⟨o,e,f,g,k,l⟩:=GZ q
 intro a b
 unfold mV
 simp only[e,b.wanted k,jE]
 rw[b.exec l,c o g,Oper.uponIn_value,f]
 exact⟨_,b.put p v,h⟩
theorem yD{i:Nat}{op:Op}{L:bP}{w w':World}(l:cX ops L i=some (none,op))
  (c:∀o:Oper,o.op=op->(execOp (lU L) o).run P w= .ok .skip w')
  (h:N L w'):dX P n ops Q i N L w:=by
 obtain⟨o,d,e,f,g,k⟩:=GZ l
 intro a b
 unfold mV
 simp only[d,b.wanted g,jE]
 rw[b.exec k,c o f,Oper.uponIn_skip,e]
 exact⟨_,b,h⟩
theorem CE{i d:Nat}{op:Op}{L:bP}{w w':World}{v:Value}(q:cX ops L i=some (some d,op))(l:Nat.blt d n=true)
  (c:∀o:Oper,o.op=op->∃v' w',(execOp (lU L) o).run P w= .ok (.value v') w'/\N ((d,v')::L) w'):dX P n ops Q i N L w:=by
 obtain⟨o,e,f,g,h,k⟩:=GZ q
 obtain⟨v',w'',r,p⟩:=c o g
 intro a b
 unfold mV
 simp only[e,b.wanted h,jE]
 rw[b.exec k,r,Oper.uponIn_value,f]
 exact⟨_,b.put l v',p⟩
def rW(P:Program)(ops:Array Oper)(L:bP)(i:Nat):Option (Option Nat×Nat×Array Value):=
 match ops[i]? with
 |none=>none
 |some o=>match mG ops L o.guard with
  |some true=>bif nA L o.op then(match oZ P (execOp (lU L) o) with
   |some (.enter f args)=>some (o.dst,f,args)
   |_=>none) else none
  |_=>none
theorem TX{L:bP}{i f:Nat}{d:Option Nat}{args:Array Value}(h:rW P ops L i=some (d,f,args)):
  ∃o,ops[i]? =some o/\o.dst=d/\mG ops L o.guard=some true/\nA L o.op=true/\oZ P (execOp (lU L) o)=some (.enter f args):=by
 unfold rW at h
 cases e:ops[i]? with
 |none=>simp[e] at h
 |some o=>
  simp only[e] at h
  cases a:mG ops L o.guard with
  |none=>simp[a] at h
  |some b=>
   cases b with
   |false=>simp[a] at h
   |true=>
    simp only[a] at h
    cases c:nA L o.op with
    |false=>simp[c] at h
    |true=>
     simp only[c,cond_true] at h
     split at h
     .rename_i f' args' he
      simp only[jG,Prod.mk.injEq] at h
      obtain⟨g,rfl,rfl⟩:=h
      exact⟨o,rfl,g,a,c,he⟩
     cases h
theorem mH{i:Nat}{L:bP}{w:World}(d f:Nat)(args:Array Value)(q:rW P ops L i=some (some d,f,args))(k:Nat.blt d n=true)
  (h:Calls P f args w fun e w'=>∃v,e= .returned v/\N ((d,v)::L) w'):dX P n ops Q i N L w:=by
 obtain⟨o,c,g,r,p,l⟩:=TX q
 intro a b
 unfold mV
 simp only[c,b.wanted r,jE]
 rw[b.exec p,vU l w,Oper.uponIn_enter]
 refine⟨fun e=>by simp[Fence.wide] at e,CallsIn.mono (callsIn_wide.2 h) ?_⟩
 rintro e w' ⟨v,rfl,hk'⟩
 rw[g]
 exact⟨_,b.put k v,hk'⟩
end
theorem aU{L:bP}{w:World}{i:Nat}(hi:ops.size=i)(h:∀a,Fits n a L->Q .normal a w):WO P n ops Q i L w:=by
 intro a b
 subst hi
 simp only[Nat.sub_self,List.range'_zero,wF]
 exact h a b
theorem bD{i:Nat}{L:bP}{w:World}(L':bP)(d:L'.map (fun p=>eH L p.1)=L'.map fun p=>some p.2)(h:WO P n ops Q i L' w):WO P n ops Q i L w:=by
 intro a b
 refine h a (b.sub ?_)
 intro t v e
 have c:=vN e
 have:=(fD.1 d) (t,v) c
 exact this
end
def W(ρ:Option Nat)(P:Program)(n:Fr)(c:Code)(Q:Exit->Act->World->Prop)(L:bP)(w:World):Prop:=∀a,Fits n a L->c.wpIn (mO ρ) 0 P Q a w
def X(n:Fr)(Q:Exit->Act->World->Prop)(e:Exit)(L:bP)(w:World):Prop:=∀a,Fits n a L->Q e a w
section
variable {ρ:Option Nat} {P:Program} {n:Fr} {Q:Exit->Act->World->Prop} {L:bP} {w:World}
theorem aB{y:Code}(h:W ρ P n y Q L w):X n (Exit.then (fun a w=>y.wpIn (mO ρ) 0 P Q a w) Q) .normal L w:=h
theorem bC{K:Act->World->Prop}{id:Nat}(h:X n Q (.exit id) L w):X n (Exit.then K Q) (.exit id) L w:=h
theorem aR{K:Act->World->Prop}(h:X n Q .ret L w):X n (Exit.then K Q) .ret L w:=h
theorem bN{id:Nat}(h:X n Q .normal L w):X n (Exit.inBlock id Q) .normal L w:=h
theorem bI{id:Nat}(h:X n Q .ret L w):X n (Exit.inBlock id Q) .ret L w:=h
theorem cO{id:Nat}(h:X n Q .normal L w):X n (Exit.inBlock id Q) (.exit id) L w:=by
 intro a b;simp only[Exit.inBlock,jE];exact h a b
theorem vK{id id':Nat}(b:Nat.beq id' id=false)(h:X n Q (.exit id') L w):X n (Exit.inBlock id Q) (.exit id') L w:=by
 intro a c
 have:¬id'=id:=by rintro rfl;simp at b
 simp only[Exit.inBlock,if_neg this];exact h a c
theorem aF{x y:Code}(h:W ρ P n x (Exit.then (fun a w=>y.wpIn (mO ρ) 0 P Q a w) Q) L w):W ρ P n (.seq x y) Q L w:=fun a b=>wpIn_seq (h a b)
theorem aL(h:X n Q .normal L w):W ρ P n .skip Q L w:=fun a b=>wpIn_skip (h a b)
theorem aO(h:X n Q .ret L w):W ρ P n .ret Q L w:=fun a b=>wpIn_ret (h a b)
theorem cJ{id:Nat}(h:X n Q (.exit id) L w):W ρ P n (.exit id) Q L w:=fun a b=>wpIn_exit (h a b)
theorem bB{id:Nat}{c:Code}(h:W ρ P n c (Exit.inBlock id Q) L w):W ρ P n (.block id c) Q L w:=fun a b=>wpIn_block (h a b)
theorem qJa{id:Nat}{ops:Array Oper}(c:CK ρ ops=true)(h:WO P n ops Q 0 L w):W ρ P n (.region id ops false) Q L w:=by
 intro a b
 refine wpIn_region (ZS c _ _ _ ?_)
 have:=h a b
 simpa[List.range_eq_range'] using this
theorem bA{id:Nat}{ops:Array Oper}(h:WO P n ops Q 0 L w):W none P n (.region id ops false) Q L w:=qJa rfl h
theorem qB{c:Operand}{x y:Code}(b:Bool)(e:bU L c=some (.bool b))(g:b=true->W ρ P n x Q L w)(f:b=false->W ρ P n y Q L w):W ρ P n (.cond c x y) Q L w:=
 fun a d=>wpIn_cond_split (d.ev e) (fun h=>g h a d) (fun h=>f h a d)
theorem cR{c:Code}(L':bP)(d:L'.map (fun p=>eH L p.1)=L'.map fun p=>some p.2)(h:W ρ P n c Q L' w):W ρ P n c Q L w:=by
 intro a b
 refine h a (b.sub ?_)
 intro t v e
 exact(fD.1 d) (t,v) (vN e)
theorem eG{e:Exit}(L':bP)(c:L'.map (fun p=>eH L p.1)=L'.map fun p=>some p.2)(h:X n Q e L' w):X n Q e L w:=by
 intro a b
 refine h a (b.sub ?_)
 intro t v d
 exact(fD.1 c) (t,v) (vN d)
theorem cQ{c:Code}(I:Nat->bP->World->Prop)(k:Nat)(f:I k L w)
  (round:∀k L w,I k L w->W ρ P n c (Exit.then (fun a' w'=>∃k' L',k'<k/\Fits n a' L'/\I k' L' w') Q) L w):W ρ P n (.loop c) Q L w:=by
 intro a b
 refine wpIn_loop_ghost (fun k a w=>∃L,Fits n a L/\I k L w) k ⟨L,b,f⟩ ?_
 rintro k a w ⟨L,b,o⟩
 refine wpIn_mono (round k L w o a b) ?_
 intro e a' w' d
 cases e with
 |normal=>obtain⟨k',L',g,h,l⟩:=d;exact⟨k',g,L',h,l⟩
 |_=>exact d
theorem qMs{k:Nat}{I:Nat->bP->World->Prop}(k':Nat)(b:k'<k)(h:I k' L w):X n (Exit.then (fun a' w'=>∃k' L',k'<k/\Fits n a' L'/\I k' L' w') Q) .normal L w:=
 fun _ a=>⟨k',L,b,a,h⟩
theorem qLz{f:FuncId}{fn:Func}{c:Code}{args:Array Value}{R:Ending->World->Prop}(e:P.funcs[f]? =some fn)(d:fn.body=some c){k:Nat}(g:fn.ntmps=k)(L:bP)
  (b:L.map (fun p=>(args[p.1]?))=L.map fun p=>some p.2) (a:Nat.ble args.size k=true) (h:W none P ⟨k,[]⟩ c (bodyPost P fn R) L w):Calls P f args w R:=by
 refine calls_of_wp e d (wpIn_wide.1 (h _ ⟨?_,rfl,?_⟩))
 .subst g
  have:args.size<=fn.ntmps:=kV a
  simp only[dA,Array.size_replicate];omega
 intro t v n
 have:=(fD.1 b) (t,v) (vN n)
 have l:t<args.size:=(Array.getElem?_eq_some_iff.1 this).1
 simp only[Array.getElem?_append,l,jE]
 exact this
end
attribute [irreducible] wF
end
section
def qAs:List (Nat×Array Value):=[]
structure Mem where
 cell:Nat->Nat->Option Value
 obj:Nat->Option Obj
 wd:World
 ht:∀p∈qAs,∃t f,obj p.1=some (.cells p.2 t f)
def qMc:Bool:=true
def Step(w w':World):Prop:=(w'.os=w.os/\w'.output=w.output)/\w'.tape=w.tape/\(qMc=true->w.drawn<=w'.drawn)
theorem mC{p:Prop}(h:p:=by first|exact fun _=>jN _|exact fun _=>Nat.le_succ _):p:=h
theorem Step.refl(w:World):Step w w:=⟨⟨rfl,rfl⟩,rfl,mC⟩
theorem Step.trans{c d e:World}(a:Step c d)(b:Step d e):Step c e:=⟨⟨b.1.1.trans a.1.1,b.1.2.trans a.1.2⟩,b.2.1.trans a.2.1,fun h=>fH (a.2.2 h) (b.2.2 h)⟩
def Mem.le(m m':Mem):Prop:=(∀b o v,m.cell b o=some v->m'.cell b o=some v)/\(∀b x,m.obj b=some x->m'.obj b=some x)/\m.wd=m'.wd
theorem Mem.le_refl(m:Mem):m.le m:=⟨fun _ _ _ h=>h,fun _ _ h=>h,rfl⟩
theorem Mem.le_trans{c d e:Mem}(a:c.le d)(b:d.le e):c.le e:=⟨fun _ _ _ h=>b.1 _ _ _ (a.1 _ _ _ h),fun _ _ h=>b.2.1 _ _ (a.2.1 _ _ h),a.2.2.trans b.2.2⟩
def Inv(m:Mem)(w:World):Prop:=
 (∀b o v,m.cell b o=some v->∃c e f,w.heap[b]? =some (.cells c e f)/\c[o]? =some v)/\(∀b x,m.obj b=some x->w.heap[b]? =some x)/\Step m.wd w
inductive Piece where
 |blk (b:Nat) (o:Obj)
 |room (a:Option Addr) (n cap:Nat) (e:TypeId) (sz:Nat)
def Piece.block:Piece->Option Nat
 | .blk b _=>some b
 | .room a _ _ _ _=>a.map (·.block)
def QU(m:Mem)(b:Nat):Prop:=(∀o,m.cell b o=none)/\m.obj b=none
def Piece.holds(m:Mem)(w:World):Piece->Prop
 | .blk b o=>w.heap[b]? =some o/\QU m b
 | .room none n cap _ _=>n=0/\cap=0
 | .room (some p) n cap e sz=>p.off=0/\p.spot=none/\n<=cap/\cap<=maxLen/\(∃cur,w.heap[p.block]? =some (.cells cur e (0,0))/\cur.size=cap*sz)/\
  (∀o,n*sz<=o->m.cell p.block o=none)/\m.obj p.block=none
def St(m:Mem)(own:List Piece)(w:World):Prop:=Inv m w/\(∀p∈own,p.holds m w)/\(own.filterMap Piece.block).Nodup
theorem rB{w:World}{b:Nat}{x:Obj}(h:w.heap[b]? =some x):b<w.heap.size:=(Array.getElem?_eq_some_iff.1 h).1
theorem Piece.holds_lt{m:Mem}{w:World}{p:Piece}(h:p.holds m w){b:Nat}(d:p.block=some b):b<w.heap.size:=by
 cases p with
 |blk c o=>simp[Piece.block] at d;subst d;exact rB h.1
 |room a n cap e sz=>
  cases a with
  |none=>simp[Piece.block] at d
  |some q=>simp[Piece.block] at d;subst d;obtain⟨_,_,_,_,⟨cur,f,_⟩,_⟩:=h;exact rB f
theorem St.inv{m:Mem}{own:List Piece}{w:World}(h:St m own w):Inv m w:=h.1
theorem St.fresh_free{m:Mem}{own:List Piece}{w:World}(h:St m own w):QU m w.heap.size:=by
 constructor
 .intro o
  cases hc:m.cell w.heap.size o with
  |none=>rfl
  |some v=>
   obtain⟨c,e,f,a,_⟩:=h.1.1 _ _ _ hc
   have:=rB a;omega
 cases hc:m.obj w.heap.size with
 |none=>rfl
 |some x=>have:=rB (h.1.2.1 _ _ hc);omega
theorem Inv.keep{m:Mem}{w w':World}(h:Inv m w)(n:Step w w')(k:∀b,(∃x,w.heap[b]? =some x)->¬QU m b->w'.heap[b]? =w.heap[b]?):Inv m w':=by
 refine⟨?_,?_,h.2.2.trans n⟩
 .intro b o v g
  obtain⟨c,e,f,a,l⟩:=h.1 b o v g
  exact⟨c,e,f,by rw[k b ⟨_,a⟩ (fun d=>by rw[d.1 o] at g;cases g)];exact a,l⟩
 intro b x g
 have a:=h.2.1 b x g
 rw[k b ⟨_,a⟩ (fun d=>by rw[d.2] at g;cases g)];exact a
theorem Piece.holds_keep{m:Mem}{w w':World}{p:Piece}(h:p.holds m w)(d:∀b,p.block=some b->w'.heap[b]? =w.heap[b]?):p.holds m w':=by
 cases p with
 |blk c o=>exact⟨by rw[d c rfl];exact h.1,h.2⟩
 |room a n cap e sz=>
  cases a with
  |none=>exact h
  |some q=>
   obtain⟨f,g,k,l,⟨cur,r,s⟩,t⟩:=h
   exact⟨f,g,k,l,⟨cur,by rw[d _ rfl];exact r,s⟩,t⟩
theorem St.grow{m:Mem}{own:List Piece}{w w':World}(h:St m own w)(e:Step w w')(a:∀b,b<w.heap.size->w'.heap[b]? =w.heap[b]?):St m own w':=
 ⟨h.1.keep e fun b ⟨_,f⟩ _=>a b (rB f),fun p c=>Piece.holds_keep (h.2.1 p c) fun b d=>a b (Piece.holds_lt (h.2.1 p c) d),h.2.2⟩
theorem GX{own:List Piece}{b:Nat}:b∈own.filterMap Piece.block↔∃p∈own,p.block=some b:=by simp[List.mem_filterMap]
theorem St.block_lt{m:Mem}{own:List Piece}{w:World}(h:St m own w){b:Nat}(c:b∈own.filterMap Piece.block):b<w.heap.size:=by
 obtain⟨p,d,a⟩:=GX.1 c
 exact Piece.holds_lt (h.2.1 p d) a
theorem St.alloc{m:Mem}{own:List Piece}{w w':World}(h:St m own w){o:Obj}(g:Step w w')(d:w'.heap=w.heap.push o):St m (.blk w.heap.size o::own) w':=by
 have c:=h.grow (w':=w') g (fun b e=>by rw[d,Array.getElem?_push];simp[Nat.ne_of_lt e])
 refine⟨c.1,?_,?_⟩
 .intro p a
  rcases jI.1 a with rfl|a
  .exact⟨by rw[d];simp,h.fresh_free⟩
  exact c.2.1 p a
 have a:List.filterMap Piece.block (.blk w.heap.size o::own)=w.heap.size::own.filterMap Piece.block:=rfl
 rw[a,gQ]
 exact⟨fun f=>by have:=h.block_lt f;omega,h.2.2⟩
theorem St.tail{m:Mem}{p:Piece}{own:List Piece}{w:World}(h:St m (p::own) w):St m own w:=by
 refine⟨h.1,fun q c=>h.2.1 q (jQ _ c),?_⟩
 have:=h.2.2
 cases a:p.block with
 |none=>simpa[fK,a] using this
 |some b=>simp only[fK,a,gQ] at this;exact this.2
theorem St.head{m:Mem}{p:Piece}{own:List Piece}{w:World}(h:St m (p::own) w):p.holds m w:=h.2.1 p (jK ..)
theorem St.head_ne{m:Mem}{p:Piece}{own:List Piece}{w:World}(h:St m (p::own) w){b:Nat}(a:p.block=some b):b∉own.filterMap Piece.block:=by
 have:=h.2.2
 simp only[fK,a,gQ] at this
 exact this.1
theorem St.cons{m:Mem}{p:Piece}{own:List Piece}{w:World}(h:St m own w)(e:p.holds m w)(d:∀b,p.block=some b->b∉own.filterMap Piece.block):St m (p::own) w:=by
 refine⟨h.1,fun q c=> ?_,?_⟩
 .rcases jI.1 c with rfl|c
  .exact e
  exact h.2.1 q c
 cases a:p.block with
 |none=>simpa[fK,a] using h.2.2
 |some b=>simp only[fK,a,gQ];exact⟨d b a,h.2.2⟩
theorem St.perm{m:Mem}{own own':List Piece}{w:World}(h:St m own w)(a:own.Perm own'):St m own' w:=
 ⟨h.1,fun p b=>h.2.1 p (a.mem_iff.2 b),(a.filterMap _).nodup_iff.1 h.2.2⟩
theorem St.front1{m:Mem}{a b:Piece}{own:List Piece}{w:World}(h:St m (a::b::own) w):St m (b::a::own) w:=h.perm (.swap b a own)
theorem St.front2{m:Mem}{a b c:Piece}{own:List Piece}{w:World}(h:St m (a::b::c::own) w):St m (c::a::b::own) w:=
 h.perm ((List.Perm.cons a (.swap c b own)).trans (.swap c a _))
theorem St.front3{m:Mem}{a b c d:Piece}{own:List Piece}{w:World}(h:St m (a::b::c::d::own) w):St m (d::a::b::c::own) w:=
 h.perm (((List.Perm.cons a ((List.Perm.cons b (.swap d c own)).trans (.swap d b _)))).trans (.swap d a _))
theorem St.front4{m:Mem}{a b c d e:Piece}{own:List Piece}{w:World}(h:St m (a::b::c::d::e::own) w):St m (e::a::b::c::d::own) w:=by
 refine h.perm ?_
 have:List.Perm (b::c::d::e::own) (e::b::c::d::own):=(List.Perm.cons b ((List.Perm.cons c (.swap e d own)).trans (.swap e c _))).trans (.swap e b _)
 exact(List.Perm.cons a this).trans (.swap e a _)
theorem St.front5{m:Mem}{p0 p1 p2 p3 p4 p5:Piece}{own:List Piece}{w:World}(h:St m (p0::p1::p2::p3::p4::p5::own) w):St m (p5::p0::p1::p2::p3::p4::own) w:=
 h.perm (gF (a:=p5) (l₁:=[p0,p1,p2,p3,p4]) (l₂:=own))
theorem St.front6{m:Mem}{p0 p1 p2 p3 p4 p5 p6:Piece}{own:List Piece}{w:World}(h:St m (p0::p1::p2::p3::p4::p5::p6::own) w):St m (p6::p0::p1::p2::p3::p4::p5::own) w:=
 h.perm (gF (a:=p6) (l₁:=[p0,p1,p2,p3,p4,p5]) (l₂:=own))
theorem St.front7{m:Mem}{p0 p1 p2 p3 p4 p5 p6 p7:Piece}{own:List Piece}{w:World}(h:St m (p0::p1::p2::p3::p4::p5::p6::p7::own) w):St m (p7::p0::p1::p2::p3::p4::p5::p6::own) w:=
 h.perm (gF (a:=p7) (l₁:=[p0,p1,p2,p3,p4,p5,p6]) (l₂:=own))
theorem St.front8{m:Mem}{p0 p1 p2 p3 p4 p5 p6 p7 p8:Piece}{own:List Piece}{w:World}(h:St m (p0::p1::p2::p3::p4::p5::p6::p7::p8::own) w):St m (p8::p0::p1::p2::p3::p4::p5::p6::p7::own) w:=
 h.perm (gF (a:=p8) (l₁:=[p0,p1,p2,p3,p4,p5,p6,p7]) (l₂:=own))
theorem St.front9{m:Mem}{p0 p1 p2 p3 p4 p5 p6 p7 p8 p9:Piece}{own:List Piece}{w:World}(h:St m (p0::p1::p2::p3::p4::p5::p6::p7::p8::p9::own) w):St m (p9::p0::p1::p2::p3::p4::p5::p6::p7::p8::own) w:=
 h.perm (gF (a:=p9) (l₁:=[p0,p1,p2,p3,p4,p5,p6,p7,p8]) (l₂:=own))
theorem St.front11{m:Mem}{p0 p1 p2 p3 p4 p5 p6 p7 p8 p9 p10 p11:Piece}{own:List Piece}{w:World}(h:St m (p0::p1::p2::p3::p4::p5::p6::p7::p8::p9::p10::p11::own) w):St m (p11::p0::p1::p2::p3::p4::p5::p6::p7::p8::p9::p10::own) w:=
 h.perm (gF (a:=p11) (l₁:=[p0,p1,p2,p3,p4,p5,p6,p7,p8,p9,p10]) (l₂:=own))
theorem St.set{m:Mem}{own:List Piece}{w w':World}{b:Nat}{o o':Obj}(h:St m (.blk b o::own) w)(s:Step w w')(q:w'.heap[b]? =some o')
  (n:∀k,k<w.heap.size->k≠b->w'.heap[k]? =w.heap[k]?):St m (.blk b o'::own) w':=by
 have l:=h.head
 have f:=h.head_ne (b:=b) rfl
 have a:=h.tail
 refine St.cons ⟨a.1.keep s fun k ⟨x,t⟩ r=>n k (rB t) (fun e=>r (e▸l.2)),fun p g=>Piece.holds_keep (a.2.1 p g) fun k c=>n k (Piece.holds_lt (a.2.1 p g) c) (fun e=>f (GX.2 ⟨p,g,e▸c⟩)),a.2.2⟩ ⟨q,l.2⟩ ?_
 intro k d;simp only[Piece.block,jG] at d;subst d;exact f
def Mem.addCells(m:Mem)(b:Nat)(f:Nat->Option Value):Mem:={m with cell:=fun k o=>if k=b then(match m.cell k o with|some v=>some v|none=>f o) else m.cell k o}
theorem Mem.le_addCells(m:Mem)(b:Nat)(f:Nat->Option Value):m.le (m.addCells b f):=by
 refine⟨fun k o v h=> ?_,fun _ _ h=>h,rfl⟩
 simp only[addCells]
 split
 .simp[h]
 exact h
theorem Piece.holds_addCells{m:Mem}{w:World}{p:Piece}{b:Nat}{f:Nat->Option Value}(h:p.holds m w)(d:p.block≠some b):p.holds (m.addCells b f) w:=by
 cases p with
 |blk c o=>
  have:c≠b:=fun e=>d (by simp[Piece.block,e])
  exact⟨h.1,fun o=>by simp[Mem.addCells,this,h.2.1 o],h.2.2⟩
 |room a n cap e sz=>
  cases a with
  |none=>exact h
  |some q=>
   have:q.block≠b:=fun e=>d (by simp[Piece.block,e])
   obtain⟨g,k,l,r,s,t,u⟩:=h
   exact⟨g,k,l,r,s,fun o v=>by simp[Mem.addCells,this,t o v],u⟩
theorem St.addCells{m:Mem}{own:List Piece}{w:World}(h:St m own w){b:Nat}{f:Nat->Option Value}(l:b∉own.filterMap Piece.block)
  (n:∀o v,f o=some v->∃c e fr,w.heap[b]? =some (.cells c e fr)/\c[o]? =some v):St (m.addCells b f) own w:=by
 refine⟨⟨?_,h.1.2⟩,fun p g=>Piece.holds_addCells (h.2.1 p g) fun e=>l (GX.2 ⟨p,g,e⟩),h.2.2⟩
 intro k o v a
 simp only[Mem.addCells] at a
 split at a
 .rename_i hk;subst hk
  cases d:m.cell k o with
  |some u=>simp[d] at a;subst a;exact h.1.1 _ _ _ d
  |none=>simp[d] at a;exact n o v a
 exact h.1.1 _ _ _ a
def MRow(m:Mem)(b o:Nat)(cs:List Value):Prop:=∀j v,cs[j]? =some v->m.cell b (o+j)=some v
theorem MRow.mono{m m':Mem}{b o:Nat}{cs:List Value}(h:MRow m b o cs)(a:m.le m'):MRow m' b o cs:=fun j v c=>a.1 _ _ _ (h j v c)
theorem MRow.drop{m:Mem}{b o:Nat}{cs:List Value}(h:MRow m b o cs)(k:Nat):MRow m b (o+k) (cs.drop k):=by
 intro j v a
 have:=h (k+j) v (by simpa[List.getElem?_drop] using a)
 rw[fI];exact this
structure Codec(α:Type) where
 sz:Nat
 pos:0<sz
 rep:Mem->α->List Value->Prop
 len:∀m x cs,rep m x cs->cs.length=sz
 one:∀m x cs,rep m x cs->∀v∈cs,v.oneCell'=true
 mono:∀m m' x cs,m.le m'->rep m x cs->rep m' x cs
def RepS{α:Type}(c:Codec α)(m:Mem)(a:Option Addr)(cap:Nat)(l:List α):Prop:=
 l.length<=cap/\cap<=maxLen/\match a with
  |none=>cap=0
  |some p=>(p.spot=none\/l=[])/\∀i x,l[i]? =some x->∃cs,c.rep m x cs/\MRow m p.block (p.off+i*c.sz) cs
theorem RepS.mono{α:Type}{c:Codec α}{m m':Mem}{a:Option Addr}{cap:Nat}{l:List α}(h:RepS c m a cap l)(b:m.le m'):RepS c m' a cap l:=by
 refine⟨h.1,h.2.1,?_⟩
 cases a with
 |none=>exact h.2.2
 |some p=>
  refine⟨h.2.2.1,fun i x f=> ?_⟩
  obtain⟨cs,d,e⟩:=h.2.2.2 i x f
  exact⟨cs,c.mono _ _ _ _ b d,e.mono b⟩
theorem RepS.nil{α:Type}(c:Codec α)(m:Mem):RepS c m none 0 []:=⟨jN _,jZ _,rfl⟩
theorem RepS.cells{α:Type}{c:Codec α}{m:Mem}{p:Addr}{cap:Nat}{l:List α}(h:RepS c m (some p) cap l):
  ∃cs,cs.length=l.length*c.sz/\(∀v∈cs,v.oneCell'=true)/\MRow m p.block p.off cs/\∀i x,l[i]? =some x->c.rep m x ((cs.drop (i*c.sz)).take c.sz):=by
 have key:∀(l:List α) (o:Nat),(∀i x,l[i]? =some x->∃cs,c.rep m x cs/\MRow m p.block (o+i*c.sz) cs)->
   ∃cs,cs.length=l.length*c.sz/\(∀v∈cs,v.oneCell'=true)/\MRow m p.block o cs/\∀i x,l[i]? =some x->c.rep m x ((cs.drop (i*c.sz)).take c.sz):=by
  intro l
  induction l with
  |nil=>intro o _;exact⟨[],by simp,by simp,fun j v h=>by simp at h,fun i x h=>by simp at h⟩
  |cons y l A=>
   intro o h
   obtain⟨n,q,z⟩:=h 0 y rfl
   have f:=c.len _ _ _ q
   obtain⟨k,r,s,t,u⟩:=A (o+c.sz) (fun i x g=>by
    obtain⟨cs,a,b⟩:=h (i+1) x (by simpa using g)
    exact⟨cs,a,by rw[kF,fW,fP (i*c.sz),<-fI] at b;exact b⟩)
   refine⟨n++k,by simp[f,r,kF,fP],?_,?_,?_⟩
   .intro v d
    rcases gS.1 d with d|d
    .exact c.one _ _ _ q v d
    exact s v d
   .intro j v d
    rw[List.getElem?_append] at d
    split at d
    .simpa using z j v d
    rename_i hj
    have:=t _ v d
    rw[f] at this hj
    have e:o+c.sz+(j-c.sz)=o+j:=by omega
    rw[e] at this;exact this
   intro i x g
   cases i with
   |zero=>simp at g;subst g;simp[f▸List.take_left (l₁:=n) (l₂:=k)];exact q
   |succ i=>
    have:=u i x (by simpa using g)
    have e:(n++k).drop ((i+1)*c.sz)=k.drop (i*c.sz):=by
     rw[fV,jT (by rw[f,kF];omega),kK,f,kF,fW,hH]
    rw[e];exact this
 exact key l p.off (h.2.2.2)
def vL(P:Program)(t:TypeId):Option (TypeId×Nat×Nat×Nat):=
 match P.underlying t with
 |some (.slice e)=>match P.info? e with
  |some i=>match i.zero with
   |some z=>some (e,i.size,i.bytes,z.cells.size)
   |none=>none
  |none=>none
 |_=>none
theorem MV{P:Program}{t e sz by_ zs:Nat}(h:vL P t=some (e,sz,by_,zs)):
  P.underlying t=some (.slice e)/\∃i z,P.info? e=some i/\i.zero=some z/\i.size=sz/\i.bytes=by_/\z.cells.size=zs:=by
 unfold vL at h
 split at h
 .rename_i e' he
  split at h
  .rename_i i hi
   split at h
   .rename_i z hz
    simp only[jG,Prod.mk.injEq] at h
    obtain⟨rfl,a,b,c⟩:=h
    exact⟨he,i,z,hi,hz,a,b,c⟩
   cases h
  cases h
 cases h
def wC(P:Program)(u e:TypeId):Prop:=P.underlying u=some (.slice e)\/P.underlying u=some .string
theorem vO(g o j:Nat):(⟨g,o,none⟩:Addr).add j=⟨g,o+j,none⟩:=by unfold Addr.add;split<;>simp_all
theorem CA{p:Addr}(a:p.spot=none)(j:Nat):p.add j=⟨p.block,p.off+j,none⟩:=by
 obtain⟨b,o,s⟩:=p
 simp only at a;subst a
 exact vO b o j
section
variable {P:Program}
def Src(P:Program)(w:World)(sz:Nat)(x:Value)(n:Nat)(news:List Value):Prop:=
 (Builtin.lenOf x).run P w= .ok n w/\(Builtin.firstCells sz n x).run P w= .ok news.toArray w/\news.length=n*sz/\∀v∈news,v.oneCell'=true
theorem SV(w:World)(t u ty e:TypeId)(i:TypeInfo)(p:P.underlying t=some (.slice e))(q:wC P u e)(hi:P.info? e=some i){x:Value}{n:Nat}{news:List Value}
  (f:Src P w i.size x n news) (g sLen sCap:Nat) (cur:Array Value) (o:w.heap[g]? =some (.cells cur e (0,0))) (a:sLen+n<=sCap) (d:sLen*i.size+news.length<=cur.size):
  (Builtin.append_ #[t,u] ty #[.slice (some ⟨g,0,none⟩) sLen sCap,x]).run P w=
   .ok (.slice (some ⟨g,0,none⟩) (sLen+n) sCap) (w.setRow g (cur.toList.take (sLen*i.size)++news++cur.toList.drop (sLen*i.size+news.length)).toArray):=by
 obtain⟨h,k,r,l⟩:=f
 have c:=run_storeCells_at P g (sLen*i.size) e news 0 cur w o (by simpa using d) l
 simp only[gO] at c
 rcases q with b|b<;>simp[Builtin.append_,run_underlying p,run_underlying b,sizeOf,typeInfo,hi,h,a,k,vO,c]
theorem SM(w:World)(t u ty e:TypeId)(i:TypeInfo)(f:P.underlying t=some (.slice e))(g:wC P u e)(hi:P.info? e=some i){x:Value}{news:List Value}
  (b:Src P w i.size x 0 news):(Builtin.append_ #[t,u] ty #[.slice none 0 0,x]).run P w= .ok (.slice none 0 0) w:=by
 obtain⟨c,d,h,k⟩:=b
 rcases g with a|a<;>simp[Builtin.append_,run_underlying f,run_underlying a,sizeOf,typeInfo,hi,c,d]
theorem SQ(w:World)(t u ty e:TypeId)(i:TypeInfo)(z:Value)(s:P.underlying t=some (.slice e))(v:wC P u e)(hi:P.info? e=some i)(y:i.zero=some z){x:Value}{n:Nat}{news:List Value}
  (f:Src P w i.size x n news) (base:Option Addr) (sLen sCap:Nat) (olds:List Value)
  (d:∀w':World,Step w w'->w'.heap=w.heap->(Builtin.firstCells i.size sLen (.slice base sLen sCap)).run P w'= .ok olds.toArray w')
  (hsrc':∀w':World,Step w w'->w'.heap=w.heap->(Builtin.firstCells i.size n x).run P w'= .ok news.toArray w')
  (o:sCap<sLen+n) (k:(sLen+n)*i.bytes<=140737488355328) (g:sLen+n<=maxLen):
  (Builtin.append_ #[t,u] ty #[.slice base sLen sCap,x]).run P w=
   .ok (.slice (some ⟨w.heap.size,0,none⟩) (sLen+n) (grownCap w (sLen+n) sCap e))
    (w.drew.alloc (.cells ((olds++news).toArray++Builtin.zeroCells z.cells (grownCap w (sLen+n) sCap e-(sLen+n))) e)):=by
 obtain⟨h,A,B,D⟩:=f
 have p:¬(sLen+n<=sCap):=by omega
 have h63':¬(9223372036854775807<(sLen:Int)+(n:Int)):=by simp only[maxLen] at g;omega
 have l:=growslice_fits (need:=sLen+n) (old:=sCap) (bytes:=i.bytes) o k
 have hfit':¬(281474976710656<Builtin.nextslicecap (sLen+n) sCap*i.bytes):=by omega
 have c:IntKind.i64.max=9223372036854775807:=by decide
 have q:=d w.drew ⟨⟨rfl,rfl⟩,rfl,mC⟩ rfl
 have r:=hsrc' w.drew ⟨⟨rfl,rfl⟩,rfl,mC⟩ rfl
 have a:(Question.appendCap (sLen+n) sCap e).forced=false:=rfl
 rcases v with b|b<;>
  simp[Builtin.append_,run_underlying s,run_underlying b,sizeOf,typeInfo,zeroValue,hi,y,h,p,h63',hfit',c,a,q,r,newRow,grownCap]<;>(congr 2;apply Array.ext';simp)
def dY{α:Type}(by_:Nat)(l k:List α):Option (List α):=if(l.length+k.length)*by_<=140737488355328/\l.length+k.length<=maxLen then some (l++k) else none
theorem RepS.of_cells{α:Type}{c:Codec α}{m:Mem}{b cap:Nat}{l:List α}{cs:List Value}(d:l.length<=cap)(e:cap<=maxLen)
  (f:∀i x,l[i]? =some x->c.rep m x ((cs.drop (i*c.sz)).take c.sz)) (g:MRow m b 0 cs):RepS c m (some ⟨b,0,none⟩) cap l:=by
 refine⟨d,e,.inl rfl,fun i x h=>⟨_,f i x h,?_⟩⟩
 intro j v a
 rw[List.getElem?_take] at a
 split at a
 .rw[List.getElem?_drop] at a
  have:=g _ v a
  simp only[kT] at this ⊢
  exact this
 cases a
theorem RepS.cellsA{α:Type}{c:Codec α}{m:Mem}{a:Option Addr}{cap:Nat}{l:List α}(h:RepS c m a cap l):
  ∃cs,cs.length=l.length*c.sz/\(∀v∈cs,v.oneCell'=true)/\(∀p,a=some p->MRow m p.block p.off cs)/\∀i x,l[i]? =some x->c.rep m x ((cs.drop (i*c.sz)).take c.sz):=by
 cases a with
 |none=>
  obtain⟨d,_,b⟩:=h
  have:l=[]:=jU (by simp only at b;omega)
  subst this
  exact⟨[],by simp,by simp,by simp,by simp⟩
 |some p=>
  obtain⟨cs,d,e,b,f⟩:=h.cells
  exact⟨cs,d,e,fun q g=>by cases g;exact b,f⟩
theorem Inv.cell{m:Mem}{w:World}(h:Inv m w){b o:Nat}{v:Value}(g:m.cell b o=some v):w.cell? ⟨b,o,none⟩=some v:=by
 obtain⟨c,e,f,a,d⟩:=h.1 b o v g
 simp[World.cell?,a,d]
theorem XO{m:Mem}{w:World}(hi:Inv m w){a:Option Addr}{n cap sz:Nat}{cs:List Value}(f:cs.length=n*sz)(g:∀p,a=some p->(p.spot=none\/cs=[])/\MRow m p.block p.off cs)(e:a=none->cs=[]):
  (Builtin.firstCells sz n (.slice a n cap)).run P w= .ok cs.toArray w:=by
 cases a with
 |none=>rw[e rfl];simp[Builtin.firstCells]
 |some p=>
  obtain⟨b,d⟩:=g p rfl
  exact run_firstCells_some w sz n p n cap cs f fun j v c=>by
   rcases b with b|b
   .rw[CA b];exact hi.cell (d j v c)
   subst b;simp at c
theorem RepS.none_nil{α:Type}{c:Codec α}{m:Mem}{cap:Nat}{l:List α}(h:RepS c m none cap l):l=[]/\cap=0:=by
 obtain⟨b,_,a⟩:=h
 simp only at a
 exact⟨jU (by omega),a⟩
theorem RepS.spot{α:Type}{c:Codec α}{m:Mem}{p:Addr}{cap:Nat}{l:List α}(h:RepS c m (some p) cap l)(a:l≠[]):p.spot=none:=h.2.2.1.resolve_right a
def CX{α:Type}(P:Program)(c:Codec α)(m:Mem)(x:Value)(k:List α):Prop:=
 ∃cs,(∀w:World,Inv m w->Src P w c.sz x k.length cs)/\(∀i y,k[i]? =some y->c.rep m y ((cs.drop (i*c.sz)).take c.sz))
theorem RepS.src{α:Type}{c:Codec α}{m:Mem}{a:Option Addr}{cap:Nat}{l:List α}(h:RepS c m a cap l):CX P c m (.slice a l.length cap) l:=by
 obtain⟨cs,b,d,f,g⟩:=h.cellsA
 refine⟨cs,fun w hi=>⟨by simp[Builtin.lenOf],XO hi b (fun p n=> ?_) (fun k=> ?_),b,d⟩,g⟩
 .subst n;exact⟨h.2.2.1.imp id (fun e=>by subst e;exact jU (by simpa using b)),f p rfl⟩
 subst k;obtain⟨rfl,rfl⟩:=h.none_nil;exact jU (by simpa using b)
theorem qJp{α:Type}{c:Codec α}{m:Mem}{l k:List α}{a b:List Value}(f:a.length=l.length*c.sz)
  (g:∀i x,l[i]? =some x->c.rep m x ((a.drop (i*c.sz)).take c.sz)) (h:∀i x,k[i]? =some x->c.rep m x ((b.drop (i*c.sz)).take c.sz)):
  ∀i x,(l++k)[i]? =some x->c.rep m x (((a++b).drop (i*c.sz)).take c.sz):=by
 intro i x d
 rw[List.getElem?_append] at d
 split at d
 .rename_i hi
  have e:i*c.sz+c.sz<=a.length:=by
   rw[f]
   calc i*c.sz+c.sz=(i+1)*c.sz:=by rw[kF,fW]
    _<=l.length*c.sz:=kO _ hi
  have:((a++b).drop (i*c.sz)).take c.sz=(a.drop (i*c.sz)).take c.sz:=by
   rw[gA (by omega),kQ (by simp;omega)]
  rw[this];exact g i x d
 rename_i hi
 have e:a.length<=i*c.sz:=by rw[f];exact kO _ (by omega)
 have:(a++b).drop (i*c.sz)=b.drop ((i-l.length)*c.sz):=by
  rw[fV,jT e,kK,f,Nat.sub_mul]
 rw[this];exact h _ x d
theorem YN{m:Mem}{w:World}(hi:Inv m w){b:Nat}{cs:List Value}(h:MRow m b 0 cs){cur:Array Value}{e:TypeId}{f:Nat×Nat}(g:w.heap[b]? =some (.cells cur e f)):cur.toList.take cs.length=cs:=by
 apply hZ
 intro j
 rw[List.getElem?_take]
 by_cases hj:j<cs.length
 .rw[if_pos hj]
  have:=h j cs[j] (by simp[hj])
  obtain⟨c,e',f',a,d⟩:=hi.1 _ _ _ this
  rw[g] at a
  simp only[jG,Obj.cells.injEq] at a
  obtain⟨rfl,_,_⟩:=a
  simp only[kT] at d
  simp[d,hj]
 rw[if_neg hj];simp[Nat.le_of_not_lt hj]
theorem St.know{m:Mem}{own:List Piece}{w:World}{b:Nat}{cs:List Value}{cur:Array Value}{e:TypeId}{f:Nat×Nat}(h:St m own w)(d:b∉own.filterMap Piece.block)
  (l:w.heap[b]? =some (.cells cur e f)) (g:cur.toList.take cs.length=cs) (c:∀o v,m.cell b o=some v->cs[o]? =some v):
  ∃m',m.le m'/\St m' own w/\MRow m' b 0 cs/\(∀o,cs.length<=o->m'.cell b o=none)/\m'.obj=m.obj/\∀k,k≠b->m'.cell k=m.cell k:=by
 refine⟨m.addCells b (fun o=>cs[o]?),m.le_addCells b _,h.addCells d ?_,?_,?_,rfl,?_⟩
 .intro o v a
  refine⟨cur,e,f,l,?_⟩
  rw[<-g,List.getElem?_take] at a
  split at a
  .simpa using a
  cases a
 .intro j v a
  simp only[Mem.addCells,kT,jE]
  cases hc:m.cell b j with
  |none=>simp[a]
  |some u=>have:=c j u hc;rw[a] at this;simp_all
 .intro o a
  simp only[Mem.addCells,jE]
  cases hc:m.cell b o with
  |none=>simp[a]
  |some u=>
   have:=c o u hc
   have n:=(List.getElem?_eq_some_iff.1 this).1
   omega
 intro k a;funext o;simp[Mem.addCells,a]
theorem qFi{α:Type}{c:Codec α}{m:Mem}{own:List Piece}{w:World}{t u ty e by_:Nat}(b3:vL P t=some (e,c.sz,by_,c.sz))(hu:wC P u e)
  {a:Option Addr} {cap:Nat} {l k r:List α} {x:Value} (Y:St m (.room a l.length cap e c.sz::own) w) (hr:RepS c m a cap l)
  (hx:CX P c m x k)
  (M:dY by_ l k=some r):
  ∃a' cap' m' w',(Builtin.append_ #[t,u] ty #[.slice a l.length cap,x]).run P w= .ok (.slice a' r.length cap') w'/\m.le m'/\St m' (.room a' r.length cap' e c.sz::own) w'/\RepS c m' a' cap' r:=by
 obtain⟨ht,i,z,hi,hz,R,b9,c1⟩:=MV b3
 unfold dY at M
 split at M
 .rename_i Z
  simp only[jG] at M
  subst M
  obtain⟨Z,b6⟩:=Z
  have s:=Y.inv
  obtain⟨f,a6,b5⟩:=hx
  have U:=a6 w s
  obtain⟨d,K,c2,c0,b4⟩:=hr.cellsA
  have b7:f.length=k.length*c.sz:=U.2.2.1
  have a1:(d++f).length=(l++k).length*c.sz:=by simp[K,b7,kF]
  have a5:∀m',m.le m'->∀i y,(l++k)[i]? =some y->c.rep m' y (((d++f).drop (i*c.sz)).take c.sz):=fun m' D=>
   qJp K (fun i y hy=>c.mono _ _ _ _ D (b4 i y hy)) (fun i y hy=>c.mono _ _ _ _ D (b5 i y hy))
  have H:=Y.tail
  -- a new block
  have out:cap<l.length+k.length->(∀w':World,Step w w'->w'.heap=w.heap->(Builtin.firstCells i.size l.length (.slice a l.length cap)).run P w'= .ok d.toArray w')->
    ∃a' cap' m' w',(Builtin.append_ #[t,u] ty #[.slice a l.length cap,x]).run P w= .ok (.slice a' (l++k).length cap') w'/\m.le m'/\St m' (.room a' (l++k).length cap' e c.sz::own) w'/\RepS c m' a' cap' (l++k):=by
   intro E a9
   have hinv':∀w':World,Step w w'->w'.heap=w.heap->Inv m w':=fun w' M hw=>s.keep M (fun b _ _=>by rw[hw])
   have A:=SQ w t u ty e i z ht hu hi hz (n:=k.length) (news:=f) (by rw[R];exact U) a l.length cap d a9
    (fun w' M hw=>by rw[R];exact(a6 w' (hinv' w' M hw)).2.1) E (by rw[b9];exact Z) b6
   generalize hgc:grownCap w (l.length+k.length) cap e=gc at A
   have a2:l.length+k.length<=gc:=hgc▸grownCap_ge _ _ _ _
   have a7:gc<=maxLen:=hgc▸grownCap_le_maxLen _ _ _ _ b6
   generalize hcur:(d++f).toArray++Builtin.zeroCells z.cells (gc-(l.length+k.length))=cur at A
   have a8:cur.size=gc*c.sz:=by
    rw[<-hcur]
    simp only[dA,jO,size_zeroCells,c1,a1,jF,<-kF]
    congr 1;omega
   have B:=H.alloc (w':=w.drew.alloc (.cells cur e)) (o:= .cells cur e) ⟨⟨rfl,rfl⟩,rfl,mC⟩ rfl
   have b1:cur.toList.take (d++f).length=d++f:=by rw[<-hcur,Array.toList_append,fX,List.take_left]
   have V:=H.fresh_free
   obtain⟨m',D,hst',a4,b0,a3,S⟩:=St.know (b:=w.heap.size) B.tail (B.head_ne rfl) B.head.1 b1 (fun o v G=>by rw[V.1 o] at G;cases G)
   refine⟨some ⟨w.heap.size,0,none⟩,gc,m',w.drew.alloc (.cells cur e),by rw[A,jF],D,?_,RepS.of_cells (by simpa using a2) a7 (a5 m' D) a4⟩
   refine hst'.cons ⟨rfl,rfl,by simpa using a2,a7,⟨cur,B.head.1,a8⟩,?_,?_⟩ ?_
   .intro o ho;exact b0 o (by rw[a1];exact ho)
   .rw[a3];exact V.2
   intro b F
   simp only[Piece.block,kG,jG] at F
   subst F
   exact B.head_ne rfl
  cases a with
  |none=>
   obtain⟨rfl,rfl⟩:=hr.none_nil
   have B:d=[]:=jU (by simpa using K)
   subst B
   by_cases hk:k.length=0
   .have V:k=[]:=jU hk
    subst V
    refine⟨none,0,m,w,?_,m.le_refl,Y,hr⟩
    have:=SM w t u ty e i ht hu hi (x:=x) (news:=f) (by rw[R];exact U)
    simpa using this
   exact out (by simp;omega) (fun w' _ _=>by simp[Builtin.firstCells])
  |some p=>
   obtain⟨h1,h2,h3,h4,⟨cur,h5,h6⟩,h7,h8⟩:=Y.head
   obtain⟨g,off,spot⟩:=p
   simp only at h1 h2 h5 h7 h8
   subst h1;subst h2
   have B:=c0 _ rfl
   simp only at B
   by_cases hroom:l.length+k.length<=cap
   .have b2:l.length*i.size+f.length<=cur.size:=by rw[b7,h6,R,<-kF];exact kO _ hroom
    have A:=SV w t u ty e i ht hu hi (x:=x) (n:=k.length) (news:=f) (by rw[R];exact U) g l.length cap cur h5 hroom b2
    rw[R,<-K] at A
    rw[YN s B h5] at A
    generalize hw':w.setRow g (d++f++cur.toList.drop (d.length+f.length)).toArray=w' at A
    have a2:w'.heap[g]? =some (.cells (d++f++cur.toList.drop (d.length+f.length)).toArray e (0,0)):=by rw[<-hw'];exact setRow_heap w g cur _ e _ h5
    have S:∀b,b≠g->w'.heap[b]? =w.heap[b]? :=fun b F=>by rw[<-hw'];exact setRow_other w g b _ F
    have a8:(d++f++cur.toList.drop (d.length+f.length)).toArray.size=cap*c.sz:=by
     simp only[jO,jF,kS,Array.length_toList]
     have:l.length*c.sz+k.length*c.sz<=cap*c.sz:=by rw[<-kF];exact kO _ hroom
     omega
    have a9:=Y.head_ne (b:=g) rfl
    have b8:St m own w':=by
     refine⟨?_,fun q hq=>Piece.holds_keep (H.2.1 q hq) (fun b F=>S b ?_),H.2.2⟩
     .refine⟨?_,?_,s.2.2.trans (by rw[<-hw'];exact⟨⟨rfl,rfl⟩,rfl,mC⟩)⟩
      .intro b o v G
       by_cases F:b=g
       .subst F
        refine⟨_,e,(0,0),a2,?_⟩
        by_cases ho:o<l.length*c.sz
        .obtain⟨cc,e',f',V,a7⟩:=s.1 b o v G
         rw[h5] at V
         simp only[jG,Obj.cells.injEq] at V
         obtain⟨rfl,_,_⟩:=V
         have E:o<d.length:=by rw[K];exact ho
         have b1:=YN s B h5
         have:d[o]? =some v:=by
          rw[<-b1,List.getElem?_take,if_pos E]
          simpa using a7
         simp only[List.getElem?_toArray,gD,List.getElem?_append,if_pos E]
         exact this
        rw[h7 o (by omega)] at G;cases G
       obtain⟨cc,e',f',V,a7⟩:=s.1 b o v G
       exact⟨cc,e',f',by rw[S b F];exact V,a7⟩
      intro b y hy
      have:b≠g:=by rintro rfl;rw[h8] at hy;cases hy
      rw[S b this];exact s.2.1 b y hy
     rintro rfl;exact a9 (GX.2 ⟨q,hq,F⟩)
    obtain⟨m',D,hst',a4,b0,a3,_⟩:=St.know (b:=g) (cs:=d++f) b8 a9 a2 (by rw[fX,List.take_left]) (fun o v G=>by
     by_cases ho:o<l.length*c.sz
     .have E:o<d.length:=by rw[K];exact ho
      have:=B o d[o] (by simp[E])
      simp only[kT] at this
      rw[this] at G
      simp only[List.getElem?_append,if_pos E]
      rw[<-G];simp[E]
     rw[h7 o (by omega)] at G;cases G)
    refine⟨some ⟨g,0,none⟩,cap,m',w',by rw[A,jF],D,?_,RepS.of_cells (by simpa using hroom) h4 (a5 m' D) a4⟩
    refine hst'.cons ⟨rfl,rfl,by simpa using hroom,h4,⟨_,a2,a8⟩,?_,?_⟩ ?_
    .intro o ho;exact b0 o (by rw[a1];exact ho)
    .rw[a3];exact h8
    intro b F
    simp only[Piece.block,kG,jG] at F
    subst F;exact a9
   exact out (by omega) (fun w' M hw=>by
    have hinv':Inv m w':=s.keep M (fun b _ _=>by rw[hw])
    rw[R]
    exact XO hinv' K (fun p A=>by cases A;exact⟨.inl rfl,B⟩) (fun h=>by cases h))
 cases M
end
def aX(k:IntKind):Codec Int where
 sz:=1
 pos:=Nat.one_pos
 rep _ x cs:=cs=[.int k x]
 len:=by rintro _ _ _ rfl;rfl
 one:=by rintro _ _ _ rfl v a;simp at a;subst a;rfl
 mono:=fun _ _ _ _ _ h=>h
def cU8:Codec UInt8 where
 sz:=1
 pos:=Nat.one_pos
 rep _ x cs:=cs=[.int .u8 (x.toNat:Int)]
 len:=by rintro _ _ _ rfl;rfl
 one:=by rintro _ _ _ rfl v a;simp at a;subst a;rfl
 mono:=fun _ _ _ _ _ h=>h
def rF:Codec Bool where
 sz:=1
 pos:=Nat.one_pos
 rep _ x cs:=cs=[.bool x]
 len:=by rintro _ _ _ rfl;rfl
 one:=by rintro _ _ _ rfl v a;simp at a;subst a;rfl
 mono:=fun _ _ _ _ _ h=>h
def aJ:Codec BA where
 sz:=1
 pos:=Nat.one_pos
 rep _ x cs:=cs=[.string x]
 len:=by rintro _ _ _ rfl;rfl
 one:=by rintro _ _ _ rfl v a;simp at a;subst a;rfl
 mono:=fun _ _ _ _ _ h=>h
def oW{α β:Type}(a:Codec α)(b:Codec β):Codec (α×β) where
 sz:=a.sz+b.sz
 pos:=Nat.lt_of_lt_of_le a.pos (Nat.le_add_right ..)
 rep m x cs:=∃c d,cs=c++d/\a.rep m x.1 c/\b.rep m x.2 d
 len:=by rintro m x cs ⟨c,d,rfl,e,f⟩;rw[jF,a.len _ _ _ e,b.len _ _ _ f]
 one:=by
  rintro m x cs ⟨c,d,rfl,e,f⟩ v g
  rcases gS.1 g with g|g
  .exact a.one _ _ _ e v g
  exact b.one _ _ _ f v g
 mono:=by rintro m m' x cs g ⟨c,d,rfl,e,f⟩;exact⟨c,d,rfl,a.mono _ _ _ _ g e,b.mono _ _ _ _ g f⟩
def wK{α:Type}(c:Codec α):Codec (List α) where
 sz:=1
 pos:=Nat.one_pos
 rep m l cs:=∃a cap,cs=[.slice a l.length cap]/\RepS c m a cap l
 len:=by rintro _ _ _ ⟨a,cap,rfl,_⟩;rfl
 one:=by rintro _ _ _ ⟨a,cap,rfl,_⟩ v b;simp at b;subst b;rfl
 mono:=by rintro m m' x cs b ⟨a,cap,rfl,h⟩;exact⟨a,cap,rfl,h.mono b⟩
theorem nU{α:Type}{c:Codec α}{m:Mem}{a:Option Addr}{cap:Nat}{l:List α}(h:RepS c m a cap l):(wK c).rep m l [.slice a l.length cap]:=⟨a,cap,rfl,h⟩
def RepAll{α:Type}(c:Codec α)(m:Mem):List α->List Value->Prop
 |[],cs=>cs=[]
 |x::l,cs=>∃a b,cs=a++b/\c.rep m x a/\RepAll c m l b
theorem RepAll.len{α:Type}{c:Codec α}{m:Mem}:∀{l:List α} {cs:List Value},RepAll c m l cs->cs.length=l.length*c.sz
 |[],cs,h=>by simp[RepAll] at h;simp[h]
 |x::l,cs,h=>by
  obtain⟨d,e,rfl,a,b⟩:=h
  rw[jF,c.len _ _ _ a,b.len,jA,kF,fW,fP]
theorem RepAll.rep{α:Type}{c:Codec α}{m:Mem}:∀{l:List α} {cs:List Value},RepAll c m l cs->∀i x,l[i]? =some x->c.rep m x ((cs.drop (i*c.sz)).take c.sz)
 |[],_,_=>by simp
 |y::l,cs,h=>by
  obtain⟨g,d,rfl,f,k⟩:=h
  intro i x b
  have a:=c.len _ _ _ f
  cases i with
  |zero=>simp at b;subst b;simp[<-a];exact f
  |succ i=>
   have e:(g++d).drop ((i+1)*c.sz)=d.drop (i*c.sz):=by
    rw[fV,jT (by rw[a,kF];omega),kK,a,kF,fW,hH]
   rw[e];exact k.rep i x (by simpa using b)
def nX(P:Program)(t:TypeId)(cs:List Value):Option Value:=
 match P.underlying t with
 |some (.struct _)|some (.array _ _)=>match P.info? t with
  |some i=>bif Nat.ble i.size cs.length then some (.agg (cs.take i.size).toArray) else none
  |none=>none
 |some _=>cs.head?
 |none=>none
def MA:TypeDesc->Bool
 | .struct _=>true
 | .array _ _=>true
 |_=>false
theorem xY{P:Program}{w:World}{t:TypeId}{b o:Nat}{cs:List Value}{v:Value}(g:∀j u,cs[j]? =some u->w.cell? ⟨b,o+j,none⟩=some u)(h:nX P t cs=some v):
  (loadVar t ⟨b,o,none⟩).run P w= .ok v w:=by
 have agg:∀d,P.underlying t=some d->(isAgg t).run P w= .ok (MA d) w:=by
  intro d a;unfold isAgg;cases d<;>simp[run_underlying a,MA]
 have big:∀d,P.underlying t=some d->MA d=true->(match P.info? t with
  |some i=>bif Nat.ble i.size cs.length then some (Value.agg (cs.take i.size).toArray) else none
  |none=>none)=some v->(loadVar t ⟨b,o,none⟩).run P w= .ok v w:=by
  intro d a l h
  cases hi:P.info? t with
  |none=>simp[hi] at h
  |some i=>
   simp only[hi] at h
   cases e:Nat.ble i.size cs.length with
   |false=>simp[e] at h
   |true=>
    simp[e] at h
    subst h
    have hle':=kV e
    have k:=run_loadCells_list (P:=P) w ⟨b,o,none⟩ (cs.take i.size) (fun j u f=>by
     rw[vO]
     rw[List.getElem?_take] at f
     split at f
     .exact g j u f
     cases f)
    have:(cs.take i.size).length=i.size:=by simp;omega
    rw[this] at k
    have c:=agg d a
    rw[l] at c
    simp[loadVar,c,sizeOf,typeInfo,hi,k]
 unfold nX at h
 split at h
 .rename_i a;exact big _ a rfl h
 .rename_i a;exact big _ a rfl h
 .rename_i d hn1 hn2 a
  have c:=agg d a
  have e:MA d=false:=by
   cases d<;>first|rfl|exact(hn1 _ rfl).elim|exact(hn2 _ _ rfl).elim
  rw[e] at c
  have f:cs[0]? =some v:=by rw[List.head?_eq_getElem?] at h;exact h
  have:=g 0 v f
  simp only[gO] at this
  simp[loadVar,c,this]
 cases h
section
variable {P:Program} {n:Fr} {ops:Array Oper} {Q:Exit->Act->World->Prop} {i d:Nat} {L:bP} {w:World} {m:Mem} {own:List Piece} {N:bP->World->Prop}
theorem cI{L:bP}{x:Operand}{v:Value}(h:bU L x=some v):lU L x=v:=by simp[lU,h]
theorem TA{t:TypeId}{x:Operand}{b o:Nat}{cs:List Value}(v:Value)(f:cX ops L i=some (some d,.load t x))(c:Nat.blt d n=true)
  (r:bU L x=some (.pointer (some ⟨b,o,none⟩))) (a:St m own w) (k:MRow m b o cs) (p:nX P t cs=some v)
  (h:N ((d,v)::L) w):dX P n ops Q i N L w:=by
 refine lQ f c (fun q g=> ?_) h
 have e:=xY (P:=P) (w:=w) (t:=t) (b:=b) (o:=o) (cs:=cs) (v:=v) (fun j u l=>a.inv.cell (k j u l)) p
 simp[execOp,g,Instr.loadAt,cI r,Instr.sureAddr,e]
theorem TG{t e:TypeId}{x:Operand}{b o:Nat}{c:Array Value}{f:Nat×Nat}(v:Value)(p:cX ops L i=some (some d,.load t x))(k:Nat.blt d n=true)
  (z:bU L x=some (.pointer (some ⟨b,o,none⟩))) (r:Piece.holds m w (.blk b (.cells c e f))) (y:nX P t (c.toList.drop o)=some v)
  (h:N ((d,v)::L) w):dX P n ops Q i N L w:=by
 refine lQ p k (fun q s=> ?_) h
 have g:=r.1
 have l:=xY (P:=P) (w:=w) (t:=t) (b:=b) (o:=o) (cs:=c.toList.drop o) (v:=v) (fun j u a=>by
  rw[List.getElem?_drop] at a
  simp only[World.cell?,g]
  simpa using a) y
 simp[execOp,s,Instr.loadAt,cI z,Instr.sureAddr,l]
def LZ:List Value->Bool
 |[]=>true
 |v::l=>v.oneCell'&&LZ l
theorem UK{l:List Value}(h:LZ l=true):∀v∈l,v.oneCell'=true:=by
 induction l with
 |nil=>simp
 |cons u l b=>
  simp only[LZ,jR] at h
  intro v a
  rcases jI.1 a with rfl|a
  .exact h.1
  exact b h.2 v a
def vQ(P:Program)(t:TypeId)(v:Value)(o n:Nat):Bool:=
 match P.info? t with
 |some i=>Nat.beq v.cells.size i.size&&Nat.ble (o+v.cells.size) n&&LZ v.cells.toList
 |none=>false
theorem OC{t e:TypeId}{x y:Operand}{b o:Nat}{c c':Array Value}{v:Value}(s:cX ops L i=some (none,.store t x y))
  (z:bU L x=some (.pointer (some ⟨b,o,none⟩))) (A:bU L y=some v) (f:St m (.blk b (.cells c e (0,0))::own) w) (d:vQ P t v o c.size=true)
  (hc':(c.toList.take o++v.cells.toList++c.toList.drop (o+v.cells.toList.length)).toArray=c')
  (h:∀w',St m (.blk b (.cells c' e (0,0))::own) w'->N L w'):dX P n ops Q i N L w:=by
 unfold vQ at d
 cases hi:P.info? t with
 |none=>simp[hi] at d
 |some inf=>
  simp only[hi,jR] at d
  obtain⟨⟨g,l⟩,p⟩:=d
  have h1':=gX g
  have h2':=kV l
  have a:=run_storeCells_at P b o e v.cells.toList 0 c w f.head.1 (by simpa using h2') (UK p)
  simp only[gO] at a
  rw[hc'] at a
  refine yD s (fun q u=> ?_) (h (w.setRow b c') (f.set ⟨⟨rfl,rfl⟩,rfl,mC⟩ (setRow_heap w b c c' e _ f.head.1) (fun k _ r=>setRow_other w b k _ r)))
  simp[execOp,u,Instr.storeAt,cI z,cI A,Instr.sureAddr,storeVar,sizeOf,typeInfo,hi,h1',a]
theorem TV{e:TypeId}{x:Operand}(v:Value)(f:cX ops L i=some (some d,.box e x))(c:Nat.blt d n=true)(k:bU L x=some v)(a:St m own w)
  (h:∀b w',St m (.blk b (.cells v.cells e (0,0))::own) w'->N ((d,.pointer (some ⟨b,0,none⟩))::L) w'):dX P n ops Q i N L w:=by
 refine lQ (w':=w.alloc (.cells v.cells e)) f c (fun q g=> ?_) (h w.heap.size _ (a.alloc ⟨⟨rfl,rfl⟩,rfl,mC⟩ rfl))
 simp[execOp,g,Instr.box,cI k,newVar,newRow]
theorem St.settle{b:Nat}{c:Array Value}{e:TypeId}{f:Nat×Nat}(h:St m (.blk b (.cells c e f)::own) w):∃m',m.le m'/\St m' own w/\MRow m' b 0 c.toList:=by
 obtain⟨m',d,g,k,_⟩:=St.know (cs:=c.toList) h.tail (h.head_ne rfl) h.head.1 (gU (jN _)) (fun o v a=>by rw[h.head.2.1 o] at a;cases a)
 exact⟨m',d,g,k⟩
theorem qMb{e:TypeId}{x:Operand}(v:Value)(l:cX ops L i=some (some d,.box e x))(k:Nat.blt d n=true)(p:bU L x=some v)(a:St m own w)
  (h:∀b m' w',m.le m'->St m' own w'->MRow m' b 0 v.cells.toList->N ((d,.pointer (some ⟨b,0,none⟩))::L) w'):dX P n ops Q i N L w:=by
 refine TV v l k p a (fun b w' o=> ?_)
 obtain⟨m',c,f,g⟩:=o.settle
 exact h b m' w' c f g
def QE(P:Program)(e:TypeId):Option Value:=(P.info? e).bind (·.zero)
theorem WB{e:TypeId}(v:Value)(f:cX ops L i=some (some d,.alloc e))(c:Nat.blt d n=true)(k:QE P e=some v)(a:St m own w)
  (h:∀b w',St m (.blk b (.cells v.cells e (0,0))::own) w'->N ((d,.pointer (some ⟨b,0,none⟩))::L) w'):dX P n ops Q i N L w:=by
 obtain⟨inf,hi,hz'⟩:=jH.1 k
 refine lQ (w':=w.alloc (.cells v.cells e)) f c (fun q g=> ?_) (h w.heap.size _ (a.alloc ⟨⟨rfl,rfl⟩,rfl,mC⟩ rfl))
 simp[execOp,g,Instr.alloc,zeroValue,typeInfo,hi,hz',newVar,newRow]
def bV{α:Type}(l:List α)(i:Int):Option α:=if 0<=i then l[i.toNat]? else none
def pF(P:Program)(t:TypeId):Option (TypeId×Nat):=
 match P.underlying t with
 |some (.slice e)=>(P.info? e).map fun i=>(e,i.size)
 |_=>none
theorem vH{t e sz:Nat}(h:pF P t=some (e,sz)):P.underlying t=some (.slice e)/\∃inf,P.info? e=some inf/\inf.size=sz:=by
 unfold pF at h
 split at h
 .rename_i e' he
  cases hi:P.info? e' with
  |none=>simp[hi] at h
  |some inf=>simp[hi] at h;obtain⟨rfl,a⟩:=h;exact⟨he,inf,hi,a⟩
 cases h
theorem qJd{α:Type}{t e:TypeId}{x y:Operand}(c:Codec α){a:Option Addr}{cap:Nat}{l:List α}{k:IntKind}{ix:Int}{z:α}(E:cX ops L i=some (some d,.indexAddr t x y))(B:Nat.blt d n=true)
  (G:bU L x=some (.slice a l.length cap)) (H:bU L y=some (.int k ix)) (hi:pF P t=some (e,c.sz)) (r:RepS c m a cap l) (g:bV l ix=some z)
  (h:∀b o cs,c.rep m z cs->MRow m b o cs->N ((d,.pointer (some ⟨b,o,none⟩))::L) w):dX P n ops Q i N L w:=by
 obtain⟨s,inf,u,v⟩:=vH hi
 unfold bV at g
 split at g
 .rename_i h0
  have f:ix.toNat<l.length:=(List.getElem?_eq_some_iff.1 g).1
  cases a with
  |none=>obtain⟨rfl,_⟩:=r.none_nil;simp at f
  |some p=>
   obtain⟨cs,A,D⟩:=r.2.2.2 _ _ g
   refine lQ E B (fun q F=> ?_) (h p.block (p.off+ix.toNat*c.sz) cs A D)
   have hlt':ix<(l.length:Int):=by omega
   simp[execOp,F,Instr.indexAt,cI G,cI H,asIntOf,run_underlying s,h0,hlt',sizeOf,typeInfo,u,v,CA (r.spot (fun e=>by rw[e] at f;simp at f))]
 cases g
theorem qGq{α:Type}{t u e by_:Nat}{x y:Operand}(c:Codec α){a:Option Addr}{cap:Nat}{l k r:List α}{v:Value}
  (A:cX ops L i=some (some d,.call {callee:= .builtin .append,args:= #[x,y],argTypes:= #[t,u]})) (s:Nat.blt d n=true)
  (F:bU L x=some (.slice a l.length cap)) (G:bU L y=some v) (p:St m (.room a l.length cap e c.sz::own) w) (hi:vL P t=some (e,c.sz,by_,c.sz)) (E:wC P u e)
  (B:RepS c m a cap l) (z:CX P c m v k) (D:dY by_ l k=some r)
  (h:∀a' cap' m' w',m.le m'->St m' (.room a' r.length cap' e c.sz::own) w'->RepS c m' a' cap' r->N ((d,.slice a' r.length cap')::L) w'):dX P n ops Q i N L w:=by
 refine CE (v:=undef) (w':=w) A s (fun o q=> ?_)
 obtain⟨a',cap',m',w',f,g,hst',b⟩:=qFi (P:=P) (ty:=o.type) hi E p B z D
 refine⟨_,w',?_,h a' cap' m' w' g hst' b⟩
 simp[execOp,q,resolve,invoke,builtin,cI F,cI G,f]
theorem St.nilroom(h:St m own w)(e sz:Nat):St m (.room none 0 0 e sz::own) w:=h.cons ⟨rfl,rfl⟩ (by simp[Piece.block])
theorem nF{α:Type}{t e:TypeId}{len:Nat}{parts:Array (Nat×Operand)}(c:Codec α){xs:List α}(cs:List Value)(H:cX ops L i=some (some d,.buildSlice t len parts))(G:Nat.blt d n=true)
  (u:∀w:World,(Instr.buildSlice t len (parts.map fun p=>(p.1,lU L p.2))).run P w= .ok (.slice (some ⟨w.heap.size,0,none⟩) len len) (w.alloc (.cells cs.toArray e)))
  (l:len=xs.length) (r:Nat.ble len maxLen=true) (k:St m own w) (s:RepAll c m xs cs)
  (h:∀b m' w',m.le m'->St m' (.room (some ⟨b,0,none⟩) xs.length len e c.sz::own) w'->RepS c m' (some ⟨b,0,none⟩) len xs->N ((d,.slice (some ⟨b,0,none⟩) xs.length len)::L) w'):dX P n ops Q i N L w:=by
 subst l
 have a:=k.alloc (w':=w.alloc (.cells cs.toArray e)) ⟨⟨rfl,rfl⟩,rfl,mC⟩ rfl
 have f:=k.fresh_free
 obtain⟨m',y,B,D,E,F,_⟩:=St.know (cs:=cs) a.tail (a.head_ne rfl) a.head.1 (by simp) (fun o v A=>by rw[f.1 o] at A;cases A)
 have g:=kV r
 refine lQ H G (fun q K=> ?_) (h w.heap.size m' _ y (B.cons ⟨rfl,rfl,jN _,g,⟨cs.toArray,a.head.1,by simp[s.len]⟩,?_,?_⟩ ?_) (RepS.of_cells (jN _) g (fun j x M=>c.mono _ _ _ _ y (s.rep j x M)) D))
 .simp[execOp,K,u w]
 .intro o ho';exact E o (by rw[s.len];exact ho')
 .rw[F];exact f.2
 intro b z;simp only[Piece.block,kG,jG] at z;subst z;exact a.head_ne rfl
def NM(P:Program)(t:TypeId)(len:Nat)(parts:List (Nat×Value)):Option (TypeId×List Value):=
 match P.underlying t with
 |some (.slice e)=>match P.info? e with
  |some inf=>bif Nat.ble (len*inf.size) (2^24)&&Nat.blt 0 (len*inf.size) then
   (match inf.zero with
   |some z=>(Instr.fill (fun i=>some (i*inf.size,inf.size)) ((Array.range (len*inf.size)).map (z.cells[· %z.cells.size]!)) parts).map fun a=>(e,a.toList)
   |none=>none) else none
  |none=>none
 |_=>none
theorem nH{t e:TypeId}{len:Nat}{parts:Array (Nat×Value)}{cs:List Value}(h:NM P t len parts.toList=some (e,cs))(w:World):
  (Instr.buildSlice t len parts).run P w= .ok (.slice (some ⟨w.heap.size,0,none⟩) len len) (w.alloc (.cells cs.toArray e)):=by
 unfold NM at h
 split at h
 .rename_i e' he
  split at h
  .rename_i inf hi
   cases b:(Nat.ble (len*inf.size) (2^24)&&Nat.blt 0 (len*inf.size)) with
   |false=>simp[b] at h
   |true=>
    simp only[b,cond_true] at h
    simp only[jR] at b
    have g:=kV b.1
    have k:0<len*inf.size:=by simpa[Nat.blt_eq] using b.2
    have h1':¬(16777216<len*inf.size):=by omega
    have h2':¬(len*inf.size=0):=by omega
    split at h
    .rename_i z hz
     obtain⟨a,f,c⟩:=kH.1 h
     simp only[Prod.mk.injEq] at c
     obtain⟨rfl,rfl⟩:=c
     simp[Instr.buildSlice,run_underlying he,sizeOf,typeInfo,zeroValue,hi,hz,h1',f,newRow]
     intro d;exact absurd d h2'
    cases h
  cases h
 cases h
def DE{α:Type}(l:List α)(lo hi:Int):Option (List α):=if 0<=lo/\lo<=hi/\hi<=l.length then some ((l.take hi.toNat).drop lo.toNat) else none
theorem RepS.sub{α:Type}{c:Codec α}{a:Option Addr}{cap:Nat}{l:List α}(h:RepS c m a cap l){lo hi:Nat}(o:lo<=hi)(g:hi<=l.length):
  RepS c m (if cap=lo then a else a.map (·.add (lo*c.sz))) (cap-lo) ((l.take hi).drop lo)/\((l.take hi).drop lo).length=hi-lo:=by
 have d:((l.take hi).drop lo).length=hi-lo:=by simp;omega
 refine⟨⟨by rw[d];have:=h.1;omega,by have:=h.2.1;omega,?_⟩,d⟩
 cases a with
 |none=>
  obtain⟨rfl,e⟩:=h.none_nil
  have:(if cap=lo then(none:Option Addr) else(none:Option Addr).map (·.add (lo*c.sz)))=none:=by split<;>rfl
  rw[this]
  simp[e]
 |some p=>
  by_cases hl:l=[]
  .subst hl
   have b:lo=0:=by simp at g;omega
   subst b
   simp[Addr.add]
  have f:=h.spot hl
  by_cases e:cap=lo
  .rw[if_pos e]
   refine⟨.inl f,fun j x b=> ?_⟩
   have k:=(List.getElem?_eq_some_iff.1 b).1
   have:=h.1
   omega
  rw[if_neg e]
  simp only[kG]
  rw[CA f]
  refine⟨.inl rfl,fun j x b=> ?_⟩
  rw[List.getElem?_drop,List.getElem?_take] at b
  split at b
  .obtain⟨cs,n,k⟩:=h.2.2.2 _ _ b
   refine⟨cs,n,?_⟩
   rw[fI,<-kF];exact k
  cases b
theorem qIn{α:Type}{t e:TypeId}{x:Operand}{lo hi:Option Operand}(c:Codec α){a:Option Addr}{cap:Nat}{l r:List α}{li hix:Int}
  (u:bU L x=some (.slice a l.length cap)) (H:pF P t=some (e,c.sz)) (E:RepS c m a cap l)
  (D:(lo=none/\li=0)\/∃y k,lo=some y/\bU L y=some (.int k li)) (A:(hi=none/\hix=l.length)\/∃y k,hi=some y/\bU L y=some (.int k hix)) (g:DE l li hix=some r):
  ∃v,(∀o:Oper,o.op= .slice t x lo hi none->∀w:World,(execOp (lU L) o).run P w= .ok (.value v) w)/\∃a' cap',v= .slice a' r.length cap'/\RepS c m a' cap' r:=by
 obtain⟨h,inf,n,p⟩:=vH H
 unfold DE at g
 split at g
 .rename_i hb
  obtain⟨z,G,K⟩:=hb
  simp only[jG] at g
  have b:=E.sub (lo:=li.toNat) (hi:=hix.toNat) (by omega) (by omega)
  rw[g] at b
  refine⟨_,fun q s w=> ?_,_,_,rfl,b.1⟩
  have d:hix<=(cap:Int):=by have:=E.1;omega
  have f:0<=hix:=by omega
  have B:li<=max hix 0:=by omega
  rcases D with ⟨rfl,rfl⟩|⟨y,k,rfl,F⟩<;>rcases A with ⟨rfl,rfl⟩|⟨y',k',rfl,hy'⟩
  .simp[execOp,s,Instr.sliceAt,Instr.slice,Instr.sliceBounds,run_underlying h,cI u,sizeOf,typeInfo,n,p] at*
   exact b.2.symm
  .simp[execOp,s,Instr.sliceAt,Instr.slice,Instr.sliceBounds,Instr.sliceBound,asIntOf,run_underlying h,cI u,cI hy',sizeOf,typeInfo,n,p,f,d] at*
   exact b.2.symm
  .have:li<=(l.length:Int):=G
   simp[execOp,s,Instr.sliceAt,Instr.slice,Instr.sliceBounds,Instr.sliceBound,asIntOf,run_underlying h,cI u,cI F,sizeOf,typeInfo,n,p,z,this] at*
   exact b.2.symm
  simp[execOp,s,Instr.sliceAt,Instr.slice,Instr.sliceBounds,Instr.sliceBound,asIntOf,run_underlying h,cI u,cI F,cI hy',sizeOf,typeInfo,n,p,f,d,z,B] at*
  exact b.2.symm
 cases g
theorem qHq{α:Type}{t e:TypeId}{x:Operand}{lo hi:Option Operand}(c:Codec α){a:Option Addr}{cap:Nat}{l r:List α}{li hix:Int}
  (s:cX ops L i=some (some d,.slice t x lo hi none)) (p:Nat.blt d n=true) (D:bU L x=some (.slice a l.length cap)) (o:pF P t=some (e,c.sz)) (z:RepS c m a cap l)
  (g:(lo=none/\li=0)\/∃y k,lo=some y/\bU L y=some (.int k li)) (f:(hi=none/\hix=l.length)\/∃y k,hi=some y/\bU L y=some (.int k hix)) (A:DE l li hix=some r)
  (h:∀a' cap',RepS c m a' cap' r->N ((d,.slice a' r.length cap')::L) w):dX P n ops Q i N L w:=by
 obtain⟨v,B,a',cap',rfl,b⟩:=qIn (P:=P) (L:=L) c D o z g f A
 exact lQ s p (fun q u=>B q u w) (h a' cap' b)
end
end
end Go.Dc
section
namespace Go.Dc
def MI(x y:Int):Option Int:=if y=0 then none else some (x.tmod y)
def aK{σ β:Type}(f:σ->Option (σ⊕β)):Nat->σ->Option β
 |0,_=>none
 |k+1,s=>(f s).bind fun
  | .inl s'=>aK f k s'
  | .inr b=>some b
theorem qGv{σ β:Type}{f:σ->Option (σ⊕β)}{k:Nat}{s:σ}{b:β}(h:aK f (k+1) s=some b):∃c,f s=some c/\(∀s',c= .inl s'->aK f k s'=some b)/\(∀b',c= .inr b'->b'=b):=by
 simp only[aK] at h
 obtain⟨c,d,a⟩:=jH.1 h
 refine⟨c,d,?_,?_⟩
 .rintro s' rfl;exact a
 rintro b' rfl;simpa using a
section
variable {ρ:Option Nat} {P:Program} {n:Fr} {ops:Array Oper} {Q:Exit->Act->World->Prop} {i d:Nat} {L:bP} {w:World} {m:Mem} {own:List Piece} {N:bP->World->Prop}
theorem ZT{t:Nat}{b:Bool}(e:Bool)(d:eH L t=some (.bool e))(f:e=b)(h:WO P n ops Q i ((t,.bool b)::L) w):WO P n ops Q i L w:=by
 intro a g
 refine h a (g.sub ?_)
 intro u v c
 simp only[eH] at c
 cases hb:Nat.beq t u with
 |true=>
  simp only[hb,cond_true] at c
  have:=gX hb;subst this
  rw[d,f];exact c
 |false=>simp only[hb,cond_false] at c;exact c
theorem vY{j:Nat}(I:bP->World->Prop)(a:∀L' w',I L' w'->WO P n ops Q j L' w')(b:(∀L' w',I L' w'->WO P n ops Q j L' w')->WO P n ops Q i L w):WO P n ops Q i L w:=b a
theorem dH{c:Code}(e:Exit)(I:bP->World->Prop)(b:∀L' w',I L' w'->X n Q e L' w')(a:(∀L' w',I L' w'->X n Q e L' w')->W ρ P n c Q L w):W ρ P n c Q L w:=a b
theorem qMj{t t2:TypeId}{x y:Operand}{k:IntKind}{a b r:Int}(f:cX ops L i=some (some d,.binOp .rem t x y t2))(e:Nat.blt d n=true)(l:bU L x=some (.int k a))(o:bU L y=some (.int k b))
  (c:MI a b=some r) (h:N ((d,.int k r)::L) w):dX P n ops Q i N L w:=by
 unfold MI at c
 split at c
 .cases c
 rename_i hb
 simp only[jG] at c;subst c
 refine lQ f e (fun q g=> ?_) h
 simp[execOp,g,cI l,cI o,eqGuard,binOp,Op.intDiv,hb]
def lN(s:BA)(lo hi:Int):Option BA:=if 0<=lo/\lo<=hi/\hi<=s.size then some (s.extract lo.toNat hi.toNat) else none
def eD(s:BA)(i:Int):Option UInt8:=if 0<=i then s[i.toNat]? else none
def cZ(s t:BA):Option BA:=if s.size+t.size<=maxLen then some (s++t) else none
def nN(l:List UInt8):BA:=⟨l.toArray⟩
theorem qEq{t:TypeId}{x y:Operand}{s:BA}{k:IntKind}{ix:Int}{z:UInt8}(c:cX ops L i=some (some d,.index t x y))(b:Nat.blt d n=true)(g:bU L x=some (.string s))(l:bU L y=some (.int k ix))
  (f:P.underlying t=some .string) (a:eD s ix=some z) (h:N ((d,.int .u8 (z.toNat:Int))::L) w):dX P n ops Q i N L w:=by
 unfold eD at a
 split at a
 .rename_i h0
  refine lQ c b (fun q e=> ?_) h
  simp[execOp,e,cI g,cI l,Instr.index,asIntOf,run_underlying f,h0,a]
 cases a
theorem oF{t:TypeId}{x:Operand}{lo hi:Option Operand}{s r:BA}{li hix:Int}(B:cX ops L i=some (some d,.slice t x lo hi none))(A:Nat.blt d n=true)(f:bU L x=some (.string s))
  (e:P.underlying t=some .string) (u:(lo=none/\li=0)\/∃y k,lo=some y/\bU L y=some (.int k li)) (o:(hi=none/\hix=s.size)\/∃y k,hi=some y/\bU L y=some (.int k hix)) (b:lN s li hix=some r)
  (h:N ((d,.string r)::L) w):dX P n ops Q i N L w:=by
 unfold lN at b
 split at b
 .rename_i hb
  obtain⟨g,z,l⟩:=hb
  simp only[jG] at b;subst b
  refine lQ B A (fun q c=> ?_) h
  have a:0<=hix:=by omega
  have p:li<=max hix 0:=by omega
  rcases u with ⟨rfl,rfl⟩|⟨y,k,rfl,v⟩<;>rcases o with ⟨rfl,rfl⟩|⟨y',k',rfl,hy'⟩
  .simp[execOp,c,Instr.sliceAt,Instr.slice,Instr.sliceBounds,run_underlying e,cI f]
  .simp[execOp,c,Instr.sliceAt,Instr.slice,Instr.sliceBounds,Instr.sliceBound,asIntOf,run_underlying e,cI f,cI hy',a,l]
  .have:li<=(s.size:Int):=z
   simp[execOp,c,Instr.sliceAt,Instr.slice,Instr.sliceBounds,Instr.sliceBound,asIntOf,run_underlying e,cI f,cI v,g,this]
  simp[execOp,c,Instr.sliceAt,Instr.slice,Instr.sliceBounds,Instr.sliceBound,asIntOf,run_underlying e,cI f,cI v,cI hy',a,l,g,p]
 cases b
theorem qMr{t t2:TypeId}{x y:Operand}{a b r:BA}(g:cX ops L i=some (some d,.binOp .add t x y t2))(f:Nat.blt d n=true)(l:bU L x=some (.string a))(o:bU L y=some (.string b))
  (c:cZ a b=some r) (h:N ((d,.string r)::L) w):dX P n ops Q i N L w:=by
 unfold cZ at c
 split at c
 .rename_i hb
  simp only[jG] at c;subst c
  refine lQ g f (fun q k=> ?_) h
  have e:IntKind.i64.max=9223372036854775807:=by decide
  have hb':¬(9223372036854775807<(a.size:Int)+(b.size:Int)):=by simp only[maxLen] at hb;omega
  simp[execOp,k,cI l,cI o,eqGuard,binOp,Op.stringOp,e,hb']
 cases c
def ResAt(P:Program)(w:World)(L:bP)(rv:ResultVar)(v:Value):Prop:=
 match rv with
 | .tmp t=>eH L t=some v
 | .cell a t=>∃b o cs,eH L a=some (.pointer (some ⟨b,o,none⟩))/\(∀j u,cs[j]? =some u->w.cell? ⟨b,o+j,none⟩=some u)/\nX P t cs=some v
def ResAll(P:Program)(w:World)(L:bP):List ResultVar->List Value->Prop
 |[],vs=>vs=[]
 |rv::l,vs=>∃v vs',vs=v::vs'/\ResAt P w L rv v/\ResAll P w L l vs'
def tZ:List Value->Value
 |[v]=>v
 |vs=> .tuple vs.toArray
theorem ResAt.row{t:TypeId}{a:Nat}{b o:Nat}{cs:List Value}{v:Value}(d:eH L a=some (.pointer (some ⟨b,o,none⟩)))(c:St m own w)(e:MRow m b o cs)(g:nX P t cs=some v):ResAt P w L (.cell a t) v:=
 ⟨b,o,cs,d,fun j u f=>c.inv.cell (e j u f),g⟩
theorem ResAt.blk{t e:TypeId}{a:Nat}{b o:Nat}{c:Array Value}{f:Nat×Nat}{v:Value}(g:eH L a=some (.pointer (some ⟨b,o,none⟩)))(h:Piece.holds m w (.blk b (.cells c e f)))(k:nX P t (c.toList.drop o)=some v):ResAt P w L (.cell a t) v:=
 ⟨b,o,c.toList.drop o,g,fun j u d=>by
  rw[List.getElem?_drop] at d
  simp only[World.cell?,h.1]
  simpa using d,k⟩
def HT(tmps:Array Value):ResultVar->Sem Value
 | .tmp t=>pure (tmps.getD t undef)
 | .cell a t=>do loadVar t (<-asAddr (tmps.getD a undef))
theorem qHl(fn:Func)(tmps:Array Value):results fn tmps=(do let vs <-fn.results.mapM (HT tmps);pure (if h:vs.size=1 then vs[0] else .tuple vs)):=by
 unfold results
 congr 2
theorem CW{k:Nat}{fn:Func}{R:Ending->World->Prop}(rvs:List ResultVar)(vs:List Value)(q:fn.results=rvs.toArray)(y:ResAll P w L rvs vs)(h:R (.returned (tZ vs)) w):X ⟨k,[]⟩ (bodyPost P fn R) .ret L w:=by
 intro a c
 refine⟨c.2.1,tZ vs,?_,h⟩
 have key:∀(l:List ResultVar) (us:List Value),ResAll P w L l us->Sem.run P (l.mapM (HT a.tmps)) w= .ok us w:=by
  intro l
  induction l with
  |nil=>intro us h;simp[ResAll] at h;subst h;simp
  |cons r l z=>
   rintro us ⟨v,vs',rfl,e,f⟩
   have s:Sem.run P (HT a.tmps r) w= .ok v w:=by
    cases r with
    |tmp t=>
     have d:a.tmps[t]? =some v:=c.2.2 t v e
     simp[HT,d]
    |cell x t=>
     obtain⟨b,o,cs,g,n,p⟩:=e
     have d:a.tmps[x]? =some (.pointer (some ⟨b,o,none⟩)):=c.2.2 x _ g
     have:=xY (P:=P) n p
     simp[HT,d,asAddr,this]
   rw[List.mapM_cons]
   simp only[Sem.run_bind,s,Result.andThen_ok,z vs' f,Sem.run_pure]
 have d:=key rvs vs y
 rw[qHl,q]
 simp only[Sem.run_bind,List.mapM_toArray,Sem.run_map,d,Result.andThen_ok,Sem.run_pure]
 rcases vs with _|⟨v,_|⟨u,r⟩⟩
 .rfl
 .rfl
 simp[tZ]
end
end Go.Dc
namespace Go.Dc
theorem not_true{e:Bool}(h:e=false):¬e=true:=by rw[h];exact gE
theorem ResAt.tmp{P:Program}{w:World}{L:bP}{t:Nat}{v:Value}(h:eH L t=some v):ResAt P w L (.tmp t) v:=h
theorem ResAll.nil{P:Program}{w:World}{L:bP}:ResAll P w L [] []:=rfl
theorem ResAll.cons{P:Program}{w:World}{L:bP}{rv:ResultVar}{l:List ResultVar}{v:Value}{vs:List Value}(a:ResAt P w L rv v)(b:ResAll P w L l vs):ResAll P w L (rv::l) (v::vs):=⟨v,vs,rfl,a,b⟩
theorem aZ{α β:Type}{x:Option α}{f:α->Option β}{b:β}(h:x.bind f=some b):∃a,x=some a/\f a=some b:=jH.1 h
end Go.Dc
namespace Go.Dc
theorem dJ(e:Bool):e=true\/e=false:=by cases e<;>simp
end Go.Dc
namespace Go.Dc
theorem cU{σ β:Type}{f:σ->Option (σ⊕β)}{s:σ}{b:β}{p:Prop}(h:aK f 0 s=some b):p:=by simp[aK] at h
end Go.Dc
namespace Go.Dc
section
variable {ρ:Option Nat} {P:Program} {n:Fr} {ops:Array Oper} {Q:Exit->Act->World->Prop} {L:bP} {w:World} {m:Mem} {own:List Piece}
def TS:List (Nat×(World->Prop))->Array Bool->World->Prop
 |[],_,_=>True
 |p::ks,l,w=>(l.getD p.1 false=true\/p.2 w)/\TS ks l w
theorem QF{ks:List (Nat×(World->Prop))}{l:Array Bool}{w:World}:TS ks l w↔∀p∈ks,l.getD p.1 false=true\/p.2 w:=by
 induction ks with
 |nil=>simp[TS]
 |cons p ks a=>simp[TS,a]
def ZD(ks:List (Nat×(World->Prop)))(i:Nat):Bool:=ks.all fun p=> !Nat.beq p.1 i
theorem qEz{ks:List (Nat×(World->Prop))}{i:Nat}(h:ZD ks i=true):∀p∈ks,p.1≠i:=by
 intro p a e
 have:=jX.1 h p a
 subst e
 simp at this
def HP(P:Program)(ops:Array Oper)(Q:Exit->Act->World->Prop)(ks:List (Nat×(World->Prop))):Nat->Array Bool->Act->World->Prop
 |0,listed,a,w=>Region.ready .any ops listed=[]/\Q .normal a w
 |fuel+1,listed,a,w=>
  (Region.ready .any ops listed=[]->Q .normal a w)/\
  ∀i∈Region.ready .any ops listed,mV P ops Q i (fun a' w'=>TS ks (listed.setIfInBounds i true) w'/\HP P ops Q ks fuel (listed.setIfInBounds i true) a' w') a w
theorem VE{ρ:Option Nat}(b:CK ρ ops=true){ks:List (Nat×(World->Prop))}:∀(fuel:Nat) (listed:Array Bool) (a:Act) (w:World),HP P ops Q ks fuel listed a w->wpAnyIn (mO ρ) 0 P .any ops Q fuel listed a w
 |0,_,_,_,h=>h
 |fuel+1,_,_,_,h=>⟨h.1,fun i hi=>qAb b (fun a' w' h'=>VE b fuel _ a' w' h'.2) (h.2 i hi)⟩
theorem SY{S:World->Prop}{i:Nat}{o:Oper}{v:Value}{a:Act}(e:YieldsIf P ops S o v a)(hi:ops[i]? =some o)
  {K:Act->World->Prop} {w:World} (c:S w) (h:K (a.put o.dst v) w):mV P ops Q i K a w:=by
 unfold mV
 simp only[hi]
 rcases e with ⟨b,d⟩|⟨b,rfl⟩
 .simp only[b,jE,d w c,Oper.uponIn];exact h
 simp only[b,j9,jC];exact h
theorem qIl{S:World->Prop}{j:Nat}{oi oj:Oper}{v:Value}(z:ops[j]? =some oj)(s:oi.apart ops oj=true)
  (t:∀cs b,oi.op≠ .select cs b) (y:∀cs b,oj.op≠ .select cs b)
  (o:∀c a w,Q (.panic c) (a.put oi.dst v) w->Q (.panic c) a w) {K:Act->World->Prop} {a:Act} {w:World}
  (k:YieldsIf P ops S oi v a) (h:mV P ops Q j K (a.put oi.dst v) w):
  mV P ops Q j (fun a' w'=>YieldsIf P ops S oi v a'/\K (a'.put oi.dst v) w') a w:=by
 obtain⟨p,n,q⟩:=Oper.apart_spec s
 have keep:∀(a:Act),YieldsIf P ops S oi v a->∀u,YieldsIf P ops S oi v (a.put oj.dst u):=fun a k u=>
  k.of_same (execOp_put oi t a oj.dst u q) (wanted_put oi a oj.dst u q)
 have keepD:∀d,YieldsIf P ops S oi v {a with defers:=d::a.defers}:=fun d=>k.of_same rfl rfl
 unfold mV at*
 simp only[z] at*
 rw[wanted_put oj a oi.dst v p] at h
 split
 .rename_i hw
  simp only[hw,jE] at h
  rw[execOp_put oj y a oi.dst v p] at h
  generalize (execOp a.eval oj).run P w=r at*
  cases r with
  |ok x w'=>
   cases x<;>simp only[Oper.uponIn] at h ⊢
   case value u=>exact⟨keep a k u,by rw[<-Act.put_comm a v u n];exact h⟩
   case skip=>exact⟨keep a k _,by rw[<-Act.put_comm a v undef n];exact h⟩
   case defer d=>
    refine⟨keep _ (keepD d) _,?_⟩
    rw[<-Act.put_comm _ v undef n,<-Act.put_defers]
    exact h
   case enter f args=>
    refine⟨h.1,CallsIn.mono h.2 fun e w'' g=> ?_⟩
    cases e with
    |returned u=>exact⟨keep a k u,by rw[<-Act.put_comm a v u n];exact g⟩
    |panicked c=>exact o _ _ _ g
    |outgrown=>exact g
   case row row args=>exact⟨h.1,RowsIn.mono h.2 fun u w'' g=>⟨keep a k u,by rw[<-Act.put_comm a v u n];exact g⟩⟩
   case round l f tmps assign body=>
    refine⟨h.1,RoundIn.mono h.2 fun e w'' g=> ?_⟩
    cases e with
    |returned u=>exact⟨keep a k u,by rw[<-Act.put_comm a v u n];exact g⟩
    |panicked c=>exact o _ _ _ g
    |outgrown=>exact g
  |halt x w'=>
   cases x<;>simp only[Oper.uponIn] at h ⊢
   case panic u=>exact o _ _ _ h
 rename_i hw
 simp only[hw] at h
 exact⟨keep a k _,by rw[<-Act.put_comm a v undef n];exact h⟩
def LM(ops:Array Oper)(k i:Nat):Bool:=
 match ops[k]? with
 |none=>true
 |some o=>o.after.any fun e=>Region.binds .any e&&e.on==i
theorem qEg{k i:Nat}(h:LM ops k i=true){listed:Array Bool}(hi:listed.getD i true=false):k∉Region.ready .any ops listed:=by
 intro f
 obtain⟨_,o,g,b⟩:=mem_ready.1 f
 simp only[LM,g] at h
 obtain⟨e,d,c⟩:=Array.any_eq_true'.1 h
 simp only[jR,kE] at c
 have a:=b e d c.1
 rw[c.2] at a
 rcases fG i listed.size with h'|h'
 .simp[h'] at hi a;rw[hi] at a;cases a
 simp[Array.getElem?_eq_none h'] at a
theorem QM{ks:List (Nat×(World->Prop))}{l:Array Bool}{w:World}{i:Nat}(h:TS ks l w):TS ks (l.setIfInBounds i true) w:=by
 rw[QF] at*
 intro p a
 rcases h p a with h|h
 .left
  by_cases hi:i=p.1
  .subst hi
   rcases fG p.1 l.size with h'|h'
   .simp[h']
   simp[Array.getElem?_eq_none h'] at h
  rw[getD_set_ne false hi];exact h
 exact .inr h
theorem qKh{ks:List (Nat×(World->Prop))}{l:Array Bool}{w:World}{i j:Nat}(b:∀p∈ks,p.1≠i)(h:TS ks ((l.setIfInBounds i true).setIfInBounds j true) w):TS ks (l.setIfInBounds j true) w:=by
 by_cases hij:i=j
 .subst hij;simpa using h
 rw[QF] at*
 intro p a
 rcases h p a with h|h
 .left
  by_cases hj:j=p.1
  .subst hj
   rcases fG p.1 l.size with h'|h'
   .simp[h']
   simp[Array.getElem?_eq_none h'] at h;omega
  rw[getD_set_ne false hj] at h ⊢
  rw[getD_set_ne false (Ne.symm (b p a))] at h;exact h
 exact .inr h
theorem qEo{k i:Nat}{S:World->Prop}{ks:List (Nat×(World->Prop))}(z:(k,S)∈ks)(F:∀p∈ks,p.1≠i){oi:Oper}{v:Value}(y:LM ops k i=true)(hi:ops[i]? =some oi)(B:∀(j:Nat) (o:Oper) cs b,ops[j]? =some o->o.op≠ .select cs b)
  (Y:∀c a w,Q (.panic c) (a.put oi.dst v) w->Q (.panic c) a w):
  ∀(fuel:Nat) (listed:Array Bool) (a:Act) (w:World),listed.getD k false=false->
   (∀j oj,ops[j]? =some oj->j≠i->listed.getD j true=false->(∀e∈oj.after,Region.binds .any e=true->e.on≠i)->oi.apart ops oj=true)->
   i∈Region.ready .any ops listed->YieldsIf P ops S oi v a->TS ks listed w->
   HP P ops Q ks fuel (listed.setIfInBounds i true) (a.put oi.dst v) w->HP P ops Q ks (fuel+1) listed a w:=by
 have a1:k≠i:=F _ z
 have getS:∀{l:Array Bool} {w:World},l.getD k false=false->TS ks l w->S w:=fun D h=>by
  rcases QF.1 h _ z with h|h
  .simp only at h;rw[D] at h;cases h
  exact h
 intro fuel
 induction fuel with
 |zero=>
  intro listed a w s _ f E t H
  refine⟨fun h=>(by rw[h] at f;cases f),fun j u=> ?_⟩
  by_cases d:j=i
  .subst d;exact SY E hi (getS s t) ⟨QM t,H⟩
  have:=ready_mono u d
  rw[H.1] at this
  cases this
 |succ fuel ih=>
  intro listed a w s n f E t H
  refine⟨fun h=>(by rw[h] at f;cases f),fun j u=> ?_⟩
  by_cases d:j=i
  .subst d;exact SY E hi (getS s t) ⟨QM t,H⟩
  have r:j≠k:=by
   rintro rfl
   exact qEg y (mem_ready.1 f).1 u
  have g:=H.2 j (ready_mono u d)
  obtain⟨x,oj,A,K⟩:=mem_ready.1 u
  have M:∀e∈oj.after,Region.binds .any e=true->e.on≠i:=fun e he Z R=>by
   have g:=K e he Z
   have D:=(mem_ready.1 f).1
   rw[R] at g
   rcases fG i listed.size with h'|h'
   .simp[h'] at D g;rw[D] at g;cases g
   simp[Array.getElem?_eq_none h'] at g
  have V:=qIl A (n j oj A d x M) (fun cs b=>B i oi cs b hi) (fun cs b=>B j oj cs b A) Y E g
  have hfree':∀q ok,ops[q]? =some ok->q≠i->(listed.setIfInBounds j true).getD q true=false->
    (∀e∈ok.after,Region.binds .any e=true->e.on≠i)->oi.apart ops ok=true:=fun q ok hk y G U=>by
   refine n q ok hk y ?_ U
   by_cases r:j=q
   .subst r;exact x
   rw[getD_set_ne true r] at G;exact G
  have hk0':(listed.setIfInBounds j true).getD k false=false:=by rw[getD_set_ne false r];exact s
  refine LE (fun a' w' G=> ?_) V
  have hT':TS ks (listed.setIfInBounds j true) w':=qKh F G.2.1
  refine⟨hT',ih (listed.setIfInBounds j true) a' w' hk0' hfree' (ready_mono f (Ne.symm d)) G.1 hT' ?_⟩
  rw[Array.setIfInBounds_comm _ _ d]
  exact G.2.2
def QP(Q:Exit->Act->World->Prop):Prop:=∀c a w d v,Q (.panic c) (Act.put a d v) w->Q (.panic c) a w
theorem bJ{K:Act->World->Prop}(h:QP Q):QP (Exit.then K Q):=h
theorem cY{id:Nat}(h:QP Q):QP (Exit.inBlock id Q):=h
theorem eV{fn:Func}{R:Ending->World->Prop}:QP (bodyPost P fn R):=by
 rintro c a w d v ⟨b,e⟩
 refine⟨?_,e⟩
 cases d<;>exact b
def marks(l:List Nat)(n:Nat):Array Bool:=l.foldl (fun a i=>a.setIfInBounds i true) (Array.replicate n false)
def WA(P:Program)(n:Fr)(ops:Array Oper)(Q:Exit->Act->World->Prop)(ks:List (Nat×(World->Prop)))(fuel:Nat)(done:List Nat)(L:bP)(w:World):Prop:=
 TS ks (marks done ops.size) w->∀a,Fits n a L->HP P ops Q ks fuel (marks done ops.size) a w
theorem BW(l:List Nat)(i n:Nat):marks (l++[i]) n=(marks l n).setIfInBounds i true:=by simp[marks,fQ]
theorem qMt{id:Nat}(d:CK ρ ops=true)(ks:List (Nat×(World->Prop)))(e:P.follows .mixedOrders=true)(st:St m own w)(h:∀w',w'.heap=w.heap->St m own w'->TS ks (marks [] ops.size) w'/\WA P n ops Q ks ops.size [] L w'):W ρ P n (.region id ops true) Q L w:=by
 intro a c
 have b:=h {w with drawn:=w.drawn+1} rfl (st.grow ⟨⟨rfl,rfl⟩,rfl,mC⟩ fun _ _=>rfl)
 exact wpIn_region_any e (VE d (ks:=ks) _ _ _ _ (b.2 b.1 a c))
theorem dK{id:Nat}(ks:List (Nat×(World->Prop)))(a:P.follows .mixedOrders=true)(st:St m own w)(h:∀w',w'.heap=w.heap->St m own w'->TS ks (marks [] ops.size) w'/\WA P n ops Q ks ops.size [] L w'):W none P n (.region id ops true) Q L w:=qMt rfl ks a st h
def nV(ops:Array Oper)(ks:List (Nat×(World->Prop)))(k i:Nat)(done:List Nat):Bool:=
 Region.noSelect ops&&Region.free .any ops (marks done ops.size) i&&(Region.ready .any ops (marks done ops.size)).contains i&&LM ops k i&&ZD ks i&& !((marks done ops.size).getD k false)
section
variable {ks:List (Nat×(World->Prop))}
theorem PD{k fuel:Nat}{S:World->Prop}{done:List Nat}{i:Nat}{o:Oper}{v:Value}{L':bP}(d:ops[i]? =some o)(g:nV ops ks k i done=true)(b:(k,S)∈ks)(p:QP Q)
  (q:∀a,Fits n a L->YieldsIf P ops S o v a) (l:∀a,Fits n a L->Fits n (a.put o.dst v) L') (h:WA P n ops Q ks fuel (done++[i]) L' w):WA P n ops Q ks (fuel+1) done L w:=by
 simp only[nV,jR,fR] at g
 obtain⟨⟨⟨⟨⟨s1,s2⟩,r⟩,s⟩,t⟩,u⟩:=g
 intro e a f
 have hT':TS ks (marks (done++[i]) ops.size) w:=by rw[BW];exact QM e
 have:=h hT' (a.put o.dst v) (l a f)
 rw[BW] at this
 exact qEo b (qEz t) s d (Region.noSelect_spec s1) (fun c a w=>p c a w _ _) fuel _ a w u (Region.free_spec d s2) (by simpa using r) (q a f) e this
theorem yI{k fuel:Nat}{S:World->Prop}{done:List Nat}(i d:Nat)(op:Op)(v:Value)(s:cX ops L i=some (some d,op))(r:Nat.blt d n=true)
  (u:nV ops ks k i done=true) (c:(k,S)∈ks)
  (t:QP Q) (e:∀o:Oper,o.op=op->∀w,S w->(execOp (lU L) o).run P w= .ok (.value v) w)
  (h:WA P n ops Q ks fuel (done++[i]) ((d,v)::L) w):WA P n ops Q ks (fuel+1) done L w:=by
 obtain⟨o,f,g,l,p,q⟩:=GZ s
 exact PD f u c t (v:=v) (fun a b=> .inl ⟨b.wanted p,fun w' hw'=>by rw[b.exec q];exact e o l w' hw'⟩) (fun a b=>by rw[g];exact b.put r v) h
theorem qNe{k fuel:Nat}{S:World->Prop}{done:List Nat}(i d:Nat)(r:((ops[i]?).bind fun o=>(mG ops L o.guard).map fun b=>(o.dst,b))=some (some d,false))(q:Nat.blt d n=true)
  (t:nV ops ks k i done=true) (f:(k,S)∈ks)
  (s:QP Q) (h:WA P n ops Q ks fuel (done++[i]) ((d,undef)::L) w):WA P n ops Q ks (fuel+1) done L w:=by
 obtain⟨o,g,l⟩:=jH.1 r
 obtain⟨b,p,c⟩:=kH.1 l
 simp only[Prod.mk.injEq] at c
 obtain⟨c,rfl⟩:=c
 exact PD g t f s (v:=undef) (fun a e=> .inr ⟨e.wanted p,rfl⟩) (fun a e=>by rw[c];exact e.put q undef) h
theorem aY{fuel:Nat}{done:List Nat}(i:Nat)(e:Region.ready .any ops (marks done ops.size)=[i])
  (h:dX P n ops Q i (fun L' w'=>TS ks (marks (done++[i]) ops.size) w'/\WA P n ops Q ks fuel (done++[i]) L' w') L w):WA P n ops Q ks (fuel+1) done L w:=by
 intro _ a k
 refine⟨fun d=>(by rw[e] at d;cases d),fun j c=> ?_⟩
 rw[e] at c
 simp only[hJ] at c
 subst c
 refine LE (fun a' w' h'=> ?_) (h a k)
 obtain⟨L',f,b,g⟩:=h'
 have:=g b a' f
 rw[BW] at b
 rw[BW] at this
 exact⟨b,this⟩
theorem cC{fuel:Nat}{done:List Nat}(c:Region.ready .any ops (marks done ops.size)=[])(h:X n Q .normal L w):WA P n ops Q ks fuel done L w:=by
 intro _ a b
 cases fuel with
 |zero=>exact⟨c,h a b⟩
 |succ f=>exact⟨fun _=>h a b,(by rw[c];simp)⟩
theorem iM{fuel:Nat}{done:List Nat}{t:Nat}{b:Bool}(e:Bool)(d:eH L t=some (.bool e))(f:e=b)(h:WA P n ops Q ks fuel done ((t,.bool b)::L) w):WA P n ops Q ks fuel done L w:=by
 intro g a k
 refine h g a (k.sub ?_)
 intro u v c
 simp only[eH] at c
 cases hb:Nat.beq t u with
 |true=>
  simp only[hb,cond_true] at c
  have:=gX hb;subst this
  rw[d,f];exact c
 |false=>simp only[hb,cond_false] at c;exact c
end
theorem Inv.anti{m':Mem}(h:Inv m' w)(a:m.le m'):Inv m w:=⟨fun b o v c=>h.1 b o v (a.1 _ _ _ c),fun b x d=>h.2.1 b x (a.2.1 _ _ d),a.2.2▸h.2.2⟩
theorem Piece.holds_anti{m':Mem}{b:Nat}{o:Obj}(h:Piece.holds m' w (.blk b o))(a:m.le m'):Piece.holds m w (.blk b o):=by
 refine⟨h.1,fun q=> ?_,?_⟩
 .cases hc:m.cell b q with
  |none=>rfl
  |some v=>rw[<-h.2.1 q,a.1 _ _ _ hc]
 cases hc:m.obj b with
 |none=>rfl
 |some v=>rw[<-h.2.2,a.2.1 _ _ hc]
def QG(P:Program)(ops:Array Oper)(L:bP)(i:Nat):Option (Nat×Value):=
 match ops[i]? with
 |none=>none
 |some o=>match mG ops L o.guard with
  |some true=>bif nA L o.op then(match o.dst,oZ P (execOp (lU L) o) with
   |some d,some (.value v)=>some (d,v)
   |_,_=>none) else none
  |_=>none
theorem qLo{ks:List (Nat×(World->Prop))}{k fuel:Nat}{S:World->Prop}{done:List Nat}(i d:Nat)(v:Value)(c:QG P ops L i=some (d,v))(q:Nat.blt d n=true)(s:nV ops ks k i done=true)(p:(k,S)∈ks)(r:QP Q)
  (h:WA P n ops Q ks fuel (done++[i]) ((d,v)::L) w):WA P n ops Q ks (fuel+1) done L w:=by
 unfold QG at c
 cases g:ops[i]? with
 |none=>simp[g] at c
 |some o=>
  simp only[g] at c
  cases f:mG ops L o.guard with
  |none=>simp[f] at c
  |some b=>
   cases b with
   |false=>simp[f] at c
   |true=>
    simp only[f] at c
    cases l:nA L o.op with
    |false=>simp[l] at c
    |true=>
     simp only[l,cond_true] at c
     split at c
     .rename_i d' v' hd' he
      simp only[jG,Prod.mk.injEq] at c
      obtain⟨rfl,rfl⟩:=c
      exact PD g s p r (v:=v') (fun a e=> .inl ⟨e.wanted f,fun w' _=>by rw[e.exec l];exact vU he w'⟩) (fun a e=>by rw[hd'];exact e.put q v') h
     cases c
theorem qGa{ks:List (Nat×(World->Prop))}{k fuel:Nat}{S:World->Prop}{done:List Nat}{t:TypeId}{x:Operand}{b o:Nat}{cs:List Value}(i d:Nat)(v:Value)(l:cX ops L i=some (some d,.load t x))(f:Nat.blt d n=true)
  (r:nV ops ks k i done=true) (a:(k,S)∈ks) (c:QP Q) (e:∀w,S w->Inv m w) (z:bU L x=some (.pointer (some ⟨b,o,none⟩))) (p:MRow m b o cs) (y:nX P t cs=some v)
  (h:WA P n ops Q ks fuel (done++[i]) ((d,v)::L) w):WA P n ops Q ks (fuel+1) done L w:=by
 refine yI i d _ v l f r a c (fun q c w' hw'=> ?_) h
 have g:=xY (P:=P) (w:=w') (t:=t) (b:=b) (o:=o) (cs:=cs) (v:=v) (fun j u s=>(e w' hw').cell (p j u s)) y
 simp[execOp,c,Instr.loadAt,cI z,Instr.sureAddr,g]
theorem qFn{ks:List (Nat×(World->Prop))}{k fuel:Nat}{S:World->Prop}{done:List Nat}{t e:TypeId}{x:Operand}{b o:Nat}{c:Array Value}{f:Nat×Nat}(i d:Nat)(v:Value)(z:cX ops L i=some (some d,.load t x))(s:Nat.blt d n=true)
  (A:nV ops ks k i done=true) (a:(k,S)∈ks) (g:QP Q) (p:∀w,S w->Piece.holds m w (.blk b (.cells c e f))) (D:bU L x=some (.pointer (some ⟨b,o,none⟩))) (B:nX P t (c.toList.drop o)=some v)
  (h:WA P n ops Q ks fuel (done++[i]) ((d,v)::L) w):WA P n ops Q ks (fuel+1) done L w:=by
 refine yI i d _ v z s A a g (fun q g w' hw'=> ?_) h
 have r:=(p w' hw').1
 have y:=xY (P:=P) (w:=w') (t:=t) (b:=b) (o:=o) (cs:=c.toList.drop o) (v:=v) (fun j u l=>by
  rw[List.getElem?_drop] at l
  simp only[World.cell?,r]
  simpa using l) B
 simp[execOp,g,Instr.loadAt,cI D,Instr.sureAddr,y]
theorem iU{α:Type}{ks:List (Nat×(World->Prop))}{k fuel:Nat}{S:World->Prop}{done:List Nat}{t e:TypeId}{x y:Operand}(i d:Nat)(c:Codec α){a:Option Addr}{cap:Nat}{l:List α}{kd:IntKind}{ix:Int}{z:α}(G:cX ops L i=some (some d,.indexAddr t x y))(E:Nat.blt d n=true)
  (H:nV ops ks k i done=true) (r:(k,S)∈ks) (s:QP Q)
  (K:bU L x=some (.slice a l.length cap)) (M:bU L y=some (.int kd ix)) (hi:pF P t=some (e,c.sz)) (u:RepS c m a cap l) (g:bV l ix=some z)
  (h:∀b o cs,c.rep m z cs->MRow m b o cs->WA P n ops Q ks fuel (done++[i]) ((d,.pointer (some ⟨b,o,none⟩))::L) w):WA P n ops Q ks (fuel+1) done L w:=by
 obtain⟨v,inf,A,B⟩:=vH hi
 unfold bV at g
 split at g
 .rename_i h0
  have f:ix.toNat<l.length:=(List.getElem?_eq_some_iff.1 g).1
  cases a with
  |none=>obtain⟨rfl,_⟩:=u.none_nil;simp at f
  |some p=>
   obtain⟨cs,D,F⟩:=u.2.2.2 _ _ g
   refine yI i d _ _ G E H r s (fun q s w' _=> ?_) (h p.block (p.off+ix.toNat*c.sz) cs D F)
   have hlt':ix<(l.length:Int):=by omega
   simp[execOp,s,Instr.indexAt,cI K,cI M,asIntOf,run_underlying v,h0,hlt',sizeOf,typeInfo,A,B,CA (u.spot (fun e=>by rw[e] at f;simp at f))]
 cases g
end
end Go.Dc
namespace Go.Dc
end Go.Dc
namespace Go.Dc
section
variable {ρ:Option Nat} {P:Program} {n:Fr} {ops:Array Oper} {Q:Exit->Act->World->Prop} {i d:Nat} {L:bP} {w:World} {m:Mem} {own:List Piece} {N:bP->World->Prop}
def HL(P:Program)(t:TypeId):Option TypeId:=
 match P.underlying t with
 |some (.slice e)=>match P.underlying e with
  |some (.int .u8)=>some e
  |_=>none
 |_=>none
theorem MZ{t e:TypeId}(h:HL P t=some e):P.underlying t=some (.slice e)/\P.underlying e=some (.int .u8):=by
 unfold HL at h
 split at h
 .rename_i e' he
  split at h
  .rename_i he';simp only[jG] at h;subst h;exact⟨he,he'⟩
  cases h
 cases h
theorem qKw{a:Option Addr}{cap:Nat}{l:List UInt8}(h:RepS cU8 m a cap l):∀p,a=some p->(p.spot=none\/l=[])/\MRow m p.block p.off (l.map fun b=> .int .u8 (b.toNat:Int)):=by
 rintro p rfl
 refine⟨h.2.2.1,fun j v d=> ?_⟩
 rw[List.getElem?_map] at d
 obtain⟨x,k,rfl⟩:=kH.1 d
 obtain⟨cs,f,g⟩:=h.2.2.2 j x k
 have c:cs=[.int .u8 (x.toNat:Int)]:=f
 subst c
 have:=g 0 _ rfl
 have e:cU8.sz=1:=rfl
 simp only[e,Nat.mul_one,gO] at this
 exact this
theorem qEn{t1 t2 e:TypeId}{x:Operand}{a:Option Addr}{cap:Nat}{l:List UInt8}(y:cX ops L i=some (some d,.convert t1 t2 x))(t:Nat.blt d n=true)(r:bU L x=some (.slice a l.length cap))
  (s:HL P t1=some e) (g:P.underlying t2=some .string) (st:St m own w) (o:RepS cU8 m a cap l) (h:N ((d,.string (nN l))::L) w):dX P n ops Q i N L w:=by
 obtain⟨c,f⟩:=MZ s
 refine lQ y t (fun q k=> ?_) h
 cases a with
 |none=>
  obtain⟨rfl,_⟩:=o.none_nil
  have b:(Conv.bytesToString (.slice none 0 cap)).run P w= .ok (.string (nN [])) w:=rfl
  simp[execOp,k,cI r,run_convert_bytes_string w t1 t2 e none _ _ c f g,b]
 |some p=>
  obtain⟨z,v⟩:=qKw o p rfl
  have u:=run_convert_bytes_back (P:=P) w t1 t2 e p cap l c f g (fun j b=>by
   rw[CA (z.resolve_right (fun e=>by rw[e] at b;simp at b))]
   exact st.inv.cell (v j _ (by simp[b])))
  simp[execOp,k,cI r,u,nN]
def bytesOf(s:BA):Option (List UInt8):=if s.size<=maxLen then some s.data.toList else none
theorem TF{t1 t2 e:TypeId}{x:Operand}{s:BA}{l:List UInt8}(M:cX ops L i=some (some d,.convert t1 t2 x))(K:Nat.blt d n=true)(g:bU L x=some (.string s))
  (p:HL P t2=some e) (y:P.underlying t1=some .string) (st:St m own w) (f:bytesOf s=some l)
  (h:∀b cap m' w',m.le m'->St m' own w'->RepS cU8 m' (some ⟨b,0,none⟩) cap l->N ((d,.slice (some ⟨b,0,none⟩) l.length cap)::L) w'):dX P n ops Q i N L w:=by
 obtain⟨G,H⟩:=MZ p
 unfold bytesOf at f
 split at f
 .rename_i hmx
  simp only[jG] at f;subst f
  generalize hgc:grownCap w s.size 0 e=gc
  have z:s.size<=gc:=hgc▸grownCap_ge _ _ _ _
  have A:gc<=maxLen:=hgc▸grownCap_le_maxLen _ _ _ _ hmx
  generalize hcur:(s.data.map fun b=>Value.int .u8 (b.toNat:Int))++Array.replicate (gc-s.size) (.int .u8 0)=cur
  have u:(convert t1 t2 (.string s)).run P w= .ok (.slice (some ⟨w.heap.size,0,none⟩) s.size gc) (w.drew.alloc (.cells cur e (cur.size,cur.size+1))):=by
   have c:(Question.appendCap s.size 0 e).forced=false:=rfl
   have r:(Question.appendCap s.size 0 e).cut (w.tape w.drawn (Question.appendCap s.size 0 e))=gc:=hgc
   have a:(w.drew.alloc (.cells cur e)).heap[w.heap.size]? =some (.cells cur e):=by
    show(w.heap.push (.cells cur e))[w.heap.size]? =_
    simp
   have E:(w.drew.alloc (.cells cur e)).shape? w.heap.size=some (e,cur.size):=by
    unfold World.shape?
    rw[a]
   have t:∀k:Nat,(w.drew.alloc (.cells cur e)).freeze ⟨w.heap.size,k,none⟩ 1=w.drew.alloc (.cells cur e (k,k+1)):=fun k=>by
    unfold World.freeze World.alloc World.drew
    simp only[Nat.one_ne_zero,jC]
    congr 1
    apply Array.ext
    .simp
    intro j p y
    simp only[Array.getElem_modify]
    by_cases hj:w.heap.size=j
    .subst hj;simp
    have:j<w.heap.size:=by simp at p;omega
    simp[hj,Array.getElem_push_lt this]
   have B:(markStringish ⟨w.heap.size,0,none⟩).run P (w.drew.alloc (.cells cur e))= .ok () (w.drew.alloc (.cells cur e (cur.size,cur.size+1))):=by
    simp[markStringish,E,t]
   have D:(newRow e cur).run P w.drew= .ok ⟨w.heap.size,0,none⟩ (w.drew.alloc (.cells cur e)):=rfl
   have F:(Conv.stringToBytes e s).run P w= .ok (.slice (some ⟨w.heap.size,0,none⟩) s.size gc) (w.drew.alloc (.cells cur e (cur.size,cur.size+1))):=by
    unfold Conv.stringToBytes
    simp only[Sem.run_bind,run_choose,c,j9,jC,Result.andThen_ok,r,hcur]
    show((newRow e cur).run P w.drew).andThen _=_
    rw[D]
    simp only[Result.andThen_ok,B,Sem.run_pure]
   simp[convert,run_underlying y,run_underlying G,run_underlying H,F]
  have a:=st.alloc (w':=w.drew.alloc (.cells cur e (cur.size,cur.size+1))) (o:= .cells cur e (cur.size,cur.size+1)) ⟨⟨rfl,rfl⟩,rfl,mC⟩ rfl
  have c:=st.fresh_free
  have B:cur.toList.take (s.data.toList.map fun b=>Value.int .u8 (b.toNat:Int)).length=s.data.toList.map fun b=>Value.int .u8 (b.toNat:Int):=by
   rw[<-hcur,Array.toList_append,Array.toList_map,List.take_left]
  obtain⟨m',F,R,S,_⟩:=St.know (b:=w.heap.size) (cs:=s.data.toList.map fun b=>Value.int .u8 (b.toNat:Int)) a.tail (a.head_ne rfl) a.head.1 B (fun o v D=>by rw[c.1 o] at D;cases D)
  have t:RepS cU8 m' (some ⟨w.heap.size,0,none⟩) gc s.data.toList:=RepS.of_cells (by simpa using z) A (fun j x g=>by
   have r:=(List.getElem?_eq_some_iff.1 g).1
   have E:=(List.getElem?_eq_some_iff.1 g).2
   show List.take 1 (List.drop (j*1) _)=_
   rw[Nat.mul_one,<-List.map_drop,<-List.map_take,jJ r,E]
   rfl) S
  have r:s.data.toList.length=s.size:=by simp
  refine lQ M K (fun q E=> ?_) (h w.heap.size gc m' _ F R t)
  simp only[execOp,E,cI g,Sem.run_bind,u,Result.andThen_ok,Sem.run_pure,r]
 cases f
end
end Go.Dc
namespace Go.Dc
section
variable {ρ:Option Nat} {P:Program} {n:Fr} {ops:Array Oper} {Q:Exit->Act->World->Prop} {i d:Nat} {L:bP} {w:World} {m:Mem} {own:List Piece} {N:bP->World->Prop}
theorem NV{f:FuncId}{args:Array Value}{R:Ending->World->Prop}(I:Value->World->Prop)(a:∀v w',I v w'->R (.returned v) w')(h:Calls P f args w fun e w'=>∃v,e= .returned v/\I v w'):Calls P f args w R:=
 h.mono fun e w' ⟨v,b,hi⟩=>b▸a v w' hi
theorem sT{k:Nat}{fn:Func}{R:Ending->World->Prop}(rvs:List ResultVar)(vs:List Value)(a:fn.results=rvs.toArray)(b:ResAll P w L rvs vs)(h:R (.returned (tZ vs)) w):X ⟨k,[]⟩ (bodyPost P fn R) .normal L w:=CW (P:=P) (fn:=fn) (R:=R) rvs vs a b h
end
end Go.Dc
end
namespace Go.Dc
section
def qOg(P:Program)(fn:Func)(R:Ending->World->Prop):Exit->Act->World->Prop
 | .normal,a,w=>LeavesInM Fence.wide 0 P fn a.tmps R a.defers .returning w
 | .ret,a,w=>LeavesInM Fence.wide 0 P fn a.tmps R a.defers .returning w
 |_,_,_=>False
section
variable {ρ:Option Nat} {P:Program} {n:Fr} {ops:Array Oper} {Q:Exit->Act->World->Prop} {i d:Nat} {L:bP} {w:World} {m:Mem} {own:List Piece} {N:bP->World->Prop}
def FitsT(sz:Nat)(T:Array Value)(L:bP):Prop:=T.size=sz/\∀t v,eH L t=some v->T[t]? =some v
theorem XB {f : FuncId} {fn : Func} (c : P.funcs[f]? = some fn) (h : (fn.name == "runtime.NumGoroutine", fn.body.isNone) = (false, false)) (args : Array Value) (w : World) : (callFunc f args).run P w = .ok (.enter f args) w := by
 simp only[Prod.mk.injEq] at h
 have a : ¬ fn.name = "runtime.NumGoroutine" := by simpa using h.1
 have b:¬fn.body=none:=fun e=>by rw[e] at h;simp at h
 simp[callFunc,c,a,b]
def qNv(P:Program)(l:Nat)(body:Code)(R:Ending->World->Prop):Exit->Act->World->Prop:=
 Exit.then (fun a₁ w₁=>∃w₂,(Instr.beginRound l).run P w₁= .ok () w₂/\body.wpIn (mO (some l)) 0 P (roundPost P l R) a₁ w₂) (fun _ _ _=>False)
theorem FitsT.set{sz:Nat}{T:Array Value}{L:bP}(h:FitsT sz T L){p:Nat}(d:p<sz)(v:Value):FitsT sz (T.setIfInBounds p v) ((p,v)::L):=by
 obtain⟨b,c⟩:=h
 refine⟨by simp[b],fun t u a=> ?_⟩
 simp only[eH] at a
 by_cases hpt:p=t
 .subst hpt
  simp at a;subst a
  simp[Array.getElem?_setIfInBounds,b,d]
 have:Nat.beq p t=false:=by cases hb:Nat.beq p t<;>simp_all [Nat.beq_eq]
 rw[this] at a
 simp[Array.getElem?_setIfInBounds,hpt,c t u a]
end
end
end Go.Dc
section
namespace Go.Dc
def cS{κ ν:Type}[DecidableEq κ]:List (κ×ν)->κ->Option ν
 |[],_=>none
 |p::l,k=>if k=p.1 then some p.2 else cS l k
def mK{κ ν:Type}[DecidableEq κ]:List (κ×ν)->κ->ν->List (κ×ν)
 |[],k,v=>[(k,v)]
 |p::l,k,v=>if k=p.1 then(k,v)::l else p::mK l k v
class KOrd(κ:Type) where
 lt:κ->κ->Bool
instance:KOrd Int:=⟨fun a b=>decide (a<b)⟩
instance:KOrd BA:=⟨fun a b=>decide (a.data.toList<b.data.toList)⟩
instance{α β:Type}[DecidableEq α][KOrd α][KOrd β]:KOrd (α×β):=⟨fun a b=>KOrd.lt a.1 b.1||(decide (a.1=b.1)&&KOrd.lt a.2 b.2)⟩
def mins{κ ν:Type}[KOrd κ]:List (κ×ν)->κ->ν->List (κ×ν)
 |[],k,v=>[(k,v)]
 |p::l,k,v=>if KOrd.lt k p.1=true then(k,v)::p::l else p::mins l k v
def mset{κ ν:Type}[DecidableEq κ][KOrd κ](l:List (κ×ν))(k:κ)(v:ν):List (κ×ν):=
 if(cS l k).isSome=true then l.map fun p=>if k=p.1 then(k,v) else p else mins l k v
theorem GV{κ ν:Type}[DecidableEq κ]{l:List (κ×ν)}{k:κ}:cS l k=none↔k∉l.map (·.1):=by
 induction l with
 |nil=>simp[cS]
 |cons p l a=>
  simp only[cS,kJ,jI,not_or]
  split
  .rename_i h;simp[h]
  rename_i h;rw[a];exact⟨fun g=>⟨h,g⟩,fun g=>g.2⟩
theorem HG{κ ν:Type}[DecidableEq κ]{l:List (κ×ν)}{k:κ}{v:ν}(a:(l.map (·.1)).Nodup):cS l k=some v↔(k,v)∈l:=by
 induction l with
 |nil=>simp[cS]
 |cons p l b=>
  simp only[kJ,gQ] at a
  simp only[cS,jI]
  split
  .rename_i h
   subst h
   constructor
   .intro e;left;simp at e;rw[<-e]
   rintro(e|e)
   .rw[<-e]
   exact absurd (gI (f:=(·.1)) e) a.1
  rename_i h
  rw[b a.2]
  constructor
  .intro e;exact .inr e
  rintro(e|e)
  .exact absurd (congrArg Prod.fst e) h
  exact e
theorem OJ{κ ν:Type}[DecidableEq κ]{l l':List (κ×ν)}(a:l'.Perm l)(b:(l'.map (·.1)).Nodup)(k:κ):cS l' k=cS l k:=by
 have hn':(l.map (·.1)).Nodup:=(a.map _).nodup_iff.1 b
 cases h:cS l k with
 |none=>rw[GV] at h ⊢;exact fun g=>h ((a.map _).mem_iff.1 g)
 |some v=>rw[HG hn'] at h;rw[HG b];exact a.mem_iff.2 h
theorem XH{κ ν:Type}[DecidableEq κ]{l:List (κ×ν)}{k:κ}{v:ν}(h:cS l k=none):mK l k v=l++[(k,v)]:=by
 induction l with
 |nil=>rfl
 |cons p l a=>
  simp only[cS] at h
  split at h
  .cases h
  rename_i hk;simp[mK,hk,a h]
theorem WD{κ ν:Type}[DecidableEq κ]{l:List (κ×ν)}{k:κ}{v:ν}(a:(l.map (·.1)).Nodup)(h:cS l k≠none):mK l k v=l.map fun p=>if k=p.1 then(k,v) else p:=by
 induction l with
 |nil=>exact absurd rfl h
 |cons p l c=>
  simp only[kJ,gQ] at a
  simp only[mK,kJ]
  by_cases hk:k=p.1
  .simp only[hk,jE]
   congr 1
   rw[<-hk]
   refine(fY fun q b=> ?_).trans (List.map_id _)|>.symm
   have:k≠q.1:=fun e=>a.1 (by rw[<-hk,e];exact gI (f:=(·.1)) b)
   simp[this]
  simp only[hk,jC]
  rw[c a.2 (by simpa[cS,hk] using h)]
theorem XC{κ ν:Type}[KOrd κ](l:List (κ×ν))(k:κ)(v:ν):(mins l k v).Perm ((k,v)::l):=by
 induction l with
 |nil=>exact .refl _
 |cons p l a=>
  simp only[mins]
  split
  .exact .refl _
  exact(List.Perm.cons p a).trans (.swap _ _ _)
theorem yA{κ ν:Type}[DecidableEq κ][KOrd κ]{l l':List (κ×ν)}(a:l'.Perm l)(c:(l'.map (·.1)).Nodup)(k:κ)(v:ν):(mK l' k v).Perm (mset l k v):=by
 have b:=OJ a c k
 unfold mset
 cases h:cS l k with
 |none=>
  rw[XH (by rw[b,h])]
  simp only[Option.isSome_none,j9,jC]
  exact(List.perm_append_comm.trans (List.Perm.cons _ a)).trans (XC l k v).symm
 |some u=>
  rw[WD c (by rw[b,h];simp)]
  simp only[hD,jE]
  exact a.map _
theorem BT{κ ν:Type}[DecidableEq κ]{l:List (κ×ν)}(c:(l.map (·.1)).Nodup)(k:κ)(v:ν):((mK l k v).map (·.1)).Nodup:=by
 cases h:cS l k with
 |none=>
  rw[XH h,List.map_append,List.nodup_append]
  refine⟨c,by simp,?_⟩
  intro a f b d e
  simp at d;subst d e
  exact GV.1 h f
 |some u=>
  rw[WD c (by rw[h];simp)]
  have:(l.map fun p=>if k=p.1 then(k,v) else p).map (·.1)=l.map (·.1):=by
   rw[List.map_map]
   refine fY fun q _=> ?_
   simp only[Function.comp]
   split
   .rename_i e;exact e
   rfl
  rw[this];exact c
def oN(agg:Bool)(cs:List Value):Value:=bif agg then .agg cs.toArray else cs.headD undef
def MapL{κ ν:Type}(ek:κ->Value)(c:Codec ν)(agg:Bool)(m:Mem):List MapEntry->List (κ×ν)->Prop
 |[],l=>l=[]
 |e::es,l=>∃k v l',l=(k,v)::l'/\e.key=ek k/\(∃cs,c.rep m v cs/\e.val=oN agg cs)/\MapL ek c agg m es l'
def qAu(es:List MapEntry)(ck:Nat):Prop:=(∀e∈es,e.born<ck)/\(es.map (·.born)).Nodup
def MapQ{κ ν:Type}(ek:κ->Value)(c:Codec ν)(agg:Bool)(m:Mem)(q:Option Nat)(es:Array MapEntry)(ck:Nat)(o:Option (List (κ×ν))):Prop:=
 match q with
 |none=>o=none
 |some _=>∃l l',o=some l/\l'.Perm l/\(l'.map (·.1)).Nodup/\MapL ek c agg m es.toList l'/\qAu es.toList ck
theorem MapL.mono{κ ν:Type}{ek:κ->Value}{c:Codec ν}{agg:Bool}{m m':Mem}(a:m.le m'):∀{es:List MapEntry} {l:List (κ×ν)},MapL ek c agg m es l->MapL ek c agg m' es l
 |[],_,h=>h
 |_::_,_,⟨k,v,l',b,d,⟨cs,e,f⟩,g⟩=>⟨k,v,l',b,d,⟨cs,c.mono _ _ _ _ a e,f⟩,g.mono a⟩
theorem MapQ.mono{κ ν:Type}{ek:κ->Value}{c:Codec ν}{agg:Bool}{m m':Mem}{q:Option Nat}{es:Array MapEntry}{ck:Nat}{o:Option (List (κ×ν))}(h:MapQ ek c agg m q es ck o)(a:m.le m'):MapQ ek c agg m' q es ck o:=by
 cases q with
 |none=>exact h
 |some b=>obtain⟨l,l',d,e,f,g,k⟩:=h;exact⟨l,l',d,e,f,g.mono a,k⟩
def sU{κ:Type}[DecidableEq κ](k:κ):List κ->List MapEntry->Nat->Option (Nat×Value)
 |k'::ks,e::es,i=>if k=k' then some (i,e.val) else sU k ks es (i+1)
 |_,_,_=>none
structure KeyOK{κ:Type}[DecidableEq κ](P:Program)(kt:TypeId)(ek:κ->Value):Prop where
 find:∀(k:κ) (ks:List κ) (es:List MapEntry) (w:World),es.map (·.key)=ks.map ek->(Instr.findKey kt (ek k) es).run P w= .ok (sU k ks es 0) w
 chk:∀(e:Bool) (a:κ) (w:World),(Instr.checkKey e 10000 kt (ek a)).run P w= .ok () w
 stay:∀(a:κ) (w:World),(Instr.keyThatStays (ek a) (ek a)).run P w= .ok (ek a) w
 inj:∀a b,ek a=ek b->a=b
theorem qMd(a b:Int):(a==b)=decide (a=b):=by rw[jY];simp
theorem NO(a b:BA):(a==b)=decide (a=b):=by
 rw[jY]
 have:=Go.MapKept.bytes_beq a b
 simpa using this
theorem VC{κ:Type}[DecidableEq κ]{dd:TypeDesc}{ek:κ->Value}(c:∀a b,Instr.sameNow dd (ek a) (ek b)=some (decide (a=b)))(k:κ):∀(ks:List κ) (es:List MapEntry) (j:Nat),es.map (·.key)=ks.map ek->Instr.findNow dd (ek k) es j=some (sU k ks es j)
 |[],[],j,_=>rfl
 |[],e::es,j,h=>by simp at h
 |k'::ks,[],j,h=>by simp at h
 |k'::ks,e::es,j,h=>by
  simp only[kJ,kL] at h
  simp only[Instr.findNow,h.1,c,sU]
  by_cases hkk:k=k'
  .subst hkk;simp
  simp only[hkk,decide_false,jC]
  exact VC c k ks es (j+1) h.2
theorem qNp{P:Program}{kt:TypeId}{q q':IntKind}(h:P.underlying kt=some (.int q))(e:Bool)(z:Int)(w:World):∀n,(Instr.checkKey e (n+1) kt (.int q' z)).run P w= .ok () w:=fun n=>by simp[Instr.checkKey,run_underlying h]
theorem qNq{P:Program}{kt:TypeId}(h:P.underlying kt=some .string)(e:Bool)(z:BA)(w:World):∀n,(Instr.checkKey e (n+1) kt (.string z)).run P w= .ok () w:=fun n=>by simp[Instr.checkKey,run_underlying h]
theorem ZW{κ:Type}[DecidableEq κ]{P:Program}{kt:TypeId}{ek:κ->Value}{d:TypeDesc}(o:P.underlying kt=some d)(c:∀a b,Instr.sameNow d (ek a) (ek b)=some (decide (a=b)))
  (l:∀(e:Bool) (a:κ) (w:World),(Instr.checkKey e 10000 kt (ek a)).run P w= .ok () w) (g:∀n a,Instr.sameBits n (ek a) (ek a)=true):KeyOK P kt ek where
 find k ks es w h:=by simp[Instr.findKey,run_underlying o,VC c k ks es 0 h]
 chk:=l
 stay a w:=by simp[Instr.keyThatStays,g]
 inj a b h:=by
  have f:=c a b
  rw[h,c b b] at f
  simpa using f.symm
theorem mX{P:Program}{kt:TypeId}{q:IntKind}(h:P.underlying kt=some (.int q)):KeyOK P kt (fun n:Int=>Value.int q n):=
 ZW h (fun a b=>by simp[Instr.sameNow];exact qMd a b) (fun e v w=>qNp h e v w 9999) (fun n a=>by cases n<;>simp[Instr.sameBits])
theorem vX{P:Program}{kt:TypeId}(h:P.underlying kt=some .string):KeyOK P kt (fun s:BA=>Value.string s):=
 ZW h (fun a b=>by simp[Instr.sameNow];exact NO a b) (fun e v w=>qNq h e v w 9999) (fun n a=>by cases n<;>simp[Instr.sameBits,NO])
section
variable {m:Mem} {κ ν:Type} {ek:κ->Value} {c:Codec ν} {agg:Bool}
theorem MapL.snoc:∀{es:List MapEntry} {l:List (κ×ν)} {e:MapEntry} {k:κ} {y:ν} {cs:List Value},MapL ek c agg m es l->e.key=ek k->c.rep m y cs->e.val=oN agg cs->MapL ek c agg m (es++[e]) (l++[(k,y)])
 |[],l,e,k,y,cs,h,a,b,d=>by
  simp only[MapL] at h;subst h
  exact⟨k,y,[],rfl,a,⟨cs,b,d⟩,rfl⟩
 |e'::es,l,e,k,y,cs,⟨k',v',l',f,g,n,o⟩,a,b,d=>by
  subst f
  exact⟨k',v',l'++[(k,y)],rfl,g,n,o.snoc a b d⟩
theorem GS:∀{es:List MapEntry} {l:List (κ×ν)},MapL ek c agg m es l->es.map (·.key)=(l.map (·.1)).map ek
 |[],l,h=>by simp only[MapL] at h;subst h;rfl
 |e::es,l,⟨k',v',l',a,b,_,d⟩=>by subst a;simp only[kJ,b,GS d]
theorem MapQ.new(ek:κ->Value)(c:Codec ν)(agg:Bool)(m:Mem)(b:Nat):MapQ ek c agg m (some b) #[] 0 (some []):=⟨[],[],rfl,.refl _,by simp,rfl,by simp[qAu]⟩
theorem MapQ.nil(ek:κ->Value)(c:Codec ν)(agg:Bool)(m:Mem)(es:Array MapEntry)(ck:Nat):MapQ ek c agg m none es ck (none:Option (List (κ×ν))):=rfl
end
section
variable {P:Program} {n:Fr} {ops:Array Oper} {Q:Exit->Act->World->Prop} {i d:Nat} {L:bP} {w:World} {m:Mem} {own:List Piece} {N:bP->World->Prop}
variable {κ ν:Type} [DecidableEq κ] {ek:κ->Value} {c:Codec ν} {agg:Bool}
theorem KX(k:κ):∀(es:List MapEntry) (l:List (κ×ν)) (j:Nat),MapL ek c agg m es l->
  ∃r,sU k (l.map (·.1)) es j=r/\match r with
   |none=>cS l k=none/\mK l k=fun v=>l++[(k,v)]
   |some (q,v)=>∃x cs,cS l k=some x/\c.rep m x cs/\v=oN agg cs/\j<=q/\q<j+es.length/\(∃e,es[q-j]? =some e/\e.key=ek k)/\
     ∀(y:ν) (cs':List Value) (f:MapEntry->MapEntry),c.rep m y cs'->(∀e,(f e).key=ek k/\(f e).val=oN agg cs')->MapL ek c agg m (es.modify (q-j) f) (mK l k y)
 |[],l,j,h=>by
  simp only[MapL] at h;subst h
  exact⟨none,rfl,rfl,by funext v;rfl⟩
 |e::es,l,j,h=>by
  obtain⟨k',v',l',rfl,p,⟨cs,s,t⟩,u⟩:=h
  simp only[kJ,sU]
  by_cases hkk:k=k'
  .subst hkk
   simp only[jE]
   refine⟨_,rfl,v',cs,by simp[cS],s,t,jN _,by simp,⟨e,by simp,p⟩,?_⟩
   intro y cs' f n b
   simp only[Nat.sub_self,List.modify_zero_cons,mK,jE]
   exact⟨k,y,l',rfl,(b e).1,⟨cs',n,(b e).2⟩,u⟩
  simp only[hkk,jC]
  obtain⟨r,G,a⟩:=KX k es l' (j+1) u
  refine⟨r,G,?_⟩
  cases r with
  |none=>
   obtain⟨d,g⟩:=a
   exact⟨by simp[cS,hkk,d],by funext v;simp[mK,hkk,g]⟩
  |some qv=>
   obtain⟨q,v⟩:=qv
   obtain⟨x,o,d,g,B,H,K,⟨A,D,E⟩,F⟩:=a
   have z:q-j=(q-(j+1))+1:=by omega
   refine⟨x,o,by simp[cS,hkk,d],g,B,by omega,by simp;omega,⟨A,by rw[z];simpa using D,E⟩,?_⟩
   intro y cs' f n b
   rw[z]
   simp only[List.modify_succ_cons,mK,if_neg hkk]
   exact⟨k',v',_,rfl,p,⟨cs,s,t⟩,F y cs' f n b⟩
def CJ(P:Program)(t:TypeId):Option (TypeId×TypeId×Value):=
 match P.underlying t with
 |some (.map k e)=>match P.info? e with
  |some i=>i.zero.map fun z=>(k,e,z)
  |none=>none
 |_=>none
theorem NB{t kt et:TypeId}{z:Value}(h:CJ P t=some (kt,et,z)):P.underlying t=some (.map kt et)/\∀w:World,(zeroValue et).run P w= .ok z w:=by
 unfold CJ at h
 split at h
 .rename_i k e he
  split at h
  .rename_i inf hi
   obtain⟨z',b,a⟩:=kH.1 h
   simp only[Prod.mk.injEq] at a
   obtain⟨rfl,rfl,rfl⟩:=a
   exact⟨he,fun w=>by simp[zeroValue,typeInfo,hi,b]⟩
  cases h
 cases h
def cB(q:Option Nat)(es:Array MapEntry)(ck:Nat):Piece:=
 match q with
 |none=> .room none 0 0 0 0
 |some b=> .blk b (.map es ck)
def aQ(o:Option (List (κ×ν)))(k:κ):Option ν:=o.bind fun l=>cS l k
def iI[KOrd κ](o:Option (List (κ×ν)))(k:κ)(v:ν):Option (Option (List (κ×ν))):=o.map fun l=>some (mset l k v)
theorem pE{t:TypeId}(c:cX ops L i=some (some d,.makeMap t none))(a:Nat.blt d n=true)(st:St m own w)
  (h:∀b w',St m (cB (some b) #[] 0::own) w'->N ((d,.map (some b))::L) w'):dX P n ops Q i N L w:=by
 refine lQ (w':=w.alloc (.map #[] 0)) c a (fun q e=> ?_) (h w.heap.size _ (st.alloc ⟨⟨rfl,rfl⟩,rfl,mC⟩ rfl))
 simp[execOp,e,Instr.makeMap]
theorem qGs{t kt et:TypeId}{z:Value}(D:CJ P t=some (kt,et,z))(p:KeyOK P kt ek){q:Option Nat}{es:Array MapEntry}{ck:Nat}{o:Option (List (κ×ν))}(F:Piece.holds m w (cB q es ck))(g:MapQ ek c agg m q es ck o)
  {zx:ν} {zcs:List Value} (G:c.rep m zx zcs) (B:z=oN agg zcs) (k:κ) (ok:Bool):
  ∃cs,c.rep m ((aQ o k).getD zx) cs/\(Instr.lookup t (.map q) (ek k) ok).run P w= .ok (bif ok then .tuple #[oN agg cs,.bool (aQ o k).isSome] else oN agg cs) w:=by
 obtain⟨u,y⟩:=NB D
 have main:∀(es:List MapEntry) (l:List (κ×ν)),MapL ek c agg m es l->∃cs r,c.rep m ((cS l k).getD zx) cs/\(Instr.findKey kt (ek k) es).run P w= .ok r w/\
   (match r with|some (_,v)=>v=oN agg cs/\(cS l k).isSome=true|none=>oN agg cs=z/\(cS l k).isSome=false):=by
  intro es l h
  obtain⟨r,g,d⟩:=KX (c:=c) (agg:=agg) k es l 0 h
  cases r with
  |none=>exact⟨zcs,none,by simp[d.1,G],by rw[p.find k _ es w (GS h),g],B.symm,by simp[d.1]⟩
  |some qv=>
   obtain⟨q,v⟩:=qv
   obtain⟨x,cs,e,f,a,_⟩:=d
   exact⟨cs,some (q,v),by simp[e,f],by rw[p.find k _ es w (GS h),g],a,by simp[e]⟩
 cases q with
 |none=>
  simp only[MapQ] at g
  subst g
  obtain⟨cs,r,e,f,a⟩:=main [] [] rfl
  refine⟨cs,by simpa[aQ,cS] using e,?_⟩
  have n:=p.chk true k w
  cases r with
  |none=>cases ok<;>simp[Instr.lookup,run_underlying u,n,f,y,a.1,aQ]
  |some r=>simp[cS] at a
 |some b=>
  obtain⟨H,l,rfl,s,A,h,_⟩:=g
  obtain⟨cs,r,e,f,a⟩:=main es.toList l h
  rw[OJ s A] at e a
  refine⟨cs,by simpa[aQ] using e,?_⟩
  have E:w.heap[b]? =some (.map es ck):=F.1
  have d:(getObj b).run P w= .ok (.map es ck) w:=by simp[getObj,Sem.run,E]
  have n:=p.chk es.isEmpty k w
  cases r with
  |none=>cases ok<;>simp[Instr.lookup,run_underlying u,d,n,f,y,a.1,a.2,aQ]
  |some r=>
   obtain⟨_,v⟩:=r
   cases ok<;>simp[Instr.lookup,run_underlying u,d,n,f,a.1,a.2,aQ]
theorem rS{t kt et:TypeId}{z:Value}{x y:Operand}{q:Option Nat}{es:Array MapEntry}{ck:Nat}{o:Option (List (κ×ν))}{k:κ}{ok:Bool}(p:cX ops L i=some (some d,.lookup t x y ok))(g:Nat.blt d n=true)
  (v:bU L x=some (.map q)) (A:bU L y=some (ek k)) (f:CJ P t=some (kt,et,z)) (l:KeyOK P kt ek) (r:Piece.holds m w (cB q es ck)) (u:MapQ ek c agg m q es ck o)
  {zx:ν} {zcs:List Value} (B:c.rep m zx zcs) (a:z=oN agg zcs)
  (h:∀cs,c.rep m ((aQ o k).getD zx) cs->N ((d,bif ok then .tuple #[oN agg cs,.bool (aQ o k).isSome] else oN agg cs)::L) w):dX P n ops Q i N L w:=by
 obtain⟨cs,b,e⟩:=qGs f l r u B a k ok
 refine lQ p g (fun q s=> ?_) (h cs b)
 simp[execOp,s,cI v,cI A,e]
theorem UV{b:Nat}{o o':Obj}(a:w.heap[b]? =some o)(c:∀cs e f,o≠ .cells cs e f):(setObj b o').run P w= .ok () {w with heap:=w.heap.setIfInBounds b o'}:=by
 cases o<;>first|(exact absurd rfl (c _ _ _))|simp[setObj,Sem.run,a]
theorem GD[KOrd κ]{t kt et:TypeId}{z v:Value}{x y u:Operand}{q:Option Nat}{es:Array MapEntry}{ck:Nat}{o o':Option (List (κ×ν))}{k:κ}{yv:ν}{cs:List Value}(ho:cX ops L i=some (none,.mapUpdate t x y u))
  (hx:bU L x=some (.map q)) (hy:bU L y=some (ek k)) (hu:bU L u=some v) (hI:CJ P t=some (kt,et,z)) (F:KeyOK P kt ek) (st:St m (cB q es ck::own) w) (H:MapQ ek c agg m q es ck o)
  (S:c.rep m yv cs) (hv:v=oN agg cs) (Z:iI o k yv=some o')
  (h:∀es' ck' w',St m (cB q es' ck'::own) w'->MapQ ek c agg m q es' ck' o'->N L w'):dX P n ops Q i N L w:=by
 obtain⟨V,h2⟩:=NB hI
 cases q with
 |none=>simp only[MapQ] at H;subst H;simp[iI] at Z
 |some b=>
  obtain⟨l0,l,rfl,s,g,Y,D,R⟩:=H
  simp only[iI,kG,jG] at Z
  subst Z
  have B:w.heap[b]? =some (.map es ck):=st.head.1
  have a1:=rB B
  have E:(getObj b).run P w= .ok (.map es ck) w:=by simp[getObj,Sem.run,B]
  have K:∀o',(setObj b o').run P w= .ok () {w with heap:=w.heap.setIfInBounds b o'}:=fun o'=>UV B (by simp)
  have G:∀o',St m (.blk b o'::own) {w with heap:=w.heap.setIfInBounds b o'}:=fun o'=>
   St.set (o:= .map es ck) st ⟨⟨rfl,rfl⟩,rfl,mC⟩ (by simp[a1]) (fun k _ F=>by simp[Array.getElem?_setIfInBounds,Ne.symm F])
  have hc:=F.chk false k w
  obtain⟨r,H,A⟩:=KX (c:=c) (agg:=agg) k es.toList l 0 Y
  have f:(Instr.findKey kt (ek k) es.toList).run P w= .ok r w:=by rw[F.find k _ es.toList w (GS Y),H]
  cases r with
  |none=>
   obtain⟨g1,g2⟩:=A
   refine yD ho (fun q hq=> ?_) (h (es.push {key:=ek k,val:=v,born:=ck}) (ck+1) _ (G _) ⟨_,mK l k yv,rfl,yA s g k yv,BT g k yv,?_,?_,?_⟩)
   .simp[execOp,hq,cI hx,cI hy,cI hu,Instr.mapUpdate,run_underlying V,E,hc,f,K]
   .rw[g2,fF]
    exact Y.snoc rfl S hv
   .intro e d
    rw[fF,gS] at d
    rcases d with d|d
    .have:=D e d;omega
    simp at d;subst d;simp
   rw[fF,List.map_append,List.nodup_append]
   refine⟨R,by simp,?_⟩
   intro a ha b B e
   simp at B;subst B e
   obtain⟨U,M,a2⟩:=gY.1 ha
   have:=D U M
   omega
  |some qv=>
   obtain⟨q,v0⟩:=qv
   obtain⟨x0,a2,g1,g2,g3,g4,g5,⟨U,g6,g7⟩,g8⟩:=A
   have d:es[q]? =some U:=by simpa using g6
   have M:(Instr.keyThatStays (ek k) (ek k)).run P w= .ok (ek k) w:=F.stay k w
   refine yD ho (fun p hp=> ?_) (h (es.modify q fun e=>{e with key:=ek k,val:=v}) ck _ (G _) ⟨_,mK l k yv,rfl,yA s g k yv,BT g k yv,?_,?_,?_⟩)
   .simp[execOp,hp,cI hx,cI hy,cI hu,Instr.mapUpdate,run_underlying V,E,hc,f,d,g7,M,K]
   .rw[gT]
    have:=g8 yv cs (fun e=>{e with key:=ek k,val:=v}) S (fun e=>⟨rfl,hv⟩)
    simpa using this
   .intro e d
    rw[gT] at d
    obtain⟨j,hj,rfl⟩:=List.mem_iff_getElem.1 d
    rw[fZ]
    have hj':j<es.toList.length:=by simpa using hj
    have:=D es.toList[j] (jW hj')
    split
    .exact this
    exact this
   rw[gT]
   have:(es.toList.modify q fun e=>{e with key:=ek k,val:=v}).map (·.born)=es.toList.map (·.born):=by
    apply List.ext_getElem
    .simp
    intro j V h2
    simp only[dC,fZ]
    split<;>rfl
   rw[this];exact R
theorem nS[KOrd κ]{t kt et:TypeId}{z v:Value}{x y u:Operand}{q:Option Nat}{es:Array MapEntry}{ck:Nat}{o o':Option (List (κ×ν))}{k:κ}{yv:ν}{cs:List Value}(ho:cX ops L i=some (none,.insert t x y u))
  (hx:bU L x=some (.map q)) (hy:bU L y=some (ek k)) (hu:bU L u=some v) (hI:CJ P t=some (kt,et,z)) (F:KeyOK P kt ek) (st:St m (cB q es ck::own) w) (H:MapQ ek c agg m q es ck o)
  (S:c.rep m yv cs) (hv:v=oN agg cs) (Z:iI o k yv=some o')
  (h:∀es' ck' w',St m (cB q es' ck'::own) w'->MapQ ek c agg m q es' ck' o'->N L w'):dX P n ops Q i N L w:=by
 obtain⟨V,h2⟩:=NB hI
 cases q with
 |none=>simp only[MapQ] at H;subst H;simp[iI] at Z
 |some b=>
  obtain⟨l0,l,rfl,s,g,Y,D,R⟩:=H
  simp only[iI,kG,jG] at Z
  subst Z
  have B:w.heap[b]? =some (.map es ck):=st.head.1
  have a1:=rB B
  have E:(getObj b).run P w= .ok (.map es ck) w:=by simp[getObj,Sem.run,B]
  have K:∀o',(setObj b o').run P w= .ok () {w with heap:=w.heap.setIfInBounds b o'}:=fun o'=>UV B (by simp)
  have G:∀o',St m (.blk b o'::own) {w with heap:=w.heap.setIfInBounds b o'}:=fun o'=>
   St.set (o:= .map es ck) st ⟨⟨rfl,rfl⟩,rfl,mC⟩ (by simp[a1]) (fun k _ F=>by simp[Array.getElem?_setIfInBounds,Ne.symm F])
  have hc:=F.chk false k w
  obtain⟨r,H,A⟩:=KX (c:=c) (agg:=agg) k es.toList l 0 Y
  have f:(Instr.findKey kt (ek k) es.toList).run P w= .ok r w:=by rw[F.find k _ es.toList w (GS Y),H]
  cases r with
  |none=>
   obtain⟨g1,g2⟩:=A
   refine yD ho (fun q hq=> ?_) (h (es.push {key:=ek k,val:=v,born:=ck}) (ck+1) _ (G _) ⟨_,mK l k yv,rfl,yA s g k yv,BT g k yv,?_,?_,?_⟩)
   .simp[execOp,hq,cI hx,cI hy,cI hu,Instr.mapUpdate,run_underlying V,E,hc,f,K]
   .rw[g2,fF]
    exact Y.snoc rfl S hv
   .intro e d
    rw[fF,gS] at d
    rcases d with d|d
    .have:=D e d;omega
    simp at d;subst d;simp
   rw[fF,List.map_append,List.nodup_append]
   refine⟨R,by simp,?_⟩
   intro a ha b B e
   simp at B;subst B e
   obtain⟨U,M,a2⟩:=gY.1 ha
   have:=D U M
   omega
  |some qv=>
   obtain⟨q,v0⟩:=qv
   obtain⟨x0,a2,g1,g2,g3,g4,g5,⟨U,g6,g7⟩,g8⟩:=A
   have d:es[q]? =some U:=by simpa using g6
   have M:(Instr.keyThatStays (ek k) (ek k)).run P w= .ok (ek k) w:=F.stay k w
   refine yD ho (fun p hp=> ?_) (h (es.modify q fun e=>{e with key:=ek k,val:=v}) ck _ (G _) ⟨_,mK l k yv,rfl,yA s g k yv,BT g k yv,?_,?_,?_⟩)
   .simp[execOp,hp,cI hx,cI hy,cI hu,Instr.mapUpdate,run_underlying V,E,hc,f,d,g7,M,K]
   .rw[gT]
    have:=g8 yv cs (fun e=>{e with key:=ek k,val:=v}) S (fun e=>⟨rfl,hv⟩)
    simpa using this
   .intro e d
    rw[gT] at d
    obtain⟨j,hj,rfl⟩:=List.mem_iff_getElem.1 d
    rw[fZ]
    have hj':j<es.toList.length:=by simpa using hj
    have:=D es.toList[j] (jW hj')
    split
    .exact this
    exact this
   rw[gT]
   have:(es.toList.modify q fun e=>{e with key:=ek k,val:=v}).map (·.born)=es.toList.map (·.born):=by
    apply List.ext_getElem
    .simp
    intro j V h2
    simp only[dC,fZ]
    split<;>rfl
   rw[this];exact R
end
end Go.Dc
namespace Go.Dc
section
variable {P:Program} {n:Fr} {ops:Array Oper} {Q:Exit->Act->World->Prop} {i d:Nat} {L:bP} {w:World} {m:Mem} {own:List Piece} {N:bP->World->Prop}
variable {α:Type} {f:α->Value}
def yP(by_:Nat)(z:α)(k:Int):Option (List α):=if 0<=k/\k*by_<=140737488355328/\k<=maxLen then some (List.replicate k.toNat z) else none
def mS(f:α->Value)(l:List α)(T:List Value):Array Value:=(l.map f++T).toArray
theorem qFt{t e by_:Nat}{x y:Operand}{z:α}{k:Int}{kd B:IntKind}{l:List α}(f:α->Value)(E:cX ops L i=some (some d,.makeSlice t x y))(D:Nat.blt d n=true)(M:bU L x=some (.int kd k))(R:bU L y=some (.int B k))
  (hi:vL P t=some (e,1,by_,1)) (r:(P.info? e).bind (·.zero)=some (f z)) (F:(f z).oneCell'=true) (st:St m own w) (g:yP by_ z k=some l)
  (h:∀b w',List.length l=Int.toNat k->St m (.blk b (.cells (mS f l []) e (0,0))::own) w'->N ((d,.slice (some ⟨b,0,none⟩) (Int.toNat k) (Int.toNat k))::L) w'):dX P n ops Q i N L w:=by
 obtain⟨H,inf,zv,a,p,A,v,U⟩:=MV hi
 rw[a] at r
 simp only[j0,p,jG] at r
 subst r
 unfold yP at g
 split at g
 .rename_i hk
  obtain⟨Y,Z,k3⟩:=hk
  simp only[jG] at g;subst g
  have S:(maxLen:Int)=9223372036854775807:=rfl
  have K:IntKind.i64.wrap k=k:=by simp[IntKind.wrap,IntKind.signed,IntKind.bits];omega
  have k2':¬(281474976710656<(by_:Int)*k):=by rw[Int.mul_comm];omega
  have c:(f z).cells= #[f z]:=by cases hv:f z<;>simp_all [Value.cells,Value.oneCell']
  have u:mS f (List.replicate k.toNat z) []=((List.replicate k.toNat z).map f).toArray:=by simp[mS]
  refine lQ (w':=w.alloc (.cells ((List.replicate k.toNat z).map f).toArray e)) E D (fun q G=> ?_) (h w.heap.size _ (by simp) (by rw[u];exact st.alloc ⟨⟨rfl,rfl⟩,rfl,mC⟩ rfl))
  simp only[execOp,G,cI M,cI R,Instr.makeSlice,Sem.run_bind,run_underlying H,Result.andThen_ok,asInt,asIntOf,typeInfo,run_program,a,Sem.run_pure,K,v]
  have s:¬(k<0):=by omega
  have o:(decide (k<0)||decide ((by_:Int)*k>2^48)||decide (k<0)||decide (k>k))=false:=by simp[s];omega
  simp only[o,j9,jC,run_askRoom,Result.andThen_ok,sizeOf,typeInfo,Sem.run_bind,run_program,a,Sem.run_pure,A,Nat.mul_one]
  by_cases h0:k.toNat=0
  .simp[h0,newRow]
   congr 2
   first|rfl|simp
  simp[h0,zeroValue,typeInfo,a,p,c,newRow,Nat.mod_one]
  congr 2
  apply Array.ext
  .simp
  intro j s V;simp
 cases g
theorem TD{t e:TypeId}{x y:Operand}{b nn cc:Nat}{l:List α}{k:IntKind}{ix:Int}{z:α}(p:cX ops L i=some (some d,.indexAddr t x y))(o:Nat.blt d n=true)
  (s:bU L x=some (.slice (some ⟨b,0,none⟩) nn cc)) (u:bU L y=some (.int k ix)) (hi:pF P t=some (e,1)) (A:List.length l=nn) (a:bV l ix=some z)
  (h:N ((d,.pointer (some ⟨b,ix.toNat,none⟩))::L) w):dX P n ops Q i N L w:=by
 obtain⟨c,inf,f,g⟩:=vH hi
 unfold bV at a
 split at a
 .rename_i h0
  have v:ix.toNat<l.length:=(List.getElem?_eq_some_iff.1 a).1
  refine lQ p o (fun q r=> ?_) h
  have hlt':ix<(nn:Int):=by omega
  simp[execOp,r,Instr.indexAt,cI s,cI u,asIntOf,run_underlying c,h0,hlt',sizeOf,typeInfo,f,g,vO]
 cases a
theorem TM{t e:TypeId}{x y:Operand}{b:Nat}{l:List α}{T:List Value}{ix:Int}{z u:α}(A:cX ops L i=some (none,.store t x y))
  (D:bU L x=some (.pointer (some ⟨b,ix.toNat,none⟩))) (E:bU L y=some (f u)) (st:St m (.blk b (.cells (mS f l T) e (0,0))::own) w) (g:bV l ix=some z) (p:(f u).oneCell'=true) (d:(P.info? t).map (·.size)=some 1)
  (h:∀w',St m (.blk b (.cells (mS f (l.set ix.toNat u) T) e (0,0))::own) w'->N L w'):dX P n ops Q i N L w:=by
 unfold bV at g
 split at g
 .have s:ix.toNat<l.length:=(List.getElem?_eq_some_iff.1 g).1
  have c:(f u).cells= #[f u]:=by cases hv:f u<;>simp_all [Value.cells,Value.oneCell']
  have r:=st.head.1
  have a:=run_storeCells_at P b ix.toNat e [f u] 0 (mS f l T) w r (by simp[mS];omega) (by simp[p])
  simp only[gO] at a
  have o:((mS f l T).toList.take ix.toNat++[f u]++(mS f l T).toList.drop (ix.toNat+[f u].length)).toArray=mS f (l.set ix.toNat u) T:=by
   apply congrArg List.toArray
   simp only[mS,fX]
   rw[List.map_set,List.set_eq_take_append_cons_drop,if_pos (by simpa using s)]
   rw[kQ (by simp;omega),gA (by simp;omega)]
   simp
  rw[o] at a
  cases hi:P.info? t with
  |none=>simp[hi] at d
  |some inf=>
   simp only[hi,kG,jG] at d
   refine yD A (fun q B=> ?_) (h (w.setRow b (mS f (l.set ix.toNat u) T)) (st.set ⟨⟨rfl,rfl⟩,rfl,mC⟩ (setRow_heap w b (mS f l T) _ e _ r) (fun k _ v=>setRow_other w b k _ v)))
   simp[execOp,B,Instr.storeAt,cI D,cI E,Instr.sureAddr,storeVar,sizeOf,typeInfo,hi,c,d,a]
 cases g
theorem St.freeze{c:Codec α}{b e nn cc:Nat}{l:List α}{T:List Value}(st:St m (.blk b (.cells (mS f l T) e (0,0))::own) w)(F:List.length l=nn)(D:nn<=cc)(a:cc<=maxLen)(y:(mS f l T).size=cc)(g:c.sz=1)(z:∀m x,c.rep m x [f x]):
  ∃m',m.le m'/\St m' (.room (some ⟨b,0,none⟩) (List.length l) cc e 1::own) w/\RepS c m' (some ⟨b,0,none⟩) cc l:=by
 have h:(mS f l T).toList.take (l.map f).length=l.map f:=by simp[mS]
 obtain⟨m',q,r,s,t,u,E⟩:=St.know (b:=b) (cs:=l.map f) st.tail (st.head_ne rfl) st.head.1 h (fun o v n=>by rw[st.head.2.1 o] at n;cases n)
 refine⟨m',q,r.cons ⟨rfl,rfl,by omega,a,⟨_,st.head.1,by rw[y,Nat.mul_one]⟩,fun o B=>t o (by simpa using B),by rw[u];exact st.head.2.2⟩ ?_,?_⟩
 .intro k d;simp[Piece.block] at d;subst d;exact st.head_ne rfl
 exact RepS.of_cells (cs:=l.map f) (by omega) a (fun j x p=>by
  have d:=(List.getElem?_eq_some_iff.1 p).1
  have A:=(List.getElem?_eq_some_iff.1 p).2
  rw[g,Nat.mul_one,<-List.map_drop,<-List.map_take,jJ d,A]
  exact z m' x) s
theorem qJu{by_:Nat}{z:α}{k:Int}{l:List α}(h:yP by_ z k=some l):k.toNat<=maxLen:=by
 unfold yP at h
 split at h
 .rename_i hk;have:=hk.2.2;have a:(maxLen:Int)=9223372036854775807:=rfl;omega
 cases h
theorem qFz{l:List α}{T:List Value}{nn cc:Nat}(h:List.length l=nn)(a:nn+T.length=cc):(mS f l T).size=cc:=by simp[mS];omega
end
end Go.Dc
namespace Go.Dc
theorem LW{α:Type}{l:List α}{n:Nat}(h:List.length l=n)(i:Nat)(a:α):List.length (List.set l i a)=n:=by rw[List.length_set];exact h
end Go.Dc
end
namespace Go.Dc
section
def iW{α σ β:Type}(f:Option α->σ->Option (σ⊕β)):List α->σ->Option β
 |[],s=>(f none s).bind fun
  | .inl _=>none
  | .inr b=>some b
 |e::l,s=>(f (some e) s).bind fun
  | .inl s'=>iW f l s'
  | .inr b=>some b
def HI{α:Type}(x:α):List α->List (List α)
 |[]=>[[x]]
 |y::l=>(x::y::l)::(HI x l).map (y:: ·)
def uH{α:Type}:List α->List (List α)
 |[]=>[[]]
 |x::l=>(uH l).flatMap (HI x)
theorem KM{α:Type}{x:α}:∀{l k:List α},k∈HI x l↔∃a b,l=a++b/\k=a++x::b
 |[],k=>by
  simp only[HI,hJ]
  constructor
  .rintro rfl;exact⟨[],[],rfl,rfl⟩
  rintro⟨a,b,h,rfl⟩
  simp only[List.nil_eq,List.append_eq_nil_iff] at h
  obtain⟨rfl,rfl⟩:=h;rfl
 |y::l,k=>by
  simp only[HI,jI,gY]
  constructor
  .rintro(rfl|⟨k',c,rfl⟩)
   .exact⟨[],y::l,rfl,rfl⟩
   obtain⟨a,b,rfl,rfl⟩:=KM.1 c
   exact⟨y::a,b,rfl,rfl⟩
  rintro⟨a,b,h,rfl⟩
  cases a with
  |nil=>left;simp only[kK] at h;rw[<-h];rfl
  |cons z a=>
   simp only[fM,kL] at h
   obtain⟨rfl,rfl⟩:=h
   right
   exact⟨a++x::b,KM.2 ⟨a,b,rfl,rfl⟩,rfl⟩
theorem OG{α:Type}:∀{l k:List α},k.Perm l->k∈uH l
 |[],k,h=>by rw[List.perm_nil] at h;subst h;simp[uH]
 |x::l,k,h=>by
  have c:x∈k:=h.mem_iff.2 (jK ..)
  obtain⟨a,b,rfl⟩:=List.append_of_mem c
  have h':(a++b).Perm l:=(gF.symm.trans h).cons_inv
  simp only[uH,List.mem_flatMap]
  exact⟨a++b,OG h',KM.2 ⟨a,b,rfl,rfl⟩⟩
theorem NP{α:Type}:∀{l k:List α},k∈uH l->k.Perm l
 |[],k,h=>by simp[uH] at h;subst h;exact .refl _
 |x::l,k,h=>by
  simp only[uH,List.mem_flatMap] at h
  obtain⟨k',c,d⟩:=h
  obtain⟨a,b,rfl,rfl⟩:=KM.1 d
  exact gF.trans ((NP c).cons x)
def uC{α σ β:Type}[DecidableEq β](f:Option α->σ->Option (σ⊕β))(l:List α)(s:σ):Option β:=
 match iW f l s with
 |none=>none
 |some b=>if((uH l).all fun k=>decide (iW f k s=some b))=true then some b else none
theorem qGz{α σ β:Type}[DecidableEq β]{f:Option α->σ->Option (σ⊕β)}{l:List α}{s:σ}{b:β}(h:uC f l s=some b):∀k,k.Perm l->iW f k s=some b:=by
 unfold uC at h
 split at h
 .cases h
 rename_i b' hb
 split at h
 .rename_i hall
  simp only[jG] at h;subst h
  intro k a
  have:=jX.1 hall k (OG a)
  simpa using this
 cases h
theorem WX{α σ β:Type}[DecidableEq β]{f:Option α->σ->Option (σ⊕β)}{l:List α}{s:σ}{b:β}(h:∀k,k.Perm l->iW f k s=some b):uC f l s=some b:=by
 unfold uC
 rw[h l (.refl _)]
 simp only
 rw[if_pos]
 exact jX.2 fun k a=>by simpa using h k (NP a)
def LoopE{α σ β:Type}(f:Option α->σ->Option (σ⊕β))(rem:List α)(s:σ)(b:β)(k:Nat):Prop:=(∀l,l.Perm rem->iW f l s=some b)/\rem.length<k
theorem LoopE.start{α σ β:Type}[DecidableEq β]{f:Option α->σ->Option (σ⊕β)}{l:List α}{s:σ}{b:β}(h:uC f l s=some b):LoopE f l s b (l.length+1):=⟨qGz h,Nat.lt_succ_self _⟩
theorem LoopE.zero{α σ β:Type}{f:Option α->σ->Option (σ⊕β)}{rem:List α}{s:σ}{b:β}{p:Prop}(h:LoopE f rem s b 0):p:=absurd h.2 (kY _)
theorem LoopE.nil{α σ β:Type}{f:Option α->σ->Option (σ⊕β)}{rem:List α}{s:σ}{b:β}{k:Nat}(h:LoopE f rem s b (k+1))(e:rem=[]):
  ∃c,f none s=some c/\(∀s',c= .inl s'->LoopE f rem s' b k)/\(∀b',c= .inr b'->b'=b):=by
 subst e
 have:=h.1 [] (.refl _)
 simp only[iW] at this
 obtain⟨c,d,a⟩:=jH.1 this
 refine⟨c,d,?_,?_⟩
 .rintro s' rfl;simp at a
 rintro b' rfl;simpa using a
theorem LoopE.cons{α σ β:Type}{f:Option α->σ->Option (σ⊕β)}{rem rest:List α}{e:α}{s:σ}{b:β}{k:Nat}(h:LoopE f rem s b (k+1))(n:rem.Perm (e::rest)):
  ∃c,f (some e) s=some c/\(∀s',c= .inl s'->LoopE f rest s' b k)/\(∀b',c= .inr b'->b'=b):=by
 have p:rem.length=rest.length+1:=by simpa using n.length_eq
 have key:∀l,l.Perm rest->iW f (e::l) s=some b:=fun l a=>h.1 _ ((a.cons e).trans n.symm)
 have d:=key rest (.refl _)
 simp only[iW] at d
 obtain⟨c,g,o⟩:=jH.1 d
 refine⟨c,g,?_,?_⟩
 .rintro s' rfl
  refine⟨fun l a=> ?_,by have:=h.2;omega⟩
  have:=key l a
  simp only[iW,g,j0] at this
  exact this
 rintro b' rfl;simpa using o
def mW(r:Nat)(q:Option Nat)(ck:Nat)(seen:Array Nat):Piece:= .blk r (.mapIter q ck seen ck)
def yT(es:Array MapEntry)(seen:Array Nat):List MapEntry:=es.toList.filter fun e=> !seen.contains e.born
def ItR{κ ν:Type}(ek:κ->Value)(c:Codec ν)(agg:Bool)(m:Mem)(es:Array MapEntry)(seen:Array Nat)(rem:List (κ×ν)):Prop:=∃l',l'.Perm rem/\MapL ek c agg m (yT es seen) l'
def cP(es:Array MapEntry)(seen:Array Nat)(k v:Value):Prop:=∃(s0:Array Nat) (e:MapEntry),seen=s0.push e.born/\e∈es.toList/\e.key=k/\e.val=v
theorem ItR.mono{κ ν:Type}{ek:κ->Value}{c:Codec ν}{agg:Bool}{m m':Mem}{es:Array MapEntry}{seen:Array Nat}{rem:List (κ×ν)}(h:ItR ek c agg m es seen rem)(a:m.le m'):ItR ek c agg m' es seen rem:=by
 obtain⟨l',b,d⟩:=h;exact⟨l',b,d.mono a⟩
section
variable {P:Program} {n:Fr} {ops:Array Oper} {Q:Exit->Act->World->Prop} {i d:Nat} {L:bP} {w:World} {m:Mem} {own:List Piece} {N:bP->World->Prop}
variable {κ ν:Type} {ek:κ->Value} {c:Codec ν} {agg:Bool}
theorem GW{t kt et:TypeId}{x:Operand}{b:Nat}{es:Array MapEntry}{ck:Nat}{o:Option (List (κ×ν))}(s:cX ops L i=some (some d,.range t x))(k:Nat.blt d n=true)(z:bU L x=some (.map (some b)))
  (y:P.underlying t=some (.map kt et)) (st:St m (cB (some b) es ck::own) w) (v:MapQ ek c agg m (some b) es ck o)
  (h:∀r w',St m (mW r (some b) ck #[]::cB (some b) es ck::own) w'->ItR ek c agg m es #[] (o.getD [])->N ((d,.pointer (some ⟨r,0,none⟩))::L) w'):dX P n ops Q i N L w:=by
 obtain⟨l,l',rfl,a,A,p,B⟩:=v
 have e:(getObj b).run P w= .ok (.map es ck) w:=by
  have f:w.heap[b]? =some (.map es ck):=st.head.1
  simp[getObj,Sem.run,f]
 have g:=st.alloc (w':=w.alloc (.mapIter (some b) ck #[] ck)) (o:= .mapIter (some b) ck #[] ck) ⟨⟨rfl,rfl⟩,rfl,mC⟩ rfl
 have f:∀o,(newObj o).run P w= .ok w.heap.size (w.alloc o):=fun o=>rfl
 refine lQ s k (fun q u=> ?_) (h w.heap.size _ g ⟨l',a,by rw[show yT es #[]=es.toList from List.filter_eq_self.2 (fun _ _=>by simp)];exact p⟩)
 simp[execOp,u,cI z,Instr.range,run_underlying y,e,f]
theorem ZO:∀{es:List MapEntry} {l:List (κ×ν)} {j:Nat} {e:MapEntry},MapL ek c agg m es l->es[j]? =some e->∃k v cs,l[j]? =some (k,v)/\e.key=ek k/\c.rep m v cs/\e.val=oN agg cs/\MapL ek c agg m (es.eraseIdx j) (l.eraseIdx j)
 |h::es,l,0,e,⟨k,v,l',b,d,⟨cs,f,s⟩,g⟩,a=>by
  simp at a;subst a b
  exact⟨k,v,cs,rfl,d,f,s,by simpa using g⟩
 |h::es,l,j+1,e,⟨k,v,l',b,d,f,g⟩,a=>by
  subst b
  obtain⟨t,u,cs,n,o,p,q,r⟩:=ZO g (by simpa using a)
  exact⟨t,u,cs,by simpa using n,o,p,q,by simp only[List.eraseIdx_cons_succ];exact⟨k,v,_,rfl,d,f,r⟩⟩
theorem qEy{es:List MapEntry}(a:(es.map (·.born)).Nodup){seen:Array Nat}{j:Nat}{e:MapEntry}(h:(es.filter fun e=> !seen.contains e.born)[j]? =some e):
  (es.filter fun e'=> !(seen.push e.born).contains e'.born)=(es.filter fun e=> !seen.contains e.born).eraseIdx j:=by
 induction es generalizing j with
 |nil=>simp at h
 |cons x es f=>
  simp only[kJ,gQ] at a
  simp only[kW] at h ⊢
  have b:∀y:MapEntry,(seen.push e.born).contains y.born=(seen.contains y.born||(y.born==e.born)):=fun y=>by
   rw[Array.contains_push]
  by_cases hx:seen.contains x.born=true
  .simp only[hx,jP,j9,jC] at h ⊢
   rw[b,hx]
   simp only[Bool.true_or,jP,j9,jC]
   exact f a.2 h
  have hx':seen.contains x.born=false:=by simpa using hx
  simp only[hx',kC,jE] at h ⊢
  rw[b,hx']
  cases j with
  |zero=>
   simp at h
   subst h
   simp only[dE,kN,jP,j9,jC,List.eraseIdx_cons_zero]
   refine List.filter_congr fun y c=> ?_
   rw[b]
   have:¬y.born=x.born:=fun e=>a.1 (by rw[<-e];exact gI c)
   simp[this]
  |succ j=>
   have h':(es.filter fun e=> !seen.contains e.born)[j]? =some e:=by simpa using h
   have c:e∈es:=(fC.1 (List.mem_of_getElem? h')).1
   have d:¬x.born=e.born:=fun g=>a.1 (by rw[g];exact gI c)
   simp only[dE,kE,d,Bool.not_eq_eq_eq_not,jP,beq_eq_false_iff_ne,ne_eq,not_false_eq_true,jE,List.eraseIdx_cons_succ]
   congr 1
   exact f a.2 h'
theorem XM(es:Array MapEntry)(seen:Array Nat):(leftOf es seen).toList=yT es seen:=by simp[leftOf,yT]
theorem St.setIt{r:Nat}{q:Option Nat}{ck:Nat}{seen:Array Nat}{b:World}(seen':Array Nat)(st:St m (mW r q ck seen::own) w)(a:b=w\/b=w.drew):St m (mW r q ck seen'::own) (Go.ChangeMaps.setBlock b r (.mapIter q ck seen' ck)):=by
 have c:=rB st.head.1
 refine St.set (o:= .mapIter q ck seen ck) (o':= .mapIter q ck seen' ck) st ?_ ?_ ?_
 .rcases a with rfl|rfl<;>exact⟨⟨rfl,rfl⟩,rfl,mC⟩
 .have:(w.heap.setIfInBounds r (.mapIter q ck seen' ck))[r]? =some (.mapIter q ck seen' ck):=by simp[c]
  rcases a with rfl|rfl<;>exact this
 intro k _ d
 have:(w.heap.setIfInBounds r (.mapIter q ck seen' ck))[k]? =w.heap[k]? :=by simp[Array.getElem?_setIfInBounds,Ne.symm d]
 rcases a with rfl|rfl<;>exact this
theorem HC{x:Operand}{r b ck:Nat}{es:Array MapEntry}{seen:Array Nat}{o:Option (List (κ×ν))}{rem:List (κ×ν)}(V:cX ops L i=some (some d,.next x false))(U:Nat.blt d n=true)(H:bU L x=some (.pointer (some ⟨r,0,none⟩)))
  (st:St m (mW r (some b) ck seen::cB (some b) es ck::own) w) (l:MapQ ek c agg m (some b) es ck o) (Y:ItR ek c agg m es seen rem)
  (R:rem=[]->∀w',St m (mW r (some b) ck seen::cB (some b) es ck::own) w'->N ((d,.tuple #[.bool false])::L) w')
  (S:∀(e:κ×ν) (rest:List (κ×ν)) (seen':Array Nat) (cs:List Value) (w':World),rem.Perm (e::rest)->c.rep m e.2 cs->St m (mW r (some b) ck seen'::cB (some b) es ck::own) w'->ItR ek c agg m es seen' rest->cP es seen' (ek e.1) (oN agg cs)->
   N ((d,.tuple #[.bool true,ek e.1,oN agg cs])::L) w'):dX P n ops Q i N L w:=by
 obtain⟨_,_,_,_,_,_,A,B⟩:=l
 obtain⟨l',f,s⟩:=Y
 have D:w.heap[r]? =some (.mapIter (some b) ck seen ck):=st.head.1
 have F:w.heap[b]? =some (.map es ck):=st.tail.head.1
 refine CE (v:=undef) (w':=w) V U (fun q l=> ?_)
 rcases run_next_at (P:=P) w q.type r b ck ck seen es ck D F A (jN _) with ⟨Z,a⟩|⟨e,p,w1,G,a⟩
 .have g:yT es seen=[]:=by rw[<-XM];exact jU (by simpa using Z)
  rw[g] at s
  have hl':l'=[]:=s
  subst hl'
  refine⟨_,w,?_,R (List.nil_perm.1 f) w st⟩
  simp[execOp,l,cI H,a]
 rw[XM] at p
 obtain⟨j,E⟩:=List.mem_iff_getElem?.1 p
 obtain⟨k,v,cs,u,y,K,z,M⟩:=ZO s E
 have a1:=(List.getElem?_eq_some_iff.1 u).1
 have g:l'.Perm ((k,v)::l'.eraseIdx j):=by
  have h:l'[j]=(k,v):=(List.getElem?_eq_some_iff.1 u).2
  have t:l'=l'.take j++(k,v)::l'.drop (j+1):=by rw[<-h,hU,List.take_append_drop]
  rw[List.eraseIdx_eq_take_drop_succ]
  exact(List.Perm.of_eq t).trans gF
 have t:e∈es.toList:=(fC.1 p).1
 have h:yT es (seen.push e.born)=(yT es seen).eraseIdx j:=qEy B E
 refine⟨_,_,?_,S (k,v) (l'.eraseIdx j) (seen.push e.born) cs _ (f.symm.trans g) K (St.setIt _ st G) ⟨_,.refl _,by rw[h];exact M⟩ ⟨seen,e,rfl,t,y,z⟩⟩
 simp[execOp,l,cI H,a,y,z]
theorem GY{x:Operand}{r b ck:Nat}{es:Array MapEntry}{seen:Array Nat}{o:Option (List (κ×ν))}{K V:Value}(v:cX ops L i=some (some d,.entry x))(t:Nat.blt d n=true)(y:bU L x=some (.pointer (some ⟨r,0,none⟩)))
  (st:St m (mW r (some b) ck seen::cB (some b) es ck::own) w) (g:MapQ ek c agg m (some b) es ck o) (u:cP es seen K V)
  (h:N ((d,.tuple #[K,V])::L) w):dX P n ops Q i N L w:=by
 obtain⟨_,_,_,_,_,_,z,l⟩:=g
 obtain⟨a,e,rfl,f,rfl,rfl⟩:=u
 have p:w.heap[r]? =some (.mapIter (some b) ck (a.push e.born) ck):=st.head.1
 have s:w.heap[b]? =some (.map es ck):=st.tail.head.1
 have k:=run_entry_at (P:=P) w r b ck a es ck e p s f l
 refine lQ v t (fun q g=> ?_) h
 simp[execOp,g,cI y,k]
end
end
end Go.Dc
section
namespace Go.Dc
def pR(s:BA)(c:Int):Int:=
 match(List.range s.size).find? fun i=>s[i]! ==c.toNat.toUInt8 with
 |some i=>(i:Int)
 |none=> -1
def yW(s:BA)(c:Int):Int:=s.foldl (fun n x=>if x==c.toNat.toUInt8 then n+1 else n) ((0:Nat):Int)
section
variable {ρ:Option Nat} {P:Program} {n:Fr} {ops:Array Oper} {Q:Exit->Act->World->Prop} {i d:Nat} {L:bP} {w:World} {m:Mem} {own:List Piece} {N:bP->World->Prop}
theorem NN{f:FuncId}{fn:Func}{e:Array Value->Sem Value}{xs:Array Operand}{ts:Array TypeId}(vs:List Value)(v:Value)(s:cX ops L i=some (some d,.call {callee:= .value (.func f),args:=xs,argTypes:=ts}))(p:Nat.blt d n=true)
  (u : xs.map (lU L) = vs.toArray) (r : P.funcs[f]? = some fn) (b : (fn.name == "runtime.NumGoroutine", fn.body.isNone, (Extern.findNext fn).isNone) = (false, true, true)) (o : Extern.find fn = some e)
  (a:(e vs.toArray).run P w= .ok v w) (h:N ((d,v)::L) w):dX P n ops Q i N L w:=by
 simp only[Prod.mk.injEq] at b
 obtain⟨g,k,l⟩:=b
 have g1' : ¬ fn.name = "runtime.NumGoroutine" := by simpa using g
 have g2':fn.body=none:=by simpa using k
 have g3':Extern.findNext fn=none:=by simpa using l
 refine lQ s p (fun q t=> ?_) h
 have c:lU L (.func f)= .func (.func f) #[] #[]:=rfl
 simp[execOp,t,resolve,c,u,Deferred.ofValue,invoke,callFunc,r,g1',g2',g3',o,a]
theorem qEf{f:FuncId}{fn:Func}{x y:Operand}{ts:Array TypeId}{s:BA}{c:Int}(l:cX ops L i=some (some d,.call {callee:= .value (.func f),args:= #[x,y],argTypes:=ts}))(g:Nat.blt d n=true)
  (o : bU L x = some (.string s)) (p : bU L y = some (.int .u8 c)) (k : P.funcs[f]? = some fn) (a : (fn.name == "runtime.NumGoroutine", fn.body.isNone, (Extern.findNext fn).isNone) = (false, true, true)) (b : Extern.find fn = some Extern.BytealgIndexByte.indexByte)
  (h:N ((d,.int .i64 (pR s c))::L) w):dX P n ops Q i N L w:=by
 refine NN [.string s,.int .u8 c] _ l g (by simp[cI o,cI p]) k a b ?_ h
 have e:Extern.BytealgIndexByte.indexByte #[.string s,.int .u8 c]=(match(List.range s.size).find? fun i=>s[i]! ==c.toNat.toUInt8 with
  |some i=>pure (goInt i)
  |none=>pure (goInt (-1))):=rfl
 show(Extern.BytealgIndexByte.indexByte #[.string s,.int .u8 c]).run P w=_
 rw[e]
 unfold pR
 split<;>rfl
theorem qEh{f:FuncId}{fn:Func}{x y:Operand}{ts:Array TypeId}{s:BA}{c:Int}(l:cX ops L i=some (some d,.call {callee:= .value (.func f),args:= #[x,y],argTypes:=ts}))(g:Nat.blt d n=true)
  (o : bU L x = some (.string s)) (p : bU L y = some (.int .u8 c)) (k : P.funcs[f]? = some fn) (a : (fn.name == "runtime.NumGoroutine", fn.body.isNone, (Extern.findNext fn).isNone) = (false, true, true)) (b : Extern.find fn = some Extern.BytealgCount.count)
  (h:N ((d,.int .i64 (yW s c))::L) w):dX P n ops Q i N L w:=by
 refine NN [.string s,.int .u8 c] _ l g (by simp[cI o,cI p]) k a b ?_ h
 have e:Extern.BytealgCount.count #[.string s,.int .u8 c]=pure (goInt (s.foldl (fun n x=>if x==c.toNat.toUInt8 then n+1 else n) (0:Nat))):=rfl
 show(Extern.BytealgCount.count #[.string s,.int .u8 c]).run P w=_
 rw[e]
 unfold yW goInt
 simp only[Sem.run_pure]
theorem BU{b:Frame}{a:Act}{k:List Item}{cs:List Frame}{c:Code}:step P (lone (b.atR a (.code (.scope c)::k)) cs w)= .next (lone (b.atR a (.code c:: .inScope c::k)) cs w):=
 step_lone_go (by simp[stepG,stepG.exec,Frame.atR])
theorem qEi{b:Frame}{a:Act}{k:List Item}{cs:List Frame}{c:Code}:step P (lone (b.atR a (.inScope c::k)) cs w)= .next (lone (b.atR a k) cs w):=
 step_lone_go (by simp[stepG,stepG.exec,Frame.atR])
def MB(Q:Exit->Act->World->Prop):Exit->Act->World->Prop
 | .goto _,_,_=>False
 | .normal,a,w=>Q .normal a w
 | .exit id,a,w=>Q (.exit id) a w
 | .ret,a,w=>Q .ret a w
 | .panic c,a,w=>Q (.panic c) a w
 | .outgrown,a,w=>Q .outgrown a w
theorem qDm{F:Fence}{m:Nat}{a:Act}{c:Code}(h:c.wpIn F m P (MB Q) a w):(Code.scope c).wpIn F m P Q a w:=by
 intro b k cs q n p
 have f:(lone (b.atR a (.code (.scope c)::k)) cs w).fenced P F:=fenced_calm n p rfl
 obtain⟨e,a₁,w₁,g,d⟩:=h b (.inScope c::k) cs q n p
 cases e with
 |normal=>exact⟨.normal,a₁,w₁,g,.head f BU (StepsIn.trans d (.one (fenced_calm n p rfl) qEi))⟩
 |exit id=>
  have r:exitTo id (.inScope c::k)=exitTo id k:=by simp[exitTo]
  exact⟨.exit id,a₁,w₁,g,fun k' o=> .head f BU (d.1 k' (by rw[r];exact o)),
   fun hr' o=>let ⟨k₁,h1,h2⟩:=d.2 hr' (by rw[r];exact o);⟨k₁,h1,.head f BU h2⟩⟩
 |goto l=>exact g.elim
 |ret=>exact⟨_,a₁,w₁,g,.of_steps (.one f BU) d⟩
 |panic ch=>exact⟨_,a₁,w₁,g,.of_steps (.one f BU) d⟩
 |outgrown=>exact⟨_,a₁,w₁,g,.of_steps (.one f BU) d⟩
theorem qMx{c:Code}(h:W ρ P n c (MB Q) L w):W ρ P n (.scope c) Q L w:=fun a b=>qDm (h a b)
theorem NE(h:X n Q .ret L w):X n (MB Q) .ret L w:=h
theorem qMz{l:Nat}(h:X n Q .normal L w):W ρ P n (.label l) Q L w:=fun a b=>wpIn_label (h a b)
end
end Go.Dc
namespace Go.Dc
def QH(P:Program)(t:TypeId):Value->Value->Option Bool
 | .int k a,.int k' b=>match P.underlying t with
  |some (.int _)=>bif decide (k=k') then some (a==b) else none
  |_=>none
 | .bool a,.bool b=>match P.underlying t with
  |some .bool=>some (a==b)
  |_=>none
 | .string a,.string b=>match P.underlying t with
  |some .string=>some (a.toList==b.toList)
  |_=>none
 |_,_=>none
def wG(P:Program)(xs ys:Array Value):List Field->Option Bool
 |[]=>some true
 |f::fs=>match xs[f.offset]?,ys[f.offset]? with
  | some a, some b => bif f.name == "_" || !P.plainKey f.type then none else (QH P f.type a b).bind fun r => (wG P xs ys fs).map fun s => r && s
  |_,_=>none
section
variable {P:Program} {n:Fr} {ops:Array Oper} {Q:Exit->Act->World->Prop} {i d:Nat} {L:bP} {w:World} {N:bP->World->Prop}
theorem qGr{t:TypeId}{a b:Value}{r:Bool}(dp:Nat)(h:QH P t a b=some r):(Op.equalIn (dp+1) t a b).run P w= .ok r w:=by
 unfold QH at h
 split at h
 .split at h
  .rename_i hu
   rename_i k a k' b _ q
   by_cases hk:k=k'
   .subst hk
    simp only[decide_true,cond_true,jG] at h
    subst h
    exact run_equalIn_int w dp t k _ a b hu
   simp[hk] at h
  cases h
 .split at h
  .rename_i hu;cases h;exact run_equalIn_bool w dp t _ _ hu
  cases h
 .split at h
  .rename_i hu;cases h;exact run_equalIn_string w dp t _ _ hu
  cases h
 cases h
theorem YO{xs ys:Array Value}(dp:Nat):∀{fs:List Field} {r:Bool},wG P xs ys fs=some r->(Op.eqFields (dp+1) xs ys fs).run P w= .ok r w
 |[],r,h=>by simp[wG] at h;subst h;simp[Op.eqFields]
 |f::fs,r,h=>by
  simp only[wG] at h
  split at h
  .rename_i a b ha hb
   cases c : (f.name == "_" || !P.plainKey f.type) with
   |true=>simp[c] at h
   |false=>
    simp only[c,cond_false] at h
    simp only[Bool.or_eq_false_iff,Bool.not_eq_false'] at c
    obtain⟨s,d,e⟩:=jH.1 h
    obtain⟨u,g,k⟩:=kH.1 e
    have l : f.name ≠ "_" := by simpa using c.1
    have p1:=run_part_plain (P:=P) (w:=w) c.2 ha
    have p2:=run_part_plain (P:=P) (w:=w) c.2 hb
    have p3:=qGr (w:=w) dp d
    have p4:=YO dp g
    subst k
    simp only[Op.eqFields,l,ne_eq,not_false_eq_true,jE,Sem.run_bind,p1,p2,p3,Result.andThen_ok]
    cases s<;>simp[p4]
  cases h
theorem NA{t:TypeId}{xs ys:Array Value}{r:Bool}(b:P.underlying t=some (.struct (P.fieldsOf t)))(a:P.stoodInHeld t=false)(h:wG P xs ys (P.fieldsOf t).toList=some r):(Op.equal t (.agg xs) (.agg ys)).run P w= .ok r w:=by
 have e:Op.equal t (.agg xs) (.agg ys)=Op.equalIn (9999+1) t (.agg xs) (.agg ys):=rfl
 rw[e,run_equalIn_struct w 9999 t xs ys b a]
 exact YO (w:=w) 9998 h
abbrev eQ(x:Int×BA×BA):Value:= .agg #[.int .i64 x.1,.string x.2.1,.string x.2.2]
theorem CS{kt:TypeId}(c:P.underlying kt=some (.struct (P.fieldsOf kt)))(u:P.stoodInHeld kt=false)
  (d:∀a b:Int×BA×BA,wG P #[.int .i64 a.1,.string a.2.1,.string a.2.2] #[.int .i64 b.1,.string b.2.1,.string b.2.2] (P.fieldsOf kt).toList=some ((a.1==b.1)&&((a.2.1.toList==b.2.1.toList)&&((a.2.2.toList==b.2.2.toList)&&true))))
  (t:∀(e:Bool) (a:Int×BA×BA),oZ P (Instr.checkKey e 10000 kt (eQ a))=some ()):KeyOK P kt eQ where
 find k ks es w h:=by
  have s:∀a b:Int×BA×BA,(Op.equal kt (eQ a) (eQ b)).run P w= .ok (decide (a=b)) w:=by
   intro a b
   rw[NA (w:=w) c u (d a b)]
   congr 1
   obtain⟨f,g,l⟩:=a
   obtain⟨n,o,p⟩:=b
   have tl:∀x y:BA,x.toList=y.toList->x=y:=fun x y h=>by
    rw[ByteArray.toList_eq,ByteArray.toList_eq] at h
    exact Go.WideShapes.bytes_inj h
   simp only[dF]
   rw[jY]
   simp only[jR,kE,j6,Prod.mk.injEq]
   exact⟨fun h=>⟨h.1,tl _ _ h.2.1,tl _ _ h.2.2⟩,fun h=>⟨h.1,by rw[h.2.1],by rw[h.2.2]⟩⟩
  have ask:∀(ks:List (Int×BA×BA)) (es:List MapEntry) (j:Nat),es.map (·.key)=ks.map eQ->(Instr.findAsking kt (eQ k) es j).run P w= .ok (sU k ks es j) w:=by
   intro ks
   induction ks with
   |nil=>intro es j h;cases es with
    |nil=>simp[Instr.findAsking,sU]
    |cons e es=>simp at h
   |cons k' ks q=>intro es j h;cases es with
    |nil=>simp at h
    |cons e es=>
     simp only[kJ,kL] at h
     simp only[Instr.findAsking,h.1,Sem.run_bind,s,Result.andThen_ok,sU]
     by_cases hk:k=k'
     .simp[hk]
     simp[hk,q es (j+1) h.2]
  cases es with
  |nil=>cases ks with
   |nil=>simp[Instr.findKey,run_underlying c,Instr.findNow,sU]
   |cons k' ks=>simp at h
  |cons e es=>
   have q:=h
   cases ks with
   |nil=>simp at h
   |cons k' ks=>
    simp only[kJ,kL] at h
    have r:Instr.findNow (.struct (P.fieldsOf kt)) (eQ k) (e::es) 0=none:=by simp[Instr.findNow,h.1,Instr.sameNow]
    simp only[Instr.findKey,Sem.run_bind,run_underlying c,Result.andThen_ok,r]
    exact ask _ _ 0 q
 chk e a w:=vU (t e a) w
 stay a w:=by simp[Instr.keyThatStays,Instr.sameBits,NO]
 inj a b h:=by
  obtain⟨f,g,l⟩:=a
  obtain⟨n,o,p⟩:=b
  simp at h
  obtain⟨q,r,s⟩:=h
  subst q r s
  rfl
theorem OB{t t2:TypeId}{x y:Operand}{xs ys:Array Value}(r:Bool)(e:cX ops L i=some (some d,.binOp .eql t x y t2))(c:Nat.blt d n=true)(k:bU L x=some (.agg xs))(l:bU L y=some (.agg ys))
  (g:P.underlying t=some (.struct (P.fieldsOf t))) (a:(P.stoodInHeld t,P.eqGuardType P.depth t)=(false,false)) (b:wG P xs ys (P.fieldsOf t).toList=some r) (h:N ((d,.bool r)::L) w):dX P n ops Q i N L w:=by
 simp only[Prod.mk.injEq] at a
 refine lQ e c (fun q f=> ?_) h
 simp[execOp,f,cI k,cI l,eqGuard,a.2,binOp,NA g a.1 b]
theorem KV{t t2:TypeId}{x y:Operand}{xs ys:Array Value}(r:Bool)(e:cX ops L i=some (some d,.binOp .neq t x y t2))(c:Nat.blt d n=true)(k:bU L x=some (.agg xs))(l:bU L y=some (.agg ys))
  (g:P.underlying t=some (.struct (P.fieldsOf t))) (a:(P.stoodInHeld t,P.eqGuardType P.depth t)=(false,false)) (b:wG P xs ys (P.fieldsOf t).toList=some r) (h:N ((d,.bool (!r))::L) w):dX P n ops Q i N L w:=by
 simp only[Prod.mk.injEq] at a
 refine lQ e c (fun q f=> ?_) h
 simp[execOp,f,cI k,cI l,eqGuard,a.2,binOp,NA g a.1 b]
theorem qEj{m:Mem}{own:List Piece}{t e e' sz b k n' cap cap':Nat}{x:Operand}(S:cX ops L i=some (some d,.convert t t x))(K:Nat.blt d n=true)(Y:bU L x=some (.slice (some ⟨b,0,none⟩) k cap))
  (G:HL P t=some e) (st:St m (.room (some ⟨b,0,none⟩) n' cap' e' sz::own) w) (h:∀w',St m own w'->N ((d,.slice (some ⟨b,0,none⟩) k cap)::L) w'):dX P n ops Q i N L w:=by
 obtain⟨E,F⟩:=MZ G
 obtain⟨_,_,_,_,⟨cur,a,_⟩,_⟩:=st.head
 have Z:=rB a
 have z:=st.head_ne (b:=b) rfl
 have l:=st.tail
 obtain⟨w',hw'⟩:∃w',w'=w.freeze ⟨b,cur.size,none⟩ 1:=⟨_,rfl⟩
 have B:w.shape? b=some (e',cur.size):=by unfold World.shape?;rw[a]
 have H:w'.heap[b]? =some (.cells cur e' (cur.size,cur.size+1)):=by
  rw[hw'];unfold World.freeze
  simp[Array.getElem?_modify,a]
 have ho':∀j,j≠b->w'.heap[j]? =w.heap[j]? :=fun j M=>by
  rw[hw'];unfold World.freeze
  simp[Array.getElem?_modify,Ne.symm M]
 have U:Step w w':=by rw[hw'];unfold World.freeze;exact⟨⟨rfl,rfl⟩,rfl,mC⟩
 have r:(convert t t (.slice (some ⟨b,0,none⟩) k cap)).run P w= .ok (.slice (some ⟨b,0,none⟩) k cap) w':=by
  simp[convert,run_underlying E,run_underlying F,markStringish,B,hw']
 have st':St m own w':=by
  refine⟨⟨fun b' o v V=> ?_,fun b' y s=> ?_,l.1.2.2.trans U⟩,fun p A=>Piece.holds_keep (l.2.1 p A) fun k R=>ho' k (fun e=>z (GX.2 ⟨p,A,e▸R⟩)),l.2.2⟩
  .obtain⟨c,D,f,g,u⟩:=l.1.1 b' o v V
   by_cases hbb:b'=b
   .subst hbb
    rw[a] at g
    simp only[jG,Obj.cells.injEq] at g
    obtain⟨rfl,_,_⟩:=g
    exact⟨_,_,_,H,u⟩
   exact⟨c,D,f,by rw[ho' b' hbb];exact g,u⟩
  have g:=l.1.2.1 b' y s
  by_cases hbb:b'=b
  .subst hbb
   have:=st.head.2.2.2.2.2.2
   rw[this] at s;cases s
  rw[ho' b' hbb];exact g
 refine lQ S K (fun q g=> ?_) (h w' st')
 simp[execOp,g,cI Y,r]
end
end Go.Dc
end
namespace Go.Dc
section
open Go.ChangeShapes Go.WideShapes Go.ChangeAt Go.RowKit
class TabW(w:World):Prop where
 ht:∀p∈qAs,∃t f,w.heap[p.1]? =some (.cells p.2 t f)
instance tabW0(w:World):TabW w:=⟨fun p a=>by cases a⟩
def rI(w:World)[TabW w]:Mem:={cell:=fun b o=>w.cell? ⟨b,o,none⟩,obj:=fun b=>w.heap[b]?,wd:=w,ht:=TabW.ht}
theorem ZI(w:World)[TabW w]:St (rI w) [] w:=by
 refine⟨⟨fun b o v h=> ?_,fun _ _ h=>h,Step.refl w⟩,⟨fun p a=>absurd a (kZ),gJ⟩⟩
 simp only[rI,World.cell?] at h
 split at h
 .rename_i c e f hb
  exact⟨_,_,_,hb,by simpa using h⟩
 cases h
theorem qGw{w w':World}[TabW w]{m':Mem}{own:List Piece}(a:Mem.le (rI w) m')(st:St m' own w'):
  w'.os=w.os/\w'.output=w.output/\∀(b:Nat) (x:Obj),w.heap[b]? =some x->w'.heap[b]? =some x:=by
 have c:=st.1.2.2
 have e:m'.wd=w:=a.2.2.symm
 rw[e] at c
 exact⟨c.1.1,c.1.2,fun b x d=>st.1.2.1 b x (a.2.1 b x d)⟩
theorem qMi{w w':World}(a:w'.os=w.os)(c:w'.output=w.output)(d:∀(b:Nat) (x:Obj),w.heap[b]? =some x->w'.heap[b]? =some x)(may:MemPlace->Prop):w.keptBut w' may:=by
 refine⟨a,c,fun i hi=> ?_⟩
 obtain⟨x,hx⟩:∃x,w.heap[i]? =some x:=⟨w.heap[i],by simp[hi]⟩
 rw[d i x hx,hx]
 cases x<;>simp
theorem qMy{w w':World}(c:∀(b:Nat) (x:Obj),w.heap[b]? =some x->w'.heap[b]? =some x){p:MemPlace}(d:p.block<w.heap.size):w.sameAt w' p:=by
 obtain⟨x,a⟩:∃x,w.heap[p.block]? =some x:=⟨w.heap[p.block],by simp[d]⟩
 cases p with
 |cell b off=>simp only[World.sameAt,World.cell?,MemPlace.block] at a ⊢;rw[c b x a,a]
 |map b=>simp only[World.sameAt,MemPlace.block] at a ⊢;rw[c b x a,a]
section
variable {H:Type} {enc:TypeId×Value->H} {P:Program}
theorem TP{w w':World}{sp:Nat->Bool}{T:TypeId->Prop}(K:Kids P T)(l:∀{t e:TypeId},T t->P.underlying t=some (.slice e)->0<P.cellsOf e)
  (c:∀(b:Nat) (x:Obj),w.heap[b]? =some x->w'.heap[b]? =some x):∀{ts:List TypeId} {vs:List Value} {ds:List (DataW H)} {ps:List MemPlace},(∀t∈ts,T t)->
  DataW.TrodAll enc P w 0 (fun _=>true) true ts vs ds ps->(∀p∈ps,p.block<w.heap.size)->(∀p∈ps,sp p.block=true)->DataW.TrodAll enc P w' 0 sp true ts vs ds ps
 |[],[],[],_,_,h,_,_=>h
 |t::ts,v::vs,d::ds,ps,k,h,f,g=>by
  obtain⟨p,q,⟨fuel,n⟩,o,rfl⟩:=h
  exact⟨p,q,⟨fuel,DataW.trod_stays K l (fun e=>by cases e) (k t (jK ..)) n (fun x a=>qMy c (f x (gM _ a))) (fun x a=>g x (gM _ a))⟩,
   TP K l c (fun u r=>k u (jQ _ r)) o (fun x a=>f x (List.mem_append_right _ a)) (fun x a=>g x (List.mem_append_right _ a)),rfl⟩
 |[],_::_,_,_,_,h,_,_=>by simp[DataW.TrodAll] at h
 |[],[],_::_,_,_,h,_,_=>by simp[DataW.TrodAll] at h
 |_::_,[],_,_,_,h,_,_=>by simp[DataW.TrodAll] at h
 |_::_,_::_,[],_,_,h,_,_=>by simp[DataW.TrodAll] at h
theorem qKc{f:Func}{s:ChangeSpec}{apart fresh a:Bool}{W W':World}{args:Array Value}{ds gs:List (DataW H)}{before:List MemPlace}{tb:TypeId}{T:TypeId->Prop}[TabW W](K:Kids P T)
  (E:∀{t e:TypeId},T t->P.underlying t=some (.slice e)->0<P.cellsOf e) (u:∀t∈f.params.toList,T t)
  (D:f.resultTypes= #[tb]) (o:P.underlying tb=some .bool) (v:s.vars=[]) (b:s.fn H (ds++gs)={results:=[.lit (.bool true)],args:=ds})
  (l:DataW.Whole enc P f.params.toList s.vars apart W args.toList ds gs before) {m':Mem} {own:List Piece} (n:Mem.le (rI W) m') (st:St m' own W'):
  s.post enc P f apart fresh a false W args (.bool true) W':=by
 obtain⟨y,z,k⟩:=qGw n st
 have hW':=l
 obtain⟨p,q,A,h,rfl,F,G⟩:=l
 have d:∀x∈p++q,x.block<W.heap.size:=fun x c=>hW'.lt x c
 rw[v] at h
 have B:q=[]:=by
  cases gs with
  |nil=>exact h
  |cons g r=>simp[DataW.TrodVars] at h
 subst B
 refine⟨ds,gs,_,[],p,[],hW',?_,?_,?_,qMi y z k _,fun e=>by cases e⟩
 .rw[b,D]
  exact⟨[],[],⟨1,by simp[DataW.trod,Value.cells,o]⟩,rfl,rfl⟩
 .rw[b]
  exact TP K E k u A (fun x c=>d x (gM _ c)) (fun x c=>by simpa using d x (gM _ c))
 rw[b,v];rfl
def MF{α:Type}(P:Program)(W:World)[TabW W](t:TypeId)(c:Codec α)(good:α->Prop):Prop:=
 P.cellsOf t=c.sz/\∀(H:Type) (enc:TypeId×Value->H) (n:Nat) (cs:List Value) (x:DataW H×List MemPlace),DataW.trod enc P W 0 (fun _=>true) true n t cs=some x->
  (x.1.weights P t).all (· <=reachBytes)=true->∃a,c.rep (rI W) a cs/\good a
variable {W:World} [TabW W]
theorem qHx{t:TypeId}{k:IntKind}(b:P.underlying t=some (.int k))(a:P.cellsOf t=1):MF P W t (aX k) (fun x=>(Lit.int k x).wf=true):=by
 refine⟨a,fun H enc n cs x h _=> ?_⟩
 obtain⟨i,rfl,_,c⟩:=DataW.trod_int b h
 exact⟨i,rfl,c⟩
theorem SL{H:Type}{e:TypeId}:∀{ds:List (DataW H)},(DataW.weightsAll P e ds).all (· <=reachBytes)=true->∀d∈ds,(d.weights P e).all (· <=reachBytes)=true
 |[],_,_,b=>by cases b
 |d::r,h,x,a=>by
  simp only[DataW.weightsAll,List.all_append,jR] at h
  rcases jI.1 a with rfl|a
  .exact h.1
  exact SL h.2 x a
theorem qNb{a:Addr}{cs:List Value}{k n:Nat}(h:W.cells? 0 (a.add k) n=some cs)(c:a.spot=none):MRow (rI W) a.block (a.off+k) cs:=by
 obtain⟨_,f,d⟩:=World.cells?_some h
 intro j v b
 have e:j<n:=by rw[<-f];exact(List.getElem?_eq_some_iff.1 b).1
 have:=d j e
 rw[b,Go.Addr.add_add,CA c] at this
 simpa[rI,fI] using this
theorem YU{α:Type}{Q:Nat->α->List Value->Prop}:∀{n:Nat},(∀i,i<n->∃y cs,Q i y cs)->∃l:List α,l.length=n/\∀i x,l[i]? =some x->∃cs,Q i x cs
 |0,_=>⟨[],rfl,fun i x h=>by simp at h⟩
 |n+1,h=>by
  obtain⟨l,b,c⟩:=YU (n:=n) (fun i hi=>h i (by omega))
  obtain⟨y,cs,d⟩:=h n (by omega)
  refine⟨l++[y],by simp[b],fun i x a=> ?_⟩
  rw[List.getElem?_append] at a
  split at a
  .exact c i x a
  rename_i hi
  have:i=n:=by
   have:=(List.getElem?_eq_some_iff.1 a).1
   simp at this;omega
  subst this
  simp[b] at a
  subst a
  exact⟨cs,d⟩
theorem qGf{α:Type}{c:Codec α}{good:α->Prop}{t e:TypeId}{by_:Nat}(D:P.underlying t=some (.slice e))(K:P.cellsOf t=1)(G:P.bytesOf e=by_)(p:MF P W e c good):
  MF P W t (wK c) (fun l=>l.length*by_<=reachBytes/\∀x∈l,good x):=by
 refine⟨K,fun H enc n cs x h E=> ?_⟩
 rcases DataW.trod_slice D h with ⟨rfl,rfl⟩|⟨a,len,cap,elems,rest,n',rfl,rfl,rfl,_,M,R,s,v,_,_⟩
 .exact⟨[],⟨none,0,rfl,RepS.nil _ _⟩,by simp,by simp⟩
 simp only[DataW.weights,D,List.all_cons,List.all_append,jR,j6] at E
 obtain⟨k,F,_⟩:=E
 have key:∀i,i<len->∃y cs',W.cells? 0 (a.add (i*P.cellsOf e)) (P.cellsOf e)=some cs'/\c.rep (rI W) y cs'/\good y:=by
  intro i hi
  have b:=v i hi
  obtain⟨el,hel'⟩:∃el,elems[i]? =some el:=⟨elems[i]'(by omega),by simp⟩
  rw[hel'] at b
  obtain⟨cs',f,r⟩:=jH.1 b
  obtain⟨y,g,d⟩:=p.2 H enc n' cs' el r (SL F el.1 (gI (List.mem_of_getElem? hel')))
  exact⟨y,cs',f,g,d⟩
 obtain⟨l,z,g⟩:=YU key
 subst z
 refine⟨l,⟨some a,cap,rfl,M,R,?_,fun i x q=> ?_⟩,⟨?_,fun x q=> ?_⟩⟩
 .cases l with
  |nil=>exact .inr rfl
  |cons y l=>
   obtain⟨cs',f,_⟩:=g 0 y rfl
   obtain⟨_,A,b⟩:=World.cells?_some f
   have u:=p.1▸c.pos
   have d:=b 0 u
   have o:0<cs'.length:=by omega
   rw[List.getElem?_eq_getElem o] at d
   simp only[Nat.zero_mul,Addr.add,jE] at d
   exact .inl (World.cell?_spot d)
 .obtain⟨cs',f,r,_⟩:=g i x q
  have B:a.spot=none:=by
   cases l with
   |nil=>simp at q
   |cons y l=>
    obtain⟨cs',f,_⟩:=g 0 y rfl
    obtain⟨_,A,b⟩:=World.cells?_some f
    have u:=p.1▸c.pos
    have d:=b 0 u
    have o:0<cs'.length:=by omega
    rw[List.getElem?_eq_getElem o] at d
    simp only[Nat.zero_mul,Addr.add,jE] at d
    exact World.cell?_spot d
  exact⟨cs',r,p.1▸qNb f B⟩
 .rw[G] at k
  simp only[kU] at k
  rw[s] at k
  exact fH (kO _ (Nat.le_add_right _ _)) k
 obtain⟨i,hi⟩:=List.mem_iff_getElem?.1 q
 obtain⟨cs',_,_,b⟩:=g i x hi
 exact b
variable {base:Nat} {t:TypeId} {v:Value} {d:DataW H} {ps:List MemPlace}
theorem qIf{α:Type}{c:Codec α}{good:List α->Prop}{e:TypeId}(p:P.underlying t=some (.slice e))(k:MF P W t (wK c) good)(b:Value.okWide P W .any base t v)(h:DataW.Trod enc P W 0 (fun _=>true) true t v d ps)
  (q:(d.weights P t).all (· <=reachBytes)=true):∃(l:List α) (a:Option Addr) (cap:Nat),v= .slice a l.length cap/\RepS c (rI W) a cap l/\good l:=by
 obtain⟨a,len,cap,rfl⟩:=okWide_slice p b
 obtain⟨n,h⟩:=h
 obtain⟨l,⟨a',cap',f,o⟩,g⟩:=k.2 H enc n _ _ h q
 simp only[Value.cells,kL,Value.slice.injEq,and_true] at f
 obtain⟨rfl,rfl,rfl⟩:=f
 exact⟨l,_,_,rfl,o,g⟩
end
def ZK(P:Program):Bool:=(List.range P.types.size).all fun t=>match P.underlying t with
 |some (.slice e)=>Nat.blt 0 (P.cellsOf e)
 |_=>true
theorem qJi{P:Program}(h:ZK P=true){t e:TypeId}(b:t<P.types.size)(a:P.underlying t=some (.slice e)):0<P.cellsOf e:=by
 have:=jX.1 h t (fO.2 b)
 rw[a] at this
 simp only at this
 exact kV this
end
section
theorem bS{x:Int}(a: -9223372036854775808<=x)(b:x<=9223372036854775807):IntKind.wrap .i64 x=x:=by simp[IntKind.wrap,IntKind.signed,IntKind.bits];omega
theorem wu64{x:Int}(a:0<=x)(b:x<=18446744073709551615):IntKind.wrap .u64 x=x:=by simp[IntKind.wrap,IntKind.signed,IntKind.bits];omega
theorem wu8{x:Int}(a:0<=x)(b:x<=255):IntKind.wrap .u8 x=x:=by simp[IntKind.wrap,IntKind.signed,IntKind.bits];omega
theorem LG{α:Type}{l:List α}{i:Int}(a:0<=i)(h:i.toNat<l.length):bV l i=some l[i.toNat]:=by simp[bV,a,h]
theorem dP{α:Type}{l:List α}{i:Nat}(h:i<l.length):bV l (i:Int)=some l[i]:=by simp[bV,h]
theorem OZ{s:BA}{i:Nat}(h:i<s.size):eD s (i:Int)=some s[i]:=by simp[eD,h]
theorem iB{α:Type}{b:Nat}{l k:List α}(h:(l.length+k.length)*b<=140737488355328)(a:0<b):dY b l k=some (l++k):=by
 have:l.length+k.length<=maxLen:=by
  have:(l.length+k.length)*1<=(l.length+k.length)*b:=Nat.mul_le_mul_left _ a
  simp only[maxLen];omega
 simp[dY,h,this]
theorem qIv{α:Type}{l:List α}{lo hi:Int}(a:0<=lo)(b:lo<=hi)(c:hi<=l.length):DE l lo hi=some ((l.take hi.toNat).drop lo.toNat):=by simp[DE,a,b,c]
theorem GU{l:BA}{lo hi:Int}(a:0<=lo)(b:lo<=hi)(c:hi<=l.size):lN l lo hi=some (l.extract lo.toNat hi.toNat):=by simp[lN,a,b,c]
theorem YH{σ β:Type}{f:σ->Option (σ⊕β)}(I:σ->Prop)(μ:σ->Nat)(res:σ->β)
  (h:∀s,I s->f s=some (.inr (res s))\/∃s',f s=some (.inl s')/\I s'/\μ s'<μ s/\res s'=res s):∀(N:Nat) (s:σ),I s->μ s<N->aK f N s=some (res s)
 |0,_,_,b=>absurd b (kY _)
 |N+1,s,e,b=>by
  rcases h s e with a|⟨s',a,c,g,d⟩
  .simp[aK,a]
  rw[<-d,<-YH I μ res h N s' c (by omega)]
  simp[aK,a]
theorem LI{σ β:Type}{f:σ->Option (σ⊕β)}(I:σ->Prop)(μ:σ->Nat)(R:β->Prop)
  (h:∀s,I s->(∃b,f s=some (.inr b)/\R b)\/∃s',f s=some (.inl s')/\I s'/\μ s'<μ s):∀(N:Nat) (s:σ),I s->μ s<N->∃b,aK f N s=some b/\R b
 |0,_,_,d=>absurd d (kY _)
 |N+1,s,k,d=>by
  rcases h s k with ⟨b,a,c⟩|⟨s',a,c,l⟩
  .exact⟨b,by simp[aK,a],c⟩
  obtain⟨b,e,g⟩:=LI I μ R h N s' c (by omega)
  exact⟨b,by simp[aK,a,e],g⟩
end
end Go.Dc
section
namespace Go.Dc
def ab(a:Option Addr):Nat:=match a with|some p=>p.block|none=>0
def eJ(a:Option Addr)(cs:Array Value)(e:TypeId):Piece:=match a with
 |none=> .room none 0 0 0 0
 |some p=> .blk p.block (.cells cs e (0,0))
def bY{α:Type}(f:α->List Value)(l:List α)(T:List Value):Array Value:=(l.flatMap f++T).toArray
def OAS(a:Option Addr)(n cap k:Nat)(T:List Value):Prop:=
 n<=cap/\cap<=maxLen/\match a with
  |none=>cap=0
  |some p=>p=⟨p.block,0,none⟩/\n*k+T.length=cap*k
theorem OAS.cast{α:Type}{a:Option Addr}{nn cap k:Nat}{T:List Value}{l:List α}(h:OAS a nn cap k T)(b:List.length l=nn):OAS a (List.length l) cap k T:=by rw[b];exact h
theorem OAS.nil(k:Nat):OAS none 0 0 k []:=⟨jN _,jZ _,rfl⟩
theorem pG{α:Type}{f:α->List Value}{k:Nat}(a:∀x,(f x).length=k):∀l:List α,(l.flatMap f).length=l.length*k
 |[]=>by simp
 |x::l=>by simp[kM,a,pG a l,kF,fP]
theorem vM{α:Type}{f:α->List Value}{k:Nat}(a:∀x,(f x).length=k):∀(l:List α) (i:Nat) (z:α) (j:Nat),l[i]? =some z->j<k->(l.flatMap f)[i*k+j]? =(f z)[j]?
 |[],i,z,j,h,_=>by simp at h
 |x::l,0,z,j,h,b=>by
  simp at h;subst h
  simp[kM,List.getElem?_append,a,b]
 |x::l,i+1,z,j,h,b=>by
  have:=vM a l i z j (by simpa using h) b
  rw[kM,List.getElem?_append_right (by rw[a,kF];omega),a]
  have e:(i+1)*k+j-k=i*k+j:=by rw[kF];omega
  rw[e];exact this
theorem XQ{α:Type}{f:α->List Value}{k:Nat}(a:∀x,(f x).length=k):∀(l:List α) (i:Nat) (z u:α),l[i]? =some z->
  (l.set i u).flatMap f=(l.flatMap f).take (i*k)++f u++(l.flatMap f).drop (i*k+k)
 |[],i,z,u,h=>by simp at h
 |x::l,0,z,u,h=>by
  rw[List.set_cons_zero,kM,kM,Nat.zero_mul,kT,List.take_zero,kK]
  rw[fV,jT (by rw[a];exact jN _),a]
  simp
 |x::l,i+1,z,u,h=>by
  have:=XQ a l i z u (by simpa using h)
  simp only[List.set_cons_succ,kM,this]
  have b:(i+1)*k=(f x).length+i*k:=by rw[kF,a];omega
  have c:(i+1)*k+k=(f x).length+(i*k+k):=by omega
  rw[c,b,List.take_length_add_append,List.drop_length_add_append]
  simp[gD]
section
variable {P:Program} {n:Fr} {ops:Array Oper} {Q:Exit->Act->World->Prop} {i d:Nat} {L:bP} {w:World} {m:Mem} {own:List Piece} {N:bP->World->Prop}
variable {α:Type} {f:α->List Value}
theorem OAS.some{a:Option Addr}{nn cap k:Nat}{T:List Value}(h:OAS a nn cap k T){l:List α}(f:List.length l=nn){j:Nat}(e:j<l.length):a=Option.some ⟨ab a,0,none⟩:=by
 obtain⟨c,d,b⟩:=h
 cases a with
 |none=>simp only at b;omega
 |some p=>simp only at b;exact congrArg Option.some b.1
theorem LH{a:Option Addr}{b:Nat}{cs:Array Value}{e:TypeId}(h:a=some ⟨b,0,none⟩):eJ a cs e= .blk b (.cells cs e (0,0)):=by subst h;rfl
theorem HU{l:List α}{ix:Int}{z:α}(h:bV l ix=some z):0<=ix/\l[ix.toNat]? =some z/\ix.toNat<l.length:=by
 unfold bV at h
 split at h
 .rename_i h0;exact⟨h0,h,(List.getElem?_eq_some_iff.1 h).1⟩
 cases h
theorem KK{t e:TypeId}{x y:Operand}{a:Option Addr}{nn cc k:Nat}{T:List Value}{l:List α}{kd:IntKind}{ix:Int}{z:α}(v:cX ops L i=some (some d,.indexAddr t x y))(s:Nat.blt d n=true)
  (c:bU L x=some (.slice a nn cc)) (D:bU L y=some (.int kd ix)) (hi:pF P t=some (e,k)) (B:OAS a nn cc k T) (u:List.length l=nn) (E:bV l ix=some z)
  (h:N ((d,.pointer (some ⟨ab a,ix.toNat*k,none⟩))::L) w):dX P n ops Q i N L w:=by
 obtain⟨g,inf,o,p⟩:=vH hi
 obtain⟨f,_,b⟩:=HU E
 have r:=B.some u b
 refine lQ v s (fun q A=> ?_) h
 have hlt':ix<(nn:Int):=by omega
 rw[r] at c
 simp[execOp,A,Instr.indexAt,cI c,cI D,asIntOf,run_underlying g,f,hlt',sizeOf,typeInfo,o,p,vO]
theorem TK{t e:TypeId}{x:Operand}{a:Option Addr}{nn cc k:Nat}{l:List α}{T:List Value}{ix:Int}{z:α}{o:Nat}{v:Value}(r:∀x,(f x).length=k)(po:Nat)(B:po=ix.toNat*k+o)(K:cX ops L i=some (some d,.load t x))(F:Nat.blt d n=true)
  (U:bU L x=some (.pointer (some ⟨ab a,po,none⟩))) (A:Piece.holds m w (eJ a (bY f l T) e)) (R:OAS a nn cc k T) (H:List.length l=nn) (V:bV l ix=some z) (S:nX P t ((f z).drop o)=some v)
  (h:N ((d,v)::L) w):dX P n ops Q i N L w:=by
 obtain⟨Y,hz',y⟩:=HU V
 have D:=R.some H y
 subst B
 refine lQ K F (fun q M=> ?_) h
 rw[LH D] at A
 have E:=A.1
 have G:=xY (P:=P) (w:=w) (t:=t) (b:=ab a) (o:=ix.toNat*k+o) (cs:=(f z).drop o) (v:=v) (fun j u p=>by
  rw[List.getElem?_drop] at p
  have s:o+j<k:=by rw[<-r z];exact(List.getElem?_eq_some_iff.1 p).1
  have c:=vM r l ix.toNat z (o+j) hz' s
  rw[p] at c
  have g:=(List.getElem?_eq_some_iff.1 c).1
  simp only[World.cell?,E,bY,List.getElem?_toArray]
  have e:ix.toNat*k+o+j=ix.toNat*k+(o+j):=by omega
  rw[e,List.getElem?_append_left g]
  simpa using c) S
 simp[execOp,M,Instr.loadAt,cI U,Instr.sureAddr,G]
theorem SU{t e:TypeId}{x y:Operand}{a:Option Addr}{nn cc k:Nat}{l:List α}{T:List Value}{ix:Int}{z u:α}{o:Nat}{v:Value}(g:∀x,(f x).length=k)(po:Nat)(D:po=ix.toNat*k+o)(S:cX ops L i=some (none,.store t x y))
  (Y:bU L x=some (.pointer (some ⟨ab a,po,none⟩))) (Z:bU L y=some v) (st:St m (eJ a (bY f l T) e::own) w) (U:OAS a nn cc k T) (R:List.length l=nn) (hz:bV l ix=some z) (d:vQ P t v o k=true)
  (V:f u=(f z).take o++v.cells.toList++(f z).drop (o+v.cells.toList.length))
  (h:∀w',St m (eJ a (bY f (l.set ix.toNat u) T) e::own) w'->N L w'):dX P n ops Q i N L w:=by
 obtain⟨h0,hz',s⟩:=HU hz
 have B:=U.some R s
 subst D
 rw[LH B] at st
 have c:=pG g l
 unfold vQ at d
 cases hi:P.info? t with
 |none=>simp[hi] at d
 |some inf=>
  simp only[hi,jR] at d
  obtain⟨⟨G,H⟩,K⟩:=d
  have h1':=gX G
  have h2':=kV H
  have a1:ix.toNat*k+k<=l.length*k:=by
   have:=kO k (show ix.toNat+1<=l.length from s)
   rw[kF,fW] at this;exact this
  have a2:v.cells.toList.length=v.cells.size:=by simp
  have E:ix.toNat*k+o+v.cells.toList.length<=(bY f l T).size:=by
   simp only[bY,jO,jF,c];omega
  have b:=run_storeCells_at P (ab a) (ix.toNat*k+o) e v.cells.toList 0 (bY f l T) w st.head.1 (by simpa using E) (UK K)
  simp only[gO] at b
  have A:((bY f l T).toList.take (ix.toNat*k+o)++v.cells.toList++(bY f l T).toList.drop (ix.toNat*k+o+v.cells.toList.length)).toArray=bY f (l.set ix.toNat u) T:=by
   apply congrArg List.toArray
   simp only[bY,fX]
   rw[XQ g l ix.toNat z u hz',V]
   have M:(l.flatMap f).take (ix.toNat*k+o)=(l.flatMap f).take (ix.toNat*k)++(f z).take o:=by
    apply hZ
    intro j
    rw[List.getElem?_take,List.getElem?_append]
    simp only[fL,c]
    split
    .rename_i p
     split
     .rename_i hj2;rw[List.getElem?_take,if_pos (by omega)]
     rename_i hj2
     rw[List.getElem?_take,if_pos (by omega)]
     have r:=vM g l ix.toNat z (j-ix.toNat*k) hz' (by omega)
     have F:ix.toNat*k+(j-ix.toNat*k)=j:=by omega
     rw[F] at r
     rw[r];congr 1;omega
    rename_i p
    rw[if_neg (by omega),List.getElem?_take,if_neg (by omega)]
   have F:(l.flatMap f).drop (ix.toNat*k+o+v.cells.toList.length)=(f z).drop (o+v.cells.toList.length)++(l.flatMap f).drop (ix.toNat*k+k):=by
    apply hZ
    intro j
    rw[List.getElem?_drop,List.getElem?_append]
    simp only[kS,g]
    split
    .rename_i p
     rw[List.getElem?_drop]
     have r:=vM g l ix.toNat z (o+v.cells.toList.length+j) hz' (by omega)
     rw[<-r];congr 1;omega
    rename_i p
    rw[List.getElem?_drop];congr 1;omega
   rw[kQ (by rw[c];omega),gA (by rw[c];omega),M,F]
   simp only[gD]
  rw[A] at b
  have st':=st.set (w':=w.setRow (ab a) (bY f (l.set ix.toNat u) T)) (o':= .cells (bY f (l.set ix.toNat u) T) e (0,0)) ⟨⟨rfl,rfl⟩,rfl,mC⟩ (setRow_heap w (ab a) (bY f l T) _ e _ st.head.1) (fun j _ p=>setRow_other w (ab a) j _ p)
  rw[<-LH (cs:=bY f (l.set ix.toNat u) T) (e:=e) B] at st'
  refine yD S (fun q r=> ?_) (h (w.setRow (ab a) (bY f (l.set ix.toNat u) T)) st')
  simp[execOp,r,Instr.storeAt,cI Y,cI Z,Instr.sureAddr,storeVar,sizeOf,typeInfo,hi,h1',b]
theorem St.freezeM{c:Codec α}{a:Option Addr}{e nn cc:Nat}{l:List α}{T:List Value}(st:St m (eJ a (bY f l T) e::own) w)(G:OAS a nn cc c.sz T)(E:List.length l=nn)(r:∀x,(f x).length=c.sz)(D:∀m x,c.rep m x (f x)):
  ∃m',m.le m'/\St m' (.room a (List.length l) cc e c.sz::own) w/\RepS c m' a cc l:=by
 obtain⟨V,t,g⟩:=G
 cases a with
 |none=>
  simp only at g
  have d:l=[]:=jU (by omega)
  subst d;subst g
  exact⟨m,m.le_refl,st.tail.nilroom e c.sz,RepS.nil c m⟩
 |some p=>
  simp only at g
  obtain⟨y,B⟩:=g
  obtain⟨b,o,s⟩:=p
  simp only[Addr.mk.injEq,true_and] at y
  obtain⟨rfl,rfl⟩:=y
  have n:=pG r l
  have z:(bY f l T).toList.take (l.flatMap f).length=l.flatMap f:=by simp[bY]
  have d:St m (.blk b (.cells (bY f l T) e (0,0))::own) w:=st
  obtain⟨m',K,M,R,S,U,Y⟩:=St.know (b:=b) (cs:=l.flatMap f) d.tail (d.head_ne rfl) d.head.1 z (fun o v A=>by rw[d.head.2.1 o] at A;cases A)
  have h:(bY f l T).size=cc*c.sz:=by simp[bY,n,E,B]
  refine⟨m',K,M.cons ⟨rfl,rfl,by omega,t,⟨_,d.head.1,h⟩,fun o F=>S o (by rw[n];exact F),by rw[U];exact d.head.2.2⟩ ?_,?_⟩
  .intro k u;simp[Piece.block] at u;subst u;exact d.head_ne rfl
  exact RepS.of_cells (cs:=l.flatMap f) (by omega) t (fun j x H=>by
   have u:((l.flatMap f).drop (j*c.sz)).take c.sz=f x:=by
    apply hZ
    intro q
    rw[List.getElem?_take]
    split
    .rename_i hq
     rw[List.getElem?_drop,vM r l j x q H hq]
    rename_i hq;rw[List.getElem?_eq_none (by rw[r];omega)]
   rw[u];exact D m' x) R
end
end Go.Dc
namespace Go.Dc
section
variable {P:Program} {n:Fr} {ops:Array Oper} {Q:Exit->Act->World->Prop} {L:bP} {w:World} {m:Mem} {own:List Piece}
variable {ks:List (Nat×(World->Prop))} {k fuel:Nat} {S:World->Prop} {done:List Nat}
theorem qNg{t t2:TypeId}{x y:Operand}{a b r:BA}(i d:Nat)(o:cX ops L i=some (some d,.binOp .add t x y t2))(l:Nat.blt d n=true)
  (p:nV ops ks k i done=true) (f:(k,S)∈ks) (g:QP Q) (s:bU L x=some (.string a)) (u:bU L y=some (.string b)) (c:cZ a b=some r)
  (h:WA P n ops Q ks fuel (done++[i]) ((d,.string r)::L) w):WA P n ops Q ks (fuel+1) done L w:=by
 unfold cZ at c
 split at c
 .rename_i hb
  simp only[jG] at c;subst c
  refine yI i d _ _ o l p f g (fun q g w' _=> ?_) h
  have e:IntKind.i64.max=9223372036854775807:=by decide
  have hb':¬(9223372036854775807<(a.size:Int)+(b.size:Int)):=by simp only[maxLen] at hb;omega
  simp[execOp,g,cI s,cI u,eqGuard,binOp,Op.stringOp,e,hb']
 cases c
end
end Go.Dc
namespace Go.Dc
section
variable {P:Program} {n:Fr} {ops:Array Oper} {Q:Exit->Act->World->Prop} {L:bP} {w:World} {m:Mem} {own:List Piece}
variable {ks:List (Nat×(World->Prop))} {fuel:Nat} {done:List Nat} {α:Type} {f:α->List Value}
theorem nJ(is:List Nat)(f:Region.ready .any ops (marks done ops.size)=is)(e:is≠[])
  (h:∀i∈is,dX P n ops Q i (fun L' w'=>TS ks (marks (done++[i]) ops.size) w'/\WA P n ops Q ks fuel (done++[i]) L' w') L w):WA P n ops Q ks (fuel+1) done L w:=by
 intro _ a l
 refine⟨fun c=>(by rw[f] at c;exact absurd c e),fun j d=> ?_⟩
 rw[f] at d
 refine LE (fun a' w' h'=> ?_) (h j d a l)
 obtain⟨L',g,b,k⟩:=h'
 have:=k b a' g
 rw[BW] at b
 rw[BW] at this
 exact⟨b,this⟩
theorem oS{p:Nat->Prop}{a b:Nat}(c:p a)(d:p b):∀i∈[a,b],p i:=by
 intro i hi;simp only[jI,kZ,dD] at hi
 rcases hi with rfl|rfl<;>assumption
theorem OE{p:Nat->Prop}{a b c:Nat}(d:p a)(e:p b)(f:p c):∀i∈[a,b,c],p i:=by
 intro i hi;simp only[jI,kZ,dD] at hi
 rcases hi with rfl|rfl|rfl<;>assumption
theorem TN{q:Nat}{S:World->Prop}{t e:TypeId}{x y:Operand}{a:Option Addr}{nn cc k:Nat}{T:List Value}{l:List α}{kd:IntKind}{ix:Int}{z:α}(i d:Nat)(D:cX ops L i=some (some d,.indexAddr t x y))(A:Nat.blt d n=true)
  (g:nV ops ks q i done=true) (b:(q,S)∈ks) (c:QP Q)
  (o:bU L x=some (.slice a nn cc)) (F:bU L y=some (.int kd ix)) (hi:pF P t=some (e,k)) (E:OAS a nn cc k T) (B:List.length l=nn) (G:bV l ix=some z)
  (h:WA P n ops Q ks fuel (done++[i]) ((d,.pointer (some ⟨ab a,ix.toNat*k,none⟩))::L) w):WA P n ops Q ks (fuel+1) done L w:=by
 obtain⟨r,inf,s,u⟩:=vH hi
 obtain⟨p,_,f⟩:=HU G
 have v:=E.some B f
 refine yI i d _ _ D A g b c (fun q c w' _=> ?_) h
 have hlt':ix<(nn:Int):=by omega
 rw[v] at o
 simp[execOp,c,Instr.indexAt,cI o,cI F,asIntOf,run_underlying r,p,hlt',sizeOf,typeInfo,s,u,vO]
theorem UD{q:Nat}{S:World->Prop}{t e:TypeId}{x:Operand}{a:Option Addr}{nn cc k:Nat}{l:List α}{T:List Value}{ix:Int}{z:α}{o:Nat}{v:Value}(i d:Nat)(y:∀x,(f x).length=k)(po:Nat)(E:po=ix.toNat*k+o)(V:cX ops L i=some (some d,.load t x))(M:Nat.blt d n=true)
  (F:nV ops ks q i done=true) (p:(q,S)∈ks) (r:QP Q) (G:∀w,S w->Piece.holds m w (eJ a (bY f l T) e))
  (hx:bU L x=some (.pointer (some ⟨ab a,po,none⟩))) (Y:OAS a nn cc k T) (U:List.length l=nn) (hz:bV l ix=some z) (Z:nX P t ((f z).drop o)=some v)
  (h:WA P n ops Q ks fuel (done++[i]) ((d,v)::L) w):WA P n ops Q ks (fuel+1) done L w:=by
 obtain⟨h0,hz',B⟩:=HU hz
 have H:=Y.some U B
 subst E
 refine yI i d _ _ V M F p r (fun q r w' hw'=> ?_) h
 have D:=G w' hw'
 rw[LH H] at D
 have K:=D.1
 have R:=xY (P:=P) (w:=w') (t:=t) (b:=ab a) (o:=ix.toNat*k+o) (cs:=(f z).drop o) (v:=v) (fun j u s=>by
  rw[List.getElem?_drop] at s
  have A:o+j<k:=by rw[<-y z];exact(List.getElem?_eq_some_iff.1 s).1
  have c:=vM y l ix.toNat z (o+j) hz' A
  rw[s] at c
  have g:=(List.getElem?_eq_some_iff.1 c).1
  simp only[World.cell?,K,bY,List.getElem?_toArray]
  have e:ix.toNat*k+o+j=ix.toNat*k+(o+j):=by omega
  rw[e,List.getElem?_append_left g]
  simpa using c) Z
 simp[execOp,r,Instr.loadAt,cI hx,Instr.sureAddr,R]
end
end Go.Dc
namespace Go.Dc
section
variable {P:Program} {n:Fr} {ops:Array Oper} {Q:Exit->Act->World->Prop} {i d:Nat} {L:bP} {w:World} {m:Mem} {own:List Piece} {N:bP->World->Prop}
variable {α:Type} {f:α->List Value}
theorem qFu{c:Codec α}(g:∀m x cs,c.rep m x cs->cs=f x){k:List α}{cs:List Value}(b:cs.length=k.length*c.sz)(a:∀i y,k[i]? =some y->c.rep m y ((cs.drop (i*c.sz)).take c.sz)):cs=k.flatMap f:=by
 induction k generalizing cs with
 |nil=>simp at b;subst b;rfl
 |cons x k n=>
  have d:=g _ _ _ (a 0 x rfl)
  simp only[Nat.zero_mul,kA] at d
  have h:=n (cs:=cs.drop c.sz) (by simp only[kS,b,jA,kF];omega) (fun i y l=>by
   have:=a (i+1) y (by simpa using l)
   rw[List.drop_drop]
   have e:c.sz+i*c.sz=(i+1)*c.sz:=by rw[kF];omega
   rw[e];exact this)
  rw[kM,<-d,<-h,List.take_append_drop]
theorem LA{a:Option Addr}{e sz:Nat}(st:St m (.room a 0 0 e sz::own) w):St m (eJ a (bY f [] []) e::own) w:=by
 cases a with
 |none=>exact st.tail.nilroom 0 0
 |some p=>
  obtain⟨l,n,q,r,⟨cur,d,s⟩,g,h⟩:=st.head
  have b:cur=bY f [] []:=by
   have:cur.size=0:=by omega
   rw[Array.size_eq_zero_iff.1 this];rfl
  refine st.tail.cons ⟨by rw[d,b],⟨fun o=>g o (by omega),h⟩⟩ ?_
  intro k c
  have hk':some p.block=some k:=c
  simp only[jG] at hk';subst hk'
  exact st.head_ne rfl
end
end Go.Dc
namespace Go.Dc
theorem LL{m m':Mem}{w:World}{a:Option Addr}{cs:Array Value}{e:TypeId}(h:Piece.holds m' w (eJ a cs e))(b:m.le m'):Piece.holds m w (eJ a cs e):=by
 cases a with
 |none=>exact h
 |some p=>exact Piece.holds_anti (o:= .cells cs e (0,0)) h b
end Go.Dc
namespace Go.Dc
section
variable {P:Program} {n:Fr} {ops:Array Oper} {Q:Exit->Act->World->Prop} {L:bP} {w:World}
theorem aC{id:Nat}{y:Code}(h:WO P n ops (Exit.then (fun a w=>y.wpIn (mO none) 0 P Q a w) Q) 0 L w):W none P n (.seq (.region id ops false) y) Q L w:=aF (bA h)
theorem qAf{i:Nat}{ρ:Option Nat}{y:Code}(hi:ops.size=i)(h:W ρ P n y Q L w):WO P n ops (Exit.then (fun a w=>y.wpIn (mO ρ) 0 P Q a w) Q) i L w:=aU hi (aB h)
end
end Go.Dc
end
section
namespace Go.Dc
section
variable {P:Program} {n:Fr} {ops:Array Oper} {Q:Exit->Act->World->Prop} {i d:Nat} {L:bP} {w:World} {m:Mem} {own:List Piece} {N:bP->World->Prop}
def oO(a:Option Addr)(cap l k:Nat):Option Addr:=if cap=l then a else a.map fun p=>p.add (l*k)
theorem qKb{b o cap l k:Nat}(h:l<cap):oO (some ⟨b,o,none⟩) cap l k=some ⟨b,o+l*k,none⟩:=by
 unfold oO;rw[if_neg (by omega)];simp[vO]
theorem qGu{t e k:Nat}{x:Operand}{lo hi:Option Operand}{a:Option Addr}{nn cap:Nat}{li hix:Int}(g:bU L x=some (.slice a nn cap))(v:pF P t=some (e,k))
  (p:(lo=none/\li=0)\/∃y kd,lo=some y/\bU L y=some (.int kd li)) (n:(hi=none/\hix=nn)\/∃y kd,hi=some y/\bU L y=some (.int kd hix)) (h:0<=li) (u:li<=hix) (l:hix<=cap) (q:Oper) (f:q.op= .slice t x lo hi none) (w:World):
  (execOp (lU L) q).run P w= .ok (.value (.slice (oO a cap li.toNat k) (hix.toNat-li.toNat) (cap-li.toNat))) w:=by
 obtain⟨b,inf,c,d⟩:=vH v
 have r:0<=hix:=by omega
 have o:li<=max hix 0:=by omega
 rcases p with ⟨rfl,rfl⟩|⟨y,kd,rfl,s⟩<;>rcases n with ⟨rfl,rfl⟩|⟨y',kd',rfl,hy'⟩
 .simp[execOp,f,Instr.sliceAt,Instr.slice,Instr.sliceBounds,run_underlying b,cI g,sizeOf,typeInfo,c,d,oO]
 .simp[execOp,f,Instr.sliceAt,Instr.slice,Instr.sliceBounds,Instr.sliceBound,asIntOf,run_underlying b,cI g,cI hy',r,l,sizeOf,typeInfo,c,d,oO]
 .have:li<=(nn:Int):=u
  simp[execOp,f,Instr.sliceAt,Instr.slice,Instr.sliceBounds,Instr.sliceBound,asIntOf,run_underlying b,cI g,cI s,h,this,sizeOf,typeInfo,c,d,oO]
 simp[execOp,f,Instr.sliceAt,Instr.slice,Instr.sliceBounds,Instr.sliceBound,asIntOf,run_underlying b,cI g,cI s,cI hy',r,l,h,o,sizeOf,typeInfo,c,d,oO]
theorem qIe{ks:List (Nat×(World->Prop))}{q fuel:Nat}{S:World->Prop}{done:List Nat}{t e k:Nat}{x:Operand}{lo hi:Option Operand}{a:Option Addr}{nn cap:Nat}{li hix:Int}(i d:Nat)(v:Value)(c:cX ops L i=some (some d,.slice t x lo hi none))(z:Nat.blt d n=true)
  (l:nV ops ks q i done=true) (b:(q,S)∈ks) (A:QP Q) (D:bU L x=some (.slice a nn cap)) (u:pF P t=some (e,k))
  (g:(lo=none/\li=0)\/∃y kd,lo=some y/\bU L y=some (.int kd li)) (f:(hi=none/\hix=nn)\/∃y kd,hi=some y/\bU L y=some (.int kd hix)) (p:0<=li) (r:li<=hix) (s:hix<=cap) (B: .slice (oO a cap li.toNat k) (hix.toNat-li.toNat) (cap-li.toNat)=v)
  (h:WA P n ops Q ks fuel (done++[i]) ((d,v)::L) w):WA P n ops Q ks (fuel+1) done L w:=by
 subst B
 exact yI i d _ _ c z l b A (fun o c w' _=>qGu D u g f p r s o c w') h
theorem XE{b o k nn cap sl:Nat}{C:Array Value}{e:TypeId}{S:List Value}(d:w.heap[b]? =some (.cells C e (0,0)))(c:(C.toList.drop o).take (nn*k)=S)(f:S.length=nn*k):
  (Builtin.firstCells k nn (.slice (some ⟨b,o,none⟩) sl cap)).run P w= .ok S.toArray w:=by
 refine run_firstCells_some w k nn ⟨b,o,none⟩ sl cap S f fun j v a=> ?_
 rw[<-c,List.getElem?_take] at a
 split at a
 .rw[List.getElem?_drop] at a
  rw[vO]
  simp only[World.cell?,d]
  simpa using a
 cases a
theorem qIq{t u e k:Nat}{x y:Operand}{b o dl dc sl sc:Nat}{a:Option Addr}{C:Array Value}{c:TypeId}(S C':List Value)(G:cX ops L i=some (some d,.call {callee:= .builtin .copy,args:= #[x,y],argTypes:= #[t,u]}))(E:Nat.blt d n=true)
  (H:bU L x=some (.slice (some ⟨b,o,none⟩) dl dc)) (K:bU L y=some (.slice a sl sc)) (D:pF P t=some (e,k)) (st:St m (.blk b (.cells C c (0,0))::own) w)
  (p:(Builtin.firstCells k (Nat.min sl dl) (.slice a sl sc)).run P w= .ok S.toArray w) (g:o+S.length<=C.size) (l:∀v∈S,v.oneCell'=true) (B:C.toList.take o++S++C.toList.drop (o+S.length)=C')
  (h:∀w',St m (.blk b (.cells C'.toArray c (0,0))::own) w'->N ((d,.int .i64 ((Nat.min sl dl:Nat):Int))::L) w'):dX P n ops Q i N L w:=by
 subst B
 obtain⟨r,inf,s,z⟩:=vH D
 have f:=run_storeCells_at P b o c S 0 C w st.head.1 (by simpa using g) l
 simp only[gO] at f
 have st':=st.set (w':=w.setRow b (C.toList.take o++S++C.toList.drop (o+S.length)).toArray) (o':= .cells (C.toList.take o++S++C.toList.drop (o+S.length)).toArray c (0,0)) ⟨⟨rfl,rfl⟩,rfl,mC⟩ (setRow_heap w b C _ c _ st.head.1) (fun j _ F=>setRow_other w b j _ F)
 refine CE (v:=undef) (w':=w) G E (fun q A=> ?_)
 refine⟨_,_,?_,h _ st'⟩
 rw[<-z] at p
 simp only[execOp,A,resolve,Sem.run_bind,Sem.run_pure,Result.andThen_ok,invoke,builtin]
 simp[cI H,cI K,Builtin.copy_,run_underlying r,sizeOf,typeInfo,s,Builtin.lenOf,p,f,goInt]
end
end Go.Dc
namespace Go.Dc
end Go.Dc
end
namespace Go.Dc
section
variable {P:Program} {n:Fr} {ops:Array Oper} {Q:Exit->Act->World->Prop} {i d:Nat} {L:bP} {w:World} {m:Mem} {own:List Piece} {N:bP->World->Prop}
variable {ks:List (Nat×(World->Prop))} {fuel:Nat} {done:List Nat}
def pM(a b:BA):Int:=
 match(List.range (min a.size b.size)).find? fun i=>a[i]! !=b[i]! with
 |some i=>if a[i]! <b[i]! then-1 else 1
 |none=>if a.size<b.size then-1 else if a.size>b.size then 1 else 0
theorem qGp{f:FuncId}{fn:Func}{x y:Operand}{ts:Array TypeId}{s u:BA}(g:cX ops L i=some (some d,.call {callee:= .value (.func f),args:= #[x,y],argTypes:=ts}))(c:Nat.blt d n=true)
  (k : bU L x = some (.string s)) (l : bU L y = some (.string u)) (e : P.funcs[f]? = some fn) (a : (fn.name == "runtime.NumGoroutine", fn.body.isNone, (Extern.findNext fn).isNone) = (false, true, true)) (b : Extern.find fn = some Extern.BytealgCompare.compare)
  (h:N ((d,.int .i64 (pM s u))::L) w):dX P n ops Q i N L w:=by
 refine NN [.string s,.string u] _ g c (by simp[cI k,cI l]) e a b ?_ h
 rfl
end
section
variable {P:Program} {n:Fr} {ops:Array Oper} {Q:Exit->Act->World->Prop} {i d:Nat} {L:bP} {w:World} {m:Mem} {own:List Piece} {N:bP->World->Prop} {α:Type} {f:α->List Value}
def oX(l:List α)(lo hi:Int):Option Unit:=if 0<=lo/\lo<=hi/\hi<=l.length then some () else none
theorem WI{l:List α}{lo hi:Int}{u:Unit}(h:oX l lo hi=some u):0<=lo/\lo<=hi/\hi<=l.length:=by
 unfold oX at h
 split at h
 .assumption
 cases h
theorem LK{ks:List (Nat×(World->Prop))}{q fuel:Nat}{S:World->Prop}{done:List Nat}{t e k:Nat}{x:Operand}{lo hi:Option Operand}{a:Option Addr}{nn cc:Nat}{T:List Value}{l:List α}{li hix:Int}{u:Unit}(i d:Nat)(v:cX ops L i=some (some d,.slice t x lo hi none))(s:Nat.blt d n=true)
  (g:nV ops ks q i done=true) (b:(q,S)∈ks) (z:QP Q) (B:bU L x=some (.slice a nn cc)) (r:pF P t=some (e,k))
  (f:(lo=none/\li=0)\/∃y kd,lo=some y/\bU L y=some (.int kd li)) (c:(hi=none/\hix=nn)\/∃y kd,hi=some y/\bU L y=some (.int kd hix)) (A:OAS a nn cc k T) (F:List.length l=nn) (D:oX l li hix=some u)
  (h:WA P n ops Q ks fuel (done++[i]) ((d,.slice (oO a cc li.toNat k) (hix.toNat-li.toNat) (cc-li.toNat))::L) w):WA P n ops Q ks (fuel+1) done L w:=by
 obtain⟨o,p,E⟩:=WI D
 have:=A.1
 exact qIe i d _ v s g b z B r f c o p (by omega) rfl h
def qR(l:List α)(d0 s0:Nat):List α:=l.take d0++(l.drop s0).take (min (l.length-s0) (l.length-d0))++l.drop (d0+min (l.length-s0) (l.length-d0))
def sY(l:List α)(d0 s0:Int):Option (List α):=if 0<=d0/\d0<=l.length/\0<=s0/\s0<=l.length/\0<l.length then some (qR l d0.toNat s0.toNat) else none
theorem qJe{l:List α}{d0 s0:Nat}(a:d0<=l.length):(qR l d0 s0).length=l.length:=by
 simp only[qR,jF,fL,kS];omega
theorem UO{l r:List α}{d0 s0:Int}(h:sY l d0 s0=some r):∃d s:Nat,d0=(d:Int)/\s0=(s:Int)/\d<=l.length/\s<=l.length/\0<l.length/\r=qR l d s:=by
 unfold sY at h
 split at h
 .rename_i hb
  simp only[jG] at h
  exact⟨d0.toNat,s0.toNat,by omega,by omega,by omega,by omega,hb.2.2.2.2,h.symm⟩
 cases h
theorem VS{l r:List α}{d0 s0:Int}(h:sY l d0 s0=some r):r.length=l.length:=by
 obtain⟨d,s,_,_,a,_,_,rfl⟩:=UO h
 exact qJe a
theorem NW{k:Nat}(a:∀x,(f x).length=k):∀(l:List α) (j:Nat),(l.flatMap f).take (j*k)=(l.take j).flatMap f
 |[],j=>by simp
 |x::l,0=>by simp
 |x::l,j+1=>by
  rw[kM,List.take_succ_cons,kM,List.take_append,a,show(j+1)*k-k=j*k by rw[kF,fW,hH],NW a l j,gU (by rw[a,kF];omega)]
theorem WL{k:Nat}(a:∀x,(f x).length=k):∀(l:List α) (j:Nat),(l.flatMap f).drop (j*k)=(l.drop j).flatMap f
 |[],j=>by simp
 |x::l,0=>by simp
 |x::l,j+1=>by
  rw[kM,List.drop_succ_cons,fV,a,show(j+1)*k-k=j*k by rw[kF,fW,hH],WL a l j,jT (by rw[a,kF];omega),kK]
theorem MX{k:Nat}(a:∀x,(f x).length=k){l:List α}{T:List Value}{j:Nat}(c:j<=l.length):(bY f l T).toList.take (j*k)=(l.take j).flatMap f:=by
 have b:=pG a l
 simp only[bY]
 rw[kQ (by rw[b];exact kO _ c),NW a]
theorem MY{k:Nat}(a:∀x,(f x).length=k){l:List α}{T:List Value}{j:Nat}(c:j<=l.length):(bY f l T).toList.drop (j*k)=(l.drop j).flatMap f++T:=by
 have b:=pG a l
 simp only[bY]
 rw[gA (by rw[b];exact kO _ c),WL a]
theorem WG{t u e k:Nat}{x y:Operand}{a:Option Addr}{nn cc:Nat}{T:List Value}{l r:List α}{s:TypeId}{d0 s0 G H:Int}(c:∀x,(f x).length=k)(D:∀x,∀v∈f x,v.oneCell'=true)(hk:0<k)
  (ho:cX ops L i=some (some d,.call {callee:= .builtin .copy,args:= #[x,y],argTypes:= #[t,u]})) (hd:Nat.blt d n=true)
  (p:bU L x=some (.slice (oO a cc d0.toNat k) (G.toNat-d0.toNat) (cc-d0.toNat))) (z:bU L y=some (.slice (oO a cc s0.toNat k) (H.toNat-s0.toNat) (cc-s0.toNat))) (e1:G=(l.length:Int)) (e2:H=(l.length:Int)) (hI:pF P t=some (e,k))
  (st:St m (eJ a (bY f l T) s::own) w) (U:OAS a nn cc k T) (S:List.length l=nn) (hz:sY l d0 s0=some r)
  (h:∀(v:Int) w',St m (eJ a (bY f r T) s::own) w'->N ((d,.int .i64 v)::L) w'):dX P n ops Q i N L w:=by
 obtain⟨dd,ss,rfl,rfl,E,F,g3,rfl⟩:=UO hz
 have B:=U.some S (show 0<l.length from g3)
 subst S
 obtain⟨q1,q2,q3⟩:=U
 rw[B] at q3
 simp only[true_and] at q3
 subst e1;subst e2
 rw[B] at p z st
 rw[B] at h
 generalize ab a=b at*
 have R:=pG c l
 simp only[kI] at p z
 have A:St m (.blk b (.cells (bY f l T) s (0,0))::own) w:=st
 have K:(bY f l T).size=cc*k:=by
  simp only[bY,jO,jF,R];omega
 have sl:∀j,j<=l.length->∃o,oO (some ⟨b,0,none⟩) cc j k=some ⟨b,o,none⟩/\o<=j*k/\(j<l.length->o=j*k):=by
  intro j g
  by_cases hc:cc=j
  .exact⟨0,by simp[oO,hc],jZ _,fun h=>by omega⟩
  exact⟨j*k,by rw[qKb (by omega),kT],jN _,fun _=>rfl⟩
 obtain⟨o1,V,a3,Y⟩:=sl dd E
 obtain⟨o2,Z,a4,a1⟩:=sl ss F
 rw[V] at p
 rw[Z] at z
 generalize hM:min (l.length-ss) (l.length-dd)=M
 have hM':Nat.min (l.length-ss) (l.length-dd)=M:=hM
 have q:(((l.drop ss).take M).flatMap f).length=M*k:=by rw[pG c,fL,kS];congr 1;omega
 have a2:dd*k+M*k<=cc*k:=by rw[<-kF];exact kO _ (by omega)
 refine qIq (((l.drop ss).take M).flatMap f) (bY f (qR l dd ss) T).toList ho hd p z hI A ?_ ?_ ?_ ?_ ?_
 .rw[hM']
  refine XE A.head.1 ?_ q
  rcases Nat.eq_zero_or_pos M with g|g
  .simp[g]
  rw[a1 (by omega),MY c F,kQ (by rw[pG c,kS];exact kO _ (by omega)),NW c]
 .rw[q,K];omega
 .intro v hv
  obtain⟨x,_,p⟩:=List.mem_flatMap.1 hv
  exact D x v p
 .rw[q]
  rcases Nat.eq_zero_or_pos M with g|g
  .have:qR l dd ss=l:=by simp only[qR,hM,g];simp
   rw[this,g];simp
  rw[Y (by omega),MX c E,<-kF,MY c (show dd+M<=l.length by omega)]
  simp only[qR,hM,bY,List.flatMap_append,gD]
 intro w' st'
 rw[hM']
 have g:St m (.blk b (.cells (bY f (qR l dd ss) T) s (0,0))::own) w':=by simpa using st'
 exact h _ w' g
theorem KO{t u e by_:Nat}{x y:Operand}{c:Codec α}{v:Value}{a:Option Addr}{nn cc:Nat}{T:List Value}{l k r:List α}(a5:∀m x cs,c.rep m x cs->cs=f x)(R:∀x,(f x).length=c.sz)
  (ho:cX ops L i=some (some d,.call {callee:= .builtin .append,args:= #[x,y],argTypes:= #[t,u]})) (hd:Nat.blt d n=true)
  (hx:bU L x=some (.slice a nn cc)) (hy:bU L y=some v) (st:St m (eJ a (bY f l T) e::own) w) (V:OAS a nn cc c.sz T) (hn:List.length l=nn) (hi:vL P t=some (e,c.sz,by_,c.sz)) (hu:wC P u e)
  (hg:CX P c m v k) (Z:dY by_ l k=some r)
  (h:∀a' cap T' w',OAS a' (List.length r) cap c.sz T'->St m (eJ a' (bY f r T') e::own) w'->N ((d,.slice a' (List.length r) cap)::L) w'):dX P n ops Q i N L w:=by
 obtain⟨ht,inf,z,F,hz',A,a4,a7⟩:=MV hi
 unfold dY at Z
 split at Z
 .rename_i hk
  obtain⟨k1,k2⟩:=hk
  simp only[jG] at Z;subst Z
  subst hn
  obtain⟨cs,H,a3⟩:=hg
  have D:=H w st.inv
  have hl:cs.length=k.length*c.sz:=D.2.2.1
  have M:cs=k.flatMap f:=qFu a5 hl a3
  have a1:=pG R l
  have a8:=pG R k
  obtain⟨q1,q2,G⟩:=V
  by_cases hroom:l.length+k.length<=cc
  .cases a with
   |none=>
    simp only at G
    have S:l=[]:=jU (by omega)
    have E:k=[]:=jU (by omega)
    subst S;subst E;subst G
    have B:cs=[]:=by simpa using M
    subst B
    refine CE (v:=undef) (w':=w) ho hd (fun o K=> ?_)
    have g:=SM w t u o.type e inf ht hu F (x:=v) (news:=[]) (by rw[A];exact D)
    refine⟨_,_,?_,h none 0 [] w ⟨jN _,jZ _,rfl⟩ st⟩
    simp only[execOp,K,resolve,Sem.run_bind,Sem.run_pure,Result.andThen_ok,invoke,builtin]
    simp only[jB] at hx
    simp[cI hx,cI hy,g]
   |some p=>
    simp only at G
    obtain⟨U,hT⟩:=G
    obtain⟨b,o,s⟩:=p
    simp only[Addr.mk.injEq,true_and] at U
    obtain⟨rfl,rfl⟩:=U
    have E:St m (.blk b (.cells (bY f l T) e (0,0))::own) w:=st
    have a2:(bY f l T).size=cc*c.sz:=by
     simp only[bY,jO,jF,a1];omega
    have Y:l.length*c.sz+k.length*c.sz<=cc*c.sz:=by rw[<-kF];exact kO _ hroom
    have hC:(bY f l T).toList.take (l.length*inf.size)++cs++(bY f l T).toList.drop (l.length*inf.size+cs.length)=(bY f (l++k) (T.drop (k.length*c.sz))).toList:=by
     rw[A,hl,M]
     have B:(bY f l T).toList.take (l.length*c.sz)=l.flatMap f:=by
      have:=MX (T:=T) R (jN l.length)
      rwa[fT] at this
     have e2:(bY f l T).toList.drop (l.length*c.sz+k.length*c.sz)=T.drop (k.length*c.sz):=by
      have:=MY (T:=T) R (jN l.length)
      rw[fU,List.flatMap_nil,kK] at this
      rw[<-List.drop_drop,this]
     rw[B,e2]
     simp[bY,List.flatMap_append]
    refine CE (v:=undef) (w':=w) ho hd (fun q K=> ?_)
    have g:=SV w t u q.type e inf ht hu F (x:=v) (n:=k.length) (news:=cs) (by rw[A];exact D) b l.length cc (bY f l T) E.head.1 hroom (by rw[A,hl,a2];exact Y)
    rw[hC] at g
    have st':=E.set (w':=w.setRow b (bY f (l++k) (T.drop (k.length*c.sz))).toList.toArray) (o':= .cells (bY f (l++k) (T.drop (k.length*c.sz))).toList.toArray e (0,0)) ⟨⟨rfl,rfl⟩,rfl,mC⟩ (setRow_heap w b (bY f l T) _ e _ E.head.1) (fun j _ hj=>setRow_other w b j _ hj)
    have a6:St m (eJ (some ⟨b,0,none⟩) (bY f (l++k) (T.drop (k.length*c.sz))) e::own) (w.setRow b (bY f (l++k) (T.drop (k.length*c.sz))).toList.toArray):=by simpa[eJ] using st'
    have B:(l++k).length=l.length+k.length:=jF
    refine⟨.slice (some ⟨b,0,none⟩) (l++k).length cc,_,?_,h (some ⟨b,0,none⟩) cc (T.drop (k.length*c.sz)) _ ⟨by rw[B];exact hroom,q2,rfl,?_⟩ a6⟩
    .simp only[execOp,K,resolve,Sem.run_bind,Sem.run_pure,Result.andThen_ok,invoke,builtin]
     simp[cI hx,cI hy,g,B]
    rw[B,kF,kS];omega
  have a6:cc<l.length+k.length:=by omega
  have hinv':∀w':World,Step w w'->w'.heap=w.heap->Inv m w':=fun w' V Y=>st.inv.keep V (fun b _ _=>by rw[Y])
  refine CE (v:=undef) (w':=w) ho hd (fun o K=> ?_)
  have a2:∀w':World,Step w w'->w'.heap=w.heap->(Builtin.firstCells inf.size l.length (.slice a l.length cc)).run P w'= .ok (l.flatMap f).toArray w':=fun w' _ Y=>by
   cases a with
   |none=>
    simp only at G
    have S:l=[]:=jU (by omega)
    subst S
    simp[Builtin.firstCells]
   |some p=>
    simp only at G
    obtain⟨U,hT⟩:=G
    obtain⟨b,o,s⟩:=p
    simp only[Addr.mk.injEq,true_and] at U
    obtain⟨rfl,rfl⟩:=U
    have E:St m (.blk b (.cells (bY f l T) e (0,0))::own) w:=st
    rw[A]
    refine XE (o:=0) (C:=bY f l T) (e:=e) (by rw[Y];exact E.head.1) ?_ a1
    rw[kA]
    have:=MX (T:=T) R (jN l.length)
    rwa[fT] at this
  have g:=SQ (ty:=o.type) w t u e inf z ht hu F hz' (n:=k.length) (news:=cs) (by rw[A];exact D) a l.length cc (l.flatMap f)
   a2 (fun w' V Y=>by rw[A];exact(H w' (hinv' w' V Y)).2.1) a6 (by rw[a4];exact k1) k2
  generalize hgc:grownCap w (l.length+k.length) cc e=gc at g
  have U:l.length+k.length<=gc:=hgc▸grownCap_ge _ _ _ _
  have S:gc<=maxLen:=hgc▸grownCap_le_maxLen _ _ _ _ k2
  have E:(l.flatMap f++cs).toArray++Builtin.zeroCells z.cells (gc-(l.length+k.length))=bY f (l++k) (Builtin.zeroCells z.cells (gc-(l.length+k.length))).toList:=by
   rw[M];apply Array.ext';simp[bY]
  rw[E] at g
  have B:(l++k).length=l.length+k.length:=jF
  refine⟨.slice (some ⟨w.heap.size,0,none⟩) (l++k).length gc,_,?_,h (some ⟨w.heap.size,0,none⟩) gc _ _ ⟨by omega,S,rfl,?_⟩ (st.tail.alloc (w':=w.drew.alloc (.cells (bY f (l++k) (Builtin.zeroCells z.cells (gc-(l.length+k.length))).toList) e)) ⟨⟨rfl,rfl⟩,rfl,mC⟩ rfl)⟩
  .simp only[execOp,K,resolve,Sem.run_bind,Sem.run_pure,Result.andThen_ok,invoke,builtin]
   simp[cI hx,cI hy,g,B]
  simp only[Array.length_toList,size_zeroCells,a7,B,<-kF]
  congr 1;omega
 cases Z
theorem MG{l:List α}{lo hi:Int}{u:Unit}{nn:Nat}(h:oX l lo hi=some u)(d:List.length l=nn):0<=lo/\lo<=hi/\hi<=(nn:Int):=by
 obtain⟨a,b,c⟩:=WI h
 exact⟨a,b,by omega⟩
end
end Go.Dc
section
namespace Go.Dc
def rV{α σ β ρ:Type}[DecidableEq ρ](f:Option α->σ->Option (σ⊕β))(l:List α)(s:σ)(K:β->Option ρ):Option ρ:=
 match(iW f l s).bind K with
 |none=>none
 |some b=>if((uH l).all fun k=>decide ((iW f k s).bind K=some b))=true then some b else none
theorem qFs{α σ β ρ:Type}[DecidableEq ρ]{f:Option α->σ->Option (σ⊕β)}{l:List α}{s:σ}{K:β->Option ρ}{b:ρ}(h:rV f l s K=some b):∀k,k.Perm l->(iW f k s).bind K=some b:=by
 unfold rV at h
 split at h
 .cases h
 rename_i b' hb
 split at h
 .rename_i hall
  simp only[jG] at h;subst h
  intro k a
  have:=jX.1 hall k (OG a)
  simpa using this
 cases h
theorem NU{α σ β ρ:Type}[DecidableEq ρ]{f:Option α->σ->Option (σ⊕β)}{l:List α}{s:σ}{K:β->Option ρ}{b:ρ}(h:∀k,k.Perm l->(iW f k s).bind K=some b):rV f l s K=some b:=by
 unfold rV
 rw[h l (.refl _)]
 simp only
 rw[if_pos]
 exact jX.2 fun k a=>by simpa using h k (NP a)
def LoopP{α σ β:Type}(f:Option α->σ->Option (σ⊕β))(rem:List α)(s:σ)(Pk:β->Prop)(k:Nat):Prop:=(∀l,l.Perm rem->∃b,iW f l s=some b/\Pk b)/\rem.length<k
theorem LoopP.start{α σ β ρ:Type}[DecidableEq ρ]{f:Option α->σ->Option (σ⊕β)}{l:List α}{s:σ}{K:β->Option ρ}{b:ρ}(h:rV f l s K=some b):∃Pk:β->Prop,(∀o,Pk o->K o=some b)/\LoopP f l s Pk (l.length+1):=
 ⟨fun o=>K o=some b,fun _ h=>h,fun k d=>by obtain⟨o,a,c⟩:=jH.1 (qFs h k d);exact⟨o,a,c⟩,Nat.lt_succ_self _⟩
theorem LoopP.zero{α σ β:Type}{f:Option α->σ->Option (σ⊕β)}{rem:List α}{s:σ}{b:β->Prop}{p:Prop}(h:LoopP f rem s b 0):p:=absurd h.2 (kY _)
theorem LoopP.nil{α σ β:Type}{f:Option α->σ->Option (σ⊕β)}{rem:List α}{s:σ}{b:β->Prop}{k:Nat}(h:LoopP f rem s b (k+1))(g:rem=[]):
  ∃c,f none s=some c/\(∀s',c= .inl s'->LoopP f rem s' b k)/\(∀b',c= .inr b'->b b'):=by
 subst g
 obtain⟨o,this,e⟩:=h.1 [] (.refl _)
 simp only[iW] at this
 obtain⟨c,d,a⟩:=jH.1 this
 refine⟨c,d,?_,?_⟩
 .rintro s' rfl;simp at a
 rintro b' rfl
 simp only[jG] at a
 subst a;exact e
theorem LoopP.cons{α σ β:Type}{f:Option α->σ->Option (σ⊕β)}{rem rest:List α}{e:α}{s:σ}{b:β->Prop}{k:Nat}(h:LoopP f rem s b (k+1))(q:rem.Perm (e::rest)):
  ∃c,f (some e) s=some c/\(∀s',c= .inl s'->LoopP f rest s' b k)/\(∀b',c= .inr b'->b b'):=by
 have t:rem.length=rest.length+1:=by simpa using q.length_eq
 have key:∀l,l.Perm rest->∃o,iW f (e::l) s=some o/\b o:=fun l a=>h.1 _ ((a.cons e).trans q.symm)
 obtain⟨o,d,u⟩:=key rest (.refl _)
 simp only[iW] at d
 obtain⟨c,g,n⟩:=jH.1 d
 refine⟨c,g,?_,?_⟩
 .rintro s' rfl
  refine⟨fun l a=> ?_,by have:=h.2;omega⟩
  obtain⟨o2,p,r⟩:=key l a
  simp only[iW,g,j0] at p
  exact⟨o2,p,r⟩
 rintro b' rfl
 simp only[jG] at n
 subst n;exact u
end Go.Dc
namespace Go.Dc
end Go.Dc
end
namespace Go.Dc
section
open Go.Proofs Go.Shelf Go.Sort
theorem qKu{w w':World}{m':Mem}{own:List Piece}(c:Mem.le (rI w) m')(st:St m' own w'):∃q os,w'=grow (w.drewN q) os:=by
 have n:=st.1.2.2
 have p:m'.wd=w:=c.2.2.symm
 rw[p] at n
 obtain⟨⟨d,e⟩,f,g⟩:=n
 have g:=g rfl
 have l:∀(b:Nat) (x:Obj),w.heap[b]? =some x->w'.heap[b]? =some x:=fun b x o=>st.1.2.1 b x (c.2.1 b x o)
 refine⟨w'.drawn-w.drawn,w'.heap.extract w.heap.size w'.heap.size,?_⟩
 have r:w.heap.size<=w'.heap.size:=by
  rcases Nat.eq_zero_or_pos w.heap.size with h|h
  .omega
  have:=l (w.heap.size-1) _ (Array.getElem?_eq_getElem (show w.heap.size-1<w.heap.size by omega))
  have:=(Array.getElem?_eq_some_iff.1 this).1
  omega
 have a:w.heap++w'.heap.extract w.heap.size w'.heap.size=w'.heap:=by
  apply Array.ext
  .simp;omega
  intro i k s
  rw[Array.getElem_append]
  split
  .rename_i h7
   have:=l i _ (Array.getElem?_eq_getElem h7)
   exact((Array.getElem?_eq_some_iff.1 this).2).symm
  rename_i h7
  rw[Array.getElem_extract]
  congr 1;omega
 have k:w.drawn+(w'.drawn-w.drawn)=w'.drawn:=by omega
 cases w'
 simp only at d e f a k
 simp only[grow,World.drewN,d,e,f,a,k]
theorem VA{α:Type}[Inhabited α]{f:α->List Value}{k:Nat}(d:∀x,(f x).length=k)(l:List α)(t:Nat)(a:t<l.length*k):(l.flatMap f)[t]? =some (flatK f k l.toArray)[t]! :=by
 have g:0<k:=Nat.pos_of_ne_zero fun n=>by(subst n;simp at a)
 have c:t/k<l.length:=(Nat.div_lt_iff_lt_mul g).2 a
 have h:=Nat.mod_lt t g
 have o:l[t/k]? =some l[t/k]:=by simp[c]
 have e:t=(t/k)*k+t%k:=by rw[Nat.mul_comm];exact(Nat.div_add_mod t k).symm
 have b:=vM d l (t/k) _ (t%k) o h
 rw[<-e] at b
 rw[get_flatK _ _ _ t (by simpa using a),b]
 simp[c,d,h]
variable {P:Program} {ρ:Ren} {α:Type} [Inhabited α] {m:Mem} {own:List Piece} {w:World}
theorem UC(L:SlLaysF0.n6 P ρ){k:Nat}{f:α->List Value}(aE:∀w,(isAgg (ρ.t 24)).run P w= .ok true w)(zE:∀w,(Go.sizeOf (ρ.t 24)).run P w= .ok k w)(q:∀x,(f x).length=k)(M:∀x,∀v∈f x,v.oneCell'=true)
  (cf:α->α->Int) (S:SWO (ltOf cf)) (U:∀x y,(ltOf cf) x y=false->(ltOf cf) y x=false->x=y) (g:Nat) (eg:∀args w,(callFunc g args).run P w= .ok (.enter g args) w)
  (G:∀(x y:α) (W:World),Calls P g #[.agg (f x).toArray,.agg (f y).toArray] W fun r w'=>∃m',r= .returned (.int .i64 (cf x y))/\(rI W).le m'/\St m' [] w')
  {a:Option Addr} {l:List α} {cap:Nat} {T:List Value} {e:TypeId} (st:St m (eJ a (bY f l T) e::own) w) (V:OAS a l.length cap k T) (E:l.length<4611686018427387904):
  Calls P (ρ.f 6) #[.slice a l.length cap,.func (.func g) #[] #[]] w fun r w'=>r= .returned (.tuple #[])/\St m (eJ a (bY f (l.mergeSort fun x y=> !(ltOf cf) y x) T) e::own) w':=by
 obtain⟨Y,Z,F⟩:=V
 cases a with
 |none=>
  simp only at F
  have c:l=[]:=jU (by omega)
  subst c
  refine(AnyF.slices_SortFunc_none {L with} none cap (.func (.func g) #[] #[]) w).mono fun r w' h=> ?_
  obtain⟨rfl,rfl⟩:=h
  exact⟨rfl,by simpa using st⟩
 |some p=>
  simp only at F
  obtain⟨K,hT'⟩:=F
  obtain⟨b,o,s⟩:=p
  simp only[Addr.mk.injEq,true_and] at K
  obtain⟨rfl,rfl⟩:=K
  have B:St m (.blk b (.cells (bY f l T) e (0,0))::own) w:=st
  have z:=B.head.1
  have A:=rB z
  have u:=pG q l
  have R:HoldsK f k w b 0 l.toArray:=by
   intro j D
   have hj':j<l.length*k:=by simpa using D
   have c:(bY f l T)[j]? =some (flatK f k l.toArray)[j]! :=by
    simp only[bY,List.getElem?_toArray]
    rw[List.getElem?_append_left (by omega),VA q l j hj']
   refine⟨?_,?_⟩
   .simp only[World.cell?,z,kT]
    simpa using c
   simp[World.frozen?,z]
  refine(AnyQ.slices_SortFunc_total L k aE zE f q M cf S g #[] b 0 cap l.toArray w eg (fun m' os dk _ x y=> ?_) R A (by simpa using E) U).mono fun r w' h=> ?_
  .refine(G x y _).mono fun r w' h=> ?_
   obtain⟨m',rfl,c,st'⟩:=h
   exact⟨rfl,qKu c st'⟩
  obtain⟨rfl,n,os,rfl⟩:=h
  refine⟨rfl,?_⟩
  generalize hl':l.mergeSort (fun x y=> !(ltOf cf) y x)=l'
  have c:l'.length=l.length:=by rw[<-hl'];simp
  have hfl':=pG q l'
  have d:putCells id 0 (flatK f k l'.toArray) (bY f l T)=bY f l' T:=by
   apply Array.ext_getElem?
   intro t
   simp only[putCells,Array.getElem?_mapIdx,bY,List.getElem?_toArray,size_flatK,jO,kT,jZ,true_and,Nat.sub_zero,id]
   by_cases ht:t<l'.length*k
   .rw[List.getElem?_append_left (l₁:=l'.flatMap f) (by omega),VA q l' t ht]
    have:(l.flatMap f++T)[t]? =some ((l.flatMap f++T)[t]'(by simp only[jF];rw[u,<-c];omega)):=by simp
    rw[this]
    simp[ht]
   rw[List.getElem?_append_right (l₁:=l'.flatMap f) (by omega),List.getElem?_append_right (l₁:=l.flatMap f) (by rw[u,<-c];omega),u,hfl',c]
   rw[c] at ht
   simp[ht,c]
  refine(B.set (w':=sortWorldK f k w b 0 n l'.toArray os) (o':= .cells (bY f l' T) e (0,0)) ⟨⟨rfl,rfl⟩,rfl,?_⟩ ?_ ?_:St m (.blk b (.cells (bY f l' T) e (0,0))::own) _)
  .intro _;show w.drawn<=w.drawn+n;omega
  .show((w.heap.modify b (onCells (putCells id 0 (flatK f k l'.toArray))))++os)[b]? =_
   rw[Array.getElem?_append_left (by simpa using A),Array.getElem?_modify,if_pos rfl,z]
   simp only[kG,onCells,d]
  intro j D H
  show((w.heap.modify b (onCells (putCells id 0 (flatK f k l'.toArray))))++os)[j]? =_
  rw[Array.getElem?_append_left (by simpa using D),Array.getElem?_modify,if_neg (Ne.symm H)]
theorem qEs(L:SlLaysF0.n6 P ρ){k:Nat}{f:α->List Value}(aE:∀w,(isAgg (ρ.t 24)).run P w= .ok true w)(zE:∀w,(Go.sizeOf (ρ.t 24)).run P w= .ok k w)(s:∀x,(f x).length=k)(q:∀x,∀v∈f x,v.oneCell'=true)
  (cf:α->α->Int) (c:SWO (ltOf cf)) (g:Nat) (eg:∀args w,(callFunc g args).run P w= .ok (.enter g args) w)
  (n:∀(x y:α) (W:World),Calls P g #[.agg (f x).toArray,.agg (f y).toArray] W fun r w'=>∃m',r= .returned (.int .i64 (cf x y))/\(rI W).le m'/\St m' [] w')
  {a:Option Addr} {l:List α} (F:∀x∈l,∀y∈l,(ltOf cf) x y=false->(ltOf cf) y x=false->x=y) {cap:Nat} {T:List Value} {e:TypeId} (st:St m (eJ a (bY f l T) e::own) w) (u:OAS a l.length cap k T) (p:l.length<4611686018427387904):
  Calls P (ρ.f 6) #[.slice a l.length cap,.func (.func g) #[] #[]] w fun r w'=>r= .returned (.tuple #[])/\St m (eJ a (bY f (l.mergeSort fun x y=> !(ltOf cf) y x) T) e::own) w':=by
 by_cases hl0:l=[]
 .subst hl0
  haveI:Inhabited {x:α//x=default}:=⟨⟨default,rfl⟩⟩
  have:=UC (f:=fun x:{x:α//x=default}=>f x.1) L aE zE (fun x=>s _) (fun x=>q _) (fun x y=>cf x.1 y.1) ⟨fun x=>c.irrefl _,fun x y z=>c.trans _ _ _,fun x y z=>c.ntrans _ _ _⟩
   (fun x y _ _=>Subtype.ext (x.2.trans y.2.symm)) g eg (fun x y W=>n _ _ W) (l:=[]) (a:=a) (cap:=cap) (T:=T) (e:=e) (own:=own) (m:=m) (w:=w) (by simpa[bY] using st) (by simpa using u) (by simp)
  simpa[bY] using this
 haveI:Inhabited {x//x∈l}:=⟨⟨l.head hl0,List.head_mem hl0⟩⟩
 have o:∀k:List {x//x∈l},(k.flatMap fun x=>f x.1)=(k.map Subtype.val).flatMap f:=fun k=>by rw[List.flatMap_map]
 have A:bY (fun x:{x//x∈l}=>f x.1) l.attach T=bY f l T:=by unfold bY;rw[o];simp
 have hO':SWO (ltOf fun x y:{x//x∈l}=>cf x.1 y.1):=⟨fun x=>c.irrefl _,fun x y z=>c.trans _ _ _,fun x y z=>c.ntrans _ _ _⟩
 have:=UC (f:=fun x:{x//x∈l}=>f x.1) L aE zE (fun x=>s _) (fun x=>q _) (fun x y=>cf x.1 y.1) hO' (fun x y d E=>Subtype.ext (F _ x.2 _ y.2 d E)) g eg (fun x y W=>n _ _ W) (l:=l.attach) (a:=a) (cap:=cap) (T:=T) (e:=e) (own:=own) (m:=m) (w:=w)
  (by rw[A];exact st) (by simpa using u) (by simpa using p)
 rw[show(l.attach).length=l.length by simp] at this
 refine this.mono fun r w' h=>⟨h.1,?_⟩
 have d:=h.2
 have B:∀k:List {x//x∈l},bY (fun x:{x//x∈l}=>f x.1) k T=bY f (k.map Subtype.val) T:=fun k=>by unfold bY;rw[o]
 have D:(l.attach.mergeSort fun x y=> !ltOf (fun x y:{x//x∈l}=>cf x.1 y.1) y x).map Subtype.val=(l.attach.map Subtype.val).mergeSort (fun x y=> !(ltOf cf) y x):=List.map_mergeSort (fun a _ b _=>rfl)
 rw[B,D] at d
 simpa using d
end
section
open Go.Proofs Go.Shelf Go.Sort
def nY(l:List BA):List BA:=l.mergeSort fun x y=>decide (x.data.toList<=y.data.toList)
theorem VX(l:List BA):(nY l).length=l.length:=by unfold nY;simp
theorem ZG(x:BA):encStr x.data.toList=Value.string x:=by
 cases x;simp[encStr]
abbrev fS:BA->List Value:=fun x=>[Value.string x]
theorem QD(l:List BA)(T:List Value)(j:Nat)(c:j<l.length):(bY fS l T)[j]? =some (Value.string l[j]):=by
 simp only[bY,List.getElem?_toArray]
 have a:=vM (f:=fS) (k:=1) (fun _=>rfl) l j l[j] 0 (by simp) (by decide)
 have b:=pG (f:=fS) (k:=1) (fun _=>rfl) l
 rw[List.getElem?_append_left (by omega)]
 simpa using a
variable {P:Program} {ρ:Ren} {m:Mem} {own:List Piece} {w:World}
theorem qGd(L:Lays.n190 P ρ){a:Option Addr}{l:List BA}{cap:Nat}{T:List Value}{e:TypeId}(st:St m (eJ a (bY fS l T) e::own) w)(K:OAS a l.length cap 1 T)(A:l.length<4611686018427387904):
  Calls P (ρ.f 190) #[.slice a l.length cap] w fun r w'=>r= .returned (.tuple #[])/\St m (eJ a (bY fS (nY l) T) e::own) w':=by
 obtain⟨M,R,B⟩:=K
 cases a with
 |none=>
  simp only at B
  have c:l=[]:=jU (by omega)
  subst c
  refine(Any.slices_Sort_string_none L none cap w).mono fun r w' h=> ?_
  obtain⟨rfl,rfl⟩:=h
  exact⟨rfl,by simpa[nY] using st⟩
 |some p=>
  simp only at B
  obtain⟨E,hT'⟩:=B
  obtain⟨b,o,s⟩:=p
  simp only[Addr.mk.injEq,true_and] at E
  obtain⟨rfl,rfl⟩:=E
  have z:St m (.blk b (.cells (bY fS l T) e (0,0))::own) w:=st
  have q:=z.head.1
  have v:=rB q
  have H:Holds encStr w b 0 (l.map (·.data.toList)).toArray:=by
   intro j u
   have hj':j<l.length:=by simpa using u
   refine⟨?_,?_⟩
   .simp only[World.cell?,q,kT]
    rw[QD l T j hj',getElem!_pos _ j u]
    simp[ZG]
   simp[World.frozen?,q]
  have:=Any.slices_Sort_string L b 0 cap (l.map (·.data.toList)) w H v (by simpa using A)
  rw[kU] at this
  refine this.mono fun r w' h=> ?_
  obtain⟨rfl,n,os,rfl⟩:=h
  refine⟨rfl,?_⟩
  have D:(l.map (·.data.toList)).mergeSort (fun x y=>decide (x<=y))=(nY l).map (·.data.toList):=by
   unfold nY
   rw[List.map_mergeSort (s:=fun x y=>decide (x<=y))]
   intro a _ b _
   rfl
  rw[D]
  have g:=VX l
  generalize nY l=l' at g
  have d:putCells encStr 0 (l'.map (·.data.toList)).toArray (bY fS l T)=bY fS l' T:=by
   apply Array.ext_getElem?
   intro t
   simp only[putCells,Array.getElem?_mapIdx,kT,jZ,true_and,Nat.sub_zero,jO,kU]
   by_cases ht:t<l.length
   .have c:t<l'.length:=by omega
    rw[QD l T t ht,QD l' T t c]
    simp only[kG,if_pos c]
    rw[getElem!_pos _ t (by simpa using c)]
    simp[ZG]
   have c:¬t<l'.length:=by omega
   simp only[bY,List.getElem?_toArray]
   have F:=pG (f:=fS) (k:=1) (fun _=>rfl) l
   have G:=pG (f:=fS) (k:=1) (fun _=>rfl) l'
   rw[List.getElem?_append_right (by omega),List.getElem?_append_right (by omega),F,G,g]
   simp[ht,g]
  refine(z.set (w':=grow (putRow encStr (Sort.ahead w n) b 0 (l'.map (·.data.toList)).toArray) os) (o':= .cells (bY fS l' T) e (0,0)) ⟨⟨rfl,rfl⟩,rfl,?_⟩ ?_ ?_:St m (.blk b (.cells (bY fS l' T) e (0,0))::own) _)
  .intro _;show w.drawn<=w.drawn+n;omega
  .show((w.heap.modify b (onCells (putCells encStr 0 (l'.map (·.data.toList)).toArray)))++os)[b]? =_
   rw[Array.getElem?_append_left (by simpa using v),Array.getElem?_modify,if_pos rfl,q]
   simp only[kG,onCells,d]
  intro j u c
  show((w.heap.modify b (onCells (putCells encStr 0 (l'.map (·.data.toList)).toArray)))++os)[j]? =_
  rw[Array.getElem?_append_left (by simpa using u),Array.getElem?_modify,if_neg (Ne.symm c)]
end
section
open Go.Proofs Go.Shelf Go.Sort
structure Lin{α:Type}(c:α->α->Int):Prop where
 zero:∀x y,c x y=0↔x=y
 anti:∀x y,c x y<0↔0<c y x
 trans:∀x y z,c x y<0->c y z<0->c x z<0
theorem Lin.swo{α:Type}{c:α->α->Int}(h:Lin c):SWO (ltOf c) where
 irrefl x:=by simp only[ltOf,decide_eq_false_iff_not];have:=(h.zero x x).2 rfl;omega
 trans x y z h1 h2:=by simp only[ltOf,j6] at*;exact h.trans x y z h1 h2
 ntrans x y z h1 h2:=by
  simp only[ltOf,decide_eq_false_iff_not] at*
  intro a
  have g:=h.anti x y;have b:=h.anti y x;have k:=h.anti y z;have d:=h.anti z y
  by_cases e1:c x y=0
  .rw[(h.zero x y).1 e1] at a;exact h2 a
  by_cases e2:c y z=0
  .rw[<-(h.zero y z).1 e2] at a;exact h1 a
  have e:c y x<0:=b.2 (by omega)
  have f:c z y<0:=d.2 (by omega)
  have l:=h.trans z y x f e
  have:=(h.anti x z).1 a
  omega
theorem qKg{α β:Type}{c:β->β->Int}(h:SWO (ltOf c))(g:α->β):SWO (ltOf fun x y=>c (g x) (g y)):=⟨fun _=>h.irrefl _,fun _ _ _=>h.trans _ _ _,fun _ _ _=>h.ntrans _ _ _⟩
def nO(x y:Int):Int:=if x<y then-1 else if x>y then 1 else 0
theorem cmpI_lin:Lin nO where
 zero x y:=by unfold nO;split<;>(try split)<;>omega
 anti x y:=by unfold nO;repeat' split<;>omega
 trans x y z:=by unfold nO;repeat' split<;>omega
def pP{α β:Type}(c:α->α->Int)(d:β->β->Int)(x y:α×β):Int:=if c x.1 y.1≠0 then c x.1 y.1 else d x.2 y.2
theorem PB{α β:Type}{c:α->α->Int}{d:β->β->Int}(a:Lin c)(l:Lin d):Lin (pP c d) where
 zero x y:=by
  have b:=a.zero x.1 y.1;have f:=l.zero x.2 y.2
  unfold pP
  split
  .rename_i h;exact⟨fun g=>absurd g h,fun g=>absurd (b.2 (by rw[g])) h⟩
  rename_i h
  have h:=b.1 (Decidable.of_not_not h)
  rw[f];exact⟨fun g=>Prod.ext h g,fun g=>by rw[g]⟩
 anti x y:=by
  have b:=a.anti x.1 y.1;have f:=l.anti x.2 y.2;have k:=a.zero x.1 y.1;have n:=a.zero y.1 x.1
  unfold pP
  by_cases e:x.1=y.1
  .rw[if_neg (by rw[ne_eq,Decidable.not_not,k];exact e),if_neg (by rw[ne_eq,Decidable.not_not,n];exact e.symm)];exact f
  rw[if_pos (fun g=>e (k.1 g)),if_pos (fun g=>e (n.1 g).symm)];exact b
 trans x y z g1 g2:=by
  have b:=a.zero x.1 y.1;have f:=a.zero y.1 z.1;have k:=a.zero x.1 z.1
  unfold pP at*
  by_cases e1:x.1=y.1
  .rw[if_neg (by rw[ne_eq,Decidable.not_not,b];exact e1)] at g1
   by_cases e2:y.1=z.1
   .rw[if_neg (by rw[ne_eq,Decidable.not_not,f];exact e2)] at g2
    rw[if_neg (by rw[ne_eq,Decidable.not_not,k];exact e1.trans e2)]
    exact l.trans _ _ _ g1 g2
   rw[if_pos (fun g=>e2 (f.1 g))] at g2
   rw[if_pos (fun g=>e2 (e1.symm.trans (k.1 g))),e1];exact g2
  rw[if_pos (fun g=>e1 (b.1 g))] at g1
  by_cases e2:y.1=z.1
  .rw[if_pos (fun g=>e1 ((k.1 g).trans e2.symm)),<-e2];exact g1
  rw[if_pos (fun g=>e2 (f.1 g))] at g2
  have n:=a.trans _ _ _ g1 g2
  rw[if_pos (by omega)];exact n
def lJ:List UInt8->List UInt8->Int
 |[],[]=>0
 |[],_::_=> -1
 |_::_,[]=>1
 |x::l,y::k=>if x=y then lJ l k else if x<y then-1 else 1
theorem QN(x y:UInt8):x<y↔x.toNat<y.toNat:=Iff.rfl
theorem qOl{x y:UInt8}(h:x.toNat=y.toNat):x=y:=UInt8.toNat_inj.1 h
theorem cmpL_lin:Lin lJ where
 zero:=by
  intro l
  induction l with
  |nil=>intro k;cases k<;>simp[lJ]
  |cons x l c=>
   intro k
   cases k with
   |nil=>simp[lJ]
   |cons y k=>
    simp only[lJ]
    by_cases h:x=y
    .rw[if_pos h,c k,h];simp
    rw[if_neg h];split<;>simp[h]
 anti:=by
  intro l
  induction l with
  |nil=>intro k;cases k<;>simp[lJ]
  |cons x l c=>
   intro k
   cases k with
   |nil=>simp[lJ]
   |cons y k=>
    simp only[lJ]
    by_cases h:x=y
    .rw[if_pos h,if_pos h.symm];exact c k
    rw[if_neg h,if_neg (Ne.symm h)]
    have:¬x.toNat=y.toNat:=fun e=>h (qOl e)
    simp only[QN]
    split<;>split<;>omega
 trans:=by
  intro l
  induction l with
  |nil=>intro k m b a;cases k<;>cases m<;>simp[lJ] at*
  |cons x l c=>
   intro k m b a
   cases k with
   |nil=>simp[lJ] at b
   |cons y k=>
    cases m with
    |nil=>simp[lJ] at a
    |cons z m=>
     simp only[lJ,QN] at*
     by_cases e1:x=y
     .subst e1
      rw[if_pos rfl] at b
      by_cases e2:x=z
      .rw[if_pos e2] at a ⊢;exact c k m b a
      rw[if_neg e2] at a ⊢;exact a
     rw[if_neg e1] at b
     have d:x.toNat<y.toNat:=by
      by_cases g:x.toNat<y.toNat
      .exact g
      rw[if_neg g] at b;omega
     by_cases e2:y=z
     .subst e2;rw[if_neg e1,if_pos d];omega
     rw[if_neg e2] at a
     have f:y.toNat<z.toNat:=by
      by_cases g:y.toNat<z.toNat
      .exact g
      rw[if_neg g] at a;omega
     rw[if_neg (fun e=>by rw[e] at d;omega),if_pos (by omega)];omega
def DB(l k:List UInt8):Int:=match(List.range (min l.length k.length)).find? fun i=>l.getD i 0 !=k.getD i 0 with
 |some i=>if l.getD i 0<k.getD i 0 then-1 else 1
 |none=>if l.length<k.length then-1 else if l.length>k.length then 1 else 0
theorem ZH:∀l k:List UInt8,DB l k=lJ l k
 |[],[]=>by simp[DB,lJ]
 |[],_::_=>by simp[DB,lJ]
 |_::_,[]=>by simp[DB,lJ]
 |x::l,y::k=>by
  have b:=ZH l k
  unfold DB at b ⊢
  rw[show min (x::l).length (y::k).length=min l.length k.length+1 by simp only[jA];omega,List.range_succ_eq_map,List.find?_cons]
  by_cases h:x=y
  .subst h
   have a:((x::l).getD 0 0 !=(x::k).getD 0 0)=false:=by simp
   rw[a]
   simp only[List.find?_map,Function.comp_def,lJ,jE]
   rw[<-b]
   have c:(fun i=>(x::l).getD (Nat.succ i) 0 !=(x::k).getD (Nat.succ i) 0)=fun i=>l.getD i 0 !=k.getD i 0:=by
    funext i;simp
   rw[c]
   cases(List.range (min l.length k.length)).find? fun i=>l.getD i 0 !=k.getD i 0 with
   |none=>simp
   |some i=>simp
  have a:((x::l).getD 0 0 !=(y::k).getD 0 0)=true:=by simpa using h
  rw[a]
  simp[lJ,h]
theorem qJo(a:BA)(i:Nat):a[i]! =a.data.toList.getD i 0:=by
 by_cases h:i<a.size
 .have b:i<a.data.toList.length:=by simpa using h
  rw[getElem!_pos a i h,kP,List.getElem?_eq_getElem b]
  simp
  rfl
 have b:¬i<a.data.toList.length:=by simpa using h
 rw[getElem!_neg a i h,kP,List.getElem?_eq_none (by omega)]
 rfl
theorem HJ(a b:BA):pM a b=lJ a.data.toList b.data.toList:=by
 rw[<-ZH]
 have c:a.data.toList.length=a.size:=by simp
 have d:b.data.toList.length=b.size:=by simp
 unfold pM DB
 rw[c,d]
 simp only[qJo]
 all_goals (generalize List.find? (fun i=>a.data.toList.getD i 0 !=b.data.toList.getD i 0) (List.range (min a.size b.size))=o;cases o<;>rfl)
theorem cmpS_lin:Lin pM where
 zero x y:=by
  rw[HJ,cmpL_lin.zero]
  exact⟨fun h=>by cases x;cases y;simp at h;subst h;rfl,fun h=>by rw[h]⟩
 anti x y:=by rw[HJ,HJ];exact cmpL_lin.anti _ _
 trans x y z h1 h2:=by rw[HJ] at*;exact cmpL_lin.trans _ _ _ h1 h2
end
section
def uO{α:Type}(o:Option α):Option Unit:=o.map fun _=>()
theorem MapQ.at{κ ν:Type}{ek:κ->Value}{c:Codec ν}{agg:Bool}{m:Mem}{q:Option Nat}{es:Array MapEntry}{ck:Nat}{o:Option (List (κ×ν))}(h:MapQ ek c agg m q es ck o){u:Unit}(a:uO o=some u):∃b,q=some b:=by
 cases q with
 |none=>
  have h:o=none:=h
  subst h
  cases a
 |some b=>exact⟨b,rfl⟩
section
variable {P:Program} {n:Fr} {ops:Array Oper} {Q:Exit->Act->World->Prop} {L:bP} {w:World} {ch:List PanicEntry}
theorem cE{K:Act->World->Prop}(h:X n Q (.panic ch) L w):X n (Exit.then K Q) (.panic ch) L w:=h
theorem eX{id:Nat}(h:X n Q (.panic ch) L w):X n (Exit.inBlock id Q) (.panic ch) L w:=h
theorem dI{k:Nat}{fn:Func}{R:Ending->World->Prop}(h:R (.panicked ch) w):X ⟨k,[]⟩ (bodyPost P fn R) (.panic ch) L w:=fun _ a=>⟨a.2.1,h⟩
variable {N:bP->World->Prop}
theorem CH{i:Nat}(d f:Nat)(args:Array Value)(q:rW P ops L i=some (some d,f,args))(k:Nat.blt d n=true)
  (h:Calls P f args w fun e w'=>(∃v,e= .returned v/\N ((d,v)::L) w')\/∃ch,e= .panicked ch/\X n Q (.panic ch) L w'):dX P n ops Q i N L w:=by
 obtain⟨o,c,g,r,p,l⟩:=TX q
 intro a b
 unfold mV
 simp only[c,b.wanted r,jE]
 rw[b.exec p,vU l w,Oper.uponIn_enter]
 refine⟨fun e=>by simp[Fence.wide] at e,CallsIn.mono (callsIn_wide.2 h) ?_⟩
 rintro e w' (⟨v,rfl,hk'⟩|⟨ch,rfl,hk'⟩)
 .rw[g];exact⟨_,b.put k v,hk'⟩
 exact hk' _ b
theorem qJc{i:Nat}{x:Operand}{T:TypeId}{v:Value}(k:cX ops L i=some (none,.panic x))(l:bU L x=some (.iface T v))
  (h:X n Q (.panic [{v:= .iface T v,recovered:=false}]) L w):dX P n ops Q i N L w:=by
 obtain⟨o,d,p,e,f,g⟩:=GZ k
 intro a b
 unfold mV
 simp only[d,b.wanted f,jE]
 rw[b.exec g]
 have c:(execOp (lU L) o).run P w= .halt (.panic (.iface T v)) w:=by
  simp[execOp,e,cI l,Instr.panic]
 rw[c]
 exact h _ b
end
section
variable {P:Program} {n:Fr} {ops:Array Oper} {Q:Exit->Act->World->Prop} {L:bP} {w:World} {i:Nat}
theorem qKm{f:FuncId}{fn:Func}{c:Code}{args:Array Value}{R:Ending->World->Prop}(e:P.funcs[f]? =some fn)(d:fn.body=some c){k:Nat}(g:fn.ntmps=k)(L:bP)
  (b:L.map (fun p=>(args[p.1]?))=L.map fun p=>some p.2) (a:Nat.ble args.size k=true) (h:W none P ⟨k,[]⟩ c (bodyPostD P fn R) L w):Calls P f args w R:=by
 refine calls_of_wp_defers e d (wpIn_wide.1 (h _ ⟨?_,rfl,?_⟩))
 .subst g
  have:args.size<=fn.ntmps:=kV a
  simp only[dA,Array.size_replicate];omega
 intro t v n
 have:=(fD.1 b) (t,v) (vN n)
 have l:t<args.size:=(Array.getElem?_eq_some_iff.1 this).1
 simp only[Array.getElem?_append,l,jE]
 exact this
def PQ(P:Program)(ops:Array Oper)(L:bP)(i:Nat):Option (Option Nat×Deferred):=
 match ops[i]? with
 |none=>none
 |some o=>match mG ops L o.guard with
  |some true=>bif nA L o.op then(match oZ P (execOp (lU L) o) with
   |some (.defer d)=>some (o.dst,d)
   |_=>none) else none
  |_=>none
theorem qEr{d:Option Nat}{x:Deferred}(h:PQ P ops L i=some (d,x)):
  ∃o,ops[i]? =some o/\o.dst=d/\mG ops L o.guard=some true/\nA L o.op=true/\oZ P (execOp (lU L) o)=some (.defer x):=by
 unfold PQ at h
 cases e:ops[i]? with
 |none=>simp[e] at h
 |some o=>
  simp only[e] at h
  cases a:mG ops L o.guard with
  |none=>simp[a] at h
  |some b=>
   cases b with
   |false=>simp[a] at h
   |true=>
    simp only[a] at h
    cases c:nA L o.op with
    |false=>simp[c] at h
    |true=>
     simp only[c,cond_true] at h
     split at h
     .rename_i f' he
      simp only[jG,Prod.mk.injEq] at h
      obtain⟨f,rfl⟩:=h
      exact⟨o,rfl,f,a,c,he⟩
     cases h
theorem qKj(x:Deferred)(hi:Nat.blt i ops.size=true)(g:PQ P ops L i=some (none,x))(h:WO P ⟨n.sz,x::n.marks⟩ ops Q (i+1) L w):WO P n ops Q i L w:=by
 obtain⟨o,c,d,k,f,e⟩:=qEr g
 intro a b
 rw[GT c,wF]
 unfold mV
 simp only[c,b.wanted k,jE]
 rw[b.exec f,vU e w,Oper.uponIn_defer,d]
 exact h _ ⟨b.1,congrArg (x:: ·) b.2.1,b.2.2⟩
def noP(Q:Exit->Act->World->Prop):Exit->Act->World->Prop
 | .panic _,_,_=>False
 |e,a,w=>Q e a w
theorem LU{ρ:Option Nat}{y:Code}{Q':Exit->Act->World->Prop}(h:W ρ P n y Q L w):X n (Exit.then (fun a w=>y.wpIn (mO ρ) 0 P Q a w) Q') .normal L w:=h
theorem qIh(h:X n Q .ret L w):X n (noP Q) .ret L w:=h
theorem ME{ρ:Option Nat}{x y:Code}(h:W ρ P n x (Exit.then (fun a w=>y.wpIn (mO ρ) 0 P Q a w) (noP Q)) L w):W ρ P n (.seq x y) Q L w:=fun a d=>by
 refine wpIn_seq (wpIn_mono (h a d) ?_)
 intro e a' w' b
 cases e with
 |panic c=>exact b.elim
 |_=>exact b
theorem qNs{k:Nat}{fn:Func}{R:Ending->World->Prop}(rvs:List ResultVar)(vs:List Value)(e:fn.results=rvs.toArray)(f:ResAll P w L rvs vs)(h:R (.returned (tZ vs)) w):X ⟨k,[]⟩ (bodyPostD P fn R) .ret L w:=by
 intro a d
 obtain⟨b,c⟩:=CW (P:=P) (fn:=fn) (R:=R) rvs vs e f h a d
 show Leaves P fn a.tmps R a.defers .returning w
 rw[b]
 exact c
theorem qNw{k g:Nat}{cap:Array Value}{fn:Func}{R:Ending->World->Prop}(rvs:List ResultVar)(d:fn.results=rvs.toArray)(l:∀args w,(callFunc g args).run P w= .ok (.enter g args) w)
  (h:CallsD P g (#[]++cap) .returning w fun e u w'=>u= .returning/\∃v,e= .returned v/\∃vs,ResAll P w' L rvs vs/\R (.returned (tZ vs)) w'):
  X ⟨k,[{target:= .fn (.func g) cap,args:= #[]}]⟩ (bodyPostD P fn R) .ret L w:=by
 intro a b
 show Leaves P fn a.tmps R a.defers .returning w
 rw[b.2.1]
 refine leaves_cons (by simp) (f:=g) (args:= #[]++cap) (by simp only[invoke];exact l _ _) (h.mono ?_)
 rintro e u w' ⟨rfl,v,rfl,vs,n,c⟩
 obtain⟨_,v',o,hR'⟩:=CW (P:=P) (k:=a.tmps.size) (fn:=fn) (R:=R) rvs vs d n c {a with defers:=[]} ⟨rfl,rfl,b.2.2⟩
 exact⟨v',o,hR'⟩
theorem qNd{k g:Nat}{cap:Array Value}{fn:Func}{z:Value}{R:Ending->World->Prop}(rvs:List ResultVar)(d:fn.results=rvs.toArray)(l:∀args w,(callFunc g args).run P w= .ok (.enter g args) w)
  (h:CallsD P g (#[]++cap) (.panicking [{v:=z,recovered:=false}]) w fun e u w'=>u= .panicking [{v:=z,recovered:=true}]/\∃v,e= .returned v/\∃vs,ResAll P w' L rvs vs/\R (.returned (tZ vs)) w'):
  X ⟨k,[{target:= .fn (.func g) cap,args:= #[]}]⟩ (bodyPostD P fn R) (.panic [{v:=z,recovered:=false}]) L w:=by
 intro a b
 show Leaves P fn a.tmps R a.defers (.panicking [{v:=z,recovered:=false}]) w
 rw[b.2.1]
 refine leaves_cons (by simp) (f:=g) (args:= #[]++cap) (by simp only[invoke];exact l _ _) (h.mono ?_)
 rintro e u w' ⟨rfl,v,rfl,vs,n,c⟩
 obtain⟨_,v',o,hR'⟩:=CW (P:=P) (k:=a.tmps.size) (fn:=fn) (R:=R) rvs vs d n c {a with defers:=[]} ⟨rfl,rfl,b.2.2⟩
 exact⟨v',o,hR'⟩
def QQ(P:Program)(ops:Array Oper)(L:bP)(i:Nat):Option Nat:=
 match ops[i]? with
 |none=>none
 |some o=>match mG ops L o.guard with
  |some true=>bif nA L o.op then(match oZ P (execOp (lU L) o) with
   |some .recover=>o.dst
   |_=>none) else none
  |_=>none
theorem qHi{d:Nat}(h:QQ P ops L i=some d):
  ∃o,ops[i]? =some o/\o.dst=some d/\mG ops L o.guard=some true/\nA L o.op=true/\oZ P (execOp (lU L) o)=some .recover:=by
 unfold QQ at h
 cases e:ops[i]? with
 |none=>simp[e] at h
 |some o=>
  simp only[e] at h
  cases a:mG ops L o.guard with
  |none=>simp[a] at h
  |some b=>
   cases b with
   |false=>simp[a] at h
   |true=>
    simp only[a] at h
    cases c:nA L o.op with
    |false=>simp[c] at h
    |true=>
     simp only[c,cond_true] at h
     split at h
     .rename_i he;exact⟨o,rfl,h,a,c,he⟩
     cases h
theorem PN{QS:Exit->Act->List Frame->World->Prop}{cs:List Frame}:∀(k i:Nat) (L L':bP) (w:World),qT P n ops k i L=some L'->
  (∀a,Fits n a L'->wpOpsS P ops QS (List.range' (i+k) (ops.size-(i+k))) a cs w)->∀a,Fits n a L->wpOpsS P ops QS (List.range' i (ops.size-i)) a cs w
 |0,i,L,L',w,h,g=>by simp[qT] at h;subst h;exact g
 |k+1,i,L,L',w,h,g=>by
  intro a f
  simp only[qT] at h
  cases l:ops[i]? with
  |none=>simp[l] at h
  |some o=>
   simp only[l] at h
   rw[GT l]
   simp only[wpOpsS,l]
   cases q:mG ops L o.guard with
   |none=>simp[q] at h
   |some b=>
    have c:=f.wanted q
    cases b with
    |false=>
     simp only[q] at h
     obtain⟨L1,r,s⟩:=jH.1 h
     simp only[c,j9,jC]
     exact PN k (i+1) L1 L' w s (by rw[fI,fP 1 k];exact g) _ (f.putL r)
    |true=>
     simp only[q] at h
     cases e:nA L o.op with
     |false=>simp[e] at h
     |true=>
      simp only[e,cond_true] at h
      obtain⟨v,p,h⟩:=jH.1 h
      obtain⟨L1,r,s⟩:=jH.1 h
      simp only[c,jE]
      have next:=PN k (i+1) L1 L' w s (by rw[fI,fP 1 k];exact g) _ (f.putL r)
      rw[f.exec e]
      cases d:oZ P (execOp (lU L) o) with
      |none=>simp[d,IY] at p
      |some nx=>
       rw[vU d w]
       cases nx<;>simp[d,IY] at p
       case value u=>subst p;exact next
       case skip=>subst p;exact next
theorem qHv{fn:Func}{args:Array Value}{k:Nat}(c:fn.ntmps=k)(b:L.map (fun p=>(args[p.1]?))=L.map fun p=>some p.2)(a:Nat.ble args.size k=true):
  Fits ⟨k,[]⟩ {tmps:=args++Array.replicate (fn.ntmps-args.size) undef,defers:=[]} L:=by
 refine⟨?_,rfl,?_⟩
 .subst c
  have:args.size<=fn.ntmps:=kV a
  simp only[dA,Array.size_replicate];omega
 intro t v e
 have:=(fD.1 b) (t,v) (vN e)
 have d:t<args.size:=(Array.getElem?_eq_some_iff.1 this).1
 simp only[Array.getElem?_append,d,jE]
 exact this
def IB:FrameMode->Value×FrameMode
 | .panicking ({v,recovered:=false,goexit:=false}::older)=>(v,.panicking ({v,recovered:=true}::older))
 |u=>(.nilIface,u)
theorem UM{g:FuncId}{fn:Func}{id:Nat}{rest:Code}{args:Array Value}{R:Ending->World->Prop}(u:FrameMode)(H:P.funcs[g]? =some fn)(F:fn.body=some (.seq (.region id ops false) rest)){k:Nat}(M:fn.ntmps=k)(L:bP)
  (E:L.map (fun p=>(args[p.1]?))=L.map fun p=>some p.2) (A:Nat.ble args.size k=true) {d:Nat} (S:QQ P ops L 0=some d) (z:Nat.blt d k=true) (L':bP) (v:Value) (u':FrameMode) (hu':IB u=(v,u'))
  (U:qT P k ops (ops.size-1) 1 ((d,v)::L)=some L')
  (h:W none P ⟨k,[]⟩ rest (bodyPost P fn R) L' w):CallsD P g args u w fun e b w'=>b=u'/\R e w':=by
 refine callsD_of_wpS H F fun c₀ cs V=> ?_
 apply wpS_seq
 apply wpS_region
 have f:Fits ⟨k,[]⟩ _ L:=qHv M E A
 revert f
 generalize ({tmps:=args++Array.replicate (fn.ntmps-args.size) undef,defers:=[]}:Act)=a
 intro f
 obtain⟨o,t,x,Y,K,G⟩:=qHi S
 have D:List.range ops.size=List.range' 0 (ops.size-0):=by rw[List.range_eq_range',Nat.sub_zero]
 rw[D,GT t]
 simp only[wpOpsS,t,f.wanted Y,jE]
 rw[f.exec K,vU G w]
 have c:∀cs',(∃b,b=u'/\cs'={c₀ with mode:=b}::cs)->∀a,Fits ⟨k,[]⟩ a ((d,v)::L)->wpOpsS P ops (Exit.thenS (rest.wpS P (bodyPostS P fn c₀ cs fun e b w'=>b=u'/\R e w')) (bodyPostS P fn c₀ cs fun e b w'=>b=u'/\R e w')) (List.range' (0+1) (ops.size-(0+1))) a cs' w:=by
  rintro cs' ⟨b,rfl,rfl⟩
  refine PN _ 1 _ _ w U ?_
  intro B y
  have:ops.size-(1+(ops.size-1))=0:=by omega
  rw[this]
  simp only[List.range'_zero,wpOpsS,Exit.thenS]
  refine wpS_of_wp (wpIn_wide.1 (wpIn_mono (h B y) ?_))
  intro e Z w2 l
  cases e with
  |normal=>obtain⟨n,q,r,s⟩:=l;exact⟨n,_,rfl,q,r,rfl,s⟩
  |ret=>obtain⟨n,q,r,s⟩:=l;exact⟨n,_,rfl,q,r,rfl,s⟩
  |panic ch=>obtain⟨n,q⟩:=l;exact⟨n,_,rfl,rfl,q⟩
  |outgrown=>exact⟨_,rfl,l⟩
  |exit _=>exact l.elim
  |goto _=>exact l.elim
 subst V
 have key:recoverD (c₀::cs)=(match IB c₀.mode with|(v,b)=>match c₀.mode with
   | .panicking ({v:=_,recovered:=false,goexit:=false}::_)=>some (v,{c₀ with mode:=b}::cs)
   |_=>none):=by
  unfold recoverD IB
  dsimp only
  split<;>simp_all
 rw[key,hu']
 dsimp only
 split
 .rename_i v1 cs1 hm
  split at hm
  .obtain⟨rfl,rfl⟩:=Prod.mk.inj (jD hm)
   rw[x]
   exact c _ ⟨_,rfl,rfl⟩ _ (f.put z v)
  cases hm
 rename_i hm
 have l:IB c₀.mode=(.nilIface,c₀.mode):=by
  unfold IB
  split
  .rename_i hc;rw[hc] at hm;cases hm
  rfl
 rw[l] at hu'
 obtain⟨rfl,rfl⟩:=Prod.mk.inj hu'
 rw[x]
 exact c _ ⟨_,rfl,by cases c₀;rfl⟩ _ (f.put z _)
end
theorem Mem.le.t{a b c:Mem}(h:a.le b)(k:b.le c):a.le c:=Mem.le_trans h k
theorem sI{α:Type}{a b:α}(h:some a=some b):a=b:=jD h
abbrev GoOn(K:Value->Prop):Ending->Prop
 | .returned v=>K v
 |_=>False
abbrev GoOnF(K:Value->Prop)(F:List PanicEntry->Prop):Ending->Prop
 | .returned v=>K v
 | .panicked ch=>F ch
 |_=>False
theorem GoOn.out{K:Value->Prop}{e:Ending}(h:GoOn K e):∃v,e= .returned v/\K v:=by
 cases e<;>first|exact⟨_,rfl,h⟩|exact h.elim
theorem GoOnF.out{K:Value->Prop}{F:List PanicEntry->Prop}{e:Ending}(h:GoOnF K F e):(∃v,e= .returned v/\K v)\/∃ch,e= .panicked ch/\F ch:=by
 cases e<;>first|exact .inl ⟨_,rfl,h⟩|exact .inr ⟨_,rfl,h⟩|exact h.elim
section
variable {ρ:Option Nat} {P:Program} {n:Fr} {ops:Array Oper} {Q:Exit->Act->World->Prop} {i:Nat} {L:bP} {w:World} {m:Mem} {own:List Piece} {N:bP->World->Prop}
theorem qLp{α β:Type}{f:Nat}{args:Array Value}{x:Option β}{k:β->Option α}{r:α}{T:β->Ending->World->Prop}(d:Nat)(o:x.bind k=some r)(c:∀y,x=some y->Calls P f args w (T y))
  (h:∀y,k y=some r->∀e w',T y e w'->GoOn (fun v=>N ((d,v)::L) w') e) (l:rW P ops L i=some (some d,f,args):=by kernel_rfl) (g:Nat.blt d n=true:=by exact rfl):dX P n ops Q i N L w:=by
 obtain⟨y,a,b⟩:=jH.1 o
 exact mH d f args l g ((c y a).mono fun e w' p=>(h y b e w' p).out)
theorem cL{α β:Type}{f:Nat}{args:Array Value}{x:Option β}{k:β->Option α}{r:α}{T:β->Ending->World->Prop}(d:Nat)(o:x.bind k=some r)(c:∀y,x=some y->Calls P f args w (T y))
  (h:∀y,k y=some r->∀e w',T y e w'->∃v,e= .returned v/\N ((d,v)::L) w') (l:rW P ops L i=some (some d,f,args):=by kernel_rfl) (g:Nat.blt d n=true:=by exact rfl):dX P n ops Q i N L w:=by
 obtain⟨y,a,b⟩:=jH.1 o
 exact mH d f args l g ((c y a).mono fun e w' p=>h y b e w' p)
theorem qNm{α β:Type}{f:Nat}{args:Array Value}{x:Option β}{k:β->Option α}{r:α}{T:β->Ending->World->Prop}(d:Nat)(g:x.bind k=some r)(a:∀y,x=some y->Calls P f args w (T y))
  (h:∀y,k y=some r->∀e w',T y e w'->GoOn (fun v=>WO P n ops Q (i+1) ((d,v)::L) w') e) (c:rW P ops L i=some (some d,f,args):=by kernel_rfl) (b:Nat.blt d n=true:=by exact rfl) (hi:Nat.blt i ops.size=true:=by exact rfl):WO P n ops Q i L w:=
 bQ hi (qLp d g a h c b)
theorem qKn{α β:Type}{f:Nat}{args:Array Value}{x:Option β}{k:β->Option α}{r:α}{T:β->Ending->World->Prop}(d:Nat)(o:x.bind k=some r)(c:∀y,x=some y->Calls P f args w (T y))
  (h:∀y,k y=some r->∀e w',T y e w'->GoOnF (fun v=>N ((d,v)::L) w') (fun ch=>X n Q (.panic ch) L w') e) (l:rW P ops L i=some (some d,f,args):=by kernel_rfl) (g:Nat.blt d n=true:=by exact rfl):dX P n ops Q i N L w:=by
 obtain⟨y,a,b⟩:=jH.1 o
 exact CH d f args l g ((c y a).mono fun e w' p=>(h y b e w' p).out)
theorem qLm{α β:Type}{f:Nat}{args:Array Value}{x:Option β}{k:β->Option α}{r:α}{T:β->Ending->World->Prop}(d:Nat)(g:x.bind k=some r)(a:∀y,x=some y->Calls P f args w (T y))
  (h:∀y,k y=some r->∀e w',T y e w'->GoOnF (fun v=>WO P n ops Q (i+1) ((d,v)::L) w') (fun ch=>X n Q (.panic ch) L w') e) (c:rW P ops L i=some (some d,f,args):=by kernel_rfl) (b:Nat.blt d n=true:=by exact rfl) (hi:Nat.blt i ops.size=true:=by exact rfl):WO P n ops Q i L w:=
 bQ hi (qKn d g a h c b)
def CO:List Value->Nat->bP
 |[],_=>[]
 |v::l,k=>(k,v)::CO l (k+1)
theorem WW:∀(l:List Value) (k:Nat) (pre:List Value),pre.length=k->(CO l k).map (fun p=>((pre++l).toArray[p.1]?))=(CO l k).map fun p=>some p.2
 |[],_,_,_=>rfl
 |v::l,k,pre,h=>by
  simp only[CO,kJ]
  have a:=WW l (k+1) (pre++[v]) (by simp[h])
  rw[show pre++[v]++l=pre++v::l by simp] at a
  rw[a]
  congr 1
  subst h
  simp
theorem bH{f:FuncId}{fn:Func}{c:Code}{args:Array Value}{R:Ending->World->Prop}{k:Nat}(d:P.funcs[f]? =some fn)(b:fn.body=some c)(e:fn.ntmps=k)(h:W none P ⟨k,[]⟩ c (bodyPost P fn R) (CO args.toList 0) w)
  (a:Nat.ble args.size k=true:=by exact rfl):Calls P f args w R:=
 qLz d b e (CO args.toList 0) (by have:=WW args.toList 0 [] rfl;simpa using this) a h
theorem aI{α:Type}{c:Operand}{x y:Code}{b:Bool}{A B:Option α}{r:α}(a:(if b=true then A else B)=some r)
  (f:b=true->A=some r->W ρ P n x Q L w) (e:b=false->B=some r->W ρ P n y Q L w) (d:bU L c=some (.bool b):=by kernel_rfl):W ρ P n (.cond c x y) Q L w:=
 qB b d (fun h=>f h (by rw[if_pos h] at a;exact a)) (fun h=>e h (by rw[if_neg (by rw[h];exact gE)] at a;exact a))
theorem aS{y:Code}(h:W ρ P n y Q L w)(hi:ops.size=i:=by exact rfl):WO P n ops (Exit.then (fun a w=>y.wpIn (mO ρ) 0 P Q a w) Q) i L w:=qAf hi h
theorem aA(k:Nat)(new:bP)(h:WO P n ops Q (i+k) (new++L) w)(a:yM P n ops k i L (new.map (·.1))=some (new.map fun p=>some p.2):=by kernel_rfl)
 (b:tY L new (tE ops k i)=true:=by kernel_rfl):WO P n ops Q i L w:=QB k new a b h
theorem bK{e:TypeId}{b:Nat}{c:Array Value}{f:Nat×Nat}(k d t x o:Nat)(v:Value)(q:Piece.holds m w (.blk b (.cells c e f)))(h:WO P n ops Q (i+k+1) ((d,v)::(x,.pointer (some ⟨b,o,none⟩))::L) w)
  (a:yM P n ops k i L [x]=some [some (.pointer (some ⟨b,o,none⟩))]:=by kernel_rfl) (g:tY L [(x,.pointer (some ⟨b,o,none⟩))] (tE ops k i)=true:=by kernel_rfl)
  (p:cX ops ((x,.pointer (some ⟨b,o,none⟩))::L) (i+k)=some (some d,.load t (.tmp x)):=by kernel_rfl) (l:Nat.blt d n=true:=by exact rfl) (r:nX P t (c.toList.drop o)=some v:=by kernel_rfl) (hi:Nat.blt (i+k) ops.size=true:=by exact rfl):WO P n ops Q i L w:=
 QB k [(x,.pointer (some ⟨b,o,none⟩))] a g (bQ hi (TG v p l (by simp[bU,eH]) q r h))
theorem aH{y:Code}(k:Nat)(new:bP)(h:W ρ P n y Q (new++L) w)(b:yM P n ops k i L (new.map (·.1))=some (new.map fun p=>some p.2):=by kernel_rfl)
 (c:tY L new (tE ops k i)=true:=by kernel_rfl) (hi:ops.size=i+k:=by exact rfl):WO P n ops (Exit.then (fun a w=>y.wpIn (mO ρ) 0 P Q a w) Q) i L w:=QB k new b c (qAf hi h)
theorem eS{b:Nat}{cs:List Value}(d t x o:Nat)(v:Value)(a:St m own w)(f:MRow m b o cs)(h:WO P n ops Q (i+1) ((d,v)::L) w)
 (e:cX ops L i=some (some d,.load t (.tmp x)):=by kernel_rfl) (c:Nat.blt d n=true:=by exact rfl) (k:bU L (.tmp x)=some (.pointer (some ⟨b,o,none⟩)):=by kernel_rfl) (g:nX P t cs=some v:=by kernel_rfl)
 (hi:Nat.blt i ops.size=true:=by exact rfl):WO P n ops Q i L w:=bQ hi (TA v e c k a f g h)
theorem aT{k:Nat}{fn:Func}{R:Ending->World->Prop}(ts:List Nat)(vs:List Value)(h:R (.returned (tZ vs)) w)(b:fn.results=(ts.map ResultVar.tmp).toArray:=by exact rfl)(a:ts.map (eH L)=vs.map some:=by kernel_rfl):X ⟨k,[]⟩ (bodyPost P fn R) .ret L w:=by
 refine CW (ts.map .tmp) vs b ?_ h
 clear b h
 induction ts generalizing vs with
 |nil=>cases vs with
  |nil=>rfl
  |cons v vs=>cases a
 |cons t ts c=>cases vs with
  |nil=>cases a
  |cons v vs=>
   rw[kJ,kJ,kL] at a
   exact ResAll.cons (ResAt.tmp a.1) (c vs a.2)
instance opTmp(k:Nat):OfNat Operand k:=⟨.tmp k⟩
theorem pJ{e:TypeId}{b:Nat}{c:Array Value}(t:Nat)(x y:Operand)(o:Nat)(v:Value)(c':Array Value)(d:St m (.blk b (.cells c e (0,0))::own) w)(h:∀w',St m (.blk b (.cells c' e (0,0))::own) w'->N L w')
 (f:cX ops L i=some (none,.store t x y):=by kernel_rfl) (g:bU L x=some (.pointer (some ⟨b,o,none⟩)):=by kernel_rfl) (k:bU L y=some v:=by kernel_rfl) (a:vQ P t v o c.size=true:=by kernel_rfl)
 (hc':(c.toList.take o++v.cells.toList++c.toList.drop (o+v.cells.toList.length)).toArray=c':=by kernel_rfl):dX P n ops Q i N L w:=OC f g k d a hc' h
theorem eC{e:TypeId}{b:Nat}{c:Array Value}(t:Nat)(x y:Operand)(v:Value)(d:St m (.blk b (.cells c e (0,0))::own) w)(h:∀w',St m (.blk b (.cells v.cells e (0,0))::own) w'->N L w')
 (f:cX ops L i=some (none,.store t x y):=by kernel_rfl) (g:bU L x=some (.pointer (some ⟨b,0,none⟩)):=by kernel_rfl) (k:bU L y=some v:=by kernel_rfl) (a:vQ P t v 0 c.size=true:=by kernel_rfl)
 (hc':(c.toList.take 0++v.cells.toList++c.toList.drop (0+v.cells.toList.length)).toArray=v.cells:=by kernel_rfl):dX P n ops Q i N L w:=OC f g k d a hc' h
theorem lV(d e:Nat)(v:Value)(a:St m own w)(h:∀b w',St m (.blk b (.cells v.cells e (0,0))::own) w'->N ((d,.pointer (some ⟨b,0,none⟩))::L) w')
 (f:cX ops L i=some (some d,.alloc e):=by kernel_rfl) (c:Nat.blt d n=true:=by exact rfl) (g:QE P e=some v:=by kernel_rfl):dX P n ops Q i N L w:=WB v f c g a h
theorem pK(d e:Nat)(x:Operand)(v:Value)(a:St m own w)(h:∀b w',St m (.blk b (.cells v.cells e (0,0))::own) w'->N ((d,.pointer (some ⟨b,0,none⟩))::L) w')
 (f:cX ops L i=some (some d,.box e x):=by kernel_rfl) (c:Nat.blt d n=true:=by exact rfl) (g:bU L x=some v:=by kernel_rfl):dX P n ops Q i N L w:=TV v f c g a h
theorem xE{e:Exit}{L':bP}(h:X n Q e L' w)(a:L'.map (fun p=>eH L p.1)=L'.map fun p=>some p.2:=by kernel_rfl):X n Q e L w:=eG L' a h
theorem iA{m':Mem}{p:Prop}(st:St m' own w)(h:m.le m'):p\/Inv m w/\True:= .inr ⟨Inv.anti st.inv h,trivial⟩
theorem qP{α β:Type}{c:Codec α}{a:Option Addr}{cap:Nat}{l k:List α}{v:Value}{f:List α->Option β}{r:β}(d t u e by_:Nat)(x y:Operand)(g:St m (.room a l.length cap e c.sz::own) w)(D:wC P u e)(b:RepS c m a cap l)(s:CX P c m v k)(B:(dY by_ l k).bind f=some r)
  (h:∀z,f z=some r->∀a' cap' m' w',m.le m'->St m' (.room a' (List.length z) cap' e c.sz::own) w'->RepS c m' a' cap' z->N ((d,.slice a' (List.length z) cap')::L) w')
  (A:cX ops L i=some (some d,.call {callee:= .builtin .append,args:= #[x,y],argTypes:= #[t,u]}):=by kernel_rfl) (q:Nat.blt d n=true:=by exact rfl) (E:bU L x=some (.slice a l.length cap):=by kernel_rfl) (F:bU L y=some v:=by kernel_rfl)
  (hi:vL P t=some (e,c.sz,by_,c.sz):=by kernel_rfl):dX P n ops Q i N L w:=by
 obtain⟨z,o,p⟩:=aZ B;exact qGq c A q E F g hi D b s o (h z p)
theorem cH{α:Type}{b:Bool}{A B:Option α}{r:α}(t:Nat)(a:(if b=true then A else B)=some r)(e:b=true->A=some r->WO P n ops Q i ((t,.bool true)::L) w)(d:b=false->B=some r->WO P n ops Q i ((t,.bool false)::L) w)
  (c:eH L t=some (.bool b):=by kernel_rfl):WO P n ops Q i L w:=by
 cases b with
 |true=>exact ZT true c rfl (e rfl (by rw[if_pos rfl] at a;exact a))
 |false=>exact ZT false c rfl (d rfl (by rw[if_neg gE] at a;exact a))
theorem tA{m':Mem}{p x:Prop}(st:St m' own w)(h:m.le m')(k:x):((p\/Inv m w/\True)/\True)/\x:=⟨⟨iA st h,trivial⟩,k⟩
class QC(Q:Exit->Act->World->Prop):Prop where
 out:QP Q
instance qc1{K:Act->World->Prop}[h:QC Q]:QC (Exit.then K Q):=⟨bJ h.out⟩
instance qc2{id:Nat}[h:QC Q]:QC (Exit.inBlock id Q):=⟨cY h.out⟩
instance qc3{fn:Func}{R:Ending->World->Prop}:QC (bodyPost P fn R):=⟨eV⟩
instance qc4[h:QC Q]:QC (MB Q):=⟨h.out⟩
instance qc5{fn:Func}{R:Ending->World->Prop}:QC (qOg P fn R):=⟨fun _ _ _ _ _ h=>h⟩
instance qc6{l:Nat}{R:Ending->World->Prop}:QC (roundPost P l R):=⟨fun _ _ _ _ _ h=>h⟩
instance qc7{l:Nat}{body:Code}{R:Ending->World->Prop}:QC (qNv P l body R):=⟨fun _ _ _ _ _ h=>h⟩
instance qc8:QC (noP Q):=⟨fun _ _ _ _ _ h=>h⟩
variable [hq:QC Q] {ks:List (Nat×(World->Prop))} {k fuel:Nat} {S:World->Prop} {done:List Nat}
theorem aD(i d:Nat)(v:Value)(a:(k,S)∈ks)(h:WA P n ops Q ks fuel (done++[i]) ((d,v)::L) w)(c:QG P ops L i=some (d,v):=by kernel_rfl)(b:Nat.blt d n=true:=by exact rfl)(e:nV ops ks k i done=true:=by kernel_rfl):WA P n ops Q ks (fuel+1) done L w:=
 qLo i d v c b e a hq.out h
theorem aW(i d:Nat)(a:(k,S)∈ks)(h:WA P n ops Q ks fuel (done++[i]) ((d,undef)::L) w)(e:((ops[i]?).bind fun o=>(mG ops L o.guard).map fun b=>(o.dst,b))=some (some d,false):=by kernel_rfl)(c:Nat.blt d n=true:=by exact rfl)
 (f:nV ops ks k i done=true:=by kernel_rfl):WA P n ops Q ks (fuel+1) done L w:=qNe i d e c f a hq.out h
theorem cW{e:Nat}{b:Nat}{c:Array Value}{f:Nat×Nat}(t':Nat)(x:Operand)(i d o:Nat)(v:Value)(a:(k,S)∈ks)(g:∀w,S w->Piece.holds m w (.blk b (.cells c e f)))(h:WA P n ops Q ks fuel (done++[i]) ((d,v)::L) w)
  (p:cX ops L i=some (some d,.load t' x):=by kernel_rfl) (l:Nat.blt d n=true:=by exact rfl) (q:nV ops ks k i done=true:=by kernel_rfl) (s:bU L x=some (.pointer (some ⟨b,o,none⟩)):=by kernel_rfl) (r:nX P t' (c.toList.drop o)=some v:=by kernel_rfl):WA P n ops Q ks (fuel+1) done L w:=
 qFn i d v p l q a hq.out g s r h
theorem cM{b:Nat}{cs:List Value}(t:Nat)(x:Operand)(i d o:Nat)(v:Value)(a:(k,S)∈ks)(c:∀w,S w->Inv m w)(g:MRow m b o cs)(h:WA P n ops Q ks fuel (done++[i]) ((d,v)::L) w)
  (f:cX ops L i=some (some d,.load t x):=by kernel_rfl) (e:Nat.blt d n=true:=by exact rfl) (l:nV ops ks k i done=true:=by kernel_rfl) (q:bU L x=some (.pointer (some ⟨b,o,none⟩)):=by kernel_rfl) (p:nX P t cs=some v:=by kernel_rfl):WA P n ops Q ks (fuel+1) done L w:=
 qGa i d v f e l a hq.out c q g p h
theorem iV{α:Type}{k':BA->Option α}{r:α}{a b:BA}(t t2:Nat)(x y:Operand)(i d:Nat)(c:(k,S)∈ks)(o:(cZ a b).bind k'=some r)(h:∀s,k' s=some r->WA P n ops Q ks fuel (done++[i]) ((d,.string s)::L) w)
  (l:cX ops L i=some (some d,.binOp .add t x y t2):=by kernel_rfl) (g:Nat.blt d n=true:=by exact rfl) (p:nV ops ks k i done=true:=by kernel_rfl) (q:bU L x=some (.string a):=by kernel_rfl) (u:bU L y=some (.string b):=by kernel_rfl):WA P n ops Q ks (fuel+1) done L w:=by
 obtain⟨z,e,f⟩:=aZ o;exact qNg i d l g p c hq.out q u e (h z f)
end
class Enc{α:Type}(c:Codec α) where
 enc:α->List Value
 ok:∀m x,c.rep m x (enc x)
instance encStr:Enc aJ:=⟨fun x=>[.string x],fun _ _=>rfl⟩
instance encInt{k:IntKind}:Enc (aX k):=⟨fun x=>[.int k x],fun _ _=>rfl⟩
instance encBool:Enc rF:=⟨fun x=>[.bool x],fun _ _=>rfl⟩
instance encPair{α β:Type}{a:Codec α}{b:Codec β}[A:Enc a][B:Enc b]:Enc (oW a b):=⟨fun x=>A.enc x.1++B.enc x.2,fun m x=>⟨_,_,rfl,A.ok m x.1,B.ok m x.2⟩⟩
def QZ{α:Type}(c:Codec α)[E:Enc c]:List α->List Value
 |[]=>[]
 |x::l=>E.enc x++QZ c l
theorem YL{α:Type}{c:Codec α}[E:Enc c]{m:Mem}:∀l:List α,RepAll c m l (QZ c l)
 |[]=>rfl
 |x::l=>⟨_,_,rfl,E.ok m x,YL l⟩
section
variable {ρ:Option Nat} {P:Program} {n:Fr} {ops:Array Oper} {Q:Exit->Act->World->Prop} {i:Nat} {L:bP} {w:World} {m:Mem} {own:List Piece}
def qAx(P:Program)(ops:Array Oper)(L:bP)(i:Nat):Option (Nat×Nat×TypeId×List Value):=
 match cX ops L i with
 |some (some d,.buildSlice t len parts)=>(NM P t len (parts.map fun p=>(p.1,lU L p.2)).toList).map fun z=>(d,len,z)
 |_=>none
theorem dV{α:Type}(d e len:Nat)(c:Codec α)[E:Enc c](xs:List α)(k:St m own w)
  (h:∀b m' w',m.le m'->St m' (.room (some ⟨b,0,none⟩) xs.length len e c.sz::own) w'->RepS c m' (some ⟨b,0,none⟩) len xs->WO P n ops Q (i+1) ((d,.slice (some ⟨b,0,none⟩) xs.length len)::L) w')
  (a:qAx P ops L i=some (d,len,e,QZ c xs):=by kernel_rfl) (l:Nat.blt d n=true:=by exact rfl) (f:len=xs.length:=by exact rfl) (g:Nat.ble len maxLen=true:=by exact rfl) (hi:Nat.blt i ops.size=true:=by exact rfl):WO P n ops Q i L w:=by
 unfold qAx at a
 split at a
 .rename_i ha
  simp only[kH,Prod.mk.injEq] at a
  obtain⟨z,o,rfl,rfl,rfl⟩:=a
  exact bQ hi (nF c _ ha l (fun _=>nH o _) f g k (YL xs) h)
 cases a
def qAw(P:Program)(ops:Array Oper)(L:bP)(i:Nat)(c:List Value):Option (Nat×Nat×Value):=
 match cX ops L i with
 |some (some d,.load t x)=>match bU L x with
  |some (.pointer (some ⟨b,o,none⟩))=>(nX P t (c.drop o)).map fun v=>(d,b,v)
  |_=>none
 |_=>none
theorem bG{e:TypeId}{b:Nat}{c:Array Value}{f:Nat×Nat}(d:Nat)(v:Value)(k:Piece.holds m w (.blk b (.cells c e f)))(h:WO P n ops Q (i+1) ((d,v)::L) w)
  (a:qAw P ops L i c.toList=some (d,b,v):=by kernel_rfl) (g:Nat.blt d n=true:=by exact rfl) (hi:Nat.blt i ops.size=true:=by exact rfl):WO P n ops Q i L w:=by
 unfold qAw at a
 split at a
 .rename_i ha
  split at a
  .rename_i hb
   simp only[kH,Prod.mk.injEq] at a
   obtain⟨z,l,rfl,rfl,rfl⟩:=a
   exact bQ hi (TG _ ha g hb k l h)
  cases a
 cases a
def qAj(P:Program)(ops:Array Oper)(L:bP)(i:Nat)(c:List Value):Option (Nat×Nat×Nat×Value):=
 match cX ops L i with
 |some (some d,.load t x)=>match bU L x with
  |some (.pointer (some ⟨b,o,none⟩))=>(nX P t c).map fun v=>(d,b,o,v)
  |_=>none
 |_=>none
theorem bW{b o:Nat}{cs:List Value}(d:Nat)(v:Value)(c:St m own w)(f:MRow m b o cs)(h:WO P n ops Q (i+1) ((d,v)::L) w)
  (a:qAj P ops L i cs=some (d,b,o,v):=by kernel_rfl) (e:Nat.blt d n=true:=by exact rfl) (hi:Nat.blt i ops.size=true:=by exact rfl):WO P n ops Q i L w:=by
 unfold qAj at a
 split at a
 .rename_i ha
  split at a
  .rename_i hb
   simp only[kH,Prod.mk.injEq] at a
   obtain⟨z,g,rfl,rfl,rfl,rfl⟩:=a
   exact bQ hi (TA _ ha e hb c f g h)
  cases a
 cases a
def QV(P:Program)(ops:Array Oper)(L:bP)(i:Nat)(c:Array Value):Option (Nat×Array Value):=
 match cX ops L i with
 |some (none,.store t x y)=>match bU L x with
  |some (.pointer (some ⟨b,o,none⟩))=>match bU L y with
   |some v=>bif vQ P t v o c.size then some (b,(c.toList.take o++v.cells.toList++c.toList.drop (o+v.cells.toList.length)).toArray) else none
   |none=>none
  |_=>none
 |_=>none
theorem eM{e:TypeId}{b:Nat}{c:Array Value}(c':Array Value)(d:St m (.blk b (.cells c e (0,0))::own) w)(h:∀w',St m (.blk b (.cells c' e (0,0))::own) w'->WO P n ops Q (i+1) L w')
  (a:QV P ops L i c=some (b,c'):=by kernel_rfl) (hi:Nat.blt i ops.size=true:=by exact rfl):WO P n ops Q i L w:=by
 unfold QV at a
 split at a
 .rename_i ha
  split at a
  .rename_i hb
   split at a
   .rename_i hv
    cases hk:vQ P _ _ _ c.size with
    |true=>
     rw[hk,cond_true] at a
     simp only[jG,Prod.mk.injEq] at a
     obtain⟨rfl,f⟩:=a
     exact bQ hi (OC ha hb hv d hk f h)
    |false=>rw[hk,cond_false] at a;cases a
   cases a
  cases a
 cases a
theorem bM{e:TypeId}{b:Nat}{c:Array Value}(v:Value)(a:St m (.blk b (.cells c e (0,0))::own) w)(h:∀w',St m (.blk b (.cells v.cells e (0,0))::own) w'->WO P n ops Q (i+1) L w')
 (d:QV P ops L i c=some (b,v.cells):=by kernel_rfl) (hi:Nat.blt i ops.size=true:=by exact rfl):WO P n ops Q i L w:=eM v.cells a h d hi
def qAy(P:Program)(ops:Array Oper)(L:bP)(i:Nat):Option (Nat×Nat×Value):=
 match cX ops L i with
 |some (some d,.alloc e)=>(QE P e).map fun v=>(d,e,v)
 |_=>none
theorem cG(d e:Nat)(v:Value)(c:St m own w)(h:∀b w',St m (.blk b (.cells v.cells e (0,0))::own) w'->WO P n ops Q (i+1) ((d,.pointer (some ⟨b,0,none⟩))::L) w')
  (a:qAy P ops L i=some (d,e,v):=by kernel_rfl) (f:Nat.blt d n=true:=by exact rfl) (hi:Nat.blt i ops.size=true:=by exact rfl):WO P n ops Q i L w:=by
 unfold qAy at a
 split at a
 .rename_i ha
  simp only[kH,Prod.mk.injEq] at a
  obtain⟨z,g,rfl,rfl,rfl⟩:=a
  exact bQ hi (WB _ ha f g c h)
 cases a
def qAp(ops:Array Oper)(L:bP)(i:Nat):Option (Nat×Nat×Value):=
 match cX ops L i with
 |some (some d,.box e x)=>(bU L x).map fun v=>(d,e,v)
 |_=>none
theorem eA(d e:Nat)(v:Value)(c:St m own w)(h:∀b m' w',m.le m'->St m' own w'->MRow m' b 0 v.cells.toList->WO P n ops Q (i+1) ((d,.pointer (some ⟨b,0,none⟩))::L) w')
  (a:qAp ops L i=some (d,e,v):=by kernel_rfl) (f:Nat.blt d n=true:=by exact rfl) (hi:Nat.blt i ops.size=true:=by exact rfl):WO P n ops Q i L w:=by
 unfold qAp at a
 split at a
 .rename_i ha
  simp only[kH,Prod.mk.injEq] at a
  obtain⟨z,g,rfl,rfl,rfl⟩:=a
  exact bQ hi (qMb _ ha f g c h)
 cases a
def qAm(P:Program)(ops:Array Oper)(L:bP)(i:Nat):Option (Nat×BA×Int):=
 match cX ops L i with
 |some (some d,.index t x y)=>match bU L x with
  |some (.string s)=>match bU L y with
   |some (.int .i64 z)=>match P.underlying t with
    |some .string=>some (d,s,z)
    |_=>none
   |_=>none
  |_=>none
 |_=>none
theorem iH{α:Type}{k:UInt8->Option α}{r:α}{s:BA}{ix:Int}(d:Nat)(f:(eD s ix).bind k=some r)(h:∀z:UInt8,k z=some r->WO P n ops Q (i+1) ((d,.int .u8 (z.toNat:Int))::L) w)
  (a:qAm P ops L i=some (d,s,ix):=by kernel_rfl) (e:Nat.blt d n=true:=by exact rfl) (hi:Nat.blt i ops.size=true:=by exact rfl):WO P n ops Q i L w:=by
 obtain⟨z,b,c⟩:=aZ f
 unfold qAm at a
 split at a
 .rename_i ha
  split at a
  .rename_i hb
   split at a
   .rename_i hc
    split at a
    .rename_i hu
     cases a
     exact bQ hi (qEq (k:= .i64) ha e hb hc hu b (h z c))
    cases a
   cases a
  cases a
 cases a
def qAq(ops:Array Oper)(L:bP)(i:Nat):Option (Nat×BA×BA):=
 match cX ops L i with
 |some (some d,.binOp .add _ x y _)=>match bU L x with
  |some (.string s)=>match bU L y with
   |some (.string z)=>some (d,s,z)
   |_=>none
  |_=>none
 |_=>none
theorem iC{α:Type}{k:BA->Option α}{r:α}{a b:BA}(d:Nat)(l:(cZ a b).bind k=some r)(h:∀s,k s=some r->WO P n ops Q (i+1) ((d,.string s)::L) w)
  (c:qAq ops L i=some (d,a,b):=by kernel_rfl) (g:Nat.blt d n=true:=by exact rfl) (hi:Nat.blt i ops.size=true:=by exact rfl):WO P n ops Q i L w:=by
 obtain⟨z,e,f⟩:=aZ l
 unfold qAq at c
 split at c
 .rename_i ha
  split at c
  .rename_i hb
   split at c
   .rename_i hc
    cases c
    exact bQ hi (qMr ha g hb hc e (h z f))
   cases c
  cases c
 cases c
def qAr(P:Program)(ops:Array Oper)(L:bP)(i:Nat):Option (Nat×Value×Int×Nat):=
 match cX ops L i with
 |some (some d,.indexAddr t x y)=>match bU L x with
  |some v=>match bU L y with
   |some (.int .i64 z)=>(pF P t).map fun q=>(d,v,z,q.2)
   |_=>none
  |_=>none
 |_=>none
theorem eP{α β:Type}{c:Codec α}{a:Option Addr}{cap:Nat}{l:List α}{ix:Int}{k:α->Option β}{r:β}(d:Nat)(g:RepS c m a cap l)(x:(bV l ix).bind k=some r)
  (h:∀z,k z=some r->∀b o cs,c.rep m z cs->MRow m b o cs->WO P n ops Q (i+1) ((d,.pointer (some ⟨b,o,none⟩))::L) w)
  (f:qAr P ops L i=some (d,.slice a l.length cap,ix,c.sz):=by kernel_rfl) (u:Nat.blt d n=true:=by exact rfl) (hi:Nat.blt i ops.size=true:=by exact rfl):WO P n ops Q i L w:=by
 obtain⟨z,q,t⟩:=aZ x
 unfold qAr at f
 split at f
 .rename_i ha
  split at f
  .rename_i hb
   split at f
   .rename_i hc
    simp only[kH,Prod.mk.injEq] at f
    obtain⟨⟨e,s⟩,v,rfl,rfl,rfl,p⟩:=f
    simp only at p
    subst p
    exact bQ hi (qJd (k:= .i64) c ha u hb hc v g q (h z t))
   cases f
  cases f
 cases f
theorem mA{α β:Type}{c:Codec α}{a:Option Addr}{cap:Nat}{l k:List α}{v:Value}{f:List α->Option β}{r:β}(d t u e by_:Nat)(x y:Operand)(g:St m (.room a l.length cap e c.sz::own) w)(B:wC P u e)(b:RepS c m a cap l)(p:CX P c m v k)(A:(dY by_ l k).bind f=some r)
 (h:∀z,f z=some r->∀a' cap' m' w',m.le m'->St m' (.room a' (List.length z) cap' e c.sz::own) w'->RepS c m' a' cap' z->WO P n ops Q (i+1) ((d,.slice a' (List.length z) cap')::L) w')
 (s:cX ops L i=some (some d,.call {callee:= .builtin .append,args:= #[x,y],argTypes:= #[t,u]}):=by kernel_rfl) (o:Nat.blt d n=true:=by exact rfl) (D:bU L x=some (.slice a l.length cap):=by kernel_rfl) (E:bU L y=some v:=by kernel_rfl)
 (hi:vL P t=some (e,c.sz,by_,c.sz):=by kernel_rfl) (q:Nat.blt i ops.size=true:=by exact rfl):WO P n ops Q i L w:=bQ q (qP d t u e by_ x y g B b p A h s o D E hi)
theorem aM{α β:Type}{f:Nat}{args:Array Value}{x:Option β}{k:β->Option α}{r:α}{T:β->Ending->World->Prop}(d:Nat)(g:x.bind k=some r)(a:∀{y},x=some y->Calls P f args w (T y))
  (h:∀y,k y=some r->∀e w',T y e w'->GoOn (fun v=>WO P n ops Q (i+1) ((d,v)::L) w') e) (c:rW P ops L i=some (some d,f,args):=by kernel_rfl) (b:Nat.blt d n=true:=by exact rfl) (hi:Nat.blt i ops.size=true:=by exact rfl):WO P n ops Q i L w:=
 qNm d g (fun _=>a) h c b hi
theorem dL{α β:Type}{f:Nat}{args:Array Value}{x:Option β}{k:β->Option α}{r:α}{T:β->Ending->World->Prop}(d:Nat)(g:x.bind k=some r)(a:∀{y},x=some y->Calls P f args w (T y))
  (h:∀y,k y=some r->∀e w',T y e w'->GoOnF (fun v=>WO P n ops Q (i+1) ((d,v)::L) w') (fun ch=>X n Q (.panic ch) L w') e) (c:rW P ops L i=some (some d,f,args):=by kernel_rfl) (b:Nat.blt d n=true:=by exact rfl) (hi:Nat.blt i ops.size=true:=by exact rfl):WO P n ops Q i L w:=
 qLm d g (fun _=>a) h c b hi
theorem aG{id:Nat}{y:Code}(k:Nat)(new:bP)(h:W none P n y Q (new++L) w)(a:yM P n ops k 0 L (new.map (·.1))=some (new.map fun p=>some p.2):=by kernel_rfl)
 (b:tY L new (tE ops k 0)=true:=by kernel_rfl) (hi:ops.size=0+k:=by exact rfl):W none P n (.seq (.region id ops false) y) Q L w:=aC (aH k new h a b hi)
theorem aV{id:Nat}{y:Code}(k:Nat)(new:bP)(h:WO P n ops (Exit.then (fun a w=>y.wpIn (mO none) 0 P Q a w) Q) (0+k) (new++L) w)(b:yM P n ops k 0 L (new.map (·.1))=some (new.map fun p=>some p.2):=by kernel_rfl)
 (c:tY L new (tE ops k 0)=true:=by kernel_rfl):W none P n (.seq (.region id ops false) y) Q L w:=aC (aA k new h b c)
theorem cV{σ β:Type}{f:σ->Option (σ⊕β)}{k:Nat}{s:σ}{b:β}(h:aK f (k+1) s=some b):∃c,f s=some c/\(∀s',.inl s'=c->aK f k s'=some b)/\(∀b',.inr b'=c->b'=b):=by
 obtain⟨c,a,d,g⟩:=qGv h
 exact⟨c,a,fun s' e=>d s' e.symm,fun b' e=>g b' e.symm⟩
theorem cN{k:Nat}{I:Nat->bP->World->Prop}(h:I k L w):X n (Exit.then (fun a' w'=>∃k' L',k'<k+1/\Fits n a' L'/\I k' L' w') Q) .normal L w:=qMs k (Nat.lt_succ_self k) h
theorem cA{α β:Type}{x:Option α}{f:α->Option β}{b:β}{c:Code}(e:Exit)(k:x.bind f=some b)(I:α->bP->World->Prop)(d:∀o,f o=some b->∀L' w',I o L' w'->X n Q e L' w')
  (a:∀o,x=some o->(∀L' w',I o L' w'->X n Q e L' w')->W ρ P n c Q L w):W ρ P n c Q L w:=by
 obtain⟨o,g,h⟩:=aZ k
 exact a o g (d o h)
theorem dT{α β:Type}{x:Option α}{f:α->Option β}{b:β}(j:Nat)(g:x.bind f=some b)(I:α->bP->World->Prop)(a:∀o,f o=some b->∀L' w',I o L' w'->WO P n ops Q j L' w')
  (c:∀o,x=some o->(∀L' w',I o L' w'->WO P n ops Q j L' w')->WO P n ops Q i L w):WO P n ops Q i L w:=by
 obtain⟨o,d,e⟩:=aZ g
 exact c o d (a o e)
class RetQ(P:outParam Program)(Q:Exit->Act->World->Prop)(fn:outParam Func)(R:outParam (Ending->World->Prop)):Prop where
 out:∀a w,bodyPost P fn R .ret a w->Q .ret a w
instance rq1{fn:Func}{R:Ending->World->Prop}:RetQ P (bodyPost P fn R) fn R:=⟨fun _ _ h=>h⟩
instance rq2{fn:Func}{R:Ending->World->Prop}{K:Act->World->Prop}[h:RetQ P Q fn R]:RetQ P (Exit.then K Q) fn R:=⟨h.out⟩
instance rq3{fn:Func}{R:Ending->World->Prop}{id:Nat}[h:RetQ P Q fn R]:RetQ P (Exit.inBlock id Q) fn R:=⟨h.out⟩
theorem dO{k:Nat}{fn:Func}{R:Ending->World->Prop}[hq:RetQ P Q fn R]{b e:Nat}{c:Array Value}{f:Nat×Nat}(s t:Nat)(ts:List Nat)(vs:List Value)(n:Piece.holds m w (.blk b (.cells c e f)))(h:R (.returned (tZ (.agg c::vs))) w)
  (l:fn.results=(ResultVar.cell s t::ts.map ResultVar.tmp).toArray:=by exact rfl) (p:eH L s=some (.pointer (some ⟨b,0,none⟩)):=by kernel_rfl) (q:nX P t c.toList=some (.agg c):=by kernel_rfl) (d:ts.map (eH L)=vs.map some:=by kernel_rfl):X ⟨k,[]⟩ Q .ret L w:=by
 refine fun a g=>hq.out a w (CW (ResultVar.cell s t::ts.map .tmp) (.agg c::vs) l (ResAll.cons (ResAt.blk (o:=0) p n (by simpa using q)) ?_) h a g)
 clear l h p q n g hq
 induction ts generalizing vs with
 |nil=>cases vs with
  |nil=>rfl
  |cons v vs=>cases d
 |cons t ts r=>cases vs with
  |nil=>cases d
  |cons v vs=>
   rw[kJ,kJ,kL] at d
   exact ResAll.cons (ResAt.tmp d.1) (r vs d.2)
end
end
end Go.Dc
namespace Go.Proofs.YtbclhfjdmfbegaaGreatDoor
section
open Go Go.Dc
abbrev T7:=BA
abbrev T8:=List T7
abbrev T9:=Option T8
abbrev Ta:=Option Int
abbrev Tb:=List Int
abbrev Tc:=Tb×Int
abbrev Td:=Tc×Int
abbrev Te:=Tc×Bool
abbrev Tf:=Tc×T7
abbrev Tg:=Option Tf
abbrev Th:=Option (Int⊕Unit⊕Bool)
abbrev Ti:=Option Bool
abbrev Tj:=Option T7
abbrev Tk:=Int×Tc
abbrev Tl:=T7×Tk
abbrev Tm:=T7×Tc
abbrev Tn:=T7×T8×Tk
abbrev To:=T7×Int
abbrev Tp:=T7×T7
abbrev Tq:=List Tp
abbrev Tr:=Int×Tq
abbrev Ts:=Bool×Tq
abbrev Tt:=Option Tq
abbrev Tu:=List UInt8×Tk
abbrev Tv:=Tq×Tc
abbrev Tw:=Int×Tv
abbrev Tx:=Tc×Tq
abbrev Ty:=Int⊕Unit⊕Tx
abbrev Tz:=T7×Int×T8
abbrev zI:=Int×T7
abbrev dM:=Int×Int
abbrev mN:=Option (List dM)
abbrev wJ:=List zI
abbrev lO:=Int×T7×dM
abbrev DH:=lO×dM
abbrev mM:=List lO
abbrev DI:=mM×Int
abbrev DL:=mM×dM
abbrev sD:=Int×Int×Int×T7×Tb
abbrev mU:=List sD
abbrev bO:=mM×Int×T8×mU
abbrev uP:=bO×lO
abbrev JA:=dM⊕bO
abbrev T1e:=bO⊕JA
abbrev zA:=dM⊕uP
abbrev DO:=Unit⊕zA
abbrev tH:=T8×bO
abbrev T1i:=dM⊕bO×T8
abbrev T1j:=Unit⊕tH⊕tH⊕T1i
abbrev nQ:=bO×Int
abbrev nB:=dM⊕nQ
abbrev dW:=Option nB
abbrev wL:=Unit⊕nB
abbrev T1o:=bO×Tb
abbrev IU:=dM⊕T1o
abbrev qU:=Option IU
abbrev zD:=Tb×bO
abbrev T1s:=Int×Int×T7×zD⊕nB
abbrev T1t:=Unit⊕T1s
abbrev tJ:=Int×T7×T8×mU
abbrev dZ:=List tJ
abbrev T1w:=mM×Int×T8×mU×lO
abbrev zJ:=dM⊕bO×tJ
abbrev DK:=Unit⊕zJ
abbrev IZ:=mM×Int×T8×mU×T8
abbrev lX:=T7×T8×dZ
abbrev T21:=dM⊕bO×lX
abbrev II:=IZ⊕IZ⊕T21
abbrev IR:=mM×Int×T8×mU×dZ
abbrev IT:=lX×dM
abbrev dU:=T7×T7×lO
abbrev T26:=(Int×Tp)×dU
abbrev sB:=Option (List T26)
abbrev yZ:=List (T7×lX)
abbrev DM:=T8×Option yZ×sB
abbrev zG:=Tq×Bool×Option yZ×T8×sB
abbrev uM:=T7×Bool
abbrev cK:=mM×Int×Int×Int×T8×mU×Tb
abbrev T2d:=cK×lO
abbrev IW:=cK×Bool
abbrev yY:=Option (Bool×cK)
abbrev oY:=Option cK
abbrev zC:=cK×T7
abbrev nP:=cK×Int
abbrev eE:=Option nP
abbrev IQ:=Tb×cK
abbrev qI:=Int×cK
abbrev T2m:=qI⊕qI
abbrev T2n:=qI⊕T2m
abbrev rL:=mM×Int×Int×Int×T8×mU×Tb×T8
abbrev T2p:=cK×tJ
abbrev T2q:=mM×Int×Int×Int×T8×mU×Tc
abbrev IS:=mM×Int×Int×Int×T8×mU×Tb×dZ
abbrev DN:=T8×Int
abbrev zF:=Option (List uM)
abbrev DP:=Bool×T7×To
abbrev iO:=List dU
abbrev IX:=List lX
abbrev qJ:=T8×IX
abbrev zB:=T7×T7×dM
abbrev yX:=Int×zB
abbrev zH:=iO×Int
abbrev uN:=Tq×Int
abbrev T32:=uN⊕Tq
abbrev T33:=lX×Int×Bool
abbrev IJ:=Tb×Tr
abbrev C1:=oW aJ aJ
abbrev C2:=aX .i64
abbrev C3:=oW C2 (oW aJ (oW C2 C2))
abbrev C4:=oW C2 (oW C2 (oW C2 (oW aJ (wK C2))))
abbrev C5:=oW C2 (oW aJ (oW (wK aJ) (wK C4)))
abbrev C6:=oW aJ (oW (wK aJ) (wK C5))
abbrev C7:=oW aJ (oW aJ C3)
abbrev vS{α:Type}(a:Option Addr)(l:List α)(c:Nat):Value:= .slice a (List.length l) c
abbrev vP(b o:Nat):Value:= .pointer (some ⟨b,o,none⟩)
abbrev vI(x:Int):Value:= .int .i64 x
abbrev vT(s:BA):Value:= .string s
abbrev vB(b:Bool):Value:= .bool b
abbrev eB:BA:=⟨#[]⟩
abbrev aP(b:Nat):Option Addr:=some ⟨b,0,none⟩
abbrev kB(b:Nat)(c:Array Value)(e:Nat):Piece:= .blk b (.cells c e (0,0))
abbrev kR{α:Type}(a:Option Addr)(l:List α)(c e s:Nat):Piece:= .room a (List.length l) c e s
abbrev V1{α0:Type}(p:List α0×Int)(a0:Option Addr)(c0:Nat):Array Value:= #[vS a0 p.1 c0,vI p.2]
abbrev V2(p:BA×BA):Array Value:= #[vT p.1,vT p.2]
abbrev V3(x0:BA)(x1:BA):Array Value:= #[vT x0,vT x1]
abbrev V4(p:Int×BA×Int×Int):Array Value:= #[vI p.1,vT p.2.1,vI p.2.2.1,vI p.2.2.2]
abbrev V5(x0:Int)(x1:BA)(x2:Int)(x3:Int):Array Value:= #[vI x0,vT x1,vI x2,vI x3]
abbrev V6{α0:Type}{α2:Type}{α3:Type}(p:List α0×Int×List α2×List α3)(a0:Option Addr)(c0:Nat)(a2:Option Addr)(c2:Nat)(a3:Option Addr)(c3:Nat):Array Value:= #[vS a0 p.1 c0,vI p.2.1,vS a2 p.2.2.1 c2,vS a3 p.2.2.2 c3]
abbrev V7(p:Int×Int):Array Value:= #[vI p.1,vI p.2]
abbrev V8{α4:Type}(p:Int×Int×Int×BA×List α4)(a4:Option Addr)(c4:Nat):Array Value:= #[vI p.1,vI p.2.1,vI p.2.2.1,vT p.2.2.2.1,vS a4 p.2.2.2.2 c4]
abbrev V9{α4:Type}(p:Int×Int×Int×BA×List α4)(a4:Option Addr)(c4:Nat):List Value:=[vI p.1,vI p.2.1,vI p.2.2.1,vT p.2.2.2.1,vS a4 p.2.2.2.2 c4]
abbrev Va{α2:Type}{α3:Type}(p:Int×BA×List α2×List α3)(a2:Option Addr)(c2:Nat)(a3:Option Addr)(c3:Nat):Array Value:= #[vI p.1,vT p.2.1,vS a2 p.2.2.1 c2,vS a3 p.2.2.2 c3]
abbrev Vb{α2:Type}{α3:Type}(p:Int×BA×List α2×List α3)(a2:Option Addr)(c2:Nat)(a3:Option Addr)(c3:Nat):List Value:=[vI p.1,vT p.2.1,vS a2 p.2.2.1 c2,vS a3 p.2.2.2 c3]
abbrev Vc{α1:Type}{α2:Type}(p:BA×List α1×List α2)(a1:Option Addr)(c1:Nat)(a2:Option Addr)(c2:Nat):Array Value:= #[vT p.1,vS a1 p.2.1 c1,vS a2 p.2.2 c2]
abbrev Vd(p:Int×BA×BA):Array Value:= #[vI p.1,vT p.2.1,vT p.2.2]
abbrev Ve{α1:Type}{α2:Type}(p:BA×List α1×List α2)(a1:Option Addr)(c1:Nat)(a2:Option Addr)(c2:Nat):List Value:=[vT p.1,vS a1 p.2.1 c1,vS a2 p.2.2 c2]
abbrev Vf(x0:BA)(x1:BA)(x2:Int)(x3:BA)(x4:Int)(x5:Int):Array Value:= #[vT x0,vT x1,vI x2,vT x3,vI x4,vI x5]
abbrev Vg(p:BA×BA×Int×BA×Int×Int):Array Value:= #[vT p.1,vT p.2.1,vI p.2.2.1,vT p.2.2.2.1,vI p.2.2.2.2.1,vI p.2.2.2.2.2]
abbrev Vh(p:BA×BA×Int×BA×Int×Int):List Value:=[vT p.1,vT p.2.1,vI p.2.2.1,vT p.2.2.2.1,vI p.2.2.2.2.1,vI p.2.2.2.2.2]
abbrev Vi{α0:Type}{α4:Type}{α5:Type}{α6:Type}(p:List α0×Int×Int×Int×List α4×List α5×List α6)(a0:Option Addr)(c0:Nat)(a4:Option Addr)(c4:Nat)(a5:Option Addr)(c5:Nat)(a6:Option Addr)(c6:Nat):Array Value:= #[vS a0 p.1 c0,vI p.2.1,vI p.2.2.1,vI p.2.2.2.1,vS a4 p.2.2.2.2.1 c4,vS a5 p.2.2.2.2.2.1 c5,vS a6 p.2.2.2.2.2.2 c6]
abbrev Vj{α0:Type}{α4:Type}{α5:Type}{α6:Type}(a0:Option Addr)(l0:List α0)(c0:Nat)(x1:Int)(x2:Int)(x3:Int)(a4:Option Addr)(l4:List α4)(c4:Nat)(a5:Option Addr)(l5:List α5)(c5:Nat)(a6:Option Addr)(l6:List α6)(c6:Nat):Array Value:= #[vS a0 l0 c0,vI x1,vI x2,vI x3,vS a4 l4 c4,vS a5 l5 c5,vS a6 l6 c6]
abbrev Vk(p:Bool×BA×BA×Int):Array Value:= #[vB p.1,vT p.2.1,vT p.2.2.1,vI p.2.2.2]
abbrev Vl{α0:Type}{α1:Type}(p:List α0×List α1)(a0:Option Addr)(c0:Nat)(a1:Option Addr)(c1:Nat):Array Value:= #[vS a0 p.1 c0,vS a1 p.2 c1]
abbrev ba:BA:=⟨#[97,46,115,114,99]⟩
abbrev bb:BA:=⟨#[98,46,115,114,99]⟩
abbrev bc:BA:=⟨#[100,47,99,46,115,114,99]⟩
abbrev bd:BA:=⟨#[120,46,115,114,99]⟩
abbrev be:BA:=⟨#[112]⟩
abbrev bf:BA:=⟨#[113]⟩
abbrev bg:BA:=⟨#[115]⟩
abbrev bh:BA:=⟨#[116]⟩
abbrev bi:BA:=⟨#[117]⟩
abbrev bj:BA:=⟨#[97,46,100,97,116]⟩
abbrev bk:BA:=⟨#[100,47,98,46,100,97,116]⟩
abbrev bl:BA:=⟨#[99]⟩
abbrev bm:BA:=⟨#[48,49,50,51,52,53,54,55,56,57]⟩
abbrev bn:BA:=⟨#[102]⟩
abbrev bo:BA:=⟨#[103]⟩
abbrev bp:BA:=⟨#[34,41]⟩
abbrev bq:BA:=⟨#[43]⟩
abbrev br:BA:=⟨#[45]⟩
abbrev bs:BA:=⟨#[42]⟩
abbrev bu:BA:=⟨#[47]⟩
abbrev bv:BA:=⟨#[37]⟩
abbrev bw:BA:=⟨#[60]⟩
abbrev bx:BA:=⟨#[61,61]⟩
abbrev bz:BA:=⟨#[102,117,110,99]⟩
abbrev DJ:BA:=⟨#[34]⟩
abbrev IM:BA:=⟨#[97,98,99,100,101,102,103,104,105,106,107,108,109,110,111,112,113,114,115,116,117,118,119,120,121,122]⟩
abbrev JB:BA:=⟨#[95]⟩
abbrev IL:BA:=⟨#[46]⟩
abbrev IV:BA:=⟨#[9,10,13,32]⟩
abbrev IN:BA:=⟨#[35]⟩
abbrev IK:BA:=⟨#[59,44,40,41,43,45,42,47,37,60,61]⟩
abbrev b1e:BA:=⟨#[112,97,99,107,97,103,101]⟩
abbrev b1f:BA:=⟨#[105,109,112,111,114,116]⟩
abbrev b1g:BA:=⟨#[116,101,115,116]⟩
abbrev b1h:BA:=⟨#[103,101,110]⟩
abbrev b1i:BA:=⟨#[105,102]⟩
abbrev b1j:BA:=⟨#[116,104,101,110]⟩
abbrev b1k:BA:=⟨#[101,108,115,101]⟩
abbrev b1l:BA:=⟨#[114,101,97,100]⟩
abbrev b1m:BA:=⟨#[115,105,122,101]⟩
abbrev b1n:BA:=⟨#[104,97,115]⟩
abbrev b1o:BA:=⟨#[101,110,118]⟩
abbrev b1p:BA:=⟨#[102,108,105,112]⟩
abbrev tF:BA:=⟨#[112,97,99,107,97,103,101,32,112,59,32,102,117,110,99,32,102,40,41,32,61,32,49,59,32,116,101,115,116,32,116,32,61,32,102,40,41,59]⟩
abbrev tG:BA:=⟨#[112,97,99,107,97,103,101,32,112,59,32,102,117,110,99,32,102,40,41,32,61,32,50,59]⟩
abbrev b1s:BA:=⟨#[99,46,115,114,99]⟩
abbrev P1{X1:Type}(m:Mem)(a0:Option Addr)(c0:Nat)(a1:Option Addr)(c1:Nat)(a2:Option Addr)(c2:Nat)(p:(List ((Int)×((BA)×((Int)×(Int)))))×((X1)×((List (BA))×(List ((Int)×((Int)×((Int)×((BA)×(List (Int)))))))))):Prop:=RepS C3 m a0 c0 p.1/\RepS aJ m a1 c1 p.2.2.1/\RepS C4 m a2 c2 p.2.2.2
abbrev P2{X1:Type}(m:Mem)(a0:Option Addr)(c0:Nat)(a1:Option Addr)(c1:Nat)(a2:Option Addr)(c2:Nat)(a3:Option Addr)(c3:Nat)(p:((List ((Int)×((BA)×((Int)×(Int)))))×((X1)×((List (BA))×(List ((Int)×((Int)×((Int)×((BA)×(List (Int))))))))))×(List (Int))):Prop:=RepS C3 m a0 c0 p.1.1/\RepS aJ m a1 c1 p.1.2.2.1/\RepS C4 m a2 c2 p.1.2.2.2/\RepS (aX .i64) m a3 c3 p.2
abbrev P3{X1:Type}(m:Mem)(a0:Option Addr)(c0:Nat)(a1:Option Addr)(c1:Nat)(a2:Option Addr)(c2:Nat)(a3:Option Addr)(c3:Nat)(p:(List (Int))×((List ((Int)×((BA)×((Int)×(Int)))))×((X1)×((List (BA))×(List ((Int)×((Int)×((Int)×((BA)×(List (Int))))))))))):Prop:=RepS (aX .i64) m a0 c0 p.1/\RepS C3 m a1 c1 p.2.1/\RepS aJ m a2 c2 p.2.2.2.1/\RepS C4 m a3 c3 p.2.2.2.2
abbrev P4(m:Mem)(a0:Option Addr)(c0:Nat)(a1:Option Addr)(c1:Nat)(p:(List (BA))×(List ((Int)×((BA)×((List (BA))×(List ((Int)×((Int)×((Int)×((BA)×(List (Int)))))))))))):Prop:=RepS aJ m a0 c0 p.1/\RepS C5 m a1 c1 p.2
abbrev P5{X1:Type}{X2:Type}{X3:Type}(m:Mem)(a0:Option Addr)(c0:Nat)(a1:Option Addr)(c1:Nat)(a2:Option Addr)(c2:Nat)(a3:Option Addr)(c3:Nat)(p:(List ((Int)×((BA)×((Int)×(Int)))))×((X3)×((X2)×((X1)×((List (BA))×((List ((Int)×((Int)×((Int)×((BA)×(List (Int)))))))×(List (Int)))))))):Prop:=RepS C3 m a0 c0 p.1/\RepS aJ m a1 c1 p.2.2.2.2.1/\RepS C4 m a2 c2 p.2.2.2.2.2.1/\RepS (aX .i64) m a3 c3 p.2.2.2.2.2.2
abbrev P6{X1:Type}{X2:Type}{X3:Type}{X4:Type}(m:Mem)(a0:Option Addr)(c0:Nat)(a1:Option Addr)(c1:Nat)(a2:Option Addr)(c2:Nat)(a3:Option Addr)(c3:Nat)(p:(List ((Int)×((BA)×((Int)×(Int)))))×((X4)×((X3)×((X2)×((List (BA))×((List ((Int)×((Int)×((Int)×((BA)×(List (Int)))))))×((List (Int))×(X1)))))))):Prop:=RepS C3 m a0 c0 p.1/\RepS aJ m a1 c1 p.2.2.2.2.1/\RepS C4 m a2 c2 p.2.2.2.2.2.1/\RepS (aX .i64) m a3 c3 p.2.2.2.2.2.2.1
abbrev P7{X1:Type}{X2:Type}{X3:Type}(m:Mem)(a0:Option Addr)(c0:Nat)(a1:Option Addr)(c1:Nat)(a2:Option Addr)(c2:Nat)(a3:Option Addr)(c3:Nat)(a4:Option Addr)(c4:Nat)(p:(List ((Int)×((BA)×((Int)×(Int)))))×((X3)×((X2)×((X1)×((List (BA))×((List ((Int)×((Int)×((Int)×((BA)×(List (Int)))))))×((List (Int))×(List (BA))))))))):Prop:=RepS C3 m a0 c0 p.1/\RepS aJ m a1 c1 p.2.2.2.2.1/\RepS C4 m a2 c2 p.2.2.2.2.2.1/\RepS (aX .i64) m a3 c3 p.2.2.2.2.2.2.1/\RepS aJ m a4 c4 p.2.2.2.2.2.2.2
abbrev P8(m:Mem)(a0:Option Addr)(c0:Nat)(a1:Option Addr)(c1:Nat)(p:(List (BA))×(List ((BA)×((List (BA))×(List ((Int)×((BA)×((List (BA))×(List ((Int)×((Int)×((Int)×((BA)×(List (Int))))))))))))))):Prop:=RepS aJ m a0 c0 p.1/\RepS C6 m a1 c1 p.2
abbrev _root_.Go.Dc.St.f1:=@Go.Dc.St.front1
abbrev _root_.Go.Dc.St.f11:=@Go.Dc.St.front11
abbrev _root_.Go.Dc.St.f2:=@Go.Dc.St.front2
abbrev _root_.Go.Dc.St.f3:=@Go.Dc.St.front3
abbrev _root_.Go.Dc.St.f4:=@Go.Dc.St.front4
abbrev _root_.Go.Dc.St.f5:=@Go.Dc.St.front5
abbrev _root_.Go.Dc.St.f6:=@Go.Dc.St.front6
abbrev _root_.Go.Dc.St.f7:=@Go.Dc.St.front7
abbrev _root_.Go.Dc.St.f8:=@Go.Dc.St.front8
abbrev _root_.Go.Dc.St.f9:=@Go.Dc.St.front9
abbrev _root_.Go.Dc.St.h:=@Go.Dc.St.head
abbrev _root_.Go.Dc.St.t:=@Go.Dc.St.tail
abbrev wr(x:Int):Int:=IntKind.wrap .i64 x
abbrev v2:Value:=vS none ([]:T8) 0
abbrev v6:Value:= .slice none 0 0
abbrev v7:Value:=vS none ([]:Tq) 0
abbrev v8:Value:=vS none ([]:mM) 0
abbrev va:Value:=vS none ([]:Tb) 0
abbrev vb:Value:=vS none ([]:mU) 0
abbrev vc:Value:=vS none ([]:dZ) 0
abbrev vd:Value:=vS none ([]:iO) 0
abbrev ve:Value:=vS none ([]:IX) 0
end
end Go.Proofs.YtbclhfjdmfbegaaGreatDoor
