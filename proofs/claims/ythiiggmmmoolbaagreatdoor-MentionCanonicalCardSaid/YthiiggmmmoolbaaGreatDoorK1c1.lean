/- No condition but those of each theorem. -/
import Derived.Test.YthiiggmmmoolbaaGreatDoorProg
import Derived.WalkKit
import Derived.Deep.LoopGhost
import Derived.KernelRfl
import Derived.OrdersHeld
import Derived.OrdersIn
import Derived.LoopNIn
import Derived.Sort.LoopGhostIn
import Derived.Laws.AppendOwn
import Derived.RangeFuncLeaves
import Derived.RangeFuncRecord
import Derived.MapKept
import Derived.Maps.RangeRun
import Derived.ChangeKeysEq
import Derived.HandedShaped
import Derived.ChangeStays
import Derived.ChangeSame
import Derived.OpenShut
import Derived.WideShapes
import Derived.JoinedOf
import Derived.ReadAgain
import Derived.ChangeAt
import Derived.RowKit
import Derived.Lib.Overlaps
import Derived.Shelf.Sort.Plain
import Derived.Shelf.Slices.In.SortNone
import Derived.WalkSmall
import Derived.Recover
import Derived.Lib.Builder
import Derived.Lib.UnsafeStr
import Derived.Shelf.Strconv.Itoa3
import Derived.Room.Shelf.Join48
namespace Go
section
abbrev j0:=@Option.bind_some
abbrev j9:=@decide_eq_true_eq
abbrev jA:=@List.length_append
abbrev jB:=@Bool.false_eq_true
abbrev jC:=@List.length_cons
abbrev jD:=@List.append_assoc
abbrev jE:=@List.length_nil
abbrev jF:=@if_false
abbrev jG:=@Option.some.inj
abbrev jH:=@List.mem_cons_self
abbrev jI:=@Bool.and_eq_true
abbrev jJ:=@if_true
abbrev jK:=@List.mem_singleton
abbrev jL:=@List.mem_cons_of_mem
abbrev jM:=@Option.some.injEq
abbrev jN:=@List.getD_eq_getElem?_getD
abbrev jO:=@List.nil_append
abbrev jP:=@Nat.le_refl
abbrev jQ:=@List.cons_append
abbrev jR:=@List.drop_eq_getElem_cons
abbrev jS:=@Option.bind_eq_some_iff
abbrev jT:=@List.mem_cons
abbrev jU:=@List.all_eq_true
abbrev jV:=@decide_eq_true
abbrev jW:=@List.append_nil
abbrev jX:=@Int.toNat_natCast
abbrev jY:=@decide_eq_false
abbrev jZ:=@List.drop_eq_nil_of_le
abbrev kA:=@List.mem_append_left
abbrev kC:=@Bool.false_ne_true
abbrev kD:=@Bool.or_eq_false_iff
abbrev kE:=@Nat.zero_le
abbrev kF:=@Nat.zero_add
abbrev kG:=@List.map_cons
abbrev kH:=@List.getElem_mem
abbrev kI:=@List.drop_zero
abbrev kJ:=@beq_iff_eq
abbrev kK:=@List.eq_nil_of_length_eq_zero
abbrev kL:=@List.mem_append
abbrev kM:=@Bool.eq_iff_iff
abbrev kN:=@List.flatMap_cons
abbrev kO:=@List.mem_append_right
abbrev kP:=@Bool.not_false
abbrev kQ:=@Sum.map_inr
abbrev kS:=@Nat.add_mul
abbrev kT:=@Nat.not_lt_zero
abbrev kU:=@Bool.not_true
abbrev kV:=@List.takeWhile_cons_of_pos
abbrev kW:=@Option.map_some
abbrev kX:=@List.takeWhile_append_dropWhile
abbrev kY:=@List.length_eq_zero_iff
abbrev kZ:=@Option.map_eq_some_iff
abbrev gA:=@beq_self_eq_true
abbrev gB:=@List.not_mem_nil
abbrev gC:=@List.length_map
abbrev gD:=@List.take_append_of_le_length
abbrev gE:=@List.length_singleton
abbrev gF:=@List.cons.injEq
abbrev gG:=@List.extract_eq_take_drop
abbrev gH:=@Nat.mul_le_mul_right
abbrev gI:=@Nat.add_assoc
abbrev gJ:=@Nat.le_of_ble_eq_true
abbrev gK:=@List.length_take
abbrev gL:=@List.drop_append_of_le_length
abbrev gM:=@List.take_of_length_le
abbrev gN:=@Bool.false_or
abbrev gO:=@List.take_succ_eq_append_getElem
abbrev gP:=@List.take_append_drop
abbrev gQ:=@List.length_drop
abbrev gS:=@of_decide_eq_true
abbrev gT:=@Bool.not_eq_true'
abbrev gU:=@Array.toList_extract
abbrev gV:=@List.map_append
abbrev gW:=@List.length_set
abbrev gX:=@Bool.or_eq_true
abbrev gY:=@Int.natCast_succ
abbrev gZ:=@List.mem_map_of_mem
abbrev fA:=@List.size_toArray
abbrev fB:=@List.mem_range
abbrev fC:=@Nat.add_zero
abbrev fD:=@List.takeWhile_cons_of_neg
abbrev fE:=@List.length_pos_iff
abbrev fF:=@List.any_eq_false
abbrev fG:=@List.mem_of_find?_eq_some
abbrev fH:=@Bool.true_and
abbrev fI:=@List.take_length
abbrev fJ:=@List.take_left
abbrev fK:=@bne_self_eq_false
abbrev fL:=@Option.bind_assoc
abbrev fM:=@List.flatMap_append
abbrev fN:=@Array.toList_modify
abbrev fO:=@bne_iff_ne
abbrev fP:=@List.perm_middle
abbrev fQ:=@List.any_eq_true
abbrev fR:=@Nat.lt_or_ge
abbrev fT:=@Nat.eq_of_beq_eq_true
abbrev fU:=@List.takeWhile_prefix
abbrev fV:=@List.mem_map
abbrev fW:=@List.eq_nil_or_concat
abbrev fX:=@List.any_cons
abbrev fY:=@List.drop_left
abbrev fZ:=@List.nodup_cons
abbrev hB:=@List.map_inj_left
abbrev hD:=@List.ext_getElem?
abbrev hH:=@Array.toList_push
abbrev hJ:=@Nat.max_zero
abbrev hK:=@Nat.add_comm
abbrev hO:=@List.filterMap_cons
abbrev hQ:=@List.dropWhile_cons
abbrev hU:=@List.drop_length
abbrev hZ:=@List.takeWhile_sublist
abbrev dA:=@List.pairwise_cons
abbrev dB:=@List.concat_eq_append
abbrev dC:=@List.sum_cons
abbrev dD:=@List.mem_of_getElem?
abbrev dE:=@or_false
abbrev dF:=@Nat.lt_succ_self
abbrev dG:=@List.drop_append
abbrev dH:=@Nat.one_mul
abbrev dI:=@List.toList_toArray
abbrev dJ:=@List.getElem_modify
abbrev dK:=@Int.le_refl
abbrev dL:=@Array.length_toList
abbrev dM:=@Nat.add_sub_cancel
abbrev dN:=@List.prefix_iff_eq_take
abbrev dO:=@List.all_eq_not_any_not
abbrev dP:=@List.getElem_cons_drop
abbrev dQ:=@List.append_eq_nil_iff
abbrev dR:=@Array.size_append
abbrev dS:=@List.drop_drop
abbrev dT:=@Nat.max_assoc
abbrev dU:=@Bool.or_false
abbrev BA:=ByteArray
end
end Go
namespace Go.Dc
section
theorem kr{p:Prop}(h:p:=by kernel_rfl):p:=h
abbrev bL:=List (Nat×Value)
def look:bL->Nat->Option Value
 |[],_=>none
 |(k,v)::L,t=>bif Nat.beq k t then some v else look L t
theorem qJo(A L:bL)(t:Nat):look (A++L) t=(look A t).or (look L t):=by
 induction A with
 |nil=>simp[look]
 |cons p A a=>obtain⟨k,v⟩:=p;simp only[jQ,look];cases Nat.beq k t<;>simp[a]
def bM(L:bL):Operand->Option Value
 | .tmp t=>look L t
 | .const v=>some v
 | .global g=>some (.pointer (some ⟨g,0,none⟩))
 | .func f=>some (.func (.func f) #[] #[])
theorem ev{L:bL}{x:Operand}(v:Value)(h:bM L x=some v:=by kernel_rfl):bM L x=some v:=h
def mS(L:bL)(x:Operand):Value:=(bM L x).getD undef
structure Fr where
 sz:Nat
 marks:List Deferred
instance:Coe Fr Nat:=⟨Fr.sz⟩
def Fits(n:Fr)(a:Act)(L:bL):Prop:=a.tmps.size=n.sz/\a.defers=n.marks/\∀t v,look L t=some v->a.tmps[t]? =some v
theorem Fits.ev{n:Fr}{a:Act}{L:bL}(h:Fits n a L){x:Operand}{v:Value}(b:bM L x=some v):a.eval x=v:=by
 cases x with
 |tmp t=>simp[Act.eval,h.2.2 t v b]
 |const u=>simp[bM] at b;simp[Act.eval,b]
 |global g=>simp[bM] at b;simp[Act.eval,b]
 |func f=>simp[bM] at b;simp[Act.eval,b]
def ZO:Op->Bool
 | .select .. =>false
 |_=>true
def MI(L:bL):List Operand->Bool
 |[]=>true
 |x::l=>(bM L x).isSome&&MI L l
def oS(L:bL)(o:Op):Bool:=ZO o&&MI L o.operands.toList
theorem qJw{L:bL}{l:List Operand}(h:MI L l=true):∀x∈l,(bM L x).isSome=true:=by
 induction l with
 |nil=>simp
 |cons y l b=>
  simp only[MI,jI] at h
  intro x a
  rcases jT.1 a with rfl|a
  .exact h.1
  exact b h.2 x a
theorem Fits.exec{n:Fr}{a:Act}{L:bL}(h:Fits n a L){o:Oper}(ok:oS L o.op=true):execOp a.eval o=execOp (mS L) o:=by
 simp only[oS,jI] at ok
 refine execOp_congr o ?_ ?_
 .intro cs b c;rw[c] at ok;simp[ZO] at ok
 intro x d
 have:=qJw ok.2 x (by simpa using d)
 obtain⟨v,c⟩:=Option.isSome_iff_exists.1 this
 rw[h.ev c];simp[mS,c]
theorem Fits.put{n:Fr}{a:Act}{L:bL}(h:Fits n a L){d:Nat}(g:Nat.blt d n=true)(v:Value):Fits n (a.put (some d) v) ((d,v)::L):=by
 obtain⟨c,e,f⟩:=h
 have hd':d<n:=by simpa[Nat.blt_eq] using g
 refine⟨by simp[Act.put,c],by simp[Act.put,e],?_⟩
 intro t u b
 simp only[look] at b
 simp only[Act.put]
 by_cases hdt:d=t
 .subst hdt
  simp at b;subst b
  simp[Array.getElem?_setIfInBounds,c,hd']
 have:Nat.beq d t=false:=by cases hb:Nat.beq d t<;>simp_all [Nat.beq_eq]
 rw[this] at b
 simp[Array.getElem?_setIfInBounds,hdt,f t u b]
theorem Fits.sub{n:Fr}{a:Act}{L L':bL}(h:Fits n a L)(b:∀t v,look L' t=some v->look L t=some v):Fits n a L':=
 ⟨h.1,h.2.1,fun t v c=>h.2.2 t v (b t v c)⟩
def rC(P:Program){α:Type}:Sem α->Option α
 | .pure a=>some a
 | .program k=>rC P (k P)
 | .mark _ k=>rC P k
 |_=>none
theorem AN{P:Program}{α:Type}{s:Sem α}{a:α}(h:rC P s=some a)(w:World):s.run P w= .ok a w:=by
 induction s with
 |pure b=>simp[rC] at h;subst h;rfl
 |program k c=>exact c P h
 |mark m k c=>exact c h
 |_=>simp[rC] at h
def nT(ops:Array Oper)(L:bL)(g:Option (Nat×Bool)):Option Bool:=
 match g with
 |none=>some true
 |some (j,want)=>match(ops[j]?).bind (·.dst) with
  |none=>some false
  |some t=>match look L t with
   |none=>none
   |some (.bool b)=>some (bif want then b else !b)
   |some _=>some false
theorem Fits.wanted{n:Fr}{a:Act}{L:bL}(h:Fits n a L){ops:Array Oper}{o:Oper}{b:Bool}(c:nT ops L o.guard=some b):
  Region.wanted o (yielded ops a.tmps)=b:=by
 unfold nT at c
 unfold Region.wanted
 cases f:o.guard with
 |none=>simp[f] at c;simp[c]
 |some jw=>
  obtain⟨j,want⟩:=jw
  simp only[f] at c
  simp only[yielded]
  cases e:(ops[j]?).bind (·.dst) with
  |none=>simp[e] at c;subst c;rfl
  |some t=>
   simp only[e] at c
   cases d:look L t with
   |none=>simp[d] at c
   |some v=>
    have:=h.2.2 t v d
    simp only[d] at c
    cases v<;>simp_all<;>(subst c;cases want<;>simp)
def putL(n:Nat)(d:Option Nat)(v:Value)(L:bL):Option bL:=
 match d with
 |none=>some L
 |some d=>bif Nat.blt d n then some ((d,v)::L) else none
def JX:Option Next->Option Value
 |some (.value v)=>some v
 |some .skip=>some undef
 |_=>none
def sJ(P:Program)(n:Nat)(ops:Array Oper):Nat->Nat->bL->Option bL
 |0,_,L=>some L
 |k+1,i,L=>match ops[i]? with
  |none=>none
  |some o=>match nT ops L o.guard with
   |none=>none
   |some false=>(putL n o.dst undef L).bind fun L=>sJ P n ops k (i+1) L
   |some true=>bif oS L o.op then(JX (rC P (execOp (mS L) o))).bind fun v=>(putL n o.dst v L).bind fun L=>sJ P n ops k (i+1) L else none
def eF(ops:Array Oper):Nat->Nat->List Nat
 |0,_=>[]
 |k+1,i=>((ops[i]?).bind (·.dst)).toList++eF ops k (i+1)
def nY(ρ:Option Nat):Fence:={Fence.wide with round:=ρ}
def nZ(P:Program)(ops:Array Oper)(Q:Exit->Act->World->Prop)(i:Nat)(K:Act->World->Prop)(a:Act)(w:World):Prop:=
 match ops[i]? with
 |none=>K a w
 |some o=>if Region.wanted o (yielded ops a.tmps) then o.uponIn Fence.wide 0 P a K Q ((execOp a.eval o).run P w) else K (a.put o.dst undef) w
def yK(P:Program)(ops:Array Oper)(Q:Exit->Act->World->Prop):List Nat->Act->World->Prop
 |[],a,w=>Q .normal a w
 |i::rest,a,w=>nZ P ops Q i (yK P ops Q rest) a w
theorem WC{ρ:Option Nat}{P:Program}{o:Oper}{a:Act}{K K':Act->World->Prop}{Q:Exit->Act->World->Prop}{r:Result Next}(h:∀a w,K a w->K' a w)(c:o.uponIn Fence.wide 0 P a K Q r):o.uponIn (nY ρ) 0 P a K' Q r:=by
 cases r with
 |ok x w'=>
  cases x<;>simp only[Oper.uponIn] at c ⊢ <;>
   first
    |exact h _ _ c
    |exact⟨fun e=>by simp[nY,Fence.wide] at e,CallsIn.mono (F:=nY ρ) c.2 (fun e w'' b=>by cases e<;>first|exact h _ _ b|exact b)⟩
    |exact⟨fun e=>by simp[nY,Fence.wide] at e,RowsIn.mono (F:=nY ρ) c.2 (fun _ _ b=>h _ _ b)⟩
    |exact⟨fun e=>by simp[nY,Fence.wide] at e,RoundIn.mono (F:=nY ρ) c.2 (fun e w'' b=>by cases e<;>first|exact h _ _ b|exact b)⟩
 |halt x w'=>cases x<;>simp only[Oper.uponIn] at c ⊢ <;>exact c
theorem LS{P:Program}{ops:Array Oper}{Q:Exit->Act->World->Prop}{i:Nat}{K K':Act->World->Prop}{a:Act}{w:World}(h:∀a w,K a w->K' a w)(b:nZ P ops Q i K a w):nZ P ops Q i K' a w:=by
 unfold nZ at*
 split
 .rename_i ho;simp only[ho] at b;exact h _ _ b
 rename_i o ho
 simp only[ho] at b
 split
 .rename_i hw;simp only[hw,jJ] at b;exact WC (ρ:=none) h b
 rename_i hw;simp only[hw] at b;exact h _ _ b
def DW(ρ:Option Nat)(ops:Array Oper):Bool:=
 match ρ with
 |none=>true
 |some _=>ops.toList.all fun o=>match o.op with
  | .defer _=>false
  |_=>true
theorem qJj{ρ:Option Nat}{ops:Array Oper}(h:DW ρ ops=true){i:Nat}{o:Oper}(b:ops[i]? =some o)(ev:Operand->Value):o.semAt ρ ev=execOp ev o:=by
 cases ρ with
 |none=>rfl
 |some l=>
  refine Oper.semAt_eq _ _ _ fun c a=> ?_
  have:=jU.1 h o (by simpa using Array.mem_of_getElem? b)
  rw[a] at this
  exact kC this
theorem qDd{ρ:Option Nat}{P:Program}{ops:Array Oper}{Q:Exit->Act->World->Prop}(d:DW ρ ops=true){i:Nat}{K K':Act->World->Prop}(b:∀a w,K a w->K' a w){a:Act}{w:World}(h:nZ P ops Q i K a w):wpOpIn (nY ρ) 0 P ops Q i K' a w:=by
 unfold nZ at h
 unfold wpOpIn
 cases c:ops[i]? with
 |none=>simp only[c] at h ⊢;exact b _ _ h
 |some o=>
  simp only[c] at h ⊢
  by_cases hw:Region.wanted o (yielded ops a.tmps)=true
  .simp only[hw,jJ] at h ⊢
   refine⟨fun _ _=>trivial,?_⟩
   have e:o.semAt (nY ρ).round a.eval=execOp a.eval o:=qJj d c a.eval
   rw[e]
   exact WC b h
  simp only[hw] at h ⊢
  exact⟨fun _ _=>trivial,b _ _ h⟩
theorem qBk{ρ:Option Nat}{P:Program}{ops:Array Oper}{Q:Exit->Act->World->Prop}(b:DW ρ ops=true):∀(l:List Nat) (a:Act) (w:World),yK P ops Q l a w->wpOpsIn (nY ρ) 0 P ops Q l a w
 |[],_,_,h=>h
 |i::rest,a,w,h=>by
  rw[wpOpsIn_cons]
  exact qDd b (qBk b rest) h
def WO(P:Program)(n:Fr)(ops:Array Oper)(Q:Exit->Act->World->Prop)(i:Nat)(L:bL)(w:World):Prop:=
 ∀a,Fits n a L->yK P ops Q (List.range' i (ops.size-i)) a w
theorem HI{ops:Array Oper}{i:Nat}{o:Oper}(h:ops[i]? =some o):List.range' i (ops.size-i)=i::List.range' (i+1) (ops.size-(i+1)):=by
 have hi:i<ops.size:=(Array.getElem?_eq_some_iff.1 h).1
 have:ops.size-i=(ops.size-(i+1))+1:=by omega
 rw[this,List.range'_succ]
theorem Fits.putL{n:Fr}{a:Act}{L L':bL}(h:Fits n a L){d:Option Nat}{v:Value}(b:Dc.putL n d v L=some L'):Fits n (a.put d v) L':=by
 cases d with
 |none=>simp[Dc.putL] at b;subst b;exact h
 |some d=>
  simp only[Dc.putL] at b
  cases c:Nat.blt d n with
  |false=>simp[c] at b
  |true=>simp[c] at b;subst b;exact h.put c v
section
variable {P:Program} {n:Fr} {ops:Array Oper} {Q:Exit->Act->World->Prop}
theorem SE:∀(k i:Nat) (L L':bL) (w:World),sJ P n ops k i L=some L'->WO P n ops Q (i+k) L' w->WO P n ops Q i L w
 |0,i,L,L',w,h,g=>by simp[sJ] at h;subst h;exact g
 |k+1,i,L,L',w,h,g=>by
  intro a f
  simp only[sJ] at h
  cases l:ops[i]? with
  |none=>simp[l] at h
  |some o=>
   simp only[l] at h
   rw[HI l]
   simp only[yK,nZ,l]
   cases q:nT ops L o.guard with
   |none=>simp[q] at h
   |some b=>
    have c:=f.wanted q
    cases b with
    |false=>
     simp only[q] at h
     obtain⟨L1,r,s⟩:=jS.1 h
     simp only[c,jB,jF]
     exact SE k (i+1) L1 L' w s (by rw[gI,hK 1 k];exact g) _ (f.putL r)
    |true=>
     simp only[q] at h
     cases e:oS L o.op with
     |false=>simp[e] at h
     |true=>
      simp only[e,cond_true] at h
      obtain⟨v,p,h⟩:=jS.1 h
      obtain⟨L1,r,s⟩:=jS.1 h
      simp only[c,jJ]
      have next:=SE k (i+1) L1 L' w s (by rw[gI,hK 1 k];exact g) _ (f.putL r)
      rw[f.exec e]
      cases d:rC P (execOp (mS L) o) with
      |none=>simp[d,JX] at p
      |some nx=>
       rw[AN d w]
       cases nx<;>simp[d,JX] at p
       case value u=>subst p;exact next
       case skip=>subst p;exact next
def AQ(P:Program)(n:Nat)(ops:Array Oper)(k i:Nat)(L:bL)(ks:List Nat):Option (List (Option Value)):=(sJ P n ops k i L).map fun L'=>ks.map (look L')
def EU(d:Nat):bL->Bool
 |[]=>false
 |p::l=>Nat.beq p.1 d||EU d l
def wC(L new:bL):List Nat->Bool
 |[]=>true
 |d::l=>(EU d new||(look L d).isNone)&&wC L new l
theorem ZG{d:Nat}:∀{l:bL},EU d l=true->∃v,look l d=some v
 |[],h=>by simp[EU] at h
 |(k,v)::l,h=>by
  simp only[EU,gX] at h
  simp only[look]
  cases hb:Nat.beq k d with
  |true=>exact⟨v,rfl⟩
  |false=>simp[hb] at h;exact ZG h
theorem xQ{d:Nat}{v:Value}:∀{l:bL},look l d=some v->(d,v)∈l
 |[],h=>by simp[look] at h
 |(k,u)::l,h=>by
  simp only[look] at h
  cases a:Nat.beq k d with
  |true=>simp[a] at h;subst h;have:=fT a;subst this;exact jH ..
  |false=>simp[a] at h;exact jL _ (xQ h)
theorem VK{L new:bL}:∀{l:List Nat},wC L new l=true->∀d∈l,EU d new=true\/look L d=none
 |[],_=>by simp
 |e::l,h=>by
  simp only[wC,jI,gX,Option.isNone_iff_eq_none] at h
  intro d a
  rcases jT.1 a with rfl|a
  .exact h.1
  exact VK h.2 d a
theorem PZ:∀(k i:Nat) (L L':bL),sJ P n ops k i L=some L'->∀t,t∉eF ops k i->look L' t=look L t
 |0,i,L,L',h,t,_=>by simp[sJ] at h;subst h;rfl
 |k+1,i,L,L',h,t,c=>by
  simp only[sJ] at h
  cases g:ops[i]? with
  |none=>simp[g] at h
  |some o=>
   simp only[g] at h
   simp only[eF,g,j0,kL,not_or] at c
   have put:∀v L1,putL n o.dst v L=some L1->look L1 t=look L t:=by
    intro v L1 a
    cases e:o.dst with
    |none=>simp[putL,e] at a;subst a;rfl
    |some d=>
     simp only[putL,e] at a
     cases f:Nat.blt d n with
     |false=>simp[f] at a
     |true=>
      simp[f] at a;subst a
      have l:d≠t:=by rintro rfl;exact c.1 (by simp[e])
      have:Nat.beq d t=false:=by cases hq:Nat.beq d t<;>simp_all [Nat.beq_eq]
      simp[look,this]
   cases l:nT ops L o.guard with
   |none=>simp[l] at h
   |some b=>
    cases b with
    |false=>
     simp only[l] at h
     obtain⟨L1,a,f⟩:=jS.1 h
     rw[PZ k (i+1) L1 L' f t c.2,put _ _ a]
    |true=>
     simp only[l] at h
     cases e:oS L o.op with
     |false=>simp[e] at h
     |true=>
      simp only[e,cond_true] at h
      obtain⟨v,p,h⟩:=jS.1 h
      obtain⟨L1,a,f⟩:=jS.1 h
      rw[PZ k (i+1) L1 L' f t c.2,put _ _ a]
theorem tS{i:Nat}{L:bL}{w:World}(k:Nat)(new:bL)(f:AQ P n ops k i L (new.map (·.1))=some (new.map fun p=>some p.2))
  (o:wC L new (eF ops k i)=true) (h:WO P n ops Q (i+k) (new++L) w):WO P n ops Q i L w:=by
 simp only[AQ,kZ] at f
 obtain⟨L',g,s⟩:=f
 refine SE k i L L' w g ?_
 intro a r
 refine h a (r.sub ?_)
 intro t v b
 rw[qJo] at b
 cases hn:look new t with
 |some u=>
  simp[hn] at b;subst b
  have e:=xQ hn
  have:∀(l:bL),l.map (look L'∘(·.1))=l.map (fun p=>some p.2)->∀p∈l,look L' p.1=some p.2:=by
   intro l d p c
   induction l with
   |nil=>simp at c
   |cons q l x=>
    simp only[kG,gF,Function.comp] at d
    rcases jT.1 c with rfl|c
    .exact d.1
    exact x (by simpa[Function.comp] using d.2) c
  exact this new (by simpa using s) (t,u) e
 |none=>
  simp[hn] at b
  by_cases hw:t∈eF ops k i
  .rcases VK o t hw with c|d
   .obtain⟨u,e⟩:=ZG c;rw[e] at hn;cases hn
   rw[d] at b;cases b
  rw[PZ k i L L' g t hw];exact b
def cD(ops:Array Oper)(L:bL)(i:Nat):Option (Option Nat×Op):=
 match ops[i]? with
 |none=>none
 |some o=>match nT ops L o.guard with
  |some true=>bif oS L o.op then some (o.dst,o.op) else none
  |_=>none
theorem DK{L:bL}{i:Nat}{d:Option Nat}{op:Op}(h:cD ops L i=some (d,op)):
  ∃o,ops[i]? =some o/\o.dst=d/\o.op=op/\nT ops L o.guard=some true/\oS L o.op=true:=by
 unfold cD at h
 cases e:ops[i]? with
 |none=>simp[e] at h
 |some o=>
  simp only[e] at h
  cases a:nT ops L o.guard with
  |none=>simp[a] at h
  |some b=>
   cases b with
   |false=>simp[a] at h
   |true=>
    simp only[a] at h
    cases c:oS L o.op with
    |false=>simp[c] at h
    |true=>
     simp[c] at h
     exact⟨o,rfl,h.1,h.2,a,c⟩
def dZ(P:Program)(n:Fr)(ops:Array Oper)(Q:Exit->Act->World->Prop)(i:Nat)(N:bL->World->Prop)(L:bL)(w:World):Prop:=
 ∀a,Fits n a L->nZ P ops Q i (fun a' w'=>∃L',Fits n a' L'/\N L' w') a w
theorem bA{i:Nat}{L:bL}{w:World}(hi:Nat.blt i ops.size=true)(h:dZ P n ops Q i (fun L w=>WO P n ops Q (i+1) L w) L w):WO P n ops Q i L w:=by
 have hi':i<ops.size:=by simpa[Nat.blt_eq] using hi
 intro a d
 have e:ops[i]? =some ops[i]:=Array.getElem?_eq_getElem hi'
 rw[HI e]
 have fin:∀a' w',(∃L',Fits n a' L'/\WO P n ops Q (i+1) L' w')->yK P ops Q (List.range' (i+1) (ops.size-(i+1))) a' w':=fun a' w' ⟨L',b,c⟩=>c a' b
 exact LS fin (h a d)
section
variable {N:bL->World->Prop}
theorem mB{i d:Nat}{op:Op}{L:bL}{w w':World}{v:Value}(q:cD ops L i=some (some d,op))(p:Nat.blt d n=true)
  (c:∀o:Oper,o.op=op->(execOp (mS L) o).run P w= .ok (.value v) w')
  (h:N ((d,v)::L) w'):dZ P n ops Q i N L w:=by
 obtain⟨o,e,f,g,k,l⟩:=DK q
 intro a b
 unfold nZ
 simp only[e,b.wanted k,jJ]
 rw[b.exec l,c o g,Oper.uponIn_value,f]
 exact⟨_,b.put p v,h⟩
theorem AE{i:Nat}{op:Op}{L:bL}{w w':World}(l:cD ops L i=some (none,op))
  (c:∀o:Oper,o.op=op->(execOp (mS L) o).run P w= .ok .skip w')
  (h:N L w'):dZ P n ops Q i N L w:=by
 obtain⟨o,d,e,f,g,k⟩:=DK l
 intro a b
 unfold nZ
 simp only[d,b.wanted g,jJ]
 rw[b.exec k,c o f,Oper.uponIn_skip,e]
 exact⟨_,b,h⟩
theorem AF{i d:Nat}{op:Op}{L:bL}{w w':World}{v:Value}(q:cD ops L i=some (some d,op))(l:Nat.blt d n=true)
  (c:∀o:Oper,o.op=op->∃v' w',(execOp (mS L) o).run P w= .ok (.value v') w'/\N ((d,v')::L) w'):dZ P n ops Q i N L w:=by
 obtain⟨o,e,f,g,h,k⟩:=DK q
 obtain⟨v',w'',r,p⟩:=c o g
 intro a b
 unfold nZ
 simp only[e,b.wanted h,jJ]
 rw[b.exec k,r,Oper.uponIn_value,f]
 exact⟨_,b.put l v',p⟩
def tT(P:Program)(ops:Array Oper)(L:bL)(i:Nat):Option (Option Nat×Nat×Array Value):=
 match ops[i]? with
 |none=>none
 |some o=>match nT ops L o.guard with
  |some true=>bif oS L o.op then(match rC P (execOp (mS L) o) with
   |some (.enter f args)=>some (o.dst,f,args)
   |_=>none) else none
  |_=>none
theorem WF{L:bL}{i f:Nat}{d:Option Nat}{args:Array Value}(h:tT P ops L i=some (d,f,args)):
  ∃o,ops[i]? =some o/\o.dst=d/\nT ops L o.guard=some true/\oS L o.op=true/\rC P (execOp (mS L) o)=some (.enter f args):=by
 unfold tT at h
 cases e:ops[i]? with
 |none=>simp[e] at h
 |some o=>
  simp only[e] at h
  cases a:nT ops L o.guard with
  |none=>simp[a] at h
  |some b=>
   cases b with
   |false=>simp[a] at h
   |true=>
    simp only[a] at h
    cases c:oS L o.op with
    |false=>simp[c] at h
    |true=>
     simp only[c,cond_true] at h
     split at h
     .rename_i f' args' he
      simp only[jM,Prod.mk.injEq] at h
      obtain⟨g,rfl,rfl⟩:=h
      exact⟨o,rfl,g,a,c,he⟩
     cases h
theorem eA{i:Nat}{L:bL}{w:World}(d f:Nat)(args:Array Value)(q:tT P ops L i=some (some d,f,args))(k:Nat.blt d n=true)
  (h:Calls P f args w fun e w'=>∃v,e= .returned v/\N ((d,v)::L) w'):dZ P n ops Q i N L w:=by
 obtain⟨o,c,g,r,p,l⟩:=WF q
 intro a b
 unfold nZ
 simp only[c,b.wanted r,jJ]
 rw[b.exec p,AN l w,Oper.uponIn_enter]
 refine⟨fun e=>by simp[Fence.wide] at e,CallsIn.mono (callsIn_wide.2 h) ?_⟩
 rintro e w' ⟨v,rfl,hk'⟩
 rw[g]
 exact⟨_,b.put k v,hk'⟩
end
theorem aU{L:bL}{w:World}{i:Nat}(hi:ops.size=i)(h:∀a,Fits n a L->Q .normal a w):WO P n ops Q i L w:=by
 intro a b
 subst hi
 simp only[Nat.sub_self,List.range'_zero,yK]
 exact h a b
theorem aY{i:Nat}{L:bL}{w:World}(L':bL)(d:L'.map (fun p=>look L p.1)=L'.map fun p=>some p.2)(h:WO P n ops Q i L' w):WO P n ops Q i L w:=by
 intro a b
 refine h a (b.sub ?_)
 intro t v e
 have c:=xQ e
 have:=(hB.1 d) (t,v) c
 exact this
end
def W(ρ:Option Nat)(P:Program)(n:Fr)(c:Code)(Q:Exit->Act->World->Prop)(L:bL)(w:World):Prop:=∀a,Fits n a L->c.wpIn (nY ρ) 0 P Q a w
def X(n:Fr)(Q:Exit->Act->World->Prop)(e:Exit)(L:bL)(w:World):Prop:=∀a,Fits n a L->Q e a w
section
variable {ρ:Option Nat} {P:Program} {n:Fr} {Q:Exit->Act->World->Prop} {L:bL} {w:World}
theorem aE{y:Code}(h:W ρ P n y Q L w):X n (Exit.then (fun a w=>y.wpIn (nY ρ) 0 P Q a w) Q) .normal L w:=h
theorem bK{K:Act->World->Prop}{id:Nat}(h:X n Q (.exit id) L w):X n (Exit.then K Q) (.exit id) L w:=h
theorem aQ{K:Act->World->Prop}(h:X n Q .ret L w):X n (Exit.then K Q) .ret L w:=h
theorem bQ{id:Nat}(h:X n Q .normal L w):X n (Exit.inBlock id Q) .normal L w:=h
theorem bH{id:Nat}(h:X n Q .ret L w):X n (Exit.inBlock id Q) .ret L w:=h
theorem dW{id:Nat}(h:X n Q .normal L w):X n (Exit.inBlock id Q) (.exit id) L w:=by
 intro a b;simp only[Exit.inBlock,jJ];exact h a b
theorem xM{id id':Nat}(b:Nat.beq id' id=false)(h:X n Q (.exit id') L w):X n (Exit.inBlock id Q) (.exit id') L w:=by
 intro a c
 have:¬id'=id:=by rintro rfl;simp at b
 simp only[Exit.inBlock,if_neg this];exact h a c
theorem aG{x y:Code}(h:W ρ P n x (Exit.then (fun a w=>y.wpIn (nY ρ) 0 P Q a w) Q) L w):W ρ P n (.seq x y) Q L w:=fun a b=>wpIn_seq (h a b)
theorem aM(h:X n Q .normal L w):W ρ P n .skip Q L w:=fun a b=>wpIn_skip (h a b)
theorem aL(h:X n Q .ret L w):W ρ P n .ret Q L w:=fun a b=>wpIn_ret (h a b)
theorem cQ{id:Nat}(h:X n Q (.exit id) L w):W ρ P n (.exit id) Q L w:=fun a b=>wpIn_exit (h a b)
theorem bD{id:Nat}{c:Code}(h:W ρ P n c (Exit.inBlock id Q) L w):W ρ P n (.block id c) Q L w:=fun a b=>wpIn_block (h a b)
theorem qLt{id:Nat}{ops:Array Oper}(c:DW ρ ops=true)(h:WO P n ops Q 0 L w):W ρ P n (.region id ops false) Q L w:=by
 intro a b
 refine wpIn_region (qBk c _ _ _ ?_)
 have:=h a b
 simpa[List.range_eq_range'] using this
theorem bC{id:Nat}{ops:Array Oper}(h:WO P n ops Q 0 L w):W none P n (.region id ops false) Q L w:=qLt rfl h
theorem tR{c:Operand}{x y:Code}(b:Bool)(e:bM L c=some (.bool b))(g:b=true->W ρ P n x Q L w)(f:b=false->W ρ P n y Q L w):W ρ P n (.cond c x y) Q L w:=
 fun a d=>wpIn_cond_split (d.ev e) (fun h=>g h a d) (fun h=>f h a d)
theorem cX{c:Code}(L':bL)(d:L'.map (fun p=>look L p.1)=L'.map fun p=>some p.2)(h:W ρ P n c Q L' w):W ρ P n c Q L w:=by
 intro a b
 refine h a (b.sub ?_)
 intro t v e
 exact(hB.1 d) (t,v) (xQ e)
theorem vA{e:Exit}(L':bL)(c:L'.map (fun p=>look L p.1)=L'.map fun p=>some p.2)(h:X n Q e L' w):X n Q e L w:=by
 intro a b
 refine h a (b.sub ?_)
 intro t v d
 exact(hB.1 c) (t,v) (xQ d)
theorem cW{c:Code}(I:Nat->bL->World->Prop)(k:Nat)(f:I k L w)
  (round:∀k L w,I k L w->W ρ P n c (Exit.then (fun a' w'=>∃k' L',k'<k/\Fits n a' L'/\I k' L' w') Q) L w):W ρ P n (.loop c) Q L w:=by
 intro a b
 refine wpIn_loop_ghost (fun k a w=>∃L,Fits n a L/\I k L w) k ⟨L,b,f⟩ ?_
 rintro k a w ⟨L,b,o⟩
 refine wpIn_mono (round k L w o a b) ?_
 intro e a' w' d
 cases e with
 |normal=>obtain⟨k',L',g,h,l⟩:=d;exact⟨k',g,L',h,l⟩
 |_=>exact d
theorem qRz{k:Nat}{I:Nat->bL->World->Prop}(k':Nat)(b:k'<k)(h:I k' L w):X n (Exit.then (fun a' w'=>∃k' L',k'<k/\Fits n a' L'/\I k' L' w') Q) .normal L w:=
 fun _ a=>⟨k',L,b,a,h⟩
theorem SA{f:FuncId}{fn:Func}{c:Code}{args:Array Value}{R:Ending->World->Prop}(e:P.funcs[f]? =some fn)(d:fn.body=some c){k:Nat}(g:fn.ntmps=k)(L:bL)
  (b:L.map (fun p=>(args[p.1]?))=L.map fun p=>some p.2) (a:Nat.ble args.size k=true) (h:W none P ⟨k,[]⟩ c (bodyPost P fn R) L w):Calls P f args w R:=by
 refine calls_of_wp e d (wpIn_wide.1 (h _ ⟨?_,rfl,?_⟩))
 .subst g
  have:args.size<=fn.ntmps:=gJ a
  simp only[dR,Array.size_replicate];omega
 intro t v n
 have:=(hB.1 b) (t,v) (xQ n)
 have l:t<args.size:=(Array.getElem?_eq_some_iff.1 this).1
 simp only[Array.getElem?_append,l,jJ]
 exact this
end
attribute [irreducible] yK
end
section
def TW:List (Nat×Array Value):=[(1,((List.range 20).map fun i=>Value.int .u64 ((10^i:Nat):Int)).toArray)]
structure Mem where
 cell:Nat->Nat->Option Value
 obj:Nat->Option Obj
 wd:World
 ht:∀p∈TW,∃t f,obj p.1=some (.cells p.2 t f)
def qSr:Bool:=false
def Step(w w':World):Prop:=(w'.os=w.os/\w'.output=w.output)/\w'.tape=w.tape/\(qSr=true->w.drawn<=w'.drawn)
theorem nO{p:Prop}(h:p:=by first|exact fun _=>jP _|exact fun _=>Nat.le_succ _):p:=h
theorem Step.refl(w:World):Step w w:=⟨⟨rfl,rfl⟩,rfl,nO⟩
theorem Step.trans{c d e:World}(a:Step c d)(b:Step d e):Step c e:=⟨⟨b.1.1.trans a.1.1,b.1.2.trans a.1.2⟩,b.2.1.trans a.2.1,fun h=>Nat.le_trans (a.2.2 h) (b.2.2 h)⟩
def Mem.le(m m':Mem):Prop:=(∀b o v,m.cell b o=some v->m'.cell b o=some v)/\(∀b x,m.obj b=some x->m'.obj b=some x)/\m.wd=m'.wd
theorem Mem.le_refl(m:Mem):m.le m:=⟨fun _ _ _ h=>h,fun _ _ h=>h,rfl⟩
theorem Mem.le_trans{c d e:Mem}(a:c.le d)(b:d.le e):c.le e:=⟨fun _ _ _ h=>b.1 _ _ _ (a.1 _ _ _ h),fun _ _ h=>b.2.1 _ _ (a.2.1 _ _ h),a.2.2.trans b.2.2⟩
def Inv(m:Mem)(w:World):Prop:=
 (∀b o v,m.cell b o=some v->∃c e f,w.heap[b]? =some (.cells c e f)/\c[o]? =some v)/\(∀b x,m.obj b=some x->w.heap[b]? =some x)/\Step m.wd w
inductive Piece where
 |blk (b:Nat) (o:Obj)
 |room (a:Option Addr) (n cap:Nat) (e:TypeId) (sz:Nat)
def Piece.block:Piece->Option Nat
 | .blk b _=>some b
 | .room a _ _ _ _=>a.map (·.block)
def TQ(m:Mem)(b:Nat):Prop:=(∀o,m.cell b o=none)/\m.obj b=none
def Piece.holds(m:Mem)(w:World):Piece->Prop
 | .blk b o=>w.heap[b]? =some o/\TQ m b
 | .room none n cap _ _=>n=0/\cap=0
 | .room (some p) n cap e sz=>p.off=0/\p.spot=none/\n<=cap/\cap<=maxLen/\(∃cur,w.heap[p.block]? =some (.cells cur e (0,0))/\cur.size=cap*sz)/\
  (∀o,n*sz<=o->m.cell p.block o=none)/\m.obj p.block=none
def St(m:Mem)(own:List Piece)(w:World):Prop:=Inv m w/\(∀p∈own,p.holds m w)/\(own.filterMap Piece.block).Nodup
theorem sU{w:World}{b:Nat}{x:Obj}(h:w.heap[b]? =some x):b<w.heap.size:=(Array.getElem?_eq_some_iff.1 h).1
theorem Piece.holds_lt{m:Mem}{w:World}{p:Piece}(h:p.holds m w){b:Nat}(d:p.block=some b):b<w.heap.size:=by
 cases p with
 |blk c o=>simp[Piece.block] at d;subst d;exact sU h.1
 |room a n cap e sz=>
  cases a with
  |none=>simp[Piece.block] at d
  |some q=>simp[Piece.block] at d;subst d;obtain⟨_,_,_,_,⟨cur,f,_⟩,_⟩:=h;exact sU f
theorem St.inv{m:Mem}{own:List Piece}{w:World}(h:St m own w):Inv m w:=h.1
theorem St.fresh_free{m:Mem}{own:List Piece}{w:World}(h:St m own w):TQ m w.heap.size:=by
 constructor
 .intro o
  cases hc:m.cell w.heap.size o with
  |none=>rfl
  |some v=>
   obtain⟨c,e,f,a,_⟩:=h.1.1 _ _ _ hc
   have:=sU a;omega
 cases hc:m.obj w.heap.size with
 |none=>rfl
 |some x=>have:=sU (h.1.2.1 _ _ hc);omega
theorem Inv.keep{m:Mem}{w w':World}(h:Inv m w)(n:Step w w')(k:∀b,(∃x,w.heap[b]? =some x)->¬TQ m b->w'.heap[b]? =w.heap[b]?):Inv m w':=by
 refine⟨?_,?_,h.2.2.trans n⟩
 .intro b o v g
  obtain⟨c,e,f,a,l⟩:=h.1 b o v g
  exact⟨c,e,f,by rw[k b ⟨_,a⟩ (fun d=>by rw[d.1 o] at g;cases g)];exact a,l⟩
 intro b x g
 have a:=h.2.1 b x g
 rw[k b ⟨_,a⟩ (fun d=>by rw[d.2] at g;cases g)];exact a
theorem Piece.holds_keep{m:Mem}{w w':World}{p:Piece}(h:p.holds m w)(d:∀b,p.block=some b->w'.heap[b]? =w.heap[b]?):p.holds m w':=by
 cases p with
 |blk c o=>exact⟨by rw[d c rfl];exact h.1,h.2⟩
 |room a n cap e sz=>
  cases a with
  |none=>exact h
  |some q=>
   obtain⟨f,g,k,l,⟨cur,r,s⟩,t⟩:=h
   exact⟨f,g,k,l,⟨cur,by rw[d _ rfl];exact r,s⟩,t⟩
theorem St.grow{m:Mem}{own:List Piece}{w w':World}(h:St m own w)(e:Step w w')(a:∀b,b<w.heap.size->w'.heap[b]? =w.heap[b]?):St m own w':=
 ⟨h.1.keep e fun b ⟨_,f⟩ _=>a b (sU f),fun p c=>Piece.holds_keep (h.2.1 p c) fun b d=>a b (Piece.holds_lt (h.2.1 p c) d),h.2.2⟩
theorem DJ{own:List Piece}{b:Nat}:b∈own.filterMap Piece.block↔∃p∈own,p.block=some b:=by simp[List.mem_filterMap]
theorem St.block_lt{m:Mem}{own:List Piece}{w:World}(h:St m own w){b:Nat}(c:b∈own.filterMap Piece.block):b<w.heap.size:=by
 obtain⟨p,d,a⟩:=DJ.1 c
 exact Piece.holds_lt (h.2.1 p d) a
theorem St.alloc{m:Mem}{own:List Piece}{w w':World}(h:St m own w){o:Obj}(g:Step w w')(d:w'.heap=w.heap.push o):St m (.blk w.heap.size o::own) w':=by
 have c:=h.grow (w':=w') g (fun b e=>by rw[d,Array.getElem?_push];simp[Nat.ne_of_lt e])
 refine⟨c.1,?_,?_⟩
 .intro p a
  rcases jT.1 a with rfl|a
  .exact⟨by rw[d];simp,h.fresh_free⟩
  exact c.2.1 p a
 have a:List.filterMap Piece.block (.blk w.heap.size o::own)=w.heap.size::own.filterMap Piece.block:=rfl
 rw[a,fZ]
 exact⟨fun f=>by have:=h.block_lt f;omega,h.2.2⟩
theorem St.tail{m:Mem}{p:Piece}{own:List Piece}{w:World}(h:St m (p::own) w):St m own w:=by
 refine⟨h.1,fun q c=>h.2.1 q (jL _ c),?_⟩
 have:=h.2.2
 cases a:p.block with
 |none=>simpa[hO,a] using this
 |some b=>simp only[hO,a,fZ] at this;exact this.2
theorem St.head{m:Mem}{p:Piece}{own:List Piece}{w:World}(h:St m (p::own) w):p.holds m w:=h.2.1 p (jH ..)
theorem St.head_ne{m:Mem}{p:Piece}{own:List Piece}{w:World}(h:St m (p::own) w){b:Nat}(a:p.block=some b):b∉own.filterMap Piece.block:=by
 have:=h.2.2
 simp only[hO,a,fZ] at this
 exact this.1
theorem St.cons{m:Mem}{p:Piece}{own:List Piece}{w:World}(h:St m own w)(e:p.holds m w)(d:∀b,p.block=some b->b∉own.filterMap Piece.block):St m (p::own) w:=by
 refine⟨h.1,fun q c=> ?_,?_⟩
 .rcases jT.1 c with rfl|c
  .exact e
  exact h.2.1 q c
 cases a:p.block with
 |none=>simpa[hO,a] using h.2.2
 |some b=>simp only[hO,a,fZ];exact⟨d b a,h.2.2⟩
theorem St.perm{m:Mem}{own own':List Piece}{w:World}(h:St m own w)(a:own.Perm own'):St m own' w:=
 ⟨h.1,fun p b=>h.2.1 p (a.mem_iff.2 b),(a.filterMap _).nodup_iff.1 h.2.2⟩
theorem St.front1{m:Mem}{a b:Piece}{own:List Piece}{w:World}(h:St m (a::b::own) w):St m (b::a::own) w:=h.perm (.swap b a own)
theorem St.front2{m:Mem}{a b c:Piece}{own:List Piece}{w:World}(h:St m (a::b::c::own) w):St m (c::a::b::own) w:=
 h.perm ((List.Perm.cons a (.swap c b own)).trans (.swap c a _))
theorem St.front3{m:Mem}{a b c d:Piece}{own:List Piece}{w:World}(h:St m (a::b::c::d::own) w):St m (d::a::b::c::own) w:=
 h.perm (((List.Perm.cons a ((List.Perm.cons b (.swap d c own)).trans (.swap d b _)))).trans (.swap d a _))
theorem St.front4{m:Mem}{a b c d e:Piece}{own:List Piece}{w:World}(h:St m (a::b::c::d::e::own) w):St m (e::a::b::c::d::own) w:=by
 refine h.perm ?_
 have:List.Perm (b::c::d::e::own) (e::b::c::d::own):=(List.Perm.cons b ((List.Perm.cons c (.swap e d own)).trans (.swap e c _))).trans (.swap e b _)
 exact(List.Perm.cons a this).trans (.swap e a _)
theorem St.front5{m:Mem}{p0 p1 p2 p3 p4 p5:Piece}{own:List Piece}{w:World}(h:St m (p0::p1::p2::p3::p4::p5::own) w):St m (p5::p0::p1::p2::p3::p4::own) w:=
 h.perm (fP (a:=p5) (l₁:=[p0,p1,p2,p3,p4]) (l₂:=own))
theorem St.front6{m:Mem}{p0 p1 p2 p3 p4 p5 p6:Piece}{own:List Piece}{w:World}(h:St m (p0::p1::p2::p3::p4::p5::p6::own) w):St m (p6::p0::p1::p2::p3::p4::p5::own) w:=
 h.perm (fP (a:=p6) (l₁:=[p0,p1,p2,p3,p4,p5]) (l₂:=own))
theorem St.front7{m:Mem}{p0 p1 p2 p3 p4 p5 p6 p7:Piece}{own:List Piece}{w:World}(h:St m (p0::p1::p2::p3::p4::p5::p6::p7::own) w):St m (p7::p0::p1::p2::p3::p4::p5::p6::own) w:=
 h.perm (fP (a:=p7) (l₁:=[p0,p1,p2,p3,p4,p5,p6]) (l₂:=own))
theorem St.front9{m:Mem}{p0 p1 p2 p3 p4 p5 p6 p7 p8 p9:Piece}{own:List Piece}{w:World}(h:St m (p0::p1::p2::p3::p4::p5::p6::p7::p8::p9::own) w):St m (p9::p0::p1::p2::p3::p4::p5::p6::p7::p8::own) w:=
 h.perm (fP (a:=p9) (l₁:=[p0,p1,p2,p3,p4,p5,p6,p7,p8]) (l₂:=own))
theorem St.set{m:Mem}{own:List Piece}{w w':World}{b:Nat}{o o':Obj}(h:St m (.blk b o::own) w)(s:Step w w')(q:w'.heap[b]? =some o')
  (n:∀k,k<w.heap.size->k≠b->w'.heap[k]? =w.heap[k]?):St m (.blk b o'::own) w':=by
 have l:=h.head
 have f:=h.head_ne (b:=b) rfl
 have a:=h.tail
 refine St.cons ⟨a.1.keep s fun k ⟨x,t⟩ r=>n k (sU t) (fun e=>r (e▸l.2)),fun p g=>Piece.holds_keep (a.2.1 p g) fun k c=>n k (Piece.holds_lt (a.2.1 p g) c) (fun e=>f (DJ.2 ⟨p,g,e▸c⟩)),a.2.2⟩ ⟨q,l.2⟩ ?_
 intro k d;simp only[Piece.block,jM] at d;subst d;exact f
def Mem.addCells(m:Mem)(b:Nat)(f:Nat->Option Value):Mem:={m with cell:=fun k o=>if k=b then(match m.cell k o with|some v=>some v|none=>f o) else m.cell k o}
theorem Mem.le_addCells(m:Mem)(b:Nat)(f:Nat->Option Value):m.le (m.addCells b f):=by
 refine⟨fun k o v h=> ?_,fun _ _ h=>h,rfl⟩
 simp only[addCells]
 split
 .simp[h]
 exact h
theorem Piece.holds_addCells{m:Mem}{w:World}{p:Piece}{b:Nat}{f:Nat->Option Value}(h:p.holds m w)(d:p.block≠some b):p.holds (m.addCells b f) w:=by
 cases p with
 |blk c o=>
  have:c≠b:=fun e=>d (by simp[Piece.block,e])
  exact⟨h.1,fun o=>by simp[Mem.addCells,this,h.2.1 o],h.2.2⟩
 |room a n cap e sz=>
  cases a with
  |none=>exact h
  |some q=>
   have:q.block≠b:=fun e=>d (by simp[Piece.block,e])
   obtain⟨g,k,l,r,s,t,u⟩:=h
   exact⟨g,k,l,r,s,fun o v=>by simp[Mem.addCells,this,t o v],u⟩
theorem St.addCells{m:Mem}{own:List Piece}{w:World}(h:St m own w){b:Nat}{f:Nat->Option Value}(l:b∉own.filterMap Piece.block)
  (n:∀o v,f o=some v->∃c e fr,w.heap[b]? =some (.cells c e fr)/\c[o]? =some v):St (m.addCells b f) own w:=by
 refine⟨⟨?_,h.1.2⟩,fun p g=>Piece.holds_addCells (h.2.1 p g) fun e=>l (DJ.2 ⟨p,g,e⟩),h.2.2⟩
 intro k o v a
 simp only[Mem.addCells] at a
 split at a
 .rename_i hk;subst hk
  cases d:m.cell k o with
  |some u=>simp[d] at a;subst a;exact h.1.1 _ _ _ d
  |none=>simp[d] at a;exact n o v a
 exact h.1.1 _ _ _ a
def MRow(m:Mem)(b o:Nat)(cs:List Value):Prop:=∀j v,cs[j]? =some v->m.cell b (o+j)=some v
theorem MRow.mono{m m':Mem}{b o:Nat}{cs:List Value}(h:MRow m b o cs)(a:m.le m'):MRow m' b o cs:=fun j v c=>a.1 _ _ _ (h j v c)
theorem MRow.drop{m:Mem}{b o:Nat}{cs:List Value}(h:MRow m b o cs)(k:Nat):MRow m b (o+k) (cs.drop k):=by
 intro j v a
 have:=h (k+j) v (by simpa[List.getElem?_drop] using a)
 rw[gI];exact this
structure Codec(α:Type) where
 sz:Nat
 pos:0<sz
 rep:Mem->α->List Value->Prop
 len:∀m x cs,rep m x cs->cs.length=sz
 one:∀m x cs,rep m x cs->∀v∈cs,v.oneCell'=true
 mono:∀m m' x cs,m.le m'->rep m x cs->rep m' x cs
def RepS{α:Type}(c:Codec α)(m:Mem)(a:Option Addr)(cap:Nat)(l:List α):Prop:=
 l.length<=cap/\cap<=maxLen/\match a with
  |none=>cap=0
  |some p=>(p.spot=none\/l=[])/\∀i x,l[i]? =some x->∃cs,c.rep m x cs/\MRow m p.block (p.off+i*c.sz) cs
theorem RepS.mono{α:Type}{c:Codec α}{m m':Mem}{a:Option Addr}{cap:Nat}{l:List α}(h:RepS c m a cap l)(b:m.le m'):RepS c m' a cap l:=by
 refine⟨h.1,h.2.1,?_⟩
 cases a with
 |none=>exact h.2.2
 |some p=>
  refine⟨h.2.2.1,fun i x f=> ?_⟩
  obtain⟨cs,d,e⟩:=h.2.2.2 i x f
  exact⟨cs,c.mono _ _ _ _ b d,e.mono b⟩
theorem RepS.nil{α:Type}(c:Codec α)(m:Mem):RepS c m none 0 []:=⟨jP _,kE _,rfl⟩
theorem RepS.cells{α:Type}{c:Codec α}{m:Mem}{p:Addr}{cap:Nat}{l:List α}(h:RepS c m (some p) cap l):
  ∃cs,cs.length=l.length*c.sz/\(∀v∈cs,v.oneCell'=true)/\MRow m p.block p.off cs/\∀i x,l[i]? =some x->c.rep m x ((cs.drop (i*c.sz)).take c.sz):=by
 have key:∀(l:List α) (o:Nat),(∀i x,l[i]? =some x->∃cs,c.rep m x cs/\MRow m p.block (o+i*c.sz) cs)->
   ∃cs,cs.length=l.length*c.sz/\(∀v∈cs,v.oneCell'=true)/\MRow m p.block o cs/\∀i x,l[i]? =some x->c.rep m x ((cs.drop (i*c.sz)).take c.sz):=by
  intro l
  induction l with
  |nil=>intro o _;exact⟨[],by simp,by simp,fun j v h=>by simp at h,fun i x h=>by simp at h⟩
  |cons y l A=>
   intro o h
   obtain⟨n,q,z⟩:=h 0 y rfl
   have f:=c.len _ _ _ q
   obtain⟨k,r,s,t,u⟩:=A (o+c.sz) (fun i x g=>by
    obtain⟨cs,a,b⟩:=h (i+1) x (by simpa using g)
    exact⟨cs,a,by rw[kS,dH,hK (i*c.sz),<-gI] at b;exact b⟩)
   refine⟨n++k,by simp[f,r,kS,hK],?_,?_,?_⟩
   .intro v d
    rcases kL.1 d with d|d
    .exact c.one _ _ _ q v d
    exact s v d
   .intro j v d
    rw[List.getElem?_append] at d
    split at d
    .simpa using z j v d
    rename_i hj
    have:=t _ v d
    rw[f] at this hj
    have e:o+c.sz+(j-c.sz)=o+j:=by omega
    rw[e] at this;exact this
   intro i x g
   cases i with
   |zero=>simp at g;subst g;simp[f▸fJ (l₁:=n) (l₂:=k)];exact q
   |succ i=>
    have:=u i x (by simpa using g)
    have e:(n++k).drop ((i+1)*c.sz)=k.drop (i*c.sz):=by
     rw[dG,jZ (by rw[f,kS];omega),jO,f,kS,dH,dM]
    rw[e];exact this
 exact key l p.off (h.2.2.2)
def xO(P:Program)(t:TypeId):Option (TypeId×Nat×Nat×Nat):=
 match P.underlying t with
 |some (.slice e)=>match P.info? e with
  |some i=>match i.zero with
   |some z=>some (e,i.size,i.bytes,z.cells.size)
   |none=>none
  |none=>none
 |_=>none
theorem OM{P:Program}{t e sz by_ zs:Nat}(h:xO P t=some (e,sz,by_,zs)):
  P.underlying t=some (.slice e)/\∃i z,P.info? e=some i/\i.zero=some z/\i.size=sz/\i.bytes=by_/\z.cells.size=zs:=by
 unfold xO at h
 split at h
 .rename_i e' he
  split at h
  .rename_i i hi
   split at h
   .rename_i z hz
    simp only[jM,Prod.mk.injEq] at h
    obtain⟨rfl,a,b,c⟩:=h
    exact⟨he,i,z,hi,hz,a,b,c⟩
   cases h
  cases h
 cases h
def yG(P:Program)(u e:TypeId):Prop:=P.underlying u=some (.slice e)\/P.underlying u=some .string
theorem tP(g o j:Nat):(⟨g,o,none⟩:Addr).add j=⟨g,o+j,none⟩:=by unfold Addr.add;split<;>simp_all
theorem HN{p:Addr}(a:p.spot=none)(j:Nat):p.add j=⟨p.block,p.off+j,none⟩:=by
 obtain⟨b,o,s⟩:=p
 simp only at a;subst a
 exact tP b o j
section
variable {P:Program}
def JV(P:Program)(w:World)(sz:Nat)(x:Value)(n:Nat)(news:List Value):Prop:=
 (Builtin.lenOf x).run P w= .ok n w/\(Builtin.firstCells sz n x).run P w= .ok news.toArray w/\news.length=n*sz/\∀v∈news,v.oneCell'=true
theorem VG(w:World)(t u ty e:TypeId)(i:TypeInfo)(p:P.underlying t=some (.slice e))(q:yG P u e)(hi:P.info? e=some i){x:Value}{n:Nat}{news:List Value}
  (f:JV P w i.size x n news) (g sLen sCap:Nat) (cur:Array Value) (o:w.heap[g]? =some (.cells cur e (0,0))) (a:sLen+n<=sCap) (d:sLen*i.size+news.length<=cur.size):
  (Builtin.append_ #[t,u] ty #[.slice (some ⟨g,0,none⟩) sLen sCap,x]).run P w=
   .ok (.slice (some ⟨g,0,none⟩) (sLen+n) sCap) (w.setRow g (cur.toList.take (sLen*i.size)++news++cur.toList.drop (sLen*i.size+news.length)).toArray):=by
 obtain⟨h,k,r,l⟩:=f
 have c:=run_storeCells_at P g (sLen*i.size) e news 0 cur w o (by simpa using d) l
 simp only[fC] at c
 rcases q with b|b<;>simp[Builtin.append_,run_underlying p,run_underlying b,sizeOf,typeInfo,hi,h,a,k,tP,c]
theorem UY(w:World)(t u ty e:TypeId)(i:TypeInfo)(f:P.underlying t=some (.slice e))(g:yG P u e)(hi:P.info? e=some i){x:Value}{news:List Value}
  (b:JV P w i.size x 0 news):(Builtin.append_ #[t,u] ty #[.slice none 0 0,x]).run P w= .ok (.slice none 0 0) w:=by
 obtain⟨c,d,h,k⟩:=b
 rcases g with a|a<;>simp[Builtin.append_,run_underlying f,run_underlying a,sizeOf,typeInfo,hi,c,d]
theorem VA(w:World)(t u ty e:TypeId)(i:TypeInfo)(z:Value)(s:P.underlying t=some (.slice e))(v:yG P u e)(hi:P.info? e=some i)(y:i.zero=some z){x:Value}{n:Nat}{news:List Value}
  (f:JV P w i.size x n news) (base:Option Addr) (sLen sCap:Nat) (olds:List Value)
  (d:∀w':World,Step w w'->w'.heap=w.heap->(Builtin.firstCells i.size sLen (.slice base sLen sCap)).run P w'= .ok olds.toArray w')
  (hsrc':∀w':World,Step w w'->w'.heap=w.heap->(Builtin.firstCells i.size n x).run P w'= .ok news.toArray w')
  (o:sCap<sLen+n) (k:(sLen+n)*i.bytes<=140737488355328) (g:sLen+n<=maxLen):
  (Builtin.append_ #[t,u] ty #[.slice base sLen sCap,x]).run P w=
   .ok (.slice (some ⟨w.heap.size,0,none⟩) (sLen+n) (grownCap w (sLen+n) sCap e))
    (w.drew.alloc (.cells ((olds++news).toArray++Builtin.zeroCells z.cells (grownCap w (sLen+n) sCap e-(sLen+n))) e)):=by
 obtain⟨h,A,B,D⟩:=f
 have p:¬(sLen+n<=sCap):=by omega
 have h63':¬(9223372036854775807<(sLen:Int)+(n:Int)):=by simp only[maxLen] at g;omega
 have l:=growslice_fits (need:=sLen+n) (old:=sCap) (bytes:=i.bytes) o k
 have hfit':¬(281474976710656<Builtin.nextslicecap (sLen+n) sCap*i.bytes):=by omega
 have c:IntKind.i64.max=9223372036854775807:=by decide
 have q:=d w.drew ⟨⟨rfl,rfl⟩,rfl,nO⟩ rfl
 have r:=hsrc' w.drew ⟨⟨rfl,rfl⟩,rfl,nO⟩ rfl
 have a:(Question.appendCap (sLen+n) sCap e).forced=false:=rfl
 rcases v with b|b<;>
  simp[Builtin.append_,run_underlying s,run_underlying b,sizeOf,typeInfo,zeroValue,hi,y,h,p,h63',hfit',c,a,q,r,newRow,grownCap]<;>(congr 2;apply Array.ext';simp)
def cU{α:Type}(by_:Nat)(l k:List α):Option (List α):=if(l.length+k.length)*by_<=140737488355328/\l.length+k.length<=maxLen then some (l++k) else none
theorem RepS.of_cells{α:Type}{c:Codec α}{m:Mem}{b cap:Nat}{l:List α}{cs:List Value}(d:l.length<=cap)(e:cap<=maxLen)
  (f:∀i x,l[i]? =some x->c.rep m x ((cs.drop (i*c.sz)).take c.sz)) (g:MRow m b 0 cs):RepS c m (some ⟨b,0,none⟩) cap l:=by
 refine⟨d,e,.inl rfl,fun i x h=>⟨_,f i x h,?_⟩⟩
 intro j v a
 rw[List.getElem?_take] at a
 split at a
 .rw[List.getElem?_drop] at a
  have:=g _ v a
  simp only[kF] at this ⊢
  exact this
 cases a
theorem RepS.cellsA{α:Type}{c:Codec α}{m:Mem}{a:Option Addr}{cap:Nat}{l:List α}(h:RepS c m a cap l):
  ∃cs,cs.length=l.length*c.sz/\(∀v∈cs,v.oneCell'=true)/\(∀p,a=some p->MRow m p.block p.off cs)/\∀i x,l[i]? =some x->c.rep m x ((cs.drop (i*c.sz)).take c.sz):=by
 cases a with
 |none=>
  obtain⟨d,_,b⟩:=h
  have:l=[]:=kK (by simp only at b;omega)
  subst this
  exact⟨[],by simp,by simp,by simp,by simp⟩
 |some p=>
  obtain⟨cs,d,e,b,f⟩:=h.cells
  exact⟨cs,d,e,fun q g=>by cases g;exact b,f⟩
theorem Inv.cell{m:Mem}{w:World}(h:Inv m w){b o:Nat}{v:Value}(g:m.cell b o=some v):w.cell? ⟨b,o,none⟩=some v:=by
 obtain⟨c,e,f,a,d⟩:=h.1 b o v g
 simp[World.cell?,a,d]
theorem qBg{m:Mem}{w:World}(hi:Inv m w){a:Option Addr}{n cap sz:Nat}{cs:List Value}(f:cs.length=n*sz)(g:∀p,a=some p->(p.spot=none\/cs=[])/\MRow m p.block p.off cs)(e:a=none->cs=[]):
  (Builtin.firstCells sz n (.slice a n cap)).run P w= .ok cs.toArray w:=by
 cases a with
 |none=>rw[e rfl];simp[Builtin.firstCells]
 |some p=>
  obtain⟨b,d⟩:=g p rfl
  exact run_firstCells_some w sz n p n cap cs f fun j v c=>by
   rcases b with b|b
   .rw[HN b];exact hi.cell (d j v c)
   subst b;simp at c
theorem RepS.none_nil{α:Type}{c:Codec α}{m:Mem}{cap:Nat}{l:List α}(h:RepS c m none cap l):l=[]/\cap=0:=by
 obtain⟨b,_,a⟩:=h
 simp only at a
 exact⟨kK (by omega),a⟩
theorem RepS.spot{α:Type}{c:Codec α}{m:Mem}{p:Addr}{cap:Nat}{l:List α}(h:RepS c m (some p) cap l)(a:l≠[]):p.spot=none:=h.2.2.1.resolve_right a
def Gives{α:Type}(P:Program)(c:Codec α)(m:Mem)(x:Value)(k:List α):Prop:=
 ∃cs,(∀w:World,Inv m w->JV P w c.sz x k.length cs)/\(∀i y,k[i]? =some y->c.rep m y ((cs.drop (i*c.sz)).take c.sz))
theorem RepS.src{α:Type}{c:Codec α}{m:Mem}{a:Option Addr}{cap:Nat}{l:List α}(h:RepS c m a cap l):Gives P c m (.slice a l.length cap) l:=by
 obtain⟨cs,b,d,f,g⟩:=h.cellsA
 refine⟨cs,fun w hi=>⟨by simp[Builtin.lenOf],qBg hi b (fun p n=> ?_) (fun k=> ?_),b,d⟩,g⟩
 .subst n;exact⟨h.2.2.1.imp id (fun e=>by subst e;exact kK (by simpa using b)),f p rfl⟩
 subst k;obtain⟨rfl,rfl⟩:=h.none_nil;exact kK (by simpa using b)
theorem qPr{α:Type}{c:Codec α}{m:Mem}{l k:List α}{a b:List Value}(f:a.length=l.length*c.sz)
  (g:∀i x,l[i]? =some x->c.rep m x ((a.drop (i*c.sz)).take c.sz)) (h:∀i x,k[i]? =some x->c.rep m x ((b.drop (i*c.sz)).take c.sz)):
  ∀i x,(l++k)[i]? =some x->c.rep m x (((a++b).drop (i*c.sz)).take c.sz):=by
 intro i x d
 rw[List.getElem?_append] at d
 split at d
 .rename_i hi
  have e:i*c.sz+c.sz<=a.length:=by
   rw[f]
   calc i*c.sz+c.sz=(i+1)*c.sz:=by rw[kS,dH]
    _<=l.length*c.sz:=gH _ hi
  have:((a++b).drop (i*c.sz)).take c.sz=(a.drop (i*c.sz)).take c.sz:=by
   rw[gL (by omega),gD (by simp;omega)]
  rw[this];exact g i x d
 rename_i hi
 have e:a.length<=i*c.sz:=by rw[f];exact gH _ (by omega)
 have:(a++b).drop (i*c.sz)=b.drop ((i-l.length)*c.sz):=by
  rw[dG,jZ e,jO,f,Nat.sub_mul]
 rw[this];exact h _ x d
theorem qBi{m:Mem}{w:World}(hi:Inv m w){b:Nat}{cs:List Value}(h:MRow m b 0 cs){cur:Array Value}{e:TypeId}{f:Nat×Nat}(g:w.heap[b]? =some (.cells cur e f)):cur.toList.take cs.length=cs:=by
 apply hD
 intro j
 rw[List.getElem?_take]
 by_cases hj:j<cs.length
 .rw[if_pos hj]
  have:=h j cs[j] (by simp[hj])
  obtain⟨c,e',f',a,d⟩:=hi.1 _ _ _ this
  rw[g] at a
  simp only[jM,Obj.cells.injEq] at a
  obtain⟨rfl,_,_⟩:=a
  simp only[kF] at d
  simp[d,hj]
 rw[if_neg hj];simp[Nat.le_of_not_lt hj]
theorem St.know{m:Mem}{own:List Piece}{w:World}{b:Nat}{cs:List Value}{cur:Array Value}{e:TypeId}{f:Nat×Nat}(h:St m own w)(d:b∉own.filterMap Piece.block)
  (l:w.heap[b]? =some (.cells cur e f)) (g:cur.toList.take cs.length=cs) (c:∀o v,m.cell b o=some v->cs[o]? =some v):
  ∃m',m.le m'/\St m' own w/\MRow m' b 0 cs/\(∀o,cs.length<=o->m'.cell b o=none)/\m'.obj=m.obj/\∀k,k≠b->m'.cell k=m.cell k:=by
 refine⟨m.addCells b (fun o=>cs[o]?),m.le_addCells b _,h.addCells d ?_,?_,?_,rfl,?_⟩
 .intro o v a
  refine⟨cur,e,f,l,?_⟩
  rw[<-g,List.getElem?_take] at a
  split at a
  .simpa using a
  cases a
 .intro j v a
  simp only[Mem.addCells,kF,jJ]
  cases hc:m.cell b j with
  |none=>simp[a]
  |some u=>have:=c j u hc;rw[a] at this;simp_all
 .intro o a
  simp only[Mem.addCells,jJ]
  cases hc:m.cell b o with
  |none=>simp[a]
  |some u=>
   have:=c o u hc
   have n:=(List.getElem?_eq_some_iff.1 this).1
   omega
 intro k a;funext o;simp[Mem.addCells,a]
theorem qJv{α:Type}{c:Codec α}{m:Mem}{own:List Piece}{w:World}{t u ty e by_:Nat}(b3:xO P t=some (e,c.sz,by_,c.sz))(hu:yG P u e)
  {a:Option Addr} {cap:Nat} {l k r:List α} {x:Value} (Y:St m (.room a l.length cap e c.sz::own) w) (hr:RepS c m a cap l)
  (hx:Gives P c m x k)
  (M:cU by_ l k=some r):
  ∃a' cap' m' w',(Builtin.append_ #[t,u] ty #[.slice a l.length cap,x]).run P w= .ok (.slice a' r.length cap') w'/\m.le m'/\St m' (.room a' r.length cap' e c.sz::own) w'/\RepS c m' a' cap' r:=by
 obtain⟨ht,i,z,hi,hz,R,b9,c2⟩:=OM b3
 unfold cU at M
 split at M
 .rename_i Z
  simp only[jM] at M
  subst M
  obtain⟨Z,b6⟩:=Z
  have s:=Y.inv
  obtain⟨f,a6,b5⟩:=hx
  have U:=a6 w s
  obtain⟨d,K,c3,c1,b4⟩:=hr.cellsA
  have b7:f.length=k.length*c.sz:=U.2.2.1
  have a1:(d++f).length=(l++k).length*c.sz:=by simp[K,b7,kS]
  have a5:∀m',m.le m'->∀i y,(l++k)[i]? =some y->c.rep m' y (((d++f).drop (i*c.sz)).take c.sz):=fun m' D=>
   qPr K (fun i y hy=>c.mono _ _ _ _ D (b4 i y hy)) (fun i y hy=>c.mono _ _ _ _ D (b5 i y hy))
  have H:=Y.tail
  -- a new block
  have out:cap<l.length+k.length->(∀w':World,Step w w'->w'.heap=w.heap->(Builtin.firstCells i.size l.length (.slice a l.length cap)).run P w'= .ok d.toArray w')->
    ∃a' cap' m' w',(Builtin.append_ #[t,u] ty #[.slice a l.length cap,x]).run P w= .ok (.slice a' (l++k).length cap') w'/\m.le m'/\St m' (.room a' (l++k).length cap' e c.sz::own) w'/\RepS c m' a' cap' (l++k):=by
   intro E a9
   have hinv':∀w':World,Step w w'->w'.heap=w.heap->Inv m w':=fun w' M hw=>s.keep M (fun b _ _=>by rw[hw])
   have A:=VA w t u ty e i z ht hu hi hz (n:=k.length) (news:=f) (by rw[R];exact U) a l.length cap d a9
    (fun w' M hw=>by rw[R];exact(a6 w' (hinv' w' M hw)).2.1) E (by rw[b9];exact Z) b6
   generalize hgc:grownCap w (l.length+k.length) cap e=gc at A
   have a2:l.length+k.length<=gc:=hgc▸grownCap_ge _ _ _ _
   have a7:gc<=maxLen:=hgc▸grownCap_le_maxLen _ _ _ _ b6
   generalize hcur:(d++f).toArray++Builtin.zeroCells z.cells (gc-(l.length+k.length))=cur at A
   have a8:cur.size=gc*c.sz:=by
    rw[<-hcur]
    simp only[dR,fA,size_zeroCells,c2,a1,jA,<-kS]
    congr 1;omega
   have B:=H.alloc (w':=w.drew.alloc (.cells cur e)) (o:= .cells cur e) ⟨⟨rfl,rfl⟩,rfl,nO⟩ rfl
   have b1:cur.toList.take (d++f).length=d++f:=by rw[<-hcur,Array.toList_append,dI,fJ]
   have V:=H.fresh_free
   obtain⟨m',D,hst',a4,b0,a3,S⟩:=St.know (b:=w.heap.size) B.tail (B.head_ne rfl) B.head.1 b1 (fun o v G=>by rw[V.1 o] at G;cases G)
   refine⟨some ⟨w.heap.size,0,none⟩,gc,m',w.drew.alloc (.cells cur e),by rw[A,jA],D,?_,RepS.of_cells (by simpa using a2) a7 (a5 m' D) a4⟩
   refine hst'.cons ⟨rfl,rfl,by simpa using a2,a7,⟨cur,B.head.1,a8⟩,?_,?_⟩ ?_
   .intro o ho;exact b0 o (by rw[a1];exact ho)
   .rw[a3];exact V.2
   intro b F
   simp only[Piece.block,kW,jM] at F
   subst F
   exact B.head_ne rfl
  cases a with
  |none=>
   obtain⟨rfl,rfl⟩:=hr.none_nil
   have B:d=[]:=kK (by simpa using K)
   subst B
   by_cases hk:k.length=0
   .have V:k=[]:=kK hk
    subst V
    refine⟨none,0,m,w,?_,m.le_refl,Y,hr⟩
    have:=UY w t u ty e i ht hu hi (x:=x) (news:=f) (by rw[R];exact U)
    simpa using this
   exact out (by simp;omega) (fun w' _ _=>by simp[Builtin.firstCells])
  |some p=>
   obtain⟨h1,h2,h3,h4,⟨cur,h5,h6⟩,h7,h8⟩:=Y.head
   obtain⟨g,off,spot⟩:=p
   simp only at h1 h2 h5 h7 h8
   subst h1;subst h2
   have B:=c1 _ rfl
   simp only at B
   by_cases hroom:l.length+k.length<=cap
   .have b2:l.length*i.size+f.length<=cur.size:=by rw[b7,h6,R,<-kS];exact gH _ hroom
    have A:=VG w t u ty e i ht hu hi (x:=x) (n:=k.length) (news:=f) (by rw[R];exact U) g l.length cap cur h5 hroom b2
    rw[R,<-K] at A
    rw[qBi s B h5] at A
    generalize hw':w.setRow g (d++f++cur.toList.drop (d.length+f.length)).toArray=w' at A
    have a2:w'.heap[g]? =some (.cells (d++f++cur.toList.drop (d.length+f.length)).toArray e (0,0)):=by rw[<-hw'];exact setRow_heap w g cur _ e _ h5
    have S:∀b,b≠g->w'.heap[b]? =w.heap[b]? :=fun b F=>by rw[<-hw'];exact setRow_other w g b _ F
    have a8:(d++f++cur.toList.drop (d.length+f.length)).toArray.size=cap*c.sz:=by
     simp only[fA,jA,gQ,dL]
     have:l.length*c.sz+k.length*c.sz<=cap*c.sz:=by rw[<-kS];exact gH _ hroom
     omega
    have a9:=Y.head_ne (b:=g) rfl
    have b8:St m own w':=by
     refine⟨?_,fun q hq=>Piece.holds_keep (H.2.1 q hq) (fun b F=>S b ?_),H.2.2⟩
     .refine⟨?_,?_,s.2.2.trans (by rw[<-hw'];exact⟨⟨rfl,rfl⟩,rfl,nO⟩)⟩
      .intro b o v G
       by_cases F:b=g
       .subst F
        refine⟨_,e,(0,0),a2,?_⟩
        by_cases ho:o<l.length*c.sz
        .obtain⟨cc,e',f',V,a7⟩:=s.1 b o v G
         rw[h5] at V
         simp only[jM,Obj.cells.injEq] at V
         obtain⟨rfl,_,_⟩:=V
         have E:o<d.length:=by rw[K];exact ho
         have b1:=qBi s B h5
         have:d[o]? =some v:=by
          rw[<-b1,List.getElem?_take,if_pos E]
          simpa using a7
         simp only[List.getElem?_toArray,jD,List.getElem?_append,if_pos E]
         exact this
        rw[h7 o (by omega)] at G;cases G
       obtain⟨cc,e',f',V,a7⟩:=s.1 b o v G
       exact⟨cc,e',f',by rw[S b F];exact V,a7⟩
      intro b y hy
      have:b≠g:=by rintro rfl;rw[h8] at hy;cases hy
      rw[S b this];exact s.2.1 b y hy
     rintro rfl;exact a9 (DJ.2 ⟨q,hq,F⟩)
    obtain⟨m',D,hst',a4,b0,a3,_⟩:=St.know (b:=g) (cs:=d++f) b8 a9 a2 (by rw[dI,fJ]) (fun o v G=>by
     by_cases ho:o<l.length*c.sz
     .have E:o<d.length:=by rw[K];exact ho
      have:=B o d[o] (by simp[E])
      simp only[kF] at this
      rw[this] at G
      simp only[List.getElem?_append,if_pos E]
      rw[<-G];simp[E]
     rw[h7 o (by omega)] at G;cases G)
    refine⟨some ⟨g,0,none⟩,cap,m',w',by rw[A,jA],D,?_,RepS.of_cells (by simpa using hroom) h4 (a5 m' D) a4⟩
    refine hst'.cons ⟨rfl,rfl,by simpa using hroom,h4,⟨_,a2,a8⟩,?_,?_⟩ ?_
    .intro o ho;exact b0 o (by rw[a1];exact ho)
    .rw[a3];exact h8
    intro b F
    simp only[Piece.block,kW,jM] at F
    subst F;exact a9
   exact out (by omega) (fun w' M hw=>by
    have hinv':Inv m w':=s.keep M (fun b _ _=>by rw[hw])
    rw[R]
    exact qBg hinv' K (fun p A=>by cases A;exact⟨.inl rfl,B⟩) (fun h=>by cases h))
 cases M
end
def aT(k:IntKind):Codec Int where
 sz:=1
 pos:=Nat.one_pos
 rep _ x cs:=cs=[.int k x]
 len:=by rintro _ _ _ rfl;rfl
 one:=by rintro _ _ _ rfl v a;simp at a;subst a;rfl
 mono:=fun _ _ _ _ _ h=>h
def mM:Codec UInt8 where
 sz:=1
 pos:=Nat.one_pos
 rep _ x cs:=cs=[.int .u8 (x.toNat:Int)]
 len:=by rintro _ _ _ rfl;rfl
 one:=by rintro _ _ _ rfl v a;simp at a;subst a;rfl
 mono:=fun _ _ _ _ _ h=>h
def qVo:Codec Bool where
 sz:=1
 pos:=Nat.one_pos
 rep _ x cs:=cs=[.bool x]
 len:=by rintro _ _ _ rfl;rfl
 one:=by rintro _ _ _ rfl v a;simp at a;subst a;rfl
 mono:=fun _ _ _ _ _ h=>h
def aH:Codec BA where
 sz:=1
 pos:=Nat.one_pos
 rep _ x cs:=cs=[.string x]
 len:=by rintro _ _ _ rfl;rfl
 one:=by rintro _ _ _ rfl v a;simp at a;subst a;rfl
 mono:=fun _ _ _ _ _ h=>h
def tD{α β:Type}(a:Codec α)(b:Codec β):Codec (α×β) where
 sz:=a.sz+b.sz
 pos:=Nat.lt_of_lt_of_le a.pos (Nat.le_add_right ..)
 rep m x cs:=∃c d,cs=c++d/\a.rep m x.1 c/\b.rep m x.2 d
 len:=by rintro m x cs ⟨c,d,rfl,e,f⟩;rw[jA,a.len _ _ _ e,b.len _ _ _ f]
 one:=by
  rintro m x cs ⟨c,d,rfl,e,f⟩ v g
  rcases kL.1 g with g|g
  .exact a.one _ _ _ e v g
  exact b.one _ _ _ f v g
 mono:=by rintro m m' x cs g ⟨c,d,rfl,e,f⟩;exact⟨c,d,rfl,a.mono _ _ _ _ g e,b.mono _ _ _ _ g f⟩
def EX{α:Type}(c:Codec α):Codec (List α) where
 sz:=1
 pos:=Nat.one_pos
 rep m l cs:=∃a cap,cs=[.slice a l.length cap]/\RepS c m a cap l
 len:=by rintro _ _ _ ⟨a,cap,rfl,_⟩;rfl
 one:=by rintro _ _ _ ⟨a,cap,rfl,_⟩ v b;simp at b;subst b;rfl
 mono:=by rintro m m' x cs b ⟨a,cap,rfl,h⟩;exact⟨a,cap,rfl,h.mono b⟩
theorem xY{α:Type}{c:Codec α}{m:Mem}{a:Option Addr}{cap:Nat}{l:List α}(h:RepS c m a cap l):(EX c).rep m l [.slice a l.length cap]:=⟨a,cap,rfl,h⟩
def RepAll{α:Type}(c:Codec α)(m:Mem):List α->List Value->Prop
 |[],cs=>cs=[]
 |x::l,cs=>∃a b,cs=a++b/\c.rep m x a/\RepAll c m l b
theorem RepAll.len{α:Type}{c:Codec α}{m:Mem}:∀{l:List α} {cs:List Value},RepAll c m l cs->cs.length=l.length*c.sz
 |[],cs,h=>by simp[RepAll] at h;simp[h]
 |x::l,cs,h=>by
  obtain⟨d,e,rfl,a,b⟩:=h
  rw[jA,c.len _ _ _ a,b.len,jC,kS,dH,hK]
theorem RepAll.rep{α:Type}{c:Codec α}{m:Mem}:∀{l:List α} {cs:List Value},RepAll c m l cs->∀i x,l[i]? =some x->c.rep m x ((cs.drop (i*c.sz)).take c.sz)
 |[],_,_=>by simp
 |y::l,cs,h=>by
  obtain⟨g,d,rfl,f,k⟩:=h
  intro i x b
  have a:=c.len _ _ _ f
  cases i with
  |zero=>simp at b;subst b;simp[<-a];exact f
  |succ i=>
   have e:(g++d).drop ((i+1)*c.sz)=d.drop (i*c.sz):=by
    rw[dG,jZ (by rw[a,kS];omega),jO,a,kS,dH,dM]
   rw[e];exact k.rep i x (by simpa using b)
def oM(P:Program)(t:TypeId)(cs:List Value):Option Value:=
 match P.underlying t with
 |some (.struct _)|some (.array _ _)=>match P.info? t with
  |some i=>bif Nat.ble i.size cs.length then some (.agg (cs.take i.size).toArray) else none
  |none=>none
 |some _=>cs.head?
 |none=>none
def NG:TypeDesc->Bool
 | .struct _=>true
 | .array _ _=>true
 |_=>false
theorem xN{P:Program}{w:World}{t:TypeId}{b o:Nat}{cs:List Value}{v:Value}(g:∀j u,cs[j]? =some u->w.cell? ⟨b,o+j,none⟩=some u)(h:oM P t cs=some v):
  (loadVar t ⟨b,o,none⟩).run P w= .ok v w:=by
 have agg:∀d,P.underlying t=some d->(isAgg t).run P w= .ok (NG d) w:=by
  intro d a;unfold isAgg;cases d<;>simp[run_underlying a,NG]
 have big:∀d,P.underlying t=some d->NG d=true->(match P.info? t with
  |some i=>bif Nat.ble i.size cs.length then some (Value.agg (cs.take i.size).toArray) else none
  |none=>none)=some v->(loadVar t ⟨b,o,none⟩).run P w= .ok v w:=by
  intro d a l h
  cases hi:P.info? t with
  |none=>simp[hi] at h
  |some i=>
   simp only[hi] at h
   cases e:Nat.ble i.size cs.length with
   |false=>simp[e] at h
   |true=>
    simp[e] at h
    subst h
    have hle':=gJ e
    have k:=run_loadCells_list (P:=P) w ⟨b,o,none⟩ (cs.take i.size) (fun j u f=>by
     rw[tP]
     rw[List.getElem?_take] at f
     split at f
     .exact g j u f
     cases f)
    have:(cs.take i.size).length=i.size:=by simp;omega
    rw[this] at k
    have c:=agg d a
    rw[l] at c
    simp[loadVar,c,sizeOf,typeInfo,hi,k]
 unfold oM at h
 split at h
 .rename_i a;exact big _ a rfl h
 .rename_i a;exact big _ a rfl h
 .rename_i d hn1 hn2 a
  have c:=agg d a
  have e:NG d=false:=by
   cases d<;>first|rfl|exact(hn1 _ rfl).elim|exact(hn2 _ _ rfl).elim
  rw[e] at c
  have f:cs[0]? =some v:=by rw[List.head?_eq_getElem?] at h;exact h
  have:=g 0 v f
  simp only[fC] at this
  simp[loadVar,c,this]
 cases h
section
variable {P:Program} {n:Fr} {ops:Array Oper} {Q:Exit->Act->World->Prop} {i d:Nat} {L:bL} {w:World} {m:Mem} {own:List Piece} {N:bL->World->Prop}
theorem bV{L:bL}{x:Operand}{v:Value}(h:bM L x=some v):mS L x=v:=by simp[mS,h]
theorem VP{t:TypeId}{x:Operand}{b o:Nat}{cs:List Value}(v:Value)(f:cD ops L i=some (some d,.load t x))(c:Nat.blt d n=true)
  (r:bM L x=some (.pointer (some ⟨b,o,none⟩))) (a:St m own w) (k:MRow m b o cs) (p:oM P t cs=some v)
  (h:N ((d,v)::L) w):dZ P n ops Q i N L w:=by
 refine mB f c (fun q g=> ?_) h
 have e:=xN (P:=P) (w:=w) (t:=t) (b:=b) (o:=o) (cs:=cs) (v:=v) (fun j u l=>a.inv.cell (k j u l)) p
 simp[execOp,g,Instr.loadAt,bV r,Instr.sureAddr,e]
theorem DB{t e:TypeId}{x:Operand}{b o:Nat}{c:Array Value}{f:Nat×Nat}(v:Value)(p:cD ops L i=some (some d,.load t x))(k:Nat.blt d n=true)
  (z:bM L x=some (.pointer (some ⟨b,o,none⟩))) (r:Piece.holds m w (.blk b (.cells c e f))) (y:oM P t (c.toList.drop o)=some v)
  (h:N ((d,v)::L) w):dZ P n ops Q i N L w:=by
 refine mB p k (fun q s=> ?_) h
 have g:=r.1
 have l:=xN (P:=P) (w:=w) (t:=t) (b:=b) (o:=o) (cs:=c.toList.drop o) (v:=v) (fun j u a=>by
  rw[List.getElem?_drop] at a
  simp only[World.cell?,g]
  simpa using a) y
 simp[execOp,s,Instr.loadAt,bV z,Instr.sureAddr,l]
def MU:List Value->Bool
 |[]=>true
 |v::l=>v.oneCell'&&MU l
theorem XO{l:List Value}(h:MU l=true):∀v∈l,v.oneCell'=true:=by
 induction l with
 |nil=>simp
 |cons u l b=>
  simp only[MU,jI] at h
  intro v a
  rcases jT.1 a with rfl|a
  .exact h.1
  exact b h.2 v a
def xR(P:Program)(t:TypeId)(v:Value)(o n:Nat):Bool:=
 match P.info? t with
 |some i=>Nat.beq v.cells.size i.size&&Nat.ble (o+v.cells.size) n&&MU v.cells.toList
 |none=>false
theorem LN{t e:TypeId}{x y:Operand}{b o:Nat}{c c':Array Value}{v:Value}(s:cD ops L i=some (none,.store t x y))
  (z:bM L x=some (.pointer (some ⟨b,o,none⟩))) (A:bM L y=some v) (f:St m (.blk b (.cells c e (0,0))::own) w) (d:xR P t v o c.size=true)
  (hc':(c.toList.take o++v.cells.toList++c.toList.drop (o+v.cells.toList.length)).toArray=c')
  (h:∀w',St m (.blk b (.cells c' e (0,0))::own) w'->N L w'):dZ P n ops Q i N L w:=by
 unfold xR at d
 cases hi:P.info? t with
 |none=>simp[hi] at d
 |some inf=>
  simp only[hi,jI] at d
  obtain⟨⟨g,l⟩,p⟩:=d
  have h1':=fT g
  have h2':=gJ l
  have a:=run_storeCells_at P b o e v.cells.toList 0 c w f.head.1 (by simpa using h2') (XO p)
  simp only[fC] at a
  rw[hc'] at a
  refine AE s (fun q u=> ?_) (h (w.setRow b c') (f.set ⟨⟨rfl,rfl⟩,rfl,nO⟩ (setRow_heap w b c c' e _ f.head.1) (fun k _ r=>setRow_other w b k _ r)))
  simp[execOp,u,Instr.storeAt,bV z,bV A,Instr.sureAddr,storeVar,sizeOf,typeInfo,hi,h1',a]
theorem WK{e:TypeId}{x:Operand}(v:Value)(f:cD ops L i=some (some d,.box e x))(c:Nat.blt d n=true)(k:bM L x=some v)(a:St m own w)
  (h:∀b w',St m (.blk b (.cells v.cells e (0,0))::own) w'->N ((d,.pointer (some ⟨b,0,none⟩))::L) w'):dZ P n ops Q i N L w:=by
 refine mB (w':=w.alloc (.cells v.cells e)) f c (fun q g=> ?_) (h w.heap.size _ (a.alloc ⟨⟨rfl,rfl⟩,rfl,nO⟩ rfl))
 simp[execOp,g,Instr.box,bV k,newVar,newRow]
theorem St.settle{b:Nat}{c:Array Value}{e:TypeId}{f:Nat×Nat}(h:St m (.blk b (.cells c e f)::own) w):∃m',m.le m'/\St m' own w/\MRow m' b 0 c.toList:=by
 obtain⟨m',d,g,k,_⟩:=St.know (cs:=c.toList) h.tail (h.head_ne rfl) h.head.1 (gM (jP _)) (fun o v a=>by rw[h.head.2.1 o] at a;cases a)
 exact⟨m',d,g,k⟩
theorem qQq{e:TypeId}{x:Operand}(v:Value)(l:cD ops L i=some (some d,.box e x))(k:Nat.blt d n=true)(p:bM L x=some v)(a:St m own w)
  (h:∀b m' w',m.le m'->St m' own w'->MRow m' b 0 v.cells.toList->N ((d,.pointer (some ⟨b,0,none⟩))::L) w'):dZ P n ops Q i N L w:=by
 refine WK v l k p a (fun b w' o=> ?_)
 obtain⟨m',c,f,g⟩:=o.settle
 exact h b m' w' c f g
def qDv(P:Program)(e:TypeId):Option Value:=(P.info? e).bind (·.zero)
theorem qMy{e:TypeId}(v:Value)(f:cD ops L i=some (some d,.alloc e))(c:Nat.blt d n=true)(k:qDv P e=some v)(a:St m own w)
  (h:∀b w',St m (.blk b (.cells v.cells e (0,0))::own) w'->N ((d,.pointer (some ⟨b,0,none⟩))::L) w'):dZ P n ops Q i N L w:=by
 obtain⟨inf,hi,hz'⟩:=jS.1 k
 refine mB (w':=w.alloc (.cells v.cells e)) f c (fun q g=> ?_) (h w.heap.size _ (a.alloc ⟨⟨rfl,rfl⟩,rfl,nO⟩ rfl))
 simp[execOp,g,Instr.alloc,zeroValue,typeInfo,hi,hz',newVar,newRow]
def idx{α:Type}(l:List α)(i:Int):Option α:=if 0<=i then l[i.toNat]? else none
def pB(P:Program)(t:TypeId):Option (TypeId×Nat):=
 match P.underlying t with
 |some (.slice e)=>(P.info? e).map fun i=>(e,i.size)
 |_=>none
theorem vW{t e sz:Nat}(h:pB P t=some (e,sz)):P.underlying t=some (.slice e)/\∃inf,P.info? e=some inf/\inf.size=sz:=by
 unfold pB at h
 split at h
 .rename_i e' he
  cases hi:P.info? e' with
  |none=>simp[hi] at h
  |some inf=>simp[hi] at h;obtain⟨rfl,a⟩:=h;exact⟨he,inf,hi,a⟩
 cases h
theorem qMb{α:Type}{t e:TypeId}{x y:Operand}(c:Codec α){a:Option Addr}{cap:Nat}{l:List α}{k:IntKind}{ix:Int}{z:α}(E:cD ops L i=some (some d,.indexAddr t x y))(B:Nat.blt d n=true)
  (G:bM L x=some (.slice a l.length cap)) (H:bM L y=some (.int k ix)) (hi:pB P t=some (e,c.sz)) (r:RepS c m a cap l) (g:idx l ix=some z)
  (h:∀b o cs,c.rep m z cs->MRow m b o cs->N ((d,.pointer (some ⟨b,o,none⟩))::L) w):dZ P n ops Q i N L w:=by
 obtain⟨s,inf,u,v⟩:=vW hi
 unfold idx at g
 split at g
 .rename_i h0
  have f:ix.toNat<l.length:=(List.getElem?_eq_some_iff.1 g).1
  cases a with
  |none=>obtain⟨rfl,_⟩:=r.none_nil;simp at f
  |some p=>
   obtain⟨cs,A,D⟩:=r.2.2.2 _ _ g
   refine mB E B (fun q F=> ?_) (h p.block (p.off+ix.toNat*c.sz) cs A D)
   have hlt':ix<(l.length:Int):=by omega
   simp[execOp,F,Instr.indexAt,bV G,bV H,asIntOf,run_underlying s,h0,hlt',sizeOf,typeInfo,u,v,HN (r.spot (fun e=>by rw[e] at f;simp at f))]
 cases g
theorem qLh{α:Type}{t u e by_:Nat}{x y:Operand}(c:Codec α){a:Option Addr}{cap:Nat}{l k r:List α}{v:Value}
  (A:cD ops L i=some (some d,.call {callee:= .builtin .append,args:= #[x,y],argTypes:= #[t,u]})) (s:Nat.blt d n=true)
  (F:bM L x=some (.slice a l.length cap)) (G:bM L y=some v) (p:St m (.room a l.length cap e c.sz::own) w) (hi:xO P t=some (e,c.sz,by_,c.sz)) (E:yG P u e)
  (B:RepS c m a cap l) (z:Gives P c m v k) (D:cU by_ l k=some r)
  (h:∀a' cap' m' w',m.le m'->St m' (.room a' r.length cap' e c.sz::own) w'->RepS c m' a' cap' r->N ((d,.slice a' r.length cap')::L) w'):dZ P n ops Q i N L w:=by
 refine AF (v:=undef) (w':=w) A s (fun o q=> ?_)
 obtain⟨a',cap',m',w',f,g,hst',b⟩:=qJv (P:=P) (ty:=o.type) hi E p B z D
 refine⟨_,w',?_,h a' cap' m' w' g hst' b⟩
 simp[execOp,q,resolve,invoke,builtin,bV F,bV G,f]
theorem St.nilroom(h:St m own w)(e sz:Nat):St m (.room none 0 0 e sz::own) w:=h.cons ⟨rfl,rfl⟩ (by simp[Piece.block])
theorem Gives.str(s:BA):Gives P mM m (.string s) s.data.toList:=by
 refine⟨s.data.toList.map fun b=> .int .u8 (b.toNat:Int),fun w _=>⟨?_,?_,?_,?_⟩,?_⟩
 .simp[Builtin.lenOf]
 .have:s.extract 0 s.size=s:=by simp
  simp only[Builtin.firstCells,Sem.run_pure]
  congr 1
  apply Array.ext'
  simp
 .simp[mM]
 .intro v a;simp at a;obtain⟨b,_,rfl⟩:=a;rfl
 intro j x c
 show List.take 1 (List.drop (j*1) _)=_
 rw[Nat.mul_one,<-List.map_drop,<-List.map_take]
 have a:=(List.getElem?_eq_some_iff.1 c).1
 have d:=(List.getElem?_eq_some_iff.1 c).2
 rw[jR a,d]
 rfl
theorem rH{α:Type}{t e:TypeId}{len:Nat}{parts:Array (Nat×Operand)}(c:Codec α){xs:List α}(cs:List Value)(H:cD ops L i=some (some d,.buildSlice t len parts))(G:Nat.blt d n=true)
  (u:∀w:World,(Instr.buildSlice t len (parts.map fun p=>(p.1,mS L p.2))).run P w= .ok (.slice (some ⟨w.heap.size,0,none⟩) len len) (w.alloc (.cells cs.toArray e)))
  (l:len=xs.length) (r:Nat.ble len maxLen=true) (k:St m own w) (s:RepAll c m xs cs)
  (h:∀b m' w',m.le m'->St m' (.room (some ⟨b,0,none⟩) xs.length len e c.sz::own) w'->RepS c m' (some ⟨b,0,none⟩) len xs->N ((d,.slice (some ⟨b,0,none⟩) xs.length len)::L) w'):dZ P n ops Q i N L w:=by
 subst l
 have a:=k.alloc (w':=w.alloc (.cells cs.toArray e)) ⟨⟨rfl,rfl⟩,rfl,nO⟩ rfl
 have f:=k.fresh_free
 obtain⟨m',y,B,D,E,F,_⟩:=St.know (cs:=cs) a.tail (a.head_ne rfl) a.head.1 (by simp) (fun o v A=>by rw[f.1 o] at A;cases A)
 have g:=gJ r
 refine mB H G (fun q K=> ?_) (h w.heap.size m' _ y (B.cons ⟨rfl,rfl,jP _,g,⟨cs.toArray,a.head.1,by simp[s.len]⟩,?_,?_⟩ ?_) (RepS.of_cells (jP _) g (fun j x M=>c.mono _ _ _ _ y (s.rep j x M)) D))
 .simp[execOp,K,u w]
 .intro o ho';exact E o (by rw[s.len];exact ho')
 .rw[F];exact f.2
 intro b z;simp only[Piece.block,kW,jM] at z;subst z;exact a.head_ne rfl
def PD(P:Program)(t:TypeId)(len:Nat)(parts:List (Nat×Value)):Option (TypeId×List Value):=
 match P.underlying t with
 |some (.slice e)=>match P.info? e with
  |some inf=>bif Nat.ble (len*inf.size) (2^24)&&Nat.blt 0 (len*inf.size) then
   (match inf.zero with
   |some z=>(Instr.fill (fun i=>some (i*inf.size,inf.size)) ((Array.range (len*inf.size)).map (z.cells[· %z.cells.size]!)) parts).map fun a=>(e,a.toList)
   |none=>none) else none
  |none=>none
 |_=>none
theorem rG{t e:TypeId}{len:Nat}{parts:Array (Nat×Value)}{cs:List Value}(h:PD P t len parts.toList=some (e,cs))(w:World):
  (Instr.buildSlice t len parts).run P w= .ok (.slice (some ⟨w.heap.size,0,none⟩) len len) (w.alloc (.cells cs.toArray e)):=by
 unfold PD at h
 split at h
 .rename_i e' he
  split at h
  .rename_i inf hi
   cases b:(Nat.ble (len*inf.size) (2^24)&&Nat.blt 0 (len*inf.size)) with
   |false=>simp[b] at h
   |true=>
    simp only[b,cond_true] at h
    simp only[jI] at b
    have g:=gJ b.1
    have k:0<len*inf.size:=by simpa[Nat.blt_eq] using b.2
    have h1':¬(16777216<len*inf.size):=by omega
    have h2':¬(len*inf.size=0):=by omega
    split at h
    .rename_i z hz
     obtain⟨a,f,c⟩:=kZ.1 h
     simp only[Prod.mk.injEq] at c
     obtain⟨rfl,rfl⟩:=c
     simp[Instr.buildSlice,run_underlying he,sizeOf,typeInfo,zeroValue,hi,hz,h1',f,newRow]
     intro d;exact absurd d h2'
    cases h
  cases h
 cases h
def tE{α:Type}(l:List α)(lo hi:Int):Option (List α):=if 0<=lo/\lo<=hi/\hi<=l.length then some ((l.take hi.toNat).drop lo.toNat) else none
theorem RepS.sub{α:Type}{c:Codec α}{a:Option Addr}{cap:Nat}{l:List α}(h:RepS c m a cap l){lo hi:Nat}(o:lo<=hi)(g:hi<=l.length):
  RepS c m (if cap=lo then a else a.map (·.add (lo*c.sz))) (cap-lo) ((l.take hi).drop lo)/\((l.take hi).drop lo).length=hi-lo:=by
 have d:((l.take hi).drop lo).length=hi-lo:=by simp;omega
 refine⟨⟨by rw[d];have:=h.1;omega,by have:=h.2.1;omega,?_⟩,d⟩
 cases a with
 |none=>
  obtain⟨rfl,e⟩:=h.none_nil
  have:(if cap=lo then(none:Option Addr) else(none:Option Addr).map (·.add (lo*c.sz)))=none:=by split<;>rfl
  rw[this]
  simp[e]
 |some p=>
  by_cases hl:l=[]
  .subst hl
   have b:lo=0:=by simp at g;omega
   subst b
   simp[Addr.add]
  have f:=h.spot hl
  by_cases e:cap=lo
  .rw[if_pos e]
   refine⟨.inl f,fun j x b=> ?_⟩
   have k:=(List.getElem?_eq_some_iff.1 b).1
   have:=h.1
   omega
  rw[if_neg e]
  simp only[kW]
  rw[HN f]
  refine⟨.inl rfl,fun j x b=> ?_⟩
  rw[List.getElem?_drop,List.getElem?_take] at b
  split at b
  .obtain⟨cs,n,k⟩:=h.2.2.2 _ _ b
   refine⟨cs,n,?_⟩
   rw[gI,<-kS];exact k
  cases b
theorem YW{α:Type}{t e:TypeId}{x:Operand}{lo hi:Option Operand}(c:Codec α){a:Option Addr}{cap:Nat}{l r:List α}{li hix:Int}
  (u:bM L x=some (.slice a l.length cap)) (H:pB P t=some (e,c.sz)) (E:RepS c m a cap l)
  (D:(lo=none/\li=0)\/∃y k,lo=some y/\bM L y=some (.int k li)) (A:(hi=none/\hix=l.length)\/∃y k,hi=some y/\bM L y=some (.int k hix)) (g:tE l li hix=some r):
  ∃v,(∀o:Oper,o.op= .slice t x lo hi none->∀w:World,(execOp (mS L) o).run P w= .ok (.value v) w)/\∃a' cap',v= .slice a' r.length cap'/\RepS c m a' cap' r:=by
 obtain⟨h,inf,n,p⟩:=vW H
 unfold tE at g
 split at g
 .rename_i hb
  obtain⟨z,G,K⟩:=hb
  simp only[jM] at g
  have b:=E.sub (lo:=li.toNat) (hi:=hix.toNat) (by omega) (by omega)
  rw[g] at b
  refine⟨_,fun q s w=> ?_,_,_,rfl,b.1⟩
  have d:hix<=(cap:Int):=by have:=E.1;omega
  have f:0<=hix:=by omega
  have B:li<=max hix 0:=by omega
  rcases D with ⟨rfl,rfl⟩|⟨y,k,rfl,F⟩<;>rcases A with ⟨rfl,rfl⟩|⟨y',k',rfl,hy'⟩
  .simp[execOp,s,Instr.sliceAt,Instr.slice,Instr.sliceBounds,run_underlying h,bV u,sizeOf,typeInfo,n,p] at*
   exact b.2.symm
  .simp[execOp,s,Instr.sliceAt,Instr.slice,Instr.sliceBounds,Instr.sliceBound,asIntOf,run_underlying h,bV u,bV hy',sizeOf,typeInfo,n,p,f,d] at*
   exact b.2.symm
  .have:li<=(l.length:Int):=G
   simp[execOp,s,Instr.sliceAt,Instr.slice,Instr.sliceBounds,Instr.sliceBound,asIntOf,run_underlying h,bV u,bV F,sizeOf,typeInfo,n,p,z,this] at*
   exact b.2.symm
  simp[execOp,s,Instr.sliceAt,Instr.slice,Instr.sliceBounds,Instr.sliceBound,asIntOf,run_underlying h,bV u,bV F,bV hy',sizeOf,typeInfo,n,p,f,d,z,B] at*
  exact b.2.symm
 cases g
theorem YO{α:Type}{t e:TypeId}{x:Operand}{lo hi:Option Operand}(c:Codec α){a:Option Addr}{cap:Nat}{l r:List α}{li hix:Int}
  (s:cD ops L i=some (some d,.slice t x lo hi none)) (p:Nat.blt d n=true) (D:bM L x=some (.slice a l.length cap)) (o:pB P t=some (e,c.sz)) (z:RepS c m a cap l)
  (g:(lo=none/\li=0)\/∃y k,lo=some y/\bM L y=some (.int k li)) (f:(hi=none/\hix=l.length)\/∃y k,hi=some y/\bM L y=some (.int k hix)) (A:tE l li hix=some r)
  (h:∀a' cap',RepS c m a' cap' r->N ((d,.slice a' r.length cap')::L) w):dZ P n ops Q i N L w:=by
 obtain⟨v,B,a',cap',rfl,b⟩:=YW (P:=P) (L:=L) c D o z g f A
 exact mB s p (fun q u=>B q u w) (h a' cap' b)
end
end
end Go.Dc
section
namespace Go.Dc
def NN(x y:Int):Option Int:=if y=0 then none else some (x.tmod y)
def aJ{σ β:Type}(f:σ->Option (σ⊕β)):Nat->σ->Option β
 |0,_=>none
 |k+1,s=>(f s).bind fun
  | .inl s'=>aJ f k s'
  | .inr b=>some b
theorem qKw{σ β:Type}{f:σ->Option (σ⊕β)}{k:Nat}{s:σ}{b:β}(h:aJ f (k+1) s=some b):∃c,f s=some c/\(∀s',c= .inl s'->aJ f k s'=some b)/\(∀b',c= .inr b'->b'=b):=by
 simp only[aJ] at h
 obtain⟨c,d,a⟩:=jS.1 h
 refine⟨c,d,?_,?_⟩
 .rintro s' rfl;exact a
 rintro b' rfl;simpa using a
section
variable {ρ:Option Nat} {P:Program} {n:Fr} {ops:Array Oper} {Q:Exit->Act->World->Prop} {i d:Nat} {L:bL} {w:World} {m:Mem} {own:List Piece} {N:bL->World->Prop}
theorem qCb{t:Nat}{b:Bool}(e:Bool)(d:look L t=some (.bool e))(f:e=b)(h:WO P n ops Q i ((t,.bool b)::L) w):WO P n ops Q i L w:=by
 intro a g
 refine h a (g.sub ?_)
 intro u v c
 simp only[look] at c
 cases hb:Nat.beq t u with
 |true=>
  simp only[hb,cond_true] at c
  have:=fT hb;subst this
  rw[d,f];exact c
 |false=>simp only[hb,cond_false] at c;exact c
theorem wJ{j:Nat}(I:bL->World->Prop)(a:∀L' w',I L' w'->WO P n ops Q j L' w')(b:(∀L' w',I L' w'->WO P n ops Q j L' w')->WO P n ops Q i L w):WO P n ops Q i L w:=b a
theorem cZ{c:Code}(e:Exit)(I:bL->World->Prop)(b:∀L' w',I L' w'->X n Q e L' w')(a:(∀L' w',I L' w'->X n Q e L' w')->W ρ P n c Q L w):W ρ P n c Q L w:=a b
theorem qRp{t t2:TypeId}{x y:Operand}{k:IntKind}{a b r:Int}(f:cD ops L i=some (some d,.binOp .rem t x y t2))(e:Nat.blt d n=true)(l:bM L x=some (.int k a))(o:bM L y=some (.int k b))
  (c:NN a b=some r) (h:N ((d,.int k r)::L) w):dZ P n ops Q i N L w:=by
 unfold NN at c
 split at c
 .cases c
 rename_i hb
 simp only[jM] at c;subst c
 refine mB f e (fun q g=> ?_) h
 simp[execOp,g,bV l,bV o,eqGuard,binOp,Op.intDiv,hb]
def mY(s:BA)(lo hi:Int):Option BA:=if 0<=lo/\lo<=hi/\hi<=s.size then some (s.extract lo.toNat hi.toNat) else none
def eU(s:BA)(i:Int):Option UInt8:=if 0<=i then s[i.toNat]? else none
def cA(s t:BA):Option BA:=if s.size+t.size<=maxLen then some (s++t) else none
def iL(l:List UInt8):BA:=⟨l.toArray⟩
theorem qJc{t:TypeId}{x y:Operand}{s:BA}{k:IntKind}{ix:Int}{z:UInt8}(c:cD ops L i=some (some d,.index t x y))(b:Nat.blt d n=true)(g:bM L x=some (.string s))(l:bM L y=some (.int k ix))
  (f:P.underlying t=some .string) (a:eU s ix=some z) (h:N ((d,.int .u8 (z.toNat:Int))::L) w):dZ P n ops Q i N L w:=by
 unfold eU at a
 split at a
 .rename_i h0
  refine mB c b (fun q e=> ?_) h
  simp[execOp,e,bV g,bV l,Instr.index,asIntOf,run_underlying f,h0,a]
 cases a
theorem qL{t:TypeId}{x:Operand}{lo hi:Option Operand}{s r:BA}{li hix:Int}(B:cD ops L i=some (some d,.slice t x lo hi none))(A:Nat.blt d n=true)(f:bM L x=some (.string s))
  (e:P.underlying t=some .string) (u:(lo=none/\li=0)\/∃y k,lo=some y/\bM L y=some (.int k li)) (o:(hi=none/\hix=s.size)\/∃y k,hi=some y/\bM L y=some (.int k hix)) (b:mY s li hix=some r)
  (h:N ((d,.string r)::L) w):dZ P n ops Q i N L w:=by
 unfold mY at b
 split at b
 .rename_i hb
  obtain⟨g,z,l⟩:=hb
  simp only[jM] at b;subst b
  refine mB B A (fun q c=> ?_) h
  have a:0<=hix:=by omega
  have p:li<=max hix 0:=by omega
  rcases u with ⟨rfl,rfl⟩|⟨y,k,rfl,v⟩<;>rcases o with ⟨rfl,rfl⟩|⟨y',k',rfl,hy'⟩
  .simp[execOp,c,Instr.sliceAt,Instr.slice,Instr.sliceBounds,run_underlying e,bV f]
  .simp[execOp,c,Instr.sliceAt,Instr.slice,Instr.sliceBounds,Instr.sliceBound,asIntOf,run_underlying e,bV f,bV hy',a,l]
  .have:li<=(s.size:Int):=z
   simp[execOp,c,Instr.sliceAt,Instr.slice,Instr.sliceBounds,Instr.sliceBound,asIntOf,run_underlying e,bV f,bV v,g,this]
  simp[execOp,c,Instr.sliceAt,Instr.slice,Instr.sliceBounds,Instr.sliceBound,asIntOf,run_underlying e,bV f,bV v,bV hy',a,l,g,p]
 cases b
theorem qSp{t t2:TypeId}{x y:Operand}{a b r:BA}(g:cD ops L i=some (some d,.binOp .add t x y t2))(f:Nat.blt d n=true)(l:bM L x=some (.string a))(o:bM L y=some (.string b))
  (c:cA a b=some r) (h:N ((d,.string r)::L) w):dZ P n ops Q i N L w:=by
 unfold cA at c
 split at c
 .rename_i hb
  simp only[jM] at c;subst c
  refine mB g f (fun q k=> ?_) h
  have e:IntKind.i64.max=9223372036854775807:=by decide
  have hb':¬(9223372036854775807<(a.size:Int)+(b.size:Int)):=by simp only[maxLen] at hb;omega
  simp[execOp,k,bV l,bV o,eqGuard,binOp,Op.stringOp,e,hb']
 cases c
def ResAt(P:Program)(w:World)(L:bL)(rv:ResultVar)(v:Value):Prop:=
 match rv with
 | .tmp t=>look L t=some v
 | .cell a t=>∃b o cs,look L a=some (.pointer (some ⟨b,o,none⟩))/\(∀j u,cs[j]? =some u->w.cell? ⟨b,o+j,none⟩=some u)/\oM P t cs=some v
def ResAll(P:Program)(w:World)(L:bL):List ResultVar->List Value->Prop
 |[],vs=>vs=[]
 |rv::l,vs=>∃v vs',vs=v::vs'/\ResAt P w L rv v/\ResAll P w L l vs'
def wE:List Value->Value
 |[v]=>v
 |vs=> .tuple vs.toArray
theorem ResAt.row{t:TypeId}{a:Nat}{b o:Nat}{cs:List Value}{v:Value}(d:look L a=some (.pointer (some ⟨b,o,none⟩)))(c:St m own w)(e:MRow m b o cs)(g:oM P t cs=some v):ResAt P w L (.cell a t) v:=
 ⟨b,o,cs,d,fun j u f=>c.inv.cell (e j u f),g⟩
theorem ResAt.blk{t e:TypeId}{a:Nat}{b o:Nat}{c:Array Value}{f:Nat×Nat}{v:Value}(g:look L a=some (.pointer (some ⟨b,o,none⟩)))(h:Piece.holds m w (.blk b (.cells c e f)))(k:oM P t (c.toList.drop o)=some v):ResAt P w L (.cell a t) v:=
 ⟨b,o,c.toList.drop o,g,fun j u d=>by
  rw[List.getElem?_drop] at d
  simp only[World.cell?,h.1]
  simpa using d,k⟩
def II(tmps:Array Value):ResultVar->Sem Value
 | .tmp t=>pure (tmps.getD t undef)
 | .cell a t=>do loadVar t (<-asAddr (tmps.getD a undef))
theorem qLi(fn:Func)(tmps:Array Value):results fn tmps=(do let vs <-fn.results.mapM (II tmps);pure (if h:vs.size=1 then vs[0] else .tuple vs)):=by
 unfold results
 congr 2
theorem AW{k:Nat}{fn:Func}{R:Ending->World->Prop}(rvs:List ResultVar)(vs:List Value)(q:fn.results=rvs.toArray)(y:ResAll P w L rvs vs)(h:R (.returned (wE vs)) w):X ⟨k,[]⟩ (bodyPost P fn R) .ret L w:=by
 intro a c
 refine⟨c.2.1,wE vs,?_,h⟩
 have key:∀(l:List ResultVar) (us:List Value),ResAll P w L l us->Sem.run P (l.mapM (II a.tmps)) w= .ok us w:=by
  intro l
  induction l with
  |nil=>intro us h;simp[ResAll] at h;subst h;simp
  |cons r l z=>
   rintro us ⟨v,vs',rfl,e,f⟩
   have s:Sem.run P (II a.tmps r) w= .ok v w:=by
    cases r with
    |tmp t=>
     have d:a.tmps[t]? =some v:=c.2.2 t v e
     simp[II,d]
    |cell x t=>
     obtain⟨b,o,cs,g,n,p⟩:=e
     have d:a.tmps[x]? =some (.pointer (some ⟨b,o,none⟩)):=c.2.2 x _ g
     have:=xN (P:=P) n p
     simp[II,d,asAddr,this]
   rw[List.mapM_cons]
   simp only[Sem.run_bind,s,Result.andThen_ok,z vs' f,Sem.run_pure]
 have d:=key rvs vs y
 rw[qLi,q]
 simp only[Sem.run_bind,List.mapM_toArray,Sem.run_map,d,Result.andThen_ok,Sem.run_pure]
 rcases vs with _|⟨v,_|⟨u,r⟩⟩
 .rfl
 .rfl
 simp[wE]
end
end Go.Dc
namespace Go.Dc
theorem not_true{e:Bool}(h:e=false):¬e=true:=by rw[h];exact kC
theorem ResAt.tmp{P:Program}{w:World}{L:bL}{t:Nat}{v:Value}(h:look L t=some v):ResAt P w L (.tmp t) v:=h
theorem ResAll.nil{P:Program}{w:World}{L:bL}:ResAll P w L [] []:=rfl
theorem ResAll.cons{P:Program}{w:World}{L:bL}{rv:ResultVar}{l:List ResultVar}{v:Value}{vs:List Value}(a:ResAt P w L rv v)(b:ResAll P w L l vs):ResAll P w L (rv::l) (v::vs):=⟨v,vs,rfl,a,b⟩
theorem aZ{α β:Type}{x:Option α}{f:α->Option β}{b:β}(h:x.bind f=some b):∃a,x=some a/\f a=some b:=jS.1 h
end Go.Dc
namespace Go.Dc
theorem eO(e:Bool):e=true\/e=false:=by cases e<;>simp
end Go.Dc
namespace Go.Dc
theorem dV{σ β:Type}{f:σ->Option (σ⊕β)}{s:σ}{b:β}{p:Prop}(h:aJ f 0 s=some b):p:=by simp[aJ] at h
end Go.Dc
namespace Go.Dc
section
variable {ρ:Option Nat} {P:Program} {n:Fr} {ops:Array Oper} {Q:Exit->Act->World->Prop} {L:bL} {w:World} {m:Mem} {own:List Piece}
def TS:List (Nat×(World->Prop))->Array Bool->World->Prop
 |[],_,_=>True
 |p::ks,l,w=>(l.getD p.1 false=true\/p.2 w)/\TS ks l w
theorem SQ{ks:List (Nat×(World->Prop))}{l:Array Bool}{w:World}:TS ks l w↔∀p∈ks,l.getD p.1 false=true\/p.2 w:=by
 induction ks with
 |nil=>simp[TS]
 |cons p ks a=>simp[TS,a]
def qCh(ks:List (Nat×(World->Prop)))(i:Nat):Bool:=ks.all fun p=> !Nat.beq p.1 i
theorem qJb{ks:List (Nat×(World->Prop))}{i:Nat}(h:qCh ks i=true):∀p∈ks,p.1≠i:=by
 intro p a e
 have:=jU.1 h p a
 subst e
 simp at this
def IR(P:Program)(ops:Array Oper)(Q:Exit->Act->World->Prop)(ks:List (Nat×(World->Prop))):Nat->Array Bool->Act->World->Prop
 |0,listed,a,w=>Region.ready .any ops listed=[]/\Q .normal a w
 |fuel+1,listed,a,w=>
  (Region.ready .any ops listed=[]->Q .normal a w)/\
  ∀i∈Region.ready .any ops listed,nZ P ops Q i (fun a' w'=>TS ks (listed.setIfInBounds i true) w'/\IR P ops Q ks fuel (listed.setIfInBounds i true) a' w') a w
theorem XQ{ρ:Option Nat}(b:DW ρ ops=true){ks:List (Nat×(World->Prop))}:∀(fuel:Nat) (listed:Array Bool) (a:Act) (w:World),IR P ops Q ks fuel listed a w->wpAnyIn (nY ρ) 0 P .any ops Q fuel listed a w
 |0,_,_,_,h=>h
 |fuel+1,_,_,_,h=>⟨h.1,fun i hi=>qDd b (fun a' w' h'=>XQ b fuel _ a' w' h'.2) (h.2 i hi)⟩
theorem VU{S:World->Prop}{i:Nat}{o:Oper}{v:Value}{a:Act}(e:YieldsIf P ops S o v a)(hi:ops[i]? =some o)
  {K:Act->World->Prop} {w:World} (c:S w) (h:K (a.put o.dst v) w):nZ P ops Q i K a w:=by
 unfold nZ
 simp only[hi]
 rcases e with ⟨b,d⟩|⟨b,rfl⟩
 .simp only[b,jJ,d w c,Oper.uponIn];exact h
 simp only[b,jB,jF];exact h
theorem qMc{S:World->Prop}{j:Nat}{oi oj:Oper}{v:Value}(z:ops[j]? =some oj)(s:oi.apart ops oj=true)
  (t:∀cs b,oi.op≠ .select cs b) (y:∀cs b,oj.op≠ .select cs b)
  (o:∀c a w,Q (.panic c) (a.put oi.dst v) w->Q (.panic c) a w) {K:Act->World->Prop} {a:Act} {w:World}
  (k:YieldsIf P ops S oi v a) (h:nZ P ops Q j K (a.put oi.dst v) w):
  nZ P ops Q j (fun a' w'=>YieldsIf P ops S oi v a'/\K (a'.put oi.dst v) w') a w:=by
 obtain⟨p,n,q⟩:=Oper.apart_spec s
 have keep:∀(a:Act),YieldsIf P ops S oi v a->∀u,YieldsIf P ops S oi v (a.put oj.dst u):=fun a k u=>
  k.of_same (execOp_put oi t a oj.dst u q) (wanted_put oi a oj.dst u q)
 have keepD:∀d,YieldsIf P ops S oi v {a with defers:=d::a.defers}:=fun d=>k.of_same rfl rfl
 unfold nZ at*
 simp only[z] at*
 rw[wanted_put oj a oi.dst v p] at h
 split
 .rename_i hw
  simp only[hw,jJ] at h
  rw[execOp_put oj y a oi.dst v p] at h
  generalize (execOp a.eval oj).run P w=r at*
  cases r with
  |ok x w'=>
   cases x<;>simp only[Oper.uponIn] at h ⊢
   case value u=>exact⟨keep a k u,by rw[<-Act.put_comm a v u n];exact h⟩
   case skip=>exact⟨keep a k _,by rw[<-Act.put_comm a v undef n];exact h⟩
   case defer d=>
    refine⟨keep _ (keepD d) _,?_⟩
    rw[<-Act.put_comm _ v undef n,<-Act.put_defers]
    exact h
   case enter f args=>
    refine⟨h.1,CallsIn.mono h.2 fun e w'' g=> ?_⟩
    cases e with
    |returned u=>exact⟨keep a k u,by rw[<-Act.put_comm a v u n];exact g⟩
    |panicked c=>exact o _ _ _ g
    |outgrown=>exact g
   case row row args=>exact⟨h.1,RowsIn.mono h.2 fun u w'' g=>⟨keep a k u,by rw[<-Act.put_comm a v u n];exact g⟩⟩
   case round l f tmps assign body=>
    refine⟨h.1,RoundIn.mono h.2 fun e w'' g=> ?_⟩
    cases e with
    |returned u=>exact⟨keep a k u,by rw[<-Act.put_comm a v u n];exact g⟩
    |panicked c=>exact o _ _ _ g
    |outgrown=>exact g
  |halt x w'=>
   cases x<;>simp only[Oper.uponIn] at h ⊢
   case panic u=>exact o _ _ _ h
 rename_i hw
 simp only[hw] at h
 exact⟨keep a k _,by rw[<-Act.put_comm a v undef n];exact h⟩
def MB(ops:Array Oper)(k i:Nat):Bool:=
 match ops[k]? with
 |none=>true
 |some o=>o.after.any fun e=>Region.binds .any e&&e.on==i
theorem qIi{k i:Nat}(h:MB ops k i=true){listed:Array Bool}(hi:listed.getD i true=false):k∉Region.ready .any ops listed:=by
 intro f
 obtain⟨_,o,g,b⟩:=mem_ready.1 f
 simp only[MB,g] at h
 obtain⟨e,d,c⟩:=Array.any_eq_true'.1 h
 simp only[jI,kJ] at c
 have a:=b e d c.1
 rw[c.2] at a
 rcases fR i listed.size with h'|h'
 .simp[h'] at hi a;rw[hi] at a;cases a
 simp[Array.getElem?_eq_none h'] at a
theorem TD{ks:List (Nat×(World->Prop))}{l:Array Bool}{w:World}{i:Nat}(h:TS ks l w):TS ks (l.setIfInBounds i true) w:=by
 rw[SQ] at*
 intro p a
 rcases h p a with h|h
 .left
  by_cases hi:i=p.1
  .subst hi
   rcases fR p.1 l.size with h'|h'
   .simp[h']
   simp[Array.getElem?_eq_none h'] at h
  rw[getD_set_ne false hi];exact h
 exact .inr h
theorem qPf{ks:List (Nat×(World->Prop))}{l:Array Bool}{w:World}{i j:Nat}(b:∀p∈ks,p.1≠i)(h:TS ks ((l.setIfInBounds i true).setIfInBounds j true) w):TS ks (l.setIfInBounds j true) w:=by
 by_cases hij:i=j
 .subst hij;simpa using h
 rw[SQ] at*
 intro p a
 rcases h p a with h|h
 .left
  by_cases hj:j=p.1
  .subst hj
   rcases fR p.1 l.size with h'|h'
   .simp[h']
   simp[Array.getElem?_eq_none h'] at h;omega
  rw[getD_set_ne false hj] at h ⊢
  rw[getD_set_ne false (Ne.symm (b p a))] at h;exact h
 exact .inr h
theorem qIr{k i:Nat}{S:World->Prop}{ks:List (Nat×(World->Prop))}(z:(k,S)∈ks)(F:∀p∈ks,p.1≠i){oi:Oper}{v:Value}(y:MB ops k i=true)(hi:ops[i]? =some oi)(B:∀(j:Nat) (o:Oper) cs b,ops[j]? =some o->o.op≠ .select cs b)
  (Y:∀c a w,Q (.panic c) (a.put oi.dst v) w->Q (.panic c) a w):
  ∀(fuel:Nat) (listed:Array Bool) (a:Act) (w:World),listed.getD k false=false->
   (∀j oj,ops[j]? =some oj->j≠i->listed.getD j true=false->(∀e∈oj.after,Region.binds .any e=true->e.on≠i)->oi.apart ops oj=true)->
   i∈Region.ready .any ops listed->YieldsIf P ops S oi v a->TS ks listed w->
   IR P ops Q ks fuel (listed.setIfInBounds i true) (a.put oi.dst v) w->IR P ops Q ks (fuel+1) listed a w:=by
 have a1:k≠i:=F _ z
 have getS:∀{l:Array Bool} {w:World},l.getD k false=false->TS ks l w->S w:=fun D h=>by
  rcases SQ.1 h _ z with h|h
  .simp only at h;rw[D] at h;cases h
  exact h
 intro fuel
 induction fuel with
 |zero=>
  intro listed a w s _ f E t H
  refine⟨fun h=>(by rw[h] at f;cases f),fun j u=> ?_⟩
  by_cases d:j=i
  .subst d;exact VU E hi (getS s t) ⟨TD t,H⟩
  have:=ready_mono u d
  rw[H.1] at this
  cases this
 |succ fuel ih=>
  intro listed a w s n f E t H
  refine⟨fun h=>(by rw[h] at f;cases f),fun j u=> ?_⟩
  by_cases d:j=i
  .subst d;exact VU E hi (getS s t) ⟨TD t,H⟩
  have r:j≠k:=by
   rintro rfl
   exact qIi y (mem_ready.1 f).1 u
  have g:=H.2 j (ready_mono u d)
  obtain⟨x,oj,A,K⟩:=mem_ready.1 u
  have M:∀e∈oj.after,Region.binds .any e=true->e.on≠i:=fun e he Z R=>by
   have g:=K e he Z
   have D:=(mem_ready.1 f).1
   rw[R] at g
   rcases fR i listed.size with h'|h'
   .simp[h'] at D g;rw[D] at g;cases g
   simp[Array.getElem?_eq_none h'] at g
  have V:=qMc A (n j oj A d x M) (fun cs b=>B i oi cs b hi) (fun cs b=>B j oj cs b A) Y E g
  have hfree':∀q ok,ops[q]? =some ok->q≠i->(listed.setIfInBounds j true).getD q true=false->
    (∀e∈ok.after,Region.binds .any e=true->e.on≠i)->oi.apart ops ok=true:=fun q ok hk y G U=>by
   refine n q ok hk y ?_ U
   by_cases r:j=q
   .subst r;exact x
   rw[getD_set_ne true r] at G;exact G
  have hk0':(listed.setIfInBounds j true).getD k false=false:=by rw[getD_set_ne false r];exact s
  refine LS (fun a' w' G=> ?_) V
  have hT':TS ks (listed.setIfInBounds j true) w':=qPf F G.2.1
  refine⟨hT',ih (listed.setIfInBounds j true) a' w' hk0' hfree' (ready_mono f (Ne.symm d)) G.1 hT' ?_⟩
  rw[Array.setIfInBounds_comm _ _ d]
  exact G.2.2
def QP(Q:Exit->Act->World->Prop):Prop:=∀c a w d v,Q (.panic c) (Act.put a d v) w->Q (.panic c) a w
theorem bY{K:Act->World->Prop}(h:QP Q):QP (Exit.then K Q):=h
theorem eV{id:Nat}(h:QP Q):QP (Exit.inBlock id Q):=h
theorem mN{fn:Func}{R:Ending->World->Prop}:QP (bodyPost P fn R):=by
 rintro c a w d v ⟨b,e⟩
 refine⟨?_,e⟩
 cases d<;>exact b
def marks(l:List Nat)(n:Nat):Array Bool:=l.foldl (fun a i=>a.setIfInBounds i true) (Array.replicate n false)
def WA(P:Program)(n:Fr)(ops:Array Oper)(Q:Exit->Act->World->Prop)(ks:List (Nat×(World->Prop)))(fuel:Nat)(done:List Nat)(L:bL)(w:World):Prop:=
 TS ks (marks done ops.size) w->∀a,Fits n a L->IR P ops Q ks fuel (marks done ops.size) a w
theorem DF(l:List Nat)(i n:Nat):marks (l++[i]) n=(marks l n).setIfInBounds i true:=by simp[marks,List.foldl_append]
theorem qQe{id:Nat}(d:DW ρ ops=true)(ks:List (Nat×(World->Prop)))(e:P.follows .mixedOrders=true)(st:St m own w)(h:∀w',w'.heap=w.heap->St m own w'->TS ks (marks [] ops.size) w'/\WA P n ops Q ks ops.size [] L w'):W ρ P n (.region id ops true) Q L w:=by
 intro a c
 have b:=h {w with drawn:=w.drawn+1} rfl (st.grow ⟨⟨rfl,rfl⟩,rfl,nO⟩ fun _ _=>rfl)
 exact wpIn_region_any e (XQ d (ks:=ks) _ _ _ _ (b.2 b.1 a c))
theorem iF{id:Nat}(ks:List (Nat×(World->Prop)))(a:P.follows .mixedOrders=true)(st:St m own w)(h:∀w',w'.heap=w.heap->St m own w'->TS ks (marks [] ops.size) w'/\WA P n ops Q ks ops.size [] L w'):W none P n (.region id ops true) Q L w:=qQe rfl ks a st h
def pQ(ops:Array Oper)(ks:List (Nat×(World->Prop)))(k i:Nat)(done:List Nat):Bool:=
 Region.noSelect ops&&Region.free .any ops (marks done ops.size) i&&(Region.ready .any ops (marks done ops.size)).contains i&&MB ops k i&&qCh ks i&& !((marks done ops.size).getD k false)
section
variable {ks:List (Nat×(World->Prop))}
theorem QR{k fuel:Nat}{S:World->Prop}{done:List Nat}{i:Nat}{o:Oper}{v:Value}{L':bL}(d:ops[i]? =some o)(g:pQ ops ks k i done=true)(b:(k,S)∈ks)(p:QP Q)
  (q:∀a,Fits n a L->YieldsIf P ops S o v a) (l:∀a,Fits n a L->Fits n (a.put o.dst v) L') (h:WA P n ops Q ks fuel (done++[i]) L' w):WA P n ops Q ks (fuel+1) done L w:=by
 simp only[pQ,jI,gT] at g
 obtain⟨⟨⟨⟨⟨r,s⟩,t⟩,u⟩,x⟩,y⟩:=g
 intro e a f
 have hT':TS ks (marks (done++[i]) ops.size) w:=by rw[DF];exact TD e
 have:=h hT' (a.put o.dst v) (l a f)
 rw[DF] at this
 exact qIr b (qJb x) u d (Region.noSelect_spec r) (fun c a w=>p c a w _ _) fuel _ a w y (Region.free_spec d s) (by simpa using t) (q a f) e this
theorem xX{k fuel:Nat}{S:World->Prop}{done:List Nat}(i d:Nat)(op:Op)(v:Value)(s:cD ops L i=some (some d,op))(r:Nat.blt d n=true)
  (u:pQ ops ks k i done=true) (c:(k,S)∈ks)
  (t:QP Q) (e:∀o:Oper,o.op=op->∀w,S w->(execOp (mS L) o).run P w= .ok (.value v) w)
  (h:WA P n ops Q ks fuel (done++[i]) ((d,v)::L) w):WA P n ops Q ks (fuel+1) done L w:=by
 obtain⟨o,f,g,l,p,q⟩:=DK s
 exact QR f u c t (v:=v) (fun a b=> .inl ⟨b.wanted p,fun w' hw'=>by rw[b.exec q];exact e o l w' hw'⟩) (fun a b=>by rw[g];exact b.put r v) h
theorem qUj{k fuel:Nat}{S:World->Prop}{done:List Nat}(i d:Nat)(r:((ops[i]?).bind fun o=>(nT ops L o.guard).map fun b=>(o.dst,b))=some (some d,false))(q:Nat.blt d n=true)
  (t:pQ ops ks k i done=true) (f:(k,S)∈ks)
  (s:QP Q) (h:WA P n ops Q ks fuel (done++[i]) ((d,undef)::L) w):WA P n ops Q ks (fuel+1) done L w:=by
 obtain⟨o,g,l⟩:=jS.1 r
 obtain⟨b,p,c⟩:=kZ.1 l
 simp only[Prod.mk.injEq] at c
 obtain⟨c,rfl⟩:=c
 exact QR g t f s (v:=undef) (fun a e=> .inr ⟨e.wanted p,rfl⟩) (fun a e=>by rw[c];exact e.put q undef) h
theorem cH{fuel:Nat}{done:List Nat}(i:Nat)(e:Region.ready .any ops (marks done ops.size)=[i])
  (h:dZ P n ops Q i (fun L' w'=>TS ks (marks (done++[i]) ops.size) w'/\WA P n ops Q ks fuel (done++[i]) L' w') L w):WA P n ops Q ks (fuel+1) done L w:=by
 intro _ a k
 refine⟨fun d=>(by rw[e] at d;cases d),fun j c=> ?_⟩
 rw[e] at c
 simp only[jK] at c
 subst c
 refine LS (fun a' w' h'=> ?_) (h a k)
 obtain⟨L',f,b,g⟩:=h'
 have:=g b a' f
 rw[DF] at b
 rw[DF] at this
 exact⟨b,this⟩
theorem eW{fuel:Nat}{done:List Nat}(c:Region.ready .any ops (marks done ops.size)=[])(h:X n Q .normal L w):WA P n ops Q ks fuel done L w:=by
 intro _ a b
 cases fuel with
 |zero=>exact⟨c,h a b⟩
 |succ f=>exact⟨fun _=>h a b,(by rw[c];simp)⟩
theorem xU{fuel:Nat}{done:List Nat}{t:Nat}{b:Bool}(e:Bool)(d:look L t=some (.bool e))(f:e=b)(h:WA P n ops Q ks fuel done ((t,.bool b)::L) w):WA P n ops Q ks fuel done L w:=by
 intro g a k
 refine h g a (k.sub ?_)
 intro u v c
 simp only[look] at c
 cases hb:Nat.beq t u with
 |true=>
  simp only[hb,cond_true] at c
  have:=fT hb;subst this
  rw[d,f];exact c
 |false=>simp only[hb,cond_false] at c;exact c
end
theorem Inv.anti{m':Mem}(h:Inv m' w)(a:m.le m'):Inv m w:=⟨fun b o v c=>h.1 b o v (a.1 _ _ _ c),fun b x d=>h.2.1 b x (a.2.1 _ _ d),a.2.2▸h.2.2⟩
theorem Piece.holds_anti{m':Mem}{b:Nat}{o:Obj}(h:Piece.holds m' w (.blk b o))(a:m.le m'):Piece.holds m w (.blk b o):=by
 refine⟨h.1,fun q=> ?_,?_⟩
 .cases hc:m.cell b q with
  |none=>rfl
  |some v=>rw[<-h.2.1 q,a.1 _ _ _ hc]
 cases hc:m.obj b with
 |none=>rfl
 |some v=>rw[<-h.2.2,a.2.1 _ _ hc]
def SY(P:Program)(ops:Array Oper)(L:bL)(i:Nat):Option (Nat×Value):=
 match ops[i]? with
 |none=>none
 |some o=>match nT ops L o.guard with
  |some true=>bif oS L o.op then(match o.dst,rC P (execOp (mS L) o) with
   |some d,some (.value v)=>some (d,v)
   |_,_=>none) else none
  |_=>none
theorem qQy{ks:List (Nat×(World->Prop))}{k fuel:Nat}{S:World->Prop}{done:List Nat}(i d:Nat)(v:Value)(c:SY P ops L i=some (d,v))(q:Nat.blt d n=true)(s:pQ ops ks k i done=true)(p:(k,S)∈ks)(r:QP Q)
  (h:WA P n ops Q ks fuel (done++[i]) ((d,v)::L) w):WA P n ops Q ks (fuel+1) done L w:=by
 unfold SY at c
 cases g:ops[i]? with
 |none=>simp[g] at c
 |some o=>
  simp only[g] at c
  cases f:nT ops L o.guard with
  |none=>simp[f] at c
  |some b=>
   cases b with
   |false=>simp[f] at c
   |true=>
    simp only[f] at c
    cases l:oS L o.op with
    |false=>simp[l] at c
    |true=>
     simp only[l,cond_true] at c
     split at c
     .rename_i d' v' hd' he
      simp only[jM,Prod.mk.injEq] at c
      obtain⟨rfl,rfl⟩:=c
      exact QR g s p r (v:=v') (fun a e=> .inl ⟨e.wanted f,fun w' _=>by rw[e.exec l];exact AN he w'⟩) (fun a e=>by rw[hd'];exact e.put q v') h
     cases c
theorem qKf{ks:List (Nat×(World->Prop))}{k fuel:Nat}{S:World->Prop}{done:List Nat}{t:TypeId}{x:Operand}{b o:Nat}{cs:List Value}(i d:Nat)(v:Value)(l:cD ops L i=some (some d,.load t x))(f:Nat.blt d n=true)
  (r:pQ ops ks k i done=true) (a:(k,S)∈ks) (c:QP Q) (e:∀w,S w->Inv m w) (z:bM L x=some (.pointer (some ⟨b,o,none⟩))) (p:MRow m b o cs) (y:oM P t cs=some v)
  (h:WA P n ops Q ks fuel (done++[i]) ((d,v)::L) w):WA P n ops Q ks (fuel+1) done L w:=by
 refine xX i d _ v l f r a c (fun q c w' hw'=> ?_) h
 have g:=xN (P:=P) (w:=w') (t:=t) (b:=b) (o:=o) (cs:=cs) (v:=v) (fun j u s=>(e w' hw').cell (p j u s)) y
 simp[execOp,c,Instr.loadAt,bV z,Instr.sureAddr,g]
theorem qJe{ks:List (Nat×(World->Prop))}{k fuel:Nat}{S:World->Prop}{done:List Nat}{t e:TypeId}{x:Operand}{b o:Nat}{c:Array Value}{f:Nat×Nat}(i d:Nat)(v:Value)(z:cD ops L i=some (some d,.load t x))(s:Nat.blt d n=true)
  (A:pQ ops ks k i done=true) (a:(k,S)∈ks) (g:QP Q) (p:∀w,S w->Piece.holds m w (.blk b (.cells c e f))) (D:bM L x=some (.pointer (some ⟨b,o,none⟩))) (B:oM P t (c.toList.drop o)=some v)
  (h:WA P n ops Q ks fuel (done++[i]) ((d,v)::L) w):WA P n ops Q ks (fuel+1) done L w:=by
 refine xX i d _ v z s A a g (fun q g w' hw'=> ?_) h
 have r:=(p w' hw').1
 have y:=xN (P:=P) (w:=w') (t:=t) (b:=b) (o:=o) (cs:=c.toList.drop o) (v:=v) (fun j u l=>by
  rw[List.getElem?_drop] at l
  simp only[World.cell?,r]
  simpa using l) B
 simp[execOp,g,Instr.loadAt,bV D,Instr.sureAddr,y]
theorem qA{α:Type}{ks:List (Nat×(World->Prop))}{k fuel:Nat}{S:World->Prop}{done:List Nat}{t e:TypeId}{x y:Operand}(i d:Nat)(c:Codec α){a:Option Addr}{cap:Nat}{l:List α}{kd:IntKind}{ix:Int}{z:α}(G:cD ops L i=some (some d,.indexAddr t x y))(E:Nat.blt d n=true)
  (H:pQ ops ks k i done=true) (r:(k,S)∈ks) (s:QP Q)
  (K:bM L x=some (.slice a l.length cap)) (M:bM L y=some (.int kd ix)) (hi:pB P t=some (e,c.sz)) (u:RepS c m a cap l) (g:idx l ix=some z)
  (h:∀b o cs,c.rep m z cs->MRow m b o cs->WA P n ops Q ks fuel (done++[i]) ((d,.pointer (some ⟨b,o,none⟩))::L) w):WA P n ops Q ks (fuel+1) done L w:=by
 obtain⟨v,inf,A,B⟩:=vW hi
 unfold idx at g
 split at g
 .rename_i h0
  have f:ix.toNat<l.length:=(List.getElem?_eq_some_iff.1 g).1
  cases a with
  |none=>obtain⟨rfl,_⟩:=u.none_nil;simp at f
  |some p=>
   obtain⟨cs,D,F⟩:=u.2.2.2 _ _ g
   refine xX i d _ _ G E H r s (fun q s w' _=> ?_) (h p.block (p.off+ix.toNat*c.sz) cs D F)
   have hlt':ix<(l.length:Int):=by omega
   simp[execOp,s,Instr.indexAt,bV K,bV M,asIntOf,run_underlying v,h0,hlt',sizeOf,typeInfo,A,B,HN (u.spot (fun e=>by rw[e] at f;simp at f))]
 cases g
theorem qOf{α:Type}{ks:List (Nat×(World->Prop))}{k fuel:Nat}{S:World->Prop}{done:List Nat}{t e:TypeId}{x:Operand}{lo hi:Option Operand}(i d:Nat)(c:Codec α){a:Option Addr}{cap:Nat}{l r:List α}{li hix:Int}
  (A:cD ops L i=some (some d,.slice t x lo hi none)) (z:Nat.blt d n=true) (s:pQ ops ks k i done=true) (b:(k,S)∈ks) (f:QP Q) (F:bM L x=some (.slice a l.length cap)) (u:pB P t=some (e,c.sz)) (B:RepS c m a cap l)
  (p:(lo=none/\li=0)\/∃y k,lo=some y/\bM L y=some (.int k li)) (o:(hi=none/\hix=l.length)\/∃y k,hi=some y/\bM L y=some (.int k hix)) (D:tE l li hix=some r)
  (h:∀a' cap',RepS c m a' cap' r->WA P n ops Q ks fuel (done++[i]) ((d,.slice a' r.length cap')::L) w):WA P n ops Q ks (fuel+1) done L w:=by
 obtain⟨v,E,a',cap',rfl,g⟩:=YW (P:=P) (L:=L) c F u B p o D
 exact xX i d _ _ A z s b f (fun q f w' _=>E q f w') (h a' cap' g)
end
end Go.Dc
namespace Go.Dc
end Go.Dc
namespace Go.Dc
section
variable {ρ:Option Nat} {P:Program} {n:Fr} {ops:Array Oper} {Q:Exit->Act->World->Prop} {i d:Nat} {L:bL} {w:World} {m:Mem} {own:List Piece} {N:bL->World->Prop}
def MF(P:Program)(t:TypeId):Option TypeId:=
 match P.underlying t with
 |some (.slice e)=>match P.underlying e with
  |some (.int .u8)=>some e
  |_=>none
 |_=>none
theorem VX{t e:TypeId}(h:MF P t=some e):P.underlying t=some (.slice e)/\P.underlying e=some (.int .u8):=by
 unfold MF at h
 split at h
 .rename_i e' he
  split at h
  .rename_i he';simp only[jM] at h;subst h;exact⟨he,he'⟩
  cases h
 cases h
def bytesOf(s:BA):Option (List UInt8):=if s.size<=maxLen then some s.data.toList else none
theorem VQ{t1 t2 e:TypeId}{x:Operand}{s:BA}{l:List UInt8}(M:cD ops L i=some (some d,.convert t1 t2 x))(K:Nat.blt d n=true)(g:bM L x=some (.string s))
  (p:MF P t2=some e) (y:P.underlying t1=some .string) (st:St m own w) (f:bytesOf s=some l)
  (h:∀b cap m' w',m.le m'->St m' own w'->RepS mM m' (some ⟨b,0,none⟩) cap l->N ((d,.slice (some ⟨b,0,none⟩) l.length cap)::L) w'):dZ P n ops Q i N L w:=by
 obtain⟨G,H⟩:=VX p
 unfold bytesOf at f
 split at f
 .rename_i hmx
  simp only[jM] at f;subst f
  generalize hgc:grownCap w s.size 0 e=gc
  have z:s.size<=gc:=hgc▸grownCap_ge _ _ _ _
  have A:gc<=maxLen:=hgc▸grownCap_le_maxLen _ _ _ _ hmx
  generalize hcur:(s.data.map fun b=>Value.int .u8 (b.toNat:Int))++Array.replicate (gc-s.size) (.int .u8 0)=cur
  have u:(convert t1 t2 (.string s)).run P w= .ok (.slice (some ⟨w.heap.size,0,none⟩) s.size gc) (w.drew.alloc (.cells cur e (cur.size,cur.size+1))):=by
   have c:(Question.appendCap s.size 0 e).forced=false:=rfl
   have r:(Question.appendCap s.size 0 e).cut (w.tape w.drawn (Question.appendCap s.size 0 e))=gc:=hgc
   have a:(w.drew.alloc (.cells cur e)).heap[w.heap.size]? =some (.cells cur e):=by
    show(w.heap.push (.cells cur e))[w.heap.size]? =_
    simp
   have E:(w.drew.alloc (.cells cur e)).shape? w.heap.size=some (e,cur.size):=by
    unfold World.shape?
    rw[a]
   have t:∀k:Nat,(w.drew.alloc (.cells cur e)).freeze ⟨w.heap.size,k,none⟩ 1=w.drew.alloc (.cells cur e (k,k+1)):=fun k=>by
    unfold World.freeze World.alloc World.drew
    simp only[Nat.one_ne_zero,jF]
    congr 1
    apply Array.ext
    .simp
    intro j p y
    simp only[Array.getElem_modify]
    by_cases hj:w.heap.size=j
    .subst hj;simp
    have:j<w.heap.size:=by simp at p;omega
    simp[hj,Array.getElem_push_lt this]
   have B:(markStringish ⟨w.heap.size,0,none⟩).run P (w.drew.alloc (.cells cur e))= .ok () (w.drew.alloc (.cells cur e (cur.size,cur.size+1))):=by
    simp[markStringish,E,t]
   have D:(newRow e cur).run P w.drew= .ok ⟨w.heap.size,0,none⟩ (w.drew.alloc (.cells cur e)):=rfl
   have F:(Conv.stringToBytes e s).run P w= .ok (.slice (some ⟨w.heap.size,0,none⟩) s.size gc) (w.drew.alloc (.cells cur e (cur.size,cur.size+1))):=by
    unfold Conv.stringToBytes
    simp only[Sem.run_bind,run_choose,c,jB,jF,Result.andThen_ok,r,hcur]
    show((newRow e cur).run P w.drew).andThen _=_
    rw[D]
    simp only[Result.andThen_ok,B,Sem.run_pure]
   simp[convert,run_underlying y,run_underlying G,run_underlying H,F]
  have a:=st.alloc (w':=w.drew.alloc (.cells cur e (cur.size,cur.size+1))) (o:= .cells cur e (cur.size,cur.size+1)) ⟨⟨rfl,rfl⟩,rfl,nO⟩ rfl
  have c:=st.fresh_free
  have B:cur.toList.take (s.data.toList.map fun b=>Value.int .u8 (b.toNat:Int)).length=s.data.toList.map fun b=>Value.int .u8 (b.toNat:Int):=by
   rw[<-hcur,Array.toList_append,Array.toList_map,fJ]
  obtain⟨m',F,R,S,_⟩:=St.know (b:=w.heap.size) (cs:=s.data.toList.map fun b=>Value.int .u8 (b.toNat:Int)) a.tail (a.head_ne rfl) a.head.1 B (fun o v D=>by rw[c.1 o] at D;cases D)
  have t:RepS mM m' (some ⟨w.heap.size,0,none⟩) gc s.data.toList:=RepS.of_cells (by simpa using z) A (fun j x g=>by
   have r:=(List.getElem?_eq_some_iff.1 g).1
   have E:=(List.getElem?_eq_some_iff.1 g).2
   show List.take 1 (List.drop (j*1) _)=_
   rw[Nat.mul_one,<-List.map_drop,<-List.map_take,jR r,E]
   rfl) S
  have r:s.data.toList.length=s.size:=by simp
  refine mB M K (fun q E=> ?_) (h w.heap.size gc m' _ F R t)
  simp only[execOp,E,bV g,Sem.run_bind,u,Result.andThen_ok,Sem.run_pure,r]
 cases f
end
end Go.Dc
namespace Go.Dc
section
variable {ρ:Option Nat} {P:Program} {n:Fr} {ops:Array Oper} {Q:Exit->Act->World->Prop} {i d:Nat} {L:bL} {w:World} {m:Mem} {own:List Piece} {N:bL->World->Prop}
theorem LM{f:FuncId}{args:Array Value}{R:Ending->World->Prop}(I:Value->World->Prop)(a:∀v w',I v w'->R (.returned v) w')(h:Calls P f args w fun e w'=>∃v,e= .returned v/\I v w'):Calls P f args w R:=
 h.mono fun e w' ⟨v,b,hi⟩=>b▸a v w' hi
theorem pR{k:Nat}{fn:Func}{R:Ending->World->Prop}(rvs:List ResultVar)(vs:List Value)(a:fn.results=rvs.toArray)(b:ResAll P w L rvs vs)(h:R (.returned (wE vs)) w):X ⟨k,[]⟩ (bodyPost P fn R) .normal L w:=AW (P:=P) (fn:=fn) (R:=R) rvs vs a b h
end
end Go.Dc
end
namespace Go.Dc
section
def qVp(P:Program)(fn:Func)(R:Ending->World->Prop):Exit->Act->World->Prop
 | .normal,a,w=>LeavesInM Fence.wide 0 P fn a.tmps R a.defers .returning w
 | .ret,a,w=>LeavesInM Fence.wide 0 P fn a.tmps R a.defers .returning w
 |_,_,_=>False
section
variable {ρ:Option Nat} {P:Program} {n:Fr} {ops:Array Oper} {Q:Exit->Act->World->Prop} {i d:Nat} {L:bL} {w:World} {m:Mem} {own:List Piece} {N:bL->World->Prop}
def FitsT(sz:Nat)(T:Array Value)(L:bL):Prop:=T.size=sz/\∀t v,look L t=some v->T[t]? =some v
theorem YR {f : FuncId} {fn : Func} (c : P.funcs[f]? = some fn) (h : (fn.name == "runtime.NumGoroutine", fn.body.isNone) = (false, false)) (args : Array Value) (w : World) : (callFunc f args).run P w = .ok (.enter f args) w := by
 simp only[Prod.mk.injEq] at h
 have a : ¬ fn.name = "runtime.NumGoroutine" := by simpa using h.1
 have b:¬fn.body=none:=fun e=>by rw[e] at h;simp at h
 simp[callFunc,c,a,b]
def qTm(P:Program)(l:Nat)(body:Code)(R:Ending->World->Prop):Exit->Act->World->Prop:=
 Exit.then (fun a₁ w₁=>∃w₂,(Instr.beginRound l).run P w₁= .ok () w₂/\body.wpIn (nY (some l)) 0 P (roundPost P l R) a₁ w₂) (fun _ _ _=>False)
theorem FitsT.set{sz:Nat}{T:Array Value}{L:bL}(h:FitsT sz T L){p:Nat}(d:p<sz)(v:Value):FitsT sz (T.setIfInBounds p v) ((p,v)::L):=by
 obtain⟨b,c⟩:=h
 refine⟨by simp[b],fun t u a=> ?_⟩
 simp only[look] at a
 by_cases hpt:p=t
 .subst hpt
  simp at a;subst a
  simp[Array.getElem?_setIfInBounds,b,d]
 have:Nat.beq p t=false:=by cases hb:Nat.beq p t<;>simp_all [Nat.beq_eq]
 rw[this] at a
 simp[Array.getElem?_setIfInBounds,hpt,c t u a]
end
end
end Go.Dc
section
namespace Go.Dc
def eC{κ ν:Type}[DecidableEq κ]:List (κ×ν)->κ->Option ν
 |[],_=>none
 |p::l,k=>if k=p.1 then some p.2 else eC l k
def qQ{κ ν:Type}[DecidableEq κ]:List (κ×ν)->κ->ν->List (κ×ν)
 |[],k,v=>[(k,v)]
 |p::l,k,v=>if k=p.1 then(k,v)::l else p::qQ l k v
class KOrd(κ:Type) where
 lt:κ->κ->Bool
instance:KOrd Int:=⟨fun a b=>decide (a<b)⟩
instance:KOrd BA:=⟨fun a b=>decide (a.data.toList<b.data.toList)⟩
instance{α β:Type}[DecidableEq α][KOrd α][KOrd β]:KOrd (α×β):=⟨fun a b=>KOrd.lt a.1 b.1||(decide (a.1=b.1)&&KOrd.lt a.2 b.2)⟩
def mins{κ ν:Type}[KOrd κ]:List (κ×ν)->κ->ν->List (κ×ν)
 |[],k,v=>[(k,v)]
 |p::l,k,v=>if KOrd.lt k p.1=true then(k,v)::p::l else p::mins l k v
def mset{κ ν:Type}[DecidableEq κ][KOrd κ](l:List (κ×ν))(k:κ)(v:ν):List (κ×ν):=
 if(eC l k).isSome=true then l.map fun p=>if k=p.1 then(k,v) else p else mins l k v
theorem QG{κ ν:Type}[DecidableEq κ]{l:List (κ×ν)}{k:κ}:eC l k=none↔k∉l.map (·.1):=by
 induction l with
 |nil=>simp[eC]
 |cons p l a=>
  simp only[eC,kG,jT,not_or]
  split
  .rename_i h;simp[h]
  rename_i h;rw[a];exact⟨fun g=>⟨h,g⟩,fun g=>g.2⟩
theorem QO{κ ν:Type}[DecidableEq κ]{l:List (κ×ν)}{k:κ}{v:ν}(a:(l.map (·.1)).Nodup):eC l k=some v↔(k,v)∈l:=by
 induction l with
 |nil=>simp[eC]
 |cons p l b=>
  simp only[kG,fZ] at a
  simp only[eC,jT]
  split
  .rename_i h
   subst h
   constructor
   .intro e;left;simp at e;rw[<-e]
   rintro(e|e)
   .rw[<-e]
   exact absurd (gZ (f:=(·.1)) e) a.1
  rename_i h
  rw[b a.2]
  constructor
  .intro e;exact .inr e
  rintro(e|e)
  .exact absurd (congrArg Prod.fst e) h
  exact e
theorem YS{κ ν:Type}[DecidableEq κ]{l l':List (κ×ν)}(a:l'.Perm l)(b:(l'.map (·.1)).Nodup)(k:κ):eC l' k=eC l k:=by
 have hn':(l.map (·.1)).Nodup:=(a.map _).nodup_iff.1 b
 cases h:eC l k with
 |none=>rw[QG] at h ⊢;exact fun g=>h ((a.map _).mem_iff.1 g)
 |some v=>rw[QO hn'] at h;rw[QO b];exact a.mem_iff.2 h
theorem YE{κ ν:Type}[DecidableEq κ]{l:List (κ×ν)}{k:κ}{v:ν}(h:eC l k=none):qQ l k v=l++[(k,v)]:=by
 induction l with
 |nil=>rfl
 |cons p l a=>
  simp only[eC] at h
  split at h
  .cases h
  rename_i hk;simp[qQ,hk,a h]
theorem YC{κ ν:Type}[DecidableEq κ]{l:List (κ×ν)}{k:κ}{v:ν}(a:(l.map (·.1)).Nodup)(h:eC l k≠none):qQ l k v=l.map fun p=>if k=p.1 then(k,v) else p:=by
 induction l with
 |nil=>exact absurd rfl h
 |cons p l c=>
  simp only[kG,fZ] at a
  simp only[qQ,kG]
  by_cases hk:k=p.1
  .simp only[hk,jJ]
   congr 1
   rw[<-hk]
   refine(List.map_congr_left fun q b=> ?_).trans (List.map_id _)|>.symm
   have:k≠q.1:=fun e=>a.1 (by rw[<-hk,e];exact gZ (f:=(·.1)) b)
   simp[this]
  simp only[hk,jF]
  rw[c a.2 (by simpa[eC,hk] using h)]
theorem ZL{κ ν:Type}[KOrd κ](l:List (κ×ν))(k:κ)(v:ν):(mins l k v).Perm ((k,v)::l):=by
 induction l with
 |nil=>exact .refl _
 |cons p l a=>
  simp only[mins]
  split
  .exact .refl _
  exact(List.Perm.cons p a).trans (.swap _ _ _)
theorem LL{κ ν:Type}[DecidableEq κ][KOrd κ]{l l':List (κ×ν)}(a:l'.Perm l)(c:(l'.map (·.1)).Nodup)(k:κ)(v:ν):(qQ l' k v).Perm (mset l k v):=by
 have b:=YS a c k
 unfold mset
 cases h:eC l k with
 |none=>
  rw[YE (by rw[b,h])]
  simp only[Option.isSome_none,jB,jF]
  exact(List.perm_append_comm.trans (List.Perm.cons _ a)).trans (ZL l k v).symm
 |some u=>
  rw[YC c (by rw[b,h];simp)]
  simp only[Option.isSome_some,jJ]
  exact a.map _
theorem LC{κ ν:Type}[DecidableEq κ]{l:List (κ×ν)}(c:(l.map (·.1)).Nodup)(k:κ)(v:ν):((qQ l k v).map (·.1)).Nodup:=by
 cases h:eC l k with
 |none=>
  rw[YE h,gV,List.nodup_append]
  refine⟨c,by simp,?_⟩
  intro a f b d e
  simp at d;subst d e
  exact QG.1 h f
 |some u=>
  rw[YC c (by rw[h];simp)]
  have:(l.map fun p=>if k=p.1 then(k,v) else p).map (·.1)=l.map (·.1):=by
   rw[List.map_map]
   refine List.map_congr_left fun q _=> ?_
   simp only[Function.comp]
   split
   .rename_i e;exact e
   rfl
  rw[this];exact c
def qI(agg:Bool)(cs:List Value):Value:=bif agg then .agg cs.toArray else cs.headD undef
def MapL{κ ν:Type}(ek:κ->Value)(c:Codec ν)(agg:Bool)(m:Mem):List MapEntry->List (κ×ν)->Prop
 |[],l=>l=[]
 |e::es,l=>∃k v l',l=(k,v)::l'/\e.key=ek k/\(∃cs,c.rep m v cs/\e.val=qI agg cs)/\MapL ek c agg m es l'
def qEy(es:List MapEntry)(ck:Nat):Prop:=(∀e∈es,e.born<ck)/\(es.map (·.born)).Nodup
def MapQ{κ ν:Type}(ek:κ->Value)(c:Codec ν)(agg:Bool)(m:Mem)(q:Option Nat)(es:Array MapEntry)(ck:Nat)(o:Option (List (κ×ν))):Prop:=
 match q with
 |none=>o=none
 |some _=>∃l l',o=some l/\l'.Perm l/\(l'.map (·.1)).Nodup/\MapL ek c agg m es.toList l'/\qEy es.toList ck
theorem MapL.mono{κ ν:Type}{ek:κ->Value}{c:Codec ν}{agg:Bool}{m m':Mem}(a:m.le m'):∀{es:List MapEntry} {l:List (κ×ν)},MapL ek c agg m es l->MapL ek c agg m' es l
 |[],_,h=>h
 |_::_,_,⟨k,v,l',b,d,⟨cs,e,f⟩,g⟩=>⟨k,v,l',b,d,⟨cs,c.mono _ _ _ _ a e,f⟩,g.mono a⟩
theorem MapQ.mono{κ ν:Type}{ek:κ->Value}{c:Codec ν}{agg:Bool}{m m':Mem}{q:Option Nat}{es:Array MapEntry}{ck:Nat}{o:Option (List (κ×ν))}(h:MapQ ek c agg m q es ck o)(a:m.le m'):MapQ ek c agg m' q es ck o:=by
 cases q with
 |none=>exact h
 |some b=>obtain⟨l,l',d,e,f,g,k⟩:=h;exact⟨l,l',d,e,f,g.mono a,k⟩
def EO{κ:Type}[DecidableEq κ](k:κ):List κ->List MapEntry->Nat->Option (Nat×Value)
 |k'::ks,e::es,i=>if k=k' then some (i,e.val) else EO k ks es (i+1)
 |_,_,_=>none
structure KeyOK{κ:Type}[DecidableEq κ](P:Program)(kt:TypeId)(ek:κ->Value):Prop where
 find:∀(k:κ) (ks:List κ) (es:List MapEntry) (w:World),es.map (·.key)=ks.map ek->(Instr.findKey kt (ek k) es).run P w= .ok (EO k ks es 0) w
 chk:∀(e:Bool) (a:κ) (w:World),(Instr.checkKey e 10000 kt (ek a)).run P w= .ok () w
 stay:∀(a:κ) (w:World),(Instr.keyThatStays (ek a) (ek a)).run P w= .ok (ek a) w
 inj:∀a b,ek a=ek b->a=b
theorem qSc(a b:Int):(a==b)=decide (a=b):=by rw[kM];simp
theorem XN(a b:BA):(a==b)=decide (a=b):=by
 rw[kM]
 have:=Go.MapKept.bytes_beq a b
 simpa using this
theorem XB{κ:Type}[DecidableEq κ]{dd:TypeDesc}{ek:κ->Value}(c:∀a b,Instr.sameNow dd (ek a) (ek b)=some (decide (a=b)))(k:κ):∀(ks:List κ) (es:List MapEntry) (j:Nat),es.map (·.key)=ks.map ek->Instr.findNow dd (ek k) es j=some (EO k ks es j)
 |[],[],j,_=>rfl
 |[],e::es,j,h=>by simp at h
 |k'::ks,[],j,h=>by simp at h
 |k'::ks,e::es,j,h=>by
  simp only[kG,gF] at h
  simp only[Instr.findNow,h.1,c,EO]
  by_cases hkk:k=k'
  .subst hkk;simp
  simp only[hkk,decide_false,jF]
  exact XB c k ks es (j+1) h.2
theorem qTw{P:Program}{kt:TypeId}{q q':IntKind}(h:P.underlying kt=some (.int q))(e:Bool)(z:Int)(w:World):∀n,(Instr.checkKey e (n+1) kt (.int q' z)).run P w= .ok () w:=fun n=>by simp[Instr.checkKey,run_underlying h]
theorem qUm{P:Program}{kt:TypeId}(h:P.underlying kt=some .string)(e:Bool)(z:BA)(w:World):∀n,(Instr.checkKey e (n+1) kt (.string z)).run P w= .ok () w:=fun n=>by simp[Instr.checkKey,run_underlying h]
theorem qDt{κ:Type}[DecidableEq κ]{P:Program}{kt:TypeId}{ek:κ->Value}{d:TypeDesc}(o:P.underlying kt=some d)(c:∀a b,Instr.sameNow d (ek a) (ek b)=some (decide (a=b)))
  (l:∀(e:Bool) (a:κ) (w:World),(Instr.checkKey e 10000 kt (ek a)).run P w= .ok () w) (g:∀n a,Instr.sameBits n (ek a) (ek a)=true):KeyOK P kt ek where
 find k ks es w h:=by simp[Instr.findKey,run_underlying o,XB c k ks es 0 h]
 chk:=l
 stay a w:=by simp[Instr.keyThatStays,g]
 inj a b h:=by
  have f:=c a b
  rw[h,c b b] at f
  simpa using f.symm
theorem nA{P:Program}{kt:TypeId}{q:IntKind}(h:P.underlying kt=some (.int q)):KeyOK P kt (fun n:Int=>Value.int q n):=
 qDt h (fun a b=>by simp[Instr.sameNow];exact qSc a b) (fun e v w=>qTw h e v w 9999) (fun n a=>by cases n<;>simp[Instr.sameBits])
theorem ND{P:Program}{kt:TypeId}(h:P.underlying kt=some .string):KeyOK P kt (fun s:BA=>Value.string s):=
 qDt h (fun a b=>by simp[Instr.sameNow];exact XN a b) (fun e v w=>qUm h e v w 9999) (fun n a=>by cases n<;>simp[Instr.sameBits,XN])
section
variable {m:Mem} {κ ν:Type} {ek:κ->Value} {c:Codec ν} {agg:Bool}
theorem MapL.snoc:∀{es:List MapEntry} {l:List (κ×ν)} {e:MapEntry} {k:κ} {y:ν} {cs:List Value},MapL ek c agg m es l->e.key=ek k->c.rep m y cs->e.val=qI agg cs->MapL ek c agg m (es++[e]) (l++[(k,y)])
 |[],l,e,k,y,cs,h,a,b,d=>by
  simp only[MapL] at h;subst h
  exact⟨k,y,[],rfl,a,⟨cs,b,d⟩,rfl⟩
 |e'::es,l,e,k,y,cs,⟨k',v',l',f,g,n,o⟩,a,b,d=>by
  subst f
  exact⟨k',v',l'++[(k,y)],rfl,g,n,o.snoc a b d⟩
theorem HL:∀{es:List MapEntry} {l:List (κ×ν)},MapL ek c agg m es l->es.map (·.key)=(l.map (·.1)).map ek
 |[],l,h=>by simp only[MapL] at h;subst h;rfl
 |e::es,l,⟨k',v',l',a,b,_,d⟩=>by subst a;simp only[kG,b,HL d]
theorem MapQ.new(ek:κ->Value)(c:Codec ν)(agg:Bool)(m:Mem)(b:Nat):MapQ ek c agg m (some b) #[] 0 (some []):=⟨[],[],rfl,.refl _,by simp,rfl,by simp[qEy]⟩
theorem MapQ.nil(ek:κ->Value)(c:Codec ν)(agg:Bool)(m:Mem)(es:Array MapEntry)(ck:Nat):MapQ ek c agg m none es ck (none:Option (List (κ×ν))):=rfl
end
section
variable {P:Program} {n:Fr} {ops:Array Oper} {Q:Exit->Act->World->Prop} {i d:Nat} {L:bL} {w:World} {m:Mem} {own:List Piece} {N:bL->World->Prop}
variable {κ ν:Type} [DecidableEq κ] {ek:κ->Value} {c:Codec ν} {agg:Bool}
theorem LH(k:κ):∀(es:List MapEntry) (l:List (κ×ν)) (j:Nat),MapL ek c agg m es l->
  ∃r,EO k (l.map (·.1)) es j=r/\match r with
   |none=>eC l k=none/\qQ l k=fun v=>l++[(k,v)]
   |some (q,v)=>∃x cs,eC l k=some x/\c.rep m x cs/\v=qI agg cs/\j<=q/\q<j+es.length/\(∃e,es[q-j]? =some e/\e.key=ek k)/\
     ∀(y:ν) (cs':List Value) (f:MapEntry->MapEntry),c.rep m y cs'->(∀e,(f e).key=ek k/\(f e).val=qI agg cs')->MapL ek c agg m (es.modify (q-j) f) (qQ l k y)
 |[],l,j,h=>by
  simp only[MapL] at h;subst h
  exact⟨none,rfl,rfl,by funext v;rfl⟩
 |e::es,l,j,h=>by
  obtain⟨k',v',l',rfl,p,⟨cs,s,t⟩,u⟩:=h
  simp only[kG,EO]
  by_cases hkk:k=k'
  .subst hkk
   simp only[jJ]
   refine⟨_,rfl,v',cs,by simp[eC],s,t,jP _,by simp,⟨e,by simp,p⟩,?_⟩
   intro y cs' f n b
   simp only[Nat.sub_self,List.modify_zero_cons,qQ,jJ]
   exact⟨k,y,l',rfl,(b e).1,⟨cs',n,(b e).2⟩,u⟩
  simp only[hkk,jF]
  obtain⟨r,G,a⟩:=LH k es l' (j+1) u
  refine⟨r,G,?_⟩
  cases r with
  |none=>
   obtain⟨d,g⟩:=a
   exact⟨by simp[eC,hkk,d],by funext v;simp[qQ,hkk,g]⟩
  |some qv=>
   obtain⟨q,v⟩:=qv
   obtain⟨x,o,d,g,B,H,K,⟨A,D,E⟩,F⟩:=a
   have z:q-j=(q-(j+1))+1:=by omega
   refine⟨x,o,by simp[eC,hkk,d],g,B,by omega,by simp;omega,⟨A,by rw[z];simpa using D,E⟩,?_⟩
   intro y cs' f n b
   rw[z]
   simp only[List.modify_succ_cons,qQ,if_neg hkk]
   exact⟨k',v',_,rfl,p,⟨cs,s,t⟩,F y cs' f n b⟩
def DU(P:Program)(t:TypeId):Option (TypeId×TypeId×Value):=
 match P.underlying t with
 |some (.map k e)=>match P.info? e with
  |some i=>i.zero.map fun z=>(k,e,z)
  |none=>none
 |_=>none
theorem OP{t kt et:TypeId}{z:Value}(h:DU P t=some (kt,et,z)):P.underlying t=some (.map kt et)/\∀w:World,(zeroValue et).run P w= .ok z w:=by
 unfold DU at h
 split at h
 .rename_i k e he
  split at h
  .rename_i inf hi
   obtain⟨z',b,a⟩:=kZ.1 h
   simp only[Prod.mk.injEq] at a
   obtain⟨rfl,rfl,rfl⟩:=a
   exact⟨he,fun w=>by simp[zeroValue,typeInfo,hi,b]⟩
  cases h
 cases h
def eH(q:Option Nat)(es:Array MapEntry)(ck:Nat):Piece:=
 match q with
 |none=> .room none 0 0 0 0
 |some b=> .blk b (.map es ck)
def cS(o:Option (List (κ×ν)))(k:κ):Option ν:=o.bind fun l=>eC l k
def lG[KOrd κ](o:Option (List (κ×ν)))(k:κ)(v:ν):Option (Option (List (κ×ν))):=o.map fun l=>some (mset l k v)
theorem HE{t:TypeId}(c:cD ops L i=some (some d,.makeMap t none))(a:Nat.blt d n=true)(st:St m own w)
  (h:∀b w',St m (eH (some b) #[] 0::own) w'->N ((d,.map (some b))::L) w'):dZ P n ops Q i N L w:=by
 refine mB (w':=w.alloc (.map #[] 0)) c a (fun q e=> ?_) (h w.heap.size _ (st.alloc ⟨⟨rfl,rfl⟩,rfl,nO⟩ rfl))
 simp[execOp,e,Instr.makeMap]
theorem qKu{t kt et:TypeId}{z:Value}(D:DU P t=some (kt,et,z))(p:KeyOK P kt ek){q:Option Nat}{es:Array MapEntry}{ck:Nat}{o:Option (List (κ×ν))}(F:Piece.holds m w (eH q es ck))(g:MapQ ek c agg m q es ck o)
  {zx:ν} {zcs:List Value} (G:c.rep m zx zcs) (B:z=qI agg zcs) (k:κ) (ok:Bool):
  ∃cs,c.rep m ((cS o k).getD zx) cs/\(Instr.lookup t (.map q) (ek k) ok).run P w= .ok (bif ok then .tuple #[qI agg cs,.bool (cS o k).isSome] else qI agg cs) w:=by
 obtain⟨u,y⟩:=OP D
 have main:∀(es:List MapEntry) (l:List (κ×ν)),MapL ek c agg m es l->∃cs r,c.rep m ((eC l k).getD zx) cs/\(Instr.findKey kt (ek k) es).run P w= .ok r w/\
   (match r with|some (_,v)=>v=qI agg cs/\(eC l k).isSome=true|none=>qI agg cs=z/\(eC l k).isSome=false):=by
  intro es l h
  obtain⟨r,g,d⟩:=LH (c:=c) (agg:=agg) k es l 0 h
  cases r with
  |none=>exact⟨zcs,none,by simp[d.1,G],by rw[p.find k _ es w (HL h),g],B.symm,by simp[d.1]⟩
  |some qv=>
   obtain⟨q,v⟩:=qv
   obtain⟨x,cs,e,f,a,_⟩:=d
   exact⟨cs,some (q,v),by simp[e,f],by rw[p.find k _ es w (HL h),g],a,by simp[e]⟩
 cases q with
 |none=>
  simp only[MapQ] at g
  subst g
  obtain⟨cs,r,e,f,a⟩:=main [] [] rfl
  refine⟨cs,by simpa[cS,eC] using e,?_⟩
  have n:=p.chk true k w
  cases r with
  |none=>cases ok<;>simp[Instr.lookup,run_underlying u,n,f,y,a.1,cS]
  |some r=>simp[eC] at a
 |some b=>
  obtain⟨H,l,rfl,s,A,h,_⟩:=g
  obtain⟨cs,r,e,f,a⟩:=main es.toList l h
  rw[YS s A] at e a
  refine⟨cs,by simpa[cS] using e,?_⟩
  have E:w.heap[b]? =some (.map es ck):=F.1
  have d:(getObj b).run P w= .ok (.map es ck) w:=by simp[getObj,Sem.run,E]
  have n:=p.chk es.isEmpty k w
  cases r with
  |none=>cases ok<;>simp[Instr.lookup,run_underlying u,d,n,f,y,a.1,a.2,cS]
  |some r=>
   obtain⟨_,v⟩:=r
   cases ok<;>simp[Instr.lookup,run_underlying u,d,n,f,a.1,a.2,cS]
theorem zU{t kt et:TypeId}{z:Value}{x y:Operand}{q:Option Nat}{es:Array MapEntry}{ck:Nat}{o:Option (List (κ×ν))}{k:κ}{ok:Bool}(p:cD ops L i=some (some d,.lookup t x y ok))(g:Nat.blt d n=true)
  (v:bM L x=some (.map q)) (A:bM L y=some (ek k)) (f:DU P t=some (kt,et,z)) (l:KeyOK P kt ek) (r:Piece.holds m w (eH q es ck)) (u:MapQ ek c agg m q es ck o)
  {zx:ν} {zcs:List Value} (B:c.rep m zx zcs) (a:z=qI agg zcs)
  (h:∀cs,c.rep m ((cS o k).getD zx) cs->N ((d,bif ok then .tuple #[qI agg cs,.bool (cS o k).isSome] else qI agg cs)::L) w):dZ P n ops Q i N L w:=by
 obtain⟨cs,b,e⟩:=qKu f l r u B a k ok
 refine mB p g (fun q s=> ?_) (h cs b)
 simp[execOp,s,bV v,bV A,e]
theorem WY{b:Nat}{o o':Obj}(a:w.heap[b]? =some o)(c:∀cs e f,o≠ .cells cs e f):(setObj b o').run P w= .ok () {w with heap:=w.heap.setIfInBounds b o'}:=by
 cases o<;>first|(exact absurd rfl (c _ _ _))|simp[setObj,Sem.run,a]
theorem qIc[KOrd κ]{t kt et:TypeId}{z v:Value}{x y u:Operand}{q:Option Nat}{es:Array MapEntry}{ck:Nat}{o o':Option (List (κ×ν))}{k:κ}{yv:ν}{cs:List Value}(ho:cD ops L i=some (none,.mapUpdate t x y u))
  (hx:bM L x=some (.map q)) (hy:bM L y=some (ek k)) (hu:bM L u=some v) (hI:DU P t=some (kt,et,z)) (F:KeyOK P kt ek) (st:St m (eH q es ck::own) w) (H:MapQ ek c agg m q es ck o)
  (S:c.rep m yv cs) (hv:v=qI agg cs) (Z:lG o k yv=some o')
  (h:∀es' ck' w',St m (eH q es' ck'::own) w'->MapQ ek c agg m q es' ck' o'->N L w'):dZ P n ops Q i N L w:=by
 obtain⟨V,h2⟩:=OP hI
 cases q with
 |none=>simp only[MapQ] at H;subst H;simp[lG] at Z
 |some b=>
  obtain⟨l0,l,rfl,s,g,Y,D,R⟩:=H
  simp only[lG,kW,jM] at Z
  subst Z
  have B:w.heap[b]? =some (.map es ck):=st.head.1
  have a1:=sU B
  have E:(getObj b).run P w= .ok (.map es ck) w:=by simp[getObj,Sem.run,B]
  have K:∀o',(setObj b o').run P w= .ok () {w with heap:=w.heap.setIfInBounds b o'}:=fun o'=>WY B (by simp)
  have G:∀o',St m (.blk b o'::own) {w with heap:=w.heap.setIfInBounds b o'}:=fun o'=>
   St.set (o:= .map es ck) st ⟨⟨rfl,rfl⟩,rfl,nO⟩ (by simp[a1]) (fun k _ F=>by simp[Array.getElem?_setIfInBounds,Ne.symm F])
  have hc:=F.chk false k w
  obtain⟨r,H,A⟩:=LH (c:=c) (agg:=agg) k es.toList l 0 Y
  have f:(Instr.findKey kt (ek k) es.toList).run P w= .ok r w:=by rw[F.find k _ es.toList w (HL Y),H]
  cases r with
  |none=>
   obtain⟨g1,g2⟩:=A
   refine AE ho (fun q hq=> ?_) (h (es.push {key:=ek k,val:=v,born:=ck}) (ck+1) _ (G _) ⟨_,qQ l k yv,rfl,LL s g k yv,LC g k yv,?_,?_,?_⟩)
   .simp[execOp,hq,bV hx,bV hy,bV hu,Instr.mapUpdate,run_underlying V,E,hc,f,K]
   .rw[g2,hH]
    exact Y.snoc rfl S hv
   .intro e d
    rw[hH,kL] at d
    rcases d with d|d
    .have:=D e d;omega
    simp at d;subst d;simp
   rw[hH,gV,List.nodup_append]
   refine⟨R,by simp,?_⟩
   intro a ha b B e
   simp at B;subst B e
   obtain⟨U,M,a2⟩:=fV.1 ha
   have:=D U M
   omega
  |some qv=>
   obtain⟨q,v0⟩:=qv
   obtain⟨x0,a2,g1,g2,g3,g4,g5,⟨U,g6,g7⟩,g8⟩:=A
   have d:es[q]? =some U:=by simpa using g6
   have M:(Instr.keyThatStays (ek k) (ek k)).run P w= .ok (ek k) w:=F.stay k w
   refine AE ho (fun p hp=> ?_) (h (es.modify q fun e=>{e with key:=ek k,val:=v}) ck _ (G _) ⟨_,qQ l k yv,rfl,LL s g k yv,LC g k yv,?_,?_,?_⟩)
   .simp[execOp,hp,bV hx,bV hy,bV hu,Instr.mapUpdate,run_underlying V,E,hc,f,d,g7,M,K]
   .rw[fN]
    have:=g8 yv cs (fun e=>{e with key:=ek k,val:=v}) S (fun e=>⟨rfl,hv⟩)
    simpa using this
   .intro e d
    rw[fN] at d
    obtain⟨j,hj,rfl⟩:=List.mem_iff_getElem.1 d
    rw[dJ]
    have hj':j<es.toList.length:=by simpa using hj
    have:=D es.toList[j] (kH hj')
    split
    .exact this
    exact this
   rw[fN]
   have:(es.toList.modify q fun e=>{e with key:=ek k,val:=v}).map (·.born)=es.toList.map (·.born):=by
    apply List.ext_getElem
    .simp
    intro j V h2
    simp only[List.getElem_map,dJ]
    split<;>rfl
   rw[this];exact R
theorem oD[KOrd κ]{t kt et:TypeId}{z v:Value}{x y u:Operand}{q:Option Nat}{es:Array MapEntry}{ck:Nat}{o o':Option (List (κ×ν))}{k:κ}{yv:ν}{cs:List Value}(ho:cD ops L i=some (none,.insert t x y u))
  (hx:bM L x=some (.map q)) (hy:bM L y=some (ek k)) (hu:bM L u=some v) (hI:DU P t=some (kt,et,z)) (F:KeyOK P kt ek) (st:St m (eH q es ck::own) w) (H:MapQ ek c agg m q es ck o)
  (S:c.rep m yv cs) (hv:v=qI agg cs) (Z:lG o k yv=some o')
  (h:∀es' ck' w',St m (eH q es' ck'::own) w'->MapQ ek c agg m q es' ck' o'->N L w'):dZ P n ops Q i N L w:=by
 obtain⟨V,h2⟩:=OP hI
 cases q with
 |none=>simp only[MapQ] at H;subst H;simp[lG] at Z
 |some b=>
  obtain⟨l0,l,rfl,s,g,Y,D,R⟩:=H
  simp only[lG,kW,jM] at Z
  subst Z
  have B:w.heap[b]? =some (.map es ck):=st.head.1
  have a1:=sU B
  have E:(getObj b).run P w= .ok (.map es ck) w:=by simp[getObj,Sem.run,B]
  have K:∀o',(setObj b o').run P w= .ok () {w with heap:=w.heap.setIfInBounds b o'}:=fun o'=>WY B (by simp)
  have G:∀o',St m (.blk b o'::own) {w with heap:=w.heap.setIfInBounds b o'}:=fun o'=>
   St.set (o:= .map es ck) st ⟨⟨rfl,rfl⟩,rfl,nO⟩ (by simp[a1]) (fun k _ F=>by simp[Array.getElem?_setIfInBounds,Ne.symm F])
  have hc:=F.chk false k w
  obtain⟨r,H,A⟩:=LH (c:=c) (agg:=agg) k es.toList l 0 Y
  have f:(Instr.findKey kt (ek k) es.toList).run P w= .ok r w:=by rw[F.find k _ es.toList w (HL Y),H]
  cases r with
  |none=>
   obtain⟨g1,g2⟩:=A
   refine AE ho (fun q hq=> ?_) (h (es.push {key:=ek k,val:=v,born:=ck}) (ck+1) _ (G _) ⟨_,qQ l k yv,rfl,LL s g k yv,LC g k yv,?_,?_,?_⟩)
   .simp[execOp,hq,bV hx,bV hy,bV hu,Instr.mapUpdate,run_underlying V,E,hc,f,K]
   .rw[g2,hH]
    exact Y.snoc rfl S hv
   .intro e d
    rw[hH,kL] at d
    rcases d with d|d
    .have:=D e d;omega
    simp at d;subst d;simp
   rw[hH,gV,List.nodup_append]
   refine⟨R,by simp,?_⟩
   intro a ha b B e
   simp at B;subst B e
   obtain⟨U,M,a2⟩:=fV.1 ha
   have:=D U M
   omega
  |some qv=>
   obtain⟨q,v0⟩:=qv
   obtain⟨x0,a2,g1,g2,g3,g4,g5,⟨U,g6,g7⟩,g8⟩:=A
   have d:es[q]? =some U:=by simpa using g6
   have M:(Instr.keyThatStays (ek k) (ek k)).run P w= .ok (ek k) w:=F.stay k w
   refine AE ho (fun p hp=> ?_) (h (es.modify q fun e=>{e with key:=ek k,val:=v}) ck _ (G _) ⟨_,qQ l k yv,rfl,LL s g k yv,LC g k yv,?_,?_,?_⟩)
   .simp[execOp,hp,bV hx,bV hy,bV hu,Instr.mapUpdate,run_underlying V,E,hc,f,d,g7,M,K]
   .rw[fN]
    have:=g8 yv cs (fun e=>{e with key:=ek k,val:=v}) S (fun e=>⟨rfl,hv⟩)
    simpa using this
   .intro e d
    rw[fN] at d
    obtain⟨j,hj,rfl⟩:=List.mem_iff_getElem.1 d
    rw[dJ]
    have hj':j<es.toList.length:=by simpa using hj
    have:=D es.toList[j] (kH hj')
    split
    .exact this
    exact this
   rw[fN]
   have:(es.toList.modify q fun e=>{e with key:=ek k,val:=v}).map (·.born)=es.toList.map (·.born):=by
    apply List.ext_getElem
    .simp
    intro j V h2
    simp only[List.getElem_map,dJ]
    split<;>rfl
   rw[this];exact R
end
end Go.Dc
namespace Go.Dc
section
variable {P:Program} {n:Fr} {ops:Array Oper} {Q:Exit->Act->World->Prop} {i d:Nat} {L:bL} {w:World} {m:Mem} {own:List Piece} {N:bL->World->Prop}
variable {α:Type} {f:α->Value}
def sE(by_:Nat)(z:α)(k:Int):Option (List α):=if 0<=k/\k*by_<=140737488355328/\k<=maxLen then some (List.replicate k.toNat z) else none
def lB(f:α->Value)(l:List α)(T:List Value):Array Value:=(l.map f++T).toArray
theorem OY{t e by_:Nat}{x y:Operand}{z:α}{k:Int}{kd B:IntKind}{l:List α}(f:α->Value)(E:cD ops L i=some (some d,.makeSlice t x y))(D:Nat.blt d n=true)(M:bM L x=some (.int kd k))(R:bM L y=some (.int B k))
  (hi:xO P t=some (e,1,by_,1)) (r:(P.info? e).bind (·.zero)=some (f z)) (F:(f z).oneCell'=true) (st:St m own w) (g:sE by_ z k=some l)
  (h:∀b w',List.length l=Int.toNat k->St m (.blk b (.cells (lB f l []) e (0,0))::own) w'->N ((d,.slice (some ⟨b,0,none⟩) (Int.toNat k) (Int.toNat k))::L) w'):dZ P n ops Q i N L w:=by
 obtain⟨H,inf,zv,a,p,A,v,U⟩:=OM hi
 rw[a] at r
 simp only[j0,p,jM] at r
 subst r
 unfold sE at g
 split at g
 .rename_i hk
  obtain⟨Y,Z,k3⟩:=hk
  simp only[jM] at g;subst g
  have S:(maxLen:Int)=9223372036854775807:=rfl
  have K:IntKind.i64.wrap k=k:=by simp[IntKind.wrap,IntKind.signed,IntKind.bits];omega
  have k2':¬(281474976710656<(by_:Int)*k):=by rw[Int.mul_comm];omega
  have c:(f z).cells= #[f z]:=by cases hv:f z<;>simp_all [Value.cells,Value.oneCell']
  have u:lB f (List.replicate k.toNat z) []=((List.replicate k.toNat z).map f).toArray:=by simp[lB]
  refine mB (w':=w.alloc (.cells ((List.replicate k.toNat z).map f).toArray e)) E D (fun q G=> ?_) (h w.heap.size _ (by simp) (by rw[u];exact st.alloc ⟨⟨rfl,rfl⟩,rfl,nO⟩ rfl))
  simp only[execOp,G,bV M,bV R,Instr.makeSlice,Sem.run_bind,run_underlying H,Result.andThen_ok,asInt,asIntOf,typeInfo,run_program,a,Sem.run_pure,K,v]
  have s:¬(k<0):=by omega
  have o:(decide (k<0)||decide ((by_:Int)*k>2^48)||decide (k<0)||decide (k>k))=false:=by simp[s];omega
  simp only[o,jB,jF,run_askRoom,Result.andThen_ok,sizeOf,typeInfo,Sem.run_bind,run_program,a,Sem.run_pure,A,Nat.mul_one]
  by_cases h0:k.toNat=0
  .simp[h0,newRow]
   congr 2
   first|rfl|simp
  simp[h0,zeroValue,typeInfo,a,p,c,newRow,Nat.mod_one]
  congr 2
  apply Array.ext
  .simp
  intro j s V;simp
 cases g
theorem rI{t e:TypeId}{x y:Operand}{b nn cc:Nat}{l:List α}{k:IntKind}{ix:Int}{z:α}(p:cD ops L i=some (some d,.indexAddr t x y))(o:Nat.blt d n=true)
  (s:bM L x=some (.slice (some ⟨b,0,none⟩) nn cc)) (u:bM L y=some (.int k ix)) (hi:pB P t=some (e,1)) (A:List.length l=nn) (a:idx l ix=some z)
  (h:N ((d,.pointer (some ⟨b,ix.toNat,none⟩))::L) w):dZ P n ops Q i N L w:=by
 obtain⟨c,inf,f,g⟩:=vW hi
 unfold idx at a
 split at a
 .rename_i h0
  have v:ix.toNat<l.length:=(List.getElem?_eq_some_iff.1 a).1
  refine mB p o (fun q r=> ?_) h
  have hlt':ix<(nn:Int):=by omega
  simp[execOp,r,Instr.indexAt,bV s,bV u,asIntOf,run_underlying c,h0,hlt',sizeOf,typeInfo,f,g,tP]
 cases a
theorem qKx{l:List α}{T:List Value}{j:Nat}{z:α}(h:l[j]? =some z):(lB f l T)[j]? =some (f z):=by
 have a:=(List.getElem?_eq_some_iff.1 h).1
 simp only[lB,List.getElem?_toArray]
 rw[List.getElem?_append_left (by simpa using a)]
 simp[h]
theorem zS{t e:TypeId}{x:Operand}{b:Nat}{l:List α}{T:List Value}{ix:Int}{z:α}{fr:Nat×Nat}(r:cD ops L i=some (some d,.load t x))(k:Nat.blt d n=true)
  (B:bM L x=some (.pointer (some ⟨b,ix.toNat,none⟩))) (s:Piece.holds m w (.blk b (.cells (lB f l T) e fr))) (c:idx l ix=some z) (A:oM P t [f z]=some (f z))
  (h:N ((d,f z)::L) w):dZ P n ops Q i N L w:=by
 unfold idx at c
 split at c
 .refine mB r k (fun q y=> ?_) h
  have g:=s.1
  have p:=xN (P:=P) (w:=w) (t:=t) (b:=b) (o:=ix.toNat) (cs:=[f z]) (v:=f z) (fun j u a=>by
   match j,a with
   |0,a=>
    simp at a;subst a
    simp[World.cell?,g,qKx c]) A
  simp[execOp,y,Instr.loadAt,bV B,Instr.sureAddr,p]
 cases c
theorem zP{t e:TypeId}{x y:Operand}{b:Nat}{l:List α}{T:List Value}{ix:Int}{z u:α}(A:cD ops L i=some (none,.store t x y))
  (D:bM L x=some (.pointer (some ⟨b,ix.toNat,none⟩))) (E:bM L y=some (f u)) (st:St m (.blk b (.cells (lB f l T) e (0,0))::own) w) (g:idx l ix=some z) (p:(f u).oneCell'=true) (d:(P.info? t).map (·.size)=some 1)
  (h:∀w',St m (.blk b (.cells (lB f (l.set ix.toNat u) T) e (0,0))::own) w'->N L w'):dZ P n ops Q i N L w:=by
 unfold idx at g
 split at g
 .have s:ix.toNat<l.length:=(List.getElem?_eq_some_iff.1 g).1
  have c:(f u).cells= #[f u]:=by cases hv:f u<;>simp_all [Value.cells,Value.oneCell']
  have r:=st.head.1
  have a:=run_storeCells_at P b ix.toNat e [f u] 0 (lB f l T) w r (by simp[lB];omega) (by simp[p])
  simp only[fC] at a
  have o:((lB f l T).toList.take ix.toNat++[f u]++(lB f l T).toList.drop (ix.toNat+[f u].length)).toArray=lB f (l.set ix.toNat u) T:=by
   apply congrArg List.toArray
   simp only[lB,dI]
   rw[List.map_set,List.set_eq_take_append_cons_drop,if_pos (by simpa using s)]
   rw[gD (by simp;omega),gL (by simp;omega)]
   simp
  rw[o] at a
  cases hi:P.info? t with
  |none=>simp[hi] at d
  |some inf=>
   simp only[hi,kW,jM] at d
   refine AE A (fun q B=> ?_) (h (w.setRow b (lB f (l.set ix.toNat u) T)) (st.set ⟨⟨rfl,rfl⟩,rfl,nO⟩ (setRow_heap w b (lB f l T) _ e _ r) (fun k _ v=>setRow_other w b k _ v)))
   simp[execOp,B,Instr.storeAt,bV D,bV E,Instr.sureAddr,storeVar,sizeOf,typeInfo,hi,c,d,a]
 cases g
theorem St.freeze{c:Codec α}{b e nn cc:Nat}{l:List α}{T:List Value}(st:St m (.blk b (.cells (lB f l T) e (0,0))::own) w)(F:List.length l=nn)(D:nn<=cc)(a:cc<=maxLen)(y:(lB f l T).size=cc)(g:c.sz=1)(z:∀m x,c.rep m x [f x]):
  ∃m',m.le m'/\St m' (.room (some ⟨b,0,none⟩) (List.length l) cc e 1::own) w/\RepS c m' (some ⟨b,0,none⟩) cc l:=by
 have h:(lB f l T).toList.take (l.map f).length=l.map f:=by simp[lB]
 obtain⟨m',q,r,s,t,u,E⟩:=St.know (b:=b) (cs:=l.map f) st.tail (st.head_ne rfl) st.head.1 h (fun o v n=>by rw[st.head.2.1 o] at n;cases n)
 refine⟨m',q,r.cons ⟨rfl,rfl,by omega,a,⟨_,st.head.1,by rw[y,Nat.mul_one]⟩,fun o B=>t o (by simpa using B),by rw[u];exact st.head.2.2⟩ ?_,?_⟩
 .intro k d;simp[Piece.block] at d;subst d;exact st.head_ne rfl
 exact RepS.of_cells (cs:=l.map f) (by omega) a (fun j x p=>by
  have d:=(List.getElem?_eq_some_iff.1 p).1
  have A:=(List.getElem?_eq_some_iff.1 p).2
  rw[g,Nat.mul_one,<-List.map_drop,<-List.map_take,jR d,A]
  exact z m' x) s
theorem qOb{by_:Nat}{z:α}{k:Int}{l:List α}(h:sE by_ z k=some l):k.toNat<=maxLen:=by
 unfold sE at h
 split at h
 .rename_i hk;have:=hk.2.2;have a:(maxLen:Int)=9223372036854775807:=rfl;omega
 cases h
theorem qKi{l:List α}{T:List Value}{nn cc:Nat}(h:List.length l=nn)(a:nn+T.length=cc):(lB f l T).size=cc:=by simp[lB];omega
end
end Go.Dc
namespace Go.Dc
theorem xV{α:Type}{l:List α}{n:Nat}(h:List.length l=n)(i:Nat)(a:α):List.length (List.set l i a)=n:=by rw[gW];exact h
end Go.Dc
end
namespace Go.Dc
section
def nN{α σ β:Type}(f:Option α->σ->Option (σ⊕β)):List α->σ->Option β
 |[],s=>(f none s).bind fun
  | .inl _=>none
  | .inr b=>some b
 |e::l,s=>(f (some e) s).bind fun
  | .inl s'=>nN f l s'
  | .inr b=>some b
def ID{α:Type}(x:α):List α->List (List α)
 |[]=>[[x]]
 |y::l=>(x::y::l)::(ID x l).map (y:: ·)
def wO{α:Type}:List α->List (List α)
 |[]=>[[]]
 |x::l=>(wO l).flatMap (ID x)
theorem LA{α:Type}{x:α}:∀{l k:List α},k∈ID x l↔∃a b,l=a++b/\k=a++x::b
 |[],k=>by
  simp only[ID,jK]
  constructor
  .rintro rfl;exact⟨[],[],rfl,rfl⟩
  rintro⟨a,b,h,rfl⟩
  simp only[List.nil_eq,dQ] at h
  obtain⟨rfl,rfl⟩:=h;rfl
 |y::l,k=>by
  simp only[ID,jT,fV]
  constructor
  .rintro(rfl|⟨k',c,rfl⟩)
   .exact⟨[],y::l,rfl,rfl⟩
   obtain⟨a,b,rfl,rfl⟩:=LA.1 c
   exact⟨y::a,b,rfl,rfl⟩
  rintro⟨a,b,h,rfl⟩
  cases a with
  |nil=>left;simp only[jO] at h;rw[<-h];rfl
  |cons z a=>
   simp only[jQ,gF] at h
   obtain⟨rfl,rfl⟩:=h
   right
   exact⟨a++x::b,LA.2 ⟨a,b,rfl,rfl⟩,rfl⟩
theorem QA{α:Type}:∀{l k:List α},k.Perm l->k∈wO l
 |[],k,h=>by rw[List.perm_nil] at h;subst h;simp[wO]
 |x::l,k,h=>by
  have c:x∈k:=h.mem_iff.2 (jH ..)
  obtain⟨a,b,rfl⟩:=List.append_of_mem c
  have h':(a++b).Perm l:=(fP.symm.trans h).cons_inv
  simp only[wO,List.mem_flatMap]
  exact⟨a++b,QA h',LA.2 ⟨a,b,rfl,rfl⟩⟩
theorem XU{α:Type}:∀{l k:List α},k∈wO l->k.Perm l
 |[],k,h=>by simp[wO] at h;subst h;exact .refl _
 |x::l,k,h=>by
  simp only[wO,List.mem_flatMap] at h
  obtain⟨k',c,d⟩:=h
  obtain⟨a,b,rfl,rfl⟩:=LA.1 d
  exact fP.trans ((XU c).cons x)
def wF{α σ β:Type}[DecidableEq β](f:Option α->σ->Option (σ⊕β))(l:List α)(s:σ):Option β:=
 match nN f l s with
 |none=>none
 |some b=>if((wO l).all fun k=>decide (nN f k s=some b))=true then some b else none
theorem qKs{α σ β:Type}[DecidableEq β]{f:Option α->σ->Option (σ⊕β)}{l:List α}{s:σ}{b:β}(h:wF f l s=some b):∀k,k.Perm l->nN f k s=some b:=by
 unfold wF at h
 split at h
 .cases h
 rename_i b' hb
 split at h
 .rename_i hall
  simp only[jM] at h;subst h
  intro k a
  have:=jU.1 hall k (QA a)
  simpa using this
 cases h
theorem YN{α σ β:Type}[DecidableEq β]{f:Option α->σ->Option (σ⊕β)}{l:List α}{s:σ}{b:β}(h:∀k,k.Perm l->nN f k s=some b):wF f l s=some b:=by
 unfold wF
 rw[h l (.refl _)]
 simp only
 rw[if_pos]
 exact jU.2 fun k a=>by simpa using h k (XU a)
def LoopE{α σ β:Type}(f:Option α->σ->Option (σ⊕β))(rem:List α)(s:σ)(b:β)(k:Nat):Prop:=(∀l,l.Perm rem->nN f l s=some b)/\rem.length<k
theorem LoopE.start{α σ β:Type}[DecidableEq β]{f:Option α->σ->Option (σ⊕β)}{l:List α}{s:σ}{b:β}(h:wF f l s=some b):LoopE f l s b (l.length+1):=⟨qKs h,dF _⟩
theorem LoopE.zero{α σ β:Type}{f:Option α->σ->Option (σ⊕β)}{rem:List α}{s:σ}{b:β}{p:Prop}(h:LoopE f rem s b 0):p:=absurd h.2 (kT _)
theorem LoopE.nil{α σ β:Type}{f:Option α->σ->Option (σ⊕β)}{rem:List α}{s:σ}{b:β}{k:Nat}(h:LoopE f rem s b (k+1))(e:rem=[]):
  ∃c,f none s=some c/\(∀s',c= .inl s'->LoopE f rem s' b k)/\(∀b',c= .inr b'->b'=b):=by
 subst e
 have:=h.1 [] (.refl _)
 simp only[nN] at this
 obtain⟨c,d,a⟩:=jS.1 this
 refine⟨c,d,?_,?_⟩
 .rintro s' rfl;simp at a
 rintro b' rfl;simpa using a
theorem LoopE.cons{α σ β:Type}{f:Option α->σ->Option (σ⊕β)}{rem rest:List α}{e:α}{s:σ}{b:β}{k:Nat}(h:LoopE f rem s b (k+1))(n:rem.Perm (e::rest)):
  ∃c,f (some e) s=some c/\(∀s',c= .inl s'->LoopE f rest s' b k)/\(∀b',c= .inr b'->b'=b):=by
 have p:rem.length=rest.length+1:=by simpa using n.length_eq
 have key:∀l,l.Perm rest->nN f (e::l) s=some b:=fun l a=>h.1 _ ((a.cons e).trans n.symm)
 have d:=key rest (.refl _)
 simp only[nN] at d
 obtain⟨c,g,o⟩:=jS.1 d
 refine⟨c,g,?_,?_⟩
 .rintro s' rfl
  refine⟨fun l a=> ?_,by have:=h.2;omega⟩
  have:=key l a
  simp only[nN,g,j0] at this
  exact this
 rintro b' rfl;simpa using o
def rL(r:Nat)(q:Option Nat)(ck:Nat)(seen:Array Nat):Piece:= .blk r (.mapIter q ck seen ck)
def AZ(es:Array MapEntry)(seen:Array Nat):List MapEntry:=es.toList.filter fun e=> !seen.contains e.born
def ItR{κ ν:Type}(ek:κ->Value)(c:Codec ν)(agg:Bool)(m:Mem)(es:Array MapEntry)(seen:Array Nat)(rem:List (κ×ν)):Prop:=∃l',l'.Perm rem/\MapL ek c agg m (AZ es seen) l'
def Ent(es:Array MapEntry)(seen:Array Nat)(k v:Value):Prop:=∃(a:Array Nat) (e:MapEntry),seen=a.push e.born/\e∈es.toList/\e.key=k/\e.val=v
theorem ItR.mono{κ ν:Type}{ek:κ->Value}{c:Codec ν}{agg:Bool}{m m':Mem}{es:Array MapEntry}{seen:Array Nat}{rem:List (κ×ν)}(h:ItR ek c agg m es seen rem)(a:m.le m'):ItR ek c agg m' es seen rem:=by
 obtain⟨l',b,d⟩:=h;exact⟨l',b,d.mono a⟩
section
variable {P:Program} {n:Fr} {ops:Array Oper} {Q:Exit->Act->World->Prop} {i d:Nat} {L:bL} {w:World} {m:Mem} {own:List Piece} {N:bL->World->Prop}
variable {κ ν:Type} {ek:κ->Value} {c:Codec ν} {agg:Bool}
theorem ZF{t kt et:TypeId}{x:Operand}{b:Nat}{es:Array MapEntry}{ck:Nat}{o:Option (List (κ×ν))}(s:cD ops L i=some (some d,.range t x))(k:Nat.blt d n=true)(z:bM L x=some (.map (some b)))
  (y:P.underlying t=some (.map kt et)) (st:St m (eH (some b) es ck::own) w) (v:MapQ ek c agg m (some b) es ck o)
  (h:∀r w',St m (rL r (some b) ck #[]::eH (some b) es ck::own) w'->ItR ek c agg m es #[] (o.getD [])->N ((d,.pointer (some ⟨r,0,none⟩))::L) w'):dZ P n ops Q i N L w:=by
 obtain⟨l,l',rfl,a,A,p,B⟩:=v
 have e:(getObj b).run P w= .ok (.map es ck) w:=by
  have f:w.heap[b]? =some (.map es ck):=st.head.1
  simp[getObj,Sem.run,f]
 have g:=st.alloc (w':=w.alloc (.mapIter (some b) ck #[] ck)) (o:= .mapIter (some b) ck #[] ck) ⟨⟨rfl,rfl⟩,rfl,nO⟩ rfl
 have f:∀o,(newObj o).run P w= .ok w.heap.size (w.alloc o):=fun o=>rfl
 refine mB s k (fun q u=> ?_) (h w.heap.size _ g ⟨l',a,by rw[show AZ es #[]=es.toList from List.filter_eq_self.2 (fun _ _=>by simp)];exact p⟩)
 simp[execOp,u,bV z,Instr.range,run_underlying y,e,f]
theorem qBw:∀{es:List MapEntry} {l:List (κ×ν)} {j:Nat} {e:MapEntry},MapL ek c agg m es l->es[j]? =some e->∃k v cs,l[j]? =some (k,v)/\e.key=ek k/\c.rep m v cs/\e.val=qI agg cs/\MapL ek c agg m (es.eraseIdx j) (l.eraseIdx j)
 |h::es,l,0,e,⟨k,v,l',b,d,⟨cs,f,s⟩,g⟩,a=>by
  simp at a;subst a b
  exact⟨k,v,cs,rfl,d,f,s,by simpa using g⟩
 |h::es,l,j+1,e,⟨k,v,l',b,d,f,g⟩,a=>by
  subst b
  obtain⟨t,v1,cs,n,o,p,q,r⟩:=qBw g (by simpa using a)
  exact⟨t,v1,cs,by simpa using n,o,p,q,by simp only[List.eraseIdx_cons_succ];exact⟨k,v,_,rfl,d,f,r⟩⟩
theorem qIp{es:List MapEntry}(a:(es.map (·.born)).Nodup){seen:Array Nat}{j:Nat}{e:MapEntry}(h:(es.filter fun e=> !seen.contains e.born)[j]? =some e):
  (es.filter fun e'=> !(seen.push e.born).contains e'.born)=(es.filter fun e=> !seen.contains e.born).eraseIdx j:=by
 induction es generalizing j with
 |nil=>simp at h
 |cons x es f=>
  simp only[kG,fZ] at a
  simp only[List.filter_cons] at h ⊢
  have b:∀y:MapEntry,(seen.push e.born).contains y.born=(seen.contains y.born||(y.born==e.born)):=fun y=>by
   rw[Array.contains_push]
  by_cases hx:seen.contains x.born=true
  .simp only[hx,kU,jB,jF] at h ⊢
   rw[b,hx]
   simp only[Bool.true_or,kU,jB,jF]
   exact f a.2 h
  have hx':seen.contains x.born=false:=by simpa using hx
  simp only[hx',kP,jJ] at h ⊢
  rw[b,hx']
  cases j with
  |zero=>
   simp at h
   subst h
   simp only[gN,gA,kU,jB,jF,List.eraseIdx_cons_zero]
   refine List.filter_congr fun y c=> ?_
   rw[b]
   have:¬y.born=x.born:=fun e=>a.1 (by rw[<-e];exact gZ c)
   simp[this]
  |succ j=>
   have h':(es.filter fun e=> !seen.contains e.born)[j]? =some e:=by simpa using h
   have c:e∈es:=(List.mem_filter.1 (dD h')).1
   have d:¬x.born=e.born:=fun g=>a.1 (by rw[g];exact gZ c)
   simp only[gN,kJ,d,Bool.not_eq_eq_eq_not,kU,beq_eq_false_iff_ne,ne_eq,not_false_eq_true,jJ,List.eraseIdx_cons_succ]
   congr 1
   exact f a.2 h'
theorem qAg(es:Array MapEntry)(seen:Array Nat):(leftOf es seen).toList=AZ es seen:=by simp[leftOf,AZ]
theorem St.setIt{r:Nat}{q:Option Nat}{ck:Nat}{seen:Array Nat}{b:World}(seen':Array Nat)(st:St m (rL r q ck seen::own) w)(a:b=w\/b=w.drew):St m (rL r q ck seen'::own) (Go.ChangeMaps.setBlock b r (.mapIter q ck seen' ck)):=by
 have c:=sU st.head.1
 refine St.set (o:= .mapIter q ck seen ck) (o':= .mapIter q ck seen' ck) st ?_ ?_ ?_
 .rcases a with rfl|rfl<;>exact⟨⟨rfl,rfl⟩,rfl,nO⟩
 .have:(w.heap.setIfInBounds r (.mapIter q ck seen' ck))[r]? =some (.mapIter q ck seen' ck):=by simp[c]
  rcases a with rfl|rfl<;>exact this
 intro k _ d
 have:(w.heap.setIfInBounds r (.mapIter q ck seen' ck))[k]? =w.heap[k]? :=by simp[Array.getElem?_setIfInBounds,Ne.symm d]
 rcases a with rfl|rfl<;>exact this
theorem qAx{x:Operand}{r b ck:Nat}{es:Array MapEntry}{seen:Array Nat}{o:Option (List (κ×ν))}{rem:List (κ×ν)}(V:cD ops L i=some (some d,.next x false))(U:Nat.blt d n=true)(H:bM L x=some (.pointer (some ⟨r,0,none⟩)))
  (st:St m (rL r (some b) ck seen::eH (some b) es ck::own) w) (l:MapQ ek c agg m (some b) es ck o) (Y:ItR ek c agg m es seen rem)
  (R:rem=[]->∀w',St m (rL r (some b) ck seen::eH (some b) es ck::own) w'->N ((d,.tuple #[.bool false])::L) w')
  (S:∀(e:κ×ν) (rest:List (κ×ν)) (seen':Array Nat) (cs:List Value) (w':World),rem.Perm (e::rest)->c.rep m e.2 cs->St m (rL r (some b) ck seen'::eH (some b) es ck::own) w'->ItR ek c agg m es seen' rest->Ent es seen' (ek e.1) (qI agg cs)->
   N ((d,.tuple #[.bool true,ek e.1,qI agg cs])::L) w'):dZ P n ops Q i N L w:=by
 obtain⟨_,_,_,_,_,_,A,B⟩:=l
 obtain⟨l',f,s⟩:=Y
 have D:w.heap[r]? =some (.mapIter (some b) ck seen ck):=st.head.1
 have F:w.heap[b]? =some (.map es ck):=st.tail.head.1
 refine AF (v:=undef) (w':=w) V U (fun q l=> ?_)
 rcases run_next_at (P:=P) w q.type r b ck ck seen es ck D F A (jP _) with ⟨Z,a⟩|⟨e,p,w1,G,a⟩
 .have g:AZ es seen=[]:=by rw[<-qAg];exact kK (by simpa using Z)
  rw[g] at s
  have hl':l'=[]:=s
  subst hl'
  refine⟨_,w,?_,R (List.nil_perm.1 f) w st⟩
  simp[execOp,l,bV H,a]
 rw[qAg] at p
 obtain⟨j,E⟩:=List.mem_iff_getElem?.1 p
 obtain⟨k,v,cs,u,y,K,z,M⟩:=qBw s E
 have a1:=(List.getElem?_eq_some_iff.1 u).1
 have g:l'.Perm ((k,v)::l'.eraseIdx j):=by
  have h:l'[j]=(k,v):=(List.getElem?_eq_some_iff.1 u).2
  have t:l'=l'.take j++(k,v)::l'.drop (j+1):=by rw[<-h,dP,gP]
  rw[List.eraseIdx_eq_take_drop_succ]
  exact(List.Perm.of_eq t).trans fP
 have t:e∈es.toList:=(List.mem_filter.1 p).1
 have h:AZ es (seen.push e.born)=(AZ es seen).eraseIdx j:=qIp B E
 refine⟨_,_,?_,S (k,v) (l'.eraseIdx j) (seen.push e.born) cs _ (f.symm.trans g) K (St.setIt _ st G) ⟨_,.refl _,by rw[h];exact M⟩ ⟨seen,e,rfl,t,y,z⟩⟩
 simp[execOp,l,bV H,a,y,z]
theorem ZP{x:Operand}{r b ck:Nat}{es:Array MapEntry}{seen:Array Nat}{o:Option (List (κ×ν))}{K V:Value}(v:cD ops L i=some (some d,.entry x))(t:Nat.blt d n=true)(y:bM L x=some (.pointer (some ⟨r,0,none⟩)))
  (st:St m (rL r (some b) ck seen::eH (some b) es ck::own) w) (g:MapQ ek c agg m (some b) es ck o) (u:Ent es seen K V)
  (h:N ((d,.tuple #[K,V])::L) w):dZ P n ops Q i N L w:=by
 obtain⟨_,_,_,_,_,_,z,l⟩:=g
 obtain⟨a,e,rfl,f,rfl,rfl⟩:=u
 have p:w.heap[r]? =some (.mapIter (some b) ck (a.push e.born) ck):=st.head.1
 have s:w.heap[b]? =some (.map es ck):=st.tail.head.1
 have k:=run_entry_at (P:=P) w r b ck a es ck e p s f l
 refine mB v t (fun q g=> ?_) h
 simp[execOp,g,bV y,k]
end
end
end Go.Dc
section
namespace Go.Dc
def rB(s:BA)(c:Int):Int:=
 match(List.range s.size).find? fun i=>s[i]! ==c.toNat.toUInt8 with
 |some i=>(i:Int)
 |none=> -1
def BD(s:BA)(c:Int):Int:=s.foldl (fun n x=>if x==c.toNat.toUInt8 then n+1 else n) ((0:Nat):Int)
section
variable {ρ:Option Nat} {P:Program} {n:Fr} {ops:Array Oper} {Q:Exit->Act->World->Prop} {i d:Nat} {L:bL} {w:World} {m:Mem} {own:List Piece} {N:bL->World->Prop}
theorem PH{f:FuncId}{fn:Func}{e:Array Value->Sem Value}{xs:Array Operand}{ts:Array TypeId}(vs:List Value)(v:Value)(s:cD ops L i=some (some d,.call {callee:= .value (.func f),args:=xs,argTypes:=ts}))(p:Nat.blt d n=true)
  (u : xs.map (mS L) = vs.toArray) (r : P.funcs[f]? = some fn) (b : (fn.name == "runtime.NumGoroutine", fn.body.isNone, (Extern.findNext fn).isNone) = (false, true, true)) (o : Extern.find fn = some e)
  (a:(e vs.toArray).run P w= .ok v w) (h:N ((d,v)::L) w):dZ P n ops Q i N L w:=by
 simp only[Prod.mk.injEq] at b
 obtain⟨g,k,l⟩:=b
 have g1' : ¬ fn.name = "runtime.NumGoroutine" := by simpa using g
 have g2':fn.body=none:=by simpa using k
 have g3':Extern.findNext fn=none:=by simpa using l
 refine mB s p (fun q t=> ?_) h
 have c:mS L (.func f)= .func (.func f) #[] #[]:=rfl
 simp[execOp,t,resolve,c,u,Deferred.ofValue,invoke,callFunc,r,g1',g2',g3',o,a]
theorem qIb{f:FuncId}{fn:Func}{x y:Operand}{ts:Array TypeId}{s:BA}{c:Int}(l:cD ops L i=some (some d,.call {callee:= .value (.func f),args:= #[x,y],argTypes:=ts}))(g:Nat.blt d n=true)
  (o : bM L x = some (.string s)) (p : bM L y = some (.int .u8 c)) (k : P.funcs[f]? = some fn) (a : (fn.name == "runtime.NumGoroutine", fn.body.isNone, (Extern.findNext fn).isNone) = (false, true, true)) (b : Extern.find fn = some Extern.BytealgIndexByte.indexByte)
  (h:N ((d,.int .i64 (rB s c))::L) w):dZ P n ops Q i N L w:=by
 refine PH [.string s,.int .u8 c] _ l g (by simp[bV o,bV p]) k a b ?_ h
 have e:Extern.BytealgIndexByte.indexByte #[.string s,.int .u8 c]=(match(List.range s.size).find? fun i=>s[i]! ==c.toNat.toUInt8 with
  |some i=>pure (goInt i)
  |none=>pure (goInt (-1))):=rfl
 show(Extern.BytealgIndexByte.indexByte #[.string s,.int .u8 c]).run P w=_
 rw[e]
 unfold rB
 split<;>rfl
theorem qIk{f:FuncId}{fn:Func}{x y:Operand}{ts:Array TypeId}{s:BA}{c:Int}(l:cD ops L i=some (some d,.call {callee:= .value (.func f),args:= #[x,y],argTypes:=ts}))(g:Nat.blt d n=true)
  (o : bM L x = some (.string s)) (p : bM L y = some (.int .u8 c)) (k : P.funcs[f]? = some fn) (a : (fn.name == "runtime.NumGoroutine", fn.body.isNone, (Extern.findNext fn).isNone) = (false, true, true)) (b : Extern.find fn = some Extern.BytealgCount.count)
  (h:N ((d,.int .i64 (BD s c))::L) w):dZ P n ops Q i N L w:=by
 refine PH [.string s,.int .u8 c] _ l g (by simp[bV o,bV p]) k a b ?_ h
 have e:Extern.BytealgCount.count #[.string s,.int .u8 c]=pure (goInt (s.foldl (fun n x=>if x==c.toNat.toUInt8 then n+1 else n) (0:Nat))):=rfl
 show(Extern.BytealgCount.count #[.string s,.int .u8 c]).run P w=_
 rw[e]
 unfold BD goInt
 simp only[Sem.run_pure]
theorem DE{b:Frame}{a:Act}{k:List Item}{cs:List Frame}{c:Code}:step P (lone (b.atR a (.code (.scope c)::k)) cs w)= .next (lone (b.atR a (.code c:: .inScope c::k)) cs w):=
 step_lone_go (by simp[stepG,stepG.exec,Frame.atR])
theorem qIg{b:Frame}{a:Act}{k:List Item}{cs:List Frame}{c:Code}:step P (lone (b.atR a (.inScope c::k)) cs w)= .next (lone (b.atR a k) cs w):=
 step_lone_go (by simp[stepG,stepG.exec,Frame.atR])
def NH(Q:Exit->Act->World->Prop):Exit->Act->World->Prop
 | .goto _,_,_=>False
 | .normal,a,w=>Q .normal a w
 | .exit id,a,w=>Q (.exit id) a w
 | .ret,a,w=>Q .ret a w
 | .panic c,a,w=>Q (.panic c) a w
 | .outgrown,a,w=>Q .outgrown a w
theorem qHb{F:Fence}{m:Nat}{a:Act}{c:Code}(h:c.wpIn F m P (NH Q) a w):(Code.scope c).wpIn F m P Q a w:=by
 intro b k cs q n p
 have f:(lone (b.atR a (.code (.scope c)::k)) cs w).fenced P F:=fenced_calm n p rfl
 obtain⟨e,a₁,w₁,g,d⟩:=h b (.inScope c::k) cs q n p
 cases e with
 |normal=>exact⟨.normal,a₁,w₁,g,.head f DE (StepsIn.trans d (.one (fenced_calm n p rfl) qIg))⟩
 |exit id=>
  have r:exitTo id (.inScope c::k)=exitTo id k:=by simp[exitTo]
  exact⟨.exit id,a₁,w₁,g,fun k' o=> .head f DE (d.1 k' (by rw[r];exact o)),
   fun hr' o=>let ⟨k₁,h1,h2⟩:=d.2 hr' (by rw[r];exact o);⟨k₁,h1,.head f DE h2⟩⟩
 |goto l=>exact g.elim
 |ret=>exact⟨_,a₁,w₁,g,.of_steps (.one f DE) d⟩
 |panic ch=>exact⟨_,a₁,w₁,g,.of_steps (.one f DE) d⟩
 |outgrown=>exact⟨_,a₁,w₁,g,.of_steps (.one f DE) d⟩
theorem qQg{c:Code}(h:W ρ P n c (NH Q) L w):W ρ P n (.scope c) Q L w:=fun a b=>qHb (h a b)
theorem OX(h:X n Q .ret L w):X n (NH Q) .ret L w:=h
theorem qRa{l:Nat}(h:X n Q .normal L w):W ρ P n (.label l) Q L w:=fun a b=>wpIn_label (h a b)
end
end Go.Dc
namespace Go.Dc
def TF(P:Program)(t:TypeId):Value->Value->Option Bool
 | .int k a,.int k' b=>match P.underlying t with
  |some (.int _)=>bif decide (k=k') then some (a==b) else none
  |_=>none
 | .bool a,.bool b=>match P.underlying t with
  |some .bool=>some (a==b)
  |_=>none
 | .string a,.string b=>match P.underlying t with
  |some .string=>some (a.toList==b.toList)
  |_=>none
 |_,_=>none
def EV(P:Program)(xs ys:Array Value):List Field->Option Bool
 |[]=>some true
 |f::fs=>match xs[f.offset]?,ys[f.offset]? with
  | some a, some b => bif f.name == "_" || !P.plainKey f.type then none else (TF P f.type a b).bind fun r => (EV P xs ys fs).map fun s => r && s
  |_,_=>none
section
variable {P:Program} {n:Fr} {ops:Array Oper} {Q:Exit->Act->World->Prop} {i d:Nat} {L:bL} {w:World} {N:bL->World->Prop}
theorem qKn{t:TypeId}{a b:Value}{r:Bool}(dp:Nat)(h:TF P t a b=some r):(Op.equalIn (dp+1) t a b).run P w= .ok r w:=by
 unfold TF at h
 split at h
 .split at h
  .rename_i hu
   rename_i k a k' b _ q
   by_cases hk:k=k'
   .subst hk
    simp only[decide_true,cond_true,jM] at h
    subst h
    exact run_equalIn_int w dp t k _ a b hu
   simp[hk] at h
  cases h
 .split at h
  .rename_i hu;cases h;exact run_equalIn_bool w dp t _ _ hu
  cases h
 .split at h
  .rename_i hu;cases h;exact run_equalIn_string w dp t _ _ hu
  cases h
 cases h
theorem qAq{xs ys:Array Value}(dp:Nat):∀{fs:List Field} {r:Bool},EV P xs ys fs=some r->(Op.eqFields (dp+1) xs ys fs).run P w= .ok r w
 |[],r,h=>by simp[EV] at h;subst h;simp[Op.eqFields]
 |f::fs,r,h=>by
  simp only[EV] at h
  split at h
  .rename_i a b ha hb
   cases c : (f.name == "_" || !P.plainKey f.type) with
   |true=>simp[c] at h
   |false=>
    simp only[c,cond_false] at h
    simp only[kD,Bool.not_eq_false'] at c
    obtain⟨s,d,e⟩:=jS.1 h
    obtain⟨u,g,k⟩:=kZ.1 e
    have l : f.name ≠ "_" := by simpa using c.1
    have p1:=run_part_plain (P:=P) (w:=w) c.2 ha
    have p2:=run_part_plain (P:=P) (w:=w) c.2 hb
    have p3:=qKn (w:=w) dp d
    have p4:=qAq dp g
    subst k
    simp only[Op.eqFields,l,ne_eq,not_false_eq_true,jJ,Sem.run_bind,p1,p2,p3,Result.andThen_ok]
    cases s<;>simp[p4]
  cases h
theorem qIt{t:TypeId}{xs ys:Array Value}{r:Bool}(b:P.underlying t=some (.struct (P.fieldsOf t)))(a:P.stoodInHeld t=false)(h:EV P xs ys (P.fieldsOf t).toList=some r):(Op.equal t (.agg xs) (.agg ys)).run P w= .ok r w:=by
 have e:Op.equal t (.agg xs) (.agg ys)=Op.equalIn (9999+1) t (.agg xs) (.agg ys):=rfl
 rw[e,run_equalIn_struct w 9999 t xs ys b a]
 exact qAq (w:=w) 9998 h
theorem qMv{t t2:TypeId}{x y:Operand}{xs ys:Array Value}(r:Bool)(e:cD ops L i=some (some d,.binOp .eql t x y t2))(c:Nat.blt d n=true)(k:bM L x=some (.agg xs))(l:bM L y=some (.agg ys))
  (g:P.underlying t=some (.struct (P.fieldsOf t))) (a:(P.stoodInHeld t,P.eqGuardType P.depth t)=(false,false)) (b:EV P xs ys (P.fieldsOf t).toList=some r) (h:N ((d,.bool r)::L) w):dZ P n ops Q i N L w:=by
 simp only[Prod.mk.injEq] at a
 refine mB e c (fun q f=> ?_) h
 simp[execOp,f,bV k,bV l,eqGuard,a.2,binOp,qIt g a.1 b]
theorem qHz{m:Mem}{own:List Piece}{t e e' sz b k n' cap cap':Nat}{x:Operand}(S:cD ops L i=some (some d,.convert t t x))(K:Nat.blt d n=true)(Y:bM L x=some (.slice (some ⟨b,0,none⟩) k cap))
  (G:MF P t=some e) (st:St m (.room (some ⟨b,0,none⟩) n' cap' e' sz::own) w) (h:∀w',St m own w'->N ((d,.slice (some ⟨b,0,none⟩) k cap)::L) w'):dZ P n ops Q i N L w:=by
 obtain⟨E,F⟩:=VX G
 obtain⟨_,_,_,_,⟨cur,a,_⟩,_⟩:=st.head
 have Z:=sU a
 have z:=st.head_ne (b:=b) rfl
 have l:=st.tail
 obtain⟨w',hw'⟩:∃w',w'=w.freeze ⟨b,cur.size,none⟩ 1:=⟨_,rfl⟩
 have B:w.shape? b=some (e',cur.size):=by unfold World.shape?;rw[a]
 have H:w'.heap[b]? =some (.cells cur e' (cur.size,cur.size+1)):=by
  rw[hw'];unfold World.freeze
  simp[Array.getElem?_modify,a]
 have ho':∀j,j≠b->w'.heap[j]? =w.heap[j]? :=fun j M=>by
  rw[hw'];unfold World.freeze
  simp[Array.getElem?_modify,Ne.symm M]
 have U:Step w w':=by rw[hw'];unfold World.freeze;exact⟨⟨rfl,rfl⟩,rfl,nO⟩
 have r:(convert t t (.slice (some ⟨b,0,none⟩) k cap)).run P w= .ok (.slice (some ⟨b,0,none⟩) k cap) w':=by
  simp[convert,run_underlying E,run_underlying F,markStringish,B,hw']
 have st':St m own w':=by
  refine⟨⟨fun b' o v V=> ?_,fun b' y s=> ?_,l.1.2.2.trans U⟩,fun p A=>Piece.holds_keep (l.2.1 p A) fun k R=>ho' k (fun e=>z (DJ.2 ⟨p,A,e▸R⟩)),l.2.2⟩
  .obtain⟨c,D,f,g,u⟩:=l.1.1 b' o v V
   by_cases hbb:b'=b
   .subst hbb
    rw[a] at g
    simp only[jM,Obj.cells.injEq] at g
    obtain⟨rfl,_,_⟩:=g
    exact⟨_,_,_,H,u⟩
   exact⟨c,D,f,by rw[ho' b' hbb];exact g,u⟩
  have g:=l.1.2.1 b' y s
  by_cases hbb:b'=b
  .subst hbb
   have:=st.head.2.2.2.2.2.2
   rw[this] at s;cases s
  rw[ho' b' hbb];exact g
 refine mB S K (fun q g=> ?_) (h w' st')
 simp[execOp,g,bV Y,r]
end
end Go.Dc
end
namespace Go.Dc
section
open Go.ChangeShapes Go.WideShapes Go.ChangeAt Go.RowKit
class TabW(w:World):Prop where
 ht:∀p∈TW,∃t f,w.heap[p.1]? =some (.cells p.2 t f)
def wT(w:World)[TabW w]:Mem:={cell:=fun b o=>w.cell? ⟨b,o,none⟩,obj:=fun b=>w.heap[b]?,wd:=w,ht:=TabW.ht}
theorem qQu(w:World)[TabW w]:St (wT w) [] w:=by
 refine⟨⟨fun b o v h=> ?_,fun _ _ h=>h,Step.refl w⟩,⟨fun p a=>absurd a (gB),List.nodup_nil⟩⟩
 simp only[wT,World.cell?] at h
 split at h
 .rename_i c e f hb
  exact⟨_,_,_,hb,by simpa using h⟩
 cases h
theorem qKo{w w':World}[TabW w]{m':Mem}{own:List Piece}(a:Mem.le (wT w) m')(st:St m' own w'):
  w'.os=w.os/\w'.output=w.output/\∀(b:Nat) (x:Obj),w.heap[b]? =some x->w'.heap[b]? =some x:=by
 have c:=st.1.2.2
 have e:m'.wd=w:=a.2.2.symm
 rw[e] at c
 exact⟨c.1.1,c.1.2,fun b x d=>st.1.2.1 b x (a.2.1 b x d)⟩
theorem qRf{w w':World}(a:w'.os=w.os)(c:w'.output=w.output)(d:∀(b:Nat) (x:Obj),w.heap[b]? =some x->w'.heap[b]? =some x)(may:MemPlace->Prop):w.keptBut w' may:=by
 refine⟨a,c,fun i hi=> ?_⟩
 obtain⟨x,hx⟩:∃x,w.heap[i]? =some x:=⟨w.heap[i],by simp[hi]⟩
 rw[d i x hx,hx]
 cases x<;>simp
theorem qRq{w w':World}(c:∀(b:Nat) (x:Obj),w.heap[b]? =some x->w'.heap[b]? =some x){p:MemPlace}(d:p.block<w.heap.size):w.sameAt w' p:=by
 obtain⟨x,a⟩:∃x,w.heap[p.block]? =some x:=⟨w.heap[p.block],by simp[d]⟩
 cases p with
 |cell b off=>simp only[World.sameAt,World.cell?,MemPlace.block] at a ⊢;rw[c b x a,a]
 |map b=>simp only[World.sameAt,MemPlace.block] at a ⊢;rw[c b x a,a]
section
variable {H:Type} {enc:TypeId×Value->H} {P:Program}
theorem VR{w w':World}{sp:Nat->Bool}{T:TypeId->Prop}(K:Kids P T)(l:∀{t e:TypeId},T t->P.underlying t=some (.slice e)->0<P.cellsOf e)
  (c:∀(b:Nat) (x:Obj),w.heap[b]? =some x->w'.heap[b]? =some x):∀{ts:List TypeId} {vs:List Value} {ds:List (DataW H)} {ps:List MemPlace},(∀t∈ts,T t)->
  DataW.TrodAll enc P w 0 (fun _=>true) true ts vs ds ps->(∀p∈ps,p.block<w.heap.size)->(∀p∈ps,sp p.block=true)->DataW.TrodAll enc P w' 0 sp true ts vs ds ps
 |[],[],[],_,_,h,_,_=>h
 |t::ts,v::vs,d::ds,ps,k,h,f,g=>by
  obtain⟨p,q,⟨fuel,n⟩,o,rfl⟩:=h
  exact⟨p,q,⟨fuel,DataW.trod_stays K l (fun e=>by cases e) (k t (jH ..)) n (fun x a=>qRq c (f x (kA _ a))) (fun x a=>g x (kA _ a))⟩,
   VR K l c (fun u r=>k u (jL _ r)) o (fun x a=>f x (kO _ a)) (fun x a=>g x (kO _ a)),rfl⟩
 |[],_::_,_,_,_,h,_,_=>by simp[DataW.TrodAll] at h
 |[],[],_::_,_,_,h,_,_=>by simp[DataW.TrodAll] at h
 |_::_,[],_,_,_,h,_,_=>by simp[DataW.TrodAll] at h
 |_::_,_::_,[],_,_,h,_,_=>by simp[DataW.TrodAll] at h
theorem qNs{f:Func}{s:ChangeSpec}{apart fresh a:Bool}{W W':World}{args:Array Value}{ds gs:List (DataW H)}{before:List MemPlace}{tb:TypeId}{T:TypeId->Prop}[TabW W](K:Kids P T)
  (E:∀{t e:TypeId},T t->P.underlying t=some (.slice e)->0<P.cellsOf e) (u:∀t∈f.params.toList,T t)
  (D:f.resultTypes= #[tb]) (o:P.underlying tb=some .bool) (v:s.vars=[]) (b:s.fn H (ds++gs)={results:=[.lit (.bool true)],args:=ds})
  (l:DataW.Whole enc P f.params.toList s.vars apart W args.toList ds gs before) {m':Mem} {own:List Piece} (n:Mem.le (wT W) m') (st:St m' own W'):
  s.post enc P f apart fresh a false W args (.bool true) W':=by
 obtain⟨y,z,k⟩:=qKo n st
 have hW':=l
 obtain⟨p,q,A,h,rfl,F,G⟩:=l
 have d:∀x∈p++q,x.block<W.heap.size:=fun x c=>hW'.lt x c
 rw[v] at h
 have B:q=[]:=by
  cases gs with
  |nil=>exact h
  |cons g r=>simp[DataW.TrodVars] at h
 subst B
 refine⟨ds,gs,_,[],p,[],hW',?_,?_,?_,qRf y z k _,fun e=>by cases e⟩
 .rw[b,D]
  exact⟨[],[],⟨1,by simp[DataW.trod,Value.cells,o]⟩,rfl,rfl⟩
 .rw[b]
  exact VR K E k u A (fun x c=>d x (kA _ c)) (fun x c=>by simpa using d x (kA _ c))
 rw[b,v];rfl
def NK{α:Type}(P:Program)(W:World)[TabW W](t:TypeId)(c:Codec α)(good:α->Prop):Prop:=
 P.cellsOf t=c.sz/\∀(H:Type) (enc:TypeId×Value->H) (n:Nat) (cs:List Value) (x:DataW H×List MemPlace),DataW.trod enc P W 0 (fun _=>true) true n t cs=some x->
  (x.1.weights P t).all (· <=reachBytes)=true->∃a,c.rep (wT W) a cs/\good a
theorem qRx{W:World}{base:Nat}{t:TypeId}{v:Value}{d:DataW H}{ps:List MemPlace}{k:IntKind}(e:P.underlying t=some (.int k))(a:Value.okWide P W .any base t v)(h:DataW.Trod enc P W 0 (fun _=>true) true t v d ps):∃x,v= .int k x/\(Lit.int k x).wf=true:=by
 obtain⟨n,b,_,_,c⟩:=open_int e a h
 exact⟨n,b,c⟩
variable {W:World} [TabW W]
theorem qMk{t:TypeId}{k:IntKind}(b:P.underlying t=some (.int k))(a:P.cellsOf t=1):NK P W t (aT k) (fun x=>(Lit.int k x).wf=true):=by
 refine⟨a,fun H enc n cs x h _=> ?_⟩
 obtain⟨i,rfl,_,c⟩:=DataW.trod_int b h
 exact⟨i,rfl,c⟩
theorem UW{H:Type}{e:TypeId}:∀{ds:List (DataW H)},(DataW.weightsAll P e ds).all (· <=reachBytes)=true->∀d∈ds,(d.weights P e).all (· <=reachBytes)=true
 |[],_,_,b=>by cases b
 |d::r,h,x,a=>by
  simp only[DataW.weightsAll,List.all_append,jI] at h
  rcases jT.1 a with rfl|a
  .exact h.1
  exact UW h.2 x a
theorem qQz{a:Addr}{cs:List Value}{k n:Nat}(h:W.cells? 0 (a.add k) n=some cs)(c:a.spot=none):MRow (wT W) a.block (a.off+k) cs:=by
 obtain⟨_,f,d⟩:=World.cells?_some h
 intro j v b
 have e:j<n:=by rw[<-f];exact(List.getElem?_eq_some_iff.1 b).1
 have:=d j e
 rw[b,Go.Addr.add_add,HN c] at this
 simpa[wT,gI] using this
theorem qCa{α:Type}{Q:Nat->α->List Value->Prop}:∀{n:Nat},(∀i,i<n->∃y cs,Q i y cs)->∃l:List α,l.length=n/\∀i x,l[i]? =some x->∃cs,Q i x cs
 |0,_=>⟨[],rfl,fun i x h=>by simp at h⟩
 |n+1,h=>by
  obtain⟨l,b,c⟩:=qCa (n:=n) (fun i hi=>h i (by omega))
  obtain⟨y,cs,d⟩:=h n (by omega)
  refine⟨l++[y],by simp[b],fun i x a=> ?_⟩
  rw[List.getElem?_append] at a
  split at a
  .exact c i x a
  rename_i hi
  have:i=n:=by
   have:=(List.getElem?_eq_some_iff.1 a).1
   simp at this;omega
  subst this
  simp[b] at a
  subst a
  exact⟨cs,d⟩
theorem qJi{α:Type}{c:Codec α}{good:α->Prop}{t e:TypeId}{by_:Nat}(D:P.underlying t=some (.slice e))(K:P.cellsOf t=1)(G:P.bytesOf e=by_)(p:NK P W e c good):
  NK P W t (EX c) (fun l=>l.length*by_<=reachBytes/\∀x∈l,good x):=by
 refine⟨K,fun H enc n cs x h E=> ?_⟩
 rcases DataW.trod_slice D h with ⟨rfl,rfl⟩|⟨a,len,cap,elems,rest,n',rfl,rfl,rfl,_,M,R,s,v,_,_⟩
 .exact⟨[],⟨none,0,rfl,RepS.nil _ _⟩,by simp,by simp⟩
 simp only[DataW.weights,D,List.all_cons,List.all_append,jI,j9] at E
 obtain⟨k,F,_⟩:=E
 have key:∀i,i<len->∃y cs',W.cells? 0 (a.add (i*P.cellsOf e)) (P.cellsOf e)=some cs'/\c.rep (wT W) y cs'/\good y:=by
  intro i hi
  have b:=v i hi
  obtain⟨el,hel'⟩:∃el,elems[i]? =some el:=⟨elems[i]'(by omega),by simp⟩
  rw[hel'] at b
  obtain⟨cs',f,r⟩:=jS.1 b
  obtain⟨y,g,d⟩:=p.2 H enc n' cs' el r (UW F el.1 (gZ (dD hel')))
  exact⟨y,cs',f,g,d⟩
 obtain⟨l,z,g⟩:=qCa key
 subst z
 refine⟨l,⟨some a,cap,rfl,M,R,?_,fun i x q=> ?_⟩,⟨?_,fun x q=> ?_⟩⟩
 .cases l with
  |nil=>exact .inr rfl
  |cons y l=>
   obtain⟨cs',f,_⟩:=g 0 y rfl
   obtain⟨_,A,b⟩:=World.cells?_some f
   have u:=p.1▸c.pos
   have d:=b 0 u
   have o:0<cs'.length:=by omega
   rw[List.getElem?_eq_getElem o] at d
   simp only[Nat.zero_mul,Addr.add,jJ] at d
   exact .inl (World.cell?_spot d)
 .obtain⟨cs',f,r,_⟩:=g i x q
  have B:a.spot=none:=by
   cases l with
   |nil=>simp at q
   |cons y l=>
    obtain⟨cs',f,_⟩:=g 0 y rfl
    obtain⟨_,A,b⟩:=World.cells?_some f
    have u:=p.1▸c.pos
    have d:=b 0 u
    have o:0<cs'.length:=by omega
    rw[List.getElem?_eq_getElem o] at d
    simp only[Nat.zero_mul,Addr.add,jJ] at d
    exact World.cell?_spot d
  exact⟨cs',r,p.1▸qQz f B⟩
 .rw[G] at k
  simp only[gC] at k
  rw[s] at k
  exact Nat.le_trans (gH _ (Nat.le_add_right _ _)) k
 obtain⟨i,hi⟩:=List.mem_iff_getElem?.1 q
 obtain⟨cs',_,_,b⟩:=g i x hi
 exact b
variable {base:Nat} {t:TypeId} {v:Value} {d:DataW H} {ps:List MemPlace}
theorem qNa{α:Type}{c:Codec α}{good:List α->Prop}{e:TypeId}(p:P.underlying t=some (.slice e))(k:NK P W t (EX c) good)(b:Value.okWide P W .any base t v)(h:DataW.Trod enc P W 0 (fun _=>true) true t v d ps)
  (q:(d.weights P t).all (· <=reachBytes)=true):∃(l:List α) (a:Option Addr) (cap:Nat),v= .slice a l.length cap/\RepS c (wT W) a cap l/\good l:=by
 obtain⟨a,len,cap,rfl⟩:=okWide_slice p b
 obtain⟨n,h⟩:=h
 obtain⟨l,⟨a',cap',f,o⟩,g⟩:=k.2 H enc n _ _ h q
 simp only[Value.cells,gF,Value.slice.injEq,and_true] at f
 obtain⟨rfl,rfl,rfl⟩:=f
 exact⟨l,_,_,rfl,o,g⟩
end
def qCp(P:Program):Bool:=(List.range P.types.size).all fun t=>match P.underlying t with
 |some (.slice e)=>Nat.blt 0 (P.cellsOf e)
 |_=>true
theorem qNi{P:Program}(h:qCp P=true){t e:TypeId}(b:t<P.types.size)(a:P.underlying t=some (.slice e)):0<P.cellsOf e:=by
 have:=jU.1 h t (fB.2 b)
 rw[a] at this
 simp only at this
 exact gJ this
end
section
theorem bT{x:Int}(a: -9223372036854775808<=x)(b:x<=9223372036854775807):IntKind.wrap .i64 x=x:=by simp[IntKind.wrap,IntKind.signed,IntKind.bits];omega
theorem wu8{x:Int}(a:0<=x)(b:x<=255):IntKind.wrap .u8 x=x:=by simp[IntKind.wrap,IntKind.signed,IntKind.bits];omega
theorem MC{α:Type}{l:List α}{i:Int}(a:0<=i)(h:i.toNat<l.length):idx l i=some l[i.toNat]:=by simp[idx,a,h]
theorem iX{α:Type}{l:List α}{i:Nat}(h:i<l.length):idx l (i:Int)=some l[i]:=by simp[idx,h]
theorem qBf{s:BA}{i:Nat}(h:i<s.size):eU s (i:Int)=some s[i]:=by simp[eU,h]
theorem nQ{α:Type}{b:Nat}{l k:List α}(h:(l.length+k.length)*b<=140737488355328)(a:0<b):cU b l k=some (l++k):=by
 have:l.length+k.length<=maxLen:=by
  have:(l.length+k.length)*1<=(l.length+k.length)*b:=Nat.mul_le_mul_left _ a
  simp only[maxLen];omega
 simp[cU,h,this]
theorem QI{α:Type}{l:List α}{lo hi:Int}(a:0<=lo)(b:lo<=hi)(c:hi<=l.length):tE l lo hi=some ((l.take hi.toNat).drop lo.toNat):=by simp[tE,a,b,c]
theorem LE{l:BA}{lo hi:Int}(a:0<=lo)(b:lo<=hi)(c:hi<=l.size):mY l lo hi=some (l.extract lo.toNat hi.toNat):=by simp[mY,a,b,c]
theorem qAp{σ β:Type}{f:σ->Option (σ⊕β)}(I:σ->Prop)(μ:σ->Nat)(R:β->Prop)
  (h:∀s,I s->(∃b,f s=some (.inr b)/\R b)\/∃s',f s=some (.inl s')/\I s'/\μ s'<μ s):∀(N:Nat) (s:σ),I s->μ s<N->∃b,aJ f N s=some b/\R b
 |0,_,_,d=>absurd d (kT _)
 |N+1,s,k,d=>by
  rcases h s k with ⟨b,a,c⟩|⟨s',a,c,l⟩
  .exact⟨b,by simp[aJ,a],c⟩
  obtain⟨b,e,g⟩:=qAp I μ R h N s' c (by omega)
  exact⟨b,by simp[aJ,a,e],g⟩
end
end Go.Dc
section
namespace Go.Dc
def ab(a:Option Addr):Nat:=match a with|some p=>p.block|none=>0
def lY(a:Option Addr)(cs:Array Value)(e:TypeId):Piece:=match a with
 |none=> .room none 0 0 0 0
 |some p=> .blk p.block (.cells cs e (0,0))
def cB{α:Type}(f:α->List Value)(l:List α)(T:List Value):Array Value:=(l.flatMap f++T).toArray
def OAS(a:Option Addr)(n cap k:Nat)(T:List Value):Prop:=
 n<=cap/\cap<=maxLen/\match a with
  |none=>cap=0
  |some p=>p=⟨p.block,0,none⟩/\n*k+T.length=cap*k
theorem OAS.cast{α:Type}{a:Option Addr}{nn cap k:Nat}{T:List Value}{l:List α}(h:OAS a nn cap k T)(b:List.length l=nn):OAS a (List.length l) cap k T:=by rw[b];exact h
theorem OAS.nil(k:Nat):OAS none 0 0 k []:=⟨jP _,kE _,rfl⟩
theorem iW{α:Type}{f:α->List Value}{k:Nat}(a:∀x,(f x).length=k):∀l:List α,(l.flatMap f).length=l.length*k
 |[]=>by simp
 |x::l=>by simp[kN,a,iW a l,kS,hK]
theorem xP{α:Type}{f:α->List Value}{k:Nat}(a:∀x,(f x).length=k):∀(l:List α) (i:Nat) (z:α) (j:Nat),l[i]? =some z->j<k->(l.flatMap f)[i*k+j]? =(f z)[j]?
 |[],i,z,j,h,_=>by simp at h
 |x::l,0,z,j,h,b=>by
  simp at h;subst h
  simp[kN,List.getElem?_append,a,b]
 |x::l,i+1,z,j,h,b=>by
  have:=xP a l i z j (by simpa using h) b
  rw[kN,List.getElem?_append_right (by rw[a,kS];omega),a]
  have e:(i+1)*k+j-k=i*k+j:=by rw[kS];omega
  rw[e];exact this
theorem ZV{α:Type}{f:α->List Value}{k:Nat}(a:∀x,(f x).length=k):∀(l:List α) (i:Nat) (z u:α),l[i]? =some z->
  (l.set i u).flatMap f=(l.flatMap f).take (i*k)++f u++(l.flatMap f).drop (i*k+k)
 |[],i,z,u,h=>by simp at h
 |x::l,0,z,u,h=>by
  rw[List.set_cons_zero,kN,kN,Nat.zero_mul,kF,List.take_zero,jO]
  rw[dG,jZ (by rw[a];exact jP _),a]
  simp
 |x::l,i+1,z,u,h=>by
  have:=ZV a l i z u (by simpa using h)
  simp only[List.set_cons_succ,kN,this]
  have b:(i+1)*k=(f x).length+i*k:=by rw[kS,a];omega
  have c:(i+1)*k+k=(f x).length+(i*k+k):=by omega
  rw[c,b,List.take_length_add_append,List.drop_length_add_append]
  simp[jD]
section
variable {P:Program} {n:Fr} {ops:Array Oper} {Q:Exit->Act->World->Prop} {i d:Nat} {L:bL} {w:World} {m:Mem} {own:List Piece} {N:bL->World->Prop}
variable {α:Type} {f:α->List Value}
theorem OAS.some{a:Option Addr}{nn cap k:Nat}{T:List Value}(h:OAS a nn cap k T){l:List α}(f:List.length l=nn){j:Nat}(e:j<l.length):a=Option.some ⟨ab a,0,none⟩:=by
 obtain⟨c,d,b⟩:=h
 cases a with
 |none=>simp only at b;omega
 |some p=>simp only at b;exact congrArg Option.some b.1
theorem LY{a:Option Addr}{b:Nat}{cs:Array Value}{e:TypeId}(h:a=some ⟨b,0,none⟩):lY a cs e= .blk b (.cells cs e (0,0)):=by subst h;rfl
theorem xZ{l:List α}{ix:Int}{z:α}(h:idx l ix=some z):0<=ix/\l[ix.toNat]? =some z/\ix.toNat<l.length:=by
 unfold idx at h
 split at h
 .rename_i h0;exact⟨h0,h,(List.getElem?_eq_some_iff.1 h).1⟩
 cases h
theorem qIf{t e:TypeId}{x y:Operand}{a:Option Addr}{nn cc k:Nat}{T:List Value}{l:List α}{kd:IntKind}{ix:Int}{z:α}(v:cD ops L i=some (some d,.indexAddr t x y))(s:Nat.blt d n=true)
  (c:bM L x=some (.slice a nn cc)) (D:bM L y=some (.int kd ix)) (hi:pB P t=some (e,k)) (B:OAS a nn cc k T) (u:List.length l=nn) (E:idx l ix=some z)
  (h:N ((d,.pointer (some ⟨ab a,ix.toNat*k,none⟩))::L) w):dZ P n ops Q i N L w:=by
 obtain⟨g,inf,o,p⟩:=vW hi
 obtain⟨f,_,b⟩:=xZ E
 have r:=B.some u b
 refine mB v s (fun q A=> ?_) h
 have hlt':ix<(nn:Int):=by omega
 rw[r] at c
 simp[execOp,A,Instr.indexAt,bV c,bV D,asIntOf,run_underlying g,f,hlt',sizeOf,typeInfo,o,p,tP]
theorem qIz{t e:TypeId}{x:Operand}{a:Option Addr}{nn cc k:Nat}{l:List α}{T:List Value}{ix:Int}{z:α}{o:Nat}{v:Value}(r:∀x,(f x).length=k)(po:Nat)(B:po=ix.toNat*k+o)(K:cD ops L i=some (some d,.load t x))(F:Nat.blt d n=true)
  (U:bM L x=some (.pointer (some ⟨ab a,po,none⟩))) (A:Piece.holds m w (lY a (cB f l T) e)) (R:OAS a nn cc k T) (H:List.length l=nn) (V:idx l ix=some z) (S:oM P t ((f z).drop o)=some v)
  (h:N ((d,v)::L) w):dZ P n ops Q i N L w:=by
 obtain⟨Y,hz',y⟩:=xZ V
 have D:=R.some H y
 subst B
 refine mB K F (fun q M=> ?_) h
 rw[LY D] at A
 have E:=A.1
 have G:=xN (P:=P) (w:=w) (t:=t) (b:=ab a) (o:=ix.toNat*k+o) (cs:=(f z).drop o) (v:=v) (fun j u p=>by
  rw[List.getElem?_drop] at p
  have s:o+j<k:=by rw[<-r z];exact(List.getElem?_eq_some_iff.1 p).1
  have c:=xP r l ix.toNat z (o+j) hz' s
  rw[p] at c
  have g:=(List.getElem?_eq_some_iff.1 c).1
  simp only[World.cell?,E,cB,List.getElem?_toArray]
  have e:ix.toNat*k+o+j=ix.toNat*k+(o+j):=by omega
  rw[e,List.getElem?_append_left g]
  simpa using c) S
 simp[execOp,M,Instr.loadAt,bV U,Instr.sureAddr,G]
theorem qIm{t e:TypeId}{x y:Operand}{a:Option Addr}{nn cc k:Nat}{l:List α}{T:List Value}{ix:Int}{z u:α}{o:Nat}{v:Value}(g:∀x,(f x).length=k)(po:Nat)(D:po=ix.toNat*k+o)(S:cD ops L i=some (none,.store t x y))
  (Y:bM L x=some (.pointer (some ⟨ab a,po,none⟩))) (Z:bM L y=some v) (st:St m (lY a (cB f l T) e::own) w) (U:OAS a nn cc k T) (R:List.length l=nn) (hz:idx l ix=some z) (d:xR P t v o k=true)
  (V:f u=(f z).take o++v.cells.toList++(f z).drop (o+v.cells.toList.length))
  (h:∀w',St m (lY a (cB f (l.set ix.toNat u) T) e::own) w'->N L w'):dZ P n ops Q i N L w:=by
 obtain⟨h0,hz',s⟩:=xZ hz
 have B:=U.some R s
 subst D
 rw[LY B] at st
 have c:=iW g l
 unfold xR at d
 cases hi:P.info? t with
 |none=>simp[hi] at d
 |some inf=>
  simp only[hi,jI] at d
  obtain⟨⟨G,H⟩,K⟩:=d
  have h1':=fT G
  have h2':=gJ H
  have a1:ix.toNat*k+k<=l.length*k:=by
   have:=gH k (show ix.toNat+1<=l.length from s)
   rw[kS,dH] at this;exact this
  have a2:v.cells.toList.length=v.cells.size:=by simp
  have E:ix.toNat*k+o+v.cells.toList.length<=(cB f l T).size:=by
   simp only[cB,fA,jA,c];omega
  have b:=run_storeCells_at P (ab a) (ix.toNat*k+o) e v.cells.toList 0 (cB f l T) w st.head.1 (by simpa using E) (XO K)
  simp only[fC] at b
  have A:((cB f l T).toList.take (ix.toNat*k+o)++v.cells.toList++(cB f l T).toList.drop (ix.toNat*k+o+v.cells.toList.length)).toArray=cB f (l.set ix.toNat u) T:=by
   apply congrArg List.toArray
   simp only[cB,dI]
   rw[ZV g l ix.toNat z u hz',V]
   have M:(l.flatMap f).take (ix.toNat*k+o)=(l.flatMap f).take (ix.toNat*k)++(f z).take o:=by
    apply hD
    intro j
    rw[List.getElem?_take,List.getElem?_append]
    simp only[gK,c]
    split
    .rename_i p
     split
     .rename_i hj2;rw[List.getElem?_take,if_pos (by omega)]
     rename_i hj2
     rw[List.getElem?_take,if_pos (by omega)]
     have r:=xP g l ix.toNat z (j-ix.toNat*k) hz' (by omega)
     have F:ix.toNat*k+(j-ix.toNat*k)=j:=by omega
     rw[F] at r
     rw[r];congr 1;omega
    rename_i p
    rw[if_neg (by omega),List.getElem?_take,if_neg (by omega)]
   have F:(l.flatMap f).drop (ix.toNat*k+o+v.cells.toList.length)=(f z).drop (o+v.cells.toList.length)++(l.flatMap f).drop (ix.toNat*k+k):=by
    apply hD
    intro j
    rw[List.getElem?_drop,List.getElem?_append]
    simp only[gQ,g]
    split
    .rename_i p
     rw[List.getElem?_drop]
     have r:=xP g l ix.toNat z (o+v.cells.toList.length+j) hz' (by omega)
     rw[<-r];congr 1;omega
    rename_i p
    rw[List.getElem?_drop];congr 1;omega
   rw[gD (by rw[c];omega),gL (by rw[c];omega),M,F]
   simp only[jD]
  rw[A] at b
  have st':=st.set (w':=w.setRow (ab a) (cB f (l.set ix.toNat u) T)) (o':= .cells (cB f (l.set ix.toNat u) T) e (0,0)) ⟨⟨rfl,rfl⟩,rfl,nO⟩ (setRow_heap w (ab a) (cB f l T) _ e _ st.head.1) (fun j _ p=>setRow_other w (ab a) j _ p)
  rw[<-LY (cs:=cB f (l.set ix.toNat u) T) (e:=e) B] at st'
  refine AE S (fun q r=> ?_) (h (w.setRow (ab a) (cB f (l.set ix.toNat u) T)) st')
  simp[execOp,r,Instr.storeAt,bV Y,bV Z,Instr.sureAddr,storeVar,sizeOf,typeInfo,hi,h1',b]
theorem St.freezeM{c:Codec α}{a:Option Addr}{e nn cc:Nat}{l:List α}{T:List Value}(st:St m (lY a (cB f l T) e::own) w)(G:OAS a nn cc c.sz T)(E:List.length l=nn)(r:∀x,(f x).length=c.sz)(D:∀m x,c.rep m x (f x)):
  ∃m',m.le m'/\St m' (.room a (List.length l) cc e c.sz::own) w/\RepS c m' a cc l:=by
 obtain⟨V,t,g⟩:=G
 cases a with
 |none=>
  simp only at g
  have d:l=[]:=kK (by omega)
  subst d;subst g
  exact⟨m,m.le_refl,st.tail.nilroom e c.sz,RepS.nil c m⟩
 |some p=>
  simp only at g
  obtain⟨y,B⟩:=g
  obtain⟨b,o,s⟩:=p
  simp only[Addr.mk.injEq,true_and] at y
  obtain⟨rfl,rfl⟩:=y
  have n:=iW r l
  have z:(cB f l T).toList.take (l.flatMap f).length=l.flatMap f:=by simp[cB]
  have d:St m (.blk b (.cells (cB f l T) e (0,0))::own) w:=st
  obtain⟨m',K,M,R,S,U,Y⟩:=St.know (b:=b) (cs:=l.flatMap f) d.tail (d.head_ne rfl) d.head.1 z (fun o v A=>by rw[d.head.2.1 o] at A;cases A)
  have h:(cB f l T).size=cc*c.sz:=by simp[cB,n,E,B]
  refine⟨m',K,M.cons ⟨rfl,rfl,by omega,t,⟨_,d.head.1,h⟩,fun o F=>S o (by rw[n];exact F),by rw[U];exact d.head.2.2⟩ ?_,?_⟩
  .intro k u;simp[Piece.block] at u;subst u;exact d.head_ne rfl
  exact RepS.of_cells (cs:=l.flatMap f) (by omega) t (fun j x H=>by
   have u:((l.flatMap f).drop (j*c.sz)).take c.sz=f x:=by
    apply hD
    intro q
    rw[List.getElem?_take]
    split
    .rename_i hq
     rw[List.getElem?_drop,xP r l j x q H hq]
    rename_i hq;rw[List.getElem?_eq_none (by rw[r];omega)]
   rw[u];exact D m' x) R
end
end Go.Dc
namespace Go.Dc
section
variable {P:Program} {n:Fr} {ops:Array Oper} {Q:Exit->Act->World->Prop} {L:bL} {w:World} {m:Mem} {own:List Piece}
variable {ks:List (Nat×(World->Prop))} {k fuel:Nat} {S:World->Prop} {done:List Nat}
theorem qUg{t t2:TypeId}{x y:Operand}{a b r:BA}(i d:Nat)(o:cD ops L i=some (some d,.binOp .add t x y t2))(l:Nat.blt d n=true)
  (p:pQ ops ks k i done=true) (f:(k,S)∈ks) (g:QP Q) (s:bM L x=some (.string a)) (u:bM L y=some (.string b)) (c:cA a b=some r)
  (h:WA P n ops Q ks fuel (done++[i]) ((d,.string r)::L) w):WA P n ops Q ks (fuel+1) done L w:=by
 unfold cA at c
 split at c
 .rename_i hb
  simp only[jM] at c;subst c
  refine xX i d _ _ o l p f g (fun q g w' _=> ?_) h
  have e:IntKind.i64.max=9223372036854775807:=by decide
  have hb':¬(9223372036854775807<(a.size:Int)+(b.size:Int)):=by simp only[maxLen] at hb;omega
  simp[execOp,g,bV s,bV u,eqGuard,binOp,Op.stringOp,e,hb']
 cases c
end
end Go.Dc
namespace Go.Dc
section
variable {P:Program} {n:Fr} {ops:Array Oper} {Q:Exit->Act->World->Prop} {L:bL} {w:World} {m:Mem} {own:List Piece}
variable {ks:List (Nat×(World->Prop))} {fuel:Nat} {done:List Nat} {α:Type} {f:α->List Value}
theorem qQp(is:List Nat)(f:Region.ready .any ops (marks done ops.size)=is)(e:is≠[])
  (h:∀i∈is,dZ P n ops Q i (fun L' w'=>TS ks (marks (done++[i]) ops.size) w'/\WA P n ops Q ks fuel (done++[i]) L' w') L w):WA P n ops Q ks (fuel+1) done L w:=by
 intro _ a l
 refine⟨fun c=>(by rw[f] at c;exact absurd c e),fun j d=> ?_⟩
 rw[f] at d
 refine LS (fun a' w' h'=> ?_) (h j d a l)
 obtain⟨L',g,b,k⟩:=h'
 have:=k b a' g
 rw[DF] at b
 rw[DF] at this
 exact⟨b,this⟩
theorem qSi{p:Nat->Prop}{a b:Nat}(c:p a)(d:p b):∀i∈[a,b],p i:=by
 intro i hi;simp only[jT,gB,dE] at hi
 rcases hi with rfl|rfl<;>assumption
theorem VS{q:Nat}{S:World->Prop}{t e:TypeId}{x y:Operand}{a:Option Addr}{nn cc k:Nat}{T:List Value}{l:List α}{kd:IntKind}{ix:Int}{z:α}(i d:Nat)(D:cD ops L i=some (some d,.indexAddr t x y))(A:Nat.blt d n=true)
  (g:pQ ops ks q i done=true) (b:(q,S)∈ks) (c:QP Q)
  (o:bM L x=some (.slice a nn cc)) (F:bM L y=some (.int kd ix)) (hi:pB P t=some (e,k)) (E:OAS a nn cc k T) (B:List.length l=nn) (G:idx l ix=some z)
  (h:WA P n ops Q ks fuel (done++[i]) ((d,.pointer (some ⟨ab a,ix.toNat*k,none⟩))::L) w):WA P n ops Q ks (fuel+1) done L w:=by
 obtain⟨r,inf,s,u⟩:=vW hi
 obtain⟨p,_,f⟩:=xZ G
 have v:=E.some B f
 refine xX i d _ _ D A g b c (fun q c w' _=> ?_) h
 have hlt':ix<(nn:Int):=by omega
 rw[v] at o
 simp[execOp,c,Instr.indexAt,bV o,bV F,asIntOf,run_underlying r,p,hlt',sizeOf,typeInfo,s,u,tP]
theorem LB{q:Nat}{S:World->Prop}{t e:TypeId}{x:Operand}{a:Option Addr}{nn cc k:Nat}{l:List α}{T:List Value}{ix:Int}{z:α}{o:Nat}{v:Value}(i d:Nat)(y:∀x,(f x).length=k)(po:Nat)(E:po=ix.toNat*k+o)(V:cD ops L i=some (some d,.load t x))(M:Nat.blt d n=true)
  (F:pQ ops ks q i done=true) (p:(q,S)∈ks) (r:QP Q) (G:∀w,S w->Piece.holds m w (lY a (cB f l T) e))
  (hx:bM L x=some (.pointer (some ⟨ab a,po,none⟩))) (Y:OAS a nn cc k T) (U:List.length l=nn) (hz:idx l ix=some z) (Z:oM P t ((f z).drop o)=some v)
  (h:WA P n ops Q ks fuel (done++[i]) ((d,v)::L) w):WA P n ops Q ks (fuel+1) done L w:=by
 obtain⟨h0,hz',B⟩:=xZ hz
 have H:=Y.some U B
 subst E
 refine xX i d _ _ V M F p r (fun q r w' hw'=> ?_) h
 have D:=G w' hw'
 rw[LY H] at D
 have K:=D.1
 have R:=xN (P:=P) (w:=w') (t:=t) (b:=ab a) (o:=ix.toNat*k+o) (cs:=(f z).drop o) (v:=v) (fun j u s=>by
  rw[List.getElem?_drop] at s
  have A:o+j<k:=by rw[<-y z];exact(List.getElem?_eq_some_iff.1 s).1
  have c:=xP y l ix.toNat z (o+j) hz' A
  rw[s] at c
  have g:=(List.getElem?_eq_some_iff.1 c).1
  simp only[World.cell?,K,cB,List.getElem?_toArray]
  have e:ix.toNat*k+o+j=ix.toNat*k+(o+j):=by omega
  rw[e,List.getElem?_append_left g]
  simpa using c) Z
 simp[execOp,r,Instr.loadAt,bV hx,Instr.sureAddr,R]
end
end Go.Dc
namespace Go.Dc
section
variable {P:Program} {n:Fr} {ops:Array Oper} {Q:Exit->Act->World->Prop} {i d:Nat} {L:bL} {w:World} {m:Mem} {own:List Piece} {N:bL->World->Prop}
variable {α:Type} {f:α->List Value}
theorem qKg{c:Codec α}(g:∀m x cs,c.rep m x cs->cs=f x){k:List α}{cs:List Value}(b:cs.length=k.length*c.sz)(a:∀i y,k[i]? =some y->c.rep m y ((cs.drop (i*c.sz)).take c.sz)):cs=k.flatMap f:=by
 induction k generalizing cs with
 |nil=>simp at b;subst b;rfl
 |cons x k n=>
  have d:=g _ _ _ (a 0 x rfl)
  simp only[Nat.zero_mul,kI] at d
  have h:=n (cs:=cs.drop c.sz) (by simp only[gQ,b,jC,kS];omega) (fun i y l=>by
   have:=a (i+1) y (by simpa using l)
   rw[dS]
   have e:c.sz+i*c.sz=(i+1)*c.sz:=by rw[kS];omega
   rw[e];exact this)
  rw[kN,<-d,<-h,gP]
theorem qPh{a:Option Addr}{e sz:Nat}(st:St m (.room a 0 0 e sz::own) w):St m (lY a (cB f [] []) e::own) w:=by
 cases a with
 |none=>exact st.tail.nilroom 0 0
 |some p=>
  obtain⟨l,n,q,r,⟨cur,d,s⟩,g,h⟩:=st.head
  have b:cur=cB f [] []:=by
   have:cur.size=0:=by omega
   rw[Array.size_eq_zero_iff.1 this];rfl
  refine st.tail.cons ⟨by rw[d,b],⟨fun o=>g o (by omega),h⟩⟩ ?_
  intro k c
  have hk':some p.block=some k:=c
  simp only[jM] at hk';subst hk'
  exact st.head_ne rfl
end
end Go.Dc
namespace Go.Dc
theorem qAe{m m':Mem}{w:World}{a:Option Addr}{cs:Array Value}{e:TypeId}(h:Piece.holds m' w (lY a cs e))(b:m.le m'):Piece.holds m w (lY a cs e):=by
 cases a with
 |none=>exact h
 |some p=>exact Piece.holds_anti (o:= .cells cs e (0,0)) h b
end Go.Dc
namespace Go.Dc
section
variable {P:Program} {n:Fr} {ops:Array Oper} {Q:Exit->Act->World->Prop} {L:bL} {w:World}
theorem aC{id:Nat}{y:Code}(h:WO P n ops (Exit.then (fun a w=>y.wpIn (nY none) 0 P Q a w) Q) 0 L w):W none P n (.seq (.region id ops false) y) Q L w:=aG (bC h)
theorem IX{i:Nat}{ρ:Option Nat}{y:Code}(hi:ops.size=i)(h:W ρ P n y Q L w):WO P n ops (Exit.then (fun a w=>y.wpIn (nY ρ) 0 P Q a w) Q) i L w:=aU hi (aE h)
end
end Go.Dc
end
section
namespace Go.Dc
section
variable {P:Program} {n:Fr} {ops:Array Oper} {Q:Exit->Act->World->Prop} {i d:Nat} {L:bL} {w:World} {m:Mem} {own:List Piece} {N:bL->World->Prop}
def mT(a:Option Addr)(cap l k:Nat):Option Addr:=if cap=l then a else a.map fun p=>p.add (l*k)
theorem ZY{b o cap l k:Nat}(h:l<cap):mT (some ⟨b,o,none⟩) cap l k=some ⟨b,o+l*k,none⟩:=by
 unfold mT;rw[if_neg (by omega)];simp[tP]
theorem qLo{t e k:Nat}{x:Operand}{lo hi:Option Operand}{a:Option Addr}{nn cap:Nat}{li hix:Int}(g:bM L x=some (.slice a nn cap))(v:pB P t=some (e,k))
  (p:(lo=none/\li=0)\/∃y kd,lo=some y/\bM L y=some (.int kd li)) (n:(hi=none/\hix=nn)\/∃y kd,hi=some y/\bM L y=some (.int kd hix)) (h:0<=li) (u:li<=hix) (l:hix<=cap) (q:Oper) (f:q.op= .slice t x lo hi none) (w:World):
  (execOp (mS L) q).run P w= .ok (.value (.slice (mT a cap li.toNat k) (hix.toNat-li.toNat) (cap-li.toNat))) w:=by
 obtain⟨b,inf,c,d⟩:=vW v
 have r:0<=hix:=by omega
 have o:li<=max hix 0:=by omega
 rcases p with ⟨rfl,rfl⟩|⟨y,kd,rfl,s⟩<;>rcases n with ⟨rfl,rfl⟩|⟨y',kd',rfl,hy'⟩
 .simp[execOp,f,Instr.sliceAt,Instr.slice,Instr.sliceBounds,run_underlying b,bV g,sizeOf,typeInfo,c,d,mT]
 .simp[execOp,f,Instr.sliceAt,Instr.slice,Instr.sliceBounds,Instr.sliceBound,asIntOf,run_underlying b,bV g,bV hy',r,l,sizeOf,typeInfo,c,d,mT]
 .have:li<=(nn:Int):=u
  simp[execOp,f,Instr.sliceAt,Instr.slice,Instr.sliceBounds,Instr.sliceBound,asIntOf,run_underlying b,bV g,bV s,h,this,sizeOf,typeInfo,c,d,mT]
 simp[execOp,f,Instr.sliceAt,Instr.slice,Instr.sliceBounds,Instr.sliceBound,asIntOf,run_underlying b,bV g,bV s,bV hy',r,l,h,o,sizeOf,typeInfo,c,d,mT]
theorem qKp{t e k:Nat}{x:Operand}{lo hi:Option Operand}{a:Option Addr}{nn cap:Nat}{li hix:Int}(v:Value)(r:cD ops L i=some (some d,.slice t x lo hi none))(p:Nat.blt d n=true)(z:bM L x=some (.slice a nn cap))(o:pB P t=some (e,k))
  (c:(lo=none/\li=0)\/∃y kd,lo=some y/\bM L y=some (.int kd li)) (b:(hi=none/\hix=nn)\/∃y kd,hi=some y/\bM L y=some (.int kd hix)) (f:0<=li) (g:li<=hix) (l:hix<=cap) (u: .slice (mT a cap li.toNat k) (hix.toNat-li.toNat) (cap-li.toNat)=v)
  (h:N ((d,v)::L) w):dZ P n ops Q i N L w:=by
 subst u
 exact mB r p (fun q s=>qLo z o c b f g l q s w) h
theorem qMa{b o k nn cap sl:Nat}{C:Array Value}{e:TypeId}{S:List Value}(d:w.heap[b]? =some (.cells C e (0,0)))(c:(C.toList.drop o).take (nn*k)=S)(f:S.length=nn*k):
  (Builtin.firstCells k nn (.slice (some ⟨b,o,none⟩) sl cap)).run P w= .ok S.toArray w:=by
 refine run_firstCells_some w k nn ⟨b,o,none⟩ sl cap S f fun j v a=> ?_
 rw[<-c,List.getElem?_take] at a
 split at a
 .rw[List.getElem?_drop] at a
  rw[tP]
  simp only[World.cell?,d]
  simpa using a
 cases a
theorem qNy{i:Nat}{op:Op}{L:bL}{w w':World}{v:Value}(l:cD ops L i=some (none,op))
  (c:∀o:Oper,o.op=op->(execOp (mS L) o).run P w= .ok (.value v) w')
  (h:N L w'):dZ P n ops Q i N L w:=by
 obtain⟨o,d,e,f,g,k⟩:=DK l
 intro a b
 unfold nZ
 simp only[d,b.wanted g,jJ]
 rw[b.exec k,c o f,Oper.uponIn_value,e]
 exact⟨_,b,h⟩
theorem qLl{t e k zs:Nat}{x:Operand}{b o dl dc:Nat}{C:Array Value}{a:TypeId}{z:Value}(C':List Value)(D:cD ops L i=some (none,.call {callee:= .builtin .clear,args:= #[x],argTypes:= #[t]}))
  (E:bM L x=some (.slice (some ⟨b,o,none⟩) (dl+1) dc)) (B:pB P t=some (e,k)) (p:(P.info? e).bind (·.zero)=some z) (s:z.cells.size=zs) (l:∀v∈z.cells.toList,v.oneCell'=true) (st:St m (.blk b (.cells C a (0,0))::own) w)
  (d:o+(dl+1)*zs<=C.size) (A:C.toList.take o++(Builtin.zeroCells z.cells (dl+1)).toList++C.toList.drop (o+(Builtin.zeroCells z.cells (dl+1)).toList.length)=C')
  (h:∀w',St m (.blk b (.cells C'.toArray a (0,0))::own) w'->N L w'):dZ P n ops Q i N L w:=by
 subst A
 obtain⟨u,inf,r,F⟩:=vW B
 have g:(Builtin.zeroCells z.cells (dl+1)).toList.length=(dl+1)*zs:=by rw[dL,size_zeroCells,s]
 have hone':∀v∈(Builtin.zeroCells z.cells (dl+1)).toList,v.oneCell'=true:=by
  intro v c
  simp only[Builtin.zeroCells,Array.toList_map,fV,Array.toList_range] at c
  obtain⟨j,f,rfl⟩:=c
  have hj':=fB.1 f
  by_cases h0:z.cells.size=0
  .simp[h0] at hj'
  have:j%z.cells.size<z.cells.size:=Nat.mod_lt _ (by omega)
  rw[getElem!_pos z.cells _ this]
  exact l _ (by simp)
 have c:=run_storeCells_at P b o a _ 0 C w st.head.1 (by simpa[g] using d) hone'
 simp only[fC] at c
 have st':=st.set (w':=w.setRow b (C.toList.take o++(Builtin.zeroCells z.cells (dl+1)).toList++C.toList.drop (o+(Builtin.zeroCells z.cells (dl+1)).toList.length)).toArray) (o':= .cells (C.toList.take o++(Builtin.zeroCells z.cells (dl+1)).toList++C.toList.drop (o+(Builtin.zeroCells z.cells (dl+1)).toList.length)).toArray a (0,0)) ⟨⟨rfl,rfl⟩,rfl,nO⟩ (setRow_heap w b C _ a _ st.head.1) (fun j _ f=>setRow_other w b j _ f)
 rw[r] at p
 simp only[j0] at p
 refine qNy (v:= .tuple #[]) D (fun q y=> ?_) (h _ st')
 simp only[execOp,y,resolve,Sem.run_bind,Sem.run_pure,Result.andThen_ok,invoke,builtin]
 simp[bV E,Builtin.clear_,run_underlying u,zeroValue,typeInfo,r,p,c]
end
end Go.Dc
namespace Go.Dc
end Go.Dc
end
namespace Go.Dc
section
variable {P:Program} {n:Fr} {ops:Array Oper} {Q:Exit->Act->World->Prop} {i d:Nat} {L:bL} {w:World} {m:Mem} {own:List Piece} {N:bL->World->Prop}
variable {ks:List (Nat×(World->Prop))} {fuel:Nat} {done:List Nat}
end
section
variable {P:Program} {n:Fr} {ops:Array Oper} {Q:Exit->Act->World->Prop} {i d:Nat} {L:bL} {w:World} {m:Mem} {own:List Piece} {N:bL->World->Prop} {α:Type} {f:α->List Value}
def BC(l:List α)(lo hi:Int):Option Unit:=if 0<=lo/\lo<=hi/\hi<=l.length then some () else none
theorem ZC{l:List α}{lo hi:Int}{u:Unit}(h:BC l lo hi=some u):0<=lo/\lo<=hi/\hi<=l.length:=by
 unfold BC at h
 split at h
 .assumption
 cases h
theorem PW{t e k:Nat}{x:Operand}{lo hi:Option Operand}{a:Option Addr}{nn cc:Nat}{T:List Value}{l:List α}{li hix:Int}{u:Unit}(q:cD ops L i=some (some d,.slice t x lo hi none))(p:Nat.blt d n=true)(s:bM L x=some (.slice a nn cc))(o:pB P t=some (e,k))
  (c:(lo=none/\li=0)\/∃y kd,lo=some y/\bM L y=some (.int kd li)) (b:(hi=none/\hix=nn)\/∃y kd,hi=some y/\bM L y=some (.int kd hix)) (r:OAS a nn cc k T) (A:List.length l=nn) (v:BC l li hix=some u)
  (h:N ((d,.slice (mT a cc li.toNat k) (hix.toNat-li.toNat) (cc-li.toNat))::L) w):dZ P n ops Q i N L w:=by
 obtain⟨f,g,z⟩:=ZC v
 have:=r.1
 exact qKp _ q p s o c b f g (by omega) rfl h
theorem ZA{k:Nat}(a:∀x,(f x).length=k):∀(l:List α) (j:Nat),(l.flatMap f).take (j*k)=(l.take j).flatMap f
 |[],j=>by simp
 |x::l,0=>by simp
 |x::l,j+1=>by
  rw[kN,List.take_succ_cons,kN,List.take_append,a,show(j+1)*k-k=j*k by rw[kS,dH,dM],ZA a l j,gM (by rw[a,kS];omega)]
theorem YG{k:Nat}(a:∀x,(f x).length=k):∀(l:List α) (j:Nat),(l.flatMap f).drop (j*k)=(l.drop j).flatMap f
 |[],j=>by simp
 |x::l,0=>by simp
 |x::l,j+1=>by
  rw[kN,List.drop_succ_cons,dG,a,show(j+1)*k-k=j*k by rw[kS,dH,dM],YG a l j,jZ (by rw[a,kS];omega),jO]
theorem OR{k:Nat}(a:∀x,(f x).length=k){l:List α}{T:List Value}{j:Nat}(c:j<=l.length):(cB f l T).toList.take (j*k)=(l.take j).flatMap f:=by
 have b:=iW a l
 simp only[cB]
 rw[gD (by rw[b];exact gH _ c),ZA a]
theorem VY{k:Nat}(a:∀x,(f x).length=k){l:List α}{T:List Value}{j:Nat}(c:j<=l.length):(cB f l T).toList.drop (j*k)=(l.drop j).flatMap f++T:=by
 have b:=iW a l
 simp only[cB]
 rw[gL (by rw[b];exact gH _ c),YG a]
theorem qJs{t u e by_:Nat}{x y:Operand}{c:Codec α}{v:Value}{a:Option Addr}{nn cc:Nat}{T:List Value}{l k r:List α}(a5:∀m x cs,c.rep m x cs->cs=f x)(R:∀x,(f x).length=c.sz)
  (ho:cD ops L i=some (some d,.call {callee:= .builtin .append,args:= #[x,y],argTypes:= #[t,u]})) (hd:Nat.blt d n=true)
  (hx:bM L x=some (.slice a nn cc)) (hy:bM L y=some v) (st:St m (lY a (cB f l T) e::own) w) (V:OAS a nn cc c.sz T) (hn:List.length l=nn) (hi:xO P t=some (e,c.sz,by_,c.sz)) (hu:yG P u e)
  (hg:Gives P c m v k) (Z:cU by_ l k=some r)
  (h:∀a' cap T' w',OAS a' (List.length r) cap c.sz T'->St m (lY a' (cB f r T') e::own) w'->N ((d,.slice a' (List.length r) cap)::L) w'):dZ P n ops Q i N L w:=by
 obtain⟨ht,inf,z,F,hz',A,a4,a7⟩:=OM hi
 unfold cU at Z
 split at Z
 .rename_i hk
  obtain⟨k1,k2⟩:=hk
  simp only[jM] at Z;subst Z
  subst hn
  obtain⟨cs,H,a3⟩:=hg
  have D:=H w st.inv
  have hl:cs.length=k.length*c.sz:=D.2.2.1
  have M:cs=k.flatMap f:=qKg a5 hl a3
  have a1:=iW R l
  have a8:=iW R k
  obtain⟨q1,q2,G⟩:=V
  by_cases hroom:l.length+k.length<=cc
  .cases a with
   |none=>
    simp only at G
    have S:l=[]:=kK (by omega)
    have E:k=[]:=kK (by omega)
    subst S;subst E;subst G
    have B:cs=[]:=by simpa using M
    subst B
    refine AF (v:=undef) (w':=w) ho hd (fun o K=> ?_)
    have g:=UY w t u o.type e inf ht hu F (x:=v) (news:=[]) (by rw[A];exact D)
    refine⟨_,_,?_,h none 0 [] w ⟨jP _,kE _,rfl⟩ st⟩
    simp only[execOp,K,resolve,Sem.run_bind,Sem.run_pure,Result.andThen_ok,invoke,builtin]
    simp only[jE] at hx
    simp[bV hx,bV hy,g]
   |some p=>
    simp only at G
    obtain⟨U,hT⟩:=G
    obtain⟨b,o,s⟩:=p
    simp only[Addr.mk.injEq,true_and] at U
    obtain⟨rfl,rfl⟩:=U
    have E:St m (.blk b (.cells (cB f l T) e (0,0))::own) w:=st
    have a2:(cB f l T).size=cc*c.sz:=by
     simp only[cB,fA,jA,a1];omega
    have Y:l.length*c.sz+k.length*c.sz<=cc*c.sz:=by rw[<-kS];exact gH _ hroom
    have hC:(cB f l T).toList.take (l.length*inf.size)++cs++(cB f l T).toList.drop (l.length*inf.size+cs.length)=(cB f (l++k) (T.drop (k.length*c.sz))).toList:=by
     rw[A,hl,M]
     have B:(cB f l T).toList.take (l.length*c.sz)=l.flatMap f:=by
      have:=OR (T:=T) R (jP l.length)
      rwa[fI] at this
     have e2:(cB f l T).toList.drop (l.length*c.sz+k.length*c.sz)=T.drop (k.length*c.sz):=by
      have:=VY (T:=T) R (jP l.length)
      rw[hU,List.flatMap_nil,jO] at this
      rw[<-dS,this]
     rw[B,e2]
     simp[cB,fM]
    refine AF (v:=undef) (w':=w) ho hd (fun q K=> ?_)
    have g:=VG w t u q.type e inf ht hu F (x:=v) (n:=k.length) (news:=cs) (by rw[A];exact D) b l.length cc (cB f l T) E.head.1 hroom (by rw[A,hl,a2];exact Y)
    rw[hC] at g
    have st':=E.set (w':=w.setRow b (cB f (l++k) (T.drop (k.length*c.sz))).toList.toArray) (o':= .cells (cB f (l++k) (T.drop (k.length*c.sz))).toList.toArray e (0,0)) ⟨⟨rfl,rfl⟩,rfl,nO⟩ (setRow_heap w b (cB f l T) _ e _ E.head.1) (fun j _ hj=>setRow_other w b j _ hj)
    have a6:St m (lY (some ⟨b,0,none⟩) (cB f (l++k) (T.drop (k.length*c.sz))) e::own) (w.setRow b (cB f (l++k) (T.drop (k.length*c.sz))).toList.toArray):=by simpa[lY] using st'
    have B:(l++k).length=l.length+k.length:=jA
    refine⟨.slice (some ⟨b,0,none⟩) (l++k).length cc,_,?_,h (some ⟨b,0,none⟩) cc (T.drop (k.length*c.sz)) _ ⟨by rw[B];exact hroom,q2,rfl,?_⟩ a6⟩
    .simp only[execOp,K,resolve,Sem.run_bind,Sem.run_pure,Result.andThen_ok,invoke,builtin]
     simp[bV hx,bV hy,g,B]
    rw[B,kS,gQ];omega
  have a6:cc<l.length+k.length:=by omega
  have hinv':∀w':World,Step w w'->w'.heap=w.heap->Inv m w':=fun w' V Y=>st.inv.keep V (fun b _ _=>by rw[Y])
  refine AF (v:=undef) (w':=w) ho hd (fun o K=> ?_)
  have a2:∀w':World,Step w w'->w'.heap=w.heap->(Builtin.firstCells inf.size l.length (.slice a l.length cc)).run P w'= .ok (l.flatMap f).toArray w':=fun w' _ Y=>by
   cases a with
   |none=>
    simp only at G
    have S:l=[]:=kK (by omega)
    subst S
    simp[Builtin.firstCells]
   |some p=>
    simp only at G
    obtain⟨U,hT⟩:=G
    obtain⟨b,o,s⟩:=p
    simp only[Addr.mk.injEq,true_and] at U
    obtain⟨rfl,rfl⟩:=U
    have E:St m (.blk b (.cells (cB f l T) e (0,0))::own) w:=st
    rw[A]
    refine qMa (o:=0) (C:=cB f l T) (e:=e) (by rw[Y];exact E.head.1) ?_ a1
    rw[kI]
    have:=OR (T:=T) R (jP l.length)
    rwa[fI] at this
  have g:=VA (ty:=o.type) w t u e inf z ht hu F hz' (n:=k.length) (news:=cs) (by rw[A];exact D) a l.length cc (l.flatMap f)
   a2 (fun w' V Y=>by rw[A];exact(H w' (hinv' w' V Y)).2.1) a6 (by rw[a4];exact k1) k2
  generalize hgc:grownCap w (l.length+k.length) cc e=gc at g
  have U:l.length+k.length<=gc:=hgc▸grownCap_ge _ _ _ _
  have S:gc<=maxLen:=hgc▸grownCap_le_maxLen _ _ _ _ k2
  have E:(l.flatMap f++cs).toArray++Builtin.zeroCells z.cells (gc-(l.length+k.length))=cB f (l++k) (Builtin.zeroCells z.cells (gc-(l.length+k.length))).toList:=by
   rw[M];apply Array.ext';simp[cB]
  rw[E] at g
  have B:(l++k).length=l.length+k.length:=jA
  refine⟨.slice (some ⟨w.heap.size,0,none⟩) (l++k).length gc,_,?_,h (some ⟨w.heap.size,0,none⟩) gc _ _ ⟨by omega,S,rfl,?_⟩ (st.tail.alloc (w':=w.drew.alloc (.cells (cB f (l++k) (Builtin.zeroCells z.cells (gc-(l.length+k.length))).toList) e)) ⟨⟨rfl,rfl⟩,rfl,nO⟩ rfl)⟩
  .simp only[execOp,K,resolve,Sem.run_bind,Sem.run_pure,Result.andThen_ok,invoke,builtin]
   simp[bV hx,bV hy,g,B]
  simp only[dL,size_zeroCells,a7,B,<-kS]
  congr 1;omega
 cases Z
theorem TP{l:List α}{lo hi:Int}{u:Unit}{nn:Nat}(h:BC l lo hi=some u)(d:List.length l=nn):0<=lo/\lo<=hi/\hi<=(nn:Int):=by
 obtain⟨a,b,c⟩:=ZC h
 exact⟨a,b,by omega⟩
theorem LR{l:List α}{lo hi ix:Int}{z:α}(e:0<=lo)(c:idx ((l.take hi.toNat).drop lo.toNat) ix=some z):idx l (lo+ix)=some z/\0<=ix/\lo+ix<hi:=by
 obtain⟨b,a,d⟩:=xZ c
 rw[List.getElem?_drop,List.getElem?_take] at a
 split at a
 .rename_i g3
  refine⟨?_,b,by omega⟩
  unfold idx
  rw[if_pos (by omega),show(lo+ix).toNat=lo.toNat+ix.toNat by omega]
  exact a
 cases a
theorem VD{t e k:Nat}{x y:Operand}{a:Option Addr}{nn cc:Nat}{T:List Value}{l:List α}{kd:IntKind}{lo hi ix:Int}{z:α}(f:bM L x=some (.slice (mT a cc lo.toNat k) (hi.toNat-lo.toNat) (cc-lo.toNat)))(D:bM L y=some (.int kd ix))(hi':pB P t=some (e,k))
  (d:OAS a nn cc k T) (v:List.length l=nn) (B:0<=lo/\lo<=hi/\hi<=(nn:Int)) (E:idx ((l.take hi.toNat).drop lo.toNat) ix=some z) (q:Oper) (A:q.op= .indexAddr t x y) (w:World):
  (execOp (mS L) q).run P w= .ok (.value (.pointer (some ⟨ab a,(lo+ix).toNat*k,none⟩))) w:=by
 obtain⟨p,inf,r,s⟩:=vW hi'
 obtain⟨F,v1,K⟩:=B
 obtain⟨n,o,H⟩:=LR F E
 obtain⟨_,_,c⟩:=xZ n
 have u:=d.some v c
 have G:=d.1
 rw[u,ZY (by omega)] at f
 generalize ab a=b at*
 have hlt':ix<((hi.toNat-lo.toNat:Nat):Int):=by omega
 have g:0+lo.toNat*k+ix.toNat*k=(lo+ix).toNat*k:=by rw[kF,<-kS];congr 1;omega
 have h:lo.toNat*k+ix.toNat*k=(lo+ix).toNat*k:=by rw[<-g,kF]
 simp[execOp,A,Instr.indexAt,bV f,bV D,asIntOf,run_underlying p,o,hlt',sizeOf,typeInfo,r,s,tP,h]
theorem qId{t e k:Nat}{x y:Operand}{a:Option Addr}{nn cc:Nat}{T:List Value}{l:List α}{kd:IntKind}{lo hi ix:Int}{z:α}(f:cD ops L i=some (some d,.indexAddr t x y))(b:Nat.blt d n=true)(r:bM L x=some (.slice (mT a cc lo.toNat k) (hi.toNat-lo.toNat) (cc-lo.toNat)))(s:bM L y=some (.int kd ix))(hi':pB P t=some (e,k))
  (o:OAS a nn cc k T) (c:List.length l=nn) (p:0<=lo/\lo<=hi/\hi<=(nn:Int)) (u:idx ((l.take hi.toNat).drop lo.toNat) ix=some z)
  (h:N ((d,.pointer (some ⟨ab a,(lo+ix).toNat*k,none⟩))::L) w):dZ P n ops Q i N L w:=
 mB f b (fun q g=>VD r s hi' o c p u q g w) h
theorem VJ{ks:List (Nat×(World->Prop))}{q fuel:Nat}{S:World->Prop}{done:List Nat}{t e k:Nat}{x y:Operand}{a:Option Addr}{nn cc:Nat}{T:List Value}{l:List α}{kd:IntKind}{lo hi ix:Int}{z:α}(i d:Nat)(c:cD ops L i=some (some d,.indexAddr t x y))(g:Nat.blt d n=true)
  (f:pQ ops ks q i done=true) (b:(q,S)∈ks) (r:QP Q) (v:bM L x=some (.slice (mT a cc lo.toNat k) (hi.toNat-lo.toNat) (cc-lo.toNat))) (A:bM L y=some (.int kd ix)) (hi':pB P t=some (e,k))
  (s:OAS a nn cc k T) (p:List.length l=nn) (u:0<=lo/\lo<=hi/\hi<=(nn:Int)) (B:idx ((l.take hi.toNat).drop lo.toNat) ix=some z)
  (h:WA P n ops Q ks fuel (done++[i]) ((d,.pointer (some ⟨ab a,(lo+ix).toNat*k,none⟩))::L) w):WA P n ops Q ks (fuel+1) done L w:=
 xX i d _ _ c g f b r (fun o c w' _=>VD v A hi' s p u B o c w') h
def IS(l:List α)(lo:Int)(z0:α):Option (List α):=if 0<=lo/\lo<l.length then some (l.take lo.toNat++List.replicate (l.length-lo.toNat) z0) else none
theorem qLm{l r:List α}{lo:Int}{z0:α}(h:IS l lo z0=some r):r.length=l.length:=by
 unfold IS at h
 split at h
 .simp only[jM] at h;subst h
  simp only[jA,gK,List.length_replicate];omega
 cases h
theorem qKq{t e k:Nat}{x:Operand}{a:Option Addr}{nn cc:Nat}{T:List Value}{l r:List α}{s:TypeId}{lo y:Int}{z:Value}{z0:α}(c:∀x,(f x).length=k)(u:∀x,∀v∈f x,v.oneCell'=true)
  (ho:cD ops L i=some (none,.call {callee:= .builtin .clear,args:= #[x],argTypes:= #[t]}))
  (g:bM L x=some (.slice (mT a cc lo.toNat k) (y.toNat-lo.toNat) (cc-lo.toNat))) (Y:y=(l.length:Int)) (hI:pB P t=some (e,k)) (hz:(P.info? e).bind (·.zero)=some z) (o:z.cells.toList=f z0)
  (st:St m (lY a (cB f l T) s::own) w) (R:OAS a nn cc k T) (M:List.length l=nn) (d:IS l lo z0=some r)
  (h:∀w',St m (lY a (cB f r T) s::own) w'->N L w'):dZ P n ops Q i N L w:=by
 unfold IS at d
 split at d
 .rename_i hb
  simp only[jM] at d;subst d
  obtain⟨j,rfl⟩:∃j:Nat,lo=j:=⟨lo.toNat,by omega⟩
  have hj:j<l.length:=by omega
  have A:=R.some M hj
  subst M;subst Y
  obtain⟨q1,q2,U⟩:=R
  rw[A] at U
  simp only[true_and] at U
  rw[A] at g st h
  generalize ab a=b at*
  rw[ZY (by simp only[jX];omega)] at g
  simp only[jX,kF] at g h
  have E:=iW c l
  have V:St m (.blk b (.cells (cB f l T) s (0,0))::own) w:=st
  have B:(cB f l T).size=cc*k:=by
   simp only[cB,fA,jA,E];omega
  obtain⟨dl,hdl⟩:∃dl,l.length-j=dl+1:=⟨l.length-j-1,by omega⟩
  rw[hdl] at g
  have p:z.cells.size=k:=by have:=congrArg List.length o;rw[c] at this;simpa using this
  have S:(Builtin.zeroCells z.cells (dl+1)).toList=(List.replicate (dl+1) z0).flatMap f:=by
   apply hD
   intro q
   have a1:(Builtin.zeroCells z.cells (dl+1)).toList.length=(dl+1)*k:=by rw[dL,size_zeroCells,p]
   have F:=iW c (List.replicate (dl+1) z0)
   rw[List.length_replicate] at F
   by_cases hq:q<(dl+1)*k
   .have H:0<k:=Nat.pos_of_ne_zero fun Z=>by(subst Z;simp at hq)
    have D:q/k<dl+1:=(Nat.div_lt_iff_lt_mul H).2 hq
    have K:=Nat.mod_lt q H
    have e:q=(q/k)*k+q%k:=by rw[Nat.mul_comm];exact(Nat.div_add_mod q k).symm
    have G:=xP c (List.replicate (dl+1) z0) (q/k) z0 (q%k) (by simp[D]) K
    rw[<-e] at G
    rw[G,<-o]
    simp[Builtin.zeroCells,p,hq,K]
   rw[List.getElem?_eq_none (by omega),List.getElem?_eq_none (by omega)]
  have D:j*k+(dl+1)*k<=cc*k:=by rw[<-kS];exact gH _ (by omega)
  refine qLl (zs:=k) (cB f (l.take j++List.replicate (l.length-j) z0) T).toList ho g hI hz p (fun v F=> ?_) V (by rw[B];exact D) ?_ ?_
  .rw[o] at F;exact u _ v F
  .rw[S,iW c,List.length_replicate,OR c (by omega),<-kS,show j+(dl+1)=l.length by omega,VY c (jP _),hdl]
   simp[cB,fM]
  intro w' st'
  have G:St m (.blk b (.cells (cB f (l.take j++List.replicate (l.length-j) z0) T) s (0,0))::own) w':=by simpa using st'
  exact h w' G
 cases d
theorem qUt{a:Option Addr}{nn cc k:Nat}{T:List Value}{l:List α}{hi:Int}(d:OAS a nn cc k T)(e:List.length l=nn)(f:0<=(0:Int)/\0<=hi/\hi<=(nn:Int)):
  (.slice (mT a cc (Int.toNat 0) k) (hi.toNat-Int.toNat 0) (cc-Int.toNat 0):Value)= .slice a (List.length (l.take hi.toNat)) cc:=by
 have c:mT a cc (Int.toNat 0) k=a:=by
  unfold mT
  split
  .rfl
  cases a with
  |none=>rfl
  |some p=>
   have b:=d.2.2
   simp only at b
   rw[b.1]
   simp[tP]
 have b:hi.toNat-Int.toNat 0=(l.take hi.toNat).length:=by rw[gK];simp;omega
 rw[c,b]
 rfl
theorem St.freezeView{c:Codec α}{a:Option Addr}{e nn cc:Nat}{l:List α}{T:List Value}{hi:Int}(st:St m (lY a (cB f l T) e::own) w)(n:OAS a nn cc c.sz T)(q:List.length l=nn)(d:∀x,(f x).length=c.sz)(k:∀m x,c.rep m x (f x))(r:0<=(0:Int)/\0<=hi/\hi<=(nn:Int)):
  ∃m',m.le m'/\St m' (.room a (List.length (l.take hi.toNat)) cc e c.sz::own) w/\RepS c m' a cc (l.take hi.toNat):=by
 have g:cB f l T=cB f (l.take hi.toNat) ((l.drop hi.toNat).flatMap f++T):=by
  simp only[cB]
  rw[<-jD,<-fM,gP]
 rw[g] at st
 obtain⟨o,h,b⟩:=n
 refine St.freezeM (nn:=(l.take hi.toNat).length) st ⟨by rw[gK];omega,h,?_⟩ rfl d k
 cases a with
 |none=>exact b
 |some p=>
  simp only at b ⊢
  refine⟨b.1,?_⟩
  have:=iW d (l.drop hi.toNat)
  rw[jA,this,<-gI,<-kS,gK,gQ]
  have e:min hi.toNat l.length+(l.length-hi.toNat)=nn:=by omega
  rw[e];exact b.2
end
end Go.Dc
section
namespace Go.Dc
def SF{α σ β ρ:Type}[DecidableEq ρ](f:Option α->σ->Option (σ⊕β))(l:List α)(s:σ)(K:β->Option ρ):Option ρ:=
 match(nN f l s).bind K with
 |none=>none
 |some b=>if((wO l).all fun k=>decide ((nN f k s).bind K=some b))=true then some b else none
theorem qJq{α σ β ρ:Type}[DecidableEq ρ]{f:Option α->σ->Option (σ⊕β)}{l:List α}{s:σ}{K:β->Option ρ}{b:ρ}(h:SF f l s K=some b):∀k,k.Perm l->(nN f k s).bind K=some b:=by
 unfold SF at h
 split at h
 .cases h
 rename_i b' hb
 split at h
 .rename_i hall
  simp only[jM] at h;subst h
  intro k a
  have:=jU.1 hall k (QA a)
  simpa using this
 cases h
def LoopP{α σ β:Type}(f:Option α->σ->Option (σ⊕β))(rem:List α)(s:σ)(Pk:β->Prop)(k:Nat):Prop:=(∀l,l.Perm rem->∃b,nN f l s=some b/\Pk b)/\rem.length<k
theorem LoopP.start{α σ β ρ:Type}[DecidableEq ρ]{f:Option α->σ->Option (σ⊕β)}{l:List α}{s:σ}{K:β->Option ρ}{b:ρ}(h:SF f l s K=some b):∃Pk:β->Prop,(∀o,Pk o->K o=some b)/\LoopP f l s Pk (l.length+1):=
 ⟨fun o=>K o=some b,fun _ h=>h,fun k d=>by obtain⟨o,a,c⟩:=jS.1 (qJq h k d);exact⟨o,a,c⟩,dF _⟩
theorem LoopP.zero{α σ β:Type}{f:Option α->σ->Option (σ⊕β)}{rem:List α}{s:σ}{b:β->Prop}{p:Prop}(h:LoopP f rem s b 0):p:=absurd h.2 (kT _)
theorem LoopP.nil{α σ β:Type}{f:Option α->σ->Option (σ⊕β)}{rem:List α}{s:σ}{b:β->Prop}{k:Nat}(h:LoopP f rem s b (k+1))(g:rem=[]):
  ∃c,f none s=some c/\(∀s',c= .inl s'->LoopP f rem s' b k)/\(∀b',c= .inr b'->b b'):=by
 subst g
 obtain⟨o,this,e⟩:=h.1 [] (.refl _)
 simp only[nN] at this
 obtain⟨c,d,a⟩:=jS.1 this
 refine⟨c,d,?_,?_⟩
 .rintro s' rfl;simp at a
 rintro b' rfl
 simp only[jM] at a
 subst a;exact e
theorem LoopP.cons{α σ β:Type}{f:Option α->σ->Option (σ⊕β)}{rem rest:List α}{e:α}{s:σ}{b:β->Prop}{k:Nat}(h:LoopP f rem s b (k+1))(q:rem.Perm (e::rest)):
  ∃c,f (some e) s=some c/\(∀s',c= .inl s'->LoopP f rest s' b k)/\(∀b',c= .inr b'->b b'):=by
 have t:rem.length=rest.length+1:=by simpa using q.length_eq
 have key:∀l,l.Perm rest->∃o,nN f (e::l) s=some o/\b o:=fun l a=>h.1 _ ((a.cons e).trans q.symm)
 obtain⟨o,d,u⟩:=key rest (.refl _)
 simp only[nN] at d
 obtain⟨c,g,n⟩:=jS.1 d
 refine⟨c,g,?_,?_⟩
 .rintro s' rfl
  refine⟨fun l a=> ?_,by have:=h.2;omega⟩
  obtain⟨o2,p,r⟩:=key l a
  simp only[nN,g,j0] at p
  exact⟨o2,p,r⟩
 rintro b' rfl
 simp only[jM] at n
 subst n;exact u
end Go.Dc
namespace Go.Dc
end Go.Dc
end
namespace Go.Dc
section
open Go.Proofs Go.Shelf Go.Sort
def yH(l:List BA):List BA:=l.mergeSort fun x y=>decide (x.data.toList<=y.data.toList)
theorem YY(l:List BA):(yH l).length=l.length:=by unfold yH;simp
theorem qBt(x:BA):encStr x.data.toList=Value.string x:=by
 cases x;simp[encStr]
abbrev fS:BA->List Value:=fun x=>[Value.string x]
theorem ST(l:List BA)(T:List Value)(j:Nat)(c:j<l.length):(cB fS l T)[j]? =some (Value.string l[j]):=by
 simp only[cB,List.getElem?_toArray]
 have a:=xP (f:=fS) (k:=1) (fun _=>rfl) l j l[j] 0 (by simp) (by decide)
 have b:=iW (f:=fS) (k:=1) (fun _=>rfl) l
 rw[List.getElem?_append_left (by omega)]
 simpa using a
variable {P:Program} {ρ:Ren} {m:Mem} {own:List Piece} {w:World}
theorem qKj(L:Lays.n190 P ρ){a:Option Addr}{l:List BA}{cap:Nat}{T:List Value}{e:TypeId}(st:St m (lY a (cB fS l T) e::own) w)(K:OAS a l.length cap 1 T)(A:l.length<4611686018427387904):
  Calls P (ρ.f 190) #[.slice a l.length cap] w fun r w'=>r= .returned (.tuple #[])/\St m (lY a (cB fS (yH l) T) e::own) w':=by
 obtain⟨M,R,B⟩:=K
 cases a with
 |none=>
  simp only at B
  have c:l=[]:=kK (by omega)
  subst c
  refine(Any.slices_Sort_string_none L none cap w).mono fun r w' h=> ?_
  obtain⟨rfl,rfl⟩:=h
  exact⟨rfl,by simpa[yH] using st⟩
 |some p=>
  simp only at B
  obtain⟨E,hT'⟩:=B
  obtain⟨b,o,s⟩:=p
  simp only[Addr.mk.injEq,true_and] at E
  obtain⟨rfl,rfl⟩:=E
  have z:St m (.blk b (.cells (cB fS l T) e (0,0))::own) w:=st
  have q:=z.head.1
  have v:=sU q
  have H:Holds encStr w b 0 (l.map (·.data.toList)).toArray:=by
   intro j u
   have hj':j<l.length:=by simpa using u
   refine⟨?_,?_⟩
   .simp only[World.cell?,q,kF]
    rw[ST l T j hj',getElem!_pos _ j u]
    simp[qBt]
   simp[World.frozen?,q]
  have:=Any.slices_Sort_string L b 0 cap (l.map (·.data.toList)) w H v (by simpa using A)
  rw[gC] at this
  refine this.mono fun r w' h=> ?_
  obtain⟨rfl,n,os,rfl⟩:=h
  refine⟨rfl,?_⟩
  have D:(l.map (·.data.toList)).mergeSort (fun x y=>decide (x<=y))=(yH l).map (·.data.toList):=by
   unfold yH
   rw[List.map_mergeSort (s:=fun x y=>decide (x<=y))]
   intro a _ b _
   rfl
  rw[D]
  have g:=YY l
  generalize yH l=l' at g
  have d:putCells encStr 0 (l'.map (·.data.toList)).toArray (cB fS l T)=cB fS l' T:=by
   apply Array.ext_getElem?
   intro t
   simp only[putCells,Array.getElem?_mapIdx,kF,kE,true_and,Nat.sub_zero,fA,gC]
   by_cases ht:t<l.length
   .have c:t<l'.length:=by omega
    rw[ST l T t ht,ST l' T t c]
    simp only[kW,if_pos c]
    rw[getElem!_pos _ t (by simpa using c)]
    simp[qBt]
   have c:¬t<l'.length:=by omega
   simp only[cB,List.getElem?_toArray]
   have F:=iW (f:=fS) (k:=1) (fun _=>rfl) l
   have G:=iW (f:=fS) (k:=1) (fun _=>rfl) l'
   rw[List.getElem?_append_right (by omega),List.getElem?_append_right (by omega),F,G,g]
   simp[ht,g]
  refine(z.set (w':=grow (putRow encStr (Sort.ahead w n) b 0 (l'.map (·.data.toList)).toArray) os) (o':= .cells (cB fS l' T) e (0,0)) ⟨⟨rfl,rfl⟩,rfl,?_⟩ ?_ ?_:St m (.blk b (.cells (cB fS l' T) e (0,0))::own) _)
  .intro _;show w.drawn<=w.drawn+n;omega
  .show((w.heap.modify b (onCells (putCells encStr 0 (l'.map (·.data.toList)).toArray)))++os)[b]? =_
   rw[Array.getElem?_append_left (by simpa using v),Array.getElem?_modify,if_pos rfl,q]
   simp only[kW,onCells,d]
  intro j u c
  show((w.heap.modify b (onCells (putCells encStr 0 (l'.map (·.data.toList)).toArray)))++os)[j]? =_
  rw[Array.getElem?_append_left (by simpa using u),Array.getElem?_modify,if_neg (Ne.symm c)]
end
section
def isQ{α:Type}(o:Option α):Option Unit:=o.map fun _=>()
theorem MapQ.at{κ ν:Type}{ek:κ->Value}{c:Codec ν}{agg:Bool}{m:Mem}{q:Option Nat}{es:Array MapEntry}{ck:Nat}{o:Option (List (κ×ν))}(h:MapQ ek c agg m q es ck o){u:Unit}(a:isQ o=some u):∃b,q=some b:=by
 cases q with
 |none=>
  have h:o=none:=h
  subst h
  cases a
 |some b=>exact⟨b,rfl⟩
section
variable {P:Program} {n:Fr} {ops:Array Oper} {Q:Exit->Act->World->Prop} {L:bL} {w:World} {ch:List PanicEntry}
theorem bU{K:Act->World->Prop}(h:X n Q (.panic ch) L w):X n (Exit.then K Q) (.panic ch) L w:=h
theorem iV{id:Nat}(h:X n Q (.panic ch) L w):X n (Exit.inBlock id Q) (.panic ch) L w:=h
theorem cP{k:Nat}{fn:Func}{R:Ending->World->Prop}(h:R (.panicked ch) w):X ⟨k,[]⟩ (bodyPost P fn R) (.panic ch) L w:=fun _ a=>⟨a.2.1,h⟩
variable {N:bL->World->Prop}
theorem EA{i:Nat}(d f:Nat)(args:Array Value)(q:tT P ops L i=some (some d,f,args))(k:Nat.blt d n=true)
  (h:Calls P f args w fun e w'=>(∃v,e= .returned v/\N ((d,v)::L) w')\/∃ch,e= .panicked ch/\X n Q (.panic ch) L w'):dZ P n ops Q i N L w:=by
 obtain⟨o,c,g,r,p,l⟩:=WF q
 intro a b
 unfold nZ
 simp only[c,b.wanted r,jJ]
 rw[b.exec p,AN l w,Oper.uponIn_enter]
 refine⟨fun e=>by simp[Fence.wide] at e,CallsIn.mono (callsIn_wide.2 h) ?_⟩
 rintro e w' (⟨v,rfl,hk'⟩|⟨ch,rfl,hk'⟩)
 .rw[g];exact⟨_,b.put k v,hk'⟩
 exact hk' _ b
theorem qNb{i:Nat}{x:Operand}{T:TypeId}{v:Value}(k:cD ops L i=some (none,.panic x))(l:bM L x=some (.iface T v))
  (h:X n Q (.panic [{v:= .iface T v,recovered:=false}]) L w):dZ P n ops Q i N L w:=by
 obtain⟨o,d,p,e,f,g⟩:=DK k
 intro a b
 unfold nZ
 simp only[d,b.wanted f,jJ]
 rw[b.exec g]
 have c:(execOp (mS L) o).run P w= .halt (.panic (.iface T v)) w:=by
  simp[execOp,e,bV l,Instr.panic]
 rw[c]
 exact h _ b
end
section
variable {P:Program} {n:Fr} {ops:Array Oper} {Q:Exit->Act->World->Prop} {L:bL} {w:World} {i:Nat}
theorem qPt{f:FuncId}{fn:Func}{c:Code}{args:Array Value}{R:Ending->World->Prop}(e:P.funcs[f]? =some fn)(d:fn.body=some c){k:Nat}(g:fn.ntmps=k)(L:bL)
  (b:L.map (fun p=>(args[p.1]?))=L.map fun p=>some p.2) (a:Nat.ble args.size k=true) (h:W none P ⟨k,[]⟩ c (bodyPostD P fn R) L w):Calls P f args w R:=by
 refine calls_of_wp_defers e d (wpIn_wide.1 (h _ ⟨?_,rfl,?_⟩))
 .subst g
  have:args.size<=fn.ntmps:=gJ a
  simp only[dR,Array.size_replicate];omega
 intro t v n
 have:=(hB.1 b) (t,v) (xQ n)
 have l:t<args.size:=(Array.getElem?_eq_some_iff.1 this).1
 simp only[Array.getElem?_append,l,jJ]
 exact this
def RP(P:Program)(ops:Array Oper)(L:bL)(i:Nat):Option (Option Nat×Deferred):=
 match ops[i]? with
 |none=>none
 |some o=>match nT ops L o.guard with
  |some true=>bif oS L o.op then(match rC P (execOp (mS L) o) with
   |some (.defer d)=>some (o.dst,d)
   |_=>none) else none
  |_=>none
theorem qIv{d:Option Nat}{x:Deferred}(h:RP P ops L i=some (d,x)):
  ∃o,ops[i]? =some o/\o.dst=d/\nT ops L o.guard=some true/\oS L o.op=true/\rC P (execOp (mS L) o)=some (.defer x):=by
 unfold RP at h
 cases e:ops[i]? with
 |none=>simp[e] at h
 |some o=>
  simp only[e] at h
  cases a:nT ops L o.guard with
  |none=>simp[a] at h
  |some b=>
   cases b with
   |false=>simp[a] at h
   |true=>
    simp only[a] at h
    cases c:oS L o.op with
    |false=>simp[c] at h
    |true=>
     simp only[c,cond_true] at h
     split at h
     .rename_i f' he
      simp only[jM,Prod.mk.injEq] at h
      obtain⟨f,rfl⟩:=h
      exact⟨o,rfl,f,a,c,he⟩
     cases h
theorem qNn(x:Deferred)(hi:Nat.blt i ops.size=true)(g:RP P ops L i=some (none,x))(h:WO P ⟨n.sz,x::n.marks⟩ ops Q (i+1) L w):WO P n ops Q i L w:=by
 obtain⟨o,c,d,k,f,e⟩:=qIv g
 intro a b
 rw[HI c,yK]
 unfold nZ
 simp only[c,b.wanted k,jJ]
 rw[b.exec f,AN e w,Oper.uponIn_defer,d]
 exact h _ ⟨b.1,congrArg (x:: ·) b.2.1,b.2.2⟩
def noP(Q:Exit->Act->World->Prop):Exit->Act->World->Prop
 | .panic _,_,_=>False
 |e,a,w=>Q e a w
theorem MN{ρ:Option Nat}{y:Code}{Q':Exit->Act->World->Prop}(h:W ρ P n y Q L w):X n (Exit.then (fun a w=>y.wpIn (nY ρ) 0 P Q a w) Q') .normal L w:=h
theorem qMn(h:X n Q .ret L w):X n (noP Q) .ret L w:=h
theorem MV{ρ:Option Nat}{x y:Code}(h:W ρ P n x (Exit.then (fun a w=>y.wpIn (nY ρ) 0 P Q a w) (noP Q)) L w):W ρ P n (.seq x y) Q L w:=fun a d=>by
 refine wpIn_seq (wpIn_mono (h a d) ?_)
 intro e a' w' b
 cases e with
 |panic c=>exact b.elim
 |_=>exact b
theorem qSs{k:Nat}{fn:Func}{R:Ending->World->Prop}(rvs:List ResultVar)(vs:List Value)(e:fn.results=rvs.toArray)(f:ResAll P w L rvs vs)(h:R (.returned (wE vs)) w):X ⟨k,[]⟩ (bodyPostD P fn R) .ret L w:=by
 intro a d
 obtain⟨b,c⟩:=AW (P:=P) (fn:=fn) (R:=R) rvs vs e f h a d
 show Leaves P fn a.tmps R a.defers .returning w
 rw[b]
 exact c
theorem qTl{k g:Nat}{cap:Array Value}{fn:Func}{R:Ending->World->Prop}(rvs:List ResultVar)(d:fn.results=rvs.toArray)(l:∀args w,(callFunc g args).run P w= .ok (.enter g args) w)
  (h:CallsD P g (#[]++cap) .returning w fun e u w'=>u= .returning/\∃v,e= .returned v/\∃vs,ResAll P w' L rvs vs/\R (.returned (wE vs)) w'):
  X ⟨k,[{target:= .fn (.func g) cap,args:= #[]}]⟩ (bodyPostD P fn R) .ret L w:=by
 intro a b
 show Leaves P fn a.tmps R a.defers .returning w
 rw[b.2.1]
 refine leaves_cons (by simp) (f:=g) (args:= #[]++cap) (by simp only[invoke];exact l _ _) (h.mono ?_)
 rintro e u w' ⟨rfl,v,rfl,vs,n,c⟩
 obtain⟨_,v',o,hR'⟩:=AW (P:=P) (k:=a.tmps.size) (fn:=fn) (R:=R) rvs vs d n c {a with defers:=[]} ⟨rfl,rfl,b.2.2⟩
 exact⟨v',o,hR'⟩
theorem qTd{k g:Nat}{cap:Array Value}{fn:Func}{z:Value}{R:Ending->World->Prop}(rvs:List ResultVar)(d:fn.results=rvs.toArray)(l:∀args w,(callFunc g args).run P w= .ok (.enter g args) w)
  (h:CallsD P g (#[]++cap) (.panicking [{v:=z,recovered:=false}]) w fun e u w'=>u= .panicking [{v:=z,recovered:=true}]/\∃v,e= .returned v/\∃vs,ResAll P w' L rvs vs/\R (.returned (wE vs)) w'):
  X ⟨k,[{target:= .fn (.func g) cap,args:= #[]}]⟩ (bodyPostD P fn R) (.panic [{v:=z,recovered:=false}]) L w:=by
 intro a b
 show Leaves P fn a.tmps R a.defers (.panicking [{v:=z,recovered:=false}]) w
 rw[b.2.1]
 refine leaves_cons (by simp) (f:=g) (args:= #[]++cap) (by simp only[invoke];exact l _ _) (h.mono ?_)
 rintro e u w' ⟨rfl,v,rfl,vs,n,c⟩
 obtain⟨_,v',o,hR'⟩:=AW (P:=P) (k:=a.tmps.size) (fn:=fn) (R:=R) rvs vs d n c {a with defers:=[]} ⟨rfl,rfl,b.2.2⟩
 exact⟨v',o,hR'⟩
def TN(P:Program)(ops:Array Oper)(L:bL)(i:Nat):Option Nat:=
 match ops[i]? with
 |none=>none
 |some o=>match nT ops L o.guard with
  |some true=>bif oS L o.op then(match rC P (execOp (mS L) o) with
   |some .recover=>o.dst
   |_=>none) else none
  |_=>none
theorem qKm{d:Nat}(h:TN P ops L i=some d):
  ∃o,ops[i]? =some o/\o.dst=some d/\nT ops L o.guard=some true/\oS L o.op=true/\rC P (execOp (mS L) o)=some .recover:=by
 unfold TN at h
 cases e:ops[i]? with
 |none=>simp[e] at h
 |some o=>
  simp only[e] at h
  cases a:nT ops L o.guard with
  |none=>simp[a] at h
  |some b=>
   cases b with
   |false=>simp[a] at h
   |true=>
    simp only[a] at h
    cases c:oS L o.op with
    |false=>simp[c] at h
    |true=>
     simp only[c,cond_true] at h
     split at h
     .rename_i he;exact⟨o,rfl,h,a,c,he⟩
     cases h
theorem QU{QS:Exit->Act->List Frame->World->Prop}{cs:List Frame}:∀(k i:Nat) (L L':bL) (w:World),sJ P n ops k i L=some L'->
  (∀a,Fits n a L'->wpOpsS P ops QS (List.range' (i+k) (ops.size-(i+k))) a cs w)->∀a,Fits n a L->wpOpsS P ops QS (List.range' i (ops.size-i)) a cs w
 |0,i,L,L',w,h,g=>by simp[sJ] at h;subst h;exact g
 |k+1,i,L,L',w,h,g=>by
  intro a f
  simp only[sJ] at h
  cases l:ops[i]? with
  |none=>simp[l] at h
  |some o=>
   simp only[l] at h
   rw[HI l]
   simp only[wpOpsS,l]
   cases q:nT ops L o.guard with
   |none=>simp[q] at h
   |some b=>
    have c:=f.wanted q
    cases b with
    |false=>
     simp only[q] at h
     obtain⟨L1,r,s⟩:=jS.1 h
     simp only[c,jB,jF]
     exact QU k (i+1) L1 L' w s (by rw[gI,hK 1 k];exact g) _ (f.putL r)
    |true=>
     simp only[q] at h
     cases e:oS L o.op with
     |false=>simp[e] at h
     |true=>
      simp only[e,cond_true] at h
      obtain⟨v,p,h⟩:=jS.1 h
      obtain⟨L1,r,s⟩:=jS.1 h
      simp only[c,jJ]
      have next:=QU k (i+1) L1 L' w s (by rw[gI,hK 1 k];exact g) _ (f.putL r)
      rw[f.exec e]
      cases d:rC P (execOp (mS L) o) with
      |none=>simp[d,JX] at p
      |some nx=>
       rw[AN d w]
       cases nx<;>simp[d,JX] at p
       case value u=>subst p;exact next
       case skip=>subst p;exact next
theorem qNh{fn:Func}{args:Array Value}{k:Nat}(c:fn.ntmps=k)(b:L.map (fun p=>(args[p.1]?))=L.map fun p=>some p.2)(a:Nat.ble args.size k=true):
  Fits ⟨k,[]⟩ {tmps:=args++Array.replicate (fn.ntmps-args.size) undef,defers:=[]} L:=by
 refine⟨?_,rfl,?_⟩
 .subst c
  have:args.size<=fn.ntmps:=gJ a
  simp only[dR,Array.size_replicate];omega
 intro t v e
 have:=(hB.1 b) (t,v) (xQ e)
 have d:t<args.size:=(Array.getElem?_eq_some_iff.1 this).1
 simp only[Array.getElem?_append,d,jJ]
 exact this
def JA:FrameMode->Value×FrameMode
 | .panicking ({v,recovered:=false,goexit:=false}::older)=>(v,.panicking ({v,recovered:=true}::older))
 |u=>(.nilIface,u)
theorem XI{g:FuncId}{fn:Func}{id:Nat}{rest:Code}{args:Array Value}{R:Ending->World->Prop}(u:FrameMode)(H:P.funcs[g]? =some fn)(F:fn.body=some (.seq (.region id ops false) rest)){k:Nat}(M:fn.ntmps=k)(L:bL)
  (E:L.map (fun p=>(args[p.1]?))=L.map fun p=>some p.2) (A:Nat.ble args.size k=true) {d:Nat} (S:TN P ops L 0=some d) (z:Nat.blt d k=true) (L':bL) (v:Value) (u':FrameMode) (hu':JA u=(v,u'))
  (U:sJ P k ops (ops.size-1) 1 ((d,v)::L)=some L')
  (h:W none P ⟨k,[]⟩ rest (bodyPost P fn R) L' w):CallsD P g args u w fun e b w'=>b=u'/\R e w':=by
 refine callsD_of_wpS H F fun c₀ cs V=> ?_
 apply wpS_seq
 apply wpS_region
 have f:Fits ⟨k,[]⟩ _ L:=qNh M E A
 revert f
 generalize ({tmps:=args++Array.replicate (fn.ntmps-args.size) undef,defers:=[]}:Act)=a
 intro f
 obtain⟨o,t,x,Y,K,G⟩:=qKm S
 have D:List.range ops.size=List.range' 0 (ops.size-0):=by rw[List.range_eq_range',Nat.sub_zero]
 rw[D,HI t]
 simp only[wpOpsS,t,f.wanted Y,jJ]
 rw[f.exec K,AN G w]
 have c:∀cs',(∃b,b=u'/\cs'={c₀ with mode:=b}::cs)->∀a,Fits ⟨k,[]⟩ a ((d,v)::L)->wpOpsS P ops (Exit.thenS (rest.wpS P (bodyPostS P fn c₀ cs fun e b w'=>b=u'/\R e w')) (bodyPostS P fn c₀ cs fun e b w'=>b=u'/\R e w')) (List.range' (0+1) (ops.size-(0+1))) a cs' w:=by
  rintro cs' ⟨b,rfl,rfl⟩
  refine QU _ 1 _ _ w U ?_
  intro B y
  have:ops.size-(1+(ops.size-1))=0:=by omega
  rw[this]
  simp only[List.range'_zero,wpOpsS,Exit.thenS]
  refine wpS_of_wp (wpIn_wide.1 (wpIn_mono (h B y) ?_))
  intro e Z w2 l
  cases e with
  |normal=>obtain⟨n,q,r,s⟩:=l;exact⟨n,_,rfl,q,r,rfl,s⟩
  |ret=>obtain⟨n,q,r,s⟩:=l;exact⟨n,_,rfl,q,r,rfl,s⟩
  |panic ch=>obtain⟨n,q⟩:=l;exact⟨n,_,rfl,rfl,q⟩
  |outgrown=>exact⟨_,rfl,l⟩
  |exit _=>exact l.elim
  |goto _=>exact l.elim
 subst V
 have key:recoverD (c₀::cs)=(match JA c₀.mode with|(v,b)=>match c₀.mode with
   | .panicking ({v:=_,recovered:=false,goexit:=false}::_)=>some (v,{c₀ with mode:=b}::cs)
   |_=>none):=by
  unfold recoverD JA
  dsimp only
  split<;>simp_all
 rw[key,hu']
 dsimp only
 split
 .rename_i v1 cs1 hm
  split at hm
  .obtain⟨rfl,rfl⟩:=Prod.mk.inj (jG hm)
   rw[x]
   exact c _ ⟨_,rfl,rfl⟩ _ (f.put z v)
  cases hm
 rename_i hm
 have l:JA c₀.mode=(.nilIface,c₀.mode):=by
  unfold JA
  split
  .rename_i hc;rw[hc] at hm;cases hm
  rfl
 rw[l] at hu'
 obtain⟨rfl,rfl⟩:=Prod.mk.inj hu'
 rw[x]
 exact c _ ⟨_,rfl,by cases c₀;rfl⟩ _ (f.put z _)
end
def cE(s:Bool)(b:Nat):Option Addr:=if s then some ⟨b,0,none⟩ else none
theorem pC(s:Bool)(b:Nat){q:Prop}(h:q):(cE s b=none/\q)\/cE s b=some ⟨b,0,none⟩:=by
 cases s
 .exact .inl ⟨rfl,h⟩
 exact .inr rfl
section
variable {P:Program} {n:Fr} {ops:Array Oper} {Q:Exit->Act->World->Prop} {i d:Nat} {L:bL} {w:World} {m:Mem} {own:List Piece} {N:bL->World->Prop}
theorem QQ{b:Nat}{c:Array Value}{e:TypeId}{f:Nat×Nat}(a:w.heap[b]? =some (.cells c e f)):w.shape? b=some (e,c.size):=by
 simp[World.shape?,a]
theorem qIy{src dst t:TypeId}{x:Operand}{b:Nat}{c:Array Value}{e:TypeId}{f:Nat×Nat}(l:cD ops L i=some (some d,.convert src dst x))(k:Nat.blt d n=true)
  (v:bM L x=some (.pointer (some ⟨b,0,none⟩))) (o:Piece.holds m w (.blk b (.cells c e f))) (s:P.underlying src=some (.pointer t)) (u:P.underlying dst=some .unsafePointer) (a:((P.info? t).map fun j=>Nat.blt 0 j.size)=some true) (g:Nat.blt 0 c.size=true)
  (h:N ((d,.pointer (some ⟨b,0,none⟩))::L) w):dZ P n ops Q i N L w:=by
 refine mB l k (fun q p=> ?_) h
 cases hi:P.info? t with
 |none=>simp[hi] at a
 |some j=>
  simp only[hi,kW,jM] at a
  rw[Nat.blt_eq] at a g
  have r:=Lib.run_to_unsafe (P:=P) (w:=w) (src:=src) (dst:=dst) ⟨b,0,none⟩ s u hi (by omega) (QQ o.1) g
  simp[execOp,p,bV v,r]
theorem qHt{src dst u:TypeId}{x:Operand}{b:Nat}{c:Array Value}{e:TypeId}{f:Nat×Nat}(l:cD ops L i=some (some d,.convert src dst x))(a:Nat.blt d n=true)
  (v:bM L x=some (.pointer (some ⟨b,0,none⟩))) (o:Piece.holds m w (.blk b (.cells c e f))) (s:P.underlying src=some .unsafePointer) (t:P.underlying dst=some (.pointer u)) (g:(P.info? u).isSome=true) (k:liesAt P P.depth e (c.size/P.cellsOf e) 0 u 1=true)
  (h:N ((d,.pointer (some ⟨b,0,none⟩))::L) w):dZ P n ops Q i N L w:=by
 refine mB l a (fun q p=> ?_) h
 obtain⟨j,hi⟩:=Option.isSome_iff_exists.1 g
 have r:=Lib.run_from_unsafe (P:=P) (w:=w) (src:=src) (dst:=dst) ⟨b,0,none⟩ s t hi (QQ o.1) k
 simp[execOp,p,bV v,r]
theorem qIw{f:FuncId}{fn:Func}{x:Operand}{ts:Array TypeId}{v:Value}(g:cD ops L i=some (some d,.call {callee:= .value (.func f),args:= #[x],argTypes:=ts}))(c:Nat.blt d n=true)
  (k : bM L x = some v) (e : P.funcs[f]? = some fn) (a : (fn.name == "runtime.NumGoroutine", fn.body.isNone, (Extern.findNext fn).isNone) = (false, true, true)) (b : Extern.find fn = some Extern.AbiNoEscape.same)
  (h:N ((d,v)::L) w):dZ P n ops Q i N L w:=
 PH [v] _ g c (by simp[bV k]) e a b (by rfl) h
theorem qJp{t t2 r:TypeId}{x y:Operand}{a:Addr}(e:cD ops L i=some (some d,.binOp .neq t x y t2))(c:Nat.blt d n=true)(l:bM L x=some (.pointer (some a)))(o:bM L y=some (.pointer (some a)))
  (k:P.underlying t=some (.pointer r)) (b:((P.info? r).map fun j=>Nat.blt 0 j.size)=some true) (h:N ((d,.bool false)::L) w):dZ P n ops Q i N L w:=by
 refine mB e c (fun q f=> ?_) h
 cases hi:P.info? r with
 |none=>simp[hi] at b
 |some j=>
  simp only[hi,kW,jM] at b
  rw[Nat.blt_eq] at b
  have g:=Lib.run_neq_ptr_same (P:=P) w a k hi
  simp[execOp,f,bV l,bV o,g,eqGuard]
def IZ{α:Type}:List α->Option Unit
 |[]=>none
 |_::_=>some ()
theorem qBu{α:Type}{l:List α}{u:Unit}(h:IZ l=some u):l≠[]:=by
 cases l with
 |nil=>cases h
 |cons a l=>simp
theorem RepS.some_of{α:Type}{c:Codec α}{a:Option Addr}{cap:Nat}{l:List α}(h:RepS c m a cap l)(b:l≠[]):∃p,a=some p/\cap≠0:=by
 have d:0<l.length:=fE.2 b
 have e:=h.1
 cases a with
 |none=>obtain⟨rfl,-⟩:=h.none_nil;exact absurd rfl b
 |some p=>exact⟨p,rfl,by omega⟩
theorem VI{α:Type}{c:Codec α}{t:TypeId}{x:Operand}{a:Option Addr}{cap:Nat}{l:List α}(q:cD ops L i=some (some d,.call {callee:= .builtin .unsafeSliceData,args:= #[x],argTypes:= #[t]}))(g:Nat.blt d n=true)
  (s:bM L x=some (.slice a l.length cap)) (r:RepS c m a cap l) (k:l≠[]) (h:N ((d,.pointer a)::L) w):dZ P n ops Q i N L w:=by
 obtain⟨p,rfl,e⟩:=r.some_of k
 refine AF (v:=undef) (w':=w) q g (fun o f=> ?_)
 refine⟨_,w,?_,h⟩
 have b:=Lib.run_unsafeSliceData_row (P:=P) (w:=w) #[t] o.type p l.length cap e
 simp[execOp,f,resolve,invoke,builtin,bV s,b]
theorem St.freezeB{g n' cap e sz k:Nat}(h:St m (.room (some ⟨g,0,none⟩) n' cap e sz::own) w):St m own (w.freeze ⟨g,0,none⟩ k):=by
 have d:=h.tail
 obtain⟨-,-,-,-,⟨cur,n,-⟩,-,l⟩:=h.head
 have y:=h.head_ne (b:=g) rfl
 by_cases hk0:k=0
 .subst hk0;exact d
 have t:(w.freeze ⟨g,0,none⟩ k).heap=w.heap.modify g fun x=>match x with
   | .cells c elem (lo,hi)=> .cells c elem (if lo==hi then(0,0+k) else(min lo 0,max hi (0+k)))
   |o=>o:=by unfold World.freeze;rw[if_neg hk0];rfl
 have r:∀b,b≠g->(w.freeze ⟨g,0,none⟩ k).heap[b]? =w.heap[b]? :=fun b a=>by rw[t,Array.getElem?_modify,if_neg (fun h=>a h.symm)]
 have A:Step m.wd (w.freeze ⟨g,0,none⟩ k):=by
  have:=d.1.2.2
  unfold World.freeze
  rw[if_neg hk0]
  exact this
 refine⟨⟨fun b o v B=> ?_,fun b x s=> ?_,A⟩,fun p z=>Piece.holds_keep (d.2.1 p z) fun b a=>r b fun e=>y (by subst e;exact DJ.2 ⟨p,z,a⟩),d.2.2⟩
 .obtain⟨c,e',f,q,u⟩:=d.1.1 b o v B
  by_cases a:b=g
  .subst a
   have n:w.heap[b]? =some (.cells cur e (0,0)):=n
   rw[n] at q
   cases q
   refine⟨cur,e,(if(0:Nat)==0 then(0,0+k) else(min 0 0,max 0 (0+k))),?_,u⟩
   rw[t,Array.getElem?_modify,if_pos rfl,n];rfl
  exact⟨c,e',f,by rw[r b a];exact q,u⟩
 by_cases a:b=g
 .subst a;have l:m.obj b=none:=l;rw[l] at s;cases s
 rw[r b a];exact d.1.2.1 b x s
theorem US{pt it e:TypeId}{x y:Operand}{a:Option Addr}{cap:Nat}{l:List UInt8}(H:cD ops L i=some (some d,.call {callee:= .builtin .unsafeString,args:= #[x,y],argTypes:= #[pt,it]}))(F:Nat.blt d n=true)
  (M:bM L x=some (.pointer a)) (R:bM L y=some (.int .i64 (l.length:Int))) (b:St m (.room a l.length cap e 1::own) w) (c:RepS mM m a cap l) (q:l≠[]) (K:P.underlying pt=some (.pointer e)) (E:P.cellsOf e=1)
  (h:∀w',St m own w'->N ((d,.string (iL l))::L) w'):dZ P n ops Q i N L w:=by
 obtain⟨p,rfl,S⟩:=c.some_of q
 obtain⟨r,t,U,V,⟨cur,u,Y⟩,-,-⟩:=b.head
 obtain⟨g,o,s⟩:=p
 simp only at r t u
 subst r;subst t
 refine AF (v:=undef) (w':=w) H F (fun o A=> ?_)
 refine⟨_,w.freeze ⟨g,0,none⟩ l.length,?_,h _ b.freezeB⟩
 have k:=Lib.run_unsafeString_row (P:=P) (w:=w) pt it o.type e K E g cur.size (QQ u) l q (by omega) (by have:=c.1;have:=c.2.1;unfold maxLen at*;omega) (fun j x G=>by
  obtain⟨cs,f,z⟩:=c.2.2.2 j x G
  have f:cs=[.int .u8 x.toNat]:=f
  have B:=z 0 (.int .u8 x.toNat) (by rw[f];rfl)
  have D:=b.inv.cell B
  rw[tP]
  simpa[mM] using D)
 simp[execOp,A,resolve,invoke,builtin,bV M,bV R,k,iL]
end
end
section
open Go.Proofs
def oA(n:Int):BA:=⟨(Lib.itoa n).toArray⟩
def NJ(n:Int):Option BA:=if-9223372036854775808<=n/\n<=9223372036854775807 then some (oA n) else none
def qSz:Array Value:=(Lib.pow10Tab.map fun z=>Value.int .u64 z).toArray
theorem qRl:((1:Nat),qSz)∈TW:=jK.2 (congrArg (Prod.mk (1:Nat)) (by kernel_rfl))
theorem qLa {P : Program} {ρ : Go.Shelf.Ren} (L : LaysM.n171 P ρ) {m : Mem} {own : List Piece} {w : World} {n : Int} {r : BA} (l : P.globalNamed "internal/strconv.uint64pow10" = some (1 : Nat)) (st : St m own w) (h : NJ n = some r) :
  Calls P (ρ.f 171) #[.int .i64 n] w fun e w'=>∃(m':Mem),e= .returned (.string r)/\m.le m'/\St m' own w':=by
 unfold NJ at h
 split at h
 .rename_i a
  obtain rfl:=jG h
  have c : Lib.TabIs P w "internal/strconv.uint64pow10" .u64 Lib.pow10Tab := by
   obtain⟨t,f,d⟩:=m.ht _ qRl
   have g:=st.inv.2.1 _ _ d
   unfold Lib.TabIs World.var?
   rw[l]
   simp only[j0,g]
   rfl
  refine(Any.strconv_Itoa L n a.1 a.2 w c).mono fun e w' d=> ?_
  obtain⟨rfl,k,os,rfl⟩:=d
  refine⟨m,rfl,m.le_refl,st.grow ⟨⟨rfl,rfl⟩,rfl,fun _=>Nat.le_add_right _ _⟩ fun b a=> ?_⟩
  show(w.heap++os)[b]? =_
  rw[Array.getElem?_append_left a]
 cases h
def EM(l:List BA)(sep:BA):BA:=⟨(Lib.join (l.map (·.data.toList)) sep.data.toList).toArray⟩
def NM(l:List BA)(sep:BA):Option BA:=if 0<(EM l sep).size/\(EM l sep).size<=281474976710656/\l.length<=140737488355328 then some (EM l sep) else none
theorem qLj{P:Program}{ρ:Go.Shelf.Ren}(L:Go.Proofs.Lays.n156 P ρ)(X:Go.Proofs.Builder.Extra P ρ){m:Mem}{own:List Piece}{w:World}{a:Option Addr}{c:Nat}{l:List BA}{sep r:BA}(st:St m own w)(D:RepS aH m a c l)(n:2<=l.length)(h:NM l sep=some r):
  Calls P (ρ.f 156) #[.slice a l.length c,.string sep] w fun e w'=>∃(m':Mem),e= .returned (.string r)/\m.le m'/\St m' own w':=by
 unfold NM at h
 split at h
 .rename_i hb
  obtain rfl:=jG h
  obtain⟨B,G,y⟩:=D
  have v:(EM l sep).size=(Lib.join (l.map (·.data.toList)) sep.data.toList).length:=by simp[EM,ByteArray.size]
  rw[v] at hb
  cases a with
  |none=>
   have:c=0:=y
   omega
  |some p=>
   obtain⟨E,F⟩:=y
   have s:p.spot=none:=by
    rcases E with g|g
    .exact g
    rw[g] at n;cases n
   obtain⟨b,o,sp⟩:=p
   have s:sp=none:=s
   subst s
   have u:∀(j:Nat) x,l[j]? =some x->w.cell? ⟨b,o+j,none⟩=some (.string x):=fun j x A=>by
    obtain⟨cs,d,q⟩:=F j x A
    have d:cs=[.string x]:=d
    subst d
    have:=st.inv.cell (q 0 (.string x) rfl)
    simpa[aH] using this
   have t:b<w.heap.size:=by
    have:=u 0 l[0] (List.getElem?_eq_getElem (by omega))
    unfold World.cell? at this
    split at this
    .rename_i q
     exact sU q
    cases this
   refine(Any.strings_Join_many_big L X b o c l.toArray.toList sep w u t n hb.2.2 B hb.2.1 hb.1).mono fun e w' q=> ?_
   obtain⟨rfl,d⟩:=q
   exact⟨m,rfl,m.le_refl,st.grow ⟨⟨d.os,d.output⟩,d.tape,fun h=>by cases h⟩ fun k z=>d.block k z⟩
 cases h
end
section
abbrev V4:=Value×Value×Value×Value
def EP(x:V4):List Value:=[x.1,x.2.1,x.2.2.1,x.2.2.2]
def mk4(cs:List Value):V4:=(cs.getD 0 .nilIface,cs.getD 1 .nilIface,cs.getD 2 .nilIface,cs.getD 3 .nilIface)
theorem qSn:∀{cs:List Value},cs.length=4->EP (mk4 cs)=cs
 |[a,b,c,d],_=>rfl
def cRow:Codec V4 where
 sz:=4
 pos:=by decide
 rep:=fun _ x cs=>cs=EP x/\∀v∈cs,v.oneCell'=true
 len:=fun _ x cs h=>by rw[h.1];rfl
 one:=fun _ _ _ h=>h.2
 mono:=fun _ _ _ _ _ h=>h
def RowsR{α:Type}(c:Codec α)(m:Mem)(vs:List V4)(l:List α):Prop:=vs.length=l.length/\∀(i:Nat) x v,l[i]? =some x->vs[i]? =some v->c.rep m x (EP v)
theorem RowsR.mono{α:Type}{c:Codec α}{m m':Mem}{vs:List V4}{l:List α}(h:RowsR c m vs l)(a:m.le m'):RowsR c m' vs l:=⟨h.1,fun i x v b d=>c.mono _ _ _ _ a (h.2 i x v b d)⟩
theorem RowsR.idx{α:Type}{c:Codec α}{m:Mem}{vs:List V4}{l:List α}{ix:Int}{z:α}(h:RowsR c m vs l)(f:Dc.idx l ix=some z):∃v cs,Dc.idx vs ix=some v/\EP v=cs/\c.rep m z cs:=by
 obtain⟨b,d,e⟩:=xZ f
 have a:ix.toNat<vs.length:=by rw[h.1];exact e
 refine⟨vs[ix.toNat],_,?_,rfl,h.2 _ _ _ d (List.getElem?_eq_getElem a)⟩
 unfold Dc.idx
 rw[if_pos b]
 exact List.getElem?_eq_getElem a
theorem RowsR.set{α:Type}{c:Codec α}{m:Mem}{vs:List V4}{l:List α}(h:RowsR c m vs l)(i:Nat){u:α}{v:V4}(d:c.rep m u (EP v)):RowsR c m (vs.set i v) (l.set i u):=by
 refine⟨by rw[gW,gW,h.1],fun j x w a b=> ?_⟩
 rw[List.getElem?_set] at a b
 by_cases hj:i=j
 .subst hj
  rw[if_pos rfl] at a b
  split at a
  .split at b
   .cases a;cases b;exact d
   cases b
  cases a
 rw[if_neg hj] at a b
 exact h.2 j x w a b
theorem Gives.rows{P:Program}{α:Type}{c:Codec α}{m:Mem}{x:Value}{k:List α}(e:c.sz=4)(h:Gives P c m x k):∃vs,vs.length=k.length/\Gives P cRow m x vs/\RowsR c m vs k:=by
 obtain⟨cs,n,f⟩:=h
 have b:∀i y,k[i]? =some y->EP (mk4 ((cs.drop (i*c.sz)).take c.sz))=(cs.drop (i*c.sz)).take c.sz:=fun i y a=>qSn (by rw[c.len _ _ _ (f i y a),e])
 refine⟨(List.range k.length).map fun i=>mk4 ((cs.drop (i*c.sz)).take c.sz),by simp,⟨cs,fun w hi=> ?_,fun i y a=> ?_⟩,by simp,fun i x v g d=> ?_⟩
 .have:=n w hi
  rw[e] at this
  show JV P w 4 x _ cs
  simpa using this
 .simp only[List.getElem?_map] at a
  have hi:i<k.length:=by
   rcases fR i k.length with h|h
   .exact h
   rw[List.getElem?_eq_none (by simpa using h)] at a;cases a
  rw[List.getElem?_range hi] at a
  simp only[kW,jM] at a
  subst a
  have l:=List.getElem?_eq_getElem hi
  refine⟨?_,?_⟩
  .rw[b i _ l,e];rfl
  have:=c.one _ _ _ (f i _ l)
  rw[e] at this
  exact this
 simp only[List.getElem?_map] at d
 have hi:i<k.length:=(List.getElem?_eq_some_iff.1 g).1
 rw[List.getElem?_range hi] at d
 simp only[kW,jM] at d
 subst d
 rw[b i _ g]
 exact f i _ g
theorem RowsR.cut{α:Type}{c:Codec α}{m:Mem}{vs:List V4}{l r:List α}{hi:Int}(h:RowsR c m vs l)(a:tE l 0 hi=some r):∃vr,tE vs 0 hi=some vr/\RowsR c m vr r:=by
 unfold tE at a ⊢
 split at a
 .rename_i hc
  rw[if_pos (by rw[h.1];exact hc)]
  simp only[jM,Int.toNat_zero,kI] at a ⊢
  subst a
  refine⟨_,rfl,by rw[gK,gK,h.1],fun i x v b d=> ?_⟩
  rw[List.getElem?_take] at b d
  split at b
  .rename_i hi
   rw[if_pos hi] at d
   exact h.2 i x v b d
  cases b
 cases a
theorem RowsR.app{α:Type}{c:Codec α}{m:Mem}{vs vk:List V4}{l k r:List α}{by_:Nat}(h:RowsR c m vs l)(e:RowsR c m vk k)(a:cU by_ l k=some r):∃vr,cU by_ vs vk=some vr/\RowsR c m vr r:=by
 unfold cU at a ⊢
 split at a
 .rename_i hc
  rw[if_pos (by rw[h.1,e.1];exact hc)]
  simp only[jM] at a
  subst a
  refine⟨_,rfl,by rw[jA,jA,h.1,e.1],fun i x v b d=> ?_⟩
  rcases fR i l.length with hi|hi
  .rw[List.getElem?_append_left hi] at b
   rw[List.getElem?_append_left (by rw[h.1];exact hi)] at d
   exact h.2 i x v b d
  rw[List.getElem?_append_right hi] at b
  rw[List.getElem?_append_right (by rw[h.1];exact hi),h.1] at d
  exact e.2 _ x v b d
 cases a
theorem Mem.le.t{a b c:Mem}(h:a.le b)(k:b.le c):a.le c:=Mem.le_trans h k
theorem sI{α:Type}{a b:α}(h:some a=some b):a=b:=jG h
abbrev GoOn(K:Value->Prop):Ending->Prop
 | .returned v=>K v
 |_=>False
abbrev GoOnF(K:Value->Prop)(F:List PanicEntry->Prop):Ending->Prop
 | .returned v=>K v
 | .panicked ch=>F ch
 |_=>False
theorem GoOn.out{K:Value->Prop}{e:Ending}(h:GoOn K e):∃v,e= .returned v/\K v:=by
 cases e<;>first|exact⟨_,rfl,h⟩|exact h.elim
theorem GoOnF.out{K:Value->Prop}{F:List PanicEntry->Prop}{e:Ending}(h:GoOnF K F e):(∃v,e= .returned v/\K v)\/∃ch,e= .panicked ch/\F ch:=by
 cases e<;>first|exact .inl ⟨_,rfl,h⟩|exact .inr ⟨_,rfl,h⟩|exact h.elim
section
variable {ρ:Option Nat} {P:Program} {n:Fr} {ops:Array Oper} {Q:Exit->Act->World->Prop} {i:Nat} {L:bL} {w:World} {m:Mem} {own:List Piece} {N:bL->World->Prop}
theorem qRs{α β:Type}{f:Nat}{args:Array Value}{x:Option β}{k:β->Option α}{r:α}{T:β->Ending->World->Prop}(d:Nat)(o:x.bind k=some r)(c:∀y,x=some y->Calls P f args w (T y))
  (h:∀y,k y=some r->∀e w',T y e w'->GoOn (fun v=>N ((d,v)::L) w') e) (l:tT P ops L i=some (some d,f,args):=by kernel_rfl) (g:Nat.blt d n=true:=by exact rfl):dZ P n ops Q i N L w:=by
 obtain⟨y,a,b⟩:=jS.1 o
 exact eA d f args l g ((c y a).mono fun e w' p=>(h y b e w' p).out)
theorem mW{α β:Type}{f:Nat}{args:Array Value}{x:Option β}{k:β->Option α}{r:α}{T:β->Ending->World->Prop}(d:Nat)(o:x.bind k=some r)(c:∀y,x=some y->Calls P f args w (T y))
  (h:∀y,k y=some r->∀e w',T y e w'->∃v,e= .returned v/\N ((d,v)::L) w') (l:tT P ops L i=some (some d,f,args):=by kernel_rfl) (g:Nat.blt d n=true:=by exact rfl):dZ P n ops Q i N L w:=by
 obtain⟨y,a,b⟩:=jS.1 o
 exact eA d f args l g ((c y a).mono fun e w' p=>h y b e w' p)
theorem qTa{α β:Type}{f:Nat}{args:Array Value}{x:Option β}{k:β->Option α}{r:α}{T:β->Ending->World->Prop}(d:Nat)(g:x.bind k=some r)(a:∀y,x=some y->Calls P f args w (T y))
  (h:∀y,k y=some r->∀e w',T y e w'->GoOn (fun v=>WO P n ops Q (i+1) ((d,v)::L) w') e) (c:tT P ops L i=some (some d,f,args):=by kernel_rfl) (b:Nat.blt d n=true:=by exact rfl) (hi:Nat.blt i ops.size=true:=by exact rfl):WO P n ops Q i L w:=
 bA hi (qRs d g a h c b)
theorem qPo{α β:Type}{f:Nat}{args:Array Value}{x:Option β}{k:β->Option α}{r:α}{T:β->Ending->World->Prop}(d:Nat)(o:x.bind k=some r)(c:∀y,x=some y->Calls P f args w (T y))
  (h:∀y,k y=some r->∀e w',T y e w'->GoOnF (fun v=>N ((d,v)::L) w') (fun ch=>X n Q (.panic ch) L w') e) (l:tT P ops L i=some (some d,f,args):=by kernel_rfl) (g:Nat.blt d n=true:=by exact rfl):dZ P n ops Q i N L w:=by
 obtain⟨y,a,b⟩:=jS.1 o
 exact EA d f args l g ((c y a).mono fun e w' p=>(h y b e w' p).out)
theorem qQt{α β:Type}{f:Nat}{args:Array Value}{x:Option β}{k:β->Option α}{r:α}{T:β->Ending->World->Prop}(d:Nat)(g:x.bind k=some r)(a:∀y,x=some y->Calls P f args w (T y))
  (h:∀y,k y=some r->∀e w',T y e w'->GoOnF (fun v=>WO P n ops Q (i+1) ((d,v)::L) w') (fun ch=>X n Q (.panic ch) L w') e) (c:tT P ops L i=some (some d,f,args):=by kernel_rfl) (b:Nat.blt d n=true:=by exact rfl) (hi:Nat.blt i ops.size=true:=by exact rfl):WO P n ops Q i L w:=
 bA hi (qPo d g a h c b)
def ED:List Value->Nat->bL
 |[],_=>[]
 |v::l,k=>(k,v)::ED l (k+1)
theorem ZE:∀(l:List Value) (k:Nat) (pre:List Value),pre.length=k->(ED l k).map (fun p=>((pre++l).toArray[p.1]?))=(ED l k).map fun p=>some p.2
 |[],_,_,_=>rfl
 |v::l,k,pre,h=>by
  simp only[ED,kG]
  have a:=ZE l (k+1) (pre++[v]) (by simp[h])
  rw[show pre++[v]++l=pre++v::l by simp] at a
  rw[a]
  congr 1
  subst h
  simp
theorem bG{f:FuncId}{fn:Func}{c:Code}{args:Array Value}{R:Ending->World->Prop}{k:Nat}(d:P.funcs[f]? =some fn)(b:fn.body=some c)(e:fn.ntmps=k)(h:W none P ⟨k,[]⟩ c (bodyPost P fn R) (ED args.toList 0) w)
  (a:Nat.ble args.size k=true:=by exact rfl):Calls P f args w R:=
 SA d b e (ED args.toList 0) (by have:=ZE args.toList 0 [] rfl;simpa using this) a h
theorem aI{α:Type}{c:Operand}{x y:Code}{b:Bool}{A B:Option α}{r:α}(a:(if b=true then A else B)=some r)
  (f:b=true->A=some r->W ρ P n x Q L w) (e:b=false->B=some r->W ρ P n y Q L w) (d:bM L c=some (.bool b):=by kernel_rfl):W ρ P n (.cond c x y) Q L w:=
 tR b d (fun h=>f h (by rw[if_pos h] at a;exact a)) (fun h=>e h (by rw[if_neg (by rw[h];exact kC)] at a;exact a))
theorem aN{y:Code}(h:W ρ P n y Q L w)(hi:ops.size=i:=by exact rfl):WO P n ops (Exit.then (fun a w=>y.wpIn (nY ρ) 0 P Q a w) Q) i L w:=IX hi h
theorem aA(k:Nat)(new:bL)(h:WO P n ops Q (i+k) (new++L) w)(a:AQ P n ops k i L (new.map (·.1))=some (new.map fun p=>some p.2):=by kernel_rfl)
 (b:wC L new (eF ops k i)=true:=by kernel_rfl):WO P n ops Q i L w:=tS k new a b h
theorem bW{e:TypeId}{b:Nat}{c:Array Value}{f:Nat×Nat}(k d t x o:Nat)(v:Value)(q:Piece.holds m w (.blk b (.cells c e f)))(h:WO P n ops Q (i+k+1) ((d,v)::(x,.pointer (some ⟨b,o,none⟩))::L) w)
  (a:AQ P n ops k i L [x]=some [some (.pointer (some ⟨b,o,none⟩))]:=by kernel_rfl) (g:wC L [(x,.pointer (some ⟨b,o,none⟩))] (eF ops k i)=true:=by kernel_rfl)
  (p:cD ops ((x,.pointer (some ⟨b,o,none⟩))::L) (i+k)=some (some d,.load t (.tmp x)):=by kernel_rfl) (l:Nat.blt d n=true:=by exact rfl) (r:oM P t (c.toList.drop o)=some v:=by kernel_rfl) (hi:Nat.blt (i+k) ops.size=true:=by exact rfl):WO P n ops Q i L w:=
 tS k [(x,.pointer (some ⟨b,o,none⟩))] a g (bA hi (DB v p l (by simp[bM,look]) q r h))
theorem aF{y:Code}(k:Nat)(new:bL)(h:W ρ P n y Q (new++L) w)(b:AQ P n ops k i L (new.map (·.1))=some (new.map fun p=>some p.2):=by kernel_rfl)
 (c:wC L new (eF ops k i)=true:=by kernel_rfl) (hi:ops.size=i+k:=by exact rfl):WO P n ops (Exit.then (fun a w=>y.wpIn (nY ρ) 0 P Q a w) Q) i L w:=tS k new b c (IX hi h)
theorem iO{b:Nat}{cs:List Value}(d t x o:Nat)(v:Value)(a:St m own w)(f:MRow m b o cs)(h:WO P n ops Q (i+1) ((d,v)::L) w)
 (e:cD ops L i=some (some d,.load t (.tmp x)):=by kernel_rfl) (c:Nat.blt d n=true:=by exact rfl) (k:bM L (.tmp x)=some (.pointer (some ⟨b,o,none⟩)):=by kernel_rfl) (g:oM P t cs=some v:=by kernel_rfl)
 (hi:Nat.blt i ops.size=true:=by exact rfl):WO P n ops Q i L w:=bA hi (VP v e c k a f g h)
theorem aO{k:Nat}{fn:Func}{R:Ending->World->Prop}(ts:List Nat)(vs:List Value)(h:R (.returned (wE vs)) w)(b:fn.results=(ts.map ResultVar.tmp).toArray:=by exact rfl)(a:ts.map (look L)=vs.map some:=by kernel_rfl):X ⟨k,[]⟩ (bodyPost P fn R) .ret L w:=by
 refine AW (ts.map .tmp) vs b ?_ h
 clear b h
 induction ts generalizing vs with
 |nil=>cases vs with
  |nil=>rfl
  |cons v vs=>cases a
 |cons t ts c=>cases vs with
  |nil=>cases a
  |cons v vs=>
   rw[kG,kG,gF] at a
   exact ResAll.cons (ResAt.tmp a.1) (c vs a.2)
instance opTmp(k:Nat):OfNat Operand k:=⟨.tmp k⟩
theorem qTz{e:TypeId}{b:Nat}{c:Array Value}{f:Nat×Nat}(d t:Nat)(x:Operand)(o:Nat)(v:Value)(k:Piece.holds m w (.blk b (.cells c e f)))(h:N ((d,v)::L) w)
 (g:cD ops L i=some (some d,.load t x):=by kernel_rfl) (a:Nat.blt d n=true:=by exact rfl) (p:bM L x=some (.pointer (some ⟨b,o,none⟩)):=by kernel_rfl) (l:oM P t (c.toList.drop o)=some v:=by kernel_rfl):dZ P n ops Q i N L w:=DB v g a p k l h
theorem IM{e:TypeId}{b:Nat}{c:Array Value}(t:Nat)(x y:Operand)(o:Nat)(v:Value)(c':Array Value)(d:St m (.blk b (.cells c e (0,0))::own) w)(h:∀w',St m (.blk b (.cells c' e (0,0))::own) w'->N L w')
 (f:cD ops L i=some (none,.store t x y):=by kernel_rfl) (g:bM L x=some (.pointer (some ⟨b,o,none⟩)):=by kernel_rfl) (k:bM L y=some v:=by kernel_rfl) (a:xR P t v o c.size=true:=by kernel_rfl)
 (hc':(c.toList.take o++v.cells.toList++c.toList.drop (o+v.cells.toList.length)).toArray=c':=by kernel_rfl):dZ P n ops Q i N L w:=LN f g k d a hc' h
theorem wG{e:TypeId}{b:Nat}{c:Array Value}(t:Nat)(x y:Operand)(v:Value)(d:St m (.blk b (.cells c e (0,0))::own) w)(h:∀w',St m (.blk b (.cells v.cells e (0,0))::own) w'->N L w')
 (f:cD ops L i=some (none,.store t x y):=by kernel_rfl) (g:bM L x=some (.pointer (some ⟨b,0,none⟩)):=by kernel_rfl) (k:bM L y=some v:=by kernel_rfl) (a:xR P t v 0 c.size=true:=by kernel_rfl)
 (hc':(c.toList.take 0++v.cells.toList++c.toList.drop (0+v.cells.toList.length)).toArray=v.cells:=by kernel_rfl):dZ P n ops Q i N L w:=LN f g k d a hc' h
theorem yA(d e:Nat)(x:Operand)(v:Value)(a:St m own w)(h:∀b w',St m (.blk b (.cells v.cells e (0,0))::own) w'->N ((d,.pointer (some ⟨b,0,none⟩))::L) w')
 (f:cD ops L i=some (some d,.box e x):=by kernel_rfl) (c:Nat.blt d n=true:=by exact rfl) (g:bM L x=some v:=by kernel_rfl):dZ P n ops Q i N L w:=WK v f c g a h
theorem xE{e:Exit}{L':bL}(h:X n Q e L' w)(a:L'.map (fun p=>look L p.1)=L'.map fun p=>some p.2:=by kernel_rfl):X n Q e L w:=vA L' a h
theorem iA{m':Mem}{p:Prop}(st:St m' own w)(h:m.le m'):p\/Inv m w/\True:= .inr ⟨Inv.anti st.inv h,trivial⟩
theorem DT{α β:Type}{c:Codec α}{a:Option Addr}{cap:Nat}{l k:List α}{v:Value}{f:List α->Option β}{r:β}(d t u e by_:Nat)(x y:Operand)(g:St m (.room a l.length cap e c.sz::own) w)(D:yG P u e)(b:RepS c m a cap l)(s:Gives P c m v k)(B:(cU by_ l k).bind f=some r)
  (h:∀z,f z=some r->∀a' cap' m' w',m.le m'->St m' (.room a' (List.length z) cap' e c.sz::own) w'->RepS c m' a' cap' z->N ((d,.slice a' (List.length z) cap')::L) w')
  (A:cD ops L i=some (some d,.call {callee:= .builtin .append,args:= #[x,y],argTypes:= #[t,u]}):=by kernel_rfl) (q:Nat.blt d n=true:=by exact rfl) (E:bM L x=some (.slice a l.length cap):=by kernel_rfl) (F:bM L y=some v:=by kernel_rfl)
  (hi:xO P t=some (e,c.sz,by_,c.sz):=by kernel_rfl):dZ P n ops Q i N L w:=by
 obtain⟨z,o,p⟩:=aZ B;exact qLh c A q E F g hi D b s o (h z p)
theorem bN{α:Type}{b:Bool}{A B:Option α}{r:α}(t:Nat)(a:(if b=true then A else B)=some r)(e:b=true->A=some r->WO P n ops Q i ((t,.bool true)::L) w)(d:b=false->B=some r->WO P n ops Q i ((t,.bool false)::L) w)
  (c:look L t=some (.bool b):=by kernel_rfl):WO P n ops Q i L w:=by
 cases b with
 |true=>exact qCb true c rfl (e rfl (by rw[if_pos rfl] at a;exact a))
 |false=>exact qCb false c rfl (d rfl (by rw[if_neg kC] at a;exact a))
theorem tA{m':Mem}{p x:Prop}(st:St m' own w)(h:m.le m')(k:x):((p\/Inv m w/\True)/\True)/\x:=⟨⟨iA st h,trivial⟩,k⟩
class QC(Q:Exit->Act->World->Prop):Prop where
 out:QP Q
instance qc1{K:Act->World->Prop}[h:QC Q]:QC (Exit.then K Q):=⟨bY h.out⟩
instance qc2{id:Nat}[h:QC Q]:QC (Exit.inBlock id Q):=⟨eV h.out⟩
instance qc3{fn:Func}{R:Ending->World->Prop}:QC (bodyPost P fn R):=⟨mN⟩
instance qc4[h:QC Q]:QC (NH Q):=⟨h.out⟩
instance qc5{fn:Func}{R:Ending->World->Prop}:QC (qVp P fn R):=⟨fun _ _ _ _ _ h=>h⟩
instance qc6{l:Nat}{R:Ending->World->Prop}:QC (roundPost P l R):=⟨fun _ _ _ _ _ h=>h⟩
instance qc7{l:Nat}{body:Code}{R:Ending->World->Prop}:QC (qTm P l body R):=⟨fun _ _ _ _ _ h=>h⟩
instance qc8:QC (noP Q):=⟨fun _ _ _ _ _ h=>h⟩
variable [hq:QC Q] {ks:List (Nat×(World->Prop))} {k fuel:Nat} {S:World->Prop} {done:List Nat}
theorem aR(i d:Nat)(v:Value)(a:(k,S)∈ks)(h:WA P n ops Q ks fuel (done++[i]) ((d,v)::L) w)(c:SY P ops L i=some (d,v):=by kernel_rfl)(b:Nat.blt d n=true:=by exact rfl)(e:pQ ops ks k i done=true:=by kernel_rfl):WA P n ops Q ks (fuel+1) done L w:=
 qQy i d v c b e a hq.out h
theorem lQ(i d:Nat)(a:(k,S)∈ks)(h:WA P n ops Q ks fuel (done++[i]) ((d,undef)::L) w)(e:((ops[i]?).bind fun o=>(nT ops L o.guard).map fun b=>(o.dst,b))=some (some d,false):=by kernel_rfl)(c:Nat.blt d n=true:=by exact rfl)
 (f:pQ ops ks k i done=true:=by kernel_rfl):WA P n ops Q ks (fuel+1) done L w:=qUj i d e c f a hq.out h
theorem eR{e:Nat}{b:Nat}{c:Array Value}{f:Nat×Nat}(t':Nat)(x:Operand)(i d o:Nat)(v:Value)(a:(k,S)∈ks)(g:∀w,S w->Piece.holds m w (.blk b (.cells c e f)))(h:WA P n ops Q ks fuel (done++[i]) ((d,v)::L) w)
  (p:cD ops L i=some (some d,.load t' x):=by kernel_rfl) (l:Nat.blt d n=true:=by exact rfl) (q:pQ ops ks k i done=true:=by kernel_rfl) (s:bM L x=some (.pointer (some ⟨b,o,none⟩)):=by kernel_rfl) (r:oM P t' (c.toList.drop o)=some v:=by kernel_rfl):WA P n ops Q ks (fuel+1) done L w:=
 qJe i d v p l q a hq.out g s r h
theorem lU{b:Nat}{cs:List Value}(t:Nat)(x:Operand)(i d o:Nat)(v:Value)(a:(k,S)∈ks)(c:∀w,S w->Inv m w)(g:MRow m b o cs)(h:WA P n ops Q ks fuel (done++[i]) ((d,v)::L) w)
  (f:cD ops L i=some (some d,.load t x):=by kernel_rfl) (e:Nat.blt d n=true:=by exact rfl) (l:pQ ops ks k i done=true:=by kernel_rfl) (q:bM L x=some (.pointer (some ⟨b,o,none⟩)):=by kernel_rfl) (p:oM P t cs=some v:=by kernel_rfl):WA P n ops Q ks (fuel+1) done L w:=
 qKf i d v f e l a hq.out c q g p h
theorem iY{α:Type}{k':BA->Option α}{r:α}{a b:BA}(t t2:Nat)(x y:Operand)(i d:Nat)(c:(k,S)∈ks)(o:(cA a b).bind k'=some r)(h:∀s,k' s=some r->WA P n ops Q ks fuel (done++[i]) ((d,.string s)::L) w)
  (l:cD ops L i=some (some d,.binOp .add t x y t2):=by kernel_rfl) (g:Nat.blt d n=true:=by exact rfl) (p:pQ ops ks k i done=true:=by kernel_rfl) (q:bM L x=some (.string a):=by kernel_rfl) (u:bM L y=some (.string b):=by kernel_rfl):WA P n ops Q ks (fuel+1) done L w:=by
 obtain⟨z,e,f⟩:=aZ o;exact qUg i d l g p c hq.out q u e (h z f)
end
class Enc{α:Type}(c:Codec α) where
 enc:α->List Value
 ok:∀m x,c.rep m x (enc x)
instance encStr:Enc aH:=⟨fun x=>[.string x],fun _ _=>rfl⟩
instance encInt{k:IntKind}:Enc (aT k):=⟨fun x=>[.int k x],fun _ _=>rfl⟩
instance encBool:Enc qVo:=⟨fun x=>[.bool x],fun _ _=>rfl⟩
instance encPair{α β:Type}{a:Codec α}{b:Codec β}[A:Enc a][B:Enc b]:Enc (tD a b):=⟨fun x=>A.enc x.1++B.enc x.2,fun m x=>⟨_,_,rfl,A.ok m x.1,B.ok m x.2⟩⟩
def TZ{α:Type}(c:Codec α)[E:Enc c]:List α->List Value
 |[]=>[]
 |x::l=>E.enc x++TZ c l
theorem qAk{α:Type}{c:Codec α}[E:Enc c]{m:Mem}:∀l:List α,RepAll c m l (TZ c l)
 |[]=>rfl
 |x::l=>⟨_,_,rfl,E.ok m x,qAk l⟩
section
variable {ρ:Option Nat} {P:Program} {n:Fr} {ops:Array Oper} {Q:Exit->Act->World->Prop} {i:Nat} {L:bL} {w:World} {m:Mem} {own:List Piece}
def qEz(P:Program)(ops:Array Oper)(L:bL)(i:Nat):Option (Nat×Nat×TypeId×List Value):=
 match cD ops L i with
 |some (some d,.buildSlice t len parts)=>(PD P t len (parts.map fun p=>(p.1,mS L p.2)).toList).map fun z=>(d,len,z)
 |_=>none
theorem iN{α:Type}(d e len:Nat)(c:Codec α)[E:Enc c](xs:List α)(k:St m own w)
  (h:∀b m' w',m.le m'->St m' (.room (some ⟨b,0,none⟩) xs.length len e c.sz::own) w'->RepS c m' (some ⟨b,0,none⟩) len xs->WO P n ops Q (i+1) ((d,.slice (some ⟨b,0,none⟩) xs.length len)::L) w')
  (a:qEz P ops L i=some (d,len,e,TZ c xs):=by kernel_rfl) (l:Nat.blt d n=true:=by exact rfl) (f:len=xs.length:=by exact rfl) (g:Nat.ble len maxLen=true:=by exact rfl) (hi:Nat.blt i ops.size=true:=by exact rfl):WO P n ops Q i L w:=by
 unfold qEz at a
 split at a
 .rename_i ha
  simp only[kZ,Prod.mk.injEq] at a
  obtain⟨z,o,rfl,rfl,rfl⟩:=a
  exact bA hi (rH c _ ha l (fun _=>rG o _) f g k (qAk xs) h)
 cases a
def qEn(P:Program)(ops:Array Oper)(L:bL)(i:Nat)(c:List Value):Option (Nat×Nat×Value):=
 match cD ops L i with
 |some (some d,.load t x)=>match bM L x with
  |some (.pointer (some ⟨b,o,none⟩))=>(oM P t (c.drop o)).map fun v=>(d,b,v)
  |_=>none
 |_=>none
theorem bF{e:TypeId}{b:Nat}{c:Array Value}{f:Nat×Nat}(d:Nat)(v:Value)(k:Piece.holds m w (.blk b (.cells c e f)))(h:WO P n ops Q (i+1) ((d,v)::L) w)
  (a:qEn P ops L i c.toList=some (d,b,v):=by kernel_rfl) (g:Nat.blt d n=true:=by exact rfl) (hi:Nat.blt i ops.size=true:=by exact rfl):WO P n ops Q i L w:=by
 unfold qEn at a
 split at a
 .rename_i ha
  split at a
  .rename_i hb
   simp only[kZ,Prod.mk.injEq] at a
   obtain⟨z,l,rfl,rfl,rfl⟩:=a
   exact bA hi (DB _ ha g hb k l h)
  cases a
 cases a
def qEa(P:Program)(ops:Array Oper)(L:bL)(i:Nat)(c:List Value):Option (Nat×Nat×Nat×Value):=
 match cD ops L i with
 |some (some d,.load t x)=>match bM L x with
  |some (.pointer (some ⟨b,o,none⟩))=>(oM P t c).map fun v=>(d,b,o,v)
  |_=>none
 |_=>none
theorem cI{b o:Nat}{cs:List Value}(d:Nat)(v:Value)(c:St m own w)(f:MRow m b o cs)(h:WO P n ops Q (i+1) ((d,v)::L) w)
  (a:qEa P ops L i cs=some (d,b,o,v):=by kernel_rfl) (e:Nat.blt d n=true:=by exact rfl) (hi:Nat.blt i ops.size=true:=by exact rfl):WO P n ops Q i L w:=by
 unfold qEa at a
 split at a
 .rename_i ha
  split at a
  .rename_i hb
   simp only[kZ,Prod.mk.injEq] at a
   obtain⟨z,g,rfl,rfl,rfl,rfl⟩:=a
   exact bA hi (VP _ ha e hb c f g h)
  cases a
 cases a
def UA(P:Program)(ops:Array Oper)(L:bL)(i:Nat)(c:Array Value):Option (Nat×Array Value):=
 match cD ops L i with
 |some (none,.store t x y)=>match bM L x with
  |some (.pointer (some ⟨b,o,none⟩))=>match bM L y with
   |some v=>bif xR P t v o c.size then some (b,(c.toList.take o++v.cells.toList++c.toList.drop (o+v.cells.toList.length)).toArray) else none
   |none=>none
  |_=>none
 |_=>none
theorem eJ{e:TypeId}{b:Nat}{c:Array Value}(c':Array Value)(d:St m (.blk b (.cells c e (0,0))::own) w)(h:∀w',St m (.blk b (.cells c' e (0,0))::own) w'->WO P n ops Q (i+1) L w')
  (a:UA P ops L i c=some (b,c'):=by kernel_rfl) (hi:Nat.blt i ops.size=true:=by exact rfl):WO P n ops Q i L w:=by
 unfold UA at a
 split at a
 .rename_i ha
  split at a
  .rename_i hb
   split at a
   .rename_i hv
    cases hk:xR P _ _ _ c.size with
    |true=>
     rw[hk,cond_true] at a
     simp only[jM,Prod.mk.injEq] at a
     obtain⟨rfl,f⟩:=a
     exact bA hi (LN ha hb hv d hk f h)
    |false=>rw[hk,cond_false] at a;cases a
   cases a
  cases a
 cases a
theorem cG{e:TypeId}{b:Nat}{c:Array Value}(v:Value)(a:St m (.blk b (.cells c e (0,0))::own) w)(h:∀w',St m (.blk b (.cells v.cells e (0,0))::own) w'->WO P n ops Q (i+1) L w')
 (d:UA P ops L i c=some (b,v.cells):=by kernel_rfl) (hi:Nat.blt i ops.size=true:=by exact rfl):WO P n ops Q i L w:=eJ v.cells a h d hi
def qEr(P:Program)(ops:Array Oper)(L:bL)(i:Nat):Option (Nat×Nat×Value):=
 match cD ops L i with
 |some (some d,.alloc e)=>(qDv P e).map fun v=>(d,e,v)
 |_=>none
theorem eQ(d e:Nat)(v:Value)(c:St m own w)(h:∀b w',St m (.blk b (.cells v.cells e (0,0))::own) w'->WO P n ops Q (i+1) ((d,.pointer (some ⟨b,0,none⟩))::L) w')
  (a:qEr P ops L i=some (d,e,v):=by kernel_rfl) (f:Nat.blt d n=true:=by exact rfl) (hi:Nat.blt i ops.size=true:=by exact rfl):WO P n ops Q i L w:=by
 unfold qEr at a
 split at a
 .rename_i ha
  simp only[kZ,Prod.mk.injEq] at a
  obtain⟨z,g,rfl,rfl,rfl⟩:=a
  exact bA hi (qMy _ ha f g c h)
 cases a
def qEw(ops:Array Oper)(L:bL)(i:Nat):Option (Nat×Nat×Value):=
 match cD ops L i with
 |some (some d,.box e x)=>(bM L x).map fun v=>(d,e,v)
 |_=>none
theorem mJ(d e:Nat)(v:Value)(c:St m own w)(h:∀b m' w',m.le m'->St m' own w'->MRow m' b 0 v.cells.toList->WO P n ops Q (i+1) ((d,.pointer (some ⟨b,0,none⟩))::L) w')
  (a:qEw ops L i=some (d,e,v):=by kernel_rfl) (f:Nat.blt d n=true:=by exact rfl) (hi:Nat.blt i ops.size=true:=by exact rfl):WO P n ops Q i L w:=by
 unfold qEw at a
 split at a
 .rename_i ha
  simp only[kZ,Prod.mk.injEq] at a
  obtain⟨z,g,rfl,rfl,rfl⟩:=a
  exact bA hi (qQq _ ha f g c h)
 cases a
def qEk(P:Program)(ops:Array Oper)(L:bL)(i:Nat):Option (Nat×BA×Int):=
 match cD ops L i with
 |some (some d,.index t x y)=>match bM L x with
  |some (.string s)=>match bM L y with
   |some (.int .i64 z)=>match P.underlying t with
    |some .string=>some (d,s,z)
    |_=>none
   |_=>none
  |_=>none
 |_=>none
theorem lC{α:Type}{k:UInt8->Option α}{r:α}{s:BA}{ix:Int}(d:Nat)(f:(eU s ix).bind k=some r)(h:∀z:UInt8,k z=some r->WO P n ops Q (i+1) ((d,.int .u8 (z.toNat:Int))::L) w)
  (a:qEk P ops L i=some (d,s,ix):=by kernel_rfl) (e:Nat.blt d n=true:=by exact rfl) (hi:Nat.blt i ops.size=true:=by exact rfl):WO P n ops Q i L w:=by
 obtain⟨z,b,c⟩:=aZ f
 unfold qEk at a
 split at a
 .rename_i ha
  split at a
  .rename_i hb
   split at a
   .rename_i hc
    split at a
    .rename_i hu
     cases a
     exact bA hi (qJc (k:= .i64) ha e hb hc hu b (h z c))
    cases a
   cases a
  cases a
 cases a
def qEl(ops:Array Oper)(L:bL)(i:Nat):Option (Nat×BA×BA):=
 match cD ops L i with
 |some (some d,.binOp .add _ x y _)=>match bM L x with
  |some (.string s)=>match bM L y with
   |some (.string z)=>some (d,s,z)
   |_=>none
  |_=>none
 |_=>none
theorem iC{α:Type}{k:BA->Option α}{r:α}{a b:BA}(d:Nat)(l:(cA a b).bind k=some r)(h:∀s,k s=some r->WO P n ops Q (i+1) ((d,.string s)::L) w)
  (c:qEl ops L i=some (d,a,b):=by kernel_rfl) (g:Nat.blt d n=true:=by exact rfl) (hi:Nat.blt i ops.size=true:=by exact rfl):WO P n ops Q i L w:=by
 obtain⟨z,e,f⟩:=aZ l
 unfold qEl at c
 split at c
 .rename_i ha
  split at c
  .rename_i hb
   split at c
   .rename_i hc
    cases c
    exact bA hi (qSp ha g hb hc e (h z f))
   cases c
  cases c
 cases c
def qEm(P:Program)(ops:Array Oper)(L:bL)(i:Nat):Option (Nat×Value×Int×Nat):=
 match cD ops L i with
 |some (some d,.indexAddr t x y)=>match bM L x with
  |some v=>match bM L y with
   |some (.int .i64 z)=>(pB P t).map fun q=>(d,v,z,q.2)
   |_=>none
  |_=>none
 |_=>none
theorem iK{α β:Type}{c:Codec α}{a:Option Addr}{cap:Nat}{l:List α}{ix:Int}{k:α->Option β}{r:β}(d:Nat)(g:RepS c m a cap l)(x:(idx l ix).bind k=some r)
  (h:∀z,k z=some r->∀b o cs,c.rep m z cs->MRow m b o cs->WO P n ops Q (i+1) ((d,.pointer (some ⟨b,o,none⟩))::L) w)
  (f:qEm P ops L i=some (d,.slice a l.length cap,ix,c.sz):=by kernel_rfl) (u:Nat.blt d n=true:=by exact rfl) (hi:Nat.blt i ops.size=true:=by exact rfl):WO P n ops Q i L w:=by
 obtain⟨z,q,t⟩:=aZ x
 unfold qEm at f
 split at f
 .rename_i ha
  split at f
  .rename_i hb
   split at f
   .rename_i hc
    simp only[kZ,Prod.mk.injEq] at f
    obtain⟨⟨e,s⟩,v,rfl,rfl,rfl,p⟩:=f
    simp only at p
    subst p
    exact bA hi (qMb (k:= .i64) c ha u hb hc v g q (h z t))
   cases f
  cases f
 cases f
theorem lR{α β:Type}{c:Codec α}{a:Option Addr}{cap:Nat}{l k:List α}{v:Value}{f:List α->Option β}{r:β}(d t u e by_:Nat)(x y:Operand)(g:St m (.room a l.length cap e c.sz::own) w)(B:yG P u e)(b:RepS c m a cap l)(p:Gives P c m v k)(A:(cU by_ l k).bind f=some r)
 (h:∀z,f z=some r->∀a' cap' m' w',m.le m'->St m' (.room a' (List.length z) cap' e c.sz::own) w'->RepS c m' a' cap' z->WO P n ops Q (i+1) ((d,.slice a' (List.length z) cap')::L) w')
 (s:cD ops L i=some (some d,.call {callee:= .builtin .append,args:= #[x,y],argTypes:= #[t,u]}):=by kernel_rfl) (o:Nat.blt d n=true:=by exact rfl) (D:bM L x=some (.slice a l.length cap):=by kernel_rfl) (E:bM L y=some v:=by kernel_rfl)
 (hi:xO P t=some (e,c.sz,by_,c.sz):=by kernel_rfl) (q:Nat.blt i ops.size=true:=by exact rfl):WO P n ops Q i L w:=bA q (DT d t u e by_ x y g B b p A h s o D E hi)
theorem aK{α β:Type}{f:Nat}{args:Array Value}{x:Option β}{k:β->Option α}{r:α}{T:β->Ending->World->Prop}(d:Nat)(g:x.bind k=some r)(a:∀{y},x=some y->Calls P f args w (T y))
  (h:∀y,k y=some r->∀e w',T y e w'->GoOn (fun v=>WO P n ops Q (i+1) ((d,v)::L) w') e) (c:tT P ops L i=some (some d,f,args):=by kernel_rfl) (b:Nat.blt d n=true:=by exact rfl) (hi:Nat.blt i ops.size=true:=by exact rfl):WO P n ops Q i L w:=
 qTa d g (fun _=>a) h c b hi
theorem cY{α β:Type}{f:Nat}{args:Array Value}{x:Option β}{k:β->Option α}{r:α}{T:β->Ending->World->Prop}(d:Nat)(g:x.bind k=some r)(a:∀{y},x=some y->Calls P f args w (T y))
  (h:∀y,k y=some r->∀e w',T y e w'->GoOnF (fun v=>WO P n ops Q (i+1) ((d,v)::L) w') (fun ch=>X n Q (.panic ch) L w') e) (c:tT P ops L i=some (some d,f,args):=by kernel_rfl) (b:Nat.blt d n=true:=by exact rfl) (hi:Nat.blt i ops.size=true:=by exact rfl):WO P n ops Q i L w:=
 qQt d g (fun _=>a) h c b hi
theorem aD{id:Nat}{y:Code}(k:Nat)(new:bL)(h:W none P n y Q (new++L) w)(a:AQ P n ops k 0 L (new.map (·.1))=some (new.map fun p=>some p.2):=by kernel_rfl)
 (b:wC L new (eF ops k 0)=true:=by kernel_rfl) (hi:ops.size=0+k:=by exact rfl):W none P n (.seq (.region id ops false) y) Q L w:=aC (aF k new h a b hi)
theorem aS{id:Nat}{y:Code}(k:Nat)(new:bL)(h:WO P n ops (Exit.then (fun a w=>y.wpIn (nY none) 0 P Q a w) Q) (0+k) (new++L) w)(b:AQ P n ops k 0 L (new.map (·.1))=some (new.map fun p=>some p.2):=by kernel_rfl)
 (c:wC L new (eF ops k 0)=true:=by kernel_rfl):W none P n (.seq (.region id ops false) y) Q L w:=aC (aA k new h b c)
theorem dX{σ β:Type}{f:σ->Option (σ⊕β)}{k:Nat}{s:σ}{b:β}(h:aJ f (k+1) s=some b):∃c,f s=some c/\(∀s',.inl s'=c->aJ f k s'=some b)/\(∀b',.inr b'=c->b'=b):=by
 obtain⟨c,a,d,g⟩:=qKw h
 exact⟨c,a,fun s' e=>d s' e.symm,fun b' e=>g b' e.symm⟩
theorem cT{k:Nat}{I:Nat->bL->World->Prop}(h:I k L w):X n (Exit.then (fun a' w'=>∃k' L',k'<k+1/\Fits n a' L'/\I k' L' w') Q) .normal L w:=qRz k (Nat.lt_succ_self k) h
theorem cJ{α β:Type}{x:Option α}{f:α->Option β}{b:β}{c:Code}(e:Exit)(k:x.bind f=some b)(I:α->bL->World->Prop)(d:∀o,f o=some b->∀L' w',I o L' w'->X n Q e L' w')
  (a:∀o,x=some o->(∀L' w',I o L' w'->X n Q e L' w')->W ρ P n c Q L w):W ρ P n c Q L w:=by
 obtain⟨o,g,h⟩:=aZ k
 exact a o g (d o h)
theorem eM{α β:Type}{x:Option α}{f:α->Option β}{b:β}(j:Nat)(g:x.bind f=some b)(I:α->bL->World->Prop)(a:∀o,f o=some b->∀L' w',I o L' w'->WO P n ops Q j L' w')
  (c:∀o,x=some o->(∀L' w',I o L' w'->WO P n ops Q j L' w')->WO P n ops Q i L w):WO P n ops Q i L w:=by
 obtain⟨o,d,e⟩:=aZ g
 exact c o d (a o e)
class RetQ(P:outParam Program)(Q:Exit->Act->World->Prop)(fn:outParam Func)(R:outParam (Ending->World->Prop)):Prop where
 out:∀a w,bodyPost P fn R .ret a w->Q .ret a w
instance rq1{fn:Func}{R:Ending->World->Prop}:RetQ P (bodyPost P fn R) fn R:=⟨fun _ _ h=>h⟩
instance rq2{fn:Func}{R:Ending->World->Prop}{K:Act->World->Prop}[h:RetQ P Q fn R]:RetQ P (Exit.then K Q) fn R:=⟨h.out⟩
instance rq3{fn:Func}{R:Ending->World->Prop}{id:Nat}[h:RetQ P Q fn R]:RetQ P (Exit.inBlock id Q) fn R:=⟨h.out⟩
theorem lP{k:Nat}{fn:Func}{R:Ending->World->Prop}[hq:RetQ P Q fn R]{b e:Nat}{c:Array Value}{f:Nat×Nat}(s t:Nat)(ts:List Nat)(vs:List Value)(n:Piece.holds m w (.blk b (.cells c e f)))(h:R (.returned (wE (.agg c::vs))) w)
  (l:fn.results=(ResultVar.cell s t::ts.map ResultVar.tmp).toArray:=by exact rfl) (p:look L s=some (.pointer (some ⟨b,0,none⟩)):=by kernel_rfl) (q:oM P t c.toList=some (.agg c):=by kernel_rfl) (d:ts.map (look L)=vs.map some:=by kernel_rfl):X ⟨k,[]⟩ Q .ret L w:=by
 refine fun a g=>hq.out a w (AW (ResultVar.cell s t::ts.map .tmp) (.agg c::vs) l (ResAll.cons (ResAt.blk (o:=0) p n (by simpa using q)) ?_) h a g)
 clear l h p q n g hq
 induction ts generalizing vs with
 |nil=>cases vs with
  |nil=>rfl
  |cons v vs=>cases d
 |cons t ts r=>cases vs with
  |nil=>cases d
  |cons v vs=>
   rw[kG,kG,gF] at d
   exact ResAll.cons (ResAt.tmp d.1) (r vs d.2)
end
end
end Go.Dc
namespace Go.Proofs.YthiiggmmmoolbaaGreatDoor
section
open Go Go.Dc
abbrev T5:=Option Int
abbrev T6:=List Int
abbrev T7:=T6×Int
abbrev T8:=BA
abbrev T9:=List T8
abbrev Ta:=Option T9
abbrev Tb:=T7×T8
abbrev Tc:=Option Tb
abbrev Td:=Option (Int⊕Unit⊕Bool)
abbrev Te:=Option Bool
abbrev Tf:=Option T8
abbrev Tg:=T8×Int×T7
abbrev Th:=T8×T7
abbrev Ti:=T8×T9×Int×T7
abbrev Tj:=T8×Int
abbrev Tk:=Int×Int
abbrev Tl:=Int×T8×Tk
abbrev Tm:=Tl×Tk
abbrev Tn:=List Tl
abbrev To:=Tn×Int
abbrev Tp:=Tn×Tk
abbrev Tq:=Int×Int×Int×T8×T6
abbrev Tr:=List Tq
abbrev Ts:=Tn×Int×Int×Int×T9×Tr×T6
abbrev Tt:=Ts×Tl
abbrev Tu:=Ts×Bool
abbrev Tv:=Option (Bool×Ts)
abbrev Tw:=Option Ts
abbrev Tx:=Ts×T8
abbrev Ty:=Int×T8×T9×Tr
abbrev Tz:=List Ty
abbrev nD:=T8×T9×Tz
abbrev pK:=Ts×Int
abbrev eZ:=Option pK
abbrev JY:=T6×Ts
abbrev rT:=Int×Ts
abbrev T15:=rT⊕rT
abbrev T16:=rT⊕T15
abbrev tJ:=Tn×Int×Int×Int×T9×Tr×T6×T9
abbrev T18:=Ts×Ty
abbrev T19:=Tn×Int×Int×Int×T9×Tr×T7
abbrev JR:=Tn×Int×Int×Int×T9×Tr×T6×Tz
abbrev T1b:=nD×Tk
abbrev wW:=Int×T8
abbrev rD:=List UInt8
abbrev oB:=Option (List Tk)
abbrev nE:=List wW
abbrev BI:=Int×T9
abbrev JL:=T8×BI
abbrev rV:=Int×T6
abbrev JI:=T9×Int
abbrev qH:=(Bool×rD)×Tr×JI
abbrev yP:=Option qH
abbrev JS:=Bool×rD×Tr×JI
abbrev EZ:=Int×JS
abbrev bI:=Tn×Int×T9×Tr
abbrev wY:=bI×Tl
abbrev JU:=Tk⊕bI
abbrev T1r:=bI⊕JU
abbrev BK:=Tk⊕wY
abbrev FE:=Unit⊕BK
abbrev vG:=T9×bI
abbrev T1v:=Tk⊕bI×T9
abbrev T1w:=Unit⊕vG⊕vG⊕T1v
abbrev pI:=bI×Int
abbrev oU:=Tk⊕pI
abbrev eP:=Option oU
abbrev yO:=Unit⊕oU
abbrev T21:=bI×T6
abbrev JG:=Tk⊕T21
abbrev sM:=Option JG
abbrev BJ:=T6×bI
abbrev T25:=Int×Int×T8×BJ⊕oU
abbrev T26:=Unit⊕T25
abbrev T27:=Tn×Int×T9×Tr×Tl
abbrev BH:=Tk⊕bI×Ty
abbrev FB:=Unit⊕BH
abbrev JT:=Tn×Int×T9×Tr×T9
abbrev T2b:=Tk⊕bI×nD
abbrev JZ:=JT⊕JT⊕T2b
abbrev JN:=Tn×Int×T9×Tr×Tz
abbrev C1:=aT .i64
abbrev C2:=tD C1 (tD aH (tD C1 C1))
abbrev C3:=tD C1 (tD C1 (tD C1 (tD aH (EX C1))))
abbrev C4:=tD C1 (tD aH (tD (EX aH) (EX C3)))
abbrev C5:=tD C1 aH
abbrev vS{α:Type}(a:Option Addr)(l:List α)(c:Nat):Value:= .slice a (List.length l) c
abbrev vP(b o:Nat):Value:= .pointer (some ⟨b,o,none⟩)
abbrev vI(x:Int):Value:= .int .i64 x
abbrev vT(s:BA):Value:= .string s
abbrev vB(b:Bool):Value:= .bool b
abbrev eB:BA:=⟨#[]⟩
abbrev aP(b:Nat):Option Addr:=some ⟨b,0,none⟩
abbrev kB(b:Nat)(c:Array Value)(e:Nat):Piece:= .blk b (.cells c e (0,0))
abbrev kR{α:Type}(a:Option Addr)(l:List α)(c e s:Nat):Piece:= .room a (List.length l) c e s
abbrev V1{α0:Type}(p:List α0×Int)(a0:Option Addr)(c0:Nat):Array Value:= #[vS a0 p.1 c0,vI p.2]
abbrev V2(p:Int×BA×Int×Int):Array Value:= #[vI p.1,vT p.2.1,vI p.2.2.1,vI p.2.2.2]
abbrev V3(x0:Int)(x1:BA)(x2:Int)(x3:Int):Array Value:= #[vI x0,vT x1,vI x2,vI x3]
abbrev V4{α0:Type}{α4:Type}{α5:Type}{α6:Type}(p:List α0×Int×Int×Int×List α4×List α5×List α6)(a0:Option Addr)(c0:Nat)(a4:Option Addr)(c4:Nat)(a5:Option Addr)(c5:Nat)(a6:Option Addr)(c6:Nat):Array Value:= #[vS a0 p.1 c0,vI p.2.1,vI p.2.2.1,vI p.2.2.2.1,vS a4 p.2.2.2.2.1 c4,vS a5 p.2.2.2.2.2.1 c5,vS a6 p.2.2.2.2.2.2 c6]
abbrev V5{α0:Type}{α4:Type}{α5:Type}{α6:Type}(a0:Option Addr)(l0:List α0)(c0:Nat)(x1:Int)(x2:Int)(x3:Int)(a4:Option Addr)(l4:List α4)(c4:Nat)(a5:Option Addr)(l5:List α5)(c5:Nat)(a6:Option Addr)(l6:List α6)(c6:Nat):Array Value:= #[vS a0 l0 c0,vI x1,vI x2,vI x3,vS a4 l4 c4,vS a5 l5 c5,vS a6 l6 c6]
abbrev V6{α1:Type}{α2:Type}(p:BA×List α1×List α2)(a1:Option Addr)(c1:Nat)(a2:Option Addr)(c2:Nat):Array Value:= #[vT p.1,vS a1 p.2.1 c1,vS a2 p.2.2 c2]
abbrev V7{α2:Type}{α3:Type}(p:Int×BA×List α2×List α3)(a2:Option Addr)(c2:Nat)(a3:Option Addr)(c3:Nat):Array Value:= #[vI p.1,vT p.2.1,vS a2 p.2.2.1 c2,vS a3 p.2.2.2 c3]
abbrev V8{α4:Type}(p:Int×Int×Int×BA×List α4)(a4:Option Addr)(c4:Nat):Array Value:= #[vI p.1,vI p.2.1,vI p.2.2.1,vT p.2.2.2.1,vS a4 p.2.2.2.2 c4]
abbrev V9{α4:Type}(p:Int×Int×Int×BA×List α4)(a4:Option Addr)(c4:Nat):List Value:=[vI p.1,vI p.2.1,vI p.2.2.1,vT p.2.2.2.1,vS a4 p.2.2.2.2 c4]
abbrev Va{α2:Type}{α3:Type}(p:Int×BA×List α2×List α3)(a2:Option Addr)(c2:Nat)(a3:Option Addr)(c3:Nat):List Value:=[vI p.1,vT p.2.1,vS a2 p.2.2.1 c2,vS a3 p.2.2.2 c3]
abbrev Vb(p:Int×BA):Array Value:= #[vI p.1,vT p.2]
abbrev Vc{α0:Type}{α2:Type}{α3:Type}(p:List α0×Int×List α2×List α3)(a0:Option Addr)(c0:Nat)(a2:Option Addr)(c2:Nat)(a3:Option Addr)(c3:Nat):Array Value:= #[vS a0 p.1 c0,vI p.2.1,vS a2 p.2.2.1 c2,vS a3 p.2.2.2 c3]
abbrev Vd(p:Int×Int):Array Value:= #[vI p.1,vI p.2]
abbrev ba:BA:=⟨#[112]⟩
abbrev bb:BA:=⟨#[97,46,100,97,116]⟩
abbrev bc:BA:=⟨#[100,47,98,46,100,97,116]⟩
abbrev bd:BA:=⟨#[97,46,115,114,99]⟩
abbrev be:BA:=⟨#[120,46,115,114,99]⟩
abbrev bf:BA:=⟨#[48,49,50,51,52,53,54,55,56,57]⟩
abbrev bg:BA:=⟨#[102]⟩
abbrev bh:BA:=⟨#[34,41]⟩
abbrev bi:BA:=⟨#[40]⟩
abbrev bj:BA:=⟨#[41]⟩
abbrev bk:BA:=⟨#[43]⟩
abbrev bl:BA:=⟨#[45]⟩
abbrev bm:BA:=⟨#[42]⟩
abbrev bn:BA:=⟨#[47]⟩
abbrev bo:BA:=⟨#[37]⟩
abbrev bp:BA:=⟨#[60]⟩
abbrev bq:BA:=⟨#[61,61]⟩
abbrev br:BA:=⟨#[102,117,110,99]⟩
abbrev bs:BA:=⟨#[34]⟩
abbrev bt:BA:=⟨#[112,97,99,107,97,103,101]⟩
abbrev bu:BA:=⟨#[105,109,112,111,114,116]⟩
abbrev bv:BA:=⟨#[116,101,115,116]⟩
abbrev bw:BA:=⟨#[103,101,110]⟩
abbrev bx:BA:=⟨#[105,102]⟩
abbrev bz:BA:=⟨#[116,104,101,110]⟩
abbrev b16:BA:=⟨#[101,108,115,101]⟩
abbrev b17:BA:=⟨#[114,101,97,100]⟩
abbrev b18:BA:=⟨#[115,105,122,101]⟩
abbrev b19:BA:=⟨#[104,97,115]⟩
abbrev b1a:BA:=⟨#[101,110,118]⟩
abbrev b1b:BA:=⟨#[102,108,105,112]⟩
abbrev JM:BA:=⟨#[97,98,99,100,101,102,103,104,105,106,107,108,109,110,111,112,113,114,115,116,117,118,119,120,121,122]⟩
abbrev JF:BA:=⟨#[95]⟩
abbrev JH:BA:=⟨#[46]⟩
abbrev JQ:BA:=⟨#[9,10,13,32]⟩
abbrev JP:BA:=⟨#[35]⟩
abbrev JK:BA:=⟨#[59,44,40,41,43,45,42,47,37,60,61]⟩
abbrev wU:BA:=⟨#[105,102,32]⟩
abbrev wX:BA:=⟨#[32,116,104,101,110,32]⟩
abbrev wV:BA:=⟨#[32,101,108,115,101,32]⟩
abbrev b1l:BA:=⟨#[44,32]⟩
abbrev P1{X1:Type}{X2:Type}{X3:Type}(m:Mem)(a0:Option Addr)(c0:Nat)(a1:Option Addr)(c1:Nat)(a2:Option Addr)(c2:Nat)(a3:Option Addr)(c3:Nat)(p:(List ((Int)×((BA)×((Int)×(Int)))))×((X3)×((X2)×((X1)×((List (BA))×((List ((Int)×((Int)×((Int)×((BA)×(List (Int)))))))×(List (Int)))))))):Prop:=RepS C2 m a0 c0 p.1/\RepS aH m a1 c1 p.2.2.2.2.1/\RepS C3 m a2 c2 p.2.2.2.2.2.1/\RepS (aT .i64) m a3 c3 p.2.2.2.2.2.2
abbrev P2(m:Mem)(a0:Option Addr)(c0:Nat)(a1:Option Addr)(c1:Nat)(p:(List (BA))×(List ((Int)×((Int)×((Int)×((BA)×(List (Int)))))))):Prop:=RepS aH m a0 c0 p.1/\RepS C3 m a1 c1 p.2
abbrev P3{X1:Type}{X2:Type}{X3:Type}{X4:Type}(m:Mem)(a0:Option Addr)(c0:Nat)(a1:Option Addr)(c1:Nat)(a2:Option Addr)(c2:Nat)(a3:Option Addr)(c3:Nat)(p:(List ((Int)×((BA)×((Int)×(Int)))))×((X4)×((X3)×((X2)×((List (BA))×((List ((Int)×((Int)×((Int)×((BA)×(List (Int)))))))×((List (Int))×(X1)))))))):Prop:=RepS C2 m a0 c0 p.1/\RepS aH m a1 c1 p.2.2.2.2.1/\RepS C3 m a2 c2 p.2.2.2.2.2.1/\RepS (aT .i64) m a3 c3 p.2.2.2.2.2.2.1
abbrev P4{X1:Type}{X2:Type}{X3:Type}(m:Mem)(a0:Option Addr)(c0:Nat)(a1:Option Addr)(c1:Nat)(a2:Option Addr)(c2:Nat)(a3:Option Addr)(c3:Nat)(a4:Option Addr)(c4:Nat)(p:(List ((Int)×((BA)×((Int)×(Int)))))×((X3)×((X2)×((X1)×((List (BA))×((List ((Int)×((Int)×((Int)×((BA)×(List (Int)))))))×((List (Int))×(List (BA))))))))):Prop:=RepS C2 m a0 c0 p.1/\RepS aH m a1 c1 p.2.2.2.2.1/\RepS C3 m a2 c2 p.2.2.2.2.2.1/\RepS (aT .i64) m a3 c3 p.2.2.2.2.2.2.1/\RepS aH m a4 c4 p.2.2.2.2.2.2.2
abbrev P5(m:Mem)(a0:Option Addr)(c0:Nat)(a1:Option Addr)(c1:Nat)(p:(List (BA))×(List ((Int)×((BA)×((List (BA))×(List ((Int)×((Int)×((Int)×((BA)×(List (Int)))))))))))):Prop:=RepS aH m a0 c0 p.1/\RepS C4 m a1 c1 p.2
abbrev P6{X1:Type}{X2:Type}(m:Mem)(a0:Option Addr)(c0:Nat)(a1:Option Addr)(c1:Nat)(a2:Option Addr)(c2:Nat)(p:((X1)×(List (UInt8)))×((List ((Int)×((Int)×((Int)×((BA)×(List (Int)))))))×((List (BA))×(X2)))):Prop:=RepS mM m a0 c0 p.1.2/\RepS C3 m a1 c1 p.2.1/\RepS aH m a2 c2 p.2.2.1
abbrev P7{X1:Type}(m:Mem)(a0:Option Addr)(c0:Nat)(a1:Option Addr)(c1:Nat)(a2:Option Addr)(c2:Nat)(p:(List ((Int)×((BA)×((Int)×(Int)))))×((X1)×((List (BA))×(List ((Int)×((Int)×((Int)×((BA)×(List (Int)))))))))):Prop:=RepS C2 m a0 c0 p.1/\RepS aH m a1 c1 p.2.2.1/\RepS C3 m a2 c2 p.2.2.2
abbrev P8{X1:Type}(m:Mem)(a0:Option Addr)(c0:Nat)(a1:Option Addr)(c1:Nat)(a2:Option Addr)(c2:Nat)(a3:Option Addr)(c3:Nat)(p:((List ((Int)×((BA)×((Int)×(Int)))))×((X1)×((List (BA))×(List ((Int)×((Int)×((Int)×((BA)×(List (Int))))))))))×(List (Int))):Prop:=RepS C2 m a0 c0 p.1.1/\RepS aH m a1 c1 p.1.2.2.1/\RepS C3 m a2 c2 p.1.2.2.2/\RepS (aT .i64) m a3 c3 p.2
abbrev P9{X1:Type}(m:Mem)(a0:Option Addr)(c0:Nat)(a1:Option Addr)(c1:Nat)(a2:Option Addr)(c2:Nat)(a3:Option Addr)(c3:Nat)(p:(List (Int))×((List ((Int)×((BA)×((Int)×(Int)))))×((X1)×((List (BA))×(List ((Int)×((Int)×((Int)×((BA)×(List (Int))))))))))):Prop:=RepS (aT .i64) m a0 c0 p.1/\RepS C2 m a1 c1 p.2.1/\RepS aH m a2 c2 p.2.2.2.1/\RepS C3 m a3 c3 p.2.2.2.2
abbrev _root_.Go.Dc.St.f1:=@Go.Dc.St.front1
abbrev _root_.Go.Dc.St.f2:=@Go.Dc.St.front2
abbrev _root_.Go.Dc.St.f3:=@Go.Dc.St.front3
abbrev _root_.Go.Dc.St.f4:=@Go.Dc.St.front4
abbrev _root_.Go.Dc.St.f5:=@Go.Dc.St.front5
abbrev _root_.Go.Dc.St.f6:=@Go.Dc.St.front6
abbrev _root_.Go.Dc.St.f7:=@Go.Dc.St.front7
abbrev _root_.Go.Dc.St.f9:=@Go.Dc.St.front9
abbrev _root_.Go.Dc.St.h:=@Go.Dc.St.head
abbrev _root_.Go.Dc.St.t:=@Go.Dc.St.tail
abbrev wr(x:Int):Int:=IntKind.wrap .i64 x
abbrev v1:Value:=vS none ([]:T9) 0
abbrev v6:Value:=vS none ([]:Tn) 0
abbrev v7:Value:= .slice none 0 0
abbrev v8:Value:=vS none ([]:T6) 0
abbrev va:Value:=vS none ([]:Tr) 0
abbrev vb:Value:=vS none ([]:Tz) 0
abbrev vc:Value:=vS none ([]:rD) 0
end
end Go.Proofs.YthiiggmmmoolbaaGreatDoor
